
import Derived.Test.YthadlbjoiidkjaaGreatDoorFaFn
import Derived.Test.YthadlbjoiidkjaaGreatDoorDwLe

set_option maxRecDepth 100000
set_option maxHeartbeats 4000000
namespace Go.Dw.Fa
open Go.Dw
noncomputable section
def fH:Nat:=600
def ec(a0:(List Int)):Option (Int):=
  (jC (iB a0) fH 0).bind fun o7=>match o7 with| .inl _=>(some 0)| .inr r9=>(some r9)
def eY(a0:ap)(a1:ap):Option (Int):=
  (bu a0.aM a1.aM).bind fun x1=>(bu a0.aN a1.aN).bind fun x2=>(bu a0.ac a1.ac).bind fun x3=>(bu a0.aO a1.aO).bind fun x4=>(ec [x1,x2,x3,x4]).bind fun x5=>some x5
def dD(a0:ae)(a1:ae):Option (Int):=
  (eY a0.ar a1.ar).bind fun x1=>(bi a0.aL a1.aL).bind fun x2=>(bi a0.aY a1.aY).bind fun x3=>(bi a0.bh a1.bh).bind fun x4=>(bi a0.aF a1.aF).bind fun x5=>(bi a0.aH a1.aH).bind fun x6=>(ec [x1,x2,x3,x4,x5,x6]).bind fun x7=>some x7
def ef(a0:(List ae)):Int->Option (iN (Int) ((Unit)⊕(Bool))):=fun s1=>
  if(decide (s1<(a0.length:Int)))=true then((ja a0 (IntKind.wrap .i64 (s1-1))).bind fun x4=>(ja a0 s1).bind fun x5=>(dD x4 x5).bind fun x6=>if(decide (x6>=0))=true then(some (.stop (.inr false)))else(some (.next (IntKind.wrap .i64 (s1+1)))))else(some (.stop (.inl ())))
def ed(a0:(List ae)):Option (Bool):=
  (jC (ef a0) fH 1).bind fun o9=>match o9 with| .inl _=>(some true)| .inr r11=>(some r11)
def c8(a0:ae)(a1:ae):Option (Int):=
  (bi a0.aL a1.aL).bind fun x1=>(dD a0 a1).bind fun x2=>(ec [x1,x2]).bind fun x3=>some x3
def bH(a0:(List ae)):(Int×(List UInt8)×(List UInt8)×(List UInt8)×(List UInt8)×Int×Int×Int×Int×Int)->Option (iN (Int×(List UInt8)×(List UInt8)×(List UInt8)×(List UInt8)×Int×Int×Int×Int×Int) ((List UInt8)×(List UInt8)×(List UInt8)×(List UInt8)×Int×Int×Int×Int×Int)):=fun(s3,s4,s5,s6,s7,s8,s9,s10,s11,s12)=>
  if(decide (s3<(a0.length:Int)))=true then((ja a0 s3).bind fun x24=>(c8 x24 (ae.mk (ap.mk s4 s5 s6 s7) s8 s9 s10 s11 s12)).bind fun x25=>if(decide (x25<0))=true then((ja a0 s3).bind fun x27=>some (.next ((IntKind.wrap .i64 (s3+1)),x27.ar.aM,x27.ar.aN,x27.ar.ac,x27.ar.aO,x27.aL,x27.aY,x27.bh,x27.aF,x27.aH)))else(some (.next ((IntKind.wrap .i64 (s3+1)),s4,s5,s6,s7,s8,s9,s10,s11,s12))))else(some (.stop (s4,s5,s6,s7,s8,s9,s10,s11,s12)))
def cg(a0:(List ae)):Option (ae):=
  if(decide ((a0.length:Int)<1))=true then(none)else((ja a0 0).bind fun x2=>(jC (bH a0) fH (1,x2.ar.aM,x2.ar.aN,x2.ar.ac,x2.ar.aO,x2.aL,x2.aY,x2.bh,x2.aF,x2.aH)).bind fun o29=>some (ae.mk (ap.mk o29.1 o29.2.1 o29.2.2.1 o29.2.2.2.1) o29.2.2.2.2.1 o29.2.2.2.2.2.1 o29.2.2.2.2.2.2.1 o29.2.2.2.2.2.2.2.1 o29.2.2.2.2.2.2.2.2))
def fM(a0:(List ae)):Option (ae):=
  if((a0.length:Int)==0)=true then(some (ae.mk (ap.mk [] [] [] []) 0 0 0 0 0))else((cg a0).bind fun x2=>some x2)
def dh(a0:(List UInt8))(a1:Int)(a2:Int):Option (Bool):=
  (jC (dA a0) fH 0).bind fun o8=>match o8 with| .inl _=>(if(decide ((a0.length:Int)>=a1))=true then(some (decide ((a0.length:Int)<=a2)))else(some false))| .inr r10=>(some r10)
def dy(a0:ap):Option (Bool):=
  (dh a0.aM 1 2).bind fun x1=>if x1=true then((dh a0.aN 1 5).bind fun x3=>if x3=true then((dh a0.ac 0 2).bind fun x5=>if x5=true then(if((a0.ac.length:Int) != 1)=true then((dh a0.aO 3 3).bind fun x8=>some x8)else(some false))else(some false))else(some false))else(some false)
def cW(a0:ae):Option (Bool):=
  (dy a0.ar).bind fun x1=>if x1=true then(if(decide (a0.aY>=0))=true then(if(decide (a0.aY<=a0.aL))=true then(if(decide (a0.aL<=a0.bh))=true then(if(decide (a0.bh<=18014398509481984))=true then((fQ a0.aF 0 1073741823).bind fun x7=>if x7=true then((fQ a0.aH (-1) 1).bind fun x9=>some x9)else(some false))else(some false))else(some false))else(some false))else(some false))else(some false)
def ep(a0:ae):Option (Bool):=
  (cW a0).bind fun x1=>some (!x1)
def bM(a0:(List ae)):Int->Option (iN (Int) ((Unit)⊕(Int))):=fun s1=>
  if(decide (s1<(a0.length:Int)))=true then((ja a0 s1).bind fun x4=>(ep x4).bind fun x5=>if x5=true then(some (.stop (.inr s1)))else(some (.next (IntKind.wrap .i64 (s1+1)))))else(some (.stop (.inl ())))
def cf(a0:(List ae)):Option (Int):=
  (jC (bM a0) fH 0).bind fun o8=>match o8 with| .inl _=>(some (-1))| .inr r10=>(some r10)
def bK(a0:(List ae)):Option (Bool):=
  (cf a0).bind fun x1=>some (decide (x1>=0))
def cr(a0:(List Int)):Option (Int):=
  (jC (bC a0) fH 0).bind fun o8=>match o8 with| .inl _=>(some (-1))| .inr r10=>(some r10)
def bX(a0:(List Int)):Option (Bool):=
  (cr a0).bind fun x1=>some (decide (x1>=0))
def ff(a0:(List Int)):Option (Bool):=
  (bX a0).bind fun x1=>some (!x1)
def dH(a0:(List (List Int))):Option ((List Int)):=
  (jC (cd a0) fH (0,0)).bind fun o9=>(dg o9).bind fun x10=>(jC (bT a0) fH (0,x10)).bind fun o19=>some o19
def er(a0:au):Option ((List Int)):=
  (dl a0.ac.aP).bind fun x1=>(dl a0.ac.aD.aX).bind fun x2=>(dl a0.ac.aD.aJ).bind fun x3=>(dH [x1,[a0.ac.aL,a0.ac.aQ,a0.ac.bq],x2,x3,[a0.av.aX,a0.av.aJ,a0.bd]]).bind fun x4=>some x4
def fN(a0:ag):Option (Bool):=
  if(decide (a0.bg<0))=true then(some false)else(if(decide (a0.bg>=1000))=true then(some false)else(if(decide (a0.bk<1))=true then(some false)else(if(decide (a0.bk>3))=true then(some false)else(if(decide (a0.fID<0))=true then(some false)else(if(decide (a0.fID>a0.bg))=true then(some false)else(if(!((a0.fID==a0.bg)==(a0.bk==1)))=true then(some false)else(if(decide (a0.aW<0))=true then(some false)else(if(decide (a0.aW>8))=true then(some false)else(if(decide ((a0.aj.aa.aB.length:Int)>64))=true then(some false)else((cW a0.aj.aq).bind fun x11=>if(!x11)=true then(some false)else((bK a0.aj.aa.aB).bind fun x13=>if x13=true then(some false)else((ff [a0.fAt]).bind fun x15=>if x15=true then((er a0.aj.aa).bind fun x17=>(ff x17).bind fun x18=>some x18)else(some false)))))))))))))
def dR(a0:(List ag)):(Int×(List (Int×Bool)))->Option (iN (Int×(List (Int×Bool))) ((Unit)⊕(Bool))):=fun(s1,s2)=>
  if(decide (s1<(a0.length:Int)))=true then((ja a0 s1).bind fun x5=>(fN x5).bind fun x9=>if(!x9)=true then(some (.stop (.inr false)))else(if(x5.bg != s1)=true then(some (.stop (.inr false)))else(if(decide (s1>0))=true then((ja a0 (IntKind.wrap .i64 (s1-1))).bind fun x13=>if(decide (x5.fAt<x13.fAt))=true then(some (.stop (.inr false)))else(cj x5 s2 s1))else(cj x5 s2 s1))))else(some (.stop (.inl ())))
def f4(a0:(List ag)):Option (Bool):=
  (jC (dR a0) fH (0,([]:List (Int×Bool)))).bind fun o16=>match o16 with| .inl _=>(some true)| .inr r18=>(some r18)
def ex(a0:(List ae))(a1:(List ae)):Option (Bool):=
  if((a0.length:Int) != (a1.length:Int))=true then(some false)else((jC (cX a0 a1) fH 0).bind fun o9=>match o9 with| .inl _=>(some true)| .inr r11=>(some r11))
def gW(a0:au)(a1:au):Option (Bool):=
  (ex a0.aB a1.aB).bind fun x1=>if x1=true then(if(((a0.ac.aP.fX==a1.ac.aP.fX)&&((a0.ac.aP.fY==a1.ac.aP.fY)&&((a0.ac.aP.fZ==a1.ac.aP.fZ)&&true)))&&((a0.ac.aL==a1.ac.aL)&&((a0.ac.aQ==a1.ac.aQ)&&((a0.ac.bq==a1.ac.bq)&&((((a0.ac.aD.aX.fX==a1.ac.aD.aX.fX)&&((a0.ac.aD.aX.fY==a1.ac.aD.aX.fY)&&((a0.ac.aD.aX.fZ==a1.ac.aD.aX.fZ)&&true)))&&(((a0.ac.aD.aJ.fX==a1.ac.aD.aJ.fX)&&((a0.ac.aD.aJ.fY==a1.ac.aD.aJ.fY)&&((a0.ac.aD.aJ.fZ==a1.ac.aD.aJ.fZ)&&true)))&&true))&&true)))))=true then(if((a0.av.aX==a1.av.aX)&&((a0.av.aJ==a1.av.aJ)&&true))=true then(some (a0.bd==a1.bd))else(some false))else(some false))else(some false)
def ey(a0:ai)(a1:ai):Option (Bool):=
  if(((a0.aq.ar.aM==a1.aq.ar.aM)&&((a0.aq.ar.aN==a1.aq.ar.aN)&&((a0.aq.ar.ac==a1.aq.ar.ac)&&((a0.aq.ar.aO==a1.aq.ar.aO)&&true))))&&((a0.aq.aL==a1.aq.aL)&&((a0.aq.aY==a1.aq.aY)&&((a0.aq.bh==a1.aq.bh)&&((a0.aq.aF==a1.aq.aF)&&((a0.aq.aH==a1.aq.aH)&&true))))))=true then((gW a0.aa a1.aa).bind fun x2=>some x2)else(some false)
def eZ(a0:(List Int)):Option ((List (List UInt8))):=
  (jC (gw a0) fH (0,([]:(List (List UInt8))))).bind fun o10=>some o10
def fE(a0:ap):Option ((List UInt8)×Int):=
  (dy a0).bind fun x1=>if(!x1)=true then(some (([]:(List UInt8)),1))else((fO a0).bind fun x3=>(pc [x3.a0,x3.a1,x3.a2,x3.a3] ([46]:List UInt8)).bind fun x4=>some (x4,0))
def cG(a0:(List Int))(d1:(List (List UInt8))):Option ((List (List UInt8))):=
  (jC (cp a0) fH (0,d1)).bind fun o11=>some o11
def fi(a0:ae)(d1:(List (List UInt8))):Option ((List (List UInt8))):=
  (fE a0.ar).bind fun x1=>(lh d1 [x1.1] 16).bind fun x2=>(cG [a0.aL,a0.aY,a0.bh,a0.aF,a0.aH] x2).bind fun x3=>some x3
def ej(a0:ag):(Int×(List (List UInt8)))->Option (iN (Int×(List (List UInt8))) ((List (List UInt8)))):=fun(s6,s7)=>
  if(decide (s6<(a0.aj.aa.aB.length:Int)))=true then((ja a0.aj.aa.aB s6).bind fun x11=>(fi x11 s7).bind fun x12=>some (.next ((IntKind.wrap .i64 (s6+1)),x12)))else(some (.stop s7))
def dL(a0:ag):Option ((List UInt8)×Int):=
  (fN a0).bind fun x1=>if(!x1)=true then(some (([]:(List UInt8)),1))else((eZ [a0.bg,a0.bk,a0.fID,a0.fAt,a0.aW]).bind fun x3=>(fi a0.aj.aq x3).bind fun x4=>(cG [(a0.aj.aa.aB.length:Int)] x4).bind fun x5=>(jC (ej a0) fH (0,x5)).bind fun o14=>(er a0.aj.aa).bind fun x15=>(cG x15 o14).bind fun x16=>(pc x16 ([32]:List UInt8)).bind fun x17=>some (x17,0))
def gg(a0:(List UInt8)):Option (ap×Int):=
  (nW a0 ([46]:List UInt8)).bind fun x1=>if((x1.length:Int) != 4)=true then(some ((ap.mk [] [] [] []),3))else((ja x1 0).bind fun x3=>(ja x1 1).bind fun x4=>(ja x1 2).bind fun x5=>(ja x1 3).bind fun x6=>(dy (ap.mk x3 x4 x5 x6)).bind fun x7=>if(!x7)=true then(some ((ap.mk [] [] [] []),3))else(some ((ap.mk x3 x4 x5 x6),0)))
def fh(d0:az):Option (ae×az):=
  (d8 d0).bind fun x1=>(gg x1.1).bind fun x2=>if x1.2.fbad=true then((aG (az.mk x1.2.bJ true)).bind fun x4=>(aG x4.2).bind fun x5=>(aG x5.2).bind fun x6=>(aG x6.2).bind fun x7=>(aG x7.2).bind fun x8=>some ((ae.mk x2.1 x4.1 x5.1 x6.1 x7.1 x8.1),x8.2))else((aG (az.mk x1.2.bJ (x2.2 != 0))).bind fun x9=>(aG x9.2).bind fun x10=>(aG x10.2).bind fun x11=>(aG x11.2).bind fun x12=>(aG x12.2).bind fun x13=>some ((ae.mk x2.1 x9.1 x10.1 x11.1 x12.1 x13.1),x13.2))
def ei:(Int×(List (List UInt8))×Bool×(List ae))->Option (iN (Int×(List (List UInt8))×Bool×(List ae)) ((List (List UInt8))×Bool×(List ae))):=fun(s9,s10,s11,s12)=>
  if(decide (s9>0))=true then(if(!s11)=true then((fh (az.mk s10 s11)).bind fun x19=>(lh s12 [x19.1] 104).bind fun x20=>some (.next ((IntKind.wrap .i64 (s9-1)),x19.2.bJ,x19.2.fbad,x20)))else(some (.stop (s10,s11,s12))))else(some (.stop (s10,s11,s12)))
def dK(a0:(List UInt8)):Option (ag×Int):=
  (nW a0 ([32]:List UInt8)).bind fun x1=>(aG (az.mk x1 false)).bind fun x2=>(aG x2.2).bind fun x3=>(aG x3.2).bind fun x4=>(aG x4.2).bind fun x5=>(aG x5.2).bind fun x6=>(fh x6.2).bind fun x7=>(aG x7.2).bind fun x8=>(jC (ei) fH (x8.1,x8.2.bJ,x8.2.fbad,([]:(List ae)))).bind fun o22=>(ck (az.mk o22.1 o22.2.1)).bind fun x23=>(aG x23.2).bind fun x24=>(aG x24.2).bind fun x25=>(aG x25.2).bind fun x26=>(ck x26.2).bind fun x27=>(ck x27.2).bind fun x28=>(aG x28.2).bind fun x29=>(aG x29.2).bind fun x30=>(aG x30.2).bind fun x31=>if x31.2.fbad=true then(some ((ag.mk 0 0 0 0 0 (ai.mk (ae.mk (ap.mk [] [] [] []) 0 0 0 0 0) (au.mk [] (aA.mk (ah.mk 0 0 0) 0 0 0 (aS.mk (ah.mk 0 0 0) (ah.mk 0 0 0))) (aw.mk 0 0) 0))),3))else(if(decide ((x31.2.bJ.length:Int)>0))=true then(some ((ag.mk 0 0 0 0 0 (ai.mk (ae.mk (ap.mk [] [] [] []) 0 0 0 0 0) (au.mk [] (aA.mk (ah.mk 0 0 0) 0 0 0 (aS.mk (ah.mk 0 0 0) (ah.mk 0 0 0))) (aw.mk 0 0) 0))),3))else((dL (ag.mk x2.1 x3.1 x4.1 x5.1 x6.1 (ai.mk x7.1 (au.mk o22.2.2 (aA.mk x23.1 x24.1 x25.1 x26.1 (aS.mk x27.1 x28.1)) (aw.mk x29.1 x30.1) x31.1)))).bind fun x34=>if(x34.2 != 0)=true then(some ((ag.mk 0 0 0 0 0 (ai.mk (ae.mk (ap.mk [] [] [] []) 0 0 0 0 0) (au.mk [] (aA.mk (ah.mk 0 0 0) 0 0 0 (aS.mk (ah.mk 0 0 0) (ah.mk 0 0 0))) (aw.mk 0 0) 0))),3))else(if(!(x34.1==a0))=true then(some ((ag.mk 0 0 0 0 0 (ai.mk (ae.mk (ap.mk [] [] [] []) 0 0 0 0 0) (au.mk [] (aA.mk (ah.mk 0 0 0) 0 0 0 (aS.mk (ah.mk 0 0 0) (ah.mk 0 0 0))) (aw.mk 0 0) 0))),3))else(some ((ag.mk x2.1 x3.1 x4.1 x5.1 x6.1 (ai.mk x7.1 (au.mk o22.2.2 (aA.mk x23.1 x24.1 x25.1 x26.1 (aS.mk x27.1 x28.1)) (aw.mk x29.1 x30.1) x31.1))),0)))))
def dv(a0:ag)(a1:ag):Option (Bool):=
  if(a0.bg==a1.bg)=true then(if(a0.bk==a1.bk)=true then(if(a0.fID==a1.fID)=true then(if(a0.fAt==a1.fAt)=true then(if(a0.aW==a1.aW)=true then((ey a0.aj a1.aj).bind fun x6=>some x6)else(some false))else(some false))else(some false))else(some false))else(some false)
def em(a0:(List ba)):(Int×(List (Int×ag)))->Option (iN (Int×(List (Int×ag))) ((List (Int×ag)))):=fun(s1,s2)=>
  if(decide (s1<(a0.length:Int)))=true then((ja a0 s1).bind fun x6=>if(ky (fun a b=>a==b) x6.cM s2)=true then(some (.next ((IntKind.wrap .i64 (s1+1)),s2)))else((dK x6.fData).bind fun x8=>if(x8.2==0)=true then(if(x8.1.bg==x6.cM)=true then(some (.next ((IntKind.wrap .i64 (s1+1)),(kg (fun a b=>a==b) x6.cM x8.1 s2))))else(some (.next ((IntKind.wrap .i64 (s1+1)),s2))))else(some (.next ((IntKind.wrap .i64 (s1+1)),s2)))))else(some (.stop s2))
def gz(a0:(List ba)):Option ((List ag)):=
  (jC (em a0) fH (0,([]:List (Int×ag)))).bind fun o12=>(jC (hP o12) fH (0,([]:(List ag)))).bind fun o19=>some o19
def gB:Option (Bool):=
  (cO 0).bind fun x1=>(dL x1).bind fun x2=>(cO 2).bind fun x3=>(dL x3).bind fun x4=>(dK x2.1).bind fun x5=>(catO x2.1 [32]).bind fun x6=>(dK x6).bind fun x7=>if(x2.2==0)=true then(if(x4.2==0)=true then(if(x5.2==0)=true then((cO 0).bind fun x11=>(dv x5.1 x11).bind fun x12=>if x12=true then(if(x7.2==3)=true then((gz [(ba.mk 2 0 x4.1),(ba.mk 0 0 x2.1)]).bind fun x15=>if((x15.length:Int)==1)=true then((cO 0).bind fun x17=>(cO 1).bind fun x18=>(f4 [x17,x18]).bind fun x19=>some x19)else(some false))else(some false))else(some false))else(some false))else(some false))else(some false)
instance :∀a0,LeC (ec a0) (eN a0):=fun _=>⟨by unfold ec eN;exact jf⟩
instance :∀a0 a1,LeC (eY a0 a1) (eB a0 a1):=fun _ _=>⟨by unfold eY eB;exact jf⟩
instance :∀a0 a1,LeC (dD a0 a1) (dt a0 a1):=fun _ _=>⟨by unfold dD dt;exact jf⟩
instance :∀a0 s,LeC (ef a0 s) (fy a0 s):=fun _ _=>⟨by unfold ef fy;(try dsimp only);exact jf⟩
instance :∀a0,LeC (ed a0) (dC a0):=fun _=>⟨by unfold ed dC;exact jf⟩
theorem event_sorted_le(a0:(List ae)):Le (ed a0) (dC a0):=LeC.le
instance :∀a0 a1,LeC (c8 a0 a1) (cH a0 a1):=fun _ _=>⟨by unfold c8 cH;exact jf⟩
theorem event_Compare_le(a0:ae)(a1:ae):Le (c8 a0 a1) (cH a0 a1):=LeC.le
instance :∀a0 s,LeC (bH a0 s) (bQ a0 s):=fun _ _=>⟨by unfold bH bQ;(try dsimp only);exact jf⟩
instance :∀a0,LeC (cg a0) (bG a0):=fun _=>⟨by unfold cg bG;exact jf⟩
instance :∀a0,LeC (fM a0) (eP a0):=fun _=>⟨by unfold fM eP;exact jf⟩
theorem event_name_le(a0:(List ae)):Le (fM a0) (eP a0):=LeC.le
instance :∀a0 a1 a2,LeC (dh a0 a1 a2) (cE a0 a1 a2):=fun _ _ _=>⟨by unfold dh cE;exact jf⟩
instance :∀a0,LeC (dy a0) (ct a0):=fun _=>⟨by unfold dy ct;exact jf⟩
instance :∀a0,LeC (cW a0) (bV a0):=fun _=>⟨by unfold cW bV;exact jf⟩
instance :∀a0,LeC (ep a0) (de a0):=fun _=>⟨by unfold ep de;exact jf⟩
instance :∀a0 s,LeC (bM a0 s) (bt a0 s):=fun _ _=>⟨by unfold bM bt;(try dsimp only);exact jf⟩
instance :∀a0,LeC (cf a0) (bz a0):=fun _=>⟨by unfold cf bz;exact jf⟩
instance :∀a0,LeC (bK a0) (bj a0):=fun _=>⟨by unfold bK bj;exact jf⟩
instance :∀a0,LeC (cr a0) (bB a0):=fun _=>⟨by unfold cr bB;exact jf⟩
instance :∀a0,LeC (bX a0) (bv a0):=fun _=>⟨by unfold bX bv;exact jf⟩
instance :∀a0,LeC (ff a0) (dm a0):=fun _=>⟨by unfold ff dm;exact jf⟩
instance :∀a0,LeC (dH a0) (ch a0):=fun _=>⟨by unfold dH ch;exact jf⟩
instance :∀a0,LeC (er a0) (cU a0):=fun _=>⟨by unfold er cU;exact jf⟩
instance :∀a0,LeC (fN a0) (dS a0):=fun _=>⟨by unfold fN dS;exact jf⟩
instance :∀a0 s,LeC (dR a0 s) (bU a0 s):=fun _ _=>⟨by unfold dR bU;(try dsimp only);exact jf⟩
instance :∀a0,LeC (f4 a0) (cC a0):=fun _=>⟨by unfold f4 cC;exact jf⟩
instance :∀a0 a1,LeC (ex a0 a1) (cB a0 a1):=fun _ _=>⟨by unfold ex cB;exact jf⟩
instance :∀a0 a1,LeC (gW a0 a1) (eT a0 a1):=fun _ _=>⟨by unfold gW eT;exact jf⟩
instance :∀a0 a1,LeC (ey a0 a1) (bO a0 a1):=fun _ _=>⟨by unfold ey bO;exact jf⟩
instance :∀a0,LeC (eZ a0) (cP a0):=fun _=>⟨by unfold eZ cP;exact jf⟩
instance :∀a0,LeC (fE a0) (cJ a0):=fun _=>⟨by unfold fE cJ;exact jf⟩
instance :∀a0 d1,LeC (cG a0 d1) (bD a0 d1):=fun _ _=>⟨by unfold cG bD;exact jf⟩
instance :∀a0 d1,LeC (fi a0 d1) (dB a0 d1):=fun _ _=>⟨by unfold fi dB;exact jf⟩
instance :∀a0 s,LeC (ej a0 s) (cA a0 s):=fun _ _=>⟨by unfold ej cA;(try dsimp only);exact jf⟩
instance :∀a0,LeC (dL a0) (cQ a0):=fun _=>⟨by unfold dL cQ;exact jf⟩
instance :∀a0,LeC (gg a0) (cZ a0):=fun _=>⟨by unfold gg cZ;exact jf⟩
instance :∀d0,LeC (fh d0) (du d0):=fun _=>⟨by unfold fh du;exact jf⟩
instance :∀s,LeC (ei s) (cz s):=fun _=>⟨by unfold ei cz;(try dsimp only);exact jf⟩
instance :∀a0,LeC (dK a0) (dX a0):=fun _=>⟨by unfold dK dX;exact jf⟩
instance :∀a0 a1,LeC (dv a0 a1) (bW a0 a1):=fun _ _=>⟨by unfold dv bW;exact jf⟩
instance :∀a0 s,LeC (em a0 s) (fC a0 s):=fun _ _=>⟨by unfold em fC;(try dsimp only);exact jf⟩
instance :∀a0,LeC (gz a0) (gm a0):=fun _=>⟨by unfold gz gm;exact jf⟩
instance :LeC (gB ) (d7 ):=⟨by unfold gB d7;exact jf⟩
theorem law37_awake_le:Le (gB ) (d7 ):=LeC.le
end
end Go.Dw.Fa
