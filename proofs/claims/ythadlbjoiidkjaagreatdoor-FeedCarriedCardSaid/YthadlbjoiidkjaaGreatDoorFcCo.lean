
import Derived.Test.YthadlbjoiidkjaaGreatDoorFcFn
import Derived.Test.YthadlbjoiidkjaaGreatDoorDwLe

set_option maxRecDepth 100000
set_option maxHeartbeats 4000000
namespace Go.Dw.Fc
open Go.Dw
def jc:Nat:=600
def oT(a0:Int)(a1:Int):Option (Int):=
  if(decide (a1<1))=true then(some 0)else((remO a0 a1).bind fun x2=>if(decide (x2<0))=true then(some (IntKind.wrap .i64 (x2+a1)))else(some x2))
def lJ(a0:Int):Option (au):=
  (oT a0 6).bind fun x1=>(pH [[83,49],[83,50],[83,51],[83,52],[83,53],[83,54]] x1).bind fun x2=>some (au.mk [65,66] x2 [48,48] [66,72,90])
def fS(a0:(List ag))(a1:(List ag)):Int->Option (oJ (Int) ((Unit)⊕(Bool))):=fun s2=>
  if(decide (s2<(a0.length:Int)))=true then((pH a0 s2).bind fun x5=>(pH a1 s2).bind fun x6=>if(!(((x5.ar.aT==x6.ar.aT)&&((x5.ar.aU==x6.ar.aU)&&((x5.ar.ac==x6.ar.ac)&&((x5.ar.aS==x6.ar.aS)&&true))))&&((x5.aP==x6.aP)&&((x5.aZ==x6.aZ)&&((x5.bg==x6.bg)&&((x5.aI==x6.aI)&&((x5.aL==x6.aL)&&true)))))))=true then(some (.stop (.inr false)))else(some (.next (IntKind.wrap .i64 (s2+1)))))else(some (.stop (.inl ())))
def iA(a0:(List ag))(a1:(List ag)):Option (Bool):=
  if((a0.length:Int) != (a1.length:Int))=true then(some false)else((qb (fS a0 a1) jc 0).bind fun o9=>match o9 with| .inl _=>(some true)| .inr r11=>(some r11))
def kZ(a0:Int):Option (Bool):=
  if(decide (a0>=65))=true then(if(decide (a0<=90))=true then(some true)else(if(decide (a0>=48))=true then(some (decide (a0<=57)))else(some false)))else(if(decide (a0>=48))=true then(some (decide (a0<=57)))else(some false))
def jt(a0:(List UInt8)):Int->Option (oJ (Int) ((Unit)⊕(Bool))):=fun s1=>
  if(decide (s1<(a0.length:Int)))=true then((uY a0 s1).bind fun x4=>(kZ x4).bind fun x5=>if(!x5)=true then(some (.stop (.inr false)))else(some (.next (IntKind.wrap .i64 (s1+1)))))else(some (.stop (.inl ())))
def fw(a0:(List UInt8))(a1:Int)(a2:Int):Option (Bool):=
  (qb (jt a0) jc 0).bind fun o8=>match o8 with| .inl _=>(if(decide ((a0.length:Int)>=a1))=true then(some (decide ((a0.length:Int)<=a2)))else(some false))| .inr r10=>(some r10)
def eP(a0:au):Option (Bool):=
  (fw a0.aT 1 2).bind fun x1=>if x1=true then((fw a0.aU 1 5).bind fun x3=>if x3=true then((fw a0.ac 0 2).bind fun x5=>if x5=true then(if((a0.ac.length:Int) != 1)=true then((fw a0.aS 3 3).bind fun x8=>some x8)else(some false))else(some false))else(some false))else(some false)
def lf(a0:Int)(a1:Int)(a2:Int):Option (Bool):=
  if(decide (a0>=a1))=true then(some (decide (a0<=a2)))else(some false)
def dB(a0:ag):Option (Bool):=
  (eP a0.ar).bind fun x1=>if x1=true then(if(decide (a0.aZ>=0))=true then(if(decide (a0.aZ<=a0.aP))=true then(if(decide (a0.aP<=a0.bg))=true then(if(decide (a0.bg<=18014398509481984))=true then((lf a0.aI 0 1073741823).bind fun x7=>if x7=true then((lf a0.aL (-1) 1).bind fun x9=>some x9)else(some false))else(some false))else(some false))else(some false))else(some false))else(some false)
def fH(a0:ag):Option (Bool):=
  (dB a0).bind fun x1=>some (!x1)
def cQ(a0:(List ag)):Int->Option (oJ (Int) ((Unit)⊕(Int))):=fun s1=>
  if(decide (s1<(a0.length:Int)))=true then((pH a0 s1).bind fun x4=>(fH x4).bind fun x5=>if x5=true then(some (.stop (.inr s1)))else(some (.next (IntKind.wrap .i64 (s1+1)))))else(some (.stop (.inl ())))
def dj(a0:(List ag)):Option (Int):=
  (qb (cQ a0) jc 0).bind fun o8=>match o8 with| .inl _=>(some (-1))| .inr r10=>(some r10)
def cO(a0:(List ag)):Option (Bool):=
  (dj a0).bind fun x1=>some (decide (x1>=0))
def gT(a0:Int):Option (Bool):=
  if(decide (a0<(-1152921504606846976)))=true then(some true)else(some (decide (a0>1152921504606846976)))
def c6(a0:(List Int)):Int->Option (oJ (Int) ((Unit)⊕(Int))):=fun s1=>
  if(decide (s1<(a0.length:Int)))=true then((pH a0 s1).bind fun x4=>(gT x4).bind fun x5=>if x5=true then(some (.stop (.inr s1)))else(some (.next (IntKind.wrap .i64 (s1+1)))))else(some (.stop (.inl ())))
def dv(a0:(List Int)):Option (Int):=
  (qb (c6 a0) jc 0).bind fun o8=>match o8 with| .inl _=>(some (-1))| .inr r10=>(some r10)
def cX(a0:(List Int)):Option (Bool):=
  (dv a0).bind fun x1=>some (decide (x1>=0))
def fq(a0:(List Int)):Option (Bool):=
  (cX a0).bind fun x1=>some (!x1)
def eb(a0:ai):Option ((List Int)):=
  some [a0.fX,a0.fY,a0.fZ]
def ek(j2:(List Int)):Option ((List Int)):=
  some j2
def iP(a0:Int):Option ((List Int)):=
  if(decide (a0<0))=true then(none)else(if(decide ((IntKind.wrap .i64 (a0-0))>0))=true then((mkZ (IntKind.wrap .i64 (a0-0)) 0 8).bind fun x5=>(wN x5.length 0 0).bind fun _=>ek (x5.take (0:Int).toNat))else(ek ([]:List Int)))
def fc(a0:(List (List Int))):(Int×Int)->Option (oJ (Int×Int) (Int)):=fun(s1,s2)=>
  if(decide (s2<(a0.length:Int)))=true then((pH a0 s2).bind fun x6=>if(decide ((IntKind.wrap .i64 (s1+(x6.length:Int)))<0))=true then(none)else(some (.next ((IntKind.wrap .i64 (s1+(x6.length:Int))),(IntKind.wrap .i64 (s2+1))))))else(some (.stop s1))
def eO(a0:(List (List Int))):(Int×(List Int))->Option (oJ (Int×(List Int)) ((List Int))):=fun(s11,s12)=>
  if(decide (s11<(a0.length:Int)))=true then((pH a0 s11).bind fun x16=>(qq s12 x16 8).bind fun x17=>some (.next ((IntKind.wrap .i64 (s11+1)),x17)))else(some (.stop s12))
def eE(a0:(List (List Int))):Option ((List Int)):=
  (qb (fc a0) jc (0,0)).bind fun o9=>(iP o9).bind fun x10=>(qb (eO a0) jc (0,x10)).bind fun o19=>some o19
def ip(a0:az):Option ((List Int)):=
  (eb a0.ac.aO).bind fun x1=>(eb a0.ac.aF.aW).bind fun x2=>(eb a0.ac.aF.aN).bind fun x3=>(eE [x1,[a0.ac.aP,a0.ac.bc,a0.ac.bu],x2,x3,[a0.aA.aW,a0.aA.aN,a0.bn]]).bind fun x4=>some x4
def kj(a0:aj):Option (Bool):=
  if(decide (a0.bv<0))=true then(some false)else(if(decide (a0.bv>=1000))=true then(some false)else(if(decide (a0.bX<1))=true then(some false)else(if(decide (a0.bX>3))=true then(some false)else(if(decide (a0.fID<0))=true then(some false)else(if(decide (a0.fID>a0.bv))=true then(some false)else(if(!((a0.fID==a0.bv)==(a0.bX==1)))=true then(some false)else(if(decide (a0.bw<0))=true then(some false)else(if(decide (a0.bw>8))=true then(some false)else(if(decide ((a0.ah.aa.aX.length:Int)>64))=true then(some false)else((dB a0.ah.ap).bind fun x11=>if(!x11)=true then(some false)else((cO a0.ah.aa.aX).bind fun x13=>if x13=true then(some false)else((fq [a0.fAt]).bind fun x15=>if x15=true then((ip a0.ah.aa).bind fun x17=>(fq x17).bind fun x18=>some x18)else(some false)))))))))))))
def gu(a0:(List Int)):(Int×(List (List UInt8)))->Option (oJ (Int×(List (List UInt8))) ((List (List UInt8)))):=fun(s1,s2)=>
  if(decide (s1<(a0.length:Int)))=true then((pH a0 s1).bind fun x5=>(u7 x5).bind fun x6=>(qq s2 [x6] 16).bind fun x7=>some (.next ((IntKind.wrap .i64 (s1+1)),x7)))else((some s2).bind fun z8=>some (.stop z8))
def gj(a0:(List Int)):Option ((List (List UInt8))):=
  (qb (gu a0) jc (0,([]:(List (List UInt8))))).bind fun o10=>some o10
def kY(a0:au):Option (ca):=
  some (ca.mk a0.aT a0.aU a0.ac a0.aS)
def gM(a0:au):Option ((List UInt8)×Int):=
  (eP a0).bind fun x1=>if(!x1)=true then(some (([]:(List UInt8)),1))else((kY a0).bind fun x3=>(u9 [x3.a0,x3.a1,x3.a2,x3.a3] ([46]:List UInt8)).bind fun x4=>some (x4,0))
def fF(a0:(List Int)):(Int×(List (List UInt8)))->Option (oJ (Int×(List (List UInt8))) ((List (List UInt8)))):=fun(s2,s3)=>
  if(decide (s2<(a0.length:Int)))=true then((pH a0 s2).bind fun x6=>(u7 x6).bind fun x7=>(qq s3 [x7] 16).bind fun x8=>some (.next ((IntKind.wrap .i64 (s2+1)),x8)))else((some s3).bind fun z9=>some (.stop z9))
def cE(a0:(List Int))(d1:(List (List UInt8))):Option ((List (List UInt8))):=
  (qb (fF a0) jc (0,d1)).bind fun o11=>some o11
def fx(a0:ag)(d1:(List (List UInt8))):Option ((List (List UInt8))):=
  (gM a0.ar).bind fun x1=>(qq d1 [x1.1] 16).bind fun x2=>(cE [a0.aP,a0.aZ,a0.bg,a0.aI,a0.aL] x2).bind fun x3=>some x3
def il(a0:aj):(Int×(List (List UInt8)))->Option (oJ (Int×(List (List UInt8))) ((List (List UInt8)))):=fun(s6,s7)=>
  if(decide (s6<(a0.ah.aa.aX.length:Int)))=true then((pH a0.ah.aa.aX s6).bind fun x11=>(fx x11 s7).bind fun x12=>some (.next ((IntKind.wrap .i64 (s6+1)),x12)))else(some (.stop s7))
def jx(a0:aj):Option ((List UInt8)×Int):=
  (kj a0).bind fun x1=>if(!x1)=true then(some (([]:(List UInt8)),1))else((gj [a0.bv,a0.bX,a0.fID,a0.fAt,a0.bw]).bind fun x3=>(fx a0.ah.ap x3).bind fun x4=>(cE [(a0.ah.aa.aX.length:Int)] x4).bind fun x5=>(qb (il a0) jc (0,x5)).bind fun o14=>(ip a0.ah.aa).bind fun x15=>(cE x15 o14).bind fun x16=>(u9 x16 ([32]:List UInt8)).bind fun x17=>some (x17,0))
def lT(a0:Int)(a1:Int)(a2:Int):Option (Bool):=
  if(decide (a0>=a1))=true then(some (decide (a0<=a2)))else(some false)
def kH(a1:Int):(Int×(List Int))->Option (oJ (Int×(List Int)) ((List Int))):=fun(s7,s8)=>
  if(decide (s7>=0))=true then((shrO .i64 a1 (IntKind.wrap .i64 (8*s7))).bind fun x12=>(qq s8 [(IntKind.wrap .u8 x12)] 1).bind fun x13=>some (.next ((IntKind.wrap .i64 (s7-1)),x13)))else(some (.stop s8))
def oK(a0:(List UInt8))(a1:Int)(a2:Int):Option ((List UInt8)×Int):=
  (lT a2 1 7).bind fun x1=>if(!x1)=true then(some (([]:(List UInt8)),2))else((shlO .i64 1 (IntKind.wrap .i64 (8*a2))).bind fun x3=>(lT a1 0 (IntKind.wrap .i64 (x3-1))).bind fun x4=>if(!x4)=true then(some (([]:(List UInt8)),2))else((bytO a0).bind fun b6=>(qb (kH a1) jc ((IntKind.wrap .i64 (a2-1)),b6)).bind fun o15=>some ((vH o15),0)))
def fW(a1:(List Int)):((List UInt8)×Int)->Option (oJ ((List UInt8)×Int) ((List UInt8))):=fun(s1,s2)=>
  if(decide (s2<(a1.length:Int)))=true then((pH a1 s2).bind fun x6=>(oK s1 x6 4).bind fun x7=>some (.next (x7.1,(IntKind.wrap .i64 (s2+1)))))else(some (.stop s1))
def fJ(a0:(List UInt8))(a1:(List Int)):Option ((List UInt8)):=
  (qb (fW a1) jc (a0,0)).bind fun o9=>some o9
def fO(a0:Int):Option (aj):=
  (lJ 0).bind fun x1=>some (aj.mk a0 1 a0 7 1 (av.mk (ag.mk x1 5 4 9 0 (-1)) (az.mk [(ag.mk x1 5 4 9 0 (-1))] (aD.mk (ai.mk 0 0 0) 0 0 0 (aY.mk (ai.mk 0 0 0) (ai.mk 0 0 0))) (aH.mk 0 0) 0)))
def jA(d0:aJ):Option ((List UInt8)×aJ):=
  if((d0.bZ.length:Int)==0)=true then(some (([]:(List UInt8)),(aJ.mk d0.bZ true)))else((pH d0.bZ 0).bind fun x2=>(si d0.bZ 1 (d0.bZ.length:Int)).bind fun x3=>some (x2,(aJ.mk x3 d0.oN)))
def bh(d0:aJ):Option (Int×aJ):=
  (jA d0).bind fun x1=>(xX x1.1).bind fun x2=>if x1.2.oN=true then(some (x2.1,(aJ.mk x1.2.bZ true)))else(if(!x2.2)=true then(some (x2.1,(aJ.mk x1.2.bZ true)))else((u7 x2.1).bind fun x5=>some (x2.1,(aJ.mk x1.2.bZ (!(x5==x1.1))))))
def iT(a0:(List UInt8)):Option (au×Int):=
  (wh a0 ([46]:List UInt8)).bind fun x1=>if((x1.length:Int) != 4)=true then(some ((au.mk [] [] [] []),3))else((pH x1 0).bind fun x3=>(pH x1 1).bind fun x4=>(pH x1 2).bind fun x5=>(pH x1 3).bind fun x6=>(eP (au.mk x3 x4 x5 x6)).bind fun x7=>if(!x7)=true then(some ((au.mk [] [] [] []),3))else(some ((au.mk x3 x4 x5 x6),0)))
def jz(d0:aJ):Option (ag×aJ):=
  (jA d0).bind fun x1=>(iT x1.1).bind fun x2=>if x1.2.oN=true then((bh (aJ.mk x1.2.bZ true)).bind fun x4=>(bh x4.2).bind fun x5=>(bh x5.2).bind fun x6=>(bh x6.2).bind fun x7=>(bh x7.2).bind fun x8=>some ((ag.mk x2.1 x4.1 x5.1 x6.1 x7.1 x8.1),x8.2))else((bh (aJ.mk x1.2.bZ (x2.2 != 0))).bind fun x9=>(bh x9.2).bind fun x10=>(bh x10.2).bind fun x11=>(bh x11.2).bind fun x12=>(bh x12.2).bind fun x13=>some ((ag.mk x2.1 x9.1 x10.1 x11.1 x12.1 x13.1),x13.2))
def ed(d0:aJ):Option (ai×aJ):=
  (bh d0).bind fun x1=>(bh x1.2).bind fun x2=>(bh x2.2).bind fun x3=>some ((ai.mk x1.1 x2.1 x3.1),x3.2)
def cC(d0:(List ag)):Int->Option (oJ (Int) ((Unit)⊕(Int×(List ag)))):=fun s1=>
  if(decide (s1<(d0.length:Int)))=true then((inO d0 s1).bind fun _=>(pH d0 s1).bind fun x6=>(fH x6).bind fun x7=>if x7=true then(some (.stop (.inr (s1,d0))))else(some (.next (IntKind.wrap .i64 (s1+1)))))else(some (.stop (.inl ())))
def de(d0:(List ag)):Option (Int×(List ag)):=
  (qb (cC d0) jc 0).bind fun o10=>match o10 with| .inl _=>(some ((-1),d0))| .inr r12=>(some r12)
def cB(d0:(List ag)):Option (Bool×(List ag)):=
  (de d0).bind fun x1=>some ((decide (x1.1>=0)),x1.2)
def gH(dq:Int)(dz:Int)(ez:Int)(dY:Int)(ep:Int)(er:Int)(eA:Int)(eB:Int)(eC:Int)(co:Int)(cp:Int)(cq:Int)(cu:Int)(mY:Int)(cm:Int)(d0:(List ag)):Option ((List Int)×(List ag)):=
  (eb (ai.mk dq dz ez)).bind fun x1=>(eb (ai.mk eA eB eC)).bind fun x2=>(eb (ai.mk co cp cq)).bind fun x3=>(eE [x1,[dY,ep,er],x2,x3,[cu,mY,cm]]).bind fun x4=>some (x4,d0)
def lI(fy:Int)(dq:Int)(dz:Int)(ez:Int)(dY:Int)(ep:(List UInt8))(er:(List UInt8))(eA:(List UInt8))(eB:(List UInt8))(eC:Int)(co:Int)(cp:Int)(cq:Int)(cu:Int)(cm:Int)(dH:Int)(dI:Int)(dJ:Int)(dK:Int)(dL:Int)(dM:Int)(dN:Int)(dO:Int)(dP:Int)(dQ:Int)(dR:Int)(dS:Int)(dU:Int)(dV:Int)(d0:(List ag)):Option (Bool×(List ag)):=
  if(decide (fy<0))=true then(some (false,d0))else(if(decide (fy>=1000))=true then(some (false,d0))else(if(decide (dq<1))=true then(some (false,d0))else(if(decide (dq>3))=true then(some (false,d0))else(if(decide (dz<0))=true then(some (false,d0))else(if(decide (dz>fy))=true then(some (false,d0))else(if(!((dz==fy)==(dq==1)))=true then(some (false,d0))else(if(decide (dY<0))=true then(some (false,d0))else(if(decide (dY>8))=true then(some (false,d0))else(if(decide ((d0.length:Int)>64))=true then(some (false,d0))else((dB (ag.mk (au.mk ep er eA eB) eC co cp cq cu)).bind fun x11=>if(!x11)=true then(some (false,d0))else((cB d0).bind fun x13=>if x13.1=true then(some (false,x13.2))else((fq [ez]).bind fun x15=>if x15=true then((gH cm dH dI dJ dK dL dM dN dO dP dQ dR dS dU dV x13.2).bind fun x17=>(fq x17.1).bind fun x18=>some (x18,x17.2))else(some (false,x13.2))))))))))))))
def gQ(x1:Bool×(List ag)):(Int×(List (List UInt8)))->Option (oJ (Int×(List (List UInt8))) ((List (List UInt8)))):=fun(s6,s7)=>
  if(decide (s6<(x1.2.length:Int)))=true then((inO x1.2 s6).bind fun _=>(pH x1.2 s6).bind fun x13=>(fx x13 s7).bind fun x14=>some (.next ((IntKind.wrap .i64 (s6+1)),x14)))else(some (.stop s7))
def kL(fy:Int)(dq:Int)(dz:Int)(ez:Int)(dY:Int)(ep:(List UInt8))(er:(List UInt8))(eA:(List UInt8))(eB:(List UInt8))(eC:Int)(co:Int)(cp:Int)(cq:Int)(cu:Int)(cm:Int)(dH:Int)(dI:Int)(dJ:Int)(dK:Int)(dL:Int)(dM:Int)(dN:Int)(dO:Int)(dP:Int)(dQ:Int)(dR:Int)(dS:Int)(dU:Int)(dV:Int)(d0:(List ag)):Option ((List UInt8)×Int×(List ag)):=
  (lI fy dq dz ez dY ep er eA eB eC co cp cq cu cm dH dI dJ dK dL dM dN dO dP dQ dR dS dU dV d0).bind fun x1=>if(!x1.1)=true then(some (([]:(List UInt8)),1,x1.2))else((gj [fy,dq,dz,ez,dY]).bind fun x3=>(fx (ag.mk (au.mk ep er eA eB) eC co cp cq cu) x3).bind fun x4=>(cE [(x1.2.length:Int)] x4).bind fun x5=>(qb (gQ x1) jc (0,x5)).bind fun o16=>(gH cm dH dI dJ dK dL dM dN dO dP dQ dR dS dU dV x1.2).bind fun x17=>(cE x17.1 o16).bind fun x18=>(u9 x18 ([32]:List UInt8)).bind fun x19=>some (x19,0,x17.2))
def ik:(Int×(List (List UInt8))×Bool×(List ag))->Option (oJ (Int×(List (List UInt8))×Bool×(List ag)) ((List (List UInt8))×Bool×(List ag))):=fun(s9,s10,s11,s12)=>
  if(decide (s9>0))=true then(if(!s11)=true then((jz (aJ.mk s10 s11)).bind fun x19=>(qq s12 [x19.1] 104).bind fun x20=>some (.next ((IntKind.wrap .i64 (s9-1)),x19.2.bZ,x19.2.oN,x20)))else(some (.stop (s10,s11,s12))))else(some (.stop (s10,s11,s12)))
def gy(a0:(List UInt8)):Option (aj×Int):=
  (wh a0 ([32]:List UInt8)).bind fun x1=>(bh (aJ.mk x1 false)).bind fun x2=>(bh x2.2).bind fun x3=>(bh x3.2).bind fun x4=>(bh x4.2).bind fun x5=>(bh x5.2).bind fun x6=>(jz x6.2).bind fun x7=>(bh x7.2).bind fun x8=>(qb (ik) jc (x8.1,x8.2.bZ,x8.2.oN,([]:(List ag)))).bind fun o22=>(ed (aJ.mk o22.1 o22.2.1)).bind fun x23=>(bh x23.2).bind fun x24=>(bh x24.2).bind fun x25=>(bh x25.2).bind fun x26=>(ed x26.2).bind fun x27=>(ed x27.2).bind fun x28=>(bh x28.2).bind fun x29=>(bh x29.2).bind fun x30=>(bh x30.2).bind fun x31=>if x31.2.oN=true then(some ((aj.mk 0 0 0 0 0 (av.mk (ag.mk (au.mk [] [] [] []) 0 0 0 0 0) (az.mk [] (aD.mk (ai.mk 0 0 0) 0 0 0 (aY.mk (ai.mk 0 0 0) (ai.mk 0 0 0))) (aH.mk 0 0) 0))),3))else(if(decide ((x31.2.bZ.length:Int)>0))=true then(some ((aj.mk 0 0 0 0 0 (av.mk (ag.mk (au.mk [] [] [] []) 0 0 0 0 0) (az.mk [] (aD.mk (ai.mk 0 0 0) 0 0 0 (aY.mk (ai.mk 0 0 0) (ai.mk 0 0 0))) (aH.mk 0 0) 0))),3))else((kL x2.1 x3.1 x4.1 x5.1 x6.1 x7.1.ar.aT x7.1.ar.aU x7.1.ar.ac x7.1.ar.aS x7.1.aP x7.1.aZ x7.1.bg x7.1.aI x7.1.aL x23.1.fX x23.1.fY x23.1.fZ x24.1 x25.1 x26.1 x27.1.fX x27.1.fY x27.1.fZ x28.1.fX x28.1.fY x28.1.fZ x29.1 x30.1 x31.1 o22.2.2).bind fun x34=>if(x34.2.1 != 0)=true then(some ((aj.mk 0 0 0 0 0 (av.mk (ag.mk (au.mk [] [] [] []) 0 0 0 0 0) (az.mk [] (aD.mk (ai.mk 0 0 0) 0 0 0 (aY.mk (ai.mk 0 0 0) (ai.mk 0 0 0))) (aH.mk 0 0) 0))),3))else(if(!(x34.1==a0))=true then(some ((aj.mk 0 0 0 0 0 (av.mk (ag.mk (au.mk [] [] [] []) 0 0 0 0 0) (az.mk [] (aD.mk (ai.mk 0 0 0) 0 0 0 (aY.mk (ai.mk 0 0 0) (ai.mk 0 0 0))) (aH.mk 0 0) 0))),3))else(some ((aj.mk x2.1 x3.1 x4.1 x5.1 x6.1 (av.mk x7.1 (az.mk x34.2.2 (aD.mk x23.1 x24.1 x25.1 x26.1 (aY.mk x27.1 x28.1)) (aH.mk x29.1 x30.1) x31.1))),0)))))
def mJ(a0:az)(a1:az):Option (Bool):=
  (iA a0.aX a1.aX).bind fun x1=>if x1=true then(if(((a0.ac.aO.fX==a1.ac.aO.fX)&&((a0.ac.aO.fY==a1.ac.aO.fY)&&((a0.ac.aO.fZ==a1.ac.aO.fZ)&&true)))&&((a0.ac.aP==a1.ac.aP)&&((a0.ac.bc==a1.ac.bc)&&((a0.ac.bu==a1.ac.bu)&&((((a0.ac.aF.aW.fX==a1.ac.aF.aW.fX)&&((a0.ac.aF.aW.fY==a1.ac.aF.aW.fY)&&((a0.ac.aF.aW.fZ==a1.ac.aF.aW.fZ)&&true)))&&(((a0.ac.aF.aN.fX==a1.ac.aF.aN.fX)&&((a0.ac.aF.aN.fY==a1.ac.aF.aN.fY)&&((a0.ac.aF.aN.fZ==a1.ac.aF.aN.fZ)&&true)))&&true))&&true)))))=true then(if((a0.aA.aW==a1.aA.aW)&&((a0.aA.aN==a1.aA.aN)&&true))=true then(some (a0.bn==a1.bn))else(some false))else(some false))else(some false)
def iE(a0:av)(a1:av):Option (Bool):=
  if(((a0.ap.ar.aT==a1.ap.ar.aT)&&((a0.ap.ar.aU==a1.ap.ar.aU)&&((a0.ap.ar.ac==a1.ap.ar.ac)&&((a0.ap.ar.aS==a1.ap.ar.aS)&&true))))&&((a0.ap.aP==a1.ap.aP)&&((a0.ap.aZ==a1.ap.aZ)&&((a0.ap.bg==a1.ap.bg)&&((a0.ap.aI==a1.ap.aI)&&((a0.ap.aL==a1.ap.aL)&&true))))))=true then((mJ a0.aa a1.aa).bind fun x2=>some x2)else(some false)
def fT(a0:aj)(a1:aj):Option (Bool):=
  if(a0.bv==a1.bv)=true then(if(a0.bX==a1.bX)=true then(if(a0.fID==a1.fID)=true then(if(a0.fAt==a1.fAt)=true then(if(a0.bw==a1.bw)=true then((iE a0.ah a1.ah).bind fun x6=>some x6)else(some false))else(some false))else(some false))else(some false))else(some false)
def im(a0:(List aB)):(Int×(List (Int×aj)))->Option (oJ (Int×(List (Int×aj))) ((List (Int×aj)))):=fun(s1,s2)=>
  if(decide (s1<(a0.length:Int)))=true then((pH a0 s1).bind fun x6=>if(ub (fun a b=>a==b) x6.da s2)=true then(some (.next ((IntKind.wrap .i64 (s1+1)),s2)))else((gy x6.ch).bind fun x8=>if(x8.2==0)=true then(if(x8.1.bv==x6.da)=true then(some (.next ((IntKind.wrap .i64 (s1+1)),(sZ (fun a b=>a==b) x6.da x8.1 s2))))else(some (.next ((IntKind.wrap .i64 (s1+1)),s2))))else(some (.next ((IntKind.wrap .i64 (s1+1)),s2)))))else(some (.stop s2))
def io(o12:(List (Int×aj))):(Int×(List aj))->Option (oJ (Int×(List aj)) ((List aj))):=fun(s13,s14)=>
  if(!(ub (fun a b=>a==b) s13 o12))=true then(some (.stop s14))else((qq s14 [(aj.mk ((pI (fun a b=>a==b) s13 (aj.mk 0 0 0 0 0 (av.mk (ag.mk (au.mk [] [] [] []) 0 0 0 0 0) (az.mk [] (aD.mk (ai.mk 0 0 0) 0 0 0 (aY.mk (ai.mk 0 0 0) (ai.mk 0 0 0))) (aH.mk 0 0) 0))) o12).bv) ((pI (fun a b=>a==b) s13 (aj.mk 0 0 0 0 0 (av.mk (ag.mk (au.mk [] [] [] []) 0 0 0 0 0) (az.mk [] (aD.mk (ai.mk 0 0 0) 0 0 0 (aY.mk (ai.mk 0 0 0) (ai.mk 0 0 0))) (aH.mk 0 0) 0))) o12).bX) ((pI (fun a b=>a==b) s13 (aj.mk 0 0 0 0 0 (av.mk (ag.mk (au.mk [] [] [] []) 0 0 0 0 0) (az.mk [] (aD.mk (ai.mk 0 0 0) 0 0 0 (aY.mk (ai.mk 0 0 0) (ai.mk 0 0 0))) (aH.mk 0 0) 0))) o12).fID) ((pI (fun a b=>a==b) s13 (aj.mk 0 0 0 0 0 (av.mk (ag.mk (au.mk [] [] [] []) 0 0 0 0 0) (az.mk [] (aD.mk (ai.mk 0 0 0) 0 0 0 (aY.mk (ai.mk 0 0 0) (ai.mk 0 0 0))) (aH.mk 0 0) 0))) o12).fAt) ((pI (fun a b=>a==b) s13 (aj.mk 0 0 0 0 0 (av.mk (ag.mk (au.mk [] [] [] []) 0 0 0 0 0) (az.mk [] (aD.mk (ai.mk 0 0 0) 0 0 0 (aY.mk (ai.mk 0 0 0) (ai.mk 0 0 0))) (aH.mk 0 0) 0))) o12).bw) (av.mk (ag.mk ((((pI (fun a b=>a==b) s13 (aj.mk 0 0 0 0 0 (av.mk (ag.mk (au.mk [] [] [] []) 0 0 0 0 0) (az.mk [] (aD.mk (ai.mk 0 0 0) 0 0 0 (aY.mk (ai.mk 0 0 0) (ai.mk 0 0 0))) (aH.mk 0 0) 0))) o12).ah).ap).ar) ((((pI (fun a b=>a==b) s13 (aj.mk 0 0 0 0 0 (av.mk (ag.mk (au.mk [] [] [] []) 0 0 0 0 0) (az.mk [] (aD.mk (ai.mk 0 0 0) 0 0 0 (aY.mk (ai.mk 0 0 0) (ai.mk 0 0 0))) (aH.mk 0 0) 0))) o12).ah).ap).aP) ((((pI (fun a b=>a==b) s13 (aj.mk 0 0 0 0 0 (av.mk (ag.mk (au.mk [] [] [] []) 0 0 0 0 0) (az.mk [] (aD.mk (ai.mk 0 0 0) 0 0 0 (aY.mk (ai.mk 0 0 0) (ai.mk 0 0 0))) (aH.mk 0 0) 0))) o12).ah).ap).aZ) ((((pI (fun a b=>a==b) s13 (aj.mk 0 0 0 0 0 (av.mk (ag.mk (au.mk [] [] [] []) 0 0 0 0 0) (az.mk [] (aD.mk (ai.mk 0 0 0) 0 0 0 (aY.mk (ai.mk 0 0 0) (ai.mk 0 0 0))) (aH.mk 0 0) 0))) o12).ah).ap).bg) ((((pI (fun a b=>a==b) s13 (aj.mk 0 0 0 0 0 (av.mk (ag.mk (au.mk [] [] [] []) 0 0 0 0 0) (az.mk [] (aD.mk (ai.mk 0 0 0) 0 0 0 (aY.mk (ai.mk 0 0 0) (ai.mk 0 0 0))) (aH.mk 0 0) 0))) o12).ah).ap).aI) ((((pI (fun a b=>a==b) s13 (aj.mk 0 0 0 0 0 (av.mk (ag.mk (au.mk [] [] [] []) 0 0 0 0 0) (az.mk [] (aD.mk (ai.mk 0 0 0) 0 0 0 (aY.mk (ai.mk 0 0 0) (ai.mk 0 0 0))) (aH.mk 0 0) 0))) o12).ah).ap).aL)) (az.mk ((((pI (fun a b=>a==b) s13 (aj.mk 0 0 0 0 0 (av.mk (ag.mk (au.mk [] [] [] []) 0 0 0 0 0) (az.mk [] (aD.mk (ai.mk 0 0 0) 0 0 0 (aY.mk (ai.mk 0 0 0) (ai.mk 0 0 0))) (aH.mk 0 0) 0))) o12).ah).aa).aX) (aD.mk (((((pI (fun a b=>a==b) s13 (aj.mk 0 0 0 0 0 (av.mk (ag.mk (au.mk [] [] [] []) 0 0 0 0 0) (az.mk [] (aD.mk (ai.mk 0 0 0) 0 0 0 (aY.mk (ai.mk 0 0 0) (ai.mk 0 0 0))) (aH.mk 0 0) 0))) o12).ah).aa).ac).aO) (((((pI (fun a b=>a==b) s13 (aj.mk 0 0 0 0 0 (av.mk (ag.mk (au.mk [] [] [] []) 0 0 0 0 0) (az.mk [] (aD.mk (ai.mk 0 0 0) 0 0 0 (aY.mk (ai.mk 0 0 0) (ai.mk 0 0 0))) (aH.mk 0 0) 0))) o12).ah).aa).ac).aP) (((((pI (fun a b=>a==b) s13 (aj.mk 0 0 0 0 0 (av.mk (ag.mk (au.mk [] [] [] []) 0 0 0 0 0) (az.mk [] (aD.mk (ai.mk 0 0 0) 0 0 0 (aY.mk (ai.mk 0 0 0) (ai.mk 0 0 0))) (aH.mk 0 0) 0))) o12).ah).aa).ac).bc) (((((pI (fun a b=>a==b) s13 (aj.mk 0 0 0 0 0 (av.mk (ag.mk (au.mk [] [] [] []) 0 0 0 0 0) (az.mk [] (aD.mk (ai.mk 0 0 0) 0 0 0 (aY.mk (ai.mk 0 0 0) (ai.mk 0 0 0))) (aH.mk 0 0) 0))) o12).ah).aa).ac).bu) (aY.mk ((((((pI (fun a b=>a==b) s13 (aj.mk 0 0 0 0 0 (av.mk (ag.mk (au.mk [] [] [] []) 0 0 0 0 0) (az.mk [] (aD.mk (ai.mk 0 0 0) 0 0 0 (aY.mk (ai.mk 0 0 0) (ai.mk 0 0 0))) (aH.mk 0 0) 0))) o12).ah).aa).ac).aF).aW) ((((((pI (fun a b=>a==b) s13 (aj.mk 0 0 0 0 0 (av.mk (ag.mk (au.mk [] [] [] []) 0 0 0 0 0) (az.mk [] (aD.mk (ai.mk 0 0 0) 0 0 0 (aY.mk (ai.mk 0 0 0) (ai.mk 0 0 0))) (aH.mk 0 0) 0))) o12).ah).aa).ac).aF).aN))) ((((pI (fun a b=>a==b) s13 (aj.mk 0 0 0 0 0 (av.mk (ag.mk (au.mk [] [] [] []) 0 0 0 0 0) (az.mk [] (aD.mk (ai.mk 0 0 0) 0 0 0 (aY.mk (ai.mk 0 0 0) (ai.mk 0 0 0))) (aH.mk 0 0) 0))) o12).ah).aa).aA) ((((pI (fun a b=>a==b) s13 (aj.mk 0 0 0 0 0 (av.mk (ag.mk (au.mk [] [] [] []) 0 0 0 0 0) (az.mk [] (aD.mk (ai.mk 0 0 0) 0 0 0 (aY.mk (ai.mk 0 0 0) (ai.mk 0 0 0))) (aH.mk 0 0) 0))) o12).ah).aa).bn))))] 288).bind fun x17=>some (.next ((IntKind.wrap .i64 (s13+1)),x17)))
def lH(a0:(List aB)):Option ((List aj)):=
  (qb (im a0) jc (0,([]:List (Int×aj)))).bind fun o12=>(qb (io o12) jc (0,([]:(List aj)))).bind fun o19=>some o19
def fG(x5:aj)(s2:(List (Int×Bool)))(s1:Int):Option (oJ (Int×(List (Int×Bool))) ((Unit)⊕(Bool))):=
  if(x5.bX != 1)=true then(if(!(pI (fun a b=>a==b) x5.fID false s2))=true then(some (.stop (.inr false)))else(some (.next ((IntKind.wrap .i64 (s1+1)),(sZ (fun a b=>a==b) x5.fID (x5.bX != 3) s2)))))else(some (.next ((IntKind.wrap .i64 (s1+1)),(sZ (fun a b=>a==b) x5.fID (x5.bX != 3) s2))))
def gR(a0:(List aj)):(Int×(List (Int×Bool)))->Option (oJ (Int×(List (Int×Bool))) ((Unit)⊕(Bool))):=fun(s1,s2)=>
  if(decide (s1<(a0.length:Int)))=true then((pH a0 s1).bind fun x5=>(kj x5).bind fun x9=>if(!x9)=true then(some (.stop (.inr false)))else(if(x5.bv != s1)=true then(some (.stop (.inr false)))else(if(decide (s1>0))=true then((pH a0 (IntKind.wrap .i64 (s1-1))).bind fun x13=>if(decide (x5.fAt<x13.fAt))=true then(some (.stop (.inr false)))else(fG x5 s2 s1))else(fG x5 s2 s1))))else(some (.stop (.inl ())))
def kM(a0:(List aj)):Option (Bool):=
  (qb (gR a0) jc (0,([]:List (Int×Bool)))).bind fun o16=>match o16 with| .inl _=>(some true)| .inr r18=>(some r18)
def oC:Option (Bool):=
  (fO 0).bind fun x1=>(jx x1).bind fun x2=>(fO 2).bind fun x3=>(jx x3).bind fun x4=>(gy x2.1).bind fun x5=>(xZ x2.1 [32]).bind fun x6=>(gy x6).bind fun x7=>if(x2.2==0)=true then(if(x4.2==0)=true then(if(x5.2==0)=true then((fO 0).bind fun x11=>(fT x5.1 x11).bind fun x12=>if x12=true then(if(x7.2==3)=true then((lH [(aB.mk 2 0 x4.1),(aB.mk 0 0 x2.1)]).bind fun x15=>if((x15.length:Int)==1)=true then((fO 0).bind fun x17=>(fO 1).bind fun x18=>(kM [x17,x18]).bind fun x19=>some x19)else(some false))else(some false))else(some false))else(some false))else(some false))else(some false)
theorem keep_Mod_le(a0:Int)(a1:Int):Le (oT a0 a1) (kO a0 a1):=by
  unfold oT kO;repeat' (first|with_reducible exact Le.refl _|with_reducible refine Le.bind ?_ (fun _=>?_)|with_reducible refine Le.ite ?_ ?_|with_reducible refine Le.loop (fun _=>?_) _ _|with_reducible refine Le.kG (fun _=>?_) _|(split<;>dsimp only))
theorem keep_Source_le(a0:Int):Le (lJ a0) (fM a0):=by
  unfold lJ fM;repeat' (first|with_reducible exact keep_Mod_le _ _|with_reducible exact Le.refl _|with_reducible refine Le.bind ?_ (fun _=>?_)|with_reducible refine Le.ite ?_ ?_|with_reducible refine Le.loop (fun _=>?_) _ _|with_reducible refine Le.kG (fun _=>?_) _|(split<;>dsimp only))
theorem ni(a0:(List ag))(a1:(List ag))(s:_):Le (fS a0 a1 s) (cW a0 a1 s):=by
  unfold fS cW;(try dsimp only);repeat' (first|with_reducible exact Le.refl _|with_reducible refine Le.bind ?_ (fun _=>?_)|with_reducible refine Le.ite ?_ ?_|with_reducible refine Le.loop (fun _=>?_) _ _|with_reducible refine Le.kG (fun _=>?_) _|(split<;>dsimp only))
theorem oX(a0:(List ag))(a1:(List ag)):Le (iA a0 a1) (cn a0 a1):=by
  unfold iA cn;repeat' (first|with_reducible exact ni _ _ _|with_reducible exact Le.refl _|with_reducible refine Le.bind ?_ (fun _=>?_)|with_reducible refine Le.ite ?_ ?_|with_reducible refine Le.loop (fun _=>?_) _ _|with_reducible refine Le.kG (fun _=>?_) _|(split<;>dsimp only))
theorem source_plain_le(a0:Int):Le (kZ a0) (kx a0):=by
  unfold kZ kx;repeat' (first|with_reducible exact Le.refl _|with_reducible refine Le.bind ?_ (fun _=>?_)|with_reducible refine Le.ite ?_ ?_|with_reducible refine Le.loop (fun _=>?_) _ _|with_reducible refine Le.kG (fun _=>?_) _|(split<;>dsimp only))
theorem pD(a0:(List UInt8))(s:_):Le (jt a0 s) (kX a0 s):=by
  unfold jt kX;(try dsimp only);repeat' (first|with_reducible exact source_plain_le _|with_reducible exact Le.refl _|with_reducible refine Le.bind ?_ (fun _=>?_)|with_reducible refine Le.ite ?_ ?_|with_reducible refine Le.loop (fun _=>?_) _ _|with_reducible refine Le.kG (fun _=>?_) _|(split<;>dsimp only))
theorem source_code_le(a0:(List UInt8))(a1:Int)(a2:Int):Le (fw a0 a1 a2) (f5 a0 a1 a2):=by
  unfold fw f5;repeat' (first|with_reducible exact pD _ _|with_reducible exact Le.refl _|with_reducible refine Le.bind ?_ (fun _=>?_)|with_reducible refine Le.ite ?_ ?_|with_reducible refine Le.loop (fun _=>?_) _ _|with_reducible refine Le.kG (fun _=>?_) _|(split<;>dsimp only))
theorem gO(a0:au):Le (eP a0) (fe a0):=by
  unfold eP fe;repeat' (first|with_reducible exact source_code_le _ _ _|with_reducible exact Le.refl _|with_reducible refine Le.bind ?_ (fun _=>?_)|with_reducible refine Le.ite ?_ ?_|with_reducible refine Le.loop (fun _=>?_) _ _|with_reducible refine Le.kG (fun _=>?_) _|(split<;>dsimp only))
theorem picker_in_le(a0:Int)(a1:Int)(a2:Int):Le (lf a0 a1 a2) (kC a0 a1 a2):=by
  unfold lf kC;repeat' (first|with_reducible exact Le.refl _|with_reducible refine Le.bind ?_ (fun _=>?_)|with_reducible refine Le.ite ?_ ?_|with_reducible refine Le.loop (fun _=>?_) _ _|with_reducible refine Le.kG (fun _=>?_) _|(split<;>dsimp only))
theorem gr(a0:ag):Le (dB a0) (cv a0):=by
  unfold dB cv;repeat' (first|with_reducible exact gO _|with_reducible exact picker_in_le _ _ _|with_reducible exact Le.refl _|with_reducible refine Le.bind ?_ (fun _=>?_)|with_reducible refine Le.ite ?_ ?_|with_reducible refine Le.loop (fun _=>?_) _ _|with_reducible refine Le.kG (fun _=>?_) _|(split<;>dsimp only))
theorem kN(a0:ag):Le (fH a0) (dh a0):=by
  unfold fH dh;repeat' (first|with_reducible exact gr _|with_reducible exact Le.refl _|with_reducible refine Le.bind ?_ (fun _=>?_)|with_reducible refine Le.ite ?_ ?_|with_reducible refine Le.loop (fun _=>?_) _ _|with_reducible refine Le.kG (fun _=>?_) _|(split<;>dsimp only))
theorem iQ(a0:(List ag))(s:_):Le (cQ a0 s) (bC a0 s):=by
  unfold cQ bC;(try dsimp only);repeat' (first|with_reducible exact kN _|with_reducible exact Le.refl _|with_reducible refine Le.bind ?_ (fun _=>?_)|with_reducible refine Le.ite ?_ ?_|with_reducible refine Le.loop (fun _=>?_) _ _|with_reducible refine Le.kG (fun _=>?_) _|(split<;>dsimp only))
theorem jP(a0:(List ag)):Le (dj a0) (bP a0):=by
  unfold dj bP;repeat' (first|with_reducible exact iQ _ _|with_reducible exact Le.refl _|with_reducible refine Le.bind ?_ (fun _=>?_)|with_reducible refine Le.ite ?_ ?_|with_reducible refine Le.loop (fun _=>?_) _ _|with_reducible refine Le.kG (fun _=>?_) _|(split<;>dsimp only))
theorem iN(a0:(List ag)):Le (cO a0) (bB a0):=by
  unfold cO bB;repeat' (first|with_reducible exact jP _|with_reducible exact Le.refl _|with_reducible refine Le.bind ?_ (fun _=>?_)|with_reducible refine Le.ite ?_ ?_|with_reducible refine Le.loop (fun _=>?_) _ _|with_reducible refine Le.kG (fun _=>?_) _|(split<;>dsimp only))
theorem om(a0:Int):Le (gT a0) (eJ a0):=by
  unfold gT eJ;repeat' (first|with_reducible exact Le.refl _|with_reducible refine Le.bind ?_ (fun _=>?_)|with_reducible refine Le.ite ?_ ?_|with_reducible refine Le.loop (fun _=>?_) _ _|with_reducible refine Le.kG (fun _=>?_) _|(split<;>dsimp only))
theorem ja(a0:(List Int))(s:_):Le (c6 a0 s) (bU a0 s):=by
  unfold c6 bU;(try dsimp only);repeat' (first|with_reducible exact om _|with_reducible exact Le.refl _|with_reducible refine Le.bind ?_ (fun _=>?_)|with_reducible refine Le.ite ?_ ?_|with_reducible refine Le.loop (fun _=>?_) _ _|with_reducible refine Le.kG (fun _=>?_) _|(split<;>dsimp only))
theorem jZ(a0:(List Int)):Le (dv a0) (ci a0):=by
  unfold dv ci;repeat' (first|with_reducible exact ja _ _|with_reducible exact Le.refl _|with_reducible refine Le.bind ?_ (fun _=>?_)|with_reducible refine Le.ite ?_ ?_|with_reducible refine Le.loop (fun _=>?_) _ _|with_reducible refine Le.kG (fun _=>?_) _|(split<;>dsimp only))
theorem i7(a0:(List Int)):Le (cX a0) (bT a0):=by
  unfold cX bT;repeat' (first|with_reducible exact jZ _|with_reducible exact Le.refl _|with_reducible refine Le.bind ?_ (fun _=>?_)|with_reducible refine Le.ite ?_ ?_|with_reducible refine Le.loop (fun _=>?_) _ _|with_reducible refine Le.kG (fun _=>?_) _|(split<;>dsimp only))
theorem ny(a0:(List Int)):Le (fq a0) (ec a0):=by
  unfold fq ec;repeat' (first|with_reducible exact i7 _|with_reducible exact Le.refl _|with_reducible refine Le.bind ?_ (fun _=>?_)|with_reducible refine Le.ite ?_ ?_|with_reducible refine Le.loop (fun _=>?_) _ _|with_reducible refine Le.kG (fun _=>?_) _|(split<;>dsimp only))
theorem oB(a0:ai):Le (eb a0) (dA a0):=by
  unfold eb dA;repeat' (first|with_reducible exact Le.refl _|with_reducible refine Le.bind ?_ (fun _=>?_)|with_reducible refine Le.ite ?_ ?_|with_reducible refine Le.loop (fun _=>?_) _ _|with_reducible refine Le.kG (fun _=>?_) _|(split<;>dsimp only))
theorem nn(j2:(List Int)):Le (ek j2) (cY j2):=by
  unfold ek cY;repeat' (first|with_reducible exact Le.refl _|with_reducible refine Le.bind ?_ (fun _=>?_)|with_reducible refine Le.ite ?_ ?_|with_reducible refine Le.loop (fun _=>?_) _ _|with_reducible refine Le.kG (fun _=>?_) _|(split<;>dsimp only))
theorem pb(a0:Int):Le (iP a0) (d9 a0):=by
  unfold iP d9;repeat' (first|with_reducible exact nn _|with_reducible exact Le.refl _|with_reducible refine Le.bind ?_ (fun _=>?_)|with_reducible refine Le.ite ?_ ?_|with_reducible refine Le.loop (fun _=>?_) _ _|with_reducible refine Le.kG (fun _=>?_) _|(split<;>dsimp only))
theorem mp(a0:(List (List Int)))(s:_):Le (fc a0 s) (cw a0 s):=by
  unfold fc cw;(try dsimp only);repeat' (first|with_reducible exact Le.refl _|with_reducible refine Le.bind ?_ (fun _=>?_)|with_reducible refine Le.ite ?_ ?_|with_reducible refine Le.loop (fun _=>?_) _ _|with_reducible refine Le.kG (fun _=>?_) _|(split<;>dsimp only))
theorem lN(a0:(List (List Int)))(s:_):Le (eO a0 s) (ck a0 s):=by
  unfold eO ck;(try dsimp only);repeat' (first|with_reducible exact Le.refl _|with_reducible refine Le.bind ?_ (fun _=>?_)|with_reducible refine Le.ite ?_ ?_|with_reducible refine Le.loop (fun _=>?_) _ _|with_reducible refine Le.kG (fun _=>?_) _|(split<;>dsimp only))
theorem jN(a0:(List (List Int))):Le (eE a0) (cA a0):=by
  unfold eE cA;repeat' (first|with_reducible exact mp _ _|with_reducible exact pb _|with_reducible exact lN _ _|with_reducible exact Le.refl _|with_reducible refine Le.bind ?_ (fun _=>?_)|with_reducible refine Le.ite ?_ ?_|with_reducible refine Le.loop (fun _=>?_) _ _|with_reducible refine Le.kG (fun _=>?_) _|(split<;>dsimp only))
theorem m6(a0:az):Le (ip a0) (eW a0):=by
  unfold ip eW;repeat' (first|with_reducible exact oB _|with_reducible exact jN _|with_reducible exact Le.refl _|with_reducible refine Le.bind ?_ (fun _=>?_)|with_reducible refine Le.ite ?_ ?_|with_reducible refine Le.loop (fun _=>?_) _ _|with_reducible refine Le.kG (fun _=>?_) _|(split<;>dsimp only))
theorem oA(a0:aj):Le (kj a0) (eu a0):=by
  unfold kj eu;repeat' (first|with_reducible exact gr _|with_reducible exact iN _|with_reducible exact ny _|with_reducible exact m6 _|with_reducible exact Le.refl _|with_reducible refine Le.bind ?_ (fun _=>?_)|with_reducible refine Le.ite ?_ ?_|with_reducible refine Le.loop (fun _=>?_) _ _|with_reducible refine Le.kG (fun _=>?_) _|(split<;>dsimp only))
theorem nY(a0:(List Int))(s:_):Le (gu a0 s) (iW a0 s):=by
  unfold gu iW;(try dsimp only);repeat' (first|with_reducible exact Le.refl _|with_reducible refine Le.bind ?_ (fun _=>?_)|with_reducible refine Le.ite ?_ ?_|with_reducible refine Le.loop (fun _=>?_) _ _|with_reducible refine Le.kG (fun _=>?_) _|(split<;>dsimp only))
theorem lu(a0:(List Int)):Le (gj a0) (dE a0):=by
  unfold gj dE;repeat' (first|with_reducible exact nY _ _|with_reducible exact Le.refl _|with_reducible refine Le.bind ?_ (fun _=>?_)|with_reducible refine Le.ite ?_ ?_|with_reducible refine Le.loop (fun _=>?_) _ _|with_reducible refine Le.kG (fun _=>?_) _|(split<;>dsimp only))
theorem source_parts_le(a0:au):Le (kY a0) (kw a0):=by
  unfold kY kw;repeat' (first|with_reducible exact Le.refl _|with_reducible refine Le.bind ?_ (fun _=>?_)|with_reducible refine Le.ite ?_ ?_|with_reducible refine Le.loop (fun _=>?_) _ _|with_reducible refine Le.kG (fun _=>?_) _|(split<;>dsimp only))
theorem mq(a0:au):Le (gM a0) (gE a0):=by
  unfold gM gE;repeat' (first|with_reducible exact gO _|with_reducible exact source_parts_le _|with_reducible exact Le.refl _|with_reducible refine Le.bind ?_ (fun _=>?_)|with_reducible refine Le.ite ?_ ?_|with_reducible refine Le.loop (fun _=>?_) _ _|with_reducible refine Le.kG (fun _=>?_) _|(split<;>dsimp only))
theorem mW(a0:(List Int))(s:_):Le (fF a0 s) (cJ a0 s):=by
  unfold fF cJ;(try dsimp only);repeat' (first|with_reducible exact Le.refl _|with_reducible refine Le.bind ?_ (fun _=>?_)|with_reducible refine Le.ite ?_ ?_|with_reducible refine Le.loop (fun _=>?_) _ _|with_reducible refine Le.kG (fun _=>?_) _|(split<;>dsimp only))
theorem hX(a0:(List Int))(d1:(List (List UInt8))):Le (cE a0 d1) (bV a0 d1):=by
  unfold cE bV;repeat' (first|with_reducible exact mW _ _|with_reducible exact Le.refl _|with_reducible refine Le.bind ?_ (fun _=>?_)|with_reducible refine Le.ite ?_ ?_|with_reducible refine Le.loop (fun _=>?_) _ _|with_reducible refine Le.kG (fun _=>?_) _|(split<;>dsimp only))
theorem iY(a0:ag)(d1:(List (List UInt8))):Le (fx a0 d1) (em a0 d1):=by
  unfold fx em;repeat' (first|with_reducible exact mq _|with_reducible exact hX _ _|with_reducible exact Le.refl _|with_reducible refine Le.bind ?_ (fun _=>?_)|with_reducible refine Le.ite ?_ ?_|with_reducible refine Le.loop (fun _=>?_) _ _|with_reducible refine Le.kG (fun _=>?_) _|(split<;>dsimp only))
theorem oP(a0:aj)(s:_):Le (il a0 s) (cK a0 s):=by
  unfold il cK;(try dsimp only);repeat' (first|with_reducible exact iY _ _|with_reducible exact Le.refl _|with_reducible refine Le.bind ?_ (fun _=>?_)|with_reducible refine Le.ite ?_ ?_|with_reducible refine Le.loop (fun _=>?_) _ _|with_reducible refine Le.kG (fun _=>?_) _|(split<;>dsimp only))
theorem feed_Encode_le(a0:aj):Le (jx a0) (dx a0):=by
  unfold jx dx;repeat' (first|with_reducible exact oA _|with_reducible exact lu _|with_reducible exact iY _ _|with_reducible exact hX _ _|with_reducible exact oP _ _|with_reducible exact m6 _|with_reducible exact Le.refl _|with_reducible refine Le.bind ?_ (fun _=>?_)|with_reducible refine Le.ite ?_ ?_|with_reducible refine Le.loop (fun _=>?_) _ _|with_reducible refine Le.kG (fun _=>?_) _|(split<;>dsimp only))
theorem bits_in_le(a0:Int)(a1:Int)(a2:Int):Le (lT a0 a1 a2) (jv a0 a1 a2):=by
  unfold lT jv;repeat' (first|with_reducible exact Le.refl _|with_reducible refine Le.bind ?_ (fun _=>?_)|with_reducible refine Le.ite ?_ ?_|with_reducible refine Le.loop (fun _=>?_) _ _|with_reducible refine Le.kG (fun _=>?_) _|(split<;>dsimp only))
theorem bits_Put_l14_le(a1:Int)(s:_):Le (kH a1 s) (kd a1 s):=by
  unfold kH kd;(try dsimp only);repeat' (first|with_reducible exact Le.refl _|with_reducible refine Le.bind ?_ (fun _=>?_)|with_reducible refine Le.ite ?_ ?_|with_reducible refine Le.loop (fun _=>?_) _ _|with_reducible refine Le.kG (fun _=>?_) _|(split<;>dsimp only))
theorem bits_Put_le(a0:(List UInt8))(a1:Int)(a2:Int):Le (oK a0 a1 a2) (lS a0 a1 a2):=by
  unfold oK lS;repeat' (first|with_reducible exact bits_in_le _ _ _|with_reducible exact bits_Put_l14_le _ _|with_reducible exact Le.refl _|with_reducible refine Le.bind ?_ (fun _=>?_)|with_reducible refine Le.ite ?_ ?_|with_reducible refine Le.loop (fun _=>?_) _ _|with_reducible refine Le.kG (fun _=>?_) _|(split<;>dsimp only))
theorem nk(a1:(List Int))(s:_):Le (fW a1 s) (eZ a1 s):=by
  unfold fW eZ;(try dsimp only);repeat' (first|with_reducible exact bits_Put_le _ _ _|with_reducible exact Le.refl _|with_reducible refine Le.bind ?_ (fun _=>?_)|with_reducible refine Le.ite ?_ ?_|with_reducible refine Le.loop (fun _=>?_) _ _|with_reducible refine Le.kG (fun _=>?_) _|(split<;>dsimp only))
theorem kV(a0:(List UInt8))(a1:(List Int)):Le (fJ a0 a1) (cd a0 a1):=by
  unfold fJ cd;repeat' (first|with_reducible exact nk _ _|with_reducible exact Le.refl _|with_reducible refine Le.bind ?_ (fun _=>?_)|with_reducible refine Le.ite ?_ ?_|with_reducible refine Le.loop (fun _=>?_) _ _|with_reducible refine Le.kG (fun _=>?_) _|(split<;>dsimp only))
theorem law37_one_le(a0:Int):Le (fO a0) (fr a0):=by
  unfold fO fr;repeat' (first|with_reducible exact keep_Source_le _|with_reducible exact Le.refl _|with_reducible refine Le.bind ?_ (fun _=>?_)|with_reducible refine Le.ite ?_ ?_|with_reducible refine Le.loop (fun _=>?_) _ _|with_reducible refine Le.kG (fun _=>?_) _|(split<;>dsimp only))
theorem nG(d0:aJ):Le (jA d0) (fQ d0):=by
  unfold jA fQ;repeat' (first|with_reducible exact Le.refl _|with_reducible refine Le.bind ?_ (fun _=>?_)|with_reducible refine Le.ite ?_ ?_|with_reducible refine Le.loop (fun _=>?_) _ _|with_reducible refine Le.kG (fun _=>?_) _|(split<;>dsimp only))
theorem ji(d0:aJ):Le (bh d0) (bk d0):=by
  unfold bh bk;repeat' (first|with_reducible exact nG _|with_reducible exact Le.refl _|with_reducible refine Le.bind ?_ (fun _=>?_)|with_reducible refine Le.ite ?_ ?_|with_reducible refine Le.loop (fun _=>?_) _ _|with_reducible refine Le.kG (fun _=>?_) _|(split<;>dsimp only))
theorem ng(a0:(List UInt8)):Le (iT a0) (iS a0):=by
  unfold iT iS;repeat' (first|with_reducible exact gO _|with_reducible exact Le.refl _|with_reducible refine Le.bind ?_ (fun _=>?_)|with_reducible refine Le.ite ?_ ?_|with_reducible refine Le.loop (fun _=>?_) _ _|with_reducible refine Le.kG (fun _=>?_) _|(split<;>dsimp only))
theorem nE(d0:aJ):Le (jz d0) (fP d0):=by
  unfold jz fP;repeat' (first|with_reducible exact nG _|with_reducible exact ng _|with_reducible exact ji _|with_reducible exact Le.refl _|with_reducible refine Le.bind ?_ (fun _=>?_)|with_reducible refine Le.ite ?_ ?_|with_reducible refine Le.loop (fun _=>?_) _ _|with_reducible refine Le.kG (fun _=>?_) _|(split<;>dsimp only))
theorem oV(d0:aJ):Le (ed d0) (cL d0):=by
  unfold ed cL;repeat' (first|with_reducible exact ji _|with_reducible exact Le.refl _|with_reducible refine Le.bind ?_ (fun _=>?_)|with_reducible refine Le.ite ?_ ?_|with_reducible refine Le.loop (fun _=>?_) _ _|with_reducible refine Le.kG (fun _=>?_) _|(split<;>dsimp only))
theorem ij(d0:(List ag))(s:_):Le (cC d0 s) (bQ d0 s):=by
  unfold cC bQ;(try dsimp only);repeat' (first|with_reducible exact kN _|with_reducible exact Le.refl _|with_reducible refine Le.bind ?_ (fun _=>?_)|with_reducible refine Le.ite ?_ ?_|with_reducible refine Le.loop (fun _=>?_) _ _|with_reducible refine Le.kG (fun _=>?_) _|(split<;>dsimp only))
theorem jr(d0:(List ag)):Le (de d0) (b8 d0):=by
  unfold de b8;repeat' (first|with_reducible exact ij _ _|with_reducible exact Le.refl _|with_reducible refine Le.bind ?_ (fun _=>?_)|with_reducible refine Le.ite ?_ ?_|with_reducible refine Le.loop (fun _=>?_) _ _|with_reducible refine Le.kG (fun _=>?_) _|(split<;>dsimp only))
theorem ig(d0:(List ag)):Le (cB d0) (bH d0):=by
  unfold cB bH;repeat' (first|with_reducible exact jr _|with_reducible exact Le.refl _|with_reducible refine Le.bind ?_ (fun _=>?_)|with_reducible refine Le.ite ?_ ?_|with_reducible refine Le.loop (fun _=>?_) _ _|with_reducible refine Le.kG (fun _=>?_) _|(split<;>dsimp only))
theorem lY(dq:Int)(dz:Int)(ez:Int)(dY:Int)(ep:Int)(er:Int)(eA:Int)(eB:Int)(eC:Int)(co:Int)(cp:Int)(cq:Int)(cu:Int)(mY:Int)(cm:Int)(d0:(List ag)):Le (gH dq dz ez dY ep er eA eB eC co cp cq cu mY cm d0) (ew dq dz ez dY ep er eA eB eC co cp cq cu mY cm d0):=by
  unfold gH ew;repeat' (first|with_reducible exact oB _|with_reducible exact jN _|with_reducible exact Le.refl _|with_reducible refine Le.bind ?_ (fun _=>?_)|with_reducible refine Le.ite ?_ ?_|with_reducible refine Le.loop (fun _=>?_) _ _|with_reducible refine Le.kG (fun _=>?_) _|(split<;>dsimp only))
theorem feed_Validq_le(fy:Int)(dq:Int)(dz:Int)(ez:Int)(dY:Int)(ep:(List UInt8))(er:(List UInt8))(eA:(List UInt8))(eB:(List UInt8))(eC:Int)(co:Int)(cp:Int)(cq:Int)(cu:Int)(cm:Int)(dH:Int)(dI:Int)(dJ:Int)(dK:Int)(dL:Int)(dM:Int)(dN:Int)(dO:Int)(dP:Int)(dQ:Int)(dR:Int)(dS:Int)(dU:Int)(dV:Int)(d0:(List ag)):Le (lI fy dq dz ez dY ep er eA eB eC co cp cq cu cm dH dI dJ dK dL dM dN dO dP dQ dR dS dU dV d0) (hZ fy dq dz ez dY ep er eA eB eC co cp cq cu cm dH dI dJ dK dL dM dN dO dP dQ dR dS dU dV d0):=by
  unfold lI hZ;repeat' (first|with_reducible exact gr _|with_reducible exact ig _|with_reducible exact ny _|with_reducible exact lY _ _ _ _ _ _ _ _ _ _ _ _ _ _ _ _|with_reducible exact Le.refl _|with_reducible refine Le.bind ?_ (fun _=>?_)|with_reducible refine Le.ite ?_ ?_|with_reducible refine Le.loop (fun _=>?_) _ _|with_reducible refine Le.kG (fun _=>?_) _|(split<;>dsimp only))
theorem oj(x1:Bool×(List ag))(s:_):Le (gQ x1 s) (eH x1 s):=by
  unfold gQ eH;(try dsimp only);repeat' (first|with_reducible exact iY _ _|with_reducible exact Le.refl _|with_reducible refine Le.bind ?_ (fun _=>?_)|with_reducible refine Le.ite ?_ ?_|with_reducible refine Le.loop (fun _=>?_) _ _|with_reducible refine Le.kG (fun _=>?_) _|(split<;>dsimp only))
theorem feed_Encodeq_le(fy:Int)(dq:Int)(dz:Int)(ez:Int)(dY:Int)(ep:(List UInt8))(er:(List UInt8))(eA:(List UInt8))(eB:(List UInt8))(eC:Int)(co:Int)(cp:Int)(cq:Int)(cu:Int)(cm:Int)(dH:Int)(dI:Int)(dJ:Int)(dK:Int)(dL:Int)(dM:Int)(dN:Int)(dO:Int)(dP:Int)(dQ:Int)(dR:Int)(dS:Int)(dU:Int)(dV:Int)(d0:(List ag)):Le (kL fy dq dz ez dY ep er eA eB eC co cp cq cu cm dH dI dJ dK dL dM dN dO dP dQ dR dS dU dV d0) (ga fy dq dz ez dY ep er eA eB eC co cp cq cu cm dH dI dJ dK dL dM dN dO dP dQ dR dS dU dV d0):=by
  unfold kL ga;repeat' (first|with_reducible exact feed_Validq_le _ _ _ _ _ _ _ _ _ _ _ _ _ _ _ _ _ _ _ _ _ _ _ _ _ _ _ _ _ _|with_reducible exact lu _|with_reducible exact iY _ _|with_reducible exact hX _ _|with_reducible exact oj _ _|with_reducible exact lY _ _ _ _ _ _ _ _ _ _ _ _ _ _ _ _|with_reducible exact Le.refl _|with_reducible refine Le.bind ?_ (fun _=>?_)|with_reducible refine Le.ite ?_ ?_|with_reducible refine Le.loop (fun _=>?_) _ _|with_reducible refine Le.kG (fun _=>?_) _|(split<;>dsimp only))
theorem oO(s:_):Le (ik s) (d7 s):=by
  unfold ik d7;(try dsimp only);repeat' (first|with_reducible exact nE _|with_reducible exact Le.refl _|with_reducible refine Le.bind ?_ (fun _=>?_)|with_reducible refine Le.ite ?_ ?_|with_reducible refine Le.loop (fun _=>?_) _ _|with_reducible refine Le.kG (fun _=>?_) _|(split<;>dsimp only))
theorem nv(a0:(List UInt8)):Le (gy a0) (eR a0):=by
  unfold gy eR;repeat' (first|with_reducible exact ji _|with_reducible exact nE _|with_reducible exact oO _|with_reducible exact oV _|with_reducible exact feed_Encodeq_le _ _ _ _ _ _ _ _ _ _ _ _ _ _ _ _ _ _ _ _ _ _ _ _ _ _ _ _ _ _|with_reducible exact Le.refl _|with_reducible refine Le.bind ?_ (fun _=>?_)|with_reducible refine Le.ite ?_ ?_|with_reducible refine Le.loop (fun _=>?_) _ _|with_reducible refine Le.kG (fun _=>?_) _|(split<;>dsimp only))
theorem ref33_Same_le(a0:az)(a1:az):Le (mJ a0 a1) (kR a0 a1):=by
  unfold mJ kR;repeat' (first|with_reducible exact oX _ _|with_reducible exact Le.refl _|with_reducible refine Le.bind ?_ (fun _=>?_)|with_reducible refine Le.ite ?_ ?_|with_reducible refine Le.loop (fun _=>?_) _ _|with_reducible refine Le.kG (fun _=>?_) _|(split<;>dsimp only))
theorem oZ(a0:av)(a1:av):Le (iE a0 a1) (fk a0 a1):=by
  unfold iE fk;repeat' (first|with_reducible exact ref33_Same_le _ _|with_reducible exact Le.refl _|with_reducible refine Le.bind ?_ (fun _=>?_)|with_reducible refine Le.ite ?_ ?_|with_reducible refine Le.loop (fun _=>?_) _ _|with_reducible refine Le.kG (fun _=>?_) _|(split<;>dsimp only))
theorem nj(a0:aj)(a1:aj):Le (fT a0 a1) (ct a0 a1):=by
  unfold fT ct;repeat' (first|with_reducible exact oZ _ _|with_reducible exact Le.refl _|with_reducible refine Le.bind ?_ (fun _=>?_)|with_reducible refine Le.ite ?_ ?_|with_reducible refine Le.loop (fun _=>?_) _ _|with_reducible refine Le.kG (fun _=>?_) _|(split<;>dsimp only))
theorem oR(a0:(List aB))(s:_):Le (im a0 s) (fi a0 s):=by
  unfold im fi;(try dsimp only);repeat' (first|with_reducible exact nv _|with_reducible exact Le.refl _|with_reducible refine Le.bind ?_ (fun _=>?_)|with_reducible refine Le.ite ?_ ?_|with_reducible refine Le.loop (fun _=>?_) _ _|with_reducible refine Le.kG (fun _=>?_) _|(split<;>dsimp only))
theorem oS(o12:(List (Int×aj)))(s:_):Le (io o12 s) (gG o12 s):=by
  unfold io gG;(try dsimp only);repeat' (first|with_reducible exact Le.refl _|with_reducible refine Le.bind ?_ (fun _=>?_)|with_reducible refine Le.ite ?_ ?_|with_reducible refine Le.loop (fun _=>?_) _ _|with_reducible refine Le.kG (fun _=>?_) _|(split<;>dsimp only))
theorem feed_Prefix_le(a0:(List aB)):Le (lH a0) (fK a0):=by
  unfold lH fK;repeat' (first|with_reducible exact oR _ _|with_reducible exact oS _ _|with_reducible exact Le.refl _|with_reducible refine Le.bind ?_ (fun _=>?_)|with_reducible refine Le.ite ?_ ?_|with_reducible refine Le.loop (fun _=>?_) _ _|with_reducible refine Le.kG (fun _=>?_) _|(split<;>dsimp only))
theorem oQ(x5:aj)(s2:(List (Int×Bool)))(s1:Int):Le (fG x5 s2 s1) (fh x5 s2 s1):=by
  unfold fG fh;repeat' (first|with_reducible exact Le.refl _|with_reducible refine Le.bind ?_ (fun _=>?_)|with_reducible refine Le.ite ?_ ?_|with_reducible refine Le.loop (fun _=>?_) _ _|with_reducible refine Le.kG (fun _=>?_) _|(split<;>dsimp only))
theorem ol(a0:(List aj))(s:_):Le (gR a0 s) (jf a0 s):=by
  unfold gR jf;(try dsimp only);repeat' (first|with_reducible exact oA _|with_reducible exact oQ _ _ _|with_reducible exact Le.refl _|with_reducible refine Le.bind ?_ (fun _=>?_)|with_reducible refine Le.ite ?_ ?_|with_reducible refine Le.loop (fun _=>?_) _ _|with_reducible refine Le.kG (fun _=>?_) _|(split<;>dsimp only))
theorem feed_History_le(a0:(List aj)):Le (kM a0) (kg a0):=by
  unfold kM kg;repeat' (first|with_reducible exact ol _ _|with_reducible exact Le.refl _|with_reducible refine Le.bind ?_ (fun _=>?_)|with_reducible refine Le.ite ?_ ?_|with_reducible refine Le.loop (fun _=>?_) _ _|with_reducible refine Le.kG (fun _=>?_) _|(split<;>dsimp only))
theorem law37_awake_le:Le (oC ) (ia ):=by
  unfold oC ia;repeat' (first|with_reducible exact law37_one_le _|with_reducible exact feed_Encode_le _|with_reducible exact nv _|with_reducible exact nj _ _|with_reducible exact feed_Prefix_le _|with_reducible exact feed_History_le _|with_reducible exact Le.refl _|with_reducible refine Le.bind ?_ (fun _=>?_)|with_reducible refine Le.ite ?_ ?_|with_reducible refine Le.loop (fun _=>?_) _ _|with_reducible refine Le.kG (fun _=>?_) _|(split<;>dsimp only))
end Go.Dw.Fc
