
import Derived.Test.YtmmgjlgoggielaaGreatEtFn
import Derived.Test.YtmmgjlgoggielaaGreatDwLe

set_option maxRecDepth 100000
set_option maxHeartbeats 4000000
namespace Go.Dw.Et
open Go.Dw
noncomputable section
def kw:Nat:=600
def oJ(a0:(List Int)):Option (ae):=
  (cutO a0 0 (if 2000<(a0.length:Int)then 2000 else(a0.length:Int))).bind fun x1=>some (ae.mk x1 0)
def nq(d0:ae):Option (aF×ae):=
  (dE [20,25,40,100] d0).bind fun x1=>(cK 3 x1.2).bind fun x2=>(p9 (jL x1) kw (0,x2.1,0,x2.2.fL,x2.2.fAt,([]:(List Int)),([]:(List Int)))).bind fun o24=>some ((aF.mk x1.1 o24.2.2.1 o24.2.2.2),(ae.mk o24.1 o24.2.1))
def kI(a1:Int)(d0:ae):Option (aJ×ae):=
  (ot 20 a1 d0).bind fun x1=>(nq x1.2).bind fun x2=>(dE [10,50,200] x2.2).bind fun x3=>(dE [0,0,10,40] x3.2).bind fun x4=>(dE [0,50,200,400] x4.2).bind fun x5=>(dE [0,5,20] x5.2).bind fun x6=>(cK 2 x6.2).bind fun x7=>some ((aJ.mk x1.1 x2.1 x3.1 x4.1 x5.1 x6.1 (IntKind.wrap .i64 (2+x7.1))),x7.2)
def pu(d0:ae):Option (bu×ae):=
  (nq d0).bind fun x1=>(cK 20 x1.2).bind fun x2=>(cK 9 x2.2).bind fun x3=>(p9 (lM x1) kw (0,x1.1.aK,x1.1.aG)).bind fun o26=>some ((bu.mk (aF.mk x1.1.bp o26.1 o26.2) x2.1 (IntKind.wrap .i64 (1+x3.1))),x3.2)
def kK(a1:Int)(d0:ae):Option (ak×ae):=
  (kI a1 d0).bind fun x1=>(pu x1.2).bind fun x2=>(dE [0,0,10,40] x2.2).bind fun x3=>some ((ak.mk x1.1 x2.1 x3.1),x3.2)
def kJ(d0:ae):Option (aO×ae):=
  (cK 4 d0).bind fun x1=>(p9 (jo) kw (x1.1,x1.2.fL,x1.2.fAt,([]:(List aH)))).bind fun o28=>some ((aO.mk o28.2.2),(ae.mk o28.1 o28.2.1))
def jN(a0:Int):Option (aw):=
  (mZ a0 6).bind fun x1=>(fV [[83,49],[83,50],[83,51],[83,52],[83,53],[83,54]] x1).bind fun x2=>some (aw.mk [65,66] x2 [48,48] [66,72,90])
def l8(a1:Int):(Int×(List Int)×Int×(List ar))->Option (gD (Int×(List Int)×Int×(List ar)) ((List Int)×Int×(List ar))):=fun(s1,s2,s3,s4)=>
  if(decide (s1<a1))=true then(if(decide (s1<6))=true then((ks 60 (ae.mk s2 s3)).bind fun x11=>(kJ x11.2).bind fun x12=>(jN s1).bind fun x13=>(cK 6 x12.2).bind fun x14=>if(x14.1==0)=true then((cK 500 x14.2).bind fun x16=>(ks 60 x16.2).bind fun x17=>(kJ x17.2).bind fun x18=>(inO [(aA.mk 0 100000 (bv.mk 100 1) x11.1 x12.1)] 0).bind fun _=>(modO [(aA.mk 0 100000 (bv.mk 100 1) x11.1 x12.1)] 0 (fun(z22:aA)=>(aA.mk z22.bB (IntKind.wrap .i64 (1500+x16.1)) z22.dn z22.aZ z22.bD))).bind fun x21=>(qt x21 [(aA.mk (IntKind.wrap .i64 (1500+x16.1)) 100000 (bv.mk 100 1) x17.1 x18.1)] 80).bind fun x23=>(qt s4 [(ar.mk x13 x23)] 88).bind fun x24=>some (.next ((IntKind.wrap .i64 (s1+1)),x18.2.fL,x18.2.fAt,x24)))else(if(x14.1==1)=true then((cK 1500 x14.2).bind fun x26=>(inO [(aA.mk 0 100000 (bv.mk 100 1) x11.1 x12.1)] 0).bind fun _=>(modO [(aA.mk 0 100000 (bv.mk 100 1) x11.1 x12.1)] 0 (fun(z30:aA)=>(aA.mk x26.1 z30.fTo z30.dn z30.aZ z30.bD))).bind fun x29=>(qt s4 [(ar.mk x13 x29)] 88).bind fun x31=>some (.next ((IntKind.wrap .i64 (s1+1)),x26.2.fL,x26.2.fAt,x31)))else((qt s4 [(ar.mk x13 [(aA.mk 0 100000 (bv.mk 100 1) x11.1 x12.1)])] 88).bind fun x32=>some (.next ((IntKind.wrap .i64 (s1+1)),x14.2.fL,x14.2.fAt,x32)))))else(some (.stop (s2,s3,s4))))else(some (.stop (s2,s3,s4)))
def np(a1:Int)(d0:ae):Option (aq×ae):=
  (p9 (l8 a1) kw (0,d0.fL,d0.fAt,([]:(List ar)))).bind fun o34=>some ((aq.mk o34.2.2),(ae.mk o34.1 o34.2.1))
def gd(a0:aF):Option (Int):=
  if(decide (a0.bp<1))=true then(some 21)else(if(decide (a0.bp>1048576))=true then(some 21)else(if((a0.aK.length:Int) != (a0.aG.length:Int))=true then(some 21)else(if(decide ((a0.aK.length:Int)<2))=true then(some 21)else(if(decide ((a0.aK.length:Int)>256))=true then(some 21)else((p9 (jJ a0) kw (0,0,0)).bind fun o23=>match o23 with| .inl _=>(some 0)| .inr r25=>(some r25))))))
def iP(a0:Int):Option (Int):=
  (mT a0).bind fun x1=>some x1
def jt(a0:Int):Option (Int):=
  if(decide (a0<=0))=true then(some 0)else((iP (IntKind.wrap .u64 a0)).bind fun x2=>(sl .i64 (IntKind.wrap .i64 (x2-1)) 2).bind fun x3=>(xC .i64 1 x3).bind fun x4=>(p9 (gQ a0) kw (0,x4)).bind fun o13=>some o13)
def l9(a0:Int):Option (Int):=
  (jt a0).bind fun x1=>if(decide ((IntKind.wrap .i64 (x1*x1))<a0))=true then(some (IntKind.wrap .i64 (x1+1)))else(some x1)
def kr(a0:Int)(d0:aF)(d1:Int):Option (Int):=
  (p9 (gl d0 d1) kw (0,a0)).bind fun o9=>some o9
def lL(a0:aF)(a1:Int)(a2:Int):Option (Int×Int×Int):=
  (gd a0).bind fun x1=>if(x1 != 0)=true then(some (0,0,21))else(if(decide (a1<0))=true then(some (0,0,2))else(if(decide (a1>a2))=true then(some (0,0,2))else((l9 a2).bind fun x5=>(lf a0).bind fun x6=>if(decide (x5>x6))=true then(some (0,0,22))else((kr (a0.aG.length:Int) a0 x5).bind fun x8=>(jt a1).bind fun x9=>(sl .i64 x9 a0.bp).bind fun x10=>(fV a0.aK x10).bind fun x11=>(fV a0.aG x8).bind fun x12=>some (x11,x12,0)))))
def lm(a0:aF)(a1:ai)(a2:aa):Option (Int×Int×Int):=
  (gd a0).bind fun x1=>if(x1 != 0)=true then(some (0,0,x1))else((bI a1).bind fun x3=>if(!x3)=true then(some (0,0,20))else((cW a2).bind fun x5=>if(!x5)=true then(some (0,0,20))else((jM a0 a1 a2).bind fun x7=>(lL x7.1 x7.2.1 x7.2.2).bind fun x8=>some (x8.1,x8.2.1,x8.2.2))))
def oC(a0:aF)(a1:ai)(a2:al):Option (aL×Int):=
  (gd a0).bind fun x1=>if(x1 != 0)=true then(some ((aL.mk 0 0),x1))else((bI a1).bind fun x3=>if(!x3)=true then(some ((aL.mk 0 0),20))else((dX a2).bind fun x5=>if(!x5)=true then(some ((aL.mk 0 0),23))else((lm a0 a1 a2.aM).bind fun x7=>if(x7.2.2 != 0)=true then(some ((aL.mk 0 0),x7.2.2))else(some ((aL.mk (IntKind.wrap .i64 (a2.aP-x7.2.1)) (IntKind.wrap .i64 (a2.bh-x7.1))),0)))))
def iF(a0:(List UInt8))(a1:Int)(a2:Int):Option (Bool):=
  (p9 (jn a0) kw 0).bind fun o8=>match o8 with| .inl _=>(if(decide ((a0.length:Int)>=a1))=true then(some (decide ((a0.length:Int)<=a2)))else(some false))| .inr r10=>(some r10)
def ld(a0:aw):Option (Bool):=
  (iF a0.aY 1 2).bind fun x1=>if x1=true then((iF a0.aM 1 5).bind fun x3=>if x3=true then((iF a0.aj 0 2).bind fun x5=>if x5=true then(if((a0.aj.length:Int) != 1)=true then((iF a0.a7 3 3).bind fun x8=>some x8)else(some false))else(some false))else(some false))else(some false)
def rr(a0:Int)(a1:Int):Option (Int):=
  (p9 (rate_gcd_l7) kw (a0,a1)).bind fun o8=>some o8
def oP(a0:bv):Option (Bool):=
  (qm a0.bn 1 4096).bind fun x1=>if x1=true then((qm a0.bg 1 4096).bind fun x3=>if x3=true then((rr a0.bn a0.bg).bind fun x5=>some (x5==1))else(some false))else(some false)
def eZ(a0:(List Int)):Option (Int):=
  (p9 (dw a0) kw 0).bind fun o8=>match o8 with| .inl _=>(some (-1))| .inr r10=>(some r10)
def d5(a0:(List Int)):Option (Bool):=
  (eZ a0).bind fun x1=>some (decide (x1>=0))
def d4(a0:(List Int)):Option (Bool):=
  (d5 a0).bind fun x1=>some (!x1)
def jg(a0:(List Int)):Option (Int):=
  (p9 (mi a0) kw (0,0)).bind fun o8=>some o8
def iI(a0:aH):Option (Bool):=
  if((a0.ch.length:Int)==0)=true then(if(a0.bS==0)=true then(if(a0.db==0)=true then(if(a0.ca==0)=true then(if((a0.bn.a0==a0.bn.a0)&&((a0.bn.a1==0)&&((a0.bn.a2==0)&&true)))=true then(if((a0.bg.a0==a0.bg.a0)&&((a0.bg.a1==0)&&((a0.bg.a2==0)&&true)))=true then((bC a0.bn.a0 1 1048576).bind fun x7=>if x7=true then((bC a0.bg.a0 1 1048576).bind fun x9=>some x9)else(some false))else(some false))else(some false))else(some false))else(if(a0.db==1)=true then(if(a0.ca==0)=true then((d4 [a0.bn.a0,a0.bn.a1,a0.bn.a2]).bind fun x12=>if x12=true then((d4 [a0.bg.a0,a0.bg.a1,a0.bg.a2]).bind fun x14=>if x14=true then(some (a0.bg.a0 != 0))else(some false))else(some false))else(some false))else(if(a0.db==2)=true then(if((a0.bn.a0==0)&&((a0.bn.a1==0)&&((a0.bn.a2==0)&&true)))=true then(if((a0.bg.a0==0)&&((a0.bg.a1==0)&&((a0.bg.a2==0)&&true)))=true then((bC (a0.ch.length:Int) 1 128).bind fun x19=>if x19=true then((d4 a0.ch).bind fun x21=>if x21=true then((jg a0.ch).bind fun x23=>if(x23 != 0)=true then((bC a0.bS 1 64).bind fun x25=>if x25=true then((bC a0.ca 0 40).bind fun x27=>some x27)else(some false))else(some false))else(some false))else(some false))else(some false))else(some false))else(some false))))else(if(a0.db==0)=true then(some false)else(if(a0.db==1)=true then(some false)else(if(a0.db==2)=true then(if((a0.bn.a0==0)&&((a0.bn.a1==0)&&((a0.bn.a2==0)&&true)))=true then(if((a0.bg.a0==0)&&((a0.bg.a1==0)&&((a0.bg.a2==0)&&true)))=true then((bC (a0.ch.length:Int) 1 128).bind fun x33=>if x33=true then((d4 a0.ch).bind fun x35=>if x35=true then((jg a0.ch).bind fun x37=>if(x37 != 0)=true then((bC a0.bS 1 64).bind fun x39=>if x39=true then((bC a0.ca 0 40).bind fun x41=>some x41)else(some false))else(some false))else(some false))else(some false))else(some false))else(some false))else(some false)))))else(if(a0.db==0)=true then(some false)else(if(a0.db==1)=true then(some false)else(if(a0.db==2)=true then(if((a0.bn.a0==0)&&((a0.bn.a1==0)&&((a0.bn.a2==0)&&true)))=true then(if((a0.bg.a0==0)&&((a0.bg.a1==0)&&((a0.bg.a2==0)&&true)))=true then((bC (a0.ch.length:Int) 1 128).bind fun x47=>if x47=true then((d4 a0.ch).bind fun x49=>if x49=true then((jg a0.ch).bind fun x51=>if(x51 != 0)=true then((bC a0.bS 1 64).bind fun x53=>if x53=true then((bC a0.ca 0 40).bind fun x55=>some x55)else(some false))else(some false))else(some false))else(some false))else(some false))else(some false))else(some false))))
def iJ(a0:aH):Option (Bool):=
  (iI a0).bind fun x1=>some (!x1)
def dR(a0:(List aH)):Int->Option (gD (Int) ((Unit)⊕(Int))):=fun s1=>
  if(decide (s1<(a0.length:Int)))=true then((fV a0 s1).bind fun x4=>(iJ x4).bind fun x5=>if x5=true then(some (.stop (.inr s1)))else(some (.next (IntKind.wrap .i64 (s1+1)))))else(some (.stop (.inl ())))
def ey(a0:(List aH)):Option (Int):=
  (p9 (dR a0) kw 0).bind fun o8=>match o8 with| .inl _=>(some (-1))| .inr r10=>(some r10)
def dQ(a0:(List aH)):Option (Bool):=
  (ey a0).bind fun x1=>some (decide (x1>=0))
def k8(a0:(List aH)):Option (Int):=
  (p9 (ib a0) kw (1,0)).bind fun o10=>match o10 with| .inl y11=>(some y11)| .inr r12=>(some r12)
def lF(a0:aO):Option (Bool):=
  if(decide ((a0.bt.length:Int)>8))=true then(some false)else((dQ a0.bt).bind fun x2=>if x2=true then(some false)else((k8 a0.bt).bind fun x4=>some (decide (x4>0))))
def gT(a0:aA):Option (Bool):=
  if(decide (a0.bB>=0))=true then(if(decide (a0.bB<a0.fTo))=true then(if(decide (a0.fTo<=9007199254740992))=true then((oP a0.dn).bind fun x4=>if x4=true then((lF a0.bD).bind fun x6=>if x6=true then((du a0.aZ.fX (-1048576) 1048576).bind fun x8=>if x8=true then((du a0.aZ.fY (-1048576) 1048576).bind fun x10=>if x10=true then((du a0.aZ.fZ (-16384) 1048576).bind fun x12=>some x12)else(some false))else(some false))else(some false))else(some false))else(some false))else(some false))else(some false)
def gW(a0:(List aA)):Int->Option (gD (Int) ((Unit)⊕(Bool))):=fun s1=>
  if(decide (s1<(a0.length:Int)))=true then((fV a0 s1).bind fun x4=>(gT x4).bind fun x5=>if(!x5)=true then(some (.stop (.inr false)))else(if(decide (s1>0))=true then((fV a0 (IntKind.wrap .i64 (s1-1))).bind fun x8=>if(decide (x4.bB<x8.fTo))=true then(some (.stop (.inr false)))else(some (.next (IntKind.wrap .i64 (s1+1)))))else(some (.next (IntKind.wrap .i64 (s1+1))))))else(some (.stop (.inl ())))
def kk(a0:(List aA)):Option (Bool):=
  (p9 (gW a0) kw 0).bind fun o11=>match o11 with| .inl _=>((du (a0.length:Int) 1 32).bind fun x14=>some x14)| .inr r13=>(some r13)
def oD(a0:(List Int)):Option (Int):=
  (p9 (dM a0) kw 0).bind fun o7=>match o7 with| .inl _=>(some 0)| .inr r9=>(some r9)
def lK(a0:aw)(a1:aw):Option (Int):=
  (b7 a0.aY a1.aY).bind fun x1=>(b7 a0.aM a1.aM).bind fun x2=>(b7 a0.aj a1.aj).bind fun x3=>(b7 a0.a7 a1.a7).bind fun x4=>(oD [x1,x2,x3,x4]).bind fun x5=>some x5
def iH(a0:aq):Int->Option (gD (Int) ((Unit)⊕(Bool))):=fun s1=>
  if(decide (s1<(a0.aI.length:Int)))=true then((fV a0.aI s1).bind fun x4=>(ld x4.aC).bind fun x5=>if(!x5)=true then(some (.stop (.inr false)))else((kk x4.bA).bind fun x7=>if(!x7)=true then(some (.stop (.inr false)))else(if(decide (s1>0))=true then((fV a0.aI (IntKind.wrap .i64 (s1-1))).bind fun x10=>(lK x10.aC x4.aC).bind fun x11=>if(decide (x11>=0))=true then(some (.stop (.inr false)))else(some (.next (IntKind.wrap .i64 (s1+1)))))else(some (.next (IntKind.wrap .i64 (s1+1)))))))else(some (.stop (.inl ())))
def kU(a0:aq):Option (Bool):=
  (p9 (iH a0) kw 0).bind fun o14=>match o14 with| .inl _=>(some (decide ((a0.aI.length:Int)<=128)))| .inr r16=>(some r16)
def kl(a0:ac):Option (Bool):=
  (ld a0.aC).bind fun x1=>if x1=true then(if(decide (a0.aP>=0))=true then(if(decide (a0.aP<=a0.a8))=true then(if(decide (a0.a8<=a0.bh))=true then(if(decide (a0.bh<=18014398509481984))=true then((jz a0.aS 0 1073741823).bind fun x7=>if x7=true then((jz a0.aT (-1) 1).bind fun x9=>some x9)else(some false))else(some false))else(some false))else(some false))else(some false))else(some false)
def iG(a0:aA):Option (aA):=
  (sf 96 a0.bD.bt).bind fun x1=>(p9 (eI x1) kw (0,x1)).bind fun o16=>some (aA.mk a0.bB a0.fTo a0.dn a0.aZ (aO.mk o16))
def gV(x1:(List aA)):(Int×(List aA))->Option (gD (Int×(List aA)) ((List aA))):=fun(s2,s3)=>
  if(decide (s2<(x1.length:Int)))=true then((inO s3 s2).bind fun _=>(fV s3 s2).bind fun x9=>(iG x9).bind fun x10=>(inO s3 s2).bind fun _=>(ta s3 s2 x10).bind fun x13=>some (.next ((IntKind.wrap .i64 (s2+1)),x13)))else(some (.stop s3))
def kj(a0:ar):Option (ar):=
  (sf 80 a0.bA).bind fun x1=>(p9 (gV x1) kw (0,x1)).bind fun o15=>some (ar.mk a0.aC o15)
def jG(a0:aq)(a1:aw):Int->Option (gD (Int) ((Unit)⊕(ar×Bool))):=fun s1=>
  if(decide (s1<(a0.aI.length:Int)))=true then((fV a0.aI s1).bind fun x4=>if((x4.aC.aY==a1.aY)&&((x4.aC.aM==a1.aM)&&((x4.aC.aj==a1.aj)&&((x4.aC.a7==a1.a7)&&true))))=true then((kj x4).bind fun x6=>some (.stop (.inr (x6,true))))else(some (.next (IntKind.wrap .i64 (s1+1)))))else(some (.stop (.inl ())))
def lw(a0:aq)(a1:aw):Option (ar×Bool):=
  (p9 (jG a0 a1) kw 0).bind fun o8=>match o8 with| .inl _=>(some ((ar.mk (aw.mk [] [] [] []) []),false))| .inr r10=>(some r10)
def mX(a0:ar)(a1:Int):Option (aA×Bool):=
  (p9 (jY a0 a1) kw 0).bind fun o8=>match o8 with| .inl _=>(some ((aA.mk 0 0 (bv.mk 0 0) (aa.mk 0 0 0) (aO.mk [])),false))| .inr r10=>(some r10)
def mW(a0:aq)(a1:aw)(a2:Int):Option (aA×Int):=
  (kU a0).bind fun x1=>if(!x1)=true then(some ((aA.mk 0 0 (bv.mk 0 0) (aa.mk 0 0 0) (aO.mk [])),1))else((lw a0 a1).bind fun x3=>(mX x3.1 a2).bind fun x4=>if(!x4.2)=true then(some ((aA.mk 0 0 (bv.mk 0 0) (aa.mk 0 0 0) (aO.mk [])),6))else(some (x4.1,0)))
def iv(a0:ak)(a1:aq)(a2:ac):Option (al×aA×Bool):=
  (kl a2).bind fun x1=>if(!x1)=true then(some ((al.mk (aa.mk 0 0 0) 0 0 0),(aA.mk 0 0 (bv.mk 0 0) (aa.mk 0 0 0) (aO.mk [])),false))else((mW a1 a2.aC a2.a8).bind fun x3=>if(x3.2 != 0)=true then(some ((al.mk (aa.mk 0 0 0) 0 0 0),(aA.mk 0 0 (bv.mk 0 0) (aa.mk 0 0 0) (aO.mk [])),false))else((oC a0.ag.bi a0.ag.aN (al.mk x3.1.aZ a2.aP a2.bh 1)).bind fun x5=>if(x5.2 != 0)=true then(some ((al.mk (aa.mk 0 0 0) 0 0 0),(aA.mk 0 0 (bv.mk 0 0) (aa.mk 0 0 0) (aO.mk [])),false))else(some ((al.mk x3.1.aZ a2.aP a2.bh 1),x3.1,true))))
instance :∀a0,LeC (oJ a0) (im a0):=fun _=>⟨by unfold oJ im;exact ko⟩
theorem keep_New_le(a0:(List Int)):Le (oJ a0) (im a0):=LeC.le
instance :∀d0,LeC (nq d0) (jp d0):=fun _=>⟨by unfold nq jp;exact ko⟩
instance :∀a1 d0,LeC (kI a1 d0) (dV a1 d0):=fun _ _=>⟨by unfold kI dV;exact ko⟩
instance :∀d0,LeC (pu d0) (ku d0):=fun _=>⟨by unfold pu ku;exact ko⟩
instance :∀a1 d0,LeC (kK a1 d0) (cU a1 d0):=fun _ _=>⟨by unfold kK cU;exact ko⟩
theorem Src_Settings_le(a1:Int)(d0:ae):Le (kK a1 d0) (cU a1 d0):=LeC.le
instance :∀d0,LeC (kJ d0) (eV d0):=fun _=>⟨by unfold kJ eV;exact ko⟩
instance :∀a0,LeC (jN a0) (c6 a0):=fun _=>⟨by unfold jN c6;exact ko⟩
theorem keep_Source_le(a0:Int):Le (jN a0) (c6 a0):=LeC.le
instance :∀a1 s,LeC (l8 a1 s) (jK a1 s):=fun _ _=>⟨by unfold l8 jK;(try dsimp only);exact ko⟩
instance :∀a1 d0,LeC (np a1 d0) (eD a1 d0):=fun _ _=>⟨by unfold np eD;exact ko⟩
theorem Src_Sites_le(a1:Int)(d0:ae):Le (np a1 d0) (eD a1 d0):=LeC.le
instance :∀a0,LeC (gd a0) (cN a0):=fun _=>⟨by unfold gd cN;exact ko⟩
instance :∀a0,LeC (iP a0) (fG a0):=fun _=>⟨by unfold iP fG;exact ko⟩
theorem bits_Len_le(a0:Int):Le (iP a0) (fG a0):=LeC.le
instance :∀a0,LeC (jt a0) (fk a0):=fun _=>⟨by unfold jt fk;exact ko⟩
instance :∀a0,LeC (l9 a0) (iA a0):=fun _=>⟨by unfold l9 iA;exact ko⟩
instance :∀a0 d0 d1,LeC (kr a0 d0 d1) (dJ a0 d0 d1):=fun _ _ _=>⟨by unfold kr dJ;exact ko⟩
instance :∀a0 a1 a2,LeC (lL a0 a1 a2) (cf a0 a1 a2):=fun _ _ _=>⟨by unfold lL cf;exact ko⟩
instance :∀a0 a1 a2,LeC (lm a0 a1 a2) (gq a0 a1 a2):=fun _ _ _=>⟨by unfold lm gq;exact ko⟩
instance :∀a0 a1 a2,LeC (oC a0 a1 a2) (dN a0 a1 a2):=fun _ _ _=>⟨by unfold oC dN;exact ko⟩
instance :∀a0 a1 a2,LeC (iF a0 a1 a2) (f9 a0 a1 a2):=fun _ _ _=>⟨by unfold iF f9;exact ko⟩
instance :∀a0,LeC (ld a0) (ie a0):=fun _=>⟨by unfold ld ie;exact ko⟩
instance :∀a0 a1,LeC (rr a0 a1) (pV a0 a1):=fun _ _=>⟨by unfold rr pV;exact ko⟩
instance :∀a0,LeC (oP a0) (lC a0):=fun _=>⟨by unfold oP lC;exact ko⟩
instance :∀a0,LeC (eZ a0) (dh a0):=fun _=>⟨by unfold eZ dh;exact ko⟩
instance :∀a0,LeC (d5 a0) (cL a0):=fun _=>⟨by unfold d5 cL;exact ko⟩
instance :∀a0,LeC (d4 a0) (cx a0):=fun _=>⟨by unfold d4 cx;exact ko⟩
instance :∀a0,LeC (jg a0) (dP a0):=fun _=>⟨by unfold jg dP;exact ko⟩
instance :∀a0,LeC (iI a0) (cS a0):=fun _=>⟨by unfold iI cS;exact ko⟩
instance :∀a0,LeC (iJ a0) (eR a0):=fun _=>⟨by unfold iJ eR;exact ko⟩
instance :∀a0 s,LeC (dR a0 s) (cy a0 s):=fun _ _=>⟨by unfold dR cy;(try dsimp only);exact ko⟩
instance :∀a0,LeC (ey a0) (cV a0):=fun _=>⟨by unfold ey cV;exact ko⟩
instance :∀a0,LeC (dQ a0) (cb a0):=fun _=>⟨by unfold dQ cb;exact ko⟩
instance :∀a0,LeC (k8 a0) (fC a0):=fun _=>⟨by unfold k8 fC;exact ko⟩
instance :∀a0,LeC (lF a0) (fo a0):=fun _=>⟨by unfold lF fo;exact ko⟩
instance :∀a0,LeC (gT a0) (dH a0):=fun _=>⟨by unfold gT dH;exact ko⟩
instance :∀a0 s,LeC (gW a0 s) (ej a0 s):=fun _ _=>⟨by unfold gW ej;(try dsimp only);exact ko⟩
instance :∀a0,LeC (kk a0) (fi a0):=fun _=>⟨by unfold kk fi;exact ko⟩
instance :∀a0,LeC (oD a0) (cH a0):=fun _=>⟨by unfold oD cH;exact ko⟩
instance :∀a0 a1,LeC (lK a0 a1) (eC a0 a1):=fun _ _=>⟨by unfold lK eC;exact ko⟩
instance :∀a0 s,LeC (iH a0 s) (eQ a0 s):=fun _ _=>⟨by unfold iH eQ;(try dsimp only);exact ko⟩
instance :∀a0,LeC (kU a0) (c9 a0):=fun _=>⟨by unfold kU c9;exact ko⟩
instance :∀a0,LeC (kl a0) (fj a0):=fun _=>⟨by unfold kl fj;exact ko⟩
instance :∀a0,LeC (iG a0) (dU a0):=fun _=>⟨by unfold iG dU;exact ko⟩
instance :∀x1 s,LeC (gV x1 s) (ei x1 s):=fun _ _=>⟨by unfold gV ei;(try dsimp only);exact ko⟩
instance :∀a0,LeC (kj a0) (fh a0):=fun _=>⟨by unfold kj fh;exact ko⟩
instance :∀a0 a1 s,LeC (jG a0 a1 s) (fJ a0 a1 s):=fun _ _ _=>⟨by unfold jG fJ;(try dsimp only);exact ko⟩
instance :∀a0 a1,LeC (lw a0 a1) (gw a0 a1):=fun _ _=>⟨by unfold lw gw;exact ko⟩
instance :∀a0 a1,LeC (mX a0 a1) (jv a0 a1):=fun _ _=>⟨by unfold mX jv;exact ko⟩
instance :∀a0 a1 a2,LeC (mW a0 a1 a2) (ju a0 a1 a2):=fun _ _ _=>⟨by unfold mW ju;exact ko⟩
instance :∀a0 a1 a2,LeC (iv a0 a1 a2) (cQ a0 a1 a2):=fun _ _ _=>⟨by unfold iv cQ;exact ko⟩
theorem oo(a0:ak)(a1:aq)(a2:ac):Le (iv a0 a1 a2) (cQ a0 a1 a2):=LeC.le
end
end Go.Dw.Et
