
import Derived.Test.YtmmgjlgoggielaaGreatEtFn
import Derived.Test.YtmmgjlgoggielaaGreatDwLe

set_option maxRecDepth 100000
set_option maxHeartbeats 4000000
namespace Go.Dw.Et
open Go.Dw
noncomputable section
def kg:Nat:=600
def oz(a0:(List Int)):Option (ae):=
  (cutO a0 0 (if 2000<(a0.length:Int)then 2000 else(a0.length:Int))).bind fun x1=>some (ae.mk x1 0)
def na(d0:ae):Option (aF×ae):=
  (dD [20,25,40,100] d0).bind fun x1=>(cG 3 x1.2).bind fun x2=>(pR (jE x1) kg (0,x2.1,0,x2.2.fL,x2.2.fAt,([]:(List Int)),([]:(List Int)))).bind fun o24=>some ((aF.mk x1.1 o24.2.2.1 o24.2.2.2),(ae.mk o24.1 o24.2.1))
def kz(a1:Int)(d0:ae):Option (aJ×ae):=
  (oc 20 a1 d0).bind fun x1=>(na x1.2).bind fun x2=>(dD [10,50,200] x2.2).bind fun x3=>(dD [0,0,10,40] x3.2).bind fun x4=>(dD [0,50,200,400] x4.2).bind fun x5=>(dD [0,5,20] x5.2).bind fun x6=>(cG 2 x6.2).bind fun x7=>some ((aJ.mk x1.1 x2.1 x3.1 x4.1 x5.1 x6.1 (IntKind.wrap .i64 (2+x7.1))),x7.2)
def o0(d0:ae):Option (bt×ae):=
  (na d0).bind fun x1=>(cG 20 x1.2).bind fun x2=>(cG 9 x2.2).bind fun x3=>(pR (lE x1) kg (0,x1.1.aK,x1.1.aG)).bind fun o26=>some ((bt.mk (aF.mk x1.1.bo o26.1 o26.2) x2.1 (IntKind.wrap .i64 (1+x3.1))),x3.2)
def kB(a1:Int)(d0:ae):Option (ak×ae):=
  (kz a1 d0).bind fun x1=>(o0 x1.2).bind fun x2=>(dD [0,0,10,40] x2.2).bind fun x3=>some ((ak.mk x1.1 x2.1 x3.1),x3.2)
def kA(d0:ae):Option (aO×ae):=
  (cG 4 d0).bind fun x1=>(pR (jf) kg (x1.1,x1.2.fL,x1.2.fAt,([]:(List aH)))).bind fun o28=>some ((aO.mk o28.2.2),(ae.mk o28.1 o28.2.1))
def jH(a0:Int):Option (av):=
  (mP a0 6).bind fun x1=>(gy [[83,49],[83,50],[83,51],[83,52],[83,53],[83,54]] x1).bind fun x2=>some (av.mk [65,66] x2 [48,48] [66,72,90])
def lU(a1:Int):(Int×(List Int)×Int×(List aq))->Option (gz (Int×(List Int)×Int×(List aq)) ((List Int)×Int×(List aq))):=fun(s1,s2,s3,s4)=>
  if(decide (s1<a1))=true then(if(decide (s1<6))=true then((kd 60 (ae.mk s2 s3)).bind fun x11=>(kA x11.2).bind fun x12=>(jH s1).bind fun x13=>(cG 6 x12.2).bind fun x14=>if(x14.1==0)=true then((cG 500 x14.2).bind fun x16=>(kd 60 x16.2).bind fun x17=>(kA x17.2).bind fun x18=>(inO [(aA.mk 0 100000 (bu.mk 100 1) x11.1 x12.1)] 0).bind fun _=>(modO [(aA.mk 0 100000 (bu.mk 100 1) x11.1 x12.1)] 0 (fun(z22:aA)=>(aA.mk z22.bA (IntKind.wrap .i64 (1500+x16.1)) z22.dn z22.aY z22.bC))).bind fun x21=>(qd x21 [(aA.mk (IntKind.wrap .i64 (1500+x16.1)) 100000 (bu.mk 100 1) x17.1 x18.1)] 80).bind fun x23=>(qd s4 [(aq.mk x13 x23)] 88).bind fun x24=>some (.next ((IntKind.wrap .i64 (s1+1)),x18.2.fL,x18.2.fAt,x24)))else(if(x14.1==1)=true then((cG 1500 x14.2).bind fun x26=>(inO [(aA.mk 0 100000 (bu.mk 100 1) x11.1 x12.1)] 0).bind fun _=>(modO [(aA.mk 0 100000 (bu.mk 100 1) x11.1 x12.1)] 0 (fun(z30:aA)=>(aA.mk x26.1 z30.fTo z30.dn z30.aY z30.bC))).bind fun x29=>(qd s4 [(aq.mk x13 x29)] 88).bind fun x31=>some (.next ((IntKind.wrap .i64 (s1+1)),x26.2.fL,x26.2.fAt,x31)))else((qd s4 [(aq.mk x13 [(aA.mk 0 100000 (bu.mk 100 1) x11.1 x12.1)])] 88).bind fun x32=>some (.next ((IntKind.wrap .i64 (s1+1)),x14.2.fL,x14.2.fAt,x32)))))else(some (.stop (s2,s3,s4))))else(some (.stop (s2,s3,s4)))
def m9(a1:Int)(d0:ae):Option (ap×ae):=
  (pR (lU a1) kg (0,d0.fL,d0.fAt,([]:(List aq)))).bind fun o34=>some ((ap.mk o34.2.2),(ae.mk o34.1 o34.2.1))
def f4(a0:aF):Option (Int):=
  if(decide (a0.bo<1))=true then(some 21)else(if(decide (a0.bo>1048576))=true then(some 21)else(if((a0.aK.length:Int) != (a0.aG.length:Int))=true then(some 21)else(if(decide ((a0.aK.length:Int)<2))=true then(some 21)else(if(decide ((a0.aK.length:Int)>256))=true then(some 21)else((pR (jC a0) kg (0,0,0)).bind fun o23=>match o23 with| .inl _=>(some 0)| .inr r25=>(some r25))))))
def iI(a0:Int):Option (Int):=
  (mI a0).bind fun x1=>some x1
def jk(a0:Int):Option (Int):=
  if(decide (a0<=0))=true then(some 0)else((iI (IntKind.wrap .u64 a0)).bind fun x2=>(rT .i64 (IntKind.wrap .i64 (x2-1)) 2).bind fun x3=>(xu .i64 1 x3).bind fun x4=>(pR (gL a0) kg (0,x4)).bind fun o13=>some o13)
def lW(a0:Int):Option (Int):=
  (jk a0).bind fun x1=>if(decide ((IntKind.wrap .i64 (x1*x1))<a0))=true then(some (IntKind.wrap .i64 (x1+1)))else(some x1)
def kc(a0:Int)(d0:aF)(d1:Int):Option (Int):=
  (pR (gg d0 d1) kg (0,a0)).bind fun o9=>some o9
def lD(a0:aF)(a1:Int)(a2:Int):Option (Int×Int×Int):=
  (f4 a0).bind fun x1=>if(x1 != 0)=true then(some (0,0,21))else(if(decide (a1<0))=true then(some (0,0,2))else(if(decide (a1>a2))=true then(some (0,0,2))else((lW a2).bind fun x5=>(kW a0).bind fun x6=>if(decide (x5>x6))=true then(some (0,0,22))else((kc (a0.aG.length:Int) a0 x5).bind fun x8=>(jk a1).bind fun x9=>(rT .i64 x9 a0.bo).bind fun x10=>(gy a0.aK x10).bind fun x11=>(gy a0.aG x8).bind fun x12=>some (x11,x12,0)))))
def k8(a0:aF)(a1:ai)(a2:aa):Option (Int×Int×Int):=
  (f4 a0).bind fun x1=>if(x1 != 0)=true then(some (0,0,x1))else((bH a1).bind fun x3=>if(!x3)=true then(some (0,0,20))else((cV a2).bind fun x5=>if(!x5)=true then(some (0,0,20))else((jF a0 a1 a2).bind fun x7=>(lD x7.1 x7.2.1 x7.2.2).bind fun x8=>some (x8.1,x8.2.1,x8.2.2))))
def ol(a0:aF)(a1:ai)(a2:al):Option (aL×Int):=
  (f4 a0).bind fun x1=>if(x1 != 0)=true then(some ((aL.mk 0 0),x1))else((bH a1).bind fun x3=>if(!x3)=true then(some ((aL.mk 0 0),20))else((dW a2).bind fun x5=>if(!x5)=true then(some ((aL.mk 0 0),23))else((k8 a0 a1 a2.aM).bind fun x7=>if(x7.2.2 != 0)=true then(some ((aL.mk 0 0),x7.2.2))else(some ((aL.mk (IntKind.wrap .i64 (a2.aP-x7.2.1)) (IntKind.wrap .i64 (a2.bi-x7.1))),0)))))
def ix(a0:(List UInt8))(a1:Int)(a2:Int):Option (Bool):=
  (pR (je a0) kg 0).bind fun o8=>match o8 with| .inl _=>(if(decide ((a0.length:Int)>=a1))=true then(some (decide ((a0.length:Int)<=a2)))else(some false))| .inr r10=>(some r10)
def kV(a0:av):Option (Bool):=
  (ix a0.aZ 1 2).bind fun x1=>if x1=true then((ix a0.aM 1 5).bind fun x3=>if x3=true then((ix a0.aj 0 2).bind fun x5=>if x5=true then(if((a0.aj.length:Int) != 1)=true then((ix a0.a7 3 3).bind fun x8=>some x8)else(some false))else(some false))else(some false))else(some false)
def qZ(a0:Int)(a1:Int):Option (Int):=
  (pR (rate_gcd_l7) kg (a0,a1)).bind fun o8=>some o8
def oF(a0:bu):Option (Bool):=
  (qc a0.bn 1 4096).bind fun x1=>if x1=true then((qc a0.bf 1 4096).bind fun x3=>if x3=true then((qZ a0.bn a0.bf).bind fun x5=>some (x5==1))else(some false))else(some false)
def eX(a0:(List Int)):Option (Int):=
  (pR (dw a0) kg 0).bind fun o8=>match o8 with| .inl _=>(some (-1))| .inr r10=>(some r10)
def d4(a0:(List Int)):Option (Bool):=
  (eX a0).bind fun x1=>some (decide (x1>=0))
def dZ(a0:(List Int)):Option (Bool):=
  (d4 a0).bind fun x1=>some (!x1)
def iX(a0:(List Int)):Option (Int):=
  (pR (l8 a0) kg (0,0)).bind fun o8=>some o8
def iA(a0:aH):Option (Bool):=
  if((a0.cf.length:Int)==0)=true then(if(a0.bQ==0)=true then(if(a0.db==0)=true then(if(a0.b8==0)=true then(if((a0.bn.a0==a0.bn.a0)&&((a0.bn.a1==0)&&((a0.bn.a2==0)&&true)))=true then(if((a0.bf.a0==a0.bf.a0)&&((a0.bf.a1==0)&&((a0.bf.a2==0)&&true)))=true then((bB a0.bn.a0 1 1048576).bind fun x7=>if x7=true then((bB a0.bf.a0 1 1048576).bind fun x9=>some x9)else(some false))else(some false))else(some false))else(some false))else(if(a0.db==1)=true then(if(a0.b8==0)=true then((dZ [a0.bn.a0,a0.bn.a1,a0.bn.a2]).bind fun x12=>if x12=true then((dZ [a0.bf.a0,a0.bf.a1,a0.bf.a2]).bind fun x14=>if x14=true then(some (a0.bf.a0 != 0))else(some false))else(some false))else(some false))else(if(a0.db==2)=true then(if((a0.bn.a0==0)&&((a0.bn.a1==0)&&((a0.bn.a2==0)&&true)))=true then(if((a0.bf.a0==0)&&((a0.bf.a1==0)&&((a0.bf.a2==0)&&true)))=true then((bB (a0.cf.length:Int) 1 128).bind fun x19=>if x19=true then((dZ a0.cf).bind fun x21=>if x21=true then((iX a0.cf).bind fun x23=>if(x23 != 0)=true then((bB a0.bQ 1 64).bind fun x25=>if x25=true then((bB a0.b8 0 40).bind fun x27=>some x27)else(some false))else(some false))else(some false))else(some false))else(some false))else(some false))else(some false))))else(if(a0.db==0)=true then(some false)else(if(a0.db==1)=true then(some false)else(if(a0.db==2)=true then(if((a0.bn.a0==0)&&((a0.bn.a1==0)&&((a0.bn.a2==0)&&true)))=true then(if((a0.bf.a0==0)&&((a0.bf.a1==0)&&((a0.bf.a2==0)&&true)))=true then((bB (a0.cf.length:Int) 1 128).bind fun x33=>if x33=true then((dZ a0.cf).bind fun x35=>if x35=true then((iX a0.cf).bind fun x37=>if(x37 != 0)=true then((bB a0.bQ 1 64).bind fun x39=>if x39=true then((bB a0.b8 0 40).bind fun x41=>some x41)else(some false))else(some false))else(some false))else(some false))else(some false))else(some false))else(some false)))))else(if(a0.db==0)=true then(some false)else(if(a0.db==1)=true then(some false)else(if(a0.db==2)=true then(if((a0.bn.a0==0)&&((a0.bn.a1==0)&&((a0.bn.a2==0)&&true)))=true then(if((a0.bf.a0==0)&&((a0.bf.a1==0)&&((a0.bf.a2==0)&&true)))=true then((bB (a0.cf.length:Int) 1 128).bind fun x47=>if x47=true then((dZ a0.cf).bind fun x49=>if x49=true then((iX a0.cf).bind fun x51=>if(x51 != 0)=true then((bB a0.bQ 1 64).bind fun x53=>if x53=true then((bB a0.b8 0 40).bind fun x55=>some x55)else(some false))else(some false))else(some false))else(some false))else(some false))else(some false))else(some false))))
def iB(a0:aH):Option (Bool):=
  (iA a0).bind fun x1=>some (!x1)
def dQ(a0:(List aH)):Int->Option (gz (Int) ((Unit)⊕(Int))):=fun s1=>
  if(decide (s1<(a0.length:Int)))=true then((gy a0 s1).bind fun x4=>(iB x4).bind fun x5=>if x5=true then(some (.stop (.inr s1)))else(some (.next (IntKind.wrap .i64 (s1+1)))))else(some (.stop (.inl ())))
def ew(a0:(List aH)):Option (Int):=
  (pR (dQ a0) kg 0).bind fun o8=>match o8 with| .inl _=>(some (-1))| .inr r10=>(some r10)
def dP(a0:(List aH)):Option (Bool):=
  (ew a0).bind fun x1=>some (decide (x1>=0))
def kR(a0:(List aH)):Option (Int):=
  (pR (gY a0) kg (1,0)).bind fun o10=>match o10 with| .inl y11=>(some y11)| .inr r12=>(some r12)
def lx(a0:aO):Option (Bool):=
  if(decide ((a0.bq.length:Int)>8))=true then(some false)else((dP a0.bq).bind fun x2=>if x2=true then(some false)else((kR a0.bq).bind fun x4=>some (decide (x4>0))))
def gN(a0:aA):Option (Bool):=
  if(decide (a0.bA>=0))=true then(if(decide (a0.bA<a0.fTo))=true then(if(decide (a0.fTo<=9007199254740992))=true then((oF a0.dn).bind fun x4=>if x4=true then((lx a0.bC).bind fun x6=>if x6=true then((du a0.aY.fX (-1048576) 1048576).bind fun x8=>if x8=true then((du a0.aY.fY (-1048576) 1048576).bind fun x10=>if x10=true then((du a0.aY.fZ (-16384) 1048576).bind fun x12=>some x12)else(some false))else(some false))else(some false))else(some false))else(some false))else(some false))else(some false)
def gQ(a0:(List aA)):Int->Option (gz (Int) ((Unit)⊕(Bool))):=fun s1=>
  if(decide (s1<(a0.length:Int)))=true then((gy a0 s1).bind fun x4=>(gN x4).bind fun x5=>if(!x5)=true then(some (.stop (.inr false)))else(if(decide (s1>0))=true then((gy a0 (IntKind.wrap .i64 (s1-1))).bind fun x8=>if(decide (x4.bA<x8.fTo))=true then(some (.stop (.inr false)))else(some (.next (IntKind.wrap .i64 (s1+1)))))else(some (.next (IntKind.wrap .i64 (s1+1))))))else(some (.stop (.inl ())))
def jX(a0:(List aA)):Option (Bool):=
  (pR (gQ a0) kg 0).bind fun o11=>match o11 with| .inl _=>((du (a0.length:Int) 1 32).bind fun x14=>some x14)| .inr r13=>(some r13)
def oq(a0:(List Int)):Option (Int):=
  (pR (dL a0) kg 0).bind fun o7=>match o7 with| .inl _=>(some 0)| .inr r9=>(some r9)
def lC(a0:av)(a1:av):Option (Int):=
  (bX a0.aZ a1.aZ).bind fun x1=>(bX a0.aM a1.aM).bind fun x2=>(bX a0.aj a1.aj).bind fun x3=>(bX a0.a7 a1.a7).bind fun x4=>(oq [x1,x2,x3,x4]).bind fun x5=>some x5
def iz(a0:ap):Int->Option (gz (Int) ((Unit)⊕(Bool))):=fun s1=>
  if(decide (s1<(a0.aI.length:Int)))=true then((gy a0.aI s1).bind fun x4=>(kV x4.aC).bind fun x5=>if(!x5)=true then(some (.stop (.inr false)))else((jX x4.bz).bind fun x7=>if(!x7)=true then(some (.stop (.inr false)))else(if(decide (s1>0))=true then((gy a0.aI (IntKind.wrap .i64 (s1-1))).bind fun x10=>(lC x10.aC x4.aC).bind fun x11=>if(decide (x11>=0))=true then(some (.stop (.inr false)))else(some (.next (IntKind.wrap .i64 (s1+1)))))else(some (.next (IntKind.wrap .i64 (s1+1)))))))else(some (.stop (.inl ())))
def kL(a0:ap):Option (Bool):=
  (pR (iz a0) kg 0).bind fun o14=>match o14 with| .inl _=>(some (decide ((a0.aI.length:Int)<=128)))| .inr r16=>(some r16)
def jY(a0:ac):Option (Bool):=
  (kV a0.aC).bind fun x1=>if x1=true then(if(decide (a0.aP>=0))=true then(if(decide (a0.aP<=a0.a8))=true then(if(decide (a0.a8<=a0.bi))=true then(if(decide (a0.bi<=18014398509481984))=true then((jq a0.aS 0 1073741823).bind fun x7=>if x7=true then((jq a0.aW (-1) 1).bind fun x9=>some x9)else(some false))else(some false))else(some false))else(some false))else(some false))else(some false)
def iy(a0:aA):Option (aA):=
  (rE 96 a0.bC.bq).bind fun x1=>(pR (eF x1) kg (0,x1)).bind fun o16=>some (aA.mk a0.bA a0.fTo a0.dn a0.aY (aO.mk o16))
def gP(x1:(List aA)):(Int×(List aA))->Option (gz (Int×(List aA)) ((List aA))):=fun(s2,s3)=>
  if(decide (s2<(x1.length:Int)))=true then((inO s3 s2).bind fun _=>(gy s3 s2).bind fun x9=>(iy x9).bind fun x10=>(inO s3 s2).bind fun _=>(sy s3 s2 x10).bind fun x13=>some (.next ((IntKind.wrap .i64 (s2+1)),x13)))else(some (.stop s3))
def jW(a0:aq):Option (aq):=
  (rE 80 a0.bz).bind fun x1=>(pR (gP x1) kg (0,x1)).bind fun o15=>some (aq.mk a0.aC o15)
def jz(a0:ap)(a1:av):Int->Option (gz (Int) ((Unit)⊕(aq×Bool))):=fun s1=>
  if(decide (s1<(a0.aI.length:Int)))=true then((gy a0.aI s1).bind fun x4=>if((x4.aC.aZ==a1.aZ)&&((x4.aC.aM==a1.aM)&&((x4.aC.aj==a1.aj)&&((x4.aC.a7==a1.a7)&&true))))=true then((jW x4).bind fun x6=>some (.stop (.inr (x6,true))))else(some (.next (IntKind.wrap .i64 (s1+1)))))else(some (.stop (.inl ())))
def lg(a0:ap)(a1:av):Option (aq×Bool):=
  (pR (jz a0 a1) kg 0).bind fun o8=>match o8 with| .inl _=>(some ((aq.mk (av.mk [] [] [] []) []),false))| .inr r10=>(some r10)
def mN(a0:aq)(a1:Int):Option (aA×Bool):=
  (pR (jR a0 a1) kg 0).bind fun o8=>match o8 with| .inl _=>(some ((aA.mk 0 0 (bu.mk 0 0) (aa.mk 0 0 0) (aO.mk [])),false))| .inr r10=>(some r10)
def mM(a0:ap)(a1:av)(a2:Int):Option (aA×Int):=
  (kL a0).bind fun x1=>if(!x1)=true then(some ((aA.mk 0 0 (bu.mk 0 0) (aa.mk 0 0 0) (aO.mk [])),1))else((lg a0 a1).bind fun x3=>(mN x3.1 a2).bind fun x4=>if(!x4.2)=true then(some ((aA.mk 0 0 (bu.mk 0 0) (aa.mk 0 0 0) (aO.mk [])),6))else(some (x4.1,0)))
def il(a0:ak)(a1:ap)(a2:ac):Option (al×aA×Bool):=
  (jY a2).bind fun x1=>if(!x1)=true then(some ((al.mk (aa.mk 0 0 0) 0 0 0),(aA.mk 0 0 (bu.mk 0 0) (aa.mk 0 0 0) (aO.mk [])),false))else((mM a1 a2.aC a2.a8).bind fun x3=>if(x3.2 != 0)=true then(some ((al.mk (aa.mk 0 0 0) 0 0 0),(aA.mk 0 0 (bu.mk 0 0) (aa.mk 0 0 0) (aO.mk [])),false))else((ol a0.ag.bg a0.ag.aN (al.mk x3.1.aY a2.aP a2.bi 1)).bind fun x5=>if(x5.2 != 0)=true then(some ((al.mk (aa.mk 0 0 0) 0 0 0),(aA.mk 0 0 (bu.mk 0 0) (aa.mk 0 0 0) (aO.mk [])),false))else(some ((al.mk x3.1.aY a2.aP a2.bi 1),x3.1,true))))
instance :∀a0,LeC (oz a0) (ib a0):=fun _=>⟨by unfold oz ib;exact lv⟩
theorem keep_New_le(a0:(List Int)):Le (oz a0) (ib a0):=LeC.le
instance :∀d0,LeC (na d0) (jg d0):=fun _=>⟨by unfold na jg;exact lv⟩
instance :∀a1 d0,LeC (kz a1 d0) (dV a1 d0):=fun _ _=>⟨by unfold kz dV;exact lv⟩
instance :∀d0,LeC (o0 d0) (ke d0):=fun _=>⟨by unfold o0 ke;exact lv⟩
instance :∀a1 d0,LeC (kB a1 d0) (cQ a1 d0):=fun _ _=>⟨by unfold kB cQ;exact lv⟩
theorem Src_Settings_le(a1:Int)(d0:ae):Le (kB a1 d0) (cQ a1 d0):=LeC.le
instance :∀d0,LeC (kA d0) (eT d0):=fun _=>⟨by unfold kA eT;exact lv⟩
instance :∀a0,LeC (jH a0) (cW a0):=fun _=>⟨by unfold jH cW;exact lv⟩
theorem keep_Source_le(a0:Int):Le (jH a0) (cW a0):=LeC.le
instance :∀a1 s,LeC (lU a1 s) (jD a1 s):=fun _ _=>⟨by unfold lU jD;(try dsimp only);exact lv⟩
instance :∀a1 d0,LeC (m9 a1 d0) (eB a1 d0):=fun _ _=>⟨by unfold m9 eB;exact lv⟩
theorem Src_Sites_le(a1:Int)(d0:ae):Le (m9 a1 d0) (eB a1 d0):=LeC.le
instance :∀a0,LeC (f4 a0) (cL a0):=fun _=>⟨by unfold f4 cL;exact lv⟩
instance :∀a0,LeC (iI a0) (fD a0):=fun _=>⟨by unfold iI fD;exact lv⟩
theorem bits_Len_le(a0:Int):Le (iI a0) (fD a0):=LeC.le
instance :∀a0,LeC (jk a0) (fi a0):=fun _=>⟨by unfold jk fi;exact lv⟩
instance :∀a0,LeC (lW a0) (iq a0):=fun _=>⟨by unfold lW iq;exact lv⟩
instance :∀a0 d0 d1,LeC (kc a0 d0 d1) (dI a0 d0 d1):=fun _ _ _=>⟨by unfold kc dI;exact lv⟩
instance :∀a0 a1 a2,LeC (lD a0 a1 a2) (cb a0 a1 a2):=fun _ _ _=>⟨by unfold lD cb;exact lv⟩
instance :∀a0 a1 a2,LeC (k8 a0 a1 a2) (gj a0 a1 a2):=fun _ _ _=>⟨by unfold k8 gj;exact lv⟩
instance :∀a0 a1 a2,LeC (ol a0 a1 a2) (dM a0 a1 a2):=fun _ _ _=>⟨by unfold ol dM;exact lv⟩
instance :∀a0 a1 a2,LeC (ix a0 a1 a2) (fW a0 a1 a2):=fun _ _ _=>⟨by unfold ix fW;exact lv⟩
instance :∀a0,LeC (kV a0) (hC a0):=fun _=>⟨by unfold kV hC;exact lv⟩
instance :∀a0 a1,LeC (qZ a0 a1) (pM a0 a1):=fun _ _=>⟨by unfold qZ pM;exact lv⟩
instance :∀a0,LeC (oF a0) (lu a0):=fun _=>⟨by unfold oF lu;exact lv⟩
instance :∀a0,LeC (eX a0) (dh a0):=fun _=>⟨by unfold eX dh;exact lv⟩
instance :∀a0,LeC (d4 a0) (cH a0):=fun _=>⟨by unfold d4 cH;exact lv⟩
instance :∀a0,LeC (dZ a0) (cw a0):=fun _=>⟨by unfold dZ cw;exact lv⟩
instance :∀a0,LeC (iX a0) (dO a0):=fun _=>⟨by unfold iX dO;exact lv⟩
instance :∀a0,LeC (iA a0) (cO a0):=fun _=>⟨by unfold iA cO;exact lv⟩
instance :∀a0,LeC (iB a0) (eP a0):=fun _=>⟨by unfold iB eP;exact lv⟩
instance :∀a0 s,LeC (dQ a0 s) (cx a0 s):=fun _ _=>⟨by unfold dQ cx;(try dsimp only);exact lv⟩
instance :∀a0,LeC (ew a0) (cU a0):=fun _=>⟨by unfold ew cU;exact lv⟩
instance :∀a0,LeC (dP a0) (b9 a0):=fun _=>⟨by unfold dP b9;exact lv⟩
instance :∀a0,LeC (kR a0) (fB a0):=fun _=>⟨by unfold kR fB;exact lv⟩
instance :∀a0,LeC (lx a0) (fk a0):=fun _=>⟨by unfold lx fk;exact lv⟩
instance :∀a0,LeC (gN a0) (dG a0):=fun _=>⟨by unfold gN dG;exact lv⟩
instance :∀a0 s,LeC (gQ a0 s) (eh a0 s):=fun _ _=>⟨by unfold gQ eh;(try dsimp only);exact lv⟩
instance :∀a0,LeC (jX a0) (fg a0):=fun _=>⟨by unfold jX fg;exact lv⟩
instance :∀a0,LeC (oq a0) (cB a0):=fun _=>⟨by unfold oq cB;exact lv⟩
instance :∀a0 a1,LeC (lC a0 a1) (ey a0 a1):=fun _ _=>⟨by unfold lC ey;exact lv⟩
instance :∀a0 s,LeC (iz a0 s) (eO a0 s):=fun _ _=>⟨by unfold iz eO;(try dsimp only);exact lv⟩
instance :∀a0,LeC (kL a0) (c9 a0):=fun _=>⟨by unfold kL c9;exact lv⟩
instance :∀a0,LeC (jY a0) (fh a0):=fun _=>⟨by unfold jY fh;exact lv⟩
instance :∀a0,LeC (iy a0) (dT a0):=fun _=>⟨by unfold iy dT;exact lv⟩
instance :∀x1 s,LeC (gP x1 s) (ef x1 s):=fun _ _=>⟨by unfold gP ef;(try dsimp only);exact lv⟩
instance :∀a0,LeC (jW a0) (ff a0):=fun _=>⟨by unfold jW ff;exact lv⟩
instance :∀a0 a1 s,LeC (jz a0 a1 s) (fH a0 a1 s):=fun _ _ _=>⟨by unfold jz fH;(try dsimp only);exact lv⟩
instance :∀a0 a1,LeC (lg a0 a1) (gq a0 a1):=fun _ _=>⟨by unfold lg gq;exact lv⟩
instance :∀a0 a1,LeC (mN a0 a1) (jm a0 a1):=fun _ _=>⟨by unfold mN jm;exact lv⟩
instance :∀a0 a1 a2,LeC (mM a0 a1 a2) (jl a0 a1 a2):=fun _ _ _=>⟨by unfold mM jl;exact lv⟩
instance :∀a0 a1 a2,LeC (il a0 a1 a2) (cN a0 a1 a2):=fun _ _ _=>⟨by unfold il cN;exact lv⟩
theorem n9(a0:ak)(a1:ap)(a2:ac):Le (il a0 a1 a2) (cN a0 a1 a2):=LeC.le
end
end Go.Dw.Et
