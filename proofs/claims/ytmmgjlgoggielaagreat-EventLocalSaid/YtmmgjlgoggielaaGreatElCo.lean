
import Derived.Test.YtmmgjlgoggielaaGreatElFn
import Derived.Test.YtmmgjlgoggielaaGreatDwLe

set_option maxRecDepth 100000
set_option maxHeartbeats 4000000
namespace Go.Dw.El
open Go.Dw
noncomputable section
def jF:Nat:=600
def nR(a0:(List Int)):Option (ac):=
  (xi a0 0 (if 2000<(a0.length:Int)then 2000 else(a0.length:Int))).bind fun x1=>some (ac.mk x1 0)
def mB(d0:ac):Option (aI×ac):=
  (de [20,25,40,100] d0).bind fun x1=>(cH 3 x1.2).bind fun x2=>(rD (jc x1) jF (0,x2.1,0,x2.2.fL,x2.2.fAt,([]:(List Int)),([]:(List Int)))).bind fun o24=>some ((aI.mk x1.1 o24.2.2.1 o24.2.2.2),(ac.mk o24.1 o24.2.1))
def jP(a1:Int)(d0:ac):Option (aJ×ac):=
  (nD 20 a1 d0).bind fun x1=>(mB x1.2).bind fun x2=>(de [10,50,200] x2.2).bind fun x3=>(de [0,0,10,40] x3.2).bind fun x4=>(de [0,50,200,400] x4.2).bind fun x5=>(de [0,5,20] x5.2).bind fun x6=>(cH 2 x6.2).bind fun x7=>some ((aJ.mk x1.1 x2.1 x3.1 x4.1 x5.1 x6.1 (IntKind.wrap .i64 (2+x7.1))),x7.2)
def oo(d0:ac):Option (bu×ac):=
  (mB d0).bind fun x1=>(cH 20 x1.2).bind fun x2=>(cH 9 x2.2).bind fun x3=>(rD (kT x1) jF (0,x1.1.aK,x1.1.aF)).bind fun o26=>some ((bu.mk (aI.mk x1.1.bn o26.1 o26.2) x2.1 (IntKind.wrap .i64 (1+x3.1))),x3.2)
def jR(a1:Int)(d0:ac):Option (aq×ac):=
  (jP a1 d0).bind fun x1=>(oo x1.2).bind fun x2=>(de [0,0,10,40] x2.2).bind fun x3=>some ((aq.mk x1.1 x2.1 x3.1),x3.2)
def jQ(d0:ac):Option (aQ×ac):=
  (cH 4 d0).bind fun x1=>(rD (iH) jF (x1.1,x1.2.fL,x1.2.fAt,([]:(List aH)))).bind fun o28=>some ((aQ.mk o28.2.2),(ac.mk o28.1 o28.2.1))
def jh(a0:Int):Option (aw):=
  (nr a0 6).bind fun x1=>(qu [[83,49],[83,50],[83,51],[83,52],[83,53],[83,54]] x1).bind fun x2=>some (aw.mk [65,66] x2 [48,48] [66,72,90])
def lv(a1:Int):(Int×(List Int)×Int×(List aA))->Option (qw (Int×(List Int)×Int×(List aA)) ((List Int)×Int×(List aA))):=fun(s1,s2,s3,s4)=>
  if(decide (s1<a1))=true then(if(decide (s1<6))=true then((jC 60 (ac.mk s2 s3)).bind fun x11=>(jQ x11.2).bind fun x12=>(jh s1).bind fun x13=>(cH 6 x12.2).bind fun x14=>if(x14.1==0)=true then((cH 500 x14.2).bind fun x16=>(jC 60 x16.2).bind fun x17=>(jQ x17.2).bind fun x18=>(inO [(av.mk 0 100000 (bo.mk 100 1) x11.1 x12.1)] 0).bind fun _=>(xq [(av.mk 0 100000 (bo.mk 100 1) x11.1 x12.1)] 0 (fun(z22:av)=>(av.mk z22.bp (IntKind.wrap .i64 (1500+x16.1)) z22.gm z22.bj z22.bL))).bind fun x21=>(rF x21 [(av.mk (IntKind.wrap .i64 (1500+x16.1)) 100000 (bo.mk 100 1) x17.1 x18.1)] 80).bind fun x23=>(rF s4 [(aA.mk x13 x23)] 88).bind fun x24=>some (.next ((IntKind.wrap .i64 (s1+1)),x18.2.fL,x18.2.fAt,x24)))else(if(x14.1==1)=true then((cH 1500 x14.2).bind fun x26=>(inO [(av.mk 0 100000 (bo.mk 100 1) x11.1 x12.1)] 0).bind fun _=>(xq [(av.mk 0 100000 (bo.mk 100 1) x11.1 x12.1)] 0 (fun(z30:av)=>(av.mk x26.1 z30.fTo z30.gm z30.bj z30.bL))).bind fun x29=>(rF s4 [(aA.mk x13 x29)] 88).bind fun x31=>some (.next ((IntKind.wrap .i64 (s1+1)),x26.2.fL,x26.2.fAt,x31)))else((rF s4 [(aA.mk x13 [(av.mk 0 100000 (bo.mk 100 1) x11.1 x12.1)])] 88).bind fun x32=>some (.next ((IntKind.wrap .i64 (s1+1)),x14.2.fL,x14.2.fAt,x32)))))else(some (.stop (s2,s3,s4))))else(some (.stop (s2,s3,s4)))
def mA(a1:Int)(d0:ac):Option (ar×ac):=
  (rD (lv a1) jF (0,d0.fL,d0.fAt,([]:(List aA)))).bind fun o34=>some ((ar.mk o34.2.2),(ac.mk o34.1 o34.2.1))
def fG(a0:aI):Option (Int):=
  if(decide (a0.bn<1))=true then(some 21)else(if(decide (a0.bn>1048576))=true then(some 21)else(if((a0.aK.length:Int) != (a0.aF.length:Int))=true then(some 21)else(if(decide ((a0.aK.length:Int)<2))=true then(some 21)else(if(decide ((a0.aK.length:Int)>256))=true then(some 21)else((rD (ja a0) jF (0,0,0)).bind fun o23=>match o23 with| .inl _=>(some 0)| .inr r25=>(some r25))))))
def ik(a0:Int):Option (Int):=
  (md a0).bind fun x1=>some x1
def iL(a0:Int):Option (Int):=
  if(decide (a0<=0))=true then(some 0)else((ik (IntKind.wrap .u64 a0)).bind fun x2=>(sj .i64 (IntKind.wrap .i64 (x2-1)) 2).bind fun x3=>(xx .i64 1 x3).bind fun x4=>(rD (gw a0) jF (0,x4)).bind fun o13=>some o13)
def lx(a0:Int):Option (Int):=
  (iL a0).bind fun x1=>if(decide ((IntKind.wrap .i64 (x1*x1))<a0))=true then(some (IntKind.wrap .i64 (x1+1)))else(some x1)
def jB(a0:Int)(d0:aI)(d1:Int):Option (Int):=
  (rD (fQ d0 d1) jF (0,a0)).bind fun o9=>some o9
def kS(a0:aI)(a1:Int)(a2:Int):Option (Int×Int×Int):=
  (fG a0).bind fun x1=>if(x1 != 0)=true then(some (0,0,21))else(if(decide (a1<0))=true then(some (0,0,2))else(if(decide (a1>a2))=true then(some (0,0,2))else((lx a2).bind fun x5=>(ku a0).bind fun x6=>if(decide (x5>x6))=true then(some (0,0,22))else((jB (a0.aF.length:Int) a0 x5).bind fun x8=>(iL a1).bind fun x9=>(sj .i64 x9 a0.bn).bind fun x10=>(qu a0.aK x10).bind fun x11=>(qu a0.aF x8).bind fun x12=>some (x11,x12,0)))))
def kz(a0:aI)(a1:ah)(a2:aa):Option (Int×Int×Int):=
  (fG a0).bind fun x1=>if(x1 != 0)=true then(some (0,0,x1))else((bz a1).bind fun x3=>if(!x3)=true then(some (0,0,20))else((cJ a2).bind fun x5=>if(!x5)=true then(some (0,0,20))else((jd a0 a1 a2).bind fun x7=>(kS x7.1 x7.2.1 x7.2.2).bind fun x8=>some (x8.1,x8.2.1,x8.2.2))))
def nI(a0:aI)(a1:ah)(a2:al):Option (aG×Int):=
  (fG a0).bind fun x1=>if(x1 != 0)=true then(some ((aG.mk 0 0),x1))else((bz a1).bind fun x3=>if(!x3)=true then(some ((aG.mk 0 0),20))else((dK a2).bind fun x5=>if(!x5)=true then(some ((aG.mk 0 0),23))else((kz a0 a1 a2.aO).bind fun x7=>if(x7.2.2 != 0)=true then(some ((aG.mk 0 0),x7.2.2))else(some ((aG.mk (IntKind.wrap .i64 (a2.aM-x7.2.1)) (IntKind.wrap .i64 (a2.bf-x7.1))),0)))))
def gX(a0:(List UInt8))(a1:Int)(a2:Int):Option (Bool):=
  (rD (iG a0) jF 0).bind fun o8=>match o8 with| .inl _=>(if(decide ((a0.length:Int)>=a1))=true then(some (decide ((a0.length:Int)<=a2)))else(some false))| .inr r10=>(some r10)
def ks(a0:aw):Option (Bool):=
  (gX a0.bc 1 2).bind fun x1=>if x1=true then((gX a0.aO 1 5).bind fun x3=>if x3=true then((gX a0.ap 0 2).bind fun x5=>if x5=true then(if((a0.ap.length:Int) != 1)=true then((gX a0.bd 3 3).bind fun x8=>some x8)else(some false))else(some false))else(some false))else(some false)
def pO(a0:Int)(a1:Int):Option (Int):=
  (rD (rate_gcd_l7) jF (a0,a1)).bind fun o8=>some o8
def nX(a0:bo):Option (Bool):=
  (pc a0.bG 1 4096).bind fun x1=>if x1=true then((pc a0.bw 1 4096).bind fun x3=>if x3=true then((pO a0.bG a0.bw).bind fun x5=>some (x5==1))else(some false))else(some false)
def eI(a0:(List Int)):Option (Int):=
  (rD (da a0) jF 0).bind fun o8=>match o8 with| .inl _=>(some (-1))| .inr r10=>(some r10)
def dO(a0:(List Int)):Option (Bool):=
  (eI a0).bind fun x1=>some (decide (x1>=0))
def dN(a0:(List Int)):Option (Bool):=
  (dO a0).bind fun x1=>some (!x1)
def iA(a0:(List Int)):Option (Int):=
  (rD (lE a0) jF (0,0)).bind fun o8=>some o8
def hX(a0:aH):Option (Bool):=
  if((a0.dG.length:Int)==0)=true then(if(a0.dt==0)=true then(if(a0.fM==0)=true then(if(a0.dI==0)=true then(if((a0.bG.a0==a0.bG.a0)&&((a0.bG.a1==0)&&((a0.bG.a2==0)&&true)))=true then(if((a0.bw.a0==a0.bw.a0)&&((a0.bw.a1==0)&&((a0.bw.a2==0)&&true)))=true then((bq a0.bG.a0 1 1048576).bind fun x7=>if x7=true then((bq a0.bw.a0 1 1048576).bind fun x9=>some x9)else(some false))else(some false))else(some false))else(some false))else(if(a0.fM==1)=true then(if(a0.dI==0)=true then((dN [a0.bG.a0,a0.bG.a1,a0.bG.a2]).bind fun x12=>if x12=true then((dN [a0.bw.a0,a0.bw.a1,a0.bw.a2]).bind fun x14=>if x14=true then(some (a0.bw.a0 != 0))else(some false))else(some false))else(some false))else(if(a0.fM==2)=true then(if((a0.bG.a0==0)&&((a0.bG.a1==0)&&((a0.bG.a2==0)&&true)))=true then(if((a0.bw.a0==0)&&((a0.bw.a1==0)&&((a0.bw.a2==0)&&true)))=true then((bq (a0.dG.length:Int) 1 128).bind fun x19=>if x19=true then((dN a0.dG).bind fun x21=>if x21=true then((iA a0.dG).bind fun x23=>if(x23 != 0)=true then((bq a0.dt 1 64).bind fun x25=>if x25=true then((bq a0.dI 0 40).bind fun x27=>some x27)else(some false))else(some false))else(some false))else(some false))else(some false))else(some false))else(some false))))else(if(a0.fM==0)=true then(some false)else(if(a0.fM==1)=true then(some false)else(if(a0.fM==2)=true then(if((a0.bG.a0==0)&&((a0.bG.a1==0)&&((a0.bG.a2==0)&&true)))=true then(if((a0.bw.a0==0)&&((a0.bw.a1==0)&&((a0.bw.a2==0)&&true)))=true then((bq (a0.dG.length:Int) 1 128).bind fun x33=>if x33=true then((dN a0.dG).bind fun x35=>if x35=true then((iA a0.dG).bind fun x37=>if(x37 != 0)=true then((bq a0.dt 1 64).bind fun x39=>if x39=true then((bq a0.dI 0 40).bind fun x41=>some x41)else(some false))else(some false))else(some false))else(some false))else(some false))else(some false))else(some false)))))else(if(a0.fM==0)=true then(some false)else(if(a0.fM==1)=true then(some false)else(if(a0.fM==2)=true then(if((a0.bG.a0==0)&&((a0.bG.a1==0)&&((a0.bG.a2==0)&&true)))=true then(if((a0.bw.a0==0)&&((a0.bw.a1==0)&&((a0.bw.a2==0)&&true)))=true then((bq (a0.dG.length:Int) 1 128).bind fun x47=>if x47=true then((dN a0.dG).bind fun x49=>if x49=true then((iA a0.dG).bind fun x51=>if(x51 != 0)=true then((bq a0.dt 1 64).bind fun x53=>if x53=true then((bq a0.dI 0 40).bind fun x55=>some x55)else(some false))else(some false))else(some false))else(some false))else(some false))else(some false))else(some false))))
def ia(a0:aH):Option (Bool):=
  (hX a0).bind fun x1=>some (!x1)
def dx(a0:(List aH)):Int->Option (qw (Int) ((Unit)⊕(Int))):=fun s1=>
  if(decide (s1<(a0.length:Int)))=true then((qu a0 s1).bind fun x4=>(ia x4).bind fun x5=>if x5=true then(some (.stop (.inr s1)))else(some (.next (IntKind.wrap .i64 (s1+1)))))else(some (.stop (.inl ())))
def ed(a0:(List aH)):Option (Int):=
  (rD (dx a0) jF 0).bind fun o8=>match o8 with| .inl _=>(some (-1))| .inr r10=>(some r10)
def dw(a0:(List aH)):Option (Bool):=
  (ed a0).bind fun x1=>some (decide (x1>=0))
def kl(a0:(List aH)):Option (Int):=
  (rD (gG a0) jF (1,0)).bind fun o10=>match o10 with| .inl y11=>(some y11)| .inr r12=>(some r12)
def kM(a0:aQ):Option (Bool):=
  if(decide ((a0.bC.length:Int)>8))=true then(some false)else((dw a0.bC).bind fun x2=>if x2=true then(some false)else((kl a0.bC).bind fun x4=>some (decide (x4>0))))
def gy(a0:av):Option (Bool):=
  if(decide (a0.bp>=0))=true then(if(decide (a0.bp<a0.fTo))=true then(if(decide (a0.fTo<=9007199254740992))=true then((nX a0.gm).bind fun x4=>if x4=true then((kM a0.bL).bind fun x6=>if x6=true then((c8 a0.bj.fX (-1048576) 1048576).bind fun x8=>if x8=true then((c8 a0.bj.fY (-1048576) 1048576).bind fun x10=>if x10=true then((c8 a0.bj.fZ (-16384) 1048576).bind fun x12=>some x12)else(some false))else(some false))else(some false))else(some false))else(some false))else(some false))else(some false)
def gB(a0:(List av)):Int->Option (qw (Int) ((Unit)⊕(Bool))):=fun s1=>
  if(decide (s1<(a0.length:Int)))=true then((qu a0 s1).bind fun x4=>(gy x4).bind fun x5=>if(!x5)=true then(some (.stop (.inr false)))else(if(decide (s1>0))=true then((qu a0 (IntKind.wrap .i64 (s1-1))).bind fun x8=>if(decide (x4.bp<x8.fTo))=true then(some (.stop (.inr false)))else(some (.next (IntKind.wrap .i64 (s1+1)))))else(some (.next (IntKind.wrap .i64 (s1+1))))))else(some (.stop (.inl ())))
def jy(a0:(List av)):Option (Bool):=
  (rD (gB a0) jF 0).bind fun o11=>match o11 with| .inl _=>((c8 (a0.length:Int) 1 32).bind fun x14=>some x14)| .inr r13=>(some r13)
def nJ(a0:(List Int)):Option (Int):=
  (rD (dn a0) jF 0).bind fun o7=>match o7 with| .inl _=>(some 0)| .inr r9=>(some r9)
def kR(a0:aw)(a1:aw):Option (Int):=
  (bW a0.bc a1.bc).bind fun x1=>(bW a0.aO a1.aO).bind fun x2=>(bW a0.ap a1.ap).bind fun x3=>(bW a0.bd a1.bd).bind fun x4=>(nJ [x1,x2,x3,x4]).bind fun x5=>some x5
def hJ(a0:ar):Int->Option (qw (Int) ((Unit)⊕(Bool))):=fun s1=>
  if(decide (s1<(a0.aU.length:Int)))=true then((qu a0.aU s1).bind fun x4=>(ks x4.aD).bind fun x5=>if(!x5)=true then(some (.stop (.inr false)))else((jy x4.bM).bind fun x7=>if(!x7)=true then(some (.stop (.inr false)))else(if(decide (s1>0))=true then((qu a0.aU (IntKind.wrap .i64 (s1-1))).bind fun x10=>(kR x10.aD x4.aD).bind fun x11=>if(decide (x11>=0))=true then(some (.stop (.inr false)))else(some (.next (IntKind.wrap .i64 (s1+1)))))else(some (.next (IntKind.wrap .i64 (s1+1)))))))else(some (.stop (.inl ())))
def kc(a0:ar):Option (Bool):=
  (rD (hJ a0) jF 0).bind fun o14=>match o14 with| .inl _=>(some (decide ((a0.aU.length:Int)<=128)))| .inr r16=>(some r16)
def jz(a0:ae):Option (Bool):=
  (ks a0.aD).bind fun x1=>if x1=true then(if(decide (a0.aM>=0))=true then(if(decide (a0.aM<=a0.aX))=true then(if(decide (a0.aX<=a0.bf))=true then(if(decide (a0.bf<=18014398509481984))=true then((iR a0.aP 0 1073741823).bind fun x7=>if x7=true then((iR a0.aT (-1) 1).bind fun x9=>some x9)else(some false))else(some false))else(some false))else(some false))else(some false))else(some false)
def gZ(a0:av):Option (av):=
  (sg 96 a0.bL.bC).bind fun x1=>(rD (eo x1) jF (0,x1)).bind fun o16=>some (av.mk a0.bp a0.fTo a0.gm a0.bj (aQ.mk o16))
def gA(x1:(List av)):(Int×(List av))->Option (qw (Int×(List av)) ((List av))):=fun(s2,s3)=>
  if(decide (s2<(x1.length:Int)))=true then((inO s3 s2).bind fun _=>(qu s3 s2).bind fun x9=>(gZ x9).bind fun x10=>(inO s3 s2).bind fun _=>(tC s3 s2 x10).bind fun x13=>some (.next ((IntKind.wrap .i64 (s2+1)),x13)))else(some (.stop s3))
def jx(a0:aA):Option (aA):=
  (sg 80 a0.bM).bind fun x1=>(rD (gA x1) jF (0,x1)).bind fun o15=>some (aA.mk a0.aD o15)
def iX(a0:ar)(a1:aw):Int->Option (qw (Int) ((Unit)⊕(aA×Bool))):=fun s1=>
  if(decide (s1<(a0.aU.length:Int)))=true then((qu a0.aU s1).bind fun x4=>if((x4.aD.bc==a1.bc)&&((x4.aD.aO==a1.aO)&&((x4.aD.ap==a1.ap)&&((x4.aD.bd==a1.bd)&&true))))=true then((jx x4).bind fun x6=>some (.stop (.inr (x6,true))))else(some (.next (IntKind.wrap .i64 (s1+1)))))else(some (.stop (.inl ())))
def kE(a0:ar)(a1:aw):Option (aA×Bool):=
  (rD (iX a0 a1) jF 0).bind fun o8=>match o8 with| .inl _=>(some ((aA.mk (aw.mk [] [] [] []) []),false))| .inr r10=>(some r10)
def mg(a0:aA)(a1:Int):Option (av×Bool):=
  (rD (jq a0 a1) jF 0).bind fun o8=>match o8 with| .inl _=>(some ((av.mk 0 0 (bo.mk 0 0) (aa.mk 0 0 0) (aQ.mk [])),false))| .inr r10=>(some r10)
def mf(a0:ar)(a1:aw)(a2:Int):Option (av×Int):=
  (kc a0).bind fun x1=>if(!x1)=true then(some ((av.mk 0 0 (bo.mk 0 0) (aa.mk 0 0 0) (aQ.mk [])),1))else((kE a0 a1).bind fun x3=>(mg x3.1 a2).bind fun x4=>if(!x4.2)=true then(some ((av.mk 0 0 (bo.mk 0 0) (aa.mk 0 0 0) (aQ.mk [])),6))else(some (x4.1,0)))
def gO(a0:aq)(a1:ar)(a2:ae):Option (al×av×Bool):=
  (jz a2).bind fun x1=>if(!x1)=true then(some ((al.mk (aa.mk 0 0 0) 0 0 0),(av.mk 0 0 (bo.mk 0 0) (aa.mk 0 0 0) (aQ.mk [])),false))else((mf a1 a2.aD a2.aX).bind fun x3=>if(x3.2 != 0)=true then(some ((al.mk (aa.mk 0 0 0) 0 0 0),(av.mk 0 0 (bo.mk 0 0) (aa.mk 0 0 0) (aQ.mk [])),false))else((nI a0.ai.bi a0.ai.aN (al.mk x3.1.bj a2.aM a2.bf 1)).bind fun x5=>if(x5.2 != 0)=true then(some ((al.mk (aa.mk 0 0 0) 0 0 0),(av.mk 0 0 (bo.mk 0 0) (aa.mk 0 0 0) (aQ.mk [])),false))else(some ((al.mk x3.1.bj a2.aM a2.bf 1),x3.1,true))))
instance :∀a0,LeC (nR a0) (kd a0):=fun _=>⟨by unfold nR kd;exact qI⟩
theorem keep_New_le(a0:(List Int)):Le (nR a0) (kd a0):=LeC.le
instance :∀d0,LeC (mB d0) (iI d0):=fun _=>⟨by unfold mB iI;exact qI⟩
instance :∀a1 d0,LeC (jP a1 d0) (dE a1 d0):=fun _ _=>⟨by unfold jP dE;exact qI⟩
instance :∀d0,LeC (oo d0) (jD d0):=fun _=>⟨by unfold oo jD;exact qI⟩
instance :∀a1 d0,LeC (jR a1 d0) (dp a1 d0):=fun _ _=>⟨by unfold jR dp;exact qI⟩
theorem Src_Settings_le(a1:Int)(d0:ac):Le (jR a1 d0) (dp a1 d0):=LeC.le
instance :∀d0,LeC (jQ d0) (eD d0):=fun _=>⟨by unfold jQ eD;exact qI⟩
instance :∀a0,LeC (jh a0) (dH a0):=fun _=>⟨by unfold jh dH;exact qI⟩
theorem keep_Source_le(a0:Int):Le (jh a0) (dH a0):=LeC.le
instance :∀a1 s,LeC (lv a1 s) (jb a1 s):=fun _ _=>⟨by unfold lv jb;(try dsimp only);exact qI⟩
instance :∀a1 d0,LeC (mA a1 d0) (fT a1 d0):=fun _ _=>⟨by unfold mA fT;exact qI⟩
theorem Src_Sites_le(a1:Int)(d0:ac):Le (mA a1 d0) (fT a1 d0):=LeC.le
instance :∀a0,LeC (fG a0) (cy a0):=fun _=>⟨by unfold fG cy;exact qI⟩
instance :∀a0,LeC (ik a0) (fU a0):=fun _=>⟨by unfold ik fU;exact qI⟩
theorem bits_Len_le(a0:Int):Le (ik a0) (fU a0):=LeC.le
instance :∀a0,LeC (iL a0) (e7 a0):=fun _=>⟨by unfold iL e7;exact qI⟩
instance :∀a0,LeC (lx a0) (gR a0):=fun _=>⟨by unfold lx gR;exact qI⟩
instance :∀a0 d0 d1,LeC (jB a0 d0 d1) (dj a0 d0 d1):=fun _ _ _=>⟨by unfold jB dj;exact qI⟩
instance :∀a0 a1 a2,LeC (kS a0 a1 a2) (b7 a0 a1 a2):=fun _ _ _=>⟨by unfold kS b7;exact qI⟩
instance :∀a0 a1 a2,LeC (kz a0 a1 a2) (fW a0 a1 a2):=fun _ _ _=>⟨by unfold kz fW;exact qI⟩
instance :∀a0 a1 a2,LeC (nI a0 a1 a2) (dq a0 a1 a2):=fun _ _ _=>⟨by unfold nI dq;exact qI⟩
instance :∀a0 a1 a2,LeC (gX a0 a1 a2) (fF a0 a1 a2):=fun _ _ _=>⟨by unfold gX fF;exact qI⟩
instance :∀a0,LeC (ks a0) (gH a0):=fun _=>⟨by unfold ks gH;exact qI⟩
instance :∀a0 a1,LeC (pO a0 a1) (oQ a0 a1):=fun _ _=>⟨by unfold pO oQ;exact qI⟩
instance :∀a0,LeC (nX a0) (kL a0):=fun _=>⟨by unfold nX kL;exact qI⟩
instance :∀a0,LeC (eI a0) (cS a0):=fun _=>⟨by unfold eI cS;exact qI⟩
instance :∀a0,LeC (dO a0) (cw a0):=fun _=>⟨by unfold dO cw;exact qI⟩
instance :∀a0,LeC (dN a0) (co a0):=fun _=>⟨by unfold dN co;exact qI⟩
instance :∀a0,LeC (iA a0) (dv a0):=fun _=>⟨by unfold iA dv;exact qI⟩
instance :∀a0,LeC (hX a0) (cB a0):=fun _=>⟨by unfold hX cB;exact qI⟩
instance :∀a0,LeC (ia a0) (ex a0):=fun _=>⟨by unfold ia ex;exact qI⟩
instance :∀a0 s,LeC (dx a0 s) (cp a0 s):=fun _ _=>⟨by unfold dx cp;(try dsimp only);exact qI⟩
instance :∀a0,LeC (ed a0) (cG a0):=fun _=>⟨by unfold ed cG;exact qI⟩
instance :∀a0,LeC (dw a0) (bZ a0):=fun _=>⟨by unfold dw bZ;exact qI⟩
instance :∀a0,LeC (kl a0) (fk a0):=fun _=>⟨by unfold kl fk;exact qI⟩
instance :∀a0,LeC (kM a0) (fb a0):=fun _=>⟨by unfold kM fb;exact qI⟩
instance :∀a0,LeC (gy a0) (dh a0):=fun _=>⟨by unfold gy dh;exact qI⟩
instance :∀a0 s,LeC (gB a0 s) (dY a0 s):=fun _ _=>⟨by unfold gB dY;(try dsimp only);exact qI⟩
instance :∀a0,LeC (jy a0) (eX a0):=fun _=>⟨by unfold jy eX;exact qI⟩
instance :∀a0,LeC (nJ a0) (cu a0):=fun _=>⟨by unfold nJ cu;exact qI⟩
instance :∀a0 a1,LeC (kR a0 a1) (eh a0 a1):=fun _ _=>⟨by unfold kR eh;exact qI⟩
instance :∀a0 s,LeC (hJ a0 s) (ew a0 s):=fun _ _=>⟨by unfold hJ ew;(try dsimp only);exact qI⟩
instance :∀a0,LeC (kc a0) (cM a0):=fun _=>⟨by unfold kc cM;exact qI⟩
instance :∀a0,LeC (jz a0) (eY a0):=fun _=>⟨by unfold jz eY;exact qI⟩
instance :∀a0,LeC (gZ a0) (dD a0):=fun _=>⟨by unfold gZ dD;exact qI⟩
instance :∀x1 s,LeC (gA x1 s) (dX x1 s):=fun _ _=>⟨by unfold gA dX;(try dsimp only);exact qI⟩
instance :∀a0,LeC (jx a0) (eW a0):=fun _=>⟨by unfold jx eW;exact qI⟩
instance :∀a0 a1 s,LeC (iX a0 a1 s) (fr a0 a1 s):=fun _ _ _=>⟨by unfold iX fr;(try dsimp only);exact qI⟩
instance :∀a0 a1,LeC (kE a0 a1) (f9 a0 a1):=fun _ _=>⟨by unfold kE f9;exact qI⟩
instance :∀a0 a1,LeC (mg a0 a1) (iN a0 a1):=fun _ _=>⟨by unfold mg iN;exact qI⟩
instance :∀a0 a1 a2,LeC (mf a0 a1 a2) (iM a0 a1 a2):=fun _ _ _=>⟨by unfold mf iM;exact qI⟩
instance :∀a0 a1 a2,LeC (gO a0 a1 a2) (cA a0 a1 a2):=fun _ _ _=>⟨by unfold gO cA;exact qI⟩
theorem nB(a0:aq)(a1:ar)(a2:ae):Le (gO a0 a1 a2) (cA a0 a1 a2):=LeC.le
end
end Go.Dw.El
