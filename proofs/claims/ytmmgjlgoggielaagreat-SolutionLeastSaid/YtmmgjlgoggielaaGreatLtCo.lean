
import Derived.Test.YtmmgjlgoggielaaGreatLtFn
import Derived.Test.YtmmgjlgoggielaaGreatDwLe

set_option maxRecDepth 100000
set_option maxHeartbeats 4000000
namespace Go.Dw.Lt
open Go.Dw
noncomputable section
def hM:Nat:=600
def lE(a0:(List Int)):Option (ac):=
  (cutO a0 0 (if 2000<(a0.length:Int)then 2000 else(a0.length:Int))).bind fun x1=>some (ac.mk x1 0)
def ky(d0:ac):Option (aq×ac):=
  (cA [20,25,40,100] d0).bind fun x1=>(cb 3 x1.2).bind fun x2=>(oP (gE x1) hM (0,x2.1,0,x2.2.fL,x2.2.fAt,([]:(List Int)),([]:(List Int)))).bind fun o24=>some ((aq.mk x1.1 o24.2.2.1 o24.2.2.2),(ac.mk o24.1 o24.2.1))
def ig(a1:Int)(d0:ac):Option (aV×ac):=
  (lv 20 a1 d0).bind fun x1=>(ky x1.2).bind fun x2=>(cA [10,50,200] x2.2).bind fun x3=>(cA [0,0,10,40] x3.2).bind fun x4=>(cA [0,50,200,400] x4.2).bind fun x5=>(cA [0,5,20] x5.2).bind fun x6=>(cb 2 x6.2).bind fun x7=>some ((aV.mk x1.1 x2.1 x3.1 x4.1 x5.1 x6.1 (IntKind.wrap .i64 (2+x7.1))),x7.2)
def l4(d0:ac):Option (ba×ac):=
  (ky d0).bind fun x1=>(cb 20 x1.2).bind fun x2=>(cb 9 x2.2).bind fun x3=>(oP (ja x1) hM (0,x1.1.aF,x1.1.az)).bind fun o26=>some ((ba.mk (aq.mk x1.1.aQ o26.1 o26.2) x2.1 (IntKind.wrap .i64 (1+x3.1))),x3.2)
def ik(a1:Int)(d0:ac):Option (aw×ac):=
  (ig a1 d0).bind fun x1=>(l4 x1.2).bind fun x2=>(cA [0,0,10,40] x2.2).bind fun x3=>some ((aw.mk x1.1 x2.1 x3.1),x3.2)
def ij(d0:ac):Option (aL×ac):=
  (cb 4 d0).bind fun x1=>(oP (gg) hM (x1.1,x1.2.fL,x1.2.fAt,([]:(List aD)))).bind fun o28=>some ((aL.mk o28.2.2),(ac.mk o28.1 o28.2.1))
def gH(a0:Int):Option (ap):=
  (lk a0 6).bind fun x1=>(nZ [[83,49],[83,50],[83,51],[83,52],[83,53],[83,54]] x1).bind fun x2=>some (ap.mk [65,66] x2 [48,48] [66,72,90])
def jo(a1:Int):(Int×(List Int)×Int×(List au))->Option (nX (Int×(List Int)×Int×(List au)) ((List Int)×Int×(List au))):=fun(s1,s2,s3,s4)=>
  if(decide (s1<a1))=true then(if(decide (s1<6))=true then((hF 60 (ac.mk s2 s3)).bind fun x11=>(ij x11.2).bind fun x12=>(gH s1).bind fun x13=>(cb 6 x12.2).bind fun x14=>if(x14.1==0)=true then((cb 500 x14.2).bind fun x16=>(hF 60 x16.2).bind fun x17=>(ij x17.2).bind fun x18=>(inO [(aj.mk 0 100000 (aX.mk 100 1) x11.1 x12.1)] 0).bind fun _=>(modO [(aj.mk 0 100000 (aX.mk 100 1) x11.1 x12.1)] 0 (fun(z22:aj)=>(aj.mk z22.aT (IntKind.wrap .i64 (1500+x16.1)) z22.fd z22.aW z22.br))).bind fun x21=>(px x21 [(aj.mk (IntKind.wrap .i64 (1500+x16.1)) 100000 (aX.mk 100 1) x17.1 x18.1)] 80).bind fun x23=>(px s4 [(au.mk x13 x23)] 88).bind fun x24=>some (.next ((IntKind.wrap .i64 (s1+1)),x18.2.fL,x18.2.fAt,x24)))else(if(x14.1==1)=true then((cb 1500 x14.2).bind fun x26=>(inO [(aj.mk 0 100000 (aX.mk 100 1) x11.1 x12.1)] 0).bind fun _=>(modO [(aj.mk 0 100000 (aX.mk 100 1) x11.1 x12.1)] 0 (fun(z30:aj)=>(aj.mk x26.1 z30.fTo z30.fd z30.aW z30.br))).bind fun x29=>(px s4 [(au.mk x13 x29)] 88).bind fun x31=>some (.next ((IntKind.wrap .i64 (s1+1)),x26.2.fL,x26.2.fAt,x31)))else((px s4 [(au.mk x13 [(aj.mk 0 100000 (aX.mk 100 1) x11.1 x12.1)])] 88).bind fun x32=>some (.next ((IntKind.wrap .i64 (s1+1)),x14.2.fL,x14.2.fAt,x32)))))else(some (.stop (s2,s3,s4))))else(some (.stop (s2,s3,s4)))
def kx(a1:Int)(d0:ac):Option (aB×ac):=
  (oP (jo a1) hM (0,d0.fL,d0.fAt,([]:(List au)))).bind fun o34=>some ((aB.mk o34.2.2),(ac.mk o34.1 o34.2.1))
def eH(a0:aq):Option (Int):=
  if(decide (a0.aQ<1))=true then(some 21)else(if(decide (a0.aQ>1048576))=true then(some 21)else(if((a0.aF.length:Int) != (a0.az.length:Int))=true then(some 21)else(if(decide ((a0.aF.length:Int)<2))=true then(some 21)else(if(decide ((a0.aF.length:Int)>256))=true then(some 21)else((oP (gC a0) hM (0,0,0)).bind fun o23=>match o23 with| .inl _=>(some 0)| .inr r25=>(some r25))))))
def fR(a0:Int):Option (Int):=
  (jT a0).bind fun x1=>some x1
def gl(a0:Int):Option (Int):=
  if(decide (a0<=0))=true then(some 0)else((fR (IntKind.wrap .u64 a0)).bind fun x2=>(pr .i64 (IntKind.wrap .i64 (x2-1)) 2).bind fun x3=>(vq .i64 1 x3).bind fun x4=>(oP (fj a0) hM (0,x4)).bind fun o13=>some o13)
def jp(a0:Int):Option (Int):=
  (gl a0).bind fun x1=>if(decide ((IntKind.wrap .i64 (x1*x1))<a0))=true then(some (IntKind.wrap .i64 (x1+1)))else(some x1)
def hC(a0:Int)(d0:aq)(d1:Int):Option (Int):=
  (oP (eN d0 d1) hM (0,a0)).bind fun o9=>some o9
def iZ(a0:aq)(a1:Int)(a2:Int):Option (Int×Int×Int):=
  (eH a0).bind fun x1=>if(x1 != 0)=true then(some (0,0,21))else(if(decide (a1<0))=true then(some (0,0,2))else(if(decide (a1>a2))=true then(some (0,0,2))else((jp a2).bind fun x5=>(iE a0).bind fun x6=>if(decide (x5>x6))=true then(some (0,0,22))else((hC (a0.az.length:Int) a0 x5).bind fun x8=>(gl a1).bind fun x9=>(pr .i64 x9 a0.aQ).bind fun x10=>(nZ a0.aF x10).bind fun x11=>(nZ a0.az x8).bind fun x12=>some (x11,x12,0)))))
def iG(a0:aq)(a1:ag)(a2:aa):Option (Int×Int×Int):=
  (eH a0).bind fun x1=>if(x1 != 0)=true then(some (0,0,x1))else((bg a1).bind fun x3=>if(!x3)=true then(some (0,0,20))else((cg a2).bind fun x5=>if(!x5)=true then(some (0,0,20))else((fI a0 a1 a2).bind fun x7=>(iZ x7.1 x7.2.1 x7.2.2).bind fun x8=>some (x8.1,x8.2.1,x8.2.2))))
def lA(a0:aq)(a1:ag)(a2:aC):Option (al×Int):=
  (eH a0).bind fun x1=>if(x1 != 0)=true then(some ((al.mk 0 0),x1))else((bg a1).bind fun x3=>if(!x3)=true then(some ((al.mk 0 0),20))else((cj a2).bind fun x5=>if(!x5)=true then(some ((al.mk 0 0),23))else((iG a0 a1 a2.aM).bind fun x7=>if(x7.2.2 != 0)=true then(some ((al.mk 0 0),x7.2.2))else(some ((al.mk (IntKind.wrap .i64 (a2.a8-x7.2.1)) (IntKind.wrap .i64 (a2.bF-x7.1))),0)))))
def fM(a0:(List UInt8))(a1:Int)(a2:Int):Option (Bool):=
  (oP (gf a0) hM 0).bind fun o8=>match o8 with| .inl _=>(if(decide ((a0.length:Int)>=a1))=true then(some (decide ((a0.length:Int)<=a2)))else(some false))| .inr r10=>(some r10)
def iD(a0:ap):Option (Bool):=
  (fM a0.aY 1 2).bind fun x1=>if x1=true then((fM a0.aM 1 5).bind fun x3=>if x3=true then((fM a0.aK 0 2).bind fun x5=>if x5=true then(if((a0.aK.length:Int) != 1)=true then((fM a0.bd 3 3).bind fun x8=>some x8)else(some false))else(some false))else(some false))else(some false)
def nl(a0:Int)(a1:Int):Option (Int):=
  (oP (rate_gcd_l7) hM (a0,a1)).bind fun o8=>some o8
def lK(a0:aX):Option (Bool):=
  (mI a0.bo 1 4096).bind fun x1=>if x1=true then((mI a0.bf 1 4096).bind fun x3=>if x3=true then((nl a0.bo a0.bf).bind fun x5=>some (x5==1))else(some false))else(some false)
def dM(a0:(List Int)):Option (Int):=
  (oP (cx a0) hM 0).bind fun o8=>match o8 with| .inl _=>(some (-1))| .inr r10=>(some r10)
def dc(a0:(List Int)):Option (Bool):=
  (dM a0).bind fun x1=>some (decide (x1>=0))
def db(a0:(List Int)):Option (Bool):=
  (dc a0).bind fun x1=>some (!x1)
def f8(a0:(List Int)):Option (Int):=
  (oP (ju a0) hM (0,0)).bind fun o8=>some o8
def fP(a0:aD):Option (Bool):=
  if((a0.cW.length:Int)==0)=true then(if(a0.cM==0)=true then(if(a0.eM==0)=true then(if(a0.c8==0)=true then(if((a0.bo.a0==a0.bo.a0)&&((a0.bo.a1==0)&&((a0.bo.a2==0)&&true)))=true then(if((a0.bf.a0==a0.bf.a0)&&((a0.bf.a1==0)&&((a0.bf.a2==0)&&true)))=true then((a7 a0.bo.a0 1 1048576).bind fun x7=>if x7=true then((a7 a0.bf.a0 1 1048576).bind fun x9=>some x9)else(some false))else(some false))else(some false))else(some false))else(if(a0.eM==1)=true then(if(a0.c8==0)=true then((db [a0.bo.a0,a0.bo.a1,a0.bo.a2]).bind fun x12=>if x12=true then((db [a0.bf.a0,a0.bf.a1,a0.bf.a2]).bind fun x14=>if x14=true then(some (a0.bf.a0 != 0))else(some false))else(some false))else(some false))else(if(a0.eM==2)=true then(if((a0.bo.a0==0)&&((a0.bo.a1==0)&&((a0.bo.a2==0)&&true)))=true then(if((a0.bf.a0==0)&&((a0.bf.a1==0)&&((a0.bf.a2==0)&&true)))=true then((a7 (a0.cW.length:Int) 1 128).bind fun x19=>if x19=true then((db a0.cW).bind fun x21=>if x21=true then((f8 a0.cW).bind fun x23=>if(x23 != 0)=true then((a7 a0.cM 1 64).bind fun x25=>if x25=true then((a7 a0.c8 0 40).bind fun x27=>some x27)else(some false))else(some false))else(some false))else(some false))else(some false))else(some false))else(some false))))else(if(a0.eM==0)=true then(some false)else(if(a0.eM==1)=true then(some false)else(if(a0.eM==2)=true then(if((a0.bo.a0==0)&&((a0.bo.a1==0)&&((a0.bo.a2==0)&&true)))=true then(if((a0.bf.a0==0)&&((a0.bf.a1==0)&&((a0.bf.a2==0)&&true)))=true then((a7 (a0.cW.length:Int) 1 128).bind fun x33=>if x33=true then((db a0.cW).bind fun x35=>if x35=true then((f8 a0.cW).bind fun x37=>if(x37 != 0)=true then((a7 a0.cM 1 64).bind fun x39=>if x39=true then((a7 a0.c8 0 40).bind fun x41=>some x41)else(some false))else(some false))else(some false))else(some false))else(some false))else(some false))else(some false)))))else(if(a0.eM==0)=true then(some false)else(if(a0.eM==1)=true then(some false)else(if(a0.eM==2)=true then(if((a0.bo.a0==0)&&((a0.bo.a1==0)&&((a0.bo.a2==0)&&true)))=true then(if((a0.bf.a0==0)&&((a0.bf.a1==0)&&((a0.bf.a2==0)&&true)))=true then((a7 (a0.cW.length:Int) 1 128).bind fun x47=>if x47=true then((db a0.cW).bind fun x49=>if x49=true then((f8 a0.cW).bind fun x51=>if(x51 != 0)=true then((a7 a0.cM 1 64).bind fun x53=>if x53=true then((a7 a0.c8 0 40).bind fun x55=>some x55)else(some false))else(some false))else(some false))else(some false))else(some false))else(some false))else(some false))))
def fQ(a0:aD):Option (Bool):=
  (fP a0).bind fun x1=>some (!x1)
def cS(a0:(List aD)):Int->Option (nX (Int) ((Unit)⊕(Int))):=fun s1=>
  if(decide (s1<(a0.length:Int)))=true then((nZ a0 s1).bind fun x4=>(fQ x4).bind fun x5=>if x5=true then(some (.stop (.inr s1)))else(some (.next (IntKind.wrap .i64 (s1+1)))))else(some (.stop (.inl ())))
def dA(a0:(List aD)):Option (Int):=
  (oP (cS a0) hM 0).bind fun o8=>match o8 with| .inl _=>(some (-1))| .inr r10=>(some r10)
def cQ(a0:(List aD)):Option (Bool):=
  (dA a0).bind fun x1=>some (decide (x1>=0))
def iA(a0:(List aD)):Option (Int):=
  (oP (fA a0) hM (1,0)).bind fun o10=>match o10 with| .inl y11=>(some y11)| .inr r12=>(some r12)
def iU(a0:aL):Option (Bool):=
  if(decide ((a0.bn.length:Int)>8))=true then(some false)else((cQ a0.bn).bind fun x2=>if x2=true then(some false)else((iA a0.bn).bind fun x4=>some (decide (x4>0))))
def fm(a0:aj):Option (Bool):=
  if(decide (a0.aT>=0))=true then(if(decide (a0.aT<a0.fTo))=true then(if(decide (a0.fTo<=9007199254740992))=true then((lK a0.fd).bind fun x4=>if x4=true then((iU a0.br).bind fun x6=>if x6=true then((cv a0.aW.fX (-1048576) 1048576).bind fun x8=>if x8=true then((cv a0.aW.fY (-1048576) 1048576).bind fun x10=>if x10=true then((cv a0.aW.fZ (-16384) 1048576).bind fun x12=>some x12)else(some false))else(some false))else(some false))else(some false))else(some false))else(some false))else(some false)
def fq(a0:(List aj)):Int->Option (nX (Int) ((Unit)⊕(Bool))):=fun s1=>
  if(decide (s1<(a0.length:Int)))=true then((nZ a0 s1).bind fun x4=>(fm x4).bind fun x5=>if(!x5)=true then(some (.stop (.inr false)))else(if(decide (s1>0))=true then((nZ a0 (IntKind.wrap .i64 (s1-1))).bind fun x8=>if(decide (x4.aT<x8.fTo))=true then(some (.stop (.inr false)))else(some (.next (IntKind.wrap .i64 (s1+1)))))else(some (.next (IntKind.wrap .i64 (s1+1))))))else(some (.stop (.inl ())))
def gW(a0:(List aj)):Option (Bool):=
  (oP (fq a0) hM 0).bind fun o11=>match o11 with| .inl _=>((cv (a0.length:Int) 1 32).bind fun x14=>some x14)| .inr r13=>(some r13)
def lB(a0:(List Int)):Option (Int):=
  (oP (cH a0) hM 0).bind fun o7=>match o7 with| .inl _=>(some 0)| .inr r9=>(some r9)
def iY(a0:ap)(a1:ap):Option (Int):=
  (bH a0.aY a1.aY).bind fun x1=>(bH a0.aM a1.aM).bind fun x2=>(bH a0.aK a1.aK).bind fun x3=>(bH a0.bd a1.bd).bind fun x4=>(lB [x1,x2,x3,x4]).bind fun x5=>some x5
def fO(a0:aB):Int->Option (nX (Int) ((Unit)⊕(Bool))):=fun s1=>
  if(decide (s1<(a0.aP.length:Int)))=true then((nZ a0.aP s1).bind fun x4=>(iD x4.aJ).bind fun x5=>if(!x5)=true then(some (.stop (.inr false)))else((gW x4.bu).bind fun x7=>if(!x7)=true then(some (.stop (.inr false)))else(if(decide (s1>0))=true then((nZ a0.aP (IntKind.wrap .i64 (s1-1))).bind fun x10=>(iY x10.aJ x4.aJ).bind fun x11=>if(decide (x11>=0))=true then(some (.stop (.inr false)))else(some (.next (IntKind.wrap .i64 (s1+1)))))else(some (.next (IntKind.wrap .i64 (s1+1)))))))else(some (.stop (.inl ())))
def io(a0:aB):Option (Bool):=
  (oP (fO a0) hM 0).bind fun o14=>match o14 with| .inl _=>(some (decide ((a0.aP.length:Int)<=128)))| .inr r16=>(some r16)
def gX(a0:ar):Option (Bool):=
  (iD a0.aJ).bind fun x1=>if x1=true then(if(decide (a0.a8>=0))=true then(if(decide (a0.a8<=a0.bS))=true then(if(decide (a0.bS<=a0.bF))=true then(if(decide (a0.bF<=18014398509481984))=true then((gr a0.bj 0 1073741823).bind fun x7=>if x7=true then((gr a0.bO (-1) 1).bind fun x9=>some x9)else(some false))else(some false))else(some false))else(some false))else(some false))else(some false)
def fN(a0:aj):Option (aj):=
  (py 96 a0.br.bn).bind fun x1=>(oP (dD x1) hM (0,x1)).bind fun o16=>some (aj.mk a0.aT a0.fTo a0.fd a0.aW (aL.mk o16))
def fo(x1:(List aj)):(Int×(List aj))->Option (nX (Int×(List aj)) ((List aj))):=fun(s2,s3)=>
  if(decide (s2<(x1.length:Int)))=true then((inO s3 s2).bind fun _=>(nZ s3 s2).bind fun x9=>(fN x9).bind fun x10=>(inO s3 s2).bind fun _=>(sZ s3 s2 x10).bind fun x13=>some (.next ((IntKind.wrap .i64 (s2+1)),x13)))else(some (.stop s3))
def gV(a0:au):Option (au):=
  (py 80 a0.bu).bind fun x1=>(oP (fo x1) hM (0,x1)).bind fun o15=>some (au.mk a0.aJ o15)
def gy(a0:aB)(a1:ap):Int->Option (nX (Int) ((Unit)⊕(au×Bool))):=fun s1=>
  if(decide (s1<(a0.aP.length:Int)))=true then((nZ a0.aP s1).bind fun x4=>if((x4.aJ.aY==a1.aY)&&((x4.aJ.aM==a1.aM)&&((x4.aJ.aK==a1.aK)&&((x4.aJ.bd==a1.bd)&&true))))=true then((gV x4).bind fun x6=>some (.stop (.inr (x6,true))))else(some (.next (IntKind.wrap .i64 (s1+1)))))else(some (.stop (.inl ())))
def iL(a0:aB)(a1:ap):Option (au×Bool):=
  (oP (gy a0 a1) hM 0).bind fun o8=>match o8 with| .inl _=>(some ((au.mk (ap.mk [] [] [] []) []),false))| .inr r10=>(some r10)
def jX(a0:au)(a1:Int):Option (aj×Bool):=
  (oP (gO a0 a1) hM 0).bind fun o8=>match o8 with| .inl _=>(some ((aj.mk 0 0 (aX.mk 0 0) (aa.mk 0 0 0) (aL.mk [])),false))| .inr r10=>(some r10)
def jV(a0:aB)(a1:ap)(a2:Int):Option (aj×Int):=
  (io a0).bind fun x1=>if(!x1)=true then(some ((aj.mk 0 0 (aX.mk 0 0) (aa.mk 0 0 0) (aL.mk [])),1))else((iL a0 a1).bind fun x3=>(jX x3.1 a2).bind fun x4=>if(!x4.2)=true then(some ((aj.mk 0 0 (aX.mk 0 0) (aa.mk 0 0 0) (aL.mk [])),6))else(some (x4.1,0)))
def gR(a0:aw)(a1:aB)(a2:ar):Option (aC×aj×Bool):=
  (gX a2).bind fun x1=>if(!x1)=true then(some ((aC.mk (aa.mk 0 0 0) 0 0 0),(aj.mk 0 0 (aX.mk 0 0) (aa.mk 0 0 0) (aL.mk [])),false))else((jV a1 a2.aJ a2.bS).bind fun x3=>if(x3.2 != 0)=true then(some ((aC.mk (aa.mk 0 0 0) 0 0 0),(aj.mk 0 0 (aX.mk 0 0) (aa.mk 0 0 0) (aL.mk [])),false))else((lA a0.aA.aS a0.aA.aG (aC.mk x3.1.aW a2.a8 a2.bF 1)).bind fun x5=>if(x5.2 != 0)=true then(some ((aC.mk (aa.mk 0 0 0) 0 0 0),(aj.mk 0 0 (aX.mk 0 0) (aa.mk 0 0 0) (aL.mk [])),false))else(some ((aC.mk x3.1.aW a2.a8 a2.bF 1),x3.1,true))))
instance :∀a0,LeC (lE a0) (ip a0):=fun _=>⟨by unfold lE ip;exact oc⟩
theorem keep_New_le(a0:(List Int)):Le (lE a0) (ip a0):=LeC.le
instance :∀d0,LeC (ky d0) (gh d0):=fun _=>⟨by unfold ky gh;exact oc⟩
instance :∀a1 d0,LeC (ig a1 d0) (cV a1 d0):=fun _ _=>⟨by unfold ig cV;exact oc⟩
instance :∀d0,LeC (l4 d0) (hJ d0):=fun _=>⟨by unfold l4 hJ;exact oc⟩
instance :∀a1 d0,LeC (ik a1 d0) (cK a1 d0):=fun _ _=>⟨by unfold ik cK;exact oc⟩
theorem Src_Settings_le(a1:Int)(d0:ac):Le (ik a1 d0) (cK a1 d0):=LeC.le
instance :∀d0,LeC (ij d0) (dJ d0):=fun _=>⟨by unfold ij dJ;exact oc⟩
instance :∀a0,LeC (gH a0) (c7 a0):=fun _=>⟨by unfold gH c7;exact oc⟩
theorem keep_Source_le(a0:Int):Le (gH a0) (c7 a0):=LeC.le
instance :∀a1 s,LeC (jo a1 s) (gD a1 s):=fun _ _=>⟨by unfold jo gD;(try dsimp only);exact oc⟩
instance :∀a1 d0,LeC (kx a1 d0) (eP a1 d0):=fun _ _=>⟨by unfold kx eP;exact oc⟩
theorem Src_Sites_le(a1:Int)(d0:ac):Le (kx a1 d0) (eP a1 d0):=LeC.le
instance :∀a0,LeC (eH a0) (bY a0):=fun _=>⟨by unfold eH bY;exact oc⟩
instance :∀a0,LeC (fR a0) (eQ a0):=fun _=>⟨by unfold fR eQ;exact oc⟩
theorem bits_Len_le(a0:Int):Le (fR a0) (eQ a0):=LeC.le
instance :∀a0,LeC (gl a0) (dZ a0):=fun _=>⟨by unfold gl dZ;exact oc⟩
instance :∀a0,LeC (jp a0) (fJ a0):=fun _=>⟨by unfold jp fJ;exact oc⟩
instance :∀a0 d0 d1,LeC (hC a0 d0 d1) (cE a0 d0 d1):=fun _ _ _=>⟨by unfold hC cE;exact oc⟩
instance :∀a0 a1 a2,LeC (iZ a0 a1 a2) (bI a0 a1 a2):=fun _ _ _=>⟨by unfold iZ bI;exact oc⟩
instance :∀a0 a1 a2,LeC (iG a0 a1 a2) (cL a0 a1 a2):=fun _ _ _=>⟨by unfold iG cL;exact oc⟩
instance :∀a0 a1 a2,LeC (lA a0 a1 a2) (cf a0 a1 a2):=fun _ _ _=>⟨by unfold lA cf;exact oc⟩
instance :∀a0 a1 a2,LeC (fM a0 a1 a2) (eF a0 a1 a2):=fun _ _ _=>⟨by unfold fM eF;exact oc⟩
instance :∀a0,LeC (iD a0) (fB a0):=fun _=>⟨by unfold iD fB;exact oc⟩
instance :∀a0 a1,LeC (nl a0 a1) (ml a0 a1):=fun _ _=>⟨by unfold nl ml;exact oc⟩
instance :∀a0,LeC (lK a0) (iQ a0):=fun _=>⟨by unfold lK iQ;exact oc⟩
instance :∀a0,LeC (dM a0) (co a0):=fun _=>⟨by unfold dM co;exact oc⟩
instance :∀a0,LeC (dc a0) (bX a0):=fun _=>⟨by unfold dc bX;exact oc⟩
instance :∀a0,LeC (db a0) (bT a0):=fun _=>⟨by unfold db bT;exact oc⟩
instance :∀a0,LeC (f8 a0) (cP a0):=fun _=>⟨by unfold f8 cP;exact oc⟩
instance :∀a0,LeC (fP a0) (b7 a0):=fun _=>⟨by unfold fP b7;exact oc⟩
instance :∀a0,LeC (fQ a0) (dG a0):=fun _=>⟨by unfold fQ dG;exact oc⟩
instance :∀a0 s,LeC (cS a0 s) (bU a0 s):=fun _ _=>⟨by unfold cS bU;(try dsimp only);exact oc⟩
instance :∀a0,LeC (dA a0) (b9 a0):=fun _=>⟨by unfold dA b9;exact oc⟩
instance :∀a0,LeC (cQ a0) (bM a0):=fun _=>⟨by unfold cQ bM;exact oc⟩
instance :∀a0,LeC (iA a0) (ek a0):=fun _=>⟨by unfold iA ek;exact oc⟩
instance :∀a0,LeC (iU a0) (d7 a0):=fun _=>⟨by unfold iU d7;exact oc⟩
instance :∀a0,LeC (fm a0) (cB a0):=fun _=>⟨by unfold fm cB;exact oc⟩
instance :∀a0 s,LeC (fq a0 s) (dm a0 s):=fun _ _=>⟨by unfold fq dm;(try dsimp only);exact oc⟩
instance :∀a0,LeC (gW a0) (dU a0):=fun _=>⟨by unfold gW dU;exact oc⟩
instance :∀a0,LeC (lB a0) (cp a0):=fun _=>⟨by unfold lB cp;exact oc⟩
instance :∀a0 a1,LeC (iY a0 a1) (dB a0 a1):=fun _ _=>⟨by unfold iY dB;exact oc⟩
instance :∀a0 s,LeC (fO a0 s) (dF a0 s):=fun _ _=>⟨by unfold fO dF;(try dsimp only);exact oc⟩
instance :∀a0,LeC (io a0) (c6 a0):=fun _=>⟨by unfold io c6;exact oc⟩
instance :∀a0,LeC (gX a0) (dV a0):=fun _=>⟨by unfold gX dV;exact oc⟩
instance :∀a0,LeC (fN a0) (cU a0):=fun _=>⟨by unfold fN cU;exact oc⟩
instance :∀x1 s,LeC (fo x1 s) (dl x1 s):=fun _ _=>⟨by unfold fo dl;(try dsimp only);exact oc⟩
instance :∀a0,LeC (gV a0) (dT a0):=fun _=>⟨by unfold gV dT;exact oc⟩
instance :∀a0 a1 s,LeC (gy a0 a1 s) (eu a0 a1 s):=fun _ _ _=>⟨by unfold gy eu;(try dsimp only);exact oc⟩
instance :∀a0 a1,LeC (iL a0 a1) (eV a0 a1):=fun _ _=>⟨by unfold iL eV;exact oc⟩
instance :∀a0 a1,LeC (jX a0 a1) (gn a0 a1):=fun _ _=>⟨by unfold jX gn;exact oc⟩
instance :∀a0 a1 a2,LeC (jV a0 a1 a2) (gm a0 a1 a2):=fun _ _ _=>⟨by unfold jV gm;exact oc⟩
instance :∀a0 a1 a2,LeC (gR a0 a1 a2) (cJ a0 a1 a2):=fun _ _ _=>⟨by unfold gR cJ;exact oc⟩
theorem solution_used_le(a0:aw)(a1:aB)(a2:ar):Le (gR a0 a1 a2) (cJ a0 a1 a2):=LeC.le
end
end Go.Dw.Lt
