
import Derived.Test.YtmmgjlgoggielaaGreatEdEvA

set_option maxRecDepth 100000
set_option maxHeartbeats 4000000
namespace Go.Dw.Ed
open Go.Proofs Go.Proofs.Tryz Go.Dw
theorem dE{a0:aH}{r:Int}(h:c9 a0=some r):EvP prog aN ext 199 [.d (aH.pd a0)] [] (rI r,[]):=by
 refine Ev.body Z Tryz.func199 Z Zk<|gU Z<|sB (.ptr 16 0) 16 (.var (aH.rc a0))<|sV (r0)<|sN<|gU Z<|sV (.ptr 16 1)<|sL Z<|sE (rI (a0.aI.length:Int)) (pf _ _)<|sA Z<|sN<|qS<|gU Z<|sV (.ptr 16 0)<|sL Z ?_
 refine sF h ?_ ?_<;>intro h
 ·refine sM Z<|k3<|sT<|sM Z<|k3<|sK<|sK<|sT<|sM Z<|sK<|sK ?_
  refine sT<|sM Z<|sK<|sK<|sT<|sN<|cT<|gU Z<|sV (rI 21)<|sN<|qR ?_
  exact oI h▸qD
 refine sM Z<|sV (.ptr 16 0)<|sL Z<|sV (rB (decide (a0.bn>(1048576:Int))))<|sF h ?_ ?_<;>intro h
 ·refine sM Z<|k3<|sK<|sK<|sT<|sM Z<|sK<|sK<|sT<|sM Z<|sK<|sK<|sT ?_
  refine sN<|cT<|gU Z<|sV (rI 21)<|sN<|qR ?_
  exact oI h▸qD
 refine mM Z<|sV (.ptr 16 2)<|sL Z<|sE (rI (a0.aC.length:Int)) (pf _ _)<|sV (rB ((a0.aI.length:Int) != (a0.aC.length:Int)))<|sF h ?_ ?_<;>intro h
 ·refine sM Z<|sK<|sK<|sT<|sM Z<|sK<|sK<|sT<|sN<|cT<|gU Z<|sV (rI 21)<|sN<|qR ?_
  exact oI h▸qD
 refine mM Z<|sV (rB (decide ((a0.aI.length:Int)<(2:Int))))<|sF h ?_ ?_<;>intro h
 ·refine sM Z<|sK<|sK<|sT<|sN<|cT<|gU Z<|sV (rI 21)<|sN<|qR ?_
  exact oI h▸qD
 refine mM Z<|sV (rB (decide ((a0.aI.length:Int)>(256:Int))))<|sF h ?_ ?_<;>intro h
 ·refine sN<|cT<|gU Z<|sV (rI 21)<|sN<|qR ?_
  exact oI h▸qD
 refine sN<|cF<|qK<|gU Z<|sV (r0)<|sV (r0)<|sN<|qS<|gU Z<|sM Z<|sV (r0)<|sN<|bE h fun o23 ho23 h=>WC.block (WC.loop (WL.pI ho23 (fun s=>gI 0 199 6 [(1,.ptr 16 0),(4,rI s.1),(5,rI s.2.1),(33,rI (a0.aI.length:Int)),(34,rI s.2.2)] [(16,.var (aH.rc a0))]) (fun o=>match o with| .inl y=>gX 0 0 199 12 [] []| .inr r=>gF 199 Tryz.f199 0 (rI r,[])) Z ?_ ?_))
 ·rintro⟨s6,s7,s8⟩ R' B' q9 hI h
  refine gS Z hI<|sF h ?_ ?_<;>intro h
  ·refine sN<|qS<|cT<|qK<|qS<|qB<|gU Z<|sM Z<|sA Z<|sN<|qS<|WC.cI Z Z<|sV (.ptr 16 1)<|sL Z<|sM Z ?_
   refine bE h fun x11 h11 h=>eG h11 Z<|sC Z<|sM Z<|sF h ?_ ?_<;>intro h
   ·refine sM Z<|k3<|k3<|sK<|sT<|sM Z<|k3<|sK<|sK ?_
    refine k3<|k3<|sT<|sM Z<|k3<|k3<|sT ?_
    refine sN<|sO<|cT<|gU Z<|sV (rI 21)<|sN<|qR ?_
    cases oI h
    exact⟨nofun,rfl,rfl⟩
   refine sM Z<|sV (.ptr 16 2)<|sL Z<|sM Z<|bE h fun x13 h13 h=>eG h13 Z<|sC Z<|sM Z<|sV (rB (decide (x13<s7)))<|sF h ?_ ?_<;>intro h
   ·refine sM Z<|k3<|k3<|k3<|sK<|sK<|sT<|sM Z<|sK ?_
    refine k3<|sK<|sK<|sT ?_
    refine sN<|sO<|cT<|gU Z<|sV (rI 21)<|sN<|qR ?_
    cases oI h
    exact⟨nofun,rfl,rfl⟩
   refine sM Z<|sV (.ptr 16 1)<|sL Z<|sM Z<|bE h fun x15 h15 h=>eG h15 Z<|sC Z<|sV (.ptr 16 2)<|sL Z<|sM Z<|bE h fun x16 h16 h=>eG h16 Z<|sC Z<|sV (rB (decide (x15>x16)))<|sF h ?_ ?_<;>intro h
   ·refine sM Z<|k3<|k3<|sT ?_
    refine sN<|sO<|cT<|gU Z<|sV (rI 21)<|sN<|qR ?_
    cases oI h
    exact⟨nofun,rfl,rfl⟩
   refine sM Z<|sV (.ptr 16 2)<|sL Z<|sM Z<|bE h fun x18 h18 h=>eG h18 Z<|sC Z<|sV (rB (decide (x18>(1099511627776:Int))))<|sF h ?_ ?_<;>intro h
   ·refine sN<|sO<|cT<|gU Z<|sV (rI 21)<|sN<|qR ?_
    cases oI h
    exact⟨nofun,rfl,rfl⟩
   refine sN<|sO<|cF<|qK<|WC.pX Z Z<|sV (.ptr 16 1)<|sL Z<|sM Z<|bE h fun x20 h20 h=>eG h20 Z<|sC Z<|sV (.ptr 16 2)<|sL Z<|sM Z<|bE h fun x21 h21 h=>eG h21 Z ?_
   refine sC Z<|sA Z<|sA Z ?_
   refine sN<|sO<|WC.region Z Z<|sV (rI (rW (s8+(1:Int))))<|sM Z<|sN ?_
   cases oI h
   exact⟨rfl,rfl⟩
  refine sN<|qS<|cF<|qX ?_
  cases oI h
  exact⟨nofun,rfl,rfl⟩
 intro e R' B' he hq
 rcases o23 with y24|r25
 ·obtain⟨rfl,hI⟩:=hq
  refine qE<|gS Z hI<|sV (r0)<|sN<|qR ?_
  exact oI h▸qD
 obtain⟨rfl,hf⟩:=hq
 cases oI h
 exact hf
theorem gm{a0:Int}{a1:Int}{a2:Int}{r:Bool}(h:dG a0 a1 a2=some r):EvP prog aN ext 200 [rI a0,rI a1,rI a2] [] (rB r,[]):=by
 refine Ev.body Z Tryz.func200 Z Zk<|gU Z<|sU<|sN<|gU Z<|mM Z<|sF h ?_ ?_<;>intro h
 ·refine mM Z<|sM Z<|sV (rB (decide (a0<=a2)))<|sV (rB (decide (a0<=a2)))<|sA Z<|sN<|qR ?_
  exact oI h▸qD
 refine sM Z<|k3<|sU<|sA Z<|sN<|qR ?_
 exact oI h▸qD
theorem oh{a0:al}{r:Bool}(h:ev a0=some r):EvP prog aN ext 245 [.d (al.pd a0)] [] (rB r,[]):=by
 refine Ev.body Z Tryz.func245 Z Zk<|gU Z<|sB (.ptr 16 0) 16 (.var (al.rc a0))<|sU<|sN<|gU Z<|sV (.ptr 16 0)<|sV (.d (aa.pd a0.aQ))<|bE h fun x1 h1 h=>qe h (fun hb2 h=>?_) (fun hb2 h=>?_)
 ·refine WO.qH (v:=rB true) (u:=[]) Z Z (fun _=>Z) Z Z Z Z Z (cO h1) Z Z (congrArg (fun b=>RV.d (.bool b)) hb2) Z<|sM Z<|sV (.ptr 16 3)<|sL Z<|sV (rB (decide (a0.aM>=(0:Int))))<|sF h ?_ ?_<;>intro h
  ·refine sM Z<|sV (.ptr 16 3)<|sL Z<|sV (.ptr 16 4)<|sL Z<|sV (rB (decide (a0.aM<=a0.bv)))<|sF h ?_ ?_<;>intro h
   ·refine sM Z<|sV (.ptr 16 4)<|sL Z<|sV (rB (decide (a0.bv<=(18014398509481984:Int))))<|sF h ?_ ?_<;>intro h
    ·refine sM Z<|sV (.ptr 16 5)<|sL Z<|sV (rB (decide (a0.bD>=(1:Int))))<|sF h ?_ ?_<;>intro h
     ·refine sM Z<|sV (.ptr 16 5)<|sL Z<|sV (rB (decide (a0.bD<=(100:Int))))<|sV (rB (decide (a0.bD<=(100:Int))))<|sA Z<|sN<|qR ?_
      exact oI h▸qD
     refine sM Z<|k3<|sU<|sA Z<|sN<|qR ?_
     exact oI h▸qD
    refine sM Z<|k3<|sU<|sM Z<|k3<|sU<|sA Z<|sN<|qR ?_
    exact oI h▸qD
   refine sM Z<|k3<|sU<|sM Z<|k3<|sU<|sM Z<|k3<|sU ?_
   refine sA Z<|sN<|qR ?_
   exact oI h▸qD
  refine sM Z<|k3<|sK<|sK<|sU<|sM Z<|k3<|sU<|sM Z<|sK<|sK ?_
  refine sK<|sU<|sM Z<|k3<|sU<|sA Z<|sN<|qR ?_
  exact oI h▸qD
 refine WO.qH (v:=rB false) (u:=[]) Z Z (fun _=>Z) Z Z Z Z Z (cO h1) Z Z (congrArg (fun b=>RV.d (.bool b)) hb2) Z<|sM Z<|k3<|sU<|sM Z<|k3<|sK<|sK<|sU<|sM Z<|sK ?_
 refine sK<|sK<|sU<|sM Z<|k3<|sU<|sM Z<|k3<|sU<|sA Z<|sN ?_
 refine qR ?_
 exact oI h▸qD
theorem iB{a0:Int}{a1:Int}{a2:Int}{r:Int}(h:ew a0 a1 a2=some r):EvP prog aN ext 196 [rI a0,rI a1,rI a2] [] (rI r,[]):=by
 refine Ev.body Z Tryz.func196 Z Zk<|gU Z<|sV (r0)<|sN<|gU Z<|mM Z<|sV (rI (rW (a1-a0)))<|mM Z<|sV (rI (rW (a0-a2)))<|sV (rI (if(0:Int)>(if(rW (a0-a2))>(rW (a1-a0))then(rW (a0-a2))else(rW (a1-a0)))then(0:Int)else(if(rW (a0-a2))>(rW (a1-a0))then(rW (a0-a2))else(rW (a1-a0)))))<|sA Z<|sN<|qR ?_
 exact oI h▸qD
theorem lS{a0:ah}{a1:aa}{r:Int}(h:gc a0 a1=some r):EvP prog aN ext 195 [.d (ah.pd a0),.d (aa.pd a1),.d (.raw (.func (.func 196) #[] #[]))] [] (rI r,[]):=by
 refine Ev.body Z Tryz.func195 Z Zk<|gU Z<|sB (.ptr 48 0) 48 (.var (ah.rc a0))<|sB (.ptr 64 0) 64 (.var (aa.rc a1))<|sV (r0)<|sN<|qS<|gU Z<|sV (.d (ah.pd a0))<|bE h fun x1 h1 h=>cD (bt h1)<|sF h ?_ ?_<;>intro h
 ·refine sM Z<|k3<|sT<|sN<|cT<|gU Z<|sV (r0)<|sN<|qR ?_
  exact oI h▸qD
 refine sM Z<|sV (.d (aa.pd a1))<|bE h fun x3 h3 h=>cD (cO h3)<|sV (rB (!x3))<|sF h ?_ ?_<;>intro h
 ·refine sN<|cT<|gU Z<|sV (r0)<|sN<|qR ?_
  exact oI h▸qD
 refine sN<|cF<|qK<|WC.cI Z Z<|sV (.ptr 48 0)<|sV (.d (aa.pd a0.aI))<|bE h fun x5 h5 h=>cD (bI h5)<|sV (.ptr 48 3)<|sV (.d (aa.pd a0.aC))<|bE h fun x6 h6 h=>cD (bI h6)<|sB (.ptr 128 0) 128 (.var [r0,r0,r0])<|sB (.ptr 144 0) 144 (.var [r0,r0,r0])<|sV (r0) ?_
 refine sS 128 (.var [rI x5.a0,rI x5.a1,rI x5.a2])<|sS 144 (.var [rI x6.a0,rI x6.a1,rI x6.a2]) ?_
 refine sN<|sO<|qS<|gU Z<|sV (.d (aa.pd a1))<|bE h fun x7 h7 h=>cD (bI h7)<|sV (r0)<|sN<|WC.block (WC.loop ?_)
 refine WL.round<|WC.p7 (R0:=[(2,.d (.raw (.func (.func 196) #[] #[]))),(7,r0),(8,.ptr 128 0),(9,.ptr 144 0),(28,.d (aT.pd x7)),(29,r0)]) (B0:=[(128,.var [rI x5.a0,rI x5.a1,rI x5.a2]),(144,.var [rI x6.a0,rI x6.a1,rI x6.a2])]) Z Z<|sT<|sN<|qS<|cT<|qK<|qS<|qB<|gU Z<|sM Z<|sV (rI x7.a0)<|sA Z<|sA Z<|sN ?_
 refine WC.cI Z Z<|mM Z<|sM Z<|sV (.ptr 128 0)<|sL Z<|sM Z<|sV (.ptr 144 0)<|sL Z<|bE h fun x8 h8 h=>cD (iB h8)<|sA Z ?_
 refine sN<|sO<|WC.region Z Z<|mM Z<|sM Z<|sV (rI (rW (x8*x8)))<|sV (rI (rW ((0:Int)+(rW (x8*x8)))))<|sA Z<|sN<|WC.region Z Z<|sV (rI 1)<|sM Z<|sN<|WL.round<|WC.p7 (R0:=[(2,.d (.raw (.func (.func 196) #[] #[]))),(7,rI (rW ((0:Int)+(rW (x8*x8))))),(8,.ptr 128 0),(9,.ptr 144 0),(28,.d (aT.pd x7)),(29,rI 1)]) (B0:=[(128,.var [rI x5.a0,rI x5.a1,rI x5.a2]),(144,.var [rI x6.a0,rI x6.a1,rI x6.a2])]) Z Z ?_
 refine sT<|sN<|qS<|cT<|qK<|qS<|qB<|gU Z<|sM Z<|sV (rI x7.a1)<|sA Z<|sA Z<|sN<|WC.cI Z Z<|sM Z ?_
 refine mM Z<|sV (.ptr 128 1)<|sL Z<|sM Z<|sV (.ptr 144 1)<|sL Z<|bE h fun x9 h9 h=>cD (iB h9)<|sA Z ?_
 refine sN<|sO<|WC.region Z Z<|mM Z<|sM Z<|sV (rI (rW (x9*x9)))<|sV (rI (rW ((rW ((0:Int)+(rW (x8*x8))))+(rW (x9*x9)))))<|sA Z<|sN<|WC.region Z Z<|sV (rI 2)<|sM Z<|sN<|WL.round<|WC.p7 (R0:=[(2,.d (.raw (.func (.func 196) #[] #[]))),(7,rI (rW ((rW ((0:Int)+(rW (x8*x8))))+(rW (x9*x9))))),(8,.ptr 128 0),(9,.ptr 144 0),(28,.d (aT.pd x7)),(29,rI 2)]) (B0:=[(128,.var [rI x5.a0,rI x5.a1,rI x5.a2]),(144,.var [rI x6.a0,rI x6.a1,rI x6.a2])]) Z Z ?_
 refine sT<|sN<|qS<|cT<|qK<|qS<|qB<|gU Z<|sM Z<|sV (rI x7.a2)<|sA Z<|sA Z<|sN<|WC.cI Z Z<|sM Z ?_
 refine mM Z<|sV (.ptr 128 2)<|sL Z<|sM Z<|sV (.ptr 144 2)<|sL Z<|bE h fun x10 h10 h=>cD (iB h10)<|sA Z ?_
 refine sN<|sO<|WC.region Z Z<|mM Z<|sM Z<|sV (rI (rW (x10*x10)))<|sV (rI (rW ((rW ((rW ((0:Int)+(rW (x8*x8))))+(rW (x9*x9))))+(rW (x10*x10)))))<|sA Z<|sN<|WC.region Z Z<|sV (rI 3)<|sM Z<|sN<|WL.round<|WC.p7 (R0:=[(2,.d (.raw (.func (.func 196) #[] #[]))),(7,rI (rW ((rW ((rW ((0:Int)+(rW (x8*x8))))+(rW (x9*x9))))+(rW (x10*x10))))),(8,.ptr 128 0),(9,.ptr 144 0),(28,.d (aT.pd x7)),(29,rI 3)]) (B0:=[(128,.var [rI x5.a0,rI x5.a1,rI x5.a2]),(144,.var [rI x6.a0,rI x6.a1,rI x6.a2])]) Z Z ?_
 refine sU<|sN<|qS<|cF<|qX<|qE<|gU Z<|sM Z<|sA Z<|sN<|qR ?_
 exact oI h▸qD
theorem kb{a0:ah}{a1:aa}{r:Int}(h:ep a0 a1=some r):EvP prog aN ext 111 [.d (ah.pd a0),.d (aa.pd a1)] [] (rI r,[]):=by
 refine Ev.body Z Tryz.func111 Z Zk<|gU Z<|sB (.ptr 32 0) 32 (.var (ah.rc a0))<|sB (.ptr 48 0) 48 (.var (aa.rc a1))<|sV (r0)<|sN<|gU Z<|sV (.d (ah.pd a0))<|sV (.d (aa.pd a1))<|bE h fun x1 h1 h=>cD (lS h1)<|sA Z<|sN<|qR ?_
 exact oI h▸qD
theorem gK{a0:Int}{a1:Int}{a2:Int}{r:Int}(h:dW a0 a1 a2=some r):EvP prog aN ext 197 [rI a0,rI a1,rI a2] [] (rI r,[]):=by
 refine Ev.body Z Tryz.func197 Z Zk<|gU Z<|sV (r0)<|sN<|gU Z<|mM Z<|sV (rI (rW (a2-a0)))<|mM Z<|sV (rI (rW (a0-a1)))<|sV (rI (if(rW (a0-a1))>(rW (a2-a0))then(rW (a0-a1))else(rW (a2-a0))))<|sA Z<|sN<|qR ?_
 exact oI h▸qD
theorem lG{a0:ah}{a1:aa}{r:Int}(h:fA a0 a1=some r):EvP prog aN ext 195 [.d (ah.pd a0),.d (aa.pd a1),.d (.raw (.func (.func 197) #[] #[]))] [] (rI r,[]):=by
 refine Ev.body Z Tryz.func195 Z Zk<|gU Z<|sB (.ptr 48 0) 48 (.var (ah.rc a0))<|sB (.ptr 64 0) 64 (.var (aa.rc a1))<|sV (r0)<|sN<|qS<|gU Z<|sV (.d (ah.pd a0))<|bE h fun x1 h1 h=>cD (bt h1)<|sF h ?_ ?_<;>intro h
 ·refine sM Z<|k3<|sT<|sN<|cT<|gU Z<|sV (r0)<|sN<|qR ?_
  exact oI h▸qD
 refine sM Z<|sV (.d (aa.pd a1))<|bE h fun x3 h3 h=>cD (cO h3)<|sV (rB (!x3))<|sF h ?_ ?_<;>intro h
 ·refine sN<|cT<|gU Z<|sV (r0)<|sN<|qR ?_
  exact oI h▸qD
 refine sN<|cF<|qK<|WC.cI Z Z<|sV (.ptr 48 0)<|sV (.d (aa.pd a0.aI))<|bE h fun x5 h5 h=>cD (bI h5)<|sV (.ptr 48 3)<|sV (.d (aa.pd a0.aC))<|bE h fun x6 h6 h=>cD (bI h6)<|sB (.ptr 128 0) 128 (.var [r0,r0,r0])<|sB (.ptr 144 0) 144 (.var [r0,r0,r0])<|sV (r0) ?_
 refine sS 128 (.var [rI x5.a0,rI x5.a1,rI x5.a2])<|sS 144 (.var [rI x6.a0,rI x6.a1,rI x6.a2]) ?_
 refine sN<|sO<|qS<|gU Z<|sV (.d (aa.pd a1))<|bE h fun x7 h7 h=>cD (bI h7)<|sV (r0)<|sN<|WC.block (WC.loop ?_)
 refine WL.round<|WC.p7 (R0:=[(2,.d (.raw (.func (.func 197) #[] #[]))),(7,r0),(8,.ptr 128 0),(9,.ptr 144 0),(28,.d (aT.pd x7)),(29,r0)]) (B0:=[(128,.var [rI x5.a0,rI x5.a1,rI x5.a2]),(144,.var [rI x6.a0,rI x6.a1,rI x6.a2])]) Z Z<|sT<|sN<|qS<|cT<|qK<|qS<|qB<|gU Z<|sM Z<|sV (rI x7.a0)<|sA Z<|sA Z<|sN ?_
 refine WC.cI Z Z<|mM Z<|sM Z<|sV (.ptr 128 0)<|sL Z<|sM Z<|sV (.ptr 144 0)<|sL Z<|bE h fun x8 h8 h=>cD (gK h8)<|sA Z ?_
 refine sN<|sO<|WC.region Z Z<|mM Z<|sM Z<|sV (rI (rW (x8*x8)))<|sV (rI (rW ((0:Int)+(rW (x8*x8)))))<|sA Z<|sN<|WC.region Z Z<|sV (rI 1)<|sM Z<|sN<|WL.round<|WC.p7 (R0:=[(2,.d (.raw (.func (.func 197) #[] #[]))),(7,rI (rW ((0:Int)+(rW (x8*x8))))),(8,.ptr 128 0),(9,.ptr 144 0),(28,.d (aT.pd x7)),(29,rI 1)]) (B0:=[(128,.var [rI x5.a0,rI x5.a1,rI x5.a2]),(144,.var [rI x6.a0,rI x6.a1,rI x6.a2])]) Z Z ?_
 refine sT<|sN<|qS<|cT<|qK<|qS<|qB<|gU Z<|sM Z<|sV (rI x7.a1)<|sA Z<|sA Z<|sN<|WC.cI Z Z<|sM Z ?_
 refine mM Z<|sV (.ptr 128 1)<|sL Z<|sM Z<|sV (.ptr 144 1)<|sL Z<|bE h fun x9 h9 h=>cD (gK h9)<|sA Z ?_
 refine sN<|sO<|WC.region Z Z<|mM Z<|sM Z<|sV (rI (rW (x9*x9)))<|sV (rI (rW ((rW ((0:Int)+(rW (x8*x8))))+(rW (x9*x9)))))<|sA Z<|sN<|WC.region Z Z<|sV (rI 2)<|sM Z<|sN<|WL.round<|WC.p7 (R0:=[(2,.d (.raw (.func (.func 197) #[] #[]))),(7,rI (rW ((rW ((0:Int)+(rW (x8*x8))))+(rW (x9*x9))))),(8,.ptr 128 0),(9,.ptr 144 0),(28,.d (aT.pd x7)),(29,rI 2)]) (B0:=[(128,.var [rI x5.a0,rI x5.a1,rI x5.a2]),(144,.var [rI x6.a0,rI x6.a1,rI x6.a2])]) Z Z ?_
 refine sT<|sN<|qS<|cT<|qK<|qS<|qB<|gU Z<|sM Z<|sV (rI x7.a2)<|sA Z<|sA Z<|sN<|WC.cI Z Z<|sM Z ?_
 refine mM Z<|sV (.ptr 128 2)<|sL Z<|sM Z<|sV (.ptr 144 2)<|sL Z<|bE h fun x10 h10 h=>cD (gK h10)<|sA Z ?_
 refine sN<|sO<|WC.region Z Z<|mM Z<|sM Z<|sV (rI (rW (x10*x10)))<|sV (rI (rW ((rW ((rW ((0:Int)+(rW (x8*x8))))+(rW (x9*x9))))+(rW (x10*x10)))))<|sA Z<|sN<|WC.region Z Z<|sV (rI 3)<|sM Z<|sN<|WL.round<|WC.p7 (R0:=[(2,.d (.raw (.func (.func 197) #[] #[]))),(7,rI (rW ((rW ((rW ((0:Int)+(rW (x8*x8))))+(rW (x9*x9))))+(rW (x10*x10))))),(8,.ptr 128 0),(9,.ptr 144 0),(28,.d (aT.pd x7)),(29,rI 3)]) (B0:=[(128,.var [rI x5.a0,rI x5.a1,rI x5.a2]),(144,.var [rI x6.a0,rI x6.a1,rI x6.a2])]) Z Z ?_
 refine sU<|sN<|qS<|cF<|qX<|qE<|gU Z<|sM Z<|sA Z<|sN<|qR ?_
 exact oI h▸qD
theorem np{a0:ah}{a1:aa}{r:Int}(h:f9 a0 a1=some r):EvP prog aN ext 112 [.d (ah.pd a0),.d (aa.pd a1)] [] (rI r,[]):=by
 refine Ev.body Z Tryz.func112 Z Zk<|gU Z<|sB (.ptr 32 0) 32 (.var (ah.rc a0))<|sB (.ptr 48 0) 48 (.var (aa.rc a1))<|sV (r0)<|sN<|gU Z<|sV (.d (ah.pd a0))<|sV (.d (aa.pd a1))<|bE h fun x1 h1 h=>cD (lG h1)<|sA Z<|sN<|qR ?_
 exact oI h▸qD
theorem bound_squares_ev{a0:aH}{a1:ah}{a2:aa}{r:aH×Int×Int}(h:kw a0 a1 a2=some r):EvP prog aN ext 310 [.d (aH.pd a0),.d (ah.pd a1),.d (aa.pd a2)] [] (.tup [.d (aH.pd r.1),rI r.2.1,rI r.2.2],[]):=by
 refine Ev.body Z Tryz.func310 Z Zk<|gU Z<|sB (.ptr 48 0) 48 (.var (aH.rc a0))<|sB (.ptr 64 0) 64 (.var (ah.rc a1))<|sB (.ptr 80 0) 80 (.var (aa.rc a2))<|sB (.ptr 96 0) 96 (.var [r0,.mA,.mA])<|sV (r0)<|sV (r0)<|sN<|WC.cI Z Z<|sV (.d (aH.pd a0))<|sV (.d (ah.pd a1))<|sV (.d (aa.pd a2))<|bE h fun x1 h1 h=>cD (kb h1) ?_
 refine sV (.d (ah.pd a1))<|sV (.d (aa.pd a2))<|bE h fun x2 h2 h=>cD (np h2)<|sS 96 (.var (aH.rc a0))<|sA Z<|sA Z ?_
 refine sN<|sO<|qR ?_
 exact oI h▸qD
theorem bits_Len64_ev{a0:Int}{r:Int}(h:lE a0=some r):EvP prog aN ext 217 [.d (.int .u64 a0)] [] (rI r,[]):=by
 refine Ev.body Z Tryz.func217 Z Zk<|gU Z<|sV (r0)<|sN<|WC.join (α:=Int×Int) (fun x R' B'=>qb prog 0 (A R' B') (aN.at_ 217 0 4)=some (A [(0,.d (.int .u64 x.1)),(2,rI x.2)] [])) (fun x=>fw x.1 x.2=some r) ?_ ?_
 ·refine gU Z<|sM Z<|sF h ?_ ?_<;>intro h
  ·exact sN<|cT<|gS rfl rfl<|sM rfl<|sV (.d (.int .u64 (p9 .u64 a0 (32:Int))))<|sA rfl<|sN<|WC.region rfl rfl<|sV (rI 32)<|sN<|⟨((p9 .u64 a0 (32:Int)),32),rfl,h⟩
  exact sN<|cF<|qK<|⟨(a0,0),rfl,h⟩
 rintro⟨j1,j2⟩ R' B' hI h
 refine WC.join (α:=Int×Int) (fun x R' B'=>qb prog 0 (A R' B') (aN.at_ 217 0 7)=some (A [(0,.d (.int .u64 x.1)),(2,rI x.2)] [])) (fun x=>gw x.1 x.2=some r) ?_ ?_
 ·refine gS Z hI<|sM Z<|sF h ?_ ?_<;>intro h
  ·exact sN<|cT<|gS rfl rfl<|sM rfl<|sV (.d (.int .u64 (p9 .u64 j1 (16:Int))))<|sA rfl<|sN<|WC.region rfl rfl<|sM rfl<|sV (rI (rW (j2+(16:Int))))<|sA rfl<|sN<|⟨((p9 .u64 j1 (16:Int)),(rW (j2+(16:Int)))),rfl,h⟩
  exact sN<|cF<|qK<|⟨(j1,j2),rfl,h⟩
 rintro⟨j3,j4⟩ R' B' hI h
 refine qS<|gS Z hI<|sM Z<|sF h ?_ ?_<;>intro h
 ·refine sN<|cT<|gU Z<|sM Z<|sV (.d (.int .u64 (p9 .u64 j3 (8:Int))))<|sA Z<|sN<|WC.region Z Z<|sM Z<|sV (rI (rW (j4+(8:Int))))<|sA Z<|sN<|gU Z<|sM Z<|sM Z ?_
  refine sV (.d (.int .u8 (IntKind.wrap .u8 (p9 .u64 j3 (8:Int)))))<|bE h fun x6 h6 h=>WO.byteG h6 Z Z Z Z Z Z<|sV (rI (IntKind.wrap .i64 x6))<|sV (rI (rW ((rW (j4+(8:Int)))+(IntKind.wrap .i64 x6))))<|sA Z<|sN<|qR ?_
  exact oI h▸qD
 refine sN<|cF<|qK<|gU Z<|mM Z<|sV (.d (.int .u8 (IntKind.wrap .u8 j3)))<|bE h fun x7 h7 h=>WO.byteG h7 Z Z Z Z Z Z<|sV (rI (IntKind.wrap .i64 x7))<|sV (rI (rW (j4+(IntKind.wrap .i64 x7))))<|sA Z<|sN<|qR ?_
 exact oI h▸qD
theorem nE{a0:Int}{r:Int}(h:fu a0=some r):EvP prog aN ext 136 [.d (.int .u64 a0)] [] (rI r,[]):=by
 refine Ev.body Z Tryz.func136 Z Zk<|gU Z<|sV (r0)<|sN<|qS<|cF<|qK<|gU Z<|sM Z<|bE h fun x1 h1 h=>cD (bits_Len64_ev h1)<|sA Z<|sN<|qR ?_
 exact oI h▸qD
theorem lY{a0:Int}{r:Int}(h:gJ a0=some r):EvP prog aN ext 280 [rI a0] [] (rI r,[]):=by
 refine Ev.body Z Tryz.func280 Z Zk<|gU Z<|sV (r0)<|sN<|qS<|gU Z<|sM Z<|sF h ?_ ?_<;>intro h
 ·refine sN<|cT<|gU Z<|sV (r0)<|sN<|qR ?_
  exact oI h▸qD
 refine sN<|cF<|qK<|gU Z<|sV (r0)<|sN<|qS<|gU Z<|sM Z<|sV (.d (.int .u64 (IntKind.wrap .u64 a0)))<|bE h fun x2 h2 h=>cD (nE h2)<|sV (rI (rW (x2-(1:Int))))<|bE h fun x3 h3 h=>WO.um h3 Z Z Z Z Z Z ?_
 refine bE h fun x4 h4 h=>WO.shlG h4 Z Z Z Z Z<|sA Z<|sN<|bE h fun o13 ho13 h=>WC.block (WC.loop (WL.pI ho13 (fun s=>gI 0 280 5 [(0,rI a0),(3,rI s.1),(4,rI s.2)] []) (fun o=>gX 0 0 280 10 [(3,rI o)] []) Z ?_ ?_))
 ·rintro⟨s5,s6⟩ R' B' q8 hI h
  refine qS<|gS Z hI<|sM Z<|sF h ?_ ?_<;>intro h
  ·refine sN<|cT<|qK<|qS<|qB<|gU Z<|mM Z<|sV (rI (orI .i64 s5 s6))<|sA Z<|sN<|gU Z<|mM Z<|sM Z ?_
   refine bE h fun x10 h10 h=>WO.um h10 Z Z Z Z Z Z<|sF h ?_ ?_<;>intro h
   ·refine sN<|cT<|WC.region Z Z<|sM Z<|sA Z<|sN<|WC.region Z Z<|sM Z<|sV (rI (p9 .i64 s6 (1:Int)))<|sA Z<|sN ?_
    cases oI h
    exact⟨rfl,rfl⟩
   refine sN<|cF<|qK<|WC.region Z Z<|sM Z<|sV (rI (p9 .i64 s6 (1:Int)))<|sA Z<|sN ?_
   cases oI h
   exact⟨rfl,rfl⟩
  refine sN<|cF<|qX ?_
  cases oI h
  exact⟨nofun,rfl,rfl⟩
 intro e R' B' he hq
 obtain⟨rfl,hI⟩:=hq
 refine qE<|gS Z hI<|sM Z<|sA Z<|sN<|qR ?_
 exact oI h▸qD
theorem geometry_Ceil_ev{a0:Int}{r:Int}(h:ky a0=some r):EvP prog aN ext 276 [rI a0] [] (rI r,[]):=by
 refine Ev.body Z Tryz.func276 Z Zk<|gU Z<|sV (r0)<|sN<|gU Z<|sM Z<|bE h fun x1 h1 h=>cD (lY h1)<|sA Z<|sN<|qS<|gU Z<|mM Z<|sV (rI (rW (x1*x1))) ?_
 refine sM Z<|sF h ?_ ?_<;>intro h
 ·refine sN<|cT<|WC.region Z Z<|sM Z<|sV (rI (rW (x1+(1:Int))))<|sA Z<|sN<|gU Z<|sM Z<|sA Z<|sN<|qR ?_
  exact oI h▸qD
 refine sN<|cF<|qK<|gU Z<|sM Z<|sA Z<|sN<|qR ?_
 exact oI h▸qD
theorem travel_reach_ev{a0:aH}{r:Int}(h:lu a0=some r):EvP prog aN ext 277 [.d (aH.pd a0)] [] (rI r,[]):=by
 refine Ev.body Z Tryz.func277 Z Zk<|gU Z<|sB (.ptr 16 0) 16 (.var (aH.rc a0))<|sV (r0)<|sN<|gU Z<|sV (.ptr 16 0)<|sL Z<|sV (.ptr 16 1)<|sL Z<|sE (rI (a0.aI.length:Int)) (pf _ _)<|sV (rI (rW ((a0.aI.length:Int)-(1:Int))))<|sV (rI (rW (a0.bn*(rW ((a0.aI.length:Int)-(1:Int))))))<|sA Z<|sN ?_
 refine qR ?_
 exact oI h▸qD
theorem nj{a0:Int}{d0:aH}{d1:Int}{r:Bool}(h:fr a0 d0 d1=some r):EvP prog aN ext 279 [rI a0,.ptr 0 0,.ptr 1 0] [.var (aH.rc d0),.var [rI d1]] (rB r,[.var (aH.rc d0),.var [rI d1]]):=by
 refine Ev.body Z Tryz.func279 Z Zk<|gU Z<|sU<|sN<|gU Z<|sM Z<|sV (.ptr 0 0)<|sL Z<|sV (rI (rW (a0*d0.bn)))<|sL Z<|sV (rB (decide ((rW (a0*d0.bn))>=d1)))<|sA Z<|sN<|qR ?_
 exact oI h▸qD
theorem ow{a0:Int}{d0:aH}{d1:Int}{r:Int}(h:ex a0 d0 d1=some r):EvP prog aN ext 278 [rI a0,.clo 279 [.ptr 0 0,.ptr 1 0]] [.var (aH.rc d0),.var [rI d1]] (rI r,[.var (aH.rc d0),.var [rI d1]]):=by
 refine Ev.body Z Tryz.func278 Z Zk<|gU Z<|sV (r0)<|sN<|gU Z<|sM Z<|sV (r0)<|sA Z<|sN<|qS<|bE h fun o9 ho9 h=>WC.block (WC.loop (WL.pI ho9 (fun s=>gI 2 278 2 [(1,.clo 279 [.ptr 0 0,.ptr 1 0]),(5,rI s.1),(6,rI s.2)] [(0,.var (aH.rc d0)),(1,.var [rI d1])]) (fun o=>gX 0 2 278 7 [(5,rI o)] [(0,.var (aH.rc d0)),(1,.var [rI d1])]) Z ?_ ?_))
 ·rintro⟨s1,s2⟩ R' B' q4 hI h
  refine qS<|gS Z hI<|mM Z<|sF h ?_ ?_<;>intro h
  ·refine sN<|cT<|qK<|qB<|gU Z<|mM Z<|sV (rI (rW (s1+s2)))<|sV (.d (.int .u64 (IntKind.wrap .u64 (rW (s1+s2)))))<|sV (.d (.int .u64 (p9 .u64 (IntKind.wrap .u64 (rW (s1+s2))) (1:Int))))<|sV (rI (rW (p9 .u64 (IntKind.wrap .u64 (rW (s1+s2))) (1:Int))))<|sA Z<|sN<|gU Z<|sM Z ?_
   refine sM Z<|bE h fun x6 h6 h=>cR (rB x6) [(0,.var (aH.rc d0)),(1,.var [rI d1])] (nj h6)<|sF h ?_ ?_<;>intro h
   ·refine sN<|cT<|WC.region Z Z<|sM Z<|sV (rI (rW ((rW (p9 .u64 (IntKind.wrap .u64 (rW (s1+s2))) (1:Int)))+(1:Int))))<|sA Z<|sN ?_
    cases oI h
    exact⟨rfl,rfl⟩
   refine sN<|cF<|WC.region Z Z<|sM Z<|sA Z<|sN ?_
   cases oI h
   exact⟨rfl,rfl⟩
  refine sN<|cF<|qX ?_
  cases oI h
  exact⟨nofun,rfl,rfl⟩
 intro e R' B' he hq
 obtain⟨rfl,hI⟩:=hq
 refine qE<|gS Z hI<|sM Z<|sA Z<|sN<|qR ?_
 exact oI h▸qD
theorem me{a0:aH}{a1:Int}{a2:Int}{r:Int×Int×Int}(h:cn a0 a1 a2=some r):EvP prog aN ext 191 [.d (aH.pd a0),rI a1,rI a2] [] (.tup [rI r.1,rI r.2.1,rI r.2.2],[]):=by
 refine Ev.body Z Tryz.func191 Z Zk<|gU Z<|sB (.ptr 48 0) 48 (.var (aH.rc a0))<|sV (r0)<|sV (r0)<|sV (r0)<|sN<|qS<|gU Z<|sV (.d (aH.pd a0))<|bE h fun x1 h1 h=>cD (dE h1)<|sF h ?_ ?_<;>intro h
 ·refine sN<|cT<|gU Z<|sV (r0)<|sV (r0)<|sV (rI 21)<|sN<|qR ?_
  exact oI h▸qD
 refine sN<|cF<|qK<|qS<|gU Z<|sM Z<|sF h ?_ ?_<;>intro h
 ·refine sM Z<|k3<|sT<|sN<|cT<|gU Z<|sV (r0)<|sV (r0)<|sV (rI 2)<|sN<|qR ?_
  exact oI h▸qD
 refine mM Z<|sM Z<|sV (rB (decide (a1>a2)))<|sF h ?_ ?_<;>intro h
 ·refine sN<|cT<|gU Z<|sV (r0)<|sV (r0)<|sV (rI 2)<|sN<|qR ?_
  exact oI h▸qD
 refine sN<|cF<|qK<|gU Z<|sM Z<|bE h fun x5 h5 h=>cD (geometry_Ceil_ev h5)<|sB (.ptr 144 0) 144 (.var [r0])<|sS 144 (.var [rI x5])<|sN<|qS<|WC.cI Z Z<|sL Z<|sV (.d (aH.pd a0))<|bE h fun x6 h6 h=>?_
 refine cD (travel_reach_ev h6)<|sF h ?_ ?_<;>intro h
 ·refine sN<|sO<|cT<|gU Z<|sV (r0)<|sV (r0)<|sV (rI 22)<|sN<|qR ?_
  exact oI h▸qD
 refine sN<|sO<|cF<|qK<|gU Z<|sV (.ptr 48 2)<|sL Z<|sE (rI (a0.aC.length:Int)) (pf _ _)<|sV (.clo 279 [.ptr 48 0,.ptr 144 0])<|bE h fun x8 h8 h=>cR (rI x8) [(48,.var (aH.rc a0)),(144,.var [rI x5])] (ow h8)<|sA Z<|sN<|WC.cI Z Z<|sV (.ptr 48 1)<|sL Z ?_
 refine sM Z<|bE h fun x9 h9 h=>cD (lY h9)<|sV (.ptr 48 0)<|sL Z<|bE h fun x10 h10 h=>WO.um h10 Z Z Z Z Z Z<|bE h fun x11 h11 h=>eG h11 Z<|sC Z<|sV (.ptr 48 2)<|sL Z<|sM Z<|bE h fun x12 h12 h=>eG h12 Z ?_
 refine sC Z<|sA Z<|sA Z<|sV (r0) ?_
 refine sN<|sO<|qR ?_
 exact oI h▸qD
theorem pe{a0:aH}{a1:ah}{a2:aa}{r:Int×Int×Int}(h:jx a0 a1 a2=some r):EvP prog aN ext 246 [.d (aH.pd a0),.d (ah.pd a1),.d (aa.pd a2)] [] (.tup [rI r.1,rI r.2.1,rI r.2.2],[]):=by
 refine Ev.body Z Tryz.func246 Z Zk<|gU Z<|sB (.ptr 48 0) 48 (.var (aH.rc a0))<|sB (.ptr 64 0) 64 (.var (ah.rc a1))<|sB (.ptr 80 0) 80 (.var (aa.rc a2))<|sV (r0)<|sV (r0)<|sV (r0)<|sN<|qS<|gU Z<|sV (.d (aH.pd a0))<|bE h fun x1 h1 h=>cD (dE h1)<|sA Z ?_
 refine sN<|gU Z<|sM Z<|sF h ?_ ?_<;>intro h
 ·refine sN<|cT<|gU Z<|sM Z<|sV (r0)<|sV (r0)<|sA Z<|sN<|qR ?_
  exact oI h▸qD
 refine sN<|cF<|qK<|qS<|gU Z<|sV (.d (ah.pd a1))<|bE h fun x3 h3 h=>cD (bt h3)<|sF h ?_ ?_<;>intro h
 ·refine sM Z<|k3<|sT<|sN<|cT<|gU Z<|sV (r0)<|sV (r0)<|sV (rI 20)<|sN<|qR ?_
  exact oI h▸qD
 refine sM Z<|sV (.d (aa.pd a2))<|bE h fun x5 h5 h=>cD (cO h5)<|sV (rB (!x5))<|sF h ?_ ?_<;>intro h
 ·refine sN<|cT<|gU Z<|sV (r0)<|sV (r0)<|sV (rI 20)<|sN<|qR ?_
  exact oI h▸qD
 refine sN<|cF<|qK<|gU Z<|sV (.d (aH.pd a0))<|sV (.d (ah.pd a1))<|sV (.d (aa.pd a2))<|bE h fun x7 h7 h=>cR (.tup [.d (aH.pd x7.1),rI x7.2.1,rI x7.2.2]) [] (bound_squares_ev h7)<|sV (.d (aH.pd x7.1))<|sV (rI x7.2.1)<|sV (rI x7.2.2)<|bE h fun x8 h8 h=>cR (.tup [rI x8.1,rI x8.2.1,rI x8.2.2]) [] (me h8)<|sV (rI x8.1) ?_
 refine sV (rI x8.2.1)<|sV (rI x8.2.2)<|sA Z<|sA Z<|sA Z<|sN<|qR ?_
 exact oI h▸qD
theorem ku{a0:aH}{a1:ah}{a2:al}{r:aF×Int}(h:dj a0 a1 a2=some r):EvP prog aN ext 158 [.d (aH.pd a0),.d (ah.pd a1),.d (al.pd a2)] [] (.tup [.d (aF.pd r.1),rI r.2],[]):=by
 refine Ev.body Z Tryz.func158 Z Zk<|gU Z<|sB (.ptr 48 0) 48 (.var (aH.rc a0))<|sB (.ptr 64 0) 64 (.var (ah.rc a1))<|sB (.ptr 80 0) 80 (.var (al.rc a2))<|sB (.ptr 96 0) 96 (.var [r0,r0])<|sV (r0)<|sN<|qS<|gU Z<|sV (.d (aH.pd a0))<|bE h fun x1 h1 h=>cD (dE h1)<|sA Z<|sN ?_
 refine gU Z<|sM Z<|sF h ?_ ?_<;>intro h
 ·refine sN<|cT<|gU Z<|sV (.d (aF.pd (aF.mk 0 0)))<|sM Z<|sS 96 (.var [r0,r0])<|sA Z<|sN<|qR ?_
  exact oI h▸qD
 refine sN<|cF<|qK<|qS<|gU Z<|sV (.d (ah.pd a1))<|bE h fun x3 h3 h=>cD (bt h3)<|sF h ?_ ?_<;>intro h
 ·refine sN<|cT<|gU Z<|sV (.d (aF.pd (aF.mk 0 0)))<|sS 96 (.var [r0,r0])<|sV (rI 20)<|sN<|qR ?_
  exact oI h▸qD
 refine sN<|cF<|qK<|qS<|gU Z<|sV (.d (al.pd a2))<|bE h fun x5 h5 h=>cD (oh h5)<|sF h ?_ ?_<;>intro h
 ·refine sN<|cT<|gU Z<|sV (.d (aF.pd (aF.mk 0 0)))<|sS 96 (.var [r0,r0])<|sV (rI 23)<|sN<|qR ?_
  exact oI h▸qD
 refine sN<|cF<|qK<|gU Z<|sV (.d (aH.pd a0))<|sV (.d (ah.pd a1))<|sV (.ptr 80 0)<|sV (.d (aa.pd a2.aQ))<|bE h fun x7 h7 h=>cR (.tup [rI x7.1,rI x7.2.1,rI x7.2.2]) [] (pe h7)<|sM Z<|sV (rI x7.1)<|sV (rI x7.2.1)<|sV (rI x7.2.2)<|sA Z ?_
 refine sA Z<|sA Z<|sN<|qS<|gU Z<|sM Z<|sF h ?_ ?_<;>intro h
 ·refine sN<|cT<|gU Z<|sV (.d (aF.pd (aF.mk 0 0)))<|sM Z<|sS 96 (.var [r0,r0])<|sA Z<|sN<|qR ?_
  exact oI h▸qD
 refine sN<|cF<|qK<|gU Z<|sV (.ptr 80 3)<|sL Z<|sM Z<|sV (rI (rW (a2.aM-x7.2.1)))<|sV (.ptr 80 4)<|sL Z<|sM Z<|sV (rI (rW (a2.bv-x7.1)))<|sV (.d (aF.pd (aF.mk (rW (a2.aM-x7.2.1)) (rW (a2.bv-x7.1)))))<|sS 96 (.var [rI (rW (a2.aM-x7.2.1)),rI (rW (a2.bv-x7.1))])<|sV (r0) ?_
 refine sN<|qR ?_
 exact oI h▸qD
theorem jT{a0:aG}{a1:(List al)}{r:Int}(h:da a0 a1=some r):EvP prog aN ext 118 [.d (aG.pd a0),rM al.pd a1] [] (rI r,[]):=by
 refine Ev.body Z Tryz.func118 Z Zk<|gU Z<|sB (.ptr 32 0) 32 (.var (aG.rc a0))<|sV (r0)<|sN<|qS<|gU Z<|sV (.ptr 32 0)<|sV (.d (ah.pd a0.aK))<|bE h fun x1 h1 h=>cD (bt h1)<|sF h ?_ ?_<;>intro h
 ·refine sM Z<|k3<|sK<|sT<|sM Z<|k3<|sK<|sT<|sM Z<|sK<|sK ?_
  refine sK<|sK<|sT<|sM Z<|k3<|sK<|sT<|sM Z<|k3<|sK<|sT ?_
  refine sM Z<|k3<|sK<|sT<|sN<|cT<|gU Z<|sV (rI 27)<|sN<|qR ?_
  cases oI h
  exact qG
 refine sM Z<|sV (.ptr 32 6)<|sV (.d (aH.pd a0.bc))<|bE h fun x3 h3 h=>cD (dE h3)<|sV (rB (x3 != (0:Int)))<|sF h ?_ ?_<;>intro h
 ·refine sM Z<|k3<|sK<|sT<|sM Z<|k3<|sK<|sT<|sM Z<|sK<|sK ?_
  refine sK<|sK<|sT<|sM Z<|k3<|sK<|sT<|sM Z<|k3<|sK<|sT ?_
  refine sN<|cT<|gU Z<|sV (rI 27)<|sN<|qR ?_
  cases oI h
  exact qG
 refine sM Z<|sV (.ptr 32 9)<|sL Z<|bE h fun x5 h5 h=>cD (gm h5)<|sV (rB (!x5))<|sF h ?_ ?_<;>intro h
 ·refine sM Z<|k3<|sK<|sT<|sM Z<|k3<|sK<|sT<|sM Z<|sK<|sK ?_
  refine sK<|sK<|sT<|sM Z<|k3<|sK<|sT<|sN<|cT<|gU Z<|sV (rI 27)<|sN<|qR ?_
  cases oI h
  exact qG
 refine sM Z<|sV (.ptr 32 10)<|sL Z<|bE h fun x7 h7 h=>cD (gm h7)<|sV (rB (!x7))<|sF h ?_ ?_<;>intro h
 ·refine sM Z<|k3<|sK<|sT<|sM Z<|k3<|sK<|sT<|sM Z<|sK<|sK ?_
  refine sK<|sK<|sT<|sN<|cT<|gU Z<|sV (rI 27)<|sN<|qR ?_
  cases oI h
  exact qG
 refine sM Z<|sV (.ptr 32 12)<|sL Z<|bE h fun x9 h9 h=>cD (gm h9)<|sV (rB (!x9))<|sF h ?_ ?_<;>intro h
 ·refine sM Z<|k3<|sK<|sT<|sM Z<|k3<|sK<|sT<|sN<|cT<|gU Z ?_
  refine sV (rI 27)<|sN<|qR ?_
  cases oI h
  exact qG
 refine sM Z<|sV (.ptr 32 11)<|sL Z<|bE h fun x11 h11 h=>cD (gm h11)<|sV (rB (!x11))<|sF h ?_ ?_<;>intro h
 ·refine sM Z<|k3<|sK<|sT<|sN<|cT<|gU Z<|sV (rI 27)<|sN<|qR ?_
  cases oI h
  exact qG
 refine sM Z<|sV (.ptr 32 13)<|sL Z<|bE h fun x13 h13 h=>cD (gm h13)<|sV (rB (!x13))<|sF h ?_ ?_<;>intro h
 ·refine sN<|cT<|gU Z<|sV (rI 27)<|sN<|qR ?_
  cases oI h
  exact qG
 refine sN<|cF<|qK<|qS<|gU Z<|sM Z<|sE (rI (a1.length:Int)) (pf _ _)<|sF h ?_ ?_<;>intro h
 ·refine sN<|cT<|gU Z<|sV (rI 8)<|sN<|qR ?_
  cases oI h
  exact qG
 refine sN<|cF<|qK<|qS<|gU Z<|sM Z<|sE (rI (a1.length:Int)) (pf _ _)<|sV (r0)<|sN<|bE h fun o23 ho23 h=>WC.block (WC.loop (WL.pI ho23 (fun s=>gI 0 118 6 [(2,.ptr 32 0),(52,rM al.pd a1),(53,rI (a1.length:Int)),(54,rI s)] [(32,.var (aG.rc a0))]) (fun o=>match o with| .inl y=>gX 0 0 118 12 [] []| .inr r=>gF 118 Tryz.f118 0 (rI r,[])) Z ?_ ?_))
 ·rintro s16 R' B' q17 hI h
  refine gS Z hI<|sF h ?_ ?_<;>intro h
  ·refine sN<|qS<|cT<|qK<|qS<|qB<|gU Z<|bE h fun x19 h19 h=>eG h19 Z<|sV (.d (al.pd x19))<|sB (.ptr 96 0) 96 (.var zZ4)<|sH 96 (.var (al.rc x19))<|sN<|gU Z<|sV (.ptr 32 6) ?_
   refine sV (.d (aH.pd a0.bc))<|sV (.ptr 32 0)<|sV (.d (ah.pd a0.aK))<|sV (.d (al.pd x19))<|bE h fun x20 h20 h=>cR (.tup [.d (aF.pd x20.1),rI x20.2]) [] (ku h20)<|sM Z<|sV (.d (aF.pd x20.1))<|sV (rI x20.2)<|sB (.ptr 112 0) 112 (.var [r0,r0])<|sS 112 (.var [rI x20.1.bj,rI x20.1.fTo])<|sA Z<|sN<|gU Z<|sM Z ?_
   refine sF h ?_ ?_<;>intro h
   ·refine sN<|cT<|gU Z<|sM Z<|sA Z<|sN<|qR ?_
    cases oI h
    exact⟨nofun,rfl,rfl⟩
   refine sN<|cF<|qK<|WC.region Z Z<|sV (rI (rW (s16+(1:Int))))<|sM Z<|sN ?_
   cases oI h
   exact⟨rfl,rfl⟩
  refine sN<|qS<|cF<|qX ?_
  cases oI h
  exact⟨nofun,rfl,rfl⟩
 intro e R' B' he hq
 rcases o23 with y24|r25
 ·obtain⟨rfl,hI⟩:=hq
  refine qE<|gS Z hI<|sV (r0)<|sN<|qR ?_
  exact oI h▸qD
 obtain⟨rfl,hf⟩:=hq
 cases oI h
 exact hf
theorem jn{a0:bz}{r:Bool}(h:cB a0=some r):EvP prog aN ext 119 [.d (bz.pd a0)] [] (rB r,[]):=by
 refine Ev.body Z Tryz.func119 Z Zk<|gU Z<|sB (.ptr 16 0) 16 (.var (bz.rc a0))<|sU<|sN<|gU Z<|sV (.ptr 16 0)<|sV (.d (aH.pd a0.bX))<|bE h fun x1 h1 h=>cD (dE h1)<|sF h ?_ ?_<;>intro h
 ·refine sM Z<|sV (.ptr 16 3)<|sL Z<|sV (rB (decide (a0.bK>=(0:Int))))<|sF h ?_ ?_<;>intro h
  ·refine sM Z<|sV (.ptr 16 3)<|sL Z<|sV (rB (decide (a0.bK<=(65536:Int))))<|sF h ?_ ?_<;>intro h
   ·refine sM Z<|sV (.ptr 16 4)<|sL Z<|sV (rB (decide (a0.bC>=(1:Int))))<|sF h ?_ ?_<;>intro h
    ·refine sM Z<|sV (.ptr 16 4)<|sL Z<|sV (rB (decide (a0.bC<=(65536:Int))))<|sV (rB (decide (a0.bC<=(65536:Int))))<|sA Z<|sN<|qR ?_
     exact oI h▸qD
    refine sM Z<|k3<|sU<|sA Z<|sN<|qR ?_
    exact oI h▸qD
   refine sM Z<|k3<|sU<|sM Z<|k3<|sU<|sA Z<|sN<|qR ?_
   exact oI h▸qD
  refine sM Z<|k3<|sU<|sM Z<|k3<|sU<|sM Z<|k3<|sU ?_
  refine sA Z<|sN<|qR ?_
  exact oI h▸qD
 refine sM Z<|k3<|sU<|sM Z<|k3<|sU<|sM Z<|k3<|sU ?_
 refine sM Z<|k3<|sU<|sA Z<|sN<|qR ?_
 exact oI h▸qD
theorem ib{a0:aq}{r:Int}(h:dX a0=some r):EvP prog aN ext 60 [.d (aq.pd a0)] [] (rI r,[]):=by
 refine Ev.body Z Tryz.func60 Z Zk<|gU Z<|sB (.ptr 16 0) 16 (.var (aq.rc a0))<|sV (r0)<|sN<|qS<|gU Z<|sV (.ptr 16 0)<|sV (.d (aG.pd a0.ai))<|bE h fun x1 h1 h=>cD (jT h1)<|sF h ?_ ?_<;>intro h
 ·refine sM Z<|k3<|sK<|sT<|sM Z<|k3<|sT<|sM Z<|sK<|sK<|sK ?_
  refine sT<|sN<|cT<|gU Z<|sV (rI 27)<|sN<|qR ?_
  cases oI h
  exact qG
 refine sM Z<|sV (.ptr 16 14)<|sV (.d (bz.pd a0.eB))<|bE h fun x3 h3 h=>cD (jn h3)<|sV (rB (!x3))<|sF h ?_ ?_<;>intro h
 ·refine sM Z<|k3<|sT<|sM Z<|k3<|sT<|sN<|cT<|gU Z<|sV (rI 27)<|sN ?_
  refine qR ?_
  cases oI h
  exact qG
 refine sM Z<|sV (.ptr 16 19)<|sL Z<|sV (rB (decide (a0.bP<(0:Int))))<|sF h ?_ ?_<;>intro h
 ·refine sM Z<|k3<|sT<|sN<|cT<|gU Z<|sV (rI 27)<|sN<|qR ?_
  cases oI h
  exact qG
 refine sM Z<|sV (.ptr 16 19)<|sL Z<|sV (rB (decide (a0.bP>(1099511627776:Int))))<|sF h ?_ ?_<;>intro h
 ·refine sN<|cT<|gU Z<|sV (rI 27)<|sN<|qR ?_
  cases oI h
  exact qG
 refine sN<|cF<|qK<|gU Z<|sV (r0)<|sN<|qR ?_
 cases oI h
 exact qG
theorem mP{a0:aq}{a1:ap}{a2:ae}{r:al×ar×Bool}(h:dI a0 a1 a2=some r):EvP prog aN ext 84 [.d (aq.pd a0),.d (ap.pd a1),.d (ae.pd a2)] [] (.tup [.d (al.pd r.1),.d (ar.pd r.2.1),rB r.2.2],[]):=by
 refine Ev.body Z Tryz.func84 Z Zk<|gU Z<|sB (.ptr 48 0) 48 (.var (aq.rc a0))<|sB (.ptr 64 0) 64 (.var [rM au.pd a1.aO])<|sB (.ptr 80 0) 80 (.var (ae.rc a2))<|sB (.ptr 96 0) 96 (.var zZ4)<|sB (.ptr 112 0) 112 (.var zZ3)<|sU<|sN<|qS<|gU Z<|sV (.d (ae.pd a2))<|bE h fun x1 h1 h=>cD (la h1)<|sF h ?_ ?_<;>intro h
 ·refine sN<|cT<|gU Z<|sG (.d (al.pd (al.mk (aa.mk 0 0 0) 0 0 0)))<|sG (.agg zZ3)<|sH 96 (.var zZ4)<|sH 112 (.var zZ3)<|sU<|sN<|qR ?_
  cases oI h
  exact qG
 refine sN<|cF<|qK<|gU Z<|sV (.d (ap.pd a1))<|sV (.ptr 80 0)<|sV (.d (aw.pd a2.aA))<|sV (.ptr 80 4)<|sL Z<|bE h fun x3 h3 h=>cR (.tup [.d (ar.pd x3.1),rI x3.2]) [] (kN h3)<|sM Z<|sV (.d (ar.pd x3.1))<|sV (rI x3.2)<|sB (.ptr 144 0) 144 (.var zZ3) ?_
 refine sH 144 (.var (ar.rc x3.1))<|sA Z<|sN<|qS<|gU Z<|sM Z<|sF h ?_ ?_<;>intro h
 ·refine sN<|cT<|gU Z<|sG (.d (al.pd (al.mk (aa.mk 0 0 0) 0 0 0)))<|sG (.agg zZ3)<|sH 96 (.var zZ4)<|sH 112 (.var zZ3)<|sU<|sN<|qR ?_
  cases oI h
  exact qG
 refine sN<|cF<|qK<|gU Z<|sV (.ptr 144 4)<|sV (.d (aa.pd x3.1.aW))<|sV (.ptr 80 5)<|sL Z<|sV (.ptr 80 6)<|sL Z<|sG (.d (al.pd (al.mk x3.1.aW a2.aM a2.bv 1)))<|sB (.ptr 176 0) 176 (.var zZ4)<|sH 176 (.var (aa.rc x3.1.aW++[rI a2.aM,rI a2.bv,rI 1]))<|sN<|qS ?_
 refine gU Z<|sV (.ptr 48 0)<|sV (.ptr 48 6)<|sV (.d (aH.pd a0.ai.bc))<|sV (.ptr 48 0)<|sV (.ptr 48 0)<|sV (.d (ah.pd a0.ai.aK))<|sV (.d (al.pd (al.mk x3.1.aW a2.aM a2.bv 1)))<|bE h fun x5 h5 h=>cR (.tup [.d (aF.pd x5.1),rI x5.2]) [] (ku h5)<|sM Z<|sV (.d (aF.pd x5.1))<|sV (rI x5.2)<|sB (.ptr 192 0) 192 (.var [r0,r0])<|sS 192 (.var [rI x5.1.bj,rI x5.1.fTo]) ?_
 refine sA Z<|sN<|gU Z<|sM Z<|sF h ?_ ?_<;>intro h
 ·refine sN<|cT<|gU Z<|sG (.d (al.pd (al.mk (aa.mk 0 0 0) 0 0 0)))<|sG (.agg zZ3)<|sH 96 (.var zZ4)<|sH 112 (.var zZ3)<|sU<|sN<|qR ?_
  cases oI h
  exact qG
 refine sN<|cF<|qK<|WC.cI Z Z<|sV (.d (al.pd (al.mk x3.1.aW a2.aM a2.bv 1)))<|sV (.d (ar.pd x3.1))<|sH 96 (.var (aa.rc x3.1.aW++[rI a2.aM,rI a2.bv,rI 1]))<|sH 112 (.var (ar.rc x3.1))<|sT ?_
 refine sN<|sO<|qR ?_
 cases oI h
 exact qG
theorem oW{a0:aq}{a1:ap}{a2:ae}{r:al×Bool}(h:iY a0 a1 a2=some r):EvP prog aN ext 35 [.d (aq.pd a0),.d (ap.pd a1),.d (ae.pd a2)] [] (.tup [.d (al.pd r.1),rB r.2],[]):=by
 refine Ev.body Z Tryz.func35 Z Zk<|gU Z<|sB (.ptr 48 0) 48 (.var (aq.rc a0))<|sB (.ptr 64 0) 64 (.var [rM au.pd a1.aO])<|sB (.ptr 80 0) 80 (.var (ae.rc a2))<|sB (.ptr 96 0) 96 (.var zZ4)<|sU<|sN<|qS<|gU Z<|sV (.d (aq.pd a0))<|bE h fun x1 h1 h=>cD (ib h1)<|sF h ?_ ?_<;>intro h
 ·refine sM Z<|k3<|sT<|sN<|cT<|gU Z<|sG (.d (al.pd (al.mk (aa.mk 0 0 0) 0 0 0)))<|sH 96 (.var zZ4)<|sU<|sN<|qR ?_
  cases oI h
  exact qG
 refine sM Z<|sV (.d (ap.pd a1))<|bE h fun x3 h3 h=>cD (gd h3)<|sV (rB (!x3))<|sF h ?_ ?_<;>intro h
 ·refine sN<|cT<|gU Z<|sG (.d (al.pd (al.mk (aa.mk 0 0 0) 0 0 0)))<|sH 96 (.var zZ4)<|sU<|sN<|qR ?_
  cases oI h
  exact qG
 refine sN<|cF<|qK<|gU Z<|sV (.d (aq.pd a0))<|sV (.d (ap.pd a1))<|sV (.d (ae.pd a2))<|bE h fun x5 h5 h=>cR (.tup [.d (al.pd x5.1),.d (ar.pd x5.2.1),rB x5.2.2]) [] (mP h5)<|sM Z<|sV (.d (al.pd x5.1))<|sV (.d (ar.pd x5.2.1))<|sV (rB x5.2.2)<|sB (.ptr 128 0) 128 (.var zZ4)<|sB (.ptr 144 0) 144 (.var zZ3) ?_
 refine sH 128 (.var (al.rc x5.1))<|sH 144 (.var (ar.rc x5.2.1))<|sA Z<|sN<|gU Z<|sV (.d (al.pd x5.1))<|sM Z<|sH 96 (.var (al.rc x5.1))<|sA Z<|sN<|qR ?_
 cases oI h
 exact qG
theorem event_usable_ev{a0:aq}{a1:ap}{a2:(List ae)}{r:(List ae)×(List al)×Int}(h:lk a0 a1 a2=some r):EvP prog aN ext 65 [.d (aq.pd a0),.d (ap.pd a1),rM ae.pd a2] [] (.tup [rM ae.pd r.1,rM al.pd r.2.1,rI r.2.2],[]):=by
 refine Ev.body Z Tryz.func65 Z Zk<|gU Z<|sB (.ptr 48 0) 48 (.var (aq.rc a0))<|sB (.ptr 64 0) 64 (.var [rM au.pd a1.aO])<|sV .mA<|sV .mA<|sV (r0)<|sN<|qS<|qB<|gU Z<|sV (.d (aq.pd a0))<|bE h fun x1 h1 h=>cD (ib h1)<|sF h ?_ ?_<;>intro h
 ·refine sA Z<|sN<|cT<|gU Z<|sV .mA<|sV .mA<|sV (rI 27)<|sN<|qR ?_
  cases oI h
  exact qG
 refine sA Z<|sN<|cF<|gU Z<|sV (.d (ap.pd a1))<|bE h fun x3 h3 h=>cD (gd h3)<|sF h ?_ ?_<;>intro h
 ·refine sA Z<|sN<|cT<|gU Z<|sV .mA<|sV .mA<|sV (rI 1)<|sN<|qR ?_
  cases oI h
  exact qG
 refine sA Z<|sN<|cF<|qK<|gU Z<|sV .mA<|sN<|gU Z<|sV .mA<|sN<|qS<|gU Z<|sM Z<|bE h fun x5 h5 h=>cR (.ref 384 0) [(384,.arr 0 66 (x5.map ae.pd))] (lO h5) ?_
 refine WO.tn Z Z Z Z Z Z Z Z Z<|sV (r0)<|sN<|bE h fun o21 ho21 h=>WC.block (WC.loop (WL.pI ho21 (fun s=>gI 0 65 8 [(3,.ptr 48 0),(4,.ptr 64 0),(9,.ref 656 0),(10,.ref 720 0),(24,.ref 384 0),(25,rI (x5.length:Int)),(26,rI s.1)] [(48,.var (aq.rc a0)),(64,.var [rM au.pd a1.aO]),(384,.arr 0 66 (x5.map ae.pd)),(656,.arr 0 66 (s.2.1.map ae.pd)),(720,.arr 0 81 (s.2.2.map al.pd))]) (fun o=>gX 1 0 65 14 [(9,.ref 656 0),(10,.ref 720 0)] [(656,.arr 0 66 (o.1.map ae.pd)),(720,.arr 0 81 (o.2.map al.pd))]) Z ?_ ?_))
 ·rintro⟨s6,s7,s8⟩ R' B' q11 hI h
  refine gS Z hI<|sF h ?_ ?_<;>intro h
  ·refine sN<|qS<|cT<|qK<|qS<|qB<|gU Z<|bE h fun x14 h14 h=>WO.qk h14 Z Z Z Z Z Z Z Z<|bE h fun x15 h15 h=>WO.qj h15 Z Z Z Z Z Z<|sB (.ptr 192 0) 192 (.var zZ2)<|sH 192 (.var (ae.rc x15))<|sN<|gU Z ?_
   refine sV (.d (aq.pd a0))<|sV (.d (ap.pd a1))<|sV (.d (ae.pd x15))<|bE h fun x16 h16 h=>cR (.tup [.d (al.pd x16.1),rB x16.2]) [] (oW h16)<|sM Z<|sV (.d (al.pd x16.1))<|sV (rB x16.2)<|sB (.ptr 208 0) 208 (.var zZ4)<|sH 208 (.var (al.rc x16.1))<|sA Z<|sN<|gU Z<|sF h ?_ ?_<;>intro h
   ·refine sN<|cT<|WC.pX Z Z<|sM Z<|sV (.d (ae.pd x15))<|sG (.d (.lst ([x15].map ae.pd)))<|bE h fun x18 h18 h=>aR h18 (fun _=>Z) Z<|sM Z<|sV (.d (al.pd x16.1))<|sV (.d (.lst ([x16.1].map al.pd)))<|bE h fun x19 h19 h=>aR h19 (fun _=>Z) Z<|sA Z<|sA Z ?_
    refine sN<|sO<|WC.region Z Z<|sV (rI (rW (s6+(1:Int))))<|sM Z<|sN ?_
    cases oI h
    exact⟨rfl,rfl⟩
   refine sN<|cF<|qK<|WC.region Z Z<|sV (rI (rW (s6+(1:Int))))<|sM Z<|sN ?_
   cases oI h
   exact⟨rfl,rfl⟩
  refine sN<|qS<|cF<|qX ?_
  cases oI h
  exact⟨nofun,rfl,rfl⟩
 intro e R' B' he hq
 obtain⟨rfl,hI⟩:=hq
 refine qE<|qS<|gS Z hI<|sM Z<|WO.tn Z Z Z Z Z Z Z Z Z<|sF h ?_ ?_<;>intro h
 ·refine sN<|cT<|gU Z<|sV .mA<|sV .mA<|sV (rI 8)<|sN<|qR ?_
  exact oI h▸qD
 refine sN<|cF<|qK<|gU Z<|mM Z<|sA Z<|sA Z<|sV (r0)<|sN<|qR ?_
 exact oI h▸qD
theorem kZ{a0:aa}{a1:aa}{r:Int}(h:dx a0 a1=some r):EvP prog aN ext 230 [.d (aa.pd a0),.d (aa.pd a1)] [] (rI r,[]):=by
 refine Ev.body Z Tryz.func230 Z Zk<|gU Z<|sB (.ptr 32 0) 32 (.var (aa.rc a0))<|sB (.ptr 48 0) 48 (.var (aa.rc a1))<|sV (r0)<|sN<|WC.cI Z Z<|sV (.ptr 32 0)<|sL Z<|sV (.ptr 48 0)<|sL Z<|bE h fun x1 h1 h=>cD (bB h1)<|sV (.ptr 32 1)<|sL Z ?_
 refine sV (.ptr 48 1)<|sL Z<|bE h fun x2 h2 h=>cD (bB h2)<|sV (.ptr 32 2)<|sL Z<|sV (.ptr 48 2)<|sL Z<|bE h fun x3 h3 h=>cD (bB h3)<|sV (.d (.lst ([x1,x2,x3].map (PD.int .i64))))<|bE h fun x4 h4 h=>cD (gx h4)<|sA Z ?_
 refine sN<|sO<|qR ?_
 exact oI h▸qD
theorem nD{a0:al}{a1:al}{r:Int}(h:gE a0 a1=some r):EvP prog aN ext 151 [.d (al.pd a0),.d (al.pd a1)] [] (rI r,[]):=by
 refine Ev.body Z Tryz.func151 Z Zk<|gU Z<|sB (.ptr 32 0) 32 (.var (al.rc a0))<|sB (.ptr 48 0) 48 (.var (al.rc a1))<|sV (r0)<|sN<|WC.cI Z Z<|sV (.ptr 32 3)<|sL Z<|sV (.ptr 48 3)<|sL Z<|bE h fun x1 h1 h=>cD (bB h1)<|sV (.ptr 32 4)<|sL Z ?_
 refine sV (.ptr 48 4)<|sL Z<|bE h fun x2 h2 h=>cD (bB h2)<|sV (.ptr 32 0)<|sV (.d (aa.pd a0.aQ))<|sV (.ptr 48 0)<|sV (.d (aa.pd a1.aQ))<|bE h fun x3 h3 h=>cD (kZ h3)<|sV (.ptr 32 5)<|sL Z<|sV (.ptr 48 5)<|sL Z<|bE h fun x4 h4 h=>?_
 refine cD (bB h4)<|sV (.d (.lst ([x1,x2,x3,x4].map (PD.int .i64))))<|bE h fun x5 h5 h=>cD (gx h5)<|sA Z ?_
 refine sN<|sO<|qR ?_
 exact oI h▸qD
theorem mz{a0:Int}{a1:Int}{d0:(List al)}{r:Int}(h:eU a0 a1 d0=some r):EvP prog aN ext 150 [rI a0,rI a1,.ptr 0 0] [.var [rM al.pd d0]] (rI r,[.var [rM al.pd d0]]):=by
 refine Ev.body Z Tryz.func150 Z Zk<|gU Z<|sV (r0)<|sN<|WC.cI Z Z<|sL Z<|sM Z<|bE h fun x1 h1 h=>eG h1 Z<|sV (.d (al.pd x1))<|sL Z<|sM Z<|bE h fun x2 h2 h=>eG h2 Z<|sV (.d (al.pd x2)) ?_
 refine bE h fun x3 h3 h=>cD (nD h3)<|sA Z ?_
 refine sN<|sO<|qR ?_
 exact oI h▸qD
theorem dF{a0:Int}{a1:Int}{d0:(List Int)}{d1:(List al)}{r:(List Int)}(h:cf a0 a1 d0 d1=some r):EvP prog aN ext 301 [.ref 0 0,rI a0,rI a1,.clo 150 [.ptr 1 0]] [.arr 0 3 (d0.map (PD.int .i64)),.var [rM al.pd d1]] (.tup [],[.arr 0 3 (r.map (PD.int .i64)),.var [rM al.pd d1]]):=by
 refine Ev.body Z Tryz.func301 Z Zk<|gU Z<|sM Z<|sV (rI (rW (a0+(1:Int))))<|sA Z<|sN<|bE h fun o35 ho35 h=>?_
 cases oI h
 refine WC.block (WC.loop (WL.tI ho35 (fun s=>gI 2 301 1 [(0,.ref 0 0),(1,rI a0),(2,rI a1),(3,.clo 150 [.ptr 1 0]),(8,rI s.1)] [(0,.arr 0 3 (s.2.map (PD.int .i64))),(1,.var [rM al.pd d1])]) Z ?_))
 rintro⟨s1,s2⟩ R' B' q3 hI h
 refine qS<|gS Z hI<|mM Z<|sF h ?_ ?_<;>intro h
 ·refine sN<|cT<|qK<|qS<|qB<|gU Z<|sM Z<|sA Z<|sN<|bE h fun o32 ho32 h=>WC.block (WC.loop (WL.pI ho32 (fun s=>gI 2 301 4 [(0,.ref 0 0),(1,rI a0),(2,rI a1),(3,.clo 150 [.ptr 1 0]),(8,rI s1),(9,rI s.1)] [(0,.arr 0 3 (s.2.map (PD.int .i64))),(1,.var [rM al.pd d1])]) (fun o=>gX 2 2 301 2 [(0,.ref 0 0),(1,rI a0),(2,rI a1),(3,.clo 150 [.ptr 1 0]),(8,rI o.1)] [(0,.arr 0 3 (o.2.map (PD.int .i64))),(1,.var [rM al.pd d1])]) Z ?_ ?_))
  ·rintro⟨s5,s6⟩ R' B' q9 hI h
   refine qS<|WC.cI hI Z<|mM Z<|sF h ?_ ?_<;>intro h
   ·refine mM Z<|mM Z<|bE h fun x12 h12 h=>WO.qk h12 Z Z Z Z Z Z Z Z<|bE h fun x13 h13 h=>WO.qj h13 Z Z Z Z Z Z<|mM Z<|sV (rI (rW (s5-(1:Int))))<|bE h fun x15 h15 h=>WO.qk h15 Z Z Z Z Z Z Z Z<|bE h fun x16 h16 h=>WO.qj h16 Z Z Z Z Z Z ?_
    refine bE h fun x17 h17 h=>cR (rI x17) [(1,.var [rM al.pd d1])] (mz h17)<|sV (rB (decide (x17<(0:Int))))<|sF h ?_ ?_<;>intro h
    ·refine sN<|sO<|cT<|qK<|qS<|qB<|WC.pX Z Z<|mM Z<|mM Z<|sV (rI (rW (s5-(1:Int))))<|mM Z<|sV (rI (rW (s5-(1:Int))))<|bE h fun x20 h20 h=>?_
     refine WO.qk h20 Z Z Z Z Z Z Z Z<|bE h fun x21 h21 h=>WO.qj h21 Z Z Z Z Z Z<|mM Z<|bE h fun x23 h23 h=>WO.qk h23 Z Z Z Z Z Z Z Z<|bE h fun x24 h24 h=>WO.qj h24 Z Z Z Z Z Z<|bE h fun x26 h26 h=>WO.qk h26 Z Z Z Z Z Z Z Z<|bE h fun x27 h27 h=>WO.rA (g:=(PD.int .i64)) (sz:=1) (p:= .int .i64 x21) h27 (fun _=>Z) (fun _=>Z) Z Z Z Z Z Z Z Z Z<|bE h fun x29 h29 h=>WO.qk h29 Z Z Z Z Z Z Z Z ?_
     refine bE h fun x30 h30 h=>WO.rA (g:=(PD.int .i64)) (sz:=1) (p:= .int .i64 x24) h30 (fun _=>Z) (fun _=>Z) Z Z Z Z Z Z Z Z Z ?_
     refine sN<|sO<|WC.region Z Z<|sM Z<|sV (rI (rW (s5-(1:Int))))<|sA Z<|sN ?_
     cases oI h
     exact⟨rfl,rfl⟩
    refine sN<|sO<|cF<|qX ?_
    cases oI h
    exact⟨nofun,rfl,rfl⟩
   refine sM Z<|k3<|k3<|k3<|k3<|sU ?_
   refine sN<|sO<|cF<|qX ?_
   cases oI h
   exact⟨nofun,rfl,rfl⟩
  intro e R' B' he hq
  obtain⟨rfl,hI⟩:=hq
  refine qE<|WC.region hI Z<|sM Z<|sV (rI (rW (o32.1+(1:Int))))<|sA Z<|sN ?_
  cases oI h
  exact⟨rfl,rfl⟩
 refine sN<|cF<|qX<|sk h (fun z33 hkz33 hz=>?_)
 obtain rfl:=Option.some.inj hz
 refine⟨(fun he=>by cases he),fun hz2=>?_⟩
 subst hz2
 have h:=hkz33
 refine qE ?_
 exact oI h▸qD
theorem jO{a0:Int}{d0:(List Int)}{d1:(List al)}{r:(List Int)}(h:dT a0 d0 d1=some r):EvP prog aN ext 229 [.ref 0 0,rI a0,.clo 150 [.ptr 1 0]] [.arr 0 3 (d0.map (PD.int .i64)),.var [rM al.pd d1]] (.tup [],[.arr 0 3 (r.map (PD.int .i64)),.var [rM al.pd d1]]):=by
 refine Ev.body Z Tryz.func229 Z Zk<|gU Z<|sV (rI 20)<|sN<|gU Z<|sM Z<|sV (r0)<|sA Z<|sN<|qS<|bE h fun o10 ho10 h=>WC.block (WC.loop (WL.pI ho10 (fun s=>gI 2 229 2 [(0,.ref 0 0),(1,rI a0),(2,.clo 150 [.ptr 1 0]),(6,rI 20),(7,rI s.1),(8,rI s.2.1)] [(0,.arr 0 3 (s.2.2.map (PD.int .i64))),(1,.var [rM al.pd d1])]) (fun o=>gX 0 2 229 6 [(0,.ref 0 0),(1,rI a0),(2,.clo 150 [.ptr 1 0]),(6,rI 20),(7,rI o.1)] [(0,.arr 0 3 (o.2.map (PD.int .i64))),(1,.var [rM al.pd d1])]) Z ?_ ?_))
 ·rintro⟨s1,s2,s3⟩ R' B' q6 hI h
  refine qS<|gS Z hI<|mM Z<|sF h ?_ ?_<;>intro h
  ·refine sN<|cT<|qK<|qB<|gU Z<|mM Z<|mM Z<|bE h fun x8 h8 h=>cR (.tup []) [(0,.arr 0 3 (x8.map (PD.int .i64))),(1,.var [rM al.pd d1])] (dF h8)<|sN<|gU Z<|sM Z<|sA Z ?_
   refine sN<|WC.region Z Z<|mM Z<|sV (rI (rW (s2+(20:Int))))<|sA Z<|sN ?_
   cases oI h
   exact⟨rfl,rfl⟩
  refine sN<|cF<|qX ?_
  cases oI h
  exact⟨nofun,rfl,rfl⟩
 intro e R' B' he hq
 obtain⟨rfl,hI⟩:=hq
 refine qE<|gS Z hI<|mM Z<|mM Z<|bE h fun x11 h11 h=>cR (.tup []) [(0,.arr 0 3 (x11.map (PD.int .i64))),(1,.var [rM al.pd d1])] (dF h11)<|sN<|bE h fun o23 ho23 h=>?_
 cases oI h
 refine WC.block (WC.loop (WL.tI ho23 (fun s=>gI 2 229 7 [(0,.ref 0 0),(1,rI a0),(2,.clo 150 [.ptr 1 0]),(6,rI s)] [(0,.arr 0 3 (x11.map (PD.int .i64))),(1,.var [rM al.pd d1])]) Z ?_))
 rintro s12 R' B' q13 hI h
 refine qS<|gS Z hI<|mM Z<|sF h ?_ ?_<;>intro h
 ·refine sN<|cT<|qK<|qB<|gU Z<|sM Z<|sV (rI (rW ((2:Int)*s12)))<|sV (r0)<|sA Z<|sN<|qS<|bE h fun o19 ho19 h=>WC.block (WC.loop (WL.pI ho19 (fun s=>gI 2 229 9 [(0,.ref 0 0),(1,rI a0),(2,.clo 150 [.ptr 1 0]),(6,rI s12),(7,r0),(8,rI (rW ((2:Int)*s12)))] [(0,.arr 0 3 (x11.map (PD.int .i64))),(1,.var [rM al.pd d1])]) (fun o=>gX 4 2 229 13 [(0,.ref 0 0),(1,rI a0),(2,.clo 150 [.ptr 1 0]),(6,rI o),(7,r0)] [(0,.arr 0 3 (x11.map (PD.int .i64))),(1,.var [rM al.pd d1])]) Z ?_ ?_))
  ·rintro⟨⟩ R' B' q16 hI h
   refine qS<|gS Z hI<|mM Z<|sF h ?_ ?_<;>intro h
   ·refine sN<|cT<|qK<|qB<|gU Z<|mM Z<|mM Z<|sV (rI (rW ((0:Int)+s12)))<|sM Z<|sM Z ?_
    cases h
   refine sN<|cF<|qX ?_
   cases oI h
   exact⟨nofun,rfl,rfl⟩
  intro e R' B' he hq
  obtain⟨rfl,hI⟩:=hq
  refine qE<|qS<|gS Z hI<|mM Z<|sV (rI (rW ((0:Int)+o19)))<|sA Z<|sN<|gU Z<|mM Z<|sF h ?_ ?_<;>intro h
  ·refine sN<|cT<|WC.region Z Z<|mM Z<|mM Z<|sM Z ?_
   cases h
  refine sN<|cF<|qK<|WC.region Z Z<|sM Z<|sV (rI (rW (o19*(2:Int))))<|sA Z<|sN ?_
  cases oI h
  exact⟨rfl,rfl⟩
 refine sN<|cF<|qX<|sk h (fun z21 hkz21 hz=>?_)
 obtain rfl:=Option.some.inj hz
 refine⟨(fun he=>by cases he),fun hz2=>?_⟩
 subst hz2
 have h:=hkz21
 refine qE ?_
 exact oI h▸qD
theorem jt{d0:(List Int)}{d1:(List al)}{r:(List Int)}(h:cM d0 d1=some r):EvP prog aN ext 149 [.ref 0 0,.clo 150 [.ptr 1 0]] [.arr 0 3 (d0.map (PD.int .i64)),.var [rM al.pd d1]] (.tup [],[.arr 0 3 (r.map (PD.int .i64)),.var [rM al.pd d1]]):=by
 refine Ev.body Z Tryz.func149 Z Zk<|WC.region Z Z<|mM Z<|WO.tn Z Z Z Z Z Z Z Z Z<|sM Z<|bE h fun x1 h1 h=>cR (.tup []) [(0,.arr 0 3 (x1.map (PD.int .i64))),(1,.var [rM al.pd d1])] (jO h1)<|sN ?_
 exact oI h▸qD
theorem oJ{a0:(List al)}{r:(List Int)}(h:iR a0=some r):EvP prog aN ext 78 [rM al.pd a0] [] (rL r,[]):=by
 refine Ev.body Z Tryz.func78 Z Zk<|gU Z<|sB (.ptr 16 0) 16 (.var [rM al.pd a0])<|sV .mA<|sN<|gU Z<|sL Z<|sE (rI (a0.length:Int)) (pf _ _)<|bE h fun x1 h1 h=>WO.mkS (g:=(PD.int .i64)) h1 Z Z Z Z Z Z Z Z Z Z Z<|sA Z<|sN<|qS<|gU Z<|sM Z ?_
 refine WO.tn Z Z Z Z Z Z Z Z Z<|sV (r0)<|sN<|bE h fun o11 ho11 h=>WC.block (WC.loop (WL.pI ho11 (fun s=>gI 0 78 3 [(1,.ptr 16 0),(3,.ref 112 0),(9,rI (x1.length:Int)),(10,rI s.1)] [(16,.var [rM al.pd a0]),(112,.arr 0 3 (s.2.map (PD.int .i64)))]) (fun o=>gX 0 0 78 7 [(1,.ptr 16 0),(3,.ref 112 0)] [(16,.var [rM al.pd a0]),(112,.arr 0 3 (o.map (PD.int .i64)))]) Z ?_ ?_))
 ·rintro⟨s2,s3⟩ R' B' q5 hI h
  refine gS Z hI<|sF h ?_ ?_<;>intro h
  ·refine sN<|qS<|cT<|qK<|qS<|qB<|gU Z<|sM Z<|sA Z<|sN<|WC.region Z Z<|mM Z<|sM Z<|bE h fun x8 h8 h=>?_
   refine WO.qk h8 Z Z Z Z Z Z Z Z<|bE h fun x9 h9 h=>WO.rA (g:=(PD.int .i64)) (sz:=1) (p:= .int .i64 s2) h9 (fun _=>Z) (fun _=>Z) Z Z Z Z Z Z Z Z Z<|sN<|WC.region Z Z<|sV (rI (rW (s2+(1:Int))))<|sM Z<|sN ?_
   cases oI h
   exact⟨rfl,rfl⟩
  refine sN<|qS<|cF<|qX ?_
  cases oI h
  exact⟨nofun,rfl,rfl⟩
 intro e R' B' he hq
 obtain⟨rfl,hI⟩:=hq
 refine qE<|gS Z hI<|sM Z<|sV (.clo 150 [.ptr 16 0])<|bE h fun x12 h12 h=>cR (.tup []) [(112,.arr 0 3 (x12.map (PD.int .i64))),(16,.var [rM al.pd a0])] (jt h12)<|sN<|gU Z<|sM Z<|sA Z<|sN<|qR ?_
 exact oI h▸qD
theorem nu{a0:Int}{r:ba}(h:fS a0=some r):EvP prog aN ext 127 [rI a0] [] (.agg [.ref 0 0,.ref 1 0],[.arr 0 3 (r.mE.map (PD.int .i64)),.arr 0 3 (r.fback.map (PD.int .i64))]):=by
 refine Ev.body Z Tryz.func127 Z Zk<|gU Z<|sB (.ptr 32 0) 32 (.var [.mA,.mA])<|sN<|WC.cI Z Z<|sM Z<|sV (rI (rW (a0+(1:Int))))<|bE h fun x1 h1 h=>WO.mkS (g:=(PD.int .i64)) h1 Z Z Z Z Z Z Z Z Z Z Z<|sM Z<|sV (rI (rW (a0+(1:Int))))<|bE h fun x2 h2 h=>WO.mkS (g:=(PD.int .i64)) h2 Z Z Z Z Z Z Z Z Z Z Z<|sV (.agg [.ref 112 0,.ref 160 0])<|sB (.ptr 48 0) 48 (.var [.mA,.mA]) ?_
 refine sS 48 (.var [.ref 112 0,.ref 160 0]) ?_
 refine sN<|sO<|qS<|gU Z<|sM Z<|sV (rI (rW (a0+(1:Int))))<|sV (r0)<|sN<|bE h fun o19 ho19 h=>WC.block (WC.loop (WL.pI ho19 (fun s=>gI 0 127 3 [(0,rI a0),(2,.ptr 32 0),(3,.ptr 48 0),(13,rI (rW (a0+(1:Int)))),(14,rI s.1)] [(32,.var [.mA,.mA]),(48,.var [.ref 112 0,.ref 160 0]),(112,.arr 0 3 (s.2.1.map (PD.int .i64))),(160,.arr 0 3 (s.2.2.map (PD.int .i64)))]) (fun o=>gX 0 0 127 7 [(2,.ptr 32 0),(3,.ptr 48 0)] [(32,.var [.mA,.mA]),(48,.var [.ref 112 0,.ref 160 0]),(112,.arr 0 3 (o.1.map (PD.int .i64))),(160,.arr 0 3 (o.2.map (PD.int .i64)))]) Z ?_ ?_))
 ·rintro⟨s3,s4,s5⟩ R' B' q8 hI h
  refine gS Z hI<|sF h ?_ ?_<;>intro h
  ·refine sN<|qS<|cT<|qK<|qS<|qB<|gU Z<|sM Z<|sA Z<|sN<|WC.pX Z Z<|sV (.ptr 48 0)<|sL Z<|sM Z<|sV (.ptr 48 1) ?_
   refine sL Z<|sM Z<|sV (rI (rW (s3+(1:Int))))<|sM Z<|sV (rI (rW (a0+(1:Int))))<|bE h fun x10 h10 h=>WO.remG h10 Z Z Z Z Z Z<|sM Z<|sV (rI (rW (s3+(1:Int))))<|sM Z<|sV (rI (rW (a0+(1:Int))))<|bE h fun x11 h11 h=>WO.remG h11 Z Z Z Z Z Z<|sM Z<|bE h fun x13 h13 h=>?_
   refine WO.qk h13 Z Z Z Z Z Z Z Z<|bE h fun x14 h14 h=>WO.rA (g:=(PD.int .i64)) (sz:=1) (p:= .int .i64 x11) h14 (fun _=>Z) (fun _=>Z) Z Z Z Z Z Z Z Z Z<|bE h fun x16 h16 h=>WO.qk h16 Z Z Z Z Z Z Z Z<|bE h fun x17 h17 h=>WO.rA (g:=(PD.int .i64)) (sz:=1) (p:= .int .i64 s3) h17 (fun _=>Z) (fun _=>Z) Z Z Z Z Z Z Z Z Z ?_
   refine sN<|sO<|WC.region Z Z<|sV (rI (rW (s3+(1:Int))))<|sM Z<|sN ?_
   cases oI h
   exact⟨rfl,rfl⟩
  refine sN<|qS<|cF<|qX ?_
  cases oI h
  exact⟨nofun,rfl,rfl⟩
 intro e R' B' he hq
 obtain⟨rfl,hI⟩:=hq
 refine qE<|gS Z hI<|sV (.agg [.ref 112 0,.ref 160 0])<|sS 32 (.var [.ref 112 0,.ref 160 0])<|sN<|qR ?_
 exact oI h▸qD
theorem ik{a0:ba}{r:Int}(h:ij a0=some r):EvP prog aN ext 128 [.d (ba.pd a0)] [] (rI r,[]):=by
 refine Ev.body Z Tryz.func128 Z Zk<|gU Z<|sB (.ptr 16 0) 16 (.var (ba.rc a0))<|sV (r0)<|sN<|gU Z<|sV (.ptr 16 0)<|sL Z<|sE (rI (a0.mE.length:Int)) (pf _ _)<|sV (rI (rW ((a0.mE.length:Int)-(1:Int))))<|sA Z<|sN<|qR ?_
 exact oI h▸qD
theorem chain_windowq_ev{a1:aG}{a2:(List al)}{a3:(List Int)}{d0:(List Int)}{d1:(List Int)}{r:(List Int)×(List Int)×(List Int)}(h:kx a1 a2 a3 d0 d1=some r):EvP prog aN ext 129 [.agg [.ref 0 0,.ref 1 0],.d (aG.pd a1),rM al.pd a2,rL a3] [.arr 0 3 (d0.map (PD.int .i64)),.arr 0 3 (d1.map (PD.int .i64))] (rL r.1,[.arr 0 3 (r.2.1.map (PD.int .i64)),.arr 0 3 (r.2.2.map (PD.int .i64))]):=by
 refine Ev.body Z Tryz.func129 Z Zk<|gU Z<|sB (.ptr 64 0) 64 (.var [.ref 0 0,.ref 1 0])<|sB (.ptr 80 0) 80 (.var (aG.rc a1))<|sV .mA<|sN<|gU Z<|sV .mA<|sN<|WC.cI Z Z<|sV (.ptr 64 0)<|sL Z<|sV (.agg [.ref 0 0,.ref 1 0])<|bE h fun x1 h1 h=>cR (rI x1) [ ] (ik h1) ?_
 refine bE h fun x3 h3 h=>WO.qk h3 Z Z Z Z Z Z Z Z<|bE h fun x4 h4 h=>WO.qj h4 Z Z Z Z Z Z<|sA Z ?_
 refine sN<|sO<|qS<|gU Z<|sM Z<|sA Z<|sN<|bE h fun o22 ho22 h=>WC.block (WC.loop (WL.pI ho22 (fun s=>gI 2 129 4 [(2,rM al.pd a2),(3,rL a3),(4,.ptr 64 0),(5,.ptr 80 0),(9,.ref 928 0),(10,rI x4),(11,rI s.1)] [(0,.arr 0 3 (d0.map (PD.int .i64))),(1,.arr 0 3 (d1.map (PD.int .i64))),(64,.var [.ref 0 0,.ref 1 0]),(80,.var (aG.rc a1)),(928,.arr 0 3 (s.2.map (PD.int .i64)))]) (fun o=>gX 0 2 129 7 [(9,.ref 928 0)] [(0,.arr 0 3 (d0.map (PD.int .i64))),(1,.arr 0 3 (d1.map (PD.int .i64))),(928,.arr 0 3 (o.map (PD.int .i64)))]) Z ?_ ?_))
 ·rintro⟨s5,s6⟩ R' B' q8 hI h
  unfold co at h
  refine qS<|WC.cI hI Z<|sM Z<|sV (.agg [.ref 0 0,.ref 1 0])<|bE h fun x9 h9 h=>cR (rI x9) [ ] (ik h9)<|sF h ?_ ?_<;>intro h
  ·refine mM Z<|WO.tn Z Z Z Z Z Z Z Z Z<|sV (rB (decide ((s6.length:Int)<(16:Int))))<|sF h ?_ ?_<;>intro h
   ·refine mM Z<|mM Z<|bE h fun x12 h12 h=>eG h12 Z<|sC Z<|bE h fun x13 h13 h=>eG h13 Z<|sV (.cptr [.int .i64 x13.aM,.int .i64 x13.bv,.int .i64 x13.bD])<|sC Z<|mM Z<|sM Z<|bE h fun x14 h14 h=>?_
    refine eG h14 Z<|sC Z<|bE h fun x15 h15 h=>eG h15 Z<|sV (.cptr [.int .i64 x15.aM,.int .i64 x15.bv,.int .i64 x15.bD])<|sC Z<|sV (rI (rW (x13.aM-x15.aM)))<|sV (.ptr 80 11)<|sL Z<|sV (rB (decide ((rW (x13.aM-x15.aM))<=a1.dn)))<|sF h ?_ ?_<;>intro h
    ·refine sN<|sO<|cT<|qK<|qS<|qB<|WC.region Z Z<|mM Z<|sV (.d (.lst ([s5].map (PD.int .i64))))<|bE h fun x17 h17 h=>aR h17 (fun _=>Z) Z<|sA Z<|sN<|WC.region Z Z<|sV (.ptr 64 0) ?_
     refine sL Z<|sM Z<|bE h fun x19 h19 h=>WO.qk h19 Z Z Z Z Z Z Z Z<|bE h fun x20 h20 h=>WO.qj h20 Z Z Z Z Z Z<|sA Z<|sN ?_
     cases oI h
     exact⟨rfl,rfl⟩
    refine sN<|sO<|cF<|qX ?_
    cases oI h
    exact⟨nofun,rfl,rfl⟩
   refine sM Z<|k3<|k3<|k3<|k3<|sK<|sK ?_
   refine k3<|k3<|sU ?_
   refine sN<|sO<|cF<|qX ?_
   cases oI h
   exact⟨nofun,rfl,rfl⟩
  refine sM Z<|k3<|sU<|sM Z<|k3<|k3<|sK<|sK<|sK ?_
  refine k3<|k3<|k3<|sK<|sK<|sU ?_
  refine sN<|sO<|cF<|qX ?_
  cases oI h
  exact⟨nofun,rfl,rfl⟩
 intro e R' B' he hq
 obtain⟨rfl,hI⟩:=hq
 refine qE<|gS Z hI<|sM Z<|sA Z<|sN<|qR ?_
 exact oI h▸qD
theorem kD{a0:aG}{a1:(List al)}{r:ag}(h:dU a0 a1=some r):EvP prog aN ext 130 [.d (aG.pd a0),rM al.pd a1] [] (.d (ag.pd r),[]):=by
 refine Ev.body Z Tryz.func130 Z Zk<|gU Z<|sB (.ptr 32 0) 32 (.var (aG.rc a0))<|sB (.ptr 64 0) 64 (.var [r0,r0,r0,r0,r0,r0,r0,.mA,.mA,.mA,r0])<|sN<|gU Z<|sV (.ptr 32 0)<|sV (.d (ah.pd a0.aK))<|sV (.ptr 32 6)<|sV (.d (aH.pd a0.bc))<|sM Z<|sV (.ptr 32 9)<|sL Z<|sG (.d (ag.pd (ag.mk a0.aK a0.bc a1 a0.cU)))<|sH 64 (.var (ah.rc a0.aK++aH.rc a0.bc++[rM al.pd a1,rI a0.cU])) ?_
 refine sN<|qR ?_
 cases oI h
 exact qG
theorem lL{a0:ag}{r:Int}(h:gr a0=some r):EvP prog aN ext 120 [.d (ag.pd a0)] [] (rI r,[]):=by
 refine Ev.body Z Tryz.func120 Z Zk<|gU Z<|sB (.ptr 16 0) 16 (.var (ag.rc a0))<|sV (r0)<|sN<|qS<|gU Z<|sV (.ptr 16 0)<|sV (.d (ah.pd a0.aK))<|bE h fun x1 h1 h=>cD (bt h1)<|sF h ?_ ?_<;>intro h
 ·refine sN<|cT<|gU Z<|sV (rI 20)<|sN<|qR ?_
  cases oI h
  exact qG
 refine sN<|cF<|qK<|qS<|gU Z<|sV (.ptr 16 6)<|sV (.d (aH.pd a0.bc))<|bE h fun x3 h3 h=>cD (dE h3)<|sA Z<|sN<|gU Z<|sM Z<|sF h ?_ ?_<;>intro h
 ·refine sN<|cT<|gU Z<|sM Z<|sA Z<|sN<|qR ?_
  cases oI h
  exact qG
 refine sN<|cF<|qK<|qS<|gU Z<|sV (.ptr 16 9)<|sL Z<|sE (rI (a0.aX.length:Int)) (pf _ _)<|sA Z<|sN<|qB<|gU Z<|sM Z<|sF h ?_ ?_<;>intro h
 ·refine sA Z<|sN<|cT<|gU Z<|sV (rI 24)<|sN<|qR ?_
  cases oI h
  exact qG
 refine sA Z<|sN<|cF<|gU Z<|sM Z<|sF h ?_ ?_<;>intro h
 ·refine sA Z<|sN<|cT<|gU Z<|sV (rI 8)<|sN<|qR ?_
  cases oI h
  exact qG
 refine sA Z<|sN<|cF<|gU Z<|sV (.ptr 16 10)<|sL Z<|sF h ?_ ?_<;>intro h
 ·refine sM Z<|k3<|sT<|sA Z<|sN<|cT<|gU Z<|sV (rI 2)<|sN<|qR ?_
  cases oI h
  exact qG
 refine sM Z<|sV (.ptr 16 10)<|sL Z<|sV (rB (decide (a0.cU>(1099511627776:Int))))<|sF h ?_ ?_<;>intro h
 ·refine sA Z<|sN<|cT<|gU Z<|sV (rI 2)<|sN<|qR ?_
  cases oI h
  exact qG
 refine sA Z<|sN<|cF<|qK<|qS<|gU Z<|sV (.ptr 16 9)<|sL Z<|sE (rI (a0.aX.length:Int)) (pf _ _)<|sV (r0)<|sN<|bE h fun o16 ho16 h=>WC.block (WC.loop (WL.pI ho16 (fun s=>gI 0 120 14 [(1,.ptr 16 0),(38,rM al.pd a0.aX),(39,rI (a0.aX.length:Int)),(40,rI s)] [(16,.var (ag.rc a0))]) (fun o=>match o with| .inl y=>gX 1 0 120 20 [] []| .inr r=>gF 120 Tryz.f120 0 (rI r,[])) Z ?_ ?_))
 ·rintro s9 R' B' q10 hI h
  refine gS Z hI<|sF h ?_ ?_<;>intro h
  ·refine sN<|qS<|cT<|qK<|qS<|qB<|gU Z<|bE h fun x12 h12 h=>eG h12 Z<|sV (.d (al.pd x12))<|sB (.ptr 96 0) 96 (.var zZ4)<|sH 96 (.var (al.rc x12))<|sN<|gU Z<|sV (.ptr 16 6) ?_
   refine sV (.d (aH.pd a0.bc))<|sV (.ptr 16 0)<|sV (.d (ah.pd a0.aK))<|sV (.d (al.pd x12))<|bE h fun x13 h13 h=>cR (.tup [.d (aF.pd x13.1),rI x13.2]) [] (ku h13)<|sM Z<|sV (.d (aF.pd x13.1))<|sV (rI x13.2)<|sB (.ptr 112 0) 112 (.var [r0,r0])<|sS 112 (.var [rI x13.1.bj,rI x13.1.fTo])<|sA Z<|sN<|gU Z<|sM Z ?_
   refine sF h ?_ ?_<;>intro h
   ·refine sN<|cT<|gU Z<|sM Z<|sA Z<|sN<|qR ?_
    cases oI h
    exact⟨nofun,rfl,rfl⟩
   refine sN<|cF<|qK<|WC.region Z Z<|sV (rI (rW (s9+(1:Int))))<|sM Z<|sN ?_
   cases oI h
   exact⟨rfl,rfl⟩
  refine sN<|qS<|cF<|qX ?_
  cases oI h
  exact⟨nofun,rfl,rfl⟩
 intro e R' B' he hq
 rcases o16 with y17|r18
 ·obtain⟨rfl,hI⟩:=hq
  refine qE<|gS Z hI<|sV (r0)<|sN<|qR ?_
  exact oI h▸qD
 obtain⟨rfl,hf⟩:=hq
 cases oI h
 exact hf
theorem kG{a0:ah}{a1:aa}{r:Bool}(h:eW a0 a1=some r):EvP prog aN ext 201 [.d (ah.pd a0),.d (aa.pd a1)] [] (rB r,[]):=by
 refine Ev.body Z Tryz.func201 Z Zk<|gU Z<|sB (.ptr 32 0) 32 (.var (ah.rc a0))<|sB (.ptr 48 0) 48 (.var (aa.rc a1))<|sU<|sN<|gU Z<|sV (.d (ah.pd a0))<|bE h fun x1 h1 h=>qe h (fun hb2 h=>?_) (fun hb2 h=>?_)
 ·refine WO.qH (v:=rB true) (u:=[]) Z Z (fun _=>Z) Z Z Z Z Z (bt h1) Z Z (congrArg (fun b=>RV.d (.bool b)) hb2) Z<|sM Z<|sV (.d (aa.pd a1))<|bE h fun x3 h3 h=>cD (cO h3)<|sF h ?_ ?_<;>intro h
  ·refine sM Z<|sV (.d (ah.pd a0))<|sV (.d (aa.pd a1))<|bE h fun x5 h5 h=>cD (kb h5)<|sV (rB (x5==(0:Int)))<|sV (rB (x5==(0:Int)))<|sA Z<|sN<|qR ?_
   exact oI h▸qD
  refine sM Z<|k3<|sK<|sU<|sA Z<|sN<|qR ?_
  exact oI h▸qD
 refine WO.qH (v:=rB false) (u:=[]) Z Z (fun _=>Z) Z Z Z Z Z (bt h1) Z Z (congrArg (fun b=>RV.d (.bool b)) hb2) Z<|sM Z<|sK<|sK<|sU<|sM Z<|k3<|sK<|sU<|sA Z<|sN<|qR ?_
 exact oI h▸qD
theorem oM{a0:ah}{a1:ah}{r:Bool}(h:iU a0 a1=some r):EvP prog aN ext 121 [.d (ah.pd a0),.d (ah.pd a1)] [] (rB r,[]):=by
 refine Ev.body Z Tryz.func121 Z Zk<|gU Z<|sB (.ptr 32 0) 32 (.var (ah.rc a0))<|sB (.ptr 48 0) 48 (.var (ah.rc a1))<|sU<|sN<|gU Z<|sV (.d (ah.pd a0))<|bE h fun x1 h1 h=>qe h (fun hb2 h=>?_) (fun hb2 h=>?_)
 ·refine WO.qH (v:=rB true) (u:=[]) Z Z (fun _=>Z) Z Z Z Z Z (bt h1) Z Z (congrArg (fun b=>RV.d (.bool b)) hb2) Z<|sM Z<|sV (.d (ah.pd a1))<|sV (.ptr 32 0)<|sV (.d (aa.pd a0.aI))<|bE h fun x3 h3 h=>cD (kG h3)<|sF h ?_ ?_<;>intro h
  ·refine sM Z<|sV (.d (ah.pd a1))<|sV (.ptr 32 3)<|sV (.d (aa.pd a0.aC))<|bE h fun x5 h5 h=>cD (kG h5)<|sV (rB x5)<|sA Z<|sN<|qR ?_
   exact oI h▸qD
  refine sM Z<|k3<|sK<|sU<|sA Z<|sN<|qR ?_
  exact oI h▸qD
 refine WO.qH (v:=rB false) (u:=[]) Z Z (fun _=>Z) Z Z Z Z Z (bt h1) Z Z (congrArg (fun b=>RV.d (.bool b)) hb2) Z<|sM Z<|k3<|sK<|sU<|sM Z<|k3<|sK<|sU<|sA Z<|sN ?_
 refine qR ?_
 exact oI h▸qD
theorem misfit_zones_ev{a0:ag}{a1:ah}{r:(List aF)×Int}(h:lq a0 a1=some r):EvP prog aN ext 122 [.d (ag.pd a0),.d (ah.pd a1)] [] (.tup [rM aF.pd r.1,rI r.2],[]):=by
 refine Ev.body Z Tryz.func122 Z Zk<|gU Z<|sB (.ptr 32 0) 32 (.var (ag.rc a0))<|sB (.ptr 48 0) 48 (.var (ah.rc a1))<|sV .mA<|sV (r0)<|sN<|gU Z<|sV (.ptr 32 9)<|sL Z<|sE (rI (a0.aX.length:Int)) (pf _ _)<|bE h fun x1 h1 h=>WO.mkC (g:=aF.pd) h1 Z Z Z Z Z Z Z Z Z Z Z<|sA Z<|sN ?_
 refine qS<|gU Z<|sV (.ptr 32 9)<|sL Z<|sE (rI (a0.aX.length:Int)) (pf _ _)<|sV (r0)<|sN<|bE h fun o12 ho12 h=>WC.block (WC.loop (WL.pI ho12 (fun s=>gI 0 122 3 [(2,.ptr 32 0),(3,.ptr 48 0),(6,.ref 224 0),(16,rM al.pd a0.aX),(17,rI (a0.aX.length:Int)),(18,rI s.1)] [(32,.var (ag.rc a0)),(48,.var (ah.rc a1)),(224,.arr 0 206 (s.2.map aF.pd))]) (fun o=>match o with| .inl y=>gX 0 0 122 10 [(6,.ref 224 0)] [(224,.arr 0 206 (y.map aF.pd))]| .inr r=>gF 122 Tryz.f122 0 (.tup [rM aF.pd r.1,rI r.2],[])) Z ?_ ?_))
 ·rintro⟨s2,s3⟩ R' B' q5 hI h
  refine gS Z hI<|sF h ?_ ?_<;>intro h
  ·refine sN<|qS<|cT<|qK<|qS<|qB<|gU Z<|bE h fun x7 h7 h=>eG h7 Z<|sV (.d (al.pd x7))<|sB (.ptr 128 0) 128 (.var zZ4)<|sH 128 (.var (al.rc x7))<|sN<|gU Z<|sV (.ptr 32 6) ?_
   refine sV (.d (aH.pd a0.bc))<|sV (.d (ah.pd a1))<|sV (.d (al.pd x7))<|bE h fun x8 h8 h=>cR (.tup [.d (aF.pd x8.1),rI x8.2]) [] (ku h8)<|sM Z<|sV (.d (aF.pd x8.1))<|sV (rI x8.2)<|sB (.ptr 144 0) 144 (.var [r0,r0])<|sS 144 (.var [rI x8.1.bj,rI x8.1.fTo])<|sA Z<|sN<|qS<|gU Z<|sM Z ?_
   refine sF h ?_ ?_<;>intro h
   ·refine sN<|cT<|gU Z<|sM Z<|sV .mA<|sA Z<|sN<|qR ?_
    cases oI h
    exact⟨nofun,rfl,rfl⟩
   refine sN<|cF<|qK<|WC.region Z Z<|sM Z<|sV (.d (aF.pd x8.1))<|sV (.d (.lst ([x8.1].map aF.pd)))<|bE h fun x10 h10 h=>aR h10 (fun _=>Z) Z<|sA Z<|sN<|WC.region Z Z<|sV (rI (rW (s2+(1:Int))))<|sM Z<|sN ?_
   cases oI h
   exact⟨rfl,rfl⟩
  refine sN<|qS<|cF<|qX ?_
  cases oI h
  exact⟨nofun,rfl,rfl⟩
 intro e R' B' he hq
 rcases o12 with y13|r14
 ·obtain⟨rfl,hI⟩:=hq
  refine qE<|gS Z hI<|sM Z<|sA Z<|sV (r0)<|sN<|qR ?_
  exact oI h▸qD
 obtain⟨rfl,hf⟩:=hq
 cases oI h
 exact hf
theorem kS{a0:ag}{a1:ah}{r:(List aF)×Int}(h:e8 a0 a1=some r):EvP prog aN ext 61 [.d (ag.pd a0),.d (ah.pd a1)] [] (.tup [rM aF.pd r.1,rI r.2],[]):=by
 refine Ev.body Z Tryz.func61 Z Zk<|gU Z<|sB (.ptr 32 0) 32 (.var (ag.rc a0))<|sB (.ptr 48 0) 48 (.var (ah.rc a1))<|sV .mA<|sV (r0)<|sN<|qS<|gU Z<|sV (.d (ag.pd a0))<|bE h fun x1 h1 h=>cD (lL h1)<|sA Z<|sN<|gU Z ?_
 refine sM Z<|sF h ?_ ?_<;>intro h
 ·refine sN<|cT<|gU Z<|sM Z<|sV .mA<|sA Z<|sN<|qR ?_
  cases oI h
  exact qG
 refine sN<|cF<|qK<|qS<|gU Z<|sV (.d (ah.pd a1))<|sV (.ptr 32 0)<|sV (.d (ah.pd a0.aK))<|bE h fun x3 h3 h=>cD (oM h3)<|sF h ?_ ?_<;>intro h
 ·refine sN<|cT<|gU Z<|sV .mA<|sV (rI 20)<|sN<|qR ?_
  cases oI h
  exact qG
 refine sN<|cF<|qK<|gU Z<|sV (.d (ag.pd a0))<|sV (.d (ah.pd a1))<|bE h fun x5 h5 h=>cR (.tup [rM aF.pd x5.1,rI x5.2]) [] (misfit_zones_ev h5)<|sV (rM aF.pd x5.1)<|sV (rI x5.2)<|sA Z<|sA Z<|sN<|qR ?_
 cases oI h
 exact qG
theorem lK{a0:aF}{a1:Int}{r:Int}(h:eR a0 a1=some r):EvP prog aN ext 202 [.d (aF.pd a0),rI a1] [] (rI r,[]):=by
 refine Ev.body Z Tryz.func202 Z Zk<|gU Z<|sB (.ptr 32 0) 32 (.var [rI a0.bj,rI a0.fTo])<|sV (r0)<|sN<|gU Z<|sV (.ptr 32 0)<|sL Z<|sM Z<|sV (rI (rW (a0.bj-a1)))<|sM Z<|sV (.ptr 32 1)<|sL Z<|sV (rI (rW (a1-a0.fTo)))<|sV (rI (if(0:Int)>(if(rW (a1-a0.fTo))>(rW (a0.bj-a1))then(rW (a1-a0.fTo))else(rW (a0.bj-a1)))then(0:Int)else(if(rW (a1-a0.fTo))>(rW (a0.bj-a1))then(rW (a1-a0.fTo))else(rW (a0.bj-a1))))) ?_
 refine sA Z<|sN<|qR ?_
 exact oI h▸qD
theorem nS{a0:ag}{a1:(List aF)}{a2:Int}{r:Int}(h:gT a0 a1 a2=some r):EvP prog aN ext 123 [.d (ag.pd a0),rM aF.pd a1,rI a2] [] (rI r,[]):=by
 refine Ev.body Z Tryz.func123 Z Zk<|gU Z<|sB (.ptr 48 0) 48 (.var (ag.rc a0))<|sV (r0)<|sN<|gU Z<|sV (r0)<|sN<|qS<|gU Z<|sV (.ptr 48 9)<|sL Z<|sE (rI (a0.aX.length:Int)) (pf _ _)<|sV (r0)<|sN ?_
 refine bE h fun o11 ho11 h=>WC.block (WC.loop (WL.pI ho11 (fun s=>gI 0 123 3 [(1,rM aF.pd a1),(2,rI a2),(3,.ptr 48 0),(7,rI s.1),(11,rM al.pd a0.aX),(12,rI (a0.aX.length:Int)),(13,rI s.2)] [(48,.var (ag.rc a0))]) (fun o=>gX 0 0 123 8 [(7,rI o)] []) Z ?_ ?_))
 ·rintro⟨s1,s2⟩ R' B' q4 hI h
  refine gS Z hI<|sF h ?_ ?_<;>intro h
  ·refine sN<|qS<|cT<|qK<|qS<|qB<|gU Z<|sM Z<|bE h fun x6 h6 h=>eG h6 Z<|sV (.d (al.pd x6))<|sB (.ptr 144 0) 144 (.var zZ4)<|sA Z<|sH 144 (.var (al.rc x6))<|sN ?_
   refine gU Z<|mM Z<|sE (rI (a1.length:Int)) (pf _ _)<|sF h ?_ ?_<;>intro h
   ·refine sN<|cT<|WC.pX Z Z<|sM Z<|sV (.ptr 144 5)<|sL Z<|sV (.ptr 48 10)<|sL Z<|mM Z<|bE h fun x8 h8 h=>eG h8 Z<|sV (.d (aF.pd x8))<|sM Z<|bE h fun x9 h9 h=>?_
    refine cD (lK h9)<|sV (rI (if x9<a0.cU then x9 else a0.cU))<|sV (rI (rW (x6.bD*(if x9<a0.cU then x9 else a0.cU))))<|sV (rI (rW (s1+(rW (x6.bD*(if x9<a0.cU then x9 else a0.cU))))))<|sA Z ?_
    refine sN<|sO<|WC.region Z Z<|sV (rI (rW (s2+(1:Int))))<|sM Z<|sN ?_
    cases oI h
    exact⟨rfl,rfl⟩
   refine sN<|cF<|qK<|WC.region Z Z<|sV (rI (rW (s2+(1:Int))))<|sM Z<|sN ?_
   cases oI h
   exact⟨rfl,rfl⟩
  refine sN<|qS<|cF<|qX ?_
  cases oI h
  exact⟨nofun,rfl,rfl⟩
 intro e R' B' he hq
 obtain⟨rfl,hI⟩:=hq
 refine qE<|gS Z hI<|sM Z<|sA Z<|sN<|qR ?_
 exact oI h▸qD
theorem nR{a0:ag}{a1:(List aF)}{r:Int×Int}(h:gR a0 a1=some r):EvP prog aN ext 62 [.d (ag.pd a0),rM aF.pd a1] [] (.tup [rI r.1,rI r.2],[]):=by
 refine Ev.body Z Tryz.func62 Z Zk<|gU Z<|sB (.ptr 32 0) 32 (.var (ag.rc a0))<|sV (r0)<|sV (r0)<|sN<|gU Z<|sM Z<|sE (rI (a1.length:Int)) (pf _ _)<|sV (rI (rW ((2:Int)*(a1.length:Int))))<|bE h fun x1 h1 h=>WO.mkC (g:=(PD.int .i64)) h1 Z Z Z Z Z Z Z Z Z Z Z<|sA Z<|sN<|qS ?_
 refine gU Z<|sM Z<|sE (rI (a1.length:Int)) (pf _ _)<|sV (r0)<|sN<|bE h fun o10 ho10 h=>WC.block (WC.loop (WL.pI ho10 (fun s=>gI 0 62 3 [(1,rM aF.pd a1),(2,.ptr 32 0),(6,.ref 272 0),(18,rM aF.pd a1),(19,rI (a1.length:Int)),(20,rI s.1)] [(32,.var (ag.rc a0)),(272,.arr 0 3 (s.2.map (PD.int .i64)))]) (fun o=>gX 0 0 62 7 [(1,rM aF.pd a1),(2,.ptr 32 0),(6,.ref 272 0)] [(32,.var (ag.rc a0)),(272,.arr 0 3 (o.map (PD.int .i64)))]) Z ?_ ?_))
 ·rintro⟨s2,s3⟩ R' B' q5 hI h
  refine gS Z hI<|sF h ?_ ?_<;>intro h
  ·refine sN<|qS<|cT<|qK<|qS<|qB<|gU Z<|bE h fun x7 h7 h=>eG h7 Z<|sV (.d (aF.pd x7))<|sB (.ptr 128 0) 128 (.var [r0,r0])<|sS 128 (.var [rI x7.bj,rI x7.fTo])<|sN<|WC.region Z Z<|sM Z ?_
   refine sV (.ptr 128 0)<|sL Z<|sV (.ptr 128 1)<|sL Z<|sV (.d (.lst ([x7.bj,x7.fTo].map (PD.int .i64))))<|bE h fun x8 h8 h=>aR h8 (fun _=>Z) Z<|sA Z<|sN<|WC.region Z Z<|sV (rI (rW (s2+(1:Int))))<|sM Z<|sN ?_
   cases oI h
   exact⟨rfl,rfl⟩
  refine sN<|qS<|cF<|qX ?_
  cases oI h
  exact⟨nofun,rfl,rfl⟩
 intro e R' B' he hq
 obtain⟨rfl,hI⟩:=hq
 refine qE<|qS<|gS Z hI<|sM Z<|WO.tn Z Z Z Z Z Z Z Z Z<|sF h ?_ ?_<;>intro h
 ·refine sN<|cT<|gU Z<|sV (r0)<|sV (r0)<|sN<|qR ?_
  cases oI h
  exact qG
 refine sN<|cF<|qK<|WC.cI Z Z<|sM Z<|bE h fun x13 h13 h=>WO.qk h13 Z Z Z Z Z Z Z Z<|bE h fun x14 h14 h=>WO.qj h14 Z Z Z Z Z Z<|sV (.d (ag.pd a0))<|mM Z<|bE h fun x16 h16 h=>WO.qk h16 Z Z Z Z Z Z Z Z<|bE h fun x17 h17 h=>?_
 refine WO.qj h17 Z Z Z Z Z Z<|bE h fun x18 h18 h=>cD (nS h18)<|sA Z<|sA Z ?_
 refine sN<|sO<|qS<|gU Z<|sM Z<|bE h fun x19 h19 h=>WO.subR h19 Z Z Z Z Z Z Z Z Z Z Z Z<|bE h fun x20 h20 h=>WO.lenVw h20 Z Z Z Z Z Z Z Z Z<|sV (r0)<|sN<|bE h fun o35 ho35 h=>WC.block (WC.loop (WL.pI ho35 (fun s=>gI 0 62 11 [(1,rM aF.pd a1),(2,.ptr 32 0),(9,rI s.1),(10,rI s.2.1),(45,.view 272 0 (0+(1:Int).toNat) (0+((o10.length:Int):Int).toNat)),(46,rI x20),(47,rI s.2.2)] [(32,.var (ag.rc a0)),(272,.arr 0 3 (o10.map (PD.int .i64)))]) (fun o=>gX 2 0 62 17 [(9,rI o.1),(10,rI o.2)] []) Z ?_ ?_))
 ·rintro⟨s21,s22,s23⟩ R' B' q26 hI h
  refine gS Z hI<|sF h ?_ ?_<;>intro h
  ·refine sN<|qS<|cT<|qK<|qS<|qB<|gU Z<|bE h fun x28 h28 h=>WO.eltV h28 Z Z Z Z Z Z Z Z<|bE h fun x29 h29 h=>WO.qj h29 Z Z Z Z Z Z<|sA Z<|sN<|gU Z<|sV (.d (ag.pd a0)) ?_
   refine mM Z<|bE h fun x30 h30 h=>cD (nS h30)<|sA Z<|sN<|gU Z<|mM Z<|sF h ?_ ?_<;>intro h
   ·refine sM Z<|k3<|k3<|sK<|sK<|sT<|sN<|cT<|WC.region Z Z<|sM Z<|sM Z ?_
    refine sA Z<|sA Z<|sN<|WC.region Z Z<|sV (rI (rW (s23+(1:Int))))<|sM Z<|sN ?_
    cases oI h
    exact⟨rfl,rfl⟩
   refine mM Z<|sM Z<|sF h ?_ ?_<;>intro h
   ·refine mM Z<|sM Z<|sV (rB (decide (x29<s21)))<|sV (rB (decide (x29<s21)))<|sF h ?_ ?_<;>intro h
    ·refine sN<|cT<|WC.region Z Z<|mM Z<|sA Z<|sA Z<|sN<|WC.region Z Z<|sV (rI (rW (s23+(1:Int))))<|sM Z<|sN ?_
     cases oI h
     exact⟨rfl,rfl⟩
    refine sN<|cF<|qK<|WC.region Z Z<|sV (rI (rW (s23+(1:Int))))<|sM Z<|sN ?_
    cases oI h
    exact⟨rfl,rfl⟩
   refine sM Z<|k3<|sU<|sU<|sN<|cF<|qK<|WC.region Z Z<|sV (rI (rW (s23+(1:Int))))<|sM Z<|sN ?_
   cases oI h
   exact⟨rfl,rfl⟩
  refine sN<|qS<|cF<|qX ?_
  cases oI h
  exact⟨nofun,rfl,rfl⟩
 intro e R' B' he hq
 obtain⟨rfl,hI⟩:=hq
 refine qE<|gS Z hI<|mM Z<|sA Z<|sA Z<|sN<|qR ?_
 exact oI h▸qD
theorem nq{a0:ag}{a1:ah}{r:Int×Int}(h:ed a0 a1=some r):EvP prog aN ext 267 [.d (ag.pd a0),.d (ah.pd a1)] [] (.tup [rI r.1,rI r.2],[]):=by
 refine Ev.body Z Tryz.func267 Z Zk<|gU Z<|sB (.ptr 32 0) 32 (.var (ag.rc a0))<|sB (.ptr 48 0) 48 (.var (ah.rc a1))<|sV (r0)<|sV (r0)<|sN<|gU Z<|sV (.d (ag.pd a0))<|sV (.d (ah.pd a1))<|bE h fun x1 h1 h=>cR (.tup [rM aF.pd x1.1,rI x1.2]) [] (kS h1)<|sM Z<|sV (rM aF.pd x1.1)<|sV (rI x1.2) ?_
 refine sA Z<|sA Z<|sN<|qS<|gU Z<|sM Z<|sF h ?_ ?_<;>intro h
 ·refine sN<|cT<|gU Z<|sM Z<|sV (r0)<|sA Z<|sN<|qR ?_
  cases oI h
  exact qG
 refine sN<|cF<|qK<|gU Z<|sV (.d (ag.pd a0))<|sM Z<|bE h fun x3 h3 h=>cR (.tup [rI x3.1,rI x3.2]) [] (nR h3)<|sM Z<|sV (rI x3.1)<|sV (rI x3.2)<|sA Z<|sA Z<|sN<|gU Z ?_
 refine sM Z<|sA Z<|sV (r0)<|sN<|qR ?_
 cases oI h
 exact qG
theorem queue_Push_ev{a0:ak}{e1:ag}{e2:Int}{e3:Int}{e4:Bool}{e5:aj}{r:(List ak)}(h:m8 a0 e1 e2 e3 e4 e5=some r):EvP prog aN ext 444 [.ptr 0 11,.ifc 194 (.d (ak.pd a0))] [.var (ag.rc e1++ .mA::rI e2::rI e3::rB e4::aj.rc e5)] (.tup [],[.var (ag.rc e1++ .ref 1 0::rI e2::rI e3::rB e4::aj.rc e5),.arr 0 194 (r.map ak.pd)]):=by
 refine Ev.body Z Tryz.func444 Z Zk<|gU Z<|sM Z<|sG (.tup [.d (ak.pd a0),rB true])<|sM Z<|sV (.d (ak.pd a0))<|sT<|sB (.ptr 64 0) 64 (.var [r0,r0,r0,r0,r0,r0,r0,r0])<|sH 64 (.var (ak.rc a0))<|sA Z<|sN<|gU Z<|sM Z<|sN<|cT ?_
 refine WC.pX Z Z<|mM Z<|sV (.ptr 0 11)<|sL Z<|sV (.d (ak.pd a0))<|sG (.d (.lst ([a0].map ak.pd)))<|bE h fun x1 h1 h=>WO.appN h1 (fun _=>Z) Z Z Z Z Z Z Z Z Z Z Z Z Z Z<|sV (.ptr 0 11)<|sS 0 (.var (ag.rc e1++ .ref 288 0::rI e2::rI e3::rB e4::aj.rc e5)) ?_
 refine sN<|sO ?_
 cases oI h
 exact qG
theorem m7{a0:(List ak)}{r:Int}(h:gA a0=some r):EvP prog aN ext 440 [rM ak.pd a0] [] (rI r,[]):=by
 refine Ev.body Z Tryz.func440 Z Zk<|gU Z<|sV (r0)<|sN<|gU Z<|sM Z<|sE (rI (a0.length:Int)) (pf _ _)<|sA Z<|sN<|qR ?_
 exact oI h▸qD
theorem mp{a0:(List ak)}{a1:Int}{a2:Int}{r:Bool}(h:gY a0 a1 a2=some r):EvP prog aN ext 441 [rM ak.pd a0,rI a1,rI a2] [] (rB r,[]):=by
 refine Ev.body Z Tryz.func441 Z Zk<|gU Z<|sU<|sN<|WC.cI Z Z<|mM Z<|bE h fun x1 h1 h=>eG h1 Z<|sV (.cptr [.int .i64 x1.ce,.int .i64 x1.f8])<|sC Z<|mM Z<|bE h fun x2 h2 h=>eG h2 Z ?_
 refine sV (.cptr [.int .i64 x2.ce,.int .i64 x2.f8])<|sC Z<|bE h fun x3 h3 h=>cD (bB h3)<|mM Z<|bE h fun x4 h4 h=>eG h4 Z<|sV (.cptr [.int .i64 x4.f8])<|sC Z<|mM Z<|bE h fun x5 h5 h=>eG h5 Z<|sV (.cptr [.int .i64 x5.f8]) ?_
 refine sC Z<|bE h fun x6 h6 h=>cD (bB h6)<|sV (.d (.lst ([x3,x6].map (PD.int .i64))))<|bE h fun x7 h7 h=>cD (gx h7)<|sV (rB (decide (x7<(0:Int))))<|sA Z ?_
 refine sN<|sO<|qR ?_
 exact oI h▸qD
theorem mq{a1:Int}{a2:Int}{d0:(List ak)}{r:(List ak)}(h:gZ a1 a2 d0=some r):EvP prog aN ext 442 [.ref 0 0,rI a1,rI a2] [.arr 0 194 (d0.map ak.pd)] (.tup [],[.arr 0 194 (r.map ak.pd)]):=by
 refine Ev.body Z Tryz.func442 Z Zk<|WC.pX Z Z<|mM Z<|mM Z<|mM Z<|bE h fun x2 h2 h=>WO.qk h2 Z Z Z Z Z Z Z Z<|bE h fun x3 h3 h=>WO.qj h3 Z Z Z Z Z Z<|mM Z<|bE h fun x5 h5 h=>?_
 refine WO.qk h5 Z Z Z Z Z Z Z Z<|bE h fun x6 h6 h=>WO.qj h6 Z Z Z Z Z Z<|bE h fun x8 h8 h=>WO.qk h8 Z Z Z Z Z Z Z Z<|bE h fun x9 h9 h=>WO.rA (g:=ak.pd) (sz:=8) (p:=ak.pd x3) h9 (by intro _;kernel_rfl) (by intro _;kernel_rfl) Z Z Z Z Z Z Z Z Z<|bE h fun x11 h11 h=>WO.qk h11 Z Z Z Z Z Z Z Z<|bE h fun x12 h12 h=>WO.rA (g:=ak.pd) (sz:=8) (p:=ak.pd x6) h12 (by intro _;kernel_rfl) (by intro _;kernel_rfl) Z Z Z Z Z Z Z Z Z ?_
 refine sN<|sO ?_
 exact oI h▸qD
theorem heap_up_ev{a0:Int}{e1:ag}{e2:Int}{e3:Int}{e4:Bool}{e5:aj}{d1:(List ak)}{r:(List ak)}(h:mX a0 e1 e2 e3 e4 e5 d1=some r):EvP prog aN ext 330 [.ifc 309 (.ptr 0 11),rI a0] [.var (ag.rc e1++ .ref 1 0::rI e2::rI e3::rB e4::aj.rc e5),.arr 0 194 (d1.map ak.pd)] (.tup [],[.var (ag.rc e1++ .ref 1 0::rI e2::rI e3::rB e4::aj.rc e5),.arr 0 194 (r.map ak.pd)]):=by
 refine Ev.body Z Tryz.func330 Z Zk<|bE h fun o12 ho12 h=>?_
 cases oI h
 refine WC.block (WC.loop (WL.tI ho12 (fun s=>gI 2 330 0 [(0,.ifc 309 (.ptr 0 11)),(1,rI s.1)] [(0,.var (ag.rc e1++ .ref 1 0::rI e2::rI e3::rB e4::aj.rc e5)),(1,.arr 0 194 (s.2.map ak.pd))]) Z ?_))
 rintro⟨s1,s2⟩ R' B' q3 hI h
 unfold l5 at h
 refine qB<|gS Z hI<|sM Z<|sV (rI (rW (s1-(1:Int))))<|bE h fun x4 h4 h=>WO.um h4 Z Z Z Z Z Z<|sA Z<|sN<|qS<|gU Z<|mM Z<|sF h ?_ ?_<;>intro h
 ·refine sM Z<|k3<|sK<|sK<|sT<|sN<|cT<|qX<|⟨fun he=>(by cases he),fun _=>?_⟩
  refine sk h (fun z6 hkz6 hz=>?_)
  obtain rfl:=Option.some.inj hz
  refine⟨(fun he=>by cases he),fun hz2=>?_⟩
  subst hz2
  have h:=hkz6
  refine qE ?_
  cases oI h
  exact qG
 refine mM Z<|mM Z<|bE h fun x7 h7 h=>WO.wO (e:=190) (c:= .ptr 0 11) (vl:= .ref 1 0) (g:=441) (args:=[rI s1,rI x4]) (v:=rB x7) (u:=[ ]) Z Z (by intro _;kernel_rfl) Z Z Z Z Z Z (mp h7) Z Z Z Z<|sV (rB (!x7))<|sF h ?_ ?_<;>intro h
 ·refine sN<|cT<|qX<|⟨fun he=>(by cases he),fun _=>?_⟩
  refine sk h (fun z9 hkz9 hz=>?_)
  obtain rfl:=Option.some.inj hz
  refine⟨(fun he=>by cases he),fun hz2=>?_⟩
  subst hz2
  have h:=hkz9
  refine qE ?_
  cases oI h
  exact qG
 refine sN<|cF<|qK<|gU Z<|mM Z<|sM Z<|bE h fun x10 h10 h=>WO.wO (e:=190) (c:= .ptr 0 11) (vl:= .ref 1 0) (g:=442) (args:=[rI x4,rI s1]) (v:= .tup []) (u:=[(1,.arr 0 194 (x10.map ak.pd))]) Z Z (by intro _;kernel_rfl) Z Z Z Z Z Z (mq h10) Z Z Z Z<|sN<|WC.region Z Z<|sM Z<|sA Z<|sN ?_
 cases oI h
 exact⟨rfl,rfl⟩
theorem heap_Push_ev{a0:ak}{e1:ag}{e2:Int}{e3:Int}{e4:Bool}{e5:aj}{r:(List ak)}(h:lz a0 e1 e2 e3 e4 e5=some r):EvP prog aN ext 268 [.ifc 309 (.ptr 0 11),.ifc 194 (.d (ak.pd a0))] [.var (ag.rc e1++ .mA::rI e2::rI e3::rB e4::aj.rc e5)] (.tup [],[.var (ag.rc e1++ .ref 1 0::rI e2::rI e3::rB e4::aj.rc e5),.arr 0 194 (r.map ak.pd)]):=by
 refine Ev.body Z Tryz.func268 Z Zk<|gU Z<|mM Z<|bE h fun x1 h1 h=>WO.qH (g:=444) (args:=[.ptr 0 11,.ifc 194 (.d (ak.pd a0))]) (v:= .tup []) (u:=[(0,.var (ag.rc e1++ .ref 96 0::rI e2::rI e3::rB e4::aj.rc e5)),(96,.arr 0 194 (x1.map ak.pd))]) Z Z (by intro _;kernel_rfl) Z Z Z Z Z (queue_Push_ev h1) Z Z Z Z<|sN<|WC.region Z Z<|mM Z<|bE h fun x2 h2 h=>WO.wO (e:=190) (c:= .ptr 0 11) (vl:= .ref 96 0) (g:=440) (args:=[]) (v:=rI x2) (u:=[ ]) Z Z (by intro _;kernel_rfl) Z Z Z Z Z Z (m7 h2) Z Z Z Z<|sV (rI (rW (x2-(1:Int))))<|bE h fun x3 h3 h=>cR (.tup []) [(0,.var (ag.rc e1++ .ref 96 0::rI e2::rI e3::rB e4::aj.rc e5)),(96,.arr 0 194 (x3.map ak.pd))] (heap_up_ev h3) ?_
 refine sN ?_
 cases oI h
 exact qG
theorem search_add_ev{a0:ah}{e1:ag}{e2:Int}{e3:Int}{e4:Bool}{e5:aj}{r:Int×(List ak)×Int}(h:kk a0 e1 e2 e3 e4 e5=some r):EvP prog aN ext 184 [.ptr 0 0,.d (ah.pd a0)] [.var (ag.rc e1++ .mA::rI e2::rI e3::rB e4::aj.rc e5)] (rI r.1,[.var (ag.rc e1++ .ref 1 0::rI r.2.2::rI e3::rB e4::aj.rc e5),.arr 0 194 (r.2.1.map ak.pd)]):=by
 refine Ev.body Z Tryz.func184 Z Zk<|gU Z<|sB (.ptr 48 0) 48 (.var (ah.rc a0))<|sV (r0)<|sN<|WC.cI Z Z<|sM Z<|sV (.ptr 0 0)<|sV (.ptr 0 0)<|sV (.d (ag.pd e1))<|sV (.d (ah.pd a0))<|bE h fun x1 h1 h=>cR (.tup [rI x1.1,rI x1.2]) [] (nq h1)<|sM Z<|sV (rI x1.1) ?_
 refine sV (rI x1.2)<|sA Z<|sA Z ?_
 refine sN<|sO<|WC.join (α:=Int×(List ak)) (fun x R' B'=>qb prog 1 (A R' B') (aN.at_ 184 1 5)=some (A [(6,rI x1.2)] [(0,.var (ag.rc e1++ .ref 90081 0::rI x.1::rI e3::rB e4::aj.rc e5)),(90081,.arr 0 194 (x.2.map ak.pd))])) (fun x=>iP x1 x.1 x.2=some r) ?_ ?_
 ·refine gU Z<|sM Z<|sF h ?_ ?_<;>intro h
  ·refine sN<|cT<|WC.cI Z Z<|sM Z<|sV (.ptr 0 0)<|sV (.ptr 0 11)<|sG (.ifc 309 (.ptr 0 11))<|sV (.d (ah.pd a0))<|mM Z<|sV (.ptr 0 0)<|sV (.ptr 0 12)<|sL Z<|sG (.d (ak.pd (ak.mk a0 x1.1 e2)))<|sG (.ifc 194 (.d (ak.pd (ak.mk a0 x1.1 e2)))) ?_
   refine bE h fun x6 h6 h=>cR (.tup []) [(0,.var (ag.rc e1++ .ref 480 0::rI e2::rI e3::rB e4::aj.rc e5)),(480,.arr 0 194 (x6.map ak.pd))] (heap_Push_ev h6) ?_
   exact sN<|sO<|WC.region rfl rfl<|sM rfl<|sV (.ptr 0 0)<|sV (.ptr 0 12)<|sL rfl<|sV (rI (rW (e2+(1:Int))))<|sV (.ptr 0 0)<|sV (.ptr 0 12)<|sS 0 (.var (ag.rc e1++ .ref 480 0::rI (rW (e2+(1:Int)))::rI e3::rB e4::aj.rc e5))<|sN<|⟨((rW (e2+(1:Int))),x6),rfl,h⟩
  exact sN<|cF<|qK<|⟨(e2,([]:List ak)),rfl,h⟩
 rintro⟨j2,j3⟩ R' B' hI h
 refine gS Z hI<|sM Z<|sA Z<|sN<|qR ?_
 cases oI h
 exact qG
theorem search_ended_ev{a0:Int}{e1:ag}{e2:Int}{e3:Int}{e4:Bool}{e5:aj}{d1:(List ak)}{r:Bool}(h:iy a0 e1 e2 e3 e4 e5 d1=some r):EvP prog aN ext 185 [.ptr 0 0,rI a0] [.var (ag.rc e1++ .ref 1 0::rI e2::rI e3::rB e4::aj.rc e5),.arr 0 194 (d1.map ak.pd)] (rB r,[.var (ag.rc e1++ .ref 1 0::rI e2::rI e3::rB e4::aj.rc e5),.arr 0 194 (d1.map ak.pd)]):=by
 refine Ev.body Z Tryz.func185 Z Zk<|gU Z<|sU<|sN<|WC.cI Z Z<|sM Z<|sV (.ptr 0 0)<|sV (.ptr 0 11)<|sL Z<|WO.tn Z Z Z Z Z Z Z Z Z<|sF h ?_ ?_<;>intro h
 ·refine sM Z<|k3<|k3<|k3<|k3<|sK<|sK ?_
  refine k3<|k3<|sK<|sT<|sA Z ?_
  refine sN<|sO<|qR ?_
  cases oI h
  exact qG
 refine mM Z<|sV (.ptr 0 0)<|sV (.ptr 0 14)<|sF h ?_ ?_<;>intro h
 ·refine mM Z<|sV (.ptr 0 0)<|sV (.ptr 0 15)<|sV (.ptr 0 19)<|sL Z<|sM Z<|sV (.ptr 0 0)<|sV (.ptr 0 11)<|sL Z<|bE h fun x4 h4 h=>WO.qk h4 Z Z Z Z Z Z Z Z<|sV (.elt 1 0 ((0:Int)).toNat 6)<|bE h fun x5 h5 h=>WO.qj h5 Z Z Z Z Z Z ?_
  refine sV (rI (rW (e5.bi-x5.ce)))<|sM Z<|sV (rB (decide ((rW (e5.bi-x5.ce))<=a0)))<|sV (rB (decide ((rW (e5.bi-x5.ce))<=a0)))<|sV (rB (decide ((rW (e5.bi-x5.ce))<=a0)))<|sA Z ?_
  refine sN<|sO<|qR ?_
  cases oI h
  exact qG
 refine sM Z<|k3<|k3<|k3<|k3<|sK<|sK ?_
 refine sK<|sU<|sU<|sA Z ?_
 refine sN<|sO<|qR ?_
 cases oI h
 exact qG
theorem heap_down_ev{a0:Int}{a1:Int}{e2:ag}{e3:Int}{e4:Int}{e5:Bool}{e6:aj}{d1:(List ak)}{r:Bool×(List ak)}(h:lA a0 a1 e2 e3 e4 e5 e6 d1=some r):EvP prog aN ext 331 [.ifc 309 (.ptr 0 11),rI a0,rI a1] [.var (ag.rc e2++ .ref 1 0::rI e3::rI e4::rB e5::aj.rc e6),.arr 0 194 (d1.map ak.pd)] (rB r.1,[.var (ag.rc e2++ .ref 1 0::rI e3::rI e4::rB e5::aj.rc e6),.arr 0 194 (r.2.map ak.pd)]):=by
 refine Ev.body Z Tryz.func331 Z Zk<|gU Z<|sU<|sN<|gU Z<|sM Z<|sA Z<|sN<|qS<|bE h fun o17 ho17 h=>WC.block (WC.loop (WL.pI ho17 (fun s=>gI 2 331 2 [(0,.ifc 309 (.ptr 0 11)),(1,rI a0),(2,rI a1),(7,rI s.1)] [(0,.var (ag.rc e2++ .ref 1 0::rI e3::rI e4::rB e5::aj.rc e6)),(1,.arr 0 194 (s.2.map ak.pd))]) (fun o=>gX 0 2 331 11 [(1,rI a0),(7,rI o.1)] [(0,.var (ag.rc e2++ .ref 1 0::rI e3::rI e4::rB e5::aj.rc e6)),(1,.arr 0 194 (o.2.map ak.pd))]) Z ?_ ?_))
 ·rintro⟨s1,s2⟩ R' B' q5 hI h
  refine qB<|gS Z hI<|sM Z<|sV (rI (rW ((2:Int)*s1)))<|sV (rI (rW ((rW ((2:Int)*s1))+(1:Int))))<|sA Z<|sN<|qS<|gU Z<|mM Z<|sF h ?_ ?_<;>intro h
  ·refine sM Z<|sK<|sK<|sT<|sN<|cT<|qX<|⟨fun he=>(by cases he),fun _=>?_⟩
   cases oI h
   exact⟨nofun,rfl,rfl⟩
  refine mM Z<|sV (rB (decide ((rW ((rW ((2:Int)*s1))+(1:Int)))<(0:Int))))<|sF h ?_ ?_<;>intro h
  ·refine sN<|cT<|qX<|⟨fun he=>(by cases he),fun _=>?_⟩
   cases oI h
   exact⟨nofun,rfl,rfl⟩
  refine sN<|cF<|qK<|gU Z<|sM Z<|sA Z<|sN<|WC.join (α:=Int) (fun x R' B'=>qb prog 2 (A R' B') (aN.at_ 331 2 8)=some (A [(0,.ifc 309 (.ptr 0 11)),(1,rI a0),(2,rI a1),(7,rI s1),(9,rI x)] [(0,.var (ag.rc e2++ .ref 1 0::rI e3::rI e4::rB e5::aj.rc e6)),(1,.arr 0 194 (s2.map ak.pd))])) (fun x=>er s2 s1 x=some q5) ?_ ?_
  ·refine gU Z<|sM Z<|sV (rI (rW ((rW ((rW ((2:Int)*s1))+(1:Int)))+(1:Int))))<|sA Z<|sN<|gU Z<|mM Z<|sF h ?_ ?_<;>intro h
   ·refine mM Z<|mM Z<|bE h fun x14 h14 h=>WO.wO (e:=190) (c:= .ptr 0 11) (vl:= .ref 1 0) (g:=441) (args:=[rI (rW ((rW ((rW ((2:Int)*s1))+(1:Int)))+(1:Int))),rI (rW ((rW ((2:Int)*s1))+(1:Int)))]) (v:=rB x14) (u:=[ ]) Z Z (by intro _;kernel_rfl) Z Z Z Z Z Z (mp h14) Z Z Z Z<|sF h ?_ ?_<;>intro h
    ·exact sN<|cT<|WC.region rfl rfl<|sM rfl<|sA rfl<|sN<|⟨(rW ((rW ((rW ((2:Int)*s1))+(1:Int)))+(1:Int))),rfl,h⟩
    exact sN<|cF<|qK<|⟨(rW ((rW ((2:Int)*s1))+(1:Int))),rfl,h⟩
   exact sM rfl<|k3<|sK<|sU<|sN<|cF<|qK<|⟨(rW ((rW ((2:Int)*s1))+(1:Int))),rfl,h⟩
  rintro j8 R' B' hI h
  refine qS<|gS Z hI<|mM Z<|sM Z<|bE h fun x9 h9 h=>WO.wO (e:=190) (c:= .ptr 0 11) (vl:= .ref 1 0) (g:=441) (args:=[rI j8,rI s1]) (v:=rB x9) (u:=[ ]) Z Z (by intro _;kernel_rfl) Z Z Z Z Z Z (mp h9) Z Z Z Z<|sF h ?_ ?_<;>intro h
  ·refine sN<|cT<|qX<|⟨fun he=>(by cases he),fun _=>?_⟩
   cases oI h
   exact⟨nofun,rfl,rfl⟩
  refine sN<|cF<|qK<|gU Z<|mM Z<|sM Z<|bE h fun x11 h11 h=>WO.wO (e:=190) (c:= .ptr 0 11) (vl:= .ref 1 0) (g:=442) (args:=[rI s1,rI j8]) (v:= .tup []) (u:=[(1,.arr 0 194 (x11.map ak.pd))]) Z Z (by intro _;kernel_rfl) Z Z Z Z Z Z (mq h11) Z Z Z Z<|sN<|WC.region Z Z<|sM Z<|sA Z<|sN ?_
  cases oI h
  exact⟨rfl,rfl⟩
 intro e R' B' he hq
 obtain⟨rfl,hI⟩:=hq
 refine qE<|gS Z hI<|mM Z<|sV (rB (decide (o17.1>a0)))<|sA Z<|sN<|qR ?_
 cases oI h
 exact qG
theorem queue_Pop_ev{e0:ag}{e1:Int}{e2:Int}{e3:Bool}{e4:aj}{d1:(List ak)}{r:ak×(List ak)}(h:oe e0 e1 e2 e3 e4 d1=some r):EvP prog aN ext 443 [.ptr 0 11] [.var (ag.rc e0++ .ref 1 0::rI e1::rI e2::rB e3::aj.rc e4),.arr 0 194 (d1.map ak.pd)] (.ifc 194 (.d (ak.pd r.1)),[.var (ag.rc e0++ .ref 1 1::rI e1::rI e2::rB e3::aj.rc e4),.arr 1 194 (r.2.map ak.pd)]):=by
 refine Ev.body Z Tryz.func443 Z Zk<|gU Z<|sV (.d (.raw .nilIface))<|sN<|gU Z<|sM Z<|sV (.ptr 0 11)<|sL Z<|sA Z<|sN<|gU Z<|mM Z<|WO.tn Z Z Z Z Z Z Z Z Z<|sV (rI (rW ((d1.length:Int)-(1:Int)))) ?_
 refine bE h fun x2 h2 h=>WO.qk h2 Z Z Z Z Z Z Z Z<|bE h fun x3 h3 h=>WO.qj h3 Z Z Z Z Z Z<|sB (.ptr 64 0) 64 (.var [r0,r0,r0,r0,r0,r0,r0,r0])<|sH 64 (.var (ak.rc x3))<|sN<|gU Z<|mM Z<|sM Z<|WO.tn Z Z Z Z Z Z Z Z Z<|sV (rI (rW ((d1.length:Int)-(1:Int))))<|bE h fun x4 h4 h=>WO.resl h4 Z Z Z Z Z Z Z Z Z Z Z Z ?_
 refine sV (.ptr 0 11)<|sS 0 (.var (ag.rc e0++ .ref 1 1::rI e1::rI e2::rB e3::aj.rc e4))<|sN<|gU Z<|sV (.d (ak.pd x3))<|sG (.ifc 194 (.d (ak.pd x3)))<|sA Z<|sN<|qR ?_
 cases oI h
 exact qG
theorem heap_Pop_ev{e0:ag}{e1:Int}{e2:Int}{e3:Bool}{e4:aj}{d1:(List ak)}{r:ak×(List ak)}(h:mF e0 e1 e2 e3 e4 d1=some r):EvP prog aN ext 269 [.ifc 309 (.ptr 0 11)] [.var (ag.rc e0++ .ref 1 0::rI e1::rI e2::rB e3::aj.rc e4),.arr 0 194 (d1.map ak.pd)] (.ifc 194 (.d (ak.pd r.1)),[.var (ag.rc e0++ .ref 1 1::rI e1::rI e2::rB e3::aj.rc e4),.arr 1 194 (r.2.map ak.pd)]):=by
 refine Ev.body Z Tryz.func269 Z Zk<|gU Z<|sV (.d (.raw .nilIface))<|sN<|gU Z<|sM Z<|bE h fun x1 h1 h=>WO.wO (e:=190) (c:= .ptr 0 11) (vl:= .ref 1 0) (g:=440) (args:=[]) (v:=rI x1) (u:=[ ]) Z Z (by intro _;kernel_rfl) Z Z Z Z Z Z (m7 h1) Z Z Z Z<|sV (rI (rW (x1-(1:Int))))<|sA Z<|sN<|gU Z<|mM Z<|bE h fun x2 h2 h=>?_
 refine WO.wO (e:=190) (c:= .ptr 0 11) (vl:= .ref 1 0) (g:=442) (args:=[r0,rI (rW (x1-(1:Int)))]) (v:= .tup []) (u:=[(1,.arr 0 194 (x2.map ak.pd))]) Z Z (by intro _;kernel_rfl) Z Z Z Z Z Z (mq h2) Z Z Z Z<|sN<|gU Z<|mM Z<|bE h fun x3 h3 h=>cR (rB x3.1) [(0,.var (ag.rc e0++ .ref 1 0::rI e1::rI e2::rB e3::aj.rc e4)),(1,.arr 0 194 (x3.2.map ak.pd))] (heap_down_ev h3)<|sN<|gU Z<|sM Z<|bE h fun x4 h4 h=>WO.qH (g:=443) (args:=[.ptr 0 11]) (v:= .ifc 194 (.d (ak.pd x4.1))) (u:=[(0,.var (ag.rc e0++ .ref 1 1::rI e1::rI e2::rB e3::aj.rc e4)),(1,.arr 1 194 (x4.2.map ak.pd))]) Z Z (by intro _;kernel_rfl) Z Z Z Z Z (queue_Pop_ev h4) Z Z Z Z<|sA Z<|sN<|qR ?_
 cases oI h
 exact qG
theorem dc{a0:Int}{a1:Int}{r:Int}(h:bN a0 a1=some r):EvP prog aN ext 334 [rI a0,rI a1] [] (rI r,[]):=by
 refine Ev.body Z Tryz.func334 Z Zk<|gU Z<|sV (r0)<|sN<|gU Z<|mM Z<|sM Z<|sV (rI (rW (a1-a0)))<|bE h fun x1 h1 h=>WO.um h1 Z Z Z Z Z Z<|sV (rI (rW (a0+x1)))<|sA Z<|sN<|qR ?_
 exact oI h▸qD
theorem bR{a0:aT}{r:aa}(h:bu a0=some r):EvP prog aN ext 189 [.d (aT.pd a0)] [] (.d (aa.pd r),[]):=by
 refine Ev.body Z Tryz.func189 Z Zk<|gU Z<|sB (.ptr 16 0) 16 (.var [rI a0.a0,rI a0.a1,rI a0.a2])<|sB (.ptr 32 0) 32 (.var [r0,r0,r0])<|sN<|gU Z<|sV (.ptr 16 0)<|sL Z<|sV (.ptr 16 1)<|sL Z<|sV (.ptr 16 2)<|sL Z<|sV (.d (aa.pd (aa.mk a0.a0 a0.a1 a0.a2)))<|sS 32 (.var [rI a0.a0,rI a0.a1,rI a0.a2])<|sN ?_
 refine qR ?_
 exact oI h▸qD
theorem oK{a0:ah}{r:aa}(h:eQ a0=some r):EvP prog aN ext 332 [.d (ah.pd a0)] [] (.d (aa.pd r),[]):=by
 refine Ev.body Z Tryz.func332 Z Zk<|gU Z<|sB (.ptr 16 0) 16 (.var (ah.rc a0))<|sB (.ptr 32 0) 32 (.var [r0,r0,r0])<|sN<|qS<|gU Z<|sV (.d (ah.pd a0))<|bE h fun x1 h1 h=>cD (bt h1)<|sF h ?_ ?_<;>intro h
 ·refine sN<|cT<|gU Z<|sV (.d (aa.pd (aa.mk 0 0 0)))<|sS 32 (.var [r0,r0,r0])<|sN<|qR ?_
  exact oI h▸qD
 refine sN<|cF<|qK<|WC.cI Z Z<|sV (.ptr 16 0)<|sV (.d (aa.pd a0.aI))<|bE h fun x3 h3 h=>cD (bI h3)<|sV (.ptr 16 3)<|sV (.d (aa.pd a0.aC))<|bE h fun x4 h4 h=>cD (bI h4)<|sB (.ptr 48 0) 48 (.var [r0,r0,r0])<|sB (.ptr 64 0) 64 (.var [r0,r0,r0])<|sS 48 (.var [rI x3.a0,rI x3.a1,rI x3.a2]) ?_
 refine sS 64 (.var [rI x4.a0,rI x4.a1,rI x4.a2]) ?_
 refine sN<|sO<|qS<|gU Z<|sV (r0)<|sN<|WC.block (WC.loop ?_)
 refine WL.round<|WC.p7 (R0:=[(2,.ptr 32 0),(3,.ptr 48 0),(4,.ptr 64 0),(16,r0)]) (B0:=[(32,.var [r0,r0,r0]),(48,.var [rI x3.a0,rI x3.a1,rI x3.a2]),(64,.var [rI x4.a0,rI x4.a1,rI x4.a2])]) Z Z<|sT<|sN<|qS<|cT<|qK<|qS<|qB<|gU Z<|sM Z<|sA Z<|sN<|WC.pX Z Z<|sM Z ?_
 refine sM Z<|sV (.ptr 48 0)<|sL Z<|sM Z<|sV (.ptr 64 0)<|sL Z<|bE h fun x5 h5 h=>cD (dc h5)<|sV (.ptr 48 0)<|sS 48 (.var [rI x5,rI x3.a1,rI x3.a2]) ?_
 refine sN<|sO<|WC.region Z Z<|sV (rI 1)<|sM Z<|sN<|WL.round<|WC.p7 (R0:=[(2,.ptr 32 0),(3,.ptr 48 0),(4,.ptr 64 0),(16,rI 1)]) (B0:=[(32,.var [r0,r0,r0]),(48,.var [rI x5,rI x3.a1,rI x3.a2]),(64,.var [rI x4.a0,rI x4.a1,rI x4.a2])]) Z Z<|sT<|sN<|qS<|cT<|qK<|qS<|qB<|gU Z ?_
 refine sM Z<|sA Z<|sN<|WC.pX Z Z<|mM Z<|sV (.ptr 48 1)<|sL Z<|sM Z<|sV (.ptr 64 1)<|sL Z<|bE h fun x6 h6 h=>cD (dc h6)<|sV (.ptr 48 1)<|sS 48 (.var [rI x5,rI x6,rI x3.a2]) ?_
 refine sN<|sO<|WC.region Z Z<|sV (rI 2)<|sM Z<|sN<|WL.round<|WC.p7 (R0:=[(2,.ptr 32 0),(3,.ptr 48 0),(4,.ptr 64 0),(16,rI 2)]) (B0:=[(32,.var [r0,r0,r0]),(48,.var [rI x5,rI x6,rI x3.a2]),(64,.var [rI x4.a0,rI x4.a1,rI x4.a2])]) Z Z<|sT<|sN<|qS<|cT<|qK<|qS<|qB<|gU Z ?_
 refine sM Z<|sA Z<|sN<|WC.pX Z Z<|mM Z<|sV (.ptr 48 2)<|sL Z<|sM Z<|sV (.ptr 64 2)<|sL Z<|bE h fun x7 h7 h=>cD (dc h7)<|sV (.ptr 48 2)<|sS 48 (.var [rI x5,rI x6,rI x7]) ?_
 refine sN<|sO<|WC.region Z Z<|sV (rI 3)<|sM Z<|sN<|WL.round<|WC.p7 (R0:=[(2,.ptr 32 0),(3,.ptr 48 0),(4,.ptr 64 0),(16,rI 3)]) (B0:=[(32,.var [r0,r0,r0]),(48,.var [rI x5,rI x6,rI x7]),(64,.var [rI x4.a0,rI x4.a1,rI x4.a2])]) Z Z<|sU<|sN<|qS<|cF<|qX<|qE<|gU Z<|sV (.d (aT.pd (aT.mk x5 x6 x7))) ?_
 refine bE h fun x8 h8 h=>cD (bR h8)<|sS 32 (.var (aa.rc x8))<|sN<|qR ?_
 exact oI h▸qD
theorem misfit_At_ev{a0:ag}{a1:aa}{r:Int×Int×Int}(h:gz a0 a1=some r):EvP prog aN ext 18 [.d (ag.pd a0),.d (aa.pd a1)] [] (.tup [rI r.1,rI r.2.1,rI r.2.2],[]):=by
 refine Ev.body Z Tryz.func18 Z Zk<|gU Z<|sB (.ptr 32 0) 32 (.var (ag.rc a0))<|sB (.ptr 48 0) 48 (.var (aa.rc a1))<|sV (r0)<|sV (r0)<|sV (r0)<|sN<|gU Z<|sV (.d (ag.pd a0))<|sV (.d (aa.pd a1))<|sV (.d (aa.pd a1))<|sG (.d (ah.pd (ah.mk a1 a1)))<|bE h fun x1 h1 h=>cR (.tup [rM aF.pd x1.1,rI x1.2]) [] (kS h1) ?_
 refine sM Z<|sV (rM aF.pd x1.1)<|sV (rI x1.2)<|sA Z<|sA Z<|sN<|qS<|gU Z<|sM Z<|sF h ?_ ?_<;>intro h
 ·refine sN<|cT<|gU Z<|sM Z<|sV (r0)<|sV (r0)<|sA Z<|sN<|qR ?_
  cases oI h
  exact qG
 refine sN<|cF<|qK<|gU Z<|sV (.d (ag.pd a0))<|sM Z<|bE h fun x3 h3 h=>cR (.tup [rI x3.1,rI x3.2]) [] (nR h3)<|sM Z<|sV (rI x3.1)<|sV (rI x3.2)<|sA Z<|sA Z<|sN<|gU Z ?_
 refine mM Z<|sA Z<|sA Z<|sV (r0)<|sN<|qR ?_
 cases oI h
 exact qG
theorem search_look_ev{a0:ah}{e1:ag}{e2:Int}{e3:Int}{e4:Bool}{e5:aj}{d1:(List ak)}{r:Int×Bool×aj}(h:jp a0 e1 e2 e3 e4 e5 d1=some r):EvP prog aN ext 270 [.ptr 0 0,.d (ah.pd a0)] [.var (ag.rc e1++ .ref 1 0::rI e2::rI e3::rB e4::aj.rc e5),.arr 0 194 (d1.map ak.pd)] (rI r.1,[.var (ag.rc e1++ .ref 1 0::rI e2::rI e3::rB r.2.1::aj.rc r.2.2),.arr 0 194 (d1.map ak.pd)]):=by
 refine Ev.body Z Tryz.func270 Z Zk<|gU Z<|sB (.ptr 48 0) 48 (.var (ah.rc a0))<|sV (r0)<|sN<|gU Z<|sV (.d (ah.pd a0))<|bE h fun x1 h1 h=>cD (oK h1)<|sB (.ptr 80 0) 80 (.var [r0,r0,r0])<|sS 80 (.var (aa.rc x1))<|sN<|WC.cI Z Z<|sM Z<|sV (.ptr 0 0) ?_
 refine sV (.ptr 0 0)<|sV (.d (ag.pd e1))<|sV (.d (aa.pd x1))<|bE h fun x2 h2 h=>cR (.tup [rI x2.1,rI x2.2.1,rI x2.2.2]) [] (misfit_At_ev h2)<|sM Z<|sV (rI x2.1)<|sV (rI x2.2.1)<|sV (rI x2.2.2)<|sA Z<|sA Z<|sA Z ?_
 refine sN<|sO<|qS<|gU Z<|sM Z<|sF h ?_ ?_<;>intro h
 ·refine sN<|cT<|gU Z<|sM Z<|sA Z<|sN<|qR ?_
  cases oI h
  exact qG
 refine sN<|cF<|qK<|qS<|WC.cI Z Z<|sM Z<|sV (.ptr 0 0)<|sV (.ptr 0 14)<|sL Z<|sF h ?_ ?_<;>intro h
 ·refine sM Z<|k3<|k3<|sK<|sT<|sM Z<|k3<|sK<|sK ?_
  refine k3<|k3<|k3<|k3<|sT ?_
  refine sN<|sO<|cT<|gU Z<|sM Z<|sV (.ptr 0 0)<|sV (.ptr 0 14)<|sS 0 (.var (ag.rc e1++ .ref 1 0::rI e2::rI e3::rB true::aj.rc e5))<|sN<|WC.region Z Z<|sM Z<|sV (.d (aa.pd x1))<|mM Z<|sG (.d (aj.pd (aj.mk x1 x2.1 x2.2.1 0 (ah.mk (aa.mk 0 0 0) (aa.mk 0 0 0)))))<|sV (.ptr 0 0) ?_
  refine sV (.ptr 0 15)<|sH 0 (.var (ag.rc e1++ .ref 1 0::rI e2::rI e3::rB true::aa.rc x1++[rI x2.1,rI x2.2.1,r0,r0,r0,r0,r0,r0,r0]))<|sN<|gU Z<|sV (r0)<|sN<|qR ?_
  cases oI h
  exact qG
 refine mM Z<|sM Z<|sV (.ptr 0 0)<|sV (.ptr 0 15)<|sV (.ptr 0 19)<|sL Z<|sV (rB (decide (x2.2.1<e5.bi)))<|sF h ?_ ?_<;>intro h
 ·refine sM Z<|k3<|k3<|k3<|k3<|sK<|sK ?_
  refine k3<|sT ?_
  refine sN<|sO<|cT<|gU Z<|sM Z<|sV (.ptr 0 0)<|sV (.ptr 0 14)<|sS 0 (.var (ag.rc e1++ .ref 1 0::rI e2::rI e3::rB true::aj.rc e5))<|sN<|WC.region Z Z<|sM Z<|sV (.d (aa.pd x1))<|mM Z<|sG (.d (aj.pd (aj.mk x1 x2.1 x2.2.1 0 (ah.mk (aa.mk 0 0 0) (aa.mk 0 0 0)))))<|sV (.ptr 0 0) ?_
  refine sV (.ptr 0 15)<|sH 0 (.var (ag.rc e1++ .ref 1 0::rI e2::rI e3::rB true::aa.rc x1++[rI x2.1,rI x2.2.1,r0,r0,r0,r0,r0,r0,r0]))<|sN<|gU Z<|sV (r0)<|sN<|qR ?_
  cases oI h
  exact qG
 refine mM Z<|sM Z<|sV (.ptr 0 0)<|sV (.ptr 0 15)<|sV (.ptr 0 19)<|sL Z<|sF h ?_ ?_<;>intro h
 ·refine sM Z<|sV (.d (aa.pd x1))<|sM Z<|sV (.ptr 0 0)<|sV (.ptr 0 15)<|sV (.ptr 0 15)<|sV (.d (aa.pd e5.aU))<|bE h fun x7 h7 h=>cD (kZ h7)<|sV (rB (decide (x7<(0:Int))))<|sV (rB (decide (x7<(0:Int))))<|sF h ?_ ?_<;>intro h
  ·refine sN<|sO<|cT<|gU Z<|sM Z<|sV (.ptr 0 0)<|sV (.ptr 0 14)<|sS 0 (.var (ag.rc e1++ .ref 1 0::rI e2::rI e3::rB true::aj.rc e5))<|sN<|WC.region Z Z<|sM Z<|sV (.d (aa.pd x1))<|mM Z<|sG (.d (aj.pd (aj.mk x1 x2.1 x2.2.1 0 (ah.mk (aa.mk 0 0 0) (aa.mk 0 0 0)))))<|sV (.ptr 0 0) ?_
   refine sV (.ptr 0 15)<|sH 0 (.var (ag.rc e1++ .ref 1 0::rI e2::rI e3::rB true::aa.rc x1++[rI x2.1,rI x2.2.1,r0,r0,r0,r0,r0,r0,r0]))<|sN<|gU Z<|sV (r0)<|sN<|qR ?_
   cases oI h
   exact qG
  refine sN<|sO<|cF<|qK<|gU Z<|sV (r0)<|sN<|qR ?_
  cases oI h
  exact qG
 refine sM Z<|k3<|k3<|sK<|sK<|sU<|sU ?_
 refine sN<|sO<|cF<|qK<|gU Z<|sV (r0)<|sN<|qR ?_
 cases oI h
 exact qG
theorem oL{a0:ah}{r:Int}(h:iT a0=some r):EvP prog aN ext 333 [.d (ah.pd a0)] [] (rI r,[]):=by
 refine Ev.body Z Tryz.func333 Z Zk<|gU Z<|sB (.ptr 16 0) 16 (.var (ah.rc a0))<|sV (r0)<|sN<|qS<|gU Z<|sV (.d (ah.pd a0))<|bE h fun x1 h1 h=>cD (bt h1)<|sF h ?_ ?_<;>intro h
 ·refine sN<|cT<|gU Z<|sV (r0)<|sN<|qR ?_
  exact oI h▸qD
 refine sN<|cF<|qK<|gU Z<|sV (.ptr 16 3)<|sV (.d (aa.pd a0.aC))<|bE h fun x3 h3 h=>cD (bI h3)<|sB (.ptr 64 0) 64 (.var [r0,r0,r0])<|sV (rI 1)<|sS 64 (.var [rI x3.a0,rI x3.a1,rI x3.a2])<|sN<|qS<|gU Z<|sV (.ptr 16 0) ?_
 refine sV (.d (aa.pd a0.aI))<|bE h fun x4 h4 h=>cD (bI h4)<|sV (r0)<|sN<|WC.block (WC.loop ?_)
 refine WL.round<|gU Z<|sT<|sN<|qS<|cT<|qK<|qS<|qB<|gU Z<|sM Z<|sV (rI x4.a0)<|sA Z<|sA Z<|sN ?_
 refine WC.region Z Z<|mM Z<|sV (.ptr 64 0)<|sL Z<|sM Z<|sV (rI (rW (x3.a0-x4.a0)))<|sV (rI (rW ((rW (x3.a0-x4.a0))+(1:Int))))<|sV (rI (rW ((1:Int)*(rW ((rW (x3.a0-x4.a0))+(1:Int))))))<|sA Z<|sN<|WC.region Z Z<|sV (rI 1)<|sM Z<|sN ?_
 refine WL.round<|gU Z<|sT<|sN<|qS<|cT<|qK<|qS<|qB<|gU Z<|sM Z<|sV (rI x4.a1)<|sA Z<|sA Z<|sN ?_
 refine WC.region Z Z<|mM Z<|sV (.ptr 64 1)<|sL Z<|sM Z<|sV (rI (rW (x3.a1-x4.a1)))<|sV (rI (rW ((rW (x3.a1-x4.a1))+(1:Int))))<|sV (rI (rW ((rW ((1:Int)*(rW ((rW (x3.a0-x4.a0))+(1:Int)))))*(rW ((rW (x3.a1-x4.a1))+(1:Int))))))<|sA Z<|sN<|WC.region Z Z<|sV (rI 2)<|sM Z<|sN ?_
 refine WL.round<|gU Z<|sT<|sN<|qS<|cT<|qK<|qS<|qB<|gU Z<|sM Z<|sV (rI x4.a2)<|sA Z<|sA Z<|sN ?_
 refine WC.region Z Z<|mM Z<|sV (.ptr 64 2)<|sL Z<|sM Z<|sV (rI (rW (x3.a2-x4.a2)))<|sV (rI (rW ((rW (x3.a2-x4.a2))+(1:Int))))<|sV (rI (rW ((rW ((rW ((1:Int)*(rW ((rW (x3.a0-x4.a0))+(1:Int)))))*(rW ((rW (x3.a1-x4.a1))+(1:Int)))))*(rW ((rW (x3.a2-x4.a2))+(1:Int))))))<|sA Z<|sN<|WC.region Z Z<|sV (rI 3)<|sM Z<|sN ?_
 refine WL.round<|gU Z<|sU<|sN<|qS<|cF<|qX<|qE<|gU Z<|sM Z<|sA Z<|sN<|qR ?_
 exact oI h▸qD
theorem pj{a0:ah}{r:ah×ah×Bool}(h:eD a0=some r):EvP prog aN ext 271 [.d (ah.pd a0)] [] (.tup [.d (ah.pd r.1),.d (ah.pd r.2.1),rB r.2.2],[]):=by
 refine Ev.body Z Tryz.func271 Z Zk<|gU Z<|sB (.ptr 16 0) 16 (.var (ah.rc a0))<|sB (.ptr 32 0) 32 (.var zZ4)<|sB (.ptr 48 0) 48 (.var zZ4)<|sU<|sN<|qS<|gU Z<|sV (.d (ah.pd a0))<|bE h fun x1 h1 h=>cD (oL h1)<|sF h ?_ ?_<;>intro h
 ·refine sN<|cT<|gU Z<|sG (.d (ah.pd (ah.mk (aa.mk 0 0 0) (aa.mk 0 0 0))))<|sG (.d (ah.pd (ah.mk (aa.mk 0 0 0) (aa.mk 0 0 0))))<|sH 32 (.var zZ4)<|sH 48 (.var zZ4)<|sU<|sN<|qR ?_
  cases oI h
  exact qG
 refine sN<|cF<|qK<|WC.cI Z Z<|sV (.ptr 16 0)<|sV (.d (aa.pd a0.aI))<|bE h fun x3 h3 h=>cD (bI h3)<|sV (.ptr 16 3)<|sV (.d (aa.pd a0.aC))<|bE h fun x4 h4 h=>cD (bI h4)<|sB (.ptr 80 0) 80 (.var [r0,r0,r0])<|sB (.ptr 96 0) 96 (.var [r0,r0,r0])<|sS 80 (.var [rI x3.a0,rI x3.a1,rI x3.a2]) ?_
 refine sS 96 (.var [rI x4.a0,rI x4.a1,rI x4.a2]) ?_
 refine sN<|sO<|gU Z<|sV (r0)<|sN<|qS<|gU Z<|sV (r0)<|sN<|WC.block (WC.loop ?_)
 refine WL.round<|gU Z<|sT<|sN<|qS<|cT<|qK<|qS<|qB<|gU Z<|sM Z<|sA Z<|sN<|WC.cI Z Z<|sM Z ?_
 refine sV (.ptr 96 0)<|sL Z<|sM Z<|sV (.ptr 80 0)<|sL Z<|sV (rI (rW (x4.a0-x3.a0)))<|sM Z<|sV (.ptr 96 0)<|sL Z<|sM Z<|sV (.ptr 80 0)<|sL Z<|sV (rI (rW (x4.a0-x3.a0)))<|WO.s0 (v':=rB false) Z Z (fun _=>Z) (congrArg (fun b=>RV.d (.bool b)) (decide_eq_false (Int.lt_irrefl _))) ?_
 refine sN<|sO<|cF<|qK<|WC.region Z Z<|sV (rI 1)<|sM Z<|sN<|WL.round<|gU Z<|sT<|sN<|qS<|cT<|qK<|qS ?_
 refine qB<|gU Z<|sM Z<|sA Z<|sN<|WC.cI Z Z<|sM Z<|sV (.ptr 96 1)<|sL Z<|sM Z<|sV (.ptr 80 1)<|sL Z<|sV (rI (rW (x4.a1-x3.a1)))<|sM Z<|sV (.ptr 96 0) ?_
 refine sL Z<|sM Z<|sV (.ptr 80 0)<|sL Z<|sV (rI (rW (x4.a0-x3.a0)))<|sF h ?_ ?_<;>intro h
 ·refine sN<|sO<|cT<|WC.region Z Z<|sM Z<|sA Z<|sN<|WC.region Z Z<|sV (rI 2)<|sM Z<|sN<|WL.round<|gU Z<|sT<|sN<|qS ?_
  refine cT<|qK<|qS<|qB<|gU Z<|sM Z<|sA Z<|sN<|WC.cI Z Z<|sM Z<|sV (.ptr 96 2)<|sL Z<|sM Z<|sV (.ptr 80 2)<|sL Z ?_
  refine sV (rI (rW (x4.a2-x3.a2)))<|sM Z<|sV (.ptr 96 1)<|sL Z<|sM Z<|sV (.ptr 80 1)<|sL Z<|sV (rI (rW (x4.a1-x3.a1)))<|sF h ?_ ?_<;>intro h
  ·refine sN<|sO<|cT<|WC.region Z Z<|sM Z<|sA Z<|sN<|WC.region Z Z<|sV (rI 3)<|sM Z<|sN<|WL.round<|gU Z<|sU<|sN<|qS ?_
   refine cF<|qX<|qE<|WC.cI Z Z<|sV (.d (aT.pd x4))<|sV (.d (aT.pd x3))<|sB (.ptr 144 0) 144 (.var [r0,r0,r0])<|sB (.ptr 160 0) 160 (.var [r0,r0,r0])<|sS 144 (.var [rI x4.a0,rI x4.a1,rI x4.a2])<|sS 160 (.var [rI x3.a0,rI x3.a1,rI x3.a2]) ?_
   refine sN<|sO<|WC.cI Z Z<|mM Z<|sV (.ptr 80 2)<|sL Z<|sM Z<|sV (.ptr 96 2)<|sL Z<|bE h fun x7 h7 h=>cD (dc h7)<|sV (.ptr 144 2)<|sS 144 (.var [rI x4.a0,rI x4.a1,rI x7]) ?_
   refine sN<|sO<|gU Z<|mM Z<|sV (.ptr 144 2)<|sL Z<|sV (rI (rW (x7+(1:Int))))<|sV (.ptr 160 2)<|sS 160 (.var [rI x3.a0,rI x3.a1,rI (rW (x7+(1:Int)))])<|sN<|WC.cI Z Z<|sV (.ptr 16 0)<|sV (.d (aa.pd a0.aI))<|sV (.d (aT.pd (aT.mk x4.a0 x4.a1 x7)))<|bE h fun x8 h8 h=>?_
   refine cD (bR h8)<|sG (.d (ah.pd (ah.mk a0.aI x8)))<|sV (.d (aT.pd (aT.mk x3.a0 x3.a1 (rW (x7+(1:Int))))))<|bE h fun x9 h9 h=>cD (bR h9)<|sV (.ptr 16 3)<|sV (.d (aa.pd a0.aC))<|sG (.d (ah.pd (ah.mk x9 a0.aC)))<|sH 32 (.var (aa.rc a0.aI++aa.rc x8))<|sH 48 (.var (aa.rc x9++aa.rc a0.aC))<|sT ?_
   refine sN<|sO<|qR ?_
   cases oI h
   exact qG
  refine sN<|sO<|cF<|qK<|WC.region Z Z<|sV (rI 3)<|sM Z<|sN<|WL.round<|gU Z<|sU<|sN<|qS<|cF<|qX<|qE ?_
  refine WC.cI Z Z<|sV (.d (aT.pd x4))<|sV (.d (aT.pd x3))<|sB (.ptr 144 0) 144 (.var [r0,r0,r0])<|sB (.ptr 160 0) 160 (.var [r0,r0,r0])<|sS 144 (.var [rI x4.a0,rI x4.a1,rI x4.a2])<|sS 160 (.var [rI x3.a0,rI x3.a1,rI x3.a2]) ?_
  refine sN<|sO<|WC.cI Z Z<|mM Z<|sV (.ptr 80 1)<|sL Z<|sM Z<|sV (.ptr 96 1)<|sL Z<|bE h fun x10 h10 h=>cD (dc h10)<|sV (.ptr 144 1)<|sS 144 (.var [rI x4.a0,rI x10,rI x4.a2]) ?_
  refine sN<|sO<|gU Z<|mM Z<|sV (.ptr 144 1)<|sL Z<|sV (rI (rW (x10+(1:Int))))<|sV (.ptr 160 1)<|sS 160 (.var [rI x3.a0,rI (rW (x10+(1:Int))),rI x3.a2])<|sN<|WC.cI Z Z<|sV (.ptr 16 0)<|sV (.d (aa.pd a0.aI))<|sV (.d (aT.pd (aT.mk x4.a0 x10 x4.a2)))<|bE h fun x11 h11 h=>?_
  refine cD (bR h11)<|sG (.d (ah.pd (ah.mk a0.aI x11)))<|sV (.d (aT.pd (aT.mk x3.a0 (rW (x10+(1:Int))) x3.a2)))<|bE h fun x12 h12 h=>cD (bR h12)<|sV (.ptr 16 3)<|sV (.d (aa.pd a0.aC))<|sG (.d (ah.pd (ah.mk x12 a0.aC)))<|sH 32 (.var (aa.rc a0.aI++aa.rc x11))<|sH 48 (.var (aa.rc x12++aa.rc a0.aC))<|sT ?_
  refine sN<|sO<|qR ?_
  cases oI h
  exact qG
 refine sN<|sO<|cF<|qK<|WC.region Z Z<|sV (rI 2)<|sM Z<|sN<|WL.round<|gU Z<|sT<|sN<|qS<|cT<|qK<|qS ?_
 refine qB<|gU Z<|sM Z<|sA Z<|sN<|WC.cI Z Z<|sM Z<|sV (.ptr 96 2)<|sL Z<|sM Z<|sV (.ptr 80 2)<|sL Z<|sV (rI (rW (x4.a2-x3.a2)))<|sM Z<|sV (.ptr 96 0) ?_
 refine sL Z<|sM Z<|sV (.ptr 80 0)<|sL Z<|sV (rI (rW (x4.a0-x3.a0)))<|sF h ?_ ?_<;>intro h
 ·refine sN<|sO<|cT<|WC.region Z Z<|sM Z<|sA Z<|sN<|WC.region Z Z<|sV (rI 3)<|sM Z<|sN<|WL.round<|gU Z<|sU<|sN<|qS ?_
  refine cF<|qX<|qE<|WC.cI Z Z<|sV (.d (aT.pd x4))<|sV (.d (aT.pd x3))<|sB (.ptr 144 0) 144 (.var [r0,r0,r0])<|sB (.ptr 160 0) 160 (.var [r0,r0,r0])<|sS 144 (.var [rI x4.a0,rI x4.a1,rI x4.a2])<|sS 160 (.var [rI x3.a0,rI x3.a1,rI x3.a2]) ?_
  refine sN<|sO<|WC.cI Z Z<|mM Z<|sV (.ptr 80 2)<|sL Z<|sM Z<|sV (.ptr 96 2)<|sL Z<|bE h fun x14 h14 h=>cD (dc h14)<|sV (.ptr 144 2)<|sS 144 (.var [rI x4.a0,rI x4.a1,rI x14]) ?_
  refine sN<|sO<|gU Z<|mM Z<|sV (.ptr 144 2)<|sL Z<|sV (rI (rW (x14+(1:Int))))<|sV (.ptr 160 2)<|sS 160 (.var [rI x3.a0,rI x3.a1,rI (rW (x14+(1:Int)))])<|sN<|WC.cI Z Z<|sV (.ptr 16 0)<|sV (.d (aa.pd a0.aI))<|sV (.d (aT.pd (aT.mk x4.a0 x4.a1 x14)))<|bE h fun x15 h15 h=>?_
  refine cD (bR h15)<|sG (.d (ah.pd (ah.mk a0.aI x15)))<|sV (.d (aT.pd (aT.mk x3.a0 x3.a1 (rW (x14+(1:Int))))))<|bE h fun x16 h16 h=>cD (bR h16)<|sV (.ptr 16 3)<|sV (.d (aa.pd a0.aC))<|sG (.d (ah.pd (ah.mk x16 a0.aC)))<|sH 32 (.var (aa.rc a0.aI++aa.rc x15))<|sH 48 (.var (aa.rc x16++aa.rc a0.aC))<|sT ?_
  refine sN<|sO<|qR ?_
  cases oI h
  exact qG
 refine sN<|sO<|cF<|qK<|WC.region Z Z<|sV (rI 3)<|sM Z<|sN<|WL.round<|gU Z<|sU<|sN<|qS<|cF<|qX<|qE ?_
 refine WC.cI Z Z<|sV (.d (aT.pd x4))<|sV (.d (aT.pd x3))<|sB (.ptr 144 0) 144 (.var [r0,r0,r0])<|sB (.ptr 160 0) 160 (.var [r0,r0,r0])<|sS 144 (.var [rI x4.a0,rI x4.a1,rI x4.a2])<|sS 160 (.var [rI x3.a0,rI x3.a1,rI x3.a2]) ?_
 refine sN<|sO<|WC.cI Z Z<|mM Z<|sV (.ptr 80 0)<|sL Z<|sM Z<|sV (.ptr 96 0)<|sL Z<|bE h fun x17 h17 h=>cD (dc h17)<|sV (.ptr 144 0)<|sS 144 (.var [rI x17,rI x4.a1,rI x4.a2]) ?_
 refine sN<|sO<|gU Z<|mM Z<|sV (.ptr 144 0)<|sL Z<|sV (rI (rW (x17+(1:Int))))<|sV (.ptr 160 0)<|sS 160 (.var [rI (rW (x17+(1:Int))),rI x3.a1,rI x3.a2])<|sN<|WC.cI Z Z<|sV (.ptr 16 0)<|sV (.d (aa.pd a0.aI))<|sV (.d (aT.pd (aT.mk x17 x4.a1 x4.a2)))<|bE h fun x18 h18 h=>?_
 refine cD (bR h18)<|sG (.d (ah.pd (ah.mk a0.aI x18)))<|sV (.d (aT.pd (aT.mk (rW (x17+(1:Int))) x3.a1 x3.a2)))<|bE h fun x19 h19 h=>cD (bR h19)<|sV (.ptr 16 3)<|sV (.d (aa.pd a0.aC))<|sG (.d (ah.pd (ah.mk x19 a0.aC)))<|sH 32 (.var (aa.rc a0.aI++aa.rc x18))<|sH 48 (.var (aa.rc x19++aa.rc a0.aC))<|sT ?_
 refine sN<|sO<|qR ?_
 cases oI h
 exact qG
theorem queue_Pushq_ev{a0:ak}{e1:ag}{e2:Int}{e3:Int}{e4:Bool}{e5:aj}{d1:(List ak)}{r:(List ak)}(h:l8 a0 e1 e2 e3 e4 e5 d1=some r):EvP prog aN ext 444 [.ptr 0 11,.ifc 194 (.d (ak.pd a0))] [.var (ag.rc e1++ .ref 1 0::rI e2::rI e3::rB e4::aj.rc e5),.arr 0 194 (d1.map ak.pd)] (.tup [],[.var (ag.rc e1++ .ref 1 1::rI e2::rI e3::rB e4::aj.rc e5),.arr 1 194 (r.map ak.pd)]):=by
 refine Ev.body Z Tryz.func444 Z Zk<|gU Z<|sM Z<|sG (.tup [.d (ak.pd a0),rB true])<|sM Z<|sV (.d (ak.pd a0))<|sT<|sB (.ptr 64 0) 64 (.var [r0,r0,r0,r0,r0,r0,r0,r0])<|sH 64 (.var (ak.rc a0))<|sA Z<|sN<|gU Z<|sM Z<|sN<|cT ?_
 refine WC.pX Z Z<|mM Z<|sV (.ptr 0 11)<|sL Z<|sV (.d (ak.pd a0))<|sG (.d (.lst ([a0].map ak.pd)))<|bE h fun x1 h1 h=>aR h1 (fun _=>Z) Z<|sV (.ptr 0 11)<|sS 0 (.var (ag.rc e1++ .ref 1 1::rI e2::rI e3::rB e4::aj.rc e5)) ?_
 refine sN<|sO ?_
 cases oI h
 exact qG
theorem heap_Pushq_ev{a0:ak}{e1:ag}{e2:Int}{e3:Int}{e4:Bool}{e5:aj}{d1:(List ak)}{r:(List ak)}(h:kc a0 e1 e2 e3 e4 e5 d1=some r):EvP prog aN ext 268 [.ifc 309 (.ptr 0 11),.ifc 194 (.d (ak.pd a0))] [.var (ag.rc e1++ .ref 1 0::rI e2::rI e3::rB e4::aj.rc e5),.arr 0 194 (d1.map ak.pd)] (.tup [],[.var (ag.rc e1++ .ref 1 1::rI e2::rI e3::rB e4::aj.rc e5),.arr 1 194 (r.map ak.pd)]):=by
 refine Ev.body Z Tryz.func268 Z Zk<|gU Z<|mM Z<|bE h fun x1 h1 h=>WO.qH (g:=444) (args:=[.ptr 0 11,.ifc 194 (.d (ak.pd a0))]) (v:= .tup []) (u:=[(0,.var (ag.rc e1++ .ref 1 1::rI e2::rI e3::rB e4::aj.rc e5)),(1,.arr 1 194 (x1.map ak.pd))]) Z Z (by intro _;kernel_rfl) Z Z Z Z Z (queue_Pushq_ev h1) Z Z Z Z<|sN<|WC.region Z Z<|mM Z<|bE h fun x2 h2 h=>WO.wO (e:=190) (c:= .ptr 0 11) (vl:= .ref 1 1) (g:=440) (args:=[]) (v:=rI x2) (u:=[ ]) Z Z (by intro _;kernel_rfl) Z Z Z Z Z Z (m7 h2) Z Z Z Z<|sV (rI (rW (x2-(1:Int))))<|bE h fun x3 h3 h=>cR (.tup []) [(0,.var (ag.rc e1++ .ref 1 1::rI e2::rI e3::rB e4::aj.rc e5)),(1,.arr 1 194 (x3.map ak.pd))] (heap_up_ev h3) ?_
 refine sN ?_
 cases oI h
 exact qG
theorem n4{a0:ah}{e1:ag}{e2:Int}{e3:Int}{e4:Bool}{e5:aj}{d1:(List ak)}{r:Int×Int×(List ak)}(h:hX a0 e1 e2 e3 e4 e5 d1=some r):EvP prog aN ext 184 [.ptr 0 0,.d (ah.pd a0)] [.var (ag.rc e1++ .ref 1 0::rI e2::rI e3::rB e4::aj.rc e5),.arr 0 194 (d1.map ak.pd)] (rI r.1,[.var (ag.rc e1++ .ref 1 1::rI r.2.1::rI e3::rB e4::aj.rc e5),.arr 1 194 (r.2.2.map ak.pd)]):=by
 refine Ev.body Z Tryz.func184 Z Zk<|gU Z<|sB (.ptr 48 0) 48 (.var (ah.rc a0))<|sV (r0)<|sN<|WC.cI Z Z<|sM Z<|sV (.ptr 0 0)<|sV (.ptr 0 0)<|sV (.d (ag.pd e1))<|sV (.d (ah.pd a0))<|bE h fun x1 h1 h=>cR (.tup [rI x1.1,rI x1.2]) [] (nq h1)<|sM Z<|sV (rI x1.1) ?_
 refine sV (rI x1.2)<|sA Z<|sA Z ?_
 refine sN<|sO<|WC.join (α:=Int×(List ak)) (fun x R' B'=>qb prog 2 (A R' B') (aN.at_ 184 2 5)=some (A [(6,rI x1.2)] [(0,.var (ag.rc e1++ .ref 1 1::rI x.1::rI e3::rB e4::aj.rc e5)),(1,.arr 1 194 (x.2.map ak.pd))])) (fun x=>hY x1 x.1 x.2=some r) ?_ ?_
 ·refine gU Z<|sM Z<|sF h ?_ ?_<;>intro h
  ·refine sN<|cT<|WC.cI Z Z<|sM Z<|sV (.ptr 0 0)<|sV (.ptr 0 11)<|sG (.ifc 309 (.ptr 0 11))<|sV (.d (ah.pd a0))<|mM Z<|sV (.ptr 0 0)<|sV (.ptr 0 12)<|sL Z<|sG (.d (ak.pd (ak.mk a0 x1.1 e2)))<|sG (.ifc 194 (.d (ak.pd (ak.mk a0 x1.1 e2)))) ?_
   refine bE h fun x6 h6 h=>cR (.tup []) [(0,.var (ag.rc e1++ .ref 1 1::rI e2::rI e3::rB e4::aj.rc e5)),(1,.arr 1 194 (x6.map ak.pd))] (heap_Pushq_ev h6) ?_
   exact sN<|sO<|WC.region rfl rfl<|sM rfl<|sV (.ptr 0 0)<|sV (.ptr 0 12)<|sL rfl<|sV (rI (rW (e2+(1:Int))))<|sV (.ptr 0 0)<|sV (.ptr 0 12)<|sS 0 (.var (ag.rc e1++ .ref 1 1::rI (rW (e2+(1:Int)))::rI e3::rB e4::aj.rc e5))<|sN<|⟨((rW (e2+(1:Int))),x6),rfl,h⟩
  exact sN<|cF<|qK<|⟨(e2,d1),rfl,h⟩
 rintro⟨j2,j3⟩ R' B' hI h
 refine gS Z hI<|sM Z<|sA Z<|sN<|qR ?_
 cases oI h
 exact qG
theorem search_step_ev{e0:ag}{e1:Int}{e2:Int}{e3:Bool}{e4:aj}{d1:(List ak)}{r:Int×Int×Int×Bool×aj×(List ak)}(h:jq e0 e1 e2 e3 e4 d1=some r):EvP prog aN ext 186 [.ptr 0 0] [.var (ag.rc e0++ .ref 1 0::rI e1::rI e2::rB e3::aj.rc e4),.arr 0 194 (d1.map ak.pd)] (rI r.1,[.var (ag.rc e0++ .ref 1 1::rI r.2.1::rI r.2.2.1::rB r.2.2.2.1::aj.rc r.2.2.2.2.1),.arr 1 194 (r.2.2.2.2.2.map ak.pd)]):=by
 refine Ev.body Z Tryz.func186 Z Zk<|gU Z<|sV (r0)<|sN<|qS<|gU Z<|sM Z<|sV (.ptr 0 0)<|sV (.ptr 0 13)<|sL Z<|sF h ?_ ?_<;>intro h
 ·refine sN<|cT<|WC.p7 (R0:=[]) (B0:=[(0,.var (ag.rc e0++ .ref 1 1::rI e1::rI e2::rB e3::aj.rc e4)),(1,.arr 1 194 (d1.map ak.pd))]) Z Z<|sV (rI 25)<|sN<|qR ?_
  cases oI h
  exact qG
 refine sN<|cF<|qK<|gU Z<|sM Z<|sV (.ptr 0 0)<|sV (.ptr 0 11)<|sL Z<|bE h fun x3 h3 h=>WO.qk h3 Z Z Z Z Z Z Z Z<|sV (.elt 1 0 ((0:Int)).toNat 0)<|bE h fun x4 h4 h=>WO.qj h4 Z Z Z Z Z Z<|sB (.ptr 48 0) 48 (.var zZ4)<|sH 48 (.var (ah.rc x4.jd)) ?_
 refine sN<|gU Z<|sM Z<|sV (.ptr 0 0)<|sV (.ptr 0 11)<|sG (.ifc 309 (.ptr 0 11))<|bE h fun x5 h5 h=>cR (.ifc 194 (.d (ak.pd x5.1))) [(0,.var (ag.rc e0++ .ref 1 1::rI e1::rI e2::rB e3::aj.rc e4)),(1,.arr 1 194 (x5.2.map ak.pd))] (heap_Pop_ev h5)<|sN<|gU Z<|sM Z<|sV (.ptr 0 0)<|sV (.ptr 0 13)<|sL Z<|sV (rI (rW (e2+(1:Int)))) ?_
 refine sV (.ptr 0 0)<|sV (.ptr 0 13)<|sS 0 (.var (ag.rc e0++ .ref 1 1::rI e1::rI (rW (e2+(1:Int)))::rB e3::aj.rc e4))<|sN<|qS<|gU Z<|sM Z<|sV (.d (ah.pd x4.jd))<|bE h fun x6 h6 h=>cR (rI x6.1) [(0,.var (ag.rc e0++ .ref 1 1::rI e1::rI (rW (e2+(1:Int)))::rB x6.2.1::aj.rc x6.2.2)),(1,.arr 1 194 (x5.2.map ak.pd))] (search_look_ev h6)<|sA Z<|sN<|gU Z<|sM Z<|sF h ?_ ?_<;>intro h
 ·refine sN<|cT<|gU Z<|sM Z<|sA Z<|sN<|qR ?_
  cases oI h
  exact qG
 refine sN<|cF<|qK<|gU Z<|sV (.d (ah.pd x4.jd))<|bE h fun x8 h8 h=>cR (.tup [.d (ah.pd x8.1),.d (ah.pd x8.2.1),rB x8.2.2]) [] (pj h8)<|sM Z<|sV (.d (ah.pd x8.1))<|sV (.d (ah.pd x8.2.1))<|sV (rB x8.2.2)<|sB (.ptr 80 0) 80 (.var zZ4)<|sB (.ptr 96 0) 96 (.var zZ4)<|sH 80 (.var (ah.rc x8.1))<|sH 96 (.var (ah.rc x8.2.1)) ?_
 refine sA Z<|sN<|qS<|gU Z<|sM Z<|sF h ?_ ?_<;>intro h
 ·refine sN<|cT<|gU Z<|sV (r0)<|sN<|qR ?_
  cases oI h
  exact qG
 refine sN<|cF<|qK<|qS<|gU Z<|sM Z<|sV (.d (ah.pd x8.1))<|bE h fun x10 h10 h=>cR (rI x10.1) [(0,.var (ag.rc e0++ .ref 1 2::rI x10.2.1::rI (rW (e2+(1:Int)))::rB x6.2.1::aj.rc x6.2.2)),(1,.arr 2 194 (x10.2.2.map ak.pd))] (n4 h10)<|sA Z<|sN<|gU Z<|sM Z<|sF h ?_ ?_<;>intro h
 ·refine sN<|cT<|gU Z<|sM Z<|sA Z<|sN<|qR ?_
  cases oI h
  exact qG
 refine sN<|cF<|qK<|gU Z<|sM Z<|sV (.d (ah.pd x8.2.1))<|bE h fun x12 h12 h=>cR (rI x12.1) [(0,.var (ag.rc e0++ .ref 1 3::rI x12.2.1::rI (rW (e2+(1:Int)))::rB x6.2.1::aj.rc x6.2.2)),(1,.arr 3 194 (x12.2.2.map ak.pd))] (n4 h12)<|sA Z<|sN<|qR ?_
 cases oI h
 exact qG
end Go.Dw.Ed
