
import Derived.Test.YtmmgjlgoggielaaGreatEmEvA

set_option maxRecDepth 100000
set_option maxHeartbeats 4000000
namespace Go.Dw.Em
open Go.Proofs Go.Proofs.Tryz Go.Dw
theorem k8{a0:aG}{a1:(List aj)}{r:Int}(h:dt a0 a1=some r):EvP prog az ext 118 [.d (aG.pd a0),rM aj.pd a1] [] (rI r,[]):=by
 refine Ev.body Z Tryz.func118 Z Zk<|gU Z<|sB (.ptr 32 0) 32 (.var (aG.rc a0))<|sV (r0)<|sN<|qS<|gU Z<|sV (.ptr 32 0)<|sV (.d (ag.pd a0.aM))<|bE h fun x1 h1 h=>cD (bF h1)<|sF h ?_ ?_<;>intro h
 ·refine sM Z<|k3<|sK<|sT<|sM Z<|k3<|sK<|sT<|sM Z<|sK<|sK ?_
  refine sK<|sK<|sT<|sM Z<|k3<|sK<|sT<|sM Z<|k3<|sK<|sT ?_
  refine sM Z<|k3<|sK<|sT<|sN<|cT<|gU Z<|sV (rI 27)<|sN<|qR ?_
  cases oI h
  exact qG
 refine sM Z<|sV (.ptr 32 6)<|sV (.d (aA.pd a0.aW))<|bE h fun x3 h3 h=>cD (dZ h3)<|sV (rB (x3 != (0:Int)))<|sF h ?_ ?_<;>intro h
 ·refine sM Z<|k3<|sK<|sT<|sM Z<|k3<|sK<|sT<|sM Z<|sK<|sK ?_
  refine sK<|sK<|sT<|sM Z<|k3<|sK<|sT<|sM Z<|k3<|sK<|sT ?_
  refine sN<|cT<|gU Z<|sV (rI 27)<|sN<|qR ?_
  cases oI h
  exact qG
 refine sM Z<|sV (.ptr 32 9)<|sL Z<|bE h fun x5 h5 h=>cD (gT h5)<|sV (rB (!x5))<|sF h ?_ ?_<;>intro h
 ·refine sM Z<|k3<|sK<|sT<|sM Z<|k3<|sK<|sT<|sM Z<|sK<|sK ?_
  refine sK<|sK<|sT<|sM Z<|k3<|sK<|sT<|sN<|cT<|gU Z<|sV (rI 27)<|sN<|qR ?_
  cases oI h
  exact qG
 refine sM Z<|sV (.ptr 32 10)<|sL Z<|bE h fun x7 h7 h=>cD (gT h7)<|sV (rB (!x7))<|sF h ?_ ?_<;>intro h
 ·refine sM Z<|k3<|sK<|sT<|sM Z<|k3<|sK<|sT<|sM Z<|sK<|sK ?_
  refine sK<|sK<|sT<|sN<|cT<|gU Z<|sV (rI 27)<|sN<|qR ?_
  cases oI h
  exact qG
 refine sM Z<|sV (.ptr 32 12)<|sL Z<|bE h fun x9 h9 h=>cD (gT h9)<|sV (rB (!x9))<|sF h ?_ ?_<;>intro h
 ·refine sM Z<|k3<|sK<|sT<|sM Z<|k3<|sK<|sT<|sN<|cT<|gU Z ?_
  refine sV (rI 27)<|sN<|qR ?_
  cases oI h
  exact qG
 refine sM Z<|sV (.ptr 32 11)<|sL Z<|bE h fun x11 h11 h=>cD (gT h11)<|sV (rB (!x11))<|sF h ?_ ?_<;>intro h
 ·refine sM Z<|k3<|sK<|sT<|sN<|cT<|gU Z<|sV (rI 27)<|sN<|qR ?_
  cases oI h
  exact qG
 refine sM Z<|sV (.ptr 32 13)<|sL Z<|bE h fun x13 h13 h=>cD (gT h13)<|sV (rB (!x13))<|sF h ?_ ?_<;>intro h
 ·refine sN<|cT<|gU Z<|sV (rI 27)<|sN<|qR ?_
  cases oI h
  exact qG
 refine sN<|cF<|qK<|qS<|gU Z<|sM Z<|sE (rI (a1.length:Int)) (dX _ _)<|sF h ?_ ?_<;>intro h
 ·refine sN<|cT<|gU Z<|sV (rI 8)<|sN<|qR ?_
  cases oI h
  exact qG
 refine sN<|cF<|qK<|qS<|gU Z<|sM Z<|sE (rI (a1.length:Int)) (dX _ _)<|sV (r0)<|sN<|bE h fun o23 ho23 h=>WC.block (WC.loop (WL.fV ho23 (fun s R' B'=>dN prog 0 (A R' B') (az.at_ 118 0 6)=some (A [(2,.ptr 32 0),(52,rM aj.pd a1),(53,rI (a1.length:Int)),(54,rI s)] [(32,.var (aG.rc a0))])) (fun o e R' B'=>match o with| .inl y=>e= .exit 0∧dN prog 0 (A R' B') (az.at_ 118 0 12)=some (A [] [])| .inr r=>e= .ret∧finish prog (az.own 118) Tryz.f118 0 (A R' B')=some (rI r,[])) Z ?_ ?_))
 ·rintro s16 R' B' q17 hI h
  refine gS Z hI<|sF h ?_ ?_<;>intro h
  ·refine sN<|qS<|cT<|qK<|qS<|qB<|gU Z<|bE h fun x19 h19 h=>eG h19 Z<|sV (.d (aj.pd x19))<|sB (.ptr 96 0) 96 (.var zZ4)<|sH 96 (.var (aj.rc x19))<|sN<|gU Z<|sV (.ptr 32 6) ?_
   refine sV (.d (aA.pd a0.aW))<|sV (.ptr 32 0)<|sV (.d (ag.pd a0.aM))<|sV (.d (aj.pd x19))<|bE h fun x20 h20 h=>cR (.tup [.d (aK.pd x20.1),rI x20.2]) [] (lG h20)<|sM Z<|sV (.d (aK.pd x20.1))<|sV (rI x20.2)<|sB (.ptr 112 0) 112 (.var [r0,r0])<|sS 112 (.var [rI x20.1.bj,rI x20.1.fTo])<|sA Z<|sN<|gU Z<|sM Z ?_
   refine sF h ?_ ?_<;>intro h
   ·refine sN<|cT<|gU Z<|sM Z<|sA Z<|sN<|qR ?_
    cases oI h
    exact⟨nofun,rfl,rfl⟩
   refine sN<|cF<|qK<|WC.region Z Z<|sV (rI (rW (s16+(1:Int))))<|sM Z<|sN ?_
   cases oI h
   exact⟨rfl,rfl⟩
  refine sN<|qS<|cF<|qX ?_
  cases oI h
  exact⟨nofun,rfl,rfl⟩
 intro e R' B' he hq
 rcases o23 with y24|r25
 ·obtain⟨rfl,hI⟩:=hq
  refine qE<|gS Z hI<|sV (r0)<|sN<|qR ?_
  exact oI h▸qD
 obtain⟨rfl,hf⟩:=hq
 cases oI h
 exact hf
theorem kf{a0:bo}{r:Bool}(h:c7 a0=some r):EvP prog az ext 119 [.d (bo.pd a0)] [] (rB r,[]):=by
 refine Ev.body Z Tryz.func119 Z Zk<|gU Z<|sB (.ptr 16 0) 16 (.var (bo.rc a0))<|sU<|sN<|gU Z<|sV (.ptr 16 0)<|sV (.d (aA.pd a0.bC))<|bE h fun x1 h1 h=>cD (dZ h1)<|sF h ?_ ?_<;>intro h
 ·refine sM Z<|sV (.ptr 16 3)<|sL Z<|sV (rB (decide (a0.bd>=(0:Int))))<|sF h ?_ ?_<;>intro h
  ·refine sM Z<|sV (.ptr 16 3)<|sL Z<|sV (rB (decide (a0.bd<=(65536:Int))))<|sF h ?_ ?_<;>intro h
   ·refine sM Z<|sV (.ptr 16 4)<|sL Z<|sV (rB (decide (a0.aY>=(1:Int))))<|sF h ?_ ?_<;>intro h
    ·refine sM Z<|sV (.ptr 16 4)<|sL Z<|sV (rB (decide (a0.aY<=(65536:Int))))<|sV (rB (decide (a0.aY<=(65536:Int))))<|sA Z<|sN<|qR ?_
     exact oI h▸qD
    refine sM Z<|k3<|sU<|sA Z<|sN<|qR ?_
    exact oI h▸qD
   refine sM Z<|k3<|sU<|sM Z<|k3<|sU<|sA Z<|sN<|qR ?_
   exact oI h▸qD
  refine sM Z<|k3<|sU<|sM Z<|k3<|sU<|sM Z<|k3<|sU ?_
  refine sA Z<|sN<|qR ?_
  exact oI h▸qD
 refine sM Z<|k3<|sU<|sM Z<|k3<|sU<|sM Z<|k3<|sU ?_
 refine sM Z<|k3<|sU<|sA Z<|sN<|qR ?_
 exact oI h▸qD
theorem iW{a0:ar}{r:Int}(h:eJ a0=some r):EvP prog az ext 60 [.d (ar.pd a0)] [] (rI r,[]):=by
 refine Ev.body Z Tryz.func60 Z Zk<|gU Z<|sB (.ptr 16 0) 16 (.var (ar.rc a0))<|sV (r0)<|sN<|qS<|gU Z<|sV (.ptr 16 0)<|sV (.d (aG.pd a0.ae))<|bE h fun x1 h1 h=>cD (k8 h1)<|sF h ?_ ?_<;>intro h
 ·refine sM Z<|k3<|sK<|sT<|sM Z<|k3<|sT<|sM Z<|sK<|sK<|sK ?_
  refine sT<|sN<|cT<|gU Z<|sV (rI 27)<|sN<|qR ?_
  cases oI h
  exact qG
 refine sM Z<|sV (.ptr 16 14)<|sV (.d (bo.pd a0.cm))<|bE h fun x3 h3 h=>cD (kf h3)<|sV (rB (!x3))<|sF h ?_ ?_<;>intro h
 ·refine sM Z<|k3<|sT<|sM Z<|k3<|sT<|sN<|cT<|gU Z<|sV (rI 27)<|sN ?_
  refine qR ?_
  cases oI h
  exact qG
 refine sM Z<|sV (.ptr 16 19)<|sL Z<|sV (rB (decide (a0.bf<(0:Int))))<|sF h ?_ ?_<;>intro h
 ·refine sM Z<|k3<|sT<|sN<|cT<|gU Z<|sV (rI 27)<|sN<|qR ?_
  cases oI h
  exact qG
 refine sM Z<|sV (.ptr 16 19)<|sL Z<|sV (rB (decide (a0.bf>(1099511627776:Int))))<|sF h ?_ ?_<;>intro h
 ·refine sN<|cT<|gU Z<|sV (rI 27)<|sN<|qR ?_
  cases oI h
  exact qG
 refine sN<|cF<|qK<|gU Z<|sV (r0)<|sN<|qR ?_
 cases oI h
 exact qG
theorem source_plain_ev{a0:Int}{r:Bool}(h:mI a0=some r):EvP prog az ext 307 [.d (.int .u8 a0)] [] (rB r,[]):=by
 refine Ev.body Z Tryz.func307 Z Zk<|gU Z<|sU<|sN<|gU Z<|sM Z<|sF h ?_ ?_<;>intro h
 ·refine sM Z<|sM Z<|sV (rB (decide (a0<=(90:Int))))<|sF h ?_ ?_<;>intro h
  ·refine sM Z<|k3<|k3<|sT<|sA Z<|sN<|qR ?_
   exact oI h▸qD
  refine sM Z<|sM Z<|sF h ?_ ?_<;>intro h
  ·refine sM Z<|sM Z<|sV (rB (decide (a0<=(57:Int))))<|sV (rB (decide (a0<=(57:Int))))<|sV (rB (decide (a0<=(57:Int))))<|sA Z<|sN<|qR ?_
   exact oI h▸qD
  refine sM Z<|sK<|sK<|sU<|sU<|sA Z<|sN<|qR ?_
  exact oI h▸qD
 refine sM Z<|sK<|sK<|sU<|sM Z<|sM Z<|sF h ?_ ?_<;>intro h
 ·refine sM Z<|sM Z<|sV (rB (decide (a0<=(57:Int))))<|sV (rB (decide (a0<=(57:Int))))<|sV (rB (decide (a0<=(57:Int))))<|sA Z<|sN<|qR ?_
  exact oI h▸qD
 refine sM Z<|sK<|sK<|sU<|sU<|sA Z<|sN<|qR ?_
 exact oI h▸qD
theorem iX{a0:(List UInt8)}{a1:Int}{a2:Int}{r:Bool}(h:fU a0 a1 a2=some r):EvP prog az ext 241 [rS a0,rI a1,rI a2] [] (rB r,[]):=by
 refine Ev.body Z Tryz.func241 Z Zk<|gU Z<|sU<|sN<|qS<|gU Z<|sM Z<|sV (rI (a0.length:Int))<|sV (r0)<|sN<|bE h fun o8 ho8 h=>WC.block (WC.loop (WL.fV ho8 (fun s R' B'=>dN prog 0 (A R' B') (az.at_ 241 0 2)=some (A [(0,rS a0),(1,rI a1),(2,rI a2),(9,rI (a0.length:Int)),(10,rI s)] [])) (fun o e R' B'=>match o with| .inl y=>e= .exit 0∧dN prog 0 (A R' B') (az.at_ 241 0 7)=some (A [(0,rS a0),(1,rI a1),(2,rI a2)] [])| .inr r=>e= .ret∧finish prog (az.own 241) Tryz.f241 0 (A R' B')=some (rB r,[])) Z ?_ ?_))
 ·rintro s1 R' B' q2 hI h
  refine gS Z hI<|sF h ?_ ?_<;>intro h
  ·refine sN<|qS<|cT<|qK<|qS<|qB<|gU Z<|sM Z<|sA Z<|sN<|gU Z<|sM Z<|sM Z<|bE h fun x4 h4 h=>WO.xl h4 Z Z Z Z Z Z ?_
   refine bE h fun x5 h5 h=>cD (source_plain_ev h5)<|sF h ?_ ?_<;>intro h
   ·refine sN<|cT<|gU Z<|sU<|sN<|qR ?_
    cases oI h
    exact⟨nofun,rfl,rfl⟩
   refine sN<|cF<|qK<|WC.region Z Z<|sV (rI (rW (s1+(1:Int))))<|sM Z<|sN ?_
   cases oI h
   exact⟨rfl,rfl⟩
  refine sN<|qS<|cF<|qX ?_
  cases oI h
  exact⟨nofun,rfl,rfl⟩
 intro e R' B' he hq
 rcases o8 with y9|r10
 ·obtain⟨rfl,hI⟩:=hq
  refine qE<|gS Z hI<|sM Z<|sV (rI (a0.length:Int))<|sM Z<|sF h ?_ ?_<;>intro h
  ·refine sM Z<|sM Z<|sV (rI (a0.length:Int))<|sM Z<|sV (rB (decide ((a0.length:Int)<=a2)))<|sV (rB (decide ((a0.length:Int)<=a2)))<|sA Z<|sN<|qR ?_
   exact oI h▸qD
  refine sM Z<|k3<|sK<|sU<|sA Z<|sN<|qR ?_
  exact oI h▸qD
 obtain⟨rfl,hf⟩:=hq
 cases oI h
 exact hf
theorem mo{a0:au}{r:Bool}(h:fT a0=some r):EvP prog az ext 155 [.d (au.pd a0)] [] (rB r,[]):=by
 refine Ev.body Z Tryz.func155 Z Zk<|gU Z<|sB (.ptr 16 0) 16 (.var (au.rc a0))<|sU<|sN<|gU Z<|sV (.ptr 16 0)<|sL Z<|bE h fun x1 h1 h=>ir h (fun hb2 h=>?_) (fun hb2 h=>?_)
 ·refine WO.lE (v:=rB true) (u:=[]) Z Z (fun _=>Z) Z Z Z Z Z (iX h1) Z Z (congrArg (fun b=>RV.d (.bool b)) hb2) Z<|sM Z<|sV (.ptr 16 1)<|sL Z<|bE h fun x3 h3 h=>cD (iX h3)<|sF h ?_ ?_<;>intro h
  ·refine sM Z<|sV (.ptr 16 2)<|sL Z<|bE h fun x5 h5 h=>cD (iX h5)<|sF h ?_ ?_<;>intro h
   ·refine sM Z<|sV (.ptr 16 2)<|sL Z<|sV (rI (a0.av.length:Int))<|sV (rB ((a0.av.length:Int) != (1:Int)))<|sF h ?_ ?_<;>intro h
    ·refine sM Z<|sV (.ptr 16 3)<|sL Z<|bE h fun x8 h8 h=>cD (iX h8)<|sV (rB x8)<|sA Z<|sN<|qR ?_
     exact oI h▸qD
    refine sM Z<|k3<|sU<|sA Z<|sN<|qR ?_
    exact oI h▸qD
   refine sM Z<|k3<|sK<|sU<|sM Z<|k3<|sU<|sA Z<|sN<|qR ?_
   exact oI h▸qD
  refine sM Z<|k3<|sU<|sM Z<|k3<|sK<|sU<|sM Z<|sK<|sK<|sK ?_
  refine sU<|sA Z<|sN<|qR ?_
  exact oI h▸qD
 refine WO.lE (v:=rB false) (u:=[]) Z Z (fun _=>Z) Z Z Z Z Z (iX h1) Z Z (congrArg (fun b=>RV.d (.bool b)) hb2) Z<|sM Z<|k3<|sU<|sM Z<|k3<|sU<|sM Z<|sK<|sK<|sK ?_
 refine sK<|sU<|sM Z<|k3<|sU<|sA Z<|sN<|qR ?_
 exact oI h▸qD
theorem qW{a0:Int}{a1:Int}{a2:Int}{r:Bool}(h:nD a0 a1 a2=some r):EvP prog az ext 349 [rI a0,rI a1,rI a2] [] (rB r,[]):=by
 refine Ev.body Z Tryz.func349 Z Zk<|gU Z<|sU<|sN<|gU Z<|sM Z<|sM Z<|sF h ?_ ?_<;>intro h
 ·refine sM Z<|sM Z<|sM Z<|sV (rB (decide (a0<=a2)))<|sV (rB (decide (a0<=a2)))<|sA Z<|sN<|qR ?_
  exact oI h▸qD
 refine sM Z<|k3<|sU<|sA Z<|sN<|qR ?_
 exact oI h▸qD
theorem rate_gcd_ev{a0:Int}{a1:Int}{r:Int}(h:lX a0 a1=some r):EvP prog az ext 350 [rI a0,rI a1] [] (rI r,[]):=by
 refine Ev.body Z Tryz.func350 Z Zk<|gU Z<|sV (r0)<|sN<|qS<|bE h fun o8 ho8 h=>WC.block (WC.loop (WL.fV ho8 (fun s R' B'=>dN prog 0 (A R' B') (az.at_ 350 0 1)=some (A [(0,rI s.1),(1,rI s.2)] [])) (fun o e R' B'=>e= .exit 0∧dN prog 0 (A R' B') (az.at_ 350 0 3)=some (A [(0,rI o)] [])) Z ?_ ?_))
 ·rintro⟨s1,s2⟩ R' B' q4 hI h
  refine qS<|gS Z hI<|sM Z<|sF h ?_ ?_<;>intro h
  ·refine sN<|cT<|qK<|qB<|WC.kT Z Z<|sM Z<|sM Z<|sM Z<|bE h fun x6 h6 h=>WO.remG h6 Z Z Z Z Z Z<|sA Z<|sA Z ?_
   refine sN<|sO ?_
   cases oI h
   exact⟨rfl,rfl⟩
  refine sN<|cF<|qX ?_
  cases oI h
  exact⟨nofun,rfl,rfl⟩
 intro e R' B' he hq
 obtain⟨rfl,hI⟩:=hq
 refine qE<|gS Z hI<|sM Z<|sA Z<|sN<|qR ?_
 exact oI h▸qD
theorem rate_Valid_ev{a0:bi}{r:Bool}(h:iO a0=some r):EvP prog az ext 308 [.d (bi.pd a0)] [] (rB r,[]):=by
 refine Ev.body Z Tryz.func308 Z Zk<|gU Z<|sB (.ptr 16 0) 16 (.var [rI a0.bd,rI a0.aY])<|sU<|sN<|gU Z<|sV (.ptr 16 0)<|sL Z<|bE h fun x1 h1 h=>ir h (fun hb2 h=>?_) (fun hb2 h=>?_)
 ·refine WO.lE (v:=rB true) (u:=[]) Z Z (fun _=>Z) Z Z Z Z Z (qW h1) Z Z (congrArg (fun b=>RV.d (.bool b)) hb2) Z<|sM Z<|sV (.ptr 16 1)<|sL Z<|bE h fun x3 h3 h=>cD (qW h3)<|sF h ?_ ?_<;>intro h
  ·refine sM Z<|sV (.ptr 16 0)<|sL Z<|sV (.ptr 16 1)<|sL Z<|bE h fun x5 h5 h=>cD (rate_gcd_ev h5)<|sV (rB (x5==(1:Int)))<|sV (rB (x5==(1:Int)))<|sA Z<|sN<|qR ?_
   exact oI h▸qD
  refine sM Z<|k3<|k3<|sU<|sA Z<|sN<|qR ?_
  exact oI h▸qD
 refine WO.lE (v:=rB false) (u:=[]) Z Z (fun _=>Z) Z Z Z Z Z (qW h1) Z Z (congrArg (fun b=>RV.d (.bool b)) hb2) Z<|sM Z<|k3<|sU<|sM Z<|k3<|k3<|sU<|sA Z ?_
 refine sN<|qR ?_
 exact oI h▸qD
theorem cn{a0:Int}{a1:Int}{a2:Int}{r:Bool}(h:bA a0 a1 a2=some r):EvP prog az ext 335 [rI a0,rI a1,rI a2] [] (rB r,[]):=by
 refine Ev.body Z Tryz.func335 Z Zk<|gU Z<|sU<|sN<|gU Z<|sM Z<|sM Z<|sF h ?_ ?_<;>intro h
 ·refine sM Z<|sM Z<|sM Z<|sV (rB (decide (a0<=a2)))<|sV (rB (decide (a0<=a2)))<|sA Z<|sN<|qR ?_
  exact oI h▸qD
 refine sM Z<|k3<|sU<|sA Z<|sN<|qR ?_
 exact oI h▸qD
theorem kU{a0:Int}{r:Bool}(h:f8 a0=some r):EvP prog az ext 413 [rI a0] [] (rB r,[]):=by
 refine Ev.body Z Tryz.func413 Z Zk<|gU Z<|sU<|sN<|gU Z<|sM Z<|bE h fun x1 h1 h=>cD (cn h1)<|sV (rB (!x1))<|sA Z<|sN<|qR ?_
 exact oI h▸qD
theorem mm{a0:(List Int)}{r:Int}(h:cL a0=some r):EvP prog az ext 421 [rL a0,.d (.raw (.func (.func 413) #[] #[]))] [] (rI r,[]):=by
 refine Ev.body Z Tryz.func421 Z Zk<|gU Z<|sV (r0)<|sN<|qS<|gU Z<|sM Z<|sE (rI (a0.length:Int)) (dX _ _)<|sV (r0)<|sN<|bE h fun o8 ho8 h=>WC.block (WC.loop (WL.fV ho8 (fun s R' B'=>dN prog 0 (A R' B') (az.at_ 421 0 2)=some (A [(0,rL a0),(1,.d (.raw (.func (.func 413) #[] #[]))),(7,rI (a0.length:Int)),(8,rI s)] [])) (fun o e R' B'=>match o with| .inl y=>e= .exit 0∧dN prog 0 (A R' B') (az.at_ 421 0 7)=some (A [] [])| .inr r=>e= .ret∧finish prog (az.own 421) Tryz.f421 0 (A R' B')=some (rI r,[])) Z ?_ ?_))
 ·rintro s1 R' B' q2 hI h
  refine gS Z hI<|sF h ?_ ?_<;>intro h
  ·refine sN<|qS<|cT<|qK<|qS<|qB<|gU Z<|sM Z<|sA Z<|sN<|gU Z<|sM Z<|sM Z<|sM Z<|bE h fun x4 h4 h=>?_
   refine eG h4 Z<|sC Z<|bE h fun x5 h5 h=>ir h (fun hb6 h=>?_) (fun hb6 h=>?_)
   ·refine WO.lE (v:=rB true) (u:=[]) Z Z (fun _=>Z) Z Z Z Z Z (kU h5) Z Z (congrArg (fun b=>RV.d (.bool b)) hb6) Z<|sN<|cT<|gU Z<|sM Z<|sA Z<|sN<|qR ?_
    cases oI h
    exact⟨nofun,rfl,rfl⟩
   refine WO.lE (v:=rB false) (u:=[]) Z Z (fun _=>Z) Z Z Z Z Z (kU h5) Z Z (congrArg (fun b=>RV.d (.bool b)) hb6) Z<|sN<|cF<|qK<|WC.region Z Z<|sV (rI (rW (s1+(1:Int))))<|sM Z<|sN ?_
   cases oI h
   exact⟨rfl,rfl⟩
  refine sN<|qS<|cF<|qX ?_
  cases oI h
  exact⟨nofun,rfl,rfl⟩
 intro e R' B' he hq
 rcases o8 with y9|r10
 ·obtain⟨rfl,hI⟩:=hq
  refine qE<|gS Z hI<|sV (rI (-1))<|sN<|qR ?_
  exact oI h▸qD
 obtain⟨rfl,hf⟩:=hq
 cases oI h
 exact hf
theorem k7{a0:(List Int)}{r:Bool}(h:cj a0=some r):EvP prog az ext 412 [rL a0,.d (.raw (.func (.func 413) #[] #[]))] [] (rB r,[]):=by
 refine Ev.body Z Tryz.func412 Z Zk<|gU Z<|sU<|sN<|gU Z<|sM Z<|sM Z<|bE h fun x1 h1 h=>cD (mm h1)<|sV (rB (decide (x1>=(0:Int))))<|sA Z<|sN<|qR ?_
 exact oI h▸qD
theorem fO{a0:(List Int)}{r:Bool}(h:ca a0=some r):EvP prog az ext 394 [rL a0] [] (rB r,[]):=by
 refine Ev.body Z Tryz.func394 Z Zk<|gU Z<|sU<|sN<|gU Z<|sM Z<|bE h fun x1 h1 h=>cD (k7 h1)<|sV (rB (!x1))<|sA Z<|sN<|qR ?_
 exact oI h▸qD
theorem jR{a0:(List Int)}{r:Int}(h:cN a0=some r):EvP prog az ext 383 [rL a0] [] (rI r,[]):=by
 refine Ev.body Z Tryz.func383 Z Zk<|gU Z<|sV (r0)<|sN<|gU Z<|sV (r0)<|sN<|qS<|gU Z<|sM Z<|sE (rI (a0.length:Int)) (dX _ _)<|sV (r0)<|sN<|bE h fun o8 ho8 h=>WC.block (WC.loop (WL.fV ho8 (fun s R' B'=>dN prog 0 (A R' B') (az.at_ 383 0 3)=some (A [(3,rI s.1),(6,rL a0),(7,rI (a0.length:Int)),(8,rI s.2)] [])) (fun o e R' B'=>e= .exit 0∧dN prog 0 (A R' B') (az.at_ 383 0 7)=some (A [(3,rI o)] [])) Z ?_ ?_))
 ·rintro⟨s1,s2⟩ R' B' q4 hI h
  refine gS Z hI<|sF h ?_ ?_<;>intro h
  ·refine sN<|qS<|cT<|qK<|qS<|qB<|gU Z<|bE h fun x6 h6 h=>eG h6 Z<|sC Z<|sA Z<|sN<|WC.region Z Z<|sM Z<|sM Z ?_
   refine sV (rI (rW (s1+x6)))<|sA Z<|sN<|WC.region Z Z<|sV (rI (rW (s2+(1:Int))))<|sM Z<|sN ?_
   cases oI h
   exact⟨rfl,rfl⟩
  refine sN<|qS<|cF<|qX ?_
  cases oI h
  exact⟨nofun,rfl,rfl⟩
 intro e R' B' he hq
 obtain⟨rfl,hI⟩:=hq
 refine qE<|gS Z hI<|sM Z<|sA Z<|sN<|qR ?_
 exact oI h▸qD
theorem oV{a0:aD}{r:Bool}(h:cf a0=some r):EvP prog az ext 353 [.d (aD.pd a0)] [] (rB r,[]):=by
 refine Ev.body Z Tryz.func353 Z Zk<|gU Z<|sB (.ptr 16 0) 16 (.var (aD.rc a0))<|sU<|sN<|gU Z<|sV (.ptr 16 7)<|sL Z<|sE (rI (a0.bN.length:Int)) (dX _ _)<|sF h ?_ ?_<;>intro h
 ·refine sM Z<|sV (.ptr 16 8)<|sL Z<|sV (rB (a0.bt==(0:Int)))<|sF h ?_ ?_<;>intro h
  ·refine sM Z<|sV (.ptr 16 9)<|sL Z<|sV (rB (a0.bR==(0:Int)))<|sV (rB (a0.bR==(0:Int)))<|sA Z<|sN<|qS<|gU Z<|sV (.ptr 16 0)<|sL Z<|sN<|qB<|gU Z<|sF h ?_ ?_<;>intro h
   ·refine sA Z<|sN<|cT<|gU Z<|sF h ?_ ?_<;>intro h
    ·refine sM Z<|sV (.ptr 16 1)<|sV (.d (aS.pd a0.bd))<|sV (.ptr 16 1)<|sV (.ptr 16 1)<|sL Z<|sV (.d (aS.pd (aS.mk a0.bd.a0 0 0)))<|WO.bin (eE a0.bd (aS.mk a0.bd.a0 0 0)) Z Z Z Z Z<|sF h ?_ ?_<;>intro h
     ·refine sM Z<|sV (.ptr 16 4)<|sV (.d (aS.pd a0.aY))<|sV (.ptr 16 4)<|sV (.ptr 16 4)<|sL Z<|sV (.d (aS.pd (aS.mk a0.aY.a0 0 0)))<|WO.bin (eE a0.aY (aS.mk a0.aY.a0 0 0)) Z Z Z Z Z<|sF h ?_ ?_<;>intro h
      ·refine sM Z<|sV (.ptr 16 1)<|sV (.ptr 16 1)<|sL Z<|bE h fun x7 h7 h=>cD (cn h7)<|sF h ?_ ?_<;>intro h
       ·refine sM Z<|sV (.ptr 16 4)<|sV (.ptr 16 4)<|sL Z<|bE h fun x9 h9 h=>cD (cn h9)<|sV (rB x9)<|sA Z<|sN<|qR ?_
        cases oI h
        exact qG
       refine sM Z<|k3<|sK<|sU<|sA Z<|sN<|qR ?_
       cases oI h
       exact qG
      refine sM Z<|k3<|sK<|sU<|sM Z<|k3<|sK<|sU<|sA Z<|sN<|qR ?_
      cases oI h
      exact qG
     refine sM Z<|k3<|k3<|sK<|sU<|sM Z<|k3<|sK<|sU ?_
     refine sM Z<|k3<|sK<|sU<|sA Z<|sN<|qR ?_
     cases oI h
     exact qG
    refine sM Z<|k3<|k3<|sK<|sU<|sM Z<|k3<|sK<|sK ?_
    refine sK<|sK<|sU<|sM Z<|k3<|sK<|sU<|sM Z<|k3<|sK<|sU ?_
    refine sA Z<|sN<|qR ?_
    cases oI h
    exact qG
   refine sA Z<|sN<|cF<|gU Z<|sF h ?_ ?_<;>intro h
   ·refine sA Z<|sN<|cT<|WC.jW (R0:=[(1,.cptr [.int .i64 a0.b8,.int .i64 a0.bd.a0,.int .i64 a0.bd.a1,.int .i64 a0.bd.a2,.int .i64 a0.aY.a0,.int .i64 a0.aY.a1,.int .i64 a0.aY.a2,.lst (a0.bN.map (PD.int .i64)),.int .i64 a0.bt,.int .i64 a0.bR]),(3,rB (a0.bR==(0:Int)))]) (B0:=[]) Z Z<|sF h ?_ ?_<;>intro h
    ·refine sM Z<|sV (.cptr [.int .i64 a0.bd.a0,.int .i64 a0.bd.a1,.int .i64 a0.bd.a2,.int .i64 a0.aY.a0,.int .i64 a0.aY.a1,.int .i64 a0.aY.a2,.lst (a0.bN.map (PD.int .i64)),.int .i64 a0.bt,.int .i64 a0.bR])<|sV (.d (.lst ([a0.bd.a0,a0.bd.a1,a0.bd.a2].map (PD.int .i64))))<|bE h fun x12 h12 h=>cD (fO h12)<|sF h ?_ ?_<;>intro h
     ·refine sM Z<|sV (.cptr [.int .i64 a0.aY.a0,.int .i64 a0.aY.a1,.int .i64 a0.aY.a2,.lst (a0.bN.map (PD.int .i64)),.int .i64 a0.bt,.int .i64 a0.bR])<|sV (.d (.lst ([a0.aY.a0,a0.aY.a1,a0.aY.a2].map (PD.int .i64))))<|bE h fun x14 h14 h=>cD (fO h14)<|sF h ?_ ?_<;>intro h
      ·refine sM Z<|sV (.cptr [.int .i64 a0.aY.a0,.int .i64 a0.aY.a1,.int .i64 a0.aY.a2,.lst (a0.bN.map (PD.int .i64)),.int .i64 a0.bt,.int .i64 a0.bR])<|sV (.cptr [.int .i64 a0.aY.a0,.int .i64 a0.aY.a1,.int .i64 a0.aY.a2,.lst (a0.bN.map (PD.int .i64)),.int .i64 a0.bt,.int .i64 a0.bR])<|sC Z<|sV (rB (a0.aY.a0 != (0:Int)))<|sV (rB (a0.aY.a0 != (0:Int)))<|sA Z<|sN<|qR ?_
       exact oI h▸qD
      refine sM Z<|k3<|sK<|sU<|sA Z<|sN<|qR ?_
      exact oI h▸qD
     refine sM Z<|k3<|sU<|sM Z<|k3<|sK<|sU<|sA Z<|sN<|qR ?_
     exact oI h▸qD
    refine sM Z<|k3<|sU<|sM Z<|k3<|sU<|sM Z<|k3<|sK ?_
    refine sU<|sA Z<|sN<|qR ?_
    exact oI h▸qD
   refine sA Z<|sN<|cF<|gU Z<|sF h ?_ ?_<;>intro h
   ·refine sA Z<|sN<|cT<|gU Z<|sV (.ptr 16 1)<|sV (.d (aS.pd a0.bd))<|sV (.d (aS.pd (aS.mk 0 0 0)))<|ir h (fun hb17 h=>?_) (fun hb17 h=>?_)
    ·refine WO.uA (eE a0.bd (aS.mk 0 0 0)) hb17 Z Z Z Z Z<|sM Z<|sV (.ptr 16 4)<|sV (.d (aS.pd a0.aY))<|sV (.d (aS.pd (aS.mk 0 0 0)))<|WO.bin (eE a0.aY (aS.mk 0 0 0)) Z Z Z Z Z<|sF h ?_ ?_<;>intro h
     ·refine sM Z<|sV (.ptr 16 7)<|sL Z<|sE (rI (a0.bN.length:Int)) (dX _ _)<|bE h fun x19 h19 h=>cD (cn h19)<|sF h ?_ ?_<;>intro h
      ·refine sM Z<|sV (.ptr 16 7)<|sL Z<|bE h fun x21 h21 h=>cD (fO h21)<|sF h ?_ ?_<;>intro h
       ·refine sM Z<|sV (.ptr 16 7)<|sL Z<|bE h fun x23 h23 h=>cD (jR h23)<|sV (rB (x23 != (0:Int)))<|sF h ?_ ?_<;>intro h
        ·refine sM Z<|sV (.ptr 16 8)<|sL Z<|bE h fun x25 h25 h=>cD (cn h25)<|sF h ?_ ?_<;>intro h
         ·refine sM Z<|sV (.ptr 16 9)<|sL Z<|bE h fun x27 h27 h=>cD (cn h27)<|sV (rB x27)<|sA Z<|sN<|qR ?_
          cases oI h
          exact qG
         refine sM Z<|k3<|sU<|sA Z<|sN<|qR ?_
         cases oI h
         exact qG
        refine sM Z<|k3<|sU<|sM Z<|k3<|sU<|sA Z<|sN<|qR ?_
        cases oI h
        exact qG
       refine sM Z<|k3<|sK<|sU<|sM Z<|k3<|sU<|sM Z<|sK<|sK<|sK ?_
       refine sU<|sA Z<|sN<|qR ?_
       cases oI h
       exact qG
      refine sM Z<|k3<|sU<|sM Z<|k3<|sK<|sU<|sM Z<|sK<|sK<|sK ?_
      refine sU<|sM Z<|k3<|sU<|sA Z<|sN<|qR ?_
      cases oI h
      exact qG
     refine sM Z<|k3<|sK<|sU<|sM Z<|k3<|sU<|sM Z<|sK<|sK<|sK ?_
     refine sK<|sU<|sM Z<|k3<|sU<|sM Z<|k3<|sU<|sA Z<|sN<|qR ?_
     cases oI h
     exact qG
    refine WO.uA (eE a0.bd (aS.mk 0 0 0)) hb17 Z Z Z Z Z<|sM Z<|k3<|sK<|sU<|sM Z<|k3<|sK<|sU<|sM Z<|sK ?_
    refine sK<|sK<|sU<|sM Z<|k3<|sK<|sU<|sM Z<|k3<|sU<|sM Z ?_
    refine k3<|sU<|sA Z<|sN<|qR ?_
    cases oI h
    exact qG
   refine sA Z<|sN<|cF<|qK<|gU Z<|sU<|sN<|qR ?_
   cases oI h
   exact qG
  refine sM Z<|k3<|sU<|sA Z<|sN<|qS<|gU Z<|sV (.ptr 16 0)<|sL Z<|sN<|qB<|gU Z<|sF h ?_ ?_<;>intro h
  ·refine sA Z<|sN<|cT<|gU Z<|sM Z<|sM Z<|k3<|k3<|sK<|sU<|sM Z ?_
   refine k3<|k3<|sK<|sU<|sM Z<|k3<|sK<|sU<|sM Z ?_
   refine k3<|sK<|sU<|sA Z<|sN<|qR ?_
   cases oI h
   exact qG
  refine sA Z<|sN<|cF<|gU Z<|sF h ?_ ?_<;>intro h
  ·refine sA Z<|sN<|cT<|WC.jW (R0:=[(1,.cptr [.int .i64 a0.b8,.int .i64 a0.bd.a0,.int .i64 a0.bd.a1,.int .i64 a0.bd.a2,.int .i64 a0.aY.a0,.int .i64 a0.aY.a1,.int .i64 a0.aY.a2,.lst (a0.bN.map (PD.int .i64)),.int .i64 a0.bt,.int .i64 a0.bR]),(3,rB false)]) (B0:=[]) Z Z<|sM Z<|sM Z<|k3<|sU<|sM Z<|k3<|sU ?_
   refine sM Z<|k3<|sK<|sU<|sA Z<|sN<|qR ?_
   exact oI h▸qD
  refine sA Z<|sN<|cF<|gU Z<|sF h ?_ ?_<;>intro h
  ·refine sA Z<|sN<|cT<|gU Z<|sV (.ptr 16 1)<|sV (.d (aS.pd a0.bd))<|sV (.d (aS.pd (aS.mk 0 0 0)))<|ir h (fun hb31 h=>?_) (fun hb31 h=>?_)
   ·refine WO.uA (eE a0.bd (aS.mk 0 0 0)) hb31 Z Z Z Z Z<|sM Z<|sV (.ptr 16 4)<|sV (.d (aS.pd a0.aY))<|sV (.d (aS.pd (aS.mk 0 0 0)))<|WO.bin (eE a0.aY (aS.mk 0 0 0)) Z Z Z Z Z<|sF h ?_ ?_<;>intro h
    ·refine sM Z<|sV (.ptr 16 7)<|sL Z<|sE (rI (a0.bN.length:Int)) (dX _ _)<|bE h fun x33 h33 h=>cD (cn h33)<|sF h ?_ ?_<;>intro h
     ·refine sM Z<|sV (.ptr 16 7)<|sL Z<|bE h fun x35 h35 h=>cD (fO h35)<|sF h ?_ ?_<;>intro h
      ·refine sM Z<|sV (.ptr 16 7)<|sL Z<|bE h fun x37 h37 h=>cD (jR h37)<|sV (rB (x37 != (0:Int)))<|sF h ?_ ?_<;>intro h
       ·refine sM Z<|sV (.ptr 16 8)<|sL Z<|bE h fun x39 h39 h=>cD (cn h39)<|sF h ?_ ?_<;>intro h
        ·refine sM Z<|sV (.ptr 16 9)<|sL Z<|bE h fun x41 h41 h=>cD (cn h41)<|sV (rB x41)<|sA Z<|sN<|qR ?_
         cases oI h
         exact qG
        refine sM Z<|k3<|sU<|sA Z<|sN<|qR ?_
        cases oI h
        exact qG
       refine sM Z<|k3<|sU<|sM Z<|k3<|sU<|sA Z<|sN<|qR ?_
       cases oI h
       exact qG
      refine sM Z<|k3<|sK<|sU<|sM Z<|k3<|sU<|sM Z<|sK<|sK<|sK ?_
      refine sU<|sA Z<|sN<|qR ?_
      cases oI h
      exact qG
     refine sM Z<|k3<|sU<|sM Z<|k3<|sK<|sU<|sM Z<|sK<|sK<|sK ?_
     refine sU<|sM Z<|k3<|sU<|sA Z<|sN<|qR ?_
     cases oI h
     exact qG
    refine sM Z<|k3<|sK<|sU<|sM Z<|k3<|sU<|sM Z<|sK<|sK<|sK ?_
    refine sK<|sU<|sM Z<|k3<|sU<|sM Z<|k3<|sU<|sA Z<|sN<|qR ?_
    cases oI h
    exact qG
   refine WO.uA (eE a0.bd (aS.mk 0 0 0)) hb31 Z Z Z Z Z<|sM Z<|k3<|sK<|sU<|sM Z<|k3<|sK<|sU<|sM Z<|sK ?_
   refine sK<|sK<|sU<|sM Z<|k3<|sK<|sU<|sM Z<|k3<|sU<|sM Z ?_
   refine k3<|sU<|sA Z<|sN<|qR ?_
   cases oI h
   exact qG
  refine sA Z<|sN<|cF<|qK<|gU Z<|sU<|sN<|qR ?_
  cases oI h
  exact qG
 refine sM Z<|k3<|sU<|sM Z<|k3<|sU<|sA Z<|sN<|qS<|gU Z<|sV (.ptr 16 0) ?_
 refine sL Z<|sN<|qB<|gU Z<|sF h ?_ ?_<;>intro h
 ·refine sA Z<|sN<|cT<|gU Z<|sM Z<|sM Z<|k3<|k3<|sK<|sU<|sM Z ?_
  refine k3<|k3<|sK<|sU<|sM Z<|k3<|sK<|sU<|sM Z ?_
  refine k3<|sK<|sU<|sA Z<|sN<|qR ?_
  cases oI h
  exact qG
 refine sA Z<|sN<|cF<|gU Z<|sF h ?_ ?_<;>intro h
 ·refine sA Z<|sN<|cT<|WC.jW (R0:=[(1,.cptr [.int .i64 a0.b8,.int .i64 a0.bd.a0,.int .i64 a0.bd.a1,.int .i64 a0.bd.a2,.int .i64 a0.aY.a0,.int .i64 a0.aY.a1,.int .i64 a0.aY.a2,.lst (a0.bN.map (PD.int .i64)),.int .i64 a0.bt,.int .i64 a0.bR]),(3,rB false)]) (B0:=[]) Z Z<|sM Z<|sM Z<|k3<|sU<|sM Z<|k3<|sU ?_
  refine sM Z<|k3<|sK<|sU<|sA Z<|sN<|qR ?_
  exact oI h▸qD
 refine sA Z<|sN<|cF<|gU Z<|sF h ?_ ?_<;>intro h
 ·refine sA Z<|sN<|cT<|gU Z<|sV (.ptr 16 1)<|sV (.d (aS.pd a0.bd))<|sV (.d (aS.pd (aS.mk 0 0 0)))<|ir h (fun hb45 h=>?_) (fun hb45 h=>?_)
  ·refine WO.uA (eE a0.bd (aS.mk 0 0 0)) hb45 Z Z Z Z Z<|sM Z<|sV (.ptr 16 4)<|sV (.d (aS.pd a0.aY))<|sV (.d (aS.pd (aS.mk 0 0 0)))<|WO.bin (eE a0.aY (aS.mk 0 0 0)) Z Z Z Z Z<|sF h ?_ ?_<;>intro h
   ·refine sM Z<|sV (.ptr 16 7)<|sL Z<|sE (rI (a0.bN.length:Int)) (dX _ _)<|bE h fun x47 h47 h=>cD (cn h47)<|sF h ?_ ?_<;>intro h
    ·refine sM Z<|sV (.ptr 16 7)<|sL Z<|bE h fun x49 h49 h=>cD (fO h49)<|sF h ?_ ?_<;>intro h
     ·refine sM Z<|sV (.ptr 16 7)<|sL Z<|bE h fun x51 h51 h=>cD (jR h51)<|sV (rB (x51 != (0:Int)))<|sF h ?_ ?_<;>intro h
      ·refine sM Z<|sV (.ptr 16 8)<|sL Z<|bE h fun x53 h53 h=>cD (cn h53)<|sF h ?_ ?_<;>intro h
       ·refine sM Z<|sV (.ptr 16 9)<|sL Z<|bE h fun x55 h55 h=>cD (cn h55)<|sV (rB x55)<|sA Z<|sN<|qR ?_
        cases oI h
        exact qG
       refine sM Z<|k3<|sU<|sA Z<|sN<|qR ?_
       cases oI h
       exact qG
      refine sM Z<|k3<|sU<|sM Z<|k3<|sU<|sA Z<|sN<|qR ?_
      cases oI h
      exact qG
     refine sM Z<|k3<|sK<|sU<|sM Z<|k3<|sU<|sM Z<|sK<|sK<|sK ?_
     refine sU<|sA Z<|sN<|qR ?_
     cases oI h
     exact qG
    refine sM Z<|k3<|sU<|sM Z<|k3<|sK<|sU<|sM Z<|sK<|sK<|sK ?_
    refine sU<|sM Z<|k3<|sU<|sA Z<|sN<|qR ?_
    cases oI h
    exact qG
   refine sM Z<|k3<|sK<|sU<|sM Z<|k3<|sU<|sM Z<|sK<|sK<|sK ?_
   refine sK<|sU<|sM Z<|k3<|sU<|sM Z<|k3<|sU<|sA Z<|sN<|qR ?_
   cases oI h
   exact qG
  refine WO.uA (eE a0.bd (aS.mk 0 0 0)) hb45 Z Z Z Z Z<|sM Z<|k3<|sK<|sU<|sM Z<|k3<|sK<|sU<|sM Z<|sK ?_
  refine sK<|sK<|sU<|sM Z<|k3<|sK<|sU<|sM Z<|k3<|sU<|sM Z ?_
  refine k3<|sU<|sA Z<|sN<|qR ?_
  cases oI h
  exact qG
 refine sA Z<|sN<|cF<|qK<|gU Z<|sU<|sN<|qR ?_
 cases oI h
 exact qG
theorem kS{a0:aD}{r:Bool}(h:dQ a0=some r):EvP prog az ext 352 [.d (aD.pd a0)] [] (rB r,[]):=by
 refine Ev.body Z Tryz.func352 Z Zk<|gU Z<|sB (.ptr 16 0) 16 (.var (aD.rc a0))<|sU<|sN<|gU Z<|sV (.d (aD.pd a0))<|bE h fun x1 h1 h=>cD (oV h1)<|sV (rB (!x1))<|sA Z<|sN<|qR ?_
 cases oI h
 exact qG
theorem lB{a0:(List aD)}{r:Int}(h:cr a0=some r):EvP prog az ext 393 [rM aD.pd a0,.d (.raw (.func (.func 352) #[] #[]))] [] (rI r,[]):=by
 refine Ev.body Z Tryz.func393 Z Zk<|gU Z<|sV (r0)<|sN<|qS<|gU Z<|sM Z<|sE (rI (a0.length:Int)) (dX _ _)<|sV (r0)<|sN<|bE h fun o8 ho8 h=>WC.block (WC.loop (WL.fV ho8 (fun s R' B'=>dN prog 0 (A R' B') (az.at_ 393 0 2)=some (A [(0,rM aD.pd a0),(1,.d (.raw (.func (.func 352) #[] #[]))),(7,rI (a0.length:Int)),(8,rI s)] [])) (fun o e R' B'=>match o with| .inl y=>e= .exit 0∧dN prog 0 (A R' B') (az.at_ 393 0 7)=some (A [] [])| .inr r=>e= .ret∧finish prog (az.own 393) Tryz.f393 0 (A R' B')=some (rI r,[])) Z ?_ ?_))
 ·rintro s1 R' B' q2 hI h
  refine gS Z hI<|sF h ?_ ?_<;>intro h
  ·refine sN<|qS<|cT<|qK<|qS<|qB<|gU Z<|sM Z<|sA Z<|sN<|gU Z<|sM Z<|sM Z<|sM Z<|bE h fun x4 h4 h=>?_
   refine eG h4 Z<|sV (.d (aD.pd x4))<|bE h fun x5 h5 h=>ir h (fun hb6 h=>?_) (fun hb6 h=>?_)
   ·refine WO.lE (v:=rB true) (u:=[]) Z Z (fun _=>Z) Z Z Z Z Z (kS h5) Z Z (congrArg (fun b=>RV.d (.bool b)) hb6) Z<|sN<|cT<|gU Z<|sM Z<|sA Z<|sN<|qR ?_
    cases oI h
    exact⟨nofun,rfl,rfl⟩
   refine WO.lE (v:=rB false) (u:=[]) Z Z (fun _=>Z) Z Z Z Z Z (kS h5) Z Z (congrArg (fun b=>RV.d (.bool b)) hb6) Z<|sN<|cF<|qK<|WC.region Z Z<|sV (rI (rW (s1+(1:Int))))<|sM Z<|sN ?_
   cases oI h
   exact⟨rfl,rfl⟩
  refine sN<|qS<|cF<|qX ?_
  cases oI h
  exact⟨nofun,rfl,rfl⟩
 intro e R' B' he hq
 rcases o8 with y9|r10
 ·obtain⟨rfl,hI⟩:=hq
  refine qE<|gS Z hI<|sV (rI (-1))<|sN<|qR ?_
  exact oI h▸qD
 obtain⟨rfl,hf⟩:=hq
 cases oI h
 exact hf
theorem kq{a0:(List aD)}{r:Bool}(h:bH a0=some r):EvP prog az ext 351 [rM aD.pd a0,.d (.raw (.func (.func 352) #[] #[]))] [] (rB r,[]):=by
 refine Ev.body Z Tryz.func351 Z Zk<|gU Z<|sU<|sN<|gU Z<|sM Z<|sM Z<|bE h fun x1 h1 h=>cD (lB h1)<|sV (rB (decide (x1>=(0:Int))))<|sA Z<|sN<|qR ?_
 exact oI h▸qD
theorem rb{a0:(List aD)}{r:Int}(h:dS a0=some r):EvP prog az ext 354 [rM aD.pd a0] [] (rI r,[]):=by
 refine Ev.body Z Tryz.func354 Z Zk<|gU Z<|sV (r0)<|sN<|gU Z<|sV (rI 1)<|sN<|qS<|gU Z<|sM Z<|sE (rI (a0.length:Int)) (dX _ _)<|sV (r0)<|sN<|bE h fun o10 ho10 h=>WC.block (WC.loop (WL.fV ho10 (fun s R' B'=>dN prog 0 (A R' B') (az.at_ 354 0 3)=some (A [(3,rI s.1),(6,rM aD.pd a0),(7,rI (a0.length:Int)),(8,rI s.2)] [])) (fun o e R' B'=>match o with| .inl y=>e= .exit 0∧dN prog 0 (A R' B') (az.at_ 354 0 10)=some (A [(3,rI y)] [])| .inr r=>e= .ret∧finish prog (az.own 354) Tryz.f354 0 (A R' B')=some (rI r,[])) Z ?_ ?_))
 ·rintro⟨s1,s2⟩ R' B' q4 hI h
  refine gS Z hI<|sF h ?_ ?_<;>intro h
  ·refine sN<|qS<|cT<|qK<|qS<|qB<|gU Z<|bE h fun x6 h6 h=>eG h6 Z<|sV (.d (aD.pd x6))<|sB (.ptr 80 0) 80 (.var [r0,r0,r0,r0,r0,r0,r0,.dO,r0,r0])<|sH 80 (.var (aD.rc x6))<|sN<|qS<|gU Z ?_
   refine sV (.ptr 80 0)<|sL Z<|sF h ?_ ?_<;>intro h
   ·refine sN<|cT<|qX<|qE<|WC.region Z Z<|sV (rI (rW (s2+(1:Int))))<|sM Z<|sN ?_
    cases oI h
    exact⟨rfl,rfl⟩
   refine sN<|cF<|qK<|gU Z<|sM Z<|sV (.ptr 80 8)<|sL Z<|sV (rI (rW (s1*x6.bt)))<|sA Z<|sN<|gU Z<|sM Z<|sF h ?_ ?_<;>intro h
   ·refine sN<|cT<|gU Z<|sV (r0)<|sN<|qR ?_
    cases oI h
    exact⟨nofun,rfl,rfl⟩
   refine sN<|cF<|qK<|WC.region Z Z<|sV (rI (rW (s2+(1:Int))))<|sM Z<|sN ?_
   cases oI h
   exact⟨rfl,rfl⟩
  refine sN<|qS<|cF<|qX ?_
  cases oI h
  exact⟨nofun,rfl,rfl⟩
 intro e R' B' he hq
 rcases o10 with y11|r12
 ·obtain⟨rfl,hI⟩:=hq
  refine qE<|gS Z hI<|sM Z<|sA Z<|sN<|qR ?_
  exact oI h▸qD
 obtain⟨rfl,hf⟩:=hq
 cases oI h
 exact hf
theorem nI{a0:aL}{r:Bool}(h:dM a0=some r):EvP prog az ext 309 [.d (aL.pd a0)] [] (rB r,[]):=by
 refine Ev.body Z Tryz.func309 Z Zk<|gU Z<|sB (.ptr 16 0) 16 (.var [rM aD.pd a0.aV])<|sU<|sN<|qS<|gU Z<|sV (.ptr 16 0)<|sL Z<|sE (rI (a0.aV.length:Int)) (dX _ _)<|sF h ?_ ?_<;>intro h
 ·refine sM Z<|k3<|sT<|sN<|cT<|gU Z<|sU<|sN<|qR ?_
  exact oI h▸qD
 refine sM Z<|sV (.ptr 16 0)<|sL Z<|bE h fun x2 h2 h=>cD (kq h2)<|sF h ?_ ?_<;>intro h
 ·refine sN<|cT<|gU Z<|sU<|sN<|qR ?_
  exact oI h▸qD
 refine sN<|cF<|qK<|gU Z<|sV (.ptr 16 0)<|sL Z<|bE h fun x4 h4 h=>cD (rb h4)<|sV (rB (decide (x4>(0:Int))))<|sA Z<|sN<|qR ?_
 exact oI h▸qD
theorem jK{a0:Int}{a1:Int}{a2:Int}{r:Bool}(h:de a0 a1 a2=some r):EvP prog az ext 243 [rI a0,rI a1,rI a2] [] (rB r,[]):=by
 refine Ev.body Z Tryz.func243 Z Zk<|gU Z<|sU<|sN<|gU Z<|sM Z<|sM Z<|sF h ?_ ?_<;>intro h
 ·refine sM Z<|sM Z<|sM Z<|sV (rB (decide (a0<=a2)))<|sV (rB (decide (a0<=a2)))<|sA Z<|sN<|qR ?_
  exact oI h▸qD
 refine sM Z<|k3<|sU<|sA Z<|sN<|qR ?_
 exact oI h▸qD
theorem oa{a0:ap}{r:Bool}(h:cH a0=some r):EvP prog az ext 242 [.d (ap.pd a0)] [] (rB r,[]):=by
 refine Ev.body Z Tryz.func242 Z Zk<|gU Z<|sB (.ptr 16 0) 16 (.var (ap.rc a0))<|sU<|sN<|gU Z<|sV (.ptr 16 4)<|sV (.d (aa.pd a0.aP))<|sB (.ptr 48 0) 48 (.var [r0,r0,r0])<|sS 48 (.var (aa.rc a0.aP))<|sN<|gU Z<|sV (.ptr 16 0)<|sL Z<|sF h ?_ ?_<;>intro h
 ·refine sM Z<|sV (.ptr 16 0)<|sL Z<|sV (.ptr 16 1)<|sL Z<|sV (rB (decide (a0.bj<a0.fTo)))<|sF h ?_ ?_<;>intro h
  ·refine sM Z<|sV (.ptr 16 1)<|sL Z<|sV (rB (decide (a0.fTo<=(9007199254740992:Int))))<|sF h ?_ ?_<;>intro h
   ·refine sM Z<|sV (.ptr 16 2)<|sV (.d (bi.pd a0.di))<|bE h fun x4 h4 h=>cD (rate_Valid_ev h4)<|sF h ?_ ?_<;>intro h
    ·refine sM Z<|sV (.ptr 16 7)<|sV (.d (aL.pd a0.bu))<|bE h fun x6 h6 h=>cD (nI h6)<|sF h ?_ ?_<;>intro h
     ·refine sM Z<|sV (.ptr 48 0)<|sL Z<|bE h fun x8 h8 h=>cD (jK h8)<|sF h ?_ ?_<;>intro h
      ·refine sM Z<|sV (.ptr 48 1)<|sL Z<|bE h fun x10 h10 h=>cD (jK h10)<|sF h ?_ ?_<;>intro h
       ·refine sM Z<|sV (.ptr 48 2)<|sL Z<|bE h fun x12 h12 h=>cD (jK h12)<|sV (rB x12)<|sA Z<|sN<|qR ?_
        exact oI h▸qD
       refine sM Z<|k3<|sU<|sA Z<|sN<|qR ?_
       exact oI h▸qD
      refine sM Z<|k3<|sU<|sM Z<|k3<|sU<|sA Z<|sN<|qR ?_
      exact oI h▸qD
     refine sM Z<|k3<|sU<|sM Z<|k3<|sU<|sM Z<|k3<|sU ?_
     refine sA Z<|sN<|qR ?_
     exact oI h▸qD
    refine sM Z<|k3<|sU<|sM Z<|k3<|sU<|sM Z<|k3<|sU ?_
    refine sM Z<|k3<|sU<|sA Z<|sN<|qR ?_
    exact oI h▸qD
   refine sM Z<|k3<|sU<|sM Z<|k3<|sU<|sM Z<|k3<|sU ?_
   refine sM Z<|k3<|sU<|sM Z<|k3<|sU<|sA Z<|sN<|qR ?_
   exact oI h▸qD
  refine sM Z<|k3<|sU<|sM Z<|k3<|sU<|sM Z<|k3<|sU ?_
  refine sM Z<|k3<|sU<|sM Z<|k3<|sU<|sM Z<|k3<|sU ?_
  refine sA Z<|sN<|qR ?_
  exact oI h▸qD
 refine sM Z<|k3<|sK<|sK<|sU<|sM Z<|k3<|sU<|sM Z<|sK<|sK ?_
 refine sK<|sU<|sM Z<|k3<|sU<|sM Z<|k3<|sU<|sM Z<|sK<|sK ?_
 refine sK<|sU<|sM Z<|k3<|sU<|sA Z<|sN<|qR ?_
 exact oI h▸qD
theorem ql{a0:(List ap)}{r:Bool}(h:dD a0=some r):EvP prog az ext 156 [rM ap.pd a0] [] (rB r,[]):=by
 refine Ev.body Z Tryz.func156 Z Zk<|gU Z<|sU<|sN<|qS<|gU Z<|sM Z<|sE (rI (a0.length:Int)) (dX _ _)<|sV (r0)<|sN<|bE h fun o11 ho11 h=>WC.block (WC.loop (WL.fV ho11 (fun s R' B'=>dN prog 0 (A R' B') (az.at_ 156 0 2)=some (A [(0,rM ap.pd a0),(5,rM ap.pd a0),(6,rI (a0.length:Int)),(7,rI s)] [])) (fun o e R' B'=>match o with| .inl y=>e= .exit 0∧dN prog 0 (A R' B') (az.at_ 156 0 7)=some (A [(0,rM ap.pd a0)] [])| .inr r=>e= .ret∧finish prog (az.own 156) Tryz.f156 0 (A R' B')=some (rB r,[])) Z ?_ ?_))
 ·rintro s1 R' B' q2 hI h
  refine gS Z hI<|sF h ?_ ?_<;>intro h
  ·refine sN<|qS<|cT<|qK<|qS<|qB<|gU Z<|sM Z<|bE h fun x4 h4 h=>eG h4 Z<|sV (.d (ap.pd x4))<|sB (.ptr 64 0) 64 (.var zZ3)<|sA Z<|sH 64 (.var (ap.rc x4))<|sN ?_
   refine WC.cI Z Z<|sV (.d (ap.pd x4))<|bE h fun x5 h5 h=>cD (oa h5)<|sF h ?_ ?_<;>intro h
   ·refine sM Z<|k3<|k3<|k3<|k3<|sK<|sT ?_
    refine sN<|sO<|cT<|gU Z<|sU<|sN<|qR ?_
    cases oI h
    exact⟨nofun,rfl,rfl⟩
   refine sM Z<|sM Z<|sF h ?_ ?_<;>intro h
   ·refine sM Z<|sV (.ptr 64 0)<|sL Z<|sM Z<|sM Z<|sV (rI (rW (s1-(1:Int))))<|bE h fun x8 h8 h=>eG h8 Z<|sV (.cptr [.int .i64 x8.fTo,.int .i64 x8.di.bd,.int .i64 x8.di.aY,.int .i64 x8.aP.fX,.int .i64 x8.aP.fY,.int .i64 x8.aP.fZ,.lst (x8.bu.aV.map aD.pd)])<|sC Z<|sV (rB (decide (x4.bj<x8.fTo)))<|sV (rB (decide (x4.bj<x8.fTo)))<|sF h ?_ ?_<;>intro h
    ·refine sN<|sO<|cT<|gU Z<|sU<|sN<|qR ?_
     cases oI h
     exact⟨nofun,rfl,rfl⟩
    refine sN<|sO<|cF<|qK<|WC.region Z Z<|sV (rI (rW (s1+(1:Int))))<|sM Z<|sN ?_
    cases oI h
    exact⟨rfl,rfl⟩
   refine sM Z<|k3<|k3<|k3<|sU<|sU ?_
   refine sN<|sO<|cF<|qK<|WC.region Z Z<|sV (rI (rW (s1+(1:Int))))<|sM Z<|sN ?_
   cases oI h
   exact⟨rfl,rfl⟩
  refine sN<|qS<|cF<|qX ?_
  cases oI h
  exact⟨nofun,rfl,rfl⟩
 intro e R' B' he hq
 rcases o11 with y12|r13
 ·obtain⟨rfl,hI⟩:=hq
  refine qE<|gS Z hI<|sM Z<|sE (rI (a0.length:Int)) (dX _ _)<|bE h fun x14 h14 h=>cD (jK h14)<|sA Z<|sN<|qR ?_
  exact oI h▸qD
 obtain⟨rfl,hf⟩:=hq
 cases oI h
 exact hf
theorem mr{a0:(List UInt8)}{r:Bool}(h:gf a0=some r):EvP prog az ext 306 [rS a0] [] (rB r,[]):=by
 refine Ev.body Z Tryz.func306 Z Zk<|gU Z<|sU<|sN<|gU Z<|sM Z<|sM Z<|sV (rB (!(a0==a0)))<|sA Z<|sN<|qR ?_
 exact oI h▸qD
theorem fj{a0:(List UInt8)}{a1:(List UInt8)}{r:Int}(h:bW a0 a1=some r):EvP prog az ext 239 [rS a0,rS a1] [] (rI r,[]):=by
 refine Ev.body Z Tryz.func239 Z Zk<|gU Z<|sV (r0)<|sN<|gU Z<|sM Z<|bE h fun x1 h1 h=>cD (mr h1)<|sA Z<|sN<|gU Z<|sM Z<|bE h fun x2 h2 h=>cD (mr h2)<|sA Z ?_
 refine sN<|qS<|gU Z<|sF h ?_ ?_<;>intro h
 ·refine sN<|cT<|qS<|gU Z<|sF h ?_ ?_<;>intro h
  ·refine sN<|cT<|gU Z<|sV (r0)<|sN<|qR ?_
   exact oI h▸qD
  refine sN<|cF<|qK<|gU Z<|sV (rI (-1))<|sN<|qR ?_
  exact oI h▸qD
 refine sN<|cF<|qK<|qS<|gU Z<|sF h ?_ ?_<;>intro h
 ·refine sN<|cT<|gU Z<|sV (rI 1)<|sN<|qR ?_
  exact oI h▸qD
 refine sN<|cF<|qK<|qS<|gU Z<|sM Z<|sM Z<|sF h ?_ ?_<;>intro h
 ·refine sN<|cT<|gU Z<|sV (rI (-1))<|sN<|qR ?_
  exact oI h▸qD
 refine sN<|cF<|qK<|qS<|gU Z<|sM Z<|sM Z<|sF h ?_ ?_<;>intro h
 ·refine sN<|cT<|gU Z<|sV (rI 1)<|sN<|qR ?_
  exact oI h▸qD
 refine sN<|cF<|qK<|gU Z<|sV (r0)<|sN<|qR ?_
 exact oI h▸qD
theorem ic{a0:(List Int)}{r:Int}(h:cM a0=some r):EvP prog az ext 95 [rL a0] [] (rI r,[]):=by
 refine Ev.body Z Tryz.func95 Z Zk<|gU Z<|sV (r0)<|sN<|gU Z<|sV (r0)<|sN<|qS<|gU Z<|sM Z<|sE (rI (a0.length:Int)) (dX _ _)<|sV (r0)<|sN<|bE h fun o7 ho7 h=>WC.block (WC.loop (WL.fV ho7 (fun s R' B'=>dN prog 0 (A R' B') (az.at_ 95 0 3)=some (A [(3,r0),(6,rL a0),(7,rI (a0.length:Int)),(8,rI s)] [])) (fun o e R' B'=>match o with| .inl y=>e= .exit 0∧dN prog 0 (A R' B') (az.at_ 95 0 8)=some (A [(3,r0)] [])| .inr r=>e= .ret∧finish prog (az.own 95) Tryz.f95 0 (A R' B')=some (rI r,[])) Z ?_ ?_))
 ·rintro s1 R' B' q2 hI h
  refine gS Z hI<|sF h ?_ ?_<;>intro h
  ·refine sN<|qS<|cT<|qK<|qS<|qB<|gU Z<|bE h fun x4 h4 h=>eG h4 Z<|sC Z<|sA Z<|sN<|gU Z<|sM Z<|sM Z ?_
   refine sF h ?_ ?_<;>intro h
   ·refine sN<|cT<|gU Z<|sM Z<|sA Z<|sN<|qR ?_
    cases oI h
    exact⟨nofun,rfl,rfl⟩
   refine sN<|cF<|qK<|WC.region Z Z<|sV (rI (rW (s1+(1:Int))))<|sM Z<|sN ?_
   cases oI h
   exact⟨rfl,rfl⟩
  refine sN<|qS<|cF<|qX ?_
  cases oI h
  exact⟨nofun,rfl,rfl⟩
 intro e R' B' he hq
 rcases o7 with y8|r9
 ·obtain⟨rfl,hI⟩:=hq
  refine qE<|gS Z hI<|sM Z<|sA Z<|sN<|qR ?_
  exact oI h▸qD
 obtain⟨rfl,hf⟩:=hq
 cases oI h
 exact hf
theorem nK{a0:au}{a1:au}{r:Int}(h:ey a0 a1=some r):EvP prog az ext 153 [.d (au.pd a0),.d (au.pd a1)] [] (rI r,[]):=by
 refine Ev.body Z Tryz.func153 Z Zk<|gU Z<|sB (.ptr 32 0) 32 (.var (au.rc a0))<|sB (.ptr 48 0) 48 (.var (au.rc a1))<|sV (r0)<|sN<|WC.cI Z Z<|sV (.ptr 32 0)<|sL Z<|sV (.ptr 48 0)<|sL Z<|bE h fun x1 h1 h=>cD (fj h1)<|sV (.ptr 32 1)<|sL Z ?_
 refine sV (.ptr 48 1)<|sL Z<|bE h fun x2 h2 h=>cD (fj h2)<|sV (.ptr 32 2)<|sL Z<|sV (.ptr 48 2)<|sL Z<|bE h fun x3 h3 h=>cD (fj h3)<|sV (.ptr 32 3)<|sL Z<|sV (.ptr 48 3)<|sL Z<|bE h fun x4 h4 h=>?_
 refine cD (fj h4)<|sV (.d (.lst ([x1,x2,x3,x4].map (PD.int .i64))))<|bE h fun x5 h5 h=>cD (ic h5)<|sA Z ?_
 refine sN<|sO<|qR ?_
 exact oI h▸qD
theorem gJ{a0:al}{r:Bool}(h:ch a0=some r):EvP prog az ext 83 [.d (al.pd a0)] [] (rB r,[]):=by
 refine Ev.body Z Tryz.func83 Z Zk<|gU Z<|sB (.ptr 16 0) 16 (.var [rM aq.pd a0.aJ])<|sU<|sN<|qS<|gU Z<|sV (.ptr 16 0)<|sL Z<|sE (rI (a0.aJ.length:Int)) (dX _ _)<|sV (r0)<|sN<|bE h fun o14 ho14 h=>WC.block (WC.loop (WL.fV ho14 (fun s R' B'=>dN prog 0 (A R' B') (az.at_ 83 0 2)=some (A [(1,.ptr 16 0),(6,rM aq.pd a0.aJ),(7,rI (a0.aJ.length:Int)),(8,rI s)] [(16,.var [rM aq.pd a0.aJ])])) (fun o e R' B'=>match o with| .inl y=>e= .exit 0∧dN prog 0 (A R' B') (az.at_ 83 0 7)=some (A [(1,.ptr 16 0)] [(16,.var [rM aq.pd a0.aJ])])| .inr r=>e= .ret∧finish prog (az.own 83) Tryz.f83 0 (A R' B')=some (rB r,[])) Z ?_ ?_))
 ·rintro s1 R' B' q2 hI h
  refine gS Z hI<|sF h ?_ ?_<;>intro h
  ·refine sN<|qS<|cT<|qK<|qS<|qB<|gU Z<|sM Z<|bE h fun x4 h4 h=>eG h4 Z<|sV (.d (aq.pd x4))<|sB (.ptr 64 0) 64 (.var [rS [],rS [],rS [],rS [],.dO])<|sA Z<|sS 64 (.var (aq.rc x4))<|sN ?_
   refine WC.cI Z Z<|sV (.ptr 64 0)<|sV (.d (au.pd x4.aw))<|bE h fun x5 h5 h=>cD (mo h5)<|sF h ?_ ?_<;>intro h
   ·refine sM Z<|k3<|sK<|sT<|sM Z<|k3<|k3<|sK<|sK ?_
    refine k3<|k3<|sK<|sT ?_
    refine sN<|sO<|cT<|gU Z<|sU<|sN<|qR ?_
    cases oI h
    exact⟨nofun,rfl,rfl⟩
   refine sM Z<|sV (.ptr 64 4)<|sL Z<|bE h fun x7 h7 h=>cD (ql h7)<|sV (rB (!x7))<|sF h ?_ ?_<;>intro h
   ·refine sM Z<|k3<|k3<|k3<|k3<|sK<|sK ?_
    refine sK<|sT ?_
    refine sN<|sO<|cT<|gU Z<|sU<|sN<|qR ?_
    cases oI h
    exact⟨nofun,rfl,rfl⟩
   refine sM Z<|sM Z<|sF h ?_ ?_<;>intro h
   ·refine sM Z<|sV (.ptr 16 0)<|sL Z<|sM Z<|sV (rI (rW (s1-(1:Int))))<|bE h fun x10 h10 h=>eG h10 Z<|sV (.cptr [.str x10.aw.ba,.str x10.aw.aN,.str x10.aw.av,.str x10.aw.bc,.lst (x10.aT.map ap.pd)])<|sV (.d (au.pd x10.aw))<|sV (.ptr 64 0)<|sV (.d (au.pd x4.aw))<|bE h fun x11 h11 h=>cD (nK h11)<|sV (rB (decide (x11>=(0:Int))))<|sV (rB (decide (x11>=(0:Int)))) ?_
    refine sF h ?_ ?_<;>intro h
    ·refine sN<|sO<|cT<|gU Z<|sU<|sN<|qR ?_
     cases oI h
     exact⟨nofun,rfl,rfl⟩
    refine sN<|sO<|cF<|qK<|WC.region Z Z<|sV (rI (rW (s1+(1:Int))))<|sM Z<|sN ?_
    cases oI h
    exact⟨rfl,rfl⟩
   refine sM Z<|k3<|k3<|k3<|sK<|sK<|sU<|sU ?_
   refine sN<|sO<|cF<|qK<|WC.region Z Z<|sV (rI (rW (s1+(1:Int))))<|sM Z<|sN ?_
   cases oI h
   exact⟨rfl,rfl⟩
  refine sN<|qS<|cF<|qX ?_
  cases oI h
  exact⟨nofun,rfl,rfl⟩
 intro e R' B' he hq
 rcases o14 with y15|r16
 ·obtain⟨rfl,hI⟩:=hq
  refine qE<|gS Z hI<|sV (.ptr 16 0)<|sL Z<|sE (rI (a0.aJ.length:Int)) (dX _ _)<|sV (rB (decide ((a0.aJ.length:Int)<=(128:Int))))<|sA Z<|sN<|qR ?_
  exact oI h▸qD
 obtain⟨rfl,hf⟩:=hq
 cases oI h
 exact hf
theorem n5{a0:Int}{r:Bool}(h:jw a0=some r):EvP prog az ext 170 [rI a0] [] (rB r,[]):=by
 refine Ev.body Z Tryz.func170 Z Zk<|gU Z<|sU<|sN<|gU Z<|sM Z<|sM Z<|sV (rB (a0 != a0))<|sA Z<|sN<|qR ?_
 exact oI h▸qD
theorem bL{a0:Int}{a1:Int}{r:Int}(h:bK a0 a1=some r):EvP prog az ext 96 [rI a0,rI a1] [] (rI r,[]):=by
 refine Ev.body Z Tryz.func96 Z Zk<|gU Z<|sV (r0)<|sN<|gU Z<|sM Z<|bE h fun x1 h1 h=>cD (n5 h1)<|sA Z<|sN<|gU Z<|sM Z<|bE h fun x2 h2 h=>cD (n5 h2)<|sA Z ?_
 refine sN<|qS<|gU Z<|sF h ?_ ?_<;>intro h
 ·refine sN<|cT<|qS<|gU Z<|sF h ?_ ?_<;>intro h
  ·refine sN<|cT<|gU Z<|sV (r0)<|sN<|qR ?_
   exact oI h▸qD
  refine sN<|cF<|qK<|gU Z<|sV (rI (-1))<|sN<|qR ?_
  exact oI h▸qD
 refine sN<|cF<|qK<|qS<|gU Z<|sF h ?_ ?_<;>intro h
 ·refine sN<|cT<|gU Z<|sV (rI 1)<|sN<|qR ?_
  exact oI h▸qD
 refine sN<|cF<|qK<|qS<|gU Z<|sM Z<|sM Z<|sF h ?_ ?_<;>intro h
 ·refine sN<|cT<|gU Z<|sV (rI (-1))<|sN<|qR ?_
  exact oI h▸qD
 refine sN<|cF<|qK<|qS<|gU Z<|sM Z<|sM Z<|sF h ?_ ?_<;>intro h
 ·refine sN<|cT<|gU Z<|sV (rI 1)<|sN<|qR ?_
  exact oI h▸qD
 refine sN<|cF<|qK<|gU Z<|sV (r0)<|sN<|qR ?_
 exact oI h▸qD
theorem rP{a0:ai}{a1:ai}{r:Int}(h:cA a0 a1=some r):EvP prog az ext 80 [.d (ai.pd a0),.d (ai.pd a1)] [] (rI r,[]):=by
 refine Ev.body Z Tryz.func80 Z Zk<|gU Z<|sB (.ptr 32 0) 32 (.var (ai.rc a0))<|sB (.ptr 48 0) 48 (.var (ai.rc a1))<|sV (r0)<|sN<|WC.cI Z Z<|sV (.ptr 32 0)<|sV (.d (au.pd a0.aw))<|sV (.ptr 48 0)<|sV (.d (au.pd a1.aw))<|bE h fun x1 h1 h=>cD (nK h1)<|sV (.ptr 32 4)<|sL Z ?_
 refine sV (.ptr 48 4)<|sL Z<|bE h fun x2 h2 h=>cD (bL h2)<|sV (.ptr 32 5)<|sL Z<|sV (.ptr 48 5)<|sL Z<|bE h fun x3 h3 h=>cD (bL h3)<|sV (.ptr 32 6)<|sL Z<|sV (.ptr 48 6)<|sL Z<|bE h fun x4 h4 h=>?_
 refine cD (bL h4)<|sV (.ptr 32 7)<|sL Z<|sV (.ptr 48 7)<|sL Z<|bE h fun x5 h5 h=>cD (bL h5)<|sV (.ptr 32 8)<|sL Z<|sV (.ptr 48 8)<|sL Z<|bE h fun x6 h6 h=>cD (bL h6)<|sV (.d (.lst ([x1,x2,x3,x4,x5,x6].map (PD.int .i64))))<|bE h fun x7 h7 h=>?_
 refine cD (ic h7)<|sA Z ?_
 refine sN<|sO<|qR ?_
 cases oI h
 exact qG
theorem oW{d0:(List ai)}{r:(List ai)}(h:eO d0=some r):EvP prog az ext 183 [.ref 0 0] [.arr 0 66 (d0.map ai.pd)] (rM ai.pd r,[.dead]):=by
 refine Ev.body Z Tryz.func183 Z Zk<|gU Z<|sV .dO<|sN<|qS<|gU Z<|sM Z<|WO.vG Z Z Z Z Z Z Z Z Z<|sF h ?_ ?_<;>intro h
 ·refine sN<|cT<|gU Z<|sM Z<|sA Z<|sN<|qR ?_
  exact oI h▸qD
 refine sN<|cF<|qK<|qS<|gU Z<|sV (rI 1)<|sN<|bE h fun o39 ho39 h=>WC.block (WC.loop (WL.fV ho39 (fun s R' B'=>dN prog 1 (A R' B') (az.at_ 183 1 4)=some (A [(0,.ref 0 0),(3,rI s)] [(0,.arr 0 66 (d0.map ai.pd))])) (fun o e R' B'=>match o with| .inl y=>e= .exit 0∧dN prog 1 (A R' B') (az.at_ 183 1 16)=some (A [(0,.ref 0 0)] [(0,.arr 0 66 (d0.map ai.pd))])| .inr r=>e= .ret∧finish prog (az.own 183) Tryz.f183 1 (A R' B')=some (rM ai.pd r,[.dead])) Z ?_ ?_))
 ·rintro s2 R' B' q3 hI h
  refine qS<|gS Z hI<|sM Z<|sM Z<|WO.vG Z Z Z Z Z Z Z Z Z<|sF h ?_ ?_<;>intro h
  ·refine sN<|cT<|qK<|qS<|qB<|WC.cI Z Z<|sM Z<|sM Z<|bE h fun x6 h6 h=>WO.qV h6 Z Z Z Z Z Z Z Z<|bE h fun x7 h7 h=>WO.oB h7 Z Z Z Z Z Z<|sM Z<|sM Z<|sV (rI (rW (s2-(1:Int)))) ?_
   refine bE h fun x9 h9 h=>WO.qV h9 Z Z Z Z Z Z Z Z<|bE h fun x10 h10 h=>WO.oB h10 Z Z Z Z Z Z<|ir h (fun hb11 h=>?_) (fun hb11 h=>?_)
   ·refine WO.uA (eqE_66 x7 x10) hb11 Z Z Z Z Z ?_
    refine sN<|sO<|cT<|gU Z<|sM Z<|sM Z<|bE h fun x12 h12 h=>WO.subR h12 Z Z Z Z Z Z Z Z Z Z Z Z<|sA Z<|sN<|qS<|gU Z<|sV (rI 1)<|sN<|bE h fun o32 ho32 h=>WC.block (WC.loop (WL.fV ho32 (fun s R' B'=>dN prog 1 (A R' B') (az.at_ 183 1 9)=some (A [(0,.ref 0 0),(3,rI s.1),(4,.view 0 0 (0+(s2:Int).toNat) (0+((d0.length:Int):Int).toNat)),(5,rI s.2.1)] [(0,.arr 0 66 (s.2.2.map ai.pd))])) (fun o e R' B'=>e= .exit 2∧dN prog 1 (A R' B') (az.at_ 183 1 14)=some (A [(0,.ref 0 0),(3,rI o.1)] [(0,.arr 0 66 (o.2.map ai.pd))])) Z ?_ ?_))
    ·rintro⟨s13,s14,s15⟩ R' B' q18 hI h
     unfold gu at h
     refine qS<|gS Z hI<|sM Z<|sM Z<|bE h fun x19 h19 h=>WO.lenVw h19 Z Z Z Z Z Z Z Z Z<|sF h ?_ ?_<;>intro h
     ·refine sN<|cT<|qK<|qS<|qB<|WC.cI Z Z<|sM Z<|sM Z<|bE h fun x21 h21 h=>WO.eltV h21 Z Z Z Z Z Z Z Z<|bE h fun x22 h22 h=>WO.oB h22 Z Z Z Z Z Z<|sM Z<|sM Z<|sV (rI (rW (s14-(1:Int)))) ?_
      refine bE h fun x23 h23 h=>WO.eltV h23 Z Z Z Z Z Z Z Z<|bE h fun x24 h24 h=>WO.oB h24 Z Z Z Z Z Z<|ir h (fun hb25 h=>?_) (fun hb25 h=>?_)
      ·refine WO.uA (eqN_66 x22 x24) hb25 Z Z Z Z Z ?_
       refine sN<|sO<|cT<|gU Z<|sM Z<|sM Z<|sM Z<|sM Z<|bE h fun x26 h26 h=>WO.eltV h26 Z Z Z Z Z Z Z Z<|bE h fun x27 h27 h=>WO.oB h27 Z Z Z Z Z Z<|bE h fun x29 h29 h=>WO.qV h29 Z Z Z Z Z Z Z Z<|bE h fun x30 h30 h=>WO.th (g:=ai.pd) (sz:=9) (p:=ai.pd x27) h30 (by intro _;kernel_rfl) (by intro _;kernel_rfl) Z Z Z Z Z Z Z Z Z ?_
       refine sN<|WC.region Z Z<|sM Z<|sV (rI (rW (s13+(1:Int))))<|sA Z<|sN<|WC.region Z Z<|sM Z<|sV (rI (rW (s14+(1:Int))))<|sA Z<|sN ?_
       cases oI h
       exact⟨rfl,rfl⟩
      refine WO.uA (eqN_66 x22 x24) hb25 Z Z Z Z Z ?_
      refine sN<|sO<|cF<|qK<|WC.region Z Z<|sM Z<|sV (rI (rW (s14+(1:Int))))<|sA Z<|sN ?_
      cases oI h
      exact⟨rfl,rfl⟩
     refine sN<|cF<|qX ?_
     cases oI h
     exact⟨nofun,rfl,rfl⟩
    intro e R' B' he hq
    obtain⟨rfl,hI⟩:=hq
    refine qE<|gS Z hI<|sM Z<|sM Z<|bE h fun x33 h33 h=>WO.subR h33 Z Z Z Z Z Z Z Z Z Z Z Z<|bE h fun x34 h34 h=>WO.clearN (z:=(ai.mk (au.mk [] [] [] []) 0 0 0 0 0)) (g:=ai.pd) Z Z Z Z Z Z Z (dst_view h34 Z) Z Z Z Z<|sN<|gU Z<|sM Z<|sM Z<|bE h fun x36 h36 h=>WO.subR h36 Z Z Z Z Z Z Z Z Z Z Z Z<|sA Z ?_
    refine sN<|qR<|bE h fun x37 h37 h=>?_
    cases oI h
    exact⟨nofun,rfl,(AP h37 rfl rfl rfl rfl rfl)⟩
   refine WO.uA (eqE_66 x7 x10) hb11 Z Z Z Z Z ?_
   refine sN<|sO<|cF<|qK<|WC.region Z Z<|sM Z<|sV (rI (rW (s2+(1:Int))))<|sA Z<|sN ?_
   cases oI h
   exact⟨rfl,rfl⟩
  refine sN<|cF<|qX ?_
  cases oI h
  exact⟨nofun,rfl,rfl⟩
 intro e R' B' he hq
 rcases o39 with y40|r41
 ·obtain⟨rfl,hI⟩:=hq
  refine qE<|gS Z hI<|sM Z<|sA Z<|sN<|qR ?_
  exact oI h▸qD
 obtain⟨rfl,hf⟩:=hq
 cases oI h
 exact hf
theorem pM{a0:(List ai)}{r:(List ai)}(h:dE a0=some r):EvP prog az ext 106 [rM ai.pd a0] [] (rM ai.pd r,[]):=by
 refine Ev.body Z Tryz.func106 Z Zk<|gU Z<|sV .dO<|sN<|gU Z<|sM Z<|bE h fun x1 h1 h=>cR (.ref 80 0) [(80,.arr 0 66 (x1.map ai.pd))] (clone_182 h1)<|sA Z<|sN<|gU Z<|sM Z<|bE h fun x2 h2 h=>cR (.tup []) [(80,.arr 0 66 (x2.map ai.pd))] (sort_79_80 h2)<|sN ?_
 refine gU Z<|sM Z<|bE h fun x3 h3 h=>cR (rM ai.pd x3) [(80,.dead)] (oW h3)<|sA Z<|sN<|qR ?_
 exact oI h▸qD
theorem rQ{a0:Int}{a1:Int}{a2:Int}{r:Bool}(h:fx a0 a1 a2=some r):EvP prog az ext 244 [rI a0,rI a1,rI a2] [] (rB r,[]):=by
 refine Ev.body Z Tryz.func244 Z Zk<|gU Z<|sU<|sN<|gU Z<|sM Z<|sM Z<|sF h ?_ ?_<;>intro h
 ·refine sM Z<|sM Z<|sM Z<|sV (rB (decide (a0<=a2)))<|sV (rB (decide (a0<=a2)))<|sA Z<|sN<|qR ?_
  exact oI h▸qD
 refine sM Z<|k3<|sU<|sA Z<|sN<|qR ?_
 exact oI h▸qD
theorem qq{a0:ai}{r:Bool}(h:df a0=some r):EvP prog az ext 157 [.d (ai.pd a0)] [] (rB r,[]):=by
 refine Ev.body Z Tryz.func157 Z Zk<|gU Z<|sB (.ptr 16 0) 16 (.var (ai.rc a0))<|sU<|sN<|gU Z<|sV (.ptr 16 0)<|sV (.d (au.pd a0.aw))<|bE h fun x1 h1 h=>ir h (fun hb2 h=>?_) (fun hb2 h=>?_)
 ·refine WO.lE (v:=rB true) (u:=[]) Z Z (fun _=>Z) Z Z Z Z Z (mo h1) Z Z (congrArg (fun b=>RV.d (.bool b)) hb2) Z<|sM Z<|sV (.ptr 16 5)<|sL Z<|sV (rB (decide (a0.aQ>=(0:Int))))<|sF h ?_ ?_<;>intro h
  ·refine sM Z<|sV (.ptr 16 5)<|sL Z<|sV (.ptr 16 4)<|sL Z<|sV (rB (decide (a0.aQ<=a0.bn)))<|sF h ?_ ?_<;>intro h
   ·refine sM Z<|sV (.ptr 16 4)<|sL Z<|sV (.ptr 16 6)<|sL Z<|sV (rB (decide (a0.bn<=a0.bw)))<|sF h ?_ ?_<;>intro h
    ·refine sM Z<|sV (.ptr 16 6)<|sL Z<|sV (rB (decide (a0.bw<=(18014398509481984:Int))))<|sF h ?_ ?_<;>intro h
     ·refine sM Z<|sV (.ptr 16 7)<|sL Z<|bE h fun x7 h7 h=>cD (rQ h7)<|sF h ?_ ?_<;>intro h
      ·refine sM Z<|sV (.ptr 16 8)<|sL Z<|bE h fun x9 h9 h=>cD (rQ h9)<|sV (rB x9)<|sA Z<|sN<|qR ?_
       cases oI h
       exact qG
      refine sM Z<|k3<|sU<|sA Z<|sN<|qR ?_
      cases oI h
      exact qG
     refine sM Z<|k3<|sU<|sM Z<|k3<|sU<|sA Z<|sN<|qR ?_
     cases oI h
     exact qG
    refine sM Z<|k3<|sU<|sM Z<|k3<|sU<|sM Z<|k3<|sU ?_
    refine sA Z<|sN<|qR ?_
    cases oI h
    exact qG
   refine sM Z<|k3<|sK<|sK<|sU<|sM Z<|k3<|sU<|sM Z<|sK<|sK ?_
   refine sK<|sU<|sM Z<|k3<|sU<|sA Z<|sN<|qR ?_
   cases oI h
   exact qG
  refine sM Z<|k3<|sK<|sK<|sU<|sM Z<|k3<|sK<|sK<|sU<|sM Z ?_
  refine k3<|sU<|sM Z<|k3<|sU<|sM Z<|k3<|sU<|sA Z ?_
  refine sN<|qR ?_
  cases oI h
  exact qG
 refine WO.lE (v:=rB false) (u:=[]) Z Z (fun _=>Z) Z Z Z Z Z (mo h1) Z Z (congrArg (fun b=>RV.d (.bool b)) hb2) Z<|sM Z<|k3<|sU<|sM Z<|k3<|sK<|sK<|sU<|sM Z<|sK ?_
 refine k3<|sK<|sU<|sM Z<|k3<|sU<|sM Z<|k3<|sU ?_
 refine sM Z<|k3<|sU<|sA Z<|sN<|qR ?_
 cases oI h
 exact qG
theorem oF{a0:ap}{r:ap}(h:dP a0=some r):EvP prog az ext 326 [.d (ap.pd a0)] [] (.d (ap.pd r),[]):=by
 refine Ev.body Z Tryz.func326 Z Zk<|gU Z<|sB (.ptr 16 0) 16 (.var (ap.rc a0))<|sB (.ptr 32 0) 32 (.var zZ3)<|sN<|gU Z<|sV (.ptr 16 7)<|sV (.ptr 16 7)<|sL Z<|bE h fun x1 h1 h=>cR (.ref 112 0) [(112,.arr 0 184 (x1.map aD.pd))] (clone_364 h1)<|sV (.ptr 16 7)<|sV (.ptr 16 7)<|sS 16 (.var (rI a0.bj::rI a0.fTo::rI a0.di.bd::rI a0.di.aY::aa.rc a0.aP++[.ref 112 0]))<|sN ?_
 refine qS<|gU Z<|sV (.ptr 16 7)<|sV (.ptr 16 7)<|sL Z<|WO.vG Z Z Z Z Z Z Z Z Z<|sV (r0)<|sN<|bE h fun o16 ho16 h=>WC.block (WC.loop (WL.fV ho16 (fun s R' B'=>dN prog 0 (A R' B') (az.at_ 326 0 3)=some (A [(1,.ptr 16 0),(2,.ptr 32 0),(13,rI (x1.length:Int)),(14,rI s.1)] [(16,.var (rI a0.bj::rI a0.fTo::rI a0.di.bd::rI a0.di.aY::aa.rc a0.aP++[.ref 112 0])),(32,.var zZ3),(112,.arr 0 184 (s.2.map aD.pd))])) (fun o e R' B'=>e= .exit 0∧dN prog 0 (A R' B') (az.at_ 326 0 7)=some (A [(1,.ptr 16 0),(2,.ptr 32 0)] [(16,.var (rI a0.bj::rI a0.fTo::rI a0.di.bd::rI a0.di.aY::aa.rc a0.aP++[.ref 112 0])),(32,.var zZ3),(112,.arr 0 184 (o.map aD.pd))])) Z ?_ ?_))
 ·rintro⟨s2,s3⟩ R' B' q5 hI h
  refine gS Z hI<|sF h ?_ ?_<;>intro h
  ·refine sN<|qS<|cT<|qK<|qS<|qB<|gU Z<|sM Z<|sA Z<|sN<|WC.kT Z Z<|sV (.ptr 16 7)<|sV (.ptr 16 7)<|sL Z<|sM Z ?_
   refine sV (.ptr 16 7)<|sV (.ptr 16 7)<|sL Z<|sM Z<|bE h fun x8 h8 h=>WO.qV h8 Z Z Z Z Z Z Z Z<|sV (.elt 112 0 (s2).toNat 7)<|bE h fun x9 h9 h=>WO.oB h9 Z Z Z Z Z Z<|bE h fun x10 h10 h=>cR (.ref 448 0) [(448,.arr 0 3 (x10.map (PD.int .i64)))] (clone_107 h10)<|bE h fun x12 h12 h=>WO.qV h12 Z Z Z Z Z Z Z Z<|sV (.elt 112 0 (s2).toNat 7)<|bE h fun x13 h13 h=>?_
   refine WO.BC (g:=aD.pd) (u:=[(448,.dead)]) (sz:=1) h13 (fun _=>Z) (fun _=>Nat.le_of_ble_eq_true Z) Z Z Z Z Z Z Z Z Z Z Z ?_
   refine sN<|sO<|WC.region Z Z<|sV (rI (rW (s2+(1:Int))))<|sM Z<|sN ?_
   cases oI h
   exact⟨rfl,rfl⟩
  refine sN<|qS<|cF<|qX ?_
  cases oI h
  exact⟨nofun,rfl,rfl⟩
 intro e R' B' he hq
 obtain⟨rfl,hI⟩:=hq
 refine qE<|gS Z hI<|sV (.agg (rI a0.bj::rI a0.fTo::rI a0.di.bd::rI a0.di.aY::aa.rc a0.aP++[.ref 112 0]))<|sH 32 (.var (rI a0.bj::rI a0.fTo::rI a0.di.bd::rI a0.di.aY::aa.rc a0.aP++[.ref 112 0]))<|sN<|qR ?_
 cases oI h
 exact qG
theorem qk{a0:aq}{r:aq}(h:fb a0=some r):EvP prog az ext 257 [.d (aq.pd a0)] [] (.agg (au.rc r.aw++[.ref 0 0]),[.arr 0 113 (r.aT.map ap.pd)]):=by
 refine Ev.body Z Tryz.func257 Z Zk<|gU Z<|sB (.ptr 16 0) 16 (.var (aq.rc a0))<|sB (.ptr 32 0) 32 (.var [rS [],rS [],rS [],rS [],.dO])<|sN<|gU Z<|sV (.ptr 16 4)<|sL Z<|bE h fun x1 h1 h=>cR (.ref 112 0) [(112,.arr 0 113 (x1.map ap.pd))] (clone_325 h1)<|sV (.ptr 16 4)<|sS 16 (.var (au.rc a0.aw++[.ref 112 0]))<|sN<|qS<|gU Z ?_
 refine sV (.ptr 16 4)<|sL Z<|WO.vG Z Z Z Z Z Z Z Z Z<|sV (r0)<|sN<|bE h fun o15 ho15 h=>WC.block (WC.loop (WL.fV ho15 (fun s R' B'=>dN prog 0 (A R' B') (az.at_ 257 0 3)=some (A [(1,.ptr 16 0),(2,.ptr 32 0),(10,.ref 112 0),(11,rI (x1.length:Int)),(12,rI s.1)] [(16,.var (au.rc a0.aw++[.ref 112 0])),(32,.var [rS [],rS [],rS [],rS [],.dO]),(112,.arr 0 113 (s.2.map ap.pd))])) (fun o e R' B'=>e= .exit 0∧dN prog 0 (A R' B') (az.at_ 257 0 7)=some (A [(1,.ptr 16 0),(2,.ptr 32 0)] [(16,.var (au.rc a0.aw++[.ref 112 0])),(32,.var [rS [],rS [],rS [],rS [],.dO]),(112,.arr 0 113 (o.map ap.pd))])) Z ?_ ?_))
 ·rintro⟨s2,s3⟩ R' B' q5 hI h
  refine gS Z hI<|sF h ?_ ?_<;>intro h
  ·refine sN<|qS<|cT<|qK<|qS<|qB<|gU Z<|sM Z<|bE h fun x8 h8 h=>WO.qV h8 Z Z Z Z Z Z Z Z<|bE h fun x9 h9 h=>WO.oB h9 Z Z Z Z Z Z<|sB (.ptr 64 0) 64 (.var zZ3)<|sA Z<|sH 64 (.var (ap.rc x9)) ?_
   refine sN<|WC.kT Z Z<|sV (.ptr 16 4)<|sL Z<|sM Z<|sV (.d (ap.pd x9))<|bE h fun x10 h10 h=>cD (oF h10)<|bE h fun x12 h12 h=>WO.qV h12 Z Z Z Z Z Z Z Z<|bE h fun x13 h13 h=>WO.th (g:=ap.pd) (sz:=8) (p:=ap.pd x10) h13 (by intro _;kernel_rfl) (by intro _;kernel_rfl) Z Z Z Z Z Z Z Z Z ?_
   refine sN<|sO<|WC.region Z Z<|sV (rI (rW (s2+(1:Int))))<|sM Z<|sN ?_
   cases oI h
   exact⟨rfl,rfl⟩
  refine sN<|qS<|cF<|qX ?_
  cases oI h
  exact⟨nofun,rfl,rfl⟩
 intro e R' B' he hq
 obtain⟨rfl,hI⟩:=hq
 refine qE<|gS Z hI<|sV (.agg (au.rc a0.aw++[.ref 112 0]))<|sS 32 (.var (au.rc a0.aw++[.ref 112 0]))<|sN<|qR ?_
 exact oI h▸qD
theorem rD{a0:al}{a1:au}{r:aq×Bool}(h:gh a0 a1=some r):EvP prog az ext 175 [.d (al.pd a0),.d (au.pd a1)] [] (.tup [.d (aq.pd r.1),rB r.2],[]):=by
 refine Ev.body Z Tryz.func175 Z Zk<|gU Z<|sB (.ptr 32 0) 32 (.var [rM aq.pd a0.aJ])<|sB (.ptr 48 0) 48 (.var (au.rc a1))<|sB (.ptr 64 0) 64 (.var [rS [],rS [],rS [],rS [],.dO])<|sU<|sN<|qS<|gU Z<|sV (.ptr 32 0)<|sL Z<|sE (rI (a0.aJ.length:Int)) (dX _ _)<|sV (r0)<|sN<|bE h fun o8 ho8 h=>?_
 refine WC.block (WC.loop (WL.fV ho8 (fun s R' B'=>dN prog 0 (A R' B') (az.at_ 175 0 2)=some (A [(3,.ptr 48 0),(4,.ptr 64 0),(9,rM aq.pd a0.aJ),(10,rI (a0.aJ.length:Int)),(11,rI s)] [(48,.var (au.rc a1)),(64,.var [rS [],rS [],rS [],rS [],.dO])])) (fun o e R' B'=>match o with| .inl y=>e= .exit 0∧dN prog 0 (A R' B') (az.at_ 175 0 7)=some (A [(4,.ptr 64 0)] [(64,.var [rS [],rS [],rS [],rS [],.dO])])| .inr r=>e= .ret∧finish prog (az.own 175) Tryz.f175 0 (A R' B')=some (.tup [.d (aq.pd r.1),rB r.2],[])) Z ?_ ?_))
 ·rintro s1 R' B' q2 hI h
  refine gS Z hI<|sF h ?_ ?_<;>intro h
  ·refine sN<|qS<|cT<|qK<|qS<|qB<|gU Z<|bE h fun x4 h4 h=>eG h4 Z<|sV (.d (aq.pd x4))<|sB (.ptr 112 0) 112 (.var [rS [],rS [],rS [],rS [],.dO])<|sS 112 (.var (aq.rc x4))<|sN<|gU Z<|sV (.ptr 112 0) ?_
   refine sV (.d (au.pd x4.aw))<|sV (.d (au.pd a1))<|ir h (fun hb5 h=>?_) (fun hb5 h=>?_)
   ·refine WO.uA (eqE_64 x4.aw a1) hb5 Z Z Z Z Z<|sN<|cT<|gU Z<|sV (.d (aq.pd x4))<|bE h fun x6 h6 h=>cR (.agg (au.rc x6.aw++[.ref 320 0])) [(320,.arr 0 113 (x6.aT.map ap.pd))] (qk h6)<|sS 64 (.var (au.rc x6.aw++[.ref 320 0]))<|sT<|sN<|qR ?_
    cases oI h
    exact⟨nofun,rfl,rfl⟩
   refine WO.uA (eqE_64 x4.aw a1) hb5 Z Z Z Z Z<|sN<|cF<|qK<|WC.region Z Z<|sV (rI (rW (s1+(1:Int))))<|sM Z<|sN ?_
   cases oI h
   exact⟨rfl,rfl⟩
  refine sN<|qS<|cF<|qX ?_
  cases oI h
  exact⟨nofun,rfl,rfl⟩
 intro e R' B' he hq
 rcases o8 with y9|r10
 ·obtain⟨rfl,hI⟩:=hq
  refine qE<|gS Z hI<|sV (.agg [rS [],rS [],rS [],rS [],.dO])<|sS 64 (.var [rS [],rS [],rS [],rS [],.dO])<|sU<|sN<|qR ?_
  exact oI h▸qD
 obtain⟨rfl,hf⟩:=hq
 cases oI h
 exact hf
theorem inventory_at_ev{a0:aq}{a1:Int}{r:ap×Bool}(h:jg a0 a1=some r):EvP prog az ext 176 [.d (aq.pd a0),rI a1] [] (.tup [.d (ap.pd r.1),rB r.2],[]):=by
 refine Ev.body Z Tryz.func176 Z Zk<|gU Z<|sB (.ptr 32 0) 32 (.var (aq.rc a0))<|sB (.ptr 64 0) 64 (.var zZ3)<|sU<|sN<|qS<|gU Z<|sV (.ptr 32 4)<|sL Z<|sE (rI (a0.aT.length:Int)) (dX _ _)<|sV (r0)<|sN<|bE h fun o8 ho8 h=>WC.block (WC.loop (WL.fV ho8 (fun s R' B'=>dN prog 0 (A R' B') (az.at_ 176 0 2)=some (A [(1,rI a1),(4,.ptr 64 0),(9,rM ap.pd a0.aT),(10,rI (a0.aT.length:Int)),(11,rI s)] [(64,.var zZ3)])) (fun o e R' B'=>match o with| .inl y=>e= .exit 0∧dN prog 0 (A R' B') (az.at_ 176 0 7)=some (A [(4,.ptr 64 0)] [(64,.var zZ3)])| .inr r=>e= .ret∧finish prog (az.own 176) Tryz.f176 0 (A R' B')=some (.tup [.d (ap.pd r.1),rB r.2],[])) Z ?_ ?_))
 ·rintro s1 R' B' q2 hI h
  refine gS Z hI<|sF h ?_ ?_<;>intro h
  ·refine sN<|qS<|cT<|qK<|qS<|qB<|gU Z<|bE h fun x4 h4 h=>eG h4 Z<|sV (.d (ap.pd x4))<|sB (.ptr 112 0) 112 (.var zZ3)<|sH 112 (.var (ap.rc x4))<|sN<|gU Z<|sV (.ptr 112 0) ?_
   refine sL Z<|sM Z<|sF h ?_ ?_<;>intro h
   ·refine sM Z<|sM Z<|sV (.ptr 112 1)<|sL Z<|sV (rB (decide (a1<x4.fTo)))<|sF h ?_ ?_<;>intro h
    ·refine sN<|cT<|gU Z<|sV (.d (ap.pd x4))<|sH 64 (.var (ap.rc x4))<|sT<|sN<|qR ?_
     cases oI h
     exact⟨nofun,rfl,rfl⟩
    refine sN<|cF<|qK<|WC.region Z Z<|sV (rI (rW (s1+(1:Int))))<|sM Z<|sN ?_
    cases oI h
    exact⟨rfl,rfl⟩
   refine sM Z<|k3<|sK<|sU<|sN<|cF<|qK<|WC.region Z Z<|sV (rI (rW (s1+(1:Int))))<|sM Z<|sN ?_
   cases oI h
   exact⟨rfl,rfl⟩
  refine sN<|qS<|cF<|qX ?_
  cases oI h
  exact⟨nofun,rfl,rfl⟩
 intro e R' B' he hq
 rcases o8 with y9|r10
 ·obtain⟨rfl,hI⟩:=hq
  refine qE<|gS Z hI<|sG (.agg zZ3)<|sH 64 (.var zZ3)<|sU<|sN<|qR ?_
  cases oI h
  exact qG
 obtain⟨rfl,hf⟩:=hq
 cases oI h
 exact hf
theorem inventory_At_ev{a0:al}{a1:au}{a2:Int}{r:ap×Int}(h:fD a0 a1 a2=some r):EvP prog az ext 99 [.d (al.pd a0),.d (au.pd a1),rI a2] [] (.tup [.d (ap.pd r.1),rI r.2],[]):=by
 refine Ev.body Z Tryz.func99 Z Zk<|gU Z<|sB (.ptr 48 0) 48 (.var [rM aq.pd a0.aJ])<|sB (.ptr 64 0) 64 (.var (au.rc a1))<|sB (.ptr 96 0) 96 (.var zZ3)<|sV (r0)<|sN<|qS<|gU Z<|sV (.d (al.pd a0))<|bE h fun x1 h1 h=>cD (gJ h1)<|sF h ?_ ?_<;>intro h
 ·refine sN<|cT<|gU Z<|sG (.agg zZ3)<|sH 96 (.var zZ3)<|sV (rI 1)<|sN<|qR ?_
  cases oI h
  exact qG
 refine sN<|cF<|qK<|gU Z<|sV (.d (al.pd a0))<|sV (.d (au.pd a1))<|bE h fun x3 h3 h=>cR (.tup [.d (aq.pd x3.1),rB x3.2]) [] (rD h3)<|sM Z<|sV (.d (aq.pd x3.1))<|sV (rB x3.2)<|sB (.ptr 128 0) 128 (.var [rS [],rS [],rS [],rS [],.dO])<|sS 128 (.var (aq.rc x3.1))<|sA Z<|sN ?_
 refine gU Z<|sV (.d (aq.pd x3.1))<|sM Z<|bE h fun x4 h4 h=>cR (.tup [.d (ap.pd x4.1),rB x4.2]) [] (inventory_at_ev h4)<|sM Z<|sV (.d (ap.pd x4.1))<|sV (rB x4.2)<|sB (.ptr 160 0) 160 (.var zZ3)<|sH 160 (.var (ap.rc x4.1))<|sA Z<|sN<|qS<|gU Z<|sM Z ?_
 refine sF h ?_ ?_<;>intro h
 ·refine sN<|cT<|gU Z<|sG (.agg zZ3)<|sH 96 (.var zZ3)<|sV (rI 6)<|sN<|qR ?_
  cases oI h
  exact qG
 refine sN<|cF<|qK<|gU Z<|sV (.d (ap.pd x4.1))<|sH 96 (.var (ap.rc x4.1))<|sV (r0)<|sN<|qR ?_
 cases oI h
 exact qG
theorem oj{a0:ar}{a1:al}{a2:ai}{r:aj×ap×Bool}(h:da a0 a1 a2=some r):EvP prog az ext 84 [.d (ar.pd a0),.d (al.pd a1),.d (ai.pd a2)] [] (.tup [.d (aj.pd r.1),.d (ap.pd r.2.1),rB r.2.2],[]):=by
 refine Ev.body Z Tryz.func84 Z Zk<|gU Z<|sB (.ptr 48 0) 48 (.var (ar.rc a0))<|sB (.ptr 64 0) 64 (.var [rM aq.pd a1.aJ])<|sB (.ptr 80 0) 80 (.var (ai.rc a2))<|sB (.ptr 96 0) 96 (.var zZ4)<|sB (.ptr 112 0) 112 (.var zZ3)<|sU<|sN<|qS<|gU Z<|sV (.d (ai.pd a2))<|bE h fun x1 h1 h=>cD (qq h1)<|sF h ?_ ?_<;>intro h
 ·refine sN<|cT<|gU Z<|sG (.d (aj.pd (aj.mk (aa.mk 0 0 0) 0 0 0)))<|sG (.agg zZ3)<|sH 96 (.var zZ4)<|sH 112 (.var zZ3)<|sU<|sN<|qR ?_
  cases oI h
  exact qG
 refine sN<|cF<|qK<|gU Z<|sV (.d (al.pd a1))<|sV (.ptr 80 0)<|sV (.d (au.pd a2.aw))<|sV (.ptr 80 4)<|sL Z<|bE h fun x3 h3 h=>cR (.tup [.d (ap.pd x3.1),rI x3.2]) [] (inventory_At_ev h3)<|sM Z<|sV (.d (ap.pd x3.1))<|sV (rI x3.2)<|sB (.ptr 144 0) 144 (.var zZ3) ?_
 refine sH 144 (.var (ap.rc x3.1))<|sA Z<|sN<|qS<|gU Z<|sM Z<|sF h ?_ ?_<;>intro h
 ·refine sN<|cT<|gU Z<|sG (.d (aj.pd (aj.mk (aa.mk 0 0 0) 0 0 0)))<|sG (.agg zZ3)<|sH 96 (.var zZ4)<|sH 112 (.var zZ3)<|sU<|sN<|qR ?_
  cases oI h
  exact qG
 refine sN<|cF<|qK<|gU Z<|sV (.ptr 144 4)<|sV (.d (aa.pd x3.1.aP))<|sV (.ptr 80 5)<|sL Z<|sV (.ptr 80 6)<|sL Z<|sG (.d (aj.pd (aj.mk x3.1.aP a2.aQ a2.bw 1)))<|sB (.ptr 176 0) 176 (.var zZ4)<|sH 176 (.var (aa.rc x3.1.aP++[rI a2.aQ,rI a2.bw,rI 1]))<|sN<|qS ?_
 refine gU Z<|sV (.ptr 48 0)<|sV (.ptr 48 6)<|sV (.d (aA.pd a0.ae.aW))<|sV (.ptr 48 0)<|sV (.ptr 48 0)<|sV (.d (ag.pd a0.ae.aM))<|sV (.d (aj.pd (aj.mk x3.1.aP a2.aQ a2.bw 1)))<|bE h fun x5 h5 h=>cR (.tup [.d (aK.pd x5.1),rI x5.2]) [] (lG h5)<|sM Z<|sV (.d (aK.pd x5.1))<|sV (rI x5.2)<|sB (.ptr 192 0) 192 (.var [r0,r0])<|sS 192 (.var [rI x5.1.bj,rI x5.1.fTo]) ?_
 refine sA Z<|sN<|gU Z<|sM Z<|sF h ?_ ?_<;>intro h
 ·refine sN<|cT<|gU Z<|sG (.d (aj.pd (aj.mk (aa.mk 0 0 0) 0 0 0)))<|sG (.agg zZ3)<|sH 96 (.var zZ4)<|sH 112 (.var zZ3)<|sU<|sN<|qR ?_
  cases oI h
  exact qG
 refine sN<|cF<|qK<|WC.cI Z Z<|sV (.d (aj.pd (aj.mk x3.1.aP a2.aQ a2.bw 1)))<|sV (.d (ap.pd x3.1))<|sH 96 (.var (aa.rc x3.1.aP++[rI a2.aQ,rI a2.bw,rI 1]))<|sH 112 (.var (ap.rc x3.1))<|sT ?_
 refine sN<|sO<|qR ?_
 cases oI h
 exact qG
theorem rk{a0:ar}{a1:al}{a2:ai}{r:aj×Bool}(h:jS a0 a1 a2=some r):EvP prog az ext 35 [.d (ar.pd a0),.d (al.pd a1),.d (ai.pd a2)] [] (.tup [.d (aj.pd r.1),rB r.2],[]):=by
 refine Ev.body Z Tryz.func35 Z Zk<|gU Z<|sB (.ptr 48 0) 48 (.var (ar.rc a0))<|sB (.ptr 64 0) 64 (.var [rM aq.pd a1.aJ])<|sB (.ptr 80 0) 80 (.var (ai.rc a2))<|sB (.ptr 96 0) 96 (.var zZ4)<|sU<|sN<|qS<|gU Z<|sV (.d (ar.pd a0))<|bE h fun x1 h1 h=>cD (iW h1)<|sF h ?_ ?_<;>intro h
 ·refine sM Z<|k3<|sT<|sN<|cT<|gU Z<|sG (.d (aj.pd (aj.mk (aa.mk 0 0 0) 0 0 0)))<|sH 96 (.var zZ4)<|sU<|sN<|qR ?_
  cases oI h
  exact qG
 refine sM Z<|sV (.d (al.pd a1))<|bE h fun x3 h3 h=>cD (gJ h3)<|sV (rB (!x3))<|sF h ?_ ?_<;>intro h
 ·refine sN<|cT<|gU Z<|sG (.d (aj.pd (aj.mk (aa.mk 0 0 0) 0 0 0)))<|sH 96 (.var zZ4)<|sU<|sN<|qR ?_
  cases oI h
  exact qG
 refine sN<|cF<|qK<|gU Z<|sV (.d (ar.pd a0))<|sV (.d (al.pd a1))<|sV (.d (ai.pd a2))<|bE h fun x5 h5 h=>cR (.tup [.d (aj.pd x5.1),.d (ap.pd x5.2.1),rB x5.2.2]) [] (oj h5)<|sM Z<|sV (.d (aj.pd x5.1))<|sV (.d (ap.pd x5.2.1))<|sV (rB x5.2.2)<|sB (.ptr 128 0) 128 (.var zZ4)<|sB (.ptr 144 0) 144 (.var zZ3) ?_
 refine sH 128 (.var (aj.rc x5.1))<|sH 144 (.var (ap.rc x5.2.1))<|sA Z<|sN<|gU Z<|sV (.d (aj.pd x5.1))<|sM Z<|sH 96 (.var (aj.rc x5.1))<|sA Z<|sN<|qR ?_
 cases oI h
 exact qG
theorem event_usable_ev{a0:ar}{a1:al}{a2:(List ai)}{r:(List ai)×(List aj)×Int}(h:mD a0 a1 a2=some r):EvP prog az ext 65 [.d (ar.pd a0),.d (al.pd a1),rM ai.pd a2] [] (.tup [rM ai.pd r.1,rM aj.pd r.2.1,rI r.2.2],[]):=by
 refine Ev.body Z Tryz.func65 Z Zk<|gU Z<|sB (.ptr 48 0) 48 (.var (ar.rc a0))<|sB (.ptr 64 0) 64 (.var [rM aq.pd a1.aJ])<|sV .dO<|sV .dO<|sV (r0)<|sN<|qS<|qB<|gU Z<|sV (.d (ar.pd a0))<|bE h fun x1 h1 h=>cD (iW h1)<|sF h ?_ ?_<;>intro h
 ·refine sA Z<|sN<|cT<|gU Z<|sV .dO<|sV .dO<|sV (rI 27)<|sN<|qR ?_
  cases oI h
  exact qG
 refine sA Z<|sN<|cF<|gU Z<|sV (.d (al.pd a1))<|bE h fun x3 h3 h=>cD (gJ h3)<|sF h ?_ ?_<;>intro h
 ·refine sA Z<|sN<|cT<|gU Z<|sV .dO<|sV .dO<|sV (rI 1)<|sN<|qR ?_
  cases oI h
  exact qG
 refine sA Z<|sN<|cF<|qK<|gU Z<|sV .dO<|sN<|gU Z<|sV .dO<|sN<|qS<|gU Z<|sM Z<|bE h fun x5 h5 h=>cD (pM h5) ?_
 refine sE (rI (x5.length:Int)) (dX _ _)<|sV (r0)<|sN<|bE h fun o19 ho19 h=>WC.block (WC.loop (WL.fV ho19 (fun s R' B'=>dN prog 0 (A R' B') (az.at_ 65 0 8)=some (A [(3,.ptr 48 0),(4,.ptr 64 0),(9,.ref 656 0),(10,.ref 720 0),(24,rM ai.pd x5),(25,rI (x5.length:Int)),(26,rI s.1)] [(48,.var (ar.rc a0)),(64,.var [rM aq.pd a1.aJ]),(656,.arr 0 66 (s.2.1.map ai.pd)),(720,.arr 0 81 (s.2.2.map aj.pd))])) (fun o e R' B'=>e= .exit 1∧dN prog 0 (A R' B') (az.at_ 65 0 14)=some (A [(9,.ref 656 0),(10,.ref 720 0)] [(656,.arr 0 66 (o.1.map ai.pd)),(720,.arr 0 81 (o.2.map aj.pd))])) Z ?_ ?_))
 ·rintro⟨s6,s7,s8⟩ R' B' q11 hI h
  refine gS Z hI<|sF h ?_ ?_<;>intro h
  ·refine sN<|qS<|cT<|qK<|qS<|qB<|gU Z<|bE h fun x13 h13 h=>eG h13 Z<|sV (.d (ai.pd x13))<|sB (.ptr 192 0) 192 (.var zZ2)<|sH 192 (.var (ai.rc x13))<|sN<|gU Z<|sV (.d (ar.pd a0)) ?_
   refine sV (.d (al.pd a1))<|sV (.d (ai.pd x13))<|bE h fun x14 h14 h=>cR (.tup [.d (aj.pd x14.1),rB x14.2]) [] (rk h14)<|sM Z<|sV (.d (aj.pd x14.1))<|sV (rB x14.2)<|sB (.ptr 208 0) 208 (.var zZ4)<|sH 208 (.var (aj.rc x14.1))<|sA Z<|sN<|gU Z<|sF h ?_ ?_<;>intro h
   ·refine sN<|cT<|WC.kT Z Z<|sM Z<|sV (.d (ai.pd x13))<|sG (.d (.lst ([x13].map ai.pd)))<|bE h fun x16 h16 h=>aR h16 (fun _=>Z) Z<|sM Z<|sV (.d (aj.pd x14.1))<|sV (.d (.lst ([x14.1].map aj.pd)))<|bE h fun x17 h17 h=>aR h17 (fun _=>Z) Z<|sA Z<|sA Z ?_
    refine sN<|sO<|WC.region Z Z<|sV (rI (rW (s6+(1:Int))))<|sM Z<|sN ?_
    cases oI h
    exact⟨rfl,rfl⟩
   refine sN<|cF<|qK<|WC.region Z Z<|sV (rI (rW (s6+(1:Int))))<|sM Z<|sN ?_
   cases oI h
   exact⟨rfl,rfl⟩
  refine sN<|qS<|cF<|qX ?_
  cases oI h
  exact⟨nofun,rfl,rfl⟩
 intro e R' B' he hq
 obtain⟨rfl,hI⟩:=hq
 refine qE<|qS<|gS Z hI<|sM Z<|WO.vG Z Z Z Z Z Z Z Z Z<|sF h ?_ ?_<;>intro h
 ·refine sN<|cT<|gU Z<|sV .dO<|sV .dO<|sV (rI 8)<|sN<|qR ?_
  exact oI h▸qD
 refine sN<|cF<|qK<|gU Z<|sM Z<|sM Z<|sA Z<|sA Z<|sV (r0)<|sN<|qR ?_
 exact oI h▸qD
theorem mw{a0:aa}{a1:aa}{r:Int}(h:dT a0 a1=some r):EvP prog az ext 230 [.d (aa.pd a0),.d (aa.pd a1)] [] (rI r,[]):=by
 refine Ev.body Z Tryz.func230 Z Zk<|gU Z<|sB (.ptr 32 0) 32 (.var (aa.rc a0))<|sB (.ptr 48 0) 48 (.var (aa.rc a1))<|sV (r0)<|sN<|WC.cI Z Z<|sV (.ptr 32 0)<|sL Z<|sV (.ptr 48 0)<|sL Z<|bE h fun x1 h1 h=>cD (bL h1)<|sV (.ptr 32 1)<|sL Z ?_
 refine sV (.ptr 48 1)<|sL Z<|bE h fun x2 h2 h=>cD (bL h2)<|sV (.ptr 32 2)<|sL Z<|sV (.ptr 48 2)<|sL Z<|bE h fun x3 h3 h=>cD (bL h3)<|sV (.d (.lst ([x1,x2,x3].map (PD.int .i64))))<|bE h fun x4 h4 h=>cD (ic h4)<|sA Z ?_
 refine sN<|sO<|qR ?_
 exact oI h▸qD
theorem pr{a0:aj}{a1:aj}{r:Int}(h:iy a0 a1=some r):EvP prog az ext 151 [.d (aj.pd a0),.d (aj.pd a1)] [] (rI r,[]):=by
 refine Ev.body Z Tryz.func151 Z Zk<|gU Z<|sB (.ptr 32 0) 32 (.var (aj.rc a0))<|sB (.ptr 48 0) 48 (.var (aj.rc a1))<|sV (r0)<|sN<|WC.cI Z Z<|sV (.ptr 32 3)<|sL Z<|sV (.ptr 48 3)<|sL Z<|bE h fun x1 h1 h=>cD (bL h1)<|sV (.ptr 32 4)<|sL Z ?_
 refine sV (.ptr 48 4)<|sL Z<|bE h fun x2 h2 h=>cD (bL h2)<|sV (.ptr 32 0)<|sV (.d (aa.pd a0.aN))<|sV (.ptr 48 0)<|sV (.d (aa.pd a1.aN))<|bE h fun x3 h3 h=>cD (mw h3)<|sV (.ptr 32 5)<|sL Z<|sV (.ptr 48 5)<|sL Z<|bE h fun x4 h4 h=>?_
 refine cD (bL h4)<|sV (.d (.lst ([x1,x2,x3,x4].map (PD.int .i64))))<|bE h fun x5 h5 h=>cD (ic h5)<|sA Z ?_
 refine sN<|sO<|qR ?_
 exact oI h▸qD
theorem nZ{a0:Int}{a1:Int}{d0:(List aj)}{r:Int}(h:fA a0 a1 d0=some r):EvP prog az ext 150 [rI a0,rI a1,.ptr 0 0] [.var [rM aj.pd d0]] (rI r,[.var [rM aj.pd d0]]):=by
 refine Ev.body Z Tryz.func150 Z Zk<|gU Z<|sV (r0)<|sN<|WC.cI Z Z<|sL Z<|sM Z<|bE h fun x1 h1 h=>eG h1 Z<|sV (.d (aj.pd x1))<|sL Z<|sM Z<|bE h fun x2 h2 h=>eG h2 Z<|sV (.d (aj.pd x2)) ?_
 refine bE h fun x3 h3 h=>cD (pr h3)<|sA Z ?_
 refine sN<|sO<|qR ?_
 exact oI h▸qD
theorem d4{a0:Int}{a1:Int}{d0:(List Int)}{d1:(List aj)}{r:(List Int)}(h:cv a0 a1 d0 d1=some r):EvP prog az ext 301 [.ref 0 0,rI a0,rI a1,.clo 150 [.ptr 1 0]] [.arr 0 3 (d0.map (PD.int .i64)),.var [rM aj.pd d1]] (.tup [],[.arr 0 3 (r.map (PD.int .i64)),.var [rM aj.pd d1]]):=by
 refine Ev.body Z Tryz.func301 Z Zk<|gU Z<|sM Z<|sV (rI (rW (a0+(1:Int))))<|sA Z<|sN<|bE h fun o35 ho35 h=>?_
 cases oI h
 refine WC.block (WC.loop (WL.wI ho35 (fun s R' B'=>dN prog 2 (A R' B') (az.at_ 301 2 1)=some (A [(0,.ref 0 0),(1,rI a0),(2,rI a1),(3,.clo 150 [.ptr 1 0]),(8,rI s.1)] [(0,.arr 0 3 (s.2.map (PD.int .i64))),(1,.var [rM aj.pd d1])])) Z ?_))
 rintro⟨s1,s2⟩ R' B' q3 hI h
 refine qS<|gS Z hI<|sM Z<|sM Z<|sF h ?_ ?_<;>intro h
 ·refine sN<|cT<|qK<|qS<|qB<|gU Z<|sM Z<|sA Z<|sN<|bE h fun o32 ho32 h=>WC.block (WC.loop (WL.fV ho32 (fun s R' B'=>dN prog 2 (A R' B') (az.at_ 301 2 4)=some (A [(0,.ref 0 0),(1,rI a0),(2,rI a1),(3,.clo 150 [.ptr 1 0]),(8,rI s1),(9,rI s.1)] [(0,.arr 0 3 (s.2.map (PD.int .i64))),(1,.var [rM aj.pd d1])])) (fun o e R' B'=>e= .exit 2∧dN prog 2 (A R' B') (az.at_ 301 2 2)=some (A [(0,.ref 0 0),(1,rI a0),(2,rI a1),(3,.clo 150 [.ptr 1 0]),(8,rI o.1)] [(0,.arr 0 3 (o.2.map (PD.int .i64))),(1,.var [rM aj.pd d1])])) Z ?_ ?_))
  ·rintro⟨s5,s6⟩ R' B' q9 hI h
   refine qS<|WC.cI hI Z<|sM Z<|sM Z<|sF h ?_ ?_<;>intro h
   ·refine sM Z<|sM Z<|sM Z<|sM Z<|bE h fun x12 h12 h=>WO.qV h12 Z Z Z Z Z Z Z Z<|bE h fun x13 h13 h=>WO.oB h13 Z Z Z Z Z Z<|sM Z<|sM Z<|sV (rI (rW (s5-(1:Int))))<|bE h fun x15 h15 h=>WO.qV h15 Z Z Z Z Z Z Z Z<|bE h fun x16 h16 h=>WO.oB h16 Z Z Z Z Z Z ?_
    refine bE h fun x17 h17 h=>cR (rI x17) [(1,.var [rM aj.pd d1])] (nZ h17)<|sV (rB (decide (x17<(0:Int))))<|sF h ?_ ?_<;>intro h
    ·refine sN<|sO<|cT<|qK<|qS<|qB<|WC.kT Z Z<|sM Z<|sM Z<|sM Z<|sM Z<|sV (rI (rW (s5-(1:Int))))<|sM Z<|sM Z<|sV (rI (rW (s5-(1:Int))))<|bE h fun x20 h20 h=>?_
     refine WO.qV h20 Z Z Z Z Z Z Z Z<|bE h fun x21 h21 h=>WO.oB h21 Z Z Z Z Z Z<|sM Z<|sM Z<|bE h fun x23 h23 h=>WO.qV h23 Z Z Z Z Z Z Z Z<|bE h fun x24 h24 h=>WO.oB h24 Z Z Z Z Z Z<|bE h fun x26 h26 h=>WO.qV h26 Z Z Z Z Z Z Z Z<|bE h fun x27 h27 h=>WO.th (g:=(PD.int .i64)) (sz:=1) (p:= .int .i64 x21) h27 (fun _=>Z) (fun _=>Z) Z Z Z Z Z Z Z Z Z<|bE h fun x29 h29 h=>WO.qV h29 Z Z Z Z Z Z Z Z ?_
     refine bE h fun x30 h30 h=>WO.th (g:=(PD.int .i64)) (sz:=1) (p:= .int .i64 x24) h30 (fun _=>Z) (fun _=>Z) Z Z Z Z Z Z Z Z Z ?_
     refine sN<|sO<|WC.region Z Z<|sM Z<|sV (rI (rW (s5-(1:Int))))<|sA Z<|sN ?_
     cases oI h
     exact⟨rfl,rfl⟩
    refine sN<|sO<|cF<|qX ?_
    cases oI h
    exact⟨nofun,rfl,rfl⟩
   refine sM Z<|k3<|k3<|k3<|k3<|sU ?_
   refine sN<|sO<|cF<|qX ?_
   cases oI h
   exact⟨nofun,rfl,rfl⟩
  intro e R' B' he hq
  obtain⟨rfl,hI⟩:=hq
  refine qE<|WC.region hI Z<|sM Z<|sV (rI (rW (o32.1+(1:Int))))<|sA Z<|sN ?_
  cases oI h
  exact⟨rfl,rfl⟩
 refine sN<|cF<|qX<|uD h (fun z33 hkz33 hz=>?_)
 obtain rfl:=Option.some.inj hz
 refine⟨(fun he=>by cases he),fun hz2=>?_⟩
 subst hz2
 have h:=hkz33
 refine qE ?_
 exact oI h▸qD
theorem kW{a0:Int}{d0:(List Int)}{d1:(List aj)}{r:(List Int)}(h:ew a0 d0 d1=some r):EvP prog az ext 229 [.ref 0 0,rI a0,.clo 150 [.ptr 1 0]] [.arr 0 3 (d0.map (PD.int .i64)),.var [rM aj.pd d1]] (.tup [],[.arr 0 3 (r.map (PD.int .i64)),.var [rM aj.pd d1]]):=by
 refine Ev.body Z Tryz.func229 Z Zk<|gU Z<|sV (rI 20)<|sN<|gU Z<|sM Z<|sV (r0)<|sA Z<|sN<|qS<|bE h fun o10 ho10 h=>WC.block (WC.loop (WL.fV ho10 (fun s R' B'=>dN prog 2 (A R' B') (az.at_ 229 2 2)=some (A [(0,.ref 0 0),(1,rI a0),(2,.clo 150 [.ptr 1 0]),(6,rI 20),(7,rI s.1),(8,rI s.2.1)] [(0,.arr 0 3 (s.2.2.map (PD.int .i64))),(1,.var [rM aj.pd d1])])) (fun o e R' B'=>e= .exit 0∧dN prog 2 (A R' B') (az.at_ 229 2 6)=some (A [(0,.ref 0 0),(1,rI a0),(2,.clo 150 [.ptr 1 0]),(6,rI 20),(7,rI o.1)] [(0,.arr 0 3 (o.2.map (PD.int .i64))),(1,.var [rM aj.pd d1])])) Z ?_ ?_))
 ·rintro⟨s1,s2,s3⟩ R' B' q6 hI h
  refine qS<|gS Z hI<|sM Z<|sM Z<|sF h ?_ ?_<;>intro h
  ·refine sN<|cT<|qK<|qB<|gU Z<|sM Z<|sM Z<|sM Z<|sM Z<|bE h fun x8 h8 h=>cR (.tup []) [(0,.arr 0 3 (x8.map (PD.int .i64))),(1,.var [rM aj.pd d1])] (d4 h8)<|sN<|gU Z<|sM Z<|sA Z ?_
   refine sN<|WC.region Z Z<|sM Z<|sM Z<|sV (rI (rW (s2+(20:Int))))<|sA Z<|sN ?_
   cases oI h
   exact⟨rfl,rfl⟩
  refine sN<|cF<|qX ?_
  cases oI h
  exact⟨nofun,rfl,rfl⟩
 intro e R' B' he hq
 obtain⟨rfl,hI⟩:=hq
 refine qE<|gS Z hI<|sM Z<|sM Z<|sM Z<|sM Z<|bE h fun x11 h11 h=>cR (.tup []) [(0,.arr 0 3 (x11.map (PD.int .i64))),(1,.var [rM aj.pd d1])] (d4 h11)<|sN<|bE h fun o23 ho23 h=>?_
 cases oI h
 refine WC.block (WC.loop (WL.wI ho23 (fun s R' B'=>dN prog 2 (A R' B') (az.at_ 229 2 7)=some (A [(0,.ref 0 0),(1,rI a0),(2,.clo 150 [.ptr 1 0]),(6,rI s)] [(0,.arr 0 3 (x11.map (PD.int .i64))),(1,.var [rM aj.pd d1])])) Z ?_))
 rintro s12 R' B' q13 hI h
 refine qS<|gS Z hI<|sM Z<|sM Z<|sF h ?_ ?_<;>intro h
 ·refine sN<|cT<|qK<|qB<|gU Z<|sM Z<|sV (rI (rW ((2:Int)*s12)))<|sV (r0)<|sA Z<|sN<|qS<|bE h fun o19 ho19 h=>WC.block (WC.loop (WL.fV ho19 (fun s R' B'=>dN prog 2 (A R' B') (az.at_ 229 2 9)=some (A [(0,.ref 0 0),(1,rI a0),(2,.clo 150 [.ptr 1 0]),(6,rI s12),(7,r0),(8,rI (rW ((2:Int)*s12)))] [(0,.arr 0 3 (x11.map (PD.int .i64))),(1,.var [rM aj.pd d1])])) (fun o e R' B'=>e= .exit 4∧dN prog 2 (A R' B') (az.at_ 229 2 13)=some (A [(0,.ref 0 0),(1,rI a0),(2,.clo 150 [.ptr 1 0]),(6,rI o),(7,r0)] [(0,.arr 0 3 (x11.map (PD.int .i64))),(1,.var [rM aj.pd d1])])) Z ?_ ?_))
  ·rintro⟨⟩ R' B' q16 hI h
   refine qS<|gS Z hI<|sM Z<|sM Z<|sF h ?_ ?_<;>intro h
   ·refine sN<|cT<|qK<|qB<|gU Z<|sM Z<|sM Z<|sM Z<|sM Z<|sV (rI (rW ((0:Int)+s12)))<|sM Z<|sM Z ?_
    cases h
   refine sN<|cF<|qX ?_
   cases oI h
   exact⟨nofun,rfl,rfl⟩
  intro e R' B' he hq
  obtain⟨rfl,hI⟩:=hq
  refine qE<|qS<|gS Z hI<|sM Z<|sM Z<|sV (rI (rW ((0:Int)+o19)))<|sA Z<|sN<|gU Z<|sM Z<|sM Z<|sF h ?_ ?_<;>intro h
  ·refine sN<|cT<|WC.region Z Z<|sM Z<|sM Z<|sM Z<|sM Z<|sM Z ?_
   cases h
  refine sN<|cF<|qK<|WC.region Z Z<|sM Z<|sV (rI (rW (o19*(2:Int))))<|sA Z<|sN ?_
  cases oI h
  exact⟨rfl,rfl⟩
 refine sN<|cF<|qX<|uD h (fun z21 hkz21 hz=>?_)
 obtain rfl:=Option.some.inj hz
 refine⟨(fun he=>by cases he),fun hz2=>?_⟩
 subst hz2
 have h:=hkz21
 refine qE ?_
 exact oI h▸qD
theorem ks{d0:(List Int)}{d1:(List aj)}{r:(List Int)}(h:dh d0 d1=some r):EvP prog az ext 149 [.ref 0 0,.clo 150 [.ptr 1 0]] [.arr 0 3 (d0.map (PD.int .i64)),.var [rM aj.pd d1]] (.tup [],[.arr 0 3 (r.map (PD.int .i64)),.var [rM aj.pd d1]]):=by
 refine Ev.body Z Tryz.func149 Z Zk<|WC.region Z Z<|sM Z<|sM Z<|WO.vG Z Z Z Z Z Z Z Z Z<|sM Z<|bE h fun x1 h1 h=>cR (.tup []) [(0,.arr 0 3 (x1.map (PD.int .i64))),(1,.var [rM aj.pd d1])] (kW h1)<|sN ?_
 exact oI h▸qD
theorem qI{a0:(List aj)}{r:(List Int)}(h:jE a0=some r):EvP prog az ext 78 [rM aj.pd a0] [] (rL r,[]):=by
 refine Ev.body Z Tryz.func78 Z Zk<|gU Z<|sB (.ptr 16 0) 16 (.var [rM aj.pd a0])<|sV .dO<|sN<|gU Z<|sL Z<|sE (rI (a0.length:Int)) (dX _ _)<|bE h fun x1 h1 h=>WO.mkS (g:=(PD.int .i64)) h1 Z Z Z Z Z Z Z Z Z Z Z<|sA Z<|sN<|qS<|gU Z<|sM Z ?_
 refine WO.vG Z Z Z Z Z Z Z Z Z<|sV (r0)<|sN<|bE h fun o11 ho11 h=>WC.block (WC.loop (WL.fV ho11 (fun s R' B'=>dN prog 0 (A R' B') (az.at_ 78 0 3)=some (A [(1,.ptr 16 0),(3,.ref 112 0),(9,rI (x1.length:Int)),(10,rI s.1)] [(16,.var [rM aj.pd a0]),(112,.arr 0 3 (s.2.map (PD.int .i64)))])) (fun o e R' B'=>e= .exit 0∧dN prog 0 (A R' B') (az.at_ 78 0 7)=some (A [(1,.ptr 16 0),(3,.ref 112 0)] [(16,.var [rM aj.pd a0]),(112,.arr 0 3 (o.map (PD.int .i64)))])) Z ?_ ?_))
 ·rintro⟨s2,s3⟩ R' B' q5 hI h
  refine gS Z hI<|sF h ?_ ?_<;>intro h
  ·refine sN<|qS<|cT<|qK<|qS<|qB<|gU Z<|sM Z<|sA Z<|sN<|WC.region Z Z<|sM Z<|sM Z<|sM Z<|bE h fun x8 h8 h=>?_
   refine WO.qV h8 Z Z Z Z Z Z Z Z<|bE h fun x9 h9 h=>WO.th (g:=(PD.int .i64)) (sz:=1) (p:= .int .i64 s2) h9 (fun _=>Z) (fun _=>Z) Z Z Z Z Z Z Z Z Z<|sN<|WC.region Z Z<|sV (rI (rW (s2+(1:Int))))<|sM Z<|sN ?_
   cases oI h
   exact⟨rfl,rfl⟩
  refine sN<|qS<|cF<|qX ?_
  cases oI h
  exact⟨nofun,rfl,rfl⟩
 intro e R' B' he hq
 obtain⟨rfl,hI⟩:=hq
 refine qE<|gS Z hI<|sM Z<|sV (.clo 150 [.ptr 16 0])<|bE h fun x12 h12 h=>cR (.tup []) [(112,.arr 0 3 (x12.map (PD.int .i64))),(16,.var [rM aj.pd a0])] (ks h12)<|sN<|gU Z<|sM Z<|sA Z<|sN<|qR ?_
 exact oI h▸qD
theorem pe{a0:Int}{r:bp}(h:gD a0=some r):EvP prog az ext 127 [rI a0] [] (.agg [.ref 0 0,.ref 1 0],[.arr 0 3 (r.n8.map (PD.int .i64)),.arr 0 3 (r.fback.map (PD.int .i64))]):=by
 refine Ev.body Z Tryz.func127 Z Zk<|gU Z<|sB (.ptr 32 0) 32 (.var [.dO,.dO])<|sN<|WC.cI Z Z<|sM Z<|sV (rI (rW (a0+(1:Int))))<|bE h fun x1 h1 h=>WO.mkS (g:=(PD.int .i64)) h1 Z Z Z Z Z Z Z Z Z Z Z<|sM Z<|sV (rI (rW (a0+(1:Int))))<|bE h fun x2 h2 h=>WO.mkS (g:=(PD.int .i64)) h2 Z Z Z Z Z Z Z Z Z Z Z<|sV (.agg [.ref 112 0,.ref 160 0])<|sB (.ptr 48 0) 48 (.var [.dO,.dO]) ?_
 refine sS 48 (.var [.ref 112 0,.ref 160 0]) ?_
 refine sN<|sO<|qS<|gU Z<|sM Z<|sV (rI (rW (a0+(1:Int))))<|sV (r0)<|sN<|bE h fun o19 ho19 h=>WC.block (WC.loop (WL.fV ho19 (fun s R' B'=>dN prog 0 (A R' B') (az.at_ 127 0 3)=some (A [(0,rI a0),(2,.ptr 32 0),(3,.ptr 48 0),(13,rI (rW (a0+(1:Int)))),(14,rI s.1)] [(32,.var [.dO,.dO]),(48,.var [.ref 112 0,.ref 160 0]),(112,.arr 0 3 (s.2.1.map (PD.int .i64))),(160,.arr 0 3 (s.2.2.map (PD.int .i64)))])) (fun o e R' B'=>e= .exit 0∧dN prog 0 (A R' B') (az.at_ 127 0 7)=some (A [(2,.ptr 32 0),(3,.ptr 48 0)] [(32,.var [.dO,.dO]),(48,.var [.ref 112 0,.ref 160 0]),(112,.arr 0 3 (o.1.map (PD.int .i64))),(160,.arr 0 3 (o.2.map (PD.int .i64)))])) Z ?_ ?_))
 ·rintro⟨s3,s4,s5⟩ R' B' q8 hI h
  refine gS Z hI<|sF h ?_ ?_<;>intro h
  ·refine sN<|qS<|cT<|qK<|qS<|qB<|gU Z<|sM Z<|sA Z<|sN<|WC.kT Z Z<|sV (.ptr 48 0)<|sL Z<|sM Z<|sV (.ptr 48 1) ?_
   refine sL Z<|sM Z<|sV (rI (rW (s3+(1:Int))))<|sM Z<|sV (rI (rW (a0+(1:Int))))<|bE h fun x10 h10 h=>WO.remG h10 Z Z Z Z Z Z<|sM Z<|sV (rI (rW (s3+(1:Int))))<|sM Z<|sV (rI (rW (a0+(1:Int))))<|bE h fun x11 h11 h=>WO.remG h11 Z Z Z Z Z Z<|sM Z<|bE h fun x13 h13 h=>?_
   refine WO.qV h13 Z Z Z Z Z Z Z Z<|bE h fun x14 h14 h=>WO.th (g:=(PD.int .i64)) (sz:=1) (p:= .int .i64 x11) h14 (fun _=>Z) (fun _=>Z) Z Z Z Z Z Z Z Z Z<|bE h fun x16 h16 h=>WO.qV h16 Z Z Z Z Z Z Z Z<|bE h fun x17 h17 h=>WO.th (g:=(PD.int .i64)) (sz:=1) (p:= .int .i64 s3) h17 (fun _=>Z) (fun _=>Z) Z Z Z Z Z Z Z Z Z ?_
   refine sN<|sO<|WC.region Z Z<|sV (rI (rW (s3+(1:Int))))<|sM Z<|sN ?_
   cases oI h
   exact⟨rfl,rfl⟩
  refine sN<|qS<|cF<|qX ?_
  cases oI h
  exact⟨nofun,rfl,rfl⟩
 intro e R' B' he hq
 obtain⟨rfl,hI⟩:=hq
 refine qE<|gS Z hI<|sV (.agg [.ref 112 0,.ref 160 0])<|sS 32 (.var [.ref 112 0,.ref 160 0])<|sN<|qR ?_
 exact oI h▸qD
theorem jd{a0:bp}{r:Int}(h:jc a0=some r):EvP prog az ext 128 [.d (bp.pd a0)] [] (rI r,[]):=by
 refine Ev.body Z Tryz.func128 Z Zk<|gU Z<|sB (.ptr 16 0) 16 (.var (bp.rc a0))<|sV (r0)<|sN<|gU Z<|sV (.ptr 16 0)<|sL Z<|sE (rI (a0.n8.length:Int)) (dX _ _)<|sV (rI (rW ((a0.n8.length:Int)-(1:Int))))<|sA Z<|sN<|qR ?_
 exact oI h▸qD
theorem chain_windowq_ev{a1:aG}{a2:(List aj)}{a3:(List Int)}{d0:(List Int)}{d1:(List Int)}{r:(List Int)×(List Int)×(List Int)}(h:lH a1 a2 a3 d0 d1=some r):EvP prog az ext 129 [.agg [.ref 0 0,.ref 1 0],.d (aG.pd a1),rM aj.pd a2,rL a3] [.arr 0 3 (d0.map (PD.int .i64)),.arr 0 3 (d1.map (PD.int .i64))] (rL r.1,[.arr 0 3 (r.2.1.map (PD.int .i64)),.arr 0 3 (r.2.2.map (PD.int .i64))]):=by
 refine Ev.body Z Tryz.func129 Z Zk<|gU Z<|sB (.ptr 64 0) 64 (.var [.ref 0 0,.ref 1 0])<|sB (.ptr 80 0) 80 (.var (aG.rc a1))<|sV .dO<|sN<|gU Z<|sV .dO<|sN<|WC.cI Z Z<|sV (.ptr 64 0)<|sL Z<|sV (.agg [.ref 0 0,.ref 1 0])<|bE h fun x1 h1 h=>cR (rI x1) [ ] (jd h1) ?_
 refine bE h fun x3 h3 h=>WO.qV h3 Z Z Z Z Z Z Z Z<|bE h fun x4 h4 h=>WO.oB h4 Z Z Z Z Z Z<|sA Z ?_
 refine sN<|sO<|qS<|gU Z<|sM Z<|sA Z<|sN<|bE h fun o22 ho22 h=>WC.block (WC.loop (WL.fV ho22 (fun s R' B'=>dN prog 2 (A R' B') (az.at_ 129 2 4)=some (A [(2,rM aj.pd a2),(3,rL a3),(4,.ptr 64 0),(5,.ptr 80 0),(9,.ref 928 0),(10,rI x4),(11,rI s.1)] [(0,.arr 0 3 (d0.map (PD.int .i64))),(1,.arr 0 3 (d1.map (PD.int .i64))),(64,.var [.ref 0 0,.ref 1 0]),(80,.var (aG.rc a1)),(928,.arr 0 3 (s.2.map (PD.int .i64)))])) (fun o e R' B'=>e= .exit 0∧dN prog 2 (A R' B') (az.at_ 129 2 7)=some (A [(9,.ref 928 0)] [(0,.arr 0 3 (d0.map (PD.int .i64))),(1,.arr 0 3 (d1.map (PD.int .i64))),(928,.arr 0 3 (o.map (PD.int .i64)))])) Z ?_ ?_))
 ·rintro⟨s5,s6⟩ R' B' q8 hI h
  unfold cB at h
  refine qS<|WC.cI hI Z<|sM Z<|sV (.agg [.ref 0 0,.ref 1 0])<|bE h fun x9 h9 h=>cR (rI x9) [ ] (jd h9)<|sF h ?_ ?_<;>intro h
  ·refine sM Z<|sM Z<|WO.vG Z Z Z Z Z Z Z Z Z<|sV (rB (decide ((s6.length:Int)<(16:Int))))<|sF h ?_ ?_<;>intro h
   ·refine sM Z<|sM Z<|sM Z<|sM Z<|bE h fun x12 h12 h=>eG h12 Z<|sC Z<|bE h fun x13 h13 h=>eG h13 Z<|sV (.cptr [.int .i64 x13.aQ,.int .i64 x13.bw,.int .i64 x13.bJ])<|sC Z<|sM Z<|sM Z<|sM Z<|bE h fun x14 h14 h=>?_
    refine eG h14 Z<|sC Z<|bE h fun x15 h15 h=>eG h15 Z<|sV (.cptr [.int .i64 x15.aQ,.int .i64 x15.bw,.int .i64 x15.bJ])<|sC Z<|sV (rI (rW (x13.aQ-x15.aQ)))<|sV (.ptr 80 11)<|sL Z<|sV (rB (decide ((rW (x13.aQ-x15.aQ))<=a1.dC)))<|sF h ?_ ?_<;>intro h
    ·refine sN<|sO<|cT<|qK<|qS<|qB<|WC.region Z Z<|sM Z<|sM Z<|sV (.d (.lst ([s5].map (PD.int .i64))))<|bE h fun x17 h17 h=>aR h17 (fun _=>Z) Z<|sA Z<|sN<|WC.region Z Z<|sV (.ptr 64 0) ?_
     refine sL Z<|sM Z<|bE h fun x19 h19 h=>WO.qV h19 Z Z Z Z Z Z Z Z<|bE h fun x20 h20 h=>WO.oB h20 Z Z Z Z Z Z<|sA Z<|sN ?_
     cases oI h
     exact⟨rfl,rfl⟩
    refine sN<|sO<|cF<|qX ?_
    cases oI h
    exact⟨nofun,rfl,rfl⟩
   refine sM Z<|k3<|k3<|k3<|k3<|sK<|sK ?_
   refine k3<|k3<|sU ?_
   refine sN<|sO<|cF<|qX ?_
   cases oI h
   exact⟨nofun,rfl,rfl⟩
  refine sM Z<|k3<|sU<|sM Z<|k3<|k3<|sK<|sK<|sK ?_
  refine k3<|k3<|k3<|sK<|sK<|sU ?_
  refine sN<|sO<|cF<|qX ?_
  cases oI h
  exact⟨nofun,rfl,rfl⟩
 intro e R' B' he hq
 obtain⟨rfl,hI⟩:=hq
 refine qE<|gS Z hI<|sM Z<|sA Z<|sN<|qR ?_
 exact oI h▸qD
theorem lP{a0:aG}{a1:(List aj)}{r:ah}(h:eC a0 a1=some r):EvP prog az ext 130 [.d (aG.pd a0),rM aj.pd a1] [] (.d (ah.pd r),[]):=by
 refine Ev.body Z Tryz.func130 Z Zk<|gU Z<|sB (.ptr 32 0) 32 (.var (aG.rc a0))<|sB (.ptr 64 0) 64 (.var [r0,r0,r0,r0,r0,r0,r0,.dO,.dO,.dO,r0])<|sN<|gU Z<|sV (.ptr 32 0)<|sV (.d (ag.pd a0.aM))<|sV (.ptr 32 6)<|sV (.d (aA.pd a0.aW))<|sM Z<|sV (.ptr 32 9)<|sL Z<|sG (.d (ah.pd (ah.mk a0.aM a0.aW a1 a0.cG)))<|sH 64 (.var (ag.rc a0.aM++aA.rc a0.aW++[rM aj.pd a1,rI a0.cG])) ?_
 refine sN<|qR ?_
 cases oI h
 exact qG
theorem m7{a0:ah}{r:Int}(h:gX a0=some r):EvP prog az ext 120 [.d (ah.pd a0)] [] (rI r,[]):=by
 refine Ev.body Z Tryz.func120 Z Zk<|gU Z<|sB (.ptr 16 0) 16 (.var (ah.rc a0))<|sV (r0)<|sN<|qS<|gU Z<|sV (.ptr 16 0)<|sV (.d (ag.pd a0.aM))<|bE h fun x1 h1 h=>cD (bF h1)<|sF h ?_ ?_<;>intro h
 ·refine sN<|cT<|gU Z<|sV (rI 20)<|sN<|qR ?_
  cases oI h
  exact qG
 refine sN<|cF<|qK<|qS<|gU Z<|sV (.ptr 16 6)<|sV (.d (aA.pd a0.aW))<|bE h fun x3 h3 h=>cD (dZ h3)<|sA Z<|sN<|gU Z<|sM Z<|sF h ?_ ?_<;>intro h
 ·refine sN<|cT<|gU Z<|sM Z<|sA Z<|sN<|qR ?_
  cases oI h
  exact qG
 refine sN<|cF<|qK<|qS<|gU Z<|sV (.ptr 16 9)<|sL Z<|sE (rI (a0.a7.length:Int)) (dX _ _)<|sA Z<|sN<|qB<|gU Z<|sM Z<|sF h ?_ ?_<;>intro h
 ·refine sA Z<|sN<|cT<|gU Z<|sV (rI 24)<|sN<|qR ?_
  cases oI h
  exact qG
 refine sA Z<|sN<|cF<|gU Z<|sM Z<|sF h ?_ ?_<;>intro h
 ·refine sA Z<|sN<|cT<|gU Z<|sV (rI 8)<|sN<|qR ?_
  cases oI h
  exact qG
 refine sA Z<|sN<|cF<|gU Z<|sV (.ptr 16 10)<|sL Z<|sF h ?_ ?_<;>intro h
 ·refine sM Z<|k3<|sT<|sA Z<|sN<|cT<|gU Z<|sV (rI 2)<|sN<|qR ?_
  cases oI h
  exact qG
 refine sM Z<|sV (.ptr 16 10)<|sL Z<|sV (rB (decide (a0.cG>(1099511627776:Int))))<|sF h ?_ ?_<;>intro h
 ·refine sA Z<|sN<|cT<|gU Z<|sV (rI 2)<|sN<|qR ?_
  cases oI h
  exact qG
 refine sA Z<|sN<|cF<|qK<|qS<|gU Z<|sV (.ptr 16 9)<|sL Z<|sE (rI (a0.a7.length:Int)) (dX _ _)<|sV (r0)<|sN<|bE h fun o16 ho16 h=>WC.block (WC.loop (WL.fV ho16 (fun s R' B'=>dN prog 0 (A R' B') (az.at_ 120 0 14)=some (A [(1,.ptr 16 0),(38,rM aj.pd a0.a7),(39,rI (a0.a7.length:Int)),(40,rI s)] [(16,.var (ah.rc a0))])) (fun o e R' B'=>match o with| .inl y=>e= .exit 1∧dN prog 0 (A R' B') (az.at_ 120 0 20)=some (A [] [])| .inr r=>e= .ret∧finish prog (az.own 120) Tryz.f120 0 (A R' B')=some (rI r,[])) Z ?_ ?_))
 ·rintro s9 R' B' q10 hI h
  refine gS Z hI<|sF h ?_ ?_<;>intro h
  ·refine sN<|qS<|cT<|qK<|qS<|qB<|gU Z<|bE h fun x12 h12 h=>eG h12 Z<|sV (.d (aj.pd x12))<|sB (.ptr 96 0) 96 (.var zZ4)<|sH 96 (.var (aj.rc x12))<|sN<|gU Z<|sV (.ptr 16 6) ?_
   refine sV (.d (aA.pd a0.aW))<|sV (.ptr 16 0)<|sV (.d (ag.pd a0.aM))<|sV (.d (aj.pd x12))<|bE h fun x13 h13 h=>cR (.tup [.d (aK.pd x13.1),rI x13.2]) [] (lG h13)<|sM Z<|sV (.d (aK.pd x13.1))<|sV (rI x13.2)<|sB (.ptr 112 0) 112 (.var [r0,r0])<|sS 112 (.var [rI x13.1.bj,rI x13.1.fTo])<|sA Z<|sN<|gU Z<|sM Z ?_
   refine sF h ?_ ?_<;>intro h
   ·refine sN<|cT<|gU Z<|sM Z<|sA Z<|sN<|qR ?_
    cases oI h
    exact⟨nofun,rfl,rfl⟩
   refine sN<|cF<|qK<|WC.region Z Z<|sV (rI (rW (s9+(1:Int))))<|sM Z<|sN ?_
   cases oI h
   exact⟨rfl,rfl⟩
  refine sN<|qS<|cF<|qX ?_
  cases oI h
  exact⟨nofun,rfl,rfl⟩
 intro e R' B' he hq
 rcases o16 with y17|r18
 ·obtain⟨rfl,hI⟩:=hq
  refine qE<|gS Z hI<|sV (r0)<|sN<|qR ?_
  exact oI h▸qD
 obtain⟨rfl,hf⟩:=hq
 cases oI h
 exact hf
theorem lS{a0:ag}{a1:aa}{r:Bool}(h:fC a0 a1=some r):EvP prog az ext 201 [.d (ag.pd a0),.d (aa.pd a1)] [] (rB r,[]):=by
 refine Ev.body Z Tryz.func201 Z Zk<|gU Z<|sB (.ptr 32 0) 32 (.var (ag.rc a0))<|sB (.ptr 48 0) 48 (.var (aa.rc a1))<|sU<|sN<|gU Z<|sV (.d (ag.pd a0))<|bE h fun x1 h1 h=>ir h (fun hb2 h=>?_) (fun hb2 h=>?_)
 ·refine WO.lE (v:=rB true) (u:=[]) Z Z (fun _=>Z) Z Z Z Z Z (bF h1) Z Z (congrArg (fun b=>RV.d (.bool b)) hb2) Z<|sM Z<|sV (.d (aa.pd a1))<|bE h fun x3 h3 h=>cD (dl h3)<|sF h ?_ ?_<;>intro h
  ·refine sM Z<|sV (.d (ag.pd a0))<|sV (.d (aa.pd a1))<|bE h fun x5 h5 h=>cD (lj h5)<|sV (rB (x5==(0:Int)))<|sV (rB (x5==(0:Int)))<|sA Z<|sN<|qR ?_
   exact oI h▸qD
  refine sM Z<|k3<|sK<|sU<|sA Z<|sN<|qR ?_
  exact oI h▸qD
 refine WO.lE (v:=rB false) (u:=[]) Z Z (fun _=>Z) Z Z Z Z Z (bF h1) Z Z (congrArg (fun b=>RV.d (.bool b)) hb2) Z<|sM Z<|sK<|sK<|sU<|sM Z<|k3<|sK<|sU<|sA Z<|sN<|qR ?_
 exact oI h▸qD
theorem qN{a0:ag}{a1:ag}{r:Bool}(h:jI a0 a1=some r):EvP prog az ext 121 [.d (ag.pd a0),.d (ag.pd a1)] [] (rB r,[]):=by
 refine Ev.body Z Tryz.func121 Z Zk<|gU Z<|sB (.ptr 32 0) 32 (.var (ag.rc a0))<|sB (.ptr 48 0) 48 (.var (ag.rc a1))<|sU<|sN<|gU Z<|sV (.d (ag.pd a0))<|bE h fun x1 h1 h=>ir h (fun hb2 h=>?_) (fun hb2 h=>?_)
 ·refine WO.lE (v:=rB true) (u:=[]) Z Z (fun _=>Z) Z Z Z Z Z (bF h1) Z Z (congrArg (fun b=>RV.d (.bool b)) hb2) Z<|sM Z<|sV (.d (ag.pd a1))<|sV (.ptr 32 0)<|sV (.d (aa.pd a0.aI))<|bE h fun x3 h3 h=>cD (lS h3)<|sF h ?_ ?_<;>intro h
  ·refine sM Z<|sV (.d (ag.pd a1))<|sV (.ptr 32 3)<|sV (.d (aa.pd a0.aC))<|bE h fun x5 h5 h=>cD (lS h5)<|sV (rB x5)<|sA Z<|sN<|qR ?_
   exact oI h▸qD
  refine sM Z<|k3<|sK<|sU<|sA Z<|sN<|qR ?_
  exact oI h▸qD
 refine WO.lE (v:=rB false) (u:=[]) Z Z (fun _=>Z) Z Z Z Z Z (bF h1) Z Z (congrArg (fun b=>RV.d (.bool b)) hb2) Z<|sM Z<|k3<|sK<|sU<|sM Z<|k3<|sK<|sU<|sA Z<|sN ?_
 refine qR ?_
 exact oI h▸qD
theorem misfit_zones_ev{a0:ah}{a1:ag}{r:(List aK)×Int}(h:mF a0 a1=some r):EvP prog az ext 122 [.d (ah.pd a0),.d (ag.pd a1)] [] (.tup [rM aK.pd r.1,rI r.2],[]):=by
 refine Ev.body Z Tryz.func122 Z Zk<|gU Z<|sB (.ptr 32 0) 32 (.var (ah.rc a0))<|sB (.ptr 48 0) 48 (.var (ag.rc a1))<|sV .dO<|sV (r0)<|sN<|gU Z<|sV (.ptr 32 9)<|sL Z<|sE (rI (a0.a7.length:Int)) (dX _ _)<|bE h fun x1 h1 h=>WO.mkC (g:=aK.pd) h1 Z Z Z Z Z Z Z Z Z Z Z<|sA Z<|sN ?_
 refine qS<|gU Z<|sV (.ptr 32 9)<|sL Z<|sE (rI (a0.a7.length:Int)) (dX _ _)<|sV (r0)<|sN<|bE h fun o12 ho12 h=>WC.block (WC.loop (WL.fV ho12 (fun s R' B'=>dN prog 0 (A R' B') (az.at_ 122 0 3)=some (A [(2,.ptr 32 0),(3,.ptr 48 0),(6,.ref 224 0),(16,rM aj.pd a0.a7),(17,rI (a0.a7.length:Int)),(18,rI s.1)] [(32,.var (ah.rc a0)),(48,.var (ag.rc a1)),(224,.arr 0 206 (s.2.map aK.pd))])) (fun o e R' B'=>match o with| .inl y=>e= .exit 0∧dN prog 0 (A R' B') (az.at_ 122 0 10)=some (A [(6,.ref 224 0)] [(224,.arr 0 206 (y.map aK.pd))])| .inr r=>e= .ret∧finish prog (az.own 122) Tryz.f122 0 (A R' B')=some (.tup [rM aK.pd r.1,rI r.2],[])) Z ?_ ?_))
 ·rintro⟨s2,s3⟩ R' B' q5 hI h
  refine gS Z hI<|sF h ?_ ?_<;>intro h
  ·refine sN<|qS<|cT<|qK<|qS<|qB<|gU Z<|bE h fun x7 h7 h=>eG h7 Z<|sV (.d (aj.pd x7))<|sB (.ptr 128 0) 128 (.var zZ4)<|sH 128 (.var (aj.rc x7))<|sN<|gU Z<|sV (.ptr 32 6) ?_
   refine sV (.d (aA.pd a0.aW))<|sV (.d (ag.pd a1))<|sV (.d (aj.pd x7))<|bE h fun x8 h8 h=>cR (.tup [.d (aK.pd x8.1),rI x8.2]) [] (lG h8)<|sM Z<|sV (.d (aK.pd x8.1))<|sV (rI x8.2)<|sB (.ptr 144 0) 144 (.var [r0,r0])<|sS 144 (.var [rI x8.1.bj,rI x8.1.fTo])<|sA Z<|sN<|qS<|gU Z<|sM Z ?_
   refine sF h ?_ ?_<;>intro h
   ·refine sN<|cT<|gU Z<|sM Z<|sV .dO<|sA Z<|sN<|qR ?_
    cases oI h
    exact⟨nofun,rfl,rfl⟩
   refine sN<|cF<|qK<|WC.region Z Z<|sM Z<|sV (.d (aK.pd x8.1))<|sV (.d (.lst ([x8.1].map aK.pd)))<|bE h fun x10 h10 h=>aR h10 (fun _=>Z) Z<|sA Z<|sN<|WC.region Z Z<|sV (rI (rW (s2+(1:Int))))<|sM Z<|sN ?_
   cases oI h
   exact⟨rfl,rfl⟩
  refine sN<|qS<|cF<|qX ?_
  cases oI h
  exact⟨nofun,rfl,rfl⟩
 intro e R' B' he hq
 rcases o12 with y13|r14
 ·obtain⟨rfl,hI⟩:=hq
  refine qE<|gS Z hI<|sM Z<|sA Z<|sV (r0)<|sN<|qR ?_
  exact oI h▸qD
 obtain⟨rfl,hf⟩:=hq
 cases oI h
 exact hf
theorem mi{a0:ah}{a1:ag}{r:(List aK)×Int}(h:fI a0 a1=some r):EvP prog az ext 61 [.d (ah.pd a0),.d (ag.pd a1)] [] (.tup [rM aK.pd r.1,rI r.2],[]):=by
 refine Ev.body Z Tryz.func61 Z Zk<|gU Z<|sB (.ptr 32 0) 32 (.var (ah.rc a0))<|sB (.ptr 48 0) 48 (.var (ag.rc a1))<|sV .dO<|sV (r0)<|sN<|qS<|gU Z<|sV (.d (ah.pd a0))<|bE h fun x1 h1 h=>cD (m7 h1)<|sA Z<|sN<|gU Z ?_
 refine sM Z<|sF h ?_ ?_<;>intro h
 ·refine sN<|cT<|gU Z<|sM Z<|sV .dO<|sA Z<|sN<|qR ?_
  cases oI h
  exact qG
 refine sN<|cF<|qK<|qS<|gU Z<|sV (.d (ag.pd a1))<|sV (.ptr 32 0)<|sV (.d (ag.pd a0.aM))<|bE h fun x3 h3 h=>cD (qN h3)<|sF h ?_ ?_<;>intro h
 ·refine sN<|cT<|gU Z<|sV .dO<|sV (rI 20)<|sN<|qR ?_
  cases oI h
  exact qG
 refine sN<|cF<|qK<|gU Z<|sV (.d (ah.pd a0))<|sV (.d (ag.pd a1))<|bE h fun x5 h5 h=>cR (.tup [rM aK.pd x5.1,rI x5.2]) [] (misfit_zones_ev h5)<|sV (rM aK.pd x5.1)<|sV (rI x5.2)<|sA Z<|sA Z<|sN<|qR ?_
 cases oI h
 exact qG
theorem m6{a0:aK}{a1:Int}{r:Int}(h:fw a0 a1=some r):EvP prog az ext 202 [.d (aK.pd a0),rI a1] [] (rI r,[]):=by
 refine Ev.body Z Tryz.func202 Z Zk<|gU Z<|sB (.ptr 32 0) 32 (.var [rI a0.bj,rI a0.fTo])<|sV (r0)<|sN<|gU Z<|sV (.ptr 32 0)<|sL Z<|sM Z<|sV (rI (rW (a0.bj-a1)))<|sM Z<|sV (.ptr 32 1)<|sL Z<|sV (rI (rW (a1-a0.fTo)))<|sV (rI (if(0:Int)>(if(rW (a1-a0.fTo))>(rW (a0.bj-a1))then(rW (a1-a0.fTo))else(rW (a0.bj-a1)))then(0:Int)else(if(rW (a1-a0.fTo))>(rW (a0.bj-a1))then(rW (a1-a0.fTo))else(rW (a0.bj-a1))))) ?_
 refine sA Z<|sN<|qR ?_
 exact oI h▸qD
theorem pH{a0:ah}{a1:(List aK)}{a2:Int}{r:Int}(h:iJ a0 a1 a2=some r):EvP prog az ext 123 [.d (ah.pd a0),rM aK.pd a1,rI a2] [] (rI r,[]):=by
 refine Ev.body Z Tryz.func123 Z Zk<|gU Z<|sB (.ptr 48 0) 48 (.var (ah.rc a0))<|sV (r0)<|sN<|gU Z<|sV (r0)<|sN<|qS<|gU Z<|sV (.ptr 48 9)<|sL Z<|sE (rI (a0.a7.length:Int)) (dX _ _)<|sV (r0)<|sN ?_
 refine bE h fun o11 ho11 h=>WC.block (WC.loop (WL.fV ho11 (fun s R' B'=>dN prog 0 (A R' B') (az.at_ 123 0 3)=some (A [(1,rM aK.pd a1),(2,rI a2),(3,.ptr 48 0),(7,rI s.1),(11,rM aj.pd a0.a7),(12,rI (a0.a7.length:Int)),(13,rI s.2)] [(48,.var (ah.rc a0))])) (fun o e R' B'=>e= .exit 0∧dN prog 0 (A R' B') (az.at_ 123 0 8)=some (A [(7,rI o)] [])) Z ?_ ?_))
 ·rintro⟨s1,s2⟩ R' B' q4 hI h
  refine gS Z hI<|sF h ?_ ?_<;>intro h
  ·refine sN<|qS<|cT<|qK<|qS<|qB<|gU Z<|sM Z<|bE h fun x6 h6 h=>eG h6 Z<|sV (.d (aj.pd x6))<|sB (.ptr 144 0) 144 (.var zZ4)<|sA Z<|sH 144 (.var (aj.rc x6))<|sN ?_
   refine gU Z<|sM Z<|sM Z<|sE (rI (a1.length:Int)) (dX _ _)<|sF h ?_ ?_<;>intro h
   ·refine sN<|cT<|WC.kT Z Z<|sM Z<|sV (.ptr 144 5)<|sL Z<|sV (.ptr 48 10)<|sL Z<|sM Z<|sM Z<|bE h fun x8 h8 h=>eG h8 Z<|sV (.d (aK.pd x8))<|sM Z<|bE h fun x9 h9 h=>?_
    refine cD (m6 h9)<|sV (rI (if x9<a0.cG then x9 else a0.cG))<|sV (rI (rW (x6.bJ*(if x9<a0.cG then x9 else a0.cG))))<|sV (rI (rW (s1+(rW (x6.bJ*(if x9<a0.cG then x9 else a0.cG))))))<|sA Z ?_
    refine sN<|sO<|WC.region Z Z<|sV (rI (rW (s2+(1:Int))))<|sM Z<|sN ?_
    cases oI h
    exact⟨rfl,rfl⟩
   refine sN<|cF<|qK<|WC.region Z Z<|sV (rI (rW (s2+(1:Int))))<|sM Z<|sN ?_
   cases oI h
   exact⟨rfl,rfl⟩
  refine sN<|qS<|cF<|qX ?_
  cases oI h
  exact⟨nofun,rfl,rfl⟩
 intro e R' B' he hq
 obtain⟨rfl,hI⟩:=hq
 refine qE<|gS Z hI<|sM Z<|sA Z<|sN<|qR ?_
 exact oI h▸qD
theorem pG{a0:ah}{a1:(List aK)}{r:Int×Int}(h:iI a0 a1=some r):EvP prog az ext 62 [.d (ah.pd a0),rM aK.pd a1] [] (.tup [rI r.1,rI r.2],[]):=by
 refine Ev.body Z Tryz.func62 Z Zk<|gU Z<|sB (.ptr 32 0) 32 (.var (ah.rc a0))<|sV (r0)<|sV (r0)<|sN<|gU Z<|sM Z<|sE (rI (a1.length:Int)) (dX _ _)<|sV (rI (rW ((2:Int)*(a1.length:Int))))<|bE h fun x1 h1 h=>WO.mkC (g:=(PD.int .i64)) h1 Z Z Z Z Z Z Z Z Z Z Z<|sA Z<|sN<|qS ?_
 refine gU Z<|sM Z<|sE (rI (a1.length:Int)) (dX _ _)<|sV (r0)<|sN<|bE h fun o10 ho10 h=>WC.block (WC.loop (WL.fV ho10 (fun s R' B'=>dN prog 0 (A R' B') (az.at_ 62 0 3)=some (A [(1,rM aK.pd a1),(2,.ptr 32 0),(6,.ref 272 0),(18,rM aK.pd a1),(19,rI (a1.length:Int)),(20,rI s.1)] [(32,.var (ah.rc a0)),(272,.arr 0 3 (s.2.map (PD.int .i64)))])) (fun o e R' B'=>e= .exit 0∧dN prog 0 (A R' B') (az.at_ 62 0 7)=some (A [(1,rM aK.pd a1),(2,.ptr 32 0),(6,.ref 272 0)] [(32,.var (ah.rc a0)),(272,.arr 0 3 (o.map (PD.int .i64)))])) Z ?_ ?_))
 ·rintro⟨s2,s3⟩ R' B' q5 hI h
  refine gS Z hI<|sF h ?_ ?_<;>intro h
  ·refine sN<|qS<|cT<|qK<|qS<|qB<|gU Z<|bE h fun x7 h7 h=>eG h7 Z<|sV (.d (aK.pd x7))<|sB (.ptr 128 0) 128 (.var [r0,r0])<|sS 128 (.var [rI x7.bj,rI x7.fTo])<|sN<|WC.region Z Z<|sM Z ?_
   refine sV (.ptr 128 0)<|sL Z<|sV (.ptr 128 1)<|sL Z<|sV (.d (.lst ([x7.bj,x7.fTo].map (PD.int .i64))))<|bE h fun x8 h8 h=>aR h8 (fun _=>Z) Z<|sA Z<|sN<|WC.region Z Z<|sV (rI (rW (s2+(1:Int))))<|sM Z<|sN ?_
   cases oI h
   exact⟨rfl,rfl⟩
  refine sN<|qS<|cF<|qX ?_
  cases oI h
  exact⟨nofun,rfl,rfl⟩
 intro e R' B' he hq
 obtain⟨rfl,hI⟩:=hq
 refine qE<|qS<|gS Z hI<|sM Z<|WO.vG Z Z Z Z Z Z Z Z Z<|sF h ?_ ?_<;>intro h
 ·refine sN<|cT<|gU Z<|sV (r0)<|sV (r0)<|sN<|qR ?_
  cases oI h
  exact qG
 refine sN<|cF<|qK<|WC.cI Z Z<|sM Z<|bE h fun x13 h13 h=>WO.qV h13 Z Z Z Z Z Z Z Z<|bE h fun x14 h14 h=>WO.oB h14 Z Z Z Z Z Z<|sV (.d (ah.pd a0))<|sM Z<|sM Z<|bE h fun x16 h16 h=>WO.qV h16 Z Z Z Z Z Z Z Z<|bE h fun x17 h17 h=>?_
 refine WO.oB h17 Z Z Z Z Z Z<|bE h fun x18 h18 h=>cD (pH h18)<|sA Z<|sA Z ?_
 refine sN<|sO<|qS<|gU Z<|sM Z<|bE h fun x19 h19 h=>WO.subR h19 Z Z Z Z Z Z Z Z Z Z Z Z<|bE h fun x20 h20 h=>WO.lenVw h20 Z Z Z Z Z Z Z Z Z<|sV (r0)<|sN<|bE h fun o35 ho35 h=>WC.block (WC.loop (WL.fV ho35 (fun s R' B'=>dN prog 0 (A R' B') (az.at_ 62 0 11)=some (A [(1,rM aK.pd a1),(2,.ptr 32 0),(9,rI s.1),(10,rI s.2.1),(45,.view 272 0 (0+(1:Int).toNat) (0+((o10.length:Int):Int).toNat)),(46,rI x20),(47,rI s.2.2)] [(32,.var (ah.rc a0)),(272,.arr 0 3 (o10.map (PD.int .i64)))])) (fun o e R' B'=>e= .exit 2∧dN prog 0 (A R' B') (az.at_ 62 0 17)=some (A [(9,rI o.1),(10,rI o.2)] [])) Z ?_ ?_))
 ·rintro⟨s21,s22,s23⟩ R' B' q26 hI h
  refine gS Z hI<|sF h ?_ ?_<;>intro h
  ·refine sN<|qS<|cT<|qK<|qS<|qB<|gU Z<|bE h fun x28 h28 h=>WO.eltV h28 Z Z Z Z Z Z Z Z<|bE h fun x29 h29 h=>WO.oB h29 Z Z Z Z Z Z<|sA Z<|sN<|gU Z<|sV (.d (ah.pd a0)) ?_
   refine sM Z<|sM Z<|bE h fun x30 h30 h=>cD (pH h30)<|sA Z<|sN<|gU Z<|sM Z<|sM Z<|sF h ?_ ?_<;>intro h
   ·refine sM Z<|k3<|k3<|sK<|sK<|sT<|sN<|cT<|WC.region Z Z<|sM Z<|sM Z ?_
    refine sA Z<|sA Z<|sN<|WC.region Z Z<|sV (rI (rW (s23+(1:Int))))<|sM Z<|sN ?_
    cases oI h
    exact⟨rfl,rfl⟩
   refine sM Z<|sM Z<|sM Z<|sF h ?_ ?_<;>intro h
   ·refine sM Z<|sM Z<|sM Z<|sV (rB (decide (x29<s21)))<|sV (rB (decide (x29<s21)))<|sF h ?_ ?_<;>intro h
    ·refine sN<|cT<|WC.region Z Z<|sM Z<|sM Z<|sA Z<|sA Z<|sN<|WC.region Z Z<|sV (rI (rW (s23+(1:Int))))<|sM Z<|sN ?_
     cases oI h
     exact⟨rfl,rfl⟩
    refine sN<|cF<|qK<|WC.region Z Z<|sV (rI (rW (s23+(1:Int))))<|sM Z<|sN ?_
    cases oI h
    exact⟨rfl,rfl⟩
   refine sM Z<|k3<|sU<|sU<|sN<|cF<|qK<|WC.region Z Z<|sV (rI (rW (s23+(1:Int))))<|sM Z<|sN ?_
   cases oI h
   exact⟨rfl,rfl⟩
  refine sN<|qS<|cF<|qX ?_
  cases oI h
  exact⟨nofun,rfl,rfl⟩
 intro e R' B' he hq
 obtain⟨rfl,hI⟩:=hq
 refine qE<|gS Z hI<|sM Z<|sM Z<|sA Z<|sA Z<|sN<|qR ?_
 exact oI h▸qD
theorem pc{a0:ah}{a1:ag}{r:Int×Int}(h:eT a0 a1=some r):EvP prog az ext 267 [.d (ah.pd a0),.d (ag.pd a1)] [] (.tup [rI r.1,rI r.2],[]):=by
 refine Ev.body Z Tryz.func267 Z Zk<|gU Z<|sB (.ptr 32 0) 32 (.var (ah.rc a0))<|sB (.ptr 48 0) 48 (.var (ag.rc a1))<|sV (r0)<|sV (r0)<|sN<|gU Z<|sV (.d (ah.pd a0))<|sV (.d (ag.pd a1))<|bE h fun x1 h1 h=>cR (.tup [rM aK.pd x1.1,rI x1.2]) [] (mi h1)<|sM Z<|sV (rM aK.pd x1.1)<|sV (rI x1.2) ?_
 refine sA Z<|sA Z<|sN<|qS<|gU Z<|sM Z<|sF h ?_ ?_<;>intro h
 ·refine sN<|cT<|gU Z<|sM Z<|sV (r0)<|sA Z<|sN<|qR ?_
  cases oI h
  exact qG
 refine sN<|cF<|qK<|gU Z<|sV (.d (ah.pd a0))<|sM Z<|bE h fun x3 h3 h=>cR (.tup [rI x3.1,rI x3.2]) [] (pG h3)<|sM Z<|sV (rI x3.1)<|sV (rI x3.2)<|sA Z<|sA Z<|sN<|gU Z ?_
 refine sM Z<|sA Z<|sV (r0)<|sN<|qR ?_
 cases oI h
 exact qG
theorem queue_Push_ev{a0:am}{e1:ah}{e2:Int}{e3:Int}{e4:Bool}{e5:ak}{r:(List am)}(h:oN a0 e1 e2 e3 e4 e5=some r):EvP prog az ext 444 [.ptr 0 11,.ifc 194 (.d (am.pd a0))] [.var (ah.rc e1++ .dO::rI e2::rI e3::rB e4::ak.rc e5)] (.tup [],[.var (ah.rc e1++ .ref 1 0::rI e2::rI e3::rB e4::ak.rc e5),.arr 0 194 (r.map am.pd)]):=by
 refine Ev.body Z Tryz.func444 Z Zk<|gU Z<|sM Z<|sG (.tup [.d (am.pd a0),rB true])<|sM Z<|sV (.d (am.pd a0))<|sT<|sB (.ptr 64 0) 64 (.var [r0,r0,r0,r0,r0,r0,r0,r0])<|sH 64 (.var (am.rc a0))<|sA Z<|sN<|gU Z<|sM Z<|sN<|cT ?_
 refine WC.kT Z Z<|sM Z<|sM Z<|sV (.ptr 0 11)<|sL Z<|sV (.d (am.pd a0))<|sG (.d (.lst ([a0].map am.pd)))<|bE h fun x1 h1 h=>WO.appN h1 (fun _=>Z) Z Z Z Z Z Z Z Z Z Z Z Z Z Z<|sV (.ptr 0 11)<|sS 0 (.var (ah.rc e1++ .ref 288 0::rI e2::rI e3::rB e4::ak.rc e5)) ?_
 refine sN<|sO ?_
 cases oI h
 exact qG
theorem oM{a0:(List am)}{r:Int}(h:ik a0=some r):EvP prog az ext 440 [rM am.pd a0] [] (rI r,[]):=by
 refine Ev.body Z Tryz.func440 Z Zk<|gU Z<|sV (r0)<|sN<|gU Z<|sM Z<|sE (rI (a0.length:Int)) (dX _ _)<|sA Z<|sN<|qR ?_
 exact oI h▸qD
theorem nU{a0:(List am)}{a1:Int}{a2:Int}{r:Bool}(h:iM a0 a1 a2=some r):EvP prog az ext 441 [rM am.pd a0,rI a1,rI a2] [] (rB r,[]):=by
 refine Ev.body Z Tryz.func441 Z Zk<|gU Z<|sU<|sN<|WC.cI Z Z<|sM Z<|sM Z<|bE h fun x1 h1 h=>eG h1 Z<|sV (.cptr [.int .i64 x1.cu,.int .i64 x1.gE])<|sC Z<|sM Z<|sM Z<|bE h fun x2 h2 h=>eG h2 Z ?_
 refine sV (.cptr [.int .i64 x2.cu,.int .i64 x2.gE])<|sC Z<|bE h fun x3 h3 h=>cD (bL h3)<|sM Z<|sM Z<|bE h fun x4 h4 h=>eG h4 Z<|sV (.cptr [.int .i64 x4.gE])<|sC Z<|sM Z<|sM Z<|bE h fun x5 h5 h=>eG h5 Z<|sV (.cptr [.int .i64 x5.gE]) ?_
 refine sC Z<|bE h fun x6 h6 h=>cD (bL h6)<|sV (.d (.lst ([x3,x6].map (PD.int .i64))))<|bE h fun x7 h7 h=>cD (ic h7)<|sV (rB (decide (x7<(0:Int))))<|sA Z ?_
 refine sN<|sO<|qR ?_
 exact oI h▸qD
theorem nV{a1:Int}{a2:Int}{d0:(List am)}{r:(List am)}(h:iN a1 a2 d0=some r):EvP prog az ext 442 [.ref 0 0,rI a1,rI a2] [.arr 0 194 (d0.map am.pd)] (.tup [],[.arr 0 194 (r.map am.pd)]):=by
 refine Ev.body Z Tryz.func442 Z Zk<|WC.kT Z Z<|sM Z<|sM Z<|sM Z<|sM Z<|sM Z<|sM Z<|bE h fun x2 h2 h=>WO.qV h2 Z Z Z Z Z Z Z Z<|bE h fun x3 h3 h=>WO.oB h3 Z Z Z Z Z Z<|sM Z<|sM Z<|bE h fun x5 h5 h=>?_
 refine WO.qV h5 Z Z Z Z Z Z Z Z<|bE h fun x6 h6 h=>WO.oB h6 Z Z Z Z Z Z<|bE h fun x8 h8 h=>WO.qV h8 Z Z Z Z Z Z Z Z<|bE h fun x9 h9 h=>WO.th (g:=am.pd) (sz:=8) (p:=am.pd x3) h9 (by intro _;kernel_rfl) (by intro _;kernel_rfl) Z Z Z Z Z Z Z Z Z<|bE h fun x11 h11 h=>WO.qV h11 Z Z Z Z Z Z Z Z<|bE h fun x12 h12 h=>WO.th (g:=am.pd) (sz:=8) (p:=am.pd x6) h12 (by intro _;kernel_rfl) (by intro _;kernel_rfl) Z Z Z Z Z Z Z Z Z ?_
 refine sN<|sO ?_
 exact oI h▸qD
theorem heap_up_ev{a0:Int}{e1:ah}{e2:Int}{e3:Int}{e4:Bool}{e5:ak}{d1:(List am)}{r:(List am)}(h:oE a0 e1 e2 e3 e4 e5 d1=some r):EvP prog az ext 330 [.ifc 309 (.ptr 0 11),rI a0] [.var (ah.rc e1++ .ref 1 0::rI e2::rI e3::rB e4::ak.rc e5),.arr 0 194 (d1.map am.pd)] (.tup [],[.var (ah.rc e1++ .ref 1 0::rI e2::rI e3::rB e4::ak.rc e5),.arr 0 194 (r.map am.pd)]):=by
 refine Ev.body Z Tryz.func330 Z Zk<|bE h fun o12 ho12 h=>?_
 cases oI h
 refine WC.block (WC.loop (WL.wI ho12 (fun s R' B'=>dN prog 2 (A R' B') (az.at_ 330 2 0)=some (A [(0,.ifc 309 (.ptr 0 11)),(1,rI s.1)] [(0,.var (ah.rc e1++ .ref 1 0::rI e2::rI e3::rB e4::ak.rc e5)),(1,.arr 0 194 (s.2.map am.pd))])) Z ?_))
 rintro⟨s1,s2⟩ R' B' q3 hI h
 unfold nv at h
 refine qB<|gS Z hI<|sM Z<|sV (rI (rW (s1-(1:Int))))<|bE h fun x4 h4 h=>WO.uL h4 Z Z Z Z Z Z<|sA Z<|sN<|qS<|gU Z<|sM Z<|sM Z<|sF h ?_ ?_<;>intro h
 ·refine sM Z<|k3<|sK<|sK<|sT<|sN<|cT<|qX<|⟨fun he=>(by cases he),fun _=>?_⟩
  refine uD h (fun z6 hkz6 hz=>?_)
  obtain rfl:=Option.some.inj hz
  refine⟨(fun he=>by cases he),fun hz2=>?_⟩
  subst hz2
  have h:=hkz6
  refine qE ?_
  cases oI h
  exact qG
 refine sM Z<|sM Z<|sM Z<|sM Z<|bE h fun x7 h7 h=>WO.xm (e:=190) (c:= .ptr 0 11) (vl:= .ref 1 0) (g:=441) (args:=[rI s1,rI x4]) (v:=rB x7) (u:=[ ]) Z Z (by intro _;kernel_rfl) Z Z Z Z Z Z (nU h7) Z Z Z Z<|sV (rB (!x7))<|sF h ?_ ?_<;>intro h
 ·refine sN<|cT<|qX<|⟨fun he=>(by cases he),fun _=>?_⟩
  refine uD h (fun z9 hkz9 hz=>?_)
  obtain rfl:=Option.some.inj hz
  refine⟨(fun he=>by cases he),fun hz2=>?_⟩
  subst hz2
  have h:=hkz9
  refine qE ?_
  cases oI h
  exact qG
 refine sN<|cF<|qK<|gU Z<|sM Z<|sM Z<|sM Z<|bE h fun x10 h10 h=>WO.xm (e:=190) (c:= .ptr 0 11) (vl:= .ref 1 0) (g:=442) (args:=[rI x4,rI s1]) (v:= .tup []) (u:=[(1,.arr 0 194 (x10.map am.pd))]) Z Z (by intro _;kernel_rfl) Z Z Z Z Z Z (nV h10) Z Z Z Z<|sN<|WC.region Z Z<|sM Z<|sA Z<|sN ?_
 cases oI h
 exact⟨rfl,rfl⟩
theorem heap_Push_ev{a0:am}{e1:ah}{e2:Int}{e3:Int}{e4:Bool}{e5:ak}{r:(List am)}(h:mM a0 e1 e2 e3 e4 e5=some r):EvP prog az ext 268 [.ifc 309 (.ptr 0 11),.ifc 194 (.d (am.pd a0))] [.var (ah.rc e1++ .dO::rI e2::rI e3::rB e4::ak.rc e5)] (.tup [],[.var (ah.rc e1++ .ref 1 0::rI e2::rI e3::rB e4::ak.rc e5),.arr 0 194 (r.map am.pd)]):=by
 refine Ev.body Z Tryz.func268 Z Zk<|gU Z<|sM Z<|sM Z<|bE h fun x1 h1 h=>WO.lE (g:=444) (args:=[.ptr 0 11,.ifc 194 (.d (am.pd a0))]) (v:= .tup []) (u:=[(0,.var (ah.rc e1++ .ref 96 0::rI e2::rI e3::rB e4::ak.rc e5)),(96,.arr 0 194 (x1.map am.pd))]) Z Z (by intro _;kernel_rfl) Z Z Z Z Z (queue_Push_ev h1) Z Z Z Z<|sN<|WC.region Z Z<|sM Z<|sM Z<|bE h fun x2 h2 h=>WO.xm (e:=190) (c:= .ptr 0 11) (vl:= .ref 96 0) (g:=440) (args:=[]) (v:=rI x2) (u:=[ ]) Z Z (by intro _;kernel_rfl) Z Z Z Z Z Z (oM h2) Z Z Z Z<|sV (rI (rW (x2-(1:Int))))<|bE h fun x3 h3 h=>cR (.tup []) [(0,.var (ah.rc e1++ .ref 96 0::rI e2::rI e3::rB e4::ak.rc e5)),(96,.arr 0 194 (x3.map am.pd))] (heap_up_ev h3) ?_
 refine sN ?_
 cases oI h
 exact qG
theorem search_add_ev{a0:ag}{e1:ah}{e2:Int}{e3:Int}{e4:Bool}{e5:ak}{r:Int×(List am)×Int}(h:lz a0 e1 e2 e3 e4 e5=some r):EvP prog az ext 184 [.ptr 0 0,.d (ag.pd a0)] [.var (ah.rc e1++ .dO::rI e2::rI e3::rB e4::ak.rc e5)] (rI r.1,[.var (ah.rc e1++ .ref 1 0::rI r.2.2::rI e3::rB e4::ak.rc e5),.arr 0 194 (r.2.1.map am.pd)]):=by
 refine Ev.body Z Tryz.func184 Z Zk<|gU Z<|sB (.ptr 48 0) 48 (.var (ag.rc a0))<|sV (r0)<|sN<|WC.cI Z Z<|sM Z<|sV (.ptr 0 0)<|sV (.ptr 0 0)<|sV (.d (ah.pd e1))<|sV (.d (ag.pd a0))<|bE h fun x1 h1 h=>cR (.tup [rI x1.1,rI x1.2]) [] (pc h1)<|sM Z<|sV (rI x1.1) ?_
 refine sV (rI x1.2)<|sA Z<|sA Z ?_
 refine sN<|sO<|WC.join (α:=Int×(List am)) (fun x R' B'=>dN prog 1 (A R' B') (az.at_ 184 1 5)=some (A [(6,rI x1.2)] [(0,.var (ah.rc e1++ .ref 90081 0::rI x.1::rI e3::rB e4::ak.rc e5)),(90081,.arr 0 194 (x.2.map am.pd))])) (fun x=>jC x1 x.1 x.2=some r) ?_ ?_
 ·refine gU Z<|sM Z<|sF h ?_ ?_<;>intro h
  ·refine sN<|cT<|WC.cI Z Z<|sM Z<|sV (.ptr 0 0)<|sV (.ptr 0 11)<|sG (.ifc 309 (.ptr 0 11))<|sV (.d (ag.pd a0))<|sM Z<|sM Z<|sV (.ptr 0 0)<|sV (.ptr 0 12)<|sL Z<|sG (.d (am.pd (am.mk a0 x1.1 e2)))<|sG (.ifc 194 (.d (am.pd (am.mk a0 x1.1 e2)))) ?_
   refine bE h fun x6 h6 h=>cR (.tup []) [(0,.var (ah.rc e1++ .ref 480 0::rI e2::rI e3::rB e4::ak.rc e5)),(480,.arr 0 194 (x6.map am.pd))] (heap_Push_ev h6) ?_
   exact sN<|sO<|WC.region rfl rfl<|sM rfl<|sV (.ptr 0 0)<|sV (.ptr 0 12)<|sL rfl<|sV (rI (rW (e2+(1:Int))))<|sV (.ptr 0 0)<|sV (.ptr 0 12)<|sS 0 (.var (ah.rc e1++ .ref 480 0::rI (rW (e2+(1:Int)))::rI e3::rB e4::ak.rc e5))<|sN<|⟨((rW (e2+(1:Int))),x6),rfl,h⟩
  exact sN<|cF<|qK<|⟨(e2,([]:List am)),rfl,h⟩
 rintro⟨j2,j3⟩ R' B' hI h
 refine gS Z hI<|sM Z<|sA Z<|sN<|qR ?_
 cases oI h
 exact qG
theorem search_ended_ev{a0:Int}{e1:ah}{e2:Int}{e3:Int}{e4:Bool}{e5:ak}{d1:(List am)}{r:Bool}(h:jn a0 e1 e2 e3 e4 e5 d1=some r):EvP prog az ext 185 [.ptr 0 0,rI a0] [.var (ah.rc e1++ .ref 1 0::rI e2::rI e3::rB e4::ak.rc e5),.arr 0 194 (d1.map am.pd)] (rB r,[.var (ah.rc e1++ .ref 1 0::rI e2::rI e3::rB e4::ak.rc e5),.arr 0 194 (d1.map am.pd)]):=by
 refine Ev.body Z Tryz.func185 Z Zk<|gU Z<|sU<|sN<|WC.cI Z Z<|sM Z<|sV (.ptr 0 0)<|sV (.ptr 0 11)<|sL Z<|WO.vG Z Z Z Z Z Z Z Z Z<|sF h ?_ ?_<;>intro h
 ·refine sM Z<|k3<|k3<|k3<|k3<|sK<|sK ?_
  refine k3<|k3<|sK<|sT<|sA Z ?_
  refine sN<|sO<|qR ?_
  cases oI h
  exact qG
 refine sM Z<|sM Z<|sV (.ptr 0 0)<|sV (.ptr 0 14)<|sF h ?_ ?_<;>intro h
 ·refine sM Z<|sM Z<|sV (.ptr 0 0)<|sV (.ptr 0 15)<|sV (.ptr 0 19)<|sL Z<|sM Z<|sV (.ptr 0 0)<|sV (.ptr 0 11)<|sL Z<|bE h fun x4 h4 h=>WO.qV h4 Z Z Z Z Z Z Z Z<|sV (.elt 1 0 ((0:Int)).toNat 6)<|bE h fun x5 h5 h=>WO.oB h5 Z Z Z Z Z Z ?_
  refine sV (rI (rW (e5.bq-x5.cu)))<|sM Z<|sV (rB (decide ((rW (e5.bq-x5.cu))<=a0)))<|sV (rB (decide ((rW (e5.bq-x5.cu))<=a0)))<|sV (rB (decide ((rW (e5.bq-x5.cu))<=a0)))<|sA Z ?_
  refine sN<|sO<|qR ?_
  cases oI h
  exact qG
 refine sM Z<|k3<|k3<|k3<|k3<|sK<|sK ?_
 refine sK<|sU<|sU<|sA Z ?_
 refine sN<|sO<|qR ?_
 cases oI h
 exact qG
theorem heap_down_ev{a0:Int}{a1:Int}{e2:ah}{e3:Int}{e4:Int}{e5:Bool}{e6:ak}{d1:(List am)}{r:Bool×(List am)}(h:mN a0 a1 e2 e3 e4 e5 e6 d1=some r):EvP prog az ext 331 [.ifc 309 (.ptr 0 11),rI a0,rI a1] [.var (ah.rc e2++ .ref 1 0::rI e3::rI e4::rB e5::ak.rc e6),.arr 0 194 (d1.map am.pd)] (rB r.1,[.var (ah.rc e2++ .ref 1 0::rI e3::rI e4::rB e5::ak.rc e6),.arr 0 194 (r.2.map am.pd)]):=by
 refine Ev.body Z Tryz.func331 Z Zk<|gU Z<|sU<|sN<|gU Z<|sM Z<|sA Z<|sN<|qS<|bE h fun o17 ho17 h=>WC.block (WC.loop (WL.fV ho17 (fun s R' B'=>dN prog 2 (A R' B') (az.at_ 331 2 2)=some (A [(0,.ifc 309 (.ptr 0 11)),(1,rI a0),(2,rI a1),(7,rI s.1)] [(0,.var (ah.rc e2++ .ref 1 0::rI e3::rI e4::rB e5::ak.rc e6)),(1,.arr 0 194 (s.2.map am.pd))])) (fun o e R' B'=>e= .exit 0∧dN prog 2 (A R' B') (az.at_ 331 2 11)=some (A [(1,rI a0),(7,rI o.1)] [(0,.var (ah.rc e2++ .ref 1 0::rI e3::rI e4::rB e5::ak.rc e6)),(1,.arr 0 194 (o.2.map am.pd))])) Z ?_ ?_))
 ·rintro⟨s1,s2⟩ R' B' q5 hI h
  refine qB<|gS Z hI<|sM Z<|sV (rI (rW ((2:Int)*s1)))<|sV (rI (rW ((rW ((2:Int)*s1))+(1:Int))))<|sA Z<|sN<|qS<|gU Z<|sM Z<|sM Z<|sF h ?_ ?_<;>intro h
  ·refine sM Z<|sK<|sK<|sT<|sN<|cT<|qX<|⟨fun he=>(by cases he),fun _=>?_⟩
   cases oI h
   exact⟨nofun,rfl,rfl⟩
  refine sM Z<|sM Z<|sV (rB (decide ((rW ((rW ((2:Int)*s1))+(1:Int)))<(0:Int))))<|sF h ?_ ?_<;>intro h
  ·refine sN<|cT<|qX<|⟨fun he=>(by cases he),fun _=>?_⟩
   cases oI h
   exact⟨nofun,rfl,rfl⟩
  refine sN<|cF<|qK<|gU Z<|sM Z<|sA Z<|sN<|WC.join (α:=Int) (fun x R' B'=>dN prog 2 (A R' B') (az.at_ 331 2 8)=some (A [(0,.ifc 309 (.ptr 0 11)),(1,rI a0),(2,rI a1),(7,rI s1),(9,rI x)] [(0,.var (ah.rc e2++ .ref 1 0::rI e3::rI e4::rB e5::ak.rc e6)),(1,.arr 0 194 (s2.map am.pd))])) (fun x=>e7 s2 s1 x=some q5) ?_ ?_
  ·refine gU Z<|sM Z<|sV (rI (rW ((rW ((rW ((2:Int)*s1))+(1:Int)))+(1:Int))))<|sA Z<|sN<|gU Z<|sM Z<|sM Z<|sF h ?_ ?_<;>intro h
   ·refine sM Z<|sM Z<|sM Z<|sM Z<|bE h fun x14 h14 h=>WO.xm (e:=190) (c:= .ptr 0 11) (vl:= .ref 1 0) (g:=441) (args:=[rI (rW ((rW ((rW ((2:Int)*s1))+(1:Int)))+(1:Int))),rI (rW ((rW ((2:Int)*s1))+(1:Int)))]) (v:=rB x14) (u:=[ ]) Z Z (by intro _;kernel_rfl) Z Z Z Z Z Z (nU h14) Z Z Z Z<|sF h ?_ ?_<;>intro h
    ·exact sN<|cT<|WC.region rfl rfl<|sM rfl<|sA rfl<|sN<|⟨(rW ((rW ((rW ((2:Int)*s1))+(1:Int)))+(1:Int))),rfl,h⟩
    exact sN<|cF<|qK<|⟨(rW ((rW ((2:Int)*s1))+(1:Int))),rfl,h⟩
   exact sM rfl<|k3<|sK<|sU<|sN<|cF<|qK<|⟨(rW ((rW ((2:Int)*s1))+(1:Int))),rfl,h⟩
  rintro j8 R' B' hI h
  refine qS<|gS Z hI<|sM Z<|sM Z<|sM Z<|bE h fun x9 h9 h=>WO.xm (e:=190) (c:= .ptr 0 11) (vl:= .ref 1 0) (g:=441) (args:=[rI j8,rI s1]) (v:=rB x9) (u:=[ ]) Z Z (by intro _;kernel_rfl) Z Z Z Z Z Z (nU h9) Z Z Z Z<|sF h ?_ ?_<;>intro h
  ·refine sN<|cT<|qX<|⟨fun he=>(by cases he),fun _=>?_⟩
   cases oI h
   exact⟨nofun,rfl,rfl⟩
  refine sN<|cF<|qK<|gU Z<|sM Z<|sM Z<|sM Z<|bE h fun x11 h11 h=>WO.xm (e:=190) (c:= .ptr 0 11) (vl:= .ref 1 0) (g:=442) (args:=[rI s1,rI j8]) (v:= .tup []) (u:=[(1,.arr 0 194 (x11.map am.pd))]) Z Z (by intro _;kernel_rfl) Z Z Z Z Z Z (nV h11) Z Z Z Z<|sN<|WC.region Z Z<|sM Z<|sA Z<|sN ?_
  cases oI h
  exact⟨rfl,rfl⟩
 intro e R' B' he hq
 obtain⟨rfl,hI⟩:=hq
 refine qE<|gS Z hI<|sM Z<|sM Z<|sV (rB (decide (o17.1>a0)))<|sA Z<|sN<|qR ?_
 cases oI h
 exact qG
theorem queue_Pop_ev{e0:ah}{e1:Int}{e2:Int}{e3:Bool}{e4:ak}{d1:(List am)}{r:am×(List am)}(h:qd e0 e1 e2 e3 e4 d1=some r):EvP prog az ext 443 [.ptr 0 11] [.var (ah.rc e0++ .ref 1 0::rI e1::rI e2::rB e3::ak.rc e4),.arr 0 194 (d1.map am.pd)] (.ifc 194 (.d (am.pd r.1)),[.var (ah.rc e0++ .ref 1 1::rI e1::rI e2::rB e3::ak.rc e4),.arr 1 194 (r.2.map am.pd)]):=by
 refine Ev.body Z Tryz.func443 Z Zk<|gU Z<|sV (.d (.raw .nilIface))<|sN<|gU Z<|sM Z<|sV (.ptr 0 11)<|sL Z<|sA Z<|sN<|gU Z<|sM Z<|sM Z<|WO.vG Z Z Z Z Z Z Z Z Z<|sV (rI (rW ((d1.length:Int)-(1:Int)))) ?_
 refine bE h fun x2 h2 h=>WO.qV h2 Z Z Z Z Z Z Z Z<|bE h fun x3 h3 h=>WO.oB h3 Z Z Z Z Z Z<|sB (.ptr 64 0) 64 (.var [r0,r0,r0,r0,r0,r0,r0,r0])<|sH 64 (.var (am.rc x3))<|sN<|gU Z<|sM Z<|sM Z<|sM Z<|WO.vG Z Z Z Z Z Z Z Z Z<|sV (rI (rW ((d1.length:Int)-(1:Int))))<|bE h fun x4 h4 h=>WO.resl h4 Z Z Z Z Z Z Z Z Z Z Z Z ?_
 refine sV (.ptr 0 11)<|sS 0 (.var (ah.rc e0++ .ref 1 1::rI e1::rI e2::rB e3::ak.rc e4))<|sN<|gU Z<|sV (.d (am.pd x3))<|sG (.ifc 194 (.d (am.pd x3)))<|sA Z<|sN<|qR ?_
 cases oI h
 exact qG
theorem heap_Pop_ev{e0:ah}{e1:Int}{e2:Int}{e3:Bool}{e4:ak}{d1:(List am)}{r:am×(List am)}(h:n9 e0 e1 e2 e3 e4 d1=some r):EvP prog az ext 269 [.ifc 309 (.ptr 0 11)] [.var (ah.rc e0++ .ref 1 0::rI e1::rI e2::rB e3::ak.rc e4),.arr 0 194 (d1.map am.pd)] (.ifc 194 (.d (am.pd r.1)),[.var (ah.rc e0++ .ref 1 1::rI e1::rI e2::rB e3::ak.rc e4),.arr 1 194 (r.2.map am.pd)]):=by
 refine Ev.body Z Tryz.func269 Z Zk<|gU Z<|sV (.d (.raw .nilIface))<|sN<|gU Z<|sM Z<|bE h fun x1 h1 h=>WO.xm (e:=190) (c:= .ptr 0 11) (vl:= .ref 1 0) (g:=440) (args:=[]) (v:=rI x1) (u:=[ ]) Z Z (by intro _;kernel_rfl) Z Z Z Z Z Z (oM h1) Z Z Z Z<|sV (rI (rW (x1-(1:Int))))<|sA Z<|sN<|gU Z<|sM Z<|sM Z<|bE h fun x2 h2 h=>?_
 refine WO.xm (e:=190) (c:= .ptr 0 11) (vl:= .ref 1 0) (g:=442) (args:=[r0,rI (rW (x1-(1:Int)))]) (v:= .tup []) (u:=[(1,.arr 0 194 (x2.map am.pd))]) Z Z (by intro _;kernel_rfl) Z Z Z Z Z Z (nV h2) Z Z Z Z<|sN<|gU Z<|sM Z<|sM Z<|bE h fun x3 h3 h=>cR (rB x3.1) [(0,.var (ah.rc e0++ .ref 1 0::rI e1::rI e2::rB e3::ak.rc e4)),(1,.arr 0 194 (x3.2.map am.pd))] (heap_down_ev h3)<|sN<|gU Z<|sM Z<|bE h fun x4 h4 h=>WO.lE (g:=443) (args:=[.ptr 0 11]) (v:= .ifc 194 (.d (am.pd x4.1))) (u:=[(0,.var (ah.rc e0++ .ref 1 1::rI e1::rI e2::rB e3::ak.rc e4)),(1,.arr 1 194 (x4.2.map am.pd))]) Z Z (by intro _;kernel_rfl) Z Z Z Z Z (queue_Pop_ev h4) Z Z Z Z<|sA Z<|sN<|qR ?_
 cases oI h
 exact qG
theorem dw{a0:Int}{a1:Int}{r:Int}(h:bP a0 a1=some r):EvP prog az ext 334 [rI a0,rI a1] [] (rI r,[]):=by
 refine Ev.body Z Tryz.func334 Z Zk<|gU Z<|sV (r0)<|sN<|gU Z<|sM Z<|sM Z<|sM Z<|sV (rI (rW (a1-a0)))<|bE h fun x1 h1 h=>WO.uL h1 Z Z Z Z Z Z<|sV (rI (rW (a0+x1)))<|sA Z<|sN<|qR ?_
 exact oI h▸qD
theorem bT{a0:aS}{r:aa}(h:bG a0=some r):EvP prog az ext 189 [.d (aS.pd a0)] [] (.d (aa.pd r),[]):=by
 refine Ev.body Z Tryz.func189 Z Zk<|gU Z<|sB (.ptr 16 0) 16 (.var [rI a0.a0,rI a0.a1,rI a0.a2])<|sB (.ptr 32 0) 32 (.var [r0,r0,r0])<|sN<|gU Z<|sV (.ptr 16 0)<|sL Z<|sV (.ptr 16 1)<|sL Z<|sV (.ptr 16 2)<|sL Z<|sV (.d (aa.pd (aa.mk a0.a0 a0.a1 a0.a2)))<|sS 32 (.var [rI a0.a0,rI a0.a1,rI a0.a2])<|sN ?_
 refine qR ?_
 exact oI h▸qD
theorem qL{a0:ag}{r:aa}(h:fu a0=some r):EvP prog az ext 332 [.d (ag.pd a0)] [] (.d (aa.pd r),[]):=by
 refine Ev.body Z Tryz.func332 Z Zk<|gU Z<|sB (.ptr 16 0) 16 (.var (ag.rc a0))<|sB (.ptr 32 0) 32 (.var [r0,r0,r0])<|sN<|qS<|gU Z<|sV (.d (ag.pd a0))<|bE h fun x1 h1 h=>cD (bF h1)<|sF h ?_ ?_<;>intro h
 ·refine sN<|cT<|gU Z<|sV (.d (aa.pd (aa.mk 0 0 0)))<|sS 32 (.var [r0,r0,r0])<|sN<|qR ?_
  exact oI h▸qD
 refine sN<|cF<|qK<|WC.cI Z Z<|sV (.ptr 16 0)<|sV (.d (aa.pd a0.aI))<|bE h fun x3 h3 h=>cD (bM h3)<|sV (.ptr 16 3)<|sV (.d (aa.pd a0.aC))<|bE h fun x4 h4 h=>cD (bM h4)<|sB (.ptr 48 0) 48 (.var [r0,r0,r0])<|sB (.ptr 64 0) 64 (.var [r0,r0,r0])<|sS 48 (.var [rI x3.a0,rI x3.a1,rI x3.a2]) ?_
 refine sS 64 (.var [rI x4.a0,rI x4.a1,rI x4.a2]) ?_
 refine sN<|sO<|qS<|gU Z<|sV (r0)<|sN<|WC.block (WC.loop ?_)
 refine WL.round<|WC.jW (R0:=[(2,.ptr 32 0),(3,.ptr 48 0),(4,.ptr 64 0),(16,r0)]) (B0:=[(32,.var [r0,r0,r0]),(48,.var [rI x3.a0,rI x3.a1,rI x3.a2]),(64,.var [rI x4.a0,rI x4.a1,rI x4.a2])]) Z Z<|sT<|sN<|qS<|cT<|qK<|qS<|qB<|gU Z<|sM Z<|sA Z<|sN<|WC.kT Z Z<|sM Z ?_
 refine sM Z<|sV (.ptr 48 0)<|sL Z<|sM Z<|sV (.ptr 64 0)<|sL Z<|bE h fun x5 h5 h=>cD (dw h5)<|sV (.ptr 48 0)<|sS 48 (.var [rI x5,rI x3.a1,rI x3.a2]) ?_
 refine sN<|sO<|WC.region Z Z<|sV (rI 1)<|sM Z<|sN<|WL.round<|WC.jW (R0:=[(2,.ptr 32 0),(3,.ptr 48 0),(4,.ptr 64 0),(16,rI 1)]) (B0:=[(32,.var [r0,r0,r0]),(48,.var [rI x5,rI x3.a1,rI x3.a2]),(64,.var [rI x4.a0,rI x4.a1,rI x4.a2])]) Z Z<|sT<|sN<|qS<|cT<|qK<|qS<|qB<|gU Z ?_
 refine sM Z<|sA Z<|sN<|WC.kT Z Z<|sM Z<|sM Z<|sV (.ptr 48 1)<|sL Z<|sM Z<|sV (.ptr 64 1)<|sL Z<|bE h fun x6 h6 h=>cD (dw h6)<|sV (.ptr 48 1)<|sS 48 (.var [rI x5,rI x6,rI x3.a2]) ?_
 refine sN<|sO<|WC.region Z Z<|sV (rI 2)<|sM Z<|sN<|WL.round<|WC.jW (R0:=[(2,.ptr 32 0),(3,.ptr 48 0),(4,.ptr 64 0),(16,rI 2)]) (B0:=[(32,.var [r0,r0,r0]),(48,.var [rI x5,rI x6,rI x3.a2]),(64,.var [rI x4.a0,rI x4.a1,rI x4.a2])]) Z Z<|sT<|sN<|qS<|cT<|qK<|qS<|qB<|gU Z ?_
 refine sM Z<|sA Z<|sN<|WC.kT Z Z<|sM Z<|sM Z<|sV (.ptr 48 2)<|sL Z<|sM Z<|sV (.ptr 64 2)<|sL Z<|bE h fun x7 h7 h=>cD (dw h7)<|sV (.ptr 48 2)<|sS 48 (.var [rI x5,rI x6,rI x7]) ?_
 refine sN<|sO<|WC.region Z Z<|sV (rI 3)<|sM Z<|sN<|WL.round<|WC.jW (R0:=[(2,.ptr 32 0),(3,.ptr 48 0),(4,.ptr 64 0),(16,rI 3)]) (B0:=[(32,.var [r0,r0,r0]),(48,.var [rI x5,rI x6,rI x7]),(64,.var [rI x4.a0,rI x4.a1,rI x4.a2])]) Z Z<|sU<|sN<|qS<|cF<|qX<|qE<|gU Z<|sV (.d (aS.pd (aS.mk x5 x6 x7))) ?_
 refine bE h fun x8 h8 h=>cD (bT h8)<|sS 32 (.var (aa.rc x8))<|sN<|qR ?_
 exact oI h▸qD
theorem misfit_At_ev{a0:ah}{a1:aa}{r:Int×Int×Int}(h:ij a0 a1=some r):EvP prog az ext 18 [.d (ah.pd a0),.d (aa.pd a1)] [] (.tup [rI r.1,rI r.2.1,rI r.2.2],[]):=by
 refine Ev.body Z Tryz.func18 Z Zk<|gU Z<|sB (.ptr 32 0) 32 (.var (ah.rc a0))<|sB (.ptr 48 0) 48 (.var (aa.rc a1))<|sV (r0)<|sV (r0)<|sV (r0)<|sN<|gU Z<|sV (.d (ah.pd a0))<|sV (.d (aa.pd a1))<|sV (.d (aa.pd a1))<|sG (.d (ag.pd (ag.mk a1 a1)))<|bE h fun x1 h1 h=>cR (.tup [rM aK.pd x1.1,rI x1.2]) [] (mi h1) ?_
 refine sM Z<|sV (rM aK.pd x1.1)<|sV (rI x1.2)<|sA Z<|sA Z<|sN<|qS<|gU Z<|sM Z<|sF h ?_ ?_<;>intro h
 ·refine sN<|cT<|gU Z<|sM Z<|sV (r0)<|sV (r0)<|sA Z<|sN<|qR ?_
  cases oI h
  exact qG
 refine sN<|cF<|qK<|gU Z<|sV (.d (ah.pd a0))<|sM Z<|bE h fun x3 h3 h=>cR (.tup [rI x3.1,rI x3.2]) [] (pG h3)<|sM Z<|sV (rI x3.1)<|sV (rI x3.2)<|sA Z<|sA Z<|sN<|gU Z ?_
 refine sM Z<|sM Z<|sA Z<|sA Z<|sV (r0)<|sN<|qR ?_
 cases oI h
 exact qG
theorem search_look_ev{a0:ag}{e1:ah}{e2:Int}{e3:Int}{e4:Bool}{e5:ak}{d1:(List am)}{r:Int×Bool×ak}(h:kk a0 e1 e2 e3 e4 e5 d1=some r):EvP prog az ext 270 [.ptr 0 0,.d (ag.pd a0)] [.var (ah.rc e1++ .ref 1 0::rI e2::rI e3::rB e4::ak.rc e5),.arr 0 194 (d1.map am.pd)] (rI r.1,[.var (ah.rc e1++ .ref 1 0::rI e2::rI e3::rB r.2.1::ak.rc r.2.2),.arr 0 194 (d1.map am.pd)]):=by
 refine Ev.body Z Tryz.func270 Z Zk<|gU Z<|sB (.ptr 48 0) 48 (.var (ag.rc a0))<|sV (r0)<|sN<|gU Z<|sV (.d (ag.pd a0))<|bE h fun x1 h1 h=>cD (qL h1)<|sB (.ptr 80 0) 80 (.var [r0,r0,r0])<|sS 80 (.var (aa.rc x1))<|sN<|WC.cI Z Z<|sM Z<|sV (.ptr 0 0) ?_
 refine sV (.ptr 0 0)<|sV (.d (ah.pd e1))<|sV (.d (aa.pd x1))<|bE h fun x2 h2 h=>cR (.tup [rI x2.1,rI x2.2.1,rI x2.2.2]) [] (misfit_At_ev h2)<|sM Z<|sV (rI x2.1)<|sV (rI x2.2.1)<|sV (rI x2.2.2)<|sA Z<|sA Z<|sA Z ?_
 refine sN<|sO<|qS<|gU Z<|sM Z<|sF h ?_ ?_<;>intro h
 ·refine sN<|cT<|gU Z<|sM Z<|sA Z<|sN<|qR ?_
  cases oI h
  exact qG
 refine sN<|cF<|qK<|qS<|WC.cI Z Z<|sM Z<|sV (.ptr 0 0)<|sV (.ptr 0 14)<|sL Z<|sF h ?_ ?_<;>intro h
 ·refine sM Z<|k3<|k3<|sK<|sT<|sM Z<|k3<|sK<|sK ?_
  refine k3<|k3<|k3<|k3<|sT ?_
  refine sN<|sO<|cT<|gU Z<|sM Z<|sV (.ptr 0 0)<|sV (.ptr 0 14)<|sS 0 (.var (ah.rc e1++ .ref 1 0::rI e2::rI e3::rB true::ak.rc e5))<|sN<|WC.region Z Z<|sM Z<|sV (.d (aa.pd x1))<|sM Z<|sM Z<|sG (.d (ak.pd (ak.mk x1 x2.1 x2.2.1 0 (ag.mk (aa.mk 0 0 0) (aa.mk 0 0 0)))))<|sV (.ptr 0 0) ?_
  refine sV (.ptr 0 15)<|sH 0 (.var (ah.rc e1++ .ref 1 0::rI e2::rI e3::rB true::aa.rc x1++[rI x2.1,rI x2.2.1,r0,r0,r0,r0,r0,r0,r0]))<|sN<|gU Z<|sV (r0)<|sN<|qR ?_
  cases oI h
  exact qG
 refine sM Z<|sM Z<|sM Z<|sV (.ptr 0 0)<|sV (.ptr 0 15)<|sV (.ptr 0 19)<|sL Z<|sV (rB (decide (x2.2.1<e5.bq)))<|sF h ?_ ?_<;>intro h
 ·refine sM Z<|k3<|k3<|k3<|k3<|sK<|sK ?_
  refine k3<|sT ?_
  refine sN<|sO<|cT<|gU Z<|sM Z<|sV (.ptr 0 0)<|sV (.ptr 0 14)<|sS 0 (.var (ah.rc e1++ .ref 1 0::rI e2::rI e3::rB true::ak.rc e5))<|sN<|WC.region Z Z<|sM Z<|sV (.d (aa.pd x1))<|sM Z<|sM Z<|sG (.d (ak.pd (ak.mk x1 x2.1 x2.2.1 0 (ag.mk (aa.mk 0 0 0) (aa.mk 0 0 0)))))<|sV (.ptr 0 0) ?_
  refine sV (.ptr 0 15)<|sH 0 (.var (ah.rc e1++ .ref 1 0::rI e2::rI e3::rB true::aa.rc x1++[rI x2.1,rI x2.2.1,r0,r0,r0,r0,r0,r0,r0]))<|sN<|gU Z<|sV (r0)<|sN<|qR ?_
  cases oI h
  exact qG
 refine sM Z<|sM Z<|sM Z<|sV (.ptr 0 0)<|sV (.ptr 0 15)<|sV (.ptr 0 19)<|sL Z<|sF h ?_ ?_<;>intro h
 ·refine sM Z<|sV (.d (aa.pd x1))<|sM Z<|sV (.ptr 0 0)<|sV (.ptr 0 15)<|sV (.ptr 0 15)<|sV (.d (aa.pd e5.aX))<|bE h fun x7 h7 h=>cD (mw h7)<|sV (rB (decide (x7<(0:Int))))<|sV (rB (decide (x7<(0:Int))))<|sF h ?_ ?_<;>intro h
  ·refine sN<|sO<|cT<|gU Z<|sM Z<|sV (.ptr 0 0)<|sV (.ptr 0 14)<|sS 0 (.var (ah.rc e1++ .ref 1 0::rI e2::rI e3::rB true::ak.rc e5))<|sN<|WC.region Z Z<|sM Z<|sV (.d (aa.pd x1))<|sM Z<|sM Z<|sG (.d (ak.pd (ak.mk x1 x2.1 x2.2.1 0 (ag.mk (aa.mk 0 0 0) (aa.mk 0 0 0)))))<|sV (.ptr 0 0) ?_
   refine sV (.ptr 0 15)<|sH 0 (.var (ah.rc e1++ .ref 1 0::rI e2::rI e3::rB true::aa.rc x1++[rI x2.1,rI x2.2.1,r0,r0,r0,r0,r0,r0,r0]))<|sN<|gU Z<|sV (r0)<|sN<|qR ?_
   cases oI h
   exact qG
  refine sN<|sO<|cF<|qK<|gU Z<|sV (r0)<|sN<|qR ?_
  cases oI h
  exact qG
 refine sM Z<|k3<|k3<|sK<|sK<|sU<|sU ?_
 refine sN<|sO<|cF<|qK<|gU Z<|sV (r0)<|sN<|qR ?_
 cases oI h
 exact qG
theorem qM{a0:ag}{r:Int}(h:jH a0=some r):EvP prog az ext 333 [.d (ag.pd a0)] [] (rI r,[]):=by
 refine Ev.body Z Tryz.func333 Z Zk<|gU Z<|sB (.ptr 16 0) 16 (.var (ag.rc a0))<|sV (r0)<|sN<|qS<|gU Z<|sV (.d (ag.pd a0))<|bE h fun x1 h1 h=>cD (bF h1)<|sF h ?_ ?_<;>intro h
 ·refine sN<|cT<|gU Z<|sV (r0)<|sN<|qR ?_
  exact oI h▸qD
 refine sN<|cF<|qK<|gU Z<|sV (.ptr 16 3)<|sV (.d (aa.pd a0.aC))<|bE h fun x3 h3 h=>cD (bM h3)<|sB (.ptr 64 0) 64 (.var [r0,r0,r0])<|sV (rI 1)<|sS 64 (.var [rI x3.a0,rI x3.a1,rI x3.a2])<|sN<|qS<|gU Z<|sV (.ptr 16 0) ?_
 refine sV (.d (aa.pd a0.aI))<|bE h fun x4 h4 h=>cD (bM h4)<|sV (r0)<|sN<|WC.block (WC.loop ?_)
 refine WL.round<|gU Z<|sT<|sN<|qS<|cT<|qK<|qS<|qB<|gU Z<|sM Z<|sV (rI x4.a0)<|sA Z<|sA Z<|sN ?_
 refine WC.region Z Z<|sM Z<|sM Z<|sV (.ptr 64 0)<|sL Z<|sM Z<|sV (rI (rW (x3.a0-x4.a0)))<|sV (rI (rW ((rW (x3.a0-x4.a0))+(1:Int))))<|sV (rI (rW ((1:Int)*(rW ((rW (x3.a0-x4.a0))+(1:Int))))))<|sA Z<|sN<|WC.region Z Z<|sV (rI 1)<|sM Z<|sN ?_
 refine WL.round<|gU Z<|sT<|sN<|qS<|cT<|qK<|qS<|qB<|gU Z<|sM Z<|sV (rI x4.a1)<|sA Z<|sA Z<|sN ?_
 refine WC.region Z Z<|sM Z<|sM Z<|sV (.ptr 64 1)<|sL Z<|sM Z<|sV (rI (rW (x3.a1-x4.a1)))<|sV (rI (rW ((rW (x3.a1-x4.a1))+(1:Int))))<|sV (rI (rW ((rW ((1:Int)*(rW ((rW (x3.a0-x4.a0))+(1:Int)))))*(rW ((rW (x3.a1-x4.a1))+(1:Int))))))<|sA Z<|sN<|WC.region Z Z<|sV (rI 2)<|sM Z<|sN ?_
 refine WL.round<|gU Z<|sT<|sN<|qS<|cT<|qK<|qS<|qB<|gU Z<|sM Z<|sV (rI x4.a2)<|sA Z<|sA Z<|sN ?_
 refine WC.region Z Z<|sM Z<|sM Z<|sV (.ptr 64 2)<|sL Z<|sM Z<|sV (rI (rW (x3.a2-x4.a2)))<|sV (rI (rW ((rW (x3.a2-x4.a2))+(1:Int))))<|sV (rI (rW ((rW ((rW ((1:Int)*(rW ((rW (x3.a0-x4.a0))+(1:Int)))))*(rW ((rW (x3.a1-x4.a1))+(1:Int)))))*(rW ((rW (x3.a2-x4.a2))+(1:Int))))))<|sA Z<|sN<|WC.region Z Z<|sV (rI 3)<|sM Z<|sN ?_
 refine WL.round<|gU Z<|sU<|sN<|qS<|cF<|qX<|qE<|gU Z<|sM Z<|sA Z<|sN<|qR ?_
 exact oI h▸qD
end Go.Dw.Em
