
import Derived.Test.YthadlbjoiidkjaaGreatDoorFcEvA

set_option maxRecDepth 100000
set_option maxHeartbeats 4000000
namespace Go.Dw.Fc
open Go.Proofs Go.Proofs.Tryz Go.Dw
theorem source_plain_ev{a0:Int}{r:Bool}(h:kx a0=some r):EvP prog aV ext 242 [.d (.int .u8 a0)] [] (rB r,[]):=by
 refine Ev.body Z Tryz.func242 Z Zk<|gU Z<|sU<|sN<|gU Z<|sM Z<|sF h ?_ ?_<;>intro h
 ·refine mM Z<|sV (rB (decide (a0<=(90:Int))))<|sF h ?_ ?_<;>intro h
  ·refine sM Z<|k3<|k3<|sT<|sA Z<|sN<|qR ?_
   exact oI h▸qD
  refine mM Z<|sF h ?_ ?_<;>intro h
  ·refine mM Z<|sV (rB (decide (a0<=(57:Int))))<|sV (rB (decide (a0<=(57:Int))))<|sV (rB (decide (a0<=(57:Int))))<|sA Z<|sN<|qR ?_
   exact oI h▸qD
  refine sM Z<|sK<|sK<|sU<|sU<|sA Z<|sN<|qR ?_
  exact oI h▸qD
 refine sM Z<|sK<|sK<|sU<|mM Z<|sF h ?_ ?_<;>intro h
 ·refine mM Z<|sV (rB (decide (a0<=(57:Int))))<|sV (rB (decide (a0<=(57:Int))))<|sV (rB (decide (a0<=(57:Int))))<|sA Z<|sN<|qR ?_
  exact oI h▸qD
 refine sM Z<|sK<|sK<|sU<|sU<|sA Z<|sN<|qR ?_
 exact oI h▸qD
theorem f7{a0:(List UInt8)}{a1:Int}{a2:Int}{r:Bool}(h:f5 a0 a1 a2=some r):EvP prog aV ext 205 [rS a0,rI a1,rI a2] [] (rB r,[]):=by
 refine Ev.body Z Tryz.func205 Z Zk<|gU Z<|sU<|sN<|qS<|gU Z<|sM Z<|sV (rI (a0.length:Int))<|sV (r0)<|sN<|bE h fun o8 ho8 h=>WC.block (WC.loop (WL.pJ ho8 (fun s=>gI 0 205 2 [(0,rS a0),(1,rI a1),(2,rI a2),(9,rI (a0.length:Int)),(10,rI s)] []) (fun o=>match o with| .inl y=>gX 0 0 205 7 [(0,rS a0),(1,rI a1),(2,rI a2)] []| .inr r=>gF 205 Tryz.f205 0 (rB r,[])) Z ?_ ?_))
 ·rintro s1 R' B' q2 hI h
  refine gS Z hI<|sF h ?_ ?_<;>intro h
  ·refine sN<|qS<|cT<|qK<|qS<|qB<|gU Z<|sM Z<|sA Z<|sN<|gU Z<|mM Z<|bE h fun x4 h4 h=>WO.byteG h4 Z Z Z Z Z Z ?_
   refine bE h fun x5 h5 h=>cD (source_plain_ev h5)<|sF h ?_ ?_<;>intro h
   ·refine sN<|cT<|gU Z<|sU<|sN<|qR ?_
    cases oI h
    exact⟨nofun,rfl,rfl⟩
   refine sN<|cF<|qK<|WC.region Z Z<|sV (rI (rW (s1+(1:Int))))<|sM Z<|sN ?_
   cases oI h
   exact⟨rfl,rfl⟩
  refine sN<|qS<|cF<|qX ?_
  cases oI h
  exact⟨nofun,rfl,rfl⟩
 intro e R' B' he hq
 rcases o8 with y9|r10
 ·obtain⟨rfl,hI⟩:=hq
  refine qE<|gS Z hI<|sM Z<|sV (rI (a0.length:Int))<|sM Z<|sF h ?_ ?_<;>intro h
  ·refine mM Z<|sV (rI (a0.length:Int))<|sM Z<|sV (rB (decide ((a0.length:Int)<=a2)))<|sV (rB (decide ((a0.length:Int)<=a2)))<|sA Z<|sN<|qR ?_
   exact oI h▸qD
  refine sM Z<|k3<|sK<|sU<|sA Z<|sN<|qR ?_
  exact oI h▸qD
 obtain⟨rfl,hf⟩:=hq
 cases oI h
 exact hf
theorem gN{a0:au}{r:Bool}(h:fe a0=some r):EvP prog aV ext 148 [.d (au.pd a0)] [] (rB r,[]):=by
 refine Ev.body Z Tryz.func148 Z Zk<|gU Z<|sB (.ptr 16 0) 16 (.var (au.rc a0))<|sU<|sN<|gU Z<|sV (.ptr 16 0)<|sL Z<|bE h fun x1 h1 h=>pP h (fun hb2 h=>?_) (fun hb2 h=>?_)
 ·refine WO.pV (v:=rB true) (u:=[]) Z Z (fun _=>Z) Z Z Z Z Z (f7 h1) Z Z (congrArg (fun b=>RV.d (.bool b)) hb2) Z<|sM Z<|sV (.ptr 16 1)<|sL Z<|bE h fun x3 h3 h=>cD (f7 h3)<|sF h ?_ ?_<;>intro h
  ·refine sM Z<|sV (.ptr 16 2)<|sL Z<|bE h fun x5 h5 h=>cD (f7 h5)<|sF h ?_ ?_<;>intro h
   ·refine sM Z<|sV (.ptr 16 2)<|sL Z<|sV (rI (a0.ac.length:Int))<|sV (rB ((a0.ac.length:Int) != (1:Int)))<|sF h ?_ ?_<;>intro h
    ·refine sM Z<|sV (.ptr 16 3)<|sL Z<|bE h fun x8 h8 h=>cD (f7 h8)<|sV (rB x8)<|sA Z<|sN<|qR ?_
     exact oI h▸qD
    refine sM Z<|k3<|sU<|sA Z<|sN<|qR ?_
    exact oI h▸qD
   refine sM Z<|k3<|sK<|sU<|sM Z<|k3<|sU<|sA Z<|sN<|qR ?_
   exact oI h▸qD
  refine sM Z<|k3<|sU<|sM Z<|k3<|sK<|sU<|sM Z<|sK<|sK<|sK ?_
  refine sU<|sA Z<|sN<|qR ?_
  exact oI h▸qD
 refine WO.pV (v:=rB false) (u:=[]) Z Z (fun _=>Z) Z Z Z Z Z (f7 h1) Z Z (congrArg (fun b=>RV.d (.bool b)) hb2) Z<|sM Z<|k3<|sU<|sM Z<|k3<|sU<|sM Z<|sK<|sK<|sK ?_
 refine sK<|sU<|sM Z<|k3<|sU<|sA Z<|sN<|qR ?_
 exact oI h▸qD
theorem pw{a0:Int}{a1:Int}{a2:Int}{r:Bool}(h:kC a0 a1 a2=some r):EvP prog aV ext 149 [rI a0,rI a1,rI a2] [] (rB r,[]):=by
 refine Ev.body Z Tryz.func149 Z Zk<|gU Z<|sU<|sN<|gU Z<|mM Z<|sF h ?_ ?_<;>intro h
 ·refine mM Z<|sM Z<|sV (rB (decide (a0<=a2)))<|sV (rB (decide (a0<=a2)))<|sA Z<|sN<|qR ?_
  exact oI h▸qD
 refine sM Z<|k3<|sU<|sA Z<|sN<|qR ?_
 exact oI h▸qD
theorem gq{a0:ag}{r:Bool}(h:cv a0=some r):EvP prog aV ext 83 [.d (ag.pd a0)] [] (rB r,[]):=by
 refine Ev.body Z Tryz.func83 Z Zk<|gU Z<|sB (.ptr 16 0) 16 (.var (ag.rc a0))<|sU<|sN<|gU Z<|sV (.ptr 16 0)<|sV (.d (au.pd a0.ar))<|bE h fun x1 h1 h=>pP h (fun hb2 h=>?_) (fun hb2 h=>?_)
 ·refine WO.pV (v:=rB true) (u:=[]) Z Z (fun _=>Z) Z Z Z Z Z (gN h1) Z Z (congrArg (fun b=>RV.d (.bool b)) hb2) Z<|sM Z<|sV (.ptr 16 5)<|sL Z<|sV (rB (decide (a0.aZ>=(0:Int))))<|sF h ?_ ?_<;>intro h
  ·refine sM Z<|sV (.ptr 16 5)<|sL Z<|sV (.ptr 16 4)<|sL Z<|sV (rB (decide (a0.aZ<=a0.aP)))<|sF h ?_ ?_<;>intro h
   ·refine sM Z<|sV (.ptr 16 4)<|sL Z<|sV (.ptr 16 6)<|sL Z<|sV (rB (decide (a0.aP<=a0.bg)))<|sF h ?_ ?_<;>intro h
    ·refine sM Z<|sV (.ptr 16 6)<|sL Z<|sV (rB (decide (a0.bg<=(18014398509481984:Int))))<|sF h ?_ ?_<;>intro h
     ·refine sM Z<|sV (.ptr 16 7)<|sL Z<|bE h fun x7 h7 h=>cD (pw h7)<|sF h ?_ ?_<;>intro h
      ·refine sM Z<|sV (.ptr 16 8)<|sL Z<|bE h fun x9 h9 h=>cD (pw h9)<|sV (rB x9)<|sA Z<|sN<|qR ?_
       cases oI h
       exact qG
      refine sM Z<|k3<|sU<|sA Z<|sN<|qR ?_
      cases oI h
      exact qG
     refine sM Z<|k3<|sU<|sM Z<|k3<|sU<|sA Z<|sN<|qR ?_
     cases oI h
     exact qG
    refine sM Z<|k3<|sU<|sM Z<|k3<|sU<|sM Z<|k3<|sU ?_
    refine sA Z<|sN<|qR ?_
    cases oI h
    exact qG
   refine sM Z<|k3<|sK<|sK<|sU<|sM Z<|k3<|sU<|sM Z<|sK<|sK ?_
   refine sK<|sU<|sM Z<|k3<|sU<|sA Z<|sN<|qR ?_
   cases oI h
   exact qG
  refine sM Z<|k3<|sK<|sK<|sU<|sM Z<|k3<|sK<|sK<|sU<|sM Z ?_
  refine k3<|sU<|sM Z<|k3<|sU<|sM Z<|k3<|sU<|sA Z ?_
  refine sN<|qR ?_
  cases oI h
  exact qG
 refine WO.pV (v:=rB false) (u:=[]) Z Z (fun _=>Z) Z Z Z Z Z (gN h1) Z Z (congrArg (fun b=>RV.d (.bool b)) hb2) Z<|sM Z<|k3<|sU<|sM Z<|k3<|sK<|sK<|sU<|sM Z<|sK ?_
 refine k3<|sK<|sU<|sM Z<|k3<|sU<|sM Z<|k3<|sU ?_
 refine sM Z<|k3<|sU<|sA Z<|sN<|qR ?_
 cases oI h
 exact qG
theorem eV{a0:ag}{r:Bool}(h:dh a0=some r):EvP prog aV ext 85 [.d (ag.pd a0)] [] (rB r,[]):=by
 refine Ev.body Z Tryz.func85 Z Zk<|gU Z<|sB (.ptr 16 0) 16 (.var (ag.rc a0))<|sU<|sN<|gU Z<|sV (.d (ag.pd a0))<|bE h fun x1 h1 h=>cD (gq h1)<|sV (rB (!x1))<|sA Z<|sN<|qR ?_
 cases oI h
 exact qG
theorem jO{a0:(List ag)}{r:Int}(h:bP a0=some r):EvP prog aV ext 150 [rM ag.pd a0,.d (.raw (.func (.func 85) #[] #[]))] [] (rI r,[]):=by
 refine Ev.body Z Tryz.func150 Z Zk<|gU Z<|sV (r0)<|sN<|qS<|gU Z<|sM Z<|sE (rI (a0.length:Int)) (oM _ _)<|sV (r0)<|sN<|bE h fun o8 ho8 h=>WC.block (WC.loop (WL.pJ ho8 (fun s=>gI 0 150 2 [(0,rM ag.pd a0),(1,.d (.raw (.func (.func 85) #[] #[]))),(7,rI (a0.length:Int)),(8,rI s)] []) (fun o=>match o with| .inl y=>gX 0 0 150 7 [] []| .inr r=>gF 150 Tryz.f150 0 (rI r,[])) Z ?_ ?_))
 ·rintro s1 R' B' q2 hI h
  refine gS Z hI<|sF h ?_ ?_<;>intro h
  ·refine sN<|qS<|cT<|qK<|qS<|qB<|gU Z<|sM Z<|sA Z<|sN<|gU Z<|mM Z<|sM Z<|bE h fun x4 h4 h=>?_
   refine eG h4 Z<|sV (.d (ag.pd x4))<|bE h fun x5 h5 h=>pP h (fun hb6 h=>?_) (fun hb6 h=>?_)
   ·refine WO.pV (v:=rB true) (u:=[]) Z Z (fun _=>Z) Z Z Z Z Z (eV h5) Z Z (congrArg (fun b=>RV.d (.bool b)) hb6) Z<|sN<|cT<|gU Z<|sM Z<|sA Z<|sN<|qR ?_
    cases oI h
    exact⟨nofun,rfl,rfl⟩
   refine WO.pV (v:=rB false) (u:=[]) Z Z (fun _=>Z) Z Z Z Z Z (eV h5) Z Z (congrArg (fun b=>RV.d (.bool b)) hb6) Z<|sN<|cF<|qK<|WC.region Z Z<|sV (rI (rW (s1+(1:Int))))<|sM Z<|sN ?_
   cases oI h
   exact⟨rfl,rfl⟩
  refine sN<|qS<|cF<|qX ?_
  cases oI h
  exact⟨nofun,rfl,rfl⟩
 intro e R' B' he hq
 rcases o8 with y9|r10
 ·obtain⟨rfl,hI⟩:=hq
  refine qE<|gS Z hI<|sV (rI (-1))<|sN<|qR ?_
  exact oI h▸qD
 obtain⟨rfl,hf⟩:=hq
 cases oI h
 exact hf
theorem iM{a0:(List ag)}{r:Bool}(h:bB a0=some r):EvP prog aV ext 84 [rM ag.pd a0,.d (.raw (.func (.func 85) #[] #[]))] [] (rB r,[]):=by
 refine Ev.body Z Tryz.func84 Z Zk<|gU Z<|sU<|sN<|gU Z<|mM Z<|bE h fun x1 h1 h=>cD (jO h1)<|sV (rB (decide (x1>=(0:Int))))<|sA Z<|sN<|qR ?_
 exact oI h▸qD
theorem kb{a0:Int}{r:Bool}(h:eJ a0=some r):EvP prog aV ext 152 [rI a0] [] (rB r,[]):=by
 refine Ev.body Z Tryz.func152 Z Zk<|gU Z<|sU<|sN<|gU Z<|sM Z<|sF h ?_ ?_<;>intro h
 ·refine sM Z<|sK<|sK<|sT<|sA Z<|sN<|qR ?_
  exact oI h▸qD
 refine mM Z<|sV (rB (decide (a0>(1152921504606846976:Int))))<|sV (rB (decide (a0>(1152921504606846976:Int))))<|sA Z<|sN<|qR ?_
 exact oI h▸qD
theorem jY{a0:(List Int)}{r:Int}(h:ci a0=some r):EvP prog aV ext 206 [rL a0,.d (.raw (.func (.func 152) #[] #[]))] [] (rI r,[]):=by
 refine Ev.body Z Tryz.func206 Z Zk<|gU Z<|sV (r0)<|sN<|qS<|gU Z<|sM Z<|sE (rI (a0.length:Int)) (oM _ _)<|sV (r0)<|sN<|bE h fun o8 ho8 h=>WC.block (WC.loop (WL.pJ ho8 (fun s=>gI 0 206 2 [(0,rL a0),(1,.d (.raw (.func (.func 152) #[] #[]))),(7,rI (a0.length:Int)),(8,rI s)] []) (fun o=>match o with| .inl y=>gX 0 0 206 7 [] []| .inr r=>gF 206 Tryz.f206 0 (rI r,[])) Z ?_ ?_))
 ·rintro s1 R' B' q2 hI h
  refine gS Z hI<|sF h ?_ ?_<;>intro h
  ·refine sN<|qS<|cT<|qK<|qS<|qB<|gU Z<|sM Z<|sA Z<|sN<|gU Z<|mM Z<|sM Z<|bE h fun x4 h4 h=>?_
   refine eG h4 Z<|sC Z<|bE h fun x5 h5 h=>pP h (fun hb6 h=>?_) (fun hb6 h=>?_)
   ·refine WO.pV (v:=rB true) (u:=[]) Z Z (fun _=>Z) Z Z Z Z Z (kb h5) Z Z (congrArg (fun b=>RV.d (.bool b)) hb6) Z<|sN<|cT<|gU Z<|sM Z<|sA Z<|sN<|qR ?_
    cases oI h
    exact⟨nofun,rfl,rfl⟩
   refine WO.pV (v:=rB false) (u:=[]) Z Z (fun _=>Z) Z Z Z Z Z (kb h5) Z Z (congrArg (fun b=>RV.d (.bool b)) hb6) Z<|sN<|cF<|qK<|WC.region Z Z<|sV (rI (rW (s1+(1:Int))))<|sM Z<|sN ?_
   cases oI h
   exact⟨rfl,rfl⟩
  refine sN<|qS<|cF<|qX ?_
  cases oI h
  exact⟨nofun,rfl,rfl⟩
 intro e R' B' he hq
 rcases o8 with y9|r10
 ·obtain⟨rfl,hI⟩:=hq
  refine qE<|gS Z hI<|sV (rI (-1))<|sN<|qR ?_
  exact oI h▸qD
 obtain⟨rfl,hf⟩:=hq
 cases oI h
 exact hf
theorem iZ{a0:(List Int)}{r:Bool}(h:bT a0=some r):EvP prog aV ext 151 [rL a0,.d (.raw (.func (.func 152) #[] #[]))] [] (rB r,[]):=by
 refine Ev.body Z Tryz.func151 Z Zk<|gU Z<|sU<|sN<|gU Z<|mM Z<|bE h fun x1 h1 h=>cD (jY h1)<|sV (rB (decide (x1>=(0:Int))))<|sA Z<|sN<|qR ?_
 exact oI h▸qD
theorem eI{a0:(List Int)}{r:Bool}(h:ec a0=some r):EvP prog aV ext 86 [rL a0] [] (rB r,[]):=by
 refine Ev.body Z Tryz.func86 Z Zk<|gU Z<|sU<|sN<|gU Z<|sM Z<|bE h fun x1 h1 h=>cD (iZ h1)<|sV (rB (!x1))<|sA Z<|sN<|qR ?_
 exact oI h▸qD
theorem fp{a0:ai}{r:(List Int)}(h:dA a0=some r):EvP prog aV ext 106 [.d (ai.pd a0)] [] (rL r,[]):=by
 refine Ev.body Z Tryz.func106 Z Zk<|gU Z<|sB (.ptr 16 0) 16 (.var (ai.rc a0))<|sV .mo<|sN<|gU Z<|sV (.ptr 16 0)<|sL Z<|sV (.ptr 16 1)<|sL Z<|sV (.ptr 16 2)<|sL Z<|sV (.d (.lst ([a0.fX,a0.fY,a0.fZ].map (PD.int .i64))))<|sA Z<|sN ?_
 refine qR ?_
 exact oI h▸qD
theorem pa{a0:Int}{r:(List Int)}(h:d9 a0=some r):EvP prog aV ext 177 [.mo,rI a0] [] (.ref 0 0,[.arr 0 3 (r.map (PD.int .i64))]):=by
 refine Ev.body Z Tryz.func177 Z Zk<|gU Z<|sV .mo<|sN<|qS<|gU Z<|sM Z<|sF h ?_ ?_<;>intro h
 ·refine sN<|cT<|WC.region Z Z ?_
  cases h
 refine sN<|cF<|qK<|WC.join (α:=(List Int)) (fun x R' B'=>p6 prog 0 (A R' B') (aV.at_ 177 0 6)=some (A [(0,.ref 90097 0)] [(90097,.arr 0 3 (x.map (PD.int .i64)))])) (fun x=>cY x=some r) ?_ ?_
 ·refine gU Z<|mM Z<|sV (r0)<|sM Z<|sV (r0)<|sV (r0)<|sV (rI (rW (a0-(0:Int))))<|sA Z<|sN<|gU Z<|sM Z<|sF h ?_ ?_<;>intro h
  ·refine sN<|cT<|WC.region Z Z<|mM Z<|sV (r0)<|sV .mo<|sM Z<|bE h fun x5 h5 h=>WO.appZ (g:=(PD.int .i64)) h5 Z Z Z Z Z Z Z Z Z Z Z Z Z Z Z Z<|sM Z<|sV (r0)<|bE h fun x6 h6 h=>WO.resl h6 Z Z Z Z Z Z Z Z Z Z Z Z<|sA Z ?_
   exact sN<|⟨(x5.take (0:Int).toNat),rfl,h⟩
  exact sN<|cF<|qK<|⟨([]:List Int),rfl,h⟩
 rintro j2 R' B' hI h
 refine gS Z hI<|sM Z<|sA Z<|sN<|qR ?_
 exact oI h▸qD
theorem jM{a0:(List (List Int))}{r:(List Int)}(h:cA a0=some r):EvP prog aV ext 105 [.d (.lst (a0.map (fun l=>PD.lst (l.map (PD.int .i64)))))] [] (rL r,[]):=by
 refine Ev.body Z Tryz.func105 Z Zk<|gU Z<|sV .mo<|sN<|gU Z<|sV (r0)<|sN<|qS<|gU Z<|sM Z<|sE (rI (a0.length:Int)) (oM _ _)<|sV (r0)<|sN<|bE h fun o9 ho9 h=>WC.block (WC.loop (WL.pJ ho9 (fun s=>gI 0 105 3 [(0,.d (.lst (a0.map (fun l=>PD.lst (l.map (PD.int .i64)))))),(3,rI s.1),(9,.d (.lst (a0.map (fun l=>PD.lst (l.map (PD.int .i64)))))),(10,rI (a0.length:Int)),(11,rI s.2)] []) (fun o=>gX 0 0 105 9 [(0,.d (.lst (a0.map (fun l=>PD.lst (l.map (PD.int .i64)))))),(3,rI o)] []) Z ?_ ?_))
 ·rintro⟨s1,s2⟩ R' B' q4 hI h
  refine gS Z hI<|sF h ?_ ?_<;>intro h
  ·refine sN<|qS<|cT<|qK<|qS<|qB<|gU Z<|bE h fun x6 h6 h=>eG h6 Z<|sC Z<|sA Z<|sN<|gU Z<|sM Z<|sM Z ?_
   refine sE (rI (x6.length:Int)) (oM _ _)<|sV (rI (rW (s1+(x6.length:Int))))<|sA Z<|sN<|gU Z<|sM Z<|sF h ?_ ?_<;>intro h
   ·refine sN<|cT<|WC.region Z Z ?_
    cases h
   refine sN<|cF<|qK<|WC.region Z Z<|sV (rI (rW (s2+(1:Int))))<|sM Z<|sN ?_
   cases oI h
   exact⟨rfl,rfl⟩
  refine sN<|qS<|cF<|qX ?_
  cases oI h
  exact⟨nofun,rfl,rfl⟩
 intro e R' B' he hq
 obtain⟨rfl,hI⟩:=hq
 refine qE<|gS Z hI<|sM Z<|bE h fun x10 h10 h=>cR (.ref 384 0) [(384,.arr 0 3 (x10.map (PD.int .i64)))] (pa h10)<|sA Z<|sN<|qS<|gU Z<|sM Z<|sE (rI (a0.length:Int)) (oM _ _)<|sV (r0)<|sN<|bE h fun o19 ho19 h=>WC.block (WC.loop (WL.pJ ho19 (fun s=>gI 0 105 11 [(6,.ref 384 0),(25,.d (.lst (a0.map (fun l=>PD.lst (l.map (PD.int .i64)))))),(26,rI (a0.length:Int)),(27,rI s.1)] [(384,.arr 0 3 (s.2.map (PD.int .i64)))]) (fun o=>gX 2 0 105 15 [(6,.ref 384 0)] [(384,.arr 0 3 (o.map (PD.int .i64)))]) Z ?_ ?_))
 ·rintro⟨s11,s12⟩ R' B' q14 hI h
  refine gS Z hI<|sF h ?_ ?_<;>intro h
  ·refine sN<|qS<|cT<|qK<|qS<|qB<|gU Z<|bE h fun x16 h16 h=>eG h16 Z<|sC Z<|sA Z<|sN<|WC.region Z Z<|sM Z<|sM Z ?_
   refine bE h fun x17 h17 h=>aR h17 (fun _=>Z) Z<|sA Z<|sN<|WC.region Z Z<|sV (rI (rW (s11+(1:Int))))<|sM Z<|sN ?_
   cases oI h
   exact⟨rfl,rfl⟩
  refine sN<|qS<|cF<|qX ?_
  cases oI h
  exact⟨nofun,rfl,rfl⟩
 intro e R' B' he hq
 obtain⟨rfl,hI⟩:=hq
 refine qE<|gS Z hI<|sM Z<|sA Z<|sN<|qR ?_
 exact oI h▸qD
theorem m0{a0:az}{r:(List Int)}(h:eW a0=some r):EvP prog aV ext 53 [.d (az.pd a0)] [] (rL r,[]):=by
 refine Ev.body Z Tryz.func53 Z Zk<|gU Z<|sB (.ptr 16 0) 16 (.var (az.rc a0))<|sV .mo<|sN<|gU Z<|sV (.ptr 16 1)<|sV (.d (aD.pd a0.ac))<|sB (.ptr 48 0) 48 (.var [r0,r0,r0,r0,r0,r0,r0,r0,r0,r0,r0,r0])<|sH 48 (.var (aD.rc a0.ac))<|sN<|WC.lU Z Z<|sV (.ptr 48 0)<|sV (.d (ai.pd a0.ac.aO))<|bE h fun x1 h1 h=>?_
 refine cD (fp h1)<|sV (.ptr 48 3)<|sL Z<|sV (.ptr 48 4)<|sL Z<|sV (.ptr 48 5)<|sL Z<|sV (.d (.lst ([a0.ac.aP,a0.ac.bc,a0.ac.bu].map (PD.int .i64))))<|sV (.ptr 48 6)<|sV (.ptr 48 6)<|sV (.d (ai.pd a0.ac.aF.aW))<|bE h fun x2 h2 h=>cD (fp h2)<|sV (.ptr 48 6)<|sV (.ptr 48 9) ?_
 refine sV (.d (ai.pd a0.ac.aF.aN))<|bE h fun x3 h3 h=>cD (fp h3)<|sV (.ptr 16 13)<|sV (.ptr 16 13)<|sL Z<|sV (.ptr 16 13)<|sV (.ptr 16 14)<|sL Z<|sV (.ptr 16 15)<|sL Z<|sV (.d (.lst ([a0.aA.aW,a0.aA.aN,a0.bn].map (PD.int .i64))))<|sV (.d (.lst ([x1,[a0.ac.aP,a0.ac.bc,a0.ac.bu],x2,x3,[a0.aA.aW,a0.aA.aN,a0.bn]].map (fun l=>PD.lst (l.map (PD.int .i64))))))<|bE h fun x4 h4 h=>cD (jM h4) ?_
 refine sA Z ?_
 refine sN<|sO<|qR ?_
 cases oI h
 exact qG
theorem oz{a0:aj}{r:Bool}(h:eu a0=some r):EvP prog aV ext 35 [.d (aj.pd a0)] [] (rB r,[]):=by
 refine Ev.body Z Tryz.func35 Z Zk<|gU Z<|sB (.ptr 16 0) 16 (.var (aj.rc a0))<|sU<|sN<|gU Z<|sV (.ptr 16 5)<|sV (.ptr 16 14)<|sV (.d (az.pd a0.ah.aa))<|sB (.ptr 48 0) 48 (.var [.mo,r0,r0,r0,r0,r0,r0,r0,r0,r0,r0,r0,r0,r0,r0,r0])<|sH 48 (.var (az.rc a0.ah.aa))<|sN<|qS<|qB<|gU Z ?_
 refine sV (.ptr 16 0)<|sL Z<|sF h ?_ ?_<;>intro h
 ·refine sM Z<|k3<|sT<|sM Z<|k3<|sT<|sM Z<|k3<|sT ?_
  refine sA Z<|sN<|cT<|gU Z<|sU<|sN<|qR ?_
  cases oI h
  exact qG
 refine sM Z<|sV (.ptr 16 0)<|sL Z<|sV (rB (decide (a0.bv>=(1000:Int))))<|sF h ?_ ?_<;>intro h
 ·refine sM Z<|k3<|sT<|sM Z<|k3<|sT<|sA Z<|sN<|cT<|gU Z<|sU ?_
  refine sN<|qR ?_
  cases oI h
  exact qG
 refine sM Z<|sV (.ptr 16 1)<|sL Z<|sV (rB (decide (a0.bX<(1:Int))))<|sF h ?_ ?_<;>intro h
 ·refine sM Z<|k3<|sT<|sA Z<|sN<|cT<|gU Z<|sU<|sN<|qR ?_
  cases oI h
  exact qG
 refine sM Z<|sV (.ptr 16 1)<|sL Z<|sV (rB (decide (a0.bX>(3:Int))))<|sF h ?_ ?_<;>intro h
 ·refine sA Z<|sN<|cT<|gU Z<|sU<|sN<|qR ?_
  cases oI h
  exact qG
 refine sA Z<|sN<|cF<|gU Z<|sV (.ptr 16 2)<|sL Z<|sF h ?_ ?_<;>intro h
 ·refine sM Z<|k3<|sK<|sK<|sT<|sM Z<|k3<|k3<|sK ?_
  refine sK<|sK<|sT<|sA Z<|sN<|cT<|gU Z<|sU<|sN<|qR ?_
  cases oI h
  exact qG
 refine sM Z<|sV (.ptr 16 2)<|sL Z<|sV (.ptr 16 0)<|sL Z<|sV (rB (decide (a0.fID>a0.bv)))<|sF h ?_ ?_<;>intro h
 ·refine sM Z<|k3<|k3<|k3<|sT<|sA Z<|sN<|cT<|gU Z ?_
  refine sU<|sN<|qR ?_
  cases oI h
  exact qG
 refine sM Z<|sV (.ptr 16 2)<|sL Z<|sV (.ptr 16 0)<|sL Z<|sV (rB (a0.fID==a0.bv))<|sV (.ptr 16 1)<|sL Z<|sV (rB (a0.bX==(1:Int)))<|sV (rB (!((a0.fID==a0.bv)==(a0.bX==(1:Int)))))<|sF h ?_ ?_<;>intro h
 ·refine sA Z<|sN<|cT<|gU Z<|sU<|sN<|qR ?_
  cases oI h
  exact qG
 refine sA Z<|sN<|cF<|gU Z<|sV (.ptr 16 4)<|sL Z<|sF h ?_ ?_<;>intro h
 ·refine sM Z<|k3<|sT<|sM Z<|k3<|sK<|sT<|sA Z<|sN<|cT<|gU Z ?_
  refine sU<|sN<|qR ?_
  cases oI h
  exact qG
 refine sM Z<|sV (.ptr 16 4)<|sL Z<|sV (rB (decide (a0.bw>(8:Int))))<|sF h ?_ ?_<;>intro h
 ·refine sM Z<|k3<|sK<|sT<|sA Z<|sN<|cT<|gU Z<|sU<|sN<|qR ?_
  cases oI h
  exact qG
 refine sM Z<|sV (.ptr 48 0)<|sL Z<|sE (rI (a0.ah.aa.aX.length:Int)) (oM _ _)<|sV (rB (decide ((a0.ah.aa.aX.length:Int)>(64:Int))))<|sF h ?_ ?_<;>intro h
 ·refine sA Z<|sN<|cT<|gU Z<|sU<|sN<|qR ?_
  cases oI h
  exact qG
 refine sA Z<|sN<|cF<|gU Z<|sV (.ptr 16 5)<|sV (.ptr 16 5)<|sV (.d (ag.pd a0.ah.ap))<|bE h fun x11 h11 h=>cD (gq h11)<|sF h ?_ ?_<;>intro h
 ·refine sM Z<|k3<|sT<|sA Z<|sN<|cT<|gU Z<|sU<|sN<|qR ?_
  cases oI h
  exact qG
 refine sM Z<|sV (.ptr 48 0)<|sL Z<|bE h fun x13 h13 h=>cD (iM h13)<|sF h ?_ ?_<;>intro h
 ·refine sA Z<|sN<|cT<|gU Z<|sU<|sN<|qR ?_
  cases oI h
  exact qG
 refine sA Z<|sN<|cF<|qK<|gU Z<|sV (.ptr 16 3)<|sL Z<|sV (.d (.lst ([a0.fAt].map (PD.int .i64))))<|bE h fun x15 h15 h=>pP h (fun hb16 h=>?_) (fun hb16 h=>?_)
 ·refine WO.pV (v:=rB true) (u:=[]) Z Z (fun _=>Z) Z Z Z Z Z (eI h15) Z Z (congrArg (fun b=>RV.d (.bool b)) hb16) Z<|sM Z<|sV (.d (az.pd a0.ah.aa))<|bE h fun x17 h17 h=>cD (m0 h17)<|bE h fun x18 h18 h=>cD (eI h18)<|sV (rB x18)<|sA Z<|sN<|qR ?_
  cases oI h
  exact qG
 refine WO.pV (v:=rB false) (u:=[]) Z Z (fun _=>Z) Z Z Z Z Z (eI h15) Z Z (congrArg (fun b=>RV.d (.bool b)) hb16) Z<|sM Z<|k3<|sU<|sA Z<|sN<|qR ?_
 cases oI h
 exact qG
theorem lr{a0:(List Int)}{r:(List (List UInt8))}(h:dE a0=some r):EvP prog aV ext 51 [.ptr 0 0,rL a0] [.var [.mo]] (.tup [],[.var [.ref 1 0],.arr 0 9 (r.map PD.str)]):=by
 refine Ev.body Z Tryz.func51 Z Zk<|gU Z<|sM Z<|sE (rI (a0.length:Int)) (oM _ _)<|sV (r0)<|sN<|bE h fun o10 ho10 h=>?_
 cases oI h
 refine WC.block (WC.loop (WL.xa ho10 (fun s=>gI 1 51 1 [(0,.ptr 0 0),(6,rL a0),(7,rI (a0.length:Int)),(8,rI s.1)] [(0,.var [.ref 320 0]),(320,.arr 0 9 (s.2.map PD.str))]) Z ?_))
 rintro⟨s1,s2⟩ R' B' q3 hI h
 refine gS Z hI<|sF h ?_ ?_<;>intro h
 ·refine sN<|qS<|cT<|qK<|qS<|qB<|gU Z<|bE h fun x5 h5 h=>eG h5 Z<|sC Z<|sA Z<|sN<|WC.rC Z Z<|sM Z<|sM Z ?_
  refine sV (.ptr 0 0)<|sV (.ptr 0 0)<|sL Z<|sM Z<|bE h fun x6 h6 h=>cD ((zx Z) h6)<|sV (.d (.lst ([x6].map PD.str)))<|bE h fun x7 h7 h=>aR h7 (fun _=>Z) Z<|sV (.ptr 0 0)<|sV (.ptr 0 0)<|sS 0 (.var [.ref 320 1]) ?_
  refine sN<|sO<|WC.region Z Z<|sV (rI (rW (s1+(1:Int))))<|sM Z<|sN ?_
  cases oI h
  exact⟨rfl,rfl⟩
 refine sN<|qS<|cF<|qX<|vq h (fun z8 hkz8 hz=>?_)
 obtain rfl:=Option.some.inj hz
 refine⟨(fun he=>by cases he),fun hz2=>?_⟩
 subst hz2
 have h:=hkz8
 refine qE ?_
 exact oI h▸qD
theorem source_parts_ev{a0:au}{r:ca}(h:kw a0=some r):EvP prog aV ext 176 [.d (au.pd a0)] [] (.d (ca.pd r),[]):=by
 refine Ev.body Z Tryz.func176 Z Zk<|gU Z<|sB (.ptr 16 0) 16 (.var (au.rc a0))<|sB (.ptr 32 0) 32 (.var [rS [],rS [],rS [],rS []])<|sN<|gU Z<|sV (.ptr 16 0)<|sL Z<|sV (.ptr 16 1)<|sL Z<|sV (.ptr 16 2)<|sL Z<|sV (.ptr 16 3)<|sL Z<|sV (.d (ca.pd (ca.mk a0.aT a0.aU a0.ac a0.aS))) ?_
 refine sS 32 (.var (au.rc a0))<|sN<|qR ?_
 exact oI h▸qD
theorem source_Format_ev{a0:au}{r:(List UInt8)×Int}(h:gE a0=some r):EvP prog aV ext 104 [.d (au.pd a0)] [] (.tup [rS r.1,rI r.2],[]):=by
 refine Ev.body Z Tryz.func104 Z Zk<|gU Z<|sB (.ptr 16 0) 16 (.var (au.rc a0))<|sV (rS [])<|sV (r0)<|sN<|qS<|gU Z<|sV (.d (au.pd a0))<|bE h fun x1 h1 h=>cD (gN h1)<|sF h ?_ ?_<;>intro h
 ·refine sN<|cT<|gU Z<|sV (rS [])<|sV (rI 1)<|sN<|qR ?_
  exact oI h▸qD
 refine sN<|cF<|qK<|gU Z<|sV (.d (au.pd a0))<|bE h fun x3 h3 h=>cD (source_parts_ev h3)<|sB (.ptr 64 0) 64 (.var [rS [],rS [],rS [],rS []])<|sS 64 (.var [rS x3.a0,rS x3.a1,rS x3.a2,rS x3.a3])<|sN<|gU Z<|sB (.d (.lst ([x3.a0,x3.a1,x3.a2,x3.a3].map PD.str))) 64 .dead<|bE h fun x4 h4 h=>cD ((zy Z) h4)<|sA Z ?_
 refine sV (r0)<|sN<|qR ?_
 exact oI h▸qD
theorem dF{a0:(List Int)}{d1:(List (List UInt8))}{r:(List (List UInt8))}(h:bV a0 d1=some r):EvP prog aV ext 51 [.ptr 0 0,rL a0] [.var [.ref 1 0],.arr 0 9 (d1.map PD.str)] (.tup [],[.var [.ref 1 1],.arr 1 9 (r.map PD.str)]):=by
 refine Ev.body Z Tryz.func51 Z Zk<|gU Z<|sM Z<|sE (rI (a0.length:Int)) (oM _ _)<|sV (r0)<|sN<|bE h fun o11 ho11 h=>?_
 cases oI h
 refine WC.block (WC.loop (WL.xa ho11 (fun s=>gI 2 51 1 [(0,.ptr 0 0),(6,rL a0),(7,rI (a0.length:Int)),(8,rI s.1)] [(0,.var [.ref 1 1]),(1,.arr 1 9 (s.2.map PD.str))]) Z ?_))
 rintro⟨s2,s3⟩ R' B' q4 hI h
 refine gS Z hI<|sF h ?_ ?_<;>intro h
 ·refine sN<|qS<|cT<|qK<|qS<|qB<|gU Z<|bE h fun x6 h6 h=>eG h6 Z<|sC Z<|sA Z<|sN<|WC.rC Z Z<|sM Z<|sM Z ?_
  refine sV (.ptr 0 0)<|sV (.ptr 0 0)<|sL Z<|sM Z<|bE h fun x7 h7 h=>cD ((zx Z) h7)<|sV (.d (.lst ([x7].map PD.str)))<|bE h fun x8 h8 h=>aR h8 (fun _=>Z) Z<|sV (.ptr 0 0)<|sV (.ptr 0 0)<|sS 0 (.var [.ref 1 2]) ?_
  refine sN<|sO<|WC.region Z Z<|sV (rI (rW (s2+(1:Int))))<|sM Z<|sN ?_
  cases oI h
  exact⟨rfl,rfl⟩
 refine sN<|qS<|cF<|qX<|vq h (fun z9 hkz9 hz=>?_)
 obtain rfl:=Option.some.inj hz
 refine⟨(fun he=>by cases he),fun hz2=>?_⟩
 subst hz2
 have h:=hkz9
 refine qE ?_
 exact oI h▸qD
theorem iX{a0:ag}{d1:(List (List UInt8))}{r:(List (List UInt8))}(h:em a0 d1=some r):EvP prog aV ext 52 [.ptr 0 0,.d (ag.pd a0)] [.var [.ref 1 0],.arr 0 9 (d1.map PD.str)] (.tup [],[.var [.ref 1 1],.arr 1 9 (r.map PD.str)]):=by
 refine Ev.body Z Tryz.func52 Z Zk<|gU Z<|sB (.ptr 48 0) 48 (.var (ag.rc a0))<|sN<|gU Z<|sV (.ptr 48 0)<|sV (.d (au.pd a0.ar))<|bE h fun x1 h1 h=>cR (.tup [rS x1.1,rI x1.2]) [] (source_Format_ev h1)<|sM Z<|sV (rS x1.1)<|sV (rI x1.2)<|sA Z<|sA Z<|sN ?_
 refine gU Z<|mM Z<|sV (.ptr 0 0)<|sV (.ptr 0 0)<|sL Z<|sM Z<|sV (.d (.lst ([x1.1].map PD.str)))<|bE h fun x2 h2 h=>aR h2 (fun _=>Z) Z<|sV (.ptr 0 0)<|sV (.ptr 0 0)<|sS 0 (.var [.ref 1 1])<|sN<|WC.region Z Z ?_
 refine sM Z<|sV (.ptr 48 4)<|sL Z<|sV (.ptr 48 5)<|sL Z<|sV (.ptr 48 6)<|sL Z<|sV (.ptr 48 7)<|sL Z<|sV (.ptr 48 8)<|sL Z<|sV (.d (.lst ([a0.aP,a0.aZ,a0.bg,a0.aI,a0.aL].map (PD.int .i64))))<|bE h fun x3 h3 h=>cR (.tup []) [(0,.var [.ref 1 2]),(1,.arr 2 9 (x3.map PD.str))] (dF h3)<|sN ?_
 cases oI h
 exact qG
theorem kK{a0:aj}{r:(List UInt8)×Int}(h:dx a0=some r):EvP prog aV ext 18 [.d (aj.pd a0)] [] (.tup [rS r.1,rI r.2],[]):=by
 refine Ev.body Z Tryz.func18 Z Zk<|gU Z<|sB (.ptr 16 0) 16 (.var (aj.rc a0))<|sV (rS [])<|sV (r0)<|sN<|qS<|gU Z<|sV (.d (aj.pd a0))<|bE h fun x1 h1 h=>cD (oz h1)<|sF h ?_ ?_<;>intro h
 ·refine sN<|cT<|gU Z<|sV (rS [])<|sV (rI 1)<|sN<|qR ?_
  cases oI h
  exact qG
 refine sN<|cF<|qK<|gU Z<|sB (.ptr 64 0) 64 (.var [.mo])<|sN<|gU Z<|sV (.ptr 16 0)<|sL Z<|sV (.ptr 16 1)<|sL Z<|sV (.ptr 16 2)<|sL Z<|sV (.ptr 16 3)<|sL Z ?_
 refine sV (.ptr 16 4)<|sL Z<|sV (.d (.lst ([a0.bv,a0.bX,a0.fID,a0.fAt,a0.bw].map (PD.int .i64))))<|bE h fun x3 h3 h=>cR (.tup []) [(64,.var [.ref 336 0]),(336,.arr 0 9 (x3.map PD.str))] (lr h3)<|sN<|gU Z<|sV (.ptr 16 5)<|sV (.ptr 16 5)<|sV (.d (ag.pd a0.ah.ap))<|bE h fun x4 h4 h=>cR (.tup []) [(64,.var [.ref 336 1]),(336,.arr 1 9 (x4.map PD.str))] (iX h4)<|sN<|gU Z<|sV (.ptr 16 5) ?_
 refine sV (.ptr 16 14)<|sV (.ptr 16 14)<|sL Z<|sE (rI (a0.ah.aa.aX.length:Int)) (oM _ _)<|sV (.d (.lst ([(a0.ah.aa.aX.length:Int)].map (PD.int .i64))))<|bE h fun x5 h5 h=>cR (.tup []) [(64,.var [.ref 336 2]),(336,.arr 2 9 (x5.map PD.str))] (dF h5)<|sN<|qS<|gU Z<|sV (.ptr 16 5)<|sV (.ptr 16 14)<|sV (.ptr 16 14)<|sL Z<|sE (rI (a0.ah.aa.aX.length:Int)) (oM _ _) ?_
 refine sV (r0)<|sN<|bE h fun o14 ho14 h=>WC.block (WC.loop (WL.pJ ho14 (fun s=>gI 0 18 8 [(1,.ptr 16 0),(4,.ptr 64 0),(36,rM ag.pd a0.ah.aa.aX),(37,rI (a0.ah.aa.aX.length:Int)),(38,rI s.1)] [(16,.var (aj.rc a0)),(64,.var [.ref 336 0]),(336,.arr 0 9 (s.2.map PD.str))]) (fun o=>gX 0 0 18 12 [(1,.ptr 16 0),(4,.ptr 64 0)] [(16,.var (aj.rc a0)),(64,.var [.ref 336 0]),(336,.arr 0 9 (o.map PD.str))]) Z ?_ ?_))
 ·rintro⟨s6,s7⟩ R' B' q9 hI h
  refine gS Z hI<|sF h ?_ ?_<;>intro h
  ·refine sN<|qS<|cT<|qK<|qS<|qB<|gU Z<|bE h fun x11 h11 h=>eG h11 Z<|sV (.d (ag.pd x11))<|sB (.ptr 96 0) 96 (.var [rS [],rS [],rS [],rS [],r0,r0,r0,r0,r0])<|sH 96 (.var (ag.rc x11))<|sN<|WC.region Z Z<|sV (.d (ag.pd x11)) ?_
   refine bE h fun x12 h12 h=>cR (.tup []) [(64,.var [.ref 336 1]),(336,.arr 1 9 (x12.map PD.str))] (iX h12)<|sN<|WC.region Z Z<|sV (rI (rW (s6+(1:Int))))<|sM Z<|sN ?_
   cases oI h
   exact⟨rfl,rfl⟩
  refine sN<|qS<|cF<|qX ?_
  cases oI h
  exact⟨nofun,rfl,rfl⟩
 intro e R' B' he hq
 obtain⟨rfl,hI⟩:=hq
 refine qE<|gS Z hI<|sV (.ptr 16 5)<|sV (.ptr 16 14)<|sV (.d (az.pd a0.ah.aa))<|bE h fun x15 h15 h=>cD (m0 h15)<|bE h fun x16 h16 h=>cR (.tup []) [(64,.var [.ref 336 1]),(336,.arr 1 9 (x16.map PD.str))] (dF h16)<|sN<|gU Z<|sV (.ptr 64 0)<|sL Z<|bE h fun x17 h17 h=>cR (rS x17) [] ((zy Z) h17) ?_
 refine sA Z<|sV (r0)<|sN<|qR ?_
 cases oI h
 exact qG
theorem iv{d0:aq}{r:am×aq}(h:fN d0=some r):EvP prog aV ext 20 [.ptr 0 0] [.var (aq.rc d0)] (.d (am.pd r.1),[.var (aq.rc r.2)]):=by
 refine Ev.body Z Tryz.func20 Z Zk<|gU Z<|sB (.ptr 32 0) 32 (.var [rB false,r0,r0])<|sN<|gU Z<|sM Z<|bE h fun x1 h1 h=>cR (rI x1.1) [(0,.var (aq.rc x1.2))] (cg h1)<|sV (rB (x1.1==(0:Int)))<|sM Z<|bE h fun x2 h2 h=>cR (rI x2.1) [(0,.var (aq.rc x2.2))] (cg h2)<|sM Z<|bE h fun x3 h3 h=>cR (rI x3.1) [(0,.var (aq.rc x3.2))] (cg h3) ?_
 refine sV (.d (am.pd (am.mk (x1.1==(0:Int)) x2.1 x3.1)))<|sS 32 (.var [rB (x1.1==(0:Int)),rI x2.1,rI x3.1])<|sN<|qR ?_
 exact oI h▸qD
theorem dC{a0:aG}{r:Int}(h:dy a0=some r):EvP prog aV ext 111 [.d (aG.pd a0)] [] (rI r,[]):=by
 refine Ev.body Z Tryz.func111 Z Zk<|gU Z<|sB (.ptr 16 0) 16 (.var (aG.rc a0))<|sV (r0)<|sN<|gU Z<|sV (.ptr 16 1)<|sL Z<|sV (.ptr 16 2)<|sL Z<|sE (rI (a0.ch.length:Int)) (oM _ _)<|sV (rI (rW (a0.bJ+(a0.ch.length:Int))))<|sA Z<|sN<|qR ?_
 exact oI h▸qD
theorem jJ{a0:(List UInt8)}{r:Bool}(h:iG a0=some r):EvP prog aV ext 181 [rS a0] [] (rB r,[]):=by
 refine Ev.body Z Tryz.func181 Z Zk<|gU Z<|sU<|sN<|gU Z<|sM Z<|sV (rI (a0.length:Int))<|sV (rB (decide ((a0.length:Int)>(4064:Int))))<|sA Z<|sN<|qR ?_
 exact oI h▸qD
theorem jb{a0:(List (List UInt8))}{r:Int}(h:dn a0=some r):EvP prog aV ext 227 [.d (.lst (a0.map PD.str)),.d (.raw (.func (.func 181) #[] #[]))] [] (rI r,[]):=by
 refine Ev.body Z Tryz.func227 Z Zk<|gU Z<|sV (r0)<|sN<|qS<|gU Z<|sM Z<|sE (rI (a0.length:Int)) (oM _ _)<|sV (r0)<|sN<|bE h fun o8 ho8 h=>WC.block (WC.loop (WL.pJ ho8 (fun s=>gI 0 227 2 [(0,.d (.lst (a0.map PD.str))),(1,.d (.raw (.func (.func 181) #[] #[]))),(7,rI (a0.length:Int)),(8,rI s)] []) (fun o=>match o with| .inl y=>gX 0 0 227 7 [] []| .inr r=>gF 227 Tryz.f227 0 (rI r,[])) Z ?_ ?_))
 ·rintro s1 R' B' q2 hI h
  refine gS Z hI<|sF h ?_ ?_<;>intro h
  ·refine sN<|qS<|cT<|qK<|qS<|qB<|gU Z<|sM Z<|sA Z<|sN<|gU Z<|mM Z<|sM Z<|bE h fun x4 h4 h=>?_
   refine eG h4 Z<|sC Z<|bE h fun x5 h5 h=>pP h (fun hb6 h=>?_) (fun hb6 h=>?_)
   ·refine WO.pV (v:=rB true) (u:=[]) Z Z (fun _=>Z) Z Z Z Z Z (jJ h5) Z Z (congrArg (fun b=>RV.d (.bool b)) hb6) Z<|sN<|cT<|gU Z<|sM Z<|sA Z<|sN<|qR ?_
    cases oI h
    exact⟨nofun,rfl,rfl⟩
   refine WO.pV (v:=rB false) (u:=[]) Z Z (fun _=>Z) Z Z Z Z Z (jJ h5) Z Z (congrArg (fun b=>RV.d (.bool b)) hb6) Z<|sN<|cF<|qK<|WC.region Z Z<|sV (rI (rW (s1+(1:Int))))<|sM Z<|sN ?_
   cases oI h
   exact⟨rfl,rfl⟩
  refine sN<|qS<|cF<|qX ?_
  cases oI h
  exact⟨nofun,rfl,rfl⟩
 intro e R' B' he hq
 rcases o8 with y9|r10
 ·obtain⟨rfl,hI⟩:=hq
  refine qE<|gS Z hI<|sV (rI (-1))<|sN<|qR ?_
  exact oI h▸qD
 obtain⟨rfl,hf⟩:=hq
 cases oI h
 exact hf
theorem hM{a0:(List (List UInt8))}{r:Bool}(h:b9 a0=some r):EvP prog aV ext 180 [.d (.lst (a0.map PD.str)),.d (.raw (.func (.func 181) #[] #[]))] [] (rB r,[]):=by
 refine Ev.body Z Tryz.func180 Z Zk<|gU Z<|sU<|sN<|gU Z<|mM Z<|bE h fun x1 h1 h=>cD (jb h1)<|sV (rB (decide (x1>=(0:Int))))<|sA Z<|sN<|qR ?_
 exact oI h▸qD
theorem fo{a0:aG}{r:Bool}(h:ei a0=some r):EvP prog aV ext 110 [.d (aG.pd a0)] [] (rB r,[]):=by
 refine Ev.body Z Tryz.func110 Z Zk<|gU Z<|sB (.ptr 16 0) 16 (.var (aG.rc a0))<|sU<|sN<|qS<|gU Z<|sV (.ptr 16 0)<|sL Z<|bE h fun x1 h1 h=>cD (iH h1)<|sF h ?_ ?_<;>intro h
 ·refine sM Z<|k3<|sK<|sT<|sM Z<|k3<|k3<|sT<|sM Z ?_
  refine k3<|sT<|sN<|cT<|gU Z<|sU<|sN<|qR ?_
  exact oI h▸qD
 refine sM Z<|sV (.ptr 16 1)<|sL Z<|bE h fun x3 h3 h=>cD (iH h3)<|sV (rB (!x3))<|sF h ?_ ?_<;>intro h
 ·refine sM Z<|k3<|k3<|sT<|sM Z<|k3<|sT<|sN<|cT ?_
  refine gU Z<|sU<|sN<|qR ?_
  exact oI h▸qD
 refine sM Z<|sV (.ptr 16 2)<|sL Z<|sE (rI (a0.ch.length:Int)) (oM _ _)<|sV (.ptr 16 0)<|sL Z<|sV (rB (decide ((a0.ch.length:Int)>a0.c8)))<|sF h ?_ ?_<;>intro h
 ·refine sM Z<|k3<|sT<|sN<|cT<|gU Z<|sU<|sN<|qR ?_
  exact oI h▸qD
 refine sM Z<|sV (.d (aG.pd a0))<|bE h fun x6 h6 h=>cD (dC h6)<|sV (rB (decide (x6>(1073741825:Int))))<|sF h ?_ ?_<;>intro h
 ·refine sN<|cT<|gU Z<|sU<|sN<|qR ?_
  exact oI h▸qD
 refine sN<|cF<|qK<|gU Z<|sV (.ptr 16 2)<|sL Z<|bE h fun x8 h8 h=>cD (hM h8)<|sV (rB (!x8))<|sA Z<|sN<|qR ?_
 exact oI h▸qD
theorem iV{a0:ae}{r:Bool}(h:ic a0=some r):EvP prog aV ext 230 [.d (ae.pd a0)] [] (rB r,[]):=by
 refine Ev.body Z Tryz.func230 Z Zk<|gU Z<|sB (.ptr 16 0) 16 (.var (ae.rc a0))<|sU<|sN<|gU Z<|sV (.ptr 16 0)<|sL Z<|sV (.ptr 16 1)<|sL Z<|sV (rB (decide (a0.bd<a0.fTo)))<|sA Z<|sN<|qR ?_
 exact oI h▸qD
theorem jE{a0:(List ae)}{r:Bool}(h:hU a0=some r):EvP prog aV ext 228 [rM ae.pd a0] [] (rB r,[]):=by
 refine Ev.body Z Tryz.func228 Z Zk<|gU Z<|sU<|sN<|qS<|gU Z<|sM Z<|sE (rI (a0.length:Int)) (oM _ _)<|sV (r0)<|sN<|bE h fun o11 ho11 h=>WC.block (WC.loop (WL.pJ ho11 (fun s=>gI 0 228 2 [(0,rM ae.pd a0),(5,rM ae.pd a0),(6,rI (a0.length:Int)),(7,rI s)] []) (fun o=>match o with| .inl y=>gX 0 0 228 7 [] []| .inr r=>gF 228 Tryz.f228 0 (rB r,[])) Z ?_ ?_))
 ·rintro s1 R' B' q2 hI h
  refine gS Z hI<|sF h ?_ ?_<;>intro h
  ·refine sN<|qS<|cT<|qK<|qS<|qB<|gU Z<|sM Z<|bE h fun x4 h4 h=>eG h4 Z<|sV (.d (ae.pd x4))<|sB (.ptr 64 0) 64 (.var [r0,r0])<|sA Z<|sS 64 (.var (ae.rc x4))<|sN ?_
   refine WC.lU Z Z<|sV (.d (ae.pd x4))<|bE h fun x5 h5 h=>cD (iV h5)<|sF h ?_ ?_<;>intro h
   ·refine sM Z<|k3<|k3<|k3<|k3<|sK<|sT ?_
    refine sN<|sO<|cT<|gU Z<|sU<|sN<|qR ?_
    cases oI h
    exact⟨nofun,rfl,rfl⟩
   refine mM Z<|sF h ?_ ?_<;>intro h
   ·refine sM Z<|sV (.ptr 64 0)<|sL Z<|mM Z<|sV (rI (rW (s1-(1:Int))))<|bE h fun x8 h8 h=>eG h8 Z<|sV (.cptr [.int .i64 x8.fTo])<|sC Z<|sV (rB (decide (x4.bd<=x8.fTo)))<|sV (rB (decide (x4.bd<=x8.fTo)))<|sF h ?_ ?_<;>intro h
    ·refine sN<|sO<|cT<|gU Z<|sU<|sN<|qR ?_
     cases oI h
     exact⟨nofun,rfl,rfl⟩
    refine sN<|sO<|cF<|qK<|WC.region Z Z<|sV (rI (rW (s1+(1:Int))))<|sM Z<|sN ?_
    cases oI h
    exact⟨rfl,rfl⟩
   refine sM Z<|k3<|k3<|k3<|sU<|sU ?_
   refine sN<|sO<|cF<|qK<|WC.region Z Z<|sV (rI (rW (s1+(1:Int))))<|sM Z<|sN ?_
   cases oI h
   exact⟨rfl,rfl⟩
  refine sN<|qS<|cF<|qX ?_
  cases oI h
  exact⟨nofun,rfl,rfl⟩
 intro e R' B' he hq
 rcases o11 with y12|r13
 ·obtain⟨rfl,hI⟩:=hq
  refine qE<|gS Z hI<|sT<|sN<|qR ?_
  exact oI h▸qD
 obtain⟨rfl,hf⟩:=hq
 cases oI h
 exact hf
theorem jT{a0:(List ae)}{r:Bool}(h:ge a0=some r):EvP prog aV ext 182 [rM ae.pd a0] [] (rB r,[]):=by
 refine Ev.body Z Tryz.func182 Z Zk<|gU Z<|sU<|sN<|gU Z<|sM Z<|bE h fun x1 h1 h=>pP h (fun hb2 h=>?_) (fun hb2 h=>?_)
 ·refine WO.pV (v:=rB true) (u:=[]) Z Z (fun _=>Z) Z Z Z Z Z (jE h1) Z Z (congrArg (fun b=>RV.d (.bool b)) hb2) Z<|mM Z<|sE (rI (a0.length:Int)) (oM _ _)<|sF h ?_ ?_<;>intro h
  ·refine sM Z<|k3<|k3<|k3<|k3<|sK<|sK ?_
   refine sK<|sT<|sT<|sA Z<|sN<|qR ?_
   exact oI h▸qD
  refine mM Z<|bE h fun x4 h4 h=>eG h4 Z<|sV (.cptr [.int .i64 x4.bd,.int .i64 x4.fTo])<|sC Z<|sF h ?_ ?_<;>intro h
  ·refine mM Z<|sM Z<|sE (rI (a0.length:Int)) (oM _ _)<|sV (rI (rW ((a0.length:Int)-(1:Int))))<|bE h fun x6 h6 h=>eG h6 Z<|sV (.cptr [.int .i64 x6.fTo])<|sC Z<|sV (rB (decide (x6.fTo<=(1073741825:Int))))<|sV (rB (decide (x6.fTo<=(1073741825:Int))))<|sV (rB (decide (x6.fTo<=(1073741825:Int))))<|sV (rB (decide (x6.fTo<=(1073741825:Int))))<|sA Z<|sN ?_
   refine qR ?_
   exact oI h▸qD
  refine sM Z<|k3<|k3<|sK<|sK<|sU<|sU<|sU<|sA Z<|sN<|qR ?_
  exact oI h▸qD
 refine WO.pV (v:=rB false) (u:=[]) Z Z (fun _=>Z) Z Z Z Z Z (jE h1) Z Z (congrArg (fun b=>RV.d (.bool b)) hb2) Z<|sM Z<|k3<|k3<|k3<|k3<|sK ?_
 refine k3<|k3<|sK<|sU<|sA Z<|sN<|qR ?_
 exact oI h▸qD
theorem gt{a0:ae}{r:Bool}(h:gi a0=some r):EvP prog aV ext 259 [.d (ae.pd a0)] [] (rB r,[]):=by
 refine Ev.body Z Tryz.func259 Z Zk<|gU Z<|sB (.ptr 16 0) 16 (.var (ae.rc a0))<|sU<|sN<|gU Z<|sV (.d (ae.pd a0))<|bE h fun x1 h1 h=>cD (iV h1)<|sV (rB (!x1))<|sA Z<|sN<|qR ?_
 exact oI h▸qD
theorem jQ{d0:(List ae)}{r:Int×(List ae)}(h:dD d0=some r):EvP prog aV ext 238 [.ref 0 0,.d (.raw (.func (.func 259) #[] #[]))] [.arr 0 207 (d0.map ae.pd)] (rI r.1,[.arr 0 207 (r.2.map ae.pd)]):=by
 refine Ev.body Z Tryz.func238 Z Zk<|gU Z<|sV (r0)<|sN<|qS<|gU Z<|sM Z<|WO.tD Z Z Z Z Z Z Z Z Z<|sV (r0)<|sN<|bE h fun o10 ho10 h=>WC.block (WC.loop (WL.pJ ho10 (fun s=>gI 1 238 2 [(0,.ref 0 0),(1,.d (.raw (.func (.func 259) #[] #[]))),(7,rI (d0.length:Int)),(8,rI s)] [(0,.arr 0 207 (d0.map ae.pd))]) (fun o=>match o with| .inl y=>gX 0 1 238 7 [] [(0,.arr 0 207 (d0.map ae.pd))]| .inr r=>gF 238 Tryz.f238 1 (rI r.1,[.arr 0 207 (r.2.map ae.pd)])) Z ?_ ?_))
 ·rintro s1 R' B' q2 hI h
  refine gS Z hI<|sF h ?_ ?_<;>intro h
  ·refine sN<|qS<|cT<|qK<|qS<|qB<|gU Z<|sM Z<|sA Z<|sN<|gU Z<|mM Z<|sM Z<|bE h fun x5 h5 h=>?_
   refine WO.tz h5 Z Z Z Z Z Z Z Z<|bE h fun x6 h6 h=>WO.sn h6 Z Z Z Z Z Z<|bE h fun x7 h7 h=>pP h (fun hb8 h=>?_) (fun hb8 h=>?_)
   ·refine WO.pV (v:=rB true) (u:=[]) Z Z (fun _=>Z) Z Z Z Z Z (gt h7) Z Z (congrArg (fun b=>RV.d (.bool b)) hb8) Z<|sN<|cT<|gU Z<|sM Z<|sA Z<|sN<|qR ?_
    cases oI h
    exact⟨nofun,rfl,rfl⟩
   refine WO.pV (v:=rB false) (u:=[]) Z Z (fun _=>Z) Z Z Z Z Z (gt h7) Z Z (congrArg (fun b=>RV.d (.bool b)) hb8) Z<|sN<|cF<|qK<|WC.region Z Z<|sV (rI (rW (s1+(1:Int))))<|sM Z<|sN ?_
   cases oI h
   exact⟨rfl,rfl⟩
  refine sN<|qS<|cF<|qX ?_
  cases oI h
  exact⟨nofun,rfl,rfl⟩
 intro e R' B' he hq
 rcases o10 with y11|r12
 ·obtain⟨rfl,hI⟩:=hq
  refine qE<|gS Z hI<|sV (rI (-1))<|sN<|qR ?_
  exact oI h▸qD
 obtain⟨rfl,hf⟩:=hq
 cases oI h
 exact hf
theorem jo{d0:(List ae)}{r:(List ae)}(h:b7 d0=some r):EvP prog aV ext 258 [.ref 0 0,.d (.raw (.func (.func 259) #[] #[]))] [.arr 0 207 (d0.map ae.pd)] (.ref 0 1,[.arr 1 207 (r.map ae.pd)]):=by
 refine Ev.body Z Tryz.func258 Z Zk<|gU Z<|sV .mo<|sN<|gU Z<|mM Z<|bE h fun x1 h1 h=>cR (rI x1.1) [(0,.arr 0 207 (x1.2.map ae.pd))] (jQ h1)<|sA Z<|sN<|qS<|gU Z<|sM Z<|sF h ?_ ?_<;>intro h
 ·refine sN<|cT<|WC.qv (R0:=[(0,.ref 0 1)]) (B0:=[(0,.arr 1 207 (x1.2.map ae.pd))]) Z Z<|sM Z<|sA Z<|sN<|qR ?_
  exact oI h▸qD
 refine sN<|cF<|qK<|qS<|gU Z<|sM Z<|sV (rI (rW (x1.1+(1:Int))))<|sA Z<|sN<|bE h fun o19 ho19 h=>WC.block (WC.loop (WL.pJ ho19 (fun s=>gI 1 258 5 [(0,.ref 0 0),(1,.d (.raw (.func (.func 259) #[] #[]))),(5,rI s.1),(6,rI s.2.1)] [(0,.arr 0 207 (s.2.2.map ae.pd))]) (fun o=>gX 0 1 258 11 [(0,.ref 0 0),(5,rI o.1)] [(0,.arr 0 207 (o.2.map ae.pd))]) Z ?_ ?_))
 ·rintro⟨s3,s4,s5⟩ R' B' q8 hI h
  refine qS<|gS Z hI<|mM Z<|WO.tD Z Z Z Z Z Z Z Z Z<|sF h ?_ ?_<;>intro h
  ·refine sN<|cT<|qK<|qS<|qB<|gU Z<|mM Z<|bE h fun x11 h11 h=>WO.tz h11 Z Z Z Z Z Z Z Z<|bE h fun x12 h12 h=>WO.sn h12 Z Z Z Z Z Z<|sB (.ptr 112 0) 112 (.var [r0,r0])<|sS 112 (.var (ae.rc x12))<|sN ?_
   refine gU Z<|sM Z<|sV (.d (ae.pd x12))<|bE h fun x13 h13 h=>cD (gt h13)<|sF h ?_ ?_<;>intro h
   ·refine sN<|cT<|gU Z<|mM Z<|sV (.d (ae.pd x12))<|bE h fun x16 h16 h=>WO.tz h16 Z Z Z Z Z Z Z Z<|bE h fun x17 h17 h=>WO.Bd (g:=ae.pd) (sz:=2) (p:=ae.pd x12) h17 (fun _=>Z) (fun _=>Z) Z Z Z Z Z Z Z Z Z<|sN<|WC.region Z Z<|sM Z<|sV (rI (rW (s3+(1:Int))))<|sA Z ?_
    refine sN<|WC.region Z Z<|sM Z<|sV (rI (rW (s4+(1:Int))))<|sA Z<|sN ?_
    cases oI h
    exact⟨rfl,rfl⟩
   refine sN<|cF<|qK<|WC.region Z Z<|sM Z<|sV (rI (rW (s4+(1:Int))))<|sA Z<|sN ?_
   cases oI h
   exact⟨rfl,rfl⟩
  refine sN<|cF<|qX ?_
  cases oI h
  exact⟨nofun,rfl,rfl⟩
 intro e R' B' he hq
 obtain⟨rfl,hI⟩:=hq
 refine qE<|gS Z hI<|mM Z<|bE h fun x20 h20 h=>WO.subR h20 Z Z Z Z Z Z Z Z Z Z Z Z<|bE h fun x21 h21 h=>WO.clearN (z:=(ae.mk 0 0)) (g:=ae.pd) Z Z Z Z Z Z Z (Ab h21 Z) Z Z Z Z<|sN<|gU Z<|mM Z<|bE h fun x23 h23 h=>WO.resl h23 Z Z Z Z Z Z Z Z Z Z Z Z<|sA Z ?_
 refine sN<|qR ?_
 exact oI h▸qD
theorem eQ{a0:(List ae)}{r:(List ae)}(h:cj a0=some r):EvP prog aV ext 229 [rM ae.pd a0] [] (rM ae.pd r,[]):=by
 refine Ev.body Z Tryz.func229 Z Zk<|gU Z<|sV .mo<|sN<|gU Z<|sM Z<|bE h fun x1 h1 h=>cR (.ref 144 0) [(144,.arr 0 207 (x1.map ae.pd))] (oa h1)<|bE h fun x2 h2 h=>cR (.ref 144 1) [(144,.arr 1 207 (x2.map ae.pd))] (jo h2)<|sA Z<|sN<|gU Z<|sM Z<|bE h fun x3 h3 h=>?_
 refine cR (.tup []) [(144,.arr 1 207 (x3.map ae.pd))] (sort_260_261 h3)<|sN<|gU Z<|sV .mo<|sN<|qS<|gU Z<|sM Z<|WO.tD Z Z Z Z Z Z Z Z Z<|sV (r0)<|sN<|bE h fun o27 ho27 h=>WC.block (WC.loop (WL.pJ ho27 (fun s=>gI 0 229 5 [(4,.ref 816 0),(13,.ref 144 0),(14,rI (x3.length:Int)),(15,rI s.1)] [(144,.arr 0 207 (x3.map ae.pd)),(816,.arr 0 207 (s.2.map ae.pd))]) (fun o=>gX 0 0 229 12 [(4,.ref 816 0)] [(816,.arr 0 207 (o.map ae.pd))]) Z ?_ ?_))
 ·rintro⟨s4,s5⟩ R' B' q7 hI h
  refine gS Z hI<|sF h ?_ ?_<;>intro h
  ·refine sN<|qS<|cT<|qK<|qS<|qB<|gU Z<|bE h fun x10 h10 h=>WO.tz h10 Z Z Z Z Z Z Z Z<|bE h fun x11 h11 h=>WO.sn h11 Z Z Z Z Z Z<|sB (.ptr 96 0) 96 (.var [r0,r0])<|sS 96 (.var (ae.rc x11))<|sN<|gU Z ?_
   refine sM Z<|WO.tD Z Z Z Z Z Z Z Z Z<|sA Z<|sN<|WC.lU Z Z<|sM Z<|sF h ?_ ?_<;>intro h
   ·refine sM Z<|sV (.ptr 96 0)<|sL Z<|mM Z<|sV (rI (rW ((s5.length:Int)-(1:Int))))<|bE h fun x14 h14 h=>WO.tz h14 Z Z Z Z Z Z Z Z<|sV (.elt 816 0 ((rW ((s5.length:Int)-(1:Int)))).toNat 1)<|bE h fun x15 h15 h=>WO.sn h15 Z Z Z Z Z Z<|sV (rB (decide (x11.bd<=x15.fTo)))<|sF h ?_ ?_<;>intro h
    ·refine sN<|sO<|cT<|WC.rC Z Z<|mM Z<|sV (rI (rW ((s5.length:Int)-(1:Int))))<|mM Z<|sV (rI (rW ((s5.length:Int)-(1:Int))))<|bE h fun x18 h18 h=>WO.tz h18 Z Z Z Z Z Z Z Z<|sV (.elt 816 0 ((rW ((s5.length:Int)-(1:Int)))).toNat 1)<|bE h fun x19 h19 h=>WO.sn h19 Z Z Z Z Z Z<|sV (.ptr 96 1) ?_
     refine sL Z<|sV (rI (if x11.fTo>x19.fTo then x11.fTo else x19.fTo))<|bE h fun x21 h21 h=>WO.tz h21 Z Z Z Z Z Z Z Z<|sV (.elt 816 0 ((rW ((s5.length:Int)-(1:Int)))).toNat 1)<|bE h fun x22 h22 h=>WO.yD (g:=ae.pd) (u:=[]) (sz:=1) h22 (fun _=>Z) (fun _=>Nat.le_of_ble_eq_true Z) Z Z Z Z Z Z Z Z Z Z Z ?_
     refine sN<|sO<|WC.region Z Z<|sV (rI (rW (s4+(1:Int))))<|sM Z<|sN ?_
     cases oI h
     exact⟨rfl,rfl⟩
    refine sN<|sO<|cF<|WC.region Z Z<|sM Z<|sV (.d (ae.pd x11))<|sV (.d (.lst ([x11].map ae.pd)))<|bE h fun x24 h24 h=>aR h24 (fun _=>Z) Z<|sA Z<|sN<|WC.region Z Z<|sV (rI (rW (s4+(1:Int))))<|sM Z<|sN ?_
    cases oI h
    exact⟨rfl,rfl⟩
   refine sM Z<|k3<|k3<|k3<|sU ?_
   refine sN<|sO<|cF<|WC.region Z Z<|sM Z<|sV (.d (ae.pd x11))<|sV (.d (.lst ([x11].map ae.pd)))<|bE h fun x25 h25 h=>aR h25 (fun _=>Z) Z<|sA Z<|sN<|WC.region Z Z<|sV (rI (rW (s4+(1:Int))))<|sM Z<|sN ?_
   cases oI h
   exact⟨rfl,rfl⟩
  refine sN<|qS<|cF<|qX ?_
  cases oI h
  exact⟨nofun,rfl,rfl⟩
 intro e R' B' he hq
 obtain⟨rfl,hI⟩:=hq
 refine qE<|gS Z hI<|sM Z<|sA Z<|sN<|qR ?_
 exact oI h▸qD
theorem span_Meet_ev{a0:(List ae)}{a1:(List ae)}{r:(List ae)}(h:og a0 a1=some r):EvP prog aV ext 183 [rM ae.pd a0,rM ae.pd a1] [] (rM ae.pd r,[]):=by
 refine Ev.body Z Tryz.func183 Z Zk<|gU Z<|sV .mo<|sN<|gU Z<|sM Z<|bE h fun x1 h1 h=>cD (eQ h1)<|sM Z<|bE h fun x2 h2 h=>cD (eQ h2)<|sA Z<|sA Z<|sN<|gU Z ?_
 refine sV .mo<|sN<|qS<|gU Z<|sV (r0)<|sV (r0)<|sN<|bE h fun o23 ho23 h=>WC.block (WC.loop (WL.pJ ho23 (fun s=>gI 0 183 4 [(0,rM ae.pd x1),(1,rM ae.pd x2),(5,.ref 816 0),(6,rI s.1),(7,rI s.2.1)] [(816,.arr 0 207 (s.2.2.map ae.pd))]) (fun o=>gX 0 0 183 11 [(5,.ref 816 0)] [(816,.arr 0 207 (o.map ae.pd))]) Z ?_ ?_))
 ·rintro⟨s3,s4,s5⟩ R' B' q7 hI h
  refine qS<|gS Z hI<|mM Z<|sE (rI (x1.length:Int)) (oM _ _)<|sF h ?_ ?_<;>intro h
  ·refine mM Z<|sM Z<|sE (rI (x2.length:Int)) (oM _ _)<|sV (rB (decide (s4<(x2.length:Int))))<|sF h ?_ ?_<;>intro h
   ·refine sN<|cT<|qK<|qB<|WC.join (α:=(List ae)) (fun x R' B'=>p6 prog 0 (A R' B') (aV.at_ 183 0 8)=some (A [(0,rM ae.pd x1),(1,rM ae.pd x2),(5,.ref 816 0),(6,rI s3),(7,rI s4)] [(816,.arr 0 207 (x.map ae.pd))])) (fun x=>lP x1 s3 x2 s4 x=some q7) ?_ ?_
    ·refine WC.lU Z Z<|mM Z<|bE h fun x15 h15 h=>eG h15 Z<|sV (.cptr [.int .i64 x15.bd,.int .i64 x15.fTo])<|sC Z<|mM Z<|bE h fun x16 h16 h=>eG h16 Z<|sV (.cptr [.int .i64 x16.bd,.int .i64 x16.fTo])<|sC Z<|sV (rI (if x16.bd>x15.bd then x16.bd else x15.bd))<|sM Z ?_
     refine sM Z<|bE h fun x17 h17 h=>eG h17 Z<|sV (.cptr [.int .i64 x17.fTo])<|sC Z<|mM Z<|bE h fun x18 h18 h=>eG h18 Z<|sV (.cptr [.int .i64 x18.fTo])<|sC Z<|sV (rI (if x18.fTo<x17.fTo then x18.fTo else x17.fTo))<|sV (.d (ae.pd (ae.mk (if x16.bd>x15.bd then x16.bd else x15.bd) (if x18.fTo<x17.fTo then x18.fTo else x17.fTo))))<|sB (.ptr 128 0) 128 (.var [r0,r0])<|sS 128 (.var [rI (if x16.bd>x15.bd then x16.bd else x15.bd),rI (if x18.fTo<x17.fTo then x18.fTo else x17.fTo)]) ?_
     refine sN<|sO<|gU Z<|sV (.d (ae.pd (ae.mk (if x16.bd>x15.bd then x16.bd else x15.bd) (if x18.fTo<x17.fTo then x18.fTo else x17.fTo))))<|bE h fun x19 h19 h=>pP h (fun hb20 h=>?_) (fun hb20 h=>?_)
     ·exact WO.pV (v:=rB true) (u:=[]) rfl rfl (fun _=>rfl) rfl rfl rfl rfl rfl (iV h19) rfl rfl (congrArg (fun b=>RV.d (.bool b)) hb20) rfl<|sN<|cT<|WC.region rfl rfl<|sM rfl<|sV (.d (ae.pd (ae.mk (if x16.bd>x15.bd then x16.bd else x15.bd) (if x18.fTo<x17.fTo then x18.fTo else x17.fTo))))<|sV (.d (.lst ([(ae.mk (if x16.bd>x15.bd then x16.bd else x15.bd) (if x18.fTo<x17.fTo then x18.fTo else x17.fTo))].map ae.pd)))<|bE h fun x21 h21 h=>aR h21 (fun _=>rfl) rfl<|sA rfl<|sN<|⟨x21,rfl,h⟩
     exact WO.pV (v:=rB false) (u:=[]) rfl rfl (fun _=>rfl) rfl rfl rfl rfl rfl (iV h19) rfl rfl (congrArg (fun b=>RV.d (.bool b)) hb20) rfl<|sN<|cF<|qK<|⟨s5,rfl,h⟩
    rintro j10 R' B' hI h
    refine WC.lU hI Z<|mM Z<|bE h fun x11 h11 h=>eG h11 Z<|sV (.cptr [.int .i64 x11.fTo])<|sC Z<|mM Z<|bE h fun x12 h12 h=>eG h12 Z<|sV (.cptr [.int .i64 x12.fTo])<|sC Z<|sF h ?_ ?_<;>intro h
    ·refine sN<|sO<|cT<|WC.region Z Z<|sM Z<|sV (rI (rW (s3+(1:Int))))<|sA Z<|sN ?_
     cases oI h
     exact⟨rfl,rfl⟩
    refine sN<|sO<|cF<|WC.region Z Z<|sM Z<|sV (rI (rW (s4+(1:Int))))<|sA Z<|sN ?_
    cases oI h
    exact⟨rfl,rfl⟩
   refine sN<|cF<|qX ?_
   cases oI h
   exact⟨nofun,rfl,rfl⟩
  refine sM Z<|k3<|sK<|sU<|sN<|cF<|qX ?_
  cases oI h
  exact⟨nofun,rfl,rfl⟩
 intro e R' B' he hq
 obtain⟨rfl,hI⟩:=hq
 refine qE<|gS Z hI<|sM Z<|sA Z<|sN<|qR ?_
 exact oI h▸qD
theorem ef{a0:aw}{r:Bool}(h:cy a0=some r):EvP prog aV ext 112 [.d (aw.pd a0)] [] (rB r,[]):=by
 refine Ev.body Z Tryz.func112 Z Zk<|gU Z<|sB (.ptr 16 0) 16 (.var (aw.rc a0))<|sU<|sN<|gU Z<|sV (.ptr 16 0)<|sL Z<|bE h fun x1 h1 h=>pP h (fun hb2 h=>?_) (fun hb2 h=>?_)
 ·refine WO.pV (v:=rB true) (u:=[]) Z Z (fun _=>Z) Z Z Z Z Z (jT h1) Z Z (congrArg (fun b=>RV.d (.bool b)) hb2) Z<|sM Z<|sV (.ptr 16 1)<|sL Z<|bE h fun x3 h3 h=>cD (jT h3)<|sF h ?_ ?_<;>intro h
  ·refine sM Z<|sV (.ptr 16 0)<|sL Z<|sV (.ptr 16 1)<|sL Z<|bE h fun x5 h5 h=>cD (span_Meet_ev h5)<|sE (rI (x5.length:Int)) (oM _ _)<|sV (rB ((x5.length:Int)==(0:Int)))<|sV (rB ((x5.length:Int)==(0:Int)))<|sA Z<|sN<|qR ?_
   exact oI h▸qD
  refine sM Z<|k3<|k3<|sK<|sU<|sA Z<|sN<|qR ?_
  exact oI h▸qD
 refine WO.pV (v:=rB false) (u:=[]) Z Z (fun _=>Z) Z Z Z Z Z (jT h1) Z Z (congrArg (fun b=>RV.d (.bool b)) hb2) Z<|sM Z<|k3<|sU<|sM Z<|k3<|k3<|sK<|sU ?_
 refine sA Z<|sN<|qR ?_
 exact oI h▸qD
theorem gY{a0:Int}{a1:Int}{a2:Int}{r:Bool}(h:ld a0 a1 a2=some r):EvP prog aV ext 115 [rI a0,rI a1,rI a2] [] (rB r,[]):=by
 refine Ev.body Z Tryz.func115 Z Zk<|gU Z<|sU<|sN<|gU Z<|mM Z<|sF h ?_ ?_<;>intro h
 ·refine mM Z<|sM Z<|sV (rB (decide (a0<=a2)))<|sV (rB (decide (a0<=a2)))<|sA Z<|sN<|qR ?_
  exact oI h▸qD
 refine sM Z<|k3<|sU<|sA Z<|sN<|qR ?_
 exact oI h▸qD
theorem cmp_Or_int_ev{a0:(List Int)}{r:Int}(h:mA a0=some r):EvP prog aV ext 187 [rL a0] [] (rI r,[]):=by
 refine Ev.body Z Tryz.func187 Z Zk<|gU Z<|sV (r0)<|sN<|gU Z<|sV (r0)<|sN<|qS<|gU Z<|sM Z<|sE (rI (a0.length:Int)) (oM _ _)<|sV (r0)<|sN<|bE h fun o7 ho7 h=>WC.block (WC.loop (WL.pJ ho7 (fun s=>gI 0 187 3 [(3,r0),(6,rL a0),(7,rI (a0.length:Int)),(8,rI s)] []) (fun o=>match o with| .inl y=>gX 0 0 187 8 [(3,r0)] []| .inr r=>gF 187 Tryz.f187 0 (rI r,[])) Z ?_ ?_))
 ·rintro s1 R' B' q2 hI h
  refine gS Z hI<|sF h ?_ ?_<;>intro h
  ·refine sN<|qS<|cT<|qK<|qS<|qB<|gU Z<|bE h fun x4 h4 h=>eG h4 Z<|sC Z<|sA Z<|sN<|gU Z<|sM Z<|sM Z ?_
   refine sF h ?_ ?_<;>intro h
   ·refine sN<|cT<|gU Z<|sM Z<|sA Z<|sN<|qR ?_
    cases oI h
    exact⟨nofun,rfl,rfl⟩
   refine sN<|cF<|qK<|WC.region Z Z<|sV (rI (rW (s1+(1:Int))))<|sM Z<|sN ?_
   cases oI h
   exact⟨rfl,rfl⟩
  refine sN<|qS<|cF<|qX ?_
  cases oI h
  exact⟨nofun,rfl,rfl⟩
 intro e R' B' he hq
 rcases o7 with y8|r9
 ·obtain⟨rfl,hI⟩:=hq
  refine qE<|gS Z hI<|sM Z<|sA Z<|sN<|qR ?_
  exact oI h▸qD
 obtain⟨rfl,hf⟩:=hq
 cases oI h
 exact hf
theorem lK{a0:ak}{a1:ak}{r:Int}(h:jg a0 a1=some r):EvP prog aV ext 123 [.d (ak.pd a0),.d (ak.pd a1)] [] (rI r,[]):=by
 refine Ev.body Z Tryz.func123 Z Zk<|gU Z<|sB (.ptr 32 0) 32 (.var (ak.rc a0))<|sB (.ptr 48 0) 48 (.var (ak.rc a1))<|sV (r0)<|sN<|gU Z<|sV (.ptr 32 0)<|sL Z<|sV (.ptr 48 0)<|sL Z<|sV (rI (rW (a0.fAt-a1.fAt)))<|sV (.ptr 32 1)<|sL Z<|sV (.ptr 48 1) ?_
 refine sL Z<|sV (rI (rW (a0.ba-a1.ba)))<|sV (.d (.lst ([(rW (a0.fAt-a1.fAt)),(rW (a0.ba-a1.ba))].map (PD.int .i64))))<|bE h fun x1 h1 h=>cD (cmp_Or_int_ev h1)<|sA Z<|sN<|qR ?_
 exact oI h▸qD
theorem jy{a0:aC}{r:Bool}(h:gV a0=some r):EvP prog aV ext 113 [.d (aC.pd a0)] [] (rB r,[]):=by
 refine Ev.body Z Tryz.func113 Z Zk<|gU Z<|sB (.ptr 16 0) 16 (.var (aC.rc a0))<|sU<|sN<|qS<|gU Z<|sV (.ptr 16 0)<|sL Z<|bE h fun x1 h1 h=>cD (gY h1)<|sF h ?_ ?_<;>intro h
 ·refine sM Z<|k3<|sK<|sT<|sM Z<|k3<|sK<|sT<|sN<|cT<|gU Z ?_
  refine sU<|sN<|qR ?_
  exact oI h▸qD
 refine sM Z<|sV (.ptr 16 1)<|sL Z<|bE h fun x3 h3 h=>cD (gY h3)<|sV (rB (!x3))<|sF h ?_ ?_<;>intro h
 ·refine sM Z<|k3<|sK<|sT<|sN<|cT<|gU Z<|sU<|sN<|qR ?_
  exact oI h▸qD
 refine sM Z<|sV (.ptr 16 2)<|sL Z<|sE (rI (a0.bq.length:Int)) (oM _ _)<|sV (rB (decide ((a0.bq.length:Int)>(1024:Int))))<|sF h ?_ ?_<;>intro h
 ·refine sN<|cT<|gU Z<|sU<|sN<|qR ?_
  exact oI h▸qD
 refine sN<|cF<|qK<|qS<|gU Z<|sV (.ptr 16 2)<|sL Z<|sE (rI (a0.bq.length:Int)) (oM _ _)<|sV (r0)<|sN<|bE h fun o20 ho20 h=>WC.block (WC.loop (WL.pJ ho20 (fun s=>gI 0 113 4 [(1,.ptr 16 0),(22,rM ak.pd a0.bq),(23,rI (a0.bq.length:Int)),(24,rI s)] [(16,.var (aC.rc a0))]) (fun o=>match o with| .inl y=>gX 0 0 113 9 [] []| .inr r=>gF 113 Tryz.f113 0 (rB r,[])) Z ?_ ?_))
 ·rintro s6 R' B' q7 hI h
  refine gS Z hI<|sF h ?_ ?_<;>intro h
  ·refine sN<|qS<|cT<|qK<|qS<|qB<|gU Z<|sM Z<|bE h fun x9 h9 h=>eG h9 Z<|sV (.d (ak.pd x9))<|sB (.ptr 64 0) 64 (.var [r0,r0,rS []])<|sA Z<|sS 64 (.var (ak.rc x9))<|sN ?_
   refine WC.lU Z Z<|sV (.ptr 64 2)<|sL Z<|sV (rI (x9.ch.length:Int))<|sF h ?_ ?_<;>intro h
   ·refine sM Z<|k3<|k3<|sK<|sT<|sM Z<|k3<|sK<|sK ?_
    refine sK<|sK<|sT<|sM Z<|k3<|k3<|k3<|sK<|sK ?_
    refine sK<|sK<|sT ?_
    refine sN<|sO<|cT<|gU Z<|sU<|sN<|qR ?_
    cases oI h
    exact⟨nofun,rfl,rfl⟩
   refine sM Z<|sV (.ptr 64 0)<|sL Z<|sV (.ptr 16 0)<|sL Z<|sV (rI (rW (a0.bt+(1:Int))))<|bE h fun x11 h11 h=>cD (gY h11)<|sV (rB (!x11))<|sF h ?_ ?_<;>intro h
   ·refine sM Z<|k3<|k3<|sK<|sT<|sM Z<|k3<|sK<|sK ?_
    refine k3<|k3<|sK<|sK<|sT ?_
    refine sN<|sO<|cT<|gU Z<|sU<|sN<|qR ?_
    cases oI h
    exact⟨nofun,rfl,rfl⟩
   refine sM Z<|sV (.ptr 64 1)<|sL Z<|sV (.ptr 16 1)<|sL Z<|sV (rI (rW (a0.ba-(1:Int))))<|bE h fun x13 h13 h=>cD (gY h13)<|sV (rB (!x13))<|sF h ?_ ?_<;>intro h
   ·refine sM Z<|k3<|k3<|k3<|k3<|sK<|sT ?_
    refine sN<|sO<|cT<|gU Z<|sU<|sN<|qR ?_
    cases oI h
    exact⟨nofun,rfl,rfl⟩
   refine mM Z<|sF h ?_ ?_<;>intro h
   ·refine sM Z<|sV (.ptr 16 2)<|sL Z<|sM Z<|sV (rI (rW (s6-(1:Int))))<|bE h fun x16 h16 h=>eG h16 Z<|sV (.d (ak.pd x16))<|sV (.d (ak.pd x9))<|bE h fun x17 h17 h=>cD (lK h17)<|sV (rB (decide (x17>=(0:Int))))<|sV (rB (decide (x17>=(0:Int))))<|sF h ?_ ?_<;>intro h
    ·refine sN<|sO<|cT<|gU Z<|sU<|sN<|qR ?_
     cases oI h
     exact⟨nofun,rfl,rfl⟩
    refine sN<|sO<|cF<|qK<|WC.region Z Z<|sV (rI (rW (s6+(1:Int))))<|sM Z<|sN ?_
    cases oI h
    exact⟨rfl,rfl⟩
   refine sM Z<|k3<|k3<|k3<|sU<|sU ?_
   refine sN<|sO<|cF<|qK<|WC.region Z Z<|sV (rI (rW (s6+(1:Int))))<|sM Z<|sN ?_
   cases oI h
   exact⟨rfl,rfl⟩
  refine sN<|qS<|cF<|qX ?_
  cases oI h
  exact⟨nofun,rfl,rfl⟩
 intro e R' B' he hq
 rcases o20 with y21|r22
 ·obtain⟨rfl,hI⟩:=hq
  refine qE<|gS Z hI<|sT<|sN<|qR ?_
  exact oI h▸qD
 obtain⟨rfl,hf⟩:=hq
 cases oI h
 exact hf
theorem mr{a0:ae}{d0:Int}{r:Bool}(h:lO a0 d0=some r):EvP prog aV ext 231 [.d (ae.pd a0),.ptr 0 0] [.var [rI d0]] (rB r,[.var [rI d0]]):=by
 refine Ev.body Z Tryz.func231 Z Zk<|gU Z<|sB (.ptr 32 0) 32 (.var (ae.rc a0))<|sU<|sN<|gU Z<|sV (.ptr 32 0)<|sL Z<|sL Z<|sF h ?_ ?_<;>intro h
 ·refine sM Z<|sL Z<|sV (.ptr 32 1)<|sL Z<|sV (rB (decide (d0<a0.fTo)))<|sV (rB (decide (d0<a0.fTo)))<|sA Z<|sN<|qR ?_
  exact oI h▸qD
 refine sM Z<|k3<|sK<|sU<|sA Z<|sN<|qR ?_
 exact oI h▸qD
theorem js{a0:(List ae)}{d0:Int}{r:Int}(h:du a0 d0=some r):EvP prog aV ext 238 [rM ae.pd a0,.clo 231 [.ptr 0 0]] [.var [rI d0]] (rI r,[.var [rI d0]]):=by
 refine Ev.body Z Tryz.func238 Z Zk<|gU Z<|sV (r0)<|sN<|qS<|gU Z<|sM Z<|sE (rI (a0.length:Int)) (oM _ _)<|sV (r0)<|sN<|bE h fun o8 ho8 h=>WC.block (WC.loop (WL.pJ ho8 (fun s=>gI 1 238 2 [(0,rM ae.pd a0),(1,.clo 231 [.ptr 0 0]),(7,rI (a0.length:Int)),(8,rI s)] [(0,.var [rI d0])]) (fun o=>match o with| .inl y=>gX 0 1 238 7 [] [(0,.var [rI d0])]| .inr r=>gF 238 Tryz.f238 1 (rI r,[.var [rI d0]])) Z ?_ ?_))
 ·rintro s1 R' B' q2 hI h
  refine gS Z hI<|sF h ?_ ?_<;>intro h
  ·refine sN<|qS<|cT<|qK<|qS<|qB<|gU Z<|sM Z<|sA Z<|sN<|gU Z<|mM Z<|sM Z<|bE h fun x4 h4 h=>?_
   refine eG h4 Z<|sV (.d (ae.pd x4))<|bE h fun x5 h5 h=>pP h (fun hb6 h=>?_) (fun hb6 h=>?_)
   ·refine WO.pV (v:=rB true) (u:=[(0,.var [rI d0])]) Z Z (fun _=>Z) Z Z Z Z Z (mr h5) Z Z (congrArg (fun b=>RV.d (.bool b)) hb6) Z<|sN<|cT<|gU Z<|sM Z<|sA Z<|sN<|qR ?_
    cases oI h
    exact⟨nofun,rfl,rfl⟩
   refine WO.pV (v:=rB false) (u:=[(0,.var [rI d0])]) Z Z (fun _=>Z) Z Z Z Z Z (mr h5) Z Z (congrArg (fun b=>RV.d (.bool b)) hb6) Z<|sN<|cF<|qK<|WC.region Z Z<|sV (rI (rW (s1+(1:Int))))<|sM Z<|sN ?_
   cases oI h
   exact⟨rfl,rfl⟩
  refine sN<|qS<|cF<|qX ?_
  cases oI h
  exact⟨nofun,rfl,rfl⟩
 intro e R' B' he hq
 rcases o8 with y9|r10
 ·obtain⟨rfl,hI⟩:=hq
  refine qE<|gS Z hI<|sV (rI (-1))<|sN<|qR ?_
  exact oI h▸qD
 obtain⟨rfl,hf⟩:=hq
 cases oI h
 exact hf
theorem iO{a0:(List ae)}{d0:Int}{r:Bool}(h:db a0 d0=some r):EvP prog aV ext 197 [rM ae.pd a0,.clo 231 [.ptr 0 0]] [.var [rI d0]] (rB r,[.var [rI d0]]):=by
 refine Ev.body Z Tryz.func197 Z Zk<|gU Z<|sU<|sN<|gU Z<|mM Z<|bE h fun x1 h1 h=>cR (rI x1) [(0,.var [rI d0])] (js h1)<|sV (rB (decide (x1>=(0:Int))))<|sA Z<|sN<|qR ?_
 exact oI h▸qD
theorem span_Has_ev{a0:(List ae)}{a1:Int}{r:Bool}(h:nS a0 a1=some r):EvP prog aV ext 184 [rM ae.pd a0,rI a1] [] (rB r,[]):=by
 refine Ev.body Z Tryz.func184 Z Zk<|gU Z<|sB (.ptr 48 0) 48 (.var [rI a1])<|sU<|sN<|gU Z<|sM Z<|sV (.clo 231 [.ptr 48 0])<|bE h fun x1 h1 h=>cR (rB x1) [(48,.var [rI a1])] (iO h1)<|sA Z<|sN<|qR ?_
 exact oI h▸qD
theorem nQ{a0:aK}{r:Bool}(h:fI a0=some r):EvP prog aV ext 114 [.d (aK.pd a0)] [] (rB r,[]):=by
 refine Ev.body Z Tryz.func114 Z Zk<|gU Z<|sB (.ptr 16 0) 16 (.var (aK.rc a0))<|sU<|sN<|gU Z<|sB (.ptr 112 0) 112 (.map 3 4 (([]:List (Int×Bool)).map fun e=>((PD.int .i64) e.1,PD.bool e.2)))<|sA Z<|sN<|gU Z<|sV (r0)<|sN<|qS<|gU Z<|sV (.ptr 16 14) ?_
 refine sL Z<|sE (rI (a0.bp.length:Int)) (oM _ _)<|sV (r0)<|sN<|bE h fun o15 ho15 h=>WC.block (WC.loop (WL.pJ ho15 (fun s=>gI 0 114 4 [(1,.ptr 16 0),(3,.ptr 112 0),(4,rI s.1),(9,rM aB.pd a0.bp),(10,rI (a0.bp.length:Int)),(11,rI s.2.1)] [(16,.var (aK.rc a0)),(112,.map 3 4 (s.2.2.map fun e=>((PD.int .i64) e.1,PD.bool e.2)))]) (fun o=>match o with| .inl y=>gX 0 0 114 10 [(1,.ptr 16 0)] [(16,.var (aK.rc a0))]| .inr r=>gF 114 Tryz.f114 0 (rB r,[])) Z ?_ ?_))
 ·rintro⟨s1,s2,s3⟩ R' B' q4 hI h
  refine gS Z hI<|sF h ?_ ?_<;>intro h
  ·refine sN<|qS<|cT<|qK<|qS<|qB<|gU Z<|bE h fun x6 h6 h=>eG h6 Z<|sV (.d (aB.pd x6))<|sB (.ptr 96 0) 96 (.var [r0,r0,rS []])<|sS 96 (.var (aB.rc x6))<|sN<|qS<|gU Z ?_
   refine sM Z<|sV (.ptr 96 0)<|sL Z<|pP h (fun hb7 h=>?_) (fun hb7 h=>?_)
   ·refine WO.lookS (z:=false) (uU.int Z) hb7 Z Z Z Z Z Z Z Z<|sM Z<|k3<|sK<|sT<|sM Z<|k3<|k3<|sK ?_
    refine sT<|sM Z<|k3<|k3<|sK<|sT<|sN<|cT<|gU Z<|sU<|sN ?_
    refine qR ?_
    cases oI h
    exact⟨nofun,rfl,rfl⟩
   refine WO.lookS (z:=false) (uU.int Z) hb7 Z Z Z Z Z Z Z Z<|sM Z<|sV (.ptr 96 0)<|sL Z<|bE h fun x8 h8 h=>cD (cx h8)<|sV (rB (!x8))<|sF h ?_ ?_<;>intro h
   ·refine sM Z<|k3<|k3<|sK<|sT<|sM Z<|k3<|sK<|sK ?_
    refine sK<|sK<|sT<|sN<|cT<|gU Z<|sU<|sN<|qR ?_
    cases oI h
    exact⟨nofun,rfl,rfl⟩
   refine sM Z<|sV (.ptr 16 6)<|sV (.ptr 16 6)<|sL Z<|sV (.ptr 96 0)<|sL Z<|bE h fun x10 h10 h=>cD (span_Has_ev h10)<|sV (rB (!x10))<|sF h ?_ ?_<;>intro h
   ·refine sM Z<|k3<|k3<|sK<|sT<|sN<|cT<|gU Z<|sU<|sN<|qR ?_
    cases oI h
    exact⟨nofun,rfl,rfl⟩
   refine sM Z<|sV (.ptr 96 1)<|sL Z<|sM Z<|sV (.ptr 16 0)<|sL Z<|bE h fun x12 h12 h=>cD (cx h12)<|sV (rB (!x12))<|sF h ?_ ?_<;>intro h
   ·refine sN<|cT<|gU Z<|sU<|sN<|qR ?_
    cases oI h
    exact⟨nofun,rfl,rfl⟩
   refine sN<|cF<|qK<|WC.rC Z Z<|sM Z<|sV (.ptr 96 0)<|sL Z<|sV (.ptr 96 1)<|sL Z<|WO.mput (gv:=PD.bool) (y:=true) (uU.int Z) Z Z Z Z Z Z Z Z Z Z<|sA Z ?_
   refine sN<|sO<|WC.region Z Z<|sV (rI (rW (s2+(1:Int))))<|sM Z<|sN ?_
   cases oI h
   exact⟨rfl,rfl⟩
  refine sN<|qS<|cF<|qX ?_
  cases oI h
  exact⟨nofun,rfl,rfl⟩
 intro e R' B' he hq
 rcases o15 with y16|r17
 ·obtain⟨rfl,hI⟩:=hq
  refine qE<|gS Z hI<|sV (.ptr 16 14)<|sL Z<|sE (rI (a0.bp.length:Int)) (oM _ _)<|sV (rB (decide ((a0.bp.length:Int)<=(4096:Int))))<|sA Z<|sN<|qR ?_
  cases oI h
  exact qG
 obtain⟨rfl,hf⟩:=hq
 cases oI h
 exact hf
theorem mn{a0:aK}{r:Bool}(h:gD a0=some r):EvP prog aV ext 55 [.d (aK.pd a0)] [] (rB r,[]):=by
 refine Ev.body Z Tryz.func55 Z Zk<|gU Z<|sB (.ptr 16 0) 16 (.var (aK.rc a0))<|sU<|sN<|WC.lU Z Z<|sV (.ptr 16 0)<|sL Z<|bE h fun x1 h1 h=>pP h (fun hb2 h=>?_) (fun hb2 h=>?_)
 ·refine WO.pV (v:=rB true) (u:=[]) Z Z (fun _=>Z) Z Z Z Z Z (cx h1) Z Z (congrArg (fun b=>RV.d (.bool b)) hb2) Z<|sM Z<|sV (.ptr 16 1)<|sL Z<|bE h fun x3 h3 h=>cD (cx h3)<|sF h ?_ ?_<;>intro h
  ·refine sM Z<|sV (.ptr 16 3)<|sV (.d (aG.pd a0.bj))<|bE h fun x5 h5 h=>cD (fo h5)<|sF h ?_ ?_<;>intro h
   ·refine sM Z<|sV (.ptr 16 2)<|sL Z<|sV (.ptr 16 3)<|sV (.d (aG.pd a0.bj))<|bE h fun x7 h7 h=>cD (dC h7)<|bE h fun x8 h8 h=>cD (cx h8)<|sF h ?_ ?_<;>intro h
    ·refine sM Z<|sV (.ptr 16 6)<|sV (.d (aw.pd a0.bo))<|bE h fun x10 h10 h=>cD (ef h10)<|sF h ?_ ?_<;>intro h
     ·refine sM Z<|sV (.ptr 16 8)<|sV (.d (aC.pd a0.bF))<|bE h fun x12 h12 h=>cD (jy h12)<|sF h ?_ ?_<;>intro h
      ·refine sM Z<|sV (.ptr 16 11)<|sV (.d (aC.pd a0.fUp))<|bE h fun x14 h14 h=>cD (jy h14)<|sF h ?_ ?_<;>intro h
       ·refine sM Z<|sV (.ptr 16 8)<|sV (.ptr 16 8)<|sL Z<|sV (.ptr 16 0)<|sL Z<|sV (rB (a0.bF.bt==a0.bt))<|sF h ?_ ?_<;>intro h
        ·refine sM Z<|sV (.ptr 16 11)<|sV (.ptr 16 11)<|sL Z<|sV (.ptr 16 0)<|sL Z<|sV (rB (a0.fUp.bt==a0.bt))<|sF h ?_ ?_<;>intro h
         ·refine sM Z<|sV (.d (aK.pd a0))<|bE h fun x18 h18 h=>cD (nQ h18)<|sV (rB x18)<|sA Z ?_
          refine sN<|sO<|qR ?_
          cases oI h
          exact qG
         refine sM Z<|sK<|sK<|sU<|sA Z ?_
         refine sN<|sO<|qR ?_
         cases oI h
         exact qG
        refine sM Z<|k3<|k3<|sU<|sM Z<|sK<|sK<|sU<|sA Z ?_
        refine sN<|sO<|qR ?_
        cases oI h
        exact qG
       refine sM Z<|k3<|k3<|sU<|sM Z<|k3<|sK<|sK<|sK ?_
       refine sU<|sM Z<|sK<|sK<|sU<|sA Z ?_
       refine sN<|sO<|qR ?_
       cases oI h
       exact qG
      refine sM Z<|k3<|sU<|sM Z<|k3<|k3<|sU<|sM Z<|sK ?_
      refine k3<|sK<|sK<|sU<|sM Z<|sK<|sK<|sU<|sA Z ?_
      refine sN<|sO<|qR ?_
      cases oI h
      exact qG
     refine sM Z<|k3<|sU<|sM Z<|k3<|sU<|sM Z<|k3<|sK ?_
     refine sK<|sK<|sU<|sM Z<|k3<|k3<|sU<|sM Z<|sK<|sK<|sU ?_
     refine sA Z ?_
     refine sN<|sO<|qR ?_
     cases oI h
     exact qG
    refine sM Z<|k3<|sU<|sM Z<|k3<|sU<|sM Z<|k3<|sU ?_
    refine sM Z<|k3<|k3<|sU<|sM Z<|k3<|sK<|sK<|sK ?_
    refine sU<|sM Z<|sK<|sK<|sU<|sA Z ?_
    refine sN<|sO<|qR ?_
    cases oI h
    exact qG
   refine sM Z<|k3<|k3<|sU<|sM Z<|k3<|sU<|sM Z<|sK ?_
   refine sK<|sK<|sU<|sM Z<|k3<|sU<|sM Z<|k3<|sK<|sK<|sK ?_
   refine sU<|sM Z<|k3<|k3<|sU<|sM Z<|sK<|sK<|sU<|sA Z ?_
   refine sN<|sO<|qR ?_
   cases oI h
   exact qG
  refine sM Z<|k3<|sU<|sM Z<|k3<|k3<|sU<|sM Z<|sK ?_
  refine sK<|sK<|sU<|sM Z<|k3<|sU<|sM Z<|k3<|sU<|sM Z<|sK ?_
  refine k3<|sK<|sK<|sU<|sM Z<|k3<|k3<|sU<|sM Z ?_
  refine sK<|sK<|sU<|sA Z ?_
  refine sN<|sO<|qR ?_
  cases oI h
  exact qG
 refine WO.pV (v:=rB false) (u:=[]) Z Z (fun _=>Z) Z Z Z Z Z (cx h1) Z Z (congrArg (fun b=>RV.d (.bool b)) hb2) Z<|sM Z<|k3<|sU<|sM Z<|k3<|sU<|sM Z<|sK<|sK<|sK ?_
 refine k3<|sU<|sM Z<|k3<|sU<|sM Z<|k3<|sU<|sM Z ?_
 refine k3<|sU<|sM Z<|k3<|k3<|sU<|sM Z<|sK<|sK ?_
 refine k3<|sK<|sU<|sM Z<|sK<|sK<|sU<|sA Z ?_
 refine sN<|sO<|qR ?_
 cases oI h
 exact qG
theorem gW{a0:am}{r:Bool}(h:d8 a0=some r):EvP prog aV ext 56 [.d (am.pd a0)] [] (rB r,[]):=by
 refine Ev.body Z Tryz.func56 Z Zk<|gU Z<|sB (.ptr 16 0) 16 (.var (am.rc a0))<|sU<|sN<|gU Z<|sV (.ptr 16 1)<|sL Z<|bE h fun x1 h1 h=>pP h (fun hb2 h=>?_) (fun hb2 h=>?_)
 ·refine WO.pV (v:=rB true) (u:=[]) Z Z (fun _=>Z) Z Z Z Z Z (gY h1) Z Z (congrArg (fun b=>RV.d (.bool b)) hb2) Z<|sM Z<|sV (.ptr 16 2)<|sL Z<|bE h fun x3 h3 h=>cD (gY h3)<|sV (rB x3)<|sA Z<|sN<|qR ?_
  exact oI h▸qD
 refine WO.pV (v:=rB false) (u:=[]) Z Z (fun _=>Z) Z Z Z Z Z (gY h1) Z Z (congrArg (fun b=>RV.d (.bool b)) hb2) Z<|sM Z<|k3<|sU<|sA Z<|sN<|qR ?_
 exact oI h▸qD
theorem lp{a0:aK}{r:aK}(h:fV a0=some r):EvP prog aV ext 57 [.d (aK.pd a0)] [] (.agg (rI r.bt::rI r.br::rI r.bY::aG.rc r.bj++aw.rc r.bo++aC.rc r.bF++aC.rc r.fUp++[.ref 0 0]),[.arr 0 123 (r.bp.map aB.pd)]):=by
 refine Ev.body Z Tryz.func57 Z Zk<|gU Z<|sB (.ptr 16 0) 16 (.var (aK.rc a0))<|sB (.ptr 32 0) 32 (.var zZ4)<|sN<|WC.lU Z Z<|sV (.ptr 16 3)<|sV (.ptr 16 5)<|sL Z<|bE h fun x1 h1 h=>cR (.ref 96 0) [(96,.arr 0 9 (x1.map PD.str))] (clone_116 h1)<|sV (.ptr 16 6)<|sV (.ptr 16 6)<|sL Z<|bE h fun x2 h2 h=>?_
 refine cR (.ref 160 0) [(160,.arr 0 207 (x2.map ae.pd))] (oa h2)<|sV (.ptr 16 6)<|sV (.ptr 16 7)<|sL Z<|bE h fun x3 h3 h=>cR (.ref 224 0) [(224,.arr 0 207 (x3.map ae.pd))] (oa h3)<|sV (.ptr 16 3)<|sV (.ptr 16 5)<|sS 16 (.var (rI a0.bt::rI a0.br::rI a0.bY::rI a0.bj.c8::rI a0.bj.bJ:: .ref 96 0::aw.rc a0.bo++aC.rc a0.bF++aC.rc a0.fUp++[rM aB.pd a0.bp]))<|sV (.ptr 16 6)<|sV (.ptr 16 6)<|sS 16 (.var (rI a0.bt::rI a0.br::rI a0.bY::rI a0.bj.c8::rI a0.bj.bJ:: .ref 96 0:: .ref 160 0::rM ae.pd a0.bo.c7::aC.rc a0.bF++aC.rc a0.fUp++[rM aB.pd a0.bp]))<|sV (.ptr 16 6)<|sV (.ptr 16 7)<|sS 16 (.var (rI a0.bt::rI a0.br::rI a0.bY::rI a0.bj.c8::rI a0.bj.bJ:: .ref 96 0:: .ref 160 0:: .ref 224 0::aC.rc a0.bF++aC.rc a0.fUp++[rM aB.pd a0.bp])) ?_
 refine sN<|sO<|WC.lU Z Z<|sV (.ptr 16 8)<|sV (.ptr 16 10)<|sL Z<|bE h fun x4 h4 h=>cR (.ref 384 0) [(384,.arr 0 210 (x4.map ak.pd))] (oc h4)<|sV (.ptr 16 11)<|sV (.ptr 16 13)<|sL Z<|bE h fun x5 h5 h=>cR (.ref 448 0) [(448,.arr 0 210 (x5.map ak.pd))] (oc h5)<|sV (.ptr 16 14)<|sL Z<|bE h fun x6 h6 h=>?_
 refine cR (.ref 496 0) [(496,.arr 0 123 (x6.map aB.pd))] (clone_119 h6)<|sV (.ptr 16 8)<|sV (.ptr 16 10)<|sS 16 (.var (rI a0.bt::rI a0.br::rI a0.bY::rI a0.bj.c8::rI a0.bj.bJ:: .ref 96 0:: .ref 160 0:: .ref 224 0::rI a0.bF.bt::rI a0.bF.ba:: .ref 384 0::aC.rc a0.fUp++[rM aB.pd a0.bp]))<|sV (.ptr 16 11)<|sV (.ptr 16 13)<|sS 16 (.var [rI a0.bt,rI a0.br,rI a0.bY,rI a0.bj.c8,rI a0.bj.bJ,.ref 96 0,.ref 160 0,.ref 224 0,rI a0.bF.bt,rI a0.bF.ba,.ref 384 0,rI a0.fUp.bt,rI a0.fUp.ba,.ref 448 0,rM aB.pd a0.bp])<|sV (.ptr 16 14)<|sS 16 (.var [rI a0.bt,rI a0.br,rI a0.bY,rI a0.bj.c8,rI a0.bj.bJ,.ref 96 0,.ref 160 0,.ref 224 0,rI a0.bF.bt,rI a0.bF.ba,.ref 384 0,rI a0.fUp.bt,rI a0.fUp.ba,.ref 448 0,.ref 496 0]) ?_
 refine sN<|sO<|WC.qv (R0:=[(1,.ptr 16 0),(2,.ptr 32 0)]) (B0:=[(16,.var [rI a0.bt,rI a0.br,rI a0.bY,rI a0.bj.c8,rI a0.bj.bJ,.d (.lst (x1.map PD.str)),rM ae.pd x2,rM ae.pd x3,rI a0.bF.bt,rI a0.bF.ba,rM ak.pd x4,rI a0.fUp.bt,rI a0.fUp.ba,rM ak.pd x5,.ref 496 0]),(32,.var zZ4),(496,.arr 0 123 (x6.map aB.pd))]) Z Z<|sV (.agg [rI a0.bt,rI a0.br,rI a0.bY,rI a0.bj.c8,rI a0.bj.bJ,.d (.lst (x1.map PD.str)),rM ae.pd x2,rM ae.pd x3,rI a0.bF.bt,rI a0.bF.ba,rM ak.pd x4,rI a0.fUp.bt,rI a0.fUp.ba,rM ak.pd x5,.ref 496 0])<|sH 32 (.var [rI a0.bt,rI a0.br,rI a0.bY,rI a0.bj.c8,rI a0.bj.bJ,.d (.lst (x1.map PD.str)),rM ae.pd x2,rM ae.pd x3,rI a0.bF.bt,rI a0.bF.ba,rM ak.pd x4,rI a0.fUp.bt,rI a0.fUp.ba,rM ak.pd x5,.ref 496 0])<|sN<|qR ?_
 cases oI h
 exact qG
theorem sender_Push_ev{a0:aG}{a1:(List UInt8)}{r:aG×Int×Int}(h:lm a0 a1=some r):EvP prog aV ext 58 [.d (aG.pd a0),rS a1] [] (.tup [.d (aG.pd r.1),rI r.2.1,rI r.2.2],[]):=by
 refine Ev.body Z Tryz.func58 Z Zk<|gU Z<|sB (.ptr 32 0) 32 (.var (aG.rc a0))<|sB (.ptr 64 0) 64 (.var [r0,r0,.mo])<|sV (r0)<|sV (r0)<|sN<|qS<|gU Z<|sV (.d (aG.pd a0))<|bE h fun x1 h1 h=>cD (fo h1)<|sF h ?_ ?_<;>intro h
 ·refine sN<|cT<|gU Z<|sV (.agg [r0,r0,.mo])<|sS 64 (.var [r0,r0,.mo])<|sV (r0)<|sV (rI 1)<|sN<|qR ?_
  exact oI h▸qD
 refine sN<|cF<|qK<|gU Z<|sV (.d (aG.pd a0))<|bE h fun x3 h3 h=>cD (dC h3)<|sA Z<|sN<|qS<|gU Z<|sM Z<|sV (rI (a1.length:Int))<|sF h ?_ ?_<;>intro h
 ·refine sM Z<|sK<|sK<|sT<|sN<|cT<|gU Z<|sV (.agg [r0,r0,.mo])<|sS 64 (.var [r0,r0,.mo])<|sV (r0)<|sV (rI 8)<|sN<|qR ?_
  exact oI h▸qD
 refine mM Z<|sV (rB (x3==(1073741825:Int)))<|sF h ?_ ?_<;>intro h
 ·refine sN<|cT<|gU Z<|sV (.agg [r0,r0,.mo])<|sS 64 (.var [r0,r0,.mo])<|sV (r0)<|sV (rI 8)<|sN<|qR ?_
  exact oI h▸qD
 refine sN<|cF<|qK<|gU Z<|sV (.ptr 32 2)<|sL Z<|sE (rI (a0.ch.length:Int)) (oM _ _)<|sA Z<|sN<|gU Z<|sV (.ptr 32 2)<|sL Z<|mM Z<|WO.fullG (g:=PD.str) (li:=a0.ch) Z Z Z Z Z Z Z Z Z Z Z Z Z ?_
 refine sM Z<|sV (.d (.lst ([a1].map PD.str)))<|bE h fun x6 h6 h=>WO.appD h6 (fun _=>Z) Z Z Z Z Z Z Z Z Z Z Z Z Z Z<|sV (.ptr 32 2)<|sS 32 (.var [rI a0.c8,rI a0.bJ,.d (.lst (x6.map PD.str))])<|sN<|qS<|gU Z<|sM Z<|sV (.ptr 32 0)<|sL Z<|sF h ?_ ?_<;>intro h
 ·refine sN<|cT<|WC.rC Z Z<|sV (.ptr 32 2)<|sL Z<|bE h fun x8 h8 h=>WO.cutL (sz:=1) (g:=PD.str) h8 (fun _=>Z) Z Z Z Z Z Z Z Z Z Z Z<|sV (.ptr 32 1)<|sL Z<|sV (rI (rW (a0.bJ+(1:Int))))<|sV (.ptr 32 2)<|sS 32 (.var [rI a0.c8,rI a0.bJ,.d (.lst (x8.map PD.str))])<|sV (.ptr 32 1)<|sS 32 (.var [rI a0.c8,rI (rW (a0.bJ+(1:Int))),.d (.lst (x8.map PD.str))]) ?_
  refine sN<|sO<|gU Z<|sV (.d (aG.pd (aG.mk a0.c8 (rW (a0.bJ+(1:Int))) x8)))<|sM Z<|sS 64 (.var [rI a0.c8,rI (rW (a0.bJ+(1:Int))),.d (.lst (x8.map PD.str))])<|sA Z<|sV (r0)<|sN<|qR ?_
  exact oI h▸qD
 refine sN<|cF<|qK<|gU Z<|sV (.d (aG.pd (aG.mk a0.c8 a0.bJ x6)))<|sM Z<|sS 64 (.var [rI a0.c8,rI a0.bJ,.d (.lst (x6.map PD.str))])<|sA Z<|sV (r0)<|sN<|qR ?_
 exact oI h▸qD
theorem oL{a0:Int}{a1:Int}{a2:Int}{r:Bool}(h:jv a0 a1 a2=some r):EvP prog aV ext 233 [rI a0,rI a1,rI a2] [] (rB r,[]):=by
 refine Ev.body Z Tryz.func233 Z Zk<|gU Z<|sU<|sN<|gU Z<|mM Z<|sF h ?_ ?_<;>intro h
 ·refine mM Z<|sM Z<|sV (rB (decide (a0<=a2)))<|sV (rB (decide (a0<=a2)))<|sA Z<|sN<|qR ?_
  exact oI h▸qD
 refine sM Z<|k3<|sU<|sA Z<|sN<|qR ?_
 exact oI h▸qD
theorem bits_Put_ev{a0:(List UInt8)}{a1:Int}{a2:Int}{r:(List UInt8)×Int}(h:lS a0 a1 a2=some r):EvP prog aV ext 186 [rS a0,rI a1,rI a2] [] (.tup [rS r.1,rI r.2],[]):=by
 refine Ev.body Z Tryz.func186 Z Zk<|gU Z<|sV (rS [])<|sV (r0)<|sN<|qS<|gU Z<|sM Z<|bE h fun x1 h1 h=>cD (oL h1)<|sF h ?_ ?_<;>intro h
 ·refine sM Z<|k3<|k3<|sK<|sT<|sN<|cT<|gU Z<|sV (rS [])<|sV (rI 2)<|sN ?_
  refine qR ?_
  exact oI h▸qD
 refine mM Z<|sM Z<|sV (rI (rW ((8:Int)*a2)))<|bE h fun x3 h3 h=>WO.shlG h3 Z Z Z Z Z<|sV (rI (rW (x3-(1:Int))))<|bE h fun x4 h4 h=>cD (oL h4)<|sV (rB (!x4))<|sF h ?_ ?_<;>intro h
 ·refine sN<|cT<|gU Z<|sV (rS [])<|sV (rI 2)<|sN<|qR ?_
  exact oI h▸qD
 refine sN<|cF<|qK<|gU Z<|sM Z<|bE h fun b6 hb6 h=>WO.bytR hb6 Z Z Z Z Z Z Z Z Z<|sA Z<|sN<|qS<|gU Z<|sM Z<|sV (rI (rW (a2-(1:Int))))<|sA Z<|sN ?_
 refine bE h fun o15 ho15 h=>WC.block (WC.loop (WL.pJ ho15 (fun s=>gI 0 186 5 [(1,rI a1),(8,.ref 368 0),(9,rI s.1)] [(368,.arr 0 5 (s.2.map (PD.int .u8)))]) (fun o=>gX 0 0 186 8 [(8,.ref 368 0)] [(368,.arr 0 5 (o.map (PD.int .u8)))]) Z ?_ ?_))
 ·rintro⟨s7,s8⟩ R' B' q10 hI h
  refine qS<|gS Z hI<|sM Z<|sF h ?_ ?_<;>intro h
  ·refine sN<|cT<|qK<|qS<|qB<|WC.region Z Z<|mM Z<|sM Z<|sV (rI (rW ((8:Int)*s7)))<|bE h fun x12 h12 h=>WO.shrG h12 Z Z Z Z Z<|sV (.d (.int .u8 (IntKind.wrap .u8 x12)))<|sV (.d (.lst ([(IntKind.wrap .u8 x12)].map (PD.int .u8))))<|bE h fun x13 h13 h=>?_
   refine aR h13 (fun _=>Z) Z<|sA Z<|sN<|WC.region Z Z<|sM Z<|sV (rI (rW (s7-(1:Int))))<|sA Z<|sN ?_
   cases oI h
   exact⟨rfl,rfl⟩
  refine sN<|cF<|qX ?_
  cases oI h
  exact⟨nofun,rfl,rfl⟩
 intro e R' B' he hq
 obtain⟨rfl,hI⟩:=hq
 refine qE<|gS Z hI<|sM Z<|WO.rowS Z Z Z Z Z Z Z Z<|sA Z<|sV (r0)<|sN<|qR ?_
 exact oI h▸qD
theorem hJ{a0:(List UInt8)}{a1:(List Int)}{r:(List UInt8)}(h:cd a0 a1=some r):EvP prog aV ext 121 [rS a0,rL a1] [] (rS r,[]):=by
 refine Ev.body Z Tryz.func121 Z Zk<|gU Z<|sV (rS [])<|sN<|qS<|gU Z<|sM Z<|sE (rI (a1.length:Int)) (oM _ _)<|sV (r0)<|sN<|bE h fun o9 ho9 h=>WC.block (WC.loop (WL.pJ ho9 (fun s=>gI 0 121 2 [(0,rS s.1),(7,rL a1),(8,rI (a1.length:Int)),(9,rI s.2)] []) (fun o=>gX 0 0 121 6 [(0,rS o)] []) Z ?_ ?_))
 ·rintro⟨s1,s2⟩ R' B' q4 hI h
  refine gS Z hI<|sF h ?_ ?_<;>intro h
  ·refine sN<|qS<|cT<|qK<|qS<|qB<|gU Z<|bE h fun x6 h6 h=>eG h6 Z<|sC Z<|sA Z<|sN<|WC.region Z Z<|sM Z<|sM Z ?_
   refine bE h fun x7 h7 h=>cR (.tup [rS x7.1,rI x7.2]) [] (bits_Put_ev h7)<|sM Z<|sV (rS x7.1)<|sV (rI x7.2)<|sA Z<|sN<|WC.region Z Z<|sV (rI (rW (s2+(1:Int))))<|sM Z<|sN ?_
   cases oI h
   exact⟨rfl,rfl⟩
  refine sN<|qS<|cF<|qX ?_
  cases oI h
  exact⟨nofun,rfl,rfl⟩
 intro e R' B' he hq
 obtain⟨rfl,hI⟩:=hq
 refine qE<|gS Z hI<|sM Z<|sA Z<|sN<|qR ?_
 exact oI h▸qD
theorem crc_table_ev{r:(List Int)}(h:lV=some r):EvP prog aV ext 262 [] [] (.d (.agg (r.map (PD.int .i64))),[]):=by
 refine Ev.body Z Tryz.func262 Z Zk<|gU Z<|WO.s1 (rd:=[0]) (v:= .ptr 0 0) (id:=0) (bx:= .var ((List.replicate 256 (0:Int)).map (cI .i64))) Z Z (by intro _;kernel_rfl)<|sN<|gU Z<|WO.s1 (rd:=[16]) (v:= .ptr 16 0) (id:=16) (bx:= .var ((List.replicate 256 (0:Int)).map (cI .i64))) Z Z (by intro _;kernel_rfl)<|sN<|qS<|gU Z<|sV (r0)<|sN<|bE h fun o33 ho33 h=>WC.block (WC.loop (WL.pJ ho33 (fun s=>gI 0 262 3 [(0,.ptr 0 0),(1,.ptr 16 0),(5,rI s.1)] [(0,.var ((List.replicate 256 (0:Int)).map (cI .i64))),(16,.var (s.2.map (cI .i64)))]) (fun o=>gX 0 0 262 15 [(0,.ptr 0 0),(1,.ptr 16 0)] [(0,.var ((List.replicate 256 (0:Int)).map (cI .i64))),(16,.var (o.map (cI .i64)))]) (qT (B1:=[]) (qT (B1:=[_]) Z (fun _=>Z)) (fun _=>Z)) ?_ ?_))
 ·rintro⟨s1,s2⟩ R' B' q4 hI h
  refine gS Z hI<|sF h ?_ ?_<;>intro h
  ·refine sN<|qS<|cT<|qK<|qS<|qB<|gU Z<|sM Z<|sA Z<|sN<|gU Z<|sM Z<|sA Z<|sN<|qS ?_
   refine gU Z<|sV (r0)<|sN<|WC.block (WC.loop ?_)
   refine WL.round<|gU Z<|sT<|sN<|qS<|cT<|qK<|WC.join (α:=Int) (fun x R' B'=>p6 prog 0 (A R' B') (aV.at_ 262 0 12)=some (A [(0,.ptr 0 0),(1,.ptr 16 0),(2,rI s1),(3,rI x),(5,rI s1),(9,r0)] [(0,.var ((List.replicate 256 (0:Int)).map (cI .i64))),(16,.var (s2.map (cI .i64)))])) (fun x=>lF s1 s2 x=some q4) ?_ ?_
   ·refine qB<|gU Z<|sM Z<|sV (rI (sQ .i64 s1 (1:Int)))<|sA Z<|sN<|gU Z<|sM Z<|sV (rI (pY .i64 s1 (1:Int)))<|sA Z<|sN<|gU Z<|sM Z<|sF h ?_ ?_<;>intro h
    ·exact sN<|cT<|WC.region rfl rfl<|sM rfl<|sV (rI (qV .i64 (pY .i64 s1 (1:Int)) (3988292384:Int)))<|sA rfl<|sN<|⟨(qV .i64 (pY .i64 s1 (1:Int)) (3988292384:Int)),(qT (B1:=[]) (qT (B1:=[_]) rfl (fun _=>rfl)) (fun _=>rfl)),h⟩
    exact sN<|cF<|qK<|⟨(pY .i64 s1 (1:Int)),(qT (B1:=[]) (qT (B1:=[_]) rfl (fun _=>rfl)) (fun _=>rfl)),h⟩
   rintro j6 R' B' hI h
   refine WC.region hI Z<|sV (rI 1)<|sM Z<|sN<|WL.round<|gU Z<|sT<|sN<|qS<|cT<|qK<|WC.join (α:=Int) (fun x R' B'=>p6 prog 0 (A R' B') (aV.at_ 262 0 12)=some (A [(0,.ptr 0 0),(1,.ptr 16 0),(2,rI s1),(3,rI x),(5,rI s1),(9,rI 1)] [(0,.var ((List.replicate 256 (0:Int)).map (cI .i64))),(16,.var (s2.map (cI .i64)))])) (fun x=>lE s1 s2 x=some q4) ?_ ?_
   ·refine qB<|gU Z<|sM Z<|sV (rI (sQ .i64 j6 (1:Int)))<|sA Z<|sN<|gU Z<|sM Z<|sV (rI (pY .i64 j6 (1:Int)))<|sA Z<|sN<|gU Z<|sM Z<|sF h ?_ ?_<;>intro h
    ·exact sN<|cT<|WC.region rfl rfl<|sM rfl<|sV (rI (qV .i64 (pY .i64 j6 (1:Int)) (3988292384:Int)))<|sA rfl<|sN<|⟨(qV .i64 (pY .i64 j6 (1:Int)) (3988292384:Int)),(qT (B1:=[]) (qT (B1:=[_]) rfl (fun _=>rfl)) (fun _=>rfl)),h⟩
    exact sN<|cF<|qK<|⟨(pY .i64 j6 (1:Int)),(qT (B1:=[]) (qT (B1:=[_]) rfl (fun _=>rfl)) (fun _=>rfl)),h⟩
   rintro j7 R' B' hI h
   refine WC.region hI Z<|sV (rI 2)<|sM Z<|sN<|WL.round<|gU Z<|sT<|sN<|qS<|cT<|qK<|WC.join (α:=Int) (fun x R' B'=>p6 prog 0 (A R' B') (aV.at_ 262 0 12)=some (A [(0,.ptr 0 0),(1,.ptr 16 0),(2,rI s1),(3,rI x),(5,rI s1),(9,rI 2)] [(0,.var ((List.replicate 256 (0:Int)).map (cI .i64))),(16,.var (s2.map (cI .i64)))])) (fun x=>lD s1 s2 x=some q4) ?_ ?_
   ·refine qB<|gU Z<|sM Z<|sV (rI (sQ .i64 j7 (1:Int)))<|sA Z<|sN<|gU Z<|sM Z<|sV (rI (pY .i64 j7 (1:Int)))<|sA Z<|sN<|gU Z<|sM Z<|sF h ?_ ?_<;>intro h
    ·exact sN<|cT<|WC.region rfl rfl<|sM rfl<|sV (rI (qV .i64 (pY .i64 j7 (1:Int)) (3988292384:Int)))<|sA rfl<|sN<|⟨(qV .i64 (pY .i64 j7 (1:Int)) (3988292384:Int)),(qT (B1:=[]) (qT (B1:=[_]) rfl (fun _=>rfl)) (fun _=>rfl)),h⟩
    exact sN<|cF<|qK<|⟨(pY .i64 j7 (1:Int)),(qT (B1:=[]) (qT (B1:=[_]) rfl (fun _=>rfl)) (fun _=>rfl)),h⟩
   rintro j8 R' B' hI h
   refine WC.region hI Z<|sV (rI 3)<|sM Z<|sN<|WL.round<|gU Z<|sT<|sN<|qS<|cT<|qK<|WC.join (α:=Int) (fun x R' B'=>p6 prog 0 (A R' B') (aV.at_ 262 0 12)=some (A [(0,.ptr 0 0),(1,.ptr 16 0),(2,rI s1),(3,rI x),(5,rI s1),(9,rI 3)] [(0,.var ((List.replicate 256 (0:Int)).map (cI .i64))),(16,.var (s2.map (cI .i64)))])) (fun x=>lC s1 s2 x=some q4) ?_ ?_
   ·refine qB<|gU Z<|sM Z<|sV (rI (sQ .i64 j8 (1:Int)))<|sA Z<|sN<|gU Z<|sM Z<|sV (rI (pY .i64 j8 (1:Int)))<|sA Z<|sN<|gU Z<|sM Z<|sF h ?_ ?_<;>intro h
    ·exact sN<|cT<|WC.region rfl rfl<|sM rfl<|sV (rI (qV .i64 (pY .i64 j8 (1:Int)) (3988292384:Int)))<|sA rfl<|sN<|⟨(qV .i64 (pY .i64 j8 (1:Int)) (3988292384:Int)),(qT (B1:=[]) (qT (B1:=[_]) rfl (fun _=>rfl)) (fun _=>rfl)),h⟩
    exact sN<|cF<|qK<|⟨(pY .i64 j8 (1:Int)),(qT (B1:=[]) (qT (B1:=[_]) rfl (fun _=>rfl)) (fun _=>rfl)),h⟩
   rintro j9 R' B' hI h
   refine WC.region hI Z<|sV (rI 4)<|sM Z<|sN<|WL.round<|gU Z<|sT<|sN<|qS<|cT<|qK<|WC.join (α:=Int) (fun x R' B'=>p6 prog 0 (A R' B') (aV.at_ 262 0 12)=some (A [(0,.ptr 0 0),(1,.ptr 16 0),(2,rI s1),(3,rI x),(5,rI s1),(9,rI 4)] [(0,.var ((List.replicate 256 (0:Int)).map (cI .i64))),(16,.var (s2.map (cI .i64)))])) (fun x=>lB s1 s2 x=some q4) ?_ ?_
   ·refine qB<|gU Z<|sM Z<|sV (rI (sQ .i64 j9 (1:Int)))<|sA Z<|sN<|gU Z<|sM Z<|sV (rI (pY .i64 j9 (1:Int)))<|sA Z<|sN<|gU Z<|sM Z<|sF h ?_ ?_<;>intro h
    ·exact sN<|cT<|WC.region rfl rfl<|sM rfl<|sV (rI (qV .i64 (pY .i64 j9 (1:Int)) (3988292384:Int)))<|sA rfl<|sN<|⟨(qV .i64 (pY .i64 j9 (1:Int)) (3988292384:Int)),(qT (B1:=[]) (qT (B1:=[_]) rfl (fun _=>rfl)) (fun _=>rfl)),h⟩
    exact sN<|cF<|qK<|⟨(pY .i64 j9 (1:Int)),(qT (B1:=[]) (qT (B1:=[_]) rfl (fun _=>rfl)) (fun _=>rfl)),h⟩
   rintro j10 R' B' hI h
   refine WC.region hI Z<|sV (rI 5)<|sM Z<|sN<|WL.round<|gU Z<|sT<|sN<|qS<|cT<|qK<|WC.join (α:=Int) (fun x R' B'=>p6 prog 0 (A R' B') (aV.at_ 262 0 12)=some (A [(0,.ptr 0 0),(1,.ptr 16 0),(2,rI s1),(3,rI x),(5,rI s1),(9,rI 5)] [(0,.var ((List.replicate 256 (0:Int)).map (cI .i64))),(16,.var (s2.map (cI .i64)))])) (fun x=>lA s1 s2 x=some q4) ?_ ?_
   ·refine qB<|gU Z<|sM Z<|sV (rI (sQ .i64 j10 (1:Int)))<|sA Z<|sN<|gU Z<|sM Z<|sV (rI (pY .i64 j10 (1:Int)))<|sA Z<|sN<|gU Z<|sM Z<|sF h ?_ ?_<;>intro h
    ·exact sN<|cT<|WC.region rfl rfl<|sM rfl<|sV (rI (qV .i64 (pY .i64 j10 (1:Int)) (3988292384:Int)))<|sA rfl<|sN<|⟨(qV .i64 (pY .i64 j10 (1:Int)) (3988292384:Int)),(qT (B1:=[]) (qT (B1:=[_]) rfl (fun _=>rfl)) (fun _=>rfl)),h⟩
    exact sN<|cF<|qK<|⟨(pY .i64 j10 (1:Int)),(qT (B1:=[]) (qT (B1:=[_]) rfl (fun _=>rfl)) (fun _=>rfl)),h⟩
   rintro j11 R' B' hI h
   refine WC.region hI Z<|sV (rI 6)<|sM Z<|sN<|WL.round<|gU Z<|sT<|sN<|qS<|cT<|qK<|WC.join (α:=Int) (fun x R' B'=>p6 prog 0 (A R' B') (aV.at_ 262 0 12)=some (A [(0,.ptr 0 0),(1,.ptr 16 0),(2,rI s1),(3,rI x),(5,rI s1),(9,rI 6)] [(0,.var ((List.replicate 256 (0:Int)).map (cI .i64))),(16,.var (s2.map (cI .i64)))])) (fun x=>lz s1 s2 x=some q4) ?_ ?_
   ·refine qB<|gU Z<|sM Z<|sV (rI (sQ .i64 j11 (1:Int)))<|sA Z<|sN<|gU Z<|sM Z<|sV (rI (pY .i64 j11 (1:Int)))<|sA Z<|sN<|gU Z<|sM Z<|sF h ?_ ?_<;>intro h
    ·exact sN<|cT<|WC.region rfl rfl<|sM rfl<|sV (rI (qV .i64 (pY .i64 j11 (1:Int)) (3988292384:Int)))<|sA rfl<|sN<|⟨(qV .i64 (pY .i64 j11 (1:Int)) (3988292384:Int)),(qT (B1:=[]) (qT (B1:=[_]) rfl (fun _=>rfl)) (fun _=>rfl)),h⟩
    exact sN<|cF<|qK<|⟨(pY .i64 j11 (1:Int)),(qT (B1:=[]) (qT (B1:=[_]) rfl (fun _=>rfl)) (fun _=>rfl)),h⟩
   rintro j12 R' B' hI h
   refine WC.region hI Z<|sV (rI 7)<|sM Z<|sN<|WL.round<|gU Z<|sT<|sN<|qS<|cT<|qK<|WC.join (α:=Int) (fun x R' B'=>p6 prog 0 (A R' B') (aV.at_ 262 0 12)=some (A [(0,.ptr 0 0),(1,.ptr 16 0),(2,rI s1),(3,rI x),(5,rI s1),(9,rI 7)] [(0,.var ((List.replicate 256 (0:Int)).map (cI .i64))),(16,.var (s2.map (cI .i64)))])) (fun x=>ly s1 s2 x=some q4) ?_ ?_
   ·refine qB<|gU Z<|sM Z<|sV (rI (sQ .i64 j12 (1:Int)))<|sA Z<|sN<|gU Z<|sM Z<|sV (rI (pY .i64 j12 (1:Int)))<|sA Z<|sN<|gU Z<|sM Z<|sF h ?_ ?_<;>intro h
    ·exact sN<|cT<|WC.region rfl rfl<|sM rfl<|sV (rI (qV .i64 (pY .i64 j12 (1:Int)) (3988292384:Int)))<|sA rfl<|sN<|⟨(qV .i64 (pY .i64 j12 (1:Int)) (3988292384:Int)),(qT (B1:=[]) (qT (B1:=[_]) rfl (fun _=>rfl)) (fun _=>rfl)),h⟩
    exact sN<|cF<|qK<|⟨(pY .i64 j12 (1:Int)),(qT (B1:=[]) (qT (B1:=[_]) rfl (fun _=>rfl)) (fun _=>rfl)),h⟩
   rintro j13 R' B' hI h
   refine WC.region hI Z<|sV (rI 8)<|sM Z<|sN<|WL.round<|gU Z<|sU<|sN<|qS<|cF<|qX<|qE<|WC.region Z Z<|sM Z<|sM Z ?_
   refine bE h fun x14 h14 h=>WO.tabE h14 Z Z Z Z Z Z Z Z<|bE h fun x15 h15 h=>WO.tabS h15 Z Z Z Z Z Z Z<|sN<|WC.region Z Z<|sV (rI (rW (s1+(1:Int))))<|sM Z<|sN ?_
   cases oI h
   exact⟨rfl,(qT (B1:=[]) (qT (B1:=[_]) rfl (fun _=>rfl)) (fun _=>rfl))⟩
  refine sN<|qS<|cF<|qX ?_
  cases oI h
  exact⟨nofun,rfl,(qT (B1:=[]) (qT (B1:=[_]) rfl (fun _=>rfl)) (fun _=>rfl))⟩
 intro e R' B' he hq
 obtain⟨rfl,hI⟩:=hq
 refine qE<|gS Z hI<|bE h fun x34 h34 h=>WO.tabW h34 Z Z Z Z Z Z<|bE h fun x37 h37 h=>bE h fun x35 h35 h=>WO.tabP h37 h35 Z Z Z Z Z Z Z<|sN<|qR<|bE h fun x36 h36 h=>?_
 cases oI h
 exact WC.done rfl (AZ h36 rfl rfl rfl rfl rfl) rfl
theorem crc_Update_ev{a0:Int}{a1:(List UInt8)}{r:Int}(h:mB a0 a1=some r):EvP prog aV ext 232 [rI a0,rS a1] [] (rI r,[]):=by
 refine Ev.body Z Tryz.func232 Z Zk<|gU Z<|sV (r0)<|sN<|qS<|gU Z<|sM Z<|sF h ?_ ?_<;>intro h
 ·refine sM Z<|sK<|sK<|sT<|sN<|cT<|gU Z<|sV (r0)<|sN<|qR ?_
  exact oI h▸qD
 refine mM Z<|sV (rB (decide (a0>(4294967295:Int))))<|sF h ?_ ?_<;>intro h
 ·refine sN<|cT<|gU Z<|sV (r0)<|sN<|qR ?_
  exact oI h▸qD
 refine sN<|cF<|qK<|gU Z<|bE h fun x3 h3 h=>cD (crc_table_ev h3)<|WO.s1 (rd:=[80]) (v:= .ptr 80 0) (id:=80) (bx:= .var ((List.replicate 256 (0:Int)).map (cI .i64))) Z Z (by intro _;kernel_rfl)<|bE h fun x15 h15 h=>bE h fun x4 h4 h=>WO.tabP h15 h4 Z Z Z Z Z Z Z<|sN<|gU Z<|sM Z<|sV (rI (qV .i64 a0 (4294967295:Int)))<|sA Z ?_
 refine sN<|qS<|gU Z<|sM Z<|sV (rI (a1.length:Int))<|sV (r0)<|sN<|bE h fun o14 ho14 h=>WC.block (WC.loop (WL.pJ ho14 (fun s=>gI 0 232 6 [(1,rS a1),(5,.ptr 80 0),(6,rI s.1),(18,rI (a1.length:Int)),(19,rI s.2)] [(80,.var (x4.map (cI .i64)))]) (fun o=>gX 0 0 232 10 [(6,rI o)] []) (qT (B1:=[]) Z (fun _=>Z)) ?_ ?_))
 ·rintro⟨s5,s6⟩ R' B' q8 hI h
  refine gS Z hI<|sF h ?_ ?_<;>intro h
  ·refine sN<|qS<|cT<|qK<|qS<|qB<|gU Z<|sM Z<|sA Z<|sN<|WC.region Z Z<|sM Z<|sV (rI (pY .i64 s5 (8:Int)))<|sM Z<|sM Z ?_
   refine sM Z<|bE h fun x10 h10 h=>WO.byteG h10 Z Z Z Z Z Z<|sV (rI (IntKind.wrap .i64 x10))<|sV (rI (qV .i64 s5 (IntKind.wrap .i64 x10)))<|sV (rI (sQ .i64 (qV .i64 s5 (IntKind.wrap .i64 x10)) (255:Int)))<|bE h fun x11 h11 h=>WO.tabE h11 Z Z Z Z Z Z Z Z<|bE h fun x12 h12 h=>WO.tabL h12 Z Z Z Z Z Z<|sV (rI (qV .i64 (pY .i64 s5 (8:Int)) x12))<|sA Z<|sN<|WC.region Z Z<|sV (rI (rW (s6+(1:Int)))) ?_
   refine sM Z<|sN ?_
   cases oI h
   exact⟨rfl,(qT (B1:=[]) rfl (fun _=>rfl))⟩
  refine sN<|qS<|cF<|qX ?_
  cases oI h
  exact⟨nofun,rfl,rfl⟩
 intro e R' B' he hq
 obtain⟨rfl,hI⟩:=hq
 refine qE<|gS Z hI<|sM Z<|sV (rI (qV .i64 o14 (4294967295:Int)))<|sA Z<|sN<|qR ?_
 exact oI h▸qD
theorem crc_Sum_ev{a0:(List UInt8)}{r:Int}(h:crc_Sum a0=some r):EvP prog aV ext 185 [rS a0] [] (rI r,[]):=by
 refine Ev.body Z Tryz.func185 Z Zk<|gU Z<|sV (r0)<|sN<|gU Z<|sM Z<|bE h fun x1 h1 h=>cD (crc_Update_ev h1)<|sA Z<|sN<|qR ?_
 exact oI h▸qD
theorem jw{a0:(List UInt8)}{r:(List UInt8)}(h:eS a0=some r):EvP prog aV ext 120 [rS a0] [] (rS r,[]):=by
 refine Ev.body Z Tryz.func120 Z Zk<|gU Z<|sV (rS [])<|sN<|gU Z<|sM Z<|bE h fun x1 h1 h=>cD (crc_Sum_ev h1)<|sA Z<|sN<|gU Z<|mM Z<|sV (.d (.int .u8 (IntKind.wrap .u8 x1)))<|sM Z ?_
 refine sV (rI (pY .i64 x1 (8:Int)))<|sV (.d (.int .u8 (IntKind.wrap .u8 (pY .i64 x1 (8:Int)))))<|sM Z<|sV (rI (pY .i64 x1 (16:Int)))<|sV (.d (.int .u8 (IntKind.wrap .u8 (pY .i64 x1 (16:Int)))))<|sM Z<|sV (rI (pY .i64 x1 (24:Int)))<|sV (.d (.int .u8 (IntKind.wrap .u8 (pY .i64 x1 (24:Int)))))<|sV (.d (.lst ([(IntKind.wrap .u8 x1),(IntKind.wrap .u8 (pY .i64 x1 (8:Int))),(IntKind.wrap .u8 (pY .i64 x1 (16:Int))),(IntKind.wrap .u8 (pY .i64 x1 (24:Int)))].map (PD.int .u8))))<|WO.vH Z Z Z Z Z Z Z<|bE h fun x2 h2 h=>WO.catG h2 Z Z Z Z Z<|sA Z<|sN<|qR ?_
 exact oI h▸qD
theorem nd{a0:Int}{a1:Int}{a2:(List UInt8)}{r:(List UInt8)×Int}(h:iI a0 a1 a2=some r):EvP prog aV ext 59 [rI a0,rI a1,rS a2] [] (.tup [rS r.1,rI r.2],[]):=by
 refine Ev.body Z Tryz.func59 Z Zk<|gU Z<|sV (rS [])<|sV (r0)<|sN<|qS<|gU Z<|sM Z<|bE h fun x1 h1 h=>cD (cx h1)<|sF h ?_ ?_<;>intro h
 ·refine sM Z<|k3<|sT<|sN<|cT<|gU Z<|sV (rS [])<|sV (rI 2)<|sN<|qR ?_
  exact oI h▸qD
 refine mM Z<|bE h fun x3 h3 h=>cD (cx h3)<|sV (rB (!x3))<|sF h ?_ ?_<;>intro h
 ·refine sN<|cT<|gU Z<|sV (rS [])<|sV (rI 2)<|sN<|qR ?_
  exact oI h▸qD
 refine sN<|cF<|qK<|gU Z<|mM Z<|sV (.d (.lst ([a0,a1].map (PD.int .i64))))<|bE h fun x5 h5 h=>cD (hJ h5)<|sM Z<|bE h fun x6 h6 h=>WO.catG h6 Z Z Z Z Z<|bE h fun x7 h7 h=>cD (jw h7)<|sA Z ?_
 refine sN<|qS<|gU Z<|sM Z<|sV (rI (x7.length:Int))<|sF h ?_ ?_<;>intro h
 ·refine sN<|cT<|gU Z<|sV (rS [])<|sV (rI 8)<|sN<|qR ?_
  exact oI h▸qD
 refine sN<|cF<|qK<|gU Z<|sM Z<|sA Z<|sV (r0)<|sN<|qR ?_
 exact oI h▸qD
theorem fE{a1:ak}{d0:(List ak)}{r:Int×Bool×(List ak)}(h:bM a1 d0=some r):EvP prog aV ext 122 [.ref 0 0,.d (ak.pd a1),.d (.raw (.func (.func 123) #[] #[]))] [.arr 0 210 (d0.map ak.pd)] (.tup [rI r.1,rB r.2.1],[.arr 0 210 (r.2.2.map ak.pd)]):=by
 refine Ev.body Z Tryz.func122 Z Zk<|gU Z<|sB (.ptr 64 0) 64 (.var (ak.rc a1))<|sV (r0)<|sU<|sN<|gU Z<|sM Z<|WO.tD Z Z Z Z Z Z Z Z Z<|sA Z<|sN<|gU Z<|sM Z<|sV (r0)<|sA Z ?_
 refine sN<|qS<|bE h fun o12 ho12 h=>WC.block (WC.loop (WL.pJ ho12 (fun s=>gI 1 122 3 [(0,.ref 0 0),(2,.d (.raw (.func (.func 123) #[] #[]))),(4,.ptr 64 0),(8,rI (d0.length:Int)),(9,rI s.1),(10,rI s.2)] [(0,.arr 0 210 (d0.map ak.pd)),(64,.var (ak.rc a1))]) (fun o=>gX 0 1 122 8 [(0,.ref 0 0),(2,.d (.raw (.func (.func 123) #[] #[]))),(4,.ptr 64 0),(8,rI (d0.length:Int)),(9,rI o)] [(0,.arr 0 210 (d0.map ak.pd)),(64,.var (ak.rc a1))]) Z ?_ ?_))
 ·rintro⟨s1,s2⟩ R' B' q4 hI h
  refine qS<|gS Z hI<|mM Z<|sF h ?_ ?_<;>intro h
  ·refine sN<|cT<|qK<|qB<|gU Z<|mM Z<|sV (rI (rW (s1+s2)))<|sV (.d (.int .u64 (IntKind.wrap .u64 (rW (s1+s2)))))<|sV (.d (.int .u64 (pY .u64 (IntKind.wrap .u64 (rW (s1+s2))) (1:Int))))<|sV (rI (rW (pY .u64 (IntKind.wrap .u64 (rW (s1+s2))) (1:Int))))<|sA Z<|sN<|WC.lU Z Z<|sM Z ?_
   refine mM Z<|bE h fun x7 h7 h=>WO.tz h7 Z Z Z Z Z Z Z Z<|bE h fun x8 h8 h=>WO.sn h8 Z Z Z Z Z Z<|sV (.d (ak.pd a1))<|bE h fun x9 h9 h=>cD (lK h9)<|sF h ?_ ?_<;>intro h
   ·refine sN<|sO<|cT<|WC.region Z Z<|sM Z<|sV (rI (rW ((rW (pY .u64 (IntKind.wrap .u64 (rW (s1+s2))) (1:Int)))+(1:Int))))<|sA Z<|sN ?_
    cases oI h
    exact⟨rfl,rfl⟩
   refine sN<|sO<|cF<|WC.region Z Z<|sM Z<|sA Z<|sN ?_
   cases oI h
   exact⟨rfl,rfl⟩
  refine sN<|cF<|qX ?_
  cases oI h
  exact⟨nofun,rfl,rfl⟩
 intro e R' B' he hq
 obtain⟨rfl,hI⟩:=hq
 refine qE<|WC.lU hI Z<|mM Z<|sM Z<|sF h ?_ ?_<;>intro h
 ·refine mM Z<|mM Z<|bE h fun x15 h15 h=>WO.tz h15 Z Z Z Z Z Z Z Z<|bE h fun x16 h16 h=>WO.sn h16 Z Z Z Z Z Z<|sV (.d (ak.pd a1))<|bE h fun x17 h17 h=>cD (lK h17)<|sV (rB (x17==(0:Int)))<|sV (rB (x17==(0:Int)))<|sA Z<|sA Z ?_
  refine sN<|sO<|qR ?_
  exact oI h▸qD
 refine sM Z<|k3<|k3<|sK<|sK<|sU<|sA Z<|sA Z ?_
 refine sN<|sO<|qR ?_
 exact oI h▸qD
theorem mE{a0:aC}{a1:(List UInt8)}{a2:am}{r:aC×Int}(h:kz a0 a1 a2=some r):EvP prog aV ext 60 [.d (aC.pd a0),rS a1,.d (am.pd a2)] [] (.tup [.d (aC.pd r.1),rI r.2],[]):=by
 refine Ev.body Z Tryz.func60 Z Zk<|gU Z<|sB (.ptr 48 0) 48 (.var (aC.rc a0))<|sB (.ptr 80 0) 80 (.var (am.rc a2))<|sB (.ptr 96 0) 96 (.var [r0,r0,.mo])<|sV (r0)<|sN<|qS<|gU Z<|sV (.d (aC.pd a0))<|bE h fun x1 h1 h=>cD (jy h1)<|sF h ?_ ?_<;>intro h
 ·refine sM Z<|k3<|sT<|sN<|cT<|gU Z<|sV (.agg [r0,r0,.mo])<|sS 96 (.var [r0,r0,.mo])<|sV (rI 1)<|sN<|qR ?_
  exact oI h▸qD
 refine sM Z<|sV (.d (am.pd a2))<|bE h fun x3 h3 h=>cD (gW h3)<|sV (rB (!x3))<|sF h ?_ ?_<;>intro h
 ·refine sN<|cT<|gU Z<|sV (.agg [r0,r0,.mo])<|sS 96 (.var [r0,r0,.mo])<|sV (rI 1)<|sN<|qR ?_
  exact oI h▸qD
 refine sN<|cF<|qK<|gU Z<|sV (.ptr 80 2)<|sL Z<|sV (rI (rW ((1:Int)+a2.kf)))<|sA Z<|sN<|WC.join (α:=Int) (fun x R' B'=>p6 prog 0 (A R' B') (aV.at_ 60 0 6)=some (A [(1,rS a1),(3,.ptr 48 0),(5,.ptr 80 0),(6,.ptr 96 0),(8,rI x)] [(48,.var (aC.rc a0)),(80,.var (am.rc a2)),(96,.var [r0,r0,.mo])])) (fun x=>gz a1 a0 a2 x=some r) ?_ ?_
 ·refine gU Z<|sV (.ptr 80 0)<|sF h ?_ ?_<;>intro h
  ·exact sN<|cT<|WC.region rfl rfl<|sV (r0)<|sN<|⟨0,rfl,h⟩
  exact sN<|cF<|qK<|⟨(rW ((1:Int)+a2.kf)),rfl,h⟩
 rintro j5 R' B' hI h
 refine qS<|gS Z hI<|sM Z<|sV (rI (a1.length:Int))<|sF h ?_ ?_<;>intro h
 ·refine sM Z<|k3<|sT<|sM Z<|k3<|k3<|sT<|sN<|cT ?_
  refine gU Z<|sV (.agg [r0,r0,.mo])<|sS 96 (.var [r0,r0,.mo])<|sV (rI 8)<|sN<|qR ?_
  exact oI h▸qD
 refine sM Z<|sV (.ptr 48 1)<|sL Z<|sV (rB (a0.ba==(1099511627776:Int)))<|sF h ?_ ?_<;>intro h
 ·refine sM Z<|k3<|k3<|sT<|sN<|cT<|gU Z<|sV (.agg [r0,r0,.mo])<|sS 96 (.var [r0,r0,.mo])<|sV (rI 8)<|sN ?_
  refine qR ?_
  exact oI h▸qD
 refine sM Z<|sV (.ptr 48 2)<|sL Z<|sE (rI (a0.bq.length:Int)) (oM _ _)<|sM Z<|sV (rI (rW ((a0.bq.length:Int)+j5)))<|sV (rB (decide ((rW ((a0.bq.length:Int)+j5))>(1024:Int))))<|sF h ?_ ?_<;>intro h
 ·refine sN<|cT<|gU Z<|sV (.agg [r0,r0,.mo])<|sS 96 (.var [r0,r0,.mo])<|sV (rI 8)<|sN<|qR ?_
  exact oI h▸qD
 refine sN<|cF<|qK<|gU Z<|sV (.ptr 48 2)<|sL Z<|bE h fun x9 h9 h=>cR (.ref 736 0) [(736,.arr 0 210 (x9.map ak.pd))] (oc h9)<|sV (.ptr 48 2)<|sS 48 (.var [rI a0.bt,rI a0.ba,.ref 736 0])<|sN<|qS<|gU Z<|sM Z<|sV (r0) ?_
 refine sN<|bE h fun o18 ho18 h=>WC.block (WC.loop (WL.pJ ho18 (fun s=>gI 0 60 10 [(1,rS a1),(3,.ptr 48 0),(5,.ptr 80 0),(6,.ptr 96 0),(48,rI j5),(49,rI s.1)] [(48,.var [rI a0.bt,rI a0.ba,.ref 736 0]),(80,.var (am.rc a2)),(96,.var [r0,r0,.mo]),(736,.arr 0 210 (s.2.map ak.pd))]) (fun o=>gX 0 0 60 16 [(3,.ptr 48 0),(6,.ptr 96 0)] [(48,.var [rI a0.bt,rI a0.ba,.ref 736 0]),(96,.var [r0,r0,.mo]),(736,.arr 0 210 (o.map ak.pd))]) Z ?_ ?_))
 ·rintro⟨s10,s11⟩ R' B' q13 hI h
  refine gS Z hI<|sF h ?_ ?_<;>intro h
  ·refine sN<|qS<|cT<|qK<|qS<|qB<|gU Z<|sM Z<|sA Z<|sN<|gU Z<|sV (.ptr 48 0)<|sL Z<|sV (rI (rW (a0.bt+(1:Int))))<|sV (.ptr 80 1) ?_
   refine sL Z<|sV (rI (rW ((rW (a0.bt+(1:Int)))+a2.eT)))<|sM Z<|sV (rI (rW ((rW ((rW (a0.bt+(1:Int)))+a2.eT))+s10)))<|sV (.ptr 48 1)<|sL Z<|sM Z<|sV (.d (ak.pd (ak.mk (rW ((rW ((rW (a0.bt+(1:Int)))+a2.eT))+s10)) a0.ba a1)))<|sB (.ptr 160 0) 160 (.var [r0,r0,rS []])<|sS 160 (.var [rI (rW ((rW ((rW (a0.bt+(1:Int)))+a2.eT))+s10)),rI a0.ba,rS a1])<|sN<|gU Z<|sV (.ptr 48 2)<|sL Z<|sV (.d (ak.pd (ak.mk (rW ((rW ((rW (a0.bt+(1:Int)))+a2.eT))+s10)) a0.ba a1))) ?_
   refine bE h fun x15 h15 h=>cR (.tup [rI x15.1,rB x15.2.1]) [(736,.arr 0 210 (x15.2.2.map ak.pd))] (fE h15)<|sM Z<|sV (rI x15.1)<|sV (rB x15.2.1)<|sA Z<|sA Z<|sN<|WC.region Z Z<|sV (.ptr 48 2)<|sL Z<|sM Z<|sV (.d (ak.pd (ak.mk (rW ((rW ((rW (a0.bt+(1:Int)))+a2.eT))+s10)) a0.ba a1)))<|sB (.ref 1200 0) 1200 (.arr 0 210 ([(ak.mk (rW ((rW ((rW (a0.bt+(1:Int)))+a2.eT))+s10)) a0.ba a1)].map ak.pd))<|bE h fun x16 h16 h=>?_
   refine cR (.ref 736 1) [(736,.arr 1 210 (x16.map ak.pd)),(1200,.dead)] (insert_124 h16)<|sV (.ptr 48 2)<|sS 48 (.var [rI a0.bt,rI a0.ba,.ref 736 1])<|sN<|WC.region Z Z<|sV (rI (rW (s10+(1:Int))))<|sM Z<|sN ?_
   cases oI h
   exact⟨rfl,rfl⟩
  refine sN<|qS<|cF<|qX ?_
  cases oI h
  exact⟨nofun,rfl,rfl⟩
 intro e R' B' he hq
 obtain⟨rfl,hI⟩:=hq
 refine qE<|gS Z hI<|sV (.ptr 48 1)<|sL Z<|sV (rI (rW (a0.ba+(1:Int))))<|sV (.ptr 48 1)<|sS 48 (.var [rI a0.bt,rI (rW (a0.ba+(1:Int))),.ref 736 0])<|sN<|gU Z<|sV (.agg [rI a0.bt,rI (rW (a0.ba+(1:Int))),.ref 736 0])<|sS 96 (.var [rI a0.bt,rI (rW (a0.ba+(1:Int))),.ref 736 0])<|sV (r0)<|sN<|qR ?_
 exact oI h▸qD
theorem session_Push_ev{a0:aK}{a1:(List UInt8)}{a2:am}{r:aK×Int×Int}(h:kr a0 a1 a2=some r):EvP prog aV ext 19 [.d (aK.pd a0),rS a1,.d (am.pd a2)] [] (.tup [.d (aK.pd r.1),rI r.2.1,rI r.2.2],[]):=by
 refine Ev.body Z Tryz.func19 Z Zk<|gU Z<|sB (.ptr 48 0) 48 (.var (aK.rc a0))<|sB (.ptr 80 0) 80 (.var (am.rc a2))<|sB (.ptr 96 0) 96 (.var zZ4)<|sV (r0)<|sV (r0)<|sN<|qS<|gU Z<|sV (.d (aK.pd a0))<|bE h fun x1 h1 h=>cD (mn h1)<|sF h ?_ ?_<;>intro h
 ·refine sM Z<|k3<|sT<|sN<|cT<|gU Z<|sG (.agg zZ4)<|sH 96 (.var zZ4)<|sV (r0)<|sV (rI 1)<|sN<|qR ?_
  cases oI h
  exact qG
 refine sM Z<|sV (.d (am.pd a2))<|bE h fun x3 h3 h=>cD (gW h3)<|sV (rB (!x3))<|sF h ?_ ?_<;>intro h
 ·refine sN<|cT<|gU Z<|sG (.agg zZ4)<|sH 96 (.var zZ4)<|sV (r0)<|sV (rI 1)<|sN<|qR ?_
  cases oI h
  exact qG
 refine sN<|cF<|qK<|gU Z<|sV (.d (aK.pd a0))<|bE h fun x5 h5 h=>cR (.agg (rI x5.bt::rI x5.br::rI x5.bY::aG.rc x5.bj++aw.rc x5.bo++aC.rc x5.bF++aC.rc x5.fUp++[.ref 384 0])) [(384,.arr 0 123 (x5.bp.map aB.pd))] (lp h5)<|sH 48 (.var (rI x5.bt::rI x5.br::rI x5.bY::aG.rc x5.bj++aw.rc x5.bo++aC.rc x5.bF++aC.rc x5.fUp++[.ref 384 0]))<|sN<|gU Z<|sV (.ptr 48 3)<|sV (.d (aG.pd x5.bj))<|sM Z<|bE h fun x6 h6 h=>cR (.tup [.d (aG.pd x6.1),rI x6.2.1,rI x6.2.2]) [] (sender_Push_ev h6) ?_
 refine sM Z<|sV (.d (aG.pd x6.1))<|sV (rI x6.2.1)<|sV (rI x6.2.2)<|sB (.ptr 144 0) 144 (.var [r0,r0,.mo])<|sS 144 (.var (aG.rc x6.1))<|sA Z<|sA Z<|sN<|qS<|gU Z<|sM Z<|sF h ?_ ?_<;>intro h
 ·refine sN<|cT<|gU Z<|sG (.agg zZ4)<|sM Z<|sH 96 (.var zZ4)<|sV (r0)<|sA Z<|sN<|qR ?_
  cases oI h
  exact qG
 refine sN<|cF<|qK<|gU Z<|sV (.d (aG.pd x6.1))<|sV (.ptr 48 3)<|sS 48 (.var (rI x5.bt::rI x5.br::rI x5.bY::aG.rc x6.1++aw.rc x5.bo++aC.rc x5.bF++aC.rc x5.fUp++[.ref 384 0]))<|sN<|gU Z<|sM Z<|sV (.ptr 144 1)<|sL Z<|sM Z<|bE h fun x8 h8 h=>cR (.tup [rS x8.1,rI x8.2]) [] (nd h8) ?_
 refine sM Z<|sV (rS x8.1)<|sV (rI x8.2)<|sA Z<|sA Z<|sN<|qS<|gU Z<|sV (.ptr 48 8)<|sV (.d (aC.pd x5.bF))<|sM Z<|sV (.d (am.pd a2))<|bE h fun x9 h9 h=>cR (.tup [.d (aC.pd x9.1),rI x9.2]) [] (mE h9)<|sM Z ?_
 refine sV (.d (aC.pd x9.1))<|sV (rI x9.2)<|sV (.ptr 48 8)<|sS 48 (.var (rI x5.bt::rI x5.br::rI x5.bY::aG.rc x6.1++aw.rc x5.bo++aC.rc x9.1++aC.rc x5.fUp++[.ref 384 0]))<|sA Z<|sN<|gU Z<|sM Z<|sF h ?_ ?_<;>intro h
 ·refine sN<|cT<|gU Z<|sG (.agg zZ4)<|sM Z<|sH 96 (.var zZ4)<|sV (r0)<|sA Z<|sN<|qR ?_
  cases oI h
  exact qG
 refine sN<|cF<|qK<|gU Z<|sV (.agg (rI x5.bt::rI x5.br::rI x5.bY::aG.rc x6.1++aw.rc x5.bo++aC.rc x9.1++aC.rc x5.fUp++[.ref 384 0]))<|sM Z<|sH 96 (.var (rI x5.bt::rI x5.br::rI x5.bY::aG.rc x6.1++aw.rc x5.bo++aC.rc x9.1++aC.rc x5.fUp++[.ref 384 0]))<|sA Z<|sV (r0)<|sN<|qR ?_
 cases oI h
 exact qG
theorem iw{a0:Int}{r:aj}(h:fr a0=some r):EvP prog aV ext 43 [rI a0] [] (.d (aj.pd r),[]):=by
 refine Ev.body Z Tryz.func43 Z Zk<|gU Z<|sB (.ptr 32 0) 32 (.var zZ0)<|sN<|gU Z<|bE h fun x1 h1 h=>cD (nz h1)<|sG (.d (ag.pd (ag.mk x1 5 4 9 0 (-1))))<|sB (.ptr 48 0) 48 (.var [rS [],rS [],rS [],rS [],r0,r0,r0,r0,r0])<|sH 48 (.var (au.rc x1++[rI 5,rI 4,rI 9,r0,rI (-1)]))<|sN<|gU Z<|mM Z<|sV (.d (ag.pd (ag.mk x1 5 4 9 0 (-1)))) ?_
 refine sV (.d (ag.pd (ag.mk x1 5 4 9 0 (-1))))<|sG (.d (.lst ([(ag.mk x1 5 4 9 0 (-1))].map ag.pd)))<|sG (.d (.agg [.lst ([(ag.mk x1 5 4 9 0 (-1))].map ag.pd),.int .i64 0,.int .i64 0,.int .i64 0,.int .i64 0,.int .i64 0,.int .i64 0,.int .i64 0,.int .i64 0,.int .i64 0,.int .i64 0,.int .i64 0,.int .i64 0,.int .i64 0,.int .i64 0,.int .i64 0]))<|sG (.d (.agg [.str x1.aT,.str x1.aU,.str x1.ac,.str x1.aS,.int .i64 5,.int .i64 4,.int .i64 9,.int .i64 0,.int .i64 (-1),.lst ([(ag.mk x1 5 4 9 0 (-1))].map ag.pd),.int .i64 0,.int .i64 0,.int .i64 0,.int .i64 0,.int .i64 0,.int .i64 0,.int .i64 0,.int .i64 0,.int .i64 0,.int .i64 0,.int .i64 0,.int .i64 0,.int .i64 0,.int .i64 0,.int .i64 0]))<|sG (.d (.agg [.int .i64 a0,.int .i64 1,.int .i64 a0,.int .i64 7,.int .i64 1,.str x1.aT,.str x1.aU,.str x1.ac,.str x1.aS,.int .i64 5,.int .i64 4,.int .i64 9,.int .i64 0,.int .i64 (-1),.lst ([(ag.mk x1 5 4 9 0 (-1))].map ag.pd),.int .i64 0,.int .i64 0,.int .i64 0,.int .i64 0,.int .i64 0,.int .i64 0,.int .i64 0,.int .i64 0,.int .i64 0,.int .i64 0,.int .i64 0,.int .i64 0,.int .i64 0,.int .i64 0,.int .i64 0]))<|sH 32 (.var (rI a0::rI 1::rI a0::rI 7::rI 1::au.rc x1++[rI 5,rI 4,rI 9,r0,rI (-1),.d (.lst ([(ag.mk x1 5 4 9 0 (-1))].map ag.pd)),r0,r0,r0,r0,r0,r0,r0,r0,r0,r0,r0,r0,r0,r0,r0]))<|sN<|qR ?_
 cases oI h
 exact qG
theorem nF{d0:aJ}{r:(List UInt8)×aJ}(h:fQ d0=some r):EvP prog aV ext 164 [.ptr 0 0] [.var (aJ.rc d0)] (rS r.1,[.var (aJ.rc r.2)]):=by
 refine Ev.body Z Tryz.func164 Z Zk<|gU Z<|sV (rS [])<|sN<|qS<|gU Z<|sM Z<|sV (.ptr 0 0)<|sV (.ptr 0 0)<|sL Z<|sE (rI (d0.bZ.length:Int)) (oM _ _)<|sF h ?_ ?_<;>intro h
 ·refine sN<|cT<|gU Z<|sM Z<|sV (.ptr 0 0)<|sV (.ptr 0 1)<|sS 0 (.var [.d (.lst (d0.bZ.map PD.str)),rB true])<|sN<|gU Z<|sV (rS [])<|sN<|qR ?_
  exact oI h▸qD
 refine sN<|cF<|qK<|gU Z<|sM Z<|sV (.ptr 0 0)<|sV (.ptr 0 0)<|sL Z<|bE h fun x2 h2 h=>eG h2 Z<|sC Z<|sA Z<|sN<|gU Z<|sM Z ?_
 refine sM Z<|sV (.ptr 0 0)<|sV (.ptr 0 0)<|sL Z<|bE h fun x3 h3 h=>WO.cutL (sz:=1) (g:=PD.str) h3 (fun _=>Z) Z Z Z Z Z Z Z Z Z Z Z<|sV (.ptr 0 0)<|sV (.ptr 0 0)<|sS 0 (.var [.d (.lst (x3.map PD.str)),rB d0.oN])<|sN<|gU Z<|sM Z<|sA Z<|sN<|qR ?_
 exact oI h▸qD
theorem bi{d0:aJ}{r:Int×aJ}(h:bk d0=some r):EvP prog aV ext 93 [.ptr 0 0] [.var (aJ.rc d0)] (rI r.1,[.var (aJ.rc r.2)]):=by
 refine Ev.body Z Tryz.func93 Z Zk<|gU Z<|sV (r0)<|sN<|gU Z<|sM Z<|bE h fun x1 h1 h=>cR (rS x1.1) [(0,.var (aJ.rc x1.2))] (nF h1)<|sA Z<|sN<|gU Z<|sM Z<|bE h fun x2 h2 h=>cR (.tup [rI x2.1,.err x2.2]) [] ((atoi_ev Z) h2)<|sM Z ?_
 refine sV (rI x2.1)<|sV (.err x2.2)<|sA Z<|sA Z<|sN<|gU Z<|mM Z<|sV (.ptr 0 0)<|sV (.ptr 0 1)<|sF h ?_ ?_<;>intro h
 ·refine sM Z<|sK<|sK<|sT<|sM Z<|k3<|sK<|sT<|sV (.ptr 0 0)<|sV (.ptr 0 1)<|sS 0 (.var [.d (.lst (x1.2.bZ.map PD.str)),rB true])<|sN<|gU Z ?_
  refine sM Z<|sA Z<|sN<|qR ?_
  exact oI h▸qD
 refine mM Z<|sV (rB (!x2.2))<|sF h ?_ ?_<;>intro h
 ·refine sM Z<|k3<|sK<|sT<|sV (.ptr 0 0)<|sV (.ptr 0 1)<|sS 0 (.var [.d (.lst (x1.2.bZ.map PD.str)),rB true])<|sN<|gU Z<|sM Z<|sA Z<|sN<|qR ?_
  exact oI h▸qD
 refine mM Z<|bE h fun x5 h5 h=>cD ((zx Z) h5)<|sM Z<|sV (rB (!(x5==x1.1)))<|sV (rB (!(x5==x1.1)))<|sV (.ptr 0 0)<|sV (.ptr 0 1)<|sS 0 (.var [.d (.lst (x1.2.bZ.map PD.str)),rB (!(x5==x1.1))])<|sN<|gU Z<|sM Z<|sA Z<|sN ?_
 refine qR ?_
 exact oI h▸qD
theorem source_Parse_ev{a0:(List UInt8)}{r:au×Int}(h:iS a0=some r):EvP prog aV ext 166 [rS a0] [] (.tup [.d (au.pd r.1),rI r.2],[]):=by
 refine Ev.body Z Tryz.func166 Z Zk<|gU Z<|sB (.ptr 32 0) 32 (.var [rS [],rS [],rS [],rS []])<|sV (r0)<|sN<|gU Z<|sM Z<|bE h fun x1 h1 h=>cD ((AA Z) h1)<|sA Z<|sN<|qS<|gU Z<|sM Z<|sE (rI (x1.length:Int)) (oM _ _) ?_
 refine sF h ?_ ?_<;>intro h
 ·refine sN<|cT<|gU Z<|sV (.d (au.pd (au.mk [] [] [] [])))<|sS 32 (.var [rS [],rS [],rS [],rS []])<|sV (rI 3)<|sN<|qR ?_
  exact oI h▸qD
 refine sN<|cF<|qK<|WC.lU Z Z<|sM Z<|bE h fun x3 h3 h=>eG h3 Z<|sC Z<|sM Z<|bE h fun x4 h4 h=>eG h4 Z<|sC Z<|sM Z<|bE h fun x5 h5 h=>eG h5 Z ?_
 refine sC Z<|sM Z<|bE h fun x6 h6 h=>eG h6 Z<|sC Z<|sV (.d (au.pd (au.mk x3 x4 x5 x6)))<|sB (.ptr 80 0) 80 (.var [rS [],rS [],rS [],rS []])<|sS 80 (.var [rS x3,rS x4,rS x5,rS x6]) ?_
 refine sN<|sO<|qS<|gU Z<|sV (.d (au.pd (au.mk x3 x4 x5 x6)))<|bE h fun x7 h7 h=>cD (gN h7)<|sF h ?_ ?_<;>intro h
 ·refine sN<|cT<|gU Z<|sV (.d (au.pd (au.mk [] [] [] [])))<|sS 32 (.var [rS [],rS [],rS [],rS []])<|sV (rI 3)<|sN<|qR ?_
  exact oI h▸qD
 refine sN<|cF<|qK<|gU Z<|sV (.d (au.pd (au.mk x3 x4 x5 x6)))<|sS 32 (.var [rS x3,rS x4,rS x5,rS x6])<|sV (r0)<|sN<|qR ?_
 exact oI h▸qD
theorem nD{d0:aJ}{r:ag×aJ}(h:fP d0=some r):EvP prog aV ext 94 [.ptr 0 0] [.var (aJ.rc d0)] (.d (ag.pd r.1),[.var (aJ.rc r.2)]):=by
 refine Ev.body Z Tryz.func94 Z Zk<|gU Z<|sB (.ptr 32 0) 32 (.var [rS [],rS [],rS [],rS [],r0,r0,r0,r0,r0])<|sN<|gU Z<|sM Z<|bE h fun x1 h1 h=>cR (rS x1.1) [(0,.var (aJ.rc x1.2))] (nF h1)<|bE h fun x2 h2 h=>cR (.tup [.d (au.pd x2.1),rI x2.2]) [] (source_Parse_ev h2)<|sM Z<|sV (.d (au.pd x2.1))<|sV (rI x2.2)<|sB (.ptr 48 0) 48 (.var [rS [],rS [],rS [],rS []])<|sS 48 (.var (au.rc x2.1)) ?_
 refine sA Z<|sN<|gU Z<|mM Z<|sV (.ptr 0 0)<|sV (.ptr 0 1)<|sF h ?_ ?_<;>intro h
 ·refine sM Z<|sK<|sK<|sT<|sV (.ptr 0 0)<|sV (.ptr 0 1)<|sS 0 (.var [.d (.lst (x1.2.bZ.map PD.str)),rB true])<|sN<|WC.lU Z Z<|sV (.d (au.pd x2.1))<|sM Z<|bE h fun x4 h4 h=>cR (rI x4.1) [(0,.var (aJ.rc x4.2))] (bi h4)<|sM Z<|bE h fun x5 h5 h=>?_
  refine cR (rI x5.1) [(0,.var (aJ.rc x5.2))] (bi h5)<|sM Z<|bE h fun x6 h6 h=>cR (rI x6.1) [(0,.var (aJ.rc x6.2))] (bi h6)<|sM Z<|bE h fun x7 h7 h=>cR (rI x7.1) [(0,.var (aJ.rc x7.2))] (bi h7)<|sM Z<|bE h fun x8 h8 h=>cR (rI x8.1) [(0,.var (aJ.rc x8.2))] (bi h8)<|sG (.d (ag.pd (ag.mk x2.1 x4.1 x5.1 x6.1 x7.1 x8.1)))<|sH 32 (.var (au.rc x2.1++[rI x4.1,rI x5.1,rI x6.1,rI x7.1,rI x8.1])) ?_
  refine sN<|sO<|qR ?_
  cases oI h
  exact qG
 refine mM Z<|sV (rB (x2.2 != (0:Int)))<|sV (rB (x2.2 != (0:Int)))<|sV (.ptr 0 0)<|sV (.ptr 0 1)<|sS 0 (.var [.d (.lst (x1.2.bZ.map PD.str)),rB (x2.2 != (0:Int))])<|sN<|WC.lU Z Z<|sV (.d (au.pd x2.1))<|sM Z<|bE h fun x9 h9 h=>cR (rI x9.1) [(0,.var (aJ.rc x9.2))] (bi h9)<|sM Z<|bE h fun x10 h10 h=>?_
 refine cR (rI x10.1) [(0,.var (aJ.rc x10.2))] (bi h10)<|sM Z<|bE h fun x11 h11 h=>cR (rI x11.1) [(0,.var (aJ.rc x11.2))] (bi h11)<|sM Z<|bE h fun x12 h12 h=>cR (rI x12.1) [(0,.var (aJ.rc x12.2))] (bi h12)<|sM Z<|bE h fun x13 h13 h=>cR (rI x13.1) [(0,.var (aJ.rc x13.2))] (bi h13)<|sG (.d (ag.pd (ag.mk x2.1 x9.1 x10.1 x11.1 x12.1 x13.1)))<|sH 32 (.var (au.rc x2.1++[rI x9.1,rI x10.1,rI x11.1,rI x12.1,rI x13.1])) ?_
 refine sN<|sO<|qR ?_
 cases oI h
 exact qG
theorem gZ{d0:aJ}{r:ai×aJ}(h:cL d0=some r):EvP prog aV ext 95 [.ptr 0 0] [.var (aJ.rc d0)] (.d (ai.pd r.1),[.var (aJ.rc r.2)]):=by
 refine Ev.body Z Tryz.func95 Z Zk<|gU Z<|sB (.ptr 32 0) 32 (.var [r0,r0,r0])<|sN<|gU Z<|sM Z<|bE h fun x1 h1 h=>cR (rI x1.1) [(0,.var (aJ.rc x1.2))] (bi h1)<|sM Z<|bE h fun x2 h2 h=>cR (rI x2.1) [(0,.var (aJ.rc x2.2))] (bi h2)<|sM Z<|bE h fun x3 h3 h=>cR (rI x3.1) [(0,.var (aJ.rc x3.2))] (bi h3)<|sV (.d (ai.pd (ai.mk x1.1 x2.1 x3.1))) ?_
 refine sS 32 (.var [rI x1.1,rI x2.1,rI x3.1])<|sN<|qR ?_
 exact oI h▸qD
theorem jq{d0:(List ag)}{r:Int×(List ag)}(h:b8 d0=some r):EvP prog aV ext 150 [.ref 0 0,.d (.raw (.func (.func 85) #[] #[]))] [.arr 0 44 (d0.map ag.pd)] (rI r.1,[.arr 0 44 (r.2.map ag.pd)]):=by
 refine Ev.body Z Tryz.func150 Z Zk<|gU Z<|sV (r0)<|sN<|qS<|gU Z<|sM Z<|WO.tD Z Z Z Z Z Z Z Z Z<|sV (r0)<|sN<|bE h fun o10 ho10 h=>WC.block (WC.loop (WL.pJ ho10 (fun s=>gI 1 150 2 [(0,.ref 0 0),(1,.d (.raw (.func (.func 85) #[] #[]))),(7,rI (d0.length:Int)),(8,rI s)] [(0,.arr 0 44 (d0.map ag.pd))]) (fun o=>match o with| .inl y=>gX 0 1 150 7 [] [(0,.arr 0 44 (d0.map ag.pd))]| .inr r=>gF 150 Tryz.f150 1 (rI r.1,[.arr 0 44 (r.2.map ag.pd)])) Z ?_ ?_))
 ·rintro s1 R' B' q2 hI h
  refine gS Z hI<|sF h ?_ ?_<;>intro h
  ·refine sN<|qS<|cT<|qK<|qS<|qB<|gU Z<|sM Z<|sA Z<|sN<|gU Z<|mM Z<|sM Z<|bE h fun x5 h5 h=>?_
   refine WO.tz h5 Z Z Z Z Z Z Z Z<|bE h fun x6 h6 h=>WO.sn h6 Z Z Z Z Z Z<|bE h fun x7 h7 h=>pP h (fun hb8 h=>?_) (fun hb8 h=>?_)
   ·refine WO.pV (v:=rB true) (u:=[]) Z Z (fun _=>Z) Z Z Z Z Z (eV h7) Z Z (congrArg (fun b=>RV.d (.bool b)) hb8) Z<|sN<|cT<|gU Z<|sM Z<|sA Z<|sN<|qR ?_
    cases oI h
    exact⟨nofun,rfl,rfl⟩
   refine WO.pV (v:=rB false) (u:=[]) Z Z (fun _=>Z) Z Z Z Z Z (eV h7) Z Z (congrArg (fun b=>RV.d (.bool b)) hb8) Z<|sN<|cF<|qK<|WC.region Z Z<|sV (rI (rW (s1+(1:Int))))<|sM Z<|sN ?_
   cases oI h
   exact⟨rfl,rfl⟩
  refine sN<|qS<|cF<|qX ?_
  cases oI h
  exact⟨nofun,rfl,rfl⟩
 intro e R' B' he hq
 rcases o10 with y11|r12
 ·obtain⟨rfl,hI⟩:=hq
  refine qE<|gS Z hI<|sV (rI (-1))<|sN<|qR ?_
  exact oI h▸qD
 obtain⟨rfl,hf⟩:=hq
 cases oI h
 exact hf
theorem ie{d0:(List ag)}{r:Bool×(List ag)}(h:bH d0=some r):EvP prog aV ext 84 [.ref 0 0,.d (.raw (.func (.func 85) #[] #[]))] [.arr 0 44 (d0.map ag.pd)] (rB r.1,[.arr 0 44 (r.2.map ag.pd)]):=by
 refine Ev.body Z Tryz.func84 Z Zk<|gU Z<|sU<|sN<|gU Z<|mM Z<|bE h fun x1 h1 h=>cR (rI x1.1) [(0,.arr 0 44 (x1.2.map ag.pd))] (jq h1)<|sV (rB (decide (x1.1>=(0:Int))))<|sA Z<|sN<|qR ?_
 exact oI h▸qD
theorem lX{dq:Int}{dz:Int}{ez:Int}{dY:Int}{ep:Int}{er:Int}{eA:Int}{eB:Int}{eC:Int}{co:Int}{cp:Int}{cq:Int}{cu:Int}{mY:Int}{cm:Int}{d0:(List ag)}{r:(List Int)×(List ag)}(h:ew dq dz ez dY ep er eA eB eC co cp cq cu mY cm d0=some r):EvP prog aV ext 53 [.agg [.ref 0 0,rI dq,rI dz,rI ez,rI dY,rI ep,rI er,rI eA,rI eB,rI eC,rI co,rI cp,rI cq,rI cu,rI mY,rI cm]] [.arr 0 44 (d0.map ag.pd)] (rL r.1,[.arr 0 44 (r.2.map ag.pd)]):=by
 refine Ev.body Z Tryz.func53 Z Zk<|gU Z<|sB (.ptr 16 0) 16 (.var [.ref 0 0,rI dq,rI dz,rI ez,rI dY,rI ep,rI er,rI eA,rI eB,rI eC,rI co,rI cp,rI cq,rI cu,rI mY,rI cm])<|sV .mo<|sN<|gU Z<|sV (.ptr 16 1)<|sV (.d (aD.pd (aD.mk (ai.mk dq dz ez) dY ep er (aY.mk (ai.mk eA eB eC) (ai.mk co cp cq)))))<|sB (.ptr 48 0) 48 (.var [r0,r0,r0,r0,r0,r0,r0,r0,r0,r0,r0,r0])<|sH 48 (.var [rI dq,rI dz,rI ez,rI dY,rI ep,rI er,rI eA,rI eB,rI eC,rI co,rI cp,rI cq])<|sN<|WC.lU Z Z<|sV (.ptr 48 0)<|sV (.d (ai.pd (ai.mk dq dz ez)))<|bE h fun x1 h1 h=>?_
 refine cD (fp h1)<|sV (.ptr 48 3)<|sL Z<|sV (.ptr 48 4)<|sL Z<|sV (.ptr 48 5)<|sL Z<|sV (.d (.lst ([dY,ep,er].map (PD.int .i64))))<|sV (.ptr 48 6)<|sV (.ptr 48 6)<|sV (.d (ai.pd (ai.mk eA eB eC)))<|bE h fun x2 h2 h=>cD (fp h2)<|sV (.ptr 48 6)<|sV (.ptr 48 9) ?_
 refine sV (.d (ai.pd (ai.mk co cp cq)))<|bE h fun x3 h3 h=>cD (fp h3)<|sV (.ptr 16 13)<|sV (.ptr 16 13)<|sL Z<|sV (.ptr 16 13)<|sV (.ptr 16 14)<|sL Z<|sV (.ptr 16 15)<|sL Z<|sV (.d (.lst ([cu,mY,cm].map (PD.int .i64))))<|sV (.d (.lst ([x1,[dY,ep,er],x2,x3,[cu,mY,cm]].map (fun l=>PD.lst (l.map (PD.int .i64))))))<|bE h fun x4 h4 h=>cD (jM h4) ?_
 refine sA Z ?_
 refine sN<|sO<|qR ?_
 cases oI h
 exact qG
theorem feed_Validq_ev{fy:Int}{dq:Int}{dz:Int}{ez:Int}{dY:Int}{ep:(List UInt8)}{er:(List UInt8)}{eA:(List UInt8)}{eB:(List UInt8)}{eC:Int}{co:Int}{cp:Int}{cq:Int}{cu:Int}{cm:Int}{dH:Int}{dI:Int}{dJ:Int}{dK:Int}{dL:Int}{dM:Int}{dN:Int}{dO:Int}{dP:Int}{dQ:Int}{dR:Int}{dS:Int}{dU:Int}{dV:Int}{d0:(List ag)}{r:Bool×(List ag)}(h:hZ fy dq dz ez dY ep er eA eB eC co cp cq cu cm dH dI dJ dK dL dM dN dO dP dQ dR dS dU dV d0=some r):EvP prog aV ext 35 [.agg [rI fy,rI dq,rI dz,rI ez,rI dY,rS ep,rS er,rS eA,rS eB,rI eC,rI co,rI cp,rI cq,rI cu,.ref 0 0,rI cm,rI dH,rI dI,rI dJ,rI dK,rI dL,rI dM,rI dN,rI dO,rI dP,rI dQ,rI dR,rI dS,rI dU,rI dV]] [.arr 0 44 (d0.map ag.pd)] (rB r.1,[.arr 0 44 (r.2.map ag.pd)]):=by
 refine Ev.body Z Tryz.func35 Z Zk<|gU Z<|sB (.ptr 16 0) 16 (.var [rI fy,rI dq,rI dz,rI ez,rI dY,rS ep,rS er,rS eA,rS eB,rI eC,rI co,rI cp,rI cq,rI cu,.ref 0 0,rI cm,rI dH,rI dI,rI dJ,rI dK,rI dL,rI dM,rI dN,rI dO,rI dP,rI dQ,rI dR,rI dS,rI dU,rI dV])<|sU<|sN<|gU Z<|sV (.ptr 16 5)<|sV (.ptr 16 14)<|sV (.agg [.ref 0 0,rI cm,rI dH,rI dI,rI dJ,rI dK,rI dL,rI dM,rI dN,rI dO,rI dP,rI dQ,rI dR,rI dS,rI dU,rI dV])<|sB (.ptr 48 0) 48 (.var [.mo,r0,r0,r0,r0,r0,r0,r0,r0,r0,r0,r0,r0,r0,r0,r0])<|sH 48 (.var [.ref 0 0,rI cm,rI dH,rI dI,rI dJ,rI dK,rI dL,rI dM,rI dN,rI dO,rI dP,rI dQ,rI dR,rI dS,rI dU,rI dV])<|sN<|qS<|qB<|gU Z ?_
 refine sV (.ptr 16 0)<|sL Z<|sF h ?_ ?_<;>intro h
 ·refine sM Z<|k3<|sT<|sM Z<|k3<|sT<|sM Z<|k3<|sT ?_
  refine sA Z<|sN<|cT<|gU Z<|sU<|sN<|qR ?_
  cases oI h
  exact qG
 refine sM Z<|sV (.ptr 16 0)<|sL Z<|sV (rB (decide (fy>=(1000:Int))))<|sF h ?_ ?_<;>intro h
 ·refine sM Z<|k3<|sT<|sM Z<|k3<|sT<|sA Z<|sN<|cT<|gU Z<|sU ?_
  refine sN<|qR ?_
  cases oI h
  exact qG
 refine sM Z<|sV (.ptr 16 1)<|sL Z<|sV (rB (decide (dq<(1:Int))))<|sF h ?_ ?_<;>intro h
 ·refine sM Z<|k3<|sT<|sA Z<|sN<|cT<|gU Z<|sU<|sN<|qR ?_
  cases oI h
  exact qG
 refine sM Z<|sV (.ptr 16 1)<|sL Z<|sV (rB (decide (dq>(3:Int))))<|sF h ?_ ?_<;>intro h
 ·refine sA Z<|sN<|cT<|gU Z<|sU<|sN<|qR ?_
  cases oI h
  exact qG
 refine sA Z<|sN<|cF<|gU Z<|sV (.ptr 16 2)<|sL Z<|sF h ?_ ?_<;>intro h
 ·refine sM Z<|k3<|sK<|sK<|sT<|sM Z<|k3<|k3<|sK ?_
  refine sK<|sK<|sT<|sA Z<|sN<|cT<|gU Z<|sU<|sN<|qR ?_
  cases oI h
  exact qG
 refine sM Z<|sV (.ptr 16 2)<|sL Z<|sV (.ptr 16 0)<|sL Z<|sV (rB (decide (dz>fy)))<|sF h ?_ ?_<;>intro h
 ·refine sM Z<|k3<|k3<|k3<|sT<|sA Z<|sN<|cT<|gU Z ?_
  refine sU<|sN<|qR ?_
  cases oI h
  exact qG
 refine sM Z<|sV (.ptr 16 2)<|sL Z<|sV (.ptr 16 0)<|sL Z<|sV (rB (dz==fy))<|sV (.ptr 16 1)<|sL Z<|sV (rB (dq==(1:Int)))<|sV (rB (!((dz==fy)==(dq==(1:Int)))))<|sF h ?_ ?_<;>intro h
 ·refine sA Z<|sN<|cT<|gU Z<|sU<|sN<|qR ?_
  cases oI h
  exact qG
 refine sA Z<|sN<|cF<|gU Z<|sV (.ptr 16 4)<|sL Z<|sF h ?_ ?_<;>intro h
 ·refine sM Z<|k3<|sT<|sM Z<|k3<|sK<|sT<|sA Z<|sN<|cT<|gU Z ?_
  refine sU<|sN<|qR ?_
  cases oI h
  exact qG
 refine sM Z<|sV (.ptr 16 4)<|sL Z<|sV (rB (decide (dY>(8:Int))))<|sF h ?_ ?_<;>intro h
 ·refine sM Z<|k3<|sK<|sT<|sA Z<|sN<|cT<|gU Z<|sU<|sN<|qR ?_
  cases oI h
  exact qG
 refine sM Z<|sV (.ptr 48 0)<|sL Z<|WO.tD Z Z Z Z Z Z Z Z Z<|sV (rB (decide ((d0.length:Int)>(64:Int))))<|sF h ?_ ?_<;>intro h
 ·refine sA Z<|sN<|cT<|gU Z<|sU<|sN<|qR ?_
  cases oI h
  exact qG
 refine sA Z<|sN<|cF<|gU Z<|sV (.ptr 16 5)<|sV (.ptr 16 5)<|sV (.d (ag.pd (ag.mk (au.mk ep er eA eB) eC co cp cq cu)))<|bE h fun x11 h11 h=>cD (gq h11)<|sF h ?_ ?_<;>intro h
 ·refine sM Z<|k3<|sT<|sA Z<|sN<|cT<|gU Z<|sU<|sN<|qR ?_
  cases oI h
  exact qG
 refine sM Z<|sV (.ptr 48 0)<|sL Z<|bE h fun x13 h13 h=>cR (rB x13.1) [(0,.arr 0 44 (x13.2.map ag.pd))] (ie h13)<|sF h ?_ ?_<;>intro h
 ·refine sA Z<|sN<|cT<|gU Z<|sU<|sN<|qR ?_
  cases oI h
  exact qG
 refine sA Z<|sN<|cF<|qK<|gU Z<|sV (.ptr 16 3)<|sL Z<|sV (.d (.lst ([ez].map (PD.int .i64))))<|bE h fun x15 h15 h=>pP h (fun hb16 h=>?_) (fun hb16 h=>?_)
 ·refine WO.pV (v:=rB true) (u:=[]) Z Z (fun _=>Z) Z Z Z Z Z (eI h15) Z Z (congrArg (fun b=>RV.d (.bool b)) hb16) Z<|sM Z<|sV (.agg [.ref 0 0,rI cm,rI dH,rI dI,rI dJ,rI dK,rI dL,rI dM,rI dN,rI dO,rI dP,rI dQ,rI dR,rI dS,rI dU,rI dV])<|bE h fun x17 h17 h=>cR (rL x17.1) [(0,.arr 0 44 (x17.2.map ag.pd))] (lX h17)<|bE h fun x18 h18 h=>cD (eI h18)<|sV (rB x18)<|sA Z<|sN<|qR ?_
  cases oI h
  exact qG
 refine WO.pV (v:=rB false) (u:=[]) Z Z (fun _=>Z) Z Z Z Z Z (eI h15) Z Z (congrArg (fun b=>RV.d (.bool b)) hb16) Z<|sM Z<|k3<|sU<|sA Z<|sN<|qR ?_
 cases oI h
 exact qG
theorem feed_Encodeq_ev{fy:Int}{dq:Int}{dz:Int}{ez:Int}{dY:Int}{ep:(List UInt8)}{er:(List UInt8)}{eA:(List UInt8)}{eB:(List UInt8)}{eC:Int}{co:Int}{cp:Int}{cq:Int}{cu:Int}{cm:Int}{dH:Int}{dI:Int}{dJ:Int}{dK:Int}{dL:Int}{dM:Int}{dN:Int}{dO:Int}{dP:Int}{dQ:Int}{dR:Int}{dS:Int}{dU:Int}{dV:Int}{d0:(List ag)}{r:(List UInt8)×Int×(List ag)}(h:ga fy dq dz ez dY ep er eA eB eC co cp cq cu cm dH dI dJ dK dL dM dN dO dP dQ dR dS dU dV d0=some r):EvP prog aV ext 18 [.agg [rI fy,rI dq,rI dz,rI ez,rI dY,rS ep,rS er,rS eA,rS eB,rI eC,rI co,rI cp,rI cq,rI cu,.ref 0 0,rI cm,rI dH,rI dI,rI dJ,rI dK,rI dL,rI dM,rI dN,rI dO,rI dP,rI dQ,rI dR,rI dS,rI dU,rI dV]] [.arr 0 44 (d0.map ag.pd)] (.tup [rS r.1,rI r.2.1],[.arr 0 44 (r.2.2.map ag.pd)]):=by
 refine Ev.body Z Tryz.func18 Z Zk<|gU Z<|sB (.ptr 16 0) 16 (.var [rI fy,rI dq,rI dz,rI ez,rI dY,rS ep,rS er,rS eA,rS eB,rI eC,rI co,rI cp,rI cq,rI cu,.ref 0 0,rI cm,rI dH,rI dI,rI dJ,rI dK,rI dL,rI dM,rI dN,rI dO,rI dP,rI dQ,rI dR,rI dS,rI dU,rI dV])<|sV (rS [])<|sV (r0)<|sN<|qS<|gU Z<|sV (.agg [rI fy,rI dq,rI dz,rI ez,rI dY,rS ep,rS er,rS eA,rS eB,rI eC,rI co,rI cp,rI cq,rI cu,.ref 0 0,rI cm,rI dH,rI dI,rI dJ,rI dK,rI dL,rI dM,rI dN,rI dO,rI dP,rI dQ,rI dR,rI dS,rI dU,rI dV])<|bE h fun x1 h1 h=>cR (rB x1.1) [(0,.arr 0 44 (x1.2.map ag.pd))] (feed_Validq_ev h1)<|sF h ?_ ?_<;>intro h
 ·refine sN<|cT<|gU Z<|sV (rS [])<|sV (rI 1)<|sN<|qR ?_
  cases oI h
  exact qG
 refine sN<|cF<|qK<|gU Z<|sB (.ptr 64 0) 64 (.var [.mo])<|sN<|gU Z<|sV (.ptr 16 0)<|sL Z<|sV (.ptr 16 1)<|sL Z<|sV (.ptr 16 2)<|sL Z<|sV (.ptr 16 3)<|sL Z ?_
 refine sV (.ptr 16 4)<|sL Z<|sV (.d (.lst ([fy,dq,dz,ez,dY].map (PD.int .i64))))<|bE h fun x3 h3 h=>cR (.tup []) [(64,.var [.ref 336 0]),(336,.arr 0 9 (x3.map PD.str))] (lr h3)<|sN<|gU Z<|sV (.ptr 16 5)<|sV (.ptr 16 5)<|sV (.d (ag.pd (ag.mk (au.mk ep er eA eB) eC co cp cq cu)))<|bE h fun x4 h4 h=>cR (.tup []) [(64,.var [.ref 336 1]),(336,.arr 1 9 (x4.map PD.str))] (iX h4)<|sN<|gU Z<|sV (.ptr 16 5) ?_
 refine sV (.ptr 16 14)<|sV (.ptr 16 14)<|sL Z<|WO.tD Z Z Z Z Z Z Z Z Z<|sV (.d (.lst ([(x1.2.length:Int)].map (PD.int .i64))))<|bE h fun x5 h5 h=>cR (.tup []) [(64,.var [.ref 336 2]),(336,.arr 2 9 (x5.map PD.str))] (dF h5)<|sN<|qS<|gU Z<|sV (.ptr 16 5)<|sV (.ptr 16 14)<|sV (.ptr 16 14)<|sL Z<|WO.tD Z Z Z Z Z Z Z Z Z ?_
 refine sV (r0)<|sN<|bE h fun o16 ho16 h=>WC.block (WC.loop (WL.pJ ho16 (fun s=>gI 1 18 8 [(1,.ptr 16 0),(4,.ptr 64 0),(36,.ref 0 0),(37,rI (x1.2.length:Int)),(38,rI s.1)] [(0,.arr 0 44 (x1.2.map ag.pd)),(16,.var [rI fy,rI dq,rI dz,rI ez,rI dY,rS ep,rS er,rS eA,rS eB,rI eC,rI co,rI cp,rI cq,rI cu,.ref 0 0,rI cm,rI dH,rI dI,rI dJ,rI dK,rI dL,rI dM,rI dN,rI dO,rI dP,rI dQ,rI dR,rI dS,rI dU,rI dV]),(64,.var [.ref 336 0]),(336,.arr 0 9 (s.2.map PD.str))]) (fun o=>gX 0 1 18 12 [(1,.ptr 16 0),(4,.ptr 64 0)] [(0,.arr 0 44 (x1.2.map ag.pd)),(16,.var [rI fy,rI dq,rI dz,rI ez,rI dY,rS ep,rS er,rS eA,rS eB,rI eC,rI co,rI cp,rI cq,rI cu,.ref 0 0,rI cm,rI dH,rI dI,rI dJ,rI dK,rI dL,rI dM,rI dN,rI dO,rI dP,rI dQ,rI dR,rI dS,rI dU,rI dV]),(64,.var [.ref 336 0]),(336,.arr 0 9 (o.map PD.str))]) Z ?_ ?_))
 ·rintro⟨s6,s7⟩ R' B' q9 hI h
  refine gS Z hI<|sF h ?_ ?_<;>intro h
  ·refine sN<|qS<|cT<|qK<|qS<|qB<|gU Z<|bE h fun x12 h12 h=>WO.tz h12 Z Z Z Z Z Z Z Z<|bE h fun x13 h13 h=>WO.sn h13 Z Z Z Z Z Z<|sB (.ptr 96 0) 96 (.var [rS [],rS [],rS [],rS [],r0,r0,r0,r0,r0])<|sH 96 (.var (ag.rc x13))<|sN<|WC.region Z Z ?_
   refine sV (.d (ag.pd x13))<|bE h fun x14 h14 h=>cR (.tup []) [(64,.var [.ref 336 1]),(336,.arr 1 9 (x14.map PD.str))] (iX h14)<|sN<|WC.region Z Z<|sV (rI (rW (s6+(1:Int))))<|sM Z<|sN ?_
   cases oI h
   exact⟨rfl,rfl⟩
  refine sN<|qS<|cF<|qX ?_
  cases oI h
  exact⟨nofun,rfl,rfl⟩
 intro e R' B' he hq
 obtain⟨rfl,hI⟩:=hq
 refine qE<|gS Z hI<|sV (.ptr 16 5)<|sV (.ptr 16 14)<|sV (.agg [.ref 0 0,rI cm,rI dH,rI dI,rI dJ,rI dK,rI dL,rI dM,rI dN,rI dO,rI dP,rI dQ,rI dR,rI dS,rI dU,rI dV])<|bE h fun x17 h17 h=>cR (rL x17.1) [(0,.arr 0 44 (x17.2.map ag.pd))] (lX h17)<|bE h fun x18 h18 h=>cR (.tup []) [(64,.var [.ref 336 1]),(336,.arr 1 9 (x18.map PD.str))] (dF h18)<|sN<|gU Z<|sV (.ptr 64 0)<|sL Z<|bE h fun x19 h19 h=>cR (rS x19) [] ((zy Z) h19) ?_
 refine sA Z<|sV (r0)<|sN<|qR ?_
 cases oI h
 exact qG
theorem kJ{a0:(List UInt8)}{r:aj×Int}(h:eR a0=some r):EvP prog aV ext 44 [rS a0] [] (.tup [.d (aj.pd r.1),rI r.2],[]):=by
 refine Ev.body Z Tryz.func44 Z Zk<|gU Z<|sB (.ptr 32 0) 32 (.var zZ0)<|sV (r0)<|sN<|gU Z<|sM Z<|bE h fun x1 h1 h=>cD ((AA Z) h1)<|sV (.d (.agg [.lst (x1.map PD.str),.bool false]))<|sB (.ptr 208 0) 208 (.var [.d (.lst (x1.map PD.str)),rB false])<|sA Z<|sN<|gU Z<|sM Z ?_
 refine bE h fun x2 h2 h=>cR (rI x2.1) [(208,.var (aJ.rc x2.2))] (bi h2)<|sM Z<|bE h fun x3 h3 h=>cR (rI x3.1) [(208,.var (aJ.rc x3.2))] (bi h3)<|sM Z<|bE h fun x4 h4 h=>cR (rI x4.1) [(208,.var (aJ.rc x4.2))] (bi h4)<|sM Z<|bE h fun x5 h5 h=>cR (rI x5.1) [(208,.var (aJ.rc x5.2))] (bi h5)<|sM Z<|bE h fun x6 h6 h=>cR (rI x6.1) [(208,.var (aJ.rc x6.2))] (bi h6)<|sG (.agg [rI x2.1,rI x3.1,rI x4.1,rI x5.1,rI x6.1,rS [],rS [],rS [],rS [],r0,r0,r0,r0,r0,.mo,r0,r0,r0,r0,r0,r0,r0,r0,r0,r0,r0,r0,r0,r0,r0]) ?_
 refine sB (.ptr 80 0) 80 (.var zZ0)<|sH 80 (.var [rI x2.1,rI x3.1,rI x4.1,rI x5.1,rI x6.1,rS [],rS [],rS [],rS [],r0,r0,r0,r0,r0,.mo,r0,r0,r0,r0,r0,r0,r0,r0,r0,r0,r0,r0,r0,r0,r0])<|sN<|gU Z<|sM Z<|bE h fun x7 h7 h=>cR (.d (ag.pd x7.1)) [(208,.var (aJ.rc x7.2))] (nD h7)<|sV (.ptr 80 5)<|sV (.ptr 80 5)<|sH 80 (.var (rI x2.1::rI x3.1::rI x4.1::rI x5.1::rI x6.1::ag.rc x7.1++[.mo,r0,r0,r0,r0,r0,r0,r0,r0,r0,r0,r0,r0,r0,r0,r0]))<|sN<|gU Z<|sV (.ptr 80 5)<|sV (.ptr 80 14)<|sA Z ?_
 refine sN<|qS<|gU Z<|sM Z<|bE h fun x8 h8 h=>cR (rI x8.1) [(208,.var (aJ.rc x8.2))] (bi h8)<|sA Z<|sN<|bE h fun o22 ho22 h=>WC.block (WC.loop (WL.pJ ho22 (fun s=>gI 0 44 6 [(0,rS a0),(2,.ptr 32 0),(4,.ptr 208 0),(5,.ptr 80 0),(6,.ptr 80 14),(7,rI s.1)] [(32,.var zZ0),(80,.var (rI x2.1::rI x3.1::rI x4.1::rI x5.1::rI x6.1::ag.rc x7.1++[.ref 832 0,r0,r0,r0,r0,r0,r0,r0,r0,r0,r0,r0,r0,r0,r0,r0])),(208,.var [.d (.lst (s.2.1.map PD.str)),rB s.2.2.1]),(832,.arr 0 44 (s.2.2.2.map ag.pd))]) (fun o=>gX 0 0 44 9 [(0,rS a0),(2,.ptr 32 0),(4,.ptr 208 0),(5,.ptr 80 0),(6,.ptr 80 14)] [(32,.var zZ0),(80,.var (rI x2.1::rI x3.1::rI x4.1::rI x5.1::rI x6.1::ag.rc x7.1++[.ref 832 0,r0,r0,r0,r0,r0,r0,r0,r0,r0,r0,r0,r0,r0,r0,r0])),(208,.var [.d (.lst (o.1.map PD.str)),rB o.2.1]),(832,.arr 0 44 (o.2.2.map ag.pd))]) Z ?_ ?_))
 ·rintro⟨s9,s10,s11,s12⟩ R' B' q16 hI h
  refine qS<|gS Z hI<|sM Z<|sF h ?_ ?_<;>intro h
  ·refine mM Z<|sV (.ptr 208 0)<|sV (.ptr 208 1)<|sL Z<|sV (rB (!s11))<|sF h ?_ ?_<;>intro h
   ·refine sN<|cT<|qK<|qS<|qB<|WC.rC Z Z<|mM Z<|sV (.ptr 80 14)<|sV (.ptr 80 14)<|sL Z<|sM Z<|bE h fun x19 h19 h=>cR (.d (ag.pd x19.1)) [(208,.var (aJ.rc x19.2))] (nD h19)<|sG (.d (.lst ([x19.1].map ag.pd))) ?_
    refine bE h fun x20 h20 h=>aR h20 (fun _=>Z) Z<|sV (.ptr 80 14)<|sV (.ptr 80 14)<|sS 80 (.var (rI x2.1::rI x3.1::rI x4.1::rI x5.1::rI x6.1::ag.rc x7.1++[.ref 832 1,r0,r0,r0,r0,r0,r0,r0,r0,r0,r0,r0,r0,r0,r0,r0])) ?_
    refine sN<|sO<|WC.region Z Z<|sM Z<|sV (rI (rW (s9-(1:Int))))<|sA Z<|sN ?_
    cases oI h
    exact⟨rfl,rfl⟩
   refine sN<|cF<|qX ?_
   cases oI h
   exact⟨nofun,rfl,rfl⟩
  refine sM Z<|k3<|sK<|sK<|sU<|sN<|cF<|qX ?_
  cases oI h
  exact⟨nofun,rfl,rfl⟩
 intro e R' B' he hq
 obtain⟨rfl,hI⟩:=hq
 refine qE<|gS Z hI<|mM Z<|bE h fun x23 h23 h=>cR (.d (ai.pd x23.1)) [(208,.var (aJ.rc x23.2))] (gZ h23)<|sM Z<|bE h fun x24 h24 h=>cR (rI x24.1) [(208,.var (aJ.rc x24.2))] (bi h24)<|sM Z<|bE h fun x25 h25 h=>cR (rI x25.1) [(208,.var (aJ.rc x25.2))] (bi h25)<|sM Z<|bE h fun x26 h26 h=>cR (rI x26.1) [(208,.var (aJ.rc x26.2))] (bi h26) ?_
 refine sG (.d (aD.pd (aD.mk x23.1 x24.1 x25.1 x26.1 (aY.mk (ai.mk 0 0 0) (ai.mk 0 0 0)))))<|sV (.ptr 80 14)<|sV (.ptr 80 15)<|sH 80 (.var (rI x2.1::rI x3.1::rI x4.1::rI x5.1::rI x6.1::ag.rc x7.1++ .ref 832 0::ai.rc x23.1++[rI x24.1,rI x25.1,rI x26.1,r0,r0,r0,r0,r0,r0,r0,r0,r0]))<|sN<|gU Z<|mM Z<|bE h fun x27 h27 h=>cR (.d (ai.pd x27.1)) [(208,.var (aJ.rc x27.2))] (gZ h27)<|sM Z<|bE h fun x28 h28 h=>cR (.d (ai.pd x28.1)) [(208,.var (aJ.rc x28.2))] (gZ h28)<|sG (.d (aY.pd (aY.mk x27.1 x28.1)))<|sV (.ptr 80 14) ?_
 refine sV (.ptr 80 15)<|sV (.ptr 80 21)<|sH 80 (.var (rI x2.1::rI x3.1::rI x4.1::rI x5.1::rI x6.1::ag.rc x7.1++ .ref 832 0::ai.rc x23.1++rI x24.1::rI x25.1::rI x26.1::ai.rc x27.1++ai.rc x28.1++[r0,r0,r0]))<|sN<|gU Z<|mM Z<|bE h fun x29 h29 h=>cR (rI x29.1) [(208,.var (aJ.rc x29.2))] (bi h29)<|sM Z<|bE h fun x30 h30 h=>cR (rI x30.1) [(208,.var (aJ.rc x30.2))] (bi h30)<|sV (.d (aH.pd (aH.mk x29.1 x30.1)))<|sV (.ptr 80 14)<|sV (.ptr 80 27) ?_
 refine sS 80 (.var (rI x2.1::rI x3.1::rI x4.1::rI x5.1::rI x6.1::ag.rc x7.1++ .ref 832 0::ai.rc x23.1++rI x24.1::rI x25.1::rI x26.1::ai.rc x27.1++ai.rc x28.1++[rI x29.1,rI x30.1,r0]))<|sN<|gU Z<|mM Z<|bE h fun x31 h31 h=>cR (rI x31.1) [(208,.var (aJ.rc x31.2))] (bi h31)<|sV (.ptr 80 14)<|sV (.ptr 80 29)<|sS 80 (.var (rI x2.1::rI x3.1::rI x4.1::rI x5.1::rI x6.1::ag.rc x7.1++ .ref 832 0::ai.rc x23.1++rI x24.1::rI x25.1::rI x26.1::ai.rc x27.1++ai.rc x28.1++[rI x29.1,rI x30.1,rI x31.1]))<|sN<|qS<|gU Z<|sM Z<|sV (.ptr 208 0) ?_
 refine sV (.ptr 208 1)<|sF h ?_ ?_<;>intro h
 ·refine sM Z<|k3<|k3<|sT<|sN<|cT<|gU Z<|sG (.agg zZ0)<|sH 32 (.var zZ0)<|sV (rI 3)<|sN ?_
  refine qR ?_
  cases oI h
  exact qG
 refine mM Z<|sV (.ptr 208 0)<|sV (.ptr 208 0)<|sL Z<|sE (rI (x31.2.bZ.length:Int)) (oM _ _)<|sV (rB (decide ((x31.2.bZ.length:Int)>(0:Int))))<|sF h ?_ ?_<;>intro h
 ·refine sN<|cT<|gU Z<|sG (.agg zZ0)<|sH 32 (.var zZ0)<|sV (rI 3)<|sN<|qR ?_
  cases oI h
  exact qG
 refine sN<|cF<|qK<|qS<|gU Z<|sV (.agg (rI x2.1::rI x3.1::rI x4.1::rI x5.1::rI x6.1::ag.rc x7.1++ .ref 832 0::ai.rc x23.1++rI x24.1::rI x25.1::rI x26.1::ai.rc x27.1++ai.rc x28.1++[rI x29.1,rI x30.1,rI x31.1]))<|bE h fun x34 h34 h=>cR (.tup [rS x34.1,rI x34.2.1]) [(832,.arr 0 44 (x34.2.2.map ag.pd))] (feed_Encodeq_ev h34)<|sM Z<|sV (rS x34.1)<|sV (rI x34.2.1)<|sA Z<|sA Z<|sN<|gU Z ?_
 refine sM Z<|sF h ?_ ?_<;>intro h
 ·refine sM Z<|k3<|sT<|sN<|cT<|gU Z<|sG (.agg zZ0)<|sH 32 (.var zZ0)<|sV (rI 3)<|sN<|qR ?_
  cases oI h
  exact qG
 refine mM Z<|sM Z<|sV (rB (!(x34.1==a0)))<|sF h ?_ ?_<;>intro h
 ·refine sN<|cT<|gU Z<|sG (.agg zZ0)<|sH 32 (.var zZ0)<|sV (rI 3)<|sN<|qR ?_
  cases oI h
  exact qG
 refine sN<|cF<|qK<|gU Z<|sV (.agg (rI x2.1::rI x3.1::rI x4.1::rI x5.1::rI x6.1::ag.rc x7.1++ .ref 832 0::ai.rc x23.1++rI x24.1::rI x25.1::rI x26.1::ai.rc x27.1++ai.rc x28.1++[rI x29.1,rI x30.1,rI x31.1]))<|sH 32 (.var (rI x2.1::rI x3.1::rI x4.1::rI x5.1::rI x6.1::ag.rc x7.1++ .ref 832 0::ai.rc x23.1++rI x24.1::rI x25.1::rI x26.1::ai.rc x27.1++ai.rc x28.1++[rI x29.1,rI x30.1,rI x31.1]))<|sV (r0)<|sN<|qR ?_
 cases oI h
 exact qG
theorem ref33_Same_ev{a0:az}{a1:az}{r:Bool}(h:kR a0 a1=some r):EvP prog aV ext 42 [.d (az.pd a0),.d (az.pd a1)] [] (rB r,[]):=by
 refine Ev.body Z Tryz.func42 Z Zk<|gU Z<|sB (.ptr 32 0) 32 (.var (az.rc a0))<|sB (.ptr 48 0) 48 (.var (az.rc a1))<|sU<|sN<|gU Z<|sV (.ptr 32 0)<|sL Z<|sV (.ptr 48 0)<|sL Z<|bE h fun x1 h1 h=>pP h (fun hb2 h=>?_) (fun hb2 h=>?_)
 ·refine WO.pV (v:=rB true) (u:=[]) Z Z (fun _=>Z) Z Z Z Z Z (g9 h1) Z Z (congrArg (fun b=>RV.d (.bool b)) hb2) Z<|sM Z<|sV (.ptr 32 1)<|sV (.d (aD.pd a0.ac))<|sV (.ptr 48 1)<|sV (.d (aD.pd a1.ac))<|WO.bin (eqE_51 a0.ac a1.ac) Z Z Z Z Z<|sF h ?_ ?_<;>intro h
  ·refine sM Z<|sV (.ptr 32 13)<|sV (.d (aH.pd a0.aA))<|sV (.ptr 48 13)<|sV (.d (aH.pd a1.aA))<|WO.bin (eqE_53 a0.aA a1.aA) Z Z Z Z Z<|sF h ?_ ?_<;>intro h
   ·refine sM Z<|sV (.ptr 32 15)<|sL Z<|sV (.ptr 48 15)<|sL Z<|sV (rB (a0.bn==a1.bn))<|sV (rB (a0.bn==a1.bn))<|sA Z<|sN<|qR ?_
    cases oI h
    exact qG
   refine sM Z<|k3<|sK<|sK<|sU<|sA Z<|sN<|qR ?_
   cases oI h
   exact qG
  refine sM Z<|k3<|sK<|sK<|sU<|sM Z<|k3<|sK<|sK<|sU<|sA Z ?_
  refine sN<|qR ?_
  cases oI h
  exact qG
 refine WO.pV (v:=rB false) (u:=[]) Z Z (fun _=>Z) Z Z Z Z Z (g9 h1) Z Z (congrArg (fun b=>RV.d (.bool b)) hb2) Z<|sM Z<|k3<|sK<|sK<|sU<|sM Z<|k3<|sK<|sK<|sU ?_
 refine sM Z<|k3<|sK<|sK<|sU<|sA Z<|sN<|qR ?_
 cases oI h
 exact qG
theorem oY{a0:av}{a1:av}{r:Bool}(h:fk a0 a1=some r):EvP prog aV ext 14 [.d (av.pd a0),.d (av.pd a1)] [] (rB r,[]):=by
 refine Ev.body Z Tryz.func14 Z Zk<|gU Z<|sB (.ptr 32 0) 32 (.var (av.rc a0))<|sB (.ptr 48 0) 48 (.var (av.rc a1))<|sU<|sN<|gU Z<|sV (.ptr 32 0)<|sV (.d (ag.pd a0.ap))<|sV (.ptr 48 0)<|sV (.d (ag.pd a1.ap))<|pP h (fun hb1 h=>?_) (fun hb1 h=>?_)
 ·refine WO.binS (lG a0.ap a1.ap) hb1 Z Z Z Z Z<|sM Z<|sV (.ptr 32 9)<|sV (.d (az.pd a0.aa))<|sV (.ptr 48 9)<|sV (.d (az.pd a1.aa))<|bE h fun x2 h2 h=>cD (ref33_Same_ev h2)<|sV (rB x2)<|sA Z<|sN<|qR ?_
  cases oI h
  exact qG
 refine WO.binS (lG a0.ap a1.ap) hb1 Z Z Z Z Z<|sM Z<|k3<|sK<|sK<|sU<|sA Z<|sN<|qR ?_
 cases oI h
 exact qG
theorem jd{a0:aj}{a1:aj}{r:Bool}(h:ct a0 a1=some r):EvP prog aV ext 45 [.d (aj.pd a0),.d (aj.pd a1)] [] (rB r,[]):=by
 refine Ev.body Z Tryz.func45 Z Zk<|gU Z<|sB (.ptr 32 0) 32 (.var (aj.rc a0))<|sB (.ptr 48 0) 48 (.var (aj.rc a1))<|sU<|sN<|gU Z<|sV (.ptr 32 0)<|sL Z<|sV (.ptr 48 0)<|sL Z<|sF h ?_ ?_<;>intro h
 ·refine sM Z<|sV (.ptr 32 1)<|sL Z<|sV (.ptr 48 1)<|sL Z<|sV (rB (a0.bX==a1.bX))<|sF h ?_ ?_<;>intro h
  ·refine sM Z<|sV (.ptr 32 2)<|sL Z<|sV (.ptr 48 2)<|sL Z<|sV (rB (a0.fID==a1.fID))<|sF h ?_ ?_<;>intro h
   ·refine sM Z<|sV (.ptr 32 3)<|sL Z<|sV (.ptr 48 3)<|sL Z<|sV (rB (a0.fAt==a1.fAt))<|sF h ?_ ?_<;>intro h
    ·refine sM Z<|sV (.ptr 32 4)<|sL Z<|sV (.ptr 48 4)<|sL Z<|sV (rB (a0.bw==a1.bw))<|sF h ?_ ?_<;>intro h
     ·refine sM Z<|sV (.ptr 32 5)<|sV (.d (av.pd a0.ah))<|sV (.ptr 48 5)<|sV (.d (av.pd a1.ah))<|bE h fun x6 h6 h=>cD (oY h6)<|sV (rB x6)<|sA Z<|sN<|qR ?_
      cases oI h
      exact qG
     refine sM Z<|k3<|sK<|sK<|sU<|sA Z<|sN<|qR ?_
     cases oI h
     exact qG
    refine sM Z<|k3<|sK<|sK<|sU<|sM Z<|k3<|sK<|sK<|sU<|sA Z ?_
    refine sN<|qR ?_
    cases oI h
    exact qG
   refine sM Z<|k3<|sK<|sK<|sU<|sM Z<|k3<|sK<|sK<|sU<|sM Z ?_
   refine k3<|sK<|sK<|sU<|sA Z<|sN<|qR ?_
   cases oI h
   exact qG
  refine sM Z<|k3<|sK<|sK<|sU<|sM Z<|k3<|sK<|sK<|sU<|sM Z ?_
  refine k3<|sK<|sK<|sU<|sM Z<|k3<|sK<|sK<|sU<|sA Z<|sN ?_
  refine qR ?_
  cases oI h
  exact qG
 refine sM Z<|k3<|sK<|sK<|sU<|sM Z<|k3<|sK<|sK<|sU<|sM Z ?_
 refine k3<|sK<|sK<|sU<|sM Z<|k3<|sK<|sK<|sU<|sM Z<|sK ?_
 refine k3<|sK<|sU<|sA Z<|sN<|qR ?_
 cases oI h
 exact qG
end Go.Dw.Fc
