
import Derived.Test.YtomapcboiinfdaaGreatEsEvA
set_option linter.unusedVariables false
set_option linter.unusedSimpArgs false
open Go.Dw.WC renaming block->CI, jF->CJ, join->CK, loop->CL, mX->CM, n9->CN, region->CO

set_option maxRecDepth 100000
set_option maxHeartbeats 4000000
namespace Go.Dw.Es
open Go.Proofs Go.Proofs.Tryz Go.Dw
theorem jH{a0:al}{r:Bool}(h:co a0=some r):EvP prog aF ext 137 [.d (al.pd a0)] [] (rB r,[]):=by
 refine Ev.body Z Tryz.func137 Z Zk<|gU Z<|sB (.ptr 16 0) 16 (.var (al.rc a0))<|sU<|sN<|gU Z<|sV (.ptr 16 4)<|sV (.d (ac.pd a0.aI))<|sB (.ptr 48 0) 48 (.var [r0,r0,r0])<|sS 48 (.var (ac.rc a0.aI))<|sN<|gU Z<|sV (.ptr 16 0)<|sL Z<|sF h ?_ ?_<;>intro h
 ·refine sM Z<|sV (.ptr 16 0)<|sL Z<|sV (.ptr 16 1)<|sL Z<|sV (rB (decide (a0.bC<a0.fTo)))<|sF h ?_ ?_<;>intro h
  ·refine sM Z<|sV (.ptr 16 1)<|sL Z<|sV (rB (decide (a0.fTo<=(9007199254740992:Int))))<|sF h ?_ ?_<;>intro h
   ·refine sM Z<|sV (.ptr 16 2)<|sV (.d (bh.pd a0.cm))<|bE h fun j e h=>cD (rate_Valid_ev e)<|sF h ?_ ?_<;>intro h
    ·refine sM Z<|sV (.ptr 16 7)<|sV (.d (aA.pd a0.ba))<|bE h fun k f h=>cD (jq f)<|sF h ?_ ?_<;>intro h
     ·refine sM Z<|sV (.ptr 48 0)<|sL Z<|bE h fun l g h=>cD (fK g)<|sF h ?_ ?_<;>intro h
      ·refine sM Z<|sV (.ptr 48 1)<|sL Z<|bE h fun i a h=>cD (fK a)<|sF h ?_ ?_<;>intro h
       ·refine sM Z<|sV (.ptr 48 2)<|sL Z<|bE h fun c b h=>cD (fK b)<|sV (rB c)<|sA Z<|sN<|qR ?_
        exact oI h▸qD
       refine sM Z<|k3<|sU<|sA Z<|sN<|qR ?_
       exact oI h▸qD
      refine sM Z<|k3<|sU<|sM Z<|k3<|sU<|sA Z<|sN<|qR ?_
      exact oI h▸qD
     refine sM Z<|k3<|sU<|sM Z<|k3<|sU<|sM Z<|k3<|sU ?_
     refine sA Z<|sN<|qR ?_
     exact oI h▸qD
    refine sM Z<|k3<|sU<|sM Z<|k3<|sU<|sM Z<|k3<|sU ?_
    refine sM Z<|k3<|sU<|sA Z<|sN<|qR ?_
    exact oI h▸qD
   refine sM Z<|k3<|sU<|sM Z<|k3<|sU<|sM Z<|k3<|sU ?_
   refine sM Z<|k3<|sU<|sM Z<|k3<|sU<|sA Z<|sN<|qR ?_
   exact oI h▸qD
  refine sM Z<|k3<|sU<|sM Z<|k3<|sU<|sM Z<|k3<|sU ?_
  refine sM Z<|k3<|sU<|sM Z<|k3<|sU<|sM Z<|k3<|sU ?_
  refine sA Z<|sN<|qR ?_
  exact oI h▸qD
 refine sM Z<|k3<|sK<|sK<|sU<|sM Z<|k3<|sU<|sM Z<|sK<|sK ?_
 refine sK<|sU<|sM Z<|k3<|sU<|sM Z<|k3<|sU<|sM Z<|sK<|sK ?_
 refine sK<|sU<|sM Z<|k3<|sU<|sA Z<|sN<|qR ?_
 exact oI h▸qD
theorem lC{a0:(List al)}{r:Bool}(h:dv a0=some r):EvP prog aF ext 92 [rM al.pd a0] [] (rB r,[]):=by
 refine Ev.body Z Tryz.func92 Z Zk<|gU Z<|sU<|sN<|qS<|gU Z<|sM Z<|sE (rI (a0.length:Int)) (mE _ _)<|sV (r0)<|sN<|bE h fun i b h=>CI (CL (WL.mL b (fun s=>gI 0 92 2 [(0,rM al.pd a0),(5,rM al.pd a0),(6,rI (a0.length:Int)),(7,rI s)] []) (fun o=>match o with| .inl y=>gX 0 0 92 7 [(0,rM al.pd a0)] []| .inr r=>gF 92 Tryz.f92 0 (rB r,[])) Z ?_ ?_))
 ·rintro s1 l k v g h
  refine gS Z g<|sF h ?_ ?_<;>intro h
  ·refine sN<|qS<|cT<|qK<|qS<|qB<|gU Z<|sM Z<|bE h fun c m h=>eG m Z<|sV (.d (al.pd c))<|sB (.ptr 64 0) 64 (.var zZ0)<|sA Z<|sH 64 (.var (al.rc c))<|sN ?_
   refine CJ Z Z<|sV (.d (al.pd c))<|bE h fun x n h=>cD (jH n)<|sF h ?_ ?_<;>intro h
   ·refine sM Z<|k3<|k3<|k3<|k3<|sK<|sT ?_
    refine sN<|sO<|cT<|gU Z<|sU<|sN<|qR ?_
    cases oI h
    exact⟨nofun,rfl,rfl⟩
   refine mM Z<|sF h ?_ ?_<;>intro h
   ·refine sM Z<|sV (.ptr 64 0)<|sL Z<|mM Z<|sV (rI (rW (s1-(1:Int))))<|bE h fun a p h=>eG p Z<|sV (.cptr [.int .i64 a.fTo,.int .i64 a.cm.aQ,.int .i64 a.cm.aL,.int .i64 a.aI.fX,.int .i64 a.aI.fY,.int .i64 a.aI.fZ,.lst (a.ba.aD.map au.pd)])<|sC Z<|sV (rB (decide (c.bC<a.fTo)))<|sV (rB (decide (c.bC<a.fTo)))<|sF h ?_ ?_<;>intro h
    ·refine sN<|sO<|cT<|gU Z<|sU<|sN<|qR ?_
     cases oI h
     exact⟨nofun,rfl,rfl⟩
    refine sN<|sO<|cF<|qK<|CO Z Z<|sV (rI (rW (s1+(1:Int))))<|sM Z<|sN ?_
    cases oI h
    exact⟨rfl,rfl⟩
   refine sM Z<|k3<|k3<|k3<|sU<|sU ?_
   refine sN<|sO<|cF<|qK<|CO Z Z<|sV (rI (rW (s1+(1:Int))))<|sM Z<|sN ?_
   cases oI h
   exact⟨rfl,rfl⟩
  refine sN<|qS<|cF<|qX ?_
  cases oI h
  exact⟨nofun,rfl,rfl⟩
 intro e l k he j
 rcases i with u|q
 ·obtain⟨rfl,g⟩:=j
  refine qE<|gS Z g<|sM Z<|sE (rI (a0.length:Int)) (mE _ _)<|bE h fun t f h=>cD (fK f)<|sA Z<|sN<|qR ?_
  exact oI h▸qD
 obtain⟨rfl,hf⟩:=j
 cases oI h
 exact hf
theorem iy{a0:(List UInt8)}{r:Bool}(h:dW a0=some r):EvP prog aF ext 174 [rS a0] [] (rB r,[]):=by
 refine Ev.body Z Tryz.func174 Z Zk<|gU Z<|sU<|sN<|gU Z<|mM Z<|sV (rB (!(a0==a0)))<|sA Z<|sN<|qR ?_
 exact oI h▸qD
theorem dB{a0:(List UInt8)}{a1:(List UInt8)}{r:Int}(h:bW a0 a1=some r):EvP prog aF ext 140 [rS a0,rS a1] [] (rI r,[]):=by
 refine Ev.body Z Tryz.func140 Z Zk<|gU Z<|sV (r0)<|sN<|gU Z<|sM Z<|bE h fun b h1 h=>cD (iy h1)<|sA Z<|sN<|gU Z<|sM Z<|bE h fun c a h=>cD (iy a)<|sA Z ?_
 refine sN<|qS<|gU Z<|sF h ?_ ?_<;>intro h
 ·refine sN<|cT<|qS<|gU Z<|sF h ?_ ?_<;>intro h
  ·refine sN<|cT<|gU Z<|sV (r0)<|sN<|qR ?_
   exact oI h▸qD
  refine sN<|cF<|qK<|gU Z<|sV (rI (-1))<|sN<|qR ?_
  exact oI h▸qD
 refine sN<|cF<|qK<|qS<|gU Z<|sF h ?_ ?_<;>intro h
 ·refine sN<|cT<|gU Z<|sV (rI 1)<|sN<|qR ?_
  exact oI h▸qD
 refine sN<|cF<|qK<|qS<|gU Z<|mM Z<|sF h ?_ ?_<;>intro h
 ·refine sN<|cT<|gU Z<|sV (rI (-1))<|sN<|qR ?_
  exact oI h▸qD
 refine sN<|cF<|qK<|qS<|gU Z<|mM Z<|sF h ?_ ?_<;>intro h
 ·refine sN<|cT<|gU Z<|sV (rI 1)<|sN<|qR ?_
  exact oI h▸qD
 refine sN<|cF<|qK<|gU Z<|sV (r0)<|sN<|qR ?_
 exact oI h▸qD
theorem lO{a0:(List Int)}{r:Int}(h:f7 a0=some r):EvP prog aF ext 139 [rL a0] [] (rI r,[]):=by
 refine Ev.body Z Tryz.func139 Z Zk<|gU Z<|sV (r0)<|sN<|gU Z<|sV (r0)<|sN<|qS<|gU Z<|sM Z<|sE (rI (a0.length:Int)) (mE _ _)<|sV (r0)<|sN<|bE h fun j b h=>CI (CL (WL.mL b (fun s=>gI 0 139 3 [(3,r0),(6,rL a0),(7,rI (a0.length:Int)),(8,rI s)] []) (fun o=>match o with| .inl y=>gX 0 0 139 8 [(3,r0)] []| .inr r=>gF 139 Tryz.f139 0 (rI r,[])) Z ?_ ?_))
 ·rintro s1 g f k a h
  refine gS Z a<|sF h ?_ ?_<;>intro h
  ·refine sN<|qS<|cT<|qK<|qS<|qB<|gU Z<|bE h fun m i h=>eG i Z<|sC Z<|sA Z<|sN<|gU Z<|sM Z<|sM Z ?_
   refine sF h ?_ ?_<;>intro h
   ·refine sN<|cT<|gU Z<|sM Z<|sA Z<|sN<|qR ?_
    cases oI h
    exact⟨nofun,rfl,rfl⟩
   refine sN<|cF<|qK<|CO Z Z<|sV (rI (rW (s1+(1:Int))))<|sM Z<|sN ?_
   cases oI h
   exact⟨rfl,rfl⟩
  refine sN<|qS<|cF<|qX ?_
  cases oI h
  exact⟨nofun,rfl,rfl⟩
 intro e g f he c
 rcases j with n|l
 ·obtain⟨rfl,a⟩:=c
  refine qE<|gS Z a<|sM Z<|sA Z<|sN<|qR ?_
  exact oI h▸qD
 obtain⟨rfl,hf⟩:=c
 cases oI h
 exact hf
theorem jr{a0:ak}{a1:ak}{r:Int}(h:ed a0 a1=some r):EvP prog aF ext 93 [.d (ak.pd a0),.d (ak.pd a1)] [] (rI r,[]):=by
 refine Ev.body Z Tryz.func93 Z Zk<|gU Z<|sB (.ptr 32 0) 32 (.var (ak.rc a0))<|sB (.ptr 48 0) 48 (.var (ak.rc a1))<|sV (r0)<|sN<|CJ Z Z<|sV (.ptr 32 0)<|sL Z<|sV (.ptr 48 0)<|sL Z<|bE h fun f h1 h=>cD (dB h1)<|sV (.ptr 32 1)<|sL Z ?_
 refine sV (.ptr 48 1)<|sL Z<|bE h fun g a h=>cD (dB a)<|sV (.ptr 32 2)<|sL Z<|sV (.ptr 48 2)<|sL Z<|bE h fun i b h=>cD (dB b)<|sV (.ptr 32 3)<|sL Z<|sV (.ptr 48 3)<|sL Z<|bE h fun j c h=>?_
 refine cD (dB c)<|sV (.d (.lst ([f,g,i,j].map (PD.int .i64))))<|bE h fun k e h=>cD (lO e)<|sA Z ?_
 refine sN<|sO<|qR ?_
 exact oI h▸qD
theorem iS{a0:ah}{r:Bool}(h:ci a0=some r):EvP prog aF ext 52 [.d (ah.pd a0)] [] (rB r,[]):=by
 refine Ev.body Z Tryz.func52 Z Zk<|gU Z<|sB (.ptr 16 0) 16 (.var [rM aj.pd a0.aw])<|sU<|sN<|qS<|gU Z<|sV (.ptr 16 0)<|sL Z<|sE (rI (a0.aw.length:Int)) (mE _ _)<|sV (r0)<|sN<|bE h fun k b h=>CI (CL (WL.mL b (fun s=>gI 0 52 2 [(1,.ptr 16 0),(6,rM aj.pd a0.aw),(7,rI (a0.aw.length:Int)),(8,rI s)] [(16,.var [rM aj.pd a0.aw])]) (fun o=>match o with| .inl y=>gX 0 0 52 7 [(1,.ptr 16 0)] [(16,.var [rM aj.pd a0.aw])]| .inr r=>gF 52 Tryz.f52 0 (rB r,[])) Z ?_ ?_))
 ·rintro s1 n m z j h
  refine gS Z j<|sF h ?_ ?_<;>intro h
  ·refine sN<|qS<|cT<|qK<|qS<|qB<|gU Z<|sM Z<|bE h fun f p h=>eG p Z<|sV (.d (aj.pd f))<|sB (.ptr 64 0) 64 (.var [rS [],rS [],rS [],rS [],.cI])<|sA Z<|sS 64 (.var (aj.rc f))<|sN ?_
   refine CJ Z Z<|sV (.ptr 64 0)<|sV (.d (ak.pd f.az))<|bE h fun B q h=>cD (ix q)<|sF h ?_ ?_<;>intro h
   ·refine sM Z<|k3<|sK<|sT<|sM Z<|k3<|k3<|sK<|sK ?_
    refine k3<|k3<|sK<|sT ?_
    refine sN<|sO<|cT<|gU Z<|sU<|sN<|qR ?_
    cases oI h
    exact⟨nofun,rfl,rfl⟩
   refine sM Z<|sV (.ptr 64 4)<|sL Z<|bE h fun v t h=>cD (lC t)<|sV (rB (!v))<|sF h ?_ ?_<;>intro h
   ·refine sM Z<|k3<|k3<|k3<|k3<|sK<|sK ?_
    refine sK<|sT ?_
    refine sN<|sO<|cT<|gU Z<|sU<|sN<|qR ?_
    cases oI h
    exact⟨nofun,rfl,rfl⟩
   refine mM Z<|sF h ?_ ?_<;>intro h
   ·refine sM Z<|sV (.ptr 16 0)<|sL Z<|sM Z<|sV (rI (rW (s1-(1:Int))))<|bE h fun a g h=>eG g Z<|sV (.cptr [.str a.az.aZ,.str a.az.aS,.str a.az.aO,.str a.az.bg,.lst (a.aH.map al.pd)])<|sV (.d (ak.pd a.az))<|sV (.ptr 64 0)<|sV (.d (ak.pd f.az))<|bE h fun c i h=>cD (jr i)<|sV (rB (decide (c>=(0:Int))))<|sV (rB (decide (c>=(0:Int)))) ?_
    refine sF h ?_ ?_<;>intro h
    ·refine sN<|sO<|cT<|gU Z<|sU<|sN<|qR ?_
     cases oI h
     exact⟨nofun,rfl,rfl⟩
    refine sN<|sO<|cF<|qK<|CO Z Z<|sV (rI (rW (s1+(1:Int))))<|sM Z<|sN ?_
    cases oI h
    exact⟨rfl,rfl⟩
   refine sM Z<|k3<|k3<|k3<|sK<|sK<|sU<|sU ?_
   refine sN<|sO<|cF<|qK<|CO Z Z<|sV (rI (rW (s1+(1:Int))))<|sM Z<|sN ?_
   cases oI h
   exact⟨rfl,rfl⟩
  refine sN<|qS<|cF<|qX ?_
  cases oI h
  exact⟨nofun,rfl,rfl⟩
 intro e n m he l
 rcases k with x|u
 ·obtain⟨rfl,j⟩:=l
  refine qE<|gS Z j<|sV (.ptr 16 0)<|sL Z<|sE (rI (a0.aw.length:Int)) (mE _ _)<|sV (rB (decide ((a0.aw.length:Int)<=(128:Int))))<|sA Z<|sN<|qR ?_
  exact oI h▸qD
 obtain⟨rfl,hf⟩:=l
 cases oI h
 exact hf
theorem kl{d0:(List ai)}{r:(List ai)}(h:db d0=some r):EvP prog aF ext 97 [.ref 0 0] [.arr 0 83 (d0.map ai.pd)] (rM ai.pd r,[.dead]):=by
 refine Ev.body Z Tryz.func97 Z Zk<|gU Z<|sV .cI<|sN<|qS<|gU Z<|sM Z<|WO.vK Z Z Z Z Z Z Z Z Z<|sF h ?_ ?_<;>intro h
 ·refine sN<|cT<|gU Z<|sM Z<|sA Z<|sN<|qR ?_
  exact oI h▸qD
 refine sN<|cF<|qK<|qS<|gU Z<|sV (rI 1)<|sN<|bE h fun O j h=>CI (CL (WL.mL j (fun s=>gI 1 97 4 [(0,.ref 0 0),(3,rI s)] [(0,.arr 0 83 (d0.map ai.pd))]) (fun o=>match o with| .inl y=>gX 0 1 97 16 [(0,.ref 0 0)] [(0,.arr 0 83 (d0.map ai.pd))]| .inr r=>gF 97 Tryz.f97 1 (rM ai.pd r,[.dead])) Z ?_ ?_))
 ·rintro s2 t q q3 c h
  refine qS<|gS Z c<|mM Z<|WO.vK Z Z Z Z Z Z Z Z Z<|sF h ?_ ?_<;>intro h
  ·refine sN<|cT<|qK<|qS<|qB<|CJ Z Z<|mM Z<|bE h fun x6 X h=>WO.qi X Z Z Z Z Z Z Z Z<|bE h fun W Y h=>WO.qJ Y Z Z Z Z Z Z<|mM Z<|sV (rI (rW (s2-(1:Int)))) ?_
   refine bE h fun x9 h9 h=>WO.qi h9 Z Z Z Z Z Z Z Z<|bE h fun k u h=>WO.qJ u Z Z Z Z Z Z<|na h (fun a h=>?_) (fun a h=>?_)
   ·refine WO.pO (eqE_83 W k) a Z Z Z Z Z ?_
    refine sN<|sO<|cT<|gU Z<|mM Z<|bE h fun a9 v h=>WO.subR v Z Z Z Z Z Z Z Z Z Z Z Z<|sA Z<|sN<|qS<|gU Z<|sV (rI 1)<|sN<|bE h fun a5 i h=>CI (CL (WL.mL i (fun s=>gI 1 97 9 [(0,.ref 0 0),(3,rI s.1),(4,.view 0 0 (0+(s2:Int).toNat) (0+((d0.length:Int):Int).toNat)),(5,rI s.2.1)] [(0,.arr 0 83 (s.2.2.map ai.pd))]) (fun o=>gX 2 1 97 14 [(0,.ref 0 0),(3,rI o.1)] [(0,.arr 0 83 (o.2.map ai.pd))]) Z ?_ ?_))
    ·rintro⟨Q,f,a8⟩ t q a6 c h
     unfold eb at h
     refine qS<|gS Z c<|mM Z<|bE h fun b0 x h=>WO.lenVw x Z Z Z Z Z Z Z Z Z<|sF h ?_ ?_<;>intro h
     ·refine sN<|cT<|qK<|qS<|qB<|CJ Z Z<|mM Z<|bE h fun b1 B h=>WO.eltV B Z Z Z Z Z Z Z Z<|bE h fun l C h=>WO.qJ C Z Z Z Z Z Z<|mM Z<|sV (rI (rW (f-(1:Int)))) ?_
      refine bE h fun b2 D h=>WO.eltV D Z Z Z Z Z Z Z Z<|bE h fun m E h=>WO.qJ E Z Z Z Z Z Z<|na h (fun b h=>?_) (fun b h=>?_)
      ·refine WO.pO (eqN_83 l m) b Z Z Z Z Z ?_
       refine sN<|sO<|cT<|gU Z<|mM Z<|mM Z<|bE h fun b3 F h=>WO.eltV F Z Z Z Z Z Z Z Z<|bE h fun T G h=>WO.qJ G Z Z Z Z Z Z<|bE h fun b4 H h=>WO.qi H Z Z Z Z Z Z Z Z<|bE h fun b5 I h=>WO.rA (g:=ai.pd) (sz:=9) (p:=ai.pd T) I (by intro _;kernel_rfl) (by intro _;kernel_rfl) Z Z Z Z Z Z Z Z Z ?_
       refine sN<|CO Z Z<|sM Z<|sV (rI (rW (Q+(1:Int))))<|sA Z<|sN<|CO Z Z<|sM Z<|sV (rI (rW (f+(1:Int))))<|sA Z<|sN ?_
       cases oI h
       exact⟨rfl,rfl⟩
      refine WO.pO (eqN_83 l m) b Z Z Z Z Z ?_
      refine sN<|sO<|cF<|qK<|CO Z Z<|sM Z<|sV (rI (rW (f+(1:Int))))<|sA Z<|sN ?_
      cases oI h
      exact⟨rfl,rfl⟩
     refine sN<|cF<|qX ?_
     cases oI h
     exact⟨nofun,rfl,rfl⟩
    intro e t q he n
    obtain⟨rfl,c⟩:=n
    refine qE<|gS Z c<|mM Z<|bE h fun b6 J h=>WO.subR J Z Z Z Z Z Z Z Z Z Z Z Z<|bE h fun c0 K h=>WO.clearN (z:=(ai.mk (ak.mk [] [] [] []) 0 0 0 0 0)) (g:=ai.pd) Z Z Z Z Z Z Z (xD K Z) Z Z Z Z<|sN<|gU Z<|mM Z<|bE h fun c1 L h=>WO.subR L Z Z Z Z Z Z Z Z Z Z Z Z<|sA Z ?_
    refine sN<|qR<|bE h fun c2 N h=>?_
    cases oI h
    exact⟨nofun,rfl,(xJ N rfl rfl rfl rfl rfl)⟩
   refine WO.pO (eqE_83 W k) a Z Z Z Z Z ?_
   refine sN<|sO<|cF<|qK<|CO Z Z<|sM Z<|sV (rI (rW (s2+(1:Int))))<|sA Z<|sN ?_
   cases oI h
   exact⟨rfl,rfl⟩
  refine sN<|cF<|qX ?_
  cases oI h
  exact⟨nofun,rfl,rfl⟩
 intro e t q he n
 rcases O with c3|a7
 ·obtain⟨rfl,c⟩:=n
  refine qE<|gS Z c<|sM Z<|sA Z<|sN<|qR ?_
  exact oI h▸qD
 obtain⟨rfl,hf⟩:=n
 cases oI h
 exact hf
theorem picker_Sort_ev{a0:(List ai)}{r:(List ai)}(h:ie a0=some r):EvP prog aF ext 53 [rM ai.pd a0] [] (rM ai.pd r,[]):=by
 refine Ev.body Z Tryz.func53 Z Zk<|gU Z<|sV .cI<|sN<|gU Z<|sM Z<|bE h fun c h1 h=>cR (.ref 80 0) [(80,.arr 0 83 (c.map ai.pd))] (clone_94 h1)<|sA Z<|sN<|gU Z<|sM Z<|bE h fun e a h=>cR (.tup []) [(80,.arr 0 83 (e.map ai.pd))] (sort_95_96 a)<|sN ?_
 refine gU Z<|sM Z<|bE h fun f b h=>cR (rM ai.pd f) [(80,.dead)] (kl b)<|sA Z<|sN<|qR ?_
 exact oI h▸qD
theorem mr{a0:Int}{a1:Int}{a2:Int}{r:Bool}(h:eK a0 a1 a2=some r):EvP prog aF ext 144 [rI a0,rI a1,rI a2] [] (rB r,[]):=by
 refine Ev.body Z Tryz.func144 Z Zk<|gU Z<|sU<|sN<|gU Z<|mM Z<|sF h ?_ ?_<;>intro h
 ·refine mM Z<|sM Z<|sV (rB (decide (a0<=a2)))<|sV (rB (decide (a0<=a2)))<|sA Z<|sN<|qR ?_
  exact oI h▸qD
 refine sM Z<|k3<|sU<|sA Z<|sN<|qR ?_
 exact oI h▸qD
theorem lF{a0:ai}{r:Bool}(h:cG a0=some r):EvP prog aF ext 98 [.d (ai.pd a0)] [] (rB r,[]):=by
 refine Ev.body Z Tryz.func98 Z Zk<|gU Z<|sB (.ptr 16 0) 16 (.var (ai.rc a0))<|sU<|sN<|gU Z<|sV (.ptr 16 0)<|sV (.d (ak.pd a0.az))<|bE h fun g h1 h=>na h (fun a h=>?_) (fun a h=>?_)
 ·refine WO.nL (v:=rB true) (u:=[]) Z Z (fun _=>Z) Z Z Z Z Z (ix h1) Z Z (congrArg (fun b=>RV.d (.bool b)) a) Z<|sM Z<|sV (.ptr 16 5)<|sL Z<|sV (rB (decide (a0.bd>=(0:Int))))<|sF h ?_ ?_<;>intro h
  ·refine sM Z<|sV (.ptr 16 5)<|sL Z<|sV (.ptr 16 4)<|sL Z<|sV (rB (decide (a0.bd<=a0.br)))<|sF h ?_ ?_<;>intro h
   ·refine sM Z<|sV (.ptr 16 4)<|sL Z<|sV (.ptr 16 6)<|sL Z<|sV (rB (decide (a0.br<=a0.bk)))<|sF h ?_ ?_<;>intro h
    ·refine sM Z<|sV (.ptr 16 6)<|sL Z<|sV (rB (decide (a0.bk<=(18014398509481984:Int))))<|sF h ?_ ?_<;>intro h
     ·refine sM Z<|sV (.ptr 16 7)<|sL Z<|bE h fun i c h=>cD (mr c)<|sF h ?_ ?_<;>intro h
      ·refine sM Z<|sV (.ptr 16 8)<|sL Z<|bE h fun f e h=>cD (mr e)<|sV (rB f)<|sA Z<|sN<|qR ?_
       cases oI h
       exact qG
      refine sM Z<|k3<|sU<|sA Z<|sN<|qR ?_
      cases oI h
      exact qG
     refine sM Z<|k3<|sU<|sM Z<|k3<|sU<|sA Z<|sN<|qR ?_
     cases oI h
     exact qG
    refine sM Z<|k3<|sU<|sM Z<|k3<|sU<|sM Z<|k3<|sU ?_
    refine sA Z<|sN<|qR ?_
    cases oI h
    exact qG
   refine sM Z<|k3<|sK<|sK<|sU<|sM Z<|k3<|sU<|sM Z<|sK<|sK ?_
   refine sK<|sU<|sM Z<|k3<|sU<|sA Z<|sN<|qR ?_
   cases oI h
   exact qG
  refine sM Z<|k3<|sK<|sK<|sU<|sM Z<|k3<|sK<|sK<|sU<|sM Z ?_
  refine k3<|sU<|sM Z<|k3<|sU<|sM Z<|k3<|sU<|sA Z ?_
  refine sN<|qR ?_
  cases oI h
  exact qG
 refine WO.nL (v:=rB false) (u:=[]) Z Z (fun _=>Z) Z Z Z Z Z (ix h1) Z Z (congrArg (fun b=>RV.d (.bool b)) a) Z<|sM Z<|k3<|sU<|sM Z<|k3<|sK<|sK<|sU<|sM Z<|sK ?_
 refine k3<|sK<|sU<|sM Z<|k3<|sU<|sM Z<|k3<|sU ?_
 refine sM Z<|k3<|sU<|sA Z<|sN<|qR ?_
 cases oI h
 exact qG
theorem jU{a0:al}{r:al}(h:dS a0=some r):EvP prog aF ext 228 [.d (al.pd a0)] [] (.d (al.pd r),[]):=by
 refine Ev.body Z Tryz.func228 Z Zk<|gU Z<|sB (.ptr 16 0) 16 (.var (al.rc a0))<|sB (.ptr 32 0) 32 (.var zZ0)<|sN<|gU Z<|sV (.ptr 16 7)<|sV (.ptr 16 7)<|sL Z<|bE h fun k h1 h=>cR (.ref 112 0) [(112,.arr 0 114 (k.map au.pd))] (clone_247 h1)<|sV (.ptr 16 7)<|sV (.ptr 16 7)<|sS 16 (.var (rI a0.bC::rI a0.fTo::rI a0.cm.aQ::rI a0.cm.aL::ac.rc a0.aI++[.ref 112 0]))<|sN ?_
 refine qS<|gU Z<|sV (.ptr 16 7)<|sV (.ptr 16 7)<|sL Z<|WO.vK Z Z Z Z Z Z Z Z Z<|sV (r0)<|sN<|bE h fun t a h=>CI (CL (WL.mL a (fun s=>gI 0 228 3 [(1,.ptr 16 0),(2,.ptr 32 0),(13,rI (k.length:Int)),(14,rI s.1)] [(16,.var (rI a0.bC::rI a0.fTo::rI a0.cm.aQ::rI a0.cm.aL::ac.rc a0.aI++[.ref 112 0])),(32,.var zZ0),(112,.arr 0 114 (s.2.map au.pd))]) (fun o=>gX 0 0 228 7 [(1,.ptr 16 0),(2,.ptr 32 0)] [(16,.var (rI a0.bC::rI a0.fTo::rI a0.cm.aQ::rI a0.cm.aL::ac.rc a0.aI++[.ref 112 0])),(32,.var zZ0),(112,.arr 0 114 (o.map au.pd))]) Z ?_ ?_))
 ·rintro⟨s2,z⟩ m l y i h
  refine gS Z i<|sF h ?_ ?_<;>intro h
  ·refine sN<|qS<|cT<|qK<|qS<|qB<|gU Z<|sM Z<|sA Z<|sN<|CN Z Z<|sV (.ptr 16 7)<|sV (.ptr 16 7)<|sL Z<|sM Z ?_
   refine sV (.ptr 16 7)<|sV (.ptr 16 7)<|sL Z<|sM Z<|bE h fun B n h=>WO.qi n Z Z Z Z Z Z Z Z<|sV (.elt 112 0 (s2).toNat 7)<|bE h fun C p h=>WO.qJ p Z Z Z Z Z Z<|bE h fun j b h=>cR (.ref 448 0) [(448,.arr 0 3 (j.map (PD.int .i64)))] (clone_80 b)<|bE h fun v c h=>WO.qi c Z Z Z Z Z Z Z Z<|sV (.elt 112 0 (s2).toNat 7)<|bE h fun x f h=>?_
   refine WO.yL (g:=au.pd) (u:=[(448,.dead)]) (sz:=1) f (fun _=>Z) (fun _=>Nat.le_of_ble_eq_true Z) Z Z Z Z Z Z Z Z Z Z Z ?_
   refine sN<|sO<|CO Z Z<|sV (rI (rW (s2+(1:Int))))<|sM Z<|sN ?_
   cases oI h
   exact⟨rfl,rfl⟩
  refine sN<|qS<|cF<|qX ?_
  cases oI h
  exact⟨nofun,rfl,rfl⟩
 intro e m l he q
 obtain⟨rfl,i⟩:=q
 refine qE<|gS Z i<|sV (.agg (rI a0.bC::rI a0.fTo::rI a0.cm.aQ::rI a0.cm.aL::ac.rc a0.aI++[.ref 112 0]))<|sH 32 (.var (rI a0.bC::rI a0.fTo::rI a0.cm.aQ::rI a0.cm.aL::ac.rc a0.aI++[.ref 112 0]))<|sN<|qR ?_
 cases oI h
 exact qG
theorem lB{a0:aj}{r:aj}(h:fe a0=some r):EvP prog aF ext 186 [.d (aj.pd a0)] [] (.agg (ak.rc r.az++[.ref 0 0]),[.arr 0 74 (r.aH.map al.pd)]):=by
 refine Ev.body Z Tryz.func186 Z Zk<|gU Z<|sB (.ptr 16 0) 16 (.var (aj.rc a0))<|sB (.ptr 32 0) 32 (.var [rS [],rS [],rS [],rS [],.cI])<|sN<|gU Z<|sV (.ptr 16 4)<|sL Z<|bE h fun k h1 h=>cR (.ref 112 0) [(112,.arr 0 74 (k.map al.pd))] (clone_227 h1)<|sV (.ptr 16 4)<|sS 16 (.var (ak.rc a0.az++[.ref 112 0]))<|sN<|qS<|gU Z ?_
 refine sV (.ptr 16 4)<|sL Z<|WO.vK Z Z Z Z Z Z Z Z Z<|sV (r0)<|sN<|bE h fun v a h=>CI (CL (WL.mL a (fun s=>gI 0 186 3 [(1,.ptr 16 0),(2,.ptr 32 0),(10,.ref 112 0),(11,rI (k.length:Int)),(12,rI s.1)] [(16,.var (ak.rc a0.az++[.ref 112 0])),(32,.var [rS [],rS [],rS [],rS [],.cI]),(112,.arr 0 74 (s.2.map al.pd))]) (fun o=>gX 0 0 186 7 [(1,.ptr 16 0),(2,.ptr 32 0)] [(16,.var (ak.rc a0.az++[.ref 112 0])),(32,.var [rS [],rS [],rS [],rS [],.cI]),(112,.arr 0 74 (o.map al.pd))]) Z ?_ ?_))
 ·rintro⟨s2,B⟩ n m z i h
  refine gS Z i<|sF h ?_ ?_<;>intro h
  ·refine sN<|qS<|cT<|qK<|qS<|qB<|gU Z<|sM Z<|bE h fun C q h=>WO.qi q Z Z Z Z Z Z Z Z<|bE h fun l t h=>WO.qJ t Z Z Z Z Z Z<|sB (.ptr 64 0) 64 (.var zZ0)<|sA Z<|sH 64 (.var (al.rc l)) ?_
   refine sN<|CN Z Z<|sV (.ptr 16 4)<|sL Z<|sM Z<|sV (.d (al.pd l))<|bE h fun j b h=>cD (jU b)<|bE h fun x c h=>WO.qi c Z Z Z Z Z Z Z Z<|bE h fun y f h=>WO.rA (g:=al.pd) (sz:=8) (p:=al.pd j) f (by intro _;kernel_rfl) (by intro _;kernel_rfl) Z Z Z Z Z Z Z Z Z ?_
   refine sN<|sO<|CO Z Z<|sV (rI (rW (s2+(1:Int))))<|sM Z<|sN ?_
   cases oI h
   exact⟨rfl,rfl⟩
  refine sN<|qS<|cF<|qX ?_
  cases oI h
  exact⟨nofun,rfl,rfl⟩
 intro e n m he u
 obtain⟨rfl,i⟩:=u
 refine qE<|gS Z i<|sV (.agg (ak.rc a0.az++[.ref 112 0]))<|sS 32 (.var (ak.rc a0.az++[.ref 112 0]))<|sN<|qR ?_
 exact oI h▸qD
theorem mj{a0:ah}{a1:ak}{r:aj×Bool}(h:gp a0 a1=some r):EvP prog aF ext 145 [.d (ah.pd a0),.d (ak.pd a1)] [] (.tup [.d (aj.pd r.1),rB r.2],[]):=by
 refine Ev.body Z Tryz.func145 Z Zk<|gU Z<|sB (.ptr 32 0) 32 (.var [rM aj.pd a0.aw])<|sB (.ptr 48 0) 48 (.var (ak.rc a1))<|sB (.ptr 64 0) 64 (.var [rS [],rS [],rS [],rS [],.cI])<|sU<|sN<|qS<|gU Z<|sV (.ptr 32 0)<|sL Z<|sE (rI (a0.aw.length:Int)) (mE _ _)<|sV (r0)<|sN<|bE h fun n f h=>?_
 refine CI (CL (WL.mL f (fun s=>gI 0 145 2 [(3,.ptr 48 0),(4,.ptr 64 0),(9,rM aj.pd a0.aw),(10,rI (a0.aw.length:Int)),(11,rI s)] [(48,.var (ak.rc a1)),(64,.var [rS [],rS [],rS [],rS [],.cI])]) (fun o=>match o with| .inl y=>gX 0 0 145 7 [(4,.ptr 64 0)] [(64,.var [rS [],rS [],rS [],rS [],.cI])]| .inr r=>gF 145 Tryz.f145 0 (.tup [.d (aj.pd r.1),rB r.2],[])) Z ?_ ?_))
 ·rintro s1 k j q c h
  refine gS Z c<|sF h ?_ ?_<;>intro h
  ·refine sN<|qS<|cT<|qK<|qS<|qB<|gU Z<|bE h fun b l h=>eG l Z<|sV (.d (aj.pd b))<|sB (.ptr 112 0) 112 (.var [rS [],rS [],rS [],rS [],.cI])<|sS 112 (.var (aj.rc b))<|sN<|gU Z<|sV (.ptr 112 0) ?_
   refine sV (.d (ak.pd b.az))<|sV (.d (ak.pd a1))<|na h (fun a h=>?_) (fun a h=>?_)
   ·refine WO.pO (eqE_63 b.az a1) a Z Z Z Z Z<|sN<|cT<|gU Z<|sV (.d (aj.pd b))<|bE h fun g m h=>cR (.agg (ak.rc g.az++[.ref 320 0])) [(320,.arr 0 74 (g.aH.map al.pd))] (lB m)<|sS 64 (.var (ak.rc g.az++[.ref 320 0]))<|sT<|sN<|qR ?_
    cases oI h
    exact⟨nofun,rfl,rfl⟩
   refine WO.pO (eqE_63 b.az a1) a Z Z Z Z Z<|sN<|cF<|qK<|CO Z Z<|sV (rI (rW (s1+(1:Int))))<|sM Z<|sN ?_
   cases oI h
   exact⟨rfl,rfl⟩
  refine sN<|qS<|cF<|qX ?_
  cases oI h
  exact⟨nofun,rfl,rfl⟩
 intro e k j he i
 rcases n with t|p
 ·obtain⟨rfl,c⟩:=i
  refine qE<|gS Z c<|sV (.agg [rS [],rS [],rS [],rS [],.cI])<|sS 64 (.var [rS [],rS [],rS [],rS [],.cI])<|sU<|sN<|qR ?_
  exact oI h▸qD
 obtain⟨rfl,hf⟩:=i
 cases oI h
 exact hf
theorem inventory_at_ev{a0:aj}{a1:Int}{r:al×Bool}(h:iG a0 a1=some r):EvP prog aF ext 146 [.d (aj.pd a0),rI a1] [] (.tup [.d (al.pd r.1),rB r.2],[]):=by
 refine Ev.body Z Tryz.func146 Z Zk<|gU Z<|sB (.ptr 32 0) 32 (.var (aj.rc a0))<|sB (.ptr 64 0) 64 (.var zZ0)<|sU<|sN<|qS<|gU Z<|sV (.ptr 32 4)<|sL Z<|sE (rI (a0.aH.length:Int)) (mE _ _)<|sV (r0)<|sN<|bE h fun k c h=>CI (CL (WL.mL c (fun s=>gI 0 146 2 [(1,rI a1),(4,.ptr 64 0),(9,rM al.pd a0.aH),(10,rI (a0.aH.length:Int)),(11,rI s)] [(64,.var zZ0)]) (fun o=>match o with| .inl y=>gX 0 0 146 7 [(4,.ptr 64 0)] [(64,.var zZ0)]| .inr r=>gF 146 Tryz.f146 0 (.tup [.d (al.pd r.1),rB r.2],[])) Z ?_ ?_))
 ·rintro s1 i g m b h
  refine gS Z b<|sF h ?_ ?_<;>intro h
  ·refine sN<|qS<|cT<|qK<|qS<|qB<|gU Z<|bE h fun a j h=>eG j Z<|sV (.d (al.pd a))<|sB (.ptr 112 0) 112 (.var zZ0)<|sH 112 (.var (al.rc a))<|sN<|gU Z<|sV (.ptr 112 0) ?_
   refine sL Z<|sM Z<|sF h ?_ ?_<;>intro h
   ·refine mM Z<|sV (.ptr 112 1)<|sL Z<|sV (rB (decide (a1<a.fTo)))<|sF h ?_ ?_<;>intro h
    ·refine sN<|cT<|gU Z<|sV (.d (al.pd a))<|sH 64 (.var (al.rc a))<|sT<|sN<|qR ?_
     cases oI h
     exact⟨nofun,rfl,rfl⟩
    refine sN<|cF<|qK<|CO Z Z<|sV (rI (rW (s1+(1:Int))))<|sM Z<|sN ?_
    cases oI h
    exact⟨rfl,rfl⟩
   refine sM Z<|k3<|sK<|sU<|sN<|cF<|qK<|CO Z Z<|sV (rI (rW (s1+(1:Int))))<|sM Z<|sN ?_
   cases oI h
   exact⟨rfl,rfl⟩
  refine sN<|qS<|cF<|qX ?_
  cases oI h
  exact⟨nofun,rfl,rfl⟩
 intro e i g he f
 rcases k with n|l
 ·obtain⟨rfl,b⟩:=f
  refine qE<|gS Z b<|sG (.agg zZ0)<|sH 64 (.var zZ0)<|sU<|sN<|qR ?_
  cases oI h
  exact qG
 obtain⟨rfl,hf⟩:=f
 cases oI h
 exact hf
theorem inventory_At_ev{a0:ah}{a1:ak}{a2:Int}{r:al×Int}(h:fd a0 a1 a2=some r):EvP prog aF ext 99 [.d (ah.pd a0),.d (ak.pd a1),rI a2] [] (.tup [.d (al.pd r.1),rI r.2],[]):=by
 refine Ev.body Z Tryz.func99 Z Zk<|gU Z<|sB (.ptr 48 0) 48 (.var [rM aj.pd a0.aw])<|sB (.ptr 64 0) 64 (.var (ak.rc a1))<|sB (.ptr 96 0) 96 (.var zZ0)<|sV (r0)<|sN<|qS<|gU Z<|sV (.d (ah.pd a0))<|bE h fun f h1 h=>cD (iS h1)<|sF h ?_ ?_<;>intro h
 ·refine sN<|cT<|gU Z<|sG (.agg zZ0)<|sH 96 (.var zZ0)<|sV (rI 1)<|sN<|qR ?_
  cases oI h
  exact qG
 refine sN<|cF<|qK<|gU Z<|sV (.d (ah.pd a0))<|sV (.d (ak.pd a1))<|bE h fun b c h=>cR (.tup [.d (aj.pd b.1),rB b.2]) [] (mj c)<|sM Z<|sV (.d (aj.pd b.1))<|sV (rB b.2)<|sB (.ptr 128 0) 128 (.var [rS [],rS [],rS [],rS [],.cI])<|sS 128 (.var (aj.rc b.1))<|sA Z<|sN ?_
 refine gU Z<|sV (.d (aj.pd b.1))<|sM Z<|bE h fun a e h=>cR (.tup [.d (al.pd a.1),rB a.2]) [] (inventory_at_ev e)<|sM Z<|sV (.d (al.pd a.1))<|sV (rB a.2)<|sB (.ptr 160 0) 160 (.var zZ0)<|sH 160 (.var (al.rc a.1))<|sA Z<|sN<|qS<|gU Z<|sM Z ?_
 refine sF h ?_ ?_<;>intro h
 ·refine sN<|cT<|gU Z<|sG (.agg zZ0)<|sH 96 (.var zZ0)<|sV (rI 6)<|sN<|qR ?_
  cases oI h
  exact qG
 refine sN<|cF<|qK<|gU Z<|sV (.d (al.pd a.1))<|sH 96 (.var (al.rc a.1))<|sV (r0)<|sN<|qR ?_
 cases oI h
 exact qG
theorem solution_used_ev{a0:ag}{a1:ah}{a2:ai}{r:aC×al×Bool}(h:dP a0 a1 a2=some r):EvP prog aF ext 54 [.d (ag.pd a0),.d (ah.pd a1),.d (ai.pd a2)] [] (.tup [.d (aC.pd r.1),.d (al.pd r.2.1),rB r.2.2],[]):=by
 refine Ev.body Z Tryz.func54 Z Zk<|gU Z<|sB (.ptr 48 0) 48 (.var (ag.rc a0))<|sB (.ptr 64 0) 64 (.var [rM aj.pd a1.aw])<|sB (.ptr 80 0) 80 (.var (ai.rc a2))<|sB (.ptr 96 0) 96 (.var zZ1)<|sB (.ptr 112 0) 112 (.var zZ0)<|sU<|sN<|qS<|gU Z<|sV (.d (ai.pd a2))<|bE h fun f h1 h=>cD (lF h1)<|sF h ?_ ?_<;>intro h
 ·refine sN<|cT<|gU Z<|sG (.d (aC.pd (aC.mk (ac.mk 0 0 0) 0 0 0)))<|sG (.agg zZ0)<|sH 96 (.var zZ1)<|sH 112 (.var zZ0)<|sU<|sN<|qR ?_
  cases oI h
  exact qG
 refine sN<|cF<|qK<|gU Z<|sV (.d (ah.pd a1))<|sV (.ptr 80 0)<|sV (.d (ak.pd a2.az))<|sV (.ptr 80 4)<|sL Z<|bE h fun a c h=>cR (.tup [.d (al.pd a.1),rI a.2]) [] (inventory_At_ev c)<|sM Z<|sV (.d (al.pd a.1))<|sV (rI a.2)<|sB (.ptr 144 0) 144 (.var zZ0) ?_
 refine sH 144 (.var (al.rc a.1))<|sA Z<|sN<|qS<|gU Z<|sM Z<|sF h ?_ ?_<;>intro h
 ·refine sN<|cT<|gU Z<|sG (.d (aC.pd (aC.mk (ac.mk 0 0 0) 0 0 0)))<|sG (.agg zZ0)<|sH 96 (.var zZ1)<|sH 112 (.var zZ0)<|sU<|sN<|qR ?_
  cases oI h
  exact qG
 refine sN<|cF<|qK<|gU Z<|sV (.ptr 144 4)<|sV (.d (ac.pd a.1.aI))<|sV (.ptr 80 5)<|sL Z<|sV (.ptr 80 6)<|sL Z<|sG (.d (aC.pd (aC.mk a.1.aI a2.bd a2.bk 1)))<|sB (.ptr 176 0) 176 (.var zZ1)<|sH 176 (.var (ac.rc a.1.aI++[rI a2.bd,rI a2.bk,rI 1]))<|sN<|qS ?_
 refine gU Z<|sV (.ptr 48 0)<|sV (.ptr 48 6)<|sV (.d (ap.pd a0.ae.bj))<|sV (.ptr 48 0)<|sV (.ptr 48 0)<|sV (.d (aq.pd a0.ae.aU))<|sV (.d (aC.pd (aC.mk a.1.aI a2.bd a2.bk 1)))<|bE h fun b e h=>cR (.tup [.d (bv.pd b.1),rI b.2]) [] (lN e)<|sM Z<|sV (.d (bv.pd b.1))<|sV (rI b.2)<|sB (.ptr 192 0) 192 (.var [r0,r0])<|sS 192 (.var [rI b.1.bC,rI b.1.fTo]) ?_
 refine sA Z<|sN<|gU Z<|sM Z<|sF h ?_ ?_<;>intro h
 ·refine sN<|cT<|gU Z<|sG (.d (aC.pd (aC.mk (ac.mk 0 0 0) 0 0 0)))<|sG (.agg zZ0)<|sH 96 (.var zZ1)<|sH 112 (.var zZ0)<|sU<|sN<|qR ?_
  cases oI h
  exact qG
 refine sN<|cF<|qK<|CJ Z Z<|sV (.d (aC.pd (aC.mk a.1.aI a2.bd a2.bk 1)))<|sV (.d (al.pd a.1))<|sH 96 (.var (ac.rc a.1.aI++[rI a2.bd,rI a2.bk,rI 1]))<|sH 112 (.var (al.rc a.1))<|sT ?_
 refine sN<|sO<|qR ?_
 cases oI h
 exact qG
theorem ma{a0:ag}{a1:ah}{a2:(List ai)}{r:aX×Int}(h:iw a0 a1 a2=some r):EvP prog aF ext 31 [.d (ag.pd a0),.d (ah.pd a1),rM ai.pd a2] [] (.tup [.d (aX.pd r.1),rI r.2],[]):=by
 refine Ev.body Z Tryz.func31 Z Zk<|gU Z<|sB (.ptr 48 0) 48 (.var (ag.rc a0))<|sB (.ptr 64 0) 64 (.var [rM aj.pd a1.aw])<|sB (.ptr 96 0) 96 (.var [.cI,.cI,.cI])<|sV (r0)<|sN<|gU Z<|sB (.ptr 128 0) 128 (.var [.cI,.cI,.cI])<|sN<|qS<|qB<|gU Z<|sV (.d (ag.pd a0))<|bE h fun G h1 h=>?_
 refine cD (lg h1)<|sF h ?_ ?_<;>intro h
 ·refine sA Z<|sN<|cT<|gU Z<|sV (.agg [.cI,.cI,.cI])<|sS 96 (.var [.cI,.cI,.cI])<|sV (rI 27)<|sN<|qR ?_
  cases oI h
  exact qG
 refine sA Z<|sN<|cF<|gU Z<|sV (.d (ah.pd a1))<|bE h fun H t h=>cD (iS t)<|sF h ?_ ?_<;>intro h
 ·refine sA Z<|sN<|cT<|gU Z<|sV (.agg [.cI,.cI,.cI])<|sS 96 (.var [.cI,.cI,.cI])<|sV (rI 1)<|sN<|qR ?_
  cases oI h
  exact qG
 refine sA Z<|sN<|cF<|qK<|qS<|gU Z<|sM Z<|bE h fun m u h=>cD (picker_Sort_ev u)<|sE (rI (m.length:Int)) (mE _ _)<|sV (r0)<|sN<|bE h fun x c h=>CI (CL (WL.mL c (fun s=>gI 0 31 7 [(3,.ptr 48 0),(4,.ptr 64 0),(6,.ptr 96 0),(8,.ptr 128 0),(25,rM ai.pd m),(26,rI (m.length:Int)),(27,rI s.1)] [(48,.var (ag.rc a0)),(64,.var [rM aj.pd a1.aw]),(96,.var [.cI,.cI,.cI]),(128,.var [.ref 704 0,.ref 784 0,.ref 864 0]),(704,.arr 0 83 (s.2.1.map ai.pd)),(784,.arr 0 131 (s.2.2.1.map aC.pd)),(864,.arr 0 74 (s.2.2.2.map al.pd))]) (fun o=>gX 1 0 31 13 [(6,.ptr 96 0),(8,.ptr 128 0)] [(96,.var [.cI,.cI,.cI]),(128,.var [.ref 704 0,.ref 784 0,.ref 864 0]),(704,.arr 0 83 (o.1.map ai.pd)),(784,.arr 0 131 (o.2.1.map aC.pd)),(864,.arr 0 74 (o.2.2.map al.pd))]) Z ?_ ?_))
 ·rintro⟨n,D,E,F⟩ q p y l h
  refine gS Z l<|sF h ?_ ?_<;>intro h
  ·refine sN<|qS<|cT<|qK<|qS<|qB<|gU Z<|bE h fun b f h=>eG f Z<|sV (.d (ai.pd b))<|sB (.ptr 160 0) 160 (.var [rS [],rS [],rS [],rS [],r0,r0,r0,r0,r0])<|sH 160 (.var (ai.rc b))<|sN<|gU Z<|sV (.d (ag.pd a0)) ?_
   refine sV (.d (ah.pd a1))<|sV (.d (ai.pd b))<|bE h fun a g h=>cR (.tup [.d (aC.pd a.1),.d (al.pd a.2.1),rB a.2.2]) [] (solution_used_ev g)<|sM Z<|sV (.d (aC.pd a.1))<|sV (.d (al.pd a.2.1))<|sV (rB a.2.2)<|sB (.ptr 176 0) 176 (.var zZ1)<|sB (.ptr 192 0) 192 (.var zZ0)<|sH 176 (.var (aC.rc a.1))<|sH 192 (.var (al.rc a.2.1))<|sA Z<|sN<|gU Z ?_
   refine sF h ?_ ?_<;>intro h
   ·refine sN<|cT<|CN Z Z<|sV (.ptr 128 0)<|sL Z<|sV (.d (ai.pd b))<|sG (.d (.lst ([b].map ai.pd)))<|bE h fun z i h=>aR i (fun _=>Z) Z<|sV (.ptr 128 1)<|sL Z<|sV (.d (aC.pd a.1))<|sV (.d (.lst ([a.1].map aC.pd)))<|bE h fun B j h=>aR j (fun _=>Z) Z ?_
    refine sV (.ptr 128 2)<|sL Z<|sV (.d (al.pd a.2.1))<|sG (.d (.lst ([a.2.1].map al.pd)))<|bE h fun C k h=>aR k (fun _=>Z) Z<|sV (.ptr 128 0)<|sS 128 (.var [.ref 704 1,.ref 784 0,.ref 864 0])<|sV (.ptr 128 1)<|sS 128 (.var [.ref 704 1,.ref 784 1,.ref 864 0])<|sV (.ptr 128 2)<|sS 128 (.var [.ref 704 1,.ref 784 1,.ref 864 1]) ?_
    refine sN<|sO<|CO Z Z<|sV (rI (rW (n+(1:Int))))<|sM Z<|sN ?_
    cases oI h
    exact⟨rfl,rfl⟩
   refine sN<|cF<|qK<|CO Z Z<|sV (rI (rW (n+(1:Int))))<|sM Z<|sN ?_
   cases oI h
   exact⟨rfl,rfl⟩
  refine sN<|qS<|cF<|qX ?_
  cases oI h
  exact⟨nofun,rfl,rfl⟩
 intro e q p he v
 obtain⟨rfl,l⟩:=v
 refine qE<|gS Z l<|sV (.agg [.ref 704 0,.ref 784 0,.ref 864 0])<|sS 96 (.var [.ref 704 0,.ref 784 0,.ref 864 0])<|sV (r0)<|sN<|qR ?_
 exact oI h▸qD
theorem nat_From_ev{a0:Int}{r:(List Int)×Int}(h:mo a0=some r):EvP prog aF ext 248 [rI a0] [] (.tup [rL r.1,rI r.2],[]):=by
 refine Ev.body Z Tryz.func248 Z Zk<|gU Z<|sV .cI<|sV (r0)<|sN<|qS<|gU Z<|sM Z<|sF h ?_ ?_<;>intro h
 ·refine sN<|cT<|gU Z<|sV .cI<|sV (rI 2)<|sN<|qR ?_
  exact oI h▸qD
 refine sN<|cF<|qK<|gU Z<|sV .cI<|sN<|qS<|bE h fun k a h=>CI (CL (WL.mL a (fun s=>gI 0 248 4 [(0,rI s.1),(4,.ref 240 0)] [(240,.arr 0 3 (s.2.map (PD.int .i64)))]) (fun o=>gX 0 0 248 7 [(4,.ref 240 0)] [(240,.arr 0 3 (o.map (PD.int .i64)))]) Z ?_ ?_))
 ·rintro⟨s2,n⟩ f c m b h
  refine qS<|gS Z b<|sM Z<|sF h ?_ ?_<;>intro h
  ·refine sN<|cT<|qK<|qS<|qB<|CO Z Z<|mM Z<|bE h fun l g h=>WO.remG g Z Z Z Z Z Z<|sV (.d (.lst ([l].map (PD.int .i64))))<|bE h fun p i h=>aR i (fun _=>Z) Z<|sA Z<|sN ?_
   refine CO Z Z<|sM Z<|sV (rI (mT .i64 s2 (30:Int)))<|sA Z<|sN ?_
   cases oI h
   exact⟨rfl,rfl⟩
  refine sN<|cF<|qX ?_
  cases oI h
  exact⟨nofun,rfl,rfl⟩
 intro e f c he j
 obtain⟨rfl,b⟩:=j
 refine qE<|gS Z b<|sM Z<|sA Z<|sV (r0)<|sN<|qR ?_
 exact oI h▸qD
theorem jl{a0:Int}{r:Bool}(h:iV a0=some r):EvP prog aF ext 236 [rI a0] [] (rB r,[]):=by
 refine Ev.body Z Tryz.func236 Z Zk<|gU Z<|sU<|sN<|gU Z<|sM Z<|sF h ?_ ?_<;>intro h
 ·refine sM Z<|sK<|sK<|sT<|sA Z<|sN<|qR ?_
  exact oI h▸qD
 refine mM Z<|sV (rB (decide (a0>=(1073741824:Int))))<|sV (rB (decide (a0>=(1073741824:Int))))<|sA Z<|sN<|qR ?_
 exact oI h▸qD
theorem ik{a0:(List Int)}{r:Int}(h:dz a0=some r):EvP prog aF ext 253 [rL a0,.d (.raw (.func (.func 236) #[] #[]))] [] (rI r,[]):=by
 refine Ev.body Z Tryz.func253 Z Zk<|gU Z<|sV (r0)<|sN<|qS<|gU Z<|sM Z<|sE (rI (a0.length:Int)) (mE _ _)<|sV (r0)<|sN<|bE h fun m f h=>CI (CL (WL.mL f (fun s=>gI 0 253 2 [(0,rL a0),(1,.d (.raw (.func (.func 236) #[] #[]))),(7,rI (a0.length:Int)),(8,rI s)] []) (fun o=>match o with| .inl y=>gX 0 0 253 7 [] []| .inr r=>gF 253 Tryz.f253 0 (rI r,[])) Z ?_ ?_))
 ·rintro s1 k j p c h
  refine gS Z c<|sF h ?_ ?_<;>intro h
  ·refine sN<|qS<|cT<|qK<|qS<|qB<|gU Z<|sM Z<|sA Z<|sN<|gU Z<|mM Z<|sM Z<|bE h fun q l h=>?_
   refine eG l Z<|sC Z<|bE h fun t g h=>na h (fun a h=>?_) (fun a h=>?_)
   ·refine WO.nL (v:=rB true) (u:=[]) Z Z (fun _=>Z) Z Z Z Z Z (jl g) Z Z (congrArg (fun b=>RV.d (.bool b)) a) Z<|sN<|cT<|gU Z<|sM Z<|sA Z<|sN<|qR ?_
    cases oI h
    exact⟨nofun,rfl,rfl⟩
   refine WO.nL (v:=rB false) (u:=[]) Z Z (fun _=>Z) Z Z Z Z Z (jl g) Z Z (congrArg (fun b=>RV.d (.bool b)) a) Z<|sN<|cF<|qK<|CO Z Z<|sV (rI (rW (s1+(1:Int))))<|sM Z<|sN ?_
   cases oI h
   exact⟨rfl,rfl⟩
  refine sN<|qS<|cF<|qX ?_
  cases oI h
  exact⟨nofun,rfl,rfl⟩
 intro e k j he i
 rcases m with x|n
 ·obtain⟨rfl,c⟩:=i
  refine qE<|gS Z c<|sV (rI (-1))<|sN<|qR ?_
  exact oI h▸qD
 obtain⟨rfl,hf⟩:=i
 cases oI h
 exact hf
theorem dL{a0:(List Int)}{r:Bool}(h:bR a0=some r):EvP prog aF ext 235 [rL a0,.d (.raw (.func (.func 236) #[] #[]))] [] (rB r,[]):=by
 refine Ev.body Z Tryz.func235 Z Zk<|gU Z<|sU<|sN<|gU Z<|mM Z<|bE h fun a h1 h=>cD (ik h1)<|sV (rB (decide (a>=(0:Int))))<|sA Z<|sN<|qR ?_
 exact oI h▸qD
theorem ez{a0:(List Int)}{r:Bool}(h:gf a0=some r):EvP prog aF ext 190 [rL a0] [] (rB r,[]):=by
 refine Ev.body Z Tryz.func190 Z Zk<|gU Z<|sU<|sN<|qS<|gU Z<|sM Z<|sE (rI (a0.length:Int)) (mE _ _)<|sF h ?_ ?_<;>intro h
 ·refine sM Z<|k3<|k3<|k3<|k3<|sT<|sN ?_
  refine cT<|gU Z<|sU<|sN<|qR ?_
  exact oI h▸qD
 refine mM Z<|sE (rI (a0.length:Int)) (mE _ _)<|sF h ?_ ?_<;>intro h
 ·refine mM Z<|sM Z<|sE (rI (a0.length:Int)) (mE _ _)<|sV (rI (rW ((a0.length:Int)-(1:Int))))<|bE h fun a b h=>eG b Z<|sC Z<|sV (rB (a==(0:Int)))<|sV (rB (a==(0:Int)))<|sF h ?_ ?_<;>intro h
  ·refine sN<|cT<|gU Z<|sU<|sN<|qR ?_
   exact oI h▸qD
  refine sN<|cF<|qK<|gU Z<|sM Z<|bE h fun f c h=>cD (dL c)<|sV (rB (!f))<|sA Z<|sN<|qR ?_
  exact oI h▸qD
 refine sM Z<|k3<|k3<|sK<|sU<|sU<|sN<|cF<|qK<|gU Z<|sM Z ?_
 refine bE h fun g e h=>cD (dL e)<|sV (rB (!g))<|sA Z<|sN<|qR ?_
 exact oI h▸qD
theorem nat_both_ev{a0:(List Int)}{a1:(List Int)}{r:Bool}(h:kR a0 a1=some r):EvP prog aF ext 259 [rL a0,rL a1] [] (rB r,[]):=by
 refine Ev.body Z Tryz.func259 Z Zk<|gU Z<|sU<|sN<|gU Z<|sM Z<|bE h fun f h1 h=>na h (fun a h=>?_) (fun a h=>?_)
 ·refine WO.nL (v:=rB true) (u:=[]) Z Z (fun _=>Z) Z Z Z Z Z (ez h1) Z Z (congrArg (fun b=>RV.d (.bool b)) a) Z<|mM Z<|bE h fun e c h=>cD (ez c)<|sV (rB e)<|sA Z<|sN<|qR ?_
  exact oI h▸qD
 refine WO.nL (v:=rB false) (u:=[]) Z Z (fun _=>Z) Z Z Z Z Z (ez h1) Z Z (congrArg (fun b=>RV.d (.bool b)) a) Z<|sM Z<|sK<|sK<|sU<|sA Z<|sN<|qR ?_
 exact oI h▸qD
theorem jX{a0:(List Int)}{a1:Int}{r:Int}(h:ff a0 a1=some r):EvP prog aF ext 252 [rL a0,rI a1] [] (rI r,[]):=by
 refine Ev.body Z Tryz.func252 Z Zk<|gU Z<|sV (r0)<|sN<|qS<|gU Z<|mM Z<|sE (rI (a0.length:Int)) (mE _ _)<|sF h ?_ ?_<;>intro h
 ·refine sN<|cT<|gU Z<|sV (r0)<|sN<|qR ?_
  exact oI h▸qD
 refine sN<|cF<|qK<|gU Z<|mM Z<|bE h fun b a h=>eG a Z<|sC Z<|sA Z<|sN<|qR ?_
 exact oI h▸qD
theorem nat_trim_ev{a0:(List Int)}{r:(List Int)}(h:eH a0=some r):EvP prog aF ext 251 [rL a0] [] (rL r,[]):=by
 refine Ev.body Z Tryz.func251 Z Zk<|gU Z<|sV .cI<|sN<|qS<|bE h fun m b h=>CI (CL (WL.mL b (fun s=>gI 0 251 1 [(0,rL s)] []) (fun o=>gX 0 0 251 3 [(0,rL o)] []) Z ?_ ?_))
 ·rintro s1 f c n a h
  refine qS<|gS Z a<|sM Z<|sE (rI (s1.length:Int)) (mE _ _)<|sF h ?_ ?_<;>intro h
  ·refine mM Z<|sM Z<|sE (rI (s1.length:Int)) (mE _ _)<|sV (rI (rW ((s1.length:Int)-(1:Int))))<|bE h fun l i h=>eG i Z<|sC Z<|sV (rB (l==(0:Int)))<|sF h ?_ ?_<;>intro h
   ·refine sN<|cT<|qK<|qB<|CO Z Z<|mM Z<|sE (rI (s1.length:Int)) (mE _ _)<|sV (rI (rW ((s1.length:Int)-(1:Int))))<|bE h fun p j h=>WO.cutL (sz:=1) (g:=(PD.int .i64)) j (fun _=>Z) Z Z Z Z Z Z Z Z Z Z Z<|sA Z<|sN ?_
    cases oI h
    exact⟨rfl,rfl⟩
   refine sN<|cF<|qX ?_
   cases oI h
   exact⟨nofun,rfl,rfl⟩
  refine sM Z<|k3<|k3<|sK<|sU<|sN<|cF<|qX ?_
  cases oI h
  exact⟨nofun,rfl,rfl⟩
 intro e f c he k
 obtain⟨rfl,a⟩:=k
 refine qE<|gS Z a<|sM Z<|sA Z<|sN<|qR ?_
 exact oI h▸qD
theorem iq{a0:(List Int)}{a1:(List Int)}{r:(List Int)}(h:eA a0 a1=some r):EvP prog aF ext 234 [rL a0,rL a1] [] (rL r,[]):=by
 refine Ev.body Z Tryz.func234 Z Zk<|gU Z<|sV .cI<|sN<|gU Z<|sM Z<|sE (rI (a0.length:Int)) (mE _ _)<|sM Z<|sE (rI (a1.length:Int)) (mE _ _)<|sV (rI (rW ((a0.length:Int)+(a1.length:Int))))<|bE h fun Q h1 h=>WO.mkS (g:=(PD.int .i64)) h1 Z Z Z Z Z Z Z Z Z Z Z<|sA Z<|sN<|qS ?_
 refine gU Z<|sM Z<|sE (rI (a0.length:Int)) (mE _ _)<|sV (r0)<|sN<|bE h fun G i h=>CI (CL (WL.mL i (fun s=>gI 0 234 3 [(1,rL a1),(5,.ref 240 0),(16,rL a0),(17,rI (a0.length:Int)),(18,rI s.1)] [(240,.arr 0 3 (s.2.map (PD.int .i64)))]) (fun o=>gX 0 0 234 15 [(5,.ref 240 0)] [(240,.arr 0 3 (o.map (PD.int .i64)))]) Z ?_ ?_))
 ·rintro⟨s2,O⟩ m l N b h
  refine gS Z b<|sF h ?_ ?_<;>intro h
  ·refine sN<|qS<|cT<|qK<|qS<|qB<|gU Z<|sM Z<|bE h fun k F h=>eG F Z<|sC Z<|sA Z<|sA Z<|sN<|gU Z ?_
   refine sV (r0)<|sN<|gU Z<|sM Z<|sE (rI (a1.length:Int)) (mE _ _)<|sV (rI (rW ((a1.length:Int)+(1:Int))))<|sV (r0)<|sN<|bE h fun B f h=>CI (CL (WL.mL f (fun s=>gI 0 234 7 [(1,rL a1),(5,.ref 240 0),(6,rI s2),(7,rI k),(8,rI s.1),(16,rL a0),(17,rI (a0.length:Int)),(18,rI s2),(25,rI (rW ((a1.length:Int)+(1:Int)))),(26,rI s.2.1)] [(240,.arr 0 3 (s.2.2.map (PD.int .i64)))]) (fun o=>gX 2 0 234 14 [(1,rL a1),(5,.ref 240 0),(16,rL a0),(17,rI (a0.length:Int)),(18,rI o.1)] [(240,.arr 0 3 (o.2.map (PD.int .i64)))]) Z ?_ ?_))
   ·rintro⟨E,j,I⟩ m l H b h
    refine gS Z b<|sF h ?_ ?_<;>intro h
    ·refine sN<|qS<|cT<|qK<|qS<|qB<|gU Z<|sM Z<|sA Z<|sN<|gU Z<|mM Z<|sV (rI (rW (s2+j)))<|sM Z ?_
     refine WO.vK Z Z Z Z Z Z Z Z Z<|sF h ?_ ?_<;>intro h
     ·refine sN<|cT<|CJ Z Z<|mM Z<|mM Z<|sV (rI (rW (s2+j)))<|bE h fun J n h=>WO.qi n Z Z Z Z Z Z Z Z<|bE h fun c q h=>WO.qJ q Z Z Z Z Z Z<|mM Z<|sM Z ?_
      refine bE h fun a t h=>cD (jX t)<|sV (rI (rW (k*a)))<|sV (rI (rW (c+(rW (k*a)))))<|sV (rI (rW (E+(rW (c+(rW (k*a)))))))<|sA Z ?_
      refine sN<|sO<|gU Z<|mM Z<|sM Z<|sV (rI (rW (s2+j)))<|sM Z<|bE h fun C u h=>WO.remG u Z Z Z Z Z Z<|bE h fun K v h=>WO.qi v Z Z Z Z Z Z Z Z<|bE h fun L x h=>WO.rA (g:=(PD.int .i64)) (sz:=1) (p:= .int .i64 C) x (fun _=>Z) (fun _=>Z) Z Z Z Z Z Z Z Z Z<|sN<|CO Z Z ?_
      refine sM Z<|sV (rI (mT .i64 (rW (E+(rW (c+(rW (k*a)))))) (30:Int)))<|sA Z<|sN<|CO Z Z<|sV (rI (rW (j+(1:Int))))<|sM Z<|sN ?_
      cases oI h
      exact⟨rfl,rfl⟩
     refine sN<|cF<|qK<|CO Z Z<|sV (rI (rW (j+(1:Int))))<|sM Z<|sN ?_
     cases oI h
     exact⟨rfl,rfl⟩
    refine sN<|qS<|cF<|qX ?_
    cases oI h
    exact⟨nofun,rfl,rfl⟩
   intro e m l he z
   obtain⟨rfl,b⟩:=z
   refine qE<|CO b Z<|sV (rI (rW (B.1+(1:Int))))<|sM Z<|sN ?_
   cases oI h
   exact⟨rfl,rfl⟩
  refine sN<|qS<|cF<|qX ?_
  cases oI h
  exact⟨nofun,rfl,rfl⟩
 intro e m l he z
 obtain⟨rfl,b⟩:=z
 refine qE<|gS Z b<|sM Z<|bE h fun D y h=>cR (rL D) [(240,.dead)] (nat_trim_ev y)<|sA Z<|sN<|qR ?_
 exact oI h▸qD
theorem gt{a0:(List Int)}{r:(List Int)×Int}(h:dI a0=some r):EvP prog aF ext 233 [rL a0] [] (.tup [rL r.1,rI r.2],[]):=by
 refine Ev.body Z Tryz.func233 Z Zk<|gU Z<|sV .cI<|sV (r0)<|sN<|qS<|gU Z<|sM Z<|bE h fun a h1 h=>cD (nat_trim_ev h1)<|sA Z<|sN<|gU Z<|sM Z<|sE (rI (a.length:Int)) (mE _ _) ?_
 refine sF h ?_ ?_<;>intro h
 ·refine sN<|cT<|gU Z<|sV .cI<|sV (rI 8)<|sN<|qR ?_
  exact oI h▸qD
 refine sN<|cF<|qK<|gU Z<|sM Z<|sA Z<|sV (r0)<|sN<|qR ?_
 exact oI h▸qD
theorem nat_Mul_ev{a0:(List Int)}{a1:(List Int)}{r:(List Int)×Int}(h:nat_Mul a0 a1=some r):EvP prog aF ext 249 [rL a0,rL a1] [] (.tup [rL r.1,rI r.2],[]):=by
 refine Ev.body Z Tryz.func249 Z Zk<|gU Z<|sV .cI<|sV (r0)<|sN<|qS<|gU Z<|mM Z<|bE h fun e h1 h=>cD (nat_both_ev h1)<|sF h ?_ ?_<;>intro h
 ·refine sN<|cT<|gU Z<|sV .cI<|sV (rI 1)<|sN<|qR ?_
  exact oI h▸qD
 refine sN<|cF<|qK<|gU Z<|mM Z<|bE h fun f b h=>cD (iq b)<|bE h fun a c h=>cR (.tup [rL a.1,rI a.2]) [] (gt c)<|sV (rL a.1)<|sV (rI a.2)<|sA Z<|sA Z<|sN ?_
 refine qR ?_
 exact oI h▸qD
theorem cH{a0:Int}{r:(List Int)}(h:cj a0=some r):EvP prog aF ext 229 [rI a0] [] (rL r,[]):=by
 refine Ev.body Z Tryz.func229 Z Zk<|gU Z<|sV .cI<|sN<|gU Z<|mM Z<|sV (rI (rW (0-a0)))<|sV (rI (if(rW (0-a0))>a0 then(rW (0-a0))else a0))<|bE h fun a h1 h=>cR (.tup [rL a.1,rI a.2]) [] (nat_From_ev h1)<|sM Z<|sV (rL a.1)<|sV (rI a.2)<|sA Z ?_
 refine sA Z<|sN<|gU Z<|mM Z<|bE h fun b c h=>cR (.tup [rL b.1,rI b.2]) [] (nat_Mul_ev c)<|sM Z<|sV (rL b.1)<|sV (rI b.2)<|sA Z<|sA Z<|sN<|gU Z<|sM Z ?_
 refine sA Z<|sN<|qR ?_
 exact oI h▸qD
theorem nat_Add_ev{a0:(List Int)}{a1:(List Int)}{r:(List Int)×Int}(h:nat_Add a0 a1=some r):EvP prog aF ext 250 [rL a0,rL a1] [] (.tup [rL r.1,rI r.2],[]):=by
 refine Ev.body Z Tryz.func250 Z Zk<|gU Z<|sV .cI<|sV (r0)<|sN<|qS<|gU Z<|mM Z<|bE h fun C h1 h=>cD (nat_both_ev h1)<|sF h ?_ ?_<;>intro h
 ·refine sN<|cT<|gU Z<|sV .cI<|sV (rI 1)<|sN<|qR ?_
  exact oI h▸qD
 refine sN<|cF<|qK<|gU Z<|sV .cI<|sN<|gU Z<|sV (r0)<|sN<|qS<|gU Z<|sM Z<|sE (rI (a0.length:Int)) (mE _ _)<|sM Z<|sE (rI (a1.length:Int)) (mE _ _) ?_
 refine sV (rI (if(a1.length:Int)>(a0.length:Int)then(a1.length:Int)else(a0.length:Int)))<|sV (rI (rW ((if(a1.length:Int)>(a0.length:Int)then(a1.length:Int)else(a0.length:Int))+(1:Int))))<|sV (r0)<|sN<|bE h fun v c h=>CI (CL (WL.mL c (fun s=>gI 0 250 6 [(0,rL a0),(1,rL a1),(6,.ref 560 0),(7,rI s.1),(18,rI (rW ((if(a1.length:Int)>(a0.length:Int)then(a1.length:Int)else(a0.length:Int))+(1:Int)))),(19,rI s.2.1)] [(560,.arr 0 3 (s.2.2.map (PD.int .i64)))]) (fun o=>gX 0 0 250 12 [(6,.ref 560 0)] [(560,.arr 0 3 (o.map (PD.int .i64)))]) Z ?_ ?_))
 ·rintro⟨n,x,B⟩ q p z k h
  refine gS Z k<|sF h ?_ ?_<;>intro h
  ·refine sN<|qS<|cT<|qK<|qS<|qB<|gU Z<|sM Z<|sA Z<|sN<|gU Z<|mM Z<|sM Z<|bE h fun m t h=>?_
   refine cD (jX t)<|mM Z<|bE h fun b f h=>cD (jX f)<|sV (rI (rW (m+b)))<|sV (rI (rW (n+(rW (m+b)))))<|sA Z<|sN<|gU Z<|mM Z<|bE h fun l g h=>WO.remG g Z Z Z Z Z Z<|sV (.d (.lst ([l].map (PD.int .i64)))) ?_
   refine bE h fun y i h=>aR i (fun _=>Z) Z<|sA Z<|sN<|CO Z Z<|sM Z<|sV (rI (mT .i64 (rW (n+(rW (m+b)))) (30:Int)))<|sA Z<|sN<|CO Z Z<|sV (rI (rW (x+(1:Int))))<|sM Z<|sN ?_
   cases oI h
   exact⟨rfl,rfl⟩
  refine sN<|qS<|cF<|qX ?_
  cases oI h
  exact⟨nofun,rfl,rfl⟩
 intro e q p he u
 obtain⟨rfl,k⟩:=u
 refine qE<|gS Z k<|sM Z<|bE h fun a j h=>cR (.tup [rL a.1,rI a.2]) [(560,.dead)] (gt j)<|sV (rL a.1)<|sV (rI a.2)<|sA Z<|sA Z<|sN<|qR ?_
 exact oI h▸qD
theorem iC{a0:aP}{a1:Int}{a2:Int}{r:(List Int)}(h:ea a0 a1 a2=some r):EvP prog aF ext 230 [.d (aP.pd a0),rI a1,rI a2] [] (rL r,[]):=by
 refine Ev.body Z Tryz.func230 Z Zk<|gU Z<|sB (.ptr 48 0) 48 (.var [rI a0.a0,rI a0.a1,rI a0.a2])<|sV .cI<|sN<|CJ Z Z<|sV (.ptr 48 0)<|sL Z<|sM Z<|sV (rI (rW (a0.a0*a2)))<|sM Z<|sV (rI (rW ((rW (a0.a0*a2))*a2)))<|sV (.ptr 48 2)<|sL Z<|sM Z ?_
 refine sV (rI (rW (a0.a2*a1)))<|sM Z<|sV (rI (rW ((rW (a0.a2*a1))*a1)))<|sV (rI (rW ((rW ((rW (a0.a0*a2))*a2))-(rW ((rW (a0.a2*a1))*a1)))))<|bE h fun e h1 h=>cD (cH h1)<|sV (.ptr 48 1)<|sL Z<|sM Z<|sV (rI (rW (a0.a1*a1)))<|sM Z<|sV (rI (rW ((rW (a0.a1*a1))*a2)))<|bE h fun f b h=>cD (cH b)<|bE h fun a c h=>?_
 refine cR (.tup [rL a.1,rI a.2]) [] (nat_Add_ev c)<|sM Z<|sV (rL a.1)<|sV (rI a.2)<|sA Z<|sA Z ?_
 refine sN<|sO<|gU Z<|sM Z<|sA Z<|sN<|qR ?_
 exact oI h▸qD
theorem response_gain_ev{a0:au}{a1:Int}{a2:Int}{r:ar×Bool}(h:hX a0 a1 a2=some r):EvP prog aF ext 188 [.d (au.pd a0),rI a1,rI a2] [] (.tup [.d (ar.pd r.1),rB r.2],[]):=by
 refine Ev.body Z Tryz.func188 Z Zk<|gU Z<|sB (.ptr 48 0) 48 (.var (au.rc a0))<|sB (.ptr 96 0) 96 (.var [.cI,.cI])<|sU<|sN<|qS<|gU Z<|sV (.ptr 48 0)<|sL Z<|sN<|qB<|gU Z<|sF h ?_ ?_<;>intro h
 ·refine sA Z<|sN<|cT<|CJ Z Z<|sV (.ptr 48 1)<|sV (.ptr 48 1)<|sL Z<|bE h fun f j h=>cD (cH j)<|sV (.ptr 48 4)<|sV (.ptr 48 4)<|sL Z<|bE h fun g k h=>cD (cH k)<|sV (.d (.agg [.lst (f.map (PD.int .i64)),.lst (g.map (PD.int .i64))])) ?_
  refine sS 96 (.var [rL f,rL g])<|sT ?_
  refine sN<|sO<|qR ?_
  cases oI h
  exact qG
 refine sA Z<|sN<|cF<|gU Z<|sF h ?_ ?_<;>intro h
 ·refine sA Z<|sN<|cT<|CJ Z Z<|sV (.ptr 48 1)<|sV (.d (aP.pd a0.aQ))<|mM Z<|bE h fun c l h=>cD (iC l)<|sV (.ptr 48 4)<|sV (.d (aP.pd a0.aL))<|mM Z<|bE h fun a m h=>?_
  refine cD (iC m)<|sV (.d (.agg [.lst (c.map (PD.int .i64)),.lst (a.map (PD.int .i64))]))<|sB (.ptr 128 0) 128 (.var [.cI,.cI])<|sS 128 (.var [rL c,rL a]) ?_
  refine sN<|sO<|CJ Z Z<|sV (.d (.agg [.lst (c.map (PD.int .i64)),.lst (a.map (PD.int .i64))]))<|sV (.ptr 128 1)<|sL Z<|sE (rI (a.length:Int)) (mE _ _)<|sV (rB (decide ((a.length:Int)>(0:Int))))<|sS 96 (.var [rL c,rL a])<|sA Z ?_
  refine sN<|sO<|qR ?_
  cases oI h
  exact qG
 refine sA Z<|sN<|cF<|qK<|CJ Z Z<|sV (.ptr 48 7)<|sL Z<|bE h fun q n h=>cD (fT n)<|bE h fun i o h=>cD (cH o)<|sV (.ptr 48 9)<|sL Z<|bE h fun s p h=>WO.shlG p Z Z Z Z Z ?_
 refine bE h fun b e h=>cD (cH e)<|sV (.d (.agg [.lst (i.map (PD.int .i64)),.lst (b.map (PD.int .i64))]))<|sS 96 (.var [rL i,rL b])<|sT ?_
 refine sN<|sO<|qR ?_
 cases oI h
 exact qG
theorem ic{a0:ar}{r:Bool}(h:dH a0=some r):EvP prog aF ext 232 [.d (ar.pd a0)] [] (rB r,[]):=by
 refine Ev.body Z Tryz.func232 Z Zk<|gU Z<|sB (.ptr 16 0) 16 (.var (ar.rc a0))<|sU<|sN<|gU Z<|sV (.ptr 16 0)<|sL Z<|bE h fun e h1 h=>na h (fun a h=>?_) (fun a h=>?_)
 ·refine WO.nL (v:=rB true) (u:=[]) Z Z (fun _=>Z) Z Z Z Z Z (ez h1) Z Z (congrArg (fun b=>RV.d (.bool b)) a) Z<|sM Z<|sV (.ptr 16 1)<|sL Z<|bE h fun f c h=>cD (ez c)<|sF h ?_ ?_<;>intro h
  ·refine sM Z<|sV (.ptr 16 1)<|sL Z<|sE (rI (a0.aL.length:Int)) (mE _ _)<|sV (rB (decide ((a0.aL.length:Int)>(0:Int))))<|sV (rB (decide ((a0.aL.length:Int)>(0:Int))))<|sA Z<|sN<|qR ?_
   exact oI h▸qD
  refine sM Z<|k3<|sK<|sU<|sA Z<|sN<|qR ?_
  exact oI h▸qD
 refine WO.nL (v:=rB false) (u:=[]) Z Z (fun _=>Z) Z Z Z Z Z (ez h1) Z Z (congrArg (fun b=>RV.d (.bool b)) a) Z<|sM Z<|k3<|sU<|sM Z<|k3<|sK<|sU<|sA Z<|sN<|qR ?_
 exact oI h▸qD
theorem nat_Times_ev{a0:ar}{a1:ar}{r:ar×Int}(h:lw a0 a1=some r):EvP prog aF ext 189 [.d (ar.pd a0),.d (ar.pd a1)] [] (.tup [.d (ar.pd r.1),rI r.2],[]):=by
 refine Ev.body Z Tryz.func189 Z Zk<|gU Z<|sB (.ptr 32 0) 32 (.var (ar.rc a0))<|sB (.ptr 48 0) 48 (.var (ar.rc a1))<|sB (.ptr 64 0) 64 (.var [.cI,.cI])<|sV (r0)<|sN<|qS<|gU Z<|sV (.d (ar.pd a0))<|bE h fun k h1 h=>cD (ic h1)<|sF h ?_ ?_<;>intro h
 ·refine sM Z<|k3<|sT<|sN<|cT<|gU Z<|sV (.agg [.cI,.cI])<|sS 64 (.var [.cI,.cI])<|sV (rI 1)<|sN<|qR ?_
  exact oI h▸qD
 refine sM Z<|sV (.d (ar.pd a1))<|bE h fun j c h=>cD (ic c)<|sV (rB (!j))<|sF h ?_ ?_<;>intro h
 ·refine sN<|cT<|gU Z<|sV (.agg [.cI,.cI])<|sS 64 (.var [.cI,.cI])<|sV (rI 1)<|sN<|qR ?_
  exact oI h▸qD
 refine sN<|cF<|qK<|gU Z<|sV (.ptr 32 0)<|sL Z<|sV (.ptr 48 0)<|sL Z<|bE h fun l e h=>cD (iq e)<|bE h fun b f h=>cR (.tup [rL b.1,rI b.2]) [] (gt f)<|sM Z<|sV (rL b.1)<|sV (rI b.2) ?_
 refine sA Z<|sA Z<|sN<|gU Z<|sV (.ptr 32 1)<|sL Z<|sV (.ptr 48 1)<|sL Z<|bE h fun m g h=>cD (iq g)<|bE h fun a i h=>cR (.tup [rL a.1,rI a.2]) [] (gt i)<|sM Z<|sV (rL a.1)<|sV (rI a.2) ?_
 refine sA Z<|sA Z<|sN<|qS<|gU Z<|sM Z<|sF h ?_ ?_<;>intro h
 ·refine sM Z<|sK<|sK<|sT<|sN<|cT<|gU Z<|sV (.agg [.cI,.cI])<|sS 64 (.var [.cI,.cI])<|sV (rI 8)<|sN<|qR ?_
  exact oI h▸qD
 refine mM Z<|sV (rB (a.2 != (0:Int)))<|sF h ?_ ?_<;>intro h
 ·refine sN<|cT<|gU Z<|sV (.agg [.cI,.cI])<|sS 64 (.var [.cI,.cI])<|sV (rI 8)<|sN<|qR ?_
  exact oI h▸qD
 refine sN<|cF<|qK<|gU Z<|mM Z<|sV (.d (.agg [.lst (b.1.map (PD.int .i64)),.lst (a.1.map (PD.int .i64))]))<|sS 64 (.var [rL b.1,rL a.1])<|sV (r0)<|sN<|qR ?_
 exact oI h▸qD
theorem response_Gain_ev{a0:aA}{a1:Int}{a2:Int}{r:ar×Int}(h:hP a0 a1 a2=some r):EvP prog aF ext 147 [.d (aA.pd a0),rI a1,rI a2] [] (.tup [.d (ar.pd r.1),rI r.2],[]):=by
 refine Ev.body Z Tryz.func147 Z Zk<|gU Z<|sB (.ptr 48 0) 48 (.var [rM au.pd a0.aD])<|sB (.ptr 96 0) 96 (.var [.cI,.cI])<|sV (r0)<|sN<|qS<|gU Z<|sV (.d (aA.pd a0))<|bE h fun E h1 h=>cD (jq h1)<|sF h ?_ ?_<;>intro h
 ·refine sN<|cT<|gU Z<|sV (.agg [.cI,.cI])<|sS 96 (.var [.cI,.cI])<|sV (rI 1)<|sN<|qR ?_
  exact oI h▸qD
 refine sN<|cF<|qK<|qS<|gU Z<|sM Z<|bE h fun F t h=>cD (bF t)<|sF h ?_ ?_<;>intro h
 ·refine sM Z<|k3<|sT<|sN<|cT<|gU Z<|sV (.agg [.cI,.cI])<|sS 96 (.var [.cI,.cI])<|sV (rI 2)<|sN<|qR ?_
  exact oI h▸qD
 refine mM Z<|bE h fun D u h=>cD (bF u)<|sV (rB (!D))<|sF h ?_ ?_<;>intro h
 ·refine sN<|cT<|gU Z<|sV (.agg [.cI,.cI])<|sS 96 (.var [.cI,.cI])<|sV (rI 2)<|sN<|qR ?_
  exact oI h▸qD
 refine sN<|cF<|qK<|gU Z<|sV (.d (.lst ([1].map (PD.int .i64))))<|sV (.d (.lst ([1].map (PD.int .i64))))<|sV (.d (.agg [.lst ([1].map (PD.int .i64)),.lst ([1].map (PD.int .i64))]))<|sB (.ptr 128 0) 128 (.var [.cI,.cI])<|sS 128 (.var [.d (.lst ([1].map (PD.int .i64))),.d (.lst ([1].map (PD.int .i64)))])<|sN<|qS<|gU Z<|sV (.ptr 48 0)<|sL Z<|sE (rI (a0.aD.length:Int)) (mE _ _) ?_
 refine sV (r0)<|sN<|bE h fun m g h=>CI (CL (WL.mL g (fun s=>gI 0 147 7 [(1,rI a1),(2,rI a2),(6,.ptr 96 0),(8,.ptr 128 0),(31,rM au.pd a0.aD),(32,rI (a0.aD.length:Int)),(33,rI s.1)] [(96,.var [.cI,.cI]),(128,.var [rL s.2.1,rL s.2.2])]) (fun o=>match o with| .inl y=>gX 0 0 147 17 [(6,.ptr 96 0),(8,.ptr 128 0)] [(96,.var [.cI,.cI]),(128,.var [rL y.1,rL y.2])]| .inr r=>gF 147 Tryz.f147 0 (.tup [.d (ar.pd r.1),rI r.2],[])) Z ?_ ?_))
 ·rintro⟨z,B,C⟩ q p v l h
  refine gS Z l<|sF h ?_ ?_<;>intro h
  ·refine sN<|qS<|cT<|qK<|qS<|qB<|gU Z<|bE h fun f i h=>eG i Z<|sV (.d (au.pd f))<|sB (.ptr 160 0) 160 (.var [r0,r0,r0,r0,r0,r0,r0,.cI,r0,r0])<|sH 160 (.var (au.rc f))<|sN<|gU Z<|sV (.d (au.pd f)) ?_
   refine mM Z<|bE h fun a j h=>cR (.tup [.d (ar.pd a.1),rB a.2]) [] (response_gain_ev j)<|sM Z<|sV (.d (ar.pd a.1))<|sV (rB a.2)<|sB (.ptr 176 0) 176 (.var [.cI,.cI])<|sS 176 (.var (ar.rc a.1))<|sA Z<|sN<|qS<|gU Z<|sM Z<|sF h ?_ ?_<;>intro h
   ·refine sN<|cT<|gU Z<|sV (.agg [.cI,.cI])<|sS 96 (.var [.cI,.cI])<|sV (rI 11)<|sN<|qR ?_
    cases oI h
    exact⟨nofun,rfl,rfl⟩
   refine sN<|cF<|qK<|gU Z<|sV (r0)<|sN<|gU Z<|sV (.d (ar.pd (ar.mk B C)))<|sV (.d (ar.pd a.1))<|bE h fun b k h=>cR (.tup [.d (ar.pd b.1),rI b.2]) [] (nat_Times_ev k)<|sM Z<|sV (.d (ar.pd b.1))<|sV (rI b.2)<|sS 128 (.var (ar.rc b.1)) ?_
   refine sA Z<|sN<|gU Z<|sM Z<|sF h ?_ ?_<;>intro h
   ·refine sN<|cT<|gU Z<|sV (.agg [.cI,.cI])<|sM Z<|sS 96 (.var [.cI,.cI])<|sA Z<|sN<|qR ?_
    cases oI h
    exact⟨nofun,rfl,rfl⟩
   refine sN<|cF<|qK<|CO Z Z<|sV (rI (rW (z+(1:Int))))<|sM Z<|sN ?_
   cases oI h
   exact⟨rfl,rfl⟩
  refine sN<|qS<|cF<|qX ?_
  cases oI h
  exact⟨nofun,rfl,rfl⟩
 intro e q p he n
 rcases m with c|x
 ·obtain⟨rfl,l⟩:=n
  refine qE<|gS Z l<|sV (.d (ar.pd (ar.mk c.1 c.2)))<|sS 96 (.var [rL c.1,rL c.2])<|sV (r0)<|sN<|qR ?_
  exact oI h▸qD
 obtain⟨rfl,hf⟩:=n
 cases oI h
 exact hf
theorem iA{a0:Int}{a1:Int}{r:Int}(h:cq a0 a1=some r):EvP prog aF ext 191 [rI a0,rI a1] [] (rI r,[]):=by
 refine Ev.body Z Tryz.func191 Z Zk<|gU Z<|sV (r0)<|sN<|gU Z<|sV (r0)<|sN<|qS<|gU Z<|sV (r0)<|sN<|CI (CL ?_)
 refine WL.round<|gU Z<|sT<|sN<|qS<|cT<|qK<|CK (α:=Int×Int) (fun x b a=>nA prog 0 (A b a) (aF.at_ 191 0 9)=some (A [(0,rI a0),(1,rI x.1),(5,rI x.2),(6,r0)] [])) (fun x=>bP a0 x.1 x.2=some r) ?_ ?_
 ·refine qB<|gU Z<|mM Z<|sV (rI (rW (a1*a1)))<|sV (rI (mT .i64 (rW (a1*a1)) (30:Int)))<|sA Z<|sN<|gU Z<|sM Z<|sV (r0)<|sA Z<|sN<|gU Z<|sM Z ?_
  refine sF h ?_ ?_<;>intro h
  ·exact sN<|cT<|gS rfl rfl<|sM rfl<|bE h fun O E h=>WO.pU E rfl rfl rfl rfl rfl rfl<|sA rfl<|sN<|CO rfl rfl<|sM rfl<|sV (rI 1)<|sA rfl<|sN<|⟨(O,1),rfl,h⟩
  exact sN<|cF<|qK<|⟨((mT .i64 (rW (a1*a1)) (30:Int)),0),rfl,h⟩
 rintro⟨k,p⟩ b a c h
 refine CO c Z<|sV (rI 1)<|sM Z<|sN<|WL.round<|gU Z<|sT<|sN<|qS<|cT<|qK<|CK (α:=Int×Int) (fun x b a=>nA prog 0 (A b a) (aF.at_ 191 0 9)=some (A [(0,rI a0),(1,rI x.1),(5,rI x.2),(6,rI 1)] [])) (fun x=>bO a0 x.1 x.2=some r) ?_ ?_
 ·refine qB<|gU Z<|mM Z<|sV (rI (rW (k*k)))<|sV (rI (mT .i64 (rW (k*k)) (30:Int)))<|sA Z<|sN<|gU Z<|sM Z<|sV (rI (rW (p*(2:Int))))<|sA Z<|sN<|gU Z<|sM Z ?_
  refine sF h ?_ ?_<;>intro h
  ·exact sN<|cT<|gS rfl rfl<|sM rfl<|bE h fun N D h=>WO.pU D rfl rfl rfl rfl rfl rfl<|sA rfl<|sN<|CO rfl rfl<|sM rfl<|sV (rI (rW ((rW (p*(2:Int)))+(1:Int))))<|sA rfl<|sN<|⟨(N,(rW ((rW (p*(2:Int)))+(1:Int)))),rfl,h⟩
  exact sN<|cF<|qK<|⟨((mT .i64 (rW (k*k)) (30:Int)),(rW (p*(2:Int)))),rfl,h⟩
 rintro⟨l,q⟩ b a c h
 refine CO c Z<|sV (rI 2)<|sM Z<|sN<|WL.round<|gU Z<|sT<|sN<|qS<|cT<|qK<|CK (α:=Int×Int) (fun x b a=>nA prog 0 (A b a) (aF.at_ 191 0 9)=some (A [(0,rI a0),(1,rI x.1),(5,rI x.2),(6,rI 2)] [])) (fun x=>bN a0 x.1 x.2=some r) ?_ ?_
 ·refine qB<|gU Z<|mM Z<|sV (rI (rW (l*l)))<|sV (rI (mT .i64 (rW (l*l)) (30:Int)))<|sA Z<|sN<|gU Z<|sM Z<|sV (rI (rW (q*(2:Int))))<|sA Z<|sN<|gU Z<|sM Z ?_
  refine sF h ?_ ?_<;>intro h
  ·exact sN<|cT<|gS rfl rfl<|sM rfl<|bE h fun L C h=>WO.pU C rfl rfl rfl rfl rfl rfl<|sA rfl<|sN<|CO rfl rfl<|sM rfl<|sV (rI (rW ((rW (q*(2:Int)))+(1:Int))))<|sA rfl<|sN<|⟨(L,(rW ((rW (q*(2:Int)))+(1:Int)))),rfl,h⟩
  exact sN<|cF<|qK<|⟨((mT .i64 (rW (l*l)) (30:Int)),(rW (q*(2:Int)))),rfl,h⟩
 rintro⟨m,s⟩ b a c h
 refine CO c Z<|sV (rI 3)<|sM Z<|sN<|WL.round<|gU Z<|sT<|sN<|qS<|cT<|qK<|CK (α:=Int×Int) (fun x b a=>nA prog 0 (A b a) (aF.at_ 191 0 9)=some (A [(0,rI a0),(1,rI x.1),(5,rI x.2),(6,rI 3)] [])) (fun x=>bM a0 x.1 x.2=some r) ?_ ?_
 ·refine qB<|gU Z<|mM Z<|sV (rI (rW (m*m)))<|sV (rI (mT .i64 (rW (m*m)) (30:Int)))<|sA Z<|sN<|gU Z<|sM Z<|sV (rI (rW (s*(2:Int))))<|sA Z<|sN<|gU Z<|sM Z ?_
  refine sF h ?_ ?_<;>intro h
  ·exact sN<|cT<|gS rfl rfl<|sM rfl<|bE h fun K B h=>WO.pU B rfl rfl rfl rfl rfl rfl<|sA rfl<|sN<|CO rfl rfl<|sM rfl<|sV (rI (rW ((rW (s*(2:Int)))+(1:Int))))<|sA rfl<|sN<|⟨(K,(rW ((rW (s*(2:Int)))+(1:Int)))),rfl,h⟩
  exact sN<|cF<|qK<|⟨((mT .i64 (rW (m*m)) (30:Int)),(rW (s*(2:Int)))),rfl,h⟩
 rintro⟨n,t⟩ b a c h
 refine CO c Z<|sV (rI 4)<|sM Z<|sN<|WL.round<|gU Z<|sT<|sN<|qS<|cT<|qK<|CK (α:=Int×Int) (fun x b a=>nA prog 0 (A b a) (aF.at_ 191 0 9)=some (A [(0,rI a0),(1,rI x.1),(5,rI x.2),(6,rI 4)] [])) (fun x=>bL a0 x.1 x.2=some r) ?_ ?_
 ·refine qB<|gU Z<|mM Z<|sV (rI (rW (n*n)))<|sV (rI (mT .i64 (rW (n*n)) (30:Int)))<|sA Z<|sN<|gU Z<|sM Z<|sV (rI (rW (t*(2:Int))))<|sA Z<|sN<|gU Z<|sM Z ?_
  refine sF h ?_ ?_<;>intro h
  ·exact sN<|cT<|gS rfl rfl<|sM rfl<|bE h fun J z h=>WO.pU z rfl rfl rfl rfl rfl rfl<|sA rfl<|sN<|CO rfl rfl<|sM rfl<|sV (rI (rW ((rW (t*(2:Int)))+(1:Int))))<|sA rfl<|sN<|⟨(J,(rW ((rW (t*(2:Int)))+(1:Int)))),rfl,h⟩
  exact sN<|cF<|qK<|⟨((mT .i64 (rW (n*n)) (30:Int)),(rW (t*(2:Int)))),rfl,h⟩
 rintro⟨o,g⟩ b a c h
 refine CO c Z<|sV (rI 5)<|sM Z<|sN<|WL.round<|gU Z<|sT<|sN<|qS<|cT<|qK<|CK (α:=Int×Int) (fun x b a=>nA prog 0 (A b a) (aF.at_ 191 0 9)=some (A [(0,rI a0),(1,rI x.1),(5,rI x.2),(6,rI 5)] [])) (fun x=>bK a0 x.1 x.2=some r) ?_ ?_
 ·refine qB<|gU Z<|mM Z<|sV (rI (rW (o*o)))<|sV (rI (mT .i64 (rW (o*o)) (30:Int)))<|sA Z<|sN<|gU Z<|sM Z<|sV (rI (rW (g*(2:Int))))<|sA Z<|sN<|gU Z<|sM Z ?_
  refine sF h ?_ ?_<;>intro h
  ·exact sN<|cT<|gS rfl rfl<|sM rfl<|bE h fun I y h=>WO.pU y rfl rfl rfl rfl rfl rfl<|sA rfl<|sN<|CO rfl rfl<|sM rfl<|sV (rI (rW ((rW (g*(2:Int)))+(1:Int))))<|sA rfl<|sN<|⟨(I,(rW ((rW (g*(2:Int)))+(1:Int)))),rfl,h⟩
  exact sN<|cF<|qK<|⟨((mT .i64 (rW (o*o)) (30:Int)),(rW (g*(2:Int)))),rfl,h⟩
 rintro⟨e,i⟩ b a c h
 refine CO c Z<|sV (rI 6)<|sM Z<|sN<|WL.round<|gU Z<|sT<|sN<|qS<|cT<|qK<|CK (α:=Int×Int) (fun x b a=>nA prog 0 (A b a) (aF.at_ 191 0 9)=some (A [(0,rI a0),(1,rI x.1),(5,rI x.2),(6,rI 6)] [])) (fun x=>bJ a0 x.1 x.2=some r) ?_ ?_
 ·refine qB<|gU Z<|mM Z<|sV (rI (rW (e*e)))<|sV (rI (mT .i64 (rW (e*e)) (30:Int)))<|sA Z<|sN<|gU Z<|sM Z<|sV (rI (rW (i*(2:Int))))<|sA Z<|sN<|gU Z<|sM Z ?_
  refine sF h ?_ ?_<;>intro h
  ·exact sN<|cT<|gS rfl rfl<|sM rfl<|bE h fun H v h=>WO.pU v rfl rfl rfl rfl rfl rfl<|sA rfl<|sN<|CO rfl rfl<|sM rfl<|sV (rI (rW ((rW (i*(2:Int)))+(1:Int))))<|sA rfl<|sN<|⟨(H,(rW ((rW (i*(2:Int)))+(1:Int)))),rfl,h⟩
  exact sN<|cF<|qK<|⟨((mT .i64 (rW (e*e)) (30:Int)),(rW (i*(2:Int)))),rfl,h⟩
 rintro⟨f,j⟩ b a c h
 refine CO c Z<|sV (rI 7)<|sM Z<|sN<|WL.round<|gU Z<|sT<|sN<|qS<|cT<|qK<|CK (α:=Int×Int) (fun x b a=>nA prog 0 (A b a) (aF.at_ 191 0 9)=some (A [(0,rI a0),(1,rI x.1),(5,rI x.2),(6,rI 7)] [])) (fun x=>bX a0 x.1 x.2=some r) ?_ ?_
 ·refine qB<|gU Z<|mM Z<|sV (rI (rW (f*f)))<|sV (rI (mT .i64 (rW (f*f)) (30:Int)))<|sA Z<|sN<|gU Z<|sM Z<|sV (rI (rW (j*(2:Int))))<|sA Z<|sN<|gU Z<|sM Z ?_
  refine sF h ?_ ?_<;>intro h
  ·exact sN<|cT<|gS rfl rfl<|sM rfl<|bE h fun G u h=>WO.pU u rfl rfl rfl rfl rfl rfl<|sA rfl<|sN<|CO rfl rfl<|sM rfl<|sV (rI (rW ((rW (j*(2:Int)))+(1:Int))))<|sA rfl<|sN<|⟨(G,(rW ((rW (j*(2:Int)))+(1:Int)))),rfl,h⟩
  exact sN<|cF<|qK<|⟨((mT .i64 (rW (f*f)) (30:Int)),(rW (j*(2:Int)))),rfl,h⟩
 rintro⟨Q,F⟩ b a c h
 refine CO c Z<|sV (rI 8)<|sM Z<|sN<|WL.round<|gU Z<|sU<|sN<|qS<|cF<|qX<|qE<|gU Z<|sM Z<|sV (rI (rW ((256:Int)*a0))) ?_
 refine sM Z<|sV (rI (rW ((rW ((256:Int)*a0))+F)))<|sA Z<|sN<|qR ?_
 exact oI h▸qD
theorem gR{a0:Int}{r:Int×Int}(h:dp a0=some r):EvP prog aF ext 149 [rI a0] [] (.tup [rI r.1,rI r.2],[]):=by
 refine Ev.body Z Tryz.func149 Z Zk<|gU Z<|sV (r0)<|sV (r0)<|sN<|qS<|gU Z<|sM Z<|sF h ?_ ?_<;>intro h
 ·refine sN<|cT<|gU Z<|sV (r0)<|sV (rI 2)<|sN<|qR ?_
  exact oI h▸qD
 refine sN<|cF<|qK<|gU Z<|sM Z<|sV (.d (.int .u64 (IntKind.wrap .u64 a0)))<|bE h fun a b h=>cD (bits_Len_ev b)<|sV (rI (rW (a-(1:Int))))<|sA Z<|sN<|qS<|gU Z<|sM Z<|sF h ?_ ?_<;>intro h
 ·refine sN<|cT<|gU Z<|mM Z<|sM Z<|sV (rI (rW ((30:Int)-(rW (a-(1:Int))))))<|bE h fun i c h=>WO.shlG c Z Z Z Z Z<|bE h fun j e h=>cD (iA e)<|sA Z<|sV (r0)<|sN<|qR ?_
  exact oI h▸qD
 refine sN<|cF<|qK<|gU Z<|mM Z<|sM Z<|sV (rI (rW ((rW (a-(1:Int)))-(30:Int))))<|bE h fun k f h=>WO.shrG f Z Z Z Z Z<|bE h fun l g h=>cD (iA g)<|sA Z<|sV (r0)<|sN ?_
 refine qR ?_
 exact oI h▸qD
theorem iz{a0:(List Int)}{r:Int×Int}(h:cC a0=some r):EvP prog aF ext 148 [rL a0] [] (.tup [rI r.1,rI r.2],[]):=by
 refine Ev.body Z Tryz.func148 Z Zk<|gU Z<|sV (r0)<|sV (r0)<|sN<|qS<|gU Z<|sM Z<|bE h fun l h1 h=>cD (ez h1)<|sF h ?_ ?_<;>intro h
 ·refine sN<|cT<|gU Z<|sV (r0)<|sV (rI 1)<|sN<|qR ?_
  exact oI h▸qD
 refine sN<|cF<|qK<|gU Z<|sM Z<|sE (rI (a0.length:Int)) (mE _ _)<|sV (rI (rW ((a0.length:Int)-(1:Int))))<|sA Z<|sN<|qS<|qB<|gU Z<|sM Z<|sF h ?_ ?_<;>intro h
 ·refine sA Z<|sN<|cT<|gU Z<|sV (r0)<|sV (rI 2)<|sN<|qR ?_
  exact oI h▸qD
 refine sA Z<|sN<|cF<|gU Z<|sM Z<|sF h ?_ ?_<;>intro h
 ·refine sA Z<|sN<|cT<|gU Z<|sM Z<|bE h fun m e h=>eG e Z<|sC Z<|bE h fun b f h=>cR (.tup [rI b.1,rI b.2]) [] (gR f)<|sV (rI b.1)<|sV (rI b.2)<|sA Z<|sA Z<|sN ?_
  refine qR ?_
  exact oI h▸qD
 refine sA Z<|sN<|cF<|qK<|CJ Z Z<|mM Z<|bE h fun c g h=>eG g Z<|sC Z<|sV (rI (pI .i64 c (30:Int)))<|mM Z<|sV (rI (rW ((rW ((a0.length:Int)-(1:Int)))-(1:Int))))<|bE h fun k i h=>?_
 refine eG i Z<|sC Z<|sV (rI (orI .i64 (pI .i64 c (30:Int)) k))<|sA Z ?_
 refine sN<|sO<|gU Z<|sM Z<|bE h fun a j h=>cR (.tup [rI a.1,rI a.2]) [] (gR j)<|sM Z<|sV (rI a.1)<|sV (rI a.2)<|sA Z<|sA Z<|sN<|gU Z<|mM Z<|sV (rI (rW ((rW ((a0.length:Int)-(1:Int)))-(1:Int)))) ?_
 refine sV (rI (rW ((7680:Int)*(rW ((rW ((a0.length:Int)-(1:Int)))-(1:Int))))))<|sV (rI (rW (a.1+(rW ((7680:Int)*(rW ((rW ((a0.length:Int)-(1:Int)))-(1:Int))))))))<|sM Z<|sA Z<|sA Z<|sN<|qR ?_
 exact oI h▸qD
theorem lE{a0:aM}{a1:aA}{a2:Int}{r:Int×Int}(h:gV a0 a1 a2=some r):EvP prog aF ext 100 [.d (aM.pd a0),.d (aA.pd a1),rI a2] [] (.tup [rI r.1,rI r.2],[]):=by
 refine Ev.body Z Tryz.func100 Z Zk<|gU Z<|sB (.ptr 48 0) 48 (.var (aM.rc a0))<|sB (.ptr 64 0) 64 (.var [rM au.pd a1.aD])<|sV (r0)<|sV (r0)<|sN<|gU Z<|sV (.d (aA.pd a1))<|sV (.ptr 48 3)<|sL Z<|sV (.ptr 48 4)<|sL Z<|bE h fun c h1 h=>cR (.tup [.d (ar.pd c.1),rI c.2]) [] (response_Gain_ev h1) ?_
 refine sM Z<|sV (.d (ar.pd c.1))<|sV (rI c.2)<|sB (.ptr 128 0) 128 (.var [.cI,.cI])<|sS 128 (.var (ar.rc c.1))<|sA Z<|sN<|qS<|gU Z<|sM Z<|sF h ?_ ?_<;>intro h
 ·refine sN<|cT<|gU Z<|sM Z<|sV (r0)<|sA Z<|sN<|qR ?_
  exact oI h▸qD
 refine sN<|cF<|qK<|gU Z<|sV (.ptr 128 0)<|sL Z<|bE h fun e f h=>cR (.tup [rI e.1,rI e.2]) [] (iz f)<|sM Z<|sV (rI e.1)<|sV (rI e.2)<|sA Z<|sA Z<|sN<|qS ?_
 refine gU Z<|sM Z<|sF h ?_ ?_<;>intro h
 ·refine sN<|cT<|gU Z<|sV (r0)<|sV (rI 24)<|sN<|qR ?_
  exact oI h▸qD
 refine sN<|cF<|qK<|gU Z<|sV (.ptr 128 1)<|sL Z<|bE h fun b g h=>cR (.tup [rI b.1,rI b.2]) [] (iz g)<|sM Z<|sV (rI b.1)<|sV (rI b.2)<|sA Z<|sA Z<|sN<|qS ?_
 refine gU Z<|sM Z<|sF h ?_ ?_<;>intro h
 ·refine sN<|cT<|gU Z<|sM Z<|sV (r0)<|sA Z<|sN<|qR ?_
  exact oI h▸qD
 refine sN<|cF<|qK<|gU Z<|sM Z<|bE h fun a i h=>cR (.tup [rI a.1,rI a.2]) [] (gR i)<|sM Z<|sV (rI a.1)<|sV (rI a.2)<|sA Z<|sA Z<|sN<|gU Z<|sM Z ?_
 refine sV (rI (rW ((2:Int)*a.1)))<|sM Z<|sV (rI (rW ((rW ((2:Int)*a.1))+b.1)))<|sM Z<|sV (rI (rW ((rW ((rW ((2:Int)*a.1))+b.1))-e.1)))<|sM Z<|sA Z<|sA Z<|sN<|qR ?_
 exact oI h▸qD
theorem jk{a0:Int}{r:Int}(h:eV a0=some r):EvP prog aF ext 103 [rI a0] [] (rI r,[]):=by
 refine Ev.body Z Tryz.func103 Z Zk<|gU Z<|sV (r0)<|sN<|gU Z<|sM Z<|sV (rI (mT .i64 a0 (1:Int)))<|sA Z<|sN<|qR ?_
 exact oI h▸qD
theorem lD{a0:Int}{r:Int×Bool}(h:gT a0=some r):EvP prog aF ext 155 [rI a0] [] (.tup [rI r.1,rB r.2],[]):=by
 refine Ev.body Z Tryz.func155 Z Zk<|gU Z<|sV (r0)<|sU<|sN<|gU Z<|sM Z<|sV (rI (rW (a0*(30103:Int))))<|sM Z<|sF h ?_ ?_<;>intro h
 ·refine mM Z<|sV (rB (decide (a0<=(16777216:Int))))<|sV (rB (decide (a0<=(16777216:Int))))<|sA Z<|sA Z<|sN<|qR ?_
  exact oI h▸qD
 refine sM Z<|sK<|sK<|sU<|sA Z<|sA Z<|sN<|qR ?_
 exact oI h▸qD
theorem iU{a0:Int}{r:Int}(h:eF a0=some r):EvP prog aF ext 102 [rI a0] [] (rI r,[]):=by
 refine Ev.body Z Tryz.func102 Z Zk<|gU Z<|sV (r0)<|sN<|gU Z<|sM Z<|bE h fun a h1 h=>cR (.tup [rI a.1,rB a.2]) [] (lD h1)<|sM Z<|sV (rI a.1)<|sV (rB a.2)<|sA Z<|sA Z<|sN<|qS ?_
 refine gU Z<|sM Z<|sF h ?_ ?_<;>intro h
 ·refine sN<|cT<|gU Z<|sV (r0)<|sN<|qR ?_
  exact oI h▸qD
 refine sN<|cF<|qK<|gU Z<|sM Z<|bE h fun e b h=>WO.pU b Z Z Z Z Z Z<|sA Z<|sN<|qS<|gU Z<|sM Z<|bE h fun f c h=>WO.remG c Z Z Z Z Z Z<|sF h ?_ ?_<;>intro h
 ·refine sN<|cT<|CO Z Z<|sM Z<|sV (rI (rW (e-(1:Int))))<|sA Z<|sN<|gU Z<|sM Z<|sA Z<|sN<|qR ?_
  exact oI h▸qD
 refine sN<|cF<|qK<|gU Z<|sM Z<|sA Z<|sN<|qR ?_
 exact oI h▸qD
theorem mm{a0:Int}{r:Int}(h:gr a0=some r):EvP prog aF ext 104 [rI a0] [] (rI r,[]):=by
 refine Ev.body Z Tryz.func104 Z Zk<|gU Z<|sV (r0)<|sN<|gU Z<|sM Z<|sV (rI (rW (0-a0)))<|bE h fun a h1 h=>cD (iU h1)<|sV (rI (rW (0-a)))<|sA Z<|sN<|qR ?_
 exact oI h▸qD
theorem kQ{a0:aM}{a1:aA}{a2:Int}{a3:Int}{a4:Int}{r:av×Int}(h:eO a0 a1 a2 a3 a4=some r):EvP prog aF ext 57 [.d (aM.pd a0),.d (aA.pd a1),rI a2,rI a3,rI a4] [] (.tup [.d (av.pd r.1),rI r.2],[]):=by
 refine Ev.body Z Tryz.func57 Z Zk<|gU Z<|sB (.ptr 80 0) 80 (.var (aM.rc a0))<|sB (.ptr 96 0) 96 (.var [rM au.pd a1.aD])<|sB (.ptr 160 0) 160 (.var [r0,r0])<|sV (r0)<|sN<|qS<|gU Z<|sV (.d (aM.pd a0))<|bE h fun n h1 h=>cD (ge h1)<|sF h ?_ ?_<;>intro h
 ·refine sN<|cT<|gU Z<|sV (.d (av.pd (av.mk 0 0)))<|sS 160 (.var [r0,r0])<|sV (rI 27)<|sN<|qR ?_
  exact oI h▸qD
 refine sN<|cF<|qK<|qS<|gU Z<|sM Z<|sF h ?_ ?_<;>intro h
 ·refine sM Z<|sK<|sK<|sT<|sN<|cT<|gU Z<|sV (.d (av.pd (av.mk 0 0)))<|sS 160 (.var [r0,r0])<|sV (rI 2)<|sN<|qR ?_
  exact oI h▸qD
 refine mM Z<|sV (rB (decide (a2>(1073741823:Int))))<|sF h ?_ ?_<;>intro h
 ·refine sN<|cT<|gU Z<|sV (.d (av.pd (av.mk 0 0)))<|sS 160 (.var [r0,r0])<|sV (rI 2)<|sN<|qR ?_
  exact oI h▸qD
 refine sN<|cF<|qK<|gU Z<|sV (.d (aM.pd a0))<|sV (.d (aA.pd a1))<|sM Z<|bE h fun e k h=>cR (.tup [rI e.1,rI e.2]) [] (lE k)<|sM Z<|sV (rI e.1)<|sV (rI e.2)<|sA Z<|sA Z<|sN ?_
 refine qS<|gU Z<|sM Z<|sF h ?_ ?_<;>intro h
 ·refine sN<|cT<|gU Z<|sV (.d (av.pd (av.mk 0 0)))<|sM Z<|sS 160 (.var [r0,r0])<|sA Z<|sN<|qR ?_
  exact oI h▸qD
 refine sN<|cF<|qK<|gU Z<|sV (.ptr 80 0)<|sV (.d (ap.pd a0.aV))<|mM Z<|bE h fun a l h=>cR (.tup [rI a.1,rI a.2.1,rI a.2.2]) [] (js l)<|sM Z<|sV (rI a.1)<|sV (rI a.2.1)<|sV (rI a.2.2)<|sA Z ?_
 refine sA Z<|sA Z<|sN<|qS<|gU Z<|sM Z<|sF h ?_ ?_<;>intro h
 ·refine sN<|cT<|gU Z<|sV (.d (av.pd (av.mk 0 0)))<|sM Z<|sS 160 (.var [r0,r0])<|sA Z<|sN<|qR ?_
  exact oI h▸qD
 refine sN<|cF<|qK<|gU Z<|sM Z<|sV (rI (rW (e.1-(2:Int))))<|bE h fun o m h=>cD (jk m)<|bE h fun b f h=>cD (iU f)<|sM Z<|sV (rI (rW (b+a.1)))<|sM Z<|sV (rI (rW (0-e.1)))<|sV (rI (rW ((rW (0-e.1))-(6:Int)))) ?_
 refine bE h fun j g h=>cD (jk g)<|sV (rI (rW (0-j)))<|bE h fun c i h=>cD (mm i)<|sM Z<|sV (rI (rW (c+a.2.1)))<|sV (.d (av.pd (av.mk (rW (b+a.1)) (rW (c+a.2.1)))))<|sS 160 (.var [rI (rW (b+a.1)),rI (rW (c+a.2.1))])<|sV (r0)<|sN<|qR ?_
 exact oI h▸qD
theorem kF{a0:aX}{a1:ag}{a2:aq}{r:(List av)}(h:ga a0 a1 a2=some r):EvP prog aF ext 33 [.d (aX.pd a0),.d (ag.pd a1),.d (aq.pd a2)] [] (rM av.pd r,[]):=by
 refine Ev.body Z Tryz.func33 Z Zk<|gU Z<|sB (.ptr 48 0) 48 (.var (aX.rc a0))<|sB (.ptr 64 0) 64 (.var (ag.rc a1))<|sB (.ptr 80 0) 80 (.var (aq.rc a2))<|sV .cI<|sN<|gU Z<|sV .cI<|sN<|qS<|gU Z<|sV (.ptr 48 1)<|sL Z<|sE (rI (a0.jT.length:Int)) (mE _ _) ?_
 refine sV (r0)<|sN<|bE h fun x b h=>CI (CL (WL.mL b (fun s=>gI 0 33 3 [(3,.ptr 48 0),(4,.ptr 64 0),(5,.ptr 80 0),(7,.ref 816 0),(13,rM aC.pd a0.jT),(14,rI (a0.jT.length:Int)),(15,rI s.1)] [(48,.var (aX.rc a0)),(64,.var (ag.rc a1)),(80,.var (aq.rc a2)),(816,.arr 0 58 (s.2.map av.pd))]) (fun o=>gX 0 0 33 9 [(7,.ref 816 0)] [(816,.arr 0 58 (o.map av.pd))]) Z ?_ ?_))
 ·rintro⟨s1,s2⟩ n m B j h
  refine gS Z j<|sF h ?_ ?_<;>intro h
  ·refine sN<|qS<|cT<|qK<|qS<|qB<|gU Z<|sM Z<|bE h fun c p h=>eG p Z<|sV (.d (aC.pd c))<|sB (.ptr 144 0) 144 (.var zZ1)<|sA Z<|sH 144 (.var (aC.rc c))<|sN ?_
   refine CJ Z Z<|sV (.ptr 64 14)<|sV (.d (aM.pd a1.bi))<|sV (.ptr 48 2)<|sL Z<|sM Z<|bE h fun k q h=>eG q Z<|sV (.cptr [.lst (k.ba.aD.map au.pd)])<|sV (.d (aA.pd k.ba))<|sV (.ptr 48 0)<|sL Z<|sM Z<|bE h fun l t h=>eG t Z ?_
   refine sV (.cptr [.int .i64 l.aN,.int .i64 l.aT])<|sC Z<|sV (.d (aq.pd a2))<|sV (.ptr 144 0)<|sV (.d (ac.pd c.aS))<|bE h fun C u h=>cD (jG u)<|sV (.d (aq.pd a2))<|sV (.ptr 144 0)<|sV (.d (ac.pd c.aS))<|bE h fun y f h=>cD (kx f)<|bE h fun a g h=>cR (.tup [.d (av.pd a.1),rI a.2]) [] (kQ g)<|sM Z ?_
   refine sV (.d (av.pd a.1))<|sV (rI a.2)<|sB (.ptr 160 0) 160 (.var [r0,r0])<|sS 160 (.var (av.rc a.1))<|sA Z ?_
   refine sN<|sO<|gU Z<|sM Z<|sF h ?_ ?_<;>intro h
   ·refine sN<|cT<|CO Z Z<|sM Z<|sV (.d (av.pd a.1))<|sV (.d (.lst ([a.1].map av.pd)))<|bE h fun z i h=>aR i (fun _=>Z) Z<|sA Z<|sN<|CO Z Z<|sV (rI (rW (s1+(1:Int))))<|sM Z<|sN ?_
    cases oI h
    exact⟨rfl,rfl⟩
   refine sN<|cF<|qK<|CO Z Z<|sV (rI (rW (s1+(1:Int))))<|sM Z<|sN ?_
   cases oI h
   exact⟨rfl,rfl⟩
  refine sN<|qS<|cF<|qX ?_
  cases oI h
  exact⟨nofun,rfl,rfl⟩
 intro e n m he v
 obtain⟨rfl,j⟩:=v
 refine qE<|gS Z j<|sM Z<|sA Z<|sN<|qR ?_
 exact oI h▸qD
theorem kG{a0:ag}{a1:ah}{a2:(List ai)}{a3:aq}{r:(List av)×Int}(h:eB a0 a1 a2 a3=some r):EvP prog aF ext 13 [.d (ag.pd a0),.d (ah.pd a1),rM ai.pd a2,.d (aq.pd a3)] [] (.tup [rM av.pd r.1,rI r.2],[]):=by
 refine Ev.body Z Tryz.func13 Z Zk<|gU Z<|sB (.ptr 64 0) 64 (.var (ag.rc a0))<|sB (.ptr 80 0) 80 (.var [rM aj.pd a1.aw])<|sB (.ptr 112 0) 112 (.var (aq.rc a3))<|sV .cI<|sV (r0)<|sN<|gU Z<|sV (.d (ag.pd a0))<|sV (.d (ah.pd a1))<|sM Z<|bE h fun a h1 h=>cR (.tup [.d (aX.pd a.1),rI a.2]) [] (ma h1)<|sM Z ?_
 refine sV (.d (aX.pd a.1))<|sV (rI a.2)<|sB (.ptr 160 0) 160 (.var [.cI,.cI,.cI])<|sS 160 (.var (aX.rc a.1))<|sA Z<|sN<|qS<|qB<|gU Z<|sM Z<|sF h ?_ ?_<;>intro h
 ·refine sA Z<|sN<|cT<|gU Z<|sM Z<|sV .cI<|sA Z<|sN<|qR ?_
  cases oI h
  exact qG
 refine sA Z<|sN<|cF<|gU Z<|sV (.d (aq.pd a3))<|bE h fun e b h=>cD (cn b)<|sF h ?_ ?_<;>intro h
 ·refine sA Z<|sN<|cT<|gU Z<|sV .cI<|sV (rI 20)<|sN<|qR ?_
  cases oI h
  exact qG
 refine sA Z<|sN<|cF<|qK<|gU Z<|sV (.d (aX.pd a.1))<|sV (.d (ag.pd a0))<|sV (.d (aq.pd a3))<|bE h fun f c h=>cD (kF c)<|sA Z<|sV (r0)<|sN<|qR ?_
 cases oI h
 exact qG
theorem d8{a0:ac}{r:Bool}(h:ej a0=some r):EvP prog aF ext 66 [.d (ac.pd a0)] [] (rB r,[]):=by
 refine Ev.body Z Tryz.func66 Z Zk<|gU Z<|sB (.ptr 16 0) 16 (.var (ac.rc a0))<|sU<|sN<|gU Z<|sV (.ptr 16 0)<|sL Z<|sF h ?_ ?_<;>intro h
 ·refine sM Z<|sV (.ptr 16 0)<|sL Z<|sV (rB (decide (a0.fX<=(1048576:Int))))<|sF h ?_ ?_<;>intro h
  ·refine sM Z<|sV (.ptr 16 1)<|sL Z<|sV (rB (decide (a0.fY>=(-1048576:Int))))<|sF h ?_ ?_<;>intro h
   ·refine sM Z<|sV (.ptr 16 1)<|sL Z<|sV (rB (decide (a0.fY<=(1048576:Int))))<|sF h ?_ ?_<;>intro h
    ·refine sM Z<|sV (.ptr 16 2)<|sL Z<|sV (rB (decide (a0.fZ>=(-16384:Int))))<|sF h ?_ ?_<;>intro h
     ·refine sM Z<|sV (.ptr 16 2)<|sL Z<|sV (rB (decide (a0.fZ<=(1048576:Int))))<|sV (rB (decide (a0.fZ<=(1048576:Int))))<|sA Z<|sN<|qR ?_
      exact oI h▸qD
     refine sM Z<|k3<|sU<|sA Z<|sN<|qR ?_
     exact oI h▸qD
    refine sM Z<|k3<|sU<|sM Z<|k3<|sU<|sA Z<|sN<|qR ?_
    exact oI h▸qD
   refine sM Z<|k3<|sU<|sM Z<|k3<|sU<|sM Z<|k3<|sU ?_
   refine sA Z<|sN<|qR ?_
   exact oI h▸qD
  refine sM Z<|k3<|sU<|sM Z<|k3<|sU<|sM Z<|k3<|sU ?_
  refine sM Z<|k3<|sU<|sA Z<|sN<|qR ?_
  exact oI h▸qD
 refine sM Z<|k3<|sU<|sM Z<|k3<|sU<|sM Z<|k3<|sU ?_
 refine sM Z<|k3<|sU<|sM Z<|k3<|sU<|sA Z<|sN<|qR ?_
 exact oI h▸qD
theorem cW{a0:aq}{r:Bool}(h:cP a0=some r):EvP prog aF ext 36 [.d (aq.pd a0)] [] (rB r,[]):=by
 refine Ev.body Z Tryz.func36 Z Zk<|gU Z<|sB (.ptr 16 0) 16 (.var (aq.rc a0))<|sU<|sN<|gU Z<|sV (.ptr 16 0)<|sV (.d (ac.pd a0.aG))<|bE h fun e h1 h=>na h (fun a h=>?_) (fun a h=>?_)
 ·refine WO.nL (v:=rB true) (u:=[]) Z Z (fun _=>Z) Z Z Z Z Z (d8 h1) Z Z (congrArg (fun b=>RV.d (.bool b)) a) Z<|sM Z<|sV (.ptr 16 3)<|sV (.d (ac.pd a0.aB))<|bE h fun f c h=>cD (d8 c)<|sF h ?_ ?_<;>intro h
  ·refine sM Z<|sV (.ptr 16 0)<|sV (.ptr 16 0)<|sL Z<|sV (.ptr 16 3)<|sV (.ptr 16 3)<|sL Z<|sV (rB (decide (a0.aG.fX<=a0.aB.fX)))<|sF h ?_ ?_<;>intro h
   ·refine sM Z<|sV (.ptr 16 0)<|sV (.ptr 16 1)<|sL Z<|sV (.ptr 16 3)<|sV (.ptr 16 4)<|sL Z<|sV (rB (decide (a0.aG.fY<=a0.aB.fY)))<|sF h ?_ ?_<;>intro h
    ·refine sM Z<|sV (.ptr 16 0)<|sV (.ptr 16 2)<|sL Z<|sV (.ptr 16 3)<|sV (.ptr 16 5)<|sL Z<|sV (rB (decide (a0.aG.fZ<=a0.aB.fZ)))<|sV (rB (decide (a0.aG.fZ<=a0.aB.fZ)))<|sA Z<|sN<|qR ?_
     exact oI h▸qD
    refine sM Z<|k3<|k3<|sK<|sU<|sA Z<|sN<|qR ?_
    exact oI h▸qD
   refine sM Z<|k3<|k3<|sK<|sU<|sM Z<|k3<|sK<|sK ?_
   refine sK<|sK<|sU<|sA Z<|sN<|qR ?_
   exact oI h▸qD
  refine sM Z<|k3<|k3<|sK<|sU<|sM Z<|k3<|sK<|sK ?_
  refine sK<|sK<|sU<|sM Z<|k3<|k3<|sK<|sU<|sA Z<|sN<|qR ?_
  exact oI h▸qD
 refine WO.nL (v:=rB false) (u:=[]) Z Z (fun _=>Z) Z Z Z Z Z (d8 h1) Z Z (congrArg (fun b=>RV.d (.bool b)) a) Z<|sM Z<|k3<|sU<|sM Z<|k3<|k3<|sK<|sU ?_
 refine sM Z<|k3<|k3<|sK<|sU<|sM Z<|k3<|sK<|sK ?_
 refine sK<|sK<|sU<|sA Z<|sN<|qR ?_
 exact oI h▸qD
theorem dJ{a0:ap}{r:Int}(h:cg a0=some r):EvP prog aF ext 108 [.d (ap.pd a0)] [] (rI r,[]):=by
 refine Ev.body Z Tryz.func108 Z Zk<|gU Z<|sB (.ptr 16 0) 16 (.var (ap.rc a0))<|sV (r0)<|sN<|qS<|gU Z<|sV (.ptr 16 0)<|sL Z<|sF h ?_ ?_<;>intro h
 ·refine sM Z<|k3<|sT<|sM Z<|k3<|k3<|sK<|sT<|sM Z ?_
  refine k3<|sK<|sT<|sM Z<|k3<|sK<|sT<|sN<|cT<|gU Z<|sV (rI 21) ?_
  refine sN<|qR ?_
  exact oI h▸qD
 refine sM Z<|sV (.ptr 16 0)<|sL Z<|sV (rB (decide (a0.aY>(1048576:Int))))<|sF h ?_ ?_<;>intro h
 ·refine sM Z<|k3<|k3<|sK<|sT<|sM Z<|k3<|sK<|sT ?_
  refine sM Z<|k3<|sK<|sT<|sN<|cT<|gU Z<|sV (rI 21)<|sN<|qR ?_
  exact oI h▸qD
 refine sM Z<|sV (.ptr 16 1)<|sL Z<|sE (rI (a0.aG.length:Int)) (mE _ _)<|sV (.ptr 16 2)<|sL Z<|sE (rI (a0.aB.length:Int)) (mE _ _)<|sV (rB ((a0.aG.length:Int) != (a0.aB.length:Int)))<|sF h ?_ ?_<;>intro h
 ·refine sM Z<|k3<|sK<|sT<|sM Z<|k3<|sK<|sT<|sN<|cT<|gU Z ?_
  refine sV (rI 21)<|sN<|qR ?_
  exact oI h▸qD
 refine sM Z<|sV (.ptr 16 1)<|sL Z<|sE (rI (a0.aG.length:Int)) (mE _ _)<|sV (rB (decide ((a0.aG.length:Int)<(2:Int))))<|sF h ?_ ?_<;>intro h
 ·refine sM Z<|k3<|sK<|sT<|sN<|cT<|gU Z<|sV (rI 21)<|sN<|qR ?_
  exact oI h▸qD
 refine sM Z<|sV (.ptr 16 1)<|sL Z<|sE (rI (a0.aG.length:Int)) (mE _ _)<|sV (rB (decide ((a0.aG.length:Int)>(256:Int))))<|sF h ?_ ?_<;>intro h
 ·refine sN<|cT<|gU Z<|sV (rI 21)<|sN<|qR ?_
  exact oI h▸qD
 refine sN<|cF<|qK<|qS<|gU Z<|sV (r0)<|sN<|bE h fun q a h=>CI (CL (WL.mL a (fun s=>gI 0 108 4 [(1,.ptr 16 0),(3,rI s)] [(16,.var (ap.rc a0))]) (fun o=>match o with| .inl y=>gX 0 0 108 10 [] []| .inr r=>gF 108 Tryz.f108 0 (rI r,[])) Z ?_ ?_))
 ·rintro f B z H p h
  refine qS<|gS Z p<|sM Z<|sV (.ptr 16 1)<|sL Z<|sE (rI (a0.aG.length:Int)) (mE _ _)<|sF h ?_ ?_<;>intro h
  ·refine sN<|cT<|qK<|qS<|qB<|qS<|CJ Z Z<|sV (.ptr 16 1)<|sL Z<|sM Z<|bE h fun I C h=>eG C Z<|sC Z<|sF h ?_ ?_<;>intro h
   ·refine sM Z<|k3<|k3<|sT<|sM Z<|k3<|sK<|sK<|sK ?_
    refine k3<|sK<|sK<|sT ?_
    refine sN<|sO<|cT<|gU Z<|sV (rI 21)<|sN<|qR ?_
    cases oI h
    exact⟨nofun,rfl,rfl⟩
   refine sM Z<|sV (.ptr 16 2)<|sL Z<|sM Z<|bE h fun t g h=>eG g Z<|sC Z<|sV (rB (decide (t>(1099511627776:Int))))<|sF h ?_ ?_<;>intro h
   ·refine sM Z<|k3<|k3<|k3<|sK<|sK<|sT ?_
    refine sN<|sO<|cT<|gU Z<|sV (rI 21)<|sN<|qR ?_
    cases oI h
    exact⟨nofun,rfl,rfl⟩
   refine sM Z<|sV (.ptr 16 1)<|sL Z<|sM Z<|bE h fun u i h=>eG i Z<|sC Z<|sV (.ptr 16 2)<|sL Z<|sM Z<|bE h fun v j h=>eG j Z<|sC Z<|sV (rB (decide (u>v)))<|sF h ?_ ?_<;>intro h
   ·refine sN<|sO<|cT<|gU Z<|sV (rI 21)<|sN<|qR ?_
    cases oI h
    exact⟨nofun,rfl,rfl⟩
   refine sN<|sO<|cF<|qK<|CJ Z Z<|sM Z<|sF h ?_ ?_<;>intro h
   ·refine sM Z<|sV (.ptr 16 1)<|sL Z<|sM Z<|bE h fun E k h=>eG k Z<|sC Z<|sV (.ptr 16 1)<|sL Z<|sM Z<|sV (rI (rW (f-(1:Int))))<|bE h fun F l h=>eG l Z<|sC Z<|sF h ?_ ?_<;>intro h
    ·refine sM Z<|k3<|k3<|k3<|k3<|sT<|sT ?_
     refine sN<|sO<|cT<|gU Z<|sV (rI 21)<|sN<|qR ?_
     cases oI h
     exact⟨nofun,rfl,rfl⟩
    refine sM Z<|sV (.ptr 16 2)<|sL Z<|sM Z<|bE h fun b m h=>eG m Z<|sC Z<|sV (.ptr 16 2)<|sL Z<|sM Z<|sV (rI (rW (f-(1:Int))))<|bE h fun c n h=>eG n Z<|sC Z<|sV (rB (decide (b<c))) ?_
    refine sV (rB (decide (b<c)))<|sF h ?_ ?_<;>intro h
    ·refine sN<|sO<|cT<|gU Z<|sV (rI 21)<|sN<|qR ?_
     cases oI h
     exact⟨nofun,rfl,rfl⟩
    refine sN<|sO<|cF<|qK<|CO Z Z<|sM Z<|sV (rI (rW (f+(1:Int))))<|sA Z<|sN ?_
    cases oI h
    exact⟨rfl,rfl⟩
   refine sM Z<|k3<|k3<|k3<|k3<|sK<|sK ?_
   refine k3<|k3<|k3<|k3<|sU ?_
   refine sN<|sO<|cF<|qK<|CO Z Z<|sM Z<|sV (rI (rW (f+(1:Int))))<|sA Z<|sN ?_
   cases oI h
   exact⟨rfl,rfl⟩
  refine sN<|cF<|qX ?_
  cases oI h
  exact⟨nofun,rfl,rfl⟩
 intro e B z he x
 rcases q with G|D
 ·obtain⟨rfl,p⟩:=x
  refine qE<|gS Z p<|sV (r0)<|sN<|qR ?_
  exact oI h▸qD
 obtain⟨rfl,hf⟩:=x
 cases oI h
 exact hf
theorem mz{a0:aJ}{r:Bool}(h:gB a0=some r):EvP prog aF ext 60 [.d (aJ.pd a0)] [] (rB r,[]):=by
 refine Ev.body Z Tryz.func60 Z Zk<|gU Z<|sB (.ptr 16 0) 16 (.var (aJ.rc a0))<|sU<|sN<|gU Z<|sV (.ptr 16 0)<|sV (.d (aq.pd a0.aU))<|bE h fun f h1 h=>na h (fun a h=>?_) (fun a h=>?_)
 ·refine WO.nL (v:=rB true) (u:=[]) Z Z (fun _=>Z) Z Z Z Z Z (cW h1) Z Z (congrArg (fun b=>RV.d (.bool b)) a) Z<|sM Z<|sV (.ptr 16 6)<|sV (.d (ap.pd a0.bj))<|bE h fun e c h=>cD (dJ c)<|sV (rB (e==(0:Int)))<|sF h ?_ ?_<;>intro h
  ·refine sM Z<|sV (.ptr 16 9)<|sL Z<|sV (rB (decide (a0.gK>=(1:Int))))<|sF h ?_ ?_<;>intro h
   ·refine sM Z<|sV (.ptr 16 9)<|sL Z<|sV (rB (decide (a0.gK<=(1099511627776:Int))))<|sF h ?_ ?_<;>intro h
    ·refine sM Z<|sV (.ptr 16 10)<|sL Z<|sV (rB (decide (a0.aK>=(0:Int))))<|sF h ?_ ?_<;>intro h
     ·refine sM Z<|sV (.ptr 16 10)<|sL Z<|sV (rB (decide (a0.aK<=(1099511627776:Int))))<|sF h ?_ ?_<;>intro h
      ·refine sM Z<|sV (.ptr 16 12)<|sL Z<|sV (rB (decide (a0.ce>=(0:Int))))<|sF h ?_ ?_<;>intro h
       ·refine sM Z<|sV (.ptr 16 12)<|sL Z<|sV (rB (decide (a0.ce<=(1099511627776:Int))))<|sF h ?_ ?_<;>intro h
        ·refine sM Z<|sV (.ptr 16 11)<|sL Z<|sV (rB (decide (a0.dn>=(0:Int))))<|sF h ?_ ?_<;>intro h
         ·refine sM Z<|sV (.ptr 16 11)<|sL Z<|sV (rB (decide (a0.dn<=(1099511627776:Int))))<|sF h ?_ ?_<;>intro h
          ·refine sM Z<|sV (.ptr 16 13)<|sL Z<|sV (rB (decide (a0.b9>=(2:Int))))<|sF h ?_ ?_<;>intro h
           ·refine sM Z<|sV (.ptr 16 13)<|sL Z<|sV (rB (decide (a0.b9<=(16:Int))))<|sV (rB (decide (a0.b9<=(16:Int))))<|sA Z<|sN<|qR ?_
            cases oI h
            exact qG
           refine sM Z<|k3<|sU<|sA Z<|sN<|qR ?_
           cases oI h
           exact qG
          refine sM Z<|k3<|sU<|sM Z<|k3<|sU<|sA Z<|sN<|qR ?_
          cases oI h
          exact qG
         refine sM Z<|k3<|sU<|sM Z<|k3<|sU<|sM Z<|k3<|sU ?_
         refine sA Z<|sN<|qR ?_
         cases oI h
         exact qG
        refine sM Z<|k3<|sU<|sM Z<|k3<|sU<|sM Z<|k3<|sU ?_
        refine sM Z<|k3<|sU<|sA Z<|sN<|qR ?_
        cases oI h
        exact qG
       refine sM Z<|k3<|sU<|sM Z<|k3<|sU<|sM Z<|k3<|sU ?_
       refine sM Z<|k3<|sU<|sM Z<|k3<|sU<|sA Z<|sN<|qR ?_
       cases oI h
       exact qG
      refine sM Z<|k3<|sU<|sM Z<|k3<|sU<|sM Z<|k3<|sU ?_
      refine sM Z<|k3<|sU<|sM Z<|k3<|sU<|sM Z<|k3<|sU ?_
      refine sA Z<|sN<|qR ?_
      cases oI h
      exact qG
     refine sM Z<|k3<|sU<|sM Z<|k3<|sU<|sM Z<|k3<|sU ?_
     refine sM Z<|k3<|sU<|sM Z<|k3<|sU<|sM Z<|k3<|sU ?_
     refine sM Z<|k3<|sU<|sA Z<|sN<|qR ?_
     cases oI h
     exact qG
    refine sM Z<|k3<|sU<|sM Z<|k3<|sU<|sM Z<|k3<|sU ?_
    refine sM Z<|k3<|sU<|sM Z<|k3<|sU<|sM Z<|k3<|sU ?_
    refine sM Z<|k3<|sU<|sM Z<|k3<|sU<|sA Z<|sN<|qR ?_
    cases oI h
    exact qG
   refine sM Z<|k3<|sU<|sM Z<|k3<|sU<|sM Z<|k3<|sU ?_
   refine sM Z<|k3<|sU<|sM Z<|k3<|sU<|sM Z<|k3<|sU ?_
   refine sM Z<|k3<|sU<|sM Z<|k3<|sU<|sM Z<|k3<|sU ?_
   refine sA Z<|sN<|qR ?_
   cases oI h
   exact qG
  refine sM Z<|k3<|sU<|sM Z<|k3<|sU<|sM Z<|k3<|sU ?_
  refine sM Z<|k3<|sU<|sM Z<|k3<|sU<|sM Z<|k3<|sU ?_
  refine sM Z<|k3<|sU<|sM Z<|k3<|sU<|sM Z<|k3<|sU ?_
  refine sM Z<|k3<|sU<|sA Z<|sN<|qR ?_
  cases oI h
  exact qG
 refine WO.nL (v:=rB false) (u:=[]) Z Z (fun _=>Z) Z Z Z Z Z (cW h1) Z Z (congrArg (fun b=>RV.d (.bool b)) a) Z<|sM Z<|k3<|sK<|sU<|sM Z<|k3<|sU<|sM Z<|sK<|sK ?_
 refine sK<|sU<|sM Z<|k3<|sU<|sM Z<|k3<|sU<|sM Z<|sK<|sK ?_
 refine sK<|sU<|sM Z<|k3<|sU<|sM Z<|k3<|sU<|sM Z<|sK<|sK ?_
 refine sK<|sU<|sM Z<|k3<|sU<|sM Z<|k3<|sU<|sA Z<|sN<|qR ?_
 cases oI h
 exact qG
theorem iB{a0:aM}{r:Bool}(h:d9 a0=some r):EvP prog aF ext 61 [.d (aM.pd a0)] [] (rB r,[]):=by
 refine Ev.body Z Tryz.func61 Z Zk<|gU Z<|sB (.ptr 16 0) 16 (.var (aM.rc a0))<|sU<|sN<|gU Z<|sV (.ptr 16 0)<|sV (.d (ap.pd a0.aV))<|bE h fun a h1 h=>cD (dJ h1)<|sF h ?_ ?_<;>intro h
 ·refine sM Z<|sV (.ptr 16 3)<|sL Z<|sV (rB (decide (a0.aQ>=(0:Int))))<|sF h ?_ ?_<;>intro h
  ·refine sM Z<|sV (.ptr 16 3)<|sL Z<|sV (rB (decide (a0.aQ<=(65536:Int))))<|sF h ?_ ?_<;>intro h
   ·refine sM Z<|sV (.ptr 16 4)<|sL Z<|sV (rB (decide (a0.aL>=(1:Int))))<|sF h ?_ ?_<;>intro h
    ·refine sM Z<|sV (.ptr 16 4)<|sL Z<|sV (rB (decide (a0.aL<=(65536:Int))))<|sV (rB (decide (a0.aL<=(65536:Int))))<|sA Z<|sN<|qR ?_
     exact oI h▸qD
    refine sM Z<|k3<|sU<|sA Z<|sN<|qR ?_
    exact oI h▸qD
   refine sM Z<|k3<|sU<|sM Z<|k3<|sU<|sA Z<|sN<|qR ?_
   exact oI h▸qD
  refine sM Z<|k3<|sU<|sM Z<|k3<|sU<|sM Z<|k3<|sU ?_
  refine sA Z<|sN<|qR ?_
  exact oI h▸qD
 refine sM Z<|k3<|sU<|sM Z<|k3<|sU<|sM Z<|k3<|sU ?_
 refine sM Z<|k3<|sU<|sA Z<|sN<|qR ?_
 exact oI h▸qD
theorem jo{a0:ag}{r:Int}(h:bZ a0=some r):EvP prog aF ext 34 [.d (ag.pd a0)] [] (rI r,[]):=by
 refine Ev.body Z Tryz.func34 Z Zk<|gU Z<|sB (.ptr 16 0) 16 (.var (ag.rc a0))<|sV (r0)<|sN<|qS<|gU Z<|sV (.ptr 16 0)<|sV (.d (aJ.pd a0.ae))<|bE h fun c h1 h=>cD (mz h1)<|sF h ?_ ?_<;>intro h
 ·refine sM Z<|k3<|sK<|sT<|sM Z<|k3<|sT<|sM Z<|sK<|sK<|sK ?_
  refine sT<|sN<|cT<|gU Z<|sV (rI 27)<|sN<|qR ?_
  cases oI h
  exact qG
 refine sM Z<|sV (.ptr 16 14)<|sV (.d (aM.pd a0.bi))<|bE h fun b a h=>cD (iB a)<|sV (rB (!b))<|sF h ?_ ?_<;>intro h
 ·refine sM Z<|k3<|sT<|sM Z<|k3<|sT<|sN<|cT<|gU Z<|sV (rI 27)<|sN ?_
  refine qR ?_
  cases oI h
  exact qG
 refine sM Z<|sV (.ptr 16 19)<|sL Z<|sV (rB (decide (a0.aK<(0:Int))))<|sF h ?_ ?_<;>intro h
 ·refine sM Z<|k3<|sT<|sN<|cT<|gU Z<|sV (rI 27)<|sN<|qR ?_
  cases oI h
  exact qG
 refine sM Z<|sV (.ptr 16 19)<|sL Z<|sV (rB (decide (a0.aK>(1099511627776:Int))))<|sF h ?_ ?_<;>intro h
 ·refine sN<|cT<|gU Z<|sV (rI 27)<|sN<|qR ?_
  cases oI h
  exact qG
 refine sN<|cF<|qK<|gU Z<|sV (r0)<|sN<|qR ?_
 cases oI h
 exact qG
theorem eL{a0:(List UInt8)}{a1:Int}{a2:Int}{r:Bool}(h:eW a0 a1 a2=some r):EvP prog aF ext 109 [rS a0,rI a1,rI a2] [] (rB r,[]):=by
 refine Ev.body Z Tryz.func109 Z Zk<|gU Z<|sU<|sN<|qS<|gU Z<|sV (r0)<|sN<|bE h fun k c h=>CI (CL (WL.mL c (fun s=>gI 0 109 2 [(0,rS a0),(1,rI a1),(2,rI a2),(7,rI s)] []) (fun o=>match o with| .inl y=>gX 0 0 109 6 [(0,rS a0),(1,rI a1),(2,rI a2)] []| .inr r=>gF 109 Tryz.f109 0 (rB r,[])) Z ?_ ?_))
 ·rintro s1 n m B j h
  refine qS<|gS Z j<|mM Z<|sV (rI (a0.length:Int))<|sF h ?_ ?_<;>intro h
  ·refine sN<|cT<|qK<|qS<|qB<|gU Z<|mM Z<|bE h fun C p h=>WO.tI p Z Z Z Z Z Z<|sF h ?_ ?_<;>intro h
   ·refine mM Z<|sM Z<|bE h fun x q h=>WO.tI q Z Z Z Z Z Z<|sV (rB (decide (x<=(90:Int))))<|sF h ?_ ?_<;>intro h
    ·refine sM Z<|k3<|k3<|k3<|sK<|sT<|sU<|sN<|cF ?_
     refine qK<|CO Z Z<|sM Z<|sV (rI (rW (s1+(1:Int))))<|sA Z<|sN ?_
     cases oI h
     exact⟨rfl,rfl⟩
    refine mM Z<|sM Z<|bE h fun D t h=>WO.tI t Z Z Z Z Z Z<|sF h ?_ ?_<;>intro h
    ·refine mM Z<|sM Z<|bE h fun a f h=>WO.tI f Z Z Z Z Z Z<|sV (rB (decide (a<=(57:Int))))<|sV (rB (decide (a<=(57:Int))))<|sV (rB (decide (a<=(57:Int))))<|sF h ?_ ?_<;>intro h
     ·refine sN<|cT<|gU Z<|sU<|sN<|qR ?_
      cases oI h
      exact⟨nofun,rfl,rfl⟩
     refine sN<|cF<|qK<|CO Z Z<|sM Z<|sV (rI (rW (s1+(1:Int))))<|sA Z<|sN ?_
     cases oI h
     exact⟨rfl,rfl⟩
    refine sM Z<|k3<|sK<|sU<|sU<|sT<|sN<|cT<|gU Z<|sU<|sN<|qR ?_
    cases oI h
    exact⟨nofun,rfl,rfl⟩
   refine sM Z<|k3<|sK<|sU<|mM Z<|sM Z<|bE h fun v g h=>WO.tI g Z Z Z Z Z Z<|sF h ?_ ?_<;>intro h
   ·refine mM Z<|sM Z<|bE h fun b i h=>WO.tI i Z Z Z Z Z Z<|sV (rB (decide (b<=(57:Int))))<|sV (rB (decide (b<=(57:Int))))<|sV (rB (decide (b<=(57:Int))))<|sF h ?_ ?_<;>intro h
    ·refine sN<|cT<|gU Z<|sU<|sN<|qR ?_
     cases oI h
     exact⟨nofun,rfl,rfl⟩
    refine sN<|cF<|qK<|CO Z Z<|sM Z<|sV (rI (rW (s1+(1:Int))))<|sA Z<|sN ?_
    cases oI h
    exact⟨rfl,rfl⟩
   refine sM Z<|k3<|sK<|sU<|sU<|sT<|sN<|cT<|gU Z<|sU<|sN<|qR ?_
   cases oI h
   exact⟨nofun,rfl,rfl⟩
  refine sN<|cF<|qX ?_
  cases oI h
  exact⟨nofun,rfl,rfl⟩
 intro e n m he l
 rcases k with z|u
 ·obtain⟨rfl,j⟩:=l
  refine qE<|gS Z j<|sM Z<|sV (rI (a0.length:Int))<|sM Z<|sF h ?_ ?_<;>intro h
  ·refine mM Z<|sV (rI (a0.length:Int))<|sM Z<|sV (rB (decide ((a0.length:Int)<=a2)))<|sV (rB (decide ((a0.length:Int)<=a2)))<|sA Z<|sN<|qR ?_
   exact oI h▸qD
  refine sM Z<|k3<|sK<|sU<|sA Z<|sN<|qR ?_
  exact oI h▸qD
 obtain⟨rfl,hf⟩:=l
 cases oI h
 exact hf
theorem iW{a0:ak}{r:Bool}(h:gg a0=some r):EvP prog aF ext 62 [.d (ak.pd a0)] [] (rB r,[]):=by
 refine Ev.body Z Tryz.func62 Z Zk<|gU Z<|sB (.ptr 16 0) 16 (.var (ak.rc a0))<|sU<|sN<|gU Z<|sV (.ptr 16 0)<|sL Z<|bE h fun l h1 h=>na h (fun a h=>?_) (fun a h=>?_)
 ·refine WO.nL (v:=rB true) (u:=[]) Z Z (fun _=>Z) Z Z Z Z Z (eL h1) Z Z (congrArg (fun b=>RV.d (.bool b)) a) Z<|sM Z<|sV (.ptr 16 1)<|sL Z<|bE h fun m c h=>cD (eL c)<|sF h ?_ ?_<;>intro h
  ·refine sM Z<|sV (.ptr 16 2)<|sL Z<|sF h ?_ ?_<;>intro h
   ·refine sM Z<|k3<|sT<|sT<|sM Z<|sV (.ptr 16 3)<|sL Z<|bE h fun i e h=>cD (eL e)<|sV (rB i)<|sA Z<|sN<|qR ?_
    exact oI h▸qD
   refine sM Z<|sV (.ptr 16 2)<|sL Z<|bE h fun j f h=>cD (eL f)<|sV (rB j)<|sF h ?_ ?_<;>intro h
   ·refine sM Z<|sV (.ptr 16 3)<|sL Z<|bE h fun k g h=>cD (eL g)<|sV (rB k)<|sA Z<|sN<|qR ?_
    exact oI h▸qD
   refine sM Z<|k3<|sU<|sA Z<|sN<|qR ?_
   exact oI h▸qD
  refine sM Z<|k3<|k3<|sK<|sK<|sU<|sM Z<|k3<|sU ?_
  refine sA Z<|sN<|qR ?_
  exact oI h▸qD
 refine WO.nL (v:=rB false) (u:=[]) Z Z (fun _=>Z) Z Z Z Z Z (eL h1) Z Z (congrArg (fun b=>RV.d (.bool b)) a) Z<|sM Z<|k3<|sU<|sM Z<|k3<|k3<|sK<|sK ?_
 refine sU<|sM Z<|k3<|sU<|sA Z<|sN<|qR ?_
 exact oI h▸qD
theorem bo{a0:Int}{a1:Int}{a2:Int}{r:Bool}(h:bD a0 a1 a2=some r):EvP prog aF ext 64 [rI a0,rI a1,rI a2] [] (rB r,[]):=by
 refine Ev.body Z Tryz.func64 Z Zk<|gU Z<|sU<|sN<|gU Z<|mM Z<|sF h ?_ ?_<;>intro h
 ·refine mM Z<|sM Z<|sV (rB (decide (a0<=a2)))<|sV (rB (decide (a0<=a2)))<|sA Z<|sN<|qR ?_
  exact oI h▸qD
 refine sM Z<|k3<|sU<|sA Z<|sN<|qR ?_
 exact oI h▸qD
theorem ref02_gcd_ev{a0:Int}{a1:Int}{r:Int}(h:ref02_gcd a0 a1=some r):EvP prog aF ext 156 [rI a0,rI a1] [] (rI r,[]):=by
 refine Ev.body Z Tryz.func156 Z Zk<|gU Z<|sV (r0)<|sN<|qS<|bE h fun j b h=>CI (CL (WL.mL b (fun s=>gI 0 156 1 [(0,rI s.1),(1,rI s.2)] []) (fun o=>gX 0 0 156 3 [(0,rI o)] []) Z ?_ ?_))
 ·rintro⟨s1,s2⟩ f c k a h
  refine qS<|gS Z a<|sM Z<|sF h ?_ ?_<;>intro h
  ·refine sN<|cT<|qK<|qB<|CN Z Z<|mM Z<|sM Z<|bE h fun l g h=>WO.remG g Z Z Z Z Z Z<|sA Z<|sA Z ?_
   refine sN<|sO ?_
   cases oI h
   exact⟨rfl,rfl⟩
  refine sN<|cF<|qX ?_
  cases oI h
  exact⟨nofun,rfl,rfl⟩
 intro e f c he i
 obtain⟨rfl,a⟩:=i
 refine qE<|gS Z a<|sM Z<|sA Z<|sN<|qR ?_
 exact oI h▸qD
theorem ref02_Valid_ev{a0:bh}{r:Bool}(h:kU a0=some r):EvP prog aF ext 111 [.d (bh.pd a0)] [] (rB r,[]):=by
 refine Ev.body Z Tryz.func111 Z Zk<|gU Z<|sB (.ptr 16 0) 16 (.var [rI a0.aQ,rI a0.aL])<|sU<|sN<|gU Z<|sV (.ptr 16 0)<|sL Z<|bE h fun g h1 h=>na h (fun a h=>?_) (fun a h=>?_)
 ·refine WO.nL (v:=rB true) (u:=[]) Z Z (fun _=>Z) Z Z Z Z Z (bo h1) Z Z (congrArg (fun b=>RV.d (.bool b)) a) Z<|sM Z<|sV (.ptr 16 1)<|sL Z<|bE h fun i e h=>cD (bo e)<|sF h ?_ ?_<;>intro h
  ·refine sM Z<|sV (.ptr 16 0)<|sL Z<|sV (.ptr 16 1)<|sL Z<|bE h fun c f h=>cD (ref02_gcd_ev f)<|sV (rB (c==(1:Int)))<|sV (rB (c==(1:Int)))<|sA Z<|sN<|qR ?_
   exact oI h▸qD
  refine sM Z<|k3<|k3<|sU<|sA Z<|sN<|qR ?_
  exact oI h▸qD
 refine WO.nL (v:=rB false) (u:=[]) Z Z (fun _=>Z) Z Z Z Z Z (bo h1) Z Z (congrArg (fun b=>RV.d (.bool b)) a) Z<|sM Z<|k3<|sU<|sM Z<|k3<|k3<|sU<|sA Z ?_
 refine sN<|qR ?_
 exact oI h▸qD
theorem eX{a0:(List Int)}{r:Bool}(h:ei a0=some r):EvP prog aF ext 192 [rL a0] [] (rB r,[]):=by
 refine Ev.body Z Tryz.func192 Z Zk<|gU Z<|sU<|sN<|qS<|gU Z<|sV (r0)<|sN<|bE h fun k b h=>CI (CL (WL.mL b (fun s=>gI 0 192 2 [(0,rL a0),(3,rI s)] []) (fun o=>match o with| .inl y=>gX 0 0 192 6 [] []| .inr r=>gF 192 Tryz.f192 0 (rB r,[])) Z ?_ ?_))
 ·rintro s1 g f m a h
  refine qS<|gS Z a<|mM Z<|sE (rI (a0.length:Int)) (mE _ _)<|sF h ?_ ?_<;>intro h
  ·refine sN<|cT<|qK<|qS<|qB<|gU Z<|mM Z<|bE h fun n i h=>eG i Z<|sC Z<|bE h fun p j h=>cD (bo j)<|sF h ?_ ?_<;>intro h
   ·refine sN<|cT<|gU Z<|sU<|sN<|qR ?_
    cases oI h
    exact⟨nofun,rfl,rfl⟩
   refine sN<|cF<|qK<|CO Z Z<|sM Z<|sV (rI (rW (s1+(1:Int))))<|sA Z<|sN ?_
   cases oI h
   exact⟨rfl,rfl⟩
  refine sN<|cF<|qX ?_
  cases oI h
  exact⟨nofun,rfl,rfl⟩
 intro e g f he c
 rcases k with q|l
 ·obtain⟨rfl,a⟩:=c
  refine qE<|gS Z a<|sT<|sN<|qR ?_
  exact oI h▸qD
 obtain⟨rfl,hf⟩:=c
 cases oI h
 exact hf
theorem gy{a0:(List Int)}{r:Int}(h:eY a0=some r):EvP prog aF ext 161 [rL a0] [] (rI r,[]):=by
 refine Ev.body Z Tryz.func161 Z Zk<|gU Z<|sV (r0)<|sN<|gU Z<|sV (r0)<|sN<|qS<|gU Z<|sV (r0)<|sN<|bE h fun k b h=>CI (CL (WL.mL b (fun s=>gI 0 161 3 [(0,rL a0),(3,rI s.1),(4,rI s.2)] []) (fun o=>gX 0 0 161 6 [(3,rI o)] []) Z ?_ ?_))
 ·rintro⟨s1,s2⟩ f c l a h
  refine qS<|gS Z a<|mM Z<|sE (rI (a0.length:Int)) (mE _ _)<|sF h ?_ ?_<;>intro h
  ·refine sN<|cT<|qK<|qS<|qB<|CO Z Z<|mM Z<|sM Z<|bE h fun j g h=>eG g Z<|sC Z<|sV (rI (rW (s1+j)))<|sA Z<|sN ?_
   refine CO Z Z<|sM Z<|sV (rI (rW (s2+(1:Int))))<|sA Z<|sN ?_
   cases oI h
   exact⟨rfl,rfl⟩
  refine sN<|cF<|qX ?_
  cases oI h
  exact⟨nofun,rfl,rfl⟩
 intro e f c he i
 obtain⟨rfl,a⟩:=i
 refine qE<|gS Z a<|sM Z<|sA Z<|sN<|qR ?_
 exact oI h▸qD
theorem lG{a0:au}{r:Bool}(h:fh a0=some r):EvP prog aF ext 157 [.d (au.pd a0)] [] (rB r,[]):=by
 refine Ev.body Z Tryz.func157 Z Zk<|gU Z<|sB (.ptr 16 0) 16 (.var (au.rc a0))<|sU<|sN<|gU Z<|sV (.ptr 16 7)<|sL Z<|sE (rI (a0.bp.length:Int)) (mE _ _)<|sF h ?_ ?_<;>intro h
 ·refine sM Z<|sV (.ptr 16 8)<|sL Z<|sV (rB (a0.bc==(0:Int)))<|sF h ?_ ?_<;>intro h
  ·refine sM Z<|sV (.ptr 16 9)<|sL Z<|sV (rB (a0.bq==(0:Int)))<|sV (rB (a0.bq==(0:Int)))<|sA Z<|sN<|qS<|gU Z<|sV (.ptr 16 0)<|sL Z<|sN<|qB<|gU Z<|sF h ?_ ?_<;>intro h
   ·refine sA Z<|sN<|cT<|gU Z<|sF h ?_ ?_<;>intro h
    ·refine sM Z<|sV (.ptr 16 1)<|sV (.ptr 16 1)<|sL Z<|bE h fun Y F h=>cD (bo F)<|sF h ?_ ?_<;>intro h
     ·refine sM Z<|sV (.ptr 16 4)<|sV (.ptr 16 4)<|sL Z<|bE h fun x7 G h=>cD (bo G)<|sF h ?_ ?_<;>intro h
      ·refine sM Z<|sV (.ptr 16 1)<|sV (.ptr 16 2)<|sL Z<|sV (rB (a0.aQ.a1==(0:Int)))<|sF h ?_ ?_<;>intro h
       ·refine sM Z<|sV (.ptr 16 1)<|sV (.ptr 16 3)<|sL Z<|sV (rB (a0.aQ.a2==(0:Int)))<|sF h ?_ ?_<;>intro h
        ·refine sM Z<|sV (.ptr 16 4)<|sV (.ptr 16 5)<|sL Z<|sV (rB (a0.aL.a1==(0:Int)))<|sF h ?_ ?_<;>intro h
         ·refine sM Z<|sV (.ptr 16 4)<|sV (.ptr 16 6)<|sL Z<|sV (rB (a0.aL.a2==(0:Int)))<|sV (rB (a0.aL.a2==(0:Int)))<|sA Z<|sN<|qR ?_
          cases oI h
          exact qG
         refine sM Z<|k3<|sK<|sU<|sA Z<|sN<|qR ?_
         cases oI h
         exact qG
        refine sM Z<|k3<|sK<|sU<|sM Z<|k3<|sK<|sU<|sA Z<|sN<|qR ?_
        cases oI h
        exact qG
       refine sM Z<|k3<|sK<|sU<|sM Z<|k3<|sK<|sU<|sM Z<|sK<|sK ?_
       refine sK<|sK<|sU<|sA Z<|sN<|qR ?_
       cases oI h
       exact qG
      refine sM Z<|k3<|sK<|sU<|sM Z<|k3<|sK<|sU<|sM Z<|sK<|sK ?_
      refine sK<|sK<|sU<|sM Z<|k3<|sK<|sU<|sA Z<|sN<|qR ?_
      cases oI h
      exact qG
     refine sM Z<|k3<|sK<|sU<|sM Z<|k3<|sK<|sU<|sM Z<|sK<|sK ?_
     refine sK<|sK<|sU<|sM Z<|k3<|sK<|sU<|sM Z<|k3<|sK<|sU ?_
     refine sA Z<|sN<|qR ?_
     cases oI h
     exact qG
    refine sM Z<|k3<|sK<|sU<|sM Z<|k3<|sK<|sU<|sM Z<|sK<|sK ?_
    refine sK<|sK<|sU<|sM Z<|k3<|sK<|sU<|sM Z<|k3<|sK<|sU ?_
    refine sM Z<|k3<|sK<|sU<|sA Z<|sN<|qR ?_
    cases oI h
    exact qG
   refine sA Z<|sN<|cF<|gU Z<|sF h ?_ ?_<;>intro h
   ·refine sA Z<|sN<|cT<|CM (R0:=[(1,.cptr [.int .i64 a0.bu,.int .i64 a0.aQ.a0,.int .i64 a0.aQ.a1,.int .i64 a0.aQ.a2,.int .i64 a0.aL.a0,.int .i64 a0.aL.a1,.int .i64 a0.aL.a2,.lst (a0.bp.map (PD.int .i64)),.int .i64 a0.bc,.int .i64 a0.bq]),(3,rB (a0.bq==(0:Int)))]) (B0:=[]) Z Z<|sF h ?_ ?_<;>intro h
    ·refine sM Z<|sV (.cptr [.int .i64 a0.aQ.a0,.int .i64 a0.aQ.a1,.int .i64 a0.aQ.a2,.int .i64 a0.aL.a0,.int .i64 a0.aL.a1,.int .i64 a0.aL.a2,.lst (a0.bp.map (PD.int .i64)),.int .i64 a0.bc,.int .i64 a0.bq])<|sV (.d (.lst ([a0.aQ.a0,a0.aQ.a1,a0.aQ.a2].map (PD.int .i64))))<|bE h fun H e h=>cD (eX e)<|sF h ?_ ?_<;>intro h
     ·refine sM Z<|sV (.cptr [.int .i64 a0.aL.a0,.int .i64 a0.aL.a1,.int .i64 a0.aL.a2,.lst (a0.bp.map (PD.int .i64)),.int .i64 a0.bc,.int .i64 a0.bq])<|sV (.d (.lst ([a0.aL.a0,a0.aL.a1,a0.aL.a2].map (PD.int .i64))))<|bE h fun I f h=>cD (eX f)<|sF h ?_ ?_<;>intro h
      ·refine sM Z<|sV (.cptr [.int .i64 a0.aL.a0,.int .i64 a0.aL.a1,.int .i64 a0.aL.a2,.lst (a0.bp.map (PD.int .i64)),.int .i64 a0.bc,.int .i64 a0.bq])<|sV (.cptr [.int .i64 a0.aL.a0,.int .i64 a0.aL.a1,.int .i64 a0.aL.a2,.lst (a0.bp.map (PD.int .i64)),.int .i64 a0.bc,.int .i64 a0.bq])<|sC Z<|sV (rB (a0.aL.a0 != (0:Int)))<|sV (rB (a0.aL.a0 != (0:Int)))<|sA Z<|sN<|qR ?_
       exact oI h▸qD
      refine sM Z<|k3<|sK<|sU<|sA Z<|sN<|qR ?_
      exact oI h▸qD
     refine sM Z<|k3<|sU<|sM Z<|k3<|sK<|sU<|sA Z<|sN<|qR ?_
     exact oI h▸qD
    refine sM Z<|k3<|sU<|sM Z<|k3<|sU<|sM Z<|k3<|sK ?_
    refine sU<|sA Z<|sN<|qR ?_
    exact oI h▸qD
   refine sA Z<|sN<|cF<|gU Z<|sF h ?_ ?_<;>intro h
   ·refine sA Z<|sN<|cT<|gU Z<|sV (.ptr 16 1)<|sV (.d (aP.pd a0.aQ))<|sV (.d (aP.pd (aP.mk 0 0 0)))<|na h (fun a h=>?_) (fun a h=>?_)
    ·refine WO.pO (cQ a0.aQ (aP.mk 0 0 0)) a Z Z Z Z Z<|sM Z<|sV (.ptr 16 4)<|sV (.d (aP.pd a0.aL))<|sV (.d (aP.pd (aP.mk 0 0 0)))<|WO.bin (cQ a0.aL (aP.mk 0 0 0)) Z Z Z Z Z<|sF h ?_ ?_<;>intro h
     ·refine sM Z<|sV (.ptr 16 7)<|sL Z<|sE (rI (a0.bp.length:Int)) (mE _ _)<|bE h fun J g h=>cD (bo g)<|sF h ?_ ?_<;>intro h
      ·refine sM Z<|sV (.ptr 16 7)<|sL Z<|bE h fun K i h=>cD (eX i)<|sF h ?_ ?_<;>intro h
       ·refine sM Z<|sV (.ptr 16 7)<|sL Z<|bE h fun y j h=>cD (gy j)<|sV (rB (y != (0:Int)))<|sF h ?_ ?_<;>intro h
        ·refine sM Z<|sV (.ptr 16 8)<|sL Z<|bE h fun L k h=>cD (bo k)<|sF h ?_ ?_<;>intro h
         ·refine sM Z<|sV (.ptr 16 9)<|sL Z<|bE h fun z l h=>cD (bo l)<|sV (rB z)<|sA Z<|sN<|qR ?_
          cases oI h
          exact qG
         refine sM Z<|k3<|sU<|sA Z<|sN<|qR ?_
         cases oI h
         exact qG
        refine sM Z<|k3<|sU<|sM Z<|k3<|sU<|sA Z<|sN<|qR ?_
        cases oI h
        exact qG
       refine sM Z<|k3<|sK<|sU<|sM Z<|k3<|sU<|sM Z<|sK<|sK<|sK ?_
       refine sU<|sA Z<|sN<|qR ?_
       cases oI h
       exact qG
      refine sM Z<|k3<|sU<|sM Z<|k3<|sK<|sU<|sM Z<|sK<|sK<|sK ?_
      refine sU<|sM Z<|k3<|sU<|sA Z<|sN<|qR ?_
      cases oI h
      exact qG
     refine sM Z<|k3<|sK<|sU<|sM Z<|k3<|sU<|sM Z<|sK<|sK<|sK ?_
     refine sK<|sU<|sM Z<|k3<|sU<|sM Z<|k3<|sU<|sA Z<|sN<|qR ?_
     cases oI h
     exact qG
    refine WO.pO (cQ a0.aQ (aP.mk 0 0 0)) a Z Z Z Z Z<|sM Z<|k3<|sK<|sU<|sM Z<|k3<|sK<|sU<|sM Z<|sK ?_
    refine sK<|sK<|sU<|sM Z<|k3<|sK<|sU<|sM Z<|k3<|sU<|sM Z ?_
    refine k3<|sU<|sA Z<|sN<|qR ?_
    cases oI h
    exact qG
   refine sA Z<|sN<|cF<|qK<|gU Z<|sU<|sN<|qR ?_
   cases oI h
   exact qG
  refine sM Z<|k3<|sU<|sA Z<|sN<|qS<|gU Z<|sV (.ptr 16 0)<|sL Z<|sN<|qB<|gU Z<|sF h ?_ ?_<;>intro h
  ·refine sA Z<|sN<|cT<|gU Z<|mM Z<|k3<|sK<|sU<|sM Z<|sK<|sK<|sK ?_
   refine sK<|sU<|sM Z<|k3<|sK<|sU<|sM Z<|k3<|sK<|sU<|sM Z ?_
   refine k3<|sK<|sU<|sM Z<|k3<|sK<|sU<|sA Z<|sN<|qR ?_
   cases oI h
   exact qG
  refine sA Z<|sN<|cF<|gU Z<|sF h ?_ ?_<;>intro h
  ·refine sA Z<|sN<|cT<|CM (R0:=[(1,.cptr [.int .i64 a0.bu,.int .i64 a0.aQ.a0,.int .i64 a0.aQ.a1,.int .i64 a0.aQ.a2,.int .i64 a0.aL.a0,.int .i64 a0.aL.a1,.int .i64 a0.aL.a2,.lst (a0.bp.map (PD.int .i64)),.int .i64 a0.bc,.int .i64 a0.bq]),(3,rB false)]) (B0:=[]) Z Z<|mM Z<|k3<|sU<|sM Z<|k3<|sU ?_
   refine sM Z<|k3<|sK<|sU<|sA Z<|sN<|qR ?_
   exact oI h▸qD
  refine sA Z<|sN<|cF<|gU Z<|sF h ?_ ?_<;>intro h
  ·refine sA Z<|sN<|cT<|gU Z<|sV (.ptr 16 1)<|sV (.d (aP.pd a0.aQ))<|sV (.d (aP.pd (aP.mk 0 0 0)))<|na h (fun b h=>?_) (fun b h=>?_)
   ·refine WO.pO (cQ a0.aQ (aP.mk 0 0 0)) b Z Z Z Z Z<|sM Z<|sV (.ptr 16 4)<|sV (.d (aP.pd a0.aL))<|sV (.d (aP.pd (aP.mk 0 0 0)))<|WO.bin (cQ a0.aL (aP.mk 0 0 0)) Z Z Z Z Z<|sF h ?_ ?_<;>intro h
    ·refine sM Z<|sV (.ptr 16 7)<|sL Z<|sE (rI (a0.bp.length:Int)) (mE _ _)<|bE h fun N m h=>cD (bo m)<|sF h ?_ ?_<;>intro h
     ·refine sM Z<|sV (.ptr 16 7)<|sL Z<|bE h fun O n h=>cD (eX n)<|sF h ?_ ?_<;>intro h
      ·refine sM Z<|sV (.ptr 16 7)<|sL Z<|bE h fun B o h=>cD (gy o)<|sV (rB (B != (0:Int)))<|sF h ?_ ?_<;>intro h
       ·refine sM Z<|sV (.ptr 16 8)<|sL Z<|bE h fun Q p h=>cD (bo p)<|sF h ?_ ?_<;>intro h
        ·refine sM Z<|sV (.ptr 16 9)<|sL Z<|bE h fun C q h=>cD (bo q)<|sV (rB C)<|sA Z<|sN<|qR ?_
         cases oI h
         exact qG
        refine sM Z<|k3<|sU<|sA Z<|sN<|qR ?_
        cases oI h
        exact qG
       refine sM Z<|k3<|sU<|sM Z<|k3<|sU<|sA Z<|sN<|qR ?_
       cases oI h
       exact qG
      refine sM Z<|k3<|sK<|sU<|sM Z<|k3<|sU<|sM Z<|sK<|sK<|sK ?_
      refine sU<|sA Z<|sN<|qR ?_
      cases oI h
      exact qG
     refine sM Z<|k3<|sU<|sM Z<|k3<|sK<|sU<|sM Z<|sK<|sK<|sK ?_
     refine sU<|sM Z<|k3<|sU<|sA Z<|sN<|qR ?_
     cases oI h
     exact qG
    refine sM Z<|k3<|sK<|sU<|sM Z<|k3<|sU<|sM Z<|sK<|sK<|sK ?_
    refine sK<|sU<|sM Z<|k3<|sU<|sM Z<|k3<|sU<|sA Z<|sN<|qR ?_
    cases oI h
    exact qG
   refine WO.pO (cQ a0.aQ (aP.mk 0 0 0)) b Z Z Z Z Z<|sM Z<|k3<|sK<|sU<|sM Z<|k3<|sK<|sU<|sM Z<|sK ?_
   refine sK<|sK<|sU<|sM Z<|k3<|sK<|sU<|sM Z<|k3<|sU<|sM Z ?_
   refine k3<|sU<|sA Z<|sN<|qR ?_
   cases oI h
   exact qG
  refine sA Z<|sN<|cF<|qK<|gU Z<|sU<|sN<|qR ?_
  cases oI h
  exact qG
 refine sM Z<|k3<|sU<|sM Z<|k3<|sU<|sA Z<|sN<|qS<|gU Z<|sV (.ptr 16 0) ?_
 refine sL Z<|sN<|qB<|gU Z<|sF h ?_ ?_<;>intro h
 ·refine sA Z<|sN<|cT<|gU Z<|mM Z<|k3<|sK<|sU<|sM Z<|sK<|sK<|sK ?_
  refine sK<|sU<|sM Z<|k3<|sK<|sU<|sM Z<|k3<|sK<|sU<|sM Z ?_
  refine k3<|sK<|sU<|sM Z<|k3<|sK<|sU<|sA Z<|sN<|qR ?_
  cases oI h
  exact qG
 refine sA Z<|sN<|cF<|gU Z<|sF h ?_ ?_<;>intro h
 ·refine sA Z<|sN<|cT<|CM (R0:=[(1,.cptr [.int .i64 a0.bu,.int .i64 a0.aQ.a0,.int .i64 a0.aQ.a1,.int .i64 a0.aQ.a2,.int .i64 a0.aL.a0,.int .i64 a0.aL.a1,.int .i64 a0.aL.a2,.lst (a0.bp.map (PD.int .i64)),.int .i64 a0.bc,.int .i64 a0.bq]),(3,rB false)]) (B0:=[]) Z Z<|mM Z<|k3<|sU<|sM Z<|k3<|sU ?_
  refine sM Z<|k3<|sK<|sU<|sA Z<|sN<|qR ?_
  exact oI h▸qD
 refine sA Z<|sN<|cF<|gU Z<|sF h ?_ ?_<;>intro h
 ·refine sA Z<|sN<|cT<|gU Z<|sV (.ptr 16 1)<|sV (.d (aP.pd a0.aQ))<|sV (.d (aP.pd (aP.mk 0 0 0)))<|na h (fun c h=>?_) (fun c h=>?_)
  ·refine WO.pO (cQ a0.aQ (aP.mk 0 0 0)) c Z Z Z Z Z<|sM Z<|sV (.ptr 16 4)<|sV (.d (aP.pd a0.aL))<|sV (.d (aP.pd (aP.mk 0 0 0)))<|WO.bin (cQ a0.aL (aP.mk 0 0 0)) Z Z Z Z Z<|sF h ?_ ?_<;>intro h
   ·refine sM Z<|sV (.ptr 16 7)<|sL Z<|sE (rI (a0.bp.length:Int)) (mE _ _)<|bE h fun T s h=>cD (bo s)<|sF h ?_ ?_<;>intro h
    ·refine sM Z<|sV (.ptr 16 7)<|sL Z<|bE h fun W t h=>cD (eX t)<|sF h ?_ ?_<;>intro h
     ·refine sM Z<|sV (.ptr 16 7)<|sL Z<|bE h fun D u h=>cD (gy u)<|sV (rB (D != (0:Int)))<|sF h ?_ ?_<;>intro h
      ·refine sM Z<|sV (.ptr 16 8)<|sL Z<|bE h fun X v h=>cD (bo v)<|sF h ?_ ?_<;>intro h
       ·refine sM Z<|sV (.ptr 16 9)<|sL Z<|bE h fun E x h=>cD (bo x)<|sV (rB E)<|sA Z<|sN<|qR ?_
        cases oI h
        exact qG
       refine sM Z<|k3<|sU<|sA Z<|sN<|qR ?_
       cases oI h
       exact qG
      refine sM Z<|k3<|sU<|sM Z<|k3<|sU<|sA Z<|sN<|qR ?_
      cases oI h
      exact qG
     refine sM Z<|k3<|sK<|sU<|sM Z<|k3<|sU<|sM Z<|sK<|sK<|sK ?_
     refine sU<|sA Z<|sN<|qR ?_
     cases oI h
     exact qG
    refine sM Z<|k3<|sU<|sM Z<|k3<|sK<|sU<|sM Z<|sK<|sK<|sK ?_
    refine sU<|sM Z<|k3<|sU<|sA Z<|sN<|qR ?_
    cases oI h
    exact qG
   refine sM Z<|k3<|sK<|sU<|sM Z<|k3<|sU<|sM Z<|sK<|sK<|sK ?_
   refine sK<|sU<|sM Z<|k3<|sU<|sM Z<|k3<|sU<|sA Z<|sN<|qR ?_
   cases oI h
   exact qG
  refine WO.pO (cQ a0.aQ (aP.mk 0 0 0)) c Z Z Z Z Z<|sM Z<|k3<|sK<|sU<|sM Z<|k3<|sK<|sU<|sM Z<|sK ?_
  refine sK<|sK<|sU<|sM Z<|k3<|sK<|sU<|sM Z<|k3<|sU<|sM Z ?_
  refine k3<|sU<|sA Z<|sN<|qR ?_
  cases oI h
  exact qG
 refine sA Z<|sN<|cF<|qK<|gU Z<|sU<|sN<|qR ?_
 cases oI h
 exact qG
theorem kW{a0:aA}{r:Bool}(h:ig a0=some r):EvP prog aF ext 112 [.d (aA.pd a0)] [] (rB r,[]):=by
 refine Ev.body Z Tryz.func112 Z Zk<|gU Z<|sB (.ptr 16 0) 16 (.var [rM au.pd a0.aD])<|sU<|sN<|gU Z<|sV (rI 1)<|sN<|qS<|gU Z<|sV (r0)<|sN<|bE h fun i c h=>CI (CL (WL.mL c (fun s=>gI 0 112 3 [(1,.ptr 16 0),(3,rI s.1),(4,rI s.2)] [(16,.var [rM au.pd a0.aD])]) (fun o=>match o with| .inl y=>gX 0 0 112 11 [(1,.ptr 16 0)] [(16,.var [rM au.pd a0.aD])]| .inr r=>gF 112 Tryz.f112 0 (rB r,[])) Z ?_ ?_))
 ·rintro⟨s1,s2⟩ l k v g h
  refine qS<|gS Z g<|sM Z<|sV (.ptr 16 0)<|sL Z<|sE (rI (a0.aD.length:Int)) (mE _ _)<|sF h ?_ ?_<;>intro h
  ·refine sN<|cT<|qK<|qS<|qB<|qS<|gU Z<|sV (.ptr 16 0)<|sL Z<|sM Z<|bE h fun t m h=>eG m Z<|sV (.d (au.pd t))<|bE h fun x n h=>cD (lG n) ?_
   refine sF h ?_ ?_<;>intro h
   ·refine sN<|cT<|gU Z<|sU<|sN<|qR ?_
    cases oI h
    exact⟨nofun,rfl,rfl⟩
   refine sN<|cF<|qK<|gU Z<|sV (.ptr 16 0)<|sL Z<|sM Z<|bE h fun a p h=>eG p Z<|sV (.cptr [.int .i64 a.bu,.int .i64 a.aQ.a0,.int .i64 a.aQ.a1,.int .i64 a.aQ.a2,.int .i64 a.aL.a0,.int .i64 a.aL.a1,.int .i64 a.aL.a2,.lst (a.bp.map (PD.int .i64)),.int .i64 a.bc,.int .i64 a.bq])<|sC Z<|sF h ?_ ?_<;>intro h
   ·refine sN<|cT<|gU Z<|sM Z<|sV (.ptr 16 0)<|sL Z<|sM Z<|bE h fun b f h=>eG f Z<|sV (.cptr [.int .i64 b.bc,.int .i64 b.bq])<|sC Z<|sV (rI (rW (s1*b.bc)))<|sA Z<|sN<|gU Z ?_
    refine sM Z<|sF h ?_ ?_<;>intro h
    ·refine sN<|cT<|gU Z<|sU<|sN<|qR ?_
     cases oI h
     exact⟨nofun,rfl,rfl⟩
    refine sN<|cF<|qK<|CO Z Z<|sM Z<|sV (rI (rW (s2+(1:Int))))<|sA Z<|sN ?_
    cases oI h
    exact⟨rfl,rfl⟩
   refine sN<|cF<|qK<|CO Z Z<|sM Z<|sV (rI (rW (s2+(1:Int))))<|sA Z<|sN ?_
   cases oI h
   exact⟨rfl,rfl⟩
  refine sN<|cF<|qX ?_
  cases oI h
  exact⟨nofun,rfl,rfl⟩
 intro e l k he j
 rcases i with u|q
 ·obtain⟨rfl,g⟩:=j
  refine qE<|gS Z g<|sV (.ptr 16 0)<|sL Z<|sE (rI (a0.aD.length:Int)) (mE _ _)<|sV (rB (decide ((a0.aD.length:Int)<=(8:Int))))<|sA Z<|sN<|qR ?_
  exact oI h▸qD
 obtain⟨rfl,hf⟩:=j
 cases oI h
 exact hf
theorem lH{a0:al}{r:Bool}(h:fi a0=some r):EvP prog aF ext 65 [.d (al.pd a0)] [] (rB r,[]):=by
 refine Ev.body Z Tryz.func65 Z Zk<|gU Z<|sB (.ptr 16 0) 16 (.var (al.rc a0))<|sU<|sN<|gU Z<|sV (.ptr 16 4)<|sV (.d (ac.pd a0.aI))<|sB (.ptr 48 0) 48 (.var [r0,r0,r0])<|sS 48 (.var (ac.rc a0.aI))<|sN<|gU Z<|sV (.ptr 16 0)<|sL Z<|sF h ?_ ?_<;>intro h
 ·refine sM Z<|sV (.ptr 16 0)<|sL Z<|sV (.ptr 16 1)<|sL Z<|sV (rB (decide (a0.bC<a0.fTo)))<|sF h ?_ ?_<;>intro h
  ·refine sM Z<|sV (.ptr 16 1)<|sL Z<|sV (rB (decide (a0.fTo<=(9007199254740992:Int))))<|sF h ?_ ?_<;>intro h
   ·refine sM Z<|sV (.ptr 16 2)<|sV (.d (bh.pd a0.cm))<|bE h fun j e h=>cD (ref02_Valid_ev e)<|sF h ?_ ?_<;>intro h
    ·refine sM Z<|sV (.ptr 16 7)<|sV (.d (aA.pd a0.ba))<|bE h fun k f h=>cD (kW f)<|sF h ?_ ?_<;>intro h
     ·refine sM Z<|sV (.ptr 48 0)<|sL Z<|bE h fun l g h=>cD (bo g)<|sF h ?_ ?_<;>intro h
      ·refine sM Z<|sV (.ptr 48 1)<|sL Z<|bE h fun i a h=>cD (bo a)<|sF h ?_ ?_<;>intro h
       ·refine sM Z<|sV (.ptr 48 2)<|sL Z<|bE h fun c b h=>cD (bo b)<|sV (rB c)<|sA Z<|sN<|qR ?_
        exact oI h▸qD
       refine sM Z<|k3<|sU<|sA Z<|sN<|qR ?_
       exact oI h▸qD
      refine sM Z<|k3<|sU<|sM Z<|k3<|sU<|sA Z<|sN<|qR ?_
      exact oI h▸qD
     refine sM Z<|k3<|sU<|sM Z<|k3<|sU<|sM Z<|k3<|sU ?_
     refine sA Z<|sN<|qR ?_
     exact oI h▸qD
    refine sM Z<|k3<|sU<|sM Z<|k3<|sU<|sM Z<|k3<|sU ?_
    refine sM Z<|k3<|sU<|sA Z<|sN<|qR ?_
    exact oI h▸qD
   refine sM Z<|k3<|sU<|sM Z<|k3<|sU<|sM Z<|k3<|sU ?_
   refine sM Z<|k3<|sU<|sM Z<|k3<|sU<|sA Z<|sN<|qR ?_
   exact oI h▸qD
  refine sM Z<|k3<|sU<|sM Z<|k3<|sU<|sM Z<|k3<|sU ?_
  refine sM Z<|k3<|sU<|sM Z<|k3<|sU<|sM Z<|k3<|sU ?_
  refine sA Z<|sN<|qR ?_
  exact oI h▸qD
 refine sM Z<|k3<|sK<|sK<|sU<|sM Z<|k3<|sU<|sM Z<|sK<|sK ?_
 refine sK<|sU<|sM Z<|k3<|sU<|sM Z<|k3<|sU<|sM Z<|sK<|sK ?_
 refine sK<|sU<|sM Z<|k3<|sU<|sA Z<|sN<|qR ?_
 exact oI h▸qD
theorem fg{a0:(List UInt8)}{a1:(List UInt8)}{r:Int}(h:dN a0 a1=some r):EvP prog aF ext 110 [rS a0,rS a1] [] (rI r,[]):=by
 refine Ev.body Z Tryz.func110 Z Zk<|gU Z<|sV (r0)<|sN<|qS<|qB<|gU Z<|mM Z<|sF h ?_ ?_<;>intro h
 ·refine sA Z<|sN<|cT<|gU Z<|sV (rI (-1))<|sN<|qR ?_
  exact oI h▸qD
 refine sA Z<|sN<|cF<|gU Z<|mM Z<|sF h ?_ ?_<;>intro h
 ·refine sA Z<|sN<|cT<|gU Z<|sV (rI 1)<|sN<|qR ?_
  exact oI h▸qD
 refine sA Z<|sN<|cF<|qK<|gU Z<|sV (r0)<|sN<|qR ?_
 exact oI h▸qD
theorem jJ{a0:ak}{a1:ak}{r:Int}(h:fC a0 a1=some r):EvP prog aF ext 63 [.d (ak.pd a0),.d (ak.pd a1)] [] (rI r,[]):=by
 refine Ev.body Z Tryz.func63 Z Zk<|gU Z<|sB (.ptr 32 0) 32 (.var (ak.rc a0))<|sB (.ptr 48 0) 48 (.var (ak.rc a1))<|sV (r0)<|sN<|qS<|CJ Z Z<|sV (.ptr 32 0)<|sL Z<|sV (.ptr 48 0)<|sL Z<|bE h fun a h1 h=>cD (fg h1)<|sV (.ptr 32 1) ?_
 refine sL Z<|sV (.ptr 48 1)<|sL Z<|bE h fun b f h=>cD (fg f)<|sV (.ptr 32 2)<|sL Z<|sV (.ptr 48 2)<|sL Z<|bE h fun c g h=>cD (fg g)<|sV (.ptr 32 3)<|sL Z<|sV (.ptr 48 3)<|sL Z ?_
 refine bE h fun e i h=>cD (fg i)<|sV (.d (A4_Int.pd (A4_Int.mk a b c e)))<|sV (r0) ?_
 refine sN<|sO<|CI (CL ?_)
 refine WL.round<|gU Z<|sT<|sN<|qS<|cT<|qK<|qS<|qB<|gU Z<|sV (rI a)<|sA Z<|sN<|gU Z<|sM Z ?_
 refine sF h ?_ ?_<;>intro h
 ·refine sN<|cT<|gU Z<|sM Z<|sA Z<|sN<|qR ?_
  exact oI h▸qD
 refine sN<|cF<|qK<|CO Z Z<|sV (rI 1)<|sM Z<|sN<|WL.round<|gU Z<|sT<|sN<|qS<|cT<|qK<|qS ?_
 refine qB<|gU Z<|sV (rI b)<|sA Z<|sN<|gU Z<|sM Z<|sF h ?_ ?_<;>intro h
 ·refine sN<|cT<|gU Z<|sM Z<|sA Z<|sN<|qR ?_
  exact oI h▸qD
 refine sN<|cF<|qK<|CO Z Z<|sV (rI 2)<|sM Z<|sN<|WL.round<|gU Z<|sT<|sN<|qS<|cT<|qK<|qS ?_
 refine qB<|gU Z<|sV (rI c)<|sA Z<|sN<|gU Z<|sM Z<|sF h ?_ ?_<;>intro h
 ·refine sN<|cT<|gU Z<|sM Z<|sA Z<|sN<|qR ?_
  exact oI h▸qD
 refine sN<|cF<|qK<|CO Z Z<|sV (rI 3)<|sM Z<|sN<|WL.round<|gU Z<|sT<|sN<|qS<|cT<|qK<|qS ?_
 refine qB<|gU Z<|sV (rI e)<|sA Z<|sN<|gU Z<|sM Z<|sF h ?_ ?_<;>intro h
 ·refine sN<|cT<|gU Z<|sM Z<|sA Z<|sN<|qR ?_
  exact oI h▸qD
 refine sN<|cF<|qK<|CO Z Z<|sV (rI 4)<|sM Z<|sN<|WL.round<|gU Z<|sU<|sN<|qS<|cF<|qX<|qE ?_
 refine gU Z<|sV (r0)<|sN<|qR ?_
 exact oI h▸qD
theorem kX{a0:ah}{r:Bool}(h:gh a0=some r):EvP prog aF ext 35 [.d (ah.pd a0)] [] (rB r,[]):=by
 refine Ev.body Z Tryz.func35 Z Zk<|gU Z<|sB (.ptr 16 0) 16 (.var [rM aj.pd a0.aw])<|sU<|sN<|qS<|gU Z<|sV (r0)<|sN<|bE h fun E l h=>CI (CL (WL.mL l (fun s=>gI 0 35 2 [(1,.ptr 16 0),(3,rI s)] [(16,.var [rM aj.pd a0.aw])]) (fun o=>match o with| .inl y=>gX 0 0 35 12 [(1,.ptr 16 0)] [(16,.var [rM aj.pd a0.aw])]| .inr r=>gF 35 Tryz.f35 0 (rB r,[])) Z ?_ ?_))
 ·rintro s1 j i L g h
  refine qS<|gS Z g<|sM Z<|sV (.ptr 16 0)<|sL Z<|sE (rI (a0.aw.length:Int)) (mE _ _)<|sF h ?_ ?_<;>intro h
  ·refine sN<|cT<|qK<|qS<|qB<|gU Z<|sV (.ptr 16 0)<|sL Z<|sM Z<|bE h fun f J h=>eG J Z<|sV (.d (aj.pd f))<|sB (.ptr 64 0) 64 (.var [rS [],rS [],rS [],rS [],.cI])<|sS 64 (.var (aj.rc f))<|sN ?_
   refine CK (α:=Unit) (fun x j i=>nA prog 0 (A j i) (aF.at_ 35 0 7)=some (A [(1,.ptr 16 0),(3,rI s1),(4,.ptr 64 0)] [(16,.var [rM aj.pd a0.aw]),(64,.var (aj.rc f))])) (fun x=>fO f s1=some L) ?_ ?_
   ·refine CJ Z Z<|sV (.ptr 64 0)<|sV (.d (ak.pd f.az))<|bE h fun T u h=>cD (iW u)<|sF h ?_ ?_<;>intro h
    ·refine sM Z<|k3<|k3<|k3<|k3<|sK<|sK ?_
     refine sK<|sT<|sM Z<|k3<|sK<|sK<|sT ?_
     refine sN<|sO<|cT<|gU Z<|sU<|sN<|qR ?_
     cases oI h
     exact⟨nofun,rfl,rfl⟩
    refine mM Z<|sF h ?_ ?_<;>intro h
    ·refine sM Z<|sV (.ptr 16 0)<|sL Z<|sM Z<|sV (rI (rW (s1-(1:Int))))<|bE h fun c v h=>eG v Z<|sV (.cptr [.str c.az.aZ,.str c.az.aS,.str c.az.aO,.str c.az.bg,.lst (c.aH.map al.pd)])<|sV (.d (ak.pd c.az))<|sV (.ptr 64 0)<|sV (.d (ak.pd f.az))<|bE h fun n z h=>cD (jJ z)<|sV (rB (decide (n>=(0:Int))))<|sV (rB (decide (n>=(0:Int)))) ?_
     refine sF h ?_ ?_<;>intro h
     ·refine sM Z<|k3<|sK<|sK<|sT ?_
      refine sN<|sO<|cT<|gU Z<|sU<|sN<|qR ?_
      cases oI h
      exact⟨nofun,rfl,rfl⟩
     refine sM Z<|sV (.ptr 64 4)<|sL Z<|sE (rI (f.aH.length:Int)) (mE _ _)<|bE h fun G B h=>cD (bo B)<|sV (rB (!G))<|sF h ?_ ?_<;>intro h
     ·refine sN<|sO<|cT<|gU Z<|sU<|sN<|qR ?_
      cases oI h
      exact⟨nofun,rfl,rfl⟩
     exact sN<|sO<|cF<|qK<|⟨(),rfl,h⟩
    refine sM Z<|k3<|k3<|k3<|sK<|sK<|sU<|sU<|sM Z ?_
    refine sV (.ptr 64 4)<|sL Z<|sE (rI (f.aH.length:Int)) (mE _ _)<|bE h fun H C h=>cD (bo C)<|sV (rB (!H))<|sF h ?_ ?_<;>intro h
    ·refine sN<|sO<|cT<|gU Z<|sU<|sN<|qR ?_
     cases oI h
     exact⟨nofun,rfl,rfl⟩
    exact sN<|sO<|cF<|qK<|⟨(),rfl,h⟩
   rintro⟨⟩ j i g h
   refine gS Z g<|sV (r0)<|sN<|bE h fun D k h=>CI (CL (WL.mL k (fun s=>gI 0 35 8 [(1,.ptr 16 0),(3,rI s1),(4,.ptr 64 0),(5,rI s)] [(16,.var [rM aj.pd a0.aw]),(64,.var (aj.rc f))]) (fun o=>match o with| .inl y=>gX 2 0 35 3 [(1,.ptr 16 0),(3,rI y)] [(16,.var [rM aj.pd a0.aw])]| .inr r=>gF 35 Tryz.f35 0 (rB r,[])) Z ?_ ?_))
   ·rintro F j i Y g h
    refine qS<|gS Z g<|sM Z<|sV (.ptr 64 4)<|sL Z<|sE (rI (f.aH.length:Int)) (mE _ _)<|sF h ?_ ?_<;>intro h
    ·refine sN<|cT<|qK<|qS<|qB<|CJ Z Z<|sV (.ptr 64 4)<|sL Z<|sM Z<|bE h fun W K h=>eG K Z<|sV (.d (al.pd W))<|bE h fun Q p h=>cD (lH p)<|sF h ?_ ?_<;>intro h
     ·refine sM Z<|k3<|k3<|k3<|k3<|sK<|sK ?_
      refine k3<|sK<|sT ?_
      refine sN<|sO<|cT<|gU Z<|sU<|sN<|qR ?_
      cases oI h
      exact⟨nofun,rfl,rfl⟩
     refine mM Z<|sF h ?_ ?_<;>intro h
     ·refine sM Z<|sV (.ptr 64 4)<|sL Z<|sM Z<|bE h fun a q h=>eG q Z<|sV (.cptr [.int .i64 a.bC,.int .i64 a.fTo,.int .i64 a.cm.aQ,.int .i64 a.cm.aL,.int .i64 a.aI.fX,.int .i64 a.aI.fY,.int .i64 a.aI.fZ,.lst (a.ba.aD.map au.pd)])<|sC Z<|sV (.ptr 64 4)<|sL Z<|sM Z<|sV (rI (rW (F-(1:Int))))<|bE h fun b t h=>eG t Z<|sV (.cptr [.int .i64 b.fTo,.int .i64 b.cm.aQ,.int .i64 b.cm.aL,.int .i64 b.aI.fX,.int .i64 b.aI.fY,.int .i64 b.aI.fZ,.lst (b.ba.aD.map au.pd)]) ?_
      refine sC Z<|sV (rB (decide (a.bC<b.fTo)))<|sV (rB (decide (a.bC<b.fTo)))<|sF h ?_ ?_<;>intro h
      ·refine sN<|sO<|cT<|gU Z<|sU<|sN<|qR ?_
       cases oI h
       exact⟨nofun,rfl,rfl⟩
      refine sN<|sO<|cF<|qK<|CO Z Z<|sM Z<|sV (rI (rW (F+(1:Int))))<|sA Z<|sN ?_
      cases oI h
      exact⟨rfl,rfl⟩
     refine sM Z<|k3<|k3<|k3<|k3<|sK<|sK ?_
     refine sU<|sU ?_
     refine sN<|sO<|cF<|qK<|CO Z Z<|sM Z<|sV (rI (rW (F+(1:Int))))<|sA Z<|sN ?_
     cases oI h
     exact⟨rfl,rfl⟩
    refine sN<|cF<|qX ?_
    cases oI h
    exact⟨nofun,rfl,rfl⟩
   intro e j i he m
   rcases D with I|N
   ·obtain⟨rfl,g⟩:=m
    refine qE<|CO g Z<|sM Z<|sV (rI (rW (I+(1:Int))))<|sA Z<|sN ?_
    cases oI h
    exact⟨rfl,rfl⟩
   obtain⟨rfl,hf⟩:=m
   cases oI h
   exact⟨nofun,rfl,hf⟩
  refine sN<|cF<|qX ?_
  cases oI h
  exact⟨nofun,rfl,rfl⟩
 intro e j i he m
 rcases E with X|O
 ·obtain⟨rfl,g⟩:=m
  refine qE<|gS Z g<|sV (.ptr 16 0)<|sL Z<|sE (rI (a0.aw.length:Int)) (mE _ _)<|sV (rB (decide ((a0.aw.length:Int)<=(128:Int))))<|sA Z<|sN<|qR ?_
  exact oI h▸qD
 obtain⟨rfl,hf⟩:=m
 cases oI h
 exact hf
theorem ref23_Compare_ev{a0:ai}{a1:ai}{r:Int}(h:hM a0 a1=some r):EvP prog aF ext 113 [.d (ai.pd a0),.d (ai.pd a1)] [] (rI r,[]):=by
 refine Ev.body Z Tryz.func113 Z Zk<|gU Z<|sB (.ptr 32 0) 32 (.var (ai.rc a0))<|sB (.ptr 48 0) 48 (.var (ai.rc a1))<|sV (r0)<|sN<|qS<|gU Z<|sV (.ptr 32 0)<|sV (.d (ak.pd a0.az))<|sV (.ptr 48 0)<|sV (.d (ak.pd a1.az))<|bE h fun a h1 h=>cD (jJ h1)<|sA Z ?_
 refine sN<|gU Z<|sM Z<|sF h ?_ ?_<;>intro h
 ·refine sN<|cT<|gU Z<|sM Z<|sA Z<|sN<|qR ?_
  cases oI h
  exact qG
 refine sN<|cF<|qK<|qS<|gU Z<|sV (.ptr 32 4)<|sL Z<|sV (.ptr 48 4)<|sL Z<|sV (.d (aW.pd (aW.mk a0.br a1.br)))<|sV (.ptr 32 5)<|sL Z<|sV (.ptr 48 5)<|sL Z<|sV (.d (aW.pd (aW.mk a0.bd a1.bd))) ?_
 refine sV (.ptr 32 6)<|sL Z<|sV (.ptr 48 6)<|sL Z<|sV (.d (aW.pd (aW.mk a0.bk a1.bk)))<|sV (.ptr 32 7)<|sL Z<|sV (.ptr 48 7)<|sL Z<|sV (.d (aW.pd (aW.mk a0.aN a1.aN)))<|sV (.ptr 32 8)<|sL Z<|sV (.ptr 48 8)<|sL Z<|sV (.d (aW.pd (aW.mk a0.aT a1.aT))) ?_
 refine sG (.d (cz.pd (cz.mk (aW.mk a0.br a1.br) (aW.mk a0.bd a1.bd) (aW.mk a0.bk a1.bk) (aW.mk a0.aN a1.aN) (aW.mk a0.aT a1.aT))))<|sV (r0)<|sN<|CI (CL ?_)
 refine WL.round<|CM (R0:=[(41,.d (cz.pd (cz.mk (aW.mk a0.br a1.br) (aW.mk a0.bd a1.bd) (aW.mk a0.bk a1.bk) (aW.mk a0.aN a1.aN) (aW.mk a0.aT a1.aT)))),(42,r0)]) (B0:=[]) Z Z<|sT<|sN<|qS<|cT<|qK<|qS<|qB<|gU Z<|sV (.d (aW.pd (aW.mk a0.br a1.br)))<|sB (.ptr 112 0) 112 (.var [r0,r0])<|sS 112 (.var [rI a0.br,rI a1.br])<|sN<|qS ?_
 refine gU Z<|sV (.ptr 112 0)<|sL Z<|sV (.ptr 112 1)<|sL Z<|sF h ?_ ?_<;>intro h
 ·refine sN<|cT<|gU Z<|sV (rI (-1))<|sN<|qR ?_
  exact oI h▸qD
 refine sN<|cF<|qK<|gU Z<|sV (.ptr 112 0)<|sL Z<|sV (.ptr 112 1)<|sL Z<|sF h ?_ ?_<;>intro h
 ·refine sN<|cT<|gU Z<|sV (rI 1)<|sN<|qR ?_
  exact oI h▸qD
 refine sN<|cF<|qK<|CO Z Z<|sV (rI 1)<|sM Z<|sN<|WL.round<|CM (R0:=[(41,.d (cz.pd (cz.mk (aW.mk a0.br a1.br) (aW.mk a0.bd a1.bd) (aW.mk a0.bk a1.bk) (aW.mk a0.aN a1.aN) (aW.mk a0.aT a1.aT)))),(42,rI 1)]) (B0:=[]) Z Z<|sT<|sN<|qS<|cT<|qK<|qS ?_
 refine qB<|gU Z<|sV (.d (aW.pd (aW.mk a0.bd a1.bd)))<|sB (.ptr 112 0) 112 (.var [r0,r0])<|sS 112 (.var [rI a0.bd,rI a1.bd])<|sN<|qS<|gU Z<|sV (.ptr 112 0)<|sL Z<|sV (.ptr 112 1)<|sL Z<|sF h ?_ ?_<;>intro h
 ·refine sN<|cT<|gU Z<|sV (rI (-1))<|sN<|qR ?_
  exact oI h▸qD
 refine sN<|cF<|qK<|gU Z<|sV (.ptr 112 0)<|sL Z<|sV (.ptr 112 1)<|sL Z<|sF h ?_ ?_<;>intro h
 ·refine sN<|cT<|gU Z<|sV (rI 1)<|sN<|qR ?_
  exact oI h▸qD
 refine sN<|cF<|qK<|CO Z Z<|sV (rI 2)<|sM Z<|sN<|WL.round<|CM (R0:=[(41,.d (cz.pd (cz.mk (aW.mk a0.br a1.br) (aW.mk a0.bd a1.bd) (aW.mk a0.bk a1.bk) (aW.mk a0.aN a1.aN) (aW.mk a0.aT a1.aT)))),(42,rI 2)]) (B0:=[]) Z Z<|sT<|sN<|qS<|cT<|qK<|qS ?_
 refine qB<|gU Z<|sV (.d (aW.pd (aW.mk a0.bk a1.bk)))<|sB (.ptr 112 0) 112 (.var [r0,r0])<|sS 112 (.var [rI a0.bk,rI a1.bk])<|sN<|qS<|gU Z<|sV (.ptr 112 0)<|sL Z<|sV (.ptr 112 1)<|sL Z<|sF h ?_ ?_<;>intro h
 ·refine sN<|cT<|gU Z<|sV (rI (-1))<|sN<|qR ?_
  exact oI h▸qD
 refine sN<|cF<|qK<|gU Z<|sV (.ptr 112 0)<|sL Z<|sV (.ptr 112 1)<|sL Z<|sF h ?_ ?_<;>intro h
 ·refine sN<|cT<|gU Z<|sV (rI 1)<|sN<|qR ?_
  exact oI h▸qD
 refine sN<|cF<|qK<|CO Z Z<|sV (rI 3)<|sM Z<|sN<|WL.round<|CM (R0:=[(41,.d (cz.pd (cz.mk (aW.mk a0.br a1.br) (aW.mk a0.bd a1.bd) (aW.mk a0.bk a1.bk) (aW.mk a0.aN a1.aN) (aW.mk a0.aT a1.aT)))),(42,rI 3)]) (B0:=[]) Z Z<|sT<|sN<|qS<|cT<|qK<|qS ?_
 refine qB<|gU Z<|sV (.d (aW.pd (aW.mk a0.aN a1.aN)))<|sB (.ptr 112 0) 112 (.var [r0,r0])<|sS 112 (.var [rI a0.aN,rI a1.aN])<|sN<|qS<|gU Z<|sV (.ptr 112 0)<|sL Z<|sV (.ptr 112 1)<|sL Z<|sF h ?_ ?_<;>intro h
 ·refine sN<|cT<|gU Z<|sV (rI (-1))<|sN<|qR ?_
  exact oI h▸qD
 refine sN<|cF<|qK<|gU Z<|sV (.ptr 112 0)<|sL Z<|sV (.ptr 112 1)<|sL Z<|sF h ?_ ?_<;>intro h
 ·refine sN<|cT<|gU Z<|sV (rI 1)<|sN<|qR ?_
  exact oI h▸qD
 refine sN<|cF<|qK<|CO Z Z<|sV (rI 4)<|sM Z<|sN<|WL.round<|CM (R0:=[(41,.d (cz.pd (cz.mk (aW.mk a0.br a1.br) (aW.mk a0.bd a1.bd) (aW.mk a0.bk a1.bk) (aW.mk a0.aN a1.aN) (aW.mk a0.aT a1.aT)))),(42,rI 4)]) (B0:=[]) Z Z<|sT<|sN<|qS<|cT<|qK<|qS ?_
 refine qB<|gU Z<|sV (.d (aW.pd (aW.mk a0.aT a1.aT)))<|sB (.ptr 112 0) 112 (.var [r0,r0])<|sS 112 (.var [rI a0.aT,rI a1.aT])<|sN<|qS<|gU Z<|sV (.ptr 112 0)<|sL Z<|sV (.ptr 112 1)<|sL Z<|sF h ?_ ?_<;>intro h
 ·refine sN<|cT<|gU Z<|sV (rI (-1))<|sN<|qR ?_
  exact oI h▸qD
 refine sN<|cF<|qK<|gU Z<|sV (.ptr 112 0)<|sL Z<|sV (.ptr 112 1)<|sL Z<|sF h ?_ ?_<;>intro h
 ·refine sN<|cT<|gU Z<|sV (rI 1)<|sN<|qR ?_
  exact oI h▸qD
 refine sN<|cF<|qK<|CO Z Z<|sV (rI 5)<|sM Z<|sN<|WL.round<|CM (R0:=[(41,.d (cz.pd (cz.mk (aW.mk a0.br a1.br) (aW.mk a0.bd a1.bd) (aW.mk a0.bk a1.bk) (aW.mk a0.aN a1.aN) (aW.mk a0.aT a1.aT)))),(42,rI 5)]) (B0:=[]) Z Z<|sU<|sN<|qS<|cF<|qX<|qE ?_
 refine gU Z<|sV (r0)<|sN<|qR ?_
 exact oI h▸qD
theorem ref23_Sort_ev{a0:(List ai)}{r:(List ai)}(h:iZ a0=some r):EvP prog aF ext 67 [rM ai.pd a0] [] (rM ai.pd r,[]):=by
 refine Ev.body Z Tryz.func67 Z Zk<|gU Z<|sV .cI<|sN<|gU Z<|sV .cI<|sN<|qS<|gU Z<|sV (r0)<|sN<|bE h fun T j h=>CI (CL (WL.mL j (fun s=>gI 0 67 3 [(0,rM ai.pd a0),(3,.ref 816 0),(4,rI s.1)] [(816,.arr 0 83 (s.2.map ai.pd))]) (fun o=>gX 0 0 67 12 [(3,.ref 816 0)] [(816,.arr 0 83 (o.map ai.pd))]) Z ?_ ?_))
 ·rintro⟨s1,s2⟩ f c X b h
  refine qS<|gS Z b<|mM Z<|sE (rI (a0.length:Int)) (mE _ _)<|sF h ?_ ?_<;>intro h
  ·refine sN<|cT<|qK<|qS<|qB<|gU Z<|sM Z<|WO.vK Z Z Z Z Z Z Z Z Z<|sA Z<|sN<|qS<|bE h fun a i h=>CI (CL (WL.mL i (fun s=>gI 0 67 6 [(0,rM ai.pd a0),(3,.ref 816 0),(4,rI s1),(5,rI s)] [(816,.arr 0 83 (s2.map ai.pd))]) (fun o=>gX 2 0 67 8 [(0,rM ai.pd a0),(3,.ref 816 0),(4,rI o.1),(5,rI o.2.1)] [(816,.arr 0 83 (o.2.2.map ai.pd))]) Z ?_ ?_))
   ·rintro Q f c W b h
    refine qS<|CJ b Z<|sM Z<|sF h ?_ ?_<;>intro h
    ·refine mM Z<|sM Z<|sV (rI (rW (Q-(1:Int))))<|bE h fun Y n h=>WO.qi n Z Z Z Z Z Z Z Z<|bE h fun a5 q h=>WO.qJ q Z Z Z Z Z Z<|mM Z<|bE h fun L t h=>eG t Z<|sV (.d (ai.pd L))<|bE h fun N u h=>cD (ref23_Compare_ev u) ?_
     refine sV (rB (decide (N>(0:Int))))<|sF h ?_ ?_<;>intro h
     ·refine sN<|sO<|cT<|qK<|qB<|CO Z Z<|sM Z<|sV (rI (rW (Q-(1:Int))))<|sA Z<|sN ?_
      cases oI h
      exact⟨rfl,rfl⟩
     refine sN<|sO<|cF<|qX ?_
     cases oI h
     exact⟨nofun,rfl,rfl⟩
    refine sM Z<|k3<|k3<|k3<|sK<|sK<|sU ?_
    refine sN<|sO<|cF<|qX ?_
    cases oI h
    exact⟨nofun,rfl,rfl⟩
   intro e f c he K
   obtain⟨rfl,b⟩:=K
   refine qE<|CK (α:=Unit) (fun x f c=>nA prog 0 (A f c) (aF.at_ 67 0 9)=some (A [(0,rM ai.pd a0),(3,.ref 816 0),(4,rI a.1),(5,rI a.2.1)] [(816,.arr 0 83 (a.2.2.map ai.pd))])) (fun x=>d7 a0 a=some X) ?_ ?_
   ·refine CJ b Z<|sM Z<|sF h ?_ ?_<;>intro h
    ·refine mM Z<|sM Z<|sV (rI (rW (a.2.1-(1:Int))))<|bE h fun b3 H h=>WO.qi H Z Z Z Z Z Z Z Z<|bE h fun O I h=>WO.qJ I Z Z Z Z Z Z<|mM Z<|bE h fun m J h=>eG J Z<|sV (.d (ai.pd m))<|WO.bin (eqE_83 O m) Z Z Z Z Z<|sF h ?_ ?_<;>intro h
     ·refine sN<|sO<|cT<|qX<|qE<|CO Z Z<|sM Z<|sV (rI (rW (a.1+(1:Int))))<|sA Z<|sN ?_
      cases oI h
      exact⟨rfl,rfl⟩
     exact sN<|sO<|cF<|qK<|⟨(),rfl,h⟩
    refine sM Z<|k3<|k3<|k3<|sK<|sU ?_
    exact sN<|sO<|cF<|qK<|⟨(),rfl,h⟩
   rintro⟨⟩ f c b h
   refine gS Z b<|mM Z<|sM Z<|bE h fun k v h=>eG v Z<|sV (.d (ai.pd k))<|sG (.d (.lst ([k].map ai.pd)))<|bE h fun a6 y h=>aR y (fun _=>Z) Z<|sA Z<|sN<|CJ Z Z<|sM Z<|sM Z ?_
   refine sV (rI (rW (a.2.1+(1:Int))))<|bE h fun a7 z h=>WO.subR z Z Z Z Z Z Z Z Z Z Z Z Z<|mM Z<|bE h fun a8 B h=>WO.subR B Z Z Z Z Z Z Z Z Z Z Z Z<|bE h fun a9 C h=>bE h fun b0 D h=>WO.copyG Z Z Z Z Z Z Z Z (xD C Z) (src_view D Z) Z Z (fun _=>Z) ?_
   refine sN<|sO<|CO Z Z<|mM Z<|mM Z<|bE h fun l E h=>eG E Z<|sV (.d (ai.pd l))<|bE h fun b1 F h=>WO.qi F Z Z Z Z Z Z Z Z<|bE h fun b2 G h=>WO.rA (g:=ai.pd) (sz:=9) (p:=ai.pd l) G (by intro _;kernel_rfl) (by intro _;kernel_rfl) Z Z Z Z Z Z Z Z Z<|sN<|CO Z Z ?_
   refine sM Z<|sV (rI (rW (a.1+(1:Int))))<|sA Z<|sN ?_
   cases oI h
   exact⟨rfl,rfl⟩
  refine sN<|cF<|qX ?_
  cases oI h
  exact⟨nofun,rfl,rfl⟩
 intro e f c he K
 obtain⟨rfl,b⟩:=K
 refine qE<|gS Z b<|sM Z<|sA Z<|sN<|qR ?_
 exact oI h▸qD
theorem l6{a0:ai}{r:Bool}(h:fR a0=some r):EvP prog aF ext 114 [.d (ai.pd a0)] [] (rB r,[]):=by
 refine Ev.body Z Tryz.func114 Z Zk<|gU Z<|sB (.ptr 16 0) 16 (.var (ai.rc a0))<|sU<|sN<|gU Z<|sV (.ptr 16 0)<|sV (.d (ak.pd a0.az))<|bE h fun g h1 h=>na h (fun a h=>?_) (fun a h=>?_)
 ·refine WO.nL (v:=rB true) (u:=[]) Z Z (fun _=>Z) Z Z Z Z Z (iW h1) Z Z (congrArg (fun b=>RV.d (.bool b)) a) Z<|sM Z<|sV (.ptr 16 5)<|sL Z<|sV (rB (decide (a0.bd>=(0:Int))))<|sF h ?_ ?_<;>intro h
  ·refine sM Z<|sV (.ptr 16 5)<|sL Z<|sV (.ptr 16 4)<|sL Z<|sV (rB (decide (a0.bd<=a0.br)))<|sF h ?_ ?_<;>intro h
   ·refine sM Z<|sV (.ptr 16 4)<|sL Z<|sV (.ptr 16 6)<|sL Z<|sV (rB (decide (a0.br<=a0.bk)))<|sF h ?_ ?_<;>intro h
    ·refine sM Z<|sV (.ptr 16 6)<|sL Z<|sV (rB (decide (a0.bk<=(18014398509481984:Int))))<|sF h ?_ ?_<;>intro h
     ·refine sM Z<|sV (.ptr 16 7)<|sL Z<|bE h fun i c h=>cD (bo c)<|sF h ?_ ?_<;>intro h
      ·refine sM Z<|sV (.ptr 16 8)<|sL Z<|bE h fun f e h=>cD (bo e)<|sV (rB f)<|sA Z<|sN<|qR ?_
       cases oI h
       exact qG
      refine sM Z<|k3<|sU<|sA Z<|sN<|qR ?_
      cases oI h
      exact qG
     refine sM Z<|k3<|sU<|sM Z<|k3<|sU<|sA Z<|sN<|qR ?_
     cases oI h
     exact qG
    refine sM Z<|k3<|sU<|sM Z<|k3<|sU<|sM Z<|k3<|sU ?_
    refine sA Z<|sN<|qR ?_
    cases oI h
    exact qG
   refine sM Z<|k3<|sK<|sK<|sU<|sM Z<|k3<|sU<|sM Z<|sK<|sK ?_
   refine sK<|sU<|sM Z<|k3<|sU<|sA Z<|sN<|qR ?_
   cases oI h
   exact qG
  refine sM Z<|k3<|sK<|sK<|sU<|sM Z<|k3<|sK<|sK<|sU<|sM Z ?_
  refine k3<|sU<|sM Z<|k3<|sU<|sM Z<|k3<|sU<|sA Z ?_
  refine sN<|qR ?_
  cases oI h
  exact qG
 refine WO.nL (v:=rB false) (u:=[]) Z Z (fun _=>Z) Z Z Z Z Z (iW h1) Z Z (congrArg (fun b=>RV.d (.bool b)) a) Z<|sM Z<|k3<|sU<|sM Z<|k3<|sK<|sK<|sU<|sM Z<|sK ?_
 refine k3<|sK<|sU<|sM Z<|k3<|sU<|sM Z<|k3<|sU ?_
 refine sM Z<|k3<|sU<|sA Z<|sN<|qR ?_
 cases oI h
 exact qG
theorem ref18_Copy_ev{a0:aA}{r:aA}(h:kb a0=some r):EvP prog aF ext 193 [.d (aA.pd a0)] [] (.d (aA.pd r),[]):=by
 refine Ev.body Z Tryz.func193 Z Zk<|gU Z<|sB (.ptr 16 0) 16 (.var [rM au.pd a0.aD])<|sB (.ptr 32 0) 32 (.var [.cI])<|sN<|gU Z<|sB (.ptr 48 0) 48 (.var [.cI])<|sN<|qS<|gU Z<|sV (r0)<|sN<|bE h fun m b h=>CI (CL (WL.mL b (fun s=>gI 0 193 3 [(1,.ptr 16 0),(2,.ptr 32 0),(3,.ptr 48 0),(4,rI s.1)] [(16,.var [rM au.pd a0.aD]),(32,.var [.cI]),(48,.var [.ref 416 0]),(416,.arr 0 114 (s.2.map au.pd))]) (fun o=>gX 0 0 193 8 [(2,.ptr 32 0),(3,.ptr 48 0)] [(32,.var [.cI]),(48,.var [.ref 416 0]),(416,.arr 0 114 (o.map au.pd))]) Z ?_ ?_))
 ·rintro⟨s1,s2⟩ g f p c h
  refine qS<|gS Z c<|sM Z<|sV (.ptr 16 0)<|sL Z<|sE (rI (a0.aD.length:Int)) (mE _ _)<|sF h ?_ ?_<;>intro h
  ·refine sN<|cT<|qK<|qS<|qB<|gU Z<|sV (.ptr 16 0)<|sL Z<|sM Z<|bE h fun a i h=>eG i Z<|sV (.d (au.pd a))<|sB (.ptr 80 0) 80 (.var [r0,r0,r0,r0,r0,r0,r0,.cI,r0,r0])<|sH 80 (.var (au.rc a))<|sN ?_
   refine gU Z<|sV (.ptr 80 7)<|sL Z<|bE h fun n j h=>WO.appN j (fun _=>Z) Z Z Z Z Z Z Z Z Z Z Z Z Z Z<|sV (.ptr 80 7)<|sS 80 (.var [rI a.bu,rI a.aQ.a0,rI a.aQ.a1,rI a.aQ.a2,rI a.aL.a0,rI a.aL.a1,rI a.aL.a2,.ref 320 0,rI a.bc,rI a.bq])<|sN<|CO Z Z<|sV (.ptr 48 0)<|sL Z<|sV (.agg [rI a.bu,rI a.aQ.a0,rI a.aQ.a1,rI a.aQ.a2,rI a.aL.a0,rI a.aL.a1,rI a.aL.a2,.ref 320 0,rI a.bc,rI a.bq])<|sB (.d (.lst [au.pd (au.mk a.bu a.aQ a.aL n a.bc a.bq)])) 320 .dead<|bE h fun q k h=>aR k (fun _=>Z) Z ?_
   refine sV (.ptr 48 0)<|sS 48 (.var [.ref 416 1])<|sN<|CO Z Z<|sM Z<|sV (rI (rW (s1+(1:Int))))<|sA Z<|sN ?_
   cases oI h
   exact⟨rfl,rfl⟩
  refine sN<|cF<|qX ?_
  cases oI h
  exact⟨nofun,rfl,rfl⟩
 intro e g f he l
 obtain⟨rfl,c⟩:=l
 refine qE<|gS Z c<|sV (.agg [.ref 416 0])<|sS 32 (.var [.ref 416 0])<|sN<|qR ?_
 exact oI h▸qD
theorem l5{a0:al}{r:al}(h:fN a0=some r):EvP prog aF ext 158 [.d (al.pd a0)] [] (.d (al.pd r),[]):=by
 refine Ev.body Z Tryz.func158 Z Zk<|gU Z<|sB (.ptr 16 0) 16 (.var (al.rc a0))<|sB (.ptr 32 0) 32 (.var zZ0)<|sN<|gU Z<|sV (.ptr 16 7)<|sV (.d (aA.pd a0.ba))<|bE h fun a h1 h=>cD (ref18_Copy_ev h1)<|sV (.ptr 16 7)<|sS 16 (.var (rI a0.bC::rI a0.fTo::rI a0.cm.aQ::rI a0.cm.aL::ac.rc a0.aI++[rM au.pd a.aD]))<|sN<|gU Z<|sV (.d (.agg [.int .i64 a0.bC,.int .i64 a0.fTo,.int .i64 a0.cm.aQ,.int .i64 a0.cm.aL,.int .i64 a0.aI.fX,.int .i64 a0.aI.fY,.int .i64 a0.aI.fZ,.lst (a.aD.map au.pd)])) ?_
 refine sH 32 (.var (rI a0.bC::rI a0.fTo::rI a0.cm.aQ::rI a0.cm.aL::ac.rc a0.aI++[rM au.pd a.aD]))<|sN<|qR ?_
 cases oI h
 exact qG
theorem ref19_Copy_ev{a0:ah}{r:ah}(h:iY a0=some r):EvP prog aF ext 116 [.d (ah.pd a0)] [] (.d (ah.pd r),[]):=by
 refine Ev.body Z Tryz.func116 Z Zk<|gU Z<|sB (.ptr 16 0) 16 (.var [rM aj.pd a0.aw])<|sB (.ptr 32 0) 32 (.var [.cI])<|sN<|gU Z<|sB (.ptr 48 0) 48 (.var [.cI])<|sN<|qS<|gU Z<|sV (r0)<|sN<|bE h fun B f h=>CI (CL (WL.mL f (fun s=>gI 0 116 3 [(1,.ptr 16 0),(2,.ptr 32 0),(3,.ptr 48 0),(4,rI s.1)] [(16,.var [rM aj.pd a0.aw]),(32,.var [.cI]),(48,.var [.ref 816 0]),(816,.arr 0 66 (s.2.map aj.pd))]) (fun o=>gX 0 0 116 11 [(2,.ptr 32 0),(3,.ptr 48 0)] [(32,.var [.cI]),(48,.var [.ref 816 0]),(816,.arr 0 66 (o.map aj.pd))]) Z ?_ ?_))
 ·rintro⟨s1,s2⟩ k j G b h
  refine qS<|gS Z b<|sM Z<|sV (.ptr 16 0)<|sL Z<|sE (rI (a0.aw.length:Int)) (mE _ _)<|sF h ?_ ?_<;>intro h
  ·refine sN<|cT<|qK<|qS<|qB<|gU Z<|sV (.ptr 16 0)<|sL Z<|sM Z<|bE h fun a z h=>eG z Z<|sV (.cptr [.str a.az.aZ,.str a.az.aS,.str a.az.aO,.str a.az.bg,.lst (a.aH.map al.pd)])<|sV (.d (ak.pd a.az))<|sV (.agg (ak.rc a.az++[.cI]))<|sB (.ptr 80 0) 80 (.var [rS [],rS [],rS [],rS [],.cI]) ?_
   refine sS 80 (.var (ak.rc a.az++[.cI]))<|sN<|qS<|gU Z<|sV (r0)<|sN<|bE h fun g c h=>CI (CL (WL.mL c (fun s=>gI 0 116 7 [(1,.ptr 16 0),(2,.ptr 32 0),(3,.ptr 48 0),(4,rI s1),(5,.ptr 80 0),(6,rI s.1)] [(16,.var [rM aj.pd a0.aw]),(32,.var [.cI]),(48,.var [.ref 816 0]),(80,.var (ak.rc a.az++[.ref 720 0])),(720,.arr 0 74 (s.2.map al.pd)),(816,.arr 0 66 (s2.map aj.pd))]) (fun o=>gX 2 0 116 10 [(1,.ptr 16 0),(2,.ptr 32 0),(3,.ptr 48 0),(4,rI o.1),(5,.ptr 80 0)] [(16,.var [rM aj.pd a0.aw]),(32,.var [.cI]),(48,.var [.ref 816 0]),(80,.var (ak.rc a.az++[.ref 720 0])),(720,.arr 0 74 (o.2.2.map al.pd)),(816,.arr 0 66 (o.2.1.map aj.pd))]) Z ?_ ?_))
   ·rintro⟨D,H⟩ k j C b h
    unfold d6 at h
    refine qS<|gS Z b<|sM Z<|sV (.ptr 16 0)<|sL Z<|sM Z<|bE h fun i l h=>eG l Z<|sV (.cptr [.lst (i.aH.map al.pd)])<|sC Z<|sE (rI (i.aH.length:Int)) (mE _ _)<|sF h ?_ ?_<;>intro h
    ·refine sN<|cT<|qK<|qS<|qB<|CN Z Z<|sV (.ptr 80 4)<|sL Z<|sV (.ptr 16 0)<|sL Z<|sM Z<|bE h fun v m h=>eG m Z<|sV (.cptr [.lst (v.aH.map al.pd)])<|sC Z ?_
     refine sM Z<|bE h fun x n h=>eG n Z<|sV (.d (al.pd x))<|bE h fun y p h=>cD (l5 p)<|sG (.d (.lst ([y].map al.pd)))<|bE h fun E q h=>aR q (fun _=>Z) Z<|sV (.ptr 80 4)<|sS 80 (.var (ak.rc a.az++[.ref 720 1])) ?_
     refine sN<|sO<|CO Z Z<|sM Z<|sV (rI (rW (D+(1:Int))))<|sA Z<|sN ?_
     cases oI h
     exact⟨rfl,rfl⟩
    refine sN<|cF<|qX ?_
    cases oI h
    exact⟨nofun,rfl,rfl⟩
   intro e k j he u
   obtain⟨rfl,b⟩:=u
   refine qE<|CO b Z<|sV (.ptr 48 0)<|sL Z<|sV (.agg (ak.rc a.az++[.ref 720 0]))<|sB (.d (.lst [aj.pd (aj.mk a.az g.2.2)])) 720 .dead<|bE h fun F t h=>aR t (fun _=>Z) Z<|sV (.ptr 48 0)<|sS 48 (.var [.ref 816 1])<|sN<|CO Z Z<|sM Z<|sV (rI (rW (g.1+(1:Int))))<|sA Z ?_
   refine sN ?_
   cases oI h
   exact⟨rfl,rfl⟩
  refine sN<|cF<|qX ?_
  cases oI h
  exact⟨nofun,rfl,rfl⟩
 intro e k j he u
 obtain⟨rfl,b⟩:=u
 refine qE<|gS Z b<|sV (.agg [.ref 816 0])<|sS 32 (.var [.ref 816 0])<|sN<|qR ?_
 exact oI h▸qD
theorem ref19_Find_ev{a0:ah}{a1:ak}{r:aj×Bool}(h:ke a0 a1=some r):EvP prog aF ext 69 [.d (ah.pd a0),.d (ak.pd a1)] [] (.tup [.d (aj.pd r.1),rB r.2],[]):=by
 refine Ev.body Z Tryz.func69 Z Zk<|gU Z<|sB (.ptr 32 0) 32 (.var [rM aj.pd a0.aw])<|sB (.ptr 48 0) 48 (.var (ak.rc a1))<|sB (.ptr 64 0) 64 (.var [rS [],rS [],rS [],rS [],.cI])<|sU<|sN<|qS<|gU Z<|sV (r0)<|sN<|bE h fun i c h=>CI (CL (WL.mL c (fun s=>gI 0 69 2 [(2,.ptr 32 0),(3,.ptr 48 0),(4,.ptr 64 0),(6,rI s)] [(32,.var [rM aj.pd a0.aw]),(48,.var (ak.rc a1)),(64,.var [rS [],rS [],rS [],rS [],.cI])]) (fun o=>match o with| .inl y=>gX 0 0 69 6 [(4,.ptr 64 0)] [(64,.var [rS [],rS [],rS [],rS [],.cI])]| .inr r=>gF 69 Tryz.f69 0 (.tup [.d (aj.pd r.1),rB r.2],[])) Z ?_ ?_))
 ·rintro s1 m l B f h
  refine qS<|gS Z f<|sM Z<|sV (.ptr 32 0)<|sL Z<|sE (rI (a0.aw.length:Int)) (mE _ _)<|sF h ?_ ?_<;>intro h
  ·refine sN<|cT<|qK<|qS<|qB<|CJ Z Z<|sV (.ptr 32 0)<|sL Z<|sM Z<|bE h fun a n h=>eG n Z<|sV (.cptr [.str a.az.aZ,.str a.az.aS,.str a.az.aO,.str a.az.bg,.lst (a.aH.map al.pd)])<|sV (.d (ak.pd a.az))<|sV (.d (ak.pd a1))<|na h (fun b h=>?_) (fun b h=>?_)
   ·refine WO.pO (eqE_63 a.az a1) b Z Z Z Z Z ?_
    refine sN<|sO<|cT<|gU Z<|sV (.ptr 32 0)<|sL Z<|mM Z<|sV (rI (rW (s1+(1:Int))))<|bE h fun v p h=>WO.cutL (sz:=5) (g:=aj.pd) p (fun _=>Z) Z Z Z Z Z Z Z Z Z Z Z<|sV (.d (ah.pd (ah.mk v)))<|bE h fun x q h=>cD (ref19_Copy_ev q)<|sV (rM aj.pd x.aw)<|bE h fun k t h=>?_
    refine eG t Z<|sV (.d (aj.pd k))<|sS 64 (.var (aj.rc k))<|sT<|sN<|qR ?_
    cases oI h
    exact⟨nofun,rfl,rfl⟩
   refine WO.pO (eqE_63 a.az a1) b Z Z Z Z Z ?_
   refine sN<|sO<|cF<|qK<|CO Z Z<|sM Z<|sV (rI (rW (s1+(1:Int))))<|sA Z<|sN ?_
   cases oI h
   exact⟨rfl,rfl⟩
  refine sN<|cF<|qX ?_
  cases oI h
  exact⟨nofun,rfl,rfl⟩
 intro e m l he j
 rcases i with z|u
 ·obtain⟨rfl,f⟩:=j
  refine qE<|gS Z f<|sV (.agg [rS [],rS [],rS [],rS [],.cI])<|sS 64 (.var [rS [],rS [],rS [],rS [],.cI])<|sU<|sN<|qR ?_
  exact oI h▸qD
 obtain⟨rfl,hf⟩:=j
 cases oI h
 exact hf
theorem ref19_At_ev{a0:ah}{a1:ak}{a2:Int}{r:al×Int}(h:jM a0 a1 a2=some r):EvP prog aF ext 38 [.d (ah.pd a0),.d (ak.pd a1),rI a2] [] (.tup [.d (al.pd r.1),rI r.2],[]):=by
 refine Ev.body Z Tryz.func38 Z Zk<|gU Z<|sB (.ptr 48 0) 48 (.var [rM aj.pd a0.aw])<|sB (.ptr 64 0) 64 (.var (ak.rc a1))<|sB (.ptr 96 0) 96 (.var zZ0)<|sV (r0)<|sN<|qS<|gU Z<|sV (.d (ah.pd a0))<|bE h fun B h1 h=>cD (kX h1)<|sF h ?_ ?_<;>intro h
 ·refine sN<|cT<|gU Z<|sG (.agg zZ0)<|sH 96 (.var zZ0)<|sV (rI 1)<|sN<|qR ?_
  cases oI h
  exact qG
 refine sN<|cF<|qK<|gU Z<|sV (.d (ah.pd a0))<|sV (.d (ak.pd a1))<|bE h fun c q h=>cR (.tup [.d (aj.pd c.1),rB c.2]) [] (ref19_Find_ev q)<|sM Z<|sV (.d (aj.pd c.1))<|sV (rB c.2)<|sB (.ptr 128 0) 128 (.var [rS [],rS [],rS [],rS [],.cI])<|sS 128 (.var (aj.rc c.1))<|sA Z<|sN ?_
 refine qS<|gU Z<|sV (r0)<|sN<|bE h fun k f h=>CI (CL (WL.mL f (fun s=>gI 0 38 5 [(2,rI a2),(6,.ptr 96 0),(8,.ptr 128 0),(10,rI s)] [(96,.var zZ0),(128,.var (aj.rc c.1))]) (fun o=>match o with| .inl y=>gX 0 0 38 9 [(6,.ptr 96 0)] [(96,.var zZ0)]| .inr r=>gF 38 Tryz.f38 0 (.tup [.d (al.pd r.1),rI r.2],[])) Z ?_ ?_))
 ·rintro m p n z j h
  refine qS<|gS Z j<|sM Z<|sV (.ptr 128 4)<|sL Z<|sE (rI (c.1.aH.length:Int)) (mE _ _)<|sF h ?_ ?_<;>intro h
  ·refine sN<|cT<|qK<|qS<|qB<|gU Z<|sV (.ptr 128 4)<|sL Z<|sM Z<|bE h fun a t h=>eG t Z<|sV (.cptr [.int .i64 a.bC,.int .i64 a.fTo,.int .i64 a.cm.aQ,.int .i64 a.cm.aL,.int .i64 a.aI.fX,.int .i64 a.aI.fY,.int .i64 a.aI.fZ,.lst (a.ba.aD.map au.pd)])<|sC Z<|sM Z<|sF h ?_ ?_<;>intro h
   ·refine mM Z<|sV (.ptr 128 4)<|sL Z<|sM Z<|bE h fun b u h=>eG u Z<|sV (.cptr [.int .i64 b.fTo,.int .i64 b.cm.aQ,.int .i64 b.cm.aL,.int .i64 b.aI.fX,.int .i64 b.aI.fY,.int .i64 b.aI.fZ,.lst (b.ba.aD.map au.pd)])<|sC Z<|sV (rB (decide (a2<b.fTo)))<|sF h ?_ ?_<;>intro h
    ·refine sN<|cT<|gU Z<|sV (.ptr 128 4)<|sL Z<|sM Z<|bE h fun g i h=>eG i Z<|sV (.d (al.pd g))<|sH 96 (.var (al.rc g))<|sV (r0)<|sN<|qR ?_
     cases oI h
     exact⟨nofun,rfl,rfl⟩
    refine sN<|cF<|qK<|CO Z Z<|sM Z<|sV (rI (rW (m+(1:Int))))<|sA Z<|sN ?_
    cases oI h
    exact⟨rfl,rfl⟩
   refine sM Z<|k3<|k3<|sK<|sK<|sU<|sN<|cF<|qK<|CO Z Z<|sM Z ?_
   refine sV (rI (rW (m+(1:Int))))<|sA Z<|sN ?_
   cases oI h
   exact⟨rfl,rfl⟩
  refine sN<|cF<|qX ?_
  cases oI h
  exact⟨nofun,rfl,rfl⟩
 intro e p n he l
 rcases k with x|v
 ·obtain⟨rfl,j⟩:=l
  refine qE<|gS Z j<|sG (.agg zZ0)<|sH 96 (.var zZ0)<|sV (rI 6)<|sN<|qR ?_
  cases oI h
  exact qG
 obtain⟨rfl,hf⟩:=l
 cases oI h
 exact hf
theorem jy{a0:Int}{a1:Int}{a2:Int}{r:Int}(h:hC a0 a1 a2=some r):EvP prog aF ext 78 [rI a0,rI a1,rI a2] [] (rI r,[]):=by
 refine Ev.body Z Tryz.func78 Z Zk<|gU Z<|sV (r0)<|sN<|gU Z<|mM Z<|sV (rI (rW (a0-a2)))<|mM Z<|sV (rI (rW (a2-a1)))<|sV (rI (if(rW (a2-a1))>(if(rW (a0-a2))>(0:Int)then(rW (a0-a2))else(0:Int))then(rW (a2-a1))else(if(rW (a0-a2))>(0:Int)then(rW (a0-a2))else(0:Int))))<|sA Z<|sN<|qR ?_
 exact oI h▸qD
theorem dD{a0:Int}{r:Int}(h:dm a0=some r):EvP prog aF ext 77 [rI a0] [] (rI r,[]):=by
 refine Ev.body Z Tryz.func77 Z Zk<|gU Z<|sV (r0)<|sN<|gU Z<|mM Z<|sV (rI (rW (a0*a0)))<|sA Z<|sN<|qR ?_
 exact oI h▸qD
theorem lQ{a0:aq}{a1:ac}{r:Int}(h:gZ a0 a1=some r):EvP prog aF ext 40 [.d (aq.pd a0),.d (ac.pd a1)] [] (rI r,[]):=by
 refine Ev.body Z Tryz.func40 Z Zk<|gU Z<|sB (.ptr 32 0) 32 (.var (aq.rc a0))<|sB (.ptr 48 0) 48 (.var (ac.rc a1))<|sV (r0)<|sN<|qS<|gU Z<|sV (.d (aq.pd a0))<|bE h fun n h1 h=>cD (cW h1)<|sF h ?_ ?_<;>intro h
 ·refine sM Z<|k3<|sT<|sN<|cT<|gU Z<|sV (r0)<|sN<|qR ?_
  exact oI h▸qD
 refine sM Z<|sV (.d (ac.pd a1))<|bE h fun m f h=>cD (d8 f)<|sV (rB (!m))<|sF h ?_ ?_<;>intro h
 ·refine sN<|cT<|gU Z<|sV (r0)<|sN<|qR ?_
  exact oI h▸qD
 refine sN<|cF<|qK<|CJ Z Z<|sV (.ptr 32 0)<|sV (.ptr 32 0)<|sL Z<|sV (.ptr 32 3)<|sV (.ptr 32 3)<|sL Z<|sV (.ptr 48 0)<|sL Z<|bE h fun o g h=>cD (jy g)<|bE h fun c i h=>?_
 refine cD (dD i)<|sV (.ptr 32 0)<|sV (.ptr 32 1)<|sL Z<|sV (.ptr 32 3)<|sV (.ptr 32 4)<|sL Z<|sV (.ptr 48 1)<|sL Z<|bE h fun p j h=>cD (jy j)<|bE h fun e k h=>cD (dD k)<|sV (rI (rW (c+e)))<|sV (.ptr 32 0) ?_
 refine sV (.ptr 32 2)<|sL Z<|sV (.ptr 32 3)<|sV (.ptr 32 5)<|sL Z<|sV (.ptr 48 2)<|sL Z<|bE h fun q l h=>cD (jy l)<|bE h fun b a h=>cD (dD a)<|sV (rI (rW ((rW (c+e))+b)))<|sA Z ?_
 refine sN<|sO<|qR ?_
 exact oI h▸qD
theorem kf{a0:Int}{a1:Int}{a2:Int}{r:Int}(h:iN a0 a1 a2=some r):EvP prog aF ext 79 [rI a0,rI a1,rI a2] [] (rI r,[]):=by
 refine Ev.body Z Tryz.func79 Z Zk<|gU Z<|sV (r0)<|sN<|gU Z<|mM Z<|sV (rI (rW (a2-a0)))<|mM Z<|sV (rI (rW (a1-a2)))<|sV (rI (if(rW (a1-a2))>(rW (a2-a0))then(rW (a1-a2))else(rW (a2-a0))))<|sA Z<|sN<|qR ?_
 exact oI h▸qD
theorem mw{a0:aq}{a1:ac}{r:Int}(h:iM a0 a1=some r):EvP prog aF ext 41 [.d (aq.pd a0),.d (ac.pd a1)] [] (rI r,[]):=by
 refine Ev.body Z Tryz.func41 Z Zk<|gU Z<|sB (.ptr 32 0) 32 (.var (aq.rc a0))<|sB (.ptr 48 0) 48 (.var (ac.rc a1))<|sV (r0)<|sN<|qS<|gU Z<|sV (.d (aq.pd a0))<|bE h fun n h1 h=>cD (cW h1)<|sF h ?_ ?_<;>intro h
 ·refine sM Z<|k3<|sT<|sN<|cT<|gU Z<|sV (r0)<|sN<|qR ?_
  exact oI h▸qD
 refine sM Z<|sV (.d (ac.pd a1))<|bE h fun m f h=>cD (d8 f)<|sV (rB (!m))<|sF h ?_ ?_<;>intro h
 ·refine sN<|cT<|gU Z<|sV (r0)<|sN<|qR ?_
  exact oI h▸qD
 refine sN<|cF<|qK<|CJ Z Z<|sV (.ptr 32 0)<|sV (.ptr 32 0)<|sL Z<|sV (.ptr 32 3)<|sV (.ptr 32 3)<|sL Z<|sV (.ptr 48 0)<|sL Z<|bE h fun o g h=>cD (kf g)<|bE h fun c i h=>?_
 refine cD (dD i)<|sV (.ptr 32 0)<|sV (.ptr 32 1)<|sL Z<|sV (.ptr 32 3)<|sV (.ptr 32 4)<|sL Z<|sV (.ptr 48 1)<|sL Z<|bE h fun p j h=>cD (kf j)<|bE h fun e k h=>cD (dD k)<|sV (rI (rW (c+e)))<|sV (.ptr 32 0) ?_
 refine sV (.ptr 32 2)<|sL Z<|sV (.ptr 32 3)<|sV (.ptr 32 5)<|sL Z<|sV (.ptr 48 2)<|sL Z<|bE h fun q l h=>cD (kf l)<|bE h fun b a h=>cD (dD a)<|sV (rI (rW ((rW (c+e))+b)))<|sA Z ?_
 refine sN<|sO<|qR ?_
 exact oI h▸qD
theorem kY{a0:Int}{r:Int}(h:gi a0=some r):EvP prog aF ext 122 [rI a0] [] (rI r,[]):=by
 refine Ev.body Z Tryz.func122 Z Zk<|gU Z<|sV (r0)<|sN<|gU Z<|sV (r0)<|sN<|qS<|gU Z<|sV (rI 2147483648)<|sN<|bE h fun i b h=>CI (CL (WL.mL b (fun s=>gI 0 122 3 [(0,rI a0),(3,rI s.1),(4,rI s.2)] []) (fun o=>gX 0 0 122 8 [(3,rI o)] []) Z ?_ ?_))
 ·rintro⟨s1,s2⟩ f c j a h
  refine qS<|gS Z a<|sM Z<|sF h ?_ ?_<;>intro h
  ·refine sN<|cT<|qK<|qS<|qB<|gU Z<|mM Z<|sV (rI (rW (s1+s2)))<|sA Z<|sN<|gU Z<|sM Z<|sF h ?_ ?_<;>intro h
   ·refine mM Z<|sM Z<|sV (rI (rW ((rW (s1+s2))*(rW (s1+s2)))))<|sM Z<|sV (rB (decide ((rW ((rW (s1+s2))*(rW (s1+s2))))<=a0)))<|sF h ?_ ?_<;>intro h
    ·refine sN<|cT<|CO Z Z<|sM Z<|sA Z<|sN<|CO Z Z<|sM Z<|sV (rI (mT .i64 s2 (1:Int)))<|sA Z<|sN ?_
     cases oI h
     exact⟨rfl,rfl⟩
    refine sN<|cF<|qK<|CO Z Z<|sM Z<|sV (rI (mT .i64 s2 (1:Int)))<|sA Z<|sN ?_
    cases oI h
    exact⟨rfl,rfl⟩
   refine sM Z<|k3<|sK<|sK<|sU<|sN<|cF<|qK<|CO Z Z<|sM Z<|sV (rI (mT .i64 s2 (1:Int)))<|sA Z<|sN ?_
   cases oI h
   exact⟨rfl,rfl⟩
  refine sN<|cF<|qX ?_
  cases oI h
  exact⟨nofun,rfl,rfl⟩
 intro e f c he g
 obtain⟨rfl,a⟩:=g
 refine qE<|gS Z a<|sM Z<|sA Z<|sN<|qR ?_
 exact oI h▸qD
theorem lP{a0:Int}{r:Int}(h:i9 a0=some r):EvP prog aF ext 119 [rI a0] [] (rI r,[]):=by
 refine Ev.body Z Tryz.func119 Z Zk<|gU Z<|sV (r0)<|sN<|gU Z<|sM Z<|bE h fun a h1 h=>cD (kY h1)<|sA Z<|sN<|qS<|gU Z<|mM Z<|sM Z ?_
 refine sV (rI (rW (a*a)))<|sF h ?_ ?_<;>intro h
 ·refine sN<|cT<|gU Z<|sM Z<|sV (rI (rW (a+(1:Int))))<|sA Z<|sN<|qR ?_
  exact oI h▸qD
 refine sN<|cF<|qK<|gU Z<|sM Z<|sA Z<|sN<|qR ?_
 exact oI h▸qD
theorem ref25_Reach_ev{a0:ap}{r:Int}(h:la a0=some r):EvP prog aF ext 120 [.d (ap.pd a0)] [] (rI r,[]):=by
 refine Ev.body Z Tryz.func120 Z Zk<|gU Z<|sB (.ptr 16 0) 16 (.var (ap.rc a0))<|sV (r0)<|sN<|qS<|gU Z<|sV (.d (ap.pd a0))<|bE h fun a h1 h=>cD (dJ h1)<|sF h ?_ ?_<;>intro h
 ·refine sN<|cT<|gU Z<|sV (r0)<|sN<|qR ?_
  exact oI h▸qD
 refine sN<|cF<|qK<|gU Z<|sV (.ptr 16 0)<|sL Z<|sV (.ptr 16 1)<|sL Z<|sE (rI (a0.aG.length:Int)) (mE _ _)<|sV (rI (rW ((a0.aG.length:Int)-(1:Int))))<|sV (rI (rW (a0.aY*(rW ((a0.aG.length:Int)-(1:Int))))))<|sA Z<|sN<|qR ?_
 exact oI h▸qD
theorem ref25_Lower_ev{a0:ap}{a1:Int}{r:Int}(h:k9 a0 a1=some r):EvP prog aF ext 121 [.d (ap.pd a0),rI a1] [] (rI r,[]):=by
 refine Ev.body Z Tryz.func121 Z Zk<|gU Z<|sB (.ptr 32 0) 32 (.var (ap.rc a0))<|sV (r0)<|sN<|CJ Z Z<|sV (.ptr 32 1)<|sL Z<|sM Z<|sV (.ptr 32 0)<|sL Z<|bE h fun b h1 h=>WO.pU h1 Z Z Z Z Z Z<|bE h fun c a h=>eG a Z ?_
 refine sC Z<|sA Z ?_
 refine sN<|sO<|qR ?_
 exact oI h▸qD
theorem ref25_Upper_ev{a0:ap}{a1:Int}{r:Int}(h:lb a0 a1=some r):EvP prog aF ext 123 [.d (ap.pd a0),rI a1] [] (rI r,[]):=by
 refine Ev.body Z Tryz.func123 Z Zk<|gU Z<|sB (.ptr 32 0) 32 (.var (ap.rc a0))<|sV (r0)<|sN<|CJ Z Z<|sV (.ptr 32 2)<|sL Z<|sM Z<|sV (.ptr 32 0)<|sL Z<|sV (rI (rW (a1+a0.aY)))<|sV (rI (rW ((rW (a1+a0.aY))-(1:Int))))<|sV (.ptr 32 0)<|sL Z ?_
 refine bE h fun b h1 h=>WO.pU h1 Z Z Z Z Z Z<|bE h fun c a h=>eG a Z<|sC Z<|sA Z ?_
 refine sN<|sO<|qR ?_
 exact oI h▸qD
end Go.Dw.Es
