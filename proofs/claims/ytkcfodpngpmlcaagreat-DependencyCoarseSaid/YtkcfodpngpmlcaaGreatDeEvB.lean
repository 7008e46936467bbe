
import Derived.Test.YtkcfodpngpmlcaaGreatDeEvA

set_option maxRecDepth 100000
set_option maxHeartbeats 4000000
namespace Go.Dw.De
open Go.Proofs Go.Proofs.Tryz Go.Dw
theorem yn {a0 : Int} {a1 : Int} {a2 : Int} {r : Bool} (h : yZ a0 a1 a2 = some r) : EvP prog av ext 201 [rI a0, rI a1, rI a2] [] (rB r, []) := by
 refine Ev.body rfl Tryz.func201 rfl (by kernel_rfl)<|gS rfl rfl<|sU<|sN<|gS rfl rfl<|sM rfl<|sM rfl<|sF h (fun h => ?_) fun h => ?_
 ·refine sM rfl<|sM rfl<|sM rfl<|sV (rB (decide (a0 ≤ a2)))<|sV (rB (decide (a0 ≤ a2)))<|sA rfl<|sN<|qR ?_
  cases oI h
  exact qD
 refine sM rfl<|k3<|sU<|sA rfl<|sN<|qR ?_
 cases oI h
 exact qD
theorem rate_gcd_ev {a0 : Int} {a1 : Int} {r : Int} (h : yY a0 a1 = some r) : EvP prog av ext 202 [rI a0, rI a1] [] (rI r, []) := by
 refine Ev.body rfl Tryz.func202 rfl (by kernel_rfl)<|gS rfl rfl<|sV (r0)<|sN<|qS<|bE h fun o8 ho8 h => WC.block (WC.loop (WL.ofLoop ho8 (fun s R' B' => ghosts prog 0 (A R' B') (av.at_ 202 0 1) = some (A [(0, rI s.1), (1, rI s.2)] [])) (fun o e R' B' => e = .exit 0 ∧ ghosts prog 0 (A R' B') (av.at_ 202 0 3) = some (A [(0, rI o)] [])) rfl ?_ ?_))
 ·rintro ⟨s1, s2⟩ R' B' q4 hI h
  refine qS<|gS rfl hI<|sM rfl<|sF h (fun h => ?_) fun h => ?_
  ·refine sN<|cT<|qK<|qB<|WC.regionD rfl rfl<|sM rfl<|sM rfl<|sM rfl<|bE h fun x6 hx6 h => WO.remG hx6 rfl rfl rfl rfl rfl rfl<|sA rfl<|sA rfl ?_
   refine sN<|sO ?_
   cases oI h
   exact ⟨rfl, rfl⟩
  refine sN<|cF<|qX ?_
  cases oI h
  exact ⟨nofun, rfl, rfl⟩
 intro e R' B' he hq
 obtain ⟨rfl, hI⟩ := hq
 refine qE<|gS rfl hI<|sM rfl<|sA rfl<|sN<|qR ?_
 cases oI h
 exact qD
theorem rate_Valid_ev {a0 : aT} {r : Bool} (h : tl a0 = some r) : EvP prog av ext 176 [.d (aT.pd a0)] [] (rB r, []) := by
 refine Ev.body rfl Tryz.func176 rfl (by kernel_rfl)<|gS rfl rfl<|sB (.ptr 16 0) 16 (.var [rI a0.aX, rI a0.aP])<|sU<|sN<|gS rfl rfl<|sV (.ptr 16 0)<|sL rfl<|bE h fun x1 hx1 h => ite_elim h (fun hb2 h => ?_) (fun hb2 h => ?_)
 ·refine WO.callR (v := rB true) (u := []) rfl rfl (fun _ => rfl) rfl rfl rfl rfl rfl (yn hx1) rfl rfl (congrArg (fun b => RV.d (.bool b)) hb2) rfl<|sM rfl<|sV (.ptr 16 1)<|sL rfl<|bE h fun x3 hx3 h => cD (yn hx3)<|sF h (fun h => ?_) fun h => ?_
  ·refine sM rfl<|sV (.ptr 16 0)<|sL rfl<|sV (.ptr 16 1)<|sL rfl<|bE h fun x5 hx5 h => cD (rate_gcd_ev hx5)<|sV (rB (x5 == (1 : Int)))<|sV (rB (x5 == (1 : Int)))<|sA rfl<|sN<|qR ?_
   cases oI h
   exact qD
  refine sM rfl<|k3<|k3<|sU<|sA rfl<|sN<|qR ?_
  cases oI h
  exact qD
 refine WO.callR (v := rB false) (u := []) rfl rfl (fun _ => rfl) rfl rfl rfl rfl rfl (yn hx1) rfl rfl (congrArg (fun b => RV.d (.bool b)) hb2) rfl<|sM rfl<|k3<|sU<|sM rfl<|k3<|k3<|sU<|sA rfl ?_
 refine sN<|qR ?_
 cases oI h
 exact qD
theorem cW {a0 : Int} {a1 : Int} {a2 : Int} {r : Bool} (h : cN a0 a1 a2 = some r) : EvP prog av ext 220 [rI a0, rI a1, rI a2] [] (rB r, []) := by
 refine Ev.body rfl Tryz.func220 rfl (by kernel_rfl)<|gS rfl rfl<|sU<|sN<|gS rfl rfl<|sM rfl<|sM rfl<|sF h (fun h => ?_) fun h => ?_
 ·refine sM rfl<|sM rfl<|sM rfl<|sV (rB (decide (a0 ≤ a2)))<|sV (rB (decide (a0 ≤ a2)))<|sA rfl<|sN<|qR ?_
  cases oI h
  exact qD
 refine sM rfl<|k3<|sU<|sA rfl<|sN<|qR ?_
 cases oI h
 exact qD
theorem pz {a0 : Int} {r : Bool} (h : gN a0 = some r) : EvP prog av ext 227 [rI a0] [] (rB r, []) := by
 refine Ev.body rfl Tryz.func227 rfl (by kernel_rfl)<|gS rfl rfl<|sU<|sN<|gS rfl rfl<|sM rfl<|bE h fun x1 hx1 h => cD (cW hx1)<|sV (rB (!x1))<|sA rfl<|sN<|qR ?_
 cases oI h
 exact qD
theorem sf {a0 : (List Int)} {r : Int} (h : dN a0 = some r) : EvP prog av ext 235 [.d (.lst (a0.map (PD.int .i64))), .d (.raw (.func (.func 227) #[] #[]))] [] (rI r, []) := by
 refine Ev.body rfl Tryz.func235 rfl (by kernel_rfl)<|gS rfl rfl<|sV (r0)<|sN<|qS<|gS rfl rfl<|sM rfl<|sE (rI (a0.length : Int)) (lenMap _ _)<|sV (r0)<|sN<|bE h fun o8 ho8 h => WC.block (WC.loop (WL.ofLoop ho8 (fun s R' B' => ghosts prog 0 (A R' B') (av.at_ 235 0 2) = some (A [(0, .d (.lst (a0.map (PD.int .i64)))), (1, .d (.raw (.func (.func 227) #[] #[]))), (7, rI (a0.length : Int)), (8, rI s)] [])) (fun o e R' B' => match o with | .inl y => e = .exit 0 ∧ ghosts prog 0 (A R' B') (av.at_ 235 0 7) = some (A [] []) | .inr r => e = .ret ∧ finish prog (av.own 235) Tryz.f235 0 (A R' B') = some (rI r, [])) rfl ?_ ?_))
 ·rintro s1 R' B' q2 hI h
  refine gS rfl hI<|sF h (fun h => ?_) fun h => ?_
  ·refine sN<|qS<|cT<|qK<|qS<|qB<|gS rfl rfl<|sM rfl<|sA rfl<|sN<|gS rfl rfl<|sM rfl<|sM rfl<|sM rfl<|bE h fun x4 hx4 h => ?_
   refine eG hx4 rfl<|sC rfl<|bE h fun x5 hx5 h => ite_elim h (fun hb6 h => ?_) (fun hb6 h => ?_)
   ·refine WO.callR (v := rB true) (u := []) rfl rfl (fun _ => rfl) rfl rfl rfl rfl rfl (pz hx5) rfl rfl (congrArg (fun b => RV.d (.bool b)) hb6) rfl<|sN<|cT<|gS rfl rfl<|sM rfl<|sA rfl<|sN<|qR ?_
    cases oI h
    exact ⟨nofun, rfl, rfl⟩
   refine WO.callR (v := rB false) (u := []) rfl rfl (fun _ => rfl) rfl rfl rfl rfl rfl (pz hx5) rfl rfl (congrArg (fun b => RV.d (.bool b)) hb6) rfl<|sN<|cF<|qK<|WC.region rfl rfl<|sV (rI (rW (s1 + (1 : Int))))<|sM rfl<|sN ?_
   cases oI h
   exact ⟨rfl, rfl⟩
  refine sN<|qS<|cF<|qX ?_
  cases oI h
  exact ⟨nofun, rfl, rfl⟩
 intro e R' B' he hq
 rcases o8 with y9 | r10
 ·obtain ⟨rfl, hI⟩ := hq
  refine qE<|gS rfl hI<|sV (rI (-1))<|sN<|qR ?_
  cases oI h
  exact qD
 obtain ⟨rfl, hf⟩ := hq
 cases oI h
 exact hf
theorem pM {a0 : (List Int)} {r : Bool} (h : cY a0 = some r) : EvP prog av ext 226 [.d (.lst (a0.map (PD.int .i64))), .d (.raw (.func (.func 227) #[] #[]))] [] (rB r, []) := by
 refine Ev.body rfl Tryz.func226 rfl (by kernel_rfl)<|gS rfl rfl<|sU<|sN<|gS rfl rfl<|sM rfl<|sM rfl<|bE h fun x1 hx1 h => cD (sf hx1)<|sV (rB (decide (x1 ≥ (0 : Int))))<|sA rfl<|sN<|qR ?_
 cases oI h
 exact qD
theorem jn {a0 : (List Int)} {r : Bool} (h : cX a0 = some r) : EvP prog av ext 221 [.d (.lst (a0.map (PD.int .i64)))] [] (rB r, []) := by
 refine Ev.body rfl Tryz.func221 rfl (by kernel_rfl)<|gS rfl rfl<|sU<|sN<|gS rfl rfl<|sM rfl<|bE h fun x1 hx1 h => cD (pM hx1)<|sV (rB (!x1))<|sA rfl<|sN<|qR ?_
 cases oI h
 exact qD
theorem sc {a0 : (List Int)} {r : Int} (h : mD a0 = some r) : EvP prog av ext 222 [.d (.lst (a0.map (PD.int .i64)))] [] (rI r, []) := by
 refine Ev.body rfl Tryz.func222 rfl (by kernel_rfl)<|gS rfl rfl<|sV (r0)<|sN<|gS rfl rfl<|sV (r0)<|sN<|qS<|gS rfl rfl<|sM rfl<|sE (rI (a0.length : Int)) (lenMap _ _)<|sV (r0)<|sN<|bE h fun o8 ho8 h => WC.block (WC.loop (WL.ofLoop ho8 (fun s R' B' => ghosts prog 0 (A R' B') (av.at_ 222 0 3) = some (A [(3, rI s.1), (6, .d (.lst (a0.map (PD.int .i64)))), (7, rI (a0.length : Int)), (8, rI s.2)] [])) (fun o e R' B' => e = .exit 0 ∧ ghosts prog 0 (A R' B') (av.at_ 222 0 7) = some (A [(3, rI o)] [])) rfl ?_ ?_))
 ·rintro ⟨s1, s2⟩ R' B' q4 hI h
  refine gS rfl hI<|sF h (fun h => ?_) fun h => ?_
  ·refine sN<|qS<|cT<|qK<|qS<|qB<|gS rfl rfl<|bE h fun x6 hx6 h => eG hx6 rfl<|sC rfl<|sA rfl<|sN<|WC.region rfl rfl<|sM rfl<|sM rfl ?_
   refine sV (rI (rW (s1 + x6)))<|sA rfl<|sN<|WC.region rfl rfl<|sV (rI (rW (s2 + (1 : Int))))<|sM rfl<|sN ?_
   cases oI h
   exact ⟨rfl, rfl⟩
  refine sN<|qS<|cF<|qX ?_
  cases oI h
  exact ⟨nofun, rfl, rfl⟩
 intro e R' B' he hq
 obtain ⟨rfl, hI⟩ := hq
 refine qE<|gS rfl hI<|sM rfl<|sA rfl<|sN<|qR ?_
 cases oI h
 exact qD
theorem vW {a0 : ar} {r : Bool} (h : dQ a0 = some r) : EvP prog av ext 205 [.d (ar.pd a0)] [] (rB r, []) := by
 refine Ev.body rfl Tryz.func205 rfl (by kernel_rfl)<|gS rfl rfl<|sB (.ptr 16 0) 16 (.var (ar.rc a0))<|sU<|sN<|gS rfl rfl<|sV (.ptr 16 7)<|sL rfl<|sE (rI (a0.bu.length : Int)) (lenMap _ _)<|sF h (fun h => ?_) fun h => ?_
 ·refine sM rfl<|sV (.ptr 16 8)<|sL rfl<|sV (rB (a0.bg == (0 : Int)))<|sF h (fun h => ?_) fun h => ?_
  ·refine sM rfl<|sV (.ptr 16 9)<|sL rfl<|sV (rB (a0.bC == (0 : Int)))<|sV (rB (a0.bC == (0 : Int)))<|sA rfl<|sN<|qS<|gS rfl rfl<|sV (.ptr 16 0)<|sL rfl<|sN<|qB<|gS rfl rfl<|sF h (fun h => ?_) fun h => ?_
   ·refine sA rfl<|sN<|cT<|gS rfl rfl<|sF h (fun h => ?_) fun h => ?_
    ·refine sM rfl<|sV (.ptr 16 1)<|sV (.d (aV.pd a0.aX))<|sV (.ptr 16 1)<|sV (.ptr 16 1)<|sL rfl<|sV (.d (aV.pd (aV.mk a0.aX.a0 0 0)))<|WO.bin (fF a0.aX (aV.mk a0.aX.a0 0 0)) rfl rfl rfl rfl rfl<|sF h (fun h => ?_) fun h => ?_
     ·refine sM rfl<|sV (.ptr 16 4)<|sV (.d (aV.pd a0.aP))<|sV (.ptr 16 4)<|sV (.ptr 16 4)<|sL rfl<|sV (.d (aV.pd (aV.mk a0.aP.a0 0 0)))<|WO.bin (fF a0.aP (aV.mk a0.aP.a0 0 0)) rfl rfl rfl rfl rfl<|sF h (fun h => ?_) fun h => ?_
      ·refine sM rfl<|sV (.ptr 16 1)<|sV (.ptr 16 1)<|sL rfl<|bE h fun x7 hx7 h => cD (cW hx7)<|sF h (fun h => ?_) fun h => ?_
       ·refine sM rfl<|sV (.ptr 16 4)<|sV (.ptr 16 4)<|sL rfl<|bE h fun x9 hx9 h => cD (cW hx9)<|sV (rB x9)<|sA rfl<|sN<|qR ?_
        cases oI h
        exact qG
       refine sM rfl<|k3<|sK<|sU<|sA rfl<|sN<|qR ?_
       cases oI h
       exact qG
      refine sM rfl<|k3<|sK<|sU<|sM rfl<|k3<|sK<|sU<|sA rfl<|sN<|qR ?_
      cases oI h
      exact qG
     refine sM rfl<|k3<|k3<|sK<|sU<|sM rfl<|k3<|sK<|sU ?_
     refine sM rfl<|k3<|sK<|sU<|sA rfl<|sN<|qR ?_
     cases oI h
     exact qG
    refine sM rfl<|k3<|k3<|sK<|sU<|sM rfl<|k3<|sK<|sK ?_
    refine sK<|sK<|sU<|sM rfl<|k3<|sK<|sU<|sM rfl<|k3<|sK<|sU ?_
    refine sA rfl<|sN<|qR ?_
    cases oI h
    exact qG
   refine sA rfl<|sN<|cF<|gS rfl rfl<|sF h (fun h => ?_) fun h => ?_
   ·refine sA rfl<|sN<|cT<|WC.regionSeq (R0 := [(1, .cptr [.int .i64 a0.b9, .int .i64 a0.aX.a0, .int .i64 a0.aX.a1, .int .i64 a0.aX.a2, .int .i64 a0.aP.a0, .int .i64 a0.aP.a1, .int .i64 a0.aP.a2, .lst (a0.bu.map (PD.int .i64)), .int .i64 a0.bg, .int .i64 a0.bC]), (3, rB (a0.bC == (0 : Int)))]) (B0 := []) rfl rfl<|sF h (fun h => ?_) fun h => ?_
    ·refine sM rfl<|sV (.cptr [.int .i64 a0.aX.a0, .int .i64 a0.aX.a1, .int .i64 a0.aX.a2, .int .i64 a0.aP.a0, .int .i64 a0.aP.a1, .int .i64 a0.aP.a2, .lst (a0.bu.map (PD.int .i64)), .int .i64 a0.bg, .int .i64 a0.bC])<|sV (.d (.lst ([a0.aX.a0, a0.aX.a1, a0.aX.a2].map (PD.int .i64))))<|bE h fun x12 hx12 h => cD (jn hx12)<|sF h (fun h => ?_) fun h => ?_
     ·refine sM rfl<|sV (.cptr [.int .i64 a0.aP.a0, .int .i64 a0.aP.a1, .int .i64 a0.aP.a2, .lst (a0.bu.map (PD.int .i64)), .int .i64 a0.bg, .int .i64 a0.bC])<|sV (.d (.lst ([a0.aP.a0, a0.aP.a1, a0.aP.a2].map (PD.int .i64))))<|bE h fun x14 hx14 h => cD (jn hx14)<|sF h (fun h => ?_) fun h => ?_
      ·refine sM rfl<|sV (.cptr [.int .i64 a0.aP.a0, .int .i64 a0.aP.a1, .int .i64 a0.aP.a2, .lst (a0.bu.map (PD.int .i64)), .int .i64 a0.bg, .int .i64 a0.bC])<|sV (.cptr [.int .i64 a0.aP.a0, .int .i64 a0.aP.a1, .int .i64 a0.aP.a2, .lst (a0.bu.map (PD.int .i64)), .int .i64 a0.bg, .int .i64 a0.bC])<|sC rfl<|sV (rB (a0.aP.a0 != (0 : Int)))<|sV (rB (a0.aP.a0 != (0 : Int)))<|sA rfl<|sN<|qR ?_
       cases oI h
       exact qD
      refine sM rfl<|k3<|sK<|sU<|sA rfl<|sN<|qR ?_
      cases oI h
      exact qD
     refine sM rfl<|k3<|sU<|sM rfl<|k3<|sK<|sU<|sA rfl<|sN<|qR ?_
     cases oI h
     exact qD
    refine sM rfl<|k3<|sU<|sM rfl<|k3<|sU<|sM rfl<|k3<|sK ?_
    refine sU<|sA rfl<|sN<|qR ?_
    cases oI h
    exact qD
   refine sA rfl<|sN<|cF<|gS rfl rfl<|sF h (fun h => ?_) fun h => ?_
   ·refine sA rfl<|sN<|cT<|gS rfl rfl<|sV (.ptr 16 1)<|sV (.d (aV.pd a0.aX))<|sV (.d (aV.pd (aV.mk 0 0 0)))<|ite_elim h (fun hb17 h => ?_) (fun hb17 h => ?_)
    ·refine WO.binS (fF a0.aX (aV.mk 0 0 0)) hb17 rfl rfl rfl rfl rfl<|sM rfl<|sV (.ptr 16 4)<|sV (.d (aV.pd a0.aP))<|sV (.d (aV.pd (aV.mk 0 0 0)))<|WO.bin (fF a0.aP (aV.mk 0 0 0)) rfl rfl rfl rfl rfl<|sF h (fun h => ?_) fun h => ?_
     ·refine sM rfl<|sV (.ptr 16 7)<|sL rfl<|sE (rI (a0.bu.length : Int)) (lenMap _ _)<|bE h fun x19 hx19 h => cD (cW hx19)<|sF h (fun h => ?_) fun h => ?_
      ·refine sM rfl<|sV (.ptr 16 7)<|sL rfl<|bE h fun x21 hx21 h => cD (jn hx21)<|sF h (fun h => ?_) fun h => ?_
       ·refine sM rfl<|sV (.ptr 16 7)<|sL rfl<|bE h fun x23 hx23 h => cD (sc hx23)<|sV (rB (x23 != (0 : Int)))<|sF h (fun h => ?_) fun h => ?_
        ·refine sM rfl<|sV (.ptr 16 8)<|sL rfl<|bE h fun x25 hx25 h => cD (cW hx25)<|sF h (fun h => ?_) fun h => ?_
         ·refine sM rfl<|sV (.ptr 16 9)<|sL rfl<|bE h fun x27 hx27 h => cD (cW hx27)<|sV (rB x27)<|sA rfl<|sN<|qR ?_
          cases oI h
          exact qG
         refine sM rfl<|k3<|sU<|sA rfl<|sN<|qR ?_
         cases oI h
         exact qG
        refine sM rfl<|k3<|sU<|sM rfl<|k3<|sU<|sA rfl<|sN<|qR ?_
        cases oI h
        exact qG
       refine sM rfl<|k3<|sK<|sU<|sM rfl<|k3<|sU<|sM rfl<|sK<|sK<|sK ?_
       refine sU<|sA rfl<|sN<|qR ?_
       cases oI h
       exact qG
      refine sM rfl<|k3<|sU<|sM rfl<|k3<|sK<|sU<|sM rfl<|sK<|sK<|sK ?_
      refine sU<|sM rfl<|k3<|sU<|sA rfl<|sN<|qR ?_
      cases oI h
      exact qG
     refine sM rfl<|k3<|sK<|sU<|sM rfl<|k3<|sU<|sM rfl<|sK<|sK<|sK ?_
     refine sK<|sU<|sM rfl<|k3<|sU<|sM rfl<|k3<|sU<|sA rfl<|sN<|qR ?_
     cases oI h
     exact qG
    refine WO.binS (fF a0.aX (aV.mk 0 0 0)) hb17 rfl rfl rfl rfl rfl<|sM rfl<|k3<|sK<|sU<|sM rfl<|k3<|sK<|sU<|sM rfl<|sK ?_
    refine sK<|sK<|sU<|sM rfl<|k3<|sK<|sU<|sM rfl<|k3<|sU<|sM rfl ?_
    refine k3<|sU<|sA rfl<|sN<|qR ?_
    cases oI h
    exact qG
   refine sA rfl<|sN<|cF<|qK<|gS rfl rfl<|sU<|sN<|qR ?_
   cases oI h
   exact qG
  refine sM rfl<|k3<|sU<|sA rfl<|sN<|qS<|gS rfl rfl<|sV (.ptr 16 0)<|sL rfl<|sN<|qB<|gS rfl rfl<|sF h (fun h => ?_) fun h => ?_
  ·refine sA rfl<|sN<|cT<|gS rfl rfl<|sM rfl<|sM rfl<|k3<|k3<|sK<|sU<|sM rfl ?_
   refine k3<|k3<|sK<|sU<|sM rfl<|k3<|sK<|sU<|sM rfl ?_
   refine k3<|sK<|sU<|sA rfl<|sN<|qR ?_
   cases oI h
   exact qG
  refine sA rfl<|sN<|cF<|gS rfl rfl<|sF h (fun h => ?_) fun h => ?_
  ·refine sA rfl<|sN<|cT<|WC.regionSeq (R0 := [(1, .cptr [.int .i64 a0.b9, .int .i64 a0.aX.a0, .int .i64 a0.aX.a1, .int .i64 a0.aX.a2, .int .i64 a0.aP.a0, .int .i64 a0.aP.a1, .int .i64 a0.aP.a2, .lst (a0.bu.map (PD.int .i64)), .int .i64 a0.bg, .int .i64 a0.bC]), (3, rB false)]) (B0 := []) rfl rfl<|sM rfl<|sM rfl<|k3<|sU<|sM rfl<|k3<|sU ?_
   refine sM rfl<|k3<|sK<|sU<|sA rfl<|sN<|qR ?_
   cases oI h
   exact qD
  refine sA rfl<|sN<|cF<|gS rfl rfl<|sF h (fun h => ?_) fun h => ?_
  ·refine sA rfl<|sN<|cT<|gS rfl rfl<|sV (.ptr 16 1)<|sV (.d (aV.pd a0.aX))<|sV (.d (aV.pd (aV.mk 0 0 0)))<|ite_elim h (fun hb31 h => ?_) (fun hb31 h => ?_)
   ·refine WO.binS (fF a0.aX (aV.mk 0 0 0)) hb31 rfl rfl rfl rfl rfl<|sM rfl<|sV (.ptr 16 4)<|sV (.d (aV.pd a0.aP))<|sV (.d (aV.pd (aV.mk 0 0 0)))<|WO.bin (fF a0.aP (aV.mk 0 0 0)) rfl rfl rfl rfl rfl<|sF h (fun h => ?_) fun h => ?_
    ·refine sM rfl<|sV (.ptr 16 7)<|sL rfl<|sE (rI (a0.bu.length : Int)) (lenMap _ _)<|bE h fun x33 hx33 h => cD (cW hx33)<|sF h (fun h => ?_) fun h => ?_
     ·refine sM rfl<|sV (.ptr 16 7)<|sL rfl<|bE h fun x35 hx35 h => cD (jn hx35)<|sF h (fun h => ?_) fun h => ?_
      ·refine sM rfl<|sV (.ptr 16 7)<|sL rfl<|bE h fun x37 hx37 h => cD (sc hx37)<|sV (rB (x37 != (0 : Int)))<|sF h (fun h => ?_) fun h => ?_
       ·refine sM rfl<|sV (.ptr 16 8)<|sL rfl<|bE h fun x39 hx39 h => cD (cW hx39)<|sF h (fun h => ?_) fun h => ?_
        ·refine sM rfl<|sV (.ptr 16 9)<|sL rfl<|bE h fun x41 hx41 h => cD (cW hx41)<|sV (rB x41)<|sA rfl<|sN<|qR ?_
         cases oI h
         exact qG
        refine sM rfl<|k3<|sU<|sA rfl<|sN<|qR ?_
        cases oI h
        exact qG
       refine sM rfl<|k3<|sU<|sM rfl<|k3<|sU<|sA rfl<|sN<|qR ?_
       cases oI h
       exact qG
      refine sM rfl<|k3<|sK<|sU<|sM rfl<|k3<|sU<|sM rfl<|sK<|sK<|sK ?_
      refine sU<|sA rfl<|sN<|qR ?_
      cases oI h
      exact qG
     refine sM rfl<|k3<|sU<|sM rfl<|k3<|sK<|sU<|sM rfl<|sK<|sK<|sK ?_
     refine sU<|sM rfl<|k3<|sU<|sA rfl<|sN<|qR ?_
     cases oI h
     exact qG
    refine sM rfl<|k3<|sK<|sU<|sM rfl<|k3<|sU<|sM rfl<|sK<|sK<|sK ?_
    refine sK<|sU<|sM rfl<|k3<|sU<|sM rfl<|k3<|sU<|sA rfl<|sN<|qR ?_
    cases oI h
    exact qG
   refine WO.binS (fF a0.aX (aV.mk 0 0 0)) hb31 rfl rfl rfl rfl rfl<|sM rfl<|k3<|sK<|sU<|sM rfl<|k3<|sK<|sU<|sM rfl<|sK ?_
   refine sK<|sK<|sU<|sM rfl<|k3<|sK<|sU<|sM rfl<|k3<|sU<|sM rfl ?_
   refine k3<|sU<|sA rfl<|sN<|qR ?_
   cases oI h
   exact qG
  refine sA rfl<|sN<|cF<|qK<|gS rfl rfl<|sU<|sN<|qR ?_
  cases oI h
  exact qG
 refine sM rfl<|k3<|sU<|sM rfl<|k3<|sU<|sA rfl<|sN<|qS<|gS rfl rfl<|sV (.ptr 16 0) ?_
 refine sL rfl<|sN<|qB<|gS rfl rfl<|sF h (fun h => ?_) fun h => ?_
 ·refine sA rfl<|sN<|cT<|gS rfl rfl<|sM rfl<|sM rfl<|k3<|k3<|sK<|sU<|sM rfl ?_
  refine k3<|k3<|sK<|sU<|sM rfl<|k3<|sK<|sU<|sM rfl ?_
  refine k3<|sK<|sU<|sA rfl<|sN<|qR ?_
  cases oI h
  exact qG
 refine sA rfl<|sN<|cF<|gS rfl rfl<|sF h (fun h => ?_) fun h => ?_
 ·refine sA rfl<|sN<|cT<|WC.regionSeq (R0 := [(1, .cptr [.int .i64 a0.b9, .int .i64 a0.aX.a0, .int .i64 a0.aX.a1, .int .i64 a0.aX.a2, .int .i64 a0.aP.a0, .int .i64 a0.aP.a1, .int .i64 a0.aP.a2, .lst (a0.bu.map (PD.int .i64)), .int .i64 a0.bg, .int .i64 a0.bC]), (3, rB false)]) (B0 := []) rfl rfl<|sM rfl<|sM rfl<|k3<|sU<|sM rfl<|k3<|sU ?_
  refine sM rfl<|k3<|sK<|sU<|sA rfl<|sN<|qR ?_
  cases oI h
  exact qD
 refine sA rfl<|sN<|cF<|gS rfl rfl<|sF h (fun h => ?_) fun h => ?_
 ·refine sA rfl<|sN<|cT<|gS rfl rfl<|sV (.ptr 16 1)<|sV (.d (aV.pd a0.aX))<|sV (.d (aV.pd (aV.mk 0 0 0)))<|ite_elim h (fun hb45 h => ?_) (fun hb45 h => ?_)
  ·refine WO.binS (fF a0.aX (aV.mk 0 0 0)) hb45 rfl rfl rfl rfl rfl<|sM rfl<|sV (.ptr 16 4)<|sV (.d (aV.pd a0.aP))<|sV (.d (aV.pd (aV.mk 0 0 0)))<|WO.bin (fF a0.aP (aV.mk 0 0 0)) rfl rfl rfl rfl rfl<|sF h (fun h => ?_) fun h => ?_
   ·refine sM rfl<|sV (.ptr 16 7)<|sL rfl<|sE (rI (a0.bu.length : Int)) (lenMap _ _)<|bE h fun x47 hx47 h => cD (cW hx47)<|sF h (fun h => ?_) fun h => ?_
    ·refine sM rfl<|sV (.ptr 16 7)<|sL rfl<|bE h fun x49 hx49 h => cD (jn hx49)<|sF h (fun h => ?_) fun h => ?_
     ·refine sM rfl<|sV (.ptr 16 7)<|sL rfl<|bE h fun x51 hx51 h => cD (sc hx51)<|sV (rB (x51 != (0 : Int)))<|sF h (fun h => ?_) fun h => ?_
      ·refine sM rfl<|sV (.ptr 16 8)<|sL rfl<|bE h fun x53 hx53 h => cD (cW hx53)<|sF h (fun h => ?_) fun h => ?_
       ·refine sM rfl<|sV (.ptr 16 9)<|sL rfl<|bE h fun x55 hx55 h => cD (cW hx55)<|sV (rB x55)<|sA rfl<|sN<|qR ?_
        cases oI h
        exact qG
       refine sM rfl<|k3<|sU<|sA rfl<|sN<|qR ?_
       cases oI h
       exact qG
      refine sM rfl<|k3<|sU<|sM rfl<|k3<|sU<|sA rfl<|sN<|qR ?_
      cases oI h
      exact qG
     refine sM rfl<|k3<|sK<|sU<|sM rfl<|k3<|sU<|sM rfl<|sK<|sK<|sK ?_
     refine sU<|sA rfl<|sN<|qR ?_
     cases oI h
     exact qG
    refine sM rfl<|k3<|sU<|sM rfl<|k3<|sK<|sU<|sM rfl<|sK<|sK<|sK ?_
    refine sU<|sM rfl<|k3<|sU<|sA rfl<|sN<|qR ?_
    cases oI h
    exact qG
   refine sM rfl<|k3<|sK<|sU<|sM rfl<|k3<|sU<|sM rfl<|sK<|sK<|sK ?_
   refine sK<|sU<|sM rfl<|k3<|sU<|sM rfl<|k3<|sU<|sA rfl<|sN<|qR ?_
   cases oI h
   exact qG
  refine WO.binS (fF a0.aX (aV.mk 0 0 0)) hb45 rfl rfl rfl rfl rfl<|sM rfl<|k3<|sK<|sU<|sM rfl<|k3<|sK<|sU<|sM rfl<|sK ?_
  refine sK<|sK<|sU<|sM rfl<|k3<|sK<|sU<|sM rfl<|k3<|sU<|sM rfl ?_
  refine k3<|sU<|sA rfl<|sN<|qR ?_
  cases oI h
  exact qG
 refine sA rfl<|sN<|cF<|qK<|gS rfl rfl<|sU<|sN<|qR ?_
 cases oI h
 exact qG
theorem pu {a0 : ar} {r : Bool} (h : gM a0 = some r) : EvP prog av ext 204 [.d (ar.pd a0)] [] (rB r, []) := by
 refine Ev.body rfl Tryz.func204 rfl (by kernel_rfl)<|gS rfl rfl<|sB (.ptr 16 0) 16 (.var (ar.rc a0))<|sU<|sN<|gS rfl rfl<|sV (.d (ar.pd a0))<|bE h fun x1 hx1 h => cD (vW hx1)<|sV (rB (!x1))<|sA rfl<|sN<|qR ?_
 cases oI h
 exact qG
theorem qA {a0 : (List ar)} {r : Int} (h : df a0 = some r) : EvP prog av ext 219 [.d (.lst (a0.map ar.pd)), .d (.raw (.func (.func 204) #[] #[]))] [] (rI r, []) := by
 refine Ev.body rfl Tryz.func219 rfl (by kernel_rfl)<|gS rfl rfl<|sV (r0)<|sN<|qS<|gS rfl rfl<|sM rfl<|sE (rI (a0.length : Int)) (lenMap _ _)<|sV (r0)<|sN<|bE h fun o8 ho8 h => WC.block (WC.loop (WL.ofLoop ho8 (fun s R' B' => ghosts prog 0 (A R' B') (av.at_ 219 0 2) = some (A [(0, .d (.lst (a0.map ar.pd))), (1, .d (.raw (.func (.func 204) #[] #[]))), (7, rI (a0.length : Int)), (8, rI s)] [])) (fun o e R' B' => match o with | .inl y => e = .exit 0 ∧ ghosts prog 0 (A R' B') (av.at_ 219 0 7) = some (A [] []) | .inr r => e = .ret ∧ finish prog (av.own 219) Tryz.f219 0 (A R' B') = some (rI r, [])) rfl ?_ ?_))
 ·rintro s1 R' B' q2 hI h
  refine gS rfl hI<|sF h (fun h => ?_) fun h => ?_
  ·refine sN<|qS<|cT<|qK<|qS<|qB<|gS rfl rfl<|sM rfl<|sA rfl<|sN<|gS rfl rfl<|sM rfl<|sM rfl<|sM rfl<|bE h fun x4 hx4 h => ?_
   refine eG hx4 rfl<|sV (.d (ar.pd x4))<|bE h fun x5 hx5 h => ite_elim h (fun hb6 h => ?_) (fun hb6 h => ?_)
   ·refine WO.callR (v := rB true) (u := []) rfl rfl (fun _ => rfl) rfl rfl rfl rfl rfl (pu hx5) rfl rfl (congrArg (fun b => RV.d (.bool b)) hb6) rfl<|sN<|cT<|gS rfl rfl<|sM rfl<|sA rfl<|sN<|qR ?_
    cases oI h
    exact ⟨nofun, rfl, rfl⟩
   refine WO.callR (v := rB false) (u := []) rfl rfl (fun _ => rfl) rfl rfl rfl rfl rfl (pu hx5) rfl rfl (congrArg (fun b => RV.d (.bool b)) hb6) rfl<|sN<|cF<|qK<|WC.region rfl rfl<|sV (rI (rW (s1 + (1 : Int))))<|sM rfl<|sN ?_
   cases oI h
   exact ⟨rfl, rfl⟩
  refine sN<|qS<|cF<|qX ?_
  cases oI h
  exact ⟨nofun, rfl, rfl⟩
 intro e R' B' he hq
 rcases o8 with y9 | r10
 ·obtain ⟨rfl, hI⟩ := hq
  refine qE<|gS rfl hI<|sV (rI (-1))<|sN<|qR ?_
  cases oI h
  exact qD
 obtain ⟨rfl, hf⟩ := hq
 cases oI h
 exact hf
theorem ot {a0 : (List ar)} {r : Bool} (h : cf a0 = some r) : EvP prog av ext 203 [.d (.lst (a0.map ar.pd)), .d (.raw (.func (.func 204) #[] #[]))] [] (rB r, []) := by
 refine Ev.body rfl Tryz.func203 rfl (by kernel_rfl)<|gS rfl rfl<|sU<|sN<|gS rfl rfl<|sM rfl<|sM rfl<|bE h fun x1 hx1 h => cD (qA hx1)<|sV (rB (decide (x1 ≥ (0 : Int))))<|sA rfl<|sN<|qR ?_
 cases oI h
 exact qD
theorem yz {a0 : (List ar)} {r : Int} (h : jf a0 = some r) : EvP prog av ext 206 [.d (.lst (a0.map ar.pd))] [] (rI r, []) := by
 refine Ev.body rfl Tryz.func206 rfl (by kernel_rfl)<|gS rfl rfl<|sV (r0)<|sN<|gS rfl rfl<|sV (rI 1)<|sN<|qS<|gS rfl rfl<|sM rfl<|sE (rI (a0.length : Int)) (lenMap _ _)<|sV (r0)<|sN<|bE h fun o10 ho10 h => WC.block (WC.loop (WL.ofLoop ho10 (fun s R' B' => ghosts prog 0 (A R' B') (av.at_ 206 0 3) = some (A [(3, rI s.1), (6, .d (.lst (a0.map ar.pd))), (7, rI (a0.length : Int)), (8, rI s.2)] [])) (fun o e R' B' => match o with | .inl y => e = .exit 0 ∧ ghosts prog 0 (A R' B') (av.at_ 206 0 10) = some (A [(3, rI y)] []) | .inr r => e = .ret ∧ finish prog (av.own 206) Tryz.f206 0 (A R' B') = some (rI r, [])) rfl ?_ ?_))
 ·rintro ⟨s1, s2⟩ R' B' q4 hI h
  refine gS rfl hI<|sF h (fun h => ?_) fun h => ?_
  ·refine sN<|qS<|cT<|qK<|qS<|qB<|gS rfl rfl<|bE h fun x6 hx6 h => eG hx6 rfl<|sV (.d (ar.pd x6))<|sB (.ptr 80 0) 80 (.var [r0, r0, r0, r0, r0, r0, r0, .nils, r0, r0])<|sH 80 (.var (ar.rc x6))<|sN<|qS<|gS rfl rfl ?_
   refine sV (.ptr 80 0)<|sL rfl<|sF h (fun h => ?_) fun h => ?_
   ·refine sN<|cT<|qX<|qE<|WC.region rfl rfl<|sV (rI (rW (s2 + (1 : Int))))<|sM rfl<|sN ?_
    cases oI h
    exact ⟨rfl, rfl⟩
   refine sN<|cF<|qK<|gS rfl rfl<|sM rfl<|sV (.ptr 80 8)<|sL rfl<|sV (rI (rW (s1 * x6.bg)))<|sA rfl<|sN<|gS rfl rfl<|sM rfl<|sF h (fun h => ?_) fun h => ?_
   ·refine sN<|cT<|gS rfl rfl<|sV (r0)<|sN<|qR ?_
    cases oI h
    exact ⟨nofun, rfl, rfl⟩
   refine sN<|cF<|qK<|WC.region rfl rfl<|sV (rI (rW (s2 + (1 : Int))))<|sM rfl<|sN ?_
   cases oI h
   exact ⟨rfl, rfl⟩
  refine sN<|qS<|cF<|qX ?_
  cases oI h
  exact ⟨nofun, rfl, rfl⟩
 intro e R' B' he hq
 rcases o10 with y11 | r12
 ·obtain ⟨rfl, hI⟩ := hq
  refine qE<|gS rfl hI<|sM rfl<|sA rfl<|sN<|qR ?_
  cases oI h
  exact qD
 obtain ⟨rfl, hf⟩ := hq
 cases oI h
 exact hf
theorem zn {a0 : aD} {r : Bool} (h : jQ a0 = some r) : EvP prog av ext 177 [.d (aD.pd a0)] [] (rB r, []) := by
 refine Ev.body rfl Tryz.func177 rfl (by kernel_rfl)<|gS rfl rfl<|sB (.ptr 16 0) 16 (.var [.d (.lst (a0.aO.map ar.pd))])<|sU<|sN<|qS<|gS rfl rfl<|sV (.ptr 16 0)<|sL rfl<|sE (rI (a0.aO.length : Int)) (lenMap _ _)<|sF h (fun h => ?_) fun h => ?_
 ·refine sM rfl<|k3<|sT<|sN<|cT<|gS rfl rfl<|sU<|sN<|qR ?_
  cases oI h
  exact qD
 refine sM rfl<|sV (.ptr 16 0)<|sL rfl<|bE h fun x2 hx2 h => cD (ot hx2)<|sF h (fun h => ?_) fun h => ?_
 ·refine sN<|cT<|gS rfl rfl<|sU<|sN<|qR ?_
  cases oI h
  exact qD
 refine sN<|cF<|qK<|gS rfl rfl<|sV (.ptr 16 0)<|sL rfl<|bE h fun x4 hx4 h => cD (yz hx4)<|sV (rB (decide (x4 > (0 : Int))))<|sA rfl<|sN<|qR ?_
 cases oI h
 exact qD
theorem nH {a0 : Int} {a1 : Int} {a2 : Int} {r : Bool} (h : gc a0 a1 a2 = some r) : EvP prog av ext 135 [rI a0, rI a1, rI a2] [] (rB r, []) := by
 refine Ev.body rfl Tryz.func135 rfl (by kernel_rfl)<|gS rfl rfl<|sU<|sN<|gS rfl rfl<|sM rfl<|sM rfl<|sF h (fun h => ?_) fun h => ?_
 ·refine sM rfl<|sM rfl<|sM rfl<|sV (rB (decide (a0 ≤ a2)))<|sV (rB (decide (a0 ≤ a2)))<|sA rfl<|sN<|qR ?_
  cases oI h
  exact qD
 refine sM rfl<|k3<|sU<|sA rfl<|sN<|qR ?_
 cases oI h
 exact qD
theorem uS {a0 : ai} {r : Bool} (h : eK a0 = some r) : EvP prog av ext 134 [.d (ai.pd a0)] [] (rB r, []) := by
 refine Ev.body rfl Tryz.func134 rfl (by kernel_rfl)<|gS rfl rfl<|sB (.ptr 16 0) 16 (.var (ai.rc a0))<|sU<|sN<|gS rfl rfl<|sV (.ptr 16 4)<|sV (.d (ap.pd a0.aF))<|sB (.ptr 48 0) 48 (.var [r0, r0, r0])<|sS 48 (.var [rI a0.aF.fX, rI a0.aF.fY, rI a0.aF.fZ])<|sN<|gS rfl rfl<|sV (.ptr 16 0)<|sL rfl<|sF h (fun h => ?_) fun h => ?_
 ·refine sM rfl<|sV (.ptr 16 0)<|sL rfl<|sV (.ptr 16 1)<|sL rfl<|sV (rB (decide (a0.aM < a0.fTo)))<|sF h (fun h => ?_) fun h => ?_
  ·refine sM rfl<|sV (.ptr 16 1)<|sL rfl<|sV (rB (decide (a0.fTo ≤ (9007199254740992 : Int))))<|sF h (fun h => ?_) fun h => ?_
   ·refine sM rfl<|sV (.ptr 16 2)<|sV (.d (aT.pd a0.bP))<|bE h fun x4 hx4 h => cD (rate_Valid_ev hx4)<|sF h (fun h => ?_) fun h => ?_
    ·refine sM rfl<|sV (.ptr 16 7)<|sV (.d (aD.pd a0.aW))<|bE h fun x6 hx6 h => cD (zn hx6)<|sF h (fun h => ?_) fun h => ?_
     ·refine sM rfl<|sV (.ptr 48 0)<|sL rfl<|bE h fun x8 hx8 h => cD (nH hx8)<|sF h (fun h => ?_) fun h => ?_
      ·refine sM rfl<|sV (.ptr 48 1)<|sL rfl<|bE h fun x10 hx10 h => cD (nH hx10)<|sF h (fun h => ?_) fun h => ?_
       ·refine sM rfl<|sV (.ptr 48 2)<|sL rfl<|bE h fun x12 hx12 h => cD (nH hx12)<|sV (rB x12)<|sA rfl<|sN<|qR ?_
        cases oI h
        exact qD
       refine sM rfl<|k3<|sU<|sA rfl<|sN<|qR ?_
       cases oI h
       exact qD
      refine sM rfl<|k3<|sU<|sM rfl<|k3<|sU<|sA rfl<|sN<|qR ?_
      cases oI h
      exact qD
     refine sM rfl<|k3<|sU<|sM rfl<|k3<|sU<|sM rfl<|k3<|sU ?_
     refine sA rfl<|sN<|qR ?_
     cases oI h
     exact qD
    refine sM rfl<|k3<|sU<|sM rfl<|k3<|sU<|sM rfl<|k3<|sU ?_
    refine sM rfl<|k3<|sU<|sA rfl<|sN<|qR ?_
    cases oI h
    exact qD
   refine sM rfl<|k3<|sU<|sM rfl<|k3<|sU<|sM rfl<|k3<|sU ?_
   refine sM rfl<|k3<|sU<|sM rfl<|k3<|sU<|sA rfl<|sN<|qR ?_
   cases oI h
   exact qD
  refine sM rfl<|k3<|sU<|sM rfl<|k3<|sU<|sM rfl<|k3<|sU ?_
  refine sM rfl<|k3<|sU<|sM rfl<|k3<|sU<|sM rfl<|k3<|sU ?_
  refine sA rfl<|sN<|qR ?_
  cases oI h
  exact qD
 refine sM rfl<|k3<|sK<|sK<|sU<|sM rfl<|k3<|sU<|sM rfl<|sK<|sK ?_
 refine sK<|sU<|sM rfl<|k3<|sU<|sM rfl<|k3<|sU<|sM rfl<|sK<|sK ?_
 refine sK<|sU<|sM rfl<|k3<|sU<|sA rfl<|sN<|qR ?_
 cases oI h
 exact qD
theorem xL {a0 : (List ai)} {r : Bool} (h : ip a0 = some r) : EvP prog av ext 99 [.d (.lst (a0.map ai.pd))] [] (rB r, []) := by
 refine Ev.body rfl Tryz.func99 rfl (by kernel_rfl)<|gS rfl rfl<|sU<|sN<|qS<|gS rfl rfl<|sM rfl<|sE (rI (a0.length : Int)) (lenMap _ _)<|sV (r0)<|sN<|bE h fun o11 ho11 h => WC.block (WC.loop (WL.ofLoop ho11 (fun s R' B' => ghosts prog 0 (A R' B') (av.at_ 99 0 2) = some (A [(0, .d (.lst (a0.map ai.pd))), (5, .d (.lst (a0.map ai.pd))), (6, rI (a0.length : Int)), (7, rI s)] [])) (fun o e R' B' => match o with | .inl y => e = .exit 0 ∧ ghosts prog 0 (A R' B') (av.at_ 99 0 7) = some (A [(0, .d (.lst (a0.map ai.pd)))] []) | .inr r => e = .ret ∧ finish prog (av.own 99) Tryz.f99 0 (A R' B') = some (rB r, [])) rfl ?_ ?_))
 ·rintro s1 R' B' q2 hI h
  refine gS rfl hI<|sF h (fun h => ?_) fun h => ?_
  ·refine sN<|qS<|cT<|qK<|qS<|qB<|gS rfl rfl<|sM rfl<|bE h fun x4 hx4 h => eG hx4 rfl<|sV (.d (ai.pd x4))<|sB (.ptr 64 0) 64 (.var zZ2)<|sA rfl<|sH 64 (.var (ai.rc x4))<|sN ?_
   refine WC.regionDSeq rfl rfl<|sV (.d (ai.pd x4))<|bE h fun x5 hx5 h => cD (uS hx5)<|sF h (fun h => ?_) fun h => ?_
   ·refine sM rfl<|k3<|k3<|k3<|k3<|sK<|sT ?_
    refine sN<|sO<|cT<|gS rfl rfl<|sU<|sN<|qR ?_
    cases oI h
    exact ⟨nofun, rfl, rfl⟩
   refine sM rfl<|sM rfl<|sF h (fun h => ?_) fun h => ?_
   ·refine sM rfl<|sV (.ptr 64 0)<|sL rfl<|sM rfl<|sM rfl<|sV (rI (rW (s1 - (1 : Int))))<|bE h fun x8 hx8 h => eG hx8 rfl<|sV (.cptr [.int .i64 x8.fTo, .int .i64 x8.bP.aX, .int .i64 x8.bP.aP, .int .i64 x8.aF.fX, .int .i64 x8.aF.fY, .int .i64 x8.aF.fZ, .lst (x8.aW.aO.map ar.pd)])<|sC rfl<|sV (rB (decide (x4.aM < x8.fTo)))<|sV (rB (decide (x4.aM < x8.fTo)))<|sF h (fun h => ?_) fun h => ?_
    ·refine sN<|sO<|cT<|gS rfl rfl<|sU<|sN<|qR ?_
     cases oI h
     exact ⟨nofun, rfl, rfl⟩
    refine sN<|sO<|cF<|qK<|WC.region rfl rfl<|sV (rI (rW (s1 + (1 : Int))))<|sM rfl<|sN ?_
    cases oI h
    exact ⟨rfl, rfl⟩
   refine sM rfl<|k3<|k3<|k3<|sU<|sU ?_
   refine sN<|sO<|cF<|qK<|WC.region rfl rfl<|sV (rI (rW (s1 + (1 : Int))))<|sM rfl<|sN ?_
   cases oI h
   exact ⟨rfl, rfl⟩
  refine sN<|qS<|cF<|qX ?_
  cases oI h
  exact ⟨nofun, rfl, rfl⟩
 intro e R' B' he hq
 rcases o11 with y12 | r13
 ·obtain ⟨rfl, hI⟩ := hq
  refine qE<|gS rfl hI<|sM rfl<|sE (rI (a0.length : Int)) (lenMap _ _)<|bE h fun x14 hx14 h => cD (nH hx14)<|sA rfl<|sN<|qR ?_
  cases oI h
  exact qD
 obtain ⟨rfl, hf⟩ := hq
 cases oI h
 exact hf
theorem ex {a0 : ae} {r : Bool} (h : bQ a0 = some r) : EvP prog av ext 55 [.d (ae.pd a0)] [] (rB r, []) := by
 refine Ev.body rfl Tryz.func55 rfl (by kernel_rfl)<|gS rfl rfl<|sB (.ptr 16 0) 16 (.var [.d (.lst (a0.aq.map ac.pd))])<|sU<|sN<|qS<|gS rfl rfl<|sV (.ptr 16 0)<|sL rfl<|sE (rI (a0.aq.length : Int)) (lenMap _ _)<|sV (r0)<|sN<|bE h fun o14 ho14 h => WC.block (WC.loop (WL.ofLoop ho14 (fun s R' B' => ghosts prog 0 (A R' B') (av.at_ 55 0 2) = some (A [(1, .ptr 16 0), (6, .d (.lst (a0.aq.map ac.pd))), (7, rI (a0.aq.length : Int)), (8, rI s)] [(16, .var [.d (.lst (a0.aq.map ac.pd))])])) (fun o e R' B' => match o with | .inl y => e = .exit 0 ∧ ghosts prog 0 (A R' B') (av.at_ 55 0 7) = some (A [(1, .ptr 16 0)] [(16, .var [.d (.lst (a0.aq.map ac.pd))])]) | .inr r => e = .ret ∧ finish prog (av.own 55) Tryz.f55 0 (A R' B') = some (rB r, [])) rfl ?_ ?_))
 ·rintro s1 R' B' q2 hI h
  refine gS rfl hI<|sF h (fun h => ?_) fun h => ?_
  ·refine sN<|qS<|cT<|qK<|qS<|qB<|gS rfl rfl<|sM rfl<|bE h fun x4 hx4 h => eG hx4 rfl<|sV (.d (ac.pd x4))<|sB (.ptr 64 0) 64 (.var zZ3)<|sA rfl<|sS 64 (.var (ac.rc x4))<|sN ?_
   refine WC.regionDSeq rfl rfl<|sV (.ptr 64 0)<|sV (.d (ag.pd x4.al))<|bE h fun x5 hx5 h => cD (si hx5)<|sF h (fun h => ?_) fun h => ?_
   ·refine sM rfl<|k3<|sK<|sT<|sM rfl<|k3<|k3<|sK<|sK ?_
    refine k3<|k3<|sK<|sT ?_
    refine sN<|sO<|cT<|gS rfl rfl<|sU<|sN<|qR ?_
    cases oI h
    exact ⟨nofun, rfl, rfl⟩
   refine sM rfl<|sV (.ptr 64 4)<|sL rfl<|bE h fun x7 hx7 h => cD (xL hx7)<|sV (rB (!x7))<|sF h (fun h => ?_) fun h => ?_
   ·refine sM rfl<|k3<|k3<|k3<|k3<|sK<|sK ?_
    refine sK<|sT ?_
    refine sN<|sO<|cT<|gS rfl rfl<|sU<|sN<|qR ?_
    cases oI h
    exact ⟨nofun, rfl, rfl⟩
   refine sM rfl<|sM rfl<|sF h (fun h => ?_) fun h => ?_
   ·refine sM rfl<|sV (.ptr 16 0)<|sL rfl<|sM rfl<|sV (rI (rW (s1 - (1 : Int))))<|bE h fun x10 hx10 h => eG hx10 rfl<|sV (.cptr [.str x10.al.aB, .str x10.al.aA, .str x10.al.aw, .str x10.al.aC, .lst (x10.aQ.map ai.pd)])<|sV (.d (ag.pd x10.al))<|sV (.ptr 64 0)<|sV (.d (ag.pd x4.al))<|bE h fun x11 hx11 h => cD (uu hx11)<|sV (rB (decide (x11 ≥ (0 : Int))))<|sV (rB (decide (x11 ≥ (0 : Int)))) ?_
    refine sF h (fun h => ?_) fun h => ?_
    ·refine sN<|sO<|cT<|gS rfl rfl<|sU<|sN<|qR ?_
     cases oI h
     exact ⟨nofun, rfl, rfl⟩
    refine sN<|sO<|cF<|qK<|WC.region rfl rfl<|sV (rI (rW (s1 + (1 : Int))))<|sM rfl<|sN ?_
    cases oI h
    exact ⟨rfl, rfl⟩
   refine sM rfl<|k3<|k3<|k3<|sK<|sK<|sU<|sU ?_
   refine sN<|sO<|cF<|qK<|WC.region rfl rfl<|sV (rI (rW (s1 + (1 : Int))))<|sM rfl<|sN ?_
   cases oI h
   exact ⟨rfl, rfl⟩
  refine sN<|qS<|cF<|qX ?_
  cases oI h
  exact ⟨nofun, rfl, rfl⟩
 intro e R' B' he hq
 rcases o14 with y15 | r16
 ·obtain ⟨rfl, hI⟩ := hq
  refine qE<|gS rfl hI<|sV (.ptr 16 0)<|sL rfl<|sE (rI (a0.aq.length : Int)) (lenMap _ _)<|sV (rB (decide ((a0.aq.length : Int) ≤ (128 : Int))))<|sA rfl<|sN<|qR ?_
  cases oI h
  exact qD
 obtain ⟨rfl, hf⟩ := hq
 cases oI h
 exact hf
theorem vz {a0 : ai} {r : ai} (h : fq a0 = some r) : EvP prog av ext 140 [.d (ai.pd a0)] [] (.d (ai.pd r), []) := by
 refine Ev.body rfl Tryz.func140 rfl (by kernel_rfl)<|gS rfl rfl<|sB (.ptr 16 0) 16 (.var (ai.rc a0))<|sB (.ptr 32 0) 32 (.var zZ2)<|sN<|gS rfl rfl<|sV (.ptr 16 7)<|sV (.ptr 16 7)<|sL rfl<|bE h fun x1 hx1 h => cR (.ref 112 0) [(112, .arr 0 137 (x1.map ar.pd))] (clone_181 hx1)<|sV (.ptr 16 7)<|sV (.ptr 16 7)<|sS 16 (.var [rI a0.aM, rI a0.fTo, rI a0.bP.aX, rI a0.bP.aP, rI a0.aF.fX, rI a0.aF.fY, rI a0.aF.fZ, .ref 112 0])<|sN ?_
 refine qS<|gS rfl rfl<|sV (.ptr 16 7)<|sV (.ptr 16 7)<|sL rfl<|WO.lenR rfl rfl rfl rfl rfl rfl rfl rfl rfl<|sV (r0)<|sN<|bE h fun o16 ho16 h => WC.block (WC.loop (WL.ofLoop ho16 (fun s R' B' => ghosts prog 0 (A R' B') (av.at_ 140 0 3) = some (A [(1, .ptr 16 0), (2, .ptr 32 0), (13, rI (x1.length : Int)), (14, rI s.1)] [(16, .var [rI a0.aM, rI a0.fTo, rI a0.bP.aX, rI a0.bP.aP, rI a0.aF.fX, rI a0.aF.fY, rI a0.aF.fZ, .ref 112 0]), (32, .var zZ2), (112, .arr 0 137 (s.2.map ar.pd))])) (fun o e R' B' => e = .exit 0 ∧ ghosts prog 0 (A R' B') (av.at_ 140 0 7) = some (A [(1, .ptr 16 0), (2, .ptr 32 0)] [(16, .var [rI a0.aM, rI a0.fTo, rI a0.bP.aX, rI a0.bP.aP, rI a0.aF.fX, rI a0.aF.fY, rI a0.aF.fZ, .ref 112 0]), (32, .var zZ2), (112, .arr 0 137 (o.map ar.pd))])) rfl ?_ ?_))
 ·rintro ⟨s2, s3⟩ R' B' q5 hI h
  refine gS rfl hI<|sF h (fun h => ?_) fun h => ?_
  ·refine sN<|qS<|cT<|qK<|qS<|qB<|gS rfl rfl<|sM rfl<|sA rfl<|sN<|WC.regionD rfl rfl<|sV (.ptr 16 7)<|sV (.ptr 16 7)<|sL rfl<|sM rfl ?_
   refine sV (.ptr 16 7)<|sV (.ptr 16 7)<|sL rfl<|sM rfl<|bE h fun x8 hx8 h => WO.eltG hx8 rfl rfl rfl rfl rfl rfl rfl rfl<|sV (.elt 112 0 (s2).toNat 7)<|bE h fun x9 hx9 h => WO.loadE hx9 rfl rfl rfl rfl rfl rfl<|bE h fun x10 hx10 h => cR (.ref 448 0) [(448, .arr 0 3 (x10.map (PD.int .i64)))] (clone_182 hx10)<|bE h fun x12 hx12 h => WO.eltG hx12 rfl rfl rfl rfl rfl rfl rfl rfl<|sV (.elt 112 0 (s2).toNat 7)<|bE h fun x13 hx13 h => ?_
   refine WO.storeF (g := ar.pd) (u := [(448, .dead)]) (sz := 1) hx13 (fun _ => rfl) (fun _ => Nat.le_of_ble_eq_true rfl) rfl rfl rfl rfl rfl rfl rfl rfl rfl rfl rfl ?_
   refine sN<|sO<|WC.region rfl rfl<|sV (rI (rW (s2 + (1 : Int))))<|sM rfl<|sN ?_
   cases oI h
   exact ⟨rfl, rfl⟩
  refine sN<|qS<|cF<|qX ?_
  cases oI h
  exact ⟨nofun, rfl, rfl⟩
 intro e R' B' he hq
 obtain ⟨rfl, hI⟩ := hq
 refine qE<|gS rfl hI<|sV (.agg [rI a0.aM, rI a0.fTo, rI a0.bP.aX, rI a0.bP.aP, rI a0.aF.fX, rI a0.aF.fY, rI a0.aF.fZ, .ref 112 0])<|sH 32 (.var [rI a0.aM, rI a0.fTo, rI a0.bP.aX, rI a0.bP.aP, rI a0.aF.fX, rI a0.aF.fY, rI a0.aF.fZ, .ref 112 0])<|sN<|qR ?_
 cases oI h
 exact qG
theorem xJ {a0 : ac} {r : ac} (h : io a0 = some r) : EvP prog av ext 109 [.d (ac.pd a0)] [] (.d (ac.pd r), []) := by
 refine Ev.body rfl Tryz.func109 rfl (by kernel_rfl)<|gS rfl rfl<|sB (.ptr 16 0) 16 (.var (ac.rc a0))<|sB (.ptr 32 0) 32 (.var zZ3)<|sN<|gS rfl rfl<|sV (.ptr 16 4)<|sL rfl<|bE h fun x1 hx1 h => cR (.ref 112 0) [(112, .arr 0 96 (x1.map ai.pd))] (clone_139 hx1)<|sV (.ptr 16 4)<|sS 16 (.var [rS a0.al.aB, rS a0.al.aA, rS a0.al.aw, rS a0.al.aC, .ref 112 0])<|sN<|qS<|gS rfl rfl ?_
 refine sV (.ptr 16 4)<|sL rfl<|WO.lenR rfl rfl rfl rfl rfl rfl rfl rfl rfl<|sV (r0)<|sN<|bE h fun o15 ho15 h => WC.block (WC.loop (WL.ofLoop ho15 (fun s R' B' => ghosts prog 0 (A R' B') (av.at_ 109 0 3) = some (A [(1, .ptr 16 0), (2, .ptr 32 0), (10, .ref 112 0), (11, rI (x1.length : Int)), (12, rI s.1)] [(16, .var [rS a0.al.aB, rS a0.al.aA, rS a0.al.aw, rS a0.al.aC, .ref 112 0]), (32, .var zZ3), (112, .arr 0 96 (s.2.map ai.pd))])) (fun o e R' B' => e = .exit 0 ∧ ghosts prog 0 (A R' B') (av.at_ 109 0 7) = some (A [(1, .ptr 16 0), (2, .ptr 32 0)] [(16, .var [rS a0.al.aB, rS a0.al.aA, rS a0.al.aw, rS a0.al.aC, .ref 112 0]), (32, .var zZ3), (112, .arr 0 96 (o.map ai.pd))])) rfl ?_ ?_))
 ·rintro ⟨s2, s3⟩ R' B' q5 hI h
  refine gS rfl hI<|sF h (fun h => ?_) fun h => ?_
  ·refine sN<|qS<|cT<|qK<|qS<|qB<|gS rfl rfl<|sM rfl<|bE h fun x8 hx8 h => WO.eltG hx8 rfl rfl rfl rfl rfl rfl rfl rfl<|bE h fun x9 hx9 h => WO.loadE hx9 rfl rfl rfl rfl rfl rfl<|sB (.ptr 64 0) 64 (.var zZ2)<|sA rfl<|sH 64 (.var (ai.rc x9)) ?_
   refine sN<|WC.regionD rfl rfl<|sV (.ptr 16 4)<|sL rfl<|sM rfl<|sV (.d (ai.pd x9))<|bE h fun x10 hx10 h => cD (vz hx10)<|bE h fun x12 hx12 h => WO.eltG hx12 rfl rfl rfl rfl rfl rfl rfl rfl<|bE h fun x13 hx13 h => WO.storeE (g := ai.pd) (sz := 8) (p := ai.pd x10) hx13 (by intro _; kernel_rfl) (by intro _; kernel_rfl) rfl rfl rfl rfl rfl rfl rfl rfl rfl ?_
   refine sN<|sO<|WC.region rfl rfl<|sV (rI (rW (s2 + (1 : Int))))<|sM rfl<|sN ?_
   cases oI h
   exact ⟨rfl, rfl⟩
  refine sN<|qS<|cF<|qX ?_
  cases oI h
  exact ⟨nofun, rfl, rfl⟩
 intro e R' B' he hq
 obtain ⟨rfl, hI⟩ := hq
 refine qE<|gS rfl hI<|sV (.agg [rS a0.al.aB, rS a0.al.aA, rS a0.al.aw, rS a0.al.aC, .ref 112 0])<|sS 32 (.var [rS a0.al.aB, rS a0.al.aA, rS a0.al.aw, rS a0.al.aC, .ref 112 0])<|sN<|qR ?_
 cases oI h
 exact qD
theorem oQ {a0 : ae} {a1 : ag} {r : ac × Bool} (h : gl a0 a1 = some r) : EvP prog av ext 65 [.d (ae.pd a0), .d (ag.pd a1)] [] (.tup [.d (ac.pd r.1), rB r.2], []) := by
 refine Ev.body rfl Tryz.func65 rfl (by kernel_rfl)<|gS rfl rfl<|sB (.ptr 32 0) 32 (.var [.d (.lst (a0.aq.map ac.pd))])<|sB (.ptr 48 0) 48 (.var [rS a1.aB, rS a1.aA, rS a1.aw, rS a1.aC])<|sB (.ptr 64 0) 64 (.var zZ3)<|sU<|sN<|qS<|gS rfl rfl<|sV (.ptr 32 0)<|sL rfl<|sE (rI (a0.aq.length : Int)) (lenMap _ _)<|sV (r0)<|sN<|bE h fun o8 ho8 h => ?_
 refine WC.block (WC.loop (WL.ofLoop ho8 (fun s R' B' => ghosts prog 0 (A R' B') (av.at_ 65 0 2) = some (A [(3, .ptr 48 0), (4, .ptr 64 0), (9, .d (.lst (a0.aq.map ac.pd))), (10, rI (a0.aq.length : Int)), (11, rI s)] [(48, .var [rS a1.aB, rS a1.aA, rS a1.aw, rS a1.aC]), (64, .var zZ3)])) (fun o e R' B' => match o with | .inl y => e = .exit 0 ∧ ghosts prog 0 (A R' B') (av.at_ 65 0 7) = some (A [(4, .ptr 64 0)] [(64, .var zZ3)]) | .inr r => e = .ret ∧ finish prog (av.own 65) Tryz.f65 0 (A R' B') = some (.tup [.d (ac.pd r.1), rB r.2], [])) rfl ?_ ?_))
 ·rintro s1 R' B' q2 hI h
  refine gS rfl hI<|sF h (fun h => ?_) fun h => ?_
  ·refine sN<|qS<|cT<|qK<|qS<|qB<|gS rfl rfl<|bE h fun x4 hx4 h => eG hx4 rfl<|sV (.d (.agg [.str x4.al.aB, .str x4.al.aA, .str x4.al.aw, .str x4.al.aC, .lst (x4.aQ.map ai.pd)]))<|sB (.ptr 112 0) 112 (.var zZ3)<|sS 112 (.var (ac.rc x4))<|sN<|gS rfl rfl<|sV (.ptr 112 0) ?_
   refine sV (.d (ag.pd x4.al))<|sV (.d (ag.pd a1))<|ite_elim h (fun hb5 h => ?_) (fun hb5 h => ?_)
   ·refine WO.binS (sW x4.al a1) hb5 rfl rfl rfl rfl rfl<|sN<|cT<|gS rfl rfl<|sV (.d (.agg [.str x4.al.aB, .str x4.al.aA, .str x4.al.aw, .str x4.al.aC, .lst (x4.aQ.map ai.pd)]))<|bE h fun x6 hx6 h => cD (xJ hx6)<|sS 64 (.var (ac.rc x6))<|sT<|sN<|qR ?_
    cases oI h
    exact ⟨nofun, rfl, rfl⟩
   refine WO.binS (sW x4.al a1) hb5 rfl rfl rfl rfl rfl<|sN<|cF<|qK<|WC.region rfl rfl<|sV (rI (rW (s1 + (1 : Int))))<|sM rfl<|sN ?_
   cases oI h
   exact ⟨rfl, rfl⟩
  refine sN<|qS<|cF<|qX ?_
  cases oI h
  exact ⟨nofun, rfl, rfl⟩
 intro e R' B' he hq
 rcases o8 with y9 | r10
 ·obtain ⟨rfl, hI⟩ := hq
  refine qE<|gS rfl hI<|sV (.agg zZ3)<|sS 64 (.var zZ3)<|sU<|sN<|qR ?_
  cases oI h
  exact qD
 obtain ⟨rfl, hf⟩ := hq
 cases oI h
 exact hf
theorem inventory_at_ev {a0 : ac} {a1 : Int} {r : ai × Bool} (h : mq a0 a1 = some r) : EvP prog av ext 102 [.d (ac.pd a0), rI a1] [] (.tup [.d (ai.pd r.1), rB r.2], []) := by
 refine Ev.body rfl Tryz.func102 rfl (by kernel_rfl)<|gS rfl rfl<|sB (.ptr 32 0) 32 (.var (ac.rc a0))<|sB (.ptr 64 0) 64 (.var zZ2)<|sU<|sN<|qS<|gS rfl rfl<|sV (.ptr 32 4)<|sL rfl<|sE (rI (a0.aQ.length : Int)) (lenMap _ _)<|sV (r0)<|sN<|bE h fun o8 ho8 h => WC.block (WC.loop (WL.ofLoop ho8 (fun s R' B' => ghosts prog 0 (A R' B') (av.at_ 102 0 2) = some (A [(1, rI a1), (4, .ptr 64 0), (9, .d (.lst (a0.aQ.map ai.pd))), (10, rI (a0.aQ.length : Int)), (11, rI s)] [(64, .var zZ2)])) (fun o e R' B' => match o with | .inl y => e = .exit 0 ∧ ghosts prog 0 (A R' B') (av.at_ 102 0 7) = some (A [(4, .ptr 64 0)] [(64, .var zZ2)]) | .inr r => e = .ret ∧ finish prog (av.own 102) Tryz.f102 0 (A R' B') = some (.tup [.d (ai.pd r.1), rB r.2], [])) rfl ?_ ?_))
 ·rintro s1 R' B' q2 hI h
  refine gS rfl hI<|sF h (fun h => ?_) fun h => ?_
  ·refine sN<|qS<|cT<|qK<|qS<|qB<|gS rfl rfl<|bE h fun x4 hx4 h => eG hx4 rfl<|sV (.d (ai.pd x4))<|sB (.ptr 112 0) 112 (.var zZ2)<|sH 112 (.var (ai.rc x4))<|sN<|gS rfl rfl<|sV (.ptr 112 0) ?_
   refine sL rfl<|sM rfl<|sF h (fun h => ?_) fun h => ?_
   ·refine sM rfl<|sM rfl<|sV (.ptr 112 1)<|sL rfl<|sV (rB (decide (a1 < x4.fTo)))<|sF h (fun h => ?_) fun h => ?_
    ·refine sN<|cT<|gS rfl rfl<|sV (.d (ai.pd x4))<|sH 64 (.var (ai.rc x4))<|sT<|sN<|qR ?_
     cases oI h
     exact ⟨nofun, rfl, rfl⟩
    refine sN<|cF<|qK<|WC.region rfl rfl<|sV (rI (rW (s1 + (1 : Int))))<|sM rfl<|sN ?_
    cases oI h
    exact ⟨rfl, rfl⟩
   refine sM rfl<|k3<|sK<|sU<|sN<|cF<|qK<|WC.region rfl rfl<|sV (rI (rW (s1 + (1 : Int))))<|sM rfl<|sN ?_
   cases oI h
   exact ⟨rfl, rfl⟩
  refine sN<|qS<|cF<|qX ?_
  cases oI h
  exact ⟨nofun, rfl, rfl⟩
 intro e R' B' he hq
 rcases o8 with y9 | r10
 ·obtain ⟨rfl, hI⟩ := hq
  refine qE<|gS rfl hI<|sG (.agg zZ2)<|sH 64 (.var zZ2)<|sU<|sN<|qR ?_
  cases oI h
  exact qG
 obtain ⟨rfl, hf⟩ := hq
 cases oI h
 exact hf
theorem rG {a0 : ae} {a1 : ag} {a2 : Int} {r : ai × Int} (h : jj a0 a1 a2 = some r) : EvP prog av ext 60 [.d (ae.pd a0), .d (ag.pd a1), rI a2] [] (.tup [.d (ai.pd r.1), rI r.2], []) := by
 refine Ev.body rfl Tryz.func60 rfl (by kernel_rfl)<|gS rfl rfl<|sB (.ptr 48 0) 48 (.var [.d (.lst (a0.aq.map ac.pd))])<|sB (.ptr 64 0) 64 (.var [rS a1.aB, rS a1.aA, rS a1.aw, rS a1.aC])<|sB (.ptr 96 0) 96 (.var zZ2)<|sV (r0)<|sN<|qS<|gS rfl rfl<|sV (.d (ae.pd a0))<|bE h fun x1 hx1 h => cD (ex hx1)<|sF h (fun h => ?_) fun h => ?_
 ·refine sN<|cT<|gS rfl rfl<|sG (.agg zZ2)<|sH 96 (.var zZ2)<|sV (rI 1)<|sN<|qR ?_
  cases oI h
  exact qG
 refine sN<|cF<|qK<|gS rfl rfl<|sV (.d (ae.pd a0))<|sV (.d (ag.pd a1))<|bE h fun x3 hx3 h => cR (.tup [.d (ac.pd x3.1), rB x3.2]) [] (oQ hx3)<|sM rfl<|sV (.d (ac.pd x3.1))<|sV (rB x3.2)<|sB (.ptr 128 0) 128 (.var zZ3)<|sS 128 (.var (ac.rc x3.1))<|sA rfl<|sN ?_
 refine gS rfl rfl<|sV (.d (.agg [.str x3.1.al.aB, .str x3.1.al.aA, .str x3.1.al.aw, .str x3.1.al.aC, .lst (x3.1.aQ.map ai.pd)]))<|sM rfl<|bE h fun x4 hx4 h => cR (.tup [.d (ai.pd x4.1), rB x4.2]) [] (inventory_at_ev hx4)<|sM rfl<|sV (.d (ai.pd x4.1))<|sV (rB x4.2)<|sB (.ptr 160 0) 160 (.var zZ2)<|sH 160 (.var (ai.rc x4.1))<|sA rfl<|sN<|qS<|gS rfl rfl<|sM rfl ?_
 refine sF h (fun h => ?_) fun h => ?_
 ·refine sN<|cT<|gS rfl rfl<|sG (.agg zZ2)<|sH 96 (.var zZ2)<|sV (rI 6)<|sN<|qR ?_
  cases oI h
  exact qG
 refine sN<|cF<|qK<|gS rfl rfl<|sV (.d (.agg [.int .i64 x4.1.aM, .int .i64 x4.1.fTo, .int .i64 x4.1.bP.aX, .int .i64 x4.1.bP.aP, .int .i64 x4.1.aF.fX, .int .i64 x4.1.aF.fY, .int .i64 x4.1.aF.fZ, .lst (x4.1.aW.aO.map ar.pd)]))<|sH 96 (.var (ai.rc x4.1))<|sV (r0)<|sN<|qR ?_
 cases oI h
 exact qG
end Go.Dw.De
