
import Derived.Test.YtkcfodpngpmlcaaGreatDeEvB

set_option maxRecDepth 100000
set_option maxHeartbeats 4000000
namespace Go.Dw.De
open Go.Proofs Go.Proofs.Tryz Go.Dw
theorem eZ {a0 : ap} {r : aV} (h : c7 a0 = some r) : EvP prog av ext 211 [.d (ap.pd a0)] [] (.d (aV.pd r), []) := by
 refine Ev.body rfl Tryz.func211 rfl (by kernel_rfl)<|gS rfl rfl<|sB (.ptr 16 0) 16 (.var [rI a0.fX, rI a0.fY, rI a0.fZ])<|sB (.ptr 32 0) 32 (.var [r0, r0, r0])<|sN<|gS rfl rfl<|sV (.ptr 16 0)<|sL rfl<|sV (.ptr 16 1)<|sL rfl<|sV (.ptr 16 2)<|sL rfl<|sV (.d (aV.pd (aV.mk a0.fX a0.fY a0.fZ)))<|sS 32 (.var [rI a0.fX, rI a0.fY, rI a0.fZ])<|sN ?_
 refine qR ?_
 cases oI h
 exact qD
theorem eY {a0 : ap} {r : Bool} (h : dl a0 = some r) : EvP prog av ext 210 [.d (ap.pd a0)] [] (rB r, []) := by
 refine Ev.body rfl Tryz.func210 rfl (by kernel_rfl)<|gS rfl rfl<|sB (.ptr 16 0) 16 (.var [rI a0.fX, rI a0.fY, rI a0.fZ])<|sU<|sN<|gS rfl rfl<|sV (.d (aV.pd (aV.mk (-1048576) (-1048576) (-16384))))<|sB (.ptr 48 0) 48 (.var [r0, r0, r0])<|sS 48 (.var [rI (-1048576), rI (-1048576), rI (-16384)])<|sN<|qS<|gS rfl rfl<|sV (.d (ap.pd a0))<|bE h fun x1 hx1 h => cD (eZ hx1) ?_
 refine sV (r0)<|sN<|WC.block (WC.loop ?_)
 refine WL.round<|gS rfl rfl<|sT<|sN<|qS<|cT<|qK<|qS<|qB<|gS rfl rfl<|sM rfl<|sV (rI x1.a0)<|sA rfl<|sA rfl<|sN ?_
 refine gS rfl rfl<|sM rfl<|sM rfl<|sV (.ptr 48 0)<|sL rfl<|sF h (fun h => ?_) fun h => ?_
 ·refine sM rfl<|sK<|sK<|sT<|sN<|cT<|gS rfl rfl<|sU<|sN<|qR ?_
  cases oI h
  exact qD
 refine sM rfl<|sM rfl<|sV (rB (decide (x1.a0 > (1048576 : Int))))<|sF h (fun h => ?_) fun h => ?_
 ·refine sN<|cT<|gS rfl rfl<|sU<|sN<|qR ?_
  cases oI h
  exact qD
 refine sN<|cF<|qK<|WC.region rfl rfl<|sV (rI 1)<|sM rfl<|sN<|WL.round<|gS rfl rfl<|sT<|sN<|qS<|cT<|qK<|qS ?_
 refine qB<|gS rfl rfl<|sM rfl<|sV (rI x1.a1)<|sA rfl<|sA rfl<|sN<|gS rfl rfl<|sM rfl<|sM rfl<|sV (.ptr 48 1)<|sL rfl<|sF h (fun h => ?_) fun h => ?_
 ·refine sM rfl<|sK<|sK<|sT<|sN<|cT<|gS rfl rfl<|sU<|sN<|qR ?_
  cases oI h
  exact qD
 refine sM rfl<|sM rfl<|sV (rB (decide (x1.a1 > (1048576 : Int))))<|sF h (fun h => ?_) fun h => ?_
 ·refine sN<|cT<|gS rfl rfl<|sU<|sN<|qR ?_
  cases oI h
  exact qD
 refine sN<|cF<|qK<|WC.region rfl rfl<|sV (rI 2)<|sM rfl<|sN<|WL.round<|gS rfl rfl<|sT<|sN<|qS<|cT<|qK<|qS ?_
 refine qB<|gS rfl rfl<|sM rfl<|sV (rI x1.a2)<|sA rfl<|sA rfl<|sN<|gS rfl rfl<|sM rfl<|sM rfl<|sV (.ptr 48 2)<|sL rfl<|sF h (fun h => ?_) fun h => ?_
 ·refine sM rfl<|sK<|sK<|sT<|sN<|cT<|gS rfl rfl<|sU<|sN<|qR ?_
  cases oI h
  exact qD
 refine sM rfl<|sM rfl<|sV (rB (decide (x1.a2 > (1048576 : Int))))<|sF h (fun h => ?_) fun h => ?_
 ·refine sN<|cT<|gS rfl rfl<|sU<|sN<|qR ?_
  cases oI h
  exact qD
 refine sN<|cF<|qK<|WC.region rfl rfl<|sV (rI 3)<|sM rfl<|sN<|WL.round<|gS rfl rfl<|sU<|sN<|qS<|cF<|qX<|qE ?_
 refine gS rfl rfl<|sT<|sN<|qR ?_
 cases oI h
 exact qD
theorem gi {a0 : aL} {r : Bool} (h : cJ a0 = some r) : EvP prog av ext 183 [.d (aL.pd a0)] [] (rB r, []) := by
 refine Ev.body rfl Tryz.func183 rfl (by kernel_rfl)<|gS rfl rfl<|sB (.ptr 16 0) 16 (.var (aL.rc a0))<|sU<|sN<|qS<|gS rfl rfl<|sV (.ptr 16 0)<|sV (.d (ap.pd a0.a8))<|bE h fun x1 hx1 h => cD (eY hx1)<|sF h (fun h => ?_) fun h => ?_
 ·refine sM rfl<|k3<|sK<|sT<|sN<|cT<|gS rfl rfl<|sU<|sN<|qR ?_
  cases oI h
  exact qD
 refine sM rfl<|sV (.ptr 16 3)<|sV (.d (ap.pd a0.aU))<|bE h fun x3 hx3 h => cD (eY hx3)<|sV (rB (!x3))<|sF h (fun h => ?_) fun h => ?_
 ·refine sN<|cT<|gS rfl rfl<|sU<|sN<|qR ?_
  cases oI h
  exact qD
 refine sN<|cF<|qK<|gS rfl rfl<|sV (.ptr 16 3)<|sV (.d (ap.pd a0.aU))<|bE h fun x5 hx5 h => cD (eZ hx5)<|sB (.ptr 48 0) 48 (.var [r0, r0, r0])<|sS 48 (.var [rI x5.a0, rI x5.a1, rI x5.a2])<|sN<|qS<|gS rfl rfl<|sV (.ptr 16 0)<|sV (.d (ap.pd a0.a8)) ?_
 refine bE h fun x6 hx6 h => cD (eZ hx6)<|sV (r0)<|sN<|WC.block (WC.loop ?_)
 refine WL.round<|gS rfl rfl<|sT<|sN<|qS<|cT<|qK<|qS<|qB<|gS rfl rfl<|sM rfl<|sV (rI x6.a0)<|sA rfl<|sA rfl<|sN ?_
 refine gS rfl rfl<|sM rfl<|sM rfl<|sV (.ptr 48 0)<|sL rfl<|sF h (fun h => ?_) fun h => ?_
 ·refine sN<|cT<|gS rfl rfl<|sU<|sN<|qR ?_
  cases oI h
  exact qD
 refine sN<|cF<|qK<|WC.region rfl rfl<|sV (rI 1)<|sM rfl<|sN<|WL.round<|gS rfl rfl<|sT<|sN<|qS<|cT<|qK<|qS ?_
 refine qB<|gS rfl rfl<|sM rfl<|sV (rI x6.a1)<|sA rfl<|sA rfl<|sN<|gS rfl rfl<|sM rfl<|sM rfl<|sV (.ptr 48 1)<|sL rfl<|sF h (fun h => ?_) fun h => ?_
 ·refine sN<|cT<|gS rfl rfl<|sU<|sN<|qR ?_
  cases oI h
  exact qD
 refine sN<|cF<|qK<|WC.region rfl rfl<|sV (rI 2)<|sM rfl<|sN<|WL.round<|gS rfl rfl<|sT<|sN<|qS<|cT<|qK<|qS ?_
 refine qB<|gS rfl rfl<|sM rfl<|sV (rI x6.a2)<|sA rfl<|sA rfl<|sN<|gS rfl rfl<|sM rfl<|sM rfl<|sV (.ptr 48 2)<|sL rfl<|sF h (fun h => ?_) fun h => ?_
 ·refine sN<|cT<|gS rfl rfl<|sU<|sN<|qR ?_
  cases oI h
  exact qD
 refine sN<|cF<|qK<|WC.region rfl rfl<|sV (rI 3)<|sM rfl<|sN<|WL.round<|gS rfl rfl<|sU<|sN<|qS<|cF<|qX<|qE ?_
 refine gS rfl rfl<|sT<|sN<|qR ?_
 cases oI h
 exact qD
theorem iH {a0 : aK} {r : Int} (h : dz a0 = some r) : EvP prog av ext 184 [.d (aK.pd a0)] [] (rI r, []) := by
 refine Ev.body rfl Tryz.func184 rfl (by kernel_rfl)<|gS rfl rfl<|sB (.ptr 16 0) 16 (.var [rI a0.bt, .d (.lst (a0.a8.map (PD.int .i64))), .d (.lst (a0.aU.map (PD.int .i64)))])<|sV (r0)<|sN<|gS rfl rfl<|sV (.ptr 16 1)<|sL rfl<|sE (rI (a0.a8.length : Int)) (lenMap _ _)<|sA rfl<|sN<|qS<|gS rfl rfl<|sV (.ptr 16 0)<|sL rfl ?_
 refine sF h (fun h => ?_) fun h => ?_
 ·refine sM rfl<|k3<|sT<|sM rfl<|k3<|sK<|sK<|sT<|sM rfl<|sK<|sK ?_
  refine sT<|sM rfl<|sK<|sK<|sT<|sN<|cT<|gS rfl rfl<|sV (rI 21)<|sN<|qR ?_
  cases oI h
  exact qD
 refine sM rfl<|sV (.ptr 16 0)<|sL rfl<|sV (rB (decide (a0.bt > (1048576 : Int))))<|sF h (fun h => ?_) fun h => ?_
 ·refine sM rfl<|k3<|sK<|sK<|sT<|sM rfl<|sK<|sK<|sT<|sM rfl<|sK<|sK<|sT ?_
  refine sN<|cT<|gS rfl rfl<|sV (rI 21)<|sN<|qR ?_
  cases oI h
  exact qD
 refine sM rfl<|sM rfl<|sV (.ptr 16 2)<|sL rfl<|sE (rI (a0.aU.length : Int)) (lenMap _ _)<|sV (rB ((a0.a8.length : Int) != (a0.aU.length : Int)))<|sF h (fun h => ?_) fun h => ?_
 ·refine sM rfl<|sK<|sK<|sT<|sM rfl<|sK<|sK<|sT<|sN<|cT<|gS rfl rfl<|sV (rI 21)<|sN<|qR ?_
  cases oI h
  exact qD
 refine sM rfl<|sM rfl<|sV (rB (decide ((a0.a8.length : Int) < (2 : Int))))<|sF h (fun h => ?_) fun h => ?_
 ·refine sM rfl<|sK<|sK<|sT<|sN<|cT<|gS rfl rfl<|sV (rI 21)<|sN<|qR ?_
  cases oI h
  exact qD
 refine sM rfl<|sM rfl<|sV (rB (decide ((a0.a8.length : Int) > (256 : Int))))<|sF h (fun h => ?_) fun h => ?_
 ·refine sN<|cT<|gS rfl rfl<|sV (rI 21)<|sN<|qR ?_
  cases oI h
  exact qD
 refine sN<|cF<|qK<|gS rfl rfl<|sV (r0)<|sV (r0)<|sN<|qS<|gS rfl rfl<|sM rfl<|sV (r0)<|sN<|bE h fun o23 ho23 h => WC.block (WC.loop (WL.ofLoop ho23 (fun s R' B' => ghosts prog 0 (A R' B') (av.at_ 184 0 6) = some (A [(1, .ptr 16 0), (4, rI s.1), (5, rI s.2.1), (33, rI (a0.a8.length : Int)), (34, rI s.2.2)] [(16, .var [rI a0.bt, .d (.lst (a0.a8.map (PD.int .i64))), .d (.lst (a0.aU.map (PD.int .i64)))])])) (fun o e R' B' => match o with | .inl y => e = .exit 0 ∧ ghosts prog 0 (A R' B') (av.at_ 184 0 12) = some (A [] []) | .inr r => e = .ret ∧ finish prog (av.own 184) Tryz.f184 0 (A R' B') = some (rI r, [])) rfl ?_ ?_))
 ·rintro ⟨s6, s7, s8⟩ R' B' q9 hI h
  refine gS rfl hI<|sF h (fun h => ?_) fun h => ?_
  ·refine sN<|qS<|cT<|qK<|qS<|qB<|gS rfl rfl<|sM rfl<|sA rfl<|sN<|qS<|WC.regionDSeq rfl rfl<|sV (.ptr 16 1)<|sL rfl<|sM rfl ?_
   refine bE h fun x11 hx11 h => eG hx11 rfl<|sC rfl<|sM rfl<|sF h (fun h => ?_) fun h => ?_
   ·refine sM rfl<|k3<|k3<|sK<|sT<|sM rfl<|k3<|sK<|sK ?_
    refine k3<|k3<|sT<|sM rfl<|k3<|k3<|sT ?_
    refine sN<|sO<|cT<|gS rfl rfl<|sV (rI 21)<|sN<|qR ?_
    cases oI h
    exact ⟨nofun, rfl, rfl⟩
   refine sM rfl<|sV (.ptr 16 2)<|sL rfl<|sM rfl<|bE h fun x13 hx13 h => eG hx13 rfl<|sC rfl<|sM rfl<|sV (rB (decide (x13 < s7)))<|sF h (fun h => ?_) fun h => ?_
   ·refine sM rfl<|k3<|k3<|k3<|sK<|sK<|sT<|sM rfl<|sK ?_
    refine k3<|sK<|sK<|sT ?_
    refine sN<|sO<|cT<|gS rfl rfl<|sV (rI 21)<|sN<|qR ?_
    cases oI h
    exact ⟨nofun, rfl, rfl⟩
   refine sM rfl<|sV (.ptr 16 1)<|sL rfl<|sM rfl<|bE h fun x15 hx15 h => eG hx15 rfl<|sC rfl<|sV (.ptr 16 2)<|sL rfl<|sM rfl<|bE h fun x16 hx16 h => eG hx16 rfl<|sC rfl<|sV (rB (decide (x15 > x16)))<|sF h (fun h => ?_) fun h => ?_
   ·refine sM rfl<|k3<|k3<|sT ?_
    refine sN<|sO<|cT<|gS rfl rfl<|sV (rI 21)<|sN<|qR ?_
    cases oI h
    exact ⟨nofun, rfl, rfl⟩
   refine sM rfl<|sV (.ptr 16 2)<|sL rfl<|sM rfl<|bE h fun x18 hx18 h => eG hx18 rfl<|sC rfl<|sV (rB (decide (x18 > (1099511627776 : Int))))<|sF h (fun h => ?_) fun h => ?_
   ·refine sN<|sO<|cT<|gS rfl rfl<|sV (rI 21)<|sN<|qR ?_
    cases oI h
    exact ⟨nofun, rfl, rfl⟩
   refine sN<|sO<|cF<|qK<|WC.regionD rfl rfl<|sV (.ptr 16 1)<|sL rfl<|sM rfl<|bE h fun x20 hx20 h => eG hx20 rfl<|sC rfl<|sV (.ptr 16 2)<|sL rfl<|sM rfl<|bE h fun x21 hx21 h => eG hx21 rfl ?_
   refine sC rfl<|sA rfl<|sA rfl ?_
   refine sN<|sO<|WC.region rfl rfl<|sV (rI (rW (s8 + (1 : Int))))<|sM rfl<|sN ?_
   cases oI h
   exact ⟨rfl, rfl⟩
  refine sN<|qS<|cF<|qX ?_
  cases oI h
  exact ⟨nofun, rfl, rfl⟩
 intro e R' B' he hq
 rcases o23 with y24 | r25
 ·obtain ⟨rfl, hI⟩ := hq
  refine qE<|gS rfl hI<|sV (r0)<|sN<|qR ?_
  cases oI h
  exact qD
 obtain ⟨rfl, hf⟩ := hq
 cases oI h
 exact hf
theorem kE {a0 : Int} {a1 : Int} {a2 : Int} {r : Bool} (h : gb a0 a1 a2 = some r) : EvP prog av ext 185 [rI a0, rI a1, rI a2] [] (rB r, []) := by
 refine Ev.body rfl Tryz.func185 rfl (by kernel_rfl)<|gS rfl rfl<|sU<|sN<|gS rfl rfl<|sM rfl<|sM rfl<|sF h (fun h => ?_) fun h => ?_
 ·refine sM rfl<|sM rfl<|sM rfl<|sV (rB (decide (a0 ≤ a2)))<|sV (rB (decide (a0 ≤ a2)))<|sA rfl<|sN<|qR ?_
  cases oI h
  exact qD
 refine sM rfl<|k3<|sU<|sA rfl<|sN<|qR ?_
 cases oI h
 exact qD
theorem xC {a0 : ak} {r : Bool} (h : il a0 = some r) : EvP prog av ext 212 [.d (ak.pd a0)] [] (rB r, []) := by
 refine Ev.body rfl Tryz.func212 rfl (by kernel_rfl)<|gS rfl rfl<|sB (.ptr 16 0) 16 (.var (ak.rc a0))<|sU<|sN<|gS rfl rfl<|sV (.ptr 16 0)<|sV (.d (ap.pd a0.aA))<|bE h fun x1 hx1 h => ite_elim h (fun hb2 h => ?_) (fun hb2 h => ?_)
 ·refine WO.callR (v := rB true) (u := []) rfl rfl (fun _ => rfl) rfl rfl rfl rfl rfl (eY hx1) rfl rfl (congrArg (fun b => RV.d (.bool b)) hb2) rfl<|sM rfl<|sV (.ptr 16 3)<|sL rfl<|sV (rB (decide (a0.aH ≥ (0 : Int))))<|sF h (fun h => ?_) fun h => ?_
  ·refine sM rfl<|sV (.ptr 16 3)<|sL rfl<|sV (.ptr 16 4)<|sL rfl<|sV (rB (decide (a0.aH ≤ a0.aY)))<|sF h (fun h => ?_) fun h => ?_
   ·refine sM rfl<|sV (.ptr 16 4)<|sL rfl<|sV (rB (decide (a0.aY ≤ (18014398509481984 : Int))))<|sF h (fun h => ?_) fun h => ?_
    ·refine sM rfl<|sV (.ptr 16 5)<|sL rfl<|sV (rB (decide (a0.jh ≥ (1 : Int))))<|sF h (fun h => ?_) fun h => ?_
     ·refine sM rfl<|sV (.ptr 16 5)<|sL rfl<|sV (rB (decide (a0.jh ≤ (100 : Int))))<|sV (rB (decide (a0.jh ≤ (100 : Int))))<|sA rfl<|sN<|qR ?_
      cases oI h
      exact qD
     refine sM rfl<|k3<|sU<|sA rfl<|sN<|qR ?_
     cases oI h
     exact qD
    refine sM rfl<|k3<|sU<|sM rfl<|k3<|sU<|sA rfl<|sN<|qR ?_
    cases oI h
    exact qD
   refine sM rfl<|k3<|sU<|sM rfl<|k3<|sU<|sM rfl<|k3<|sU ?_
   refine sA rfl<|sN<|qR ?_
   cases oI h
   exact qD
  refine sM rfl<|k3<|sK<|sK<|sU<|sM rfl<|k3<|sU<|sM rfl<|sK<|sK ?_
  refine sK<|sU<|sM rfl<|k3<|sU<|sA rfl<|sN<|qR ?_
  cases oI h
  exact qD
 refine WO.callR (v := rB false) (u := []) rfl rfl (fun _ => rfl) rfl rfl rfl rfl rfl (eY hx1) rfl rfl (congrArg (fun b => RV.d (.bool b)) hb2) rfl<|sM rfl<|k3<|sU<|sM rfl<|k3<|sK<|sK<|sU<|sM rfl<|sK ?_
 refine sK<|sK<|sU<|sM rfl<|k3<|sU<|sM rfl<|k3<|sU<|sA rfl<|sN ?_
 refine qR ?_
 cases oI h
 exact qD
theorem mO {a0 : Int} {a1 : Int} {a2 : Int} {r : Int} (h : eH a0 a1 a2 = some r) : EvP prog av ext 237 [rI a0, rI a1, rI a2] [] (rI r, []) := by
 refine Ev.body rfl Tryz.func237 rfl (by kernel_rfl)<|gS rfl rfl<|sV (r0)<|sN<|gS rfl rfl<|sM rfl<|sM rfl<|sV (rI (rW (a1 - a0)))<|sM rfl<|sM rfl<|sV (rI (rW (a0 - a2)))<|sV (rI (if (0 : Int) > (if (rW (a0 - a2)) > (rW (a1 - a0)) then (rW (a0 - a2)) else (rW (a1 - a0))) then (0 : Int) else (if (rW (a0 - a2)) > (rW (a1 - a0)) then (rW (a0 - a2)) else (rW (a1 - a0)))))<|sA rfl<|sN<|qR ?_
 cases oI h
 exact qD
theorem tX {a0 : aL} {a1 : ap} {r : Int} (h : e7 a0 a1 = some r) : EvP prog av ext 236 [.d (aL.pd a0), .d (ap.pd a1), .d (.raw (.func (.func 237) #[] #[]))] [] (rI r, []) := by
 refine Ev.body rfl Tryz.func236 rfl (by kernel_rfl)<|gS rfl rfl<|sB (.ptr 48 0) 48 (.var (aL.rc a0))<|sB (.ptr 64 0) 64 (.var [rI a1.fX, rI a1.fY, rI a1.fZ])<|sV (r0)<|sN<|qS<|gS rfl rfl<|sV (.d (aL.pd a0))<|bE h fun x1 hx1 h => cD (gi hx1)<|sF h (fun h => ?_) fun h => ?_
 ·refine sM rfl<|k3<|sT<|sN<|cT<|gS rfl rfl<|sV (r0)<|sN<|qR ?_
  cases oI h
  exact qD
 refine sM rfl<|sV (.d (ap.pd a1))<|bE h fun x3 hx3 h => cD (eY hx3)<|sV (rB (!x3))<|sF h (fun h => ?_) fun h => ?_
 ·refine sN<|cT<|gS rfl rfl<|sV (r0)<|sN<|qR ?_
  cases oI h
  exact qD
 refine sN<|cF<|qK<|WC.regionDSeq rfl rfl<|sV (.ptr 48 0)<|sV (.d (ap.pd a0.a8))<|bE h fun x5 hx5 h => cD (eZ hx5)<|sV (.ptr 48 3)<|sV (.d (ap.pd a0.aU))<|bE h fun x6 hx6 h => cD (eZ hx6)<|sB (.ptr 128 0) 128 (.var [r0, r0, r0])<|sB (.ptr 144 0) 144 (.var [r0, r0, r0])<|sV (r0) ?_
 refine sS 128 (.var [rI x5.a0, rI x5.a1, rI x5.a2])<|sS 144 (.var [rI x6.a0, rI x6.a1, rI x6.a2]) ?_
 refine sN<|sO<|qS<|gS rfl rfl<|sV (.d (ap.pd a1))<|bE h fun x7 hx7 h => cD (eZ hx7)<|sV (r0)<|sN<|WC.block (WC.loop ?_)
 refine WL.round<|WC.regionSeq (R0 := [(2, .d (.raw (.func (.func 237) #[] #[]))), (7, r0), (8, .ptr 128 0), (9, .ptr 144 0), (28, .d (aV.pd x7)), (29, r0)]) (B0 := [(128, .var [rI x5.a0, rI x5.a1, rI x5.a2]), (144, .var [rI x6.a0, rI x6.a1, rI x6.a2])]) rfl rfl<|sT<|sN<|qS<|cT<|qK<|qS<|qB<|gS rfl rfl<|sM rfl<|sV (rI x7.a0)<|sA rfl<|sA rfl<|sN ?_
 refine WC.regionDSeq rfl rfl<|sM rfl<|sM rfl<|sM rfl<|sV (.ptr 128 0)<|sL rfl<|sM rfl<|sV (.ptr 144 0)<|sL rfl<|bE h fun x8 hx8 h => cD (mO hx8)<|sA rfl ?_
 refine sN<|sO<|WC.region rfl rfl<|sM rfl<|sM rfl<|sM rfl<|sV (rI (rW (x8 * x8)))<|sV (rI (rW ((0 : Int) + (rW (x8 * x8)))))<|sA rfl<|sN<|WC.region rfl rfl<|sV (rI 1)<|sM rfl<|sN<|WL.round<|WC.regionSeq (R0 := [(2, .d (.raw (.func (.func 237) #[] #[]))), (7, rI (rW ((0 : Int) + (rW (x8 * x8))))), (8, .ptr 128 0), (9, .ptr 144 0), (28, .d (aV.pd x7)), (29, rI 1)]) (B0 := [(128, .var [rI x5.a0, rI x5.a1, rI x5.a2]), (144, .var [rI x6.a0, rI x6.a1, rI x6.a2])]) rfl rfl ?_
 refine sT<|sN<|qS<|cT<|qK<|qS<|qB<|gS rfl rfl<|sM rfl<|sV (rI x7.a1)<|sA rfl<|sA rfl<|sN<|WC.regionDSeq rfl rfl<|sM rfl ?_
 refine sM rfl<|sM rfl<|sV (.ptr 128 1)<|sL rfl<|sM rfl<|sV (.ptr 144 1)<|sL rfl<|bE h fun x9 hx9 h => cD (mO hx9)<|sA rfl ?_
 refine sN<|sO<|WC.region rfl rfl<|sM rfl<|sM rfl<|sM rfl<|sV (rI (rW (x9 * x9)))<|sV (rI (rW ((rW ((0 : Int) + (rW (x8 * x8)))) + (rW (x9 * x9)))))<|sA rfl<|sN<|WC.region rfl rfl<|sV (rI 2)<|sM rfl<|sN<|WL.round<|WC.regionSeq (R0 := [(2, .d (.raw (.func (.func 237) #[] #[]))), (7, rI (rW ((rW ((0 : Int) + (rW (x8 * x8)))) + (rW (x9 * x9))))), (8, .ptr 128 0), (9, .ptr 144 0), (28, .d (aV.pd x7)), (29, rI 2)]) (B0 := [(128, .var [rI x5.a0, rI x5.a1, rI x5.a2]), (144, .var [rI x6.a0, rI x6.a1, rI x6.a2])]) rfl rfl ?_
 refine sT<|sN<|qS<|cT<|qK<|qS<|qB<|gS rfl rfl<|sM rfl<|sV (rI x7.a2)<|sA rfl<|sA rfl<|sN<|WC.regionDSeq rfl rfl<|sM rfl ?_
 refine sM rfl<|sM rfl<|sV (.ptr 128 2)<|sL rfl<|sM rfl<|sV (.ptr 144 2)<|sL rfl<|bE h fun x10 hx10 h => cD (mO hx10)<|sA rfl ?_
 refine sN<|sO<|WC.region rfl rfl<|sM rfl<|sM rfl<|sM rfl<|sV (rI (rW (x10 * x10)))<|sV (rI (rW ((rW ((rW ((0 : Int) + (rW (x8 * x8)))) + (rW (x9 * x9)))) + (rW (x10 * x10)))))<|sA rfl<|sN<|WC.region rfl rfl<|sV (rI 3)<|sM rfl<|sN<|WL.round<|WC.regionSeq (R0 := [(2, .d (.raw (.func (.func 237) #[] #[]))), (7, rI (rW ((rW ((rW ((0 : Int) + (rW (x8 * x8)))) + (rW (x9 * x9)))) + (rW (x10 * x10))))), (8, .ptr 128 0), (9, .ptr 144 0), (28, .d (aV.pd x7)), (29, rI 3)]) (B0 := [(128, .var [rI x5.a0, rI x5.a1, rI x5.a2]), (144, .var [rI x6.a0, rI x6.a1, rI x6.a2])]) rfl rfl ?_
 refine sU<|sN<|qS<|cF<|qX<|qE<|gS rfl rfl<|sM rfl<|sA rfl<|sN<|qR ?_
 cases oI h
 exact qD
theorem geometry_Near_ev {a0 : aL} {a1 : ap} {r : Int} (h : kP a0 a1 = some r) : EvP prog av ext 233 [.d (aL.pd a0), .d (ap.pd a1)] [] (rI r, []) := by
 refine Ev.body rfl Tryz.func233 rfl (by kernel_rfl)<|gS rfl rfl<|sB (.ptr 32 0) 32 (.var (aL.rc a0))<|sB (.ptr 48 0) 48 (.var [rI a1.fX, rI a1.fY, rI a1.fZ])<|sV (r0)<|sN<|gS rfl rfl<|sV (.d (aL.pd a0))<|sV (.d (ap.pd a1))<|bE h fun x1 hx1 h => cD (tX hx1)<|sA rfl<|sN<|qR ?_
 cases oI h
 exact qD
theorem lU {a0 : Int} {a1 : Int} {a2 : Int} {r : Int} (h : d9 a0 a1 a2 = some r) : EvP prog av ext 238 [rI a0, rI a1, rI a2] [] (rI r, []) := by
 refine Ev.body rfl Tryz.func238 rfl (by kernel_rfl)<|gS rfl rfl<|sV (r0)<|sN<|gS rfl rfl<|sM rfl<|sM rfl<|sV (rI (rW (a2 - a0)))<|sM rfl<|sM rfl<|sV (rI (rW (a0 - a1)))<|sV (rI (if (rW (a0 - a1)) > (rW (a2 - a0)) then (rW (a0 - a1)) else (rW (a2 - a0))))<|sA rfl<|sN<|qR ?_
 cases oI h
 exact qD
theorem ta {a0 : aL} {a1 : ap} {r : Int} (h : eI a0 a1 = some r) : EvP prog av ext 236 [.d (aL.pd a0), .d (ap.pd a1), .d (.raw (.func (.func 238) #[] #[]))] [] (rI r, []) := by
 refine Ev.body rfl Tryz.func236 rfl (by kernel_rfl)<|gS rfl rfl<|sB (.ptr 48 0) 48 (.var (aL.rc a0))<|sB (.ptr 64 0) 64 (.var [rI a1.fX, rI a1.fY, rI a1.fZ])<|sV (r0)<|sN<|qS<|gS rfl rfl<|sV (.d (aL.pd a0))<|bE h fun x1 hx1 h => cD (gi hx1)<|sF h (fun h => ?_) fun h => ?_
 ·refine sM rfl<|k3<|sT<|sN<|cT<|gS rfl rfl<|sV (r0)<|sN<|qR ?_
  cases oI h
  exact qD
 refine sM rfl<|sV (.d (ap.pd a1))<|bE h fun x3 hx3 h => cD (eY hx3)<|sV (rB (!x3))<|sF h (fun h => ?_) fun h => ?_
 ·refine sN<|cT<|gS rfl rfl<|sV (r0)<|sN<|qR ?_
  cases oI h
  exact qD
 refine sN<|cF<|qK<|WC.regionDSeq rfl rfl<|sV (.ptr 48 0)<|sV (.d (ap.pd a0.a8))<|bE h fun x5 hx5 h => cD (eZ hx5)<|sV (.ptr 48 3)<|sV (.d (ap.pd a0.aU))<|bE h fun x6 hx6 h => cD (eZ hx6)<|sB (.ptr 128 0) 128 (.var [r0, r0, r0])<|sB (.ptr 144 0) 144 (.var [r0, r0, r0])<|sV (r0) ?_
 refine sS 128 (.var [rI x5.a0, rI x5.a1, rI x5.a2])<|sS 144 (.var [rI x6.a0, rI x6.a1, rI x6.a2]) ?_
 refine sN<|sO<|qS<|gS rfl rfl<|sV (.d (ap.pd a1))<|bE h fun x7 hx7 h => cD (eZ hx7)<|sV (r0)<|sN<|WC.block (WC.loop ?_)
 refine WL.round<|WC.regionSeq (R0 := [(2, .d (.raw (.func (.func 238) #[] #[]))), (7, r0), (8, .ptr 128 0), (9, .ptr 144 0), (28, .d (aV.pd x7)), (29, r0)]) (B0 := [(128, .var [rI x5.a0, rI x5.a1, rI x5.a2]), (144, .var [rI x6.a0, rI x6.a1, rI x6.a2])]) rfl rfl<|sT<|sN<|qS<|cT<|qK<|qS<|qB<|gS rfl rfl<|sM rfl<|sV (rI x7.a0)<|sA rfl<|sA rfl<|sN ?_
 refine WC.regionDSeq rfl rfl<|sM rfl<|sM rfl<|sM rfl<|sV (.ptr 128 0)<|sL rfl<|sM rfl<|sV (.ptr 144 0)<|sL rfl<|bE h fun x8 hx8 h => cD (lU hx8)<|sA rfl ?_
 refine sN<|sO<|WC.region rfl rfl<|sM rfl<|sM rfl<|sM rfl<|sV (rI (rW (x8 * x8)))<|sV (rI (rW ((0 : Int) + (rW (x8 * x8)))))<|sA rfl<|sN<|WC.region rfl rfl<|sV (rI 1)<|sM rfl<|sN<|WL.round<|WC.regionSeq (R0 := [(2, .d (.raw (.func (.func 238) #[] #[]))), (7, rI (rW ((0 : Int) + (rW (x8 * x8))))), (8, .ptr 128 0), (9, .ptr 144 0), (28, .d (aV.pd x7)), (29, rI 1)]) (B0 := [(128, .var [rI x5.a0, rI x5.a1, rI x5.a2]), (144, .var [rI x6.a0, rI x6.a1, rI x6.a2])]) rfl rfl ?_
 refine sT<|sN<|qS<|cT<|qK<|qS<|qB<|gS rfl rfl<|sM rfl<|sV (rI x7.a1)<|sA rfl<|sA rfl<|sN<|WC.regionDSeq rfl rfl<|sM rfl ?_
 refine sM rfl<|sM rfl<|sV (.ptr 128 1)<|sL rfl<|sM rfl<|sV (.ptr 144 1)<|sL rfl<|bE h fun x9 hx9 h => cD (lU hx9)<|sA rfl ?_
 refine sN<|sO<|WC.region rfl rfl<|sM rfl<|sM rfl<|sM rfl<|sV (rI (rW (x9 * x9)))<|sV (rI (rW ((rW ((0 : Int) + (rW (x8 * x8)))) + (rW (x9 * x9)))))<|sA rfl<|sN<|WC.region rfl rfl<|sV (rI 2)<|sM rfl<|sN<|WL.round<|WC.regionSeq (R0 := [(2, .d (.raw (.func (.func 238) #[] #[]))), (7, rI (rW ((rW ((0 : Int) + (rW (x8 * x8)))) + (rW (x9 * x9))))), (8, .ptr 128 0), (9, .ptr 144 0), (28, .d (aV.pd x7)), (29, rI 2)]) (B0 := [(128, .var [rI x5.a0, rI x5.a1, rI x5.a2]), (144, .var [rI x6.a0, rI x6.a1, rI x6.a2])]) rfl rfl ?_
 refine sT<|sN<|qS<|cT<|qK<|qS<|qB<|gS rfl rfl<|sM rfl<|sV (rI x7.a2)<|sA rfl<|sA rfl<|sN<|WC.regionDSeq rfl rfl<|sM rfl ?_
 refine sM rfl<|sM rfl<|sV (.ptr 128 2)<|sL rfl<|sM rfl<|sV (.ptr 144 2)<|sL rfl<|bE h fun x10 hx10 h => cD (lU hx10)<|sA rfl ?_
 refine sN<|sO<|WC.region rfl rfl<|sM rfl<|sM rfl<|sM rfl<|sV (rI (rW (x10 * x10)))<|sV (rI (rW ((rW ((rW ((0 : Int) + (rW (x8 * x8)))) + (rW (x9 * x9)))) + (rW (x10 * x10)))))<|sA rfl<|sN<|WC.region rfl rfl<|sV (rI 3)<|sM rfl<|sN<|WL.round<|WC.regionSeq (R0 := [(2, .d (.raw (.func (.func 238) #[] #[]))), (7, rI (rW ((rW ((rW ((0 : Int) + (rW (x8 * x8)))) + (rW (x9 * x9)))) + (rW (x10 * x10))))), (8, .ptr 128 0), (9, .ptr 144 0), (28, .d (aV.pd x7)), (29, rI 3)]) (B0 := [(128, .var [rI x5.a0, rI x5.a1, rI x5.a2]), (144, .var [rI x6.a0, rI x6.a1, rI x6.a2])]) rfl rfl ?_
 refine sU<|sN<|qS<|cF<|qX<|qE<|gS rfl rfl<|sM rfl<|sA rfl<|sN<|qR ?_
 cases oI h
 exact qD
theorem geometry_Far_ev {a0 : aL} {a1 : ap} {r : Int} (h : mo a0 a1 = some r) : EvP prog av ext 234 [.d (aL.pd a0), .d (ap.pd a1)] [] (rI r, []) := by
 refine Ev.body rfl Tryz.func234 rfl (by kernel_rfl)<|gS rfl rfl<|sB (.ptr 32 0) 32 (.var (aL.rc a0))<|sB (.ptr 48 0) 48 (.var [rI a1.fX, rI a1.fY, rI a1.fZ])<|sV (r0)<|sN<|gS rfl rfl<|sV (.d (aL.pd a0))<|sV (.d (ap.pd a1))<|bE h fun x1 hx1 h => cD (ta hx1)<|sA rfl<|sN<|qR ?_
 cases oI h
 exact qD
theorem bound_squares_ev {a0 : aK} {a1 : aL} {a2 : ap} {r : aK × Int × Int} (h : kN a0 a1 a2 = some r) : EvP prog av ext 224 [.d (aK.pd a0), .d (aL.pd a1), .d (ap.pd a2)] [] (.tup [.d (aK.pd r.1), rI r.2.1, rI r.2.2], []) := by
 refine Ev.body rfl Tryz.func224 rfl (by kernel_rfl)<|gS rfl rfl<|sB (.ptr 48 0) 48 (.var [rI a0.bt, .d (.lst (a0.a8.map (PD.int .i64))), .d (.lst (a0.aU.map (PD.int .i64)))])<|sB (.ptr 64 0) 64 (.var (aL.rc a1))<|sB (.ptr 80 0) 80 (.var [rI a2.fX, rI a2.fY, rI a2.fZ])<|sB (.ptr 96 0) 96 (.var [r0, .nils, .nils])<|sV (r0)<|sV (r0)<|sN<|WC.regionDSeq rfl rfl<|sV (.d (aK.pd a0))<|sV (.d (aL.pd a1))<|sV (.d (ap.pd a2))<|bE h fun x1 hx1 h => cD (geometry_Near_ev hx1) ?_
 refine sV (.d (aL.pd a1))<|sV (.d (ap.pd a2))<|bE h fun x2 hx2 h => cD (geometry_Far_ev hx2)<|sS 96 (.var [rI a0.bt, .d (.lst (a0.a8.map (PD.int .i64))), .d (.lst (a0.aU.map (PD.int .i64)))])<|sA rfl<|sA rfl ?_
 refine sN<|sO<|qR ?_
 cases oI h
 exact qD
theorem bits_Len64_ev {a0 : Int} {r : Int} (h : sP a0 = some r) : EvP prog av ext 156 [.d (.int .u64 a0)] [] (rI r, []) := by
 refine Ev.body rfl Tryz.func156 rfl (by kernel_rfl)<|gS rfl rfl<|sV (r0)<|sN<|WC.join (α := Int × Int) (fun x R' B' => ghosts prog 0 (A R' B') (av.at_ 156 0 4) = some (A [(0, .d (.int .u64 x.1)), (2, rI x.2)] [])) (fun x => jG x.1 x.2 = some r) ?_ ?_
 ·refine gS rfl rfl<|sM rfl<|sF h (fun h => ?_) fun h => ?_
  ·exact sN<|cT<|gS rfl rfl<|sM rfl<|sV (.d (.int .u64 (shrI .u64 a0 (32 : Int))))<|sA rfl<|sN<|WC.region rfl rfl<|sV (rI 32)<|sN<|⟨((shrI .u64 a0 (32 : Int)), 32), rfl, h⟩
  exact sN<|cF<|qK<|⟨(a0, 0), rfl, h⟩
 rintro ⟨j1, j2⟩ R' B' hI h
 refine WC.join (α := Int × Int) (fun x R' B' => ghosts prog 0 (A R' B') (av.at_ 156 0 7) = some (A [(0, .d (.int .u64 x.1)), (2, rI x.2)] [])) (fun x => kM x.1 x.2 = some r) ?_ ?_
 ·refine gS rfl hI<|sM rfl<|sF h (fun h => ?_) fun h => ?_
  ·exact sN<|cT<|gS rfl rfl<|sM rfl<|sV (.d (.int .u64 (shrI .u64 j1 (16 : Int))))<|sA rfl<|sN<|WC.region rfl rfl<|sM rfl<|sV (rI (rW (j2 + (16 : Int))))<|sA rfl<|sN<|⟨((shrI .u64 j1 (16 : Int)), (rW (j2 + (16 : Int)))), rfl, h⟩
  exact sN<|cF<|qK<|⟨(j1, j2), rfl, h⟩
 rintro ⟨j3, j4⟩ R' B' hI h
 refine qS<|gS rfl hI<|sM rfl<|sF h (fun h => ?_) fun h => ?_
 ·refine sN<|cT<|gS rfl rfl<|sM rfl<|sV (.d (.int .u64 (shrI .u64 j3 (8 : Int))))<|sA rfl<|sN<|WC.region rfl rfl<|sM rfl<|sV (rI (rW (j4 + (8 : Int))))<|sA rfl<|sN<|gS rfl rfl<|sM rfl<|sM rfl ?_
  refine sV (.d (.int .u8 (IntKind.wrap .u8 (shrI .u64 j3 (8 : Int)))))<|bE h fun x6 hx6 h => WO.byteG hx6 rfl rfl rfl rfl rfl rfl<|sV (rI (IntKind.wrap .i64 x6))<|sV (rI (rW ((rW (j4 + (8 : Int))) + (IntKind.wrap .i64 x6))))<|sA rfl<|sN<|qR ?_
  cases oI h
  exact qD
 refine sN<|cF<|qK<|gS rfl rfl<|sM rfl<|sM rfl<|sV (.d (.int .u8 (IntKind.wrap .u8 j3)))<|bE h fun x7 hx7 h => WO.byteG hx7 rfl rfl rfl rfl rfl rfl<|sV (rI (IntKind.wrap .i64 x7))<|sV (rI (rW (j4 + (IntKind.wrap .i64 x7))))<|sA rfl<|sN<|qR ?_
 cases oI h
 exact qD
theorem bits_Len_ev {a0 : Int} {r : Int} (h : qT a0 = some r) : EvP prog av ext 121 [.d (.int .u64 a0)] [] (rI r, []) := by
 refine Ev.body rfl Tryz.func121 rfl (by kernel_rfl)<|gS rfl rfl<|sV (r0)<|sN<|qS<|cF<|qK<|gS rfl rfl<|sM rfl<|bE h fun x1 hx1 h => cD (bits_Len64_ev hx1)<|sA rfl<|sN<|qR ?_
 cases oI h
 exact qD
theorem uh {a0 : Int} {r : Int} (h : iy a0 = some r) : EvP prog av ext 232 [rI a0] [] (rI r, []) := by
 refine Ev.body rfl Tryz.func232 rfl (by kernel_rfl)<|gS rfl rfl<|sV (r0)<|sN<|qS<|gS rfl rfl<|sM rfl<|sF h (fun h => ?_) fun h => ?_
 ·refine sN<|cT<|gS rfl rfl<|sV (r0)<|sN<|qR ?_
  cases oI h
  exact qD
 refine sN<|cF<|qK<|gS rfl rfl<|sV (r0)<|sN<|qS<|gS rfl rfl<|sM rfl<|sV (.d (.int .u64 (IntKind.wrap .u64 a0)))<|bE h fun x2 hx2 h => cD (bits_Len_ev hx2)<|sV (rI (rW (x2 - (1 : Int))))<|bE h fun x3 hx3 h => WO.quoG hx3 rfl rfl rfl rfl rfl rfl ?_
 refine bE h fun x4 hx4 h => WO.shlG hx4 rfl rfl rfl rfl rfl<|sA rfl<|sN<|bE h fun o13 ho13 h => WC.block (WC.loop (WL.ofLoop ho13 (fun s R' B' => ghosts prog 0 (A R' B') (av.at_ 232 0 5) = some (A [(0, rI a0), (3, rI s.1), (4, rI s.2)] [])) (fun o e R' B' => e = .exit 0 ∧ ghosts prog 0 (A R' B') (av.at_ 232 0 10) = some (A [(3, rI o)] [])) rfl ?_ ?_))
 ·rintro ⟨s5, s6⟩ R' B' q8 hI h
  refine qS<|gS rfl hI<|sM rfl<|sF h (fun h => ?_) fun h => ?_
  ·refine sN<|cT<|qK<|qS<|qB<|gS rfl rfl<|sM rfl<|sM rfl<|sV (rI (orI .i64 s5 s6))<|sA rfl<|sN<|gS rfl rfl<|sM rfl<|sM rfl<|sM rfl ?_
   refine bE h fun x10 hx10 h => WO.quoG hx10 rfl rfl rfl rfl rfl rfl<|sF h (fun h => ?_) fun h => ?_
   ·refine sN<|cT<|WC.region rfl rfl<|sM rfl<|sA rfl<|sN<|WC.region rfl rfl<|sM rfl<|sV (rI (shrI .i64 s6 (1 : Int)))<|sA rfl<|sN ?_
    cases oI h
    exact ⟨rfl, rfl⟩
   refine sN<|cF<|qK<|WC.region rfl rfl<|sM rfl<|sV (rI (shrI .i64 s6 (1 : Int)))<|sA rfl<|sN ?_
   cases oI h
   exact ⟨rfl, rfl⟩
  refine sN<|cF<|qX ?_
  cases oI h
  exact ⟨nofun, rfl, rfl⟩
 intro e R' B' he hq
 obtain ⟨rfl, hI⟩ := hq
 refine qE<|gS rfl hI<|sM rfl<|sA rfl<|sN<|qR ?_
 cases oI h
 exact qD
theorem geometry_Ceil_ev {a0 : Int} {r : Int} (h : kO a0 = some r) : EvP prog av ext 228 [rI a0] [] (rI r, []) := by
 refine Ev.body rfl Tryz.func228 rfl (by kernel_rfl)<|gS rfl rfl<|sV (r0)<|sN<|gS rfl rfl<|sM rfl<|bE h fun x1 hx1 h => cD (uh hx1)<|sA rfl<|sN<|qS<|gS rfl rfl<|sM rfl<|sM rfl<|sV (rI (rW (x1 * x1))) ?_
 refine sM rfl<|sF h (fun h => ?_) fun h => ?_
 ·refine sN<|cT<|WC.region rfl rfl<|sM rfl<|sV (rI (rW (x1 + (1 : Int))))<|sA rfl<|sN<|gS rfl rfl<|sM rfl<|sA rfl<|sN<|qR ?_
  cases oI h
  exact qD
 refine sN<|cF<|qK<|gS rfl rfl<|sM rfl<|sA rfl<|sN<|qR ?_
 cases oI h
 exact qD
theorem travel_reach_ev {a0 : aK} {r : Int} (h : pL a0 = some r) : EvP prog av ext 229 [.d (aK.pd a0)] [] (rI r, []) := by
 refine Ev.body rfl Tryz.func229 rfl (by kernel_rfl)<|gS rfl rfl<|sB (.ptr 16 0) 16 (.var [rI a0.bt, .d (.lst (a0.a8.map (PD.int .i64))), .d (.lst (a0.aU.map (PD.int .i64)))])<|sV (r0)<|sN<|gS rfl rfl<|sV (.ptr 16 0)<|sL rfl<|sV (.ptr 16 1)<|sL rfl<|sE (rI (a0.a8.length : Int)) (lenMap _ _)<|sV (rI (rW ((a0.a8.length : Int) - (1 : Int))))<|sV (rI (rW (a0.bt * (rW ((a0.a8.length : Int) - (1 : Int))))))<|sA rfl<|sN ?_
 refine qR ?_
 cases oI h
 exact qD
theorem wg {a0 : Int} {d0 : aK} {d1 : Int} {r : Bool} (h : gP a0 d0 d1 = some r) : EvP prog av ext 231 [rI a0, .ptr 0 0, .ptr 1 0] [.var [rI d0.bt, .d (.lst (d0.a8.map (PD.int .i64))), .d (.lst (d0.aU.map (PD.int .i64)))], .var [rI d1]] (rB r, [.var [rI d0.bt, .d (.lst (d0.a8.map (PD.int .i64))), .d (.lst (d0.aU.map (PD.int .i64)))], .var [rI d1]]) := by
 refine Ev.body rfl Tryz.func231 rfl (by kernel_rfl)<|gS rfl rfl<|sU<|sN<|gS rfl rfl<|sM rfl<|sV (.ptr 0 0)<|sL rfl<|sV (rI (rW (a0 * d0.bt)))<|sL rfl<|sV (rB (decide ((rW (a0 * d0.bt)) ≥ d1)))<|sA rfl<|sN<|qR ?_
 cases oI h
 exact qD
theorem xT {a0 : Int} {d0 : aK} {d1 : Int} {r : Int} (h : ir a0 d0 d1 = some r) : EvP prog av ext 230 [rI a0, .clo 231 [.ptr 0 0, .ptr 1 0]] [.var [rI d0.bt, .d (.lst (d0.a8.map (PD.int .i64))), .d (.lst (d0.aU.map (PD.int .i64)))], .var [rI d1]] (rI r, [.var [rI d0.bt, .d (.lst (d0.a8.map (PD.int .i64))), .d (.lst (d0.aU.map (PD.int .i64)))], .var [rI d1]]) := by
 refine Ev.body rfl Tryz.func230 rfl (by kernel_rfl)<|gS rfl rfl<|sV (r0)<|sN<|gS rfl rfl<|sM rfl<|sV (r0)<|sA rfl<|sN<|qS<|bE h fun o9 ho9 h => WC.block (WC.loop (WL.ofLoop ho9 (fun s R' B' => ghosts prog 2 (A R' B') (av.at_ 230 2 2) = some (A [(1, .clo 231 [.ptr 0 0, .ptr 1 0]), (5, rI s.1), (6, rI s.2)] [(0, .var [rI d0.bt, .d (.lst (d0.a8.map (PD.int .i64))), .d (.lst (d0.aU.map (PD.int .i64)))]), (1, .var [rI d1])])) (fun o e R' B' => e = .exit 0 ∧ ghosts prog 2 (A R' B') (av.at_ 230 2 7) = some (A [(5, rI o)] [(0, .var [rI d0.bt, .d (.lst (d0.a8.map (PD.int .i64))), .d (.lst (d0.aU.map (PD.int .i64)))]), (1, .var [rI d1])])) rfl ?_ ?_))
 ·rintro ⟨s1, s2⟩ R' B' q4 hI h
  refine qS<|gS rfl hI<|sM rfl<|sM rfl<|sF h (fun h => ?_) fun h => ?_
  ·refine sN<|cT<|qK<|qB<|gS rfl rfl<|sM rfl<|sM rfl<|sV (rI (rW (s1 + s2)))<|sV (.d (.int .u64 (IntKind.wrap .u64 (rW (s1 + s2)))))<|sV (.d (.int .u64 (shrI .u64 (IntKind.wrap .u64 (rW (s1 + s2))) (1 : Int))))<|sV (rI (rW (shrI .u64 (IntKind.wrap .u64 (rW (s1 + s2))) (1 : Int))))<|sA rfl<|sN<|gS rfl rfl<|sM rfl ?_
   refine sM rfl<|bE h fun x6 hx6 h => cR (rB x6) [(0, .var [rI d0.bt, .d (.lst (d0.a8.map (PD.int .i64))), .d (.lst (d0.aU.map (PD.int .i64)))]), (1, .var [rI d1])] (wg hx6)<|sF h (fun h => ?_) fun h => ?_
   ·refine sN<|cT<|WC.region rfl rfl<|sM rfl<|sV (rI (rW ((rW (shrI .u64 (IntKind.wrap .u64 (rW (s1 + s2))) (1 : Int))) + (1 : Int))))<|sA rfl<|sN ?_
    cases oI h
    exact ⟨rfl, rfl⟩
   refine sN<|cF<|WC.region rfl rfl<|sM rfl<|sA rfl<|sN ?_
   cases oI h
   exact ⟨rfl, rfl⟩
  refine sN<|cF<|qX ?_
  cases oI h
  exact ⟨nofun, rfl, rfl⟩
 intro e R' B' he hq
 obtain ⟨rfl, hI⟩ := hq
 refine qE<|gS rfl hI<|sM rfl<|sA rfl<|sN<|qR ?_
 cases oI h
 exact qD
theorem zw {a0 : aK} {a1 : Int} {a2 : Int} {r : Int × Int × Int} (h : jX a0 a1 a2 = some r) : EvP prog av ext 223 [.d (aK.pd a0), rI a1, rI a2] [] (.tup [rI r.1, rI r.2.1, rI r.2.2], []) := by
 refine Ev.body rfl Tryz.func223 rfl (by kernel_rfl)<|gS rfl rfl<|sB (.ptr 48 0) 48 (.var [rI a0.bt, .d (.lst (a0.a8.map (PD.int .i64))), .d (.lst (a0.aU.map (PD.int .i64)))])<|sV (r0)<|sV (r0)<|sV (r0)<|sN<|qS<|gS rfl rfl<|sV (.d (aK.pd a0))<|bE h fun x1 hx1 h => cD (iH hx1)<|sF h (fun h => ?_) fun h => ?_
 ·refine sN<|cT<|gS rfl rfl<|sV (r0)<|sV (r0)<|sV (rI 21)<|sN<|qR ?_
  cases oI h
  exact qD
 refine sN<|cF<|qK<|qS<|gS rfl rfl<|sM rfl<|sF h (fun h => ?_) fun h => ?_
 ·refine sM rfl<|k3<|sT<|sN<|cT<|gS rfl rfl<|sV (r0)<|sV (r0)<|sV (rI 2)<|sN<|qR ?_
  cases oI h
  exact qD
 refine sM rfl<|sM rfl<|sM rfl<|sV (rB (decide (a1 > a2)))<|sF h (fun h => ?_) fun h => ?_
 ·refine sN<|cT<|gS rfl rfl<|sV (r0)<|sV (r0)<|sV (rI 2)<|sN<|qR ?_
  cases oI h
  exact qD
 refine sN<|cF<|qK<|gS rfl rfl<|sM rfl<|bE h fun x5 hx5 h => cD (geometry_Ceil_ev hx5)<|sB (.ptr 144 0) 144 (.var [r0])<|sS 144 (.var [rI x5])<|sN<|qS<|WC.regionDSeq rfl rfl<|sL rfl<|sV (.d (aK.pd a0))<|bE h fun x6 hx6 h => ?_
 refine cD (travel_reach_ev hx6)<|sF h (fun h => ?_) fun h => ?_
 ·refine sN<|sO<|cT<|gS rfl rfl<|sV (r0)<|sV (r0)<|sV (rI 22)<|sN<|qR ?_
  cases oI h
  exact qD
 refine sN<|sO<|cF<|qK<|gS rfl rfl<|sV (.ptr 48 2)<|sL rfl<|sE (rI (a0.aU.length : Int)) (lenMap _ _)<|sV (.clo 231 [.ptr 48 0, .ptr 144 0])<|bE h fun x8 hx8 h => cR (rI x8) [(48, .var [rI a0.bt, .d (.lst (a0.a8.map (PD.int .i64))), .d (.lst (a0.aU.map (PD.int .i64)))]), (144, .var [rI x5])] (xT hx8)<|sA rfl<|sN<|WC.regionDSeq rfl rfl<|sV (.ptr 48 1)<|sL rfl ?_
 refine sM rfl<|bE h fun x9 hx9 h => cD (uh hx9)<|sV (.ptr 48 0)<|sL rfl<|bE h fun x10 hx10 h => WO.quoG hx10 rfl rfl rfl rfl rfl rfl<|bE h fun x11 hx11 h => eG hx11 rfl<|sC rfl<|sV (.ptr 48 2)<|sL rfl<|sM rfl<|bE h fun x12 hx12 h => eG hx12 rfl ?_
 refine sC rfl<|sA rfl<|sA rfl<|sV (r0) ?_
 refine sN<|sO<|qR ?_
 cases oI h
 exact qD
theorem yM {a0 : aK} {a1 : aL} {a2 : ap} {r : Int × Int × Int} (h : lS a0 a1 a2 = some r) : EvP prog av ext 213 [.d (aK.pd a0), .d (aL.pd a1), .d (ap.pd a2)] [] (.tup [rI r.1, rI r.2.1, rI r.2.2], []) := by
 refine Ev.body rfl Tryz.func213 rfl (by kernel_rfl)<|gS rfl rfl<|sB (.ptr 48 0) 48 (.var [rI a0.bt, .d (.lst (a0.a8.map (PD.int .i64))), .d (.lst (a0.aU.map (PD.int .i64)))])<|sB (.ptr 64 0) 64 (.var (aL.rc a1))<|sB (.ptr 80 0) 80 (.var [rI a2.fX, rI a2.fY, rI a2.fZ])<|sV (r0)<|sV (r0)<|sV (r0)<|sN<|qS<|gS rfl rfl<|sV (.d (aK.pd a0))<|bE h fun x1 hx1 h => cD (iH hx1)<|sA rfl ?_
 refine sN<|gS rfl rfl<|sM rfl<|sF h (fun h => ?_) fun h => ?_
 ·refine sN<|cT<|gS rfl rfl<|sM rfl<|sV (r0)<|sV (r0)<|sA rfl<|sN<|qR ?_
  cases oI h
  exact qD
 refine sN<|cF<|qK<|qS<|gS rfl rfl<|sV (.d (aL.pd a1))<|bE h fun x3 hx3 h => cD (gi hx3)<|sF h (fun h => ?_) fun h => ?_
 ·refine sM rfl<|k3<|sT<|sN<|cT<|gS rfl rfl<|sV (r0)<|sV (r0)<|sV (rI 20)<|sN<|qR ?_
  cases oI h
  exact qD
 refine sM rfl<|sV (.d (ap.pd a2))<|bE h fun x5 hx5 h => cD (eY hx5)<|sV (rB (!x5))<|sF h (fun h => ?_) fun h => ?_
 ·refine sN<|cT<|gS rfl rfl<|sV (r0)<|sV (r0)<|sV (rI 20)<|sN<|qR ?_
  cases oI h
  exact qD
 refine sN<|cF<|qK<|gS rfl rfl<|sV (.d (aK.pd a0))<|sV (.d (aL.pd a1))<|sV (.d (ap.pd a2))<|bE h fun x7 hx7 h => cR (.tup [.d (aK.pd x7.1), rI x7.2.1, rI x7.2.2]) [] (bound_squares_ev hx7)<|sV (.d (aK.pd x7.1))<|sV (rI x7.2.1)<|sV (rI x7.2.2)<|bE h fun x8 hx8 h => cR (.tup [rI x8.1, rI x8.2.1, rI x8.2.2]) [] (zw hx8)<|sV (rI x8.1) ?_
 refine sV (rI x8.2.1)<|sV (rI x8.2.2)<|sA rfl<|sA rfl<|sA rfl<|sN<|qR ?_
 cases oI h
 exact qD
theorem xV {a0 : aK} {a1 : aL} {a2 : ak} {r : bG × Int} (h : nT a0 a1 a2 = some r) : EvP prog av ext 186 [.d (aK.pd a0), .d (aL.pd a1), .d (ak.pd a2)] [] (.tup [.d (bG.pd r.1), rI r.2], []) := by
 refine Ev.body rfl Tryz.func186 rfl (by kernel_rfl)<|gS rfl rfl<|sB (.ptr 48 0) 48 (.var [rI a0.bt, .d (.lst (a0.a8.map (PD.int .i64))), .d (.lst (a0.aU.map (PD.int .i64)))])<|sB (.ptr 64 0) 64 (.var (aL.rc a1))<|sB (.ptr 80 0) 80 (.var (ak.rc a2))<|sB (.ptr 96 0) 96 (.var [r0, r0])<|sV (r0)<|sN<|qS<|gS rfl rfl<|sV (.d (aK.pd a0))<|bE h fun x1 hx1 h => cD (iH hx1)<|sA rfl<|sN ?_
 refine gS rfl rfl<|sM rfl<|sF h (fun h => ?_) fun h => ?_
 ·refine sN<|cT<|gS rfl rfl<|sV (.d (bG.pd (bG.mk 0 0)))<|sM rfl<|sS 96 (.var [r0, r0])<|sA rfl<|sN<|qR ?_
  cases oI h
  exact qD
 refine sN<|cF<|qK<|qS<|gS rfl rfl<|sV (.d (aL.pd a1))<|bE h fun x3 hx3 h => cD (gi hx3)<|sF h (fun h => ?_) fun h => ?_
 ·refine sN<|cT<|gS rfl rfl<|sV (.d (bG.pd (bG.mk 0 0)))<|sS 96 (.var [r0, r0])<|sV (rI 20)<|sN<|qR ?_
  cases oI h
  exact qD
 refine sN<|cF<|qK<|qS<|gS rfl rfl<|sV (.d (ak.pd a2))<|bE h fun x5 hx5 h => cD (xC hx5)<|sF h (fun h => ?_) fun h => ?_
 ·refine sN<|cT<|gS rfl rfl<|sV (.d (bG.pd (bG.mk 0 0)))<|sS 96 (.var [r0, r0])<|sV (rI 23)<|sN<|qR ?_
  cases oI h
  exact qD
 refine sN<|cF<|qK<|gS rfl rfl<|sV (.d (aK.pd a0))<|sV (.d (aL.pd a1))<|sV (.ptr 80 0)<|sV (.d (ap.pd a2.aA))<|bE h fun x7 hx7 h => cR (.tup [rI x7.1, rI x7.2.1, rI x7.2.2]) [] (yM hx7)<|sM rfl<|sV (rI x7.1)<|sV (rI x7.2.1)<|sV (rI x7.2.2)<|sA rfl ?_
 refine sA rfl<|sA rfl<|sN<|qS<|gS rfl rfl<|sM rfl<|sF h (fun h => ?_) fun h => ?_
 ·refine sN<|cT<|gS rfl rfl<|sV (.d (bG.pd (bG.mk 0 0)))<|sM rfl<|sS 96 (.var [r0, r0])<|sA rfl<|sN<|qR ?_
  cases oI h
  exact qD
 refine sN<|cF<|qK<|gS rfl rfl<|sV (.ptr 80 3)<|sL rfl<|sM rfl<|sV (rI (rW (a2.aH - x7.2.1)))<|sV (.ptr 80 4)<|sL rfl<|sM rfl<|sV (rI (rW (a2.aY - x7.1)))<|sV (.d (bG.pd (bG.mk (rW (a2.aH - x7.2.1)) (rW (a2.aY - x7.1)))))<|sS 96 (.var [rI (rW (a2.aH - x7.2.1)), rI (rW (a2.aY - x7.1))])<|sV (r0) ?_
 refine sN<|qR ?_
 cases oI h
 exact qD
theorem wv {a0 : bd} {a1 : (List ak)} {r : Int} (h : fO a0 a1 = some r) : EvP prog av ext 142 [.d (bd.pd a0), .d (.lst (a1.map ak.pd))] [] (rI r, []) := by
 refine Ev.body rfl Tryz.func142 rfl (by kernel_rfl)<|gS rfl rfl<|sB (.ptr 32 0) 32 (.var (bd.rc a0))<|sV (r0)<|sN<|qS<|gS rfl rfl<|sV (.ptr 32 0)<|sV (.d (aL.pd a0.aS))<|bE h fun x1 hx1 h => cD (gi hx1)<|sF h (fun h => ?_) fun h => ?_
 ·refine sM rfl<|k3<|sK<|sT<|sM rfl<|k3<|sK<|sT<|sM rfl<|sK<|sK ?_
  refine sK<|sK<|sT<|sM rfl<|k3<|sK<|sT<|sM rfl<|k3<|sK<|sT ?_
  refine sM rfl<|k3<|sK<|sT<|sN<|cT<|gS rfl rfl<|sV (rI 27)<|sN<|qR ?_
  cases oI h
  exact qG
 refine sM rfl<|sV (.ptr 32 6)<|sV (.d (aK.pd a0.bv))<|bE h fun x3 hx3 h => cD (iH hx3)<|sV (rB (x3 != (0 : Int)))<|sF h (fun h => ?_) fun h => ?_
 ·refine sM rfl<|k3<|sK<|sT<|sM rfl<|k3<|sK<|sT<|sM rfl<|sK<|sK ?_
  refine sK<|sK<|sT<|sM rfl<|k3<|sK<|sT<|sM rfl<|k3<|sK<|sT ?_
  refine sN<|cT<|gS rfl rfl<|sV (rI 27)<|sN<|qR ?_
  cases oI h
  exact qG
 refine sM rfl<|sV (.ptr 32 9)<|sL rfl<|bE h fun x5 hx5 h => cD (kE hx5)<|sV (rB (!x5))<|sF h (fun h => ?_) fun h => ?_
 ·refine sM rfl<|k3<|sK<|sT<|sM rfl<|k3<|sK<|sT<|sM rfl<|sK<|sK ?_
  refine sK<|sK<|sT<|sM rfl<|k3<|sK<|sT<|sN<|cT<|gS rfl rfl<|sV (rI 27)<|sN<|qR ?_
  cases oI h
  exact qG
 refine sM rfl<|sV (.ptr 32 10)<|sL rfl<|bE h fun x7 hx7 h => cD (kE hx7)<|sV (rB (!x7))<|sF h (fun h => ?_) fun h => ?_
 ·refine sM rfl<|k3<|sK<|sT<|sM rfl<|k3<|sK<|sT<|sM rfl<|sK<|sK ?_
  refine sK<|sK<|sT<|sN<|cT<|gS rfl rfl<|sV (rI 27)<|sN<|qR ?_
  cases oI h
  exact qG
 refine sM rfl<|sV (.ptr 32 12)<|sL rfl<|bE h fun x9 hx9 h => cD (kE hx9)<|sV (rB (!x9))<|sF h (fun h => ?_) fun h => ?_
 ·refine sM rfl<|k3<|sK<|sT<|sM rfl<|k3<|sK<|sT<|sN<|cT<|gS rfl rfl ?_
  refine sV (rI 27)<|sN<|qR ?_
  cases oI h
  exact qG
 refine sM rfl<|sV (.ptr 32 11)<|sL rfl<|bE h fun x11 hx11 h => cD (kE hx11)<|sV (rB (!x11))<|sF h (fun h => ?_) fun h => ?_
 ·refine sM rfl<|k3<|sK<|sT<|sN<|cT<|gS rfl rfl<|sV (rI 27)<|sN<|qR ?_
  cases oI h
  exact qG
 refine sM rfl<|sV (.ptr 32 13)<|sL rfl<|bE h fun x13 hx13 h => cD (kE hx13)<|sV (rB (!x13))<|sF h (fun h => ?_) fun h => ?_
 ·refine sN<|cT<|gS rfl rfl<|sV (rI 27)<|sN<|qR ?_
  cases oI h
  exact qG
 refine sN<|cF<|qK<|qS<|gS rfl rfl<|sM rfl<|sE (rI (a1.length : Int)) (lenMap _ _)<|sF h (fun h => ?_) fun h => ?_
 ·refine sN<|cT<|gS rfl rfl<|sV (rI 8)<|sN<|qR ?_
  cases oI h
  exact qG
 refine sN<|cF<|qK<|qS<|gS rfl rfl<|sM rfl<|sE (rI (a1.length : Int)) (lenMap _ _)<|sV (r0)<|sN<|bE h fun o23 ho23 h => WC.block (WC.loop (WL.ofLoop ho23 (fun s R' B' => ghosts prog 0 (A R' B') (av.at_ 142 0 6) = some (A [(2, .ptr 32 0), (52, .d (.lst (a1.map ak.pd))), (53, rI (a1.length : Int)), (54, rI s)] [(32, .var (bd.rc a0))])) (fun o e R' B' => match o with | .inl y => e = .exit 0 ∧ ghosts prog 0 (A R' B') (av.at_ 142 0 12) = some (A [] []) | .inr r => e = .ret ∧ finish prog (av.own 142) Tryz.f142 0 (A R' B') = some (rI r, [])) rfl ?_ ?_))
 ·rintro s16 R' B' q17 hI h
  refine gS rfl hI<|sF h (fun h => ?_) fun h => ?_
  ·refine sN<|qS<|cT<|qK<|qS<|qB<|gS rfl rfl<|bE h fun x19 hx19 h => eG hx19 rfl<|sV (.d (ak.pd x19))<|sB (.ptr 96 0) 96 (.var [r0, r0, r0, r0, r0, r0])<|sH 96 (.var (ak.rc x19))<|sN<|gS rfl rfl<|sV (.ptr 32 6) ?_
   refine sV (.d (aK.pd a0.bv))<|sV (.ptr 32 0)<|sV (.d (aL.pd a0.aS))<|sV (.d (ak.pd x19))<|bE h fun x20 hx20 h => cR (.tup [.d (bG.pd x20.1), rI x20.2]) [] (xV hx20)<|sM rfl<|sV (.d (bG.pd x20.1))<|sV (rI x20.2)<|sB (.ptr 112 0) 112 (.var [r0, r0])<|sS 112 (.var [rI x20.1.aM, rI x20.1.fTo])<|sA rfl<|sN<|gS rfl rfl<|sM rfl ?_
   refine sF h (fun h => ?_) fun h => ?_
   ·refine sN<|cT<|gS rfl rfl<|sM rfl<|sA rfl<|sN<|qR ?_
    cases oI h
    exact ⟨nofun, rfl, rfl⟩
   refine sN<|cF<|qK<|WC.region rfl rfl<|sV (rI (rW (s16 + (1 : Int))))<|sM rfl<|sN ?_
   cases oI h
   exact ⟨rfl, rfl⟩
  refine sN<|qS<|cF<|qX ?_
  cases oI h
  exact ⟨nofun, rfl, rfl⟩
 intro e R' B' he hq
 rcases o23 with y24 | r25
 ·obtain ⟨rfl, hI⟩ := hq
  refine qE<|gS rfl hI<|sV (r0)<|sN<|qR ?_
  cases oI h
  exact qD
 obtain ⟨rfl, hf⟩ := hq
 cases oI h
 exact hf
theorem uZ {a0 : cu} {r : Bool} (h : eL a0 = some r) : EvP prog av ext 143 [.d (cu.pd a0)] [] (rB r, []) := by
 refine Ev.body rfl Tryz.func143 rfl (by kernel_rfl)<|gS rfl rfl<|sB (.ptr 16 0) 16 (.var (cu.rc a0))<|sU<|sN<|gS rfl rfl<|sV (.ptr 16 0)<|sV (.d (aK.pd a0.aZ))<|bE h fun x1 hx1 h => cD (iH hx1)<|sF h (fun h => ?_) fun h => ?_
 ·refine sM rfl<|sV (.ptr 16 3)<|sL rfl<|sV (rB (decide (a0.aX ≥ (0 : Int))))<|sF h (fun h => ?_) fun h => ?_
  ·refine sM rfl<|sV (.ptr 16 3)<|sL rfl<|sV (rB (decide (a0.aX ≤ (65536 : Int))))<|sF h (fun h => ?_) fun h => ?_
   ·refine sM rfl<|sV (.ptr 16 4)<|sL rfl<|sV (rB (decide (a0.aP ≥ (1 : Int))))<|sF h (fun h => ?_) fun h => ?_
    ·refine sM rfl<|sV (.ptr 16 4)<|sL rfl<|sV (rB (decide (a0.aP ≤ (65536 : Int))))<|sV (rB (decide (a0.aP ≤ (65536 : Int))))<|sA rfl<|sN<|qR ?_
     cases oI h
     exact qD
    refine sM rfl<|k3<|sU<|sA rfl<|sN<|qR ?_
    cases oI h
    exact qD
   refine sM rfl<|k3<|sU<|sM rfl<|k3<|sU<|sA rfl<|sN<|qR ?_
   cases oI h
   exact qD
  refine sM rfl<|k3<|sU<|sM rfl<|k3<|sU<|sM rfl<|k3<|sU ?_
  refine sA rfl<|sN<|qR ?_
  cases oI h
  exact qD
 refine sM rfl<|k3<|sU<|sM rfl<|k3<|sU<|sM rfl<|k3<|sU ?_
 refine sM rfl<|k3<|sU<|sA rfl<|sN<|qR ?_
 cases oI h
 exact qD
theorem rq {a0 : aG} {r : Int} (h : fk a0 = some r) : EvP prog av ext 115 [.d (aG.pd a0)] [] (rI r, []) := by
 refine Ev.body rfl Tryz.func115 rfl (by kernel_rfl)<|gS rfl rfl<|sB (.ptr 16 0) 16 (.var (aG.rc a0))<|sV (r0)<|sN<|qS<|gS rfl rfl<|sV (.ptr 16 0)<|sV (.d (bd.pd a0.au))<|bE h fun x1 hx1 h => cD (wv hx1)<|sF h (fun h => ?_) fun h => ?_
 ·refine sM rfl<|k3<|sK<|sT<|sM rfl<|k3<|sT<|sM rfl<|sK<|sK<|sK ?_
  refine sT<|sN<|cT<|gS rfl rfl<|sV (rI 27)<|sN<|qR ?_
  cases oI h
  exact qG
 refine sM rfl<|sV (.ptr 16 14)<|sV (.d (cu.pd a0.bR))<|bE h fun x3 hx3 h => cD (uZ hx3)<|sV (rB (!x3))<|sF h (fun h => ?_) fun h => ?_
 ·refine sM rfl<|k3<|sT<|sM rfl<|k3<|sT<|sN<|cT<|gS rfl rfl<|sV (rI 27)<|sN ?_
  refine qR ?_
  cases oI h
  exact qG
 refine sM rfl<|sV (.ptr 16 19)<|sL rfl<|sV (rB (decide (a0.br < (0 : Int))))<|sF h (fun h => ?_) fun h => ?_
 ·refine sM rfl<|k3<|sT<|sN<|cT<|gS rfl rfl<|sV (rI 27)<|sN<|qR ?_
  cases oI h
  exact qG
 refine sM rfl<|sV (.ptr 16 19)<|sL rfl<|sV (rB (decide (a0.br > (1099511627776 : Int))))<|sF h (fun h => ?_) fun h => ?_
 ·refine sN<|cT<|gS rfl rfl<|sV (rI 27)<|sN<|qR ?_
  cases oI h
  exact qG
 refine sN<|cF<|qK<|gS rfl rfl<|sV (r0)<|sN<|qR ?_
 cases oI h
 exact qG
theorem solution_used_ev {a0 : aG} {a1 : ae} {a2 : aa} {r : ak × ai × Bool} (h : nD a0 a1 a2 = some r) : EvP prog av ext 144 [.d (aG.pd a0), .d (ae.pd a1), .d (aa.pd a2)] [] (.tup [.d (ak.pd r.1), .d (ai.pd r.2.1), rB r.2.2], []) := by
 refine Ev.body rfl Tryz.func144 rfl (by kernel_rfl)<|gS rfl rfl<|sB (.ptr 48 0) 48 (.var (aG.rc a0))<|sB (.ptr 64 0) 64 (.var [.d (.lst (a1.aq.map ac.pd))])<|sB (.ptr 80 0) 80 (.var (aa.rc a2))<|sB (.ptr 96 0) 96 (.var [r0, r0, r0, r0, r0, r0])<|sB (.ptr 112 0) 112 (.var zZ2)<|sU<|sN<|qS<|gS rfl rfl<|sV (.d (aa.pd a2))<|bE h fun x1 hx1 h => cD (mQ hx1)<|sF h (fun h => ?_) fun h => ?_
 ·refine sN<|cT<|gS rfl rfl<|sG (.d (ak.pd (ak.mk (ap.mk 0 0 0) 0 0 0)))<|sG (.agg zZ2)<|sH 96 (.var [r0, r0, r0, r0, r0, r0])<|sH 112 (.var zZ2)<|sU<|sN<|qR ?_
  cases oI h
  exact qG
 refine sN<|cF<|qK<|gS rfl rfl<|sV (.d (ae.pd a1))<|sV (.ptr 80 0)<|sV (.d (ag.pd a2.al))<|sV (.ptr 80 4)<|sL rfl<|bE h fun x3 hx3 h => cR (.tup [.d (ai.pd x3.1), rI x3.2]) [] (rG hx3)<|sM rfl<|sV (.d (ai.pd x3.1))<|sV (rI x3.2)<|sB (.ptr 144 0) 144 (.var zZ2) ?_
 refine sH 144 (.var (ai.rc x3.1))<|sA rfl<|sN<|qS<|gS rfl rfl<|sM rfl<|sF h (fun h => ?_) fun h => ?_
 ·refine sN<|cT<|gS rfl rfl<|sG (.d (ak.pd (ak.mk (ap.mk 0 0 0) 0 0 0)))<|sG (.agg zZ2)<|sH 96 (.var [r0, r0, r0, r0, r0, r0])<|sH 112 (.var zZ2)<|sU<|sN<|qR ?_
  cases oI h
  exact qG
 refine sN<|cF<|qK<|gS rfl rfl<|sV (.ptr 144 4)<|sV (.d (ap.pd x3.1.aF))<|sV (.ptr 80 5)<|sL rfl<|sV (.ptr 80 6)<|sL rfl<|sG (.d (ak.pd (ak.mk x3.1.aF a2.aH a2.aY 1)))<|sB (.ptr 176 0) 176 (.var [r0, r0, r0, r0, r0, r0])<|sH 176 (.var [rI x3.1.aF.fX, rI x3.1.aF.fY, rI x3.1.aF.fZ, rI a2.aH, rI a2.aY, rI 1])<|sN<|qS ?_
 refine gS rfl rfl<|sV (.ptr 48 0)<|sV (.ptr 48 6)<|sV (.d (aK.pd a0.au.bv))<|sV (.ptr 48 0)<|sV (.ptr 48 0)<|sV (.d (aL.pd a0.au.aS))<|sV (.d (ak.pd (ak.mk x3.1.aF a2.aH a2.aY 1)))<|bE h fun x5 hx5 h => cR (.tup [.d (bG.pd x5.1), rI x5.2]) [] (xV hx5)<|sM rfl<|sV (.d (bG.pd x5.1))<|sV (rI x5.2)<|sB (.ptr 192 0) 192 (.var [r0, r0])<|sS 192 (.var [rI x5.1.aM, rI x5.1.fTo]) ?_
 refine sA rfl<|sN<|gS rfl rfl<|sM rfl<|sF h (fun h => ?_) fun h => ?_
 ·refine sN<|cT<|gS rfl rfl<|sG (.d (ak.pd (ak.mk (ap.mk 0 0 0) 0 0 0)))<|sG (.agg zZ2)<|sH 96 (.var [r0, r0, r0, r0, r0, r0])<|sH 112 (.var zZ2)<|sU<|sN<|qR ?_
  cases oI h
  exact qG
 refine sN<|cF<|qK<|WC.regionDSeq rfl rfl<|sV (.d (ak.pd (ak.mk x3.1.aF a2.aH a2.aY 1)))<|sV (.d (.agg [.int .i64 x3.1.aM, .int .i64 x3.1.fTo, .int .i64 x3.1.bP.aX, .int .i64 x3.1.bP.aP, .int .i64 x3.1.aF.fX, .int .i64 x3.1.aF.fY, .int .i64 x3.1.aF.fZ, .lst (x3.1.aW.aO.map ar.pd)]))<|sH 96 (.var [rI x3.1.aF.fX, rI x3.1.aF.fY, rI x3.1.aF.fZ, rI a2.aH, rI a2.aY, rI 1])<|sH 112 (.var (ai.rc x3.1))<|sT ?_
 refine sN<|sO<|qR ?_
 cases oI h
 exact qG
theorem yD {a0 : aG} {a1 : ae} {a2 : aa} {r : ak × Bool} (h : jg a0 a1 a2 = some r) : EvP prog av ext 116 [.d (aG.pd a0), .d (ae.pd a1), .d (aa.pd a2)] [] (.tup [.d (ak.pd r.1), rB r.2], []) := by
 refine Ev.body rfl Tryz.func116 rfl (by kernel_rfl)<|gS rfl rfl<|sB (.ptr 48 0) 48 (.var (aG.rc a0))<|sB (.ptr 64 0) 64 (.var [.d (.lst (a1.aq.map ac.pd))])<|sB (.ptr 80 0) 80 (.var (aa.rc a2))<|sB (.ptr 96 0) 96 (.var [r0, r0, r0, r0, r0, r0])<|sU<|sN<|qS<|gS rfl rfl<|sV (.d (aG.pd a0))<|bE h fun x1 hx1 h => cD (rq hx1)<|sF h (fun h => ?_) fun h => ?_
 ·refine sM rfl<|k3<|sT<|sN<|cT<|gS rfl rfl<|sG (.d (ak.pd (ak.mk (ap.mk 0 0 0) 0 0 0)))<|sH 96 (.var [r0, r0, r0, r0, r0, r0])<|sU<|sN<|qR ?_
  cases oI h
  exact qG
 refine sM rfl<|sV (.d (ae.pd a1))<|bE h fun x3 hx3 h => cD (ex hx3)<|sV (rB (!x3))<|sF h (fun h => ?_) fun h => ?_
 ·refine sN<|cT<|gS rfl rfl<|sG (.d (ak.pd (ak.mk (ap.mk 0 0 0) 0 0 0)))<|sH 96 (.var [r0, r0, r0, r0, r0, r0])<|sU<|sN<|qR ?_
  cases oI h
  exact qG
 refine sN<|cF<|qK<|gS rfl rfl<|sV (.d (aG.pd a0))<|sV (.d (ae.pd a1))<|sV (.d (aa.pd a2))<|bE h fun x5 hx5 h => cR (.tup [.d (ak.pd x5.1), .d (ai.pd x5.2.1), rB x5.2.2]) [] (solution_used_ev hx5)<|sM rfl<|sV (.d (ak.pd x5.1))<|sV (.d (ai.pd x5.2.1))<|sV (rB x5.2.2)<|sB (.ptr 128 0) 128 (.var [r0, r0, r0, r0, r0, r0])<|sB (.ptr 144 0) 144 (.var zZ2) ?_
 refine sH 128 (.var (ak.rc x5.1))<|sH 144 (.var (ai.rc x5.2.1))<|sA rfl<|sN<|gS rfl rfl<|sV (.d (ak.pd x5.1))<|sM rfl<|sH 96 (.var (ak.rc x5.1))<|sA rfl<|sN<|qR ?_
 cases oI h
 exact qG
theorem event_usable_ev {a0 : aG} {a1 : ae} {a2 : (List aa)} {r : (List aa) × (List ak) × Int} (h : ss a0 a1 a2 = some r) : EvP prog av ext 70 [.d (aG.pd a0), .d (ae.pd a1), .d (.lst (a2.map aa.pd))] [] (.tup [.d (.lst (r.1.map aa.pd)), .d (.lst (r.2.1.map ak.pd)), rI r.2.2], []) := by
 refine Ev.body rfl Tryz.func70 rfl (by kernel_rfl)<|gS rfl rfl<|sB (.ptr 48 0) 48 (.var (aG.rc a0))<|sB (.ptr 64 0) 64 (.var [.d (.lst (a1.aq.map ac.pd))])<|sV .nils<|sV .nils<|sV (r0)<|sN<|qS<|qB<|gS rfl rfl<|sV (.d (aG.pd a0))<|bE h fun x1 hx1 h => cD (rq hx1)<|sF h (fun h => ?_) fun h => ?_
 ·refine sA rfl<|sN<|cT<|gS rfl rfl<|sV .nils<|sV .nils<|sV (rI 27)<|sN<|qR ?_
  cases oI h
  exact qG
 refine sA rfl<|sN<|cF<|gS rfl rfl<|sV (.d (ae.pd a1))<|bE h fun x3 hx3 h => cD (ex hx3)<|sF h (fun h => ?_) fun h => ?_
 ·refine sA rfl<|sN<|cT<|gS rfl rfl<|sV .nils<|sV .nils<|sV (rI 1)<|sN<|qR ?_
  cases oI h
  exact qG
 refine sA rfl<|sN<|cF<|qK<|gS rfl rfl<|sV .nils<|sN<|gS rfl rfl<|sV .nils<|sN<|qS<|gS rfl rfl<|sM rfl<|bE h fun x5 hx5 h => cR (.ref 384 0) [(384, .arr 0 52 (x5.map aa.pd))] (wY hx5) ?_
 refine WO.lenR rfl rfl rfl rfl rfl rfl rfl rfl rfl<|sV (r0)<|sN<|bE h fun o21 ho21 h => WC.block (WC.loop (WL.ofLoop ho21 (fun s R' B' => ghosts prog 0 (A R' B') (av.at_ 70 0 8) = some (A [(3, .ptr 48 0), (4, .ptr 64 0), (9, .ref 656 0), (10, .ref 720 0), (24, .ref 384 0), (25, rI (x5.length : Int)), (26, rI s.1)] [(48, .var (aG.rc a0)), (64, .var [.d (.lst (a1.aq.map ac.pd))]), (384, .arr 0 52 (x5.map aa.pd)), (656, .arr 0 52 (s.2.1.map aa.pd)), (720, .arr 0 128 (s.2.2.map ak.pd))])) (fun o e R' B' => e = .exit 1 ∧ ghosts prog 0 (A R' B') (av.at_ 70 0 14) = some (A [(9, .ref 656 0), (10, .ref 720 0)] [(656, .arr 0 52 (o.1.map aa.pd)), (720, .arr 0 128 (o.2.map ak.pd))])) rfl ?_ ?_))
 ·rintro ⟨s6, s7, s8⟩ R' B' q11 hI h
  refine gS rfl hI<|sF h (fun h => ?_) fun h => ?_
  ·refine sN<|qS<|cT<|qK<|qS<|qB<|gS rfl rfl<|bE h fun x14 hx14 h => WO.eltG hx14 rfl rfl rfl rfl rfl rfl rfl rfl<|bE h fun x15 hx15 h => WO.loadE hx15 rfl rfl rfl rfl rfl rfl<|sB (.ptr 192 0) 192 (.var zZ1)<|sH 192 (.var (aa.rc x15))<|sN<|gS rfl rfl ?_
   refine sV (.d (aG.pd a0))<|sV (.d (ae.pd a1))<|sV (.d (aa.pd x15))<|bE h fun x16 hx16 h => cR (.tup [.d (ak.pd x16.1), rB x16.2]) [] (yD hx16)<|sM rfl<|sV (.d (ak.pd x16.1))<|sV (rB x16.2)<|sB (.ptr 208 0) 208 (.var [r0, r0, r0, r0, r0, r0])<|sH 208 (.var (ak.rc x16.1))<|sA rfl<|sN<|gS rfl rfl<|sF h (fun h => ?_) fun h => ?_
   ·refine sN<|cT<|WC.regionD rfl rfl<|sM rfl<|sV (.d (aa.pd x15))<|sG (.d (.lst ([x15].map aa.pd)))<|bE h fun x18 hx18 h => aR hx18 (fun _ => rfl) rfl<|sM rfl<|sV (.d (ak.pd x16.1))<|sV (.d (.lst ([x16.1].map ak.pd)))<|bE h fun x19 hx19 h => aR hx19 (fun _ => rfl) rfl<|sA rfl<|sA rfl ?_
    refine sN<|sO<|WC.region rfl rfl<|sV (rI (rW (s6 + (1 : Int))))<|sM rfl<|sN ?_
    cases oI h
    exact ⟨rfl, rfl⟩
   refine sN<|cF<|qK<|WC.region rfl rfl<|sV (rI (rW (s6 + (1 : Int))))<|sM rfl<|sN ?_
   cases oI h
   exact ⟨rfl, rfl⟩
  refine sN<|qS<|cF<|qX ?_
  cases oI h
  exact ⟨nofun, rfl, rfl⟩
 intro e R' B' he hq
 obtain ⟨rfl, hI⟩ := hq
 refine qE<|qS<|gS rfl hI<|sM rfl<|WO.lenR rfl rfl rfl rfl rfl rfl rfl rfl rfl<|sF h (fun h => ?_) fun h => ?_
 ·refine sN<|cT<|gS rfl rfl<|sV .nils<|sV .nils<|sV (rI 8)<|sN<|qR ?_
  cases oI h
  exact qD
 refine sN<|cF<|qK<|gS rfl rfl<|sM rfl<|sM rfl<|sA rfl<|sA rfl<|sV (r0)<|sN<|qR ?_
 cases oI h
 exact qD
theorem xG {a0 : ap} {a1 : ap} {r : Int} (h : jK a0 a1 = some r) : EvP prog av ext 146 [.d (ap.pd a0), .d (ap.pd a1)] [] (rI r, []) := by
 refine Ev.body rfl Tryz.func146 rfl (by kernel_rfl)<|gS rfl rfl<|sB (.ptr 32 0) 32 (.var [rI a0.fX, rI a0.fY, rI a0.fZ])<|sB (.ptr 48 0) 48 (.var [rI a1.fX, rI a1.fY, rI a1.fZ])<|sV (r0)<|sN<|WC.regionDSeq rfl rfl<|sV (.ptr 32 0)<|sL rfl<|sV (.ptr 48 0)<|sL rfl<|bE h fun x1 hx1 h => cD (bM hx1)<|sV (.ptr 32 1)<|sL rfl ?_
 refine sV (.ptr 48 1)<|sL rfl<|bE h fun x2 hx2 h => cD (bM hx2)<|sV (.ptr 32 2)<|sL rfl<|sV (.ptr 48 2)<|sL rfl<|bE h fun x3 hx3 h => cD (bM hx3)<|sV (.d (.lst ([x1, x2, x3].map (PD.int .i64))))<|bE h fun x4 hx4 h => cD (qL hx4)<|sA rfl ?_
 refine sN<|sO<|qR ?_
 cases oI h
 exact qD
theorem wP {a0 : ak} {a1 : ak} {r : Int} (h : gB a0 a1 = some r) : EvP prog av ext 119 [.d (ak.pd a0), .d (ak.pd a1)] [] (rI r, []) := by
 refine Ev.body rfl Tryz.func119 rfl (by kernel_rfl)<|gS rfl rfl<|sB (.ptr 32 0) 32 (.var (ak.rc a0))<|sB (.ptr 48 0) 48 (.var (ak.rc a1))<|sV (r0)<|sN<|WC.regionDSeq rfl rfl<|sV (.ptr 32 3)<|sL rfl<|sV (.ptr 48 3)<|sL rfl<|bE h fun x1 hx1 h => cD (bM hx1)<|sV (.ptr 32 4)<|sL rfl ?_
 refine sV (.ptr 48 4)<|sL rfl<|bE h fun x2 hx2 h => cD (bM hx2)<|sV (.ptr 32 0)<|sV (.d (ap.pd a0.aA))<|sV (.ptr 48 0)<|sV (.d (ap.pd a1.aA))<|bE h fun x3 hx3 h => cD (xG hx3)<|sV (.ptr 32 5)<|sL rfl<|sV (.ptr 48 5)<|sL rfl<|bE h fun x4 hx4 h => ?_
 refine cD (bM hx4)<|sV (.d (.lst ([x1, x2, x3, x4].map (PD.int .i64))))<|bE h fun x5 hx5 h => cD (qL hx5)<|sA rfl ?_
 refine sN<|sO<|qR ?_
 cases oI h
 exact qD
theorem gz {a0 : Int} {a1 : Int} {d0 : (List ak)} {r : Int} (h : cv a0 a1 d0 = some r) : EvP prog av ext 118 [rI a0, rI a1, .ptr 0 0] [.var [.d (.lst (d0.map ak.pd))]] (rI r, [.var [.d (.lst (d0.map ak.pd))]]) := by
 refine Ev.body rfl Tryz.func118 rfl (by kernel_rfl)<|gS rfl rfl<|sV (r0)<|sN<|WC.regionDSeq rfl rfl<|sL rfl<|sM rfl<|bE h fun x1 hx1 h => eG hx1 rfl<|sV (.d (ak.pd x1))<|sL rfl<|sM rfl<|bE h fun x2 hx2 h => eG hx2 rfl<|sV (.d (ak.pd x2)) ?_
 refine bE h fun x3 hx3 h => cD (wP hx3)<|sA rfl ?_
 refine sN<|sO<|qR ?_
 cases oI h
 exact qD
theorem f0 {a0 : Int} {a1 : Int} {d0 : (List Int)} {d1 : (List ak)} {r : (List Int)} (h : bB a0 a1 d0 d1 = some r) : EvP prog av ext 187 [.ref 0 0, rI a0, rI a1, .clo 118 [.ptr 1 0]] [.arr 0 3 (d0.map (PD.int .i64)), .var [.d (.lst (d1.map ak.pd))]] (.tup [], [.arr 0 3 (r.map (PD.int .i64)), .var [.d (.lst (d1.map ak.pd))]]) := by
 refine Ev.body rfl Tryz.func187 rfl (by kernel_rfl)<|gS rfl rfl<|sM rfl<|sV (rI (rW (a0 + (1 : Int))))<|sA rfl<|sN<|bE h fun o35 ho35 h => ?_
 cases oI h
 refine WC.block (WC.loop (WL.ofLoopEnd ho35 (fun s R' B' => ghosts prog 2 (A R' B') (av.at_ 187 2 1) = some (A [(0, .ref 0 0), (1, rI a0), (2, rI a1), (3, .clo 118 [.ptr 1 0]), (8, rI s.1)] [(0, .arr 0 3 (s.2.map (PD.int .i64))), (1, .var [.d (.lst (d1.map ak.pd))])])) rfl ?_))
 rintro ⟨s1, s2⟩ R' B' q3 hI h
 refine qS<|gS rfl hI<|sM rfl<|sM rfl<|sF h (fun h => ?_) fun h => ?_
 ·refine sN<|cT<|qK<|qS<|qB<|gS rfl rfl<|sM rfl<|sA rfl<|sN<|bE h fun o32 ho32 h => WC.block (WC.loop (WL.ofLoop ho32 (fun s R' B' => ghosts prog 2 (A R' B') (av.at_ 187 2 4) = some (A [(0, .ref 0 0), (1, rI a0), (2, rI a1), (3, .clo 118 [.ptr 1 0]), (8, rI s1), (9, rI s.1)] [(0, .arr 0 3 (s.2.map (PD.int .i64))), (1, .var [.d (.lst (d1.map ak.pd))])])) (fun o e R' B' => e = .exit 2 ∧ ghosts prog 2 (A R' B') (av.at_ 187 2 2) = some (A [(0, .ref 0 0), (1, rI a0), (2, rI a1), (3, .clo 118 [.ptr 1 0]), (8, rI o.1)] [(0, .arr 0 3 (o.2.map (PD.int .i64))), (1, .var [.d (.lst (d1.map ak.pd))])])) rfl ?_ ?_))
  ·rintro ⟨s5, s6⟩ R' B' q9 hI h
   refine qS<|WC.regionDSeq hI rfl<|sM rfl<|sM rfl<|sF h (fun h => ?_) fun h => ?_
   ·refine sM rfl<|sM rfl<|sM rfl<|sM rfl<|bE h fun x12 hx12 h => WO.eltG hx12 rfl rfl rfl rfl rfl rfl rfl rfl<|bE h fun x13 hx13 h => WO.loadE hx13 rfl rfl rfl rfl rfl rfl<|sM rfl<|sM rfl<|sV (rI (rW (s5 - (1 : Int))))<|bE h fun x15 hx15 h => WO.eltG hx15 rfl rfl rfl rfl rfl rfl rfl rfl<|bE h fun x16 hx16 h => WO.loadE hx16 rfl rfl rfl rfl rfl rfl ?_
    refine bE h fun x17 hx17 h => cR (rI x17) [(1, .var [.d (.lst (d1.map ak.pd))])] (gz hx17)<|sV (rB (decide (x17 < (0 : Int))))<|sF h (fun h => ?_) fun h => ?_
    ·refine sN<|sO<|cT<|qK<|qS<|qB<|WC.regionD rfl rfl<|sM rfl<|sM rfl<|sM rfl<|sM rfl<|sV (rI (rW (s5 - (1 : Int))))<|sM rfl<|sM rfl<|sV (rI (rW (s5 - (1 : Int))))<|bE h fun x20 hx20 h => ?_
     refine WO.eltG hx20 rfl rfl rfl rfl rfl rfl rfl rfl<|bE h fun x21 hx21 h => WO.loadE hx21 rfl rfl rfl rfl rfl rfl<|sM rfl<|sM rfl<|bE h fun x23 hx23 h => WO.eltG hx23 rfl rfl rfl rfl rfl rfl rfl rfl<|bE h fun x24 hx24 h => WO.loadE hx24 rfl rfl rfl rfl rfl rfl<|bE h fun x26 hx26 h => WO.eltG hx26 rfl rfl rfl rfl rfl rfl rfl rfl<|bE h fun x27 hx27 h => WO.storeE (g := (PD.int .i64)) (sz := 1) (p := .int .i64 x21) hx27 (fun _ => rfl) (fun _ => rfl) rfl rfl rfl rfl rfl rfl rfl rfl rfl<|bE h fun x29 hx29 h => WO.eltG hx29 rfl rfl rfl rfl rfl rfl rfl rfl ?_
     refine bE h fun x30 hx30 h => WO.storeE (g := (PD.int .i64)) (sz := 1) (p := .int .i64 x24) hx30 (fun _ => rfl) (fun _ => rfl) rfl rfl rfl rfl rfl rfl rfl rfl rfl ?_
     refine sN<|sO<|WC.region rfl rfl<|sM rfl<|sV (rI (rW (s5 - (1 : Int))))<|sA rfl<|sN ?_
     cases oI h
     exact ⟨rfl, rfl⟩
    refine sN<|sO<|cF<|qX ?_
    cases oI h
    exact ⟨nofun, rfl, rfl⟩
   refine sM rfl<|k3<|k3<|k3<|k3<|sU ?_
   refine sN<|sO<|cF<|qX ?_
   cases oI h
   exact ⟨nofun, rfl, rfl⟩
  intro e R' B' he hq
  obtain ⟨rfl, hI⟩ := hq
  refine qE<|WC.region hI rfl<|sM rfl<|sV (rI (rW (o32.1 + (1 : Int))))<|sA rfl<|sN ?_
  cases oI h
  exact ⟨rfl, rfl⟩
 refine sN<|cF<|qX<|bind_elim h (fun z33 hkz33 hz => ?_)
 obtain rfl := Option.some.inj hz
 refine ⟨(fun he => by cases he), fun hz2 => ?_⟩
 subst hz2
 have h := hkz33
 refine qE ?_
 cases oI h
 exact qD
theorem ej {a0 : Int} {a1 : Int} {a2 : Int} {d0 : (List Int)} {d1 : (List ak)} {r : (List Int)} (h : bX a0 a1 a2 d0 d1 = some r) : EvP prog av ext 225 [.ref 0 0, rI a0, rI a1, rI a2, .clo 118 [.ptr 1 0]] [.arr 0 3 (d0.map (PD.int .i64)), .var [.d (.lst (d1.map ak.pd))]] (.tup [], [.arr 0 3 (r.map (PD.int .i64)), .var [.d (.lst (d1.map ak.pd))]]) := by
 refine Ev.body rfl Tryz.func225 rfl (by kernel_rfl)<|gS rfl rfl<|sV (r0)<|sN<|bE h fun o19 ho19 h => ?_
 cases oI h
 refine WC.block (WC.loop (WL.ofLoopEnd ho19 (fun s R' B' => ghosts prog 2 (A R' B') (av.at_ 225 2 1) = some (A [(0, .ref 0 0), (1, rI a0), (2, rI a1), (3, rI a2), (10, rI s.1)] [(0, .arr 0 3 (s.2.map (PD.int .i64))), (1, .var [.d (.lst (d1.map ak.pd))])])) rfl ?_))
 rintro ⟨s1, s2⟩ R' B' q3 hI h
 refine qS<|gS rfl hI<|sM rfl<|sM rfl<|sF h (fun h => ?_) fun h => ?_
 ·refine sN<|cT<|qK<|qS<|qB<|WC.regionD rfl rfl<|sM rfl<|sM rfl<|sM rfl<|sV (rI (rW (a0 + s1)))<|sM rfl<|sM rfl<|sM rfl<|sV (rI (rW (a1 + s1)))<|sM rfl ?_
  refine sM rfl<|sM rfl<|sV (rI (rW (a1 + s1)))<|bE h fun x6 hx6 h => WO.eltG hx6 rfl rfl rfl rfl rfl rfl rfl rfl<|bE h fun x7 hx7 h => WO.loadE hx7 rfl rfl rfl rfl rfl rfl<|sM rfl<|sM rfl<|sM rfl<|sV (rI (rW (a0 + s1)))<|bE h fun x9 hx9 h => WO.eltG hx9 rfl rfl rfl rfl rfl rfl rfl rfl<|bE h fun x10 hx10 h => WO.loadE hx10 rfl rfl rfl rfl rfl rfl ?_
  refine bE h fun x12 hx12 h => WO.eltG hx12 rfl rfl rfl rfl rfl rfl rfl rfl<|bE h fun x13 hx13 h => WO.storeE (g := (PD.int .i64)) (sz := 1) (p := .int .i64 x7) hx13 (fun _ => rfl) (fun _ => rfl) rfl rfl rfl rfl rfl rfl rfl rfl rfl<|bE h fun x15 hx15 h => WO.eltG hx15 rfl rfl rfl rfl rfl rfl rfl rfl<|bE h fun x16 hx16 h => WO.storeE (g := (PD.int .i64)) (sz := 1) (p := .int .i64 x10) hx16 (fun _ => rfl) (fun _ => rfl) rfl rfl rfl rfl rfl rfl rfl rfl rfl ?_
  refine sN<|sO<|WC.region rfl rfl<|sM rfl<|sV (rI (rW (s1 + (1 : Int))))<|sA rfl<|sN ?_
  cases oI h
  exact ⟨rfl, rfl⟩
 refine sN<|cF<|qX<|bind_elim h (fun z17 hkz17 hz => ?_)
 obtain rfl := Option.some.inj hz
 refine ⟨(fun he => by cases he), fun hz2 => ?_⟩
 subst hz2
 have h := hkz17
 refine qE ?_
 cases oI h
 exact qD
theorem pF {a0 : Int} {a1 : Int} {a2 : Int} {d0 : (List Int)} {d1 : (List ak)} {r : (List Int)} (h : ea a0 a1 a2 d0 d1 = some r) : EvP prog av ext 214 [.ref 0 0, rI a0, rI a1, rI a2, .clo 118 [.ptr 1 0]] [.arr 0 3 (d0.map (PD.int .i64)), .var [.d (.lst (d1.map ak.pd))]] (.tup [], [.arr 0 3 (r.map (PD.int .i64)), .var [.d (.lst (d1.map ak.pd))]]) := by
 refine Ev.body rfl Tryz.func214 rfl (by kernel_rfl)<|gS rfl rfl<|sM rfl<|sM rfl<|sV (rI (rW (a1 - a0)))<|sA rfl<|sN<|gS rfl rfl<|sM rfl<|sM rfl<|sV (rI (rW (a2 - a1)))<|sA rfl<|sN<|qS<|bE h fun o12 ho12 h => ?_
 refine WC.block (WC.loop (WL.ofLoop ho12 (fun s R' B' => ghosts prog 2 (A R' B') (av.at_ 214 2 2) = some (A [(0, .ref 0 0), (2, rI a1), (4, .clo 118 [.ptr 1 0]), (10, rI s.1), (11, rI s.2.1)] [(0, .arr 0 3 (s.2.2.map (PD.int .i64))), (1, .var [.d (.lst (d1.map ak.pd))])])) (fun o e R' B' => e = .exit 0 ∧ ghosts prog 2 (A R' B') (av.at_ 214 2 8) = some (A [(0, .ref 0 0), (2, rI a1), (4, .clo 118 [.ptr 1 0]), (10, rI o.1)] [(0, .arr 0 3 (o.2.map (PD.int .i64))), (1, .var [.d (.lst (d1.map ak.pd))])])) rfl ?_ ?_))
 ·rintro ⟨s1, s2, s3⟩ R' B' q6 hI h
  refine qS<|gS rfl hI<|sM rfl<|sM rfl<|sF h (fun h => ?_) fun h => ?_
  ·refine sN<|cT<|qK<|qB<|gS rfl rfl<|sM rfl<|sM rfl<|sF h (fun h => ?_) fun h => ?_
   ·refine sN<|cT<|gS rfl rfl<|sM rfl<|sM rfl<|sM rfl<|sV (rI (rW (a1 - s1)))<|sM rfl<|sM rfl<|sM rfl<|bE h fun x9 hx9 h => cR (.tup []) [(0, .arr 0 3 (x9.map (PD.int .i64))), (1, .var [.d (.lst (d1.map ak.pd))])] (ej hx9)<|sN<|WC.region rfl rfl<|sM rfl ?_
    refine sM rfl<|sV (rI (rW (s1 - s2)))<|sA rfl<|sN ?_
    cases oI h
    exact ⟨rfl, rfl⟩
   refine sN<|cF<|gS rfl rfl<|sM rfl<|sM rfl<|sM rfl<|sV (rI (rW (a1 - s1)))<|sM rfl<|sM rfl<|sV (rI (rW (a1 + s2)))<|sM rfl<|sV (rI (rW ((rW (a1 + s2)) - s1)))<|sM rfl<|sM rfl<|bE h fun x10 hx10 h => ?_
   refine cR (.tup []) [(0, .arr 0 3 (x10.map (PD.int .i64))), (1, .var [.d (.lst (d1.map ak.pd))])] (ej hx10)<|sN<|WC.region rfl rfl<|sM rfl<|sM rfl<|sV (rI (rW (s2 - s1)))<|sA rfl<|sN ?_
   cases oI h
   exact ⟨rfl, rfl⟩
  refine sN<|cF<|qX ?_
  cases oI h
  exact ⟨nofun, rfl, rfl⟩
 intro e R' B' he hq
 obtain ⟨rfl, hI⟩ := hq
 refine qE<|WC.region hI rfl<|sM rfl<|sM rfl<|sM rfl<|sV (rI (rW (a1 - o12.1)))<|sM rfl<|sM rfl<|sM rfl<|bE h fun x13 hx13 h => cR (.tup []) [(0, .arr 0 3 (x13.map (PD.int .i64))), (1, .var [.d (.lst (d1.map ak.pd))])] (ej hx13)<|sN ?_
 cases oI h
 exact qD
theorem ek : ∀ (nfu : Nat) {a0 : Int} {a1 : Int} {a2 : Int} {d0 : (List Int)} {d1 : (List ak)} {r : (List Int) × (List ak)} (_ : ba nfu a0 a1 a2 d0 d1 = some r), EvP prog av ext 188 [.ref 0 0, rI a0, rI a1, rI a2, .clo 118 [.ptr 1 0]] [.arr 0 3 (d0.map (PD.int .i64)), .var [.d (.lst (d1.map ak.pd))]] (.tup [], [.arr 0 3 (r.1.map (PD.int .i64)), .var [.d (.lst (r.2.map ak.pd))]])
  | 0, _, _, _, _, _,  _, h => by cases h
  | nfu + 1, a0, a1, a2, d0, d1,  r, h => by
   refine Ev.body rfl Tryz.func188 rfl (by kernel_rfl)<|qS<|gS rfl rfl<|sM rfl<|sM rfl<|sV (rI (rW (a1 - a0)))<|sF h (fun h => ?_) fun h => ?_
   ·refine sN<|cT<|gS rfl rfl<|sM rfl<|sA rfl<|sN<|gS rfl rfl<|sM rfl<|sA rfl<|sN<|qS<|bE h fun o16 ho16 h => WC.block (WC.loop (WL.ofLoop ho16 (fun s R' B' => ghosts prog 2 (A R' B') (av.at_ 188 2 3) = some (A [(0, .ref 0 0), (1, rI a0), (4, .clo 118 [.ptr 1 0]), (10, rI s.1), (11, rI s.2)] [(0, .arr 0 3 (d0.map (PD.int .i64))), (1, .var [.d (.lst (d1.map ak.pd))])])) (fun o e R' B' => e = .exit 0 ∧ ghosts prog 2 (A R' B') (av.at_ 188 2 8) = some (A [(0, .ref 0 0), (1, rI a0), (10, rI o)] [(0, .arr 0 3 (d0.map (PD.int .i64))), (1, .var [.d (.lst (d1.map ak.pd))])])) rfl ?_ ?_))
    ·rintro ⟨s2, s3⟩ R' B' q5 hI h
     refine qS<|gS rfl hI<|sM rfl<|sM rfl<|sF h (fun h => ?_) fun h => ?_
     ·refine sN<|cT<|qK<|qB<|gS rfl rfl<|sM rfl<|sM rfl<|sV (rI (rW (s2 + s3)))<|sV (.d (.int .u64 (IntKind.wrap .u64 (rW (s2 + s3)))))<|sV (.d (.int .u64 (shrI .u64 (IntKind.wrap .u64 (rW (s2 + s3))) (1 : Int))))<|sV (rI (rW (shrI .u64 (IntKind.wrap .u64 (rW (s2 + s3))) (1 : Int))))<|sA rfl<|sN<|WC.regionDSeq rfl rfl<|sM rfl ?_
      refine sM rfl<|sM rfl<|bE h fun x8 hx8 h => WO.eltG hx8 rfl rfl rfl rfl rfl rfl rfl rfl<|bE h fun x9 hx9 h => WO.loadE hx9 rfl rfl rfl rfl rfl rfl<|sM rfl<|sM rfl<|bE h fun x11 hx11 h => WO.eltG hx11 rfl rfl rfl rfl rfl rfl rfl rfl<|bE h fun x12 hx12 h => WO.loadE hx12 rfl rfl rfl rfl rfl rfl<|bE h fun x13 hx13 h => cR (rI x13) [(1, .var [.d (.lst (d1.map ak.pd))])] (gz hx13)<|sF h (fun h => ?_) fun h => ?_
      ·refine sN<|sO<|cT<|WC.region rfl rfl<|sM rfl<|sV (rI (rW ((rW (shrI .u64 (IntKind.wrap .u64 (rW (s2 + s3))) (1 : Int))) + (1 : Int))))<|sA rfl<|sN ?_
       cases oI h
       exact ⟨rfl, rfl⟩
      refine sN<|sO<|cF<|WC.region rfl rfl<|sM rfl<|sA rfl<|sN ?_
      cases oI h
      exact ⟨rfl, rfl⟩
     refine sN<|cF<|qX ?_
     cases oI h
     exact ⟨nofun, rfl, rfl⟩
    intro e R' B' he hq
    obtain ⟨rfl, hI⟩ := hq
    refine qE<|qS<|gS rfl hI<|sM rfl<|sA rfl<|sN<|bE h fun o35 ho35 h => ?_
    cases oI h
    refine WC.block (WC.loop (WL.ofLoopEnd ho35 (fun s R' B' => ghosts prog 2 (A R' B') (av.at_ 188 2 9) = some (A [(0, .ref 0 0), (10, rI o16), (13, rI s.1)] [(0, .arr 0 3 (s.2.map (PD.int .i64))), (1, .var [.d (.lst (d1.map ak.pd))])])) rfl ?_))
    rintro ⟨s17, s18⟩ R' B' q19 hI h
    refine qS<|gS rfl hI<|sM rfl<|sM rfl<|sV (rI (rW (o16 - (1 : Int))))<|sF h (fun h => ?_) fun h => ?_
    ·refine sN<|cT<|qK<|qS<|qB<|WC.regionD rfl rfl<|sM rfl<|sM rfl<|sM rfl<|sM rfl<|sV (rI (rW (s17 + (1 : Int))))<|sM rfl<|sM rfl<|sV (rI (rW (s17 + (1 : Int))))<|bE h fun x22 hx22 h => ?_
     refine WO.eltG hx22 rfl rfl rfl rfl rfl rfl rfl rfl<|bE h fun x23 hx23 h => WO.loadE hx23 rfl rfl rfl rfl rfl rfl<|sM rfl<|sM rfl<|bE h fun x25 hx25 h => WO.eltG hx25 rfl rfl rfl rfl rfl rfl rfl rfl<|bE h fun x26 hx26 h => WO.loadE hx26 rfl rfl rfl rfl rfl rfl<|bE h fun x28 hx28 h => WO.eltG hx28 rfl rfl rfl rfl rfl rfl rfl rfl<|bE h fun x29 hx29 h => WO.storeE (g := (PD.int .i64)) (sz := 1) (p := .int .i64 x23) hx29 (fun _ => rfl) (fun _ => rfl) rfl rfl rfl rfl rfl rfl rfl rfl rfl<|bE h fun x31 hx31 h => WO.eltG hx31 rfl rfl rfl rfl rfl rfl rfl rfl ?_
     refine bE h fun x32 hx32 h => WO.storeE (g := (PD.int .i64)) (sz := 1) (p := .int .i64 x26) hx32 (fun _ => rfl) (fun _ => rfl) rfl rfl rfl rfl rfl rfl rfl rfl rfl ?_
     refine sN<|sO<|WC.region rfl rfl<|sM rfl<|sV (rI (rW (s17 + (1 : Int))))<|sA rfl<|sN ?_
     cases oI h
     exact ⟨rfl, rfl⟩
    refine sN<|cF<|qX<|bind_elim h (fun z33 hkz33 hz => ?_)
    obtain rfl := Option.some.inj hz
    refine ⟨(fun he => by cases he), fun hz2 => ?_⟩
    subst hz2
    have h := hkz33
    refine qE<|qR ?_
    cases oI h
    exact qD
   refine sN<|cF<|qK<|qS<|gS rfl rfl<|sM rfl<|sM rfl<|sV (rI (rW (a2 - a1)))<|sF h (fun h => ?_) fun h => ?_
   ·refine sN<|cT<|gS rfl rfl<|sM rfl<|sA rfl<|sN<|gS rfl rfl<|sM rfl<|sA rfl<|sN<|qS<|bE h fun o51 ho51 h => WC.block (WC.loop (WL.ofLoop ho51 (fun s R' B' => ghosts prog 2 (A R' B') (av.at_ 188 2 15) = some (A [(0, .ref 0 0), (2, rI a1), (4, .clo 118 [.ptr 1 0]), (14, rI s.1), (15, rI s.2)] [(0, .arr 0 3 (d0.map (PD.int .i64))), (1, .var [.d (.lst (d1.map ak.pd))])])) (fun o e R' B' => e = .exit 4 ∧ ghosts prog 2 (A R' B') (av.at_ 188 2 20) = some (A [(0, .ref 0 0), (2, rI a1), (14, rI o)] [(0, .arr 0 3 (d0.map (PD.int .i64))), (1, .var [.d (.lst (d1.map ak.pd))])])) rfl ?_ ?_))
    ·rintro ⟨s37, s38⟩ R' B' q40 hI h
     refine qS<|gS rfl hI<|sM rfl<|sM rfl<|sF h (fun h => ?_) fun h => ?_
     ·refine sN<|cT<|qK<|qB<|gS rfl rfl<|sM rfl<|sM rfl<|sV (rI (rW (s37 + s38)))<|sV (.d (.int .u64 (IntKind.wrap .u64 (rW (s37 + s38)))))<|sV (.d (.int .u64 (shrI .u64 (IntKind.wrap .u64 (rW (s37 + s38))) (1 : Int))))<|sV (rI (rW (shrI .u64 (IntKind.wrap .u64 (rW (s37 + s38))) (1 : Int))))<|sA rfl<|sN<|WC.regionDSeq rfl rfl<|sM rfl ?_
      refine sM rfl<|sM rfl<|bE h fun x43 hx43 h => WO.eltG hx43 rfl rfl rfl rfl rfl rfl rfl rfl<|bE h fun x44 hx44 h => WO.loadE hx44 rfl rfl rfl rfl rfl rfl<|sM rfl<|sM rfl<|bE h fun x46 hx46 h => WO.eltG hx46 rfl rfl rfl rfl rfl rfl rfl rfl<|bE h fun x47 hx47 h => WO.loadE hx47 rfl rfl rfl rfl rfl rfl<|bE h fun x48 hx48 h => cR (rI x48) [(1, .var [.d (.lst (d1.map ak.pd))])] (gz hx48)<|sV (rB (decide (x48 < (0 : Int)))) ?_
      refine sF h (fun h => ?_) fun h => ?_
      ·refine sN<|sO<|cT<|WC.region rfl rfl<|sM rfl<|sV (rI (rW ((rW (shrI .u64 (IntKind.wrap .u64 (rW (s37 + s38))) (1 : Int))) + (1 : Int))))<|sA rfl<|sN ?_
       cases oI h
       exact ⟨rfl, rfl⟩
      refine sN<|sO<|cF<|WC.region rfl rfl<|sM rfl<|sA rfl<|sN ?_
      cases oI h
      exact ⟨rfl, rfl⟩
     refine sN<|cF<|qX ?_
     cases oI h
     exact ⟨nofun, rfl, rfl⟩
    intro e R' B' he hq
    obtain ⟨rfl, hI⟩ := hq
    refine qE<|qS<|gS rfl hI<|sM rfl<|sA rfl<|sN<|bE h fun o70 ho70 h => ?_
    cases oI h
    refine WC.block (WC.loop (WL.ofLoopEnd ho70 (fun s R' B' => ghosts prog 2 (A R' B') (av.at_ 188 2 21) = some (A [(0, .ref 0 0), (14, rI o51), (17, rI s.1)] [(0, .arr 0 3 (s.2.map (PD.int .i64))), (1, .var [.d (.lst (d1.map ak.pd))])])) rfl ?_))
    rintro ⟨s52, s53⟩ R' B' q54 hI h
    refine qS<|gS rfl hI<|sM rfl<|sM rfl<|sF h (fun h => ?_) fun h => ?_
    ·refine sN<|cT<|qK<|qS<|qB<|WC.regionD rfl rfl<|sM rfl<|sM rfl<|sM rfl<|sM rfl<|sV (rI (rW (s52 - (1 : Int))))<|sM rfl<|sM rfl<|sV (rI (rW (s52 - (1 : Int))))<|bE h fun x57 hx57 h => ?_
     refine WO.eltG hx57 rfl rfl rfl rfl rfl rfl rfl rfl<|bE h fun x58 hx58 h => WO.loadE hx58 rfl rfl rfl rfl rfl rfl<|sM rfl<|sM rfl<|bE h fun x60 hx60 h => WO.eltG hx60 rfl rfl rfl rfl rfl rfl rfl rfl<|bE h fun x61 hx61 h => WO.loadE hx61 rfl rfl rfl rfl rfl rfl<|bE h fun x63 hx63 h => WO.eltG hx63 rfl rfl rfl rfl rfl rfl rfl rfl<|bE h fun x64 hx64 h => WO.storeE (g := (PD.int .i64)) (sz := 1) (p := .int .i64 x58) hx64 (fun _ => rfl) (fun _ => rfl) rfl rfl rfl rfl rfl rfl rfl rfl rfl<|bE h fun x66 hx66 h => WO.eltG hx66 rfl rfl rfl rfl rfl rfl rfl rfl ?_
     refine bE h fun x67 hx67 h => WO.storeE (g := (PD.int .i64)) (sz := 1) (p := .int .i64 x61) hx67 (fun _ => rfl) (fun _ => rfl) rfl rfl rfl rfl rfl rfl rfl rfl rfl ?_
     refine sN<|sO<|WC.region rfl rfl<|sM rfl<|sV (rI (rW (s52 - (1 : Int))))<|sA rfl<|sN ?_
     cases oI h
     exact ⟨rfl, rfl⟩
    refine sN<|cF<|qX<|bind_elim h (fun z68 hkz68 hz => ?_)
    obtain rfl := Option.some.inj hz
    refine ⟨(fun he => by cases he), fun hz2 => ?_⟩
    subst hz2
    have h := hkz68
    refine qE<|qR ?_
    cases oI h
    exact qD
   refine sN<|cF<|qK<|gS rfl rfl<|sM rfl<|sM rfl<|sV (rI (rW (a0 + a2)))<|sV (.d (.int .u64 (IntKind.wrap .u64 (rW (a0 + a2)))))<|sV (.d (.int .u64 (shrI .u64 (IntKind.wrap .u64 (rW (a0 + a2))) (1 : Int))))<|sV (rI (rW (shrI .u64 (IntKind.wrap .u64 (rW (a0 + a2))) (1 : Int))))<|sA rfl<|sN<|gS rfl rfl<|sM rfl<|sM rfl ?_
   refine sV (rI (rW ((rW (shrI .u64 (IntKind.wrap .u64 (rW (a0 + a2))) (1 : Int))) + a1)))<|sA rfl<|sN<|gS rfl rfl<|sV (r0)<|sV (r0)<|sN<|WC.join (α := Int × Int) (fun x R' B' => ghosts prog 2 (A R' B') (av.at_ 188 2 32) = some (A [(0, .ref 0 0), (1, rI a0), (2, rI a1), (3, rI a2), (4, .clo 118 [.ptr 1 0]), (18, rI (rW (shrI .u64 (IntKind.wrap .u64 (rW (a0 + a2))) (1 : Int)))), (19, rI (rW ((rW (shrI .u64 (IntKind.wrap .u64 (rW (a0 + a2))) (1 : Int))) + a1))), (20, rI x.1), (21, rI x.2)] [(0, .arr 0 3 (d0.map (PD.int .i64))), (1, .var [.d (.lst (d1.map ak.pd))])])) (fun x => bq d0 a0 a2 a1 d1 (ba nfu) x.1 x.2 = some r) ?_ ?_
   ·refine gS rfl rfl<|sM rfl<|sM rfl<|sF h (fun h => ?_) fun h => ?_
    ·exact sN<|cT<|gS rfl rfl<|sM rfl<|sM rfl<|sV (rI (rW ((rW ((rW (shrI .u64 (IntKind.wrap .u64 (rW (a0 + a2))) (1 : Int))) + a1)) - a2)))<|sA rfl<|sN<|WC.region rfl rfl<|sM rfl<|sA rfl<|sN<|⟨((rW ((rW ((rW (shrI .u64 (IntKind.wrap .u64 (rW (a0 + a2))) (1 : Int))) + a1)) - a2)), (rW (shrI .u64 (IntKind.wrap .u64 (rW (a0 + a2))) (1 : Int)))), rfl, h⟩
    exact sN<|cF<|gS rfl rfl<|sM rfl<|sA rfl<|sN<|WC.region rfl rfl<|sM rfl<|sA rfl<|sN<|⟨(a0, a1), rfl, h⟩
   rintro ⟨j71, j72⟩ R' B' hI h
   refine gS rfl hI<|sM rfl<|sV (rI (rW ((rW ((rW (shrI .u64 (IntKind.wrap .u64 (rW (a0 + a2))) (1 : Int))) + a1)) - (1 : Int))))<|sA rfl<|sN<|qS<|bE h fun o87 ho87 h => WC.block (WC.loop (WL.ofLoop ho87 (fun s R' B' => ghosts prog 2 (A R' B') (av.at_ 188 2 33) = some (A [(0, .ref 0 0), (1, rI a0), (2, rI a1), (3, rI a2), (4, .clo 118 [.ptr 1 0]), (18, rI (rW (shrI .u64 (IntKind.wrap .u64 (rW (a0 + a2))) (1 : Int)))), (19, rI (rW ((rW (shrI .u64 (IntKind.wrap .u64 (rW (a0 + a2))) (1 : Int))) + a1))), (20, rI s.1), (21, rI s.2), (22, rI (rW ((rW ((rW (shrI .u64 (IntKind.wrap .u64 (rW (a0 + a2))) (1 : Int))) + a1)) - (1 : Int))))] [(0, .arr 0 3 (d0.map (PD.int .i64))), (1, .var [.d (.lst (d1.map ak.pd))])])) (fun o e R' B' => e = .exit 8 ∧ ghosts prog 2 (A R' B') (av.at_ 188 2 38) = some (A [(0, .ref 0 0), (1, rI a0), (2, rI a1), (3, rI a2), (4, .clo 118 [.ptr 1 0]), (18, rI (rW (shrI .u64 (IntKind.wrap .u64 (rW (a0 + a2))) (1 : Int)))), (19, rI (rW ((rW (shrI .u64 (IntKind.wrap .u64 (rW (a0 + a2))) (1 : Int))) + a1))), (20, rI o)] [(0, .arr 0 3 (d0.map (PD.int .i64))), (1, .var [.d (.lst (d1.map ak.pd))])])) rfl ?_ ?_))
   ·rintro ⟨s73, s74⟩ R' B' q76 hI h
    refine qS<|gS rfl hI<|sM rfl<|sM rfl<|sF h (fun h => ?_) fun h => ?_
    ·refine sN<|cT<|qK<|qB<|gS rfl rfl<|sM rfl<|sM rfl<|sV (rI (rW (s73 + s74)))<|sV (.d (.int .u64 (IntKind.wrap .u64 (rW (s73 + s74)))))<|sV (.d (.int .u64 (shrI .u64 (IntKind.wrap .u64 (rW (s73 + s74))) (1 : Int))))<|sV (rI (rW (shrI .u64 (IntKind.wrap .u64 (rW (s73 + s74))) (1 : Int))))<|sA rfl<|sN<|WC.regionDSeq rfl rfl<|sM rfl ?_
     refine sM rfl<|sM rfl<|sM rfl<|sV (rI (rW ((rW ((rW ((rW (shrI .u64 (IntKind.wrap .u64 (rW (a0 + a2))) (1 : Int))) + a1)) - (1 : Int))) - (rW (shrI .u64 (IntKind.wrap .u64 (rW (s73 + s74))) (1 : Int))))))<|bE h fun x79 hx79 h => WO.eltG hx79 rfl rfl rfl rfl rfl rfl rfl rfl<|bE h fun x80 hx80 h => WO.loadE hx80 rfl rfl rfl rfl rfl rfl<|sM rfl<|sM rfl<|bE h fun x82 hx82 h => WO.eltG hx82 rfl rfl rfl rfl rfl rfl rfl rfl<|bE h fun x83 hx83 h => WO.loadE hx83 rfl rfl rfl rfl rfl rfl<|bE h fun x84 hx84 h => ?_
     refine cR (rI x84) [(1, .var [.d (.lst (d1.map ak.pd))])] (gz hx84)<|sV (rB (decide (x84 < (0 : Int))))<|sF h (fun h => ?_) fun h => ?_
     ·refine sN<|sO<|cT<|WC.region rfl rfl<|sM rfl<|sV (rI (rW ((rW (shrI .u64 (IntKind.wrap .u64 (rW (s73 + s74))) (1 : Int))) + (1 : Int))))<|sA rfl<|sN ?_
      cases oI h
      exact ⟨rfl, rfl⟩
     refine sN<|sO<|cF<|WC.region rfl rfl<|sM rfl<|sA rfl<|sN ?_
     cases oI h
     exact ⟨rfl, rfl⟩
    refine sN<|cF<|qX ?_
    cases oI h
    exact ⟨nofun, rfl, rfl⟩
   intro e R' B' he hq
   obtain ⟨rfl, hI⟩ := hq
   refine qE<|gS rfl hI<|sM rfl<|sM rfl<|sV (rI (rW ((rW ((rW (shrI .u64 (IntKind.wrap .u64 (rW (a0 + a2))) (1 : Int))) + a1)) - o87)))<|sA rfl<|sN<|WC.join (α := (List Int)) (fun x R' B' => ghosts prog 2 (A R' B') (av.at_ 188 2 41) = some (A [(0, .ref 0 0), (1, rI a0), (3, rI a2), (4, .clo 118 [.ptr 1 0]), (18, rI (rW (shrI .u64 (IntKind.wrap .u64 (rW (a0 + a2))) (1 : Int)))), (20, rI o87), (24, rI (rW ((rW ((rW (shrI .u64 (IntKind.wrap .u64 (rW (a0 + a2))) (1 : Int))) + a1)) - o87)))] [(0, .arr 0 3 (x.map (PD.int .i64))), (1, .var [.d (.lst (d1.map ak.pd))])])) (fun x => bn a0 o87 a2 (ba nfu) d1 a1 x = some r) ?_ ?_
   ·refine gS rfl rfl<|sM rfl<|sM rfl<|sF h (fun h => ?_) fun h => ?_
    ·refine sM rfl<|sM rfl<|sM rfl<|sV (rB (decide (a1 < (rW ((rW ((rW (shrI .u64 (IntKind.wrap .u64 (rW (a0 + a2))) (1 : Int))) + a1)) - o87)))))<|sF h (fun h => ?_) fun h => ?_
     ·exact sN<|cT<|WC.region rfl rfl<|sM rfl<|sM rfl<|sM rfl<|sM rfl<|sM rfl<|bE h fun x101 hx101 h => cR (.tup []) [(0, .arr 0 3 (x101.map (PD.int .i64))), (1, .var [.d (.lst (d1.map ak.pd))])] (pF hx101)<|sN<|⟨x101, rfl, h⟩
     exact sN<|cF<|qK<|⟨d0, rfl, h⟩
    exact sM rfl<|k3<|sU<|sN<|cF<|qK<|⟨d0, rfl, h⟩
   rintro j88 R' B' hI h
   refine WC.join (α := (List Int) × (List ak)) (fun x R' B' => ghosts prog 2 (A R' B') (av.at_ 188 2 43) = some (A [(0, .ref 0 0), (3, rI a2), (4, .clo 118 [.ptr 1 0]), (18, rI (rW (shrI .u64 (IntKind.wrap .u64 (rW (a0 + a2))) (1 : Int)))), (24, rI (rW ((rW ((rW (shrI .u64 (IntKind.wrap .u64 (rW (a0 + a2))) (1 : Int))) + a1)) - o87)))] [(0, .arr 0 3 (x.1.map (PD.int .i64))), (1, .var [.d (.lst (x.2.map ak.pd))])])) (fun x => bj a0 a2 a1 o87 (ba nfu) x.1 x.2 = some r) ?_ ?_
   ·refine gS rfl hI<|sM rfl<|sM rfl<|sF h (fun h => ?_) fun h => ?_
    ·refine sM rfl<|sM rfl<|sM rfl<|sV (rB (decide (o87 < (rW (shrI .u64 (IntKind.wrap .u64 (rW (a0 + a2))) (1 : Int))))))<|sF h (fun h => ?_) fun h => ?_
     ·exact sN<|cT<|WC.region rfl rfl<|sM rfl<|sM rfl<|sM rfl<|sM rfl<|sM rfl<|bE h fun x97 hx97 h => cR (.tup []) [(0, .arr 0 3 (x97.1.map (PD.int .i64))), (1, .var [.d (.lst (x97.2.map ak.pd))])] (ek nfu hx97)<|sN<|⟨(x97.1, x97.2), rfl, h⟩
     exact sN<|cF<|qK<|⟨(j88, d1), rfl, h⟩
    exact sM rfl<|k3<|sU<|sN<|cF<|qK<|⟨(j88, d1), rfl, h⟩
   rintro ⟨j89, j90⟩ R' B' hI h
   refine gS rfl hI<|sM rfl<|sM rfl<|sF h (fun h => ?_) fun h => ?_
   ·refine sM rfl<|sM rfl<|sM rfl<|sV (rB (decide ((rW ((rW ((rW (shrI .u64 (IntKind.wrap .u64 (rW (a0 + a2))) (1 : Int))) + a1)) - o87)) < a2)))<|sF h (fun h => ?_) fun h => ?_
    ·refine sN<|cT<|WC.region rfl rfl<|sM rfl<|sM rfl<|sM rfl<|sM rfl<|sM rfl<|bE h fun x93 hx93 h => cR (.tup []) [(0, .arr 0 3 (x93.1.map (PD.int .i64))), (1, .var [.d (.lst (x93.2.map ak.pd))])] (ek nfu hx93)<|sN ?_
     cases oI h
     exact qD
    refine sN<|cF<|qK ?_
    cases oI h
    exact qD
   refine sM rfl<|k3<|sU<|sN<|cF<|qK ?_
   cases oI h
   exact qD
theorem iF {a0 : Int} {a1 : Int} {a2 : Int} {d0 : (List Int)} {d1 : (List ak)} {r : (List Int) × (List ak)} (h : di a0 a1 a2 d0 d1 = some r) : EvP prog av ext 188 [.ref 0 0, rI a0, rI a1, rI a2, .clo 118 [.ptr 1 0]] [.arr 0 3 (d0.map (PD.int .i64)), .var [.d (.lst (d1.map ak.pd))]] (.tup [], [.arr 0 3 (r.1.map (PD.int .i64)), .var [.d (.lst (r.2.map ak.pd))]]) :=
  let ⟨n, hn⟩ := recO_some h; ek n hn
theorem pH {a0 : Int} {d0 : (List Int)} {d1 : (List ak)} {r : (List Int) × (List ak)} (h : cQ a0 d0 d1 = some r) : EvP prog av ext 145 [.ref 0 0, rI a0, .clo 118 [.ptr 1 0]] [.arr 0 3 (d0.map (PD.int .i64)), .var [.d (.lst (d1.map ak.pd))]] (.tup [], [.arr 0 3 (r.1.map (PD.int .i64)), .var [.d (.lst (r.2.map ak.pd))]]) := by
 refine Ev.body rfl Tryz.func145 rfl (by kernel_rfl)<|gS rfl rfl<|sV (rI 20)<|sN<|gS rfl rfl<|sM rfl<|sV (r0)<|sA rfl<|sN<|qS<|bE h fun o10 ho10 h => WC.block (WC.loop (WL.ofLoop ho10 (fun s R' B' => ghosts prog 2 (A R' B') (av.at_ 145 2 2) = some (A [(0, .ref 0 0), (1, rI a0), (2, .clo 118 [.ptr 1 0]), (6, rI 20), (7, rI s.1), (8, rI s.2.1)] [(0, .arr 0 3 (s.2.2.map (PD.int .i64))), (1, .var [.d (.lst (d1.map ak.pd))])])) (fun o e R' B' => e = .exit 0 ∧ ghosts prog 2 (A R' B') (av.at_ 145 2 6) = some (A [(0, .ref 0 0), (1, rI a0), (2, .clo 118 [.ptr 1 0]), (6, rI 20), (7, rI o.1)] [(0, .arr 0 3 (o.2.map (PD.int .i64))), (1, .var [.d (.lst (d1.map ak.pd))])])) rfl ?_ ?_))
 ·rintro ⟨s1, s2, s3⟩ R' B' q6 hI h
  refine qS<|gS rfl hI<|sM rfl<|sM rfl<|sF h (fun h => ?_) fun h => ?_
  ·refine sN<|cT<|qK<|qB<|gS rfl rfl<|sM rfl<|sM rfl<|sM rfl<|sM rfl<|bE h fun x8 hx8 h => cR (.tup []) [(0, .arr 0 3 (x8.map (PD.int .i64))), (1, .var [.d (.lst (d1.map ak.pd))])] (f0 hx8)<|sN<|gS rfl rfl<|sM rfl<|sA rfl ?_
   refine sN<|WC.region rfl rfl<|sM rfl<|sM rfl<|sV (rI (rW (s2 + (20 : Int))))<|sA rfl<|sN ?_
   cases oI h
   exact ⟨rfl, rfl⟩
  refine sN<|cF<|qX ?_
  cases oI h
  exact ⟨nofun, rfl, rfl⟩
 intro e R' B' he hq
 obtain ⟨rfl, hI⟩ := hq
 refine qE<|gS rfl hI<|sM rfl<|sM rfl<|sM rfl<|sM rfl<|bE h fun x11 hx11 h => cR (.tup []) [(0, .arr 0 3 (x11.map (PD.int .i64))), (1, .var [.d (.lst (d1.map ak.pd))])] (f0 hx11)<|sN<|bE h fun o34 ho34 h => ?_
 cases oI h
 refine WC.block (WC.loop (WL.ofLoopEnd ho34 (fun s R' B' => ghosts prog 2 (A R' B') (av.at_ 145 2 7) = some (A [(0, .ref 0 0), (1, rI a0), (2, .clo 118 [.ptr 1 0]), (6, rI s.1)] [(0, .arr 0 3 (s.2.1.map (PD.int .i64))), (1, .var [.d (.lst (s.2.2.map ak.pd))])])) rfl ?_))
 rintro ⟨s12, s13, s14⟩ R' B' q15 hI h
 refine qS<|gS rfl hI<|sM rfl<|sM rfl<|sF h (fun h => ?_) fun h => ?_
 ·refine sN<|cT<|qK<|qB<|gS rfl rfl<|sM rfl<|sV (rI (rW ((2 : Int) * s12)))<|sV (r0)<|sA rfl<|sN<|qS<|bE h fun o29 ho29 h => WC.block (WC.loop (WL.ofLoop ho29 (fun s R' B' => ghosts prog 2 (A R' B') (av.at_ 145 2 9) = some (A [(0, .ref 0 0), (1, rI a0), (2, .clo 118 [.ptr 1 0]), (6, rI s12), (7, rI s.1), (8, rI s.2.1)] [(0, .arr 0 3 (s.2.2.1.map (PD.int .i64))), (1, .var [.d (.lst (s.2.2.2.map ak.pd))])])) (fun o e R' B' => e = .exit 4 ∧ ghosts prog 2 (A R' B') (av.at_ 145 2 13) = some (A [(0, .ref 0 0), (1, rI a0), (2, .clo 118 [.ptr 1 0]), (6, rI o.1), (7, rI o.2.1)] [(0, .arr 0 3 (o.2.2.1.map (PD.int .i64))), (1, .var [.d (.lst (o.2.2.2.map ak.pd))])])) rfl ?_ ?_))
  ·rintro ⟨s17, s18, s19, s20⟩ R' B' q25 hI h
   refine qS<|gS rfl hI<|sM rfl<|sM rfl<|sF h (fun h => ?_) fun h => ?_
   ·refine sN<|cT<|qK<|qB<|gS rfl rfl<|sM rfl<|sM rfl<|sM rfl<|sM rfl<|sV (rI (rW (s17 + s12)))<|sM rfl<|sM rfl<|bE h fun x27 hx27 h => cR (.tup []) [(0, .arr 0 3 (x27.1.map (PD.int .i64))), (1, .var [.d (.lst (x27.2.map ak.pd))])] (iF hx27)<|sN ?_
    refine gS rfl rfl<|sM rfl<|sA rfl<|sN<|WC.region rfl rfl<|sM rfl<|sM rfl<|sV (rI (rW ((2 : Int) * s12)))<|sV (rI (rW (s18 + (rW ((2 : Int) * s12)))))<|sA rfl<|sN ?_
    cases oI h
    exact ⟨rfl, rfl⟩
   refine sN<|cF<|qX ?_
   cases oI h
   exact ⟨nofun, rfl, rfl⟩
  intro e R' B' he hq
  obtain ⟨rfl, hI⟩ := hq
  refine qE<|qS<|gS rfl hI<|sM rfl<|sM rfl<|sV (rI (rW (o29.2.1 + o29.1)))<|sA rfl<|sN<|gS rfl rfl<|sM rfl<|sM rfl<|sF h (fun h => ?_) fun h => ?_
  ·refine sN<|cT<|WC.region rfl rfl<|sM rfl<|sM rfl<|sM rfl<|sM rfl<|sM rfl<|bE h fun x31 hx31 h => cR (.tup []) [(0, .arr 0 3 (x31.1.map (PD.int .i64))), (1, .var [.d (.lst (x31.2.map ak.pd))])] (iF hx31)<|sN<|WC.region rfl rfl<|sM rfl<|sV (rI (rW (o29.1 * (2 : Int))))<|sA rfl ?_
   refine sN ?_
   cases oI h
   exact ⟨rfl, rfl⟩
  refine sN<|cF<|qK<|WC.region rfl rfl<|sM rfl<|sV (rI (rW (o29.1 * (2 : Int))))<|sA rfl<|sN ?_
  cases oI h
  exact ⟨rfl, rfl⟩
 refine sN<|cF<|qX<|bind_elim h (fun z32 hkz32 hz => ?_)
 obtain rfl := Option.some.inj hz
 refine ⟨(fun he => by cases he), fun hz2 => ?_⟩
 subst hz2
 have h := hkz32
 refine qE ?_
 cases oI h
 exact qD
theorem oC {d0 : (List Int)} {d1 : (List ak)} {r : (List Int) × (List ak)} (h : cg d0 d1 = some r) : EvP prog av ext 117 [.ref 0 0, .clo 118 [.ptr 1 0]] [.arr 0 3 (d0.map (PD.int .i64)), .var [.d (.lst (d1.map ak.pd))]] (.tup [], [.arr 0 3 (r.1.map (PD.int .i64)), .var [.d (.lst (r.2.map ak.pd))]]) := by
 refine Ev.body rfl Tryz.func117 rfl (by kernel_rfl)<|WC.region rfl rfl<|sM rfl<|sM rfl<|WO.lenR rfl rfl rfl rfl rfl rfl rfl rfl rfl<|sM rfl<|bE h fun x1 hx1 h => cR (.tup []) [(0, .arr 0 3 (x1.1.map (PD.int .i64))), (1, .var [.d (.lst (x1.2.map ak.pd))])] (pH hx1)<|sN ?_
 cases oI h
 exact qD
theorem yf {a0 : (List ak)} {r : (List Int)} (h : jc a0 = some r) : EvP prog av ext 71 [.d (.lst (a0.map ak.pd))] [] (.d (.lst (r.map (PD.int .i64))), []) := by
 refine Ev.body rfl Tryz.func71 rfl (by kernel_rfl)<|gS rfl rfl<|sB (.ptr 16 0) 16 (.var [.d (.lst (a0.map ak.pd))])<|sV .nils<|sN<|gS rfl rfl<|sL rfl<|sE (rI (a0.length : Int)) (lenMap _ _)<|bE h fun x1 hx1 h => WO.mkS (g := (PD.int .i64)) hx1 rfl rfl rfl rfl rfl rfl rfl rfl rfl rfl rfl<|sA rfl<|sN<|qS<|gS rfl rfl<|sM rfl ?_
 refine WO.lenR rfl rfl rfl rfl rfl rfl rfl rfl rfl<|sV (r0)<|sN<|bE h fun o11 ho11 h => WC.block (WC.loop (WL.ofLoop ho11 (fun s R' B' => ghosts prog 0 (A R' B') (av.at_ 71 0 3) = some (A [(1, .ptr 16 0), (3, .ref 112 0), (9, rI (x1.length : Int)), (10, rI s.1)] [(16, .var [.d (.lst (a0.map ak.pd))]), (112, .arr 0 3 (s.2.map (PD.int .i64)))])) (fun o e R' B' => e = .exit 0 ∧ ghosts prog 0 (A R' B') (av.at_ 71 0 7) = some (A [(1, .ptr 16 0), (3, .ref 112 0)] [(16, .var [.d (.lst (a0.map ak.pd))]), (112, .arr 0 3 (o.map (PD.int .i64)))])) rfl ?_ ?_))
 ·rintro ⟨s2, s3⟩ R' B' q5 hI h
  refine gS rfl hI<|sF h (fun h => ?_) fun h => ?_
  ·refine sN<|qS<|cT<|qK<|qS<|qB<|gS rfl rfl<|sM rfl<|sA rfl<|sN<|WC.region rfl rfl<|sM rfl<|sM rfl<|sM rfl<|bE h fun x8 hx8 h => ?_
   refine WO.eltG hx8 rfl rfl rfl rfl rfl rfl rfl rfl<|bE h fun x9 hx9 h => WO.storeE (g := (PD.int .i64)) (sz := 1) (p := .int .i64 s2) hx9 (fun _ => rfl) (fun _ => rfl) rfl rfl rfl rfl rfl rfl rfl rfl rfl<|sN<|WC.region rfl rfl<|sV (rI (rW (s2 + (1 : Int))))<|sM rfl<|sN ?_
   cases oI h
   exact ⟨rfl, rfl⟩
  refine sN<|qS<|cF<|qX ?_
  cases oI h
  exact ⟨nofun, rfl, rfl⟩
 intro e R' B' he hq
 obtain ⟨rfl, hI⟩ := hq
 refine qE<|gS rfl hI<|sM rfl<|sV (.clo 118 [.ptr 16 0])<|bE h fun x12 hx12 h => cR (.tup []) [(112, .arr 0 3 (x12.1.map (PD.int .i64))), (16, .var [.d (.lst (x12.2.map ak.pd))])] (oC hx12)<|sN<|gS rfl rfl<|sM rfl<|sA rfl<|sN<|qR ?_
 cases oI h
 exact qD
end Go.Dw.De
