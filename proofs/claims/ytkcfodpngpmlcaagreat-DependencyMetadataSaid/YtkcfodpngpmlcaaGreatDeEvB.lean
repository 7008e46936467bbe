
import Derived.Test.YtkcfodpngpmlcaaGreatDeEvA

set_option maxRecDepth 100000
set_option maxHeartbeats 4000000
namespace Go.Dw.De
open Go.Proofs Go.Proofs.Tryz Go.Dw
theorem pQ {a1 : ae} {d0 : ah} {r : ae × ah} (h : ia a1 d0 = some r) : EvP prog au ext 19 [.ptr 0 0, .d (ae.pd a1)] [.var [.d (.lst (d0.fL.map (PD.int .i64))), rI d0.fAt]] (.d (ae.pd r.1), [.var [.d (.lst (r.2.fL.map (PD.int .i64))), rI r.2.fAt]]) := by
 refine Ev.body rfl Tryz.func19 rfl (by kernel_rfl)<|gS rfl rfl<|sB (.ptr 48 0) 48 (.var [.d (.lst (a1.ap.map ac.pd))])<|sB (.ptr 64 0) 64 (.var [.nils])<|sN<|gS rfl rfl<|sB (.ptr 80 0) 80 (.var [.nils])<|sN<|qS<|gS rfl rfl<|sV (.ptr 48 0)<|sL rfl<|sE (rI (a1.ap.length : Int)) (lenMap _ _)<|sV (r0)<|sN ?_
 refine bE h fun o53 ho53 h => WC.block (WC.loop (WL.ofLoop ho53 (fun s R' B' => ghosts prog 1 (A R' B') (au.at_ 19 1 3) = some (A [(0, .ptr 0 0), (4, .ptr 64 0), (5, .ptr 80 0), (10, .d (.lst (a1.ap.map ac.pd))), (11, rI (a1.ap.length : Int)), (12, rI s.1)] [(0, .var [.d (.lst (s.2.1.map (PD.int .i64))), rI s.2.2.1]), (64, .var [.nils]), (80, .var [.ref 1536 0]), (1536, .arr 0 99 (s.2.2.2.map ac.pd))])) (fun o e R' B' => e = .exit 0 ∧ ghosts prog 1 (A R' B') (au.at_ 19 1 20) = some (A [(4, .ptr 64 0), (5, .ptr 80 0)] [(0, .var [.d (.lst (o.1.map (PD.int .i64))), rI o.2.1]), (64, .var [.nils]), (80, .var [.ref 1536 0]), (1536, .arr 0 99 (o.2.2.map ac.pd))])) rfl ?_ ?_))
 ·rintro ⟨s1, s2, s3, s4⟩ R' B' q8 hI h
  refine gS rfl hI<|sF h (fun h => ?_) fun h => ?_
  ·refine sN<|qS<|cT<|qK<|qS<|qB<|gS rfl rfl<|bE h fun x10 hx10 h => eG hx10 rfl<|sV (.d (ac.pd x10))<|sB (.ptr 112 0) 112 (.var zZ3)<|sS 112 (.var (ac.rc x10))<|sN<|gS rfl rfl<|sB (.ref 256 0) 256 (.arr 0 96 (([] : List ai).map ai.pd)) ?_
   refine sV (.ptr 112 4)<|sL rfl<|bE h fun x11 hx11 h => aR hx11 (fun _ => rfl) rfl<|sV (.ptr 112 4)<|sS 112 (.var [rS x10.ak.aB, rS x10.ak.aA, rS x10.ak.aw, rS x10.ak.aC, .ref 256 1])<|sN<|gS rfl rfl<|sM rfl<|sV (.ptr 112 4)<|sL rfl<|WO.lenR rfl rfl rfl rfl rfl rfl rfl rfl rfl<|bE h fun x12 hx12 h => cR (rI x12.1) [(0, .var [.d (.lst (x12.2.fL.map (PD.int .i64))), rI x12.2.fAt])] (bt hx12)<|sA rfl ?_
   refine sN<|qS<|gS rfl rfl<|sM rfl<|bE h fun x13 hx13 h => cR (rI x13.1) [(0, .var [.d (.lst (x13.2.fL.map (PD.int .i64))), rI x13.2.fAt])] (bt hx13)<|sN<|qB<|gS rfl rfl<|sF h (fun h => ?_) fun h => ?_
   ·refine sA rfl<|sN<|cT<|WC.regionD rfl rfl<|sV (.ptr 112 4)<|sL rfl<|sM rfl<|sM rfl<|bE h fun x15 hx15 h => cR (.d (aq.pd x15.1)) [(0, .var [.d (.lst (x15.2.fL.map (PD.int .i64))), rI x15.2.fAt])] (sm hx15)<|bE h fun x17 hx17 h => WO.eltG hx17 rfl rfl rfl rfl rfl rfl rfl rfl<|sV (.elt 256 1 (x12.1).toNat 4)<|bE h fun x18 hx18 h => WO.storeF (g := ai.pd) (u := []) (sz := 3) hx18 (fun _ => rfl) (fun _ => Nat.le_of_ble_eq_true rfl) rfl rfl rfl rfl rfl rfl rfl rfl rfl rfl rfl ?_
    refine sN<|sO<|WC.region rfl rfl<|sV (.ptr 80 0)<|sL rfl<|sV (.agg [rS x10.ak.aB, rS x10.ak.aA, rS x10.ak.aw, rS x10.ak.aC, .ref 256 1])<|sB (.d (.lst [ac.pd (ac.mk x10.ak x18)])) 256 .dead<|bE h fun x20 hx20 h => aR hx20 (fun _ => rfl) rfl<|sV (.ptr 80 0)<|sS 80 (.var [.ref 1536 1])<|sN<|WC.region rfl rfl<|sV (rI (rW (s1 + (1 : Int))))<|sM rfl<|sN ?_
    cases oI h
    exact ⟨rfl, rfl⟩
   refine sA rfl<|sN<|cF<|gS rfl rfl<|sF h (fun h => ?_) fun h => ?_
   ·refine sA rfl<|sN<|cT<|WC.regionD rfl rfl<|sV (.ptr 112 4)<|sL rfl<|sM rfl<|sM rfl<|bE h fun x22 hx22 h => cR (.d (aD.pd x22.1)) [(0, .var [.d (.lst (x22.2.fL.map (PD.int .i64))), rI x22.2.fAt])] (rx hx22)<|bE h fun x24 hx24 h => WO.eltG hx24 rfl rfl rfl rfl rfl rfl rfl rfl<|sV (.elt 256 1 (x12.1).toNat 7)<|bE h fun x25 hx25 h => WO.storeF (g := ai.pd) (u := []) (sz := 1) hx25 (fun _ => rfl) (fun _ => Nat.le_of_ble_eq_true rfl) rfl rfl rfl rfl rfl rfl rfl rfl rfl rfl rfl ?_
    refine sN<|sO<|WC.region rfl rfl<|sV (.ptr 80 0)<|sL rfl<|sV (.agg [rS x10.ak.aB, rS x10.ak.aA, rS x10.ak.aw, rS x10.ak.aC, .ref 256 1])<|sB (.d (.lst [ac.pd (ac.mk x10.ak x25)])) 256 .dead<|bE h fun x27 hx27 h => aR hx27 (fun _ => rfl) rfl<|sV (.ptr 80 0)<|sS 80 (.var [.ref 1536 1])<|sN<|WC.region rfl rfl<|sV (rI (rW (s1 + (1 : Int))))<|sM rfl<|sN ?_
    cases oI h
    exact ⟨rfl, rfl⟩
   refine sA rfl<|sN<|cF<|gS rfl rfl<|sF h (fun h => ?_) fun h => ?_
   ·refine sA rfl<|sN<|cT<|WC.regionD rfl rfl<|sV (.ptr 112 4)<|sL rfl<|sV (.ptr 112 4)<|sL rfl<|WO.lenR rfl rfl rfl rfl rfl rfl rfl rfl rfl<|sV (rI (rW ((x11.length : Int) - (1 : Int))))<|sV (.ptr 112 4)<|sL rfl<|sV (.ptr 112 4)<|sL rfl<|WO.lenR rfl rfl rfl rfl rfl rfl rfl rfl rfl ?_
    refine sV (rI (rW ((x11.length : Int) - (1 : Int))))<|bE h fun x30 hx30 h => WO.eltG hx30 rfl rfl rfl rfl rfl rfl rfl rfl<|sV (.elt 256 1 ((rW ((x11.length : Int) - (1 : Int)))).toNat 0)<|bE h fun x31 hx31 h => WO.loadE hx31 rfl rfl rfl rfl rfl rfl<|sV (rI (rW (x31.aK + (1 : Int))))<|sM rfl<|bE h fun x32 hx32 h => cR (rI x32.1) [(0, .var [.d (.lst (x32.2.fL.map (PD.int .i64))), rI x32.2.fAt])] (bt hx32)<|sM rfl<|sV (.d (.lst ([1, 1000].map (PD.int .i64))))<|bE h fun x33 hx33 h => cR (rI x33.1) [(0, .var [.d (.lst (x33.2.fL.map (PD.int .i64))), rI x33.2.fAt])] (cG hx33)<|sV (rI (rW (x32.1 * x33.1))) ?_
    refine sV (rI (rW ((rW (x31.aK + (1 : Int))) + (rW (x32.1 * x33.1)))))<|bE h fun x35 hx35 h => WO.eltG hx35 rfl rfl rfl rfl rfl rfl rfl rfl<|sV (.elt 256 1 ((rW ((x11.length : Int) - (1 : Int)))).toNat 1)<|bE h fun x36 hx36 h => WO.storeF (g := ai.pd) (u := []) (sz := 1) hx36 (fun _ => rfl) (fun _ => Nat.le_of_ble_eq_true rfl) rfl rfl rfl rfl rfl rfl rfl rfl rfl rfl rfl ?_
    refine sN<|sO<|WC.region rfl rfl<|sV (.ptr 80 0)<|sL rfl<|sV (.agg [rS x10.ak.aB, rS x10.ak.aA, rS x10.ak.aw, rS x10.ak.aC, .ref 256 1])<|sB (.d (.lst [ac.pd (ac.mk x10.ak x36)])) 256 .dead<|bE h fun x38 hx38 h => aR hx38 (fun _ => rfl) rfl<|sV (.ptr 80 0)<|sS 80 (.var [.ref 1536 1])<|sN<|WC.region rfl rfl<|sV (rI (rW (s1 + (1 : Int))))<|sM rfl<|sN ?_
    cases oI h
    exact ⟨rfl, rfl⟩
   refine sA rfl<|sN<|cF<|gS rfl rfl<|sF h (fun h => ?_) fun h => ?_
   ·refine sA rfl<|sN<|cT<|qX<|⟨fun he => (by cases he), fun _ => ?_⟩
    refine qE<|WC.region rfl rfl<|sV (rI (rW (s1 + (1 : Int))))<|sM rfl<|sN ?_
    cases oI h
    exact ⟨rfl, rfl⟩
   refine sA rfl<|sN<|cF<|gS rfl rfl<|sF h (fun h => ?_) fun h => ?_
   ·refine sA rfl<|sN<|cT<|WC.regionDSeq rfl rfl<|sV (.ptr 112 4)<|sL rfl<|sM rfl<|sM rfl<|bE h fun x41 hx41 h => cR (rI x41.1) [(0, .var [.d (.lst (x41.2.fL.map (PD.int .i64))), rI x41.2.fAt])] (bt hx41)<|sV (rI (rW ((50 : Int) + x41.1)))<|bE h fun x43 hx43 h => WO.eltG hx43 rfl rfl rfl rfl rfl rfl rfl rfl<|sV (.elt 256 1 (x12.1).toNat 2)<|sV (.elt 256 1 (x12.1).toNat 2) ?_
    refine bE h fun x44 hx44 h => WO.storeF (g := ai.pd) (u := []) (sz := 1) hx44 (fun _ => rfl) (fun _ => Nat.le_of_ble_eq_true rfl) rfl rfl rfl rfl rfl rfl rfl rfl rfl rfl rfl ?_
    refine sN<|sO<|WC.region rfl rfl<|sV (.ptr 112 4)<|sL rfl<|sM rfl<|bE h fun x47 hx47 h => WO.eltG hx47 rfl rfl rfl rfl rfl rfl rfl rfl<|sV (.elt 256 1 (x12.1).toNat 2)<|sV (.elt 256 1 (x12.1).toNat 3)<|bE h fun x48 hx48 h => WO.storeF (g := ai.pd) (u := []) (sz := 1) hx48 (fun _ => rfl) (fun _ => Nat.le_of_ble_eq_true rfl) rfl rfl rfl rfl rfl rfl rfl rfl rfl rfl rfl<|sN<|WC.region rfl rfl<|sV (.ptr 80 0)<|sL rfl ?_
    refine sV (.agg [rS x10.ak.aB, rS x10.ak.aA, rS x10.ak.aw, rS x10.ak.aC, .ref 256 1])<|sB (.d (.lst [ac.pd (ac.mk x10.ak x48)])) 256 .dead<|bE h fun x50 hx50 h => aR hx50 (fun _ => rfl) rfl<|sV (.ptr 80 0)<|sS 80 (.var [.ref 1536 1])<|sN<|WC.region rfl rfl<|sV (rI (rW (s1 + (1 : Int))))<|sM rfl<|sN ?_
    cases oI h
    exact ⟨rfl, rfl⟩
   refine sA rfl<|sN<|cF<|qK<|WC.region rfl rfl<|sV (.ptr 80 0)<|sL rfl<|sV (.agg [rS x10.ak.aB, rS x10.ak.aA, rS x10.ak.aw, rS x10.ak.aC, .ref 256 1])<|sB (.d (.lst [ac.pd (ac.mk x10.ak x11)])) 256 .dead<|bE h fun x51 hx51 h => aR hx51 (fun _ => rfl) rfl<|sV (.ptr 80 0)<|sS 80 (.var [.ref 1536 1])<|sN<|WC.region rfl rfl ?_
   refine sV (rI (rW (s1 + (1 : Int))))<|sM rfl<|sN ?_
   cases oI h
   exact ⟨rfl, rfl⟩
  refine sN<|qS<|cF<|qX ?_
  cases oI h
  exact ⟨nofun, rfl, rfl⟩
 intro e R' B' he hq
 obtain ⟨rfl, hI⟩ := hq
 refine qE<|gS rfl hI<|sV (.agg [.ref 1536 0])<|sS 64 (.var [.ref 1536 0])<|sN<|qR ?_
 cases oI h
 exact qD
theorem yj {a0 : Int} {a1 : Int} {a2 : Int} {r : Bool} (h : zc a0 a1 a2 = some r) : EvP prog au ext 201 [rI a0, rI a1, rI a2] [] (rB r, []) := by
 refine Ev.body rfl Tryz.func201 rfl (by kernel_rfl)<|gS rfl rfl<|sU<|sN<|gS rfl rfl<|sM rfl<|sM rfl<|sF h (fun h => ?_) fun h => ?_
 ·refine sM rfl<|sM rfl<|sM rfl<|sV (rB (decide (a0 ≤ a2)))<|sV (rB (decide (a0 ≤ a2)))<|sA rfl<|sN<|qR ?_
  cases oI h
  exact qD
 refine sM rfl<|k3<|sU<|sA rfl<|sN<|qR ?_
 cases oI h
 exact qD
theorem rate_gcd_ev {a0 : Int} {a1 : Int} {r : Int} (h : zb a0 a1 = some r) : EvP prog au ext 202 [rI a0, rI a1] [] (rI r, []) := by
 refine Ev.body rfl Tryz.func202 rfl (by kernel_rfl)<|gS rfl rfl<|sV (r0)<|sN<|qS<|bE h fun o8 ho8 h => WC.block (WC.loop (WL.ofLoop ho8 (fun s R' B' => ghosts prog 0 (A R' B') (au.at_ 202 0 1) = some (A [(0, rI s.1), (1, rI s.2)] [])) (fun o e R' B' => e = .exit 0 ∧ ghosts prog 0 (A R' B') (au.at_ 202 0 3) = some (A [(0, rI o)] [])) rfl ?_ ?_))
 ·rintro ⟨s1, s2⟩ R' B' q4 hI h
  refine qS<|gS rfl hI<|sM rfl<|sF h (fun h => ?_) fun h => ?_
  ·refine sN<|cT<|qK<|qB<|WC.regionD rfl rfl<|sM rfl<|sM rfl<|sM rfl<|bE h fun x6 hx6 h => WO.remG hx6 rfl rfl rfl rfl rfl rfl<|sA rfl<|sA rfl ?_
   refine sN<|sO ?_
   cases oI h
   exact ⟨rfl, rfl⟩
  refine sN<|cF<|qX ?_
  cases oI h
  exact ⟨nofun, rfl, rfl⟩
 intro e R' B' he hq
 obtain ⟨rfl, hI⟩ := hq
 refine qE<|gS rfl hI<|sM rfl<|sA rfl<|sN<|qR ?_
 cases oI h
 exact qD
theorem rate_Valid_ev {a0 : aU} {r : Bool} (h : tk a0 = some r) : EvP prog au ext 176 [.d (aU.pd a0)] [] (rB r, []) := by
 refine Ev.body rfl Tryz.func176 rfl (by kernel_rfl)<|gS rfl rfl<|sB (.ptr 16 0) 16 (.var [rI a0.aW, rI a0.aQ])<|sU<|sN<|gS rfl rfl<|sV (.ptr 16 0)<|sL rfl<|bE h fun x1 hx1 h => ite_elim h (fun hb2 h => ?_) (fun hb2 h => ?_)
 ·refine WO.callR (v := rB true) (u := []) rfl rfl (fun _ => rfl) rfl rfl rfl rfl rfl (yj hx1) rfl rfl (congrArg (fun b => RV.d (.bool b)) hb2) rfl<|sM rfl<|sV (.ptr 16 1)<|sL rfl<|bE h fun x3 hx3 h => cD (yj hx3)<|sF h (fun h => ?_) fun h => ?_
  ·refine sM rfl<|sV (.ptr 16 0)<|sL rfl<|sV (.ptr 16 1)<|sL rfl<|bE h fun x5 hx5 h => cD (rate_gcd_ev hx5)<|sV (rB (x5 == (1 : Int)))<|sV (rB (x5 == (1 : Int)))<|sA rfl<|sN<|qR ?_
   cases oI h
   exact qD
  refine sM rfl<|k3<|k3<|sU<|sA rfl<|sN<|qR ?_
  cases oI h
  exact qD
 refine WO.callR (v := rB false) (u := []) rfl rfl (fun _ => rfl) rfl rfl rfl rfl rfl (yj hx1) rfl rfl (congrArg (fun b => RV.d (.bool b)) hb2) rfl<|sM rfl<|k3<|sU<|sM rfl<|k3<|k3<|sU<|sA rfl ?_
 refine sN<|qR ?_
 cases oI h
 exact qD
theorem cW {a0 : Int} {a1 : Int} {a2 : Int} {r : Bool} (h : cN a0 a1 a2 = some r) : EvP prog au ext 220 [rI a0, rI a1, rI a2] [] (rB r, []) := by
 refine Ev.body rfl Tryz.func220 rfl (by kernel_rfl)<|gS rfl rfl<|sU<|sN<|gS rfl rfl<|sM rfl<|sM rfl<|sF h (fun h => ?_) fun h => ?_
 ·refine sM rfl<|sM rfl<|sM rfl<|sV (rB (decide (a0 ≤ a2)))<|sV (rB (decide (a0 ≤ a2)))<|sA rfl<|sN<|qR ?_
  cases oI h
  exact qD
 refine sM rfl<|k3<|sU<|sA rfl<|sN<|qR ?_
 cases oI h
 exact qD
theorem pn {a0 : Int} {r : Bool} (h : gT a0 = some r) : EvP prog au ext 227 [rI a0] [] (rB r, []) := by
 refine Ev.body rfl Tryz.func227 rfl (by kernel_rfl)<|gS rfl rfl<|sU<|sN<|gS rfl rfl<|sM rfl<|bE h fun x1 hx1 h => cD (cW hx1)<|sV (rB (!x1))<|sA rfl<|sN<|qR ?_
 cases oI h
 exact qD
theorem sd {a0 : (List Int)} {r : Int} (h : dP a0 = some r) : EvP prog au ext 235 [.d (.lst (a0.map (PD.int .i64))), .d (.raw (.func (.func 227) #[] #[]))] [] (rI r, []) := by
 refine Ev.body rfl Tryz.func235 rfl (by kernel_rfl)<|gS rfl rfl<|sV (r0)<|sN<|qS<|gS rfl rfl<|sM rfl<|sE (rI (a0.length : Int)) (lenMap _ _)<|sV (r0)<|sN<|bE h fun o8 ho8 h => WC.block (WC.loop (WL.ofLoop ho8 (fun s R' B' => ghosts prog 0 (A R' B') (au.at_ 235 0 2) = some (A [(0, .d (.lst (a0.map (PD.int .i64)))), (1, .d (.raw (.func (.func 227) #[] #[]))), (7, rI (a0.length : Int)), (8, rI s)] [])) (fun o e R' B' => match o with | .inl y => e = .exit 0 ∧ ghosts prog 0 (A R' B') (au.at_ 235 0 7) = some (A [] []) | .inr r => e = .ret ∧ finish prog (au.own 235) Tryz.f235 0 (A R' B') = some (rI r, [])) rfl ?_ ?_))
 ·rintro s1 R' B' q2 hI h
  refine gS rfl hI<|sF h (fun h => ?_) fun h => ?_
  ·refine sN<|qS<|cT<|qK<|qS<|qB<|gS rfl rfl<|sM rfl<|sA rfl<|sN<|gS rfl rfl<|sM rfl<|sM rfl<|sM rfl<|bE h fun x4 hx4 h => ?_
   refine eG hx4 rfl<|sC rfl<|bE h fun x5 hx5 h => ite_elim h (fun hb6 h => ?_) (fun hb6 h => ?_)
   ·refine WO.callR (v := rB true) (u := []) rfl rfl (fun _ => rfl) rfl rfl rfl rfl rfl (pn hx5) rfl rfl (congrArg (fun b => RV.d (.bool b)) hb6) rfl<|sN<|cT<|gS rfl rfl<|sM rfl<|sA rfl<|sN<|qR ?_
    cases oI h
    exact ⟨nofun, rfl, rfl⟩
   refine WO.callR (v := rB false) (u := []) rfl rfl (fun _ => rfl) rfl rfl rfl rfl rfl (pn hx5) rfl rfl (congrArg (fun b => RV.d (.bool b)) hb6) rfl<|sN<|cF<|qK<|WC.region rfl rfl<|sV (rI (rW (s1 + (1 : Int))))<|sM rfl<|sN ?_
   cases oI h
   exact ⟨rfl, rfl⟩
  refine sN<|qS<|cF<|qX ?_
  cases oI h
  exact ⟨nofun, rfl, rfl⟩
 intro e R' B' he hq
 rcases o8 with y9 | r10
 ·obtain ⟨rfl, hI⟩ := hq
  refine qE<|gS rfl hI<|sV (rI (-1))<|sN<|qR ?_
  cases oI h
  exact qD
 obtain ⟨rfl, hf⟩ := hq
 cases oI h
 exact hf
theorem pG {a0 : (List Int)} {r : Bool} (h : cY a0 = some r) : EvP prog au ext 226 [.d (.lst (a0.map (PD.int .i64))), .d (.raw (.func (.func 227) #[] #[]))] [] (rB r, []) := by
 refine Ev.body rfl Tryz.func226 rfl (by kernel_rfl)<|gS rfl rfl<|sU<|sN<|gS rfl rfl<|sM rfl<|sM rfl<|bE h fun x1 hx1 h => cD (sd hx1)<|sV (rB (decide (x1 ≥ (0 : Int))))<|sA rfl<|sN<|qR ?_
 cases oI h
 exact qD
theorem jm {a0 : (List Int)} {r : Bool} (h : cX a0 = some r) : EvP prog au ext 221 [.d (.lst (a0.map (PD.int .i64)))] [] (rB r, []) := by
 refine Ev.body rfl Tryz.func221 rfl (by kernel_rfl)<|gS rfl rfl<|sU<|sN<|gS rfl rfl<|sM rfl<|bE h fun x1 hx1 h => cD (pG hx1)<|sV (rB (!x1))<|sA rfl<|sN<|qR ?_
 cases oI h
 exact qD
theorem sa {a0 : (List Int)} {r : Int} (h : mw a0 = some r) : EvP prog au ext 222 [.d (.lst (a0.map (PD.int .i64)))] [] (rI r, []) := by
 refine Ev.body rfl Tryz.func222 rfl (by kernel_rfl)<|gS rfl rfl<|sV (r0)<|sN<|gS rfl rfl<|sV (r0)<|sN<|qS<|gS rfl rfl<|sM rfl<|sE (rI (a0.length : Int)) (lenMap _ _)<|sV (r0)<|sN<|bE h fun o8 ho8 h => WC.block (WC.loop (WL.ofLoop ho8 (fun s R' B' => ghosts prog 0 (A R' B') (au.at_ 222 0 3) = some (A [(3, rI s.1), (6, .d (.lst (a0.map (PD.int .i64)))), (7, rI (a0.length : Int)), (8, rI s.2)] [])) (fun o e R' B' => e = .exit 0 ∧ ghosts prog 0 (A R' B') (au.at_ 222 0 7) = some (A [(3, rI o)] [])) rfl ?_ ?_))
 ·rintro ⟨s1, s2⟩ R' B' q4 hI h
  refine gS rfl hI<|sF h (fun h => ?_) fun h => ?_
  ·refine sN<|qS<|cT<|qK<|qS<|qB<|gS rfl rfl<|bE h fun x6 hx6 h => eG hx6 rfl<|sC rfl<|sA rfl<|sN<|WC.region rfl rfl<|sM rfl<|sM rfl ?_
   refine sV (rI (rW (s1 + x6)))<|sA rfl<|sN<|WC.region rfl rfl<|sV (rI (rW (s2 + (1 : Int))))<|sM rfl<|sN ?_
   cases oI h
   exact ⟨rfl, rfl⟩
  refine sN<|qS<|cF<|qX ?_
  cases oI h
  exact ⟨nofun, rfl, rfl⟩
 intro e R' B' he hq
 obtain ⟨rfl, hI⟩ := hq
 refine qE<|gS rfl hI<|sM rfl<|sA rfl<|sN<|qR ?_
 cases oI h
 exact qD
theorem vQ {a0 : ar} {r : Bool} (h : dS a0 = some r) : EvP prog au ext 205 [.d (ar.pd a0)] [] (rB r, []) := by
 refine Ev.body rfl Tryz.func205 rfl (by kernel_rfl)<|gS rfl rfl<|sB (.ptr 16 0) 16 (.var (ar.rc a0))<|sU<|sN<|gS rfl rfl<|sV (.ptr 16 7)<|sL rfl<|sE (rI (a0.br.length : Int)) (lenMap _ _)<|sF h (fun h => ?_) fun h => ?_
 ·refine sM rfl<|sV (.ptr 16 8)<|sL rfl<|sV (rB (a0.bg == (0 : Int)))<|sF h (fun h => ?_) fun h => ?_
  ·refine sM rfl<|sV (.ptr 16 9)<|sL rfl<|sV (rB (a0.bz == (0 : Int)))<|sV (rB (a0.bz == (0 : Int)))<|sA rfl<|sN<|qS<|gS rfl rfl<|sV (.ptr 16 0)<|sL rfl<|sN<|qB<|gS rfl rfl<|sF h (fun h => ?_) fun h => ?_
   ·refine sA rfl<|sN<|cT<|gS rfl rfl<|sF h (fun h => ?_) fun h => ?_
    ·refine sM rfl<|sV (.ptr 16 1)<|sV (.d (aV.pd a0.aW))<|sV (.ptr 16 1)<|sV (.ptr 16 1)<|sL rfl<|sV (.d (aV.pd (aV.mk a0.aW.a0 0 0)))<|WO.bin (fG a0.aW (aV.mk a0.aW.a0 0 0)) rfl rfl rfl rfl rfl<|sF h (fun h => ?_) fun h => ?_
     ·refine sM rfl<|sV (.ptr 16 4)<|sV (.d (aV.pd a0.aQ))<|sV (.ptr 16 4)<|sV (.ptr 16 4)<|sL rfl<|sV (.d (aV.pd (aV.mk a0.aQ.a0 0 0)))<|WO.bin (fG a0.aQ (aV.mk a0.aQ.a0 0 0)) rfl rfl rfl rfl rfl<|sF h (fun h => ?_) fun h => ?_
      ·refine sM rfl<|sV (.ptr 16 1)<|sV (.ptr 16 1)<|sL rfl<|bE h fun x7 hx7 h => cD (cW hx7)<|sF h (fun h => ?_) fun h => ?_
       ·refine sM rfl<|sV (.ptr 16 4)<|sV (.ptr 16 4)<|sL rfl<|bE h fun x9 hx9 h => cD (cW hx9)<|sV (rB x9)<|sA rfl<|sN<|qR ?_
        cases oI h
        exact qG
       refine sM rfl<|k3<|sK<|sU<|sA rfl<|sN<|qR ?_
       cases oI h
       exact qG
      refine sM rfl<|k3<|sK<|sU<|sM rfl<|k3<|sK<|sU<|sA rfl<|sN<|qR ?_
      cases oI h
      exact qG
     refine sM rfl<|k3<|k3<|sK<|sU<|sM rfl<|k3<|sK<|sU ?_
     refine sM rfl<|k3<|sK<|sU<|sA rfl<|sN<|qR ?_
     cases oI h
     exact qG
    refine sM rfl<|k3<|k3<|sK<|sU<|sM rfl<|k3<|sK<|sK ?_
    refine sK<|sK<|sU<|sM rfl<|k3<|sK<|sU<|sM rfl<|k3<|sK<|sU ?_
    refine sA rfl<|sN<|qR ?_
    cases oI h
    exact qG
   refine sA rfl<|sN<|cF<|gS rfl rfl<|sF h (fun h => ?_) fun h => ?_
   ·refine sA rfl<|sN<|cT<|WC.regionSeq (R0 := [(1, .cptr [.int .i64 a0.cb, .int .i64 a0.aW.a0, .int .i64 a0.aW.a1, .int .i64 a0.aW.a2, .int .i64 a0.aQ.a0, .int .i64 a0.aQ.a1, .int .i64 a0.aQ.a2, .lst (a0.br.map (PD.int .i64)), .int .i64 a0.bg, .int .i64 a0.bz]), (3, rB (a0.bz == (0 : Int)))]) (B0 := []) rfl rfl<|sF h (fun h => ?_) fun h => ?_
    ·refine sM rfl<|sV (.cptr [.int .i64 a0.aW.a0, .int .i64 a0.aW.a1, .int .i64 a0.aW.a2, .int .i64 a0.aQ.a0, .int .i64 a0.aQ.a1, .int .i64 a0.aQ.a2, .lst (a0.br.map (PD.int .i64)), .int .i64 a0.bg, .int .i64 a0.bz])<|sV (.d (.lst ([a0.aW.a0, a0.aW.a1, a0.aW.a2].map (PD.int .i64))))<|bE h fun x12 hx12 h => cD (jm hx12)<|sF h (fun h => ?_) fun h => ?_
     ·refine sM rfl<|sV (.cptr [.int .i64 a0.aQ.a0, .int .i64 a0.aQ.a1, .int .i64 a0.aQ.a2, .lst (a0.br.map (PD.int .i64)), .int .i64 a0.bg, .int .i64 a0.bz])<|sV (.d (.lst ([a0.aQ.a0, a0.aQ.a1, a0.aQ.a2].map (PD.int .i64))))<|bE h fun x14 hx14 h => cD (jm hx14)<|sF h (fun h => ?_) fun h => ?_
      ·refine sM rfl<|sV (.cptr [.int .i64 a0.aQ.a0, .int .i64 a0.aQ.a1, .int .i64 a0.aQ.a2, .lst (a0.br.map (PD.int .i64)), .int .i64 a0.bg, .int .i64 a0.bz])<|sV (.cptr [.int .i64 a0.aQ.a0, .int .i64 a0.aQ.a1, .int .i64 a0.aQ.a2, .lst (a0.br.map (PD.int .i64)), .int .i64 a0.bg, .int .i64 a0.bz])<|sC rfl<|sV (rB (a0.aQ.a0 != (0 : Int)))<|sV (rB (a0.aQ.a0 != (0 : Int)))<|sA rfl<|sN<|qR ?_
       cases oI h
       exact qD
      refine sM rfl<|k3<|sK<|sU<|sA rfl<|sN<|qR ?_
      cases oI h
      exact qD
     refine sM rfl<|k3<|sU<|sM rfl<|k3<|sK<|sU<|sA rfl<|sN<|qR ?_
     cases oI h
     exact qD
    refine sM rfl<|k3<|sU<|sM rfl<|k3<|sU<|sM rfl<|k3<|sK ?_
    refine sU<|sA rfl<|sN<|qR ?_
    cases oI h
    exact qD
   refine sA rfl<|sN<|cF<|gS rfl rfl<|sF h (fun h => ?_) fun h => ?_
   ·refine sA rfl<|sN<|cT<|gS rfl rfl<|sV (.ptr 16 1)<|sV (.d (aV.pd a0.aW))<|sV (.d (aV.pd (aV.mk 0 0 0)))<|ite_elim h (fun hb17 h => ?_) (fun hb17 h => ?_)
    ·refine WO.binS (fG a0.aW (aV.mk 0 0 0)) hb17 rfl rfl rfl rfl rfl<|sM rfl<|sV (.ptr 16 4)<|sV (.d (aV.pd a0.aQ))<|sV (.d (aV.pd (aV.mk 0 0 0)))<|WO.bin (fG a0.aQ (aV.mk 0 0 0)) rfl rfl rfl rfl rfl<|sF h (fun h => ?_) fun h => ?_
     ·refine sM rfl<|sV (.ptr 16 7)<|sL rfl<|sE (rI (a0.br.length : Int)) (lenMap _ _)<|bE h fun x19 hx19 h => cD (cW hx19)<|sF h (fun h => ?_) fun h => ?_
      ·refine sM rfl<|sV (.ptr 16 7)<|sL rfl<|bE h fun x21 hx21 h => cD (jm hx21)<|sF h (fun h => ?_) fun h => ?_
       ·refine sM rfl<|sV (.ptr 16 7)<|sL rfl<|bE h fun x23 hx23 h => cD (sa hx23)<|sV (rB (x23 != (0 : Int)))<|sF h (fun h => ?_) fun h => ?_
        ·refine sM rfl<|sV (.ptr 16 8)<|sL rfl<|bE h fun x25 hx25 h => cD (cW hx25)<|sF h (fun h => ?_) fun h => ?_
         ·refine sM rfl<|sV (.ptr 16 9)<|sL rfl<|bE h fun x27 hx27 h => cD (cW hx27)<|sV (rB x27)<|sA rfl<|sN<|qR ?_
          cases oI h
          exact qG
         refine sM rfl<|k3<|sU<|sA rfl<|sN<|qR ?_
         cases oI h
         exact qG
        refine sM rfl<|k3<|sU<|sM rfl<|k3<|sU<|sA rfl<|sN<|qR ?_
        cases oI h
        exact qG
       refine sM rfl<|k3<|sK<|sU<|sM rfl<|k3<|sU<|sM rfl<|sK<|sK<|sK ?_
       refine sU<|sA rfl<|sN<|qR ?_
       cases oI h
       exact qG
      refine sM rfl<|k3<|sU<|sM rfl<|k3<|sK<|sU<|sM rfl<|sK<|sK<|sK ?_
      refine sU<|sM rfl<|k3<|sU<|sA rfl<|sN<|qR ?_
      cases oI h
      exact qG
     refine sM rfl<|k3<|sK<|sU<|sM rfl<|k3<|sU<|sM rfl<|sK<|sK<|sK ?_
     refine sK<|sU<|sM rfl<|k3<|sU<|sM rfl<|k3<|sU<|sA rfl<|sN<|qR ?_
     cases oI h
     exact qG
    refine WO.binS (fG a0.aW (aV.mk 0 0 0)) hb17 rfl rfl rfl rfl rfl<|sM rfl<|k3<|sK<|sU<|sM rfl<|k3<|sK<|sU<|sM rfl<|sK ?_
    refine sK<|sK<|sU<|sM rfl<|k3<|sK<|sU<|sM rfl<|k3<|sU<|sM rfl ?_
    refine k3<|sU<|sA rfl<|sN<|qR ?_
    cases oI h
    exact qG
   refine sA rfl<|sN<|cF<|qK<|gS rfl rfl<|sU<|sN<|qR ?_
   cases oI h
   exact qG
  refine sM rfl<|k3<|sU<|sA rfl<|sN<|qS<|gS rfl rfl<|sV (.ptr 16 0)<|sL rfl<|sN<|qB<|gS rfl rfl<|sF h (fun h => ?_) fun h => ?_
  ·refine sA rfl<|sN<|cT<|gS rfl rfl<|sM rfl<|sM rfl<|k3<|k3<|sK<|sU<|sM rfl ?_
   refine k3<|k3<|sK<|sU<|sM rfl<|k3<|sK<|sU<|sM rfl ?_
   refine k3<|sK<|sU<|sA rfl<|sN<|qR ?_
   cases oI h
   exact qG
  refine sA rfl<|sN<|cF<|gS rfl rfl<|sF h (fun h => ?_) fun h => ?_
  ·refine sA rfl<|sN<|cT<|WC.regionSeq (R0 := [(1, .cptr [.int .i64 a0.cb, .int .i64 a0.aW.a0, .int .i64 a0.aW.a1, .int .i64 a0.aW.a2, .int .i64 a0.aQ.a0, .int .i64 a0.aQ.a1, .int .i64 a0.aQ.a2, .lst (a0.br.map (PD.int .i64)), .int .i64 a0.bg, .int .i64 a0.bz]), (3, rB false)]) (B0 := []) rfl rfl<|sM rfl<|sM rfl<|k3<|sU<|sM rfl<|k3<|sU ?_
   refine sM rfl<|k3<|sK<|sU<|sA rfl<|sN<|qR ?_
   cases oI h
   exact qD
  refine sA rfl<|sN<|cF<|gS rfl rfl<|sF h (fun h => ?_) fun h => ?_
  ·refine sA rfl<|sN<|cT<|gS rfl rfl<|sV (.ptr 16 1)<|sV (.d (aV.pd a0.aW))<|sV (.d (aV.pd (aV.mk 0 0 0)))<|ite_elim h (fun hb31 h => ?_) (fun hb31 h => ?_)
   ·refine WO.binS (fG a0.aW (aV.mk 0 0 0)) hb31 rfl rfl rfl rfl rfl<|sM rfl<|sV (.ptr 16 4)<|sV (.d (aV.pd a0.aQ))<|sV (.d (aV.pd (aV.mk 0 0 0)))<|WO.bin (fG a0.aQ (aV.mk 0 0 0)) rfl rfl rfl rfl rfl<|sF h (fun h => ?_) fun h => ?_
    ·refine sM rfl<|sV (.ptr 16 7)<|sL rfl<|sE (rI (a0.br.length : Int)) (lenMap _ _)<|bE h fun x33 hx33 h => cD (cW hx33)<|sF h (fun h => ?_) fun h => ?_
     ·refine sM rfl<|sV (.ptr 16 7)<|sL rfl<|bE h fun x35 hx35 h => cD (jm hx35)<|sF h (fun h => ?_) fun h => ?_
      ·refine sM rfl<|sV (.ptr 16 7)<|sL rfl<|bE h fun x37 hx37 h => cD (sa hx37)<|sV (rB (x37 != (0 : Int)))<|sF h (fun h => ?_) fun h => ?_
       ·refine sM rfl<|sV (.ptr 16 8)<|sL rfl<|bE h fun x39 hx39 h => cD (cW hx39)<|sF h (fun h => ?_) fun h => ?_
        ·refine sM rfl<|sV (.ptr 16 9)<|sL rfl<|bE h fun x41 hx41 h => cD (cW hx41)<|sV (rB x41)<|sA rfl<|sN<|qR ?_
         cases oI h
         exact qG
        refine sM rfl<|k3<|sU<|sA rfl<|sN<|qR ?_
        cases oI h
        exact qG
       refine sM rfl<|k3<|sU<|sM rfl<|k3<|sU<|sA rfl<|sN<|qR ?_
       cases oI h
       exact qG
      refine sM rfl<|k3<|sK<|sU<|sM rfl<|k3<|sU<|sM rfl<|sK<|sK<|sK ?_
      refine sU<|sA rfl<|sN<|qR ?_
      cases oI h
      exact qG
     refine sM rfl<|k3<|sU<|sM rfl<|k3<|sK<|sU<|sM rfl<|sK<|sK<|sK ?_
     refine sU<|sM rfl<|k3<|sU<|sA rfl<|sN<|qR ?_
     cases oI h
     exact qG
    refine sM rfl<|k3<|sK<|sU<|sM rfl<|k3<|sU<|sM rfl<|sK<|sK<|sK ?_
    refine sK<|sU<|sM rfl<|k3<|sU<|sM rfl<|k3<|sU<|sA rfl<|sN<|qR ?_
    cases oI h
    exact qG
   refine WO.binS (fG a0.aW (aV.mk 0 0 0)) hb31 rfl rfl rfl rfl rfl<|sM rfl<|k3<|sK<|sU<|sM rfl<|k3<|sK<|sU<|sM rfl<|sK ?_
   refine sK<|sK<|sU<|sM rfl<|k3<|sK<|sU<|sM rfl<|k3<|sU<|sM rfl ?_
   refine k3<|sU<|sA rfl<|sN<|qR ?_
   cases oI h
   exact qG
  refine sA rfl<|sN<|cF<|qK<|gS rfl rfl<|sU<|sN<|qR ?_
  cases oI h
  exact qG
 refine sM rfl<|k3<|sU<|sM rfl<|k3<|sU<|sA rfl<|sN<|qS<|gS rfl rfl<|sV (.ptr 16 0) ?_
 refine sL rfl<|sN<|qB<|gS rfl rfl<|sF h (fun h => ?_) fun h => ?_
 ·refine sA rfl<|sN<|cT<|gS rfl rfl<|sM rfl<|sM rfl<|k3<|k3<|sK<|sU<|sM rfl ?_
  refine k3<|k3<|sK<|sU<|sM rfl<|k3<|sK<|sU<|sM rfl ?_
  refine k3<|sK<|sU<|sA rfl<|sN<|qR ?_
  cases oI h
  exact qG
 refine sA rfl<|sN<|cF<|gS rfl rfl<|sF h (fun h => ?_) fun h => ?_
 ·refine sA rfl<|sN<|cT<|WC.regionSeq (R0 := [(1, .cptr [.int .i64 a0.cb, .int .i64 a0.aW.a0, .int .i64 a0.aW.a1, .int .i64 a0.aW.a2, .int .i64 a0.aQ.a0, .int .i64 a0.aQ.a1, .int .i64 a0.aQ.a2, .lst (a0.br.map (PD.int .i64)), .int .i64 a0.bg, .int .i64 a0.bz]), (3, rB false)]) (B0 := []) rfl rfl<|sM rfl<|sM rfl<|k3<|sU<|sM rfl<|k3<|sU ?_
  refine sM rfl<|k3<|sK<|sU<|sA rfl<|sN<|qR ?_
  cases oI h
  exact qD
 refine sA rfl<|sN<|cF<|gS rfl rfl<|sF h (fun h => ?_) fun h => ?_
 ·refine sA rfl<|sN<|cT<|gS rfl rfl<|sV (.ptr 16 1)<|sV (.d (aV.pd a0.aW))<|sV (.d (aV.pd (aV.mk 0 0 0)))<|ite_elim h (fun hb45 h => ?_) (fun hb45 h => ?_)
  ·refine WO.binS (fG a0.aW (aV.mk 0 0 0)) hb45 rfl rfl rfl rfl rfl<|sM rfl<|sV (.ptr 16 4)<|sV (.d (aV.pd a0.aQ))<|sV (.d (aV.pd (aV.mk 0 0 0)))<|WO.bin (fG a0.aQ (aV.mk 0 0 0)) rfl rfl rfl rfl rfl<|sF h (fun h => ?_) fun h => ?_
   ·refine sM rfl<|sV (.ptr 16 7)<|sL rfl<|sE (rI (a0.br.length : Int)) (lenMap _ _)<|bE h fun x47 hx47 h => cD (cW hx47)<|sF h (fun h => ?_) fun h => ?_
    ·refine sM rfl<|sV (.ptr 16 7)<|sL rfl<|bE h fun x49 hx49 h => cD (jm hx49)<|sF h (fun h => ?_) fun h => ?_
     ·refine sM rfl<|sV (.ptr 16 7)<|sL rfl<|bE h fun x51 hx51 h => cD (sa hx51)<|sV (rB (x51 != (0 : Int)))<|sF h (fun h => ?_) fun h => ?_
      ·refine sM rfl<|sV (.ptr 16 8)<|sL rfl<|bE h fun x53 hx53 h => cD (cW hx53)<|sF h (fun h => ?_) fun h => ?_
       ·refine sM rfl<|sV (.ptr 16 9)<|sL rfl<|bE h fun x55 hx55 h => cD (cW hx55)<|sV (rB x55)<|sA rfl<|sN<|qR ?_
        cases oI h
        exact qG
       refine sM rfl<|k3<|sU<|sA rfl<|sN<|qR ?_
       cases oI h
       exact qG
      refine sM rfl<|k3<|sU<|sM rfl<|k3<|sU<|sA rfl<|sN<|qR ?_
      cases oI h
      exact qG
     refine sM rfl<|k3<|sK<|sU<|sM rfl<|k3<|sU<|sM rfl<|sK<|sK<|sK ?_
     refine sU<|sA rfl<|sN<|qR ?_
     cases oI h
     exact qG
    refine sM rfl<|k3<|sU<|sM rfl<|k3<|sK<|sU<|sM rfl<|sK<|sK<|sK ?_
    refine sU<|sM rfl<|k3<|sU<|sA rfl<|sN<|qR ?_
    cases oI h
    exact qG
   refine sM rfl<|k3<|sK<|sU<|sM rfl<|k3<|sU<|sM rfl<|sK<|sK<|sK ?_
   refine sK<|sU<|sM rfl<|k3<|sU<|sM rfl<|k3<|sU<|sA rfl<|sN<|qR ?_
   cases oI h
   exact qG
  refine WO.binS (fG a0.aW (aV.mk 0 0 0)) hb45 rfl rfl rfl rfl rfl<|sM rfl<|k3<|sK<|sU<|sM rfl<|k3<|sK<|sU<|sM rfl<|sK ?_
  refine sK<|sK<|sU<|sM rfl<|k3<|sK<|sU<|sM rfl<|k3<|sU<|sM rfl ?_
  refine k3<|sU<|sA rfl<|sN<|qR ?_
  cases oI h
  exact qG
 refine sA rfl<|sN<|cF<|qK<|gS rfl rfl<|sU<|sN<|qR ?_
 cases oI h
 exact qG
theorem pg {a0 : ar} {r : Bool} (h : gR a0 = some r) : EvP prog au ext 204 [.d (ar.pd a0)] [] (rB r, []) := by
 refine Ev.body rfl Tryz.func204 rfl (by kernel_rfl)<|gS rfl rfl<|sB (.ptr 16 0) 16 (.var (ar.rc a0))<|sU<|sN<|gS rfl rfl<|sV (.d (ar.pd a0))<|bE h fun x1 hx1 h => cD (vQ hx1)<|sV (rB (!x1))<|sA rfl<|sN<|qR ?_
 cases oI h
 exact qG
theorem qv {a0 : (List ar)} {r : Int} (h : dh a0 = some r) : EvP prog au ext 219 [.d (.lst (a0.map ar.pd)), .d (.raw (.func (.func 204) #[] #[]))] [] (rI r, []) := by
 refine Ev.body rfl Tryz.func219 rfl (by kernel_rfl)<|gS rfl rfl<|sV (r0)<|sN<|qS<|gS rfl rfl<|sM rfl<|sE (rI (a0.length : Int)) (lenMap _ _)<|sV (r0)<|sN<|bE h fun o8 ho8 h => WC.block (WC.loop (WL.ofLoop ho8 (fun s R' B' => ghosts prog 0 (A R' B') (au.at_ 219 0 2) = some (A [(0, .d (.lst (a0.map ar.pd))), (1, .d (.raw (.func (.func 204) #[] #[]))), (7, rI (a0.length : Int)), (8, rI s)] [])) (fun o e R' B' => match o with | .inl y => e = .exit 0 ∧ ghosts prog 0 (A R' B') (au.at_ 219 0 7) = some (A [] []) | .inr r => e = .ret ∧ finish prog (au.own 219) Tryz.f219 0 (A R' B') = some (rI r, [])) rfl ?_ ?_))
 ·rintro s1 R' B' q2 hI h
  refine gS rfl hI<|sF h (fun h => ?_) fun h => ?_
  ·refine sN<|qS<|cT<|qK<|qS<|qB<|gS rfl rfl<|sM rfl<|sA rfl<|sN<|gS rfl rfl<|sM rfl<|sM rfl<|sM rfl<|bE h fun x4 hx4 h => ?_
   refine eG hx4 rfl<|sV (.d (ar.pd x4))<|bE h fun x5 hx5 h => ite_elim h (fun hb6 h => ?_) (fun hb6 h => ?_)
   ·refine WO.callR (v := rB true) (u := []) rfl rfl (fun _ => rfl) rfl rfl rfl rfl rfl (pg hx5) rfl rfl (congrArg (fun b => RV.d (.bool b)) hb6) rfl<|sN<|cT<|gS rfl rfl<|sM rfl<|sA rfl<|sN<|qR ?_
    cases oI h
    exact ⟨nofun, rfl, rfl⟩
   refine WO.callR (v := rB false) (u := []) rfl rfl (fun _ => rfl) rfl rfl rfl rfl rfl (pg hx5) rfl rfl (congrArg (fun b => RV.d (.bool b)) hb6) rfl<|sN<|cF<|qK<|WC.region rfl rfl<|sV (rI (rW (s1 + (1 : Int))))<|sM rfl<|sN ?_
   cases oI h
   exact ⟨rfl, rfl⟩
  refine sN<|qS<|cF<|qX ?_
  cases oI h
  exact ⟨nofun, rfl, rfl⟩
 intro e R' B' he hq
 rcases o8 with y9 | r10
 ·obtain ⟨rfl, hI⟩ := hq
  refine qE<|gS rfl hI<|sV (rI (-1))<|sN<|qR ?_
  cases oI h
  exact qD
 obtain ⟨rfl, hf⟩ := hq
 cases oI h
 exact hf
theorem oj {a0 : (List ar)} {r : Bool} (h : ci a0 = some r) : EvP prog au ext 203 [.d (.lst (a0.map ar.pd)), .d (.raw (.func (.func 204) #[] #[]))] [] (rB r, []) := by
 refine Ev.body rfl Tryz.func203 rfl (by kernel_rfl)<|gS rfl rfl<|sU<|sN<|gS rfl rfl<|sM rfl<|sM rfl<|bE h fun x1 hx1 h => cD (qv hx1)<|sV (rB (decide (x1 ≥ (0 : Int))))<|sA rfl<|sN<|qR ?_
 cases oI h
 exact qD
theorem yv {a0 : (List ar)} {r : Int} (h : jd a0 = some r) : EvP prog au ext 206 [.d (.lst (a0.map ar.pd))] [] (rI r, []) := by
 refine Ev.body rfl Tryz.func206 rfl (by kernel_rfl)<|gS rfl rfl<|sV (r0)<|sN<|gS rfl rfl<|sV (rI 1)<|sN<|qS<|gS rfl rfl<|sM rfl<|sE (rI (a0.length : Int)) (lenMap _ _)<|sV (r0)<|sN<|bE h fun o10 ho10 h => WC.block (WC.loop (WL.ofLoop ho10 (fun s R' B' => ghosts prog 0 (A R' B') (au.at_ 206 0 3) = some (A [(3, rI s.1), (6, .d (.lst (a0.map ar.pd))), (7, rI (a0.length : Int)), (8, rI s.2)] [])) (fun o e R' B' => match o with | .inl y => e = .exit 0 ∧ ghosts prog 0 (A R' B') (au.at_ 206 0 10) = some (A [(3, rI y)] []) | .inr r => e = .ret ∧ finish prog (au.own 206) Tryz.f206 0 (A R' B') = some (rI r, [])) rfl ?_ ?_))
 ·rintro ⟨s1, s2⟩ R' B' q4 hI h
  refine gS rfl hI<|sF h (fun h => ?_) fun h => ?_
  ·refine sN<|qS<|cT<|qK<|qS<|qB<|gS rfl rfl<|bE h fun x6 hx6 h => eG hx6 rfl<|sV (.d (ar.pd x6))<|sB (.ptr 80 0) 80 (.var [r0, r0, r0, r0, r0, r0, r0, .nils, r0, r0])<|sH 80 (.var (ar.rc x6))<|sN<|qS<|gS rfl rfl ?_
   refine sV (.ptr 80 0)<|sL rfl<|sF h (fun h => ?_) fun h => ?_
   ·refine sN<|cT<|qX<|qE<|WC.region rfl rfl<|sV (rI (rW (s2 + (1 : Int))))<|sM rfl<|sN ?_
    cases oI h
    exact ⟨rfl, rfl⟩
   refine sN<|cF<|qK<|gS rfl rfl<|sM rfl<|sV (.ptr 80 8)<|sL rfl<|sV (rI (rW (s1 * x6.bg)))<|sA rfl<|sN<|gS rfl rfl<|sM rfl<|sF h (fun h => ?_) fun h => ?_
   ·refine sN<|cT<|gS rfl rfl<|sV (r0)<|sN<|qR ?_
    cases oI h
    exact ⟨nofun, rfl, rfl⟩
   refine sN<|cF<|qK<|WC.region rfl rfl<|sV (rI (rW (s2 + (1 : Int))))<|sM rfl<|sN ?_
   cases oI h
   exact ⟨rfl, rfl⟩
  refine sN<|qS<|cF<|qX ?_
  cases oI h
  exact ⟨nofun, rfl, rfl⟩
 intro e R' B' he hq
 rcases o10 with y11 | r12
 ·obtain ⟨rfl, hI⟩ := hq
  refine qE<|gS rfl hI<|sM rfl<|sA rfl<|sN<|qR ?_
  cases oI h
  exact qD
 obtain ⟨rfl, hf⟩ := hq
 cases oI h
 exact hf
theorem zq {a0 : aD} {r : Bool} (h : jL a0 = some r) : EvP prog au ext 177 [.d (aD.pd a0)] [] (rB r, []) := by
 refine Ev.body rfl Tryz.func177 rfl (by kernel_rfl)<|gS rfl rfl<|sB (.ptr 16 0) 16 (.var [.d (.lst (a0.aO.map ar.pd))])<|sU<|sN<|qS<|gS rfl rfl<|sV (.ptr 16 0)<|sL rfl<|sE (rI (a0.aO.length : Int)) (lenMap _ _)<|sF h (fun h => ?_) fun h => ?_
 ·refine sM rfl<|k3<|sT<|sN<|cT<|gS rfl rfl<|sU<|sN<|qR ?_
  cases oI h
  exact qD
 refine sM rfl<|sV (.ptr 16 0)<|sL rfl<|bE h fun x2 hx2 h => cD (oj hx2)<|sF h (fun h => ?_) fun h => ?_
 ·refine sN<|cT<|gS rfl rfl<|sU<|sN<|qR ?_
  cases oI h
  exact qD
 refine sN<|cF<|qK<|gS rfl rfl<|sV (.ptr 16 0)<|sL rfl<|bE h fun x4 hx4 h => cD (yv hx4)<|sV (rB (decide (x4 > (0 : Int))))<|sA rfl<|sN<|qR ?_
 cases oI h
 exact qD
theorem nC {a0 : Int} {a1 : Int} {a2 : Int} {r : Bool} (h : gc a0 a1 a2 = some r) : EvP prog au ext 135 [rI a0, rI a1, rI a2] [] (rB r, []) := by
 refine Ev.body rfl Tryz.func135 rfl (by kernel_rfl)<|gS rfl rfl<|sU<|sN<|gS rfl rfl<|sM rfl<|sM rfl<|sF h (fun h => ?_) fun h => ?_
 ·refine sM rfl<|sM rfl<|sM rfl<|sV (rB (decide (a0 ≤ a2)))<|sV (rB (decide (a0 ≤ a2)))<|sA rfl<|sN<|qR ?_
  cases oI h
  exact qD
 refine sM rfl<|k3<|sU<|sA rfl<|sN<|qR ?_
 cases oI h
 exact qD
theorem uL {a0 : ai} {r : Bool} (h : eK a0 = some r) : EvP prog au ext 134 [.d (ai.pd a0)] [] (rB r, []) := by
 refine Ev.body rfl Tryz.func134 rfl (by kernel_rfl)<|gS rfl rfl<|sB (.ptr 16 0) 16 (.var (ai.rc a0))<|sU<|sN<|gS rfl rfl<|sV (.ptr 16 4)<|sV (.d (aq.pd a0.aF))<|sB (.ptr 48 0) 48 (.var [r0, r0, r0])<|sS 48 (.var [rI a0.aF.fX, rI a0.aF.fY, rI a0.aF.fZ])<|sN<|gS rfl rfl<|sV (.ptr 16 0)<|sL rfl<|sF h (fun h => ?_) fun h => ?_
 ·refine sM rfl<|sV (.ptr 16 0)<|sL rfl<|sV (.ptr 16 1)<|sL rfl<|sV (rB (decide (a0.aK < a0.fTo)))<|sF h (fun h => ?_) fun h => ?_
  ·refine sM rfl<|sV (.ptr 16 1)<|sL rfl<|sV (rB (decide (a0.fTo ≤ (9007199254740992 : Int))))<|sF h (fun h => ?_) fun h => ?_
   ·refine sM rfl<|sV (.ptr 16 2)<|sV (.d (aU.pd a0.bI))<|bE h fun x4 hx4 h => cD (rate_Valid_ev hx4)<|sF h (fun h => ?_) fun h => ?_
    ·refine sM rfl<|sV (.ptr 16 7)<|sV (.d (aD.pd a0.aS))<|bE h fun x6 hx6 h => cD (zq hx6)<|sF h (fun h => ?_) fun h => ?_
     ·refine sM rfl<|sV (.ptr 48 0)<|sL rfl<|bE h fun x8 hx8 h => cD (nC hx8)<|sF h (fun h => ?_) fun h => ?_
      ·refine sM rfl<|sV (.ptr 48 1)<|sL rfl<|bE h fun x10 hx10 h => cD (nC hx10)<|sF h (fun h => ?_) fun h => ?_
       ·refine sM rfl<|sV (.ptr 48 2)<|sL rfl<|bE h fun x12 hx12 h => cD (nC hx12)<|sV (rB x12)<|sA rfl<|sN<|qR ?_
        cases oI h
        exact qD
       refine sM rfl<|k3<|sU<|sA rfl<|sN<|qR ?_
       cases oI h
       exact qD
      refine sM rfl<|k3<|sU<|sM rfl<|k3<|sU<|sA rfl<|sN<|qR ?_
      cases oI h
      exact qD
     refine sM rfl<|k3<|sU<|sM rfl<|k3<|sU<|sM rfl<|k3<|sU ?_
     refine sA rfl<|sN<|qR ?_
     cases oI h
     exact qD
    refine sM rfl<|k3<|sU<|sM rfl<|k3<|sU<|sM rfl<|k3<|sU ?_
    refine sM rfl<|k3<|sU<|sA rfl<|sN<|qR ?_
    cases oI h
    exact qD
   refine sM rfl<|k3<|sU<|sM rfl<|k3<|sU<|sM rfl<|k3<|sU ?_
   refine sM rfl<|k3<|sU<|sM rfl<|k3<|sU<|sA rfl<|sN<|qR ?_
   cases oI h
   exact qD
  refine sM rfl<|k3<|sU<|sM rfl<|k3<|sU<|sM rfl<|k3<|sU ?_
  refine sM rfl<|k3<|sU<|sM rfl<|k3<|sU<|sM rfl<|k3<|sU ?_
  refine sA rfl<|sN<|qR ?_
  cases oI h
  exact qD
 refine sM rfl<|k3<|sK<|sK<|sU<|sM rfl<|k3<|sU<|sM rfl<|sK<|sK ?_
 refine sK<|sU<|sM rfl<|k3<|sU<|sM rfl<|k3<|sU<|sM rfl<|sK<|sK ?_
 refine sK<|sU<|sM rfl<|k3<|sU<|sA rfl<|sN<|qR ?_
 cases oI h
 exact qD
theorem xG {a0 : (List ai)} {r : Bool} (h : io a0 = some r) : EvP prog au ext 99 [.d (.lst (a0.map ai.pd))] [] (rB r, []) := by
 refine Ev.body rfl Tryz.func99 rfl (by kernel_rfl)<|gS rfl rfl<|sU<|sN<|qS<|gS rfl rfl<|sM rfl<|sE (rI (a0.length : Int)) (lenMap _ _)<|sV (r0)<|sN<|bE h fun o11 ho11 h => WC.block (WC.loop (WL.ofLoop ho11 (fun s R' B' => ghosts prog 0 (A R' B') (au.at_ 99 0 2) = some (A [(0, .d (.lst (a0.map ai.pd))), (5, .d (.lst (a0.map ai.pd))), (6, rI (a0.length : Int)), (7, rI s)] [])) (fun o e R' B' => match o with | .inl y => e = .exit 0 ∧ ghosts prog 0 (A R' B') (au.at_ 99 0 7) = some (A [(0, .d (.lst (a0.map ai.pd)))] []) | .inr r => e = .ret ∧ finish prog (au.own 99) Tryz.f99 0 (A R' B') = some (rB r, [])) rfl ?_ ?_))
 ·rintro s1 R' B' q2 hI h
  refine gS rfl hI<|sF h (fun h => ?_) fun h => ?_
  ·refine sN<|qS<|cT<|qK<|qS<|qB<|gS rfl rfl<|sM rfl<|bE h fun x4 hx4 h => eG hx4 rfl<|sV (.d (ai.pd x4))<|sB (.ptr 64 0) 64 (.var zZ2)<|sA rfl<|sH 64 (.var (ai.rc x4))<|sN ?_
   refine WC.regionDSeq rfl rfl<|sV (.d (ai.pd x4))<|bE h fun x5 hx5 h => cD (uL hx5)<|sF h (fun h => ?_) fun h => ?_
   ·refine sM rfl<|k3<|k3<|k3<|k3<|sK<|sT ?_
    refine sN<|sO<|cT<|gS rfl rfl<|sU<|sN<|qR ?_
    cases oI h
    exact ⟨nofun, rfl, rfl⟩
   refine sM rfl<|sM rfl<|sF h (fun h => ?_) fun h => ?_
   ·refine sM rfl<|sV (.ptr 64 0)<|sL rfl<|sM rfl<|sM rfl<|sV (rI (rW (s1 - (1 : Int))))<|bE h fun x8 hx8 h => eG hx8 rfl<|sV (.cptr [.int .i64 x8.fTo, .int .i64 x8.bI.aW, .int .i64 x8.bI.aQ, .int .i64 x8.aF.fX, .int .i64 x8.aF.fY, .int .i64 x8.aF.fZ, .lst (x8.aS.aO.map ar.pd)])<|sC rfl<|sV (rB (decide (x4.aK < x8.fTo)))<|sV (rB (decide (x4.aK < x8.fTo)))<|sF h (fun h => ?_) fun h => ?_
    ·refine sN<|sO<|cT<|gS rfl rfl<|sU<|sN<|qR ?_
     cases oI h
     exact ⟨nofun, rfl, rfl⟩
    refine sN<|sO<|cF<|qK<|WC.region rfl rfl<|sV (rI (rW (s1 + (1 : Int))))<|sM rfl<|sN ?_
    cases oI h
    exact ⟨rfl, rfl⟩
   refine sM rfl<|k3<|k3<|k3<|sU<|sU ?_
   refine sN<|sO<|cF<|qK<|WC.region rfl rfl<|sV (rI (rW (s1 + (1 : Int))))<|sM rfl<|sN ?_
   cases oI h
   exact ⟨rfl, rfl⟩
  refine sN<|qS<|cF<|qX ?_
  cases oI h
  exact ⟨nofun, rfl, rfl⟩
 intro e R' B' he hq
 rcases o11 with y12 | r13
 ·obtain ⟨rfl, hI⟩ := hq
  refine qE<|gS rfl hI<|sM rfl<|sE (rI (a0.length : Int)) (lenMap _ _)<|bE h fun x14 hx14 h => cD (nC hx14)<|sA rfl<|sN<|qR ?_
  cases oI h
  exact qD
 obtain ⟨rfl, hf⟩ := hq
 cases oI h
 exact hf
theorem ez {a0 : ae} {r : Bool} (h : bP a0 = some r) : EvP prog au ext 55 [.d (ae.pd a0)] [] (rB r, []) := by
 refine Ev.body rfl Tryz.func55 rfl (by kernel_rfl)<|gS rfl rfl<|sB (.ptr 16 0) 16 (.var [.d (.lst (a0.ap.map ac.pd))])<|sU<|sN<|qS<|gS rfl rfl<|sV (.ptr 16 0)<|sL rfl<|sE (rI (a0.ap.length : Int)) (lenMap _ _)<|sV (r0)<|sN<|bE h fun o14 ho14 h => WC.block (WC.loop (WL.ofLoop ho14 (fun s R' B' => ghosts prog 0 (A R' B') (au.at_ 55 0 2) = some (A [(1, .ptr 16 0), (6, .d (.lst (a0.ap.map ac.pd))), (7, rI (a0.ap.length : Int)), (8, rI s)] [(16, .var [.d (.lst (a0.ap.map ac.pd))])])) (fun o e R' B' => match o with | .inl y => e = .exit 0 ∧ ghosts prog 0 (A R' B') (au.at_ 55 0 7) = some (A [(1, .ptr 16 0)] [(16, .var [.d (.lst (a0.ap.map ac.pd))])]) | .inr r => e = .ret ∧ finish prog (au.own 55) Tryz.f55 0 (A R' B') = some (rB r, [])) rfl ?_ ?_))
 ·rintro s1 R' B' q2 hI h
  refine gS rfl hI<|sF h (fun h => ?_) fun h => ?_
  ·refine sN<|qS<|cT<|qK<|qS<|qB<|gS rfl rfl<|sM rfl<|bE h fun x4 hx4 h => eG hx4 rfl<|sV (.d (ac.pd x4))<|sB (.ptr 64 0) 64 (.var zZ3)<|sA rfl<|sS 64 (.var (ac.rc x4))<|sN ?_
   refine WC.regionDSeq rfl rfl<|sV (.ptr 64 0)<|sV (.d (ag.pd x4.ak))<|bE h fun x5 hx5 h => cD (sg hx5)<|sF h (fun h => ?_) fun h => ?_
   ·refine sM rfl<|k3<|sK<|sT<|sM rfl<|k3<|k3<|sK<|sK ?_
    refine k3<|k3<|sK<|sT ?_
    refine sN<|sO<|cT<|gS rfl rfl<|sU<|sN<|qR ?_
    cases oI h
    exact ⟨nofun, rfl, rfl⟩
   refine sM rfl<|sV (.ptr 64 4)<|sL rfl<|bE h fun x7 hx7 h => cD (xG hx7)<|sV (rB (!x7))<|sF h (fun h => ?_) fun h => ?_
   ·refine sM rfl<|k3<|k3<|k3<|k3<|sK<|sK ?_
    refine sK<|sT ?_
    refine sN<|sO<|cT<|gS rfl rfl<|sU<|sN<|qR ?_
    cases oI h
    exact ⟨nofun, rfl, rfl⟩
   refine sM rfl<|sM rfl<|sF h (fun h => ?_) fun h => ?_
   ·refine sM rfl<|sV (.ptr 16 0)<|sL rfl<|sM rfl<|sV (rI (rW (s1 - (1 : Int))))<|bE h fun x10 hx10 h => eG hx10 rfl<|sV (.cptr [.str x10.ak.aB, .str x10.ak.aA, .str x10.ak.aw, .str x10.ak.aC, .lst (x10.aP.map ai.pd)])<|sV (.d (ag.pd x10.ak))<|sV (.ptr 64 0)<|sV (.d (ag.pd x4.ak))<|bE h fun x11 hx11 h => cD (un hx11)<|sV (rB (decide (x11 ≥ (0 : Int))))<|sV (rB (decide (x11 ≥ (0 : Int)))) ?_
    refine sF h (fun h => ?_) fun h => ?_
    ·refine sN<|sO<|cT<|gS rfl rfl<|sU<|sN<|qR ?_
     cases oI h
     exact ⟨nofun, rfl, rfl⟩
    refine sN<|sO<|cF<|qK<|WC.region rfl rfl<|sV (rI (rW (s1 + (1 : Int))))<|sM rfl<|sN ?_
    cases oI h
    exact ⟨rfl, rfl⟩
   refine sM rfl<|k3<|k3<|k3<|sK<|sK<|sU<|sU ?_
   refine sN<|sO<|cF<|qK<|WC.region rfl rfl<|sV (rI (rW (s1 + (1 : Int))))<|sM rfl<|sN ?_
   cases oI h
   exact ⟨rfl, rfl⟩
  refine sN<|qS<|cF<|qX ?_
  cases oI h
  exact ⟨nofun, rfl, rfl⟩
 intro e R' B' he hq
 rcases o14 with y15 | r16
 ·obtain ⟨rfl, hI⟩ := hq
  refine qE<|gS rfl hI<|sV (.ptr 16 0)<|sL rfl<|sE (rI (a0.ap.length : Int)) (lenMap _ _)<|sV (rB (decide ((a0.ap.length : Int) ≤ (128 : Int))))<|sA rfl<|sN<|qR ?_
  cases oI h
  exact qD
 obtain ⟨rfl, hf⟩ := hq
 cases oI h
 exact hf
theorem vY {a0 : Int} {r : (List ac)} (h : fr a0 = some r) : EvP prog au ext 108 [.nils, rI a0] [] (.ref 0 0, [.arr 0 99 (r.map ac.pd)]) := by
 refine Ev.body rfl Tryz.func108 rfl (by kernel_rfl)<|gS rfl rfl<|sV .nils<|sN<|qS<|gS rfl rfl<|sM rfl<|sF h (fun h => ?_) fun h => ?_
 ·refine sN<|cT<|WC.region rfl rfl ?_
  cases h
 refine sN<|cF<|qK<|WC.join (α := (List ac)) (fun x R' B' => ghosts prog 0 (A R' B') (au.at_ 108 0 6) = some (A [(0, .ref 90097 0)] [(90097, .arr 0 99 (x.map ac.pd))])) (fun x => dD x = some r) ?_ ?_
 ·refine gS rfl rfl<|sM rfl<|sM rfl<|sV (r0)<|sM rfl<|sV (r0)<|sV (r0)<|sV (rI (rW (a0 - (0 : Int))))<|sA rfl<|sN<|gS rfl rfl<|sM rfl<|sF h (fun h => ?_) fun h => ?_
  ·refine sN<|cT<|WC.region rfl rfl<|sM rfl<|sM rfl<|sV (r0)<|sV .nils<|sM rfl<|bE h fun x5 hx5 h => WO.appZ (g := ac.pd) hx5 rfl rfl rfl rfl rfl rfl rfl rfl rfl rfl rfl rfl rfl rfl rfl rfl<|sM rfl<|sV (r0)<|bE h fun x6 hx6 h => WO.resl hx6 rfl rfl rfl rfl rfl rfl rfl rfl rfl rfl rfl rfl<|sA rfl ?_
   exact sN<|⟨(x5.take (0 : Int).toNat), rfl, h⟩
  exact sN<|cF<|qK<|⟨([] : List ac), rfl, h⟩
 rintro j2 R' B' hI h
 refine gS rfl hI<|sM rfl<|sA rfl<|sN<|qR ?_
 cases oI h
 exact qD
theorem uH {a0 : (List (List ac))} {r : (List ac)} (h : ef a0 = some r) : EvP prog au ext 64 [.d (.lst (a0.map (fun l => PD.lst (l.map ac.pd))))] [] (.d (.lst (r.map ac.pd)), []) := by
 refine Ev.body rfl Tryz.func64 rfl (by kernel_rfl)<|gS rfl rfl<|sV .nils<|sN<|gS rfl rfl<|sV (r0)<|sN<|qS<|gS rfl rfl<|sM rfl<|sE (rI (a0.length : Int)) (lenMap _ _)<|sV (r0)<|sN<|bE h fun o9 ho9 h => WC.block (WC.loop (WL.ofLoop ho9 (fun s R' B' => ghosts prog 0 (A R' B') (au.at_ 64 0 3) = some (A [(0, .d (.lst (a0.map (fun l => PD.lst (l.map ac.pd))))), (3, rI s.1), (9, .d (.lst (a0.map (fun l => PD.lst (l.map ac.pd))))), (10, rI (a0.length : Int)), (11, rI s.2)] [])) (fun o e R' B' => e = .exit 0 ∧ ghosts prog 0 (A R' B') (au.at_ 64 0 9) = some (A [(0, .d (.lst (a0.map (fun l => PD.lst (l.map ac.pd))))), (3, rI o)] [])) rfl ?_ ?_))
 ·rintro ⟨s1, s2⟩ R' B' q4 hI h
  refine gS rfl hI<|sF h (fun h => ?_) fun h => ?_
  ·refine sN<|qS<|cT<|qK<|qS<|qB<|gS rfl rfl<|bE h fun x6 hx6 h => eG hx6 rfl<|sC rfl<|sA rfl<|sN<|gS rfl rfl<|sM rfl<|sM rfl ?_
   refine sE (rI (x6.length : Int)) (lenMap _ _)<|sV (rI (rW (s1 + (x6.length : Int))))<|sA rfl<|sN<|gS rfl rfl<|sM rfl<|sF h (fun h => ?_) fun h => ?_
   ·refine sN<|cT<|WC.region rfl rfl ?_
    cases h
   refine sN<|cF<|qK<|WC.region rfl rfl<|sV (rI (rW (s2 + (1 : Int))))<|sM rfl<|sN ?_
   cases oI h
   exact ⟨rfl, rfl⟩
  refine sN<|qS<|cF<|qX ?_
  cases oI h
  exact ⟨nofun, rfl, rfl⟩
 intro e R' B' he hq
 obtain ⟨rfl, hI⟩ := hq
 refine qE<|gS rfl hI<|sM rfl<|bE h fun x10 hx10 h => cR (.ref 384 0) [(384, .arr 0 99 (x10.map ac.pd))] (vY hx10)<|sA rfl<|sN<|qS<|gS rfl rfl<|sM rfl<|sE (rI (a0.length : Int)) (lenMap _ _)<|sV (r0)<|sN<|bE h fun o19 ho19 h => WC.block (WC.loop (WL.ofLoop ho19 (fun s R' B' => ghosts prog 0 (A R' B') (au.at_ 64 0 11) = some (A [(6, .ref 384 0), (25, .d (.lst (a0.map (fun l => PD.lst (l.map ac.pd))))), (26, rI (a0.length : Int)), (27, rI s.1)] [(384, .arr 0 99 (s.2.map ac.pd))])) (fun o e R' B' => e = .exit 2 ∧ ghosts prog 0 (A R' B') (au.at_ 64 0 15) = some (A [(6, .ref 384 0)] [(384, .arr 0 99 (o.map ac.pd))])) rfl ?_ ?_))
 ·rintro ⟨s11, s12⟩ R' B' q14 hI h
  refine gS rfl hI<|sF h (fun h => ?_) fun h => ?_
  ·refine sN<|qS<|cT<|qK<|qS<|qB<|gS rfl rfl<|bE h fun x16 hx16 h => eG hx16 rfl<|sC rfl<|sA rfl<|sN<|WC.region rfl rfl<|sM rfl<|sM rfl ?_
   refine bE h fun x17 hx17 h => aR hx17 (fun _ => rfl) rfl<|sA rfl<|sN<|WC.region rfl rfl<|sV (rI (rW (s11 + (1 : Int))))<|sM rfl<|sN ?_
   cases oI h
   exact ⟨rfl, rfl⟩
  refine sN<|qS<|cF<|qX ?_
  cases oI h
  exact ⟨nofun, rfl, rfl⟩
 intro e R' B' he hq
 obtain ⟨rfl, hI⟩ := hq
 refine qE<|gS rfl hI<|sM rfl<|sA rfl<|sN<|qR ?_
 cases oI h
 exact qD
theorem vj {a0 : ai} {r : ai} (h : fp a0 = some r) : EvP prog au ext 140 [.d (ai.pd a0)] [] (.d (ai.pd r), []) := by
 refine Ev.body rfl Tryz.func140 rfl (by kernel_rfl)<|gS rfl rfl<|sB (.ptr 16 0) 16 (.var (ai.rc a0))<|sB (.ptr 32 0) 32 (.var zZ2)<|sN<|gS rfl rfl<|sV (.ptr 16 7)<|sV (.ptr 16 7)<|sL rfl<|bE h fun x1 hx1 h => cR (.ref 112 0) [(112, .arr 0 137 (x1.map ar.pd))] (clone_181 hx1)<|sV (.ptr 16 7)<|sV (.ptr 16 7)<|sS 16 (.var [rI a0.aK, rI a0.fTo, rI a0.bI.aW, rI a0.bI.aQ, rI a0.aF.fX, rI a0.aF.fY, rI a0.aF.fZ, .ref 112 0])<|sN ?_
 refine qS<|gS rfl rfl<|sV (.ptr 16 7)<|sV (.ptr 16 7)<|sL rfl<|WO.lenR rfl rfl rfl rfl rfl rfl rfl rfl rfl<|sV (r0)<|sN<|bE h fun o16 ho16 h => WC.block (WC.loop (WL.ofLoop ho16 (fun s R' B' => ghosts prog 0 (A R' B') (au.at_ 140 0 3) = some (A [(1, .ptr 16 0), (2, .ptr 32 0), (13, rI (x1.length : Int)), (14, rI s.1)] [(16, .var [rI a0.aK, rI a0.fTo, rI a0.bI.aW, rI a0.bI.aQ, rI a0.aF.fX, rI a0.aF.fY, rI a0.aF.fZ, .ref 112 0]), (32, .var zZ2), (112, .arr 0 137 (s.2.map ar.pd))])) (fun o e R' B' => e = .exit 0 ∧ ghosts prog 0 (A R' B') (au.at_ 140 0 7) = some (A [(1, .ptr 16 0), (2, .ptr 32 0)] [(16, .var [rI a0.aK, rI a0.fTo, rI a0.bI.aW, rI a0.bI.aQ, rI a0.aF.fX, rI a0.aF.fY, rI a0.aF.fZ, .ref 112 0]), (32, .var zZ2), (112, .arr 0 137 (o.map ar.pd))])) rfl ?_ ?_))
 ·rintro ⟨s2, s3⟩ R' B' q5 hI h
  refine gS rfl hI<|sF h (fun h => ?_) fun h => ?_
  ·refine sN<|qS<|cT<|qK<|qS<|qB<|gS rfl rfl<|sM rfl<|sA rfl<|sN<|WC.regionD rfl rfl<|sV (.ptr 16 7)<|sV (.ptr 16 7)<|sL rfl<|sM rfl ?_
   refine sV (.ptr 16 7)<|sV (.ptr 16 7)<|sL rfl<|sM rfl<|bE h fun x8 hx8 h => WO.eltG hx8 rfl rfl rfl rfl rfl rfl rfl rfl<|sV (.elt 112 0 (s2).toNat 7)<|bE h fun x9 hx9 h => WO.loadE hx9 rfl rfl rfl rfl rfl rfl<|bE h fun x10 hx10 h => cR (.ref 448 0) [(448, .arr 0 3 (x10.map (PD.int .i64)))] (clone_182 hx10)<|bE h fun x12 hx12 h => WO.eltG hx12 rfl rfl rfl rfl rfl rfl rfl rfl<|sV (.elt 112 0 (s2).toNat 7)<|bE h fun x13 hx13 h => ?_
   refine WO.storeF (g := ar.pd) (u := [(448, .dead)]) (sz := 1) hx13 (fun _ => rfl) (fun _ => Nat.le_of_ble_eq_true rfl) rfl rfl rfl rfl rfl rfl rfl rfl rfl rfl rfl ?_
   refine sN<|sO<|WC.region rfl rfl<|sV (rI (rW (s2 + (1 : Int))))<|sM rfl<|sN ?_
   cases oI h
   exact ⟨rfl, rfl⟩
  refine sN<|qS<|cF<|qX ?_
  cases oI h
  exact ⟨nofun, rfl, rfl⟩
 intro e R' B' he hq
 obtain ⟨rfl, hI⟩ := hq
 refine qE<|gS rfl hI<|sV (.agg [rI a0.aK, rI a0.fTo, rI a0.bI.aW, rI a0.bI.aQ, rI a0.aF.fX, rI a0.aF.fY, rI a0.aF.fZ, .ref 112 0])<|sH 32 (.var [rI a0.aK, rI a0.fTo, rI a0.bI.aW, rI a0.bI.aQ, rI a0.aF.fX, rI a0.aF.fY, rI a0.aF.fZ, .ref 112 0])<|sN<|qR ?_
 cases oI h
 exact qG
theorem xE {a0 : ac} {r : ac} (h : im a0 = some r) : EvP prog au ext 109 [.d (ac.pd a0)] [] (.d (ac.pd r), []) := by
 refine Ev.body rfl Tryz.func109 rfl (by kernel_rfl)<|gS rfl rfl<|sB (.ptr 16 0) 16 (.var (ac.rc a0))<|sB (.ptr 32 0) 32 (.var zZ3)<|sN<|gS rfl rfl<|sV (.ptr 16 4)<|sL rfl<|bE h fun x1 hx1 h => cR (.ref 112 0) [(112, .arr 0 96 (x1.map ai.pd))] (clone_139 hx1)<|sV (.ptr 16 4)<|sS 16 (.var [rS a0.ak.aB, rS a0.ak.aA, rS a0.ak.aw, rS a0.ak.aC, .ref 112 0])<|sN<|qS<|gS rfl rfl ?_
 refine sV (.ptr 16 4)<|sL rfl<|WO.lenR rfl rfl rfl rfl rfl rfl rfl rfl rfl<|sV (r0)<|sN<|bE h fun o15 ho15 h => WC.block (WC.loop (WL.ofLoop ho15 (fun s R' B' => ghosts prog 0 (A R' B') (au.at_ 109 0 3) = some (A [(1, .ptr 16 0), (2, .ptr 32 0), (10, .ref 112 0), (11, rI (x1.length : Int)), (12, rI s.1)] [(16, .var [rS a0.ak.aB, rS a0.ak.aA, rS a0.ak.aw, rS a0.ak.aC, .ref 112 0]), (32, .var zZ3), (112, .arr 0 96 (s.2.map ai.pd))])) (fun o e R' B' => e = .exit 0 ∧ ghosts prog 0 (A R' B') (au.at_ 109 0 7) = some (A [(1, .ptr 16 0), (2, .ptr 32 0)] [(16, .var [rS a0.ak.aB, rS a0.ak.aA, rS a0.ak.aw, rS a0.ak.aC, .ref 112 0]), (32, .var zZ3), (112, .arr 0 96 (o.map ai.pd))])) rfl ?_ ?_))
 ·rintro ⟨s2, s3⟩ R' B' q5 hI h
  refine gS rfl hI<|sF h (fun h => ?_) fun h => ?_
  ·refine sN<|qS<|cT<|qK<|qS<|qB<|gS rfl rfl<|sM rfl<|bE h fun x8 hx8 h => WO.eltG hx8 rfl rfl rfl rfl rfl rfl rfl rfl<|bE h fun x9 hx9 h => WO.loadE hx9 rfl rfl rfl rfl rfl rfl<|sB (.ptr 64 0) 64 (.var zZ2)<|sA rfl<|sH 64 (.var (ai.rc x9)) ?_
   refine sN<|WC.regionD rfl rfl<|sV (.ptr 16 4)<|sL rfl<|sM rfl<|sV (.d (ai.pd x9))<|bE h fun x10 hx10 h => cD (vj hx10)<|bE h fun x12 hx12 h => WO.eltG hx12 rfl rfl rfl rfl rfl rfl rfl rfl<|bE h fun x13 hx13 h => WO.storeE (g := ai.pd) (sz := 8) (p := ai.pd x10) hx13 (by intro _; kernel_rfl) (by intro _; kernel_rfl) rfl rfl rfl rfl rfl rfl rfl rfl rfl ?_
   refine sN<|sO<|WC.region rfl rfl<|sV (rI (rW (s2 + (1 : Int))))<|sM rfl<|sN ?_
   cases oI h
   exact ⟨rfl, rfl⟩
  refine sN<|qS<|cF<|qX ?_
  cases oI h
  exact ⟨nofun, rfl, rfl⟩
 intro e R' B' he hq
 obtain ⟨rfl, hI⟩ := hq
 refine qE<|gS rfl hI<|sV (.agg [rS a0.ak.aB, rS a0.ak.aA, rS a0.ak.aw, rS a0.ak.aC, .ref 112 0])<|sS 32 (.var [rS a0.ak.aB, rS a0.ak.aA, rS a0.ak.aw, rS a0.ak.aC, .ref 112 0])<|sN<|qR ?_
 cases oI h
 exact qD
theorem oK {a0 : ae} {a1 : ag} {r : ac × Bool} (h : e9 a0 a1 = some r) : EvP prog au ext 65 [.d (ae.pd a0), .d (ag.pd a1)] [] (.tup [.d (ac.pd r.1), rB r.2], []) := by
 refine Ev.body rfl Tryz.func65 rfl (by kernel_rfl)<|gS rfl rfl<|sB (.ptr 32 0) 32 (.var [.d (.lst (a0.ap.map ac.pd))])<|sB (.ptr 48 0) 48 (.var [rS a1.aB, rS a1.aA, rS a1.aw, rS a1.aC])<|sB (.ptr 64 0) 64 (.var zZ3)<|sU<|sN<|qS<|gS rfl rfl<|sV (.ptr 32 0)<|sL rfl<|sE (rI (a0.ap.length : Int)) (lenMap _ _)<|sV (r0)<|sN<|bE h fun o8 ho8 h => ?_
 refine WC.block (WC.loop (WL.ofLoop ho8 (fun s R' B' => ghosts prog 0 (A R' B') (au.at_ 65 0 2) = some (A [(3, .ptr 48 0), (4, .ptr 64 0), (9, .d (.lst (a0.ap.map ac.pd))), (10, rI (a0.ap.length : Int)), (11, rI s)] [(48, .var [rS a1.aB, rS a1.aA, rS a1.aw, rS a1.aC]), (64, .var zZ3)])) (fun o e R' B' => match o with | .inl y => e = .exit 0 ∧ ghosts prog 0 (A R' B') (au.at_ 65 0 7) = some (A [(4, .ptr 64 0)] [(64, .var zZ3)]) | .inr r => e = .ret ∧ finish prog (au.own 65) Tryz.f65 0 (A R' B') = some (.tup [.d (ac.pd r.1), rB r.2], [])) rfl ?_ ?_))
 ·rintro s1 R' B' q2 hI h
  refine gS rfl hI<|sF h (fun h => ?_) fun h => ?_
  ·refine sN<|qS<|cT<|qK<|qS<|qB<|gS rfl rfl<|bE h fun x4 hx4 h => eG hx4 rfl<|sV (.d (.agg [.str x4.ak.aB, .str x4.ak.aA, .str x4.ak.aw, .str x4.ak.aC, .lst (x4.aP.map ai.pd)]))<|sB (.ptr 112 0) 112 (.var zZ3)<|sS 112 (.var (ac.rc x4))<|sN<|gS rfl rfl<|sV (.ptr 112 0) ?_
   refine sV (.d (ag.pd x4.ak))<|sV (.d (ag.pd a1))<|ite_elim h (fun hb5 h => ?_) (fun hb5 h => ?_)
   ·refine WO.binS (sW x4.ak a1) hb5 rfl rfl rfl rfl rfl<|sN<|cT<|gS rfl rfl<|sV (.d (.agg [.str x4.ak.aB, .str x4.ak.aA, .str x4.ak.aw, .str x4.ak.aC, .lst (x4.aP.map ai.pd)]))<|bE h fun x6 hx6 h => cD (xE hx6)<|sS 64 (.var (ac.rc x6))<|sT<|sN<|qR ?_
    cases oI h
    exact ⟨nofun, rfl, rfl⟩
   refine WO.binS (sW x4.ak a1) hb5 rfl rfl rfl rfl rfl<|sN<|cF<|qK<|WC.region rfl rfl<|sV (rI (rW (s1 + (1 : Int))))<|sM rfl<|sN ?_
   cases oI h
   exact ⟨rfl, rfl⟩
  refine sN<|qS<|cF<|qX ?_
  cases oI h
  exact ⟨nofun, rfl, rfl⟩
 intro e R' B' he hq
 rcases o8 with y9 | r10
 ·obtain ⟨rfl, hI⟩ := hq
  refine qE<|gS rfl hI<|sV (.agg zZ3)<|sS 64 (.var zZ3)<|sU<|sN<|qR ?_
  cases oI h
  exact qD
 obtain ⟨rfl, hf⟩ := hq
 cases oI h
 exact hf
theorem w7 {a0 : Int} {r : (List ai)} (h : gD a0 = some r) : EvP prog au ext 141 [.nils, rI a0] [] (.ref 0 0, [.arr 0 96 (r.map ai.pd)]) := by
 refine Ev.body rfl Tryz.func141 rfl (by kernel_rfl)<|gS rfl rfl<|sV .nils<|sN<|qS<|gS rfl rfl<|sM rfl<|sF h (fun h => ?_) fun h => ?_
 ·refine sN<|cT<|WC.region rfl rfl ?_
  cases h
 refine sN<|cF<|qK<|WC.join (α := (List ai)) (fun x R' B' => ghosts prog 0 (A R' B') (au.at_ 141 0 6) = some (A [(0, .ref 90097 0)] [(90097, .arr 0 96 (x.map ai.pd))])) (fun x => eN x = some r) ?_ ?_
 ·refine gS rfl rfl<|sM rfl<|sM rfl<|sV (r0)<|sM rfl<|sV (r0)<|sV (r0)<|sV (rI (rW (a0 - (0 : Int))))<|sA rfl<|sN<|gS rfl rfl<|sM rfl<|sF h (fun h => ?_) fun h => ?_
  ·refine sN<|cT<|WC.region rfl rfl<|sM rfl<|sM rfl<|sV (r0)<|sV .nils<|sM rfl<|bE h fun x5 hx5 h => WO.appZ (g := ai.pd) hx5 rfl rfl rfl rfl rfl rfl rfl rfl rfl rfl rfl rfl rfl rfl rfl rfl<|sM rfl<|sV (r0)<|bE h fun x6 hx6 h => WO.resl hx6 rfl rfl rfl rfl rfl rfl rfl rfl rfl rfl rfl rfl<|sA rfl ?_
   exact sN<|⟨(x5.take (0 : Int).toNat), rfl, h⟩
  exact sN<|cF<|qK<|⟨([] : List ai), rfl, h⟩
 rintro j2 R' B' hI h
 refine gS rfl hI<|sM rfl<|sA rfl<|sN<|qR ?_
 cases oI h
 exact qD
theorem vW {a0 : (List (List ai))} {r : (List ai)} (h : fq a0 = some r) : EvP prog au ext 110 [.d (.lst (a0.map (fun l => PD.lst (l.map ai.pd))))] [] (.d (.lst (r.map ai.pd)), []) := by
 refine Ev.body rfl Tryz.func110 rfl (by kernel_rfl)<|gS rfl rfl<|sV .nils<|sN<|gS rfl rfl<|sV (r0)<|sN<|qS<|gS rfl rfl<|sM rfl<|sE (rI (a0.length : Int)) (lenMap _ _)<|sV (r0)<|sN<|bE h fun o9 ho9 h => WC.block (WC.loop (WL.ofLoop ho9 (fun s R' B' => ghosts prog 0 (A R' B') (au.at_ 110 0 3) = some (A [(0, .d (.lst (a0.map (fun l => PD.lst (l.map ai.pd))))), (3, rI s.1), (9, .d (.lst (a0.map (fun l => PD.lst (l.map ai.pd))))), (10, rI (a0.length : Int)), (11, rI s.2)] [])) (fun o e R' B' => e = .exit 0 ∧ ghosts prog 0 (A R' B') (au.at_ 110 0 9) = some (A [(0, .d (.lst (a0.map (fun l => PD.lst (l.map ai.pd))))), (3, rI o)] [])) rfl ?_ ?_))
 ·rintro ⟨s1, s2⟩ R' B' q4 hI h
  refine gS rfl hI<|sF h (fun h => ?_) fun h => ?_
  ·refine sN<|qS<|cT<|qK<|qS<|qB<|gS rfl rfl<|bE h fun x6 hx6 h => eG hx6 rfl<|sC rfl<|sA rfl<|sN<|gS rfl rfl<|sM rfl<|sM rfl ?_
   refine sE (rI (x6.length : Int)) (lenMap _ _)<|sV (rI (rW (s1 + (x6.length : Int))))<|sA rfl<|sN<|gS rfl rfl<|sM rfl<|sF h (fun h => ?_) fun h => ?_
   ·refine sN<|cT<|WC.region rfl rfl ?_
    cases h
   refine sN<|cF<|qK<|WC.region rfl rfl<|sV (rI (rW (s2 + (1 : Int))))<|sM rfl<|sN ?_
   cases oI h
   exact ⟨rfl, rfl⟩
  refine sN<|qS<|cF<|qX ?_
  cases oI h
  exact ⟨nofun, rfl, rfl⟩
 intro e R' B' he hq
 obtain ⟨rfl, hI⟩ := hq
 refine qE<|gS rfl hI<|sM rfl<|bE h fun x10 hx10 h => cR (.ref 384 0) [(384, .arr 0 96 (x10.map ai.pd))] (w7 hx10)<|sA rfl<|sN<|qS<|gS rfl rfl<|sM rfl<|sE (rI (a0.length : Int)) (lenMap _ _)<|sV (r0)<|sN<|bE h fun o19 ho19 h => WC.block (WC.loop (WL.ofLoop ho19 (fun s R' B' => ghosts prog 0 (A R' B') (au.at_ 110 0 11) = some (A [(6, .ref 384 0), (25, .d (.lst (a0.map (fun l => PD.lst (l.map ai.pd))))), (26, rI (a0.length : Int)), (27, rI s.1)] [(384, .arr 0 96 (s.2.map ai.pd))])) (fun o e R' B' => e = .exit 2 ∧ ghosts prog 0 (A R' B') (au.at_ 110 0 15) = some (A [(6, .ref 384 0)] [(384, .arr 0 96 (o.map ai.pd))])) rfl ?_ ?_))
 ·rintro ⟨s11, s12⟩ R' B' q14 hI h
  refine gS rfl hI<|sF h (fun h => ?_) fun h => ?_
  ·refine sN<|qS<|cT<|qK<|qS<|qB<|gS rfl rfl<|bE h fun x16 hx16 h => eG hx16 rfl<|sC rfl<|sA rfl<|sN<|WC.region rfl rfl<|sM rfl<|sM rfl ?_
   refine bE h fun x17 hx17 h => aR hx17 (fun _ => rfl) rfl<|sA rfl<|sN<|WC.region rfl rfl<|sV (rI (rW (s11 + (1 : Int))))<|sM rfl<|sN ?_
   cases oI h
   exact ⟨rfl, rfl⟩
  refine sN<|qS<|cF<|qX ?_
  cases oI h
  exact ⟨nofun, rfl, rfl⟩
 intro e R' B' he hq
 obtain ⟨rfl, hI⟩ := hq
 refine qE<|gS rfl hI<|sM rfl<|sA rfl<|sN<|qR ?_
 cases oI h
 exact qD
theorem xM {a0 : (List Int)} {a1 : (List Int)} {r : Bool} (h : ip a0 a1 = some r) : EvP prog au ext 105 [.d (.lst (a0.map (PD.int .i64))), .d (.lst (a1.map (PD.int .i64)))] [] (rB r, []) := by
 refine Ev.body rfl Tryz.func105 rfl (by kernel_rfl)<|gS rfl rfl<|sU<|sN<|qS<|gS rfl rfl<|sM rfl<|sE (rI (a0.length : Int)) (lenMap _ _)<|sM rfl<|sE (rI (a1.length : Int)) (lenMap _ _)<|sF h (fun h => ?_) fun h => ?_
 ·refine sN<|cT<|gS rfl rfl<|sU<|sN<|qR ?_
  cases oI h
  exact qD
 refine sN<|cF<|qK<|qS<|gS rfl rfl<|sM rfl<|sE (rI (a0.length : Int)) (lenMap _ _)<|sV (r0)<|sN<|bE h fun o9 ho9 h => WC.block (WC.loop (WL.ofLoop ho9 (fun s R' B' => ghosts prog 0 (A R' B') (au.at_ 105 0 4) = some (A [(0, .d (.lst (a0.map (PD.int .i64)))), (1, .d (.lst (a1.map (PD.int .i64)))), (12, rI (a0.length : Int)), (13, rI s)] [])) (fun o e R' B' => match o with | .inl y => e = .exit 0 ∧ ghosts prog 0 (A R' B') (au.at_ 105 0 9) = some (A [] []) | .inr r => e = .ret ∧ finish prog (au.own 105) Tryz.f105 0 (A R' B') = some (rB r, [])) rfl ?_ ?_))
 ·rintro s2 R' B' q3 hI h
  refine gS rfl hI<|sF h (fun h => ?_) fun h => ?_
  ·refine sN<|qS<|cT<|qK<|qS<|qB<|gS rfl rfl<|sM rfl<|sA rfl<|sN<|WC.regionDSeq rfl rfl<|sM rfl<|sM rfl<|bE h fun x5 hx5 h => eG hx5 rfl ?_
   refine sC rfl<|sM rfl<|sM rfl<|bE h fun x6 hx6 h => eG hx6 rfl<|sC rfl<|sF h (fun h => ?_) fun h => ?_
   ·refine sN<|sO<|cT<|gS rfl rfl<|sU<|sN<|qR ?_
    cases oI h
    exact ⟨nofun, rfl, rfl⟩
   refine sN<|sO<|cF<|qK<|WC.region rfl rfl<|sV (rI (rW (s2 + (1 : Int))))<|sM rfl<|sN ?_
   cases oI h
   exact ⟨rfl, rfl⟩
  refine sN<|qS<|cF<|qX ?_
  cases oI h
  exact ⟨nofun, rfl, rfl⟩
 intro e R' B' he hq
 rcases o9 with y10 | r11
 ·obtain ⟨rfl, hI⟩ := hq
  refine qE<|gS rfl hI<|sT<|sN<|qR ?_
  cases oI h
  exact qD
 obtain ⟨rfl, hf⟩ := hq
 cases oI h
 exact hf
theorem wy {a0 : ar} {a1 : ar} {r : Bool} (h : fS a0 a1 = some r) : EvP prog au ext 104 [.d (ar.pd a0), .d (ar.pd a1)] [] (rB r, []) := by
 refine Ev.body rfl Tryz.func104 rfl (by kernel_rfl)<|gS rfl rfl<|sB (.ptr 32 0) 32 (.var (ar.rc a0))<|sB (.ptr 48 0) 48 (.var (ar.rc a1))<|sU<|sN<|gS rfl rfl<|sV (.ptr 32 0)<|sL rfl<|sV (.ptr 48 0)<|sL rfl<|sF h (fun h => ?_) fun h => ?_
 ·refine sM rfl<|sV (.ptr 32 1)<|sV (.d (aV.pd a0.aW))<|sV (.ptr 48 1)<|sV (.d (aV.pd a1.aW))<|WO.bin (fG a0.aW a1.aW) rfl rfl rfl rfl rfl<|sF h (fun h => ?_) fun h => ?_
  ·refine sM rfl<|sV (.ptr 32 4)<|sV (.d (aV.pd a0.aQ))<|sV (.ptr 48 4)<|sV (.d (aV.pd a1.aQ))<|WO.bin (fG a0.aQ a1.aQ) rfl rfl rfl rfl rfl<|sF h (fun h => ?_) fun h => ?_
   ·refine sM rfl<|sV (.ptr 32 7)<|sL rfl<|sV (.ptr 48 7)<|sL rfl<|bE h fun x4 hx4 h => cD (xM hx4)<|sF h (fun h => ?_) fun h => ?_
    ·refine sM rfl<|sV (.ptr 32 8)<|sL rfl<|sV (.ptr 48 8)<|sL rfl<|sV (rB (a0.bg == a1.bg))<|sF h (fun h => ?_) fun h => ?_
     ·refine sM rfl<|sV (.ptr 32 9)<|sL rfl<|sV (.ptr 48 9)<|sL rfl<|sV (rB (a0.bz == a1.bz))<|sV (rB (a0.bz == a1.bz))<|sA rfl<|sN<|qR ?_
      cases oI h
      exact qG
     refine sM rfl<|k3<|sK<|sK<|sU<|sA rfl<|sN<|qR ?_
     cases oI h
     exact qG
    refine sM rfl<|k3<|sK<|sK<|sU<|sM rfl<|k3<|sK<|sK<|sU<|sA rfl ?_
    refine sN<|qR ?_
    cases oI h
    exact qG
   refine sM rfl<|k3<|sK<|sK<|sU<|sM rfl<|k3<|sK<|sK<|sU<|sM rfl ?_
   refine k3<|sK<|sK<|sU<|sA rfl<|sN<|qR ?_
   cases oI h
   exact qG
  refine sM rfl<|k3<|sK<|sK<|sU<|sM rfl<|k3<|sK<|sK<|sU<|sM rfl ?_
  refine k3<|sK<|sK<|sU<|sM rfl<|k3<|sK<|sK<|sU<|sA rfl<|sN ?_
  refine qR ?_
  cases oI h
  exact qG
 refine sM rfl<|k3<|sK<|sK<|sU<|sM rfl<|k3<|sK<|sK<|sU<|sM rfl ?_
 refine k3<|sK<|sK<|sU<|sM rfl<|k3<|sK<|sK<|sU<|sM rfl<|sK ?_
 refine k3<|sK<|sU<|sA rfl<|sN<|qR ?_
 cases oI h
 exact qG
theorem qq {a0 : (List ar)} {a1 : (List ar)} {r : Bool} (h : df a0 a1 = some r) : EvP prog au ext 103 [.d (.lst (a0.map ar.pd)), .d (.lst (a1.map ar.pd)), .d (.raw (.func (.func 104) #[] #[]))] [] (rB r, []) := by
 refine Ev.body rfl Tryz.func103 rfl (by kernel_rfl)<|gS rfl rfl<|sU<|sN<|qS<|gS rfl rfl<|sM rfl<|sE (rI (a0.length : Int)) (lenMap _ _)<|sM rfl<|sE (rI (a1.length : Int)) (lenMap _ _)<|sF h (fun h => ?_) fun h => ?_
 ·refine sN<|cT<|gS rfl rfl<|sU<|sN<|qR ?_
  cases oI h
  exact qD
 refine sN<|cF<|qK<|qS<|gS rfl rfl<|sM rfl<|sE (rI (a0.length : Int)) (lenMap _ _)<|sV (r0)<|sN<|bE h fun o10 ho10 h => WC.block (WC.loop (WL.ofLoop ho10 (fun s R' B' => ghosts prog 0 (A R' B') (au.at_ 103 0 4) = some (A [(1, .d (.lst (a1.map ar.pd))), (2, .d (.raw (.func (.func 104) #[] #[]))), (15, .d (.lst (a0.map ar.pd))), (16, rI (a0.length : Int)), (17, rI s)] [])) (fun o e R' B' => match o with | .inl y => e = .exit 0 ∧ ghosts prog 0 (A R' B') (au.at_ 103 0 10) = some (A [] []) | .inr r => e = .ret ∧ finish prog (au.own 103) Tryz.f103 0 (A R' B') = some (rB r, [])) rfl ?_ ?_))
 ·rintro s2 R' B' q3 hI h
  refine gS rfl hI<|sF h (fun h => ?_) fun h => ?_
  ·refine sN<|qS<|cT<|qK<|qS<|qB<|gS rfl rfl<|sM rfl<|bE h fun x5 hx5 h => eG hx5 rfl<|sV (.d (ar.pd x5))<|sB (.ptr 128 0) 128 (.var [r0, r0, r0, r0, r0, r0, r0, .nils, r0, r0])<|sA rfl<|sH 128 (.var (ar.rc x5))<|sN ?_
   refine gS rfl rfl<|sM rfl<|sM rfl<|bE h fun x6 hx6 h => eG hx6 rfl<|sV (.d (ar.pd x6))<|sB (.ptr 144 0) 144 (.var [r0, r0, r0, r0, r0, r0, r0, .nils, r0, r0])<|sH 144 (.var (ar.rc x6))<|sN<|gS rfl rfl<|sM rfl<|sV (.d (ar.pd x5))<|sV (.d (ar.pd x6))<|bE h fun x7 hx7 h => cD (wy hx7) ?_
   refine sF h (fun h => ?_) fun h => ?_
   ·refine sN<|cT<|gS rfl rfl<|sU<|sN<|qR ?_
    cases oI h
    exact ⟨nofun, rfl, rfl⟩
   refine sN<|cF<|qK<|WC.region rfl rfl<|sV (rI (rW (s2 + (1 : Int))))<|sM rfl<|sN ?_
   cases oI h
   exact ⟨rfl, rfl⟩
  refine sN<|qS<|cF<|qX ?_
  cases oI h
  exact ⟨nofun, rfl, rfl⟩
 intro e R' B' he hq
 rcases o10 with y11 | r12
 ·obtain ⟨rfl, hI⟩ := hq
  refine qE<|gS rfl hI<|sT<|sN<|qR ?_
  cases oI h
  exact qD
 obtain ⟨rfl, hf⟩ := hq
 cases oI h
 exact hf
theorem uX {a0 : aD} {a1 : aD} {r : Bool} (h : jw a0 a1 = some r) : EvP prog au ext 61 [.d (aD.pd a0), .d (aD.pd a1)] [] (rB r, []) := by
 refine Ev.body rfl Tryz.func61 rfl (by kernel_rfl)<|gS rfl rfl<|sB (.ptr 32 0) 32 (.var [.d (.lst (a0.aO.map ar.pd))])<|sB (.ptr 48 0) 48 (.var [.d (.lst (a1.aO.map ar.pd))])<|sU<|sN<|gS rfl rfl<|sV (.ptr 32 0)<|sL rfl<|sV (.ptr 48 0)<|sL rfl<|bE h fun x1 hx1 h => cD (qq hx1)<|sA rfl<|sN ?_
 refine qR ?_
 cases oI h
 exact qD
theorem um {a0 : ai} {a1 : ai} {r : Bool} (h : jN a0 a1 = some r) : EvP prog au ext 111 [.d (ai.pd a0), .d (ai.pd a1)] [] (rB r, []) := by
 refine Ev.body rfl Tryz.func111 rfl (by kernel_rfl)<|gS rfl rfl<|sB (.ptr 32 0) 32 (.var (ai.rc a0))<|sB (.ptr 48 0) 48 (.var (ai.rc a1))<|sU<|sN<|gS rfl rfl<|sV (.ptr 32 2)<|sV (.d (aU.pd a0.bI))<|sV (.ptr 48 2)<|sV (.d (aU.pd a1.bI))<|ite_elim h (fun hb1 h => ?_) (fun hb1 h => ?_)
 ·refine WO.binS (eqE_89 a0.bI a1.bI) hb1 rfl rfl rfl rfl rfl<|sM rfl<|sV (.ptr 32 4)<|sV (.d (aq.pd a0.aF))<|sV (.ptr 48 4)<|sV (.d (aq.pd a1.aF))<|WO.bin (eqE_28 a0.aF a1.aF) rfl rfl rfl rfl rfl<|sF h (fun h => ?_) fun h => ?_
  ·refine sM rfl<|sV (.ptr 32 7)<|sV (.d (aD.pd a0.aS))<|sV (.ptr 48 7)<|sV (.d (aD.pd a1.aS))<|bE h fun x3 hx3 h => cD (uX hx3)<|sV (rB x3)<|sA rfl<|sN<|qR ?_
   cases oI h
   exact qD
  refine sM rfl<|k3<|sK<|sK<|sU<|sA rfl<|sN<|qR ?_
  cases oI h
  exact qD
 refine WO.binS (eqE_89 a0.bI a1.bI) hb1 rfl rfl rfl rfl rfl<|sM rfl<|k3<|sK<|sK<|sU<|sM rfl<|k3<|sK<|sK<|sU ?_
 refine sA rfl<|sN<|qR ?_
 cases oI h
 exact qD
theorem span_Minus_ev {a0 : (List aj)} {a1 : (List aj)} {r : (List aj)} (h : v7 a0 a1 = some r) : EvP prog au ext 112 [.d (.lst (a0.map aj.pd)), .d (.lst (a1.map aj.pd))] [] (.d (.lst (r.map aj.pd)), []) := by
 refine Ev.body rfl Tryz.func112 rfl (by kernel_rfl)<|gS rfl rfl<|sV .nils<|sN<|gS rfl rfl<|sM rfl<|bE h fun x1 hx1 h => cD (l9 hx1)<|sA rfl<|sN<|gS rfl rfl<|sV .nils<|sN<|qS<|gS rfl rfl ?_
 refine sM rfl<|bE h fun x2 hx2 h => cD (l9 hx2)<|sE (rI (x2.length : Int)) (lenMap _ _)<|sV (r0)<|sN<|bE h fun o27 ho27 h => WC.block (WC.loop (WL.ofLoop ho27 (fun s R' B' => ghosts prog 0 (A R' B') (au.at_ 112 0 4) = some (A [(1, .d (.lst (x1.map aj.pd))), (5, .ref 784 0), (14, .d (.lst (x2.map aj.pd))), (15, rI (x2.length : Int)), (16, rI s.1)] [(784, .arr 0 76 (s.2.map aj.pd))])) (fun o e R' B' => e = .exit 0 ∧ ghosts prog 0 (A R' B') (au.at_ 112 0 18) = some (A [(5, .ref 784 0)] [(784, .arr 0 76 (o.map aj.pd))])) rfl ?_ ?_))
 ·rintro ⟨s3, s4⟩ R' B' q6 hI h
  refine gS rfl hI<|sF h (fun h => ?_) fun h => ?_
  ·refine sN<|qS<|cT<|qK<|qS<|qB<|gS rfl rfl<|bE h fun x8 hx8 h => eG hx8 rfl<|sV (.d (aj.pd x8))<|sB (.ptr 112 0) 112 (.var [r0, r0])<|sS 112 (.var [rI x8.aK, rI x8.fTo])<|sN<|gS rfl rfl<|sV (.ptr 112 0) ?_
   refine sL rfl<|sA rfl<|sN<|qS<|gS rfl rfl<|sM rfl<|sE (rI (x1.length : Int)) (lenMap _ _)<|sV (r0)<|sN<|bE h fun o23 ho23 h => WC.block (WC.loop (WL.ofLoop ho23 (fun s R' B' => ghosts prog 0 (A R' B') (au.at_ 112 0 8) = some (A [(1, .d (.lst (x1.map aj.pd))), (5, .ref 784 0), (7, .ptr 112 0), (8, rI s.1), (14, .d (.lst (x2.map aj.pd))), (15, rI (x2.length : Int)), (16, rI s3), (22, .d (.lst (x1.map aj.pd))), (23, rI (x1.length : Int)), (24, rI s.2.1)] [(112, .var [rI x8.aK, rI x8.fTo]), (784, .arr 0 76 (s.2.2.map aj.pd))])) (fun o e R' B' => e = .exit 2 ∧ ghosts prog 0 (A R' B') (au.at_ 112 0 15) = some (A [(1, .d (.lst (x1.map aj.pd))), (5, .ref 784 0), (7, .ptr 112 0), (8, rI o.1), (14, .d (.lst (x2.map aj.pd))), (15, rI (x2.length : Int)), (16, rI o.2.1)] [(112, .var [rI x8.aK, rI x8.fTo]), (784, .arr 0 76 (o.2.2.map aj.pd))])) rfl ?_ ?_))
   ·rintro ⟨s9, s10, s11⟩ R' B' q15 hI h
    refine gS rfl hI<|sF h (fun h => ?_) fun h => ?_
    ·refine sN<|qS<|cT<|qK<|qS<|qB<|gS rfl rfl<|bE h fun x17 hx17 h => eG hx17 rfl<|sV (.d (aj.pd x17))<|sB (.ptr 160 0) 160 (.var [r0, r0])<|sS 160 (.var [rI x17.aK, rI x17.fTo])<|sN<|qS<|gS rfl rfl ?_
     refine sV (.ptr 160 1)<|sL rfl<|sM rfl<|sF h (fun h => ?_) fun h => ?_
     ·refine sM rfl<|k3<|sK<|sK<|sT<|sN<|cT<|qX<|qE<|WC.region rfl rfl<|sV (rI (rW (s10 + (1 : Int))))<|sM rfl<|sN ?_
      cases oI h
      exact ⟨rfl, rfl⟩
     refine sM rfl<|sV (.ptr 160 0)<|sL rfl<|sV (.ptr 112 1)<|sL rfl<|sV (rB (decide (x17.aK ≥ x8.fTo)))<|sF h (fun h => ?_) fun h => ?_
     ·refine sN<|cT<|qX<|qE<|WC.region rfl rfl<|sV (rI (rW (s10 + (1 : Int))))<|sM rfl<|sN ?_
      cases oI h
      exact ⟨rfl, rfl⟩
     refine sN<|cF<|qK<|qS<|gS rfl rfl<|sM rfl<|sV (.ptr 160 0)<|sL rfl<|sF h (fun h => ?_) fun h => ?_
     ·refine sN<|cT<|WC.region rfl rfl<|sM rfl<|sM rfl<|sV (.ptr 160 0)<|sL rfl<|sV (.d (aj.pd (aj.mk s9 x17.aK)))<|sV (.d (.lst ([(aj.mk s9 x17.aK)].map aj.pd)))<|bE h fun x21 hx21 h => aR hx21 (fun _ => rfl) rfl<|sA rfl<|sN<|WC.region rfl rfl<|sM rfl ?_
      refine sV (.ptr 160 1)<|sL rfl<|sV (rI (if x17.fTo > s9 then x17.fTo else s9))<|sA rfl<|sN<|WC.region rfl rfl<|sV (rI (rW (s10 + (1 : Int))))<|sM rfl<|sN ?_
      cases oI h
      exact ⟨rfl, rfl⟩
     refine sN<|cF<|qK<|WC.region rfl rfl<|sM rfl<|sV (.ptr 160 1)<|sL rfl<|sV (rI (if x17.fTo > s9 then x17.fTo else s9))<|sA rfl<|sN<|WC.region rfl rfl<|sV (rI (rW (s10 + (1 : Int))))<|sM rfl<|sN ?_
     cases oI h
     exact ⟨rfl, rfl⟩
    refine sN<|qS<|cF<|qX ?_
    cases oI h
    exact ⟨nofun, rfl, rfl⟩
   intro e R' B' he hq
   obtain ⟨rfl, hI⟩ := hq
   refine qE<|gS rfl hI<|sM rfl<|sV (.ptr 112 1)<|sL rfl<|sF h (fun h => ?_) fun h => ?_
   ·refine sN<|cT<|WC.region rfl rfl<|sM rfl<|sM rfl<|sV (.ptr 112 1)<|sL rfl<|sV (.d (aj.pd (aj.mk o23.1 x8.fTo)))<|sV (.d (.lst ([(aj.mk o23.1 x8.fTo)].map aj.pd)))<|bE h fun x25 hx25 h => aR hx25 (fun _ => rfl) rfl<|sA rfl<|sN<|WC.region rfl rfl<|sV (rI (rW (o23.2.1 + (1 : Int)))) ?_
    refine sM rfl<|sN ?_
    cases oI h
    exact ⟨rfl, rfl⟩
   refine sN<|cF<|qK<|WC.region rfl rfl<|sV (rI (rW (o23.2.1 + (1 : Int))))<|sM rfl<|sN ?_
   cases oI h
   exact ⟨rfl, rfl⟩
  refine sN<|qS<|cF<|qX ?_
  cases oI h
  exact ⟨nofun, rfl, rfl⟩
 intro e R' B' he hq
 obtain ⟨rfl, hI⟩ := hq
 refine qE<|gS rfl hI<|sM rfl<|sA rfl<|sN<|qR ?_
 cases oI h
 exact qD
theorem yy {a0 : (List ai)} {a1 : (List ai)} {r : (List aj)} (h : nH a0 a1 = some r) : EvP prog au ext 66 [.d (.lst (a0.map ai.pd)), .d (.lst (a1.map ai.pd))] [] (.d (.lst (r.map aj.pd)), []) := by
 refine Ev.body rfl Tryz.func66 rfl (by kernel_rfl)<|gS rfl rfl<|sV .nils<|sN<|gS rfl rfl<|sV .nils<|sV .nils<|sN<|qS<|gS rfl rfl<|sM rfl<|sM rfl<|sV (.d (.lst ([a0, a1].map (fun l => PD.lst (l.map ai.pd)))))<|bE h fun x1 hx1 h => cD (vW hx1) ?_
 refine sE (rI (x1.length : Int)) (lenMap _ _)<|sV (r0)<|sN<|bE h fun o10 ho10 h => WC.block (WC.loop (WL.ofLoop ho10 (fun s R' B' => ghosts prog 0 (A R' B') (au.at_ 66 0 3) = some (A [(0, .d (.lst (a0.map ai.pd))), (1, .d (.lst (a1.map ai.pd))), (5, .ref 464 0), (6, .nils), (16, .d (.lst (x1.map ai.pd))), (17, rI (x1.length : Int)), (18, rI s.1)] [(464, .arr 0 76 (s.2.map aj.pd))])) (fun o e R' B' => e = .exit 0 ∧ ghosts prog 0 (A R' B') (au.at_ 66 0 7) = some (A [(0, .d (.lst (a0.map ai.pd))), (1, .d (.lst (a1.map ai.pd))), (5, .ref 464 0), (6, .nils)] [(464, .arr 0 76 (o.map aj.pd))])) rfl ?_ ?_))
 ·rintro ⟨s2, s3⟩ R' B' q5 hI h
  refine gS rfl hI<|sF h (fun h => ?_) fun h => ?_
  ·refine sN<|qS<|cT<|qK<|qS<|qB<|gS rfl rfl<|bE h fun x7 hx7 h => eG hx7 rfl<|sV (.d (ai.pd x7))<|sB (.ptr 128 0) 128 (.var zZ2)<|sH 128 (.var (ai.rc x7))<|sN<|WC.region rfl rfl<|sM rfl ?_
   refine sV (.ptr 128 0)<|sL rfl<|sV (.ptr 128 1)<|sL rfl<|sV (.d (aj.pd (aj.mk x7.aK x7.fTo)))<|sV (.d (.lst ([(aj.mk x7.aK x7.fTo)].map aj.pd)))<|bE h fun x8 hx8 h => aR hx8 (fun _ => rfl) rfl<|sA rfl<|sN<|WC.region rfl rfl<|sV (rI (rW (s2 + (1 : Int))))<|sM rfl<|sN ?_
   cases oI h
   exact ⟨rfl, rfl⟩
  refine sN<|qS<|cF<|qX ?_
  cases oI h
  exact ⟨nofun, rfl, rfl⟩
 intro e R' B' he hq
 obtain ⟨rfl, hI⟩ := hq
 refine qE<|qS<|gS rfl hI<|sM rfl<|sE (rI (a0.length : Int)) (lenMap _ _)<|sV (r0)<|sN<|bE h fun o30 ho30 h => WC.block (WC.loop (WL.ofLoop ho30 (fun s R' B' => ghosts prog 0 (A R' B') (au.at_ 66 0 8) = some (A [(1, .d (.lst (a1.map ai.pd))), (5, .ref 464 0), (6, .ref 944 0), (31, .d (.lst (a0.map ai.pd))), (32, rI (a0.length : Int)), (33, rI s.1)] [(464, .arr 0 76 (o10.map aj.pd)), (944, .arr 0 76 (s.2.map aj.pd))])) (fun o e R' B' => e = .exit 2 ∧ ghosts prog 0 (A R' B') (au.at_ 66 0 17) = some (A [(5, .ref 464 0), (6, .ref 944 0)] [(464, .arr 0 76 (o10.map aj.pd)), (944, .arr 0 76 (o.map aj.pd))])) rfl ?_ ?_))
 ·rintro ⟨s11, s12⟩ R' B' q14 hI h
  refine gS rfl hI<|sF h (fun h => ?_) fun h => ?_
  ·refine sN<|qS<|cT<|qK<|qS<|qB<|gS rfl rfl<|bE h fun x16 hx16 h => eG hx16 rfl<|sV (.d (ai.pd x16))<|sB (.ptr 160 0) 160 (.var zZ2)<|sH 160 (.var (ai.rc x16))<|sN<|gS rfl rfl<|sM rfl ?_
   refine sE (rI (a1.length : Int)) (lenMap _ _)<|sV (r0)<|sN<|bE h fun o28 ho28 h => WC.block (WC.loop (WL.ofLoop ho28 (fun s R' B' => ghosts prog 0 (A R' B') (au.at_ 66 0 11) = some (A [(1, .d (.lst (a1.map ai.pd))), (5, .ref 464 0), (6, .ref 944 0), (10, .ptr 160 0), (31, .d (.lst (a0.map ai.pd))), (32, rI (a0.length : Int)), (33, rI s11), (37, .d (.lst (a1.map ai.pd))), (38, rI (a1.length : Int)), (39, rI s.1)] [(160, .var (ai.rc x16)), (464, .arr 0 76 (o10.map aj.pd)), (944, .arr 0 76 (s.2.map aj.pd))])) (fun o e R' B' => e = .exit 4 ∧ ghosts prog 0 (A R' B') (au.at_ 66 0 16) = some (A [(1, .d (.lst (a1.map ai.pd))), (5, .ref 464 0), (6, .ref 944 0), (31, .d (.lst (a0.map ai.pd))), (32, rI (a0.length : Int)), (33, rI o.1)] [(464, .arr 0 76 (o10.map aj.pd)), (944, .arr 0 76 (o.2.map aj.pd))])) rfl ?_ ?_))
   ·rintro ⟨s17, s18⟩ R' B' q21 hI h
    refine gS rfl hI<|sF h (fun h => ?_) fun h => ?_
    ·refine sN<|qS<|cT<|qK<|qS<|qB<|gS rfl rfl<|bE h fun x23 hx23 h => eG hx23 rfl<|sV (.d (ai.pd x23))<|sB (.ptr 192 0) 192 (.var zZ2)<|sH 192 (.var (ai.rc x23))<|sN<|gS rfl rfl<|sV (.d (ai.pd x16)) ?_
     refine sV (.d (ai.pd x23))<|bE h fun x24 hx24 h => ite_elim h (fun hb25 h => ?_) (fun hb25 h => ?_)
     ·refine WO.callR (v := rB true) (u := []) rfl rfl (fun _ => rfl) rfl rfl rfl rfl rfl (um hx24) rfl rfl (congrArg (fun b => RV.d (.bool b)) hb25) rfl<|sN<|cT<|WC.region rfl rfl<|sM rfl<|sV (.ptr 160 0)<|sL rfl<|sV (.ptr 192 0)<|sL rfl<|sV (rI (if x23.aK > x16.aK then x23.aK else x16.aK))<|sV (.ptr 160 1)<|sL rfl<|sV (.ptr 192 1)<|sL rfl<|sV (rI (if x23.fTo < x16.fTo then x23.fTo else x16.fTo)) ?_
      refine sV (.d (aj.pd (aj.mk (if x23.aK > x16.aK then x23.aK else x16.aK) (if x23.fTo < x16.fTo then x23.fTo else x16.fTo))))<|sV (.d (.lst ([(aj.mk (if x23.aK > x16.aK then x23.aK else x16.aK) (if x23.fTo < x16.fTo then x23.fTo else x16.fTo))].map aj.pd)))<|bE h fun x26 hx26 h => aR hx26 (fun _ => rfl) rfl<|sA rfl<|sN<|WC.region rfl rfl<|sV (rI (rW (s17 + (1 : Int))))<|sM rfl<|sN ?_
      cases oI h
      exact ⟨rfl, rfl⟩
     refine WO.callR (v := rB false) (u := []) rfl rfl (fun _ => rfl) rfl rfl rfl rfl rfl (um hx24) rfl rfl (congrArg (fun b => RV.d (.bool b)) hb25) rfl<|sN<|cF<|qK<|WC.region rfl rfl<|sV (rI (rW (s17 + (1 : Int))))<|sM rfl<|sN ?_
     cases oI h
     exact ⟨rfl, rfl⟩
    refine sN<|qS<|cF<|qX ?_
    cases oI h
    exact ⟨nofun, rfl, rfl⟩
   intro e R' B' he hq
   obtain ⟨rfl, hI⟩ := hq
   refine qE<|WC.region hI rfl<|sV (rI (rW (o28.1 + (1 : Int))))<|sM rfl<|sN ?_
   cases oI h
   exact ⟨rfl, rfl⟩
  refine sN<|qS<|cF<|qX ?_
  cases oI h
  exact ⟨nofun, rfl, rfl⟩
 intro e R' B' he hq
 obtain ⟨rfl, hI⟩ := hq
 refine qE<|gS rfl hI<|sM rfl<|sM rfl<|bE h fun x31 hx31 h => cR (.d (.lst (x31.map aj.pd))) [(464, .dead), (944, .dead)] (span_Minus_ev hx31)<|sA rfl<|sN<|qR ?_
 cases oI h
 exact qD
theorem w6 {a0 : ae} {a1 : ae} {r : (List az)} (h : lu a0 a1 = some r) : EvP prog au ext 31 [.d (ae.pd a0), .d (ae.pd a1)] [] (.d (.lst (r.map az.pd)), []) := by
 refine Ev.body rfl Tryz.func31 rfl (by kernel_rfl)<|gS rfl rfl<|sB (.ptr 32 0) 32 (.var [.d (.lst (a0.ap.map ac.pd))])<|sB (.ptr 48 0) 48 (.var [.d (.lst (a1.ap.map ac.pd))])<|sV .nils<|sN<|qS<|gS rfl rfl<|sV (.d (ae.pd a0))<|bE h fun x1 hx1 h => cD (ez hx1)<|sF h (fun h => ?_) fun h => ?_
 ·refine sM rfl<|k3<|sT<|sN<|cT<|gS rfl rfl<|sV .nils<|sN<|qR ?_
  cases oI h
  exact qD
 refine sM rfl<|sV (.d (ae.pd a1))<|bE h fun x3 hx3 h => cD (ez hx3)<|sV (rB (!x3))<|sF h (fun h => ?_) fun h => ?_
 ·refine sN<|cT<|gS rfl rfl<|sV .nils<|sN<|qR ?_
  cases oI h
  exact qD
 refine sN<|cF<|qK<|gS rfl rfl<|sV .nils<|sN<|qS<|gS rfl rfl<|sV (.ptr 32 0)<|sL rfl<|sV (.ptr 48 0)<|sL rfl<|sV (.d (.lst ([a0.ap, a1.ap].map (fun l => PD.lst (l.map ac.pd)))))<|bE h fun x5 hx5 h => cD (uH hx5) ?_
 refine sE (rI (x5.length : Int)) (lenMap _ _)<|sV (r0)<|sN<|bE h fun o14 ho14 h => WC.block (WC.loop (WL.ofLoop ho14 (fun s R' B' => ghosts prog 0 (A R' B') (au.at_ 31 0 5) = some (A [(2, .ptr 32 0), (3, .ptr 48 0), (5, .ref 624 0), (29, .d (.lst (x5.map ac.pd))), (30, rI (x5.length : Int)), (31, rI s.1)] [(32, .var [.d (.lst (a0.ap.map ac.pd))]), (48, .var [.d (.lst (a1.ap.map ac.pd))]), (624, .arr 0 50 (s.2.map ag.pd))])) (fun o e R' B' => e = .exit 0 ∧ ghosts prog 0 (A R' B') (au.at_ 31 0 9) = some (A [(2, .ptr 32 0), (3, .ptr 48 0), (5, .ref 624 0)] [(32, .var [.d (.lst (a0.ap.map ac.pd))]), (48, .var [.d (.lst (a1.ap.map ac.pd))]), (624, .arr 0 50 (o.map ag.pd))])) rfl ?_ ?_))
 ·rintro ⟨s6, s7⟩ R' B' q9 hI h
  refine gS rfl hI<|sF h (fun h => ?_) fun h => ?_
  ·refine sN<|qS<|cT<|qK<|qS<|qB<|gS rfl rfl<|bE h fun x11 hx11 h => eG hx11 rfl<|sV (.d (ac.pd x11))<|sB (.ptr 112 0) 112 (.var zZ3)<|sS 112 (.var (ac.rc x11))<|sN<|WC.region rfl rfl<|sM rfl ?_
   refine sV (.ptr 112 0)<|sV (.d (ag.pd x11.ak))<|sV (.d (.lst ([x11.ak].map ag.pd)))<|bE h fun x12 hx12 h => aR hx12 (fun _ => rfl) rfl<|sA rfl<|sN<|WC.region rfl rfl<|sV (rI (rW (s6 + (1 : Int))))<|sM rfl<|sN ?_
   cases oI h
   exact ⟨rfl, rfl⟩
  refine sN<|qS<|cF<|qX ?_
  cases oI h
  exact ⟨nofun, rfl, rfl⟩
 intro e R' B' he hq
 obtain ⟨rfl, hI⟩ := hq
 refine qE<|gS rfl hI<|sV .nils<|sN<|qS<|gS rfl rfl<|sM rfl<|bE h fun x15 hx15 h => cR (.d (.lst (x15.map ag.pd))) [(624, .dead)] (xa hx15)<|sE (rI (x15.length : Int)) (lenMap _ _)<|sV (r0)<|sN<|bE h fun o28 ho28 h => WC.block (WC.loop (WL.ofLoop ho28 (fun s R' B' => ghosts prog 0 (A R' B') (au.at_ 31 0 11) = some (A [(2, .ptr 32 0), (3, .ptr 48 0), (8, .ref 1168 0), (42, .d (.lst (x15.map ag.pd))), (43, rI (x15.length : Int)), (44, rI s.1)] [(32, .var [.d (.lst (a0.ap.map ac.pd))]), (48, .var [.d (.lst (a1.ap.map ac.pd))]), (1168, .arr 0 74 (s.2.map az.pd))])) (fun o e R' B' => e = .exit 2 ∧ ghosts prog 0 (A R' B') (au.at_ 31 0 19) = some (A [(8, .ref 1168 0)] [(1168, .arr 0 74 (o.map az.pd))])) rfl ?_ ?_))
 ·rintro ⟨s16, s17⟩ R' B' q19 hI h
  refine gS rfl hI<|sF h (fun h => ?_) fun h => ?_
  ·refine sN<|qS<|cT<|qK<|qS<|qB<|gS rfl rfl<|bE h fun x21 hx21 h => eG hx21 rfl<|sV (.d (ag.pd x21))<|sB (.ptr 160 0) 160 (.var [rS [], rS [], rS [], rS []])<|sS 160 (.var [rS x21.aB, rS x21.aA, rS x21.aw, rS x21.aC])<|sN<|gS rfl rfl<|sV (.d (ae.pd a0)) ?_
   refine sV (.d (ag.pd x21))<|bE h fun x22 hx22 h => cR (.tup [.d (ac.pd x22.1), rB x22.2]) [] (oK hx22)<|sM rfl<|sV (.d (ac.pd x22.1))<|sV (rB x22.2)<|sB (.ptr 176 0) 176 (.var zZ3)<|sS 176 (.var (ac.rc x22.1))<|sA rfl<|sN<|gS rfl rfl<|sV (.d (ae.pd a1))<|sV (.d (ag.pd x21))<|bE h fun x23 hx23 h => cR (.tup [.d (ac.pd x23.1), rB x23.2]) [] (oK hx23) ?_
   refine sM rfl<|sV (.d (ac.pd x23.1))<|sV (rB x23.2)<|sB (.ptr 208 0) 208 (.var zZ3)<|sS 208 (.var (ac.rc x23.1))<|sA rfl<|sN<|gS rfl rfl<|sV (.ptr 176 4)<|sL rfl<|sV (.ptr 208 4)<|sL rfl<|bE h fun x24 hx24 h => cD (yy hx24)<|sA rfl ?_
   refine sN<|gS rfl rfl<|sM rfl<|sE (rI (x24.length : Int)) (lenMap _ _)<|sF h (fun h => ?_) fun h => ?_
   ·refine sN<|cT<|WC.region rfl rfl<|sM rfl<|sV (.d (ag.pd x21))<|sM rfl<|sV (.d (.agg [.str x21.aB, .str x21.aA, .str x21.aw, .str x21.aC, .lst (x24.map aj.pd)]))<|sV (.d (.lst ([(az.mk x21 x24)].map az.pd)))<|bE h fun x26 hx26 h => aR hx26 (fun _ => rfl) rfl<|sA rfl<|sN<|WC.region rfl rfl<|sV (rI (rW (s16 + (1 : Int))))<|sM rfl ?_
    refine sN ?_
    cases oI h
    exact ⟨rfl, rfl⟩
   refine sN<|cF<|qK<|WC.region rfl rfl<|sV (rI (rW (s16 + (1 : Int))))<|sM rfl<|sN ?_
   cases oI h
   exact ⟨rfl, rfl⟩
  refine sN<|qS<|cF<|qX ?_
  cases oI h
  exact ⟨nofun, rfl, rfl⟩
 intro e R' B' he hq
 obtain ⟨rfl, hI⟩ := hq
 refine qE<|gS rfl hI<|sM rfl<|sA rfl<|sN<|qR ?_
 cases oI h
 exact qD
theorem span_Meet_ev {a0 : (List aj)} {a1 : (List aj)} {r : (List aj)} (h : xr a0 a1 = some r) : EvP prog au ext 114 [.d (.lst (a0.map aj.pd)), .d (.lst (a1.map aj.pd))] [] (.d (.lst (r.map aj.pd)), []) := by
 refine Ev.body rfl Tryz.func114 rfl (by kernel_rfl)<|gS rfl rfl<|sV .nils<|sN<|gS rfl rfl<|sM rfl<|bE h fun x1 hx1 h => cD (l9 hx1)<|sM rfl<|bE h fun x2 hx2 h => cD (l9 hx2)<|sA rfl<|sA rfl<|sN<|gS rfl rfl ?_
 refine sV .nils<|sN<|qS<|gS rfl rfl<|sV (r0)<|sV (r0)<|sN<|bE h fun o23 ho23 h => WC.block (WC.loop (WL.ofLoop ho23 (fun s R' B' => ghosts prog 0 (A R' B') (au.at_ 114 0 4) = some (A [(0, .d (.lst (x1.map aj.pd))), (1, .d (.lst (x2.map aj.pd))), (5, .ref 816 0), (6, rI s.1), (7, rI s.2.1)] [(816, .arr 0 76 (s.2.2.map aj.pd))])) (fun o e R' B' => e = .exit 0 ∧ ghosts prog 0 (A R' B') (au.at_ 114 0 11) = some (A [(5, .ref 816 0)] [(816, .arr 0 76 (o.map aj.pd))])) rfl ?_ ?_))
 ·rintro ⟨s3, s4, s5⟩ R' B' q7 hI h
  refine qS<|gS rfl hI<|sM rfl<|sM rfl<|sE (rI (x1.length : Int)) (lenMap _ _)<|sF h (fun h => ?_) fun h => ?_
  ·refine sM rfl<|sM rfl<|sM rfl<|sE (rI (x2.length : Int)) (lenMap _ _)<|sV (rB (decide (s4 < (x2.length : Int))))<|sF h (fun h => ?_) fun h => ?_
   ·refine sN<|cT<|qK<|qB<|WC.join (α := (List aj)) (fun x R' B' => ghosts prog 0 (A R' B') (au.at_ 114 0 8) = some (A [(0, .d (.lst (x1.map aj.pd))), (1, .d (.lst (x2.map aj.pd))), (5, .ref 816 0), (6, rI s3), (7, rI s4)] [(816, .arr 0 76 (x.map aj.pd))])) (fun x => jy x1 s3 x2 s4 x = some q7) ?_ ?_
    ·refine WC.regionDSeq rfl rfl<|sM rfl<|sM rfl<|bE h fun x15 hx15 h => eG hx15 rfl<|sV (.cptr [.int .i64 x15.aK, .int .i64 x15.fTo])<|sC rfl<|sM rfl<|sM rfl<|bE h fun x16 hx16 h => eG hx16 rfl<|sV (.cptr [.int .i64 x16.aK, .int .i64 x16.fTo])<|sC rfl<|sV (rI (if x16.aK > x15.aK then x16.aK else x15.aK))<|sM rfl ?_
     refine sM rfl<|bE h fun x17 hx17 h => eG hx17 rfl<|sV (.cptr [.int .i64 x17.fTo])<|sC rfl<|sM rfl<|sM rfl<|bE h fun x18 hx18 h => eG hx18 rfl<|sV (.cptr [.int .i64 x18.fTo])<|sC rfl<|sV (rI (if x18.fTo < x17.fTo then x18.fTo else x17.fTo))<|sV (.d (aj.pd (aj.mk (if x16.aK > x15.aK then x16.aK else x15.aK) (if x18.fTo < x17.fTo then x18.fTo else x17.fTo))))<|sB (.ptr 128 0) 128 (.var [r0, r0])<|sS 128 (.var [rI (if x16.aK > x15.aK then x16.aK else x15.aK), rI (if x18.fTo < x17.fTo then x18.fTo else x17.fTo)]) ?_
     refine sN<|sO<|gS rfl rfl<|sV (.d (aj.pd (aj.mk (if x16.aK > x15.aK then x16.aK else x15.aK) (if x18.fTo < x17.fTo then x18.fTo else x17.fTo))))<|bE h fun x19 hx19 h => ite_elim h (fun hb20 h => ?_) (fun hb20 h => ?_)
     ·exact WO.callR (v := rB true) (u := []) rfl rfl (fun _ => rfl) rfl rfl rfl rfl rfl (v8 hx19) rfl rfl (congrArg (fun b => RV.d (.bool b)) hb20) rfl<|sN<|cT<|WC.region rfl rfl<|sM rfl<|sV (.d (aj.pd (aj.mk (if x16.aK > x15.aK then x16.aK else x15.aK) (if x18.fTo < x17.fTo then x18.fTo else x17.fTo))))<|sV (.d (.lst ([(aj.mk (if x16.aK > x15.aK then x16.aK else x15.aK) (if x18.fTo < x17.fTo then x18.fTo else x17.fTo))].map aj.pd)))<|bE h fun x21 hx21 h => aR hx21 (fun _ => rfl) rfl<|sA rfl<|sN<|⟨x21, rfl, h⟩
     exact WO.callR (v := rB false) (u := []) rfl rfl (fun _ => rfl) rfl rfl rfl rfl rfl (v8 hx19) rfl rfl (congrArg (fun b => RV.d (.bool b)) hb20) rfl<|sN<|cF<|qK<|⟨s5, rfl, h⟩
    rintro j10 R' B' hI h
    refine WC.regionDSeq hI rfl<|sM rfl<|sM rfl<|bE h fun x11 hx11 h => eG hx11 rfl<|sV (.cptr [.int .i64 x11.fTo])<|sC rfl<|sM rfl<|sM rfl<|bE h fun x12 hx12 h => eG hx12 rfl<|sV (.cptr [.int .i64 x12.fTo])<|sC rfl<|sF h (fun h => ?_) fun h => ?_
    ·refine sN<|sO<|cT<|WC.region rfl rfl<|sM rfl<|sV (rI (rW (s3 + (1 : Int))))<|sA rfl<|sN ?_
     cases oI h
     exact ⟨rfl, rfl⟩
    refine sN<|sO<|cF<|WC.region rfl rfl<|sM rfl<|sV (rI (rW (s4 + (1 : Int))))<|sA rfl<|sN ?_
    cases oI h
    exact ⟨rfl, rfl⟩
   refine sN<|cF<|qX ?_
   cases oI h
   exact ⟨nofun, rfl, rfl⟩
  refine sM rfl<|k3<|sK<|sU<|sN<|cF<|qX ?_
  cases oI h
  exact ⟨nofun, rfl, rfl⟩
 intro e R' B' he hq
 obtain ⟨rfl, hI⟩ := hq
 refine qE<|gS rfl hI<|sM rfl<|sA rfl<|sN<|qR ?_
 cases oI h
 exact qD
theorem span_Cut_ev {a0 : (List aj)} {a1 : Int} {a2 : Int} {r : (List aj)} (h : span_Cut a0 a1 a2 = some r) : EvP prog au ext 69 [.d (.lst (a0.map aj.pd)), rI a1, rI a2] [] (.d (.lst (r.map aj.pd)), []) := by
 refine Ev.body rfl Tryz.func69 rfl (by kernel_rfl)<|gS rfl rfl<|sV .nils<|sN<|gS rfl rfl<|sM rfl<|sM rfl<|sM rfl<|sV (.d (aj.pd (aj.mk a1 a2)))<|sV (.d (.lst ([(aj.mk a1 a2)].map aj.pd)))<|bE h fun x1 hx1 h => cD (span_Meet_ev hx1)<|sA rfl<|sN<|qR ?_
 cases oI h
 exact qD
theorem nu {a0 : az} {d0 : ag} {d1 : Int} {d2 : Int} {r : Bool} (h : cH a0 d0 d1 d2 = some r) : EvP prog au ext 68 [.d (az.pd a0), .ptr 0 0, .ptr 1 0, .ptr 2 0] [.var [rS d0.aB, rS d0.aA, rS d0.aw, rS d0.aC], .var [rI d1], .var [rI d2]] (rB r, [.var [rS d0.aB, rS d0.aA, rS d0.aw, rS d0.aC], .var [rI d1], .var [rI d2]]) := by
 refine Ev.body rfl Tryz.func68 rfl (by kernel_rfl)<|gS rfl rfl<|sB (.ptr 64 0) 64 (.var (az.rc a0))<|sU<|sN<|gS rfl rfl<|sV (.ptr 64 0)<|sV (.d (ag.pd a0.ak))<|sV (.d (ag.pd d0))<|ite_elim h (fun hb1 h => ?_) (fun hb1 h => ?_)
 ·refine WO.binS (sW a0.ak d0) hb1 rfl rfl rfl rfl rfl<|sM rfl<|sV (.ptr 64 4)<|sL rfl<|sL rfl<|sL rfl<|bE h fun x2 hx2 h => cD (span_Cut_ev hx2)<|sE (rI (x2.length : Int)) (lenMap _ _)<|sV (rB (decide ((x2.length : Int) > (0 : Int))))<|sV (rB (decide ((x2.length : Int) > (0 : Int))))<|sA rfl<|sN<|qR ?_
  cases oI h
  exact qD
 refine WO.binS (sW a0.ak d0) hb1 rfl rfl rfl rfl rfl<|sM rfl<|k3<|k3<|sK<|sU<|sA rfl<|sN<|qR ?_
 cases oI h
 exact qD
theorem oo {a0 : (List az)} {d0 : ag} {d1 : Int} {d2 : Int} {r : Int} (h : fV a0 d0 d1 d2 = some r) : EvP prog au ext 113 [.d (.lst (a0.map az.pd)), .clo 68 [.ptr 0 0, .ptr 1 0, .ptr 2 0]] [.var [rS d0.aB, rS d0.aA, rS d0.aw, rS d0.aC], .var [rI d1], .var [rI d2]] (rI r, [.var [rS d0.aB, rS d0.aA, rS d0.aw, rS d0.aC], .var [rI d1], .var [rI d2]]) := by
 refine Ev.body rfl Tryz.func113 rfl (by kernel_rfl)<|gS rfl rfl<|sV (r0)<|sN<|qS<|gS rfl rfl<|sM rfl<|sE (rI (a0.length : Int)) (lenMap _ _)<|sV (r0)<|sN<|bE h fun o8 ho8 h => WC.block (WC.loop (WL.ofLoop ho8 (fun s R' B' => ghosts prog 3 (A R' B') (au.at_ 113 3 2) = some (A [(0, .d (.lst (a0.map az.pd))), (1, .clo 68 [.ptr 0 0, .ptr 1 0, .ptr 2 0]), (7, rI (a0.length : Int)), (8, rI s)] [(0, .var [rS d0.aB, rS d0.aA, rS d0.aw, rS d0.aC]), (1, .var [rI d1]), (2, .var [rI d2])])) (fun o e R' B' => match o with | .inl y => e = .exit 0 ∧ ghosts prog 3 (A R' B') (au.at_ 113 3 7) = some (A [] [(0, .var [rS d0.aB, rS d0.aA, rS d0.aw, rS d0.aC]), (1, .var [rI d1]), (2, .var [rI d2])]) | .inr r => e = .ret ∧ finish prog (au.own 113) Tryz.f113 3 (A R' B') = some (rI r, [.var [rS d0.aB, rS d0.aA, rS d0.aw, rS d0.aC], .var [rI d1], .var [rI d2]])) rfl ?_ ?_))
 ·rintro s1 R' B' q2 hI h
  refine gS rfl hI<|sF h (fun h => ?_) fun h => ?_
  ·refine sN<|qS<|cT<|qK<|qS<|qB<|gS rfl rfl<|sM rfl<|sA rfl<|sN<|gS rfl rfl<|sM rfl<|sM rfl<|sM rfl<|bE h fun x4 hx4 h => ?_
   refine eG hx4 rfl<|sV (.d (az.pd x4))<|bE h fun x5 hx5 h => ite_elim h (fun hb6 h => ?_) (fun hb6 h => ?_)
   ·refine WO.callR (v := rB true) (u := [(0, .var [rS d0.aB, rS d0.aA, rS d0.aw, rS d0.aC]), (1, .var [rI d1]), (2, .var [rI d2])]) rfl rfl (fun _ => rfl) rfl rfl rfl rfl rfl (nu hx5) rfl rfl (congrArg (fun b => RV.d (.bool b)) hb6) rfl<|sN<|cT<|gS rfl rfl<|sM rfl<|sA rfl<|sN<|qR ?_
    cases oI h
    exact ⟨nofun, rfl, rfl⟩
   refine WO.callR (v := rB false) (u := [(0, .var [rS d0.aB, rS d0.aA, rS d0.aw, rS d0.aC]), (1, .var [rI d1]), (2, .var [rI d2])]) rfl rfl (fun _ => rfl) rfl rfl rfl rfl rfl (nu hx5) rfl rfl (congrArg (fun b => RV.d (.bool b)) hb6) rfl<|sN<|cF<|qK<|WC.region rfl rfl<|sV (rI (rW (s1 + (1 : Int))))<|sM rfl<|sN ?_
   cases oI h
   exact ⟨rfl, rfl⟩
  refine sN<|qS<|cF<|qX ?_
  cases oI h
  exact ⟨nofun, rfl, rfl⟩
 intro e R' B' he hq
 rcases o8 with y9 | r10
 ·obtain ⟨rfl, hI⟩ := hq
  refine qE<|gS rfl hI<|sV (rI (-1))<|sN<|qR ?_
  cases oI h
  exact qD
 obtain ⟨rfl, hf⟩ := hq
 cases oI h
 exact hf
theorem mW {a0 : (List az)} {d0 : ag} {d1 : Int} {d2 : Int} {r : Bool} (h : eP a0 d0 d1 d2 = some r) : EvP prog au ext 67 [.d (.lst (a0.map az.pd)), .clo 68 [.ptr 0 0, .ptr 1 0, .ptr 2 0]] [.var [rS d0.aB, rS d0.aA, rS d0.aw, rS d0.aC], .var [rI d1], .var [rI d2]] (rB r, [.var [rS d0.aB, rS d0.aA, rS d0.aw, rS d0.aC], .var [rI d1], .var [rI d2]]) := by
 refine Ev.body rfl Tryz.func67 rfl (by kernel_rfl)<|gS rfl rfl<|sU<|sN<|gS rfl rfl<|sM rfl<|sM rfl<|bE h fun x1 hx1 h => cR (rI x1) [(0, .var [rS d0.aB, rS d0.aA, rS d0.aw, rS d0.aC]), (1, .var [rI d1]), (2, .var [rI d2])] (oo hx1)<|sV (rB (decide (x1 ≥ (0 : Int))))<|sA rfl<|sN<|qR ?_
 cases oI h
 exact qD
theorem sj {a0 : (List az)} {a1 : ag} {a2 : Int} {a3 : Int} {r : Bool} (h : jM a0 a1 a2 a3 = some r) : EvP prog au ext 32 [.d (.lst (a0.map az.pd)), .d (ag.pd a1), rI a2, rI a3] [] (rB r, []) := by
 refine Ev.body rfl Tryz.func32 rfl (by kernel_rfl)<|gS rfl rfl<|sB (.ptr 80 0) 80 (.var [rS a1.aB, rS a1.aA, rS a1.aw, rS a1.aC])<|sB (.ptr 96 0) 96 (.var [rI a2])<|sB (.ptr 112 0) 112 (.var [rI a3])<|sU<|sN<|gS rfl rfl<|sM rfl<|sV (.clo 68 [.ptr 80 0, .ptr 96 0, .ptr 112 0])<|bE h fun x1 hx1 h => cR (rB x1) [(80, .var [rS a1.aB, rS a1.aA, rS a1.aw, rS a1.aC]), (96, .var [rI a2]), (112, .var [rI a3])] (mW hx1)<|sA rfl<|sN<|qR ?_
 cases oI h
 exact qD
theorem inventory_at_ev {a0 : ac} {a1 : Int} {r : ai × Bool} (h : mj a0 a1 = some r) : EvP prog au ext 102 [.d (ac.pd a0), rI a1] [] (.tup [.d (ai.pd r.1), rB r.2], []) := by
 refine Ev.body rfl Tryz.func102 rfl (by kernel_rfl)<|gS rfl rfl<|sB (.ptr 32 0) 32 (.var (ac.rc a0))<|sB (.ptr 64 0) 64 (.var zZ2)<|sU<|sN<|qS<|gS rfl rfl<|sV (.ptr 32 4)<|sL rfl<|sE (rI (a0.aP.length : Int)) (lenMap _ _)<|sV (r0)<|sN<|bE h fun o8 ho8 h => WC.block (WC.loop (WL.ofLoop ho8 (fun s R' B' => ghosts prog 0 (A R' B') (au.at_ 102 0 2) = some (A [(1, rI a1), (4, .ptr 64 0), (9, .d (.lst (a0.aP.map ai.pd))), (10, rI (a0.aP.length : Int)), (11, rI s)] [(64, .var zZ2)])) (fun o e R' B' => match o with | .inl y => e = .exit 0 ∧ ghosts prog 0 (A R' B') (au.at_ 102 0 7) = some (A [(4, .ptr 64 0)] [(64, .var zZ2)]) | .inr r => e = .ret ∧ finish prog (au.own 102) Tryz.f102 0 (A R' B') = some (.tup [.d (ai.pd r.1), rB r.2], [])) rfl ?_ ?_))
 ·rintro s1 R' B' q2 hI h
  refine gS rfl hI<|sF h (fun h => ?_) fun h => ?_
  ·refine sN<|qS<|cT<|qK<|qS<|qB<|gS rfl rfl<|bE h fun x4 hx4 h => eG hx4 rfl<|sV (.d (ai.pd x4))<|sB (.ptr 112 0) 112 (.var zZ2)<|sH 112 (.var (ai.rc x4))<|sN<|gS rfl rfl<|sV (.ptr 112 0) ?_
   refine sL rfl<|sM rfl<|sF h (fun h => ?_) fun h => ?_
   ·refine sM rfl<|sM rfl<|sV (.ptr 112 1)<|sL rfl<|sV (rB (decide (a1 < x4.fTo)))<|sF h (fun h => ?_) fun h => ?_
    ·refine sN<|cT<|gS rfl rfl<|sV (.d (ai.pd x4))<|sH 64 (.var (ai.rc x4))<|sT<|sN<|qR ?_
     cases oI h
     exact ⟨nofun, rfl, rfl⟩
    refine sN<|cF<|qK<|WC.region rfl rfl<|sV (rI (rW (s1 + (1 : Int))))<|sM rfl<|sN ?_
    cases oI h
    exact ⟨rfl, rfl⟩
   refine sM rfl<|k3<|sK<|sU<|sN<|cF<|qK<|WC.region rfl rfl<|sV (rI (rW (s1 + (1 : Int))))<|sM rfl<|sN ?_
   cases oI h
   exact ⟨rfl, rfl⟩
  refine sN<|qS<|cF<|qX ?_
  cases oI h
  exact ⟨nofun, rfl, rfl⟩
 intro e R' B' he hq
 rcases o8 with y9 | r10
 ·obtain ⟨rfl, hI⟩ := hq
  refine qE<|gS rfl hI<|sG (.agg zZ2)<|sH 64 (.var zZ2)<|sU<|sN<|qR ?_
  cases oI h
  exact qG
 obtain ⟨rfl, hf⟩ := hq
 cases oI h
 exact hf
theorem rH {a0 : ae} {a1 : ag} {a2 : Int} {r : ai × Int} (h : jh a0 a1 a2 = some r) : EvP prog au ext 60 [.d (ae.pd a0), .d (ag.pd a1), rI a2] [] (.tup [.d (ai.pd r.1), rI r.2], []) := by
 refine Ev.body rfl Tryz.func60 rfl (by kernel_rfl)<|gS rfl rfl<|sB (.ptr 48 0) 48 (.var [.d (.lst (a0.ap.map ac.pd))])<|sB (.ptr 64 0) 64 (.var [rS a1.aB, rS a1.aA, rS a1.aw, rS a1.aC])<|sB (.ptr 96 0) 96 (.var zZ2)<|sV (r0)<|sN<|qS<|gS rfl rfl<|sV (.d (ae.pd a0))<|bE h fun x1 hx1 h => cD (ez hx1)<|sF h (fun h => ?_) fun h => ?_
 ·refine sN<|cT<|gS rfl rfl<|sG (.agg zZ2)<|sH 96 (.var zZ2)<|sV (rI 1)<|sN<|qR ?_
  cases oI h
  exact qG
 refine sN<|cF<|qK<|gS rfl rfl<|sV (.d (ae.pd a0))<|sV (.d (ag.pd a1))<|bE h fun x3 hx3 h => cR (.tup [.d (ac.pd x3.1), rB x3.2]) [] (oK hx3)<|sM rfl<|sV (.d (ac.pd x3.1))<|sV (rB x3.2)<|sB (.ptr 128 0) 128 (.var zZ3)<|sS 128 (.var (ac.rc x3.1))<|sA rfl<|sN ?_
 refine gS rfl rfl<|sV (.d (.agg [.str x3.1.ak.aB, .str x3.1.ak.aA, .str x3.1.ak.aw, .str x3.1.ak.aC, .lst (x3.1.aP.map ai.pd)]))<|sM rfl<|bE h fun x4 hx4 h => cR (.tup [.d (ai.pd x4.1), rB x4.2]) [] (inventory_at_ev hx4)<|sM rfl<|sV (.d (ai.pd x4.1))<|sV (rB x4.2)<|sB (.ptr 160 0) 160 (.var zZ2)<|sH 160 (.var (ai.rc x4.1))<|sA rfl<|sN<|qS<|gS rfl rfl<|sM rfl ?_
 refine sF h (fun h => ?_) fun h => ?_
 ·refine sN<|cT<|gS rfl rfl<|sG (.agg zZ2)<|sH 96 (.var zZ2)<|sV (rI 6)<|sN<|qR ?_
  cases oI h
  exact qG
 refine sN<|cF<|qK<|gS rfl rfl<|sV (.d (.agg [.int .i64 x4.1.aK, .int .i64 x4.1.fTo, .int .i64 x4.1.bI.aW, .int .i64 x4.1.bI.aQ, .int .i64 x4.1.aF.fX, .int .i64 x4.1.aF.fY, .int .i64 x4.1.aF.fZ, .lst (x4.1.aS.aO.map ar.pd)]))<|sH 96 (.var (ai.rc x4.1))<|sV (r0)<|sN<|qR ?_
 cases oI h
 exact qG
theorem fJ {a0 : ae} {a1 : ae} {a2 : aa} {r : Bool} (h : cB a0 a1 a2 = some r) : EvP prog au ext 28 [.d (ae.pd a0), .d (ae.pd a1), .d (aa.pd a2)] [] (rB r, []) := by
 refine Ev.body rfl Tryz.func28 rfl (by kernel_rfl)<|gS rfl rfl<|sB (.ptr 48 0) 48 (.var [.d (.lst (a0.ap.map ac.pd))])<|sB (.ptr 64 0) 64 (.var [.d (.lst (a1.ap.map ac.pd))])<|sB (.ptr 80 0) 80 (.var (aa.rc a2))<|sU<|sN<|gS rfl rfl<|sV (.d (ae.pd a0))<|sV (.ptr 80 0)<|sV (.d (ag.pd a2.ak))<|sV (.ptr 80 4)<|sL rfl<|bE h fun x1 hx1 h => cR (.tup [.d (ai.pd x1.1), rI x1.2]) [] (rH hx1) ?_
 refine sM rfl<|sV (.d (ai.pd x1.1))<|sV (rI x1.2)<|sB (.ptr 112 0) 112 (.var zZ2)<|sH 112 (.var (ai.rc x1.1))<|sA rfl<|sN<|gS rfl rfl<|sV (.d (ae.pd a1))<|sV (.ptr 80 0)<|sV (.d (ag.pd a2.ak))<|sV (.ptr 80 4)<|sL rfl<|bE h fun x2 hx2 h => cR (.tup [.d (ai.pd x2.1), rI x2.2]) [] (rH hx2) ?_
 refine sM rfl<|sV (.d (ai.pd x2.1))<|sV (rI x2.2)<|sB (.ptr 144 0) 144 (.var zZ2)<|sH 144 (.var (ai.rc x2.1))<|sA rfl<|sN<|qS<|gS rfl rfl<|sM rfl<|sF h (fun h => ?_) fun h => ?_
 ·refine sM rfl<|sK<|sK<|sT<|sN<|cT<|gS rfl rfl<|sM rfl<|sV (rB (x1.2 == (0 : Int)))<|sM rfl<|sV (rB (x2.2 == (0 : Int)))<|sV (rB (!((x1.2 == (0 : Int)) == (x2.2 == (0 : Int)))))<|sA rfl<|sN<|qR ?_
  cases oI h
  exact qG
 refine sM rfl<|sM rfl<|sV (rB (x2.2 != (0 : Int)))<|sF h (fun h => ?_) fun h => ?_
 ·refine sN<|cT<|gS rfl rfl<|sM rfl<|sV (rB (x1.2 == (0 : Int)))<|sM rfl<|sV (rB (x2.2 == (0 : Int)))<|sV (rB (!((x1.2 == (0 : Int)) == (x2.2 == (0 : Int)))))<|sA rfl<|sN<|qR ?_
  cases oI h
  exact qG
 refine sN<|cF<|qK<|gS rfl rfl<|sV (.ptr 112 4)<|sV (.d (aq.pd x1.1.aF))<|sV (.ptr 144 4)<|sV (.d (aq.pd x2.1.aF))<|ite_elim h (fun hb5 h => ?_) (fun hb5 h => ?_)
 ·refine WO.binS (eqN_28 x1.1.aF x2.1.aF) hb5 rfl rfl rfl rfl rfl<|sM rfl<|k3<|k3<|sT<|sA rfl<|sN<|qR ?_
  cases oI h
  exact qG
 refine WO.binS (eqN_28 x1.1.aF x2.1.aF) hb5 rfl rfl rfl rfl rfl<|sM rfl<|sV (.ptr 112 7)<|sV (.d (.agg [.lst (x1.1.aS.aO.map ar.pd)]))<|sV (.ptr 144 7)<|sV (.d (.agg [.lst (x2.1.aS.aO.map ar.pd)]))<|bE h fun x6 hx6 h => cD (uX hx6)<|sV (rB (!x6))<|sV (rB (!x6))<|sA rfl<|sN<|qR ?_
 cases oI h
 exact qG
theorem sy {a0 : (List Int)} {r : Bool} (h : js a0 = some r) : EvP prog au ext 6 [.d (.lst (a0.map (PD.int .i64)))] [] (rB r, []) := by
 refine Ev.body rfl Tryz.func6 rfl (by kernel_rfl)<|gS rfl rfl<|sU<|sN<|gS rfl rfl<|sM rfl<|bE h fun x1 hx1 h => cR (.ptr 304 0) [(304, .var [.d (.lst (x1.fL.map (PD.int .i64))), rI x1.fAt])] (qY hx1)<|sA rfl<|sN<|gS rfl rfl<|sM rfl<|bE h fun x2 hx2 h => cR (.d (aG.pd x2.1)) [(304, .var [.d (.lst (x2.2.fL.map (PD.int .i64))), rI x2.2.fAt])] (kw hx2)<|sM rfl ?_
 refine bE h fun x3 hx3 h => cR (.d (ae.pd x3.1)) [(304, .var [.d (.lst (x3.2.fL.map (PD.int .i64))), rI x3.2.fAt])] (oD hx3)<|sB (.ptr 64 0) 64 (.var zZ0)<|sB (.ptr 80 0) 80 (.var [.nils])<|sH 64 (.var (aG.rc x2.1))<|sS 80 (.var [.d (.lst (x3.1.ap.map ac.pd))])<|sN<|gS rfl rfl<|sM rfl<|sV (.d (.agg [.int .i64 x2.1.av.aT.bf.fX, .int .i64 x2.1.av.aT.bf.fY, .int .i64 x2.1.av.aT.bf.fZ, .int .i64 x2.1.av.aT.aY.fX, .int .i64 x2.1.av.aT.aY.fY, .int .i64 x2.1.av.aT.aY.fZ, .int .i64 x2.1.av.bw.bH, .lst (x2.1.av.bw.bf.map (PD.int .i64)), .lst (x2.1.av.bw.aY.map (PD.int .i64)), .int .i64 x2.1.av.ye, .int .i64 x2.1.av.bB, .int .i64 x2.1.av.oH, .int .i64 x2.1.av.nP, .int .i64 x2.1.av.nO, .int .i64 x2.1.cg.a8.bH, .lst (x2.1.cg.a8.bf.map (PD.int .i64)), .lst (x2.1.cg.a8.aY.map (PD.int .i64)), .int .i64 x2.1.cg.aW, .int .i64 x2.1.cg.aQ, .int .i64 x2.1.bB]))<|sV (.d (.agg [.lst (x3.1.ap.map ac.pd)]))<|bE h fun x4 hx4 h => cR (.d (.lst (x4.1.map aa.pd))) [(304, .var [.d (.lst (x4.2.fL.map (PD.int .i64))), rI x4.2.fAt])] (jY hx4)<|sA rfl<|sN ?_
 refine gS rfl rfl<|sM rfl<|sV (.d (.agg [.lst (x3.1.ap.map ac.pd)]))<|bE h fun x5 hx5 h => cR (.d (ae.pd x5.1)) [(304, .var [.d (.lst (x5.2.fL.map (PD.int .i64))), rI x5.2.fAt])] (pQ hx5)<|sB (.ptr 112 0) 112 (.var [.nils])<|sS 112 (.var [.d (.lst (x5.1.ap.map ac.pd))])<|sN<|gS rfl rfl<|sV (.d (.agg [.lst (x3.1.ap.map ac.pd)]))<|sV (.d (.agg [.lst (x5.1.ap.map ac.pd)]))<|bE h fun x6 hx6 h => cD (w6 hx6)<|sA rfl<|sN ?_
 refine gS rfl rfl<|sU<|sN<|qS<|gS rfl rfl<|sM rfl<|bE h fun x7 hx7 h => cD (kP hx7)<|sE (rI (x7.length : Int)) (lenMap _ _)<|sV (r0)<|sN<|bE h fun o26 ho26 h => WC.block (WC.loop (WL.ofLoop ho26 (fun s R' B' => ghosts prog 0 (A R' B') (au.at_ 6 0 8) = some (A [(5, .ptr 80 0), (6, .d (.lst (x4.1.map aa.pd))), (7, .ptr 112 0), (8, .d (.lst (x6.map az.pd))), (9, rB s.1), (35, .d (.lst (x7.map az.pd))), (36, rI (x7.length : Int)), (37, rI s.2)] [(80, .var [.d (.lst (x3.1.ap.map ac.pd))]), (112, .var [.d (.lst (x5.1.ap.map ac.pd))])])) (fun o e R' B' => e = .exit 0 ∧ ghosts prog 0 (A R' B') (au.at_ 6 0 16) = some (A [(5, .ptr 80 0), (6, .d (.lst (x4.1.map aa.pd))), (7, .ptr 112 0), (8, .d (.lst (x6.map az.pd))), (9, rB o)] [(80, .var [.d (.lst (x3.1.ap.map ac.pd))]), (112, .var [.d (.lst (x5.1.ap.map ac.pd))])])) rfl ?_ ?_))
 ·rintro ⟨s8, s9⟩ R' B' q11 hI h
  refine gS rfl hI<|sF h (fun h => ?_) fun h => ?_
  ·refine sN<|qS<|cT<|qK<|qS<|qB<|gS rfl rfl<|bE h fun x13 hx13 h => eG hx13 rfl<|sV (.d (az.pd x13))<|sB (.ptr 176 0) 176 (.var zZ3)<|sS 176 (.var (az.rc x13))<|sN<|gS rfl rfl<|sV (.ptr 176 4) ?_
   refine sL rfl<|sE (rI (x13.cj.length : Int)) (lenMap _ _)<|sV (r0)<|sN<|bE h fun o24 ho24 h => WC.block (WC.loop (WL.ofLoop ho24 (fun s R' B' => ghosts prog 0 (A R' B') (au.at_ 6 0 11) = some (A [(5, .ptr 80 0), (6, .d (.lst (x4.1.map aa.pd))), (7, .ptr 112 0), (8, .d (.lst (x6.map az.pd))), (9, rB s.1), (11, .ptr 176 0), (35, .d (.lst (x7.map az.pd))), (36, rI (x7.length : Int)), (37, rI s9), (42, .d (.lst (x13.cj.map aj.pd))), (43, rI (x13.cj.length : Int)), (44, rI s.2)] [(80, .var [.d (.lst (x3.1.ap.map ac.pd))]), (112, .var [.d (.lst (x5.1.ap.map ac.pd))]), (176, .var (az.rc x13))])) (fun o e R' B' => e = .exit 2 ∧ ghosts prog 0 (A R' B') (au.at_ 6 0 15) = some (A [(5, .ptr 80 0), (6, .d (.lst (x4.1.map aa.pd))), (7, .ptr 112 0), (8, .d (.lst (x6.map az.pd))), (9, rB o.1), (35, .d (.lst (x7.map az.pd))), (36, rI (x7.length : Int)), (37, rI o.2)] [(80, .var [.d (.lst (x3.1.ap.map ac.pd))]), (112, .var [.d (.lst (x5.1.ap.map ac.pd))])])) rfl ?_ ?_))
   ·rintro ⟨s14, s15⟩ R' B' q18 hI h
    refine gS rfl hI<|sF h (fun h => ?_) fun h => ?_
    ·refine sN<|qS<|cT<|qK<|qS<|qB<|gS rfl rfl<|bE h fun x20 hx20 h => eG hx20 rfl<|sV (.d (aj.pd x20))<|sB (.ptr 208 0) 208 (.var [r0, r0])<|sS 208 (.var [rI x20.aK, rI x20.fTo])<|sN<|WC.region rfl rfl<|sF h (fun h => ?_) fun h => ?_
     ·refine sM rfl<|k3<|k3<|sK<|sK<|sT<|sA rfl<|sN<|WC.region rfl rfl<|sV (rI (rW (s15 + (1 : Int))))<|sM rfl ?_
      refine sN ?_
      cases oI h
      exact ⟨rfl, rfl⟩
     refine sM rfl<|sM rfl<|sV (.ptr 176 0)<|sV (.d (ag.pd x13.ak))<|sV (.ptr 208 0)<|sL rfl<|sV (.ptr 208 1)<|sL rfl<|bE h fun x22 hx22 h => cD (sj hx22)<|sV (rB x22)<|sA rfl<|sN<|WC.region rfl rfl<|sV (rI (rW (s15 + (1 : Int)))) ?_
     refine sM rfl<|sN ?_
     cases oI h
     exact ⟨rfl, rfl⟩
    refine sN<|qS<|cF<|qX ?_
    cases oI h
    exact ⟨nofun, rfl, rfl⟩
   intro e R' B' he hq
   obtain ⟨rfl, hI⟩ := hq
   refine qE<|WC.region hI rfl<|sV (rI (rW (o24.2 + (1 : Int))))<|sM rfl<|sN ?_
   cases oI h
   exact ⟨rfl, rfl⟩
  refine sN<|qS<|cF<|qX ?_
  cases oI h
  exact ⟨nofun, rfl, rfl⟩
 intro e R' B' he hq
 obtain ⟨rfl, hI⟩ := hq
 refine qE<|gS rfl hI<|sU<|sN<|qS<|gS rfl rfl<|sM rfl<|sE (rI (x4.1.length : Int)) (lenMap _ _)<|sV (r0)<|sN<|bE h fun o40 ho40 h => WC.block (WC.loop (WL.ofLoop ho40 (fun s R' B' => ghosts prog 0 (A R' B') (au.at_ 6 0 18) = some (A [(5, .ptr 80 0), (7, .ptr 112 0), (8, .d (.lst (x6.map az.pd))), (9, rB o26), (14, rB s.1), (61, .d (.lst (x4.1.map aa.pd))), (62, rI (x4.1.length : Int)), (63, rI s.2)] [(80, .var [.d (.lst (x3.1.ap.map ac.pd))]), (112, .var [.d (.lst (x5.1.ap.map ac.pd))])])) (fun o e R' B' => match o with | .inl y => e = .exit 4 ∧ ghosts prog 0 (A R' B') (au.at_ 6 0 25) = some (A [(9, rB o26), (14, rB y)] []) | .inr r => e = .ret ∧ finish prog (au.own 6) Tryz.f6 0 (A R' B') = some (rB r, [])) rfl ?_ ?_))
 ·rintro ⟨s27, s28⟩ R' B' q30 hI h
  refine gS rfl hI<|sF h (fun h => ?_) fun h => ?_
  ·refine sN<|qS<|cT<|qK<|qS<|qB<|gS rfl rfl<|bE h fun x32 hx32 h => eG hx32 rfl<|sV (.d (aa.pd x32))<|sB (.ptr 256 0) 256 (.var zZ1)<|sH 256 (.var (aa.rc x32))<|sN<|gS rfl rfl<|sV (.d (.agg [.lst (x3.1.ap.map ac.pd)])) ?_
   refine sV (.d (.agg [.lst (x5.1.ap.map ac.pd)]))<|sV (.d (aa.pd x32))<|bE h fun x33 hx33 h => cD (fJ hx33)<|sA rfl<|sN<|qS<|gS rfl rfl<|sF h (fun h => ?_) fun h => ?_
   ·refine sM rfl<|sM rfl<|sV (.ptr 256 0)<|sV (.d (ag.pd x32.ak))<|sV (.ptr 256 4)<|sL rfl<|sV (.ptr 256 4)<|sL rfl<|sV (rI (rW (x32.aM + (1 : Int))))<|bE h fun x35 hx35 h => cD (sj hx35)<|sV (rB (!x35))<|sF h (fun h => ?_) fun h => ?_
    ·refine sN<|cT<|gS rfl rfl<|sU<|sN<|qR ?_
     cases oI h
     exact ⟨nofun, rfl, rfl⟩
    refine sN<|cF<|qK<|WC.region rfl rfl<|sF h (fun h => ?_) fun h => ?_
    ·refine sM rfl<|sK<|sT<|sA rfl<|sN<|WC.region rfl rfl<|sV (rI (rW (s28 + (1 : Int))))<|sM rfl<|sN ?_
     cases oI h
     exact ⟨rfl, rfl⟩
    refine sM rfl<|sM rfl<|sV (rB x33)<|sA rfl<|sN<|WC.region rfl rfl<|sV (rI (rW (s28 + (1 : Int))))<|sM rfl<|sN ?_
    cases oI h
    exact ⟨rfl, rfl⟩
   refine sM rfl<|k3<|k3<|k3<|sK<|sU<|sN<|cF<|qK ?_
   refine WC.region rfl rfl<|sF h (fun h => ?_) fun h => ?_
   ·refine sM rfl<|sK<|sT<|sA rfl<|sN<|WC.region rfl rfl<|sV (rI (rW (s28 + (1 : Int))))<|sM rfl<|sN ?_
    cases oI h
    exact ⟨rfl, rfl⟩
   refine sM rfl<|sM rfl<|sV (rB x33)<|sA rfl<|sN<|WC.region rfl rfl<|sV (rI (rW (s28 + (1 : Int))))<|sM rfl<|sN ?_
   cases oI h
   exact ⟨rfl, rfl⟩
  refine sN<|qS<|cF<|qX ?_
  cases oI h
  exact ⟨nofun, rfl, rfl⟩
 intro e R' B' he hq
 rcases o40 with y41 | r42
 ·obtain ⟨rfl, hI⟩ := hq
  refine qE<|gS rfl hI<|sM rfl<|sF h (fun h => ?_) fun h => ?_
  ·refine sM rfl<|sK<|sT<|sM rfl<|bE h fun x44 hx44 h => cD (fa hx44)<|sV (rB x44)<|sA rfl<|sN<|qR ?_
   cases oI h
   exact qD
  refine sM rfl<|sM rfl<|sF h (fun h => ?_) fun h => ?_
  ·refine sM rfl<|bE h fun x46 hx46 h => cD (fa hx46)<|sV (rB x46)<|sA rfl<|sN<|qR ?_
   cases oI h
   exact qD
  refine sM rfl<|sK<|sU<|sA rfl<|sN<|qR ?_
  cases oI h
  exact qD
 obtain ⟨rfl, hf⟩ := hq
 cases oI h
 exact hf
end Go.Dw.De
