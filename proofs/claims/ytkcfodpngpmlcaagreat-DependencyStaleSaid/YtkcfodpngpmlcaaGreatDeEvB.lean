
import Derived.Test.YtkcfodpngpmlcaaGreatDeEvA

set_option maxRecDepth 100000
set_option maxHeartbeats 4000000
namespace Go.Dw.De
open Go.Proofs Go.Proofs.Tryz Go.Dw
theorem pu {a1 : ae} {d0 : ah} {r : ae × ah} (h : gN a1 d0 = some r) : EvP prog au ext 19 [.ptr 0 0, .d (ae.pd a1)] [.var [.d (.lst (d0.fL.map (PD.int .i64))), rI d0.fAt]] (.d (ae.pd r.1), [.var [.d (.lst (r.2.fL.map (PD.int .i64))), rI r.2.fAt]]) := by
 refine Ev.body rfl Tryz.func19 rfl (by kernel_rfl)<|gS rfl rfl<|sB (.ptr 48 0) 48 (.var [.d (.lst (a1.aq.map ac.pd))])<|sB (.ptr 64 0) 64 (.var [.nils])<|sN<|gS rfl rfl<|sB (.ptr 80 0) 80 (.var [.nils])<|sN<|qS<|gS rfl rfl<|sV (.ptr 48 0)<|sL rfl<|sE (rI (a1.aq.length : Int)) (lenMap _ _)<|sV (r0)<|sN ?_
 refine bE h fun o53 ho53 h => WC.block (WC.loop (WL.ofLoop ho53 (fun s R' B' => ghosts prog 1 (A R' B') (au.at_ 19 1 3) = some (A [(0, .ptr 0 0), (4, .ptr 64 0), (5, .ptr 80 0), (10, .d (.lst (a1.aq.map ac.pd))), (11, rI (a1.aq.length : Int)), (12, rI s.1)] [(0, .var [.d (.lst (s.2.1.map (PD.int .i64))), rI s.2.2.1]), (64, .var [.nils]), (80, .var [.ref 1536 0]), (1536, .arr 0 99 (s.2.2.2.map ac.pd))])) (fun o e R' B' => e = .exit 0 ∧ ghosts prog 1 (A R' B') (au.at_ 19 1 20) = some (A [(4, .ptr 64 0), (5, .ptr 80 0)] [(0, .var [.d (.lst (o.1.map (PD.int .i64))), rI o.2.1]), (64, .var [.nils]), (80, .var [.ref 1536 0]), (1536, .arr 0 99 (o.2.2.map ac.pd))])) rfl ?_ ?_))
 ·rintro ⟨s1, s2, s3, s4⟩ R' B' q8 hI h
  refine gS rfl hI<|sF h (fun h => ?_) fun h => ?_
  ·refine sN<|qS<|cT<|qK<|qS<|qB<|gS rfl rfl<|bE h fun x10 hx10 h => eG hx10 rfl<|sV (.d (ac.pd x10))<|sB (.ptr 112 0) 112 (.var zZ3)<|sS 112 (.var (ac.rc x10))<|sN<|gS rfl rfl<|sB (.ref 256 0) 256 (.arr 0 96 (([] : List ai).map ai.pd)) ?_
   refine sV (.ptr 112 4)<|sL rfl<|bE h fun x11 hx11 h => aR hx11 (fun _ => rfl) rfl<|sV (.ptr 112 4)<|sS 112 (.var [rS x10.al.aB, rS x10.al.aA, rS x10.al.aw, rS x10.al.aC, .ref 256 1])<|sN<|gS rfl rfl<|sM rfl<|sV (.ptr 112 4)<|sL rfl<|WO.lenR rfl rfl rfl rfl rfl rfl rfl rfl rfl<|bE h fun x12 hx12 h => cR (rI x12.1) [(0, .var [.d (.lst (x12.2.fL.map (PD.int .i64))), rI x12.2.fAt])] (bt hx12)<|sA rfl ?_
   refine sN<|qS<|gS rfl rfl<|sM rfl<|bE h fun x13 hx13 h => cR (rI x13.1) [(0, .var [.d (.lst (x13.2.fL.map (PD.int .i64))), rI x13.2.fAt])] (bt hx13)<|sN<|qB<|gS rfl rfl<|sF h (fun h => ?_) fun h => ?_
   ·refine sA rfl<|sN<|cT<|WC.regionD rfl rfl<|sV (.ptr 112 4)<|sL rfl<|sM rfl<|sM rfl<|bE h fun x15 hx15 h => cR (.d (ap.pd x15.1)) [(0, .var [.d (.lst (x15.2.fL.map (PD.int .i64))), rI x15.2.fAt])] (rT hx15)<|bE h fun x17 hx17 h => WO.eltG hx17 rfl rfl rfl rfl rfl rfl rfl rfl<|sV (.elt 256 1 (x12.1).toNat 4)<|bE h fun x18 hx18 h => WO.storeF (g := ai.pd) (u := []) (sz := 3) hx18 (fun _ => rfl) (fun _ => Nat.le_of_ble_eq_true rfl) rfl rfl rfl rfl rfl rfl rfl rfl rfl rfl rfl ?_
    refine sN<|sO<|WC.region rfl rfl<|sV (.ptr 80 0)<|sL rfl<|sV (.agg [rS x10.al.aB, rS x10.al.aA, rS x10.al.aw, rS x10.al.aC, .ref 256 1])<|sB (.d (.lst [ac.pd (ac.mk x10.al x18)])) 256 .dead<|bE h fun x20 hx20 h => aR hx20 (fun _ => rfl) rfl<|sV (.ptr 80 0)<|sS 80 (.var [.ref 1536 1])<|sN<|WC.region rfl rfl<|sV (rI (rW (s1 + (1 : Int))))<|sM rfl<|sN ?_
    cases oI h
    exact ⟨rfl, rfl⟩
   refine sA rfl<|sN<|cF<|gS rfl rfl<|sF h (fun h => ?_) fun h => ?_
   ·refine sA rfl<|sN<|cT<|WC.regionD rfl rfl<|sV (.ptr 112 4)<|sL rfl<|sM rfl<|sM rfl<|bE h fun x22 hx22 h => cR (.d (aD.pd x22.1)) [(0, .var [.d (.lst (x22.2.fL.map (PD.int .i64))), rI x22.2.fAt])] (qQ hx22)<|bE h fun x24 hx24 h => WO.eltG hx24 rfl rfl rfl rfl rfl rfl rfl rfl<|sV (.elt 256 1 (x12.1).toNat 7)<|bE h fun x25 hx25 h => WO.storeF (g := ai.pd) (u := []) (sz := 1) hx25 (fun _ => rfl) (fun _ => Nat.le_of_ble_eq_true rfl) rfl rfl rfl rfl rfl rfl rfl rfl rfl rfl rfl ?_
    refine sN<|sO<|WC.region rfl rfl<|sV (.ptr 80 0)<|sL rfl<|sV (.agg [rS x10.al.aB, rS x10.al.aA, rS x10.al.aw, rS x10.al.aC, .ref 256 1])<|sB (.d (.lst [ac.pd (ac.mk x10.al x25)])) 256 .dead<|bE h fun x27 hx27 h => aR hx27 (fun _ => rfl) rfl<|sV (.ptr 80 0)<|sS 80 (.var [.ref 1536 1])<|sN<|WC.region rfl rfl<|sV (rI (rW (s1 + (1 : Int))))<|sM rfl<|sN ?_
    cases oI h
    exact ⟨rfl, rfl⟩
   refine sA rfl<|sN<|cF<|gS rfl rfl<|sF h (fun h => ?_) fun h => ?_
   ·refine sA rfl<|sN<|cT<|WC.regionD rfl rfl<|sV (.ptr 112 4)<|sL rfl<|sV (.ptr 112 4)<|sL rfl<|WO.lenR rfl rfl rfl rfl rfl rfl rfl rfl rfl<|sV (rI (rW ((x11.length : Int) - (1 : Int))))<|sV (.ptr 112 4)<|sL rfl<|sV (.ptr 112 4)<|sL rfl<|WO.lenR rfl rfl rfl rfl rfl rfl rfl rfl rfl ?_
    refine sV (rI (rW ((x11.length : Int) - (1 : Int))))<|bE h fun x30 hx30 h => WO.eltG hx30 rfl rfl rfl rfl rfl rfl rfl rfl<|sV (.elt 256 1 ((rW ((x11.length : Int) - (1 : Int)))).toNat 0)<|bE h fun x31 hx31 h => WO.loadE hx31 rfl rfl rfl rfl rfl rfl<|sV (rI (rW (x31.aL + (1 : Int))))<|sM rfl<|bE h fun x32 hx32 h => cR (rI x32.1) [(0, .var [.d (.lst (x32.2.fL.map (PD.int .i64))), rI x32.2.fAt])] (bt hx32)<|sM rfl<|sV (.d (.lst ([1, 1000].map (PD.int .i64))))<|bE h fun x33 hx33 h => cR (rI x33.1) [(0, .var [.d (.lst (x33.2.fL.map (PD.int .i64))), rI x33.2.fAt])] (cu hx33)<|sV (rI (rW (x32.1 * x33.1))) ?_
    refine sV (rI (rW ((rW (x31.aL + (1 : Int))) + (rW (x32.1 * x33.1)))))<|bE h fun x35 hx35 h => WO.eltG hx35 rfl rfl rfl rfl rfl rfl rfl rfl<|sV (.elt 256 1 ((rW ((x11.length : Int) - (1 : Int)))).toNat 1)<|bE h fun x36 hx36 h => WO.storeF (g := ai.pd) (u := []) (sz := 1) hx36 (fun _ => rfl) (fun _ => Nat.le_of_ble_eq_true rfl) rfl rfl rfl rfl rfl rfl rfl rfl rfl rfl rfl ?_
    refine sN<|sO<|WC.region rfl rfl<|sV (.ptr 80 0)<|sL rfl<|sV (.agg [rS x10.al.aB, rS x10.al.aA, rS x10.al.aw, rS x10.al.aC, .ref 256 1])<|sB (.d (.lst [ac.pd (ac.mk x10.al x36)])) 256 .dead<|bE h fun x38 hx38 h => aR hx38 (fun _ => rfl) rfl<|sV (.ptr 80 0)<|sS 80 (.var [.ref 1536 1])<|sN<|WC.region rfl rfl<|sV (rI (rW (s1 + (1 : Int))))<|sM rfl<|sN ?_
    cases oI h
    exact ⟨rfl, rfl⟩
   refine sA rfl<|sN<|cF<|gS rfl rfl<|sF h (fun h => ?_) fun h => ?_
   ·refine sA rfl<|sN<|cT<|qX<|⟨fun he => (by cases he), fun _ => ?_⟩
    refine qE<|WC.region rfl rfl<|sV (rI (rW (s1 + (1 : Int))))<|sM rfl<|sN ?_
    cases oI h
    exact ⟨rfl, rfl⟩
   refine sA rfl<|sN<|cF<|gS rfl rfl<|sF h (fun h => ?_) fun h => ?_
   ·refine sA rfl<|sN<|cT<|WC.regionDSeq rfl rfl<|sV (.ptr 112 4)<|sL rfl<|sM rfl<|sM rfl<|bE h fun x41 hx41 h => cR (rI x41.1) [(0, .var [.d (.lst (x41.2.fL.map (PD.int .i64))), rI x41.2.fAt])] (bt hx41)<|sV (rI (rW ((50 : Int) + x41.1)))<|bE h fun x43 hx43 h => WO.eltG hx43 rfl rfl rfl rfl rfl rfl rfl rfl<|sV (.elt 256 1 (x12.1).toNat 2)<|sV (.elt 256 1 (x12.1).toNat 2) ?_
    refine bE h fun x44 hx44 h => WO.storeF (g := ai.pd) (u := []) (sz := 1) hx44 (fun _ => rfl) (fun _ => Nat.le_of_ble_eq_true rfl) rfl rfl rfl rfl rfl rfl rfl rfl rfl rfl rfl ?_
    refine sN<|sO<|WC.region rfl rfl<|sV (.ptr 112 4)<|sL rfl<|sM rfl<|bE h fun x47 hx47 h => WO.eltG hx47 rfl rfl rfl rfl rfl rfl rfl rfl<|sV (.elt 256 1 (x12.1).toNat 2)<|sV (.elt 256 1 (x12.1).toNat 3)<|bE h fun x48 hx48 h => WO.storeF (g := ai.pd) (u := []) (sz := 1) hx48 (fun _ => rfl) (fun _ => Nat.le_of_ble_eq_true rfl) rfl rfl rfl rfl rfl rfl rfl rfl rfl rfl rfl<|sN<|WC.region rfl rfl<|sV (.ptr 80 0)<|sL rfl ?_
    refine sV (.agg [rS x10.al.aB, rS x10.al.aA, rS x10.al.aw, rS x10.al.aC, .ref 256 1])<|sB (.d (.lst [ac.pd (ac.mk x10.al x48)])) 256 .dead<|bE h fun x50 hx50 h => aR hx50 (fun _ => rfl) rfl<|sV (.ptr 80 0)<|sS 80 (.var [.ref 1536 1])<|sN<|WC.region rfl rfl<|sV (rI (rW (s1 + (1 : Int))))<|sM rfl<|sN ?_
    cases oI h
    exact ⟨rfl, rfl⟩
   refine sA rfl<|sN<|cF<|qK<|WC.region rfl rfl<|sV (.ptr 80 0)<|sL rfl<|sV (.agg [rS x10.al.aB, rS x10.al.aA, rS x10.al.aw, rS x10.al.aC, .ref 256 1])<|sB (.d (.lst [ac.pd (ac.mk x10.al x11)])) 256 .dead<|bE h fun x51 hx51 h => aR hx51 (fun _ => rfl) rfl<|sV (.ptr 80 0)<|sS 80 (.var [.ref 1536 1])<|sN<|WC.region rfl rfl ?_
   refine sV (rI (rW (s1 + (1 : Int))))<|sM rfl<|sN ?_
   cases oI h
   exact ⟨rfl, rfl⟩
  refine sN<|qS<|cF<|qX ?_
  cases oI h
  exact ⟨nofun, rfl, rfl⟩
 intro e R' B' he hq
 obtain ⟨rfl, hI⟩ := hq
 refine qE<|gS rfl hI<|sV (.agg [.ref 1536 0])<|sS 64 (.var [.ref 1536 0])<|sN<|qR ?_
 cases oI h
 exact qD
theorem xS {a0 : Int} {a1 : Int} {a2 : Int} {r : Bool} (h : yH a0 a1 a2 = some r) : EvP prog au ext 201 [rI a0, rI a1, rI a2] [] (rB r, []) := by
 refine Ev.body rfl Tryz.func201 rfl (by kernel_rfl)<|gS rfl rfl<|sU<|sN<|gS rfl rfl<|sM rfl<|sM rfl<|sF h (fun h => ?_) fun h => ?_
 ·refine sM rfl<|sM rfl<|sM rfl<|sV (rB (decide (a0 ≤ a2)))<|sV (rB (decide (a0 ≤ a2)))<|sA rfl<|sN<|qR ?_
  cases oI h
  exact qD
 refine sM rfl<|k3<|sU<|sA rfl<|sN<|qR ?_
 cases oI h
 exact qD
theorem rate_gcd_ev {a0 : Int} {a1 : Int} {r : Int} (h : yG a0 a1 = some r) : EvP prog au ext 202 [rI a0, rI a1] [] (rI r, []) := by
 refine Ev.body rfl Tryz.func202 rfl (by kernel_rfl)<|gS rfl rfl<|sV (r0)<|sN<|qS<|bE h fun o8 ho8 h => WC.block (WC.loop (WL.ofLoop ho8 (fun s R' B' => ghosts prog 0 (A R' B') (au.at_ 202 0 1) = some (A [(0, rI s.1), (1, rI s.2)] [])) (fun o e R' B' => e = .exit 0 ∧ ghosts prog 0 (A R' B') (au.at_ 202 0 3) = some (A [(0, rI o)] [])) rfl ?_ ?_))
 ·rintro ⟨s1, s2⟩ R' B' q4 hI h
  refine qS<|gS rfl hI<|sM rfl<|sF h (fun h => ?_) fun h => ?_
  ·refine sN<|cT<|qK<|qB<|WC.regionD rfl rfl<|sM rfl<|sM rfl<|sM rfl<|bE h fun x6 hx6 h => WO.remG hx6 rfl rfl rfl rfl rfl rfl<|sA rfl<|sA rfl ?_
   refine sN<|sO ?_
   cases oI h
   exact ⟨rfl, rfl⟩
  refine sN<|cF<|qX ?_
  cases oI h
  exact ⟨nofun, rfl, rfl⟩
 intro e R' B' he hq
 obtain ⟨rfl, hI⟩ := hq
 refine qE<|gS rfl hI<|sM rfl<|sA rfl<|sN<|qR ?_
 cases oI h
 exact qD
theorem rate_Valid_ev {a0 : aT} {r : Bool} (h : sw a0 = some r) : EvP prog au ext 176 [.d (aT.pd a0)] [] (rB r, []) := by
 refine Ev.body rfl Tryz.func176 rfl (by kernel_rfl)<|gS rfl rfl<|sB (.ptr 16 0) 16 (.var [rI a0.aW, rI a0.aQ])<|sU<|sN<|gS rfl rfl<|sV (.ptr 16 0)<|sL rfl<|bE h fun x1 hx1 h => ite_elim h (fun hb2 h => ?_) (fun hb2 h => ?_)
 ·refine WO.callR (v := rB true) (u := []) rfl rfl (fun _ => rfl) rfl rfl rfl rfl rfl (xS hx1) rfl rfl (congrArg (fun b => RV.d (.bool b)) hb2) rfl<|sM rfl<|sV (.ptr 16 1)<|sL rfl<|bE h fun x3 hx3 h => cD (xS hx3)<|sF h (fun h => ?_) fun h => ?_
  ·refine sM rfl<|sV (.ptr 16 0)<|sL rfl<|sV (.ptr 16 1)<|sL rfl<|bE h fun x5 hx5 h => cD (rate_gcd_ev hx5)<|sV (rB (x5 == (1 : Int)))<|sV (rB (x5 == (1 : Int)))<|sA rfl<|sN<|qR ?_
   cases oI h
   exact qD
  refine sM rfl<|k3<|k3<|sU<|sA rfl<|sN<|qR ?_
  cases oI h
  exact qD
 refine WO.callR (v := rB false) (u := []) rfl rfl (fun _ => rfl) rfl rfl rfl rfl rfl (xS hx1) rfl rfl (congrArg (fun b => RV.d (.bool b)) hb2) rfl<|sM rfl<|k3<|sU<|sM rfl<|k3<|k3<|sU<|sA rfl ?_
 refine sN<|qR ?_
 cases oI h
 exact qD
theorem cJ {a0 : Int} {a1 : Int} {a2 : Int} {r : Bool} (h : cA a0 a1 a2 = some r) : EvP prog au ext 220 [rI a0, rI a1, rI a2] [] (rB r, []) := by
 refine Ev.body rfl Tryz.func220 rfl (by kernel_rfl)<|gS rfl rfl<|sU<|sN<|gS rfl rfl<|sM rfl<|sM rfl<|sF h (fun h => ?_) fun h => ?_
 ·refine sM rfl<|sM rfl<|sM rfl<|sV (rB (decide (a0 ≤ a2)))<|sV (rB (decide (a0 ≤ a2)))<|sA rfl<|sN<|qR ?_
  cases oI h
  exact qD
 refine sM rfl<|k3<|sU<|sA rfl<|sN<|qR ?_
 cases oI h
 exact qD
theorem oQ {a0 : Int} {r : Bool} (h : gt a0 = some r) : EvP prog au ext 227 [rI a0] [] (rB r, []) := by
 refine Ev.body rfl Tryz.func227 rfl (by kernel_rfl)<|gS rfl rfl<|sU<|sN<|gS rfl rfl<|sM rfl<|bE h fun x1 hx1 h => cD (cJ hx1)<|sV (rB (!x1))<|sA rfl<|sN<|qR ?_
 cases oI h
 exact qD
theorem rK {a0 : (List Int)} {r : Int} (h : dA a0 = some r) : EvP prog au ext 235 [.d (.lst (a0.map (PD.int .i64))), .d (.raw (.func (.func 227) #[] #[]))] [] (rI r, []) := by
 refine Ev.body rfl Tryz.func235 rfl (by kernel_rfl)<|gS rfl rfl<|sV (r0)<|sN<|qS<|gS rfl rfl<|sM rfl<|sE (rI (a0.length : Int)) (lenMap _ _)<|sV (r0)<|sN<|bE h fun o8 ho8 h => WC.block (WC.loop (WL.ofLoop ho8 (fun s R' B' => ghosts prog 0 (A R' B') (au.at_ 235 0 2) = some (A [(0, .d (.lst (a0.map (PD.int .i64)))), (1, .d (.raw (.func (.func 227) #[] #[]))), (7, rI (a0.length : Int)), (8, rI s)] [])) (fun o e R' B' => match o with | .inl y => e = .exit 0 ∧ ghosts prog 0 (A R' B') (au.at_ 235 0 7) = some (A [] []) | .inr r => e = .ret ∧ finish prog (au.own 235) Tryz.f235 0 (A R' B') = some (rI r, [])) rfl ?_ ?_))
 ·rintro s1 R' B' q2 hI h
  refine gS rfl hI<|sF h (fun h => ?_) fun h => ?_
  ·refine sN<|qS<|cT<|qK<|qS<|qB<|gS rfl rfl<|sM rfl<|sA rfl<|sN<|gS rfl rfl<|sM rfl<|sM rfl<|sM rfl<|bE h fun x4 hx4 h => ?_
   refine eG hx4 rfl<|sC rfl<|bE h fun x5 hx5 h => ite_elim h (fun hb6 h => ?_) (fun hb6 h => ?_)
   ·refine WO.callR (v := rB true) (u := []) rfl rfl (fun _ => rfl) rfl rfl rfl rfl rfl (oQ hx5) rfl rfl (congrArg (fun b => RV.d (.bool b)) hb6) rfl<|sN<|cT<|gS rfl rfl<|sM rfl<|sA rfl<|sN<|qR ?_
    cases oI h
    exact ⟨nofun, rfl, rfl⟩
   refine WO.callR (v := rB false) (u := []) rfl rfl (fun _ => rfl) rfl rfl rfl rfl rfl (oQ hx5) rfl rfl (congrArg (fun b => RV.d (.bool b)) hb6) rfl<|sN<|cF<|qK<|WC.region rfl rfl<|sV (rI (rW (s1 + (1 : Int))))<|sM rfl<|sN ?_
   cases oI h
   exact ⟨rfl, rfl⟩
  refine sN<|qS<|cF<|qX ?_
  cases oI h
  exact ⟨nofun, rfl, rfl⟩
 intro e R' B' he hq
 rcases o8 with y9 | r10
 ·obtain ⟨rfl, hI⟩ := hq
  refine qE<|gS rfl hI<|sV (rI (-1))<|sN<|qR ?_
  cases oI h
  exact qD
 obtain ⟨rfl, hf⟩ := hq
 cases oI h
 exact hf
theorem pc {a0 : (List Int)} {r : Bool} (h : cL a0 = some r) : EvP prog au ext 226 [.d (.lst (a0.map (PD.int .i64))), .d (.raw (.func (.func 227) #[] #[]))] [] (rB r, []) := by
 refine Ev.body rfl Tryz.func226 rfl (by kernel_rfl)<|gS rfl rfl<|sU<|sN<|gS rfl rfl<|sM rfl<|sM rfl<|bE h fun x1 hx1 h => cD (rK hx1)<|sV (rB (decide (x1 ≥ (0 : Int))))<|sA rfl<|sN<|qR ?_
 cases oI h
 exact qD
theorem iU {a0 : (List Int)} {r : Bool} (h : cK a0 = some r) : EvP prog au ext 221 [.d (.lst (a0.map (PD.int .i64)))] [] (rB r, []) := by
 refine Ev.body rfl Tryz.func221 rfl (by kernel_rfl)<|gS rfl rfl<|sU<|sN<|gS rfl rfl<|sM rfl<|bE h fun x1 hx1 h => cD (pc hx1)<|sV (rB (!x1))<|sA rfl<|sN<|qR ?_
 cases oI h
 exact qD
theorem rG {a0 : (List Int)} {r : Int} (h : lY a0 = some r) : EvP prog au ext 222 [.d (.lst (a0.map (PD.int .i64)))] [] (rI r, []) := by
 refine Ev.body rfl Tryz.func222 rfl (by kernel_rfl)<|gS rfl rfl<|sV (r0)<|sN<|gS rfl rfl<|sV (r0)<|sN<|qS<|gS rfl rfl<|sM rfl<|sE (rI (a0.length : Int)) (lenMap _ _)<|sV (r0)<|sN<|bE h fun o8 ho8 h => WC.block (WC.loop (WL.ofLoop ho8 (fun s R' B' => ghosts prog 0 (A R' B') (au.at_ 222 0 3) = some (A [(3, rI s.1), (6, .d (.lst (a0.map (PD.int .i64)))), (7, rI (a0.length : Int)), (8, rI s.2)] [])) (fun o e R' B' => e = .exit 0 ∧ ghosts prog 0 (A R' B') (au.at_ 222 0 7) = some (A [(3, rI o)] [])) rfl ?_ ?_))
 ·rintro ⟨s1, s2⟩ R' B' q4 hI h
  refine gS rfl hI<|sF h (fun h => ?_) fun h => ?_
  ·refine sN<|qS<|cT<|qK<|qS<|qB<|gS rfl rfl<|bE h fun x6 hx6 h => eG hx6 rfl<|sC rfl<|sA rfl<|sN<|WC.region rfl rfl<|sM rfl<|sM rfl ?_
   refine sV (rI (rW (s1 + x6)))<|sA rfl<|sN<|WC.region rfl rfl<|sV (rI (rW (s2 + (1 : Int))))<|sM rfl<|sN ?_
   cases oI h
   exact ⟨rfl, rfl⟩
  refine sN<|qS<|cF<|qX ?_
  cases oI h
  exact ⟨nofun, rfl, rfl⟩
 intro e R' B' he hq
 obtain ⟨rfl, hI⟩ := hq
 refine qE<|gS rfl hI<|sM rfl<|sA rfl<|sN<|qR ?_
 cases oI h
 exact qD
theorem vA {a0 : ar} {r : Bool} (h : dD a0 = some r) : EvP prog au ext 205 [.d (ar.pd a0)] [] (rB r, []) := by
 refine Ev.body rfl Tryz.func205 rfl (by kernel_rfl)<|gS rfl rfl<|sB (.ptr 16 0) 16 (.var (ar.rc a0))<|sU<|sN<|gS rfl rfl<|sV (.ptr 16 7)<|sL rfl<|sE (rI (a0.br.length : Int)) (lenMap _ _)<|sF h (fun h => ?_) fun h => ?_
 ·refine sM rfl<|sV (.ptr 16 8)<|sL rfl<|sV (rB (a0.bg == (0 : Int)))<|sF h (fun h => ?_) fun h => ?_
  ·refine sM rfl<|sV (.ptr 16 9)<|sL rfl<|sV (rB (a0.bz == (0 : Int)))<|sV (rB (a0.bz == (0 : Int)))<|sA rfl<|sN<|qS<|gS rfl rfl<|sV (.ptr 16 0)<|sL rfl<|sN<|qB<|gS rfl rfl<|sF h (fun h => ?_) fun h => ?_
   ·refine sA rfl<|sN<|cT<|gS rfl rfl<|sF h (fun h => ?_) fun h => ?_
    ·refine sM rfl<|sV (.ptr 16 1)<|sV (.d (aU.pd a0.aW))<|sV (.ptr 16 1)<|sV (.ptr 16 1)<|sL rfl<|sV (.d (aU.pd (aU.mk a0.aW.a0 0 0)))<|WO.bin (fg a0.aW (aU.mk a0.aW.a0 0 0)) rfl rfl rfl rfl rfl<|sF h (fun h => ?_) fun h => ?_
     ·refine sM rfl<|sV (.ptr 16 4)<|sV (.d (aU.pd a0.aQ))<|sV (.ptr 16 4)<|sV (.ptr 16 4)<|sL rfl<|sV (.d (aU.pd (aU.mk a0.aQ.a0 0 0)))<|WO.bin (fg a0.aQ (aU.mk a0.aQ.a0 0 0)) rfl rfl rfl rfl rfl<|sF h (fun h => ?_) fun h => ?_
      ·refine sM rfl<|sV (.ptr 16 1)<|sV (.ptr 16 1)<|sL rfl<|bE h fun x7 hx7 h => cD (cJ hx7)<|sF h (fun h => ?_) fun h => ?_
       ·refine sM rfl<|sV (.ptr 16 4)<|sV (.ptr 16 4)<|sL rfl<|bE h fun x9 hx9 h => cD (cJ hx9)<|sV (rB x9)<|sA rfl<|sN<|qR ?_
        cases oI h
        exact qG
       refine sM rfl<|k3<|sK<|sU<|sA rfl<|sN<|qR ?_
       cases oI h
       exact qG
      refine sM rfl<|k3<|sK<|sU<|sM rfl<|k3<|sK<|sU<|sA rfl<|sN<|qR ?_
      cases oI h
      exact qG
     refine sM rfl<|k3<|k3<|sK<|sU<|sM rfl<|k3<|sK<|sU ?_
     refine sM rfl<|k3<|sK<|sU<|sA rfl<|sN<|qR ?_
     cases oI h
     exact qG
    refine sM rfl<|k3<|k3<|sK<|sU<|sM rfl<|k3<|sK<|sK ?_
    refine sK<|sK<|sU<|sM rfl<|k3<|sK<|sU<|sM rfl<|k3<|sK<|sU ?_
    refine sA rfl<|sN<|qR ?_
    cases oI h
    exact qG
   refine sA rfl<|sN<|cF<|gS rfl rfl<|sF h (fun h => ?_) fun h => ?_
   ·refine sA rfl<|sN<|cT<|WC.regionSeq (R0 := [(1, .cptr [.int .i64 a0.bZ, .int .i64 a0.aW.a0, .int .i64 a0.aW.a1, .int .i64 a0.aW.a2, .int .i64 a0.aQ.a0, .int .i64 a0.aQ.a1, .int .i64 a0.aQ.a2, .lst (a0.br.map (PD.int .i64)), .int .i64 a0.bg, .int .i64 a0.bz]), (3, rB (a0.bz == (0 : Int)))]) (B0 := []) rfl rfl<|sF h (fun h => ?_) fun h => ?_
    ·refine sM rfl<|sV (.cptr [.int .i64 a0.aW.a0, .int .i64 a0.aW.a1, .int .i64 a0.aW.a2, .int .i64 a0.aQ.a0, .int .i64 a0.aQ.a1, .int .i64 a0.aQ.a2, .lst (a0.br.map (PD.int .i64)), .int .i64 a0.bg, .int .i64 a0.bz])<|sV (.d (.lst ([a0.aW.a0, a0.aW.a1, a0.aW.a2].map (PD.int .i64))))<|bE h fun x12 hx12 h => cD (iU hx12)<|sF h (fun h => ?_) fun h => ?_
     ·refine sM rfl<|sV (.cptr [.int .i64 a0.aQ.a0, .int .i64 a0.aQ.a1, .int .i64 a0.aQ.a2, .lst (a0.br.map (PD.int .i64)), .int .i64 a0.bg, .int .i64 a0.bz])<|sV (.d (.lst ([a0.aQ.a0, a0.aQ.a1, a0.aQ.a2].map (PD.int .i64))))<|bE h fun x14 hx14 h => cD (iU hx14)<|sF h (fun h => ?_) fun h => ?_
      ·refine sM rfl<|sV (.cptr [.int .i64 a0.aQ.a0, .int .i64 a0.aQ.a1, .int .i64 a0.aQ.a2, .lst (a0.br.map (PD.int .i64)), .int .i64 a0.bg, .int .i64 a0.bz])<|sV (.cptr [.int .i64 a0.aQ.a0, .int .i64 a0.aQ.a1, .int .i64 a0.aQ.a2, .lst (a0.br.map (PD.int .i64)), .int .i64 a0.bg, .int .i64 a0.bz])<|sC rfl<|sV (rB (a0.aQ.a0 != (0 : Int)))<|sV (rB (a0.aQ.a0 != (0 : Int)))<|sA rfl<|sN<|qR ?_
       cases oI h
       exact qD
      refine sM rfl<|k3<|sK<|sU<|sA rfl<|sN<|qR ?_
      cases oI h
      exact qD
     refine sM rfl<|k3<|sU<|sM rfl<|k3<|sK<|sU<|sA rfl<|sN<|qR ?_
     cases oI h
     exact qD
    refine sM rfl<|k3<|sU<|sM rfl<|k3<|sU<|sM rfl<|k3<|sK ?_
    refine sU<|sA rfl<|sN<|qR ?_
    cases oI h
    exact qD
   refine sA rfl<|sN<|cF<|gS rfl rfl<|sF h (fun h => ?_) fun h => ?_
   ·refine sA rfl<|sN<|cT<|gS rfl rfl<|sV (.ptr 16 1)<|sV (.d (aU.pd a0.aW))<|sV (.d (aU.pd (aU.mk 0 0 0)))<|ite_elim h (fun hb17 h => ?_) (fun hb17 h => ?_)
    ·refine WO.binS (fg a0.aW (aU.mk 0 0 0)) hb17 rfl rfl rfl rfl rfl<|sM rfl<|sV (.ptr 16 4)<|sV (.d (aU.pd a0.aQ))<|sV (.d (aU.pd (aU.mk 0 0 0)))<|WO.bin (fg a0.aQ (aU.mk 0 0 0)) rfl rfl rfl rfl rfl<|sF h (fun h => ?_) fun h => ?_
     ·refine sM rfl<|sV (.ptr 16 7)<|sL rfl<|sE (rI (a0.br.length : Int)) (lenMap _ _)<|bE h fun x19 hx19 h => cD (cJ hx19)<|sF h (fun h => ?_) fun h => ?_
      ·refine sM rfl<|sV (.ptr 16 7)<|sL rfl<|bE h fun x21 hx21 h => cD (iU hx21)<|sF h (fun h => ?_) fun h => ?_
       ·refine sM rfl<|sV (.ptr 16 7)<|sL rfl<|bE h fun x23 hx23 h => cD (rG hx23)<|sV (rB (x23 != (0 : Int)))<|sF h (fun h => ?_) fun h => ?_
        ·refine sM rfl<|sV (.ptr 16 8)<|sL rfl<|bE h fun x25 hx25 h => cD (cJ hx25)<|sF h (fun h => ?_) fun h => ?_
         ·refine sM rfl<|sV (.ptr 16 9)<|sL rfl<|bE h fun x27 hx27 h => cD (cJ hx27)<|sV (rB x27)<|sA rfl<|sN<|qR ?_
          cases oI h
          exact qG
         refine sM rfl<|k3<|sU<|sA rfl<|sN<|qR ?_
         cases oI h
         exact qG
        refine sM rfl<|k3<|sU<|sM rfl<|k3<|sU<|sA rfl<|sN<|qR ?_
        cases oI h
        exact qG
       refine sM rfl<|k3<|sK<|sU<|sM rfl<|k3<|sU<|sM rfl<|sK<|sK<|sK ?_
       refine sU<|sA rfl<|sN<|qR ?_
       cases oI h
       exact qG
      refine sM rfl<|k3<|sU<|sM rfl<|k3<|sK<|sU<|sM rfl<|sK<|sK<|sK ?_
      refine sU<|sM rfl<|k3<|sU<|sA rfl<|sN<|qR ?_
      cases oI h
      exact qG
     refine sM rfl<|k3<|sK<|sU<|sM rfl<|k3<|sU<|sM rfl<|sK<|sK<|sK ?_
     refine sK<|sU<|sM rfl<|k3<|sU<|sM rfl<|k3<|sU<|sA rfl<|sN<|qR ?_
     cases oI h
     exact qG
    refine WO.binS (fg a0.aW (aU.mk 0 0 0)) hb17 rfl rfl rfl rfl rfl<|sM rfl<|k3<|sK<|sU<|sM rfl<|k3<|sK<|sU<|sM rfl<|sK ?_
    refine sK<|sK<|sU<|sM rfl<|k3<|sK<|sU<|sM rfl<|k3<|sU<|sM rfl ?_
    refine k3<|sU<|sA rfl<|sN<|qR ?_
    cases oI h
    exact qG
   refine sA rfl<|sN<|cF<|qK<|gS rfl rfl<|sU<|sN<|qR ?_
   cases oI h
   exact qG
  refine sM rfl<|k3<|sU<|sA rfl<|sN<|qS<|gS rfl rfl<|sV (.ptr 16 0)<|sL rfl<|sN<|qB<|gS rfl rfl<|sF h (fun h => ?_) fun h => ?_
  ·refine sA rfl<|sN<|cT<|gS rfl rfl<|sM rfl<|sM rfl<|k3<|k3<|sK<|sU<|sM rfl ?_
   refine k3<|k3<|sK<|sU<|sM rfl<|k3<|sK<|sU<|sM rfl ?_
   refine k3<|sK<|sU<|sA rfl<|sN<|qR ?_
   cases oI h
   exact qG
  refine sA rfl<|sN<|cF<|gS rfl rfl<|sF h (fun h => ?_) fun h => ?_
  ·refine sA rfl<|sN<|cT<|WC.regionSeq (R0 := [(1, .cptr [.int .i64 a0.bZ, .int .i64 a0.aW.a0, .int .i64 a0.aW.a1, .int .i64 a0.aW.a2, .int .i64 a0.aQ.a0, .int .i64 a0.aQ.a1, .int .i64 a0.aQ.a2, .lst (a0.br.map (PD.int .i64)), .int .i64 a0.bg, .int .i64 a0.bz]), (3, rB false)]) (B0 := []) rfl rfl<|sM rfl<|sM rfl<|k3<|sU<|sM rfl<|k3<|sU ?_
   refine sM rfl<|k3<|sK<|sU<|sA rfl<|sN<|qR ?_
   cases oI h
   exact qD
  refine sA rfl<|sN<|cF<|gS rfl rfl<|sF h (fun h => ?_) fun h => ?_
  ·refine sA rfl<|sN<|cT<|gS rfl rfl<|sV (.ptr 16 1)<|sV (.d (aU.pd a0.aW))<|sV (.d (aU.pd (aU.mk 0 0 0)))<|ite_elim h (fun hb31 h => ?_) (fun hb31 h => ?_)
   ·refine WO.binS (fg a0.aW (aU.mk 0 0 0)) hb31 rfl rfl rfl rfl rfl<|sM rfl<|sV (.ptr 16 4)<|sV (.d (aU.pd a0.aQ))<|sV (.d (aU.pd (aU.mk 0 0 0)))<|WO.bin (fg a0.aQ (aU.mk 0 0 0)) rfl rfl rfl rfl rfl<|sF h (fun h => ?_) fun h => ?_
    ·refine sM rfl<|sV (.ptr 16 7)<|sL rfl<|sE (rI (a0.br.length : Int)) (lenMap _ _)<|bE h fun x33 hx33 h => cD (cJ hx33)<|sF h (fun h => ?_) fun h => ?_
     ·refine sM rfl<|sV (.ptr 16 7)<|sL rfl<|bE h fun x35 hx35 h => cD (iU hx35)<|sF h (fun h => ?_) fun h => ?_
      ·refine sM rfl<|sV (.ptr 16 7)<|sL rfl<|bE h fun x37 hx37 h => cD (rG hx37)<|sV (rB (x37 != (0 : Int)))<|sF h (fun h => ?_) fun h => ?_
       ·refine sM rfl<|sV (.ptr 16 8)<|sL rfl<|bE h fun x39 hx39 h => cD (cJ hx39)<|sF h (fun h => ?_) fun h => ?_
        ·refine sM rfl<|sV (.ptr 16 9)<|sL rfl<|bE h fun x41 hx41 h => cD (cJ hx41)<|sV (rB x41)<|sA rfl<|sN<|qR ?_
         cases oI h
         exact qG
        refine sM rfl<|k3<|sU<|sA rfl<|sN<|qR ?_
        cases oI h
        exact qG
       refine sM rfl<|k3<|sU<|sM rfl<|k3<|sU<|sA rfl<|sN<|qR ?_
       cases oI h
       exact qG
      refine sM rfl<|k3<|sK<|sU<|sM rfl<|k3<|sU<|sM rfl<|sK<|sK<|sK ?_
      refine sU<|sA rfl<|sN<|qR ?_
      cases oI h
      exact qG
     refine sM rfl<|k3<|sU<|sM rfl<|k3<|sK<|sU<|sM rfl<|sK<|sK<|sK ?_
     refine sU<|sM rfl<|k3<|sU<|sA rfl<|sN<|qR ?_
     cases oI h
     exact qG
    refine sM rfl<|k3<|sK<|sU<|sM rfl<|k3<|sU<|sM rfl<|sK<|sK<|sK ?_
    refine sK<|sU<|sM rfl<|k3<|sU<|sM rfl<|k3<|sU<|sA rfl<|sN<|qR ?_
    cases oI h
    exact qG
   refine WO.binS (fg a0.aW (aU.mk 0 0 0)) hb31 rfl rfl rfl rfl rfl<|sM rfl<|k3<|sK<|sU<|sM rfl<|k3<|sK<|sU<|sM rfl<|sK ?_
   refine sK<|sK<|sU<|sM rfl<|k3<|sK<|sU<|sM rfl<|k3<|sU<|sM rfl ?_
   refine k3<|sU<|sA rfl<|sN<|qR ?_
   cases oI h
   exact qG
  refine sA rfl<|sN<|cF<|qK<|gS rfl rfl<|sU<|sN<|qR ?_
  cases oI h
  exact qG
 refine sM rfl<|k3<|sU<|sM rfl<|k3<|sU<|sA rfl<|sN<|qS<|gS rfl rfl<|sV (.ptr 16 0) ?_
 refine sL rfl<|sN<|qB<|gS rfl rfl<|sF h (fun h => ?_) fun h => ?_
 ·refine sA rfl<|sN<|cT<|gS rfl rfl<|sM rfl<|sM rfl<|k3<|k3<|sK<|sU<|sM rfl ?_
  refine k3<|k3<|sK<|sU<|sM rfl<|k3<|sK<|sU<|sM rfl ?_
  refine k3<|sK<|sU<|sA rfl<|sN<|qR ?_
  cases oI h
  exact qG
 refine sA rfl<|sN<|cF<|gS rfl rfl<|sF h (fun h => ?_) fun h => ?_
 ·refine sA rfl<|sN<|cT<|WC.regionSeq (R0 := [(1, .cptr [.int .i64 a0.bZ, .int .i64 a0.aW.a0, .int .i64 a0.aW.a1, .int .i64 a0.aW.a2, .int .i64 a0.aQ.a0, .int .i64 a0.aQ.a1, .int .i64 a0.aQ.a2, .lst (a0.br.map (PD.int .i64)), .int .i64 a0.bg, .int .i64 a0.bz]), (3, rB false)]) (B0 := []) rfl rfl<|sM rfl<|sM rfl<|k3<|sU<|sM rfl<|k3<|sU ?_
  refine sM rfl<|k3<|sK<|sU<|sA rfl<|sN<|qR ?_
  cases oI h
  exact qD
 refine sA rfl<|sN<|cF<|gS rfl rfl<|sF h (fun h => ?_) fun h => ?_
 ·refine sA rfl<|sN<|cT<|gS rfl rfl<|sV (.ptr 16 1)<|sV (.d (aU.pd a0.aW))<|sV (.d (aU.pd (aU.mk 0 0 0)))<|ite_elim h (fun hb45 h => ?_) (fun hb45 h => ?_)
  ·refine WO.binS (fg a0.aW (aU.mk 0 0 0)) hb45 rfl rfl rfl rfl rfl<|sM rfl<|sV (.ptr 16 4)<|sV (.d (aU.pd a0.aQ))<|sV (.d (aU.pd (aU.mk 0 0 0)))<|WO.bin (fg a0.aQ (aU.mk 0 0 0)) rfl rfl rfl rfl rfl<|sF h (fun h => ?_) fun h => ?_
   ·refine sM rfl<|sV (.ptr 16 7)<|sL rfl<|sE (rI (a0.br.length : Int)) (lenMap _ _)<|bE h fun x47 hx47 h => cD (cJ hx47)<|sF h (fun h => ?_) fun h => ?_
    ·refine sM rfl<|sV (.ptr 16 7)<|sL rfl<|bE h fun x49 hx49 h => cD (iU hx49)<|sF h (fun h => ?_) fun h => ?_
     ·refine sM rfl<|sV (.ptr 16 7)<|sL rfl<|bE h fun x51 hx51 h => cD (rG hx51)<|sV (rB (x51 != (0 : Int)))<|sF h (fun h => ?_) fun h => ?_
      ·refine sM rfl<|sV (.ptr 16 8)<|sL rfl<|bE h fun x53 hx53 h => cD (cJ hx53)<|sF h (fun h => ?_) fun h => ?_
       ·refine sM rfl<|sV (.ptr 16 9)<|sL rfl<|bE h fun x55 hx55 h => cD (cJ hx55)<|sV (rB x55)<|sA rfl<|sN<|qR ?_
        cases oI h
        exact qG
       refine sM rfl<|k3<|sU<|sA rfl<|sN<|qR ?_
       cases oI h
       exact qG
      refine sM rfl<|k3<|sU<|sM rfl<|k3<|sU<|sA rfl<|sN<|qR ?_
      cases oI h
      exact qG
     refine sM rfl<|k3<|sK<|sU<|sM rfl<|k3<|sU<|sM rfl<|sK<|sK<|sK ?_
     refine sU<|sA rfl<|sN<|qR ?_
     cases oI h
     exact qG
    refine sM rfl<|k3<|sU<|sM rfl<|k3<|sK<|sU<|sM rfl<|sK<|sK<|sK ?_
    refine sU<|sM rfl<|k3<|sU<|sA rfl<|sN<|qR ?_
    cases oI h
    exact qG
   refine sM rfl<|k3<|sK<|sU<|sM rfl<|k3<|sU<|sM rfl<|sK<|sK<|sK ?_
   refine sK<|sU<|sM rfl<|k3<|sU<|sM rfl<|k3<|sU<|sA rfl<|sN<|qR ?_
   cases oI h
   exact qG
  refine WO.binS (fg a0.aW (aU.mk 0 0 0)) hb45 rfl rfl rfl rfl rfl<|sM rfl<|k3<|sK<|sU<|sM rfl<|k3<|sK<|sU<|sM rfl<|sK ?_
  refine sK<|sK<|sU<|sM rfl<|k3<|sK<|sU<|sM rfl<|k3<|sU<|sM rfl ?_
  refine k3<|sU<|sA rfl<|sN<|qR ?_
  cases oI h
  exact qG
 refine sA rfl<|sN<|cF<|qK<|gS rfl rfl<|sU<|sN<|qR ?_
 cases oI h
 exact qG
theorem oN {a0 : ar} {r : Bool} (h : gr a0 = some r) : EvP prog au ext 204 [.d (ar.pd a0)] [] (rB r, []) := by
 refine Ev.body rfl Tryz.func204 rfl (by kernel_rfl)<|gS rfl rfl<|sB (.ptr 16 0) 16 (.var (ar.rc a0))<|sU<|sN<|gS rfl rfl<|sV (.d (ar.pd a0))<|bE h fun x1 hx1 h => cD (vA hx1)<|sV (rB (!x1))<|sA rfl<|sN<|qR ?_
 cases oI h
 exact qG
theorem qb {a0 : (List ar)} {r : Int} (h : cX a0 = some r) : EvP prog au ext 219 [.d (.lst (a0.map ar.pd)), .d (.raw (.func (.func 204) #[] #[]))] [] (rI r, []) := by
 refine Ev.body rfl Tryz.func219 rfl (by kernel_rfl)<|gS rfl rfl<|sV (r0)<|sN<|qS<|gS rfl rfl<|sM rfl<|sE (rI (a0.length : Int)) (lenMap _ _)<|sV (r0)<|sN<|bE h fun o8 ho8 h => WC.block (WC.loop (WL.ofLoop ho8 (fun s R' B' => ghosts prog 0 (A R' B') (au.at_ 219 0 2) = some (A [(0, .d (.lst (a0.map ar.pd))), (1, .d (.raw (.func (.func 204) #[] #[]))), (7, rI (a0.length : Int)), (8, rI s)] [])) (fun o e R' B' => match o with | .inl y => e = .exit 0 ∧ ghosts prog 0 (A R' B') (au.at_ 219 0 7) = some (A [] []) | .inr r => e = .ret ∧ finish prog (au.own 219) Tryz.f219 0 (A R' B') = some (rI r, [])) rfl ?_ ?_))
 ·rintro s1 R' B' q2 hI h
  refine gS rfl hI<|sF h (fun h => ?_) fun h => ?_
  ·refine sN<|qS<|cT<|qK<|qS<|qB<|gS rfl rfl<|sM rfl<|sA rfl<|sN<|gS rfl rfl<|sM rfl<|sM rfl<|sM rfl<|bE h fun x4 hx4 h => ?_
   refine eG hx4 rfl<|sV (.d (ar.pd x4))<|bE h fun x5 hx5 h => ite_elim h (fun hb6 h => ?_) (fun hb6 h => ?_)
   ·refine WO.callR (v := rB true) (u := []) rfl rfl (fun _ => rfl) rfl rfl rfl rfl rfl (oN hx5) rfl rfl (congrArg (fun b => RV.d (.bool b)) hb6) rfl<|sN<|cT<|gS rfl rfl<|sM rfl<|sA rfl<|sN<|qR ?_
    cases oI h
    exact ⟨nofun, rfl, rfl⟩
   refine WO.callR (v := rB false) (u := []) rfl rfl (fun _ => rfl) rfl rfl rfl rfl rfl (oN hx5) rfl rfl (congrArg (fun b => RV.d (.bool b)) hb6) rfl<|sN<|cF<|qK<|WC.region rfl rfl<|sV (rI (rW (s1 + (1 : Int))))<|sM rfl<|sN ?_
   cases oI h
   exact ⟨rfl, rfl⟩
  refine sN<|qS<|cF<|qX ?_
  cases oI h
  exact ⟨nofun, rfl, rfl⟩
 intro e R' B' he hq
 rcases o8 with y9 | r10
 ·obtain ⟨rfl, hI⟩ := hq
  refine qE<|gS rfl hI<|sV (rI (-1))<|sN<|qR ?_
  cases oI h
  exact qD
 obtain ⟨rfl, hf⟩ := hq
 cases oI h
 exact hf
theorem nS {a0 : (List ar)} {r : Bool} (h : cb a0 = some r) : EvP prog au ext 203 [.d (.lst (a0.map ar.pd)), .d (.raw (.func (.func 204) #[] #[]))] [] (rB r, []) := by
 refine Ev.body rfl Tryz.func203 rfl (by kernel_rfl)<|gS rfl rfl<|sU<|sN<|gS rfl rfl<|sM rfl<|sM rfl<|bE h fun x1 hx1 h => cD (qb hx1)<|sV (rB (decide (x1 ≥ (0 : Int))))<|sA rfl<|sN<|qR ?_
 cases oI h
 exact qD
theorem yd {a0 : (List ar)} {r : Int} (h : iL a0 = some r) : EvP prog au ext 206 [.d (.lst (a0.map ar.pd))] [] (rI r, []) := by
 refine Ev.body rfl Tryz.func206 rfl (by kernel_rfl)<|gS rfl rfl<|sV (r0)<|sN<|gS rfl rfl<|sV (rI 1)<|sN<|qS<|gS rfl rfl<|sM rfl<|sE (rI (a0.length : Int)) (lenMap _ _)<|sV (r0)<|sN<|bE h fun o10 ho10 h => WC.block (WC.loop (WL.ofLoop ho10 (fun s R' B' => ghosts prog 0 (A R' B') (au.at_ 206 0 3) = some (A [(3, rI s.1), (6, .d (.lst (a0.map ar.pd))), (7, rI (a0.length : Int)), (8, rI s.2)] [])) (fun o e R' B' => match o with | .inl y => e = .exit 0 ∧ ghosts prog 0 (A R' B') (au.at_ 206 0 10) = some (A [(3, rI y)] []) | .inr r => e = .ret ∧ finish prog (au.own 206) Tryz.f206 0 (A R' B') = some (rI r, [])) rfl ?_ ?_))
 ·rintro ⟨s1, s2⟩ R' B' q4 hI h
  refine gS rfl hI<|sF h (fun h => ?_) fun h => ?_
  ·refine sN<|qS<|cT<|qK<|qS<|qB<|gS rfl rfl<|bE h fun x6 hx6 h => eG hx6 rfl<|sV (.d (ar.pd x6))<|sB (.ptr 80 0) 80 (.var [r0, r0, r0, r0, r0, r0, r0, .nils, r0, r0])<|sH 80 (.var (ar.rc x6))<|sN<|qS<|gS rfl rfl ?_
   refine sV (.ptr 80 0)<|sL rfl<|sF h (fun h => ?_) fun h => ?_
   ·refine sN<|cT<|qX<|qE<|WC.region rfl rfl<|sV (rI (rW (s2 + (1 : Int))))<|sM rfl<|sN ?_
    cases oI h
    exact ⟨rfl, rfl⟩
   refine sN<|cF<|qK<|gS rfl rfl<|sM rfl<|sV (.ptr 80 8)<|sL rfl<|sV (rI (rW (s1 * x6.bg)))<|sA rfl<|sN<|gS rfl rfl<|sM rfl<|sF h (fun h => ?_) fun h => ?_
   ·refine sN<|cT<|gS rfl rfl<|sV (r0)<|sN<|qR ?_
    cases oI h
    exact ⟨nofun, rfl, rfl⟩
   refine sN<|cF<|qK<|WC.region rfl rfl<|sV (rI (rW (s2 + (1 : Int))))<|sM rfl<|sN ?_
   cases oI h
   exact ⟨rfl, rfl⟩
  refine sN<|qS<|cF<|qX ?_
  cases oI h
  exact ⟨nofun, rfl, rfl⟩
 intro e R' B' he hq
 rcases o10 with y11 | r12
 ·obtain ⟨rfl, hI⟩ := hq
  refine qE<|gS rfl hI<|sM rfl<|sA rfl<|sN<|qR ?_
  cases oI h
  exact qD
 obtain ⟨rfl, hf⟩ := hq
 cases oI h
 exact hf
theorem yV {a0 : aD} {r : Bool} (h : js a0 = some r) : EvP prog au ext 177 [.d (aD.pd a0)] [] (rB r, []) := by
 refine Ev.body rfl Tryz.func177 rfl (by kernel_rfl)<|gS rfl rfl<|sB (.ptr 16 0) 16 (.var [.d (.lst (a0.aO.map ar.pd))])<|sU<|sN<|qS<|gS rfl rfl<|sV (.ptr 16 0)<|sL rfl<|sE (rI (a0.aO.length : Int)) (lenMap _ _)<|sF h (fun h => ?_) fun h => ?_
 ·refine sM rfl<|k3<|sT<|sN<|cT<|gS rfl rfl<|sU<|sN<|qR ?_
  cases oI h
  exact qD
 refine sM rfl<|sV (.ptr 16 0)<|sL rfl<|bE h fun x2 hx2 h => cD (nS hx2)<|sF h (fun h => ?_) fun h => ?_
 ·refine sN<|cT<|gS rfl rfl<|sU<|sN<|qR ?_
  cases oI h
  exact qD
 refine sN<|cF<|qK<|gS rfl rfl<|sV (.ptr 16 0)<|sL rfl<|bE h fun x4 hx4 h => cD (yd hx4)<|sV (rB (decide (x4 > (0 : Int))))<|sA rfl<|sN<|qR ?_
 cases oI h
 exact qD
theorem m8 {a0 : Int} {a1 : Int} {a2 : Int} {r : Bool} (h : fH a0 a1 a2 = some r) : EvP prog au ext 135 [rI a0, rI a1, rI a2] [] (rB r, []) := by
 refine Ev.body rfl Tryz.func135 rfl (by kernel_rfl)<|gS rfl rfl<|sU<|sN<|gS rfl rfl<|sM rfl<|sM rfl<|sF h (fun h => ?_) fun h => ?_
 ·refine sM rfl<|sM rfl<|sM rfl<|sV (rB (decide (a0 ≤ a2)))<|sV (rB (decide (a0 ≤ a2)))<|sA rfl<|sN<|qR ?_
  cases oI h
  exact qD
 refine sM rfl<|k3<|sU<|sA rfl<|sN<|qR ?_
 cases oI h
 exact qD
theorem uw {a0 : ai} {r : Bool} (h : er a0 = some r) : EvP prog au ext 134 [.d (ai.pd a0)] [] (rB r, []) := by
 refine Ev.body rfl Tryz.func134 rfl (by kernel_rfl)<|gS rfl rfl<|sB (.ptr 16 0) 16 (.var (ai.rc a0))<|sU<|sN<|gS rfl rfl<|sV (.ptr 16 4)<|sV (.d (ap.pd a0.aF))<|sB (.ptr 48 0) 48 (.var [r0, r0, r0])<|sS 48 (.var [rI a0.aF.fX, rI a0.aF.fY, rI a0.aF.fZ])<|sN<|gS rfl rfl<|sV (.ptr 16 0)<|sL rfl<|sF h (fun h => ?_) fun h => ?_
 ·refine sM rfl<|sV (.ptr 16 0)<|sL rfl<|sV (.ptr 16 1)<|sL rfl<|sV (rB (decide (a0.aL < a0.fTo)))<|sF h (fun h => ?_) fun h => ?_
  ·refine sM rfl<|sV (.ptr 16 1)<|sL rfl<|sV (rB (decide (a0.fTo ≤ (9007199254740992 : Int))))<|sF h (fun h => ?_) fun h => ?_
   ·refine sM rfl<|sV (.ptr 16 2)<|sV (.d (aT.pd a0.bN))<|bE h fun x4 hx4 h => cD (rate_Valid_ev hx4)<|sF h (fun h => ?_) fun h => ?_
    ·refine sM rfl<|sV (.ptr 16 7)<|sV (.d (aD.pd a0.aV))<|bE h fun x6 hx6 h => cD (yV hx6)<|sF h (fun h => ?_) fun h => ?_
     ·refine sM rfl<|sV (.ptr 48 0)<|sL rfl<|bE h fun x8 hx8 h => cD (m8 hx8)<|sF h (fun h => ?_) fun h => ?_
      ·refine sM rfl<|sV (.ptr 48 1)<|sL rfl<|bE h fun x10 hx10 h => cD (m8 hx10)<|sF h (fun h => ?_) fun h => ?_
       ·refine sM rfl<|sV (.ptr 48 2)<|sL rfl<|bE h fun x12 hx12 h => cD (m8 hx12)<|sV (rB x12)<|sA rfl<|sN<|qR ?_
        cases oI h
        exact qD
       refine sM rfl<|k3<|sU<|sA rfl<|sN<|qR ?_
       cases oI h
       exact qD
      refine sM rfl<|k3<|sU<|sM rfl<|k3<|sU<|sA rfl<|sN<|qR ?_
      cases oI h
      exact qD
     refine sM rfl<|k3<|sU<|sM rfl<|k3<|sU<|sM rfl<|k3<|sU ?_
     refine sA rfl<|sN<|qR ?_
     cases oI h
     exact qD
    refine sM rfl<|k3<|sU<|sM rfl<|k3<|sU<|sM rfl<|k3<|sU ?_
    refine sM rfl<|k3<|sU<|sA rfl<|sN<|qR ?_
    cases oI h
    exact qD
   refine sM rfl<|k3<|sU<|sM rfl<|k3<|sU<|sM rfl<|k3<|sU ?_
   refine sM rfl<|k3<|sU<|sM rfl<|k3<|sU<|sA rfl<|sN<|qR ?_
   cases oI h
   exact qD
  refine sM rfl<|k3<|sU<|sM rfl<|k3<|sU<|sM rfl<|k3<|sU ?_
  refine sM rfl<|k3<|sU<|sM rfl<|k3<|sU<|sM rfl<|k3<|sU ?_
  refine sA rfl<|sN<|qR ?_
  cases oI h
  exact qD
 refine sM rfl<|k3<|sK<|sK<|sU<|sM rfl<|k3<|sU<|sM rfl<|sK<|sK ?_
 refine sK<|sU<|sM rfl<|k3<|sU<|sM rfl<|k3<|sU<|sM rfl<|sK<|sK ?_
 refine sK<|sU<|sM rfl<|k3<|sU<|sA rfl<|sN<|qR ?_
 cases oI h
 exact qD
theorem xl {a0 : (List ai)} {r : Bool} (h : gX a0 = some r) : EvP prog au ext 99 [.d (.lst (a0.map ai.pd))] [] (rB r, []) := by
 refine Ev.body rfl Tryz.func99 rfl (by kernel_rfl)<|gS rfl rfl<|sU<|sN<|qS<|gS rfl rfl<|sM rfl<|sE (rI (a0.length : Int)) (lenMap _ _)<|sV (r0)<|sN<|bE h fun o11 ho11 h => WC.block (WC.loop (WL.ofLoop ho11 (fun s R' B' => ghosts prog 0 (A R' B') (au.at_ 99 0 2) = some (A [(0, .d (.lst (a0.map ai.pd))), (5, .d (.lst (a0.map ai.pd))), (6, rI (a0.length : Int)), (7, rI s)] [])) (fun o e R' B' => match o with | .inl y => e = .exit 0 ∧ ghosts prog 0 (A R' B') (au.at_ 99 0 7) = some (A [(0, .d (.lst (a0.map ai.pd)))] []) | .inr r => e = .ret ∧ finish prog (au.own 99) Tryz.f99 0 (A R' B') = some (rB r, [])) rfl ?_ ?_))
 ·rintro s1 R' B' q2 hI h
  refine gS rfl hI<|sF h (fun h => ?_) fun h => ?_
  ·refine sN<|qS<|cT<|qK<|qS<|qB<|gS rfl rfl<|sM rfl<|bE h fun x4 hx4 h => eG hx4 rfl<|sV (.d (ai.pd x4))<|sB (.ptr 64 0) 64 (.var zZ2)<|sA rfl<|sH 64 (.var (ai.rc x4))<|sN ?_
   refine WC.regionDSeq rfl rfl<|sV (.d (ai.pd x4))<|bE h fun x5 hx5 h => cD (uw hx5)<|sF h (fun h => ?_) fun h => ?_
   ·refine sM rfl<|k3<|k3<|k3<|k3<|sK<|sT ?_
    refine sN<|sO<|cT<|gS rfl rfl<|sU<|sN<|qR ?_
    cases oI h
    exact ⟨nofun, rfl, rfl⟩
   refine sM rfl<|sM rfl<|sF h (fun h => ?_) fun h => ?_
   ·refine sM rfl<|sV (.ptr 64 0)<|sL rfl<|sM rfl<|sM rfl<|sV (rI (rW (s1 - (1 : Int))))<|bE h fun x8 hx8 h => eG hx8 rfl<|sV (.cptr [.int .i64 x8.fTo, .int .i64 x8.bN.aW, .int .i64 x8.bN.aQ, .int .i64 x8.aF.fX, .int .i64 x8.aF.fY, .int .i64 x8.aF.fZ, .lst (x8.aV.aO.map ar.pd)])<|sC rfl<|sV (rB (decide (x4.aL < x8.fTo)))<|sV (rB (decide (x4.aL < x8.fTo)))<|sF h (fun h => ?_) fun h => ?_
    ·refine sN<|sO<|cT<|gS rfl rfl<|sU<|sN<|qR ?_
     cases oI h
     exact ⟨nofun, rfl, rfl⟩
    refine sN<|sO<|cF<|qK<|WC.region rfl rfl<|sV (rI (rW (s1 + (1 : Int))))<|sM rfl<|sN ?_
    cases oI h
    exact ⟨rfl, rfl⟩
   refine sM rfl<|k3<|k3<|k3<|sU<|sU ?_
   refine sN<|sO<|cF<|qK<|WC.region rfl rfl<|sV (rI (rW (s1 + (1 : Int))))<|sM rfl<|sN ?_
   cases oI h
   exact ⟨rfl, rfl⟩
  refine sN<|qS<|cF<|qX ?_
  cases oI h
  exact ⟨nofun, rfl, rfl⟩
 intro e R' B' he hq
 rcases o11 with y12 | r13
 ·obtain ⟨rfl, hI⟩ := hq
  refine qE<|gS rfl hI<|sM rfl<|sE (rI (a0.length : Int)) (lenMap _ _)<|bE h fun x14 hx14 h => cD (m8 hx14)<|sA rfl<|sN<|qR ?_
  cases oI h
  exact qD
 obtain ⟨rfl, hf⟩ := hq
 cases oI h
 exact hf
theorem ec {a0 : ae} {r : Bool} (h : bO a0 = some r) : EvP prog au ext 55 [.d (ae.pd a0)] [] (rB r, []) := by
 refine Ev.body rfl Tryz.func55 rfl (by kernel_rfl)<|gS rfl rfl<|sB (.ptr 16 0) 16 (.var [.d (.lst (a0.aq.map ac.pd))])<|sU<|sN<|qS<|gS rfl rfl<|sV (.ptr 16 0)<|sL rfl<|sE (rI (a0.aq.length : Int)) (lenMap _ _)<|sV (r0)<|sN<|bE h fun o14 ho14 h => WC.block (WC.loop (WL.ofLoop ho14 (fun s R' B' => ghosts prog 0 (A R' B') (au.at_ 55 0 2) = some (A [(1, .ptr 16 0), (6, .d (.lst (a0.aq.map ac.pd))), (7, rI (a0.aq.length : Int)), (8, rI s)] [(16, .var [.d (.lst (a0.aq.map ac.pd))])])) (fun o e R' B' => match o with | .inl y => e = .exit 0 ∧ ghosts prog 0 (A R' B') (au.at_ 55 0 7) = some (A [(1, .ptr 16 0)] [(16, .var [.d (.lst (a0.aq.map ac.pd))])]) | .inr r => e = .ret ∧ finish prog (au.own 55) Tryz.f55 0 (A R' B') = some (rB r, [])) rfl ?_ ?_))
 ·rintro s1 R' B' q2 hI h
  refine gS rfl hI<|sF h (fun h => ?_) fun h => ?_
  ·refine sN<|qS<|cT<|qK<|qS<|qB<|gS rfl rfl<|sM rfl<|bE h fun x4 hx4 h => eG hx4 rfl<|sV (.d (ac.pd x4))<|sB (.ptr 64 0) 64 (.var zZ3)<|sA rfl<|sS 64 (.var (ac.rc x4))<|sN ?_
   refine WC.regionDSeq rfl rfl<|sV (.ptr 64 0)<|sV (.d (ag.pd x4.al))<|bE h fun x5 hx5 h => cD (rN hx5)<|sF h (fun h => ?_) fun h => ?_
   ·refine sM rfl<|k3<|sK<|sT<|sM rfl<|k3<|k3<|sK<|sK ?_
    refine k3<|k3<|sK<|sT ?_
    refine sN<|sO<|cT<|gS rfl rfl<|sU<|sN<|qR ?_
    cases oI h
    exact ⟨nofun, rfl, rfl⟩
   refine sM rfl<|sV (.ptr 64 4)<|sL rfl<|bE h fun x7 hx7 h => cD (xl hx7)<|sV (rB (!x7))<|sF h (fun h => ?_) fun h => ?_
   ·refine sM rfl<|k3<|k3<|k3<|k3<|sK<|sK ?_
    refine sK<|sT ?_
    refine sN<|sO<|cT<|gS rfl rfl<|sU<|sN<|qR ?_
    cases oI h
    exact ⟨nofun, rfl, rfl⟩
   refine sM rfl<|sM rfl<|sF h (fun h => ?_) fun h => ?_
   ·refine sM rfl<|sV (.ptr 16 0)<|sL rfl<|sM rfl<|sV (rI (rW (s1 - (1 : Int))))<|bE h fun x10 hx10 h => eG hx10 rfl<|sV (.cptr [.str x10.al.aB, .str x10.al.aA, .str x10.al.aw, .str x10.al.aC, .lst (x10.aP.map ai.pd)])<|sV (.d (ag.pd x10.al))<|sV (.ptr 64 0)<|sV (.d (ag.pd x4.al))<|bE h fun x11 hx11 h => cD (tX hx11)<|sV (rB (decide (x11 ≥ (0 : Int))))<|sV (rB (decide (x11 ≥ (0 : Int)))) ?_
    refine sF h (fun h => ?_) fun h => ?_
    ·refine sN<|sO<|cT<|gS rfl rfl<|sU<|sN<|qR ?_
     cases oI h
     exact ⟨nofun, rfl, rfl⟩
    refine sN<|sO<|cF<|qK<|WC.region rfl rfl<|sV (rI (rW (s1 + (1 : Int))))<|sM rfl<|sN ?_
    cases oI h
    exact ⟨rfl, rfl⟩
   refine sM rfl<|k3<|k3<|k3<|sK<|sK<|sU<|sU ?_
   refine sN<|sO<|cF<|qK<|WC.region rfl rfl<|sV (rI (rW (s1 + (1 : Int))))<|sM rfl<|sN ?_
   cases oI h
   exact ⟨rfl, rfl⟩
  refine sN<|qS<|cF<|qX ?_
  cases oI h
  exact ⟨nofun, rfl, rfl⟩
 intro e R' B' he hq
 rcases o14 with y15 | r16
 ·obtain ⟨rfl, hI⟩ := hq
  refine qE<|gS rfl hI<|sV (.ptr 16 0)<|sL rfl<|sE (rI (a0.aq.length : Int)) (lenMap _ _)<|sV (rB (decide ((a0.aq.length : Int) ≤ (128 : Int))))<|sA rfl<|sN<|qR ?_
  cases oI h
  exact qD
 obtain ⟨rfl, hf⟩ := hq
 cases oI h
 exact hf
theorem uT {a0 : ai} {r : ai} (h : eX a0 = some r) : EvP prog au ext 140 [.d (ai.pd a0)] [] (.d (ai.pd r), []) := by
 refine Ev.body rfl Tryz.func140 rfl (by kernel_rfl)<|gS rfl rfl<|sB (.ptr 16 0) 16 (.var (ai.rc a0))<|sB (.ptr 32 0) 32 (.var zZ2)<|sN<|gS rfl rfl<|sV (.ptr 16 7)<|sV (.ptr 16 7)<|sL rfl<|bE h fun x1 hx1 h => cR (.ref 112 0) [(112, .arr 0 137 (x1.map ar.pd))] (clone_181 hx1)<|sV (.ptr 16 7)<|sV (.ptr 16 7)<|sS 16 (.var [rI a0.aL, rI a0.fTo, rI a0.bN.aW, rI a0.bN.aQ, rI a0.aF.fX, rI a0.aF.fY, rI a0.aF.fZ, .ref 112 0])<|sN ?_
 refine qS<|gS rfl rfl<|sV (.ptr 16 7)<|sV (.ptr 16 7)<|sL rfl<|WO.lenR rfl rfl rfl rfl rfl rfl rfl rfl rfl<|sV (r0)<|sN<|bE h fun o16 ho16 h => WC.block (WC.loop (WL.ofLoop ho16 (fun s R' B' => ghosts prog 0 (A R' B') (au.at_ 140 0 3) = some (A [(1, .ptr 16 0), (2, .ptr 32 0), (13, rI (x1.length : Int)), (14, rI s.1)] [(16, .var [rI a0.aL, rI a0.fTo, rI a0.bN.aW, rI a0.bN.aQ, rI a0.aF.fX, rI a0.aF.fY, rI a0.aF.fZ, .ref 112 0]), (32, .var zZ2), (112, .arr 0 137 (s.2.map ar.pd))])) (fun o e R' B' => e = .exit 0 ∧ ghosts prog 0 (A R' B') (au.at_ 140 0 7) = some (A [(1, .ptr 16 0), (2, .ptr 32 0)] [(16, .var [rI a0.aL, rI a0.fTo, rI a0.bN.aW, rI a0.bN.aQ, rI a0.aF.fX, rI a0.aF.fY, rI a0.aF.fZ, .ref 112 0]), (32, .var zZ2), (112, .arr 0 137 (o.map ar.pd))])) rfl ?_ ?_))
 ·rintro ⟨s2, s3⟩ R' B' q5 hI h
  refine gS rfl hI<|sF h (fun h => ?_) fun h => ?_
  ·refine sN<|qS<|cT<|qK<|qS<|qB<|gS rfl rfl<|sM rfl<|sA rfl<|sN<|WC.regionD rfl rfl<|sV (.ptr 16 7)<|sV (.ptr 16 7)<|sL rfl<|sM rfl ?_
   refine sV (.ptr 16 7)<|sV (.ptr 16 7)<|sL rfl<|sM rfl<|bE h fun x8 hx8 h => WO.eltG hx8 rfl rfl rfl rfl rfl rfl rfl rfl<|sV (.elt 112 0 (s2).toNat 7)<|bE h fun x9 hx9 h => WO.loadE hx9 rfl rfl rfl rfl rfl rfl<|bE h fun x10 hx10 h => cR (.ref 448 0) [(448, .arr 0 3 (x10.map (PD.int .i64)))] (clone_182 hx10)<|bE h fun x12 hx12 h => WO.eltG hx12 rfl rfl rfl rfl rfl rfl rfl rfl<|sV (.elt 112 0 (s2).toNat 7)<|bE h fun x13 hx13 h => ?_
   refine WO.storeF (g := ar.pd) (u := [(448, .dead)]) (sz := 1) hx13 (fun _ => rfl) (fun _ => Nat.le_of_ble_eq_true rfl) rfl rfl rfl rfl rfl rfl rfl rfl rfl rfl rfl ?_
   refine sN<|sO<|WC.region rfl rfl<|sV (rI (rW (s2 + (1 : Int))))<|sM rfl<|sN ?_
   cases oI h
   exact ⟨rfl, rfl⟩
  refine sN<|qS<|cF<|qX ?_
  cases oI h
  exact ⟨nofun, rfl, rfl⟩
 intro e R' B' he hq
 obtain ⟨rfl, hI⟩ := hq
 refine qE<|gS rfl hI<|sV (.agg [rI a0.aL, rI a0.fTo, rI a0.bN.aW, rI a0.bN.aQ, rI a0.aF.fX, rI a0.aF.fY, rI a0.aF.fZ, .ref 112 0])<|sH 32 (.var [rI a0.aL, rI a0.fTo, rI a0.bN.aW, rI a0.bN.aQ, rI a0.aF.fX, rI a0.aF.fY, rI a0.aF.fZ, .ref 112 0])<|sN<|qR ?_
 cases oI h
 exact qG
theorem xi {a0 : ac} {r : ac} (h : gW a0 = some r) : EvP prog au ext 109 [.d (ac.pd a0)] [] (.d (ac.pd r), []) := by
 refine Ev.body rfl Tryz.func109 rfl (by kernel_rfl)<|gS rfl rfl<|sB (.ptr 16 0) 16 (.var (ac.rc a0))<|sB (.ptr 32 0) 32 (.var zZ3)<|sN<|gS rfl rfl<|sV (.ptr 16 4)<|sL rfl<|bE h fun x1 hx1 h => cR (.ref 112 0) [(112, .arr 0 96 (x1.map ai.pd))] (clone_139 hx1)<|sV (.ptr 16 4)<|sS 16 (.var [rS a0.al.aB, rS a0.al.aA, rS a0.al.aw, rS a0.al.aC, .ref 112 0])<|sN<|qS<|gS rfl rfl ?_
 refine sV (.ptr 16 4)<|sL rfl<|WO.lenR rfl rfl rfl rfl rfl rfl rfl rfl rfl<|sV (r0)<|sN<|bE h fun o15 ho15 h => WC.block (WC.loop (WL.ofLoop ho15 (fun s R' B' => ghosts prog 0 (A R' B') (au.at_ 109 0 3) = some (A [(1, .ptr 16 0), (2, .ptr 32 0), (10, .ref 112 0), (11, rI (x1.length : Int)), (12, rI s.1)] [(16, .var [rS a0.al.aB, rS a0.al.aA, rS a0.al.aw, rS a0.al.aC, .ref 112 0]), (32, .var zZ3), (112, .arr 0 96 (s.2.map ai.pd))])) (fun o e R' B' => e = .exit 0 ∧ ghosts prog 0 (A R' B') (au.at_ 109 0 7) = some (A [(1, .ptr 16 0), (2, .ptr 32 0)] [(16, .var [rS a0.al.aB, rS a0.al.aA, rS a0.al.aw, rS a0.al.aC, .ref 112 0]), (32, .var zZ3), (112, .arr 0 96 (o.map ai.pd))])) rfl ?_ ?_))
 ·rintro ⟨s2, s3⟩ R' B' q5 hI h
  refine gS rfl hI<|sF h (fun h => ?_) fun h => ?_
  ·refine sN<|qS<|cT<|qK<|qS<|qB<|gS rfl rfl<|sM rfl<|bE h fun x8 hx8 h => WO.eltG hx8 rfl rfl rfl rfl rfl rfl rfl rfl<|bE h fun x9 hx9 h => WO.loadE hx9 rfl rfl rfl rfl rfl rfl<|sB (.ptr 64 0) 64 (.var zZ2)<|sA rfl<|sH 64 (.var (ai.rc x9)) ?_
   refine sN<|WC.regionD rfl rfl<|sV (.ptr 16 4)<|sL rfl<|sM rfl<|sV (.d (ai.pd x9))<|bE h fun x10 hx10 h => cD (uT hx10)<|bE h fun x12 hx12 h => WO.eltG hx12 rfl rfl rfl rfl rfl rfl rfl rfl<|bE h fun x13 hx13 h => WO.storeE (g := ai.pd) (sz := 8) (p := ai.pd x10) hx13 (by intro _; kernel_rfl) (by intro _; kernel_rfl) rfl rfl rfl rfl rfl rfl rfl rfl rfl ?_
   refine sN<|sO<|WC.region rfl rfl<|sV (rI (rW (s2 + (1 : Int))))<|sM rfl<|sN ?_
   cases oI h
   exact ⟨rfl, rfl⟩
  refine sN<|qS<|cF<|qX ?_
  cases oI h
  exact ⟨nofun, rfl, rfl⟩
 intro e R' B' he hq
 obtain ⟨rfl, hI⟩ := hq
 refine qE<|gS rfl hI<|sV (.agg [rS a0.al.aB, rS a0.al.aA, rS a0.al.aw, rS a0.al.aC, .ref 112 0])<|sS 32 (.var [rS a0.al.aB, rS a0.al.aA, rS a0.al.aw, rS a0.al.aC, .ref 112 0])<|sN<|qR ?_
 cases oI h
 exact qD
theorem oj {a0 : ae} {a1 : ag} {r : ac × Bool} (h : fQ a0 a1 = some r) : EvP prog au ext 65 [.d (ae.pd a0), .d (ag.pd a1)] [] (.tup [.d (ac.pd r.1), rB r.2], []) := by
 refine Ev.body rfl Tryz.func65 rfl (by kernel_rfl)<|gS rfl rfl<|sB (.ptr 32 0) 32 (.var [.d (.lst (a0.aq.map ac.pd))])<|sB (.ptr 48 0) 48 (.var [rS a1.aB, rS a1.aA, rS a1.aw, rS a1.aC])<|sB (.ptr 64 0) 64 (.var zZ3)<|sU<|sN<|qS<|gS rfl rfl<|sV (.ptr 32 0)<|sL rfl<|sE (rI (a0.aq.length : Int)) (lenMap _ _)<|sV (r0)<|sN<|bE h fun o8 ho8 h => ?_
 refine WC.block (WC.loop (WL.ofLoop ho8 (fun s R' B' => ghosts prog 0 (A R' B') (au.at_ 65 0 2) = some (A [(3, .ptr 48 0), (4, .ptr 64 0), (9, .d (.lst (a0.aq.map ac.pd))), (10, rI (a0.aq.length : Int)), (11, rI s)] [(48, .var [rS a1.aB, rS a1.aA, rS a1.aw, rS a1.aC]), (64, .var zZ3)])) (fun o e R' B' => match o with | .inl y => e = .exit 0 ∧ ghosts prog 0 (A R' B') (au.at_ 65 0 7) = some (A [(4, .ptr 64 0)] [(64, .var zZ3)]) | .inr r => e = .ret ∧ finish prog (au.own 65) Tryz.f65 0 (A R' B') = some (.tup [.d (ac.pd r.1), rB r.2], [])) rfl ?_ ?_))
 ·rintro s1 R' B' q2 hI h
  refine gS rfl hI<|sF h (fun h => ?_) fun h => ?_
  ·refine sN<|qS<|cT<|qK<|qS<|qB<|gS rfl rfl<|bE h fun x4 hx4 h => eG hx4 rfl<|sV (.d (.agg [.str x4.al.aB, .str x4.al.aA, .str x4.al.aw, .str x4.al.aC, .lst (x4.aP.map ai.pd)]))<|sB (.ptr 112 0) 112 (.var zZ3)<|sS 112 (.var (ac.rc x4))<|sN<|gS rfl rfl<|sV (.ptr 112 0) ?_
   refine sV (.d (ag.pd x4.al))<|sV (.d (ag.pd a1))<|ite_elim h (fun hb5 h => ?_) (fun hb5 h => ?_)
   ·refine WO.binS (sg x4.al a1) hb5 rfl rfl rfl rfl rfl<|sN<|cT<|gS rfl rfl<|sV (.d (.agg [.str x4.al.aB, .str x4.al.aA, .str x4.al.aw, .str x4.al.aC, .lst (x4.aP.map ai.pd)]))<|bE h fun x6 hx6 h => cD (xi hx6)<|sS 64 (.var (ac.rc x6))<|sT<|sN<|qR ?_
    cases oI h
    exact ⟨nofun, rfl, rfl⟩
   refine WO.binS (sg x4.al a1) hb5 rfl rfl rfl rfl rfl<|sN<|cF<|qK<|WC.region rfl rfl<|sV (rI (rW (s1 + (1 : Int))))<|sM rfl<|sN ?_
   cases oI h
   exact ⟨rfl, rfl⟩
  refine sN<|qS<|cF<|qX ?_
  cases oI h
  exact ⟨nofun, rfl, rfl⟩
 intro e R' B' he hq
 rcases o8 with y9 | r10
 ·obtain ⟨rfl, hI⟩ := hq
  refine qE<|gS rfl hI<|sV (.agg zZ3)<|sS 64 (.var zZ3)<|sU<|sN<|qR ?_
  cases oI h
  exact qD
 obtain ⟨rfl, hf⟩ := hq
 cases oI h
 exact hf
theorem xt {a0 : (List Int)} {a1 : (List Int)} {r : Bool} (h : gY a0 a1 = some r) : EvP prog au ext 105 [.d (.lst (a0.map (PD.int .i64))), .d (.lst (a1.map (PD.int .i64)))] [] (rB r, []) := by
 refine Ev.body rfl Tryz.func105 rfl (by kernel_rfl)<|gS rfl rfl<|sU<|sN<|qS<|gS rfl rfl<|sM rfl<|sE (rI (a0.length : Int)) (lenMap _ _)<|sM rfl<|sE (rI (a1.length : Int)) (lenMap _ _)<|sF h (fun h => ?_) fun h => ?_
 ·refine sN<|cT<|gS rfl rfl<|sU<|sN<|qR ?_
  cases oI h
  exact qD
 refine sN<|cF<|qK<|qS<|gS rfl rfl<|sM rfl<|sE (rI (a0.length : Int)) (lenMap _ _)<|sV (r0)<|sN<|bE h fun o9 ho9 h => WC.block (WC.loop (WL.ofLoop ho9 (fun s R' B' => ghosts prog 0 (A R' B') (au.at_ 105 0 4) = some (A [(0, .d (.lst (a0.map (PD.int .i64)))), (1, .d (.lst (a1.map (PD.int .i64)))), (12, rI (a0.length : Int)), (13, rI s)] [])) (fun o e R' B' => match o with | .inl y => e = .exit 0 ∧ ghosts prog 0 (A R' B') (au.at_ 105 0 9) = some (A [] []) | .inr r => e = .ret ∧ finish prog (au.own 105) Tryz.f105 0 (A R' B') = some (rB r, [])) rfl ?_ ?_))
 ·rintro s2 R' B' q3 hI h
  refine gS rfl hI<|sF h (fun h => ?_) fun h => ?_
  ·refine sN<|qS<|cT<|qK<|qS<|qB<|gS rfl rfl<|sM rfl<|sA rfl<|sN<|WC.regionDSeq rfl rfl<|sM rfl<|sM rfl<|bE h fun x5 hx5 h => eG hx5 rfl ?_
   refine sC rfl<|sM rfl<|sM rfl<|bE h fun x6 hx6 h => eG hx6 rfl<|sC rfl<|sF h (fun h => ?_) fun h => ?_
   ·refine sN<|sO<|cT<|gS rfl rfl<|sU<|sN<|qR ?_
    cases oI h
    exact ⟨nofun, rfl, rfl⟩
   refine sN<|sO<|cF<|qK<|WC.region rfl rfl<|sV (rI (rW (s2 + (1 : Int))))<|sM rfl<|sN ?_
   cases oI h
   exact ⟨rfl, rfl⟩
  refine sN<|qS<|cF<|qX ?_
  cases oI h
  exact ⟨nofun, rfl, rfl⟩
 intro e R' B' he hq
 rcases o9 with y10 | r11
 ·obtain ⟨rfl, hI⟩ := hq
  refine qE<|gS rfl hI<|sT<|sN<|qR ?_
  cases oI h
  exact qD
 obtain ⟨rfl, hf⟩ := hq
 cases oI h
 exact hf
theorem we {a0 : ar} {a1 : ar} {r : Bool} (h : fx a0 a1 = some r) : EvP prog au ext 104 [.d (ar.pd a0), .d (ar.pd a1)] [] (rB r, []) := by
 refine Ev.body rfl Tryz.func104 rfl (by kernel_rfl)<|gS rfl rfl<|sB (.ptr 32 0) 32 (.var (ar.rc a0))<|sB (.ptr 48 0) 48 (.var (ar.rc a1))<|sU<|sN<|gS rfl rfl<|sV (.ptr 32 0)<|sL rfl<|sV (.ptr 48 0)<|sL rfl<|sF h (fun h => ?_) fun h => ?_
 ·refine sM rfl<|sV (.ptr 32 1)<|sV (.d (aU.pd a0.aW))<|sV (.ptr 48 1)<|sV (.d (aU.pd a1.aW))<|WO.bin (fg a0.aW a1.aW) rfl rfl rfl rfl rfl<|sF h (fun h => ?_) fun h => ?_
  ·refine sM rfl<|sV (.ptr 32 4)<|sV (.d (aU.pd a0.aQ))<|sV (.ptr 48 4)<|sV (.d (aU.pd a1.aQ))<|WO.bin (fg a0.aQ a1.aQ) rfl rfl rfl rfl rfl<|sF h (fun h => ?_) fun h => ?_
   ·refine sM rfl<|sV (.ptr 32 7)<|sL rfl<|sV (.ptr 48 7)<|sL rfl<|bE h fun x4 hx4 h => cD (xt hx4)<|sF h (fun h => ?_) fun h => ?_
    ·refine sM rfl<|sV (.ptr 32 8)<|sL rfl<|sV (.ptr 48 8)<|sL rfl<|sV (rB (a0.bg == a1.bg))<|sF h (fun h => ?_) fun h => ?_
     ·refine sM rfl<|sV (.ptr 32 9)<|sL rfl<|sV (.ptr 48 9)<|sL rfl<|sV (rB (a0.bz == a1.bz))<|sV (rB (a0.bz == a1.bz))<|sA rfl<|sN<|qR ?_
      cases oI h
      exact qG
     refine sM rfl<|k3<|sK<|sK<|sU<|sA rfl<|sN<|qR ?_
     cases oI h
     exact qG
    refine sM rfl<|k3<|sK<|sK<|sU<|sM rfl<|k3<|sK<|sK<|sU<|sA rfl ?_
    refine sN<|qR ?_
    cases oI h
    exact qG
   refine sM rfl<|k3<|sK<|sK<|sU<|sM rfl<|k3<|sK<|sK<|sU<|sM rfl ?_
   refine k3<|sK<|sK<|sU<|sA rfl<|sN<|qR ?_
   cases oI h
   exact qG
  refine sM rfl<|k3<|sK<|sK<|sU<|sM rfl<|k3<|sK<|sK<|sU<|sM rfl ?_
  refine k3<|sK<|sK<|sU<|sM rfl<|k3<|sK<|sK<|sU<|sA rfl<|sN ?_
  refine qR ?_
  cases oI h
  exact qG
 refine sM rfl<|k3<|sK<|sK<|sU<|sM rfl<|k3<|sK<|sK<|sU<|sM rfl ?_
 refine k3<|sK<|sK<|sU<|sM rfl<|k3<|sK<|sK<|sU<|sM rfl<|sK ?_
 refine k3<|sK<|sU<|sA rfl<|sN<|qR ?_
 cases oI h
 exact qG
theorem p7 {a0 : (List ar)} {a1 : (List ar)} {r : Bool} (h : cV a0 a1 = some r) : EvP prog au ext 103 [.d (.lst (a0.map ar.pd)), .d (.lst (a1.map ar.pd)), .d (.raw (.func (.func 104) #[] #[]))] [] (rB r, []) := by
 refine Ev.body rfl Tryz.func103 rfl (by kernel_rfl)<|gS rfl rfl<|sU<|sN<|qS<|gS rfl rfl<|sM rfl<|sE (rI (a0.length : Int)) (lenMap _ _)<|sM rfl<|sE (rI (a1.length : Int)) (lenMap _ _)<|sF h (fun h => ?_) fun h => ?_
 ·refine sN<|cT<|gS rfl rfl<|sU<|sN<|qR ?_
  cases oI h
  exact qD
 refine sN<|cF<|qK<|qS<|gS rfl rfl<|sM rfl<|sE (rI (a0.length : Int)) (lenMap _ _)<|sV (r0)<|sN<|bE h fun o10 ho10 h => WC.block (WC.loop (WL.ofLoop ho10 (fun s R' B' => ghosts prog 0 (A R' B') (au.at_ 103 0 4) = some (A [(1, .d (.lst (a1.map ar.pd))), (2, .d (.raw (.func (.func 104) #[] #[]))), (15, .d (.lst (a0.map ar.pd))), (16, rI (a0.length : Int)), (17, rI s)] [])) (fun o e R' B' => match o with | .inl y => e = .exit 0 ∧ ghosts prog 0 (A R' B') (au.at_ 103 0 10) = some (A [] []) | .inr r => e = .ret ∧ finish prog (au.own 103) Tryz.f103 0 (A R' B') = some (rB r, [])) rfl ?_ ?_))
 ·rintro s2 R' B' q3 hI h
  refine gS rfl hI<|sF h (fun h => ?_) fun h => ?_
  ·refine sN<|qS<|cT<|qK<|qS<|qB<|gS rfl rfl<|sM rfl<|bE h fun x5 hx5 h => eG hx5 rfl<|sV (.d (ar.pd x5))<|sB (.ptr 128 0) 128 (.var [r0, r0, r0, r0, r0, r0, r0, .nils, r0, r0])<|sA rfl<|sH 128 (.var (ar.rc x5))<|sN ?_
   refine gS rfl rfl<|sM rfl<|sM rfl<|bE h fun x6 hx6 h => eG hx6 rfl<|sV (.d (ar.pd x6))<|sB (.ptr 144 0) 144 (.var [r0, r0, r0, r0, r0, r0, r0, .nils, r0, r0])<|sH 144 (.var (ar.rc x6))<|sN<|gS rfl rfl<|sM rfl<|sV (.d (ar.pd x5))<|sV (.d (ar.pd x6))<|bE h fun x7 hx7 h => cD (we hx7) ?_
   refine sF h (fun h => ?_) fun h => ?_
   ·refine sN<|cT<|gS rfl rfl<|sU<|sN<|qR ?_
    cases oI h
    exact ⟨nofun, rfl, rfl⟩
   refine sN<|cF<|qK<|WC.region rfl rfl<|sV (rI (rW (s2 + (1 : Int))))<|sM rfl<|sN ?_
   cases oI h
   exact ⟨rfl, rfl⟩
  refine sN<|qS<|cF<|qX ?_
  cases oI h
  exact ⟨nofun, rfl, rfl⟩
 intro e R' B' he hq
 rcases o10 with y11 | r12
 ·obtain ⟨rfl, hI⟩ := hq
  refine qE<|gS rfl hI<|sT<|sN<|qR ?_
  cases oI h
  exact qD
 obtain ⟨rfl, hf⟩ := hq
 cases oI h
 exact hf
theorem uJ {a0 : aD} {a1 : aD} {r : Bool} (h : jd a0 a1 = some r) : EvP prog au ext 61 [.d (aD.pd a0), .d (aD.pd a1)] [] (rB r, []) := by
 refine Ev.body rfl Tryz.func61 rfl (by kernel_rfl)<|gS rfl rfl<|sB (.ptr 32 0) 32 (.var [.d (.lst (a0.aO.map ar.pd))])<|sB (.ptr 48 0) 48 (.var [.d (.lst (a1.aO.map ar.pd))])<|sU<|sN<|gS rfl rfl<|sV (.ptr 32 0)<|sL rfl<|sV (.ptr 48 0)<|sL rfl<|bE h fun x1 hx1 h => cD (p7 hx1)<|sA rfl<|sN ?_
 refine qR ?_
 cases oI h
 exact qD
theorem inventory_at_ev {a0 : ac} {a1 : Int} {r : ai × Bool} (h : lQ a0 a1 = some r) : EvP prog au ext 102 [.d (ac.pd a0), rI a1] [] (.tup [.d (ai.pd r.1), rB r.2], []) := by
 refine Ev.body rfl Tryz.func102 rfl (by kernel_rfl)<|gS rfl rfl<|sB (.ptr 32 0) 32 (.var (ac.rc a0))<|sB (.ptr 64 0) 64 (.var zZ2)<|sU<|sN<|qS<|gS rfl rfl<|sV (.ptr 32 4)<|sL rfl<|sE (rI (a0.aP.length : Int)) (lenMap _ _)<|sV (r0)<|sN<|bE h fun o8 ho8 h => WC.block (WC.loop (WL.ofLoop ho8 (fun s R' B' => ghosts prog 0 (A R' B') (au.at_ 102 0 2) = some (A [(1, rI a1), (4, .ptr 64 0), (9, .d (.lst (a0.aP.map ai.pd))), (10, rI (a0.aP.length : Int)), (11, rI s)] [(64, .var zZ2)])) (fun o e R' B' => match o with | .inl y => e = .exit 0 ∧ ghosts prog 0 (A R' B') (au.at_ 102 0 7) = some (A [(4, .ptr 64 0)] [(64, .var zZ2)]) | .inr r => e = .ret ∧ finish prog (au.own 102) Tryz.f102 0 (A R' B') = some (.tup [.d (ai.pd r.1), rB r.2], [])) rfl ?_ ?_))
 ·rintro s1 R' B' q2 hI h
  refine gS rfl hI<|sF h (fun h => ?_) fun h => ?_
  ·refine sN<|qS<|cT<|qK<|qS<|qB<|gS rfl rfl<|bE h fun x4 hx4 h => eG hx4 rfl<|sV (.d (ai.pd x4))<|sB (.ptr 112 0) 112 (.var zZ2)<|sH 112 (.var (ai.rc x4))<|sN<|gS rfl rfl<|sV (.ptr 112 0) ?_
   refine sL rfl<|sM rfl<|sF h (fun h => ?_) fun h => ?_
   ·refine sM rfl<|sM rfl<|sV (.ptr 112 1)<|sL rfl<|sV (rB (decide (a1 < x4.fTo)))<|sF h (fun h => ?_) fun h => ?_
    ·refine sN<|cT<|gS rfl rfl<|sV (.d (ai.pd x4))<|sH 64 (.var (ai.rc x4))<|sT<|sN<|qR ?_
     cases oI h
     exact ⟨nofun, rfl, rfl⟩
    refine sN<|cF<|qK<|WC.region rfl rfl<|sV (rI (rW (s1 + (1 : Int))))<|sM rfl<|sN ?_
    cases oI h
    exact ⟨rfl, rfl⟩
   refine sM rfl<|k3<|sK<|sU<|sN<|cF<|qK<|WC.region rfl rfl<|sV (rI (rW (s1 + (1 : Int))))<|sM rfl<|sN ?_
   cases oI h
   exact ⟨rfl, rfl⟩
  refine sN<|qS<|cF<|qX ?_
  cases oI h
  exact ⟨nofun, rfl, rfl⟩
 intro e R' B' he hq
 rcases o8 with y9 | r10
 ·obtain ⟨rfl, hI⟩ := hq
  refine qE<|gS rfl hI<|sG (.agg zZ2)<|sH 64 (.var zZ2)<|sU<|sN<|qR ?_
  cases oI h
  exact qG
 obtain ⟨rfl, hf⟩ := hq
 cases oI h
 exact hf
theorem re {a0 : ae} {a1 : ag} {a2 : Int} {r : ai × Int} (h : iP a0 a1 a2 = some r) : EvP prog au ext 60 [.d (ae.pd a0), .d (ag.pd a1), rI a2] [] (.tup [.d (ai.pd r.1), rI r.2], []) := by
 refine Ev.body rfl Tryz.func60 rfl (by kernel_rfl)<|gS rfl rfl<|sB (.ptr 48 0) 48 (.var [.d (.lst (a0.aq.map ac.pd))])<|sB (.ptr 64 0) 64 (.var [rS a1.aB, rS a1.aA, rS a1.aw, rS a1.aC])<|sB (.ptr 96 0) 96 (.var zZ2)<|sV (r0)<|sN<|qS<|gS rfl rfl<|sV (.d (ae.pd a0))<|bE h fun x1 hx1 h => cD (ec hx1)<|sF h (fun h => ?_) fun h => ?_
 ·refine sN<|cT<|gS rfl rfl<|sG (.agg zZ2)<|sH 96 (.var zZ2)<|sV (rI 1)<|sN<|qR ?_
  cases oI h
  exact qG
 refine sN<|cF<|qK<|gS rfl rfl<|sV (.d (ae.pd a0))<|sV (.d (ag.pd a1))<|bE h fun x3 hx3 h => cR (.tup [.d (ac.pd x3.1), rB x3.2]) [] (oj hx3)<|sM rfl<|sV (.d (ac.pd x3.1))<|sV (rB x3.2)<|sB (.ptr 128 0) 128 (.var zZ3)<|sS 128 (.var (ac.rc x3.1))<|sA rfl<|sN ?_
 refine gS rfl rfl<|sV (.d (.agg [.str x3.1.al.aB, .str x3.1.al.aA, .str x3.1.al.aw, .str x3.1.al.aC, .lst (x3.1.aP.map ai.pd)]))<|sM rfl<|bE h fun x4 hx4 h => cR (.tup [.d (ai.pd x4.1), rB x4.2]) [] (inventory_at_ev hx4)<|sM rfl<|sV (.d (ai.pd x4.1))<|sV (rB x4.2)<|sB (.ptr 160 0) 160 (.var zZ2)<|sH 160 (.var (ai.rc x4.1))<|sA rfl<|sN<|qS<|gS rfl rfl<|sM rfl ?_
 refine sF h (fun h => ?_) fun h => ?_
 ·refine sN<|cT<|gS rfl rfl<|sG (.agg zZ2)<|sH 96 (.var zZ2)<|sV (rI 6)<|sN<|qR ?_
  cases oI h
  exact qG
 refine sN<|cF<|qK<|gS rfl rfl<|sV (.d (.agg [.int .i64 x4.1.aL, .int .i64 x4.1.fTo, .int .i64 x4.1.bN.aW, .int .i64 x4.1.bN.aQ, .int .i64 x4.1.aF.fX, .int .i64 x4.1.aF.fY, .int .i64 x4.1.aF.fZ, .lst (x4.1.aV.aO.map ar.pd)]))<|sH 96 (.var (ai.rc x4.1))<|sV (r0)<|sN<|qR ?_
 cases oI h
 exact qG
theorem fj {a0 : ae} {a1 : ae} {a2 : aa} {r : Bool} (h : cr a0 a1 a2 = some r) : EvP prog au ext 28 [.d (ae.pd a0), .d (ae.pd a1), .d (aa.pd a2)] [] (rB r, []) := by
 refine Ev.body rfl Tryz.func28 rfl (by kernel_rfl)<|gS rfl rfl<|sB (.ptr 48 0) 48 (.var [.d (.lst (a0.aq.map ac.pd))])<|sB (.ptr 64 0) 64 (.var [.d (.lst (a1.aq.map ac.pd))])<|sB (.ptr 80 0) 80 (.var (aa.rc a2))<|sU<|sN<|gS rfl rfl<|sV (.d (ae.pd a0))<|sV (.ptr 80 0)<|sV (.d (ag.pd a2.al))<|sV (.ptr 80 4)<|sL rfl<|bE h fun x1 hx1 h => cR (.tup [.d (ai.pd x1.1), rI x1.2]) [] (re hx1) ?_
 refine sM rfl<|sV (.d (ai.pd x1.1))<|sV (rI x1.2)<|sB (.ptr 112 0) 112 (.var zZ2)<|sH 112 (.var (ai.rc x1.1))<|sA rfl<|sN<|gS rfl rfl<|sV (.d (ae.pd a1))<|sV (.ptr 80 0)<|sV (.d (ag.pd a2.al))<|sV (.ptr 80 4)<|sL rfl<|bE h fun x2 hx2 h => cR (.tup [.d (ai.pd x2.1), rI x2.2]) [] (re hx2) ?_
 refine sM rfl<|sV (.d (ai.pd x2.1))<|sV (rI x2.2)<|sB (.ptr 144 0) 144 (.var zZ2)<|sH 144 (.var (ai.rc x2.1))<|sA rfl<|sN<|qS<|gS rfl rfl<|sM rfl<|sF h (fun h => ?_) fun h => ?_
 ·refine sM rfl<|sK<|sK<|sT<|sN<|cT<|gS rfl rfl<|sM rfl<|sV (rB (x1.2 == (0 : Int)))<|sM rfl<|sV (rB (x2.2 == (0 : Int)))<|sV (rB (!((x1.2 == (0 : Int)) == (x2.2 == (0 : Int)))))<|sA rfl<|sN<|qR ?_
  cases oI h
  exact qG
 refine sM rfl<|sM rfl<|sV (rB (x2.2 != (0 : Int)))<|sF h (fun h => ?_) fun h => ?_
 ·refine sN<|cT<|gS rfl rfl<|sM rfl<|sV (rB (x1.2 == (0 : Int)))<|sM rfl<|sV (rB (x2.2 == (0 : Int)))<|sV (rB (!((x1.2 == (0 : Int)) == (x2.2 == (0 : Int)))))<|sA rfl<|sN<|qR ?_
  cases oI h
  exact qG
 refine sN<|cF<|qK<|gS rfl rfl<|sV (.ptr 112 4)<|sV (.d (ap.pd x1.1.aF))<|sV (.ptr 144 4)<|sV (.d (ap.pd x2.1.aF))<|ite_elim h (fun hb5 h => ?_) (fun hb5 h => ?_)
 ·refine WO.binS (eqN_28 x1.1.aF x2.1.aF) hb5 rfl rfl rfl rfl rfl<|sM rfl<|k3<|k3<|sT<|sA rfl<|sN<|qR ?_
  cases oI h
  exact qG
 refine WO.binS (eqN_28 x1.1.aF x2.1.aF) hb5 rfl rfl rfl rfl rfl<|sM rfl<|sV (.ptr 112 7)<|sV (.d (.agg [.lst (x1.1.aV.aO.map ar.pd)]))<|sV (.ptr 144 7)<|sV (.d (.agg [.lst (x2.1.aV.aO.map ar.pd)]))<|bE h fun x6 hx6 h => cD (uJ hx6)<|sV (rB (!x6))<|sV (rB (!x6))<|sA rfl<|sN<|qR ?_
 cases oI h
 exact qG
theorem vQ {a1 : (List aa)} {a2 : (List aa)} {d0 : ah} {r : (List aa) × ah} (h : jH a1 a2 d0 = some r) : EvP prog au ext 18 [.ptr 0 0, .d (.lst (a1.map aa.pd)), .d (.lst (a2.map aa.pd))] [.var [.d (.lst (d0.fL.map (PD.int .i64))), rI d0.fAt]] (.d (.lst (r.1.map aa.pd)), [.var [.d (.lst (r.2.fL.map (PD.int .i64))), rI r.2.fAt]]) := by
 refine Ev.body rfl Tryz.func18 rfl (by kernel_rfl)<|gS rfl rfl<|sV .nils<|sN<|gS rfl rfl<|sV .nils<|sN<|qS<|gS rfl rfl<|sM rfl<|sE (rI (a1.length : Int)) (lenMap _ _)<|sV (r0)<|sN<|bE h fun o15 ho15 h => WC.block (WC.loop (WL.ofLoop ho15 (fun s R' B' => ghosts prog 1 (A R' B') (au.at_ 18 1 3) = some (A [(0, .ptr 0 0), (1, .d (.lst (a1.map aa.pd))), (2, .d (.lst (a2.map aa.pd))), (7, .ref 368 0), (10, rI (a1.length : Int)), (11, rI s.1)] [(0, .var [.d (.lst (s.2.1.map (PD.int .i64))), rI s.2.2.1]), (368, .arr 0 52 (s.2.2.2.map aa.pd))])) (fun o e R' B' => e = .exit 0 ∧ ghosts prog 1 (A R' B') (au.at_ 18 1 8) = some (A [(0, .ptr 0 0), (2, .d (.lst (a2.map aa.pd))), (7, .ref 368 0)] [(0, .var [.d (.lst (o.1.map (PD.int .i64))), rI o.2.1]), (368, .arr 0 52 (o.2.2.map aa.pd))])) rfl ?_ ?_))
 ·rintro ⟨s1, s2, s3, s4⟩ R' B' q8 hI h
  refine gS rfl hI<|sF h (fun h => ?_) fun h => ?_
  ·refine sN<|qS<|cT<|qK<|qS<|qB<|gS rfl rfl<|sM rfl<|sA rfl<|sN<|gS rfl rfl<|sM rfl<|bE h fun x10 hx10 h => cR (rI x10.1) [(0, .var [.d (.lst (x10.2.fL.map (PD.int .i64))), rI x10.2.fAt])] (bt hx10)<|sF h (fun h => ?_) fun h => ?_
   ·refine sN<|cT<|WC.region rfl rfl<|sM rfl<|sM rfl<|sM rfl<|bE h fun x12 hx12 h => eG hx12 rfl<|sV (.d (aa.pd x12))<|sG (.d (.lst ([x12].map aa.pd)))<|bE h fun x13 hx13 h => aR hx13 (fun _ => rfl) rfl<|sA rfl<|sN<|WC.region rfl rfl ?_
    refine sV (rI (rW (s1 + (1 : Int))))<|sM rfl<|sN ?_
    cases oI h
    exact ⟨rfl, rfl⟩
   refine sN<|cF<|qK<|WC.region rfl rfl<|sV (rI (rW (s1 + (1 : Int))))<|sM rfl<|sN ?_
   cases oI h
   exact ⟨rfl, rfl⟩
  refine sN<|qS<|cF<|qX ?_
  cases oI h
  exact ⟨nofun, rfl, rfl⟩
 intro e R' B' he hq
 obtain ⟨rfl, hI⟩ := hq
 refine qE<|qS<|gS rfl hI<|sM rfl<|bE h fun x16 hx16 h => cR (rI x16.1) [(0, .var [.d (.lst (x16.2.fL.map (PD.int .i64))), rI x16.2.fAt])] (bt hx16)<|sF h (fun h => ?_) fun h => ?_
 ·refine sM rfl<|sM rfl<|sE (rI (a2.length : Int)) (lenMap _ _)<|sV (rB (decide ((a2.length : Int) > (0 : Int))))<|sF h (fun h => ?_) fun h => ?_
  ·refine sN<|cT<|WC.region rfl rfl<|sM rfl<|sM rfl<|sM rfl<|sM rfl<|sE (rI (a2.length : Int)) (lenMap _ _)<|bE h fun x19 hx19 h => cR (rI x19.1) [(0, .var [.d (.lst (x19.2.fL.map (PD.int .i64))), rI x19.2.fAt])] (bt hx19)<|bE h fun x20 hx20 h => eG hx20 rfl<|sV (.d (aa.pd x20))<|sG (.d (.lst ([x20].map aa.pd)))<|bE h fun x21 hx21 h => ?_
   refine aR hx21 (fun _ => rfl) rfl<|sA rfl<|sN<|gS rfl rfl<|sM rfl<|sA rfl<|sN<|qR ?_
   cases oI h
   exact qD
  refine sN<|cF<|qK<|gS rfl rfl<|sM rfl<|sA rfl<|sN<|qR ?_
  cases oI h
  exact qD
 refine sM rfl<|k3<|sU<|sN<|cF<|qK<|gS rfl rfl<|sM rfl<|sA rfl<|sN<|qR ?_
 cases oI h
 exact qD
theorem mP {a0 : aa} {d1 : Int} {d2 : ae} {d3 : ae} {d4 : (List (aa × Int))} {r : Bool} (h : fk a0 d1 d2 d3 d4 = some r) : EvP prog au ext 56 [.d (aa.pd a0), .ptr 0 0, .ptr 1 0, .ptr 2 0, .ptr 3 0] [.var [.ptr 4 0], .var [rI d1], .var [.d (.lst (d2.aq.map ac.pd))], .var [.d (.lst (d3.aq.map ac.pd))], .map 52 3 (d4.map fun e => (aa.pd e.1, (PD.int .i64) e.2))] (rB r, [.var [.ptr 4 0], .var [rI d1], .var [.d (.lst (d2.aq.map ac.pd))], .var [.d (.lst (d3.aq.map ac.pd))], .map 52 3 (d4.map fun e => (aa.pd e.1, (PD.int .i64) e.2))]) := by
 refine Ev.body rfl Tryz.func56 rfl (by kernel_rfl)<|gS rfl rfl<|sB (.ptr 80 0) 80 (.var (aa.rc a0))<|sU<|sN<|WC.regionDSeq rfl rfl<|sL rfl<|sV (.d (aa.pd a0))<|WO.look (gv := (PD.int .i64)) (z := (0 : Int)) keyT_52 rfl rfl rfl rfl rfl rfl rfl rfl<|sL rfl<|sF h (fun h => ?_) fun h => ?_
 ·refine sM rfl<|k3<|sK<|sT<|sA rfl ?_
  refine sN<|sO<|qR ?_
  cases oI h
  exact qG
 refine sM rfl<|sV (.d (ae.pd d2))<|sV (.d (ae.pd d3))<|sV (.d (aa.pd a0))<|bE h fun x2 hx2 h => cD (fj hx2)<|sV (rB x2)<|sA rfl ?_
 refine sN<|sO<|qR ?_
 cases oI h
 exact qG
theorem p9 {a0 : (List aa)} {d1 : Int} {d2 : ae} {d3 : ae} {d4 : (List (aa × Int))} {r : Int} (h : cW a0 d1 d2 d3 d4 = some r) : EvP prog au ext 100 [.d (.lst (a0.map aa.pd)), .clo 56 [.ptr 0 0, .ptr 1 0, .ptr 2 0, .ptr 3 0]] [.var [.ptr 4 0], .var [rI d1], .var [.d (.lst (d2.aq.map ac.pd))], .var [.d (.lst (d3.aq.map ac.pd))], .map 52 3 (d4.map fun e => (aa.pd e.1, (PD.int .i64) e.2))] (rI r, [.var [.ptr 4 0], .var [rI d1], .var [.d (.lst (d2.aq.map ac.pd))], .var [.d (.lst (d3.aq.map ac.pd))], .map 52 3 (d4.map fun e => (aa.pd e.1, (PD.int .i64) e.2))]) := by
 refine Ev.body rfl Tryz.func100 rfl (by kernel_rfl)<|gS rfl rfl<|sV (r0)<|sN<|qS<|gS rfl rfl<|sM rfl<|sE (rI (a0.length : Int)) (lenMap _ _)<|sV (r0)<|sN<|bE h fun o8 ho8 h => WC.block (WC.loop (WL.ofLoop ho8 (fun s R' B' => ghosts prog 5 (A R' B') (au.at_ 100 5 2) = some (A [(0, .d (.lst (a0.map aa.pd))), (1, .clo 56 [.ptr 0 0, .ptr 1 0, .ptr 2 0, .ptr 3 0]), (7, rI (a0.length : Int)), (8, rI s)] [(0, .var [.ptr 4 0]), (1, .var [rI d1]), (2, .var [.d (.lst (d2.aq.map ac.pd))]), (3, .var [.d (.lst (d3.aq.map ac.pd))]), (4, .map 52 3 (d4.map fun e => (aa.pd e.1, (PD.int .i64) e.2)))])) (fun o e R' B' => match o with | .inl y => e = .exit 0 ∧ ghosts prog 5 (A R' B') (au.at_ 100 5 7) = some (A [] [(0, .var [.ptr 4 0]), (1, .var [rI d1]), (2, .var [.d (.lst (d2.aq.map ac.pd))]), (3, .var [.d (.lst (d3.aq.map ac.pd))]), (4, .map 52 3 (d4.map fun e => (aa.pd e.1, (PD.int .i64) e.2)))]) | .inr r => e = .ret ∧ finish prog (au.own 100) Tryz.f100 5 (A R' B') = some (rI r, [.var [.ptr 4 0], .var [rI d1], .var [.d (.lst (d2.aq.map ac.pd))], .var [.d (.lst (d3.aq.map ac.pd))], .map 52 3 (d4.map fun e => (aa.pd e.1, (PD.int .i64) e.2))])) rfl ?_ ?_))
 ·rintro s1 R' B' q2 hI h
  refine gS rfl hI<|sF h (fun h => ?_) fun h => ?_
  ·refine sN<|qS<|cT<|qK<|qS<|qB<|gS rfl rfl<|sM rfl<|sA rfl<|sN<|gS rfl rfl<|sM rfl<|sM rfl<|sM rfl<|bE h fun x4 hx4 h => ?_
   refine eG hx4 rfl<|sV (.d (aa.pd x4))<|bE h fun x5 hx5 h => ite_elim h (fun hb6 h => ?_) (fun hb6 h => ?_)
   ·refine WO.callR (v := rB true) (u := [(0, .var [.ptr 4 0]), (1, .var [rI d1]), (2, .var [.d (.lst (d2.aq.map ac.pd))]), (3, .var [.d (.lst (d3.aq.map ac.pd))]), (4, .map 52 3 (d4.map fun e => (aa.pd e.1, (PD.int .i64) e.2)))]) rfl rfl (fun _ => rfl) rfl rfl rfl rfl rfl (mP hx5) rfl rfl (congrArg (fun b => RV.d (.bool b)) hb6) rfl<|sN<|cT<|gS rfl rfl<|sM rfl<|sA rfl<|sN<|qR ?_
    cases oI h
    exact ⟨nofun, rfl, rfl⟩
   refine WO.callR (v := rB false) (u := [(0, .var [.ptr 4 0]), (1, .var [rI d1]), (2, .var [.d (.lst (d2.aq.map ac.pd))]), (3, .var [.d (.lst (d3.aq.map ac.pd))]), (4, .map 52 3 (d4.map fun e => (aa.pd e.1, (PD.int .i64) e.2)))]) rfl rfl (fun _ => rfl) rfl rfl rfl rfl rfl (mP hx5) rfl rfl (congrArg (fun b => RV.d (.bool b)) hb6) rfl<|sN<|cF<|qK<|WC.region rfl rfl<|sV (rI (rW (s1 + (1 : Int))))<|sM rfl<|sN ?_
   cases oI h
   exact ⟨rfl, rfl⟩
  refine sN<|qS<|cF<|qX ?_
  cases oI h
  exact ⟨nofun, rfl, rfl⟩
 intro e R' B' he hq
 rcases o8 with y9 | r10
 ·obtain ⟨rfl, hI⟩ := hq
  refine qE<|gS rfl hI<|sV (rI (-1))<|sN<|qR ?_
  cases oI h
  exact qD
 obtain ⟨rfl, hf⟩ := hq
 cases oI h
 exact hf
theorem nQ {a0 : (List aa)} {d1 : Int} {d2 : ae} {d3 : ae} {d4 : (List (aa × Int))} {r : Bool} (h : ca a0 d1 d2 d3 d4 = some r) : EvP prog au ext 57 [.d (.lst (a0.map aa.pd)), .clo 56 [.ptr 0 0, .ptr 1 0, .ptr 2 0, .ptr 3 0]] [.var [.ptr 4 0], .var [rI d1], .var [.d (.lst (d2.aq.map ac.pd))], .var [.d (.lst (d3.aq.map ac.pd))], .map 52 3 (d4.map fun e => (aa.pd e.1, (PD.int .i64) e.2))] (rB r, [.var [.ptr 4 0], .var [rI d1], .var [.d (.lst (d2.aq.map ac.pd))], .var [.d (.lst (d3.aq.map ac.pd))], .map 52 3 (d4.map fun e => (aa.pd e.1, (PD.int .i64) e.2))]) := by
 refine Ev.body rfl Tryz.func57 rfl (by kernel_rfl)<|gS rfl rfl<|sU<|sN<|gS rfl rfl<|sM rfl<|sM rfl<|bE h fun x1 hx1 h => cR (rI x1) [(0, .var [.ptr 4 0]), (1, .var [rI d1]), (2, .var [.d (.lst (d2.aq.map ac.pd))]), (3, .var [.d (.lst (d3.aq.map ac.pd))]), (4, .map 52 3 (d4.map fun e => (aa.pd e.1, (PD.int .i64) e.2)))] (p9 hx1)<|sV (rB (decide (x1 ≥ (0 : Int))))<|sA rfl<|sN<|qR ?_
 cases oI h
 exact qD
theorem md {a0 : Int} {a1 : (List aa)} {a2 : (List aa)} {a3 : ae} {a4 : ae} {r : (List Int) × Int} (h : gU a0 a1 a2 a3 a4 = some r) : EvP prog au ext 25 [rI a0, .d (.lst (a1.map aa.pd)), .d (.lst (a2.map aa.pd)), .d (ae.pd a3), .d (ae.pd a4)] [] (.tup [.d (.lst (r.1.map (PD.int .i64))), rI r.2], []) := by
 refine Ev.body rfl Tryz.func25 rfl (by kernel_rfl)<|gS rfl rfl<|sB (.ptr 128 0) 128 (.var [.d (.lst (a3.aq.map ac.pd))])<|sB (.ptr 144 0) 144 (.var [.d (.lst (a4.aq.map ac.pd))])<|sV .nils<|sV (r0)<|sN<|qS<|qB<|gS rfl rfl<|sM rfl<|sF h (fun h => ?_) fun h => ?_
 ·refine sM rfl<|sK<|sK<|sT<|sA rfl<|sN<|cT<|gS rfl rfl<|sV .nils<|sV (rI 2)<|sN<|qR ?_
  cases oI h
  exact qD
 refine sM rfl<|sM rfl<|sV (rB (decide (a0 > (1099511627776 : Int))))<|sF h (fun h => ?_) fun h => ?_
 ·refine sA rfl<|sN<|cT<|gS rfl rfl<|sV .nils<|sV (rI 2)<|sN<|qR ?_
  cases oI h
  exact qD
 refine sA rfl<|sN<|cF<|gS rfl rfl<|sM rfl<|bE h fun x3 hx3 h => cD (me hx3)<|sF h (fun h => ?_) fun h => ?_
 ·refine sM rfl<|k3<|sT<|sM rfl<|k3<|sT<|sM rfl<|k3<|sT ?_
  refine sA rfl<|sN<|cT<|gS rfl rfl<|sV .nils<|sV (rI 1)<|sN<|qR ?_
  cases oI h
  exact qD
 refine sM rfl<|sM rfl<|bE h fun x5 hx5 h => cD (me hx5)<|sV (rB (!x5))<|sF h (fun h => ?_) fun h => ?_
 ·refine sM rfl<|k3<|sT<|sM rfl<|k3<|sT<|sA rfl<|sN<|cT<|gS rfl rfl<|sV .nils ?_
  refine sV (rI 1)<|sN<|qR ?_
  cases oI h
  exact qD
 refine sM rfl<|sV (.d (ae.pd a3))<|bE h fun x7 hx7 h => cD (ec hx7)<|sV (rB (!x7))<|sF h (fun h => ?_) fun h => ?_
 ·refine sM rfl<|k3<|sT<|sA rfl<|sN<|cT<|gS rfl rfl<|sV .nils<|sV (rI 1)<|sN<|qR ?_
  cases oI h
  exact qD
 refine sM rfl<|sV (.d (ae.pd a4))<|bE h fun x9 hx9 h => cD (ec hx9)<|sV (rB (!x9))<|sF h (fun h => ?_) fun h => ?_
 ·refine sA rfl<|sN<|cT<|gS rfl rfl<|sV .nils<|sV (rI 1)<|sN<|qR ?_
  cases oI h
  exact qD
 refine sA rfl<|sN<|cF<|qK<|gS rfl rfl<|sM rfl<|sM rfl<|bE h fun x11 hx11 h => cD (ku hx11)<|sA rfl<|sN<|gS rfl rfl<|sB (.ptr 832 0) 832 (.map 52 3 (([] : List (aa × Int)).map fun e => (aa.pd e.1, (PD.int .i64) e.2)))<|sB (.ptr 208 0) 208 (.var [.d (.raw (.map none))])<|sS 208 (.var [.ptr 832 0]) ?_
 refine sN<|qS<|gS rfl rfl<|sM rfl<|sE (rI (x11.length : Int)) (lenMap _ _)<|sV (r0)<|sN<|bE h fun o28 ho28 h => WC.block (WC.loop (WL.ofLoop ho28 (fun s R' B' => ghosts prog 0 (A R' B') (au.at_ 25 0 8) = some (A [(0, rI a0), (2, .d (.lst (a2.map aa.pd))), (8, .ptr 128 0), (9, .ptr 144 0), (12, .d (.lst (x11.map (fun l => PD.lst (l.map aa.pd))))), (13, .ptr 208 0), (53, .d (.lst (x11.map (fun l => PD.lst (l.map aa.pd))))), (54, rI (x11.length : Int)), (55, rI s.1)] [(128, .var [.d (.lst (a3.aq.map ac.pd))]), (144, .var [.d (.lst (a4.aq.map ac.pd))]), (208, .var [.ptr 832 0]), (832, .map 52 3 (s.2.map fun e => (aa.pd e.1, (PD.int .i64) e.2)))])) (fun o e R' B' => e = .exit 1 ∧ ghosts prog 0 (A R' B') (au.at_ 25 0 16) = some (A [(0, rI a0), (2, .d (.lst (a2.map aa.pd))), (8, .ptr 128 0), (9, .ptr 144 0), (12, .d (.lst (x11.map (fun l => PD.lst (l.map aa.pd))))), (13, .ptr 208 0)] [(128, .var [.d (.lst (a3.aq.map ac.pd))]), (144, .var [.d (.lst (a4.aq.map ac.pd))]), (208, .var [.ptr 832 0]), (832, .map 52 3 (o.map fun e => (aa.pd e.1, (PD.int .i64) e.2)))])) rfl ?_ ?_))
 ·rintro ⟨s12, s13⟩ R' B' q15 hI h
  refine gS rfl hI<|sF h (fun h => ?_) fun h => ?_
  ·refine sN<|qS<|cT<|qK<|qS<|qB<|gS rfl rfl<|sM rfl<|bE h fun x17 hx17 h => eG hx17 rfl<|sC rfl<|sA rfl<|sA rfl<|sN<|gS rfl rfl ?_
   refine sM rfl<|sE (rI (x17.length : Int)) (lenMap _ _)<|sV (r0)<|sN<|bE h fun o26 ho26 h => WC.block (WC.loop (WL.ofLoop ho26 (fun s R' B' => ghosts prog 0 (A R' B') (au.at_ 25 0 11) = some (A [(0, rI a0), (2, .d (.lst (a2.map aa.pd))), (8, .ptr 128 0), (9, .ptr 144 0), (12, .d (.lst (x11.map (fun l => PD.lst (l.map aa.pd))))), (13, .ptr 208 0), (14, rI s12), (53, .d (.lst (x11.map (fun l => PD.lst (l.map aa.pd))))), (54, rI (x11.length : Int)), (55, rI s12), (60, .d (.lst (x17.map aa.pd))), (61, rI (x17.length : Int)), (62, rI s.1)] [(128, .var [.d (.lst (a3.aq.map ac.pd))]), (144, .var [.d (.lst (a4.aq.map ac.pd))]), (208, .var [.ptr 832 0]), (832, .map 52 3 (s.2.map fun e => (aa.pd e.1, (PD.int .i64) e.2)))])) (fun o e R' B' => e = .exit 3 ∧ ghosts prog 0 (A R' B') (au.at_ 25 0 15) = some (A [(0, rI a0), (2, .d (.lst (a2.map aa.pd))), (8, .ptr 128 0), (9, .ptr 144 0), (12, .d (.lst (x11.map (fun l => PD.lst (l.map aa.pd))))), (13, .ptr 208 0), (53, .d (.lst (x11.map (fun l => PD.lst (l.map aa.pd))))), (54, rI (x11.length : Int)), (55, rI o.1)] [(128, .var [.d (.lst (a3.aq.map ac.pd))]), (144, .var [.d (.lst (a4.aq.map ac.pd))]), (208, .var [.ptr 832 0]), (832, .map 52 3 (o.2.map fun e => (aa.pd e.1, (PD.int .i64) e.2)))])) rfl ?_ ?_))
   ·rintro ⟨s18, s19⟩ R' B' q22 hI h
    refine gS rfl hI<|sF h (fun h => ?_) fun h => ?_
    ·refine sN<|qS<|cT<|qK<|qS<|qB<|gS rfl rfl<|bE h fun x24 hx24 h => eG hx24 rfl<|sV (.d (aa.pd x24))<|sB (.ptr 272 0) 272 (.var zZ1)<|sH 272 (.var (aa.rc x24))<|sN<|WC.region rfl rfl<|sL rfl ?_
     refine sV (.d (aa.pd x24))<|sM rfl<|sV (rI (rW (s12 + (1 : Int))))<|WO.mput (gv := (PD.int .i64)) (y := (rW (s12 + (1 : Int)))) keyT_52 rfl rfl rfl rfl rfl rfl rfl rfl rfl rfl<|sN<|WC.region rfl rfl<|sV (rI (rW (s18 + (1 : Int))))<|sM rfl<|sN ?_
     cases oI h
     exact ⟨rfl, rfl⟩
    refine sN<|qS<|cF<|qX ?_
    cases oI h
    exact ⟨nofun, rfl, rfl⟩
   intro e R' B' he hq
   obtain ⟨rfl, hI⟩ := hq
   refine qE<|WC.region hI rfl<|sV (rI (rW (o26.1 + (1 : Int))))<|sM rfl<|sN ?_
   cases oI h
   exact ⟨rfl, rfl⟩
  refine sN<|qS<|cF<|qX ?_
  cases oI h
  exact ⟨nofun, rfl, rfl⟩
 intro e R' B' he hq
 obtain ⟨rfl, hI⟩ := hq
 refine qE<|gS rfl hI<|sV .nils<|sN<|qS<|gS rfl rfl<|sM rfl<|sM rfl<|bE h fun x29 hx29 h => cD (ku hx29)<|sE (rI (x29.length : Int)) (lenMap _ _)<|sV (r0)<|sN<|bE h fun o46 ho46 h => WC.block (WC.loop (WL.ofLoop ho46 (fun s R' B' => ghosts prog 0 (A R' B') (au.at_ 25 0 18) = some (A [(8, .ptr 128 0), (9, .ptr 144 0), (12, .d (.lst (x11.map (fun l => PD.lst (l.map aa.pd))))), (13, .ptr 208 0), (18, .ref 1728 0), (74, .d (.lst (x29.map (fun l => PD.lst (l.map aa.pd))))), (75, rI (x29.length : Int)), (76, rI s.1)] [(128, .var [.d (.lst (a3.aq.map ac.pd))]), (144, .var [.d (.lst (a4.aq.map ac.pd))]), (208, .var [.ptr 832 0]), (832, .map 52 3 (o28.map fun e => (aa.pd e.1, (PD.int .i64) e.2))), (1728, .arr 0 3 (s.2.map (PD.int .i64)))])) (fun o e R' B' => e = .exit 5 ∧ ghosts prog 0 (A R' B') (au.at_ 25 0 25) = some (A [(18, .ref 1728 0)] [(1728, .arr 0 3 (o.map (PD.int .i64)))])) rfl ?_ ?_))
 ·rintro ⟨s30, s31⟩ R' B' q33 hI h
  refine gS rfl hI<|sF h (fun h => ?_) fun h => ?_
  ·refine sN<|qS<|cT<|qK<|qS<|qB<|gS rfl rfl<|sM rfl<|bE h fun x35 hx35 h => eG hx35 rfl<|sC rfl<|sA rfl<|sA rfl<|sN<|WC.regionDSeq rfl rfl ?_
   refine sL rfl<|sM rfl<|bE h fun x36 hx36 h => eG hx36 rfl<|sV (.d (aa.pd x36))<|WO.look (gv := (PD.int .i64)) (z := (0 : Int)) keyT_52 rfl rfl rfl rfl rfl rfl rfl rfl<|sB (.ptr 336 0) 336 (.var [r0])<|sS 336 (.var [rI (mGet pg x36 (0 : Int) o28)]) ?_
   refine sN<|sO<|gS rfl rfl<|sV (.clo 56 [.ptr 208 0, .ptr 336 0, .ptr 128 0, .ptr 144 0])<|sA rfl<|sN<|gS rfl rfl<|sL rfl<|sF h (fun h => ?_) fun h => ?_
   ·refine sM rfl<|k3<|k3<|k3<|sT<|sM rfl<|sK<|sK<|sK ?_
    refine sT<|sN<|cT<|WC.region rfl rfl<|sM rfl<|sM rfl<|sV (.d (.lst ([s30].map (PD.int .i64))))<|bE h fun x38 hx38 h => aR hx38 (fun _ => rfl) rfl<|sA rfl<|sN<|WC.region rfl rfl<|sV (rI (rW (s30 + (1 : Int))))<|sM rfl<|sN ?_
    cases oI h
    exact ⟨rfl, rfl⟩
   refine sM rfl<|sM rfl<|sL rfl<|sV (rI (rW ((mGet pg x36 (0 : Int) o28) - (1 : Int))))<|bE h fun x39 hx39 h => eG hx39 rfl<|sC rfl<|sE (rI (x39.length : Int)) (lenMap _ _)<|sM rfl<|sE (rI (x35.length : Int)) (lenMap _ _)<|sV (rB ((x39.length : Int) != (x35.length : Int)))<|sF h (fun h => ?_) fun h => ?_
   ·refine sM rfl<|k3<|sT<|sN<|cT<|WC.region rfl rfl<|sM rfl<|sM rfl<|sV (.d (.lst ([s30].map (PD.int .i64))))<|bE h fun x41 hx41 h => aR hx41 (fun _ => rfl) rfl<|sA rfl<|sN ?_
    refine WC.region rfl rfl<|sV (rI (rW (s30 + (1 : Int))))<|sM rfl<|sN ?_
    cases oI h
    exact ⟨rfl, rfl⟩
   refine sM rfl<|sM rfl<|sM rfl<|bE h fun x42 hx42 h => cR (rB x42) [(208, .var [.ptr 832 0]), (336, .var [rI (mGet pg x36 (0 : Int) o28)]), (128, .var [.d (.lst (a3.aq.map ac.pd))]), (144, .var [.d (.lst (a4.aq.map ac.pd))]), (832, .map 52 3 (o28.map fun e => (aa.pd e.1, (PD.int .i64) e.2)))] (nQ hx42)<|sF h (fun h => ?_) fun h => ?_
   ·refine sN<|cT<|WC.region rfl rfl<|sM rfl<|sM rfl<|sV (.d (.lst ([s30].map (PD.int .i64))))<|bE h fun x44 hx44 h => aR hx44 (fun _ => rfl) rfl<|sA rfl<|sN<|WC.region rfl rfl<|sV (rI (rW (s30 + (1 : Int))))<|sM rfl<|sN ?_
    cases oI h
    exact ⟨rfl, rfl⟩
   refine sN<|cF<|qK<|WC.region rfl rfl<|sV (rI (rW (s30 + (1 : Int))))<|sM rfl<|sN ?_
   cases oI h
   exact ⟨rfl, rfl⟩
  refine sN<|qS<|cF<|qX ?_
  cases oI h
  exact ⟨nofun, rfl, rfl⟩
 intro e R' B' he hq
 obtain ⟨rfl, hI⟩ := hq
 refine qE<|gS rfl hI<|sM rfl<|sA rfl<|sV (r0)<|sN<|qR ?_
 cases oI h
 exact qD
theorem keep_In_ev {a0 : (List Int)} {a1 : Int} {r : Bool} (h : wZ a0 a1 = some r) : EvP prog au ext 30 [.d (.lst (a0.map (PD.int .i64))), rI a1] [] (rB r, []) := by
 refine Ev.body rfl Tryz.func30 rfl (by kernel_rfl)<|gS rfl rfl<|sU<|sN<|qS<|gS rfl rfl<|sM rfl<|sE (rI (a0.length : Int)) (lenMap _ _)<|sV (r0)<|sN<|bE h fun o7 ho7 h => WC.block (WC.loop (WL.ofLoop ho7 (fun s R' B' => ghosts prog 0 (A R' B') (au.at_ 30 0 2) = some (A [(0, .d (.lst (a0.map (PD.int .i64)))), (1, rI a1), (7, rI (a0.length : Int)), (8, rI s)] [])) (fun o e R' B' => match o with | .inl y => e = .exit 0 ∧ ghosts prog 0 (A R' B') (au.at_ 30 0 7) = some (A [] []) | .inr r => e = .ret ∧ finish prog (au.own 30) Tryz.f30 0 (A R' B') = some (rB r, [])) rfl ?_ ?_))
 ·rintro s1 R' B' q2 hI h
  refine gS rfl hI<|sF h (fun h => ?_) fun h => ?_
  ·refine sN<|qS<|cT<|qK<|qS<|qB<|gS rfl rfl<|sM rfl<|sA rfl<|sN<|gS rfl rfl<|sM rfl<|sM rfl<|bE h fun x4 hx4 h => eG hx4 rfl ?_
   refine sC rfl<|sM rfl<|sF h (fun h => ?_) fun h => ?_
   ·refine sN<|cT<|gS rfl rfl<|sT<|sN<|qR ?_
    cases oI h
    exact ⟨nofun, rfl, rfl⟩
   refine sN<|cF<|qK<|WC.region rfl rfl<|sV (rI (rW (s1 + (1 : Int))))<|sM rfl<|sN ?_
   cases oI h
   exact ⟨rfl, rfl⟩
  refine sN<|qS<|cF<|qX ?_
  cases oI h
  exact ⟨nofun, rfl, rfl⟩
 intro e R' B' he hq
 rcases o7 with y8 | r9
 ·obtain ⟨rfl, hI⟩ := hq
  refine qE<|gS rfl hI<|sU<|sN<|qR ?_
  cases oI h
  exact qD
 obtain ⟨rfl, hf⟩ := hq
 cases oI h
 exact hf
theorem ud {a0 : (List Int)} {r : Bool} (h : kz a0 = some r) : EvP prog au ext 5 [.d (.lst (a0.map (PD.int .i64)))] [] (rB r, []) := by
 refine Ev.body rfl Tryz.func5 rfl (by kernel_rfl)<|gS rfl rfl<|sU<|sN<|gS rfl rfl<|sM rfl<|bE h fun x1 hx1 h => cR (.ptr 384 0) [(384, .var [.d (.lst (x1.fL.map (PD.int .i64))), rI x1.fAt])] (qw hx1)<|sA rfl<|sN<|gS rfl rfl<|sM rfl<|bE h fun x2 hx2 h => cR (.d (aG.pd x2.1)) [(384, .var [.d (.lst (x2.2.fL.map (PD.int .i64))), rI x2.2.fAt])] (j5 hx2)<|sM rfl ?_
 refine bE h fun x3 hx3 h => cR (.d (ae.pd x3.1)) [(384, .var [.d (.lst (x3.2.fL.map (PD.int .i64))), rI x3.2.fAt])] (oc hx3)<|sB (.ptr 64 0) 64 (.var zZ0)<|sB (.ptr 80 0) 80 (.var [.nils])<|sH 64 (.var (aG.rc x2.1))<|sS 80 (.var [.d (.lst (x3.1.aq.map ac.pd))])<|sN<|gS rfl rfl<|sM rfl<|sV (.d (.agg [.int .i64 x2.1.av.aS.bf.fX, .int .i64 x2.1.av.aS.bf.fY, .int .i64 x2.1.av.aS.bf.fZ, .int .i64 x2.1.av.aS.aY.fX, .int .i64 x2.1.av.aS.aY.fY, .int .i64 x2.1.av.aS.aY.fZ, .int .i64 x2.1.av.bw.bH, .lst (x2.1.av.bw.bf.map (PD.int .i64)), .lst (x2.1.av.bw.aY.map (PD.int .i64)), .int .i64 x2.1.av.xN, .int .i64 x2.1.av.bB, .int .i64 x2.1.av.oh, .int .i64 x2.1.av.nr, .int .i64 x2.1.av.nq, .int .i64 x2.1.b9.a8.bH, .lst (x2.1.b9.a8.bf.map (PD.int .i64)), .lst (x2.1.b9.a8.aY.map (PD.int .i64)), .int .i64 x2.1.b9.aW, .int .i64 x2.1.b9.aQ, .int .i64 x2.1.bB]))<|sV (.d (.agg [.lst (x3.1.aq.map ac.pd)]))<|bE h fun x4 hx4 h => cR (.d (.lst (x4.1.map aa.pd))) [(384, .var [.d (.lst (x4.2.fL.map (PD.int .i64))), rI x4.2.fAt])] (jG hx4)<|sA rfl<|sN ?_
 refine gS rfl rfl<|sM rfl<|sV (.d (.lst ([0, 50, 400].map (PD.int .i64))))<|bE h fun x5 hx5 h => cR (rI x5.1) [(384, .var [.d (.lst (x5.2.fL.map (PD.int .i64))), rI x5.2.fAt])] (cu hx5)<|sA rfl<|sN<|gS rfl rfl<|sM rfl<|sM rfl<|sM rfl<|sV (.d (.agg [.int .i64 x2.1.av.aS.bf.fX, .int .i64 x2.1.av.aS.bf.fY, .int .i64 x2.1.av.aS.bf.fZ, .int .i64 x2.1.av.aS.aY.fX, .int .i64 x2.1.av.aS.aY.fY, .int .i64 x2.1.av.aS.aY.fZ, .int .i64 x2.1.av.bw.bH, .lst (x2.1.av.bw.bf.map (PD.int .i64)), .lst (x2.1.av.bw.aY.map (PD.int .i64)), .int .i64 x2.1.av.xN, .int .i64 x2.1.av.bB, .int .i64 x2.1.av.oh, .int .i64 x2.1.av.nr, .int .i64 x2.1.av.nq, .int .i64 x2.1.b9.a8.bH, .lst (x2.1.b9.a8.bf.map (PD.int .i64)), .lst (x2.1.b9.a8.aY.map (PD.int .i64)), .int .i64 x2.1.b9.aW, .int .i64 x2.1.b9.aQ, .int .i64 x2.1.bB]))<|sV (.d (.agg [.lst (x3.1.aq.map ac.pd)]))<|bE h fun x6 hx6 h => cR (.d (.lst (x6.1.map aa.pd))) [(384, .var [.d (.lst (x6.2.fL.map (PD.int .i64))), rI x6.2.fAt])] (jG hx6) ?_
 refine bE h fun x7 hx7 h => cR (.d (.lst (x7.1.map aa.pd))) [(384, .var [.d (.lst (x7.2.fL.map (PD.int .i64))), rI x7.2.fAt])] (vQ hx7)<|sA rfl<|sN<|gS rfl rfl<|sM rfl<|sV (.d (.agg [.lst (x3.1.aq.map ac.pd)]))<|bE h fun x8 hx8 h => cR (.d (ae.pd x8.1)) [(384, .var [.d (.lst (x8.2.fL.map (PD.int .i64))), rI x8.2.fAt])] (pu hx8)<|sB (.ptr 144 0) 144 (.var [.nils])<|sS 144 (.var [.d (.lst (x8.1.aq.map ac.pd))])<|sN<|gS rfl rfl<|sM rfl<|sM rfl ?_
 refine sM rfl<|sV (.d (.agg [.lst (x3.1.aq.map ac.pd)]))<|sV (.d (.agg [.lst (x3.1.aq.map ac.pd)]))<|bE h fun x9 hx9 h => cR (.tup [.d (.lst (x9.1.map (PD.int .i64))), rI x9.2]) [] (md hx9)<|sM rfl<|sV (.d (.lst (x9.1.map (PD.int .i64))))<|sV (rI x9.2)<|sA rfl<|sA rfl<|sN<|gS rfl rfl<|sM rfl<|sM rfl<|sM rfl ?_
 refine sV (.d (.agg [.lst (x3.1.aq.map ac.pd)]))<|sV (.d (.agg [.lst (x8.1.aq.map ac.pd)]))<|bE h fun x10 hx10 h => cR (.tup [.d (.lst (x10.1.map (PD.int .i64))), rI x10.2]) [] (md hx10)<|sM rfl<|sV (.d (.lst (x10.1.map (PD.int .i64))))<|sV (rI x10.2)<|sA rfl<|sA rfl<|sN<|gS rfl rfl<|sM rfl<|sM rfl<|bE h fun x11 hx11 h => cR (.tup [.d (.lst (x11.1.map (fun l => PD.lst (l.map aa.pd)))), rI x11.2]) [] (fi hx11) ?_
 refine sM rfl<|sV (.d (.lst (x11.1.map (fun l => PD.lst (l.map aa.pd)))))<|sV (rI x11.2)<|sA rfl<|sA rfl<|sN<|qS<|gS rfl rfl<|sM rfl<|sF h (fun h => ?_) fun h => ?_
 ·refine sM rfl<|sK<|sK<|sT<|sM rfl<|sK<|sK<|sT<|sM rfl<|k3<|sT<|sN<|cT ?_
  refine gS rfl rfl<|sU<|sN<|qR ?_
  cases oI h
  exact qG
 refine sM rfl<|sM rfl<|sV (rB (x10.2 != (0 : Int)))<|sF h (fun h => ?_) fun h => ?_
 ·refine sM rfl<|sK<|sK<|sT<|sM rfl<|k3<|sT<|sN<|cT<|gS rfl rfl<|sU<|sN<|qR ?_
  cases oI h
  exact qG
 refine sM rfl<|sM rfl<|sV (rB (x11.2 != (0 : Int)))<|sF h (fun h => ?_) fun h => ?_
 ·refine sM rfl<|k3<|sT<|sN<|cT<|gS rfl rfl<|sU<|sN<|qR ?_
  cases oI h
  exact qG
 refine sM rfl<|sM rfl<|sE (rI (x9.1.length : Int)) (lenMap _ _)<|sV (rB (decide ((x9.1.length : Int) > (0 : Int))))<|sF h (fun h => ?_) fun h => ?_
 ·refine sN<|cT<|gS rfl rfl<|sU<|sN<|qR ?_
  cases oI h
  exact qG
 refine sN<|cF<|qK<|qS<|gS rfl rfl<|sM rfl<|sE (rI (x11.1.length : Int)) (lenMap _ _)<|sV (r0)<|sN<|bE h fun o52 ho52 h => WC.block (WC.loop (WL.ofLoop ho52 (fun s R' B' => ghosts prog 0 (A R' B') (au.at_ 5 0 13) = some (A [(5, .ptr 80 0), (6, .d (.lst (x4.1.map aa.pd))), (9, .ptr 144 0), (12, .d (.lst (x10.1.map (PD.int .i64)))), (14, .d (.lst (x11.1.map (fun l => PD.lst (l.map aa.pd))))), (86, rI (x11.1.length : Int)), (87, rI s)] [(80, .var [.d (.lst (x3.1.aq.map ac.pd))]), (144, .var [.d (.lst (x8.1.aq.map ac.pd))])])) (fun o e R' B' => match o with | .inl y => e = .exit 0 ∧ ghosts prog 0 (A R' B') (au.at_ 5 0 30) = some (A [] []) | .inr r => e = .ret ∧ finish prog (au.own 5) Tryz.f5 0 (A R' B') = some (rB r, [])) rfl ?_ ?_))
 ·rintro s16 R' B' q17 hI h
  refine gS rfl hI<|sF h (fun h => ?_) fun h => ?_
  ·refine sN<|qS<|cT<|qK<|qS<|qB<|gS rfl rfl<|sM rfl<|sA rfl<|sN<|gS rfl rfl<|sU<|sN<|qS<|gS rfl rfl ?_
   refine sM rfl<|sM rfl<|bE h fun x19 hx19 h => eG hx19 rfl<|sC rfl<|sE (rI (x19.length : Int)) (lenMap _ _)<|sV (r0)<|sN<|bE h fun o47 ho47 h => WC.block (WC.loop (WL.ofLoop ho47 (fun s R' B' => ghosts prog 0 (A R' B') (au.at_ 5 0 17) = some (A [(5, .ptr 80 0), (6, .d (.lst (x4.1.map aa.pd))), (9, .ptr 144 0), (12, .d (.lst (x10.1.map (PD.int .i64)))), (14, .d (.lst (x11.1.map (fun l => PD.lst (l.map aa.pd))))), (16, rI s.1), (17, rB s.2.1), (86, rI (x11.1.length : Int)), (87, rI s.2.2.1), (93, .d (.lst (x19.map aa.pd))), (94, rI (x19.length : Int)), (95, rI s.2.2.2)] [(80, .var [.d (.lst (x3.1.aq.map ac.pd))]), (144, .var [.d (.lst (x8.1.aq.map ac.pd))])])) (fun o e R' B' => e = .exit 2 ∧ ghosts prog 0 (A R' B') (au.at_ 5 0 27) = some (A [(5, .ptr 80 0), (6, .d (.lst (x4.1.map aa.pd))), (9, .ptr 144 0), (12, .d (.lst (x10.1.map (PD.int .i64)))), (14, .d (.lst (x11.1.map (fun l => PD.lst (l.map aa.pd))))), (16, rI o.1), (17, rB o.2.1), (86, rI (x11.1.length : Int)), (87, rI o.2.2)] [(80, .var [.d (.lst (x3.1.aq.map ac.pd))]), (144, .var [.d (.lst (x8.1.aq.map ac.pd))])])) rfl ?_ ?_))
   ·rintro ⟨s20, s21, s22, s23⟩ R' B' q27 hI h
    refine gS rfl hI<|sF h (fun h => ?_) fun h => ?_
    ·refine sN<|qS<|cT<|qK<|qS<|qB<|gS rfl rfl<|bE h fun x29 hx29 h => eG hx29 rfl<|sV (.d (aa.pd x29))<|sB (.ptr 304 0) 304 (.var zZ1)<|sH 304 (.var (aa.rc x29))<|sN<|gS rfl rfl<|sU ?_
     refine sN<|qS<|gS rfl rfl<|sM rfl<|sE (rI (x4.1.length : Int)) (lenMap _ _)<|sV (r0)<|sN<|bE h fun o42 ho42 h => WC.block (WC.loop (WL.ofLoop ho42 (fun s R' B' => ghosts prog 0 (A R' B') (au.at_ 5 0 21) = some (A [(5, .ptr 80 0), (6, .d (.lst (x4.1.map aa.pd))), (9, .ptr 144 0), (12, .d (.lst (x10.1.map (PD.int .i64)))), (14, .d (.lst (x11.1.map (fun l => PD.lst (l.map aa.pd))))), (16, rI s20), (17, rB s21), (19, .ptr 304 0), (20, rB s.1), (86, rI (x11.1.length : Int)), (87, rI s22), (93, .d (.lst (x19.map aa.pd))), (94, rI (x19.length : Int)), (95, rI s23), (99, .d (.lst (x4.1.map aa.pd))), (100, rI (x4.1.length : Int)), (101, rI s.2)] [(80, .var [.d (.lst (x3.1.aq.map ac.pd))]), (144, .var [.d (.lst (x8.1.aq.map ac.pd))]), (304, .var (aa.rc x29))])) (fun o e R' B' => e = .exit 4 ∧ ghosts prog 0 (A R' B') (au.at_ 5 0 25) = some (A [(5, .ptr 80 0), (6, .d (.lst (x4.1.map aa.pd))), (9, .ptr 144 0), (12, .d (.lst (x10.1.map (PD.int .i64)))), (14, .d (.lst (x11.1.map (fun l => PD.lst (l.map aa.pd))))), (16, rI o.1), (17, rB o.2.1), (19, .ptr 304 0), (20, rB o.2.2.1), (86, rI (x11.1.length : Int)), (87, rI o.2.2.2.1), (93, .d (.lst (x19.map aa.pd))), (94, rI (x19.length : Int)), (95, rI o.2.2.2.2)] [(80, .var [.d (.lst (x3.1.aq.map ac.pd))]), (144, .var [.d (.lst (x8.1.aq.map ac.pd))]), (304, .var (aa.rc x29))])) rfl ?_ ?_))
     ·rintro ⟨s30, s31⟩ R' B' q37 hI h
      refine gS rfl hI<|sF h (fun h => ?_) fun h => ?_
      ·refine sN<|qS<|cT<|qK<|qS<|qB<|gS rfl rfl<|bE h fun x39 hx39 h => eG hx39 rfl<|sV (.d (aa.pd x39))<|sB (.ptr 352 0) 352 (.var zZ1)<|sH 352 (.var (aa.rc x39))<|sN<|WC.region rfl rfl<|sF h (fun h => ?_) fun h => ?_
       ·refine sM rfl<|k3<|sT<|sA rfl<|sN<|WC.region rfl rfl<|sV (rI (rW (s31 + (1 : Int))))<|sM rfl<|sN ?_
        cases oI h
        exact ⟨rfl, rfl⟩
       refine sM rfl<|sV (.d (aa.pd x29))<|sV (.d (aa.pd x39))<|WO.bin (xL x29 x39) rfl rfl rfl rfl rfl<|sV (rB (((x29.al.aB == x39.al.aB) && ((x29.al.aA == x39.al.aA) && ((x29.al.aw == x39.al.aw) && ((x29.al.aC == x39.al.aC) && true)))) && ((x29.aN == x39.aN) && ((x29.aI == x39.aI) && ((x29.aX == x39.aX) && ((x29.aH == x39.aH) && ((x29.aJ == x39.aJ) && true)))))))<|sA rfl<|sN<|WC.region rfl rfl<|sV (rI (rW (s31 + (1 : Int))))<|sM rfl<|sN ?_
       cases oI h
       exact ⟨rfl, rfl⟩
      refine sN<|qS<|cF<|qX ?_
      cases oI h
      exact ⟨nofun, rfl, rfl⟩
     intro e R' B' he hq
     obtain ⟨rfl, hI⟩ := hq
     refine qE<|WC.region hI rfl<|sF h (fun h => ?_) fun h => ?_
     ·refine sM rfl<|sK<|sK<|sT<|sM rfl<|k3<|sK<|sT<|sA rfl<|sN<|WC.region rfl rfl<|sV (rI (rW (o42.2.2.2.2 + (1 : Int))))<|sM rfl ?_
      refine sN ?_
      cases oI h
      exact ⟨rfl, rfl⟩
     refine sM rfl<|sM rfl<|sV (rB (!o42.2.2.1))<|sF h (fun h => ?_) fun h => ?_
     ·refine sM rfl<|k3<|sK<|sT<|sA rfl<|sN<|WC.region rfl rfl<|sV (rI (rW (o42.2.2.2.2 + (1 : Int))))<|sM rfl<|sN ?_
      cases oI h
      exact ⟨rfl, rfl⟩
     refine sM rfl<|sV (.d (.agg [.lst (x3.1.aq.map ac.pd)]))<|sV (.d (.agg [.lst (x8.1.aq.map ac.pd)]))<|sV (.d (aa.pd x29))<|bE h fun x45 hx45 h => cD (fj hx45)<|sV (rB x45)<|sA rfl<|sN<|WC.region rfl rfl<|sV (rI (rW (o42.2.2.2.2 + (1 : Int))))<|sM rfl<|sN ?_
     cases oI h
     exact ⟨rfl, rfl⟩
    refine sN<|qS<|cF<|qX ?_
    cases oI h
    exact ⟨nofun, rfl, rfl⟩
   intro e R' B' he hq
   obtain ⟨rfl, hI⟩ := hq
   refine qE<|gS rfl hI<|sF h (fun h => ?_) fun h => ?_
   ·refine sM rfl<|sM rfl<|sM rfl<|bE h fun x49 hx49 h => cD (keep_In_ev hx49)<|sV (rB (!x49))<|sF h (fun h => ?_) fun h => ?_
    ·refine sN<|cT<|gS rfl rfl<|sU<|sN<|qR ?_
     cases oI h
     exact ⟨nofun, rfl, rfl⟩
    refine sN<|cF<|qK<|WC.region rfl rfl<|sV (rI (rW (o47.2.2 + (1 : Int))))<|sM rfl<|sN ?_
    cases oI h
    exact ⟨rfl, rfl⟩
   refine sM rfl<|k3<|sK<|sU<|sN<|cF<|qK<|WC.region rfl rfl<|sV (rI (rW (o47.2.2 + (1 : Int))))<|sM rfl<|sN ?_
   cases oI h
   exact ⟨rfl, rfl⟩
  refine sN<|qS<|cF<|qX ?_
  cases oI h
  exact ⟨nofun, rfl, rfl⟩
 intro e R' B' he hq
 rcases o52 with y53 | r54
 ·obtain ⟨rfl, hI⟩ := hq
  refine qE<|gS rfl hI<|bE h fun x55 hx55 h => cD (eI hx55)<|sA rfl<|sN<|qR ?_
  cases oI h
  exact qD
 obtain ⟨rfl, hf⟩ := hq
 cases oI h
 exact hf
end Go.Dw.De
