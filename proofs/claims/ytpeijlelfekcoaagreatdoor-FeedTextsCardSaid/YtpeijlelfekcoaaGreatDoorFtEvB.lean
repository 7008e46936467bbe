
import Derived.Test.YtpeijlelfekcoaaGreatDoorFtEvA

set_option maxRecDepth 100000
set_option maxHeartbeats 4000000
namespace Go.Dw.Ft
open Go.Proofs Go.Proofs.Tryz Go.Dw
theorem Src_Events_ev {a1 : Int} {d0 : aH} {r : (List ar) × aH} (h : jn a1 d0 = some r) : EvP prog aM ext 34 [.ptr 0 0, rI a1] [.var [.d (.lst (d0.fL.map (PD.int .i64))), rI d0.fAt]] (.d (.lst (r.1.map ar.pd)), [.var [.d (.lst (r.2.fL.map (PD.int .i64))), rI r.2.fAt]]) := by
 refine Ev.body rfl Tryz.func34 rfl (by kernel_rfl)<|gS rfl rfl<|sV .nils<|sN<|gS rfl rfl<|sV .nils<|sN<|qS<|gS rfl rfl<|sV (r0)<|sN<|bE h fun o37 ho37 h => WC.block (WC.loop (WL.ofLoop ho37 (fun s R' B' => ghosts prog 1 (A R' B') (aM.at_ 34 1 3) = some (A [(0, .ptr 0 0), (1, rI a1), (5, .ref 1344 0), (6, rI s.1)] [(0, .var [.d (.lst (s.2.1.map (PD.int .i64))), rI s.2.2.1]), (1344, .arr 0 38 (s.2.2.2.map ar.pd))])) (fun o e R' B' => e = .exit 0 ∧ ghosts prog 1 (A R' B') (aM.at_ 34 1 16) = some (A [(5, .ref 1344 0)] [(0, .var [.d (.lst (o.2.1.map (PD.int .i64))), rI o.2.2]), (1344, .arr 0 38 (o.1.map ar.pd))])) rfl ?_ ?_))
 ·rintro ⟨s1, s2, s3, s4⟩ R' B' q8 hI h
  refine qS<|gS rfl hI<|sM rfl<|sM rfl<|sF h (fun h => ?_) fun h => ?_
  ·refine sN<|cT<|qK<|qS<|qB<|qS<|gS rfl rfl<|sM rfl<|bE h fun x10 hx10 h => cR (rI x10.1) [(0, .var [.d (.lst (x10.2.fL.map (PD.int .i64))), rI x10.2.fAt])] (b9 hx10)<|sF h (fun h => ?_) fun h => ?_
   ·refine sN<|cT<|qX<|qE<|WC.region rfl rfl<|sM rfl<|sV (rI (rW (s1 + (1 : Int))))<|sA rfl<|sN ?_
    cases oI h
    exact ⟨rfl, rfl⟩
   refine sN<|cF<|qK<|gS rfl rfl<|sM rfl<|bE h fun x12 hx12 h => cR (.agg [rS x12.1.ak.ah.aC, rS x12.1.ak.ah.aE, rS x12.1.ak.ah.ac, rS x12.1.ak.ah.aD, rI x12.1.ak.aF, rI x12.1.ak.aJ, rI x12.1.ak.aN, rI x12.1.ak.au, rI x12.1.ak.av, .ref 304 0, rI x12.1.aa.ac.aA.fX, rI x12.1.aa.ac.aA.fY, rI x12.1.aa.ac.aA.fZ, rI x12.1.aa.ac.aF, rI x12.1.aa.ac.aO, rI x12.1.aa.ac.aV, rI x12.1.aa.ac.ap.aI.fX, rI x12.1.aa.ac.ap.aI.fY, rI x12.1.aa.ac.ap.aI.fZ, rI x12.1.aa.ac.ap.az.fX, rI x12.1.aa.ac.ap.az.fY, rI x12.1.aa.ac.ap.az.fZ, rI x12.1.aa.aq.aI, rI x12.1.aa.aq.az, rI x12.1.aa.aU]) [(0, .var [.d (.lst (x12.2.fL.map (PD.int .i64))), rI x12.2.fAt]), (304, .arr 0 25 (x12.1.aa.aK.map ag.pd))] (Src_Event_ev hx12)<|sB (.ptr 112 0) 112 (.var zZ1)<|sH 112 (.var [rS x12.1.ak.ah.aC, rS x12.1.ak.ah.aE, rS x12.1.ak.ah.ac, rS x12.1.ak.ah.aD, rI x12.1.ak.aF, rI x12.1.ak.aJ, rI x12.1.ak.aN, rI x12.1.ak.au, rI x12.1.ak.av, .ref 304 0, rI x12.1.aa.ac.aA.fX, rI x12.1.aa.ac.aA.fY, rI x12.1.aa.ac.aA.fZ, rI x12.1.aa.ac.aF, rI x12.1.aa.ac.aO, rI x12.1.aa.ac.aV, rI x12.1.aa.ac.ap.aI.fX, rI x12.1.aa.ac.ap.aI.fY, rI x12.1.aa.ac.ap.aI.fZ, rI x12.1.aa.ac.ap.az.fX, rI x12.1.aa.ac.ap.az.fY, rI x12.1.aa.ac.ap.az.fZ, rI x12.1.aa.aq.aI, rI x12.1.aa.aq.az, rI x12.1.aa.aU])<|sN<|qS<|gS rfl rfl<|sV (.ptr 112 9)<|sV (.ptr 112 9)<|sL rfl ?_
   refine WO.lenR rfl rfl rfl rfl rfl rfl rfl rfl rfl<|sV (r0)<|sN<|bE h fun o31 ho31 h => WC.block (WC.loop (WL.ofLoop ho31 (fun s R' B' => ghosts prog 1 (A R' B') (aM.at_ 34 1 8) = some (A [(0, .ptr 0 0), (1, rI a1), (5, .ref 1344 0), (6, rI s1), (7, .ptr 112 0), (23, rI (x12.1.aa.aK.length : Int)), (24, rI s.1)] [(0, .var [.d (.lst (x12.2.fL.map (PD.int .i64))), rI x12.2.fAt]), (112, .var [rS x12.1.ak.ah.aC, rS x12.1.ak.ah.aE, rS x12.1.ak.ah.ac, rS x12.1.ak.ah.aD, rI x12.1.ak.aF, rI x12.1.ak.aJ, rI x12.1.ak.aN, rI x12.1.ak.au, rI x12.1.ak.av, .ref 304 0, rI x12.1.aa.ac.aA.fX, rI x12.1.aa.ac.aA.fY, rI x12.1.aa.ac.aA.fZ, rI x12.1.aa.ac.aF, rI x12.1.aa.ac.aO, rI x12.1.aa.ac.aV, rI x12.1.aa.ac.ap.aI.fX, rI x12.1.aa.ac.ap.aI.fY, rI x12.1.aa.ac.ap.aI.fZ, rI x12.1.aa.ac.ap.az.fX, rI x12.1.aa.ac.ap.az.fY, rI x12.1.aa.ac.ap.az.fZ, rI x12.1.aa.aq.aI, rI x12.1.aa.aq.az, rI x12.1.aa.aU]), (304, .arr 0 25 (s.2.map ag.pd)), (1344, .arr 0 38 (s4.map ar.pd))])) (fun o e R' B' => e = .exit 2 ∧ ghosts prog 1 (A R' B') (aM.at_ 34 1 13) = some (A [(0, .ptr 0 0), (1, rI a1), (5, .ref 1344 0), (6, rI o.1), (7, .ptr 112 0)] [(0, .var [.d (.lst (x12.2.fL.map (PD.int .i64))), rI x12.2.fAt]), (112, .var [rS x12.1.ak.ah.aC, rS x12.1.ak.ah.aE, rS x12.1.ak.ah.ac, rS x12.1.ak.ah.aD, rI x12.1.ak.aF, rI x12.1.ak.aJ, rI x12.1.ak.aN, rI x12.1.ak.au, rI x12.1.ak.av, .d (.lst (o.2.2.map ag.pd)), rI x12.1.aa.ac.aA.fX, rI x12.1.aa.ac.aA.fY, rI x12.1.aa.ac.aA.fZ, rI x12.1.aa.ac.aF, rI x12.1.aa.ac.aO, rI x12.1.aa.ac.aV, rI x12.1.aa.ac.ap.aI.fX, rI x12.1.aa.ac.ap.aI.fY, rI x12.1.aa.ac.ap.aI.fZ, rI x12.1.aa.ac.ap.az.fX, rI x12.1.aa.ac.ap.az.fY, rI x12.1.aa.ac.ap.az.fZ, rI x12.1.aa.aq.aI, rI x12.1.aa.aq.az, rI x12.1.aa.aU]), (1344, .arr 0 38 (o.2.1.map ar.pd))])) rfl ?_ ?_))
   ·rintro ⟨s13, s14⟩ R' B' q18 hI h
    refine gS rfl hI<|sF h (fun h => ?_) fun h => ?_
    ·refine sN<|qS<|cT<|qK<|qS<|qB<|gS rfl rfl<|sM rfl<|sA rfl<|sN<|gS rfl rfl<|sV (.ptr 112 9)<|sV (.ptr 112 9)<|sL rfl<|sM rfl ?_
     refine bE h fun x21 hx21 h => WO.eltG hx21 rfl rfl rfl rfl rfl rfl rfl rfl<|sA rfl<|sN<|WC.region rfl rfl<|sM rfl<|sM rfl<|sM rfl<|sM rfl<|sM rfl<|sV (rI (rW ((400 : Int) * s1)))<|sV (rI (rW ((1000 : Int) + (rW ((400 : Int) * s1)))))<|sM rfl<|sV (rI (rW ((rW ((1000 : Int) + (rW ((400 : Int) * s1)))) + s13)))<|sM rfl ?_
     refine sV (rI (rW ((400 : Int) * s1)))<|sV (rI (rW ((1000 : Int) + (rW ((400 : Int) * s1)))))<|sM rfl<|sV (rI (rW ((rW ((1000 : Int) + (rW ((400 : Int) * s1)))) + s13)))<|sM rfl<|sV (rI (rW ((400 : Int) * s1)))<|sV (rI (rW ((1000 : Int) + (rW ((400 : Int) * s1)))))<|sM rfl<|sV (rI (rW ((rW ((1000 : Int) + (rW ((400 : Int) * s1)))) + s13)))<|sV (rI (rW ((rW ((rW ((1000 : Int) + (rW ((400 : Int) * s1)))) + s13)) + (2 : Int))))<|sV (.elt 304 0 (s13).toNat 0)<|sV (.elt 304 0 (s13).toNat 4)<|bE h fun x22 hx22 h => WO.storeF (g := ag.pd) (u := []) (sz := 1) hx22 (fun _ => rfl) (fun _ => Nat.le_of_ble_eq_true rfl) rfl rfl rfl rfl rfl rfl rfl rfl rfl rfl rfl<|sV (.elt 304 0 (s13).toNat 0) ?_
     refine sV (.elt 304 0 (s13).toNat 5)<|bE h fun x24 hx24 h => WO.storeF (g := ag.pd) (u := []) (sz := 1) hx24 (fun _ => rfl) (fun _ => Nat.le_of_ble_eq_true rfl) rfl rfl rfl rfl rfl rfl rfl rfl rfl rfl rfl<|sV (.elt 304 0 (s13).toNat 0)<|sV (.elt 304 0 (s13).toNat 6)<|bE h fun x26 hx26 h => WO.storeF (g := ag.pd) (u := []) (sz := 1) hx26 (fun _ => rfl) (fun _ => Nat.le_of_ble_eq_true rfl) rfl rfl rfl rfl rfl rfl rfl rfl rfl rfl rfl<|sV (.elt 304 0 (s13).toNat 0)<|sV (.elt 304 0 (s13).toNat 7)<|bE h fun x28 hx28 h => WO.storeF (g := ag.pd) (u := []) (sz := 1) hx28 (fun _ => rfl) (fun _ => Nat.le_of_ble_eq_true rfl) rfl rfl rfl rfl rfl rfl rfl rfl rfl rfl rfl<|sN<|WC.region rfl rfl<|sV (rI (rW (s13 + (1 : Int))))<|sM rfl ?_
     refine sN ?_
     cases oI h
     exact ⟨rfl, rfl⟩
    refine sN<|qS<|cF<|qX ?_
    cases oI h
    exact ⟨nofun, rfl, rfl⟩
   intro e R' B' he hq
   obtain ⟨rfl, hI⟩ := hq
   refine qE<|WC.regionDSeq hI rfl<|sV (.ptr 112 9)<|sV (.ptr 112 9)<|sL rfl<|sM rfl<|bE h fun x32 hx32 h => cR (rI x32.1) [(0, .var [.d (.lst (x32.2.fL.map (PD.int .i64))), rI x32.2.fAt])] (b9 hx32)<|sV (.ptr 112 9)<|sV (.ptr 112 9)<|sL rfl<|sE (rI (o31.2.2.length : Int)) (lenMap _ _)<|sV (rI (rW ((o31.2.2.length : Int) - (1 : Int))))<|sV (rI (if (rW ((o31.2.2.length : Int) - (1 : Int))) < x32.1 then (rW ((o31.2.2.length : Int) - (1 : Int))) else x32.1))<|bE h fun x33 hx33 h => ?_
   refine WO.cutL (sz := 9) (g := ag.pd) hx33 (fun _ => rfl) rfl rfl rfl rfl rfl rfl rfl rfl rfl rfl rfl<|sV (.ptr 112 9)<|sV (.ptr 112 9)<|sS 112 (.var [rS x12.1.ak.ah.aC, rS x12.1.ak.ah.aE, rS x12.1.ak.ah.ac, rS x12.1.ak.ah.aD, rI x12.1.ak.aF, rI x12.1.ak.aJ, rI x12.1.ak.aN, rI x12.1.ak.au, rI x12.1.ak.av, .d (.lst (x33.map ag.pd)), rI x12.1.aa.ac.aA.fX, rI x12.1.aa.ac.aA.fY, rI x12.1.aa.ac.aA.fZ, rI x12.1.aa.ac.aF, rI x12.1.aa.ac.aO, rI x12.1.aa.ac.aV, rI x12.1.aa.ac.ap.aI.fX, rI x12.1.aa.ac.ap.aI.fY, rI x12.1.aa.ac.ap.aI.fZ, rI x12.1.aa.ac.ap.az.fX, rI x12.1.aa.ac.ap.az.fY, rI x12.1.aa.ac.ap.az.fZ, rI x12.1.aa.aq.aI, rI x12.1.aa.aq.az, rI x12.1.aa.aU]) ?_
   refine sN<|sO<|gS rfl rfl<|sV (.ptr 112 9)<|sV (.ptr 112 9)<|sL rfl<|bE h fun x34 hx34 h => eG hx34 rfl<|sV (.d (ag.pd x34))<|sV (.ptr 112 0)<|sH 112 (.var [rS x34.ah.aC, rS x34.ah.aE, rS x34.ah.ac, rS x34.ah.aD, rI x34.aF, rI x34.aJ, rI x34.aN, rI x34.au, rI x34.av, .d (.lst (x33.map ag.pd)), rI x12.1.aa.ac.aA.fX, rI x12.1.aa.ac.aA.fY, rI x12.1.aa.ac.aA.fZ, rI x12.1.aa.ac.aF, rI x12.1.aa.ac.aO, rI x12.1.aa.ac.aV, rI x12.1.aa.ac.ap.aI.fX, rI x12.1.aa.ac.ap.aI.fY, rI x12.1.aa.ac.ap.aI.fZ, rI x12.1.aa.ac.ap.az.fX, rI x12.1.aa.ac.ap.az.fY, rI x12.1.aa.ac.ap.az.fZ, rI x12.1.aa.aq.aI, rI x12.1.aa.aq.az, rI x12.1.aa.aU])<|sN<|WC.region rfl rfl<|sM rfl<|sV (.d (ar.pd (ar.mk x34 (aw.mk x33 x12.1.aa.ac x12.1.aa.aq x12.1.aa.aU))))<|sG (.d (.lst ([(ar.mk x34 (aw.mk x33 x12.1.aa.ac x12.1.aa.aq x12.1.aa.aU))].map ar.pd))) ?_
   refine bE h fun x35 hx35 h => aR hx35 (fun _ => rfl) rfl<|sA rfl<|sN<|WC.region rfl rfl<|sM rfl<|sV (rI (rW (o31.1 + (1 : Int))))<|sA rfl<|sN ?_
   cases oI h
   exact ⟨rfl, rfl⟩
  refine sN<|cF<|qX ?_
  cases oI h
  exact ⟨nofun, rfl, rfl⟩
 intro e R' B' he hq
 obtain ⟨rfl, hI⟩ := hq
 refine qE<|gS rfl hI<|sM rfl<|sA rfl<|sN<|qR ?_
 cases oI h
 exact qD
theorem fe {a0 : Int} {r : Bool} (h : eh a0 = some r) : EvP prog aM ext 130 [rI a0] [] (rB r, []) := by
 refine Ev.body rfl Tryz.func130 rfl (by kernel_rfl)<|gS rfl rfl<|sU<|sN<|gS rfl rfl<|sM rfl<|sF h (fun h => ?_) fun h => ?_
 ·refine sM rfl<|sM rfl<|sV (rB (decide (a0 ≤ (9007199254740992 : Int))))<|sV (rB (decide (a0 ≤ (9007199254740992 : Int))))<|sA rfl<|sN<|qR ?_
  cases oI h
  exact qD
 refine sM rfl<|sK<|sK<|sU<|sA rfl<|sN<|qR ?_
 cases oI h
 exact qD
theorem fU {a0 : aX} {r : Int} (h : dZ a0 = some r) : EvP prog aM ext 95 [.d (aX.pd a0)] [] (rI r, []) := by
 refine Ev.body rfl Tryz.func95 rfl (by kernel_rfl)<|gS rfl rfl<|sB (.ptr 16 0) 16 (.var [.d (.lst (a0.bN.map bj.pd)), rI a0.bO, rI a0.dP])<|sV (r0)<|sN<|qS<|gS rfl rfl<|sV (.ptr 16 0)<|sL rfl<|sE (rI (a0.bN.length : Int)) (lenMap _ _)<|sF h (fun h => ?_) fun h => ?_
 ·refine sM rfl<|k3<|sK<|sT<|sM rfl<|k3<|sK<|sT<|sM rfl<|sK<|sK ?_
  refine sK<|sK<|sT<|sN<|cT<|gS rfl rfl<|sV (rI 27)<|sN<|qR ?_
  cases oI h
  exact qD
 refine sM rfl<|sV (.ptr 16 0)<|sL rfl<|sE (rI (a0.bN.length : Int)) (lenMap _ _)<|sV (rB (decide ((a0.bN.length : Int) > (8 : Int))))<|sF h (fun h => ?_) fun h => ?_
 ·refine sM rfl<|k3<|sK<|sT<|sM rfl<|k3<|sK<|sT<|sN<|cT<|gS rfl rfl ?_
  refine sV (rI 27)<|sN<|qR ?_
  cases oI h
  exact qD
 refine sM rfl<|sV (.ptr 16 1)<|sL rfl<|bE h fun x3 hx3 h => cD (fe hx3)<|sV (rB (!x3))<|sF h (fun h => ?_) fun h => ?_
 ·refine sM rfl<|k3<|sK<|sT<|sN<|cT<|gS rfl rfl<|sV (rI 27)<|sN<|qR ?_
  cases oI h
  exact qD
 refine sM rfl<|sV (.ptr 16 2)<|sL rfl<|bE h fun x5 hx5 h => cD (fe hx5)<|sV (rB (!x5))<|sF h (fun h => ?_) fun h => ?_
 ·refine sN<|cT<|gS rfl rfl<|sV (rI 27)<|sN<|qR ?_
  cases oI h
  exact qD
 refine sN<|cF<|qK<|qS<|gS rfl rfl<|sV (r0)<|sN<|bE h fun o20 ho20 h => WC.block (WC.loop (WL.ofLoop ho20 (fun s R' B' => ghosts prog 0 (A R' B') (aM.at_ 95 0 4) = some (A [(1, .ptr 16 0), (3, rI s)] [(16, .var [.d (.lst (a0.bN.map bj.pd)), rI a0.bO, rI a0.dP])])) (fun o e R' B' => match o with | .inl y => e = .exit 0 ∧ ghosts prog 0 (A R' B') (aM.at_ 95 0 9) = some (A [] []) | .inr r => e = .ret ∧ finish prog (aM.own 95) Tryz.f95 0 (A R' B') = some (rI r, [])) rfl ?_ ?_))
 ·rintro s7 R' B' q8 hI h
  refine qS<|gS rfl hI<|sM rfl<|sV (.ptr 16 0)<|sL rfl<|sE (rI (a0.bN.length : Int)) (lenMap _ _)<|sF h (fun h => ?_) fun h => ?_
  ·refine sN<|cT<|qK<|qS<|qB<|gS rfl rfl<|sV (.ptr 16 0)<|sL rfl<|sM rfl<|bE h fun x10 hx10 h => eG hx10 rfl<|sV (.d (bj.pd x10))<|sB (.ptr 64 0) 64 (.var [r0, r0, r0, r0])<|sS 64 (.var [rI x10.aq, rI x10.aK, rI x10.aO, rI x10.iC])<|sN ?_
   refine gS rfl rfl<|sV (.ptr 64 0)<|sL rfl<|sF h (fun h => ?_) fun h => ?_
   ·refine sM rfl<|k3<|sT<|sM rfl<|k3<|sT<|sM rfl<|k3<|sT ?_
    refine sM rfl<|k3<|sK<|sT<|sM rfl<|k3<|sK<|sT<|sN<|cT<|gS rfl rfl ?_
    refine sV (rI 27)<|sN<|qR ?_
    cases oI h
    exact ⟨nofun, rfl, rfl⟩
   refine sM rfl<|sV (.ptr 64 0)<|sL rfl<|sV (rB (decide (x10.aq > (2000 : Int))))<|sF h (fun h => ?_) fun h => ?_
   ·refine sM rfl<|k3<|sT<|sM rfl<|k3<|sT<|sM rfl<|k3<|sK ?_
    refine sT<|sM rfl<|k3<|sK<|sT<|sN<|cT<|gS rfl rfl<|sV (rI 27)<|sN<|qR ?_
    cases oI h
    exact ⟨nofun, rfl, rfl⟩
   refine sM rfl<|sV (.ptr 64 1)<|sL rfl<|sV (rB (decide (x10.aK < (1 : Int))))<|sF h (fun h => ?_) fun h => ?_
   ·refine sM rfl<|k3<|sT<|sM rfl<|k3<|sK<|sT<|sM rfl<|sK<|sK<|sK ?_
    refine sK<|sT<|sN<|cT<|gS rfl rfl<|sV (rI 27)<|sN<|qR ?_
    cases oI h
    exact ⟨nofun, rfl, rfl⟩
   refine sM rfl<|sV (.ptr 64 1)<|sL rfl<|sV (rB (decide (x10.aK > (64 : Int))))<|sF h (fun h => ?_) fun h => ?_
   ·refine sM rfl<|k3<|sK<|sT<|sM rfl<|k3<|sK<|sT<|sN<|cT<|gS rfl rfl ?_
    refine sV (rI 27)<|sN<|qR ?_
    cases oI h
    exact ⟨nofun, rfl, rfl⟩
   refine sM rfl<|sV (.ptr 64 2)<|sL rfl<|bE h fun x15 hx15 h => cD (fe hx15)<|sV (rB (!x15))<|sF h (fun h => ?_) fun h => ?_
   ·refine sM rfl<|k3<|sK<|sT<|sN<|cT<|gS rfl rfl<|sV (rI 27)<|sN<|qR ?_
    cases oI h
    exact ⟨nofun, rfl, rfl⟩
   refine sM rfl<|sV (.ptr 64 3)<|sL rfl<|bE h fun x17 hx17 h => cD (fe hx17)<|sV (rB (!x17))<|sF h (fun h => ?_) fun h => ?_
   ·refine sN<|cT<|gS rfl rfl<|sV (rI 27)<|sN<|qR ?_
    cases oI h
    exact ⟨nofun, rfl, rfl⟩
   refine sN<|cF<|qK<|WC.region rfl rfl<|sM rfl<|sV (rI (rW (s7 + (1 : Int))))<|sA rfl<|sN ?_
   cases oI h
   exact ⟨rfl, rfl⟩
  refine sN<|cF<|qX ?_
  cases oI h
  exact ⟨nofun, rfl, rfl⟩
 intro e R' B' he hq
 rcases o20 with y21 | r22
 ·obtain ⟨rfl, hI⟩ := hq
  refine qE<|gS rfl hI<|sV (r0)<|sN<|qR ?_
  cases oI h
  exact qD
 obtain ⟨rfl, hf⟩ := hq
 cases oI h
 exact hf
theorem ref36_Valid_ev {a0 : (List aL)} {r : Bool} (h : iM a0 = some r) : EvP prog aM ext 96 [.d (.lst (a0.map aL.pd))] [] (rB r, []) := by
 refine Ev.body rfl Tryz.func96 rfl (by kernel_rfl)<|gS rfl rfl<|sU<|sN<|qS<|gS rfl rfl<|sV (r0)<|sN<|bE h fun o37 ho37 h => WC.block (WC.loop (WL.ofLoop ho37 (fun s R' B' => ghosts prog 0 (A R' B') (aM.at_ 96 0 2) = some (A [(0, .d (.lst (a0.map aL.pd))), (3, rI s)] [])) (fun o e R' B' => match o with | .inl y => e = .exit 0 ∧ ghosts prog 0 (A R' B') (aM.at_ 96 0 11) = some (A [(0, .d (.lst (a0.map aL.pd)))] []) | .inr r => e = .ret ∧ finish prog (aM.own 96) Tryz.f96 0 (A R' B') = some (rB r, [])) rfl ?_ ?_))
 ·rintro s1 R' B' q2 hI h
  refine qS<|gS rfl hI<|sM rfl<|sM rfl<|sE (rI (a0.length : Int)) (lenMap _ _)<|sF h (fun h => ?_) fun h => ?_
  ·refine sN<|cT<|qK<|qS<|qB<|WC.join (α := Unit) (fun x R' B' => ghosts prog 0 (A R' B') (aM.at_ 96 0 6) = some (A [(0, .d (.lst (a0.map aL.pd))), (3, rI s1)] [])) (fun x => ep s1 a0 = some q2) ?_ ?_
   ·refine WC.regionDSeq rfl rfl<|sM rfl<|sM rfl<|bE h fun x20 hx20 h => eG hx20 rfl<|sV (.cptr [.int .i64 x20.fID, .bool x20.br, .str x20.ak.ah.aC, .str x20.ak.ah.aE, .str x20.ak.ah.ac, .str x20.ak.ah.aD, .int .i64 x20.ak.aF, .int .i64 x20.ak.aJ, .int .i64 x20.ak.aN, .int .i64 x20.ak.au, .int .i64 x20.ak.av, .int .i64 x20.aW, .str x20.ae.ak.ah.aC, .str x20.ae.ak.ah.aE, .str x20.ae.ak.ah.ac, .str x20.ae.ak.ah.aD, .int .i64 x20.ae.ak.aF, .int .i64 x20.ae.ak.aJ, .int .i64 x20.ae.ak.aN, .int .i64 x20.ae.ak.au, .int .i64 x20.ae.ak.av, .lst (x20.ae.aa.aK.map ag.pd), .int .i64 x20.ae.aa.ac.aA.fX, .int .i64 x20.ae.aa.ac.aA.fY, .int .i64 x20.ae.aa.ac.aA.fZ, .int .i64 x20.ae.aa.ac.aF, .int .i64 x20.ae.aa.ac.aO, .int .i64 x20.ae.aa.ac.aV, .int .i64 x20.ae.aa.ac.ap.aI.fX, .int .i64 x20.ae.aa.ac.ap.aI.fY, .int .i64 x20.ae.aa.ac.ap.aI.fZ, .int .i64 x20.ae.aa.ac.ap.az.fX, .int .i64 x20.ae.aa.ac.ap.az.fY, .int .i64 x20.ae.aa.ac.ap.az.fZ, .int .i64 x20.ae.aa.aq.aI, .int .i64 x20.ae.aa.aq.az, .int .i64 x20.ae.aa.aU, .int .i64 x20.fAt])<|sC rfl<|sF h (fun h => ?_) fun h => ?_
    ·refine sM rfl<|k3<|k3<|sT<|sM rfl<|k3<|sK<|sK<|sK ?_
     refine k3<|k3<|k3<|sK<|sT<|sM rfl<|sK<|sK<|sK ?_
     refine k3<|sT<|sM rfl<|k3<|k3<|sT ?_
     refine sN<|sO<|cT<|gS rfl rfl<|sU<|sN<|qR ?_
     cases oI h
     exact ⟨nofun, rfl, rfl⟩
    refine sM rfl<|sM rfl<|sM rfl<|bE h fun x22 hx22 h => eG hx22 rfl<|sV (.cptr [.int .i64 x22.fID, .bool x22.br, .str x22.ak.ah.aC, .str x22.ak.ah.aE, .str x22.ak.ah.ac, .str x22.ak.ah.aD, .int .i64 x22.ak.aF, .int .i64 x22.ak.aJ, .int .i64 x22.ak.aN, .int .i64 x22.ak.au, .int .i64 x22.ak.av, .int .i64 x22.aW, .str x22.ae.ak.ah.aC, .str x22.ae.ak.ah.aE, .str x22.ae.ak.ah.ac, .str x22.ae.ak.ah.aD, .int .i64 x22.ae.ak.aF, .int .i64 x22.ae.ak.aJ, .int .i64 x22.ae.ak.aN, .int .i64 x22.ae.ak.au, .int .i64 x22.ae.ak.av, .lst (x22.ae.aa.aK.map ag.pd), .int .i64 x22.ae.aa.ac.aA.fX, .int .i64 x22.ae.aa.ac.aA.fY, .int .i64 x22.ae.aa.ac.aA.fZ, .int .i64 x22.ae.aa.ac.aF, .int .i64 x22.ae.aa.ac.aO, .int .i64 x22.ae.aa.ac.aV, .int .i64 x22.ae.aa.ac.ap.aI.fX, .int .i64 x22.ae.aa.ac.ap.aI.fY, .int .i64 x22.ae.aa.ac.ap.aI.fZ, .int .i64 x22.ae.aa.ac.ap.az.fX, .int .i64 x22.ae.aa.ac.ap.az.fY, .int .i64 x22.ae.aa.ac.ap.az.fZ, .int .i64 x22.ae.aa.aq.aI, .int .i64 x22.ae.aa.aq.az, .int .i64 x22.ae.aa.aU, .int .i64 x22.fAt])<|sC rfl<|sV (rB (decide (x22.fID ≥ (1000 : Int))))<|sF h (fun h => ?_) fun h => ?_
    ·refine sM rfl<|k3<|k3<|k3<|k3<|sK<|sK ?_
     refine sK<|sK<|sT<|sM rfl<|k3<|k3<|sT<|sM rfl<|sK<|sK<|sK ?_
     refine k3<|sT ?_
     refine sN<|sO<|cT<|gS rfl rfl<|sU<|sN<|qR ?_
     cases oI h
     exact ⟨nofun, rfl, rfl⟩
    refine sM rfl<|sM rfl<|sF h (fun h => ?_) fun h => ?_
    ·refine sM rfl<|sM rfl<|sM rfl<|bE h fun x25 hx25 h => eG hx25 rfl<|sV (.cptr [.int .i64 x25.fID, .bool x25.br, .str x25.ak.ah.aC, .str x25.ak.ah.aE, .str x25.ak.ah.ac, .str x25.ak.ah.aD, .int .i64 x25.ak.aF, .int .i64 x25.ak.aJ, .int .i64 x25.ak.aN, .int .i64 x25.ak.au, .int .i64 x25.ak.av, .int .i64 x25.aW, .str x25.ae.ak.ah.aC, .str x25.ae.ak.ah.aE, .str x25.ae.ak.ah.ac, .str x25.ae.ak.ah.aD, .int .i64 x25.ae.ak.aF, .int .i64 x25.ae.ak.aJ, .int .i64 x25.ae.ak.aN, .int .i64 x25.ae.ak.au, .int .i64 x25.ae.ak.av, .lst (x25.ae.aa.aK.map ag.pd), .int .i64 x25.ae.aa.ac.aA.fX, .int .i64 x25.ae.aa.ac.aA.fY, .int .i64 x25.ae.aa.ac.aA.fZ, .int .i64 x25.ae.aa.ac.aF, .int .i64 x25.ae.aa.ac.aO, .int .i64 x25.ae.aa.ac.aV, .int .i64 x25.ae.aa.ac.ap.aI.fX, .int .i64 x25.ae.aa.ac.ap.aI.fY, .int .i64 x25.ae.aa.ac.ap.aI.fZ, .int .i64 x25.ae.aa.ac.ap.az.fX, .int .i64 x25.ae.aa.ac.ap.az.fY, .int .i64 x25.ae.aa.ac.ap.az.fZ, .int .i64 x25.ae.aa.aq.aI, .int .i64 x25.ae.aa.aq.az, .int .i64 x25.ae.aa.aU, .int .i64 x25.fAt])<|sC rfl<|sM rfl<|sM rfl<|sV (rI (rW (s1 - (1 : Int))))<|bE h fun x26 hx26 h => eG hx26 rfl<|sV (.cptr [.int .i64 x26.fID, .bool x26.br, .str x26.ak.ah.aC, .str x26.ak.ah.aE, .str x26.ak.ah.ac, .str x26.ak.ah.aD, .int .i64 x26.ak.aF, .int .i64 x26.ak.aJ, .int .i64 x26.ak.aN, .int .i64 x26.ak.au, .int .i64 x26.ak.av, .int .i64 x26.aW, .str x26.ae.ak.ah.aC, .str x26.ae.ak.ah.aE, .str x26.ae.ak.ah.ac, .str x26.ae.ak.ah.aD, .int .i64 x26.ae.ak.aF, .int .i64 x26.ae.ak.aJ, .int .i64 x26.ae.ak.aN, .int .i64 x26.ae.ak.au, .int .i64 x26.ae.ak.av, .lst (x26.ae.aa.aK.map ag.pd), .int .i64 x26.ae.aa.ac.aA.fX, .int .i64 x26.ae.aa.ac.aA.fY, .int .i64 x26.ae.aa.ac.aA.fZ, .int .i64 x26.ae.aa.ac.aF, .int .i64 x26.ae.aa.ac.aO, .int .i64 x26.ae.aa.ac.aV, .int .i64 x26.ae.aa.ac.ap.aI.fX, .int .i64 x26.ae.aa.ac.ap.aI.fY, .int .i64 x26.ae.aa.ac.ap.aI.fZ, .int .i64 x26.ae.aa.ac.ap.az.fX, .int .i64 x26.ae.aa.ac.ap.az.fY, .int .i64 x26.ae.aa.ac.ap.az.fZ, .int .i64 x26.ae.aa.aq.aI, .int .i64 x26.ae.aa.aq.az, .int .i64 x26.ae.aa.aU, .int .i64 x26.fAt])<|sC rfl<|sV (rB (decide (x25.fID ≤ x26.fID))) ?_
     refine sV (rB (decide (x25.fID ≤ x26.fID)))<|sF h (fun h => ?_) fun h => ?_
     ·refine sM rfl<|k3<|k3<|sT<|sM rfl<|k3<|sK<|sK<|sK ?_
      refine sT ?_
      refine sN<|sO<|cT<|gS rfl rfl<|sU<|sN<|qR ?_
      cases oI h
      exact ⟨nofun, rfl, rfl⟩
     refine sM rfl<|sM rfl<|sM rfl<|bE h fun x28 hx28 h => eG hx28 rfl<|sV (.cptr [.int .i64 x28.fAt])<|sC rfl<|sV (rB (decide (x28.fAt < (0 : Int))))<|sF h (fun h => ?_) fun h => ?_
     ·refine sM rfl<|k3<|k3<|sT ?_
      refine sN<|sO<|cT<|gS rfl rfl<|sU<|sN<|qR ?_
      cases oI h
      exact ⟨nofun, rfl, rfl⟩
     refine sM rfl<|sM rfl<|sM rfl<|bE h fun x30 hx30 h => eG hx30 rfl<|sV (.cptr [.int .i64 x30.fAt])<|sC rfl<|sV (rB (decide (x30.fAt > (18014398509481984 : Int))))<|sF h (fun h => ?_) fun h => ?_
     ·refine sN<|sO<|cT<|gS rfl rfl<|sU<|sN<|qR ?_
      cases oI h
      exact ⟨nofun, rfl, rfl⟩
     exact sN<|sO<|cF<|qK<|⟨(), rfl, h⟩
    refine sM rfl<|k3<|k3<|k3<|k3<|sU<|sU ?_
    refine sM rfl<|sM rfl<|sM rfl<|bE h fun x32 hx32 h => eG hx32 rfl<|sV (.cptr [.int .i64 x32.fAt])<|sC rfl<|sV (rB (decide (x32.fAt < (0 : Int))))<|sF h (fun h => ?_) fun h => ?_
    ·refine sM rfl<|k3<|k3<|sT ?_
     refine sN<|sO<|cT<|gS rfl rfl<|sU<|sN<|qR ?_
     cases oI h
     exact ⟨nofun, rfl, rfl⟩
    refine sM rfl<|sM rfl<|sM rfl<|bE h fun x34 hx34 h => eG hx34 rfl<|sV (.cptr [.int .i64 x34.fAt])<|sC rfl<|sV (rB (decide (x34.fAt > (18014398509481984 : Int))))<|sF h (fun h => ?_) fun h => ?_
    ·refine sN<|sO<|cT<|gS rfl rfl<|sU<|sN<|qR ?_
     cases oI h
     exact ⟨nofun, rfl, rfl⟩
    exact sN<|sO<|cF<|qK<|⟨(), rfl, h⟩
   rintro ⟨⟩ R' B' hI h
   refine gS rfl hI<|sV (r0)<|sN<|bE h fun o16 ho16 h => WC.block (WC.loop (WL.ofLoop ho16 (fun s R' B' => ghosts prog 0 (A R' B') (aM.at_ 96 0 7) = some (A [(0, .d (.lst (a0.map aL.pd))), (3, rI s1), (4, rI s)] [])) (fun o e R' B' => match o with | .inl y => e = .exit 2 ∧ ghosts prog 0 (A R' B') (aM.at_ 96 0 3) = some (A [(0, .d (.lst (a0.map aL.pd))), (3, rI y)] []) | .inr r => e = .ret ∧ finish prog (aM.own 96) Tryz.f96 0 (A R' B') = some (rB r, [])) rfl ?_ ?_))
   ·rintro s4 R' B' q6 hI h
    refine qS<|gS rfl hI<|sM rfl<|sM rfl<|sF h (fun h => ?_) fun h => ?_
    ·refine sN<|cT<|qK<|qS<|qB<|WC.regionDSeq rfl rfl<|sM rfl<|sM rfl<|bE h fun x8 hx8 h => eG hx8 rfl<|sV (.cptr [.bool x8.br, .str x8.ak.ah.aC, .str x8.ak.ah.aE, .str x8.ak.ah.ac, .str x8.ak.ah.aD, .int .i64 x8.ak.aF, .int .i64 x8.ak.aJ, .int .i64 x8.ak.aN, .int .i64 x8.ak.au, .int .i64 x8.ak.av, .int .i64 x8.aW, .str x8.ae.ak.ah.aC, .str x8.ae.ak.ah.aE, .str x8.ae.ak.ah.ac, .str x8.ae.ak.ah.aD, .int .i64 x8.ae.ak.aF, .int .i64 x8.ae.ak.aJ, .int .i64 x8.ae.ak.aN, .int .i64 x8.ae.ak.au, .int .i64 x8.ae.ak.av, .lst (x8.ae.aa.aK.map ag.pd), .int .i64 x8.ae.aa.ac.aA.fX, .int .i64 x8.ae.aa.ac.aA.fY, .int .i64 x8.ae.aa.ac.aA.fZ, .int .i64 x8.ae.aa.ac.aF, .int .i64 x8.ae.aa.ac.aO, .int .i64 x8.ae.aa.ac.aV, .int .i64 x8.ae.aa.ac.ap.aI.fX, .int .i64 x8.ae.aa.ac.ap.aI.fY, .int .i64 x8.ae.aa.ac.ap.aI.fZ, .int .i64 x8.ae.aa.ac.ap.az.fX, .int .i64 x8.ae.aa.ac.ap.az.fY, .int .i64 x8.ae.aa.ac.ap.az.fZ, .int .i64 x8.ae.aa.aq.aI, .int .i64 x8.ae.aa.aq.az, .int .i64 x8.ae.aa.aU, .int .i64 x8.fAt])<|sC rfl<|sF h (fun h => ?_) fun h => ?_
     ·refine sM rfl<|sM rfl<|sM rfl<|bE h fun x10 hx10 h => eG hx10 rfl<|sV (.cptr [.bool x10.br, .str x10.ak.ah.aC, .str x10.ak.ah.aE, .str x10.ak.ah.ac, .str x10.ak.ah.aD, .int .i64 x10.ak.aF, .int .i64 x10.ak.aJ, .int .i64 x10.ak.aN, .int .i64 x10.ak.au, .int .i64 x10.ak.av, .int .i64 x10.aW, .str x10.ae.ak.ah.aC, .str x10.ae.ak.ah.aE, .str x10.ae.ak.ah.ac, .str x10.ae.ak.ah.aD, .int .i64 x10.ae.ak.aF, .int .i64 x10.ae.ak.aJ, .int .i64 x10.ae.ak.aN, .int .i64 x10.ae.ak.au, .int .i64 x10.ae.ak.av, .lst (x10.ae.aa.aK.map ag.pd), .int .i64 x10.ae.aa.ac.aA.fX, .int .i64 x10.ae.aa.ac.aA.fY, .int .i64 x10.ae.aa.ac.aA.fZ, .int .i64 x10.ae.aa.ac.aF, .int .i64 x10.ae.aa.ac.aO, .int .i64 x10.ae.aa.ac.aV, .int .i64 x10.ae.aa.ac.ap.aI.fX, .int .i64 x10.ae.aa.ac.ap.aI.fY, .int .i64 x10.ae.aa.ac.ap.aI.fZ, .int .i64 x10.ae.aa.ac.ap.az.fX, .int .i64 x10.ae.aa.ac.ap.az.fY, .int .i64 x10.ae.aa.ac.ap.az.fZ, .int .i64 x10.ae.aa.aq.aI, .int .i64 x10.ae.aa.aq.az, .int .i64 x10.ae.aa.aU, .int .i64 x10.fAt])<|sC rfl<|sV (rB (!x10.br))<|sF h (fun h => ?_) fun h => ?_
      ·refine sM rfl<|sM rfl<|sM rfl<|bE h fun x12 hx12 h => eG hx12 rfl<|sV (.cptr [.str x12.ak.ah.aC, .str x12.ak.ah.aE, .str x12.ak.ah.ac, .str x12.ak.ah.aD, .int .i64 x12.ak.aF, .int .i64 x12.ak.aJ, .int .i64 x12.ak.aN, .int .i64 x12.ak.au, .int .i64 x12.ak.av, .int .i64 x12.aW, .str x12.ae.ak.ah.aC, .str x12.ae.ak.ah.aE, .str x12.ae.ak.ah.ac, .str x12.ae.ak.ah.aD, .int .i64 x12.ae.ak.aF, .int .i64 x12.ae.ak.aJ, .int .i64 x12.ae.ak.aN, .int .i64 x12.ae.ak.au, .int .i64 x12.ae.ak.av, .lst (x12.ae.aa.aK.map ag.pd), .int .i64 x12.ae.aa.ac.aA.fX, .int .i64 x12.ae.aa.ac.aA.fY, .int .i64 x12.ae.aa.ac.aA.fZ, .int .i64 x12.ae.aa.ac.aF, .int .i64 x12.ae.aa.ac.aO, .int .i64 x12.ae.aa.ac.aV, .int .i64 x12.ae.aa.ac.ap.aI.fX, .int .i64 x12.ae.aa.ac.ap.aI.fY, .int .i64 x12.ae.aa.ac.ap.aI.fZ, .int .i64 x12.ae.aa.ac.ap.az.fX, .int .i64 x12.ae.aa.ac.ap.az.fY, .int .i64 x12.ae.aa.ac.ap.az.fZ, .int .i64 x12.ae.aa.aq.aI, .int .i64 x12.ae.aa.aq.az, .int .i64 x12.ae.aa.aU, .int .i64 x12.fAt])<|sV (.d (ag.pd x12.ak))<|sM rfl<|sM rfl<|bE h fun x13 hx13 h => eG hx13 rfl<|sV (.cptr [.str x13.ak.ah.aC, .str x13.ak.ah.aE, .str x13.ak.ah.ac, .str x13.ak.ah.aD, .int .i64 x13.ak.aF, .int .i64 x13.ak.aJ, .int .i64 x13.ak.aN, .int .i64 x13.ak.au, .int .i64 x13.ak.av, .int .i64 x13.aW, .str x13.ae.ak.ah.aC, .str x13.ae.ak.ah.aE, .str x13.ae.ak.ah.ac, .str x13.ae.ak.ah.aD, .int .i64 x13.ae.ak.aF, .int .i64 x13.ae.ak.aJ, .int .i64 x13.ae.ak.aN, .int .i64 x13.ae.ak.au, .int .i64 x13.ae.ak.av, .lst (x13.ae.aa.aK.map ag.pd), .int .i64 x13.ae.aa.ac.aA.fX, .int .i64 x13.ae.aa.ac.aA.fY, .int .i64 x13.ae.aa.ac.aA.fZ, .int .i64 x13.ae.aa.ac.aF, .int .i64 x13.ae.aa.ac.aO, .int .i64 x13.ae.aa.ac.aV, .int .i64 x13.ae.aa.ac.ap.aI.fX, .int .i64 x13.ae.aa.ac.ap.aI.fY, .int .i64 x13.ae.aa.ac.ap.aI.fZ, .int .i64 x13.ae.aa.ac.ap.az.fX, .int .i64 x13.ae.aa.ac.ap.az.fY, .int .i64 x13.ae.aa.ac.ap.az.fZ, .int .i64 x13.ae.aa.aq.aI, .int .i64 x13.ae.aa.aq.az, .int .i64 x13.ae.aa.aU, .int .i64 x13.fAt])<|sV (.d (ag.pd x13.ak))<|WO.bin (iS x12.ak x13.ak) rfl rfl rfl rfl rfl<|sF h (fun h => ?_) fun h => ?_
       ·refine sN<|sO<|cT<|gS rfl rfl<|sU<|sN<|qR ?_
        cases oI h
        exact ⟨nofun, rfl, rfl⟩
       refine sN<|sO<|cF<|qK<|WC.region rfl rfl<|sM rfl<|sV (rI (rW (s4 + (1 : Int))))<|sA rfl<|sN ?_
       cases oI h
       exact ⟨rfl, rfl⟩
      refine sM rfl<|k3<|k3<|k3<|sK<|sK<|sU ?_
      refine sN<|sO<|cF<|qK<|WC.region rfl rfl<|sM rfl<|sV (rI (rW (s4 + (1 : Int))))<|sA rfl<|sN ?_
      cases oI h
      exact ⟨rfl, rfl⟩
     refine sM rfl<|k3<|k3<|sU<|sM rfl<|k3<|sK<|sK<|sK ?_
     refine k3<|sK<|sK<|sU ?_
     refine sN<|sO<|cF<|qK<|WC.region rfl rfl<|sM rfl<|sV (rI (rW (s4 + (1 : Int))))<|sA rfl<|sN ?_
     cases oI h
     exact ⟨rfl, rfl⟩
    refine sN<|cF<|qX ?_
    cases oI h
    exact ⟨nofun, rfl, rfl⟩
   intro e R' B' he hq
   rcases o16 with y17 | r18
   ·obtain ⟨rfl, hI⟩ := hq
    refine qE<|WC.region hI rfl<|sM rfl<|sV (rI (rW (y17 + (1 : Int))))<|sA rfl<|sN ?_
    cases oI h
    exact ⟨rfl, rfl⟩
   obtain ⟨rfl, hf⟩ := hq
   cases oI h
   exact ⟨nofun, rfl, hf⟩
  refine sN<|cF<|qX ?_
  cases oI h
  exact ⟨nofun, rfl, rfl⟩
 intro e R' B' he hq
 rcases o37 with y38 | r39
 ·obtain ⟨rfl, hI⟩ := hq
  refine qE<|gS rfl hI<|sM rfl<|sE (rI (a0.length : Int)) (lenMap _ _)<|sV (rB (decide ((a0.length : Int) ≤ (200 : Int))))<|sA rfl<|sN<|qR ?_
  cases oI h
  exact qD
 obtain ⟨rfl, hf⟩ := hq
 cases oI h
 exact hf
theorem eT {a0 : (List UInt8)} {a1 : (List UInt8)} {r : Int} (h : dR a0 a1 = some r) : EvP prog aM ext 178 [rS a0, rS a1] [] (rI r, []) := by
 refine Ev.body rfl Tryz.func178 rfl (by kernel_rfl)<|gS rfl rfl<|sV (r0)<|sN<|qS<|qB<|gS rfl rfl<|sM rfl<|sM rfl<|sF h (fun h => ?_) fun h => ?_
 ·refine sA rfl<|sN<|cT<|gS rfl rfl<|sV (rI (-1))<|sN<|qR ?_
  cases oI h
  exact qD
 refine sA rfl<|sN<|cF<|gS rfl rfl<|sM rfl<|sM rfl<|sF h (fun h => ?_) fun h => ?_
 ·refine sA rfl<|sN<|cT<|gS rfl rfl<|sV (rI 1)<|sN<|qR ?_
  cases oI h
  exact qD
 refine sA rfl<|sN<|cF<|qK<|gS rfl rfl<|sV (r0)<|sN<|qR ?_
 cases oI h
 exact qD
theorem ref03_Compare_ev {a0 : am} {a1 : am} {r : Int} (h : gB a0 a1 = some r) : EvP prog aM ext 169 [.d (am.pd a0), .d (am.pd a1)] [] (rI r, []) := by
 refine Ev.body rfl Tryz.func169 rfl (by kernel_rfl)<|gS rfl rfl<|sB (.ptr 32 0) 32 (.var [rS a0.aC, rS a0.aE, rS a0.ac, rS a0.aD])<|sB (.ptr 48 0) 48 (.var [rS a1.aC, rS a1.aE, rS a1.ac, rS a1.aD])<|sV (r0)<|sN<|qS<|WC.regionDSeq rfl rfl<|sV (.ptr 32 0)<|sL rfl<|sV (.ptr 48 0)<|sL rfl<|bE h fun x1 hx1 h => cD (eT hx1)<|sV (.ptr 32 1) ?_
 refine sL rfl<|sV (.ptr 48 1)<|sL rfl<|bE h fun x2 hx2 h => cD (eT hx2)<|sV (.ptr 32 2)<|sL rfl<|sV (.ptr 48 2)<|sL rfl<|bE h fun x3 hx3 h => cD (eT hx3)<|sV (.ptr 32 3)<|sL rfl<|sV (.ptr 48 3)<|sL rfl ?_
 refine bE h fun x4 hx4 h => cD (eT hx4)<|sV (.d (A4_Int.pd (A4_Int.mk x1 x2 x3 x4)))<|sV (r0) ?_
 refine sN<|sO<|WC.block (WC.loop ?_)
 refine WL.round<|gS rfl rfl<|sT<|sN<|qS<|cT<|qK<|qS<|qB<|gS rfl rfl<|sV (rI x1)<|sA rfl<|sN<|gS rfl rfl<|sM rfl ?_
 refine sF h (fun h => ?_) fun h => ?_
 ·refine sN<|cT<|gS rfl rfl<|sM rfl<|sA rfl<|sN<|qR ?_
  cases oI h
  exact qD
 refine sN<|cF<|qK<|WC.region rfl rfl<|sV (rI 1)<|sM rfl<|sN<|WL.round<|gS rfl rfl<|sT<|sN<|qS<|cT<|qK<|qS ?_
 refine qB<|gS rfl rfl<|sV (rI x2)<|sA rfl<|sN<|gS rfl rfl<|sM rfl<|sF h (fun h => ?_) fun h => ?_
 ·refine sN<|cT<|gS rfl rfl<|sM rfl<|sA rfl<|sN<|qR ?_
  cases oI h
  exact qD
 refine sN<|cF<|qK<|WC.region rfl rfl<|sV (rI 2)<|sM rfl<|sN<|WL.round<|gS rfl rfl<|sT<|sN<|qS<|cT<|qK<|qS ?_
 refine qB<|gS rfl rfl<|sV (rI x3)<|sA rfl<|sN<|gS rfl rfl<|sM rfl<|sF h (fun h => ?_) fun h => ?_
 ·refine sN<|cT<|gS rfl rfl<|sM rfl<|sA rfl<|sN<|qR ?_
  cases oI h
  exact qD
 refine sN<|cF<|qK<|WC.region rfl rfl<|sV (rI 3)<|sM rfl<|sN<|WL.round<|gS rfl rfl<|sT<|sN<|qS<|cT<|qK<|qS ?_
 refine qB<|gS rfl rfl<|sV (rI x4)<|sA rfl<|sN<|gS rfl rfl<|sM rfl<|sF h (fun h => ?_) fun h => ?_
 ·refine sN<|cT<|gS rfl rfl<|sM rfl<|sA rfl<|sN<|qR ?_
  cases oI h
  exact qD
 refine sN<|cF<|qK<|WC.region rfl rfl<|sV (rI 4)<|sM rfl<|sN<|WL.round<|gS rfl rfl<|sU<|sN<|qS<|cF<|qX<|qE ?_
 refine gS rfl rfl<|sV (r0)<|sN<|qR ?_
 cases oI h
 exact qD
theorem jc {a0 : ag} {a1 : ag} {r : Int} (h : fa a0 a1 = some r) : EvP prog aM ext 155 [.d (ag.pd a0), .d (ag.pd a1)] [] (rI r, []) := by
 refine Ev.body rfl Tryz.func155 rfl (by kernel_rfl)<|gS rfl rfl<|sB (.ptr 32 0) 32 (.var (ag.rc a0))<|sB (.ptr 48 0) 48 (.var (ag.rc a1))<|sV (r0)<|sN<|qS<|gS rfl rfl<|sV (.ptr 32 0)<|sV (.d (am.pd a0.ah))<|sV (.ptr 48 0)<|sV (.d (am.pd a1.ah))<|bE h fun x1 hx1 h => cD (ref03_Compare_ev hx1)<|sA rfl ?_
 refine sN<|gS rfl rfl<|sM rfl<|sF h (fun h => ?_) fun h => ?_
 ·refine sN<|cT<|gS rfl rfl<|sM rfl<|sA rfl<|sN<|qR ?_
  cases oI h
  exact qG
 refine sN<|cF<|qK<|qS<|gS rfl rfl<|sV (.ptr 32 4)<|sL rfl<|sV (.ptr 48 4)<|sL rfl<|sV (.d (bp.pd (bp.mk a0.aF a1.aF)))<|sV (.ptr 32 5)<|sL rfl<|sV (.ptr 48 5)<|sL rfl<|sV (.d (bp.pd (bp.mk a0.aJ a1.aJ))) ?_
 refine sV (.ptr 32 6)<|sL rfl<|sV (.ptr 48 6)<|sL rfl<|sV (.d (bp.pd (bp.mk a0.aN a1.aN)))<|sV (.ptr 32 7)<|sL rfl<|sV (.ptr 48 7)<|sL rfl<|sV (.d (bp.pd (bp.mk a0.au a1.au)))<|sV (.ptr 32 8)<|sL rfl<|sV (.ptr 48 8)<|sL rfl<|sV (.d (bp.pd (bp.mk a0.av a1.av))) ?_
 refine sG (.d (cQ.pd (cQ.mk (bp.mk a0.aF a1.aF) (bp.mk a0.aJ a1.aJ) (bp.mk a0.aN a1.aN) (bp.mk a0.au a1.au) (bp.mk a0.av a1.av))))<|sV (r0)<|sN<|WC.block (WC.loop ?_)
 refine WL.round<|WC.regionSeq (R0 := [(41, .d (cQ.pd (cQ.mk (bp.mk a0.aF a1.aF) (bp.mk a0.aJ a1.aJ) (bp.mk a0.aN a1.aN) (bp.mk a0.au a1.au) (bp.mk a0.av a1.av)))), (42, r0)]) (B0 := []) rfl rfl<|sT<|sN<|qS<|cT<|qK<|qS<|qB<|gS rfl rfl<|sV (.d (bp.pd (bp.mk a0.aF a1.aF)))<|sB (.ptr 112 0) 112 (.var [r0, r0])<|sS 112 (.var [rI a0.aF, rI a1.aF])<|sN<|qS ?_
 refine gS rfl rfl<|sV (.ptr 112 0)<|sL rfl<|sV (.ptr 112 1)<|sL rfl<|sF h (fun h => ?_) fun h => ?_
 ·refine sN<|cT<|gS rfl rfl<|sV (rI (-1))<|sN<|qR ?_
  cases oI h
  exact qD
 refine sN<|cF<|qK<|gS rfl rfl<|sV (.ptr 112 0)<|sL rfl<|sV (.ptr 112 1)<|sL rfl<|sF h (fun h => ?_) fun h => ?_
 ·refine sN<|cT<|gS rfl rfl<|sV (rI 1)<|sN<|qR ?_
  cases oI h
  exact qD
 refine sN<|cF<|qK<|WC.region rfl rfl<|sV (rI 1)<|sM rfl<|sN<|WL.round<|WC.regionSeq (R0 := [(41, .d (cQ.pd (cQ.mk (bp.mk a0.aF a1.aF) (bp.mk a0.aJ a1.aJ) (bp.mk a0.aN a1.aN) (bp.mk a0.au a1.au) (bp.mk a0.av a1.av)))), (42, rI 1)]) (B0 := []) rfl rfl<|sT<|sN<|qS<|cT<|qK<|qS ?_
 refine qB<|gS rfl rfl<|sV (.d (bp.pd (bp.mk a0.aJ a1.aJ)))<|sB (.ptr 112 0) 112 (.var [r0, r0])<|sS 112 (.var [rI a0.aJ, rI a1.aJ])<|sN<|qS<|gS rfl rfl<|sV (.ptr 112 0)<|sL rfl<|sV (.ptr 112 1)<|sL rfl<|sF h (fun h => ?_) fun h => ?_
 ·refine sN<|cT<|gS rfl rfl<|sV (rI (-1))<|sN<|qR ?_
  cases oI h
  exact qD
 refine sN<|cF<|qK<|gS rfl rfl<|sV (.ptr 112 0)<|sL rfl<|sV (.ptr 112 1)<|sL rfl<|sF h (fun h => ?_) fun h => ?_
 ·refine sN<|cT<|gS rfl rfl<|sV (rI 1)<|sN<|qR ?_
  cases oI h
  exact qD
 refine sN<|cF<|qK<|WC.region rfl rfl<|sV (rI 2)<|sM rfl<|sN<|WL.round<|WC.regionSeq (R0 := [(41, .d (cQ.pd (cQ.mk (bp.mk a0.aF a1.aF) (bp.mk a0.aJ a1.aJ) (bp.mk a0.aN a1.aN) (bp.mk a0.au a1.au) (bp.mk a0.av a1.av)))), (42, rI 2)]) (B0 := []) rfl rfl<|sT<|sN<|qS<|cT<|qK<|qS ?_
 refine qB<|gS rfl rfl<|sV (.d (bp.pd (bp.mk a0.aN a1.aN)))<|sB (.ptr 112 0) 112 (.var [r0, r0])<|sS 112 (.var [rI a0.aN, rI a1.aN])<|sN<|qS<|gS rfl rfl<|sV (.ptr 112 0)<|sL rfl<|sV (.ptr 112 1)<|sL rfl<|sF h (fun h => ?_) fun h => ?_
 ·refine sN<|cT<|gS rfl rfl<|sV (rI (-1))<|sN<|qR ?_
  cases oI h
  exact qD
 refine sN<|cF<|qK<|gS rfl rfl<|sV (.ptr 112 0)<|sL rfl<|sV (.ptr 112 1)<|sL rfl<|sF h (fun h => ?_) fun h => ?_
 ·refine sN<|cT<|gS rfl rfl<|sV (rI 1)<|sN<|qR ?_
  cases oI h
  exact qD
 refine sN<|cF<|qK<|WC.region rfl rfl<|sV (rI 3)<|sM rfl<|sN<|WL.round<|WC.regionSeq (R0 := [(41, .d (cQ.pd (cQ.mk (bp.mk a0.aF a1.aF) (bp.mk a0.aJ a1.aJ) (bp.mk a0.aN a1.aN) (bp.mk a0.au a1.au) (bp.mk a0.av a1.av)))), (42, rI 3)]) (B0 := []) rfl rfl<|sT<|sN<|qS<|cT<|qK<|qS ?_
 refine qB<|gS rfl rfl<|sV (.d (bp.pd (bp.mk a0.au a1.au)))<|sB (.ptr 112 0) 112 (.var [r0, r0])<|sS 112 (.var [rI a0.au, rI a1.au])<|sN<|qS<|gS rfl rfl<|sV (.ptr 112 0)<|sL rfl<|sV (.ptr 112 1)<|sL rfl<|sF h (fun h => ?_) fun h => ?_
 ·refine sN<|cT<|gS rfl rfl<|sV (rI (-1))<|sN<|qR ?_
  cases oI h
  exact qD
 refine sN<|cF<|qK<|gS rfl rfl<|sV (.ptr 112 0)<|sL rfl<|sV (.ptr 112 1)<|sL rfl<|sF h (fun h => ?_) fun h => ?_
 ·refine sN<|cT<|gS rfl rfl<|sV (rI 1)<|sN<|qR ?_
  cases oI h
  exact qD
 refine sN<|cF<|qK<|WC.region rfl rfl<|sV (rI 4)<|sM rfl<|sN<|WL.round<|WC.regionSeq (R0 := [(41, .d (cQ.pd (cQ.mk (bp.mk a0.aF a1.aF) (bp.mk a0.aJ a1.aJ) (bp.mk a0.aN a1.aN) (bp.mk a0.au a1.au) (bp.mk a0.av a1.av)))), (42, rI 4)]) (B0 := []) rfl rfl<|sT<|sN<|qS<|cT<|qK<|qS ?_
 refine qB<|gS rfl rfl<|sV (.d (bp.pd (bp.mk a0.av a1.av)))<|sB (.ptr 112 0) 112 (.var [r0, r0])<|sS 112 (.var [rI a0.av, rI a1.av])<|sN<|qS<|gS rfl rfl<|sV (.ptr 112 0)<|sL rfl<|sV (.ptr 112 1)<|sL rfl<|sF h (fun h => ?_) fun h => ?_
 ·refine sN<|cT<|gS rfl rfl<|sV (rI (-1))<|sN<|qR ?_
  cases oI h
  exact qD
 refine sN<|cF<|qK<|gS rfl rfl<|sV (.ptr 112 0)<|sL rfl<|sV (.ptr 112 1)<|sL rfl<|sF h (fun h => ?_) fun h => ?_
 ·refine sN<|cT<|gS rfl rfl<|sV (rI 1)<|sN<|qR ?_
  cases oI h
  exact qD
 refine sN<|cF<|qK<|WC.region rfl rfl<|sV (rI 5)<|sM rfl<|sN<|WL.round<|WC.regionSeq (R0 := [(41, .d (cQ.pd (cQ.mk (bp.mk a0.aF a1.aF) (bp.mk a0.aJ a1.aJ) (bp.mk a0.aN a1.aN) (bp.mk a0.au a1.au) (bp.mk a0.av a1.av)))), (42, rI 5)]) (B0 := []) rfl rfl<|sU<|sN<|qS<|cF<|qX<|qE ?_
 refine gS rfl rfl<|sV (r0)<|sN<|qR ?_
 cases oI h
 exact qD
theorem jd {a0 : ag} {a1 : ag} {r : Int} (h : fb a0 a1 = some r) : EvP prog aM ext 133 [.d (ag.pd a0), .d (ag.pd a1)] [] (rI r, []) := by
 refine Ev.body rfl Tryz.func133 rfl (by kernel_rfl)<|gS rfl rfl<|sB (.ptr 32 0) 32 (.var (ag.rc a0))<|sB (.ptr 48 0) 48 (.var (ag.rc a1))<|sV (r0)<|sN<|qS<|gS rfl rfl<|sV (.ptr 32 4)<|sL rfl<|sV (.ptr 48 4)<|sL rfl<|sF h (fun h => ?_) fun h => ?_
 ·refine sN<|cT<|gS rfl rfl<|sV (rI (-1))<|sN<|qR ?_
  cases oI h
  exact qG
 refine sN<|cF<|qK<|qS<|gS rfl rfl<|sV (.ptr 32 4)<|sL rfl<|sV (.ptr 48 4)<|sL rfl<|sF h (fun h => ?_) fun h => ?_
 ·refine sN<|cT<|gS rfl rfl<|sV (rI 1)<|sN<|qR ?_
  cases oI h
  exact qG
 refine sN<|cF<|qK<|gS rfl rfl<|sV (.d (ag.pd a0))<|sV (.d (ag.pd a1))<|bE h fun x3 hx3 h => cD (jc hx3)<|sA rfl<|sN<|qR ?_
 cases oI h
 exact qG
theorem ref34_Name_ev {a0 : (List ag)} {r : ag} (h : jt a0 = some r) : EvP prog aM ext 131 [.d (.lst (a0.map ag.pd))] [] (.d (ag.pd r), []) := by
 refine Ev.body rfl Tryz.func131 rfl (by kernel_rfl)<|gS rfl rfl<|sB (.ptr 32 0) 32 (.var zZ7)<|sN<|gS rfl rfl<|sM rfl<|bE h fun x1 hx1 h => eG hx1 rfl<|sV (.d (ag.pd x1))<|sB (.ptr 48 0) 48 (.var zZ7)<|sH 48 (.var (ag.rc x1))<|sN<|qS<|gS rfl rfl<|sV (rI 1) ?_
 refine sN<|bE h fun o28 ho28 h => WC.block (WC.loop (WL.ofLoop ho28 (fun s R' B' => ghosts prog 0 (A R' B') (aM.at_ 131 0 3) = some (A [(0, .d (.lst (a0.map ag.pd))), (2, .ptr 32 0), (3, .ptr 48 0), (4, rI s.1)] [(32, .var zZ7), (48, .var [rS s.2.1, rS s.2.2.1, rS s.2.2.2.1, rS s.2.2.2.2.1, rI s.2.2.2.2.2.1, rI s.2.2.2.2.2.2.1, rI s.2.2.2.2.2.2.2.1, rI s.2.2.2.2.2.2.2.2.1, rI s.2.2.2.2.2.2.2.2.2])])) (fun o e R' B' => e = .exit 0 ∧ ghosts prog 0 (A R' B') (aM.at_ 131 0 7) = some (A [(2, .ptr 32 0), (3, .ptr 48 0)] [(32, .var zZ7), (48, .var [rS o.1, rS o.2.1, rS o.2.2.1, rS o.2.2.2.1, rI o.2.2.2.2.1, rI o.2.2.2.2.2.1, rI o.2.2.2.2.2.2.1, rI o.2.2.2.2.2.2.2.1, rI o.2.2.2.2.2.2.2.2])])) rfl ?_ ?_))
 ·rintro ⟨s2, s3, s4, s5, s6, s7, s8, s9, s10, s11⟩ R' B' q21 hI h
  refine qS<|gS rfl hI<|sM rfl<|sM rfl<|sE (rI (a0.length : Int)) (lenMap _ _)<|sF h (fun h => ?_) fun h => ?_
  ·refine sN<|cT<|qK<|qS<|qB<|WC.regionDSeq rfl rfl<|sM rfl<|sM rfl<|bE h fun x23 hx23 h => eG hx23 rfl<|sV (.d (ag.pd x23))<|sV (.d (ag.pd (ag.mk (am.mk s3 s4 s5 s6) s7 s8 s9 s10 s11)))<|bE h fun x24 hx24 h => cD (jd hx24)<|sF h (fun h => ?_) fun h => ?_
   ·refine sN<|sO<|cT<|WC.region rfl rfl<|sM rfl<|sM rfl<|bE h fun x26 hx26 h => eG hx26 rfl<|sV (.d (ag.pd x26))<|sH 48 (.var (ag.rc x26))<|sN<|WC.region rfl rfl<|sM rfl<|sV (rI (rW (s2 + (1 : Int))))<|sA rfl<|sN ?_
    cases oI h
    exact ⟨rfl, rfl⟩
   refine sN<|sO<|cF<|qK<|WC.region rfl rfl<|sM rfl<|sV (rI (rW (s2 + (1 : Int))))<|sA rfl<|sN ?_
   cases oI h
   exact ⟨rfl, rfl⟩
  refine sN<|cF<|qX ?_
  cases oI h
  exact ⟨nofun, rfl, rfl⟩
 intro e R' B' he hq
 obtain ⟨rfl, hI⟩ := hq
 refine qE<|gS rfl hI<|sV (.d (ag.pd (ag.mk (am.mk o28.1 o28.2.1 o28.2.2.1 o28.2.2.2.1) o28.2.2.2.2.1 o28.2.2.2.2.2.1 o28.2.2.2.2.2.2.1 o28.2.2.2.2.2.2.2.1 o28.2.2.2.2.2.2.2.2)))<|sH 32 (.var [rS o28.1, rS o28.2.1, rS o28.2.2.1, rS o28.2.2.2.1, rI o28.2.2.2.2.1, rI o28.2.2.2.2.2.1, rI o28.2.2.2.2.2.2.1, rI o28.2.2.2.2.2.2.2.1, rI o28.2.2.2.2.2.2.2.2])<|sN<|qR ?_
 cases oI h
 exact qG
theorem ref23_Sort_ev {a0 : (List ag)} {r : (List ag)} (h : jr a0 = some r) : EvP prog aM ext 132 [.d (.lst (a0.map ag.pd))] [] (.d (.lst (r.map ag.pd)), []) := by
 refine Ev.body rfl Tryz.func132 rfl (by kernel_rfl)<|gS rfl rfl<|sV .nils<|sN<|gS rfl rfl<|sV .nils<|sN<|qS<|gS rfl rfl<|sV (r0)<|sN<|bE h fun o39 ho39 h => WC.block (WC.loop (WL.ofLoop ho39 (fun s R' B' => ghosts prog 0 (A R' B') (aM.at_ 132 0 3) = some (A [(0, .d (.lst (a0.map ag.pd))), (3, .ref 816 0), (4, rI s.1)] [(816, .arr 0 25 (s.2.map ag.pd))])) (fun o e R' B' => e = .exit 0 ∧ ghosts prog 0 (A R' B') (aM.at_ 132 0 12) = some (A [(3, .ref 816 0)] [(816, .arr 0 25 (o.map ag.pd))])) rfl ?_ ?_))
 ·rintro ⟨s1, s2⟩ R' B' q4 hI h
  refine qS<|gS rfl hI<|sM rfl<|sM rfl<|sE (rI (a0.length : Int)) (lenMap _ _)<|sF h (fun h => ?_) fun h => ?_
  ·refine sN<|cT<|qK<|qS<|qB<|gS rfl rfl<|sM rfl<|WO.lenR rfl rfl rfl rfl rfl rfl rfl rfl rfl<|sA rfl<|sN<|qS<|bE h fun o19 ho19 h => WC.block (WC.loop (WL.ofLoop ho19 (fun s R' B' => ghosts prog 0 (A R' B') (aM.at_ 132 0 6) = some (A [(0, .d (.lst (a0.map ag.pd))), (3, .ref 816 0), (4, rI s1), (5, rI s)] [(816, .arr 0 25 (s2.map ag.pd))])) (fun o e R' B' => e = .exit 2 ∧ ghosts prog 0 (A R' B') (aM.at_ 132 0 8) = some (A [(0, .d (.lst (a0.map ag.pd))), (3, .ref 816 0), (4, rI o.1), (5, rI o.2.1)] [(816, .arr 0 25 (o.2.2.map ag.pd))])) rfl ?_ ?_))
   ·rintro s6 R' B' q10 hI h
    refine qS<|WC.regionDSeq hI rfl<|sM rfl<|sF h (fun h => ?_) fun h => ?_
    ·refine sM rfl<|sM rfl<|sM rfl<|sV (rI (rW (s6 - (1 : Int))))<|bE h fun x13 hx13 h => WO.eltG hx13 rfl rfl rfl rfl rfl rfl rfl rfl<|bE h fun x14 hx14 h => WO.loadE hx14 rfl rfl rfl rfl rfl rfl<|sM rfl<|sM rfl<|bE h fun x15 hx15 h => eG hx15 rfl<|sV (.d (ag.pd x15))<|bE h fun x16 hx16 h => cD (jc hx16) ?_
     refine sV (rB (decide (x16 > (0 : Int))))<|sF h (fun h => ?_) fun h => ?_
     ·refine sN<|sO<|cT<|qK<|qB<|WC.region rfl rfl<|sM rfl<|sV (rI (rW (s6 - (1 : Int))))<|sA rfl<|sN ?_
      cases oI h
      exact ⟨rfl, rfl⟩
     refine sN<|sO<|cF<|qX ?_
     cases oI h
     exact ⟨nofun, rfl, rfl⟩
    refine sM rfl<|k3<|k3<|k3<|sK<|sK<|sU ?_
    refine sN<|sO<|cF<|qX ?_
    cases oI h
    exact ⟨nofun, rfl, rfl⟩
   intro e R' B' he hq
   obtain ⟨rfl, hI⟩ := hq
   refine qE<|WC.join (α := Unit) (fun x R' B' => ghosts prog 0 (A R' B') (aM.at_ 132 0 9) = some (A [(0, .d (.lst (a0.map ag.pd))), (3, .ref 816 0), (4, rI o19.1), (5, rI o19.2.1)] [(816, .arr 0 25 (o19.2.2.map ag.pd))])) (fun x => eJ a0 o19 = some q4) ?_ ?_
   ·refine WC.regionDSeq hI rfl<|sM rfl<|sF h (fun h => ?_) fun h => ?_
    ·refine sM rfl<|sM rfl<|sM rfl<|sV (rI (rW (o19.2.1 - (1 : Int))))<|bE h fun x34 hx34 h => WO.eltG hx34 rfl rfl rfl rfl rfl rfl rfl rfl<|bE h fun x35 hx35 h => WO.loadE hx35 rfl rfl rfl rfl rfl rfl<|sM rfl<|sM rfl<|bE h fun x36 hx36 h => eG hx36 rfl<|sV (.d (ag.pd x36))<|WO.bin (iS x35 x36) rfl rfl rfl rfl rfl<|sF h (fun h => ?_) fun h => ?_
     ·refine sN<|sO<|cT<|qX<|qE<|WC.region rfl rfl<|sM rfl<|sV (rI (rW (o19.1 + (1 : Int))))<|sA rfl<|sN ?_
      cases oI h
      exact ⟨rfl, rfl⟩
     exact sN<|sO<|cF<|qK<|⟨(), rfl, h⟩
    refine sM rfl<|k3<|k3<|k3<|sK<|sU ?_
    exact sN<|sO<|cF<|qK<|⟨(), rfl, h⟩
   rintro ⟨⟩ R' B' hI h
   refine gS rfl hI<|sM rfl<|sM rfl<|sM rfl<|bE h fun x20 hx20 h => eG hx20 rfl<|sV (.d (ag.pd x20))<|sG (.d (.lst ([x20].map ag.pd)))<|bE h fun x21 hx21 h => aR hx21 (fun _ => rfl) rfl<|sA rfl<|sN<|WC.regionDSeq rfl rfl<|sM rfl<|sM rfl ?_
   refine sV (rI (rW (o19.2.1 + (1 : Int))))<|bE h fun x22 hx22 h => WO.subR hx22 rfl rfl rfl rfl rfl rfl rfl rfl rfl rfl rfl rfl<|sM rfl<|sM rfl<|bE h fun x23 hx23 h => WO.subR hx23 rfl rfl rfl rfl rfl rfl rfl rfl rfl rfl rfl rfl<|bE h fun x24 hx24 h => bE h fun x25 hx25 h => WO.copyG rfl rfl rfl rfl rfl rfl rfl rfl (dst_view hx24 rfl) (src_view hx25 rfl) rfl rfl (fun _ => rfl) ?_
   refine sN<|sO<|WC.region rfl rfl<|sM rfl<|sM rfl<|sM rfl<|sM rfl<|bE h fun x27 hx27 h => eG hx27 rfl<|sV (.d (ag.pd x27))<|bE h fun x29 hx29 h => WO.eltG hx29 rfl rfl rfl rfl rfl rfl rfl rfl<|bE h fun x30 hx30 h => WO.storeE (g := ag.pd) (sz := 9) (p := ag.pd x27) hx30 (by intro _; kernel_rfl) (by intro _; kernel_rfl) rfl rfl rfl rfl rfl rfl rfl rfl rfl<|sN<|WC.region rfl rfl ?_
   refine sM rfl<|sV (rI (rW (o19.1 + (1 : Int))))<|sA rfl<|sN ?_
   cases oI h
   exact ⟨rfl, rfl⟩
  refine sN<|cF<|qX ?_
  cases oI h
  exact ⟨nofun, rfl, rfl⟩
 intro e R' B' he hq
 obtain ⟨rfl, hI⟩ := hq
 refine qE<|gS rfl hI<|sM rfl<|sA rfl<|sN<|qR ?_
 cases oI h
 exact qD
theorem jK {a0 : (List ag)} {a1 : (List ag)} {r : Bool} (h : fS a0 a1 = some r) : EvP prog aM ext 134 [.d (.lst (a0.map ag.pd)), .d (.lst (a1.map ag.pd))] [] (rB r, []) := by
 refine Ev.body rfl Tryz.func134 rfl (by kernel_rfl)<|gS rfl rfl<|sU<|sN<|qS<|gS rfl rfl<|sV (r0)<|sN<|bE h fun o16 ho16 h => WC.block (WC.loop (WL.ofLoop ho16 (fun s R' B' => ghosts prog 0 (A R' B') (aM.at_ 134 0 2) = some (A [(0, .d (.lst (a0.map ag.pd))), (1, .d (.lst (a1.map ag.pd))), (5, rI s)] [])) (fun o e R' B' => match o with | .inl y => e = .exit 0 ∧ ghosts prog 0 (A R' B') (aM.at_ 134 0 9) = some (A [] []) | .inr r => e = .ret ∧ finish prog (aM.own 134) Tryz.f134 0 (A R' B') = some (rB r, [])) rfl ?_ ?_))
 ·rintro s1 R' B' q2 hI h
  refine qS<|gS rfl hI<|sM rfl<|sM rfl<|sE (rI (a0.length : Int)) (lenMap _ _)<|sF h (fun h => ?_) fun h => ?_
  ·refine sN<|cT<|qK<|qS<|qB<|gS rfl rfl<|sV (r0)<|sN<|bE h fun o12 ho12 h => WC.block (WC.loop (WL.ofLoop ho12 (fun s R' B' => ghosts prog 0 (A R' B') (aM.at_ 134 0 5) = some (A [(0, .d (.lst (a0.map ag.pd))), (1, .d (.lst (a1.map ag.pd))), (5, rI s1), (6, rI s)] [])) (fun o e R' B' => match o with | .inl y => e = .exit 2 ∧ ghosts prog 0 (A R' B') (aM.at_ 134 0 3) = some (A [(0, .d (.lst (a0.map ag.pd))), (1, .d (.lst (a1.map ag.pd))), (5, rI y)] []) | .inr r => e = .ret ∧ finish prog (aM.own 134) Tryz.f134 0 (A R' B') = some (rB r, [])) rfl ?_ ?_))
   ·rintro s4 R' B' q6 hI h
    refine qS<|gS rfl hI<|sM rfl<|sM rfl<|sE (rI (a1.length : Int)) (lenMap _ _)<|sF h (fun h => ?_) fun h => ?_
    ·refine sN<|cT<|qK<|qS<|qB<|WC.regionDSeq rfl rfl<|sM rfl<|sM rfl<|bE h fun x8 hx8 h => eG hx8 rfl<|sV (.d (ag.pd x8))<|sM rfl<|sM rfl<|bE h fun x9 hx9 h => eG hx9 rfl ?_
     refine sV (.d (ag.pd x9))<|ite_elim h (fun hb10 h => ?_) (fun hb10 h => ?_)
     ·refine WO.binS (iS x8 x9) hb10 rfl rfl rfl rfl rfl ?_
      refine sN<|sO<|cT<|gS rfl rfl<|sT<|sN<|qR ?_
      cases oI h
      exact ⟨nofun, rfl, rfl⟩
     refine WO.binS (iS x8 x9) hb10 rfl rfl rfl rfl rfl ?_
     refine sN<|sO<|cF<|qK<|WC.region rfl rfl<|sM rfl<|sV (rI (rW (s4 + (1 : Int))))<|sA rfl<|sN ?_
     cases oI h
     exact ⟨rfl, rfl⟩
    refine sN<|cF<|qX ?_
    cases oI h
    exact ⟨nofun, rfl, rfl⟩
   intro e R' B' he hq
   rcases o12 with y13 | r14
   ·obtain ⟨rfl, hI⟩ := hq
    refine qE<|WC.region hI rfl<|sM rfl<|sV (rI (rW (y13 + (1 : Int))))<|sA rfl<|sN ?_
    cases oI h
    exact ⟨rfl, rfl⟩
   obtain ⟨rfl, hf⟩ := hq
   cases oI h
   exact ⟨nofun, rfl, hf⟩
  refine sN<|cF<|qX ?_
  cases oI h
  exact ⟨nofun, rfl, rfl⟩
 intro e R' B' he hq
 rcases o16 with y17 | r18
 ·obtain ⟨rfl, hI⟩ := hq
  refine qE<|gS rfl hI<|sU<|sN<|qR ?_
  cases oI h
  exact qD
 obtain ⟨rfl, hf⟩ := hq
 cases oI h
 exact hf
theorem ref34_Valid_ev {a0 : (List ar)} {r : Bool} (h : iJ a0 = some r) : EvP prog aM ext 97 [.d (.lst (a0.map ar.pd))] [] (rB r, []) := by
 refine Ev.body rfl Tryz.func97 rfl (by kernel_rfl)<|gS rfl rfl<|sU<|sN<|qS<|gS rfl rfl<|sV (r0)<|sN<|bE h fun o30 ho30 h => WC.block (WC.loop (WL.ofLoop ho30 (fun s R' B' => ghosts prog 0 (A R' B') (aM.at_ 97 0 2) = some (A [(0, .d (.lst (a0.map ar.pd))), (3, rI s)] [])) (fun o e R' B' => match o with | .inl y => e = .exit 0 ∧ ghosts prog 0 (A R' B') (aM.at_ 97 0 12) = some (A [] []) | .inr r => e = .ret ∧ finish prog (aM.own 97) Tryz.f97 0 (A R' B') = some (rB r, [])) rfl ?_ ?_))
 ·rintro s1 R' B' q2 hI h
  refine qS<|gS rfl hI<|sM rfl<|sM rfl<|sE (rI (a0.length : Int)) (lenMap _ _)<|sF h (fun h => ?_) fun h => ?_
  ·refine sN<|cT<|qK<|qS<|qB<|gS rfl rfl<|sM rfl<|sM rfl<|bE h fun x4 hx4 h => eG hx4 rfl<|sV (.cptr [.lst (x4.aa.aK.map ag.pd), .int .i64 x4.aa.ac.aA.fX, .int .i64 x4.aa.ac.aA.fY, .int .i64 x4.aa.ac.aA.fZ, .int .i64 x4.aa.ac.aF, .int .i64 x4.aa.ac.aO, .int .i64 x4.aa.ac.aV, .int .i64 x4.aa.ac.ap.aI.fX, .int .i64 x4.aa.ac.ap.aI.fY, .int .i64 x4.aa.ac.ap.aI.fZ, .int .i64 x4.aa.ac.ap.az.fX, .int .i64 x4.aa.ac.ap.az.fY, .int .i64 x4.aa.ac.ap.az.fZ, .int .i64 x4.aa.aq.aI, .int .i64 x4.aa.aq.az, .int .i64 x4.aa.aU])<|sV (.cptr [.lst (x4.aa.aK.map ag.pd), .int .i64 x4.aa.ac.aA.fX, .int .i64 x4.aa.ac.aA.fY, .int .i64 x4.aa.ac.aA.fZ, .int .i64 x4.aa.ac.aF, .int .i64 x4.aa.ac.aO, .int .i64 x4.aa.ac.aV, .int .i64 x4.aa.ac.ap.aI.fX, .int .i64 x4.aa.ac.ap.aI.fY, .int .i64 x4.aa.ac.ap.aI.fZ, .int .i64 x4.aa.ac.ap.az.fX, .int .i64 x4.aa.ac.ap.az.fY, .int .i64 x4.aa.ac.ap.az.fZ, .int .i64 x4.aa.aq.aI, .int .i64 x4.aa.aq.az, .int .i64 x4.aa.aU])<|sC rfl<|sA rfl<|sN ?_
   refine WC.join (α := Unit) (fun x R' B' => ghosts prog 0 (A R' B') (aM.at_ 97 0 7) = some (A [(0, .d (.lst (a0.map ar.pd))), (3, rI s1), (4, .d (.lst (x4.aa.aK.map ag.pd)))] [])) (fun x => em s1 a0 x4 = some q2) ?_ ?_
   ·refine WC.regionDSeq rfl rfl<|sM rfl<|sE (rI (x4.aa.aK.length : Int)) (lenMap _ _)<|sF h (fun h => ?_) fun h => ?_
    ·refine sM rfl<|k3<|k3<|sK<|sK<|sT<|sM rfl<|k3<|sK ?_
     refine sK<|sT<|sM rfl<|k3<|k3<|k3<|sK<|sK<|sK ?_
     refine k3<|sK<|sK<|sT ?_
     refine sN<|sO<|cT<|gS rfl rfl<|sU<|sN<|qR ?_
     cases oI h
     exact ⟨nofun, rfl, rfl⟩
    refine sM rfl<|sM rfl<|sM rfl<|bE h fun x18 hx18 h => eG hx18 rfl<|sV (.cptr [.str x18.ak.ah.aC, .str x18.ak.ah.aE, .str x18.ak.ah.ac, .str x18.ak.ah.aD, .int .i64 x18.ak.aF, .int .i64 x18.ak.aJ, .int .i64 x18.ak.aN, .int .i64 x18.ak.au, .int .i64 x18.ak.av, .lst (x18.aa.aK.map ag.pd), .int .i64 x18.aa.ac.aA.fX, .int .i64 x18.aa.ac.aA.fY, .int .i64 x18.aa.ac.aA.fZ, .int .i64 x18.aa.ac.aF, .int .i64 x18.aa.ac.aO, .int .i64 x18.aa.ac.aV, .int .i64 x18.aa.ac.ap.aI.fX, .int .i64 x18.aa.ac.ap.aI.fY, .int .i64 x18.aa.ac.ap.aI.fZ, .int .i64 x18.aa.ac.ap.az.fX, .int .i64 x18.aa.ac.ap.az.fY, .int .i64 x18.aa.ac.ap.az.fZ, .int .i64 x18.aa.aq.aI, .int .i64 x18.aa.aq.az, .int .i64 x18.aa.aU])<|sV (.d (ag.pd x18.ak))<|sM rfl<|bE h fun x19 hx19 h => cD (ref34_Name_ev hx19)<|WO.bin (eqN_25 x18.ak x19) rfl rfl rfl rfl rfl<|sF h (fun h => ?_) fun h => ?_
    ·refine sM rfl<|k3<|sK<|sK<|sT<|sM rfl<|k3<|k3<|sK ?_
     refine k3<|k3<|k3<|sK<|sT ?_
     refine sN<|sO<|cT<|gS rfl rfl<|sU<|sN<|qR ?_
     cases oI h
     exact ⟨nofun, rfl, rfl⟩
    refine sM rfl<|sM rfl<|sM rfl<|bE h fun x21 hx21 h => cD (ref23_Sort_ev hx21)<|bE h fun x22 hx22 h => cD (fo hx22)<|sV (rB (!x22))<|sF h (fun h => ?_) fun h => ?_
    ·refine sM rfl<|k3<|k3<|k3<|k3<|sK<|sK ?_
     refine k3<|sT ?_
     refine sN<|sO<|cT<|gS rfl rfl<|sU<|sN<|qR ?_
     cases oI h
     exact ⟨nofun, rfl, rfl⟩
    refine sM rfl<|sM rfl<|sF h (fun h => ?_) fun h => ?_
    ·refine sM rfl<|sM rfl<|sM rfl<|sV (rI (rW (s1 - (1 : Int))))<|bE h fun x25 hx25 h => eG hx25 rfl<|sV (.cptr [.str x25.ak.ah.aC, .str x25.ak.ah.aE, .str x25.ak.ah.ac, .str x25.ak.ah.aD, .int .i64 x25.ak.aF, .int .i64 x25.ak.aJ, .int .i64 x25.ak.aN, .int .i64 x25.ak.au, .int .i64 x25.ak.av, .lst (x25.aa.aK.map ag.pd), .int .i64 x25.aa.ac.aA.fX, .int .i64 x25.aa.ac.aA.fY, .int .i64 x25.aa.ac.aA.fZ, .int .i64 x25.aa.ac.aF, .int .i64 x25.aa.ac.aO, .int .i64 x25.aa.ac.aV, .int .i64 x25.aa.ac.ap.aI.fX, .int .i64 x25.aa.ac.ap.aI.fY, .int .i64 x25.aa.ac.ap.aI.fZ, .int .i64 x25.aa.ac.ap.az.fX, .int .i64 x25.aa.ac.ap.az.fY, .int .i64 x25.aa.ac.ap.az.fZ, .int .i64 x25.aa.aq.aI, .int .i64 x25.aa.aq.az, .int .i64 x25.aa.aU])<|sV (.d (ag.pd x25.ak))<|sM rfl<|sM rfl<|bE h fun x26 hx26 h => eG hx26 rfl<|sV (.cptr [.str x26.ak.ah.aC, .str x26.ak.ah.aE, .str x26.ak.ah.ac, .str x26.ak.ah.aD, .int .i64 x26.ak.aF, .int .i64 x26.ak.aJ, .int .i64 x26.ak.aN, .int .i64 x26.ak.au, .int .i64 x26.ak.av, .lst (x26.aa.aK.map ag.pd), .int .i64 x26.aa.ac.aA.fX, .int .i64 x26.aa.ac.aA.fY, .int .i64 x26.aa.ac.aA.fZ, .int .i64 x26.aa.ac.aF, .int .i64 x26.aa.ac.aO, .int .i64 x26.aa.ac.aV, .int .i64 x26.aa.ac.ap.aI.fX, .int .i64 x26.aa.ac.ap.aI.fY, .int .i64 x26.aa.ac.ap.aI.fZ, .int .i64 x26.aa.ac.ap.az.fX, .int .i64 x26.aa.ac.ap.az.fY, .int .i64 x26.aa.ac.ap.az.fZ, .int .i64 x26.aa.aq.aI, .int .i64 x26.aa.aq.az, .int .i64 x26.aa.aU])<|sV (.d (ag.pd x26.ak))<|bE h fun x27 hx27 h => ?_
     refine cD (jd hx27)<|sV (rB (decide (x27 ≥ (0 : Int))))<|sV (rB (decide (x27 ≥ (0 : Int))))<|sF h (fun h => ?_) fun h => ?_
     ·refine sN<|sO<|cT<|gS rfl rfl<|sU<|sN<|qR ?_
      cases oI h
      exact ⟨nofun, rfl, rfl⟩
     exact sN<|sO<|cF<|qK<|⟨(), rfl, h⟩
    refine sM rfl<|k3<|k3<|k3<|k3<|sK<|sU ?_
    refine sU ?_
    exact sN<|sO<|cF<|qK<|⟨(), rfl, h⟩
   rintro ⟨⟩ R' B' hI h
   refine gS rfl hI<|sV (r0)<|sN<|bE h fun o13 ho13 h => WC.block (WC.loop (WL.ofLoop ho13 (fun s R' B' => ghosts prog 0 (A R' B') (aM.at_ 97 0 8) = some (A [(0, .d (.lst (a0.map ar.pd))), (3, rI s1), (4, .d (.lst (x4.aa.aK.map ag.pd))), (5, rI s)] [])) (fun o e R' B' => match o with | .inl y => e = .exit 2 ∧ ghosts prog 0 (A R' B') (aM.at_ 97 0 3) = some (A [(0, .d (.lst (a0.map ar.pd))), (3, rI y)] []) | .inr r => e = .ret ∧ finish prog (aM.own 97) Tryz.f97 0 (A R' B') = some (rB r, [])) rfl ?_ ?_))
   ·rintro s5 R' B' q7 hI h
    refine qS<|gS rfl hI<|sM rfl<|sM rfl<|sF h (fun h => ?_) fun h => ?_
    ·refine sN<|cT<|qK<|qS<|qB<|gS rfl rfl<|sM rfl<|sM rfl<|sM rfl<|bE h fun x9 hx9 h => eG hx9 rfl<|sV (.cptr [.lst (x9.aa.aK.map ag.pd), .int .i64 x9.aa.ac.aA.fX, .int .i64 x9.aa.ac.aA.fY, .int .i64 x9.aa.ac.aA.fZ, .int .i64 x9.aa.ac.aF, .int .i64 x9.aa.ac.aO, .int .i64 x9.aa.ac.aV, .int .i64 x9.aa.ac.ap.aI.fX, .int .i64 x9.aa.ac.ap.aI.fY, .int .i64 x9.aa.ac.ap.aI.fZ, .int .i64 x9.aa.ac.ap.az.fX, .int .i64 x9.aa.ac.ap.az.fY, .int .i64 x9.aa.ac.ap.az.fZ, .int .i64 x9.aa.aq.aI, .int .i64 x9.aa.aq.az, .int .i64 x9.aa.aU])<|sV (.cptr [.lst (x9.aa.aK.map ag.pd), .int .i64 x9.aa.ac.aA.fX, .int .i64 x9.aa.ac.aA.fY, .int .i64 x9.aa.ac.aA.fZ, .int .i64 x9.aa.ac.aF, .int .i64 x9.aa.ac.aO, .int .i64 x9.aa.ac.aV, .int .i64 x9.aa.ac.ap.aI.fX, .int .i64 x9.aa.ac.ap.aI.fY, .int .i64 x9.aa.ac.ap.aI.fZ, .int .i64 x9.aa.ac.ap.az.fX, .int .i64 x9.aa.ac.ap.az.fY, .int .i64 x9.aa.ac.ap.az.fZ, .int .i64 x9.aa.aq.aI, .int .i64 x9.aa.aq.az, .int .i64 x9.aa.aU])<|sC rfl<|bE h fun x10 hx10 h => ?_
     refine ite_elim h (fun hb11 h => ?_) (fun hb11 h => ?_)
     ·refine WO.callR (v := rB true) (u := []) rfl rfl (fun _ => rfl) rfl rfl rfl rfl rfl (jK hx10) rfl rfl (congrArg (fun b => RV.d (.bool b)) hb11) rfl<|sN<|cT<|gS rfl rfl<|sU<|sN<|qR ?_
      cases oI h
      exact ⟨nofun, rfl, rfl⟩
     refine WO.callR (v := rB false) (u := []) rfl rfl (fun _ => rfl) rfl rfl rfl rfl rfl (jK hx10) rfl rfl (congrArg (fun b => RV.d (.bool b)) hb11) rfl<|sN<|cF<|qK<|WC.region rfl rfl<|sM rfl<|sV (rI (rW (s5 + (1 : Int))))<|sA rfl<|sN ?_
     cases oI h
     exact ⟨rfl, rfl⟩
    refine sN<|cF<|qX ?_
    cases oI h
    exact ⟨nofun, rfl, rfl⟩
   intro e R' B' he hq
   rcases o13 with y14 | r15
   ·obtain ⟨rfl, hI⟩ := hq
    refine qE<|WC.region hI rfl<|sM rfl<|sV (rI (rW (y14 + (1 : Int))))<|sA rfl<|sN ?_
    cases oI h
    exact ⟨rfl, rfl⟩
   obtain ⟨rfl, hf⟩ := hq
   cases oI h
   exact ⟨nofun, rfl, hf⟩
  refine sN<|cF<|qX ?_
  cases oI h
  exact ⟨nofun, rfl, rfl⟩
 intro e R' B' he hq
 rcases o30 with y31 | r32
 ·obtain ⟨rfl, hI⟩ := hq
  refine qE<|gS rfl hI<|sT<|sN<|qR ?_
  cases oI h
  exact qD
 obtain ⟨rfl, hf⟩ := hq
 cases oI h
 exact hf
theorem ref36_Errors_ev {a0 : aX} {a1 : (List aL)} {a2 : Int} {a3 : (List ar)} {a4 : Int} {r : Int} (h : hU a0 a1 a2 a3 a4 = some r) : EvP prog aM ext 60 [.d (aX.pd a0), .d (.lst (a1.map aL.pd)), rI a2, .d (.lst (a3.map ar.pd)), rI a4] [] (rI r, []) := by
 refine Ev.body rfl Tryz.func60 rfl (by kernel_rfl)<|gS rfl rfl<|sB (.ptr 80 0) 80 (.var [.d (.lst (a0.bN.map bj.pd)), rI a0.bO, rI a0.dP])<|sV (r0)<|sN<|qS<|gS rfl rfl<|sV (.d (aX.pd a0))<|bE h fun x1 hx1 h => cD (fU hx1)<|sF h (fun h => ?_) fun h => ?_
 ·refine sN<|cT<|gS rfl rfl<|sV (rI 27)<|sN<|qR ?_
  cases oI h
  exact qD
 refine sN<|cF<|qK<|WC.join (α := Unit) (fun x R' B' => ghosts prog 0 (A R' B') (aM.at_ 60 0 5) = some (A [(1, .d (.lst (a1.map aL.pd))), (4, rI a4)] [])) (fun x => d7 a4 a1 = some r) ?_ ?_
 ·refine gS rfl rfl<|sM rfl<|bE h fun x15 hx15 h => cD (ref36_Valid_ev hx15)<|sF h (fun h => ?_) fun h => ?_
  ·refine sM rfl<|k3<|sT<|sM rfl<|sK<|sK<|sT<|sM rfl<|k3<|sK<|sK ?_
   refine k3<|k3<|k3<|sT<|sN<|cT<|gS rfl rfl<|sV (rI 1)<|sN ?_
   refine qR ?_
   cases oI h
   exact qD
  refine sM rfl<|sM rfl<|bE h fun x17 hx17 h => cD (ref34_Valid_ev hx17)<|sV (rB (!x17))<|sF h (fun h => ?_) fun h => ?_
  ·refine sM rfl<|sK<|sK<|sT<|sM rfl<|k3<|k3<|k3<|sK ?_
   refine k3<|sK<|sT<|sN<|cT<|gS rfl rfl<|sV (rI 1)<|sN<|qR ?_
   cases oI h
   exact qD
  refine sM rfl<|sM rfl<|sV (rB (decide (a2 < (0 : Int))))<|sF h (fun h => ?_) fun h => ?_
  ·refine sM rfl<|k3<|k3<|k3<|k3<|sK<|sK ?_
   refine sT<|sN<|cT<|gS rfl rfl<|sV (rI 1)<|sN<|qR ?_
   cases oI h
   exact qD
  refine sM rfl<|sM rfl<|sE (rI (a1.length : Int)) (lenMap _ _)<|sF h (fun h => ?_) fun h => ?_
  ·refine sM rfl<|sM rfl<|sM rfl<|sM rfl<|sE (rI (a1.length : Int)) (lenMap _ _)<|sV (rI (rW ((a1.length : Int) - (1 : Int))))<|bE h fun x21 hx21 h => eG hx21 rfl<|sV (.cptr [.int .i64 x21.fID, .bool x21.br, .str x21.ak.ah.aC, .str x21.ak.ah.aE, .str x21.ak.ah.ac, .str x21.ak.ah.aD, .int .i64 x21.ak.aF, .int .i64 x21.ak.aJ, .int .i64 x21.ak.aN, .int .i64 x21.ak.au, .int .i64 x21.ak.av, .int .i64 x21.aW, .str x21.ae.ak.ah.aC, .str x21.ae.ak.ah.aE, .str x21.ae.ak.ah.ac, .str x21.ae.ak.ah.aD, .int .i64 x21.ae.ak.aF, .int .i64 x21.ae.ak.aJ, .int .i64 x21.ae.ak.aN, .int .i64 x21.ae.ak.au, .int .i64 x21.ae.ak.av, .lst (x21.ae.aa.aK.map ag.pd), .int .i64 x21.ae.aa.ac.aA.fX, .int .i64 x21.ae.aa.ac.aA.fY, .int .i64 x21.ae.aa.ac.aA.fZ, .int .i64 x21.ae.aa.ac.aF, .int .i64 x21.ae.aa.ac.aO, .int .i64 x21.ae.aa.ac.aV, .int .i64 x21.ae.aa.ac.ap.aI.fX, .int .i64 x21.ae.aa.ac.ap.aI.fY, .int .i64 x21.ae.aa.ac.ap.aI.fZ, .int .i64 x21.ae.aa.ac.ap.az.fX, .int .i64 x21.ae.aa.ac.ap.az.fY, .int .i64 x21.ae.aa.ac.ap.az.fZ, .int .i64 x21.ae.aa.aq.aI, .int .i64 x21.ae.aa.aq.az, .int .i64 x21.ae.aa.aU, .int .i64 x21.fAt])<|sC rfl<|sV (rB (decide (a2 ≤ x21.fID)))<|sV (rB (decide (a2 ≤ x21.fID)))<|sF h (fun h => ?_) fun h => ?_
   ·refine sN<|cT<|gS rfl rfl<|sV (rI 1)<|sN<|qR ?_
    cases oI h
    exact qD
   exact sN<|cF<|qK<|⟨(), rfl, h⟩
  refine sM rfl<|k3<|k3<|k3<|sU<|sU<|sN<|cF<|qK ?_
  exact ⟨(), rfl, h⟩
 rintro ⟨⟩ R' B' hI h
 refine qS<|gS rfl hI<|sM rfl<|sF h (fun h => ?_) fun h => ?_
 ·refine sM rfl<|sK<|sK<|sT<|sN<|cT<|gS rfl rfl<|sV (rI 2)<|sN<|qR ?_
  cases oI h
  exact qD
 refine sM rfl<|sM rfl<|sV (rB (decide (a4 > (18014398509481984 : Int))))<|sF h (fun h => ?_) fun h => ?_
 ·refine sN<|cT<|gS rfl rfl<|sV (rI 2)<|sN<|qR ?_
  cases oI h
  exact qD
 refine sN<|cF<|qK<|qS<|gS rfl rfl<|sV (r0)<|sN<|bE h fun o11 ho11 h => WC.block (WC.loop (WL.ofLoop ho11 (fun s R' B' => ghosts prog 0 (A R' B') (aM.at_ 60 0 8) = some (A [(1, .d (.lst (a1.map aL.pd))), (4, rI a4), (11, rI s)] [])) (fun o e R' B' => match o with | .inl y => e = .exit 0 ∧ ghosts prog 0 (A R' B') (aM.at_ 60 0 12) = some (A [] []) | .inr r => e = .ret ∧ finish prog (aM.own 60) Tryz.f60 0 (A R' B') = some (rI r, [])) rfl ?_ ?_))
 ·rintro s5 R' B' q6 hI h
  refine qS<|gS rfl hI<|sM rfl<|sM rfl<|sE (rI (a1.length : Int)) (lenMap _ _)<|sF h (fun h => ?_) fun h => ?_
  ·refine sN<|cT<|qK<|qS<|qB<|gS rfl rfl<|sM rfl<|sM rfl<|sM rfl<|bE h fun x8 hx8 h => eG hx8 rfl<|sV (.cptr [.int .i64 x8.fAt])<|sC rfl<|sF h (fun h => ?_) fun h => ?_
   ·refine sN<|cT<|gS rfl rfl<|sV (rI 9)<|sN<|qR ?_
    cases oI h
    exact ⟨nofun, rfl, rfl⟩
   refine sN<|cF<|qK<|WC.region rfl rfl<|sM rfl<|sV (rI (rW (s5 + (1 : Int))))<|sA rfl<|sN ?_
   cases oI h
   exact ⟨rfl, rfl⟩
  refine sN<|cF<|qX ?_
  cases oI h
  exact ⟨nofun, rfl, rfl⟩
 intro e R' B' he hq
 rcases o11 with y12 | r13
 ·obtain ⟨rfl, hI⟩ := hq
  refine qE<|gS rfl hI<|sV (r0)<|sN<|qR ?_
  cases oI h
  exact qD
 obtain ⟨rfl, hf⟩ := hq
 cases oI h
 exact hf
theorem ref34_Index_ev {a0 : (List ar)} {a1 : ag} {r : Int} (h : iI a0 a1 = some r) : EvP prog aM ext 98 [.d (.lst (a0.map ar.pd)), .d (ag.pd a1)] [] (rI r, []) := by
 refine Ev.body rfl Tryz.func98 rfl (by kernel_rfl)<|gS rfl rfl<|sB (.ptr 48 0) 48 (.var (ag.rc a1))<|sV (r0)<|sN<|qS<|gS rfl rfl<|sV (r0)<|sN<|bE h fun o7 ho7 h => WC.block (WC.loop (WL.ofLoop ho7 (fun s R' B' => ghosts prog 0 (A R' B') (aM.at_ 98 0 2) = some (A [(0, .d (.lst (a0.map ar.pd))), (3, .ptr 48 0), (5, rI s)] [(48, .var (ag.rc a1))])) (fun o e R' B' => match o with | .inl y => e = .exit 0 ∧ ghosts prog 0 (A R' B') (aM.at_ 98 0 6) = some (A [] []) | .inr r => e = .ret ∧ finish prog (aM.own 98) Tryz.f98 0 (A R' B') = some (rI r, [])) rfl ?_ ?_))
 ·rintro s1 R' B' q2 hI h
  refine qS<|gS rfl hI<|sM rfl<|sM rfl<|sE (rI (a0.length : Int)) (lenMap _ _)<|sF h (fun h => ?_) fun h => ?_
  ·refine sN<|cT<|qK<|qS<|qB<|WC.regionDSeq rfl rfl<|sM rfl<|sM rfl<|bE h fun x4 hx4 h => eG hx4 rfl<|sV (.cptr [.str x4.ak.ah.aC, .str x4.ak.ah.aE, .str x4.ak.ah.ac, .str x4.ak.ah.aD, .int .i64 x4.ak.aF, .int .i64 x4.ak.aJ, .int .i64 x4.ak.aN, .int .i64 x4.ak.au, .int .i64 x4.ak.av, .lst (x4.aa.aK.map ag.pd), .int .i64 x4.aa.ac.aA.fX, .int .i64 x4.aa.ac.aA.fY, .int .i64 x4.aa.ac.aA.fZ, .int .i64 x4.aa.ac.aF, .int .i64 x4.aa.ac.aO, .int .i64 x4.aa.ac.aV, .int .i64 x4.aa.ac.ap.aI.fX, .int .i64 x4.aa.ac.ap.aI.fY, .int .i64 x4.aa.ac.ap.aI.fZ, .int .i64 x4.aa.ac.ap.az.fX, .int .i64 x4.aa.ac.ap.az.fY, .int .i64 x4.aa.ac.ap.az.fZ, .int .i64 x4.aa.aq.aI, .int .i64 x4.aa.aq.az, .int .i64 x4.aa.aU])<|sV (.d (ag.pd x4.ak))<|sV (.d (ag.pd a1))<|ite_elim h (fun hb5 h => ?_) (fun hb5 h => ?_)
   ·refine WO.binS (iS x4.ak a1) hb5 rfl rfl rfl rfl rfl ?_
    refine sN<|sO<|cT<|gS rfl rfl<|sM rfl<|sA rfl<|sN<|qR ?_
    cases oI h
    exact ⟨nofun, rfl, rfl⟩
   refine WO.binS (iS x4.ak a1) hb5 rfl rfl rfl rfl rfl ?_
   refine sN<|sO<|cF<|qK<|WC.region rfl rfl<|sM rfl<|sV (rI (rW (s1 + (1 : Int))))<|sA rfl<|sN ?_
   cases oI h
   exact ⟨rfl, rfl⟩
  refine sN<|cF<|qX ?_
  cases oI h
  exact ⟨nofun, rfl, rfl⟩
 intro e R' B' he hq
 rcases o7 with y8 | r9
 ·obtain ⟨rfl, hI⟩ := hq
  refine qE<|gS rfl hI<|sV (rI (-1))<|sN<|qR ?_
  cases oI h
  exact qD
 obtain ⟨rfl, hf⟩ := hq
 cases oI h
 exact hf
theorem jw {a1 : Int} {d0 : (List Int)} {r : Bool × (List Int)} (h : jj a1 d0 = some r) : EvP prog aM ext 64 [.ref 0 0, rI a1] [.arr 0 3 (d0.map (PD.int .i64))] (rB r.1, [.arr 0 3 (r.2.map (PD.int .i64))]) := by
 refine Ev.body rfl Tryz.func64 rfl (by kernel_rfl)<|gS rfl rfl<|sU<|sN<|qS<|gS rfl rfl<|sV (r0)<|sN<|bE h fun o9 ho9 h => WC.block (WC.loop (WL.ofLoop ho9 (fun s R' B' => ghosts prog 1 (A R' B') (aM.at_ 64 1 2) = some (A [(0, .ref 0 0), (1, rI a1), (5, rI s)] [(0, .arr 0 3 (d0.map (PD.int .i64)))])) (fun o e R' B' => match o with | .inl y => e = .exit 0 ∧ ghosts prog 1 (A R' B') (aM.at_ 64 1 6) = some (A [] [(0, .arr 0 3 (d0.map (PD.int .i64)))]) | .inr r => e = .ret ∧ finish prog (aM.own 64) Tryz.f64 1 (A R' B') = some (rB r.1, [.arr 0 3 (r.2.map (PD.int .i64))])) rfl ?_ ?_))
 ·rintro s1 R' B' q2 hI h
  refine qS<|gS rfl hI<|sM rfl<|sM rfl<|WO.lenR rfl rfl rfl rfl rfl rfl rfl rfl rfl<|sF h (fun h => ?_) fun h => ?_
  ·refine sN<|cT<|qK<|qS<|qB<|gS rfl rfl<|sM rfl<|sM rfl<|bE h fun x5 hx5 h => WO.eltG hx5 rfl rfl rfl rfl rfl rfl rfl rfl<|bE h fun x6 hx6 h => WO.loadE hx6 rfl rfl rfl rfl rfl rfl<|sM rfl<|sF h (fun h => ?_) fun h => ?_
   ·refine sN<|cT<|gS rfl rfl<|sT<|sN<|qR ?_
    cases oI h
    exact ⟨nofun, rfl, rfl⟩
   refine sN<|cF<|qK<|WC.region rfl rfl<|sM rfl<|sV (rI (rW (s1 + (1 : Int))))<|sA rfl<|sN ?_
   cases oI h
   exact ⟨rfl, rfl⟩
  refine sN<|cF<|qX ?_
  cases oI h
  exact ⟨nofun, rfl, rfl⟩
 intro e R' B' he hq
 rcases o9 with y10 | r11
 ·obtain ⟨rfl, hI⟩ := hq
  refine qE<|gS rfl hI<|sU<|sN<|qR ?_
  cases oI h
  exact qD
 obtain ⟨rfl, hf⟩ := hq
 cases oI h
 exact hf
theorem ref36_common_ev {a0 : (List ag)} {a1 : (List ag)} {r : Bool} (h : jv a0 a1 = some r) : EvP prog aM ext 99 [.d (.lst (a0.map ag.pd)), .d (.lst (a1.map ag.pd))] [] (rB r, []) := by
 refine Ev.body rfl Tryz.func99 rfl (by kernel_rfl)<|gS rfl rfl<|sU<|sN<|qS<|gS rfl rfl<|sV (r0)<|sN<|bE h fun o16 ho16 h => WC.block (WC.loop (WL.ofLoop ho16 (fun s R' B' => ghosts prog 0 (A R' B') (aM.at_ 99 0 2) = some (A [(0, .d (.lst (a0.map ag.pd))), (1, .d (.lst (a1.map ag.pd))), (5, rI s)] [])) (fun o e R' B' => match o with | .inl y => e = .exit 0 ∧ ghosts prog 0 (A R' B') (aM.at_ 99 0 9) = some (A [] []) | .inr r => e = .ret ∧ finish prog (aM.own 99) Tryz.f99 0 (A R' B') = some (rB r, [])) rfl ?_ ?_))
 ·rintro s1 R' B' q2 hI h
  refine qS<|gS rfl hI<|sM rfl<|sM rfl<|sE (rI (a0.length : Int)) (lenMap _ _)<|sF h (fun h => ?_) fun h => ?_
  ·refine sN<|cT<|qK<|qS<|qB<|gS rfl rfl<|sV (r0)<|sN<|bE h fun o12 ho12 h => WC.block (WC.loop (WL.ofLoop ho12 (fun s R' B' => ghosts prog 0 (A R' B') (aM.at_ 99 0 5) = some (A [(0, .d (.lst (a0.map ag.pd))), (1, .d (.lst (a1.map ag.pd))), (5, rI s1), (6, rI s)] [])) (fun o e R' B' => match o with | .inl y => e = .exit 2 ∧ ghosts prog 0 (A R' B') (aM.at_ 99 0 3) = some (A [(0, .d (.lst (a0.map ag.pd))), (1, .d (.lst (a1.map ag.pd))), (5, rI y)] []) | .inr r => e = .ret ∧ finish prog (aM.own 99) Tryz.f99 0 (A R' B') = some (rB r, [])) rfl ?_ ?_))
   ·rintro s4 R' B' q6 hI h
    refine qS<|gS rfl hI<|sM rfl<|sM rfl<|sE (rI (a1.length : Int)) (lenMap _ _)<|sF h (fun h => ?_) fun h => ?_
    ·refine sN<|cT<|qK<|qS<|qB<|WC.regionDSeq rfl rfl<|sM rfl<|sM rfl<|bE h fun x8 hx8 h => eG hx8 rfl<|sV (.d (ag.pd x8))<|sM rfl<|sM rfl<|bE h fun x9 hx9 h => eG hx9 rfl ?_
     refine sV (.d (ag.pd x9))<|ite_elim h (fun hb10 h => ?_) (fun hb10 h => ?_)
     ·refine WO.binS (iS x8 x9) hb10 rfl rfl rfl rfl rfl ?_
      refine sN<|sO<|cT<|gS rfl rfl<|sT<|sN<|qR ?_
      cases oI h
      exact ⟨nofun, rfl, rfl⟩
     refine WO.binS (iS x8 x9) hb10 rfl rfl rfl rfl rfl ?_
     refine sN<|sO<|cF<|qK<|WC.region rfl rfl<|sM rfl<|sV (rI (rW (s4 + (1 : Int))))<|sA rfl<|sN ?_
     cases oI h
     exact ⟨rfl, rfl⟩
    refine sN<|cF<|qX ?_
    cases oI h
    exact ⟨nofun, rfl, rfl⟩
   intro e R' B' he hq
   rcases o12 with y13 | r14
   ·obtain ⟨rfl, hI⟩ := hq
    refine qE<|WC.region hI rfl<|sM rfl<|sV (rI (rW (y13 + (1 : Int))))<|sA rfl<|sN ?_
    cases oI h
    exact ⟨rfl, rfl⟩
   obtain ⟨rfl, hf⟩ := hq
   cases oI h
   exact ⟨nofun, rfl, hf⟩
  refine sN<|cF<|qX ?_
  cases oI h
  exact ⟨nofun, rfl, rfl⟩
 intro e R' B' he hq
 rcases o16 with y17 | r18
 ·obtain ⟨rfl, hI⟩ := hq
  refine qE<|gS rfl hI<|sU<|sN<|qR ?_
  cases oI h
  exact qD
 obtain ⟨rfl, hf⟩ := hq
 cases oI h
 exact hf
theorem ref36_Follow_ev {a0 : (List aL)} {a1 : (List ar)} {r : (List Int)} (h : hX a0 a1 = some r) : EvP prog aM ext 61 [.d (.lst (a0.map aL.pd)), .d (.lst (a1.map ar.pd))] [] (.d (.lst (r.map (PD.int .i64))), []) := by
 refine Ev.body rfl Tryz.func61 rfl (by kernel_rfl)<|gS rfl rfl<|sV .nils<|sN<|gS rfl rfl<|sV .nils<|sN<|qS<|gS rfl rfl<|sV (r0)<|sN<|bE h fun o17 ho17 h => WC.block (WC.loop (WL.ofLoop ho17 (fun s R' B' => ghosts prog 0 (A R' B') (aM.at_ 61 0 3) = some (A [(0, .d (.lst (a0.map aL.pd))), (1, .d (.lst (a1.map ar.pd))), (5, .ref 560 0), (6, rI s.1)] [(560, .arr 0 3 (s.2.map (PD.int .i64)))])) (fun o e R' B' => e = .exit 0 ∧ ghosts prog 0 (A R' B') (aM.at_ 61 0 11) = some (A [(0, .d (.lst (a0.map aL.pd))), (1, .d (.lst (a1.map ar.pd))), (5, .ref 560 0)] [(560, .arr 0 3 (o.map (PD.int .i64)))])) rfl ?_ ?_))
 ·rintro ⟨s1, s2⟩ R' B' q4 hI h
  refine qS<|gS rfl hI<|sM rfl<|sM rfl<|sE (rI (a0.length : Int)) (lenMap _ _)<|sF h (fun h => ?_) fun h => ?_
  ·refine sN<|cT<|qK<|qS<|qB<|gS rfl rfl<|sV (rI (-1))<|sN<|WC.join (α := Int) (fun x R' B' => ghosts prog 0 (A R' B') (aM.at_ 61 0 8) = some (A [(0, .d (.lst (a0.map aL.pd))), (1, .d (.lst (a1.map ar.pd))), (5, .ref 560 0), (6, rI s1), (7, rI x)] [(560, .arr 0 3 (s2.map (PD.int .i64)))])) (fun x => d8 s2 s1 x = some q4) ?_ ?_
   ·refine gS rfl rfl<|sM rfl<|sM rfl<|bE h fun x12 hx12 h => eG hx12 rfl<|sV (.cptr [.bool x12.br, .str x12.ak.ah.aC, .str x12.ak.ah.aE, .str x12.ak.ah.ac, .str x12.ak.ah.aD, .int .i64 x12.ak.aF, .int .i64 x12.ak.aJ, .int .i64 x12.ak.aN, .int .i64 x12.ak.au, .int .i64 x12.ak.av, .int .i64 x12.aW, .str x12.ae.ak.ah.aC, .str x12.ae.ak.ah.aE, .str x12.ae.ak.ah.ac, .str x12.ae.ak.ah.aD, .int .i64 x12.ae.ak.aF, .int .i64 x12.ae.ak.aJ, .int .i64 x12.ae.ak.aN, .int .i64 x12.ae.ak.au, .int .i64 x12.ae.ak.av, .lst (x12.ae.aa.aK.map ag.pd), .int .i64 x12.ae.aa.ac.aA.fX, .int .i64 x12.ae.aa.ac.aA.fY, .int .i64 x12.ae.aa.ac.aA.fZ, .int .i64 x12.ae.aa.ac.aF, .int .i64 x12.ae.aa.ac.aO, .int .i64 x12.ae.aa.ac.aV, .int .i64 x12.ae.aa.ac.ap.aI.fX, .int .i64 x12.ae.aa.ac.ap.aI.fY, .int .i64 x12.ae.aa.ac.ap.aI.fZ, .int .i64 x12.ae.aa.ac.ap.az.fX, .int .i64 x12.ae.aa.ac.ap.az.fY, .int .i64 x12.ae.aa.ac.ap.az.fZ, .int .i64 x12.ae.aa.aq.aI, .int .i64 x12.ae.aa.aq.az, .int .i64 x12.ae.aa.aU, .int .i64 x12.fAt])<|sC rfl<|sF h (fun h => ?_) fun h => ?_
    ·exact sN<|cT<|WC.region rfl rfl<|sM rfl<|sM rfl<|sM rfl<|bE h fun x14 hx14 h => eG hx14 rfl<|sV (.cptr [.str x14.ak.ah.aC, .str x14.ak.ah.aE, .str x14.ak.ah.ac, .str x14.ak.ah.aD, .int .i64 x14.ak.aF, .int .i64 x14.ak.aJ, .int .i64 x14.ak.aN, .int .i64 x14.ak.au, .int .i64 x14.ak.av, .int .i64 x14.aW, .str x14.ae.ak.ah.aC, .str x14.ae.ak.ah.aE, .str x14.ae.ak.ah.ac, .str x14.ae.ak.ah.aD, .int .i64 x14.ae.ak.aF, .int .i64 x14.ae.ak.aJ, .int .i64 x14.ae.ak.aN, .int .i64 x14.ae.ak.au, .int .i64 x14.ae.ak.av, .lst (x14.ae.aa.aK.map ag.pd), .int .i64 x14.ae.aa.ac.aA.fX, .int .i64 x14.ae.aa.ac.aA.fY, .int .i64 x14.ae.aa.ac.aA.fZ, .int .i64 x14.ae.aa.ac.aF, .int .i64 x14.ae.aa.ac.aO, .int .i64 x14.ae.aa.ac.aV, .int .i64 x14.ae.aa.ac.ap.aI.fX, .int .i64 x14.ae.aa.ac.ap.aI.fY, .int .i64 x14.ae.aa.ac.ap.aI.fZ, .int .i64 x14.ae.aa.ac.ap.az.fX, .int .i64 x14.ae.aa.ac.ap.az.fY, .int .i64 x14.ae.aa.ac.ap.az.fZ, .int .i64 x14.ae.aa.aq.aI, .int .i64 x14.ae.aa.aq.az, .int .i64 x14.ae.aa.aU, .int .i64 x14.fAt])<|sV (.d (ag.pd x14.ak))<|bE h fun x15 hx15 h => cD (ref34_Index_ev hx15)<|sA rfl<|sN<|⟨x15, rfl, h⟩
    exact sN<|cF<|qK<|⟨-1, rfl, h⟩
   rintro j6 R' B' hI h
   refine qS<|gS rfl hI<|sM rfl<|sM rfl<|bE h fun x7 hx7 h => ite_elim h (fun hb8 h => ?_) (fun hb8 h => ?_)
   ·refine WO.callR (v := rB true) (u := [(560, .arr 0 3 (x7.2.map (PD.int .i64)))]) rfl rfl (fun _ => rfl) rfl rfl rfl rfl rfl (jw hx7) rfl rfl (congrArg (fun b => RV.d (.bool b)) hb8) rfl<|sN<|cT<|WC.region rfl rfl<|sV (rI (-1))<|sN<|WC.region rfl rfl<|sM rfl<|sM rfl<|sV (.d (.lst ([-1].map (PD.int .i64))))<|bE h fun x9 hx9 h => aR hx9 (fun _ => rfl) rfl<|sA rfl<|sN<|WC.region rfl rfl ?_
    refine sM rfl<|sV (rI (rW (s1 + (1 : Int))))<|sA rfl<|sN ?_
    cases oI h
    exact ⟨rfl, rfl⟩
   refine WO.callR (v := rB false) (u := [(560, .arr 0 3 (x7.2.map (PD.int .i64)))]) rfl rfl (fun _ => rfl) rfl rfl rfl rfl rfl (jw hx7) rfl rfl (congrArg (fun b => RV.d (.bool b)) hb8) rfl<|sN<|cF<|qK<|WC.region rfl rfl<|sM rfl<|sM rfl<|sV (.d (.lst ([j6].map (PD.int .i64))))<|bE h fun x10 hx10 h => aR hx10 (fun _ => rfl) rfl<|sA rfl<|sN<|WC.region rfl rfl<|sM rfl<|sV (rI (rW (s1 + (1 : Int)))) ?_
   refine sA rfl<|sN ?_
   cases oI h
   exact ⟨rfl, rfl⟩
  refine sN<|cF<|qX ?_
  cases oI h
  exact ⟨nofun, rfl, rfl⟩
 intro e R' B' he hq
 obtain ⟨rfl, hI⟩ := hq
 refine qE<|qS<|gS rfl hI<|sV (r0)<|sN<|bE h fun o47 ho47 h => WC.block (WC.loop (WL.ofLoop ho47 (fun s R' B' => ghosts prog 0 (A R' B') (aM.at_ 61 0 12) = some (A [(0, .d (.lst (a0.map aL.pd))), (1, .d (.lst (a1.map ar.pd))), (5, .ref 560 0), (8, rI s.1)] [(560, .arr 0 3 (s.2.map (PD.int .i64)))])) (fun o e R' B' => e = .exit 2 ∧ ghosts prog 0 (A R' B') (aM.at_ 61 0 19) = some (A [(5, .ref 560 0)] [(560, .arr 0 3 (o.map (PD.int .i64)))])) rfl ?_ ?_))
 ·rintro ⟨s18, s19⟩ R' B' q21 hI h
  refine qS<|gS rfl hI<|sM rfl<|sM rfl<|sE (rI (a0.length : Int)) (lenMap _ _)<|sF h (fun h => ?_) fun h => ?_
  ·refine sN<|cT<|qK<|qS<|qB<|gS rfl rfl<|sV (r0)<|sN<|bE h fun o45 ho45 h => WC.block (WC.loop (WL.ofLoop ho45 (fun s R' B' => ghosts prog 0 (A R' B') (aM.at_ 61 0 15) = some (A [(0, .d (.lst (a0.map aL.pd))), (1, .d (.lst (a1.map ar.pd))), (5, .ref 560 0), (8, rI s18), (9, rI s.1)] [(560, .arr 0 3 (s.2.map (PD.int .i64)))])) (fun o e R' B' => e = .exit 4 ∧ ghosts prog 0 (A R' B') (aM.at_ 61 0 13) = some (A [(0, .d (.lst (a0.map aL.pd))), (1, .d (.lst (a1.map ar.pd))), (5, .ref 560 0), (8, rI o.1)] [(560, .arr 0 3 (o.2.map (PD.int .i64)))])) rfl ?_ ?_))
   ·rintro ⟨s23, s24⟩ R' B' q27 hI h
    refine qS<|gS rfl hI<|sM rfl<|sM rfl<|sE (rI (a1.length : Int)) (lenMap _ _)<|sF h (fun h => ?_) fun h => ?_
    ·refine sM rfl<|sM rfl<|sM rfl<|bE h fun x30 hx30 h => WO.eltG hx30 rfl rfl rfl rfl rfl rfl rfl rfl<|bE h fun x31 hx31 h => WO.loadE hx31 rfl rfl rfl rfl rfl rfl<|sV (rB (decide (x31 < (0 : Int))))<|sF h (fun h => ?_) fun h => ?_
     ·refine sM rfl<|sM rfl<|sM rfl<|bE h fun x33 hx33 h => eG hx33 rfl<|sV (.cptr [.bool x33.br, .str x33.ak.ah.aC, .str x33.ak.ah.aE, .str x33.ak.ah.ac, .str x33.ak.ah.aD, .int .i64 x33.ak.aF, .int .i64 x33.ak.aJ, .int .i64 x33.ak.aN, .int .i64 x33.ak.au, .int .i64 x33.ak.av, .int .i64 x33.aW, .str x33.ae.ak.ah.aC, .str x33.ae.ak.ah.aE, .str x33.ae.ak.ah.ac, .str x33.ae.ak.ah.aD, .int .i64 x33.ae.ak.aF, .int .i64 x33.ae.ak.aJ, .int .i64 x33.ae.ak.aN, .int .i64 x33.ae.ak.au, .int .i64 x33.ae.ak.av, .lst (x33.ae.aa.aK.map ag.pd), .int .i64 x33.ae.aa.ac.aA.fX, .int .i64 x33.ae.aa.ac.aA.fY, .int .i64 x33.ae.aa.ac.aA.fZ, .int .i64 x33.ae.aa.ac.aF, .int .i64 x33.ae.aa.ac.aO, .int .i64 x33.ae.aa.ac.aV, .int .i64 x33.ae.aa.ac.ap.aI.fX, .int .i64 x33.ae.aa.ac.ap.aI.fY, .int .i64 x33.ae.aa.ac.ap.aI.fZ, .int .i64 x33.ae.aa.ac.ap.az.fX, .int .i64 x33.ae.aa.ac.ap.az.fY, .int .i64 x33.ae.aa.ac.ap.az.fZ, .int .i64 x33.ae.aa.aq.aI, .int .i64 x33.ae.aa.aq.az, .int .i64 x33.ae.aa.aU, .int .i64 x33.fAt])<|sC rfl<|sV (rB (!x33.br))<|sF h (fun h => ?_) fun h => ?_
      ·refine sN<|cT<|qK<|qS<|qB<|WC.regionDSeq rfl rfl<|sM rfl<|sM rfl<|bE h fun x35 hx35 h => cR (rB x35.1) [(560, .arr 0 3 (x35.2.map (PD.int .i64)))] (jw hx35)<|sF h (fun h => ?_) fun h => ?_
       ·refine sM rfl<|sM rfl<|sM rfl<|bE h fun x37 hx37 h => eG hx37 rfl<|sV (.cptr [.str x37.ae.ak.ah.aC, .str x37.ae.ak.ah.aE, .str x37.ae.ak.ah.ac, .str x37.ae.ak.ah.aD, .int .i64 x37.ae.ak.aF, .int .i64 x37.ae.ak.aJ, .int .i64 x37.ae.ak.aN, .int .i64 x37.ae.ak.au, .int .i64 x37.ae.ak.av, .lst (x37.ae.aa.aK.map ag.pd), .int .i64 x37.ae.aa.ac.aA.fX, .int .i64 x37.ae.aa.ac.aA.fY, .int .i64 x37.ae.aa.ac.aA.fZ, .int .i64 x37.ae.aa.ac.aF, .int .i64 x37.ae.aa.ac.aO, .int .i64 x37.ae.aa.ac.aV, .int .i64 x37.ae.aa.ac.ap.aI.fX, .int .i64 x37.ae.aa.ac.ap.aI.fY, .int .i64 x37.ae.aa.ac.ap.aI.fZ, .int .i64 x37.ae.aa.ac.ap.az.fX, .int .i64 x37.ae.aa.ac.ap.az.fY, .int .i64 x37.ae.aa.ac.ap.az.fZ, .int .i64 x37.ae.aa.aq.aI, .int .i64 x37.ae.aa.aq.az, .int .i64 x37.ae.aa.aU, .int .i64 x37.fAt])<|sV (.cptr [.lst (x37.ae.aa.aK.map ag.pd), .int .i64 x37.ae.aa.ac.aA.fX, .int .i64 x37.ae.aa.ac.aA.fY, .int .i64 x37.ae.aa.ac.aA.fZ, .int .i64 x37.ae.aa.ac.aF, .int .i64 x37.ae.aa.ac.aO, .int .i64 x37.ae.aa.ac.aV, .int .i64 x37.ae.aa.ac.ap.aI.fX, .int .i64 x37.ae.aa.ac.ap.aI.fY, .int .i64 x37.ae.aa.ac.ap.aI.fZ, .int .i64 x37.ae.aa.ac.ap.az.fX, .int .i64 x37.ae.aa.ac.ap.az.fY, .int .i64 x37.ae.aa.ac.ap.az.fZ, .int .i64 x37.ae.aa.aq.aI, .int .i64 x37.ae.aa.aq.az, .int .i64 x37.ae.aa.aU, .int .i64 x37.fAt])<|sV (.cptr [.lst (x37.ae.aa.aK.map ag.pd), .int .i64 x37.ae.aa.ac.aA.fX, .int .i64 x37.ae.aa.ac.aA.fY, .int .i64 x37.ae.aa.ac.aA.fZ, .int .i64 x37.ae.aa.ac.aF, .int .i64 x37.ae.aa.ac.aO, .int .i64 x37.ae.aa.ac.aV, .int .i64 x37.ae.aa.ac.ap.aI.fX, .int .i64 x37.ae.aa.ac.ap.aI.fY, .int .i64 x37.ae.aa.ac.ap.aI.fZ, .int .i64 x37.ae.aa.ac.ap.az.fX, .int .i64 x37.ae.aa.ac.ap.az.fY, .int .i64 x37.ae.aa.ac.ap.az.fZ, .int .i64 x37.ae.aa.aq.aI, .int .i64 x37.ae.aa.aq.az, .int .i64 x37.ae.aa.aU, .int .i64 x37.fAt])<|sC rfl<|sM rfl<|sM rfl<|bE h fun x38 hx38 h => eG hx38 rfl<|sV (.cptr [.lst (x38.aa.aK.map ag.pd), .int .i64 x38.aa.ac.aA.fX, .int .i64 x38.aa.ac.aA.fY, .int .i64 x38.aa.ac.aA.fZ, .int .i64 x38.aa.ac.aF, .int .i64 x38.aa.ac.aO, .int .i64 x38.aa.ac.aV, .int .i64 x38.aa.ac.ap.aI.fX, .int .i64 x38.aa.ac.ap.aI.fY, .int .i64 x38.aa.ac.ap.aI.fZ, .int .i64 x38.aa.ac.ap.az.fX, .int .i64 x38.aa.ac.ap.az.fY, .int .i64 x38.aa.ac.ap.az.fZ, .int .i64 x38.aa.aq.aI, .int .i64 x38.aa.aq.az, .int .i64 x38.aa.aU])<|sV (.cptr [.lst (x38.aa.aK.map ag.pd), .int .i64 x38.aa.ac.aA.fX, .int .i64 x38.aa.ac.aA.fY, .int .i64 x38.aa.ac.aA.fZ, .int .i64 x38.aa.ac.aF, .int .i64 x38.aa.ac.aO, .int .i64 x38.aa.ac.aV, .int .i64 x38.aa.ac.ap.aI.fX, .int .i64 x38.aa.ac.ap.aI.fY, .int .i64 x38.aa.ac.ap.aI.fZ, .int .i64 x38.aa.ac.ap.az.fX, .int .i64 x38.aa.ac.ap.az.fY, .int .i64 x38.aa.ac.ap.az.fZ, .int .i64 x38.aa.aq.aI, .int .i64 x38.aa.aq.az, .int .i64 x38.aa.aU]) ?_
        refine sC rfl<|bE h fun x39 hx39 h => cD (ref36_common_ev hx39)<|sF h (fun h => ?_) fun h => ?_
        ·refine sN<|sO<|cT<|WC.region rfl rfl<|sM rfl<|sM rfl<|sM rfl<|bE h fun x42 hx42 h => WO.eltG hx42 rfl rfl rfl rfl rfl rfl rfl rfl<|bE h fun x43 hx43 h => WO.storeE (g := (PD.int .i64)) (sz := 1) (p := .int .i64 s23) hx43 (fun _ => rfl) (fun _ => rfl) rfl rfl rfl rfl rfl rfl rfl rfl rfl<|sN<|WC.region rfl rfl<|sM rfl<|sV (rI (rW (s23 + (1 : Int))))<|sA rfl ?_
         refine sN ?_
         cases oI h
         exact ⟨rfl, rfl⟩
        refine sN<|sO<|cF<|qK<|WC.region rfl rfl<|sM rfl<|sV (rI (rW (s23 + (1 : Int))))<|sA rfl<|sN ?_
        cases oI h
        exact ⟨rfl, rfl⟩
       refine sM rfl<|k3<|k3<|k3<|k3<|sK<|sK ?_
       refine sU ?_
       refine sN<|sO<|cF<|qK<|WC.region rfl rfl<|sM rfl<|sV (rI (rW (s23 + (1 : Int))))<|sA rfl<|sN ?_
       cases oI h
       exact ⟨rfl, rfl⟩
      refine sN<|cF<|qX ?_
      cases oI h
      exact ⟨nofun, rfl, rfl⟩
     refine sM rfl<|k3<|k3<|sU<|sN<|cF<|qX ?_
     cases oI h
     exact ⟨nofun, rfl, rfl⟩
    refine sM rfl<|k3<|sK<|sK<|sU<|sM rfl<|k3<|k3<|sU ?_
    refine sN<|cF<|qX ?_
    cases oI h
    exact ⟨nofun, rfl, rfl⟩
   intro e R' B' he hq
   obtain ⟨rfl, hI⟩ := hq
   refine qE<|WC.region hI rfl<|sM rfl<|sV (rI (rW (o45.1 + (1 : Int))))<|sA rfl<|sN ?_
   cases oI h
   exact ⟨rfl, rfl⟩
  refine sN<|cF<|qX ?_
  cases oI h
  exact ⟨nofun, rfl, rfl⟩
 intro e R' B' he hq
 obtain ⟨rfl, hI⟩ := hq
 refine qE<|gS rfl hI<|sM rfl<|sA rfl<|sN<|qR ?_
 cases oI h
 exact qD
theorem kk {a0 : bj} {a1 : ar} {r : Bool} (h : iK a0 a1 = some r) : EvP prog aM ext 100 [.d (bj.pd a0), .d (ar.pd a1)] [] (rB r, []) := by
 refine Ev.body rfl Tryz.func100 rfl (by kernel_rfl)<|gS rfl rfl<|sB (.ptr 32 0) 32 (.var [rI a0.aq, rI a0.aK, rI a0.aO, rI a0.iC])<|sB (.ptr 48 0) 48 (.var (ar.rc a1))<|sU<|sN<|gS rfl rfl<|sV (.ptr 48 9)<|sV (.d (aw.pd a1.aa))<|sB (.ptr 80 0) 80 (.var zZ2)<|sH 80 (.var (aw.rc a1.aa))<|sN<|gS rfl rfl<|sV (.ptr 80 15)<|sL rfl ?_
 refine sF h (fun h => ?_) fun h => ?_
 ·refine sM rfl<|sV (.ptr 80 13)<|sV (.ptr 80 13)<|sL rfl<|sV (.ptr 32 0)<|sL rfl<|sV (rB (decide (a1.aa.aq.aI ≥ a0.aq)))<|sF h (fun h => ?_) fun h => ?_
  ·refine sM rfl<|sV (.ptr 80 0)<|sL rfl<|sE (rI (a1.aa.aK.length : Int)) (lenMap _ _)<|sV (.ptr 32 1)<|sL rfl<|sV (rB (decide ((a1.aa.aK.length : Int) ≥ a0.aK)))<|sF h (fun h => ?_) fun h => ?_
   ·refine sM rfl<|sV (.ptr 80 1)<|sV (.ptr 80 5)<|sL rfl<|sV (.ptr 32 2)<|sL rfl<|sV (rB (decide (a1.aa.ac.aO ≤ a0.aO)))<|sV (rB (decide (a1.aa.ac.aO ≤ a0.aO)))<|sA rfl<|sN<|qR ?_
    cases oI h
    exact qG
   refine sM rfl<|k3<|k3<|sU<|sA rfl<|sN<|qR ?_
   cases oI h
   exact qG
  refine sM rfl<|k3<|k3<|sU<|sM rfl<|k3<|sK<|sK<|sK ?_
  refine sU<|sA rfl<|sN<|qR ?_
  cases oI h
  exact qG
 refine sM rfl<|k3<|k3<|sU<|sM rfl<|k3<|sK<|sK<|sK ?_
 refine sU<|sM rfl<|k3<|k3<|sU<|sA rfl<|sN<|qR ?_
 cases oI h
 exact qG
theorem dY {a0 : aX} {a1 : ar} {r : Int} (h : dL a0 a1 = some r) : EvP prog aM ext 62 [.d (aX.pd a0), .d (ar.pd a1)] [] (rI r, []) := by
 refine Ev.body rfl Tryz.func62 rfl (by kernel_rfl)<|gS rfl rfl<|sB (.ptr 32 0) 32 (.var [.d (.lst (a0.bN.map bj.pd)), rI a0.bO, rI a0.dP])<|sB (.ptr 48 0) 48 (.var (ar.rc a1))<|sV (r0)<|sN<|gS rfl rfl<|sV (r0)<|sN<|qS<|gS rfl rfl<|sV (r0)<|sN<|bE h fun o12 ho12 h => WC.block (WC.loop (WL.ofLoop ho12 (fun s R' B' => ghosts prog 0 (A R' B') (aM.at_ 62 0 3) = some (A [(2, .ptr 32 0), (3, .ptr 48 0), (5, rI s.1), (6, rI s.2)] [(32, .var [.d (.lst (a0.bN.map bj.pd)), rI a0.bO, rI a0.dP]), (48, .var (ar.rc a1))])) (fun o e R' B' => e = .exit 0 ∧ ghosts prog 0 (A R' B') (aM.at_ 62 0 7) = some (A [(5, rI o)] [])) rfl ?_ ?_))
 ·rintro ⟨s1, s2⟩ R' B' q4 hI h
  refine qS<|gS rfl hI<|sM rfl<|sV (.ptr 32 0)<|sL rfl<|sE (rI (a0.bN.length : Int)) (lenMap _ _)<|sF h (fun h => ?_) fun h => ?_
  ·refine sM rfl<|sV (.d (aX.pd a0))<|bE h fun x6 hx6 h => cD (fU hx6)<|sV (rB (x6 == (0 : Int)))<|sF h (fun h => ?_) fun h => ?_
   ·refine sN<|cT<|qK<|qS<|qB<|WC.regionDSeq rfl rfl<|sV (.ptr 32 0)<|sL rfl<|sM rfl<|bE h fun x8 hx8 h => eG hx8 rfl<|sV (.d (bj.pd x8))<|sV (.d (ar.pd a1))<|bE h fun x9 hx9 h => ite_elim h (fun hb10 h => ?_) (fun hb10 h => ?_)
    ·refine WO.callR (v := rB true) (u := []) rfl rfl (fun _ => rfl) rfl rfl rfl rfl rfl (kk hx9) rfl rfl (congrArg (fun b => RV.d (.bool b)) hb10) rfl ?_
     refine sN<|sO<|cT<|WC.region rfl rfl<|sM rfl<|sV (rI (rW (s2 + (1 : Int))))<|sA rfl<|sN<|WC.region rfl rfl<|sM rfl<|sV (rI (rW (s2 + (1 : Int))))<|sA rfl<|sN ?_
     cases oI h
     exact ⟨rfl, rfl⟩
    refine WO.callR (v := rB false) (u := []) rfl rfl (fun _ => rfl) rfl rfl rfl rfl rfl (kk hx9) rfl rfl (congrArg (fun b => RV.d (.bool b)) hb10) rfl ?_
    refine sN<|sO<|cF<|qK<|WC.region rfl rfl<|sM rfl<|sV (rI (rW (s2 + (1 : Int))))<|sA rfl<|sN ?_
    cases oI h
    exact ⟨rfl, rfl⟩
   refine sN<|cF<|qX ?_
   cases oI h
   exact ⟨nofun, rfl, rfl⟩
  refine sM rfl<|k3<|sU<|sN<|cF<|qX ?_
  cases oI h
  exact ⟨nofun, rfl, rfl⟩
 intro e R' B' he hq
 obtain ⟨rfl, hI⟩ := hq
 refine qE<|gS rfl hI<|sM rfl<|sA rfl<|sN<|qR ?_
 cases oI h
 exact qD
theorem ref32_Agree_ev {a0 : aG} {a1 : aG} {r : Bool} (h : kf a0 a1 = some r) : EvP prog aM ext 101 [.d (aG.pd a0), .d (aG.pd a1)] [] (rB r, []) := by
 refine Ev.body rfl Tryz.func101 rfl (by kernel_rfl)<|gS rfl rfl<|sB (.ptr 32 0) 32 (.var [rI a0.aI, rI a0.az])<|sB (.ptr 48 0) 48 (.var [rI a1.aI, rI a1.az])<|sU<|sN<|gS rfl rfl<|sV (.ptr 32 0)<|sL rfl<|sV (.ptr 48 0)<|sL rfl<|sV (rI (if a1.aI > a0.aI then a1.aI else a0.aI))<|sV (.ptr 32 1)<|sL rfl<|sV (.ptr 48 1) ?_
 refine sL rfl<|sV (rI (if a1.az < a0.az then a1.az else a0.az))<|sV (rB (decide ((if a1.aI > a0.aI then a1.aI else a0.aI) ≤ (if a1.az < a0.az then a1.az else a0.az))))<|sA rfl<|sN<|qR ?_
 cases oI h
 exact qD
theorem ke {a0 : aj} {r : Bool} (h : gF a0 = some r) : EvP prog aM ext 135 [.d (aj.pd a0)] [] (rB r, []) := by
 refine Ev.body rfl Tryz.func135 rfl (by kernel_rfl)<|gS rfl rfl<|sB (.ptr 16 0) 16 (.var [rI a0.fX, rI a0.fY, rI a0.fZ])<|sU<|sN<|gS rfl rfl<|sV (.ptr 16 0)<|sL rfl<|sF h (fun h => ?_) fun h => ?_
 ·refine sM rfl<|sV (.ptr 16 0)<|sL rfl<|sV (rB (decide (a0.fX ≤ (1048576 : Int))))<|sF h (fun h => ?_) fun h => ?_
  ·refine sM rfl<|sV (.ptr 16 1)<|sL rfl<|sV (rB (decide (a0.fY ≥ (-1048576 : Int))))<|sF h (fun h => ?_) fun h => ?_
   ·refine sM rfl<|sV (.ptr 16 1)<|sL rfl<|sV (rB (decide (a0.fY ≤ (1048576 : Int))))<|sF h (fun h => ?_) fun h => ?_
    ·refine sM rfl<|sV (.ptr 16 2)<|sL rfl<|sV (rB (decide (a0.fZ ≥ (-16384 : Int))))<|sF h (fun h => ?_) fun h => ?_
     ·refine sM rfl<|sV (.ptr 16 2)<|sL rfl<|sV (rB (decide (a0.fZ ≤ (1048576 : Int))))<|sV (rB (decide (a0.fZ ≤ (1048576 : Int))))<|sA rfl<|sN<|qR ?_
      cases oI h
      exact qD
     refine sM rfl<|k3<|sU<|sA rfl<|sN<|qR ?_
     cases oI h
     exact qD
    refine sM rfl<|k3<|sU<|sM rfl<|k3<|sU<|sA rfl<|sN<|qR ?_
    cases oI h
    exact qD
   refine sM rfl<|k3<|sU<|sM rfl<|k3<|sU<|sM rfl<|k3<|sU ?_
   refine sA rfl<|sN<|qR ?_
   cases oI h
   exact qD
  refine sM rfl<|k3<|sU<|sM rfl<|k3<|sU<|sM rfl<|k3<|sU ?_
  refine sM rfl<|k3<|sU<|sA rfl<|sN<|qR ?_
  cases oI h
  exact qD
 refine sM rfl<|k3<|sU<|sM rfl<|k3<|sU<|sM rfl<|k3<|sU ?_
 refine sM rfl<|k3<|sU<|sM rfl<|k3<|sU<|sA rfl<|sN<|qR ?_
 cases oI h
 exact qD
theorem gQ {a0 : Int} {r : Int} (h : fQ a0 = some r) : EvP prog aM ext 136 [rI a0] [] (rI r, []) := by
 refine Ev.body rfl Tryz.func136 rfl (by kernel_rfl)<|gS rfl rfl<|sV (r0)<|sN<|gS rfl rfl<|sM rfl<|sM rfl<|sV (rI (rW (a0 * a0)))<|sA rfl<|sN<|qR ?_
 cases oI h
 exact qD
theorem ref24_Square_ev {a0 : aj} {a1 : aj} {r : Int} (h : hP a0 a1 = some r) : EvP prog aM ext 102 [.d (aj.pd a0), .d (aj.pd a1)] [] (rI r, []) := by
 refine Ev.body rfl Tryz.func102 rfl (by kernel_rfl)<|gS rfl rfl<|sB (.ptr 32 0) 32 (.var [rI a0.fX, rI a0.fY, rI a0.fZ])<|sB (.ptr 48 0) 48 (.var [rI a1.fX, rI a1.fY, rI a1.fZ])<|sV (r0)<|sN<|qS<|gS rfl rfl<|sV (.d (aj.pd a0))<|bE h fun x1 hx1 h => cD (ke hx1)<|sF h (fun h => ?_) fun h => ?_
 ·refine sM rfl<|k3<|sT<|sN<|cT<|gS rfl rfl<|sV (r0)<|sN<|qR ?_
  cases oI h
  exact qD
 refine sM rfl<|sV (.d (aj.pd a1))<|bE h fun x3 hx3 h => cD (ke hx3)<|sV (rB (!x3))<|sF h (fun h => ?_) fun h => ?_
 ·refine sN<|cT<|gS rfl rfl<|sV (r0)<|sN<|qR ?_
  cases oI h
  exact qD
 refine sN<|cF<|qK<|WC.regionDSeq rfl rfl<|sV (.ptr 32 0)<|sL rfl<|sV (.ptr 48 0)<|sL rfl<|sV (rI (rW (a0.fX - a1.fX)))<|bE h fun x5 hx5 h => cD (gQ hx5)<|sV (.ptr 32 1)<|sL rfl<|sV (.ptr 48 1)<|sL rfl ?_
 refine sV (rI (rW (a0.fY - a1.fY)))<|bE h fun x6 hx6 h => cD (gQ hx6)<|sV (rI (rW (x5 + x6)))<|sV (.ptr 32 2)<|sL rfl<|sV (.ptr 48 2)<|sL rfl<|sV (rI (rW (a0.fZ - a1.fZ)))<|bE h fun x7 hx7 h => cD (gQ hx7)<|sV (rI (rW ((rW (x5 + x6)) + x7)))<|sA rfl ?_
 refine sN<|sO<|qR ?_
 cases oI h
 exact qD
theorem kl {a0 : aX} {a1 : ar} {a2 : ar} {r : Bool} (h : iL a0 a1 a2 = some r) : EvP prog aM ext 63 [.d (aX.pd a0), .d (ar.pd a1), .d (ar.pd a2)] [] (rB r, []) := by
 refine Ev.body rfl Tryz.func63 rfl (by kernel_rfl)<|gS rfl rfl<|sB (.ptr 48 0) 48 (.var [.d (.lst (a0.bN.map bj.pd)), rI a0.bO, rI a0.dP])<|sB (.ptr 64 0) 64 (.var (ar.rc a1))<|sB (.ptr 80 0) 80 (.var (ar.rc a2))<|sU<|sN<|qS<|gS rfl rfl<|sV (.d (aX.pd a0))<|bE h fun x1 hx1 h => cD (fU hx1)<|sF h (fun h => ?_) fun h => ?_
 ·refine sN<|cT<|gS rfl rfl<|sU<|sN<|qR ?_
  cases oI h
  exact qG
 refine sN<|cF<|qK<|WC.regionDSeq rfl rfl<|sV (.ptr 64 9)<|sV (.ptr 64 10)<|sV (.d (aB.pd a1.aa.ac))<|sV (.ptr 80 9)<|sV (.ptr 80 10)<|sV (.d (aB.pd a2.aa.ac))<|sB (.ptr 112 0) 112 (.var zZ5)<|sB (.ptr 128 0) 128 (.var zZ5)<|sH 112 (.var (aB.rc a1.aa.ac))<|sH 128 (.var (aB.rc a2.aa.ac)) ?_
 refine sN<|sO<|qS<|WC.regionDSeq rfl rfl<|sV (.d (aX.pd a0))<|sV (.d (ar.pd a1))<|bE h fun x3 hx3 h => cD (dY hx3)<|sV (.d (aX.pd a0))<|sV (.d (ar.pd a2))<|bE h fun x4 hx4 h => cD (dY hx4)<|sF h (fun h => ?_) fun h => ?_
 ·refine sM rfl<|k3<|k3<|sK<|sK<|sT ?_
  refine sN<|sO<|cT<|gS rfl rfl<|sT<|sN<|qR ?_
  cases oI h
  exact qG
 refine sM rfl<|sV (.ptr 64 9)<|sV (.ptr 64 22)<|sV (.d (aG.pd a1.aa.aq))<|sV (.ptr 80 9)<|sV (.ptr 80 22)<|sV (.d (aG.pd a2.aa.aq))<|bE h fun x6 hx6 h => cD (ref32_Agree_ev hx6)<|sV (rB (!x6))<|sF h (fun h => ?_) fun h => ?_
 ·refine sN<|sO<|cT<|gS rfl rfl<|sT<|sN<|qR ?_
  cases oI h
  exact qG
 refine sN<|sO<|cF<|qK<|WC.join (α := Unit) (fun x R' B' => ghosts prog 0 (A R' B') (aM.at_ 63 0 8) = some (A [(3, .ptr 48 0), (7, .ptr 112 0), (8, .ptr 128 0)] [(48, .var [.d (.lst (a0.bN.map bj.pd)), rI a0.bO, rI a0.dP]), (112, .var (aB.rc a1.aa.ac)), (128, .var (aB.rc a2.aa.ac))])) (fun x => fT a2 a1 a0 = some r) ?_ ?_
 ·refine WC.regionDSeq rfl rfl<|sV (.ptr 48 1)<|sL rfl<|sF h (fun h => ?_) fun h => ?_
  ·refine sM rfl<|sV (.ptr 112 0)<|sV (.d (aj.pd a1.aa.ac.aA))<|sV (.ptr 128 0)<|sV (.d (aj.pd a2.aa.ac.aA))<|bE h fun x10 hx10 h => cD (ref24_Square_ev hx10)<|sV (.ptr 48 1)<|sL rfl<|sV (.ptr 48 1)<|sL rfl<|sV (rI (rW (a0.bO * a0.bO)))<|sV (rB (decide (x10 > (rW (a0.bO * a0.bO)))))<|sF h (fun h => ?_) fun h => ?_
   ·refine sN<|sO<|cT<|gS rfl rfl<|sT<|sN<|qR ?_
    cases oI h
    exact qG
   exact sN<|sO<|cF<|qK<|⟨(), rfl, h⟩
  refine sM rfl<|k3<|k3<|k3<|sK<|sK<|sU ?_
  exact sN<|sO<|cF<|qK<|⟨(), rfl, h⟩
 rintro ⟨⟩ R' B' hI h
 refine gS rfl hI<|sV (.ptr 112 3)<|sL rfl<|sV (.ptr 128 3)<|sL rfl<|sV (rI (rW (a1.aa.ac.aF - a2.aa.ac.aF)))<|sV (.ptr 128 3)<|sL rfl<|sV (.ptr 112 3)<|sL rfl<|sV (rI (rW (a2.aa.ac.aF - a1.aa.ac.aF)))<|sV (rI (if (rW (a2.aa.ac.aF - a1.aa.ac.aF)) > (rW (a1.aa.ac.aF - a2.aa.ac.aF)) then (rW (a2.aa.ac.aF - a1.aa.ac.aF)) else (rW (a1.aa.ac.aF - a2.aa.ac.aF))))<|sV (.ptr 48 1)<|sL rfl<|sV (rB (decide ((if (rW (a2.aa.ac.aF - a1.aa.ac.aF)) > (rW (a1.aa.ac.aF - a2.aa.ac.aF)) then (rW (a2.aa.ac.aF - a1.aa.ac.aF)) else (rW (a1.aa.ac.aF - a2.aa.ac.aF))) > a0.bO))) ?_
 refine sA rfl<|sN<|qR ?_
 cases oI h
 exact qG
theorem kL {a0 : (List Int)} {a1 : Int} {r : Bool} (h : jx a0 a1 = some r) : EvP prog aM ext 64 [.d (.lst (a0.map (PD.int .i64))), rI a1] [] (rB r, []) := by
 refine Ev.body rfl Tryz.func64 rfl (by kernel_rfl)<|gS rfl rfl<|sU<|sN<|qS<|gS rfl rfl<|sV (r0)<|sN<|bE h fun o7 ho7 h => WC.block (WC.loop (WL.ofLoop ho7 (fun s R' B' => ghosts prog 0 (A R' B') (aM.at_ 64 0 2) = some (A [(0, .d (.lst (a0.map (PD.int .i64)))), (1, rI a1), (5, rI s)] [])) (fun o e R' B' => match o with | .inl y => e = .exit 0 ∧ ghosts prog 0 (A R' B') (aM.at_ 64 0 6) = some (A [] []) | .inr r => e = .ret ∧ finish prog (aM.own 64) Tryz.f64 0 (A R' B') = some (rB r, [])) rfl ?_ ?_))
 ·rintro s1 R' B' q2 hI h
  refine qS<|gS rfl hI<|sM rfl<|sM rfl<|sE (rI (a0.length : Int)) (lenMap _ _)<|sF h (fun h => ?_) fun h => ?_
  ·refine sN<|cT<|qK<|qS<|qB<|gS rfl rfl<|sM rfl<|sM rfl<|bE h fun x4 hx4 h => eG hx4 rfl<|sC rfl<|sM rfl<|sF h (fun h => ?_) fun h => ?_
   ·refine sN<|cT<|gS rfl rfl<|sT<|sN<|qR ?_
    cases oI h
    exact ⟨nofun, rfl, rfl⟩
   refine sN<|cF<|qK<|WC.region rfl rfl<|sM rfl<|sV (rI (rW (s1 + (1 : Int))))<|sA rfl<|sN ?_
   cases oI h
   exact ⟨rfl, rfl⟩
  refine sN<|cF<|qX ?_
  cases oI h
  exact ⟨nofun, rfl, rfl⟩
 intro e R' B' he hq
 rcases o7 with y8 | r9
 ·obtain ⟨rfl, hI⟩ := hq
  refine qE<|gS rfl hI<|sU<|sN<|qR ?_
  cases oI h
  exact qD
 obtain ⟨rfl, hf⟩ := hq
 cases oI h
 exact hf
theorem ref35_Timely_ev {a0 : aX} {a1 : ar} {a2 : Int} {r : Bool} (h : hT a0 a1 a2 = some r) : EvP prog aM ext 65 [.d (aX.pd a0), .d (ar.pd a1), rI a2] [] (rB r, []) := by
 refine Ev.body rfl Tryz.func65 rfl (by kernel_rfl)<|gS rfl rfl<|sB (.ptr 48 0) 48 (.var [.d (.lst (a0.bN.map bj.pd)), rI a0.bO, rI a0.dP])<|sB (.ptr 64 0) 64 (.var (ar.rc a1))<|sU<|sN<|gS rfl rfl<|sV (.d (aX.pd a0))<|sV (.d (ar.pd a1))<|bE h fun x1 hx1 h => cD (dY hx1)<|sA rfl<|sN<|qS<|gS rfl rfl ?_
 refine sM rfl<|sF h (fun h => ?_) fun h => ?_
 ·refine sN<|cT<|gS rfl rfl<|sU<|sN<|qR ?_
  cases oI h
  exact qG
 refine sN<|cF<|qK<|gS rfl rfl<|sM rfl<|sV (.ptr 64 9)<|sV (.ptr 64 10)<|sV (.ptr 64 13)<|sL rfl<|sV (rI (rW (a2 - a1.aa.ac.aF)))<|sA rfl<|sN<|gS rfl rfl<|sM rfl<|sF h (fun h => ?_) fun h => ?_
 ·refine sM rfl<|sM rfl<|sV (.ptr 48 0)<|sL rfl<|sM rfl<|sV (rI (rW (x1 - (1 : Int))))<|bE h fun x4 hx4 h => eG hx4 rfl<|sV (.cptr [.int .i64 x4.iC])<|sC rfl<|sV (rB (decide ((rW (a2 - a1.aa.ac.aF)) ≤ x4.iC)))<|sV (rB (decide ((rW (a2 - a1.aa.ac.aF)) ≤ x4.iC)))<|sA rfl<|sN<|qR ?_
  cases oI h
  exact qG
 refine sM rfl<|k3<|k3<|k3<|sU<|sA rfl<|sN<|qR ?_
 cases oI h
 exact qG
theorem ref36_Step_ev {a0 : aX} {a1 : (List aL)} {a2 : Int} {a3 : (List ar)} {a4 : Int} {r : (List aL) × (List ai) × Int} (h : ju a0 a1 a2 a3 a4 = some r) : EvP prog aM ext 33 [.d (aX.pd a0), .d (.lst (a1.map aL.pd)), rI a2, .d (.lst (a3.map ar.pd)), rI a4] [] (.tup [.d (.lst (r.1.map aL.pd)), .d (.lst (r.2.1.map ai.pd)), rI r.2.2], []) := by
 refine Ev.body rfl Tryz.func33 rfl (by kernel_rfl)<|gS rfl rfl<|sB (.ptr 80 0) 80 (.var [.d (.lst (a0.bN.map bj.pd)), rI a0.bO, rI a0.dP])<|sV .nils<|sV .nils<|sV (r0)<|sN<|qS<|gS rfl rfl<|sV (.d (aX.pd a0))<|sM rfl<|sM rfl<|sM rfl<|sM rfl<|bE h fun x1 hx1 h => ?_
 refine cD (ref36_Errors_ev hx1)<|sA rfl<|sN<|gS rfl rfl<|sM rfl<|sF h (fun h => ?_) fun h => ?_
 ·refine sN<|cT<|gS rfl rfl<|sM rfl<|sV .nils<|sV .nils<|sA rfl<|sN<|qR ?_
  cases oI h
  exact qD
 refine sN<|cF<|qK<|gS rfl rfl<|sM rfl<|sM rfl<|bE h fun x3 hx3 h => cD (ref36_Follow_ev hx3)<|sA rfl<|sN<|gS rfl rfl<|sV .nils<|sN<|gS rfl rfl<|sV .nils ?_
 refine sN<|qS<|gS rfl rfl<|sV (r0)<|sN<|bE h fun o73 ho73 h => WC.block (WC.loop (WL.ofLoop ho73 (fun s R' B' => ghosts prog 0 (A R' B') (aM.at_ 33 0 8) = some (A [(1, .d (.lst (a1.map aL.pd))), (2, rI a2), (3, .d (.lst (a3.map ar.pd))), (4, rI a4), (5, .ptr 80 0), (14, .d (.lst (x3.map (PD.int .i64)))), (15, .ref 2112 0), (16, .ref 2048 0), (17, rI s.1)] [(80, .var [.d (.lst (a0.bN.map bj.pd)), rI a0.bO, rI a0.dP]), (2048, .arr 0 40 (s.2.2.map ai.pd)), (2112, .arr 0 123 (s.2.1.map aL.pd))])) (fun o e R' B' => e = .exit 0 ∧ ghosts prog 0 (A R' B') (aM.at_ 33 0 24) = some (A [(2, rI a2), (3, .d (.lst (a3.map ar.pd))), (4, rI a4), (5, .ptr 80 0), (14, .d (.lst (x3.map (PD.int .i64)))), (15, .ref 2112 0), (16, .ref 2048 0)] [(80, .var [.d (.lst (a0.bN.map bj.pd)), rI a0.bO, rI a0.dP]), (2048, .arr 0 40 (o.2.map ai.pd)), (2112, .arr 0 123 (o.1.map aL.pd))])) rfl ?_ ?_))
 ·rintro ⟨s4, s5, s6⟩ R' B' q9 hI h
  refine qS<|gS rfl hI<|sM rfl<|sM rfl<|sE (rI (a1.length : Int)) (lenMap _ _)<|sF h (fun h => ?_) fun h => ?_
  ·refine sN<|cT<|qK<|qS<|qB<|gS rfl rfl<|sM rfl<|sM rfl<|bE h fun x11 hx11 h => eG hx11 rfl<|sV (.d (aL.pd x11))<|sB (.ptr 288 0) 288 (.var [r0, rB false, rS [], rS [], rS [], rS [], r0, r0, r0, r0, r0, r0, rS [], rS [], rS [], rS [], r0, r0, r0, r0, r0, .nils, r0, r0, r0, r0, r0, r0, r0, r0, r0, r0, r0, r0, r0, r0, r0, r0])<|sH 288 (.var (aL.rc x11))<|sN<|gS rfl rfl ?_
   refine sV (r0)<|sN<|WC.join (α := (List UInt8) × (List UInt8) × (List UInt8) × (List UInt8) × Int × Int × Int × Int × Int) (fun x R' B' => ghosts prog 0 (A R' B') (aM.at_ 33 0 14) = some (A [(1, .d (.lst (a1.map aL.pd))), (2, rI a2), (3, .d (.lst (a3.map ar.pd))), (4, rI a4), (5, .ptr 80 0), (14, .d (.lst (x3.map (PD.int .i64)))), (15, .ref 2112 0), (16, .ref 2048 0), (17, rI s4), (18, .ptr 288 0), (19, r0)] [(80, .var [.d (.lst (a0.bN.map bj.pd)), rI a0.bO, rI a0.dP]), (288, .var [rI x11.fID, rB x11.br, rS x.1, rS x.2.1, rS x.2.2.1, rS x.2.2.2.1, rI x.2.2.2.2.1, rI x.2.2.2.2.2.1, rI x.2.2.2.2.2.2.1, rI x.2.2.2.2.2.2.2.1, rI x.2.2.2.2.2.2.2.2, rI x11.aW, rS x11.ae.ak.ah.aC, rS x11.ae.ak.ah.aE, rS x11.ae.ak.ah.ac, rS x11.ae.ak.ah.aD, rI x11.ae.ak.aF, rI x11.ae.ak.aJ, rI x11.ae.ak.aN, rI x11.ae.ak.au, rI x11.ae.ak.av, .d (.lst (x11.ae.aa.aK.map ag.pd)), rI x11.ae.aa.ac.aA.fX, rI x11.ae.aa.ac.aA.fY, rI x11.ae.aa.ac.aA.fZ, rI x11.ae.aa.ac.aF, rI x11.ae.aa.ac.aO, rI x11.ae.aa.ac.aV, rI x11.ae.aa.ac.ap.aI.fX, rI x11.ae.aa.ac.ap.aI.fY, rI x11.ae.aa.ac.ap.aI.fZ, rI x11.ae.aa.ac.ap.az.fX, rI x11.ae.aa.ac.ap.az.fY, rI x11.ae.aa.ac.ap.az.fZ, rI x11.ae.aa.aq.aI, rI x11.ae.aa.aq.az, rI x11.ae.aa.aU, rI x11.fAt]), (2048, .arr 0 40 (s6.map ai.pd)), (2112, .arr 0 123 (s5.map aL.pd))])) (fun x => eM x3 s4 x11 s6 a2 a4 s5 a3 a0 x.1 x.2.1 x.2.2.1 x.2.2.2.1 x.2.2.2.2.1 x.2.2.2.2.2.1 x.2.2.2.2.2.2.1 x.2.2.2.2.2.2.2.1 x.2.2.2.2.2.2.2.2 = some q9) ?_ ?_
   ·refine gS rfl rfl<|sM rfl<|sM rfl<|bE h fun x68 hx68 h => eG hx68 rfl<|sC rfl<|sF h (fun h => ?_) fun h => ?_
    ·refine sN<|cT<|WC.region rfl rfl<|sM rfl<|sM rfl<|sM rfl<|bE h fun x70 hx70 h => eG hx70 rfl<|sC rfl<|bE h fun x71 hx71 h => eG hx71 rfl<|sV (.cptr [.str x71.ak.ah.aC, .str x71.ak.ah.aE, .str x71.ak.ah.ac, .str x71.ak.ah.aD, .int .i64 x71.ak.aF, .int .i64 x71.ak.aJ, .int .i64 x71.ak.aN, .int .i64 x71.ak.au, .int .i64 x71.ak.av, .lst (x71.aa.aK.map ag.pd), .int .i64 x71.aa.ac.aA.fX, .int .i64 x71.aa.ac.aA.fY, .int .i64 x71.aa.ac.aA.fZ, .int .i64 x71.aa.ac.aF, .int .i64 x71.aa.ac.aO, .int .i64 x71.aa.ac.aV, .int .i64 x71.aa.ac.ap.aI.fX, .int .i64 x71.aa.ac.ap.aI.fY, .int .i64 x71.aa.ac.ap.aI.fZ, .int .i64 x71.aa.ac.ap.az.fX, .int .i64 x71.aa.ac.ap.az.fY, .int .i64 x71.aa.ac.ap.az.fZ, .int .i64 x71.aa.aq.aI, .int .i64 x71.aa.aq.az, .int .i64 x71.aa.aU])<|sV (.d (ag.pd x71.ak))<|sV (.ptr 288 2)<|sH 288 (.var [rI x11.fID, rB x11.br, rS x71.ak.ah.aC, rS x71.ak.ah.aE, rS x71.ak.ah.ac, rS x71.ak.ah.aD, rI x71.ak.aF, rI x71.ak.aJ, rI x71.ak.aN, rI x71.ak.au, rI x71.ak.av, rI x11.aW, rS x11.ae.ak.ah.aC, rS x11.ae.ak.ah.aE, rS x11.ae.ak.ah.ac, rS x11.ae.ak.ah.aD, rI x11.ae.ak.aF, rI x11.ae.ak.aJ, rI x11.ae.ak.aN, rI x11.ae.ak.au, rI x11.ae.ak.av, .d (.lst (x11.ae.aa.aK.map ag.pd)), rI x11.ae.aa.ac.aA.fX, rI x11.ae.aa.ac.aA.fY, rI x11.ae.aa.ac.aA.fZ, rI x11.ae.aa.ac.aF, rI x11.ae.aa.ac.aO, rI x11.ae.aa.ac.aV, rI x11.ae.aa.ac.ap.aI.fX, rI x11.ae.aa.ac.ap.aI.fY, rI x11.ae.aa.ac.ap.aI.fZ, rI x11.ae.aa.ac.ap.az.fX, rI x11.ae.aa.ac.ap.az.fY, rI x11.ae.aa.ac.ap.az.fZ, rI x11.ae.aa.aq.aI, rI x11.ae.aa.aq.az, rI x11.ae.aa.aU, rI x11.fAt]) ?_
     exact sN<|⟨(x71.ak.ah.aC, x71.ak.ah.aE, x71.ak.ah.ac, x71.ak.ah.aD, x71.ak.aF, x71.ak.aJ, x71.ak.aN, x71.ak.au, x71.ak.av), rfl, h⟩
    exact sN<|cF<|qK<|⟨(x11.ak.ah.aC, x11.ak.ah.aE, x11.ak.ah.ac, x11.ak.ah.aD, x11.ak.aF, x11.ak.aJ, x11.ak.aN, x11.ak.au, x11.ak.av), rfl, h⟩
   rintro ⟨j12, j13, j14, j15, j16, j17, j18, j19, j20⟩ R' B' hI h
   refine WC.join (α := Int × Bool × Int × (List UInt8) × (List UInt8) × (List UInt8) × (List UInt8) × Int × Int × Int × Int × Int × (List ag) × Int × Int × Int × Int × Int × Int × Int × Int × Int × Int × Int × Int × Int × Int × Int) (fun x R' B' => ghosts prog 0 (A R' B') (aM.at_ 33 0 20) = some (A [(1, .d (.lst (a1.map aL.pd))), (2, rI a2), (3, .d (.lst (a3.map ar.pd))), (4, rI a4), (5, .ptr 80 0), (14, .d (.lst (x3.map (PD.int .i64)))), (15, .ref 2112 0), (16, .ref 2048 0), (17, rI s4), (18, .ptr 288 0), (19, rI x.1)] [(80, .var [.d (.lst (a0.bN.map bj.pd)), rI a0.bO, rI a0.dP]), (288, .var [rI x11.fID, rB x.2.1, rS j12, rS j13, rS j14, rS j15, rI j16, rI j17, rI j18, rI j19, rI j20, rI x.2.2.1, rS x.2.2.2.1, rS x.2.2.2.2.1, rS x.2.2.2.2.2.1, rS x.2.2.2.2.2.2.1, rI x.2.2.2.2.2.2.2.1, rI x.2.2.2.2.2.2.2.2.1, rI x.2.2.2.2.2.2.2.2.2.1, rI x.2.2.2.2.2.2.2.2.2.2.1, rI x.2.2.2.2.2.2.2.2.2.2.2.1, .d (.lst (x.2.2.2.2.2.2.2.2.2.2.2.2.1.map ag.pd)), rI x.2.2.2.2.2.2.2.2.2.2.2.2.2.1, rI x.2.2.2.2.2.2.2.2.2.2.2.2.2.2.1, rI x.2.2.2.2.2.2.2.2.2.2.2.2.2.2.2.1, rI x.2.2.2.2.2.2.2.2.2.2.2.2.2.2.2.2.1, rI x.2.2.2.2.2.2.2.2.2.2.2.2.2.2.2.2.2.1, rI x.2.2.2.2.2.2.2.2.2.2.2.2.2.2.2.2.2.2.1, rI x.2.2.2.2.2.2.2.2.2.2.2.2.2.2.2.2.2.2.2.1, rI x.2.2.2.2.2.2.2.2.2.2.2.2.2.2.2.2.2.2.2.2.1, rI x.2.2.2.2.2.2.2.2.2.2.2.2.2.2.2.2.2.2.2.2.2.1, rI x.2.2.2.2.2.2.2.2.2.2.2.2.2.2.2.2.2.2.2.2.2.2.1, rI x.2.2.2.2.2.2.2.2.2.2.2.2.2.2.2.2.2.2.2.2.2.2.2.1, rI x.2.2.2.2.2.2.2.2.2.2.2.2.2.2.2.2.2.2.2.2.2.2.2.2.1, rI x.2.2.2.2.2.2.2.2.2.2.2.2.2.2.2.2.2.2.2.2.2.2.2.2.2.1, rI x.2.2.2.2.2.2.2.2.2.2.2.2.2.2.2.2.2.2.2.2.2.2.2.2.2.2.1, rI x.2.2.2.2.2.2.2.2.2.2.2.2.2.2.2.2.2.2.2.2.2.2.2.2.2.2.2, rI x11.fAt]), (2048, .arr 0 40 (s6.map ai.pd)), (2112, .arr 0 123 (s5.map aL.pd))])) (fun x => cI s6 a2 x11 a4 s5 j12 j13 j14 j15 j16 j17 j18 j19 j20 s4 x.1 x.2.1 x.2.2.1 x.2.2.2.1 x.2.2.2.2.1 x.2.2.2.2.2.1 x.2.2.2.2.2.2.1 x.2.2.2.2.2.2.2.1 x.2.2.2.2.2.2.2.2.1 x.2.2.2.2.2.2.2.2.2.1 x.2.2.2.2.2.2.2.2.2.2.1 x.2.2.2.2.2.2.2.2.2.2.2.1 x.2.2.2.2.2.2.2.2.2.2.2.2.1 x.2.2.2.2.2.2.2.2.2.2.2.2.2.1 x.2.2.2.2.2.2.2.2.2.2.2.2.2.2.1 x.2.2.2.2.2.2.2.2.2.2.2.2.2.2.2.1 x.2.2.2.2.2.2.2.2.2.2.2.2.2.2.2.2.1 x.2.2.2.2.2.2.2.2.2.2.2.2.2.2.2.2.2.1 x.2.2.2.2.2.2.2.2.2.2.2.2.2.2.2.2.2.2.1 x.2.2.2.2.2.2.2.2.2.2.2.2.2.2.2.2.2.2.2.1 x.2.2.2.2.2.2.2.2.2.2.2.2.2.2.2.2.2.2.2.2.1 x.2.2.2.2.2.2.2.2.2.2.2.2.2.2.2.2.2.2.2.2.2.1 x.2.2.2.2.2.2.2.2.2.2.2.2.2.2.2.2.2.2.2.2.2.2.1 x.2.2.2.2.2.2.2.2.2.2.2.2.2.2.2.2.2.2.2.2.2.2.2.1 x.2.2.2.2.2.2.2.2.2.2.2.2.2.2.2.2.2.2.2.2.2.2.2.2.1 x.2.2.2.2.2.2.2.2.2.2.2.2.2.2.2.2.2.2.2.2.2.2.2.2.2.1 x.2.2.2.2.2.2.2.2.2.2.2.2.2.2.2.2.2.2.2.2.2.2.2.2.2.2.1 x.2.2.2.2.2.2.2.2.2.2.2.2.2.2.2.2.2.2.2.2.2.2.2.2.2.2.2 = some q9) ?_ ?_
   ·refine gS rfl hI<|sM rfl<|sM rfl<|bE h fun x54 hx54 h => eG hx54 rfl<|sC rfl<|sA rfl<|sN<|qB<|gS rfl rfl<|sV (.ptr 288 1)<|sF h (fun h => ?_) fun h => ?_
    ·exact sA rfl<|sN<|cT<|qK<|⟨(0, x11.br, x11.aW, x11.ae.ak.ah.aC, x11.ae.ak.ah.aE, x11.ae.ak.ah.ac, x11.ae.ak.ah.aD, x11.ae.ak.aF, x11.ae.ak.aJ, x11.ae.ak.aN, x11.ae.ak.au, x11.ae.ak.av, x11.ae.aa.aK, x11.ae.aa.ac.aA.fX, x11.ae.aa.ac.aA.fY, x11.ae.aa.ac.aA.fZ, x11.ae.aa.ac.aF, x11.ae.aa.ac.aO, x11.ae.aa.ac.aV, x11.ae.aa.ac.ap.aI.fX, x11.ae.aa.ac.ap.aI.fY, x11.ae.aa.ac.ap.aI.fZ, x11.ae.aa.ac.ap.az.fX, x11.ae.aa.ac.ap.az.fY, x11.ae.aa.ac.ap.az.fZ, x11.ae.aa.aq.aI, x11.ae.aa.aq.az, x11.ae.aa.aU), rfl, h⟩
    refine sA rfl<|sN<|cF<|WC.regionDSeq rfl rfl<|sM rfl<|sF h (fun h => ?_) fun h => ?_
    ·refine sM rfl<|k3<|k3<|sK<|sT<|sA rfl ?_
     exact sN<|sO<|cT<|WC.region rfl rfl<|sV (.ptr 288 1)<|sS 288 (.var [rI x11.fID, rB true, rS j12, rS j13, rS j14, rS j15, rI j16, rI j17, rI j18, rI j19, rI j20, rI x11.aW, rS x11.ae.ak.ah.aC, rS x11.ae.ak.ah.aE, rS x11.ae.ak.ah.ac, rS x11.ae.ak.ah.aD, rI x11.ae.ak.aF, rI x11.ae.ak.aJ, rI x11.ae.ak.aN, rI x11.ae.ak.au, rI x11.ae.ak.av, .d (.lst (x11.ae.aa.aK.map ag.pd)), rI x11.ae.aa.ac.aA.fX, rI x11.ae.aa.ac.aA.fY, rI x11.ae.aa.ac.aA.fZ, rI x11.ae.aa.ac.aF, rI x11.ae.aa.ac.aO, rI x11.ae.aa.ac.aV, rI x11.ae.aa.ac.ap.aI.fX, rI x11.ae.aa.ac.ap.aI.fY, rI x11.ae.aa.ac.ap.aI.fZ, rI x11.ae.aa.ac.ap.az.fX, rI x11.ae.aa.ac.ap.az.fY, rI x11.ae.aa.ac.ap.az.fZ, rI x11.ae.aa.aq.aI, rI x11.ae.aa.aq.az, rI x11.ae.aa.aU, rI x11.fAt])<|sV (rI 3)<|sN<|⟨(3, true, x11.aW, x11.ae.ak.ah.aC, x11.ae.ak.ah.aE, x11.ae.ak.ah.ac, x11.ae.ak.ah.aD, x11.ae.ak.aF, x11.ae.ak.aJ, x11.ae.ak.aN, x11.ae.ak.au, x11.ae.ak.av, x11.ae.aa.aK, x11.ae.aa.ac.aA.fX, x11.ae.aa.ac.aA.fY, x11.ae.aa.ac.aA.fZ, x11.ae.aa.ac.aF, x11.ae.aa.ac.aO, x11.ae.aa.ac.aV, x11.ae.aa.ac.ap.aI.fX, x11.ae.aa.ac.ap.aI.fY, x11.ae.aa.ac.ap.aI.fZ, x11.ae.aa.ac.ap.az.fX, x11.ae.aa.ac.ap.az.fY, x11.ae.aa.ac.ap.az.fZ, x11.ae.aa.aq.aI, x11.ae.aa.aq.az, x11.ae.aa.aU), rfl, h⟩
    refine sM rfl<|sV (.d (aX.pd a0))<|sM rfl<|sM rfl<|bE h fun x57 hx57 h => eG hx57 rfl<|sV (.d (ar.pd x57))<|bE h fun x58 hx58 h => cD (dY hx58)<|sV (rB (x58 == (0 : Int)))<|sF h (fun h => ?_) fun h => ?_
    ·refine sA rfl ?_
     exact sN<|sO<|cT<|WC.region rfl rfl<|sV (.ptr 288 1)<|sS 288 (.var [rI x11.fID, rB true, rS j12, rS j13, rS j14, rS j15, rI j16, rI j17, rI j18, rI j19, rI j20, rI x11.aW, rS x11.ae.ak.ah.aC, rS x11.ae.ak.ah.aE, rS x11.ae.ak.ah.ac, rS x11.ae.ak.ah.aD, rI x11.ae.ak.aF, rI x11.ae.ak.aJ, rI x11.ae.ak.aN, rI x11.ae.ak.au, rI x11.ae.ak.av, .d (.lst (x11.ae.aa.aK.map ag.pd)), rI x11.ae.aa.ac.aA.fX, rI x11.ae.aa.ac.aA.fY, rI x11.ae.aa.ac.aA.fZ, rI x11.ae.aa.ac.aF, rI x11.ae.aa.ac.aO, rI x11.ae.aa.ac.aV, rI x11.ae.aa.ac.ap.aI.fX, rI x11.ae.aa.ac.ap.aI.fY, rI x11.ae.aa.ac.ap.aI.fZ, rI x11.ae.aa.ac.ap.az.fX, rI x11.ae.aa.ac.ap.az.fY, rI x11.ae.aa.ac.ap.az.fZ, rI x11.ae.aa.aq.aI, rI x11.ae.aa.aq.az, rI x11.ae.aa.aU, rI x11.fAt])<|sV (rI 3)<|sN<|⟨(3, true, x11.aW, x11.ae.ak.ah.aC, x11.ae.ak.ah.aE, x11.ae.ak.ah.ac, x11.ae.ak.ah.aD, x11.ae.ak.aF, x11.ae.ak.aJ, x11.ae.ak.aN, x11.ae.ak.au, x11.ae.ak.av, x11.ae.aa.aK, x11.ae.aa.ac.aA.fX, x11.ae.aa.ac.aA.fY, x11.ae.aa.ac.aA.fZ, x11.ae.aa.ac.aF, x11.ae.aa.ac.aO, x11.ae.aa.ac.aV, x11.ae.aa.ac.ap.aI.fX, x11.ae.aa.ac.ap.aI.fY, x11.ae.aa.ac.ap.aI.fZ, x11.ae.aa.ac.ap.az.fX, x11.ae.aa.ac.ap.az.fY, x11.ae.aa.ac.ap.az.fZ, x11.ae.aa.aq.aI, x11.ae.aa.aq.az, x11.ae.aa.aU), rfl, h⟩
    refine sA rfl ?_
    refine sN<|sO<|cF<|WC.regionDSeq rfl rfl<|sV (.d (aX.pd a0))<|sV (.ptr 288 12)<|sV (.d (ar.pd x11.ae))<|sM rfl<|sM rfl<|bE h fun x60 hx60 h => eG hx60 rfl<|sV (.d (ar.pd x60))<|bE h fun x61 hx61 h => ite_elim h (fun hb62 h => ?_) (fun hb62 h => ?_)
    ·refine WO.callR (v := rB true) (u := []) rfl rfl (fun _ => rfl) rfl rfl rfl rfl rfl (kl hx61) rfl rfl (congrArg (fun b => RV.d (.bool b)) hb62) rfl<|sM rfl<|sM rfl<|sV (.ptr 288 37)<|sL rfl<|sV (rI (rW (a4 - x11.fAt)))<|sV (.ptr 80 2)<|sL rfl<|sV (rB (decide ((rW (a4 - x11.fAt)) ≥ a0.dP)))<|sF h (fun h => ?_) fun h => ?_
     ·refine sA rfl ?_
      refine sN<|sO<|cT<|WC.regionD rfl rfl<|sV (.d (aX.pd a0))<|sM rfl<|sM rfl<|bE h fun x64 hx64 h => eG hx64 rfl<|sV (.d (ar.pd x64))<|bE h fun x65 hx65 h => cD (dY hx65)<|sM rfl<|sM rfl<|bE h fun x66 hx66 h => eG hx66 rfl ?_
      refine sV (.d (ar.pd x66))<|sV (.ptr 288 11)<|sS 288 (.var [rI x11.fID, rB x11.br, rS j12, rS j13, rS j14, rS j15, rI j16, rI j17, rI j18, rI j19, rI j20, rI x65, rS x11.ae.ak.ah.aC, rS x11.ae.ak.ah.aE, rS x11.ae.ak.ah.ac, rS x11.ae.ak.ah.aD, rI x11.ae.ak.aF, rI x11.ae.ak.aJ, rI x11.ae.ak.aN, rI x11.ae.ak.au, rI x11.ae.ak.av, .d (.lst (x11.ae.aa.aK.map ag.pd)), rI x11.ae.aa.ac.aA.fX, rI x11.ae.aa.ac.aA.fY, rI x11.ae.aa.ac.aA.fZ, rI x11.ae.aa.ac.aF, rI x11.ae.aa.ac.aO, rI x11.ae.aa.ac.aV, rI x11.ae.aa.ac.ap.aI.fX, rI x11.ae.aa.ac.ap.aI.fY, rI x11.ae.aa.ac.ap.aI.fZ, rI x11.ae.aa.ac.ap.az.fX, rI x11.ae.aa.ac.ap.az.fY, rI x11.ae.aa.ac.ap.az.fZ, rI x11.ae.aa.aq.aI, rI x11.ae.aa.aq.az, rI x11.ae.aa.aU, rI x11.fAt])<|sV (.ptr 288 12)<|sH 288 (.var [rI x11.fID, rB x11.br, rS j12, rS j13, rS j14, rS j15, rI j16, rI j17, rI j18, rI j19, rI j20, rI x65, rS x66.ak.ah.aC, rS x66.ak.ah.aE, rS x66.ak.ah.ac, rS x66.ak.ah.aD, rI x66.ak.aF, rI x66.ak.aJ, rI x66.ak.aN, rI x66.ak.au, rI x66.ak.av, .d (.lst (x66.aa.aK.map ag.pd)), rI x66.aa.ac.aA.fX, rI x66.aa.ac.aA.fY, rI x66.aa.ac.aA.fZ, rI x66.aa.ac.aF, rI x66.aa.ac.aO, rI x66.aa.ac.aV, rI x66.aa.ac.ap.aI.fX, rI x66.aa.ac.ap.aI.fY, rI x66.aa.ac.ap.aI.fZ, rI x66.aa.ac.ap.az.fX, rI x66.aa.ac.ap.az.fY, rI x66.aa.ac.ap.az.fZ, rI x66.aa.aq.aI, rI x66.aa.aq.az, rI x66.aa.aU, rI x11.fAt])<|sV (rI 2) ?_
      exact sN<|sO<|⟨(2, x11.br, x65, x66.ak.ah.aC, x66.ak.ah.aE, x66.ak.ah.ac, x66.ak.ah.aD, x66.ak.aF, x66.ak.aJ, x66.ak.aN, x66.ak.au, x66.ak.av, x66.aa.aK, x66.aa.ac.aA.fX, x66.aa.ac.aA.fY, x66.aa.ac.aA.fZ, x66.aa.ac.aF, x66.aa.ac.aO, x66.aa.ac.aV, x66.aa.ac.ap.aI.fX, x66.aa.ac.ap.aI.fY, x66.aa.ac.ap.aI.fZ, x66.aa.ac.ap.az.fX, x66.aa.ac.ap.az.fY, x66.aa.ac.ap.az.fZ, x66.aa.aq.aI, x66.aa.aq.az, x66.aa.aU), rfl, h⟩
     refine sA rfl ?_
     exact sN<|sO<|cF<|qK<|⟨(0, x11.br, x11.aW, x11.ae.ak.ah.aC, x11.ae.ak.ah.aE, x11.ae.ak.ah.ac, x11.ae.ak.ah.aD, x11.ae.ak.aF, x11.ae.ak.aJ, x11.ae.ak.aN, x11.ae.ak.au, x11.ae.ak.av, x11.ae.aa.aK, x11.ae.aa.ac.aA.fX, x11.ae.aa.ac.aA.fY, x11.ae.aa.ac.aA.fZ, x11.ae.aa.ac.aF, x11.ae.aa.ac.aO, x11.ae.aa.ac.aV, x11.ae.aa.ac.ap.aI.fX, x11.ae.aa.ac.ap.aI.fY, x11.ae.aa.ac.ap.aI.fZ, x11.ae.aa.ac.ap.az.fX, x11.ae.aa.ac.ap.az.fY, x11.ae.aa.ac.ap.az.fZ, x11.ae.aa.aq.aI, x11.ae.aa.aq.az, x11.ae.aa.aU), rfl, h⟩
    refine WO.callR (v := rB false) (u := []) rfl rfl (fun _ => rfl) rfl rfl rfl rfl rfl (kl hx61) rfl rfl (congrArg (fun b => RV.d (.bool b)) hb62) rfl<|sM rfl<|k3<|k3<|sK<|sU<|sA rfl ?_
    exact sN<|sO<|cF<|qK<|⟨(0, x11.br, x11.aW, x11.ae.ak.ah.aC, x11.ae.ak.ah.aE, x11.ae.ak.ah.ac, x11.ae.ak.ah.aD, x11.ae.ak.aF, x11.ae.ak.aJ, x11.ae.ak.aN, x11.ae.ak.au, x11.ae.ak.av, x11.ae.aa.aK, x11.ae.aa.ac.aA.fX, x11.ae.aa.ac.aA.fY, x11.ae.aa.ac.aA.fZ, x11.ae.aa.ac.aF, x11.ae.aa.ac.aO, x11.ae.aa.ac.aV, x11.ae.aa.ac.ap.aI.fX, x11.ae.aa.ac.ap.aI.fY, x11.ae.aa.ac.ap.aI.fZ, x11.ae.aa.ac.ap.az.fX, x11.ae.aa.ac.ap.az.fY, x11.ae.aa.ac.ap.az.fZ, x11.ae.aa.aq.aI, x11.ae.aa.aq.az, x11.ae.aa.aU), rfl, h⟩
   rintro ⟨j21, j22, j23, j24, j25, j26, j27, j28, j29, j30, j31, j32, j33, j34, j35, j36, j37, j38, j39, j40, j41, j42, j43, j44, j45, j46, j47, j48⟩ R' B' hI h
   refine qS<|gS rfl hI<|sM rfl<|sF h (fun h => ?_) fun h => ?_
   ·refine sN<|cT<|gS rfl rfl<|sM rfl<|sV (.ptr 288 37)<|sS 288 (.var [rI x11.fID, rB j22, rS j12, rS j13, rS j14, rS j15, rI j16, rI j17, rI j18, rI j19, rI j20, rI j23, rS j24, rS j25, rS j26, rS j27, rI j28, rI j29, rI j30, rI j31, rI j32, .d (.lst (j33.map ag.pd)), rI j34, rI j35, rI j36, rI j37, rI j38, rI j39, rI j40, rI j41, rI j42, rI j43, rI j44, rI j45, rI j46, rI j47, rI j48, rI a4])<|sN<|WC.region rfl rfl<|sM rfl<|sM rfl<|sM rfl<|WO.lenR rfl rfl rfl rfl rfl rfl rfl rfl rfl<|sV (rI (rW (a2 + (s6.length : Int))))<|sM rfl<|sV (.ptr 288 0) ?_
    refine sL rfl<|sM rfl<|sV (.ptr 288 11)<|sL rfl<|sV (.ptr 288 12)<|sV (.d (ar.pd (ar.mk (ag.mk (am.mk j24 j25 j26 j27) j28 j29 j30 j31 j32) (aw.mk j33 (aB.mk (aj.mk j34 j35 j36) j37 j38 j39 (aP.mk (aj.mk j40 j41 j42) (aj.mk j43 j44 j45))) (aG.mk j46 j47) j48))))<|sG (.d (ai.pd (ai.mk (rW (a2 + (s6.length : Int))) j21 x11.fID a4 j23 (ar.mk (ag.mk (am.mk j24 j25 j26 j27) j28 j29 j30 j31 j32) (aw.mk j33 (aB.mk (aj.mk j34 j35 j36) j37 j38 j39 (aP.mk (aj.mk j40 j41 j42) (aj.mk j43 j44 j45))) (aG.mk j46 j47) j48)))))<|sG (.d (.lst ([(ai.mk (rW (a2 + (s6.length : Int))) j21 x11.fID a4 j23 (ar.mk (ag.mk (am.mk j24 j25 j26 j27) j28 j29 j30 j31 j32) (aw.mk j33 (aB.mk (aj.mk j34 j35 j36) j37 j38 j39 (aP.mk (aj.mk j40 j41 j42) (aj.mk j43 j44 j45))) (aG.mk j46 j47) j48)))].map ai.pd)))<|bE h fun x50 hx50 h => aR hx50 (fun _ => rfl) rfl<|sA rfl<|sN<|WC.region rfl rfl<|sM rfl<|sV (.d (aL.pd (aL.mk x11.fID j22 (ag.mk (am.mk j12 j13 j14 j15) j16 j17 j18 j19 j20) j23 (ar.mk (ag.mk (am.mk j24 j25 j26 j27) j28 j29 j30 j31 j32) (aw.mk j33 (aB.mk (aj.mk j34 j35 j36) j37 j38 j39 (aP.mk (aj.mk j40 j41 j42) (aj.mk j43 j44 j45))) (aG.mk j46 j47) j48)) a4))) ?_
    refine sG (.d (.lst ([(aL.mk x11.fID j22 (ag.mk (am.mk j12 j13 j14 j15) j16 j17 j18 j19 j20) j23 (ar.mk (ag.mk (am.mk j24 j25 j26 j27) j28 j29 j30 j31 j32) (aw.mk j33 (aB.mk (aj.mk j34 j35 j36) j37 j38 j39 (aP.mk (aj.mk j40 j41 j42) (aj.mk j43 j44 j45))) (aG.mk j46 j47) j48)) a4)].map aL.pd)))<|bE h fun x51 hx51 h => aR hx51 (fun _ => rfl) rfl<|sA rfl<|sN<|WC.region rfl rfl<|sM rfl<|sV (rI (rW (s4 + (1 : Int))))<|sA rfl<|sN ?_
    cases oI h
    exact ⟨rfl, rfl⟩
   refine sN<|cF<|qK<|WC.region rfl rfl<|sM rfl<|sV (.d (aL.pd (aL.mk x11.fID j22 (ag.mk (am.mk j12 j13 j14 j15) j16 j17 j18 j19 j20) j23 (ar.mk (ag.mk (am.mk j24 j25 j26 j27) j28 j29 j30 j31 j32) (aw.mk j33 (aB.mk (aj.mk j34 j35 j36) j37 j38 j39 (aP.mk (aj.mk j40 j41 j42) (aj.mk j43 j44 j45))) (aG.mk j46 j47) j48)) x11.fAt)))<|sG (.d (.lst ([(aL.mk x11.fID j22 (ag.mk (am.mk j12 j13 j14 j15) j16 j17 j18 j19 j20) j23 (ar.mk (ag.mk (am.mk j24 j25 j26 j27) j28 j29 j30 j31 j32) (aw.mk j33 (aB.mk (aj.mk j34 j35 j36) j37 j38 j39 (aP.mk (aj.mk j40 j41 j42) (aj.mk j43 j44 j45))) (aG.mk j46 j47) j48)) x11.fAt)].map aL.pd)))<|bE h fun x52 hx52 h => aR hx52 (fun _ => rfl) rfl<|sA rfl<|sN<|WC.region rfl rfl<|sM rfl<|sV (rI (rW (s4 + (1 : Int))))<|sA rfl ?_
   refine sN ?_
   cases oI h
   exact ⟨rfl, rfl⟩
  refine sN<|cF<|qX ?_
  cases oI h
  exact ⟨nofun, rfl, rfl⟩
 intro e R' B' he hq
 obtain ⟨rfl, hI⟩ := hq
 refine qE<|qS<|gS rfl hI<|sV (r0)<|sN<|bE h fun o93 ho93 h => WC.block (WC.loop (WL.ofLoop ho93 (fun s R' B' => ghosts prog 0 (A R' B') (aM.at_ 33 0 25) = some (A [(2, rI a2), (3, .d (.lst (a3.map ar.pd))), (4, rI a4), (5, .ptr 80 0), (14, .d (.lst (x3.map (PD.int .i64)))), (15, .ref 2112 0), (16, .ref 2048 0), (21, rI s.1)] [(80, .var [.d (.lst (a0.bN.map bj.pd)), rI a0.bO, rI a0.dP]), (2048, .arr 0 40 (s.2.2.map ai.pd)), (2112, .arr 0 123 (s.2.1.map aL.pd))])) (fun o e R' B' => e = .exit 3 ∧ ghosts prog 0 (A R' B') (aM.at_ 33 0 31) = some (A [(2, rI a2), (15, .ref 2112 0), (16, .ref 2048 0)] [(2048, .arr 0 40 (o.2.map ai.pd)), (2112, .arr 0 123 (o.1.map aL.pd))])) rfl ?_ ?_))
 ·rintro ⟨s74, s75, s76⟩ R' B' q79 hI h
  refine qS<|gS rfl hI<|sM rfl<|sM rfl<|sE (rI (a3.length : Int)) (lenMap _ _)<|sF h (fun h => ?_) fun h => ?_
  ·refine sN<|cT<|qK<|qS<|qB<|qS<|WC.regionDSeq rfl rfl<|sM rfl<|sM rfl<|bE h fun x81 hx81 h => ite_elim h (fun hb82 h => ?_) (fun hb82 h => ?_)
   ·refine WO.callR (v := rB true) (u := []) rfl rfl (fun _ => rfl) rfl rfl rfl rfl rfl (kL hx81) rfl rfl (congrArg (fun b => RV.d (.bool b)) hb82) rfl<|sM rfl<|k3<|k3<|sK<|sK<|sT ?_
    refine sN<|sO<|cT<|qX<|qE<|WC.region rfl rfl<|sM rfl<|sV (rI (rW (s74 + (1 : Int))))<|sA rfl<|sN ?_
    cases oI h
    exact ⟨rfl, rfl⟩
   refine WO.callR (v := rB false) (u := []) rfl rfl (fun _ => rfl) rfl rfl rfl rfl rfl (kL hx81) rfl rfl (congrArg (fun b => RV.d (.bool b)) hb82) rfl<|sM rfl<|sV (.d (aX.pd a0))<|sM rfl<|sM rfl<|bE h fun x83 hx83 h => eG hx83 rfl<|sV (.d (ar.pd x83))<|sM rfl<|bE h fun x84 hx84 h => cD (ref35_Timely_ev hx84)<|sV (rB (!x84))<|sF h (fun h => ?_) fun h => ?_
   ·refine sN<|sO<|cT<|qX<|qE<|WC.region rfl rfl<|sM rfl<|sV (rI (rW (s74 + (1 : Int))))<|sA rfl<|sN ?_
    cases oI h
    exact ⟨rfl, rfl⟩
   refine sN<|sO<|cF<|qK<|WC.regionDSeq rfl rfl<|sM rfl<|sM rfl<|WO.lenR rfl rfl rfl rfl rfl rfl rfl rfl rfl<|sV (rI (rW (a2 + (s76.length : Int))))<|sM rfl<|sM rfl<|bE h fun x86 hx86 h => eG hx86 rfl<|sV (.cptr [.str x86.ak.ah.aC, .str x86.ak.ah.aE, .str x86.ak.ah.ac, .str x86.ak.ah.aD, .int .i64 x86.ak.aF, .int .i64 x86.ak.aJ, .int .i64 x86.ak.aN, .int .i64 x86.ak.au, .int .i64 x86.ak.av, .lst (x86.aa.aK.map ag.pd), .int .i64 x86.aa.ac.aA.fX, .int .i64 x86.aa.ac.aA.fY, .int .i64 x86.aa.ac.aA.fZ, .int .i64 x86.aa.ac.aF, .int .i64 x86.aa.ac.aO, .int .i64 x86.aa.ac.aV, .int .i64 x86.aa.ac.ap.aI.fX, .int .i64 x86.aa.ac.ap.aI.fY, .int .i64 x86.aa.ac.ap.aI.fZ, .int .i64 x86.aa.ac.ap.az.fX, .int .i64 x86.aa.ac.ap.az.fY, .int .i64 x86.aa.ac.ap.az.fZ, .int .i64 x86.aa.aq.aI, .int .i64 x86.aa.aq.az, .int .i64 x86.aa.aU])<|sV (.d (ag.pd x86.ak))<|sV (.d (aX.pd a0)) ?_
   refine sM rfl<|sM rfl<|bE h fun x87 hx87 h => eG hx87 rfl<|sV (.d (ar.pd x87))<|bE h fun x88 hx88 h => cD (dY hx88)<|sM rfl<|sM rfl<|bE h fun x89 hx89 h => eG hx89 rfl<|sV (.d (ar.pd x89))<|sM rfl<|sG (.d (aL.pd (aL.mk (rW (a2 + (s76.length : Int))) false x86.ak x88 x89 a4)))<|sB (.ptr 352 0) 352 (.var [r0, rB false, rS [], rS [], rS [], rS [], r0, r0, r0, r0, r0, r0, rS [], rS [], rS [], rS [], r0, r0, r0, r0, r0, .nils, r0, r0, r0, r0, r0, r0, r0, r0, r0, r0, r0, r0, r0, r0, r0, r0]) ?_
   refine sH 352 (.var [rI (rW (a2 + (s76.length : Int))), rB false, rS x86.ak.ah.aC, rS x86.ak.ah.aE, rS x86.ak.ah.ac, rS x86.ak.ah.aD, rI x86.ak.aF, rI x86.ak.aJ, rI x86.ak.aN, rI x86.ak.au, rI x86.ak.av, rI x88, rS x89.ak.ah.aC, rS x89.ak.ah.aE, rS x89.ak.ah.ac, rS x89.ak.ah.aD, rI x89.ak.aF, rI x89.ak.aJ, rI x89.ak.aN, rI x89.ak.au, rI x89.ak.av, .d (.lst (x89.aa.aK.map ag.pd)), rI x89.aa.ac.aA.fX, rI x89.aa.ac.aA.fY, rI x89.aa.ac.aA.fZ, rI x89.aa.ac.aF, rI x89.aa.ac.aO, rI x89.aa.ac.aV, rI x89.aa.ac.ap.aI.fX, rI x89.aa.ac.ap.aI.fY, rI x89.aa.ac.ap.aI.fZ, rI x89.aa.ac.ap.az.fX, rI x89.aa.ac.ap.az.fY, rI x89.aa.ac.ap.az.fZ, rI x89.aa.aq.aI, rI x89.aa.aq.az, rI x89.aa.aU, rI a4]) ?_
   refine sN<|sO<|gS rfl rfl<|sM rfl<|sV (.ptr 352 0)<|sL rfl<|sV (.ptr 352 0)<|sL rfl<|sM rfl<|sV (.ptr 352 11)<|sL rfl<|sV (.ptr 352 12)<|sV (.d (ar.pd x89))<|sG (.d (ai.pd (ai.mk (rW (a2 + (s76.length : Int))) 1 (rW (a2 + (s76.length : Int))) a4 x88 x89)))<|sG (.d (.lst ([(ai.mk (rW (a2 + (s76.length : Int))) 1 (rW (a2 + (s76.length : Int))) a4 x88 x89)].map ai.pd)))<|bE h fun x90 hx90 h => ?_
   refine aR hx90 (fun _ => rfl) rfl<|sA rfl<|sN<|WC.region rfl rfl<|sM rfl<|sV (.d (aL.pd (aL.mk (rW (a2 + (s76.length : Int))) false x86.ak x88 x89 a4)))<|sG (.d (.lst ([(aL.mk (rW (a2 + (s76.length : Int))) false x86.ak x88 x89 a4)].map aL.pd)))<|bE h fun x91 hx91 h => aR hx91 (fun _ => rfl) rfl<|sA rfl<|sN<|WC.region rfl rfl<|sM rfl<|sV (rI (rW (s74 + (1 : Int))))<|sA rfl ?_
   refine sN ?_
   cases oI h
   exact ⟨rfl, rfl⟩
  refine sN<|cF<|qX ?_
  cases oI h
  exact ⟨nofun, rfl, rfl⟩
 intro e R' B' he hq
 obtain ⟨rfl, hI⟩ := hq
 refine qE<|qS<|gS rfl hI<|sM rfl<|WO.lenR rfl rfl rfl rfl rfl rfl rfl rfl rfl<|sF h (fun h => ?_) fun h => ?_
 ·refine sM rfl<|k3<|k3<|k3<|sK<|sT<|sN<|cT<|gS rfl rfl ?_
  refine sV .nils<|sV .nils<|sV (rI 8)<|sN<|qR ?_
  cases oI h
  exact qD
 refine sM rfl<|sM rfl<|sM rfl<|WO.lenR rfl rfl rfl rfl rfl rfl rfl rfl rfl<|sV (rI (rW (a2 + (o93.2.length : Int))))<|sF h (fun h => ?_) fun h => ?_
 ·refine sM rfl<|sM rfl<|WO.lenR rfl rfl rfl rfl rfl rfl rfl rfl rfl<|sV (rB (decide ((o93.2.length : Int) > (0 : Int))))<|sV (rB (decide ((o93.2.length : Int) > (0 : Int))))<|sF h (fun h => ?_) fun h => ?_
  ·refine sN<|cT<|gS rfl rfl<|sV .nils<|sV .nils<|sV (rI 8)<|sN<|qR ?_
   cases oI h
   exact qD
  refine sN<|cF<|qK<|gS rfl rfl<|sM rfl<|sM rfl<|sA rfl<|sA rfl<|sV (r0)<|sN<|qR ?_
  cases oI h
  exact qD
 refine sM rfl<|k3<|sU<|sU<|sN<|cF<|qK<|gS rfl rfl<|sM rfl<|sM rfl<|sA rfl<|sA rfl<|sV (r0) ?_
 refine sN<|qR ?_
 cases oI h
 exact qD
theorem law37_told_ev {a1 : Int} {d0 : aH} {r : (List ai) × aH} (h : jq a1 d0 = some r) : EvP prog aM ext 12 [.ptr 0 0, rI a1] [.var [.d (.lst (d0.fL.map (PD.int .i64))), rI d0.fAt]] (.d (.lst (r.1.map ai.pd)), [.var [.d (.lst (r.2.fL.map (PD.int .i64))), rI r.2.fAt]]) := by
 refine Ev.body rfl Tryz.func12 rfl (by kernel_rfl)<|gS rfl rfl<|sV .nils<|sN<|gS rfl rfl<|sV .nils<|sN<|gS rfl rfl<|sV .nils<|sN<|gS rfl rfl<|sM rfl<|bE h fun x1 hx1 h => cR (.d (aX.pd x1.1)) [(0, .var [.d (.lst (x1.2.fL.map (PD.int .i64))), rI x1.2.fAt])] (Src_Policy_ev hx1)<|sB (.ptr 112 0) 112 (.var [.nils, r0, r0]) ?_
 refine sS 112 (.var [.d (.lst (x1.1.bN.map bj.pd)), rI x1.1.bO, rI x1.1.dP])<|sV (rI 1000)<|sN<|qS<|gS rfl rfl<|sV (r0)<|sN<|bE h fun o19 ho19 h => WC.block (WC.loop (WL.ofLoop ho19 (fun s R' B' => ghosts prog 1 (A R' B') (aM.at_ 12 1 5) = some (A [(0, .ptr 0 0), (1, rI a1), (5, .d (.lst (s.1.map aL.pd))), (6, .ref 656 0), (7, .ptr 112 0), (8, rI s.2.1), (9, rI s.2.2.1)] [(0, .var [.d (.lst (s.2.2.2.1.map (PD.int .i64))), rI s.2.2.2.2.1]), (112, .var [.d (.lst (x1.1.bN.map bj.pd)), rI x1.1.bO, rI x1.1.dP]), (656, .arr 0 40 (s.2.2.2.2.2.map ai.pd))])) (fun o e R' B' => e = .exit 0 ∧ ghosts prog 1 (A R' B') (aM.at_ 12 1 11) = some (A [(6, .ref 656 0)] [(0, .var [.d (.lst (o.2.1.map (PD.int .i64))), rI o.2.2]), (656, .arr 0 40 (o.1.map ai.pd))])) rfl ?_ ?_))
 ·rintro ⟨s2, s3, s4, s5, s6, s7⟩ R' B' q11 hI h
  refine qS<|gS rfl hI<|sM rfl<|sM rfl<|sF h (fun h => ?_) fun h => ?_
  ·refine sN<|cT<|qK<|qS<|qB<|gS rfl rfl<|sM rfl<|sM rfl<|bE h fun x13 hx13 h => cR (rI x13.1) [(0, .var [.d (.lst (x13.2.fL.map (PD.int .i64))), rI x13.2.fAt])] (b9 hx13)<|sV (rI (rW (s3 + x13.1)))<|sA rfl<|sN<|WC.regionDSeq rfl rfl<|sV (.d (.agg [.lst (x1.1.bN.map bj.pd), .int .i64 x1.1.bO, .int .i64 x1.1.dP])) ?_
   refine sM rfl<|sM rfl<|WO.lenR rfl rfl rfl rfl rfl rfl rfl rfl rfl<|sM rfl<|bE h fun x14 hx14 h => cR (.d (.lst (x14.1.map ar.pd))) [(0, .var [.d (.lst (x14.2.fL.map (PD.int .i64))), rI x14.2.fAt])] (Src_Events_ev hx14)<|sM rfl<|bE h fun x15 hx15 h => cR (.tup [.d (.lst (x15.1.map aL.pd)), .d (.lst (x15.2.1.map ai.pd)), rI x15.2.2]) [] (ref36_Step_ev hx15)<|sM rfl<|sV (.d (.lst (x15.1.map aL.pd)))<|sV (.d (.lst (x15.2.1.map ai.pd)))<|sV (rI x15.2.2)<|sA rfl<|sA rfl ?_
   refine sA rfl ?_
   refine sN<|sO<|gS rfl rfl<|sM rfl<|sF h (fun h => ?_) fun h => ?_
   ·refine sN<|cT<|WC.region rfl rfl<|sM rfl<|sM rfl<|sM rfl<|bE h fun x17 hx17 h => aR hx17 (fun _ => rfl) rfl<|sA rfl<|sA rfl<|sN<|WC.region rfl rfl<|sM rfl<|sV (rI (rW (s4 + (1 : Int))))<|sA rfl ?_
    refine sN ?_
    cases oI h
    exact ⟨rfl, rfl⟩
   refine sN<|cF<|qK<|WC.region rfl rfl<|sM rfl<|sV (rI (rW (s4 + (1 : Int))))<|sA rfl<|sN ?_
   cases oI h
   exact ⟨rfl, rfl⟩
  refine sN<|cF<|qX ?_
  cases oI h
  exact ⟨nofun, rfl, rfl⟩
 intro e R' B' he hq
 obtain ⟨rfl, hI⟩ := hq
 refine qE<|gS rfl hI<|sM rfl<|sA rfl<|sN<|qR ?_
 cases oI h
 exact qD
theorem Src_BentPick_ev {a1 : ag} {d0 : aH} {r : ag × aH} (h : hH a1 d0 = some r) : EvP prog aM ext 35 [.ptr 0 0, .d (ag.pd a1)] [.var [.d (.lst (d0.fL.map (PD.int .i64))), rI d0.fAt]] (.d (ag.pd r.1), [.var [.d (.lst (r.2.fL.map (PD.int .i64))), rI r.2.fAt]]) := by
 refine Ev.body rfl Tryz.func35 rfl (by kernel_rfl)<|gS rfl rfl<|sB (.ptr 48 0) 48 (.var (ag.rc a1))<|sB (.ptr 64 0) 64 (.var zZ7)<|sN<|qS<|gS rfl rfl<|sM rfl<|bE h fun x1 hx1 h => cR (rI x1.1) [(0, .var [.d (.lst (x1.2.fL.map (PD.int .i64))), rI x1.2.fAt])] (b9 hx1)<|sN<|qB<|gS rfl rfl<|sF h (fun h => ?_) fun h => ?_
 ·refine sA rfl<|sN<|cT<|WC.region rfl rfl<|sV (.ptr 48 0)<|sV (.ptr 48 1)<|sS 48 (.var [rS a1.ah.aC, rS [], rS a1.ah.ac, rS a1.ah.aD, rI a1.aF, rI a1.aJ, rI a1.aN, rI a1.au, rI a1.av])<|sN<|gS rfl rfl<|sV (.d (ag.pd (ag.mk (am.mk a1.ah.aC [] a1.ah.ac a1.ah.aD) a1.aF a1.aJ a1.aN a1.au a1.av)))<|sH 64 (.var [rS a1.ah.aC, rS [], rS a1.ah.ac, rS a1.ah.aD, rI a1.aF, rI a1.aJ, rI a1.aN, rI a1.au, rI a1.av])<|sN<|qR ?_
  cases oI h
  exact qG
 refine sA rfl<|sN<|cF<|gS rfl rfl<|sF h (fun h => ?_) fun h => ?_
 ·refine sA rfl<|sN<|cT<|WC.region rfl rfl<|sV (.ptr 48 4)<|sL rfl<|sV (rI (rW (a1.aF + (1 : Int))))<|sV (.ptr 48 5)<|sS 48 (.var [rS a1.ah.aC, rS a1.ah.aE, rS a1.ah.ac, rS a1.ah.aD, rI a1.aF, rI (rW (a1.aF + (1 : Int))), rI a1.aN, rI a1.au, rI a1.av])<|sN<|gS rfl rfl<|sV (.d (ag.pd (ag.mk a1.ah a1.aF (rW (a1.aF + (1 : Int))) a1.aN a1.au a1.av)))<|sH 64 (.var [rS a1.ah.aC, rS a1.ah.aE, rS a1.ah.ac, rS a1.ah.aD, rI a1.aF, rI (rW (a1.aF + (1 : Int))), rI a1.aN, rI a1.au, rI a1.av])<|sN<|qR ?_
  cases oI h
  exact qG
 refine sA rfl<|sN<|cF<|gS rfl rfl<|sF h (fun h => ?_) fun h => ?_
 ·refine sA rfl<|sN<|cT<|WC.region rfl rfl<|sM rfl<|sV (.d (.lst ([0, 18014398509481984, 18014398509481985].map (PD.int .i64))))<|bE h fun x5 hx5 h => cR (rI x5.1) [(0, .var [.d (.lst (x5.2.fL.map (PD.int .i64))), rI x5.2.fAt])] (dg hx5)<|sV (.ptr 48 6)<|sS 48 (.var [rS a1.ah.aC, rS a1.ah.aE, rS a1.ah.ac, rS a1.ah.aD, rI a1.aF, rI a1.aJ, rI x5.1, rI a1.au, rI a1.av])<|sN<|gS rfl rfl<|sV (.d (ag.pd (ag.mk a1.ah a1.aF a1.aJ x5.1 a1.au a1.av)))<|sH 64 (.var [rS a1.ah.aC, rS a1.ah.aE, rS a1.ah.ac, rS a1.ah.aD, rI a1.aF, rI a1.aJ, rI x5.1, rI a1.au, rI a1.av])<|sN ?_
  refine qR ?_
  cases oI h
  exact qG
 refine sA rfl<|sN<|cF<|gS rfl rfl<|sF h (fun h => ?_) fun h => ?_
 ·refine sA rfl<|sN<|cT<|WC.region rfl rfl<|sM rfl<|sV (.d (.lst ([-1, 0, 1073741823, 1073741824].map (PD.int .i64))))<|bE h fun x7 hx7 h => cR (rI x7.1) [(0, .var [.d (.lst (x7.2.fL.map (PD.int .i64))), rI x7.2.fAt])] (dg hx7)<|sV (.ptr 48 7)<|sS 48 (.var [rS a1.ah.aC, rS a1.ah.aE, rS a1.ah.ac, rS a1.ah.aD, rI a1.aF, rI a1.aJ, rI a1.aN, rI x7.1, rI a1.av])<|sN<|gS rfl rfl<|sV (.d (ag.pd (ag.mk a1.ah a1.aF a1.aJ a1.aN x7.1 a1.av)))<|sH 64 (.var [rS a1.ah.aC, rS a1.ah.aE, rS a1.ah.ac, rS a1.ah.aD, rI a1.aF, rI a1.aJ, rI a1.aN, rI x7.1, rI a1.av])<|sN ?_
  refine qR ?_
  cases oI h
  exact qG
 refine sA rfl<|sN<|cF<|WC.region rfl rfl<|sM rfl<|bE h fun x8 hx8 h => cR (rI x8.1) [(0, .var [.d (.lst (x8.2.fL.map (PD.int .i64))), rI x8.2.fAt])] (b9 hx8)<|sV (rI (rW (x8.1 - (2 : Int))))<|sV (.ptr 48 8)<|sS 48 (.var [rS a1.ah.aC, rS a1.ah.aE, rS a1.ah.ac, rS a1.ah.aD, rI a1.aF, rI a1.aJ, rI a1.aN, rI a1.au, rI (rW (x8.1 - (2 : Int)))])<|sN<|gS rfl rfl<|sV (.d (ag.pd (ag.mk a1.ah a1.aF a1.aJ a1.aN a1.au (rW (x8.1 - (2 : Int))))))<|sH 64 (.var [rS a1.ah.aC, rS a1.ah.aE, rS a1.ah.ac, rS a1.ah.aD, rI a1.aF, rI a1.aJ, rI a1.aN, rI a1.au, rI (rW (x8.1 - (2 : Int)))])<|sN ?_
 refine qR ?_
 cases oI h
 exact qG
theorem iX {a1 : ai} {d0 : aH} {r : ai × aH} (h : gm a1 d0 = some r) : EvP prog aM ext 13 [.ptr 0 0, .d (ai.pd a1)] [.var [.d (.lst (d0.fL.map (PD.int .i64))), rI d0.fAt]] (.d (ai.pd r.1), [.var [.d (.lst (r.2.fL.map (PD.int .i64))), rI r.2.fAt]]) := by
 refine Ev.body rfl Tryz.func13 rfl (by kernel_rfl)<|gS rfl rfl<|sB (.ptr 48 0) 48 (.var (ai.rc a1))<|sB (.ptr 64 0) 64 (.var zZ0)<|sN<|gS rfl rfl<|sM rfl<|sG (.d (.lst ([-1, 0, 1, 1152921504606846976, 1152921504606846977, -1152921504606846976, -1152921504606846977].map (PD.int .i64))))<|bE h fun x1 hx1 h => cR (rI x1.1) [(0, .var [.d (.lst (x1.2.fL.map (PD.int .i64))), rI x1.2.fAt])] (dg hx1)<|sA rfl<|sN<|qS<|gS rfl rfl<|sM rfl ?_
 refine bE h fun x2 hx2 h => cR (rI x2.1) [(0, .var [.d (.lst (x2.2.fL.map (PD.int .i64))), rI x2.2.fAt])] (b9 hx2)<|sN<|qB<|gS rfl rfl<|sF h (fun h => ?_) fun h => ?_
 ·refine sA rfl<|sN<|cT<|WC.region rfl rfl<|sM rfl<|sV (.d (.lst ([-1, 0, 1, 999, 1000].map (PD.int .i64))))<|bE h fun x4 hx4 h => cR (rI x4.1) [(0, .var [.d (.lst (x4.2.fL.map (PD.int .i64))), rI x4.2.fAt])] (dg hx4)<|sV (.ptr 48 0)<|sS 48 (.var [rI x4.1, rI a1.bh, rI a1.fID, rI a1.fAt, rI a1.aW, rS a1.ae.ak.ah.aC, rS a1.ae.ak.ah.aE, rS a1.ae.ak.ah.ac, rS a1.ae.ak.ah.aD, rI a1.ae.ak.aF, rI a1.ae.ak.aJ, rI a1.ae.ak.aN, rI a1.ae.ak.au, rI a1.ae.ak.av, .d (.lst (a1.ae.aa.aK.map ag.pd)), rI a1.ae.aa.ac.aA.fX, rI a1.ae.aa.ac.aA.fY, rI a1.ae.aa.ac.aA.fZ, rI a1.ae.aa.ac.aF, rI a1.ae.aa.ac.aO, rI a1.ae.aa.ac.aV, rI a1.ae.aa.ac.ap.aI.fX, rI a1.ae.aa.ac.ap.aI.fY, rI a1.ae.aa.ac.ap.aI.fZ, rI a1.ae.aa.ac.ap.az.fX, rI a1.ae.aa.ac.ap.az.fY, rI a1.ae.aa.ac.ap.az.fZ, rI a1.ae.aa.aq.aI, rI a1.ae.aa.aq.az, rI a1.ae.aa.aU])<|sN<|gS rfl rfl<|sV (.d (ai.pd (ai.mk x4.1 a1.bh a1.fID a1.fAt a1.aW a1.ae)))<|sH 64 (.var [rI x4.1, rI a1.bh, rI a1.fID, rI a1.fAt, rI a1.aW, rS a1.ae.ak.ah.aC, rS a1.ae.ak.ah.aE, rS a1.ae.ak.ah.ac, rS a1.ae.ak.ah.aD, rI a1.ae.ak.aF, rI a1.ae.ak.aJ, rI a1.ae.ak.aN, rI a1.ae.ak.au, rI a1.ae.ak.av, .d (.lst (a1.ae.aa.aK.map ag.pd)), rI a1.ae.aa.ac.aA.fX, rI a1.ae.aa.ac.aA.fY, rI a1.ae.aa.ac.aA.fZ, rI a1.ae.aa.ac.aF, rI a1.ae.aa.ac.aO, rI a1.ae.aa.ac.aV, rI a1.ae.aa.ac.ap.aI.fX, rI a1.ae.aa.ac.ap.aI.fY, rI a1.ae.aa.ac.ap.aI.fZ, rI a1.ae.aa.ac.ap.az.fX, rI a1.ae.aa.ac.ap.az.fY, rI a1.ae.aa.ac.ap.az.fZ, rI a1.ae.aa.aq.aI, rI a1.ae.aa.aq.az, rI a1.ae.aa.aU])<|sN ?_
  refine qR ?_
  cases oI h
  exact qG
 refine sA rfl<|sN<|cF<|gS rfl rfl<|sF h (fun h => ?_) fun h => ?_
 ·refine sA rfl<|sN<|cT<|WC.region rfl rfl<|sM rfl<|bE h fun x6 hx6 h => cR (rI x6.1) [(0, .var [.d (.lst (x6.2.fL.map (PD.int .i64))), rI x6.2.fAt])] (b9 hx6)<|sV (.ptr 48 1)<|sS 48 (.var [rI a1.aQ, rI x6.1, rI a1.fID, rI a1.fAt, rI a1.aW, rS a1.ae.ak.ah.aC, rS a1.ae.ak.ah.aE, rS a1.ae.ak.ah.ac, rS a1.ae.ak.ah.aD, rI a1.ae.ak.aF, rI a1.ae.ak.aJ, rI a1.ae.ak.aN, rI a1.ae.ak.au, rI a1.ae.ak.av, .d (.lst (a1.ae.aa.aK.map ag.pd)), rI a1.ae.aa.ac.aA.fX, rI a1.ae.aa.ac.aA.fY, rI a1.ae.aa.ac.aA.fZ, rI a1.ae.aa.ac.aF, rI a1.ae.aa.ac.aO, rI a1.ae.aa.ac.aV, rI a1.ae.aa.ac.ap.aI.fX, rI a1.ae.aa.ac.ap.aI.fY, rI a1.ae.aa.ac.ap.aI.fZ, rI a1.ae.aa.ac.ap.az.fX, rI a1.ae.aa.ac.ap.az.fY, rI a1.ae.aa.ac.ap.az.fZ, rI a1.ae.aa.aq.aI, rI a1.ae.aa.aq.az, rI a1.ae.aa.aU])<|sN<|gS rfl rfl<|sV (.d (ai.pd (ai.mk a1.aQ x6.1 a1.fID a1.fAt a1.aW a1.ae)))<|sH 64 (.var [rI a1.aQ, rI x6.1, rI a1.fID, rI a1.fAt, rI a1.aW, rS a1.ae.ak.ah.aC, rS a1.ae.ak.ah.aE, rS a1.ae.ak.ah.ac, rS a1.ae.ak.ah.aD, rI a1.ae.ak.aF, rI a1.ae.ak.aJ, rI a1.ae.ak.aN, rI a1.ae.ak.au, rI a1.ae.ak.av, .d (.lst (a1.ae.aa.aK.map ag.pd)), rI a1.ae.aa.ac.aA.fX, rI a1.ae.aa.ac.aA.fY, rI a1.ae.aa.ac.aA.fZ, rI a1.ae.aa.ac.aF, rI a1.ae.aa.ac.aO, rI a1.ae.aa.ac.aV, rI a1.ae.aa.ac.ap.aI.fX, rI a1.ae.aa.ac.ap.aI.fY, rI a1.ae.aa.ac.ap.aI.fZ, rI a1.ae.aa.ac.ap.az.fX, rI a1.ae.aa.ac.ap.az.fY, rI a1.ae.aa.ac.ap.az.fZ, rI a1.ae.aa.aq.aI, rI a1.ae.aa.aq.az, rI a1.ae.aa.aU])<|sN<|qR ?_
  cases oI h
  exact qG
 refine sA rfl<|sN<|cF<|gS rfl rfl<|sF h (fun h => ?_) fun h => ?_
 ·refine sA rfl<|sN<|cT<|WC.region rfl rfl<|sM rfl<|bE h fun x8 hx8 h => cR (rI x8.1) [(0, .var [.d (.lst (x8.2.fL.map (PD.int .i64))), rI x8.2.fAt])] (b9 hx8)<|sV (rI (rW (x8.1 - (1 : Int))))<|sV (.ptr 48 2)<|sS 48 (.var [rI a1.aQ, rI a1.bh, rI (rW (x8.1 - (1 : Int))), rI a1.fAt, rI a1.aW, rS a1.ae.ak.ah.aC, rS a1.ae.ak.ah.aE, rS a1.ae.ak.ah.ac, rS a1.ae.ak.ah.aD, rI a1.ae.ak.aF, rI a1.ae.ak.aJ, rI a1.ae.ak.aN, rI a1.ae.ak.au, rI a1.ae.ak.av, .d (.lst (a1.ae.aa.aK.map ag.pd)), rI a1.ae.aa.ac.aA.fX, rI a1.ae.aa.ac.aA.fY, rI a1.ae.aa.ac.aA.fZ, rI a1.ae.aa.ac.aF, rI a1.ae.aa.ac.aO, rI a1.ae.aa.ac.aV, rI a1.ae.aa.ac.ap.aI.fX, rI a1.ae.aa.ac.ap.aI.fY, rI a1.ae.aa.ac.ap.aI.fZ, rI a1.ae.aa.ac.ap.az.fX, rI a1.ae.aa.ac.ap.az.fY, rI a1.ae.aa.ac.ap.az.fZ, rI a1.ae.aa.aq.aI, rI a1.ae.aa.aq.az, rI a1.ae.aa.aU])<|sN<|gS rfl rfl<|sV (.d (ai.pd (ai.mk a1.aQ a1.bh (rW (x8.1 - (1 : Int))) a1.fAt a1.aW a1.ae)))<|sH 64 (.var [rI a1.aQ, rI a1.bh, rI (rW (x8.1 - (1 : Int))), rI a1.fAt, rI a1.aW, rS a1.ae.ak.ah.aC, rS a1.ae.ak.ah.aE, rS a1.ae.ak.ah.ac, rS a1.ae.ak.ah.aD, rI a1.ae.ak.aF, rI a1.ae.ak.aJ, rI a1.ae.ak.aN, rI a1.ae.ak.au, rI a1.ae.ak.av, .d (.lst (a1.ae.aa.aK.map ag.pd)), rI a1.ae.aa.ac.aA.fX, rI a1.ae.aa.ac.aA.fY, rI a1.ae.aa.ac.aA.fZ, rI a1.ae.aa.ac.aF, rI a1.ae.aa.ac.aO, rI a1.ae.aa.ac.aV, rI a1.ae.aa.ac.ap.aI.fX, rI a1.ae.aa.ac.ap.aI.fY, rI a1.ae.aa.ac.ap.aI.fZ, rI a1.ae.aa.ac.ap.az.fX, rI a1.ae.aa.ac.ap.az.fY, rI a1.ae.aa.ac.ap.az.fZ, rI a1.ae.aa.aq.aI, rI a1.ae.aa.aq.az, rI a1.ae.aa.aU])<|sN ?_
  refine qR ?_
  cases oI h
  exact qG
 refine sA rfl<|sN<|cF<|gS rfl rfl<|sF h (fun h => ?_) fun h => ?_
 ·refine sA rfl<|sN<|cT<|WC.region rfl rfl<|sM rfl<|sV (.ptr 48 3)<|sS 48 (.var [rI a1.aQ, rI a1.bh, rI a1.fID, rI x1.1, rI a1.aW, rS a1.ae.ak.ah.aC, rS a1.ae.ak.ah.aE, rS a1.ae.ak.ah.ac, rS a1.ae.ak.ah.aD, rI a1.ae.ak.aF, rI a1.ae.ak.aJ, rI a1.ae.ak.aN, rI a1.ae.ak.au, rI a1.ae.ak.av, .d (.lst (a1.ae.aa.aK.map ag.pd)), rI a1.ae.aa.ac.aA.fX, rI a1.ae.aa.ac.aA.fY, rI a1.ae.aa.ac.aA.fZ, rI a1.ae.aa.ac.aF, rI a1.ae.aa.ac.aO, rI a1.ae.aa.ac.aV, rI a1.ae.aa.ac.ap.aI.fX, rI a1.ae.aa.ac.ap.aI.fY, rI a1.ae.aa.ac.ap.aI.fZ, rI a1.ae.aa.ac.ap.az.fX, rI a1.ae.aa.ac.ap.az.fY, rI a1.ae.aa.ac.ap.az.fZ, rI a1.ae.aa.aq.aI, rI a1.ae.aa.aq.az, rI a1.ae.aa.aU])<|sN<|gS rfl rfl<|sV (.d (ai.pd (ai.mk a1.aQ a1.bh a1.fID x1.1 a1.aW a1.ae)))<|sH 64 (.var [rI a1.aQ, rI a1.bh, rI a1.fID, rI x1.1, rI a1.aW, rS a1.ae.ak.ah.aC, rS a1.ae.ak.ah.aE, rS a1.ae.ak.ah.ac, rS a1.ae.ak.ah.aD, rI a1.ae.ak.aF, rI a1.ae.ak.aJ, rI a1.ae.ak.aN, rI a1.ae.ak.au, rI a1.ae.ak.av, .d (.lst (a1.ae.aa.aK.map ag.pd)), rI a1.ae.aa.ac.aA.fX, rI a1.ae.aa.ac.aA.fY, rI a1.ae.aa.ac.aA.fZ, rI a1.ae.aa.ac.aF, rI a1.ae.aa.ac.aO, rI a1.ae.aa.ac.aV, rI a1.ae.aa.ac.ap.aI.fX, rI a1.ae.aa.ac.ap.aI.fY, rI a1.ae.aa.ac.ap.aI.fZ, rI a1.ae.aa.ac.ap.az.fX, rI a1.ae.aa.ac.ap.az.fY, rI a1.ae.aa.ac.ap.az.fZ, rI a1.ae.aa.aq.aI, rI a1.ae.aa.aq.az, rI a1.ae.aa.aU])<|sN<|qR ?_
  cases oI h
  exact qG
 refine sA rfl<|sN<|cF<|gS rfl rfl<|sF h (fun h => ?_) fun h => ?_
 ·refine sA rfl<|sN<|cT<|WC.region rfl rfl<|sM rfl<|sV (.d (.lst ([-1, 0, 8, 9].map (PD.int .i64))))<|bE h fun x11 hx11 h => cR (rI x11.1) [(0, .var [.d (.lst (x11.2.fL.map (PD.int .i64))), rI x11.2.fAt])] (dg hx11)<|sV (.ptr 48 4)<|sS 48 (.var [rI a1.aQ, rI a1.bh, rI a1.fID, rI a1.fAt, rI x11.1, rS a1.ae.ak.ah.aC, rS a1.ae.ak.ah.aE, rS a1.ae.ak.ah.ac, rS a1.ae.ak.ah.aD, rI a1.ae.ak.aF, rI a1.ae.ak.aJ, rI a1.ae.ak.aN, rI a1.ae.ak.au, rI a1.ae.ak.av, .d (.lst (a1.ae.aa.aK.map ag.pd)), rI a1.ae.aa.ac.aA.fX, rI a1.ae.aa.ac.aA.fY, rI a1.ae.aa.ac.aA.fZ, rI a1.ae.aa.ac.aF, rI a1.ae.aa.ac.aO, rI a1.ae.aa.ac.aV, rI a1.ae.aa.ac.ap.aI.fX, rI a1.ae.aa.ac.ap.aI.fY, rI a1.ae.aa.ac.ap.aI.fZ, rI a1.ae.aa.ac.ap.az.fX, rI a1.ae.aa.ac.ap.az.fY, rI a1.ae.aa.ac.ap.az.fZ, rI a1.ae.aa.aq.aI, rI a1.ae.aa.aq.az, rI a1.ae.aa.aU])<|sN<|gS rfl rfl<|sV (.d (ai.pd (ai.mk a1.aQ a1.bh a1.fID a1.fAt x11.1 a1.ae)))<|sH 64 (.var [rI a1.aQ, rI a1.bh, rI a1.fID, rI a1.fAt, rI x11.1, rS a1.ae.ak.ah.aC, rS a1.ae.ak.ah.aE, rS a1.ae.ak.ah.ac, rS a1.ae.ak.ah.aD, rI a1.ae.ak.aF, rI a1.ae.ak.aJ, rI a1.ae.ak.aN, rI a1.ae.ak.au, rI a1.ae.ak.av, .d (.lst (a1.ae.aa.aK.map ag.pd)), rI a1.ae.aa.ac.aA.fX, rI a1.ae.aa.ac.aA.fY, rI a1.ae.aa.ac.aA.fZ, rI a1.ae.aa.ac.aF, rI a1.ae.aa.ac.aO, rI a1.ae.aa.ac.aV, rI a1.ae.aa.ac.ap.aI.fX, rI a1.ae.aa.ac.ap.aI.fY, rI a1.ae.aa.ac.ap.aI.fZ, rI a1.ae.aa.ac.ap.az.fX, rI a1.ae.aa.ac.ap.az.fY, rI a1.ae.aa.ac.ap.az.fZ, rI a1.ae.aa.aq.aI, rI a1.ae.aa.aq.az, rI a1.ae.aa.aU])<|sN ?_
  refine qR ?_
  cases oI h
  exact qG
 refine sA rfl<|sN<|cF<|gS rfl rfl<|sF h (fun h => ?_) fun h => ?_
 ·refine sA rfl<|sN<|cT<|WC.region rfl rfl<|sM rfl<|sV (.ptr 48 5)<|sV (.ptr 48 5)<|sV (.d (ag.pd a1.ae.ak))<|bE h fun x13 hx13 h => cR (.d (ag.pd x13.1)) [(0, .var [.d (.lst (x13.2.fL.map (PD.int .i64))), rI x13.2.fAt])] (Src_BentPick_ev hx13)<|sV (.ptr 48 5)<|sV (.ptr 48 5)<|sH 48 (.var [rI a1.aQ, rI a1.bh, rI a1.fID, rI a1.fAt, rI a1.aW, rS x13.1.ah.aC, rS x13.1.ah.aE, rS x13.1.ah.ac, rS x13.1.ah.aD, rI x13.1.aF, rI x13.1.aJ, rI x13.1.aN, rI x13.1.au, rI x13.1.av, .d (.lst (a1.ae.aa.aK.map ag.pd)), rI a1.ae.aa.ac.aA.fX, rI a1.ae.aa.ac.aA.fY, rI a1.ae.aa.ac.aA.fZ, rI a1.ae.aa.ac.aF, rI a1.ae.aa.ac.aO, rI a1.ae.aa.ac.aV, rI a1.ae.aa.ac.ap.aI.fX, rI a1.ae.aa.ac.ap.aI.fY, rI a1.ae.aa.ac.ap.aI.fZ, rI a1.ae.aa.ac.ap.az.fX, rI a1.ae.aa.ac.ap.az.fY, rI a1.ae.aa.ac.ap.az.fZ, rI a1.ae.aa.aq.aI, rI a1.ae.aa.aq.az, rI a1.ae.aa.aU])<|sN<|gS rfl rfl ?_
  refine sV (.d (ai.pd (ai.mk a1.aQ a1.bh a1.fID a1.fAt a1.aW (ar.mk x13.1 a1.ae.aa))))<|sH 64 (.var [rI a1.aQ, rI a1.bh, rI a1.fID, rI a1.fAt, rI a1.aW, rS x13.1.ah.aC, rS x13.1.ah.aE, rS x13.1.ah.ac, rS x13.1.ah.aD, rI x13.1.aF, rI x13.1.aJ, rI x13.1.aN, rI x13.1.au, rI x13.1.av, .d (.lst (a1.ae.aa.aK.map ag.pd)), rI a1.ae.aa.ac.aA.fX, rI a1.ae.aa.ac.aA.fY, rI a1.ae.aa.ac.aA.fZ, rI a1.ae.aa.ac.aF, rI a1.ae.aa.ac.aO, rI a1.ae.aa.ac.aV, rI a1.ae.aa.ac.ap.aI.fX, rI a1.ae.aa.ac.ap.aI.fY, rI a1.ae.aa.ac.ap.aI.fZ, rI a1.ae.aa.ac.ap.az.fX, rI a1.ae.aa.ac.ap.az.fY, rI a1.ae.aa.ac.ap.az.fZ, rI a1.ae.aa.aq.aI, rI a1.ae.aa.aq.az, rI a1.ae.aa.aU])<|sN<|qR ?_
  cases oI h
  exact qG
 refine sA rfl<|sN<|cF<|gS rfl rfl<|sF h (fun h => ?_) fun h => ?_
 ·refine sA rfl<|sN<|cT<|WC.region rfl rfl<|sM rfl<|sV (.ptr 48 5)<|sV (.ptr 48 14)<|sV (.ptr 48 15)<|sV (.ptr 48 21)<|sV (.ptr 48 24)<|sV (.ptr 48 25)<|sS 48 (.var [rI a1.aQ, rI a1.bh, rI a1.fID, rI a1.fAt, rI a1.aW, rS a1.ae.ak.ah.aC, rS a1.ae.ak.ah.aE, rS a1.ae.ak.ah.ac, rS a1.ae.ak.ah.aD, rI a1.ae.ak.aF, rI a1.ae.ak.aJ, rI a1.ae.ak.aN, rI a1.ae.ak.au, rI a1.ae.ak.av, .d (.lst (a1.ae.aa.aK.map ag.pd)), rI a1.ae.aa.ac.aA.fX, rI a1.ae.aa.ac.aA.fY, rI a1.ae.aa.ac.aA.fZ, rI a1.ae.aa.ac.aF, rI a1.ae.aa.ac.aO, rI a1.ae.aa.ac.aV, rI a1.ae.aa.ac.ap.aI.fX, rI a1.ae.aa.ac.ap.aI.fY, rI a1.ae.aa.ac.ap.aI.fZ, rI a1.ae.aa.ac.ap.az.fX, rI x1.1, rI a1.ae.aa.ac.ap.az.fZ, rI a1.ae.aa.aq.aI, rI a1.ae.aa.aq.az, rI a1.ae.aa.aU])<|sN<|gS rfl rfl<|sV (.d (ai.pd (ai.mk a1.aQ a1.bh a1.fID a1.fAt a1.aW (ar.mk a1.ae.ak (aw.mk a1.ae.aa.aK (aB.mk a1.ae.aa.ac.aA a1.ae.aa.ac.aF a1.ae.aa.ac.aO a1.ae.aa.ac.aV (aP.mk a1.ae.aa.ac.ap.aI (aj.mk a1.ae.aa.ac.ap.az.fX x1.1 a1.ae.aa.ac.ap.az.fZ))) a1.ae.aa.aq a1.ae.aa.aU))))) ?_
  refine sH 64 (.var [rI a1.aQ, rI a1.bh, rI a1.fID, rI a1.fAt, rI a1.aW, rS a1.ae.ak.ah.aC, rS a1.ae.ak.ah.aE, rS a1.ae.ak.ah.ac, rS a1.ae.ak.ah.aD, rI a1.ae.ak.aF, rI a1.ae.ak.aJ, rI a1.ae.ak.aN, rI a1.ae.ak.au, rI a1.ae.ak.av, .d (.lst (a1.ae.aa.aK.map ag.pd)), rI a1.ae.aa.ac.aA.fX, rI a1.ae.aa.ac.aA.fY, rI a1.ae.aa.ac.aA.fZ, rI a1.ae.aa.ac.aF, rI a1.ae.aa.ac.aO, rI a1.ae.aa.ac.aV, rI a1.ae.aa.ac.ap.aI.fX, rI a1.ae.aa.ac.ap.aI.fY, rI a1.ae.aa.ac.ap.aI.fZ, rI a1.ae.aa.ac.ap.az.fX, rI x1.1, rI a1.ae.aa.ac.ap.az.fZ, rI a1.ae.aa.aq.aI, rI a1.ae.aa.aq.az, rI a1.ae.aa.aU])<|sN<|qR ?_
  cases oI h
  exact qG
 refine sA rfl<|sN<|cF<|gS rfl rfl<|sF h (fun h => ?_) fun h => ?_
 ·refine sA rfl<|sN<|cT<|WC.region rfl rfl<|sM rfl<|sV (.ptr 48 5)<|sV (.ptr 48 14)<|sV (.ptr 48 27)<|sV (.ptr 48 27)<|sS 48 (.var [rI a1.aQ, rI a1.bh, rI a1.fID, rI a1.fAt, rI a1.aW, rS a1.ae.ak.ah.aC, rS a1.ae.ak.ah.aE, rS a1.ae.ak.ah.ac, rS a1.ae.ak.ah.aD, rI a1.ae.ak.aF, rI a1.ae.ak.aJ, rI a1.ae.ak.aN, rI a1.ae.ak.au, rI a1.ae.ak.av, .d (.lst (a1.ae.aa.aK.map ag.pd)), rI a1.ae.aa.ac.aA.fX, rI a1.ae.aa.ac.aA.fY, rI a1.ae.aa.ac.aA.fZ, rI a1.ae.aa.ac.aF, rI a1.ae.aa.ac.aO, rI a1.ae.aa.ac.aV, rI a1.ae.aa.ac.ap.aI.fX, rI a1.ae.aa.ac.ap.aI.fY, rI a1.ae.aa.ac.ap.aI.fZ, rI a1.ae.aa.ac.ap.az.fX, rI a1.ae.aa.ac.ap.az.fY, rI a1.ae.aa.ac.ap.az.fZ, rI x1.1, rI a1.ae.aa.aq.az, rI a1.ae.aa.aU])<|sN<|gS rfl rfl<|sV (.d (ai.pd (ai.mk a1.aQ a1.bh a1.fID a1.fAt a1.aW (ar.mk a1.ae.ak (aw.mk a1.ae.aa.aK a1.ae.aa.ac (aG.mk x1.1 a1.ae.aa.aq.az) a1.ae.aa.aU)))))<|sH 64 (.var [rI a1.aQ, rI a1.bh, rI a1.fID, rI a1.fAt, rI a1.aW, rS a1.ae.ak.ah.aC, rS a1.ae.ak.ah.aE, rS a1.ae.ak.ah.ac, rS a1.ae.ak.ah.aD, rI a1.ae.ak.aF, rI a1.ae.ak.aJ, rI a1.ae.ak.aN, rI a1.ae.ak.au, rI a1.ae.ak.av, .d (.lst (a1.ae.aa.aK.map ag.pd)), rI a1.ae.aa.ac.aA.fX, rI a1.ae.aa.ac.aA.fY, rI a1.ae.aa.ac.aA.fZ, rI a1.ae.aa.ac.aF, rI a1.ae.aa.ac.aO, rI a1.ae.aa.ac.aV, rI a1.ae.aa.ac.ap.aI.fX, rI a1.ae.aa.ac.ap.aI.fY, rI a1.ae.aa.ac.ap.aI.fZ, rI a1.ae.aa.ac.ap.az.fX, rI a1.ae.aa.ac.ap.az.fY, rI a1.ae.aa.ac.ap.az.fZ, rI x1.1, rI a1.ae.aa.aq.az, rI a1.ae.aa.aU])<|sN ?_
  refine qR ?_
  cases oI h
  exact qG
 refine sA rfl<|sN<|cF<|WC.region rfl rfl<|sM rfl<|sV (.d (.lst ([0, 1, 2].map (PD.int .i64))))<|bE h fun x16 hx16 h => cR (rI x16.1) [(0, .var [.d (.lst (x16.2.fL.map (PD.int .i64))), rI x16.2.fAt])] (dg hx16)<|bE h fun x17 hx17 h => WO.mkS (g := ag.pd) hx17 rfl rfl rfl rfl rfl rfl rfl rfl rfl rfl rfl<|sV (.ptr 48 5)<|sV (.ptr 48 14)<|sV (.ptr 48 14)<|sS 48 (.var [rI a1.aQ, rI a1.bh, rI a1.fID, rI a1.fAt, rI a1.aW, rS a1.ae.ak.ah.aC, rS a1.ae.ak.ah.aE, rS a1.ae.ak.ah.ac, rS a1.ae.ak.ah.aD, rI a1.ae.ak.aF, rI a1.ae.ak.aJ, rI a1.ae.ak.aN, rI a1.ae.ak.au, rI a1.ae.ak.av, .ref 224 0, rI a1.ae.aa.ac.aA.fX, rI a1.ae.aa.ac.aA.fY, rI a1.ae.aa.ac.aA.fZ, rI a1.ae.aa.ac.aF, rI a1.ae.aa.ac.aO, rI a1.ae.aa.ac.aV, rI a1.ae.aa.ac.ap.aI.fX, rI a1.ae.aa.ac.ap.aI.fY, rI a1.ae.aa.ac.ap.aI.fZ, rI a1.ae.aa.ac.ap.az.fX, rI a1.ae.aa.ac.ap.az.fY, rI a1.ae.aa.ac.ap.az.fZ, rI a1.ae.aa.aq.aI, rI a1.ae.aa.aq.az, rI a1.ae.aa.aU])<|sN ?_
 refine gS rfl rfl<|sV (.agg [rI a1.aQ, rI a1.bh, rI a1.fID, rI a1.fAt, rI a1.aW, rS a1.ae.ak.ah.aC, rS a1.ae.ak.ah.aE, rS a1.ae.ak.ah.ac, rS a1.ae.ak.ah.aD, rI a1.ae.ak.aF, rI a1.ae.ak.aJ, rI a1.ae.ak.aN, rI a1.ae.ak.au, rI a1.ae.ak.av, .ref 224 0, rI a1.ae.aa.ac.aA.fX, rI a1.ae.aa.ac.aA.fY, rI a1.ae.aa.ac.aA.fZ, rI a1.ae.aa.ac.aF, rI a1.ae.aa.ac.aO, rI a1.ae.aa.ac.aV, rI a1.ae.aa.ac.ap.aI.fX, rI a1.ae.aa.ac.ap.aI.fY, rI a1.ae.aa.ac.ap.aI.fZ, rI a1.ae.aa.ac.ap.az.fX, rI a1.ae.aa.ac.ap.az.fY, rI a1.ae.aa.ac.ap.az.fZ, rI a1.ae.aa.aq.aI, rI a1.ae.aa.aq.az, rI a1.ae.aa.aU])<|sH 64 (.var [rI a1.aQ, rI a1.bh, rI a1.fID, rI a1.fAt, rI a1.aW, rS a1.ae.ak.ah.aC, rS a1.ae.ak.ah.aE, rS a1.ae.ak.ah.ac, rS a1.ae.ak.ah.aD, rI a1.ae.ak.aF, rI a1.ae.ak.aJ, rI a1.ae.ak.aN, rI a1.ae.ak.au, rI a1.ae.ak.av, .ref 224 0, rI a1.ae.aa.ac.aA.fX, rI a1.ae.aa.ac.aA.fY, rI a1.ae.aa.ac.aA.fZ, rI a1.ae.aa.ac.aF, rI a1.ae.aa.ac.aO, rI a1.ae.aa.ac.aV, rI a1.ae.aa.ac.ap.aI.fX, rI a1.ae.aa.ac.ap.aI.fY, rI a1.ae.aa.ac.ap.aI.fZ, rI a1.ae.aa.ac.ap.az.fX, rI a1.ae.aa.ac.ap.az.fY, rI a1.ae.aa.ac.ap.az.fZ, rI a1.ae.aa.aq.aI, rI a1.ae.aa.aq.az, rI a1.ae.aa.aU])<|sN<|qR ?_
 cases oI h
 exact qG
theorem ex {a0 : (List UInt8)} {a1 : Int} {a2 : Int} {r : Bool} (h : eI a0 a1 a2 = some r) : EvP prog aM ext 112 [rS a0, rI a1, rI a2] [] (rB r, []) := by
 refine Ev.body rfl Tryz.func112 rfl (by kernel_rfl)<|gS rfl rfl<|sU<|sN<|qS<|gS rfl rfl<|sV (r0)<|sN<|bE h fun o17 ho17 h => WC.block (WC.loop (WL.ofLoop ho17 (fun s R' B' => ghosts prog 0 (A R' B') (aM.at_ 112 0 2) = some (A [(0, rS a0), (1, rI a1), (2, rI a2), (7, rI s)] [])) (fun o e R' B' => match o with | .inl y => e = .exit 0 ∧ ghosts prog 0 (A R' B') (aM.at_ 112 0 6) = some (A [(0, rS a0), (1, rI a1), (2, rI a2)] []) | .inr r => e = .ret ∧ finish prog (aM.own 112) Tryz.f112 0 (A R' B') = some (rB r, [])) rfl ?_ ?_))
 ·rintro s1 R' B' q2 hI h
  refine qS<|gS rfl hI<|sM rfl<|sM rfl<|sV (rI (a0.length : Int))<|sF h (fun h => ?_) fun h => ?_
  ·refine sN<|cT<|qK<|qS<|qB<|gS rfl rfl<|sM rfl<|sM rfl<|bE h fun x4 hx4 h => WO.byteG hx4 rfl rfl rfl rfl rfl rfl<|sF h (fun h => ?_) fun h => ?_
   ·refine sM rfl<|sM rfl<|sM rfl<|bE h fun x6 hx6 h => WO.byteG hx6 rfl rfl rfl rfl rfl rfl<|sV (rB (decide (x6 ≤ (90 : Int))))<|sF h (fun h => ?_) fun h => ?_
    ·refine sM rfl<|k3<|k3<|k3<|sK<|sT<|sU<|sN<|cF ?_
     refine qK<|WC.region rfl rfl<|sM rfl<|sV (rI (rW (s1 + (1 : Int))))<|sA rfl<|sN ?_
     cases oI h
     exact ⟨rfl, rfl⟩
    refine sM rfl<|sM rfl<|sM rfl<|bE h fun x8 hx8 h => WO.byteG hx8 rfl rfl rfl rfl rfl rfl<|sF h (fun h => ?_) fun h => ?_
    ·refine sM rfl<|sM rfl<|sM rfl<|bE h fun x10 hx10 h => WO.byteG hx10 rfl rfl rfl rfl rfl rfl<|sV (rB (decide (x10 ≤ (57 : Int))))<|sV (rB (decide (x10 ≤ (57 : Int))))<|sV (rB (decide (x10 ≤ (57 : Int))))<|sF h (fun h => ?_) fun h => ?_
     ·refine sN<|cT<|gS rfl rfl<|sU<|sN<|qR ?_
      cases oI h
      exact ⟨nofun, rfl, rfl⟩
     refine sN<|cF<|qK<|WC.region rfl rfl<|sM rfl<|sV (rI (rW (s1 + (1 : Int))))<|sA rfl<|sN ?_
     cases oI h
     exact ⟨rfl, rfl⟩
    refine sM rfl<|k3<|sK<|sU<|sU<|sT<|sN<|cT<|gS rfl rfl<|sU<|sN<|qR ?_
    cases oI h
    exact ⟨nofun, rfl, rfl⟩
   refine sM rfl<|k3<|sK<|sU<|sM rfl<|sM rfl<|sM rfl<|bE h fun x12 hx12 h => WO.byteG hx12 rfl rfl rfl rfl rfl rfl<|sF h (fun h => ?_) fun h => ?_
   ·refine sM rfl<|sM rfl<|sM rfl<|bE h fun x14 hx14 h => WO.byteG hx14 rfl rfl rfl rfl rfl rfl<|sV (rB (decide (x14 ≤ (57 : Int))))<|sV (rB (decide (x14 ≤ (57 : Int))))<|sV (rB (decide (x14 ≤ (57 : Int))))<|sF h (fun h => ?_) fun h => ?_
    ·refine sN<|cT<|gS rfl rfl<|sU<|sN<|qR ?_
     cases oI h
     exact ⟨nofun, rfl, rfl⟩
    refine sN<|cF<|qK<|WC.region rfl rfl<|sM rfl<|sV (rI (rW (s1 + (1 : Int))))<|sA rfl<|sN ?_
    cases oI h
    exact ⟨rfl, rfl⟩
   refine sM rfl<|k3<|sK<|sU<|sU<|sT<|sN<|cT<|gS rfl rfl<|sU<|sN<|qR ?_
   cases oI h
   exact ⟨nofun, rfl, rfl⟩
  refine sN<|cF<|qX ?_
  cases oI h
  exact ⟨nofun, rfl, rfl⟩
 intro e R' B' he hq
 rcases o17 with y18 | r19
 ·obtain ⟨rfl, hI⟩ := hq
  refine qE<|gS rfl hI<|sM rfl<|sV (rI (a0.length : Int))<|sM rfl<|sF h (fun h => ?_) fun h => ?_
  ·refine sM rfl<|sM rfl<|sV (rI (a0.length : Int))<|sM rfl<|sV (rB (decide ((a0.length : Int) ≤ a2)))<|sV (rB (decide ((a0.length : Int) ≤ a2)))<|sA rfl<|sN<|qR ?_
   cases oI h
   exact qD
  refine sM rfl<|k3<|sK<|sU<|sA rfl<|sN<|qR ?_
  cases oI h
  exact qD
 obtain ⟨rfl, hf⟩ := hq
 cases oI h
 exact hf
theorem fO {a0 : am} {r : Bool} (h : fx a0 = some r) : EvP prog aM ext 82 [.d (am.pd a0)] [] (rB r, []) := by
 refine Ev.body rfl Tryz.func82 rfl (by kernel_rfl)<|gS rfl rfl<|sB (.ptr 16 0) 16 (.var [rS a0.aC, rS a0.aE, rS a0.ac, rS a0.aD])<|sU<|sN<|gS rfl rfl<|sV (.ptr 16 0)<|sL rfl<|bE h fun x1 hx1 h => ite_elim h (fun hb2 h => ?_) (fun hb2 h => ?_)
 ·refine WO.callR (v := rB true) (u := []) rfl rfl (fun _ => rfl) rfl rfl rfl rfl rfl (ex hx1) rfl rfl (congrArg (fun b => RV.d (.bool b)) hb2) rfl<|sM rfl<|sV (.ptr 16 1)<|sL rfl<|bE h fun x3 hx3 h => cD (ex hx3)<|sF h (fun h => ?_) fun h => ?_
  ·refine sM rfl<|sV (.ptr 16 2)<|sL rfl<|sF h (fun h => ?_) fun h => ?_
   ·refine sM rfl<|k3<|sT<|sT<|sM rfl<|sV (.ptr 16 3)<|sL rfl<|bE h fun x6 hx6 h => cD (ex hx6)<|sV (rB x6)<|sA rfl<|sN<|qR ?_
    cases oI h
    exact qD
   refine sM rfl<|sV (.ptr 16 2)<|sL rfl<|bE h fun x7 hx7 h => cD (ex hx7)<|sV (rB x7)<|sF h (fun h => ?_) fun h => ?_
   ·refine sM rfl<|sV (.ptr 16 3)<|sL rfl<|bE h fun x9 hx9 h => cD (ex hx9)<|sV (rB x9)<|sA rfl<|sN<|qR ?_
    cases oI h
    exact qD
   refine sM rfl<|k3<|sU<|sA rfl<|sN<|qR ?_
   cases oI h
   exact qD
  refine sM rfl<|k3<|k3<|sK<|sK<|sU<|sM rfl<|k3<|sU ?_
  refine sA rfl<|sN<|qR ?_
  cases oI h
  exact qD
 refine WO.callR (v := rB false) (u := []) rfl rfl (fun _ => rfl) rfl rfl rfl rfl rfl (ex hx1) rfl rfl (congrArg (fun b => RV.d (.bool b)) hb2) rfl<|sM rfl<|k3<|sU<|sM rfl<|k3<|k3<|sK<|sK ?_
 refine sU<|sM rfl<|k3<|sU<|sA rfl<|sN<|qR ?_
 cases oI h
 exact qD
theorem ref01_In_ev {a0 : Int} {a1 : Int} {a2 : Int} {r : Bool} (h : lh a0 a1 a2 = some r) : EvP prog aM ext 83 [rI a0, rI a1, rI a2] [] (rB r, []) := by
 refine Ev.body rfl Tryz.func83 rfl (by kernel_rfl)<|gS rfl rfl<|sU<|sN<|gS rfl rfl<|sM rfl<|sM rfl<|sF h (fun h => ?_) fun h => ?_
 ·refine sM rfl<|sM rfl<|sM rfl<|sV (rB (decide (a0 ≤ a2)))<|sV (rB (decide (a0 ≤ a2)))<|sA rfl<|sN<|qR ?_
  cases oI h
  exact qD
 refine sM rfl<|k3<|sU<|sA rfl<|sN<|qR ?_
 cases oI h
 exact qD
theorem cZ {a0 : ag} {r : Bool} (h : ck a0 = some r) : EvP prog aM ext 45 [.d (ag.pd a0)] [] (rB r, []) := by
 refine Ev.body rfl Tryz.func45 rfl (by kernel_rfl)<|gS rfl rfl<|sB (.ptr 16 0) 16 (.var (ag.rc a0))<|sU<|sN<|gS rfl rfl<|sV (.ptr 16 0)<|sV (.d (am.pd a0.ah))<|bE h fun x1 hx1 h => ite_elim h (fun hb2 h => ?_) (fun hb2 h => ?_)
 ·refine WO.callR (v := rB true) (u := []) rfl rfl (fun _ => rfl) rfl rfl rfl rfl rfl (fO hx1) rfl rfl (congrArg (fun b => RV.d (.bool b)) hb2) rfl<|sM rfl<|sV (.ptr 16 5)<|sL rfl<|sV (rB (decide (a0.aJ ≥ (0 : Int))))<|sF h (fun h => ?_) fun h => ?_
  ·refine sM rfl<|sV (.ptr 16 5)<|sL rfl<|sV (.ptr 16 4)<|sL rfl<|sV (rB (decide (a0.aJ ≤ a0.aF)))<|sF h (fun h => ?_) fun h => ?_
   ·refine sM rfl<|sV (.ptr 16 4)<|sL rfl<|sV (.ptr 16 6)<|sL rfl<|sV (rB (decide (a0.aF ≤ a0.aN)))<|sF h (fun h => ?_) fun h => ?_
    ·refine sM rfl<|sV (.ptr 16 6)<|sL rfl<|sV (rB (decide (a0.aN ≤ (18014398509481984 : Int))))<|sF h (fun h => ?_) fun h => ?_
     ·refine sM rfl<|sV (.ptr 16 7)<|sL rfl<|bE h fun x7 hx7 h => cD (ref01_In_ev hx7)<|sF h (fun h => ?_) fun h => ?_
      ·refine sM rfl<|sV (.ptr 16 8)<|sL rfl<|bE h fun x9 hx9 h => cD (ref01_In_ev hx9)<|sV (rB x9)<|sA rfl<|sN<|qR ?_
       cases oI h
       exact qG
      refine sM rfl<|k3<|sU<|sA rfl<|sN<|qR ?_
      cases oI h
      exact qG
     refine sM rfl<|k3<|sU<|sM rfl<|k3<|sU<|sA rfl<|sN<|qR ?_
     cases oI h
     exact qG
    refine sM rfl<|k3<|sU<|sM rfl<|k3<|sU<|sM rfl<|k3<|sU ?_
    refine sA rfl<|sN<|qR ?_
    cases oI h
    exact qG
   refine sM rfl<|k3<|sK<|sK<|sU<|sM rfl<|k3<|sU<|sM rfl<|sK<|sK ?_
   refine sK<|sU<|sM rfl<|k3<|sU<|sA rfl<|sN<|qR ?_
   cases oI h
   exact qG
  refine sM rfl<|k3<|sK<|sK<|sU<|sM rfl<|k3<|sK<|sK<|sU<|sM rfl ?_
  refine k3<|sU<|sM rfl<|k3<|sU<|sM rfl<|k3<|sU<|sA rfl ?_
  refine sN<|qR ?_
  cases oI h
  exact qG
 refine WO.callR (v := rB false) (u := []) rfl rfl (fun _ => rfl) rfl rfl rfl rfl rfl (fO hx1) rfl rfl (congrArg (fun b => RV.d (.bool b)) hb2) rfl<|sM rfl<|k3<|sU<|sM rfl<|k3<|sK<|sK<|sU<|sM rfl<|sK ?_
 refine k3<|sK<|sU<|sM rfl<|k3<|sU<|sM rfl<|k3<|sU ?_
 refine sM rfl<|k3<|sU<|sA rfl<|sN<|qR ?_
 cases oI h
 exact qG
theorem jO {a0 : (List Int)} {r : Bool} (h : ei a0 = some r) : EvP prog aM ext 46 [.d (.lst (a0.map (PD.int .i64)))] [] (rB r, []) := by
 refine Ev.body rfl Tryz.func46 rfl (by kernel_rfl)<|gS rfl rfl<|sU<|sN<|qS<|gS rfl rfl<|sV (r0)<|sN<|bE h fun o9 ho9 h => WC.block (WC.loop (WL.ofLoop ho9 (fun s R' B' => ghosts prog 0 (A R' B') (aM.at_ 46 0 2) = some (A [(0, .d (.lst (a0.map (PD.int .i64)))), (3, rI s)] [])) (fun o e R' B' => match o with | .inl y => e = .exit 0 ∧ ghosts prog 0 (A R' B') (aM.at_ 46 0 6) = some (A [] []) | .inr r => e = .ret ∧ finish prog (aM.own 46) Tryz.f46 0 (A R' B') = some (rB r, [])) rfl ?_ ?_))
 ·rintro s1 R' B' q2 hI h
  refine qS<|gS rfl hI<|sM rfl<|sM rfl<|sE (rI (a0.length : Int)) (lenMap _ _)<|sF h (fun h => ?_) fun h => ?_
  ·refine sN<|cT<|qK<|qS<|qB<|gS rfl rfl<|sM rfl<|sM rfl<|bE h fun x4 hx4 h => eG hx4 rfl<|sC rfl<|sF h (fun h => ?_) fun h => ?_
   ·refine sM rfl<|k3<|sK<|sK<|sT<|sN<|cT<|gS rfl rfl<|sU<|sN<|qR ?_
    cases oI h
    exact ⟨nofun, rfl, rfl⟩
   refine sM rfl<|sM rfl<|sM rfl<|bE h fun x6 hx6 h => eG hx6 rfl<|sC rfl<|sV (rB (decide (x6 > (1152921504606846976 : Int))))<|sF h (fun h => ?_) fun h => ?_
   ·refine sN<|cT<|gS rfl rfl<|sU<|sN<|qR ?_
    cases oI h
    exact ⟨nofun, rfl, rfl⟩
   refine sN<|cF<|qK<|WC.region rfl rfl<|sM rfl<|sV (rI (rW (s1 + (1 : Int))))<|sA rfl<|sN ?_
   cases oI h
   exact ⟨rfl, rfl⟩
  refine sN<|cF<|qX ?_
  cases oI h
  exact ⟨nofun, rfl, rfl⟩
 intro e R' B' he hq
 rcases o9 with y10 | r11
 ·obtain ⟨rfl, hI⟩ := hq
  refine qE<|gS rfl hI<|sT<|sN<|qR ?_
  cases oI h
  exact qD
 obtain ⟨rfl, hf⟩ := hq
 cases oI h
 exact hf
end Go.Dw.Ft
