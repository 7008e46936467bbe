
import Derived.Test.YtpeijlelfekcoaaGreatDoorFtEvB

set_option maxRecDepth 100000
set_option maxHeartbeats 4000000
namespace Go.Dw.Ft
open Go.Proofs Go.Proofs.Tryz Go.Dw
theorem ko {a0 : ai} {r : Bool} (h : dM a0 = some r) : EvP prog aM ext 17 [.d (ai.pd a0)] [] (rB r, []) := by
 refine Ev.body rfl Tryz.func17 rfl (by kernel_rfl)<|gS rfl rfl<|sB (.ptr 16 0) 16 (.var (ai.rc a0))<|sU<|sN<|qS<|gS rfl rfl<|sV (.ptr 16 0)<|sL rfl<|sF h (fun h => ?_) fun h => ?_
 ·refine sM rfl<|k3<|sT<|sM rfl<|k3<|sT<|sM rfl<|k3<|sT ?_
  refine sM rfl<|k3<|sT<|sM rfl<|k3<|sK<|sK<|sT<|sM rfl<|sK<|sK ?_
  refine k3<|k3<|sK<|sT<|sM rfl<|k3<|sT<|sM rfl<|sK ?_
  refine sK<|sK<|sT<|sN<|cT<|gS rfl rfl<|sU<|sN<|qR ?_
  cases oI h
  exact qG
 refine sM rfl<|sV (.ptr 16 0)<|sL rfl<|sV (rB (decide (a0.aQ ≥ (1000 : Int))))<|sF h (fun h => ?_) fun h => ?_
 ·refine sM rfl<|k3<|sT<|sM rfl<|k3<|sT<|sM rfl<|k3<|sT ?_
  refine sM rfl<|k3<|sK<|sK<|sT<|sM rfl<|k3<|k3<|sK ?_
  refine sK<|sK<|sT<|sM rfl<|k3<|sT<|sM rfl<|k3<|sT<|sN<|cT ?_
  refine gS rfl rfl<|sU<|sN<|qR ?_
  cases oI h
  exact qG
 refine sM rfl<|sV (.ptr 16 1)<|sL rfl<|sV (rB (decide (a0.bh < (1 : Int))))<|sF h (fun h => ?_) fun h => ?_
 ·refine sM rfl<|k3<|sT<|sM rfl<|k3<|sT<|sM rfl<|k3<|sK ?_
  refine sK<|sT<|sM rfl<|k3<|k3<|k3<|sT<|sM rfl<|sK ?_
  refine sK<|sK<|sT<|sM rfl<|k3<|sT<|sN<|cT<|gS rfl rfl<|sU<|sN<|qR ?_
  cases oI h
  exact qG
 refine sM rfl<|sV (.ptr 16 1)<|sL rfl<|sV (rB (decide (a0.bh > (3 : Int))))<|sF h (fun h => ?_) fun h => ?_
 ·refine sM rfl<|k3<|sT<|sM rfl<|k3<|sK<|sK<|sT<|sM rfl<|sK<|sK ?_
  refine k3<|k3<|sK<|sT<|sM rfl<|k3<|sT<|sM rfl<|sK ?_
  refine sK<|sK<|sT<|sN<|cT<|gS rfl rfl<|sU<|sN<|qR ?_
  cases oI h
  exact qG
 refine sM rfl<|sV (.ptr 16 2)<|sL rfl<|sV (rB (decide (a0.fID < (0 : Int))))<|sF h (fun h => ?_) fun h => ?_
 ·refine sM rfl<|k3<|sK<|sK<|sT<|sM rfl<|k3<|k3<|sK ?_
  refine sK<|sK<|sT<|sM rfl<|k3<|sT<|sM rfl<|k3<|sT<|sN<|cT ?_
  refine gS rfl rfl<|sU<|sN<|qR ?_
  cases oI h
  exact qG
 refine sM rfl<|sV (.ptr 16 2)<|sL rfl<|sV (.ptr 16 0)<|sL rfl<|sV (rB (decide (a0.fID > a0.aQ)))<|sF h (fun h => ?_) fun h => ?_
 ·refine sM rfl<|k3<|k3<|k3<|sT<|sM rfl<|sK<|sK<|sK ?_
  refine sT<|sM rfl<|k3<|sT<|sN<|cT<|gS rfl rfl<|sU<|sN<|qR ?_
  cases oI h
  exact qG
 refine sM rfl<|sV (.ptr 16 2)<|sL rfl<|sV (.ptr 16 0)<|sL rfl<|sV (rB (a0.fID == a0.aQ))<|sV (.ptr 16 1)<|sL rfl<|sV (rB (a0.bh == (1 : Int)))<|sV (rB (!((a0.fID == a0.aQ) == (a0.bh == (1 : Int)))))<|sF h (fun h => ?_) fun h => ?_
 ·refine sM rfl<|k3<|sT<|sM rfl<|k3<|sT<|sN<|cT<|gS rfl rfl<|sU<|sN ?_
  refine qR ?_
  cases oI h
  exact qG
 refine sM rfl<|sV (.ptr 16 4)<|sL rfl<|sV (rB (decide (a0.aW < (0 : Int))))<|sF h (fun h => ?_) fun h => ?_
 ·refine sM rfl<|k3<|sT<|sN<|cT<|gS rfl rfl<|sU<|sN<|qR ?_
  cases oI h
  exact qG
 refine sM rfl<|sV (.ptr 16 4)<|sL rfl<|sV (rB (decide (a0.aW > (8 : Int))))<|sF h (fun h => ?_) fun h => ?_
 ·refine sN<|cT<|gS rfl rfl<|sU<|sN<|qR ?_
  cases oI h
  exact qG
 refine sN<|cF<|qK<|gS rfl rfl<|sV (.ptr 16 5)<|sV (.ptr 16 14)<|sV (.d (aw.pd a0.ae.aa))<|sB (.ptr 48 0) 48 (.var zZ2)<|sH 48 (.var (aw.rc a0.ae.aa))<|sN<|qS<|gS rfl rfl<|sV (r0)<|sN<|bE h fun o17 ho17 h => ?_
 refine WC.block (WC.loop (WL.ofLoop ho17 (fun s R' B' => ghosts prog 0 (A R' B') (aM.at_ 17 0 5) = some (A [(1, .ptr 16 0), (3, .ptr 48 0), (4, rI s)] [(16, .var (ai.rc a0)), (48, .var (aw.rc a0.ae.aa))])) (fun o e R' B' => match o with | .inl y => e = .exit 0 ∧ ghosts prog 0 (A R' B') (aM.at_ 17 0 9) = some (A [(1, .ptr 16 0), (3, .ptr 48 0)] [(16, .var (ai.rc a0)), (48, .var (aw.rc a0.ae.aa))]) | .inr r => e = .ret ∧ finish prog (aM.own 17) Tryz.f17 0 (A R' B') = some (rB r, [])) rfl ?_ ?_))
 ·rintro s10 R' B' q11 hI h
  refine qS<|gS rfl hI<|sM rfl<|sV (.ptr 48 0)<|sL rfl<|sE (rI (a0.ae.aa.aK.length : Int)) (lenMap _ _)<|sF h (fun h => ?_) fun h => ?_
  ·refine sN<|cT<|qK<|qS<|qB<|gS rfl rfl<|sV (.ptr 48 0)<|sL rfl<|sM rfl<|bE h fun x13 hx13 h => eG hx13 rfl<|sV (.d (ag.pd x13))<|bE h fun x14 hx14 h => cD (cZ hx14)<|sF h (fun h => ?_) fun h => ?_
   ·refine sN<|cT<|gS rfl rfl<|sU<|sN<|qR ?_
    cases oI h
    exact ⟨nofun, rfl, rfl⟩
   refine sN<|cF<|qK<|WC.region rfl rfl<|sM rfl<|sV (rI (rW (s10 + (1 : Int))))<|sA rfl<|sN ?_
   cases oI h
   exact ⟨rfl, rfl⟩
  refine sN<|cF<|qX ?_
  cases oI h
  exact ⟨nofun, rfl, rfl⟩
 intro e R' B' he hq
 rcases o17 with y18 | r19
 ·obtain ⟨rfl, hI⟩ := hq
  refine qE<|gS rfl hI<|sV (.ptr 48 1)<|sV (.d (aB.pd a0.ae.aa.ac))<|sB (.ptr 80 0) 80 (.var zZ5)<|sH 80 (.var (aB.rc a0.ae.aa.ac))<|sN<|gS rfl rfl<|sV (.ptr 16 5)<|sV (.ptr 16 5)<|sV (.d (ag.pd a0.ae.ak))<|bE h fun x20 hx20 h => ite_elim h (fun hb21 h => ?_) (fun hb21 h => ?_)
  ·refine WO.callR (v := rB true) (u := []) rfl rfl (fun _ => rfl) rfl rfl rfl rfl rfl (cZ hx20) rfl rfl (congrArg (fun b => RV.d (.bool b)) hb21) rfl<|sM rfl<|sV (.ptr 48 0)<|sL rfl<|sE (rI (a0.ae.aa.aK.length : Int)) (lenMap _ _)<|sV (rB (decide ((a0.ae.aa.aK.length : Int) ≤ (64 : Int))))<|sF h (fun h => ?_) fun h => ?_
   ·refine sM rfl<|sV (.ptr 16 3)<|sL rfl<|sV (.ptr 80 0)<|sV (.ptr 80 0)<|sL rfl<|sV (.ptr 80 0)<|sV (.ptr 80 1)<|sL rfl<|sV (.ptr 80 0)<|sV (.ptr 80 2)<|sL rfl<|sV (.ptr 80 3)<|sL rfl<|sV (.ptr 80 4) ?_
    refine sL rfl<|sV (.ptr 80 5)<|sL rfl<|sV (.ptr 80 6)<|sV (.ptr 80 6)<|sV (.ptr 80 6)<|sL rfl<|sV (.ptr 80 6)<|sV (.ptr 80 6)<|sV (.ptr 80 7)<|sL rfl<|sV (.ptr 80 6)<|sV (.ptr 80 6)<|sV (.ptr 80 8)<|sL rfl ?_
    refine sV (.ptr 80 6)<|sV (.ptr 80 9)<|sV (.ptr 80 9)<|sL rfl<|sV (.ptr 80 6)<|sV (.ptr 80 9)<|sV (.ptr 80 10)<|sL rfl<|sV (.ptr 80 6)<|sV (.ptr 80 9)<|sV (.ptr 80 11)<|sL rfl<|sV (.ptr 48 13)<|sV (.ptr 48 13)<|sL rfl ?_
    refine sV (.ptr 48 13)<|sV (.ptr 48 14)<|sL rfl<|sV (.ptr 48 15)<|sL rfl<|sG (.d (.lst ([a0.fAt, a0.ae.aa.ac.aA.fX, a0.ae.aa.ac.aA.fY, a0.ae.aa.ac.aA.fZ, a0.ae.aa.ac.aF, a0.ae.aa.ac.aO, a0.ae.aa.ac.aV, a0.ae.aa.ac.ap.aI.fX, a0.ae.aa.ac.ap.aI.fY, a0.ae.aa.ac.ap.aI.fZ, a0.ae.aa.ac.ap.az.fX, a0.ae.aa.ac.ap.az.fY, a0.ae.aa.ac.ap.az.fZ, a0.ae.aa.aq.aI, a0.ae.aa.aq.az, a0.ae.aa.aU].map (PD.int .i64))))<|bE h fun x23 hx23 h => cD (jO hx23)<|sV (rB x23)<|sA rfl<|sN<|qR ?_
    cases oI h
    exact qG
   refine sM rfl<|k3<|k3<|k3<|k3<|sK<|sK ?_
   refine k3<|k3<|k3<|k3<|sK<|sK<|sK ?_
   refine k3<|k3<|k3<|k3<|sK<|sK<|sK ?_
   refine k3<|k3<|sK<|sU<|sA rfl<|sN<|qR ?_
   cases oI h
   exact qG
  refine WO.callR (v := rB false) (u := []) rfl rfl (fun _ => rfl) rfl rfl rfl rfl rfl (cZ hx20) rfl rfl (congrArg (fun b => RV.d (.bool b)) hb21) rfl<|sM rfl<|k3<|sK<|sU<|sM rfl<|k3<|k3<|sK ?_
  refine k3<|k3<|k3<|k3<|sK<|sK<|sK ?_
  refine k3<|k3<|k3<|k3<|sK<|sK<|sK ?_
  refine k3<|k3<|k3<|k3<|sK<|sK<|sU ?_
  refine sA rfl<|sN<|qR ?_
  cases oI h
  exact qG
 obtain ⟨rfl, hf⟩ := hq
 cases oI h
 exact hf
theorem fW : ∀ (nfu : Nat) {a0 : Int} {r : (List UInt8)} (_ : bX nfu a0 = some r), EvP prog aM ext 76 [rI a0] [] (rS r, [])
  | 0, _,  _, h => by cases h
  | nfu + 1, a0,  r, h => by
   refine Ev.body rfl Tryz.func76 rfl (by kernel_rfl)<|gS rfl rfl<|sV (rS [])<|sN<|qS<|gS rfl rfl<|sM rfl<|sF h (fun h => ?_) fun h => ?_
   ·refine sN<|cT<|gS rfl rfl<|sM rfl<|sV (rI (rW (0 - a0)))<|bE h fun x2 hx2 h => cD (fW nfu hx2)<|bE h fun x3 hx3 h => WO.catG hx3 rfl rfl rfl rfl rfl<|sA rfl<|sN<|qR ?_
    cases oI h
    exact qD
   refine sN<|cF<|qK<|qS<|gS rfl rfl<|sM rfl<|sF h (fun h => ?_) fun h => ?_
   ·refine sN<|cT<|gS rfl rfl<|sM rfl<|sM rfl<|sV (rI (rW (a0 + (1 : Int))))<|bE h fun x5 hx5 h => WO.cutG hx5 rfl rfl rfl rfl rfl rfl rfl rfl rfl rfl<|sA rfl<|sN<|qR ?_
    cases oI h
    exact qD
   refine sN<|cF<|qK<|WC.regionDSeq rfl rfl<|sM rfl<|bE h fun x6 hx6 h => WO.quoG hx6 rfl rfl rfl rfl rfl rfl<|bE h fun x7 hx7 h => cD (fW nfu hx7)<|sM rfl<|bE h fun x8 hx8 h => WO.remG hx8 rfl rfl rfl rfl rfl rfl<|sM rfl<|bE h fun x9 hx9 h => WO.remG hx9 rfl rfl rfl rfl rfl rfl ?_
   refine sV (rI (rW (x9 + (1 : Int))))<|bE h fun x10 hx10 h => WO.cutG hx10 rfl rfl rfl rfl rfl rfl rfl rfl rfl rfl<|bE h fun x11 hx11 h => WO.catG hx11 rfl rfl rfl rfl rfl<|sA rfl ?_
   refine sN<|sO<|qR ?_
   cases oI h
   exact qD
theorem gr {a0 : Int} {r : (List UInt8)} (h : dS a0 = some r) : EvP prog aM ext 76 [rI a0] [] (rS r, []) :=
  let ⟨n, hn⟩ := recO_some h; fW n hn
theorem cn {a0 : (List Int)} {r : (List (List UInt8))} (h : cm a0 = some r) : EvP prog aM ext 74 [.d (.lst (a0.map (PD.int .i64)))] [] (.ref 0 0, [.arr 0 9 (r.map PD.str)]) := by
 refine Ev.body rfl Tryz.func74 rfl (by kernel_rfl)<|gS rfl rfl<|sV .nils<|sN<|gS rfl rfl<|sV .nils<|sN<|qS<|gS rfl rfl<|sV (r0)<|sN<|bE h fun o10 ho10 h => WC.block (WC.loop (WL.ofLoop ho10 (fun s R' B' => ghosts prog 0 (A R' B') (aM.at_ 74 0 3) = some (A [(0, .d (.lst (a0.map (PD.int .i64)))), (3, .ref 288 0), (4, rI s.1)] [(288, .arr 0 9 (s.2.map PD.str))])) (fun o e R' B' => e = .exit 0 ∧ ghosts prog 0 (A R' B') (aM.at_ 74 0 6) = some (A [(3, .ref 288 0)] [(288, .arr 0 9 (o.map PD.str))])) rfl ?_ ?_))
 ·rintro ⟨s1, s2⟩ R' B' q4 hI h
  refine qS<|gS rfl hI<|sM rfl<|sM rfl<|sE (rI (a0.length : Int)) (lenMap _ _)<|sF h (fun h => ?_) fun h => ?_
  ·refine sN<|cT<|qK<|qS<|qB<|WC.region rfl rfl<|sM rfl<|sM rfl<|sM rfl<|bE h fun x6 hx6 h => eG hx6 rfl<|sC rfl<|bE h fun x7 hx7 h => cD (gr hx7)<|sV (.d (.lst ([x7].map PD.str))) ?_
   refine bE h fun x8 hx8 h => aR hx8 (fun _ => rfl) rfl<|sA rfl<|sN<|WC.region rfl rfl<|sM rfl<|sV (rI (rW (s1 + (1 : Int))))<|sA rfl<|sN ?_
   cases oI h
   exact ⟨rfl, rfl⟩
  refine sN<|cF<|qX ?_
  cases oI h
  exact ⟨nofun, rfl, rfl⟩
 intro e R' B' he hq
 obtain ⟨rfl, hI⟩ := hq
 refine qE<|gS rfl hI<|sM rfl<|sA rfl<|sN<|qR ?_
 cases oI h
 exact qD
theorem ref03_Format_ev {a0 : am} {r : (List UInt8) × Int} (h : hO a0 = some r) : EvP prog aM ext 109 [.d (am.pd a0)] [] (.tup [rS r.1, rI r.2], []) := by
 refine Ev.body rfl Tryz.func109 rfl (by kernel_rfl)<|gS rfl rfl<|sB (.ptr 16 0) 16 (.var [rS a0.aC, rS a0.aE, rS a0.ac, rS a0.aD])<|sV (rS [])<|sV (r0)<|sN<|qS<|gS rfl rfl<|sV (.d (am.pd a0))<|bE h fun x1 hx1 h => cD (fO hx1)<|sF h (fun h => ?_) fun h => ?_
 ·refine sN<|cT<|gS rfl rfl<|sV (rS [])<|sV (rI 1)<|sN<|qR ?_
  cases oI h
  exact qD
 refine sN<|cF<|qK<|gS rfl rfl<|sV (.ptr 16 0)<|sL rfl<|bE h fun x3 hx3 h => WO.catG hx3 rfl rfl rfl rfl rfl<|sV (.ptr 16 1)<|sL rfl<|bE h fun x4 hx4 h => WO.catG hx4 rfl rfl rfl rfl rfl<|bE h fun x5 hx5 h => WO.catG hx5 rfl rfl rfl rfl rfl<|sV (.ptr 16 2) ?_
 refine sL rfl<|bE h fun x6 hx6 h => WO.catG hx6 rfl rfl rfl rfl rfl<|bE h fun x7 hx7 h => WO.catG hx7 rfl rfl rfl rfl rfl<|sV (.ptr 16 3)<|sL rfl<|bE h fun x8 hx8 h => WO.catG hx8 rfl rfl rfl rfl rfl<|sA rfl<|sV (r0)<|sN<|qR ?_
 cases oI h
 exact qD
theorem gD {a0 : ag} {r : (List (List UInt8))} (h : fp a0 = some r) : EvP prog aM ext 75 [.d (ag.pd a0)] [] (.d (.lst (r.map PD.str)), []) := by
 refine Ev.body rfl Tryz.func75 rfl (by kernel_rfl)<|gS rfl rfl<|sB (.ptr 16 0) 16 (.var (ag.rc a0))<|sV .nils<|sN<|gS rfl rfl<|sV (.ptr 16 0)<|sV (.d (am.pd a0.ah))<|bE h fun x1 hx1 h => cR (.tup [rS x1.1, rI x1.2]) [] (ref03_Format_ev hx1)<|sM rfl<|sV (rS x1.1)<|sV (rI x1.2)<|sA rfl<|sA rfl ?_
 refine sN<|gS rfl rfl<|sM rfl<|sB (.ref 192 0) 192 (.arr 0 9 ([x1.1].map PD.str))<|sV (.ptr 16 4)<|sL rfl<|sV (.ptr 16 5)<|sL rfl<|sV (.ptr 16 6)<|sL rfl<|sV (.ptr 16 7)<|sL rfl<|sV (.ptr 16 8)<|sL rfl<|sV (.d (.lst ([a0.aF, a0.aJ, a0.aN, a0.au, a0.av].map (PD.int .i64)))) ?_
 refine bE h fun x2 hx2 h => cR (.ref 384 0) [(384, .arr 0 9 (x2.map PD.str))] (cn hx2)<|bE h fun x3 hx3 h => WO.appRG hx3 (fun _ => rfl) rfl rfl rfl rfl rfl rfl rfl rfl rfl rfl rfl rfl rfl rfl rfl<|sA rfl<|sN<|qR ?_
 cases oI h
 exact qG
theorem ref37_words_ev {a0 : ai} {r : (List (List UInt8))} (h : fy a0 = some r) : EvP prog aM ext 40 [.d (ai.pd a0)] [] (.d (.lst (r.map PD.str)), []) := by
 refine Ev.body rfl Tryz.func40 rfl (by kernel_rfl)<|gS rfl rfl<|sB (.ptr 16 0) 16 (.var (ai.rc a0))<|sV .nils<|sN<|gS rfl rfl<|sV (.ptr 16 5)<|sV (.ptr 16 14)<|sV (.d (aw.pd a0.ae.aa))<|sB (.ptr 48 0) 48 (.var zZ2)<|sH 48 (.var (aw.rc a0.ae.aa))<|sN<|gS rfl rfl<|sV (.ptr 48 1)<|sV (.d (aB.pd a0.ae.aa.ac)) ?_
 refine sB (.ptr 64 0) 64 (.var zZ5)<|sH 64 (.var (aB.rc a0.ae.aa.ac))<|sN<|gS rfl rfl<|sV (.ptr 16 0)<|sL rfl<|sV (.ptr 16 1)<|sL rfl<|sV (.ptr 16 2)<|sL rfl<|sV (.ptr 16 3)<|sL rfl<|sV (.ptr 16 4)<|sL rfl<|sV (.d (.lst ([a0.aQ, a0.bh, a0.fID, a0.fAt, a0.aW].map (PD.int .i64)))) ?_
 refine bE h fun x1 hx1 h => cR (.ref 368 0) [(368, .arr 0 9 (x1.map PD.str))] (cn hx1)<|sA rfl<|sN<|WC.regionDSeq rfl rfl<|sM rfl<|sV (.ptr 16 5)<|sV (.ptr 16 5)<|sV (.d (ag.pd a0.ae.ak))<|bE h fun x2 hx2 h => cD (gD hx2)<|bE h fun x3 hx3 h => aR hx3 (fun _ => rfl) rfl<|sV (.ptr 48 0)<|sL rfl ?_
 refine sE (rI (a0.ae.aa.aK.length : Int)) (lenMap _ _)<|bE h fun x4 hx4 h => cD (gr hx4)<|sV (.d (.lst ([x4].map PD.str)))<|bE h fun x5 hx5 h => aR hx5 (fun _ => rfl) rfl<|sA rfl ?_
 refine sN<|sO<|qS<|gS rfl rfl<|sV (r0)<|sN<|bE h fun o15 ho15 h => WC.block (WC.loop (WL.ofLoop ho15 (fun s R' B' => ghosts prog 0 (A R' B') (aM.at_ 40 0 6) = some (A [(3, .ptr 48 0), (4, .ptr 64 0), (5, .ref 368 0), (6, rI s.1)] [(48, .var (aw.rc a0.ae.aa)), (64, .var (aB.rc a0.ae.aa.ac)), (368, .arr 0 9 (s.2.map PD.str))])) (fun o e R' B' => e = .exit 0 ∧ ghosts prog 0 (A R' B') (aM.at_ 40 0 9) = some (A [(3, .ptr 48 0), (4, .ptr 64 0), (5, .ref 368 0)] [(48, .var (aw.rc a0.ae.aa)), (64, .var (aB.rc a0.ae.aa.ac)), (368, .arr 0 9 (o.map PD.str))])) rfl ?_ ?_))
 ·rintro ⟨s6, s7⟩ R' B' q9 hI h
  refine qS<|gS rfl hI<|sM rfl<|sV (.ptr 48 0)<|sL rfl<|sE (rI (a0.ae.aa.aK.length : Int)) (lenMap _ _)<|sF h (fun h => ?_) fun h => ?_
  ·refine sN<|cT<|qK<|qS<|qB<|WC.region rfl rfl<|sM rfl<|sV (.ptr 48 0)<|sL rfl<|sM rfl<|bE h fun x11 hx11 h => eG hx11 rfl<|sV (.d (ag.pd x11))<|bE h fun x12 hx12 h => cD (gD hx12) ?_
   refine bE h fun x13 hx13 h => aR hx13 (fun _ => rfl) rfl<|sA rfl<|sN<|WC.region rfl rfl<|sM rfl<|sV (rI (rW (s6 + (1 : Int))))<|sA rfl<|sN ?_
   cases oI h
   exact ⟨rfl, rfl⟩
  refine sN<|cF<|qX ?_
  cases oI h
  exact ⟨nofun, rfl, rfl⟩
 intro e R' B' he hq
 obtain ⟨rfl, hI⟩ := hq
 refine qE<|gS rfl hI<|sM rfl<|sV (.ptr 64 0)<|sV (.ptr 64 0)<|sL rfl<|sV (.ptr 64 0)<|sV (.ptr 64 1)<|sL rfl<|sV (.ptr 64 0)<|sV (.ptr 64 2)<|sL rfl<|sV (.ptr 64 3)<|sL rfl<|sV (.ptr 64 4) ?_
 refine sL rfl<|sV (.ptr 64 5)<|sL rfl<|sV (.d (.lst ([a0.ae.aa.ac.aA.fX, a0.ae.aa.ac.aA.fY, a0.ae.aa.ac.aA.fZ, a0.ae.aa.ac.aF, a0.ae.aa.ac.aO, a0.ae.aa.ac.aV].map (PD.int .i64))))<|bE h fun x16 hx16 h => cR (.ref 1088 0) [(1088, .arr 0 9 (x16.map PD.str))] (cn hx16)<|bE h fun x17 hx17 h => WO.appRG hx17 (fun _ => rfl) rfl rfl rfl rfl rfl rfl rfl rfl rfl rfl rfl rfl rfl rfl rfl<|sA rfl<|sN<|gS rfl rfl<|sM rfl<|sV (.ptr 64 6)<|sV (.ptr 64 6)<|sV (.ptr 64 6) ?_
 refine sL rfl<|sV (.ptr 64 6)<|sV (.ptr 64 6)<|sV (.ptr 64 7)<|sL rfl<|sV (.ptr 64 6)<|sV (.ptr 64 6)<|sV (.ptr 64 8)<|sL rfl<|sV (.ptr 64 6)<|sV (.ptr 64 9)<|sV (.ptr 64 9)<|sL rfl<|sV (.ptr 64 6)<|sV (.ptr 64 9) ?_
 refine sV (.ptr 64 10)<|sL rfl<|sV (.ptr 64 6)<|sV (.ptr 64 9)<|sV (.ptr 64 11)<|sL rfl<|sV (.d (.lst ([a0.ae.aa.ac.ap.aI.fX, a0.ae.aa.ac.ap.aI.fY, a0.ae.aa.ac.ap.aI.fZ, a0.ae.aa.ac.ap.az.fX, a0.ae.aa.ac.ap.az.fY, a0.ae.aa.ac.ap.az.fZ].map (PD.int .i64))))<|bE h fun x18 hx18 h => cR (.ref 1536 0) [(1536, .arr 0 9 (x18.map PD.str))] (cn hx18)<|bE h fun x19 hx19 h => WO.appRG hx19 (fun _ => rfl) rfl rfl rfl rfl rfl rfl rfl rfl rfl rfl rfl rfl rfl rfl rfl<|sA rfl<|sN<|gS rfl rfl<|sM rfl ?_
 refine sV (.ptr 48 13)<|sV (.ptr 48 13)<|sL rfl<|sV (.ptr 48 13)<|sV (.ptr 48 14)<|sL rfl<|sV (.ptr 48 15)<|sL rfl<|sV (.d (.lst ([a0.ae.aa.aq.aI, a0.ae.aa.aq.az, a0.ae.aa.aU].map (PD.int .i64))))<|bE h fun x20 hx20 h => cR (.ref 1728 0) [(1728, .arr 0 9 (x20.map PD.str))] (cn hx20)<|bE h fun x21 hx21 h => WO.appRG hx21 (fun _ => rfl) rfl rfl rfl rfl rfl rfl rfl rfl rfl rfl rfl rfl rfl rfl rfl<|sA rfl<|sN ?_
 refine qR ?_
 cases oI h
 exact qG
theorem jN {a0 : ai} {r : (List UInt8) × Int} (h : cJ a0 = some r) : EvP prog aM ext 15 [.d (ai.pd a0)] [] (.tup [rS r.1, rI r.2], []) := by
 refine Ev.body rfl Tryz.func15 rfl (by kernel_rfl)<|gS rfl rfl<|sB (.ptr 16 0) 16 (.var (ai.rc a0))<|sV (rS [])<|sV (r0)<|sN<|qS<|gS rfl rfl<|sV (.d (ai.pd a0))<|bE h fun x1 hx1 h => cD (ko hx1)<|sF h (fun h => ?_) fun h => ?_
 ·refine sN<|cT<|gS rfl rfl<|sV (rS [])<|sV (rI 1)<|sN<|qR ?_
  cases oI h
  exact qG
 refine sN<|cF<|qK<|gS rfl rfl<|sV (rS [])<|sN<|qS<|gS rfl rfl<|sV (.d (ai.pd a0))<|bE h fun x3 hx3 h => cD (ref37_words_ev hx3)<|sE (rI (x3.length : Int)) (lenMap _ _)<|sV (r0)<|sN<|bE h fun o15 ho15 h => ?_
 refine WC.block (WC.loop (WL.ofLoop ho15 (fun s R' B' => ghosts prog 0 (A R' B') (aM.at_ 15 0 5) = some (A [(4, rS s.1), (11, .d (.lst (x3.map PD.str))), (12, rI (x3.length : Int)), (13, rI s.2)] [])) (fun o e R' B' => e = .exit 0 ∧ ghosts prog 0 (A R' B') (aM.at_ 15 0 11) = some (A [(4, rS o)] [])) rfl ?_ ?_))
 ·rintro ⟨s4, s5⟩ R' B' q7 hI h
  refine gS rfl hI<|sF h (fun h => ?_) fun h => ?_
  ·refine sN<|qS<|cT<|qK<|qS<|qB<|gS rfl rfl<|sM rfl<|bE h fun x9 hx9 h => eG hx9 rfl<|sC rfl<|sA rfl<|sA rfl<|sN<|qS ?_
   refine gS rfl rfl<|sM rfl<|sF h (fun h => ?_) fun h => ?_
   ·refine sN<|cT<|WC.region rfl rfl<|sM rfl<|bE h fun x11 hx11 h => WO.catG hx11 rfl rfl rfl rfl rfl<|sA rfl<|sN<|WC.region rfl rfl<|sM rfl<|sM rfl<|bE h fun x12 hx12 h => WO.catG hx12 rfl rfl rfl rfl rfl<|sA rfl<|sN ?_
    refine WC.region rfl rfl<|sV (rI (rW (s5 + (1 : Int))))<|sM rfl<|sN ?_
    cases oI h
    exact ⟨rfl, rfl⟩
   refine sN<|cF<|qK<|WC.region rfl rfl<|sM rfl<|sM rfl<|bE h fun x13 hx13 h => WO.catG hx13 rfl rfl rfl rfl rfl<|sA rfl<|sN<|WC.region rfl rfl<|sV (rI (rW (s5 + (1 : Int))))<|sM rfl<|sN ?_
   cases oI h
   exact ⟨rfl, rfl⟩
  refine sN<|qS<|cF<|qX ?_
  cases oI h
  exact ⟨nofun, rfl, rfl⟩
 intro e R' B' he hq
 obtain ⟨rfl, hI⟩ := hq
 refine qE<|gS rfl hI<|sM rfl<|sA rfl<|sV (r0)<|sN<|qR ?_
 cases oI h
 exact qD
theorem ref37_split_ev {a0 : (List UInt8)} {r : (List (List UInt8))} (h : iO a0 = some r) : EvP prog aM ext 51 [rS a0] [] (.d (.lst (r.map PD.str)), []) := by
 refine Ev.body rfl Tryz.func51 rfl (by kernel_rfl)<|gS rfl rfl<|sV .nils<|sN<|gS rfl rfl<|sV .nils<|sN<|gS rfl rfl<|sV (r0)<|sN<|qS<|gS rfl rfl<|sV (r0)<|sN<|bE h fun o13 ho13 h => ?_
 refine WC.block (WC.loop (WL.ofLoop ho13 (fun s R' B' => ghosts prog 0 (A R' B') (aM.at_ 51 0 4) = some (A [(0, rS a0), (3, .ref 352 0), (4, rI s.1), (5, rI s.2.1)] [(352, .arr 0 9 (s.2.2.map PD.str))])) (fun o e R' B' => e = .exit 0 ∧ ghosts prog 0 (A R' B') (aM.at_ 51 0 9) = some (A [(0, rS a0), (3, .ref 352 0), (4, rI o.1)] [(352, .arr 0 9 (o.2.map PD.str))])) rfl ?_ ?_))
 ·rintro ⟨s1, s2, s3⟩ R' B' q6 hI h
  refine qS<|gS rfl hI<|sM rfl<|sM rfl<|sV (rI (a0.length : Int))<|sF h (fun h => ?_) fun h => ?_
  ·refine sN<|cT<|qK<|qS<|qB<|gS rfl rfl<|sM rfl<|sM rfl<|bE h fun x8 hx8 h => WO.byteG hx8 rfl rfl rfl rfl rfl rfl<|sF h (fun h => ?_) fun h => ?_
   ·refine sN<|cT<|gS rfl rfl<|sM rfl<|sM rfl<|sM rfl<|sM rfl<|bE h fun x10 hx10 h => WO.cutG hx10 rfl rfl rfl rfl rfl rfl rfl rfl rfl rfl<|sV (.d (.lst ([x10].map PD.str)))<|bE h fun x11 hx11 h => aR hx11 (fun _ => rfl) rfl<|sA rfl<|sN<|WC.region rfl rfl ?_
    refine sM rfl<|sV (rI (rW (s2 + (1 : Int))))<|sA rfl<|sN<|WC.region rfl rfl<|sM rfl<|sV (rI (rW (s2 + (1 : Int))))<|sA rfl<|sN ?_
    cases oI h
    exact ⟨rfl, rfl⟩
   refine sN<|cF<|qK<|WC.region rfl rfl<|sM rfl<|sV (rI (rW (s2 + (1 : Int))))<|sA rfl<|sN ?_
   cases oI h
   exact ⟨rfl, rfl⟩
  refine sN<|cF<|qX ?_
  cases oI h
  exact ⟨nofun, rfl, rfl⟩
 intro e R' B' he hq
 obtain ⟨rfl, hI⟩ := hq
 refine qE<|gS rfl hI<|sM rfl<|sM rfl<|sM rfl<|bE h fun x14 hx14 h => WO.cutG hx14 rfl rfl rfl rfl rfl rfl rfl rfl rfl rfl<|sV (.d (.lst ([x14].map PD.str)))<|bE h fun x15 hx15 h => aR hx15 (fun _ => rfl) rfl<|sA rfl<|sN<|qR ?_
 cases oI h
 exact qD
theorem jH {d0 : aS} {r : (List UInt8) × aS} (h : eg d0 = some r) : EvP prog aM ext 88 [.ptr 0 0] [.var [.d (.lst (d0.fL.map PD.str))]] (rS r.1, [.var [.d (.lst (r.2.fL.map PD.str))]]) := by
 refine Ev.body rfl Tryz.func88 rfl (by kernel_rfl)<|gS rfl rfl<|sV (rS [])<|sN<|qS<|gS rfl rfl<|sM rfl<|sV (.ptr 0 0)<|sV (.ptr 0 0)<|sL rfl<|sE (rI (d0.fL.length : Int)) (lenMap _ _)<|sF h (fun h => ?_) fun h => ?_
 ·refine sN<|cT<|gS rfl rfl<|sV (rS [])<|sN<|qR ?_
  cases oI h
  exact qD
 refine sN<|cF<|qK<|gS rfl rfl<|sM rfl<|sV (.ptr 0 0)<|sV (.ptr 0 0)<|sL rfl<|bE h fun x2 hx2 h => eG hx2 rfl<|sC rfl<|sA rfl<|sN<|gS rfl rfl<|sM rfl ?_
 refine sM rfl<|sV (.ptr 0 0)<|sV (.ptr 0 0)<|sL rfl<|bE h fun x3 hx3 h => WO.cutL (sz := 1) (g := PD.str) hx3 (fun _ => rfl) rfl rfl rfl rfl rfl rfl rfl rfl rfl rfl rfl<|sV (.ptr 0 0)<|sV (.ptr 0 0)<|sS 0 (.var [.d (.lst (x3.map PD.str))])<|sN<|gS rfl rfl<|sM rfl<|sA rfl<|sN<|qR ?_
 cases oI h
 exact qD
theorem bi {d0 : aS} {r : Int × aS} (h : bk d0 = some r) : EvP prog aM ext 52 [.ptr 0 0] [.var [.d (.lst (d0.fL.map PD.str))]] (rI r.1, [.var [.d (.lst (r.2.fL.map PD.str))]]) := by
 refine Ev.body rfl Tryz.func52 rfl (by kernel_rfl)<|gS rfl rfl<|sV (r0)<|sN<|gS rfl rfl<|sM rfl<|bE h fun x1 hx1 h => cR (rS x1.1) [(0, .var [.d (.lst (x1.2.fL.map PD.str))])] (jH hx1)<|sA rfl<|sN<|gS rfl rfl<|sV (r0)<|sV (r0)<|sN<|WC.join (α := Int) (fun x R' B' => ghosts prog 1 (A R' B') (aM.at_ 52 1 5) = some (A [(3, rS x1.1), (4, r0), (5, rI x)] [(0, .var [.d (.lst (x1.2.fL.map PD.str))])])) (fun x => cg x1 x = some r) ?_ ?_
 ·refine gS rfl rfl<|sM rfl<|sV (rI (x1.1.length : Int))<|sF h (fun h => ?_) fun h => ?_
  ·refine sM rfl<|sM rfl<|bE h fun x21 hx21 h => WO.byteG hx21 rfl rfl rfl rfl rfl rfl<|sV (rB (x21 == (45 : Int)))<|sF h (fun h => ?_) fun h => ?_
   ·exact sN<|cT<|WC.region rfl rfl<|sV (rI 1)<|sN<|⟨1, rfl, h⟩
   exact sN<|cF<|qK<|⟨0, rfl, h⟩
  exact sM rfl<|k3<|sU<|sN<|cF<|qK<|⟨0, rfl, h⟩
 rintro j2 R' B' hI h
 refine qS<|gS rfl hI<|sM rfl<|sA rfl<|sN<|bE h fun o15 ho15 h => WC.block (WC.loop (WL.ofLoop ho15 (fun s R' B' => ghosts prog 1 (A R' B') (aM.at_ 52 1 6) = some (A [(3, rS x1.1), (4, rI s.1), (5, rI j2), (6, rI s.2)] [(0, .var [.d (.lst (x1.2.fL.map PD.str))])])) (fun o e R' B' => match o with | .inl y => e = .exit 0 ∧ ghosts prog 1 (A R' B') (aM.at_ 52 1 11) = some (A [(4, rI y), (5, rI j2)] [(0, .var [.d (.lst (x1.2.fL.map PD.str))])]) | .inr r => e = .ret ∧ finish prog (aM.own 52) Tryz.f52 1 (A R' B') = some (rI r.1, [.var [.d (.lst (r.2.fL.map PD.str))]])) rfl ?_ ?_))
 ·rintro ⟨s3, s4⟩ R' B' q6 hI h
  refine qS<|gS rfl hI<|sM rfl<|sM rfl<|sV (rI (x1.1.length : Int))<|sF h (fun h => ?_) fun h => ?_
  ·refine sN<|cT<|qK<|qS<|qB<|qS<|gS rfl rfl<|sM rfl<|sM rfl<|bE h fun x8 hx8 h => WO.byteG hx8 rfl rfl rfl rfl rfl rfl<|sF h (fun h => ?_) fun h => ?_
   ·refine sM rfl<|k3<|sK<|sT<|sM rfl<|sK<|sK<|sT<|sN<|cT<|gS rfl rfl<|sV (r0)<|sN ?_
    refine qR ?_
    cases oI h
    exact ⟨nofun, rfl, rfl⟩
   refine sM rfl<|sM rfl<|sM rfl<|bE h fun x10 hx10 h => WO.byteG hx10 rfl rfl rfl rfl rfl rfl<|sV (rB (decide (x10 > (57 : Int))))<|sF h (fun h => ?_) fun h => ?_
   ·refine sM rfl<|sK<|sK<|sT<|sN<|cT<|gS rfl rfl<|sV (r0)<|sN<|qR ?_
    cases oI h
    exact ⟨nofun, rfl, rfl⟩
   refine sM rfl<|sM rfl<|sV (rB (decide (s3 > (288230376151711744 : Int))))<|sF h (fun h => ?_) fun h => ?_
   ·refine sN<|cT<|gS rfl rfl<|sV (r0)<|sN<|qR ?_
    cases oI h
    exact ⟨nofun, rfl, rfl⟩
   refine sN<|cF<|qK<|WC.region rfl rfl<|sM rfl<|sV (rI (rW ((10 : Int) * s3)))<|sM rfl<|sM rfl<|bE h fun x13 hx13 h => WO.byteG hx13 rfl rfl rfl rfl rfl rfl<|sV (.d (.int .u8 (IntKind.wrap .u8 (x13 - (48 : Int)))))<|sV (rI (rW (IntKind.wrap .u8 (x13 - (48 : Int)))))<|sV (rI (rW ((rW ((10 : Int) * s3)) + (rW (IntKind.wrap .u8 (x13 - (48 : Int)))))))<|sA rfl<|sN ?_
   refine WC.region rfl rfl<|sM rfl<|sV (rI (rW (s4 + (1 : Int))))<|sA rfl<|sN ?_
   cases oI h
   exact ⟨rfl, rfl⟩
  refine sN<|cF<|qX ?_
  cases oI h
  exact ⟨nofun, rfl, rfl⟩
 intro e R' B' he hq
 rcases o15 with y16 | r17
 ·obtain ⟨rfl, hI⟩ := hq
  refine qE<|qS<|gS rfl hI<|sM rfl<|sF h (fun h => ?_) fun h => ?_
  ·refine sN<|cT<|gS rfl rfl<|sM rfl<|sV (rI (rW (0 - y16)))<|sA rfl<|sN<|qR ?_
   cases oI h
   exact qD
  refine sN<|cF<|qK<|gS rfl rfl<|sM rfl<|sA rfl<|sN<|qR ?_
  cases oI h
  exact qD
 obtain ⟨rfl, hf⟩ := hq
 cases oI h
 exact hf
theorem ref03_Split_ev {a0 : (List UInt8)} {a1 : Int} {r : (List (List UInt8))} (h : iH a0 a1 = some r) : EvP prog aM ext 118 [rS a0, .d (.int .u8 a1)] [] (.d (.lst (r.map PD.str)), []) := by
 refine Ev.body rfl Tryz.func118 rfl (by kernel_rfl)<|gS rfl rfl<|sV .nils<|sN<|gS rfl rfl<|sB (.ref 112 0) 112 (.arr 0 9 ([[]].map PD.str))<|sA rfl<|sN<|qS<|gS rfl rfl<|sV (r0)<|sN<|bE h fun o18 ho18 h => WC.block (WC.loop (WL.ofLoop ho18 (fun s R' B' => ghosts prog 0 (A R' B') (aM.at_ 118 0 3) = some (A [(0, rS a0), (1, .d (.int .u8 a1)), (5, .ref 112 0), (6, rI s.1)] [(112, .arr 0 9 (s.2.map PD.str))])) (fun o e R' B' => e = .exit 0 ∧ ghosts prog 0 (A R' B') (aM.at_ 118 0 8) = some (A [(5, .ref 112 0)] [(112, .arr 0 9 (o.map PD.str))])) rfl ?_ ?_))
 ·rintro ⟨s1, s2⟩ R' B' q4 hI h
  refine qS<|gS rfl hI<|sM rfl<|sM rfl<|sV (rI (a0.length : Int))<|sF h (fun h => ?_) fun h => ?_
  ·refine sN<|cT<|qK<|qS<|qB<|gS rfl rfl<|sM rfl<|sM rfl<|bE h fun x6 hx6 h => WO.byteG hx6 rfl rfl rfl rfl rfl rfl<|sM rfl<|sF h (fun h => ?_) fun h => ?_
   ·refine sN<|cT<|WC.region rfl rfl<|sM rfl<|sV (.d (.lst ([[]].map PD.str)))<|bE h fun x8 hx8 h => aR hx8 (fun _ => rfl) rfl<|sA rfl<|sN<|WC.region rfl rfl<|sM rfl<|sV (rI (rW (s1 + (1 : Int))))<|sA rfl<|sN ?_
    cases oI h
    exact ⟨rfl, rfl⟩
   refine sN<|cF<|WC.regionD rfl rfl<|sM rfl<|sM rfl<|WO.lenR rfl rfl rfl rfl rfl rfl rfl rfl rfl<|sV (rI (rW ((s2.length : Int) - (1 : Int))))<|bE h fun x10 hx10 h => WO.eltG hx10 rfl rfl rfl rfl rfl rfl rfl rfl<|bE h fun x11 hx11 h => WO.loadE hx11 rfl rfl rfl rfl rfl rfl<|sM rfl<|sM rfl<|sM rfl<|sV (rI (rW (s1 + (1 : Int)))) ?_
   refine bE h fun x12 hx12 h => WO.cutG hx12 rfl rfl rfl rfl rfl rfl rfl rfl rfl rfl<|bE h fun x13 hx13 h => WO.catG hx13 rfl rfl rfl rfl rfl<|bE h fun x15 hx15 h => WO.eltG hx15 rfl rfl rfl rfl rfl rfl rfl rfl<|bE h fun x16 hx16 h => WO.storeE (g := PD.str) (sz := 1) (p := .str x13) hx16 (fun _ => rfl) (fun _ => rfl) rfl rfl rfl rfl rfl rfl rfl rfl rfl ?_
   refine sN<|sO<|WC.region rfl rfl<|sM rfl<|sV (rI (rW (s1 + (1 : Int))))<|sA rfl<|sN ?_
   cases oI h
   exact ⟨rfl, rfl⟩
  refine sN<|cF<|qX ?_
  cases oI h
  exact ⟨nofun, rfl, rfl⟩
 intro e R' B' he hq
 obtain ⟨rfl, hI⟩ := hq
 refine qE<|gS rfl hI<|sM rfl<|sA rfl<|sN<|qR ?_
 cases oI h
 exact qD
theorem ref03_Parse_ev {a0 : (List UInt8)} {r : am × Int} (h : fw a0 = some r) : EvP prog aM ext 89 [rS a0] [] (.tup [.d (am.pd r.1), rI r.2], []) := by
 refine Ev.body rfl Tryz.func89 rfl (by kernel_rfl)<|gS rfl rfl<|sB (.ptr 32 0) 32 (.var [rS [], rS [], rS [], rS []])<|sV (r0)<|sN<|gS rfl rfl<|sM rfl<|bE h fun x1 hx1 h => cD (ref03_Split_ev hx1)<|sA rfl<|sN<|qS<|gS rfl rfl<|sM rfl<|sE (rI (x1.length : Int)) (lenMap _ _) ?_
 refine sF h (fun h => ?_) fun h => ?_
 ·refine sN<|cT<|gS rfl rfl<|sV (.d (am.pd (am.mk [] [] [] [])))<|sS 32 (.var [rS [], rS [], rS [], rS []])<|sV (rI 3)<|sN<|qR ?_
  cases oI h
  exact qD
 refine sN<|cF<|qK<|WC.regionDSeq rfl rfl<|sM rfl<|bE h fun x3 hx3 h => eG hx3 rfl<|sC rfl<|sM rfl<|bE h fun x4 hx4 h => eG hx4 rfl<|sC rfl<|sM rfl<|bE h fun x5 hx5 h => eG hx5 rfl ?_
 refine sC rfl<|sM rfl<|bE h fun x6 hx6 h => eG hx6 rfl<|sC rfl<|sV (.d (am.pd (am.mk x3 x4 x5 x6)))<|sB (.ptr 80 0) 80 (.var [rS [], rS [], rS [], rS []])<|sS 80 (.var [rS x3, rS x4, rS x5, rS x6]) ?_
 refine sN<|sO<|qS<|gS rfl rfl<|sV (.d (am.pd (am.mk x3 x4 x5 x6)))<|bE h fun x7 hx7 h => cD (fO hx7)<|sF h (fun h => ?_) fun h => ?_
 ·refine sN<|cT<|gS rfl rfl<|sV (.d (am.pd (am.mk [] [] [] [])))<|sS 32 (.var [rS [], rS [], rS [], rS []])<|sV (rI 3)<|sN<|qR ?_
  cases oI h
  exact qD
 refine sN<|cF<|qK<|gS rfl rfl<|sV (.d (am.pd (am.mk x3 x4 x5 x6)))<|sS 32 (.var [rS x3, rS x4, rS x5, rS x6])<|sV (r0)<|sN<|qR ?_
 cases oI h
 exact qD
theorem jG {d0 : aS} {r : ag × aS} (h : ef d0 = some r) : EvP prog aM ext 53 [.ptr 0 0] [.var [.d (.lst (d0.fL.map PD.str))]] (.d (ag.pd r.1), [.var [.d (.lst (r.2.fL.map PD.str))]]) := by
 refine Ev.body rfl Tryz.func53 rfl (by kernel_rfl)<|gS rfl rfl<|sB (.ptr 32 0) 32 (.var zZ7)<|sN<|gS rfl rfl<|sB (.ptr 48 0) 48 (.var zZ7)<|sN<|gS rfl rfl<|sM rfl<|bE h fun x1 hx1 h => cR (rS x1.1) [(0, .var [.d (.lst (x1.2.fL.map PD.str))])] (jH hx1)<|bE h fun x2 hx2 h => cR (.tup [.d (am.pd x2.1), rI x2.2]) [] (ref03_Parse_ev hx2)<|sM rfl<|sV (.d (am.pd x2.1)) ?_
 refine sV (rI x2.2)<|sV (.ptr 48 0)<|sS 48 (.var [rS x2.1.aC, rS x2.1.aE, rS x2.1.ac, rS x2.1.aD, r0, r0, r0, r0, r0])<|sN<|gS rfl rfl<|sM rfl<|bE h fun x3 hx3 h => cR (rI x3.1) [(0, .var [.d (.lst (x3.2.fL.map PD.str))])] (bi hx3)<|sV (.ptr 48 4)<|sS 48 (.var [rS x2.1.aC, rS x2.1.aE, rS x2.1.ac, rS x2.1.aD, rI x3.1, r0, r0, r0, r0])<|sN<|gS rfl rfl<|sM rfl<|bE h fun x4 hx4 h => cR (rI x4.1) [(0, .var [.d (.lst (x4.2.fL.map PD.str))])] (bi hx4) ?_
 refine sV (.ptr 48 5)<|sS 48 (.var [rS x2.1.aC, rS x2.1.aE, rS x2.1.ac, rS x2.1.aD, rI x3.1, rI x4.1, r0, r0, r0])<|sN<|gS rfl rfl<|sM rfl<|bE h fun x5 hx5 h => cR (rI x5.1) [(0, .var [.d (.lst (x5.2.fL.map PD.str))])] (bi hx5)<|sV (.ptr 48 6)<|sS 48 (.var [rS x2.1.aC, rS x2.1.aE, rS x2.1.ac, rS x2.1.aD, rI x3.1, rI x4.1, rI x5.1, r0, r0])<|sN<|gS rfl rfl<|sM rfl<|bE h fun x6 hx6 h => cR (rI x6.1) [(0, .var [.d (.lst (x6.2.fL.map PD.str))])] (bi hx6)<|sV (.ptr 48 7) ?_
 refine sS 48 (.var [rS x2.1.aC, rS x2.1.aE, rS x2.1.ac, rS x2.1.aD, rI x3.1, rI x4.1, rI x5.1, rI x6.1, r0])<|sN<|gS rfl rfl<|sM rfl<|bE h fun x7 hx7 h => cR (rI x7.1) [(0, .var [.d (.lst (x7.2.fL.map PD.str))])] (bi hx7)<|sV (.ptr 48 8)<|sS 48 (.var [rS x2.1.aC, rS x2.1.aE, rS x2.1.ac, rS x2.1.aD, rI x3.1, rI x4.1, rI x5.1, rI x6.1, rI x7.1])<|sN<|gS rfl rfl<|sV (.d (ag.pd (ag.mk x2.1 x3.1 x4.1 x5.1 x6.1 x7.1)))<|sH 32 (.var [rS x2.1.aC, rS x2.1.aE, rS x2.1.ac, rS x2.1.aD, rI x3.1, rI x4.1, rI x5.1, rI x6.1, rI x7.1])<|sN<|qR ?_
 cases oI h
 exact qG
theorem gO {d0 : aS} {r : aj × aS} (h : dI d0 = some r) : EvP prog aM ext 54 [.ptr 0 0] [.var [.d (.lst (d0.fL.map PD.str))]] (.d (aj.pd r.1), [.var [.d (.lst (r.2.fL.map PD.str))]]) := by
 refine Ev.body rfl Tryz.func54 rfl (by kernel_rfl)<|gS rfl rfl<|sB (.ptr 32 0) 32 (.var [r0, r0, r0])<|sN<|gS rfl rfl<|sB (.ptr 48 0) 48 (.var [r0, r0, r0])<|sN<|gS rfl rfl<|sM rfl<|bE h fun x1 hx1 h => cR (rI x1.1) [(0, .var [.d (.lst (x1.2.fL.map PD.str))])] (bi hx1)<|sV (.ptr 48 0)<|sS 48 (.var [rI x1.1, r0, r0])<|sN<|gS rfl rfl ?_
 refine sM rfl<|bE h fun x2 hx2 h => cR (rI x2.1) [(0, .var [.d (.lst (x2.2.fL.map PD.str))])] (bi hx2)<|sV (.ptr 48 1)<|sS 48 (.var [rI x1.1, rI x2.1, r0])<|sN<|gS rfl rfl<|sM rfl<|bE h fun x3 hx3 h => cR (rI x3.1) [(0, .var [.d (.lst (x3.2.fL.map PD.str))])] (bi hx3)<|sV (.ptr 48 2)<|sS 48 (.var [rI x1.1, rI x2.1, rI x3.1])<|sN<|gS rfl rfl<|sV (.d (aj.pd (aj.mk x1.1 x2.1 x3.1))) ?_
 refine sS 32 (.var [rI x1.1, rI x2.1, rI x3.1])<|sN<|qR ?_
 cases oI h
 exact qD
theorem ref37_Validq_ev {co : Int} {b6 : Int} {b8 : Int} {cr : Int} {ce : Int} {cp : (List UInt8)} {cq : (List UInt8)} {ct : (List UInt8)} {cu : (List UInt8)} {cv : Int} {bK : Int} {bL : Int} {bM : Int} {bP : Int} {bq : Int} {bu : Int} {bv : Int} {bw : Int} {bz : Int} {bA : Int} {bB : Int} {bC : Int} {bD : Int} {bF : Int} {bG : Int} {bH : Int} {bR : Int} {bS : Int} {bT : Int} {d0 : (List ag)} {r : Bool × (List ag)} (h : hZ co b6 b8 cr ce cp cq ct cu cv bK bL bM bP bq bu bv bw bz bA bB bC bD bF bG bH bR bS bT d0 = some r) : EvP prog aM ext 17 [.agg [rI co, rI b6, rI b8, rI cr, rI ce, rS cp, rS cq, rS ct, rS cu, rI cv, rI bK, rI bL, rI bM, rI bP, .ref 0 0, rI bq, rI bu, rI bv, rI bw, rI bz, rI bA, rI bB, rI bC, rI bD, rI bF, rI bG, rI bH, rI bR, rI bS, rI bT]] [.arr 0 25 (d0.map ag.pd)] (rB r.1, [.arr 0 25 (r.2.map ag.pd)]) := by
 refine Ev.body rfl Tryz.func17 rfl (by kernel_rfl)<|gS rfl rfl<|sB (.ptr 16 0) 16 (.var [rI co, rI b6, rI b8, rI cr, rI ce, rS cp, rS cq, rS ct, rS cu, rI cv, rI bK, rI bL, rI bM, rI bP, .ref 0 0, rI bq, rI bu, rI bv, rI bw, rI bz, rI bA, rI bB, rI bC, rI bD, rI bF, rI bG, rI bH, rI bR, rI bS, rI bT])<|sU<|sN<|qS<|gS rfl rfl<|sV (.ptr 16 0)<|sL rfl<|sF h (fun h => ?_) fun h => ?_
 ·refine sM rfl<|k3<|sT<|sM rfl<|k3<|sT<|sM rfl<|k3<|sT ?_
  refine sM rfl<|k3<|sT<|sM rfl<|k3<|sK<|sK<|sT<|sM rfl<|sK<|sK ?_
  refine k3<|k3<|sK<|sT<|sM rfl<|k3<|sT<|sM rfl<|sK ?_
  refine sK<|sK<|sT<|sN<|cT<|gS rfl rfl<|sU<|sN<|qR ?_
  cases oI h
  exact qG
 refine sM rfl<|sV (.ptr 16 0)<|sL rfl<|sV (rB (decide (co ≥ (1000 : Int))))<|sF h (fun h => ?_) fun h => ?_
 ·refine sM rfl<|k3<|sT<|sM rfl<|k3<|sT<|sM rfl<|k3<|sT ?_
  refine sM rfl<|k3<|sK<|sK<|sT<|sM rfl<|k3<|k3<|sK ?_
  refine sK<|sK<|sT<|sM rfl<|k3<|sT<|sM rfl<|k3<|sT<|sN<|cT ?_
  refine gS rfl rfl<|sU<|sN<|qR ?_
  cases oI h
  exact qG
 refine sM rfl<|sV (.ptr 16 1)<|sL rfl<|sV (rB (decide (b6 < (1 : Int))))<|sF h (fun h => ?_) fun h => ?_
 ·refine sM rfl<|k3<|sT<|sM rfl<|k3<|sT<|sM rfl<|k3<|sK ?_
  refine sK<|sT<|sM rfl<|k3<|k3<|k3<|sT<|sM rfl<|sK ?_
  refine sK<|sK<|sT<|sM rfl<|k3<|sT<|sN<|cT<|gS rfl rfl<|sU<|sN<|qR ?_
  cases oI h
  exact qG
 refine sM rfl<|sV (.ptr 16 1)<|sL rfl<|sV (rB (decide (b6 > (3 : Int))))<|sF h (fun h => ?_) fun h => ?_
 ·refine sM rfl<|k3<|sT<|sM rfl<|k3<|sK<|sK<|sT<|sM rfl<|sK<|sK ?_
  refine k3<|k3<|sK<|sT<|sM rfl<|k3<|sT<|sM rfl<|sK ?_
  refine sK<|sK<|sT<|sN<|cT<|gS rfl rfl<|sU<|sN<|qR ?_
  cases oI h
  exact qG
 refine sM rfl<|sV (.ptr 16 2)<|sL rfl<|sV (rB (decide (b8 < (0 : Int))))<|sF h (fun h => ?_) fun h => ?_
 ·refine sM rfl<|k3<|sK<|sK<|sT<|sM rfl<|k3<|k3<|sK ?_
  refine sK<|sK<|sT<|sM rfl<|k3<|sT<|sM rfl<|k3<|sT<|sN<|cT ?_
  refine gS rfl rfl<|sU<|sN<|qR ?_
  cases oI h
  exact qG
 refine sM rfl<|sV (.ptr 16 2)<|sL rfl<|sV (.ptr 16 0)<|sL rfl<|sV (rB (decide (b8 > co)))<|sF h (fun h => ?_) fun h => ?_
 ·refine sM rfl<|k3<|k3<|k3<|sT<|sM rfl<|sK<|sK<|sK ?_
  refine sT<|sM rfl<|k3<|sT<|sN<|cT<|gS rfl rfl<|sU<|sN<|qR ?_
  cases oI h
  exact qG
 refine sM rfl<|sV (.ptr 16 2)<|sL rfl<|sV (.ptr 16 0)<|sL rfl<|sV (rB (b8 == co))<|sV (.ptr 16 1)<|sL rfl<|sV (rB (b6 == (1 : Int)))<|sV (rB (!((b8 == co) == (b6 == (1 : Int)))))<|sF h (fun h => ?_) fun h => ?_
 ·refine sM rfl<|k3<|sT<|sM rfl<|k3<|sT<|sN<|cT<|gS rfl rfl<|sU<|sN ?_
  refine qR ?_
  cases oI h
  exact qG
 refine sM rfl<|sV (.ptr 16 4)<|sL rfl<|sV (rB (decide (ce < (0 : Int))))<|sF h (fun h => ?_) fun h => ?_
 ·refine sM rfl<|k3<|sT<|sN<|cT<|gS rfl rfl<|sU<|sN<|qR ?_
  cases oI h
  exact qG
 refine sM rfl<|sV (.ptr 16 4)<|sL rfl<|sV (rB (decide (ce > (8 : Int))))<|sF h (fun h => ?_) fun h => ?_
 ·refine sN<|cT<|gS rfl rfl<|sU<|sN<|qR ?_
  cases oI h
  exact qG
 refine sN<|cF<|qK<|gS rfl rfl<|sV (.ptr 16 5)<|sV (.ptr 16 14)<|sV (.agg [.ref 0 0, rI bq, rI bu, rI bv, rI bw, rI bz, rI bA, rI bB, rI bC, rI bD, rI bF, rI bG, rI bH, rI bR, rI bS, rI bT])<|sB (.ptr 48 0) 48 (.var zZ2)<|sH 48 (.var [.ref 0 0, rI bq, rI bu, rI bv, rI bw, rI bz, rI bA, rI bB, rI bC, rI bD, rI bF, rI bG, rI bH, rI bR, rI bS, rI bT])<|sN<|qS<|gS rfl rfl<|sV (r0)<|sN<|bE h fun o19 ho19 h => ?_
 refine WC.block (WC.loop (WL.ofLoop ho19 (fun s R' B' => ghosts prog 1 (A R' B') (aM.at_ 17 1 5) = some (A [(1, .ptr 16 0), (3, .ptr 48 0), (4, rI s)] [(0, .arr 0 25 (d0.map ag.pd)), (16, .var [rI co, rI b6, rI b8, rI cr, rI ce, rS cp, rS cq, rS ct, rS cu, rI cv, rI bK, rI bL, rI bM, rI bP, .ref 0 0, rI bq, rI bu, rI bv, rI bw, rI bz, rI bA, rI bB, rI bC, rI bD, rI bF, rI bG, rI bH, rI bR, rI bS, rI bT]), (48, .var [.ref 0 0, rI bq, rI bu, rI bv, rI bw, rI bz, rI bA, rI bB, rI bC, rI bD, rI bF, rI bG, rI bH, rI bR, rI bS, rI bT])])) (fun o e R' B' => match o with | .inl y => e = .exit 0 ∧ ghosts prog 1 (A R' B') (aM.at_ 17 1 9) = some (A [(1, .ptr 16 0), (3, .ptr 48 0)] [(0, .arr 0 25 (d0.map ag.pd)), (16, .var [rI co, rI b6, rI b8, rI cr, rI ce, rS cp, rS cq, rS ct, rS cu, rI cv, rI bK, rI bL, rI bM, rI bP, .ref 0 0, rI bq, rI bu, rI bv, rI bw, rI bz, rI bA, rI bB, rI bC, rI bD, rI bF, rI bG, rI bH, rI bR, rI bS, rI bT]), (48, .var [.ref 0 0, rI bq, rI bu, rI bv, rI bw, rI bz, rI bA, rI bB, rI bC, rI bD, rI bF, rI bG, rI bH, rI bR, rI bS, rI bT])]) | .inr r => e = .ret ∧ finish prog (aM.own 17) Tryz.f17 1 (A R' B') = some (rB r.1, [.arr 0 25 (r.2.map ag.pd)])) rfl ?_ ?_))
 ·rintro s10 R' B' q11 hI h
  refine qS<|gS rfl hI<|sM rfl<|sV (.ptr 48 0)<|sL rfl<|WO.lenR rfl rfl rfl rfl rfl rfl rfl rfl rfl<|sF h (fun h => ?_) fun h => ?_
  ·refine sN<|cT<|qK<|qS<|qB<|gS rfl rfl<|sV (.ptr 48 0)<|sL rfl<|sM rfl<|bE h fun x14 hx14 h => WO.eltG hx14 rfl rfl rfl rfl rfl rfl rfl rfl<|bE h fun x15 hx15 h => WO.loadE hx15 rfl rfl rfl rfl rfl rfl<|bE h fun x16 hx16 h => cD (cZ hx16) ?_
   refine sF h (fun h => ?_) fun h => ?_
   ·refine sN<|cT<|gS rfl rfl<|sU<|sN<|qR ?_
    cases oI h
    exact ⟨nofun, rfl, rfl⟩
   refine sN<|cF<|qK<|WC.region rfl rfl<|sM rfl<|sV (rI (rW (s10 + (1 : Int))))<|sA rfl<|sN ?_
   cases oI h
   exact ⟨rfl, rfl⟩
  refine sN<|cF<|qX ?_
  cases oI h
  exact ⟨nofun, rfl, rfl⟩
 intro e R' B' he hq
 rcases o19 with y20 | r21
 ·obtain ⟨rfl, hI⟩ := hq
  refine qE<|gS rfl hI<|sV (.ptr 48 1)<|sV (.d (aB.pd (aB.mk (aj.mk bq bu bv) bw bz bA (aP.mk (aj.mk bB bC bD) (aj.mk bF bG bH)))))<|sB (.ptr 80 0) 80 (.var zZ5)<|sH 80 (.var [rI bq, rI bu, rI bv, rI bw, rI bz, rI bA, rI bB, rI bC, rI bD, rI bF, rI bG, rI bH])<|sN<|gS rfl rfl<|sV (.ptr 16 5)<|sV (.ptr 16 5)<|sV (.d (ag.pd (ag.mk (am.mk cp cq ct cu) cv bK bL bM bP)))<|bE h fun x22 hx22 h => ite_elim h (fun hb23 h => ?_) (fun hb23 h => ?_)
  ·refine WO.callR (v := rB true) (u := []) rfl rfl (fun _ => rfl) rfl rfl rfl rfl rfl (cZ hx22) rfl rfl (congrArg (fun b => RV.d (.bool b)) hb23) rfl<|sM rfl<|sV (.ptr 48 0)<|sL rfl<|WO.lenR rfl rfl rfl rfl rfl rfl rfl rfl rfl<|sV (rB (decide ((d0.length : Int) ≤ (64 : Int))))<|sF h (fun h => ?_) fun h => ?_
   ·refine sM rfl<|sV (.ptr 16 3)<|sL rfl<|sV (.ptr 80 0)<|sV (.ptr 80 0)<|sL rfl<|sV (.ptr 80 0)<|sV (.ptr 80 1)<|sL rfl<|sV (.ptr 80 0)<|sV (.ptr 80 2)<|sL rfl<|sV (.ptr 80 3)<|sL rfl<|sV (.ptr 80 4) ?_
    refine sL rfl<|sV (.ptr 80 5)<|sL rfl<|sV (.ptr 80 6)<|sV (.ptr 80 6)<|sV (.ptr 80 6)<|sL rfl<|sV (.ptr 80 6)<|sV (.ptr 80 6)<|sV (.ptr 80 7)<|sL rfl<|sV (.ptr 80 6)<|sV (.ptr 80 6)<|sV (.ptr 80 8)<|sL rfl ?_
    refine sV (.ptr 80 6)<|sV (.ptr 80 9)<|sV (.ptr 80 9)<|sL rfl<|sV (.ptr 80 6)<|sV (.ptr 80 9)<|sV (.ptr 80 10)<|sL rfl<|sV (.ptr 80 6)<|sV (.ptr 80 9)<|sV (.ptr 80 11)<|sL rfl<|sV (.ptr 48 13)<|sV (.ptr 48 13)<|sL rfl ?_
    refine sV (.ptr 48 13)<|sV (.ptr 48 14)<|sL rfl<|sV (.ptr 48 15)<|sL rfl<|sG (.d (.lst ([cr, bq, bu, bv, bw, bz, bA, bB, bC, bD, bF, bG, bH, bR, bS, bT].map (PD.int .i64))))<|bE h fun x25 hx25 h => cD (jO hx25)<|sV (rB x25)<|sA rfl<|sN<|qR ?_
    cases oI h
    exact qG
   refine sM rfl<|k3<|k3<|k3<|k3<|sK<|sK ?_
   refine k3<|k3<|k3<|k3<|sK<|sK<|sK ?_
   refine k3<|k3<|k3<|k3<|sK<|sK<|sK ?_
   refine k3<|k3<|sK<|sU<|sA rfl<|sN<|qR ?_
   cases oI h
   exact qG
  refine WO.callR (v := rB false) (u := []) rfl rfl (fun _ => rfl) rfl rfl rfl rfl rfl (cZ hx22) rfl rfl (congrArg (fun b => RV.d (.bool b)) hb23) rfl<|sM rfl<|k3<|sK<|sU<|sM rfl<|k3<|k3<|sK ?_
  refine k3<|k3<|k3<|k3<|sK<|sK<|sK ?_
  refine k3<|k3<|k3<|k3<|sK<|sK<|sK ?_
  refine k3<|k3<|k3<|k3<|sK<|sK<|sU ?_
  refine sA rfl<|sN<|qR ?_
  cases oI h
  exact qG
 obtain ⟨rfl, hf⟩ := hq
 cases oI h
 exact hf
theorem ref37_wordsq_ev {co : Int} {b6 : Int} {b8 : Int} {cr : Int} {ce : Int} {cp : (List UInt8)} {cq : (List UInt8)} {ct : (List UInt8)} {cu : (List UInt8)} {cv : Int} {bK : Int} {bL : Int} {bM : Int} {bP : Int} {bq : Int} {bu : Int} {bv : Int} {bw : Int} {bz : Int} {bA : Int} {bB : Int} {bC : Int} {bD : Int} {bF : Int} {bG : Int} {bH : Int} {bR : Int} {bS : Int} {bT : Int} {d0 : (List ag)} {r : (List (List UInt8)) × (List ag)} (h : ia co b6 b8 cr ce cp cq ct cu cv bK bL bM bP bq bu bv bw bz bA bB bC bD bF bG bH bR bS bT d0 = some r) : EvP prog aM ext 40 [.agg [rI co, rI b6, rI b8, rI cr, rI ce, rS cp, rS cq, rS ct, rS cu, rI cv, rI bK, rI bL, rI bM, rI bP, .ref 0 0, rI bq, rI bu, rI bv, rI bw, rI bz, rI bA, rI bB, rI bC, rI bD, rI bF, rI bG, rI bH, rI bR, rI bS, rI bT]] [.arr 0 25 (d0.map ag.pd)] (.d (.lst (r.1.map PD.str)), [.arr 0 25 (r.2.map ag.pd)]) := by
 refine Ev.body rfl Tryz.func40 rfl (by kernel_rfl)<|gS rfl rfl<|sB (.ptr 16 0) 16 (.var [rI co, rI b6, rI b8, rI cr, rI ce, rS cp, rS cq, rS ct, rS cu, rI cv, rI bK, rI bL, rI bM, rI bP, .ref 0 0, rI bq, rI bu, rI bv, rI bw, rI bz, rI bA, rI bB, rI bC, rI bD, rI bF, rI bG, rI bH, rI bR, rI bS, rI bT])<|sV .nils<|sN<|gS rfl rfl<|sV (.ptr 16 5)<|sV (.ptr 16 14)<|sV (.agg [.ref 0 0, rI bq, rI bu, rI bv, rI bw, rI bz, rI bA, rI bB, rI bC, rI bD, rI bF, rI bG, rI bH, rI bR, rI bS, rI bT])<|sB (.ptr 48 0) 48 (.var zZ2)<|sH 48 (.var [.ref 0 0, rI bq, rI bu, rI bv, rI bw, rI bz, rI bA, rI bB, rI bC, rI bD, rI bF, rI bG, rI bH, rI bR, rI bS, rI bT])<|sN<|gS rfl rfl<|sV (.ptr 48 1)<|sV (.d (aB.pd (aB.mk (aj.mk bq bu bv) bw bz bA (aP.mk (aj.mk bB bC bD) (aj.mk bF bG bH))))) ?_
 refine sB (.ptr 64 0) 64 (.var zZ5)<|sH 64 (.var [rI bq, rI bu, rI bv, rI bw, rI bz, rI bA, rI bB, rI bC, rI bD, rI bF, rI bG, rI bH])<|sN<|gS rfl rfl<|sV (.ptr 16 0)<|sL rfl<|sV (.ptr 16 1)<|sL rfl<|sV (.ptr 16 2)<|sL rfl<|sV (.ptr 16 3)<|sL rfl<|sV (.ptr 16 4)<|sL rfl<|sV (.d (.lst ([co, b6, b8, cr, ce].map (PD.int .i64)))) ?_
 refine bE h fun x1 hx1 h => cR (.ref 368 0) [(368, .arr 0 9 (x1.map PD.str))] (cn hx1)<|sA rfl<|sN<|WC.regionDSeq rfl rfl<|sM rfl<|sV (.ptr 16 5)<|sV (.ptr 16 5)<|sV (.d (ag.pd (ag.mk (am.mk cp cq ct cu) cv bK bL bM bP)))<|bE h fun x2 hx2 h => cD (gD hx2)<|bE h fun x3 hx3 h => aR hx3 (fun _ => rfl) rfl<|sV (.ptr 48 0)<|sL rfl ?_
 refine WO.lenR rfl rfl rfl rfl rfl rfl rfl rfl rfl<|bE h fun x4 hx4 h => cD (gr hx4)<|sV (.d (.lst ([x4].map PD.str)))<|bE h fun x5 hx5 h => aR hx5 (fun _ => rfl) rfl<|sA rfl ?_
 refine sN<|sO<|qS<|gS rfl rfl<|sV (r0)<|sN<|bE h fun o17 ho17 h => WC.block (WC.loop (WL.ofLoop ho17 (fun s R' B' => ghosts prog 1 (A R' B') (aM.at_ 40 1 6) = some (A [(3, .ptr 48 0), (4, .ptr 64 0), (5, .ref 368 0), (6, rI s.1)] [(0, .arr 0 25 (d0.map ag.pd)), (48, .var [.ref 0 0, rI bq, rI bu, rI bv, rI bw, rI bz, rI bA, rI bB, rI bC, rI bD, rI bF, rI bG, rI bH, rI bR, rI bS, rI bT]), (64, .var [rI bq, rI bu, rI bv, rI bw, rI bz, rI bA, rI bB, rI bC, rI bD, rI bF, rI bG, rI bH]), (368, .arr 0 9 (s.2.map PD.str))])) (fun o e R' B' => e = .exit 0 ∧ ghosts prog 1 (A R' B') (aM.at_ 40 1 9) = some (A [(3, .ptr 48 0), (4, .ptr 64 0), (5, .ref 368 0)] [(0, .arr 0 25 (d0.map ag.pd)), (48, .var [.ref 0 0, rI bq, rI bu, rI bv, rI bw, rI bz, rI bA, rI bB, rI bC, rI bD, rI bF, rI bG, rI bH, rI bR, rI bS, rI bT]), (64, .var [rI bq, rI bu, rI bv, rI bw, rI bz, rI bA, rI bB, rI bC, rI bD, rI bF, rI bG, rI bH]), (368, .arr 0 9 (o.map PD.str))])) rfl ?_ ?_))
 ·rintro ⟨s6, s7⟩ R' B' q9 hI h
  refine qS<|gS rfl hI<|sM rfl<|sV (.ptr 48 0)<|sL rfl<|WO.lenR rfl rfl rfl rfl rfl rfl rfl rfl rfl<|sF h (fun h => ?_) fun h => ?_
  ·refine sN<|cT<|qK<|qS<|qB<|WC.region rfl rfl<|sM rfl<|sV (.ptr 48 0)<|sL rfl<|sM rfl<|bE h fun x12 hx12 h => WO.eltG hx12 rfl rfl rfl rfl rfl rfl rfl rfl<|bE h fun x13 hx13 h => WO.loadE hx13 rfl rfl rfl rfl rfl rfl<|bE h fun x14 hx14 h => ?_
   refine cD (gD hx14)<|bE h fun x15 hx15 h => aR hx15 (fun _ => rfl) rfl<|sA rfl<|sN<|WC.region rfl rfl<|sM rfl<|sV (rI (rW (s6 + (1 : Int))))<|sA rfl<|sN ?_
   cases oI h
   exact ⟨rfl, rfl⟩
  refine sN<|cF<|qX ?_
  cases oI h
  exact ⟨nofun, rfl, rfl⟩
 intro e R' B' he hq
 obtain ⟨rfl, hI⟩ := hq
 refine qE<|gS rfl hI<|sM rfl<|sV (.ptr 64 0)<|sV (.ptr 64 0)<|sL rfl<|sV (.ptr 64 0)<|sV (.ptr 64 1)<|sL rfl<|sV (.ptr 64 0)<|sV (.ptr 64 2)<|sL rfl<|sV (.ptr 64 3)<|sL rfl<|sV (.ptr 64 4) ?_
 refine sL rfl<|sV (.ptr 64 5)<|sL rfl<|sV (.d (.lst ([bq, bu, bv, bw, bz, bA].map (PD.int .i64))))<|bE h fun x18 hx18 h => cR (.ref 1088 0) [(1088, .arr 0 9 (x18.map PD.str))] (cn hx18)<|bE h fun x19 hx19 h => WO.appRG hx19 (fun _ => rfl) rfl rfl rfl rfl rfl rfl rfl rfl rfl rfl rfl rfl rfl rfl rfl<|sA rfl<|sN<|gS rfl rfl<|sM rfl<|sV (.ptr 64 6)<|sV (.ptr 64 6)<|sV (.ptr 64 6) ?_
 refine sL rfl<|sV (.ptr 64 6)<|sV (.ptr 64 6)<|sV (.ptr 64 7)<|sL rfl<|sV (.ptr 64 6)<|sV (.ptr 64 6)<|sV (.ptr 64 8)<|sL rfl<|sV (.ptr 64 6)<|sV (.ptr 64 9)<|sV (.ptr 64 9)<|sL rfl<|sV (.ptr 64 6)<|sV (.ptr 64 9) ?_
 refine sV (.ptr 64 10)<|sL rfl<|sV (.ptr 64 6)<|sV (.ptr 64 9)<|sV (.ptr 64 11)<|sL rfl<|sV (.d (.lst ([bB, bC, bD, bF, bG, bH].map (PD.int .i64))))<|bE h fun x20 hx20 h => cR (.ref 1536 0) [(1536, .arr 0 9 (x20.map PD.str))] (cn hx20)<|bE h fun x21 hx21 h => WO.appRG hx21 (fun _ => rfl) rfl rfl rfl rfl rfl rfl rfl rfl rfl rfl rfl rfl rfl rfl rfl<|sA rfl<|sN<|gS rfl rfl<|sM rfl ?_
 refine sV (.ptr 48 13)<|sV (.ptr 48 13)<|sL rfl<|sV (.ptr 48 13)<|sV (.ptr 48 14)<|sL rfl<|sV (.ptr 48 15)<|sL rfl<|sV (.d (.lst ([bR, bS, bT].map (PD.int .i64))))<|bE h fun x22 hx22 h => cR (.ref 1728 0) [(1728, .arr 0 9 (x22.map PD.str))] (cn hx22)<|bE h fun x23 hx23 h => WO.appRG hx23 (fun _ => rfl) rfl rfl rfl rfl rfl rfl rfl rfl rfl rfl rfl rfl rfl rfl rfl<|sA rfl<|sN ?_
 refine qR ?_
 cases oI h
 exact qG
theorem ref37_Encodeq_ev {co : Int} {b6 : Int} {b8 : Int} {cr : Int} {ce : Int} {cp : (List UInt8)} {cq : (List UInt8)} {ct : (List UInt8)} {cu : (List UInt8)} {cv : Int} {bK : Int} {bL : Int} {bM : Int} {bP : Int} {bq : Int} {bu : Int} {bv : Int} {bw : Int} {bz : Int} {bA : Int} {bB : Int} {bC : Int} {bD : Int} {bF : Int} {bG : Int} {bH : Int} {bR : Int} {bS : Int} {bT : Int} {d0 : (List ag)} {r : (List UInt8) × Int × (List ag)} (h : gC co b6 b8 cr ce cp cq ct cu cv bK bL bM bP bq bu bv bw bz bA bB bC bD bF bG bH bR bS bT d0 = some r) : EvP prog aM ext 15 [.agg [rI co, rI b6, rI b8, rI cr, rI ce, rS cp, rS cq, rS ct, rS cu, rI cv, rI bK, rI bL, rI bM, rI bP, .ref 0 0, rI bq, rI bu, rI bv, rI bw, rI bz, rI bA, rI bB, rI bC, rI bD, rI bF, rI bG, rI bH, rI bR, rI bS, rI bT]] [.arr 0 25 (d0.map ag.pd)] (.tup [rS r.1, rI r.2.1], [.arr 0 25 (r.2.2.map ag.pd)]) := by
 refine Ev.body rfl Tryz.func15 rfl (by kernel_rfl)<|gS rfl rfl<|sB (.ptr 16 0) 16 (.var [rI co, rI b6, rI b8, rI cr, rI ce, rS cp, rS cq, rS ct, rS cu, rI cv, rI bK, rI bL, rI bM, rI bP, .ref 0 0, rI bq, rI bu, rI bv, rI bw, rI bz, rI bA, rI bB, rI bC, rI bD, rI bF, rI bG, rI bH, rI bR, rI bS, rI bT])<|sV (rS [])<|sV (r0)<|sN<|qS<|gS rfl rfl<|sV (.agg [rI co, rI b6, rI b8, rI cr, rI ce, rS cp, rS cq, rS ct, rS cu, rI cv, rI bK, rI bL, rI bM, rI bP, .ref 0 0, rI bq, rI bu, rI bv, rI bw, rI bz, rI bA, rI bB, rI bC, rI bD, rI bF, rI bG, rI bH, rI bR, rI bS, rI bT])<|bE h fun x1 hx1 h => cR (rB x1.1) [(0, .arr 0 25 (x1.2.map ag.pd))] (ref37_Validq_ev hx1)<|sF h (fun h => ?_) fun h => ?_
 ·refine sN<|cT<|gS rfl rfl<|sV (rS [])<|sV (rI 1)<|sN<|qR ?_
  cases oI h
  exact qG
 refine sN<|cF<|qK<|gS rfl rfl<|sV (rS [])<|sN<|qS<|gS rfl rfl<|sV (.agg [rI co, rI b6, rI b8, rI cr, rI ce, rS cp, rS cq, rS ct, rS cu, rI cv, rI bK, rI bL, rI bM, rI bP, .ref 0 0, rI bq, rI bu, rI bv, rI bw, rI bz, rI bA, rI bB, rI bC, rI bD, rI bF, rI bG, rI bH, rI bR, rI bS, rI bT])<|bE h fun x3 hx3 h => cR (.d (.lst (x3.1.map PD.str))) [(0, .arr 0 25 (x3.2.map ag.pd))] (ref37_wordsq_ev hx3)<|sE (rI (x3.1.length : Int)) (lenMap _ _)<|sV (r0)<|sN<|bE h fun o15 ho15 h => ?_
 refine WC.block (WC.loop (WL.ofLoop ho15 (fun s R' B' => ghosts prog 1 (A R' B') (aM.at_ 15 1 5) = some (A [(4, rS s.1), (11, .d (.lst (x3.1.map PD.str))), (12, rI (x3.1.length : Int)), (13, rI s.2)] [(0, .arr 0 25 (x3.2.map ag.pd))])) (fun o e R' B' => e = .exit 0 ∧ ghosts prog 1 (A R' B') (aM.at_ 15 1 11) = some (A [(4, rS o)] [(0, .arr 0 25 (x3.2.map ag.pd))])) rfl ?_ ?_))
 ·rintro ⟨s4, s5⟩ R' B' q7 hI h
  refine gS rfl hI<|sF h (fun h => ?_) fun h => ?_
  ·refine sN<|qS<|cT<|qK<|qS<|qB<|gS rfl rfl<|sM rfl<|bE h fun x9 hx9 h => eG hx9 rfl<|sC rfl<|sA rfl<|sA rfl<|sN<|qS ?_
   refine gS rfl rfl<|sM rfl<|sF h (fun h => ?_) fun h => ?_
   ·refine sN<|cT<|WC.region rfl rfl<|sM rfl<|bE h fun x11 hx11 h => WO.catG hx11 rfl rfl rfl rfl rfl<|sA rfl<|sN<|WC.region rfl rfl<|sM rfl<|sM rfl<|bE h fun x12 hx12 h => WO.catG hx12 rfl rfl rfl rfl rfl<|sA rfl<|sN ?_
    refine WC.region rfl rfl<|sV (rI (rW (s5 + (1 : Int))))<|sM rfl<|sN ?_
    cases oI h
    exact ⟨rfl, rfl⟩
   refine sN<|cF<|qK<|WC.region rfl rfl<|sM rfl<|sM rfl<|bE h fun x13 hx13 h => WO.catG hx13 rfl rfl rfl rfl rfl<|sA rfl<|sN<|WC.region rfl rfl<|sV (rI (rW (s5 + (1 : Int))))<|sM rfl<|sN ?_
   cases oI h
   exact ⟨rfl, rfl⟩
  refine sN<|qS<|cF<|qX ?_
  cases oI h
  exact ⟨nofun, rfl, rfl⟩
 intro e R' B' he hq
 obtain ⟨rfl, hI⟩ := hq
 refine qE<|gS rfl hI<|sM rfl<|sA rfl<|sV (r0)<|sN<|qR ?_
 cases oI h
 exact qD
theorem ref37_Decode_ev {a0 : (List UInt8)} {r : ai × Int} (h : dn a0 = some r) : EvP prog aM ext 20 [rS a0] [] (.tup [.d (ai.pd r.1), rI r.2], []) := by
 refine Ev.body rfl Tryz.func20 rfl (by kernel_rfl)<|gS rfl rfl<|sB (.ptr 32 0) 32 (.var zZ0)<|sV (r0)<|sN<|gS rfl rfl<|sM rfl<|bE h fun x1 hx1 h => cD (ref37_split_ev hx1)<|sV (.d (.agg [.lst (x1.map PD.str)]))<|sB (.ptr 208 0) 208 (.var [.d (.lst (x1.map PD.str))])<|sA rfl<|sN<|gS rfl rfl<|sB (.ptr 80 0) 80 (.var zZ0) ?_
 refine sN<|gS rfl rfl<|sM rfl<|bE h fun x2 hx2 h => cR (rI x2.1) [(208, .var [.d (.lst (x2.2.fL.map PD.str))])] (bi hx2)<|sV (.ptr 80 0)<|sS 80 (.var [rI x2.1, r0, r0, r0, r0, rS [], rS [], rS [], rS [], r0, r0, r0, r0, r0, .nils, r0, r0, r0, r0, r0, r0, r0, r0, r0, r0, r0, r0, r0, r0, r0])<|sN<|gS rfl rfl<|sM rfl<|bE h fun x3 hx3 h => cR (rI x3.1) [(208, .var [.d (.lst (x3.2.fL.map PD.str))])] (bi hx3)<|sV (.ptr 80 1)<|sS 80 (.var [rI x2.1, rI x3.1, r0, r0, r0, rS [], rS [], rS [], rS [], r0, r0, r0, r0, r0, .nils, r0, r0, r0, r0, r0, r0, r0, r0, r0, r0, r0, r0, r0, r0, r0])<|sN ?_
 refine gS rfl rfl<|sM rfl<|bE h fun x4 hx4 h => cR (rI x4.1) [(208, .var [.d (.lst (x4.2.fL.map PD.str))])] (bi hx4)<|sV (.ptr 80 2)<|sS 80 (.var [rI x2.1, rI x3.1, rI x4.1, r0, r0, rS [], rS [], rS [], rS [], r0, r0, r0, r0, r0, .nils, r0, r0, r0, r0, r0, r0, r0, r0, r0, r0, r0, r0, r0, r0, r0])<|sN<|gS rfl rfl<|sM rfl<|bE h fun x5 hx5 h => cR (rI x5.1) [(208, .var [.d (.lst (x5.2.fL.map PD.str))])] (bi hx5)<|sV (.ptr 80 3)<|sS 80 (.var [rI x2.1, rI x3.1, rI x4.1, rI x5.1, r0, rS [], rS [], rS [], rS [], r0, r0, r0, r0, r0, .nils, r0, r0, r0, r0, r0, r0, r0, r0, r0, r0, r0, r0, r0, r0, r0])<|sN<|gS rfl rfl ?_
 refine sM rfl<|bE h fun x6 hx6 h => cR (rI x6.1) [(208, .var [.d (.lst (x6.2.fL.map PD.str))])] (bi hx6)<|sV (.ptr 80 4)<|sS 80 (.var [rI x2.1, rI x3.1, rI x4.1, rI x5.1, rI x6.1, rS [], rS [], rS [], rS [], r0, r0, r0, r0, r0, .nils, r0, r0, r0, r0, r0, r0, r0, r0, r0, r0, r0, r0, r0, r0, r0])<|sN<|gS rfl rfl<|sM rfl<|bE h fun x7 hx7 h => cR (.d (ag.pd x7.1)) [(208, .var [.d (.lst (x7.2.fL.map PD.str))])] (jG hx7)<|sV (.ptr 80 5)<|sV (.ptr 80 5)<|sH 80 (.var [rI x2.1, rI x3.1, rI x4.1, rI x5.1, rI x6.1, rS x7.1.ah.aC, rS x7.1.ah.aE, rS x7.1.ah.ac, rS x7.1.ah.aD, rI x7.1.aF, rI x7.1.aJ, rI x7.1.aN, rI x7.1.au, rI x7.1.av, .nils, r0, r0, r0, r0, r0, r0, r0, r0, r0, r0, r0, r0, r0, r0, r0])<|sN<|qS ?_
 refine gS rfl rfl<|sM rfl<|bE h fun x8 hx8 h => cR (rI x8.1) [(208, .var [.d (.lst (x8.2.fL.map PD.str))])] (bi hx8)<|sV (rI (if (65 : Int) < x8.1 then (65 : Int) else x8.1))<|sA rfl<|sN<|bE h fun o19 ho19 h => WC.block (WC.loop (WL.ofLoop ho19 (fun s R' B' => ghosts prog 0 (A R' B') (aM.at_ 20 0 10) = some (A [(0, rS a0), (2, .ptr 32 0), (4, .ptr 208 0), (5, .ptr 80 0), (6, rI s.1)] [(32, .var zZ0), (80, .var [rI x2.1, rI x3.1, rI x4.1, rI x5.1, rI x6.1, rS x7.1.ah.aC, rS x7.1.ah.aE, rS x7.1.ah.ac, rS x7.1.ah.aD, rI x7.1.aF, rI x7.1.aJ, rI x7.1.aN, rI x7.1.au, rI x7.1.av, .ref 752 0, r0, r0, r0, r0, r0, r0, r0, r0, r0, r0, r0, r0, r0, r0, r0]), (208, .var [.d (.lst (s.2.1.map PD.str))]), (752, .arr 0 25 (s.2.2.map ag.pd))])) (fun o e R' B' => e = .exit 0 ∧ ghosts prog 0 (A R' B') (aM.at_ 20 0 13) = some (A [(0, rS a0), (2, .ptr 32 0), (4, .ptr 208 0), (5, .ptr 80 0)] [(32, .var zZ0), (80, .var [rI x2.1, rI x3.1, rI x4.1, rI x5.1, rI x6.1, rS x7.1.ah.aC, rS x7.1.ah.aE, rS x7.1.ah.ac, rS x7.1.ah.aD, rI x7.1.aF, rI x7.1.aJ, rI x7.1.aN, rI x7.1.au, rI x7.1.av, .ref 752 0, r0, r0, r0, r0, r0, r0, r0, r0, r0, r0, r0, r0, r0, r0, r0]), (208, .var [.d (.lst (o.1.map PD.str))]), (752, .arr 0 25 (o.2.map ag.pd))])) rfl ?_ ?_))
 ·rintro ⟨s9, s10, s11⟩ R' B' q14 hI h
  refine qS<|gS rfl hI<|sM rfl<|sF h (fun h => ?_) fun h => ?_
  ·refine sN<|cT<|qK<|qS<|qB<|WC.regionD rfl rfl<|sV (.ptr 80 5)<|sV (.ptr 80 14)<|sV (.ptr 80 14)<|sL rfl<|sM rfl<|bE h fun x16 hx16 h => cR (.d (ag.pd x16.1)) [(208, .var [.d (.lst (x16.2.fL.map PD.str))])] (jG hx16)<|sG (.d (.lst ([x16.1].map ag.pd)))<|bE h fun x17 hx17 h => ?_
   refine aR hx17 (fun _ => rfl) rfl<|sV (.ptr 80 5)<|sV (.ptr 80 14)<|sV (.ptr 80 14)<|sS 80 (.var [rI x2.1, rI x3.1, rI x4.1, rI x5.1, rI x6.1, rS x7.1.ah.aC, rS x7.1.ah.aE, rS x7.1.ah.ac, rS x7.1.ah.aD, rI x7.1.aF, rI x7.1.aJ, rI x7.1.aN, rI x7.1.au, rI x7.1.av, .ref 752 1, r0, r0, r0, r0, r0, r0, r0, r0, r0, r0, r0, r0, r0, r0, r0]) ?_
   refine sN<|sO<|WC.region rfl rfl<|sM rfl<|sV (rI (rW (s9 - (1 : Int))))<|sA rfl<|sN ?_
   cases oI h
   exact ⟨rfl, rfl⟩
  refine sN<|cF<|qX ?_
  cases oI h
  exact ⟨nofun, rfl, rfl⟩
 intro e R' B' he hq
 obtain ⟨rfl, hI⟩ := hq
 refine qE<|gS rfl hI<|sV (.ptr 80 5)<|sV (.ptr 80 14)<|sA rfl<|sN<|gS rfl rfl<|sM rfl<|sM rfl<|bE h fun x20 hx20 h => cR (.d (aj.pd x20.1)) [(208, .var [.d (.lst (x20.2.fL.map PD.str))])] (gO hx20)<|sV (.ptr 80 14)<|sV (.ptr 80 15)<|sV (.ptr 80 15)<|sS 80 (.var [rI x2.1, rI x3.1, rI x4.1, rI x5.1, rI x6.1, rS x7.1.ah.aC, rS x7.1.ah.aE, rS x7.1.ah.ac, rS x7.1.ah.aD, rI x7.1.aF, rI x7.1.aJ, rI x7.1.aN, rI x7.1.au, rI x7.1.av, .ref 752 0, rI x20.1.fX, rI x20.1.fY, rI x20.1.fZ, r0, r0, r0, r0, r0, r0, r0, r0, r0, r0, r0, r0]) ?_
 refine sN<|gS rfl rfl<|sM rfl<|sM rfl<|bE h fun x21 hx21 h => cR (rI x21.1) [(208, .var [.d (.lst (x21.2.fL.map PD.str))])] (bi hx21)<|sV (.ptr 80 14)<|sV (.ptr 80 15)<|sV (.ptr 80 18)<|sS 80 (.var [rI x2.1, rI x3.1, rI x4.1, rI x5.1, rI x6.1, rS x7.1.ah.aC, rS x7.1.ah.aE, rS x7.1.ah.ac, rS x7.1.ah.aD, rI x7.1.aF, rI x7.1.aJ, rI x7.1.aN, rI x7.1.au, rI x7.1.av, .ref 752 0, rI x20.1.fX, rI x20.1.fY, rI x20.1.fZ, rI x21.1, r0, r0, r0, r0, r0, r0, r0, r0, r0, r0, r0])<|sN<|gS rfl rfl<|sM rfl<|sM rfl<|bE h fun x22 hx22 h => ?_
 refine cR (rI x22.1) [(208, .var [.d (.lst (x22.2.fL.map PD.str))])] (bi hx22)<|sV (.ptr 80 14)<|sV (.ptr 80 15)<|sV (.ptr 80 19)<|sS 80 (.var [rI x2.1, rI x3.1, rI x4.1, rI x5.1, rI x6.1, rS x7.1.ah.aC, rS x7.1.ah.aE, rS x7.1.ah.ac, rS x7.1.ah.aD, rI x7.1.aF, rI x7.1.aJ, rI x7.1.aN, rI x7.1.au, rI x7.1.av, .ref 752 0, rI x20.1.fX, rI x20.1.fY, rI x20.1.fZ, rI x21.1, rI x22.1, r0, r0, r0, r0, r0, r0, r0, r0, r0, r0])<|sN<|gS rfl rfl<|sM rfl<|sM rfl<|bE h fun x23 hx23 h => cR (rI x23.1) [(208, .var [.d (.lst (x23.2.fL.map PD.str))])] (bi hx23)<|sV (.ptr 80 14)<|sV (.ptr 80 15)<|sV (.ptr 80 20)<|sS 80 (.var [rI x2.1, rI x3.1, rI x4.1, rI x5.1, rI x6.1, rS x7.1.ah.aC, rS x7.1.ah.aE, rS x7.1.ah.ac, rS x7.1.ah.aD, rI x7.1.aF, rI x7.1.aJ, rI x7.1.aN, rI x7.1.au, rI x7.1.av, .ref 752 0, rI x20.1.fX, rI x20.1.fY, rI x20.1.fZ, rI x21.1, rI x22.1, rI x23.1, r0, r0, r0, r0, r0, r0, r0, r0, r0]) ?_
 refine sN<|gS rfl rfl<|sM rfl<|sM rfl<|bE h fun x24 hx24 h => cR (.d (aj.pd x24.1)) [(208, .var [.d (.lst (x24.2.fL.map PD.str))])] (gO hx24)<|sV (.ptr 80 14)<|sV (.ptr 80 15)<|sV (.ptr 80 21)<|sV (.ptr 80 21)<|sS 80 (.var [rI x2.1, rI x3.1, rI x4.1, rI x5.1, rI x6.1, rS x7.1.ah.aC, rS x7.1.ah.aE, rS x7.1.ah.ac, rS x7.1.ah.aD, rI x7.1.aF, rI x7.1.aJ, rI x7.1.aN, rI x7.1.au, rI x7.1.av, .ref 752 0, rI x20.1.fX, rI x20.1.fY, rI x20.1.fZ, rI x21.1, rI x22.1, rI x23.1, rI x24.1.fX, rI x24.1.fY, rI x24.1.fZ, r0, r0, r0, r0, r0, r0])<|sN<|gS rfl rfl<|sM rfl<|sM rfl ?_
 refine bE h fun x25 hx25 h => cR (.d (aj.pd x25.1)) [(208, .var [.d (.lst (x25.2.fL.map PD.str))])] (gO hx25)<|sV (.ptr 80 14)<|sV (.ptr 80 15)<|sV (.ptr 80 21)<|sV (.ptr 80 24)<|sS 80 (.var [rI x2.1, rI x3.1, rI x4.1, rI x5.1, rI x6.1, rS x7.1.ah.aC, rS x7.1.ah.aE, rS x7.1.ah.ac, rS x7.1.ah.aD, rI x7.1.aF, rI x7.1.aJ, rI x7.1.aN, rI x7.1.au, rI x7.1.av, .ref 752 0, rI x20.1.fX, rI x20.1.fY, rI x20.1.fZ, rI x21.1, rI x22.1, rI x23.1, rI x24.1.fX, rI x24.1.fY, rI x24.1.fZ, rI x25.1.fX, rI x25.1.fY, rI x25.1.fZ, r0, r0, r0])<|sN<|gS rfl rfl<|sM rfl<|sM rfl<|bE h fun x26 hx26 h => cR (rI x26.1) [(208, .var [.d (.lst (x26.2.fL.map PD.str))])] (bi hx26)<|sV (.ptr 80 14)<|sV (.ptr 80 27) ?_
 refine sV (.ptr 80 27)<|sS 80 (.var [rI x2.1, rI x3.1, rI x4.1, rI x5.1, rI x6.1, rS x7.1.ah.aC, rS x7.1.ah.aE, rS x7.1.ah.ac, rS x7.1.ah.aD, rI x7.1.aF, rI x7.1.aJ, rI x7.1.aN, rI x7.1.au, rI x7.1.av, .ref 752 0, rI x20.1.fX, rI x20.1.fY, rI x20.1.fZ, rI x21.1, rI x22.1, rI x23.1, rI x24.1.fX, rI x24.1.fY, rI x24.1.fZ, rI x25.1.fX, rI x25.1.fY, rI x25.1.fZ, rI x26.1, r0, r0])<|sN<|gS rfl rfl<|sM rfl<|sM rfl<|bE h fun x27 hx27 h => cR (rI x27.1) [(208, .var [.d (.lst (x27.2.fL.map PD.str))])] (bi hx27)<|sV (.ptr 80 14)<|sV (.ptr 80 27)<|sV (.ptr 80 28)<|sS 80 (.var [rI x2.1, rI x3.1, rI x4.1, rI x5.1, rI x6.1, rS x7.1.ah.aC, rS x7.1.ah.aE, rS x7.1.ah.ac, rS x7.1.ah.aD, rI x7.1.aF, rI x7.1.aJ, rI x7.1.aN, rI x7.1.au, rI x7.1.av, .ref 752 0, rI x20.1.fX, rI x20.1.fY, rI x20.1.fZ, rI x21.1, rI x22.1, rI x23.1, rI x24.1.fX, rI x24.1.fY, rI x24.1.fZ, rI x25.1.fX, rI x25.1.fY, rI x25.1.fZ, rI x26.1, rI x27.1, r0])<|sN<|gS rfl rfl<|sM rfl ?_
 refine sM rfl<|bE h fun x28 hx28 h => cR (rI x28.1) [(208, .var [.d (.lst (x28.2.fL.map PD.str))])] (bi hx28)<|sV (.ptr 80 14)<|sV (.ptr 80 29)<|sS 80 (.var [rI x2.1, rI x3.1, rI x4.1, rI x5.1, rI x6.1, rS x7.1.ah.aC, rS x7.1.ah.aE, rS x7.1.ah.ac, rS x7.1.ah.aD, rI x7.1.aF, rI x7.1.aJ, rI x7.1.aN, rI x7.1.au, rI x7.1.av, .ref 752 0, rI x20.1.fX, rI x20.1.fY, rI x20.1.fZ, rI x21.1, rI x22.1, rI x23.1, rI x24.1.fX, rI x24.1.fY, rI x24.1.fZ, rI x25.1.fX, rI x25.1.fY, rI x25.1.fZ, rI x26.1, rI x27.1, rI x28.1])<|sN<|qS<|gS rfl rfl<|sV (.agg [rI x2.1, rI x3.1, rI x4.1, rI x5.1, rI x6.1, rS x7.1.ah.aC, rS x7.1.ah.aE, rS x7.1.ah.ac, rS x7.1.ah.aD, rI x7.1.aF, rI x7.1.aJ, rI x7.1.aN, rI x7.1.au, rI x7.1.av, .ref 752 0, rI x20.1.fX, rI x20.1.fY, rI x20.1.fZ, rI x21.1, rI x22.1, rI x23.1, rI x24.1.fX, rI x24.1.fY, rI x24.1.fZ, rI x25.1.fX, rI x25.1.fY, rI x25.1.fZ, rI x26.1, rI x27.1, rI x28.1])<|bE h fun x29 hx29 h => cR (.tup [rS x29.1, rI x29.2.1]) [(752, .arr 0 25 (x29.2.2.map ag.pd))] (ref37_Encodeq_ev hx29)<|sM rfl<|sV (rS x29.1)<|sV (rI x29.2.1) ?_
 refine sA rfl<|sA rfl<|sN<|gS rfl rfl<|sM rfl<|sF h (fun h => ?_) fun h => ?_
 ·refine sM rfl<|k3<|sT<|sN<|cT<|gS rfl rfl<|sG (.agg zZ0)<|sH 32 (.var zZ0)<|sV (rI 3)<|sN<|qR ?_
  cases oI h
  exact qG
 refine sM rfl<|sM rfl<|sM rfl<|sV (rB (!(x29.1 == a0)))<|sF h (fun h => ?_) fun h => ?_
 ·refine sN<|cT<|gS rfl rfl<|sG (.agg zZ0)<|sH 32 (.var zZ0)<|sV (rI 3)<|sN<|qR ?_
  cases oI h
  exact qG
 refine sN<|cF<|qK<|gS rfl rfl<|sV (.agg [rI x2.1, rI x3.1, rI x4.1, rI x5.1, rI x6.1, rS x7.1.ah.aC, rS x7.1.ah.aE, rS x7.1.ah.ac, rS x7.1.ah.aD, rI x7.1.aF, rI x7.1.aJ, rI x7.1.aN, rI x7.1.au, rI x7.1.av, .ref 752 0, rI x20.1.fX, rI x20.1.fY, rI x20.1.fZ, rI x21.1, rI x22.1, rI x23.1, rI x24.1.fX, rI x24.1.fY, rI x24.1.fZ, rI x25.1.fX, rI x25.1.fY, rI x25.1.fZ, rI x26.1, rI x27.1, rI x28.1])<|sH 32 (.var [rI x2.1, rI x3.1, rI x4.1, rI x5.1, rI x6.1, rS x7.1.ah.aC, rS x7.1.ah.aE, rS x7.1.ah.ac, rS x7.1.ah.aD, rI x7.1.aF, rI x7.1.aJ, rI x7.1.aN, rI x7.1.au, rI x7.1.av, .ref 752 0, rI x20.1.fX, rI x20.1.fY, rI x20.1.fZ, rI x21.1, rI x22.1, rI x23.1, rI x24.1.fX, rI x24.1.fY, rI x24.1.fZ, rI x25.1.fX, rI x25.1.fY, rI x25.1.fZ, rI x26.1, rI x27.1, rI x28.1])<|sV (r0)<|sN<|qR ?_
 cases oI h
 exact qG
theorem kV {a0 : ai} {a1 : (List UInt8)} {a2 : (List Int)} {a3 : Int} {a4 : Int} {r : Bool} (h : fd a0 a1 a2 a3 a4 = some r) : EvP prog aM ext 3 [.d (ai.pd a0), rS a1, .d (.lst (a2.map (PD.int .i64))), rI a3, .d (.int .u8 a4)] [] (rB r, []) := by
 refine Ev.body rfl Tryz.func3 rfl (by kernel_rfl)<|gS rfl rfl<|sB (.ptr 80 0) 80 (.var (ai.rc a0))<|sU<|sN<|qS<|gS rfl rfl<|sV (.d (ai.pd a0))<|sG (.d (.lst ([a0].map ai.pd)))<|bE h fun x1 hx1 h => cD (law37_small_ev hx1)<|sF h (fun h => ?_) fun h => ?_
 ·refine sM rfl<|k3<|sT<|sN<|cT<|gS rfl rfl<|bE h fun x3 hx3 h => cD (iq hx3)<|sA rfl<|sN<|qR ?_
  cases oI h
  exact qG
 refine sM rfl<|sM rfl<|sV (rI (a1.length : Int))<|sV (rB (decide ((a1.length : Int) > (300 : Int))))<|sF h (fun h => ?_) fun h => ?_
 ·refine sN<|cT<|gS rfl rfl<|bE h fun x5 hx5 h => cD (iq hx5)<|sA rfl<|sN<|qR ?_
  cases oI h
  exact qG
 refine sN<|cF<|qK<|gS rfl rfl<|sM rfl<|bE h fun x6 hx6 h => cR (.ptr 640 0) [(640, .var [.d (.lst (x6.fL.map (PD.int .i64))), rI x6.fAt])] (keep_New_ev hx6)<|sA rfl<|sN<|gS rfl rfl<|sM rfl<|bE h fun x7 hx7 h => cR (rI x7.1) [(640, .var [.d (.lst (x7.2.fL.map (PD.int .i64))), rI x7.2.fAt])] (b9 hx7)<|bE h fun x8 hx8 h => cD (eR hx8) ?_
 refine sB (.ptr 192 0) 192 (.var zZ0)<|sH 192 (.var (ai.rc x8))<|sN<|WC.join (α := (List Int) × Int × Int × Int × Int × Int × Int × (List UInt8) × (List UInt8) × (List UInt8) × (List UInt8) × Int × Int × Int × Int × Int × (List ag) × Int × Int × Int × Int × Int × Int × Int × Int × Int × Int × Int × Int × Int × Int × Int) (fun x R' B' => ghosts prog 0 (A R' B') (aM.at_ 3 0 8) = some (A [(1, rS a1), (3, rI a3), (4, .d (.int .u8 a4)), (5, .ptr 80 0), (11, .ptr 640 0), (12, .ptr 192 0)] [(80, .var (ai.rc a0)), (192, .var [rI x.2.2.1, rI x.2.2.2.1, rI x.2.2.2.2.1, rI x.2.2.2.2.2.1, rI x.2.2.2.2.2.2.1, rS x.2.2.2.2.2.2.2.1, rS x.2.2.2.2.2.2.2.2.1, rS x.2.2.2.2.2.2.2.2.2.1, rS x.2.2.2.2.2.2.2.2.2.2.1, rI x.2.2.2.2.2.2.2.2.2.2.2.1, rI x.2.2.2.2.2.2.2.2.2.2.2.2.1, rI x.2.2.2.2.2.2.2.2.2.2.2.2.2.1, rI x.2.2.2.2.2.2.2.2.2.2.2.2.2.2.1, rI x.2.2.2.2.2.2.2.2.2.2.2.2.2.2.2.1, .d (.lst (x.2.2.2.2.2.2.2.2.2.2.2.2.2.2.2.2.1.map ag.pd)), rI x.2.2.2.2.2.2.2.2.2.2.2.2.2.2.2.2.2.1, rI x.2.2.2.2.2.2.2.2.2.2.2.2.2.2.2.2.2.2.1, rI x.2.2.2.2.2.2.2.2.2.2.2.2.2.2.2.2.2.2.2.1, rI x.2.2.2.2.2.2.2.2.2.2.2.2.2.2.2.2.2.2.2.2.1, rI x.2.2.2.2.2.2.2.2.2.2.2.2.2.2.2.2.2.2.2.2.2.1, rI x.2.2.2.2.2.2.2.2.2.2.2.2.2.2.2.2.2.2.2.2.2.2.1, rI x.2.2.2.2.2.2.2.2.2.2.2.2.2.2.2.2.2.2.2.2.2.2.2.1, rI x.2.2.2.2.2.2.2.2.2.2.2.2.2.2.2.2.2.2.2.2.2.2.2.2.1, rI x.2.2.2.2.2.2.2.2.2.2.2.2.2.2.2.2.2.2.2.2.2.2.2.2.2.1, rI x.2.2.2.2.2.2.2.2.2.2.2.2.2.2.2.2.2.2.2.2.2.2.2.2.2.2.1, rI x.2.2.2.2.2.2.2.2.2.2.2.2.2.2.2.2.2.2.2.2.2.2.2.2.2.2.2.1, rI x.2.2.2.2.2.2.2.2.2.2.2.2.2.2.2.2.2.2.2.2.2.2.2.2.2.2.2.2.1, rI x.2.2.2.2.2.2.2.2.2.2.2.2.2.2.2.2.2.2.2.2.2.2.2.2.2.2.2.2.2.1, rI x.2.2.2.2.2.2.2.2.2.2.2.2.2.2.2.2.2.2.2.2.2.2.2.2.2.2.2.2.2.2.1, rI x.2.2.2.2.2.2.2.2.2.2.2.2.2.2.2.2.2.2.2.2.2.2.2.2.2.2.2.2.2.2.2]), (640, .var [.d (.lst (x.1.map (PD.int .i64))), rI x.2.1])])) (fun x => dm a0 a3 a4 a1 x.1 x.2.1 x.2.2.1 x.2.2.2.1 x.2.2.2.2.1 x.2.2.2.2.2.1 x.2.2.2.2.2.2.1 x.2.2.2.2.2.2.2.1 x.2.2.2.2.2.2.2.2.1 x.2.2.2.2.2.2.2.2.2.1 x.2.2.2.2.2.2.2.2.2.2.1 x.2.2.2.2.2.2.2.2.2.2.2.1 x.2.2.2.2.2.2.2.2.2.2.2.2.1 x.2.2.2.2.2.2.2.2.2.2.2.2.2.1 x.2.2.2.2.2.2.2.2.2.2.2.2.2.2.1 x.2.2.2.2.2.2.2.2.2.2.2.2.2.2.2.1 x.2.2.2.2.2.2.2.2.2.2.2.2.2.2.2.2.1 x.2.2.2.2.2.2.2.2.2.2.2.2.2.2.2.2.2.1 x.2.2.2.2.2.2.2.2.2.2.2.2.2.2.2.2.2.2.1 x.2.2.2.2.2.2.2.2.2.2.2.2.2.2.2.2.2.2.2.1 x.2.2.2.2.2.2.2.2.2.2.2.2.2.2.2.2.2.2.2.2.1 x.2.2.2.2.2.2.2.2.2.2.2.2.2.2.2.2.2.2.2.2.2.1 x.2.2.2.2.2.2.2.2.2.2.2.2.2.2.2.2.2.2.2.2.2.2.1 x.2.2.2.2.2.2.2.2.2.2.2.2.2.2.2.2.2.2.2.2.2.2.2.1 x.2.2.2.2.2.2.2.2.2.2.2.2.2.2.2.2.2.2.2.2.2.2.2.2.1 x.2.2.2.2.2.2.2.2.2.2.2.2.2.2.2.2.2.2.2.2.2.2.2.2.2.1 x.2.2.2.2.2.2.2.2.2.2.2.2.2.2.2.2.2.2.2.2.2.2.2.2.2.2.1 x.2.2.2.2.2.2.2.2.2.2.2.2.2.2.2.2.2.2.2.2.2.2.2.2.2.2.2.1 x.2.2.2.2.2.2.2.2.2.2.2.2.2.2.2.2.2.2.2.2.2.2.2.2.2.2.2.2.1 x.2.2.2.2.2.2.2.2.2.2.2.2.2.2.2.2.2.2.2.2.2.2.2.2.2.2.2.2.2.1 x.2.2.2.2.2.2.2.2.2.2.2.2.2.2.2.2.2.2.2.2.2.2.2.2.2.2.2.2.2.2.1 x.2.2.2.2.2.2.2.2.2.2.2.2.2.2.2.2.2.2.2.2.2.2.2.2.2.2.2.2.2.2.2 = some r) ?_ ?_
 ·refine gS rfl rfl<|sM rfl<|bE h fun x84 hx84 h => cR (.d (.lst (x84.1.map ai.pd))) [(640, .var [.d (.lst (x84.2.fL.map (PD.int .i64))), rI x84.2.fAt])] (law37_told_ev hx84)<|sA rfl<|sN<|gS rfl rfl<|sM rfl<|sE (rI (x84.1.length : Int)) (lenMap _ _)<|sF h (fun h => ?_) fun h => ?_
  ·exact sN<|cT<|WC.region rfl rfl<|sM rfl<|sM rfl<|sM rfl<|sE (rI (x84.1.length : Int)) (lenMap _ _)<|bE h fun x86 hx86 h => cR (rI x86.1) [(640, .var [.d (.lst (x86.2.fL.map (PD.int .i64))), rI x86.2.fAt])] (b9 hx86)<|bE h fun x87 hx87 h => eG hx87 rfl<|sV (.d (ai.pd x87))<|sH 192 (.var (ai.rc x87))<|sN<|⟨(x86.2.fL, x86.2.fAt, x87.aQ, x87.bh, x87.fID, x87.fAt, x87.aW, x87.ae.ak.ah.aC, x87.ae.ak.ah.aE, x87.ae.ak.ah.ac, x87.ae.ak.ah.aD, x87.ae.ak.aF, x87.ae.ak.aJ, x87.ae.ak.aN, x87.ae.ak.au, x87.ae.ak.av, x87.ae.aa.aK, x87.ae.aa.ac.aA.fX, x87.ae.aa.ac.aA.fY, x87.ae.aa.ac.aA.fZ, x87.ae.aa.ac.aF, x87.ae.aa.ac.aO, x87.ae.aa.ac.aV, x87.ae.aa.ac.ap.aI.fX, x87.ae.aa.ac.ap.aI.fY, x87.ae.aa.ac.ap.aI.fZ, x87.ae.aa.ac.ap.az.fX, x87.ae.aa.ac.ap.az.fY, x87.ae.aa.ac.ap.az.fZ, x87.ae.aa.aq.aI, x87.ae.aa.aq.az, x87.ae.aa.aU), rfl, h⟩
  exact sN<|cF<|qK<|⟨(x84.2.fL, x84.2.fAt, x8.aQ, x8.bh, x8.fID, x8.fAt, x8.aW, x8.ae.ak.ah.aC, x8.ae.ak.ah.aE, x8.ae.ak.ah.ac, x8.ae.ak.ah.aD, x8.ae.ak.aF, x8.ae.ak.aJ, x8.ae.ak.aN, x8.ae.ak.au, x8.ae.ak.av, x8.ae.aa.aK, x8.ae.aa.ac.aA.fX, x8.ae.aa.ac.aA.fY, x8.ae.aa.ac.aA.fZ, x8.ae.aa.ac.aF, x8.ae.aa.ac.aO, x8.ae.aa.ac.aV, x8.ae.aa.ac.ap.aI.fX, x8.ae.aa.ac.ap.aI.fY, x8.ae.aa.ac.ap.aI.fZ, x8.ae.aa.ac.ap.az.fX, x8.ae.aa.ac.ap.az.fY, x8.ae.aa.ac.ap.az.fZ, x8.ae.aa.aq.aI, x8.ae.aa.aq.az, x8.ae.aa.aU), rfl, h⟩
 rintro ⟨j9, j10, j11, j12, j13, j14, j15, j16, j17, j18, j19, j20, j21, j22, j23, j24, j25, j26, j27, j28, j29, j30, j31, j32, j33, j34, j35, j36, j37, j38, j39, j40⟩ R' B' hI h
 refine qS<|WC.regionDSeq hI rfl<|sV (.d (ai.pd a0))<|sV (.d (ai.pd (ai.mk j11 j12 j13 j14 j15 (ar.mk (ag.mk (am.mk j16 j17 j18 j19) j20 j21 j22 j23 j24) (aw.mk j25 (aB.mk (aj.mk j26 j27 j28) j29 j30 j31 (aP.mk (aj.mk j32 j33 j34) (aj.mk j35 j36 j37))) (aG.mk j38 j39) j40)))))<|sM rfl<|sV (.d (ai.pd (ai.mk j11 j12 j13 j14 j15 (ar.mk (ag.mk (am.mk j16 j17 j18 j19) j20 j21 j22 j23 j24) (aw.mk j25 (aB.mk (aj.mk j26 j27 j28) j29 j30 j31 (aP.mk (aj.mk j32 j33 j34) (aj.mk j35 j36 j37))) (aG.mk j38 j39) j40)))))<|bE h fun x41 hx41 h => cR (.d (ai.pd x41.1)) [(640, .var [.d (.lst (x41.2.fL.map (PD.int .i64))), rI x41.2.fAt])] (iX hx41)<|sM rfl<|sM rfl<|sV (.d (ai.pd (ai.mk j11 j12 j13 j14 j15 (ar.mk (ag.mk (am.mk j16 j17 j18 j19) j20 j21 j22 j23 j24) (aw.mk j25 (aB.mk (aj.mk j26 j27 j28) j29 j30 j31 (aP.mk (aj.mk j32 j33 j34) (aj.mk j35 j36 j37))) (aG.mk j38 j39) j40)))))<|bE h fun x42 hx42 h => cR (.d (ai.pd x42.1)) [(640, .var [.d (.lst (x42.2.fL.map (PD.int .i64))), rI x42.2.fAt])] (iX hx42)<|bE h fun x43 hx43 h => cR (.d (ai.pd x43.1)) [(640, .var [.d (.lst (x43.2.fL.map (PD.int .i64))), rI x43.2.fAt])] (iX hx43) ?_
 refine sG (.d (.lst ([a0, (ai.mk j11 j12 j13 j14 j15 (ar.mk (ag.mk (am.mk j16 j17 j18 j19) j20 j21 j22 j23 j24) (aw.mk j25 (aB.mk (aj.mk j26 j27 j28) j29 j30 j31 (aP.mk (aj.mk j32 j33 j34) (aj.mk j35 j36 j37))) (aG.mk j38 j39) j40))), x41.1, x43.1].map ai.pd)))<|sV (rI 4)<|sV (r0) ?_
 refine sN<|sO<|bE h fun o56 ho56 h => WC.block (WC.loop (WL.ofLoop ho56 (fun s R' B' => ghosts prog 0 (A R' B') (aM.at_ 3 0 9) = some (A [(1, rS a1), (3, rI a3), (4, .d (.int .u8 a4)), (11, .ptr 640 0), (12, .ptr 192 0), (66, .d (.lst ([a0, (ai.mk j11 j12 j13 j14 j15 (ar.mk (ag.mk (am.mk j16 j17 j18 j19) j20 j21 j22 j23 j24) (aw.mk j25 (aB.mk (aj.mk j26 j27 j28) j29 j30 j31 (aP.mk (aj.mk j32 j33 j34) (aj.mk j35 j36 j37))) (aG.mk j38 j39) j40))), x41.1, x43.1].map ai.pd))), (67, rI 4), (68, rI s)] [(192, .var [rI j11, rI j12, rI j13, rI j14, rI j15, rS j16, rS j17, rS j18, rS j19, rI j20, rI j21, rI j22, rI j23, rI j24, .d (.lst (j25.map ag.pd)), rI j26, rI j27, rI j28, rI j29, rI j30, rI j31, rI j32, rI j33, rI j34, rI j35, rI j36, rI j37, rI j38, rI j39, rI j40]), (640, .var [.d (.lst (x43.2.fL.map (PD.int .i64))), rI x43.2.fAt])])) (fun o e R' B' => match o with | .inl y => e = .exit 0 ∧ ghosts prog 0 (A R' B') (aM.at_ 3 0 16) = some (A [(1, rS a1), (3, rI a3), (4, .d (.int .u8 a4)), (11, .ptr 640 0), (12, .ptr 192 0)] [(192, .var [rI j11, rI j12, rI j13, rI j14, rI j15, rS j16, rS j17, rS j18, rS j19, rI j20, rI j21, rI j22, rI j23, rI j24, .d (.lst (j25.map ag.pd)), rI j26, rI j27, rI j28, rI j29, rI j30, rI j31, rI j32, rI j33, rI j34, rI j35, rI j36, rI j37, rI j38, rI j39, rI j40]), (640, .var [.d (.lst (x43.2.fL.map (PD.int .i64))), rI x43.2.fAt])]) | .inr r => e = .ret ∧ finish prog (aM.own 3) Tryz.f3 0 (A R' B') = some (rB r, [])) rfl ?_ ?_))
 ·rintro s44 R' B' q45 hI h
  refine gS rfl hI<|sF h (fun h => ?_) fun h => ?_
  ·refine sN<|qS<|cT<|qK<|qS<|qB<|gS rfl rfl<|bE h fun x47 hx47 h => eG hx47 rfl<|sV (.d (ai.pd x47))<|sB (.ptr 240 0) 240 (.var zZ0)<|sH 240 (.var (ai.rc x47))<|sN<|gS rfl rfl<|sV (.d (ai.pd x47)) ?_
   refine bE h fun x48 hx48 h => cR (.tup [rS x48.1, rI x48.2]) [] (ik hx48)<|sM rfl<|sV (rS x48.1)<|sV (rI x48.2)<|sA rfl<|sA rfl<|sN<|gS rfl rfl<|sV (.d (ai.pd x47))<|bE h fun x49 hx49 h => cR (.tup [rS x49.1, rI x49.2]) [] (jN hx49)<|sM rfl<|sV (rS x49.1)<|sV (rI x49.2) ?_
   refine sA rfl<|sA rfl<|sN<|WC.regionDSeq rfl rfl<|sV (.d (ai.pd x47))<|bE h fun x50 hx50 h => cD (iU hx50)<|sV (.d (ai.pd x47))<|bE h fun x51 hx51 h => cD (ko hx51)<|sF h (fun h => ?_) fun h => ?_
   ·refine sM rfl<|k3<|sT<|sM rfl<|k3<|sT ?_
    refine sN<|sO<|cT<|gS rfl rfl<|sU<|sN<|qR ?_
    cases oI h
    exact ⟨nofun, rfl, rfl⟩
   refine sM rfl<|sM rfl<|sM rfl<|sV (rB (!(x48.1 == x49.1)))<|sF h (fun h => ?_) fun h => ?_
   ·refine sM rfl<|k3<|sT ?_
    refine sN<|sO<|cT<|gS rfl rfl<|sU<|sN<|qR ?_
    cases oI h
    exact ⟨nofun, rfl, rfl⟩
   refine sM rfl<|sM rfl<|sM rfl<|sV (rB (x48.2 != x49.2))<|sF h (fun h => ?_) fun h => ?_
   ·refine sN<|sO<|cT<|gS rfl rfl<|sU<|sN<|qR ?_
    cases oI h
    exact ⟨nofun, rfl, rfl⟩
   refine sN<|sO<|cF<|qK<|WC.region rfl rfl<|sV (rI (rW (s44 + (1 : Int))))<|sM rfl<|sN ?_
   cases oI h
   exact ⟨rfl, rfl⟩
  refine sN<|qS<|cF<|qX ?_
  cases oI h
  exact ⟨nofun, rfl, rfl⟩
 intro e R' B' he hq
 rcases o56 with y57 | r58
 ·obtain ⟨rfl, hI⟩ := hq
  refine qE<|gS rfl hI<|sV (.d (ai.pd (ai.mk j11 j12 j13 j14 j15 (ar.mk (ag.mk (am.mk j16 j17 j18 j19) j20 j21 j22 j23 j24) (aw.mk j25 (aB.mk (aj.mk j26 j27 j28) j29 j30 j31 (aP.mk (aj.mk j32 j33 j34) (aj.mk j35 j36 j37))) (aG.mk j38 j39) j40)))))<|bE h fun x59 hx59 h => cR (.tup [rS x59.1, rI x59.2]) [] (jN hx59)<|sM rfl<|sV (rS x59.1)<|sV (rI x59.2)<|sA rfl<|sA rfl<|sN<|gS rfl rfl<|sM rfl<|sB (.ptr 1664 0) 1664 (.byt x59.1)<|sA rfl ?_
  refine sN<|WC.join (α := (List UInt8)) (fun x R' B' => ghosts prog 0 (A R' B') (aM.at_ 3 0 20) = some (A [(1, rS a1), (11, .ptr 640 0), (20, rS x59.1), (22, .ptr 1664 0)] [(640, .var [.d (.lst (x43.2.fL.map (PD.int .i64))), rI x43.2.fAt]), (1664, .byt x)])) (fun x => dl x59 x43 a1 x = some r) ?_ ?_
  ·refine gS rfl rfl<|sM rfl<|sV (rI (x59.1.length : Int))<|sF h (fun h => ?_) fun h => ?_
   ·refine sN<|cT<|WC.region rfl rfl<|sM rfl<|sM rfl<|sM rfl<|sV (rI (x59.1.length : Int))<|bE h fun x80 hx80 h => cD (jX hx80)<|sM rfl<|bE h fun x81 hx81 h => WO.bytE hx81 rfl rfl rfl rfl rfl rfl rfl rfl<|bE h fun x82 hx82 h => WO.bytS hx82 rfl rfl rfl rfl rfl rfl rfl<|sN ?_
    exact ⟨x82, rfl, h⟩
   exact sN<|cF<|qK<|⟨x59.1, rfl, h⟩
  rintro j60 R' B' hI h
  refine qS<|WC.regionDSeq hI rfl<|sM rfl<|sM rfl<|sM rfl<|sV (rS j60)<|sM rfl<|bE h fun x61 hx61 h => WO.catG hx61 rfl rfl rfl rfl rfl<|sM rfl<|sM rfl<|sM rfl<|sV (rI (x59.1.length : Int))<|sV (rI (rW ((x59.1.length : Int) + (1 : Int))))<|bE h fun x62 hx62 h => ?_
  refine cR (rI x62.1) [(640, .var [.d (.lst (x62.2.fL.map (PD.int .i64))), rI x62.2.fAt])] (b9 hx62)<|bE h fun x63 hx63 h => WO.cutG hx63 rfl rfl rfl rfl rfl rfl rfl rfl rfl rfl<|sV (.d (.lst ([a1, x59.1, j60, x61, x63].map PD.str)))<|sV (rI 5)<|sV (r0) ?_
  refine sN<|sO<|bE h fun o74 ho74 h => WC.block (WC.loop (WL.ofLoop ho74 (fun s R' B' => ghosts prog 0 (A R' B') (aM.at_ 3 0 21) = some (A [(128, .d (.lst ([a1, x59.1, j60, x61, x63].map PD.str))), (129, rI 5), (130, rI s)] [])) (fun o e R' B' => match o with | .inl y => e = .exit 2 ∧ ghosts prog 0 (A R' B') (aM.at_ 3 0 28) = some (A [] []) | .inr r => e = .ret ∧ finish prog (aM.own 3) Tryz.f3 0 (A R' B') = some (rB r, [])) rfl ?_ ?_))
  ·rintro s64 R' B' q65 hI h
   refine gS rfl hI<|sF h (fun h => ?_) fun h => ?_
   ·refine sN<|qS<|cT<|qK<|qS<|qB<|gS rfl rfl<|bE h fun x67 hx67 h => eG hx67 rfl<|sC rfl<|sA rfl<|sN<|gS rfl rfl<|sM rfl<|bE h fun x68 hx68 h => ?_
    refine cR (.tup [.d (ai.pd x68.1), rI x68.2]) [] (fG hx68)<|sM rfl<|sV (.d (ai.pd x68.1))<|sV (rI x68.2)<|sB (.ptr 400 0) 400 (.var zZ0)<|sH 400 (.var (ai.rc x68.1))<|sA rfl<|sN<|gS rfl rfl<|sM rfl<|bE h fun x69 hx69 h => cR (.tup [.d (ai.pd x69.1), rI x69.2]) [] (ref37_Decode_ev hx69)<|sM rfl<|sV (.d (ai.pd x69.1))<|sV (rI x69.2) ?_
    refine sB (.ptr 432 0) 432 (.var zZ0)<|sH 432 (.var (ai.rc x69.1))<|sA rfl<|sN<|gS rfl rfl<|sM rfl<|sM rfl<|sF h (fun h => ?_) fun h => ?_
    ·refine sM rfl<|k3<|sK<|sT<|sN<|cT<|gS rfl rfl<|sU<|sN<|qR ?_
     cases oI h
     exact ⟨nofun, rfl, rfl⟩
    refine sM rfl<|sV (.d (.agg [.int .i64 x68.1.aQ, .int .i64 x68.1.bh, .int .i64 x68.1.fID, .int .i64 x68.1.fAt, .int .i64 x68.1.aW, .str x68.1.ae.ak.ah.aC, .str x68.1.ae.ak.ah.aE, .str x68.1.ae.ak.ah.ac, .str x68.1.ae.ak.ah.aD, .int .i64 x68.1.ae.ak.aF, .int .i64 x68.1.ae.ak.aJ, .int .i64 x68.1.ae.ak.aN, .int .i64 x68.1.ae.ak.au, .int .i64 x68.1.ae.ak.av, .lst (x68.1.ae.aa.aK.map ag.pd), .int .i64 x68.1.ae.aa.ac.aA.fX, .int .i64 x68.1.ae.aa.ac.aA.fY, .int .i64 x68.1.ae.aa.ac.aA.fZ, .int .i64 x68.1.ae.aa.ac.aF, .int .i64 x68.1.ae.aa.ac.aO, .int .i64 x68.1.ae.aa.ac.aV, .int .i64 x68.1.ae.aa.ac.ap.aI.fX, .int .i64 x68.1.ae.aa.ac.ap.aI.fY, .int .i64 x68.1.ae.aa.ac.ap.aI.fZ, .int .i64 x68.1.ae.aa.ac.ap.az.fX, .int .i64 x68.1.ae.aa.ac.ap.az.fY, .int .i64 x68.1.ae.aa.ac.ap.az.fZ, .int .i64 x68.1.ae.aa.aq.aI, .int .i64 x68.1.ae.aa.aq.az, .int .i64 x68.1.ae.aa.aU]))<|sV (.d (.agg [.int .i64 x69.1.aQ, .int .i64 x69.1.bh, .int .i64 x69.1.fID, .int .i64 x69.1.fAt, .int .i64 x69.1.aW, .str x69.1.ae.ak.ah.aC, .str x69.1.ae.ak.ah.aE, .str x69.1.ae.ak.ah.ac, .str x69.1.ae.ak.ah.aD, .int .i64 x69.1.ae.ak.aF, .int .i64 x69.1.ae.ak.aJ, .int .i64 x69.1.ae.ak.aN, .int .i64 x69.1.ae.ak.au, .int .i64 x69.1.ae.ak.av, .lst (x69.1.ae.aa.aK.map ag.pd), .int .i64 x69.1.ae.aa.ac.aA.fX, .int .i64 x69.1.ae.aa.ac.aA.fY, .int .i64 x69.1.ae.aa.ac.aA.fZ, .int .i64 x69.1.ae.aa.ac.aF, .int .i64 x69.1.ae.aa.ac.aO, .int .i64 x69.1.ae.aa.ac.aV, .int .i64 x69.1.ae.aa.ac.ap.aI.fX, .int .i64 x69.1.ae.aa.ac.ap.aI.fY, .int .i64 x69.1.ae.aa.ac.ap.aI.fZ, .int .i64 x69.1.ae.aa.ac.ap.az.fX, .int .i64 x69.1.ae.aa.ac.ap.az.fY, .int .i64 x69.1.ae.aa.ac.ap.az.fZ, .int .i64 x69.1.ae.aa.aq.aI, .int .i64 x69.1.ae.aa.aq.az, .int .i64 x69.1.ae.aa.aU]))<|bE h fun x71 hx71 h => cD (gi hx71)<|sV (rB (!x71))<|sF h (fun h => ?_) fun h => ?_
    ·refine sN<|cT<|gS rfl rfl<|sU<|sN<|qR ?_
     cases oI h
     exact ⟨nofun, rfl, rfl⟩
    refine sN<|cF<|qK<|WC.region rfl rfl<|sV (rI (rW (s64 + (1 : Int))))<|sM rfl<|sN ?_
    cases oI h
    exact ⟨rfl, rfl⟩
   refine sN<|qS<|cF<|qX ?_
   cases oI h
   exact ⟨nofun, rfl, rfl⟩
  intro e R' B' he hq
  rcases o74 with y75 | r76
  ·obtain ⟨rfl, hI⟩ := hq
   refine qE<|gS rfl hI<|bE h fun x77 hx77 h => cD (iq hx77)<|sA rfl<|sN<|qR ?_
   cases oI h
   exact qD
  obtain ⟨rfl, hf⟩ := hq
  cases oI h
  exact hf
 obtain ⟨rfl, hf⟩ := hq
 cases oI h
 exact hf
end Go.Dw.Ft
