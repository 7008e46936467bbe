
import Derived.Test.YtpeijlelfekcoaaGreatDoorFhEvB

set_option maxRecDepth 100000
set_option maxHeartbeats 4000000
namespace Go.Dw.Fh
open Go.Proofs Go.Proofs.Tryz Go.Dw
theorem jA {a0 : ag} {r : Bool} (h : dC a0 = some r) : EvP prog aM ext 17 [.d (ag.pd a0)] [] (rB r, []) := by
 refine Ev.body rfl Tryz.func17 rfl (by kernel_rfl)<|gS rfl rfl<|sB (.ptr 16 0) 16 (.var (ag.rc a0))<|sU<|sN<|qS<|gS rfl rfl<|sV (.ptr 16 0)<|sL rfl<|sF h (fun h => ?_) fun h => ?_
 ·refine sM rfl<|k3<|sT<|sM rfl<|k3<|sT<|sM rfl<|k3<|sT ?_
  refine sM rfl<|k3<|sT<|sM rfl<|k3<|sK<|sK<|sT<|sM rfl<|sK<|sK ?_
  refine k3<|k3<|sK<|sT<|sM rfl<|k3<|sT<|sM rfl<|sK ?_
  refine sK<|sK<|sT<|sN<|cT<|gS rfl rfl<|sU<|sN<|qR ?_
  cases oI h
  exact qG
 refine sM rfl<|sV (.ptr 16 0)<|sL rfl<|sV (rB (decide (a0.aT ≥ (1000 : Int))))<|sF h (fun h => ?_) fun h => ?_
 ·refine sM rfl<|k3<|sT<|sM rfl<|k3<|sT<|sM rfl<|k3<|sT ?_
  refine sM rfl<|k3<|sK<|sK<|sT<|sM rfl<|k3<|k3<|sK ?_
  refine sK<|sK<|sT<|sM rfl<|k3<|sT<|sM rfl<|k3<|sT<|sN<|cT ?_
  refine gS rfl rfl<|sU<|sN<|qR ?_
  cases oI h
  exact qG
 refine sM rfl<|sV (.ptr 16 1)<|sL rfl<|sV (rB (decide (a0.ba < (1 : Int))))<|sF h (fun h => ?_) fun h => ?_
 ·refine sM rfl<|k3<|sT<|sM rfl<|k3<|sT<|sM rfl<|k3<|sK ?_
  refine sK<|sT<|sM rfl<|k3<|k3<|k3<|sT<|sM rfl<|sK ?_
  refine sK<|sK<|sT<|sM rfl<|k3<|sT<|sN<|cT<|gS rfl rfl<|sU<|sN<|qR ?_
  cases oI h
  exact qG
 refine sM rfl<|sV (.ptr 16 1)<|sL rfl<|sV (rB (decide (a0.ba > (3 : Int))))<|sF h (fun h => ?_) fun h => ?_
 ·refine sM rfl<|k3<|sT<|sM rfl<|k3<|sK<|sK<|sT<|sM rfl<|sK<|sK ?_
  refine k3<|k3<|sK<|sT<|sM rfl<|k3<|sT<|sM rfl<|sK ?_
  refine sK<|sK<|sT<|sN<|cT<|gS rfl rfl<|sU<|sN<|qR ?_
  cases oI h
  exact qG
 refine sM rfl<|sV (.ptr 16 2)<|sL rfl<|sV (rB (decide (a0.fID < (0 : Int))))<|sF h (fun h => ?_) fun h => ?_
 ·refine sM rfl<|k3<|sK<|sK<|sT<|sM rfl<|k3<|k3<|sK ?_
  refine sK<|sK<|sT<|sM rfl<|k3<|sT<|sM rfl<|k3<|sT<|sN<|cT ?_
  refine gS rfl rfl<|sU<|sN<|qR ?_
  cases oI h
  exact qG
 refine sM rfl<|sV (.ptr 16 2)<|sL rfl<|sV (.ptr 16 0)<|sL rfl<|sV (rB (decide (a0.fID > a0.aT)))<|sF h (fun h => ?_) fun h => ?_
 ·refine sM rfl<|k3<|k3<|k3<|sT<|sM rfl<|sK<|sK<|sK ?_
  refine sT<|sM rfl<|k3<|sT<|sN<|cT<|gS rfl rfl<|sU<|sN<|qR ?_
  cases oI h
  exact qG
 refine sM rfl<|sV (.ptr 16 2)<|sL rfl<|sV (.ptr 16 0)<|sL rfl<|sV (rB (a0.fID == a0.aT))<|sV (.ptr 16 1)<|sL rfl<|sV (rB (a0.ba == (1 : Int)))<|sV (rB (!((a0.fID == a0.aT) == (a0.ba == (1 : Int)))))<|sF h (fun h => ?_) fun h => ?_
 ·refine sM rfl<|k3<|sT<|sM rfl<|k3<|sT<|sN<|cT<|gS rfl rfl<|sU<|sN ?_
  refine qR ?_
  cases oI h
  exact qG
 refine sM rfl<|sV (.ptr 16 4)<|sL rfl<|sV (rB (decide (a0.aX < (0 : Int))))<|sF h (fun h => ?_) fun h => ?_
 ·refine sM rfl<|k3<|sT<|sN<|cT<|gS rfl rfl<|sU<|sN<|qR ?_
  cases oI h
  exact qG
 refine sM rfl<|sV (.ptr 16 4)<|sL rfl<|sV (rB (decide (a0.aX > (8 : Int))))<|sF h (fun h => ?_) fun h => ?_
 ·refine sN<|cT<|gS rfl rfl<|sU<|sN<|qR ?_
  cases oI h
  exact qG
 refine sN<|cF<|qK<|gS rfl rfl<|sV (.ptr 16 5)<|sV (.ptr 16 14)<|sV (.d (aG.pd a0.ae.aa))<|sB (.ptr 48 0) 48 (.var zZ2)<|sH 48 (.var (aG.rc a0.ae.aa))<|sN<|qS<|gS rfl rfl<|sV (r0)<|sN<|bE h fun o17 ho17 h => ?_
 refine WC.block (WC.loop (WL.ofLoop ho17 (fun s R' B' => ghosts prog 0 (A R' B') (aM.at_ 17 0 5) = some (A [(1, .ptr 16 0), (3, .ptr 48 0), (4, rI s)] [(16, .var (ag.rc a0)), (48, .var (aG.rc a0.ae.aa))])) (fun o e R' B' => match o with | .inl y => e = .exit 0 ∧ ghosts prog 0 (A R' B') (aM.at_ 17 0 9) = some (A [(1, .ptr 16 0), (3, .ptr 48 0)] [(16, .var (ag.rc a0)), (48, .var (aG.rc a0.ae.aa))]) | .inr r => e = .ret ∧ finish prog (aM.own 17) Tryz.f17 0 (A R' B') = some (rB r, [])) rfl ?_ ?_))
 ·rintro s10 R' B' q11 hI h
  refine qS<|gS rfl hI<|sM rfl<|sV (.ptr 48 0)<|sL rfl<|sE (rI (a0.ae.aa.aJ.length : Int)) (lenMap _ _)<|sF h (fun h => ?_) fun h => ?_
  ·refine sN<|cT<|qK<|qS<|qB<|gS rfl rfl<|sV (.ptr 48 0)<|sL rfl<|sM rfl<|bE h fun x13 hx13 h => eG hx13 rfl<|sV (.d (ah.pd x13))<|bE h fun x14 hx14 h => cD (cG hx14)<|sF h (fun h => ?_) fun h => ?_
   ·refine sN<|cT<|gS rfl rfl<|sU<|sN<|qR ?_
    cases oI h
    exact ⟨nofun, rfl, rfl⟩
   refine sN<|cF<|qK<|WC.region rfl rfl<|sM rfl<|sV (rI (rW (s10 + (1 : Int))))<|sA rfl<|sN ?_
   cases oI h
   exact ⟨rfl, rfl⟩
  refine sN<|cF<|qX ?_
  cases oI h
  exact ⟨nofun, rfl, rfl⟩
 intro e R' B' he hq
 rcases o17 with y18 | r19
 ·obtain ⟨rfl, hI⟩ := hq
  refine qE<|gS rfl hI<|sV (.ptr 48 1)<|sV (.d (aK.pd a0.ae.aa.ac))<|sB (.ptr 80 0) 80 (.var zZ5)<|sH 80 (.var (aK.rc a0.ae.aa.ac))<|sN<|gS rfl rfl<|sV (.ptr 16 5)<|sV (.ptr 16 5)<|sV (.d (ah.pd a0.ae.aj))<|bE h fun x20 hx20 h => ite_elim h (fun hb21 h => ?_) (fun hb21 h => ?_)
  ·refine WO.callR (v := rB true) (u := []) rfl rfl (fun _ => rfl) rfl rfl rfl rfl rfl (cG hx20) rfl rfl (congrArg (fun b => RV.d (.bool b)) hb21) rfl<|sM rfl<|sV (.ptr 48 0)<|sL rfl<|sE (rI (a0.ae.aa.aJ.length : Int)) (lenMap _ _)<|sV (rB (decide ((a0.ae.aa.aJ.length : Int) ≤ (64 : Int))))<|sF h (fun h => ?_) fun h => ?_
   ·refine sM rfl<|sV (.ptr 16 3)<|sL rfl<|sV (.ptr 80 0)<|sV (.ptr 80 0)<|sL rfl<|sV (.ptr 80 0)<|sV (.ptr 80 1)<|sL rfl<|sV (.ptr 80 0)<|sV (.ptr 80 2)<|sL rfl<|sV (.ptr 80 3)<|sL rfl<|sV (.ptr 80 4) ?_
    refine sL rfl<|sV (.ptr 80 5)<|sL rfl<|sV (.ptr 80 6)<|sV (.ptr 80 6)<|sV (.ptr 80 6)<|sL rfl<|sV (.ptr 80 6)<|sV (.ptr 80 6)<|sV (.ptr 80 7)<|sL rfl<|sV (.ptr 80 6)<|sV (.ptr 80 6)<|sV (.ptr 80 8)<|sL rfl ?_
    refine sV (.ptr 80 6)<|sV (.ptr 80 9)<|sV (.ptr 80 9)<|sL rfl<|sV (.ptr 80 6)<|sV (.ptr 80 9)<|sV (.ptr 80 10)<|sL rfl<|sV (.ptr 80 6)<|sV (.ptr 80 9)<|sV (.ptr 80 11)<|sL rfl<|sV (.ptr 48 13)<|sV (.ptr 48 13)<|sL rfl ?_
    refine sV (.ptr 48 13)<|sV (.ptr 48 14)<|sL rfl<|sV (.ptr 48 15)<|sL rfl<|sG (.d (.lst ([a0.fAt, a0.ae.aa.ac.aA.fX, a0.ae.aa.ac.aA.fY, a0.ae.aa.ac.aA.fZ, a0.ae.aa.ac.aF, a0.ae.aa.ac.aQ, a0.ae.aa.ac.aW, a0.ae.aa.ac.am.aI.fX, a0.ae.aa.ac.am.aI.fY, a0.ae.aa.ac.am.aI.fZ, a0.ae.aa.ac.am.aw.fX, a0.ae.aa.ac.am.aw.fY, a0.ae.aa.ac.am.aw.fZ, a0.ae.aa.ap.aI, a0.ae.aa.ap.aw, a0.ae.aa.aU].map (PD.int .i64))))<|bE h fun x23 hx23 h => cD (jc hx23)<|sV (rB x23)<|sA rfl<|sN<|qR ?_
    cases oI h
    exact qG
   refine sM rfl<|k3<|k3<|k3<|k3<|sK<|sK ?_
   refine k3<|k3<|k3<|k3<|sK<|sK<|sK ?_
   refine k3<|k3<|k3<|k3<|sK<|sK<|sK ?_
   refine k3<|k3<|sK<|sU<|sA rfl<|sN<|qR ?_
   cases oI h
   exact qG
  refine WO.callR (v := rB false) (u := []) rfl rfl (fun _ => rfl) rfl rfl rfl rfl rfl (cG hx20) rfl rfl (congrArg (fun b => RV.d (.bool b)) hb21) rfl<|sM rfl<|k3<|sK<|sU<|sM rfl<|k3<|k3<|sK ?_
  refine k3<|k3<|k3<|k3<|sK<|sK<|sK ?_
  refine k3<|k3<|k3<|k3<|sK<|sK<|sK ?_
  refine k3<|k3<|k3<|k3<|sK<|sK<|sU ?_
  refine sA rfl<|sN<|qR ?_
  cases oI h
  exact qG
 obtain ⟨rfl, hf⟩ := hq
 cases oI h
 exact hf
theorem ref37_History_ev {a0 : (List ag)} {r : Bool} (h : ga a0 = some r) : EvP prog aM ext 25 [.d (.lst (a0.map ag.pd))] [] (rB r, []) := by
 refine Ev.body rfl Tryz.func25 rfl (by kernel_rfl)<|gS rfl rfl<|sU<|sN<|qS<|gS rfl rfl<|sV (r0)<|sN<|bE h fun o34 ho34 h => WC.block (WC.loop (WL.ofLoop ho34 (fun s R' B' => ghosts prog 0 (A R' B') (aM.at_ 25 0 2) = some (A [(0, .d (.lst (a0.map ag.pd))), (3, rI s)] [])) (fun o e R' B' => match o with | .inl y => e = .exit 0 ∧ ghosts prog 0 (A R' B') (aM.at_ 25 0 13) = some (A [] []) | .inr r => e = .ret ∧ finish prog (aM.own 25) Tryz.f25 0 (A R' B') = some (rB r, [])) rfl ?_ ?_))
 ·rintro s1 R' B' q2 hI h
  refine qS<|gS rfl hI<|sM rfl<|sM rfl<|sE (rI (a0.length : Int)) (lenMap _ _)<|sF h (fun h => ?_) fun h => ?_
  ·refine sN<|cT<|qK<|qS<|qB<|WC.join (α := Unit) (fun x R' B' => ghosts prog 0 (A R' B') (aM.at_ 25 0 6) = some (A [(0, .d (.lst (a0.map ag.pd))), (3, rI s1)] [])) (fun x => cx a0 s1 = some q2) ?_ ?_
   ·refine WC.regionDSeq rfl rfl<|sM rfl<|sM rfl<|bE h fun x24 hx24 h => eG hx24 rfl<|sV (.d (ag.pd x24))<|bE h fun x25 hx25 h => cD (jA hx25)<|sF h (fun h => ?_) fun h => ?_
    ·refine sM rfl<|k3<|k3<|sK<|sT<|sM rfl<|k3<|sK<|sK ?_
     refine k3<|k3<|k3<|sK<|sK<|sT ?_
     refine sN<|sO<|cT<|gS rfl rfl<|sU<|sN<|qR ?_
     cases oI h
     exact ⟨nofun, rfl, rfl⟩
    refine sM rfl<|sM rfl<|sM rfl<|bE h fun x27 hx27 h => eG hx27 rfl<|sV (.cptr [.int .i64 x27.aT, .int .i64 x27.ba, .int .i64 x27.fID, .int .i64 x27.fAt, .int .i64 x27.aX, .str x27.ae.aj.ai.aB, .str x27.ae.aj.ai.aD, .str x27.ae.aj.ai.ac, .str x27.ae.aj.ai.aC, .int .i64 x27.ae.aj.aF, .int .i64 x27.ae.aj.aL, .int .i64 x27.ae.aj.aP, .int .i64 x27.ae.aj.aq, .int .i64 x27.ae.aj.av, .lst (x27.ae.aa.aJ.map ah.pd), .int .i64 x27.ae.aa.ac.aA.fX, .int .i64 x27.ae.aa.ac.aA.fY, .int .i64 x27.ae.aa.ac.aA.fZ, .int .i64 x27.ae.aa.ac.aF, .int .i64 x27.ae.aa.ac.aQ, .int .i64 x27.ae.aa.ac.aW, .int .i64 x27.ae.aa.ac.am.aI.fX, .int .i64 x27.ae.aa.ac.am.aI.fY, .int .i64 x27.ae.aa.ac.am.aI.fZ, .int .i64 x27.ae.aa.ac.am.aw.fX, .int .i64 x27.ae.aa.ac.am.aw.fY, .int .i64 x27.ae.aa.ac.am.aw.fZ, .int .i64 x27.ae.aa.ap.aI, .int .i64 x27.ae.aa.ap.aw, .int .i64 x27.ae.aa.aU])<|sC rfl<|sM rfl<|sV (rB (x27.aT != s1))<|sF h (fun h => ?_) fun h => ?_
    ·refine sM rfl<|k3<|k3<|k3<|k3<|sK<|sK ?_
     refine sK<|sK<|sT ?_
     refine sN<|sO<|cT<|gS rfl rfl<|sU<|sN<|qR ?_
     cases oI h
     exact ⟨nofun, rfl, rfl⟩
    refine sM rfl<|sM rfl<|sF h (fun h => ?_) fun h => ?_
    ·refine sM rfl<|sM rfl<|sM rfl<|bE h fun x30 hx30 h => eG hx30 rfl<|sV (.cptr [.int .i64 x30.fAt, .int .i64 x30.aX, .str x30.ae.aj.ai.aB, .str x30.ae.aj.ai.aD, .str x30.ae.aj.ai.ac, .str x30.ae.aj.ai.aC, .int .i64 x30.ae.aj.aF, .int .i64 x30.ae.aj.aL, .int .i64 x30.ae.aj.aP, .int .i64 x30.ae.aj.aq, .int .i64 x30.ae.aj.av, .lst (x30.ae.aa.aJ.map ah.pd), .int .i64 x30.ae.aa.ac.aA.fX, .int .i64 x30.ae.aa.ac.aA.fY, .int .i64 x30.ae.aa.ac.aA.fZ, .int .i64 x30.ae.aa.ac.aF, .int .i64 x30.ae.aa.ac.aQ, .int .i64 x30.ae.aa.ac.aW, .int .i64 x30.ae.aa.ac.am.aI.fX, .int .i64 x30.ae.aa.ac.am.aI.fY, .int .i64 x30.ae.aa.ac.am.aI.fZ, .int .i64 x30.ae.aa.ac.am.aw.fX, .int .i64 x30.ae.aa.ac.am.aw.fY, .int .i64 x30.ae.aa.ac.am.aw.fZ, .int .i64 x30.ae.aa.ap.aI, .int .i64 x30.ae.aa.ap.aw, .int .i64 x30.ae.aa.aU])<|sC rfl<|sM rfl<|sM rfl<|sV (rI (rW (s1 - (1 : Int))))<|bE h fun x31 hx31 h => eG hx31 rfl<|sV (.cptr [.int .i64 x31.fAt, .int .i64 x31.aX, .str x31.ae.aj.ai.aB, .str x31.ae.aj.ai.aD, .str x31.ae.aj.ai.ac, .str x31.ae.aj.ai.aC, .int .i64 x31.ae.aj.aF, .int .i64 x31.ae.aj.aL, .int .i64 x31.ae.aj.aP, .int .i64 x31.ae.aj.aq, .int .i64 x31.ae.aj.av, .lst (x31.ae.aa.aJ.map ah.pd), .int .i64 x31.ae.aa.ac.aA.fX, .int .i64 x31.ae.aa.ac.aA.fY, .int .i64 x31.ae.aa.ac.aA.fZ, .int .i64 x31.ae.aa.ac.aF, .int .i64 x31.ae.aa.ac.aQ, .int .i64 x31.ae.aa.ac.aW, .int .i64 x31.ae.aa.ac.am.aI.fX, .int .i64 x31.ae.aa.ac.am.aI.fY, .int .i64 x31.ae.aa.ac.am.aI.fZ, .int .i64 x31.ae.aa.ac.am.aw.fX, .int .i64 x31.ae.aa.ac.am.aw.fY, .int .i64 x31.ae.aa.ac.am.aw.fZ, .int .i64 x31.ae.aa.ap.aI, .int .i64 x31.ae.aa.ap.aw, .int .i64 x31.ae.aa.aU])<|sC rfl<|sV (rB (decide (x30.fAt < x31.fAt))) ?_
     refine sV (rB (decide (x30.fAt < x31.fAt)))<|sF h (fun h => ?_) fun h => ?_
     ·refine sN<|sO<|cT<|gS rfl rfl<|sU<|sN<|qR ?_
      cases oI h
      exact ⟨nofun, rfl, rfl⟩
     exact sN<|sO<|cF<|qK<|⟨(), rfl, h⟩
    refine sM rfl<|k3<|k3<|k3<|k3<|sU<|sU ?_
    exact sN<|sO<|cF<|qK<|⟨(), rfl, h⟩
   rintro ⟨⟩ R' B' hI h
   refine WC.join (α := Unit) (fun x R' B' => ghosts prog 0 (A R' B') (aM.at_ 25 0 8) = some (A [(0, .d (.lst (a0.map ag.pd))), (3, rI s1)] [])) (fun x => dA s1 a0 = some q2) ?_ ?_
   ·refine gS rfl hI<|sM rfl<|sM rfl<|bE h fun x18 hx18 h => eG hx18 rfl<|sV (.cptr [.int .i64 x18.ba, .int .i64 x18.fID, .int .i64 x18.fAt, .int .i64 x18.aX, .str x18.ae.aj.ai.aB, .str x18.ae.aj.ai.aD, .str x18.ae.aj.ai.ac, .str x18.ae.aj.ai.aC, .int .i64 x18.ae.aj.aF, .int .i64 x18.ae.aj.aL, .int .i64 x18.ae.aj.aP, .int .i64 x18.ae.aj.aq, .int .i64 x18.ae.aj.av, .lst (x18.ae.aa.aJ.map ah.pd), .int .i64 x18.ae.aa.ac.aA.fX, .int .i64 x18.ae.aa.ac.aA.fY, .int .i64 x18.ae.aa.ac.aA.fZ, .int .i64 x18.ae.aa.ac.aF, .int .i64 x18.ae.aa.ac.aQ, .int .i64 x18.ae.aa.ac.aW, .int .i64 x18.ae.aa.ac.am.aI.fX, .int .i64 x18.ae.aa.ac.am.aI.fY, .int .i64 x18.ae.aa.ac.am.aI.fZ, .int .i64 x18.ae.aa.ac.am.aw.fX, .int .i64 x18.ae.aa.ac.am.aw.fY, .int .i64 x18.ae.aa.ac.am.aw.fZ, .int .i64 x18.ae.aa.ap.aI, .int .i64 x18.ae.aa.ap.aw, .int .i64 x18.ae.aa.aU])<|sC rfl<|sF h (fun h => ?_) fun h => ?_
    ·refine sM rfl<|sM rfl<|sM rfl<|sM rfl<|bE h fun x20 hx20 h => eG hx20 rfl<|sV (.cptr [.int .i64 x20.fID, .int .i64 x20.fAt, .int .i64 x20.aX, .str x20.ae.aj.ai.aB, .str x20.ae.aj.ai.aD, .str x20.ae.aj.ai.ac, .str x20.ae.aj.ai.aC, .int .i64 x20.ae.aj.aF, .int .i64 x20.ae.aj.aL, .int .i64 x20.ae.aj.aP, .int .i64 x20.ae.aj.aq, .int .i64 x20.ae.aj.av, .lst (x20.ae.aa.aJ.map ah.pd), .int .i64 x20.ae.aa.ac.aA.fX, .int .i64 x20.ae.aa.ac.aA.fY, .int .i64 x20.ae.aa.ac.aA.fZ, .int .i64 x20.ae.aa.ac.aF, .int .i64 x20.ae.aa.ac.aQ, .int .i64 x20.ae.aa.ac.aW, .int .i64 x20.ae.aa.ac.am.aI.fX, .int .i64 x20.ae.aa.ac.am.aI.fY, .int .i64 x20.ae.aa.ac.am.aI.fZ, .int .i64 x20.ae.aa.ac.am.aw.fX, .int .i64 x20.ae.aa.ac.am.aw.fY, .int .i64 x20.ae.aa.ac.am.aw.fZ, .int .i64 x20.ae.aa.ap.aI, .int .i64 x20.ae.aa.ap.aw, .int .i64 x20.ae.aa.aU])<|sC rfl<|bE h fun x21 hx21 h => eG hx21 rfl<|sV (.cptr [.int .i64 x21.ba, .int .i64 x21.fID, .int .i64 x21.fAt, .int .i64 x21.aX, .str x21.ae.aj.ai.aB, .str x21.ae.aj.ai.aD, .str x21.ae.aj.ai.ac, .str x21.ae.aj.ai.aC, .int .i64 x21.ae.aj.aF, .int .i64 x21.ae.aj.aL, .int .i64 x21.ae.aj.aP, .int .i64 x21.ae.aj.aq, .int .i64 x21.ae.aj.av, .lst (x21.ae.aa.aJ.map ah.pd), .int .i64 x21.ae.aa.ac.aA.fX, .int .i64 x21.ae.aa.ac.aA.fY, .int .i64 x21.ae.aa.ac.aA.fZ, .int .i64 x21.ae.aa.ac.aF, .int .i64 x21.ae.aa.ac.aQ, .int .i64 x21.ae.aa.ac.aW, .int .i64 x21.ae.aa.ac.am.aI.fX, .int .i64 x21.ae.aa.ac.am.aI.fY, .int .i64 x21.ae.aa.ac.am.aI.fZ, .int .i64 x21.ae.aa.ac.am.aw.fX, .int .i64 x21.ae.aa.ac.am.aw.fY, .int .i64 x21.ae.aa.ac.am.aw.fZ, .int .i64 x21.ae.aa.ap.aI, .int .i64 x21.ae.aa.ap.aw, .int .i64 x21.ae.aa.aU])<|sC rfl<|sV (rB (x21.ba != (1 : Int)))<|sF h (fun h => ?_) fun h => ?_
     ·refine sN<|cT<|gS rfl rfl<|sU<|sN<|qR ?_
      cases oI h
      exact ⟨nofun, rfl, rfl⟩
     exact sN<|cF<|qK<|⟨(), rfl, h⟩
    refine sM rfl<|k3<|k3<|k3<|sK<|sU<|sN<|cF<|qK ?_
    exact ⟨(), rfl, h⟩
   rintro ⟨⟩ R' B' hI h
   refine gS rfl hI<|sV (r0)<|sN<|bE h fun o14 ho14 h => WC.block (WC.loop (WL.ofLoop ho14 (fun s R' B' => ghosts prog 0 (A R' B') (aM.at_ 25 0 9) = some (A [(0, .d (.lst (a0.map ag.pd))), (3, rI s1), (4, rI s)] [])) (fun o e R' B' => match o with | .inl y => e = .exit 2 ∧ ghosts prog 0 (A R' B') (aM.at_ 25 0 3) = some (A [(0, .d (.lst (a0.map ag.pd))), (3, rI y)] []) | .inr r => e = .ret ∧ finish prog (aM.own 25) Tryz.f25 0 (A R' B') = some (rB r, [])) rfl ?_ ?_))
   ·rintro s4 R' B' q6 hI h
    refine qS<|gS rfl hI<|sM rfl<|sM rfl<|sF h (fun h => ?_) fun h => ?_
    ·refine sN<|cT<|qK<|qS<|qB<|WC.regionDSeq rfl rfl<|sM rfl<|sM rfl<|bE h fun x8 hx8 h => eG hx8 rfl<|sV (.cptr [.int .i64 x8.fID, .int .i64 x8.fAt, .int .i64 x8.aX, .str x8.ae.aj.ai.aB, .str x8.ae.aj.ai.aD, .str x8.ae.aj.ai.ac, .str x8.ae.aj.ai.aC, .int .i64 x8.ae.aj.aF, .int .i64 x8.ae.aj.aL, .int .i64 x8.ae.aj.aP, .int .i64 x8.ae.aj.aq, .int .i64 x8.ae.aj.av, .lst (x8.ae.aa.aJ.map ah.pd), .int .i64 x8.ae.aa.ac.aA.fX, .int .i64 x8.ae.aa.ac.aA.fY, .int .i64 x8.ae.aa.ac.aA.fZ, .int .i64 x8.ae.aa.ac.aF, .int .i64 x8.ae.aa.ac.aQ, .int .i64 x8.ae.aa.ac.aW, .int .i64 x8.ae.aa.ac.am.aI.fX, .int .i64 x8.ae.aa.ac.am.aI.fY, .int .i64 x8.ae.aa.ac.am.aI.fZ, .int .i64 x8.ae.aa.ac.am.aw.fX, .int .i64 x8.ae.aa.ac.am.aw.fY, .int .i64 x8.ae.aa.ac.am.aw.fZ, .int .i64 x8.ae.aa.ap.aI, .int .i64 x8.ae.aa.ap.aw, .int .i64 x8.ae.aa.aU])<|sC rfl<|sM rfl<|sM rfl<|bE h fun x9 hx9 h => ?_
     refine eG hx9 rfl<|sV (.cptr [.int .i64 x9.fID, .int .i64 x9.fAt, .int .i64 x9.aX, .str x9.ae.aj.ai.aB, .str x9.ae.aj.ai.aD, .str x9.ae.aj.ai.ac, .str x9.ae.aj.ai.aC, .int .i64 x9.ae.aj.aF, .int .i64 x9.ae.aj.aL, .int .i64 x9.ae.aj.aP, .int .i64 x9.ae.aj.aq, .int .i64 x9.ae.aj.av, .lst (x9.ae.aa.aJ.map ah.pd), .int .i64 x9.ae.aa.ac.aA.fX, .int .i64 x9.ae.aa.ac.aA.fY, .int .i64 x9.ae.aa.ac.aA.fZ, .int .i64 x9.ae.aa.ac.aF, .int .i64 x9.ae.aa.ac.aQ, .int .i64 x9.ae.aa.ac.aW, .int .i64 x9.ae.aa.ac.am.aI.fX, .int .i64 x9.ae.aa.ac.am.aI.fY, .int .i64 x9.ae.aa.ac.am.aI.fZ, .int .i64 x9.ae.aa.ac.am.aw.fX, .int .i64 x9.ae.aa.ac.am.aw.fY, .int .i64 x9.ae.aa.ac.am.aw.fZ, .int .i64 x9.ae.aa.ap.aI, .int .i64 x9.ae.aa.ap.aw, .int .i64 x9.ae.aa.aU])<|sC rfl<|sF h (fun h => ?_) fun h => ?_
     ·refine sM rfl<|sM rfl<|sM rfl<|bE h fun x11 hx11 h => eG hx11 rfl<|sV (.cptr [.int .i64 x11.ba, .int .i64 x11.fID, .int .i64 x11.fAt, .int .i64 x11.aX, .str x11.ae.aj.ai.aB, .str x11.ae.aj.ai.aD, .str x11.ae.aj.ai.ac, .str x11.ae.aj.ai.aC, .int .i64 x11.ae.aj.aF, .int .i64 x11.ae.aj.aL, .int .i64 x11.ae.aj.aP, .int .i64 x11.ae.aj.aq, .int .i64 x11.ae.aj.av, .lst (x11.ae.aa.aJ.map ah.pd), .int .i64 x11.ae.aa.ac.aA.fX, .int .i64 x11.ae.aa.ac.aA.fY, .int .i64 x11.ae.aa.ac.aA.fZ, .int .i64 x11.ae.aa.ac.aF, .int .i64 x11.ae.aa.ac.aQ, .int .i64 x11.ae.aa.ac.aW, .int .i64 x11.ae.aa.ac.am.aI.fX, .int .i64 x11.ae.aa.ac.am.aI.fY, .int .i64 x11.ae.aa.ac.am.aI.fZ, .int .i64 x11.ae.aa.ac.am.aw.fX, .int .i64 x11.ae.aa.ac.am.aw.fY, .int .i64 x11.ae.aa.ac.am.aw.fZ, .int .i64 x11.ae.aa.ap.aI, .int .i64 x11.ae.aa.ap.aw, .int .i64 x11.ae.aa.aU])<|sC rfl<|sV (rB (x11.ba == (3 : Int)))<|sF h (fun h => ?_) fun h => ?_
      ·refine sN<|sO<|cT<|gS rfl rfl<|sU<|sN<|qR ?_
       cases oI h
       exact ⟨nofun, rfl, rfl⟩
      refine sN<|sO<|cF<|qK<|WC.region rfl rfl<|sM rfl<|sV (rI (rW (s4 + (1 : Int))))<|sA rfl<|sN ?_
      cases oI h
      exact ⟨rfl, rfl⟩
     refine sM rfl<|k3<|k3<|sU ?_
     refine sN<|sO<|cF<|qK<|WC.region rfl rfl<|sM rfl<|sV (rI (rW (s4 + (1 : Int))))<|sA rfl<|sN ?_
     cases oI h
     exact ⟨rfl, rfl⟩
    refine sN<|cF<|qX ?_
    cases oI h
    exact ⟨nofun, rfl, rfl⟩
   intro e R' B' he hq
   rcases o14 with y15 | r16
   ·obtain ⟨rfl, hI⟩ := hq
    refine qE<|WC.region hI rfl<|sM rfl<|sV (rI (rW (y15 + (1 : Int))))<|sA rfl<|sN ?_
    cases oI h
    exact ⟨rfl, rfl⟩
   obtain ⟨rfl, hf⟩ := hq
   cases oI h
   exact ⟨nofun, rfl, hf⟩
  refine sN<|cF<|qX ?_
  cases oI h
  exact ⟨nofun, rfl, rfl⟩
 intro e R' B' he hq
 rcases o34 with y35 | r36
 ·obtain ⟨rfl, hI⟩ := hq
  refine qE<|gS rfl hI<|sT<|sN<|qR ?_
  cases oI h
  exact qD
 obtain ⟨rfl, hf⟩ := hq
 cases oI h
 exact hf
theorem feed_copied_ev {a0 : ag} {r : ag} (h : gc a0 = some r) : EvP prog aM ext 56 [.d (ag.pd a0)] [] (.d (ag.pd r), []) := by
 refine Ev.body rfl Tryz.func56 rfl (by kernel_rfl)<|gS rfl rfl<|sB (.ptr 16 0) 16 (.var (ag.rc a0))<|sB (.ptr 32 0) 32 (.var zZ0)<|sN<|gS rfl rfl<|sV (.ptr 16 5)<|sV (.ptr 16 14)<|sV (.ptr 16 14)<|sL rfl<|bE h fun x1 hx1 h => cR (.ref 112 0) [(112, .arr 0 25 (x1.map ah.pd))] (clone_91 hx1)<|sV (.ptr 16 5)<|sV (.ptr 16 14)<|sV (.ptr 16 14) ?_
 refine sS 16 (.var [rI a0.aT, rI a0.ba, rI a0.fID, rI a0.fAt, rI a0.aX, rS a0.ae.aj.ai.aB, rS a0.ae.aj.ai.aD, rS a0.ae.aj.ai.ac, rS a0.ae.aj.ai.aC, rI a0.ae.aj.aF, rI a0.ae.aj.aL, rI a0.ae.aj.aP, rI a0.ae.aj.aq, rI a0.ae.aj.av, .ref 112 0, rI a0.ae.aa.ac.aA.fX, rI a0.ae.aa.ac.aA.fY, rI a0.ae.aa.ac.aA.fZ, rI a0.ae.aa.ac.aF, rI a0.ae.aa.ac.aQ, rI a0.ae.aa.ac.aW, rI a0.ae.aa.ac.am.aI.fX, rI a0.ae.aa.ac.am.aI.fY, rI a0.ae.aa.ac.am.aI.fZ, rI a0.ae.aa.ac.am.aw.fX, rI a0.ae.aa.ac.am.aw.fY, rI a0.ae.aa.ac.am.aw.fZ, rI a0.ae.aa.ap.aI, rI a0.ae.aa.ap.aw, rI a0.ae.aa.aU])<|sN<|gS rfl rfl<|sV (.agg [rI a0.aT, rI a0.ba, rI a0.fID, rI a0.fAt, rI a0.aX, rS a0.ae.aj.ai.aB, rS a0.ae.aj.ai.aD, rS a0.ae.aj.ai.ac, rS a0.ae.aj.ai.aC, rI a0.ae.aj.aF, rI a0.ae.aj.aL, rI a0.ae.aj.aP, rI a0.ae.aj.aq, rI a0.ae.aj.av, .ref 112 0, rI a0.ae.aa.ac.aA.fX, rI a0.ae.aa.ac.aA.fY, rI a0.ae.aa.ac.aA.fZ, rI a0.ae.aa.ac.aF, rI a0.ae.aa.ac.aQ, rI a0.ae.aa.ac.aW, rI a0.ae.aa.ac.am.aI.fX, rI a0.ae.aa.ac.am.aI.fY, rI a0.ae.aa.ac.am.aI.fZ, rI a0.ae.aa.ac.am.aw.fX, rI a0.ae.aa.ac.am.aw.fY, rI a0.ae.aa.ac.am.aw.fZ, rI a0.ae.aa.ap.aI, rI a0.ae.aa.ap.aw, rI a0.ae.aa.aU])<|sH 32 (.var [rI a0.aT, rI a0.ba, rI a0.fID, rI a0.fAt, rI a0.aX, rS a0.ae.aj.ai.aB, rS a0.ae.aj.ai.aD, rS a0.ae.aj.ai.ac, rS a0.ae.aj.ai.aC, rI a0.ae.aj.aF, rI a0.ae.aj.aL, rI a0.ae.aj.aP, rI a0.ae.aj.aq, rI a0.ae.aj.av, .ref 112 0, rI a0.ae.aa.ac.aA.fX, rI a0.ae.aa.ac.aA.fY, rI a0.ae.aa.ac.aA.fZ, rI a0.ae.aa.ac.aF, rI a0.ae.aa.ac.aQ, rI a0.ae.aa.ac.aW, rI a0.ae.aa.ac.am.aI.fX, rI a0.ae.aa.ac.am.aI.fY, rI a0.ae.aa.ac.am.aI.fZ, rI a0.ae.aa.ac.am.aw.fX, rI a0.ae.aa.ac.am.aw.fY, rI a0.ae.aa.ac.am.aw.fZ, rI a0.ae.aa.ap.aI, rI a0.ae.aa.ap.aw, rI a0.ae.aa.aU])<|sN<|qR ?_
 cases oI h
 exact qG
theorem feed_Current_ev {a0 : (List ag)} {r : (List ag)} (h : fp a0 = some r) : EvP prog aM ext 26 [.d (.lst (a0.map ag.pd))] [] (.d (.lst (r.map ag.pd)), []) := by
 refine Ev.body rfl Tryz.func26 rfl (by kernel_rfl)<|gS rfl rfl<|sV .nils<|sN<|gS rfl rfl<|sB (.ptr 144 0) 144 (.map 3 3 (([] : List (Int × Int)).map fun e => ((PD.int .i64) e.1, (PD.int .i64) e.2)))<|sA rfl<|sN<|qS<|gS rfl rfl<|sM rfl<|sE (rI (a0.length : Int)) (lenMap _ _)<|sV (r0)<|sN<|bE h fun o8 ho8 h => ?_
 refine WC.block (WC.loop (WL.ofLoop ho8 (fun s R' B' => ghosts prog 0 (A R' B') (aM.at_ 26 0 3) = some (A [(0, .d (.lst (a0.map ag.pd))), (3, .ptr 144 0), (10, .d (.lst (a0.map ag.pd))), (11, rI (a0.length : Int)), (12, rI s.1)] [(144, .map 3 3 (s.2.map fun e => ((PD.int .i64) e.1, (PD.int .i64) e.2)))])) (fun o e R' B' => e = .exit 0 ∧ ghosts prog 0 (A R' B') (aM.at_ 26 0 7) = some (A [(0, .d (.lst (a0.map ag.pd))), (3, .ptr 144 0)] [(144, .map 3 3 (o.map fun e => ((PD.int .i64) e.1, (PD.int .i64) e.2)))])) rfl ?_ ?_))
 ·rintro ⟨s1, s2⟩ R' B' q4 hI h
  refine gS rfl hI<|sF h (fun h => ?_) fun h => ?_
  ·refine sN<|qS<|cT<|qK<|qS<|qB<|gS rfl rfl<|sM rfl<|bE h fun x6 hx6 h => eG hx6 rfl<|sV (.d (ag.pd x6))<|sB (.ptr 80 0) 80 (.var zZ0)<|sA rfl<|sH 80 (.var (ag.rc x6))<|sN ?_
   refine WC.region rfl rfl<|sM rfl<|sV (.ptr 80 2)<|sL rfl<|sM rfl<|WO.mput (gv := (PD.int .i64)) (y := s1) (KeyT.int rfl) rfl rfl rfl rfl rfl rfl rfl rfl rfl rfl<|sN<|WC.region rfl rfl<|sV (rI (rW (s1 + (1 : Int))))<|sM rfl<|sN ?_
   cases oI h
   exact ⟨rfl, rfl⟩
  refine sN<|qS<|cF<|qX ?_
  cases oI h
  exact ⟨nofun, rfl, rfl⟩
 intro e R' B' he hq
 obtain ⟨rfl, hI⟩ := hq
 refine qE<|gS rfl hI<|sV .nils<|sN<|qS<|gS rfl rfl<|sM rfl<|sE (rI (a0.length : Int)) (lenMap _ _)<|sV (r0)<|sN<|bE h fun o20 ho20 h => WC.block (WC.loop (WL.ofLoop ho20 (fun s R' B' => ghosts prog 0 (A R' B') (aM.at_ 26 0 9) = some (A [(3, .ptr 144 0), (6, .ref 704 0), (22, .d (.lst (a0.map ag.pd))), (23, rI (a0.length : Int)), (24, rI s.1)] [(144, .map 3 3 (o8.map fun e => ((PD.int .i64) e.1, (PD.int .i64) e.2))), (704, .arr 0 40 (s.2.map ag.pd))])) (fun o e R' B' => e = .exit 2 ∧ ghosts prog 0 (A R' B') (aM.at_ 26 0 14) = some (A [(6, .ref 704 0)] [(704, .arr 0 40 (o.map ag.pd))])) rfl ?_ ?_))
 ·rintro ⟨s9, s10⟩ R' B' q12 hI h
  refine gS rfl hI<|sF h (fun h => ?_) fun h => ?_
  ·refine sN<|qS<|cT<|qK<|qS<|qB<|gS rfl rfl<|sM rfl<|bE h fun x14 hx14 h => eG hx14 rfl<|sV (.d (ag.pd x14))<|sB (.ptr 128 0) 128 (.var zZ0)<|sA rfl<|sH 128 (.var (ag.rc x14))<|sN ?_
   refine gS rfl rfl<|sM rfl<|sV (.ptr 128 2)<|sL rfl<|WO.look (gv := (PD.int .i64)) (z := (0 : Int)) (KeyT.int rfl) rfl rfl rfl rfl rfl rfl rfl rfl<|sM rfl<|sF h (fun h => ?_) fun h => ?_
   ·refine sM rfl<|sV (.ptr 128 1)<|sL rfl<|sV (rB (x14.ba != (3 : Int)))<|sF h (fun h => ?_) fun h => ?_
    ·refine sN<|cT<|WC.region rfl rfl<|sM rfl<|sV (.d (ag.pd x14))<|bE h fun x17 hx17 h => cD (feed_copied_ev hx17)<|sG (.d (.lst ([x17].map ag.pd)))<|bE h fun x18 hx18 h => aR hx18 (fun _ => rfl) rfl<|sA rfl<|sN<|WC.region rfl rfl<|sV (rI (rW (s9 + (1 : Int))))<|sM rfl ?_
     refine sN ?_
     cases oI h
     exact ⟨rfl, rfl⟩
    refine sN<|cF<|qK<|WC.region rfl rfl<|sV (rI (rW (s9 + (1 : Int))))<|sM rfl<|sN ?_
    cases oI h
    exact ⟨rfl, rfl⟩
   refine sM rfl<|k3<|sU<|sN<|cF<|qK<|WC.region rfl rfl<|sV (rI (rW (s9 + (1 : Int))))<|sM rfl<|sN ?_
   cases oI h
   exact ⟨rfl, rfl⟩
  refine sN<|qS<|cF<|qX ?_
  cases oI h
  exact ⟨nofun, rfl, rfl⟩
 intro e R' B' he hq
 obtain ⟨rfl, hI⟩ := hq
 refine qE<|gS rfl hI<|sM rfl<|bE h fun x21 hx21 h => cR (.tup []) [(704, .arr 0 40 (x21.map ag.pd))] (sort_57_58 hx21)<|sN<|gS rfl rfl<|sM rfl<|sA rfl<|sN<|qR ?_
 cases oI h
 exact qD
theorem ref37_Current_ev {a0 : (List ag)} {r : (List ag)} (h : f8 a0 = some r) : EvP prog aM ext 27 [.d (.lst (a0.map ag.pd))] [] (.d (.lst (r.map ag.pd)), []) := by
 refine Ev.body rfl Tryz.func27 rfl (by kernel_rfl)<|gS rfl rfl<|sV .nils<|sN<|gS rfl rfl<|sV .nils<|sN<|qS<|gS rfl rfl<|sV (r0)<|sN<|bE h fun o43 ho43 h => WC.block (WC.loop (WL.ofLoop ho43 (fun s R' B' => ghosts prog 0 (A R' B') (aM.at_ 27 0 3) = some (A [(0, .d (.lst (a0.map ag.pd))), (3, .ref 1088 0), (4, rI s.1)] [(1088, .arr 0 40 (s.2.map ag.pd))])) (fun o e R' B' => e = .exit 0 ∧ ghosts prog 0 (A R' B') (aM.at_ 27 0 17) = some (A [(3, .ref 1088 0)] [(1088, .arr 0 40 (o.map ag.pd))])) rfl ?_ ?_))
 ·rintro ⟨s1, s2⟩ R' B' q4 hI h
  refine qS<|gS rfl hI<|sM rfl<|sM rfl<|sE (rI (a0.length : Int)) (lenMap _ _)<|sF h (fun h => ?_) fun h => ?_
  ·refine sN<|cT<|qK<|qS<|qB<|gS rfl rfl<|sT<|sN<|qS<|gS rfl rfl<|sM rfl<|sV (rI (rW (s1 + (1 : Int))))<|sA rfl<|sN<|bE h fun o17 ho17 h => ?_
   refine WC.block (WC.loop (WL.ofLoop ho17 (fun s R' B' => ghosts prog 0 (A R' B') (aM.at_ 27 0 7) = some (A [(0, .d (.lst (a0.map ag.pd))), (3, .ref 1088 0), (4, rI s1), (5, rB s.1), (6, rI s.2)] [(1088, .arr 0 40 (s2.map ag.pd))])) (fun o e R' B' => e = .exit 2 ∧ ghosts prog 0 (A R' B') (aM.at_ 27 0 10) = some (A [(0, .d (.lst (a0.map ag.pd))), (3, .ref 1088 0), (4, rI o.1), (5, rB o.2.1)] [(1088, .arr 0 40 (o.2.2.map ag.pd))])) rfl ?_ ?_))
   ·rintro ⟨s6, s7⟩ R' B' q11 hI h
    refine qS<|gS rfl hI<|sM rfl<|sM rfl<|sE (rI (a0.length : Int)) (lenMap _ _)<|sF h (fun h => ?_) fun h => ?_
    ·refine sN<|cT<|qK<|qS<|qB<|WC.regionD rfl rfl<|sF h (fun h => ?_) fun h => ?_
     ·refine sM rfl<|sM rfl<|sM rfl<|bE h fun x14 hx14 h => eG hx14 rfl<|sV (.cptr [.int .i64 x14.fID, .int .i64 x14.fAt, .int .i64 x14.aX, .str x14.ae.aj.ai.aB, .str x14.ae.aj.ai.aD, .str x14.ae.aj.ai.ac, .str x14.ae.aj.ai.aC, .int .i64 x14.ae.aj.aF, .int .i64 x14.ae.aj.aL, .int .i64 x14.ae.aj.aP, .int .i64 x14.ae.aj.aq, .int .i64 x14.ae.aj.av, .lst (x14.ae.aa.aJ.map ah.pd), .int .i64 x14.ae.aa.ac.aA.fX, .int .i64 x14.ae.aa.ac.aA.fY, .int .i64 x14.ae.aa.ac.aA.fZ, .int .i64 x14.ae.aa.ac.aF, .int .i64 x14.ae.aa.ac.aQ, .int .i64 x14.ae.aa.ac.aW, .int .i64 x14.ae.aa.ac.am.aI.fX, .int .i64 x14.ae.aa.ac.am.aI.fY, .int .i64 x14.ae.aa.ac.am.aI.fZ, .int .i64 x14.ae.aa.ac.am.aw.fX, .int .i64 x14.ae.aa.ac.am.aw.fY, .int .i64 x14.ae.aa.ac.am.aw.fZ, .int .i64 x14.ae.aa.ap.aI, .int .i64 x14.ae.aa.ap.aw, .int .i64 x14.ae.aa.aU])<|sC rfl<|sM rfl<|sM rfl<|bE h fun x15 hx15 h => eG hx15 rfl<|sV (.cptr [.int .i64 x15.fID, .int .i64 x15.fAt, .int .i64 x15.aX, .str x15.ae.aj.ai.aB, .str x15.ae.aj.ai.aD, .str x15.ae.aj.ai.ac, .str x15.ae.aj.ai.aC, .int .i64 x15.ae.aj.aF, .int .i64 x15.ae.aj.aL, .int .i64 x15.ae.aj.aP, .int .i64 x15.ae.aj.aq, .int .i64 x15.ae.aj.av, .lst (x15.ae.aa.aJ.map ah.pd), .int .i64 x15.ae.aa.ac.aA.fX, .int .i64 x15.ae.aa.ac.aA.fY, .int .i64 x15.ae.aa.ac.aA.fZ, .int .i64 x15.ae.aa.ac.aF, .int .i64 x15.ae.aa.ac.aQ, .int .i64 x15.ae.aa.ac.aW, .int .i64 x15.ae.aa.ac.am.aI.fX, .int .i64 x15.ae.aa.ac.am.aI.fY, .int .i64 x15.ae.aa.ac.am.aI.fZ, .int .i64 x15.ae.aa.ac.am.aw.fX, .int .i64 x15.ae.aa.ac.am.aw.fY, .int .i64 x15.ae.aa.ac.am.aw.fZ, .int .i64 x15.ae.aa.ap.aI, .int .i64 x15.ae.aa.ap.aw, .int .i64 x15.ae.aa.aU])<|sC rfl<|sV (rB (x14.fID != x15.fID))<|sV (rB (x14.fID != x15.fID)) ?_
      refine sA rfl ?_
      refine sN<|sO<|WC.region rfl rfl<|sM rfl<|sV (rI (rW (s7 + (1 : Int))))<|sA rfl<|sN ?_
      cases oI h
      exact ⟨rfl, rfl⟩
     refine sM rfl<|k3<|k3<|k3<|sK<|sK<|sU<|sA rfl ?_
     refine sN<|sO<|WC.region rfl rfl<|sM rfl<|sV (rI (rW (s7 + (1 : Int))))<|sA rfl<|sN ?_
     cases oI h
     exact ⟨rfl, rfl⟩
    refine sN<|cF<|qX ?_
    cases oI h
    exact ⟨nofun, rfl, rfl⟩
   intro e R' B' he hq
   obtain ⟨rfl, hI⟩ := hq
   refine qE<|qS<|gS rfl hI<|sM rfl<|sF h (fun h => ?_) fun h => ?_
   ·refine sM rfl<|k3<|k3<|sT<|sN<|cT<|qX<|qE<|WC.region rfl rfl<|sM rfl<|sV (rI (rW (o17.1 + (1 : Int)))) ?_
    refine sA rfl<|sN ?_
    cases oI h
    exact ⟨rfl, rfl⟩
   refine sM rfl<|sM rfl<|sM rfl<|bE h fun x19 hx19 h => eG hx19 rfl<|sV (.cptr [.int .i64 x19.ba, .int .i64 x19.fID, .int .i64 x19.fAt, .int .i64 x19.aX, .str x19.ae.aj.ai.aB, .str x19.ae.aj.ai.aD, .str x19.ae.aj.ai.ac, .str x19.ae.aj.ai.aC, .int .i64 x19.ae.aj.aF, .int .i64 x19.ae.aj.aL, .int .i64 x19.ae.aj.aP, .int .i64 x19.ae.aj.aq, .int .i64 x19.ae.aj.av, .lst (x19.ae.aa.aJ.map ah.pd), .int .i64 x19.ae.aa.ac.aA.fX, .int .i64 x19.ae.aa.ac.aA.fY, .int .i64 x19.ae.aa.ac.aA.fZ, .int .i64 x19.ae.aa.ac.aF, .int .i64 x19.ae.aa.ac.aQ, .int .i64 x19.ae.aa.ac.aW, .int .i64 x19.ae.aa.ac.am.aI.fX, .int .i64 x19.ae.aa.ac.am.aI.fY, .int .i64 x19.ae.aa.ac.am.aI.fZ, .int .i64 x19.ae.aa.ac.am.aw.fX, .int .i64 x19.ae.aa.ac.am.aw.fY, .int .i64 x19.ae.aa.ac.am.aw.fZ, .int .i64 x19.ae.aa.ap.aI, .int .i64 x19.ae.aa.ap.aw, .int .i64 x19.ae.aa.aU])<|sC rfl<|sV (rB (x19.ba == (3 : Int)))<|sF h (fun h => ?_) fun h => ?_
   ·refine sN<|cT<|qX<|qE<|WC.region rfl rfl<|sM rfl<|sV (rI (rW (o17.1 + (1 : Int))))<|sA rfl<|sN ?_
    cases oI h
    exact ⟨rfl, rfl⟩
   refine sN<|cF<|qK<|gS rfl rfl<|sV (r0)<|sN<|qS<|bE h fun o31 ho31 h => WC.block (WC.loop (WL.ofLoop ho31 (fun s R' B' => ghosts prog 0 (A R' B') (aM.at_ 27 0 12) = some (A [(0, .d (.lst (a0.map ag.pd))), (3, .ref 1088 0), (4, rI o17.1), (7, rI s)] [(1088, .arr 0 40 (o17.2.2.map ag.pd))])) (fun o e R' B' => e = .exit 4 ∧ ghosts prog 0 (A R' B') (aM.at_ 27 0 14) = some (A [(0, .d (.lst (a0.map ag.pd))), (3, .ref 1088 0), (4, rI o17.1), (7, rI o)] [(1088, .arr 0 40 (o17.2.2.map ag.pd))])) rfl ?_ ?_))
   ·rintro s21 R' B' q23 hI h
    refine qS<|WC.regionDSeq hI rfl<|sM rfl<|sM rfl<|WO.lenR rfl rfl rfl rfl rfl rfl rfl rfl rfl<|sF h (fun h => ?_) fun h => ?_
    ·refine sM rfl<|sM rfl<|sM rfl<|bE h fun x26 hx26 h => WO.eltG hx26 rfl rfl rfl rfl rfl rfl rfl rfl<|sV (.elt 1088 0 (s21).toNat 2)<|bE h fun x27 hx27 h => WO.loadE hx27 rfl rfl rfl rfl rfl rfl<|sM rfl<|sM rfl<|bE h fun x28 hx28 h => eG hx28 rfl<|sV (.cptr [.int .i64 x28.fID, .int .i64 x28.fAt, .int .i64 x28.aX, .str x28.ae.aj.ai.aB, .str x28.ae.aj.ai.aD, .str x28.ae.aj.ai.ac, .str x28.ae.aj.ai.aC, .int .i64 x28.ae.aj.aF, .int .i64 x28.ae.aj.aL, .int .i64 x28.ae.aj.aP, .int .i64 x28.ae.aj.aq, .int .i64 x28.ae.aj.av, .lst (x28.ae.aa.aJ.map ah.pd), .int .i64 x28.ae.aa.ac.aA.fX, .int .i64 x28.ae.aa.ac.aA.fY, .int .i64 x28.ae.aa.ac.aA.fZ, .int .i64 x28.ae.aa.ac.aF, .int .i64 x28.ae.aa.ac.aQ, .int .i64 x28.ae.aa.ac.aW, .int .i64 x28.ae.aa.ac.am.aI.fX, .int .i64 x28.ae.aa.ac.am.aI.fY, .int .i64 x28.ae.aa.ac.am.aI.fZ, .int .i64 x28.ae.aa.ac.am.aw.fX, .int .i64 x28.ae.aa.ac.am.aw.fY, .int .i64 x28.ae.aa.ac.am.aw.fZ, .int .i64 x28.ae.aa.ap.aI, .int .i64 x28.ae.aa.ap.aw, .int .i64 x28.ae.aa.aU])<|sC rfl<|sV (rB (decide (x27.fID < x28.fID))) ?_
     refine sF h (fun h => ?_) fun h => ?_
     ·refine sN<|sO<|cT<|qK<|qB<|WC.region rfl rfl<|sM rfl<|sV (rI (rW (s21 + (1 : Int))))<|sA rfl<|sN ?_
      cases oI h
      exact ⟨rfl, rfl⟩
     refine sN<|sO<|cF<|qX ?_
     cases oI h
     exact ⟨nofun, rfl, rfl⟩
    refine sM rfl<|k3<|k3<|k3<|sK<|sK<|sU ?_
    refine sN<|sO<|cF<|qX ?_
    cases oI h
    exact ⟨nofun, rfl, rfl⟩
   intro e R' B' he hq
   obtain ⟨rfl, hI⟩ := hq
   refine qE<|gS rfl hI<|sM rfl<|sG (.agg zZ0)<|sG (.d (.lst ([zZ3].map ag.pd)))<|bE h fun x32 hx32 h => aR hx32 (fun _ => rfl) rfl<|sA rfl<|sN<|WC.regionDSeq rfl rfl<|sM rfl<|sM rfl<|sV (rI (rW (o31 + (1 : Int))))<|bE h fun x33 hx33 h => WO.subR hx33 rfl rfl rfl rfl rfl rfl rfl rfl rfl rfl rfl rfl ?_
   refine sM rfl<|sM rfl<|bE h fun x34 hx34 h => WO.subR hx34 rfl rfl rfl rfl rfl rfl rfl rfl rfl rfl rfl rfl<|bE h fun x35 hx35 h => bE h fun x36 hx36 h => WO.copyG rfl rfl rfl rfl rfl rfl rfl rfl (dst_view hx35 rfl) (src_view hx36 rfl) rfl rfl (fun _ => rfl) ?_
   refine sN<|sO<|WC.region rfl rfl<|sM rfl<|sM rfl<|sM rfl<|sM rfl<|bE h fun x38 hx38 h => eG hx38 rfl<|sV (.d (ag.pd x38))<|bE h fun x40 hx40 h => WO.eltG hx40 rfl rfl rfl rfl rfl rfl rfl rfl<|bE h fun x41 hx41 h => WO.storeE (g := ag.pd) (sz := 30) (p := ag.pd x38) hx41 (by intro _; kernel_rfl) (by intro _; kernel_rfl) rfl rfl rfl rfl rfl rfl rfl rfl rfl<|sN<|WC.region rfl rfl ?_
   refine sM rfl<|sV (rI (rW (o17.1 + (1 : Int))))<|sA rfl<|sN ?_
   cases oI h
   exact ⟨rfl, rfl⟩
  refine sN<|cF<|qX ?_
  cases oI h
  exact ⟨nofun, rfl, rfl⟩
 intro e R' B' he hq
 obtain ⟨rfl, hI⟩ := hq
 refine qE<|gS rfl hI<|sM rfl<|sA rfl<|sN<|qR ?_
 cases oI h
 exact qD
theorem fE {a0 : (List ag)} {a1 : (List ag)} {r : Bool} (h : da a0 a1 = some r) : EvP prog aM ext 23 [.d (.lst (a0.map ag.pd)), .d (.lst (a1.map ag.pd))] [] (rB r, []) := by
 refine Ev.body rfl Tryz.func23 rfl (by kernel_rfl)<|gS rfl rfl<|sU<|sN<|qS<|gS rfl rfl<|sM rfl<|sE (rI (a0.length : Int)) (lenMap _ _)<|sM rfl<|sE (rI (a1.length : Int)) (lenMap _ _)<|sF h (fun h => ?_) fun h => ?_
 ·refine sN<|cT<|gS rfl rfl<|sU<|sN<|qR ?_
  cases oI h
  exact qD
 refine sN<|cF<|qK<|qS<|gS rfl rfl<|sV (r0)<|sN<|bE h fun o10 ho10 h => WC.block (WC.loop (WL.ofLoop ho10 (fun s R' B' => ghosts prog 0 (A R' B') (aM.at_ 23 0 4) = some (A [(0, .d (.lst (a0.map ag.pd))), (1, .d (.lst (a1.map ag.pd))), (5, rI s)] [])) (fun o e R' B' => match o with | .inl y => e = .exit 0 ∧ ghosts prog 0 (A R' B') (aM.at_ 23 0 8) = some (A [] []) | .inr r => e = .ret ∧ finish prog (aM.own 23) Tryz.f23 0 (A R' B') = some (rB r, [])) rfl ?_ ?_))
 ·rintro s2 R' B' q3 hI h
  refine qS<|gS rfl hI<|sM rfl<|sM rfl<|sE (rI (a0.length : Int)) (lenMap _ _)<|sF h (fun h => ?_) fun h => ?_
  ·refine sN<|cT<|qK<|qS<|qB<|WC.regionDSeq rfl rfl<|sM rfl<|sM rfl<|bE h fun x5 hx5 h => eG hx5 rfl<|sV (.d (ag.pd x5))<|sM rfl<|sM rfl<|bE h fun x6 hx6 h => eG hx6 rfl ?_
   refine sV (.d (ag.pd x6))<|bE h fun x7 hx7 h => cD (fJ hx7)<|sF h (fun h => ?_) fun h => ?_
   ·refine sN<|sO<|cT<|gS rfl rfl<|sU<|sN<|qR ?_
    cases oI h
    exact ⟨nofun, rfl, rfl⟩
   refine sN<|sO<|cF<|qK<|WC.region rfl rfl<|sM rfl<|sV (rI (rW (s2 + (1 : Int))))<|sA rfl<|sN ?_
   cases oI h
   exact ⟨rfl, rfl⟩
  refine sN<|cF<|qX ?_
  cases oI h
  exact ⟨nofun, rfl, rfl⟩
 intro e R' B' he hq
 rcases o10 with y11 | r12
 ·obtain ⟨rfl, hI⟩ := hq
  refine qE<|gS rfl hI<|sT<|sN<|qR ?_
  cases oI h
  exact qD
 obtain ⟨rfl, hf⟩ := hq
 cases oI h
 exact hf
theorem fF : ∀ (nfu : Nat) {a0 : Int} {r : (List UInt8)} (_ : bP nfu a0 = some r), EvP prog aM ext 76 [rI a0] [] (rS r, [])
  | 0, _,  _, h => by cases h
  | nfu + 1, a0,  r, h => by
   refine Ev.body rfl Tryz.func76 rfl (by kernel_rfl)<|gS rfl rfl<|sV (rS [])<|sN<|qS<|gS rfl rfl<|sM rfl<|sF h (fun h => ?_) fun h => ?_
   ·refine sN<|cT<|gS rfl rfl<|sM rfl<|sV (rI (rW (0 - a0)))<|bE h fun x2 hx2 h => cD (fF nfu hx2)<|bE h fun x3 hx3 h => WO.catG hx3 rfl rfl rfl rfl rfl<|sA rfl<|sN<|qR ?_
    cases oI h
    exact qD
   refine sN<|cF<|qK<|qS<|gS rfl rfl<|sM rfl<|sF h (fun h => ?_) fun h => ?_
   ·refine sN<|cT<|gS rfl rfl<|sM rfl<|sM rfl<|sV (rI (rW (a0 + (1 : Int))))<|bE h fun x5 hx5 h => WO.cutG hx5 rfl rfl rfl rfl rfl rfl rfl rfl rfl rfl<|sA rfl<|sN<|qR ?_
    cases oI h
    exact qD
   refine sN<|cF<|qK<|WC.regionDSeq rfl rfl<|sM rfl<|bE h fun x6 hx6 h => WO.quoG hx6 rfl rfl rfl rfl rfl rfl<|bE h fun x7 hx7 h => cD (fF nfu hx7)<|sM rfl<|bE h fun x8 hx8 h => WO.remG hx8 rfl rfl rfl rfl rfl rfl<|sM rfl<|bE h fun x9 hx9 h => WO.remG hx9 rfl rfl rfl rfl rfl rfl ?_
   refine sV (rI (rW (x9 + (1 : Int))))<|bE h fun x10 hx10 h => WO.cutG hx10 rfl rfl rfl rfl rfl rfl rfl rfl rfl rfl<|bE h fun x11 hx11 h => WO.catG hx11 rfl rfl rfl rfl rfl<|sA rfl ?_
   refine sN<|sO<|qR ?_
   cases oI h
   exact qD
theorem fT {a0 : Int} {r : (List UInt8)} (h : dK a0 = some r) : EvP prog aM ext 76 [rI a0] [] (rS r, []) :=
  let ⟨n, hn⟩ := recO_some h; fF n hn
theorem ch {a0 : (List Int)} {r : (List (List UInt8))} (h : cg a0 = some r) : EvP prog aM ext 74 [.d (.lst (a0.map (PD.int .i64)))] [] (.ref 0 0, [.arr 0 9 (r.map PD.str)]) := by
 refine Ev.body rfl Tryz.func74 rfl (by kernel_rfl)<|gS rfl rfl<|sV .nils<|sN<|gS rfl rfl<|sV .nils<|sN<|qS<|gS rfl rfl<|sV (r0)<|sN<|bE h fun o10 ho10 h => WC.block (WC.loop (WL.ofLoop ho10 (fun s R' B' => ghosts prog 0 (A R' B') (aM.at_ 74 0 3) = some (A [(0, .d (.lst (a0.map (PD.int .i64)))), (3, .ref 288 0), (4, rI s.1)] [(288, .arr 0 9 (s.2.map PD.str))])) (fun o e R' B' => e = .exit 0 ∧ ghosts prog 0 (A R' B') (aM.at_ 74 0 6) = some (A [(3, .ref 288 0)] [(288, .arr 0 9 (o.map PD.str))])) rfl ?_ ?_))
 ·rintro ⟨s1, s2⟩ R' B' q4 hI h
  refine qS<|gS rfl hI<|sM rfl<|sM rfl<|sE (rI (a0.length : Int)) (lenMap _ _)<|sF h (fun h => ?_) fun h => ?_
  ·refine sN<|cT<|qK<|qS<|qB<|WC.region rfl rfl<|sM rfl<|sM rfl<|sM rfl<|bE h fun x6 hx6 h => eG hx6 rfl<|sC rfl<|bE h fun x7 hx7 h => cD (fT hx7)<|sV (.d (.lst ([x7].map PD.str))) ?_
   refine bE h fun x8 hx8 h => aR hx8 (fun _ => rfl) rfl<|sA rfl<|sN<|WC.region rfl rfl<|sM rfl<|sV (rI (rW (s1 + (1 : Int))))<|sA rfl<|sN ?_
   cases oI h
   exact ⟨rfl, rfl⟩
  refine sN<|cF<|qX ?_
  cases oI h
  exact ⟨nofun, rfl, rfl⟩
 intro e R' B' he hq
 obtain ⟨rfl, hI⟩ := hq
 refine qE<|gS rfl hI<|sM rfl<|sA rfl<|sN<|qR ?_
 cases oI h
 exact qD
theorem ref03_Format_ev {a0 : au} {r : (List UInt8) × Int} (h : gB a0 = some r) : EvP prog aM ext 109 [.d (au.pd a0)] [] (.tup [rS r.1, rI r.2], []) := by
 refine Ev.body rfl Tryz.func109 rfl (by kernel_rfl)<|gS rfl rfl<|sB (.ptr 16 0) 16 (.var [rS a0.aB, rS a0.aD, rS a0.ac, rS a0.aC])<|sV (rS [])<|sV (r0)<|sN<|qS<|gS rfl rfl<|sV (.d (au.pd a0))<|bE h fun x1 hx1 h => cD (fx hx1)<|sF h (fun h => ?_) fun h => ?_
 ·refine sN<|cT<|gS rfl rfl<|sV (rS [])<|sV (rI 1)<|sN<|qR ?_
  cases oI h
  exact qD
 refine sN<|cF<|qK<|gS rfl rfl<|sV (.ptr 16 0)<|sL rfl<|bE h fun x3 hx3 h => WO.catG hx3 rfl rfl rfl rfl rfl<|sV (.ptr 16 1)<|sL rfl<|bE h fun x4 hx4 h => WO.catG hx4 rfl rfl rfl rfl rfl<|bE h fun x5 hx5 h => WO.catG hx5 rfl rfl rfl rfl rfl<|sV (.ptr 16 2) ?_
 refine sL rfl<|bE h fun x6 hx6 h => WO.catG hx6 rfl rfl rfl rfl rfl<|bE h fun x7 hx7 h => WO.catG hx7 rfl rfl rfl rfl rfl<|sV (.ptr 16 3)<|sL rfl<|bE h fun x8 hx8 h => WO.catG hx8 rfl rfl rfl rfl rfl<|sA rfl<|sV (r0)<|sN<|qR ?_
 cases oI h
 exact qD
theorem gb {a0 : ah} {r : (List (List UInt8))} (h : e9 a0 = some r) : EvP prog aM ext 75 [.d (ah.pd a0)] [] (.d (.lst (r.map PD.str)), []) := by
 refine Ev.body rfl Tryz.func75 rfl (by kernel_rfl)<|gS rfl rfl<|sB (.ptr 16 0) 16 (.var (ah.rc a0))<|sV .nils<|sN<|gS rfl rfl<|sV (.ptr 16 0)<|sV (.d (au.pd a0.ai))<|bE h fun x1 hx1 h => cR (.tup [rS x1.1, rI x1.2]) [] (ref03_Format_ev hx1)<|sM rfl<|sV (rS x1.1)<|sV (rI x1.2)<|sA rfl<|sA rfl ?_
 refine sN<|gS rfl rfl<|sM rfl<|sB (.ref 192 0) 192 (.arr 0 9 ([x1.1].map PD.str))<|sV (.ptr 16 4)<|sL rfl<|sV (.ptr 16 5)<|sL rfl<|sV (.ptr 16 6)<|sL rfl<|sV (.ptr 16 7)<|sL rfl<|sV (.ptr 16 8)<|sL rfl<|sV (.d (.lst ([a0.aF, a0.aL, a0.aP, a0.aq, a0.av].map (PD.int .i64)))) ?_
 refine bE h fun x2 hx2 h => cR (.ref 384 0) [(384, .arr 0 9 (x2.map PD.str))] (ch hx2)<|bE h fun x3 hx3 h => WO.appRG hx3 (fun _ => rfl) rfl rfl rfl rfl rfl rfl rfl rfl rfl rfl rfl rfl rfl rfl rfl<|sA rfl<|sN<|qR ?_
 cases oI h
 exact qG
theorem ref37_words_ev {a0 : ag} {r : (List (List UInt8))} (h : fk a0 = some r) : EvP prog aM ext 40 [.d (ag.pd a0)] [] (.d (.lst (r.map PD.str)), []) := by
 refine Ev.body rfl Tryz.func40 rfl (by kernel_rfl)<|gS rfl rfl<|sB (.ptr 16 0) 16 (.var (ag.rc a0))<|sV .nils<|sN<|gS rfl rfl<|sV (.ptr 16 5)<|sV (.ptr 16 14)<|sV (.d (aG.pd a0.ae.aa))<|sB (.ptr 48 0) 48 (.var zZ2)<|sH 48 (.var (aG.rc a0.ae.aa))<|sN<|gS rfl rfl<|sV (.ptr 48 1)<|sV (.d (aK.pd a0.ae.aa.ac)) ?_
 refine sB (.ptr 64 0) 64 (.var zZ5)<|sH 64 (.var (aK.rc a0.ae.aa.ac))<|sN<|gS rfl rfl<|sV (.ptr 16 0)<|sL rfl<|sV (.ptr 16 1)<|sL rfl<|sV (.ptr 16 2)<|sL rfl<|sV (.ptr 16 3)<|sL rfl<|sV (.ptr 16 4)<|sL rfl<|sV (.d (.lst ([a0.aT, a0.ba, a0.fID, a0.fAt, a0.aX].map (PD.int .i64)))) ?_
 refine bE h fun x1 hx1 h => cR (.ref 368 0) [(368, .arr 0 9 (x1.map PD.str))] (ch hx1)<|sA rfl<|sN<|WC.regionDSeq rfl rfl<|sM rfl<|sV (.ptr 16 5)<|sV (.ptr 16 5)<|sV (.d (ah.pd a0.ae.aj))<|bE h fun x2 hx2 h => cD (gb hx2)<|bE h fun x3 hx3 h => aR hx3 (fun _ => rfl) rfl<|sV (.ptr 48 0)<|sL rfl ?_
 refine sE (rI (a0.ae.aa.aJ.length : Int)) (lenMap _ _)<|bE h fun x4 hx4 h => cD (fT hx4)<|sV (.d (.lst ([x4].map PD.str)))<|bE h fun x5 hx5 h => aR hx5 (fun _ => rfl) rfl<|sA rfl ?_
 refine sN<|sO<|qS<|gS rfl rfl<|sV (r0)<|sN<|bE h fun o15 ho15 h => WC.block (WC.loop (WL.ofLoop ho15 (fun s R' B' => ghosts prog 0 (A R' B') (aM.at_ 40 0 6) = some (A [(3, .ptr 48 0), (4, .ptr 64 0), (5, .ref 368 0), (6, rI s.1)] [(48, .var (aG.rc a0.ae.aa)), (64, .var (aK.rc a0.ae.aa.ac)), (368, .arr 0 9 (s.2.map PD.str))])) (fun o e R' B' => e = .exit 0 ∧ ghosts prog 0 (A R' B') (aM.at_ 40 0 9) = some (A [(3, .ptr 48 0), (4, .ptr 64 0), (5, .ref 368 0)] [(48, .var (aG.rc a0.ae.aa)), (64, .var (aK.rc a0.ae.aa.ac)), (368, .arr 0 9 (o.map PD.str))])) rfl ?_ ?_))
 ·rintro ⟨s6, s7⟩ R' B' q9 hI h
  refine qS<|gS rfl hI<|sM rfl<|sV (.ptr 48 0)<|sL rfl<|sE (rI (a0.ae.aa.aJ.length : Int)) (lenMap _ _)<|sF h (fun h => ?_) fun h => ?_
  ·refine sN<|cT<|qK<|qS<|qB<|WC.region rfl rfl<|sM rfl<|sV (.ptr 48 0)<|sL rfl<|sM rfl<|bE h fun x11 hx11 h => eG hx11 rfl<|sV (.d (ah.pd x11))<|bE h fun x12 hx12 h => cD (gb hx12) ?_
   refine bE h fun x13 hx13 h => aR hx13 (fun _ => rfl) rfl<|sA rfl<|sN<|WC.region rfl rfl<|sM rfl<|sV (rI (rW (s6 + (1 : Int))))<|sA rfl<|sN ?_
   cases oI h
   exact ⟨rfl, rfl⟩
  refine sN<|cF<|qX ?_
  cases oI h
  exact ⟨nofun, rfl, rfl⟩
 intro e R' B' he hq
 obtain ⟨rfl, hI⟩ := hq
 refine qE<|gS rfl hI<|sM rfl<|sV (.ptr 64 0)<|sV (.ptr 64 0)<|sL rfl<|sV (.ptr 64 0)<|sV (.ptr 64 1)<|sL rfl<|sV (.ptr 64 0)<|sV (.ptr 64 2)<|sL rfl<|sV (.ptr 64 3)<|sL rfl<|sV (.ptr 64 4) ?_
 refine sL rfl<|sV (.ptr 64 5)<|sL rfl<|sV (.d (.lst ([a0.ae.aa.ac.aA.fX, a0.ae.aa.ac.aA.fY, a0.ae.aa.ac.aA.fZ, a0.ae.aa.ac.aF, a0.ae.aa.ac.aQ, a0.ae.aa.ac.aW].map (PD.int .i64))))<|bE h fun x16 hx16 h => cR (.ref 1088 0) [(1088, .arr 0 9 (x16.map PD.str))] (ch hx16)<|bE h fun x17 hx17 h => WO.appRG hx17 (fun _ => rfl) rfl rfl rfl rfl rfl rfl rfl rfl rfl rfl rfl rfl rfl rfl rfl<|sA rfl<|sN<|gS rfl rfl<|sM rfl<|sV (.ptr 64 6)<|sV (.ptr 64 6)<|sV (.ptr 64 6) ?_
 refine sL rfl<|sV (.ptr 64 6)<|sV (.ptr 64 6)<|sV (.ptr 64 7)<|sL rfl<|sV (.ptr 64 6)<|sV (.ptr 64 6)<|sV (.ptr 64 8)<|sL rfl<|sV (.ptr 64 6)<|sV (.ptr 64 9)<|sV (.ptr 64 9)<|sL rfl<|sV (.ptr 64 6)<|sV (.ptr 64 9) ?_
 refine sV (.ptr 64 10)<|sL rfl<|sV (.ptr 64 6)<|sV (.ptr 64 9)<|sV (.ptr 64 11)<|sL rfl<|sV (.d (.lst ([a0.ae.aa.ac.am.aI.fX, a0.ae.aa.ac.am.aI.fY, a0.ae.aa.ac.am.aI.fZ, a0.ae.aa.ac.am.aw.fX, a0.ae.aa.ac.am.aw.fY, a0.ae.aa.ac.am.aw.fZ].map (PD.int .i64))))<|bE h fun x18 hx18 h => cR (.ref 1536 0) [(1536, .arr 0 9 (x18.map PD.str))] (ch hx18)<|bE h fun x19 hx19 h => WO.appRG hx19 (fun _ => rfl) rfl rfl rfl rfl rfl rfl rfl rfl rfl rfl rfl rfl rfl rfl rfl<|sA rfl<|sN<|gS rfl rfl<|sM rfl ?_
 refine sV (.ptr 48 13)<|sV (.ptr 48 13)<|sL rfl<|sV (.ptr 48 13)<|sV (.ptr 48 14)<|sL rfl<|sV (.ptr 48 15)<|sL rfl<|sV (.d (.lst ([a0.ae.aa.ap.aI, a0.ae.aa.ap.aw, a0.ae.aa.aU].map (PD.int .i64))))<|bE h fun x20 hx20 h => cR (.ref 1728 0) [(1728, .arr 0 9 (x20.map PD.str))] (ch hx20)<|bE h fun x21 hx21 h => WO.appRG hx21 (fun _ => rfl) rfl rfl rfl rfl rfl rfl rfl rfl rfl rfl rfl rfl rfl rfl rfl<|sA rfl<|sN ?_
 refine qR ?_
 cases oI h
 exact qG
theorem ref37_Encode_ev {a0 : ag} {r : (List UInt8) × Int} (h : dc a0 = some r) : EvP prog aM ext 15 [.d (ag.pd a0)] [] (.tup [rS r.1, rI r.2], []) := by
 refine Ev.body rfl Tryz.func15 rfl (by kernel_rfl)<|gS rfl rfl<|sB (.ptr 16 0) 16 (.var (ag.rc a0))<|sV (rS [])<|sV (r0)<|sN<|qS<|gS rfl rfl<|sV (.d (ag.pd a0))<|bE h fun x1 hx1 h => cD (jA hx1)<|sF h (fun h => ?_) fun h => ?_
 ·refine sN<|cT<|gS rfl rfl<|sV (rS [])<|sV (rI 1)<|sN<|qR ?_
  cases oI h
  exact qG
 refine sN<|cF<|qK<|gS rfl rfl<|sV (rS [])<|sN<|qS<|gS rfl rfl<|sV (.d (ag.pd a0))<|bE h fun x3 hx3 h => cD (ref37_words_ev hx3)<|sE (rI (x3.length : Int)) (lenMap _ _)<|sV (r0)<|sN<|bE h fun o15 ho15 h => ?_
 refine WC.block (WC.loop (WL.ofLoop ho15 (fun s R' B' => ghosts prog 0 (A R' B') (aM.at_ 15 0 5) = some (A [(4, rS s.1), (11, .d (.lst (x3.map PD.str))), (12, rI (x3.length : Int)), (13, rI s.2)] [])) (fun o e R' B' => e = .exit 0 ∧ ghosts prog 0 (A R' B') (aM.at_ 15 0 11) = some (A [(4, rS o)] [])) rfl ?_ ?_))
 ·rintro ⟨s4, s5⟩ R' B' q7 hI h
  refine gS rfl hI<|sF h (fun h => ?_) fun h => ?_
  ·refine sN<|qS<|cT<|qK<|qS<|qB<|gS rfl rfl<|sM rfl<|bE h fun x9 hx9 h => eG hx9 rfl<|sC rfl<|sA rfl<|sA rfl<|sN<|qS ?_
   refine gS rfl rfl<|sM rfl<|sF h (fun h => ?_) fun h => ?_
   ·refine sN<|cT<|WC.region rfl rfl<|sM rfl<|bE h fun x11 hx11 h => WO.catG hx11 rfl rfl rfl rfl rfl<|sA rfl<|sN<|WC.region rfl rfl<|sM rfl<|sM rfl<|bE h fun x12 hx12 h => WO.catG hx12 rfl rfl rfl rfl rfl<|sA rfl<|sN ?_
    refine WC.region rfl rfl<|sV (rI (rW (s5 + (1 : Int))))<|sM rfl<|sN ?_
    cases oI h
    exact ⟨rfl, rfl⟩
   refine sN<|cF<|qK<|WC.region rfl rfl<|sM rfl<|sM rfl<|bE h fun x13 hx13 h => WO.catG hx13 rfl rfl rfl rfl rfl<|sA rfl<|sN<|WC.region rfl rfl<|sV (rI (rW (s5 + (1 : Int))))<|sM rfl<|sN ?_
   cases oI h
   exact ⟨rfl, rfl⟩
  refine sN<|qS<|cF<|qX ?_
  cases oI h
  exact ⟨nofun, rfl, rfl⟩
 intro e R' B' he hq
 obtain ⟨rfl, hI⟩ := hq
 refine qE<|gS rfl hI<|sM rfl<|sA rfl<|sV (r0)<|sN<|qR ?_
 cases oI h
 exact qD
theorem ref37_split_ev {a0 : (List UInt8)} {r : (List (List UInt8))} (h : ij a0 = some r) : EvP prog aM ext 51 [rS a0] [] (.d (.lst (r.map PD.str)), []) := by
 refine Ev.body rfl Tryz.func51 rfl (by kernel_rfl)<|gS rfl rfl<|sV .nils<|sN<|gS rfl rfl<|sV .nils<|sN<|gS rfl rfl<|sV (r0)<|sN<|qS<|gS rfl rfl<|sV (r0)<|sN<|bE h fun o13 ho13 h => ?_
 refine WC.block (WC.loop (WL.ofLoop ho13 (fun s R' B' => ghosts prog 0 (A R' B') (aM.at_ 51 0 4) = some (A [(0, rS a0), (3, .ref 352 0), (4, rI s.1), (5, rI s.2.1)] [(352, .arr 0 9 (s.2.2.map PD.str))])) (fun o e R' B' => e = .exit 0 ∧ ghosts prog 0 (A R' B') (aM.at_ 51 0 9) = some (A [(0, rS a0), (3, .ref 352 0), (4, rI o.1)] [(352, .arr 0 9 (o.2.map PD.str))])) rfl ?_ ?_))
 ·rintro ⟨s1, s2, s3⟩ R' B' q6 hI h
  refine qS<|gS rfl hI<|sM rfl<|sM rfl<|sV (rI (a0.length : Int))<|sF h (fun h => ?_) fun h => ?_
  ·refine sN<|cT<|qK<|qS<|qB<|gS rfl rfl<|sM rfl<|sM rfl<|bE h fun x8 hx8 h => WO.byteG hx8 rfl rfl rfl rfl rfl rfl<|sF h (fun h => ?_) fun h => ?_
   ·refine sN<|cT<|gS rfl rfl<|sM rfl<|sM rfl<|sM rfl<|sM rfl<|bE h fun x10 hx10 h => WO.cutG hx10 rfl rfl rfl rfl rfl rfl rfl rfl rfl rfl<|sV (.d (.lst ([x10].map PD.str)))<|bE h fun x11 hx11 h => aR hx11 (fun _ => rfl) rfl<|sA rfl<|sN<|WC.region rfl rfl ?_
    refine sM rfl<|sV (rI (rW (s2 + (1 : Int))))<|sA rfl<|sN<|WC.region rfl rfl<|sM rfl<|sV (rI (rW (s2 + (1 : Int))))<|sA rfl<|sN ?_
    cases oI h
    exact ⟨rfl, rfl⟩
   refine sN<|cF<|qK<|WC.region rfl rfl<|sM rfl<|sV (rI (rW (s2 + (1 : Int))))<|sA rfl<|sN ?_
   cases oI h
   exact ⟨rfl, rfl⟩
  refine sN<|cF<|qX ?_
  cases oI h
  exact ⟨nofun, rfl, rfl⟩
 intro e R' B' he hq
 obtain ⟨rfl, hI⟩ := hq
 refine qE<|gS rfl hI<|sM rfl<|sM rfl<|sM rfl<|bE h fun x14 hx14 h => WO.cutG hx14 rfl rfl rfl rfl rfl rfl rfl rfl rfl rfl<|sV (.d (.lst ([x14].map PD.str)))<|bE h fun x15 hx15 h => aR hx15 (fun _ => rfl) rfl<|sA rfl<|sN<|qR ?_
 cases oI h
 exact qD
theorem iZ {d0 : aV} {r : (List UInt8) × aV} (h : ea d0 = some r) : EvP prog aM ext 88 [.ptr 0 0] [.var [.d (.lst (d0.fL.map PD.str))]] (rS r.1, [.var [.d (.lst (r.2.fL.map PD.str))]]) := by
 refine Ev.body rfl Tryz.func88 rfl (by kernel_rfl)<|gS rfl rfl<|sV (rS [])<|sN<|qS<|gS rfl rfl<|sM rfl<|sV (.ptr 0 0)<|sV (.ptr 0 0)<|sL rfl<|sE (rI (d0.fL.length : Int)) (lenMap _ _)<|sF h (fun h => ?_) fun h => ?_
 ·refine sN<|cT<|gS rfl rfl<|sV (rS [])<|sN<|qR ?_
  cases oI h
  exact qD
 refine sN<|cF<|qK<|gS rfl rfl<|sM rfl<|sV (.ptr 0 0)<|sV (.ptr 0 0)<|sL rfl<|bE h fun x2 hx2 h => eG hx2 rfl<|sC rfl<|sA rfl<|sN<|gS rfl rfl<|sM rfl ?_
 refine sM rfl<|sV (.ptr 0 0)<|sV (.ptr 0 0)<|sL rfl<|bE h fun x3 hx3 h => WO.cutL (sz := 1) (g := PD.str) hx3 (fun _ => rfl) rfl rfl rfl rfl rfl rfl rfl rfl rfl rfl rfl<|sV (.ptr 0 0)<|sV (.ptr 0 0)<|sS 0 (.var [.d (.lst (x3.map PD.str))])<|sN<|gS rfl rfl<|sM rfl<|sA rfl<|sN<|qR ?_
 cases oI h
 exact qD
theorem bh {d0 : aV} {r : Int × aV} (h : bj d0 = some r) : EvP prog aM ext 52 [.ptr 0 0] [.var [.d (.lst (d0.fL.map PD.str))]] (rI r.1, [.var [.d (.lst (r.2.fL.map PD.str))]]) := by
 refine Ev.body rfl Tryz.func52 rfl (by kernel_rfl)<|gS rfl rfl<|sV (r0)<|sN<|gS rfl rfl<|sM rfl<|bE h fun x1 hx1 h => cR (rS x1.1) [(0, .var [.d (.lst (x1.2.fL.map PD.str))])] (iZ hx1)<|sA rfl<|sN<|gS rfl rfl<|sV (r0)<|sV (r0)<|sN<|WC.join (α := Int) (fun x R' B' => ghosts prog 1 (A R' B') (aM.at_ 52 1 5) = some (A [(3, rS x1.1), (4, r0), (5, rI x)] [(0, .var [.d (.lst (x1.2.fL.map PD.str))])])) (fun x => ce x1 x = some r) ?_ ?_
 ·refine gS rfl rfl<|sM rfl<|sV (rI (x1.1.length : Int))<|sF h (fun h => ?_) fun h => ?_
  ·refine sM rfl<|sM rfl<|bE h fun x21 hx21 h => WO.byteG hx21 rfl rfl rfl rfl rfl rfl<|sV (rB (x21 == (45 : Int)))<|sF h (fun h => ?_) fun h => ?_
   ·exact sN<|cT<|WC.region rfl rfl<|sV (rI 1)<|sN<|⟨1, rfl, h⟩
   exact sN<|cF<|qK<|⟨0, rfl, h⟩
  exact sM rfl<|k3<|sU<|sN<|cF<|qK<|⟨0, rfl, h⟩
 rintro j2 R' B' hI h
 refine qS<|gS rfl hI<|sM rfl<|sA rfl<|sN<|bE h fun o15 ho15 h => WC.block (WC.loop (WL.ofLoop ho15 (fun s R' B' => ghosts prog 1 (A R' B') (aM.at_ 52 1 6) = some (A [(3, rS x1.1), (4, rI s.1), (5, rI j2), (6, rI s.2)] [(0, .var [.d (.lst (x1.2.fL.map PD.str))])])) (fun o e R' B' => match o with | .inl y => e = .exit 0 ∧ ghosts prog 1 (A R' B') (aM.at_ 52 1 11) = some (A [(4, rI y), (5, rI j2)] [(0, .var [.d (.lst (x1.2.fL.map PD.str))])]) | .inr r => e = .ret ∧ finish prog (aM.own 52) Tryz.f52 1 (A R' B') = some (rI r.1, [.var [.d (.lst (r.2.fL.map PD.str))]])) rfl ?_ ?_))
 ·rintro ⟨s3, s4⟩ R' B' q6 hI h
  refine qS<|gS rfl hI<|sM rfl<|sM rfl<|sV (rI (x1.1.length : Int))<|sF h (fun h => ?_) fun h => ?_
  ·refine sN<|cT<|qK<|qS<|qB<|qS<|gS rfl rfl<|sM rfl<|sM rfl<|bE h fun x8 hx8 h => WO.byteG hx8 rfl rfl rfl rfl rfl rfl<|sF h (fun h => ?_) fun h => ?_
   ·refine sM rfl<|k3<|sK<|sT<|sM rfl<|sK<|sK<|sT<|sN<|cT<|gS rfl rfl<|sV (r0)<|sN ?_
    refine qR ?_
    cases oI h
    exact ⟨nofun, rfl, rfl⟩
   refine sM rfl<|sM rfl<|sM rfl<|bE h fun x10 hx10 h => WO.byteG hx10 rfl rfl rfl rfl rfl rfl<|sV (rB (decide (x10 > (57 : Int))))<|sF h (fun h => ?_) fun h => ?_
   ·refine sM rfl<|sK<|sK<|sT<|sN<|cT<|gS rfl rfl<|sV (r0)<|sN<|qR ?_
    cases oI h
    exact ⟨nofun, rfl, rfl⟩
   refine sM rfl<|sM rfl<|sV (rB (decide (s3 > (288230376151711744 : Int))))<|sF h (fun h => ?_) fun h => ?_
   ·refine sN<|cT<|gS rfl rfl<|sV (r0)<|sN<|qR ?_
    cases oI h
    exact ⟨nofun, rfl, rfl⟩
   refine sN<|cF<|qK<|WC.region rfl rfl<|sM rfl<|sV (rI (rW ((10 : Int) * s3)))<|sM rfl<|sM rfl<|bE h fun x13 hx13 h => WO.byteG hx13 rfl rfl rfl rfl rfl rfl<|sV (.d (.int .u8 (IntKind.wrap .u8 (x13 - (48 : Int)))))<|sV (rI (rW (IntKind.wrap .u8 (x13 - (48 : Int)))))<|sV (rI (rW ((rW ((10 : Int) * s3)) + (rW (IntKind.wrap .u8 (x13 - (48 : Int)))))))<|sA rfl<|sN ?_
   refine WC.region rfl rfl<|sM rfl<|sV (rI (rW (s4 + (1 : Int))))<|sA rfl<|sN ?_
   cases oI h
   exact ⟨rfl, rfl⟩
  refine sN<|cF<|qX ?_
  cases oI h
  exact ⟨nofun, rfl, rfl⟩
 intro e R' B' he hq
 rcases o15 with y16 | r17
 ·obtain ⟨rfl, hI⟩ := hq
  refine qE<|qS<|gS rfl hI<|sM rfl<|sF h (fun h => ?_) fun h => ?_
  ·refine sN<|cT<|gS rfl rfl<|sM rfl<|sV (rI (rW (0 - y16)))<|sA rfl<|sN<|qR ?_
   cases oI h
   exact qD
  refine sN<|cF<|qK<|gS rfl rfl<|sM rfl<|sA rfl<|sN<|qR ?_
  cases oI h
  exact qD
 obtain ⟨rfl, hf⟩ := hq
 cases oI h
 exact hf
theorem ref03_Split_ev {a0 : (List UInt8)} {a1 : Int} {r : (List (List UInt8))} (h : hX a0 a1 = some r) : EvP prog aM ext 118 [rS a0, .d (.int .u8 a1)] [] (.d (.lst (r.map PD.str)), []) := by
 refine Ev.body rfl Tryz.func118 rfl (by kernel_rfl)<|gS rfl rfl<|sV .nils<|sN<|gS rfl rfl<|sB (.ref 112 0) 112 (.arr 0 9 ([[]].map PD.str))<|sA rfl<|sN<|qS<|gS rfl rfl<|sV (r0)<|sN<|bE h fun o18 ho18 h => WC.block (WC.loop (WL.ofLoop ho18 (fun s R' B' => ghosts prog 0 (A R' B') (aM.at_ 118 0 3) = some (A [(0, rS a0), (1, .d (.int .u8 a1)), (5, .ref 112 0), (6, rI s.1)] [(112, .arr 0 9 (s.2.map PD.str))])) (fun o e R' B' => e = .exit 0 ∧ ghosts prog 0 (A R' B') (aM.at_ 118 0 8) = some (A [(5, .ref 112 0)] [(112, .arr 0 9 (o.map PD.str))])) rfl ?_ ?_))
 ·rintro ⟨s1, s2⟩ R' B' q4 hI h
  refine qS<|gS rfl hI<|sM rfl<|sM rfl<|sV (rI (a0.length : Int))<|sF h (fun h => ?_) fun h => ?_
  ·refine sN<|cT<|qK<|qS<|qB<|gS rfl rfl<|sM rfl<|sM rfl<|bE h fun x6 hx6 h => WO.byteG hx6 rfl rfl rfl rfl rfl rfl<|sM rfl<|sF h (fun h => ?_) fun h => ?_
   ·refine sN<|cT<|WC.region rfl rfl<|sM rfl<|sV (.d (.lst ([[]].map PD.str)))<|bE h fun x8 hx8 h => aR hx8 (fun _ => rfl) rfl<|sA rfl<|sN<|WC.region rfl rfl<|sM rfl<|sV (rI (rW (s1 + (1 : Int))))<|sA rfl<|sN ?_
    cases oI h
    exact ⟨rfl, rfl⟩
   refine sN<|cF<|WC.regionD rfl rfl<|sM rfl<|sM rfl<|WO.lenR rfl rfl rfl rfl rfl rfl rfl rfl rfl<|sV (rI (rW ((s2.length : Int) - (1 : Int))))<|bE h fun x10 hx10 h => WO.eltG hx10 rfl rfl rfl rfl rfl rfl rfl rfl<|bE h fun x11 hx11 h => WO.loadE hx11 rfl rfl rfl rfl rfl rfl<|sM rfl<|sM rfl<|sM rfl<|sV (rI (rW (s1 + (1 : Int)))) ?_
   refine bE h fun x12 hx12 h => WO.cutG hx12 rfl rfl rfl rfl rfl rfl rfl rfl rfl rfl<|bE h fun x13 hx13 h => WO.catG hx13 rfl rfl rfl rfl rfl<|bE h fun x15 hx15 h => WO.eltG hx15 rfl rfl rfl rfl rfl rfl rfl rfl<|bE h fun x16 hx16 h => WO.storeE (g := PD.str) (sz := 1) (p := .str x13) hx16 (fun _ => rfl) (fun _ => rfl) rfl rfl rfl rfl rfl rfl rfl rfl rfl ?_
   refine sN<|sO<|WC.region rfl rfl<|sM rfl<|sV (rI (rW (s1 + (1 : Int))))<|sA rfl<|sN ?_
   cases oI h
   exact ⟨rfl, rfl⟩
  refine sN<|cF<|qX ?_
  cases oI h
  exact ⟨nofun, rfl, rfl⟩
 intro e R' B' he hq
 obtain ⟨rfl, hI⟩ := hq
 refine qE<|gS rfl hI<|sM rfl<|sA rfl<|sN<|qR ?_
 cases oI h
 exact qD
theorem ref03_Parse_ev {a0 : (List UInt8)} {r : au × Int} (h : fi a0 = some r) : EvP prog aM ext 89 [rS a0] [] (.tup [.d (au.pd r.1), rI r.2], []) := by
 refine Ev.body rfl Tryz.func89 rfl (by kernel_rfl)<|gS rfl rfl<|sB (.ptr 32 0) 32 (.var [rS [], rS [], rS [], rS []])<|sV (r0)<|sN<|gS rfl rfl<|sM rfl<|bE h fun x1 hx1 h => cD (ref03_Split_ev hx1)<|sA rfl<|sN<|qS<|gS rfl rfl<|sM rfl<|sE (rI (x1.length : Int)) (lenMap _ _) ?_
 refine sF h (fun h => ?_) fun h => ?_
 ·refine sN<|cT<|gS rfl rfl<|sV (.d (au.pd (au.mk [] [] [] [])))<|sS 32 (.var [rS [], rS [], rS [], rS []])<|sV (rI 3)<|sN<|qR ?_
  cases oI h
  exact qD
 refine sN<|cF<|qK<|WC.regionDSeq rfl rfl<|sM rfl<|bE h fun x3 hx3 h => eG hx3 rfl<|sC rfl<|sM rfl<|bE h fun x4 hx4 h => eG hx4 rfl<|sC rfl<|sM rfl<|bE h fun x5 hx5 h => eG hx5 rfl ?_
 refine sC rfl<|sM rfl<|bE h fun x6 hx6 h => eG hx6 rfl<|sC rfl<|sV (.d (au.pd (au.mk x3 x4 x5 x6)))<|sB (.ptr 80 0) 80 (.var [rS [], rS [], rS [], rS []])<|sS 80 (.var [rS x3, rS x4, rS x5, rS x6]) ?_
 refine sN<|sO<|qS<|gS rfl rfl<|sV (.d (au.pd (au.mk x3 x4 x5 x6)))<|bE h fun x7 hx7 h => cD (fx hx7)<|sF h (fun h => ?_) fun h => ?_
 ·refine sN<|cT<|gS rfl rfl<|sV (.d (au.pd (au.mk [] [] [] [])))<|sS 32 (.var [rS [], rS [], rS [], rS []])<|sV (rI 3)<|sN<|qR ?_
  cases oI h
  exact qD
 refine sN<|cF<|qK<|gS rfl rfl<|sV (.d (au.pd (au.mk x3 x4 x5 x6)))<|sS 32 (.var [rS x3, rS x4, rS x5, rS x6])<|sV (r0)<|sN<|qR ?_
 cases oI h
 exact qD
theorem iY {d0 : aV} {r : ah × aV} (h : d9 d0 = some r) : EvP prog aM ext 53 [.ptr 0 0] [.var [.d (.lst (d0.fL.map PD.str))]] (.d (ah.pd r.1), [.var [.d (.lst (r.2.fL.map PD.str))]]) := by
 refine Ev.body rfl Tryz.func53 rfl (by kernel_rfl)<|gS rfl rfl<|sB (.ptr 32 0) 32 (.var zZ7)<|sN<|gS rfl rfl<|sB (.ptr 48 0) 48 (.var zZ7)<|sN<|gS rfl rfl<|sM rfl<|bE h fun x1 hx1 h => cR (rS x1.1) [(0, .var [.d (.lst (x1.2.fL.map PD.str))])] (iZ hx1)<|bE h fun x2 hx2 h => cR (.tup [.d (au.pd x2.1), rI x2.2]) [] (ref03_Parse_ev hx2)<|sM rfl<|sV (.d (au.pd x2.1)) ?_
 refine sV (rI x2.2)<|sV (.ptr 48 0)<|sS 48 (.var [rS x2.1.aB, rS x2.1.aD, rS x2.1.ac, rS x2.1.aC, r0, r0, r0, r0, r0])<|sN<|gS rfl rfl<|sM rfl<|bE h fun x3 hx3 h => cR (rI x3.1) [(0, .var [.d (.lst (x3.2.fL.map PD.str))])] (bh hx3)<|sV (.ptr 48 4)<|sS 48 (.var [rS x2.1.aB, rS x2.1.aD, rS x2.1.ac, rS x2.1.aC, rI x3.1, r0, r0, r0, r0])<|sN<|gS rfl rfl<|sM rfl<|bE h fun x4 hx4 h => cR (rI x4.1) [(0, .var [.d (.lst (x4.2.fL.map PD.str))])] (bh hx4) ?_
 refine sV (.ptr 48 5)<|sS 48 (.var [rS x2.1.aB, rS x2.1.aD, rS x2.1.ac, rS x2.1.aC, rI x3.1, rI x4.1, r0, r0, r0])<|sN<|gS rfl rfl<|sM rfl<|bE h fun x5 hx5 h => cR (rI x5.1) [(0, .var [.d (.lst (x5.2.fL.map PD.str))])] (bh hx5)<|sV (.ptr 48 6)<|sS 48 (.var [rS x2.1.aB, rS x2.1.aD, rS x2.1.ac, rS x2.1.aC, rI x3.1, rI x4.1, rI x5.1, r0, r0])<|sN<|gS rfl rfl<|sM rfl<|bE h fun x6 hx6 h => cR (rI x6.1) [(0, .var [.d (.lst (x6.2.fL.map PD.str))])] (bh hx6)<|sV (.ptr 48 7) ?_
 refine sS 48 (.var [rS x2.1.aB, rS x2.1.aD, rS x2.1.ac, rS x2.1.aC, rI x3.1, rI x4.1, rI x5.1, rI x6.1, r0])<|sN<|gS rfl rfl<|sM rfl<|bE h fun x7 hx7 h => cR (rI x7.1) [(0, .var [.d (.lst (x7.2.fL.map PD.str))])] (bh hx7)<|sV (.ptr 48 8)<|sS 48 (.var [rS x2.1.aB, rS x2.1.aD, rS x2.1.ac, rS x2.1.aC, rI x3.1, rI x4.1, rI x5.1, rI x6.1, rI x7.1])<|sN<|gS rfl rfl<|sV (.d (ah.pd (ah.mk x2.1 x3.1 x4.1 x5.1 x6.1 x7.1)))<|sH 32 (.var [rS x2.1.aB, rS x2.1.aD, rS x2.1.ac, rS x2.1.aC, rI x3.1, rI x4.1, rI x5.1, rI x6.1, rI x7.1])<|sN<|qR ?_
 cases oI h
 exact qG
theorem gm {d0 : aV} {r : ak × aV} (h : dx d0 = some r) : EvP prog aM ext 54 [.ptr 0 0] [.var [.d (.lst (d0.fL.map PD.str))]] (.d (ak.pd r.1), [.var [.d (.lst (r.2.fL.map PD.str))]]) := by
 refine Ev.body rfl Tryz.func54 rfl (by kernel_rfl)<|gS rfl rfl<|sB (.ptr 32 0) 32 (.var [r0, r0, r0])<|sN<|gS rfl rfl<|sB (.ptr 48 0) 48 (.var [r0, r0, r0])<|sN<|gS rfl rfl<|sM rfl<|bE h fun x1 hx1 h => cR (rI x1.1) [(0, .var [.d (.lst (x1.2.fL.map PD.str))])] (bh hx1)<|sV (.ptr 48 0)<|sS 48 (.var [rI x1.1, r0, r0])<|sN<|gS rfl rfl ?_
 refine sM rfl<|bE h fun x2 hx2 h => cR (rI x2.1) [(0, .var [.d (.lst (x2.2.fL.map PD.str))])] (bh hx2)<|sV (.ptr 48 1)<|sS 48 (.var [rI x1.1, rI x2.1, r0])<|sN<|gS rfl rfl<|sM rfl<|bE h fun x3 hx3 h => cR (rI x3.1) [(0, .var [.d (.lst (x3.2.fL.map PD.str))])] (bh hx3)<|sV (.ptr 48 2)<|sS 48 (.var [rI x1.1, rI x2.1, rI x3.1])<|sN<|gS rfl rfl<|sV (.d (ak.pd (ak.mk x1.1 x2.1 x3.1))) ?_
 refine sS 32 (.var [rI x1.1, rI x2.1, rI x3.1])<|sN<|qR ?_
 cases oI h
 exact qD
theorem ref37_Validq_ev {cJ : Int} {ct : Int} {cu : Int} {cN : Int} {cE : Int} {cL : (List UInt8)} {cM : (List UInt8)} {cO : (List UInt8)} {cP : (List UInt8)} {cQ : Int} {bY : Int} {bZ : Int} {b6 : Int} {b9 : Int} {bz : Int} {bD : Int} {bF : Int} {bG : Int} {bH : Int} {bI : Int} {bJ : Int} {bK : Int} {bL : Int} {bM : Int} {bN : Int} {bO : Int} {bT : Int} {bU : Int} {bV : Int} {d0 : (List ah)} {r : Bool × (List ah)} (h : gH cJ ct cu cN cE cL cM cO cP cQ bY bZ b6 b9 bz bD bF bG bH bI bJ bK bL bM bN bO bT bU bV d0 = some r) : EvP prog aM ext 17 [.agg [rI cJ, rI ct, rI cu, rI cN, rI cE, rS cL, rS cM, rS cO, rS cP, rI cQ, rI bY, rI bZ, rI b6, rI b9, .ref 0 0, rI bz, rI bD, rI bF, rI bG, rI bH, rI bI, rI bJ, rI bK, rI bL, rI bM, rI bN, rI bO, rI bT, rI bU, rI bV]] [.arr 0 25 (d0.map ah.pd)] (rB r.1, [.arr 0 25 (r.2.map ah.pd)]) := by
 refine Ev.body rfl Tryz.func17 rfl (by kernel_rfl)<|gS rfl rfl<|sB (.ptr 16 0) 16 (.var [rI cJ, rI ct, rI cu, rI cN, rI cE, rS cL, rS cM, rS cO, rS cP, rI cQ, rI bY, rI bZ, rI b6, rI b9, .ref 0 0, rI bz, rI bD, rI bF, rI bG, rI bH, rI bI, rI bJ, rI bK, rI bL, rI bM, rI bN, rI bO, rI bT, rI bU, rI bV])<|sU<|sN<|qS<|gS rfl rfl<|sV (.ptr 16 0)<|sL rfl<|sF h (fun h => ?_) fun h => ?_
 ·refine sM rfl<|k3<|sT<|sM rfl<|k3<|sT<|sM rfl<|k3<|sT ?_
  refine sM rfl<|k3<|sT<|sM rfl<|k3<|sK<|sK<|sT<|sM rfl<|sK<|sK ?_
  refine k3<|k3<|sK<|sT<|sM rfl<|k3<|sT<|sM rfl<|sK ?_
  refine sK<|sK<|sT<|sN<|cT<|gS rfl rfl<|sU<|sN<|qR ?_
  cases oI h
  exact qG
 refine sM rfl<|sV (.ptr 16 0)<|sL rfl<|sV (rB (decide (cJ ≥ (1000 : Int))))<|sF h (fun h => ?_) fun h => ?_
 ·refine sM rfl<|k3<|sT<|sM rfl<|k3<|sT<|sM rfl<|k3<|sT ?_
  refine sM rfl<|k3<|sK<|sK<|sT<|sM rfl<|k3<|k3<|sK ?_
  refine sK<|sK<|sT<|sM rfl<|k3<|sT<|sM rfl<|k3<|sT<|sN<|cT ?_
  refine gS rfl rfl<|sU<|sN<|qR ?_
  cases oI h
  exact qG
 refine sM rfl<|sV (.ptr 16 1)<|sL rfl<|sV (rB (decide (ct < (1 : Int))))<|sF h (fun h => ?_) fun h => ?_
 ·refine sM rfl<|k3<|sT<|sM rfl<|k3<|sT<|sM rfl<|k3<|sK ?_
  refine sK<|sT<|sM rfl<|k3<|k3<|k3<|sT<|sM rfl<|sK ?_
  refine sK<|sK<|sT<|sM rfl<|k3<|sT<|sN<|cT<|gS rfl rfl<|sU<|sN<|qR ?_
  cases oI h
  exact qG
 refine sM rfl<|sV (.ptr 16 1)<|sL rfl<|sV (rB (decide (ct > (3 : Int))))<|sF h (fun h => ?_) fun h => ?_
 ·refine sM rfl<|k3<|sT<|sM rfl<|k3<|sK<|sK<|sT<|sM rfl<|sK<|sK ?_
  refine k3<|k3<|sK<|sT<|sM rfl<|k3<|sT<|sM rfl<|sK ?_
  refine sK<|sK<|sT<|sN<|cT<|gS rfl rfl<|sU<|sN<|qR ?_
  cases oI h
  exact qG
 refine sM rfl<|sV (.ptr 16 2)<|sL rfl<|sV (rB (decide (cu < (0 : Int))))<|sF h (fun h => ?_) fun h => ?_
 ·refine sM rfl<|k3<|sK<|sK<|sT<|sM rfl<|k3<|k3<|sK ?_
  refine sK<|sK<|sT<|sM rfl<|k3<|sT<|sM rfl<|k3<|sT<|sN<|cT ?_
  refine gS rfl rfl<|sU<|sN<|qR ?_
  cases oI h
  exact qG
 refine sM rfl<|sV (.ptr 16 2)<|sL rfl<|sV (.ptr 16 0)<|sL rfl<|sV (rB (decide (cu > cJ)))<|sF h (fun h => ?_) fun h => ?_
 ·refine sM rfl<|k3<|k3<|k3<|sT<|sM rfl<|sK<|sK<|sK ?_
  refine sT<|sM rfl<|k3<|sT<|sN<|cT<|gS rfl rfl<|sU<|sN<|qR ?_
  cases oI h
  exact qG
 refine sM rfl<|sV (.ptr 16 2)<|sL rfl<|sV (.ptr 16 0)<|sL rfl<|sV (rB (cu == cJ))<|sV (.ptr 16 1)<|sL rfl<|sV (rB (ct == (1 : Int)))<|sV (rB (!((cu == cJ) == (ct == (1 : Int)))))<|sF h (fun h => ?_) fun h => ?_
 ·refine sM rfl<|k3<|sT<|sM rfl<|k3<|sT<|sN<|cT<|gS rfl rfl<|sU<|sN ?_
  refine qR ?_
  cases oI h
  exact qG
 refine sM rfl<|sV (.ptr 16 4)<|sL rfl<|sV (rB (decide (cE < (0 : Int))))<|sF h (fun h => ?_) fun h => ?_
 ·refine sM rfl<|k3<|sT<|sN<|cT<|gS rfl rfl<|sU<|sN<|qR ?_
  cases oI h
  exact qG
 refine sM rfl<|sV (.ptr 16 4)<|sL rfl<|sV (rB (decide (cE > (8 : Int))))<|sF h (fun h => ?_) fun h => ?_
 ·refine sN<|cT<|gS rfl rfl<|sU<|sN<|qR ?_
  cases oI h
  exact qG
 refine sN<|cF<|qK<|gS rfl rfl<|sV (.ptr 16 5)<|sV (.ptr 16 14)<|sV (.agg [.ref 0 0, rI bz, rI bD, rI bF, rI bG, rI bH, rI bI, rI bJ, rI bK, rI bL, rI bM, rI bN, rI bO, rI bT, rI bU, rI bV])<|sB (.ptr 48 0) 48 (.var zZ2)<|sH 48 (.var [.ref 0 0, rI bz, rI bD, rI bF, rI bG, rI bH, rI bI, rI bJ, rI bK, rI bL, rI bM, rI bN, rI bO, rI bT, rI bU, rI bV])<|sN<|qS<|gS rfl rfl<|sV (r0)<|sN<|bE h fun o19 ho19 h => ?_
 refine WC.block (WC.loop (WL.ofLoop ho19 (fun s R' B' => ghosts prog 1 (A R' B') (aM.at_ 17 1 5) = some (A [(1, .ptr 16 0), (3, .ptr 48 0), (4, rI s)] [(0, .arr 0 25 (d0.map ah.pd)), (16, .var [rI cJ, rI ct, rI cu, rI cN, rI cE, rS cL, rS cM, rS cO, rS cP, rI cQ, rI bY, rI bZ, rI b6, rI b9, .ref 0 0, rI bz, rI bD, rI bF, rI bG, rI bH, rI bI, rI bJ, rI bK, rI bL, rI bM, rI bN, rI bO, rI bT, rI bU, rI bV]), (48, .var [.ref 0 0, rI bz, rI bD, rI bF, rI bG, rI bH, rI bI, rI bJ, rI bK, rI bL, rI bM, rI bN, rI bO, rI bT, rI bU, rI bV])])) (fun o e R' B' => match o with | .inl y => e = .exit 0 ∧ ghosts prog 1 (A R' B') (aM.at_ 17 1 9) = some (A [(1, .ptr 16 0), (3, .ptr 48 0)] [(0, .arr 0 25 (d0.map ah.pd)), (16, .var [rI cJ, rI ct, rI cu, rI cN, rI cE, rS cL, rS cM, rS cO, rS cP, rI cQ, rI bY, rI bZ, rI b6, rI b9, .ref 0 0, rI bz, rI bD, rI bF, rI bG, rI bH, rI bI, rI bJ, rI bK, rI bL, rI bM, rI bN, rI bO, rI bT, rI bU, rI bV]), (48, .var [.ref 0 0, rI bz, rI bD, rI bF, rI bG, rI bH, rI bI, rI bJ, rI bK, rI bL, rI bM, rI bN, rI bO, rI bT, rI bU, rI bV])]) | .inr r => e = .ret ∧ finish prog (aM.own 17) Tryz.f17 1 (A R' B') = some (rB r.1, [.arr 0 25 (r.2.map ah.pd)])) rfl ?_ ?_))
 ·rintro s10 R' B' q11 hI h
  refine qS<|gS rfl hI<|sM rfl<|sV (.ptr 48 0)<|sL rfl<|WO.lenR rfl rfl rfl rfl rfl rfl rfl rfl rfl<|sF h (fun h => ?_) fun h => ?_
  ·refine sN<|cT<|qK<|qS<|qB<|gS rfl rfl<|sV (.ptr 48 0)<|sL rfl<|sM rfl<|bE h fun x14 hx14 h => WO.eltG hx14 rfl rfl rfl rfl rfl rfl rfl rfl<|bE h fun x15 hx15 h => WO.loadE hx15 rfl rfl rfl rfl rfl rfl<|bE h fun x16 hx16 h => cD (cG hx16) ?_
   refine sF h (fun h => ?_) fun h => ?_
   ·refine sN<|cT<|gS rfl rfl<|sU<|sN<|qR ?_
    cases oI h
    exact ⟨nofun, rfl, rfl⟩
   refine sN<|cF<|qK<|WC.region rfl rfl<|sM rfl<|sV (rI (rW (s10 + (1 : Int))))<|sA rfl<|sN ?_
   cases oI h
   exact ⟨rfl, rfl⟩
  refine sN<|cF<|qX ?_
  cases oI h
  exact ⟨nofun, rfl, rfl⟩
 intro e R' B' he hq
 rcases o19 with y20 | r21
 ·obtain ⟨rfl, hI⟩ := hq
  refine qE<|gS rfl hI<|sV (.ptr 48 1)<|sV (.d (aK.pd (aK.mk (ak.mk bz bD bF) bG bH bI (aZ.mk (ak.mk bJ bK bL) (ak.mk bM bN bO)))))<|sB (.ptr 80 0) 80 (.var zZ5)<|sH 80 (.var [rI bz, rI bD, rI bF, rI bG, rI bH, rI bI, rI bJ, rI bK, rI bL, rI bM, rI bN, rI bO])<|sN<|gS rfl rfl<|sV (.ptr 16 5)<|sV (.ptr 16 5)<|sV (.d (ah.pd (ah.mk (au.mk cL cM cO cP) cQ bY bZ b6 b9)))<|bE h fun x22 hx22 h => ite_elim h (fun hb23 h => ?_) (fun hb23 h => ?_)
  ·refine WO.callR (v := rB true) (u := []) rfl rfl (fun _ => rfl) rfl rfl rfl rfl rfl (cG hx22) rfl rfl (congrArg (fun b => RV.d (.bool b)) hb23) rfl<|sM rfl<|sV (.ptr 48 0)<|sL rfl<|WO.lenR rfl rfl rfl rfl rfl rfl rfl rfl rfl<|sV (rB (decide ((d0.length : Int) ≤ (64 : Int))))<|sF h (fun h => ?_) fun h => ?_
   ·refine sM rfl<|sV (.ptr 16 3)<|sL rfl<|sV (.ptr 80 0)<|sV (.ptr 80 0)<|sL rfl<|sV (.ptr 80 0)<|sV (.ptr 80 1)<|sL rfl<|sV (.ptr 80 0)<|sV (.ptr 80 2)<|sL rfl<|sV (.ptr 80 3)<|sL rfl<|sV (.ptr 80 4) ?_
    refine sL rfl<|sV (.ptr 80 5)<|sL rfl<|sV (.ptr 80 6)<|sV (.ptr 80 6)<|sV (.ptr 80 6)<|sL rfl<|sV (.ptr 80 6)<|sV (.ptr 80 6)<|sV (.ptr 80 7)<|sL rfl<|sV (.ptr 80 6)<|sV (.ptr 80 6)<|sV (.ptr 80 8)<|sL rfl ?_
    refine sV (.ptr 80 6)<|sV (.ptr 80 9)<|sV (.ptr 80 9)<|sL rfl<|sV (.ptr 80 6)<|sV (.ptr 80 9)<|sV (.ptr 80 10)<|sL rfl<|sV (.ptr 80 6)<|sV (.ptr 80 9)<|sV (.ptr 80 11)<|sL rfl<|sV (.ptr 48 13)<|sV (.ptr 48 13)<|sL rfl ?_
    refine sV (.ptr 48 13)<|sV (.ptr 48 14)<|sL rfl<|sV (.ptr 48 15)<|sL rfl<|sG (.d (.lst ([cN, bz, bD, bF, bG, bH, bI, bJ, bK, bL, bM, bN, bO, bT, bU, bV].map (PD.int .i64))))<|bE h fun x25 hx25 h => cD (jc hx25)<|sV (rB x25)<|sA rfl<|sN<|qR ?_
    cases oI h
    exact qG
   refine sM rfl<|k3<|k3<|k3<|k3<|sK<|sK ?_
   refine k3<|k3<|k3<|k3<|sK<|sK<|sK ?_
   refine k3<|k3<|k3<|k3<|sK<|sK<|sK ?_
   refine k3<|k3<|sK<|sU<|sA rfl<|sN<|qR ?_
   cases oI h
   exact qG
  refine WO.callR (v := rB false) (u := []) rfl rfl (fun _ => rfl) rfl rfl rfl rfl rfl (cG hx22) rfl rfl (congrArg (fun b => RV.d (.bool b)) hb23) rfl<|sM rfl<|k3<|sK<|sU<|sM rfl<|k3<|k3<|sK ?_
  refine k3<|k3<|k3<|k3<|sK<|sK<|sK ?_
  refine k3<|k3<|k3<|k3<|sK<|sK<|sK ?_
  refine k3<|k3<|k3<|k3<|sK<|sK<|sU ?_
  refine sA rfl<|sN<|qR ?_
  cases oI h
  exact qG
 obtain ⟨rfl, hf⟩ := hq
 cases oI h
 exact hf
theorem ref37_wordsq_ev {cJ : Int} {ct : Int} {cu : Int} {cN : Int} {cE : Int} {cL : (List UInt8)} {cM : (List UInt8)} {cO : (List UInt8)} {cP : (List UInt8)} {cQ : Int} {bY : Int} {bZ : Int} {b6 : Int} {b9 : Int} {bz : Int} {bD : Int} {bF : Int} {bG : Int} {bH : Int} {bI : Int} {bJ : Int} {bK : Int} {bL : Int} {bM : Int} {bN : Int} {bO : Int} {bT : Int} {bU : Int} {bV : Int} {d0 : (List ah)} {r : (List (List UInt8)) × (List ah)} (h : gI cJ ct cu cN cE cL cM cO cP cQ bY bZ b6 b9 bz bD bF bG bH bI bJ bK bL bM bN bO bT bU bV d0 = some r) : EvP prog aM ext 40 [.agg [rI cJ, rI ct, rI cu, rI cN, rI cE, rS cL, rS cM, rS cO, rS cP, rI cQ, rI bY, rI bZ, rI b6, rI b9, .ref 0 0, rI bz, rI bD, rI bF, rI bG, rI bH, rI bI, rI bJ, rI bK, rI bL, rI bM, rI bN, rI bO, rI bT, rI bU, rI bV]] [.arr 0 25 (d0.map ah.pd)] (.d (.lst (r.1.map PD.str)), [.arr 0 25 (r.2.map ah.pd)]) := by
 refine Ev.body rfl Tryz.func40 rfl (by kernel_rfl)<|gS rfl rfl<|sB (.ptr 16 0) 16 (.var [rI cJ, rI ct, rI cu, rI cN, rI cE, rS cL, rS cM, rS cO, rS cP, rI cQ, rI bY, rI bZ, rI b6, rI b9, .ref 0 0, rI bz, rI bD, rI bF, rI bG, rI bH, rI bI, rI bJ, rI bK, rI bL, rI bM, rI bN, rI bO, rI bT, rI bU, rI bV])<|sV .nils<|sN<|gS rfl rfl<|sV (.ptr 16 5)<|sV (.ptr 16 14)<|sV (.agg [.ref 0 0, rI bz, rI bD, rI bF, rI bG, rI bH, rI bI, rI bJ, rI bK, rI bL, rI bM, rI bN, rI bO, rI bT, rI bU, rI bV])<|sB (.ptr 48 0) 48 (.var zZ2)<|sH 48 (.var [.ref 0 0, rI bz, rI bD, rI bF, rI bG, rI bH, rI bI, rI bJ, rI bK, rI bL, rI bM, rI bN, rI bO, rI bT, rI bU, rI bV])<|sN<|gS rfl rfl<|sV (.ptr 48 1)<|sV (.d (aK.pd (aK.mk (ak.mk bz bD bF) bG bH bI (aZ.mk (ak.mk bJ bK bL) (ak.mk bM bN bO))))) ?_
 refine sB (.ptr 64 0) 64 (.var zZ5)<|sH 64 (.var [rI bz, rI bD, rI bF, rI bG, rI bH, rI bI, rI bJ, rI bK, rI bL, rI bM, rI bN, rI bO])<|sN<|gS rfl rfl<|sV (.ptr 16 0)<|sL rfl<|sV (.ptr 16 1)<|sL rfl<|sV (.ptr 16 2)<|sL rfl<|sV (.ptr 16 3)<|sL rfl<|sV (.ptr 16 4)<|sL rfl<|sV (.d (.lst ([cJ, ct, cu, cN, cE].map (PD.int .i64)))) ?_
 refine bE h fun x1 hx1 h => cR (.ref 368 0) [(368, .arr 0 9 (x1.map PD.str))] (ch hx1)<|sA rfl<|sN<|WC.regionDSeq rfl rfl<|sM rfl<|sV (.ptr 16 5)<|sV (.ptr 16 5)<|sV (.d (ah.pd (ah.mk (au.mk cL cM cO cP) cQ bY bZ b6 b9)))<|bE h fun x2 hx2 h => cD (gb hx2)<|bE h fun x3 hx3 h => aR hx3 (fun _ => rfl) rfl<|sV (.ptr 48 0)<|sL rfl ?_
 refine WO.lenR rfl rfl rfl rfl rfl rfl rfl rfl rfl<|bE h fun x4 hx4 h => cD (fT hx4)<|sV (.d (.lst ([x4].map PD.str)))<|bE h fun x5 hx5 h => aR hx5 (fun _ => rfl) rfl<|sA rfl ?_
 refine sN<|sO<|qS<|gS rfl rfl<|sV (r0)<|sN<|bE h fun o17 ho17 h => WC.block (WC.loop (WL.ofLoop ho17 (fun s R' B' => ghosts prog 1 (A R' B') (aM.at_ 40 1 6) = some (A [(3, .ptr 48 0), (4, .ptr 64 0), (5, .ref 368 0), (6, rI s.1)] [(0, .arr 0 25 (d0.map ah.pd)), (48, .var [.ref 0 0, rI bz, rI bD, rI bF, rI bG, rI bH, rI bI, rI bJ, rI bK, rI bL, rI bM, rI bN, rI bO, rI bT, rI bU, rI bV]), (64, .var [rI bz, rI bD, rI bF, rI bG, rI bH, rI bI, rI bJ, rI bK, rI bL, rI bM, rI bN, rI bO]), (368, .arr 0 9 (s.2.map PD.str))])) (fun o e R' B' => e = .exit 0 ∧ ghosts prog 1 (A R' B') (aM.at_ 40 1 9) = some (A [(3, .ptr 48 0), (4, .ptr 64 0), (5, .ref 368 0)] [(0, .arr 0 25 (d0.map ah.pd)), (48, .var [.ref 0 0, rI bz, rI bD, rI bF, rI bG, rI bH, rI bI, rI bJ, rI bK, rI bL, rI bM, rI bN, rI bO, rI bT, rI bU, rI bV]), (64, .var [rI bz, rI bD, rI bF, rI bG, rI bH, rI bI, rI bJ, rI bK, rI bL, rI bM, rI bN, rI bO]), (368, .arr 0 9 (o.map PD.str))])) rfl ?_ ?_))
 ·rintro ⟨s6, s7⟩ R' B' q9 hI h
  refine qS<|gS rfl hI<|sM rfl<|sV (.ptr 48 0)<|sL rfl<|WO.lenR rfl rfl rfl rfl rfl rfl rfl rfl rfl<|sF h (fun h => ?_) fun h => ?_
  ·refine sN<|cT<|qK<|qS<|qB<|WC.region rfl rfl<|sM rfl<|sV (.ptr 48 0)<|sL rfl<|sM rfl<|bE h fun x12 hx12 h => WO.eltG hx12 rfl rfl rfl rfl rfl rfl rfl rfl<|bE h fun x13 hx13 h => WO.loadE hx13 rfl rfl rfl rfl rfl rfl<|bE h fun x14 hx14 h => ?_
   refine cD (gb hx14)<|bE h fun x15 hx15 h => aR hx15 (fun _ => rfl) rfl<|sA rfl<|sN<|WC.region rfl rfl<|sM rfl<|sV (rI (rW (s6 + (1 : Int))))<|sA rfl<|sN ?_
   cases oI h
   exact ⟨rfl, rfl⟩
  refine sN<|cF<|qX ?_
  cases oI h
  exact ⟨nofun, rfl, rfl⟩
 intro e R' B' he hq
 obtain ⟨rfl, hI⟩ := hq
 refine qE<|gS rfl hI<|sM rfl<|sV (.ptr 64 0)<|sV (.ptr 64 0)<|sL rfl<|sV (.ptr 64 0)<|sV (.ptr 64 1)<|sL rfl<|sV (.ptr 64 0)<|sV (.ptr 64 2)<|sL rfl<|sV (.ptr 64 3)<|sL rfl<|sV (.ptr 64 4) ?_
 refine sL rfl<|sV (.ptr 64 5)<|sL rfl<|sV (.d (.lst ([bz, bD, bF, bG, bH, bI].map (PD.int .i64))))<|bE h fun x18 hx18 h => cR (.ref 1088 0) [(1088, .arr 0 9 (x18.map PD.str))] (ch hx18)<|bE h fun x19 hx19 h => WO.appRG hx19 (fun _ => rfl) rfl rfl rfl rfl rfl rfl rfl rfl rfl rfl rfl rfl rfl rfl rfl<|sA rfl<|sN<|gS rfl rfl<|sM rfl<|sV (.ptr 64 6)<|sV (.ptr 64 6)<|sV (.ptr 64 6) ?_
 refine sL rfl<|sV (.ptr 64 6)<|sV (.ptr 64 6)<|sV (.ptr 64 7)<|sL rfl<|sV (.ptr 64 6)<|sV (.ptr 64 6)<|sV (.ptr 64 8)<|sL rfl<|sV (.ptr 64 6)<|sV (.ptr 64 9)<|sV (.ptr 64 9)<|sL rfl<|sV (.ptr 64 6)<|sV (.ptr 64 9) ?_
 refine sV (.ptr 64 10)<|sL rfl<|sV (.ptr 64 6)<|sV (.ptr 64 9)<|sV (.ptr 64 11)<|sL rfl<|sV (.d (.lst ([bJ, bK, bL, bM, bN, bO].map (PD.int .i64))))<|bE h fun x20 hx20 h => cR (.ref 1536 0) [(1536, .arr 0 9 (x20.map PD.str))] (ch hx20)<|bE h fun x21 hx21 h => WO.appRG hx21 (fun _ => rfl) rfl rfl rfl rfl rfl rfl rfl rfl rfl rfl rfl rfl rfl rfl rfl<|sA rfl<|sN<|gS rfl rfl<|sM rfl ?_
 refine sV (.ptr 48 13)<|sV (.ptr 48 13)<|sL rfl<|sV (.ptr 48 13)<|sV (.ptr 48 14)<|sL rfl<|sV (.ptr 48 15)<|sL rfl<|sV (.d (.lst ([bT, bU, bV].map (PD.int .i64))))<|bE h fun x22 hx22 h => cR (.ref 1728 0) [(1728, .arr 0 9 (x22.map PD.str))] (ch hx22)<|bE h fun x23 hx23 h => WO.appRG hx23 (fun _ => rfl) rfl rfl rfl rfl rfl rfl rfl rfl rfl rfl rfl rfl rfl rfl rfl<|sA rfl<|sN ?_
 refine qR ?_
 cases oI h
 exact qG
theorem ref37_Encodeq_ev {cJ : Int} {ct : Int} {cu : Int} {cN : Int} {cE : Int} {cL : (List UInt8)} {cM : (List UInt8)} {cO : (List UInt8)} {cP : (List UInt8)} {cQ : Int} {bY : Int} {bZ : Int} {b6 : Int} {b9 : Int} {bz : Int} {bD : Int} {bF : Int} {bG : Int} {bH : Int} {bI : Int} {bJ : Int} {bK : Int} {bL : Int} {bM : Int} {bN : Int} {bO : Int} {bT : Int} {bU : Int} {bV : Int} {d0 : (List ah)} {r : (List UInt8) × Int × (List ah)} (h : f9 cJ ct cu cN cE cL cM cO cP cQ bY bZ b6 b9 bz bD bF bG bH bI bJ bK bL bM bN bO bT bU bV d0 = some r) : EvP prog aM ext 15 [.agg [rI cJ, rI ct, rI cu, rI cN, rI cE, rS cL, rS cM, rS cO, rS cP, rI cQ, rI bY, rI bZ, rI b6, rI b9, .ref 0 0, rI bz, rI bD, rI bF, rI bG, rI bH, rI bI, rI bJ, rI bK, rI bL, rI bM, rI bN, rI bO, rI bT, rI bU, rI bV]] [.arr 0 25 (d0.map ah.pd)] (.tup [rS r.1, rI r.2.1], [.arr 0 25 (r.2.2.map ah.pd)]) := by
 refine Ev.body rfl Tryz.func15 rfl (by kernel_rfl)<|gS rfl rfl<|sB (.ptr 16 0) 16 (.var [rI cJ, rI ct, rI cu, rI cN, rI cE, rS cL, rS cM, rS cO, rS cP, rI cQ, rI bY, rI bZ, rI b6, rI b9, .ref 0 0, rI bz, rI bD, rI bF, rI bG, rI bH, rI bI, rI bJ, rI bK, rI bL, rI bM, rI bN, rI bO, rI bT, rI bU, rI bV])<|sV (rS [])<|sV (r0)<|sN<|qS<|gS rfl rfl<|sV (.agg [rI cJ, rI ct, rI cu, rI cN, rI cE, rS cL, rS cM, rS cO, rS cP, rI cQ, rI bY, rI bZ, rI b6, rI b9, .ref 0 0, rI bz, rI bD, rI bF, rI bG, rI bH, rI bI, rI bJ, rI bK, rI bL, rI bM, rI bN, rI bO, rI bT, rI bU, rI bV])<|bE h fun x1 hx1 h => cR (rB x1.1) [(0, .arr 0 25 (x1.2.map ah.pd))] (ref37_Validq_ev hx1)<|sF h (fun h => ?_) fun h => ?_
 ·refine sN<|cT<|gS rfl rfl<|sV (rS [])<|sV (rI 1)<|sN<|qR ?_
  cases oI h
  exact qG
 refine sN<|cF<|qK<|gS rfl rfl<|sV (rS [])<|sN<|qS<|gS rfl rfl<|sV (.agg [rI cJ, rI ct, rI cu, rI cN, rI cE, rS cL, rS cM, rS cO, rS cP, rI cQ, rI bY, rI bZ, rI b6, rI b9, .ref 0 0, rI bz, rI bD, rI bF, rI bG, rI bH, rI bI, rI bJ, rI bK, rI bL, rI bM, rI bN, rI bO, rI bT, rI bU, rI bV])<|bE h fun x3 hx3 h => cR (.d (.lst (x3.1.map PD.str))) [(0, .arr 0 25 (x3.2.map ah.pd))] (ref37_wordsq_ev hx3)<|sE (rI (x3.1.length : Int)) (lenMap _ _)<|sV (r0)<|sN<|bE h fun o15 ho15 h => ?_
 refine WC.block (WC.loop (WL.ofLoop ho15 (fun s R' B' => ghosts prog 1 (A R' B') (aM.at_ 15 1 5) = some (A [(4, rS s.1), (11, .d (.lst (x3.1.map PD.str))), (12, rI (x3.1.length : Int)), (13, rI s.2)] [(0, .arr 0 25 (x3.2.map ah.pd))])) (fun o e R' B' => e = .exit 0 ∧ ghosts prog 1 (A R' B') (aM.at_ 15 1 11) = some (A [(4, rS o)] [(0, .arr 0 25 (x3.2.map ah.pd))])) rfl ?_ ?_))
 ·rintro ⟨s4, s5⟩ R' B' q7 hI h
  refine gS rfl hI<|sF h (fun h => ?_) fun h => ?_
  ·refine sN<|qS<|cT<|qK<|qS<|qB<|gS rfl rfl<|sM rfl<|bE h fun x9 hx9 h => eG hx9 rfl<|sC rfl<|sA rfl<|sA rfl<|sN<|qS ?_
   refine gS rfl rfl<|sM rfl<|sF h (fun h => ?_) fun h => ?_
   ·refine sN<|cT<|WC.region rfl rfl<|sM rfl<|bE h fun x11 hx11 h => WO.catG hx11 rfl rfl rfl rfl rfl<|sA rfl<|sN<|WC.region rfl rfl<|sM rfl<|sM rfl<|bE h fun x12 hx12 h => WO.catG hx12 rfl rfl rfl rfl rfl<|sA rfl<|sN ?_
    refine WC.region rfl rfl<|sV (rI (rW (s5 + (1 : Int))))<|sM rfl<|sN ?_
    cases oI h
    exact ⟨rfl, rfl⟩
   refine sN<|cF<|qK<|WC.region rfl rfl<|sM rfl<|sM rfl<|bE h fun x13 hx13 h => WO.catG hx13 rfl rfl rfl rfl rfl<|sA rfl<|sN<|WC.region rfl rfl<|sV (rI (rW (s5 + (1 : Int))))<|sM rfl<|sN ?_
   cases oI h
   exact ⟨rfl, rfl⟩
  refine sN<|qS<|cF<|qX ?_
  cases oI h
  exact ⟨nofun, rfl, rfl⟩
 intro e R' B' he hq
 obtain ⟨rfl, hI⟩ := hq
 refine qE<|gS rfl hI<|sM rfl<|sA rfl<|sV (r0)<|sN<|qR ?_
 cases oI h
 exact qD
theorem ref37_Decode_ev {a0 : (List UInt8)} {r : ag × Int} (h : db a0 = some r) : EvP prog aM ext 20 [rS a0] [] (.tup [.d (ag.pd r.1), rI r.2], []) := by
 refine Ev.body rfl Tryz.func20 rfl (by kernel_rfl)<|gS rfl rfl<|sB (.ptr 32 0) 32 (.var zZ0)<|sV (r0)<|sN<|gS rfl rfl<|sM rfl<|bE h fun x1 hx1 h => cD (ref37_split_ev hx1)<|sV (.d (.agg [.lst (x1.map PD.str)]))<|sB (.ptr 208 0) 208 (.var [.d (.lst (x1.map PD.str))])<|sA rfl<|sN<|gS rfl rfl<|sB (.ptr 80 0) 80 (.var zZ0) ?_
 refine sN<|gS rfl rfl<|sM rfl<|bE h fun x2 hx2 h => cR (rI x2.1) [(208, .var [.d (.lst (x2.2.fL.map PD.str))])] (bh hx2)<|sV (.ptr 80 0)<|sS 80 (.var [rI x2.1, r0, r0, r0, r0, rS [], rS [], rS [], rS [], r0, r0, r0, r0, r0, .nils, r0, r0, r0, r0, r0, r0, r0, r0, r0, r0, r0, r0, r0, r0, r0])<|sN<|gS rfl rfl<|sM rfl<|bE h fun x3 hx3 h => cR (rI x3.1) [(208, .var [.d (.lst (x3.2.fL.map PD.str))])] (bh hx3)<|sV (.ptr 80 1)<|sS 80 (.var [rI x2.1, rI x3.1, r0, r0, r0, rS [], rS [], rS [], rS [], r0, r0, r0, r0, r0, .nils, r0, r0, r0, r0, r0, r0, r0, r0, r0, r0, r0, r0, r0, r0, r0])<|sN ?_
 refine gS rfl rfl<|sM rfl<|bE h fun x4 hx4 h => cR (rI x4.1) [(208, .var [.d (.lst (x4.2.fL.map PD.str))])] (bh hx4)<|sV (.ptr 80 2)<|sS 80 (.var [rI x2.1, rI x3.1, rI x4.1, r0, r0, rS [], rS [], rS [], rS [], r0, r0, r0, r0, r0, .nils, r0, r0, r0, r0, r0, r0, r0, r0, r0, r0, r0, r0, r0, r0, r0])<|sN<|gS rfl rfl<|sM rfl<|bE h fun x5 hx5 h => cR (rI x5.1) [(208, .var [.d (.lst (x5.2.fL.map PD.str))])] (bh hx5)<|sV (.ptr 80 3)<|sS 80 (.var [rI x2.1, rI x3.1, rI x4.1, rI x5.1, r0, rS [], rS [], rS [], rS [], r0, r0, r0, r0, r0, .nils, r0, r0, r0, r0, r0, r0, r0, r0, r0, r0, r0, r0, r0, r0, r0])<|sN<|gS rfl rfl ?_
 refine sM rfl<|bE h fun x6 hx6 h => cR (rI x6.1) [(208, .var [.d (.lst (x6.2.fL.map PD.str))])] (bh hx6)<|sV (.ptr 80 4)<|sS 80 (.var [rI x2.1, rI x3.1, rI x4.1, rI x5.1, rI x6.1, rS [], rS [], rS [], rS [], r0, r0, r0, r0, r0, .nils, r0, r0, r0, r0, r0, r0, r0, r0, r0, r0, r0, r0, r0, r0, r0])<|sN<|gS rfl rfl<|sM rfl<|bE h fun x7 hx7 h => cR (.d (ah.pd x7.1)) [(208, .var [.d (.lst (x7.2.fL.map PD.str))])] (iY hx7)<|sV (.ptr 80 5)<|sV (.ptr 80 5)<|sH 80 (.var [rI x2.1, rI x3.1, rI x4.1, rI x5.1, rI x6.1, rS x7.1.ai.aB, rS x7.1.ai.aD, rS x7.1.ai.ac, rS x7.1.ai.aC, rI x7.1.aF, rI x7.1.aL, rI x7.1.aP, rI x7.1.aq, rI x7.1.av, .nils, r0, r0, r0, r0, r0, r0, r0, r0, r0, r0, r0, r0, r0, r0, r0])<|sN<|qS ?_
 refine gS rfl rfl<|sM rfl<|bE h fun x8 hx8 h => cR (rI x8.1) [(208, .var [.d (.lst (x8.2.fL.map PD.str))])] (bh hx8)<|sV (rI (if (65 : Int) < x8.1 then (65 : Int) else x8.1))<|sA rfl<|sN<|bE h fun o19 ho19 h => WC.block (WC.loop (WL.ofLoop ho19 (fun s R' B' => ghosts prog 0 (A R' B') (aM.at_ 20 0 10) = some (A [(0, rS a0), (2, .ptr 32 0), (4, .ptr 208 0), (5, .ptr 80 0), (6, rI s.1)] [(32, .var zZ0), (80, .var [rI x2.1, rI x3.1, rI x4.1, rI x5.1, rI x6.1, rS x7.1.ai.aB, rS x7.1.ai.aD, rS x7.1.ai.ac, rS x7.1.ai.aC, rI x7.1.aF, rI x7.1.aL, rI x7.1.aP, rI x7.1.aq, rI x7.1.av, .ref 752 0, r0, r0, r0, r0, r0, r0, r0, r0, r0, r0, r0, r0, r0, r0, r0]), (208, .var [.d (.lst (s.2.1.map PD.str))]), (752, .arr 0 25 (s.2.2.map ah.pd))])) (fun o e R' B' => e = .exit 0 ∧ ghosts prog 0 (A R' B') (aM.at_ 20 0 13) = some (A [(0, rS a0), (2, .ptr 32 0), (4, .ptr 208 0), (5, .ptr 80 0)] [(32, .var zZ0), (80, .var [rI x2.1, rI x3.1, rI x4.1, rI x5.1, rI x6.1, rS x7.1.ai.aB, rS x7.1.ai.aD, rS x7.1.ai.ac, rS x7.1.ai.aC, rI x7.1.aF, rI x7.1.aL, rI x7.1.aP, rI x7.1.aq, rI x7.1.av, .ref 752 0, r0, r0, r0, r0, r0, r0, r0, r0, r0, r0, r0, r0, r0, r0, r0]), (208, .var [.d (.lst (o.1.map PD.str))]), (752, .arr 0 25 (o.2.map ah.pd))])) rfl ?_ ?_))
 ·rintro ⟨s9, s10, s11⟩ R' B' q14 hI h
  refine qS<|gS rfl hI<|sM rfl<|sF h (fun h => ?_) fun h => ?_
  ·refine sN<|cT<|qK<|qS<|qB<|WC.regionD rfl rfl<|sV (.ptr 80 5)<|sV (.ptr 80 14)<|sV (.ptr 80 14)<|sL rfl<|sM rfl<|bE h fun x16 hx16 h => cR (.d (ah.pd x16.1)) [(208, .var [.d (.lst (x16.2.fL.map PD.str))])] (iY hx16)<|sG (.d (.lst ([x16.1].map ah.pd)))<|bE h fun x17 hx17 h => ?_
   refine aR hx17 (fun _ => rfl) rfl<|sV (.ptr 80 5)<|sV (.ptr 80 14)<|sV (.ptr 80 14)<|sS 80 (.var [rI x2.1, rI x3.1, rI x4.1, rI x5.1, rI x6.1, rS x7.1.ai.aB, rS x7.1.ai.aD, rS x7.1.ai.ac, rS x7.1.ai.aC, rI x7.1.aF, rI x7.1.aL, rI x7.1.aP, rI x7.1.aq, rI x7.1.av, .ref 752 1, r0, r0, r0, r0, r0, r0, r0, r0, r0, r0, r0, r0, r0, r0, r0]) ?_
   refine sN<|sO<|WC.region rfl rfl<|sM rfl<|sV (rI (rW (s9 - (1 : Int))))<|sA rfl<|sN ?_
   cases oI h
   exact ⟨rfl, rfl⟩
  refine sN<|cF<|qX ?_
  cases oI h
  exact ⟨nofun, rfl, rfl⟩
 intro e R' B' he hq
 obtain ⟨rfl, hI⟩ := hq
 refine qE<|gS rfl hI<|sV (.ptr 80 5)<|sV (.ptr 80 14)<|sA rfl<|sN<|gS rfl rfl<|sM rfl<|sM rfl<|bE h fun x20 hx20 h => cR (.d (ak.pd x20.1)) [(208, .var [.d (.lst (x20.2.fL.map PD.str))])] (gm hx20)<|sV (.ptr 80 14)<|sV (.ptr 80 15)<|sV (.ptr 80 15)<|sS 80 (.var [rI x2.1, rI x3.1, rI x4.1, rI x5.1, rI x6.1, rS x7.1.ai.aB, rS x7.1.ai.aD, rS x7.1.ai.ac, rS x7.1.ai.aC, rI x7.1.aF, rI x7.1.aL, rI x7.1.aP, rI x7.1.aq, rI x7.1.av, .ref 752 0, rI x20.1.fX, rI x20.1.fY, rI x20.1.fZ, r0, r0, r0, r0, r0, r0, r0, r0, r0, r0, r0, r0]) ?_
 refine sN<|gS rfl rfl<|sM rfl<|sM rfl<|bE h fun x21 hx21 h => cR (rI x21.1) [(208, .var [.d (.lst (x21.2.fL.map PD.str))])] (bh hx21)<|sV (.ptr 80 14)<|sV (.ptr 80 15)<|sV (.ptr 80 18)<|sS 80 (.var [rI x2.1, rI x3.1, rI x4.1, rI x5.1, rI x6.1, rS x7.1.ai.aB, rS x7.1.ai.aD, rS x7.1.ai.ac, rS x7.1.ai.aC, rI x7.1.aF, rI x7.1.aL, rI x7.1.aP, rI x7.1.aq, rI x7.1.av, .ref 752 0, rI x20.1.fX, rI x20.1.fY, rI x20.1.fZ, rI x21.1, r0, r0, r0, r0, r0, r0, r0, r0, r0, r0, r0])<|sN<|gS rfl rfl<|sM rfl<|sM rfl<|bE h fun x22 hx22 h => ?_
 refine cR (rI x22.1) [(208, .var [.d (.lst (x22.2.fL.map PD.str))])] (bh hx22)<|sV (.ptr 80 14)<|sV (.ptr 80 15)<|sV (.ptr 80 19)<|sS 80 (.var [rI x2.1, rI x3.1, rI x4.1, rI x5.1, rI x6.1, rS x7.1.ai.aB, rS x7.1.ai.aD, rS x7.1.ai.ac, rS x7.1.ai.aC, rI x7.1.aF, rI x7.1.aL, rI x7.1.aP, rI x7.1.aq, rI x7.1.av, .ref 752 0, rI x20.1.fX, rI x20.1.fY, rI x20.1.fZ, rI x21.1, rI x22.1, r0, r0, r0, r0, r0, r0, r0, r0, r0, r0])<|sN<|gS rfl rfl<|sM rfl<|sM rfl<|bE h fun x23 hx23 h => cR (rI x23.1) [(208, .var [.d (.lst (x23.2.fL.map PD.str))])] (bh hx23)<|sV (.ptr 80 14)<|sV (.ptr 80 15)<|sV (.ptr 80 20)<|sS 80 (.var [rI x2.1, rI x3.1, rI x4.1, rI x5.1, rI x6.1, rS x7.1.ai.aB, rS x7.1.ai.aD, rS x7.1.ai.ac, rS x7.1.ai.aC, rI x7.1.aF, rI x7.1.aL, rI x7.1.aP, rI x7.1.aq, rI x7.1.av, .ref 752 0, rI x20.1.fX, rI x20.1.fY, rI x20.1.fZ, rI x21.1, rI x22.1, rI x23.1, r0, r0, r0, r0, r0, r0, r0, r0, r0]) ?_
 refine sN<|gS rfl rfl<|sM rfl<|sM rfl<|bE h fun x24 hx24 h => cR (.d (ak.pd x24.1)) [(208, .var [.d (.lst (x24.2.fL.map PD.str))])] (gm hx24)<|sV (.ptr 80 14)<|sV (.ptr 80 15)<|sV (.ptr 80 21)<|sV (.ptr 80 21)<|sS 80 (.var [rI x2.1, rI x3.1, rI x4.1, rI x5.1, rI x6.1, rS x7.1.ai.aB, rS x7.1.ai.aD, rS x7.1.ai.ac, rS x7.1.ai.aC, rI x7.1.aF, rI x7.1.aL, rI x7.1.aP, rI x7.1.aq, rI x7.1.av, .ref 752 0, rI x20.1.fX, rI x20.1.fY, rI x20.1.fZ, rI x21.1, rI x22.1, rI x23.1, rI x24.1.fX, rI x24.1.fY, rI x24.1.fZ, r0, r0, r0, r0, r0, r0])<|sN<|gS rfl rfl<|sM rfl<|sM rfl ?_
 refine bE h fun x25 hx25 h => cR (.d (ak.pd x25.1)) [(208, .var [.d (.lst (x25.2.fL.map PD.str))])] (gm hx25)<|sV (.ptr 80 14)<|sV (.ptr 80 15)<|sV (.ptr 80 21)<|sV (.ptr 80 24)<|sS 80 (.var [rI x2.1, rI x3.1, rI x4.1, rI x5.1, rI x6.1, rS x7.1.ai.aB, rS x7.1.ai.aD, rS x7.1.ai.ac, rS x7.1.ai.aC, rI x7.1.aF, rI x7.1.aL, rI x7.1.aP, rI x7.1.aq, rI x7.1.av, .ref 752 0, rI x20.1.fX, rI x20.1.fY, rI x20.1.fZ, rI x21.1, rI x22.1, rI x23.1, rI x24.1.fX, rI x24.1.fY, rI x24.1.fZ, rI x25.1.fX, rI x25.1.fY, rI x25.1.fZ, r0, r0, r0])<|sN<|gS rfl rfl<|sM rfl<|sM rfl<|bE h fun x26 hx26 h => cR (rI x26.1) [(208, .var [.d (.lst (x26.2.fL.map PD.str))])] (bh hx26)<|sV (.ptr 80 14)<|sV (.ptr 80 27) ?_
 refine sV (.ptr 80 27)<|sS 80 (.var [rI x2.1, rI x3.1, rI x4.1, rI x5.1, rI x6.1, rS x7.1.ai.aB, rS x7.1.ai.aD, rS x7.1.ai.ac, rS x7.1.ai.aC, rI x7.1.aF, rI x7.1.aL, rI x7.1.aP, rI x7.1.aq, rI x7.1.av, .ref 752 0, rI x20.1.fX, rI x20.1.fY, rI x20.1.fZ, rI x21.1, rI x22.1, rI x23.1, rI x24.1.fX, rI x24.1.fY, rI x24.1.fZ, rI x25.1.fX, rI x25.1.fY, rI x25.1.fZ, rI x26.1, r0, r0])<|sN<|gS rfl rfl<|sM rfl<|sM rfl<|bE h fun x27 hx27 h => cR (rI x27.1) [(208, .var [.d (.lst (x27.2.fL.map PD.str))])] (bh hx27)<|sV (.ptr 80 14)<|sV (.ptr 80 27)<|sV (.ptr 80 28)<|sS 80 (.var [rI x2.1, rI x3.1, rI x4.1, rI x5.1, rI x6.1, rS x7.1.ai.aB, rS x7.1.ai.aD, rS x7.1.ai.ac, rS x7.1.ai.aC, rI x7.1.aF, rI x7.1.aL, rI x7.1.aP, rI x7.1.aq, rI x7.1.av, .ref 752 0, rI x20.1.fX, rI x20.1.fY, rI x20.1.fZ, rI x21.1, rI x22.1, rI x23.1, rI x24.1.fX, rI x24.1.fY, rI x24.1.fZ, rI x25.1.fX, rI x25.1.fY, rI x25.1.fZ, rI x26.1, rI x27.1, r0])<|sN<|gS rfl rfl<|sM rfl ?_
 refine sM rfl<|bE h fun x28 hx28 h => cR (rI x28.1) [(208, .var [.d (.lst (x28.2.fL.map PD.str))])] (bh hx28)<|sV (.ptr 80 14)<|sV (.ptr 80 29)<|sS 80 (.var [rI x2.1, rI x3.1, rI x4.1, rI x5.1, rI x6.1, rS x7.1.ai.aB, rS x7.1.ai.aD, rS x7.1.ai.ac, rS x7.1.ai.aC, rI x7.1.aF, rI x7.1.aL, rI x7.1.aP, rI x7.1.aq, rI x7.1.av, .ref 752 0, rI x20.1.fX, rI x20.1.fY, rI x20.1.fZ, rI x21.1, rI x22.1, rI x23.1, rI x24.1.fX, rI x24.1.fY, rI x24.1.fZ, rI x25.1.fX, rI x25.1.fY, rI x25.1.fZ, rI x26.1, rI x27.1, rI x28.1])<|sN<|qS<|gS rfl rfl<|sV (.agg [rI x2.1, rI x3.1, rI x4.1, rI x5.1, rI x6.1, rS x7.1.ai.aB, rS x7.1.ai.aD, rS x7.1.ai.ac, rS x7.1.ai.aC, rI x7.1.aF, rI x7.1.aL, rI x7.1.aP, rI x7.1.aq, rI x7.1.av, .ref 752 0, rI x20.1.fX, rI x20.1.fY, rI x20.1.fZ, rI x21.1, rI x22.1, rI x23.1, rI x24.1.fX, rI x24.1.fY, rI x24.1.fZ, rI x25.1.fX, rI x25.1.fY, rI x25.1.fZ, rI x26.1, rI x27.1, rI x28.1])<|bE h fun x29 hx29 h => cR (.tup [rS x29.1, rI x29.2.1]) [(752, .arr 0 25 (x29.2.2.map ah.pd))] (ref37_Encodeq_ev hx29)<|sM rfl<|sV (rS x29.1)<|sV (rI x29.2.1) ?_
 refine sA rfl<|sA rfl<|sN<|gS rfl rfl<|sM rfl<|sF h (fun h => ?_) fun h => ?_
 ·refine sM rfl<|k3<|sT<|sN<|cT<|gS rfl rfl<|sG (.agg zZ0)<|sH 32 (.var zZ0)<|sV (rI 3)<|sN<|qR ?_
  cases oI h
  exact qG
 refine sM rfl<|sM rfl<|sM rfl<|sV (rB (!(x29.1 == a0)))<|sF h (fun h => ?_) fun h => ?_
 ·refine sN<|cT<|gS rfl rfl<|sG (.agg zZ0)<|sH 32 (.var zZ0)<|sV (rI 3)<|sN<|qR ?_
  cases oI h
  exact qG
 refine sN<|cF<|qK<|gS rfl rfl<|sV (.agg [rI x2.1, rI x3.1, rI x4.1, rI x5.1, rI x6.1, rS x7.1.ai.aB, rS x7.1.ai.aD, rS x7.1.ai.ac, rS x7.1.ai.aC, rI x7.1.aF, rI x7.1.aL, rI x7.1.aP, rI x7.1.aq, rI x7.1.av, .ref 752 0, rI x20.1.fX, rI x20.1.fY, rI x20.1.fZ, rI x21.1, rI x22.1, rI x23.1, rI x24.1.fX, rI x24.1.fY, rI x24.1.fZ, rI x25.1.fX, rI x25.1.fY, rI x25.1.fZ, rI x26.1, rI x27.1, rI x28.1])<|sH 32 (.var [rI x2.1, rI x3.1, rI x4.1, rI x5.1, rI x6.1, rS x7.1.ai.aB, rS x7.1.ai.aD, rS x7.1.ai.ac, rS x7.1.ai.aC, rI x7.1.aF, rI x7.1.aL, rI x7.1.aP, rI x7.1.aq, rI x7.1.av, .ref 752 0, rI x20.1.fX, rI x20.1.fY, rI x20.1.fZ, rI x21.1, rI x22.1, rI x23.1, rI x24.1.fX, rI x24.1.fY, rI x24.1.fZ, rI x25.1.fX, rI x25.1.fY, rI x25.1.fZ, rI x26.1, rI x27.1, rI x28.1])<|sV (r0)<|sN<|qR ?_
 cases oI h
 exact qG
theorem ref37_Prefix_ev {a0 : (List aS)} {r : (List ag)} (h : gG a0 = some r) : EvP prog aM ext 29 [.d (.lst (a0.map aS.pd))] [] (.d (.lst (r.map ag.pd)), []) := by
 refine Ev.body rfl Tryz.func29 rfl (by kernel_rfl)<|gS rfl rfl<|sV .nils<|sN<|gS rfl rfl<|sV .nils<|sN<|bE h fun o21 ho21 h => WC.block (WC.loop (WL.ofLoop ho21 (fun s R' B' => ghosts prog 0 (A R' B') (aM.at_ 29 0 2) = some (A [(0, .d (.lst (a0.map aS.pd))), (3, .ref 816 0)] [(816, .arr 0 40 (s.map ag.pd))])) (fun o e R' B' => e = .ret ∧ finish prog (aM.own 29) Tryz.f29 0 (A R' B') = some (.d (.lst (o.map ag.pd)), [])) rfl ?_ ?_))
 ·rintro s1 R' B' q2 hI h
  refine qB<|gS rfl hI<|sM rfl<|WO.lenR rfl rfl rfl rfl rfl rfl rfl rfl rfl<|sA rfl<|sN<|qS<|gS rfl rfl<|sV (r0)<|sN<|bE h fun o18 ho18 h => WC.block (WC.loop (WL.ofLoop ho18 (fun s R' B' => ghosts prog 0 (A R' B') (aM.at_ 29 0 4) = some (A [(0, .d (.lst (a0.map aS.pd))), (3, .ref 816 0), (4, rI (s1.length : Int)), (5, rI s.1)] [(816, .arr 0 40 (s.2.map ag.pd))])) (fun o e R' B' => e = .exit 2 ∧ ghosts prog 0 (A R' B') (aM.at_ 29 0 9) = some (A [(0, .d (.lst (a0.map aS.pd))), (3, .ref 816 0), (4, rI o.1)] [(816, .arr 0 40 (o.2.map ag.pd))])) rfl ?_ ?_))
  ·rintro ⟨s3, s4⟩ R' B' q7 hI h
   refine qS<|gS rfl hI<|sM rfl<|sM rfl<|sE (rI (a0.length : Int)) (lenMap _ _)<|sF h (fun h => ?_) fun h => ?_
   ·refine sM rfl<|sM rfl<|WO.lenR rfl rfl rfl rfl rfl rfl rfl rfl rfl<|sM rfl<|sV (rB ((s4.length : Int) == (s1.length : Int)))<|sF h (fun h => ?_) fun h => ?_
    ·refine sN<|cT<|qK<|qS<|qB<|gS rfl rfl<|sM rfl<|sM rfl<|bE h fun x10 hx10 h => eG hx10 rfl<|sV (.cptr [.str x10.ei])<|sC rfl<|bE h fun x11 hx11 h => cR (.tup [.d (ag.pd x11.1), rI x11.2]) [] (ref37_Decode_ev hx11)<|sM rfl ?_
     refine sV (.d (ag.pd x11.1))<|sV (rI x11.2)<|sB (.ptr 96 0) 96 (.var zZ0)<|sH 96 (.var (ag.rc x11.1))<|sA rfl<|sN<|gS rfl rfl<|sM rfl<|sM rfl<|bE h fun x12 hx12 h => eG hx12 rfl<|sV (.cptr [.int .i64 x12.cq, .int .i64 x12.fAt, .str x12.ei])<|sC rfl<|sM rfl<|sF h (fun h => ?_) fun h => ?_
     ·refine sM rfl<|sM rfl<|sV (rB (x11.2 == (0 : Int)))<|sF h (fun h => ?_) fun h => ?_
      ·refine sM rfl<|sV (.ptr 96 0)<|sL rfl<|sM rfl<|sV (rB (x11.1.aT == (s1.length : Int)))<|sF h (fun h => ?_) fun h => ?_
       ·refine sN<|cT<|WC.region rfl rfl<|sM rfl<|sV (.d (.agg [.int .i64 x11.1.aT, .int .i64 x11.1.ba, .int .i64 x11.1.fID, .int .i64 x11.1.fAt, .int .i64 x11.1.aX, .str x11.1.ae.aj.ai.aB, .str x11.1.ae.aj.ai.aD, .str x11.1.ae.aj.ai.ac, .str x11.1.ae.aj.ai.aC, .int .i64 x11.1.ae.aj.aF, .int .i64 x11.1.ae.aj.aL, .int .i64 x11.1.ae.aj.aP, .int .i64 x11.1.ae.aj.aq, .int .i64 x11.1.ae.aj.av, .lst (x11.1.ae.aa.aJ.map ah.pd), .int .i64 x11.1.ae.aa.ac.aA.fX, .int .i64 x11.1.ae.aa.ac.aA.fY, .int .i64 x11.1.ae.aa.ac.aA.fZ, .int .i64 x11.1.ae.aa.ac.aF, .int .i64 x11.1.ae.aa.ac.aQ, .int .i64 x11.1.ae.aa.ac.aW, .int .i64 x11.1.ae.aa.ac.am.aI.fX, .int .i64 x11.1.ae.aa.ac.am.aI.fY, .int .i64 x11.1.ae.aa.ac.am.aI.fZ, .int .i64 x11.1.ae.aa.ac.am.aw.fX, .int .i64 x11.1.ae.aa.ac.am.aw.fY, .int .i64 x11.1.ae.aa.ac.am.aw.fZ, .int .i64 x11.1.ae.aa.ap.aI, .int .i64 x11.1.ae.aa.ap.aw, .int .i64 x11.1.ae.aa.aU]))<|sG (.d (.lst ([x11.1].map ag.pd)))<|bE h fun x16 hx16 h => aR hx16 (fun _ => rfl) rfl<|sA rfl<|sN<|WC.region rfl rfl<|sM rfl<|sV (rI (rW (s3 + (1 : Int))))<|sA rfl<|sN ?_
        cases oI h
        exact ⟨rfl, rfl⟩
       refine sN<|cF<|qK<|WC.region rfl rfl<|sM rfl<|sV (rI (rW (s3 + (1 : Int))))<|sA rfl<|sN ?_
       cases oI h
       exact ⟨rfl, rfl⟩
      refine sM rfl<|k3<|sK<|sU<|sN<|cF<|qK<|WC.region rfl rfl<|sM rfl<|sV (rI (rW (s3 + (1 : Int))))<|sA rfl<|sN ?_
      cases oI h
      exact ⟨rfl, rfl⟩
     refine sM rfl<|sK<|sK<|sU<|sM rfl<|k3<|sK<|sU<|sN<|cF<|qK<|WC.region rfl rfl<|sM rfl ?_
     refine sV (rI (rW (s3 + (1 : Int))))<|sA rfl<|sN ?_
     cases oI h
     exact ⟨rfl, rfl⟩
    refine sN<|cF<|qX ?_
    cases oI h
    exact ⟨nofun, rfl, rfl⟩
   refine sM rfl<|k3<|sK<|sU<|sN<|cF<|qX ?_
   cases oI h
   exact ⟨nofun, rfl, rfl⟩
  intro e R' B' he hq
  obtain ⟨rfl, hI⟩ := hq
  refine qE<|gS rfl hI<|sM rfl<|WO.lenR rfl rfl rfl rfl rfl rfl rfl rfl rfl<|sM rfl<|sF h (fun h => ?_) fun h => ?_
  ·refine sN<|cT<|gS rfl rfl<|sM rfl<|sA rfl<|sN<|qR ?_
   cases oI h
   exact ⟨nofun, rfl, rfl⟩
  refine sN<|cF<|qK ?_
  cases oI h
  exact ⟨rfl, rfl⟩
 intro e R' B' he hq
 obtain ⟨rfl, hf⟩ := hq
 cases oI h
 exact hf
theorem iK {a0 : (List ag)} {a1 : (List aS)} {a2 : (List Int)} {r : Bool} (h : dN a0 a1 a2 = some r) : EvP prog aM ext 6 [.d (.lst (a0.map ag.pd)), .d (.lst (a1.map aS.pd)), .d (.lst (a2.map (PD.int .i64)))] [] (rB r, []) := by
 refine Ev.body rfl Tryz.func6 rfl (by kernel_rfl)<|gS rfl rfl<|sU<|sN<|qS<|gS rfl rfl<|sM rfl<|bE h fun x1 hx1 h => cD (law37_small_ev hx1)<|sF h (fun h => ?_) fun h => ?_
 ·refine sM rfl<|k3<|sT<|sN<|cT<|gS rfl rfl<|bE h fun x3 hx3 h => cD (fu hx3)<|sA rfl<|sN<|qR ?_
  cases oI h
  exact qD
 refine sM rfl<|sM rfl<|sE (rI (a1.length : Int)) (lenMap _ _)<|sV (rB (decide ((a1.length : Int) > (20 : Int))))<|sF h (fun h => ?_) fun h => ?_
 ·refine sN<|cT<|gS rfl rfl<|bE h fun x5 hx5 h => cD (fu hx5)<|sA rfl<|sN<|qR ?_
  cases oI h
  exact qD
 refine sN<|cF<|qK<|qS<|gS rfl rfl<|sM rfl<|sE (rI (a1.length : Int)) (lenMap _ _)<|sV (r0)<|sN<|bE h fun o13 ho13 h => WC.block (WC.loop (WL.ofLoop ho13 (fun s R' B' => ghosts prog 0 (A R' B') (aM.at_ 6 0 4) = some (A [(0, .d (.lst (a0.map ag.pd))), (1, .d (.lst (a1.map aS.pd))), (2, .d (.lst (a2.map (PD.int .i64)))), (31, rI (a1.length : Int)), (32, rI s)] [])) (fun o e R' B' => match o with | .inl y => e = .exit 0 ∧ ghosts prog 0 (A R' B') (aM.at_ 6 0 9) = some (A [(0, .d (.lst (a0.map ag.pd))), (1, .d (.lst (a1.map aS.pd))), (2, .d (.lst (a2.map (PD.int .i64))))] []) | .inr r => e = .ret ∧ finish prog (aM.own 6) Tryz.f6 0 (A R' B') = some (rB r, [])) rfl ?_ ?_))
 ·rintro s6 R' B' q7 hI h
  refine gS rfl hI<|sF h (fun h => ?_) fun h => ?_
  ·refine sN<|qS<|cT<|qK<|qS<|qB<|gS rfl rfl<|sM rfl<|sA rfl<|sN<|gS rfl rfl<|sM rfl<|sM rfl<|bE h fun x9 hx9 h => eG hx9 rfl ?_
   refine sV (.cptr [.str x9.ei])<|sC rfl<|sV (rI (x9.ei.length : Int))<|sF h (fun h => ?_) fun h => ?_
   ·refine sN<|cT<|gS rfl rfl<|bE h fun x11 hx11 h => cD (fu hx11)<|sA rfl<|sN<|qR ?_
    cases oI h
    exact ⟨nofun, rfl, rfl⟩
   refine sN<|cF<|qK<|WC.region rfl rfl<|sV (rI (rW (s6 + (1 : Int))))<|sM rfl<|sN ?_
   cases oI h
   exact ⟨rfl, rfl⟩
  refine sN<|qS<|cF<|qX ?_
  cases oI h
  exact ⟨nofun, rfl, rfl⟩
 intro e R' B' he hq
 rcases o13 with y14 | r15
 ·obtain ⟨rfl, hI⟩ := hq
  refine qE<|gS rfl hI<|sM rfl<|bE h fun x16 hx16 h => cR (.ptr 720 0) [(720, .var [.d (.lst (x16.fL.map (PD.int .i64))), rI x16.fAt])] (keep_New_ev hx16)<|sA rfl<|sN<|gS rfl rfl<|sM rfl<|bE h fun x17 hx17 h => cR (.d (.lst (x17.1.map ag.pd))) [(720, .var [.d (.lst (x17.2.fL.map (PD.int .i64))), rI x17.2.fAt])] (law37_told_ev hx17)<|sA rfl<|sN<|gS rfl rfl<|sB (.ref 768 0) 768 (.arr 0 40 (([] : List ag).map ag.pd)) ?_
  refine sM rfl<|bE h fun x18 hx18 h => aR hx18 (fun _ => rfl) rfl<|sA rfl<|sN<|WC.join (α := (List Int) × Int × (List ag)) (fun x R' B' => ghosts prog 0 (A R' B') (aM.at_ 6 0 15) = some (A [(0, .d (.lst (a0.map ag.pd))), (1, .d (.lst (a1.map aS.pd))), (8, .ptr 720 0), (9, .d (.lst (x17.1.map ag.pd))), (10, .ref 768 0)] [(720, .var [.d (.lst (x.1.map (PD.int .i64))), rI x.2.1]), (768, .arr 0 40 (x.2.2.map ag.pd))])) (fun x => cr a0 x17 a1 x.1 x.2.1 x.2.2 = some r) ?_ ?_
  ·refine gS rfl rfl<|sM rfl<|WO.lenR rfl rfl rfl rfl rfl rfl rfl rfl rfl<|sF h (fun h => ?_) fun h => ?_
   ·refine sN<|cT<|gS rfl rfl<|sM rfl<|sM rfl<|WO.lenR rfl rfl rfl rfl rfl rfl rfl rfl rfl<|bE h fun x69 hx69 h => cR (rI x69.1) [(720, .var [.d (.lst (x69.2.fL.map (PD.int .i64))), rI x69.2.fAt])] (bX hx69)<|sA rfl<|sN<|WC.region rfl rfl<|sM rfl<|sM rfl<|sM rfl<|sM rfl ?_
    exact sM rfl<|bE h fun x71 hx71 h => WO.eltG hx71 rfl rfl rfl rfl rfl rfl rfl rfl<|bE h fun x72 hx72 h => WO.loadE hx72 rfl rfl rfl rfl rfl rfl<|bE h fun x73 hx73 h => cR (.d (ag.pd x73.1)) [(720, .var [.d (.lst (x73.2.fL.map (PD.int .i64))), rI x73.2.fAt])] (law37_bent_ev hx73)<|bE h fun x75 hx75 h => WO.eltG hx75 rfl rfl rfl rfl rfl rfl rfl rfl<|bE h fun x76 hx76 h => WO.storeE (g := ag.pd) (sz := 30) (p := ag.pd x73.1) hx76 (by intro _; kernel_rfl) (by intro _; kernel_rfl) rfl rfl rfl rfl rfl rfl rfl rfl rfl<|sN<|⟨(x73.2.fL, x73.2.fAt, x76), rfl, h⟩
   exact sN<|cF<|qK<|⟨(x17.2.fL, x17.2.fAt, x18), rfl, h⟩
  rintro ⟨j19, j20, j21⟩ R' B' hI h
  refine qS<|gS rfl hI<|sM rfl<|sM rfl<|sM rfl<|sB (.d (.lst [.lst (a0.map ag.pd), .lst (x17.1.map ag.pd), .lst (j21.map ag.pd)])) 768 .dead<|sV (rI 3)<|sV (r0)<|sN<|bE h fun o34 ho34 h => WC.block (WC.loop (WL.ofLoop ho34 (fun s R' B' => ghosts prog 0 (A R' B') (aM.at_ 6 0 16) = some (A [(1, .d (.lst (a1.map aS.pd))), (8, .ptr 720 0), (9, .d (.lst (x17.1.map ag.pd))), (70, .d (.lst ([a0, x17.1, j21].map (fun l => PD.lst (l.map ag.pd))))), (71, rI 3), (72, rI s)] [(720, .var [.d (.lst (j19.map (PD.int .i64))), rI j20])])) (fun o e R' B' => match o with | .inl y => e = .exit 2 ∧ ghosts prog 0 (A R' B') (aM.at_ 6 0 21) = some (A [(1, .d (.lst (a1.map aS.pd))), (8, .ptr 720 0), (9, .d (.lst (x17.1.map ag.pd)))] [(720, .var [.d (.lst (j19.map (PD.int .i64))), rI j20])]) | .inr r => e = .ret ∧ finish prog (aM.own 6) Tryz.f6 0 (A R' B') = some (rB r, [])) rfl ?_ ?_))
  ·rintro s22 R' B' q23 hI h
   refine gS rfl hI<|sF h (fun h => ?_) fun h => ?_
   ·refine sN<|qS<|cT<|qK<|qS<|qB<|gS rfl rfl<|bE h fun x25 hx25 h => eG hx25 rfl<|sC rfl<|sA rfl<|sN<|gS rfl rfl<|sM rfl<|bE h fun x26 hx26 h => ?_
    refine cD (iW hx26)<|sM rfl<|bE h fun x27 hx27 h => cD (ref37_History_ev hx27)<|sF h (fun h => ?_) fun h => ?_
    ·refine sM rfl<|k3<|k3<|sT<|sN<|cT<|gS rfl rfl<|sU<|sN<|qR ?_
     cases oI h
     exact ⟨nofun, rfl, rfl⟩
    refine sM rfl<|sM rfl<|bE h fun x29 hx29 h => cD (feed_Current_ev hx29)<|sM rfl<|bE h fun x30 hx30 h => cD (ref37_Current_ev hx30)<|bE h fun x31 hx31 h => cD (fE hx31)<|sV (rB (!x31))<|sF h (fun h => ?_) fun h => ?_
    ·refine sN<|cT<|gS rfl rfl<|sU<|sN<|qR ?_
     cases oI h
     exact ⟨nofun, rfl, rfl⟩
    refine sN<|cF<|qK<|WC.region rfl rfl<|sV (rI (rW (s22 + (1 : Int))))<|sM rfl<|sN ?_
    cases oI h
    exact ⟨rfl, rfl⟩
   refine sN<|qS<|cF<|qX ?_
   cases oI h
   exact ⟨nofun, rfl, rfl⟩
  intro e R' B' he hq
  rcases o34 with y35 | r36
  ·obtain ⟨rfl, hI⟩ := hq
   refine qE<|gS rfl hI<|sV .nils<|sN<|qS<|gS rfl rfl<|sM rfl<|bE h fun x37 hx37 h => cR (rI x37.1) [(720, .var [.d (.lst (x37.2.fL.map (PD.int .i64))), rI x37.2.fAt])] (bX hx37)<|sA rfl<|sN<|bE h fun o52 ho52 h => WC.block (WC.loop (WL.ofLoop ho52 (fun s R' B' => ghosts prog 0 (A R' B') (aM.at_ 6 0 23) = some (A [(1, .d (.lst (a1.map aS.pd))), (8, .ptr 720 0), (9, .d (.lst (x17.1.map ag.pd))), (14, .ref 1968 0), (15, rI s.1)] [(720, .var [.d (.lst (s.2.1.map (PD.int .i64))), rI s.2.2.1]), (1968, .arr 0 66 (s.2.2.2.map aS.pd))])) (fun o e R' B' => e = .exit 4 ∧ ghosts prog 0 (A R' B') (aM.at_ 6 0 28) = some (A [(1, .d (.lst (a1.map aS.pd))), (14, .d (.lst (o.map aS.pd)))] [])) rfl ?_ ?_))
   ·rintro ⟨s38, s39, s40, s41⟩ R' B' q43 hI h
    refine qS<|gS rfl hI<|sM rfl<|sF h (fun h => ?_) fun h => ?_
    ·refine sM rfl<|sM rfl<|sE (rI (x17.1.length : Int)) (lenMap _ _)<|sV (rB (decide ((x17.1.length : Int) > (0 : Int))))<|sF h (fun h => ?_) fun h => ?_
     ·refine sN<|cT<|qK<|qS<|qB<|gS rfl rfl<|sM rfl<|sM rfl<|sE (rI (x17.1.length : Int)) (lenMap _ _)<|sV (rI (if (6 : Int) < (x17.1.length : Int) then (6 : Int) else (x17.1.length : Int)))<|bE h fun x46 hx46 h => cR (rI x46.1) [(720, .var [.d (.lst (x46.2.fL.map (PD.int .i64))), rI x46.2.fAt])] (bX hx46)<|sA rfl<|sN<|gS rfl rfl ?_
      refine sM rfl<|sM rfl<|bE h fun x47 hx47 h => eG hx47 rfl<|sV (.d (ag.pd x47))<|bE h fun x48 hx48 h => cR (.tup [rS x48.1, rI x48.2]) [] (ref37_Encode_ev hx48)<|sM rfl<|sV (rS x48.1)<|sV (rI x48.2)<|sA rfl<|sA rfl<|sN<|WC.region rfl rfl<|sM rfl ?_
      refine sM rfl<|sM rfl<|sV (.d (.lst ([0, 0, 0, 0, 1].map (PD.int .i64))))<|bE h fun x49 hx49 h => cR (rI x49.1) [(720, .var [.d (.lst (x49.2.fL.map (PD.int .i64))), rI x49.2.fAt])] (cA hx49)<|sV (rI (rW (x46.1 + x49.1)))<|sM rfl<|sV (.d (aS.pd (aS.mk (rW (x46.1 + x49.1)) 0 x48.1)))<|sV (.d (.lst ([(aS.mk (rW (x46.1 + x49.1)) 0 x48.1)].map aS.pd)))<|bE h fun x50 hx50 h => aR hx50 (fun _ => rfl) rfl<|sA rfl<|sN<|WC.region rfl rfl<|sM rfl ?_
      refine sV (rI (rW (s38 - (1 : Int))))<|sA rfl<|sN ?_
      cases oI h
      exact ⟨rfl, rfl⟩
     refine sN<|cF<|qX ?_
     cases oI h
     exact ⟨nofun, rfl, rfl⟩
    refine sM rfl<|k3<|sU<|sN<|cF<|qX ?_
    cases oI h
    exact ⟨nofun, rfl, rfl⟩
   intro e R' B' he hq
   obtain ⟨rfl, hI⟩ := hq
   refine qE<|qS<|gS rfl hI<|sM rfl<|sM rfl<|sM rfl<|sM rfl<|sE (rI (o52.length : Int)) (lenMap _ _)<|sM rfl<|sE (rI (o52.length : Int)) (lenMap _ _)<|WO.fullG (g := aS.pd) (li := o52) rfl rfl rfl rfl rfl rfl rfl rfl rfl rfl rfl rfl rfl<|sM rfl<|bE h fun x53 hx53 h => WO.appD hx53 (fun _ => rfl) rfl rfl rfl rfl rfl rfl rfl rfl rfl rfl rfl rfl rfl rfl<|sV (.d (.lst ([a1, o52, x53].map (fun l => PD.lst (l.map aS.pd))))) ?_
   refine sV (rI 3)<|sV (r0)<|sN<|bE h fun o63 ho63 h => WC.block (WC.loop (WL.ofLoop ho63 (fun s R' B' => ghosts prog 0 (A R' B') (aM.at_ 6 0 29) = some (A [(134, .d (.lst ([a1, o52, x53].map (fun l => PD.lst (l.map aS.pd))))), (135, rI 3), (136, rI s)] [])) (fun o e R' B' => match o with | .inl y => e = .exit 6 ∧ ghosts prog 0 (A R' B') (aM.at_ 6 0 34) = some (A [] []) | .inr r => e = .ret ∧ finish prog (aM.own 6) Tryz.f6 0 (A R' B') = some (rB r, [])) rfl ?_ ?_))
   ·rintro s54 R' B' q55 hI h
    refine gS rfl hI<|sF h (fun h => ?_) fun h => ?_
    ·refine sN<|qS<|cT<|qK<|qS<|qB<|gS rfl rfl<|bE h fun x57 hx57 h => eG hx57 rfl<|sC rfl<|sA rfl<|sN<|gS rfl rfl<|sM rfl<|bE h fun x58 hx58 h => ?_
     refine cD (jj hx58)<|sM rfl<|bE h fun x59 hx59 h => cD (ref37_Prefix_ev hx59)<|bE h fun x60 hx60 h => cD (fE hx60)<|sF h (fun h => ?_) fun h => ?_
     ·refine sN<|cT<|gS rfl rfl<|sU<|sN<|qR ?_
      cases oI h
      exact ⟨nofun, rfl, rfl⟩
     refine sN<|cF<|qK<|WC.region rfl rfl<|sV (rI (rW (s54 + (1 : Int))))<|sM rfl<|sN ?_
     cases oI h
     exact ⟨rfl, rfl⟩
    refine sN<|qS<|cF<|qX ?_
    cases oI h
    exact ⟨nofun, rfl, rfl⟩
   intro e R' B' he hq
   rcases o63 with y64 | r65
   ·obtain ⟨rfl, hI⟩ := hq
    refine qE<|gS rfl hI<|bE h fun x66 hx66 h => cD (fu hx66)<|sA rfl<|sN<|qR ?_
    cases oI h
    exact qD
   obtain ⟨rfl, hf⟩ := hq
   cases oI h
   exact hf
  obtain ⟨rfl, hf⟩ := hq
  cases oI h
  exact hf
 obtain ⟨rfl, hf⟩ := hq
 cases oI h
 exact hf
end Go.Dw.Fh
