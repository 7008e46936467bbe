
import Derived.Test.YtkcfodpngpmlcaaGreatDeEvB

set_option maxRecDepth 100000
set_option maxHeartbeats 4000000
namespace Go.Dw.De
open Go.Proofs Go.Proofs.Tryz Go.Dw
theorem ref18_Valid_ev {a0 : aB} {r : Bool} (h : nB a0 = some r) : EvP prog aw ext 137 [.d (aB.pd a0)] [] (rB r, []) := by
 refine Ev.body rfl Tryz.func137 rfl (by kernel_rfl)<|gS rfl rfl<|sB (.ptr 16 0) 16 (.var [.d (.lst (a0.aL.map aq.pd))])<|sU<|sN<|gS rfl rfl<|sV (rI 1)<|sN<|qS<|gS rfl rfl<|sV (r0)<|sN<|bE h fun o13 ho13 h => WC.block (WC.loop (WL.cv ho13 (fun s R' B' => bg prog 0 (A R' B') (aw.at_ 137 0 3) = some (A [(1, .ptr 16 0), (3, rI s.1), (4, rI s.2)] [(16, .var [.d (.lst (a0.aL.map aq.pd))])])) (fun o e R' B' => match o with | .inl y => e = .exit 0 ∧ bg prog 0 (A R' B') (aw.at_ 137 0 11) = some (A [(1, .ptr 16 0)] [(16, .var [.d (.lst (a0.aL.map aq.pd))])]) | .inr r => e = .ret ∧ finish prog (aw.own 137) Tryz.f137 0 (A R' B') = some (rB r, [])) rfl ?_ ?_))
 ·rintro ⟨s1, s2⟩ R' B' q3 hI h
  refine qS<|gS rfl hI<|sM rfl<|sV (.ptr 16 0)<|sL rfl<|sE (rI (a0.aL.length : Int)) (b8 _ _)<|sF h (fun h => ?_) fun h => ?_
  ·refine sN<|cT<|qK<|qS<|qB<|qS<|gS rfl rfl<|sV (.ptr 16 0)<|sL rfl<|sM rfl<|bE h fun x5 hx5 h => eG hx5 rfl<|sV (.d (aq.pd x5))<|bE h fun x6 hx6 h => cD (w6 hx6) ?_
   refine sF h (fun h => ?_) fun h => ?_
   ·refine sN<|cT<|gS rfl rfl<|sU<|sN<|qR ?_
    cases oI h
    exact ⟨nofun, rfl, rfl⟩
   refine sN<|cF<|qK<|gS rfl rfl<|sV (.ptr 16 0)<|sL rfl<|sM rfl<|bE h fun x8 hx8 h => eG hx8 rfl<|sV (.cptr [.int .i64 x8.br, .int .i64 x8.aU.a0, .int .i64 x8.aU.a1, .int .i64 x8.aU.a2, .int .i64 x8.aS.a0, .int .i64 x8.aS.a1, .int .i64 x8.aS.a2, .lst (x8.bc.map (PD.int .i64)), .int .i64 x8.aX, .int .i64 x8.bi])<|sC rfl<|sF h (fun h => ?_) fun h => ?_
   ·refine sN<|cT<|gS rfl rfl<|sM rfl<|sV (.ptr 16 0)<|sL rfl<|sM rfl<|bE h fun x10 hx10 h => eG hx10 rfl<|sV (.cptr [.int .i64 x10.aX, .int .i64 x10.bi])<|sC rfl<|sV (rI (rW (s1 * x10.aX)))<|sA rfl<|sN<|gS rfl rfl ?_
    refine sM rfl<|sF h (fun h => ?_) fun h => ?_
    ·refine sN<|cT<|gS rfl rfl<|sU<|sN<|qR ?_
     cases oI h
     exact ⟨nofun, rfl, rfl⟩
    refine sN<|cF<|qK<|WC.region rfl rfl<|sM rfl<|sV (rI (rW (s2 + (1 : Int))))<|sA rfl<|sN ?_
    cases oI h
    exact ⟨rfl, rfl⟩
   refine sN<|cF<|qK<|WC.region rfl rfl<|sM rfl<|sV (rI (rW (s2 + (1 : Int))))<|sA rfl<|sN ?_
   cases oI h
   exact ⟨rfl, rfl⟩
  refine sN<|cF<|qX ?_
  cases oI h
  exact ⟨nofun, rfl, rfl⟩
 intro e R' B' he hq
 rcases o13 with y14 | r15
 ·obtain ⟨rfl, hI⟩ := hq
  refine qE<|gS rfl hI<|sV (.ptr 16 0)<|sL rfl<|sE (rI (a0.aL.length : Int)) (b8 _ _)<|sV (rB (decide ((a0.aL.length : Int) ≤ (8 : Int))))<|sA rfl<|sN<|qR ?_
  exact oI h▸qD
 obtain ⟨rfl, hf⟩ := hq
 cases oI h
 exact hf
theorem w8 {a0 : ai} {r : Bool} (h : gQ a0 = some r) : EvP prog aw ext 101 [.d (ai.pd a0)] [] (rB r, []) := by
 refine Ev.body rfl Tryz.func101 rfl (by kernel_rfl)<|gS rfl rfl<|sB (.ptr 16 0) 16 (.var (ai.rc a0))<|sU<|sN<|gS rfl rfl<|sV (.ptr 16 4)<|sV (.d (ap.pd a0.aF))<|sB (.ptr 48 0) 48 (.var [r0, r0, r0])<|sS 48 (.var [rI a0.aF.fX, rI a0.aF.fY, rI a0.aF.fZ])<|sN<|gS rfl rfl<|sV (.ptr 16 0)<|sL rfl<|sF h (fun h => ?_) fun h => ?_
 ·refine sM rfl<|sV (.ptr 16 0)<|sL rfl<|sV (.ptr 16 1)<|sL rfl<|sV (rB (decide (a0.aJ < a0.fTo)))<|sF h (fun h => ?_) fun h => ?_
  ·refine sM rfl<|sV (.ptr 16 1)<|sL rfl<|sV (rB (decide (a0.fTo ≤ (9007199254740992 : Int))))<|sF h (fun h => ?_) fun h => ?_
   ·refine sM rfl<|sV (.ptr 16 2)<|sV (.d (aT.pd a0.bI))<|bE h fun x4 hx4 h => cD (ref02_Valid_ev hx4)<|sF h (fun h => ?_) fun h => ?_
    ·refine sM rfl<|sV (.ptr 16 7)<|sV (.d (aB.pd a0.aQ))<|bE h fun x6 hx6 h => cD (ref18_Valid_ev hx6)<|sF h (fun h => ?_) fun h => ?_
     ·refine sM rfl<|sV (.ptr 48 0)<|sL rfl<|bE h fun x8 hx8 h => cD (bV hx8)<|sF h (fun h => ?_) fun h => ?_
      ·refine sM rfl<|sV (.ptr 48 1)<|sL rfl<|bE h fun x10 hx10 h => cD (bV hx10)<|sF h (fun h => ?_) fun h => ?_
       ·refine sM rfl<|sV (.ptr 48 2)<|sL rfl<|bE h fun x12 hx12 h => cD (bV hx12)<|sV (rB x12)<|sA rfl<|sN<|qR ?_
        exact oI h▸qD
       refine sM rfl<|k3<|sU<|sA rfl<|sN<|qR ?_
       exact oI h▸qD
      refine sM rfl<|k3<|sU<|sM rfl<|k3<|sU<|sA rfl<|sN<|qR ?_
      exact oI h▸qD
     refine sM rfl<|k3<|sU<|sM rfl<|k3<|sU<|sM rfl<|k3<|sU ?_
     refine sA rfl<|sN<|qR ?_
     exact oI h▸qD
    refine sM rfl<|k3<|sU<|sM rfl<|k3<|sU<|sM rfl<|k3<|sU ?_
    refine sM rfl<|k3<|sU<|sA rfl<|sN<|qR ?_
    exact oI h▸qD
   refine sM rfl<|k3<|sU<|sM rfl<|k3<|sU<|sM rfl<|k3<|sU ?_
   refine sM rfl<|k3<|sU<|sM rfl<|k3<|sU<|sA rfl<|sN<|qR ?_
   exact oI h▸qD
  refine sM rfl<|k3<|sU<|sM rfl<|k3<|sU<|sM rfl<|k3<|sU ?_
  refine sM rfl<|k3<|sU<|sM rfl<|k3<|sU<|sM rfl<|k3<|sU ?_
  refine sA rfl<|sN<|qR ?_
  exact oI h▸qD
 refine sM rfl<|k3<|sK<|sK<|sU<|sM rfl<|k3<|sU<|sM rfl<|sK<|sK ?_
 refine sK<|sU<|sM rfl<|k3<|sU<|sM rfl<|k3<|sU<|sM rfl<|sK<|sK ?_
 refine sK<|sU<|sM rfl<|k3<|sU<|sA rfl<|sN<|qR ?_
 exact oI h▸qD
theorem sk {a0 : ac} {r : Bool} (h : iV a0 = some r) : EvP prog aw ext 58 [.d (ac.pd a0)] [] (rB r, []) := by
 refine Ev.body rfl Tryz.func58 rfl (by kernel_rfl)<|gS rfl rfl<|sB (.ptr 16 0) 16 (.var [.d (.lst (a0.al.map ae.pd))])<|sU<|sN<|qS<|gS rfl rfl<|sV (r0)<|sN<|bE h fun o32 ho32 h => WC.block (WC.loop (WL.cv ho32 (fun s R' B' => bg prog 0 (A R' B') (aw.at_ 58 0 2) = some (A [(1, .ptr 16 0), (3, rI s)] [(16, .var [.d (.lst (a0.al.map ae.pd))])])) (fun o e R' B' => match o with | .inl y => e = .exit 0 ∧ bg prog 0 (A R' B') (aw.at_ 58 0 12) = some (A [(1, .ptr 16 0)] [(16, .var [.d (.lst (a0.al.map ae.pd))])]) | .inr r => e = .ret ∧ finish prog (aw.own 58) Tryz.f58 0 (A R' B') = some (rB r, [])) rfl ?_ ?_))
 ·rintro s1 R' B' q2 hI h
  refine qS<|gS rfl hI<|sM rfl<|sV (.ptr 16 0)<|sL rfl<|sE (rI (a0.al.length : Int)) (b8 _ _)<|sF h (fun h => ?_) fun h => ?_
  ·refine sN<|cT<|qK<|qS<|qB<|gS rfl rfl<|sV (.ptr 16 0)<|sL rfl<|sM rfl<|bE h fun x4 hx4 h => eG hx4 rfl<|sV (.d (ae.pd x4))<|sB (.ptr 64 0) 64 (.var zZ3)<|sS 64 (.var (ae.rc x4))<|sN ?_
   refine WC.join (α := Unit) (fun x R' B' => bg prog 0 (A R' B') (aw.at_ 58 0 7) = some (A [(1, .ptr 16 0), (3, rI s1), (4, .ptr 64 0)] [(16, .var [.d (.lst (a0.al.map ae.pd))]), (64, .var (ae.rc x4))])) (fun x => iM x4 s1 = some q2) ?_ ?_
   ·refine WC.bX rfl rfl<|sV (.ptr 64 0)<|sV (.d (ag.pd x4.ak))<|bE h fun x21 hx21 h => cD (sg hx21)<|sF h (fun h => ?_) fun h => ?_
    ·refine sM rfl<|k3<|k3<|k3<|k3<|sK<|sK ?_
     refine sK<|sT<|sM rfl<|k3<|sK<|sK<|sT ?_
     refine sN<|sO<|cT<|gS rfl rfl<|sU<|sN<|qR ?_
     cases oI h
     exact ⟨nofun, rfl, rfl⟩
    refine sM rfl<|sM rfl<|sF h (fun h => ?_) fun h => ?_
    ·refine sM rfl<|sV (.ptr 16 0)<|sL rfl<|sM rfl<|sV (rI (rW (s1 - (1 : Int))))<|bE h fun x24 hx24 h => eG hx24 rfl<|sV (.cptr [.str x24.ak.aC, .str x24.ak.aA, .str x24.ak.av, .str x24.ak.aD, .lst (x24.aM.map ai.pd)])<|sV (.d (ag.pd x24.ak))<|sV (.ptr 64 0)<|sV (.d (ag.pd x4.ak))<|bE h fun x25 hx25 h => cD (pb hx25)<|sV (rB (decide (x25 ≥ (0 : Int))))<|sV (rB (decide (x25 ≥ (0 : Int)))) ?_
     refine sF h (fun h => ?_) fun h => ?_
     ·refine sM rfl<|k3<|sK<|sK<|sT ?_
      refine sN<|sO<|cT<|gS rfl rfl<|sU<|sN<|qR ?_
      cases oI h
      exact ⟨nofun, rfl, rfl⟩
     refine sM rfl<|sV (.ptr 64 4)<|sL rfl<|sE (rI (x4.aM.length : Int)) (b8 _ _)<|bE h fun x27 hx27 h => cD (bV hx27)<|sV (rB (!x27))<|sF h (fun h => ?_) fun h => ?_
     ·refine sN<|sO<|cT<|gS rfl rfl<|sU<|sN<|qR ?_
      cases oI h
      exact ⟨nofun, rfl, rfl⟩
     exact sN<|sO<|cF<|qK<|⟨(), rfl, h⟩
    refine sM rfl<|k3<|k3<|k3<|sK<|sK<|sU<|sU<|sM rfl ?_
    refine sV (.ptr 64 4)<|sL rfl<|sE (rI (x4.aM.length : Int)) (b8 _ _)<|bE h fun x29 hx29 h => cD (bV hx29)<|sV (rB (!x29))<|sF h (fun h => ?_) fun h => ?_
    ·refine sN<|sO<|cT<|gS rfl rfl<|sU<|sN<|qR ?_
     cases oI h
     exact ⟨nofun, rfl, rfl⟩
    exact sN<|sO<|cF<|qK<|⟨(), rfl, h⟩
   rintro ⟨⟩ R' B' hI h
   refine gS rfl hI<|sV (r0)<|sN<|bE h fun o17 ho17 h => WC.block (WC.loop (WL.cv ho17 (fun s R' B' => bg prog 0 (A R' B') (aw.at_ 58 0 8) = some (A [(1, .ptr 16 0), (3, rI s1), (4, .ptr 64 0), (5, rI s)] [(16, .var [.d (.lst (a0.al.map ae.pd))]), (64, .var (ae.rc x4))])) (fun o e R' B' => match o with | .inl y => e = .exit 2 ∧ bg prog 0 (A R' B') (aw.at_ 58 0 3) = some (A [(1, .ptr 16 0), (3, rI y)] [(16, .var [.d (.lst (a0.al.map ae.pd))])]) | .inr r => e = .ret ∧ finish prog (aw.own 58) Tryz.f58 0 (A R' B') = some (rB r, [])) rfl ?_ ?_))
   ·rintro s5 R' B' q7 hI h
    refine qS<|gS rfl hI<|sM rfl<|sV (.ptr 64 4)<|sL rfl<|sE (rI (x4.aM.length : Int)) (b8 _ _)<|sF h (fun h => ?_) fun h => ?_
    ·refine sN<|cT<|qK<|qS<|qB<|WC.bX rfl rfl<|sV (.ptr 64 4)<|sL rfl<|sM rfl<|bE h fun x9 hx9 h => eG hx9 rfl<|sV (.d (ai.pd x9))<|bE h fun x10 hx10 h => cD (w8 hx10)<|sF h (fun h => ?_) fun h => ?_
     ·refine sM rfl<|k3<|k3<|k3<|k3<|sK<|sK ?_
      refine k3<|sK<|sT ?_
      refine sN<|sO<|cT<|gS rfl rfl<|sU<|sN<|qR ?_
      cases oI h
      exact ⟨nofun, rfl, rfl⟩
     refine sM rfl<|sM rfl<|sF h (fun h => ?_) fun h => ?_
     ·refine sM rfl<|sV (.ptr 64 4)<|sL rfl<|sM rfl<|bE h fun x13 hx13 h => eG hx13 rfl<|sV (.cptr [.int .i64 x13.aJ, .int .i64 x13.fTo, .int .i64 x13.bI.aU, .int .i64 x13.bI.aS, .int .i64 x13.aF.fX, .int .i64 x13.aF.fY, .int .i64 x13.aF.fZ, .lst (x13.aQ.aL.map aq.pd)])<|sC rfl<|sV (.ptr 64 4)<|sL rfl<|sM rfl<|sV (rI (rW (s5 - (1 : Int))))<|bE h fun x14 hx14 h => eG hx14 rfl<|sV (.cptr [.int .i64 x14.fTo, .int .i64 x14.bI.aU, .int .i64 x14.bI.aS, .int .i64 x14.aF.fX, .int .i64 x14.aF.fY, .int .i64 x14.aF.fZ, .lst (x14.aQ.aL.map aq.pd)]) ?_
      refine sC rfl<|sV (rB (decide (x13.aJ < x14.fTo)))<|sV (rB (decide (x13.aJ < x14.fTo)))<|sF h (fun h => ?_) fun h => ?_
      ·refine sN<|sO<|cT<|gS rfl rfl<|sU<|sN<|qR ?_
       cases oI h
       exact ⟨nofun, rfl, rfl⟩
      refine sN<|sO<|cF<|qK<|WC.region rfl rfl<|sM rfl<|sV (rI (rW (s5 + (1 : Int))))<|sA rfl<|sN ?_
      cases oI h
      exact ⟨rfl, rfl⟩
     refine sM rfl<|k3<|k3<|k3<|k3<|sK<|sK ?_
     refine sU<|sU ?_
     refine sN<|sO<|cF<|qK<|WC.region rfl rfl<|sM rfl<|sV (rI (rW (s5 + (1 : Int))))<|sA rfl<|sN ?_
     cases oI h
     exact ⟨rfl, rfl⟩
    refine sN<|cF<|qX ?_
    cases oI h
    exact ⟨nofun, rfl, rfl⟩
   intro e R' B' he hq
   rcases o17 with y18 | r19
   ·obtain ⟨rfl, hI⟩ := hq
    refine qE<|WC.region hI rfl<|sM rfl<|sV (rI (rW (y18 + (1 : Int))))<|sA rfl<|sN ?_
    cases oI h
    exact ⟨rfl, rfl⟩
   obtain ⟨rfl, hf⟩ := hq
   cases oI h
   exact ⟨nofun, rfl, hf⟩
  refine sN<|cF<|qX ?_
  cases oI h
  exact ⟨nofun, rfl, rfl⟩
 intro e R' B' he hq
 rcases o32 with y33 | r34
 ·obtain ⟨rfl, hI⟩ := hq
  refine qE<|gS rfl hI<|sV (.ptr 16 0)<|sL rfl<|sE (rI (a0.al.length : Int)) (b8 _ _)<|sV (rB (decide ((a0.al.length : Int) ≤ (128 : Int))))<|sA rfl<|sN<|qR ?_
  exact oI h▸qD
 obtain ⟨rfl, hf⟩ := hq
 cases oI h
 exact hf
theorem ref18_Copy_ev {a0 : aB} {r : aB} (h : pj a0 = some r) : EvP prog aw ext 209 [.d (aB.pd a0)] [] (.d (aB.pd r), []) := by
 refine Ev.body rfl Tryz.func209 rfl (by kernel_rfl)<|gS rfl rfl<|sB (.ptr 16 0) 16 (.var [.d (.lst (a0.aL.map aq.pd))])<|sB (.ptr 32 0) 32 (.var [.cu])<|sN<|gS rfl rfl<|sB (.ptr 48 0) 48 (.var [.cu])<|sN<|qS<|gS rfl rfl<|sV (r0)<|sN<|bE h fun o10 ho10 h => WC.block (WC.loop (WL.cv ho10 (fun s R' B' => bg prog 0 (A R' B') (aw.at_ 209 0 3) = some (A [(1, .ptr 16 0), (2, .ptr 32 0), (3, .ptr 48 0), (4, rI s.1)] [(16, .var [.d (.lst (a0.aL.map aq.pd))]), (32, .var [.cu]), (48, .var [.ref 416 0]), (416, .arr 0 137 (s.2.map aq.pd))])) (fun o e R' B' => e = .exit 0 ∧ bg prog 0 (A R' B') (aw.at_ 209 0 8) = some (A [(2, .ptr 32 0), (3, .ptr 48 0)] [(32, .var [.cu]), (48, .var [.ref 416 0]), (416, .arr 0 137 (o.map aq.pd))])) rfl ?_ ?_))
 ·rintro ⟨s1, s2⟩ R' B' q4 hI h
  refine qS<|gS rfl hI<|sM rfl<|sV (.ptr 16 0)<|sL rfl<|sE (rI (a0.aL.length : Int)) (b8 _ _)<|sF h (fun h => ?_) fun h => ?_
  ·refine sN<|cT<|qK<|qS<|qB<|gS rfl rfl<|sV (.ptr 16 0)<|sL rfl<|sM rfl<|bE h fun x6 hx6 h => eG hx6 rfl<|sV (.d (aq.pd x6))<|sB (.ptr 80 0) 80 (.var [r0, r0, r0, r0, r0, r0, r0, .cu, r0, r0])<|sH 80 (.var (aq.rc x6))<|sN ?_
   refine gS rfl rfl<|sV (.ptr 80 7)<|sL rfl<|bE h fun x7 hx7 h => WO.appN hx7 (fun _ => rfl) rfl rfl rfl rfl rfl rfl rfl rfl rfl rfl rfl rfl rfl rfl<|sV (.ptr 80 7)<|sS 80 (.var [rI x6.br, rI x6.aU.a0, rI x6.aU.a1, rI x6.aU.a2, rI x6.aS.a0, rI x6.aS.a1, rI x6.aS.a2, .ref 320 0, rI x6.aX, rI x6.bi])<|sN<|WC.region rfl rfl<|sV (.ptr 48 0)<|sL rfl<|sV (.agg [rI x6.br, rI x6.aU.a0, rI x6.aU.a1, rI x6.aU.a2, rI x6.aS.a0, rI x6.aS.a1, rI x6.aS.a2, .ref 320 0, rI x6.aX, rI x6.bi])<|sB (.d (.lst [aq.pd (aq.mk x6.br x6.aU x6.aS x7 x6.aX x6.bi)])) 320 .dead<|bE h fun x8 hx8 h => aR hx8 (fun _ => rfl) rfl ?_
   refine sV (.ptr 48 0)<|sS 48 (.var [.ref 416 1])<|sN<|WC.region rfl rfl<|sM rfl<|sV (rI (rW (s1 + (1 : Int))))<|sA rfl<|sN ?_
   cases oI h
   exact ⟨rfl, rfl⟩
  refine sN<|cF<|qX ?_
  cases oI h
  exact ⟨nofun, rfl, rfl⟩
 intro e R' B' he hq
 obtain ⟨rfl, hI⟩ := hq
 refine qE<|gS rfl hI<|sV (.agg [.ref 416 0])<|sS 32 (.var [.ref 416 0])<|sN<|qR ?_
 exact oI h▸qD
theorem xG {a0 : ai} {r : ai} (h : iL a0 = some r) : EvP prog aw ext 180 [.d (ai.pd a0)] [] (.d (ai.pd r), []) := by
 refine Ev.body rfl Tryz.func180 rfl (by kernel_rfl)<|gS rfl rfl<|sB (.ptr 16 0) 16 (.var (ai.rc a0))<|sB (.ptr 32 0) 32 (.var zZ2)<|sN<|gS rfl rfl<|sV (.ptr 16 7)<|sV (.d (aB.pd a0.aQ))<|bE h fun x1 hx1 h => cD (ref18_Copy_ev hx1)<|sV (.ptr 16 7)<|sS 16 (.var [rI a0.aJ, rI a0.fTo, rI a0.bI.aU, rI a0.bI.aS, rI a0.aF.fX, rI a0.aF.fY, rI a0.aF.fZ, .d (.lst (x1.aL.map aq.pd))])<|sN<|gS rfl rfl<|sV (.d (.agg [.int .i64 a0.aJ, .int .i64 a0.fTo, .int .i64 a0.bI.aU, .int .i64 a0.bI.aS, .int .i64 a0.aF.fX, .int .i64 a0.aF.fY, .int .i64 a0.aF.fZ, .lst (x1.aL.map aq.pd)])) ?_
 refine sH 32 (.var [rI a0.aJ, rI a0.fTo, rI a0.bI.aU, rI a0.bI.aS, rI a0.aF.fX, rI a0.aF.fY, rI a0.aF.fZ, .d (.lst (x1.aL.map aq.pd))])<|sN<|qR ?_
 cases oI h
 exact qG
theorem ref19_Copy_ev {a0 : ac} {r : ac} (h : nl a0 = some r) : EvP prog aw ext 138 [.d (ac.pd a0)] [] (.d (ac.pd r), []) := by
 refine Ev.body rfl Tryz.func138 rfl (by kernel_rfl)<|gS rfl rfl<|sB (.ptr 16 0) 16 (.var [.d (.lst (a0.al.map ae.pd))])<|sB (.ptr 32 0) 32 (.var [.cu])<|sN<|gS rfl rfl<|sB (.ptr 48 0) 48 (.var [.cu])<|sN<|qS<|gS rfl rfl<|sV (r0)<|sN<|bE h fun o23 ho23 h => WC.block (WC.loop (WL.cv ho23 (fun s R' B' => bg prog 0 (A R' B') (aw.at_ 138 0 3) = some (A [(1, .ptr 16 0), (2, .ptr 32 0), (3, .ptr 48 0), (4, rI s.1)] [(16, .var [.d (.lst (a0.al.map ae.pd))]), (32, .var [.cu]), (48, .var [.ref 816 0]), (816, .arr 0 99 (s.2.map ae.pd))])) (fun o e R' B' => e = .exit 0 ∧ bg prog 0 (A R' B') (aw.at_ 138 0 11) = some (A [(2, .ptr 32 0), (3, .ptr 48 0)] [(32, .var [.cu]), (48, .var [.ref 816 0]), (816, .arr 0 99 (o.map ae.pd))])) rfl ?_ ?_))
 ·rintro ⟨s1, s2⟩ R' B' q4 hI h
  refine qS<|gS rfl hI<|sM rfl<|sV (.ptr 16 0)<|sL rfl<|sE (rI (a0.al.length : Int)) (b8 _ _)<|sF h (fun h => ?_) fun h => ?_
  ·refine sN<|cT<|qK<|qS<|qB<|gS rfl rfl<|sV (.ptr 16 0)<|sL rfl<|sM rfl<|bE h fun x6 hx6 h => eG hx6 rfl<|sV (.cptr [.str x6.ak.aC, .str x6.ak.aA, .str x6.ak.av, .str x6.ak.aD, .lst (x6.aM.map ai.pd)])<|sV (.d (ag.pd x6.ak))<|sV (.agg [rS x6.ak.aC, rS x6.ak.aA, rS x6.ak.av, rS x6.ak.aD, .cu])<|sB (.ptr 80 0) 80 (.var zZ3) ?_
   refine sS 80 (.var [rS x6.ak.aC, rS x6.ak.aA, rS x6.ak.av, rS x6.ak.aD, .cu])<|sN<|qS<|gS rfl rfl<|sV (r0)<|sN<|bE h fun o20 ho20 h => WC.block (WC.loop (WL.cv ho20 (fun s R' B' => bg prog 0 (A R' B') (aw.at_ 138 0 7) = some (A [(1, .ptr 16 0), (2, .ptr 32 0), (3, .ptr 48 0), (4, rI s1), (5, .ptr 80 0), (6, rI s.1)] [(16, .var [.d (.lst (a0.al.map ae.pd))]), (32, .var [.cu]), (48, .var [.ref 816 0]), (80, .var [rS x6.ak.aC, rS x6.ak.aA, rS x6.ak.av, rS x6.ak.aD, .ref 720 0]), (720, .arr 0 96 (s.2.map ai.pd)), (816, .arr 0 99 (s2.map ae.pd))])) (fun o e R' B' => e = .exit 2 ∧ bg prog 0 (A R' B') (aw.at_ 138 0 10) = some (A [(1, .ptr 16 0), (2, .ptr 32 0), (3, .ptr 48 0), (4, rI o.1), (5, .ptr 80 0)] [(16, .var [.d (.lst (a0.al.map ae.pd))]), (32, .var [.cu]), (48, .var [.ref 816 0]), (80, .var [rS x6.ak.aC, rS x6.ak.aA, rS x6.ak.av, rS x6.ak.aD, .ref 720 0]), (720, .arr 0 96 (o.2.2.map ai.pd)), (816, .arr 0 99 (o.2.1.map ae.pd))])) rfl ?_ ?_))
   ·rintro ⟨s7, s8⟩ R' B' q12 hI h
    refine qS<|gS rfl hI<|sM rfl<|sV (.ptr 16 0)<|sL rfl<|sM rfl<|bE h fun x13 hx13 h => eG hx13 rfl<|sV (.cptr [.lst (x13.aM.map ai.pd)])<|sC rfl<|sE (rI (x13.aM.length : Int)) (b8 _ _)<|sF h (fun h => ?_) fun h => ?_
    ·refine sN<|cT<|qK<|qS<|qB<|WC.eP rfl rfl<|sV (.ptr 80 4)<|sL rfl<|sV (.ptr 16 0)<|sL rfl<|sM rfl<|bE h fun x15 hx15 h => eG hx15 rfl<|sV (.cptr [.lst (x15.aM.map ai.pd)])<|sC rfl ?_
     refine sM rfl<|bE h fun x16 hx16 h => eG hx16 rfl<|sV (.d (ai.pd x16))<|bE h fun x17 hx17 h => cD (xG hx17)<|sG (.d (.lst ([x17].map ai.pd)))<|bE h fun x18 hx18 h => aR hx18 (fun _ => rfl) rfl<|sV (.ptr 80 4)<|sS 80 (.var [rS x6.ak.aC, rS x6.ak.aA, rS x6.ak.av, rS x6.ak.aD, .ref 720 1]) ?_
     refine sN<|sO<|WC.region rfl rfl<|sM rfl<|sV (rI (rW (s7 + (1 : Int))))<|sA rfl<|sN ?_
     cases oI h
     exact ⟨rfl, rfl⟩
    refine sN<|cF<|qX ?_
    cases oI h
    exact ⟨nofun, rfl, rfl⟩
   intro e R' B' he hq
   obtain ⟨rfl, hI⟩ := hq
   refine qE<|WC.region hI rfl<|sV (.ptr 48 0)<|sL rfl<|sV (.agg [rS x6.ak.aC, rS x6.ak.aA, rS x6.ak.av, rS x6.ak.aD, .ref 720 0])<|sB (.d (.lst [ae.pd (ae.mk x6.ak o20.2.2)])) 720 .dead<|bE h fun x21 hx21 h => aR hx21 (fun _ => rfl) rfl<|sV (.ptr 48 0)<|sS 48 (.var [.ref 816 1])<|sN<|WC.region rfl rfl<|sM rfl<|sV (rI (rW (o20.1 + (1 : Int))))<|sA rfl ?_
   refine sN ?_
   cases oI h
   exact ⟨rfl, rfl⟩
  refine sN<|cF<|qX ?_
  cases oI h
  exact ⟨nofun, rfl, rfl⟩
 intro e R' B' he hq
 obtain ⟨rfl, hI⟩ := hq
 refine qE<|gS rfl hI<|sV (.agg [.ref 816 0])<|sS 32 (.var [.ref 816 0])<|sN<|qR ?_
 exact oI h▸qD
theorem ref19_Find_ev {a0 : ac} {a1 : ag} {r : ae × Bool} (h : pu a0 a1 = some r) : EvP prog aw ext 106 [.d (ac.pd a0), .d (ag.pd a1)] [] (.tup [.d (ae.pd r.1), rB r.2], []) := by
 refine Ev.body rfl Tryz.func106 rfl (by kernel_rfl)<|gS rfl rfl<|sB (.ptr 32 0) 32 (.var [.d (.lst (a0.al.map ae.pd))])<|sB (.ptr 48 0) 48 (.var [rS a1.aC, rS a1.aA, rS a1.av, rS a1.aD])<|sB (.ptr 64 0) 64 (.var zZ3)<|sU<|sN<|qS<|gS rfl rfl<|sV (r0)<|sN<|bE h fun o10 ho10 h => WC.block (WC.loop (WL.cv ho10 (fun s R' B' => bg prog 0 (A R' B') (aw.at_ 106 0 2) = some (A [(2, .ptr 32 0), (3, .ptr 48 0), (4, .ptr 64 0), (6, rI s)] [(32, .var [.d (.lst (a0.al.map ae.pd))]), (48, .var [rS a1.aC, rS a1.aA, rS a1.av, rS a1.aD]), (64, .var zZ3)])) (fun o e R' B' => match o with | .inl y => e = .exit 0 ∧ bg prog 0 (A R' B') (aw.at_ 106 0 6) = some (A [(4, .ptr 64 0)] [(64, .var zZ3)]) | .inr r => e = .ret ∧ finish prog (aw.own 106) Tryz.f106 0 (A R' B') = some (.tup [.d (ae.pd r.1), rB r.2], [])) rfl ?_ ?_))
 ·rintro s1 R' B' q2 hI h
  refine qS<|gS rfl hI<|sM rfl<|sV (.ptr 32 0)<|sL rfl<|sE (rI (a0.al.length : Int)) (b8 _ _)<|sF h (fun h => ?_) fun h => ?_
  ·refine sN<|cT<|qK<|qS<|qB<|WC.bX rfl rfl<|sV (.ptr 32 0)<|sL rfl<|sM rfl<|bE h fun x4 hx4 h => eG hx4 rfl<|sV (.cptr [.str x4.ak.aC, .str x4.ak.aA, .str x4.ak.av, .str x4.ak.aD, .lst (x4.aM.map ai.pd)])<|sV (.d (ag.pd x4.ak))<|sV (.d (ag.pd a1))<|cY h (fun hb5 h => ?_) (fun hb5 h => ?_)
   ·refine WO.gu (rP x4.ak a1) hb5 rfl rfl rfl rfl rfl ?_
    refine sN<|sO<|cT<|gS rfl rfl<|sV (.ptr 32 0)<|sL rfl<|sM rfl<|sM rfl<|sV (rI (rW (s1 + (1 : Int))))<|bE h fun x6 hx6 h => WO.cutL (sz := 5) (g := ae.pd) hx6 (fun _ => rfl) rfl rfl rfl rfl rfl rfl rfl rfl rfl rfl rfl<|sV (.d (ac.pd (ac.mk x6)))<|bE h fun x7 hx7 h => cD (ref19_Copy_ev hx7)<|sV (.d (.lst (x7.al.map ae.pd)))<|bE h fun x8 hx8 h => ?_
    refine eG hx8 rfl<|sV (.d (ae.pd x8))<|sS 64 (.var (ae.rc x8))<|sT<|sN<|qR ?_
    cases oI h
    exact ⟨nofun, rfl, rfl⟩
   refine WO.gu (rP x4.ak a1) hb5 rfl rfl rfl rfl rfl ?_
   refine sN<|sO<|cF<|qK<|WC.region rfl rfl<|sM rfl<|sV (rI (rW (s1 + (1 : Int))))<|sA rfl<|sN ?_
   cases oI h
   exact ⟨rfl, rfl⟩
  refine sN<|cF<|qX ?_
  cases oI h
  exact ⟨nofun, rfl, rfl⟩
 intro e R' B' he hq
 rcases o10 with y11 | r12
 ·obtain ⟨rfl, hI⟩ := hq
  refine qE<|gS rfl hI<|sV (.agg zZ3)<|sS 64 (.var zZ3)<|sU<|sN<|qR ?_
  exact oI h▸qD
 obtain ⟨rfl, hf⟩ := hq
 cases oI h
 exact hf
theorem ref19_At_ev {a0 : ac} {a1 : ag} {a2 : Int} {r : ai × Int} (h : qm a0 a1 a2 = some r) : EvP prog aw ext 62 [.d (ac.pd a0), .d (ag.pd a1), rI a2] [] (.tup [.d (ai.pd r.1), rI r.2], []) := by
 refine Ev.body rfl Tryz.func62 rfl (by kernel_rfl)<|gS rfl rfl<|sB (.ptr 48 0) 48 (.var [.d (.lst (a0.al.map ae.pd))])<|sB (.ptr 64 0) 64 (.var [rS a1.aC, rS a1.aA, rS a1.av, rS a1.aD])<|sB (.ptr 96 0) 96 (.var zZ2)<|sV (r0)<|sN<|qS<|gS rfl rfl<|sV (.d (ac.pd a0))<|bE h fun x1 hx1 h => cD (sk hx1)<|sF h (fun h => ?_) fun h => ?_
 ·refine sN<|cT<|gS rfl rfl<|sG (.agg zZ2)<|sH 96 (.var zZ2)<|sV (rI 1)<|sN<|qR ?_
  cases oI h
  exact qG
 refine sN<|cF<|qK<|gS rfl rfl<|sV (.d (ac.pd a0))<|sV (.d (ag.pd a1))<|bE h fun x3 hx3 h => cR (.tup [.d (ae.pd x3.1), rB x3.2]) [] (ref19_Find_ev hx3)<|sM rfl<|sV (.d (ae.pd x3.1))<|sV (rB x3.2)<|sB (.ptr 128 0) 128 (.var zZ3)<|sS 128 (.var (ae.rc x3.1))<|sA rfl<|sN ?_
 refine qS<|gS rfl rfl<|sV (r0)<|sN<|bE h fun o13 ho13 h => WC.block (WC.loop (WL.cv ho13 (fun s R' B' => bg prog 0 (A R' B') (aw.at_ 62 0 5) = some (A [(2, rI a2), (6, .ptr 96 0), (8, .ptr 128 0), (10, rI s)] [(96, .var zZ2), (128, .var (ae.rc x3.1))])) (fun o e R' B' => match o with | .inl y => e = .exit 0 ∧ bg prog 0 (A R' B') (aw.at_ 62 0 9) = some (A [(6, .ptr 96 0)] [(96, .var zZ2)]) | .inr r => e = .ret ∧ finish prog (aw.own 62) Tryz.f62 0 (A R' B') = some (.tup [.d (ai.pd r.1), rI r.2], [])) rfl ?_ ?_))
 ·rintro s4 R' B' q5 hI h
  refine qS<|gS rfl hI<|sM rfl<|sV (.ptr 128 4)<|sL rfl<|sE (rI (x3.1.aM.length : Int)) (b8 _ _)<|sF h (fun h => ?_) fun h => ?_
  ·refine sN<|cT<|qK<|qS<|qB<|gS rfl rfl<|sV (.ptr 128 4)<|sL rfl<|sM rfl<|bE h fun x7 hx7 h => eG hx7 rfl<|sV (.cptr [.int .i64 x7.aJ, .int .i64 x7.fTo, .int .i64 x7.bI.aU, .int .i64 x7.bI.aS, .int .i64 x7.aF.fX, .int .i64 x7.aF.fY, .int .i64 x7.aF.fZ, .lst (x7.aQ.aL.map aq.pd)])<|sC rfl<|sM rfl<|sF h (fun h => ?_) fun h => ?_
   ·refine sM rfl<|sM rfl<|sV (.ptr 128 4)<|sL rfl<|sM rfl<|bE h fun x9 hx9 h => eG hx9 rfl<|sV (.cptr [.int .i64 x9.fTo, .int .i64 x9.bI.aU, .int .i64 x9.bI.aS, .int .i64 x9.aF.fX, .int .i64 x9.aF.fY, .int .i64 x9.aF.fZ, .lst (x9.aQ.aL.map aq.pd)])<|sC rfl<|sV (rB (decide (a2 < x9.fTo)))<|sF h (fun h => ?_) fun h => ?_
    ·refine sN<|cT<|gS rfl rfl<|sV (.ptr 128 4)<|sL rfl<|sM rfl<|bE h fun x11 hx11 h => eG hx11 rfl<|sV (.d (ai.pd x11))<|sH 96 (.var (ai.rc x11))<|sV (r0)<|sN<|qR ?_
     cases oI h
     exact ⟨nofun, rfl, rfl⟩
    refine sN<|cF<|qK<|WC.region rfl rfl<|sM rfl<|sV (rI (rW (s4 + (1 : Int))))<|sA rfl<|sN ?_
    cases oI h
    exact ⟨rfl, rfl⟩
   refine sM rfl<|k3<|k3<|sK<|sK<|sU<|sN<|cF<|qK<|WC.region rfl rfl<|sM rfl ?_
   refine sV (rI (rW (s4 + (1 : Int))))<|sA rfl<|sN ?_
   cases oI h
   exact ⟨rfl, rfl⟩
  refine sN<|cF<|qX ?_
  cases oI h
  exact ⟨nofun, rfl, rfl⟩
 intro e R' B' he hq
 rcases o13 with y14 | r15
 ·obtain ⟨rfl, hI⟩ := hq
  refine qE<|gS rfl hI<|sG (.agg zZ2)<|sH 96 (.var zZ2)<|sV (rI 6)<|sN<|qR ?_
  cases oI h
  exact qG
 obtain ⟨rfl, hf⟩ := hq
 cases oI h
 exact hf
theorem xD {a0 : aq} {a1 : aq} {r : Bool} (h : iK a0 a1 = some r) : EvP prog aw ext 107 [.d (aq.pd a0), .d (aq.pd a1)] [] (rB r, []) := by
 refine Ev.body rfl Tryz.func107 rfl (by kernel_rfl)<|gS rfl rfl<|sB (.ptr 32 0) 32 (.var (aq.rc a0))<|sB (.ptr 48 0) 48 (.var (aq.rc a1))<|sU<|sN<|qS<|gS rfl rfl<|sV (.ptr 32 0)<|sL rfl<|sV (.ptr 48 0)<|sL rfl<|sF h (fun h => ?_) fun h => ?_
 ·refine sM rfl<|k3<|sK<|sK<|sT<|sM rfl<|k3<|sK<|sK<|sT<|sM rfl ?_
  refine k3<|sK<|sK<|sT<|sM rfl<|k3<|sK<|sK<|sT<|sM rfl<|sK ?_
  refine k3<|k3<|sT<|sN<|cT<|gS rfl rfl<|sU<|sN<|qR ?_
  cases oI h
  exact qG
 refine sM rfl<|sV (.ptr 32 1)<|sV (.d (aV.pd a0.aU))<|sV (.ptr 48 1)<|sV (.d (aV.pd a1.aU))<|WO.bin (eqN_135 a0.aU a1.aU) rfl rfl rfl rfl rfl<|sF h (fun h => ?_) fun h => ?_
 ·refine sM rfl<|k3<|sK<|sK<|sT<|sM rfl<|k3<|sK<|sK<|sT<|sM rfl ?_
  refine k3<|sK<|sK<|sT<|sM rfl<|k3<|k3<|sK<|sT ?_
  refine sN<|cT<|gS rfl rfl<|sU<|sN<|qR ?_
  cases oI h
  exact qG
 refine sM rfl<|sV (.ptr 32 4)<|sV (.d (aV.pd a0.aS))<|sV (.ptr 48 4)<|sV (.d (aV.pd a1.aS))<|WO.bin (eqN_135 a0.aS a1.aS) rfl rfl rfl rfl rfl<|sF h (fun h => ?_) fun h => ?_
 ·refine sM rfl<|k3<|sK<|sK<|sT<|sM rfl<|k3<|sK<|sK<|sT<|sM rfl ?_
  refine k3<|k3<|sK<|sT<|sN<|cT<|gS rfl rfl<|sU<|sN<|qR ?_
  cases oI h
  exact qG
 refine sM rfl<|sV (.ptr 32 8)<|sL rfl<|sV (.ptr 48 8)<|sL rfl<|sV (rB (a0.aX != a1.aX))<|sF h (fun h => ?_) fun h => ?_
 ·refine sM rfl<|k3<|sK<|sK<|sT<|sM rfl<|k3<|k3<|sK ?_
  refine sT<|sN<|cT<|gS rfl rfl<|sU<|sN<|qR ?_
  cases oI h
  exact qG
 refine sM rfl<|sV (.ptr 32 9)<|sL rfl<|sV (.ptr 48 9)<|sL rfl<|sV (rB (a0.bi != a1.bi))<|sF h (fun h => ?_) fun h => ?_
 ·refine sM rfl<|k3<|k3<|sK<|sT<|sN<|cT<|gS rfl rfl<|sU<|sN<|qR ?_
  cases oI h
  exact qG
 refine sM rfl<|sV (.ptr 32 7)<|sL rfl<|sE (rI (a0.bc.length : Int)) (b8 _ _)<|sV (.ptr 48 7)<|sL rfl<|sE (rI (a1.bc.length : Int)) (b8 _ _)<|sV (rB ((a0.bc.length : Int) != (a1.bc.length : Int)))<|sF h (fun h => ?_) fun h => ?_
 ·refine sN<|cT<|gS rfl rfl<|sU<|sN<|qR ?_
  cases oI h
  exact qG
 refine sN<|cF<|qK<|qS<|gS rfl rfl<|sV (r0)<|sN<|bE h fun o14 ho14 h => WC.block (WC.loop (WL.cv ho14 (fun s R' B' => bg prog 0 (A R' B') (aw.at_ 107 0 4) = some (A [(2, .ptr 32 0), (3, .ptr 48 0), (5, rI s)] [(32, .var (aq.rc a0)), (48, .var (aq.rc a1))])) (fun o e R' B' => match o with | .inl y => e = .exit 0 ∧ bg prog 0 (A R' B') (aw.at_ 107 0 8) = some (A [] []) | .inr r => e = .ret ∧ finish prog (aw.own 107) Tryz.f107 0 (A R' B') = some (rB r, [])) rfl ?_ ?_))
 ·rintro s7 R' B' q8 hI h
  refine qS<|gS rfl hI<|sM rfl<|sV (.ptr 32 7)<|sL rfl<|sE (rI (a0.bc.length : Int)) (b8 _ _)<|sF h (fun h => ?_) fun h => ?_
  ·refine sN<|cT<|qK<|qS<|qB<|WC.bX rfl rfl<|sV (.ptr 32 7)<|sL rfl<|sM rfl<|bE h fun x10 hx10 h => eG hx10 rfl<|sC rfl<|sV (.ptr 48 7)<|sL rfl<|sM rfl ?_
   refine bE h fun x11 hx11 h => eG hx11 rfl<|sC rfl<|sF h (fun h => ?_) fun h => ?_
   ·refine sN<|sO<|cT<|gS rfl rfl<|sU<|sN<|qR ?_
    cases oI h
    exact ⟨nofun, rfl, rfl⟩
   refine sN<|sO<|cF<|qK<|WC.region rfl rfl<|sM rfl<|sV (rI (rW (s7 + (1 : Int))))<|sA rfl<|sN ?_
   cases oI h
   exact ⟨rfl, rfl⟩
  refine sN<|cF<|qX ?_
  cases oI h
  exact ⟨nofun, rfl, rfl⟩
 intro e R' B' he hq
 rcases o14 with y15 | r16
 ·obtain ⟨rfl, hI⟩ := hq
  refine qE<|gS rfl hI<|sT<|sN<|qR ?_
  exact oI h▸qD
 obtain ⟨rfl, hf⟩ := hq
 cases oI h
 exact hf
theorem ref18_Same_ev {a0 : aB} {a1 : aB} {r : Bool} (h : pk a0 a1 = some r) : EvP prog aw ext 63 [.d (aB.pd a0), .d (aB.pd a1)] [] (rB r, []) := by
 refine Ev.body rfl Tryz.func63 rfl (by kernel_rfl)<|gS rfl rfl<|sB (.ptr 32 0) 32 (.var [.d (.lst (a0.aL.map aq.pd))])<|sB (.ptr 48 0) 48 (.var [.d (.lst (a1.aL.map aq.pd))])<|sU<|sN<|qS<|gS rfl rfl<|sV (.ptr 32 0)<|sL rfl<|sE (rI (a0.aL.length : Int)) (b8 _ _)<|sV (.ptr 48 0)<|sL rfl<|sE (rI (a1.aL.length : Int)) (b8 _ _)<|sF h (fun h => ?_) fun h => ?_
 ·refine sN<|cT<|gS rfl rfl<|sU<|sN<|qR ?_
  exact oI h▸qD
 refine sN<|cF<|qK<|qS<|gS rfl rfl<|sV (r0)<|sN<|bE h fun o10 ho10 h => WC.block (WC.loop (WL.cv ho10 (fun s R' B' => bg prog 0 (A R' B') (aw.at_ 63 0 4) = some (A [(2, .ptr 32 0), (3, .ptr 48 0), (5, rI s)] [(32, .var [.d (.lst (a0.aL.map aq.pd))]), (48, .var [.d (.lst (a1.aL.map aq.pd))])])) (fun o e R' B' => match o with | .inl y => e = .exit 0 ∧ bg prog 0 (A R' B') (aw.at_ 63 0 8) = some (A [] []) | .inr r => e = .ret ∧ finish prog (aw.own 63) Tryz.f63 0 (A R' B') = some (rB r, [])) rfl ?_ ?_))
 ·rintro s2 R' B' q3 hI h
  refine qS<|gS rfl hI<|sM rfl<|sV (.ptr 32 0)<|sL rfl<|sE (rI (a0.aL.length : Int)) (b8 _ _)<|sF h (fun h => ?_) fun h => ?_
  ·refine sN<|cT<|qK<|qS<|qB<|WC.bX rfl rfl<|sV (.ptr 32 0)<|sL rfl<|sM rfl<|bE h fun x5 hx5 h => eG hx5 rfl<|sV (.d (aq.pd x5))<|sV (.ptr 48 0)<|sL rfl<|sM rfl ?_
   refine bE h fun x6 hx6 h => eG hx6 rfl<|sV (.d (aq.pd x6))<|bE h fun x7 hx7 h => cD (xD hx7)<|sF h (fun h => ?_) fun h => ?_
   ·refine sN<|sO<|cT<|gS rfl rfl<|sU<|sN<|qR ?_
    cases oI h
    exact ⟨nofun, rfl, rfl⟩
   refine sN<|sO<|cF<|qK<|WC.region rfl rfl<|sM rfl<|sV (rI (rW (s2 + (1 : Int))))<|sA rfl<|sN ?_
   cases oI h
   exact ⟨rfl, rfl⟩
  refine sN<|cF<|qX ?_
  cases oI h
  exact ⟨nofun, rfl, rfl⟩
 intro e R' B' he hq
 rcases o10 with y11 | r12
 ·obtain ⟨rfl, hI⟩ := hq
  refine qE<|gS rfl hI<|sT<|sN<|qR ?_
  exact oI h▸qD
 obtain ⟨rfl, hf⟩ := hq
 cases oI h
 exact hf
theorem lT {a0 : ac} {a1 : ac} {a2 : aa} {r : Bool} (h : fx a0 a1 a2 = some r) : EvP prog aw ext 29 [.d (ac.pd a0), .d (ac.pd a1), .d (aa.pd a2)] [] (rB r, []) := by
 refine Ev.body rfl Tryz.func29 rfl (by kernel_rfl)<|gS rfl rfl<|sB (.ptr 48 0) 48 (.var [.d (.lst (a0.al.map ae.pd))])<|sB (.ptr 64 0) 64 (.var [.d (.lst (a1.al.map ae.pd))])<|sB (.ptr 80 0) 80 (.var (aa.rc a2))<|sU<|sN<|gS rfl rfl<|sV (.d (ac.pd a0))<|sV (.ptr 80 0)<|sV (.d (ag.pd a2.ak))<|sV (.ptr 80 4)<|sL rfl<|bE h fun x1 hx1 h => cR (.tup [.d (ai.pd x1.1), rI x1.2]) [] (ref19_At_ev hx1) ?_
 refine sM rfl<|sV (.d (ai.pd x1.1))<|sV (rI x1.2)<|sB (.ptr 112 0) 112 (.var zZ2)<|sH 112 (.var (ai.rc x1.1))<|sA rfl<|sN<|gS rfl rfl<|sV (.d (ac.pd a1))<|sV (.ptr 80 0)<|sV (.d (ag.pd a2.ak))<|sV (.ptr 80 4)<|sL rfl<|bE h fun x2 hx2 h => cR (.tup [.d (ai.pd x2.1), rI x2.2]) [] (ref19_At_ev hx2) ?_
 refine sM rfl<|sV (.d (ai.pd x2.1))<|sV (rI x2.2)<|sB (.ptr 144 0) 144 (.var zZ2)<|sH 144 (.var (ai.rc x2.1))<|sA rfl<|sN<|qS<|gS rfl rfl<|sM rfl<|sF h (fun h => ?_) fun h => ?_
 ·refine sM rfl<|sK<|sK<|sT<|sN<|cT<|gS rfl rfl<|sM rfl<|sV (rB (x1.2 == (0 : Int)))<|sM rfl<|sV (rB (x2.2 == (0 : Int)))<|sV (rB (!((x1.2 == (0 : Int)) == (x2.2 == (0 : Int)))))<|sA rfl<|sN<|qR ?_
  cases oI h
  exact qG
 refine sM rfl<|sM rfl<|sV (rB (x2.2 != (0 : Int)))<|sF h (fun h => ?_) fun h => ?_
 ·refine sN<|cT<|gS rfl rfl<|sM rfl<|sV (rB (x1.2 == (0 : Int)))<|sM rfl<|sV (rB (x2.2 == (0 : Int)))<|sV (rB (!((x1.2 == (0 : Int)) == (x2.2 == (0 : Int)))))<|sA rfl<|sN<|qR ?_
  cases oI h
  exact qG
 refine sN<|cF<|qK<|gS rfl rfl<|sV (.ptr 112 4)<|sV (.d (ap.pd x1.1.aF))<|sV (.ptr 144 4)<|sV (.d (ap.pd x2.1.aF))<|cY h (fun hb5 h => ?_) (fun hb5 h => ?_)
 ·refine WO.gu (eqN_28 x1.1.aF x2.1.aF) hb5 rfl rfl rfl rfl rfl<|sM rfl<|k3<|k3<|sT<|sA rfl<|sN<|qR ?_
  cases oI h
  exact qG
 refine WO.gu (eqN_28 x1.1.aF x2.1.aF) hb5 rfl rfl rfl rfl rfl<|sM rfl<|sV (.ptr 112 7)<|sV (.d (.agg [.lst (x1.1.aQ.aL.map aq.pd)]))<|sV (.ptr 144 7)<|sV (.d (.agg [.lst (x2.1.aQ.aL.map aq.pd)]))<|bE h fun x6 hx6 h => cD (ref18_Same_ev hx6)<|sV (rB (!x6))<|sV (rB (!x6))<|sA rfl<|sN<|qR ?_
 cases oI h
 exact qG
theorem ref39_Fresh_ev {a0 : (List aa)} {a1 : (List (List aa))} {a2 : ac} {a3 : ac} {r : Bool} (h : nC a0 a1 a2 a3 = some r) : EvP prog aw ext 59 [.d (.lst (a0.map aa.pd)), .d (.lst (a1.map (fun l => PD.lst (l.map aa.pd)))), .d (ac.pd a2), .d (ac.pd a3)] [] (rB r, []) := by
 refine Ev.body rfl Tryz.func59 rfl (by kernel_rfl)<|gS rfl rfl<|sB (.ptr 96 0) 96 (.var [.d (.lst (a2.al.map ae.pd))])<|sB (.ptr 112 0) 112 (.var [.d (.lst (a3.al.map ae.pd))])<|sU<|sN<|qS<|gS rfl rfl<|sV (r0)<|sN<|bE h fun o8 ho8 h => WC.block (WC.loop (WL.cv ho8 (fun s R' B' => bg prog 0 (A R' B') (aw.at_ 59 0 2) = some (A [(0, .d (.lst (a0.map aa.pd))), (1, .d (.lst (a1.map (fun l => PD.lst (l.map aa.pd))))), (6, .ptr 96 0), (7, .ptr 112 0), (9, rI s)] [(96, .var [.d (.lst (a2.al.map ae.pd))]), (112, .var [.d (.lst (a3.al.map ae.pd))])])) (fun o e R' B' => match o with | .inl y => e = .exit 0 ∧ bg prog 0 (A R' B') (aw.at_ 59 0 6) = some (A [(0, .d (.lst (a0.map aa.pd))), (1, .d (.lst (a1.map (fun l => PD.lst (l.map aa.pd)))))] []) | .inr r => e = .ret ∧ finish prog (aw.own 59) Tryz.f59 0 (A R' B') = some (rB r, [])) rfl ?_ ?_))
 ·rintro s1 R' B' q2 hI h
  refine qS<|gS rfl hI<|sM rfl<|sM rfl<|sE (rI (a0.length : Int)) (b8 _ _)<|sF h (fun h => ?_) fun h => ?_
  ·refine sN<|cT<|qK<|qS<|qB<|WC.bX rfl rfl<|sV (.d (ac.pd a2))<|sV (.d (ac.pd a3))<|sM rfl<|sM rfl<|bE h fun x4 hx4 h => eG hx4 rfl<|sV (.d (aa.pd x4))<|bE h fun x5 hx5 h => cY h (fun hb6 h => ?_) (fun hb6 h => ?_)
   ·refine WO.fj (v := rB true) (u := []) rfl rfl (fun _ => rfl) rfl rfl rfl rfl rfl (lT hx5) rfl rfl (congrArg (fun b => RV.d (.bool b)) hb6) rfl ?_
    refine sN<|sO<|cT<|gS rfl rfl<|sU<|sN<|qR ?_
    cases oI h
    exact ⟨nofun, rfl, rfl⟩
   refine WO.fj (v := rB false) (u := []) rfl rfl (fun _ => rfl) rfl rfl rfl rfl rfl (lT hx5) rfl rfl (congrArg (fun b => RV.d (.bool b)) hb6) rfl ?_
   refine sN<|sO<|cF<|qK<|WC.region rfl rfl<|sM rfl<|sV (rI (rW (s1 + (1 : Int))))<|sA rfl<|sN ?_
   cases oI h
   exact ⟨rfl, rfl⟩
  refine sN<|cF<|qX ?_
  cases oI h
  exact ⟨nofun, rfl, rfl⟩
 intro e R' B' he hq
 rcases o8 with y9 | r10
 ·obtain ⟨rfl, hI⟩ := hq
  refine qE<|qS<|gS rfl hI<|sV (r0)<|sN<|bE h fun o18 ho18 h => WC.block (WC.loop (WL.cv ho18 (fun s R' B' => bg prog 0 (A R' B') (aw.at_ 59 0 7) = some (A [(0, .d (.lst (a0.map aa.pd))), (1, .d (.lst (a1.map (fun l => PD.lst (l.map aa.pd))))), (10, rI s)] [])) (fun o e R' B' => match o with | .inl y => e = .exit 2 ∧ bg prog 0 (A R' B') (aw.at_ 59 0 11) = some (A [] []) | .inr r => e = .ret ∧ finish prog (aw.own 59) Tryz.f59 0 (A R' B') = some (rB r, [])) rfl ?_ ?_))
  ·rintro s11 R' B' q12 hI h
   refine qS<|gS rfl hI<|sM rfl<|sM rfl<|sE (rI (a1.length : Int)) (b8 _ _)<|sF h (fun h => ?_) fun h => ?_
   ·refine sN<|cT<|qK<|qS<|qB<|gS rfl rfl<|sM rfl<|sM rfl<|sM rfl<|bE h fun x14 hx14 h => eG hx14 rfl<|sC rfl<|bE h fun x15 hx15 h => cY h (fun hb16 h => ?_) (fun hb16 h => ?_)
    ·refine WO.fj (v := rB true) (u := []) rfl rfl (fun _ => rfl) rfl rfl rfl rfl rfl (kd hx15) rfl rfl (congrArg (fun b => RV.d (.bool b)) hb16) rfl<|sN<|cT<|gS rfl rfl<|sT<|sN<|qR ?_
     cases oI h
     exact ⟨nofun, rfl, rfl⟩
    refine WO.fj (v := rB false) (u := []) rfl rfl (fun _ => rfl) rfl rfl rfl rfl rfl (kd hx15) rfl rfl (congrArg (fun b => RV.d (.bool b)) hb16) rfl<|sN<|cF<|qK<|WC.region rfl rfl<|sM rfl<|sV (rI (rW (s11 + (1 : Int))))<|sA rfl<|sN ?_
    cases oI h
    exact ⟨rfl, rfl⟩
   refine sN<|cF<|qX ?_
   cases oI h
   exact ⟨nofun, rfl, rfl⟩
  intro e R' B' he hq
  rcases o18 with y19 | r20
  ·obtain ⟨rfl, hI⟩ := hq
   refine qE<|gS rfl hI<|sU<|sN<|qR ?_
   exact oI h▸qD
  obtain ⟨rfl, hf⟩ := hq
  cases oI h
  exact hf
 obtain ⟨rfl, hf⟩ := hq
 cases oI h
 exact hf
theorem ref39_Stale_ev {a0 : Int} {a1 : (List aa)} {a2 : (List aa)} {a3 : ac} {a4 : ac} {r : (List Int) × Int} (h : nD a0 a1 a2 a3 a4 = some r) : EvP prog aw ext 26 [rI a0, .d (.lst (a1.map aa.pd)), .d (.lst (a2.map aa.pd)), .d (ac.pd a3), .d (ac.pd a4)] [] (.tup [.d (.lst (r.1.map (PD.int .i64))), rI r.2], []) := by
 refine Ev.body rfl Tryz.func26 rfl (by kernel_rfl)<|gS rfl rfl<|sB (.ptr 128 0) 128 (.var [.d (.lst (a3.al.map ae.pd))])<|sB (.ptr 144 0) 144 (.var [.d (.lst (a4.al.map ae.pd))])<|sV .cu<|sV (r0)<|sN<|gS rfl rfl<|sM rfl<|sM rfl<|bE h fun x1 hx1 h => cR (.tup [.d (.lst (x1.1.map (fun l => PD.lst (l.map aa.pd)))), rI x1.2]) [] (pz hx1)<|sM rfl<|sV (.d (.lst (x1.1.map (fun l => PD.lst (l.map aa.pd)))))<|sV (rI x1.2) ?_
 refine sA rfl<|sA rfl<|sN<|gS rfl rfl<|sM rfl<|sM rfl<|bE h fun x2 hx2 h => cR (.tup [.d (.lst (x2.1.map (fun l => PD.lst (l.map aa.pd)))), rI x2.2]) [] (pz hx2)<|sM rfl<|sV (.d (.lst (x2.1.map (fun l => PD.lst (l.map aa.pd)))))<|sV (rI x2.2)<|sA rfl<|sA rfl<|sN<|qS ?_
 refine gS rfl rfl<|sM rfl<|sF h (fun h => ?_) fun h => ?_
 ·refine sN<|cT<|gS rfl rfl<|sV .cu<|sV (rI 2)<|sN<|qR ?_
  exact oI h▸qD
 refine sN<|cF<|qK<|qS<|gS rfl rfl<|sM rfl<|sF h (fun h => ?_) fun h => ?_
 ·refine sM rfl<|sK<|sK<|sT<|sM rfl<|k3<|sT<|sM rfl<|k3<|sT<|sN ?_
  refine cT<|gS rfl rfl<|sV .cu<|sV (rI 1)<|sN<|qR ?_
  exact oI h▸qD
 refine sM rfl<|sM rfl<|sV (rB (x2.2 != (0 : Int)))<|sF h (fun h => ?_) fun h => ?_
 ·refine sM rfl<|k3<|sT<|sM rfl<|k3<|sT<|sN<|cT<|gS rfl rfl<|sV .cu<|sV (rI 1) ?_
  refine sN<|qR ?_
  exact oI h▸qD
 refine sM rfl<|sV (.d (ac.pd a3))<|bE h fun x6 hx6 h => cD (sk hx6)<|sV (rB (!x6))<|sF h (fun h => ?_) fun h => ?_
 ·refine sM rfl<|k3<|sT<|sN<|cT<|gS rfl rfl<|sV .cu<|sV (rI 1)<|sN<|qR ?_
  exact oI h▸qD
 refine sM rfl<|sV (.d (ac.pd a4))<|bE h fun x8 hx8 h => cD (sk hx8)<|sV (rB (!x8))<|sF h (fun h => ?_) fun h => ?_
 ·refine sN<|cT<|gS rfl rfl<|sV .cu<|sV (rI 1)<|sN<|qR ?_
  exact oI h▸qD
 refine sN<|cF<|qK<|gS rfl rfl<|sV .cu<|sN<|qS<|gS rfl rfl<|sV (r0)<|sN<|bE h fun o20 ho20 h => WC.block (WC.loop (WL.cv ho20 (fun s R' B' => bg prog 0 (A R' B') (aw.at_ 26 0 9) = some (A [(8, .ptr 128 0), (9, .ptr 144 0), (12, .d (.lst (x1.1.map (fun l => PD.lst (l.map aa.pd))))), (14, .d (.lst (x2.1.map (fun l => PD.lst (l.map aa.pd))))), (16, .ref 1056 0), (17, rI s.1)] [(128, .var [.d (.lst (a3.al.map ae.pd))]), (144, .var [.d (.lst (a4.al.map ae.pd))]), (1056, .arr 0 3 (s.2.map (PD.int .i64)))])) (fun o e R' B' => e = .exit 0 ∧ bg prog 0 (A R' B') (aw.at_ 26 0 13) = some (A [(16, .ref 1056 0)] [(1056, .arr 0 3 (o.map (PD.int .i64)))])) rfl ?_ ?_))
 ·rintro ⟨s10, s11⟩ R' B' q13 hI h
  refine qS<|gS rfl hI<|sM rfl<|sM rfl<|sE (rI (x2.1.length : Int)) (b8 _ _)<|sF h (fun h => ?_) fun h => ?_
  ·refine sN<|cT<|qK<|qS<|qB<|WC.bX rfl rfl<|sM rfl<|sM rfl<|bE h fun x15 hx15 h => eG hx15 rfl<|sC rfl<|sM rfl<|sV (.d (ac.pd a3))<|sV (.d (ac.pd a4))<|bE h fun x16 hx16 h => ?_
   refine cD (ref39_Fresh_ev hx16)<|sF h (fun h => ?_) fun h => ?_
   ·refine sN<|sO<|cT<|WC.region rfl rfl<|sM rfl<|sM rfl<|sV (.d (.lst ([s10].map (PD.int .i64))))<|bE h fun x18 hx18 h => aR hx18 (fun _ => rfl) rfl<|sA rfl<|sN<|WC.region rfl rfl<|sM rfl<|sV (rI (rW (s10 + (1 : Int))))<|sA rfl<|sN ?_
    cases oI h
    exact ⟨rfl, rfl⟩
   refine sN<|sO<|cF<|qK<|WC.region rfl rfl<|sM rfl<|sV (rI (rW (s10 + (1 : Int))))<|sA rfl<|sN ?_
   cases oI h
   exact ⟨rfl, rfl⟩
  refine sN<|cF<|qX ?_
  cases oI h
  exact ⟨nofun, rfl, rfl⟩
 intro e R' B' he hq
 obtain ⟨rfl, hI⟩ := hq
 refine qE<|gS rfl hI<|sM rfl<|sA rfl<|sV (r0)<|sN<|qR ?_
 exact oI h▸qD
theorem keep_Ints_ev {a0 : (List Int)} {a1 : (List Int)} {r : Bool} (h : rE a0 a1 = some r) : EvP prog aw ext 27 [.d (.lst (a0.map (PD.int .i64))), .d (.lst (a1.map (PD.int .i64)))] [] (rB r, []) := by
 refine Ev.body rfl Tryz.func27 rfl (by kernel_rfl)<|gS rfl rfl<|sU<|sN<|qS<|gS rfl rfl<|sM rfl<|sE (rI (a0.length : Int)) (b8 _ _)<|sM rfl<|sE (rI (a1.length : Int)) (b8 _ _)<|sF h (fun h => ?_) fun h => ?_
 ·refine sN<|cT<|gS rfl rfl<|sU<|sN<|qR ?_
  exact oI h▸qD
 refine sN<|cF<|qK<|qS<|gS rfl rfl<|sM rfl<|sE (rI (a0.length : Int)) (b8 _ _)<|sV (r0)<|sN<|bE h fun o9 ho9 h => WC.block (WC.loop (WL.cv ho9 (fun s R' B' => bg prog 0 (A R' B') (aw.at_ 27 0 4) = some (A [(0, .d (.lst (a0.map (PD.int .i64)))), (1, .d (.lst (a1.map (PD.int .i64)))), (12, rI (a0.length : Int)), (13, rI s)] [])) (fun o e R' B' => match o with | .inl y => e = .exit 0 ∧ bg prog 0 (A R' B') (aw.at_ 27 0 9) = some (A [] []) | .inr r => e = .ret ∧ finish prog (aw.own 27) Tryz.f27 0 (A R' B') = some (rB r, [])) rfl ?_ ?_))
 ·rintro s2 R' B' q3 hI h
  refine gS rfl hI<|sF h (fun h => ?_) fun h => ?_
  ·refine sN<|qS<|cT<|qK<|qS<|qB<|gS rfl rfl<|sM rfl<|sA rfl<|sN<|WC.bX rfl rfl<|sM rfl<|sM rfl<|bE h fun x5 hx5 h => eG hx5 rfl ?_
   refine sC rfl<|sM rfl<|sM rfl<|bE h fun x6 hx6 h => eG hx6 rfl<|sC rfl<|sF h (fun h => ?_) fun h => ?_
   ·refine sN<|sO<|cT<|gS rfl rfl<|sU<|sN<|qR ?_
    cases oI h
    exact ⟨nofun, rfl, rfl⟩
   refine sN<|sO<|cF<|qK<|WC.region rfl rfl<|sV (rI (rW (s2 + (1 : Int))))<|sM rfl<|sN ?_
   cases oI h
   exact ⟨rfl, rfl⟩
  refine sN<|qS<|cF<|qX ?_
  cases oI h
  exact ⟨nofun, rfl, rfl⟩
 intro e R' B' he hq
 rcases o9 with y10 | r11
 ·obtain ⟨rfl, hI⟩ := hq
  refine qE<|gS rfl hI<|sT<|sN<|qR ?_
  exact oI h▸qD
 obtain ⟨rfl, hf⟩ := hq
 cases oI h
 exact hf
theorem se {a0 : Int} {a1 : (List aa)} {a2 : (List aa)} {a3 : ac} {a4 : (List Int)} {r : Bool} (h : f9 a0 a1 a2 a3 a4 = some r) : EvP prog aw ext 4 [rI a0, .d (.lst (a1.map aa.pd)), .d (.lst (a2.map aa.pd)), .d (ac.pd a3), .d (.lst (a4.map (PD.int .i64)))] [] (rB r, []) := by
 refine Ev.body rfl Tryz.func4 rfl (by kernel_rfl)<|gS rfl rfl<|sB (.ptr 128 0) 128 (.var [.d (.lst (a3.al.map ae.pd))])<|sU<|sN<|qS<|gS rfl rfl<|sM rfl<|sE (rI (a1.length : Int)) (b8 _ _)<|sF h (fun h => ?_) fun h => ?_
 ·refine sM rfl<|k3<|sT<|sM rfl<|k3<|sT<|sN<|cT<|gS rfl rfl<|bE h fun x2 hx2 h => cD (eu hx2) ?_
  refine sA rfl<|sN<|qR ?_
  exact oI h▸qD
 refine sM rfl<|sM rfl<|sE (rI (a2.length : Int)) (b8 _ _)<|sV (rB (decide ((a2.length : Int) > (20 : Int))))<|sF h (fun h => ?_) fun h => ?_
 ·refine sM rfl<|k3<|sT<|sN<|cT<|gS rfl rfl<|bE h fun x4 hx4 h => cD (eu hx4)<|sA rfl<|sN<|qR ?_
  exact oI h▸qD
 refine sM rfl<|sV (.d (ac.pd a3))<|bE h fun x5 hx5 h => cD (uz hx5)<|sV (rB (!x5))<|sF h (fun h => ?_) fun h => ?_
 ·refine sN<|cT<|gS rfl rfl<|bE h fun x7 hx7 h => cD (eu hx7)<|sA rfl<|sN<|qR ?_
  exact oI h▸qD
 refine sN<|cF<|qK<|gS rfl rfl<|sM rfl<|bE h fun x8 hx8 h => cR (.ptr 832 0) [(832, .var [.d (.lst (x8.fL.map (PD.int .i64))), rI x8.fAt])] (qf hx8)<|sA rfl<|sN<|gS rfl rfl<|sM rfl<|bE h fun x9 hx9 h => cR (.d (aI.pd x9.1)) [(832, .var [.d (.lst (x9.2.fL.map (PD.int .i64))), rI x9.2.fAt])] (kg hx9)<|sM rfl<|bE h fun x10 hx10 h => ?_
 refine cR (.d (ac.pd x10.1)) [(832, .var [.d (.lst (x10.2.fL.map (PD.int .i64))), rI x10.2.fAt])] (nV hx10)<|sB (.ptr 192 0) 192 (.var zZ0)<|sB (.ptr 208 0) 208 (.var [.cu])<|sH 192 (.var (aI.rc x9.1))<|sS 208 (.var [.d (.lst (x10.1.al.map ae.pd))])<|sN<|gS rfl rfl<|sM rfl<|sV (.d (.agg [.int .i64 x9.1.au.aW.bd.fX, .int .i64 x9.1.au.aW.bd.fY, .int .i64 x9.1.au.aW.bd.fZ, .int .i64 x9.1.au.aW.aZ.fX, .int .i64 x9.1.au.aW.aZ.fY, .int .i64 x9.1.au.aW.aZ.fZ, .int .i64 x9.1.au.bp.bJ, .lst (x9.1.au.bp.bd.map (PD.int .i64)), .lst (x9.1.au.bp.aZ.map (PD.int .i64)), .int .i64 x9.1.au.xw, .int .i64 x9.1.au.bw, .int .i64 x9.1.au.nZ, .int .i64 x9.1.au.na, .int .i64 x9.1.au.m9, .int .i64 x9.1.b9.a7.bJ, .lst (x9.1.b9.a7.bd.map (PD.int .i64)), .lst (x9.1.b9.a7.aZ.map (PD.int .i64)), .int .i64 x9.1.b9.aU, .int .i64 x9.1.b9.aS, .int .i64 x9.1.bw]))<|sV (.d (.agg [.lst (x10.1.al.map ae.pd)]))<|bE h fun x11 hx11 h => cR (.d (.lst (x11.1.map aa.pd))) [(832, .var [.d (.lst (x11.2.fL.map (PD.int .i64))), rI x11.2.fAt])] (jU hx11)<|sA rfl<|sN<|gS rfl rfl ?_
 refine sM rfl<|sM rfl<|sM rfl<|sV (.d (.agg [.int .i64 x9.1.au.aW.bd.fX, .int .i64 x9.1.au.aW.bd.fY, .int .i64 x9.1.au.aW.bd.fZ, .int .i64 x9.1.au.aW.aZ.fX, .int .i64 x9.1.au.aW.aZ.fY, .int .i64 x9.1.au.aW.aZ.fZ, .int .i64 x9.1.au.bp.bJ, .lst (x9.1.au.bp.bd.map (PD.int .i64)), .lst (x9.1.au.bp.aZ.map (PD.int .i64)), .int .i64 x9.1.au.xw, .int .i64 x9.1.au.bw, .int .i64 x9.1.au.nZ, .int .i64 x9.1.au.na, .int .i64 x9.1.au.m9, .int .i64 x9.1.b9.a7.bJ, .lst (x9.1.b9.a7.bd.map (PD.int .i64)), .lst (x9.1.b9.a7.aZ.map (PD.int .i64)), .int .i64 x9.1.b9.aU, .int .i64 x9.1.b9.aS, .int .i64 x9.1.bw]))<|sV (.d (.agg [.lst (x10.1.al.map ae.pd)]))<|bE h fun x12 hx12 h => cR (.d (.lst (x12.1.map aa.pd))) [(832, .var [.d (.lst (x12.2.fL.map (PD.int .i64))), rI x12.2.fAt])] (jU hx12)<|bE h fun x13 hx13 h => cR (.d (.lst (x13.1.map aa.pd))) [(832, .var [.d (.lst (x13.2.fL.map (PD.int .i64))), rI x13.2.fAt])] (ve hx13)<|sA rfl<|sN<|gS rfl rfl<|sM rfl<|sV (.d (.agg [.lst (x10.1.al.map ae.pd)]))<|bE h fun x14 hx14 h => ?_
 refine cR (.d (ac.pd x14.1)) [(832, .var [.d (.lst (x14.2.fL.map (PD.int .i64))), rI x14.2.fAt])] (oT hx14)<|sB (.ptr 256 0) 256 (.var [.cu])<|sS 256 (.var [.d (.lst (x14.1.al.map ae.pd))])<|sN<|gS rfl rfl<|sB (.ref 1136 0) 1136 (.arr 0 52 (([] : List aa).map aa.pd))<|sM rfl<|bE h fun x15 hx15 h => aR hx15 (fun _ => rfl) rfl<|sA rfl<|sN<|WC.join (α := (List aa) × (List Int) × Int) (fun x R' B' => bg prog 0 (A R' B') (aw.at_ 4 0 11) = some (A [(0, rI a0), (1, .d (.lst (a1.map aa.pd))), (2, .d (.lst (a2.map aa.pd))), (8, .ptr 128 0), (11, .ptr 832 0), (13, .ptr 208 0), (14, .d (.lst (x11.1.map aa.pd))), (15, .d (.lst (x13.1.map aa.pd))), (16, .ptr 256 0), (17, .d (.lst (x.1.map aa.pd)))] [(128, .var [.d (.lst (a3.al.map ae.pd))]), (208, .var [.d (.lst (x10.1.al.map ae.pd))]), (256, .var [.d (.lst (x14.1.al.map ae.pd))]), (832, .var [.d (.lst (x.2.1.map (PD.int .i64))), rI x.2.2])])) (fun x => da a0 x11 a1 x13 a2 x14 a3 x10 x.1 x.2.1 x.2.2 = some r) ?_ ?_
 ·refine gS rfl rfl<|sM rfl<|WO.kb rfl rfl rfl rfl rfl rfl rfl rfl rfl<|sF h (fun h => ?_) fun h => ?_
  ·refine sN<|cT<|WC.region rfl rfl<|sM rfl<|sM rfl<|sM rfl<|bE h fun x100 hx100 h => WO.eE hx100 rfl rfl rfl rfl rfl rfl rfl rfl<|bE h fun x101 hx101 h => WO.eD hx101 rfl rfl rfl rfl rfl rfl<|bE h fun x102 hx102 h => cR (.d (aa.pd x102.1)) [(832, .var [.d (.lst (x102.2.fL.map (PD.int .i64))), rI x102.2.fAt])] (Src_BentPick_ev hx102)<|bE h fun x104 hx104 h => WO.eE hx104 rfl rfl rfl rfl rfl rfl rfl rfl<|bE h fun x105 hx105 h => ?_
   exact WO.jP (g := aa.pd) (sz := 9) (p := aa.pd x102.1) hx105 (by intro _; kernel_rfl) (by intro _; kernel_rfl) rfl rfl rfl rfl rfl rfl rfl rfl rfl<|sN<|⟨(x105, x102.2.fL, x102.2.fAt), rfl, h⟩
  exact sN<|cF<|qK<|⟨(x15, x14.2.fL, x14.2.fAt), rfl, h⟩
 rintro ⟨j16, j17, j18⟩ R' B' hI h
 refine qS<|gS rfl hI<|sM rfl<|sM rfl<|sV (.d (.lst ([0, 10, 100, 400].map (PD.int .i64))))<|bE h fun x19 hx19 h => cR (rI x19.1) [(832, .var [.d (.lst (x19.2.fL.map (PD.int .i64))), rI x19.2.fAt])] (cz hx19)<|sM rfl<|sV (.d (.lst ([-1, 1099511627776, 1099511627777].map (PD.int .i64))))<|bE h fun x20 hx20 h => cR (rI x20.1) [(832, .var [.d (.lst (x20.2.fL.map (PD.int .i64))), rI x20.2.fAt])] (cz hx20)<|sV (.d (.lst ([a0, x19.1, x20.1].map (PD.int .i64))))<|sV (rI 3)<|sV (r0)<|sN ?_
 refine bE h fun o93 ho93 h => WC.block (WC.loop (WL.cv ho93 (fun s R' B' => bg prog 0 (A R' B') (aw.at_ 4 0 12) = some (A [(1, .d (.lst (a1.map aa.pd))), (2, .d (.lst (a2.map aa.pd))), (8, .ptr 128 0), (13, .ptr 208 0), (14, .d (.lst (x11.1.map aa.pd))), (15, .d (.lst (x13.1.map aa.pd))), (16, .ptr 256 0), (17, .d (.lst (j16.map aa.pd))), (91, .d (.lst ([a0, x19.1, x20.1].map (PD.int .i64)))), (92, rI 3), (93, rI s)] [(128, .var [.d (.lst (a3.al.map ae.pd))]), (208, .var [.d (.lst (x10.1.al.map ae.pd))]), (256, .var [.d (.lst (x14.1.al.map ae.pd))])])) (fun o e R' B' => match o with | .inl y => e = .exit 0 ∧ bg prog 0 (A R' B') (aw.at_ 4 0 47) = some (A [] []) | .inr r => e = .ret ∧ finish prog (aw.own 4) Tryz.f4 0 (A R' B') = some (rB r, [])) rfl ?_ ?_))
 ·rintro s21 R' B' q22 hI h
  refine gS rfl hI<|sF h (fun h => ?_) fun h => ?_
  ·refine sN<|qS<|cT<|qK<|qS<|qB<|gS rfl rfl<|bE h fun x24 hx24 h => eG hx24 rfl<|sC rfl<|sA rfl<|sN<|gS rfl rfl<|sM rfl<|sM rfl ?_
   refine sM rfl<|sV (.d (.lst ([x11.1, a1, j16].map (fun l => PD.lst (l.map aa.pd)))))<|sV (rI 3)<|sV (r0)<|sN<|bE h fun o89 ho89 h => WC.block (WC.loop (WL.cv ho89 (fun s R' B' => bg prog 0 (A R' B') (aw.at_ 4 0 15) = some (A [(1, .d (.lst (a1.map aa.pd))), (2, .d (.lst (a2.map aa.pd))), (8, .ptr 128 0), (13, .ptr 208 0), (14, .d (.lst (x11.1.map aa.pd))), (15, .d (.lst (x13.1.map aa.pd))), (16, .ptr 256 0), (17, .d (.lst (j16.map aa.pd))), (19, rI x24), (91, .d (.lst ([a0, x19.1, x20.1].map (PD.int .i64)))), (92, rI 3), (93, rI s.1), (100, .d (.lst ([x11.1, a1, j16].map (fun l => PD.lst (l.map aa.pd))))), (101, rI 3), (102, rI s.2)] [(128, .var [.d (.lst (a3.al.map ae.pd))]), (208, .var [.d (.lst (x10.1.al.map ae.pd))]), (256, .var [.d (.lst (x14.1.al.map ae.pd))])])) (fun o e R' B' => match o with | .inl y => e = .exit 2 ∧ bg prog 0 (A R' B') (aw.at_ 4 0 46) = some (A [(1, .d (.lst (a1.map aa.pd))), (2, .d (.lst (a2.map aa.pd))), (8, .ptr 128 0), (13, .ptr 208 0), (14, .d (.lst (x11.1.map aa.pd))), (15, .d (.lst (x13.1.map aa.pd))), (16, .ptr 256 0), (17, .d (.lst (j16.map aa.pd))), (91, .d (.lst ([a0, x19.1, x20.1].map (PD.int .i64)))), (92, rI 3), (93, rI y)] [(128, .var [.d (.lst (a3.al.map ae.pd))]), (208, .var [.d (.lst (x10.1.al.map ae.pd))]), (256, .var [.d (.lst (x14.1.al.map ae.pd))])]) | .inr r => e = .ret ∧ finish prog (aw.own 4) Tryz.f4 0 (A R' B') = some (rB r, [])) rfl ?_ ?_))
   ·rintro ⟨s25, s26⟩ R' B' q28 hI h
    refine gS rfl hI<|sF h (fun h => ?_) fun h => ?_
    ·refine sN<|qS<|cT<|qK<|qS<|qB<|gS rfl rfl<|bE h fun x30 hx30 h => eG hx30 rfl<|sC rfl<|sA rfl<|sN<|gS rfl rfl<|sM rfl<|sM rfl ?_
     refine bE h fun x31 hx31 h => cR (.tup [.d (.lst (x31.1.map (fun l => PD.lst (l.map aa.pd)))), rI x31.2]) [] (e8 hx31)<|sM rfl<|sV (.d (.lst (x31.1.map (fun l => PD.lst (l.map aa.pd)))))<|sV (rI x31.2)<|sA rfl<|sA rfl<|sN<|gS rfl rfl<|sM rfl<|sM rfl<|bE h fun x32 hx32 h => cR (.tup [.d (.lst (x32.1.map (fun l => PD.lst (l.map aa.pd)))), rI x32.2]) [] (pz hx32)<|sM rfl<|sV (.d (.lst (x32.1.map (fun l => PD.lst (l.map aa.pd))))) ?_
     refine sV (rI x32.2)<|sA rfl<|sA rfl<|sN<|qS<|gS rfl rfl<|sM rfl<|sM rfl<|sF h (fun h => ?_) fun h => ?_
     ·refine sM rfl<|k3<|sK<|sK<|sT<|sM rfl<|k3<|k3<|sT ?_
      refine sN<|cT<|gS rfl rfl<|sU<|sN<|qR ?_
      cases oI h
      exact ⟨nofun, rfl, rfl⟩
     refine sM rfl<|sM rfl<|sE (rI (x31.1.length : Int)) (b8 _ _)<|sM rfl<|sE (rI (x32.1.length : Int)) (b8 _ _)<|sV (rB ((x31.1.length : Int) != (x32.1.length : Int)))<|sF h (fun h => ?_) fun h => ?_
     ·refine sM rfl<|k3<|k3<|sT<|sN<|cT<|gS rfl rfl<|sU<|sN<|qR ?_
      cases oI h
      exact ⟨nofun, rfl, rfl⟩
     refine sM rfl<|sM rfl<|bE h fun x35 hx35 h => cD (kE hx35)<|sM rfl<|bE h fun x36 hx36 h => cD (ref39_Depends_ev hx36)<|bE h fun x37 hx37 h => cD (oO hx37)<|sV (rB (!x37))<|sF h (fun h => ?_) fun h => ?_
     ·refine sN<|cT<|gS rfl rfl<|sU<|sN<|qR ?_
      cases oI h
      exact ⟨nofun, rfl, rfl⟩
     refine sN<|cF<|qK<|qS<|gS rfl rfl<|sM rfl<|sE (rI (x31.1.length : Int)) (b8 _ _)<|sV (r0)<|sN<|bE h fun o49 ho49 h => WC.block (WC.loop (WL.cv ho49 (fun s R' B' => bg prog 0 (A R' B') (aw.at_ 4 0 22) = some (A [(1, .d (.lst (a1.map aa.pd))), (2, .d (.lst (a2.map aa.pd))), (8, .ptr 128 0), (13, .ptr 208 0), (14, .d (.lst (x11.1.map aa.pd))), (15, .d (.lst (x13.1.map aa.pd))), (16, .ptr 256 0), (17, .d (.lst (j16.map aa.pd))), (19, rI x24), (21, .d (.lst (x30.map aa.pd))), (22, .d (.lst (x31.1.map (fun l => PD.lst (l.map aa.pd))))), (24, .d (.lst (x32.1.map (fun l => PD.lst (l.map aa.pd))))), (91, .d (.lst ([a0, x19.1, x20.1].map (PD.int .i64)))), (92, rI 3), (93, rI s25), (100, .d (.lst ([x11.1, a1, j16].map (fun l => PD.lst (l.map aa.pd))))), (101, rI 3), (102, rI s26), (137, rI (x31.1.length : Int)), (138, rI s)] [(128, .var [.d (.lst (a3.al.map ae.pd))]), (208, .var [.d (.lst (x10.1.al.map ae.pd))]), (256, .var [.d (.lst (x14.1.al.map ae.pd))])])) (fun o e R' B' => match o with | .inl y => e = .exit 4 ∧ bg prog 0 (A R' B') (aw.at_ 4 0 27) = some (A [(1, .d (.lst (a1.map aa.pd))), (2, .d (.lst (a2.map aa.pd))), (8, .ptr 128 0), (13, .ptr 208 0), (14, .d (.lst (x11.1.map aa.pd))), (15, .d (.lst (x13.1.map aa.pd))), (16, .ptr 256 0), (17, .d (.lst (j16.map aa.pd))), (19, rI x24), (21, .d (.lst (x30.map aa.pd))), (91, .d (.lst ([a0, x19.1, x20.1].map (PD.int .i64)))), (92, rI 3), (93, rI y.1), (100, .d (.lst ([x11.1, a1, j16].map (fun l => PD.lst (l.map aa.pd))))), (101, rI 3), (102, rI y.2)] [(128, .var [.d (.lst (a3.al.map ae.pd))]), (208, .var [.d (.lst (x10.1.al.map ae.pd))]), (256, .var [.d (.lst (x14.1.al.map ae.pd))])]) | .inr r => e = .ret ∧ finish prog (aw.own 4) Tryz.f4 0 (A R' B') = some (rB r, [])) rfl ?_ ?_))
     ·rintro s39 R' B' q42 hI h
      refine gS rfl hI<|sF h (fun h => ?_) fun h => ?_
      ·refine sN<|qS<|cT<|qK<|qS<|qB<|gS rfl rfl<|sM rfl<|sA rfl<|sN<|WC.bX rfl rfl<|sM rfl<|sM rfl<|bE h fun x44 hx44 h => eG hx44 rfl ?_
       refine sC rfl<|sM rfl<|sM rfl<|bE h fun x45 hx45 h => eG hx45 rfl<|sC rfl<|bE h fun x46 hx46 h => cD (kd hx46)<|sF h (fun h => ?_) fun h => ?_
       ·refine sN<|sO<|cT<|gS rfl rfl<|sU<|sN<|qR ?_
        cases oI h
        exact ⟨nofun, rfl, rfl⟩
       refine sN<|sO<|cF<|qK<|WC.region rfl rfl<|sV (rI (rW (s39 + (1 : Int))))<|sM rfl<|sN ?_
       cases oI h
       exact ⟨rfl, rfl⟩
      refine sN<|qS<|cF<|qX ?_
      cases oI h
      exact ⟨nofun, rfl, rfl⟩
     intro e R' B' he hq
     rcases o49 with y50 | r51
     ·obtain ⟨rfl, hI⟩ := hq
      refine qE<|qS<|gS rfl hI<|sM rfl<|sM rfl<|sV (.d (.lst ([x13.1, a2].map (fun l => PD.lst (l.map aa.pd)))))<|sV (rI 2)<|sV (r0)<|sN<|bE h fun o71 ho71 h => WC.block (WC.loop (WL.cv ho71 (fun s R' B' => bg prog 0 (A R' B') (aw.at_ 4 0 28) = some (A [(1, .d (.lst (a1.map aa.pd))), (2, .d (.lst (a2.map aa.pd))), (8, .ptr 128 0), (13, .ptr 208 0), (14, .d (.lst (x11.1.map aa.pd))), (15, .d (.lst (x13.1.map aa.pd))), (16, .ptr 256 0), (17, .d (.lst (j16.map aa.pd))), (19, rI x24), (21, .d (.lst (x30.map aa.pd))), (91, .d (.lst ([a0, x19.1, x20.1].map (PD.int .i64)))), (92, rI 3), (93, rI y50.1), (100, .d (.lst ([x11.1, a1, j16].map (fun l => PD.lst (l.map aa.pd))))), (101, rI 3), (102, rI y50.2), (154, .d (.lst ([x13.1, a2].map (fun l => PD.lst (l.map aa.pd))))), (155, rI 2), (156, rI s)] [(128, .var [.d (.lst (a3.al.map ae.pd))]), (208, .var [.d (.lst (x10.1.al.map ae.pd))]), (256, .var [.d (.lst (x14.1.al.map ae.pd))])])) (fun o e R' B' => match o with | .inl y => e = .exit 6 ∧ bg prog 0 (A R' B') (aw.at_ 4 0 39) = some (A [(1, .d (.lst (a1.map aa.pd))), (2, .d (.lst (a2.map aa.pd))), (8, .ptr 128 0), (13, .ptr 208 0), (14, .d (.lst (x11.1.map aa.pd))), (15, .d (.lst (x13.1.map aa.pd))), (16, .ptr 256 0), (17, .d (.lst (j16.map aa.pd))), (19, rI x24), (21, .d (.lst (x30.map aa.pd))), (91, .d (.lst ([a0, x19.1, x20.1].map (PD.int .i64)))), (92, rI 3), (93, rI y50.1), (100, .d (.lst ([x11.1, a1, j16].map (fun l => PD.lst (l.map aa.pd))))), (101, rI 3), (102, rI y50.2)] [(128, .var [.d (.lst (a3.al.map ae.pd))]), (208, .var [.d (.lst (x10.1.al.map ae.pd))]), (256, .var [.d (.lst (x14.1.al.map ae.pd))])]) | .inr r => e = .ret ∧ finish prog (aw.own 4) Tryz.f4 0 (A R' B') = some (rB r, [])) rfl ?_ ?_))
      ·rintro s52 R' B' q53 hI h
       refine gS rfl hI<|sF h (fun h => ?_) fun h => ?_
       ·refine sN<|qS<|cT<|qK<|qS<|qB<|gS rfl rfl<|bE h fun x55 hx55 h => eG hx55 rfl<|sC rfl<|sA rfl<|sN<|gS rfl rfl<|sV (.d (.agg [.lst (x14.1.al.map ae.pd)]))<|sV (.d (ac.pd a3)) ?_
        refine sV (.d (.lst ([x14.1, a3].map ac.pd)))<|sV (rI 2)<|sV (r0)<|sN<|bE h fun o67 ho67 h => WC.block (WC.loop (WL.cv ho67 (fun s R' B' => bg prog 0 (A R' B') (aw.at_ 4 0 31) = some (A [(1, .d (.lst (a1.map aa.pd))), (2, .d (.lst (a2.map aa.pd))), (8, .ptr 128 0), (13, .ptr 208 0), (14, .d (.lst (x11.1.map aa.pd))), (15, .d (.lst (x13.1.map aa.pd))), (16, .ptr 256 0), (17, .d (.lst (j16.map aa.pd))), (19, rI x24), (21, .d (.lst (x30.map aa.pd))), (28, .d (.lst (x55.map aa.pd))), (91, .d (.lst ([a0, x19.1, x20.1].map (PD.int .i64)))), (92, rI 3), (93, rI y50.1), (100, .d (.lst ([x11.1, a1, j16].map (fun l => PD.lst (l.map aa.pd))))), (101, rI 3), (102, rI y50.2), (154, .d (.lst ([x13.1, a2].map (fun l => PD.lst (l.map aa.pd))))), (155, rI 2), (156, rI s52), (162, .d (.lst ([x14.1, a3].map ac.pd))), (163, rI 2), (164, rI s)] [(128, .var [.d (.lst (a3.al.map ae.pd))]), (208, .var [.d (.lst (x10.1.al.map ae.pd))]), (256, .var [.d (.lst (x14.1.al.map ae.pd))])])) (fun o e R' B' => match o with | .inl y => e = .exit 8 ∧ bg prog 0 (A R' B') (aw.at_ 4 0 38) = some (A [(1, .d (.lst (a1.map aa.pd))), (2, .d (.lst (a2.map aa.pd))), (8, .ptr 128 0), (13, .ptr 208 0), (14, .d (.lst (x11.1.map aa.pd))), (15, .d (.lst (x13.1.map aa.pd))), (16, .ptr 256 0), (17, .d (.lst (j16.map aa.pd))), (19, rI x24), (21, .d (.lst (x30.map aa.pd))), (91, .d (.lst ([a0, x19.1, x20.1].map (PD.int .i64)))), (92, rI 3), (93, rI y50.1), (100, .d (.lst ([x11.1, a1, j16].map (fun l => PD.lst (l.map aa.pd))))), (101, rI 3), (102, rI y50.2), (154, .d (.lst ([x13.1, a2].map (fun l => PD.lst (l.map aa.pd))))), (155, rI 2), (156, rI y)] [(128, .var [.d (.lst (a3.al.map ae.pd))]), (208, .var [.d (.lst (x10.1.al.map ae.pd))]), (256, .var [.d (.lst (x14.1.al.map ae.pd))])]) | .inr r => e = .ret ∧ finish prog (aw.own 4) Tryz.f4 0 (A R' B') = some (rB r, [])) rfl ?_ ?_))
        ·rintro s56 R' B' q58 hI h
         refine gS rfl hI<|sF h (fun h => ?_) fun h => ?_
         ·refine sN<|qS<|cT<|qK<|qS<|qB<|gS rfl rfl<|bE h fun x60 hx60 h => eG hx60 rfl<|sV (.d (ac.pd x60))<|sB (.ptr 480 0) 480 (.var [.cu])<|sS 480 (.var [.d (.lst (x60.al.map ae.pd))])<|sN<|gS rfl rfl<|sM rfl ?_
          refine sM rfl<|sM rfl<|sV (.d (.agg [.lst (x10.1.al.map ae.pd)]))<|sV (.d (ac.pd x60))<|bE h fun x61 hx61 h => cR (.tup [.d (.lst (x61.1.map (PD.int .i64))), rI x61.2]) [] (l9 hx61)<|sM rfl<|sV (.d (.lst (x61.1.map (PD.int .i64))))<|sV (rI x61.2)<|sA rfl<|sA rfl<|sN<|gS rfl rfl<|sM rfl<|sM rfl ?_
          refine sM rfl<|sV (.d (.agg [.lst (x10.1.al.map ae.pd)]))<|sV (.d (ac.pd x60))<|bE h fun x62 hx62 h => cR (.tup [.d (.lst (x62.1.map (PD.int .i64))), rI x62.2]) [] (ref39_Stale_ev hx62)<|sM rfl<|sV (.d (.lst (x62.1.map (PD.int .i64))))<|sV (rI x62.2)<|sA rfl<|sA rfl<|sN<|gS rfl rfl<|sM rfl<|sM rfl<|sF h (fun h => ?_) fun h => ?_
          ·refine sM rfl<|k3<|sK<|sT<|sN<|cT<|gS rfl rfl<|sU<|sN<|qR ?_
           cases oI h
           exact ⟨nofun, rfl, rfl⟩
          refine sM rfl<|sM rfl<|sM rfl<|bE h fun x64 hx64 h => cD (keep_Ints_ev hx64)<|sV (rB (!x64))<|sF h (fun h => ?_) fun h => ?_
          ·refine sN<|cT<|gS rfl rfl<|sU<|sN<|qR ?_
           cases oI h
           exact ⟨nofun, rfl, rfl⟩
          refine sN<|cF<|qK<|WC.region rfl rfl<|sV (rI (rW (s56 + (1 : Int))))<|sM rfl<|sN ?_
          cases oI h
          exact ⟨rfl, rfl⟩
         refine sN<|qS<|cF<|qX ?_
         cases oI h
         exact ⟨nofun, rfl, rfl⟩
        intro e R' B' he hq
        rcases o67 with y68 | r69
        ·obtain ⟨rfl, hI⟩ := hq
         refine qE<|WC.region hI rfl<|sV (rI (rW (y68 + (1 : Int))))<|sM rfl<|sN ?_
         cases oI h
         exact ⟨rfl, rfl⟩
        obtain ⟨rfl, hf⟩ := hq
        cases oI h
        exact ⟨nofun, rfl, hf⟩
       refine sN<|qS<|cF<|qX ?_
       cases oI h
       exact ⟨nofun, rfl, rfl⟩
      intro e R' B' he hq
      rcases o71 with y72 | r73
      ·obtain ⟨rfl, hI⟩ := hq
       refine qE<|gS rfl hI<|sM rfl<|sE (rI (x30.length : Int)) (b8 _ _)<|sV (r0)<|sN<|bE h fun o85 ho85 h => WC.block (WC.loop (WL.cv ho85 (fun s R' B' => bg prog 0 (A R' B') (aw.at_ 4 0 40) = some (A [(1, .d (.lst (a1.map aa.pd))), (2, .d (.lst (a2.map aa.pd))), (8, .ptr 128 0), (13, .ptr 208 0), (14, .d (.lst (x11.1.map aa.pd))), (15, .d (.lst (x13.1.map aa.pd))), (16, .ptr 256 0), (17, .d (.lst (j16.map aa.pd))), (19, rI x24), (91, .d (.lst ([a0, x19.1, x20.1].map (PD.int .i64)))), (92, rI 3), (93, rI y50.1), (100, .d (.lst ([x11.1, a1, j16].map (fun l => PD.lst (l.map aa.pd))))), (101, rI 3), (102, rI y50.2), (197, .d (.lst (x30.map aa.pd))), (198, rI (x30.length : Int)), (199, rI s)] [(128, .var [.d (.lst (a3.al.map ae.pd))]), (208, .var [.d (.lst (x10.1.al.map ae.pd))]), (256, .var [.d (.lst (x14.1.al.map ae.pd))])])) (fun o e R' B' => match o with | .inl y => e = .exit 10 ∧ bg prog 0 (A R' B') (aw.at_ 4 0 45) = some (A [(1, .d (.lst (a1.map aa.pd))), (2, .d (.lst (a2.map aa.pd))), (8, .ptr 128 0), (13, .ptr 208 0), (14, .d (.lst (x11.1.map aa.pd))), (15, .d (.lst (x13.1.map aa.pd))), (16, .ptr 256 0), (17, .d (.lst (j16.map aa.pd))), (19, rI x24), (91, .d (.lst ([a0, x19.1, x20.1].map (PD.int .i64)))), (92, rI 3), (93, rI y50.1), (100, .d (.lst ([x11.1, a1, j16].map (fun l => PD.lst (l.map aa.pd))))), (101, rI 3), (102, rI y50.2)] [(128, .var [.d (.lst (a3.al.map ae.pd))]), (208, .var [.d (.lst (x10.1.al.map ae.pd))]), (256, .var [.d (.lst (x14.1.al.map ae.pd))])]) | .inr r => e = .ret ∧ finish prog (aw.own 4) Tryz.f4 0 (A R' B') = some (rB r, [])) rfl ?_ ?_))
       ·rintro s74 R' B' q75 hI h
        refine gS rfl hI<|sF h (fun h => ?_) fun h => ?_
        ·refine sN<|qS<|cT<|qK<|qS<|qB<|gS rfl rfl<|bE h fun x77 hx77 h => eG hx77 rfl<|sV (.d (aa.pd x77))<|sB (.ptr 576 0) 576 (.var zZ1)<|sH 576 (.var (aa.rc x77))<|sN<|WC.bX rfl rfl<|sV (.d (.agg [.lst (x10.1.al.map ae.pd)])) ?_
         refine sV (.d (.agg [.lst (x14.1.al.map ae.pd)]))<|sV (.d (aa.pd x77))<|bE h fun x78 hx78 h => cD (e9 hx78)<|sV (.d (.agg [.lst (x10.1.al.map ae.pd)]))<|sV (.d (.agg [.lst (x14.1.al.map ae.pd)]))<|sV (.d (aa.pd x77))<|bE h fun x79 hx79 h => cD (lT hx79)<|sF h (fun h => ?_) fun h => ?_
         ·refine sM rfl<|k3<|k3<|k3<|sT ?_
          refine sN<|sO<|cT<|gS rfl rfl<|sU<|sN<|qR ?_
          cases oI h
          exact ⟨nofun, rfl, rfl⟩
         refine sM rfl<|sV (.d (ac.pd a3))<|sV (.d (.agg [.lst (x10.1.al.map ae.pd)]))<|sV (.d (aa.pd x77))<|bE h fun x81 hx81 h => cD (e9 hx81)<|sV (.d (ac.pd a3))<|sV (.d (.agg [.lst (x10.1.al.map ae.pd)]))<|sV (.d (aa.pd x77))<|bE h fun x82 hx82 h => cD (lT hx82)<|sV (rB (!(x81 == x82)))<|sF h (fun h => ?_) fun h => ?_
         ·refine sN<|sO<|cT<|gS rfl rfl<|sU<|sN<|qR ?_
          cases oI h
          exact ⟨nofun, rfl, rfl⟩
         refine sN<|sO<|cF<|qK<|WC.region rfl rfl<|sV (rI (rW (s74 + (1 : Int))))<|sM rfl<|sN ?_
         cases oI h
         exact ⟨rfl, rfl⟩
        refine sN<|qS<|cF<|qX ?_
        cases oI h
        exact ⟨nofun, rfl, rfl⟩
       intro e R' B' he hq
       rcases o85 with y86 | r87
       ·obtain ⟨rfl, hI⟩ := hq
        refine qE<|WC.region hI rfl<|sV (rI (rW (y50.2 + (1 : Int))))<|sM rfl<|sN ?_
        cases oI h
        exact ⟨rfl, rfl⟩
       obtain ⟨rfl, hf⟩ := hq
       cases oI h
       exact ⟨nofun, rfl, hf⟩
      obtain ⟨rfl, hf⟩ := hq
      cases oI h
      exact ⟨nofun, rfl, hf⟩
     obtain ⟨rfl, hf⟩ := hq
     cases oI h
     exact ⟨nofun, rfl, hf⟩
    refine sN<|qS<|cF<|qX ?_
    cases oI h
    exact ⟨nofun, rfl, rfl⟩
   intro e R' B' he hq
   rcases o89 with y90 | r91
   ·obtain ⟨rfl, hI⟩ := hq
    refine qE<|WC.region hI rfl<|sV (rI (rW (y90 + (1 : Int))))<|sM rfl<|sN ?_
    cases oI h
    exact ⟨rfl, rfl⟩
   obtain ⟨rfl, hf⟩ := hq
   cases oI h
   exact ⟨nofun, rfl, hf⟩
  refine sN<|qS<|cF<|qX ?_
  cases oI h
  exact ⟨nofun, rfl, rfl⟩
 intro e R' B' he hq
 rcases o93 with y94 | r95
 ·obtain ⟨rfl, hI⟩ := hq
  refine qE<|gS rfl hI<|bE h fun x96 hx96 h => cD (eu hx96)<|sA rfl<|sN<|qR ?_
  exact oI h▸qD
 obtain ⟨rfl, hf⟩ := hq
 cases oI h
 exact hf
end Go.Dw.De
