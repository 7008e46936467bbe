
import Derived.Test.YtjecbkklfphblaaGreatSlEvA

set_option maxRecDepth 100000
set_option maxHeartbeats 4000000
namespace Go.Dw.Sl
open Go.Proofs Go.Proofs.Tryz Go.Dw
theorem session_Tick_ev {a0 : ah} {a1 : (List ae)} {a2 : (List ae)} {r : ah × Int} (h : gt a0 a1 a2 = some r) : EvP prog au ext 13 [.d (ah.pd a0), .d (.lst (a1.map ae.pd)), .d (.lst (a2.map ae.pd))] [] (.tup [.d (ah.pd r.1), rI r.2], []) := by
 refine Ev.body rfl Tryz.func13 rfl (by kernel_rfl)<|gS rfl rfl<|sB (.ptr 48 0) 48 (.var (ah.rc a0))<|sB (.ptr 96 0) 96 (.var zZ0)<|sV (r0)<|sN<|gS rfl rfl<|sV (.d (.raw (.func (.func 43) #[] #[])))<|sN<|qS<|gS rfl rfl<|sV (.d (ah.pd a0))<|bE h fun x1 hx1 h => cD (cv hx1)<|sF h (fun h => ?_) fun h => ?_
 ·refine sM rfl<|k3<|sT<|sM rfl<|k3<|sT<|sN<|cT<|gS rfl rfl<|sG (.agg zZ0)<|sH 96 (.var zZ0) ?_
  refine sV (rI 1)<|sN<|qR ?_
  cases oI h
  exact qG
 refine sM rfl<|sM rfl<|sM rfl<|bE h fun x3 hx3 h => cD (bX hx3)<|sF h (fun h => ?_) fun h => ?_
 ·refine sM rfl<|k3<|sT<|sN<|cT<|gS rfl rfl<|sG (.agg zZ0)<|sH 96 (.var zZ0)<|sV (rI 1)<|sN<|qR ?_
  cases oI h
  exact qG
 refine sM rfl<|sM rfl<|sM rfl<|bE h fun x5 hx5 h => cD (bX hx5)<|sF h (fun h => ?_) fun h => ?_
 ·refine sN<|cT<|gS rfl rfl<|sG (.agg zZ0)<|sH 96 (.var zZ0)<|sV (rI 1)<|sN<|qR ?_
  cases oI h
  exact qG
 refine sN<|cF<|qK<|qS<|gS rfl rfl<|sV (.ptr 48 0)<|sL rfl<|sF h (fun h => ?_) fun h => ?_
 ·refine sN<|cT<|gS rfl rfl<|sG (.agg zZ0)<|sH 96 (.var zZ0)<|sV (rI 8)<|sN<|qR ?_
  cases oI h
  exact qG
 refine sN<|cF<|qK<|gS rfl rfl<|sV (.d (ah.pd a0))<|bE h fun x8 hx8 h => cR (.agg [rI x8.az, rI x8.aD, rI x8.aI, rI x8.ar.aH, rI x8.ar.aC, .d (.lst (x8.ar.aG.map PD.str)), .d (.lst (x8.ap.aJ.map aa.pd)), .d (.lst (x8.ap.aF.map aa.pd)), rI x8.aB.az, rI x8.aB.aq, .d (.lst (x8.aB.av.map ac.pd)), rI x8.fUp.az, rI x8.fUp.aq, .d (.lst (x8.fUp.av.map ac.pd)), .ref 544 0]) [(544, .arr 0 50 (x8.aw.map aj.pd))] (eI hx8)<|sM rfl<|sM rfl<|sG (.agg [rI x8.az, rI x8.aD, rI x8.aI, rI x8.ar.aH, rI x8.ar.aC, .d (.lst (x8.ar.aG.map PD.str)), .d (.lst (x8.ap.aJ.map aa.pd)), .d (.lst (x8.ap.aF.map aa.pd)), rI x8.aB.az, rI x8.aB.aq, .d (.lst (x8.aB.av.map ac.pd)), rI x8.fUp.az, rI x8.fUp.aq, .d (.lst (x8.fUp.av.map ac.pd)), .ref 544 0, .d (.lst (a1.map ae.pd)), .d (.lst (a2.map ae.pd))])<|sB (.ptr 608 0) 608 (.var [rI x8.az, rI x8.aD, rI x8.aI, rI x8.ar.aH, rI x8.ar.aC, .d (.lst (x8.ar.aG.map PD.str)), .d (.lst (x8.ap.aJ.map aa.pd)), .d (.lst (x8.ap.aF.map aa.pd)), rI x8.aB.az, rI x8.aB.aq, .d (.lst (x8.aB.av.map ac.pd)), rI x8.fUp.az, rI x8.fUp.aq, .d (.lst (x8.fUp.av.map ac.pd)), .ref 544 0, .d (.lst (a1.map ae.pd)), .d (.lst (a2.map ae.pd))])<|sA rfl<|sN<|gS rfl rfl<|sM rfl ?_
 refine sV (.ptr 608 0)<|sV (.ptr 608 0)<|sV (.ptr 608 0)<|sL rfl<|sV (rI (rW (x8.az + (1 : Int))))<|sV (.ptr 608 0)<|sV (.ptr 608 0)<|sV (.ptr 608 0)<|sS 608 (.var [rI (rW (x8.az + (1 : Int))), rI x8.aD, rI x8.aI, rI x8.ar.aH, rI x8.ar.aC, .d (.lst (x8.ar.aG.map PD.str)), .d (.lst (x8.ap.aJ.map aa.pd)), .d (.lst (x8.ap.aF.map aa.pd)), rI x8.aB.az, rI x8.aB.aq, .d (.lst (x8.aB.av.map ac.pd)), rI x8.fUp.az, rI x8.fUp.aq, .d (.lst (x8.fUp.av.map ac.pd)), .ref 544 0, .d (.lst (a1.map ae.pd)), .d (.lst (a2.map ae.pd))])<|sN<|gS rfl rfl<|sV .nils<|sN<|gS rfl rfl<|sM rfl ?_
 refine sM rfl<|sV (.ptr 608 0)<|sV (.ptr 608 0)<|sV (.ptr 608 8)<|sV (.d (.agg [.int .i64 x8.aB.az, .int .i64 x8.aB.aq, .lst (x8.aB.av.map ac.pd)]))<|bE h fun x9 hx9 h => cR (.tup [.d (ai.pd x9.1), .d (.lst (x9.2.1.map PD.str)), rI x9.2.2]) [] (kC hx9)<|sM rfl<|sV (.d (ai.pd x9.1))<|sV (.d (.lst (x9.2.1.map PD.str)))<|sV (rI x9.2.2)<|sV (.ptr 608 0)<|sV (.ptr 608 0)<|sV (.ptr 608 8)<|sS 608 (.var [rI (rW (x8.az + (1 : Int))), rI x8.aD, rI x8.aI, rI x8.ar.aH, rI x8.ar.aC, .d (.lst (x8.ar.aG.map PD.str)), .d (.lst (x8.ap.aJ.map aa.pd)), .d (.lst (x8.ap.aF.map aa.pd)), rI x9.1.az, rI x9.1.aq, .d (.lst (x9.1.av.map ac.pd)), rI x8.fUp.az, rI x8.fUp.aq, .d (.lst (x8.fUp.av.map ac.pd)), .ref 544 0, .d (.lst (a1.map ae.pd)), .d (.lst (a2.map ae.pd))]) ?_
 refine sA rfl<|sN<|qS<|gS rfl rfl<|sM rfl<|sE (rI (x9.2.1.length : Int)) (lenMap _ _)<|sV (r0)<|sN<|bE h fun o51 ho51 h => WC.block (WC.loop (WL.ofLoop ho51 (fun s R' B' => ghosts prog 0 (A R' B') (au.at_ 13 0 11) = some (A [(6, .ptr 96 0), (9, .ptr 608 0), (62, .d (.lst (x9.2.1.map PD.str))), (63, rI (x9.2.1.length : Int)), (64, rI s.1)] [(96, .var zZ0), (544, .arr 0 50 (s.2.2.2.2.2.2.2.2.2.2.2.2.2.2.2.2.2.map aj.pd)), (608, .var [rI s.2.1, rI s.2.2.1, rI s.2.2.2.1, rI s.2.2.2.2.1, rI s.2.2.2.2.2.1, .d (.lst (s.2.2.2.2.2.2.1.map PD.str)), .d (.lst (s.2.2.2.2.2.2.2.1.map aa.pd)), .d (.lst (s.2.2.2.2.2.2.2.2.1.map aa.pd)), rI s.2.2.2.2.2.2.2.2.2.1, rI s.2.2.2.2.2.2.2.2.2.2.1, .d (.lst (s.2.2.2.2.2.2.2.2.2.2.2.1.map ac.pd)), rI s.2.2.2.2.2.2.2.2.2.2.2.2.1, rI s.2.2.2.2.2.2.2.2.2.2.2.2.2.1, .d (.lst (s.2.2.2.2.2.2.2.2.2.2.2.2.2.2.1.map ac.pd)), .ref 544 0, .d (.lst (s.2.2.2.2.2.2.2.2.2.2.2.2.2.2.2.1.map ae.pd)), .d (.lst (s.2.2.2.2.2.2.2.2.2.2.2.2.2.2.2.2.1.map ae.pd))])])) (fun o e R' B' => e = .exit 0 ∧ ghosts prog 0 (A R' B') (au.at_ 13 0 16) = some (A [(6, .ptr 96 0), (9, .ptr 608 0)] [(96, .var zZ0), (544, .arr 0 50 (o.2.2.2.2.2.2.2.2.2.2.2.2.2.2.2.2.map aj.pd)), (608, .var [rI o.1, rI o.2.1, rI o.2.2.1, rI o.2.2.2.1, rI o.2.2.2.2.1, .d (.lst (o.2.2.2.2.2.1.map PD.str)), .d (.lst (o.2.2.2.2.2.2.1.map aa.pd)), .d (.lst (o.2.2.2.2.2.2.2.1.map aa.pd)), rI o.2.2.2.2.2.2.2.2.1, rI o.2.2.2.2.2.2.2.2.2.1, .d (.lst (o.2.2.2.2.2.2.2.2.2.2.1.map ac.pd)), rI o.2.2.2.2.2.2.2.2.2.2.2.1, rI o.2.2.2.2.2.2.2.2.2.2.2.2.1, .d (.lst (o.2.2.2.2.2.2.2.2.2.2.2.2.2.1.map ac.pd)), .ref 544 0, .d (.lst (o.2.2.2.2.2.2.2.2.2.2.2.2.2.2.1.map ae.pd)), .d (.lst (o.2.2.2.2.2.2.2.2.2.2.2.2.2.2.2.1.map ae.pd))])])) rfl ?_ ?_))
 ·rintro ⟨s10, s11, s12, s13, s14, s15, s16, s17, s18, s19, s20, s21, s22, s23, s24, s25, s26, s27⟩ R' B' q45 hI h
  refine gS rfl hI<|sF h (fun h => ?_) fun h => ?_
  ·refine sN<|qS<|cT<|qK<|qS<|qB<|gS rfl rfl<|bE h fun x47 hx47 h => eG hx47 rfl<|sC rfl<|sA rfl<|sN<|gS rfl rfl<|sM rfl<|sM rfl ?_
   refine bE h fun x48 hx48 h => cR (.tup []) [(608, .var [rI x48.1, rI x48.2.1, rI x48.2.2.1, rI x48.2.2.2.1, rI x48.2.2.2.2.1, .d (.lst (x48.2.2.2.2.2.1.map PD.str)), .d (.lst (x48.2.2.2.2.2.2.1.map aa.pd)), .d (.lst (x48.2.2.2.2.2.2.2.1.map aa.pd)), rI x48.2.2.2.2.2.2.2.2.1, rI x48.2.2.2.2.2.2.2.2.2.1, .d (.lst (x48.2.2.2.2.2.2.2.2.2.2.1.map ac.pd)), rI x48.2.2.2.2.2.2.2.2.2.2.2.1, rI x48.2.2.2.2.2.2.2.2.2.2.2.2.1, .d (.lst (x48.2.2.2.2.2.2.2.2.2.2.2.2.2.1.map ac.pd)), .ref 544 1, .d (.lst (x48.2.2.2.2.2.2.2.2.2.2.2.2.2.2.1.map ae.pd)), .d (.lst (x48.2.2.2.2.2.2.2.2.2.2.2.2.2.2.2.1.map ae.pd))]), (544, .arr 1 50 (x48.2.2.2.2.2.2.2.2.2.2.2.2.2.2.2.2.map aj.pd))] (ends_data_ev hx48)<|sN<|WC.region rfl rfl<|sM rfl<|sM rfl<|bE h fun x49 hx49 h => cR (.tup []) [(608, .var [rI x49.1, rI x49.2.1, rI x49.2.2.1, rI x49.2.2.2.1, rI x49.2.2.2.2.1, .d (.lst (x49.2.2.2.2.2.1.map PD.str)), .d (.lst (x49.2.2.2.2.2.2.1.map aa.pd)), .d (.lst (x49.2.2.2.2.2.2.2.1.map aa.pd)), rI x49.2.2.2.2.2.2.2.2.1, rI x49.2.2.2.2.2.2.2.2.2.1, .d (.lst (x49.2.2.2.2.2.2.2.2.2.2.1.map ac.pd)), rI x49.2.2.2.2.2.2.2.2.2.2.2.1, rI x49.2.2.2.2.2.2.2.2.2.2.2.2.1, .d (.lst (x49.2.2.2.2.2.2.2.2.2.2.2.2.2.1.map ac.pd)), .ref 544 1, .d (.lst (x49.2.2.2.2.2.2.2.2.2.2.2.2.2.2.1.map ae.pd)), .d (.lst (x49.2.2.2.2.2.2.2.2.2.2.2.2.2.2.2.map ae.pd))]), (544, .arr 1 50 (x48.2.2.2.2.2.2.2.2.2.2.2.2.2.2.2.2.map aj.pd))] (ends_status_ev hx49)<|sN<|WC.region rfl rfl<|sV (rI (rW (s10 + (1 : Int))))<|sM rfl<|sN ?_
   cases oI h
   exact ⟨rfl, rfl⟩
  refine sN<|qS<|cF<|qX ?_
  cases oI h
  exact ⟨nofun, rfl, rfl⟩
 intro e R' B' he hq
 obtain ⟨rfl, hI⟩ := hq
 refine qE<|gS rfl hI<|sM rfl<|sM rfl<|sV (.ptr 608 0)<|sV (.ptr 608 0)<|sV (.ptr 608 11)<|sV (.d (ai.pd (ai.mk o51.2.2.2.2.2.2.2.2.2.2.2.1 o51.2.2.2.2.2.2.2.2.2.2.2.2.1 o51.2.2.2.2.2.2.2.2.2.2.2.2.2.1)))<|bE h fun x52 hx52 h => cR (.tup [.d (ai.pd x52.1), .d (.lst (x52.2.1.map PD.str)), rI x52.2.2]) [] (kC hx52)<|sM rfl<|sV (.d (ai.pd x52.1))<|sV (.d (.lst (x52.2.1.map PD.str)))<|sV (rI x52.2.2)<|sV (.ptr 608 0) ?_
 refine sV (.ptr 608 0)<|sV (.ptr 608 11)<|sS 608 (.var [rI o51.1, rI o51.2.1, rI o51.2.2.1, rI o51.2.2.2.1, rI o51.2.2.2.2.1, .d (.lst (o51.2.2.2.2.2.1.map PD.str)), .d (.lst (o51.2.2.2.2.2.2.1.map aa.pd)), .d (.lst (o51.2.2.2.2.2.2.2.1.map aa.pd)), rI o51.2.2.2.2.2.2.2.2.1, rI o51.2.2.2.2.2.2.2.2.2.1, .d (.lst (o51.2.2.2.2.2.2.2.2.2.2.1.map ac.pd)), rI x52.1.az, rI x52.1.aq, .d (.lst (x52.1.av.map ac.pd)), .ref 544 0, .d (.lst (o51.2.2.2.2.2.2.2.2.2.2.2.2.2.2.1.map ae.pd)), .d (.lst (o51.2.2.2.2.2.2.2.2.2.2.2.2.2.2.2.1.map ae.pd))])<|sA rfl<|sN<|qS<|gS rfl rfl<|sM rfl<|sE (rI (x52.2.1.length : Int)) (lenMap _ _)<|sV (r0)<|sN<|bE h fun o91 ho91 h => WC.block (WC.loop (WL.ofLoop ho91 (fun s R' B' => ghosts prog 0 (A R' B') (au.at_ 13 0 18) = some (A [(6, .ptr 96 0), (9, .ptr 608 0), (89, .d (.lst (x52.2.1.map PD.str))), (90, rI (x52.2.1.length : Int)), (91, rI s.1)] [(96, .var zZ0), (544, .arr 0 50 (o51.2.2.2.2.2.2.2.2.2.2.2.2.2.2.2.2.map aj.pd)), (608, .var [rI s.2.1, rI s.2.2.1, rI s.2.2.2.1, rI s.2.2.2.2.1, rI s.2.2.2.2.2.1, .d (.lst (s.2.2.2.2.2.2.1.map PD.str)), .d (.lst (s.2.2.2.2.2.2.2.1.map aa.pd)), .d (.lst (s.2.2.2.2.2.2.2.2.1.map aa.pd)), rI s.2.2.2.2.2.2.2.2.2.1, rI s.2.2.2.2.2.2.2.2.2.2.1, .d (.lst (s.2.2.2.2.2.2.2.2.2.2.2.1.map ac.pd)), rI s.2.2.2.2.2.2.2.2.2.2.2.2.1, rI s.2.2.2.2.2.2.2.2.2.2.2.2.2.1, .d (.lst (s.2.2.2.2.2.2.2.2.2.2.2.2.2.2.1.map ac.pd)), .ref 544 0, .d (.lst (s.2.2.2.2.2.2.2.2.2.2.2.2.2.2.2.1.map ae.pd)), .d (.lst (s.2.2.2.2.2.2.2.2.2.2.2.2.2.2.2.2.map ae.pd))])])) (fun o e R' B' => e = .exit 2 ∧ ghosts prog 0 (A R' B') (au.at_ 13 0 22) = some (A [(6, .ptr 96 0), (9, .ptr 608 0)] [(96, .var zZ0), (544, .arr 0 50 (o51.2.2.2.2.2.2.2.2.2.2.2.2.2.2.2.2.map aj.pd)), (608, .var [rI o.1, rI o.2.1, rI o.2.2.1, rI o.2.2.2.1, rI o.2.2.2.2.1, .d (.lst (o.2.2.2.2.2.1.map PD.str)), .d (.lst (o.2.2.2.2.2.2.1.map aa.pd)), .d (.lst (o.2.2.2.2.2.2.2.1.map aa.pd)), rI o.2.2.2.2.2.2.2.2.1, rI o.2.2.2.2.2.2.2.2.2.1, .d (.lst (o.2.2.2.2.2.2.2.2.2.2.1.map ac.pd)), rI o.2.2.2.2.2.2.2.2.2.2.2.1, rI o.2.2.2.2.2.2.2.2.2.2.2.2.1, .d (.lst (o.2.2.2.2.2.2.2.2.2.2.2.2.2.1.map ac.pd)), .ref 544 0, .d (.lst (o.2.2.2.2.2.2.2.2.2.2.2.2.2.2.1.map ae.pd)), .d (.lst (o.2.2.2.2.2.2.2.2.2.2.2.2.2.2.2.map ae.pd))])])) rfl ?_ ?_))
 ·rintro ⟨s53, s54, s55, s56, s57, s58, s59, s60, s61, s62, s63, s64, s65, s66, s67, s68, s69⟩ R' B' q86 hI h
  refine gS rfl hI<|sF h (fun h => ?_) fun h => ?_
  ·refine sN<|qS<|cT<|qK<|qS<|qB<|gS rfl rfl<|bE h fun x88 hx88 h => eG hx88 rfl<|sC rfl<|sA rfl<|sN<|WC.region rfl rfl<|sM rfl<|sM rfl ?_
   refine bE h fun x89 hx89 h => cR (.tup []) [(608, .var [rI x89.1, rI x89.2.1, rI x89.2.2.1, rI x89.2.2.2.1, rI x89.2.2.2.2.1, .d (.lst (x89.2.2.2.2.2.1.map PD.str)), .d (.lst (x89.2.2.2.2.2.2.1.map aa.pd)), .d (.lst (x89.2.2.2.2.2.2.2.1.map aa.pd)), rI x89.2.2.2.2.2.2.2.2.1, rI x89.2.2.2.2.2.2.2.2.2.1, .d (.lst (x89.2.2.2.2.2.2.2.2.2.2.1.map ac.pd)), rI x89.2.2.2.2.2.2.2.2.2.2.2.1, rI x89.2.2.2.2.2.2.2.2.2.2.2.2.1, .d (.lst (x89.2.2.2.2.2.2.2.2.2.2.2.2.2.1.map ac.pd)), .ref 544 0, .d (.lst (x89.2.2.2.2.2.2.2.2.2.2.2.2.2.2.1.map ae.pd)), .d (.lst (x89.2.2.2.2.2.2.2.2.2.2.2.2.2.2.2.map ae.pd))]), (544, .arr 0 50 (o51.2.2.2.2.2.2.2.2.2.2.2.2.2.2.2.2.map aj.pd))] (ends_repeat_ev hx89)<|sN<|WC.region rfl rfl<|sV (rI (rW (s53 + (1 : Int))))<|sM rfl<|sN ?_
   cases oI h
   exact ⟨rfl, rfl⟩
  refine sN<|qS<|cF<|qX ?_
  cases oI h
  exact ⟨nofun, rfl, rfl⟩
 intro e R' B' he hq
 obtain ⟨rfl, hI⟩ := hq
 refine qE<|qS<|WC.regionDSeq hI rfl<|sM rfl<|sV (.ptr 608 0)<|sV (.ptr 608 0)<|sV (.ptr 608 0)<|sL rfl<|sM rfl<|sV (.ptr 608 0)<|sV (.ptr 608 0)<|sV (.ptr 608 1)<|sL rfl<|bE h fun x92 hx92 h => WO.remG hx92 rfl rfl rfl rfl rfl rfl ?_
 refine sF h (fun h => ?_) fun h => ?_
 ·refine sN<|sO<|cT<|WC.region rfl rfl<|sM rfl<|bE h fun x94 hx94 h => cR (.tup []) [(608, .var [rI x94.1, rI x94.2.1, rI x94.2.2.1, rI x94.2.2.2.1, rI x94.2.2.2.2.1, .d (.lst (x94.2.2.2.2.2.1.map PD.str)), .d (.lst (x94.2.2.2.2.2.2.1.map aa.pd)), .d (.lst (x94.2.2.2.2.2.2.2.1.map aa.pd)), rI x94.2.2.2.2.2.2.2.2.1, rI x94.2.2.2.2.2.2.2.2.2.1, .d (.lst (x94.2.2.2.2.2.2.2.2.2.2.1.map ac.pd)), rI x94.2.2.2.2.2.2.2.2.2.2.2.1, rI x94.2.2.2.2.2.2.2.2.2.2.2.2.1, .d (.lst (x94.2.2.2.2.2.2.2.2.2.2.2.2.2.1.map ac.pd)), .ref 544 0, .d (.lst (x94.2.2.2.2.2.2.2.2.2.2.2.2.2.2.1.map ae.pd)), .d (.lst (x94.2.2.2.2.2.2.2.2.2.2.2.2.2.2.2.map ae.pd))]), (544, .arr 0 50 (o51.2.2.2.2.2.2.2.2.2.2.2.2.2.2.2.2.map aj.pd))] (ends_request_ev hx94)<|sN<|gS rfl rfl<|sM rfl<|sV (.ptr 608 0)<|sV (.ptr 608 0)<|sV (.agg [rI x94.1, rI x94.2.1, rI x94.2.2.1, rI x94.2.2.2.1, rI x94.2.2.2.2.1, .d (.lst (x94.2.2.2.2.2.1.map PD.str)), .d (.lst (x94.2.2.2.2.2.2.1.map aa.pd)), .d (.lst (x94.2.2.2.2.2.2.2.1.map aa.pd)), rI x94.2.2.2.2.2.2.2.2.1, rI x94.2.2.2.2.2.2.2.2.2.1, .d (.lst (x94.2.2.2.2.2.2.2.2.2.2.1.map ac.pd)), rI x94.2.2.2.2.2.2.2.2.2.2.2.1, rI x94.2.2.2.2.2.2.2.2.2.2.2.2.1, .d (.lst (x94.2.2.2.2.2.2.2.2.2.2.2.2.2.1.map ac.pd)), .ref 544 0])<|sH 96 (.var [rI x94.1, rI x94.2.1, rI x94.2.2.1, rI x94.2.2.2.1, rI x94.2.2.2.2.1, .d (.lst (x94.2.2.2.2.2.1.map PD.str)), .d (.lst (x94.2.2.2.2.2.2.1.map aa.pd)), .d (.lst (x94.2.2.2.2.2.2.2.1.map aa.pd)), rI x94.2.2.2.2.2.2.2.2.1, rI x94.2.2.2.2.2.2.2.2.2.1, .d (.lst (x94.2.2.2.2.2.2.2.2.2.2.1.map ac.pd)), rI x94.2.2.2.2.2.2.2.2.2.2.2.1, rI x94.2.2.2.2.2.2.2.2.2.2.2.2.1, .d (.lst (x94.2.2.2.2.2.2.2.2.2.2.2.2.2.1.map ac.pd)), .ref 544 0])<|sV (r0)<|sN ?_
  refine qR ?_
  cases oI h
  exact qG
 refine sN<|sO<|cF<|qK<|gS rfl rfl<|sM rfl<|sV (.ptr 608 0)<|sV (.ptr 608 0)<|sV (.agg [rI o91.1, rI o91.2.1, rI o91.2.2.1, rI o91.2.2.2.1, rI o91.2.2.2.2.1, .d (.lst (o91.2.2.2.2.2.1.map PD.str)), .d (.lst (o91.2.2.2.2.2.2.1.map aa.pd)), .d (.lst (o91.2.2.2.2.2.2.2.1.map aa.pd)), rI o91.2.2.2.2.2.2.2.2.1, rI o91.2.2.2.2.2.2.2.2.2.1, .d (.lst (o91.2.2.2.2.2.2.2.2.2.2.1.map ac.pd)), rI o91.2.2.2.2.2.2.2.2.2.2.2.1, rI o91.2.2.2.2.2.2.2.2.2.2.2.2.1, .d (.lst (o91.2.2.2.2.2.2.2.2.2.2.2.2.2.1.map ac.pd)), .ref 544 0])<|sH 96 (.var [rI o91.1, rI o91.2.1, rI o91.2.2.1, rI o91.2.2.2.1, rI o91.2.2.2.2.1, .d (.lst (o91.2.2.2.2.2.1.map PD.str)), .d (.lst (o91.2.2.2.2.2.2.1.map aa.pd)), .d (.lst (o91.2.2.2.2.2.2.2.1.map aa.pd)), rI o91.2.2.2.2.2.2.2.2.1, rI o91.2.2.2.2.2.2.2.2.2.1, .d (.lst (o91.2.2.2.2.2.2.2.2.2.2.1.map ac.pd)), rI o91.2.2.2.2.2.2.2.2.2.2.2.1, rI o91.2.2.2.2.2.2.2.2.2.2.2.2.1, .d (.lst (o91.2.2.2.2.2.2.2.2.2.2.2.2.2.1.map ac.pd)), .ref 544 0])<|sV (r0)<|sN<|qR ?_
 cases oI h
 exact qG
theorem eE {a0 : ah} {a1 : Int} {r : ah × Int} (h : dp a0 a1 = some r) : EvP prog au ext 16 [.d (ah.pd a0), rI a1] [] (.tup [.d (ah.pd r.1), rI r.2], []) := by
 refine Ev.body rfl Tryz.func16 rfl (by kernel_rfl)<|gS rfl rfl<|sB (.ptr 32 0) 32 (.var (ah.rc a0))<|sB (.ptr 64 0) 64 (.var zZ0)<|sV (r0)<|sN<|qS<|gS rfl rfl<|sM rfl<|bE h fun x1 hx1 h => cD (aV hx1)<|sF h (fun h => ?_) fun h => ?_
 ·refine sN<|cT<|gS rfl rfl<|sG (.agg zZ0)<|sH 64 (.var zZ0)<|sV (rI 2)<|sN<|qR ?_
  cases oI h
  exact qG
 refine sN<|cF<|qK<|qS<|gS rfl rfl<|sV (.d (ah.pd a0))<|bE h fun x3 hx3 h => cD (cv hx3)<|sF h (fun h => ?_) fun h => ?_
 ·refine sN<|cT<|gS rfl rfl<|sG (.agg zZ0)<|sH 64 (.var zZ0)<|sV (rI 1)<|sN<|qR ?_
  cases oI h
  exact qG
 refine sN<|cF<|qK<|gS rfl rfl<|sV (r0)<|sN<|qS<|gS rfl rfl<|sV (.d (ah.pd a0))<|bE h fun x5 hx5 h => cR (.agg [rI x5.az, rI x5.aD, rI x5.aI, rI x5.ar.aH, rI x5.ar.aC, .d (.lst (x5.ar.aG.map PD.str)), .d (.lst (x5.ap.aJ.map aa.pd)), .d (.lst (x5.ap.aF.map aa.pd)), rI x5.aB.az, rI x5.aB.aq, .d (.lst (x5.aB.av.map ac.pd)), rI x5.fUp.az, rI x5.fUp.aq, .d (.lst (x5.fUp.av.map ac.pd)), .ref 256 0]) [(256, .arr 0 50 (x5.aw.map aj.pd))] (eI hx5)<|sH 32 (.var [rI x5.az, rI x5.aD, rI x5.aI, rI x5.ar.aH, rI x5.ar.aC, .d (.lst (x5.ar.aG.map PD.str)), .d (.lst (x5.ap.aJ.map aa.pd)), .d (.lst (x5.ap.aF.map aa.pd)), rI x5.aB.az, rI x5.aB.aq, .d (.lst (x5.aB.av.map ac.pd)), rI x5.fUp.az, rI x5.fUp.aq, .d (.lst (x5.fUp.av.map ac.pd)), .ref 256 0])<|sN<|bE h fun o60 ho60 h => WC.block (WC.loop (WL.ofLoop ho60 (fun s R' B' => ghosts prog 0 (A R' B') (au.at_ 16 0 7) = some (A [(1, rI s.1), (2, .ptr 32 0), (4, .ptr 64 0), (6, rI s.2.1)] [(32, .var [rI s.2.2.1, rI s.2.2.2.1, rI s.2.2.2.2.1, rI s.2.2.2.2.2.1, rI s.2.2.2.2.2.2.1, .d (.lst (s.2.2.2.2.2.2.2.1.map PD.str)), .d (.lst (s.2.2.2.2.2.2.2.2.1.map aa.pd)), .d (.lst (s.2.2.2.2.2.2.2.2.2.1.map aa.pd)), rI s.2.2.2.2.2.2.2.2.2.2.1, rI s.2.2.2.2.2.2.2.2.2.2.2.1, .d (.lst (s.2.2.2.2.2.2.2.2.2.2.2.2.1.map ac.pd)), rI s.2.2.2.2.2.2.2.2.2.2.2.2.2.1, rI s.2.2.2.2.2.2.2.2.2.2.2.2.2.2.1, .d (.lst (s.2.2.2.2.2.2.2.2.2.2.2.2.2.2.2.1.map ac.pd)), .d (.lst (s.2.2.2.2.2.2.2.2.2.2.2.2.2.2.2.2.map aj.pd))]), (64, .var zZ0)])) (fun o e R' B' => e = .exit 0 ∧ ghosts prog 0 (A R' B') (au.at_ 16 0 10) = some (A [(2, .ptr 32 0), (4, .ptr 64 0), (6, rI o.1)] [(32, .var [rI o.2.1, rI o.2.2.1, rI o.2.2.2.1, rI o.2.2.2.2.1, rI o.2.2.2.2.2.1, .d (.lst (o.2.2.2.2.2.2.1.map PD.str)), .d (.lst (o.2.2.2.2.2.2.2.1.map aa.pd)), .d (.lst (o.2.2.2.2.2.2.2.2.1.map aa.pd)), rI o.2.2.2.2.2.2.2.2.2.1, rI o.2.2.2.2.2.2.2.2.2.2.1, .d (.lst (o.2.2.2.2.2.2.2.2.2.2.2.1.map ac.pd)), rI o.2.2.2.2.2.2.2.2.2.2.2.2.1, rI o.2.2.2.2.2.2.2.2.2.2.2.2.2.1, .d (.lst (o.2.2.2.2.2.2.2.2.2.2.2.2.2.2.1.map ac.pd)), .d (.lst (o.2.2.2.2.2.2.2.2.2.2.2.2.2.2.2.map aj.pd))]), (64, .var zZ0)])) rfl ?_ ?_))
 ·rintro ⟨s22, s23, s24, s25, s26, s27, s28, s29, s30, s31, s32, s33, s34, s35, s36, s37, s38⟩ R' B' q55 hI h
  refine qS<|gS rfl hI<|sM rfl<|sF h (fun h => ?_) fun h => ?_
  ·refine sM rfl<|sM rfl<|sV (rB (s23 == (0 : Int)))<|sF h (fun h => ?_) fun h => ?_
   ·refine sN<|cT<|qK<|qS<|qB<|WC.region rfl rfl<|sV (.d (ah.pd (ah.mk s24 s25 s26 (al.mk s27 s28 s29) (ag.mk s30 s31) (ai.mk s32 s33 s34) (ai.mk s35 s36 s37) s38)))<|bE h fun x58 hx58 h => cR (.tup [.d (ah.pd x58.1), rI x58.2]) [] (session_Tick_ev hx58)<|sM rfl<|sV (.d (ah.pd x58.1))<|sV (rI x58.2)<|sH 32 (.var (ah.rc x58.1))<|sA rfl<|sN ?_
    refine WC.region rfl rfl<|sM rfl<|sV (rI (rW (s22 - (1 : Int))))<|sA rfl<|sN ?_
    cases oI h
    exact ⟨rfl, rfl⟩
   refine sN<|cF<|qX ?_
   cases oI h
   exact ⟨nofun, rfl, rfl⟩
  refine sM rfl<|sK<|sK<|sU<|sN<|cF<|qX ?_
  cases oI h
  exact ⟨nofun, rfl, rfl⟩
 intro e R' B' he hq
 obtain ⟨rfl, hI⟩ := hq
 refine qE<|gS rfl hI<|sV (.d (ah.pd (ah.mk o60.2.1 o60.2.2.1 o60.2.2.2.1 (al.mk o60.2.2.2.2.1 o60.2.2.2.2.2.1 o60.2.2.2.2.2.2.1) (ag.mk o60.2.2.2.2.2.2.2.1 o60.2.2.2.2.2.2.2.2.1) (ai.mk o60.2.2.2.2.2.2.2.2.2.1 o60.2.2.2.2.2.2.2.2.2.2.1 o60.2.2.2.2.2.2.2.2.2.2.2.1) (ai.mk o60.2.2.2.2.2.2.2.2.2.2.2.2.1 o60.2.2.2.2.2.2.2.2.2.2.2.2.2.1 o60.2.2.2.2.2.2.2.2.2.2.2.2.2.2.1) o60.2.2.2.2.2.2.2.2.2.2.2.2.2.2.2)))<|sM rfl<|sH 64 (.var [rI o60.2.1, rI o60.2.2.1, rI o60.2.2.2.1, rI o60.2.2.2.2.1, rI o60.2.2.2.2.2.1, .d (.lst (o60.2.2.2.2.2.2.1.map PD.str)), .d (.lst (o60.2.2.2.2.2.2.2.1.map aa.pd)), .d (.lst (o60.2.2.2.2.2.2.2.2.1.map aa.pd)), rI o60.2.2.2.2.2.2.2.2.2.1, rI o60.2.2.2.2.2.2.2.2.2.2.1, .d (.lst (o60.2.2.2.2.2.2.2.2.2.2.2.1.map ac.pd)), rI o60.2.2.2.2.2.2.2.2.2.2.2.2.1, rI o60.2.2.2.2.2.2.2.2.2.2.2.2.2.1, .d (.lst (o60.2.2.2.2.2.2.2.2.2.2.2.2.2.2.1.map ac.pd)), .d (.lst (o60.2.2.2.2.2.2.2.2.2.2.2.2.2.2.2.map aj.pd))])<|sA rfl<|sN<|qR ?_
 cases oI h
 exact qG
theorem fh {a0 : ah} {r : Bool} (h : cW a0 = some r) : EvP prog au ext 14 [.d (ah.pd a0)] [] (rB r, []) := by
 refine Ev.body rfl Tryz.func14 rfl (by kernel_rfl)<|gS rfl rfl<|sB (.ptr 16 0) 16 (.var (ah.rc a0))<|sU<|sN<|WC.regionDSeq rfl rfl<|sV (.ptr 16 6)<|sV (.d (ag.pd a0.ap))<|sV (.ptr 16 3)<|sV (.d (al.pd a0.ar))<|bE h fun x1 hx1 h => cD (bG hx1)<|bE h fun x2 hx2 h => cR (.tup [.d (.lst (x2.1.map aa.pd)), rI x2.2]) [] (gg hx2)<|sM rfl ?_
 refine sV (.d (.lst (x2.1.map aa.pd)))<|sV (rI x2.2)<|sA rfl<|sA rfl ?_
 refine sN<|sO<|gS rfl rfl<|sV (.d (ah.pd a0))<|bE h fun x3 hx3 h => ite_elim h (fun hb4 h => ?_) (fun hb4 h => ?_)
 ·refine WO.callR (v := rB true) (u := []) rfl rfl (fun _ => rfl) rfl rfl rfl rfl rfl (cv hx3) rfl rfl (congrArg (fun b => RV.d (.bool b)) hb4) rfl<|sM rfl<|sM rfl<|sV (rB (x2.2 == (0 : Int)))<|sF h (fun h => ?_) fun h => ?_
  ·refine sM rfl<|sM rfl<|sE (rI (x2.1.length : Int)) (lenMap _ _)<|sV (rB ((x2.1.length : Int) == (0 : Int)))<|sV (rB ((x2.1.length : Int) == (0 : Int)))<|sA rfl<|sN<|qR ?_
   cases oI h
   exact qG
  refine sM rfl<|k3<|sU<|sA rfl<|sN<|qR ?_
  cases oI h
  exact qG
 refine WO.callR (v := rB false) (u := []) rfl rfl (fun _ => rfl) rfl rfl rfl rfl rfl (cv hx3) rfl rfl (congrArg (fun b => RV.d (.bool b)) hb4) rfl<|sM rfl<|sK<|sK<|sU<|sM rfl<|k3<|sU<|sA rfl<|sN<|qR ?_
 cases oI h
 exact qG
theorem law12_sane_ev  {r : Bool} (h : iL = some r) : EvP prog au ext 7 [] [] (rB r, []) := by
 refine Ev.body rfl Tryz.func7 rfl (by kernel_rfl)<|gS rfl rfl<|sU<|sN<|gS rfl rfl<|bE h fun x1 hx1 h => cR (.tup [.d (ah.pd x1.1), rI x1.2]) [] (jn hx1)<|sM rfl<|sV (.d (ah.pd x1.1))<|sV (rI x1.2)<|sB (.ptr 16 0) 16 (.var zZ0)<|sH 16 (.var (ah.rc x1.1))<|sA rfl<|sN<|qS ?_
 refine gS rfl rfl<|sV (r0)<|sN<|bE h fun o41 ho41 h => WC.block (WC.loop (WL.ofLoop ho41 (fun s R' B' => ghosts prog 0 (A R' B') (au.at_ 7 0 3) = some (A [(1, .ptr 16 0), (2, rI s.1), (3, rI s.2.1)] [(16, .var [rI s.2.2.1, rI s.2.2.2.1, rI s.2.2.2.2.1, rI s.2.2.2.2.2.1, rI s.2.2.2.2.2.2.1, .d (.lst (s.2.2.2.2.2.2.2.1.map PD.str)), .d (.lst (s.2.2.2.2.2.2.2.2.1.map aa.pd)), .d (.lst (s.2.2.2.2.2.2.2.2.2.1.map aa.pd)), rI s.2.2.2.2.2.2.2.2.2.2.1, rI s.2.2.2.2.2.2.2.2.2.2.2.1, .d (.lst (s.2.2.2.2.2.2.2.2.2.2.2.2.1.map ac.pd)), rI s.2.2.2.2.2.2.2.2.2.2.2.2.2.1, rI s.2.2.2.2.2.2.2.2.2.2.2.2.2.2.1, .d (.lst (s.2.2.2.2.2.2.2.2.2.2.2.2.2.2.2.1.map ac.pd)), .d (.lst (s.2.2.2.2.2.2.2.2.2.2.2.2.2.2.2.2.map aj.pd))])])) (fun o e R' B' => e = .exit 0 ∧ ghosts prog 0 (A R' B') (au.at_ 7 0 6) = some (A [(1, .ptr 16 0), (2, rI o.1)] [(16, .var [rI o.2.1, rI o.2.2.1, rI o.2.2.2.1, rI o.2.2.2.2.1, rI o.2.2.2.2.2.1, .d (.lst (o.2.2.2.2.2.2.1.map PD.str)), .d (.lst (o.2.2.2.2.2.2.2.1.map aa.pd)), .d (.lst (o.2.2.2.2.2.2.2.2.1.map aa.pd)), rI o.2.2.2.2.2.2.2.2.2.1, rI o.2.2.2.2.2.2.2.2.2.2.1, .d (.lst (o.2.2.2.2.2.2.2.2.2.2.2.1.map ac.pd)), rI o.2.2.2.2.2.2.2.2.2.2.2.2.1, rI o.2.2.2.2.2.2.2.2.2.2.2.2.2.1, .d (.lst (o.2.2.2.2.2.2.2.2.2.2.2.2.2.2.1.map ac.pd)), .d (.lst (o.2.2.2.2.2.2.2.2.2.2.2.2.2.2.2.map aj.pd))])])) rfl ?_ ?_))
 ·rintro ⟨s2, s3, s4, s5, s6, s7, s8, s9, s10, s11, s12, s13, s14, s15, s16, s17, s18⟩ R' B' q35 hI h
  refine qS<|gS rfl hI<|sM rfl<|sF h (fun h => ?_) fun h => ?_
  ·refine sM rfl<|sM rfl<|sV (rB (s2 == (0 : Int)))<|sF h (fun h => ?_) fun h => ?_
   ·refine sN<|cT<|qK<|qS<|qB<|WC.regionD rfl rfl<|sV (.d (ah.pd (ah.mk s4 s5 s6 (al.mk s7 s8 s9) (ag.mk s10 s11) (ai.mk s12 s13 s14) (ai.mk s15 s16 s17) s18)))<|sV (.d (.lst ([[97], [98], [99]].map PD.str)))<|sM rfl<|bE h fun x38 hx38 h => eG hx38 rfl<|sC rfl<|sM rfl<|sV (rB (decide (s3 > (0 : Int))))<|sV (.d (ae.pd (ae.mk (decide (s3 > (0 : Int))) 0 0))) ?_
    refine bE h fun x39 hx39 h => cR (.tup [.d (ah.pd x39.1), rI x39.2.1, rI x39.2.2]) [] (f5 hx39)<|sM rfl<|sV (.d (ah.pd x39.1))<|sV (rI x39.2.1)<|sV (rI x39.2.2)<|sH 16 (.var (ah.rc x39.1))<|sA rfl ?_
    refine sN<|sO<|WC.region rfl rfl<|sM rfl<|sV (rI (rW (s3 + (1 : Int))))<|sA rfl<|sN ?_
    cases oI h
    exact ⟨rfl, rfl⟩
   refine sN<|cF<|qX ?_
   cases oI h
   exact ⟨nofun, rfl, rfl⟩
  refine sM rfl<|sK<|sK<|sU<|sN<|cF<|qX ?_
  cases oI h
  exact ⟨nofun, rfl, rfl⟩
 intro e R' B' he hq
 obtain ⟨rfl, hI⟩ := hq
 refine qE<|qS<|gS rfl hI<|sM rfl<|sF h (fun h => ?_) fun h => ?_
 ·refine sN<|cT<|gS rfl rfl<|sU<|sN<|qR ?_
  cases oI h
  exact qG
 refine sN<|cF<|qK<|gS rfl rfl<|sV (.d (ah.pd (ah.mk o41.2.1 o41.2.2.1 o41.2.2.2.1 (al.mk o41.2.2.2.2.1 o41.2.2.2.2.2.1 o41.2.2.2.2.2.2.1) (ag.mk o41.2.2.2.2.2.2.2.1 o41.2.2.2.2.2.2.2.2.1) (ai.mk o41.2.2.2.2.2.2.2.2.2.1 o41.2.2.2.2.2.2.2.2.2.2.1 o41.2.2.2.2.2.2.2.2.2.2.2.1) (ai.mk o41.2.2.2.2.2.2.2.2.2.2.2.2.1 o41.2.2.2.2.2.2.2.2.2.2.2.2.2.1 o41.2.2.2.2.2.2.2.2.2.2.2.2.2.2.1) o41.2.2.2.2.2.2.2.2.2.2.2.2.2.2.2)))<|bE h fun x43 hx43 h => cR (.tup [.d (ah.pd x43.1), rI x43.2]) [] (eE hx43)<|sM rfl<|sV (.d (ah.pd x43.1))<|sV (rI x43.2)<|sB (.ptr 64 0) 64 (.var zZ0)<|sH 64 (.var (ah.rc x43.1))<|sA rfl<|sN<|gS rfl rfl ?_
 refine sV (.d (.agg [.int .i64 x43.1.az, .int .i64 x43.1.aD, .int .i64 x43.1.aI, .int .i64 x43.1.ar.aH, .int .i64 x43.1.ar.aC, .lst (x43.1.ar.aG.map PD.str), .lst (x43.1.ap.aJ.map aa.pd), .lst (x43.1.ap.aF.map aa.pd), .int .i64 x43.1.aB.az, .int .i64 x43.1.aB.aq, .lst (x43.1.aB.av.map ac.pd), .int .i64 x43.1.fUp.az, .int .i64 x43.1.fUp.aq, .lst (x43.1.fUp.av.map ac.pd), .lst (x43.1.aw.map aj.pd)]))<|bE h fun x44 hx44 h => cR (.tup [.d (ah.pd x44.1), rI x44.2]) [] (eE hx44)<|sM rfl<|sV (.d (ah.pd x44.1))<|sV (rI x44.2)<|sB (.ptr 96 0) 96 (.var zZ0)<|sH 96 (.var (ah.rc x44.1))<|sA rfl<|sN<|gS rfl rfl<|sM rfl<|sF h (fun h => ?_) fun h => ?_
 ·refine sM rfl<|sM rfl<|sV (rB (x44.2 == (0 : Int)))<|sF h (fun h => ?_) fun h => ?_
  ·refine sM rfl<|sV (.ptr 64 14)<|sL rfl<|sE (rI (x43.1.aw.length : Int)) (lenMap _ _)<|sV (rB ((x43.1.aw.length : Int) == (1 : Int)))<|sF h (fun h => ?_) fun h => ?_
   ·refine sM rfl<|sV (.d (.agg [.int .i64 x43.1.az, .int .i64 x43.1.aD, .int .i64 x43.1.aI, .int .i64 x43.1.ar.aH, .int .i64 x43.1.ar.aC, .lst (x43.1.ar.aG.map PD.str), .lst (x43.1.ap.aJ.map aa.pd), .lst (x43.1.ap.aF.map aa.pd), .int .i64 x43.1.aB.az, .int .i64 x43.1.aB.aq, .lst (x43.1.aB.av.map ac.pd), .int .i64 x43.1.fUp.az, .int .i64 x43.1.fUp.aq, .lst (x43.1.fUp.av.map ac.pd), .lst (x43.1.aw.map aj.pd)]))<|bE h fun x48 hx48 h => cD (fh hx48)<|sV (rB (!x48))<|sF h (fun h => ?_) fun h => ?_
    ·refine sM rfl<|sV (.d (.agg [.int .i64 x44.1.az, .int .i64 x44.1.aD, .int .i64 x44.1.aI, .int .i64 x44.1.ar.aH, .int .i64 x44.1.ar.aC, .lst (x44.1.ar.aG.map PD.str), .lst (x44.1.ap.aJ.map aa.pd), .lst (x44.1.ap.aF.map aa.pd), .int .i64 x44.1.aB.az, .int .i64 x44.1.aB.aq, .lst (x44.1.aB.av.map ac.pd), .int .i64 x44.1.fUp.az, .int .i64 x44.1.fUp.aq, .lst (x44.1.fUp.av.map ac.pd), .lst (x44.1.aw.map aj.pd)]))<|bE h fun x50 hx50 h => cD (fh hx50)<|sF h (fun h => ?_) fun h => ?_
     ·refine sM rfl<|sV (.ptr 96 14)<|sL rfl<|sE (rI (x44.1.aw.length : Int)) (lenMap _ _)<|sV (rB ((x44.1.aw.length : Int) == (3 : Int)))<|sV (rB ((x44.1.aw.length : Int) == (3 : Int)))<|sA rfl<|sN<|qR ?_
      cases oI h
      exact qG
     refine sM rfl<|k3<|sK<|sU<|sA rfl<|sN<|qR ?_
     cases oI h
     exact qG
    refine sM rfl<|sK<|sK<|sU<|sM rfl<|k3<|sK<|sU<|sA rfl<|sN<|qR ?_
    cases oI h
    exact qG
   refine sM rfl<|k3<|sU<|sM rfl<|sK<|sK<|sU<|sM rfl<|k3<|sK<|sU ?_
   refine sA rfl<|sN<|qR ?_
   cases oI h
   exact qG
  refine sM rfl<|k3<|sK<|sU<|sM rfl<|k3<|sU<|sM rfl<|sK<|sK<|sU ?_
  refine sM rfl<|k3<|sK<|sU<|sA rfl<|sN<|qR ?_
  cases oI h
  exact qG
 refine sM rfl<|sK<|sK<|sU<|sM rfl<|k3<|sK<|sU<|sM rfl<|k3<|sU ?_
 refine sM rfl<|sK<|sK<|sU<|sM rfl<|k3<|sK<|sU<|sA rfl<|sN<|qR ?_
 cases oI h
 exact qG
theorem ji {a0 : Int} {a1 : Int} {r : Bool} (h : am a0 a1 = some r) : EvP prog au ext 4 [.d (.int .u8 a0), .d (.int .u8 a1)] [] (rB r, []) := by
 refine Ev.body rfl Tryz.func4 rfl (by kernel_rfl)<|gS rfl rfl<|sU<|sN<|gS rfl rfl<|sM rfl<|sV (rI (IntKind.wrap .i64 a1))<|bE h fun x1 hx1 h => WO.remG hx1 rfl rfl rfl rfl rfl rfl<|sV (rI (rW ((1 : Int) + x1)))<|sA rfl<|sN<|gS rfl rfl<|sM rfl<|bE h fun x2 hx2 h => ?_
 refine cR (.tup [.d (ah.pd x2.1), rI x2.2]) [] (jn hx2)<|sM rfl<|sV (.d (ah.pd x2.1))<|sV (rI x2.2)<|sB (.ptr 96 0) 96 (.var zZ0)<|sH 96 (.var (ah.rc x2.1))<|sA rfl<|sN<|qS<|gS rfl rfl<|sM rfl<|sF h (fun h => ?_) fun h => ?_
 ·refine sN<|cT<|gS rfl rfl<|sU<|sN<|qR ?_
  cases oI h
  exact qG
 refine sN<|cF<|qK<|gS rfl rfl<|sM rfl<|sV (rI (IntKind.wrap .i64 a0))<|bE h fun x4 hx4 h => WO.remG hx4 rfl rfl rfl rfl rfl rfl<|sV (rI (rW ((6 : Int) + x4)))<|sA rfl<|sN<|gS rfl rfl<|sV (.d (.agg [.int .i64 x2.1.az, .int .i64 x2.1.aD, .int .i64 x2.1.aI, .int .i64 x2.1.ar.aH, .int .i64 x2.1.ar.aC, .lst (x2.1.ar.aG.map PD.str), .lst (x2.1.ap.aJ.map aa.pd), .lst (x2.1.ap.aF.map aa.pd), .int .i64 x2.1.aB.az, .int .i64 x2.1.aB.aq, .lst (x2.1.aB.av.map ac.pd), .int .i64 x2.1.fUp.az, .int .i64 x2.1.fUp.aq, .lst (x2.1.fUp.av.map ac.pd), .lst (x2.1.aw.map aj.pd)]))<|sM rfl<|sV (.d (ae.pd (ae.mk false (rW ((6 : Int) + x4)) 0))) ?_
 refine bE h fun x5 hx5 h => cR (.tup [.d (ah.pd x5.1), rI x5.2.1, rI x5.2.2]) [] (f5 hx5)<|sM rfl<|sV (.d (ah.pd x5.1))<|sV (rI x5.2.1)<|sV (rI x5.2.2)<|sH 96 (.var (ah.rc x5.1))<|sA rfl<|sN<|qS<|gS rfl rfl<|sV (r0)<|sN<|bE h fun o44 ho44 h => WC.block (WC.loop (WL.ofLoop ho44 (fun s R' B' => ghosts prog 0 (A R' B') (au.at_ 4 0 8) = some (A [(5, rI (rW ((1 : Int) + x1))), (6, .ptr 96 0), (7, rI s.1), (8, rI (rW ((6 : Int) + x4))), (9, rI s.2.1)] [(96, .var [rI s.2.2.1, rI s.2.2.2.1, rI s.2.2.2.2.1, rI s.2.2.2.2.2.1, rI s.2.2.2.2.2.2.1, .d (.lst (s.2.2.2.2.2.2.2.1.map PD.str)), .d (.lst (s.2.2.2.2.2.2.2.2.1.map aa.pd)), .d (.lst (s.2.2.2.2.2.2.2.2.2.1.map aa.pd)), rI s.2.2.2.2.2.2.2.2.2.2.1, rI s.2.2.2.2.2.2.2.2.2.2.2.1, .d (.lst (s.2.2.2.2.2.2.2.2.2.2.2.2.1.map ac.pd)), rI s.2.2.2.2.2.2.2.2.2.2.2.2.2.1, rI s.2.2.2.2.2.2.2.2.2.2.2.2.2.2.1, .d (.lst (s.2.2.2.2.2.2.2.2.2.2.2.2.2.2.2.1.map ac.pd)), .d (.lst (s.2.2.2.2.2.2.2.2.2.2.2.2.2.2.2.2.map aj.pd))])])) (fun o e R' B' => e = .exit 0 ∧ ghosts prog 0 (A R' B') (au.at_ 4 0 11) = some (A [(5, rI (rW ((1 : Int) + x1))), (6, .ptr 96 0), (7, rI o.1), (8, rI (rW ((6 : Int) + x4)))] [(96, .var [rI o.2.1, rI o.2.2.1, rI o.2.2.2.1, rI o.2.2.2.2.1, rI o.2.2.2.2.2.1, .d (.lst (o.2.2.2.2.2.2.1.map PD.str)), .d (.lst (o.2.2.2.2.2.2.2.1.map aa.pd)), .d (.lst (o.2.2.2.2.2.2.2.2.1.map aa.pd)), rI o.2.2.2.2.2.2.2.2.2.1, rI o.2.2.2.2.2.2.2.2.2.2.1, .d (.lst (o.2.2.2.2.2.2.2.2.2.2.2.1.map ac.pd)), rI o.2.2.2.2.2.2.2.2.2.2.2.2.1, rI o.2.2.2.2.2.2.2.2.2.2.2.2.2.1, .d (.lst (o.2.2.2.2.2.2.2.2.2.2.2.2.2.2.1.map ac.pd)), .d (.lst (o.2.2.2.2.2.2.2.2.2.2.2.2.2.2.2.map aj.pd))])])) rfl ?_ ?_))
 ·rintro ⟨s6, s7, s8, s9, s10, s11, s12, s13, s14, s15, s16, s17, s18, s19, s20, s21, s22⟩ R' B' q39 hI h
  refine qS<|gS rfl hI<|sM rfl<|sM rfl<|sF h (fun h => ?_) fun h => ?_
  ·refine sM rfl<|sM rfl<|sV (rB (s6 == (0 : Int)))<|sF h (fun h => ?_) fun h => ?_
   ·refine sN<|cT<|qK<|qS<|qB<|WC.region rfl rfl<|sV (.d (ah.pd (ah.mk s8 s9 s10 (al.mk s11 s12 s13) (ag.mk s14 s15) (ai.mk s16 s17 s18) (ai.mk s19 s20 s21) s22)))<|sV (.d (ae.pd (ae.mk false 0 0)))<|bE h fun x42 hx42 h => cR (.tup [.d (ah.pd x42.1), rI x42.2.1, rI x42.2.2]) [] (f5 hx42)<|sM rfl<|sV (.d (ah.pd x42.1))<|sV (rI x42.2.1)<|sV (rI x42.2.2)<|sH 96 (.var (ah.rc x42.1)) ?_
    refine sA rfl<|sN<|WC.region rfl rfl<|sM rfl<|sV (rI (rW (s7 + (1 : Int))))<|sA rfl<|sN ?_
    cases oI h
    exact ⟨rfl, rfl⟩
   refine sN<|cF<|qX ?_
   cases oI h
   exact ⟨nofun, rfl, rfl⟩
  refine sM rfl<|sK<|sK<|sU<|sN<|cF<|qX ?_
  cases oI h
  exact ⟨nofun, rfl, rfl⟩
 intro e R' B' he hq
 obtain ⟨rfl, hI⟩ := hq
 refine qE<|qS<|gS rfl hI<|sM rfl<|sF h (fun h => ?_) fun h => ?_
 ·refine sN<|cT<|gS rfl rfl<|sU<|sN<|qR ?_
  cases oI h
  exact qG
 refine sN<|cF<|qK<|gS rfl rfl<|sV (.d (ah.pd (ah.mk o44.2.1 o44.2.2.1 o44.2.2.2.1 (al.mk o44.2.2.2.2.1 o44.2.2.2.2.2.1 o44.2.2.2.2.2.2.1) (ag.mk o44.2.2.2.2.2.2.2.1 o44.2.2.2.2.2.2.2.2.1) (ai.mk o44.2.2.2.2.2.2.2.2.2.1 o44.2.2.2.2.2.2.2.2.2.2.1 o44.2.2.2.2.2.2.2.2.2.2.2.1) (ai.mk o44.2.2.2.2.2.2.2.2.2.2.2.2.1 o44.2.2.2.2.2.2.2.2.2.2.2.2.2.1 o44.2.2.2.2.2.2.2.2.2.2.2.2.2.2.1) o44.2.2.2.2.2.2.2.2.2.2.2.2.2.2.2)))<|sM rfl<|bE h fun x46 hx46 h => cR (.tup [.d (ah.pd x46.1), rI x46.2]) [] (eE hx46)<|sM rfl<|sV (.d (ah.pd x46.1))<|sV (rI x46.2)<|sB (.ptr 160 0) 160 (.var zZ0)<|sH 160 (.var (ah.rc x46.1))<|sA rfl<|sN ?_
 refine gS rfl rfl<|sV (.d (.agg [.int .i64 x46.1.az, .int .i64 x46.1.aD, .int .i64 x46.1.aI, .int .i64 x46.1.ar.aH, .int .i64 x46.1.ar.aC, .lst (x46.1.ar.aG.map PD.str), .lst (x46.1.ap.aJ.map aa.pd), .lst (x46.1.ap.aF.map aa.pd), .int .i64 x46.1.aB.az, .int .i64 x46.1.aB.aq, .lst (x46.1.aB.av.map ac.pd), .int .i64 x46.1.fUp.az, .int .i64 x46.1.fUp.aq, .lst (x46.1.fUp.av.map ac.pd), .lst (x46.1.aw.map aj.pd)]))<|bE h fun x47 hx47 h => cR (.tup [.d (ah.pd x47.1), rI x47.2]) [] (eE hx47)<|sM rfl<|sV (.d (ah.pd x47.1))<|sV (rI x47.2)<|sB (.ptr 192 0) 192 (.var zZ0)<|sH 192 (.var (ah.rc x47.1))<|sA rfl<|sN<|qS<|gS rfl rfl<|sM rfl<|sF h (fun h => ?_) fun h => ?_
 ·refine sM rfl<|sK<|sK<|sT<|sM rfl<|k3<|sK<|sK<|sT<|sM rfl<|sK<|sK<|sK ?_
  refine sK<|sK<|sT<|sM rfl<|k3<|k3<|sK<|sT<|sN<|cT<|gS rfl rfl ?_
  refine sU<|sN<|qR ?_
  cases oI h
  exact qG
 refine sM rfl<|sM rfl<|sV (rB (x47.2 != (0 : Int)))<|sF h (fun h => ?_) fun h => ?_
 ·refine sM rfl<|k3<|sK<|sK<|sT<|sM rfl<|k3<|sK<|sK<|sT<|sM rfl ?_
  refine k3<|k3<|sK<|sT<|sN<|cT<|gS rfl rfl<|sU<|sN<|qR ?_
  cases oI h
  exact qG
 refine sM rfl<|sV (.ptr 160 14)<|sL rfl<|sE (rI (x46.1.aw.length : Int)) (lenMap _ _)<|sM rfl<|sV (rB ((x46.1.aw.length : Int) != (rW ((1 : Int) + x1))))<|sF h (fun h => ?_) fun h => ?_
 ·refine sM rfl<|k3<|sK<|sK<|sT<|sM rfl<|k3<|k3<|sK ?_
  refine sT<|sN<|cT<|gS rfl rfl<|sU<|sN<|qR ?_
  cases oI h
  exact qG
 refine sM rfl<|sV (.ptr 160 6)<|sV (.ptr 160 7)<|sL rfl<|sE (rI (x46.1.ap.aF.length : Int)) (lenMap _ _)<|sV (rB ((x46.1.ap.aF.length : Int) != (1 : Int)))<|sF h (fun h => ?_) fun h => ?_
 ·refine sM rfl<|k3<|k3<|sK<|sT<|sN<|cT<|gS rfl rfl<|sU<|sN<|qR ?_
  cases oI h
  exact qG
 refine sM rfl<|sV (.ptr 160 6)<|sV (.ptr 160 7)<|sL rfl<|bE h fun x52 hx52 h => eG hx52 rfl<|sV (.d (aa.pd x52))<|sV (.d (aa.pd (aa.mk 0 1)))<|WO.bin (eqN_55 x52 (aa.mk 0 1)) rfl rfl rfl rfl rfl<|sF h (fun h => ?_) fun h => ?_
 ·refine sN<|cT<|gS rfl rfl<|sU<|sN<|qR ?_
  cases oI h
  exact qG
 refine sN<|cF<|qK<|gS rfl rfl<|sV (.ptr 192 14)<|sL rfl<|sV (.ptr 192 14)<|sL rfl<|sE (rI (x47.1.aw.length : Int)) (lenMap _ _)<|sV (rI (rW ((x47.1.aw.length : Int) - (1 : Int))))<|bE h fun x54 hx54 h => eG hx54 rfl<|sV (.d (aj.pd x54))<|sB (.ptr 224 0) 224 (.var [r0, r0, rS []])<|sS 224 (.var [rI x54.kb, rI x54.fAt, rS x54.aG]) ?_
 refine sN<|gS rfl rfl<|sV (.ptr 192 14)<|sL rfl<|sE (rI (x47.1.aw.length : Int)) (lenMap _ _)<|sM rfl<|sV (rI (rW ((rW ((1 : Int) + x1)) + (1 : Int))))<|sF h (fun h => ?_) fun h => ?_
 ·refine sM rfl<|sV (.ptr 192 6)<|sV (.ptr 192 7)<|sL rfl<|sE (rI (x47.1.ap.aF.length : Int)) (lenMap _ _)<|sV (rB ((x47.1.ap.aF.length : Int) == (0 : Int)))<|sF h (fun h => ?_) fun h => ?_
  ·refine sM rfl<|sV (.d (aj.pd x54))<|sM rfl<|sV (rI (rW ((rW ((6 : Int) + x4)) + (1 : Int))))<|sV (.d (aj.pd (aj.mk 0 (rW ((rW ((6 : Int) + x4)) + (1 : Int))) [108, 97, 116, 101])))<|WO.bin (eqE_50 x54 (aj.mk 0 (rW ((rW ((6 : Int) + x4)) + (1 : Int))) [108, 97, 116, 101])) rfl rfl rfl rfl rfl<|sF h (fun h => ?_) fun h => ?_
   ·refine sM rfl<|sV (.d (.agg [.int .i64 x47.1.az, .int .i64 x47.1.aD, .int .i64 x47.1.aI, .int .i64 x47.1.ar.aH, .int .i64 x47.1.ar.aC, .lst (x47.1.ar.aG.map PD.str), .lst (x47.1.ap.aJ.map aa.pd), .lst (x47.1.ap.aF.map aa.pd), .int .i64 x47.1.aB.az, .int .i64 x47.1.aB.aq, .lst (x47.1.aB.av.map ac.pd), .int .i64 x47.1.fUp.az, .int .i64 x47.1.fUp.aq, .lst (x47.1.fUp.av.map ac.pd), .lst (x47.1.aw.map aj.pd)]))<|bE h fun x58 hx58 h => cD (fh hx58)<|sF h (fun h => ?_) fun h => ?_
    ·refine sM rfl<|bE h fun x60 hx60 h => cD (law12_sane_ev hx60)<|sV (rB x60)<|sA rfl<|sN<|qR ?_
     cases oI h
     exact qG
    refine sM rfl<|sK<|sU<|sA rfl<|sN<|qR ?_
    cases oI h
    exact qG
   refine sM rfl<|sK<|sK<|sU<|sM rfl<|sK<|sU<|sA rfl<|sN<|qR ?_
   cases oI h
   exact qG
  refine sM rfl<|k3<|sK<|sK<|sU<|sM rfl<|sK<|sK<|sU<|sM rfl<|sK<|sU<|sA rfl ?_
  refine sN<|qR ?_
  cases oI h
  exact qG
 refine sM rfl<|k3<|sK<|sK<|sU<|sM rfl<|k3<|sK<|sK<|sU<|sM rfl ?_
 refine sK<|sK<|sU<|sM rfl<|sK<|sU<|sA rfl<|sN<|qR ?_
 cases oI h
 exact qG
end Go.Dw.Sl
