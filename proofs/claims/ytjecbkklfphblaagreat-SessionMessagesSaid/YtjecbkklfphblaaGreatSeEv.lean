
import Derived.Test.YtjecbkklfphblaaGreatSeEvA

set_option maxRecDepth 100000
set_option maxHeartbeats 4000000
namespace Go.Dw.Se
open Go.Proofs Go.Proofs.Tryz Go.Dw
theorem ld {a0 : ag} {a1 : (List ae)} {a2 : (List ae)} {r : ag × Int} (h : cx a0 a1 a2 = some r) : EvP prog al ext 13 [.d (ag.pd a0), .d (.lst (a1.map ae.pd)), .d (.lst (a2.map ae.pd))] [] (.tup [.d (ag.pd r.1), rI r.2], []) := by
 refine Ev.body rfl Tryz.func13 rfl (by kernel_rfl)<|gS rfl rfl<|sB (.ptr 48 0) 48 (.var (ag.rc a0))<|sB (.ptr 96 0) 96 (.var zZ0)<|sV (r0)<|sN<|gS rfl rfl<|sV (.d (.raw (.func (.func 43) #[] #[])))<|sN<|qS<|gS rfl rfl<|sV (.d (ag.pd a0))<|bE h fun x1 hx1 h => cD (dv hx1)<|sF h (fun h => ?_) fun h => ?_
 ·refine sM rfl<|k3<|sT<|sM rfl<|k3<|sT<|sN<|cT<|gS rfl rfl<|sG (.agg zZ0)<|sH 96 (.var zZ0) ?_
  refine sV (rI 1)<|sN<|qR ?_
  cases oI h
  exact qG
 refine sM rfl<|sM rfl<|sM rfl<|bE h fun x3 hx3 h => cD (cM hx3)<|sF h (fun h => ?_) fun h => ?_
 ·refine sM rfl<|k3<|sT<|sN<|cT<|gS rfl rfl<|sG (.agg zZ0)<|sH 96 (.var zZ0)<|sV (rI 1)<|sN<|qR ?_
  cases oI h
  exact qG
 refine sM rfl<|sM rfl<|sM rfl<|bE h fun x5 hx5 h => cD (cM hx5)<|sF h (fun h => ?_) fun h => ?_
 ·refine sN<|cT<|gS rfl rfl<|sG (.agg zZ0)<|sH 96 (.var zZ0)<|sV (rI 1)<|sN<|qR ?_
  cases oI h
  exact qG
 refine sN<|cF<|qK<|qS<|gS rfl rfl<|sV (.ptr 48 0)<|sL rfl<|sF h (fun h => ?_) fun h => ?_
 ·refine sN<|cT<|gS rfl rfl<|sG (.agg zZ0)<|sH 96 (.var zZ0)<|sV (rI 8)<|sN<|qR ?_
  cases oI h
  exact qG
 refine sN<|cF<|qK<|gS rfl rfl<|sV (.d (ag.pd a0))<|bE h fun x8 hx8 h => cR (.agg [rI x8.aA, rI x8.aD, rI x8.aM, rI x8.ar.aF, rI x8.ar.aw, .d (.lst (x8.ar.aB.map PD.str)), .d (.lst (x8.ap.aN.map aa.pd)), .d (.lst (x8.ap.aG.map aa.pd)), rI x8.aC.aA, rI x8.aC.aq, .d (.lst (x8.aC.av.map ac.pd)), rI x8.fUp.aA, rI x8.fUp.aq, .d (.lst (x8.fUp.av.map ac.pd)), .ref 544 0]) [(544, .arr 0 50 (x8.au.map aj.pd))] (gn hx8)<|sM rfl<|sM rfl<|sG (.agg [rI x8.aA, rI x8.aD, rI x8.aM, rI x8.ar.aF, rI x8.ar.aw, .d (.lst (x8.ar.aB.map PD.str)), .d (.lst (x8.ap.aN.map aa.pd)), .d (.lst (x8.ap.aG.map aa.pd)), rI x8.aC.aA, rI x8.aC.aq, .d (.lst (x8.aC.av.map ac.pd)), rI x8.fUp.aA, rI x8.fUp.aq, .d (.lst (x8.fUp.av.map ac.pd)), .ref 544 0, .d (.lst (a1.map ae.pd)), .d (.lst (a2.map ae.pd))])<|sB (.ptr 608 0) 608 (.var [rI x8.aA, rI x8.aD, rI x8.aM, rI x8.ar.aF, rI x8.ar.aw, .d (.lst (x8.ar.aB.map PD.str)), .d (.lst (x8.ap.aN.map aa.pd)), .d (.lst (x8.ap.aG.map aa.pd)), rI x8.aC.aA, rI x8.aC.aq, .d (.lst (x8.aC.av.map ac.pd)), rI x8.fUp.aA, rI x8.fUp.aq, .d (.lst (x8.fUp.av.map ac.pd)), .ref 544 0, .d (.lst (a1.map ae.pd)), .d (.lst (a2.map ae.pd))])<|sA rfl<|sN<|gS rfl rfl<|sM rfl ?_
 refine sV (.ptr 608 0)<|sV (.ptr 608 0)<|sV (.ptr 608 0)<|sL rfl<|sV (rI (rW (x8.aA + (1 : Int))))<|sV (.ptr 608 0)<|sV (.ptr 608 0)<|sV (.ptr 608 0)<|sS 608 (.var [rI (rW (x8.aA + (1 : Int))), rI x8.aD, rI x8.aM, rI x8.ar.aF, rI x8.ar.aw, .d (.lst (x8.ar.aB.map PD.str)), .d (.lst (x8.ap.aN.map aa.pd)), .d (.lst (x8.ap.aG.map aa.pd)), rI x8.aC.aA, rI x8.aC.aq, .d (.lst (x8.aC.av.map ac.pd)), rI x8.fUp.aA, rI x8.fUp.aq, .d (.lst (x8.fUp.av.map ac.pd)), .ref 544 0, .d (.lst (a1.map ae.pd)), .d (.lst (a2.map ae.pd))])<|sN<|gS rfl rfl<|sV .nils<|sN<|gS rfl rfl<|sM rfl ?_
 refine sM rfl<|sV (.ptr 608 0)<|sV (.ptr 608 0)<|sV (.ptr 608 8)<|sV (.d (.agg [.int .i64 x8.aC.aA, .int .i64 x8.aC.aq, .lst (x8.aC.av.map ac.pd)]))<|bE h fun x9 hx9 h => cR (.tup [.d (ak.pd x9.1), .d (.lst (x9.2.1.map PD.str)), rI x9.2.2]) [] (mH hx9)<|sM rfl<|sV (.d (ak.pd x9.1))<|sV (.d (.lst (x9.2.1.map PD.str)))<|sV (rI x9.2.2)<|sV (.ptr 608 0)<|sV (.ptr 608 0)<|sV (.ptr 608 8)<|sS 608 (.var [rI (rW (x8.aA + (1 : Int))), rI x8.aD, rI x8.aM, rI x8.ar.aF, rI x8.ar.aw, .d (.lst (x8.ar.aB.map PD.str)), .d (.lst (x8.ap.aN.map aa.pd)), .d (.lst (x8.ap.aG.map aa.pd)), rI x9.1.aA, rI x9.1.aq, .d (.lst (x9.1.av.map ac.pd)), rI x8.fUp.aA, rI x8.fUp.aq, .d (.lst (x8.fUp.av.map ac.pd)), .ref 544 0, .d (.lst (a1.map ae.pd)), .d (.lst (a2.map ae.pd))]) ?_
 refine sA rfl<|sN<|qS<|gS rfl rfl<|sM rfl<|sE (rI (x9.2.1.length : Int)) (lenMap _ _)<|sV (r0)<|sN<|bE h fun o51 ho51 h => WC.block (WC.loop (WL.ofLoop ho51 (fun s R' B' => ghosts prog 0 (A R' B') (al.at_ 13 0 11) = some (A [(6, .ptr 96 0), (9, .ptr 608 0), (62, .d (.lst (x9.2.1.map PD.str))), (63, rI (x9.2.1.length : Int)), (64, rI s.1)] [(96, .var zZ0), (544, .arr 0 50 (s.2.2.2.2.2.2.2.2.2.2.2.2.2.2.2.2.2.map aj.pd)), (608, .var [rI s.2.1, rI s.2.2.1, rI s.2.2.2.1, rI s.2.2.2.2.1, rI s.2.2.2.2.2.1, .d (.lst (s.2.2.2.2.2.2.1.map PD.str)), .d (.lst (s.2.2.2.2.2.2.2.1.map aa.pd)), .d (.lst (s.2.2.2.2.2.2.2.2.1.map aa.pd)), rI s.2.2.2.2.2.2.2.2.2.1, rI s.2.2.2.2.2.2.2.2.2.2.1, .d (.lst (s.2.2.2.2.2.2.2.2.2.2.2.1.map ac.pd)), rI s.2.2.2.2.2.2.2.2.2.2.2.2.1, rI s.2.2.2.2.2.2.2.2.2.2.2.2.2.1, .d (.lst (s.2.2.2.2.2.2.2.2.2.2.2.2.2.2.1.map ac.pd)), .ref 544 0, .d (.lst (s.2.2.2.2.2.2.2.2.2.2.2.2.2.2.2.1.map ae.pd)), .d (.lst (s.2.2.2.2.2.2.2.2.2.2.2.2.2.2.2.2.1.map ae.pd))])])) (fun o e R' B' => e = .exit 0 ∧ ghosts prog 0 (A R' B') (al.at_ 13 0 16) = some (A [(6, .ptr 96 0), (9, .ptr 608 0)] [(96, .var zZ0), (544, .arr 0 50 (o.2.2.2.2.2.2.2.2.2.2.2.2.2.2.2.2.map aj.pd)), (608, .var [rI o.1, rI o.2.1, rI o.2.2.1, rI o.2.2.2.1, rI o.2.2.2.2.1, .d (.lst (o.2.2.2.2.2.1.map PD.str)), .d (.lst (o.2.2.2.2.2.2.1.map aa.pd)), .d (.lst (o.2.2.2.2.2.2.2.1.map aa.pd)), rI o.2.2.2.2.2.2.2.2.1, rI o.2.2.2.2.2.2.2.2.2.1, .d (.lst (o.2.2.2.2.2.2.2.2.2.2.1.map ac.pd)), rI o.2.2.2.2.2.2.2.2.2.2.2.1, rI o.2.2.2.2.2.2.2.2.2.2.2.2.1, .d (.lst (o.2.2.2.2.2.2.2.2.2.2.2.2.2.1.map ac.pd)), .ref 544 0, .d (.lst (o.2.2.2.2.2.2.2.2.2.2.2.2.2.2.1.map ae.pd)), .d (.lst (o.2.2.2.2.2.2.2.2.2.2.2.2.2.2.2.1.map ae.pd))])])) rfl ?_ ?_))
 ·rintro ⟨s10, s11, s12, s13, s14, s15, s16, s17, s18, s19, s20, s21, s22, s23, s24, s25, s26, s27⟩ R' B' q45 hI h
  refine gS rfl hI<|sF h (fun h => ?_) fun h => ?_
  ·refine sN<|qS<|cT<|qK<|qS<|qB<|gS rfl rfl<|bE h fun x47 hx47 h => eG hx47 rfl<|sC rfl<|sA rfl<|sN<|gS rfl rfl<|sM rfl<|sM rfl ?_
   refine bE h fun x48 hx48 h => cR (.tup []) [(608, .var [rI x48.1, rI x48.2.1, rI x48.2.2.1, rI x48.2.2.2.1, rI x48.2.2.2.2.1, .d (.lst (x48.2.2.2.2.2.1.map PD.str)), .d (.lst (x48.2.2.2.2.2.2.1.map aa.pd)), .d (.lst (x48.2.2.2.2.2.2.2.1.map aa.pd)), rI x48.2.2.2.2.2.2.2.2.1, rI x48.2.2.2.2.2.2.2.2.2.1, .d (.lst (x48.2.2.2.2.2.2.2.2.2.2.1.map ac.pd)), rI x48.2.2.2.2.2.2.2.2.2.2.2.1, rI x48.2.2.2.2.2.2.2.2.2.2.2.2.1, .d (.lst (x48.2.2.2.2.2.2.2.2.2.2.2.2.2.1.map ac.pd)), .ref 544 1, .d (.lst (x48.2.2.2.2.2.2.2.2.2.2.2.2.2.2.1.map ae.pd)), .d (.lst (x48.2.2.2.2.2.2.2.2.2.2.2.2.2.2.2.1.map ae.pd))]), (544, .arr 1 50 (x48.2.2.2.2.2.2.2.2.2.2.2.2.2.2.2.2.map aj.pd))] (ends_data_ev hx48)<|sN<|WC.region rfl rfl<|sM rfl<|sM rfl<|bE h fun x49 hx49 h => cR (.tup []) [(608, .var [rI x49.1, rI x49.2.1, rI x49.2.2.1, rI x49.2.2.2.1, rI x49.2.2.2.2.1, .d (.lst (x49.2.2.2.2.2.1.map PD.str)), .d (.lst (x49.2.2.2.2.2.2.1.map aa.pd)), .d (.lst (x49.2.2.2.2.2.2.2.1.map aa.pd)), rI x49.2.2.2.2.2.2.2.2.1, rI x49.2.2.2.2.2.2.2.2.2.1, .d (.lst (x49.2.2.2.2.2.2.2.2.2.2.1.map ac.pd)), rI x49.2.2.2.2.2.2.2.2.2.2.2.1, rI x49.2.2.2.2.2.2.2.2.2.2.2.2.1, .d (.lst (x49.2.2.2.2.2.2.2.2.2.2.2.2.2.1.map ac.pd)), .ref 544 1, .d (.lst (x49.2.2.2.2.2.2.2.2.2.2.2.2.2.2.1.map ae.pd)), .d (.lst (x49.2.2.2.2.2.2.2.2.2.2.2.2.2.2.2.map ae.pd))]), (544, .arr 1 50 (x48.2.2.2.2.2.2.2.2.2.2.2.2.2.2.2.2.map aj.pd))] (ends_status_ev hx49)<|sN<|WC.region rfl rfl<|sV (rI (rW (s10 + (1 : Int))))<|sM rfl<|sN ?_
   cases oI h
   exact ⟨rfl, rfl⟩
  refine sN<|qS<|cF<|qX ?_
  cases oI h
  exact ⟨nofun, rfl, rfl⟩
 intro e R' B' he hq
 obtain ⟨rfl, hI⟩ := hq
 refine qE<|gS rfl hI<|sM rfl<|sM rfl<|sV (.ptr 608 0)<|sV (.ptr 608 0)<|sV (.ptr 608 11)<|sV (.d (ak.pd (ak.mk o51.2.2.2.2.2.2.2.2.2.2.2.1 o51.2.2.2.2.2.2.2.2.2.2.2.2.1 o51.2.2.2.2.2.2.2.2.2.2.2.2.2.1)))<|bE h fun x52 hx52 h => cR (.tup [.d (ak.pd x52.1), .d (.lst (x52.2.1.map PD.str)), rI x52.2.2]) [] (mH hx52)<|sM rfl<|sV (.d (ak.pd x52.1))<|sV (.d (.lst (x52.2.1.map PD.str)))<|sV (rI x52.2.2)<|sV (.ptr 608 0) ?_
 refine sV (.ptr 608 0)<|sV (.ptr 608 11)<|sS 608 (.var [rI o51.1, rI o51.2.1, rI o51.2.2.1, rI o51.2.2.2.1, rI o51.2.2.2.2.1, .d (.lst (o51.2.2.2.2.2.1.map PD.str)), .d (.lst (o51.2.2.2.2.2.2.1.map aa.pd)), .d (.lst (o51.2.2.2.2.2.2.2.1.map aa.pd)), rI o51.2.2.2.2.2.2.2.2.1, rI o51.2.2.2.2.2.2.2.2.2.1, .d (.lst (o51.2.2.2.2.2.2.2.2.2.2.1.map ac.pd)), rI x52.1.aA, rI x52.1.aq, .d (.lst (x52.1.av.map ac.pd)), .ref 544 0, .d (.lst (o51.2.2.2.2.2.2.2.2.2.2.2.2.2.2.1.map ae.pd)), .d (.lst (o51.2.2.2.2.2.2.2.2.2.2.2.2.2.2.2.1.map ae.pd))])<|sA rfl<|sN<|qS<|gS rfl rfl<|sM rfl<|sE (rI (x52.2.1.length : Int)) (lenMap _ _)<|sV (r0)<|sN<|bE h fun o91 ho91 h => WC.block (WC.loop (WL.ofLoop ho91 (fun s R' B' => ghosts prog 0 (A R' B') (al.at_ 13 0 18) = some (A [(6, .ptr 96 0), (9, .ptr 608 0), (89, .d (.lst (x52.2.1.map PD.str))), (90, rI (x52.2.1.length : Int)), (91, rI s.1)] [(96, .var zZ0), (544, .arr 0 50 (o51.2.2.2.2.2.2.2.2.2.2.2.2.2.2.2.2.map aj.pd)), (608, .var [rI s.2.1, rI s.2.2.1, rI s.2.2.2.1, rI s.2.2.2.2.1, rI s.2.2.2.2.2.1, .d (.lst (s.2.2.2.2.2.2.1.map PD.str)), .d (.lst (s.2.2.2.2.2.2.2.1.map aa.pd)), .d (.lst (s.2.2.2.2.2.2.2.2.1.map aa.pd)), rI s.2.2.2.2.2.2.2.2.2.1, rI s.2.2.2.2.2.2.2.2.2.2.1, .d (.lst (s.2.2.2.2.2.2.2.2.2.2.2.1.map ac.pd)), rI s.2.2.2.2.2.2.2.2.2.2.2.2.1, rI s.2.2.2.2.2.2.2.2.2.2.2.2.2.1, .d (.lst (s.2.2.2.2.2.2.2.2.2.2.2.2.2.2.1.map ac.pd)), .ref 544 0, .d (.lst (s.2.2.2.2.2.2.2.2.2.2.2.2.2.2.2.1.map ae.pd)), .d (.lst (s.2.2.2.2.2.2.2.2.2.2.2.2.2.2.2.2.map ae.pd))])])) (fun o e R' B' => e = .exit 2 ∧ ghosts prog 0 (A R' B') (al.at_ 13 0 22) = some (A [(6, .ptr 96 0), (9, .ptr 608 0)] [(96, .var zZ0), (544, .arr 0 50 (o51.2.2.2.2.2.2.2.2.2.2.2.2.2.2.2.2.map aj.pd)), (608, .var [rI o.1, rI o.2.1, rI o.2.2.1, rI o.2.2.2.1, rI o.2.2.2.2.1, .d (.lst (o.2.2.2.2.2.1.map PD.str)), .d (.lst (o.2.2.2.2.2.2.1.map aa.pd)), .d (.lst (o.2.2.2.2.2.2.2.1.map aa.pd)), rI o.2.2.2.2.2.2.2.2.1, rI o.2.2.2.2.2.2.2.2.2.1, .d (.lst (o.2.2.2.2.2.2.2.2.2.2.1.map ac.pd)), rI o.2.2.2.2.2.2.2.2.2.2.2.1, rI o.2.2.2.2.2.2.2.2.2.2.2.2.1, .d (.lst (o.2.2.2.2.2.2.2.2.2.2.2.2.2.1.map ac.pd)), .ref 544 0, .d (.lst (o.2.2.2.2.2.2.2.2.2.2.2.2.2.2.1.map ae.pd)), .d (.lst (o.2.2.2.2.2.2.2.2.2.2.2.2.2.2.2.map ae.pd))])])) rfl ?_ ?_))
 ·rintro ⟨s53, s54, s55, s56, s57, s58, s59, s60, s61, s62, s63, s64, s65, s66, s67, s68, s69⟩ R' B' q86 hI h
  refine gS rfl hI<|sF h (fun h => ?_) fun h => ?_
  ·refine sN<|qS<|cT<|qK<|qS<|qB<|gS rfl rfl<|bE h fun x88 hx88 h => eG hx88 rfl<|sC rfl<|sA rfl<|sN<|WC.region rfl rfl<|sM rfl<|sM rfl ?_
   refine bE h fun x89 hx89 h => cR (.tup []) [(608, .var [rI x89.1, rI x89.2.1, rI x89.2.2.1, rI x89.2.2.2.1, rI x89.2.2.2.2.1, .d (.lst (x89.2.2.2.2.2.1.map PD.str)), .d (.lst (x89.2.2.2.2.2.2.1.map aa.pd)), .d (.lst (x89.2.2.2.2.2.2.2.1.map aa.pd)), rI x89.2.2.2.2.2.2.2.2.1, rI x89.2.2.2.2.2.2.2.2.2.1, .d (.lst (x89.2.2.2.2.2.2.2.2.2.2.1.map ac.pd)), rI x89.2.2.2.2.2.2.2.2.2.2.2.1, rI x89.2.2.2.2.2.2.2.2.2.2.2.2.1, .d (.lst (x89.2.2.2.2.2.2.2.2.2.2.2.2.2.1.map ac.pd)), .ref 544 0, .d (.lst (x89.2.2.2.2.2.2.2.2.2.2.2.2.2.2.1.map ae.pd)), .d (.lst (x89.2.2.2.2.2.2.2.2.2.2.2.2.2.2.2.map ae.pd))]), (544, .arr 0 50 (o51.2.2.2.2.2.2.2.2.2.2.2.2.2.2.2.2.map aj.pd))] (ends_repeat_ev hx89)<|sN<|WC.region rfl rfl<|sV (rI (rW (s53 + (1 : Int))))<|sM rfl<|sN ?_
   cases oI h
   exact ⟨rfl, rfl⟩
  refine sN<|qS<|cF<|qX ?_
  cases oI h
  exact ⟨nofun, rfl, rfl⟩
 intro e R' B' he hq
 obtain ⟨rfl, hI⟩ := hq
 refine qE<|qS<|WC.regionDSeq hI rfl<|sM rfl<|sV (.ptr 608 0)<|sV (.ptr 608 0)<|sV (.ptr 608 0)<|sL rfl<|sM rfl<|sV (.ptr 608 0)<|sV (.ptr 608 0)<|sV (.ptr 608 1)<|sL rfl<|bE h fun x92 hx92 h => WO.remG hx92 rfl rfl rfl rfl rfl rfl ?_
 refine sF h (fun h => ?_) fun h => ?_
 ·refine sN<|sO<|cT<|WC.region rfl rfl<|sM rfl<|bE h fun x94 hx94 h => cR (.tup []) [(608, .var [rI x94.1, rI x94.2.1, rI x94.2.2.1, rI x94.2.2.2.1, rI x94.2.2.2.2.1, .d (.lst (x94.2.2.2.2.2.1.map PD.str)), .d (.lst (x94.2.2.2.2.2.2.1.map aa.pd)), .d (.lst (x94.2.2.2.2.2.2.2.1.map aa.pd)), rI x94.2.2.2.2.2.2.2.2.1, rI x94.2.2.2.2.2.2.2.2.2.1, .d (.lst (x94.2.2.2.2.2.2.2.2.2.2.1.map ac.pd)), rI x94.2.2.2.2.2.2.2.2.2.2.2.1, rI x94.2.2.2.2.2.2.2.2.2.2.2.2.1, .d (.lst (x94.2.2.2.2.2.2.2.2.2.2.2.2.2.1.map ac.pd)), .ref 544 0, .d (.lst (x94.2.2.2.2.2.2.2.2.2.2.2.2.2.2.1.map ae.pd)), .d (.lst (x94.2.2.2.2.2.2.2.2.2.2.2.2.2.2.2.map ae.pd))]), (544, .arr 0 50 (o51.2.2.2.2.2.2.2.2.2.2.2.2.2.2.2.2.map aj.pd))] (ends_request_ev hx94)<|sN<|gS rfl rfl<|sM rfl<|sV (.ptr 608 0)<|sV (.ptr 608 0)<|sV (.agg [rI x94.1, rI x94.2.1, rI x94.2.2.1, rI x94.2.2.2.1, rI x94.2.2.2.2.1, .d (.lst (x94.2.2.2.2.2.1.map PD.str)), .d (.lst (x94.2.2.2.2.2.2.1.map aa.pd)), .d (.lst (x94.2.2.2.2.2.2.2.1.map aa.pd)), rI x94.2.2.2.2.2.2.2.2.1, rI x94.2.2.2.2.2.2.2.2.2.1, .d (.lst (x94.2.2.2.2.2.2.2.2.2.2.1.map ac.pd)), rI x94.2.2.2.2.2.2.2.2.2.2.2.1, rI x94.2.2.2.2.2.2.2.2.2.2.2.2.1, .d (.lst (x94.2.2.2.2.2.2.2.2.2.2.2.2.2.1.map ac.pd)), .ref 544 0])<|sH 96 (.var [rI x94.1, rI x94.2.1, rI x94.2.2.1, rI x94.2.2.2.1, rI x94.2.2.2.2.1, .d (.lst (x94.2.2.2.2.2.1.map PD.str)), .d (.lst (x94.2.2.2.2.2.2.1.map aa.pd)), .d (.lst (x94.2.2.2.2.2.2.2.1.map aa.pd)), rI x94.2.2.2.2.2.2.2.2.1, rI x94.2.2.2.2.2.2.2.2.2.1, .d (.lst (x94.2.2.2.2.2.2.2.2.2.2.1.map ac.pd)), rI x94.2.2.2.2.2.2.2.2.2.2.2.1, rI x94.2.2.2.2.2.2.2.2.2.2.2.2.1, .d (.lst (x94.2.2.2.2.2.2.2.2.2.2.2.2.2.1.map ac.pd)), .ref 544 0])<|sV (r0)<|sN ?_
  refine qR ?_
  cases oI h
  exact qG
 refine sN<|sO<|cF<|qK<|gS rfl rfl<|sM rfl<|sV (.ptr 608 0)<|sV (.ptr 608 0)<|sV (.agg [rI o91.1, rI o91.2.1, rI o91.2.2.1, rI o91.2.2.2.1, rI o91.2.2.2.2.1, .d (.lst (o91.2.2.2.2.2.1.map PD.str)), .d (.lst (o91.2.2.2.2.2.2.1.map aa.pd)), .d (.lst (o91.2.2.2.2.2.2.2.1.map aa.pd)), rI o91.2.2.2.2.2.2.2.2.1, rI o91.2.2.2.2.2.2.2.2.2.1, .d (.lst (o91.2.2.2.2.2.2.2.2.2.2.1.map ac.pd)), rI o91.2.2.2.2.2.2.2.2.2.2.2.1, rI o91.2.2.2.2.2.2.2.2.2.2.2.2.1, .d (.lst (o91.2.2.2.2.2.2.2.2.2.2.2.2.2.1.map ac.pd)), .ref 544 0])<|sH 96 (.var [rI o91.1, rI o91.2.1, rI o91.2.2.1, rI o91.2.2.2.1, rI o91.2.2.2.2.1, .d (.lst (o91.2.2.2.2.2.1.map PD.str)), .d (.lst (o91.2.2.2.2.2.2.1.map aa.pd)), .d (.lst (o91.2.2.2.2.2.2.2.1.map aa.pd)), rI o91.2.2.2.2.2.2.2.2.1, rI o91.2.2.2.2.2.2.2.2.2.1, .d (.lst (o91.2.2.2.2.2.2.2.2.2.2.1.map ac.pd)), rI o91.2.2.2.2.2.2.2.2.2.2.2.1, rI o91.2.2.2.2.2.2.2.2.2.2.2.2.1, .d (.lst (o91.2.2.2.2.2.2.2.2.2.2.2.2.2.1.map ac.pd)), .ref 544 0])<|sV (r0)<|sN<|qR ?_
 cases oI h
 exact qG
theorem gl {a0 : ag} {a1 : Int} {r : ag × Int} (h : eB a0 a1 = some r) : EvP prog al ext 16 [.d (ag.pd a0), rI a1] [] (.tup [.d (ag.pd r.1), rI r.2], []) := by
 refine Ev.body rfl Tryz.func16 rfl (by kernel_rfl)<|gS rfl rfl<|sB (.ptr 32 0) 32 (.var (ag.rc a0))<|sB (.ptr 64 0) 64 (.var zZ0)<|sV (r0)<|sN<|qS<|gS rfl rfl<|sM rfl<|bE h fun x1 hx1 h => cD (bi hx1)<|sF h (fun h => ?_) fun h => ?_
 ·refine sN<|cT<|gS rfl rfl<|sG (.agg zZ0)<|sH 64 (.var zZ0)<|sV (rI 2)<|sN<|qR ?_
  cases oI h
  exact qG
 refine sN<|cF<|qK<|qS<|gS rfl rfl<|sV (.d (ag.pd a0))<|bE h fun x3 hx3 h => cD (dv hx3)<|sF h (fun h => ?_) fun h => ?_
 ·refine sN<|cT<|gS rfl rfl<|sG (.agg zZ0)<|sH 64 (.var zZ0)<|sV (rI 1)<|sN<|qR ?_
  cases oI h
  exact qG
 refine sN<|cF<|qK<|gS rfl rfl<|sV (r0)<|sN<|qS<|gS rfl rfl<|sV (.d (ag.pd a0))<|bE h fun x5 hx5 h => cR (.agg [rI x5.aA, rI x5.aD, rI x5.aM, rI x5.ar.aF, rI x5.ar.aw, .d (.lst (x5.ar.aB.map PD.str)), .d (.lst (x5.ap.aN.map aa.pd)), .d (.lst (x5.ap.aG.map aa.pd)), rI x5.aC.aA, rI x5.aC.aq, .d (.lst (x5.aC.av.map ac.pd)), rI x5.fUp.aA, rI x5.fUp.aq, .d (.lst (x5.fUp.av.map ac.pd)), .ref 256 0]) [(256, .arr 0 50 (x5.au.map aj.pd))] (gn hx5)<|sH 32 (.var [rI x5.aA, rI x5.aD, rI x5.aM, rI x5.ar.aF, rI x5.ar.aw, .d (.lst (x5.ar.aB.map PD.str)), .d (.lst (x5.ap.aN.map aa.pd)), .d (.lst (x5.ap.aG.map aa.pd)), rI x5.aC.aA, rI x5.aC.aq, .d (.lst (x5.aC.av.map ac.pd)), rI x5.fUp.aA, rI x5.fUp.aq, .d (.lst (x5.fUp.av.map ac.pd)), .ref 256 0])<|sN<|bE h fun o60 ho60 h => WC.block (WC.loop (WL.ofLoop ho60 (fun s R' B' => ghosts prog 0 (A R' B') (al.at_ 16 0 7) = some (A [(1, rI s.1), (2, .ptr 32 0), (4, .ptr 64 0), (6, rI s.2.1)] [(32, .var [rI s.2.2.1, rI s.2.2.2.1, rI s.2.2.2.2.1, rI s.2.2.2.2.2.1, rI s.2.2.2.2.2.2.1, .d (.lst (s.2.2.2.2.2.2.2.1.map PD.str)), .d (.lst (s.2.2.2.2.2.2.2.2.1.map aa.pd)), .d (.lst (s.2.2.2.2.2.2.2.2.2.1.map aa.pd)), rI s.2.2.2.2.2.2.2.2.2.2.1, rI s.2.2.2.2.2.2.2.2.2.2.2.1, .d (.lst (s.2.2.2.2.2.2.2.2.2.2.2.2.1.map ac.pd)), rI s.2.2.2.2.2.2.2.2.2.2.2.2.2.1, rI s.2.2.2.2.2.2.2.2.2.2.2.2.2.2.1, .d (.lst (s.2.2.2.2.2.2.2.2.2.2.2.2.2.2.2.1.map ac.pd)), .d (.lst (s.2.2.2.2.2.2.2.2.2.2.2.2.2.2.2.2.map aj.pd))]), (64, .var zZ0)])) (fun o e R' B' => e = .exit 0 ∧ ghosts prog 0 (A R' B') (al.at_ 16 0 10) = some (A [(2, .ptr 32 0), (4, .ptr 64 0), (6, rI o.1)] [(32, .var [rI o.2.1, rI o.2.2.1, rI o.2.2.2.1, rI o.2.2.2.2.1, rI o.2.2.2.2.2.1, .d (.lst (o.2.2.2.2.2.2.1.map PD.str)), .d (.lst (o.2.2.2.2.2.2.2.1.map aa.pd)), .d (.lst (o.2.2.2.2.2.2.2.2.1.map aa.pd)), rI o.2.2.2.2.2.2.2.2.2.1, rI o.2.2.2.2.2.2.2.2.2.2.1, .d (.lst (o.2.2.2.2.2.2.2.2.2.2.2.1.map ac.pd)), rI o.2.2.2.2.2.2.2.2.2.2.2.2.1, rI o.2.2.2.2.2.2.2.2.2.2.2.2.2.1, .d (.lst (o.2.2.2.2.2.2.2.2.2.2.2.2.2.2.1.map ac.pd)), .d (.lst (o.2.2.2.2.2.2.2.2.2.2.2.2.2.2.2.map aj.pd))]), (64, .var zZ0)])) rfl ?_ ?_))
 ·rintro ⟨s22, s23, s24, s25, s26, s27, s28, s29, s30, s31, s32, s33, s34, s35, s36, s37, s38⟩ R' B' q55 hI h
  refine qS<|gS rfl hI<|sM rfl<|sF h (fun h => ?_) fun h => ?_
  ·refine sM rfl<|sM rfl<|sV (rB (s23 == (0 : Int)))<|sF h (fun h => ?_) fun h => ?_
   ·refine sN<|cT<|qK<|qS<|qB<|WC.region rfl rfl<|sV (.d (ag.pd (ag.mk s24 s25 s26 (ah.mk s27 s28 s29) (ai.mk s30 s31) (ak.mk s32 s33 s34) (ak.mk s35 s36 s37) s38)))<|bE h fun x58 hx58 h => cR (.tup [.d (ag.pd x58.1), rI x58.2]) [] (ld hx58)<|sM rfl<|sV (.d (ag.pd x58.1))<|sV (rI x58.2)<|sH 32 (.var (ag.rc x58.1))<|sA rfl<|sN ?_
    refine WC.region rfl rfl<|sM rfl<|sV (rI (rW (s22 - (1 : Int))))<|sA rfl<|sN ?_
    cases oI h
    exact ⟨rfl, rfl⟩
   refine sN<|cF<|qX ?_
   cases oI h
   exact ⟨nofun, rfl, rfl⟩
  refine sM rfl<|sK<|sK<|sU<|sN<|cF<|qX ?_
  cases oI h
  exact ⟨nofun, rfl, rfl⟩
 intro e R' B' he hq
 obtain ⟨rfl, hI⟩ := hq
 refine qE<|gS rfl hI<|sV (.d (ag.pd (ag.mk o60.2.1 o60.2.2.1 o60.2.2.2.1 (ah.mk o60.2.2.2.2.1 o60.2.2.2.2.2.1 o60.2.2.2.2.2.2.1) (ai.mk o60.2.2.2.2.2.2.2.1 o60.2.2.2.2.2.2.2.2.1) (ak.mk o60.2.2.2.2.2.2.2.2.2.1 o60.2.2.2.2.2.2.2.2.2.2.1 o60.2.2.2.2.2.2.2.2.2.2.2.1) (ak.mk o60.2.2.2.2.2.2.2.2.2.2.2.2.1 o60.2.2.2.2.2.2.2.2.2.2.2.2.2.1 o60.2.2.2.2.2.2.2.2.2.2.2.2.2.2.1) o60.2.2.2.2.2.2.2.2.2.2.2.2.2.2.2)))<|sM rfl<|sH 64 (.var [rI o60.2.1, rI o60.2.2.1, rI o60.2.2.2.1, rI o60.2.2.2.2.1, rI o60.2.2.2.2.2.1, .d (.lst (o60.2.2.2.2.2.2.1.map PD.str)), .d (.lst (o60.2.2.2.2.2.2.2.1.map aa.pd)), .d (.lst (o60.2.2.2.2.2.2.2.2.1.map aa.pd)), rI o60.2.2.2.2.2.2.2.2.2.1, rI o60.2.2.2.2.2.2.2.2.2.2.1, .d (.lst (o60.2.2.2.2.2.2.2.2.2.2.2.1.map ac.pd)), rI o60.2.2.2.2.2.2.2.2.2.2.2.2.1, rI o60.2.2.2.2.2.2.2.2.2.2.2.2.2.1, .d (.lst (o60.2.2.2.2.2.2.2.2.2.2.2.2.2.2.1.map ac.pd)), .d (.lst (o60.2.2.2.2.2.2.2.2.2.2.2.2.2.2.2.map aj.pd))])<|sA rfl<|sN<|qR ?_
 cases oI h
 exact qG
theorem dq {a0 : ag} {r : Bool} (h : bC a0 = some r) : EvP prog al ext 14 [.d (ag.pd a0)] [] (rB r, []) := by
 refine Ev.body rfl Tryz.func14 rfl (by kernel_rfl)<|gS rfl rfl<|sB (.ptr 16 0) 16 (.var (ag.rc a0))<|sU<|sN<|WC.regionDSeq rfl rfl<|sV (.ptr 16 6)<|sV (.d (ai.pd a0.ap))<|sV (.ptr 16 3)<|sV (.d (ah.pd a0.ar))<|bE h fun x1 hx1 h => cD (ca hx1)<|bE h fun x2 hx2 h => cR (.tup [.d (.lst (x2.1.map aa.pd)), rI x2.2]) [] (iP hx2)<|sM rfl ?_
 refine sV (.d (.lst (x2.1.map aa.pd)))<|sV (rI x2.2)<|sA rfl<|sA rfl ?_
 refine sN<|sO<|gS rfl rfl<|sV (.d (ag.pd a0))<|bE h fun x3 hx3 h => ite_elim h (fun hb4 h => ?_) (fun hb4 h => ?_)
 ·refine WO.callR (v := rB true) (u := []) rfl rfl (fun _ => rfl) rfl rfl rfl rfl rfl (dv hx3) rfl rfl (congrArg (fun b => RV.d (.bool b)) hb4) rfl<|sM rfl<|sM rfl<|sV (rB (x2.2 == (0 : Int)))<|sF h (fun h => ?_) fun h => ?_
  ·refine sM rfl<|sM rfl<|sE (rI (x2.1.length : Int)) (lenMap _ _)<|sV (rB ((x2.1.length : Int) == (0 : Int)))<|sV (rB ((x2.1.length : Int) == (0 : Int)))<|sA rfl<|sN<|qR ?_
   cases oI h
   exact qG
  refine sM rfl<|k3<|sU<|sA rfl<|sN<|qR ?_
  cases oI h
  exact qG
 refine WO.callR (v := rB false) (u := []) rfl rfl (fun _ => rfl) rfl rfl rfl rfl rfl (dv hx3) rfl rfl (congrArg (fun b => RV.d (.bool b)) hb4) rfl<|sM rfl<|sK<|sK<|sU<|sM rfl<|k3<|sU<|sA rfl<|sN<|qR ?_
 cases oI h
 exact qG
theorem c8  {r : Bool} (h : cq = some r) : EvP prog al ext 7 [] [] (rB r, []) := by
 refine Ev.body rfl Tryz.func7 rfl (by kernel_rfl)<|gS rfl rfl<|sU<|sN<|gS rfl rfl<|bE h fun x1 hx1 h => cR (.tup [.d (ag.pd x1.1), rI x1.2]) [] (jr hx1)<|sM rfl<|sV (.d (ag.pd x1.1))<|sV (rI x1.2)<|sB (.ptr 16 0) 16 (.var zZ0)<|sH 16 (.var (ag.rc x1.1))<|sA rfl<|sN<|qS ?_
 refine gS rfl rfl<|sV (r0)<|sN<|bE h fun o41 ho41 h => WC.block (WC.loop (WL.ofLoop ho41 (fun s R' B' => ghosts prog 0 (A R' B') (al.at_ 7 0 3) = some (A [(1, .ptr 16 0), (2, rI s.1), (3, rI s.2.1)] [(16, .var [rI s.2.2.1, rI s.2.2.2.1, rI s.2.2.2.2.1, rI s.2.2.2.2.2.1, rI s.2.2.2.2.2.2.1, .d (.lst (s.2.2.2.2.2.2.2.1.map PD.str)), .d (.lst (s.2.2.2.2.2.2.2.2.1.map aa.pd)), .d (.lst (s.2.2.2.2.2.2.2.2.2.1.map aa.pd)), rI s.2.2.2.2.2.2.2.2.2.2.1, rI s.2.2.2.2.2.2.2.2.2.2.2.1, .d (.lst (s.2.2.2.2.2.2.2.2.2.2.2.2.1.map ac.pd)), rI s.2.2.2.2.2.2.2.2.2.2.2.2.2.1, rI s.2.2.2.2.2.2.2.2.2.2.2.2.2.2.1, .d (.lst (s.2.2.2.2.2.2.2.2.2.2.2.2.2.2.2.1.map ac.pd)), .d (.lst (s.2.2.2.2.2.2.2.2.2.2.2.2.2.2.2.2.map aj.pd))])])) (fun o e R' B' => e = .exit 0 ∧ ghosts prog 0 (A R' B') (al.at_ 7 0 6) = some (A [(1, .ptr 16 0), (2, rI o.1)] [(16, .var [rI o.2.1, rI o.2.2.1, rI o.2.2.2.1, rI o.2.2.2.2.1, rI o.2.2.2.2.2.1, .d (.lst (o.2.2.2.2.2.2.1.map PD.str)), .d (.lst (o.2.2.2.2.2.2.2.1.map aa.pd)), .d (.lst (o.2.2.2.2.2.2.2.2.1.map aa.pd)), rI o.2.2.2.2.2.2.2.2.2.1, rI o.2.2.2.2.2.2.2.2.2.2.1, .d (.lst (o.2.2.2.2.2.2.2.2.2.2.2.1.map ac.pd)), rI o.2.2.2.2.2.2.2.2.2.2.2.2.1, rI o.2.2.2.2.2.2.2.2.2.2.2.2.2.1, .d (.lst (o.2.2.2.2.2.2.2.2.2.2.2.2.2.2.1.map ac.pd)), .d (.lst (o.2.2.2.2.2.2.2.2.2.2.2.2.2.2.2.map aj.pd))])])) rfl ?_ ?_))
 ·rintro ⟨s2, s3, s4, s5, s6, s7, s8, s9, s10, s11, s12, s13, s14, s15, s16, s17, s18⟩ R' B' q35 hI h
  refine qS<|gS rfl hI<|sM rfl<|sF h (fun h => ?_) fun h => ?_
  ·refine sM rfl<|sM rfl<|sV (rB (s2 == (0 : Int)))<|sF h (fun h => ?_) fun h => ?_
   ·refine sN<|cT<|qK<|qS<|qB<|WC.regionD rfl rfl<|sV (.d (ag.pd (ag.mk s4 s5 s6 (ah.mk s7 s8 s9) (ai.mk s10 s11) (ak.mk s12 s13 s14) (ak.mk s15 s16 s17) s18)))<|sV (.d (.lst ([[97], [98], [99]].map PD.str)))<|sM rfl<|bE h fun x38 hx38 h => eG hx38 rfl<|sC rfl<|sM rfl<|sV (rB (decide (s3 > (0 : Int))))<|sV (.d (ae.pd (ae.mk (decide (s3 > (0 : Int))) 0 0))) ?_
    refine bE h fun x39 hx39 h => cR (.tup [.d (ag.pd x39.1), rI x39.2.1, rI x39.2.2]) [] (fr hx39)<|sM rfl<|sV (.d (ag.pd x39.1))<|sV (rI x39.2.1)<|sV (rI x39.2.2)<|sH 16 (.var (ag.rc x39.1))<|sA rfl ?_
    refine sN<|sO<|WC.region rfl rfl<|sM rfl<|sV (rI (rW (s3 + (1 : Int))))<|sA rfl<|sN ?_
    cases oI h
    exact ⟨rfl, rfl⟩
   refine sN<|cF<|qX ?_
   cases oI h
   exact ⟨nofun, rfl, rfl⟩
  refine sM rfl<|sK<|sK<|sU<|sN<|cF<|qX ?_
  cases oI h
  exact ⟨nofun, rfl, rfl⟩
 intro e R' B' he hq
 obtain ⟨rfl, hI⟩ := hq
 refine qE<|qS<|gS rfl hI<|sM rfl<|sF h (fun h => ?_) fun h => ?_
 ·refine sN<|cT<|gS rfl rfl<|sU<|sN<|qR ?_
  cases oI h
  exact qG
 refine sN<|cF<|qK<|gS rfl rfl<|sV (.d (ag.pd (ag.mk o41.2.1 o41.2.2.1 o41.2.2.2.1 (ah.mk o41.2.2.2.2.1 o41.2.2.2.2.2.1 o41.2.2.2.2.2.2.1) (ai.mk o41.2.2.2.2.2.2.2.1 o41.2.2.2.2.2.2.2.2.1) (ak.mk o41.2.2.2.2.2.2.2.2.2.1 o41.2.2.2.2.2.2.2.2.2.2.1 o41.2.2.2.2.2.2.2.2.2.2.2.1) (ak.mk o41.2.2.2.2.2.2.2.2.2.2.2.2.1 o41.2.2.2.2.2.2.2.2.2.2.2.2.2.1 o41.2.2.2.2.2.2.2.2.2.2.2.2.2.2.1) o41.2.2.2.2.2.2.2.2.2.2.2.2.2.2.2)))<|bE h fun x43 hx43 h => cR (.tup [.d (ag.pd x43.1), rI x43.2]) [] (gl hx43)<|sM rfl<|sV (.d (ag.pd x43.1))<|sV (rI x43.2)<|sB (.ptr 64 0) 64 (.var zZ0)<|sH 64 (.var (ag.rc x43.1))<|sA rfl<|sN<|gS rfl rfl ?_
 refine sV (.d (.agg [.int .i64 x43.1.aA, .int .i64 x43.1.aD, .int .i64 x43.1.aM, .int .i64 x43.1.ar.aF, .int .i64 x43.1.ar.aw, .lst (x43.1.ar.aB.map PD.str), .lst (x43.1.ap.aN.map aa.pd), .lst (x43.1.ap.aG.map aa.pd), .int .i64 x43.1.aC.aA, .int .i64 x43.1.aC.aq, .lst (x43.1.aC.av.map ac.pd), .int .i64 x43.1.fUp.aA, .int .i64 x43.1.fUp.aq, .lst (x43.1.fUp.av.map ac.pd), .lst (x43.1.au.map aj.pd)]))<|bE h fun x44 hx44 h => cR (.tup [.d (ag.pd x44.1), rI x44.2]) [] (gl hx44)<|sM rfl<|sV (.d (ag.pd x44.1))<|sV (rI x44.2)<|sB (.ptr 96 0) 96 (.var zZ0)<|sH 96 (.var (ag.rc x44.1))<|sA rfl<|sN<|gS rfl rfl<|sM rfl<|sF h (fun h => ?_) fun h => ?_
 ·refine sM rfl<|sM rfl<|sV (rB (x44.2 == (0 : Int)))<|sF h (fun h => ?_) fun h => ?_
  ·refine sM rfl<|sV (.ptr 64 14)<|sL rfl<|sE (rI (x43.1.au.length : Int)) (lenMap _ _)<|sV (rB ((x43.1.au.length : Int) == (1 : Int)))<|sF h (fun h => ?_) fun h => ?_
   ·refine sM rfl<|sV (.d (.agg [.int .i64 x43.1.aA, .int .i64 x43.1.aD, .int .i64 x43.1.aM, .int .i64 x43.1.ar.aF, .int .i64 x43.1.ar.aw, .lst (x43.1.ar.aB.map PD.str), .lst (x43.1.ap.aN.map aa.pd), .lst (x43.1.ap.aG.map aa.pd), .int .i64 x43.1.aC.aA, .int .i64 x43.1.aC.aq, .lst (x43.1.aC.av.map ac.pd), .int .i64 x43.1.fUp.aA, .int .i64 x43.1.fUp.aq, .lst (x43.1.fUp.av.map ac.pd), .lst (x43.1.au.map aj.pd)]))<|bE h fun x48 hx48 h => cD (dq hx48)<|sV (rB (!x48))<|sF h (fun h => ?_) fun h => ?_
    ·refine sM rfl<|sV (.d (.agg [.int .i64 x44.1.aA, .int .i64 x44.1.aD, .int .i64 x44.1.aM, .int .i64 x44.1.ar.aF, .int .i64 x44.1.ar.aw, .lst (x44.1.ar.aB.map PD.str), .lst (x44.1.ap.aN.map aa.pd), .lst (x44.1.ap.aG.map aa.pd), .int .i64 x44.1.aC.aA, .int .i64 x44.1.aC.aq, .lst (x44.1.aC.av.map ac.pd), .int .i64 x44.1.fUp.aA, .int .i64 x44.1.fUp.aq, .lst (x44.1.fUp.av.map ac.pd), .lst (x44.1.au.map aj.pd)]))<|bE h fun x50 hx50 h => cD (dq hx50)<|sF h (fun h => ?_) fun h => ?_
     ·refine sM rfl<|sV (.ptr 96 14)<|sL rfl<|sE (rI (x44.1.au.length : Int)) (lenMap _ _)<|sV (rB ((x44.1.au.length : Int) == (3 : Int)))<|sV (rB ((x44.1.au.length : Int) == (3 : Int)))<|sA rfl<|sN<|qR ?_
      cases oI h
      exact qG
     refine sM rfl<|k3<|sK<|sU<|sA rfl<|sN<|qR ?_
     cases oI h
     exact qG
    refine sM rfl<|sK<|sK<|sU<|sM rfl<|k3<|sK<|sU<|sA rfl<|sN<|qR ?_
    cases oI h
    exact qG
   refine sM rfl<|k3<|sU<|sM rfl<|sK<|sK<|sU<|sM rfl<|k3<|sK<|sU ?_
   refine sA rfl<|sN<|qR ?_
   cases oI h
   exact qG
  refine sM rfl<|k3<|sK<|sU<|sM rfl<|k3<|sU<|sM rfl<|sK<|sK<|sU ?_
  refine sM rfl<|k3<|sK<|sU<|sA rfl<|sN<|qR ?_
  cases oI h
  exact qG
 refine sM rfl<|sK<|sK<|sU<|sM rfl<|k3<|sK<|sU<|sM rfl<|k3<|sU ?_
 refine sM rfl<|sK<|sK<|sU<|sM rfl<|k3<|sK<|sU<|sA rfl<|sN<|qR ?_
 cases oI h
 exact qG
theorem mc {a0 : (List Int)} {r : Bool} (h : jl a0 = some r) : EvP prog al ext 6 [.d (.lst (a0.map (PD.int .i64)))] [] (rB r, []) := by
 refine Ev.body rfl Tryz.func6 rfl (by kernel_rfl)<|gS rfl rfl<|sU<|sN<|gS rfl rfl<|sM rfl<|sE (rI (a0.length : Int)) (lenMap _ _)<|sV (rB (decide ((a0.length : Int) ≤ (500 : Int))))<|sA rfl<|sN<|qR ?_
 cases oI h
 exact qD
theorem mJ {a0 : (List Int)} {r : am} (h : kw a0 = some r) : EvP prog al ext 8 [.d (.lst (a0.map (PD.int .i64)))] [] (.ptr 0 0, [.var [.d (.lst (r.fL.map (PD.int .i64))), rI r.fAt]]) := by
 refine Ev.body rfl Tryz.func8 rfl (by kernel_rfl)<|gS rfl rfl<|sV (.d (.raw (.pointer none)))<|sN<|gS rfl rfl<|sM rfl<|sV (.d (am.pd (am.mk a0 0)))<|sB (.ptr 80 0) 80 (.var [.d (.lst (a0.map (PD.int .i64))), r0])<|sA rfl<|sN<|qR ?_
 cases oI h
 exact qD
theorem a8 {a1 : Int} {d0 : am} {r : Int × am} (h : bp a1 d0 = some r) : EvP prog al ext 11 [.ptr 0 0, rI a1] [.var [.d (.lst (d0.fL.map (PD.int .i64))), rI d0.fAt]] (rI r.1, [.var [.d (.lst (r.2.fL.map (PD.int .i64))), rI r.2.fAt]]) := by
 refine Ev.body rfl Tryz.func11 rfl (by kernel_rfl)<|gS rfl rfl<|sV (r0)<|sN<|qS<|WC.regionDSeq rfl rfl<|sM rfl<|sV (.ptr 0 0)<|sV (.ptr 0 1)<|sL rfl<|sM rfl<|sV (.ptr 0 0)<|sV (.ptr 0 0)<|sL rfl<|sE (rI (d0.fL.length : Int)) (lenMap _ _) ?_
 refine sF h (fun h => ?_) fun h => ?_
 ·refine sM rfl<|sK<|sK<|sT ?_
  refine sN<|sO<|cT<|gS rfl rfl<|sV (r0)<|sN<|qR ?_
  cases oI h
  exact qD
 refine sM rfl<|sM rfl<|sV (rB (decide (a1 < (1 : Int))))<|sF h (fun h => ?_) fun h => ?_
 ·refine sN<|sO<|cT<|gS rfl rfl<|sV (r0)<|sN<|qR ?_
  cases oI h
  exact qD
 refine sN<|sO<|cF<|qK<|WC.regionDSeq rfl rfl<|sM rfl<|sV (.ptr 0 0)<|sV (.ptr 0 0)<|sL rfl<|sM rfl<|sV (.ptr 0 0)<|sV (.ptr 0 1)<|sL rfl<|bE h fun x3 hx3 h => eG hx3 rfl<|sC rfl ?_
 refine sM rfl<|bE h fun x4 hx4 h => WO.remG hx4 rfl rfl rfl rfl rfl rfl<|sA rfl ?_
 refine sN<|sO<|gS rfl rfl<|sM rfl<|sV (.ptr 0 0)<|sV (.ptr 0 1)<|sL rfl<|sV (rI (rW (d0.fAt + (1 : Int))))<|sV (.ptr 0 0)<|sV (.ptr 0 1)<|sS 0 (.var [.d (.lst (d0.fL.map (PD.int .i64))), rI (rW (d0.fAt + (1 : Int)))])<|sN<|qS<|gS rfl rfl<|sM rfl<|sF h (fun h => ?_) fun h => ?_
 ·refine sN<|cT<|WC.region rfl rfl<|sM rfl<|sM rfl<|sV (rI (rW (x4 + a1)))<|sA rfl<|sN<|gS rfl rfl<|sM rfl<|sA rfl<|sN<|qR ?_
  cases oI h
  exact qD
 refine sN<|cF<|qK<|gS rfl rfl<|sM rfl<|sA rfl<|sN<|qR ?_
 cases oI h
 exact qD
theorem kG {a1 : (List Int)} {d0 : am} {r : Int × am} (h : ja a1 d0 = some r) : EvP prog al ext 10 [.ptr 0 0, .d (.lst (a1.map (PD.int .i64)))] [.var [.d (.lst (d0.fL.map (PD.int .i64))), rI d0.fAt]] (rI r.1, [.var [.d (.lst (r.2.fL.map (PD.int .i64))), rI r.2.fAt]]) := by
 refine Ev.body rfl Tryz.func10 rfl (by kernel_rfl)<|gS rfl rfl<|sV (r0)<|sN<|gS rfl rfl<|sM rfl<|sM rfl<|sM rfl<|sE (rI (a1.length : Int)) (lenMap _ _)<|bE h fun x1 hx1 h => cR (rI x1.1) [(0, .var [.d (.lst (x1.2.fL.map (PD.int .i64))), rI x1.2.fAt])] (a8 hx1)<|bE h fun x2 hx2 h => eG hx2 rfl<|sC rfl<|sA rfl ?_
 refine sN<|qR ?_
 cases oI h
 exact qD
theorem fh {a0 : ah} {r : Int} (h : cr a0 = some r) : EvP prog al ext 15 [.d (ah.pd a0)] [] (rI r, []) := by
 refine Ev.body rfl Tryz.func15 rfl (by kernel_rfl)<|gS rfl rfl<|sB (.ptr 16 0) 16 (.var [rI a0.aF, rI a0.aw, .d (.lst (a0.aB.map PD.str))])<|sV (r0)<|sN<|gS rfl rfl<|sV (.ptr 16 1)<|sL rfl<|sV (.ptr 16 2)<|sL rfl<|sE (rI (a0.aB.length : Int)) (lenMap _ _)<|sV (rI (rW (a0.aw + (a0.aB.length : Int))))<|sA rfl<|sN<|qR ?_
 cases oI h
 exact qD
theorem ref06_run_ev {a0 : Int} {a1 : (List UInt8)} {r : Int} (h : lO a0 a1 = some r) : EvP prog al ext 93 [rI a0, rS a1] [] (rI r, []) := by
 refine Ev.body rfl Tryz.func93 rfl (by kernel_rfl)<|gS rfl rfl<|sV (r0)<|sN<|qS<|gS rfl rfl<|sV (r0)<|sN<|bE h fun o17 ho17 h => WC.block (WC.loop (WL.ofLoop ho17 (fun s R' B' => ghosts prog 0 (A R' B') (al.at_ 93 0 2) = some (A [(0, rI s.1), (1, rS a1), (5, rI s.2)] [])) (fun o e R' B' => e = .exit 0 ∧ ghosts prog 0 (A R' B') (al.at_ 93 0 12) = some (A [(0, rI o)] [])) rfl ?_ ?_))
 ·rintro ⟨s1, s2⟩ R' B' q4 hI h
  refine qS<|gS rfl hI<|sM rfl<|sM rfl<|sV (rI (a1.length : Int))<|sF h (fun h => ?_) fun h => ?_
  ·refine sN<|cT<|qK<|qS<|qB<|gS rfl rfl<|sM rfl<|sM rfl<|sM rfl<|bE h fun x6 hx6 h => WO.byteG hx6 rfl rfl rfl rfl rfl rfl<|sV (rI (IntKind.wrap .i64 x6))<|sV (rI (xorI .i64 s1 (IntKind.wrap .i64 x6)))<|sA rfl<|sN ?_
   refine gS rfl rfl<|sV (r0)<|sN<|bE h fun o15 ho15 h => WC.block (WC.loop (WL.ofLoop ho15 (fun s R' B' => ghosts prog 0 (A R' B') (al.at_ 93 0 6) = some (A [(0, rI s.1), (1, rS a1), (5, rI s2), (6, rI s.2)] [])) (fun o e R' B' => e = .exit 2 ∧ ghosts prog 0 (A R' B') (al.at_ 93 0 3) = some (A [(0, rI o.1), (1, rS a1), (5, rI o.2)] [])) rfl ?_ ?_))
   ·rintro ⟨s7, s8⟩ R' B' q11 hI h
    refine qS<|gS rfl hI<|sM rfl<|sF h (fun h => ?_) fun h => ?_
    ·refine sN<|cT<|qK<|qS<|qB<|gS rfl rfl<|sM rfl<|sV (rI (andI .i64 s7 (1 : Int)))<|sA rfl<|sN<|gS rfl rfl<|sM rfl<|sV (rI (shrI .i64 s7 (1 : Int)))<|sA rfl<|sN ?_
     refine gS rfl rfl<|sM rfl<|sF h (fun h => ?_) fun h => ?_
     ·refine sN<|cT<|WC.region rfl rfl<|sM rfl<|sV (rI (xorI .i64 (shrI .i64 s7 (1 : Int)) (3988292384 : Int)))<|sA rfl<|sN<|WC.region rfl rfl<|sM rfl<|sV (rI (rW (s8 + (1 : Int))))<|sA rfl<|sN ?_
      cases oI h
      exact ⟨rfl, rfl⟩
     refine sN<|cF<|qK<|WC.region rfl rfl<|sM rfl<|sV (rI (rW (s8 + (1 : Int))))<|sA rfl<|sN ?_
     cases oI h
     exact ⟨rfl, rfl⟩
    refine sN<|cF<|qX ?_
    cases oI h
    exact ⟨nofun, rfl, rfl⟩
   intro e R' B' he hq
   obtain ⟨rfl, hI⟩ := hq
   refine qE<|WC.region hI rfl<|sM rfl<|sV (rI (rW (o15.2 + (1 : Int))))<|sA rfl<|sN ?_
   cases oI h
   exact ⟨rfl, rfl⟩
  refine sN<|cF<|qX ?_
  cases oI h
  exact ⟨nofun, rfl, rfl⟩
 intro e R' B' he hq
 obtain ⟨rfl, hI⟩ := hq
 refine qE<|gS rfl hI<|sM rfl<|sA rfl<|sN<|qR ?_
 cases oI h
 exact qD
theorem ref06_Sum_ev {a0 : (List UInt8)} {r : Int} (h : ref06_Sum a0 = some r) : EvP prog al ext 52 [rS a0] [] (rI r, []) := by
 refine Ev.body rfl Tryz.func52 rfl (by kernel_rfl)<|gS rfl rfl<|sV (r0)<|sN<|gS rfl rfl<|sM rfl<|bE h fun x1 hx1 h => cD (ref06_run_ev hx1)<|sV (rI (xorI .i64 x1 (4294967295 : Int)))<|sA rfl<|sN<|qR ?_
 cases oI h
 exact qD
theorem cP {a0 : (List UInt8)} {r : (List UInt8)} (h : cv a0 = some r) : EvP prog al ext 17 [rS a0] [] (rS r, []) := by
 refine Ev.body rfl Tryz.func17 rfl (by kernel_rfl)<|gS rfl rfl<|sV (rS [])<|sN<|gS rfl rfl<|sM rfl<|bE h fun x1 hx1 h => cD (ref06_Sum_ev hx1)<|sA rfl<|sN<|gS rfl rfl<|sM rfl<|sM rfl<|sV (.d (.int .u8 (IntKind.wrap .u8 x1)))<|sM rfl ?_
 refine sV (rI (shrI .i64 x1 (8 : Int)))<|sV (.d (.int .u8 (IntKind.wrap .u8 (shrI .i64 x1 (8 : Int)))))<|sM rfl<|sV (rI (shrI .i64 x1 (16 : Int)))<|sV (.d (.int .u8 (IntKind.wrap .u8 (shrI .i64 x1 (16 : Int)))))<|sM rfl<|sV (rI (shrI .i64 x1 (24 : Int)))<|sV (.d (.int .u8 (IntKind.wrap .u8 (shrI .i64 x1 (24 : Int)))))<|sV (.d (.lst ([(IntKind.wrap .u8 x1), (IntKind.wrap .u8 (shrI .i64 x1 (8 : Int))), (IntKind.wrap .u8 (shrI .i64 x1 (16 : Int))), (IntKind.wrap .u8 (shrI .i64 x1 (24 : Int)))].map (PD.int .u8))))<|WO.strU rfl rfl rfl rfl rfl rfl rfl<|bE h fun x2 hx2 h => WO.catG hx2 rfl rfl rfl rfl rfl<|sA rfl<|sN<|qR ?_
 cases oI h
 exact qD
theorem dG {a0 : Int} {a1 : Int} {a2 : Int} {r : Bool} (h : ex a0 a1 a2 = some r) : EvP prog al ext 55 [rI a0, rI a1, rI a2] [] (rB r, []) := by
 refine Ev.body rfl Tryz.func55 rfl (by kernel_rfl)<|gS rfl rfl<|sU<|sN<|gS rfl rfl<|sM rfl<|sM rfl<|sF h (fun h => ?_) fun h => ?_
 ·refine sM rfl<|sM rfl<|sM rfl<|sV (rB (decide (a0 ≤ a2)))<|sV (rB (decide (a0 ≤ a2)))<|sA rfl<|sN<|qR ?_
  cases oI h
  exact qD
 refine sM rfl<|k3<|sU<|sA rfl<|sN<|qR ?_
 cases oI h
 exact qD
theorem ref04_Put_ev {a0 : (List UInt8)} {a1 : Int} {a2 : Int} {r : (List UInt8) × Int} (h : ky a0 a1 a2 = some r) : EvP prog al ext 96 [rS a0, rI a1, rI a2] [] (.tup [rS r.1, rI r.2], []) := by
 refine Ev.body rfl Tryz.func96 rfl (by kernel_rfl)<|gS rfl rfl<|sV (rS [])<|sV (r0)<|sN<|qS<|gS rfl rfl<|sM rfl<|bE h fun x1 hx1 h => cD (dG hx1)<|sF h (fun h => ?_) fun h => ?_
 ·refine sM rfl<|sK<|sK<|sT<|sM rfl<|k3<|k3<|sT<|sN<|cT<|gS rfl rfl ?_
  refine sV (rS [])<|sV (rI 2)<|sN<|qR ?_
  cases oI h
  exact qD
 refine sM rfl<|sM rfl<|sV (rB (decide (a1 < (0 : Int))))<|sF h (fun h => ?_) fun h => ?_
 ·refine sM rfl<|k3<|k3<|sT<|sN<|cT<|gS rfl rfl<|sV (rS [])<|sV (rI 2)<|sN<|qR ?_
  cases oI h
  exact qD
 refine sM rfl<|sM rfl<|sM rfl<|sV (rI (rW ((8 : Int) * a2)))<|sV (.d (.int .u64 (IntKind.wrap .u64 (rW ((8 : Int) * a2)))))<|bE h fun x4 hx4 h => WO.shlG hx4 rfl rfl rfl rfl rfl<|sV (rB (decide (a1 ≥ x4)))<|sF h (fun h => ?_) fun h => ?_
 ·refine sN<|cT<|gS rfl rfl<|sV (rS [])<|sV (rI 2)<|sN<|qR ?_
  cases oI h
  exact qD
 refine sN<|cF<|qK<|gS rfl rfl<|sM rfl<|bE h fun b6 hb6 h => WO.bytR hb6 rfl rfl rfl rfl rfl rfl rfl rfl rfl<|sA rfl<|sN<|qS<|gS rfl rfl<|sM rfl<|sV (rI (rW (a2 - (1 : Int))))<|sA rfl<|sN ?_
 refine bE h fun o15 ho15 h => WC.block (WC.loop (WL.ofLoop ho15 (fun s R' B' => ghosts prog 0 (A R' B') (al.at_ 96 0 5) = some (A [(1, rI a1), (8, .ref 416 0), (9, rI s.1)] [(416, .arr 0 5 (s.2.map (PD.int .u8)))])) (fun o e R' B' => e = .exit 0 ∧ ghosts prog 0 (A R' B') (al.at_ 96 0 8) = some (A [(8, .ref 416 0)] [(416, .arr 0 5 (o.map (PD.int .u8)))])) rfl ?_ ?_))
 ·rintro ⟨s7, s8⟩ R' B' q10 hI h
  refine qS<|gS rfl hI<|sM rfl<|sF h (fun h => ?_) fun h => ?_
  ·refine sN<|cT<|qK<|qS<|qB<|WC.region rfl rfl<|sM rfl<|sM rfl<|sM rfl<|sV (rI (rW ((8 : Int) * s7)))<|sV (.d (.int .u64 (IntKind.wrap .u64 (rW ((8 : Int) * s7)))))<|bE h fun x12 hx12 h => WO.shrG hx12 rfl rfl rfl rfl rfl<|sV (.d (.int .u8 (IntKind.wrap .u8 x12)))<|sV (.d (.lst ([(IntKind.wrap .u8 x12)].map (PD.int .u8)))) ?_
   refine bE h fun x13 hx13 h => aR hx13 (fun _ => rfl) rfl<|sA rfl<|sN<|WC.region rfl rfl<|sM rfl<|sV (rI (rW (s7 - (1 : Int))))<|sA rfl<|sN ?_
   cases oI h
   exact ⟨rfl, rfl⟩
  refine sN<|cF<|qX ?_
  cases oI h
  exact ⟨nofun, rfl, rfl⟩
 intro e R' B' he hq
 obtain ⟨rfl, hI⟩ := hq
 refine qE<|gS rfl hI<|sM rfl<|WO.rowS rfl rfl rfl rfl rfl rfl rfl rfl<|sA rfl<|sV (r0)<|sN<|qR ?_
 cases oI h
 exact qD
theorem kV {a0 : (List UInt8)} {a1 : (List Int)} {r : (List UInt8)} (h : jd a0 a1 = some r) : EvP prog al ext 56 [rS a0, .d (.lst (a1.map (PD.int .i64)))] [] (rS r, []) := by
 refine Ev.body rfl Tryz.func56 rfl (by kernel_rfl)<|gS rfl rfl<|sV (rS [])<|sN<|qS<|gS rfl rfl<|sV (r0)<|sN<|bE h fun o9 ho9 h => WC.block (WC.loop (WL.ofLoop ho9 (fun s R' B' => ghosts prog 0 (A R' B') (al.at_ 56 0 2) = some (A [(0, rS s.1), (1, .d (.lst (a1.map (PD.int .i64)))), (5, rI s.2)] [])) (fun o e R' B' => e = .exit 0 ∧ ghosts prog 0 (A R' B') (al.at_ 56 0 5) = some (A [(0, rS o)] [])) rfl ?_ ?_))
 ·rintro ⟨s1, s2⟩ R' B' q4 hI h
  refine qS<|gS rfl hI<|sM rfl<|sM rfl<|sE (rI (a1.length : Int)) (lenMap _ _)<|sF h (fun h => ?_) fun h => ?_
  ·refine sN<|cT<|qK<|qS<|qB<|WC.region rfl rfl<|sM rfl<|sM rfl<|sM rfl<|bE h fun x6 hx6 h => eG hx6 rfl<|sC rfl<|bE h fun x7 hx7 h => cR (.tup [rS x7.1, rI x7.2]) [] (ref04_Put_ev hx7)<|sM rfl ?_
   refine sV (rS x7.1)<|sV (rI x7.2)<|sA rfl<|sN<|WC.region rfl rfl<|sM rfl<|sV (rI (rW (s2 + (1 : Int))))<|sA rfl<|sN ?_
   cases oI h
   exact ⟨rfl, rfl⟩
  refine sN<|cF<|qX ?_
  cases oI h
  exact ⟨nofun, rfl, rfl⟩
 intro e R' B' he hq
 obtain ⟨rfl, hI⟩ := hq
 refine qE<|gS rfl hI<|sM rfl<|sA rfl<|sN<|qR ?_
 cases oI h
 exact qD
theorem ref12_Data_ev {a0 : Int} {a1 : Int} {a2 : (List UInt8)} {r : (List UInt8) × Int} (h : kT a0 a1 a2 = some r) : EvP prog al ext 19 [rI a0, rI a1, rS a2] [] (.tup [rS r.1, rI r.2], []) := by
 refine Ev.body rfl Tryz.func19 rfl (by kernel_rfl)<|gS rfl rfl<|sV (rS [])<|sV (r0)<|sN<|qS<|gS rfl rfl<|sM rfl<|bE h fun x1 hx1 h => cD (dG hx1)<|sF h (fun h => ?_) fun h => ?_
 ·refine sM rfl<|k3<|sT<|sN<|cT<|gS rfl rfl<|sV (rS [])<|sV (rI 2)<|sN<|qR ?_
  cases oI h
  exact qD
 refine sM rfl<|sM rfl<|bE h fun x3 hx3 h => cD (dG hx3)<|sV (rB (!x3))<|sF h (fun h => ?_) fun h => ?_
 ·refine sN<|cT<|gS rfl rfl<|sV (rS [])<|sV (rI 2)<|sN<|qR ?_
  cases oI h
  exact qD
 refine sN<|cF<|qK<|gS rfl rfl<|sM rfl<|sM rfl<|sV (.d (.lst ([a0, a1].map (PD.int .i64))))<|bE h fun x5 hx5 h => cD (kV hx5)<|sM rfl<|bE h fun x6 hx6 h => WO.catG hx6 rfl rfl rfl rfl rfl<|bE h fun x7 hx7 h => cD (cP hx7)<|sA rfl ?_
 refine sN<|qS<|gS rfl rfl<|sM rfl<|sV (rI (x7.length : Int))<|sF h (fun h => ?_) fun h => ?_
 ·refine sN<|cT<|gS rfl rfl<|sV (rS [])<|sV (rI 8)<|sN<|qR ?_
  cases oI h
  exact qD
 refine sN<|cF<|qK<|gS rfl rfl<|sM rfl<|sA rfl<|sV (r0)<|sN<|qR ?_
 cases oI h
 exact qD
theorem ref10_New_ev {a0 : Int} {r : ah × Int} (h : lP a0 = some r) : EvP prog al ext 57 [rI a0] [] (.tup [.d (ah.pd r.1), rI r.2], []) := by
 refine Ev.body rfl Tryz.func57 rfl (by kernel_rfl)<|gS rfl rfl<|sB (.ptr 32 0) 32 (.var [r0, r0, .nils])<|sV (r0)<|sN<|qS<|gS rfl rfl<|sM rfl<|bE h fun x1 hx1 h => cD (dG hx1)<|sF h (fun h => ?_) fun h => ?_
 ·refine sN<|cT<|gS rfl rfl<|sV (.agg [r0, r0, .nils])<|sS 32 (.var [r0, r0, .nils])<|sV (rI 2)<|sN<|qR ?_
  cases oI h
  exact qD
 refine sN<|cF<|qK<|gS rfl rfl<|sM rfl<|sV (.agg [rI a0, r0, .nils])<|sS 32 (.var [rI a0, r0, .nils])<|sV (r0)<|sN<|qR ?_
 cases oI h
 exact qD
theorem lw {a0 : ah} {r : Bool} (h : ip a0 = some r) : EvP prog al ext 60 [.d (ah.pd a0)] [] (rB r, []) := by
 refine Ev.body rfl Tryz.func60 rfl (by kernel_rfl)<|gS rfl rfl<|sB (.ptr 16 0) 16 (.var [rI a0.aF, rI a0.aw, .d (.lst (a0.aB.map PD.str))])<|sU<|sN<|qS<|gS rfl rfl<|sV (.ptr 16 0)<|sL rfl<|bE h fun x1 hx1 h => cD (dG hx1)<|sF h (fun h => ?_) fun h => ?_
 ·refine sM rfl<|k3<|sK<|sT<|sM rfl<|k3<|k3<|sT<|sM rfl ?_
  refine k3<|k3<|sK<|sT<|sN<|cT<|gS rfl rfl<|sU<|sN<|qR ?_
  cases oI h
  exact qD
 refine sM rfl<|sV (.ptr 16 1)<|sL rfl<|bE h fun x3 hx3 h => cD (dG hx3)<|sV (rB (!x3))<|sF h (fun h => ?_) fun h => ?_
 ·refine sM rfl<|k3<|k3<|sT<|sM rfl<|k3<|sK<|sK<|sK ?_
  refine sK<|sT<|sN<|cT<|gS rfl rfl<|sU<|sN<|qR ?_
  cases oI h
  exact qD
 refine sM rfl<|sV (.ptr 16 2)<|sL rfl<|sE (rI (a0.aB.length : Int)) (lenMap _ _)<|sV (.ptr 16 0)<|sL rfl<|sV (rB (decide ((a0.aB.length : Int) > a0.aF)))<|sF h (fun h => ?_) fun h => ?_
 ·refine sM rfl<|k3<|k3<|sK<|sT<|sN<|cT<|gS rfl rfl<|sU<|sN<|qR ?_
  cases oI h
  exact qD
 refine sM rfl<|sV (.ptr 16 1)<|sL rfl<|sV (.ptr 16 2)<|sL rfl<|sE (rI (a0.aB.length : Int)) (lenMap _ _)<|sV (rI (rW (a0.aw + (a0.aB.length : Int))))<|sV (rB (decide ((rW (a0.aw + (a0.aB.length : Int))) > (1073741825 : Int))))<|sF h (fun h => ?_) fun h => ?_
 ·refine sN<|cT<|gS rfl rfl<|sU<|sN<|qR ?_
  cases oI h
  exact qD
 refine sN<|cF<|qK<|qS<|gS rfl rfl<|sV (r0)<|sN<|bE h fun o13 ho13 h => WC.block (WC.loop (WL.ofLoop ho13 (fun s R' B' => ghosts prog 0 (A R' B') (al.at_ 60 0 4) = some (A [(1, .ptr 16 0), (3, rI s)] [(16, .var [rI a0.aF, rI a0.aw, .d (.lst (a0.aB.map PD.str))])])) (fun o e R' B' => match o with | .inl y => e = .exit 0 ∧ ghosts prog 0 (A R' B') (al.at_ 60 0 8) = some (A [] []) | .inr r => e = .ret ∧ finish prog (al.own 60) Tryz.f60 0 (A R' B') = some (rB r, [])) rfl ?_ ?_))
 ·rintro s7 R' B' q8 hI h
  refine qS<|gS rfl hI<|sM rfl<|sV (.ptr 16 2)<|sL rfl<|sE (rI (a0.aB.length : Int)) (lenMap _ _)<|sF h (fun h => ?_) fun h => ?_
  ·refine sN<|cT<|qK<|qS<|qB<|gS rfl rfl<|sV (.ptr 16 2)<|sL rfl<|sM rfl<|bE h fun x10 hx10 h => eG hx10 rfl<|sC rfl<|sV (rI (x10.length : Int))<|sF h (fun h => ?_) fun h => ?_
   ·refine sN<|cT<|gS rfl rfl<|sU<|sN<|qR ?_
    cases oI h
    exact ⟨nofun, rfl, rfl⟩
   refine sN<|cF<|qK<|WC.region rfl rfl<|sM rfl<|sV (rI (rW (s7 + (1 : Int))))<|sA rfl<|sN ?_
   cases oI h
   exact ⟨rfl, rfl⟩
  refine sN<|cF<|qX ?_
  cases oI h
  exact ⟨nofun, rfl, rfl⟩
 intro e R' B' he hq
 rcases o13 with y14 | r15
 ·obtain ⟨rfl, hI⟩ := hq
  refine qE<|gS rfl hI<|sT<|sN<|qR ?_
  cases oI h
  exact qD
 obtain ⟨rfl, hf⟩ := hq
 cases oI h
 exact hf
theorem ref10_Push_ev {a0 : ah} {a1 : (List UInt8)} {r : ah × Int × Int} (h : kS a0 a1 = some r) : EvP prog al ext 58 [.d (ah.pd a0), rS a1] [] (.tup [.d (ah.pd r.1), rI r.2.1, rI r.2.2], []) := by
 refine Ev.body rfl Tryz.func58 rfl (by kernel_rfl)<|gS rfl rfl<|sB (.ptr 32 0) 32 (.var [rI a0.aF, rI a0.aw, .d (.lst (a0.aB.map PD.str))])<|sB (.ptr 64 0) 64 (.var [r0, r0, .nils])<|sV (r0)<|sV (r0)<|sN<|qS<|gS rfl rfl<|sV (.d (ah.pd a0))<|bE h fun x1 hx1 h => cD (lw hx1)<|sF h (fun h => ?_) fun h => ?_
 ·refine sN<|cT<|gS rfl rfl<|sV (.agg [r0, r0, .nils])<|sS 64 (.var [r0, r0, .nils])<|sV (r0)<|sV (rI 1)<|sN<|qR ?_
  cases oI h
  exact qD
 refine sN<|cF<|qK<|qS<|gS rfl rfl<|sM rfl<|sV (rI (a1.length : Int))<|sF h (fun h => ?_) fun h => ?_
 ·refine sM rfl<|k3<|sT<|sN<|cT<|gS rfl rfl<|sV (.agg [r0, r0, .nils])<|sS 64 (.var [r0, r0, .nils])<|sV (r0)<|sV (rI 8)<|sN<|qR ?_
  cases oI h
  exact qD
 refine sM rfl<|sV (.d (ah.pd a0))<|bE h fun x4 hx4 h => cD (fh hx4)<|sV (rB (x4 == (1073741825 : Int)))<|sF h (fun h => ?_) fun h => ?_
 ·refine sN<|cT<|gS rfl rfl<|sV (.agg [r0, r0, .nils])<|sS 64 (.var [r0, r0, .nils])<|sV (r0)<|sV (rI 8)<|sN<|qR ?_
  cases oI h
  exact qD
 refine sN<|cF<|qK<|gS rfl rfl<|sV (.d (ah.pd a0))<|sB (.ptr 112 0) 112 (.var [r0, r0, .nils])<|sS 112 (.var [rI a0.aF, rI a0.aw, .d (.lst (a0.aB.map PD.str))])<|sN<|gS rfl rfl<|sV (.ptr 32 2)<|sL rfl<|bE h fun x6 hx6 h => WO.appN hx6 (fun _ => rfl) rfl rfl rfl rfl rfl rfl rfl rfl rfl rfl rfl rfl rfl rfl<|sM rfl<|sV (.d (.lst ([a1].map PD.str))) ?_
 refine bE h fun x7 hx7 h => aR hx7 (fun _ => rfl) rfl<|sV (.ptr 112 2)<|sS 112 (.var [rI a0.aF, rI a0.aw, .ref 384 1])<|sN<|qS<|gS rfl rfl<|sV (.ptr 112 2)<|sL rfl<|WO.lenR rfl rfl rfl rfl rfl rfl rfl rfl rfl<|sV (.ptr 32 0)<|sL rfl<|sF h (fun h => ?_) fun h => ?_
 ·refine sN<|cT<|WC.regionD (R0 := [(2, .ptr 32 0), (4, .ptr 64 0), (7, .ptr 112 0)]) (B0 := [(32, .var [rI a0.aF, rI a0.aw, .d (.lst (a0.aB.map PD.str))]), (64, .var [r0, r0, .nils]), (112, .var [rI a0.aF, rI a0.aw, .d (.lst (x7.map PD.str))])]) rfl rfl<|sV (.ptr 112 2)<|sL rfl<|bE h fun x9 hx9 h => WO.cutL (sz := 1) (g := PD.str) hx9 (fun _ => rfl) rfl rfl rfl rfl rfl rfl rfl rfl rfl rfl rfl<|sV (.ptr 32 1)<|sL rfl<|sV (rI (rW (a0.aw + (1 : Int))))<|sV (.ptr 112 2)<|sS 112 (.var [rI a0.aF, rI a0.aw, .d (.lst (x9.map PD.str))])<|sV (.ptr 112 1)<|sS 112 (.var [rI a0.aF, rI (rW (a0.aw + (1 : Int))), .d (.lst (x9.map PD.str))]) ?_
  refine sN<|sO<|WC.regionDSeq rfl rfl<|sV (.d (ah.pd (ah.mk a0.aF (rW (a0.aw + (1 : Int))) x9)))<|sV (.d (ah.pd a0))<|bE h fun x10 hx10 h => cD (fh hx10)<|sS 64 (.var [rI a0.aF, rI (rW (a0.aw + (1 : Int))), .d (.lst (x9.map PD.str))])<|sA rfl<|sV (r0) ?_
  refine sN<|sO<|qR ?_
  cases oI h
  exact qD
 refine sN<|cF<|qK<|WC.regionDSeq rfl rfl<|sV (.agg [rI a0.aF, rI a0.aw, .ref 384 1])<|sV (.d (ah.pd a0))<|bE h fun x11 hx11 h => cD (fh hx11)<|sS 64 (.var [rI a0.aF, rI a0.aw, .ref 384 1])<|sA rfl<|sV (r0) ?_
 refine sN<|sO<|qR ?_
 cases oI h
 exact qD
theorem Dice_Sender_ev {d0 : am} {r : ah × am} (h : jz d0 = some r) : EvP prog al ext 20 [.ptr 0 0] [.var [.d (.lst (d0.fL.map (PD.int .i64))), rI d0.fAt]] (.d (ah.pd r.1), [.var [.d (.lst (r.2.fL.map (PD.int .i64))), rI r.2.fAt]]) := by
 refine Ev.body rfl Tryz.func20 rfl (by kernel_rfl)<|gS rfl rfl<|sB (.ptr 32 0) 32 (.var [r0, r0, .nils])<|sN<|gS rfl rfl<|sM rfl<|sV (.d (.lst ([1, 2, 4, 8].map (PD.int .i64))))<|bE h fun x1 hx1 h => cR (rI x1.1) [(0, .var [.d (.lst (x1.2.fL.map (PD.int .i64))), rI x1.2.fAt])] (kG hx1)<|bE h fun x2 hx2 h => cR (.tup [.d (ah.pd x2.1), rI x2.2]) [] (ref10_New_ev hx2)<|sM rfl<|sV (.d (ah.pd x2.1))<|sV (rI x2.2)<|sB (.ptr 48 0) 48 (.var [r0, r0, .nils]) ?_
 refine sS 48 (.var [rI x2.1.aF, rI x2.1.aw, .d (.lst (x2.1.aB.map PD.str))])<|sA rfl<|sN<|qS<|gS rfl rfl<|sM rfl<|bE h fun x3 hx3 h => cR (rI x3.1) [(0, .var [.d (.lst (x3.2.fL.map (PD.int .i64))), rI x3.2.fAt])] (a8 hx3)<|sA rfl<|sN<|bE h fun o21 ho21 h => WC.block (WC.loop (WL.ofLoop ho21 (fun s R' B' => ghosts prog 1 (A R' B') (al.at_ 20 1 3) = some (A [(0, .ptr 0 0), (2, .ptr 32 0), (3, .ptr 48 0), (5, rI s.1)] [(0, .var [.d (.lst (s.2.1.map (PD.int .i64))), rI s.2.2.1]), (32, .var [r0, r0, .nils]), (48, .var [rI s.2.2.2.1, rI s.2.2.2.2.1, .d (.lst (s.2.2.2.2.2.map PD.str))])])) (fun o e R' B' => e = .exit 0 ∧ ghosts prog 1 (A R' B') (al.at_ 20 1 6) = some (A [(2, .ptr 32 0), (3, .ptr 48 0)] [(0, .var [.d (.lst (o.2.2.2.1.map (PD.int .i64))), rI o.2.2.2.2]), (32, .var [r0, r0, .nils]), (48, .var [rI o.1, rI o.2.1, .d (.lst (o.2.2.1.map PD.str))])])) rfl ?_ ?_))
 ·rintro ⟨s4, s5, s6, s7, s8, s9⟩ R' B' q15 hI h
  refine qS<|gS rfl hI<|sM rfl<|sF h (fun h => ?_) fun h => ?_
  ·refine sN<|cT<|qK<|qS<|qB<|WC.regionD rfl rfl<|sV (.d (ah.pd (ah.mk s7 s8 s9)))<|sV (.d (.lst ([[97], [98, 99], [], [120, 121, 122]].map PD.str)))<|sM rfl<|bE h fun x17 hx17 h => cR (rI x17.1) [(0, .var [.d (.lst (x17.2.fL.map (PD.int .i64))), rI x17.2.fAt])] (a8 hx17)<|bE h fun x18 hx18 h => eG hx18 rfl<|sC rfl<|bE h fun x19 hx19 h => ?_
   refine cR (.tup [.d (ah.pd x19.1), rI x19.2.1, rI x19.2.2]) [] (ref10_Push_ev hx19)<|sM rfl<|sV (.d (ah.pd x19.1))<|sV (rI x19.2.1)<|sV (rI x19.2.2)<|sS 48 (.var [rI x19.1.aF, rI x19.1.aw, .d (.lst (x19.1.aB.map PD.str))]) ?_
   refine sN<|sO<|WC.region rfl rfl<|sM rfl<|sV (rI (rW (s4 - (1 : Int))))<|sA rfl<|sN ?_
   cases oI h
   exact ⟨rfl, rfl⟩
  refine sN<|cF<|qX ?_
  cases oI h
  exact ⟨nofun, rfl, rfl⟩
 intro e R' B' he hq
 obtain ⟨rfl, hI⟩ := hq
 refine qE<|gS rfl hI<|sV (.d (ah.pd (ah.mk o21.1 o21.2.1 o21.2.2.1)))<|sS 32 (.var [rI o21.1, rI o21.2.1, .d (.lst (o21.2.2.1.map PD.str))])<|sN<|qR ?_
 cases oI h
 exact qD
theorem ref12_Status_ev {a0 : ah} {r : (List UInt8) × Int} (h : i5 a0 = some r) : EvP prog al ext 22 [.d (ah.pd a0)] [] (.tup [rS r.1, rI r.2], []) := by
 refine Ev.body rfl Tryz.func22 rfl (by kernel_rfl)<|gS rfl rfl<|sB (.ptr 16 0) 16 (.var [rI a0.aF, rI a0.aw, .d (.lst (a0.aB.map PD.str))])<|sV (rS [])<|sV (r0)<|sN<|qS<|gS rfl rfl<|sV (.d (ah.pd a0))<|bE h fun x1 hx1 h => cD (lw hx1)<|sF h (fun h => ?_) fun h => ?_
 ·refine sN<|cT<|gS rfl rfl<|sV (rS [])<|sV (rI 1)<|sN<|qR ?_
  cases oI h
  exact qD
 refine sN<|cF<|qK<|WC.regionDSeq rfl rfl<|sV (.ptr 16 1)<|sL rfl<|sV (.d (ah.pd a0))<|bE h fun x3 hx3 h => cD (fh hx3)<|sV (.d (.lst ([a0.aw, x3].map (PD.int .i64))))<|bE h fun x4 hx4 h => cD (kV hx4)<|bE h fun x5 hx5 h => cD (cP hx5)<|sA rfl ?_
 refine sV (r0) ?_
 refine sN<|sO<|qR ?_
 cases oI h
 exact qD
theorem l7 {d0 : am} {r : (List aa) × am} (h : je d0 = some r) : EvP prog al ext 24 [.ptr 0 0] [.var [.d (.lst (d0.fL.map (PD.int .i64))), rI d0.fAt]] (.d (.lst (r.1.map aa.pd)), [.var [.d (.lst (r.2.fL.map (PD.int .i64))), rI r.2.fAt]]) := by
 refine Ev.body rfl Tryz.func24 rfl (by kernel_rfl)<|gS rfl rfl<|sV .nils<|sN<|gS rfl rfl<|sV .nils<|sN<|qS<|gS rfl rfl<|sM rfl<|bE h fun x1 hx1 h => cR (rI x1.1) [(0, .var [.d (.lst (x1.2.fL.map (PD.int .i64))), rI x1.2.fAt])] (a8 hx1)<|sA rfl<|sN<|bE h fun o15 ho15 h => ?_
 refine WC.block (WC.loop (WL.ofLoop ho15 (fun s R' B' => ghosts prog 1 (A R' B') (al.at_ 24 1 3) = some (A [(0, .ptr 0 0), (3, .ref 368 0), (4, rI s.1)] [(0, .var [.d (.lst (s.2.1.map (PD.int .i64))), rI s.2.2.1]), (368, .arr 0 55 (s.2.2.2.map aa.pd))])) (fun o e R' B' => e = .exit 0 ∧ ghosts prog 1 (A R' B') (al.at_ 24 1 7) = some (A [(3, .ref 368 0)] [(0, .var [.d (.lst (o.2.1.map (PD.int .i64))), rI o.2.2]), (368, .arr 0 55 (o.1.map aa.pd))])) rfl ?_ ?_))
 ·rintro ⟨s2, s3, s4, s5⟩ R' B' q9 hI h
  refine qS<|gS rfl hI<|sM rfl<|sF h (fun h => ?_) fun h => ?_
  ·refine sN<|cT<|qK<|qS<|qB<|gS rfl rfl<|sM rfl<|bE h fun x11 hx11 h => cR (rI x11.1) [(0, .var [.d (.lst (x11.2.fL.map (PD.int .i64))), rI x11.2.fAt])] (a8 hx11)<|sA rfl<|sN<|WC.region rfl rfl<|sM rfl<|sM rfl<|sM rfl ?_
   refine sM rfl<|bE h fun x12 hx12 h => cR (rI x12.1) [(0, .var [.d (.lst (x12.2.fL.map (PD.int .i64))), rI x12.2.fAt])] (a8 hx12)<|sV (rI (rW (x11.1 + x12.1)))<|sV (rI (rW ((rW (x11.1 + x12.1)) - (1 : Int))))<|sV (.d (aa.pd (aa.mk x11.1 (rW ((rW (x11.1 + x12.1)) - (1 : Int))))))<|sV (.d (.lst ([(aa.mk x11.1 (rW ((rW (x11.1 + x12.1)) - (1 : Int))))].map aa.pd)))<|bE h fun x13 hx13 h => aR hx13 (fun _ => rfl) rfl<|sA rfl<|sN<|WC.region rfl rfl<|sM rfl<|sV (rI (rW (s2 - (1 : Int))))<|sA rfl ?_
   refine sN ?_
   cases oI h
   exact ⟨rfl, rfl⟩
  refine sN<|cF<|qX ?_
  cases oI h
  exact ⟨nofun, rfl, rfl⟩
 intro e R' B' he hq
 obtain ⟨rfl, hI⟩ := hq
 refine qE<|gS rfl hI<|sM rfl<|sA rfl<|sN<|qR ?_
 cases oI h
 exact qD
theorem ref08_Normal_ev {a0 : (List aa)} {r : (List aa)} (h : iY a0 = some r) : EvP prog al ext 61 [.d (.lst (a0.map aa.pd))] [] (.d (.lst (r.map aa.pd)), []) := by
 refine Ev.body rfl Tryz.func61 rfl (by kernel_rfl)<|gS rfl rfl<|sV .nils<|sN<|gS rfl rfl<|sV .nils<|sN<|qS<|gS rfl rfl<|sV (r0)<|sN<|bE h fun o34 ho34 h => WC.block (WC.loop (WL.ofLoop ho34 (fun s R' B' => ghosts prog 0 (A R' B') (al.at_ 61 0 3) = some (A [(0, .d (.lst (a0.map aa.pd))), (3, .ref 832 0), (4, rI s.1)] [(832, .arr 0 55 (s.2.map aa.pd))])) (fun o e R' B' => e = .exit 0 ∧ ghosts prog 0 (A R' B') (al.at_ 61 0 12) = some (A [(3, .ref 832 0)] [(832, .arr 0 55 (o.map aa.pd))])) rfl ?_ ?_))
 ·rintro ⟨s1, s2⟩ R' B' q4 hI h
  refine qS<|gS rfl hI<|sM rfl<|sM rfl<|sE (rI (a0.length : Int)) (lenMap _ _)<|sF h (fun h => ?_) fun h => ?_
  ·refine sN<|cT<|qK<|qS<|qB<|qS<|WC.regionDSeq rfl rfl<|sM rfl<|sM rfl<|bE h fun x6 hx6 h => eG hx6 rfl<|sV (.cptr [.int .i64 x6.az, .int .i64 x6.fTo])<|sC rfl<|sM rfl<|sM rfl ?_
   refine bE h fun x7 hx7 h => eG hx7 rfl<|sV (.cptr [.int .i64 x7.fTo])<|sC rfl<|sF h (fun h => ?_) fun h => ?_
   ·refine sN<|sO<|cT<|qX<|qE<|WC.region rfl rfl<|sM rfl<|sV (rI (rW (s1 + (1 : Int))))<|sA rfl<|sN ?_
    cases oI h
    exact ⟨rfl, rfl⟩
   refine sN<|sO<|cF<|qK<|gS rfl rfl<|sM rfl<|WO.lenR rfl rfl rfl rfl rfl rfl rfl rfl rfl<|sA rfl<|sN<|qS<|bE h fun o21 ho21 h => WC.block (WC.loop (WL.ofLoop ho21 (fun s R' B' => ghosts prog 0 (A R' B') (al.at_ 61 0 7) = some (A [(0, .d (.lst (a0.map aa.pd))), (3, .ref 832 0), (4, rI s1), (5, rI s)] [(832, .arr 0 55 (s2.map aa.pd))])) (fun o e R' B' => e = .exit 2 ∧ ghosts prog 0 (A R' B') (al.at_ 61 0 9) = some (A [(0, .d (.lst (a0.map aa.pd))), (3, .ref 832 0), (4, rI o.1), (5, rI o.2.1)] [(832, .arr 0 55 (o.2.2.map aa.pd))])) rfl ?_ ?_))
   ·rintro s9 R' B' q13 hI h
    refine qS<|WC.regionDSeq hI rfl<|sM rfl<|sF h (fun h => ?_) fun h => ?_
    ·refine sM rfl<|sM rfl<|sM rfl<|sV (rI (rW (s9 - (1 : Int))))<|bE h fun x16 hx16 h => WO.eltG hx16 rfl rfl rfl rfl rfl rfl rfl rfl<|sV (.elt 832 0 ((rW (s9 - (1 : Int)))).toNat 0)<|bE h fun x17 hx17 h => WO.loadE hx17 rfl rfl rfl rfl rfl rfl<|sM rfl<|sM rfl<|bE h fun x18 hx18 h => eG hx18 rfl<|sV (.cptr [.int .i64 x18.az, .int .i64 x18.fTo])<|sC rfl ?_
     refine sV (rB (decide (x17.az > x18.az)))<|sF h (fun h => ?_) fun h => ?_
     ·refine sN<|sO<|cT<|qK<|qB<|WC.region rfl rfl<|sM rfl<|sV (rI (rW (s9 - (1 : Int))))<|sA rfl<|sN ?_
      cases oI h
      exact ⟨rfl, rfl⟩
     refine sN<|sO<|cF<|qX ?_
     cases oI h
     exact ⟨nofun, rfl, rfl⟩
    refine sM rfl<|k3<|k3<|k3<|k3<|sU ?_
    refine sN<|sO<|cF<|qX ?_
    cases oI h
    exact ⟨nofun, rfl, rfl⟩
   intro e R' B' he hq
   obtain ⟨rfl, hI⟩ := hq
   refine qE<|gS rfl hI<|sM rfl<|sM rfl<|sM rfl<|bE h fun x22 hx22 h => eG hx22 rfl<|sV (.d (aa.pd x22))<|sV (.d (.lst ([x22].map aa.pd)))<|bE h fun x23 hx23 h => aR hx23 (fun _ => rfl) rfl<|sA rfl<|sN<|WC.regionDSeq rfl rfl<|sM rfl ?_
   refine sM rfl<|sV (rI (rW (o21.2.1 + (1 : Int))))<|bE h fun x24 hx24 h => WO.subR hx24 rfl rfl rfl rfl rfl rfl rfl rfl rfl rfl rfl rfl<|sM rfl<|sM rfl<|bE h fun x25 hx25 h => WO.subR hx25 rfl rfl rfl rfl rfl rfl rfl rfl rfl rfl rfl rfl<|bE h fun x26 hx26 h => bE h fun x27 hx27 h => WO.copyG rfl rfl rfl rfl rfl rfl rfl rfl (dst_view hx26 rfl) (src_view hx27 rfl) rfl rfl (fun _ => rfl) ?_
   refine sN<|sO<|WC.region rfl rfl<|sM rfl<|sM rfl<|sM rfl<|sM rfl<|bE h fun x29 hx29 h => eG hx29 rfl<|sV (.d (aa.pd x29))<|bE h fun x31 hx31 h => WO.eltG hx31 rfl rfl rfl rfl rfl rfl rfl rfl<|bE h fun x32 hx32 h => WO.storeE (g := aa.pd) (sz := 2) (p := aa.pd x29) hx32 (fun _ => rfl) (fun _ => rfl) rfl rfl rfl rfl rfl rfl rfl rfl rfl<|sN<|WC.region rfl rfl ?_
   refine sM rfl<|sV (rI (rW (o21.1 + (1 : Int))))<|sA rfl<|sN ?_
   cases oI h
   exact ⟨rfl, rfl⟩
  refine sN<|cF<|qX ?_
  cases oI h
  exact ⟨nofun, rfl, rfl⟩
 intro e R' B' he hq
 obtain ⟨rfl, hI⟩ := hq
 refine qE<|gS rfl hI<|sV .nils<|sN<|qS<|gS rfl rfl<|sV (r0)<|sN<|bE h fun o67 ho67 h => WC.block (WC.loop (WL.ofLoop ho67 (fun s R' B' => ghosts prog 0 (A R' B') (al.at_ 61 0 14) = some (A [(3, .ref 832 0), (6, .ref 1840 0), (7, rI s.1)] [(832, .arr 0 55 (o34.map aa.pd)), (1840, .arr 0 55 (s.2.map aa.pd))])) (fun o e R' B' => e = .exit 4 ∧ ghosts prog 0 (A R' B') (al.at_ 61 0 20) = some (A [(6, .ref 1840 0)] [(1840, .arr 0 55 (o.map aa.pd))])) rfl ?_ ?_))
 ·rintro ⟨s35, s36⟩ R' B' q38 hI h
  refine qS<|gS rfl hI<|sM rfl<|sM rfl<|WO.lenR rfl rfl rfl rfl rfl rfl rfl rfl rfl<|sF h (fun h => ?_) fun h => ?_
  ·refine sN<|cT<|qK<|qS<|qB<|gS rfl rfl<|sM rfl<|WO.lenR rfl rfl rfl rfl rfl rfl rfl rfl rfl<|sA rfl<|sN<|WC.regionDSeq rfl rfl<|sM rfl<|sF h (fun h => ?_) fun h => ?_
   ·refine sM rfl<|sM rfl<|sM rfl<|bE h fun x42 hx42 h => WO.eltG hx42 rfl rfl rfl rfl rfl rfl rfl rfl<|sV (.elt 832 0 (s35).toNat 0)<|bE h fun x43 hx43 h => WO.loadE hx43 rfl rfl rfl rfl rfl rfl<|sM rfl<|sM rfl<|sV (rI (rW ((s36.length : Int) - (1 : Int))))<|bE h fun x45 hx45 h => WO.eltG hx45 rfl rfl rfl rfl rfl rfl rfl rfl<|sV (.elt 1840 0 ((rW ((s36.length : Int) - (1 : Int)))).toNat 1)<|bE h fun x46 hx46 h => ?_
    refine WO.loadE hx46 rfl rfl rfl rfl rfl rfl<|sV (rB (decide (x43.az ≤ x46.fTo)))<|sF h (fun h => ?_) fun h => ?_
    ·refine sN<|sO<|cT<|WC.regionD rfl rfl<|sM rfl<|sM rfl<|sV (rI (rW ((s36.length : Int) - (1 : Int))))<|sM rfl<|sM rfl<|sV (rI (rW ((s36.length : Int) - (1 : Int))))<|bE h fun x49 hx49 h => WO.eltG hx49 rfl rfl rfl rfl rfl rfl rfl rfl<|sV (.elt 1840 0 ((rW ((s36.length : Int) - (1 : Int)))).toNat 1)<|bE h fun x50 hx50 h => WO.loadE hx50 rfl rfl rfl rfl rfl rfl<|sM rfl ?_
     refine sM rfl<|bE h fun x52 hx52 h => WO.eltG hx52 rfl rfl rfl rfl rfl rfl rfl rfl<|sV (.elt 832 0 (s35).toNat 1)<|bE h fun x53 hx53 h => WO.loadE hx53 rfl rfl rfl rfl rfl rfl<|sV (rI (if x53.fTo > x50.fTo then x53.fTo else x50.fTo))<|bE h fun x55 hx55 h => WO.eltG hx55 rfl rfl rfl rfl rfl rfl rfl rfl<|sV (.elt 1840 0 ((rW ((s36.length : Int) - (1 : Int)))).toNat 1)<|bE h fun x56 hx56 h => WO.storeF (g := aa.pd) (u := []) (sz := 1) hx56 (fun _ => rfl) (fun _ => Nat.le_of_ble_eq_true rfl) rfl rfl rfl rfl rfl rfl rfl rfl rfl rfl rfl ?_
     refine sN<|sO<|WC.region rfl rfl<|sM rfl<|sV (rI (rW (s35 + (1 : Int))))<|sA rfl<|sN ?_
     cases oI h
     exact ⟨rfl, rfl⟩
    refine sN<|sO<|cF<|WC.region rfl rfl<|sM rfl<|sM rfl<|sM rfl<|bE h fun x59 hx59 h => WO.eltG hx59 rfl rfl rfl rfl rfl rfl rfl rfl<|bE h fun x60 hx60 h => WO.loadE hx60 rfl rfl rfl rfl rfl rfl<|sV (.d (.lst ([x60].map aa.pd)))<|bE h fun x61 hx61 h => aR hx61 (fun _ => rfl) rfl<|sA rfl<|sN ?_
    refine WC.region rfl rfl<|sM rfl<|sV (rI (rW (s35 + (1 : Int))))<|sA rfl<|sN ?_
    cases oI h
    exact ⟨rfl, rfl⟩
   refine sM rfl<|k3<|k3<|k3<|k3<|sU ?_
   refine sN<|sO<|cF<|WC.region rfl rfl<|sM rfl<|sM rfl<|sM rfl<|bE h fun x63 hx63 h => WO.eltG hx63 rfl rfl rfl rfl rfl rfl rfl rfl<|bE h fun x64 hx64 h => WO.loadE hx64 rfl rfl rfl rfl rfl rfl<|sV (.d (.lst ([x64].map aa.pd)))<|bE h fun x65 hx65 h => aR hx65 (fun _ => rfl) rfl<|sA rfl<|sN ?_
   refine WC.region rfl rfl<|sM rfl<|sV (rI (rW (s35 + (1 : Int))))<|sA rfl<|sN ?_
   cases oI h
   exact ⟨rfl, rfl⟩
  refine sN<|cF<|qX ?_
  cases oI h
  exact ⟨nofun, rfl, rfl⟩
 intro e R' B' he hq
 obtain ⟨rfl, hI⟩ := hq
 refine qE<|gS rfl hI<|sM rfl<|sA rfl<|sN<|qR ?_
 cases oI h
 exact qD
theorem Dice_Set_ev {d0 : am} {r : (List aa) × am} (h : mz d0 = some r) : EvP prog al ext 23 [.ptr 0 0] [.var [.d (.lst (d0.fL.map (PD.int .i64))), rI d0.fAt]] (.d (.lst (r.1.map aa.pd)), [.var [.d (.lst (r.2.fL.map (PD.int .i64))), rI r.2.fAt]]) := by
 refine Ev.body rfl Tryz.func23 rfl (by kernel_rfl)<|gS rfl rfl<|sV .nils<|sN<|gS rfl rfl<|sM rfl<|bE h fun x1 hx1 h => cR (.d (.lst (x1.1.map aa.pd))) [(0, .var [.d (.lst (x1.2.fL.map (PD.int .i64))), rI x1.2.fAt])] (l7 hx1)<|bE h fun x2 hx2 h => cD (ref08_Normal_ev hx2)<|sA rfl<|sN<|qR ?_
 cases oI h
 exact qD
theorem ref08_Valid_ev {a0 : (List aa)} {r : Bool} (h : jF a0 = some r) : EvP prog al ext 63 [.d (.lst (a0.map aa.pd))] [] (rB r, []) := by
 refine Ev.body rfl Tryz.func63 rfl (by kernel_rfl)<|gS rfl rfl<|sU<|sN<|qS<|gS rfl rfl<|sV (r0)<|sN<|bE h fun o12 ho12 h => WC.block (WC.loop (WL.ofLoop ho12 (fun s R' B' => ghosts prog 0 (A R' B') (al.at_ 63 0 2) = some (A [(0, .d (.lst (a0.map aa.pd))), (3, rI s)] [])) (fun o e R' B' => match o with | .inl y => e = .exit 0 ∧ ghosts prog 0 (A R' B') (al.at_ 63 0 6) = some (A [] []) | .inr r => e = .ret ∧ finish prog (al.own 63) Tryz.f63 0 (A R' B') = some (rB r, [])) rfl ?_ ?_))
 ·rintro s1 R' B' q2 hI h
  refine qS<|gS rfl hI<|sM rfl<|sM rfl<|sE (rI (a0.length : Int)) (lenMap _ _)<|sF h (fun h => ?_) fun h => ?_
  ·refine sN<|cT<|qK<|qS<|qB<|WC.regionDSeq rfl rfl<|sM rfl<|sM rfl<|bE h fun x4 hx4 h => eG hx4 rfl<|sV (.cptr [.int .i64 x4.az, .int .i64 x4.fTo])<|sC rfl<|sM rfl<|sM rfl<|bE h fun x5 hx5 h => ?_
   refine eG hx5 rfl<|sV (.cptr [.int .i64 x5.fTo])<|sC rfl<|sF h (fun h => ?_) fun h => ?_
   ·refine sM rfl<|k3<|k3<|k3<|k3<|sK<|sK ?_
    refine sK<|sK<|sT ?_
    refine sN<|sO<|cT<|gS rfl rfl<|sU<|sN<|qR ?_
    cases oI h
    exact ⟨nofun, rfl, rfl⟩
   refine sM rfl<|sM rfl<|sF h (fun h => ?_) fun h => ?_
   ·refine sM rfl<|sM rfl<|sM rfl<|bE h fun x8 hx8 h => eG hx8 rfl<|sV (.cptr [.int .i64 x8.az, .int .i64 x8.fTo])<|sC rfl<|sM rfl<|sM rfl<|sV (rI (rW (s1 - (1 : Int))))<|bE h fun x9 hx9 h => eG hx9 rfl<|sV (.cptr [.int .i64 x9.fTo])<|sC rfl<|sV (rB (decide (x8.az ≤ x9.fTo))) ?_
    refine sV (rB (decide (x8.az ≤ x9.fTo)))<|sF h (fun h => ?_) fun h => ?_
    ·refine sN<|sO<|cT<|gS rfl rfl<|sU<|sN<|qR ?_
     cases oI h
     exact ⟨nofun, rfl, rfl⟩
    refine sN<|sO<|cF<|qK<|WC.region rfl rfl<|sM rfl<|sV (rI (rW (s1 + (1 : Int))))<|sA rfl<|sN ?_
    cases oI h
    exact ⟨rfl, rfl⟩
   refine sM rfl<|k3<|k3<|k3<|k3<|sU<|sU ?_
   refine sN<|sO<|cF<|qK<|WC.region rfl rfl<|sM rfl<|sV (rI (rW (s1 + (1 : Int))))<|sA rfl<|sN ?_
   cases oI h
   exact ⟨rfl, rfl⟩
  refine sN<|cF<|qX ?_
  cases oI h
  exact ⟨nofun, rfl, rfl⟩
 intro e R' B' he hq
 rcases o12 with y13 | r14
 ·obtain ⟨rfl, hI⟩ := hq
  refine qE<|gS rfl hI<|sT<|sN<|qR ?_
  cases oI h
  exact qD
 obtain ⟨rfl, hf⟩ := hq
 cases oI h
 exact hf
theorem mO {a0 : Int} {a1 : (List aa)} {r : (List UInt8) × Int} (h : gg a0 a1 = some r) : EvP prog al ext 26 [rI a0, .d (.lst (a1.map aa.pd))] [] (.tup [rS r.1, rI r.2], []) := by
 refine Ev.body rfl Tryz.func26 rfl (by kernel_rfl)<|gS rfl rfl<|sV (rS [])<|sV (r0)<|sN<|WC.join (α := Unit) (fun x R' B' => ghosts prog 0 (A R' B') (al.at_ 26 0 3) = some (A [(1, .d (.lst (a1.map aa.pd)))] [])) (fun x => cH a1 = some r) ?_ ?_
 ·refine gS rfl rfl<|sM rfl<|bE h fun x14 hx14 h => cD (dG hx14)<|sF h (fun h => ?_) fun h => ?_
  ·refine sM rfl<|k3<|sT<|sM rfl<|k3<|k3<|sK<|sK<|sK ?_
   refine k3<|k3<|k3<|k3<|sT<|sN<|cT ?_
   refine gS rfl rfl<|sV (rS [])<|sV (rI 1)<|sN<|qR ?_
   cases oI h
   exact qD
  refine sM rfl<|sM rfl<|bE h fun x16 hx16 h => cD (ref08_Valid_ev hx16)<|sV (rB (!x16))<|sF h (fun h => ?_) fun h => ?_
  ·refine sM rfl<|k3<|k3<|k3<|k3<|sK<|sK ?_
   refine k3<|k3<|sK<|sT<|sN<|cT<|gS rfl rfl<|sV (rS [])<|sV (rI 1)<|sN<|qR ?_
   cases oI h
   exact qD
  refine sM rfl<|sM rfl<|sE (rI (a1.length : Int)) (lenMap _ _)<|sF h (fun h => ?_) fun h => ?_
  ·refine sM rfl<|sM rfl<|bE h fun x19 hx19 h => eG hx19 rfl<|sV (.cptr [.int .i64 x19.az, .int .i64 x19.fTo])<|sC rfl<|sF h (fun h => ?_) fun h => ?_
   ·refine sM rfl<|k3<|k3<|k3<|sT<|sT<|sT<|sN<|cT ?_
    refine gS rfl rfl<|sV (rS [])<|sV (rI 1)<|sN<|qR ?_
    cases oI h
    exact qD
   refine sM rfl<|sM rfl<|sM rfl<|sE (rI (a1.length : Int)) (lenMap _ _)<|sV (rI (rW ((a1.length : Int) - (1 : Int))))<|bE h fun x21 hx21 h => eG hx21 rfl<|sV (.cptr [.int .i64 x21.fTo])<|sC rfl<|sM rfl<|sV (rB (decide (x21.fTo > a0)))<|sV (rB (decide (x21.fTo > a0)))<|sV (rB (decide (x21.fTo > a0)))<|sF h (fun h => ?_) fun h => ?_
   ·refine sN<|cT<|gS rfl rfl<|sV (rS [])<|sV (rI 1)<|sN<|qR ?_
    cases oI h
    exact qD
   exact sN<|cF<|qK<|⟨(), rfl, h⟩
  refine sM rfl<|k3<|k3<|k3<|k3<|sK<|sK ?_
  exact sK<|sK<|sU<|sU<|sN<|cF<|qK<|⟨(), rfl, h⟩
 rintro ⟨⟩ R' B' hI h
 refine qS<|gS rfl hI<|sM rfl<|sE (rI (a1.length : Int)) (lenMap _ _)<|sF h (fun h => ?_) fun h => ?_
 ·refine sN<|cT<|gS rfl rfl<|sV (rS [])<|sV (rI 8)<|sN<|qR ?_
  cases oI h
  exact qD
 refine sN<|cF<|qK<|gS rfl rfl<|sV (rS [82])<|sN<|qS<|gS rfl rfl<|sV (r0)<|sN<|bE h fun o11 ho11 h => WC.block (WC.loop (WL.ofLoop ho11 (fun s R' B' => ghosts prog 0 (A R' B') (al.at_ 26 0 7) = some (A [(1, .d (.lst (a1.map aa.pd))), (6, rS s.1), (7, rI s.2)] [])) (fun o e R' B' => e = .exit 0 ∧ ghosts prog 0 (A R' B') (al.at_ 26 0 10) = some (A [(6, rS o)] [])) rfl ?_ ?_))
 ·rintro ⟨s2, s3⟩ R' B' q5 hI h
  refine qS<|gS rfl hI<|sM rfl<|sM rfl<|sE (rI (a1.length : Int)) (lenMap _ _)<|sF h (fun h => ?_) fun h => ?_
  ·refine sN<|cT<|qK<|qS<|qB<|WC.regionD rfl rfl<|sM rfl<|sM rfl<|sM rfl<|bE h fun x7 hx7 h => eG hx7 rfl<|sV (.cptr [.int .i64 x7.az, .int .i64 x7.fTo])<|sC rfl<|sM rfl<|sM rfl ?_
   refine bE h fun x8 hx8 h => eG hx8 rfl<|sV (.cptr [.int .i64 x8.fTo])<|sC rfl<|sV (.d (.lst ([x7.az, x8.fTo].map (PD.int .i64))))<|bE h fun x9 hx9 h => cD (kV hx9)<|sA rfl ?_
   refine sN<|sO<|WC.region rfl rfl<|sM rfl<|sV (rI (rW (s3 + (1 : Int))))<|sA rfl<|sN ?_
   cases oI h
   exact ⟨rfl, rfl⟩
  refine sN<|cF<|qX ?_
  cases oI h
  exact ⟨nofun, rfl, rfl⟩
 intro e R' B' he hq
 obtain ⟨rfl, hI⟩ := hq
 refine qE<|gS rfl hI<|sM rfl<|bE h fun x12 hx12 h => cD (cP hx12)<|sA rfl<|sV (r0)<|sN<|qR ?_
 cases oI h
 exact qD
theorem ref06_Check_ev {a0 : (List UInt8)} {r : Bool} (h : io a0 = some r) : EvP prog al ext 102 [rS a0] [] (rB r, []) := by
 refine Ev.body rfl Tryz.func102 rfl (by kernel_rfl)<|gS rfl rfl<|sU<|sN<|gS rfl rfl<|sM rfl<|sV (rI (a0.length : Int))<|sF h (fun h => ?_) fun h => ?_
 ·refine sM rfl<|sM rfl<|sM rfl<|sV (rI (a0.length : Int))<|sV (rI (rW ((a0.length : Int) - (4 : Int))))<|bE h fun x2 hx2 h => WO.cutG hx2 rfl rfl rfl rfl rfl rfl rfl rfl rfl rfl<|bE h fun x3 hx3 h => cD (cP hx3)<|sM rfl<|sV (rB (x3 == a0))<|sV (rB (x3 == a0))<|sA rfl<|sN<|qR ?_
  cases oI h
  exact qD
 refine sM rfl<|k3<|k3<|sK<|sK<|sU<|sA rfl<|sN<|qR ?_
 cases oI h
 exact qD
theorem jp {a0 : (List UInt8)} {a1 : Int} {r : Int} (h : fS a0 a1 = some r) : EvP prog al ext 66 [rS a0, rI a1] [] (rI r, []) := by
 refine Ev.body rfl Tryz.func66 rfl (by kernel_rfl)<|gS rfl rfl<|sV (r0)<|sN<|qS<|qB<|gS rfl rfl<|sM rfl<|sV (rI (a0.length : Int))<|sM rfl<|sF h (fun h => ?_) fun h => ?_
 ·refine sA rfl<|sN<|cT<|gS rfl rfl<|sV (rI 4)<|sN<|qR ?_
  cases oI h
  exact qD
 refine sA rfl<|sN<|cF<|gS rfl rfl<|sM rfl<|bE h fun x2 hx2 h => cD (ref06_Check_ev hx2)<|sF h (fun h => ?_) fun h => ?_
 ·refine sA rfl<|sN<|cT<|gS rfl rfl<|sV (rI 5)<|sN<|qR ?_
  cases oI h
  exact qD
 refine sA rfl<|sN<|cF<|qK<|gS rfl rfl<|sV (r0)<|sN<|qR ?_
 cases oI h
 exact qD
theorem ref04_Get_ev {a0 : (List UInt8)} {a1 : Int} {a2 : Int} {r : Int × Int} (h : ref04_Get a0 a1 a2 = some r) : EvP prog al ext 103 [rS a0, rI a1, rI a2] [] (.tup [rI r.1, rI r.2], []) := by
 refine Ev.body rfl Tryz.func103 rfl (by kernel_rfl)<|gS rfl rfl<|sV (r0)<|sV (r0)<|sN<|qS<|gS rfl rfl<|sM rfl<|bE h fun x1 hx1 h => cD (dG hx1)<|sF h (fun h => ?_) fun h => ?_
 ·refine sM rfl<|sK<|sK<|sT<|sN<|cT<|gS rfl rfl<|sV (r0)<|sV (rI 2)<|sN<|qR ?_
  cases oI h
  exact qD
 refine sM rfl<|sM rfl<|sV (rB (decide (a1 < (0 : Int))))<|sF h (fun h => ?_) fun h => ?_
 ·refine sN<|cT<|gS rfl rfl<|sV (r0)<|sV (rI 2)<|sN<|qR ?_
  cases oI h
  exact qD
 refine sN<|cF<|qK<|qS<|gS rfl rfl<|sM rfl<|sM rfl<|sV (rI (a0.length : Int))<|sM rfl<|sV (rI (rW ((a0.length : Int) - a2)))<|sF h (fun h => ?_) fun h => ?_
 ·refine sN<|cT<|gS rfl rfl<|sV (r0)<|sV (rI 4)<|sN<|qR ?_
  cases oI h
  exact qD
 refine sN<|cF<|qK<|gS rfl rfl<|sV (r0)<|sN<|qS<|gS rfl rfl<|sV (r0)<|sN<|bE h fun o12 ho12 h => WC.block (WC.loop (WL.ofLoop ho12 (fun s R' B' => ghosts prog 0 (A R' B') (al.at_ 103 0 7) = some (A [(0, rS a0), (1, rI a1), (2, rI a2), (8, rI s.1), (9, rI s.2)] [])) (fun o e R' B' => e = .exit 0 ∧ ghosts prog 0 (A R' B') (al.at_ 103 0 10) = some (A [(8, rI o)] [])) rfl ?_ ?_))
 ·rintro ⟨s5, s6⟩ R' B' q8 hI h
  refine qS<|gS rfl hI<|sM rfl<|sM rfl<|sF h (fun h => ?_) fun h => ?_
  ·refine sN<|cT<|qK<|qS<|qB<|WC.region rfl rfl<|sM rfl<|sV (rI (shlI .i64 s5 (8 : Int)))<|sM rfl<|sM rfl<|sM rfl<|sV (rI (rW (a1 + s6)))<|bE h fun x10 hx10 h => WO.byteG hx10 rfl rfl rfl rfl rfl rfl<|sV (rI (IntKind.wrap .i64 x10)) ?_
   refine sV (rI (orI .i64 (shlI .i64 s5 (8 : Int)) (IntKind.wrap .i64 x10)))<|sA rfl<|sN<|WC.region rfl rfl<|sM rfl<|sV (rI (rW (s6 + (1 : Int))))<|sA rfl<|sN ?_
   cases oI h
   exact ⟨rfl, rfl⟩
  refine sN<|cF<|qX ?_
  cases oI h
  exact ⟨nofun, rfl, rfl⟩
 intro e R' B' he hq
 obtain ⟨rfl, hI⟩ := hq
 refine qE<|gS rfl hI<|sM rfl<|sA rfl<|sV (r0)<|sN<|qR ?_
 cases oI h
 exact qD
theorem eN {a0 : (List UInt8)} {a1 : Int} {r : Int} (h : bT a0 a1 = some r) : EvP prog al ext 67 [rS a0, rI a1] [] (rI r, []) := by
 refine Ev.body rfl Tryz.func67 rfl (by kernel_rfl)<|gS rfl rfl<|sV (r0)<|sN<|gS rfl rfl<|sM rfl<|sM rfl<|bE h fun x1 hx1 h => cR (.tup [rI x1.1, rI x1.2]) [] (ref04_Get_ev hx1)<|sM rfl<|sV (rI x1.1)<|sV (rI x1.2)<|sA rfl<|sA rfl<|sN ?_
 refine gS rfl rfl<|sM rfl<|sA rfl<|sN<|qR ?_
 cases oI h
 exact qD
theorem mp {a0 : (List UInt8)} {r : Int × Int × (List UInt8) × Int} (h : fq a0 = some r) : EvP prog al ext 28 [rS a0] [] (.tup [rI r.1, rI r.2.1, rS r.2.2.1, rI r.2.2.2], []) := by
 refine Ev.body rfl Tryz.func28 rfl (by kernel_rfl)<|gS rfl rfl<|sV (r0)<|sV (r0)<|sV (rS [])<|sV (r0)<|sN<|qS<|gS rfl rfl<|sM rfl<|bE h fun x1 hx1 h => cD (jp hx1)<|sA rfl<|sN<|gS rfl rfl ?_
 refine sM rfl<|sF h (fun h => ?_) fun h => ?_
 ·refine sN<|cT<|gS rfl rfl<|sM rfl<|sV (r0)<|sV (r0)<|sV (rS [])<|sA rfl<|sN<|qR ?_
  cases oI h
  exact qD
 refine sN<|cF<|qK<|gS rfl rfl<|sM rfl<|bE h fun x3 hx3 h => cD (eN hx3)<|sM rfl<|bE h fun x4 hx4 h => cD (eN hx4)<|sA rfl<|sA rfl<|sN<|qS<|gS rfl rfl ?_
 refine sM rfl<|bE h fun x5 hx5 h => WO.byteG hx5 rfl rfl rfl rfl rfl rfl<|sF h (fun h => ?_) fun h => ?_
 ·refine sM rfl<|sK<|sK<|sT<|sM rfl<|sK<|sK<|sT<|sN<|cT<|gS rfl rfl<|sV (r0)<|sV (r0)<|sV (rS [])<|sV (rI 3) ?_
  refine sN<|qR ?_
  cases oI h
  exact qD
 refine sM rfl<|sM rfl<|sV (rB (decide (x3 > (1073741824 : Int))))<|sF h (fun h => ?_) fun h => ?_
 ·refine sM rfl<|sK<|sK<|sT<|sN<|cT<|gS rfl rfl<|sV (r0)<|sV (r0)<|sV (rS [])<|sV (rI 3)<|sN<|qR ?_
  cases oI h
  exact qD
 refine sM rfl<|sM rfl<|sV (rB (decide (x4 > (1073741825 : Int))))<|sF h (fun h => ?_) fun h => ?_
 ·refine sN<|cT<|gS rfl rfl<|sV (r0)<|sV (r0)<|sV (rS [])<|sV (rI 3)<|sN<|qR ?_
  cases oI h
  exact qD
 refine sN<|cF<|qK<|WC.regionDSeq rfl rfl<|sM rfl<|sM rfl<|sM rfl<|sM rfl<|sV (rI (a0.length : Int))<|sV (rI (rW ((a0.length : Int) - (4 : Int))))<|bE h fun x9 hx9 h => WO.cutG hx9 rfl rfl rfl rfl rfl rfl rfl rfl rfl rfl<|sA rfl<|sA rfl<|sA rfl ?_
 refine sV (r0) ?_
 refine sN<|sO<|qR ?_
 cases oI h
 exact qD
theorem lx {a0 : (List UInt8)} {r : Int × Int × Int} (h : eo a0 = some r) : EvP prog al ext 30 [rS a0] [] (.tup [rI r.1, rI r.2.1, rI r.2.2], []) := by
 refine Ev.body rfl Tryz.func30 rfl (by kernel_rfl)<|gS rfl rfl<|sV (r0)<|sV (r0)<|sV (r0)<|sN<|qS<|gS rfl rfl<|sM rfl<|bE h fun x1 hx1 h => cD (jp hx1)<|sA rfl<|sN<|gS rfl rfl<|sM rfl ?_
 refine sF h (fun h => ?_) fun h => ?_
 ·refine sN<|cT<|gS rfl rfl<|sM rfl<|sV (r0)<|sV (r0)<|sA rfl<|sN<|qR ?_
  cases oI h
  exact qD
 refine sN<|cF<|qK<|gS rfl rfl<|sM rfl<|bE h fun x3 hx3 h => cD (eN hx3)<|sM rfl<|bE h fun x4 hx4 h => cD (eN hx4)<|sA rfl<|sA rfl<|sN<|qS<|gS rfl rfl ?_
 refine sM rfl<|bE h fun x5 hx5 h => WO.byteG hx5 rfl rfl rfl rfl rfl rfl<|sF h (fun h => ?_) fun h => ?_
 ·refine sM rfl<|k3<|sT<|sM rfl<|sK<|sK<|sT<|sM rfl<|k3<|sT<|sN ?_
  refine cT<|gS rfl rfl<|sV (r0)<|sV (r0)<|sV (rI 3)<|sN<|qR ?_
  cases oI h
  exact qD
 refine sM rfl<|sM rfl<|sV (rI (a0.length : Int))<|sV (rB ((a0.length : Int) != (13 : Int)))<|sF h (fun h => ?_) fun h => ?_
 ·refine sM rfl<|sK<|sK<|sT<|sM rfl<|k3<|sT<|sN<|cT<|gS rfl rfl<|sV (r0)<|sV (r0)<|sV (rI 3) ?_
  refine sN<|qR ?_
  cases oI h
  exact qD
 refine sM rfl<|sM rfl<|sV (rB (decide (x4 > (1073741825 : Int))))<|sF h (fun h => ?_) fun h => ?_
 ·refine sM rfl<|k3<|sT<|sN<|cT<|gS rfl rfl<|sV (r0)<|sV (r0)<|sV (rI 3)<|sN<|qR ?_
  cases oI h
  exact qD
 refine sM rfl<|sM rfl<|sM rfl<|sV (rB (decide (x3 > x4)))<|sF h (fun h => ?_) fun h => ?_
 ·refine sN<|cT<|gS rfl rfl<|sV (r0)<|sV (r0)<|sV (rI 3)<|sN<|qR ?_
  cases oI h
  exact qD
 refine sN<|cF<|qK<|gS rfl rfl<|sM rfl<|sM rfl<|sA rfl<|sA rfl<|sV (r0)<|sN<|qR ?_
 cases oI h
 exact qD
theorem ref08_Validq_ev {d0 : (List aa)} {r : Bool × (List aa)} (h : iZ d0 = some r) : EvP prog al ext 63 [.ref 0 0] [.arr 0 55 (d0.map aa.pd)] (rB r.1, [.arr 0 55 (r.2.map aa.pd)]) := by
 refine Ev.body rfl Tryz.func63 rfl (by kernel_rfl)<|gS rfl rfl<|sU<|sN<|qS<|gS rfl rfl<|sV (r0)<|sN<|bE h fun o20 ho20 h => WC.block (WC.loop (WL.ofLoop ho20 (fun s R' B' => ghosts prog 1 (A R' B') (al.at_ 63 1 2) = some (A [(0, .ref 0 0), (3, rI s)] [(0, .arr 0 55 (d0.map aa.pd))])) (fun o e R' B' => match o with | .inl y => e = .exit 0 ∧ ghosts prog 1 (A R' B') (al.at_ 63 1 6) = some (A [] [(0, .arr 0 55 (d0.map aa.pd))]) | .inr r => e = .ret ∧ finish prog (al.own 63) Tryz.f63 1 (A R' B') = some (rB r.1, [.arr 0 55 (r.2.map aa.pd)])) rfl ?_ ?_))
 ·rintro s1 R' B' q2 hI h
  refine qS<|gS rfl hI<|sM rfl<|sM rfl<|WO.lenR rfl rfl rfl rfl rfl rfl rfl rfl rfl<|sF h (fun h => ?_) fun h => ?_
  ·refine sN<|cT<|qK<|qS<|qB<|WC.regionDSeq rfl rfl<|sM rfl<|sM rfl<|bE h fun x5 hx5 h => WO.eltG hx5 rfl rfl rfl rfl rfl rfl rfl rfl<|sV (.elt 0 0 (s1).toNat 0)<|bE h fun x6 hx6 h => WO.loadE hx6 rfl rfl rfl rfl rfl rfl<|sM rfl<|sM rfl ?_
   refine bE h fun x8 hx8 h => WO.eltG hx8 rfl rfl rfl rfl rfl rfl rfl rfl<|sV (.elt 0 0 (s1).toNat 1)<|bE h fun x9 hx9 h => WO.loadE hx9 rfl rfl rfl rfl rfl rfl<|sF h (fun h => ?_) fun h => ?_
   ·refine sM rfl<|k3<|k3<|k3<|k3<|sK<|sK ?_
    refine sK<|sK<|sT ?_
    refine sN<|sO<|cT<|gS rfl rfl<|sU<|sN<|qR ?_
    cases oI h
    exact ⟨nofun, rfl, rfl⟩
   refine sM rfl<|sM rfl<|sF h (fun h => ?_) fun h => ?_
   ·refine sM rfl<|sM rfl<|sM rfl<|bE h fun x13 hx13 h => WO.eltG hx13 rfl rfl rfl rfl rfl rfl rfl rfl<|sV (.elt 0 0 (s1).toNat 0)<|bE h fun x14 hx14 h => WO.loadE hx14 rfl rfl rfl rfl rfl rfl<|sM rfl<|sM rfl<|sV (rI (rW (s1 - (1 : Int))))<|bE h fun x16 hx16 h => WO.eltG hx16 rfl rfl rfl rfl rfl rfl rfl rfl<|sV (.elt 0 0 ((rW (s1 - (1 : Int)))).toNat 1)<|bE h fun x17 hx17 h => ?_
    refine WO.loadE hx17 rfl rfl rfl rfl rfl rfl<|sV (rB (decide (x14.az ≤ x17.fTo)))<|sV (rB (decide (x14.az ≤ x17.fTo)))<|sF h (fun h => ?_) fun h => ?_
    ·refine sN<|sO<|cT<|gS rfl rfl<|sU<|sN<|qR ?_
     cases oI h
     exact ⟨nofun, rfl, rfl⟩
    refine sN<|sO<|cF<|qK<|WC.region rfl rfl<|sM rfl<|sV (rI (rW (s1 + (1 : Int))))<|sA rfl<|sN ?_
    cases oI h
    exact ⟨rfl, rfl⟩
   refine sM rfl<|k3<|k3<|k3<|k3<|sU<|sU ?_
   refine sN<|sO<|cF<|qK<|WC.region rfl rfl<|sM rfl<|sV (rI (rW (s1 + (1 : Int))))<|sA rfl<|sN ?_
   cases oI h
   exact ⟨rfl, rfl⟩
  refine sN<|cF<|qX ?_
  cases oI h
  exact ⟨nofun, rfl, rfl⟩
 intro e R' B' he hq
 rcases o20 with y21 | r22
 ·obtain ⟨rfl, hI⟩ := hq
  refine qE<|gS rfl hI<|sT<|sN<|qR ?_
  cases oI h
  exact qD
 obtain ⟨rfl, hf⟩ := hq
 cases oI h
 exact hf
theorem kU {a0 : (List UInt8)} {r : (List aa) × Int} (h : db a0 = some r) : EvP prog al ext 32 [rS a0] [] (.tup [.d (.lst (r.1.map aa.pd)), rI r.2], []) := by
 refine Ev.body rfl Tryz.func32 rfl (by kernel_rfl)<|gS rfl rfl<|sV .nils<|sV (r0)<|sN<|qS<|gS rfl rfl<|sM rfl<|bE h fun x1 hx1 h => cD (jp hx1)<|sA rfl<|sN<|gS rfl rfl<|sM rfl<|sF h (fun h => ?_) fun h => ?_
 ·refine sN<|cT<|gS rfl rfl<|sM rfl<|sV .nils<|sA rfl<|sN<|qR ?_
  cases oI h
  exact qD
 refine sN<|cF<|qK<|gS rfl rfl<|sM rfl<|sV (rI (a0.length : Int))<|sV (rI (rW ((a0.length : Int) - (5 : Int))))<|bE h fun x3 hx3 h => WO.quoG hx3 rfl rfl rfl rfl rfl rfl<|sA rfl<|sN<|qS<|gS rfl rfl<|sM rfl<|bE h fun x4 hx4 h => ?_
 refine WO.byteG hx4 rfl rfl rfl rfl rfl rfl<|sF h (fun h => ?_) fun h => ?_
 ·refine sM rfl<|k3<|sK<|sK<|sT<|sM rfl<|sK<|sK<|sT<|sN<|cT<|gS rfl rfl<|sV .nils ?_
  refine sV (rI 3)<|sN<|qR ?_
  cases oI h
  exact qD
 refine sM rfl<|sM rfl<|sV (rI (a0.length : Int))<|sV (rI (rW ((a0.length : Int) - (5 : Int))))<|bE h fun x6 hx6 h => WO.remG hx6 rfl rfl rfl rfl rfl rfl<|sV (rB (x6 != (0 : Int)))<|sF h (fun h => ?_) fun h => ?_
 ·refine sM rfl<|sK<|sK<|sT<|sN<|cT<|gS rfl rfl<|sV .nils<|sV (rI 3)<|sN<|qR ?_
  cases oI h
  exact qD
 refine sM rfl<|sM rfl<|sV (rB (decide (x3 > (16 : Int))))<|sF h (fun h => ?_) fun h => ?_
 ·refine sN<|cT<|gS rfl rfl<|sV .nils<|sV (rI 3)<|sN<|qR ?_
  cases oI h
  exact qD
 refine sN<|cF<|qK<|gS rfl rfl<|sV .nils<|sN<|qS<|gS rfl rfl<|sV (r0)<|sN<|bE h fun o18 ho18 h => WC.block (WC.loop (WL.ofLoop ho18 (fun s R' B' => ghosts prog 0 (A R' B') (al.at_ 32 0 9) = some (A [(0, rS a0), (5, rI x3), (6, .ref 784 0), (7, rI s.1)] [(784, .arr 0 55 (s.2.map aa.pd))])) (fun o e R' B' => e = .exit 0 ∧ ghosts prog 0 (A R' B') (al.at_ 32 0 12) = some (A [(5, rI x3), (6, .ref 784 0)] [(784, .arr 0 55 (o.map aa.pd))])) rfl ?_ ?_))
 ·rintro ⟨s9, s10⟩ R' B' q12 hI h
  refine qS<|gS rfl hI<|sM rfl<|sM rfl<|sF h (fun h => ?_) fun h => ?_
  ·refine sN<|cT<|qK<|qS<|qB<|WC.region rfl rfl<|sM rfl<|sM rfl<|sM rfl<|sV (rI (rW ((8 : Int) * s9)))<|sV (rI (rW ((1 : Int) + (rW ((8 : Int) * s9)))))<|bE h fun x14 hx14 h => cD (eN hx14)<|sM rfl<|sM rfl ?_
   refine sV (rI (rW ((8 : Int) * s9)))<|sV (rI (rW ((5 : Int) + (rW ((8 : Int) * s9)))))<|bE h fun x15 hx15 h => cD (eN hx15)<|sV (.d (aa.pd (aa.mk x14 x15)))<|sV (.d (.lst ([(aa.mk x14 x15)].map aa.pd)))<|bE h fun x16 hx16 h => aR hx16 (fun _ => rfl) rfl<|sA rfl<|sN<|WC.region rfl rfl<|sM rfl<|sV (rI (rW (s9 + (1 : Int))))<|sA rfl<|sN ?_
   cases oI h
   exact ⟨rfl, rfl⟩
  refine sN<|cF<|qX ?_
  cases oI h
  exact ⟨nofun, rfl, rfl⟩
 intro e R' B' he hq
 obtain ⟨rfl, hI⟩ := hq
 refine qE<|qS<|gS rfl hI<|sM rfl<|bE h fun x19 hx19 h => cR (rB x19.1) [(784, .arr 0 55 (x19.2.map aa.pd))] (ref08_Validq_ev hx19)<|sF h (fun h => ?_) fun h => ?_
 ·refine sM rfl<|k3<|k3<|k3<|sK<|sK<|sT<|sN<|cT ?_
  refine gS rfl rfl<|sV .nils<|sV (rI 3)<|sN<|qR ?_
  cases oI h
  exact qD
 refine sM rfl<|sM rfl<|sF h (fun h => ?_) fun h => ?_
 ·refine sM rfl<|sM rfl<|sM rfl<|sV (rI (rW (x3 - (1 : Int))))<|bE h fun x23 hx23 h => WO.eltG hx23 rfl rfl rfl rfl rfl rfl rfl rfl<|sV (.elt 784 0 ((rW (x3 - (1 : Int)))).toNat 1)<|bE h fun x24 hx24 h => WO.loadE hx24 rfl rfl rfl rfl rfl rfl<|sV (rB (decide (x24.fTo > (1073741825 : Int))))<|sV (rB (decide (x24.fTo > (1073741825 : Int))))<|sF h (fun h => ?_) fun h => ?_
  ·refine sN<|cT<|gS rfl rfl<|sV .nils<|sV (rI 3)<|sN<|qR ?_
   cases oI h
   exact qD
  refine sN<|cF<|qK<|gS rfl rfl<|sM rfl<|sA rfl<|sV (r0)<|sN<|qR ?_
  cases oI h
  exact qD
 refine sM rfl<|k3<|k3<|sK<|sU<|sU<|sN<|cF<|qK<|gS rfl rfl<|sM rfl ?_
 refine sA rfl<|sV (r0)<|sN<|qR ?_
 cases oI h
 exact qD
theorem ref08_Same_ev {a0 : (List aa)} {a1 : (List aa)} {r : Bool} (h : kR a0 a1 = some r) : EvP prog al ext 33 [.d (.lst (a0.map aa.pd)), .d (.lst (a1.map aa.pd))] [] (rB r, []) := by
 refine Ev.body rfl Tryz.func33 rfl (by kernel_rfl)<|gS rfl rfl<|sU<|sN<|qS<|gS rfl rfl<|sM rfl<|sE (rI (a0.length : Int)) (lenMap _ _)<|sM rfl<|sE (rI (a1.length : Int)) (lenMap _ _)<|sF h (fun h => ?_) fun h => ?_
 ·refine sN<|cT<|gS rfl rfl<|sU<|sN<|qR ?_
  cases oI h
  exact qD
 refine sN<|cF<|qK<|qS<|gS rfl rfl<|sV (r0)<|sN<|bE h fun o9 ho9 h => WC.block (WC.loop (WL.ofLoop ho9 (fun s R' B' => ghosts prog 0 (A R' B') (al.at_ 33 0 4) = some (A [(0, .d (.lst (a0.map aa.pd))), (1, .d (.lst (a1.map aa.pd))), (5, rI s)] [])) (fun o e R' B' => match o with | .inl y => e = .exit 0 ∧ ghosts prog 0 (A R' B') (al.at_ 33 0 8) = some (A [] []) | .inr r => e = .ret ∧ finish prog (al.own 33) Tryz.f33 0 (A R' B') = some (rB r, [])) rfl ?_ ?_))
 ·rintro s2 R' B' q3 hI h
  refine qS<|gS rfl hI<|sM rfl<|sM rfl<|sE (rI (a0.length : Int)) (lenMap _ _)<|sF h (fun h => ?_) fun h => ?_
  ·refine sN<|cT<|qK<|qS<|qB<|WC.regionDSeq rfl rfl<|sM rfl<|sM rfl<|bE h fun x5 hx5 h => eG hx5 rfl<|sV (.d (aa.pd x5))<|sM rfl<|sM rfl<|bE h fun x6 hx6 h => eG hx6 rfl ?_
   refine sV (.d (aa.pd x6))<|ite_elim h (fun hb7 h => ?_) (fun hb7 h => ?_)
   ·refine WO.binS (eqN_55 x5 x6) hb7 rfl rfl rfl rfl rfl ?_
    refine sN<|sO<|cT<|gS rfl rfl<|sU<|sN<|qR ?_
    cases oI h
    exact ⟨nofun, rfl, rfl⟩
   refine WO.binS (eqN_55 x5 x6) hb7 rfl rfl rfl rfl rfl ?_
   refine sN<|sO<|cF<|qK<|WC.region rfl rfl<|sM rfl<|sV (rI (rW (s2 + (1 : Int))))<|sA rfl<|sN ?_
   cases oI h
   exact ⟨rfl, rfl⟩
  refine sN<|cF<|qX ?_
  cases oI h
  exact ⟨nofun, rfl, rfl⟩
 intro e R' B' he hq
 rcases o9 with y10 | r11
 ·obtain ⟨rfl, hI⟩ := hq
  refine qE<|gS rfl hI<|sT<|sN<|qR ?_
  cases oI h
  exact qD
 obtain ⟨rfl, hf⟩ := hq
 cases oI h
 exact hf
theorem jS {a0 : (List Int)} {a1 : (List UInt8)} {a2 : Int} {a3 : Int} {a4 : Int} {a5 : (List aa)} {r : Bool} (h : ed a0 a1 a2 a3 a4 a5 = some r) : EvP prog al ext 5 [.d (.lst (a0.map (PD.int .i64))), rS a1, rI a2, rI a3, rI a4, .d (.lst (a5.map aa.pd))] [] (rB r, []) := by
 refine Ev.body rfl Tryz.func5 rfl (by kernel_rfl)<|gS rfl rfl<|sU<|sN<|qS<|gS rfl rfl<|sM rfl<|bE h fun x1 hx1 h => cD (mc hx1)<|sF h (fun h => ?_) fun h => ?_
 ·refine sM rfl<|k3<|sT<|sM rfl<|k3<|sT<|sN<|cT<|gS rfl rfl<|bE h fun x3 hx3 h => cD (c8 hx3) ?_
  refine sA rfl<|sN<|qR ?_
  cases oI h
  exact qD
 refine sM rfl<|sM rfl<|sV (rI (a1.length : Int))<|sV (rB (decide ((a1.length : Int) > (300 : Int))))<|sF h (fun h => ?_) fun h => ?_
 ·refine sM rfl<|k3<|sT<|sN<|cT<|gS rfl rfl<|bE h fun x5 hx5 h => cD (c8 hx5)<|sA rfl<|sN<|qR ?_
  cases oI h
  exact qD
 refine sM rfl<|sM rfl<|sE (rI (a5.length : Int)) (lenMap _ _)<|sV (rB (decide ((a5.length : Int) > (30 : Int))))<|sF h (fun h => ?_) fun h => ?_
 ·refine sN<|cT<|gS rfl rfl<|bE h fun x7 hx7 h => cD (c8 hx7)<|sA rfl<|sN<|qR ?_
  cases oI h
  exact qD
 refine sN<|cF<|qK<|gS rfl rfl<|sM rfl<|bE h fun x8 hx8 h => cR (.ptr 1120 0) [(1120, .var [.d (.lst (x8.fL.map (PD.int .i64))), rI x8.fAt])] (mJ hx8)<|sA rfl<|sN<|gS rfl rfl<|sM rfl<|sM rfl<|bE h fun x9 hx9 h => cD (cP hx9)<|sB (.ref 1184 0) 1184 (.arr 0 9 ([a1, x9].map PD.str)) ?_
 refine sA rfl<|sN<|qS<|gS rfl rfl<|sM rfl<|sM rfl<|sV (.d (dc.pd (dc.mk a2 a3)))<|sM rfl<|bE h fun x10 hx10 h => cR (rI x10.1) [(1120, .var [.d (.lst (x10.2.fL.map (PD.int .i64))), rI x10.2.fAt])] (a8 hx10)<|sM rfl<|bE h fun x11 hx11 h => cR (rI x11.1) [(1120, .var [.d (.lst (x11.2.fL.map (PD.int .i64))), rI x11.2.fAt])] (a8 hx11)<|sV (.d (dc.pd (dc.mk x10.1 x11.1)))<|sV (.d (dc.pd (dc.mk 1073741824 1073741825))) ?_
 refine sV (.d (.lst ([(dc.mk a2 a3), (dc.mk x10.1 x11.1), (dc.mk 1073741824 1073741825)].map dc.pd)))<|sV (rI 3)<|sV (r0)<|sN<|bE h fun o24 ho24 h => WC.block (WC.loop (WL.ofLoop ho24 (fun s R' B' => ghosts prog 0 (A R' B') (al.at_ 5 0 6) = some (A [(1, rS a1), (4, rI a4), (5, .d (.lst (a5.map aa.pd))), (13, .ptr 1120 0), (14, .ref 1184 0), (84, .d (.lst ([(dc.mk a2 a3), (dc.mk x10.1 x11.1), (dc.mk 1073741824 1073741825)].map dc.pd))), (85, rI 3), (86, rI s.1)] [(1120, .var [.d (.lst (x11.2.fL.map (PD.int .i64))), rI x11.2.fAt]), (1184, .arr 0 9 (s.2.map PD.str))])) (fun o e R' B' => match o with | .inl y => e = .exit 0 ∧ ghosts prog 0 (A R' B') (al.at_ 5 0 14) = some (A [(4, rI a4), (5, .d (.lst (a5.map aa.pd))), (13, .ptr 1120 0), (14, .ref 1184 0)] [(1120, .var [.d (.lst (x11.2.fL.map (PD.int .i64))), rI x11.2.fAt]), (1184, .arr 0 9 (y.map PD.str))]) | .inr r => e = .ret ∧ finish prog (al.own 5) Tryz.f5 0 (A R' B') = some (rB r, [])) rfl ?_ ?_))
 ·rintro ⟨s12, s13⟩ R' B' q15 hI h
  refine gS rfl hI<|sF h (fun h => ?_) fun h => ?_
  ·refine sN<|qS<|cT<|qK<|qS<|qB<|gS rfl rfl<|bE h fun x17 hx17 h => eG hx17 rfl<|sV (.d (dc.pd x17))<|sB (.ptr 256 0) 256 (.var [r0, r0])<|sS 256 (.var [rI x17.a0, rI x17.a1])<|sN<|gS rfl rfl<|sV (.ptr 256 0) ?_
   refine sL rfl<|sV (.ptr 256 1)<|sL rfl<|sM rfl<|bE h fun x18 hx18 h => cR (.tup [rS x18.1, rI x18.2]) [] (iF hx18)<|sM rfl<|sV (rS x18.1)<|sV (rI x18.2)<|sA rfl<|sA rfl<|sN<|gS rfl rfl<|sV (.ptr 256 0)<|sL rfl ?_
   refine sV (.ptr 256 1)<|sL rfl<|sM rfl<|bE h fun x19 hx19 h => cR (.tup [rS x19.1, rI x19.2]) [] (ref12_Data_ev hx19)<|sM rfl<|sV (rS x19.1)<|sV (rI x19.2)<|sA rfl<|sA rfl<|sN<|qS<|gS rfl rfl<|sM rfl<|sM rfl ?_
   refine sF h (fun h => ?_) fun h => ?_
   ·refine sM rfl<|k3<|sT<|sN<|cT<|gS rfl rfl<|sU<|sN<|qR ?_
    cases oI h
    exact ⟨nofun, rfl, rfl⟩
   refine sM rfl<|sM rfl<|sM rfl<|sV (rB (x18.2 != x19.2))<|sF h (fun h => ?_) fun h => ?_
   ·refine sN<|cT<|gS rfl rfl<|sU<|sN<|qR ?_
    cases oI h
    exact ⟨nofun, rfl, rfl⟩
   refine sN<|cF<|qK<|WC.region rfl rfl<|sM rfl<|sM rfl<|sV (.d (.lst ([x19.1].map PD.str)))<|bE h fun x22 hx22 h => aR hx22 (fun _ => rfl) rfl<|sA rfl<|sN<|WC.region rfl rfl<|sV (rI (rW (s12 + (1 : Int))))<|sM rfl<|sN ?_
   cases oI h
   exact ⟨rfl, rfl⟩
  refine sN<|qS<|cF<|qX ?_
  cases oI h
  exact ⟨nofun, rfl, rfl⟩
 intro e R' B' he hq
 rcases o24 with y25 | r26
 ·obtain ⟨rfl, hI⟩ := hq
  refine qE<|gS rfl hI<|sM rfl<|bE h fun x27 hx27 h => cR (.d (ah.pd x27.1)) [(1120, .var [.d (.lst (x27.2.fL.map (PD.int .i64))), rI x27.2.fAt])] (Dice_Sender_ev hx27)<|sB (.ptr 336 0) 336 (.var [r0, r0, .nils])<|sS 336 (.var [rI x27.1.aF, rI x27.1.aw, .d (.lst (x27.1.aB.map PD.str))])<|sN<|gS rfl rfl<|sV (.d (.agg [.int .i64 x27.1.aF, .int .i64 x27.1.aw, .lst (x27.1.aB.map PD.str)]))<|bE h fun x28 hx28 h => cR (.tup [rS x28.1, rI x28.2]) [] (jG hx28)<|sM rfl<|sV (rS x28.1)<|sV (rI x28.2) ?_
  refine sA rfl<|sA rfl<|sN<|gS rfl rfl<|sV (.d (.agg [.int .i64 x27.1.aF, .int .i64 x27.1.aw, .lst (x27.1.aB.map PD.str)]))<|bE h fun x29 hx29 h => cR (.tup [rS x29.1, rI x29.2]) [] (ref12_Status_ev hx29)<|sM rfl<|sV (rS x29.1)<|sV (rI x29.2)<|sA rfl<|sA rfl<|sN<|qS<|gS rfl rfl ?_
  refine sM rfl<|sM rfl<|sF h (fun h => ?_) fun h => ?_
  ·refine sM rfl<|k3<|sT<|sN<|cT<|gS rfl rfl<|sU<|sN<|qR ?_
   cases oI h
   exact qD
  refine sM rfl<|sM rfl<|sM rfl<|sV (rB (x28.2 != x29.2))<|sF h (fun h => ?_) fun h => ?_
  ·refine sN<|cT<|gS rfl rfl<|sU<|sN<|qR ?_
   cases oI h
   exact qD
  refine sN<|cF<|qK<|gS rfl rfl<|sM rfl<|sM rfl<|sV (.d (.lst ([x29.1].map PD.str)))<|bE h fun x32 hx32 h => aR hx32 (fun _ => rfl) rfl<|sA rfl<|sN<|qS<|gS rfl rfl<|sM rfl<|sM rfl ?_
  refine bE h fun x33 hx33 h => cR (.d (.lst (x33.1.map aa.pd))) [(1120, .var [.d (.lst (x33.2.fL.map (PD.int .i64))), rI x33.2.fAt])] (Dice_Set_ev hx33)<|sM rfl<|bE h fun x34 hx34 h => cR (.d (.lst (x34.1.map aa.pd))) [(1120, .var [.d (.lst (x34.2.fL.map (PD.int .i64))), rI x34.2.fAt])] (l7 hx34)<|sV (.d (.lst ([a5, x33.1, x34.1].map (fun l => PD.lst (l.map aa.pd)))))<|sV (rI 3)<|sV (r0)<|sN<|bE h fun o63 ho63 h => WC.block (WC.loop (WL.ofLoop ho63 (fun s R' B' => ghosts prog 0 (A R' B') (al.at_ 5 0 21) = some (A [(4, rI a4), (13, .ptr 1120 0), (14, .ref 1184 0), (150, .d (.lst ([a5, x33.1, x34.1].map (fun l => PD.lst (l.map aa.pd))))), (151, rI 3), (152, rI s.1)] [(1120, .var [.d (.lst (s.2.1.map (PD.int .i64))), rI s.2.2.1]), (1184, .arr 0 9 (s.2.2.2.map PD.str))])) (fun o e R' B' => match o with | .inl y => e = .exit 2 ∧ ghosts prog 0 (A R' B') (al.at_ 5 0 33) = some (A [(13, .ptr 1120 0), (14, .ref 1184 0)] [(1120, .var [.d (.lst (y.1.map (PD.int .i64))), rI y.2.1]), (1184, .arr 0 9 (y.2.2.map PD.str))]) | .inr r => e = .ret ∧ finish prog (al.own 5) Tryz.f5 0 (A R' B') = some (rB r, [])) rfl ?_ ?_))
  ·rintro ⟨s35, s36, s37, s38⟩ R' B' q42 hI h
   refine gS rfl hI<|sF h (fun h => ?_) fun h => ?_
   ·refine sN<|qS<|cT<|qK<|qS<|qB<|gS rfl rfl<|bE h fun x44 hx44 h => eG hx44 rfl<|sC rfl<|sA rfl<|sN<|gS rfl rfl<|sM rfl<|sM rfl ?_
    refine bE h fun x45 hx45 h => cR (rI x45.1) [(1120, .var [.d (.lst (x45.2.fL.map (PD.int .i64))), rI x45.2.fAt])] (a8 hx45)<|sV (.d (.lst ([a4, 40, x45.1].map (PD.int .i64))))<|sV (rI 3)<|sV (r0)<|sN<|bE h fun o59 ho59 h => WC.block (WC.loop (WL.ofLoop ho59 (fun s R' B' => ghosts prog 0 (A R' B') (al.at_ 5 0 24) = some (A [(4, rI a4), (13, .ptr 1120 0), (14, .ref 1184 0), (27, .d (.lst (x44.map aa.pd))), (150, .d (.lst ([a5, x33.1, x34.1].map (fun l => PD.lst (l.map aa.pd))))), (151, rI 3), (152, rI s35), (159, .d (.lst ([a4, 40, x45.1].map (PD.int .i64)))), (160, rI 3), (161, rI s.1)] [(1120, .var [.d (.lst (x45.2.fL.map (PD.int .i64))), rI x45.2.fAt]), (1184, .arr 0 9 (s.2.map PD.str))])) (fun o e R' B' => match o with | .inl y => e = .exit 4 ∧ ghosts prog 0 (A R' B') (al.at_ 5 0 32) = some (A [(4, rI a4), (13, .ptr 1120 0), (14, .ref 1184 0), (150, .d (.lst ([a5, x33.1, x34.1].map (fun l => PD.lst (l.map aa.pd))))), (151, rI 3), (152, rI y.1)] [(1120, .var [.d (.lst (x45.2.fL.map (PD.int .i64))), rI x45.2.fAt]), (1184, .arr 0 9 (y.2.map PD.str))]) | .inr r => e = .ret ∧ finish prog (al.own 5) Tryz.f5 0 (A R' B') = some (rB r, [])) rfl ?_ ?_))
    ·rintro ⟨s46, s47⟩ R' B' q50 hI h
     refine gS rfl hI<|sF h (fun h => ?_) fun h => ?_
     ·refine sN<|qS<|cT<|qK<|qS<|qB<|gS rfl rfl<|bE h fun x52 hx52 h => eG hx52 rfl<|sC rfl<|sA rfl<|sN<|gS rfl rfl<|sM rfl<|sM rfl ?_
      refine bE h fun x53 hx53 h => cR (.tup [rS x53.1, rI x53.2]) [] (iT hx53)<|sM rfl<|sV (rS x53.1)<|sV (rI x53.2)<|sA rfl<|sA rfl<|sN<|gS rfl rfl<|sM rfl<|sM rfl<|bE h fun x54 hx54 h => cR (.tup [rS x54.1, rI x54.2]) [] (mO hx54)<|sM rfl<|sV (rS x54.1) ?_
      refine sV (rI x54.2)<|sA rfl<|sA rfl<|sN<|qS<|gS rfl rfl<|sM rfl<|sM rfl<|sF h (fun h => ?_) fun h => ?_
      ·refine sM rfl<|k3<|sT<|sN<|cT<|gS rfl rfl<|sU<|sN<|qR ?_
       cases oI h
       exact ⟨nofun, rfl, rfl⟩
      refine sM rfl<|sM rfl<|sM rfl<|sV (rB (x53.2 != x54.2))<|sF h (fun h => ?_) fun h => ?_
      ·refine sN<|cT<|gS rfl rfl<|sU<|sN<|qR ?_
       cases oI h
       exact ⟨nofun, rfl, rfl⟩
      refine sN<|cF<|qK<|WC.region rfl rfl<|sM rfl<|sM rfl<|sV (.d (.lst ([x54.1].map PD.str)))<|bE h fun x57 hx57 h => aR hx57 (fun _ => rfl) rfl<|sA rfl<|sN<|WC.region rfl rfl<|sV (rI (rW (s46 + (1 : Int))))<|sM rfl<|sN ?_
      cases oI h
      exact ⟨rfl, rfl⟩
     refine sN<|qS<|cF<|qX ?_
     cases oI h
     exact ⟨nofun, rfl, rfl⟩
    intro e R' B' he hq
    rcases o59 with y60 | r61
    ·obtain ⟨rfl, hI⟩ := hq
     refine qE<|WC.region hI rfl<|sV (rI (rW (y60.1 + (1 : Int))))<|sM rfl<|sN ?_
     cases oI h
     exact ⟨rfl, rfl⟩
    obtain ⟨rfl, hf⟩ := hq
    cases oI h
    exact ⟨nofun, rfl, hf⟩
   refine sN<|qS<|cF<|qX ?_
   cases oI h
   exact ⟨nofun, rfl, rfl⟩
  intro e R' B' he hq
  rcases o63 with y64 | r65
  ·obtain ⟨rfl, hI⟩ := hq
   refine qE<|qS<|gS rfl hI<|sM rfl<|WO.lenR rfl rfl rfl rfl rfl rfl rfl rfl rfl<|sV (r0)<|sN<|bE h fun o105 ho105 h => WC.block (WC.loop (WL.ofLoop ho105 (fun s R' B' => ghosts prog 0 (A R' B') (al.at_ 5 0 34) = some (A [(13, .ptr 1120 0), (191, .ref 1184 0), (192, rI (y64.2.2.length : Int)), (193, rI s.1)] [(1120, .var [.d (.lst (s.2.1.map (PD.int .i64))), rI s.2.2]), (1184, .arr 0 9 (y64.2.2.map PD.str))])) (fun o e R' B' => match o with | .inl y => e = .exit 6 ∧ ghosts prog 0 (A R' B') (al.at_ 5 0 48) = some (A [] []) | .inr r => e = .ret ∧ finish prog (al.own 5) Tryz.f5 0 (A R' B') = some (rB r, [])) rfl ?_ ?_))
   ·rintro ⟨s66, s67, s68⟩ R' B' q69 hI h
    refine gS rfl hI<|sF h (fun h => ?_) fun h => ?_
    ·refine sN<|qS<|cT<|qK<|qS<|qB<|gS rfl rfl<|bE h fun x72 hx72 h => WO.eltG hx72 rfl rfl rfl rfl rfl rfl rfl rfl<|bE h fun x73 hx73 h => WO.loadE hx73 rfl rfl rfl rfl rfl rfl<|sA rfl<|sN<|WC.join (α := (List UInt8) × (List Int) × Int) (fun x R' B' => ghosts prog 0 (A R' B') (al.at_ 5 0 39) = some (A [(13, .ptr 1120 0), (35, rS x.1), (191, .ref 1184 0), (192, rI (y64.2.2.length : Int)), (193, rI s66)] [(1120, .var [.d (.lst (x.2.1.map (PD.int .i64))), rI x.2.2]), (1184, .arr 0 9 (y64.2.2.map PD.str))])) (fun x => aT s66 x.1 x.2.1 x.2.2 = some q69) ?_ ?_
     ·refine gS rfl rfl<|sM rfl<|bE h fun x94 hx94 h => cR (rI x94.1) [(1120, .var [.d (.lst (x94.2.fL.map (PD.int .i64))), rI x94.2.fAt])] (a8 hx94)<|sF h (fun h => ?_) fun h => ?_
      ·refine sM rfl<|sM rfl<|sV (rI (x73.length : Int))<|sV (rB (decide ((x73.length : Int) > (5 : Int))))<|sF h (fun h => ?_) fun h => ?_
       ·refine sN<|cT<|gS rfl rfl<|sM rfl<|sM rfl<|sV (rI (x73.length : Int))<|sV (rI (rW ((x73.length : Int) - (5 : Int))))<|bE h fun x97 hx97 h => cR (rI x97.1) [(1120, .var [.d (.lst (x97.2.fL.map (PD.int .i64))), rI x97.2.fAt])] (a8 hx97)<|sV (rI (rW ((1 : Int) + x97.1)))<|sA rfl<|sN<|WC.regionD rfl rfl<|sM rfl<|sM rfl ?_
        refine bE h fun x98 hx98 h => WO.cutG hx98 rfl rfl rfl rfl rfl rfl rfl rfl rfl rfl<|sM rfl<|bE h fun x99 hx99 h => cR (rI x99.1) [(1120, .var [.d (.lst (x99.2.fL.map (PD.int .i64))), rI x99.2.fAt])] (a8 hx99)<|sV (.d (.int .u8 (IntKind.wrap .u8 x99.1)))<|sV (.d (.lst ([(IntKind.wrap .u8 x99.1)].map (PD.int .u8))))<|WO.strU rfl rfl rfl rfl rfl rfl rfl<|bE h fun x100 hx100 h => WO.catG hx100 rfl rfl rfl rfl rfl<|sM rfl<|sM rfl<|sV (rI (rW ((rW ((1 : Int) + x97.1)) + (1 : Int))))<|sM rfl<|sV (rI (x73.length : Int)) ?_
        refine sV (rI (rW ((x73.length : Int) - (4 : Int))))<|bE h fun x101 hx101 h => WO.cutG hx101 rfl rfl rfl rfl rfl rfl rfl rfl rfl rfl<|bE h fun x102 hx102 h => WO.catG hx102 rfl rfl rfl rfl rfl<|bE h fun x103 hx103 h => cD (cP hx103)<|sA rfl ?_
        exact sN<|sO<|⟨(x103, x99.2.fL, x99.2.fAt), rfl, h⟩
       exact sN<|cF<|qK<|⟨(x73, x94.2.fL, x94.2.fAt), rfl, h⟩
      exact sM rfl<|k3<|sU<|sN<|cF<|qK<|⟨(x73, x94.2.fL, x94.2.fAt), rfl, h⟩
     rintro ⟨j74, j75, j76⟩ R' B' hI h
     refine gS rfl hI<|sM rfl<|bE h fun x77 hx77 h => cR (.tup [rI x77.1, rI x77.2.1, rS x77.2.2.1, rI x77.2.2.2]) [] (ir hx77)<|sM rfl<|sV (rI x77.1)<|sV (rI x77.2.1)<|sV (rS x77.2.2.1)<|sV (rI x77.2.2.2)<|sA rfl<|sA rfl<|sA rfl<|sA rfl<|sN<|gS rfl rfl ?_
     refine sM rfl<|bE h fun x78 hx78 h => cR (.tup [rI x78.1, rI x78.2.1, rS x78.2.2.1, rI x78.2.2.2]) [] (mp hx78)<|sM rfl<|sV (rI x78.1)<|sV (rI x78.2.1)<|sV (rS x78.2.2.1)<|sV (rI x78.2.2.2)<|sA rfl<|sA rfl<|sA rfl<|sA rfl<|sN<|gS rfl rfl<|sM rfl ?_
     refine bE h fun x79 hx79 h => cR (.tup [rI x79.1, rI x79.2.1, rI x79.2.2]) [] (gj hx79)<|sM rfl<|sV (rI x79.1)<|sV (rI x79.2.1)<|sV (rI x79.2.2)<|sA rfl<|sA rfl<|sA rfl<|sN<|gS rfl rfl<|sM rfl<|bE h fun x80 hx80 h => cR (.tup [rI x80.1, rI x80.2.1, rI x80.2.2]) [] (lx hx80)<|sM rfl ?_
     refine sV (rI x80.1)<|sV (rI x80.2.1)<|sV (rI x80.2.2)<|sA rfl<|sA rfl<|sA rfl<|sN<|gS rfl rfl<|sM rfl<|bE h fun x81 hx81 h => cR (.tup [.d (.lst (x81.1.map aa.pd)), rI x81.2]) [] (fj hx81)<|sM rfl<|sV (.d (.lst (x81.1.map aa.pd)))<|sV (rI x81.2)<|sA rfl ?_
     refine sA rfl<|sN<|gS rfl rfl<|sM rfl<|bE h fun x82 hx82 h => cR (.tup [.d (.lst (x82.1.map aa.pd)), rI x82.2]) [] (kU hx82)<|sM rfl<|sV (.d (.lst (x82.1.map aa.pd)))<|sV (rI x82.2)<|sA rfl<|sA rfl<|sN<|gS rfl rfl<|sM rfl<|sM rfl ?_
     refine sF h (fun h => ?_) fun h => ?_
     ·refine sM rfl<|k3<|sT<|sM rfl<|k3<|sT<|sM rfl<|k3<|sT ?_
      refine sM rfl<|k3<|sT<|sM rfl<|k3<|sT<|sM rfl<|k3<|sT ?_
      refine sM rfl<|k3<|sT<|sM rfl<|k3<|sK<|sT<|sN<|cT<|gS rfl rfl<|sU ?_
      refine sN<|qR ?_
      cases oI h
      exact ⟨nofun, rfl, rfl⟩
     refine sM rfl<|sM rfl<|sM rfl<|sV (rB (x77.2.1 != x78.2.1))<|sF h (fun h => ?_) fun h => ?_
     ·refine sM rfl<|k3<|sT<|sM rfl<|k3<|sT<|sM rfl<|k3<|sT ?_
      refine sM rfl<|k3<|sT<|sM rfl<|k3<|sT<|sM rfl<|k3<|sT ?_
      refine sM rfl<|k3<|sK<|sT<|sN<|cT<|gS rfl rfl<|sU<|sN<|qR ?_
      cases oI h
      exact ⟨nofun, rfl, rfl⟩
     refine sM rfl<|sM rfl<|sM rfl<|sV (rB (!(x77.2.2.1 == x78.2.2.1)))<|sF h (fun h => ?_) fun h => ?_
     ·refine sM rfl<|k3<|sT<|sM rfl<|k3<|sT<|sM rfl<|k3<|sT ?_
      refine sM rfl<|k3<|sT<|sM rfl<|k3<|sT<|sM rfl<|k3<|sK ?_
      refine sT<|sN<|cT<|gS rfl rfl<|sU<|sN<|qR ?_
      cases oI h
      exact ⟨nofun, rfl, rfl⟩
     refine sM rfl<|sM rfl<|sM rfl<|sV (rB (x77.2.2.2 != x78.2.2.2))<|sF h (fun h => ?_) fun h => ?_
     ·refine sM rfl<|k3<|sT<|sM rfl<|k3<|sT<|sM rfl<|k3<|sT ?_
      refine sM rfl<|k3<|sT<|sM rfl<|k3<|sK<|sT<|sN<|cT<|gS rfl rfl<|sU ?_
      refine sN<|qR ?_
      cases oI h
      exact ⟨nofun, rfl, rfl⟩
     refine sM rfl<|sM rfl<|sM rfl<|sV (rB (x79.1 != x80.1))<|sF h (fun h => ?_) fun h => ?_
     ·refine sM rfl<|k3<|sT<|sM rfl<|k3<|sT<|sM rfl<|k3<|sT ?_
      refine sM rfl<|k3<|sK<|sT<|sN<|cT<|gS rfl rfl<|sU<|sN<|qR ?_
      cases oI h
      exact ⟨nofun, rfl, rfl⟩
     refine sM rfl<|sM rfl<|sM rfl<|sV (rB (x79.2.1 != x80.2.1))<|sF h (fun h => ?_) fun h => ?_
     ·refine sM rfl<|k3<|sT<|sM rfl<|k3<|sT<|sM rfl<|k3<|sK ?_
      refine sT<|sN<|cT<|gS rfl rfl<|sU<|sN<|qR ?_
      cases oI h
      exact ⟨nofun, rfl, rfl⟩
     refine sM rfl<|sM rfl<|sM rfl<|sV (rB (x79.2.2 != x80.2.2))<|sF h (fun h => ?_) fun h => ?_
     ·refine sM rfl<|k3<|sT<|sM rfl<|k3<|sK<|sT<|sN<|cT<|gS rfl rfl<|sU ?_
      refine sN<|qR ?_
      cases oI h
      exact ⟨nofun, rfl, rfl⟩
     refine sM rfl<|sM rfl<|sM rfl<|sV (rB (x81.2 != x82.2))<|sF h (fun h => ?_) fun h => ?_
     ·refine sM rfl<|k3<|sK<|sT<|sN<|cT<|gS rfl rfl<|sU<|sN<|qR ?_
      cases oI h
      exact ⟨nofun, rfl, rfl⟩
     refine sM rfl<|sM rfl<|sM rfl<|bE h fun x91 hx91 h => cD (ref08_Same_ev hx91)<|sV (rB (!x91))<|sF h (fun h => ?_) fun h => ?_
     ·refine sN<|cT<|gS rfl rfl<|sU<|sN<|qR ?_
      cases oI h
      exact ⟨nofun, rfl, rfl⟩
     refine sN<|cF<|qK<|WC.region rfl rfl<|sV (rI (rW (s66 + (1 : Int))))<|sM rfl<|sN ?_
     cases oI h
     exact ⟨rfl, rfl⟩
    refine sN<|qS<|cF<|qX ?_
    cases oI h
    exact ⟨nofun, rfl, rfl⟩
   intro e R' B' he hq
   rcases o105 with y106 | r107
   ·obtain ⟨rfl, hI⟩ := hq
    refine qE<|gS rfl hI<|bE h fun x108 hx108 h => cD (c8 hx108)<|sA rfl<|sN<|qR ?_
    cases oI h
    exact qD
   obtain ⟨rfl, hf⟩ := hq
   cases oI h
   exact hf
  obtain ⟨rfl, hf⟩ := hq
  cases oI h
  exact hf
 obtain ⟨rfl, hf⟩ := hq
 cases oI h
 exact hf
end Go.Dw.Se
