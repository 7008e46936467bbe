
import Derived.Test.YtjecbkklfphblaaGreatSeEvA

set_option maxRecDepth 100000
set_option maxHeartbeats 4000000
namespace Go.Dw.Se
open Go.Proofs Go.Proofs.Tryz Go.Dw
theorem ke {a0 : ag} {a1 : (List ae)} {a2 : (List ae)} {r : ag × Int} (h : ch a0 a1 a2 = some r) : EvP prog al ext 13 [.d (ag.pd a0), .d (.lst (a1.map ae.pd)), .d (.lst (a2.map ae.pd))] [] (.tup [.d (ag.pd r.1), rI r.2], []) := by
 refine Ev.body rfl Tryz.func13 rfl (by kernel_rfl)<|gS rfl rfl<|sB (.ptr 48 0) 48 (.var (ag.rc a0))<|sB (.ptr 96 0) 96 (.var zZ0)<|sV (r0)<|sN<|gS rfl rfl<|sV (.d (.raw (.func (.func 43) #[] #[])))<|sN<|qS<|gS rfl rfl<|sV (.d (ag.pd a0))<|bE h fun x1 hx1 h => cD (dc hx1)<|sF h (fun h => ?_) fun h => ?_
 ·refine sM rfl<|k3<|sT<|sM rfl<|k3<|sT<|sN<|cT<|gS rfl rfl<|sG (.agg zZ0)<|sH 96 (.var zZ0) ?_
  refine sV (rI 1)<|sN<|qR ?_
  cases oI h
  exact qG
 refine sM rfl<|sM rfl<|sM rfl<|bE h fun x3 hx3 h => cD (cx hx3)<|sF h (fun h => ?_) fun h => ?_
 ·refine sM rfl<|k3<|sT<|sN<|cT<|gS rfl rfl<|sG (.agg zZ0)<|sH 96 (.var zZ0)<|sV (rI 1)<|sN<|qR ?_
  cases oI h
  exact qG
 refine sM rfl<|sM rfl<|sM rfl<|bE h fun x5 hx5 h => cD (cx hx5)<|sF h (fun h => ?_) fun h => ?_
 ·refine sN<|cT<|gS rfl rfl<|sG (.agg zZ0)<|sH 96 (.var zZ0)<|sV (rI 1)<|sN<|qR ?_
  cases oI h
  exact qG
 refine sN<|cF<|qK<|qS<|gS rfl rfl<|sV (.ptr 48 0)<|sL rfl<|sF h (fun h => ?_) fun h => ?_
 ·refine sN<|cT<|gS rfl rfl<|sG (.agg zZ0)<|sH 96 (.var zZ0)<|sV (rI 8)<|sN<|qR ?_
  cases oI h
  exact qG
 refine sN<|cF<|qK<|gS rfl rfl<|sV (.d (ag.pd a0))<|bE h fun x8 hx8 h => cR (.agg [rI x8.az, rI x8.aD, rI x8.aJ, rI x8.ar.aG, rI x8.ar.aw, .d (.lst (x8.ar.aC.map PD.str)), .d (.lst (x8.ap.aK.map aa.pd)), .d (.lst (x8.ap.aF.map aa.pd)), rI x8.aB.az, rI x8.aB.aq, .d (.lst (x8.aB.av.map ac.pd)), rI x8.fUp.az, rI x8.fUp.aq, .d (.lst (x8.fUp.av.map ac.pd)), .ref 544 0]) [(544, .arr 0 50 (x8.au.map aj.pd))] (fI hx8)<|sM rfl<|sM rfl<|sG (.agg [rI x8.az, rI x8.aD, rI x8.aJ, rI x8.ar.aG, rI x8.ar.aw, .d (.lst (x8.ar.aC.map PD.str)), .d (.lst (x8.ap.aK.map aa.pd)), .d (.lst (x8.ap.aF.map aa.pd)), rI x8.aB.az, rI x8.aB.aq, .d (.lst (x8.aB.av.map ac.pd)), rI x8.fUp.az, rI x8.fUp.aq, .d (.lst (x8.fUp.av.map ac.pd)), .ref 544 0, .d (.lst (a1.map ae.pd)), .d (.lst (a2.map ae.pd))])<|sB (.ptr 608 0) 608 (.var [rI x8.az, rI x8.aD, rI x8.aJ, rI x8.ar.aG, rI x8.ar.aw, .d (.lst (x8.ar.aC.map PD.str)), .d (.lst (x8.ap.aK.map aa.pd)), .d (.lst (x8.ap.aF.map aa.pd)), rI x8.aB.az, rI x8.aB.aq, .d (.lst (x8.aB.av.map ac.pd)), rI x8.fUp.az, rI x8.fUp.aq, .d (.lst (x8.fUp.av.map ac.pd)), .ref 544 0, .d (.lst (a1.map ae.pd)), .d (.lst (a2.map ae.pd))])<|sA rfl<|sN<|gS rfl rfl<|sM rfl ?_
 refine sV (.ptr 608 0)<|sV (.ptr 608 0)<|sV (.ptr 608 0)<|sL rfl<|sV (rI (rW (x8.az + (1 : Int))))<|sV (.ptr 608 0)<|sV (.ptr 608 0)<|sV (.ptr 608 0)<|sS 608 (.var [rI (rW (x8.az + (1 : Int))), rI x8.aD, rI x8.aJ, rI x8.ar.aG, rI x8.ar.aw, .d (.lst (x8.ar.aC.map PD.str)), .d (.lst (x8.ap.aK.map aa.pd)), .d (.lst (x8.ap.aF.map aa.pd)), rI x8.aB.az, rI x8.aB.aq, .d (.lst (x8.aB.av.map ac.pd)), rI x8.fUp.az, rI x8.fUp.aq, .d (.lst (x8.fUp.av.map ac.pd)), .ref 544 0, .d (.lst (a1.map ae.pd)), .d (.lst (a2.map ae.pd))])<|sN<|gS rfl rfl<|sV .nils<|sN<|gS rfl rfl<|sM rfl ?_
 refine sM rfl<|sV (.ptr 608 0)<|sV (.ptr 608 0)<|sV (.ptr 608 8)<|sV (.d (.agg [.int .i64 x8.aB.az, .int .i64 x8.aB.aq, .lst (x8.aB.av.map ac.pd)]))<|bE h fun x9 hx9 h => cR (.tup [.d (ak.pd x9.1), .d (.lst (x9.2.1.map PD.str)), rI x9.2.2]) [] (lN hx9)<|sM rfl<|sV (.d (ak.pd x9.1))<|sV (.d (.lst (x9.2.1.map PD.str)))<|sV (rI x9.2.2)<|sV (.ptr 608 0)<|sV (.ptr 608 0)<|sV (.ptr 608 8)<|sS 608 (.var [rI (rW (x8.az + (1 : Int))), rI x8.aD, rI x8.aJ, rI x8.ar.aG, rI x8.ar.aw, .d (.lst (x8.ar.aC.map PD.str)), .d (.lst (x8.ap.aK.map aa.pd)), .d (.lst (x8.ap.aF.map aa.pd)), rI x9.1.az, rI x9.1.aq, .d (.lst (x9.1.av.map ac.pd)), rI x8.fUp.az, rI x8.fUp.aq, .d (.lst (x8.fUp.av.map ac.pd)), .ref 544 0, .d (.lst (a1.map ae.pd)), .d (.lst (a2.map ae.pd))]) ?_
 refine sA rfl<|sN<|qS<|gS rfl rfl<|sM rfl<|sE (rI (x9.2.1.length : Int)) (lenMap _ _)<|sV (r0)<|sN<|bE h fun o51 ho51 h => WC.block (WC.loop (WL.ofLoop ho51 (fun s R' B' => ghosts prog 0 (A R' B') (al.at_ 13 0 11) = some (A [(6, .ptr 96 0), (9, .ptr 608 0), (62, .d (.lst (x9.2.1.map PD.str))), (63, rI (x9.2.1.length : Int)), (64, rI s.1)] [(96, .var zZ0), (544, .arr 0 50 (s.2.2.2.2.2.2.2.2.2.2.2.2.2.2.2.2.2.map aj.pd)), (608, .var [rI s.2.1, rI s.2.2.1, rI s.2.2.2.1, rI s.2.2.2.2.1, rI s.2.2.2.2.2.1, .d (.lst (s.2.2.2.2.2.2.1.map PD.str)), .d (.lst (s.2.2.2.2.2.2.2.1.map aa.pd)), .d (.lst (s.2.2.2.2.2.2.2.2.1.map aa.pd)), rI s.2.2.2.2.2.2.2.2.2.1, rI s.2.2.2.2.2.2.2.2.2.2.1, .d (.lst (s.2.2.2.2.2.2.2.2.2.2.2.1.map ac.pd)), rI s.2.2.2.2.2.2.2.2.2.2.2.2.1, rI s.2.2.2.2.2.2.2.2.2.2.2.2.2.1, .d (.lst (s.2.2.2.2.2.2.2.2.2.2.2.2.2.2.1.map ac.pd)), .ref 544 0, .d (.lst (s.2.2.2.2.2.2.2.2.2.2.2.2.2.2.2.1.map ae.pd)), .d (.lst (s.2.2.2.2.2.2.2.2.2.2.2.2.2.2.2.2.1.map ae.pd))])])) (fun o e R' B' => e = .exit 0 ∧ ghosts prog 0 (A R' B') (al.at_ 13 0 16) = some (A [(6, .ptr 96 0), (9, .ptr 608 0)] [(96, .var zZ0), (544, .arr 0 50 (o.2.2.2.2.2.2.2.2.2.2.2.2.2.2.2.2.map aj.pd)), (608, .var [rI o.1, rI o.2.1, rI o.2.2.1, rI o.2.2.2.1, rI o.2.2.2.2.1, .d (.lst (o.2.2.2.2.2.1.map PD.str)), .d (.lst (o.2.2.2.2.2.2.1.map aa.pd)), .d (.lst (o.2.2.2.2.2.2.2.1.map aa.pd)), rI o.2.2.2.2.2.2.2.2.1, rI o.2.2.2.2.2.2.2.2.2.1, .d (.lst (o.2.2.2.2.2.2.2.2.2.2.1.map ac.pd)), rI o.2.2.2.2.2.2.2.2.2.2.2.1, rI o.2.2.2.2.2.2.2.2.2.2.2.2.1, .d (.lst (o.2.2.2.2.2.2.2.2.2.2.2.2.2.1.map ac.pd)), .ref 544 0, .d (.lst (o.2.2.2.2.2.2.2.2.2.2.2.2.2.2.1.map ae.pd)), .d (.lst (o.2.2.2.2.2.2.2.2.2.2.2.2.2.2.2.1.map ae.pd))])])) rfl ?_ ?_))
 ·rintro ⟨s10, s11, s12, s13, s14, s15, s16, s17, s18, s19, s20, s21, s22, s23, s24, s25, s26, s27⟩ R' B' q45 hI h
  refine gS rfl hI<|sF h (fun h => ?_) fun h => ?_
  ·refine sN<|qS<|cT<|qK<|qS<|qB<|gS rfl rfl<|bE h fun x47 hx47 h => eG hx47 rfl<|sC rfl<|sA rfl<|sN<|gS rfl rfl<|sM rfl<|sM rfl ?_
   refine bE h fun x48 hx48 h => cR (.tup []) [(608, .var [rI x48.1, rI x48.2.1, rI x48.2.2.1, rI x48.2.2.2.1, rI x48.2.2.2.2.1, .d (.lst (x48.2.2.2.2.2.1.map PD.str)), .d (.lst (x48.2.2.2.2.2.2.1.map aa.pd)), .d (.lst (x48.2.2.2.2.2.2.2.1.map aa.pd)), rI x48.2.2.2.2.2.2.2.2.1, rI x48.2.2.2.2.2.2.2.2.2.1, .d (.lst (x48.2.2.2.2.2.2.2.2.2.2.1.map ac.pd)), rI x48.2.2.2.2.2.2.2.2.2.2.2.1, rI x48.2.2.2.2.2.2.2.2.2.2.2.2.1, .d (.lst (x48.2.2.2.2.2.2.2.2.2.2.2.2.2.1.map ac.pd)), .ref 544 1, .d (.lst (x48.2.2.2.2.2.2.2.2.2.2.2.2.2.2.1.map ae.pd)), .d (.lst (x48.2.2.2.2.2.2.2.2.2.2.2.2.2.2.2.1.map ae.pd))]), (544, .arr 1 50 (x48.2.2.2.2.2.2.2.2.2.2.2.2.2.2.2.2.map aj.pd))] (ends_data_ev hx48)<|sN<|WC.region rfl rfl<|sM rfl<|sM rfl<|bE h fun x49 hx49 h => cR (.tup []) [(608, .var [rI x49.1, rI x49.2.1, rI x49.2.2.1, rI x49.2.2.2.1, rI x49.2.2.2.2.1, .d (.lst (x49.2.2.2.2.2.1.map PD.str)), .d (.lst (x49.2.2.2.2.2.2.1.map aa.pd)), .d (.lst (x49.2.2.2.2.2.2.2.1.map aa.pd)), rI x49.2.2.2.2.2.2.2.2.1, rI x49.2.2.2.2.2.2.2.2.2.1, .d (.lst (x49.2.2.2.2.2.2.2.2.2.2.1.map ac.pd)), rI x49.2.2.2.2.2.2.2.2.2.2.2.1, rI x49.2.2.2.2.2.2.2.2.2.2.2.2.1, .d (.lst (x49.2.2.2.2.2.2.2.2.2.2.2.2.2.1.map ac.pd)), .ref 544 1, .d (.lst (x49.2.2.2.2.2.2.2.2.2.2.2.2.2.2.1.map ae.pd)), .d (.lst (x49.2.2.2.2.2.2.2.2.2.2.2.2.2.2.2.map ae.pd))]), (544, .arr 1 50 (x48.2.2.2.2.2.2.2.2.2.2.2.2.2.2.2.2.map aj.pd))] (ends_status_ev hx49)<|sN<|WC.region rfl rfl<|sV (rI (rW (s10 + (1 : Int))))<|sM rfl<|sN ?_
   cases oI h
   exact ⟨rfl, rfl⟩
  refine sN<|qS<|cF<|qX ?_
  cases oI h
  exact ⟨nofun, rfl, rfl⟩
 intro e R' B' he hq
 obtain ⟨rfl, hI⟩ := hq
 refine qE<|gS rfl hI<|sM rfl<|sM rfl<|sV (.ptr 608 0)<|sV (.ptr 608 0)<|sV (.ptr 608 11)<|sV (.d (ak.pd (ak.mk o51.2.2.2.2.2.2.2.2.2.2.2.1 o51.2.2.2.2.2.2.2.2.2.2.2.2.1 o51.2.2.2.2.2.2.2.2.2.2.2.2.2.1)))<|bE h fun x52 hx52 h => cR (.tup [.d (ak.pd x52.1), .d (.lst (x52.2.1.map PD.str)), rI x52.2.2]) [] (lN hx52)<|sM rfl<|sV (.d (ak.pd x52.1))<|sV (.d (.lst (x52.2.1.map PD.str)))<|sV (rI x52.2.2)<|sV (.ptr 608 0) ?_
 refine sV (.ptr 608 0)<|sV (.ptr 608 11)<|sS 608 (.var [rI o51.1, rI o51.2.1, rI o51.2.2.1, rI o51.2.2.2.1, rI o51.2.2.2.2.1, .d (.lst (o51.2.2.2.2.2.1.map PD.str)), .d (.lst (o51.2.2.2.2.2.2.1.map aa.pd)), .d (.lst (o51.2.2.2.2.2.2.2.1.map aa.pd)), rI o51.2.2.2.2.2.2.2.2.1, rI o51.2.2.2.2.2.2.2.2.2.1, .d (.lst (o51.2.2.2.2.2.2.2.2.2.2.1.map ac.pd)), rI x52.1.az, rI x52.1.aq, .d (.lst (x52.1.av.map ac.pd)), .ref 544 0, .d (.lst (o51.2.2.2.2.2.2.2.2.2.2.2.2.2.2.1.map ae.pd)), .d (.lst (o51.2.2.2.2.2.2.2.2.2.2.2.2.2.2.2.1.map ae.pd))])<|sA rfl<|sN<|qS<|gS rfl rfl<|sM rfl<|sE (rI (x52.2.1.length : Int)) (lenMap _ _)<|sV (r0)<|sN<|bE h fun o91 ho91 h => WC.block (WC.loop (WL.ofLoop ho91 (fun s R' B' => ghosts prog 0 (A R' B') (al.at_ 13 0 18) = some (A [(6, .ptr 96 0), (9, .ptr 608 0), (89, .d (.lst (x52.2.1.map PD.str))), (90, rI (x52.2.1.length : Int)), (91, rI s.1)] [(96, .var zZ0), (544, .arr 0 50 (o51.2.2.2.2.2.2.2.2.2.2.2.2.2.2.2.2.map aj.pd)), (608, .var [rI s.2.1, rI s.2.2.1, rI s.2.2.2.1, rI s.2.2.2.2.1, rI s.2.2.2.2.2.1, .d (.lst (s.2.2.2.2.2.2.1.map PD.str)), .d (.lst (s.2.2.2.2.2.2.2.1.map aa.pd)), .d (.lst (s.2.2.2.2.2.2.2.2.1.map aa.pd)), rI s.2.2.2.2.2.2.2.2.2.1, rI s.2.2.2.2.2.2.2.2.2.2.1, .d (.lst (s.2.2.2.2.2.2.2.2.2.2.2.1.map ac.pd)), rI s.2.2.2.2.2.2.2.2.2.2.2.2.1, rI s.2.2.2.2.2.2.2.2.2.2.2.2.2.1, .d (.lst (s.2.2.2.2.2.2.2.2.2.2.2.2.2.2.1.map ac.pd)), .ref 544 0, .d (.lst (s.2.2.2.2.2.2.2.2.2.2.2.2.2.2.2.1.map ae.pd)), .d (.lst (s.2.2.2.2.2.2.2.2.2.2.2.2.2.2.2.2.map ae.pd))])])) (fun o e R' B' => e = .exit 2 ∧ ghosts prog 0 (A R' B') (al.at_ 13 0 22) = some (A [(6, .ptr 96 0), (9, .ptr 608 0)] [(96, .var zZ0), (544, .arr 0 50 (o51.2.2.2.2.2.2.2.2.2.2.2.2.2.2.2.2.map aj.pd)), (608, .var [rI o.1, rI o.2.1, rI o.2.2.1, rI o.2.2.2.1, rI o.2.2.2.2.1, .d (.lst (o.2.2.2.2.2.1.map PD.str)), .d (.lst (o.2.2.2.2.2.2.1.map aa.pd)), .d (.lst (o.2.2.2.2.2.2.2.1.map aa.pd)), rI o.2.2.2.2.2.2.2.2.1, rI o.2.2.2.2.2.2.2.2.2.1, .d (.lst (o.2.2.2.2.2.2.2.2.2.2.1.map ac.pd)), rI o.2.2.2.2.2.2.2.2.2.2.2.1, rI o.2.2.2.2.2.2.2.2.2.2.2.2.1, .d (.lst (o.2.2.2.2.2.2.2.2.2.2.2.2.2.1.map ac.pd)), .ref 544 0, .d (.lst (o.2.2.2.2.2.2.2.2.2.2.2.2.2.2.1.map ae.pd)), .d (.lst (o.2.2.2.2.2.2.2.2.2.2.2.2.2.2.2.map ae.pd))])])) rfl ?_ ?_))
 ·rintro ⟨s53, s54, s55, s56, s57, s58, s59, s60, s61, s62, s63, s64, s65, s66, s67, s68, s69⟩ R' B' q86 hI h
  refine gS rfl hI<|sF h (fun h => ?_) fun h => ?_
  ·refine sN<|qS<|cT<|qK<|qS<|qB<|gS rfl rfl<|bE h fun x88 hx88 h => eG hx88 rfl<|sC rfl<|sA rfl<|sN<|WC.region rfl rfl<|sM rfl<|sM rfl ?_
   refine bE h fun x89 hx89 h => cR (.tup []) [(608, .var [rI x89.1, rI x89.2.1, rI x89.2.2.1, rI x89.2.2.2.1, rI x89.2.2.2.2.1, .d (.lst (x89.2.2.2.2.2.1.map PD.str)), .d (.lst (x89.2.2.2.2.2.2.1.map aa.pd)), .d (.lst (x89.2.2.2.2.2.2.2.1.map aa.pd)), rI x89.2.2.2.2.2.2.2.2.1, rI x89.2.2.2.2.2.2.2.2.2.1, .d (.lst (x89.2.2.2.2.2.2.2.2.2.2.1.map ac.pd)), rI x89.2.2.2.2.2.2.2.2.2.2.2.1, rI x89.2.2.2.2.2.2.2.2.2.2.2.2.1, .d (.lst (x89.2.2.2.2.2.2.2.2.2.2.2.2.2.1.map ac.pd)), .ref 544 0, .d (.lst (x89.2.2.2.2.2.2.2.2.2.2.2.2.2.2.1.map ae.pd)), .d (.lst (x89.2.2.2.2.2.2.2.2.2.2.2.2.2.2.2.map ae.pd))]), (544, .arr 0 50 (o51.2.2.2.2.2.2.2.2.2.2.2.2.2.2.2.2.map aj.pd))] (ends_repeat_ev hx89)<|sN<|WC.region rfl rfl<|sV (rI (rW (s53 + (1 : Int))))<|sM rfl<|sN ?_
   cases oI h
   exact ⟨rfl, rfl⟩
  refine sN<|qS<|cF<|qX ?_
  cases oI h
  exact ⟨nofun, rfl, rfl⟩
 intro e R' B' he hq
 obtain ⟨rfl, hI⟩ := hq
 refine qE<|qS<|WC.regionDSeq hI rfl<|sM rfl<|sV (.ptr 608 0)<|sV (.ptr 608 0)<|sV (.ptr 608 0)<|sL rfl<|sM rfl<|sV (.ptr 608 0)<|sV (.ptr 608 0)<|sV (.ptr 608 1)<|sL rfl<|bE h fun x92 hx92 h => WO.remG hx92 rfl rfl rfl rfl rfl rfl ?_
 refine sF h (fun h => ?_) fun h => ?_
 ·refine sN<|sO<|cT<|WC.region rfl rfl<|sM rfl<|bE h fun x94 hx94 h => cR (.tup []) [(608, .var [rI x94.1, rI x94.2.1, rI x94.2.2.1, rI x94.2.2.2.1, rI x94.2.2.2.2.1, .d (.lst (x94.2.2.2.2.2.1.map PD.str)), .d (.lst (x94.2.2.2.2.2.2.1.map aa.pd)), .d (.lst (x94.2.2.2.2.2.2.2.1.map aa.pd)), rI x94.2.2.2.2.2.2.2.2.1, rI x94.2.2.2.2.2.2.2.2.2.1, .d (.lst (x94.2.2.2.2.2.2.2.2.2.2.1.map ac.pd)), rI x94.2.2.2.2.2.2.2.2.2.2.2.1, rI x94.2.2.2.2.2.2.2.2.2.2.2.2.1, .d (.lst (x94.2.2.2.2.2.2.2.2.2.2.2.2.2.1.map ac.pd)), .ref 544 0, .d (.lst (x94.2.2.2.2.2.2.2.2.2.2.2.2.2.2.1.map ae.pd)), .d (.lst (x94.2.2.2.2.2.2.2.2.2.2.2.2.2.2.2.map ae.pd))]), (544, .arr 0 50 (o51.2.2.2.2.2.2.2.2.2.2.2.2.2.2.2.2.map aj.pd))] (ends_request_ev hx94)<|sN<|gS rfl rfl<|sM rfl<|sV (.ptr 608 0)<|sV (.ptr 608 0)<|sV (.agg [rI x94.1, rI x94.2.1, rI x94.2.2.1, rI x94.2.2.2.1, rI x94.2.2.2.2.1, .d (.lst (x94.2.2.2.2.2.1.map PD.str)), .d (.lst (x94.2.2.2.2.2.2.1.map aa.pd)), .d (.lst (x94.2.2.2.2.2.2.2.1.map aa.pd)), rI x94.2.2.2.2.2.2.2.2.1, rI x94.2.2.2.2.2.2.2.2.2.1, .d (.lst (x94.2.2.2.2.2.2.2.2.2.2.1.map ac.pd)), rI x94.2.2.2.2.2.2.2.2.2.2.2.1, rI x94.2.2.2.2.2.2.2.2.2.2.2.2.1, .d (.lst (x94.2.2.2.2.2.2.2.2.2.2.2.2.2.1.map ac.pd)), .ref 544 0])<|sH 96 (.var [rI x94.1, rI x94.2.1, rI x94.2.2.1, rI x94.2.2.2.1, rI x94.2.2.2.2.1, .d (.lst (x94.2.2.2.2.2.1.map PD.str)), .d (.lst (x94.2.2.2.2.2.2.1.map aa.pd)), .d (.lst (x94.2.2.2.2.2.2.2.1.map aa.pd)), rI x94.2.2.2.2.2.2.2.2.1, rI x94.2.2.2.2.2.2.2.2.2.1, .d (.lst (x94.2.2.2.2.2.2.2.2.2.2.1.map ac.pd)), rI x94.2.2.2.2.2.2.2.2.2.2.2.1, rI x94.2.2.2.2.2.2.2.2.2.2.2.2.1, .d (.lst (x94.2.2.2.2.2.2.2.2.2.2.2.2.2.1.map ac.pd)), .ref 544 0])<|sV (r0)<|sN ?_
  refine qR ?_
  cases oI h
  exact qG
 refine sN<|sO<|cF<|qK<|gS rfl rfl<|sM rfl<|sV (.ptr 608 0)<|sV (.ptr 608 0)<|sV (.agg [rI o91.1, rI o91.2.1, rI o91.2.2.1, rI o91.2.2.2.1, rI o91.2.2.2.2.1, .d (.lst (o91.2.2.2.2.2.1.map PD.str)), .d (.lst (o91.2.2.2.2.2.2.1.map aa.pd)), .d (.lst (o91.2.2.2.2.2.2.2.1.map aa.pd)), rI o91.2.2.2.2.2.2.2.2.1, rI o91.2.2.2.2.2.2.2.2.2.1, .d (.lst (o91.2.2.2.2.2.2.2.2.2.2.1.map ac.pd)), rI o91.2.2.2.2.2.2.2.2.2.2.2.1, rI o91.2.2.2.2.2.2.2.2.2.2.2.2.1, .d (.lst (o91.2.2.2.2.2.2.2.2.2.2.2.2.2.1.map ac.pd)), .ref 544 0])<|sH 96 (.var [rI o91.1, rI o91.2.1, rI o91.2.2.1, rI o91.2.2.2.1, rI o91.2.2.2.2.1, .d (.lst (o91.2.2.2.2.2.1.map PD.str)), .d (.lst (o91.2.2.2.2.2.2.1.map aa.pd)), .d (.lst (o91.2.2.2.2.2.2.2.1.map aa.pd)), rI o91.2.2.2.2.2.2.2.2.1, rI o91.2.2.2.2.2.2.2.2.2.1, .d (.lst (o91.2.2.2.2.2.2.2.2.2.2.1.map ac.pd)), rI o91.2.2.2.2.2.2.2.2.2.2.2.1, rI o91.2.2.2.2.2.2.2.2.2.2.2.2.1, .d (.lst (o91.2.2.2.2.2.2.2.2.2.2.2.2.2.1.map ac.pd)), .ref 544 0])<|sV (r0)<|sN<|qR ?_
 cases oI h
 exact qG
theorem fG {a0 : ag} {a1 : Int} {r : ag × Int} (h : d9 a0 a1 = some r) : EvP prog al ext 16 [.d (ag.pd a0), rI a1] [] (.tup [.d (ag.pd r.1), rI r.2], []) := by
 refine Ev.body rfl Tryz.func16 rfl (by kernel_rfl)<|gS rfl rfl<|sB (.ptr 32 0) 32 (.var (ag.rc a0))<|sB (.ptr 64 0) 64 (.var zZ0)<|sV (r0)<|sN<|qS<|gS rfl rfl<|sM rfl<|bE h fun x1 hx1 h => cD (a7 hx1)<|sF h (fun h => ?_) fun h => ?_
 ·refine sN<|cT<|gS rfl rfl<|sG (.agg zZ0)<|sH 64 (.var zZ0)<|sV (rI 2)<|sN<|qR ?_
  cases oI h
  exact qG
 refine sN<|cF<|qK<|qS<|gS rfl rfl<|sV (.d (ag.pd a0))<|bE h fun x3 hx3 h => cD (dc hx3)<|sF h (fun h => ?_) fun h => ?_
 ·refine sN<|cT<|gS rfl rfl<|sG (.agg zZ0)<|sH 64 (.var zZ0)<|sV (rI 1)<|sN<|qR ?_
  cases oI h
  exact qG
 refine sN<|cF<|qK<|gS rfl rfl<|sV (r0)<|sN<|qS<|gS rfl rfl<|sV (.d (ag.pd a0))<|bE h fun x5 hx5 h => cR (.agg [rI x5.az, rI x5.aD, rI x5.aJ, rI x5.ar.aG, rI x5.ar.aw, .d (.lst (x5.ar.aC.map PD.str)), .d (.lst (x5.ap.aK.map aa.pd)), .d (.lst (x5.ap.aF.map aa.pd)), rI x5.aB.az, rI x5.aB.aq, .d (.lst (x5.aB.av.map ac.pd)), rI x5.fUp.az, rI x5.fUp.aq, .d (.lst (x5.fUp.av.map ac.pd)), .ref 256 0]) [(256, .arr 0 50 (x5.au.map aj.pd))] (fI hx5)<|sH 32 (.var [rI x5.az, rI x5.aD, rI x5.aJ, rI x5.ar.aG, rI x5.ar.aw, .d (.lst (x5.ar.aC.map PD.str)), .d (.lst (x5.ap.aK.map aa.pd)), .d (.lst (x5.ap.aF.map aa.pd)), rI x5.aB.az, rI x5.aB.aq, .d (.lst (x5.aB.av.map ac.pd)), rI x5.fUp.az, rI x5.fUp.aq, .d (.lst (x5.fUp.av.map ac.pd)), .ref 256 0])<|sN<|bE h fun o60 ho60 h => WC.block (WC.loop (WL.ofLoop ho60 (fun s R' B' => ghosts prog 0 (A R' B') (al.at_ 16 0 7) = some (A [(1, rI s.1), (2, .ptr 32 0), (4, .ptr 64 0), (6, rI s.2.1)] [(32, .var [rI s.2.2.1, rI s.2.2.2.1, rI s.2.2.2.2.1, rI s.2.2.2.2.2.1, rI s.2.2.2.2.2.2.1, .d (.lst (s.2.2.2.2.2.2.2.1.map PD.str)), .d (.lst (s.2.2.2.2.2.2.2.2.1.map aa.pd)), .d (.lst (s.2.2.2.2.2.2.2.2.2.1.map aa.pd)), rI s.2.2.2.2.2.2.2.2.2.2.1, rI s.2.2.2.2.2.2.2.2.2.2.2.1, .d (.lst (s.2.2.2.2.2.2.2.2.2.2.2.2.1.map ac.pd)), rI s.2.2.2.2.2.2.2.2.2.2.2.2.2.1, rI s.2.2.2.2.2.2.2.2.2.2.2.2.2.2.1, .d (.lst (s.2.2.2.2.2.2.2.2.2.2.2.2.2.2.2.1.map ac.pd)), .d (.lst (s.2.2.2.2.2.2.2.2.2.2.2.2.2.2.2.2.map aj.pd))]), (64, .var zZ0)])) (fun o e R' B' => e = .exit 0 ∧ ghosts prog 0 (A R' B') (al.at_ 16 0 10) = some (A [(2, .ptr 32 0), (4, .ptr 64 0), (6, rI o.1)] [(32, .var [rI o.2.1, rI o.2.2.1, rI o.2.2.2.1, rI o.2.2.2.2.1, rI o.2.2.2.2.2.1, .d (.lst (o.2.2.2.2.2.2.1.map PD.str)), .d (.lst (o.2.2.2.2.2.2.2.1.map aa.pd)), .d (.lst (o.2.2.2.2.2.2.2.2.1.map aa.pd)), rI o.2.2.2.2.2.2.2.2.2.1, rI o.2.2.2.2.2.2.2.2.2.2.1, .d (.lst (o.2.2.2.2.2.2.2.2.2.2.2.1.map ac.pd)), rI o.2.2.2.2.2.2.2.2.2.2.2.2.1, rI o.2.2.2.2.2.2.2.2.2.2.2.2.2.1, .d (.lst (o.2.2.2.2.2.2.2.2.2.2.2.2.2.2.1.map ac.pd)), .d (.lst (o.2.2.2.2.2.2.2.2.2.2.2.2.2.2.2.map aj.pd))]), (64, .var zZ0)])) rfl ?_ ?_))
 ·rintro ⟨s22, s23, s24, s25, s26, s27, s28, s29, s30, s31, s32, s33, s34, s35, s36, s37, s38⟩ R' B' q55 hI h
  refine qS<|gS rfl hI<|sM rfl<|sF h (fun h => ?_) fun h => ?_
  ·refine sM rfl<|sM rfl<|sV (rB (s23 == (0 : Int)))<|sF h (fun h => ?_) fun h => ?_
   ·refine sN<|cT<|qK<|qS<|qB<|WC.region rfl rfl<|sV (.d (ag.pd (ag.mk s24 s25 s26 (ah.mk s27 s28 s29) (ai.mk s30 s31) (ak.mk s32 s33 s34) (ak.mk s35 s36 s37) s38)))<|bE h fun x58 hx58 h => cR (.tup [.d (ag.pd x58.1), rI x58.2]) [] (ke hx58)<|sM rfl<|sV (.d (ag.pd x58.1))<|sV (rI x58.2)<|sH 32 (.var (ag.rc x58.1))<|sA rfl<|sN ?_
    refine WC.region rfl rfl<|sM rfl<|sV (rI (rW (s22 - (1 : Int))))<|sA rfl<|sN ?_
    cases oI h
    exact ⟨rfl, rfl⟩
   refine sN<|cF<|qX ?_
   cases oI h
   exact ⟨nofun, rfl, rfl⟩
  refine sM rfl<|sK<|sK<|sU<|sN<|cF<|qX ?_
  cases oI h
  exact ⟨nofun, rfl, rfl⟩
 intro e R' B' he hq
 obtain ⟨rfl, hI⟩ := hq
 refine qE<|gS rfl hI<|sV (.d (ag.pd (ag.mk o60.2.1 o60.2.2.1 o60.2.2.2.1 (ah.mk o60.2.2.2.2.1 o60.2.2.2.2.2.1 o60.2.2.2.2.2.2.1) (ai.mk o60.2.2.2.2.2.2.2.1 o60.2.2.2.2.2.2.2.2.1) (ak.mk o60.2.2.2.2.2.2.2.2.2.1 o60.2.2.2.2.2.2.2.2.2.2.1 o60.2.2.2.2.2.2.2.2.2.2.2.1) (ak.mk o60.2.2.2.2.2.2.2.2.2.2.2.2.1 o60.2.2.2.2.2.2.2.2.2.2.2.2.2.1 o60.2.2.2.2.2.2.2.2.2.2.2.2.2.2.1) o60.2.2.2.2.2.2.2.2.2.2.2.2.2.2.2)))<|sM rfl<|sH 64 (.var [rI o60.2.1, rI o60.2.2.1, rI o60.2.2.2.1, rI o60.2.2.2.2.1, rI o60.2.2.2.2.2.1, .d (.lst (o60.2.2.2.2.2.2.1.map PD.str)), .d (.lst (o60.2.2.2.2.2.2.2.1.map aa.pd)), .d (.lst (o60.2.2.2.2.2.2.2.2.1.map aa.pd)), rI o60.2.2.2.2.2.2.2.2.2.1, rI o60.2.2.2.2.2.2.2.2.2.2.1, .d (.lst (o60.2.2.2.2.2.2.2.2.2.2.2.1.map ac.pd)), rI o60.2.2.2.2.2.2.2.2.2.2.2.2.1, rI o60.2.2.2.2.2.2.2.2.2.2.2.2.2.1, .d (.lst (o60.2.2.2.2.2.2.2.2.2.2.2.2.2.2.1.map ac.pd)), .d (.lst (o60.2.2.2.2.2.2.2.2.2.2.2.2.2.2.2.map aj.pd))])<|sA rfl<|sN<|qR ?_
 cases oI h
 exact qG
theorem c8 {a0 : ag} {r : Bool} (h : br a0 = some r) : EvP prog al ext 14 [.d (ag.pd a0)] [] (rB r, []) := by
 refine Ev.body rfl Tryz.func14 rfl (by kernel_rfl)<|gS rfl rfl<|sB (.ptr 16 0) 16 (.var (ag.rc a0))<|sU<|sN<|WC.regionDSeq rfl rfl<|sV (.ptr 16 6)<|sV (.d (ai.pd a0.ap))<|sV (.ptr 16 3)<|sV (.d (ah.pd a0.ar))<|bE h fun x1 hx1 h => cD (bU hx1)<|bE h fun x2 hx2 h => cR (.tup [.d (.lst (x2.1.map aa.pd)), rI x2.2]) [] (ia hx2)<|sM rfl ?_
 refine sV (.d (.lst (x2.1.map aa.pd)))<|sV (rI x2.2)<|sA rfl<|sA rfl ?_
 refine sN<|sO<|gS rfl rfl<|sV (.d (ag.pd a0))<|bE h fun x3 hx3 h => ite_elim h (fun hb4 h => ?_) (fun hb4 h => ?_)
 ·refine WO.callR (v := rB true) (u := []) rfl rfl (fun _ => rfl) rfl rfl rfl rfl rfl (dc hx3) rfl rfl (congrArg (fun b => RV.d (.bool b)) hb4) rfl<|sM rfl<|sM rfl<|sV (rB (x2.2 == (0 : Int)))<|sF h (fun h => ?_) fun h => ?_
  ·refine sM rfl<|sM rfl<|sE (rI (x2.1.length : Int)) (lenMap _ _)<|sV (rB ((x2.1.length : Int) == (0 : Int)))<|sV (rB ((x2.1.length : Int) == (0 : Int)))<|sA rfl<|sN<|qR ?_
   cases oI h
   exact qG
  refine sM rfl<|k3<|sU<|sA rfl<|sN<|qR ?_
  cases oI h
  exact qG
 refine WO.callR (v := rB false) (u := []) rfl rfl (fun _ => rfl) rfl rfl rfl rfl rfl (dc hx3) rfl rfl (congrArg (fun b => RV.d (.bool b)) hb4) rfl<|sM rfl<|sK<|sK<|sU<|sM rfl<|k3<|sU<|sA rfl<|sN<|qR ?_
 cases oI h
 exact qG
theorem cQ  {r : Bool} (h : cp = some r) : EvP prog al ext 7 [] [] (rB r, []) := by
 refine Ev.body rfl Tryz.func7 rfl (by kernel_rfl)<|gS rfl rfl<|sU<|sN<|gS rfl rfl<|bE h fun x1 hx1 h => cR (.tup [.d (ag.pd x1.1), rI x1.2]) [] (iF hx1)<|sM rfl<|sV (.d (ag.pd x1.1))<|sV (rI x1.2)<|sB (.ptr 16 0) 16 (.var zZ0)<|sH 16 (.var (ag.rc x1.1))<|sA rfl<|sN<|qS ?_
 refine gS rfl rfl<|sV (r0)<|sN<|bE h fun o41 ho41 h => WC.block (WC.loop (WL.ofLoop ho41 (fun s R' B' => ghosts prog 0 (A R' B') (al.at_ 7 0 3) = some (A [(1, .ptr 16 0), (2, rI s.1), (3, rI s.2.1)] [(16, .var [rI s.2.2.1, rI s.2.2.2.1, rI s.2.2.2.2.1, rI s.2.2.2.2.2.1, rI s.2.2.2.2.2.2.1, .d (.lst (s.2.2.2.2.2.2.2.1.map PD.str)), .d (.lst (s.2.2.2.2.2.2.2.2.1.map aa.pd)), .d (.lst (s.2.2.2.2.2.2.2.2.2.1.map aa.pd)), rI s.2.2.2.2.2.2.2.2.2.2.1, rI s.2.2.2.2.2.2.2.2.2.2.2.1, .d (.lst (s.2.2.2.2.2.2.2.2.2.2.2.2.1.map ac.pd)), rI s.2.2.2.2.2.2.2.2.2.2.2.2.2.1, rI s.2.2.2.2.2.2.2.2.2.2.2.2.2.2.1, .d (.lst (s.2.2.2.2.2.2.2.2.2.2.2.2.2.2.2.1.map ac.pd)), .d (.lst (s.2.2.2.2.2.2.2.2.2.2.2.2.2.2.2.2.map aj.pd))])])) (fun o e R' B' => e = .exit 0 ∧ ghosts prog 0 (A R' B') (al.at_ 7 0 6) = some (A [(1, .ptr 16 0), (2, rI o.1)] [(16, .var [rI o.2.1, rI o.2.2.1, rI o.2.2.2.1, rI o.2.2.2.2.1, rI o.2.2.2.2.2.1, .d (.lst (o.2.2.2.2.2.2.1.map PD.str)), .d (.lst (o.2.2.2.2.2.2.2.1.map aa.pd)), .d (.lst (o.2.2.2.2.2.2.2.2.1.map aa.pd)), rI o.2.2.2.2.2.2.2.2.2.1, rI o.2.2.2.2.2.2.2.2.2.2.1, .d (.lst (o.2.2.2.2.2.2.2.2.2.2.2.1.map ac.pd)), rI o.2.2.2.2.2.2.2.2.2.2.2.2.1, rI o.2.2.2.2.2.2.2.2.2.2.2.2.2.1, .d (.lst (o.2.2.2.2.2.2.2.2.2.2.2.2.2.2.1.map ac.pd)), .d (.lst (o.2.2.2.2.2.2.2.2.2.2.2.2.2.2.2.map aj.pd))])])) rfl ?_ ?_))
 ·rintro ⟨s2, s3, s4, s5, s6, s7, s8, s9, s10, s11, s12, s13, s14, s15, s16, s17, s18⟩ R' B' q35 hI h
  refine qS<|gS rfl hI<|sM rfl<|sF h (fun h => ?_) fun h => ?_
  ·refine sM rfl<|sM rfl<|sV (rB (s2 == (0 : Int)))<|sF h (fun h => ?_) fun h => ?_
   ·refine sN<|cT<|qK<|qS<|qB<|WC.regionD rfl rfl<|sV (.d (ag.pd (ag.mk s4 s5 s6 (ah.mk s7 s8 s9) (ai.mk s10 s11) (ak.mk s12 s13 s14) (ak.mk s15 s16 s17) s18)))<|sV (.d (.lst ([[97], [98], [99]].map PD.str)))<|sM rfl<|bE h fun x38 hx38 h => eG hx38 rfl<|sC rfl<|sM rfl<|sV (rB (decide (s3 > (0 : Int))))<|sV (.d (ae.pd (ae.mk (decide (s3 > (0 : Int))) 0 0))) ?_
    refine bE h fun x39 hx39 h => cR (.tup [.d (ag.pd x39.1), rI x39.2.1, rI x39.2.2]) [] (eI hx39)<|sM rfl<|sV (.d (ag.pd x39.1))<|sV (rI x39.2.1)<|sV (rI x39.2.2)<|sH 16 (.var (ag.rc x39.1))<|sA rfl ?_
    refine sN<|sO<|WC.region rfl rfl<|sM rfl<|sV (rI (rW (s3 + (1 : Int))))<|sA rfl<|sN ?_
    cases oI h
    exact ⟨rfl, rfl⟩
   refine sN<|cF<|qX ?_
   cases oI h
   exact ⟨nofun, rfl, rfl⟩
  refine sM rfl<|sK<|sK<|sU<|sN<|cF<|qX ?_
  cases oI h
  exact ⟨nofun, rfl, rfl⟩
 intro e R' B' he hq
 obtain ⟨rfl, hI⟩ := hq
 refine qE<|qS<|gS rfl hI<|sM rfl<|sF h (fun h => ?_) fun h => ?_
 ·refine sN<|cT<|gS rfl rfl<|sU<|sN<|qR ?_
  cases oI h
  exact qG
 refine sN<|cF<|qK<|gS rfl rfl<|sV (.d (ag.pd (ag.mk o41.2.1 o41.2.2.1 o41.2.2.2.1 (ah.mk o41.2.2.2.2.1 o41.2.2.2.2.2.1 o41.2.2.2.2.2.2.1) (ai.mk o41.2.2.2.2.2.2.2.1 o41.2.2.2.2.2.2.2.2.1) (ak.mk o41.2.2.2.2.2.2.2.2.2.1 o41.2.2.2.2.2.2.2.2.2.2.1 o41.2.2.2.2.2.2.2.2.2.2.2.1) (ak.mk o41.2.2.2.2.2.2.2.2.2.2.2.2.1 o41.2.2.2.2.2.2.2.2.2.2.2.2.2.1 o41.2.2.2.2.2.2.2.2.2.2.2.2.2.2.1) o41.2.2.2.2.2.2.2.2.2.2.2.2.2.2.2)))<|bE h fun x43 hx43 h => cR (.tup [.d (ag.pd x43.1), rI x43.2]) [] (fG hx43)<|sM rfl<|sV (.d (ag.pd x43.1))<|sV (rI x43.2)<|sB (.ptr 64 0) 64 (.var zZ0)<|sH 64 (.var (ag.rc x43.1))<|sA rfl<|sN<|gS rfl rfl ?_
 refine sV (.d (.agg [.int .i64 x43.1.az, .int .i64 x43.1.aD, .int .i64 x43.1.aJ, .int .i64 x43.1.ar.aG, .int .i64 x43.1.ar.aw, .lst (x43.1.ar.aC.map PD.str), .lst (x43.1.ap.aK.map aa.pd), .lst (x43.1.ap.aF.map aa.pd), .int .i64 x43.1.aB.az, .int .i64 x43.1.aB.aq, .lst (x43.1.aB.av.map ac.pd), .int .i64 x43.1.fUp.az, .int .i64 x43.1.fUp.aq, .lst (x43.1.fUp.av.map ac.pd), .lst (x43.1.au.map aj.pd)]))<|bE h fun x44 hx44 h => cR (.tup [.d (ag.pd x44.1), rI x44.2]) [] (fG hx44)<|sM rfl<|sV (.d (ag.pd x44.1))<|sV (rI x44.2)<|sB (.ptr 96 0) 96 (.var zZ0)<|sH 96 (.var (ag.rc x44.1))<|sA rfl<|sN<|gS rfl rfl<|sM rfl<|sF h (fun h => ?_) fun h => ?_
 ·refine sM rfl<|sM rfl<|sV (rB (x44.2 == (0 : Int)))<|sF h (fun h => ?_) fun h => ?_
  ·refine sM rfl<|sV (.ptr 64 14)<|sL rfl<|sE (rI (x43.1.au.length : Int)) (lenMap _ _)<|sV (rB ((x43.1.au.length : Int) == (1 : Int)))<|sF h (fun h => ?_) fun h => ?_
   ·refine sM rfl<|sV (.d (.agg [.int .i64 x43.1.az, .int .i64 x43.1.aD, .int .i64 x43.1.aJ, .int .i64 x43.1.ar.aG, .int .i64 x43.1.ar.aw, .lst (x43.1.ar.aC.map PD.str), .lst (x43.1.ap.aK.map aa.pd), .lst (x43.1.ap.aF.map aa.pd), .int .i64 x43.1.aB.az, .int .i64 x43.1.aB.aq, .lst (x43.1.aB.av.map ac.pd), .int .i64 x43.1.fUp.az, .int .i64 x43.1.fUp.aq, .lst (x43.1.fUp.av.map ac.pd), .lst (x43.1.au.map aj.pd)]))<|bE h fun x48 hx48 h => cD (c8 hx48)<|sV (rB (!x48))<|sF h (fun h => ?_) fun h => ?_
    ·refine sM rfl<|sV (.d (.agg [.int .i64 x44.1.az, .int .i64 x44.1.aD, .int .i64 x44.1.aJ, .int .i64 x44.1.ar.aG, .int .i64 x44.1.ar.aw, .lst (x44.1.ar.aC.map PD.str), .lst (x44.1.ap.aK.map aa.pd), .lst (x44.1.ap.aF.map aa.pd), .int .i64 x44.1.aB.az, .int .i64 x44.1.aB.aq, .lst (x44.1.aB.av.map ac.pd), .int .i64 x44.1.fUp.az, .int .i64 x44.1.fUp.aq, .lst (x44.1.fUp.av.map ac.pd), .lst (x44.1.au.map aj.pd)]))<|bE h fun x50 hx50 h => cD (c8 hx50)<|sF h (fun h => ?_) fun h => ?_
     ·refine sM rfl<|sV (.ptr 96 14)<|sL rfl<|sE (rI (x44.1.au.length : Int)) (lenMap _ _)<|sV (rB ((x44.1.au.length : Int) == (3 : Int)))<|sV (rB ((x44.1.au.length : Int) == (3 : Int)))<|sA rfl<|sN<|qR ?_
      cases oI h
      exact qG
     refine sM rfl<|k3<|sK<|sU<|sA rfl<|sN<|qR ?_
     cases oI h
     exact qG
    refine sM rfl<|sK<|sK<|sU<|sM rfl<|k3<|sK<|sU<|sA rfl<|sN<|qR ?_
    cases oI h
    exact qG
   refine sM rfl<|k3<|sU<|sM rfl<|sK<|sK<|sU<|sM rfl<|k3<|sK<|sU ?_
   refine sA rfl<|sN<|qR ?_
   cases oI h
   exact qG
  refine sM rfl<|k3<|sK<|sU<|sM rfl<|k3<|sU<|sM rfl<|sK<|sK<|sU ?_
  refine sM rfl<|k3<|sK<|sU<|sA rfl<|sN<|qR ?_
  cases oI h
  exact qG
 refine sM rfl<|sK<|sK<|sU<|sM rfl<|k3<|sK<|sU<|sM rfl<|k3<|sU ?_
 refine sM rfl<|sK<|sK<|sU<|sM rfl<|k3<|sK<|sU<|sA rfl<|sN<|qR ?_
 cases oI h
 exact qG
theorem ld {a0 : (List Int)} {r : Bool} (h : jQ a0 = some r) : EvP prog al ext 6 [.d (.lst (a0.map (PD.int .i64)))] [] (rB r, []) := by
 refine Ev.body rfl Tryz.func6 rfl (by kernel_rfl)<|gS rfl rfl<|sU<|sN<|gS rfl rfl<|sM rfl<|sE (rI (a0.length : Int)) (lenMap _ _)<|sV (rB (decide ((a0.length : Int) ≤ (500 : Int))))<|sA rfl<|sN<|qR ?_
 cases oI h
 exact qD
theorem lP {a0 : (List Int)} {r : am} (h : kO a0 = some r) : EvP prog al ext 8 [.d (.lst (a0.map (PD.int .i64)))] [] (.ptr 0 0, [.var [.d (.lst (r.fL.map (PD.int .i64))), rI r.fAt]]) := by
 refine Ev.body rfl Tryz.func8 rfl (by kernel_rfl)<|gS rfl rfl<|sV (.d (.raw (.pointer none)))<|sN<|gS rfl rfl<|sM rfl<|sV (.d (am.pd (am.mk a0 0)))<|sB (.ptr 80 0) 80 (.var [.d (.lst (a0.map (PD.int .i64))), r0])<|sA rfl<|sN<|qR ?_
 cases oI h
 exact qD
theorem aU {a1 : Int} {d0 : am} {r : Int × am} (h : bc a1 d0 = some r) : EvP prog al ext 11 [.ptr 0 0, rI a1] [.var [.d (.lst (d0.fL.map (PD.int .i64))), rI d0.fAt]] (rI r.1, [.var [.d (.lst (r.2.fL.map (PD.int .i64))), rI r.2.fAt]]) := by
 refine Ev.body rfl Tryz.func11 rfl (by kernel_rfl)<|gS rfl rfl<|sV (r0)<|sN<|qS<|WC.regionDSeq rfl rfl<|sM rfl<|sV (.ptr 0 0)<|sV (.ptr 0 1)<|sL rfl<|sM rfl<|sV (.ptr 0 0)<|sV (.ptr 0 0)<|sL rfl<|sE (rI (d0.fL.length : Int)) (lenMap _ _) ?_
 refine sF h (fun h => ?_) fun h => ?_
 ·refine sM rfl<|sK<|sK<|sT ?_
  refine sN<|sO<|cT<|gS rfl rfl<|sV (r0)<|sN<|qR ?_
  cases oI h
  exact qD
 refine sM rfl<|sM rfl<|sV (rB (decide (a1 < (1 : Int))))<|sF h (fun h => ?_) fun h => ?_
 ·refine sN<|sO<|cT<|gS rfl rfl<|sV (r0)<|sN<|qR ?_
  cases oI h
  exact qD
 refine sN<|sO<|cF<|qK<|WC.regionDSeq rfl rfl<|sM rfl<|sV (.ptr 0 0)<|sV (.ptr 0 0)<|sL rfl<|sM rfl<|sV (.ptr 0 0)<|sV (.ptr 0 1)<|sL rfl<|bE h fun x3 hx3 h => eG hx3 rfl<|sC rfl ?_
 refine sM rfl<|bE h fun x4 hx4 h => WO.remG hx4 rfl rfl rfl rfl rfl rfl<|sA rfl ?_
 refine sN<|sO<|gS rfl rfl<|sM rfl<|sV (.ptr 0 0)<|sV (.ptr 0 1)<|sL rfl<|sV (rI (rW (d0.fAt + (1 : Int))))<|sV (.ptr 0 0)<|sV (.ptr 0 1)<|sS 0 (.var [.d (.lst (d0.fL.map (PD.int .i64))), rI (rW (d0.fAt + (1 : Int)))])<|sN<|qS<|gS rfl rfl<|sM rfl<|sF h (fun h => ?_) fun h => ?_
 ·refine sN<|cT<|WC.region rfl rfl<|sM rfl<|sM rfl<|sV (rI (rW (x4 + a1)))<|sA rfl<|sN<|gS rfl rfl<|sM rfl<|sA rfl<|sN<|qR ?_
  cases oI h
  exact qD
 refine sN<|cF<|qK<|gS rfl rfl<|sM rfl<|sA rfl<|sN<|qR ?_
 cases oI h
 exact qD
theorem jF {a1 : (List Int)} {d0 : am} {r : Int × am} (h : ir a1 d0 = some r) : EvP prog al ext 10 [.ptr 0 0, .d (.lst (a1.map (PD.int .i64)))] [.var [.d (.lst (d0.fL.map (PD.int .i64))), rI d0.fAt]] (rI r.1, [.var [.d (.lst (r.2.fL.map (PD.int .i64))), rI r.2.fAt]]) := by
 refine Ev.body rfl Tryz.func10 rfl (by kernel_rfl)<|gS rfl rfl<|sV (r0)<|sN<|gS rfl rfl<|sM rfl<|sM rfl<|sM rfl<|sE (rI (a1.length : Int)) (lenMap _ _)<|bE h fun x1 hx1 h => cR (rI x1.1) [(0, .var [.d (.lst (x1.2.fL.map (PD.int .i64))), rI x1.2.fAt])] (aU hx1)<|bE h fun x2 hx2 h => eG hx2 rfl<|sC rfl<|sA rfl ?_
 refine sN<|qR ?_
 cases oI h
 exact qD
theorem eC {a0 : ah} {r : Int} (h : dZ a0 = some r) : EvP prog al ext 15 [.d (ah.pd a0)] [] (rI r, []) := by
 refine Ev.body rfl Tryz.func15 rfl (by kernel_rfl)<|gS rfl rfl<|sB (.ptr 16 0) 16 (.var [rI a0.aG, rI a0.aw, .d (.lst (a0.aC.map PD.str))])<|sV (r0)<|sN<|gS rfl rfl<|sV (.ptr 16 1)<|sL rfl<|sV (.ptr 16 2)<|sL rfl<|sE (rI (a0.aC.length : Int)) (lenMap _ _)<|sV (rI (rW (a0.aw + (a0.aC.length : Int))))<|sA rfl<|sN<|qR ?_
 cases oI h
 exact qD
theorem jL {a0 : (List Int)} {r : Bool} (h : er a0 = some r) : EvP prog al ext 3 [.d (.lst (a0.map (PD.int .i64)))] [] (rB r, []) := by
 refine Ev.body rfl Tryz.func3 rfl (by kernel_rfl)<|gS rfl rfl<|sU<|sN<|qS<|gS rfl rfl<|sM rfl<|bE h fun x1 hx1 h => cD (ld hx1)<|sF h (fun h => ?_) fun h => ?_
 ·refine sN<|cT<|gS rfl rfl<|bE h fun x3 hx3 h => cD (cQ hx3)<|sA rfl<|sN<|qR ?_
  cases oI h
  exact qD
 refine sN<|cF<|qK<|gS rfl rfl<|sM rfl<|bE h fun x4 hx4 h => cR (.ptr 352 0) [(352, .var [.d (.lst (x4.fL.map (PD.int .i64))), rI x4.fAt])] (lP hx4)<|sA rfl<|sN<|gS rfl rfl<|sM rfl<|sV (.d (.lst ([1, 2, 5].map (PD.int .i64))))<|bE h fun x5 hx5 h => cR (rI x5.1) [(352, .var [.d (.lst (x5.2.fL.map (PD.int .i64))), rI x5.2.fAt])] (jF hx5)<|sM rfl ?_
 refine sV (.d (.lst ([1, 2, 3].map (PD.int .i64))))<|bE h fun x6 hx6 h => cR (rI x6.1) [(352, .var [.d (.lst (x6.2.fL.map (PD.int .i64))), rI x6.2.fAt])] (jF hx6)<|bE h fun x7 hx7 h => cR (.tup [.d (ag.pd x7.1), rI x7.2]) [] (iF hx7)<|sM rfl<|sV (.d (ag.pd x7.1))<|sV (rI x7.2)<|sB (.ptr 64 0) 64 (.var zZ0)<|sH 64 (.var (ag.rc x7.1))<|sA rfl<|sN<|qS<|gS rfl rfl<|sM rfl ?_
 refine sF h (fun h => ?_) fun h => ?_
 ·refine sN<|cT<|gS rfl rfl<|sU<|sN<|qR ?_
  cases oI h
  exact qG
 refine sN<|cF<|qK<|gS rfl rfl<|sV (r0)<|sN<|qS<|gS rfl rfl<|sV (r0)<|sN<|bE h fun o110 ho110 h => WC.block (WC.loop (WL.ofLoop ho110 (fun s R' B' => ghosts prog 0 (A R' B') (al.at_ 3 0 9) = some (A [(3, .ptr 352 0), (4, .ptr 64 0), (6, rI s.1), (7, rI s.2.1)] [(64, .var [rI s.2.2.2.2.1, rI s.2.2.2.2.2.1, rI s.2.2.2.2.2.2.1, rI s.2.2.2.2.2.2.2.1, rI s.2.2.2.2.2.2.2.2.1, .d (.lst (s.2.2.2.2.2.2.2.2.2.1.map PD.str)), .d (.lst (s.2.2.2.2.2.2.2.2.2.2.1.map aa.pd)), .d (.lst (s.2.2.2.2.2.2.2.2.2.2.2.1.map aa.pd)), rI s.2.2.2.2.2.2.2.2.2.2.2.2.1, rI s.2.2.2.2.2.2.2.2.2.2.2.2.2.1, .d (.lst (s.2.2.2.2.2.2.2.2.2.2.2.2.2.2.1.map ac.pd)), rI s.2.2.2.2.2.2.2.2.2.2.2.2.2.2.2.1, rI s.2.2.2.2.2.2.2.2.2.2.2.2.2.2.2.2.1, .d (.lst (s.2.2.2.2.2.2.2.2.2.2.2.2.2.2.2.2.2.1.map ac.pd)), .d (.lst (s.2.2.2.2.2.2.2.2.2.2.2.2.2.2.2.2.2.2.map aj.pd))]), (352, .var [.d (.lst (s.2.2.1.map (PD.int .i64))), rI s.2.2.2.1])])) (fun o e R' B' => match o with | .inl y => e = .exit 0 ∧ ghosts prog 0 (A R' B') (al.at_ 3 0 29) = some (A [(4, .ptr 64 0), (6, rI y.1)] [(64, .var [rI y.2.1, rI y.2.2.1, rI y.2.2.2.1, rI y.2.2.2.2.1, rI y.2.2.2.2.2.1, .d (.lst (y.2.2.2.2.2.2.1.map PD.str)), .d (.lst (y.2.2.2.2.2.2.2.1.map aa.pd)), .d (.lst (y.2.2.2.2.2.2.2.2.1.map aa.pd)), rI y.2.2.2.2.2.2.2.2.2.1, rI y.2.2.2.2.2.2.2.2.2.2.1, .d (.lst (y.2.2.2.2.2.2.2.2.2.2.2.1.map ac.pd)), rI y.2.2.2.2.2.2.2.2.2.2.2.2.1, rI y.2.2.2.2.2.2.2.2.2.2.2.2.2.1, .d (.lst (y.2.2.2.2.2.2.2.2.2.2.2.2.2.2.1.map ac.pd)), .d (.lst (y.2.2.2.2.2.2.2.2.2.2.2.2.2.2.2.map aj.pd))])]) | .inr r => e = .ret ∧ finish prog (al.own 3) Tryz.f3 0 (A R' B') = some (rB r, [])) rfl ?_ ?_))
 ·rintro ⟨s9, s10, s11, s12, s13, s14, s15, s16, s17, s18, s19, s20, s21, s22, s23, s24, s25, s26, s27⟩ R' B' q44 hI h
  refine qS<|gS rfl hI<|sM rfl<|sF h (fun h => ?_) fun h => ?_
  ·refine sN<|cT<|qK<|qS<|qB<|gS rfl rfl<|sM rfl<|bE h fun x46 hx46 h => cR (rI x46.1) [(352, .var [.d (.lst (x46.2.fL.map (PD.int .i64))), rI x46.2.fAt])] (aU hx46)<|sA rfl<|sN<|qS<|gS rfl rfl<|sV (r0)<|sN ?_
   refine bE h fun o91 ho91 h => WC.block (WC.loop (WL.ofLoop ho91 (fun s R' B' => ghosts prog 0 (A R' B') (al.at_ 3 0 13) = some (A [(3, .ptr 352 0), (4, .ptr 64 0), (6, rI s9), (7, rI s10), (8, rI x46.1), (9, rI s.1)] [(64, .var [rI s.2.2.2.1, rI s.2.2.2.2.1, rI s.2.2.2.2.2.1, rI s.2.2.2.2.2.2.1, rI s.2.2.2.2.2.2.2.1, .d (.lst (s.2.2.2.2.2.2.2.2.1.map PD.str)), .d (.lst (s.2.2.2.2.2.2.2.2.2.1.map aa.pd)), .d (.lst (s.2.2.2.2.2.2.2.2.2.2.1.map aa.pd)), rI s.2.2.2.2.2.2.2.2.2.2.2.1, rI s.2.2.2.2.2.2.2.2.2.2.2.2.1, .d (.lst (s.2.2.2.2.2.2.2.2.2.2.2.2.2.1.map ac.pd)), rI s.2.2.2.2.2.2.2.2.2.2.2.2.2.2.1, rI s.2.2.2.2.2.2.2.2.2.2.2.2.2.2.2.1, .d (.lst (s.2.2.2.2.2.2.2.2.2.2.2.2.2.2.2.2.1.map ac.pd)), .d (.lst (s.2.2.2.2.2.2.2.2.2.2.2.2.2.2.2.2.2.map aj.pd))]), (352, .var [.d (.lst (s.2.1.map (PD.int .i64))), rI s.2.2.1])])) (fun o e R' B' => match o with | .inl y => e = .exit 2 ∧ ghosts prog 0 (A R' B') (al.at_ 3 0 19) = some (A [(3, .ptr 352 0), (4, .ptr 64 0), (6, rI y.1), (7, rI y.2.1), (8, rI x46.1)] [(64, .var [rI y.2.2.2.2.1, rI y.2.2.2.2.2.1, rI y.2.2.2.2.2.2.1, rI y.2.2.2.2.2.2.2.1, rI y.2.2.2.2.2.2.2.2.1, .d (.lst (y.2.2.2.2.2.2.2.2.2.1.map PD.str)), .d (.lst (y.2.2.2.2.2.2.2.2.2.2.1.map aa.pd)), .d (.lst (y.2.2.2.2.2.2.2.2.2.2.2.1.map aa.pd)), rI y.2.2.2.2.2.2.2.2.2.2.2.2.1, rI y.2.2.2.2.2.2.2.2.2.2.2.2.2.1, .d (.lst (y.2.2.2.2.2.2.2.2.2.2.2.2.2.2.1.map ac.pd)), rI y.2.2.2.2.2.2.2.2.2.2.2.2.2.2.2.1, rI y.2.2.2.2.2.2.2.2.2.2.2.2.2.2.2.2.1, .d (.lst (y.2.2.2.2.2.2.2.2.2.2.2.2.2.2.2.2.2.1.map ac.pd)), .d (.lst (y.2.2.2.2.2.2.2.2.2.2.2.2.2.2.2.2.2.2.map aj.pd))]), (352, .var [.d (.lst (y.2.2.1.map (PD.int .i64))), rI y.2.2.2.1])]) | .inr r => e = .ret ∧ finish prog (al.own 3) Tryz.f3 0 (A R' B') = some (rB r, [])) rfl ?_ ?_))
   ·rintro ⟨s47, s48, s49, s50, s51, s52, s53, s54, s55, s56, s57, s58, s59, s60, s61, s62, s63, s64⟩ R' B' q84 hI h
    refine qS<|gS rfl hI<|sM rfl<|sM rfl<|sF h (fun h => ?_) fun h => ?_
    ·refine sN<|cT<|qK<|qS<|qB<|WC.regionDSeq rfl rfl<|sV (.d (ag.pd (ag.mk s50 s51 s52 (ah.mk s53 s54 s55) (ai.mk s56 s57) (ak.mk s58 s59 s60) (ak.mk s61 s62 s63) s64)))<|sV (.d (.lst ([[97], [98]].map PD.str)))<|sM rfl<|bE h fun x86 hx86 h => cR (rI x86.1) [(352, .var [.d (.lst (x86.2.fL.map (PD.int .i64))), rI x86.2.fAt])] (aU hx86)<|bE h fun x87 hx87 h => eG hx87 rfl<|sC rfl<|sV (.d (ae.pd (ae.mk false 0 0))) ?_
     refine bE h fun x88 hx88 h => cR (.tup [.d (ag.pd x88.1), rI x88.2.1, rI x88.2.2]) [] (eI hx88)<|sM rfl<|sV (.d (ag.pd x88.1))<|sV (rI x88.2.1)<|sV (rI x88.2.2)<|sB (.ptr 160 0) 160 (.var zZ0)<|sH 160 (.var (ag.rc x88.1))<|sA rfl<|sA rfl ?_
     refine sN<|sO<|qS<|gS rfl rfl<|sM rfl<|sF h (fun h => ?_) fun h => ?_
     ·refine sN<|cT<|gS rfl rfl<|sU<|sN<|qR ?_
      cases oI h
      exact ⟨nofun, rfl, rfl⟩
     refine sN<|cF<|qK<|WC.region rfl rfl<|sV (.d (.agg [.int .i64 x88.1.az, .int .i64 x88.1.aD, .int .i64 x88.1.aJ, .int .i64 x88.1.ar.aG, .int .i64 x88.1.ar.aw, .lst (x88.1.ar.aC.map PD.str), .lst (x88.1.ap.aK.map aa.pd), .lst (x88.1.ap.aF.map aa.pd), .int .i64 x88.1.aB.az, .int .i64 x88.1.aB.aq, .lst (x88.1.aB.av.map ac.pd), .int .i64 x88.1.fUp.az, .int .i64 x88.1.fUp.aq, .lst (x88.1.fUp.av.map ac.pd), .lst (x88.1.au.map aj.pd)]))<|sH 64 (.var (ag.rc x88.1))<|sN<|WC.region rfl rfl<|sM rfl<|sV (rI (rW (s47 + (1 : Int))))<|sA rfl<|sN ?_
     cases oI h
     exact ⟨rfl, rfl⟩
    refine sN<|cF<|qX ?_
    cases oI h
    exact ⟨nofun, rfl, rfl⟩
   intro e R' B' he hq
   rcases o91 with y92 | r93
   ·obtain ⟨rfl, hI⟩ := hq
    refine qE<|gS rfl hI<|sV (.d (ag.pd (ag.mk y92.2.2.2.2.1 y92.2.2.2.2.2.1 y92.2.2.2.2.2.2.1 (ah.mk y92.2.2.2.2.2.2.2.1 y92.2.2.2.2.2.2.2.2.1 y92.2.2.2.2.2.2.2.2.2.1) (ai.mk y92.2.2.2.2.2.2.2.2.2.2.1 y92.2.2.2.2.2.2.2.2.2.2.2.1) (ak.mk y92.2.2.2.2.2.2.2.2.2.2.2.2.1 y92.2.2.2.2.2.2.2.2.2.2.2.2.2.1 y92.2.2.2.2.2.2.2.2.2.2.2.2.2.2.1) (ak.mk y92.2.2.2.2.2.2.2.2.2.2.2.2.2.2.2.1 y92.2.2.2.2.2.2.2.2.2.2.2.2.2.2.2.2.1 y92.2.2.2.2.2.2.2.2.2.2.2.2.2.2.2.2.2.1) y92.2.2.2.2.2.2.2.2.2.2.2.2.2.2.2.2.2.2)))<|bE h fun x94 hx94 h => cR (.tup [.d (ag.pd x94.1), rI x94.2]) [] (ke hx94)<|sM rfl<|sV (.d (ag.pd x94.1))<|sV (rI x94.2)<|sB (.ptr 208 0) 208 (.var zZ0)<|sH 208 (.var (ag.rc x94.1))<|sA rfl<|sN<|qS<|gS rfl rfl<|sM rfl ?_
    refine sF h (fun h => ?_) fun h => ?_
    ·refine sM rfl<|k3<|k3<|sK<|sT<|sM rfl<|k3<|sK<|sK ?_
     refine sT<|sM rfl<|k3<|sK<|sK<|sT<|sN<|cT<|gS rfl rfl<|sU<|sN<|qR ?_
     cases oI h
     exact ⟨nofun, rfl, rfl⟩
    refine sM rfl<|sV (.ptr 208 14)<|sL rfl<|sE (rI (x94.1.au.length : Int)) (lenMap _ _)<|sM rfl<|sM rfl<|sV (rI (rW (y92.1 + x46.1)))<|sV (rB ((x94.1.au.length : Int) != (rW (y92.1 + x46.1))))<|sF h (fun h => ?_) fun h => ?_
    ·refine sM rfl<|k3<|sK<|sK<|sT<|sM rfl<|k3<|sK<|sK<|sT<|sN ?_
     refine cT<|gS rfl rfl<|sU<|sN<|qR ?_
     cases oI h
     exact ⟨nofun, rfl, rfl⟩
    refine sM rfl<|sV (.ptr 208 11)<|sV (.ptr 208 13)<|sL rfl<|sE (rI (x94.1.fUp.av.length : Int)) (lenMap _ _)<|sV (rB ((x94.1.fUp.av.length : Int) != (0 : Int)))<|sF h (fun h => ?_) fun h => ?_
    ·refine sM rfl<|k3<|sK<|sK<|sT<|sN<|cT<|gS rfl rfl<|sU<|sN<|qR ?_
     cases oI h
     exact ⟨nofun, rfl, rfl⟩
    refine sM rfl<|sV (.ptr 208 6)<|sV (.ptr 208 7)<|sL rfl<|sE (rI (x94.1.ap.aF.length : Int)) (lenMap _ _)<|sV (rB ((x94.1.ap.aF.length : Int) != (0 : Int)))<|sF h (fun h => ?_) fun h => ?_
    ·refine sN<|cT<|gS rfl rfl<|sU<|sN<|qR ?_
     cases oI h
     exact ⟨nofun, rfl, rfl⟩
    refine sN<|cF<|qK<|qS<|gS rfl rfl<|sM rfl<|sA rfl<|sN<|bE h fun o106 ho106 h => WC.block (WC.loop (WL.ofLoop ho106 (fun s R' B' => ghosts prog 0 (A R' B') (al.at_ 3 0 23) = some (A [(3, .ptr 352 0), (4, .ptr 64 0), (6, rI y92.1), (7, rI y92.2.1), (8, rI x46.1), (13, .ptr 208 0), (15, rI s)] [(64, .var [rI y92.2.2.2.2.1, rI y92.2.2.2.2.2.1, rI y92.2.2.2.2.2.2.1, rI y92.2.2.2.2.2.2.2.1, rI y92.2.2.2.2.2.2.2.2.1, .d (.lst (y92.2.2.2.2.2.2.2.2.2.1.map PD.str)), .d (.lst (y92.2.2.2.2.2.2.2.2.2.2.1.map aa.pd)), .d (.lst (y92.2.2.2.2.2.2.2.2.2.2.2.1.map aa.pd)), rI y92.2.2.2.2.2.2.2.2.2.2.2.2.1, rI y92.2.2.2.2.2.2.2.2.2.2.2.2.2.1, .d (.lst (y92.2.2.2.2.2.2.2.2.2.2.2.2.2.2.1.map ac.pd)), rI y92.2.2.2.2.2.2.2.2.2.2.2.2.2.2.2.1, rI y92.2.2.2.2.2.2.2.2.2.2.2.2.2.2.2.2.1, .d (.lst (y92.2.2.2.2.2.2.2.2.2.2.2.2.2.2.2.2.2.1.map ac.pd)), .d (.lst (y92.2.2.2.2.2.2.2.2.2.2.2.2.2.2.2.2.2.2.map aj.pd))]), (208, .var (ag.rc x94.1)), (352, .var [.d (.lst (y92.2.2.1.map (PD.int .i64))), rI y92.2.2.2.1])])) (fun o e R' B' => match o with | .inl y => e = .exit 4 ∧ ghosts prog 0 (A R' B') (al.at_ 3 0 28) = some (A [(3, .ptr 352 0), (4, .ptr 64 0), (6, rI y92.1), (7, rI y92.2.1), (8, rI x46.1), (13, .ptr 208 0)] [(64, .var [rI y92.2.2.2.2.1, rI y92.2.2.2.2.2.1, rI y92.2.2.2.2.2.2.1, rI y92.2.2.2.2.2.2.2.1, rI y92.2.2.2.2.2.2.2.2.1, .d (.lst (y92.2.2.2.2.2.2.2.2.2.1.map PD.str)), .d (.lst (y92.2.2.2.2.2.2.2.2.2.2.1.map aa.pd)), .d (.lst (y92.2.2.2.2.2.2.2.2.2.2.2.1.map aa.pd)), rI y92.2.2.2.2.2.2.2.2.2.2.2.2.1, rI y92.2.2.2.2.2.2.2.2.2.2.2.2.2.1, .d (.lst (y92.2.2.2.2.2.2.2.2.2.2.2.2.2.2.1.map ac.pd)), rI y92.2.2.2.2.2.2.2.2.2.2.2.2.2.2.2.1, rI y92.2.2.2.2.2.2.2.2.2.2.2.2.2.2.2.2.1, .d (.lst (y92.2.2.2.2.2.2.2.2.2.2.2.2.2.2.2.2.2.1.map ac.pd)), .d (.lst (y92.2.2.2.2.2.2.2.2.2.2.2.2.2.2.2.2.2.2.map aj.pd))]), (208, .var (ag.rc x94.1)), (352, .var [.d (.lst (y92.2.2.1.map (PD.int .i64))), rI y92.2.2.2.1])]) | .inr r => e = .ret ∧ finish prog (al.own 3) Tryz.f3 0 (A R' B') = some (rB r, [])) rfl ?_ ?_))
    ·rintro s99 R' B' q100 hI h
     refine qS<|gS rfl hI<|sM rfl<|sM rfl<|sM rfl<|sV (rI (rW (y92.1 + x46.1)))<|sF h (fun h => ?_) fun h => ?_
     ·refine sN<|cT<|qK<|qS<|qB<|gS rfl rfl<|sV (.ptr 208 14)<|sL rfl<|sM rfl<|bE h fun x102 hx102 h => eG hx102 rfl<|sV (.d (aj.pd x102))<|sB (.ptr 256 0) 256 (.var [r0, r0, rS []])<|sS 256 (.var [rI x102.jK, rI x102.fAt, rS x102.aC])<|sN ?_
      refine gS rfl rfl<|sV (.ptr 256 0)<|sL rfl<|sM rfl<|sF h (fun h => ?_) fun h => ?_
      ·refine sM rfl<|k3<|sK<|sK<|sT<|sN<|cT<|gS rfl rfl<|sU<|sN<|qR ?_
       cases oI h
       exact ⟨nofun, rfl, rfl⟩
      refine sM rfl<|sV (.ptr 256 1)<|sL rfl<|sM rfl<|sV (rI (rW (y92.2.1 + (1 : Int))))<|sV (rB (x102.fAt != (rW (y92.2.1 + (1 : Int)))))<|sF h (fun h => ?_) fun h => ?_
      ·refine sN<|cT<|gS rfl rfl<|sU<|sN<|qR ?_
       cases oI h
       exact ⟨nofun, rfl, rfl⟩
      refine sN<|cF<|qK<|WC.region rfl rfl<|sM rfl<|sV (rI (rW (s99 + (1 : Int))))<|sA rfl<|sN ?_
      cases oI h
      exact ⟨rfl, rfl⟩
     refine sN<|cF<|qX ?_
     cases oI h
     exact ⟨nofun, rfl, rfl⟩
    intro e R' B' he hq
    rcases o106 with y107 | r108
    ·obtain ⟨rfl, hI⟩ := hq
     refine qE<|WC.region hI rfl<|sV (.d (.agg [.int .i64 x94.1.az, .int .i64 x94.1.aD, .int .i64 x94.1.aJ, .int .i64 x94.1.ar.aG, .int .i64 x94.1.ar.aw, .lst (x94.1.ar.aC.map PD.str), .lst (x94.1.ap.aK.map aa.pd), .lst (x94.1.ap.aF.map aa.pd), .int .i64 x94.1.aB.az, .int .i64 x94.1.aB.aq, .lst (x94.1.aB.av.map ac.pd), .int .i64 x94.1.fUp.az, .int .i64 x94.1.fUp.aq, .lst (x94.1.fUp.av.map ac.pd), .lst (x94.1.au.map aj.pd)]))<|sM rfl<|sM rfl<|sV (rI (rW (y92.1 + x46.1)))<|sH 64 (.var (ag.rc x94.1))<|sA rfl<|sN<|WC.region rfl rfl<|sM rfl<|sV (rI (rW (y92.2.1 + (1 : Int))))<|sA rfl<|sN ?_
     cases oI h
     exact ⟨rfl, rfl⟩
    obtain ⟨rfl, hf⟩ := hq
    cases oI h
    exact ⟨nofun, rfl, hf⟩
   obtain ⟨rfl, hf⟩ := hq
   cases oI h
   exact ⟨nofun, rfl, hf⟩
  refine sN<|cF<|qX ?_
  cases oI h
  exact ⟨nofun, rfl, rfl⟩
 intro e R' B' he hq
 rcases o110 with y111 | r112
 ·obtain ⟨rfl, hI⟩ := hq
  refine qE<|gS rfl hI<|sV (.d (ag.pd (ag.mk y111.2.1 y111.2.2.1 y111.2.2.2.1 (ah.mk y111.2.2.2.2.1 y111.2.2.2.2.2.1 y111.2.2.2.2.2.2.1) (ai.mk y111.2.2.2.2.2.2.2.1 y111.2.2.2.2.2.2.2.2.1) (ak.mk y111.2.2.2.2.2.2.2.2.2.1 y111.2.2.2.2.2.2.2.2.2.2.1 y111.2.2.2.2.2.2.2.2.2.2.2.1) (ak.mk y111.2.2.2.2.2.2.2.2.2.2.2.2.1 y111.2.2.2.2.2.2.2.2.2.2.2.2.2.1 y111.2.2.2.2.2.2.2.2.2.2.2.2.2.2.1) y111.2.2.2.2.2.2.2.2.2.2.2.2.2.2.2)))<|bE h fun x113 hx113 h => ite_elim h (fun hb114 h => ?_) (fun hb114 h => ?_)
  ·refine WO.callR (v := rB true) (u := []) rfl rfl (fun _ => rfl) rfl rfl rfl rfl rfl (c8 hx113) rfl rfl (congrArg (fun b => RV.d (.bool b)) hb114) rfl<|sM rfl<|sV (.ptr 64 3)<|sV (.d (ah.pd (ah.mk y111.2.2.2.2.1 y111.2.2.2.2.2.1 y111.2.2.2.2.2.2.1)))<|bE h fun x115 hx115 h => cD (eC hx115)<|sM rfl<|sV (rB (x115 == y111.1))<|sF h (fun h => ?_) fun h => ?_
   ·refine sM rfl<|bE h fun x117 hx117 h => cD (cQ hx117)<|sV (rB x117)<|sA rfl<|sN<|qR ?_
    cases oI h
    exact qG
   refine sM rfl<|sK<|sU<|sA rfl<|sN<|qR ?_
   cases oI h
   exact qG
  refine WO.callR (v := rB false) (u := []) rfl rfl (fun _ => rfl) rfl rfl rfl rfl rfl (c8 hx113) rfl rfl (congrArg (fun b => RV.d (.bool b)) hb114) rfl<|sM rfl<|k3<|sK<|sK<|sU<|sM rfl<|sK<|sU<|sA rfl<|sN<|qR ?_
  cases oI h
  exact qG
 obtain ⟨rfl, hf⟩ := hq
 cases oI h
 exact hf
end Go.Dw.Se
