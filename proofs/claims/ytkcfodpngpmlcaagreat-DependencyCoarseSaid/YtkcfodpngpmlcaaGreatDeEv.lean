
import Derived.Test.YtkcfodpngpmlcaaGreatDeEvC

set_option maxRecDepth 100000
set_option maxHeartbeats 4000000
namespace Go.Dw.De
open Go.Proofs Go.Proofs.Tryz Go.Dw
theorem yO {a0 : aG} {a1 : ae} {a2 : (List aa)} {r : (List (List aa)) × Int} (h : oO a0 a1 a2 = some r) : EvP prog av ext 33 [.d (aG.pd a0), .d (ae.pd a1), .d (.lst (a2.map aa.pd))] [] (.tup [.d (.lst (r.1.map (fun l => PD.lst (l.map aa.pd)))), rI r.2], []) := by
 refine Ev.body rfl Tryz.func33 rfl (by kernel_rfl)<|gS rfl rfl<|sB (.ptr 48 0) 48 (.var (aG.rc a0))<|sB (.ptr 64 0) 64 (.var [.d (.lst (a1.aq.map ac.pd))])<|sV .nils<|sV (r0)<|sN<|gS rfl rfl<|sV (.d (aG.pd a0))<|sV (.d (ae.pd a1))<|sM rfl<|bE h fun x1 hx1 h => cR (.tup [.d (.lst (x1.1.map aa.pd)), .d (.lst (x1.2.1.map ak.pd)), rI x1.2.2]) [] (event_usable_ev hx1)<|sM rfl<|sV (.d (.lst (x1.1.map aa.pd))) ?_
 refine sV (.d (.lst (x1.2.1.map ak.pd)))<|sV (rI x1.2.2)<|sA rfl<|sA rfl<|sA rfl<|sN<|qS<|gS rfl rfl<|sM rfl<|sF h (fun h => ?_) fun h => ?_
 ·refine sN<|cT<|gS rfl rfl<|sM rfl<|sV .nils<|sA rfl<|sN<|qR ?_
  cases oI h
  exact qG
 refine sN<|cF<|qK<|gS rfl rfl<|sV .nils<|sN<|gS rfl rfl<|sV (r0)<|sN<|qS<|gS rfl rfl<|sM rfl<|bE h fun x3 hx3 h => cD (yf hx3)<|sE (rI (x3.length : Int)) (lenMap _ _) ?_
 refine sV (r0)<|sN<|bE h fun o41 ho41 h => WC.block (WC.loop (WL.ofLoop ho41 (fun s R' B' => ghosts prog 0 (A R' B') (av.at_ 33 0 7) = some (A [(3, .ptr 48 0), (8, .d (.lst (x1.1.map aa.pd))), (9, .d (.lst (x1.2.1.map ak.pd))), (11, .ref 848 0), (12, rI s.1), (29, .d (.lst (x3.map (PD.int .i64)))), (30, rI (x3.length : Int)), (31, rI s.2.1)] [(48, .var (aG.rc a0)), (848, .nest 0 25 52 (s.2.2.map (List.map aa.pd)) none)])) (fun o e R' B' => e = .exit 0 ∧ ghosts prog 0 (A R' B') (av.at_ 33 0 14) = some (A [(11, .ref 848 0)] [(848, .nest 0 25 52 (o.map (List.map aa.pd)) none)])) rfl ?_ ?_))
 ·rintro ⟨s4, s5, s6⟩ R' B' q8 hI h
  refine gS rfl hI<|sF h (fun h => ?_) fun h => ?_
  ·refine sN<|qS<|cT<|qK<|qS<|qB<|gS rfl rfl<|sM rfl<|bE h fun x10 hx10 h => eG hx10 rfl<|sC rfl<|sA rfl<|sA rfl<|sN<|qS ?_
   refine WC.regionDSeq rfl rfl<|sM rfl<|sF h (fun h => ?_) fun h => ?_
   ·refine sM rfl<|k3<|k3<|k3<|sK<|sK<|sT ?_
    refine sN<|sO<|cT<|WC.region (R0 := [(3, .ptr 48 0), (8, .d (.lst (x1.1.map aa.pd))), (9, .d (.lst (x1.2.1.map ak.pd))), (11, .ref 848 0), (14, rI x10), (29, .d (.lst (x3.map (PD.int .i64)))), (30, rI (x3.length : Int)), (31, rI s5)]) (B0 := [(48, .var (aG.rc a0)), (848, .nest 0 25 52 (s6.map (List.map aa.pd)) none)]) rfl rfl<|sM rfl<|sV (.d (.lst [nil0]))<|bE h fun x12 hx12 h => WO.appNN hx12 rfl rfl rfl rfl rfl rfl rfl rfl rfl rfl rfl rfl rfl rfl<|sA rfl<|sN<|gS rfl rfl<|sM rfl<|sM rfl<|bE h fun x13 hx13 h => eG hx13 rfl<|sV (.cptr [.int .i64 x13.aH, .int .i64 x13.aY, .int .i64 x13.jh]) ?_
    refine sC rfl<|sA rfl<|sN<|bE h fun x14 hx14 h => WC.regionD (ghosts_lendL hx14 rfl rfl rfl) rfl<|sM rfl<|sM rfl<|WO.lenN rfl rfl rfl rfl rfl rfl rfl rfl rfl<|sV (rI (rW ((x12.length : Int) - (1 : Int))))<|sM rfl<|sM rfl<|WO.lenN rfl rfl rfl rfl rfl rfl rfl rfl rfl<|sV (rI (rW ((x12.length : Int) - (1 : Int))))<|bE h fun x15 hx15 h => WO.eltN hx15 rfl rfl rfl rfl rfl rfl rfl rfl ?_
    refine bE h fun x16 hx16 h => WO.loadN hx16 rfl rfl rfl rfl rfl rfl<|sM rfl<|sM rfl<|bE h fun x17 hx17 h => eG hx17 rfl<|sV (.d (aa.pd x17))<|sG (.d (.lst ([x17].map aa.pd)))<|bE h fun x18 hx18 h => aR hx18 (fun _ => rfl) rfl<|bE h fun x19 hx19 h => WO.eltN hx19 rfl rfl rfl rfl rfl rfl rfl rfl<|bE h fun x20 hx20 h => WO.storeN hx20 rfl rfl rfl rfl rfl rfl rfl ?_
    refine sN<|sO<|WC.region rfl rfl<|sV (rI (rW (s5 + (1 : Int))))<|sM rfl<|sN ?_
    cases oI h
    exact ⟨rfl, (ghosts_give rfl rfl (by decide) rfl)⟩
   refine sM rfl<|sM rfl<|sM rfl<|bE h fun x21 hx21 h => eG hx21 rfl<|sV (.cptr [.int .i64 x21.aH, .int .i64 x21.aY, .int .i64 x21.jh])<|sC rfl<|sM rfl<|sV (rI (rW (x21.aH - s4)))<|sV (.ptr 48 0)<|sV (.ptr 48 11)<|sL rfl<|sV (rB (decide ((rW (x21.aH - s4)) > a0.au.jJ)))<|sF h (fun h => ?_) fun h => ?_
   ·refine sN<|sO<|cT<|WC.region (R0 := [(3, .ptr 48 0), (8, .d (.lst (x1.1.map aa.pd))), (9, .d (.lst (x1.2.1.map ak.pd))), (11, .ref 848 0), (14, rI x10), (29, .d (.lst (x3.map (PD.int .i64)))), (30, rI (x3.length : Int)), (31, rI s5)]) (B0 := [(48, .var (aG.rc a0)), (848, .nest 0 25 52 (s6.map (List.map aa.pd)) none)]) rfl rfl<|sM rfl<|sV (.d (.lst [nil0]))<|bE h fun x23 hx23 h => WO.appNN hx23 rfl rfl rfl rfl rfl rfl rfl rfl rfl rfl rfl rfl rfl rfl<|sA rfl<|sN<|gS rfl rfl<|sM rfl<|sM rfl<|bE h fun x24 hx24 h => eG hx24 rfl<|sV (.cptr [.int .i64 x24.aH, .int .i64 x24.aY, .int .i64 x24.jh]) ?_
    refine sC rfl<|sA rfl<|sN<|bE h fun x25 hx25 h => WC.regionD (ghosts_lendL hx25 rfl rfl rfl) rfl<|sM rfl<|sM rfl<|WO.lenN rfl rfl rfl rfl rfl rfl rfl rfl rfl<|sV (rI (rW ((x23.length : Int) - (1 : Int))))<|sM rfl<|sM rfl<|WO.lenN rfl rfl rfl rfl rfl rfl rfl rfl rfl<|sV (rI (rW ((x23.length : Int) - (1 : Int))))<|bE h fun x26 hx26 h => WO.eltN hx26 rfl rfl rfl rfl rfl rfl rfl rfl ?_
    refine bE h fun x27 hx27 h => WO.loadN hx27 rfl rfl rfl rfl rfl rfl<|sM rfl<|sM rfl<|bE h fun x28 hx28 h => eG hx28 rfl<|sV (.d (aa.pd x28))<|sG (.d (.lst ([x28].map aa.pd)))<|bE h fun x29 hx29 h => aR hx29 (fun _ => rfl) rfl<|bE h fun x30 hx30 h => WO.eltN hx30 rfl rfl rfl rfl rfl rfl rfl rfl<|bE h fun x31 hx31 h => WO.storeN hx31 rfl rfl rfl rfl rfl rfl rfl ?_
    refine sN<|sO<|WC.region rfl rfl<|sV (rI (rW (s5 + (1 : Int))))<|sM rfl<|sN ?_
    cases oI h
    exact ⟨rfl, (ghosts_give rfl rfl (by decide) rfl)⟩
   refine sN<|sO<|cF<|qK<|gS rfl rfl<|sM rfl<|sM rfl<|bE h fun x32 hx32 h => eG hx32 rfl<|sV (.cptr [.int .i64 x32.aH, .int .i64 x32.aY, .int .i64 x32.jh])<|sC rfl<|sA rfl<|sN<|bE h fun x33 hx33 h => WC.regionD (ghosts_lendL hx33 rfl rfl rfl) rfl<|sM rfl ?_
   refine sM rfl<|WO.lenN rfl rfl rfl rfl rfl rfl rfl rfl rfl<|sV (rI (rW ((s6.length : Int) - (1 : Int))))<|sM rfl<|sM rfl<|WO.lenN rfl rfl rfl rfl rfl rfl rfl rfl rfl<|sV (rI (rW ((s6.length : Int) - (1 : Int))))<|bE h fun x34 hx34 h => WO.eltN hx34 rfl rfl rfl rfl rfl rfl rfl rfl<|bE h fun x35 hx35 h => WO.loadN hx35 rfl rfl rfl rfl rfl rfl<|sM rfl<|sM rfl<|bE h fun x36 hx36 h => eG hx36 rfl ?_
   refine sV (.d (aa.pd x36))<|sG (.d (.lst ([x36].map aa.pd)))<|bE h fun x37 hx37 h => aR hx37 (fun _ => rfl) rfl<|bE h fun x38 hx38 h => WO.eltN hx38 rfl rfl rfl rfl rfl rfl rfl rfl<|bE h fun x39 hx39 h => WO.storeN hx39 rfl rfl rfl rfl rfl rfl rfl ?_
   refine sN<|sO<|WC.region rfl rfl<|sV (rI (rW (s5 + (1 : Int))))<|sM rfl<|sN ?_
   cases oI h
   exact ⟨rfl, (ghosts_give rfl rfl (by decide) rfl)⟩
  refine sN<|qS<|cF<|qX ?_
  cases oI h
  exact ⟨nofun, rfl, rfl⟩
 intro e R' B' he hq
 obtain ⟨rfl, hI⟩ := hq
 refine qE<|qS<|gS rfl hI<|sM rfl<|WO.lenN rfl rfl rfl rfl rfl rfl rfl rfl rfl<|sV (r0)<|sN<|bE h fun o52 ho52 h => WC.block (WC.loop (WL.ofLoop ho52 (fun s R' B' => ghosts prog 0 (A R' B') (av.at_ 33 0 15) = some (A [(11, .ref 848 0), (77, .ref 848 0), (78, rI (o41.length : Int)), (79, rI s.1)] [(848, .nest 0 25 52 (s.2.map (List.map aa.pd)) none)])) (fun o e R' B' => e = .exit 2 ∧ ghosts prog 0 (A R' B') (av.at_ 33 0 19) = some (A [(11, .d (.lst (o.map (fun l => PD.lst (l.map aa.pd)))))] [])) rfl ?_ ?_))
 ·rintro ⟨s42, s43⟩ R' B' q45 hI h
  refine gS rfl hI<|sF h (fun h => ?_) fun h => ?_
  ·refine sN<|qS<|cT<|qK<|qS<|qB<|bE h fun x47 hx47 h => WC.regionSeq (ghosts_lendR hx47 rfl rfl rfl rfl) rfl<|bE h fun x48 hx48 h => WO.eltN hx48 rfl rfl rfl rfl rfl rfl rfl rfl<|bE h fun x49 hx49 h => WO.loadN hx49 rfl rfl rfl rfl rfl rfl<|sA rfl<|sN<|WC.region rfl rfl ?_
   refine sM rfl<|bE h fun x50 hx50 h => cR (.tup []) [(1312, .arr 0 52 (x50.map aa.pd))] (yF hx50)<|sN<|WC.region rfl rfl<|sV (rI (rW (s42 + (1 : Int))))<|sM rfl<|sN ?_
   cases oI h
   exact ⟨rfl, (ghosts_give rfl rfl (by decide) rfl)⟩
  refine sN<|qS<|cF<|qX ?_
  cases oI h
  exact ⟨nofun, rfl, (ghosts_skip rfl (ghosts_frzn rfl rfl rfl))⟩
 intro e R' B' he hq
 obtain ⟨rfl, hI⟩ := hq
 refine qE<|gS rfl hI<|sM rfl<|sA rfl<|sV (r0)<|sN<|qR ?_
 cases oI h
 exact qD
theorem tZ {a0 : (List Int)} {r : Bool} (h : kr a0 = some r) : EvP prog av ext 7 [.d (.lst (a0.map (PD.int .i64)))] [] (rB r, []) := by
 refine Ev.body rfl Tryz.func7 rfl (by kernel_rfl)<|gS rfl rfl<|sU<|sN<|gS rfl rfl<|sM rfl<|bE h fun x1 hx1 h => cR (.ptr 352 0) [(352, .var [.d (.lst (x1.fL.map (PD.int .i64))), rI x1.fAt])] (qW hx1)<|sA rfl<|sN<|gS rfl rfl<|sM rfl<|bE h fun x2 hx2 h => cR (.d (aG.pd x2.1)) [(352, .var [.d (.lst (x2.2.fL.map (PD.int .i64))), rI x2.2.fAt])] (kD hx2)<|sM rfl ?_
 refine bE h fun x3 hx3 h => cR (.d (ae.pd x3.1)) [(352, .var [.d (.lst (x3.2.fL.map (PD.int .i64))), rI x3.2.fAt])] (oL hx3)<|sB (.ptr 64 0) 64 (.var zZ0)<|sB (.ptr 80 0) 80 (.var [.nils])<|sH 64 (.var (aG.rc x2.1))<|sS 80 (.var [.d (.lst (x3.1.aq.map ac.pd))])<|sN<|gS rfl rfl<|sM rfl<|sV (.d (.agg [.int .i64 x2.1.au.aS.a8.fX, .int .i64 x2.1.au.aS.a8.fY, .int .i64 x2.1.au.aS.a8.fZ, .int .i64 x2.1.au.aS.aU.fX, .int .i64 x2.1.au.aS.aU.fY, .int .i64 x2.1.au.aS.aU.fZ, .int .i64 x2.1.au.bv.bt, .lst (x2.1.au.bv.a8.map (PD.int .i64)), .lst (x2.1.au.bv.aU.map (PD.int .i64)), .int .i64 x2.1.au.vw, .int .i64 x2.1.au.br, .int .i64 x2.1.au.jJ, .int .i64 x2.1.au.kj, .int .i64 x2.1.au.kg, .int .i64 x2.1.bR.aZ.bt, .lst (x2.1.bR.aZ.a8.map (PD.int .i64)), .lst (x2.1.bR.aZ.aU.map (PD.int .i64)), .int .i64 x2.1.bR.aX, .int .i64 x2.1.bR.aP, .int .i64 x2.1.br]))<|sV (.d (.agg [.lst (x3.1.aq.map ac.pd)]))<|bE h fun x4 hx4 h => cR (.d (.lst (x4.1.map aa.pd))) [(352, .var [.d (.lst (x4.2.fL.map (PD.int .i64))), rI x4.2.fAt])] (kb hx4)<|sA rfl<|sN ?_
 refine gS rfl rfl<|sV (.ptr 64 0)<|sV (.ptr 64 11)<|sL rfl<|sM rfl<|bE h fun x5 hx5 h => cR (.tup [.d (.lst (x5.1.map (fun l => PD.lst (l.map aa.pd)))), rI x5.2]) [] (fH hx5)<|sM rfl<|sV (.d (.lst (x5.1.map (fun l => PD.lst (l.map aa.pd)))))<|sV (rI x5.2)<|sA rfl<|sA rfl<|sN<|gS rfl rfl<|sV (.d (.agg [.int .i64 x2.1.au.aS.a8.fX, .int .i64 x2.1.au.aS.a8.fY, .int .i64 x2.1.au.aS.a8.fZ, .int .i64 x2.1.au.aS.aU.fX, .int .i64 x2.1.au.aS.aU.fY, .int .i64 x2.1.au.aS.aU.fZ, .int .i64 x2.1.au.bv.bt, .lst (x2.1.au.bv.a8.map (PD.int .i64)), .lst (x2.1.au.bv.aU.map (PD.int .i64)), .int .i64 x2.1.au.vw, .int .i64 x2.1.au.br, .int .i64 x2.1.au.jJ, .int .i64 x2.1.au.kj, .int .i64 x2.1.au.kg, .int .i64 x2.1.bR.aZ.bt, .lst (x2.1.bR.aZ.a8.map (PD.int .i64)), .lst (x2.1.bR.aZ.aU.map (PD.int .i64)), .int .i64 x2.1.bR.aX, .int .i64 x2.1.bR.aP, .int .i64 x2.1.br])) ?_
 refine sV (.d (.agg [.lst (x3.1.aq.map ac.pd)]))<|sM rfl<|bE h fun x6 hx6 h => cR (.tup [.d (.lst (x6.1.map (fun l => PD.lst (l.map aa.pd)))), rI x6.2]) [] (yO hx6)<|sM rfl<|sV (.d (.lst (x6.1.map (fun l => PD.lst (l.map aa.pd)))))<|sV (rI x6.2)<|sA rfl<|sA rfl<|sN<|qS<|gS rfl rfl<|sM rfl<|sF h (fun h => ?_) fun h => ?_
 ·refine sM rfl<|sK<|sK<|sT<|sN<|cT<|gS rfl rfl<|sU<|sN<|qR ?_
  cases oI h
  exact qG
 refine sM rfl<|sM rfl<|sV (rB (x6.2 != (0 : Int)))<|sF h (fun h => ?_) fun h => ?_
 ·refine sN<|cT<|gS rfl rfl<|sU<|sN<|qR ?_
  cases oI h
  exact qG
 refine sN<|cF<|qK<|qS<|gS rfl rfl<|sM rfl<|sE (rI (x6.1.length : Int)) (lenMap _ _)<|sV (r0)<|sN<|bE h fun o54 ho54 h => WC.block (WC.loop (WL.ofLoop ho54 (fun s R' B' => ghosts prog 0 (A R' B') (av.at_ 7 0 9) = some (A [(7, .d (.lst (x5.1.map (fun l => PD.lst (l.map aa.pd))))), (52, .d (.lst (x6.1.map (fun l => PD.lst (l.map aa.pd))))), (53, rI (x6.1.length : Int)), (54, rI s)] [])) (fun o e R' B' => match o with | .inl y => e = .exit 0 ∧ ghosts prog 0 (A R' B') (av.at_ 7 0 31) = some (A [] []) | .inr r => e = .ret ∧ finish prog (av.own 7) Tryz.f7 0 (A R' B') = some (rB r, [])) rfl ?_ ?_))
 ·rintro s9 R' B' q10 hI h
  refine gS rfl hI<|sF h (fun h => ?_) fun h => ?_
  ·refine sN<|qS<|cT<|qK<|qS<|qB<|gS rfl rfl<|bE h fun x12 hx12 h => eG hx12 rfl<|sC rfl<|sA rfl<|sN<|gS rfl rfl<|sU<|sN ?_
   refine qS<|gS rfl rfl<|sM rfl<|sE (rI (x5.1.length : Int)) (lenMap _ _)<|sV (r0)<|sN<|bE h fun o50 ho50 h => WC.block (WC.loop (WL.ofLoop ho50 (fun s R' B' => ghosts prog 0 (A R' B') (av.at_ 7 0 13) = some (A [(7, .d (.lst (x5.1.map (fun l => PD.lst (l.map aa.pd))))), (12, .d (.lst (x12.map aa.pd))), (13, rB s.1), (52, .d (.lst (x6.1.map (fun l => PD.lst (l.map aa.pd))))), (53, rI (x6.1.length : Int)), (54, rI s.2.1), (58, .d (.lst (x5.1.map (fun l => PD.lst (l.map aa.pd))))), (59, rI (x5.1.length : Int)), (60, rI s.2.2)] [])) (fun o e R' B' => e = .exit 2 ∧ ghosts prog 0 (A R' B') (av.at_ 7 0 28) = some (A [(7, .d (.lst (x5.1.map (fun l => PD.lst (l.map aa.pd))))), (12, .d (.lst (x12.map aa.pd))), (13, rB o.1), (52, .d (.lst (x6.1.map (fun l => PD.lst (l.map aa.pd))))), (53, rI (x6.1.length : Int)), (54, rI o.2)] [])) rfl ?_ ?_))
   ·rintro ⟨s13, s14, s15⟩ R' B' q18 hI h
    refine gS rfl hI<|sF h (fun h => ?_) fun h => ?_
    ·refine sN<|qS<|cT<|qK<|qS<|qB<|gS rfl rfl<|bE h fun x20 hx20 h => eG hx20 rfl<|sC rfl<|sA rfl<|sN<|gS rfl rfl<|sV (r0)<|sN ?_
     refine qS<|gS rfl rfl<|sM rfl<|sE (rI (x12.length : Int)) (lenMap _ _)<|sV (r0)<|sN<|bE h fun o47 ho47 h => WC.block (WC.loop (WL.ofLoop ho47 (fun s R' B' => ghosts prog 0 (A R' B') (av.at_ 7 0 17) = some (A [(7, .d (.lst (x5.1.map (fun l => PD.lst (l.map aa.pd))))), (12, .d (.lst (x12.map aa.pd))), (13, rB s.1), (15, .d (.lst (x20.map aa.pd))), (16, rI s.2.1), (52, .d (.lst (x6.1.map (fun l => PD.lst (l.map aa.pd))))), (53, rI (x6.1.length : Int)), (54, rI s.2.2.1), (58, .d (.lst (x5.1.map (fun l => PD.lst (l.map aa.pd))))), (59, rI (x5.1.length : Int)), (60, rI s.2.2.2.1), (64, .d (.lst (x12.map aa.pd))), (65, rI (x12.length : Int)), (66, rI s.2.2.2.2)] [])) (fun o e R' B' => e = .exit 4 ∧ ghosts prog 0 (A R' B') (av.at_ 7 0 26) = some (A [(7, .d (.lst (x5.1.map (fun l => PD.lst (l.map aa.pd))))), (12, .d (.lst (x12.map aa.pd))), (13, rB o.1), (16, rI o.2.1), (52, .d (.lst (x6.1.map (fun l => PD.lst (l.map aa.pd))))), (53, rI (x6.1.length : Int)), (54, rI o.2.2.1), (58, .d (.lst (x5.1.map (fun l => PD.lst (l.map aa.pd))))), (59, rI (x5.1.length : Int)), (60, rI o.2.2.2)] [])) rfl ?_ ?_))
     ·rintro ⟨s21, s22, s23, s24, s25⟩ R' B' q30 hI h
      refine gS rfl hI<|sF h (fun h => ?_) fun h => ?_
      ·refine sN<|qS<|cT<|qK<|qS<|qB<|gS rfl rfl<|bE h fun x32 hx32 h => eG hx32 rfl<|sV (.d (aa.pd x32))<|sB (.ptr 288 0) 288 (.var zZ1)<|sH 288 (.var (aa.rc x32))<|sN<|gS rfl rfl<|sM rfl ?_
       refine sE (rI (x20.length : Int)) (lenMap _ _)<|sV (r0)<|sN<|bE h fun o45 ho45 h => WC.block (WC.loop (WL.ofLoop ho45 (fun s R' B' => ghosts prog 0 (A R' B') (av.at_ 7 0 20) = some (A [(7, .d (.lst (x5.1.map (fun l => PD.lst (l.map aa.pd))))), (12, .d (.lst (x12.map aa.pd))), (13, rB s21), (15, .d (.lst (x20.map aa.pd))), (16, rI s.1), (18, .ptr 288 0), (52, .d (.lst (x6.1.map (fun l => PD.lst (l.map aa.pd))))), (53, rI (x6.1.length : Int)), (54, rI s23), (58, .d (.lst (x5.1.map (fun l => PD.lst (l.map aa.pd))))), (59, rI (x5.1.length : Int)), (60, rI s24), (64, .d (.lst (x12.map aa.pd))), (65, rI (x12.length : Int)), (66, rI s25), (70, .d (.lst (x20.map aa.pd))), (71, rI (x20.length : Int)), (72, rI s.2)] [(288, .var (aa.rc x32))])) (fun o e R' B' => e = .exit 6 ∧ ghosts prog 0 (A R' B') (av.at_ 7 0 25) = some (A [(7, .d (.lst (x5.1.map (fun l => PD.lst (l.map aa.pd))))), (12, .d (.lst (x12.map aa.pd))), (13, rB o.1), (15, .d (.lst (x20.map aa.pd))), (16, rI o.2.1), (52, .d (.lst (x6.1.map (fun l => PD.lst (l.map aa.pd))))), (53, rI (x6.1.length : Int)), (54, rI o.2.2.1), (58, .d (.lst (x5.1.map (fun l => PD.lst (l.map aa.pd))))), (59, rI (x5.1.length : Int)), (60, rI o.2.2.2.1), (64, .d (.lst (x12.map aa.pd))), (65, rI (x12.length : Int)), (66, rI o.2.2.2.2)] [])) rfl ?_ ?_))
       ·rintro ⟨s33, s34⟩ R' B' q40 hI h
        refine gS rfl hI<|sF h (fun h => ?_) fun h => ?_
        ·refine sN<|qS<|cT<|qK<|qS<|qB<|gS rfl rfl<|bE h fun x42 hx42 h => eG hx42 rfl<|sV (.d (aa.pd x42))<|sB (.ptr 320 0) 320 (.var zZ1)<|sH 320 (.var (aa.rc x42))<|sN<|gS rfl rfl<|sV (.d (aa.pd x32)) ?_
         refine sV (.d (aa.pd x42))<|ite_elim h (fun hb43 h => ?_) (fun hb43 h => ?_)
         ·refine WO.binS (yh x32 x42) hb43 rfl rfl rfl rfl rfl<|sN<|cT<|WC.region rfl rfl<|sM rfl<|sV (rI (rW (s33 + (1 : Int))))<|sA rfl<|sN<|WC.region rfl rfl<|sV (rI (rW (s34 + (1 : Int))))<|sM rfl<|sN ?_
          cases oI h
          exact ⟨rfl, rfl⟩
         refine WO.binS (yh x32 x42) hb43 rfl rfl rfl rfl rfl<|sN<|cF<|qK<|WC.region rfl rfl<|sV (rI (rW (s34 + (1 : Int))))<|sM rfl<|sN ?_
         cases oI h
         exact ⟨rfl, rfl⟩
        refine sN<|qS<|cF<|qX ?_
        cases oI h
        exact ⟨nofun, rfl, rfl⟩
       intro e R' B' he hq
       obtain ⟨rfl, hI⟩ := hq
       refine qE<|WC.region hI rfl<|sV (rI (rW (o45.2.2.2.2 + (1 : Int))))<|sM rfl<|sN ?_
       cases oI h
       exact ⟨rfl, rfl⟩
      refine sN<|qS<|cF<|qX ?_
      cases oI h
      exact ⟨nofun, rfl, rfl⟩
     intro e R' B' he hq
     obtain ⟨rfl, hI⟩ := hq
     refine qE<|WC.region hI rfl<|sF h (fun h => ?_) fun h => ?_
     ·refine sM rfl<|k3<|sK<|sT<|sA rfl<|sN<|WC.region rfl rfl<|sV (rI (rW (o47.2.2.2 + (1 : Int))))<|sM rfl<|sN ?_
      cases oI h
      exact ⟨rfl, rfl⟩
     refine sM rfl<|sM rfl<|sM rfl<|sE (rI (x12.length : Int)) (lenMap _ _)<|sV (rB (o47.2.1 == (x12.length : Int)))<|sV (rB (o47.2.1 == (x12.length : Int)))<|sA rfl<|sN<|WC.region rfl rfl<|sV (rI (rW (o47.2.2.2 + (1 : Int))))<|sM rfl<|sN ?_
     cases oI h
     exact ⟨rfl, rfl⟩
    refine sN<|qS<|cF<|qX ?_
    cases oI h
    exact ⟨nofun, rfl, rfl⟩
   intro e R' B' he hq
   obtain ⟨rfl, hI⟩ := hq
   refine qE<|gS rfl hI<|sM rfl<|sF h (fun h => ?_) fun h => ?_
   ·refine sM rfl<|k3<|sT<|sN<|cT<|gS rfl rfl<|sU<|sN<|qR ?_
    cases oI h
    exact ⟨nofun, rfl, rfl⟩
   refine sM rfl<|sM rfl<|sE (rI (x12.length : Int)) (lenMap _ _)<|sV (rB ((x12.length : Int) == (0 : Int)))<|sF h (fun h => ?_) fun h => ?_
   ·refine sN<|cT<|gS rfl rfl<|sU<|sN<|qR ?_
    cases oI h
    exact ⟨nofun, rfl, rfl⟩
   refine sN<|cF<|qK<|WC.region rfl rfl<|sV (rI (rW (o50.2 + (1 : Int))))<|sM rfl<|sN ?_
   cases oI h
   exact ⟨rfl, rfl⟩
  refine sN<|qS<|cF<|qX ?_
  cases oI h
  exact ⟨nofun, rfl, rfl⟩
 intro e R' B' he hq
 rcases o54 with y55 | r56
 ·obtain ⟨rfl, hI⟩ := hq
  refine qE<|gS rfl hI<|bE h fun x57 hx57 h => cD (e8 hx57)<|sA rfl<|sN<|qR ?_
  cases oI h
  exact qD
 obtain ⟨rfl, hf⟩ := hq
 cases oI h
 exact hf
end Go.Dw.De
