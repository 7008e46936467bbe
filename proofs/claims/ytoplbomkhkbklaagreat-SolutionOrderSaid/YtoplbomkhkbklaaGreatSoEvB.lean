
import Derived.Test.YtoplbomkhkbklaaGreatSoEvA

set_option maxRecDepth 100000
set_option maxHeartbeats 4000000
namespace Go.Dw.So
open Go.Proofs Go.Proofs.Tryz Go.Dw
theorem solution_used_ev {a0 : aG} {a1 : aD} {a2 : ap} {r : av × al × Bool} (h : cw a0 a1 a2 = some r) : EvP prog aH ext 36 [.d (aG.pd a0), .d (aD.pd a1), .d (ap.pd a2)] [] (.tup [.d (av.pd r.1), .d (al.pd r.2.1), rB r.2.2], []) := by
 refine Ev.body rfl Tryz.func36 rfl (by kernel_rfl)<|gS rfl rfl<|sB (.ptr 48 0) 48 (.var (aG.rc a0))<|sB (.ptr 64 0) 64 (.var [.d (.lst (a1.aQ.map au.pd))])<|sB (.ptr 80 0) 80 (.var (ap.rc a2))<|sB (.ptr 96 0) 96 (.var zZ3)<|sB (.ptr 112 0) 112 (.var zZ2)<|sU<|sN<|qS<|gS rfl rfl<|sV (.d (ap.pd a2))<|bE h fun x1 hx1 h => cD (np hx1)<|sF h (fun h => ?_) fun h => ?_
 ·refine sN<|cT<|gS rfl rfl<|sG (.d (av.pd (av.mk (aa.mk 0 0 0) 0 0 0)))<|sG (.agg zZ2)<|sH 96 (.var zZ3)<|sH 112 (.var zZ2)<|sU<|sN<|qR ?_
  cases oI h
  exact qG
 refine sN<|cF<|qK<|gS rfl rfl<|sV (.d (aD.pd a1))<|sV (.ptr 80 0)<|sV (.d (aI.pd a2.aJ))<|sV (.ptr 80 4)<|sL rfl<|bE h fun x3 hx3 h => cR (.tup [.d (al.pd x3.1), rI x3.2]) [] (inventory_At_ev hx3)<|sM rfl<|sV (.d (al.pd x3.1))<|sV (rI x3.2)<|sB (.ptr 144 0) 144 (.var zZ2) ?_
 refine sH 144 (.var (al.rc x3.1))<|sA rfl<|sN<|qS<|gS rfl rfl<|sM rfl<|sF h (fun h => ?_) fun h => ?_
 ·refine sN<|cT<|gS rfl rfl<|sG (.d (av.pd (av.mk (aa.mk 0 0 0) 0 0 0)))<|sG (.agg zZ2)<|sH 96 (.var zZ3)<|sH 112 (.var zZ2)<|sU<|sN<|qR ?_
  cases oI h
  exact qG
 refine sN<|cF<|qK<|gS rfl rfl<|sV (.ptr 144 4)<|sV (.d (aa.pd x3.1.aV))<|sV (.ptr 80 5)<|sL rfl<|sV (.ptr 80 6)<|sL rfl<|sG (.d (av.pd (av.mk x3.1.aV a2.bw a2.bO 1)))<|sB (.ptr 176 0) 176 (.var zZ3)<|sH 176 (.var [rI x3.1.aV.fX, rI x3.1.aV.fY, rI x3.1.aV.fZ, rI a2.bw, rI a2.bO, rI 1])<|sN<|qS ?_
 refine gS rfl rfl<|sV (.ptr 48 0)<|sV (.ptr 48 6)<|sV (.d (aK.pd a0.ag.az))<|sV (.ptr 48 0)<|sV (.ptr 48 0)<|sV (.d (aj.pd a0.ag.ac))<|sV (.d (av.pd (av.mk x3.1.aV a2.bw a2.bO 1)))<|bE h fun x5 hx5 h => cR (.tup [.d (aM.pd x5.1), rI x5.2]) [] (jg hx5)<|sM rfl<|sV (.d (aM.pd x5.1))<|sV (rI x5.2)<|sB (.ptr 192 0) 192 (.var [r0, r0])<|sS 192 (.var [rI x5.1.bF, rI x5.1.fTo]) ?_
 refine sA rfl<|sN<|gS rfl rfl<|sM rfl<|sF h (fun h => ?_) fun h => ?_
 ·refine sN<|cT<|gS rfl rfl<|sG (.d (av.pd (av.mk (aa.mk 0 0 0) 0 0 0)))<|sG (.agg zZ2)<|sH 96 (.var zZ3)<|sH 112 (.var zZ2)<|sU<|sN<|qR ?_
  cases oI h
  exact qG
 refine sN<|cF<|qK<|WC.cI rfl rfl<|sV (.d (av.pd (av.mk x3.1.aV a2.bw a2.bO 1)))<|sV (.d (.agg [.int .i64 x3.1.bF, .int .i64 x3.1.fTo, .int .i64 x3.1.ct.bh, .int .i64 x3.1.ct.bg, .int .i64 x3.1.aV.fX, .int .i64 x3.1.aV.fY, .int .i64 x3.1.aV.fZ, .lst (x3.1.bq.bj.map aB.pd)]))<|sH 96 (.var [rI x3.1.aV.fX, rI x3.1.aV.fY, rI x3.1.aV.fZ, rI a2.bw, rI a2.bO, rI 1])<|sH 112 (.var (al.rc x3.1))<|sT ?_
 refine sN<|sO<|qR ?_
 cases oI h
 exact qG
theorem nT {a0 : aG} {a1 : aD} {a2 : (List ap)} {r : a7 × Int} (h : fF a0 a1 a2 = some r) : EvP prog aH ext 24 [.d (aG.pd a0), .d (aD.pd a1), .d (.lst (a2.map ap.pd))] [] (.tup [.d (a7.pd r.1), rI r.2], []) := by
 refine Ev.body rfl Tryz.func24 rfl (by kernel_rfl)<|gS rfl rfl<|sB (.ptr 48 0) 48 (.var (aG.rc a0))<|sB (.ptr 64 0) 64 (.var [.d (.lst (a1.aQ.map au.pd))])<|sB (.ptr 96 0) 96 (.var [.jY, .jY, .jY])<|sV (r0)<|sN<|gS rfl rfl<|sB (.ptr 128 0) 128 (.var [.jY, .jY, .jY])<|sN<|qS<|qB<|gS rfl rfl<|sV (.d (aG.pd a0))<|bE h fun x1 hx1 h => ?_
 refine cD (jx hx1)<|sF h (fun h => ?_) fun h => ?_
 ·refine sA rfl<|sN<|cT<|gS rfl rfl<|sV (.agg [.jY, .jY, .jY])<|sS 96 (.var [.jY, .jY, .jY])<|sV (rI 27)<|sN<|qR ?_
  cases oI h
  exact qG
 refine sA rfl<|sN<|cF<|gS rfl rfl<|sV (.d (aD.pd a1))<|bE h fun x3 hx3 h => cD (kr hx3)<|sF h (fun h => ?_) fun h => ?_
 ·refine sA rfl<|sN<|cT<|gS rfl rfl<|sV (.agg [.jY, .jY, .jY])<|sS 96 (.var [.jY, .jY, .jY])<|sV (rI 1)<|sN<|qR ?_
  cases oI h
  exact qG
 refine sA rfl<|sN<|cF<|qK<|qS<|gS rfl rfl<|sM rfl<|bE h fun x5 hx5 h => cD (picker_Sort_ev hx5)<|sE (rI (x5.length : Int)) (oD _ _)<|sV (r0)<|sN<|bE h fun o22 ho22 h => WC.block (WC.loop (WL.oL ho22 (fun s R' B' => jX prog 0 (A R' B') (aH.at_ 24 0 7) = some (A [(3, .ptr 48 0), (4, .ptr 64 0), (6, .ptr 96 0), (8, .ptr 128 0), (25, .d (.lst (x5.map ap.pd))), (26, rI (x5.length : Int)), (27, rI s.1)] [(48, .var (aG.rc a0)), (64, .var [.d (.lst (a1.aQ.map au.pd))]), (96, .var [.jY, .jY, .jY]), (128, .var [.ref 704 0, .ref 784 0, .ref 864 0]), (704, .arr 0 48 (s.2.1.map ap.pd)), (784, .arr 0 111 (s.2.2.1.map av.pd)), (864, .arr 0 71 (s.2.2.2.map al.pd))])) (fun o e R' B' => e = .exit 1 ∧ jX prog 0 (A R' B') (aH.at_ 24 0 13) = some (A [(6, .ptr 96 0), (8, .ptr 128 0)] [(96, .var [.jY, .jY, .jY]), (128, .var [.ref 704 0, .ref 784 0, .ref 864 0]), (704, .arr 0 48 (o.1.map ap.pd)), (784, .arr 0 111 (o.2.1.map av.pd)), (864, .arr 0 71 (o.2.2.map al.pd))])) rfl ?_ ?_))
 ·rintro ⟨s6, s7, s8, s9⟩ R' B' q13 hI h
  refine gS rfl hI<|sF h (fun h => ?_) fun h => ?_
  ·refine sN<|qS<|cT<|qK<|qS<|qB<|gS rfl rfl<|bE h fun x15 hx15 h => eG hx15 rfl<|sV (.d (ap.pd x15))<|sB (.ptr 160 0) 160 (.var [rS [], rS [], rS [], rS [], r0, r0, r0, r0, r0])<|sH 160 (.var (ap.rc x15))<|sN<|gS rfl rfl<|sV (.d (aG.pd a0)) ?_
   refine sV (.d (aD.pd a1))<|sV (.d (ap.pd x15))<|bE h fun x16 hx16 h => cR (.tup [.d (av.pd x16.1), .d (al.pd x16.2.1), rB x16.2.2]) [] (solution_used_ev hx16)<|sM rfl<|sV (.d (av.pd x16.1))<|sV (.d (al.pd x16.2.1))<|sV (rB x16.2.2)<|sB (.ptr 176 0) 176 (.var zZ3)<|sB (.ptr 192 0) 192 (.var zZ2)<|sH 176 (.var (av.rc x16.1))<|sH 192 (.var (al.rc x16.2.1))<|sA rfl<|sN<|gS rfl rfl ?_
   refine sF h (fun h => ?_) fun h => ?_
   ·refine sN<|cT<|WC.pC rfl rfl<|sV (.ptr 128 0)<|sL rfl<|sV (.d (ap.pd x15))<|sG (.d (.lst ([x15].map ap.pd)))<|bE h fun x18 hx18 h => aR hx18 (fun _ => rfl) rfl<|sV (.ptr 128 1)<|sL rfl<|sV (.d (av.pd x16.1))<|sV (.d (.lst ([x16.1].map av.pd)))<|bE h fun x19 hx19 h => aR hx19 (fun _ => rfl) rfl ?_
    refine sV (.ptr 128 2)<|sL rfl<|sV (.d (.agg [.int .i64 x16.2.1.bF, .int .i64 x16.2.1.fTo, .int .i64 x16.2.1.ct.bh, .int .i64 x16.2.1.ct.bg, .int .i64 x16.2.1.aV.fX, .int .i64 x16.2.1.aV.fY, .int .i64 x16.2.1.aV.fZ, .lst (x16.2.1.bq.bj.map aB.pd)]))<|sG (.d (.lst ([x16.2.1].map al.pd)))<|bE h fun x20 hx20 h => aR hx20 (fun _ => rfl) rfl<|sV (.ptr 128 0)<|sS 128 (.var [.ref 704 1, .ref 784 0, .ref 864 0])<|sV (.ptr 128 1)<|sS 128 (.var [.ref 704 1, .ref 784 1, .ref 864 0])<|sV (.ptr 128 2)<|sS 128 (.var [.ref 704 1, .ref 784 1, .ref 864 1]) ?_
    refine sN<|sO<|WC.region rfl rfl<|sV (rI (rW (s6 + (1 : Int))))<|sM rfl<|sN ?_
    cases oI h
    exact ⟨rfl, rfl⟩
   refine sN<|cF<|qK<|WC.region rfl rfl<|sV (rI (rW (s6 + (1 : Int))))<|sM rfl<|sN ?_
   cases oI h
   exact ⟨rfl, rfl⟩
  refine sN<|qS<|cF<|qX ?_
  cases oI h
  exact ⟨nofun, rfl, rfl⟩
 intro e R' B' he hq
 obtain ⟨rfl, hI⟩ := hq
 refine qE<|gS rfl hI<|sV (.agg [.ref 704 0, .ref 784 0, .ref 864 0])<|sS 96 (.var [.ref 704 0, .ref 784 0, .ref 864 0])<|sV (r0)<|sN<|qR ?_
 exact oI h▸qD
theorem nn {a0 : a7} {a1 : aG} {r : aw × Int} (h : gq a0 a1 = some r) : EvP prog aH ext 25 [.d (a7.pd a0), .d (aG.pd a1)] [] (.tup [.d (aw.pd r.1), rI r.2], []) := by
 refine Ev.body rfl Tryz.func25 rfl (by kernel_rfl)<|gS rfl rfl<|sB (.ptr 32 0) 32 (.var [.d (.lst (a0.cg.map ap.pd)), .d (.lst (a0.b9.map av.pd)), .d (.lst (a0.ew.map al.pd))])<|sB (.ptr 48 0) 48 (.var (aG.rc a1))<|sB (.ptr 64 0) 64 (.var [r0, r0, r0, r0, r0, r0, r0, .jY, .jY, .jY, r0])<|sV (r0)<|sN<|qS<|gS rfl rfl<|sV (.ptr 32 1)<|sL rfl<|sE (rI (a0.b9.length : Int)) (oD _ _)<|sA rfl<|sN<|qB ?_
 refine gS rfl rfl<|sM rfl<|sF h (fun h => ?_) fun h => ?_
 ·refine sA rfl<|sN<|cT<|gS rfl rfl<|sG (.agg [r0, r0, r0, r0, r0, r0, r0, .jY, .jY, .jY, r0])<|sH 64 (.var [r0, r0, r0, r0, r0, r0, r0, .jY, .jY, .jY, r0])<|sV (rI 24)<|sN<|qR ?_
  cases oI h
  exact qG
 refine sA rfl<|sN<|cF<|gS rfl rfl<|sM rfl<|sF h (fun h => ?_) fun h => ?_
 ·refine sA rfl<|sN<|cT<|gS rfl rfl<|sG (.agg [r0, r0, r0, r0, r0, r0, r0, .jY, .jY, .jY, r0])<|sH 64 (.var [r0, r0, r0, r0, r0, r0, r0, .jY, .jY, .jY, r0])<|sV (rI 8)<|sN<|qR ?_
  cases oI h
  exact qG
 refine sA rfl<|sN<|cF<|qK<|gS rfl rfl<|sV (.ptr 48 0)<|sV (.d (bd.pd a1.ag))<|sB (.ptr 112 0) 112 (.var [r0, r0, r0, r0, r0, r0, r0, .jY, .jY, r0, r0, r0, r0, r0])<|sH 112 (.var (bd.rc a1.ag))<|sN<|WC.cI rfl rfl<|sV (.ptr 112 6)<|sV (.ptr 112 6)<|sL rfl<|sV (.ptr 112 6) ?_
 refine sV (.ptr 112 7)<|sL rfl<|bE h fun x3 hx3 h => cR (.ref 448 0) [(448, .arr 0 3 (x3.map (PD.int .i64)))] (clone_37 hx3)<|sV (.ptr 112 6)<|sV (.ptr 112 8)<|sL rfl<|bE h fun x4 hx4 h => cR (.ref 512 0) [(512, .arr 0 3 (x4.map (PD.int .i64)))] (clone_37 hx4)<|sV (.agg [rI a1.ag.az.aT, .ref 448 0, .ref 512 0])<|sB (.ptr 128 0) 128 (.var [r0, .jY, .jY])<|sS 128 (.var [rI a1.ag.az.aT, .ref 448 0, .ref 512 0]) ?_
 refine sN<|sO<|gS rfl rfl<|sV (.ptr 112 0)<|sV (.d (aj.pd a1.ag.ac))<|sV (.agg [rI a1.ag.az.aT, .ref 448 0, .ref 512 0])<|sV (.ptr 32 1)<|sL rfl<|sV (.ptr 112 9)<|sL rfl<|sG (.agg [rI a1.ag.ac.ak.fX, rI a1.ag.ac.ak.fY, rI a1.ag.ac.ak.fZ, rI a1.ag.ac.ae.fX, rI a1.ag.ac.ae.fY, rI a1.ag.ac.ae.fZ, rI a1.ag.az.aT, .ref 448 0, .ref 512 0, .d (.lst (a0.b9.map av.pd)), rI a1.ag.bG])<|sH 64 (.var [rI a1.ag.ac.ak.fX, rI a1.ag.ac.ak.fY, rI a1.ag.ac.ak.fZ, rI a1.ag.ac.ae.fX, rI a1.ag.ac.ae.fY, rI a1.ag.ac.ae.fZ, rI a1.ag.az.aT, .ref 448 0, .ref 512 0, .d (.lst (a0.b9.map av.pd)), rI a1.ag.bG])<|sV (r0)<|sN<|qR ?_
 cases oI h
 exact qG
theorem kz {a0 : aw} {r : Int} (h : fD a0 = some r) : EvP prog aH ext 60 [.d (aw.pd a0)] [] (rI r, []) := by
 refine Ev.body rfl Tryz.func60 rfl (by kernel_rfl)<|gS rfl rfl<|sB (.ptr 16 0) 16 (.var (aw.rc a0))<|sV (r0)<|sN<|qS<|gS rfl rfl<|sV (.ptr 16 0)<|sV (.d (aj.pd a0.ac))<|bE h fun x1 hx1 h => cD (bv hx1)<|sF h (fun h => ?_) fun h => ?_
 ·refine sN<|cT<|gS rfl rfl<|sV (rI 20)<|sN<|qR ?_
  cases oI h
  exact qG
 refine sN<|cF<|qK<|qS<|gS rfl rfl<|sV (.ptr 16 6)<|sV (.d (aK.pd a0.az))<|bE h fun x3 hx3 h => cD (di hx3)<|sA rfl<|sN<|gS rfl rfl<|sM rfl<|sF h (fun h => ?_) fun h => ?_
 ·refine sN<|cT<|gS rfl rfl<|sM rfl<|sA rfl<|sN<|qR ?_
  cases oI h
  exact qG
 refine sN<|cF<|qK<|qS<|gS rfl rfl<|sV (.ptr 16 9)<|sL rfl<|sE (rI (a0.aY.length : Int)) (oD _ _)<|sA rfl<|sN<|qB<|gS rfl rfl<|sM rfl<|sF h (fun h => ?_) fun h => ?_
 ·refine sA rfl<|sN<|cT<|gS rfl rfl<|sV (rI 24)<|sN<|qR ?_
  cases oI h
  exact qG
 refine sA rfl<|sN<|cF<|gS rfl rfl<|sM rfl<|sF h (fun h => ?_) fun h => ?_
 ·refine sA rfl<|sN<|cT<|gS rfl rfl<|sV (rI 8)<|sN<|qR ?_
  cases oI h
  exact qG
 refine sA rfl<|sN<|cF<|gS rfl rfl<|sV (.ptr 16 10)<|sL rfl<|sF h (fun h => ?_) fun h => ?_
 ·refine sM rfl<|k3<|sT<|sA rfl<|sN<|cT<|gS rfl rfl<|sV (rI 2)<|sN<|qR ?_
  cases oI h
  exact qG
 refine sM rfl<|sV (.ptr 16 10)<|sL rfl<|sV (rB (decide (a0.bG > (1099511627776 : Int))))<|sF h (fun h => ?_) fun h => ?_
 ·refine sA rfl<|sN<|cT<|gS rfl rfl<|sV (rI 2)<|sN<|qR ?_
  cases oI h
  exact qG
 refine sA rfl<|sN<|cF<|qK<|qS<|gS rfl rfl<|sV (.ptr 16 9)<|sL rfl<|sE (rI (a0.aY.length : Int)) (oD _ _)<|sV (r0)<|sN<|bE h fun o16 ho16 h => WC.block (WC.loop (WL.oL ho16 (fun s R' B' => jX prog 0 (A R' B') (aH.at_ 60 0 14) = some (A [(1, .ptr 16 0), (38, .d (.lst (a0.aY.map av.pd))), (39, rI (a0.aY.length : Int)), (40, rI s)] [(16, .var (aw.rc a0))])) (fun o e R' B' => match o with | .inl y => e = .exit 1 ∧ jX prog 0 (A R' B') (aH.at_ 60 0 20) = some (A [] []) | .inr r => e = .ret ∧ finish prog (aH.own 60) Tryz.f60 0 (A R' B') = some (rI r, [])) rfl ?_ ?_))
 ·rintro s9 R' B' q10 hI h
  refine gS rfl hI<|sF h (fun h => ?_) fun h => ?_
  ·refine sN<|qS<|cT<|qK<|qS<|qB<|gS rfl rfl<|bE h fun x12 hx12 h => eG hx12 rfl<|sV (.d (av.pd x12))<|sB (.ptr 96 0) 96 (.var zZ3)<|sH 96 (.var (av.rc x12))<|sN<|gS rfl rfl<|sV (.ptr 16 6) ?_
   refine sV (.d (aK.pd a0.az))<|sV (.ptr 16 0)<|sV (.d (aj.pd a0.ac))<|sV (.d (av.pd x12))<|bE h fun x13 hx13 h => cR (.tup [.d (aM.pd x13.1), rI x13.2]) [] (jg hx13)<|sM rfl<|sV (.d (aM.pd x13.1))<|sV (rI x13.2)<|sB (.ptr 112 0) 112 (.var [r0, r0])<|sS 112 (.var [rI x13.1.bF, rI x13.1.fTo])<|sA rfl<|sN<|gS rfl rfl<|sM rfl ?_
   refine sF h (fun h => ?_) fun h => ?_
   ·refine sN<|cT<|gS rfl rfl<|sM rfl<|sA rfl<|sN<|qR ?_
    cases oI h
    exact ⟨nofun, rfl, rfl⟩
   refine sN<|cF<|qK<|WC.region rfl rfl<|sV (rI (rW (s9 + (1 : Int))))<|sM rfl<|sN ?_
   cases oI h
   exact ⟨rfl, rfl⟩
  refine sN<|qS<|cF<|qX ?_
  cases oI h
  exact ⟨nofun, rfl, rfl⟩
 intro e R' B' he hq
 rcases o16 with y17 | r18
 ·obtain ⟨rfl, hI⟩ := hq
  refine qE<|gS rfl hI<|sV (r0)<|sN<|qR ?_
  exact oI h▸qD
 obtain ⟨rfl, hf⟩ := hq
 cases oI h
 exact hf
theorem jp {a0 : aj} {a1 : aa} {r : Bool} (h : ex a0 a1 = some r) : EvP prog aH ext 179 [.d (aj.pd a0), .d (aa.pd a1)] [] (rB r, []) := by
 refine Ev.body rfl Tryz.func179 rfl (by kernel_rfl)<|gS rfl rfl<|sB (.ptr 32 0) 32 (.var (aj.rc a0))<|sB (.ptr 48 0) 48 (.var [rI a1.fX, rI a1.fY, rI a1.fZ])<|sU<|sN<|gS rfl rfl<|sV (.d (aj.pd a0))<|bE h fun x1 hx1 h => pb h (fun hb2 h => ?_) (fun hb2 h => ?_)
 ·refine WO.pD (v := rB true) (u := []) rfl rfl (fun _ => rfl) rfl rfl rfl rfl rfl (bv hx1) rfl rfl (congrArg (fun b => RV.d (.bool b)) hb2) rfl<|sM rfl<|sV (.d (aa.pd a1))<|bE h fun x3 hx3 h => cD (co hx3)<|sF h (fun h => ?_) fun h => ?_
  ·refine sM rfl<|sV (.d (aj.pd a0))<|sV (.d (aa.pd a1))<|bE h fun x5 hx5 h => cD (iP hx5)<|sV (rB (x5 == (0 : Int)))<|sV (rB (x5 == (0 : Int)))<|sA rfl<|sN<|qR ?_
   exact oI h▸qD
  refine sM rfl<|k3<|sK<|sU<|sA rfl<|sN<|qR ?_
  exact oI h▸qD
 refine WO.pD (v := rB false) (u := []) rfl rfl (fun _ => rfl) rfl rfl rfl rfl rfl (bv hx1) rfl rfl (congrArg (fun b => RV.d (.bool b)) hb2) rfl<|sM rfl<|sK<|sK<|sU<|sM rfl<|k3<|sK<|sU<|sA rfl<|sN<|qR ?_
 exact oI h▸qD
theorem nF {a0 : aj} {a1 : aj} {r : Bool} (h : gO a0 a1 = some r) : EvP prog aH ext 161 [.d (aj.pd a0), .d (aj.pd a1)] [] (rB r, []) := by
 refine Ev.body rfl Tryz.func161 rfl (by kernel_rfl)<|gS rfl rfl<|sB (.ptr 32 0) 32 (.var (aj.rc a0))<|sB (.ptr 48 0) 48 (.var (aj.rc a1))<|sU<|sN<|gS rfl rfl<|sV (.d (aj.pd a0))<|bE h fun x1 hx1 h => pb h (fun hb2 h => ?_) (fun hb2 h => ?_)
 ·refine WO.pD (v := rB true) (u := []) rfl rfl (fun _ => rfl) rfl rfl rfl rfl rfl (bv hx1) rfl rfl (congrArg (fun b => RV.d (.bool b)) hb2) rfl<|sM rfl<|sV (.d (aj.pd a1))<|sV (.ptr 32 0)<|sV (.d (aa.pd a0.ak))<|bE h fun x3 hx3 h => cD (jp hx3)<|sF h (fun h => ?_) fun h => ?_
  ·refine sM rfl<|sV (.d (aj.pd a1))<|sV (.ptr 32 3)<|sV (.d (aa.pd a0.ae))<|bE h fun x5 hx5 h => cD (jp hx5)<|sV (rB x5)<|sA rfl<|sN<|qR ?_
   exact oI h▸qD
  refine sM rfl<|k3<|sK<|sU<|sA rfl<|sN<|qR ?_
  exact oI h▸qD
 refine WO.pD (v := rB false) (u := []) rfl rfl (fun _ => rfl) rfl rfl rfl rfl rfl (bv hx1) rfl rfl (congrArg (fun b => RV.d (.bool b)) hb2) rfl<|sM rfl<|k3<|sK<|sU<|sM rfl<|k3<|sK<|sU<|sA rfl<|sN ?_
 refine qR ?_
 exact oI h▸qD
theorem misfit_zones_ev {a0 : aw} {a1 : aj} {r : (List aM) × Int} (h : lN a0 a1 = some r) : EvP prog aH ext 162 [.d (aw.pd a0), .d (aj.pd a1)] [] (.tup [.d (.lst (r.1.map aM.pd)), rI r.2], []) := by
 refine Ev.body rfl Tryz.func162 rfl (by kernel_rfl)<|gS rfl rfl<|sB (.ptr 32 0) 32 (.var (aw.rc a0))<|sB (.ptr 48 0) 48 (.var (aj.rc a1))<|sV .jY<|sV (r0)<|sN<|gS rfl rfl<|sV (.ptr 32 9)<|sL rfl<|sE (rI (a0.aY.length : Int)) (oD _ _)<|bE h fun x1 hx1 h => WO.mkC (g := aM.pd) hx1 rfl rfl rfl rfl rfl rfl rfl rfl rfl rfl rfl<|sA rfl<|sN ?_
 refine qS<|gS rfl rfl<|sV (.ptr 32 9)<|sL rfl<|sE (rI (a0.aY.length : Int)) (oD _ _)<|sV (r0)<|sN<|bE h fun o12 ho12 h => WC.block (WC.loop (WL.oL ho12 (fun s R' B' => jX prog 0 (A R' B') (aH.at_ 162 0 3) = some (A [(2, .ptr 32 0), (3, .ptr 48 0), (6, .ref 224 0), (16, .d (.lst (a0.aY.map av.pd))), (17, rI (a0.aY.length : Int)), (18, rI s.1)] [(32, .var (aw.rc a0)), (48, .var (aj.rc a1)), (224, .arr 0 142 (s.2.map aM.pd))])) (fun o e R' B' => match o with | .inl y => e = .exit 0 ∧ jX prog 0 (A R' B') (aH.at_ 162 0 10) = some (A [(6, .ref 224 0)] [(224, .arr 0 142 (y.map aM.pd))]) | .inr r => e = .ret ∧ finish prog (aH.own 162) Tryz.f162 0 (A R' B') = some (.tup [.d (.lst (r.1.map aM.pd)), rI r.2], [])) rfl ?_ ?_))
 ·rintro ⟨s2, s3⟩ R' B' q5 hI h
  refine gS rfl hI<|sF h (fun h => ?_) fun h => ?_
  ·refine sN<|qS<|cT<|qK<|qS<|qB<|gS rfl rfl<|bE h fun x7 hx7 h => eG hx7 rfl<|sV (.d (av.pd x7))<|sB (.ptr 128 0) 128 (.var zZ3)<|sH 128 (.var (av.rc x7))<|sN<|gS rfl rfl<|sV (.ptr 32 6) ?_
   refine sV (.d (aK.pd a0.az))<|sV (.d (aj.pd a1))<|sV (.d (av.pd x7))<|bE h fun x8 hx8 h => cR (.tup [.d (aM.pd x8.1), rI x8.2]) [] (jg hx8)<|sM rfl<|sV (.d (aM.pd x8.1))<|sV (rI x8.2)<|sB (.ptr 144 0) 144 (.var [r0, r0])<|sS 144 (.var [rI x8.1.bF, rI x8.1.fTo])<|sA rfl<|sN<|qS<|gS rfl rfl<|sM rfl ?_
   refine sF h (fun h => ?_) fun h => ?_
   ·refine sN<|cT<|gS rfl rfl<|sM rfl<|sV .jY<|sA rfl<|sN<|qR ?_
    cases oI h
    exact ⟨nofun, rfl, rfl⟩
   refine sN<|cF<|qK<|WC.region rfl rfl<|sM rfl<|sV (.d (aM.pd x8.1))<|sV (.d (.lst ([x8.1].map aM.pd)))<|bE h fun x10 hx10 h => aR hx10 (fun _ => rfl) rfl<|sA rfl<|sN<|WC.region rfl rfl<|sV (rI (rW (s2 + (1 : Int))))<|sM rfl<|sN ?_
   cases oI h
   exact ⟨rfl, rfl⟩
  refine sN<|qS<|cF<|qX ?_
  cases oI h
  exact ⟨nofun, rfl, rfl⟩
 intro e R' B' he hq
 rcases o12 with y13 | r14
 ·obtain ⟨rfl, hI⟩ := hq
  refine qE<|gS rfl hI<|sM rfl<|sA rfl<|sV (r0)<|sN<|qR ?_
  exact oI h▸qD
 obtain ⟨rfl, hf⟩ := hq
 cases oI h
 exact hf
theorem ma {a0 : aw} {a1 : aj} {r : (List aM) × Int} (h : iA a0 a1 = some r) : EvP prog aH ext 125 [.d (aw.pd a0), .d (aj.pd a1)] [] (.tup [.d (.lst (r.1.map aM.pd)), rI r.2], []) := by
 refine Ev.body rfl Tryz.func125 rfl (by kernel_rfl)<|gS rfl rfl<|sB (.ptr 32 0) 32 (.var (aw.rc a0))<|sB (.ptr 48 0) 48 (.var (aj.rc a1))<|sV .jY<|sV (r0)<|sN<|qS<|gS rfl rfl<|sV (.d (aw.pd a0))<|bE h fun x1 hx1 h => cD (kz hx1)<|sA rfl<|sN<|gS rfl rfl ?_
 refine sM rfl<|sF h (fun h => ?_) fun h => ?_
 ·refine sN<|cT<|gS rfl rfl<|sM rfl<|sV .jY<|sA rfl<|sN<|qR ?_
  cases oI h
  exact qG
 refine sN<|cF<|qK<|qS<|gS rfl rfl<|sV (.d (aj.pd a1))<|sV (.ptr 32 0)<|sV (.d (aj.pd a0.ac))<|bE h fun x3 hx3 h => cD (nF hx3)<|sF h (fun h => ?_) fun h => ?_
 ·refine sN<|cT<|gS rfl rfl<|sV .jY<|sV (rI 20)<|sN<|qR ?_
  cases oI h
  exact qG
 refine sN<|cF<|qK<|gS rfl rfl<|sV (.d (aw.pd a0))<|sV (.d (aj.pd a1))<|bE h fun x5 hx5 h => cR (.tup [.d (.lst (x5.1.map aM.pd)), rI x5.2]) [] (misfit_zones_ev hx5)<|sV (.d (.lst (x5.1.map aM.pd)))<|sV (rI x5.2)<|sA rfl<|sA rfl<|sN<|qR ?_
 cases oI h
 exact qG
theorem nK {a0 : aM} {a1 : Int} {r : Int} (h : jH a0 a1 = some r) : EvP prog aH ext 180 [.d (aM.pd a0), rI a1] [] (rI r, []) := by
 refine Ev.body rfl Tryz.func180 rfl (by kernel_rfl)<|gS rfl rfl<|sB (.ptr 32 0) 32 (.var [rI a0.bF, rI a0.fTo])<|sV (r0)<|sN<|gS rfl rfl<|sV (.ptr 32 0)<|sL rfl<|sM rfl<|sV (rI (rW (a0.bF - a1)))<|sM rfl<|sV (.ptr 32 1)<|sL rfl<|sV (rI (rW (a1 - a0.fTo)))<|sV (rI (if (0 : Int) > (if (rW (a1 - a0.fTo)) > (rW (a0.bF - a1)) then (rW (a1 - a0.fTo)) else (rW (a0.bF - a1))) then (0 : Int) else (if (rW (a1 - a0.fTo)) > (rW (a0.bF - a1)) then (rW (a1 - a0.fTo)) else (rW (a0.bF - a1))))) ?_
 refine sA rfl<|sN<|qR ?_
 exact oI h▸qD
theorem mI {a0 : aw} {a1 : (List aM)} {a2 : Int} {r : Int} (h : js a0 a1 a2 = some r) : EvP prog aH ext 163 [.d (aw.pd a0), .d (.lst (a1.map aM.pd)), rI a2] [] (rI r, []) := by
 refine Ev.body rfl Tryz.func163 rfl (by kernel_rfl)<|gS rfl rfl<|sB (.ptr 48 0) 48 (.var (aw.rc a0))<|sV (r0)<|sN<|gS rfl rfl<|sV (r0)<|sN<|qS<|gS rfl rfl<|sV (.ptr 48 9)<|sL rfl<|sE (rI (a0.aY.length : Int)) (oD _ _)<|sV (r0)<|sN ?_
 refine bE h fun o11 ho11 h => WC.block (WC.loop (WL.oL ho11 (fun s R' B' => jX prog 0 (A R' B') (aH.at_ 163 0 3) = some (A [(1, .d (.lst (a1.map aM.pd))), (2, rI a2), (3, .ptr 48 0), (7, rI s.1), (11, .d (.lst (a0.aY.map av.pd))), (12, rI (a0.aY.length : Int)), (13, rI s.2)] [(48, .var (aw.rc a0))])) (fun o e R' B' => e = .exit 0 ∧ jX prog 0 (A R' B') (aH.at_ 163 0 8) = some (A [(7, rI o)] [])) rfl ?_ ?_))
 ·rintro ⟨s1, s2⟩ R' B' q4 hI h
  refine gS rfl hI<|sF h (fun h => ?_) fun h => ?_
  ·refine sN<|qS<|cT<|qK<|qS<|qB<|gS rfl rfl<|sM rfl<|bE h fun x6 hx6 h => eG hx6 rfl<|sV (.d (av.pd x6))<|sB (.ptr 144 0) 144 (.var zZ3)<|sA rfl<|sH 144 (.var (av.rc x6))<|sN ?_
   refine gS rfl rfl<|sM rfl<|sM rfl<|sE (rI (a1.length : Int)) (oD _ _)<|sF h (fun h => ?_) fun h => ?_
   ·refine sN<|cT<|WC.pC rfl rfl<|sM rfl<|sV (.ptr 144 5)<|sL rfl<|sV (.ptr 48 10)<|sL rfl<|sM rfl<|sM rfl<|bE h fun x8 hx8 h => eG hx8 rfl<|sV (.d (aM.pd x8))<|sM rfl<|bE h fun x9 hx9 h => ?_
    refine cD (nK hx9)<|sV (rI (if x9 < a0.bG then x9 else a0.bG))<|sV (rI (rW (x6.gi * (if x9 < a0.bG then x9 else a0.bG))))<|sV (rI (rW (s1 + (rW (x6.gi * (if x9 < a0.bG then x9 else a0.bG))))))<|sA rfl ?_
    refine sN<|sO<|WC.region rfl rfl<|sV (rI (rW (s2 + (1 : Int))))<|sM rfl<|sN ?_
    cases oI h
    exact ⟨rfl, rfl⟩
   refine sN<|cF<|qK<|WC.region rfl rfl<|sV (rI (rW (s2 + (1 : Int))))<|sM rfl<|sN ?_
   cases oI h
   exact ⟨rfl, rfl⟩
  refine sN<|qS<|cF<|qX ?_
  cases oI h
  exact ⟨nofun, rfl, rfl⟩
 intro e R' B' he hq
 obtain ⟨rfl, hI⟩ := hq
 refine qE<|gS rfl hI<|sM rfl<|sA rfl<|sN<|qR ?_
 exact oI h▸qD
theorem mG {a0 : aw} {a1 : (List aM)} {r : Int × Int} (h : jr a0 a1 = some r) : EvP prog aH ext 126 [.d (aw.pd a0), .d (.lst (a1.map aM.pd))] [] (.tup [rI r.1, rI r.2], []) := by
 refine Ev.body rfl Tryz.func126 rfl (by kernel_rfl)<|gS rfl rfl<|sB (.ptr 32 0) 32 (.var (aw.rc a0))<|sV (r0)<|sV (r0)<|sN<|gS rfl rfl<|sM rfl<|sE (rI (a1.length : Int)) (oD _ _)<|sV (rI (rW ((2 : Int) * (a1.length : Int))))<|bE h fun x1 hx1 h => WO.mkC (g := (PD.int .i64)) hx1 rfl rfl rfl rfl rfl rfl rfl rfl rfl rfl rfl<|sA rfl<|sN<|qS ?_
 refine gS rfl rfl<|sM rfl<|sE (rI (a1.length : Int)) (oD _ _)<|sV (r0)<|sN<|bE h fun o10 ho10 h => WC.block (WC.loop (WL.oL ho10 (fun s R' B' => jX prog 0 (A R' B') (aH.at_ 126 0 3) = some (A [(1, .d (.lst (a1.map aM.pd))), (2, .ptr 32 0), (6, .ref 272 0), (18, .d (.lst (a1.map aM.pd))), (19, rI (a1.length : Int)), (20, rI s.1)] [(32, .var (aw.rc a0)), (272, .arr 0 3 (s.2.map (PD.int .i64)))])) (fun o e R' B' => e = .exit 0 ∧ jX prog 0 (A R' B') (aH.at_ 126 0 7) = some (A [(1, .d (.lst (a1.map aM.pd))), (2, .ptr 32 0), (6, .ref 272 0)] [(32, .var (aw.rc a0)), (272, .arr 0 3 (o.map (PD.int .i64)))])) rfl ?_ ?_))
 ·rintro ⟨s2, s3⟩ R' B' q5 hI h
  refine gS rfl hI<|sF h (fun h => ?_) fun h => ?_
  ·refine sN<|qS<|cT<|qK<|qS<|qB<|gS rfl rfl<|bE h fun x7 hx7 h => eG hx7 rfl<|sV (.d (aM.pd x7))<|sB (.ptr 128 0) 128 (.var [r0, r0])<|sS 128 (.var [rI x7.bF, rI x7.fTo])<|sN<|WC.region rfl rfl<|sM rfl ?_
   refine sV (.ptr 128 0)<|sL rfl<|sV (.ptr 128 1)<|sL rfl<|sV (.d (.lst ([x7.bF, x7.fTo].map (PD.int .i64))))<|bE h fun x8 hx8 h => aR hx8 (fun _ => rfl) rfl<|sA rfl<|sN<|WC.region rfl rfl<|sV (rI (rW (s2 + (1 : Int))))<|sM rfl<|sN ?_
   cases oI h
   exact ⟨rfl, rfl⟩
  refine sN<|qS<|cF<|qX ?_
  cases oI h
  exact ⟨nofun, rfl, rfl⟩
 intro e R' B' he hq
 obtain ⟨rfl, hI⟩ := hq
 refine qE<|qS<|gS rfl hI<|sM rfl<|WO.uB rfl rfl rfl rfl rfl rfl rfl rfl rfl<|sF h (fun h => ?_) fun h => ?_
 ·refine sN<|cT<|gS rfl rfl<|sV (r0)<|sV (r0)<|sN<|qR ?_
  cases oI h
  exact qG
 refine sN<|cF<|qK<|WC.cI rfl rfl<|sM rfl<|bE h fun x13 hx13 h => WO.pX hx13 rfl rfl rfl rfl rfl rfl rfl rfl<|bE h fun x14 hx14 h => WO.pN hx14 rfl rfl rfl rfl rfl rfl<|sV (.d (aw.pd a0))<|sM rfl<|sM rfl<|bE h fun x16 hx16 h => WO.pX hx16 rfl rfl rfl rfl rfl rfl rfl rfl<|bE h fun x17 hx17 h => ?_
 refine WO.pN hx17 rfl rfl rfl rfl rfl rfl<|bE h fun x18 hx18 h => cD (mI hx18)<|sA rfl<|sA rfl ?_
 refine sN<|sO<|qS<|gS rfl rfl<|sM rfl<|bE h fun x19 hx19 h => WO.subR hx19 rfl rfl rfl rfl rfl rfl rfl rfl rfl rfl rfl rfl<|bE h fun x20 hx20 h => WO.lenVw hx20 rfl rfl rfl rfl rfl rfl rfl rfl rfl<|sV (r0)<|sN<|bE h fun o35 ho35 h => WC.block (WC.loop (WL.oL ho35 (fun s R' B' => jX prog 0 (A R' B') (aH.at_ 126 0 11) = some (A [(1, .d (.lst (a1.map aM.pd))), (2, .ptr 32 0), (9, rI s.1), (10, rI s.2.1), (45, .view 272 0 (0 + (1 : Int).toNat) (0 + ((o10.length : Int) : Int).toNat)), (46, rI x20), (47, rI s.2.2)] [(32, .var (aw.rc a0)), (272, .arr 0 3 (o10.map (PD.int .i64)))])) (fun o e R' B' => e = .exit 2 ∧ jX prog 0 (A R' B') (aH.at_ 126 0 17) = some (A [(9, rI o.1), (10, rI o.2)] [])) rfl ?_ ?_))
 ·rintro ⟨s21, s22, s23⟩ R' B' q26 hI h
  refine gS rfl hI<|sF h (fun h => ?_) fun h => ?_
  ·refine sN<|qS<|cT<|qK<|qS<|qB<|gS rfl rfl<|bE h fun x28 hx28 h => WO.eltV hx28 rfl rfl rfl rfl rfl rfl rfl rfl<|bE h fun x29 hx29 h => WO.pN hx29 rfl rfl rfl rfl rfl rfl<|sA rfl<|sN<|gS rfl rfl<|sV (.d (aw.pd a0)) ?_
   refine sM rfl<|sM rfl<|bE h fun x30 hx30 h => cD (mI hx30)<|sA rfl<|sN<|gS rfl rfl<|sM rfl<|sM rfl<|sF h (fun h => ?_) fun h => ?_
   ·refine sM rfl<|k3<|k3<|sK<|sK<|sT<|sN<|cT<|WC.region rfl rfl<|sM rfl<|sM rfl ?_
    refine sA rfl<|sA rfl<|sN<|WC.region rfl rfl<|sV (rI (rW (s23 + (1 : Int))))<|sM rfl<|sN ?_
    cases oI h
    exact ⟨rfl, rfl⟩
   refine sM rfl<|sM rfl<|sM rfl<|sF h (fun h => ?_) fun h => ?_
   ·refine sM rfl<|sM rfl<|sM rfl<|sV (rB (decide (x29 < s21)))<|sV (rB (decide (x29 < s21)))<|sF h (fun h => ?_) fun h => ?_
    ·refine sN<|cT<|WC.region rfl rfl<|sM rfl<|sM rfl<|sA rfl<|sA rfl<|sN<|WC.region rfl rfl<|sV (rI (rW (s23 + (1 : Int))))<|sM rfl<|sN ?_
     cases oI h
     exact ⟨rfl, rfl⟩
    refine sN<|cF<|qK<|WC.region rfl rfl<|sV (rI (rW (s23 + (1 : Int))))<|sM rfl<|sN ?_
    cases oI h
    exact ⟨rfl, rfl⟩
   refine sM rfl<|k3<|sU<|sU<|sN<|cF<|qK<|WC.region rfl rfl<|sV (rI (rW (s23 + (1 : Int))))<|sM rfl<|sN ?_
   cases oI h
   exact ⟨rfl, rfl⟩
  refine sN<|qS<|cF<|qX ?_
  cases oI h
  exact ⟨nofun, rfl, rfl⟩
 intro e R' B' he hq
 obtain ⟨rfl, hI⟩ := hq
 refine qE<|gS rfl hI<|sM rfl<|sM rfl<|sA rfl<|sA rfl<|sN<|qR ?_
 exact oI h▸qD
theorem l8 {a0 : aw} {a1 : aj} {r : Int × Int} (h : iz a0 a1 = some r) : EvP prog aH ext 92 [.d (aw.pd a0), .d (aj.pd a1)] [] (.tup [rI r.1, rI r.2], []) := by
 refine Ev.body rfl Tryz.func92 rfl (by kernel_rfl)<|gS rfl rfl<|sB (.ptr 32 0) 32 (.var (aw.rc a0))<|sB (.ptr 48 0) 48 (.var (aj.rc a1))<|sV (r0)<|sV (r0)<|sN<|gS rfl rfl<|sV (.d (aw.pd a0))<|sV (.d (aj.pd a1))<|bE h fun x1 hx1 h => cR (.tup [.d (.lst (x1.1.map aM.pd)), rI x1.2]) [] (ma hx1)<|sM rfl<|sV (.d (.lst (x1.1.map aM.pd)))<|sV (rI x1.2) ?_
 refine sA rfl<|sA rfl<|sN<|qS<|gS rfl rfl<|sM rfl<|sF h (fun h => ?_) fun h => ?_
 ·refine sN<|cT<|gS rfl rfl<|sM rfl<|sV (r0)<|sA rfl<|sN<|qR ?_
  cases oI h
  exact qG
 refine sN<|cF<|qK<|gS rfl rfl<|sV (.d (aw.pd a0))<|sM rfl<|bE h fun x3 hx3 h => cR (.tup [rI x3.1, rI x3.2]) [] (mG hx3)<|sM rfl<|sV (rI x3.1)<|sV (rI x3.2)<|sA rfl<|sA rfl<|sN<|gS rfl rfl ?_
 refine sM rfl<|sA rfl<|sV (r0)<|sN<|qR ?_
 cases oI h
 exact qG
theorem queue_Push_ev {a0 : ai} {e1 : aw} {e2 : Int} {e3 : Int} {e4 : Bool} {e5 : aF} {r : (List ai)} (h : nN a0 e1 e2 e3 e4 e5 = some r) : EvP prog aH ext 213 [.ptr 0 11, .ifc 123 (.d (ai.pd a0))] [.var [rI e1.ac.ak.fX, rI e1.ac.ak.fY, rI e1.ac.ak.fZ, rI e1.ac.ae.fX, rI e1.ac.ae.fY, rI e1.ac.ae.fZ, rI e1.az.aT, .d (.lst (e1.az.ak.map (PD.int .i64))), .d (.lst (e1.az.ae.map (PD.int .i64))), .d (.lst (e1.aY.map av.pd)), rI e1.bG, .jY, rI e2, rI e3, rB e4, rI e5.aC.fX, rI e5.aC.fY, rI e5.aC.fZ, rI e5.a8, rI e5.aS, rI e5.bc, rI e5.ar.ak.fX, rI e5.ar.ak.fY, rI e5.ar.ak.fZ, rI e5.ar.ae.fX, rI e5.ar.ae.fY, rI e5.ar.ae.fZ]] (.tup [], [.var [rI e1.ac.ak.fX, rI e1.ac.ak.fY, rI e1.ac.ak.fZ, rI e1.ac.ae.fX, rI e1.ac.ae.fY, rI e1.ac.ae.fZ, rI e1.az.aT, .d (.lst (e1.az.ak.map (PD.int .i64))), .d (.lst (e1.az.ae.map (PD.int .i64))), .d (.lst (e1.aY.map av.pd)), rI e1.bG, .ref 1 0, rI e2, rI e3, rB e4, rI e5.aC.fX, rI e5.aC.fY, rI e5.aC.fZ, rI e5.a8, rI e5.aS, rI e5.bc, rI e5.ar.ak.fX, rI e5.ar.ak.fY, rI e5.ar.ak.fZ, rI e5.ar.ae.fX, rI e5.ar.ae.fY, rI e5.ar.ae.fZ], .arr 0 123 (r.map ai.pd)]) := by
 refine Ev.body rfl Tryz.func213 rfl (by kernel_rfl)<|gS rfl rfl<|sM rfl<|sG (.tup [.d (ai.pd a0), rB true])<|sM rfl<|sV (.d (ai.pd a0))<|sT<|sB (.ptr 64 0) 64 (.var [r0, r0, r0, r0, r0, r0, r0, r0])<|sH 64 (.var (ai.rc a0))<|sA rfl<|sN<|gS rfl rfl<|sM rfl<|sN<|cT ?_
 refine WC.pC rfl rfl<|sM rfl<|sM rfl<|sV (.ptr 0 11)<|sL rfl<|sV (.d (ai.pd a0))<|sG (.d (.lst ([a0].map ai.pd)))<|bE h fun x1 hx1 h => WO.appN hx1 (fun _ => rfl) rfl rfl rfl rfl rfl rfl rfl rfl rfl rfl rfl rfl rfl rfl<|sV (.ptr 0 11)<|sS 0 (.var [rI e1.ac.ak.fX, rI e1.ac.ak.fY, rI e1.ac.ak.fZ, rI e1.ac.ae.fX, rI e1.ac.ae.fY, rI e1.ac.ae.fZ, rI e1.az.aT, .d (.lst (e1.az.ak.map (PD.int .i64))), .d (.lst (e1.az.ae.map (PD.int .i64))), .d (.lst (e1.aY.map av.pd)), rI e1.bG, .ref 288 0, rI e2, rI e3, rB e4, rI e5.aC.fX, rI e5.aC.fY, rI e5.aC.fZ, rI e5.a8, rI e5.aS, rI e5.bc, rI e5.ar.ak.fX, rI e5.ar.ak.fY, rI e5.ar.ak.fZ, rI e5.ar.ae.fX, rI e5.ar.ae.fY, rI e5.ar.ae.fZ]) ?_
 refine sN<|sO ?_
 cases oI h
 exact qG
theorem k9 {d0 : (List ai)} {r : Int × (List ai)} (h : hC d0 = some r) : EvP prog aH ext 209 [.ref 0 0] [.arr 0 123 (d0.map ai.pd)] (rI r.1, [.arr 0 123 (r.2.map ai.pd)]) := by
 refine Ev.body rfl Tryz.func209 rfl (by kernel_rfl)<|gS rfl rfl<|sV (r0)<|sN<|gS rfl rfl<|sM rfl<|WO.uB rfl rfl rfl rfl rfl rfl rfl rfl rfl<|sA rfl<|sN<|qR ?_
 exact oI h▸qD
theorem la {a1 : Int} {a2 : Int} {d0 : (List ai)} {r : (List ai)} (h : iW a1 a2 d0 = some r) : EvP prog aH ext 211 [.ref 0 0, rI a1, rI a2] [.arr 0 123 (d0.map ai.pd)] (.tup [], [.arr 0 123 (r.map ai.pd)]) := by
 refine Ev.body rfl Tryz.func211 rfl (by kernel_rfl)<|WC.pC rfl rfl<|sM rfl<|sM rfl<|sM rfl<|sM rfl<|sM rfl<|sM rfl<|bE h fun x2 hx2 h => WO.pX hx2 rfl rfl rfl rfl rfl rfl rfl rfl<|bE h fun x3 hx3 h => WO.pN hx3 rfl rfl rfl rfl rfl rfl<|sM rfl<|sM rfl<|bE h fun x5 hx5 h => ?_
 refine WO.pX hx5 rfl rfl rfl rfl rfl rfl rfl rfl<|bE h fun x6 hx6 h => WO.pN hx6 rfl rfl rfl rfl rfl rfl<|bE h fun x8 hx8 h => WO.pX hx8 rfl rfl rfl rfl rfl rfl rfl rfl<|bE h fun x9 hx9 h => WO.rZ (g := ai.pd) (sz := 8) (p := ai.pd x3) hx9 (by intro _; kernel_rfl) (by intro _; kernel_rfl) rfl rfl rfl rfl rfl rfl rfl rfl rfl<|bE h fun x11 hx11 h => WO.pX hx11 rfl rfl rfl rfl rfl rfl rfl rfl<|bE h fun x12 hx12 h => WO.rZ (g := ai.pd) (sz := 8) (p := ai.pd x6) hx12 (by intro _; kernel_rfl) (by intro _; kernel_rfl) rfl rfl rfl rfl rfl rfl rfl rfl rfl ?_
 refine sN<|sO ?_
 exact oI h▸qD
theorem kB {a1 : Int} {a2 : Int} {d0 : (List ai)} {r : Bool × (List ai)} (h : ie a1 a2 d0 = some r) : EvP prog aH ext 210 [.ref 0 0, rI a1, rI a2] [.arr 0 123 (d0.map ai.pd)] (rB r.1, [.arr 0 123 (r.2.map ai.pd)]) := by
 refine Ev.body rfl Tryz.func210 rfl (by kernel_rfl)<|gS rfl rfl<|sU<|sN<|WC.cI rfl rfl<|sM rfl<|sM rfl<|bE h fun x2 hx2 h => WO.pX hx2 rfl rfl rfl rfl rfl rfl rfl rfl<|sV (.elt 0 0 (a1).toNat 6)<|bE h fun x3 hx3 h => WO.pN hx3 rfl rfl rfl rfl rfl rfl<|sM rfl<|sM rfl<|bE h fun x5 hx5 h => ?_
 refine WO.pX hx5 rfl rfl rfl rfl rfl rfl rfl rfl<|sV (.elt 0 0 (a2).toNat 6)<|bE h fun x6 hx6 h => WO.pN hx6 rfl rfl rfl rfl rfl rfl<|bE h fun x7 hx7 h => cD (bJ hx7)<|sM rfl<|sM rfl<|bE h fun x9 hx9 h => WO.pX hx9 rfl rfl rfl rfl rfl rfl rfl rfl<|sV (.elt 0 0 (a1).toNat 7)<|bE h fun x10 hx10 h => WO.pN hx10 rfl rfl rfl rfl rfl rfl<|sM rfl<|sM rfl ?_
 refine bE h fun x12 hx12 h => WO.pX hx12 rfl rfl rfl rfl rfl rfl rfl rfl<|sV (.elt 0 0 (a2).toNat 7)<|bE h fun x13 hx13 h => WO.pN hx13 rfl rfl rfl rfl rfl rfl<|bE h fun x14 hx14 h => cD (bJ hx14)<|sV (.d (.lst ([x7, x14].map (PD.int .i64))))<|bE h fun x15 hx15 h => cD (gG hx15)<|sV (rB (decide (x15 < (0 : Int))))<|sA rfl ?_
 refine sN<|sO<|qR ?_
 exact oI h▸qD
theorem heap_up_ev {a0 : Int} {e1 : aw} {e2 : Int} {e3 : Int} {e4 : Bool} {e5 : aF} {d1 : (List ai)} {r : (List ai)} (h : oh a0 e1 e2 e3 e4 e5 d1 = some r) : EvP prog aH ext 127 [.ifc 178 (.ptr 0 11), rI a0] [.var [rI e1.ac.ak.fX, rI e1.ac.ak.fY, rI e1.ac.ak.fZ, rI e1.ac.ae.fX, rI e1.ac.ae.fY, rI e1.ac.ae.fZ, rI e1.az.aT, .d (.lst (e1.az.ak.map (PD.int .i64))), .d (.lst (e1.az.ae.map (PD.int .i64))), .d (.lst (e1.aY.map av.pd)), rI e1.bG, .ref 1 0, rI e2, rI e3, rB e4, rI e5.aC.fX, rI e5.aC.fY, rI e5.aC.fZ, rI e5.a8, rI e5.aS, rI e5.bc, rI e5.ar.ak.fX, rI e5.ar.ak.fY, rI e5.ar.ak.fZ, rI e5.ar.ae.fX, rI e5.ar.ae.fY, rI e5.ar.ae.fZ], .arr 0 123 (d1.map ai.pd)] (.tup [], [.var [rI e1.ac.ak.fX, rI e1.ac.ak.fY, rI e1.ac.ak.fZ, rI e1.ac.ae.fX, rI e1.ac.ae.fY, rI e1.ac.ae.fZ, rI e1.az.aT, .d (.lst (e1.az.ak.map (PD.int .i64))), .d (.lst (e1.az.ae.map (PD.int .i64))), .d (.lst (e1.aY.map av.pd)), rI e1.bG, .ref 1 0, rI e2, rI e3, rB e4, rI e5.aC.fX, rI e5.aC.fY, rI e5.aC.fZ, rI e5.a8, rI e5.aS, rI e5.bc, rI e5.ar.ak.fX, rI e5.ar.ak.fY, rI e5.ar.ak.fZ, rI e5.ar.ae.fX, rI e5.ar.ae.fY, rI e5.ar.ae.fZ], .arr 0 123 (r.map ai.pd)]) := by
 refine Ev.body rfl Tryz.func127 rfl (by kernel_rfl)<|bE h fun o12 ho12 h => ?_
 cases oI h
 refine WC.block (WC.loop (WL.yb ho12 (fun s R' B' => jX prog 2 (A R' B') (aH.at_ 127 2 0) = some (A [(0, .ifc 178 (.ptr 0 11)), (1, rI s.1)] [(0, .var [rI e1.ac.ak.fX, rI e1.ac.ak.fY, rI e1.ac.ak.fZ, rI e1.ac.ae.fX, rI e1.ac.ae.fY, rI e1.ac.ae.fZ, rI e1.az.aT, .d (.lst (e1.az.ak.map (PD.int .i64))), .d (.lst (e1.az.ae.map (PD.int .i64))), .d (.lst (e1.aY.map av.pd)), rI e1.bG, .ref 1 0, rI e2, rI e3, rB e4, rI e5.aC.fX, rI e5.aC.fY, rI e5.aC.fZ, rI e5.a8, rI e5.aS, rI e5.bc, rI e5.ar.ak.fX, rI e5.ar.ak.fY, rI e5.ar.ak.fZ, rI e5.ar.ae.fX, rI e5.ar.ae.fY, rI e5.ar.ae.fZ]), (1, .arr 0 123 (s.2.map ai.pd))])) rfl ?_))
 rintro ⟨s1, s2⟩ R' B' q3 hI h
 unfold mu at h
 refine qB<|gS rfl hI<|sM rfl<|sV (rI (rW (s1 - (1 : Int))))<|bE h fun x4 hx4 h => WO.sP hx4 rfl rfl rfl rfl rfl rfl<|sA rfl<|sN<|qS<|gS rfl rfl<|sM rfl<|sM rfl<|sF h (fun h => ?_) fun h => ?_
 ·refine sM rfl<|k3<|sK<|sK<|sT<|sN<|cT<|qX<|⟨fun he => (by cases he), fun _ => ?_⟩
  refine uh h (fun z6 hkz6 hz => ?_)
  obtain rfl := Option.some.inj hz
  refine ⟨(fun he => by cases he), fun hz2 => ?_⟩
  subst hz2
  have h := hkz6
  refine qE ?_
  cases oI h
  exact qG
 refine sM rfl<|sM rfl<|sM rfl<|sM rfl<|bE h fun x7 hx7 h => WO.vo (e := 119) (c := .ptr 0 11) (vl := .ref 1 0) (g := 210) (args := [rI s1, rI x4]) (v := rB x7.1) (u := [(1, .arr 0 123 (x7.2.map ai.pd))]) rfl rfl (by intro _; kernel_rfl) rfl rfl rfl rfl rfl rfl (kB hx7) rfl rfl rfl rfl<|sV (rB (!x7.1))<|sF h (fun h => ?_) fun h => ?_
 ·refine sN<|cT<|qX<|⟨fun he => (by cases he), fun _ => ?_⟩
  refine uh h (fun z9 hkz9 hz => ?_)
  obtain rfl := Option.some.inj hz
  refine ⟨(fun he => by cases he), fun hz2 => ?_⟩
  subst hz2
  have h := hkz9
  refine qE ?_
  cases oI h
  exact qG
 refine sN<|cF<|qK<|gS rfl rfl<|sM rfl<|sM rfl<|sM rfl<|bE h fun x10 hx10 h => WO.vo (e := 119) (c := .ptr 0 11) (vl := .ref 1 0) (g := 211) (args := [rI x4, rI s1]) (v := .tup []) (u := [(1, .arr 0 123 (x10.map ai.pd))]) rfl rfl (by intro _; kernel_rfl) rfl rfl rfl rfl rfl rfl (la hx10) rfl rfl rfl rfl<|sN<|WC.region rfl rfl<|sM rfl<|sA rfl<|sN ?_
 cases oI h
 exact ⟨rfl, rfl⟩
theorem heap_Push_ev {a0 : ai} {e1 : aw} {e2 : Int} {e3 : Int} {e4 : Bool} {e5 : aF} {r : (List ai)} (h : mW a0 e1 e2 e3 e4 e5 = some r) : EvP prog aH ext 93 [.ifc 178 (.ptr 0 11), .ifc 123 (.d (ai.pd a0))] [.var [rI e1.ac.ak.fX, rI e1.ac.ak.fY, rI e1.ac.ak.fZ, rI e1.ac.ae.fX, rI e1.ac.ae.fY, rI e1.ac.ae.fZ, rI e1.az.aT, .d (.lst (e1.az.ak.map (PD.int .i64))), .d (.lst (e1.az.ae.map (PD.int .i64))), .d (.lst (e1.aY.map av.pd)), rI e1.bG, .jY, rI e2, rI e3, rB e4, rI e5.aC.fX, rI e5.aC.fY, rI e5.aC.fZ, rI e5.a8, rI e5.aS, rI e5.bc, rI e5.ar.ak.fX, rI e5.ar.ak.fY, rI e5.ar.ak.fZ, rI e5.ar.ae.fX, rI e5.ar.ae.fY, rI e5.ar.ae.fZ]] (.tup [], [.var [rI e1.ac.ak.fX, rI e1.ac.ak.fY, rI e1.ac.ak.fZ, rI e1.ac.ae.fX, rI e1.ac.ae.fY, rI e1.ac.ae.fZ, rI e1.az.aT, .d (.lst (e1.az.ak.map (PD.int .i64))), .d (.lst (e1.az.ae.map (PD.int .i64))), .d (.lst (e1.aY.map av.pd)), rI e1.bG, .ref 1 0, rI e2, rI e3, rB e4, rI e5.aC.fX, rI e5.aC.fY, rI e5.aC.fZ, rI e5.a8, rI e5.aS, rI e5.bc, rI e5.ar.ak.fX, rI e5.ar.ak.fY, rI e5.ar.ak.fZ, rI e5.ar.ae.fX, rI e5.ar.ae.fY, rI e5.ar.ae.fZ], .arr 0 123 (r.map ai.pd)]) := by
 refine Ev.body rfl Tryz.func93 rfl (by kernel_rfl)<|gS rfl rfl<|sM rfl<|sM rfl<|bE h fun x1 hx1 h => WO.pD (g := 213) (args := [.ptr 0 11, .ifc 123 (.d (ai.pd a0))]) (v := .tup []) (u := [(0, .var [rI e1.ac.ak.fX, rI e1.ac.ak.fY, rI e1.ac.ak.fZ, rI e1.ac.ae.fX, rI e1.ac.ae.fY, rI e1.ac.ae.fZ, rI e1.az.aT, .d (.lst (e1.az.ak.map (PD.int .i64))), .d (.lst (e1.az.ae.map (PD.int .i64))), .d (.lst (e1.aY.map av.pd)), rI e1.bG, .ref 96 0, rI e2, rI e3, rB e4, rI e5.aC.fX, rI e5.aC.fY, rI e5.aC.fZ, rI e5.a8, rI e5.aS, rI e5.bc, rI e5.ar.ak.fX, rI e5.ar.ak.fY, rI e5.ar.ak.fZ, rI e5.ar.ae.fX, rI e5.ar.ae.fY, rI e5.ar.ae.fZ]), (96, .arr 0 123 (x1.map ai.pd))]) rfl rfl (by intro _; kernel_rfl) rfl rfl rfl rfl rfl (queue_Push_ev hx1) rfl rfl rfl rfl<|sN<|WC.region rfl rfl<|sM rfl<|sM rfl<|bE h fun x2 hx2 h => WO.vo (e := 119) (c := .ptr 0 11) (vl := .ref 96 0) (g := 209) (args := []) (v := rI x2.1) (u := [(96, .arr 0 123 (x2.2.map ai.pd))]) rfl rfl (by intro _; kernel_rfl) rfl rfl rfl rfl rfl rfl (k9 hx2) rfl rfl rfl rfl<|sV (rI (rW (x2.1 - (1 : Int))))<|bE h fun x3 hx3 h => cR (.tup []) [(0, .var [rI e1.ac.ak.fX, rI e1.ac.ak.fY, rI e1.ac.ak.fZ, rI e1.ac.ae.fX, rI e1.ac.ae.fY, rI e1.ac.ae.fZ, rI e1.az.aT, .d (.lst (e1.az.ak.map (PD.int .i64))), .d (.lst (e1.az.ae.map (PD.int .i64))), .d (.lst (e1.aY.map av.pd)), rI e1.bG, .ref 96 0, rI e2, rI e3, rB e4, rI e5.aC.fX, rI e5.aC.fY, rI e5.aC.fZ, rI e5.a8, rI e5.aS, rI e5.bc, rI e5.ar.ak.fX, rI e5.ar.ak.fY, rI e5.ar.ak.fZ, rI e5.ar.ae.fX, rI e5.ar.ae.fY, rI e5.ar.ae.fZ]), (96, .arr 0 123 (x3.map ai.pd))] (heap_up_ev hx3) ?_
 refine sN ?_
 cases oI h
 exact qG
theorem search_add_ev {a0 : aj} {e1 : aw} {e2 : Int} {e3 : Int} {e4 : Bool} {e5 : aF} {r : Int × (List ai) × Int} (h : lU a0 e1 e2 e3 e4 e5 = some r) : EvP prog aH ext 61 [.ptr 0 0, .d (aj.pd a0)] [.var [rI e1.ac.ak.fX, rI e1.ac.ak.fY, rI e1.ac.ak.fZ, rI e1.ac.ae.fX, rI e1.ac.ae.fY, rI e1.ac.ae.fZ, rI e1.az.aT, .d (.lst (e1.az.ak.map (PD.int .i64))), .d (.lst (e1.az.ae.map (PD.int .i64))), .d (.lst (e1.aY.map av.pd)), rI e1.bG, .jY, rI e2, rI e3, rB e4, rI e5.aC.fX, rI e5.aC.fY, rI e5.aC.fZ, rI e5.a8, rI e5.aS, rI e5.bc, rI e5.ar.ak.fX, rI e5.ar.ak.fY, rI e5.ar.ak.fZ, rI e5.ar.ae.fX, rI e5.ar.ae.fY, rI e5.ar.ae.fZ]] (rI r.1, [.var [rI e1.ac.ak.fX, rI e1.ac.ak.fY, rI e1.ac.ak.fZ, rI e1.ac.ae.fX, rI e1.ac.ae.fY, rI e1.ac.ae.fZ, rI e1.az.aT, .d (.lst (e1.az.ak.map (PD.int .i64))), .d (.lst (e1.az.ae.map (PD.int .i64))), .d (.lst (e1.aY.map av.pd)), rI e1.bG, .ref 1 0, rI r.2.2, rI e3, rB e4, rI e5.aC.fX, rI e5.aC.fY, rI e5.aC.fZ, rI e5.a8, rI e5.aS, rI e5.bc, rI e5.ar.ak.fX, rI e5.ar.ak.fY, rI e5.ar.ak.fZ, rI e5.ar.ae.fX, rI e5.ar.ae.fY, rI e5.ar.ae.fZ], .arr 0 123 (r.2.1.map ai.pd)]) := by
 refine Ev.body rfl Tryz.func61 rfl (by kernel_rfl)<|gS rfl rfl<|sB (.ptr 48 0) 48 (.var (aj.rc a0))<|sV (r0)<|sN<|WC.cI rfl rfl<|sM rfl<|sV (.ptr 0 0)<|sV (.ptr 0 0)<|sV (.d (aw.pd e1))<|sV (.d (aj.pd a0))<|bE h fun x1 hx1 h => cR (.tup [rI x1.1, rI x1.2]) [] (l8 hx1)<|sM rfl<|sV (rI x1.1) ?_
 refine sV (rI x1.2)<|sA rfl<|sA rfl ?_
 refine sN<|sO<|WC.join (α := Int × (List ai)) (fun x R' B' => jX prog 1 (A R' B') (aH.at_ 61 1 5) = some (A [(6, rI x1.2)] [(0, .var [rI e1.ac.ak.fX, rI e1.ac.ak.fY, rI e1.ac.ak.fZ, rI e1.ac.ae.fX, rI e1.ac.ae.fY, rI e1.ac.ae.fZ, rI e1.az.aT, .d (.lst (e1.az.ak.map (PD.int .i64))), .d (.lst (e1.az.ae.map (PD.int .i64))), .d (.lst (e1.aY.map av.pd)), rI e1.bG, .ref 90081 0, rI x.1, rI e3, rB e4, rI e5.aC.fX, rI e5.aC.fY, rI e5.aC.fZ, rI e5.a8, rI e5.aS, rI e5.bc, rI e5.ar.ak.fX, rI e5.ar.ak.fY, rI e5.ar.ak.fZ, rI e5.ar.ae.fX, rI e5.ar.ae.fY, rI e5.ar.ae.fZ]), (90081, .arr 0 123 (x.2.map ai.pd))])) (fun x => jl x1 x.1 x.2 = some r) ?_ ?_
 ·refine gS rfl rfl<|sM rfl<|sF h (fun h => ?_) fun h => ?_
  ·refine sN<|cT<|WC.cI rfl rfl<|sM rfl<|sV (.ptr 0 0)<|sV (.ptr 0 11)<|sG (.ifc 178 (.ptr 0 11))<|sV (.d (aj.pd a0))<|sM rfl<|sM rfl<|sV (.ptr 0 0)<|sV (.ptr 0 12)<|sL rfl<|sG (.d (ai.pd (ai.mk a0 x1.1 e2)))<|sG (.ifc 123 (.d (ai.pd (ai.mk a0 x1.1 e2)))) ?_
   refine bE h fun x6 hx6 h => cR (.tup []) [(0, .var [rI e1.ac.ak.fX, rI e1.ac.ak.fY, rI e1.ac.ak.fZ, rI e1.ac.ae.fX, rI e1.ac.ae.fY, rI e1.ac.ae.fZ, rI e1.az.aT, .d (.lst (e1.az.ak.map (PD.int .i64))), .d (.lst (e1.az.ae.map (PD.int .i64))), .d (.lst (e1.aY.map av.pd)), rI e1.bG, .ref 480 0, rI e2, rI e3, rB e4, rI e5.aC.fX, rI e5.aC.fY, rI e5.aC.fZ, rI e5.a8, rI e5.aS, rI e5.bc, rI e5.ar.ak.fX, rI e5.ar.ak.fY, rI e5.ar.ak.fZ, rI e5.ar.ae.fX, rI e5.ar.ae.fY, rI e5.ar.ae.fZ]), (480, .arr 0 123 (x6.map ai.pd))] (heap_Push_ev hx6) ?_
   exact sN<|sO<|WC.region rfl rfl<|sM rfl<|sV (.ptr 0 0)<|sV (.ptr 0 12)<|sL rfl<|sV (rI (rW (e2 + (1 : Int))))<|sV (.ptr 0 0)<|sV (.ptr 0 12)<|sS 0 (.var [rI e1.ac.ak.fX, rI e1.ac.ak.fY, rI e1.ac.ak.fZ, rI e1.ac.ae.fX, rI e1.ac.ae.fY, rI e1.ac.ae.fZ, rI e1.az.aT, .d (.lst (e1.az.ak.map (PD.int .i64))), .d (.lst (e1.az.ae.map (PD.int .i64))), .d (.lst (e1.aY.map av.pd)), rI e1.bG, .ref 480 0, rI (rW (e2 + (1 : Int))), rI e3, rB e4, rI e5.aC.fX, rI e5.aC.fY, rI e5.aC.fZ, rI e5.a8, rI e5.aS, rI e5.bc, rI e5.ar.ak.fX, rI e5.ar.ak.fY, rI e5.ar.ak.fZ, rI e5.ar.ae.fX, rI e5.ar.ae.fY, rI e5.ar.ae.fZ])<|sN<|⟨((rW (e2 + (1 : Int))), x6), rfl, h⟩
  exact sN<|cF<|qK<|⟨(e2, ([] : List ai)), rfl, h⟩
 rintro ⟨j2, j3⟩ R' B' hI h
 refine gS rfl hI<|sM rfl<|sA rfl<|sN<|qR ?_
 cases oI h
 exact qG
theorem search_ended_ev {a0 : Int} {e1 : aw} {e2 : Int} {e3 : Int} {e4 : Bool} {e5 : aF} {d1 : (List ai)} {r : Bool} (h : jZ a0 e1 e2 e3 e4 e5 d1 = some r) : EvP prog aH ext 62 [.ptr 0 0, rI a0] [.var [rI e1.ac.ak.fX, rI e1.ac.ak.fY, rI e1.ac.ak.fZ, rI e1.ac.ae.fX, rI e1.ac.ae.fY, rI e1.ac.ae.fZ, rI e1.az.aT, .d (.lst (e1.az.ak.map (PD.int .i64))), .d (.lst (e1.az.ae.map (PD.int .i64))), .d (.lst (e1.aY.map av.pd)), rI e1.bG, .ref 1 0, rI e2, rI e3, rB e4, rI e5.aC.fX, rI e5.aC.fY, rI e5.aC.fZ, rI e5.a8, rI e5.aS, rI e5.bc, rI e5.ar.ak.fX, rI e5.ar.ak.fY, rI e5.ar.ak.fZ, rI e5.ar.ae.fX, rI e5.ar.ae.fY, rI e5.ar.ae.fZ], .arr 0 123 (d1.map ai.pd)] (rB r, [.var [rI e1.ac.ak.fX, rI e1.ac.ak.fY, rI e1.ac.ak.fZ, rI e1.ac.ae.fX, rI e1.ac.ae.fY, rI e1.ac.ae.fZ, rI e1.az.aT, .d (.lst (e1.az.ak.map (PD.int .i64))), .d (.lst (e1.az.ae.map (PD.int .i64))), .d (.lst (e1.aY.map av.pd)), rI e1.bG, .ref 1 0, rI e2, rI e3, rB e4, rI e5.aC.fX, rI e5.aC.fY, rI e5.aC.fZ, rI e5.a8, rI e5.aS, rI e5.bc, rI e5.ar.ak.fX, rI e5.ar.ak.fY, rI e5.ar.ak.fZ, rI e5.ar.ae.fX, rI e5.ar.ae.fY, rI e5.ar.ae.fZ], .arr 0 123 (d1.map ai.pd)]) := by
 refine Ev.body rfl Tryz.func62 rfl (by kernel_rfl)<|gS rfl rfl<|sU<|sN<|WC.cI rfl rfl<|sM rfl<|sV (.ptr 0 0)<|sV (.ptr 0 11)<|sL rfl<|WO.uB rfl rfl rfl rfl rfl rfl rfl rfl rfl<|sF h (fun h => ?_) fun h => ?_
 ·refine sM rfl<|k3<|k3<|k3<|k3<|sK<|sK ?_
  refine k3<|k3<|sK<|sT<|sA rfl ?_
  refine sN<|sO<|qR ?_
  cases oI h
  exact qG
 refine sM rfl<|sM rfl<|sV (.ptr 0 0)<|sV (.ptr 0 14)<|sF h (fun h => ?_) fun h => ?_
 ·refine sM rfl<|sM rfl<|sV (.ptr 0 0)<|sV (.ptr 0 15)<|sV (.ptr 0 19)<|sL rfl<|sM rfl<|sV (.ptr 0 0)<|sV (.ptr 0 11)<|sL rfl<|bE h fun x4 hx4 h => WO.pX hx4 rfl rfl rfl rfl rfl rfl rfl rfl<|sV (.elt 1 0 ((0 : Int)).toNat 6)<|bE h fun x5 hx5 h => WO.pN hx5 rfl rfl rfl rfl rfl rfl ?_
  refine sV (rI (rW (e5.aS - x5.dt)))<|sM rfl<|sV (rB (decide ((rW (e5.aS - x5.dt)) ≤ a0)))<|sV (rB (decide ((rW (e5.aS - x5.dt)) ≤ a0)))<|sV (rB (decide ((rW (e5.aS - x5.dt)) ≤ a0)))<|sA rfl ?_
  refine sN<|sO<|qR ?_
  cases oI h
  exact qG
 refine sM rfl<|k3<|k3<|k3<|k3<|sK<|sK ?_
 refine sK<|sU<|sU<|sA rfl ?_
 refine sN<|sO<|qR ?_
 cases oI h
 exact qG
theorem heap_down_ev {a0 : Int} {a1 : Int} {e2 : aw} {e3 : Int} {e4 : Int} {e5 : Bool} {e6 : aF} {d1 : (List ai)} {r : Bool × (List ai)} (h : mX a0 a1 e2 e3 e4 e5 e6 d1 = some r) : EvP prog aH ext 128 [.ifc 178 (.ptr 0 11), rI a0, rI a1] [.var [rI e2.ac.ak.fX, rI e2.ac.ak.fY, rI e2.ac.ak.fZ, rI e2.ac.ae.fX, rI e2.ac.ae.fY, rI e2.ac.ae.fZ, rI e2.az.aT, .d (.lst (e2.az.ak.map (PD.int .i64))), .d (.lst (e2.az.ae.map (PD.int .i64))), .d (.lst (e2.aY.map av.pd)), rI e2.bG, .ref 1 0, rI e3, rI e4, rB e5, rI e6.aC.fX, rI e6.aC.fY, rI e6.aC.fZ, rI e6.a8, rI e6.aS, rI e6.bc, rI e6.ar.ak.fX, rI e6.ar.ak.fY, rI e6.ar.ak.fZ, rI e6.ar.ae.fX, rI e6.ar.ae.fY, rI e6.ar.ae.fZ], .arr 0 123 (d1.map ai.pd)] (rB r.1, [.var [rI e2.ac.ak.fX, rI e2.ac.ak.fY, rI e2.ac.ak.fZ, rI e2.ac.ae.fX, rI e2.ac.ae.fY, rI e2.ac.ae.fZ, rI e2.az.aT, .d (.lst (e2.az.ak.map (PD.int .i64))), .d (.lst (e2.az.ae.map (PD.int .i64))), .d (.lst (e2.aY.map av.pd)), rI e2.bG, .ref 1 0, rI e3, rI e4, rB e5, rI e6.aC.fX, rI e6.aC.fY, rI e6.aC.fZ, rI e6.a8, rI e6.aS, rI e6.bc, rI e6.ar.ak.fX, rI e6.ar.ak.fY, rI e6.ar.ak.fZ, rI e6.ar.ae.fX, rI e6.ar.ae.fY, rI e6.ar.ae.fZ], .arr 0 123 (r.2.map ai.pd)]) := by
 refine Ev.body rfl Tryz.func128 rfl (by kernel_rfl)<|gS rfl rfl<|sU<|sN<|gS rfl rfl<|sM rfl<|sA rfl<|sN<|qS<|bE h fun o18 ho18 h => WC.block (WC.loop (WL.oL ho18 (fun s R' B' => jX prog 2 (A R' B') (aH.at_ 128 2 2) = some (A [(0, .ifc 178 (.ptr 0 11)), (1, rI a0), (2, rI a1), (7, rI s.1)] [(0, .var [rI e2.ac.ak.fX, rI e2.ac.ak.fY, rI e2.ac.ak.fZ, rI e2.ac.ae.fX, rI e2.ac.ae.fY, rI e2.ac.ae.fZ, rI e2.az.aT, .d (.lst (e2.az.ak.map (PD.int .i64))), .d (.lst (e2.az.ae.map (PD.int .i64))), .d (.lst (e2.aY.map av.pd)), rI e2.bG, .ref 1 0, rI e3, rI e4, rB e5, rI e6.aC.fX, rI e6.aC.fY, rI e6.aC.fZ, rI e6.a8, rI e6.aS, rI e6.bc, rI e6.ar.ak.fX, rI e6.ar.ak.fY, rI e6.ar.ak.fZ, rI e6.ar.ae.fX, rI e6.ar.ae.fY, rI e6.ar.ae.fZ]), (1, .arr 0 123 (s.2.map ai.pd))])) (fun o e R' B' => e = .exit 0 ∧ jX prog 2 (A R' B') (aH.at_ 128 2 11) = some (A [(1, rI a0), (7, rI o.1)] [(0, .var [rI e2.ac.ak.fX, rI e2.ac.ak.fY, rI e2.ac.ak.fZ, rI e2.ac.ae.fX, rI e2.ac.ae.fY, rI e2.ac.ae.fZ, rI e2.az.aT, .d (.lst (e2.az.ak.map (PD.int .i64))), .d (.lst (e2.az.ae.map (PD.int .i64))), .d (.lst (e2.aY.map av.pd)), rI e2.bG, .ref 1 0, rI e3, rI e4, rB e5, rI e6.aC.fX, rI e6.aC.fY, rI e6.aC.fZ, rI e6.a8, rI e6.aS, rI e6.bc, rI e6.ar.ak.fX, rI e6.ar.ak.fY, rI e6.ar.ak.fZ, rI e6.ar.ae.fX, rI e6.ar.ae.fY, rI e6.ar.ae.fZ]), (1, .arr 0 123 (o.2.map ai.pd))])) rfl ?_ ?_))
 ·rintro ⟨s1, s2⟩ R' B' q5 hI h
  refine qB<|gS rfl hI<|sM rfl<|sV (rI (rW ((2 : Int) * s1)))<|sV (rI (rW ((rW ((2 : Int) * s1)) + (1 : Int))))<|sA rfl<|sN<|qS<|gS rfl rfl<|sM rfl<|sM rfl<|sF h (fun h => ?_) fun h => ?_
  ·refine sM rfl<|sK<|sK<|sT<|sN<|cT<|qX<|⟨fun he => (by cases he), fun _ => ?_⟩
   cases oI h
   exact ⟨nofun, rfl, rfl⟩
  refine sM rfl<|sM rfl<|sV (rB (decide ((rW ((rW ((2 : Int) * s1)) + (1 : Int))) < (0 : Int))))<|sF h (fun h => ?_) fun h => ?_
  ·refine sN<|cT<|qX<|⟨fun he => (by cases he), fun _ => ?_⟩
   cases oI h
   exact ⟨nofun, rfl, rfl⟩
  refine sN<|cF<|qK<|gS rfl rfl<|sM rfl<|sA rfl<|sN<|WC.join (α := Int × (List ai)) (fun x R' B' => jX prog 2 (A R' B') (aH.at_ 128 2 8) = some (A [(0, .ifc 178 (.ptr 0 11)), (1, rI a0), (2, rI a1), (7, rI s1), (9, rI x.1)] [(0, .var [rI e2.ac.ak.fX, rI e2.ac.ak.fY, rI e2.ac.ak.fZ, rI e2.ac.ae.fX, rI e2.ac.ae.fY, rI e2.ac.ae.fZ, rI e2.az.aT, .d (.lst (e2.az.ak.map (PD.int .i64))), .d (.lst (e2.az.ae.map (PD.int .i64))), .d (.lst (e2.aY.map av.pd)), rI e2.bG, .ref 1 0, rI e3, rI e4, rB e5, rI e6.aC.fX, rI e6.aC.fY, rI e6.aC.fZ, rI e6.a8, rI e6.aS, rI e6.bc, rI e6.ar.ak.fX, rI e6.ar.ak.fY, rI e6.ar.ak.fZ, rI e6.ar.ae.fX, rI e6.ar.ae.fY, rI e6.ar.ae.fZ]), (1, .arr 0 123 (x.2.map ai.pd))])) (fun x => fI s1 x.1 x.2 = some q5) ?_ ?_
  ·refine gS rfl rfl<|sM rfl<|sV (rI (rW ((rW ((rW ((2 : Int) * s1)) + (1 : Int))) + (1 : Int))))<|sA rfl<|sN<|gS rfl rfl<|sM rfl<|sM rfl<|sF h (fun h => ?_) fun h => ?_
   ·refine sM rfl<|sM rfl<|sM rfl<|sM rfl<|bE h fun x15 hx15 h => WO.vo (e := 119) (c := .ptr 0 11) (vl := .ref 1 0) (g := 210) (args := [rI (rW ((rW ((rW ((2 : Int) * s1)) + (1 : Int))) + (1 : Int))), rI (rW ((rW ((2 : Int) * s1)) + (1 : Int)))]) (v := rB x15.1) (u := [(1, .arr 0 123 (x15.2.map ai.pd))]) rfl rfl (by intro _; kernel_rfl) rfl rfl rfl rfl rfl rfl (kB hx15) rfl rfl rfl rfl<|sF h (fun h => ?_) fun h => ?_
    ·exact sN<|cT<|WC.region rfl rfl<|sM rfl<|sA rfl<|sN<|⟨((rW ((rW ((rW ((2 : Int) * s1)) + (1 : Int))) + (1 : Int))), x15.2), rfl, h⟩
    exact sN<|cF<|qK<|⟨((rW ((rW ((2 : Int) * s1)) + (1 : Int))), x15.2), rfl, h⟩
   exact sM rfl<|k3<|sK<|sU<|sN<|cF<|qK<|⟨((rW ((rW ((2 : Int) * s1)) + (1 : Int))), s2), rfl, h⟩
  rintro ⟨j8, j9⟩ R' B' hI h
  refine qS<|gS rfl hI<|sM rfl<|sM rfl<|sM rfl<|bE h fun x10 hx10 h => WO.vo (e := 119) (c := .ptr 0 11) (vl := .ref 1 0) (g := 210) (args := [rI j8, rI s1]) (v := rB x10.1) (u := [(1, .arr 0 123 (x10.2.map ai.pd))]) rfl rfl (by intro _; kernel_rfl) rfl rfl rfl rfl rfl rfl (kB hx10) rfl rfl rfl rfl<|sF h (fun h => ?_) fun h => ?_
  ·refine sN<|cT<|qX<|⟨fun he => (by cases he), fun _ => ?_⟩
   cases oI h
   exact ⟨nofun, rfl, rfl⟩
  refine sN<|cF<|qK<|gS rfl rfl<|sM rfl<|sM rfl<|sM rfl<|bE h fun x12 hx12 h => WO.vo (e := 119) (c := .ptr 0 11) (vl := .ref 1 0) (g := 211) (args := [rI s1, rI j8]) (v := .tup []) (u := [(1, .arr 0 123 (x12.map ai.pd))]) rfl rfl (by intro _; kernel_rfl) rfl rfl rfl rfl rfl rfl (la hx12) rfl rfl rfl rfl<|sN<|WC.region rfl rfl<|sM rfl<|sA rfl<|sN ?_
  cases oI h
  exact ⟨rfl, rfl⟩
 intro e R' B' he hq
 obtain ⟨rfl, hI⟩ := hq
 refine qE<|gS rfl hI<|sM rfl<|sM rfl<|sV (rB (decide (o18.1 > a0)))<|sA rfl<|sN<|qR ?_
 cases oI h
 exact qG
theorem queue_Pop_ev {e0 : aw} {e1 : Int} {e2 : Int} {e3 : Bool} {e4 : aF} {d1 : (List ai)} {r : ai × (List ai)} (h : queue_Pop e0 e1 e2 e3 e4 d1 = some r) : EvP prog aH ext 212 [.ptr 0 11] [.var [rI e0.ac.ak.fX, rI e0.ac.ak.fY, rI e0.ac.ak.fZ, rI e0.ac.ae.fX, rI e0.ac.ae.fY, rI e0.ac.ae.fZ, rI e0.az.aT, .d (.lst (e0.az.ak.map (PD.int .i64))), .d (.lst (e0.az.ae.map (PD.int .i64))), .d (.lst (e0.aY.map av.pd)), rI e0.bG, .ref 1 0, rI e1, rI e2, rB e3, rI e4.aC.fX, rI e4.aC.fY, rI e4.aC.fZ, rI e4.a8, rI e4.aS, rI e4.bc, rI e4.ar.ak.fX, rI e4.ar.ak.fY, rI e4.ar.ak.fZ, rI e4.ar.ae.fX, rI e4.ar.ae.fY, rI e4.ar.ae.fZ], .arr 0 123 (d1.map ai.pd)] (.ifc 123 (.d (ai.pd r.1)), [.var [rI e0.ac.ak.fX, rI e0.ac.ak.fY, rI e0.ac.ak.fZ, rI e0.ac.ae.fX, rI e0.ac.ae.fY, rI e0.ac.ae.fZ, rI e0.az.aT, .d (.lst (e0.az.ak.map (PD.int .i64))), .d (.lst (e0.az.ae.map (PD.int .i64))), .d (.lst (e0.aY.map av.pd)), rI e0.bG, .ref 1 1, rI e1, rI e2, rB e3, rI e4.aC.fX, rI e4.aC.fY, rI e4.aC.fZ, rI e4.a8, rI e4.aS, rI e4.bc, rI e4.ar.ak.fX, rI e4.ar.ak.fY, rI e4.ar.ak.fZ, rI e4.ar.ae.fX, rI e4.ar.ae.fY, rI e4.ar.ae.fZ], .arr 1 123 (r.2.map ai.pd)]) := by
 refine Ev.body rfl Tryz.func212 rfl (by kernel_rfl)<|gS rfl rfl<|sV (.d (.raw .nilIface))<|sN<|gS rfl rfl<|sM rfl<|sV (.ptr 0 11)<|sL rfl<|sA rfl<|sN<|gS rfl rfl<|sM rfl<|sM rfl<|WO.uB rfl rfl rfl rfl rfl rfl rfl rfl rfl<|sV (rI (rW ((d1.length : Int) - (1 : Int)))) ?_
 refine bE h fun x2 hx2 h => WO.pX hx2 rfl rfl rfl rfl rfl rfl rfl rfl<|bE h fun x3 hx3 h => WO.pN hx3 rfl rfl rfl rfl rfl rfl<|sB (.ptr 64 0) 64 (.var [r0, r0, r0, r0, r0, r0, r0, r0])<|sH 64 (.var (ai.rc x3))<|sN<|gS rfl rfl<|sM rfl<|sM rfl<|sM rfl<|WO.uB rfl rfl rfl rfl rfl rfl rfl rfl rfl<|sV (rI (rW ((d1.length : Int) - (1 : Int))))<|bE h fun x4 hx4 h => WO.resl hx4 rfl rfl rfl rfl rfl rfl rfl rfl rfl rfl rfl rfl ?_
 refine sV (.ptr 0 11)<|sS 0 (.var [rI e0.ac.ak.fX, rI e0.ac.ak.fY, rI e0.ac.ak.fZ, rI e0.ac.ae.fX, rI e0.ac.ae.fY, rI e0.ac.ae.fZ, rI e0.az.aT, .d (.lst (e0.az.ak.map (PD.int .i64))), .d (.lst (e0.az.ae.map (PD.int .i64))), .d (.lst (e0.aY.map av.pd)), rI e0.bG, .ref 1 1, rI e1, rI e2, rB e3, rI e4.aC.fX, rI e4.aC.fY, rI e4.aC.fZ, rI e4.a8, rI e4.aS, rI e4.bc, rI e4.ar.ak.fX, rI e4.ar.ak.fY, rI e4.ar.ak.fZ, rI e4.ar.ae.fX, rI e4.ar.ae.fY, rI e4.ar.ae.fZ])<|sN<|gS rfl rfl<|sV (.d (ai.pd x3))<|sG (.ifc 123 (.d (ai.pd x3)))<|sA rfl<|sN<|qR ?_
 cases oI h
 exact qG
theorem heap_Pop_ev {e0 : aw} {e1 : Int} {e2 : Int} {e3 : Bool} {e4 : aF} {d1 : (List ai)} {r : ai × (List ai)} (h : og e0 e1 e2 e3 e4 d1 = some r) : EvP prog aH ext 94 [.ifc 178 (.ptr 0 11)] [.var [rI e0.ac.ak.fX, rI e0.ac.ak.fY, rI e0.ac.ak.fZ, rI e0.ac.ae.fX, rI e0.ac.ae.fY, rI e0.ac.ae.fZ, rI e0.az.aT, .d (.lst (e0.az.ak.map (PD.int .i64))), .d (.lst (e0.az.ae.map (PD.int .i64))), .d (.lst (e0.aY.map av.pd)), rI e0.bG, .ref 1 0, rI e1, rI e2, rB e3, rI e4.aC.fX, rI e4.aC.fY, rI e4.aC.fZ, rI e4.a8, rI e4.aS, rI e4.bc, rI e4.ar.ak.fX, rI e4.ar.ak.fY, rI e4.ar.ak.fZ, rI e4.ar.ae.fX, rI e4.ar.ae.fY, rI e4.ar.ae.fZ], .arr 0 123 (d1.map ai.pd)] (.ifc 123 (.d (ai.pd r.1)), [.var [rI e0.ac.ak.fX, rI e0.ac.ak.fY, rI e0.ac.ak.fZ, rI e0.ac.ae.fX, rI e0.ac.ae.fY, rI e0.ac.ae.fZ, rI e0.az.aT, .d (.lst (e0.az.ak.map (PD.int .i64))), .d (.lst (e0.az.ae.map (PD.int .i64))), .d (.lst (e0.aY.map av.pd)), rI e0.bG, .ref 1 1, rI e1, rI e2, rB e3, rI e4.aC.fX, rI e4.aC.fY, rI e4.aC.fZ, rI e4.a8, rI e4.aS, rI e4.bc, rI e4.ar.ak.fX, rI e4.ar.ak.fY, rI e4.ar.ak.fZ, rI e4.ar.ae.fX, rI e4.ar.ae.fY, rI e4.ar.ae.fZ], .arr 1 123 (r.2.map ai.pd)]) := by
 refine Ev.body rfl Tryz.func94 rfl (by kernel_rfl)<|gS rfl rfl<|sV (.d (.raw .nilIface))<|sN<|gS rfl rfl<|sM rfl<|bE h fun x1 hx1 h => WO.vo (e := 119) (c := .ptr 0 11) (vl := .ref 1 0) (g := 209) (args := []) (v := rI x1.1) (u := [(1, .arr 0 123 (x1.2.map ai.pd))]) rfl rfl (by intro _; kernel_rfl) rfl rfl rfl rfl rfl rfl (k9 hx1) rfl rfl rfl rfl<|sV (rI (rW (x1.1 - (1 : Int))))<|sA rfl<|sN<|gS rfl rfl<|sM rfl<|sM rfl<|bE h fun x2 hx2 h => ?_
 refine WO.vo (e := 119) (c := .ptr 0 11) (vl := .ref 1 0) (g := 211) (args := [r0, rI (rW (x1.1 - (1 : Int)))]) (v := .tup []) (u := [(1, .arr 0 123 (x2.map ai.pd))]) rfl rfl (by intro _; kernel_rfl) rfl rfl rfl rfl rfl rfl (la hx2) rfl rfl rfl rfl<|sN<|gS rfl rfl<|sM rfl<|sM rfl<|bE h fun x3 hx3 h => cR (rB x3.1) [(0, .var [rI e0.ac.ak.fX, rI e0.ac.ak.fY, rI e0.ac.ak.fZ, rI e0.ac.ae.fX, rI e0.ac.ae.fY, rI e0.ac.ae.fZ, rI e0.az.aT, .d (.lst (e0.az.ak.map (PD.int .i64))), .d (.lst (e0.az.ae.map (PD.int .i64))), .d (.lst (e0.aY.map av.pd)), rI e0.bG, .ref 1 0, rI e1, rI e2, rB e3, rI e4.aC.fX, rI e4.aC.fY, rI e4.aC.fZ, rI e4.a8, rI e4.aS, rI e4.bc, rI e4.ar.ak.fX, rI e4.ar.ak.fY, rI e4.ar.ak.fZ, rI e4.ar.ae.fX, rI e4.ar.ae.fY, rI e4.ar.ae.fZ]), (1, .arr 0 123 (x3.2.map ai.pd))] (heap_down_ev hx3)<|sN<|gS rfl rfl<|sM rfl<|bE h fun x4 hx4 h => WO.pD (g := 212) (args := [.ptr 0 11]) (v := .ifc 123 (.d (ai.pd x4.1))) (u := [(0, .var [rI e0.ac.ak.fX, rI e0.ac.ak.fY, rI e0.ac.ak.fZ, rI e0.ac.ae.fX, rI e0.ac.ae.fY, rI e0.ac.ae.fZ, rI e0.az.aT, .d (.lst (e0.az.ak.map (PD.int .i64))), .d (.lst (e0.az.ae.map (PD.int .i64))), .d (.lst (e0.aY.map av.pd)), rI e0.bG, .ref 1 1, rI e1, rI e2, rB e3, rI e4.aC.fX, rI e4.aC.fY, rI e4.aC.fZ, rI e4.a8, rI e4.aS, rI e4.bc, rI e4.ar.ak.fX, rI e4.ar.ak.fY, rI e4.ar.ak.fZ, rI e4.ar.ae.fX, rI e4.ar.ae.fY, rI e4.ar.ae.fZ]), (1, .arr 1 123 (x4.2.map ai.pd))]) rfl rfl (by intro _; kernel_rfl) rfl rfl rfl rfl rfl (queue_Pop_ev hx4) rfl rfl rfl rfl<|sA rfl<|sN<|qR ?_
 cases oI h
 exact qG
theorem cz {a0 : Int} {a1 : Int} {r : Int} (h : bP a0 a1 = some r) : EvP prog aH ext 133 [rI a0, rI a1] [] (rI r, []) := by
 refine Ev.body rfl Tryz.func133 rfl (by kernel_rfl)<|gS rfl rfl<|sV (r0)<|sN<|gS rfl rfl<|sM rfl<|sM rfl<|sM rfl<|sV (rI (rW (a1 - a0)))<|bE h fun x1 hx1 h => WO.sP hx1 rfl rfl rfl rfl rfl rfl<|sV (rI (rW (a0 + x1)))<|sA rfl<|sN<|qR ?_
 exact oI h▸qD
theorem bH {a0 : aW} {r : aa} (h : bA a0 = some r) : EvP prog aH ext 66 [.d (aW.pd a0)] [] (.d (aa.pd r), []) := by
 refine Ev.body rfl Tryz.func66 rfl (by kernel_rfl)<|gS rfl rfl<|sB (.ptr 16 0) 16 (.var [rI a0.a0, rI a0.a1, rI a0.a2])<|sB (.ptr 32 0) 32 (.var [r0, r0, r0])<|sN<|gS rfl rfl<|sV (.ptr 16 0)<|sL rfl<|sV (.ptr 16 1)<|sL rfl<|sV (.ptr 16 2)<|sL rfl<|sV (.d (aa.pd (aa.mk a0.a0 a0.a1 a0.a2)))<|sS 32 (.var [rI a0.a0, rI a0.a1, rI a0.a2])<|sN ?_
 refine qR ?_
 exact oI h▸qD
theorem nD {a0 : aj} {r : aa} (h : gM a0 = some r) : EvP prog aH ext 129 [.d (aj.pd a0)] [] (.d (aa.pd r), []) := by
 refine Ev.body rfl Tryz.func129 rfl (by kernel_rfl)<|gS rfl rfl<|sB (.ptr 16 0) 16 (.var (aj.rc a0))<|sB (.ptr 32 0) 32 (.var [r0, r0, r0])<|sN<|qS<|gS rfl rfl<|sV (.d (aj.pd a0))<|bE h fun x1 hx1 h => cD (bv hx1)<|sF h (fun h => ?_) fun h => ?_
 ·refine sN<|cT<|gS rfl rfl<|sV (.d (aa.pd (aa.mk 0 0 0)))<|sS 32 (.var [r0, r0, r0])<|sN<|qR ?_
  exact oI h▸qD
 refine sN<|cF<|qK<|WC.cI rfl rfl<|sV (.ptr 16 0)<|sV (.d (aa.pd a0.ak))<|bE h fun x3 hx3 h => cD (bz hx3)<|sV (.ptr 16 3)<|sV (.d (aa.pd a0.ae))<|bE h fun x4 hx4 h => cD (bz hx4)<|sB (.ptr 48 0) 48 (.var [r0, r0, r0])<|sB (.ptr 64 0) 64 (.var [r0, r0, r0])<|sS 48 (.var [rI x3.a0, rI x3.a1, rI x3.a2]) ?_
 refine sS 64 (.var [rI x4.a0, rI x4.a1, rI x4.a2]) ?_
 refine sN<|sO<|qS<|gS rfl rfl<|sV (r0)<|sN<|WC.block (WC.loop ?_)
 refine WL.round<|WC.oX (R0 := [(2, .ptr 32 0), (3, .ptr 48 0), (4, .ptr 64 0), (16, r0)]) (B0 := [(32, .var [r0, r0, r0]), (48, .var [rI x3.a0, rI x3.a1, rI x3.a2]), (64, .var [rI x4.a0, rI x4.a1, rI x4.a2])]) rfl rfl<|sT<|sN<|qS<|cT<|qK<|qS<|qB<|gS rfl rfl<|sM rfl<|sA rfl<|sN<|WC.pC rfl rfl<|sM rfl ?_
 refine sM rfl<|sV (.ptr 48 0)<|sL rfl<|sM rfl<|sV (.ptr 64 0)<|sL rfl<|bE h fun x5 hx5 h => cD (cz hx5)<|sV (.ptr 48 0)<|sS 48 (.var [rI x5, rI x3.a1, rI x3.a2]) ?_
 refine sN<|sO<|WC.region rfl rfl<|sV (rI 1)<|sM rfl<|sN<|WL.round<|WC.oX (R0 := [(2, .ptr 32 0), (3, .ptr 48 0), (4, .ptr 64 0), (16, rI 1)]) (B0 := [(32, .var [r0, r0, r0]), (48, .var [rI x5, rI x3.a1, rI x3.a2]), (64, .var [rI x4.a0, rI x4.a1, rI x4.a2])]) rfl rfl<|sT<|sN<|qS<|cT<|qK<|qS<|qB<|gS rfl rfl ?_
 refine sM rfl<|sA rfl<|sN<|WC.pC rfl rfl<|sM rfl<|sM rfl<|sV (.ptr 48 1)<|sL rfl<|sM rfl<|sV (.ptr 64 1)<|sL rfl<|bE h fun x6 hx6 h => cD (cz hx6)<|sV (.ptr 48 1)<|sS 48 (.var [rI x5, rI x6, rI x3.a2]) ?_
 refine sN<|sO<|WC.region rfl rfl<|sV (rI 2)<|sM rfl<|sN<|WL.round<|WC.oX (R0 := [(2, .ptr 32 0), (3, .ptr 48 0), (4, .ptr 64 0), (16, rI 2)]) (B0 := [(32, .var [r0, r0, r0]), (48, .var [rI x5, rI x6, rI x3.a2]), (64, .var [rI x4.a0, rI x4.a1, rI x4.a2])]) rfl rfl<|sT<|sN<|qS<|cT<|qK<|qS<|qB<|gS rfl rfl ?_
 refine sM rfl<|sA rfl<|sN<|WC.pC rfl rfl<|sM rfl<|sM rfl<|sV (.ptr 48 2)<|sL rfl<|sM rfl<|sV (.ptr 64 2)<|sL rfl<|bE h fun x7 hx7 h => cD (cz hx7)<|sV (.ptr 48 2)<|sS 48 (.var [rI x5, rI x6, rI x7]) ?_
 refine sN<|sO<|WC.region rfl rfl<|sV (rI 3)<|sM rfl<|sN<|WL.round<|WC.oX (R0 := [(2, .ptr 32 0), (3, .ptr 48 0), (4, .ptr 64 0), (16, rI 3)]) (B0 := [(32, .var [r0, r0, r0]), (48, .var [rI x5, rI x6, rI x7]), (64, .var [rI x4.a0, rI x4.a1, rI x4.a2])]) rfl rfl<|sU<|sN<|qS<|cF<|qX<|qE<|gS rfl rfl<|sV (.d (aW.pd (aW.mk x5 x6 x7))) ?_
 refine bE h fun x8 hx8 h => cD (bH hx8)<|sS 32 (.var [rI x8.fX, rI x8.fY, rI x8.fZ])<|sN<|qR ?_
 exact oI h▸qD
theorem misfit_At_ev {a0 : aw} {a1 : aa} {r : Int × Int × Int} (h : mZ a0 a1 = some r) : EvP prog aH ext 130 [.d (aw.pd a0), .d (aa.pd a1)] [] (.tup [rI r.1, rI r.2.1, rI r.2.2], []) := by
 refine Ev.body rfl Tryz.func130 rfl (by kernel_rfl)<|gS rfl rfl<|sB (.ptr 32 0) 32 (.var (aw.rc a0))<|sB (.ptr 48 0) 48 (.var [rI a1.fX, rI a1.fY, rI a1.fZ])<|sV (r0)<|sV (r0)<|sV (r0)<|sN<|gS rfl rfl<|sV (.d (aw.pd a0))<|sV (.d (aa.pd a1))<|sV (.d (aa.pd a1))<|sG (.d (aj.pd (aj.mk a1 a1)))<|bE h fun x1 hx1 h => cR (.tup [.d (.lst (x1.1.map aM.pd)), rI x1.2]) [] (ma hx1) ?_
 refine sM rfl<|sV (.d (.lst (x1.1.map aM.pd)))<|sV (rI x1.2)<|sA rfl<|sA rfl<|sN<|qS<|gS rfl rfl<|sM rfl<|sF h (fun h => ?_) fun h => ?_
 ·refine sN<|cT<|gS rfl rfl<|sM rfl<|sV (r0)<|sV (r0)<|sA rfl<|sN<|qR ?_
  cases oI h
  exact qG
 refine sN<|cF<|qK<|gS rfl rfl<|sV (.d (aw.pd a0))<|sM rfl<|bE h fun x3 hx3 h => cR (.tup [rI x3.1, rI x3.2]) [] (mG hx3)<|sM rfl<|sV (rI x3.1)<|sV (rI x3.2)<|sA rfl<|sA rfl<|sN<|gS rfl rfl ?_
 refine sM rfl<|sM rfl<|sA rfl<|sA rfl<|sV (r0)<|sN<|qR ?_
 cases oI h
 exact qG
theorem nf {a0 : aa} {a1 : aa} {r : Int} (h : gj a0 a1 = some r) : EvP prog aH ext 131 [.d (aa.pd a0), .d (aa.pd a1)] [] (rI r, []) := by
 refine Ev.body rfl Tryz.func131 rfl (by kernel_rfl)<|gS rfl rfl<|sB (.ptr 32 0) 32 (.var [rI a0.fX, rI a0.fY, rI a0.fZ])<|sB (.ptr 48 0) 48 (.var [rI a1.fX, rI a1.fY, rI a1.fZ])<|sV (r0)<|sN<|WC.cI rfl rfl<|sV (.ptr 32 0)<|sL rfl<|sV (.ptr 48 0)<|sL rfl<|bE h fun x1 hx1 h => cD (bJ hx1)<|sV (.ptr 32 1)<|sL rfl ?_
 refine sV (.ptr 48 1)<|sL rfl<|bE h fun x2 hx2 h => cD (bJ hx2)<|sV (.ptr 32 2)<|sL rfl<|sV (.ptr 48 2)<|sL rfl<|bE h fun x3 hx3 h => cD (bJ hx3)<|sV (.d (.lst ([x1, x2, x3].map (PD.int .i64))))<|bE h fun x4 hx4 h => cD (gG hx4)<|sA rfl ?_
 refine sN<|sO<|qR ?_
 exact oI h▸qD
theorem search_look_ev {a0 : aj} {e1 : aw} {e2 : Int} {e3 : Int} {e4 : Bool} {e5 : aF} {d1 : (List ai)} {r : Int × Bool × aF} (h : kW a0 e1 e2 e3 e4 e5 d1 = some r) : EvP prog aH ext 95 [.ptr 0 0, .d (aj.pd a0)] [.var [rI e1.ac.ak.fX, rI e1.ac.ak.fY, rI e1.ac.ak.fZ, rI e1.ac.ae.fX, rI e1.ac.ae.fY, rI e1.ac.ae.fZ, rI e1.az.aT, .d (.lst (e1.az.ak.map (PD.int .i64))), .d (.lst (e1.az.ae.map (PD.int .i64))), .d (.lst (e1.aY.map av.pd)), rI e1.bG, .ref 1 0, rI e2, rI e3, rB e4, rI e5.aC.fX, rI e5.aC.fY, rI e5.aC.fZ, rI e5.a8, rI e5.aS, rI e5.bc, rI e5.ar.ak.fX, rI e5.ar.ak.fY, rI e5.ar.ak.fZ, rI e5.ar.ae.fX, rI e5.ar.ae.fY, rI e5.ar.ae.fZ], .arr 0 123 (d1.map ai.pd)] (rI r.1, [.var [rI e1.ac.ak.fX, rI e1.ac.ak.fY, rI e1.ac.ak.fZ, rI e1.ac.ae.fX, rI e1.ac.ae.fY, rI e1.ac.ae.fZ, rI e1.az.aT, .d (.lst (e1.az.ak.map (PD.int .i64))), .d (.lst (e1.az.ae.map (PD.int .i64))), .d (.lst (e1.aY.map av.pd)), rI e1.bG, .ref 1 0, rI e2, rI e3, rB r.2.1, rI r.2.2.aC.fX, rI r.2.2.aC.fY, rI r.2.2.aC.fZ, rI r.2.2.a8, rI r.2.2.aS, rI r.2.2.bc, rI r.2.2.ar.ak.fX, rI r.2.2.ar.ak.fY, rI r.2.2.ar.ak.fZ, rI r.2.2.ar.ae.fX, rI r.2.2.ar.ae.fY, rI r.2.2.ar.ae.fZ], .arr 0 123 (d1.map ai.pd)]) := by
 refine Ev.body rfl Tryz.func95 rfl (by kernel_rfl)<|gS rfl rfl<|sB (.ptr 48 0) 48 (.var (aj.rc a0))<|sV (r0)<|sN<|gS rfl rfl<|sV (.d (aj.pd a0))<|bE h fun x1 hx1 h => cD (nD hx1)<|sB (.ptr 80 0) 80 (.var [r0, r0, r0])<|sS 80 (.var [rI x1.fX, rI x1.fY, rI x1.fZ])<|sN<|WC.cI rfl rfl<|sM rfl<|sV (.ptr 0 0) ?_
 refine sV (.ptr 0 0)<|sV (.d (aw.pd e1))<|sV (.d (aa.pd x1))<|bE h fun x2 hx2 h => cR (.tup [rI x2.1, rI x2.2.1, rI x2.2.2]) [] (misfit_At_ev hx2)<|sM rfl<|sV (rI x2.1)<|sV (rI x2.2.1)<|sV (rI x2.2.2)<|sA rfl<|sA rfl<|sA rfl ?_
 refine sN<|sO<|qS<|gS rfl rfl<|sM rfl<|sF h (fun h => ?_) fun h => ?_
 ·refine sN<|cT<|gS rfl rfl<|sM rfl<|sA rfl<|sN<|qR ?_
  cases oI h
  exact qG
 refine sN<|cF<|qK<|qS<|WC.cI rfl rfl<|sM rfl<|sV (.ptr 0 0)<|sV (.ptr 0 14)<|sL rfl<|sF h (fun h => ?_) fun h => ?_
 ·refine sM rfl<|k3<|k3<|sK<|sT<|sM rfl<|k3<|sK<|sK ?_
  refine k3<|k3<|k3<|k3<|sT ?_
  refine sN<|sO<|cT<|gS rfl rfl<|sM rfl<|sV (.ptr 0 0)<|sV (.ptr 0 14)<|sS 0 (.var [rI e1.ac.ak.fX, rI e1.ac.ak.fY, rI e1.ac.ak.fZ, rI e1.ac.ae.fX, rI e1.ac.ae.fY, rI e1.ac.ae.fZ, rI e1.az.aT, .d (.lst (e1.az.ak.map (PD.int .i64))), .d (.lst (e1.az.ae.map (PD.int .i64))), .d (.lst (e1.aY.map av.pd)), rI e1.bG, .ref 1 0, rI e2, rI e3, rB true, rI e5.aC.fX, rI e5.aC.fY, rI e5.aC.fZ, rI e5.a8, rI e5.aS, rI e5.bc, rI e5.ar.ak.fX, rI e5.ar.ak.fY, rI e5.ar.ak.fZ, rI e5.ar.ae.fX, rI e5.ar.ae.fY, rI e5.ar.ae.fZ])<|sN<|WC.region rfl rfl<|sM rfl<|sV (.d (aa.pd x1))<|sM rfl<|sM rfl<|sG (.d (aF.pd (aF.mk x1 x2.1 x2.2.1 0 (aj.mk (aa.mk 0 0 0) (aa.mk 0 0 0)))))<|sV (.ptr 0 0) ?_
  refine sV (.ptr 0 15)<|sH 0 (.var [rI e1.ac.ak.fX, rI e1.ac.ak.fY, rI e1.ac.ak.fZ, rI e1.ac.ae.fX, rI e1.ac.ae.fY, rI e1.ac.ae.fZ, rI e1.az.aT, .d (.lst (e1.az.ak.map (PD.int .i64))), .d (.lst (e1.az.ae.map (PD.int .i64))), .d (.lst (e1.aY.map av.pd)), rI e1.bG, .ref 1 0, rI e2, rI e3, rB true, rI x1.fX, rI x1.fY, rI x1.fZ, rI x2.1, rI x2.2.1, r0, r0, r0, r0, r0, r0, r0])<|sN<|gS rfl rfl<|sV (r0)<|sN<|qR ?_
  cases oI h
  exact qG
 refine sM rfl<|sM rfl<|sM rfl<|sV (.ptr 0 0)<|sV (.ptr 0 15)<|sV (.ptr 0 19)<|sL rfl<|sV (rB (decide (x2.2.1 < e5.aS)))<|sF h (fun h => ?_) fun h => ?_
 ·refine sM rfl<|k3<|k3<|k3<|k3<|sK<|sK ?_
  refine k3<|sT ?_
  refine sN<|sO<|cT<|gS rfl rfl<|sM rfl<|sV (.ptr 0 0)<|sV (.ptr 0 14)<|sS 0 (.var [rI e1.ac.ak.fX, rI e1.ac.ak.fY, rI e1.ac.ak.fZ, rI e1.ac.ae.fX, rI e1.ac.ae.fY, rI e1.ac.ae.fZ, rI e1.az.aT, .d (.lst (e1.az.ak.map (PD.int .i64))), .d (.lst (e1.az.ae.map (PD.int .i64))), .d (.lst (e1.aY.map av.pd)), rI e1.bG, .ref 1 0, rI e2, rI e3, rB true, rI e5.aC.fX, rI e5.aC.fY, rI e5.aC.fZ, rI e5.a8, rI e5.aS, rI e5.bc, rI e5.ar.ak.fX, rI e5.ar.ak.fY, rI e5.ar.ak.fZ, rI e5.ar.ae.fX, rI e5.ar.ae.fY, rI e5.ar.ae.fZ])<|sN<|WC.region rfl rfl<|sM rfl<|sV (.d (aa.pd x1))<|sM rfl<|sM rfl<|sG (.d (aF.pd (aF.mk x1 x2.1 x2.2.1 0 (aj.mk (aa.mk 0 0 0) (aa.mk 0 0 0)))))<|sV (.ptr 0 0) ?_
  refine sV (.ptr 0 15)<|sH 0 (.var [rI e1.ac.ak.fX, rI e1.ac.ak.fY, rI e1.ac.ak.fZ, rI e1.ac.ae.fX, rI e1.ac.ae.fY, rI e1.ac.ae.fZ, rI e1.az.aT, .d (.lst (e1.az.ak.map (PD.int .i64))), .d (.lst (e1.az.ae.map (PD.int .i64))), .d (.lst (e1.aY.map av.pd)), rI e1.bG, .ref 1 0, rI e2, rI e3, rB true, rI x1.fX, rI x1.fY, rI x1.fZ, rI x2.1, rI x2.2.1, r0, r0, r0, r0, r0, r0, r0])<|sN<|gS rfl rfl<|sV (r0)<|sN<|qR ?_
  cases oI h
  exact qG
 refine sM rfl<|sM rfl<|sM rfl<|sV (.ptr 0 0)<|sV (.ptr 0 15)<|sV (.ptr 0 19)<|sL rfl<|sF h (fun h => ?_) fun h => ?_
 ·refine sM rfl<|sV (.d (aa.pd x1))<|sM rfl<|sV (.ptr 0 0)<|sV (.ptr 0 15)<|sV (.ptr 0 15)<|sV (.d (aa.pd e5.aC))<|bE h fun x7 hx7 h => cD (nf hx7)<|sV (rB (decide (x7 < (0 : Int))))<|sV (rB (decide (x7 < (0 : Int))))<|sF h (fun h => ?_) fun h => ?_
  ·refine sN<|sO<|cT<|gS rfl rfl<|sM rfl<|sV (.ptr 0 0)<|sV (.ptr 0 14)<|sS 0 (.var [rI e1.ac.ak.fX, rI e1.ac.ak.fY, rI e1.ac.ak.fZ, rI e1.ac.ae.fX, rI e1.ac.ae.fY, rI e1.ac.ae.fZ, rI e1.az.aT, .d (.lst (e1.az.ak.map (PD.int .i64))), .d (.lst (e1.az.ae.map (PD.int .i64))), .d (.lst (e1.aY.map av.pd)), rI e1.bG, .ref 1 0, rI e2, rI e3, rB true, rI e5.aC.fX, rI e5.aC.fY, rI e5.aC.fZ, rI e5.a8, rI e5.aS, rI e5.bc, rI e5.ar.ak.fX, rI e5.ar.ak.fY, rI e5.ar.ak.fZ, rI e5.ar.ae.fX, rI e5.ar.ae.fY, rI e5.ar.ae.fZ])<|sN<|WC.region rfl rfl<|sM rfl<|sV (.d (aa.pd x1))<|sM rfl<|sM rfl<|sG (.d (aF.pd (aF.mk x1 x2.1 x2.2.1 0 (aj.mk (aa.mk 0 0 0) (aa.mk 0 0 0)))))<|sV (.ptr 0 0) ?_
   refine sV (.ptr 0 15)<|sH 0 (.var [rI e1.ac.ak.fX, rI e1.ac.ak.fY, rI e1.ac.ak.fZ, rI e1.ac.ae.fX, rI e1.ac.ae.fY, rI e1.ac.ae.fZ, rI e1.az.aT, .d (.lst (e1.az.ak.map (PD.int .i64))), .d (.lst (e1.az.ae.map (PD.int .i64))), .d (.lst (e1.aY.map av.pd)), rI e1.bG, .ref 1 0, rI e2, rI e3, rB true, rI x1.fX, rI x1.fY, rI x1.fZ, rI x2.1, rI x2.2.1, r0, r0, r0, r0, r0, r0, r0])<|sN<|gS rfl rfl<|sV (r0)<|sN<|qR ?_
   cases oI h
   exact qG
  refine sN<|sO<|cF<|qK<|gS rfl rfl<|sV (r0)<|sN<|qR ?_
  cases oI h
  exact qG
 refine sM rfl<|k3<|k3<|sK<|sK<|sU<|sU ?_
 refine sN<|sO<|cF<|qK<|gS rfl rfl<|sV (r0)<|sN<|qR ?_
 cases oI h
 exact qG
theorem nE {a0 : aj} {r : Int} (h : gN a0 = some r) : EvP prog aH ext 132 [.d (aj.pd a0)] [] (rI r, []) := by
 refine Ev.body rfl Tryz.func132 rfl (by kernel_rfl)<|gS rfl rfl<|sB (.ptr 16 0) 16 (.var (aj.rc a0))<|sV (r0)<|sN<|qS<|gS rfl rfl<|sV (.d (aj.pd a0))<|bE h fun x1 hx1 h => cD (bv hx1)<|sF h (fun h => ?_) fun h => ?_
 ·refine sN<|cT<|gS rfl rfl<|sV (r0)<|sN<|qR ?_
  exact oI h▸qD
 refine sN<|cF<|qK<|gS rfl rfl<|sV (.ptr 16 3)<|sV (.d (aa.pd a0.ae))<|bE h fun x3 hx3 h => cD (bz hx3)<|sB (.ptr 64 0) 64 (.var [r0, r0, r0])<|sV (rI 1)<|sS 64 (.var [rI x3.a0, rI x3.a1, rI x3.a2])<|sN<|qS<|gS rfl rfl<|sV (.ptr 16 0) ?_
 refine sV (.d (aa.pd a0.ak))<|bE h fun x4 hx4 h => cD (bz hx4)<|sV (r0)<|sN<|WC.block (WC.loop ?_)
 refine WL.round<|gS rfl rfl<|sT<|sN<|qS<|cT<|qK<|qS<|qB<|gS rfl rfl<|sM rfl<|sV (rI x4.a0)<|sA rfl<|sA rfl<|sN ?_
 refine WC.region rfl rfl<|sM rfl<|sM rfl<|sV (.ptr 64 0)<|sL rfl<|sM rfl<|sV (rI (rW (x3.a0 - x4.a0)))<|sV (rI (rW ((rW (x3.a0 - x4.a0)) + (1 : Int))))<|sV (rI (rW ((1 : Int) * (rW ((rW (x3.a0 - x4.a0)) + (1 : Int))))))<|sA rfl<|sN<|WC.region rfl rfl<|sV (rI 1)<|sM rfl<|sN ?_
 refine WL.round<|gS rfl rfl<|sT<|sN<|qS<|cT<|qK<|qS<|qB<|gS rfl rfl<|sM rfl<|sV (rI x4.a1)<|sA rfl<|sA rfl<|sN ?_
 refine WC.region rfl rfl<|sM rfl<|sM rfl<|sV (.ptr 64 1)<|sL rfl<|sM rfl<|sV (rI (rW (x3.a1 - x4.a1)))<|sV (rI (rW ((rW (x3.a1 - x4.a1)) + (1 : Int))))<|sV (rI (rW ((rW ((1 : Int) * (rW ((rW (x3.a0 - x4.a0)) + (1 : Int))))) * (rW ((rW (x3.a1 - x4.a1)) + (1 : Int))))))<|sA rfl<|sN<|WC.region rfl rfl<|sV (rI 2)<|sM rfl<|sN ?_
 refine WL.round<|gS rfl rfl<|sT<|sN<|qS<|cT<|qK<|qS<|qB<|gS rfl rfl<|sM rfl<|sV (rI x4.a2)<|sA rfl<|sA rfl<|sN ?_
 refine WC.region rfl rfl<|sM rfl<|sM rfl<|sV (.ptr 64 2)<|sL rfl<|sM rfl<|sV (rI (rW (x3.a2 - x4.a2)))<|sV (rI (rW ((rW (x3.a2 - x4.a2)) + (1 : Int))))<|sV (rI (rW ((rW ((rW ((1 : Int) * (rW ((rW (x3.a0 - x4.a0)) + (1 : Int))))) * (rW ((rW (x3.a1 - x4.a1)) + (1 : Int))))) * (rW ((rW (x3.a2 - x4.a2)) + (1 : Int))))))<|sA rfl<|sN<|WC.region rfl rfl<|sV (rI 3)<|sM rfl<|sN ?_
 refine WL.round<|gS rfl rfl<|sU<|sN<|qS<|cF<|qX<|qE<|gS rfl rfl<|sM rfl<|sA rfl<|sN<|qR ?_
 exact oI h▸qD
theorem oe {a0 : aj} {r : aj × aj × Bool} (h : ir a0 = some r) : EvP prog aH ext 96 [.d (aj.pd a0)] [] (.tup [.d (aj.pd r.1), .d (aj.pd r.2.1), rB r.2.2], []) := by
 refine Ev.body rfl Tryz.func96 rfl (by kernel_rfl)<|gS rfl rfl<|sB (.ptr 16 0) 16 (.var (aj.rc a0))<|sB (.ptr 32 0) 32 (.var zZ3)<|sB (.ptr 48 0) 48 (.var zZ3)<|sU<|sN<|qS<|gS rfl rfl<|sV (.d (aj.pd a0))<|bE h fun x1 hx1 h => cD (nE hx1)<|sF h (fun h => ?_) fun h => ?_
 ·refine sN<|cT<|gS rfl rfl<|sG (.d (aj.pd (aj.mk (aa.mk 0 0 0) (aa.mk 0 0 0))))<|sG (.d (aj.pd (aj.mk (aa.mk 0 0 0) (aa.mk 0 0 0))))<|sH 32 (.var zZ3)<|sH 48 (.var zZ3)<|sU<|sN<|qR ?_
  cases oI h
  exact qG
 refine sN<|cF<|qK<|WC.cI rfl rfl<|sV (.ptr 16 0)<|sV (.d (aa.pd a0.ak))<|bE h fun x3 hx3 h => cD (bz hx3)<|sV (.ptr 16 3)<|sV (.d (aa.pd a0.ae))<|bE h fun x4 hx4 h => cD (bz hx4)<|sB (.ptr 80 0) 80 (.var [r0, r0, r0])<|sB (.ptr 96 0) 96 (.var [r0, r0, r0])<|sS 80 (.var [rI x3.a0, rI x3.a1, rI x3.a2]) ?_
 refine sS 96 (.var [rI x4.a0, rI x4.a1, rI x4.a2]) ?_
 refine sN<|sO<|gS rfl rfl<|sV (r0)<|sN<|qS<|gS rfl rfl<|sV (r0)<|sN<|WC.block (WC.loop ?_)
 refine WL.round<|gS rfl rfl<|sT<|sN<|qS<|cT<|qK<|qS<|qB<|gS rfl rfl<|sM rfl<|sA rfl<|sN<|WC.cI rfl rfl<|sM rfl ?_
 refine sV (.ptr 96 0)<|sL rfl<|sM rfl<|sV (.ptr 80 0)<|sL rfl<|sV (rI (rW (x4.a0 - x3.a0)))<|sM rfl<|sV (.ptr 96 0)<|sL rfl<|sM rfl<|sV (.ptr 80 0)<|sL rfl<|sV (rI (rW (x4.a0 - x3.a0)))<|WO.s0 (v' := rB false) rfl rfl (fun _ => rfl) (congrArg (fun b => RV.d (.bool b)) (decide_eq_false (Int.lt_irrefl _))) ?_
 refine sN<|sO<|cF<|qK<|WC.region rfl rfl<|sV (rI 1)<|sM rfl<|sN<|WL.round<|gS rfl rfl<|sT<|sN<|qS<|cT<|qK<|qS ?_
 refine qB<|gS rfl rfl<|sM rfl<|sA rfl<|sN<|WC.cI rfl rfl<|sM rfl<|sV (.ptr 96 1)<|sL rfl<|sM rfl<|sV (.ptr 80 1)<|sL rfl<|sV (rI (rW (x4.a1 - x3.a1)))<|sM rfl<|sV (.ptr 96 0) ?_
 refine sL rfl<|sM rfl<|sV (.ptr 80 0)<|sL rfl<|sV (rI (rW (x4.a0 - x3.a0)))<|sF h (fun h => ?_) fun h => ?_
 ·refine sN<|sO<|cT<|WC.region rfl rfl<|sM rfl<|sA rfl<|sN<|WC.region rfl rfl<|sV (rI 2)<|sM rfl<|sN<|WL.round<|gS rfl rfl<|sT<|sN<|qS ?_
  refine cT<|qK<|qS<|qB<|gS rfl rfl<|sM rfl<|sA rfl<|sN<|WC.cI rfl rfl<|sM rfl<|sV (.ptr 96 2)<|sL rfl<|sM rfl<|sV (.ptr 80 2)<|sL rfl ?_
  refine sV (rI (rW (x4.a2 - x3.a2)))<|sM rfl<|sV (.ptr 96 1)<|sL rfl<|sM rfl<|sV (.ptr 80 1)<|sL rfl<|sV (rI (rW (x4.a1 - x3.a1)))<|sF h (fun h => ?_) fun h => ?_
  ·refine sN<|sO<|cT<|WC.region rfl rfl<|sM rfl<|sA rfl<|sN<|WC.region rfl rfl<|sV (rI 3)<|sM rfl<|sN<|WL.round<|gS rfl rfl<|sU<|sN<|qS ?_
   refine cF<|qX<|qE<|WC.cI rfl rfl<|sV (.d (aW.pd x4))<|sV (.d (aW.pd x3))<|sB (.ptr 144 0) 144 (.var [r0, r0, r0])<|sB (.ptr 160 0) 160 (.var [r0, r0, r0])<|sS 144 (.var [rI x4.a0, rI x4.a1, rI x4.a2])<|sS 160 (.var [rI x3.a0, rI x3.a1, rI x3.a2]) ?_
   refine sN<|sO<|WC.cI rfl rfl<|sM rfl<|sM rfl<|sV (.ptr 80 2)<|sL rfl<|sM rfl<|sV (.ptr 96 2)<|sL rfl<|bE h fun x7 hx7 h => cD (cz hx7)<|sV (.ptr 144 2)<|sS 144 (.var [rI x4.a0, rI x4.a1, rI x7]) ?_
   refine sN<|sO<|gS rfl rfl<|sM rfl<|sM rfl<|sV (.ptr 144 2)<|sL rfl<|sV (rI (rW (x7 + (1 : Int))))<|sV (.ptr 160 2)<|sS 160 (.var [rI x3.a0, rI x3.a1, rI (rW (x7 + (1 : Int)))])<|sN<|WC.cI rfl rfl<|sV (.ptr 16 0)<|sV (.d (aa.pd a0.ak))<|sV (.d (aW.pd (aW.mk x4.a0 x4.a1 x7)))<|bE h fun x8 hx8 h => ?_
   refine cD (bH hx8)<|sG (.d (aj.pd (aj.mk a0.ak x8)))<|sV (.d (aW.pd (aW.mk x3.a0 x3.a1 (rW (x7 + (1 : Int))))))<|bE h fun x9 hx9 h => cD (bH hx9)<|sV (.ptr 16 3)<|sV (.d (aa.pd a0.ae))<|sG (.d (aj.pd (aj.mk x9 a0.ae)))<|sH 32 (.var [rI a0.ak.fX, rI a0.ak.fY, rI a0.ak.fZ, rI x8.fX, rI x8.fY, rI x8.fZ])<|sH 48 (.var [rI x9.fX, rI x9.fY, rI x9.fZ, rI a0.ae.fX, rI a0.ae.fY, rI a0.ae.fZ])<|sT ?_
   refine sN<|sO<|qR ?_
   cases oI h
   exact qG
  refine sN<|sO<|cF<|qK<|WC.region rfl rfl<|sV (rI 3)<|sM rfl<|sN<|WL.round<|gS rfl rfl<|sU<|sN<|qS<|cF<|qX<|qE ?_
  refine WC.cI rfl rfl<|sV (.d (aW.pd x4))<|sV (.d (aW.pd x3))<|sB (.ptr 144 0) 144 (.var [r0, r0, r0])<|sB (.ptr 160 0) 160 (.var [r0, r0, r0])<|sS 144 (.var [rI x4.a0, rI x4.a1, rI x4.a2])<|sS 160 (.var [rI x3.a0, rI x3.a1, rI x3.a2]) ?_
  refine sN<|sO<|WC.cI rfl rfl<|sM rfl<|sM rfl<|sV (.ptr 80 1)<|sL rfl<|sM rfl<|sV (.ptr 96 1)<|sL rfl<|bE h fun x10 hx10 h => cD (cz hx10)<|sV (.ptr 144 1)<|sS 144 (.var [rI x4.a0, rI x10, rI x4.a2]) ?_
  refine sN<|sO<|gS rfl rfl<|sM rfl<|sM rfl<|sV (.ptr 144 1)<|sL rfl<|sV (rI (rW (x10 + (1 : Int))))<|sV (.ptr 160 1)<|sS 160 (.var [rI x3.a0, rI (rW (x10 + (1 : Int))), rI x3.a2])<|sN<|WC.cI rfl rfl<|sV (.ptr 16 0)<|sV (.d (aa.pd a0.ak))<|sV (.d (aW.pd (aW.mk x4.a0 x10 x4.a2)))<|bE h fun x11 hx11 h => ?_
  refine cD (bH hx11)<|sG (.d (aj.pd (aj.mk a0.ak x11)))<|sV (.d (aW.pd (aW.mk x3.a0 (rW (x10 + (1 : Int))) x3.a2)))<|bE h fun x12 hx12 h => cD (bH hx12)<|sV (.ptr 16 3)<|sV (.d (aa.pd a0.ae))<|sG (.d (aj.pd (aj.mk x12 a0.ae)))<|sH 32 (.var [rI a0.ak.fX, rI a0.ak.fY, rI a0.ak.fZ, rI x11.fX, rI x11.fY, rI x11.fZ])<|sH 48 (.var [rI x12.fX, rI x12.fY, rI x12.fZ, rI a0.ae.fX, rI a0.ae.fY, rI a0.ae.fZ])<|sT ?_
  refine sN<|sO<|qR ?_
  cases oI h
  exact qG
 refine sN<|sO<|cF<|qK<|WC.region rfl rfl<|sV (rI 2)<|sM rfl<|sN<|WL.round<|gS rfl rfl<|sT<|sN<|qS<|cT<|qK<|qS ?_
 refine qB<|gS rfl rfl<|sM rfl<|sA rfl<|sN<|WC.cI rfl rfl<|sM rfl<|sV (.ptr 96 2)<|sL rfl<|sM rfl<|sV (.ptr 80 2)<|sL rfl<|sV (rI (rW (x4.a2 - x3.a2)))<|sM rfl<|sV (.ptr 96 0) ?_
 refine sL rfl<|sM rfl<|sV (.ptr 80 0)<|sL rfl<|sV (rI (rW (x4.a0 - x3.a0)))<|sF h (fun h => ?_) fun h => ?_
 ·refine sN<|sO<|cT<|WC.region rfl rfl<|sM rfl<|sA rfl<|sN<|WC.region rfl rfl<|sV (rI 3)<|sM rfl<|sN<|WL.round<|gS rfl rfl<|sU<|sN<|qS ?_
  refine cF<|qX<|qE<|WC.cI rfl rfl<|sV (.d (aW.pd x4))<|sV (.d (aW.pd x3))<|sB (.ptr 144 0) 144 (.var [r0, r0, r0])<|sB (.ptr 160 0) 160 (.var [r0, r0, r0])<|sS 144 (.var [rI x4.a0, rI x4.a1, rI x4.a2])<|sS 160 (.var [rI x3.a0, rI x3.a1, rI x3.a2]) ?_
  refine sN<|sO<|WC.cI rfl rfl<|sM rfl<|sM rfl<|sV (.ptr 80 2)<|sL rfl<|sM rfl<|sV (.ptr 96 2)<|sL rfl<|bE h fun x14 hx14 h => cD (cz hx14)<|sV (.ptr 144 2)<|sS 144 (.var [rI x4.a0, rI x4.a1, rI x14]) ?_
  refine sN<|sO<|gS rfl rfl<|sM rfl<|sM rfl<|sV (.ptr 144 2)<|sL rfl<|sV (rI (rW (x14 + (1 : Int))))<|sV (.ptr 160 2)<|sS 160 (.var [rI x3.a0, rI x3.a1, rI (rW (x14 + (1 : Int)))])<|sN<|WC.cI rfl rfl<|sV (.ptr 16 0)<|sV (.d (aa.pd a0.ak))<|sV (.d (aW.pd (aW.mk x4.a0 x4.a1 x14)))<|bE h fun x15 hx15 h => ?_
  refine cD (bH hx15)<|sG (.d (aj.pd (aj.mk a0.ak x15)))<|sV (.d (aW.pd (aW.mk x3.a0 x3.a1 (rW (x14 + (1 : Int))))))<|bE h fun x16 hx16 h => cD (bH hx16)<|sV (.ptr 16 3)<|sV (.d (aa.pd a0.ae))<|sG (.d (aj.pd (aj.mk x16 a0.ae)))<|sH 32 (.var [rI a0.ak.fX, rI a0.ak.fY, rI a0.ak.fZ, rI x15.fX, rI x15.fY, rI x15.fZ])<|sH 48 (.var [rI x16.fX, rI x16.fY, rI x16.fZ, rI a0.ae.fX, rI a0.ae.fY, rI a0.ae.fZ])<|sT ?_
  refine sN<|sO<|qR ?_
  cases oI h
  exact qG
 refine sN<|sO<|cF<|qK<|WC.region rfl rfl<|sV (rI 3)<|sM rfl<|sN<|WL.round<|gS rfl rfl<|sU<|sN<|qS<|cF<|qX<|qE ?_
 refine WC.cI rfl rfl<|sV (.d (aW.pd x4))<|sV (.d (aW.pd x3))<|sB (.ptr 144 0) 144 (.var [r0, r0, r0])<|sB (.ptr 160 0) 160 (.var [r0, r0, r0])<|sS 144 (.var [rI x4.a0, rI x4.a1, rI x4.a2])<|sS 160 (.var [rI x3.a0, rI x3.a1, rI x3.a2]) ?_
 refine sN<|sO<|WC.cI rfl rfl<|sM rfl<|sM rfl<|sV (.ptr 80 0)<|sL rfl<|sM rfl<|sV (.ptr 96 0)<|sL rfl<|bE h fun x17 hx17 h => cD (cz hx17)<|sV (.ptr 144 0)<|sS 144 (.var [rI x17, rI x4.a1, rI x4.a2]) ?_
 refine sN<|sO<|gS rfl rfl<|sM rfl<|sM rfl<|sV (.ptr 144 0)<|sL rfl<|sV (rI (rW (x17 + (1 : Int))))<|sV (.ptr 160 0)<|sS 160 (.var [rI (rW (x17 + (1 : Int))), rI x3.a1, rI x3.a2])<|sN<|WC.cI rfl rfl<|sV (.ptr 16 0)<|sV (.d (aa.pd a0.ak))<|sV (.d (aW.pd (aW.mk x17 x4.a1 x4.a2)))<|bE h fun x18 hx18 h => ?_
 refine cD (bH hx18)<|sG (.d (aj.pd (aj.mk a0.ak x18)))<|sV (.d (aW.pd (aW.mk (rW (x17 + (1 : Int))) x3.a1 x3.a2)))<|bE h fun x19 hx19 h => cD (bH hx19)<|sV (.ptr 16 3)<|sV (.d (aa.pd a0.ae))<|sG (.d (aj.pd (aj.mk x19 a0.ae)))<|sH 32 (.var [rI a0.ak.fX, rI a0.ak.fY, rI a0.ak.fZ, rI x18.fX, rI x18.fY, rI x18.fZ])<|sH 48 (.var [rI x19.fX, rI x19.fY, rI x19.fZ, rI a0.ae.fX, rI a0.ae.fY, rI a0.ae.fZ])<|sT ?_
 refine sN<|sO<|qR ?_
 cases oI h
 exact qG
theorem queue_Pushq_ev {a0 : ai} {e1 : aw} {e2 : Int} {e3 : Int} {e4 : Bool} {e5 : aF} {d1 : (List ai)} {r : (List ai)} (h : mM a0 e1 e2 e3 e4 e5 d1 = some r) : EvP prog aH ext 213 [.ptr 0 11, .ifc 123 (.d (ai.pd a0))] [.var [rI e1.ac.ak.fX, rI e1.ac.ak.fY, rI e1.ac.ak.fZ, rI e1.ac.ae.fX, rI e1.ac.ae.fY, rI e1.ac.ae.fZ, rI e1.az.aT, .d (.lst (e1.az.ak.map (PD.int .i64))), .d (.lst (e1.az.ae.map (PD.int .i64))), .d (.lst (e1.aY.map av.pd)), rI e1.bG, .ref 1 0, rI e2, rI e3, rB e4, rI e5.aC.fX, rI e5.aC.fY, rI e5.aC.fZ, rI e5.a8, rI e5.aS, rI e5.bc, rI e5.ar.ak.fX, rI e5.ar.ak.fY, rI e5.ar.ak.fZ, rI e5.ar.ae.fX, rI e5.ar.ae.fY, rI e5.ar.ae.fZ], .arr 0 123 (d1.map ai.pd)] (.tup [], [.var [rI e1.ac.ak.fX, rI e1.ac.ak.fY, rI e1.ac.ak.fZ, rI e1.ac.ae.fX, rI e1.ac.ae.fY, rI e1.ac.ae.fZ, rI e1.az.aT, .d (.lst (e1.az.ak.map (PD.int .i64))), .d (.lst (e1.az.ae.map (PD.int .i64))), .d (.lst (e1.aY.map av.pd)), rI e1.bG, .ref 1 1, rI e2, rI e3, rB e4, rI e5.aC.fX, rI e5.aC.fY, rI e5.aC.fZ, rI e5.a8, rI e5.aS, rI e5.bc, rI e5.ar.ak.fX, rI e5.ar.ak.fY, rI e5.ar.ak.fZ, rI e5.ar.ae.fX, rI e5.ar.ae.fY, rI e5.ar.ae.fZ], .arr 1 123 (r.map ai.pd)]) := by
 refine Ev.body rfl Tryz.func213 rfl (by kernel_rfl)<|gS rfl rfl<|sM rfl<|sG (.tup [.d (ai.pd a0), rB true])<|sM rfl<|sV (.d (ai.pd a0))<|sT<|sB (.ptr 64 0) 64 (.var [r0, r0, r0, r0, r0, r0, r0, r0])<|sH 64 (.var (ai.rc a0))<|sA rfl<|sN<|gS rfl rfl<|sM rfl<|sN<|cT ?_
 refine WC.pC rfl rfl<|sM rfl<|sM rfl<|sV (.ptr 0 11)<|sL rfl<|sV (.d (ai.pd a0))<|sG (.d (.lst ([a0].map ai.pd)))<|bE h fun x1 hx1 h => aR hx1 (fun _ => rfl) rfl<|sV (.ptr 0 11)<|sS 0 (.var [rI e1.ac.ak.fX, rI e1.ac.ak.fY, rI e1.ac.ak.fZ, rI e1.ac.ae.fX, rI e1.ac.ae.fY, rI e1.ac.ae.fZ, rI e1.az.aT, .d (.lst (e1.az.ak.map (PD.int .i64))), .d (.lst (e1.az.ae.map (PD.int .i64))), .d (.lst (e1.aY.map av.pd)), rI e1.bG, .ref 1 1, rI e2, rI e3, rB e4, rI e5.aC.fX, rI e5.aC.fY, rI e5.aC.fZ, rI e5.a8, rI e5.aS, rI e5.bc, rI e5.ar.ak.fX, rI e5.ar.ak.fY, rI e5.ar.ak.fZ, rI e5.ar.ae.fX, rI e5.ar.ae.fY, rI e5.ar.ae.fZ]) ?_
 refine sN<|sO ?_
 cases oI h
 exact qG
theorem heap_Pushq_ev {a0 : ai} {e1 : aw} {e2 : Int} {e3 : Int} {e4 : Bool} {e5 : aF} {d1 : (List ai)} {r : (List ai)} (h : lF a0 e1 e2 e3 e4 e5 d1 = some r) : EvP prog aH ext 93 [.ifc 178 (.ptr 0 11), .ifc 123 (.d (ai.pd a0))] [.var [rI e1.ac.ak.fX, rI e1.ac.ak.fY, rI e1.ac.ak.fZ, rI e1.ac.ae.fX, rI e1.ac.ae.fY, rI e1.ac.ae.fZ, rI e1.az.aT, .d (.lst (e1.az.ak.map (PD.int .i64))), .d (.lst (e1.az.ae.map (PD.int .i64))), .d (.lst (e1.aY.map av.pd)), rI e1.bG, .ref 1 0, rI e2, rI e3, rB e4, rI e5.aC.fX, rI e5.aC.fY, rI e5.aC.fZ, rI e5.a8, rI e5.aS, rI e5.bc, rI e5.ar.ak.fX, rI e5.ar.ak.fY, rI e5.ar.ak.fZ, rI e5.ar.ae.fX, rI e5.ar.ae.fY, rI e5.ar.ae.fZ], .arr 0 123 (d1.map ai.pd)] (.tup [], [.var [rI e1.ac.ak.fX, rI e1.ac.ak.fY, rI e1.ac.ak.fZ, rI e1.ac.ae.fX, rI e1.ac.ae.fY, rI e1.ac.ae.fZ, rI e1.az.aT, .d (.lst (e1.az.ak.map (PD.int .i64))), .d (.lst (e1.az.ae.map (PD.int .i64))), .d (.lst (e1.aY.map av.pd)), rI e1.bG, .ref 1 1, rI e2, rI e3, rB e4, rI e5.aC.fX, rI e5.aC.fY, rI e5.aC.fZ, rI e5.a8, rI e5.aS, rI e5.bc, rI e5.ar.ak.fX, rI e5.ar.ak.fY, rI e5.ar.ak.fZ, rI e5.ar.ae.fX, rI e5.ar.ae.fY, rI e5.ar.ae.fZ], .arr 1 123 (r.map ai.pd)]) := by
 refine Ev.body rfl Tryz.func93 rfl (by kernel_rfl)<|gS rfl rfl<|sM rfl<|sM rfl<|bE h fun x1 hx1 h => WO.pD (g := 213) (args := [.ptr 0 11, .ifc 123 (.d (ai.pd a0))]) (v := .tup []) (u := [(0, .var [rI e1.ac.ak.fX, rI e1.ac.ak.fY, rI e1.ac.ak.fZ, rI e1.ac.ae.fX, rI e1.ac.ae.fY, rI e1.ac.ae.fZ, rI e1.az.aT, .d (.lst (e1.az.ak.map (PD.int .i64))), .d (.lst (e1.az.ae.map (PD.int .i64))), .d (.lst (e1.aY.map av.pd)), rI e1.bG, .ref 1 1, rI e2, rI e3, rB e4, rI e5.aC.fX, rI e5.aC.fY, rI e5.aC.fZ, rI e5.a8, rI e5.aS, rI e5.bc, rI e5.ar.ak.fX, rI e5.ar.ak.fY, rI e5.ar.ak.fZ, rI e5.ar.ae.fX, rI e5.ar.ae.fY, rI e5.ar.ae.fZ]), (1, .arr 1 123 (x1.map ai.pd))]) rfl rfl (by intro _; kernel_rfl) rfl rfl rfl rfl rfl (queue_Pushq_ev hx1) rfl rfl rfl rfl<|sN<|WC.region rfl rfl<|sM rfl<|sM rfl<|bE h fun x2 hx2 h => WO.vo (e := 119) (c := .ptr 0 11) (vl := .ref 1 1) (g := 209) (args := []) (v := rI x2.1) (u := [(1, .arr 1 123 (x2.2.map ai.pd))]) rfl rfl (by intro _; kernel_rfl) rfl rfl rfl rfl rfl rfl (k9 hx2) rfl rfl rfl rfl<|sV (rI (rW (x2.1 - (1 : Int))))<|bE h fun x3 hx3 h => cR (.tup []) [(0, .var [rI e1.ac.ak.fX, rI e1.ac.ak.fY, rI e1.ac.ak.fZ, rI e1.ac.ae.fX, rI e1.ac.ae.fY, rI e1.ac.ae.fZ, rI e1.az.aT, .d (.lst (e1.az.ak.map (PD.int .i64))), .d (.lst (e1.az.ae.map (PD.int .i64))), .d (.lst (e1.aY.map av.pd)), rI e1.bG, .ref 1 1, rI e2, rI e3, rB e4, rI e5.aC.fX, rI e5.aC.fY, rI e5.aC.fZ, rI e5.a8, rI e5.aS, rI e5.bc, rI e5.ar.ak.fX, rI e5.ar.ak.fY, rI e5.ar.ak.fZ, rI e5.ar.ae.fX, rI e5.ar.ae.fY, rI e5.ar.ae.fZ]), (1, .arr 1 123 (x3.map ai.pd))] (heap_up_ev hx3) ?_
 refine sN ?_
 cases oI h
 exact qG
theorem mQ {a0 : aj} {e1 : aw} {e2 : Int} {e3 : Int} {e4 : Bool} {e5 : aF} {d1 : (List ai)} {r : Int × Int × (List ai)} (h : ju a0 e1 e2 e3 e4 e5 d1 = some r) : EvP prog aH ext 61 [.ptr 0 0, .d (aj.pd a0)] [.var [rI e1.ac.ak.fX, rI e1.ac.ak.fY, rI e1.ac.ak.fZ, rI e1.ac.ae.fX, rI e1.ac.ae.fY, rI e1.ac.ae.fZ, rI e1.az.aT, .d (.lst (e1.az.ak.map (PD.int .i64))), .d (.lst (e1.az.ae.map (PD.int .i64))), .d (.lst (e1.aY.map av.pd)), rI e1.bG, .ref 1 0, rI e2, rI e3, rB e4, rI e5.aC.fX, rI e5.aC.fY, rI e5.aC.fZ, rI e5.a8, rI e5.aS, rI e5.bc, rI e5.ar.ak.fX, rI e5.ar.ak.fY, rI e5.ar.ak.fZ, rI e5.ar.ae.fX, rI e5.ar.ae.fY, rI e5.ar.ae.fZ], .arr 0 123 (d1.map ai.pd)] (rI r.1, [.var [rI e1.ac.ak.fX, rI e1.ac.ak.fY, rI e1.ac.ak.fZ, rI e1.ac.ae.fX, rI e1.ac.ae.fY, rI e1.ac.ae.fZ, rI e1.az.aT, .d (.lst (e1.az.ak.map (PD.int .i64))), .d (.lst (e1.az.ae.map (PD.int .i64))), .d (.lst (e1.aY.map av.pd)), rI e1.bG, .ref 1 1, rI r.2.1, rI e3, rB e4, rI e5.aC.fX, rI e5.aC.fY, rI e5.aC.fZ, rI e5.a8, rI e5.aS, rI e5.bc, rI e5.ar.ak.fX, rI e5.ar.ak.fY, rI e5.ar.ak.fZ, rI e5.ar.ae.fX, rI e5.ar.ae.fY, rI e5.ar.ae.fZ], .arr 1 123 (r.2.2.map ai.pd)]) := by
 refine Ev.body rfl Tryz.func61 rfl (by kernel_rfl)<|gS rfl rfl<|sB (.ptr 48 0) 48 (.var (aj.rc a0))<|sV (r0)<|sN<|WC.cI rfl rfl<|sM rfl<|sV (.ptr 0 0)<|sV (.ptr 0 0)<|sV (.d (aw.pd e1))<|sV (.d (aj.pd a0))<|bE h fun x1 hx1 h => cR (.tup [rI x1.1, rI x1.2]) [] (l8 hx1)<|sM rfl<|sV (rI x1.1) ?_
 refine sV (rI x1.2)<|sA rfl<|sA rfl ?_
 refine sN<|sO<|WC.join (α := Int × (List ai)) (fun x R' B' => jX prog 2 (A R' B') (aH.at_ 61 2 5) = some (A [(6, rI x1.2)] [(0, .var [rI e1.ac.ak.fX, rI e1.ac.ak.fY, rI e1.ac.ak.fZ, rI e1.ac.ae.fX, rI e1.ac.ae.fY, rI e1.ac.ae.fZ, rI e1.az.aT, .d (.lst (e1.az.ak.map (PD.int .i64))), .d (.lst (e1.az.ae.map (PD.int .i64))), .d (.lst (e1.aY.map av.pd)), rI e1.bG, .ref 1 1, rI x.1, rI e3, rB e4, rI e5.aC.fX, rI e5.aC.fY, rI e5.aC.fZ, rI e5.a8, rI e5.aS, rI e5.bc, rI e5.ar.ak.fX, rI e5.ar.ak.fY, rI e5.ar.ak.fZ, rI e5.ar.ae.fX, rI e5.ar.ae.fY, rI e5.ar.ae.fZ]), (1, .arr 1 123 (x.2.map ai.pd))])) (fun x => iG x1 x.1 x.2 = some r) ?_ ?_
 ·refine gS rfl rfl<|sM rfl<|sF h (fun h => ?_) fun h => ?_
  ·refine sN<|cT<|WC.cI rfl rfl<|sM rfl<|sV (.ptr 0 0)<|sV (.ptr 0 11)<|sG (.ifc 178 (.ptr 0 11))<|sV (.d (aj.pd a0))<|sM rfl<|sM rfl<|sV (.ptr 0 0)<|sV (.ptr 0 12)<|sL rfl<|sG (.d (ai.pd (ai.mk a0 x1.1 e2)))<|sG (.ifc 123 (.d (ai.pd (ai.mk a0 x1.1 e2)))) ?_
   refine bE h fun x6 hx6 h => cR (.tup []) [(0, .var [rI e1.ac.ak.fX, rI e1.ac.ak.fY, rI e1.ac.ak.fZ, rI e1.ac.ae.fX, rI e1.ac.ae.fY, rI e1.ac.ae.fZ, rI e1.az.aT, .d (.lst (e1.az.ak.map (PD.int .i64))), .d (.lst (e1.az.ae.map (PD.int .i64))), .d (.lst (e1.aY.map av.pd)), rI e1.bG, .ref 1 1, rI e2, rI e3, rB e4, rI e5.aC.fX, rI e5.aC.fY, rI e5.aC.fZ, rI e5.a8, rI e5.aS, rI e5.bc, rI e5.ar.ak.fX, rI e5.ar.ak.fY, rI e5.ar.ak.fZ, rI e5.ar.ae.fX, rI e5.ar.ae.fY, rI e5.ar.ae.fZ]), (1, .arr 1 123 (x6.map ai.pd))] (heap_Pushq_ev hx6) ?_
   exact sN<|sO<|WC.region rfl rfl<|sM rfl<|sV (.ptr 0 0)<|sV (.ptr 0 12)<|sL rfl<|sV (rI (rW (e2 + (1 : Int))))<|sV (.ptr 0 0)<|sV (.ptr 0 12)<|sS 0 (.var [rI e1.ac.ak.fX, rI e1.ac.ak.fY, rI e1.ac.ak.fZ, rI e1.ac.ae.fX, rI e1.ac.ae.fY, rI e1.ac.ae.fZ, rI e1.az.aT, .d (.lst (e1.az.ak.map (PD.int .i64))), .d (.lst (e1.az.ae.map (PD.int .i64))), .d (.lst (e1.aY.map av.pd)), rI e1.bG, .ref 1 1, rI (rW (e2 + (1 : Int))), rI e3, rB e4, rI e5.aC.fX, rI e5.aC.fY, rI e5.aC.fZ, rI e5.a8, rI e5.aS, rI e5.bc, rI e5.ar.ak.fX, rI e5.ar.ak.fY, rI e5.ar.ak.fZ, rI e5.ar.ae.fX, rI e5.ar.ae.fY, rI e5.ar.ae.fZ])<|sN<|⟨((rW (e2 + (1 : Int))), x6), rfl, h⟩
  exact sN<|cF<|qK<|⟨(e2, d1), rfl, h⟩
 rintro ⟨j2, j3⟩ R' B' hI h
 refine gS rfl hI<|sM rfl<|sA rfl<|sN<|qR ?_
 cases oI h
 exact qG
theorem search_step_ev {e0 : aw} {e1 : Int} {e2 : Int} {e3 : Bool} {e4 : aF} {d1 : (List ai)} {r : Int × Int × Int × Bool × aF × (List ai)} (h : kX e0 e1 e2 e3 e4 d1 = some r) : EvP prog aH ext 63 [.ptr 0 0] [.var [rI e0.ac.ak.fX, rI e0.ac.ak.fY, rI e0.ac.ak.fZ, rI e0.ac.ae.fX, rI e0.ac.ae.fY, rI e0.ac.ae.fZ, rI e0.az.aT, .d (.lst (e0.az.ak.map (PD.int .i64))), .d (.lst (e0.az.ae.map (PD.int .i64))), .d (.lst (e0.aY.map av.pd)), rI e0.bG, .ref 1 0, rI e1, rI e2, rB e3, rI e4.aC.fX, rI e4.aC.fY, rI e4.aC.fZ, rI e4.a8, rI e4.aS, rI e4.bc, rI e4.ar.ak.fX, rI e4.ar.ak.fY, rI e4.ar.ak.fZ, rI e4.ar.ae.fX, rI e4.ar.ae.fY, rI e4.ar.ae.fZ], .arr 0 123 (d1.map ai.pd)] (rI r.1, [.var [rI e0.ac.ak.fX, rI e0.ac.ak.fY, rI e0.ac.ak.fZ, rI e0.ac.ae.fX, rI e0.ac.ae.fY, rI e0.ac.ae.fZ, rI e0.az.aT, .d (.lst (e0.az.ak.map (PD.int .i64))), .d (.lst (e0.az.ae.map (PD.int .i64))), .d (.lst (e0.aY.map av.pd)), rI e0.bG, .ref 1 1, rI r.2.1, rI r.2.2.1, rB r.2.2.2.1, rI r.2.2.2.2.1.aC.fX, rI r.2.2.2.2.1.aC.fY, rI r.2.2.2.2.1.aC.fZ, rI r.2.2.2.2.1.a8, rI r.2.2.2.2.1.aS, rI r.2.2.2.2.1.bc, rI r.2.2.2.2.1.ar.ak.fX, rI r.2.2.2.2.1.ar.ak.fY, rI r.2.2.2.2.1.ar.ak.fZ, rI r.2.2.2.2.1.ar.ae.fX, rI r.2.2.2.2.1.ar.ae.fY, rI r.2.2.2.2.1.ar.ae.fZ], .arr 1 123 (r.2.2.2.2.2.map ai.pd)]) := by
 refine Ev.body rfl Tryz.func63 rfl (by kernel_rfl)<|gS rfl rfl<|sV (r0)<|sN<|qS<|gS rfl rfl<|sM rfl<|sV (.ptr 0 0)<|sV (.ptr 0 13)<|sL rfl<|sF h (fun h => ?_) fun h => ?_
 ·refine sN<|cT<|WC.oX (R0 := []) (B0 := [(0, .var [rI e0.ac.ak.fX, rI e0.ac.ak.fY, rI e0.ac.ak.fZ, rI e0.ac.ae.fX, rI e0.ac.ae.fY, rI e0.ac.ae.fZ, rI e0.az.aT, .d (.lst (e0.az.ak.map (PD.int .i64))), .d (.lst (e0.az.ae.map (PD.int .i64))), .d (.lst (e0.aY.map av.pd)), rI e0.bG, .ref 1 1, rI e1, rI e2, rB e3, rI e4.aC.fX, rI e4.aC.fY, rI e4.aC.fZ, rI e4.a8, rI e4.aS, rI e4.bc, rI e4.ar.ak.fX, rI e4.ar.ak.fY, rI e4.ar.ak.fZ, rI e4.ar.ae.fX, rI e4.ar.ae.fY, rI e4.ar.ae.fZ]), (1, .arr 1 123 (d1.map ai.pd))]) rfl rfl<|sV (rI 25)<|sN<|qR ?_
  cases oI h
  exact qG
 refine sN<|cF<|qK<|gS rfl rfl<|sM rfl<|sV (.ptr 0 0)<|sV (.ptr 0 11)<|sL rfl<|bE h fun x3 hx3 h => WO.pX hx3 rfl rfl rfl rfl rfl rfl rfl rfl<|sV (.elt 1 0 ((0 : Int)).toNat 0)<|bE h fun x4 hx4 h => WO.pN hx4 rfl rfl rfl rfl rfl rfl<|sB (.ptr 48 0) 48 (.var zZ3)<|sH 48 (.var (aj.rc x4.jW)) ?_
 refine sN<|gS rfl rfl<|sM rfl<|sV (.ptr 0 0)<|sV (.ptr 0 11)<|sG (.ifc 178 (.ptr 0 11))<|bE h fun x5 hx5 h => cR (.ifc 123 (.d (ai.pd x5.1))) [(0, .var [rI e0.ac.ak.fX, rI e0.ac.ak.fY, rI e0.ac.ak.fZ, rI e0.ac.ae.fX, rI e0.ac.ae.fY, rI e0.ac.ae.fZ, rI e0.az.aT, .d (.lst (e0.az.ak.map (PD.int .i64))), .d (.lst (e0.az.ae.map (PD.int .i64))), .d (.lst (e0.aY.map av.pd)), rI e0.bG, .ref 1 1, rI e1, rI e2, rB e3, rI e4.aC.fX, rI e4.aC.fY, rI e4.aC.fZ, rI e4.a8, rI e4.aS, rI e4.bc, rI e4.ar.ak.fX, rI e4.ar.ak.fY, rI e4.ar.ak.fZ, rI e4.ar.ae.fX, rI e4.ar.ae.fY, rI e4.ar.ae.fZ]), (1, .arr 1 123 (x5.2.map ai.pd))] (heap_Pop_ev hx5)<|sN<|gS rfl rfl<|sM rfl<|sV (.ptr 0 0)<|sV (.ptr 0 13)<|sL rfl<|sV (rI (rW (e2 + (1 : Int)))) ?_
 refine sV (.ptr 0 0)<|sV (.ptr 0 13)<|sS 0 (.var [rI e0.ac.ak.fX, rI e0.ac.ak.fY, rI e0.ac.ak.fZ, rI e0.ac.ae.fX, rI e0.ac.ae.fY, rI e0.ac.ae.fZ, rI e0.az.aT, .d (.lst (e0.az.ak.map (PD.int .i64))), .d (.lst (e0.az.ae.map (PD.int .i64))), .d (.lst (e0.aY.map av.pd)), rI e0.bG, .ref 1 1, rI e1, rI (rW (e2 + (1 : Int))), rB e3, rI e4.aC.fX, rI e4.aC.fY, rI e4.aC.fZ, rI e4.a8, rI e4.aS, rI e4.bc, rI e4.ar.ak.fX, rI e4.ar.ak.fY, rI e4.ar.ak.fZ, rI e4.ar.ae.fX, rI e4.ar.ae.fY, rI e4.ar.ae.fZ])<|sN<|qS<|gS rfl rfl<|sM rfl<|sV (.d (aj.pd x4.jW))<|bE h fun x6 hx6 h => cR (rI x6.1) [(0, .var [rI e0.ac.ak.fX, rI e0.ac.ak.fY, rI e0.ac.ak.fZ, rI e0.ac.ae.fX, rI e0.ac.ae.fY, rI e0.ac.ae.fZ, rI e0.az.aT, .d (.lst (e0.az.ak.map (PD.int .i64))), .d (.lst (e0.az.ae.map (PD.int .i64))), .d (.lst (e0.aY.map av.pd)), rI e0.bG, .ref 1 1, rI e1, rI (rW (e2 + (1 : Int))), rB x6.2.1, rI x6.2.2.aC.fX, rI x6.2.2.aC.fY, rI x6.2.2.aC.fZ, rI x6.2.2.a8, rI x6.2.2.aS, rI x6.2.2.bc, rI x6.2.2.ar.ak.fX, rI x6.2.2.ar.ak.fY, rI x6.2.2.ar.ak.fZ, rI x6.2.2.ar.ae.fX, rI x6.2.2.ar.ae.fY, rI x6.2.2.ar.ae.fZ]), (1, .arr 1 123 (x5.2.map ai.pd))] (search_look_ev hx6)<|sA rfl<|sN<|gS rfl rfl<|sM rfl<|sF h (fun h => ?_) fun h => ?_
 ·refine sN<|cT<|gS rfl rfl<|sM rfl<|sA rfl<|sN<|qR ?_
  cases oI h
  exact qG
 refine sN<|cF<|qK<|gS rfl rfl<|sV (.d (aj.pd x4.jW))<|bE h fun x8 hx8 h => cR (.tup [.d (aj.pd x8.1), .d (aj.pd x8.2.1), rB x8.2.2]) [] (oe hx8)<|sM rfl<|sV (.d (aj.pd x8.1))<|sV (.d (aj.pd x8.2.1))<|sV (rB x8.2.2)<|sB (.ptr 80 0) 80 (.var zZ3)<|sB (.ptr 96 0) 96 (.var zZ3)<|sH 80 (.var (aj.rc x8.1))<|sH 96 (.var (aj.rc x8.2.1)) ?_
 refine sA rfl<|sN<|qS<|gS rfl rfl<|sM rfl<|sF h (fun h => ?_) fun h => ?_
 ·refine sN<|cT<|gS rfl rfl<|sV (r0)<|sN<|qR ?_
  cases oI h
  exact qG
 refine sN<|cF<|qK<|qS<|gS rfl rfl<|sM rfl<|sV (.d (aj.pd x8.1))<|bE h fun x10 hx10 h => cR (rI x10.1) [(0, .var [rI e0.ac.ak.fX, rI e0.ac.ak.fY, rI e0.ac.ak.fZ, rI e0.ac.ae.fX, rI e0.ac.ae.fY, rI e0.ac.ae.fZ, rI e0.az.aT, .d (.lst (e0.az.ak.map (PD.int .i64))), .d (.lst (e0.az.ae.map (PD.int .i64))), .d (.lst (e0.aY.map av.pd)), rI e0.bG, .ref 1 2, rI x10.2.1, rI (rW (e2 + (1 : Int))), rB x6.2.1, rI x6.2.2.aC.fX, rI x6.2.2.aC.fY, rI x6.2.2.aC.fZ, rI x6.2.2.a8, rI x6.2.2.aS, rI x6.2.2.bc, rI x6.2.2.ar.ak.fX, rI x6.2.2.ar.ak.fY, rI x6.2.2.ar.ak.fZ, rI x6.2.2.ar.ae.fX, rI x6.2.2.ar.ae.fY, rI x6.2.2.ar.ae.fZ]), (1, .arr 2 123 (x10.2.2.map ai.pd))] (mQ hx10)<|sA rfl<|sN<|gS rfl rfl<|sM rfl<|sF h (fun h => ?_) fun h => ?_
 ·refine sN<|cT<|gS rfl rfl<|sM rfl<|sA rfl<|sN<|qR ?_
  cases oI h
  exact qG
 refine sN<|cF<|qK<|gS rfl rfl<|sM rfl<|sV (.d (aj.pd x8.2.1))<|bE h fun x12 hx12 h => cR (rI x12.1) [(0, .var [rI e0.ac.ak.fX, rI e0.ac.ak.fY, rI e0.ac.ak.fZ, rI e0.ac.ae.fX, rI e0.ac.ae.fY, rI e0.ac.ae.fZ, rI e0.az.aT, .d (.lst (e0.az.ak.map (PD.int .i64))), .d (.lst (e0.az.ae.map (PD.int .i64))), .d (.lst (e0.aY.map av.pd)), rI e0.bG, .ref 1 3, rI x12.2.1, rI (rW (e2 + (1 : Int))), rB x6.2.1, rI x6.2.2.aC.fX, rI x6.2.2.aC.fY, rI x6.2.2.aC.fZ, rI x6.2.2.a8, rI x6.2.2.aS, rI x6.2.2.bc, rI x6.2.2.ar.ak.fX, rI x6.2.2.ar.ak.fY, rI x6.2.2.ar.ak.fZ, rI x6.2.2.ar.ae.fX, rI x6.2.2.ar.ae.fY, rI x6.2.2.ar.ae.fZ]), (1, .arr 3 123 (x12.2.2.map ai.pd))] (mQ hx12)<|sA rfl<|sN<|qR ?_
 cases oI h
 exact qG
theorem ny {a0 : aw} {a1 : Int} {r : (Option bC) × Int} (h : iR a0 a1 = some r) : EvP prog aH ext 38 [.d (aw.pd a0), rI a1] [] (match r.1 with | none => (.tup [.d (.raw (.pointer none)), rI r.2], []) | some yv => (.tup [.ptr 0 0, rI r.2], [.var (bC.rc yv)])) := by
 refine Ev.body rfl Tryz.func38 rfl (by kernel_rfl)<|gS rfl rfl<|sB (.ptr 32 0) 32 (.var (aw.rc a0))<|sV (.d (.raw (.pointer none)))<|sV (r0)<|sN<|qS<|gS rfl rfl<|sV (.d (aw.pd a0))<|bE h fun x1 hx1 h => cD (kz hx1)<|sA rfl<|sN<|gS rfl rfl<|sM rfl ?_
 refine sF h (fun h => ?_) fun h => ?_
 ·refine sN<|cT<|gS rfl rfl<|sM rfl<|sV (.d (.raw (.pointer none)))<|sA rfl<|sN<|qR ?_
  cases oI h
  exact qG
 refine sN<|cF<|qK<|qS<|gS rfl rfl<|sM rfl<|sF h (fun h => ?_) fun h => ?_
 ·refine sN<|cT<|gS rfl rfl<|sV (.d (.raw (.pointer none)))<|sV (rI 2)<|sN<|qR ?_
  cases oI h
  exact qG
 refine sN<|cF<|qK<|gS rfl rfl<|sV (.d (aw.pd a0))<|sG (.agg [rI a0.ac.ak.fX, rI a0.ac.ak.fY, rI a0.ac.ak.fZ, rI a0.ac.ae.fX, rI a0.ac.ae.fY, rI a0.ac.ae.fZ, rI a0.az.aT, .d (.lst (a0.az.ak.map (PD.int .i64))), .d (.lst (a0.az.ae.map (PD.int .i64))), .d (.lst (a0.aY.map av.pd)), rI a0.bG, .jY, r0, r0, rB false, r0, r0, r0, r0, r0, r0, r0, r0, r0, r0, r0, r0])<|sB (.ptr 304 0) 304 (.var [rI a0.ac.ak.fX, rI a0.ac.ak.fY, rI a0.ac.ak.fZ, rI a0.ac.ae.fX, rI a0.ac.ae.fY, rI a0.ac.ae.fZ, rI a0.az.aT, .d (.lst (a0.az.ak.map (PD.int .i64))), .d (.lst (a0.az.ae.map (PD.int .i64))), .d (.lst (a0.aY.map av.pd)), rI a0.bG, .jY, r0, r0, rB false, r0, r0, r0, r0, r0, r0, r0, r0, r0, r0, r0, r0])<|sA rfl<|sN<|qS<|gS rfl rfl<|sM rfl<|sV (.ptr 32 0)<|sV (.d (aj.pd a0.ac))<|bE h fun x4 hx4 h => ?_
 refine cR (rI x4.1) [(304, .var [rI a0.ac.ak.fX, rI a0.ac.ak.fY, rI a0.ac.ak.fZ, rI a0.ac.ae.fX, rI a0.ac.ae.fY, rI a0.ac.ae.fZ, rI a0.az.aT, .d (.lst (a0.az.ak.map (PD.int .i64))), .d (.lst (a0.az.ae.map (PD.int .i64))), .d (.lst (a0.aY.map av.pd)), rI a0.bG, .ref 368 0, rI x4.2.2, r0, rB false, r0, r0, r0, r0, r0, r0, r0, r0, r0, r0, r0, r0]), (368, .arr 0 123 (x4.2.1.map ai.pd))] (search_add_ev hx4)<|sA rfl<|sN<|gS rfl rfl<|sM rfl<|sF h (fun h => ?_) fun h => ?_
 ·refine sN<|cT<|gS rfl rfl<|sM rfl<|sV (.d (.raw (.pointer none)))<|sA rfl<|sN<|qR ?_
  cases oI h
  exact qG
 refine sN<|cF<|qK<|qS<|bE h fun o22 ho22 h => WC.block (WC.loop (WL.oL ho22 (fun s R' B' => jX prog 0 (A R' B') (aH.at_ 38 0 10) = some (A [(1, rI a1), (7, .ptr 304 0)] [(304, .var [rI a0.ac.ak.fX, rI a0.ac.ak.fY, rI a0.ac.ak.fZ, rI a0.ac.ae.fX, rI a0.ac.ae.fY, rI a0.ac.ae.fZ, rI a0.az.aT, .d (.lst (a0.az.ak.map (PD.int .i64))), .d (.lst (a0.az.ae.map (PD.int .i64))), .d (.lst (a0.aY.map av.pd)), rI a0.bG, .ref 368 0, rI s.1, rI s.2.1, rB s.2.2.1, rI s.2.2.2.1.aC.fX, rI s.2.2.2.1.aC.fY, rI s.2.2.2.1.aC.fZ, rI s.2.2.2.1.a8, rI s.2.2.2.1.aS, rI s.2.2.2.1.bc, rI s.2.2.2.1.ar.ak.fX, rI s.2.2.2.1.ar.ak.fY, rI s.2.2.2.1.ar.ak.fZ, rI s.2.2.2.1.ar.ae.fX, rI s.2.2.2.1.ar.ae.fY, rI s.2.2.2.1.ar.ae.fZ]), (368, .arr 0 123 (s.2.2.2.2.map ai.pd))])) (fun o e R' B' => match o with | .inl y => e = .exit 0 ∧ jX prog 0 (A R' B') (aH.at_ 38 0 14) = some (A [(7, .ptr 304 0)] [(304, .var [rI a0.ac.ak.fX, rI a0.ac.ak.fY, rI a0.ac.ak.fZ, rI a0.ac.ae.fX, rI a0.ac.ae.fY, rI a0.ac.ae.fZ, rI a0.az.aT, .d (.lst (a0.az.ak.map (PD.int .i64))), .d (.lst (a0.az.ae.map (PD.int .i64))), .d (.lst (a0.aY.map av.pd)), rI a0.bG, .d (.lst (y.1.map ai.pd)), rI y.2.1, rI y.2.2.1, rB y.2.2.2.1, rI y.2.2.2.2.aC.fX, rI y.2.2.2.2.aC.fY, rI y.2.2.2.2.aC.fZ, rI y.2.2.2.2.a8, rI y.2.2.2.2.aS, rI y.2.2.2.2.bc, rI y.2.2.2.2.ar.ak.fX, rI y.2.2.2.2.ar.ak.fY, rI y.2.2.2.2.ar.ak.fZ, rI y.2.2.2.2.ar.ae.fX, rI y.2.2.2.2.ar.ae.fY, rI y.2.2.2.2.ar.ae.fZ])]) | .inr r => e = .ret ∧ finish prog (aH.own 38) Tryz.f38 0 (A R' B') = some (match r.1 with | none => (.tup [.d (.raw (.pointer none)), rI r.2], []) | some yv => (.tup [.ptr 0 0, rI r.2], [.var (bC.rc yv)]))) rfl ?_ ?_))
 ·rintro ⟨s6, s7, s8, s9, s10⟩ R' B' q16 hI h
  unfold kx at h
  refine qS<|gS rfl hI<|sM rfl<|sM rfl<|bE h fun x17 hx17 h => cR (rB x17) [(304, .var [rI a0.ac.ak.fX, rI a0.ac.ak.fY, rI a0.ac.ak.fZ, rI a0.ac.ae.fX, rI a0.ac.ae.fY, rI a0.ac.ae.fZ, rI a0.az.aT, .d (.lst (a0.az.ak.map (PD.int .i64))), .d (.lst (a0.az.ae.map (PD.int .i64))), .d (.lst (a0.aY.map av.pd)), rI a0.bG, .ref 368 0, rI s6, rI s7, rB s8, rI s9.aC.fX, rI s9.aC.fY, rI s9.aC.fZ, rI s9.a8, rI s9.aS, rI s9.bc, rI s9.ar.ak.fX, rI s9.ar.ak.fY, rI s9.ar.ak.fZ, rI s9.ar.ae.fX, rI s9.ar.ae.fY, rI s9.ar.ae.fZ]), (368, .arr 0 123 (s10.map ai.pd))] (search_ended_ev hx17)<|sF h (fun h => ?_) fun h => ?_
  ·refine sN<|cT<|qK<|qB<|gS rfl rfl<|sM rfl<|bE h fun x19 hx19 h => cR (rI x19.1) [(304, .var [rI a0.ac.ak.fX, rI a0.ac.ak.fY, rI a0.ac.ak.fZ, rI a0.ac.ae.fX, rI a0.ac.ae.fY, rI a0.ac.ae.fZ, rI a0.az.aT, .d (.lst (a0.az.ak.map (PD.int .i64))), .d (.lst (a0.az.ae.map (PD.int .i64))), .d (.lst (a0.aY.map av.pd)), rI a0.bG, .ref 368 1, rI x19.2.1, rI x19.2.2.1, rB x19.2.2.2.1, rI x19.2.2.2.2.1.aC.fX, rI x19.2.2.2.2.1.aC.fY, rI x19.2.2.2.2.1.aC.fZ, rI x19.2.2.2.2.1.a8, rI x19.2.2.2.2.1.aS, rI x19.2.2.2.2.1.bc, rI x19.2.2.2.2.1.ar.ak.fX, rI x19.2.2.2.2.1.ar.ak.fY, rI x19.2.2.2.2.1.ar.ak.fZ, rI x19.2.2.2.2.1.ar.ae.fX, rI x19.2.2.2.2.1.ar.ae.fY, rI x19.2.2.2.2.1.ar.ae.fZ]), (368, .arr 1 123 (x19.2.2.2.2.2.map ai.pd))] (search_step_ev hx19)<|sA rfl<|sN<|gS rfl rfl<|sM rfl<|sF h (fun h => ?_) fun h => ?_
   ·refine sN<|cT<|gS rfl rfl<|sM rfl<|sV (.d (.raw (.pointer none)))<|sA rfl<|sN<|qR ?_
    cases oI h
    exact ⟨nofun, rfl, rfl⟩
   refine sN<|cF<|qK ?_
   cases oI h
   exact ⟨rfl, rfl⟩
  refine sN<|cF<|qX ?_
  cases oI h
  exact ⟨nofun, rfl, rfl⟩
 intro e R' B' he hq
 rcases o22 with y23 | r24
 ·obtain ⟨rfl, hI⟩ := hq
  refine qE<|gS rfl hI<|sM rfl<|sA rfl<|sV (r0)<|sN<|qR ?_
  cases oI h
  exact qG
 obtain ⟨rfl, hf⟩ := hq
 cases oI h
 exact hf
theorem locate_run_evN {a0 : aw} {a1 : Int} {r : (Option bC) × Int} (h : iR a0 a1 = some r) (ho : r.1 = none) : EvP prog aH ext 38 [.d (aw.pd a0), rI a1] [] (.tup [.d (.raw (.pointer none)), rI r.2], []) := by
  have := ny h; rw [ho] at this; exact this
theorem locate_run_evS {a0 : aw} {a1 : Int} {r : (Option bC) × Int} {yv : bC} (h : iR a0 a1 = some r) (ho : r.1 = some yv) : EvP prog aH ext 38 [.d (aw.pd a0), rI a1] [] (.tup [.ptr 0 0, rI r.2], [.var (bC.rc yv)]) := by
  have := ny h; rw [ho] at this; exact this
theorem geometry_Hull_ev {a0 : aj} {a1 : aj} {r : aj} (h : jh a0 a1 = some r) : EvP prog aH ext 39 [.d (aj.pd a0), .d (aj.pd a1)] [] (.d (aj.pd r), []) := by
 refine Ev.body rfl Tryz.func39 rfl (by kernel_rfl)<|gS rfl rfl<|sB (.ptr 32 0) 32 (.var (aj.rc a0))<|sB (.ptr 48 0) 48 (.var (aj.rc a1))<|sB (.ptr 64 0) 64 (.var zZ3)<|sN<|qS<|gS rfl rfl<|sV (.d (aj.pd a0))<|bE h fun x1 hx1 h => cD (bv hx1)<|sF h (fun h => ?_) fun h => ?_
 ·refine sM rfl<|k3<|sT<|sN<|cT<|gS rfl rfl<|sG (.d (aj.pd (aj.mk (aa.mk 0 0 0) (aa.mk 0 0 0))))<|sH 64 (.var zZ3)<|sN<|qR ?_
  cases oI h
  exact qG
 refine sM rfl<|sV (.d (aj.pd a1))<|bE h fun x3 hx3 h => cD (bv hx3)<|sV (rB (!x3))<|sF h (fun h => ?_) fun h => ?_
 ·refine sN<|cT<|gS rfl rfl<|sG (.d (aj.pd (aj.mk (aa.mk 0 0 0) (aa.mk 0 0 0))))<|sH 64 (.var zZ3)<|sN<|qR ?_
  cases oI h
  exact qG
 refine sN<|cF<|qK<|WC.cI rfl rfl<|sV (.ptr 32 0)<|sV (.d (aa.pd a0.ak))<|bE h fun x5 hx5 h => cD (bz hx5)<|sV (.ptr 32 3)<|sV (.d (aa.pd a0.ae))<|bE h fun x6 hx6 h => cD (bz hx6)<|sV (.ptr 48 0)<|sV (.d (aa.pd a1.ak))<|bE h fun x7 hx7 h => ?_
 refine cD (bz hx7)<|sV (.ptr 48 3)<|sV (.d (aa.pd a1.ae))<|bE h fun x8 hx8 h => cD (bz hx8)<|sB (.ptr 80 0) 80 (.var [r0, r0, r0])<|sB (.ptr 96 0) 96 (.var [r0, r0, r0])<|sB (.ptr 112 0) 112 (.var [r0, r0, r0])<|sB (.ptr 128 0) 128 (.var [r0, r0, r0])<|sS 80 (.var [rI x5.a0, rI x5.a1, rI x5.a2])<|sS 96 (.var [rI x6.a0, rI x6.a1, rI x6.a2])<|sS 112 (.var [rI x7.a0, rI x7.a1, rI x7.a2])<|sS 128 (.var [rI x8.a0, rI x8.a1, rI x8.a2]) ?_
 refine sN<|sO<|qS<|gS rfl rfl<|sV (r0)<|sN<|WC.block (WC.loop ?_)
 refine WL.round<|WC.oX (R0 := [(4, .ptr 64 0), (5, .ptr 80 0), (6, .ptr 96 0), (7, .ptr 112 0), (8, .ptr 128 0), (31, r0)]) (B0 := [(64, .var zZ3), (80, .var [rI x5.a0, rI x5.a1, rI x5.a2]), (96, .var [rI x6.a0, rI x6.a1, rI x6.a2]), (112, .var [rI x7.a0, rI x7.a1, rI x7.a2]), (128, .var [rI x8.a0, rI x8.a1, rI x8.a2])]) rfl rfl<|sT<|sN<|qS<|cT<|qK<|qS<|qB<|gS rfl rfl<|sM rfl<|sA rfl<|sN<|WC.pC rfl rfl<|sM rfl ?_
 refine sM rfl<|sM rfl<|sV (.ptr 80 0)<|sL rfl<|sM rfl<|sV (.ptr 112 0)<|sL rfl<|sV (rI (if x7.a0 < x5.a0 then x7.a0 else x5.a0))<|sM rfl<|sV (.ptr 96 0)<|sL rfl<|sM rfl<|sV (.ptr 128 0)<|sL rfl<|sV (rI (if x8.a0 > x6.a0 then x8.a0 else x6.a0)) ?_
 refine sV (.ptr 80 0)<|sS 80 (.var [rI (if x7.a0 < x5.a0 then x7.a0 else x5.a0), rI x5.a1, rI x5.a2])<|sV (.ptr 96 0)<|sS 96 (.var [rI (if x8.a0 > x6.a0 then x8.a0 else x6.a0), rI x6.a1, rI x6.a2]) ?_
 refine sN<|sO<|WC.region rfl rfl<|sV (rI 1)<|sM rfl<|sN<|WL.round<|WC.oX (R0 := [(4, .ptr 64 0), (5, .ptr 80 0), (6, .ptr 96 0), (7, .ptr 112 0), (8, .ptr 128 0), (31, rI 1)]) (B0 := [(64, .var zZ3), (80, .var [rI (if x7.a0 < x5.a0 then x7.a0 else x5.a0), rI x5.a1, rI x5.a2]), (96, .var [rI (if x8.a0 > x6.a0 then x8.a0 else x6.a0), rI x6.a1, rI x6.a2]), (112, .var [rI x7.a0, rI x7.a1, rI x7.a2]), (128, .var [rI x8.a0, rI x8.a1, rI x8.a2])]) rfl rfl<|sT<|sN<|qS<|cT<|qK<|qS<|qB<|gS rfl rfl ?_
 refine sM rfl<|sA rfl<|sN<|WC.pC rfl rfl<|sM rfl<|sM rfl<|sM rfl<|sV (.ptr 80 1)<|sL rfl<|sM rfl<|sV (.ptr 112 1)<|sL rfl<|sV (rI (if x7.a1 < x5.a1 then x7.a1 else x5.a1))<|sM rfl<|sV (.ptr 96 1) ?_
 refine sL rfl<|sM rfl<|sV (.ptr 128 1)<|sL rfl<|sV (rI (if x8.a1 > x6.a1 then x8.a1 else x6.a1))<|sV (.ptr 80 1)<|sS 80 (.var [rI (if x7.a0 < x5.a0 then x7.a0 else x5.a0), rI (if x7.a1 < x5.a1 then x7.a1 else x5.a1), rI x5.a2])<|sV (.ptr 96 1)<|sS 96 (.var [rI (if x8.a0 > x6.a0 then x8.a0 else x6.a0), rI (if x8.a1 > x6.a1 then x8.a1 else x6.a1), rI x6.a2]) ?_
 refine sN<|sO<|WC.region rfl rfl<|sV (rI 2)<|sM rfl<|sN<|WL.round<|WC.oX (R0 := [(4, .ptr 64 0), (5, .ptr 80 0), (6, .ptr 96 0), (7, .ptr 112 0), (8, .ptr 128 0), (31, rI 2)]) (B0 := [(64, .var zZ3), (80, .var [rI (if x7.a0 < x5.a0 then x7.a0 else x5.a0), rI (if x7.a1 < x5.a1 then x7.a1 else x5.a1), rI x5.a2]), (96, .var [rI (if x8.a0 > x6.a0 then x8.a0 else x6.a0), rI (if x8.a1 > x6.a1 then x8.a1 else x6.a1), rI x6.a2]), (112, .var [rI x7.a0, rI x7.a1, rI x7.a2]), (128, .var [rI x8.a0, rI x8.a1, rI x8.a2])]) rfl rfl<|sT<|sN<|qS<|cT<|qK<|qS<|qB<|gS rfl rfl ?_
 refine sM rfl<|sA rfl<|sN<|WC.pC rfl rfl<|sM rfl<|sM rfl<|sM rfl<|sV (.ptr 80 2)<|sL rfl<|sM rfl<|sV (.ptr 112 2)<|sL rfl<|sV (rI (if x7.a2 < x5.a2 then x7.a2 else x5.a2))<|sM rfl<|sV (.ptr 96 2) ?_
 refine sL rfl<|sM rfl<|sV (.ptr 128 2)<|sL rfl<|sV (rI (if x8.a2 > x6.a2 then x8.a2 else x6.a2))<|sV (.ptr 80 2)<|sS 80 (.var [rI (if x7.a0 < x5.a0 then x7.a0 else x5.a0), rI (if x7.a1 < x5.a1 then x7.a1 else x5.a1), rI (if x7.a2 < x5.a2 then x7.a2 else x5.a2)])<|sV (.ptr 96 2)<|sS 96 (.var [rI (if x8.a0 > x6.a0 then x8.a0 else x6.a0), rI (if x8.a1 > x6.a1 then x8.a1 else x6.a1), rI (if x8.a2 > x6.a2 then x8.a2 else x6.a2)]) ?_
 refine sN<|sO<|WC.region rfl rfl<|sV (rI 3)<|sM rfl<|sN<|WL.round<|WC.oX (R0 := [(4, .ptr 64 0), (5, .ptr 80 0), (6, .ptr 96 0), (7, .ptr 112 0), (8, .ptr 128 0), (31, rI 3)]) (B0 := [(64, .var zZ3), (80, .var [rI (if x7.a0 < x5.a0 then x7.a0 else x5.a0), rI (if x7.a1 < x5.a1 then x7.a1 else x5.a1), rI (if x7.a2 < x5.a2 then x7.a2 else x5.a2)]), (96, .var [rI (if x8.a0 > x6.a0 then x8.a0 else x6.a0), rI (if x8.a1 > x6.a1 then x8.a1 else x6.a1), rI (if x8.a2 > x6.a2 then x8.a2 else x6.a2)]), (112, .var [rI x7.a0, rI x7.a1, rI x7.a2]), (128, .var [rI x8.a0, rI x8.a1, rI x8.a2])]) rfl rfl<|sU<|sN<|qS<|cF<|qX<|qE<|WC.cI rfl rfl<|sV (.d (aW.pd (aW.mk (if x7.a0 < x5.a0 then x7.a0 else x5.a0) (if x7.a1 < x5.a1 then x7.a1 else x5.a1) (if x7.a2 < x5.a2 then x7.a2 else x5.a2)))) ?_
 refine bE h fun x9 hx9 h => cD (bH hx9)<|sV (.d (aW.pd (aW.mk (if x8.a0 > x6.a0 then x8.a0 else x6.a0) (if x8.a1 > x6.a1 then x8.a1 else x6.a1) (if x8.a2 > x6.a2 then x8.a2 else x6.a2))))<|bE h fun x10 hx10 h => cD (bH hx10)<|sG (.d (aj.pd (aj.mk x9 x10)))<|sH 64 (.var [rI x9.fX, rI x9.fY, rI x9.fZ, rI x10.fX, rI x10.fY, rI x10.fZ]) ?_
 refine sN<|sO<|qR ?_
 cases oI h
 exact qG
theorem locate_Locate_ev {a0 : aw} {a1 : Int} {r : aF × Int} (h : gI a0 a1 = some r) : EvP prog aH ext 26 [.d (aw.pd a0), rI a1] [] (.tup [.d (aF.pd r.1), rI r.2], []) := by
 refine Ev.body rfl Tryz.func26 rfl (by kernel_rfl)<|gS rfl rfl<|sB (.ptr 32 0) 32 (.var (aw.rc a0))<|sB (.ptr 64 0) 64 (.var zZ1)<|sV (r0)<|sN<|gS rfl rfl<|sV (.d (aw.pd a0))<|sM rfl<|bE h fun x1 hx1 h => opt_elim h (fun hox1 h => ?_) (fun y2 hox1 h => ?_)
 ·refine cR (.tup [.d (.raw (.pointer none)), rI x1.2]) [] (locate_run_evN hx1 hox1)<|sM rfl<|sV (.d (.raw (.pointer none)))<|sV (rI x1.2)<|sA rfl<|sA rfl<|sN<|qS<|gS rfl rfl<|sM rfl<|sF h (fun h => ?_) fun h => ?_
  ·refine sN<|cT<|gS rfl rfl<|sG (.d (aF.pd (aF.mk (aa.mk 0 0 0) 0 0 0 (aj.mk (aa.mk 0 0 0) (aa.mk 0 0 0)))))<|sM rfl<|sH 64 (.var zZ1)<|sA rfl<|sN<|qR ?_
   cases oI h
   exact qG
  refine sN<|cF<|qK<|gS rfl rfl<|sM rfl ?_
  cases h
 refine cR (.tup [.ptr 224 0, rI x1.2]) [(224, .var (bC.rc y2))] (locate_run_evS hx1 hox1)<|sM rfl<|sV (.ptr 224 0)<|sV (rI x1.2)<|sA rfl<|sA rfl<|sN<|qS<|gS rfl rfl<|sM rfl<|sF h (fun h => ?_) fun h => ?_
 ·refine sN<|cT<|gS rfl rfl<|sG (.d (aF.pd (aF.mk (aa.mk 0 0 0) 0 0 0 (aj.mk (aa.mk 0 0 0) (aa.mk 0 0 0)))))<|sM rfl<|sH 64 (.var zZ1)<|sA rfl<|sN<|qR ?_
  cases oI h
  exact qG
 refine sN<|cF<|qK<|gS rfl rfl<|sM rfl<|sV (.ptr 224 0)<|sV (.ptr 224 15)<|sV (.d (aF.pd y2.br))<|sB (.ptr 128 0) 128 (.var zZ1)<|sH 128 (.var (aF.rc y2.br))<|sN<|gS rfl rfl<|sV (.ptr 128 4)<|sL rfl<|sV (.ptr 128 0) ?_
 refine sV (.d (aa.pd y2.br.aC))<|sV (.ptr 128 0)<|sV (.d (aa.pd y2.br.aC))<|sG (.d (aj.pd (aj.mk y2.br.aC y2.br.aC)))<|sV (.ptr 128 5)<|sS 128 (.var [rI y2.br.aC.fX, rI y2.br.aC.fY, rI y2.br.aC.fZ, rI y2.br.a8, rI y2.br.aS, rI y2.br.aS, rI y2.br.ar.ak.fX, rI y2.br.ar.ak.fY, rI y2.br.ar.ak.fZ, rI y2.br.ar.ae.fX, rI y2.br.ar.ae.fY, rI y2.br.ar.ae.fZ])<|sV (.ptr 128 6)<|sH 128 (.var [rI y2.br.aC.fX, rI y2.br.aC.fY, rI y2.br.aC.fZ, rI y2.br.a8, rI y2.br.aS, rI y2.br.aS, rI y2.br.aC.fX, rI y2.br.aC.fY, rI y2.br.aC.fZ, rI y2.br.aC.fX, rI y2.br.aC.fY, rI y2.br.aC.fZ])<|sN<|qS<|gS rfl rfl<|sM rfl<|sV (.ptr 224 0)<|sV (.ptr 224 11)<|sL rfl ?_
 refine sE (rI (y2.mq.length : Int)) (oD _ _)<|sV (r0)<|sN<|bE h fun o16 ho16 h => WC.block (WC.loop (WL.oL ho16 (fun s R' B' => jX prog 0 (A R' B') (aH.at_ 26 0 7) = some (A [(4, .ptr 64 0), (8, .ptr 128 0), (37, .d (.lst (y2.mq.map ai.pd))), (38, rI (y2.mq.length : Int)), (39, rI s.1)] [(64, .var zZ1), (128, .var [rI y2.br.aC.fX, rI y2.br.aC.fY, rI y2.br.aC.fZ, rI y2.br.a8, rI y2.br.aS, rI s.2.1, rI s.2.2.ak.fX, rI s.2.2.ak.fY, rI s.2.2.ak.fZ, rI s.2.2.ae.fX, rI s.2.2.ae.fY, rI s.2.2.ae.fZ])])) (fun o e R' B' => e = .exit 0 ∧ jX prog 0 (A R' B') (aH.at_ 26 0 13) = some (A [(4, .ptr 64 0), (8, .ptr 128 0)] [(64, .var zZ1), (128, .var [rI y2.br.aC.fX, rI y2.br.aC.fY, rI y2.br.aC.fZ, rI y2.br.a8, rI y2.br.aS, rI o.1, rI o.2.ak.fX, rI o.2.ak.fY, rI o.2.ak.fZ, rI o.2.ae.fX, rI o.2.ae.fY, rI o.2.ae.fZ])])) rfl ?_ ?_))
 ·rintro ⟨s5, s6, s7⟩ R' B' q10 hI h
  refine gS rfl hI<|sF h (fun h => ?_) fun h => ?_
  ·refine sN<|qS<|cT<|qK<|qS<|qB<|gS rfl rfl<|bE h fun x12 hx12 h => eG hx12 rfl<|sV (.d (ai.pd x12))<|sB (.ptr 160 0) 160 (.var [r0, r0, r0, r0, r0, r0, r0, r0])<|sH 160 (.var (ai.rc x12))<|sN<|gS rfl rfl<|sV (.ptr 128 5) ?_
   refine sL rfl<|sV (.ptr 160 6)<|sL rfl<|sV (rI (if x12.dt < s6 then x12.dt else s6))<|sV (.ptr 128 5)<|sS 128 (.var [rI y2.br.aC.fX, rI y2.br.aC.fY, rI y2.br.aC.fZ, rI y2.br.a8, rI y2.br.aS, rI (if x12.dt < s6 then x12.dt else s6), rI s7.ak.fX, rI s7.ak.fY, rI s7.ak.fZ, rI s7.ae.fX, rI s7.ae.fY, rI s7.ae.fZ])<|sN<|gS rfl rfl<|sV (.ptr 160 6)<|sL rfl<|sV (.ptr 128 4)<|sL rfl<|sF h (fun h => ?_) fun h => ?_
   ·refine sN<|cT<|WC.region rfl rfl<|sV (.ptr 128 6)<|sV (.d (aj.pd s7))<|sV (.ptr 160 0)<|sV (.d (aj.pd x12.jW))<|bE h fun x14 hx14 h => cD (geometry_Hull_ev hx14)<|sV (.ptr 128 6)<|sH 128 (.var [rI y2.br.aC.fX, rI y2.br.aC.fY, rI y2.br.aC.fZ, rI y2.br.a8, rI y2.br.aS, rI (if x12.dt < s6 then x12.dt else s6), rI x14.ak.fX, rI x14.ak.fY, rI x14.ak.fZ, rI x14.ae.fX, rI x14.ae.fY, rI x14.ae.fZ])<|sN<|WC.region rfl rfl<|sV (rI (rW (s5 + (1 : Int))))<|sM rfl ?_
    refine sN ?_
    cases oI h
    exact ⟨rfl, rfl⟩
   refine sN<|cF<|qK<|WC.region rfl rfl<|sV (rI (rW (s5 + (1 : Int))))<|sM rfl<|sN ?_
   cases oI h
   exact ⟨rfl, rfl⟩
  refine sN<|qS<|cF<|qX ?_
  cases oI h
  exact ⟨nofun, rfl, rfl⟩
 intro e R' B' he hq
 obtain ⟨rfl, hI⟩ := hq
 refine qE<|gS rfl hI<|sV (.d (aF.pd (aF.mk y2.br.aC y2.br.a8 y2.br.aS o16.1 (aj.mk (aa.mk o16.2.ak.fX o16.2.ak.fY o16.2.ak.fZ) (aa.mk o16.2.ae.fX o16.2.ae.fY o16.2.ae.fZ)))))<|sH 64 (.var [rI y2.br.aC.fX, rI y2.br.aC.fY, rI y2.br.aC.fZ, rI y2.br.a8, rI y2.br.aS, rI o16.1, rI o16.2.ak.fX, rI o16.2.ak.fY, rI o16.2.ak.fZ, rI o16.2.ae.fX, rI o16.2.ae.fY, rI o16.2.ae.fZ])<|sV (r0)<|sN<|qR ?_
 cases oI h
 exact qG
theorem nat_From_ev {a0 : Int} {r : (List Int) × Int} (h : om a0 = some r) : EvP prog aH ext 181 [rI a0] [] (.tup [.d (.lst (r.1.map (PD.int .i64))), rI r.2], []) := by
 refine Ev.body rfl Tryz.func181 rfl (by kernel_rfl)<|gS rfl rfl<|sV .jY<|sV (r0)<|sN<|qS<|gS rfl rfl<|sM rfl<|sF h (fun h => ?_) fun h => ?_
 ·refine sN<|cT<|gS rfl rfl<|sV .jY<|sV (rI 2)<|sN<|qR ?_
  exact oI h▸qD
 refine sN<|cF<|qK<|gS rfl rfl<|sV .jY<|sN<|qS<|bE h fun o10 ho10 h => WC.block (WC.loop (WL.oL ho10 (fun s R' B' => jX prog 0 (A R' B') (aH.at_ 181 0 4) = some (A [(0, rI s.1), (4, .ref 240 0)] [(240, .arr 0 3 (s.2.map (PD.int .i64)))])) (fun o e R' B' => e = .exit 0 ∧ jX prog 0 (A R' B') (aH.at_ 181 0 7) = some (A [(4, .ref 240 0)] [(240, .arr 0 3 (o.map (PD.int .i64)))])) rfl ?_ ?_))
 ·rintro ⟨s2, s3⟩ R' B' q5 hI h
  refine qS<|gS rfl hI<|sM rfl<|sF h (fun h => ?_) fun h => ?_
  ·refine sN<|cT<|qK<|qS<|qB<|WC.region rfl rfl<|sM rfl<|sM rfl<|bE h fun x7 hx7 h => WO.remG hx7 rfl rfl rfl rfl rfl rfl<|sV (.d (.lst ([x7].map (PD.int .i64))))<|bE h fun x8 hx8 h => aR hx8 (fun _ => rfl) rfl<|sA rfl<|sN ?_
   refine WC.region rfl rfl<|sM rfl<|sV (rI (oS .i64 s2 (30 : Int)))<|sA rfl<|sN ?_
   cases oI h
   exact ⟨rfl, rfl⟩
  refine sN<|cF<|qX ?_
  cases oI h
  exact ⟨nofun, rfl, rfl⟩
 intro e R' B' he hq
 obtain ⟨rfl, hI⟩ := hq
 refine qE<|gS rfl hI<|sM rfl<|sA rfl<|sV (r0)<|sN<|qR ?_
 exact oI h▸qD
theorem kS {a0 : Int} {r : Bool} (h : kA a0 = some r) : EvP prog aH ext 171 [rI a0] [] (rB r, []) := by
 refine Ev.body rfl Tryz.func171 rfl (by kernel_rfl)<|gS rfl rfl<|sU<|sN<|gS rfl rfl<|sM rfl<|sF h (fun h => ?_) fun h => ?_
 ·refine sM rfl<|sK<|sK<|sT<|sA rfl<|sN<|qR ?_
  exact oI h▸qD
 refine sM rfl<|sM rfl<|sV (rB (decide (a0 ≥ (1073741824 : Int))))<|sV (rB (decide (a0 ≥ (1073741824 : Int))))<|sA rfl<|sN<|qR ?_
 exact oI h▸qD
theorem jv {a0 : (List Int)} {r : Int} (h : eb a0 = some r) : EvP prog aH ext 186 [.d (.lst (a0.map (PD.int .i64))), .d (.raw (.func (.func 171) #[] #[]))] [] (rI r, []) := by
 refine Ev.body rfl Tryz.func186 rfl (by kernel_rfl)<|gS rfl rfl<|sV (r0)<|sN<|qS<|gS rfl rfl<|sM rfl<|sE (rI (a0.length : Int)) (oD _ _)<|sV (r0)<|sN<|bE h fun o8 ho8 h => WC.block (WC.loop (WL.oL ho8 (fun s R' B' => jX prog 0 (A R' B') (aH.at_ 186 0 2) = some (A [(0, .d (.lst (a0.map (PD.int .i64)))), (1, .d (.raw (.func (.func 171) #[] #[]))), (7, rI (a0.length : Int)), (8, rI s)] [])) (fun o e R' B' => match o with | .inl y => e = .exit 0 ∧ jX prog 0 (A R' B') (aH.at_ 186 0 7) = some (A [] []) | .inr r => e = .ret ∧ finish prog (aH.own 186) Tryz.f186 0 (A R' B') = some (rI r, [])) rfl ?_ ?_))
 ·rintro s1 R' B' q2 hI h
  refine gS rfl hI<|sF h (fun h => ?_) fun h => ?_
  ·refine sN<|qS<|cT<|qK<|qS<|qB<|gS rfl rfl<|sM rfl<|sA rfl<|sN<|gS rfl rfl<|sM rfl<|sM rfl<|sM rfl<|bE h fun x4 hx4 h => ?_
   refine eG hx4 rfl<|sC rfl<|bE h fun x5 hx5 h => pb h (fun hb6 h => ?_) (fun hb6 h => ?_)
   ·refine WO.pD (v := rB true) (u := []) rfl rfl (fun _ => rfl) rfl rfl rfl rfl rfl (kS hx5) rfl rfl (congrArg (fun b => RV.d (.bool b)) hb6) rfl<|sN<|cT<|gS rfl rfl<|sM rfl<|sA rfl<|sN<|qR ?_
    cases oI h
    exact ⟨nofun, rfl, rfl⟩
   refine WO.pD (v := rB false) (u := []) rfl rfl (fun _ => rfl) rfl rfl rfl rfl rfl (kS hx5) rfl rfl (congrArg (fun b => RV.d (.bool b)) hb6) rfl<|sN<|cF<|qK<|WC.region rfl rfl<|sV (rI (rW (s1 + (1 : Int))))<|sM rfl<|sN ?_
   cases oI h
   exact ⟨rfl, rfl⟩
  refine sN<|qS<|cF<|qX ?_
  cases oI h
  exact ⟨nofun, rfl, rfl⟩
 intro e R' B' he hq
 rcases o8 with y9 | r10
 ·obtain ⟨rfl, hI⟩ := hq
  refine qE<|gS rfl hI<|sV (rI (-1))<|sN<|qR ?_
  exact oI h▸qD
 obtain ⟨rfl, hf⟩ := hq
 cases oI h
 exact hf
theorem eI {a0 : (List Int)} {r : Bool} (h : bW a0 = some r) : EvP prog aH ext 170 [.d (.lst (a0.map (PD.int .i64))), .d (.raw (.func (.func 171) #[] #[]))] [] (rB r, []) := by
 refine Ev.body rfl Tryz.func170 rfl (by kernel_rfl)<|gS rfl rfl<|sU<|sN<|gS rfl rfl<|sM rfl<|sM rfl<|bE h fun x1 hx1 h => cD (jv hx1)<|sV (rB (decide (x1 ≥ (0 : Int))))<|sA rfl<|sN<|qR ?_
 exact oI h▸qD
theorem fw {a0 : (List Int)} {r : Bool} (h : ic a0 = some r) : EvP prog aH ext 137 [.d (.lst (a0.map (PD.int .i64)))] [] (rB r, []) := by
 refine Ev.body rfl Tryz.func137 rfl (by kernel_rfl)<|gS rfl rfl<|sU<|sN<|qS<|gS rfl rfl<|sM rfl<|sE (rI (a0.length : Int)) (oD _ _)<|sF h (fun h => ?_) fun h => ?_
 ·refine sM rfl<|k3<|k3<|k3<|k3<|sT<|sN ?_
  refine cT<|gS rfl rfl<|sU<|sN<|qR ?_
  exact oI h▸qD
 refine sM rfl<|sM rfl<|sE (rI (a0.length : Int)) (oD _ _)<|sF h (fun h => ?_) fun h => ?_
 ·refine sM rfl<|sM rfl<|sM rfl<|sE (rI (a0.length : Int)) (oD _ _)<|sV (rI (rW ((a0.length : Int) - (1 : Int))))<|bE h fun x3 hx3 h => eG hx3 rfl<|sC rfl<|sV (rB (x3 == (0 : Int)))<|sV (rB (x3 == (0 : Int)))<|sF h (fun h => ?_) fun h => ?_
  ·refine sN<|cT<|gS rfl rfl<|sU<|sN<|qR ?_
   exact oI h▸qD
  refine sN<|cF<|qK<|gS rfl rfl<|sM rfl<|bE h fun x5 hx5 h => cD (eI hx5)<|sV (rB (!x5))<|sA rfl<|sN<|qR ?_
  exact oI h▸qD
 refine sM rfl<|k3<|k3<|sK<|sU<|sU<|sN<|cF<|qK<|gS rfl rfl<|sM rfl ?_
 refine bE h fun x6 hx6 h => cD (eI hx6)<|sV (rB (!x6))<|sA rfl<|sN<|qR ?_
 exact oI h▸qD
theorem nat_both_ev {a0 : (List Int)} {a1 : (List Int)} {r : Bool} (h : mK a0 a1 = some r) : EvP prog aH ext 190 [.d (.lst (a0.map (PD.int .i64))), .d (.lst (a1.map (PD.int .i64)))] [] (rB r, []) := by
 refine Ev.body rfl Tryz.func190 rfl (by kernel_rfl)<|gS rfl rfl<|sU<|sN<|gS rfl rfl<|sM rfl<|bE h fun x1 hx1 h => pb h (fun hb2 h => ?_) (fun hb2 h => ?_)
 ·refine WO.pD (v := rB true) (u := []) rfl rfl (fun _ => rfl) rfl rfl rfl rfl rfl (fw hx1) rfl rfl (congrArg (fun b => RV.d (.bool b)) hb2) rfl<|sM rfl<|sM rfl<|bE h fun x3 hx3 h => cD (fw hx3)<|sV (rB x3)<|sA rfl<|sN<|qR ?_
  exact oI h▸qD
 refine WO.pD (v := rB false) (u := []) rfl rfl (fun _ => rfl) rfl rfl rfl rfl rfl (fw hx1) rfl rfl (congrArg (fun b => RV.d (.bool b)) hb2) rfl<|sM rfl<|sK<|sK<|sU<|sA rfl<|sN<|qR ?_
 exact oI h▸qD
theorem lO {a0 : (List Int)} {a1 : Int} {r : Int} (h : kc a0 a1 = some r) : EvP prog aH ext 185 [.d (.lst (a0.map (PD.int .i64))), rI a1] [] (rI r, []) := by
 refine Ev.body rfl Tryz.func185 rfl (by kernel_rfl)<|gS rfl rfl<|sV (r0)<|sN<|qS<|gS rfl rfl<|sM rfl<|sM rfl<|sE (rI (a0.length : Int)) (oD _ _)<|sF h (fun h => ?_) fun h => ?_
 ·refine sN<|cT<|gS rfl rfl<|sV (r0)<|sN<|qR ?_
  exact oI h▸qD
 refine sN<|cF<|qK<|gS rfl rfl<|sM rfl<|sM rfl<|bE h fun x2 hx2 h => eG hx2 rfl<|sC rfl<|sA rfl<|sN<|qR ?_
 exact oI h▸qD
theorem nat_trim_ev {a0 : (List Int)} {r : (List Int)} (h : mL a0 = some r) : EvP prog aH ext 184 [.d (.lst (a0.map (PD.int .i64)))] [] (.d (.lst (r.map (PD.int .i64))), []) := by
 refine Ev.body rfl Tryz.func184 rfl (by kernel_rfl)<|gS rfl rfl<|sV .jY<|sN<|qS<|bE h fun o9 ho9 h => WC.block (WC.loop (WL.oL ho9 (fun s R' B' => jX prog 0 (A R' B') (aH.at_ 184 0 1) = some (A [(0, .d (.lst (s.map (PD.int .i64))))] [])) (fun o e R' B' => e = .exit 0 ∧ jX prog 0 (A R' B') (aH.at_ 184 0 3) = some (A [(0, .d (.lst (o.map (PD.int .i64))))] [])) rfl ?_ ?_))
 ·rintro s1 R' B' q3 hI h
  refine qS<|gS rfl hI<|sM rfl<|sE (rI (s1.length : Int)) (oD _ _)<|sF h (fun h => ?_) fun h => ?_
  ·refine sM rfl<|sM rfl<|sM rfl<|sE (rI (s1.length : Int)) (oD _ _)<|sV (rI (rW ((s1.length : Int) - (1 : Int))))<|bE h fun x5 hx5 h => eG hx5 rfl<|sC rfl<|sV (rB (x5 == (0 : Int)))<|sF h (fun h => ?_) fun h => ?_
   ·refine sN<|cT<|qK<|qB<|WC.region rfl rfl<|sM rfl<|sM rfl<|sE (rI (s1.length : Int)) (oD _ _)<|sV (rI (rW ((s1.length : Int) - (1 : Int))))<|bE h fun x7 hx7 h => WO.cutL (sz := 1) (g := (PD.int .i64)) hx7 (fun _ => rfl) rfl rfl rfl rfl rfl rfl rfl rfl rfl rfl rfl<|sA rfl<|sN ?_
    cases oI h
    exact ⟨rfl, rfl⟩
   refine sN<|cF<|qX ?_
   cases oI h
   exact ⟨nofun, rfl, rfl⟩
  refine sM rfl<|k3<|k3<|sK<|sU<|sN<|cF<|qX ?_
  cases oI h
  exact ⟨nofun, rfl, rfl⟩
 intro e R' B' he hq
 obtain ⟨rfl, hI⟩ := hq
 refine qE<|gS rfl hI<|sM rfl<|sA rfl<|sN<|qR ?_
 exact oI h▸qD
theorem jI {a0 : (List Int)} {a1 : (List Int)} {r : (List Int)} (h : gr a0 a1 = some r) : EvP prog aH ext 169 [.d (.lst (a0.map (PD.int .i64))), .d (.lst (a1.map (PD.int .i64)))] [] (.d (.lst (r.map (PD.int .i64))), []) := by
 refine Ev.body rfl Tryz.func169 rfl (by kernel_rfl)<|gS rfl rfl<|sV .jY<|sN<|gS rfl rfl<|sM rfl<|sE (rI (a0.length : Int)) (oD _ _)<|sM rfl<|sE (rI (a1.length : Int)) (oD _ _)<|sV (rI (rW ((a0.length : Int) + (a1.length : Int))))<|bE h fun x1 hx1 h => WO.mkS (g := (PD.int .i64)) hx1 rfl rfl rfl rfl rfl rfl rfl rfl rfl rfl rfl<|sA rfl<|sN<|qS ?_
 refine gS rfl rfl<|sM rfl<|sE (rI (a0.length : Int)) (oD _ _)<|sV (r0)<|sN<|bE h fun o27 ho27 h => WC.block (WC.loop (WL.oL ho27 (fun s R' B' => jX prog 0 (A R' B') (aH.at_ 169 0 3) = some (A [(1, .d (.lst (a1.map (PD.int .i64)))), (5, .ref 240 0), (16, .d (.lst (a0.map (PD.int .i64)))), (17, rI (a0.length : Int)), (18, rI s.1)] [(240, .arr 0 3 (s.2.map (PD.int .i64)))])) (fun o e R' B' => e = .exit 0 ∧ jX prog 0 (A R' B') (aH.at_ 169 0 15) = some (A [(5, .ref 240 0)] [(240, .arr 0 3 (o.map (PD.int .i64)))])) rfl ?_ ?_))
 ·rintro ⟨s2, s3⟩ R' B' q5 hI h
  refine gS rfl hI<|sF h (fun h => ?_) fun h => ?_
  ·refine sN<|qS<|cT<|qK<|qS<|qB<|gS rfl rfl<|sM rfl<|bE h fun x7 hx7 h => eG hx7 rfl<|sC rfl<|sA rfl<|sA rfl<|sN<|gS rfl rfl ?_
   refine sV (r0)<|sN<|gS rfl rfl<|sM rfl<|sE (rI (a1.length : Int)) (oD _ _)<|sV (rI (rW ((a1.length : Int) + (1 : Int))))<|sV (r0)<|sN<|bE h fun o25 ho25 h => WC.block (WC.loop (WL.oL ho25 (fun s R' B' => jX prog 0 (A R' B') (aH.at_ 169 0 7) = some (A [(1, .d (.lst (a1.map (PD.int .i64)))), (5, .ref 240 0), (6, rI s2), (7, rI x7), (8, rI s.1), (16, .d (.lst (a0.map (PD.int .i64)))), (17, rI (a0.length : Int)), (18, rI s2), (25, rI (rW ((a1.length : Int) + (1 : Int)))), (26, rI s.2.1)] [(240, .arr 0 3 (s.2.2.map (PD.int .i64)))])) (fun o e R' B' => e = .exit 2 ∧ jX prog 0 (A R' B') (aH.at_ 169 0 14) = some (A [(1, .d (.lst (a1.map (PD.int .i64)))), (5, .ref 240 0), (16, .d (.lst (a0.map (PD.int .i64)))), (17, rI (a0.length : Int)), (18, rI o.1)] [(240, .arr 0 3 (o.2.map (PD.int .i64)))])) rfl ?_ ?_))
   ·rintro ⟨s8, s9, s10⟩ R' B' q13 hI h
    refine gS rfl hI<|sF h (fun h => ?_) fun h => ?_
    ·refine sN<|qS<|cT<|qK<|qS<|qB<|gS rfl rfl<|sM rfl<|sA rfl<|sN<|gS rfl rfl<|sM rfl<|sM rfl<|sV (rI (rW (s2 + s9)))<|sM rfl ?_
     refine WO.uB rfl rfl rfl rfl rfl rfl rfl rfl rfl<|sF h (fun h => ?_) fun h => ?_
     ·refine sN<|cT<|WC.cI rfl rfl<|sM rfl<|sM rfl<|sM rfl<|sM rfl<|sV (rI (rW (s2 + s9)))<|bE h fun x17 hx17 h => WO.pX hx17 rfl rfl rfl rfl rfl rfl rfl rfl<|bE h fun x18 hx18 h => WO.pN hx18 rfl rfl rfl rfl rfl rfl<|sM rfl<|sM rfl<|sM rfl ?_
      refine bE h fun x19 hx19 h => cD (lO hx19)<|sV (rI (rW (x7 * x19)))<|sV (rI (rW (x18 + (rW (x7 * x19)))))<|sV (rI (rW (s8 + (rW (x18 + (rW (x7 * x19)))))))<|sA rfl ?_
      refine sN<|sO<|gS rfl rfl<|sM rfl<|sM rfl<|sM rfl<|sV (rI (rW (s2 + s9)))<|sM rfl<|bE h fun x20 hx20 h => WO.remG hx20 rfl rfl rfl rfl rfl rfl<|bE h fun x22 hx22 h => WO.pX hx22 rfl rfl rfl rfl rfl rfl rfl rfl<|bE h fun x23 hx23 h => WO.rZ (g := (PD.int .i64)) (sz := 1) (p := .int .i64 x20) hx23 (fun _ => rfl) (fun _ => rfl) rfl rfl rfl rfl rfl rfl rfl rfl rfl<|sN<|WC.region rfl rfl ?_
      refine sM rfl<|sV (rI (oS .i64 (rW (s8 + (rW (x18 + (rW (x7 * x19)))))) (30 : Int)))<|sA rfl<|sN<|WC.region rfl rfl<|sV (rI (rW (s9 + (1 : Int))))<|sM rfl<|sN ?_
      cases oI h
      exact ⟨rfl, rfl⟩
     refine sN<|cF<|qK<|WC.region rfl rfl<|sV (rI (rW (s9 + (1 : Int))))<|sM rfl<|sN ?_
     cases oI h
     exact ⟨rfl, rfl⟩
    refine sN<|qS<|cF<|qX ?_
    cases oI h
    exact ⟨nofun, rfl, rfl⟩
   intro e R' B' he hq
   obtain ⟨rfl, hI⟩ := hq
   refine qE<|WC.region hI rfl<|sV (rI (rW (o25.1 + (1 : Int))))<|sM rfl<|sN ?_
   cases oI h
   exact ⟨rfl, rfl⟩
  refine sN<|qS<|cF<|qX ?_
  cases oI h
  exact ⟨nofun, rfl, rfl⟩
 intro e R' B' he hq
 obtain ⟨rfl, hI⟩ := hq
 refine qE<|gS rfl hI<|sM rfl<|bE h fun x28 hx28 h => cR (.d (.lst (x28.map (PD.int .i64)))) [(240, .dead)] (nat_trim_ev hx28)<|sA rfl<|sN<|qR ?_
 exact oI h▸qD
theorem iB {a0 : (List Int)} {r : (List Int) × Int} (h : f8 a0 = some r) : EvP prog aH ext 168 [.d (.lst (a0.map (PD.int .i64)))] [] (.tup [.d (.lst (r.1.map (PD.int .i64))), rI r.2], []) := by
 refine Ev.body rfl Tryz.func168 rfl (by kernel_rfl)<|gS rfl rfl<|sV .jY<|sV (r0)<|sN<|qS<|gS rfl rfl<|sM rfl<|bE h fun x1 hx1 h => cD (nat_trim_ev hx1)<|sA rfl<|sN<|gS rfl rfl<|sM rfl<|sE (rI (x1.length : Int)) (oD _ _) ?_
 refine sF h (fun h => ?_) fun h => ?_
 ·refine sN<|cT<|gS rfl rfl<|sV .jY<|sV (rI 8)<|sN<|qR ?_
  exact oI h▸qD
 refine sN<|cF<|qK<|gS rfl rfl<|sM rfl<|sA rfl<|sV (r0)<|sN<|qR ?_
 exact oI h▸qD
theorem nat_Mul_ev {a0 : (List Int)} {a1 : (List Int)} {r : (List Int) × Int} (h : nat_Mul a0 a1 = some r) : EvP prog aH ext 182 [.d (.lst (a0.map (PD.int .i64))), .d (.lst (a1.map (PD.int .i64)))] [] (.tup [.d (.lst (r.1.map (PD.int .i64))), rI r.2], []) := by
 refine Ev.body rfl Tryz.func182 rfl (by kernel_rfl)<|gS rfl rfl<|sV .jY<|sV (r0)<|sN<|qS<|gS rfl rfl<|sM rfl<|sM rfl<|bE h fun x1 hx1 h => cD (nat_both_ev hx1)<|sF h (fun h => ?_) fun h => ?_
 ·refine sN<|cT<|gS rfl rfl<|sV .jY<|sV (rI 1)<|sN<|qR ?_
  exact oI h▸qD
 refine sN<|cF<|qK<|gS rfl rfl<|sM rfl<|sM rfl<|bE h fun x3 hx3 h => cD (jI hx3)<|bE h fun x4 hx4 h => cR (.tup [.d (.lst (x4.1.map (PD.int .i64))), rI x4.2]) [] (iB hx4)<|sV (.d (.lst (x4.1.map (PD.int .i64))))<|sV (rI x4.2)<|sA rfl<|sA rfl<|sN ?_
 refine qR ?_
 exact oI h▸qD
theorem dc {a0 : Int} {r : (List Int)} (h : cx a0 = some r) : EvP prog aH ext 164 [rI a0] [] (.d (.lst (r.map (PD.int .i64))), []) := by
 refine Ev.body rfl Tryz.func164 rfl (by kernel_rfl)<|gS rfl rfl<|sV .jY<|sN<|gS rfl rfl<|sM rfl<|sM rfl<|sV (rI (rW (0 - a0)))<|sV (rI (if (rW (0 - a0)) > a0 then (rW (0 - a0)) else a0))<|bE h fun x1 hx1 h => cR (.tup [.d (.lst (x1.1.map (PD.int .i64))), rI x1.2]) [] (nat_From_ev hx1)<|sM rfl<|sV (.d (.lst (x1.1.map (PD.int .i64))))<|sV (rI x1.2)<|sA rfl ?_
 refine sA rfl<|sN<|gS rfl rfl<|sM rfl<|sM rfl<|bE h fun x2 hx2 h => cR (.tup [.d (.lst (x2.1.map (PD.int .i64))), rI x2.2]) [] (nat_Mul_ev hx2)<|sM rfl<|sV (.d (.lst (x2.1.map (PD.int .i64))))<|sV (rI x2.2)<|sA rfl<|sA rfl<|sN<|gS rfl rfl<|sM rfl ?_
 refine sA rfl<|sN<|qR ?_
 exact oI h▸qD
theorem nat_Add_ev {a0 : (List Int)} {a1 : (List Int)} {r : (List Int) × Int} (h : nat_Add a0 a1 = some r) : EvP prog aH ext 183 [.d (.lst (a0.map (PD.int .i64))), .d (.lst (a1.map (PD.int .i64)))] [] (.tup [.d (.lst (r.1.map (PD.int .i64))), rI r.2], []) := by
 refine Ev.body rfl Tryz.func183 rfl (by kernel_rfl)<|gS rfl rfl<|sV .jY<|sV (r0)<|sN<|qS<|gS rfl rfl<|sM rfl<|sM rfl<|bE h fun x1 hx1 h => cD (nat_both_ev hx1)<|sF h (fun h => ?_) fun h => ?_
 ·refine sN<|cT<|gS rfl rfl<|sV .jY<|sV (rI 1)<|sN<|qR ?_
  exact oI h▸qD
 refine sN<|cF<|qK<|gS rfl rfl<|sV .jY<|sN<|gS rfl rfl<|sV (r0)<|sN<|qS<|gS rfl rfl<|sM rfl<|sE (rI (a0.length : Int)) (oD _ _)<|sM rfl<|sE (rI (a1.length : Int)) (oD _ _) ?_
 refine sV (rI (if (a1.length : Int) > (a0.length : Int) then (a1.length : Int) else (a0.length : Int)))<|sV (rI (rW ((if (a1.length : Int) > (a0.length : Int) then (a1.length : Int) else (a0.length : Int)) + (1 : Int))))<|sV (r0)<|sN<|bE h fun o14 ho14 h => WC.block (WC.loop (WL.oL ho14 (fun s R' B' => jX prog 0 (A R' B') (aH.at_ 183 0 6) = some (A [(0, .d (.lst (a0.map (PD.int .i64)))), (1, .d (.lst (a1.map (PD.int .i64)))), (6, .ref 560 0), (7, rI s.1), (18, rI (rW ((if (a1.length : Int) > (a0.length : Int) then (a1.length : Int) else (a0.length : Int)) + (1 : Int)))), (19, rI s.2.1)] [(560, .arr 0 3 (s.2.2.map (PD.int .i64)))])) (fun o e R' B' => e = .exit 0 ∧ jX prog 0 (A R' B') (aH.at_ 183 0 12) = some (A [(6, .ref 560 0)] [(560, .arr 0 3 (o.map (PD.int .i64)))])) rfl ?_ ?_))
 ·rintro ⟨s3, s4, s5⟩ R' B' q7 hI h
  refine gS rfl hI<|sF h (fun h => ?_) fun h => ?_
  ·refine sN<|qS<|cT<|qK<|qS<|qB<|gS rfl rfl<|sM rfl<|sA rfl<|sN<|gS rfl rfl<|sM rfl<|sM rfl<|sM rfl<|bE h fun x9 hx9 h => ?_
   refine cD (lO hx9)<|sM rfl<|sM rfl<|bE h fun x10 hx10 h => cD (lO hx10)<|sV (rI (rW (x9 + x10)))<|sV (rI (rW (s3 + (rW (x9 + x10)))))<|sA rfl<|sN<|gS rfl rfl<|sM rfl<|sM rfl<|bE h fun x11 hx11 h => WO.remG hx11 rfl rfl rfl rfl rfl rfl<|sV (.d (.lst ([x11].map (PD.int .i64)))) ?_
   refine bE h fun x12 hx12 h => aR hx12 (fun _ => rfl) rfl<|sA rfl<|sN<|WC.region rfl rfl<|sM rfl<|sV (rI (oS .i64 (rW (s3 + (rW (x9 + x10)))) (30 : Int)))<|sA rfl<|sN<|WC.region rfl rfl<|sV (rI (rW (s4 + (1 : Int))))<|sM rfl<|sN ?_
   cases oI h
   exact ⟨rfl, rfl⟩
  refine sN<|qS<|cF<|qX ?_
  cases oI h
  exact ⟨nofun, rfl, rfl⟩
 intro e R' B' he hq
 obtain ⟨rfl, hI⟩ := hq
 refine qE<|gS rfl hI<|sM rfl<|bE h fun x15 hx15 h => cR (.tup [.d (.lst (x15.1.map (PD.int .i64))), rI x15.2]) [(560, .dead)] (iB hx15)<|sV (.d (.lst (x15.1.map (PD.int .i64))))<|sV (rI x15.2)<|sA rfl<|sA rfl<|sN<|qR ?_
 exact oI h▸qD
theorem jS {a0 : aW} {a1 : Int} {a2 : Int} {r : (List Int)} (h : e9 a0 a1 a2 = some r) : EvP prog aH ext 165 [.d (aW.pd a0), rI a1, rI a2] [] (.d (.lst (r.map (PD.int .i64))), []) := by
 refine Ev.body rfl Tryz.func165 rfl (by kernel_rfl)<|gS rfl rfl<|sB (.ptr 48 0) 48 (.var [rI a0.a0, rI a0.a1, rI a0.a2])<|sV .jY<|sN<|WC.cI rfl rfl<|sV (.ptr 48 0)<|sL rfl<|sM rfl<|sV (rI (rW (a0.a0 * a2)))<|sM rfl<|sV (rI (rW ((rW (a0.a0 * a2)) * a2)))<|sV (.ptr 48 2)<|sL rfl<|sM rfl ?_
 refine sV (rI (rW (a0.a2 * a1)))<|sM rfl<|sV (rI (rW ((rW (a0.a2 * a1)) * a1)))<|sV (rI (rW ((rW ((rW (a0.a0 * a2)) * a2)) - (rW ((rW (a0.a2 * a1)) * a1)))))<|bE h fun x1 hx1 h => cD (dc hx1)<|sV (.ptr 48 1)<|sL rfl<|sM rfl<|sV (rI (rW (a0.a1 * a1)))<|sM rfl<|sV (rI (rW ((rW (a0.a1 * a1)) * a2)))<|bE h fun x2 hx2 h => cD (dc hx2)<|bE h fun x3 hx3 h => ?_
 refine cR (.tup [.d (.lst (x3.1.map (PD.int .i64))), rI x3.2]) [] (nat_Add_ev hx3)<|sM rfl<|sV (.d (.lst (x3.1.map (PD.int .i64))))<|sV (rI x3.2)<|sA rfl<|sA rfl ?_
 refine sN<|sO<|gS rfl rfl<|sM rfl<|sA rfl<|sN<|qR ?_
 exact oI h▸qD
theorem response_gain_ev {a0 : aB} {a1 : Int} {a2 : Int} {r : aO × Bool} (h : jk a0 a1 a2 = some r) : EvP prog aH ext 135 [.d (aB.pd a0), rI a1, rI a2] [] (.tup [.d (aO.pd r.1), rB r.2], []) := by
 refine Ev.body rfl Tryz.func135 rfl (by kernel_rfl)<|gS rfl rfl<|sB (.ptr 48 0) 48 (.var (aB.rc a0))<|sB (.ptr 96 0) 96 (.var [.jY, .jY])<|sU<|sN<|qS<|gS rfl rfl<|sV (.ptr 48 0)<|sL rfl<|sN<|qB<|gS rfl rfl<|sF h (fun h => ?_) fun h => ?_
 ·refine sA rfl<|sN<|cT<|WC.cI rfl rfl<|sV (.ptr 48 1)<|sV (.ptr 48 1)<|sL rfl<|bE h fun x2 hx2 h => cD (dc hx2)<|sV (.ptr 48 4)<|sV (.ptr 48 4)<|sL rfl<|bE h fun x3 hx3 h => cD (dc hx3)<|sV (.d (.agg [.lst (x2.map (PD.int .i64)), .lst (x3.map (PD.int .i64))])) ?_
  refine sS 96 (.var [.d (.lst (x2.map (PD.int .i64))), .d (.lst (x3.map (PD.int .i64)))])<|sT ?_
  refine sN<|sO<|qR ?_
  cases oI h
  exact qG
 refine sA rfl<|sN<|cF<|gS rfl rfl<|sF h (fun h => ?_) fun h => ?_
 ·refine sA rfl<|sN<|cT<|WC.cI rfl rfl<|sV (.ptr 48 1)<|sV (.d (aW.pd a0.bh))<|sM rfl<|sM rfl<|bE h fun x5 hx5 h => cD (jS hx5)<|sV (.ptr 48 4)<|sV (.d (aW.pd a0.bg))<|sM rfl<|sM rfl<|bE h fun x6 hx6 h => ?_
  refine cD (jS hx6)<|sV (.d (.agg [.lst (x5.map (PD.int .i64)), .lst (x6.map (PD.int .i64))]))<|sB (.ptr 128 0) 128 (.var [.jY, .jY])<|sS 128 (.var [.d (.lst (x5.map (PD.int .i64))), .d (.lst (x6.map (PD.int .i64)))]) ?_
  refine sN<|sO<|WC.cI rfl rfl<|sV (.d (.agg [.lst (x5.map (PD.int .i64)), .lst (x6.map (PD.int .i64))]))<|sV (.ptr 128 1)<|sL rfl<|sE (rI (x6.length : Int)) (oD _ _)<|sV (rB (decide ((x6.length : Int) > (0 : Int))))<|sS 96 (.var [.d (.lst (x5.map (PD.int .i64))), .d (.lst (x6.map (PD.int .i64)))])<|sA rfl ?_
  refine sN<|sO<|qR ?_
  cases oI h
  exact qG
 refine sA rfl<|sN<|cF<|qK<|WC.cI rfl rfl<|sV (.ptr 48 7)<|sL rfl<|bE h fun x7 hx7 h => cD (gR hx7)<|bE h fun x8 hx8 h => cD (dc hx8)<|sV (.ptr 48 9)<|sL rfl<|bE h fun x9 hx9 h => WO.shlG hx9 rfl rfl rfl rfl rfl ?_
 refine bE h fun x10 hx10 h => cD (dc hx10)<|sV (.d (.agg [.lst (x8.map (PD.int .i64)), .lst (x10.map (PD.int .i64))]))<|sS 96 (.var [.d (.lst (x8.map (PD.int .i64))), .d (.lst (x10.map (PD.int .i64)))])<|sT ?_
 refine sN<|sO<|qR ?_
 cases oI h
 exact qG
theorem jt {a0 : aO} {r : Bool} (h : eE a0 = some r) : EvP prog aH ext 167 [.d (aO.pd a0)] [] (rB r, []) := by
 refine Ev.body rfl Tryz.func167 rfl (by kernel_rfl)<|gS rfl rfl<|sB (.ptr 16 0) 16 (.var [.d (.lst (a0.bh.map (PD.int .i64))), .d (.lst (a0.bg.map (PD.int .i64)))])<|sU<|sN<|gS rfl rfl<|sV (.ptr 16 0)<|sL rfl<|bE h fun x1 hx1 h => pb h (fun hb2 h => ?_) (fun hb2 h => ?_)
 ·refine WO.pD (v := rB true) (u := []) rfl rfl (fun _ => rfl) rfl rfl rfl rfl rfl (fw hx1) rfl rfl (congrArg (fun b => RV.d (.bool b)) hb2) rfl<|sM rfl<|sV (.ptr 16 1)<|sL rfl<|bE h fun x3 hx3 h => cD (fw hx3)<|sF h (fun h => ?_) fun h => ?_
  ·refine sM rfl<|sV (.ptr 16 1)<|sL rfl<|sE (rI (a0.bg.length : Int)) (oD _ _)<|sV (rB (decide ((a0.bg.length : Int) > (0 : Int))))<|sV (rB (decide ((a0.bg.length : Int) > (0 : Int))))<|sA rfl<|sN<|qR ?_
   exact oI h▸qD
  refine sM rfl<|k3<|sK<|sU<|sA rfl<|sN<|qR ?_
  exact oI h▸qD
 refine WO.pD (v := rB false) (u := []) rfl rfl (fun _ => rfl) rfl rfl rfl rfl rfl (fw hx1) rfl rfl (congrArg (fun b => RV.d (.bool b)) hb2) rfl<|sM rfl<|k3<|sU<|sM rfl<|k3<|sK<|sU<|sA rfl<|sN<|qR ?_
 exact oI h▸qD
theorem nat_Times_ev {a0 : aO} {a1 : aO} {r : aO × Int} (h : m5 a0 a1 = some r) : EvP prog aH ext 136 [.d (aO.pd a0), .d (aO.pd a1)] [] (.tup [.d (aO.pd r.1), rI r.2], []) := by
 refine Ev.body rfl Tryz.func136 rfl (by kernel_rfl)<|gS rfl rfl<|sB (.ptr 32 0) 32 (.var [.d (.lst (a0.bh.map (PD.int .i64))), .d (.lst (a0.bg.map (PD.int .i64)))])<|sB (.ptr 48 0) 48 (.var [.d (.lst (a1.bh.map (PD.int .i64))), .d (.lst (a1.bg.map (PD.int .i64)))])<|sB (.ptr 64 0) 64 (.var [.jY, .jY])<|sV (r0)<|sN<|qS<|gS rfl rfl<|sV (.d (aO.pd a0))<|bE h fun x1 hx1 h => cD (jt hx1)<|sF h (fun h => ?_) fun h => ?_
 ·refine sM rfl<|k3<|sT<|sN<|cT<|gS rfl rfl<|sV (.agg [.jY, .jY])<|sS 64 (.var [.jY, .jY])<|sV (rI 1)<|sN<|qR ?_
  exact oI h▸qD
 refine sM rfl<|sV (.d (aO.pd a1))<|bE h fun x3 hx3 h => cD (jt hx3)<|sV (rB (!x3))<|sF h (fun h => ?_) fun h => ?_
 ·refine sN<|cT<|gS rfl rfl<|sV (.agg [.jY, .jY])<|sS 64 (.var [.jY, .jY])<|sV (rI 1)<|sN<|qR ?_
  exact oI h▸qD
 refine sN<|cF<|qK<|gS rfl rfl<|sV (.ptr 32 0)<|sL rfl<|sV (.ptr 48 0)<|sL rfl<|bE h fun x5 hx5 h => cD (jI hx5)<|bE h fun x6 hx6 h => cR (.tup [.d (.lst (x6.1.map (PD.int .i64))), rI x6.2]) [] (iB hx6)<|sM rfl<|sV (.d (.lst (x6.1.map (PD.int .i64))))<|sV (rI x6.2) ?_
 refine sA rfl<|sA rfl<|sN<|gS rfl rfl<|sV (.ptr 32 1)<|sL rfl<|sV (.ptr 48 1)<|sL rfl<|bE h fun x7 hx7 h => cD (jI hx7)<|bE h fun x8 hx8 h => cR (.tup [.d (.lst (x8.1.map (PD.int .i64))), rI x8.2]) [] (iB hx8)<|sM rfl<|sV (.d (.lst (x8.1.map (PD.int .i64))))<|sV (rI x8.2) ?_
 refine sA rfl<|sA rfl<|sN<|qS<|gS rfl rfl<|sM rfl<|sF h (fun h => ?_) fun h => ?_
 ·refine sM rfl<|sK<|sK<|sT<|sN<|cT<|gS rfl rfl<|sV (.agg [.jY, .jY])<|sS 64 (.var [.jY, .jY])<|sV (rI 8)<|sN<|qR ?_
  exact oI h▸qD
 refine sM rfl<|sM rfl<|sV (rB (x8.2 != (0 : Int)))<|sF h (fun h => ?_) fun h => ?_
 ·refine sN<|cT<|gS rfl rfl<|sV (.agg [.jY, .jY])<|sS 64 (.var [.jY, .jY])<|sV (rI 8)<|sN<|qR ?_
  exact oI h▸qD
 refine sN<|cF<|qK<|gS rfl rfl<|sM rfl<|sM rfl<|sV (.d (.agg [.lst (x6.1.map (PD.int .i64)), .lst (x8.1.map (PD.int .i64))]))<|sS 64 (.var [.d (.lst (x6.1.map (PD.int .i64))), .d (.lst (x8.1.map (PD.int .i64)))])<|sV (r0)<|sN<|qR ?_
 exact oI h▸qD
theorem response_Gain_ev {a0 : aN} {a1 : Int} {a2 : Int} {r : aO × Int} (h : jj a0 a1 a2 = some r) : EvP prog aH ext 98 [.d (aN.pd a0), rI a1, rI a2] [] (.tup [.d (aO.pd r.1), rI r.2], []) := by
 refine Ev.body rfl Tryz.func98 rfl (by kernel_rfl)<|gS rfl rfl<|sB (.ptr 48 0) 48 (.var [.d (.lst (a0.bj.map aB.pd))])<|sB (.ptr 96 0) 96 (.var [.jY, .jY])<|sV (r0)<|sN<|qS<|gS rfl rfl<|sV (.d (aN.pd a0))<|bE h fun x1 hx1 h => cD (kV hx1)<|sF h (fun h => ?_) fun h => ?_
 ·refine sN<|cT<|gS rfl rfl<|sV (.agg [.jY, .jY])<|sS 96 (.var [.jY, .jY])<|sV (rI 1)<|sN<|qR ?_
  exact oI h▸qD
 refine sN<|cF<|qK<|qS<|gS rfl rfl<|sM rfl<|bE h fun x3 hx3 h => cD (bQ hx3)<|sF h (fun h => ?_) fun h => ?_
 ·refine sM rfl<|k3<|sT<|sN<|cT<|gS rfl rfl<|sV (.agg [.jY, .jY])<|sS 96 (.var [.jY, .jY])<|sV (rI 2)<|sN<|qR ?_
  exact oI h▸qD
 refine sM rfl<|sM rfl<|bE h fun x5 hx5 h => cD (bQ hx5)<|sV (rB (!x5))<|sF h (fun h => ?_) fun h => ?_
 ·refine sN<|cT<|gS rfl rfl<|sV (.agg [.jY, .jY])<|sS 96 (.var [.jY, .jY])<|sV (rI 2)<|sN<|qR ?_
  exact oI h▸qD
 refine sN<|cF<|qK<|gS rfl rfl<|sV (.d (.lst ([1].map (PD.int .i64))))<|sV (.d (.lst ([1].map (PD.int .i64))))<|sV (.d (.agg [.lst ([1].map (PD.int .i64)), .lst ([1].map (PD.int .i64))]))<|sB (.ptr 128 0) 128 (.var [.jY, .jY])<|sS 128 (.var [.d (.lst ([1].map (PD.int .i64))), .d (.lst ([1].map (PD.int .i64)))])<|sN<|qS<|gS rfl rfl<|sV (.ptr 48 0)<|sL rfl<|sE (rI (a0.bj.length : Int)) (oD _ _) ?_
 refine sV (r0)<|sN<|bE h fun o20 ho20 h => WC.block (WC.loop (WL.oL ho20 (fun s R' B' => jX prog 0 (A R' B') (aH.at_ 98 0 7) = some (A [(1, rI a1), (2, rI a2), (6, .ptr 96 0), (8, .ptr 128 0), (31, .d (.lst (a0.bj.map aB.pd))), (32, rI (a0.bj.length : Int)), (33, rI s.1)] [(96, .var [.jY, .jY]), (128, .var [.d (.lst (s.2.1.map (PD.int .i64))), .d (.lst (s.2.2.map (PD.int .i64)))])])) (fun o e R' B' => match o with | .inl y => e = .exit 0 ∧ jX prog 0 (A R' B') (aH.at_ 98 0 17) = some (A [(6, .ptr 96 0), (8, .ptr 128 0)] [(96, .var [.jY, .jY]), (128, .var [.d (.lst (y.1.map (PD.int .i64))), .d (.lst (y.2.map (PD.int .i64)))])]) | .inr r => e = .ret ∧ finish prog (aH.own 98) Tryz.f98 0 (A R' B') = some (.tup [.d (aO.pd r.1), rI r.2], [])) rfl ?_ ?_))
 ·rintro ⟨s7, s8, s9⟩ R' B' q12 hI h
  refine gS rfl hI<|sF h (fun h => ?_) fun h => ?_
  ·refine sN<|qS<|cT<|qK<|qS<|qB<|gS rfl rfl<|bE h fun x14 hx14 h => eG hx14 rfl<|sV (.d (aB.pd x14))<|sB (.ptr 160 0) 160 (.var [r0, r0, r0, r0, r0, r0, r0, .jY, r0, r0])<|sH 160 (.var (aB.rc x14))<|sN<|gS rfl rfl<|sV (.d (aB.pd x14)) ?_
   refine sM rfl<|sM rfl<|bE h fun x15 hx15 h => cR (.tup [.d (aO.pd x15.1), rB x15.2]) [] (response_gain_ev hx15)<|sM rfl<|sV (.d (aO.pd x15.1))<|sV (rB x15.2)<|sB (.ptr 176 0) 176 (.var [.jY, .jY])<|sS 176 (.var [.d (.lst (x15.1.bh.map (PD.int .i64))), .d (.lst (x15.1.bg.map (PD.int .i64)))])<|sA rfl<|sN<|qS<|gS rfl rfl<|sM rfl<|sF h (fun h => ?_) fun h => ?_
   ·refine sN<|cT<|gS rfl rfl<|sV (.agg [.jY, .jY])<|sS 96 (.var [.jY, .jY])<|sV (rI 11)<|sN<|qR ?_
    cases oI h
    exact ⟨nofun, rfl, rfl⟩
   refine sN<|cF<|qK<|gS rfl rfl<|sV (r0)<|sN<|gS rfl rfl<|sV (.d (aO.pd (aO.mk s8 s9)))<|sV (.d (.agg [.lst (x15.1.bh.map (PD.int .i64)), .lst (x15.1.bg.map (PD.int .i64))]))<|bE h fun x17 hx17 h => cR (.tup [.d (aO.pd x17.1), rI x17.2]) [] (nat_Times_ev hx17)<|sM rfl<|sV (.d (aO.pd x17.1))<|sV (rI x17.2)<|sS 128 (.var [.d (.lst (x17.1.bh.map (PD.int .i64))), .d (.lst (x17.1.bg.map (PD.int .i64)))]) ?_
   refine sA rfl<|sN<|gS rfl rfl<|sM rfl<|sF h (fun h => ?_) fun h => ?_
   ·refine sN<|cT<|gS rfl rfl<|sV (.agg [.jY, .jY])<|sM rfl<|sS 96 (.var [.jY, .jY])<|sA rfl<|sN<|qR ?_
    cases oI h
    exact ⟨nofun, rfl, rfl⟩
   refine sN<|cF<|qK<|WC.region rfl rfl<|sV (rI (rW (s7 + (1 : Int))))<|sM rfl<|sN ?_
   cases oI h
   exact ⟨rfl, rfl⟩
  refine sN<|qS<|cF<|qX ?_
  cases oI h
  exact ⟨nofun, rfl, rfl⟩
 intro e R' B' he hq
 rcases o20 with y21 | r22
 ·obtain ⟨rfl, hI⟩ := hq
  refine qE<|gS rfl hI<|sV (.d (aO.pd (aO.mk y21.1 y21.2)))<|sS 96 (.var [.d (.lst (y21.1.map (PD.int .i64))), .d (.lst (y21.2.map (PD.int .i64)))])<|sV (r0)<|sN<|qR ?_
  exact oI h▸qD
 obtain ⟨rfl, hf⟩ := hq
 cases oI h
 exact hf
theorem jQ {a0 : Int} {a1 : Int} {r : Int} (h : e8 a0 a1 = some r) : EvP prog aH ext 138 [rI a0, rI a1] [] (rI r, []) := by
 refine Ev.body rfl Tryz.func138 rfl (by kernel_rfl)<|gS rfl rfl<|sV (r0)<|sN<|gS rfl rfl<|sV (r0)<|sN<|qS<|gS rfl rfl<|sV (r0)<|sN<|WC.block (WC.loop ?_)
 refine WL.round<|gS rfl rfl<|sT<|sN<|qS<|cT<|qK<|WC.join (α := Int × Int) (fun x R' B' => jX prog 0 (A R' B') (aH.at_ 138 0 9) = some (A [(0, rI a0), (1, rI x.1), (5, rI x.2), (6, r0)] [])) (fun x => dE a0 x.1 x.2 = some r) ?_ ?_
 ·refine qB<|gS rfl rfl<|sM rfl<|sM rfl<|sV (rI (rW (a1 * a1)))<|sV (rI (oS .i64 (rW (a1 * a1)) (30 : Int)))<|sA rfl<|sN<|gS rfl rfl<|sM rfl<|sV (r0)<|sA rfl<|sN<|gS rfl rfl<|sM rfl ?_
  refine sF h (fun h => ?_) fun h => ?_
  ·exact sN<|cT<|gS rfl rfl<|sM rfl<|bE h fun x40 hx40 h => WO.sP hx40 rfl rfl rfl rfl rfl rfl<|sA rfl<|sN<|WC.region rfl rfl<|sM rfl<|sV (rI 1)<|sA rfl<|sN<|⟨(x40, 1), rfl, h⟩
  exact sN<|cF<|qK<|⟨((oS .i64 (rW (a1 * a1)) (30 : Int)), 0), rfl, h⟩
 rintro ⟨j1, j2⟩ R' B' hI h
 refine WC.region hI rfl<|sV (rI 1)<|sM rfl<|sN<|WL.round<|gS rfl rfl<|sT<|sN<|qS<|cT<|qK<|WC.join (α := Int × Int) (fun x R' B' => jX prog 0 (A R' B') (aH.at_ 138 0 9) = some (A [(0, rI a0), (1, rI x.1), (5, rI x.2), (6, rI 1)] [])) (fun x => dD a0 x.1 x.2 = some r) ?_ ?_
 ·refine qB<|gS rfl rfl<|sM rfl<|sM rfl<|sV (rI (rW (j1 * j1)))<|sV (rI (oS .i64 (rW (j1 * j1)) (30 : Int)))<|sA rfl<|sN<|gS rfl rfl<|sM rfl<|sV (rI (rW (j2 * (2 : Int))))<|sA rfl<|sN<|gS rfl rfl<|sM rfl ?_
  refine sF h (fun h => ?_) fun h => ?_
  ·exact sN<|cT<|gS rfl rfl<|sM rfl<|bE h fun x37 hx37 h => WO.sP hx37 rfl rfl rfl rfl rfl rfl<|sA rfl<|sN<|WC.region rfl rfl<|sM rfl<|sV (rI (rW ((rW (j2 * (2 : Int))) + (1 : Int))))<|sA rfl<|sN<|⟨(x37, (rW ((rW (j2 * (2 : Int))) + (1 : Int)))), rfl, h⟩
  exact sN<|cF<|qK<|⟨((oS .i64 (rW (j1 * j1)) (30 : Int)), (rW (j2 * (2 : Int)))), rfl, h⟩
 rintro ⟨j3, j4⟩ R' B' hI h
 refine WC.region hI rfl<|sV (rI 2)<|sM rfl<|sN<|WL.round<|gS rfl rfl<|sT<|sN<|qS<|cT<|qK<|WC.join (α := Int × Int) (fun x R' B' => jX prog 0 (A R' B') (aH.at_ 138 0 9) = some (A [(0, rI a0), (1, rI x.1), (5, rI x.2), (6, rI 2)] [])) (fun x => dC a0 x.1 x.2 = some r) ?_ ?_
 ·refine qB<|gS rfl rfl<|sM rfl<|sM rfl<|sV (rI (rW (j3 * j3)))<|sV (rI (oS .i64 (rW (j3 * j3)) (30 : Int)))<|sA rfl<|sN<|gS rfl rfl<|sM rfl<|sV (rI (rW (j4 * (2 : Int))))<|sA rfl<|sN<|gS rfl rfl<|sM rfl ?_
  refine sF h (fun h => ?_) fun h => ?_
  ·exact sN<|cT<|gS rfl rfl<|sM rfl<|bE h fun x34 hx34 h => WO.sP hx34 rfl rfl rfl rfl rfl rfl<|sA rfl<|sN<|WC.region rfl rfl<|sM rfl<|sV (rI (rW ((rW (j4 * (2 : Int))) + (1 : Int))))<|sA rfl<|sN<|⟨(x34, (rW ((rW (j4 * (2 : Int))) + (1 : Int)))), rfl, h⟩
  exact sN<|cF<|qK<|⟨((oS .i64 (rW (j3 * j3)) (30 : Int)), (rW (j4 * (2 : Int)))), rfl, h⟩
 rintro ⟨j5, j6⟩ R' B' hI h
 refine WC.region hI rfl<|sV (rI 3)<|sM rfl<|sN<|WL.round<|gS rfl rfl<|sT<|sN<|qS<|cT<|qK<|WC.join (α := Int × Int) (fun x R' B' => jX prog 0 (A R' B') (aH.at_ 138 0 9) = some (A [(0, rI a0), (1, rI x.1), (5, rI x.2), (6, rI 3)] [])) (fun x => dB a0 x.1 x.2 = some r) ?_ ?_
 ·refine qB<|gS rfl rfl<|sM rfl<|sM rfl<|sV (rI (rW (j5 * j5)))<|sV (rI (oS .i64 (rW (j5 * j5)) (30 : Int)))<|sA rfl<|sN<|gS rfl rfl<|sM rfl<|sV (rI (rW (j6 * (2 : Int))))<|sA rfl<|sN<|gS rfl rfl<|sM rfl ?_
  refine sF h (fun h => ?_) fun h => ?_
  ·exact sN<|cT<|gS rfl rfl<|sM rfl<|bE h fun x31 hx31 h => WO.sP hx31 rfl rfl rfl rfl rfl rfl<|sA rfl<|sN<|WC.region rfl rfl<|sM rfl<|sV (rI (rW ((rW (j6 * (2 : Int))) + (1 : Int))))<|sA rfl<|sN<|⟨(x31, (rW ((rW (j6 * (2 : Int))) + (1 : Int)))), rfl, h⟩
  exact sN<|cF<|qK<|⟨((oS .i64 (rW (j5 * j5)) (30 : Int)), (rW (j6 * (2 : Int)))), rfl, h⟩
 rintro ⟨j7, j8⟩ R' B' hI h
 refine WC.region hI rfl<|sV (rI 4)<|sM rfl<|sN<|WL.round<|gS rfl rfl<|sT<|sN<|qS<|cT<|qK<|WC.join (α := Int × Int) (fun x R' B' => jX prog 0 (A R' B') (aH.at_ 138 0 9) = some (A [(0, rI a0), (1, rI x.1), (5, rI x.2), (6, rI 4)] [])) (fun x => dA a0 x.1 x.2 = some r) ?_ ?_
 ·refine qB<|gS rfl rfl<|sM rfl<|sM rfl<|sV (rI (rW (j7 * j7)))<|sV (rI (oS .i64 (rW (j7 * j7)) (30 : Int)))<|sA rfl<|sN<|gS rfl rfl<|sM rfl<|sV (rI (rW (j8 * (2 : Int))))<|sA rfl<|sN<|gS rfl rfl<|sM rfl ?_
  refine sF h (fun h => ?_) fun h => ?_
  ·exact sN<|cT<|gS rfl rfl<|sM rfl<|bE h fun x28 hx28 h => WO.sP hx28 rfl rfl rfl rfl rfl rfl<|sA rfl<|sN<|WC.region rfl rfl<|sM rfl<|sV (rI (rW ((rW (j8 * (2 : Int))) + (1 : Int))))<|sA rfl<|sN<|⟨(x28, (rW ((rW (j8 * (2 : Int))) + (1 : Int)))), rfl, h⟩
  exact sN<|cF<|qK<|⟨((oS .i64 (rW (j7 * j7)) (30 : Int)), (rW (j8 * (2 : Int)))), rfl, h⟩
 rintro ⟨j9, j10⟩ R' B' hI h
 refine WC.region hI rfl<|sV (rI 5)<|sM rfl<|sN<|WL.round<|gS rfl rfl<|sT<|sN<|qS<|cT<|qK<|WC.join (α := Int × Int) (fun x R' B' => jX prog 0 (A R' B') (aH.at_ 138 0 9) = some (A [(0, rI a0), (1, rI x.1), (5, rI x.2), (6, rI 5)] [])) (fun x => dz a0 x.1 x.2 = some r) ?_ ?_
 ·refine qB<|gS rfl rfl<|sM rfl<|sM rfl<|sV (rI (rW (j9 * j9)))<|sV (rI (oS .i64 (rW (j9 * j9)) (30 : Int)))<|sA rfl<|sN<|gS rfl rfl<|sM rfl<|sV (rI (rW (j10 * (2 : Int))))<|sA rfl<|sN<|gS rfl rfl<|sM rfl ?_
  refine sF h (fun h => ?_) fun h => ?_
  ·exact sN<|cT<|gS rfl rfl<|sM rfl<|bE h fun x25 hx25 h => WO.sP hx25 rfl rfl rfl rfl rfl rfl<|sA rfl<|sN<|WC.region rfl rfl<|sM rfl<|sV (rI (rW ((rW (j10 * (2 : Int))) + (1 : Int))))<|sA rfl<|sN<|⟨(x25, (rW ((rW (j10 * (2 : Int))) + (1 : Int)))), rfl, h⟩
  exact sN<|cF<|qK<|⟨((oS .i64 (rW (j9 * j9)) (30 : Int)), (rW (j10 * (2 : Int)))), rfl, h⟩
 rintro ⟨j11, j12⟩ R' B' hI h
 refine WC.region hI rfl<|sV (rI 6)<|sM rfl<|sN<|WL.round<|gS rfl rfl<|sT<|sN<|qS<|cT<|qK<|WC.join (α := Int × Int) (fun x R' B' => jX prog 0 (A R' B') (aH.at_ 138 0 9) = some (A [(0, rI a0), (1, rI x.1), (5, rI x.2), (6, rI 6)] [])) (fun x => dy a0 x.1 x.2 = some r) ?_ ?_
 ·refine qB<|gS rfl rfl<|sM rfl<|sM rfl<|sV (rI (rW (j11 * j11)))<|sV (rI (oS .i64 (rW (j11 * j11)) (30 : Int)))<|sA rfl<|sN<|gS rfl rfl<|sM rfl<|sV (rI (rW (j12 * (2 : Int))))<|sA rfl<|sN<|gS rfl rfl<|sM rfl ?_
  refine sF h (fun h => ?_) fun h => ?_
  ·exact sN<|cT<|gS rfl rfl<|sM rfl<|bE h fun x22 hx22 h => WO.sP hx22 rfl rfl rfl rfl rfl rfl<|sA rfl<|sN<|WC.region rfl rfl<|sM rfl<|sV (rI (rW ((rW (j12 * (2 : Int))) + (1 : Int))))<|sA rfl<|sN<|⟨(x22, (rW ((rW (j12 * (2 : Int))) + (1 : Int)))), rfl, h⟩
  exact sN<|cF<|qK<|⟨((oS .i64 (rW (j11 * j11)) (30 : Int)), (rW (j12 * (2 : Int)))), rfl, h⟩
 rintro ⟨j13, j14⟩ R' B' hI h
 refine WC.region hI rfl<|sV (rI 7)<|sM rfl<|sN<|WL.round<|gS rfl rfl<|sT<|sN<|qS<|cT<|qK<|WC.join (α := Int × Int) (fun x R' B' => jX prog 0 (A R' B') (aH.at_ 138 0 9) = some (A [(0, rI a0), (1, rI x.1), (5, rI x.2), (6, rI 7)] [])) (fun x => dx a0 x.1 x.2 = some r) ?_ ?_
 ·refine qB<|gS rfl rfl<|sM rfl<|sM rfl<|sV (rI (rW (j13 * j13)))<|sV (rI (oS .i64 (rW (j13 * j13)) (30 : Int)))<|sA rfl<|sN<|gS rfl rfl<|sM rfl<|sV (rI (rW (j14 * (2 : Int))))<|sA rfl<|sN<|gS rfl rfl<|sM rfl ?_
  refine sF h (fun h => ?_) fun h => ?_
  ·exact sN<|cT<|gS rfl rfl<|sM rfl<|bE h fun x19 hx19 h => WO.sP hx19 rfl rfl rfl rfl rfl rfl<|sA rfl<|sN<|WC.region rfl rfl<|sM rfl<|sV (rI (rW ((rW (j14 * (2 : Int))) + (1 : Int))))<|sA rfl<|sN<|⟨(x19, (rW ((rW (j14 * (2 : Int))) + (1 : Int)))), rfl, h⟩
  exact sN<|cF<|qK<|⟨((oS .i64 (rW (j13 * j13)) (30 : Int)), (rW (j14 * (2 : Int)))), rfl, h⟩
 rintro ⟨j15, j16⟩ R' B' hI h
 refine WC.region hI rfl<|sV (rI 8)<|sM rfl<|sN<|WL.round<|gS rfl rfl<|sU<|sN<|qS<|cF<|qX<|qE<|gS rfl rfl<|sM rfl<|sV (rI (rW ((256 : Int) * a0))) ?_
 refine sM rfl<|sV (rI (rW ((rW ((256 : Int) * a0)) + j16)))<|sA rfl<|sN<|qR ?_
 exact oI h▸qD
theorem iS {a0 : Int} {r : Int × Int} (h : fJ a0 = some r) : EvP prog aH ext 100 [rI a0] [] (.tup [rI r.1, rI r.2], []) := by
 refine Ev.body rfl Tryz.func100 rfl (by kernel_rfl)<|gS rfl rfl<|sV (r0)<|sV (r0)<|sN<|qS<|gS rfl rfl<|sM rfl<|sF h (fun h => ?_) fun h => ?_
 ·refine sN<|cT<|gS rfl rfl<|sV (r0)<|sV (rI 2)<|sN<|qR ?_
  exact oI h▸qD
 refine sN<|cF<|qK<|gS rfl rfl<|sM rfl<|sV (.d (.int .u64 (IntKind.wrap .u64 a0)))<|bE h fun x2 hx2 h => cD (mj hx2)<|sV (rI (rW (x2 - (1 : Int))))<|sA rfl<|sN<|qS<|gS rfl rfl<|sM rfl<|sF h (fun h => ?_) fun h => ?_
 ·refine sN<|cT<|gS rfl rfl<|sM rfl<|sM rfl<|sM rfl<|sV (rI (rW ((30 : Int) - (rW (x2 - (1 : Int))))))<|bE h fun x4 hx4 h => WO.shlG hx4 rfl rfl rfl rfl rfl<|bE h fun x5 hx5 h => cD (jQ hx5)<|sA rfl<|sV (r0)<|sN<|qR ?_
  exact oI h▸qD
 refine sN<|cF<|qK<|gS rfl rfl<|sM rfl<|sM rfl<|sM rfl<|sV (rI (rW ((rW (x2 - (1 : Int))) - (30 : Int))))<|bE h fun x6 hx6 h => WO.shrG hx6 rfl rfl rfl rfl rfl<|bE h fun x7 hx7 h => cD (jQ hx7)<|sA rfl<|sV (r0)<|sN ?_
 refine qR ?_
 exact oI h▸qD
theorem jP {a0 : (List Int)} {r : Int × Int} (h : e7 a0 = some r) : EvP prog aH ext 99 [.d (.lst (a0.map (PD.int .i64)))] [] (.tup [rI r.1, rI r.2], []) := by
 refine Ev.body rfl Tryz.func99 rfl (by kernel_rfl)<|gS rfl rfl<|sV (r0)<|sV (r0)<|sN<|qS<|gS rfl rfl<|sM rfl<|bE h fun x1 hx1 h => cD (fw hx1)<|sF h (fun h => ?_) fun h => ?_
 ·refine sN<|cT<|gS rfl rfl<|sV (r0)<|sV (rI 1)<|sN<|qR ?_
  exact oI h▸qD
 refine sN<|cF<|qK<|gS rfl rfl<|sM rfl<|sE (rI (a0.length : Int)) (oD _ _)<|sV (rI (rW ((a0.length : Int) - (1 : Int))))<|sA rfl<|sN<|qS<|qB<|gS rfl rfl<|sM rfl<|sF h (fun h => ?_) fun h => ?_
 ·refine sA rfl<|sN<|cT<|gS rfl rfl<|sV (r0)<|sV (rI 2)<|sN<|qR ?_
  exact oI h▸qD
 refine sA rfl<|sN<|cF<|gS rfl rfl<|sM rfl<|sF h (fun h => ?_) fun h => ?_
 ·refine sA rfl<|sN<|cT<|gS rfl rfl<|sM rfl<|bE h fun x5 hx5 h => eG hx5 rfl<|sC rfl<|bE h fun x6 hx6 h => cR (.tup [rI x6.1, rI x6.2]) [] (iS hx6)<|sV (rI x6.1)<|sV (rI x6.2)<|sA rfl<|sA rfl<|sN ?_
  refine qR ?_
  exact oI h▸qD
 refine sA rfl<|sN<|cF<|qK<|WC.cI rfl rfl<|sM rfl<|sM rfl<|bE h fun x7 hx7 h => eG hx7 rfl<|sC rfl<|sV (rI (shlI .i64 x7 (30 : Int)))<|sM rfl<|sM rfl<|sV (rI (rW ((rW ((a0.length : Int) - (1 : Int))) - (1 : Int))))<|bE h fun x8 hx8 h => ?_
 refine eG hx8 rfl<|sC rfl<|sV (rI (orI .i64 (shlI .i64 x7 (30 : Int)) x8))<|sA rfl ?_
 refine sN<|sO<|gS rfl rfl<|sM rfl<|bE h fun x9 hx9 h => cR (.tup [rI x9.1, rI x9.2]) [] (iS hx9)<|sM rfl<|sV (rI x9.1)<|sV (rI x9.2)<|sA rfl<|sA rfl<|sN<|gS rfl rfl<|sM rfl<|sM rfl<|sV (rI (rW ((rW ((a0.length : Int) - (1 : Int))) - (1 : Int)))) ?_
 refine sV (rI (rW ((7680 : Int) * (rW ((rW ((a0.length : Int) - (1 : Int))) - (1 : Int))))))<|sV (rI (rW (x9.1 + (rW ((7680 : Int) * (rW ((rW ((a0.length : Int) - (1 : Int))) - (1 : Int))))))))<|sM rfl<|sA rfl<|sA rfl<|sN<|qR ?_
 exact oI h▸qD
theorem nm {a0 : bt} {a1 : aN} {a2 : Int} {r : Int × Int} (h : gp a0 a1 a2 = some r) : EvP prog aH ext 67 [.d (bt.pd a0), .d (aN.pd a1), rI a2] [] (.tup [rI r.1, rI r.2], []) := by
 refine Ev.body rfl Tryz.func67 rfl (by kernel_rfl)<|gS rfl rfl<|sB (.ptr 48 0) 48 (.var (bt.rc a0))<|sB (.ptr 64 0) 64 (.var [.d (.lst (a1.bj.map aB.pd))])<|sV (r0)<|sV (r0)<|sN<|gS rfl rfl<|sV (.d (aN.pd a1))<|sV (.ptr 48 3)<|sL rfl<|sV (.ptr 48 4)<|sL rfl<|bE h fun x1 hx1 h => cR (.tup [.d (aO.pd x1.1), rI x1.2]) [] (response_Gain_ev hx1) ?_
 refine sM rfl<|sV (.d (aO.pd x1.1))<|sV (rI x1.2)<|sB (.ptr 128 0) 128 (.var [.jY, .jY])<|sS 128 (.var [.d (.lst (x1.1.bh.map (PD.int .i64))), .d (.lst (x1.1.bg.map (PD.int .i64)))])<|sA rfl<|sN<|qS<|gS rfl rfl<|sM rfl<|sF h (fun h => ?_) fun h => ?_
 ·refine sN<|cT<|gS rfl rfl<|sM rfl<|sV (r0)<|sA rfl<|sN<|qR ?_
  exact oI h▸qD
 refine sN<|cF<|qK<|gS rfl rfl<|sV (.ptr 128 0)<|sL rfl<|bE h fun x3 hx3 h => cR (.tup [rI x3.1, rI x3.2]) [] (jP hx3)<|sM rfl<|sV (rI x3.1)<|sV (rI x3.2)<|sA rfl<|sA rfl<|sN<|qS ?_
 refine gS rfl rfl<|sM rfl<|sF h (fun h => ?_) fun h => ?_
 ·refine sN<|cT<|gS rfl rfl<|sV (r0)<|sV (rI 24)<|sN<|qR ?_
  exact oI h▸qD
 refine sN<|cF<|qK<|gS rfl rfl<|sV (.ptr 128 1)<|sL rfl<|bE h fun x5 hx5 h => cR (.tup [rI x5.1, rI x5.2]) [] (jP hx5)<|sM rfl<|sV (rI x5.1)<|sV (rI x5.2)<|sA rfl<|sA rfl<|sN<|qS ?_
 refine gS rfl rfl<|sM rfl<|sF h (fun h => ?_) fun h => ?_
 ·refine sN<|cT<|gS rfl rfl<|sM rfl<|sV (r0)<|sA rfl<|sN<|qR ?_
  exact oI h▸qD
 refine sN<|cF<|qK<|gS rfl rfl<|sM rfl<|bE h fun x7 hx7 h => cR (.tup [rI x7.1, rI x7.2]) [] (iS hx7)<|sM rfl<|sV (rI x7.1)<|sV (rI x7.2)<|sA rfl<|sA rfl<|sN<|gS rfl rfl<|sM rfl ?_
 refine sV (rI (rW ((2 : Int) * x7.1)))<|sM rfl<|sV (rI (rW ((rW ((2 : Int) * x7.1)) + x5.1)))<|sM rfl<|sV (rI (rW ((rW ((rW ((2 : Int) * x7.1)) + x5.1)) - x3.1)))<|sM rfl<|sA rfl<|sA rfl<|sN<|qR ?_
 exact oI h▸qD
theorem kR {a0 : Int} {r : Int} (h : f7 a0 = some r) : EvP prog aH ext 70 [rI a0] [] (rI r, []) := by
 refine Ev.body rfl Tryz.func70 rfl (by kernel_rfl)<|gS rfl rfl<|sV (r0)<|sN<|gS rfl rfl<|sM rfl<|sV (rI (oS .i64 a0 (1 : Int)))<|sA rfl<|sN<|qR ?_
 exact oI h▸qD
theorem nl {a0 : Int} {r : Int × Bool} (h : iT a0 = some r) : EvP prog aH ext 106 [rI a0] [] (.tup [rI r.1, rB r.2], []) := by
 refine Ev.body rfl Tryz.func106 rfl (by kernel_rfl)<|gS rfl rfl<|sV (r0)<|sU<|sN<|gS rfl rfl<|sM rfl<|sV (rI (rW (a0 * (30103 : Int))))<|sM rfl<|sF h (fun h => ?_) fun h => ?_
 ·refine sM rfl<|sM rfl<|sV (rB (decide (a0 ≤ (16777216 : Int))))<|sV (rB (decide (a0 ≤ (16777216 : Int))))<|sA rfl<|sA rfl<|sN<|qR ?_
  exact oI h▸qD
 refine sM rfl<|sK<|sK<|sU<|sA rfl<|sA rfl<|sN<|qR ?_
 exact oI h▸qD
theorem ky {a0 : Int} {r : Int} (h : fC a0 = some r) : EvP prog aH ext 69 [rI a0] [] (rI r, []) := by
 refine Ev.body rfl Tryz.func69 rfl (by kernel_rfl)<|gS rfl rfl<|sV (r0)<|sN<|gS rfl rfl<|sM rfl<|bE h fun x1 hx1 h => cR (.tup [rI x1.1, rB x1.2]) [] (nl hx1)<|sM rfl<|sV (rI x1.1)<|sV (rB x1.2)<|sA rfl<|sA rfl<|sN<|qS ?_
 refine gS rfl rfl<|sM rfl<|sF h (fun h => ?_) fun h => ?_
 ·refine sN<|cT<|gS rfl rfl<|sV (r0)<|sN<|qR ?_
  exact oI h▸qD
 refine sN<|cF<|qK<|gS rfl rfl<|sM rfl<|bE h fun x3 hx3 h => WO.sP hx3 rfl rfl rfl rfl rfl rfl<|sA rfl<|sN<|qS<|gS rfl rfl<|sM rfl<|bE h fun x4 hx4 h => WO.remG hx4 rfl rfl rfl rfl rfl rfl<|sF h (fun h => ?_) fun h => ?_
 ·refine sN<|cT<|WC.region rfl rfl<|sM rfl<|sV (rI (rW (x3 - (1 : Int))))<|sA rfl<|sN<|gS rfl rfl<|sM rfl<|sA rfl<|sN<|qR ?_
  exact oI h▸qD
 refine sN<|cF<|qK<|gS rfl rfl<|sM rfl<|sA rfl<|sN<|qR ?_
 exact oI h▸qD
theorem ol {a0 : Int} {r : Int} (h : iy a0 = some r) : EvP prog aH ext 71 [rI a0] [] (rI r, []) := by
 refine Ev.body rfl Tryz.func71 rfl (by kernel_rfl)<|gS rfl rfl<|sV (r0)<|sN<|gS rfl rfl<|sM rfl<|sV (rI (rW (0 - a0)))<|bE h fun x1 hx1 h => cD (ky hx1)<|sV (rI (rW (0 - x1)))<|sA rfl<|sN<|qR ?_
 exact oI h▸qD
end Go.Dw.So
