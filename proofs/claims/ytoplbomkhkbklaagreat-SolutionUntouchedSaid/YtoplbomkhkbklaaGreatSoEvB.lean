
import Derived.Test.YtoplbomkhkbklaaGreatSoEvA

set_option maxRecDepth 100000
set_option maxHeartbeats 4000000
namespace Go.Dw.So
open Go.Proofs Go.Proofs.Tryz Go.Dw
theorem solution_used_ev {a0 : aG} {a1 : aC} {a2 : aq} {r : av × al × Bool} (h : cw a0 a1 a2 = some r) : EvP prog aI ext 36 [.d (aG.pd a0), .d (aC.pd a1), .d (aq.pd a2)] [] (.tup [.d (av.pd r.1), .d (al.pd r.2.1), rB r.2.2], []) := by
 refine Ev.body rfl Tryz.func36 rfl (by kernel_rfl)<|gS rfl rfl<|sB (.ptr 48 0) 48 (.var (aG.rc a0))<|sB (.ptr 64 0) 64 (.var [.d (.lst (a1.aO.map ap.pd))])<|sB (.ptr 80 0) 80 (.var (aq.rc a2))<|sB (.ptr 96 0) 96 (.var zZ3)<|sB (.ptr 112 0) 112 (.var zZ2)<|sU<|sN<|qS<|gS rfl rfl<|sV (.d (aq.pd a2))<|bE h fun x1 hx1 h => cD (nD hx1)<|sF h (fun h => ?_) fun h => ?_
 ·refine sN<|cT<|gS rfl rfl<|sG (.d (av.pd (av.mk (aa.mk 0 0 0) 0 0 0)))<|sG (.agg zZ2)<|sH 96 (.var zZ3)<|sH 112 (.var zZ2)<|sU<|sN<|qR ?_
  cases oI h
  exact qG
 refine sN<|cF<|qK<|gS rfl rfl<|sV (.d (aC.pd a1))<|sV (.ptr 80 0)<|sV (.d (aJ.pd a2.aH))<|sV (.ptr 80 4)<|sL rfl<|bE h fun x3 hx3 h => cR (.tup [.d (al.pd x3.1), rI x3.2]) [] (inventory_At_ev hx3)<|sM rfl<|sV (.d (al.pd x3.1))<|sV (rI x3.2)<|sB (.ptr 144 0) 144 (.var zZ2) ?_
 refine sH 144 (.var (al.rc x3.1))<|sA rfl<|sN<|qS<|gS rfl rfl<|sM rfl<|sF h (fun h => ?_) fun h => ?_
 ·refine sN<|cT<|gS rfl rfl<|sG (.d (av.pd (av.mk (aa.mk 0 0 0) 0 0 0)))<|sG (.agg zZ2)<|sH 96 (.var zZ3)<|sH 112 (.var zZ2)<|sU<|sN<|qR ?_
  cases oI h
  exact qG
 refine sN<|cF<|qK<|gS rfl rfl<|sV (.ptr 144 4)<|sV (.d (aa.pd x3.1.aS))<|sV (.ptr 80 5)<|sL rfl<|sV (.ptr 80 6)<|sL rfl<|sG (.d (av.pd (av.mk x3.1.aS a2.bw a2.bO 1)))<|sB (.ptr 176 0) 176 (.var zZ3)<|sH 176 (.var [rI x3.1.aS.fX, rI x3.1.aS.fY, rI x3.1.aS.fZ, rI a2.bw, rI a2.bO, rI 1])<|sN<|qS ?_
 refine gS rfl rfl<|sV (.ptr 48 0)<|sV (.ptr 48 6)<|sV (.d (aK.pd a0.ag.az))<|sV (.ptr 48 0)<|sV (.ptr 48 0)<|sV (.d (ai.pd a0.ag.ac))<|sV (.d (av.pd (av.mk x3.1.aS a2.bw a2.bO 1)))<|bE h fun x5 hx5 h => cR (.tup [.d (aN.pd x5.1), rI x5.2]) [] (jj hx5)<|sM rfl<|sV (.d (aN.pd x5.1))<|sV (rI x5.2)<|sB (.ptr 192 0) 192 (.var [r0, r0])<|sS 192 (.var [rI x5.1.bB, rI x5.1.fTo]) ?_
 refine sA rfl<|sN<|gS rfl rfl<|sM rfl<|sF h (fun h => ?_) fun h => ?_
 ·refine sN<|cT<|gS rfl rfl<|sG (.d (av.pd (av.mk (aa.mk 0 0 0) 0 0 0)))<|sG (.agg zZ2)<|sH 96 (.var zZ3)<|sH 112 (.var zZ2)<|sU<|sN<|qR ?_
  cases oI h
  exact qG
 refine sN<|cF<|qK<|WC.cI rfl rfl<|sV (.d (av.pd (av.mk x3.1.aS a2.bw a2.bO 1)))<|sV (.d (.agg [.int .i64 x3.1.bB, .int .i64 x3.1.fTo, .int .i64 x3.1.cf.bj, .int .i64 x3.1.cf.bh, .int .i64 x3.1.aS.fX, .int .i64 x3.1.aS.fY, .int .i64 x3.1.aS.fZ, .lst (x3.1.bi.bo.map aB.pd)]))<|sH 96 (.var [rI x3.1.aS.fX, rI x3.1.aS.fY, rI x3.1.aS.fZ, rI a2.bw, rI a2.bO, rI 1])<|sH 112 (.var (al.rc x3.1))<|sT ?_
 refine sN<|sO<|qR ?_
 cases oI h
 exact qG
theorem n9 {a0 : aG} {a1 : aC} {a2 : (List aq)} {r : a7 × Int} (h : fI a0 a1 a2 = some r) : EvP prog aI ext 24 [.d (aG.pd a0), .d (aC.pd a1), .d (.lst (a2.map aq.pd))] [] (.tup [.d (a7.pd r.1), rI r.2], []) := by
 refine Ev.body rfl Tryz.func24 rfl (by kernel_rfl)<|gS rfl rfl<|sB (.ptr 48 0) 48 (.var (aG.rc a0))<|sB (.ptr 64 0) 64 (.var [.d (.lst (a1.aO.map ap.pd))])<|sB (.ptr 96 0) 96 (.var [.hY, .hY, .hY])<|sV (r0)<|sN<|gS rfl rfl<|sB (.ptr 128 0) 128 (.var [.hY, .hY, .hY])<|sN<|qS<|qB<|gS rfl rfl<|sV (.d (aG.pd a0))<|bE h fun x1 hx1 h => ?_
 refine cD (jA hx1)<|sF h (fun h => ?_) fun h => ?_
 ·refine sA rfl<|sN<|cT<|gS rfl rfl<|sV (.agg [.hY, .hY, .hY])<|sS 96 (.var [.hY, .hY, .hY])<|sV (rI 27)<|sN<|qR ?_
  cases oI h
  exact qG
 refine sA rfl<|sN<|cF<|gS rfl rfl<|sV (.d (aC.pd a1))<|bE h fun x3 hx3 h => cD (kz hx3)<|sF h (fun h => ?_) fun h => ?_
 ·refine sA rfl<|sN<|cT<|gS rfl rfl<|sV (.agg [.hY, .hY, .hY])<|sS 96 (.var [.hY, .hY, .hY])<|sV (rI 1)<|sN<|qR ?_
  cases oI h
  exact qG
 refine sA rfl<|sN<|cF<|qK<|qS<|gS rfl rfl<|sM rfl<|bE h fun x5 hx5 h => cD (picker_Sort_ev hx5)<|sE (rI (x5.length : Int)) (oQ _ _)<|sV (r0)<|sN<|bE h fun o22 ho22 h => WC.block (WC.loop (WL.oW ho22 (fun s R' B' => lC prog 0 (A R' B') (aI.at_ 24 0 7) = some (A [(3, .ptr 48 0), (4, .ptr 64 0), (6, .ptr 96 0), (8, .ptr 128 0), (25, .d (.lst (x5.map aq.pd))), (26, rI (x5.length : Int)), (27, rI s.1)] [(48, .var (aG.rc a0)), (64, .var [.d (.lst (a1.aO.map ap.pd))]), (96, .var [.hY, .hY, .hY]), (128, .var [.ref 704 0, .ref 784 0, .ref 864 0]), (704, .arr 0 48 (s.2.1.map aq.pd)), (784, .arr 0 111 (s.2.2.1.map av.pd)), (864, .arr 0 71 (s.2.2.2.map al.pd))])) (fun o e R' B' => e = .exit 1 ∧ lC prog 0 (A R' B') (aI.at_ 24 0 13) = some (A [(6, .ptr 96 0), (8, .ptr 128 0)] [(96, .var [.hY, .hY, .hY]), (128, .var [.ref 704 0, .ref 784 0, .ref 864 0]), (704, .arr 0 48 (o.1.map aq.pd)), (784, .arr 0 111 (o.2.1.map av.pd)), (864, .arr 0 71 (o.2.2.map al.pd))])) rfl ?_ ?_))
 ·rintro ⟨s6, s7, s8, s9⟩ R' B' q13 hI h
  refine gS rfl hI<|sF h (fun h => ?_) fun h => ?_
  ·refine sN<|qS<|cT<|qK<|qS<|qB<|gS rfl rfl<|bE h fun x15 hx15 h => eG hx15 rfl<|sV (.d (aq.pd x15))<|sB (.ptr 160 0) 160 (.var [rS [], rS [], rS [], rS [], r0, r0, r0, r0, r0])<|sH 160 (.var (aq.rc x15))<|sN<|gS rfl rfl<|sV (.d (aG.pd a0)) ?_
   refine sV (.d (aC.pd a1))<|sV (.d (aq.pd x15))<|bE h fun x16 hx16 h => cR (.tup [.d (av.pd x16.1), .d (al.pd x16.2.1), rB x16.2.2]) [] (solution_used_ev hx16)<|sM rfl<|sV (.d (av.pd x16.1))<|sV (.d (al.pd x16.2.1))<|sV (rB x16.2.2)<|sB (.ptr 176 0) 176 (.var zZ3)<|sB (.ptr 192 0) 192 (.var zZ2)<|sH 176 (.var (av.rc x16.1))<|sH 192 (.var (al.rc x16.2.1))<|sA rfl<|sN<|gS rfl rfl ?_
   refine sF h (fun h => ?_) fun h => ?_
   ·refine sN<|cT<|WC.pQ rfl rfl<|sV (.ptr 128 0)<|sL rfl<|sV (.d (aq.pd x15))<|sG (.d (.lst ([x15].map aq.pd)))<|bE h fun x18 hx18 h => aR hx18 (fun _ => rfl) rfl<|sV (.ptr 128 1)<|sL rfl<|sV (.d (av.pd x16.1))<|sV (.d (.lst ([x16.1].map av.pd)))<|bE h fun x19 hx19 h => aR hx19 (fun _ => rfl) rfl ?_
    refine sV (.ptr 128 2)<|sL rfl<|sV (.d (.agg [.int .i64 x16.2.1.bB, .int .i64 x16.2.1.fTo, .int .i64 x16.2.1.cf.bj, .int .i64 x16.2.1.cf.bh, .int .i64 x16.2.1.aS.fX, .int .i64 x16.2.1.aS.fY, .int .i64 x16.2.1.aS.fZ, .lst (x16.2.1.bi.bo.map aB.pd)]))<|sG (.d (.lst ([x16.2.1].map al.pd)))<|bE h fun x20 hx20 h => aR hx20 (fun _ => rfl) rfl<|sV (.ptr 128 0)<|sS 128 (.var [.ref 704 1, .ref 784 0, .ref 864 0])<|sV (.ptr 128 1)<|sS 128 (.var [.ref 704 1, .ref 784 1, .ref 864 0])<|sV (.ptr 128 2)<|sS 128 (.var [.ref 704 1, .ref 784 1, .ref 864 1]) ?_
    refine sN<|sO<|WC.region rfl rfl<|sV (rI (rW (s6 + (1 : Int))))<|sM rfl<|sN ?_
    cases oI h
    exact ⟨rfl, rfl⟩
   refine sN<|cF<|qK<|WC.region rfl rfl<|sV (rI (rW (s6 + (1 : Int))))<|sM rfl<|sN ?_
   cases oI h
   exact ⟨rfl, rfl⟩
  refine sN<|qS<|cF<|qX ?_
  cases oI h
  exact ⟨nofun, rfl, rfl⟩
 intro e R' B' he hq
 obtain ⟨rfl, hI⟩ := hq
 refine qE<|gS rfl hI<|sV (.agg [.ref 704 0, .ref 784 0, .ref 864 0])<|sS 96 (.var [.ref 704 0, .ref 784 0, .ref 864 0])<|sV (r0)<|sN<|qR ?_
 exact oI h▸qD
theorem nC {a0 : a7} {a1 : aG} {r : aw × Int} (h : gw a0 a1 = some r) : EvP prog aI ext 25 [.d (a7.pd a0), .d (aG.pd a1)] [] (.tup [.d (aw.pd r.1), rI r.2], []) := by
 refine Ev.body rfl Tryz.func25 rfl (by kernel_rfl)<|gS rfl rfl<|sB (.ptr 32 0) 32 (.var [.d (.lst (a0.cg.map aq.pd)), .d (.lst (a0.b8.map av.pd)), .d (.lst (a0.ez.map al.pd))])<|sB (.ptr 48 0) 48 (.var (aG.rc a1))<|sB (.ptr 64 0) 64 (.var [r0, r0, r0, r0, r0, r0, r0, .hY, .hY, .hY, r0])<|sV (r0)<|sN<|qS<|gS rfl rfl<|sV (.ptr 32 1)<|sL rfl<|sE (rI (a0.b8.length : Int)) (oQ _ _)<|sA rfl<|sN<|qB ?_
 refine gS rfl rfl<|sM rfl<|sF h (fun h => ?_) fun h => ?_
 ·refine sA rfl<|sN<|cT<|gS rfl rfl<|sG (.agg [r0, r0, r0, r0, r0, r0, r0, .hY, .hY, .hY, r0])<|sH 64 (.var [r0, r0, r0, r0, r0, r0, r0, .hY, .hY, .hY, r0])<|sV (rI 24)<|sN<|qR ?_
  cases oI h
  exact qG
 refine sA rfl<|sN<|cF<|gS rfl rfl<|sM rfl<|sF h (fun h => ?_) fun h => ?_
 ·refine sA rfl<|sN<|cT<|gS rfl rfl<|sG (.agg [r0, r0, r0, r0, r0, r0, r0, .hY, .hY, .hY, r0])<|sH 64 (.var [r0, r0, r0, r0, r0, r0, r0, .hY, .hY, .hY, r0])<|sV (rI 8)<|sN<|qR ?_
  cases oI h
  exact qG
 refine sA rfl<|sN<|cF<|qK<|gS rfl rfl<|sV (.ptr 48 0)<|sV (.d (bf.pd a1.ag))<|sB (.ptr 112 0) 112 (.var [r0, r0, r0, r0, r0, r0, r0, .hY, .hY, r0, r0, r0, r0, r0])<|sH 112 (.var (bf.rc a1.ag))<|sN<|WC.cI rfl rfl<|sV (.ptr 112 6)<|sV (.ptr 112 6)<|sL rfl<|sV (.ptr 112 6) ?_
 refine sV (.ptr 112 7)<|sL rfl<|bE h fun x3 hx3 h => cR (.ref 448 0) [(448, .arr 0 3 (x3.map (PD.int .i64)))] (clone_37 hx3)<|sV (.ptr 112 6)<|sV (.ptr 112 8)<|sL rfl<|bE h fun x4 hx4 h => cR (.ref 512 0) [(512, .arr 0 3 (x4.map (PD.int .i64)))] (clone_37 hx4)<|sV (.agg [rI a1.ag.az.aU, .ref 448 0, .ref 512 0])<|sB (.ptr 128 0) 128 (.var [r0, .hY, .hY])<|sS 128 (.var [rI a1.ag.az.aU, .ref 448 0, .ref 512 0]) ?_
 refine sN<|sO<|gS rfl rfl<|sV (.ptr 112 0)<|sV (.d (ai.pd a1.ag.ac))<|sV (.agg [rI a1.ag.az.aU, .ref 448 0, .ref 512 0])<|sV (.ptr 32 1)<|sL rfl<|sV (.ptr 112 9)<|sL rfl<|sG (.agg [rI a1.ag.ac.ak.fX, rI a1.ag.ac.ak.fY, rI a1.ag.ac.ak.fZ, rI a1.ag.ac.ae.fX, rI a1.ag.ac.ae.fY, rI a1.ag.ac.ae.fZ, rI a1.ag.az.aU, .ref 448 0, .ref 512 0, .d (.lst (a0.b8.map av.pd)), rI a1.ag.bG])<|sH 64 (.var [rI a1.ag.ac.ak.fX, rI a1.ag.ac.ak.fY, rI a1.ag.ac.ak.fZ, rI a1.ag.ac.ae.fX, rI a1.ag.ac.ae.fY, rI a1.ag.ac.ae.fZ, rI a1.ag.az.aU, .ref 448 0, .ref 512 0, .d (.lst (a0.b8.map av.pd)), rI a1.ag.bG])<|sV (r0)<|sN<|qR ?_
 cases oI h
 exact qG
theorem kG {a0 : aw} {r : Int} (h : fG a0 = some r) : EvP prog aI ext 60 [.d (aw.pd a0)] [] (rI r, []) := by
 refine Ev.body rfl Tryz.func60 rfl (by kernel_rfl)<|gS rfl rfl<|sB (.ptr 16 0) 16 (.var (aw.rc a0))<|sV (r0)<|sN<|qS<|gS rfl rfl<|sV (.ptr 16 0)<|sV (.d (ai.pd a0.ac))<|bE h fun x1 hx1 h => cD (bv hx1)<|sF h (fun h => ?_) fun h => ?_
 ·refine sN<|cT<|gS rfl rfl<|sV (rI 20)<|sN<|qR ?_
  cases oI h
  exact qG
 refine sN<|cF<|qK<|qS<|gS rfl rfl<|sV (.ptr 16 6)<|sV (.d (aK.pd a0.az))<|bE h fun x3 hx3 h => cD (di hx3)<|sA rfl<|sN<|gS rfl rfl<|sM rfl<|sF h (fun h => ?_) fun h => ?_
 ·refine sN<|cT<|gS rfl rfl<|sM rfl<|sA rfl<|sN<|qR ?_
  cases oI h
  exact qG
 refine sN<|cF<|qK<|qS<|gS rfl rfl<|sV (.ptr 16 9)<|sL rfl<|sE (rI (a0.aY.length : Int)) (oQ _ _)<|sA rfl<|sN<|qB<|gS rfl rfl<|sM rfl<|sF h (fun h => ?_) fun h => ?_
 ·refine sA rfl<|sN<|cT<|gS rfl rfl<|sV (rI 24)<|sN<|qR ?_
  cases oI h
  exact qG
 refine sA rfl<|sN<|cF<|gS rfl rfl<|sM rfl<|sF h (fun h => ?_) fun h => ?_
 ·refine sA rfl<|sN<|cT<|gS rfl rfl<|sV (rI 8)<|sN<|qR ?_
  cases oI h
  exact qG
 refine sA rfl<|sN<|cF<|gS rfl rfl<|sV (.ptr 16 10)<|sL rfl<|sF h (fun h => ?_) fun h => ?_
 ·refine sM rfl<|k3<|sT<|sA rfl<|sN<|cT<|gS rfl rfl<|sV (rI 2)<|sN<|qR ?_
  cases oI h
  exact qG
 refine sM rfl<|sV (.ptr 16 10)<|sL rfl<|sV (rB (decide (a0.bG > (1099511627776 : Int))))<|sF h (fun h => ?_) fun h => ?_
 ·refine sA rfl<|sN<|cT<|gS rfl rfl<|sV (rI 2)<|sN<|qR ?_
  cases oI h
  exact qG
 refine sA rfl<|sN<|cF<|qK<|qS<|gS rfl rfl<|sV (.ptr 16 9)<|sL rfl<|sE (rI (a0.aY.length : Int)) (oQ _ _)<|sV (r0)<|sN<|bE h fun o16 ho16 h => WC.block (WC.loop (WL.oW ho16 (fun s R' B' => lC prog 0 (A R' B') (aI.at_ 60 0 14) = some (A [(1, .ptr 16 0), (38, .d (.lst (a0.aY.map av.pd))), (39, rI (a0.aY.length : Int)), (40, rI s)] [(16, .var (aw.rc a0))])) (fun o e R' B' => match o with | .inl y => e = .exit 1 ∧ lC prog 0 (A R' B') (aI.at_ 60 0 20) = some (A [] []) | .inr r => e = .ret ∧ finish prog (aI.own 60) Tryz.f60 0 (A R' B') = some (rI r, [])) rfl ?_ ?_))
 ·rintro s9 R' B' q10 hI h
  refine gS rfl hI<|sF h (fun h => ?_) fun h => ?_
  ·refine sN<|qS<|cT<|qK<|qS<|qB<|gS rfl rfl<|bE h fun x12 hx12 h => eG hx12 rfl<|sV (.d (av.pd x12))<|sB (.ptr 96 0) 96 (.var zZ3)<|sH 96 (.var (av.rc x12))<|sN<|gS rfl rfl<|sV (.ptr 16 6) ?_
   refine sV (.d (aK.pd a0.az))<|sV (.ptr 16 0)<|sV (.d (ai.pd a0.ac))<|sV (.d (av.pd x12))<|bE h fun x13 hx13 h => cR (.tup [.d (aN.pd x13.1), rI x13.2]) [] (jj hx13)<|sM rfl<|sV (.d (aN.pd x13.1))<|sV (rI x13.2)<|sB (.ptr 112 0) 112 (.var [r0, r0])<|sS 112 (.var [rI x13.1.bB, rI x13.1.fTo])<|sA rfl<|sN<|gS rfl rfl<|sM rfl ?_
   refine sF h (fun h => ?_) fun h => ?_
   ·refine sN<|cT<|gS rfl rfl<|sM rfl<|sA rfl<|sN<|qR ?_
    cases oI h
    exact ⟨nofun, rfl, rfl⟩
   refine sN<|cF<|qK<|WC.region rfl rfl<|sV (rI (rW (s9 + (1 : Int))))<|sM rfl<|sN ?_
   cases oI h
   exact ⟨rfl, rfl⟩
  refine sN<|qS<|cF<|qX ?_
  cases oI h
  exact ⟨nofun, rfl, rfl⟩
 intro e R' B' he hq
 rcases o16 with y17 | r18
 ·obtain ⟨rfl, hI⟩ := hq
  refine qE<|gS rfl hI<|sV (r0)<|sN<|qR ?_
  exact oI h▸qD
 obtain ⟨rfl, hf⟩ := hq
 cases oI h
 exact hf
theorem js {a0 : ai} {a1 : aa} {r : Bool} (h : eA a0 a1 = some r) : EvP prog aI ext 179 [.d (ai.pd a0), .d (aa.pd a1)] [] (rB r, []) := by
 refine Ev.body rfl Tryz.func179 rfl (by kernel_rfl)<|gS rfl rfl<|sB (.ptr 32 0) 32 (.var (ai.rc a0))<|sB (.ptr 48 0) 48 (.var [rI a1.fX, rI a1.fY, rI a1.fZ])<|sU<|sN<|gS rfl rfl<|sV (.d (ai.pd a0))<|bE h fun x1 hx1 h => py h (fun hb2 h => ?_) (fun hb2 h => ?_)
 ·refine WO.pP (v := rB true) (u := []) rfl rfl (fun _ => rfl) rfl rfl rfl rfl rfl (bv hx1) rfl rfl (congrArg (fun b => RV.d (.bool b)) hb2) rfl<|sM rfl<|sV (.d (aa.pd a1))<|bE h fun x3 hx3 h => cD (cp hx3)<|sF h (fun h => ?_) fun h => ?_
  ·refine sM rfl<|sV (.d (ai.pd a0))<|sV (.d (aa.pd a1))<|bE h fun x5 hx5 h => cD (iS hx5)<|sV (rB (x5 == (0 : Int)))<|sV (rB (x5 == (0 : Int)))<|sA rfl<|sN<|qR ?_
   exact oI h▸qD
  refine sM rfl<|k3<|sK<|sU<|sA rfl<|sN<|qR ?_
  exact oI h▸qD
 refine WO.pP (v := rB false) (u := []) rfl rfl (fun _ => rfl) rfl rfl rfl rfl rfl (bv hx1) rfl rfl (congrArg (fun b => RV.d (.bool b)) hb2) rfl<|sM rfl<|sK<|sK<|sU<|sM rfl<|k3<|sK<|sU<|sA rfl<|sN<|qR ?_
 exact oI h▸qD
theorem nQ {a0 : ai} {a1 : ai} {r : Bool} (h : gQ a0 a1 = some r) : EvP prog aI ext 161 [.d (ai.pd a0), .d (ai.pd a1)] [] (rB r, []) := by
 refine Ev.body rfl Tryz.func161 rfl (by kernel_rfl)<|gS rfl rfl<|sB (.ptr 32 0) 32 (.var (ai.rc a0))<|sB (.ptr 48 0) 48 (.var (ai.rc a1))<|sU<|sN<|gS rfl rfl<|sV (.d (ai.pd a0))<|bE h fun x1 hx1 h => py h (fun hb2 h => ?_) (fun hb2 h => ?_)
 ·refine WO.pP (v := rB true) (u := []) rfl rfl (fun _ => rfl) rfl rfl rfl rfl rfl (bv hx1) rfl rfl (congrArg (fun b => RV.d (.bool b)) hb2) rfl<|sM rfl<|sV (.d (ai.pd a1))<|sV (.ptr 32 0)<|sV (.d (aa.pd a0.ak))<|bE h fun x3 hx3 h => cD (js hx3)<|sF h (fun h => ?_) fun h => ?_
  ·refine sM rfl<|sV (.d (ai.pd a1))<|sV (.ptr 32 3)<|sV (.d (aa.pd a0.ae))<|bE h fun x5 hx5 h => cD (js hx5)<|sV (rB x5)<|sA rfl<|sN<|qR ?_
   exact oI h▸qD
  refine sM rfl<|k3<|sK<|sU<|sA rfl<|sN<|qR ?_
  exact oI h▸qD
 refine WO.pP (v := rB false) (u := []) rfl rfl (fun _ => rfl) rfl rfl rfl rfl rfl (bv hx1) rfl rfl (congrArg (fun b => RV.d (.bool b)) hb2) rfl<|sM rfl<|k3<|sK<|sU<|sM rfl<|k3<|sK<|sU<|sA rfl<|sN ?_
 refine qR ?_
 exact oI h▸qD
theorem misfit_zones_ev {a0 : aw} {a1 : ai} {r : (List aN) × Int} (h : lV a0 a1 = some r) : EvP prog aI ext 162 [.d (aw.pd a0), .d (ai.pd a1)] [] (.tup [.d (.lst (r.1.map aN.pd)), rI r.2], []) := by
 refine Ev.body rfl Tryz.func162 rfl (by kernel_rfl)<|gS rfl rfl<|sB (.ptr 32 0) 32 (.var (aw.rc a0))<|sB (.ptr 48 0) 48 (.var (ai.rc a1))<|sV .hY<|sV (r0)<|sN<|gS rfl rfl<|sV (.ptr 32 9)<|sL rfl<|sE (rI (a0.aY.length : Int)) (oQ _ _)<|bE h fun x1 hx1 h => WO.mkC (g := aN.pd) hx1 rfl rfl rfl rfl rfl rfl rfl rfl rfl rfl rfl<|sA rfl<|sN ?_
 refine qS<|gS rfl rfl<|sV (.ptr 32 9)<|sL rfl<|sE (rI (a0.aY.length : Int)) (oQ _ _)<|sV (r0)<|sN<|bE h fun o12 ho12 h => WC.block (WC.loop (WL.oW ho12 (fun s R' B' => lC prog 0 (A R' B') (aI.at_ 162 0 3) = some (A [(2, .ptr 32 0), (3, .ptr 48 0), (6, .ref 224 0), (16, .d (.lst (a0.aY.map av.pd))), (17, rI (a0.aY.length : Int)), (18, rI s.1)] [(32, .var (aw.rc a0)), (48, .var (ai.rc a1)), (224, .arr 0 142 (s.2.map aN.pd))])) (fun o e R' B' => match o with | .inl y => e = .exit 0 ∧ lC prog 0 (A R' B') (aI.at_ 162 0 10) = some (A [(6, .ref 224 0)] [(224, .arr 0 142 (y.map aN.pd))]) | .inr r => e = .ret ∧ finish prog (aI.own 162) Tryz.f162 0 (A R' B') = some (.tup [.d (.lst (r.1.map aN.pd)), rI r.2], [])) rfl ?_ ?_))
 ·rintro ⟨s2, s3⟩ R' B' q5 hI h
  refine gS rfl hI<|sF h (fun h => ?_) fun h => ?_
  ·refine sN<|qS<|cT<|qK<|qS<|qB<|gS rfl rfl<|bE h fun x7 hx7 h => eG hx7 rfl<|sV (.d (av.pd x7))<|sB (.ptr 128 0) 128 (.var zZ3)<|sH 128 (.var (av.rc x7))<|sN<|gS rfl rfl<|sV (.ptr 32 6) ?_
   refine sV (.d (aK.pd a0.az))<|sV (.d (ai.pd a1))<|sV (.d (av.pd x7))<|bE h fun x8 hx8 h => cR (.tup [.d (aN.pd x8.1), rI x8.2]) [] (jj hx8)<|sM rfl<|sV (.d (aN.pd x8.1))<|sV (rI x8.2)<|sB (.ptr 144 0) 144 (.var [r0, r0])<|sS 144 (.var [rI x8.1.bB, rI x8.1.fTo])<|sA rfl<|sN<|qS<|gS rfl rfl<|sM rfl ?_
   refine sF h (fun h => ?_) fun h => ?_
   ·refine sN<|cT<|gS rfl rfl<|sM rfl<|sV .hY<|sA rfl<|sN<|qR ?_
    cases oI h
    exact ⟨nofun, rfl, rfl⟩
   refine sN<|cF<|qK<|WC.region rfl rfl<|sM rfl<|sV (.d (aN.pd x8.1))<|sV (.d (.lst ([x8.1].map aN.pd)))<|bE h fun x10 hx10 h => aR hx10 (fun _ => rfl) rfl<|sA rfl<|sN<|WC.region rfl rfl<|sV (rI (rW (s2 + (1 : Int))))<|sM rfl<|sN ?_
   cases oI h
   exact ⟨rfl, rfl⟩
  refine sN<|qS<|cF<|qX ?_
  cases oI h
  exact ⟨nofun, rfl, rfl⟩
 intro e R' B' he hq
 rcases o12 with y13 | r14
 ·obtain ⟨rfl, hI⟩ := hq
  refine qE<|gS rfl hI<|sM rfl<|sA rfl<|sV (r0)<|sN<|qR ?_
  exact oI h▸qD
 obtain ⟨rfl, hf⟩ := hq
 cases oI h
 exact hf
theorem mh {a0 : aw} {a1 : ai} {r : (List aN) × Int} (h : iC a0 a1 = some r) : EvP prog aI ext 125 [.d (aw.pd a0), .d (ai.pd a1)] [] (.tup [.d (.lst (r.1.map aN.pd)), rI r.2], []) := by
 refine Ev.body rfl Tryz.func125 rfl (by kernel_rfl)<|gS rfl rfl<|sB (.ptr 32 0) 32 (.var (aw.rc a0))<|sB (.ptr 48 0) 48 (.var (ai.rc a1))<|sV .hY<|sV (r0)<|sN<|qS<|gS rfl rfl<|sV (.d (aw.pd a0))<|bE h fun x1 hx1 h => cD (kG hx1)<|sA rfl<|sN<|gS rfl rfl ?_
 refine sM rfl<|sF h (fun h => ?_) fun h => ?_
 ·refine sN<|cT<|gS rfl rfl<|sM rfl<|sV .hY<|sA rfl<|sN<|qR ?_
  cases oI h
  exact qG
 refine sN<|cF<|qK<|qS<|gS rfl rfl<|sV (.d (ai.pd a1))<|sV (.ptr 32 0)<|sV (.d (ai.pd a0.ac))<|bE h fun x3 hx3 h => cD (nQ hx3)<|sF h (fun h => ?_) fun h => ?_
 ·refine sN<|cT<|gS rfl rfl<|sV .hY<|sV (rI 20)<|sN<|qR ?_
  cases oI h
  exact qG
 refine sN<|cF<|qK<|gS rfl rfl<|sV (.d (aw.pd a0))<|sV (.d (ai.pd a1))<|bE h fun x5 hx5 h => cR (.tup [.d (.lst (x5.1.map aN.pd)), rI x5.2]) [] (misfit_zones_ev hx5)<|sV (.d (.lst (x5.1.map aN.pd)))<|sV (rI x5.2)<|sA rfl<|sA rfl<|sN<|qR ?_
 cases oI h
 exact qG
theorem nV {a0 : aN} {a1 : Int} {r : Int} (h : jK a0 a1 = some r) : EvP prog aI ext 180 [.d (aN.pd a0), rI a1] [] (rI r, []) := by
 refine Ev.body rfl Tryz.func180 rfl (by kernel_rfl)<|gS rfl rfl<|sB (.ptr 32 0) 32 (.var [rI a0.bB, rI a0.fTo])<|sV (r0)<|sN<|gS rfl rfl<|sV (.ptr 32 0)<|sL rfl<|sM rfl<|sV (rI (rW (a0.bB - a1)))<|sM rfl<|sV (.ptr 32 1)<|sL rfl<|sV (rI (rW (a1 - a0.fTo)))<|sV (rI (if (0 : Int) > (if (rW (a1 - a0.fTo)) > (rW (a0.bB - a1)) then (rW (a1 - a0.fTo)) else (rW (a0.bB - a1))) then (0 : Int) else (if (rW (a1 - a0.fTo)) > (rW (a0.bB - a1)) then (rW (a1 - a0.fTo)) else (rW (a0.bB - a1))))) ?_
 refine sA rfl<|sN<|qR ?_
 exact oI h▸qD
theorem mQ {a0 : aw} {a1 : (List aN)} {a2 : Int} {r : Int} (h : jv a0 a1 a2 = some r) : EvP prog aI ext 163 [.d (aw.pd a0), .d (.lst (a1.map aN.pd)), rI a2] [] (rI r, []) := by
 refine Ev.body rfl Tryz.func163 rfl (by kernel_rfl)<|gS rfl rfl<|sB (.ptr 48 0) 48 (.var (aw.rc a0))<|sV (r0)<|sN<|gS rfl rfl<|sV (r0)<|sN<|qS<|gS rfl rfl<|sV (.ptr 48 9)<|sL rfl<|sE (rI (a0.aY.length : Int)) (oQ _ _)<|sV (r0)<|sN ?_
 refine bE h fun o11 ho11 h => WC.block (WC.loop (WL.oW ho11 (fun s R' B' => lC prog 0 (A R' B') (aI.at_ 163 0 3) = some (A [(1, .d (.lst (a1.map aN.pd))), (2, rI a2), (3, .ptr 48 0), (7, rI s.1), (11, .d (.lst (a0.aY.map av.pd))), (12, rI (a0.aY.length : Int)), (13, rI s.2)] [(48, .var (aw.rc a0))])) (fun o e R' B' => e = .exit 0 ∧ lC prog 0 (A R' B') (aI.at_ 163 0 8) = some (A [(7, rI o)] [])) rfl ?_ ?_))
 ·rintro ⟨s1, s2⟩ R' B' q4 hI h
  refine gS rfl hI<|sF h (fun h => ?_) fun h => ?_
  ·refine sN<|qS<|cT<|qK<|qS<|qB<|gS rfl rfl<|sM rfl<|bE h fun x6 hx6 h => eG hx6 rfl<|sV (.d (av.pd x6))<|sB (.ptr 144 0) 144 (.var zZ3)<|sA rfl<|sH 144 (.var (av.rc x6))<|sN ?_
   refine gS rfl rfl<|sM rfl<|sM rfl<|sE (rI (a1.length : Int)) (oQ _ _)<|sF h (fun h => ?_) fun h => ?_
   ·refine sN<|cT<|WC.pQ rfl rfl<|sM rfl<|sV (.ptr 144 5)<|sL rfl<|sV (.ptr 48 10)<|sL rfl<|sM rfl<|sM rfl<|bE h fun x8 hx8 h => eG hx8 rfl<|sV (.d (aN.pd x8))<|sM rfl<|bE h fun x9 hx9 h => ?_
    refine cD (nV hx9)<|sV (rI (if x9 < a0.bG then x9 else a0.bG))<|sV (rI (rW (x6.gn * (if x9 < a0.bG then x9 else a0.bG))))<|sV (rI (rW (s1 + (rW (x6.gn * (if x9 < a0.bG then x9 else a0.bG))))))<|sA rfl ?_
    refine sN<|sO<|WC.region rfl rfl<|sV (rI (rW (s2 + (1 : Int))))<|sM rfl<|sN ?_
    cases oI h
    exact ⟨rfl, rfl⟩
   refine sN<|cF<|qK<|WC.region rfl rfl<|sV (rI (rW (s2 + (1 : Int))))<|sM rfl<|sN ?_
   cases oI h
   exact ⟨rfl, rfl⟩
  refine sN<|qS<|cF<|qX ?_
  cases oI h
  exact ⟨nofun, rfl, rfl⟩
 intro e R' B' he hq
 obtain ⟨rfl, hI⟩ := hq
 refine qE<|gS rfl hI<|sM rfl<|sA rfl<|sN<|qR ?_
 exact oI h▸qD
theorem mO {a0 : aw} {a1 : (List aN)} {r : Int × Int} (h : ju a0 a1 = some r) : EvP prog aI ext 126 [.d (aw.pd a0), .d (.lst (a1.map aN.pd))] [] (.tup [rI r.1, rI r.2], []) := by
 refine Ev.body rfl Tryz.func126 rfl (by kernel_rfl)<|gS rfl rfl<|sB (.ptr 32 0) 32 (.var (aw.rc a0))<|sV (r0)<|sV (r0)<|sN<|gS rfl rfl<|sM rfl<|sE (rI (a1.length : Int)) (oQ _ _)<|sV (rI (rW ((2 : Int) * (a1.length : Int))))<|bE h fun x1 hx1 h => WO.mkC (g := (PD.int .i64)) hx1 rfl rfl rfl rfl rfl rfl rfl rfl rfl rfl rfl<|sA rfl<|sN<|qS ?_
 refine gS rfl rfl<|sM rfl<|sE (rI (a1.length : Int)) (oQ _ _)<|sV (r0)<|sN<|bE h fun o10 ho10 h => WC.block (WC.loop (WL.oW ho10 (fun s R' B' => lC prog 0 (A R' B') (aI.at_ 126 0 3) = some (A [(1, .d (.lst (a1.map aN.pd))), (2, .ptr 32 0), (6, .ref 272 0), (18, .d (.lst (a1.map aN.pd))), (19, rI (a1.length : Int)), (20, rI s.1)] [(32, .var (aw.rc a0)), (272, .arr 0 3 (s.2.map (PD.int .i64)))])) (fun o e R' B' => e = .exit 0 ∧ lC prog 0 (A R' B') (aI.at_ 126 0 7) = some (A [(1, .d (.lst (a1.map aN.pd))), (2, .ptr 32 0), (6, .ref 272 0)] [(32, .var (aw.rc a0)), (272, .arr 0 3 (o.map (PD.int .i64)))])) rfl ?_ ?_))
 ·rintro ⟨s2, s3⟩ R' B' q5 hI h
  refine gS rfl hI<|sF h (fun h => ?_) fun h => ?_
  ·refine sN<|qS<|cT<|qK<|qS<|qB<|gS rfl rfl<|bE h fun x7 hx7 h => eG hx7 rfl<|sV (.d (aN.pd x7))<|sB (.ptr 128 0) 128 (.var [r0, r0])<|sS 128 (.var [rI x7.bB, rI x7.fTo])<|sN<|WC.region rfl rfl<|sM rfl ?_
   refine sV (.ptr 128 0)<|sL rfl<|sV (.ptr 128 1)<|sL rfl<|sV (.d (.lst ([x7.bB, x7.fTo].map (PD.int .i64))))<|bE h fun x8 hx8 h => aR hx8 (fun _ => rfl) rfl<|sA rfl<|sN<|WC.region rfl rfl<|sV (rI (rW (s2 + (1 : Int))))<|sM rfl<|sN ?_
   cases oI h
   exact ⟨rfl, rfl⟩
  refine sN<|qS<|cF<|qX ?_
  cases oI h
  exact ⟨nofun, rfl, rfl⟩
 intro e R' B' he hq
 obtain ⟨rfl, hI⟩ := hq
 refine qE<|qS<|gS rfl hI<|sM rfl<|WO.vR rfl rfl rfl rfl rfl rfl rfl rfl rfl<|sF h (fun h => ?_) fun h => ?_
 ·refine sN<|cT<|gS rfl rfl<|sV (r0)<|sV (r0)<|sN<|qR ?_
  cases oI h
  exact qG
 refine sN<|cF<|qK<|WC.cI rfl rfl<|sM rfl<|bE h fun x13 hx13 h => WO.qo hx13 rfl rfl rfl rfl rfl rfl rfl rfl<|bE h fun x14 hx14 h => WO.p7 hx14 rfl rfl rfl rfl rfl rfl<|sV (.d (aw.pd a0))<|sM rfl<|sM rfl<|bE h fun x16 hx16 h => WO.qo hx16 rfl rfl rfl rfl rfl rfl rfl rfl<|bE h fun x17 hx17 h => ?_
 refine WO.p7 hx17 rfl rfl rfl rfl rfl rfl<|bE h fun x18 hx18 h => cD (mQ hx18)<|sA rfl<|sA rfl ?_
 refine sN<|sO<|qS<|gS rfl rfl<|sM rfl<|bE h fun x19 hx19 h => WO.subR hx19 rfl rfl rfl rfl rfl rfl rfl rfl rfl rfl rfl rfl<|bE h fun x20 hx20 h => WO.lenVw hx20 rfl rfl rfl rfl rfl rfl rfl rfl rfl<|sV (r0)<|sN<|bE h fun o35 ho35 h => WC.block (WC.loop (WL.oW ho35 (fun s R' B' => lC prog 0 (A R' B') (aI.at_ 126 0 11) = some (A [(1, .d (.lst (a1.map aN.pd))), (2, .ptr 32 0), (9, rI s.1), (10, rI s.2.1), (45, .view 272 0 (0 + (1 : Int).toNat) (0 + ((o10.length : Int) : Int).toNat)), (46, rI x20), (47, rI s.2.2)] [(32, .var (aw.rc a0)), (272, .arr 0 3 (o10.map (PD.int .i64)))])) (fun o e R' B' => e = .exit 2 ∧ lC prog 0 (A R' B') (aI.at_ 126 0 17) = some (A [(9, rI o.1), (10, rI o.2)] [])) rfl ?_ ?_))
 ·rintro ⟨s21, s22, s23⟩ R' B' q26 hI h
  refine gS rfl hI<|sF h (fun h => ?_) fun h => ?_
  ·refine sN<|qS<|cT<|qK<|qS<|qB<|gS rfl rfl<|bE h fun x28 hx28 h => WO.eltV hx28 rfl rfl rfl rfl rfl rfl rfl rfl<|bE h fun x29 hx29 h => WO.p7 hx29 rfl rfl rfl rfl rfl rfl<|sA rfl<|sN<|gS rfl rfl<|sV (.d (aw.pd a0)) ?_
   refine sM rfl<|sM rfl<|bE h fun x30 hx30 h => cD (mQ hx30)<|sA rfl<|sN<|gS rfl rfl<|sM rfl<|sM rfl<|sF h (fun h => ?_) fun h => ?_
   ·refine sM rfl<|k3<|k3<|sK<|sK<|sT<|sN<|cT<|WC.region rfl rfl<|sM rfl<|sM rfl ?_
    refine sA rfl<|sA rfl<|sN<|WC.region rfl rfl<|sV (rI (rW (s23 + (1 : Int))))<|sM rfl<|sN ?_
    cases oI h
    exact ⟨rfl, rfl⟩
   refine sM rfl<|sM rfl<|sM rfl<|sF h (fun h => ?_) fun h => ?_
   ·refine sM rfl<|sM rfl<|sM rfl<|sV (rB (decide (x29 < s21)))<|sV (rB (decide (x29 < s21)))<|sF h (fun h => ?_) fun h => ?_
    ·refine sN<|cT<|WC.region rfl rfl<|sM rfl<|sM rfl<|sA rfl<|sA rfl<|sN<|WC.region rfl rfl<|sV (rI (rW (s23 + (1 : Int))))<|sM rfl<|sN ?_
     cases oI h
     exact ⟨rfl, rfl⟩
    refine sN<|cF<|qK<|WC.region rfl rfl<|sV (rI (rW (s23 + (1 : Int))))<|sM rfl<|sN ?_
    cases oI h
    exact ⟨rfl, rfl⟩
   refine sM rfl<|k3<|sU<|sU<|sN<|cF<|qK<|WC.region rfl rfl<|sV (rI (rW (s23 + (1 : Int))))<|sM rfl<|sN ?_
   cases oI h
   exact ⟨rfl, rfl⟩
  refine sN<|qS<|cF<|qX ?_
  cases oI h
  exact ⟨nofun, rfl, rfl⟩
 intro e R' B' he hq
 obtain ⟨rfl, hI⟩ := hq
 refine qE<|gS rfl hI<|sM rfl<|sM rfl<|sA rfl<|sA rfl<|sN<|qR ?_
 exact oI h▸qD
theorem mf {a0 : aw} {a1 : ai} {r : Int × Int} (h : iB a0 a1 = some r) : EvP prog aI ext 92 [.d (aw.pd a0), .d (ai.pd a1)] [] (.tup [rI r.1, rI r.2], []) := by
 refine Ev.body rfl Tryz.func92 rfl (by kernel_rfl)<|gS rfl rfl<|sB (.ptr 32 0) 32 (.var (aw.rc a0))<|sB (.ptr 48 0) 48 (.var (ai.rc a1))<|sV (r0)<|sV (r0)<|sN<|gS rfl rfl<|sV (.d (aw.pd a0))<|sV (.d (ai.pd a1))<|bE h fun x1 hx1 h => cR (.tup [.d (.lst (x1.1.map aN.pd)), rI x1.2]) [] (mh hx1)<|sM rfl<|sV (.d (.lst (x1.1.map aN.pd)))<|sV (rI x1.2) ?_
 refine sA rfl<|sA rfl<|sN<|qS<|gS rfl rfl<|sM rfl<|sF h (fun h => ?_) fun h => ?_
 ·refine sN<|cT<|gS rfl rfl<|sM rfl<|sV (r0)<|sA rfl<|sN<|qR ?_
  cases oI h
  exact qG
 refine sN<|cF<|qK<|gS rfl rfl<|sV (.d (aw.pd a0))<|sM rfl<|bE h fun x3 hx3 h => cR (.tup [rI x3.1, rI x3.2]) [] (mO hx3)<|sM rfl<|sV (rI x3.1)<|sV (rI x3.2)<|sA rfl<|sA rfl<|sN<|gS rfl rfl ?_
 refine sM rfl<|sA rfl<|sV (r0)<|sN<|qR ?_
 cases oI h
 exact qG
theorem queue_Push_ev {a0 : ah} {e1 : aw} {e2 : Int} {e3 : Int} {e4 : Bool} {e5 : aF} {r : (List ah)} (h : nY a0 e1 e2 e3 e4 e5 = some r) : EvP prog aI ext 213 [.ptr 0 11, .ifc 123 (.d (ah.pd a0))] [.var [rI e1.ac.ak.fX, rI e1.ac.ak.fY, rI e1.ac.ak.fZ, rI e1.ac.ae.fX, rI e1.ac.ae.fY, rI e1.ac.ae.fZ, rI e1.az.aU, .d (.lst (e1.az.ak.map (PD.int .i64))), .d (.lst (e1.az.ae.map (PD.int .i64))), .d (.lst (e1.aY.map av.pd)), rI e1.bG, .hY, rI e2, rI e3, rB e4, rI e5.aD.fX, rI e5.aD.fY, rI e5.aD.fZ, rI e5.a8, rI e5.aT, rI e5.bd, rI e5.au.ak.fX, rI e5.au.ak.fY, rI e5.au.ak.fZ, rI e5.au.ae.fX, rI e5.au.ae.fY, rI e5.au.ae.fZ]] (.tup [], [.var [rI e1.ac.ak.fX, rI e1.ac.ak.fY, rI e1.ac.ak.fZ, rI e1.ac.ae.fX, rI e1.ac.ae.fY, rI e1.ac.ae.fZ, rI e1.az.aU, .d (.lst (e1.az.ak.map (PD.int .i64))), .d (.lst (e1.az.ae.map (PD.int .i64))), .d (.lst (e1.aY.map av.pd)), rI e1.bG, .ref 1 0, rI e2, rI e3, rB e4, rI e5.aD.fX, rI e5.aD.fY, rI e5.aD.fZ, rI e5.a8, rI e5.aT, rI e5.bd, rI e5.au.ak.fX, rI e5.au.ak.fY, rI e5.au.ak.fZ, rI e5.au.ae.fX, rI e5.au.ae.fY, rI e5.au.ae.fZ], .arr 0 123 (r.map ah.pd)]) := by
 refine Ev.body rfl Tryz.func213 rfl (by kernel_rfl)<|gS rfl rfl<|sM rfl<|sG (.tup [.d (ah.pd a0), rB true])<|sM rfl<|sV (.d (ah.pd a0))<|sT<|sB (.ptr 64 0) 64 (.var [r0, r0, r0, r0, r0, r0, r0, r0])<|sH 64 (.var (ah.rc a0))<|sA rfl<|sN<|gS rfl rfl<|sM rfl<|sN<|cT ?_
 refine WC.pQ rfl rfl<|sM rfl<|sM rfl<|sV (.ptr 0 11)<|sL rfl<|sV (.d (ah.pd a0))<|sG (.d (.lst ([a0].map ah.pd)))<|bE h fun x1 hx1 h => WO.appN hx1 (fun _ => rfl) rfl rfl rfl rfl rfl rfl rfl rfl rfl rfl rfl rfl rfl rfl<|sV (.ptr 0 11)<|sS 0 (.var [rI e1.ac.ak.fX, rI e1.ac.ak.fY, rI e1.ac.ak.fZ, rI e1.ac.ae.fX, rI e1.ac.ae.fY, rI e1.ac.ae.fZ, rI e1.az.aU, .d (.lst (e1.az.ak.map (PD.int .i64))), .d (.lst (e1.az.ae.map (PD.int .i64))), .d (.lst (e1.aY.map av.pd)), rI e1.bG, .ref 288 0, rI e2, rI e3, rB e4, rI e5.aD.fX, rI e5.aD.fY, rI e5.aD.fZ, rI e5.a8, rI e5.aT, rI e5.bd, rI e5.au.ak.fX, rI e5.au.ak.fY, rI e5.au.ak.fZ, rI e5.au.ae.fX, rI e5.au.ae.fY, rI e5.au.ae.fZ]) ?_
 refine sN<|sO ?_
 cases oI h
 exact qG
theorem lp {d0 : (List ah)} {r : Int × (List ah)} (h : hJ d0 = some r) : EvP prog aI ext 209 [.ref 0 0] [.arr 0 123 (d0.map ah.pd)] (rI r.1, [.arr 0 123 (r.2.map ah.pd)]) := by
 refine Ev.body rfl Tryz.func209 rfl (by kernel_rfl)<|gS rfl rfl<|sV (r0)<|sN<|gS rfl rfl<|sM rfl<|WO.vR rfl rfl rfl rfl rfl rfl rfl rfl rfl<|sA rfl<|sN<|qR ?_
 exact oI h▸qD
theorem lq {a1 : Int} {a2 : Int} {d0 : (List ah)} {r : (List ah)} (h : iZ a1 a2 d0 = some r) : EvP prog aI ext 211 [.ref 0 0, rI a1, rI a2] [.arr 0 123 (d0.map ah.pd)] (.tup [], [.arr 0 123 (r.map ah.pd)]) := by
 refine Ev.body rfl Tryz.func211 rfl (by kernel_rfl)<|WC.pQ rfl rfl<|sM rfl<|sM rfl<|sM rfl<|sM rfl<|sM rfl<|sM rfl<|bE h fun x2 hx2 h => WO.qo hx2 rfl rfl rfl rfl rfl rfl rfl rfl<|bE h fun x3 hx3 h => WO.p7 hx3 rfl rfl rfl rfl rfl rfl<|sM rfl<|sM rfl<|bE h fun x5 hx5 h => ?_
 refine WO.qo hx5 rfl rfl rfl rfl rfl rfl rfl rfl<|bE h fun x6 hx6 h => WO.p7 hx6 rfl rfl rfl rfl rfl rfl<|bE h fun x8 hx8 h => WO.qo hx8 rfl rfl rfl rfl rfl rfl rfl rfl<|bE h fun x9 hx9 h => WO.tV (g := ah.pd) (sz := 8) (p := ah.pd x3) hx9 (by intro _; kernel_rfl) (by intro _; kernel_rfl) rfl rfl rfl rfl rfl rfl rfl rfl rfl<|bE h fun x11 hx11 h => WO.qo hx11 rfl rfl rfl rfl rfl rfl rfl rfl<|bE h fun x12 hx12 h => WO.tV (g := ah.pd) (sz := 8) (p := ah.pd x6) hx12 (by intro _; kernel_rfl) (by intro _; kernel_rfl) rfl rfl rfl rfl rfl rfl rfl rfl rfl ?_
 refine sN<|sO ?_
 exact oI h▸qD
theorem kJ {a1 : Int} {a2 : Int} {d0 : (List ah)} {r : Bool × (List ah)} (h : ij a1 a2 d0 = some r) : EvP prog aI ext 210 [.ref 0 0, rI a1, rI a2] [.arr 0 123 (d0.map ah.pd)] (rB r.1, [.arr 0 123 (r.2.map ah.pd)]) := by
 refine Ev.body rfl Tryz.func210 rfl (by kernel_rfl)<|gS rfl rfl<|sU<|sN<|WC.cI rfl rfl<|sM rfl<|sM rfl<|bE h fun x2 hx2 h => WO.qo hx2 rfl rfl rfl rfl rfl rfl rfl rfl<|sV (.elt 0 0 (a1).toNat 6)<|bE h fun x3 hx3 h => WO.p7 hx3 rfl rfl rfl rfl rfl rfl<|sM rfl<|sM rfl<|bE h fun x5 hx5 h => ?_
 refine WO.qo hx5 rfl rfl rfl rfl rfl rfl rfl rfl<|sV (.elt 0 0 (a2).toNat 6)<|bE h fun x6 hx6 h => WO.p7 hx6 rfl rfl rfl rfl rfl rfl<|bE h fun x7 hx7 h => cD (bJ hx7)<|sM rfl<|sM rfl<|bE h fun x9 hx9 h => WO.qo hx9 rfl rfl rfl rfl rfl rfl rfl rfl<|sV (.elt 0 0 (a1).toNat 7)<|bE h fun x10 hx10 h => WO.p7 hx10 rfl rfl rfl rfl rfl rfl<|sM rfl<|sM rfl ?_
 refine bE h fun x12 hx12 h => WO.qo hx12 rfl rfl rfl rfl rfl rfl rfl rfl<|sV (.elt 0 0 (a2).toNat 7)<|bE h fun x13 hx13 h => WO.p7 hx13 rfl rfl rfl rfl rfl rfl<|bE h fun x14 hx14 h => cD (bJ hx14)<|sV (.d (.lst ([x7, x14].map (PD.int .i64))))<|bE h fun x15 hx15 h => cD (gI hx15)<|sV (rB (decide (x15 < (0 : Int))))<|sA rfl ?_
 refine sN<|sO<|qR ?_
 exact oI h▸qD
theorem heap_up_ev {a0 : Int} {e1 : aw} {e2 : Int} {e3 : Int} {e4 : Bool} {e5 : aF} {d1 : (List ah)} {r : (List ah)} (h : oz a0 e1 e2 e3 e4 e5 d1 = some r) : EvP prog aI ext 127 [.ifc 178 (.ptr 0 11), rI a0] [.var [rI e1.ac.ak.fX, rI e1.ac.ak.fY, rI e1.ac.ak.fZ, rI e1.ac.ae.fX, rI e1.ac.ae.fY, rI e1.ac.ae.fZ, rI e1.az.aU, .d (.lst (e1.az.ak.map (PD.int .i64))), .d (.lst (e1.az.ae.map (PD.int .i64))), .d (.lst (e1.aY.map av.pd)), rI e1.bG, .ref 1 0, rI e2, rI e3, rB e4, rI e5.aD.fX, rI e5.aD.fY, rI e5.aD.fZ, rI e5.a8, rI e5.aT, rI e5.bd, rI e5.au.ak.fX, rI e5.au.ak.fY, rI e5.au.ak.fZ, rI e5.au.ae.fX, rI e5.au.ae.fY, rI e5.au.ae.fZ], .arr 0 123 (d1.map ah.pd)] (.tup [], [.var [rI e1.ac.ak.fX, rI e1.ac.ak.fY, rI e1.ac.ak.fZ, rI e1.ac.ae.fX, rI e1.ac.ae.fY, rI e1.ac.ae.fZ, rI e1.az.aU, .d (.lst (e1.az.ak.map (PD.int .i64))), .d (.lst (e1.az.ae.map (PD.int .i64))), .d (.lst (e1.aY.map av.pd)), rI e1.bG, .ref 1 0, rI e2, rI e3, rB e4, rI e5.aD.fX, rI e5.aD.fY, rI e5.aD.fZ, rI e5.a8, rI e5.aT, rI e5.bd, rI e5.au.ak.fX, rI e5.au.ak.fY, rI e5.au.ak.fZ, rI e5.au.ae.fX, rI e5.au.ae.fY, rI e5.au.ae.fZ], .arr 0 123 (r.map ah.pd)]) := by
 refine Ev.body rfl Tryz.func127 rfl (by kernel_rfl)<|bE h fun o12 ho12 h => ?_
 cases oI h
 refine WC.block (WC.loop (WL.yn ho12 (fun s R' B' => lC prog 2 (A R' B') (aI.at_ 127 2 0) = some (A [(0, .ifc 178 (.ptr 0 11)), (1, rI s.1)] [(0, .var [rI e1.ac.ak.fX, rI e1.ac.ak.fY, rI e1.ac.ak.fZ, rI e1.ac.ae.fX, rI e1.ac.ae.fY, rI e1.ac.ae.fZ, rI e1.az.aU, .d (.lst (e1.az.ak.map (PD.int .i64))), .d (.lst (e1.az.ae.map (PD.int .i64))), .d (.lst (e1.aY.map av.pd)), rI e1.bG, .ref 1 0, rI e2, rI e3, rB e4, rI e5.aD.fX, rI e5.aD.fY, rI e5.aD.fZ, rI e5.a8, rI e5.aT, rI e5.bd, rI e5.au.ak.fX, rI e5.au.ak.fY, rI e5.au.ak.fZ, rI e5.au.ae.fX, rI e5.au.ae.fY, rI e5.au.ae.fZ]), (1, .arr 0 123 (s.2.map ah.pd))])) rfl ?_))
 rintro ⟨s1, s2⟩ R' B' q3 hI h
 unfold mE at h
 refine qB<|gS rfl hI<|sM rfl<|sV (rI (rW (s1 - (1 : Int))))<|bE h fun x4 hx4 h => WO.tf hx4 rfl rfl rfl rfl rfl rfl<|sA rfl<|sN<|qS<|gS rfl rfl<|sM rfl<|sM rfl<|sF h (fun h => ?_) fun h => ?_
 ·refine sM rfl<|k3<|sK<|sK<|sT<|sN<|cT<|qX<|⟨fun he => (by cases he), fun _ => ?_⟩
  refine uA h (fun z6 hkz6 hz => ?_)
  obtain rfl := Option.some.inj hz
  refine ⟨(fun he => by cases he), fun hz2 => ?_⟩
  subst hz2
  have h := hkz6
  refine qE ?_
  cases oI h
  exact qG
 refine sM rfl<|sM rfl<|sM rfl<|sM rfl<|bE h fun x7 hx7 h => WO.vE (e := 119) (c := .ptr 0 11) (vl := .ref 1 0) (g := 210) (args := [rI s1, rI x4]) (v := rB x7.1) (u := [(1, .arr 0 123 (x7.2.map ah.pd))]) rfl rfl (by intro _; kernel_rfl) rfl rfl rfl rfl rfl rfl (kJ hx7) rfl rfl rfl rfl<|sV (rB (!x7.1))<|sF h (fun h => ?_) fun h => ?_
 ·refine sN<|cT<|qX<|⟨fun he => (by cases he), fun _ => ?_⟩
  refine uA h (fun z9 hkz9 hz => ?_)
  obtain rfl := Option.some.inj hz
  refine ⟨(fun he => by cases he), fun hz2 => ?_⟩
  subst hz2
  have h := hkz9
  refine qE ?_
  cases oI h
  exact qG
 refine sN<|cF<|qK<|gS rfl rfl<|sM rfl<|sM rfl<|sM rfl<|bE h fun x10 hx10 h => WO.vE (e := 119) (c := .ptr 0 11) (vl := .ref 1 0) (g := 211) (args := [rI x4, rI s1]) (v := .tup []) (u := [(1, .arr 0 123 (x10.map ah.pd))]) rfl rfl (by intro _; kernel_rfl) rfl rfl rfl rfl rfl rfl (lq hx10) rfl rfl rfl rfl<|sN<|WC.region rfl rfl<|sM rfl<|sA rfl<|sN ?_
 cases oI h
 exact ⟨rfl, rfl⟩
theorem heap_Push_ev {a0 : ah} {e1 : aw} {e2 : Int} {e3 : Int} {e4 : Bool} {e5 : aF} {r : (List ah)} (h : nd a0 e1 e2 e3 e4 e5 = some r) : EvP prog aI ext 93 [.ifc 178 (.ptr 0 11), .ifc 123 (.d (ah.pd a0))] [.var [rI e1.ac.ak.fX, rI e1.ac.ak.fY, rI e1.ac.ak.fZ, rI e1.ac.ae.fX, rI e1.ac.ae.fY, rI e1.ac.ae.fZ, rI e1.az.aU, .d (.lst (e1.az.ak.map (PD.int .i64))), .d (.lst (e1.az.ae.map (PD.int .i64))), .d (.lst (e1.aY.map av.pd)), rI e1.bG, .hY, rI e2, rI e3, rB e4, rI e5.aD.fX, rI e5.aD.fY, rI e5.aD.fZ, rI e5.a8, rI e5.aT, rI e5.bd, rI e5.au.ak.fX, rI e5.au.ak.fY, rI e5.au.ak.fZ, rI e5.au.ae.fX, rI e5.au.ae.fY, rI e5.au.ae.fZ]] (.tup [], [.var [rI e1.ac.ak.fX, rI e1.ac.ak.fY, rI e1.ac.ak.fZ, rI e1.ac.ae.fX, rI e1.ac.ae.fY, rI e1.ac.ae.fZ, rI e1.az.aU, .d (.lst (e1.az.ak.map (PD.int .i64))), .d (.lst (e1.az.ae.map (PD.int .i64))), .d (.lst (e1.aY.map av.pd)), rI e1.bG, .ref 1 0, rI e2, rI e3, rB e4, rI e5.aD.fX, rI e5.aD.fY, rI e5.aD.fZ, rI e5.a8, rI e5.aT, rI e5.bd, rI e5.au.ak.fX, rI e5.au.ak.fY, rI e5.au.ak.fZ, rI e5.au.ae.fX, rI e5.au.ae.fY, rI e5.au.ae.fZ], .arr 0 123 (r.map ah.pd)]) := by
 refine Ev.body rfl Tryz.func93 rfl (by kernel_rfl)<|gS rfl rfl<|sM rfl<|sM rfl<|bE h fun x1 hx1 h => WO.pP (g := 213) (args := [.ptr 0 11, .ifc 123 (.d (ah.pd a0))]) (v := .tup []) (u := [(0, .var [rI e1.ac.ak.fX, rI e1.ac.ak.fY, rI e1.ac.ak.fZ, rI e1.ac.ae.fX, rI e1.ac.ae.fY, rI e1.ac.ae.fZ, rI e1.az.aU, .d (.lst (e1.az.ak.map (PD.int .i64))), .d (.lst (e1.az.ae.map (PD.int .i64))), .d (.lst (e1.aY.map av.pd)), rI e1.bG, .ref 96 0, rI e2, rI e3, rB e4, rI e5.aD.fX, rI e5.aD.fY, rI e5.aD.fZ, rI e5.a8, rI e5.aT, rI e5.bd, rI e5.au.ak.fX, rI e5.au.ak.fY, rI e5.au.ak.fZ, rI e5.au.ae.fX, rI e5.au.ae.fY, rI e5.au.ae.fZ]), (96, .arr 0 123 (x1.map ah.pd))]) rfl rfl (by intro _; kernel_rfl) rfl rfl rfl rfl rfl (queue_Push_ev hx1) rfl rfl rfl rfl<|sN<|WC.region rfl rfl<|sM rfl<|sM rfl<|bE h fun x2 hx2 h => WO.vE (e := 119) (c := .ptr 0 11) (vl := .ref 96 0) (g := 209) (args := []) (v := rI x2.1) (u := [(96, .arr 0 123 (x2.2.map ah.pd))]) rfl rfl (by intro _; kernel_rfl) rfl rfl rfl rfl rfl rfl (lp hx2) rfl rfl rfl rfl<|sV (rI (rW (x2.1 - (1 : Int))))<|bE h fun x3 hx3 h => cR (.tup []) [(0, .var [rI e1.ac.ak.fX, rI e1.ac.ak.fY, rI e1.ac.ak.fZ, rI e1.ac.ae.fX, rI e1.ac.ae.fY, rI e1.ac.ae.fZ, rI e1.az.aU, .d (.lst (e1.az.ak.map (PD.int .i64))), .d (.lst (e1.az.ae.map (PD.int .i64))), .d (.lst (e1.aY.map av.pd)), rI e1.bG, .ref 96 0, rI e2, rI e3, rB e4, rI e5.aD.fX, rI e5.aD.fY, rI e5.aD.fZ, rI e5.a8, rI e5.aT, rI e5.bd, rI e5.au.ak.fX, rI e5.au.ak.fY, rI e5.au.ak.fZ, rI e5.au.ae.fX, rI e5.au.ae.fY, rI e5.au.ae.fZ]), (96, .arr 0 123 (x3.map ah.pd))] (heap_up_ev hx3) ?_
 refine sN ?_
 cases oI h
 exact qG
theorem search_add_ev {a0 : ai} {e1 : aw} {e2 : Int} {e3 : Int} {e4 : Bool} {e5 : aF} {r : Int × (List ah) × Int} (h : l6 a0 e1 e2 e3 e4 e5 = some r) : EvP prog aI ext 61 [.ptr 0 0, .d (ai.pd a0)] [.var [rI e1.ac.ak.fX, rI e1.ac.ak.fY, rI e1.ac.ak.fZ, rI e1.ac.ae.fX, rI e1.ac.ae.fY, rI e1.ac.ae.fZ, rI e1.az.aU, .d (.lst (e1.az.ak.map (PD.int .i64))), .d (.lst (e1.az.ae.map (PD.int .i64))), .d (.lst (e1.aY.map av.pd)), rI e1.bG, .hY, rI e2, rI e3, rB e4, rI e5.aD.fX, rI e5.aD.fY, rI e5.aD.fZ, rI e5.a8, rI e5.aT, rI e5.bd, rI e5.au.ak.fX, rI e5.au.ak.fY, rI e5.au.ak.fZ, rI e5.au.ae.fX, rI e5.au.ae.fY, rI e5.au.ae.fZ]] (rI r.1, [.var [rI e1.ac.ak.fX, rI e1.ac.ak.fY, rI e1.ac.ak.fZ, rI e1.ac.ae.fX, rI e1.ac.ae.fY, rI e1.ac.ae.fZ, rI e1.az.aU, .d (.lst (e1.az.ak.map (PD.int .i64))), .d (.lst (e1.az.ae.map (PD.int .i64))), .d (.lst (e1.aY.map av.pd)), rI e1.bG, .ref 1 0, rI r.2.2, rI e3, rB e4, rI e5.aD.fX, rI e5.aD.fY, rI e5.aD.fZ, rI e5.a8, rI e5.aT, rI e5.bd, rI e5.au.ak.fX, rI e5.au.ak.fY, rI e5.au.ak.fZ, rI e5.au.ae.fX, rI e5.au.ae.fY, rI e5.au.ae.fZ], .arr 0 123 (r.2.1.map ah.pd)]) := by
 refine Ev.body rfl Tryz.func61 rfl (by kernel_rfl)<|gS rfl rfl<|sB (.ptr 48 0) 48 (.var (ai.rc a0))<|sV (r0)<|sN<|WC.cI rfl rfl<|sM rfl<|sV (.ptr 0 0)<|sV (.ptr 0 0)<|sV (.d (aw.pd e1))<|sV (.d (ai.pd a0))<|bE h fun x1 hx1 h => cR (.tup [rI x1.1, rI x1.2]) [] (mf hx1)<|sM rfl<|sV (rI x1.1) ?_
 refine sV (rI x1.2)<|sA rfl<|sA rfl ?_
 refine sN<|sO<|WC.join (α := Int × (List ah)) (fun x R' B' => lC prog 1 (A R' B') (aI.at_ 61 1 5) = some (A [(6, rI x1.2)] [(0, .var [rI e1.ac.ak.fX, rI e1.ac.ak.fY, rI e1.ac.ak.fZ, rI e1.ac.ae.fX, rI e1.ac.ae.fY, rI e1.ac.ae.fZ, rI e1.az.aU, .d (.lst (e1.az.ak.map (PD.int .i64))), .d (.lst (e1.az.ae.map (PD.int .i64))), .d (.lst (e1.aY.map av.pd)), rI e1.bG, .ref 90081 0, rI x.1, rI e3, rB e4, rI e5.aD.fX, rI e5.aD.fY, rI e5.aD.fZ, rI e5.a8, rI e5.aT, rI e5.bd, rI e5.au.ak.fX, rI e5.au.ak.fY, rI e5.au.ak.fZ, rI e5.au.ae.fX, rI e5.au.ae.fY, rI e5.au.ae.fZ]), (90081, .arr 0 123 (x.2.map ah.pd))])) (fun x => jo x1 x.1 x.2 = some r) ?_ ?_
 ·refine gS rfl rfl<|sM rfl<|sF h (fun h => ?_) fun h => ?_
  ·refine sN<|cT<|WC.cI rfl rfl<|sM rfl<|sV (.ptr 0 0)<|sV (.ptr 0 11)<|sG (.ifc 178 (.ptr 0 11))<|sV (.d (ai.pd a0))<|sM rfl<|sM rfl<|sV (.ptr 0 0)<|sV (.ptr 0 12)<|sL rfl<|sG (.d (ah.pd (ah.mk a0 x1.1 e2)))<|sG (.ifc 123 (.d (ah.pd (ah.mk a0 x1.1 e2)))) ?_
   refine bE h fun x6 hx6 h => cR (.tup []) [(0, .var [rI e1.ac.ak.fX, rI e1.ac.ak.fY, rI e1.ac.ak.fZ, rI e1.ac.ae.fX, rI e1.ac.ae.fY, rI e1.ac.ae.fZ, rI e1.az.aU, .d (.lst (e1.az.ak.map (PD.int .i64))), .d (.lst (e1.az.ae.map (PD.int .i64))), .d (.lst (e1.aY.map av.pd)), rI e1.bG, .ref 480 0, rI e2, rI e3, rB e4, rI e5.aD.fX, rI e5.aD.fY, rI e5.aD.fZ, rI e5.a8, rI e5.aT, rI e5.bd, rI e5.au.ak.fX, rI e5.au.ak.fY, rI e5.au.ak.fZ, rI e5.au.ae.fX, rI e5.au.ae.fY, rI e5.au.ae.fZ]), (480, .arr 0 123 (x6.map ah.pd))] (heap_Push_ev hx6) ?_
   exact sN<|sO<|WC.region rfl rfl<|sM rfl<|sV (.ptr 0 0)<|sV (.ptr 0 12)<|sL rfl<|sV (rI (rW (e2 + (1 : Int))))<|sV (.ptr 0 0)<|sV (.ptr 0 12)<|sS 0 (.var [rI e1.ac.ak.fX, rI e1.ac.ak.fY, rI e1.ac.ak.fZ, rI e1.ac.ae.fX, rI e1.ac.ae.fY, rI e1.ac.ae.fZ, rI e1.az.aU, .d (.lst (e1.az.ak.map (PD.int .i64))), .d (.lst (e1.az.ae.map (PD.int .i64))), .d (.lst (e1.aY.map av.pd)), rI e1.bG, .ref 480 0, rI (rW (e2 + (1 : Int))), rI e3, rB e4, rI e5.aD.fX, rI e5.aD.fY, rI e5.aD.fZ, rI e5.a8, rI e5.aT, rI e5.bd, rI e5.au.ak.fX, rI e5.au.ak.fY, rI e5.au.ak.fZ, rI e5.au.ae.fX, rI e5.au.ae.fY, rI e5.au.ae.fZ])<|sN<|⟨((rW (e2 + (1 : Int))), x6), rfl, h⟩
  exact sN<|cF<|qK<|⟨(e2, ([] : List ah)), rfl, h⟩
 rintro ⟨j2, j3⟩ R' B' hI h
 refine gS rfl hI<|sM rfl<|sA rfl<|sN<|qR ?_
 cases oI h
 exact qG
theorem search_ended_ev {a0 : Int} {e1 : aw} {e2 : Int} {e3 : Int} {e4 : Bool} {e5 : aF} {d1 : (List ah)} {r : Bool} (h : kb a0 e1 e2 e3 e4 e5 d1 = some r) : EvP prog aI ext 62 [.ptr 0 0, rI a0] [.var [rI e1.ac.ak.fX, rI e1.ac.ak.fY, rI e1.ac.ak.fZ, rI e1.ac.ae.fX, rI e1.ac.ae.fY, rI e1.ac.ae.fZ, rI e1.az.aU, .d (.lst (e1.az.ak.map (PD.int .i64))), .d (.lst (e1.az.ae.map (PD.int .i64))), .d (.lst (e1.aY.map av.pd)), rI e1.bG, .ref 1 0, rI e2, rI e3, rB e4, rI e5.aD.fX, rI e5.aD.fY, rI e5.aD.fZ, rI e5.a8, rI e5.aT, rI e5.bd, rI e5.au.ak.fX, rI e5.au.ak.fY, rI e5.au.ak.fZ, rI e5.au.ae.fX, rI e5.au.ae.fY, rI e5.au.ae.fZ], .arr 0 123 (d1.map ah.pd)] (rB r, [.var [rI e1.ac.ak.fX, rI e1.ac.ak.fY, rI e1.ac.ak.fZ, rI e1.ac.ae.fX, rI e1.ac.ae.fY, rI e1.ac.ae.fZ, rI e1.az.aU, .d (.lst (e1.az.ak.map (PD.int .i64))), .d (.lst (e1.az.ae.map (PD.int .i64))), .d (.lst (e1.aY.map av.pd)), rI e1.bG, .ref 1 0, rI e2, rI e3, rB e4, rI e5.aD.fX, rI e5.aD.fY, rI e5.aD.fZ, rI e5.a8, rI e5.aT, rI e5.bd, rI e5.au.ak.fX, rI e5.au.ak.fY, rI e5.au.ak.fZ, rI e5.au.ae.fX, rI e5.au.ae.fY, rI e5.au.ae.fZ], .arr 0 123 (d1.map ah.pd)]) := by
 refine Ev.body rfl Tryz.func62 rfl (by kernel_rfl)<|gS rfl rfl<|sU<|sN<|WC.cI rfl rfl<|sM rfl<|sV (.ptr 0 0)<|sV (.ptr 0 11)<|sL rfl<|WO.vR rfl rfl rfl rfl rfl rfl rfl rfl rfl<|sF h (fun h => ?_) fun h => ?_
 ·refine sM rfl<|k3<|k3<|k3<|k3<|sK<|sK ?_
  refine k3<|k3<|sK<|sT<|sA rfl ?_
  refine sN<|sO<|qR ?_
  cases oI h
  exact qG
 refine sM rfl<|sM rfl<|sV (.ptr 0 0)<|sV (.ptr 0 14)<|sF h (fun h => ?_) fun h => ?_
 ·refine sM rfl<|sM rfl<|sV (.ptr 0 0)<|sV (.ptr 0 15)<|sV (.ptr 0 19)<|sL rfl<|sM rfl<|sV (.ptr 0 0)<|sV (.ptr 0 11)<|sL rfl<|bE h fun x4 hx4 h => WO.qo hx4 rfl rfl rfl rfl rfl rfl rfl rfl<|sV (.elt 1 0 ((0 : Int)).toNat 6)<|bE h fun x5 hx5 h => WO.p7 hx5 rfl rfl rfl rfl rfl rfl ?_
  refine sV (rI (rW (e5.aT - x5.dt)))<|sM rfl<|sV (rB (decide ((rW (e5.aT - x5.dt)) ≤ a0)))<|sV (rB (decide ((rW (e5.aT - x5.dt)) ≤ a0)))<|sV (rB (decide ((rW (e5.aT - x5.dt)) ≤ a0)))<|sA rfl ?_
  refine sN<|sO<|qR ?_
  cases oI h
  exact qG
 refine sM rfl<|k3<|k3<|k3<|k3<|sK<|sK ?_
 refine sK<|sU<|sU<|sA rfl ?_
 refine sN<|sO<|qR ?_
 cases oI h
 exact qG
theorem heap_down_ev {a0 : Int} {a1 : Int} {e2 : aw} {e3 : Int} {e4 : Int} {e5 : Bool} {e6 : aF} {d1 : (List ah)} {r : Bool × (List ah)} (h : nf a0 a1 e2 e3 e4 e5 e6 d1 = some r) : EvP prog aI ext 128 [.ifc 178 (.ptr 0 11), rI a0, rI a1] [.var [rI e2.ac.ak.fX, rI e2.ac.ak.fY, rI e2.ac.ak.fZ, rI e2.ac.ae.fX, rI e2.ac.ae.fY, rI e2.ac.ae.fZ, rI e2.az.aU, .d (.lst (e2.az.ak.map (PD.int .i64))), .d (.lst (e2.az.ae.map (PD.int .i64))), .d (.lst (e2.aY.map av.pd)), rI e2.bG, .ref 1 0, rI e3, rI e4, rB e5, rI e6.aD.fX, rI e6.aD.fY, rI e6.aD.fZ, rI e6.a8, rI e6.aT, rI e6.bd, rI e6.au.ak.fX, rI e6.au.ak.fY, rI e6.au.ak.fZ, rI e6.au.ae.fX, rI e6.au.ae.fY, rI e6.au.ae.fZ], .arr 0 123 (d1.map ah.pd)] (rB r.1, [.var [rI e2.ac.ak.fX, rI e2.ac.ak.fY, rI e2.ac.ak.fZ, rI e2.ac.ae.fX, rI e2.ac.ae.fY, rI e2.ac.ae.fZ, rI e2.az.aU, .d (.lst (e2.az.ak.map (PD.int .i64))), .d (.lst (e2.az.ae.map (PD.int .i64))), .d (.lst (e2.aY.map av.pd)), rI e2.bG, .ref 1 0, rI e3, rI e4, rB e5, rI e6.aD.fX, rI e6.aD.fY, rI e6.aD.fZ, rI e6.a8, rI e6.aT, rI e6.bd, rI e6.au.ak.fX, rI e6.au.ak.fY, rI e6.au.ak.fZ, rI e6.au.ae.fX, rI e6.au.ae.fY, rI e6.au.ae.fZ], .arr 0 123 (r.2.map ah.pd)]) := by
 refine Ev.body rfl Tryz.func128 rfl (by kernel_rfl)<|gS rfl rfl<|sU<|sN<|gS rfl rfl<|sM rfl<|sA rfl<|sN<|qS<|bE h fun o18 ho18 h => WC.block (WC.loop (WL.oW ho18 (fun s R' B' => lC prog 2 (A R' B') (aI.at_ 128 2 2) = some (A [(0, .ifc 178 (.ptr 0 11)), (1, rI a0), (2, rI a1), (7, rI s.1)] [(0, .var [rI e2.ac.ak.fX, rI e2.ac.ak.fY, rI e2.ac.ak.fZ, rI e2.ac.ae.fX, rI e2.ac.ae.fY, rI e2.ac.ae.fZ, rI e2.az.aU, .d (.lst (e2.az.ak.map (PD.int .i64))), .d (.lst (e2.az.ae.map (PD.int .i64))), .d (.lst (e2.aY.map av.pd)), rI e2.bG, .ref 1 0, rI e3, rI e4, rB e5, rI e6.aD.fX, rI e6.aD.fY, rI e6.aD.fZ, rI e6.a8, rI e6.aT, rI e6.bd, rI e6.au.ak.fX, rI e6.au.ak.fY, rI e6.au.ak.fZ, rI e6.au.ae.fX, rI e6.au.ae.fY, rI e6.au.ae.fZ]), (1, .arr 0 123 (s.2.map ah.pd))])) (fun o e R' B' => e = .exit 0 ∧ lC prog 2 (A R' B') (aI.at_ 128 2 11) = some (A [(1, rI a0), (7, rI o.1)] [(0, .var [rI e2.ac.ak.fX, rI e2.ac.ak.fY, rI e2.ac.ak.fZ, rI e2.ac.ae.fX, rI e2.ac.ae.fY, rI e2.ac.ae.fZ, rI e2.az.aU, .d (.lst (e2.az.ak.map (PD.int .i64))), .d (.lst (e2.az.ae.map (PD.int .i64))), .d (.lst (e2.aY.map av.pd)), rI e2.bG, .ref 1 0, rI e3, rI e4, rB e5, rI e6.aD.fX, rI e6.aD.fY, rI e6.aD.fZ, rI e6.a8, rI e6.aT, rI e6.bd, rI e6.au.ak.fX, rI e6.au.ak.fY, rI e6.au.ak.fZ, rI e6.au.ae.fX, rI e6.au.ae.fY, rI e6.au.ae.fZ]), (1, .arr 0 123 (o.2.map ah.pd))])) rfl ?_ ?_))
 ·rintro ⟨s1, s2⟩ R' B' q5 hI h
  refine qB<|gS rfl hI<|sM rfl<|sV (rI (rW ((2 : Int) * s1)))<|sV (rI (rW ((rW ((2 : Int) * s1)) + (1 : Int))))<|sA rfl<|sN<|qS<|gS rfl rfl<|sM rfl<|sM rfl<|sF h (fun h => ?_) fun h => ?_
  ·refine sM rfl<|sK<|sK<|sT<|sN<|cT<|qX<|⟨fun he => (by cases he), fun _ => ?_⟩
   cases oI h
   exact ⟨nofun, rfl, rfl⟩
  refine sM rfl<|sM rfl<|sV (rB (decide ((rW ((rW ((2 : Int) * s1)) + (1 : Int))) < (0 : Int))))<|sF h (fun h => ?_) fun h => ?_
  ·refine sN<|cT<|qX<|⟨fun he => (by cases he), fun _ => ?_⟩
   cases oI h
   exact ⟨nofun, rfl, rfl⟩
  refine sN<|cF<|qK<|gS rfl rfl<|sM rfl<|sA rfl<|sN<|WC.join (α := Int × (List ah)) (fun x R' B' => lC prog 2 (A R' B') (aI.at_ 128 2 8) = some (A [(0, .ifc 178 (.ptr 0 11)), (1, rI a0), (2, rI a1), (7, rI s1), (9, rI x.1)] [(0, .var [rI e2.ac.ak.fX, rI e2.ac.ak.fY, rI e2.ac.ak.fZ, rI e2.ac.ae.fX, rI e2.ac.ae.fY, rI e2.ac.ae.fZ, rI e2.az.aU, .d (.lst (e2.az.ak.map (PD.int .i64))), .d (.lst (e2.az.ae.map (PD.int .i64))), .d (.lst (e2.aY.map av.pd)), rI e2.bG, .ref 1 0, rI e3, rI e4, rB e5, rI e6.aD.fX, rI e6.aD.fY, rI e6.aD.fZ, rI e6.a8, rI e6.aT, rI e6.bd, rI e6.au.ak.fX, rI e6.au.ak.fY, rI e6.au.ak.fZ, rI e6.au.ae.fX, rI e6.au.ae.fY, rI e6.au.ae.fZ]), (1, .arr 0 123 (x.2.map ah.pd))])) (fun x => fM s1 x.1 x.2 = some q5) ?_ ?_
  ·refine gS rfl rfl<|sM rfl<|sV (rI (rW ((rW ((rW ((2 : Int) * s1)) + (1 : Int))) + (1 : Int))))<|sA rfl<|sN<|gS rfl rfl<|sM rfl<|sM rfl<|sF h (fun h => ?_) fun h => ?_
   ·refine sM rfl<|sM rfl<|sM rfl<|sM rfl<|bE h fun x15 hx15 h => WO.vE (e := 119) (c := .ptr 0 11) (vl := .ref 1 0) (g := 210) (args := [rI (rW ((rW ((rW ((2 : Int) * s1)) + (1 : Int))) + (1 : Int))), rI (rW ((rW ((2 : Int) * s1)) + (1 : Int)))]) (v := rB x15.1) (u := [(1, .arr 0 123 (x15.2.map ah.pd))]) rfl rfl (by intro _; kernel_rfl) rfl rfl rfl rfl rfl rfl (kJ hx15) rfl rfl rfl rfl<|sF h (fun h => ?_) fun h => ?_
    ·exact sN<|cT<|WC.region rfl rfl<|sM rfl<|sA rfl<|sN<|⟨((rW ((rW ((rW ((2 : Int) * s1)) + (1 : Int))) + (1 : Int))), x15.2), rfl, h⟩
    exact sN<|cF<|qK<|⟨((rW ((rW ((2 : Int) * s1)) + (1 : Int))), x15.2), rfl, h⟩
   exact sM rfl<|k3<|sK<|sU<|sN<|cF<|qK<|⟨((rW ((rW ((2 : Int) * s1)) + (1 : Int))), s2), rfl, h⟩
  rintro ⟨j8, j9⟩ R' B' hI h
  refine qS<|gS rfl hI<|sM rfl<|sM rfl<|sM rfl<|bE h fun x10 hx10 h => WO.vE (e := 119) (c := .ptr 0 11) (vl := .ref 1 0) (g := 210) (args := [rI j8, rI s1]) (v := rB x10.1) (u := [(1, .arr 0 123 (x10.2.map ah.pd))]) rfl rfl (by intro _; kernel_rfl) rfl rfl rfl rfl rfl rfl (kJ hx10) rfl rfl rfl rfl<|sF h (fun h => ?_) fun h => ?_
  ·refine sN<|cT<|qX<|⟨fun he => (by cases he), fun _ => ?_⟩
   cases oI h
   exact ⟨nofun, rfl, rfl⟩
  refine sN<|cF<|qK<|gS rfl rfl<|sM rfl<|sM rfl<|sM rfl<|bE h fun x12 hx12 h => WO.vE (e := 119) (c := .ptr 0 11) (vl := .ref 1 0) (g := 211) (args := [rI s1, rI j8]) (v := .tup []) (u := [(1, .arr 0 123 (x12.map ah.pd))]) rfl rfl (by intro _; kernel_rfl) rfl rfl rfl rfl rfl rfl (lq hx12) rfl rfl rfl rfl<|sN<|WC.region rfl rfl<|sM rfl<|sA rfl<|sN ?_
  cases oI h
  exact ⟨rfl, rfl⟩
 intro e R' B' he hq
 obtain ⟨rfl, hI⟩ := hq
 refine qE<|gS rfl hI<|sM rfl<|sM rfl<|sV (rB (decide (o18.1 > a0)))<|sA rfl<|sN<|qR ?_
 cases oI h
 exact qG
theorem queue_Pop_ev {e0 : aw} {e1 : Int} {e2 : Int} {e3 : Bool} {e4 : aF} {d1 : (List ah)} {r : ah × (List ah)} (h : queue_Pop e0 e1 e2 e3 e4 d1 = some r) : EvP prog aI ext 212 [.ptr 0 11] [.var [rI e0.ac.ak.fX, rI e0.ac.ak.fY, rI e0.ac.ak.fZ, rI e0.ac.ae.fX, rI e0.ac.ae.fY, rI e0.ac.ae.fZ, rI e0.az.aU, .d (.lst (e0.az.ak.map (PD.int .i64))), .d (.lst (e0.az.ae.map (PD.int .i64))), .d (.lst (e0.aY.map av.pd)), rI e0.bG, .ref 1 0, rI e1, rI e2, rB e3, rI e4.aD.fX, rI e4.aD.fY, rI e4.aD.fZ, rI e4.a8, rI e4.aT, rI e4.bd, rI e4.au.ak.fX, rI e4.au.ak.fY, rI e4.au.ak.fZ, rI e4.au.ae.fX, rI e4.au.ae.fY, rI e4.au.ae.fZ], .arr 0 123 (d1.map ah.pd)] (.ifc 123 (.d (ah.pd r.1)), [.var [rI e0.ac.ak.fX, rI e0.ac.ak.fY, rI e0.ac.ak.fZ, rI e0.ac.ae.fX, rI e0.ac.ae.fY, rI e0.ac.ae.fZ, rI e0.az.aU, .d (.lst (e0.az.ak.map (PD.int .i64))), .d (.lst (e0.az.ae.map (PD.int .i64))), .d (.lst (e0.aY.map av.pd)), rI e0.bG, .ref 1 1, rI e1, rI e2, rB e3, rI e4.aD.fX, rI e4.aD.fY, rI e4.aD.fZ, rI e4.a8, rI e4.aT, rI e4.bd, rI e4.au.ak.fX, rI e4.au.ak.fY, rI e4.au.ak.fZ, rI e4.au.ae.fX, rI e4.au.ae.fY, rI e4.au.ae.fZ], .arr 1 123 (r.2.map ah.pd)]) := by
 refine Ev.body rfl Tryz.func212 rfl (by kernel_rfl)<|gS rfl rfl<|sV (.d (.raw .nilIface))<|sN<|gS rfl rfl<|sM rfl<|sV (.ptr 0 11)<|sL rfl<|sA rfl<|sN<|gS rfl rfl<|sM rfl<|sM rfl<|WO.vR rfl rfl rfl rfl rfl rfl rfl rfl rfl<|sV (rI (rW ((d1.length : Int) - (1 : Int)))) ?_
 refine bE h fun x2 hx2 h => WO.qo hx2 rfl rfl rfl rfl rfl rfl rfl rfl<|bE h fun x3 hx3 h => WO.p7 hx3 rfl rfl rfl rfl rfl rfl<|sB (.ptr 64 0) 64 (.var [r0, r0, r0, r0, r0, r0, r0, r0])<|sH 64 (.var (ah.rc x3))<|sN<|gS rfl rfl<|sM rfl<|sM rfl<|sM rfl<|WO.vR rfl rfl rfl rfl rfl rfl rfl rfl rfl<|sV (rI (rW ((d1.length : Int) - (1 : Int))))<|bE h fun x4 hx4 h => WO.resl hx4 rfl rfl rfl rfl rfl rfl rfl rfl rfl rfl rfl rfl ?_
 refine sV (.ptr 0 11)<|sS 0 (.var [rI e0.ac.ak.fX, rI e0.ac.ak.fY, rI e0.ac.ak.fZ, rI e0.ac.ae.fX, rI e0.ac.ae.fY, rI e0.ac.ae.fZ, rI e0.az.aU, .d (.lst (e0.az.ak.map (PD.int .i64))), .d (.lst (e0.az.ae.map (PD.int .i64))), .d (.lst (e0.aY.map av.pd)), rI e0.bG, .ref 1 1, rI e1, rI e2, rB e3, rI e4.aD.fX, rI e4.aD.fY, rI e4.aD.fZ, rI e4.a8, rI e4.aT, rI e4.bd, rI e4.au.ak.fX, rI e4.au.ak.fY, rI e4.au.ak.fZ, rI e4.au.ae.fX, rI e4.au.ae.fY, rI e4.au.ae.fZ])<|sN<|gS rfl rfl<|sV (.d (ah.pd x3))<|sG (.ifc 123 (.d (ah.pd x3)))<|sA rfl<|sN<|qR ?_
 cases oI h
 exact qG
theorem heap_Pop_ev {e0 : aw} {e1 : Int} {e2 : Int} {e3 : Bool} {e4 : aF} {d1 : (List ah)} {r : ah × (List ah)} (h : ow e0 e1 e2 e3 e4 d1 = some r) : EvP prog aI ext 94 [.ifc 178 (.ptr 0 11)] [.var [rI e0.ac.ak.fX, rI e0.ac.ak.fY, rI e0.ac.ak.fZ, rI e0.ac.ae.fX, rI e0.ac.ae.fY, rI e0.ac.ae.fZ, rI e0.az.aU, .d (.lst (e0.az.ak.map (PD.int .i64))), .d (.lst (e0.az.ae.map (PD.int .i64))), .d (.lst (e0.aY.map av.pd)), rI e0.bG, .ref 1 0, rI e1, rI e2, rB e3, rI e4.aD.fX, rI e4.aD.fY, rI e4.aD.fZ, rI e4.a8, rI e4.aT, rI e4.bd, rI e4.au.ak.fX, rI e4.au.ak.fY, rI e4.au.ak.fZ, rI e4.au.ae.fX, rI e4.au.ae.fY, rI e4.au.ae.fZ], .arr 0 123 (d1.map ah.pd)] (.ifc 123 (.d (ah.pd r.1)), [.var [rI e0.ac.ak.fX, rI e0.ac.ak.fY, rI e0.ac.ak.fZ, rI e0.ac.ae.fX, rI e0.ac.ae.fY, rI e0.ac.ae.fZ, rI e0.az.aU, .d (.lst (e0.az.ak.map (PD.int .i64))), .d (.lst (e0.az.ae.map (PD.int .i64))), .d (.lst (e0.aY.map av.pd)), rI e0.bG, .ref 1 1, rI e1, rI e2, rB e3, rI e4.aD.fX, rI e4.aD.fY, rI e4.aD.fZ, rI e4.a8, rI e4.aT, rI e4.bd, rI e4.au.ak.fX, rI e4.au.ak.fY, rI e4.au.ak.fZ, rI e4.au.ae.fX, rI e4.au.ae.fY, rI e4.au.ae.fZ], .arr 1 123 (r.2.map ah.pd)]) := by
 refine Ev.body rfl Tryz.func94 rfl (by kernel_rfl)<|gS rfl rfl<|sV (.d (.raw .nilIface))<|sN<|gS rfl rfl<|sM rfl<|bE h fun x1 hx1 h => WO.vE (e := 119) (c := .ptr 0 11) (vl := .ref 1 0) (g := 209) (args := []) (v := rI x1.1) (u := [(1, .arr 0 123 (x1.2.map ah.pd))]) rfl rfl (by intro _; kernel_rfl) rfl rfl rfl rfl rfl rfl (lp hx1) rfl rfl rfl rfl<|sV (rI (rW (x1.1 - (1 : Int))))<|sA rfl<|sN<|gS rfl rfl<|sM rfl<|sM rfl<|bE h fun x2 hx2 h => ?_
 refine WO.vE (e := 119) (c := .ptr 0 11) (vl := .ref 1 0) (g := 211) (args := [r0, rI (rW (x1.1 - (1 : Int)))]) (v := .tup []) (u := [(1, .arr 0 123 (x2.map ah.pd))]) rfl rfl (by intro _; kernel_rfl) rfl rfl rfl rfl rfl rfl (lq hx2) rfl rfl rfl rfl<|sN<|gS rfl rfl<|sM rfl<|sM rfl<|bE h fun x3 hx3 h => cR (rB x3.1) [(0, .var [rI e0.ac.ak.fX, rI e0.ac.ak.fY, rI e0.ac.ak.fZ, rI e0.ac.ae.fX, rI e0.ac.ae.fY, rI e0.ac.ae.fZ, rI e0.az.aU, .d (.lst (e0.az.ak.map (PD.int .i64))), .d (.lst (e0.az.ae.map (PD.int .i64))), .d (.lst (e0.aY.map av.pd)), rI e0.bG, .ref 1 0, rI e1, rI e2, rB e3, rI e4.aD.fX, rI e4.aD.fY, rI e4.aD.fZ, rI e4.a8, rI e4.aT, rI e4.bd, rI e4.au.ak.fX, rI e4.au.ak.fY, rI e4.au.ak.fZ, rI e4.au.ae.fX, rI e4.au.ae.fY, rI e4.au.ae.fZ]), (1, .arr 0 123 (x3.2.map ah.pd))] (heap_down_ev hx3)<|sN<|gS rfl rfl<|sM rfl<|bE h fun x4 hx4 h => WO.pP (g := 212) (args := [.ptr 0 11]) (v := .ifc 123 (.d (ah.pd x4.1))) (u := [(0, .var [rI e0.ac.ak.fX, rI e0.ac.ak.fY, rI e0.ac.ak.fZ, rI e0.ac.ae.fX, rI e0.ac.ae.fY, rI e0.ac.ae.fZ, rI e0.az.aU, .d (.lst (e0.az.ak.map (PD.int .i64))), .d (.lst (e0.az.ae.map (PD.int .i64))), .d (.lst (e0.aY.map av.pd)), rI e0.bG, .ref 1 1, rI e1, rI e2, rB e3, rI e4.aD.fX, rI e4.aD.fY, rI e4.aD.fZ, rI e4.a8, rI e4.aT, rI e4.bd, rI e4.au.ak.fX, rI e4.au.ak.fY, rI e4.au.ak.fZ, rI e4.au.ae.fX, rI e4.au.ae.fY, rI e4.au.ae.fZ]), (1, .arr 1 123 (x4.2.map ah.pd))]) rfl rfl (by intro _; kernel_rfl) rfl rfl rfl rfl rfl (queue_Pop_ev hx4) rfl rfl rfl rfl<|sA rfl<|sN<|qR ?_
 cases oI h
 exact qG
theorem cz {a0 : Int} {a1 : Int} {r : Int} (h : bP a0 a1 = some r) : EvP prog aI ext 133 [rI a0, rI a1] [] (rI r, []) := by
 refine Ev.body rfl Tryz.func133 rfl (by kernel_rfl)<|gS rfl rfl<|sV (r0)<|sN<|gS rfl rfl<|sM rfl<|sM rfl<|sM rfl<|sV (rI (rW (a1 - a0)))<|bE h fun x1 hx1 h => WO.tf hx1 rfl rfl rfl rfl rfl rfl<|sV (rI (rW (a0 + x1)))<|sA rfl<|sN<|qR ?_
 exact oI h▸qD
theorem bH {a0 : aW} {r : aa} (h : bA a0 = some r) : EvP prog aI ext 66 [.d (aW.pd a0)] [] (.d (aa.pd r), []) := by
 refine Ev.body rfl Tryz.func66 rfl (by kernel_rfl)<|gS rfl rfl<|sB (.ptr 16 0) 16 (.var [rI a0.a0, rI a0.a1, rI a0.a2])<|sB (.ptr 32 0) 32 (.var [r0, r0, r0])<|sN<|gS rfl rfl<|sV (.ptr 16 0)<|sL rfl<|sV (.ptr 16 1)<|sL rfl<|sV (.ptr 16 2)<|sL rfl<|sV (.d (aa.pd (aa.mk a0.a0 a0.a1 a0.a2)))<|sS 32 (.var [rI a0.a0, rI a0.a1, rI a0.a2])<|sN ?_
 refine qR ?_
 exact oI h▸qD
theorem nO {a0 : ai} {r : aa} (h : gO a0 = some r) : EvP prog aI ext 129 [.d (ai.pd a0)] [] (.d (aa.pd r), []) := by
 refine Ev.body rfl Tryz.func129 rfl (by kernel_rfl)<|gS rfl rfl<|sB (.ptr 16 0) 16 (.var (ai.rc a0))<|sB (.ptr 32 0) 32 (.var [r0, r0, r0])<|sN<|qS<|gS rfl rfl<|sV (.d (ai.pd a0))<|bE h fun x1 hx1 h => cD (bv hx1)<|sF h (fun h => ?_) fun h => ?_
 ·refine sN<|cT<|gS rfl rfl<|sV (.d (aa.pd (aa.mk 0 0 0)))<|sS 32 (.var [r0, r0, r0])<|sN<|qR ?_
  exact oI h▸qD
 refine sN<|cF<|qK<|WC.cI rfl rfl<|sV (.ptr 16 0)<|sV (.d (aa.pd a0.ak))<|bE h fun x3 hx3 h => cD (bz hx3)<|sV (.ptr 16 3)<|sV (.d (aa.pd a0.ae))<|bE h fun x4 hx4 h => cD (bz hx4)<|sB (.ptr 48 0) 48 (.var [r0, r0, r0])<|sB (.ptr 64 0) 64 (.var [r0, r0, r0])<|sS 48 (.var [rI x3.a0, rI x3.a1, rI x3.a2]) ?_
 refine sS 64 (.var [rI x4.a0, rI x4.a1, rI x4.a2]) ?_
 refine sN<|sO<|qS<|gS rfl rfl<|sV (r0)<|sN<|WC.block (WC.loop ?_)
 refine WL.round<|WC.pn (R0 := [(2, .ptr 32 0), (3, .ptr 48 0), (4, .ptr 64 0), (16, r0)]) (B0 := [(32, .var [r0, r0, r0]), (48, .var [rI x3.a0, rI x3.a1, rI x3.a2]), (64, .var [rI x4.a0, rI x4.a1, rI x4.a2])]) rfl rfl<|sT<|sN<|qS<|cT<|qK<|qS<|qB<|gS rfl rfl<|sM rfl<|sA rfl<|sN<|WC.pQ rfl rfl<|sM rfl ?_
 refine sM rfl<|sV (.ptr 48 0)<|sL rfl<|sM rfl<|sV (.ptr 64 0)<|sL rfl<|bE h fun x5 hx5 h => cD (cz hx5)<|sV (.ptr 48 0)<|sS 48 (.var [rI x5, rI x3.a1, rI x3.a2]) ?_
 refine sN<|sO<|WC.region rfl rfl<|sV (rI 1)<|sM rfl<|sN<|WL.round<|WC.pn (R0 := [(2, .ptr 32 0), (3, .ptr 48 0), (4, .ptr 64 0), (16, rI 1)]) (B0 := [(32, .var [r0, r0, r0]), (48, .var [rI x5, rI x3.a1, rI x3.a2]), (64, .var [rI x4.a0, rI x4.a1, rI x4.a2])]) rfl rfl<|sT<|sN<|qS<|cT<|qK<|qS<|qB<|gS rfl rfl ?_
 refine sM rfl<|sA rfl<|sN<|WC.pQ rfl rfl<|sM rfl<|sM rfl<|sV (.ptr 48 1)<|sL rfl<|sM rfl<|sV (.ptr 64 1)<|sL rfl<|bE h fun x6 hx6 h => cD (cz hx6)<|sV (.ptr 48 1)<|sS 48 (.var [rI x5, rI x6, rI x3.a2]) ?_
 refine sN<|sO<|WC.region rfl rfl<|sV (rI 2)<|sM rfl<|sN<|WL.round<|WC.pn (R0 := [(2, .ptr 32 0), (3, .ptr 48 0), (4, .ptr 64 0), (16, rI 2)]) (B0 := [(32, .var [r0, r0, r0]), (48, .var [rI x5, rI x6, rI x3.a2]), (64, .var [rI x4.a0, rI x4.a1, rI x4.a2])]) rfl rfl<|sT<|sN<|qS<|cT<|qK<|qS<|qB<|gS rfl rfl ?_
 refine sM rfl<|sA rfl<|sN<|WC.pQ rfl rfl<|sM rfl<|sM rfl<|sV (.ptr 48 2)<|sL rfl<|sM rfl<|sV (.ptr 64 2)<|sL rfl<|bE h fun x7 hx7 h => cD (cz hx7)<|sV (.ptr 48 2)<|sS 48 (.var [rI x5, rI x6, rI x7]) ?_
 refine sN<|sO<|WC.region rfl rfl<|sV (rI 3)<|sM rfl<|sN<|WL.round<|WC.pn (R0 := [(2, .ptr 32 0), (3, .ptr 48 0), (4, .ptr 64 0), (16, rI 3)]) (B0 := [(32, .var [r0, r0, r0]), (48, .var [rI x5, rI x6, rI x7]), (64, .var [rI x4.a0, rI x4.a1, rI x4.a2])]) rfl rfl<|sU<|sN<|qS<|cF<|qX<|qE<|gS rfl rfl<|sV (.d (aW.pd (aW.mk x5 x6 x7))) ?_
 refine bE h fun x8 hx8 h => cD (bH hx8)<|sS 32 (.var [rI x8.fX, rI x8.fY, rI x8.fZ])<|sN<|qR ?_
 exact oI h▸qD
theorem misfit_At_ev {a0 : aw} {a1 : aa} {r : Int × Int × Int} (h : nh a0 a1 = some r) : EvP prog aI ext 130 [.d (aw.pd a0), .d (aa.pd a1)] [] (.tup [rI r.1, rI r.2.1, rI r.2.2], []) := by
 refine Ev.body rfl Tryz.func130 rfl (by kernel_rfl)<|gS rfl rfl<|sB (.ptr 32 0) 32 (.var (aw.rc a0))<|sB (.ptr 48 0) 48 (.var [rI a1.fX, rI a1.fY, rI a1.fZ])<|sV (r0)<|sV (r0)<|sV (r0)<|sN<|gS rfl rfl<|sV (.d (aw.pd a0))<|sV (.d (aa.pd a1))<|sV (.d (aa.pd a1))<|sG (.d (ai.pd (ai.mk a1 a1)))<|bE h fun x1 hx1 h => cR (.tup [.d (.lst (x1.1.map aN.pd)), rI x1.2]) [] (mh hx1) ?_
 refine sM rfl<|sV (.d (.lst (x1.1.map aN.pd)))<|sV (rI x1.2)<|sA rfl<|sA rfl<|sN<|qS<|gS rfl rfl<|sM rfl<|sF h (fun h => ?_) fun h => ?_
 ·refine sN<|cT<|gS rfl rfl<|sM rfl<|sV (r0)<|sV (r0)<|sA rfl<|sN<|qR ?_
  cases oI h
  exact qG
 refine sN<|cF<|qK<|gS rfl rfl<|sV (.d (aw.pd a0))<|sM rfl<|bE h fun x3 hx3 h => cR (.tup [rI x3.1, rI x3.2]) [] (mO hx3)<|sM rfl<|sV (rI x3.1)<|sV (rI x3.2)<|sA rfl<|sA rfl<|sN<|gS rfl rfl ?_
 refine sM rfl<|sM rfl<|sA rfl<|sA rfl<|sV (r0)<|sN<|qR ?_
 cases oI h
 exact qG
theorem nq {a0 : aa} {a1 : aa} {r : Int} (h : gp a0 a1 = some r) : EvP prog aI ext 131 [.d (aa.pd a0), .d (aa.pd a1)] [] (rI r, []) := by
 refine Ev.body rfl Tryz.func131 rfl (by kernel_rfl)<|gS rfl rfl<|sB (.ptr 32 0) 32 (.var [rI a0.fX, rI a0.fY, rI a0.fZ])<|sB (.ptr 48 0) 48 (.var [rI a1.fX, rI a1.fY, rI a1.fZ])<|sV (r0)<|sN<|WC.cI rfl rfl<|sV (.ptr 32 0)<|sL rfl<|sV (.ptr 48 0)<|sL rfl<|bE h fun x1 hx1 h => cD (bJ hx1)<|sV (.ptr 32 1)<|sL rfl ?_
 refine sV (.ptr 48 1)<|sL rfl<|bE h fun x2 hx2 h => cD (bJ hx2)<|sV (.ptr 32 2)<|sL rfl<|sV (.ptr 48 2)<|sL rfl<|bE h fun x3 hx3 h => cD (bJ hx3)<|sV (.d (.lst ([x1, x2, x3].map (PD.int .i64))))<|bE h fun x4 hx4 h => cD (gI hx4)<|sA rfl ?_
 refine sN<|sO<|qR ?_
 exact oI h▸qD
theorem search_look_ev {a0 : ai} {e1 : aw} {e2 : Int} {e3 : Int} {e4 : Bool} {e5 : aF} {d1 : (List ah)} {r : Int × Bool × aF} (h : lc a0 e1 e2 e3 e4 e5 d1 = some r) : EvP prog aI ext 95 [.ptr 0 0, .d (ai.pd a0)] [.var [rI e1.ac.ak.fX, rI e1.ac.ak.fY, rI e1.ac.ak.fZ, rI e1.ac.ae.fX, rI e1.ac.ae.fY, rI e1.ac.ae.fZ, rI e1.az.aU, .d (.lst (e1.az.ak.map (PD.int .i64))), .d (.lst (e1.az.ae.map (PD.int .i64))), .d (.lst (e1.aY.map av.pd)), rI e1.bG, .ref 1 0, rI e2, rI e3, rB e4, rI e5.aD.fX, rI e5.aD.fY, rI e5.aD.fZ, rI e5.a8, rI e5.aT, rI e5.bd, rI e5.au.ak.fX, rI e5.au.ak.fY, rI e5.au.ak.fZ, rI e5.au.ae.fX, rI e5.au.ae.fY, rI e5.au.ae.fZ], .arr 0 123 (d1.map ah.pd)] (rI r.1, [.var [rI e1.ac.ak.fX, rI e1.ac.ak.fY, rI e1.ac.ak.fZ, rI e1.ac.ae.fX, rI e1.ac.ae.fY, rI e1.ac.ae.fZ, rI e1.az.aU, .d (.lst (e1.az.ak.map (PD.int .i64))), .d (.lst (e1.az.ae.map (PD.int .i64))), .d (.lst (e1.aY.map av.pd)), rI e1.bG, .ref 1 0, rI e2, rI e3, rB r.2.1, rI r.2.2.aD.fX, rI r.2.2.aD.fY, rI r.2.2.aD.fZ, rI r.2.2.a8, rI r.2.2.aT, rI r.2.2.bd, rI r.2.2.au.ak.fX, rI r.2.2.au.ak.fY, rI r.2.2.au.ak.fZ, rI r.2.2.au.ae.fX, rI r.2.2.au.ae.fY, rI r.2.2.au.ae.fZ], .arr 0 123 (d1.map ah.pd)]) := by
 refine Ev.body rfl Tryz.func95 rfl (by kernel_rfl)<|gS rfl rfl<|sB (.ptr 48 0) 48 (.var (ai.rc a0))<|sV (r0)<|sN<|gS rfl rfl<|sV (.d (ai.pd a0))<|bE h fun x1 hx1 h => cD (nO hx1)<|sB (.ptr 80 0) 80 (.var [r0, r0, r0])<|sS 80 (.var [rI x1.fX, rI x1.fY, rI x1.fZ])<|sN<|WC.cI rfl rfl<|sM rfl<|sV (.ptr 0 0) ?_
 refine sV (.ptr 0 0)<|sV (.d (aw.pd e1))<|sV (.d (aa.pd x1))<|bE h fun x2 hx2 h => cR (.tup [rI x2.1, rI x2.2.1, rI x2.2.2]) [] (misfit_At_ev hx2)<|sM rfl<|sV (rI x2.1)<|sV (rI x2.2.1)<|sV (rI x2.2.2)<|sA rfl<|sA rfl<|sA rfl ?_
 refine sN<|sO<|qS<|gS rfl rfl<|sM rfl<|sF h (fun h => ?_) fun h => ?_
 ·refine sN<|cT<|gS rfl rfl<|sM rfl<|sA rfl<|sN<|qR ?_
  cases oI h
  exact qG
 refine sN<|cF<|qK<|qS<|WC.cI rfl rfl<|sM rfl<|sV (.ptr 0 0)<|sV (.ptr 0 14)<|sL rfl<|sF h (fun h => ?_) fun h => ?_
 ·refine sM rfl<|k3<|k3<|sK<|sT<|sM rfl<|k3<|sK<|sK ?_
  refine k3<|k3<|k3<|k3<|sT ?_
  refine sN<|sO<|cT<|gS rfl rfl<|sM rfl<|sV (.ptr 0 0)<|sV (.ptr 0 14)<|sS 0 (.var [rI e1.ac.ak.fX, rI e1.ac.ak.fY, rI e1.ac.ak.fZ, rI e1.ac.ae.fX, rI e1.ac.ae.fY, rI e1.ac.ae.fZ, rI e1.az.aU, .d (.lst (e1.az.ak.map (PD.int .i64))), .d (.lst (e1.az.ae.map (PD.int .i64))), .d (.lst (e1.aY.map av.pd)), rI e1.bG, .ref 1 0, rI e2, rI e3, rB true, rI e5.aD.fX, rI e5.aD.fY, rI e5.aD.fZ, rI e5.a8, rI e5.aT, rI e5.bd, rI e5.au.ak.fX, rI e5.au.ak.fY, rI e5.au.ak.fZ, rI e5.au.ae.fX, rI e5.au.ae.fY, rI e5.au.ae.fZ])<|sN<|WC.region rfl rfl<|sM rfl<|sV (.d (aa.pd x1))<|sM rfl<|sM rfl<|sG (.d (aF.pd (aF.mk x1 x2.1 x2.2.1 0 (ai.mk (aa.mk 0 0 0) (aa.mk 0 0 0)))))<|sV (.ptr 0 0) ?_
  refine sV (.ptr 0 15)<|sH 0 (.var [rI e1.ac.ak.fX, rI e1.ac.ak.fY, rI e1.ac.ak.fZ, rI e1.ac.ae.fX, rI e1.ac.ae.fY, rI e1.ac.ae.fZ, rI e1.az.aU, .d (.lst (e1.az.ak.map (PD.int .i64))), .d (.lst (e1.az.ae.map (PD.int .i64))), .d (.lst (e1.aY.map av.pd)), rI e1.bG, .ref 1 0, rI e2, rI e3, rB true, rI x1.fX, rI x1.fY, rI x1.fZ, rI x2.1, rI x2.2.1, r0, r0, r0, r0, r0, r0, r0])<|sN<|gS rfl rfl<|sV (r0)<|sN<|qR ?_
  cases oI h
  exact qG
 refine sM rfl<|sM rfl<|sM rfl<|sV (.ptr 0 0)<|sV (.ptr 0 15)<|sV (.ptr 0 19)<|sL rfl<|sV (rB (decide (x2.2.1 < e5.aT)))<|sF h (fun h => ?_) fun h => ?_
 ·refine sM rfl<|k3<|k3<|k3<|k3<|sK<|sK ?_
  refine k3<|sT ?_
  refine sN<|sO<|cT<|gS rfl rfl<|sM rfl<|sV (.ptr 0 0)<|sV (.ptr 0 14)<|sS 0 (.var [rI e1.ac.ak.fX, rI e1.ac.ak.fY, rI e1.ac.ak.fZ, rI e1.ac.ae.fX, rI e1.ac.ae.fY, rI e1.ac.ae.fZ, rI e1.az.aU, .d (.lst (e1.az.ak.map (PD.int .i64))), .d (.lst (e1.az.ae.map (PD.int .i64))), .d (.lst (e1.aY.map av.pd)), rI e1.bG, .ref 1 0, rI e2, rI e3, rB true, rI e5.aD.fX, rI e5.aD.fY, rI e5.aD.fZ, rI e5.a8, rI e5.aT, rI e5.bd, rI e5.au.ak.fX, rI e5.au.ak.fY, rI e5.au.ak.fZ, rI e5.au.ae.fX, rI e5.au.ae.fY, rI e5.au.ae.fZ])<|sN<|WC.region rfl rfl<|sM rfl<|sV (.d (aa.pd x1))<|sM rfl<|sM rfl<|sG (.d (aF.pd (aF.mk x1 x2.1 x2.2.1 0 (ai.mk (aa.mk 0 0 0) (aa.mk 0 0 0)))))<|sV (.ptr 0 0) ?_
  refine sV (.ptr 0 15)<|sH 0 (.var [rI e1.ac.ak.fX, rI e1.ac.ak.fY, rI e1.ac.ak.fZ, rI e1.ac.ae.fX, rI e1.ac.ae.fY, rI e1.ac.ae.fZ, rI e1.az.aU, .d (.lst (e1.az.ak.map (PD.int .i64))), .d (.lst (e1.az.ae.map (PD.int .i64))), .d (.lst (e1.aY.map av.pd)), rI e1.bG, .ref 1 0, rI e2, rI e3, rB true, rI x1.fX, rI x1.fY, rI x1.fZ, rI x2.1, rI x2.2.1, r0, r0, r0, r0, r0, r0, r0])<|sN<|gS rfl rfl<|sV (r0)<|sN<|qR ?_
  cases oI h
  exact qG
 refine sM rfl<|sM rfl<|sM rfl<|sV (.ptr 0 0)<|sV (.ptr 0 15)<|sV (.ptr 0 19)<|sL rfl<|sF h (fun h => ?_) fun h => ?_
 ·refine sM rfl<|sV (.d (aa.pd x1))<|sM rfl<|sV (.ptr 0 0)<|sV (.ptr 0 15)<|sV (.ptr 0 15)<|sV (.d (aa.pd e5.aD))<|bE h fun x7 hx7 h => cD (nq hx7)<|sV (rB (decide (x7 < (0 : Int))))<|sV (rB (decide (x7 < (0 : Int))))<|sF h (fun h => ?_) fun h => ?_
  ·refine sN<|sO<|cT<|gS rfl rfl<|sM rfl<|sV (.ptr 0 0)<|sV (.ptr 0 14)<|sS 0 (.var [rI e1.ac.ak.fX, rI e1.ac.ak.fY, rI e1.ac.ak.fZ, rI e1.ac.ae.fX, rI e1.ac.ae.fY, rI e1.ac.ae.fZ, rI e1.az.aU, .d (.lst (e1.az.ak.map (PD.int .i64))), .d (.lst (e1.az.ae.map (PD.int .i64))), .d (.lst (e1.aY.map av.pd)), rI e1.bG, .ref 1 0, rI e2, rI e3, rB true, rI e5.aD.fX, rI e5.aD.fY, rI e5.aD.fZ, rI e5.a8, rI e5.aT, rI e5.bd, rI e5.au.ak.fX, rI e5.au.ak.fY, rI e5.au.ak.fZ, rI e5.au.ae.fX, rI e5.au.ae.fY, rI e5.au.ae.fZ])<|sN<|WC.region rfl rfl<|sM rfl<|sV (.d (aa.pd x1))<|sM rfl<|sM rfl<|sG (.d (aF.pd (aF.mk x1 x2.1 x2.2.1 0 (ai.mk (aa.mk 0 0 0) (aa.mk 0 0 0)))))<|sV (.ptr 0 0) ?_
   refine sV (.ptr 0 15)<|sH 0 (.var [rI e1.ac.ak.fX, rI e1.ac.ak.fY, rI e1.ac.ak.fZ, rI e1.ac.ae.fX, rI e1.ac.ae.fY, rI e1.ac.ae.fZ, rI e1.az.aU, .d (.lst (e1.az.ak.map (PD.int .i64))), .d (.lst (e1.az.ae.map (PD.int .i64))), .d (.lst (e1.aY.map av.pd)), rI e1.bG, .ref 1 0, rI e2, rI e3, rB true, rI x1.fX, rI x1.fY, rI x1.fZ, rI x2.1, rI x2.2.1, r0, r0, r0, r0, r0, r0, r0])<|sN<|gS rfl rfl<|sV (r0)<|sN<|qR ?_
   cases oI h
   exact qG
  refine sN<|sO<|cF<|qK<|gS rfl rfl<|sV (r0)<|sN<|qR ?_
  cases oI h
  exact qG
 refine sM rfl<|k3<|k3<|sK<|sK<|sU<|sU ?_
 refine sN<|sO<|cF<|qK<|gS rfl rfl<|sV (r0)<|sN<|qR ?_
 cases oI h
 exact qG
theorem nP {a0 : ai} {r : Int} (h : gP a0 = some r) : EvP prog aI ext 132 [.d (ai.pd a0)] [] (rI r, []) := by
 refine Ev.body rfl Tryz.func132 rfl (by kernel_rfl)<|gS rfl rfl<|sB (.ptr 16 0) 16 (.var (ai.rc a0))<|sV (r0)<|sN<|qS<|gS rfl rfl<|sV (.d (ai.pd a0))<|bE h fun x1 hx1 h => cD (bv hx1)<|sF h (fun h => ?_) fun h => ?_
 ·refine sN<|cT<|gS rfl rfl<|sV (r0)<|sN<|qR ?_
  exact oI h▸qD
 refine sN<|cF<|qK<|gS rfl rfl<|sV (.ptr 16 3)<|sV (.d (aa.pd a0.ae))<|bE h fun x3 hx3 h => cD (bz hx3)<|sB (.ptr 64 0) 64 (.var [r0, r0, r0])<|sV (rI 1)<|sS 64 (.var [rI x3.a0, rI x3.a1, rI x3.a2])<|sN<|qS<|gS rfl rfl<|sV (.ptr 16 0) ?_
 refine sV (.d (aa.pd a0.ak))<|bE h fun x4 hx4 h => cD (bz hx4)<|sV (r0)<|sN<|WC.block (WC.loop ?_)
 refine WL.round<|gS rfl rfl<|sT<|sN<|qS<|cT<|qK<|qS<|qB<|gS rfl rfl<|sM rfl<|sV (rI x4.a0)<|sA rfl<|sA rfl<|sN ?_
 refine WC.region rfl rfl<|sM rfl<|sM rfl<|sV (.ptr 64 0)<|sL rfl<|sM rfl<|sV (rI (rW (x3.a0 - x4.a0)))<|sV (rI (rW ((rW (x3.a0 - x4.a0)) + (1 : Int))))<|sV (rI (rW ((1 : Int) * (rW ((rW (x3.a0 - x4.a0)) + (1 : Int))))))<|sA rfl<|sN<|WC.region rfl rfl<|sV (rI 1)<|sM rfl<|sN ?_
 refine WL.round<|gS rfl rfl<|sT<|sN<|qS<|cT<|qK<|qS<|qB<|gS rfl rfl<|sM rfl<|sV (rI x4.a1)<|sA rfl<|sA rfl<|sN ?_
 refine WC.region rfl rfl<|sM rfl<|sM rfl<|sV (.ptr 64 1)<|sL rfl<|sM rfl<|sV (rI (rW (x3.a1 - x4.a1)))<|sV (rI (rW ((rW (x3.a1 - x4.a1)) + (1 : Int))))<|sV (rI (rW ((rW ((1 : Int) * (rW ((rW (x3.a0 - x4.a0)) + (1 : Int))))) * (rW ((rW (x3.a1 - x4.a1)) + (1 : Int))))))<|sA rfl<|sN<|WC.region rfl rfl<|sV (rI 2)<|sM rfl<|sN ?_
 refine WL.round<|gS rfl rfl<|sT<|sN<|qS<|cT<|qK<|qS<|qB<|gS rfl rfl<|sM rfl<|sV (rI x4.a2)<|sA rfl<|sA rfl<|sN ?_
 refine WC.region rfl rfl<|sM rfl<|sM rfl<|sV (.ptr 64 2)<|sL rfl<|sM rfl<|sV (rI (rW (x3.a2 - x4.a2)))<|sV (rI (rW ((rW (x3.a2 - x4.a2)) + (1 : Int))))<|sV (rI (rW ((rW ((rW ((1 : Int) * (rW ((rW (x3.a0 - x4.a0)) + (1 : Int))))) * (rW ((rW (x3.a1 - x4.a1)) + (1 : Int))))) * (rW ((rW (x3.a2 - x4.a2)) + (1 : Int))))))<|sA rfl<|sN<|WC.region rfl rfl<|sV (rI 3)<|sM rfl<|sN ?_
 refine WL.round<|gS rfl rfl<|sU<|sN<|qS<|cF<|qX<|qE<|gS rfl rfl<|sM rfl<|sA rfl<|sN<|qR ?_
 exact oI h▸qD
theorem ov {a0 : ai} {r : ai × ai × Bool} (h : iv a0 = some r) : EvP prog aI ext 96 [.d (ai.pd a0)] [] (.tup [.d (ai.pd r.1), .d (ai.pd r.2.1), rB r.2.2], []) := by
 refine Ev.body rfl Tryz.func96 rfl (by kernel_rfl)<|gS rfl rfl<|sB (.ptr 16 0) 16 (.var (ai.rc a0))<|sB (.ptr 32 0) 32 (.var zZ3)<|sB (.ptr 48 0) 48 (.var zZ3)<|sU<|sN<|qS<|gS rfl rfl<|sV (.d (ai.pd a0))<|bE h fun x1 hx1 h => cD (nP hx1)<|sF h (fun h => ?_) fun h => ?_
 ·refine sN<|cT<|gS rfl rfl<|sG (.d (ai.pd (ai.mk (aa.mk 0 0 0) (aa.mk 0 0 0))))<|sG (.d (ai.pd (ai.mk (aa.mk 0 0 0) (aa.mk 0 0 0))))<|sH 32 (.var zZ3)<|sH 48 (.var zZ3)<|sU<|sN<|qR ?_
  cases oI h
  exact qG
 refine sN<|cF<|qK<|WC.cI rfl rfl<|sV (.ptr 16 0)<|sV (.d (aa.pd a0.ak))<|bE h fun x3 hx3 h => cD (bz hx3)<|sV (.ptr 16 3)<|sV (.d (aa.pd a0.ae))<|bE h fun x4 hx4 h => cD (bz hx4)<|sB (.ptr 80 0) 80 (.var [r0, r0, r0])<|sB (.ptr 96 0) 96 (.var [r0, r0, r0])<|sS 80 (.var [rI x3.a0, rI x3.a1, rI x3.a2]) ?_
 refine sS 96 (.var [rI x4.a0, rI x4.a1, rI x4.a2]) ?_
 refine sN<|sO<|gS rfl rfl<|sV (r0)<|sN<|qS<|gS rfl rfl<|sV (r0)<|sN<|WC.block (WC.loop ?_)
 refine WL.round<|gS rfl rfl<|sT<|sN<|qS<|cT<|qK<|qS<|qB<|gS rfl rfl<|sM rfl<|sA rfl<|sN<|WC.cI rfl rfl<|sM rfl ?_
 refine sV (.ptr 96 0)<|sL rfl<|sM rfl<|sV (.ptr 80 0)<|sL rfl<|sV (rI (rW (x4.a0 - x3.a0)))<|sM rfl<|sV (.ptr 96 0)<|sL rfl<|sM rfl<|sV (.ptr 80 0)<|sL rfl<|sV (rI (rW (x4.a0 - x3.a0)))<|WO.s0 (v' := rB false) rfl rfl (fun _ => rfl) (congrArg (fun b => RV.d (.bool b)) (decide_eq_false (Int.lt_irrefl _))) ?_
 refine sN<|sO<|cF<|qK<|WC.region rfl rfl<|sV (rI 1)<|sM rfl<|sN<|WL.round<|gS rfl rfl<|sT<|sN<|qS<|cT<|qK<|qS ?_
 refine qB<|gS rfl rfl<|sM rfl<|sA rfl<|sN<|WC.cI rfl rfl<|sM rfl<|sV (.ptr 96 1)<|sL rfl<|sM rfl<|sV (.ptr 80 1)<|sL rfl<|sV (rI (rW (x4.a1 - x3.a1)))<|sM rfl<|sV (.ptr 96 0) ?_
 refine sL rfl<|sM rfl<|sV (.ptr 80 0)<|sL rfl<|sV (rI (rW (x4.a0 - x3.a0)))<|sF h (fun h => ?_) fun h => ?_
 ·refine sN<|sO<|cT<|WC.region rfl rfl<|sM rfl<|sA rfl<|sN<|WC.region rfl rfl<|sV (rI 2)<|sM rfl<|sN<|WL.round<|gS rfl rfl<|sT<|sN<|qS ?_
  refine cT<|qK<|qS<|qB<|gS rfl rfl<|sM rfl<|sA rfl<|sN<|WC.cI rfl rfl<|sM rfl<|sV (.ptr 96 2)<|sL rfl<|sM rfl<|sV (.ptr 80 2)<|sL rfl ?_
  refine sV (rI (rW (x4.a2 - x3.a2)))<|sM rfl<|sV (.ptr 96 1)<|sL rfl<|sM rfl<|sV (.ptr 80 1)<|sL rfl<|sV (rI (rW (x4.a1 - x3.a1)))<|sF h (fun h => ?_) fun h => ?_
  ·refine sN<|sO<|cT<|WC.region rfl rfl<|sM rfl<|sA rfl<|sN<|WC.region rfl rfl<|sV (rI 3)<|sM rfl<|sN<|WL.round<|gS rfl rfl<|sU<|sN<|qS ?_
   refine cF<|qX<|qE<|WC.cI rfl rfl<|sV (.d (aW.pd x4))<|sV (.d (aW.pd x3))<|sB (.ptr 144 0) 144 (.var [r0, r0, r0])<|sB (.ptr 160 0) 160 (.var [r0, r0, r0])<|sS 144 (.var [rI x4.a0, rI x4.a1, rI x4.a2])<|sS 160 (.var [rI x3.a0, rI x3.a1, rI x3.a2]) ?_
   refine sN<|sO<|WC.cI rfl rfl<|sM rfl<|sM rfl<|sV (.ptr 80 2)<|sL rfl<|sM rfl<|sV (.ptr 96 2)<|sL rfl<|bE h fun x7 hx7 h => cD (cz hx7)<|sV (.ptr 144 2)<|sS 144 (.var [rI x4.a0, rI x4.a1, rI x7]) ?_
   refine sN<|sO<|gS rfl rfl<|sM rfl<|sM rfl<|sV (.ptr 144 2)<|sL rfl<|sV (rI (rW (x7 + (1 : Int))))<|sV (.ptr 160 2)<|sS 160 (.var [rI x3.a0, rI x3.a1, rI (rW (x7 + (1 : Int)))])<|sN<|WC.cI rfl rfl<|sV (.ptr 16 0)<|sV (.d (aa.pd a0.ak))<|sV (.d (aW.pd (aW.mk x4.a0 x4.a1 x7)))<|bE h fun x8 hx8 h => ?_
   refine cD (bH hx8)<|sG (.d (ai.pd (ai.mk a0.ak x8)))<|sV (.d (aW.pd (aW.mk x3.a0 x3.a1 (rW (x7 + (1 : Int))))))<|bE h fun x9 hx9 h => cD (bH hx9)<|sV (.ptr 16 3)<|sV (.d (aa.pd a0.ae))<|sG (.d (ai.pd (ai.mk x9 a0.ae)))<|sH 32 (.var [rI a0.ak.fX, rI a0.ak.fY, rI a0.ak.fZ, rI x8.fX, rI x8.fY, rI x8.fZ])<|sH 48 (.var [rI x9.fX, rI x9.fY, rI x9.fZ, rI a0.ae.fX, rI a0.ae.fY, rI a0.ae.fZ])<|sT ?_
   refine sN<|sO<|qR ?_
   cases oI h
   exact qG
  refine sN<|sO<|cF<|qK<|WC.region rfl rfl<|sV (rI 3)<|sM rfl<|sN<|WL.round<|gS rfl rfl<|sU<|sN<|qS<|cF<|qX<|qE ?_
  refine WC.cI rfl rfl<|sV (.d (aW.pd x4))<|sV (.d (aW.pd x3))<|sB (.ptr 144 0) 144 (.var [r0, r0, r0])<|sB (.ptr 160 0) 160 (.var [r0, r0, r0])<|sS 144 (.var [rI x4.a0, rI x4.a1, rI x4.a2])<|sS 160 (.var [rI x3.a0, rI x3.a1, rI x3.a2]) ?_
  refine sN<|sO<|WC.cI rfl rfl<|sM rfl<|sM rfl<|sV (.ptr 80 1)<|sL rfl<|sM rfl<|sV (.ptr 96 1)<|sL rfl<|bE h fun x10 hx10 h => cD (cz hx10)<|sV (.ptr 144 1)<|sS 144 (.var [rI x4.a0, rI x10, rI x4.a2]) ?_
  refine sN<|sO<|gS rfl rfl<|sM rfl<|sM rfl<|sV (.ptr 144 1)<|sL rfl<|sV (rI (rW (x10 + (1 : Int))))<|sV (.ptr 160 1)<|sS 160 (.var [rI x3.a0, rI (rW (x10 + (1 : Int))), rI x3.a2])<|sN<|WC.cI rfl rfl<|sV (.ptr 16 0)<|sV (.d (aa.pd a0.ak))<|sV (.d (aW.pd (aW.mk x4.a0 x10 x4.a2)))<|bE h fun x11 hx11 h => ?_
  refine cD (bH hx11)<|sG (.d (ai.pd (ai.mk a0.ak x11)))<|sV (.d (aW.pd (aW.mk x3.a0 (rW (x10 + (1 : Int))) x3.a2)))<|bE h fun x12 hx12 h => cD (bH hx12)<|sV (.ptr 16 3)<|sV (.d (aa.pd a0.ae))<|sG (.d (ai.pd (ai.mk x12 a0.ae)))<|sH 32 (.var [rI a0.ak.fX, rI a0.ak.fY, rI a0.ak.fZ, rI x11.fX, rI x11.fY, rI x11.fZ])<|sH 48 (.var [rI x12.fX, rI x12.fY, rI x12.fZ, rI a0.ae.fX, rI a0.ae.fY, rI a0.ae.fZ])<|sT ?_
  refine sN<|sO<|qR ?_
  cases oI h
  exact qG
 refine sN<|sO<|cF<|qK<|WC.region rfl rfl<|sV (rI 2)<|sM rfl<|sN<|WL.round<|gS rfl rfl<|sT<|sN<|qS<|cT<|qK<|qS ?_
 refine qB<|gS rfl rfl<|sM rfl<|sA rfl<|sN<|WC.cI rfl rfl<|sM rfl<|sV (.ptr 96 2)<|sL rfl<|sM rfl<|sV (.ptr 80 2)<|sL rfl<|sV (rI (rW (x4.a2 - x3.a2)))<|sM rfl<|sV (.ptr 96 0) ?_
 refine sL rfl<|sM rfl<|sV (.ptr 80 0)<|sL rfl<|sV (rI (rW (x4.a0 - x3.a0)))<|sF h (fun h => ?_) fun h => ?_
 ·refine sN<|sO<|cT<|WC.region rfl rfl<|sM rfl<|sA rfl<|sN<|WC.region rfl rfl<|sV (rI 3)<|sM rfl<|sN<|WL.round<|gS rfl rfl<|sU<|sN<|qS ?_
  refine cF<|qX<|qE<|WC.cI rfl rfl<|sV (.d (aW.pd x4))<|sV (.d (aW.pd x3))<|sB (.ptr 144 0) 144 (.var [r0, r0, r0])<|sB (.ptr 160 0) 160 (.var [r0, r0, r0])<|sS 144 (.var [rI x4.a0, rI x4.a1, rI x4.a2])<|sS 160 (.var [rI x3.a0, rI x3.a1, rI x3.a2]) ?_
  refine sN<|sO<|WC.cI rfl rfl<|sM rfl<|sM rfl<|sV (.ptr 80 2)<|sL rfl<|sM rfl<|sV (.ptr 96 2)<|sL rfl<|bE h fun x14 hx14 h => cD (cz hx14)<|sV (.ptr 144 2)<|sS 144 (.var [rI x4.a0, rI x4.a1, rI x14]) ?_
  refine sN<|sO<|gS rfl rfl<|sM rfl<|sM rfl<|sV (.ptr 144 2)<|sL rfl<|sV (rI (rW (x14 + (1 : Int))))<|sV (.ptr 160 2)<|sS 160 (.var [rI x3.a0, rI x3.a1, rI (rW (x14 + (1 : Int)))])<|sN<|WC.cI rfl rfl<|sV (.ptr 16 0)<|sV (.d (aa.pd a0.ak))<|sV (.d (aW.pd (aW.mk x4.a0 x4.a1 x14)))<|bE h fun x15 hx15 h => ?_
  refine cD (bH hx15)<|sG (.d (ai.pd (ai.mk a0.ak x15)))<|sV (.d (aW.pd (aW.mk x3.a0 x3.a1 (rW (x14 + (1 : Int))))))<|bE h fun x16 hx16 h => cD (bH hx16)<|sV (.ptr 16 3)<|sV (.d (aa.pd a0.ae))<|sG (.d (ai.pd (ai.mk x16 a0.ae)))<|sH 32 (.var [rI a0.ak.fX, rI a0.ak.fY, rI a0.ak.fZ, rI x15.fX, rI x15.fY, rI x15.fZ])<|sH 48 (.var [rI x16.fX, rI x16.fY, rI x16.fZ, rI a0.ae.fX, rI a0.ae.fY, rI a0.ae.fZ])<|sT ?_
  refine sN<|sO<|qR ?_
  cases oI h
  exact qG
 refine sN<|sO<|cF<|qK<|WC.region rfl rfl<|sV (rI 3)<|sM rfl<|sN<|WL.round<|gS rfl rfl<|sU<|sN<|qS<|cF<|qX<|qE ?_
 refine WC.cI rfl rfl<|sV (.d (aW.pd x4))<|sV (.d (aW.pd x3))<|sB (.ptr 144 0) 144 (.var [r0, r0, r0])<|sB (.ptr 160 0) 160 (.var [r0, r0, r0])<|sS 144 (.var [rI x4.a0, rI x4.a1, rI x4.a2])<|sS 160 (.var [rI x3.a0, rI x3.a1, rI x3.a2]) ?_
 refine sN<|sO<|WC.cI rfl rfl<|sM rfl<|sM rfl<|sV (.ptr 80 0)<|sL rfl<|sM rfl<|sV (.ptr 96 0)<|sL rfl<|bE h fun x17 hx17 h => cD (cz hx17)<|sV (.ptr 144 0)<|sS 144 (.var [rI x17, rI x4.a1, rI x4.a2]) ?_
 refine sN<|sO<|gS rfl rfl<|sM rfl<|sM rfl<|sV (.ptr 144 0)<|sL rfl<|sV (rI (rW (x17 + (1 : Int))))<|sV (.ptr 160 0)<|sS 160 (.var [rI (rW (x17 + (1 : Int))), rI x3.a1, rI x3.a2])<|sN<|WC.cI rfl rfl<|sV (.ptr 16 0)<|sV (.d (aa.pd a0.ak))<|sV (.d (aW.pd (aW.mk x17 x4.a1 x4.a2)))<|bE h fun x18 hx18 h => ?_
 refine cD (bH hx18)<|sG (.d (ai.pd (ai.mk a0.ak x18)))<|sV (.d (aW.pd (aW.mk (rW (x17 + (1 : Int))) x3.a1 x3.a2)))<|bE h fun x19 hx19 h => cD (bH hx19)<|sV (.ptr 16 3)<|sV (.d (aa.pd a0.ae))<|sG (.d (ai.pd (ai.mk x19 a0.ae)))<|sH 32 (.var [rI a0.ak.fX, rI a0.ak.fY, rI a0.ak.fZ, rI x18.fX, rI x18.fY, rI x18.fZ])<|sH 48 (.var [rI x19.fX, rI x19.fY, rI x19.fZ, rI a0.ae.fX, rI a0.ae.fY, rI a0.ae.fZ])<|sT ?_
 refine sN<|sO<|qR ?_
 cases oI h
 exact qG
theorem queue_Pushq_ev {a0 : ah} {e1 : aw} {e2 : Int} {e3 : Int} {e4 : Bool} {e5 : aF} {d1 : (List ah)} {r : (List ah)} (h : mU a0 e1 e2 e3 e4 e5 d1 = some r) : EvP prog aI ext 213 [.ptr 0 11, .ifc 123 (.d (ah.pd a0))] [.var [rI e1.ac.ak.fX, rI e1.ac.ak.fY, rI e1.ac.ak.fZ, rI e1.ac.ae.fX, rI e1.ac.ae.fY, rI e1.ac.ae.fZ, rI e1.az.aU, .d (.lst (e1.az.ak.map (PD.int .i64))), .d (.lst (e1.az.ae.map (PD.int .i64))), .d (.lst (e1.aY.map av.pd)), rI e1.bG, .ref 1 0, rI e2, rI e3, rB e4, rI e5.aD.fX, rI e5.aD.fY, rI e5.aD.fZ, rI e5.a8, rI e5.aT, rI e5.bd, rI e5.au.ak.fX, rI e5.au.ak.fY, rI e5.au.ak.fZ, rI e5.au.ae.fX, rI e5.au.ae.fY, rI e5.au.ae.fZ], .arr 0 123 (d1.map ah.pd)] (.tup [], [.var [rI e1.ac.ak.fX, rI e1.ac.ak.fY, rI e1.ac.ak.fZ, rI e1.ac.ae.fX, rI e1.ac.ae.fY, rI e1.ac.ae.fZ, rI e1.az.aU, .d (.lst (e1.az.ak.map (PD.int .i64))), .d (.lst (e1.az.ae.map (PD.int .i64))), .d (.lst (e1.aY.map av.pd)), rI e1.bG, .ref 1 1, rI e2, rI e3, rB e4, rI e5.aD.fX, rI e5.aD.fY, rI e5.aD.fZ, rI e5.a8, rI e5.aT, rI e5.bd, rI e5.au.ak.fX, rI e5.au.ak.fY, rI e5.au.ak.fZ, rI e5.au.ae.fX, rI e5.au.ae.fY, rI e5.au.ae.fZ], .arr 1 123 (r.map ah.pd)]) := by
 refine Ev.body rfl Tryz.func213 rfl (by kernel_rfl)<|gS rfl rfl<|sM rfl<|sG (.tup [.d (ah.pd a0), rB true])<|sM rfl<|sV (.d (ah.pd a0))<|sT<|sB (.ptr 64 0) 64 (.var [r0, r0, r0, r0, r0, r0, r0, r0])<|sH 64 (.var (ah.rc a0))<|sA rfl<|sN<|gS rfl rfl<|sM rfl<|sN<|cT ?_
 refine WC.pQ rfl rfl<|sM rfl<|sM rfl<|sV (.ptr 0 11)<|sL rfl<|sV (.d (ah.pd a0))<|sG (.d (.lst ([a0].map ah.pd)))<|bE h fun x1 hx1 h => aR hx1 (fun _ => rfl) rfl<|sV (.ptr 0 11)<|sS 0 (.var [rI e1.ac.ak.fX, rI e1.ac.ak.fY, rI e1.ac.ak.fZ, rI e1.ac.ae.fX, rI e1.ac.ae.fY, rI e1.ac.ae.fZ, rI e1.az.aU, .d (.lst (e1.az.ak.map (PD.int .i64))), .d (.lst (e1.az.ae.map (PD.int .i64))), .d (.lst (e1.aY.map av.pd)), rI e1.bG, .ref 1 1, rI e2, rI e3, rB e4, rI e5.aD.fX, rI e5.aD.fY, rI e5.aD.fZ, rI e5.a8, rI e5.aT, rI e5.bd, rI e5.au.ak.fX, rI e5.au.ak.fY, rI e5.au.ak.fZ, rI e5.au.ae.fX, rI e5.au.ae.fY, rI e5.au.ae.fZ]) ?_
 refine sN<|sO ?_
 cases oI h
 exact qG
theorem heap_Pushq_ev {a0 : ah} {e1 : aw} {e2 : Int} {e3 : Int} {e4 : Bool} {e5 : aF} {d1 : (List ah)} {r : (List ah)} (h : lO a0 e1 e2 e3 e4 e5 d1 = some r) : EvP prog aI ext 93 [.ifc 178 (.ptr 0 11), .ifc 123 (.d (ah.pd a0))] [.var [rI e1.ac.ak.fX, rI e1.ac.ak.fY, rI e1.ac.ak.fZ, rI e1.ac.ae.fX, rI e1.ac.ae.fY, rI e1.ac.ae.fZ, rI e1.az.aU, .d (.lst (e1.az.ak.map (PD.int .i64))), .d (.lst (e1.az.ae.map (PD.int .i64))), .d (.lst (e1.aY.map av.pd)), rI e1.bG, .ref 1 0, rI e2, rI e3, rB e4, rI e5.aD.fX, rI e5.aD.fY, rI e5.aD.fZ, rI e5.a8, rI e5.aT, rI e5.bd, rI e5.au.ak.fX, rI e5.au.ak.fY, rI e5.au.ak.fZ, rI e5.au.ae.fX, rI e5.au.ae.fY, rI e5.au.ae.fZ], .arr 0 123 (d1.map ah.pd)] (.tup [], [.var [rI e1.ac.ak.fX, rI e1.ac.ak.fY, rI e1.ac.ak.fZ, rI e1.ac.ae.fX, rI e1.ac.ae.fY, rI e1.ac.ae.fZ, rI e1.az.aU, .d (.lst (e1.az.ak.map (PD.int .i64))), .d (.lst (e1.az.ae.map (PD.int .i64))), .d (.lst (e1.aY.map av.pd)), rI e1.bG, .ref 1 1, rI e2, rI e3, rB e4, rI e5.aD.fX, rI e5.aD.fY, rI e5.aD.fZ, rI e5.a8, rI e5.aT, rI e5.bd, rI e5.au.ak.fX, rI e5.au.ak.fY, rI e5.au.ak.fZ, rI e5.au.ae.fX, rI e5.au.ae.fY, rI e5.au.ae.fZ], .arr 1 123 (r.map ah.pd)]) := by
 refine Ev.body rfl Tryz.func93 rfl (by kernel_rfl)<|gS rfl rfl<|sM rfl<|sM rfl<|bE h fun x1 hx1 h => WO.pP (g := 213) (args := [.ptr 0 11, .ifc 123 (.d (ah.pd a0))]) (v := .tup []) (u := [(0, .var [rI e1.ac.ak.fX, rI e1.ac.ak.fY, rI e1.ac.ak.fZ, rI e1.ac.ae.fX, rI e1.ac.ae.fY, rI e1.ac.ae.fZ, rI e1.az.aU, .d (.lst (e1.az.ak.map (PD.int .i64))), .d (.lst (e1.az.ae.map (PD.int .i64))), .d (.lst (e1.aY.map av.pd)), rI e1.bG, .ref 1 1, rI e2, rI e3, rB e4, rI e5.aD.fX, rI e5.aD.fY, rI e5.aD.fZ, rI e5.a8, rI e5.aT, rI e5.bd, rI e5.au.ak.fX, rI e5.au.ak.fY, rI e5.au.ak.fZ, rI e5.au.ae.fX, rI e5.au.ae.fY, rI e5.au.ae.fZ]), (1, .arr 1 123 (x1.map ah.pd))]) rfl rfl (by intro _; kernel_rfl) rfl rfl rfl rfl rfl (queue_Pushq_ev hx1) rfl rfl rfl rfl<|sN<|WC.region rfl rfl<|sM rfl<|sM rfl<|bE h fun x2 hx2 h => WO.vE (e := 119) (c := .ptr 0 11) (vl := .ref 1 1) (g := 209) (args := []) (v := rI x2.1) (u := [(1, .arr 1 123 (x2.2.map ah.pd))]) rfl rfl (by intro _; kernel_rfl) rfl rfl rfl rfl rfl rfl (lp hx2) rfl rfl rfl rfl<|sV (rI (rW (x2.1 - (1 : Int))))<|bE h fun x3 hx3 h => cR (.tup []) [(0, .var [rI e1.ac.ak.fX, rI e1.ac.ak.fY, rI e1.ac.ak.fZ, rI e1.ac.ae.fX, rI e1.ac.ae.fY, rI e1.ac.ae.fZ, rI e1.az.aU, .d (.lst (e1.az.ak.map (PD.int .i64))), .d (.lst (e1.az.ae.map (PD.int .i64))), .d (.lst (e1.aY.map av.pd)), rI e1.bG, .ref 1 1, rI e2, rI e3, rB e4, rI e5.aD.fX, rI e5.aD.fY, rI e5.aD.fZ, rI e5.a8, rI e5.aT, rI e5.bd, rI e5.au.ak.fX, rI e5.au.ak.fY, rI e5.au.ak.fZ, rI e5.au.ae.fX, rI e5.au.ae.fY, rI e5.au.ae.fZ]), (1, .arr 1 123 (x3.map ah.pd))] (heap_up_ev hx3) ?_
 refine sN ?_
 cases oI h
 exact qG
theorem mY {a0 : ai} {e1 : aw} {e2 : Int} {e3 : Int} {e4 : Bool} {e5 : aF} {d1 : (List ah)} {r : Int × Int × (List ah)} (h : jx a0 e1 e2 e3 e4 e5 d1 = some r) : EvP prog aI ext 61 [.ptr 0 0, .d (ai.pd a0)] [.var [rI e1.ac.ak.fX, rI e1.ac.ak.fY, rI e1.ac.ak.fZ, rI e1.ac.ae.fX, rI e1.ac.ae.fY, rI e1.ac.ae.fZ, rI e1.az.aU, .d (.lst (e1.az.ak.map (PD.int .i64))), .d (.lst (e1.az.ae.map (PD.int .i64))), .d (.lst (e1.aY.map av.pd)), rI e1.bG, .ref 1 0, rI e2, rI e3, rB e4, rI e5.aD.fX, rI e5.aD.fY, rI e5.aD.fZ, rI e5.a8, rI e5.aT, rI e5.bd, rI e5.au.ak.fX, rI e5.au.ak.fY, rI e5.au.ak.fZ, rI e5.au.ae.fX, rI e5.au.ae.fY, rI e5.au.ae.fZ], .arr 0 123 (d1.map ah.pd)] (rI r.1, [.var [rI e1.ac.ak.fX, rI e1.ac.ak.fY, rI e1.ac.ak.fZ, rI e1.ac.ae.fX, rI e1.ac.ae.fY, rI e1.ac.ae.fZ, rI e1.az.aU, .d (.lst (e1.az.ak.map (PD.int .i64))), .d (.lst (e1.az.ae.map (PD.int .i64))), .d (.lst (e1.aY.map av.pd)), rI e1.bG, .ref 1 1, rI r.2.1, rI e3, rB e4, rI e5.aD.fX, rI e5.aD.fY, rI e5.aD.fZ, rI e5.a8, rI e5.aT, rI e5.bd, rI e5.au.ak.fX, rI e5.au.ak.fY, rI e5.au.ak.fZ, rI e5.au.ae.fX, rI e5.au.ae.fY, rI e5.au.ae.fZ], .arr 1 123 (r.2.2.map ah.pd)]) := by
 refine Ev.body rfl Tryz.func61 rfl (by kernel_rfl)<|gS rfl rfl<|sB (.ptr 48 0) 48 (.var (ai.rc a0))<|sV (r0)<|sN<|WC.cI rfl rfl<|sM rfl<|sV (.ptr 0 0)<|sV (.ptr 0 0)<|sV (.d (aw.pd e1))<|sV (.d (ai.pd a0))<|bE h fun x1 hx1 h => cR (.tup [rI x1.1, rI x1.2]) [] (mf hx1)<|sM rfl<|sV (rI x1.1) ?_
 refine sV (rI x1.2)<|sA rfl<|sA rfl ?_
 refine sN<|sO<|WC.join (α := Int × (List ah)) (fun x R' B' => lC prog 2 (A R' B') (aI.at_ 61 2 5) = some (A [(6, rI x1.2)] [(0, .var [rI e1.ac.ak.fX, rI e1.ac.ak.fY, rI e1.ac.ak.fZ, rI e1.ac.ae.fX, rI e1.ac.ae.fY, rI e1.ac.ae.fZ, rI e1.az.aU, .d (.lst (e1.az.ak.map (PD.int .i64))), .d (.lst (e1.az.ae.map (PD.int .i64))), .d (.lst (e1.aY.map av.pd)), rI e1.bG, .ref 1 1, rI x.1, rI e3, rB e4, rI e5.aD.fX, rI e5.aD.fY, rI e5.aD.fZ, rI e5.a8, rI e5.aT, rI e5.bd, rI e5.au.ak.fX, rI e5.au.ak.fY, rI e5.au.ak.fZ, rI e5.au.ae.fX, rI e5.au.ae.fY, rI e5.au.ae.fZ]), (1, .arr 1 123 (x.2.map ah.pd))])) (fun x => iI x1 x.1 x.2 = some r) ?_ ?_
 ·refine gS rfl rfl<|sM rfl<|sF h (fun h => ?_) fun h => ?_
  ·refine sN<|cT<|WC.cI rfl rfl<|sM rfl<|sV (.ptr 0 0)<|sV (.ptr 0 11)<|sG (.ifc 178 (.ptr 0 11))<|sV (.d (ai.pd a0))<|sM rfl<|sM rfl<|sV (.ptr 0 0)<|sV (.ptr 0 12)<|sL rfl<|sG (.d (ah.pd (ah.mk a0 x1.1 e2)))<|sG (.ifc 123 (.d (ah.pd (ah.mk a0 x1.1 e2)))) ?_
   refine bE h fun x6 hx6 h => cR (.tup []) [(0, .var [rI e1.ac.ak.fX, rI e1.ac.ak.fY, rI e1.ac.ak.fZ, rI e1.ac.ae.fX, rI e1.ac.ae.fY, rI e1.ac.ae.fZ, rI e1.az.aU, .d (.lst (e1.az.ak.map (PD.int .i64))), .d (.lst (e1.az.ae.map (PD.int .i64))), .d (.lst (e1.aY.map av.pd)), rI e1.bG, .ref 1 1, rI e2, rI e3, rB e4, rI e5.aD.fX, rI e5.aD.fY, rI e5.aD.fZ, rI e5.a8, rI e5.aT, rI e5.bd, rI e5.au.ak.fX, rI e5.au.ak.fY, rI e5.au.ak.fZ, rI e5.au.ae.fX, rI e5.au.ae.fY, rI e5.au.ae.fZ]), (1, .arr 1 123 (x6.map ah.pd))] (heap_Pushq_ev hx6) ?_
   exact sN<|sO<|WC.region rfl rfl<|sM rfl<|sV (.ptr 0 0)<|sV (.ptr 0 12)<|sL rfl<|sV (rI (rW (e2 + (1 : Int))))<|sV (.ptr 0 0)<|sV (.ptr 0 12)<|sS 0 (.var [rI e1.ac.ak.fX, rI e1.ac.ak.fY, rI e1.ac.ak.fZ, rI e1.ac.ae.fX, rI e1.ac.ae.fY, rI e1.ac.ae.fZ, rI e1.az.aU, .d (.lst (e1.az.ak.map (PD.int .i64))), .d (.lst (e1.az.ae.map (PD.int .i64))), .d (.lst (e1.aY.map av.pd)), rI e1.bG, .ref 1 1, rI (rW (e2 + (1 : Int))), rI e3, rB e4, rI e5.aD.fX, rI e5.aD.fY, rI e5.aD.fZ, rI e5.a8, rI e5.aT, rI e5.bd, rI e5.au.ak.fX, rI e5.au.ak.fY, rI e5.au.ak.fZ, rI e5.au.ae.fX, rI e5.au.ae.fY, rI e5.au.ae.fZ])<|sN<|⟨((rW (e2 + (1 : Int))), x6), rfl, h⟩
  exact sN<|cF<|qK<|⟨(e2, d1), rfl, h⟩
 rintro ⟨j2, j3⟩ R' B' hI h
 refine gS rfl hI<|sM rfl<|sA rfl<|sN<|qR ?_
 cases oI h
 exact qG
theorem search_step_ev {e0 : aw} {e1 : Int} {e2 : Int} {e3 : Bool} {e4 : aF} {d1 : (List ah)} {r : Int × Int × Int × Bool × aF × (List ah)} (h : ld e0 e1 e2 e3 e4 d1 = some r) : EvP prog aI ext 63 [.ptr 0 0] [.var [rI e0.ac.ak.fX, rI e0.ac.ak.fY, rI e0.ac.ak.fZ, rI e0.ac.ae.fX, rI e0.ac.ae.fY, rI e0.ac.ae.fZ, rI e0.az.aU, .d (.lst (e0.az.ak.map (PD.int .i64))), .d (.lst (e0.az.ae.map (PD.int .i64))), .d (.lst (e0.aY.map av.pd)), rI e0.bG, .ref 1 0, rI e1, rI e2, rB e3, rI e4.aD.fX, rI e4.aD.fY, rI e4.aD.fZ, rI e4.a8, rI e4.aT, rI e4.bd, rI e4.au.ak.fX, rI e4.au.ak.fY, rI e4.au.ak.fZ, rI e4.au.ae.fX, rI e4.au.ae.fY, rI e4.au.ae.fZ], .arr 0 123 (d1.map ah.pd)] (rI r.1, [.var [rI e0.ac.ak.fX, rI e0.ac.ak.fY, rI e0.ac.ak.fZ, rI e0.ac.ae.fX, rI e0.ac.ae.fY, rI e0.ac.ae.fZ, rI e0.az.aU, .d (.lst (e0.az.ak.map (PD.int .i64))), .d (.lst (e0.az.ae.map (PD.int .i64))), .d (.lst (e0.aY.map av.pd)), rI e0.bG, .ref 1 1, rI r.2.1, rI r.2.2.1, rB r.2.2.2.1, rI r.2.2.2.2.1.aD.fX, rI r.2.2.2.2.1.aD.fY, rI r.2.2.2.2.1.aD.fZ, rI r.2.2.2.2.1.a8, rI r.2.2.2.2.1.aT, rI r.2.2.2.2.1.bd, rI r.2.2.2.2.1.au.ak.fX, rI r.2.2.2.2.1.au.ak.fY, rI r.2.2.2.2.1.au.ak.fZ, rI r.2.2.2.2.1.au.ae.fX, rI r.2.2.2.2.1.au.ae.fY, rI r.2.2.2.2.1.au.ae.fZ], .arr 1 123 (r.2.2.2.2.2.map ah.pd)]) := by
 refine Ev.body rfl Tryz.func63 rfl (by kernel_rfl)<|gS rfl rfl<|sV (r0)<|sN<|qS<|gS rfl rfl<|sM rfl<|sV (.ptr 0 0)<|sV (.ptr 0 13)<|sL rfl<|sF h (fun h => ?_) fun h => ?_
 ·refine sN<|cT<|WC.pn (R0 := []) (B0 := [(0, .var [rI e0.ac.ak.fX, rI e0.ac.ak.fY, rI e0.ac.ak.fZ, rI e0.ac.ae.fX, rI e0.ac.ae.fY, rI e0.ac.ae.fZ, rI e0.az.aU, .d (.lst (e0.az.ak.map (PD.int .i64))), .d (.lst (e0.az.ae.map (PD.int .i64))), .d (.lst (e0.aY.map av.pd)), rI e0.bG, .ref 1 1, rI e1, rI e2, rB e3, rI e4.aD.fX, rI e4.aD.fY, rI e4.aD.fZ, rI e4.a8, rI e4.aT, rI e4.bd, rI e4.au.ak.fX, rI e4.au.ak.fY, rI e4.au.ak.fZ, rI e4.au.ae.fX, rI e4.au.ae.fY, rI e4.au.ae.fZ]), (1, .arr 1 123 (d1.map ah.pd))]) rfl rfl<|sV (rI 25)<|sN<|qR ?_
  cases oI h
  exact qG
 refine sN<|cF<|qK<|gS rfl rfl<|sM rfl<|sV (.ptr 0 0)<|sV (.ptr 0 11)<|sL rfl<|bE h fun x3 hx3 h => WO.qo hx3 rfl rfl rfl rfl rfl rfl rfl rfl<|sV (.elt 1 0 ((0 : Int)).toNat 0)<|bE h fun x4 hx4 h => WO.p7 hx4 rfl rfl rfl rfl rfl rfl<|sB (.ptr 48 0) 48 (.var zZ3)<|sH 48 (.var (ai.rc x4.jZ)) ?_
 refine sN<|gS rfl rfl<|sM rfl<|sV (.ptr 0 0)<|sV (.ptr 0 11)<|sG (.ifc 178 (.ptr 0 11))<|bE h fun x5 hx5 h => cR (.ifc 123 (.d (ah.pd x5.1))) [(0, .var [rI e0.ac.ak.fX, rI e0.ac.ak.fY, rI e0.ac.ak.fZ, rI e0.ac.ae.fX, rI e0.ac.ae.fY, rI e0.ac.ae.fZ, rI e0.az.aU, .d (.lst (e0.az.ak.map (PD.int .i64))), .d (.lst (e0.az.ae.map (PD.int .i64))), .d (.lst (e0.aY.map av.pd)), rI e0.bG, .ref 1 1, rI e1, rI e2, rB e3, rI e4.aD.fX, rI e4.aD.fY, rI e4.aD.fZ, rI e4.a8, rI e4.aT, rI e4.bd, rI e4.au.ak.fX, rI e4.au.ak.fY, rI e4.au.ak.fZ, rI e4.au.ae.fX, rI e4.au.ae.fY, rI e4.au.ae.fZ]), (1, .arr 1 123 (x5.2.map ah.pd))] (heap_Pop_ev hx5)<|sN<|gS rfl rfl<|sM rfl<|sV (.ptr 0 0)<|sV (.ptr 0 13)<|sL rfl<|sV (rI (rW (e2 + (1 : Int)))) ?_
 refine sV (.ptr 0 0)<|sV (.ptr 0 13)<|sS 0 (.var [rI e0.ac.ak.fX, rI e0.ac.ak.fY, rI e0.ac.ak.fZ, rI e0.ac.ae.fX, rI e0.ac.ae.fY, rI e0.ac.ae.fZ, rI e0.az.aU, .d (.lst (e0.az.ak.map (PD.int .i64))), .d (.lst (e0.az.ae.map (PD.int .i64))), .d (.lst (e0.aY.map av.pd)), rI e0.bG, .ref 1 1, rI e1, rI (rW (e2 + (1 : Int))), rB e3, rI e4.aD.fX, rI e4.aD.fY, rI e4.aD.fZ, rI e4.a8, rI e4.aT, rI e4.bd, rI e4.au.ak.fX, rI e4.au.ak.fY, rI e4.au.ak.fZ, rI e4.au.ae.fX, rI e4.au.ae.fY, rI e4.au.ae.fZ])<|sN<|qS<|gS rfl rfl<|sM rfl<|sV (.d (ai.pd x4.jZ))<|bE h fun x6 hx6 h => cR (rI x6.1) [(0, .var [rI e0.ac.ak.fX, rI e0.ac.ak.fY, rI e0.ac.ak.fZ, rI e0.ac.ae.fX, rI e0.ac.ae.fY, rI e0.ac.ae.fZ, rI e0.az.aU, .d (.lst (e0.az.ak.map (PD.int .i64))), .d (.lst (e0.az.ae.map (PD.int .i64))), .d (.lst (e0.aY.map av.pd)), rI e0.bG, .ref 1 1, rI e1, rI (rW (e2 + (1 : Int))), rB x6.2.1, rI x6.2.2.aD.fX, rI x6.2.2.aD.fY, rI x6.2.2.aD.fZ, rI x6.2.2.a8, rI x6.2.2.aT, rI x6.2.2.bd, rI x6.2.2.au.ak.fX, rI x6.2.2.au.ak.fY, rI x6.2.2.au.ak.fZ, rI x6.2.2.au.ae.fX, rI x6.2.2.au.ae.fY, rI x6.2.2.au.ae.fZ]), (1, .arr 1 123 (x5.2.map ah.pd))] (search_look_ev hx6)<|sA rfl<|sN<|gS rfl rfl<|sM rfl<|sF h (fun h => ?_) fun h => ?_
 ·refine sN<|cT<|gS rfl rfl<|sM rfl<|sA rfl<|sN<|qR ?_
  cases oI h
  exact qG
 refine sN<|cF<|qK<|gS rfl rfl<|sV (.d (ai.pd x4.jZ))<|bE h fun x8 hx8 h => cR (.tup [.d (ai.pd x8.1), .d (ai.pd x8.2.1), rB x8.2.2]) [] (ov hx8)<|sM rfl<|sV (.d (ai.pd x8.1))<|sV (.d (ai.pd x8.2.1))<|sV (rB x8.2.2)<|sB (.ptr 80 0) 80 (.var zZ3)<|sB (.ptr 96 0) 96 (.var zZ3)<|sH 80 (.var (ai.rc x8.1))<|sH 96 (.var (ai.rc x8.2.1)) ?_
 refine sA rfl<|sN<|qS<|gS rfl rfl<|sM rfl<|sF h (fun h => ?_) fun h => ?_
 ·refine sN<|cT<|gS rfl rfl<|sV (r0)<|sN<|qR ?_
  cases oI h
  exact qG
 refine sN<|cF<|qK<|qS<|gS rfl rfl<|sM rfl<|sV (.d (ai.pd x8.1))<|bE h fun x10 hx10 h => cR (rI x10.1) [(0, .var [rI e0.ac.ak.fX, rI e0.ac.ak.fY, rI e0.ac.ak.fZ, rI e0.ac.ae.fX, rI e0.ac.ae.fY, rI e0.ac.ae.fZ, rI e0.az.aU, .d (.lst (e0.az.ak.map (PD.int .i64))), .d (.lst (e0.az.ae.map (PD.int .i64))), .d (.lst (e0.aY.map av.pd)), rI e0.bG, .ref 1 2, rI x10.2.1, rI (rW (e2 + (1 : Int))), rB x6.2.1, rI x6.2.2.aD.fX, rI x6.2.2.aD.fY, rI x6.2.2.aD.fZ, rI x6.2.2.a8, rI x6.2.2.aT, rI x6.2.2.bd, rI x6.2.2.au.ak.fX, rI x6.2.2.au.ak.fY, rI x6.2.2.au.ak.fZ, rI x6.2.2.au.ae.fX, rI x6.2.2.au.ae.fY, rI x6.2.2.au.ae.fZ]), (1, .arr 2 123 (x10.2.2.map ah.pd))] (mY hx10)<|sA rfl<|sN<|gS rfl rfl<|sM rfl<|sF h (fun h => ?_) fun h => ?_
 ·refine sN<|cT<|gS rfl rfl<|sM rfl<|sA rfl<|sN<|qR ?_
  cases oI h
  exact qG
 refine sN<|cF<|qK<|gS rfl rfl<|sM rfl<|sV (.d (ai.pd x8.2.1))<|bE h fun x12 hx12 h => cR (rI x12.1) [(0, .var [rI e0.ac.ak.fX, rI e0.ac.ak.fY, rI e0.ac.ak.fZ, rI e0.ac.ae.fX, rI e0.ac.ae.fY, rI e0.ac.ae.fZ, rI e0.az.aU, .d (.lst (e0.az.ak.map (PD.int .i64))), .d (.lst (e0.az.ae.map (PD.int .i64))), .d (.lst (e0.aY.map av.pd)), rI e0.bG, .ref 1 3, rI x12.2.1, rI (rW (e2 + (1 : Int))), rB x6.2.1, rI x6.2.2.aD.fX, rI x6.2.2.aD.fY, rI x6.2.2.aD.fZ, rI x6.2.2.a8, rI x6.2.2.aT, rI x6.2.2.bd, rI x6.2.2.au.ak.fX, rI x6.2.2.au.ak.fY, rI x6.2.2.au.ak.fZ, rI x6.2.2.au.ae.fX, rI x6.2.2.au.ae.fY, rI x6.2.2.au.ae.fZ]), (1, .arr 3 123 (x12.2.2.map ah.pd))] (mY hx12)<|sA rfl<|sN<|qR ?_
 cases oI h
 exact qG
theorem nJ {a0 : aw} {a1 : Int} {r : (Option bD) × Int} (h : iU a0 a1 = some r) : EvP prog aI ext 38 [.d (aw.pd a0), rI a1] [] (match r.1 with | none => (.tup [.d (.raw (.pointer none)), rI r.2], []) | some yv => (.tup [.ptr 0 0, rI r.2], [.var (bD.rc yv)])) := by
 refine Ev.body rfl Tryz.func38 rfl (by kernel_rfl)<|gS rfl rfl<|sB (.ptr 32 0) 32 (.var (aw.rc a0))<|sV (.d (.raw (.pointer none)))<|sV (r0)<|sN<|qS<|gS rfl rfl<|sV (.d (aw.pd a0))<|bE h fun x1 hx1 h => cD (kG hx1)<|sA rfl<|sN<|gS rfl rfl<|sM rfl ?_
 refine sF h (fun h => ?_) fun h => ?_
 ·refine sN<|cT<|gS rfl rfl<|sM rfl<|sV (.d (.raw (.pointer none)))<|sA rfl<|sN<|qR ?_
  cases oI h
  exact qG
 refine sN<|cF<|qK<|qS<|gS rfl rfl<|sM rfl<|sF h (fun h => ?_) fun h => ?_
 ·refine sN<|cT<|gS rfl rfl<|sV (.d (.raw (.pointer none)))<|sV (rI 2)<|sN<|qR ?_
  cases oI h
  exact qG
 refine sN<|cF<|qK<|gS rfl rfl<|sV (.d (aw.pd a0))<|sG (.agg [rI a0.ac.ak.fX, rI a0.ac.ak.fY, rI a0.ac.ak.fZ, rI a0.ac.ae.fX, rI a0.ac.ae.fY, rI a0.ac.ae.fZ, rI a0.az.aU, .d (.lst (a0.az.ak.map (PD.int .i64))), .d (.lst (a0.az.ae.map (PD.int .i64))), .d (.lst (a0.aY.map av.pd)), rI a0.bG, .hY, r0, r0, rB false, r0, r0, r0, r0, r0, r0, r0, r0, r0, r0, r0, r0])<|sB (.ptr 304 0) 304 (.var [rI a0.ac.ak.fX, rI a0.ac.ak.fY, rI a0.ac.ak.fZ, rI a0.ac.ae.fX, rI a0.ac.ae.fY, rI a0.ac.ae.fZ, rI a0.az.aU, .d (.lst (a0.az.ak.map (PD.int .i64))), .d (.lst (a0.az.ae.map (PD.int .i64))), .d (.lst (a0.aY.map av.pd)), rI a0.bG, .hY, r0, r0, rB false, r0, r0, r0, r0, r0, r0, r0, r0, r0, r0, r0, r0])<|sA rfl<|sN<|qS<|gS rfl rfl<|sM rfl<|sV (.ptr 32 0)<|sV (.d (ai.pd a0.ac))<|bE h fun x4 hx4 h => ?_
 refine cR (rI x4.1) [(304, .var [rI a0.ac.ak.fX, rI a0.ac.ak.fY, rI a0.ac.ak.fZ, rI a0.ac.ae.fX, rI a0.ac.ae.fY, rI a0.ac.ae.fZ, rI a0.az.aU, .d (.lst (a0.az.ak.map (PD.int .i64))), .d (.lst (a0.az.ae.map (PD.int .i64))), .d (.lst (a0.aY.map av.pd)), rI a0.bG, .ref 368 0, rI x4.2.2, r0, rB false, r0, r0, r0, r0, r0, r0, r0, r0, r0, r0, r0, r0]), (368, .arr 0 123 (x4.2.1.map ah.pd))] (search_add_ev hx4)<|sA rfl<|sN<|gS rfl rfl<|sM rfl<|sF h (fun h => ?_) fun h => ?_
 ·refine sN<|cT<|gS rfl rfl<|sM rfl<|sV (.d (.raw (.pointer none)))<|sA rfl<|sN<|qR ?_
  cases oI h
  exact qG
 refine sN<|cF<|qK<|qS<|bE h fun o22 ho22 h => WC.block (WC.loop (WL.oW ho22 (fun s R' B' => lC prog 0 (A R' B') (aI.at_ 38 0 10) = some (A [(1, rI a1), (7, .ptr 304 0)] [(304, .var [rI a0.ac.ak.fX, rI a0.ac.ak.fY, rI a0.ac.ak.fZ, rI a0.ac.ae.fX, rI a0.ac.ae.fY, rI a0.ac.ae.fZ, rI a0.az.aU, .d (.lst (a0.az.ak.map (PD.int .i64))), .d (.lst (a0.az.ae.map (PD.int .i64))), .d (.lst (a0.aY.map av.pd)), rI a0.bG, .ref 368 0, rI s.1, rI s.2.1, rB s.2.2.1, rI s.2.2.2.1.aD.fX, rI s.2.2.2.1.aD.fY, rI s.2.2.2.1.aD.fZ, rI s.2.2.2.1.a8, rI s.2.2.2.1.aT, rI s.2.2.2.1.bd, rI s.2.2.2.1.au.ak.fX, rI s.2.2.2.1.au.ak.fY, rI s.2.2.2.1.au.ak.fZ, rI s.2.2.2.1.au.ae.fX, rI s.2.2.2.1.au.ae.fY, rI s.2.2.2.1.au.ae.fZ]), (368, .arr 0 123 (s.2.2.2.2.map ah.pd))])) (fun o e R' B' => match o with | .inl y => e = .exit 0 ∧ lC prog 0 (A R' B') (aI.at_ 38 0 14) = some (A [(7, .ptr 304 0)] [(304, .var [rI a0.ac.ak.fX, rI a0.ac.ak.fY, rI a0.ac.ak.fZ, rI a0.ac.ae.fX, rI a0.ac.ae.fY, rI a0.ac.ae.fZ, rI a0.az.aU, .d (.lst (a0.az.ak.map (PD.int .i64))), .d (.lst (a0.az.ae.map (PD.int .i64))), .d (.lst (a0.aY.map av.pd)), rI a0.bG, .d (.lst (y.1.map ah.pd)), rI y.2.1, rI y.2.2.1, rB y.2.2.2.1, rI y.2.2.2.2.aD.fX, rI y.2.2.2.2.aD.fY, rI y.2.2.2.2.aD.fZ, rI y.2.2.2.2.a8, rI y.2.2.2.2.aT, rI y.2.2.2.2.bd, rI y.2.2.2.2.au.ak.fX, rI y.2.2.2.2.au.ak.fY, rI y.2.2.2.2.au.ak.fZ, rI y.2.2.2.2.au.ae.fX, rI y.2.2.2.2.au.ae.fY, rI y.2.2.2.2.au.ae.fZ])]) | .inr r => e = .ret ∧ finish prog (aI.own 38) Tryz.f38 0 (A R' B') = some (match r.1 with | none => (.tup [.d (.raw (.pointer none)), rI r.2], []) | some yv => (.tup [.ptr 0 0, rI r.2], [.var (bD.rc yv)]))) rfl ?_ ?_))
 ·rintro ⟨s6, s7, s8, s9, s10⟩ R' B' q16 hI h
  unfold kE at h
  refine qS<|gS rfl hI<|sM rfl<|sM rfl<|bE h fun x17 hx17 h => cR (rB x17) [(304, .var [rI a0.ac.ak.fX, rI a0.ac.ak.fY, rI a0.ac.ak.fZ, rI a0.ac.ae.fX, rI a0.ac.ae.fY, rI a0.ac.ae.fZ, rI a0.az.aU, .d (.lst (a0.az.ak.map (PD.int .i64))), .d (.lst (a0.az.ae.map (PD.int .i64))), .d (.lst (a0.aY.map av.pd)), rI a0.bG, .ref 368 0, rI s6, rI s7, rB s8, rI s9.aD.fX, rI s9.aD.fY, rI s9.aD.fZ, rI s9.a8, rI s9.aT, rI s9.bd, rI s9.au.ak.fX, rI s9.au.ak.fY, rI s9.au.ak.fZ, rI s9.au.ae.fX, rI s9.au.ae.fY, rI s9.au.ae.fZ]), (368, .arr 0 123 (s10.map ah.pd))] (search_ended_ev hx17)<|sF h (fun h => ?_) fun h => ?_
  ·refine sN<|cT<|qK<|qB<|gS rfl rfl<|sM rfl<|bE h fun x19 hx19 h => cR (rI x19.1) [(304, .var [rI a0.ac.ak.fX, rI a0.ac.ak.fY, rI a0.ac.ak.fZ, rI a0.ac.ae.fX, rI a0.ac.ae.fY, rI a0.ac.ae.fZ, rI a0.az.aU, .d (.lst (a0.az.ak.map (PD.int .i64))), .d (.lst (a0.az.ae.map (PD.int .i64))), .d (.lst (a0.aY.map av.pd)), rI a0.bG, .ref 368 1, rI x19.2.1, rI x19.2.2.1, rB x19.2.2.2.1, rI x19.2.2.2.2.1.aD.fX, rI x19.2.2.2.2.1.aD.fY, rI x19.2.2.2.2.1.aD.fZ, rI x19.2.2.2.2.1.a8, rI x19.2.2.2.2.1.aT, rI x19.2.2.2.2.1.bd, rI x19.2.2.2.2.1.au.ak.fX, rI x19.2.2.2.2.1.au.ak.fY, rI x19.2.2.2.2.1.au.ak.fZ, rI x19.2.2.2.2.1.au.ae.fX, rI x19.2.2.2.2.1.au.ae.fY, rI x19.2.2.2.2.1.au.ae.fZ]), (368, .arr 1 123 (x19.2.2.2.2.2.map ah.pd))] (search_step_ev hx19)<|sA rfl<|sN<|gS rfl rfl<|sM rfl<|sF h (fun h => ?_) fun h => ?_
   ·refine sN<|cT<|gS rfl rfl<|sM rfl<|sV (.d (.raw (.pointer none)))<|sA rfl<|sN<|qR ?_
    cases oI h
    exact ⟨nofun, rfl, rfl⟩
   refine sN<|cF<|qK ?_
   cases oI h
   exact ⟨rfl, rfl⟩
  refine sN<|cF<|qX ?_
  cases oI h
  exact ⟨nofun, rfl, rfl⟩
 intro e R' B' he hq
 rcases o22 with y23 | r24
 ·obtain ⟨rfl, hI⟩ := hq
  refine qE<|gS rfl hI<|sM rfl<|sA rfl<|sV (r0)<|sN<|qR ?_
  cases oI h
  exact qG
 obtain ⟨rfl, hf⟩ := hq
 cases oI h
 exact hf
theorem locate_run_evN {a0 : aw} {a1 : Int} {r : (Option bD) × Int} (h : iU a0 a1 = some r) (ho : r.1 = none) : EvP prog aI ext 38 [.d (aw.pd a0), rI a1] [] (.tup [.d (.raw (.pointer none)), rI r.2], []) := by
  have := nJ h; rw [ho] at this; exact this
theorem locate_run_evS {a0 : aw} {a1 : Int} {r : (Option bD) × Int} {yv : bD} (h : iU a0 a1 = some r) (ho : r.1 = some yv) : EvP prog aI ext 38 [.d (aw.pd a0), rI a1] [] (.tup [.ptr 0 0, rI r.2], [.var (bD.rc yv)]) := by
  have := nJ h; rw [ho] at this; exact this
theorem geometry_Hull_ev {a0 : ai} {a1 : ai} {r : ai} (h : jk a0 a1 = some r) : EvP prog aI ext 39 [.d (ai.pd a0), .d (ai.pd a1)] [] (.d (ai.pd r), []) := by
 refine Ev.body rfl Tryz.func39 rfl (by kernel_rfl)<|gS rfl rfl<|sB (.ptr 32 0) 32 (.var (ai.rc a0))<|sB (.ptr 48 0) 48 (.var (ai.rc a1))<|sB (.ptr 64 0) 64 (.var zZ3)<|sN<|qS<|gS rfl rfl<|sV (.d (ai.pd a0))<|bE h fun x1 hx1 h => cD (bv hx1)<|sF h (fun h => ?_) fun h => ?_
 ·refine sM rfl<|k3<|sT<|sN<|cT<|gS rfl rfl<|sG (.d (ai.pd (ai.mk (aa.mk 0 0 0) (aa.mk 0 0 0))))<|sH 64 (.var zZ3)<|sN<|qR ?_
  cases oI h
  exact qG
 refine sM rfl<|sV (.d (ai.pd a1))<|bE h fun x3 hx3 h => cD (bv hx3)<|sV (rB (!x3))<|sF h (fun h => ?_) fun h => ?_
 ·refine sN<|cT<|gS rfl rfl<|sG (.d (ai.pd (ai.mk (aa.mk 0 0 0) (aa.mk 0 0 0))))<|sH 64 (.var zZ3)<|sN<|qR ?_
  cases oI h
  exact qG
 refine sN<|cF<|qK<|WC.cI rfl rfl<|sV (.ptr 32 0)<|sV (.d (aa.pd a0.ak))<|bE h fun x5 hx5 h => cD (bz hx5)<|sV (.ptr 32 3)<|sV (.d (aa.pd a0.ae))<|bE h fun x6 hx6 h => cD (bz hx6)<|sV (.ptr 48 0)<|sV (.d (aa.pd a1.ak))<|bE h fun x7 hx7 h => ?_
 refine cD (bz hx7)<|sV (.ptr 48 3)<|sV (.d (aa.pd a1.ae))<|bE h fun x8 hx8 h => cD (bz hx8)<|sB (.ptr 80 0) 80 (.var [r0, r0, r0])<|sB (.ptr 96 0) 96 (.var [r0, r0, r0])<|sB (.ptr 112 0) 112 (.var [r0, r0, r0])<|sB (.ptr 128 0) 128 (.var [r0, r0, r0])<|sS 80 (.var [rI x5.a0, rI x5.a1, rI x5.a2])<|sS 96 (.var [rI x6.a0, rI x6.a1, rI x6.a2])<|sS 112 (.var [rI x7.a0, rI x7.a1, rI x7.a2])<|sS 128 (.var [rI x8.a0, rI x8.a1, rI x8.a2]) ?_
 refine sN<|sO<|qS<|gS rfl rfl<|sV (r0)<|sN<|WC.block (WC.loop ?_)
 refine WL.round<|WC.pn (R0 := [(4, .ptr 64 0), (5, .ptr 80 0), (6, .ptr 96 0), (7, .ptr 112 0), (8, .ptr 128 0), (31, r0)]) (B0 := [(64, .var zZ3), (80, .var [rI x5.a0, rI x5.a1, rI x5.a2]), (96, .var [rI x6.a0, rI x6.a1, rI x6.a2]), (112, .var [rI x7.a0, rI x7.a1, rI x7.a2]), (128, .var [rI x8.a0, rI x8.a1, rI x8.a2])]) rfl rfl<|sT<|sN<|qS<|cT<|qK<|qS<|qB<|gS rfl rfl<|sM rfl<|sA rfl<|sN<|WC.pQ rfl rfl<|sM rfl ?_
 refine sM rfl<|sM rfl<|sV (.ptr 80 0)<|sL rfl<|sM rfl<|sV (.ptr 112 0)<|sL rfl<|sV (rI (if x7.a0 < x5.a0 then x7.a0 else x5.a0))<|sM rfl<|sV (.ptr 96 0)<|sL rfl<|sM rfl<|sV (.ptr 128 0)<|sL rfl<|sV (rI (if x8.a0 > x6.a0 then x8.a0 else x6.a0)) ?_
 refine sV (.ptr 80 0)<|sS 80 (.var [rI (if x7.a0 < x5.a0 then x7.a0 else x5.a0), rI x5.a1, rI x5.a2])<|sV (.ptr 96 0)<|sS 96 (.var [rI (if x8.a0 > x6.a0 then x8.a0 else x6.a0), rI x6.a1, rI x6.a2]) ?_
 refine sN<|sO<|WC.region rfl rfl<|sV (rI 1)<|sM rfl<|sN<|WL.round<|WC.pn (R0 := [(4, .ptr 64 0), (5, .ptr 80 0), (6, .ptr 96 0), (7, .ptr 112 0), (8, .ptr 128 0), (31, rI 1)]) (B0 := [(64, .var zZ3), (80, .var [rI (if x7.a0 < x5.a0 then x7.a0 else x5.a0), rI x5.a1, rI x5.a2]), (96, .var [rI (if x8.a0 > x6.a0 then x8.a0 else x6.a0), rI x6.a1, rI x6.a2]), (112, .var [rI x7.a0, rI x7.a1, rI x7.a2]), (128, .var [rI x8.a0, rI x8.a1, rI x8.a2])]) rfl rfl<|sT<|sN<|qS<|cT<|qK<|qS<|qB<|gS rfl rfl ?_
 refine sM rfl<|sA rfl<|sN<|WC.pQ rfl rfl<|sM rfl<|sM rfl<|sM rfl<|sV (.ptr 80 1)<|sL rfl<|sM rfl<|sV (.ptr 112 1)<|sL rfl<|sV (rI (if x7.a1 < x5.a1 then x7.a1 else x5.a1))<|sM rfl<|sV (.ptr 96 1) ?_
 refine sL rfl<|sM rfl<|sV (.ptr 128 1)<|sL rfl<|sV (rI (if x8.a1 > x6.a1 then x8.a1 else x6.a1))<|sV (.ptr 80 1)<|sS 80 (.var [rI (if x7.a0 < x5.a0 then x7.a0 else x5.a0), rI (if x7.a1 < x5.a1 then x7.a1 else x5.a1), rI x5.a2])<|sV (.ptr 96 1)<|sS 96 (.var [rI (if x8.a0 > x6.a0 then x8.a0 else x6.a0), rI (if x8.a1 > x6.a1 then x8.a1 else x6.a1), rI x6.a2]) ?_
 refine sN<|sO<|WC.region rfl rfl<|sV (rI 2)<|sM rfl<|sN<|WL.round<|WC.pn (R0 := [(4, .ptr 64 0), (5, .ptr 80 0), (6, .ptr 96 0), (7, .ptr 112 0), (8, .ptr 128 0), (31, rI 2)]) (B0 := [(64, .var zZ3), (80, .var [rI (if x7.a0 < x5.a0 then x7.a0 else x5.a0), rI (if x7.a1 < x5.a1 then x7.a1 else x5.a1), rI x5.a2]), (96, .var [rI (if x8.a0 > x6.a0 then x8.a0 else x6.a0), rI (if x8.a1 > x6.a1 then x8.a1 else x6.a1), rI x6.a2]), (112, .var [rI x7.a0, rI x7.a1, rI x7.a2]), (128, .var [rI x8.a0, rI x8.a1, rI x8.a2])]) rfl rfl<|sT<|sN<|qS<|cT<|qK<|qS<|qB<|gS rfl rfl ?_
 refine sM rfl<|sA rfl<|sN<|WC.pQ rfl rfl<|sM rfl<|sM rfl<|sM rfl<|sV (.ptr 80 2)<|sL rfl<|sM rfl<|sV (.ptr 112 2)<|sL rfl<|sV (rI (if x7.a2 < x5.a2 then x7.a2 else x5.a2))<|sM rfl<|sV (.ptr 96 2) ?_
 refine sL rfl<|sM rfl<|sV (.ptr 128 2)<|sL rfl<|sV (rI (if x8.a2 > x6.a2 then x8.a2 else x6.a2))<|sV (.ptr 80 2)<|sS 80 (.var [rI (if x7.a0 < x5.a0 then x7.a0 else x5.a0), rI (if x7.a1 < x5.a1 then x7.a1 else x5.a1), rI (if x7.a2 < x5.a2 then x7.a2 else x5.a2)])<|sV (.ptr 96 2)<|sS 96 (.var [rI (if x8.a0 > x6.a0 then x8.a0 else x6.a0), rI (if x8.a1 > x6.a1 then x8.a1 else x6.a1), rI (if x8.a2 > x6.a2 then x8.a2 else x6.a2)]) ?_
 refine sN<|sO<|WC.region rfl rfl<|sV (rI 3)<|sM rfl<|sN<|WL.round<|WC.pn (R0 := [(4, .ptr 64 0), (5, .ptr 80 0), (6, .ptr 96 0), (7, .ptr 112 0), (8, .ptr 128 0), (31, rI 3)]) (B0 := [(64, .var zZ3), (80, .var [rI (if x7.a0 < x5.a0 then x7.a0 else x5.a0), rI (if x7.a1 < x5.a1 then x7.a1 else x5.a1), rI (if x7.a2 < x5.a2 then x7.a2 else x5.a2)]), (96, .var [rI (if x8.a0 > x6.a0 then x8.a0 else x6.a0), rI (if x8.a1 > x6.a1 then x8.a1 else x6.a1), rI (if x8.a2 > x6.a2 then x8.a2 else x6.a2)]), (112, .var [rI x7.a0, rI x7.a1, rI x7.a2]), (128, .var [rI x8.a0, rI x8.a1, rI x8.a2])]) rfl rfl<|sU<|sN<|qS<|cF<|qX<|qE<|WC.cI rfl rfl<|sV (.d (aW.pd (aW.mk (if x7.a0 < x5.a0 then x7.a0 else x5.a0) (if x7.a1 < x5.a1 then x7.a1 else x5.a1) (if x7.a2 < x5.a2 then x7.a2 else x5.a2)))) ?_
 refine bE h fun x9 hx9 h => cD (bH hx9)<|sV (.d (aW.pd (aW.mk (if x8.a0 > x6.a0 then x8.a0 else x6.a0) (if x8.a1 > x6.a1 then x8.a1 else x6.a1) (if x8.a2 > x6.a2 then x8.a2 else x6.a2))))<|bE h fun x10 hx10 h => cD (bH hx10)<|sG (.d (ai.pd (ai.mk x9 x10)))<|sH 64 (.var [rI x9.fX, rI x9.fY, rI x9.fZ, rI x10.fX, rI x10.fY, rI x10.fZ]) ?_
 refine sN<|sO<|qR ?_
 cases oI h
 exact qG
theorem locate_Locate_ev {a0 : aw} {a1 : Int} {r : aF × Int} (h : gK a0 a1 = some r) : EvP prog aI ext 26 [.d (aw.pd a0), rI a1] [] (.tup [.d (aF.pd r.1), rI r.2], []) := by
 refine Ev.body rfl Tryz.func26 rfl (by kernel_rfl)<|gS rfl rfl<|sB (.ptr 32 0) 32 (.var (aw.rc a0))<|sB (.ptr 64 0) 64 (.var zZ1)<|sV (r0)<|sN<|gS rfl rfl<|sV (.d (aw.pd a0))<|sM rfl<|bE h fun x1 hx1 h => opt_elim h (fun hox1 h => ?_) (fun y2 hox1 h => ?_)
 ·refine cR (.tup [.d (.raw (.pointer none)), rI x1.2]) [] (locate_run_evN hx1 hox1)<|sM rfl<|sV (.d (.raw (.pointer none)))<|sV (rI x1.2)<|sA rfl<|sA rfl<|sN<|qS<|gS rfl rfl<|sM rfl<|sF h (fun h => ?_) fun h => ?_
  ·refine sN<|cT<|gS rfl rfl<|sG (.d (aF.pd (aF.mk (aa.mk 0 0 0) 0 0 0 (ai.mk (aa.mk 0 0 0) (aa.mk 0 0 0)))))<|sM rfl<|sH 64 (.var zZ1)<|sA rfl<|sN<|qR ?_
   cases oI h
   exact qG
  refine sN<|cF<|qK<|gS rfl rfl<|sM rfl ?_
  cases h
 refine cR (.tup [.ptr 224 0, rI x1.2]) [(224, .var (bD.rc y2))] (locate_run_evS hx1 hox1)<|sM rfl<|sV (.ptr 224 0)<|sV (rI x1.2)<|sA rfl<|sA rfl<|sN<|qS<|gS rfl rfl<|sM rfl<|sF h (fun h => ?_) fun h => ?_
 ·refine sN<|cT<|gS rfl rfl<|sG (.d (aF.pd (aF.mk (aa.mk 0 0 0) 0 0 0 (ai.mk (aa.mk 0 0 0) (aa.mk 0 0 0)))))<|sM rfl<|sH 64 (.var zZ1)<|sA rfl<|sN<|qR ?_
  cases oI h
  exact qG
 refine sN<|cF<|qK<|gS rfl rfl<|sM rfl<|sV (.ptr 224 0)<|sV (.ptr 224 15)<|sV (.d (aF.pd y2.br))<|sB (.ptr 128 0) 128 (.var zZ1)<|sH 128 (.var (aF.rc y2.br))<|sN<|gS rfl rfl<|sV (.ptr 128 4)<|sL rfl<|sV (.ptr 128 0) ?_
 refine sV (.d (aa.pd y2.br.aD))<|sV (.ptr 128 0)<|sV (.d (aa.pd y2.br.aD))<|sG (.d (ai.pd (ai.mk y2.br.aD y2.br.aD)))<|sV (.ptr 128 5)<|sS 128 (.var [rI y2.br.aD.fX, rI y2.br.aD.fY, rI y2.br.aD.fZ, rI y2.br.a8, rI y2.br.aT, rI y2.br.aT, rI y2.br.au.ak.fX, rI y2.br.au.ak.fY, rI y2.br.au.ak.fZ, rI y2.br.au.ae.fX, rI y2.br.au.ae.fY, rI y2.br.au.ae.fZ])<|sV (.ptr 128 6)<|sH 128 (.var [rI y2.br.aD.fX, rI y2.br.aD.fY, rI y2.br.aD.fZ, rI y2.br.a8, rI y2.br.aT, rI y2.br.aT, rI y2.br.aD.fX, rI y2.br.aD.fY, rI y2.br.aD.fZ, rI y2.br.aD.fX, rI y2.br.aD.fY, rI y2.br.aD.fZ])<|sN<|qS<|gS rfl rfl<|sM rfl<|sV (.ptr 224 0)<|sV (.ptr 224 11)<|sL rfl ?_
 refine sE (rI (y2.mC.length : Int)) (oQ _ _)<|sV (r0)<|sN<|bE h fun o16 ho16 h => WC.block (WC.loop (WL.oW ho16 (fun s R' B' => lC prog 0 (A R' B') (aI.at_ 26 0 7) = some (A [(4, .ptr 64 0), (8, .ptr 128 0), (37, .d (.lst (y2.mC.map ah.pd))), (38, rI (y2.mC.length : Int)), (39, rI s.1)] [(64, .var zZ1), (128, .var [rI y2.br.aD.fX, rI y2.br.aD.fY, rI y2.br.aD.fZ, rI y2.br.a8, rI y2.br.aT, rI s.2.1, rI s.2.2.ak.fX, rI s.2.2.ak.fY, rI s.2.2.ak.fZ, rI s.2.2.ae.fX, rI s.2.2.ae.fY, rI s.2.2.ae.fZ])])) (fun o e R' B' => e = .exit 0 ∧ lC prog 0 (A R' B') (aI.at_ 26 0 13) = some (A [(4, .ptr 64 0), (8, .ptr 128 0)] [(64, .var zZ1), (128, .var [rI y2.br.aD.fX, rI y2.br.aD.fY, rI y2.br.aD.fZ, rI y2.br.a8, rI y2.br.aT, rI o.1, rI o.2.ak.fX, rI o.2.ak.fY, rI o.2.ak.fZ, rI o.2.ae.fX, rI o.2.ae.fY, rI o.2.ae.fZ])])) rfl ?_ ?_))
 ·rintro ⟨s5, s6, s7⟩ R' B' q10 hI h
  refine gS rfl hI<|sF h (fun h => ?_) fun h => ?_
  ·refine sN<|qS<|cT<|qK<|qS<|qB<|gS rfl rfl<|bE h fun x12 hx12 h => eG hx12 rfl<|sV (.d (ah.pd x12))<|sB (.ptr 160 0) 160 (.var [r0, r0, r0, r0, r0, r0, r0, r0])<|sH 160 (.var (ah.rc x12))<|sN<|gS rfl rfl<|sV (.ptr 128 5) ?_
   refine sL rfl<|sV (.ptr 160 6)<|sL rfl<|sV (rI (if x12.dt < s6 then x12.dt else s6))<|sV (.ptr 128 5)<|sS 128 (.var [rI y2.br.aD.fX, rI y2.br.aD.fY, rI y2.br.aD.fZ, rI y2.br.a8, rI y2.br.aT, rI (if x12.dt < s6 then x12.dt else s6), rI s7.ak.fX, rI s7.ak.fY, rI s7.ak.fZ, rI s7.ae.fX, rI s7.ae.fY, rI s7.ae.fZ])<|sN<|gS rfl rfl<|sV (.ptr 160 6)<|sL rfl<|sV (.ptr 128 4)<|sL rfl<|sF h (fun h => ?_) fun h => ?_
   ·refine sN<|cT<|WC.region rfl rfl<|sV (.ptr 128 6)<|sV (.d (ai.pd s7))<|sV (.ptr 160 0)<|sV (.d (ai.pd x12.jZ))<|bE h fun x14 hx14 h => cD (geometry_Hull_ev hx14)<|sV (.ptr 128 6)<|sH 128 (.var [rI y2.br.aD.fX, rI y2.br.aD.fY, rI y2.br.aD.fZ, rI y2.br.a8, rI y2.br.aT, rI (if x12.dt < s6 then x12.dt else s6), rI x14.ak.fX, rI x14.ak.fY, rI x14.ak.fZ, rI x14.ae.fX, rI x14.ae.fY, rI x14.ae.fZ])<|sN<|WC.region rfl rfl<|sV (rI (rW (s5 + (1 : Int))))<|sM rfl ?_
    refine sN ?_
    cases oI h
    exact ⟨rfl, rfl⟩
   refine sN<|cF<|qK<|WC.region rfl rfl<|sV (rI (rW (s5 + (1 : Int))))<|sM rfl<|sN ?_
   cases oI h
   exact ⟨rfl, rfl⟩
  refine sN<|qS<|cF<|qX ?_
  cases oI h
  exact ⟨nofun, rfl, rfl⟩
 intro e R' B' he hq
 obtain ⟨rfl, hI⟩ := hq
 refine qE<|gS rfl hI<|sV (.d (aF.pd (aF.mk y2.br.aD y2.br.a8 y2.br.aT o16.1 (ai.mk (aa.mk o16.2.ak.fX o16.2.ak.fY o16.2.ak.fZ) (aa.mk o16.2.ae.fX o16.2.ae.fY o16.2.ae.fZ)))))<|sH 64 (.var [rI y2.br.aD.fX, rI y2.br.aD.fY, rI y2.br.aD.fZ, rI y2.br.a8, rI y2.br.aT, rI o16.1, rI o16.2.ak.fX, rI o16.2.ak.fY, rI o16.2.ak.fZ, rI o16.2.ae.fX, rI o16.2.ae.fY, rI o16.2.ae.fZ])<|sV (r0)<|sN<|qR ?_
 cases oI h
 exact qG
theorem nat_From_ev {a0 : Int} {r : (List Int) × Int} (h : oD a0 = some r) : EvP prog aI ext 181 [rI a0] [] (.tup [.d (.lst (r.1.map (PD.int .i64))), rI r.2], []) := by
 refine Ev.body rfl Tryz.func181 rfl (by kernel_rfl)<|gS rfl rfl<|sV .hY<|sV (r0)<|sN<|qS<|gS rfl rfl<|sM rfl<|sF h (fun h => ?_) fun h => ?_
 ·refine sN<|cT<|gS rfl rfl<|sV .hY<|sV (rI 2)<|sN<|qR ?_
  exact oI h▸qD
 refine sN<|cF<|qK<|gS rfl rfl<|sV .hY<|sN<|qS<|bE h fun o10 ho10 h => WC.block (WC.loop (WL.oW ho10 (fun s R' B' => lC prog 0 (A R' B') (aI.at_ 181 0 4) = some (A [(0, rI s.1), (4, .ref 240 0)] [(240, .arr 0 3 (s.2.map (PD.int .i64)))])) (fun o e R' B' => e = .exit 0 ∧ lC prog 0 (A R' B') (aI.at_ 181 0 7) = some (A [(4, .ref 240 0)] [(240, .arr 0 3 (o.map (PD.int .i64)))])) rfl ?_ ?_))
 ·rintro ⟨s2, s3⟩ R' B' q5 hI h
  refine qS<|gS rfl hI<|sM rfl<|sF h (fun h => ?_) fun h => ?_
  ·refine sN<|cT<|qK<|qS<|qB<|WC.region rfl rfl<|sM rfl<|sM rfl<|bE h fun x7 hx7 h => WO.remG hx7 rfl rfl rfl rfl rfl rfl<|sV (.d (.lst ([x7].map (PD.int .i64))))<|bE h fun x8 hx8 h => aR hx8 (fun _ => rfl) rfl<|sA rfl<|sN ?_
   refine WC.region rfl rfl<|sM rfl<|sV (rI (pe .i64 s2 (30 : Int)))<|sA rfl<|sN ?_
   cases oI h
   exact ⟨rfl, rfl⟩
  refine sN<|cF<|qX ?_
  cases oI h
  exact ⟨nofun, rfl, rfl⟩
 intro e R' B' he hq
 obtain ⟨rfl, hI⟩ := hq
 refine qE<|gS rfl hI<|sM rfl<|sA rfl<|sV (r0)<|sN<|qR ?_
 exact oI h▸qD
theorem k8 {a0 : Int} {r : Bool} (h : kH a0 = some r) : EvP prog aI ext 171 [rI a0] [] (rB r, []) := by
 refine Ev.body rfl Tryz.func171 rfl (by kernel_rfl)<|gS rfl rfl<|sU<|sN<|gS rfl rfl<|sM rfl<|sF h (fun h => ?_) fun h => ?_
 ·refine sM rfl<|sK<|sK<|sT<|sA rfl<|sN<|qR ?_
  exact oI h▸qD
 refine sM rfl<|sM rfl<|sV (rB (decide (a0 ≥ (1073741824 : Int))))<|sV (rB (decide (a0 ≥ (1073741824 : Int))))<|sA rfl<|sN<|qR ?_
 exact oI h▸qD
theorem jy {a0 : (List Int)} {r : Int} (h : eh a0 = some r) : EvP prog aI ext 186 [.d (.lst (a0.map (PD.int .i64))), .d (.raw (.func (.func 171) #[] #[]))] [] (rI r, []) := by
 refine Ev.body rfl Tryz.func186 rfl (by kernel_rfl)<|gS rfl rfl<|sV (r0)<|sN<|qS<|gS rfl rfl<|sM rfl<|sE (rI (a0.length : Int)) (oQ _ _)<|sV (r0)<|sN<|bE h fun o8 ho8 h => WC.block (WC.loop (WL.oW ho8 (fun s R' B' => lC prog 0 (A R' B') (aI.at_ 186 0 2) = some (A [(0, .d (.lst (a0.map (PD.int .i64)))), (1, .d (.raw (.func (.func 171) #[] #[]))), (7, rI (a0.length : Int)), (8, rI s)] [])) (fun o e R' B' => match o with | .inl y => e = .exit 0 ∧ lC prog 0 (A R' B') (aI.at_ 186 0 7) = some (A [] []) | .inr r => e = .ret ∧ finish prog (aI.own 186) Tryz.f186 0 (A R' B') = some (rI r, [])) rfl ?_ ?_))
 ·rintro s1 R' B' q2 hI h
  refine gS rfl hI<|sF h (fun h => ?_) fun h => ?_
  ·refine sN<|qS<|cT<|qK<|qS<|qB<|gS rfl rfl<|sM rfl<|sA rfl<|sN<|gS rfl rfl<|sM rfl<|sM rfl<|sM rfl<|bE h fun x4 hx4 h => ?_
   refine eG hx4 rfl<|sC rfl<|bE h fun x5 hx5 h => py h (fun hb6 h => ?_) (fun hb6 h => ?_)
   ·refine WO.pP (v := rB true) (u := []) rfl rfl (fun _ => rfl) rfl rfl rfl rfl rfl (k8 hx5) rfl rfl (congrArg (fun b => RV.d (.bool b)) hb6) rfl<|sN<|cT<|gS rfl rfl<|sM rfl<|sA rfl<|sN<|qR ?_
    cases oI h
    exact ⟨nofun, rfl, rfl⟩
   refine WO.pP (v := rB false) (u := []) rfl rfl (fun _ => rfl) rfl rfl rfl rfl rfl (k8 hx5) rfl rfl (congrArg (fun b => RV.d (.bool b)) hb6) rfl<|sN<|cF<|qK<|WC.region rfl rfl<|sV (rI (rW (s1 + (1 : Int))))<|sM rfl<|sN ?_
   cases oI h
   exact ⟨rfl, rfl⟩
  refine sN<|qS<|cF<|qX ?_
  cases oI h
  exact ⟨nofun, rfl, rfl⟩
 intro e R' B' he hq
 rcases o8 with y9 | r10
 ·obtain ⟨rfl, hI⟩ := hq
  refine qE<|gS rfl hI<|sV (rI (-1))<|sN<|qR ?_
  exact oI h▸qD
 obtain ⟨rfl, hf⟩ := hq
 cases oI h
 exact hf
theorem eL {a0 : (List Int)} {r : Bool} (h : bV a0 = some r) : EvP prog aI ext 170 [.d (.lst (a0.map (PD.int .i64))), .d (.raw (.func (.func 171) #[] #[]))] [] (rB r, []) := by
 refine Ev.body rfl Tryz.func170 rfl (by kernel_rfl)<|gS rfl rfl<|sU<|sN<|gS rfl rfl<|sM rfl<|sM rfl<|bE h fun x1 hx1 h => cD (jy hx1)<|sV (rB (decide (x1 ≥ (0 : Int))))<|sA rfl<|sN<|qR ?_
 exact oI h▸qD
theorem fA {a0 : (List Int)} {r : Bool} (h : ig a0 = some r) : EvP prog aI ext 137 [.d (.lst (a0.map (PD.int .i64)))] [] (rB r, []) := by
 refine Ev.body rfl Tryz.func137 rfl (by kernel_rfl)<|gS rfl rfl<|sU<|sN<|qS<|gS rfl rfl<|sM rfl<|sE (rI (a0.length : Int)) (oQ _ _)<|sF h (fun h => ?_) fun h => ?_
 ·refine sM rfl<|k3<|k3<|k3<|k3<|sT<|sN ?_
  refine cT<|gS rfl rfl<|sU<|sN<|qR ?_
  exact oI h▸qD
 refine sM rfl<|sM rfl<|sE (rI (a0.length : Int)) (oQ _ _)<|sF h (fun h => ?_) fun h => ?_
 ·refine sM rfl<|sM rfl<|sM rfl<|sE (rI (a0.length : Int)) (oQ _ _)<|sV (rI (rW ((a0.length : Int) - (1 : Int))))<|bE h fun x3 hx3 h => eG hx3 rfl<|sC rfl<|sV (rB (x3 == (0 : Int)))<|sV (rB (x3 == (0 : Int)))<|sF h (fun h => ?_) fun h => ?_
  ·refine sN<|cT<|gS rfl rfl<|sU<|sN<|qR ?_
   exact oI h▸qD
  refine sN<|cF<|qK<|gS rfl rfl<|sM rfl<|bE h fun x5 hx5 h => cD (eL hx5)<|sV (rB (!x5))<|sA rfl<|sN<|qR ?_
  exact oI h▸qD
 refine sM rfl<|k3<|k3<|sK<|sU<|sU<|sN<|cF<|qK<|gS rfl rfl<|sM rfl ?_
 refine bE h fun x6 hx6 h => cD (eL hx6)<|sV (rB (!x6))<|sA rfl<|sN<|qR ?_
 exact oI h▸qD
theorem nat_both_ev {a0 : (List Int)} {a1 : (List Int)} {r : Bool} (h : mS a0 a1 = some r) : EvP prog aI ext 190 [.d (.lst (a0.map (PD.int .i64))), .d (.lst (a1.map (PD.int .i64)))] [] (rB r, []) := by
 refine Ev.body rfl Tryz.func190 rfl (by kernel_rfl)<|gS rfl rfl<|sU<|sN<|gS rfl rfl<|sM rfl<|bE h fun x1 hx1 h => py h (fun hb2 h => ?_) (fun hb2 h => ?_)
 ·refine WO.pP (v := rB true) (u := []) rfl rfl (fun _ => rfl) rfl rfl rfl rfl rfl (fA hx1) rfl rfl (congrArg (fun b => RV.d (.bool b)) hb2) rfl<|sM rfl<|sM rfl<|bE h fun x3 hx3 h => cD (fA hx3)<|sV (rB x3)<|sA rfl<|sN<|qR ?_
  exact oI h▸qD
 refine WO.pP (v := rB false) (u := []) rfl rfl (fun _ => rfl) rfl rfl rfl rfl rfl (fA hx1) rfl rfl (congrArg (fun b => RV.d (.bool b)) hb2) rfl<|sM rfl<|sK<|sK<|sU<|sA rfl<|sN<|qR ?_
 exact oI h▸qD
theorem lW {a0 : (List Int)} {a1 : Int} {r : Int} (h : kd a0 a1 = some r) : EvP prog aI ext 185 [.d (.lst (a0.map (PD.int .i64))), rI a1] [] (rI r, []) := by
 refine Ev.body rfl Tryz.func185 rfl (by kernel_rfl)<|gS rfl rfl<|sV (r0)<|sN<|qS<|gS rfl rfl<|sM rfl<|sM rfl<|sE (rI (a0.length : Int)) (oQ _ _)<|sF h (fun h => ?_) fun h => ?_
 ·refine sN<|cT<|gS rfl rfl<|sV (r0)<|sN<|qR ?_
  exact oI h▸qD
 refine sN<|cF<|qK<|gS rfl rfl<|sM rfl<|sM rfl<|bE h fun x2 hx2 h => eG hx2 rfl<|sC rfl<|sA rfl<|sN<|qR ?_
 exact oI h▸qD
theorem nat_trim_ev {a0 : (List Int)} {r : (List Int)} (h : mT a0 = some r) : EvP prog aI ext 184 [.d (.lst (a0.map (PD.int .i64)))] [] (.d (.lst (r.map (PD.int .i64))), []) := by
 refine Ev.body rfl Tryz.func184 rfl (by kernel_rfl)<|gS rfl rfl<|sV .hY<|sN<|qS<|bE h fun o9 ho9 h => WC.block (WC.loop (WL.oW ho9 (fun s R' B' => lC prog 0 (A R' B') (aI.at_ 184 0 1) = some (A [(0, .d (.lst (s.map (PD.int .i64))))] [])) (fun o e R' B' => e = .exit 0 ∧ lC prog 0 (A R' B') (aI.at_ 184 0 3) = some (A [(0, .d (.lst (o.map (PD.int .i64))))] [])) rfl ?_ ?_))
 ·rintro s1 R' B' q3 hI h
  refine qS<|gS rfl hI<|sM rfl<|sE (rI (s1.length : Int)) (oQ _ _)<|sF h (fun h => ?_) fun h => ?_
  ·refine sM rfl<|sM rfl<|sM rfl<|sE (rI (s1.length : Int)) (oQ _ _)<|sV (rI (rW ((s1.length : Int) - (1 : Int))))<|bE h fun x5 hx5 h => eG hx5 rfl<|sC rfl<|sV (rB (x5 == (0 : Int)))<|sF h (fun h => ?_) fun h => ?_
   ·refine sN<|cT<|qK<|qB<|WC.region rfl rfl<|sM rfl<|sM rfl<|sE (rI (s1.length : Int)) (oQ _ _)<|sV (rI (rW ((s1.length : Int) - (1 : Int))))<|bE h fun x7 hx7 h => WO.cutL (sz := 1) (g := (PD.int .i64)) hx7 (fun _ => rfl) rfl rfl rfl rfl rfl rfl rfl rfl rfl rfl rfl<|sA rfl<|sN ?_
    cases oI h
    exact ⟨rfl, rfl⟩
   refine sN<|cF<|qX ?_
   cases oI h
   exact ⟨nofun, rfl, rfl⟩
  refine sM rfl<|k3<|k3<|sK<|sU<|sN<|cF<|qX ?_
  cases oI h
  exact ⟨nofun, rfl, rfl⟩
 intro e R' B' he hq
 obtain ⟨rfl, hI⟩ := hq
 refine qE<|gS rfl hI<|sM rfl<|sA rfl<|sN<|qR ?_
 exact oI h▸qD
theorem jL {a0 : (List Int)} {a1 : (List Int)} {r : (List Int)} (h : gx a0 a1 = some r) : EvP prog aI ext 169 [.d (.lst (a0.map (PD.int .i64))), .d (.lst (a1.map (PD.int .i64)))] [] (.d (.lst (r.map (PD.int .i64))), []) := by
 refine Ev.body rfl Tryz.func169 rfl (by kernel_rfl)<|gS rfl rfl<|sV .hY<|sN<|gS rfl rfl<|sM rfl<|sE (rI (a0.length : Int)) (oQ _ _)<|sM rfl<|sE (rI (a1.length : Int)) (oQ _ _)<|sV (rI (rW ((a0.length : Int) + (a1.length : Int))))<|bE h fun x1 hx1 h => WO.mkS (g := (PD.int .i64)) hx1 rfl rfl rfl rfl rfl rfl rfl rfl rfl rfl rfl<|sA rfl<|sN<|qS ?_
 refine gS rfl rfl<|sM rfl<|sE (rI (a0.length : Int)) (oQ _ _)<|sV (r0)<|sN<|bE h fun o27 ho27 h => WC.block (WC.loop (WL.oW ho27 (fun s R' B' => lC prog 0 (A R' B') (aI.at_ 169 0 3) = some (A [(1, .d (.lst (a1.map (PD.int .i64)))), (5, .ref 240 0), (16, .d (.lst (a0.map (PD.int .i64)))), (17, rI (a0.length : Int)), (18, rI s.1)] [(240, .arr 0 3 (s.2.map (PD.int .i64)))])) (fun o e R' B' => e = .exit 0 ∧ lC prog 0 (A R' B') (aI.at_ 169 0 15) = some (A [(5, .ref 240 0)] [(240, .arr 0 3 (o.map (PD.int .i64)))])) rfl ?_ ?_))
 ·rintro ⟨s2, s3⟩ R' B' q5 hI h
  refine gS rfl hI<|sF h (fun h => ?_) fun h => ?_
  ·refine sN<|qS<|cT<|qK<|qS<|qB<|gS rfl rfl<|sM rfl<|bE h fun x7 hx7 h => eG hx7 rfl<|sC rfl<|sA rfl<|sA rfl<|sN<|gS rfl rfl ?_
   refine sV (r0)<|sN<|gS rfl rfl<|sM rfl<|sE (rI (a1.length : Int)) (oQ _ _)<|sV (rI (rW ((a1.length : Int) + (1 : Int))))<|sV (r0)<|sN<|bE h fun o25 ho25 h => WC.block (WC.loop (WL.oW ho25 (fun s R' B' => lC prog 0 (A R' B') (aI.at_ 169 0 7) = some (A [(1, .d (.lst (a1.map (PD.int .i64)))), (5, .ref 240 0), (6, rI s2), (7, rI x7), (8, rI s.1), (16, .d (.lst (a0.map (PD.int .i64)))), (17, rI (a0.length : Int)), (18, rI s2), (25, rI (rW ((a1.length : Int) + (1 : Int)))), (26, rI s.2.1)] [(240, .arr 0 3 (s.2.2.map (PD.int .i64)))])) (fun o e R' B' => e = .exit 2 ∧ lC prog 0 (A R' B') (aI.at_ 169 0 14) = some (A [(1, .d (.lst (a1.map (PD.int .i64)))), (5, .ref 240 0), (16, .d (.lst (a0.map (PD.int .i64)))), (17, rI (a0.length : Int)), (18, rI o.1)] [(240, .arr 0 3 (o.2.map (PD.int .i64)))])) rfl ?_ ?_))
   ·rintro ⟨s8, s9, s10⟩ R' B' q13 hI h
    refine gS rfl hI<|sF h (fun h => ?_) fun h => ?_
    ·refine sN<|qS<|cT<|qK<|qS<|qB<|gS rfl rfl<|sM rfl<|sA rfl<|sN<|gS rfl rfl<|sM rfl<|sM rfl<|sV (rI (rW (s2 + s9)))<|sM rfl ?_
     refine WO.vR rfl rfl rfl rfl rfl rfl rfl rfl rfl<|sF h (fun h => ?_) fun h => ?_
     ·refine sN<|cT<|WC.cI rfl rfl<|sM rfl<|sM rfl<|sM rfl<|sM rfl<|sV (rI (rW (s2 + s9)))<|bE h fun x17 hx17 h => WO.qo hx17 rfl rfl rfl rfl rfl rfl rfl rfl<|bE h fun x18 hx18 h => WO.p7 hx18 rfl rfl rfl rfl rfl rfl<|sM rfl<|sM rfl<|sM rfl ?_
      refine bE h fun x19 hx19 h => cD (lW hx19)<|sV (rI (rW (x7 * x19)))<|sV (rI (rW (x18 + (rW (x7 * x19)))))<|sV (rI (rW (s8 + (rW (x18 + (rW (x7 * x19)))))))<|sA rfl ?_
      refine sN<|sO<|gS rfl rfl<|sM rfl<|sM rfl<|sM rfl<|sV (rI (rW (s2 + s9)))<|sM rfl<|bE h fun x20 hx20 h => WO.remG hx20 rfl rfl rfl rfl rfl rfl<|bE h fun x22 hx22 h => WO.qo hx22 rfl rfl rfl rfl rfl rfl rfl rfl<|bE h fun x23 hx23 h => WO.tV (g := (PD.int .i64)) (sz := 1) (p := .int .i64 x20) hx23 (fun _ => rfl) (fun _ => rfl) rfl rfl rfl rfl rfl rfl rfl rfl rfl<|sN<|WC.region rfl rfl ?_
      refine sM rfl<|sV (rI (pe .i64 (rW (s8 + (rW (x18 + (rW (x7 * x19)))))) (30 : Int)))<|sA rfl<|sN<|WC.region rfl rfl<|sV (rI (rW (s9 + (1 : Int))))<|sM rfl<|sN ?_
      cases oI h
      exact ⟨rfl, rfl⟩
     refine sN<|cF<|qK<|WC.region rfl rfl<|sV (rI (rW (s9 + (1 : Int))))<|sM rfl<|sN ?_
     cases oI h
     exact ⟨rfl, rfl⟩
    refine sN<|qS<|cF<|qX ?_
    cases oI h
    exact ⟨nofun, rfl, rfl⟩
   intro e R' B' he hq
   obtain ⟨rfl, hI⟩ := hq
   refine qE<|WC.region hI rfl<|sV (rI (rW (o25.1 + (1 : Int))))<|sM rfl<|sN ?_
   cases oI h
   exact ⟨rfl, rfl⟩
  refine sN<|qS<|cF<|qX ?_
  cases oI h
  exact ⟨nofun, rfl, rfl⟩
 intro e R' B' he hq
 obtain ⟨rfl, hI⟩ := hq
 refine qE<|gS rfl hI<|sM rfl<|bE h fun x28 hx28 h => cR (.d (.lst (x28.map (PD.int .i64)))) [(240, .dead)] (nat_trim_ev hx28)<|sA rfl<|sN<|qR ?_
 exact oI h▸qD
theorem iD {a0 : (List Int)} {r : (List Int) × Int} (h : ge a0 = some r) : EvP prog aI ext 168 [.d (.lst (a0.map (PD.int .i64)))] [] (.tup [.d (.lst (r.1.map (PD.int .i64))), rI r.2], []) := by
 refine Ev.body rfl Tryz.func168 rfl (by kernel_rfl)<|gS rfl rfl<|sV .hY<|sV (r0)<|sN<|qS<|gS rfl rfl<|sM rfl<|bE h fun x1 hx1 h => cD (nat_trim_ev hx1)<|sA rfl<|sN<|gS rfl rfl<|sM rfl<|sE (rI (x1.length : Int)) (oQ _ _) ?_
 refine sF h (fun h => ?_) fun h => ?_
 ·refine sN<|cT<|gS rfl rfl<|sV .hY<|sV (rI 8)<|sN<|qR ?_
  exact oI h▸qD
 refine sN<|cF<|qK<|gS rfl rfl<|sM rfl<|sA rfl<|sV (r0)<|sN<|qR ?_
 exact oI h▸qD
theorem nat_Mul_ev {a0 : (List Int)} {a1 : (List Int)} {r : (List Int) × Int} (h : nat_Mul a0 a1 = some r) : EvP prog aI ext 182 [.d (.lst (a0.map (PD.int .i64))), .d (.lst (a1.map (PD.int .i64)))] [] (.tup [.d (.lst (r.1.map (PD.int .i64))), rI r.2], []) := by
 refine Ev.body rfl Tryz.func182 rfl (by kernel_rfl)<|gS rfl rfl<|sV .hY<|sV (r0)<|sN<|qS<|gS rfl rfl<|sM rfl<|sM rfl<|bE h fun x1 hx1 h => cD (nat_both_ev hx1)<|sF h (fun h => ?_) fun h => ?_
 ·refine sN<|cT<|gS rfl rfl<|sV .hY<|sV (rI 1)<|sN<|qR ?_
  exact oI h▸qD
 refine sN<|cF<|qK<|gS rfl rfl<|sM rfl<|sM rfl<|bE h fun x3 hx3 h => cD (jL hx3)<|bE h fun x4 hx4 h => cR (.tup [.d (.lst (x4.1.map (PD.int .i64))), rI x4.2]) [] (iD hx4)<|sV (.d (.lst (x4.1.map (PD.int .i64))))<|sV (rI x4.2)<|sA rfl<|sA rfl<|sN ?_
 refine qR ?_
 exact oI h▸qD
theorem dc {a0 : Int} {r : (List Int)} (h : cx a0 = some r) : EvP prog aI ext 164 [rI a0] [] (.d (.lst (r.map (PD.int .i64))), []) := by
 refine Ev.body rfl Tryz.func164 rfl (by kernel_rfl)<|gS rfl rfl<|sV .hY<|sN<|gS rfl rfl<|sM rfl<|sM rfl<|sV (rI (rW (0 - a0)))<|sV (rI (if (rW (0 - a0)) > a0 then (rW (0 - a0)) else a0))<|bE h fun x1 hx1 h => cR (.tup [.d (.lst (x1.1.map (PD.int .i64))), rI x1.2]) [] (nat_From_ev hx1)<|sM rfl<|sV (.d (.lst (x1.1.map (PD.int .i64))))<|sV (rI x1.2)<|sA rfl ?_
 refine sA rfl<|sN<|gS rfl rfl<|sM rfl<|sM rfl<|bE h fun x2 hx2 h => cR (.tup [.d (.lst (x2.1.map (PD.int .i64))), rI x2.2]) [] (nat_Mul_ev hx2)<|sM rfl<|sV (.d (.lst (x2.1.map (PD.int .i64))))<|sV (rI x2.2)<|sA rfl<|sA rfl<|sN<|gS rfl rfl<|sM rfl ?_
 refine sA rfl<|sN<|qR ?_
 exact oI h▸qD
theorem nat_Add_ev {a0 : (List Int)} {a1 : (List Int)} {r : (List Int) × Int} (h : nat_Add a0 a1 = some r) : EvP prog aI ext 183 [.d (.lst (a0.map (PD.int .i64))), .d (.lst (a1.map (PD.int .i64)))] [] (.tup [.d (.lst (r.1.map (PD.int .i64))), rI r.2], []) := by
 refine Ev.body rfl Tryz.func183 rfl (by kernel_rfl)<|gS rfl rfl<|sV .hY<|sV (r0)<|sN<|qS<|gS rfl rfl<|sM rfl<|sM rfl<|bE h fun x1 hx1 h => cD (nat_both_ev hx1)<|sF h (fun h => ?_) fun h => ?_
 ·refine sN<|cT<|gS rfl rfl<|sV .hY<|sV (rI 1)<|sN<|qR ?_
  exact oI h▸qD
 refine sN<|cF<|qK<|gS rfl rfl<|sV .hY<|sN<|gS rfl rfl<|sV (r0)<|sN<|qS<|gS rfl rfl<|sM rfl<|sE (rI (a0.length : Int)) (oQ _ _)<|sM rfl<|sE (rI (a1.length : Int)) (oQ _ _) ?_
 refine sV (rI (if (a1.length : Int) > (a0.length : Int) then (a1.length : Int) else (a0.length : Int)))<|sV (rI (rW ((if (a1.length : Int) > (a0.length : Int) then (a1.length : Int) else (a0.length : Int)) + (1 : Int))))<|sV (r0)<|sN<|bE h fun o14 ho14 h => WC.block (WC.loop (WL.oW ho14 (fun s R' B' => lC prog 0 (A R' B') (aI.at_ 183 0 6) = some (A [(0, .d (.lst (a0.map (PD.int .i64)))), (1, .d (.lst (a1.map (PD.int .i64)))), (6, .ref 560 0), (7, rI s.1), (18, rI (rW ((if (a1.length : Int) > (a0.length : Int) then (a1.length : Int) else (a0.length : Int)) + (1 : Int)))), (19, rI s.2.1)] [(560, .arr 0 3 (s.2.2.map (PD.int .i64)))])) (fun o e R' B' => e = .exit 0 ∧ lC prog 0 (A R' B') (aI.at_ 183 0 12) = some (A [(6, .ref 560 0)] [(560, .arr 0 3 (o.map (PD.int .i64)))])) rfl ?_ ?_))
 ·rintro ⟨s3, s4, s5⟩ R' B' q7 hI h
  refine gS rfl hI<|sF h (fun h => ?_) fun h => ?_
  ·refine sN<|qS<|cT<|qK<|qS<|qB<|gS rfl rfl<|sM rfl<|sA rfl<|sN<|gS rfl rfl<|sM rfl<|sM rfl<|sM rfl<|bE h fun x9 hx9 h => ?_
   refine cD (lW hx9)<|sM rfl<|sM rfl<|bE h fun x10 hx10 h => cD (lW hx10)<|sV (rI (rW (x9 + x10)))<|sV (rI (rW (s3 + (rW (x9 + x10)))))<|sA rfl<|sN<|gS rfl rfl<|sM rfl<|sM rfl<|bE h fun x11 hx11 h => WO.remG hx11 rfl rfl rfl rfl rfl rfl<|sV (.d (.lst ([x11].map (PD.int .i64)))) ?_
   refine bE h fun x12 hx12 h => aR hx12 (fun _ => rfl) rfl<|sA rfl<|sN<|WC.region rfl rfl<|sM rfl<|sV (rI (pe .i64 (rW (s3 + (rW (x9 + x10)))) (30 : Int)))<|sA rfl<|sN<|WC.region rfl rfl<|sV (rI (rW (s4 + (1 : Int))))<|sM rfl<|sN ?_
   cases oI h
   exact ⟨rfl, rfl⟩
  refine sN<|qS<|cF<|qX ?_
  cases oI h
  exact ⟨nofun, rfl, rfl⟩
 intro e R' B' he hq
 obtain ⟨rfl, hI⟩ := hq
 refine qE<|gS rfl hI<|sM rfl<|bE h fun x15 hx15 h => cR (.tup [.d (.lst (x15.1.map (PD.int .i64))), rI x15.2]) [(560, .dead)] (iD hx15)<|sV (.d (.lst (x15.1.map (PD.int .i64))))<|sV (rI x15.2)<|sA rfl<|sA rfl<|sN<|qR ?_
 exact oI h▸qD
theorem jV {a0 : aW} {a1 : Int} {a2 : Int} {r : (List Int)} (h : fd a0 a1 a2 = some r) : EvP prog aI ext 165 [.d (aW.pd a0), rI a1, rI a2] [] (.d (.lst (r.map (PD.int .i64))), []) := by
 refine Ev.body rfl Tryz.func165 rfl (by kernel_rfl)<|gS rfl rfl<|sB (.ptr 48 0) 48 (.var [rI a0.a0, rI a0.a1, rI a0.a2])<|sV .hY<|sN<|WC.cI rfl rfl<|sV (.ptr 48 0)<|sL rfl<|sM rfl<|sV (rI (rW (a0.a0 * a2)))<|sM rfl<|sV (rI (rW ((rW (a0.a0 * a2)) * a2)))<|sV (.ptr 48 2)<|sL rfl<|sM rfl ?_
 refine sV (rI (rW (a0.a2 * a1)))<|sM rfl<|sV (rI (rW ((rW (a0.a2 * a1)) * a1)))<|sV (rI (rW ((rW ((rW (a0.a0 * a2)) * a2)) - (rW ((rW (a0.a2 * a1)) * a1)))))<|bE h fun x1 hx1 h => cD (dc hx1)<|sV (.ptr 48 1)<|sL rfl<|sM rfl<|sV (rI (rW (a0.a1 * a1)))<|sM rfl<|sV (rI (rW ((rW (a0.a1 * a1)) * a2)))<|bE h fun x2 hx2 h => cD (dc hx2)<|bE h fun x3 hx3 h => ?_
 refine cR (.tup [.d (.lst (x3.1.map (PD.int .i64))), rI x3.2]) [] (nat_Add_ev hx3)<|sM rfl<|sV (.d (.lst (x3.1.map (PD.int .i64))))<|sV (rI x3.2)<|sA rfl<|sA rfl ?_
 refine sN<|sO<|gS rfl rfl<|sM rfl<|sA rfl<|sN<|qR ?_
 exact oI h▸qD
theorem response_gain_ev {a0 : aB} {a1 : Int} {a2 : Int} {r : aP × Bool} (h : jn a0 a1 a2 = some r) : EvP prog aI ext 135 [.d (aB.pd a0), rI a1, rI a2] [] (.tup [.d (aP.pd r.1), rB r.2], []) := by
 refine Ev.body rfl Tryz.func135 rfl (by kernel_rfl)<|gS rfl rfl<|sB (.ptr 48 0) 48 (.var (aB.rc a0))<|sB (.ptr 96 0) 96 (.var [.hY, .hY])<|sU<|sN<|qS<|gS rfl rfl<|sV (.ptr 48 0)<|sL rfl<|sN<|qB<|gS rfl rfl<|sF h (fun h => ?_) fun h => ?_
 ·refine sA rfl<|sN<|cT<|WC.cI rfl rfl<|sV (.ptr 48 1)<|sV (.ptr 48 1)<|sL rfl<|bE h fun x2 hx2 h => cD (dc hx2)<|sV (.ptr 48 4)<|sV (.ptr 48 4)<|sL rfl<|bE h fun x3 hx3 h => cD (dc hx3)<|sV (.d (.agg [.lst (x2.map (PD.int .i64)), .lst (x3.map (PD.int .i64))])) ?_
  refine sS 96 (.var [.d (.lst (x2.map (PD.int .i64))), .d (.lst (x3.map (PD.int .i64)))])<|sT ?_
  refine sN<|sO<|qR ?_
  cases oI h
  exact qG
 refine sA rfl<|sN<|cF<|gS rfl rfl<|sF h (fun h => ?_) fun h => ?_
 ·refine sA rfl<|sN<|cT<|WC.cI rfl rfl<|sV (.ptr 48 1)<|sV (.d (aW.pd a0.bj))<|sM rfl<|sM rfl<|bE h fun x5 hx5 h => cD (jV hx5)<|sV (.ptr 48 4)<|sV (.d (aW.pd a0.bh))<|sM rfl<|sM rfl<|bE h fun x6 hx6 h => ?_
  refine cD (jV hx6)<|sV (.d (.agg [.lst (x5.map (PD.int .i64)), .lst (x6.map (PD.int .i64))]))<|sB (.ptr 128 0) 128 (.var [.hY, .hY])<|sS 128 (.var [.d (.lst (x5.map (PD.int .i64))), .d (.lst (x6.map (PD.int .i64)))]) ?_
  refine sN<|sO<|WC.cI rfl rfl<|sV (.d (.agg [.lst (x5.map (PD.int .i64)), .lst (x6.map (PD.int .i64))]))<|sV (.ptr 128 1)<|sL rfl<|sE (rI (x6.length : Int)) (oQ _ _)<|sV (rB (decide ((x6.length : Int) > (0 : Int))))<|sS 96 (.var [.d (.lst (x5.map (PD.int .i64))), .d (.lst (x6.map (PD.int .i64)))])<|sA rfl ?_
  refine sN<|sO<|qR ?_
  cases oI h
  exact qG
 refine sA rfl<|sN<|cF<|qK<|WC.cI rfl rfl<|sV (.ptr 48 7)<|sL rfl<|bE h fun x7 hx7 h => cD (gU hx7)<|bE h fun x8 hx8 h => cD (dc hx8)<|sV (.ptr 48 9)<|sL rfl<|bE h fun x9 hx9 h => WO.shlG hx9 rfl rfl rfl rfl rfl ?_
 refine bE h fun x10 hx10 h => cD (dc hx10)<|sV (.d (.agg [.lst (x8.map (PD.int .i64)), .lst (x10.map (PD.int .i64))]))<|sS 96 (.var [.d (.lst (x8.map (PD.int .i64))), .d (.lst (x10.map (PD.int .i64)))])<|sT ?_
 refine sN<|sO<|qR ?_
 cases oI h
 exact qG
theorem jw {a0 : aP} {r : Bool} (h : eI a0 = some r) : EvP prog aI ext 167 [.d (aP.pd a0)] [] (rB r, []) := by
 refine Ev.body rfl Tryz.func167 rfl (by kernel_rfl)<|gS rfl rfl<|sB (.ptr 16 0) 16 (.var [.d (.lst (a0.bj.map (PD.int .i64))), .d (.lst (a0.bh.map (PD.int .i64)))])<|sU<|sN<|gS rfl rfl<|sV (.ptr 16 0)<|sL rfl<|bE h fun x1 hx1 h => py h (fun hb2 h => ?_) (fun hb2 h => ?_)
 ·refine WO.pP (v := rB true) (u := []) rfl rfl (fun _ => rfl) rfl rfl rfl rfl rfl (fA hx1) rfl rfl (congrArg (fun b => RV.d (.bool b)) hb2) rfl<|sM rfl<|sV (.ptr 16 1)<|sL rfl<|bE h fun x3 hx3 h => cD (fA hx3)<|sF h (fun h => ?_) fun h => ?_
  ·refine sM rfl<|sV (.ptr 16 1)<|sL rfl<|sE (rI (a0.bh.length : Int)) (oQ _ _)<|sV (rB (decide ((a0.bh.length : Int) > (0 : Int))))<|sV (rB (decide ((a0.bh.length : Int) > (0 : Int))))<|sA rfl<|sN<|qR ?_
   exact oI h▸qD
  refine sM rfl<|k3<|sK<|sU<|sA rfl<|sN<|qR ?_
  exact oI h▸qD
 refine WO.pP (v := rB false) (u := []) rfl rfl (fun _ => rfl) rfl rfl rfl rfl rfl (fA hx1) rfl rfl (congrArg (fun b => RV.d (.bool b)) hb2) rfl<|sM rfl<|k3<|sU<|sM rfl<|k3<|sK<|sU<|sA rfl<|sN<|qR ?_
 exact oI h▸qD
theorem nat_Times_ev {a0 : aP} {a1 : aP} {r : aP × Int} (h : ni a0 a1 = some r) : EvP prog aI ext 136 [.d (aP.pd a0), .d (aP.pd a1)] [] (.tup [.d (aP.pd r.1), rI r.2], []) := by
 refine Ev.body rfl Tryz.func136 rfl (by kernel_rfl)<|gS rfl rfl<|sB (.ptr 32 0) 32 (.var [.d (.lst (a0.bj.map (PD.int .i64))), .d (.lst (a0.bh.map (PD.int .i64)))])<|sB (.ptr 48 0) 48 (.var [.d (.lst (a1.bj.map (PD.int .i64))), .d (.lst (a1.bh.map (PD.int .i64)))])<|sB (.ptr 64 0) 64 (.var [.hY, .hY])<|sV (r0)<|sN<|qS<|gS rfl rfl<|sV (.d (aP.pd a0))<|bE h fun x1 hx1 h => cD (jw hx1)<|sF h (fun h => ?_) fun h => ?_
 ·refine sM rfl<|k3<|sT<|sN<|cT<|gS rfl rfl<|sV (.agg [.hY, .hY])<|sS 64 (.var [.hY, .hY])<|sV (rI 1)<|sN<|qR ?_
  exact oI h▸qD
 refine sM rfl<|sV (.d (aP.pd a1))<|bE h fun x3 hx3 h => cD (jw hx3)<|sV (rB (!x3))<|sF h (fun h => ?_) fun h => ?_
 ·refine sN<|cT<|gS rfl rfl<|sV (.agg [.hY, .hY])<|sS 64 (.var [.hY, .hY])<|sV (rI 1)<|sN<|qR ?_
  exact oI h▸qD
 refine sN<|cF<|qK<|gS rfl rfl<|sV (.ptr 32 0)<|sL rfl<|sV (.ptr 48 0)<|sL rfl<|bE h fun x5 hx5 h => cD (jL hx5)<|bE h fun x6 hx6 h => cR (.tup [.d (.lst (x6.1.map (PD.int .i64))), rI x6.2]) [] (iD hx6)<|sM rfl<|sV (.d (.lst (x6.1.map (PD.int .i64))))<|sV (rI x6.2) ?_
 refine sA rfl<|sA rfl<|sN<|gS rfl rfl<|sV (.ptr 32 1)<|sL rfl<|sV (.ptr 48 1)<|sL rfl<|bE h fun x7 hx7 h => cD (jL hx7)<|bE h fun x8 hx8 h => cR (.tup [.d (.lst (x8.1.map (PD.int .i64))), rI x8.2]) [] (iD hx8)<|sM rfl<|sV (.d (.lst (x8.1.map (PD.int .i64))))<|sV (rI x8.2) ?_
 refine sA rfl<|sA rfl<|sN<|qS<|gS rfl rfl<|sM rfl<|sF h (fun h => ?_) fun h => ?_
 ·refine sM rfl<|sK<|sK<|sT<|sN<|cT<|gS rfl rfl<|sV (.agg [.hY, .hY])<|sS 64 (.var [.hY, .hY])<|sV (rI 8)<|sN<|qR ?_
  exact oI h▸qD
 refine sM rfl<|sM rfl<|sV (rB (x8.2 != (0 : Int)))<|sF h (fun h => ?_) fun h => ?_
 ·refine sN<|cT<|gS rfl rfl<|sV (.agg [.hY, .hY])<|sS 64 (.var [.hY, .hY])<|sV (rI 8)<|sN<|qR ?_
  exact oI h▸qD
 refine sN<|cF<|qK<|gS rfl rfl<|sM rfl<|sM rfl<|sV (.d (.agg [.lst (x6.1.map (PD.int .i64)), .lst (x8.1.map (PD.int .i64))]))<|sS 64 (.var [.d (.lst (x6.1.map (PD.int .i64))), .d (.lst (x8.1.map (PD.int .i64)))])<|sV (r0)<|sN<|qR ?_
 exact oI h▸qD
theorem response_Gain_ev {a0 : aM} {a1 : Int} {a2 : Int} {r : aP × Int} (h : jm a0 a1 a2 = some r) : EvP prog aI ext 98 [.d (aM.pd a0), rI a1, rI a2] [] (.tup [.d (aP.pd r.1), rI r.2], []) := by
 refine Ev.body rfl Tryz.func98 rfl (by kernel_rfl)<|gS rfl rfl<|sB (.ptr 48 0) 48 (.var [.d (.lst (a0.bo.map aB.pd))])<|sB (.ptr 96 0) 96 (.var [.hY, .hY])<|sV (r0)<|sN<|qS<|gS rfl rfl<|sV (.d (aM.pd a0))<|bE h fun x1 hx1 h => cD (lb hx1)<|sF h (fun h => ?_) fun h => ?_
 ·refine sN<|cT<|gS rfl rfl<|sV (.agg [.hY, .hY])<|sS 96 (.var [.hY, .hY])<|sV (rI 1)<|sN<|qR ?_
  exact oI h▸qD
 refine sN<|cF<|qK<|qS<|gS rfl rfl<|sM rfl<|bE h fun x3 hx3 h => cD (bQ hx3)<|sF h (fun h => ?_) fun h => ?_
 ·refine sM rfl<|k3<|sT<|sN<|cT<|gS rfl rfl<|sV (.agg [.hY, .hY])<|sS 96 (.var [.hY, .hY])<|sV (rI 2)<|sN<|qR ?_
  exact oI h▸qD
 refine sM rfl<|sM rfl<|bE h fun x5 hx5 h => cD (bQ hx5)<|sV (rB (!x5))<|sF h (fun h => ?_) fun h => ?_
 ·refine sN<|cT<|gS rfl rfl<|sV (.agg [.hY, .hY])<|sS 96 (.var [.hY, .hY])<|sV (rI 2)<|sN<|qR ?_
  exact oI h▸qD
 refine sN<|cF<|qK<|gS rfl rfl<|sV (.d (.lst ([1].map (PD.int .i64))))<|sV (.d (.lst ([1].map (PD.int .i64))))<|sV (.d (.agg [.lst ([1].map (PD.int .i64)), .lst ([1].map (PD.int .i64))]))<|sB (.ptr 128 0) 128 (.var [.hY, .hY])<|sS 128 (.var [.d (.lst ([1].map (PD.int .i64))), .d (.lst ([1].map (PD.int .i64)))])<|sN<|qS<|gS rfl rfl<|sV (.ptr 48 0)<|sL rfl<|sE (rI (a0.bo.length : Int)) (oQ _ _) ?_
 refine sV (r0)<|sN<|bE h fun o20 ho20 h => WC.block (WC.loop (WL.oW ho20 (fun s R' B' => lC prog 0 (A R' B') (aI.at_ 98 0 7) = some (A [(1, rI a1), (2, rI a2), (6, .ptr 96 0), (8, .ptr 128 0), (31, .d (.lst (a0.bo.map aB.pd))), (32, rI (a0.bo.length : Int)), (33, rI s.1)] [(96, .var [.hY, .hY]), (128, .var [.d (.lst (s.2.1.map (PD.int .i64))), .d (.lst (s.2.2.map (PD.int .i64)))])])) (fun o e R' B' => match o with | .inl y => e = .exit 0 ∧ lC prog 0 (A R' B') (aI.at_ 98 0 17) = some (A [(6, .ptr 96 0), (8, .ptr 128 0)] [(96, .var [.hY, .hY]), (128, .var [.d (.lst (y.1.map (PD.int .i64))), .d (.lst (y.2.map (PD.int .i64)))])]) | .inr r => e = .ret ∧ finish prog (aI.own 98) Tryz.f98 0 (A R' B') = some (.tup [.d (aP.pd r.1), rI r.2], [])) rfl ?_ ?_))
 ·rintro ⟨s7, s8, s9⟩ R' B' q12 hI h
  refine gS rfl hI<|sF h (fun h => ?_) fun h => ?_
  ·refine sN<|qS<|cT<|qK<|qS<|qB<|gS rfl rfl<|bE h fun x14 hx14 h => eG hx14 rfl<|sV (.d (aB.pd x14))<|sB (.ptr 160 0) 160 (.var [r0, r0, r0, r0, r0, r0, r0, .hY, r0, r0])<|sH 160 (.var (aB.rc x14))<|sN<|gS rfl rfl<|sV (.d (aB.pd x14)) ?_
   refine sM rfl<|sM rfl<|bE h fun x15 hx15 h => cR (.tup [.d (aP.pd x15.1), rB x15.2]) [] (response_gain_ev hx15)<|sM rfl<|sV (.d (aP.pd x15.1))<|sV (rB x15.2)<|sB (.ptr 176 0) 176 (.var [.hY, .hY])<|sS 176 (.var [.d (.lst (x15.1.bj.map (PD.int .i64))), .d (.lst (x15.1.bh.map (PD.int .i64)))])<|sA rfl<|sN<|qS<|gS rfl rfl<|sM rfl<|sF h (fun h => ?_) fun h => ?_
   ·refine sN<|cT<|gS rfl rfl<|sV (.agg [.hY, .hY])<|sS 96 (.var [.hY, .hY])<|sV (rI 11)<|sN<|qR ?_
    cases oI h
    exact ⟨nofun, rfl, rfl⟩
   refine sN<|cF<|qK<|gS rfl rfl<|sV (r0)<|sN<|gS rfl rfl<|sV (.d (aP.pd (aP.mk s8 s9)))<|sV (.d (.agg [.lst (x15.1.bj.map (PD.int .i64)), .lst (x15.1.bh.map (PD.int .i64))]))<|bE h fun x17 hx17 h => cR (.tup [.d (aP.pd x17.1), rI x17.2]) [] (nat_Times_ev hx17)<|sM rfl<|sV (.d (aP.pd x17.1))<|sV (rI x17.2)<|sS 128 (.var [.d (.lst (x17.1.bj.map (PD.int .i64))), .d (.lst (x17.1.bh.map (PD.int .i64)))]) ?_
   refine sA rfl<|sN<|gS rfl rfl<|sM rfl<|sF h (fun h => ?_) fun h => ?_
   ·refine sN<|cT<|gS rfl rfl<|sV (.agg [.hY, .hY])<|sM rfl<|sS 96 (.var [.hY, .hY])<|sA rfl<|sN<|qR ?_
    cases oI h
    exact ⟨nofun, rfl, rfl⟩
   refine sN<|cF<|qK<|WC.region rfl rfl<|sV (rI (rW (s7 + (1 : Int))))<|sM rfl<|sN ?_
   cases oI h
   exact ⟨rfl, rfl⟩
  refine sN<|qS<|cF<|qX ?_
  cases oI h
  exact ⟨nofun, rfl, rfl⟩
 intro e R' B' he hq
 rcases o20 with y21 | r22
 ·obtain ⟨rfl, hI⟩ := hq
  refine qE<|gS rfl hI<|sV (.d (aP.pd (aP.mk y21.1 y21.2)))<|sS 96 (.var [.d (.lst (y21.1.map (PD.int .i64))), .d (.lst (y21.2.map (PD.int .i64)))])<|sV (r0)<|sN<|qR ?_
  exact oI h▸qD
 obtain ⟨rfl, hf⟩ := hq
 cases oI h
 exact hf
theorem jT {a0 : Int} {a1 : Int} {r : Int} (h : fc a0 a1 = some r) : EvP prog aI ext 138 [rI a0, rI a1] [] (rI r, []) := by
 refine Ev.body rfl Tryz.func138 rfl (by kernel_rfl)<|gS rfl rfl<|sV (r0)<|sN<|gS rfl rfl<|sV (r0)<|sN<|qS<|gS rfl rfl<|sV (r0)<|sN<|WC.block (WC.loop ?_)
 refine WL.round<|gS rfl rfl<|sT<|sN<|qS<|cT<|qK<|WC.join (α := Int × Int) (fun x R' B' => lC prog 0 (A R' B') (aI.at_ 138 0 9) = some (A [(0, rI a0), (1, rI x.1), (5, rI x.2), (6, r0)] [])) (fun x => dE a0 x.1 x.2 = some r) ?_ ?_
 ·refine qB<|gS rfl rfl<|sM rfl<|sM rfl<|sV (rI (rW (a1 * a1)))<|sV (rI (pe .i64 (rW (a1 * a1)) (30 : Int)))<|sA rfl<|sN<|gS rfl rfl<|sM rfl<|sV (r0)<|sA rfl<|sN<|gS rfl rfl<|sM rfl ?_
  refine sF h (fun h => ?_) fun h => ?_
  ·exact sN<|cT<|gS rfl rfl<|sM rfl<|bE h fun x40 hx40 h => WO.tf hx40 rfl rfl rfl rfl rfl rfl<|sA rfl<|sN<|WC.region rfl rfl<|sM rfl<|sV (rI 1)<|sA rfl<|sN<|⟨(x40, 1), rfl, h⟩
  exact sN<|cF<|qK<|⟨((pe .i64 (rW (a1 * a1)) (30 : Int)), 0), rfl, h⟩
 rintro ⟨j1, j2⟩ R' B' hI h
 refine WC.region hI rfl<|sV (rI 1)<|sM rfl<|sN<|WL.round<|gS rfl rfl<|sT<|sN<|qS<|cT<|qK<|WC.join (α := Int × Int) (fun x R' B' => lC prog 0 (A R' B') (aI.at_ 138 0 9) = some (A [(0, rI a0), (1, rI x.1), (5, rI x.2), (6, rI 1)] [])) (fun x => dD a0 x.1 x.2 = some r) ?_ ?_
 ·refine qB<|gS rfl rfl<|sM rfl<|sM rfl<|sV (rI (rW (j1 * j1)))<|sV (rI (pe .i64 (rW (j1 * j1)) (30 : Int)))<|sA rfl<|sN<|gS rfl rfl<|sM rfl<|sV (rI (rW (j2 * (2 : Int))))<|sA rfl<|sN<|gS rfl rfl<|sM rfl ?_
  refine sF h (fun h => ?_) fun h => ?_
  ·exact sN<|cT<|gS rfl rfl<|sM rfl<|bE h fun x37 hx37 h => WO.tf hx37 rfl rfl rfl rfl rfl rfl<|sA rfl<|sN<|WC.region rfl rfl<|sM rfl<|sV (rI (rW ((rW (j2 * (2 : Int))) + (1 : Int))))<|sA rfl<|sN<|⟨(x37, (rW ((rW (j2 * (2 : Int))) + (1 : Int)))), rfl, h⟩
  exact sN<|cF<|qK<|⟨((pe .i64 (rW (j1 * j1)) (30 : Int)), (rW (j2 * (2 : Int)))), rfl, h⟩
 rintro ⟨j3, j4⟩ R' B' hI h
 refine WC.region hI rfl<|sV (rI 2)<|sM rfl<|sN<|WL.round<|gS rfl rfl<|sT<|sN<|qS<|cT<|qK<|WC.join (α := Int × Int) (fun x R' B' => lC prog 0 (A R' B') (aI.at_ 138 0 9) = some (A [(0, rI a0), (1, rI x.1), (5, rI x.2), (6, rI 2)] [])) (fun x => dC a0 x.1 x.2 = some r) ?_ ?_
 ·refine qB<|gS rfl rfl<|sM rfl<|sM rfl<|sV (rI (rW (j3 * j3)))<|sV (rI (pe .i64 (rW (j3 * j3)) (30 : Int)))<|sA rfl<|sN<|gS rfl rfl<|sM rfl<|sV (rI (rW (j4 * (2 : Int))))<|sA rfl<|sN<|gS rfl rfl<|sM rfl ?_
  refine sF h (fun h => ?_) fun h => ?_
  ·exact sN<|cT<|gS rfl rfl<|sM rfl<|bE h fun x34 hx34 h => WO.tf hx34 rfl rfl rfl rfl rfl rfl<|sA rfl<|sN<|WC.region rfl rfl<|sM rfl<|sV (rI (rW ((rW (j4 * (2 : Int))) + (1 : Int))))<|sA rfl<|sN<|⟨(x34, (rW ((rW (j4 * (2 : Int))) + (1 : Int)))), rfl, h⟩
  exact sN<|cF<|qK<|⟨((pe .i64 (rW (j3 * j3)) (30 : Int)), (rW (j4 * (2 : Int)))), rfl, h⟩
 rintro ⟨j5, j6⟩ R' B' hI h
 refine WC.region hI rfl<|sV (rI 3)<|sM rfl<|sN<|WL.round<|gS rfl rfl<|sT<|sN<|qS<|cT<|qK<|WC.join (α := Int × Int) (fun x R' B' => lC prog 0 (A R' B') (aI.at_ 138 0 9) = some (A [(0, rI a0), (1, rI x.1), (5, rI x.2), (6, rI 3)] [])) (fun x => dB a0 x.1 x.2 = some r) ?_ ?_
 ·refine qB<|gS rfl rfl<|sM rfl<|sM rfl<|sV (rI (rW (j5 * j5)))<|sV (rI (pe .i64 (rW (j5 * j5)) (30 : Int)))<|sA rfl<|sN<|gS rfl rfl<|sM rfl<|sV (rI (rW (j6 * (2 : Int))))<|sA rfl<|sN<|gS rfl rfl<|sM rfl ?_
  refine sF h (fun h => ?_) fun h => ?_
  ·exact sN<|cT<|gS rfl rfl<|sM rfl<|bE h fun x31 hx31 h => WO.tf hx31 rfl rfl rfl rfl rfl rfl<|sA rfl<|sN<|WC.region rfl rfl<|sM rfl<|sV (rI (rW ((rW (j6 * (2 : Int))) + (1 : Int))))<|sA rfl<|sN<|⟨(x31, (rW ((rW (j6 * (2 : Int))) + (1 : Int)))), rfl, h⟩
  exact sN<|cF<|qK<|⟨((pe .i64 (rW (j5 * j5)) (30 : Int)), (rW (j6 * (2 : Int)))), rfl, h⟩
 rintro ⟨j7, j8⟩ R' B' hI h
 refine WC.region hI rfl<|sV (rI 4)<|sM rfl<|sN<|WL.round<|gS rfl rfl<|sT<|sN<|qS<|cT<|qK<|WC.join (α := Int × Int) (fun x R' B' => lC prog 0 (A R' B') (aI.at_ 138 0 9) = some (A [(0, rI a0), (1, rI x.1), (5, rI x.2), (6, rI 4)] [])) (fun x => dA a0 x.1 x.2 = some r) ?_ ?_
 ·refine qB<|gS rfl rfl<|sM rfl<|sM rfl<|sV (rI (rW (j7 * j7)))<|sV (rI (pe .i64 (rW (j7 * j7)) (30 : Int)))<|sA rfl<|sN<|gS rfl rfl<|sM rfl<|sV (rI (rW (j8 * (2 : Int))))<|sA rfl<|sN<|gS rfl rfl<|sM rfl ?_
  refine sF h (fun h => ?_) fun h => ?_
  ·exact sN<|cT<|gS rfl rfl<|sM rfl<|bE h fun x28 hx28 h => WO.tf hx28 rfl rfl rfl rfl rfl rfl<|sA rfl<|sN<|WC.region rfl rfl<|sM rfl<|sV (rI (rW ((rW (j8 * (2 : Int))) + (1 : Int))))<|sA rfl<|sN<|⟨(x28, (rW ((rW (j8 * (2 : Int))) + (1 : Int)))), rfl, h⟩
  exact sN<|cF<|qK<|⟨((pe .i64 (rW (j7 * j7)) (30 : Int)), (rW (j8 * (2 : Int)))), rfl, h⟩
 rintro ⟨j9, j10⟩ R' B' hI h
 refine WC.region hI rfl<|sV (rI 5)<|sM rfl<|sN<|WL.round<|gS rfl rfl<|sT<|sN<|qS<|cT<|qK<|WC.join (α := Int × Int) (fun x R' B' => lC prog 0 (A R' B') (aI.at_ 138 0 9) = some (A [(0, rI a0), (1, rI x.1), (5, rI x.2), (6, rI 5)] [])) (fun x => dz a0 x.1 x.2 = some r) ?_ ?_
 ·refine qB<|gS rfl rfl<|sM rfl<|sM rfl<|sV (rI (rW (j9 * j9)))<|sV (rI (pe .i64 (rW (j9 * j9)) (30 : Int)))<|sA rfl<|sN<|gS rfl rfl<|sM rfl<|sV (rI (rW (j10 * (2 : Int))))<|sA rfl<|sN<|gS rfl rfl<|sM rfl ?_
  refine sF h (fun h => ?_) fun h => ?_
  ·exact sN<|cT<|gS rfl rfl<|sM rfl<|bE h fun x25 hx25 h => WO.tf hx25 rfl rfl rfl rfl rfl rfl<|sA rfl<|sN<|WC.region rfl rfl<|sM rfl<|sV (rI (rW ((rW (j10 * (2 : Int))) + (1 : Int))))<|sA rfl<|sN<|⟨(x25, (rW ((rW (j10 * (2 : Int))) + (1 : Int)))), rfl, h⟩
  exact sN<|cF<|qK<|⟨((pe .i64 (rW (j9 * j9)) (30 : Int)), (rW (j10 * (2 : Int)))), rfl, h⟩
 rintro ⟨j11, j12⟩ R' B' hI h
 refine WC.region hI rfl<|sV (rI 6)<|sM rfl<|sN<|WL.round<|gS rfl rfl<|sT<|sN<|qS<|cT<|qK<|WC.join (α := Int × Int) (fun x R' B' => lC prog 0 (A R' B') (aI.at_ 138 0 9) = some (A [(0, rI a0), (1, rI x.1), (5, rI x.2), (6, rI 6)] [])) (fun x => dy a0 x.1 x.2 = some r) ?_ ?_
 ·refine qB<|gS rfl rfl<|sM rfl<|sM rfl<|sV (rI (rW (j11 * j11)))<|sV (rI (pe .i64 (rW (j11 * j11)) (30 : Int)))<|sA rfl<|sN<|gS rfl rfl<|sM rfl<|sV (rI (rW (j12 * (2 : Int))))<|sA rfl<|sN<|gS rfl rfl<|sM rfl ?_
  refine sF h (fun h => ?_) fun h => ?_
  ·exact sN<|cT<|gS rfl rfl<|sM rfl<|bE h fun x22 hx22 h => WO.tf hx22 rfl rfl rfl rfl rfl rfl<|sA rfl<|sN<|WC.region rfl rfl<|sM rfl<|sV (rI (rW ((rW (j12 * (2 : Int))) + (1 : Int))))<|sA rfl<|sN<|⟨(x22, (rW ((rW (j12 * (2 : Int))) + (1 : Int)))), rfl, h⟩
  exact sN<|cF<|qK<|⟨((pe .i64 (rW (j11 * j11)) (30 : Int)), (rW (j12 * (2 : Int)))), rfl, h⟩
 rintro ⟨j13, j14⟩ R' B' hI h
 refine WC.region hI rfl<|sV (rI 7)<|sM rfl<|sN<|WL.round<|gS rfl rfl<|sT<|sN<|qS<|cT<|qK<|WC.join (α := Int × Int) (fun x R' B' => lC prog 0 (A R' B') (aI.at_ 138 0 9) = some (A [(0, rI a0), (1, rI x.1), (5, rI x.2), (6, rI 7)] [])) (fun x => dx a0 x.1 x.2 = some r) ?_ ?_
 ·refine qB<|gS rfl rfl<|sM rfl<|sM rfl<|sV (rI (rW (j13 * j13)))<|sV (rI (pe .i64 (rW (j13 * j13)) (30 : Int)))<|sA rfl<|sN<|gS rfl rfl<|sM rfl<|sV (rI (rW (j14 * (2 : Int))))<|sA rfl<|sN<|gS rfl rfl<|sM rfl ?_
  refine sF h (fun h => ?_) fun h => ?_
  ·exact sN<|cT<|gS rfl rfl<|sM rfl<|bE h fun x19 hx19 h => WO.tf hx19 rfl rfl rfl rfl rfl rfl<|sA rfl<|sN<|WC.region rfl rfl<|sM rfl<|sV (rI (rW ((rW (j14 * (2 : Int))) + (1 : Int))))<|sA rfl<|sN<|⟨(x19, (rW ((rW (j14 * (2 : Int))) + (1 : Int)))), rfl, h⟩
  exact sN<|cF<|qK<|⟨((pe .i64 (rW (j13 * j13)) (30 : Int)), (rW (j14 * (2 : Int)))), rfl, h⟩
 rintro ⟨j15, j16⟩ R' B' hI h
 refine WC.region hI rfl<|sV (rI 8)<|sM rfl<|sN<|WL.round<|gS rfl rfl<|sU<|sN<|qS<|cF<|qX<|qE<|gS rfl rfl<|sM rfl<|sV (rI (rW ((256 : Int) * a0))) ?_
 refine sM rfl<|sV (rI (rW ((rW ((256 : Int) * a0)) + j16)))<|sA rfl<|sN<|qR ?_
 exact oI h▸qD
theorem iV {a0 : Int} {r : Int × Int} (h : fN a0 = some r) : EvP prog aI ext 100 [rI a0] [] (.tup [rI r.1, rI r.2], []) := by
 refine Ev.body rfl Tryz.func100 rfl (by kernel_rfl)<|gS rfl rfl<|sV (r0)<|sV (r0)<|sN<|qS<|gS rfl rfl<|sM rfl<|sF h (fun h => ?_) fun h => ?_
 ·refine sN<|cT<|gS rfl rfl<|sV (r0)<|sV (rI 2)<|sN<|qR ?_
  exact oI h▸qD
 refine sN<|cF<|qK<|gS rfl rfl<|sM rfl<|sV (.d (.int .u64 (IntKind.wrap .u64 a0)))<|bE h fun x2 hx2 h => cD (mu hx2)<|sV (rI (rW (x2 - (1 : Int))))<|sA rfl<|sN<|qS<|gS rfl rfl<|sM rfl<|sF h (fun h => ?_) fun h => ?_
 ·refine sN<|cT<|gS rfl rfl<|sM rfl<|sM rfl<|sM rfl<|sV (rI (rW ((30 : Int) - (rW (x2 - (1 : Int))))))<|bE h fun x4 hx4 h => WO.shlG hx4 rfl rfl rfl rfl rfl<|bE h fun x5 hx5 h => cD (jT hx5)<|sA rfl<|sV (r0)<|sN<|qR ?_
  exact oI h▸qD
 refine sN<|cF<|qK<|gS rfl rfl<|sM rfl<|sM rfl<|sM rfl<|sV (rI (rW ((rW (x2 - (1 : Int))) - (30 : Int))))<|bE h fun x6 hx6 h => WO.shrG hx6 rfl rfl rfl rfl rfl<|bE h fun x7 hx7 h => cD (jT hx7)<|sA rfl<|sV (r0)<|sN ?_
 refine qR ?_
 exact oI h▸qD
theorem jS {a0 : (List Int)} {r : Int × Int} (h : fb a0 = some r) : EvP prog aI ext 99 [.d (.lst (a0.map (PD.int .i64)))] [] (.tup [rI r.1, rI r.2], []) := by
 refine Ev.body rfl Tryz.func99 rfl (by kernel_rfl)<|gS rfl rfl<|sV (r0)<|sV (r0)<|sN<|qS<|gS rfl rfl<|sM rfl<|bE h fun x1 hx1 h => cD (fA hx1)<|sF h (fun h => ?_) fun h => ?_
 ·refine sN<|cT<|gS rfl rfl<|sV (r0)<|sV (rI 1)<|sN<|qR ?_
  exact oI h▸qD
 refine sN<|cF<|qK<|gS rfl rfl<|sM rfl<|sE (rI (a0.length : Int)) (oQ _ _)<|sV (rI (rW ((a0.length : Int) - (1 : Int))))<|sA rfl<|sN<|qS<|qB<|gS rfl rfl<|sM rfl<|sF h (fun h => ?_) fun h => ?_
 ·refine sA rfl<|sN<|cT<|gS rfl rfl<|sV (r0)<|sV (rI 2)<|sN<|qR ?_
  exact oI h▸qD
 refine sA rfl<|sN<|cF<|gS rfl rfl<|sM rfl<|sF h (fun h => ?_) fun h => ?_
 ·refine sA rfl<|sN<|cT<|gS rfl rfl<|sM rfl<|bE h fun x5 hx5 h => eG hx5 rfl<|sC rfl<|bE h fun x6 hx6 h => cR (.tup [rI x6.1, rI x6.2]) [] (iV hx6)<|sV (rI x6.1)<|sV (rI x6.2)<|sA rfl<|sA rfl<|sN ?_
  refine qR ?_
  exact oI h▸qD
 refine sA rfl<|sN<|cF<|qK<|WC.cI rfl rfl<|sM rfl<|sM rfl<|bE h fun x7 hx7 h => eG hx7 rfl<|sC rfl<|sV (rI (shlI .i64 x7 (30 : Int)))<|sM rfl<|sM rfl<|sV (rI (rW ((rW ((a0.length : Int) - (1 : Int))) - (1 : Int))))<|bE h fun x8 hx8 h => ?_
 refine eG hx8 rfl<|sC rfl<|sV (rI (orI .i64 (shlI .i64 x7 (30 : Int)) x8))<|sA rfl ?_
 refine sN<|sO<|gS rfl rfl<|sM rfl<|bE h fun x9 hx9 h => cR (.tup [rI x9.1, rI x9.2]) [] (iV hx9)<|sM rfl<|sV (rI x9.1)<|sV (rI x9.2)<|sA rfl<|sA rfl<|sN<|gS rfl rfl<|sM rfl<|sM rfl<|sV (rI (rW ((rW ((a0.length : Int) - (1 : Int))) - (1 : Int)))) ?_
 refine sV (rI (rW ((7680 : Int) * (rW ((rW ((a0.length : Int) - (1 : Int))) - (1 : Int))))))<|sV (rI (rW (x9.1 + (rW ((7680 : Int) * (rW ((rW ((a0.length : Int) - (1 : Int))) - (1 : Int))))))))<|sM rfl<|sA rfl<|sA rfl<|sN<|qR ?_
 exact oI h▸qD
theorem nB {a0 : bt} {a1 : aM} {a2 : Int} {r : Int × Int} (h : gu a0 a1 a2 = some r) : EvP prog aI ext 67 [.d (bt.pd a0), .d (aM.pd a1), rI a2] [] (.tup [rI r.1, rI r.2], []) := by
 refine Ev.body rfl Tryz.func67 rfl (by kernel_rfl)<|gS rfl rfl<|sB (.ptr 48 0) 48 (.var (bt.rc a0))<|sB (.ptr 64 0) 64 (.var [.d (.lst (a1.bo.map aB.pd))])<|sV (r0)<|sV (r0)<|sN<|gS rfl rfl<|sV (.d (aM.pd a1))<|sV (.ptr 48 3)<|sL rfl<|sV (.ptr 48 4)<|sL rfl<|bE h fun x1 hx1 h => cR (.tup [.d (aP.pd x1.1), rI x1.2]) [] (response_Gain_ev hx1) ?_
 refine sM rfl<|sV (.d (aP.pd x1.1))<|sV (rI x1.2)<|sB (.ptr 128 0) 128 (.var [.hY, .hY])<|sS 128 (.var [.d (.lst (x1.1.bj.map (PD.int .i64))), .d (.lst (x1.1.bh.map (PD.int .i64)))])<|sA rfl<|sN<|qS<|gS rfl rfl<|sM rfl<|sF h (fun h => ?_) fun h => ?_
 ·refine sN<|cT<|gS rfl rfl<|sM rfl<|sV (r0)<|sA rfl<|sN<|qR ?_
  exact oI h▸qD
 refine sN<|cF<|qK<|gS rfl rfl<|sV (.ptr 128 0)<|sL rfl<|bE h fun x3 hx3 h => cR (.tup [rI x3.1, rI x3.2]) [] (jS hx3)<|sM rfl<|sV (rI x3.1)<|sV (rI x3.2)<|sA rfl<|sA rfl<|sN<|qS ?_
 refine gS rfl rfl<|sM rfl<|sF h (fun h => ?_) fun h => ?_
 ·refine sN<|cT<|gS rfl rfl<|sV (r0)<|sV (rI 24)<|sN<|qR ?_
  exact oI h▸qD
 refine sN<|cF<|qK<|gS rfl rfl<|sV (.ptr 128 1)<|sL rfl<|bE h fun x5 hx5 h => cR (.tup [rI x5.1, rI x5.2]) [] (jS hx5)<|sM rfl<|sV (rI x5.1)<|sV (rI x5.2)<|sA rfl<|sA rfl<|sN<|qS ?_
 refine gS rfl rfl<|sM rfl<|sF h (fun h => ?_) fun h => ?_
 ·refine sN<|cT<|gS rfl rfl<|sM rfl<|sV (r0)<|sA rfl<|sN<|qR ?_
  exact oI h▸qD
 refine sN<|cF<|qK<|gS rfl rfl<|sM rfl<|bE h fun x7 hx7 h => cR (.tup [rI x7.1, rI x7.2]) [] (iV hx7)<|sM rfl<|sV (rI x7.1)<|sV (rI x7.2)<|sA rfl<|sA rfl<|sN<|gS rfl rfl<|sM rfl ?_
 refine sV (rI (rW ((2 : Int) * x7.1)))<|sM rfl<|sV (rI (rW ((rW ((2 : Int) * x7.1)) + x5.1)))<|sM rfl<|sV (rI (rW ((rW ((rW ((2 : Int) * x7.1)) + x5.1)) - x3.1)))<|sM rfl<|sA rfl<|sA rfl<|sN<|qR ?_
 exact oI h▸qD
theorem kZ {a0 : Int} {r : Int} (h : gd a0 = some r) : EvP prog aI ext 70 [rI a0] [] (rI r, []) := by
 refine Ev.body rfl Tryz.func70 rfl (by kernel_rfl)<|gS rfl rfl<|sV (r0)<|sN<|gS rfl rfl<|sM rfl<|sV (rI (pe .i64 a0 (1 : Int)))<|sA rfl<|sN<|qR ?_
 exact oI h▸qD
theorem nA {a0 : Int} {r : Int × Bool} (h : iW a0 = some r) : EvP prog aI ext 106 [rI a0] [] (.tup [rI r.1, rB r.2], []) := by
 refine Ev.body rfl Tryz.func106 rfl (by kernel_rfl)<|gS rfl rfl<|sV (r0)<|sU<|sN<|gS rfl rfl<|sM rfl<|sV (rI (rW (a0 * (30103 : Int))))<|sM rfl<|sF h (fun h => ?_) fun h => ?_
 ·refine sM rfl<|sM rfl<|sV (rB (decide (a0 ≤ (16777216 : Int))))<|sV (rB (decide (a0 ≤ (16777216 : Int))))<|sA rfl<|sA rfl<|sN<|qR ?_
  exact oI h▸qD
 refine sM rfl<|sK<|sK<|sU<|sA rfl<|sA rfl<|sN<|qR ?_
 exact oI h▸qD
theorem kF {a0 : Int} {r : Int} (h : fF a0 = some r) : EvP prog aI ext 69 [rI a0] [] (rI r, []) := by
 refine Ev.body rfl Tryz.func69 rfl (by kernel_rfl)<|gS rfl rfl<|sV (r0)<|sN<|gS rfl rfl<|sM rfl<|bE h fun x1 hx1 h => cR (.tup [rI x1.1, rB x1.2]) [] (nA hx1)<|sM rfl<|sV (rI x1.1)<|sV (rB x1.2)<|sA rfl<|sA rfl<|sN<|qS ?_
 refine gS rfl rfl<|sM rfl<|sF h (fun h => ?_) fun h => ?_
 ·refine sN<|cT<|gS rfl rfl<|sV (r0)<|sN<|qR ?_
  exact oI h▸qD
 refine sN<|cF<|qK<|gS rfl rfl<|sM rfl<|bE h fun x3 hx3 h => WO.tf hx3 rfl rfl rfl rfl rfl rfl<|sA rfl<|sN<|qS<|gS rfl rfl<|sM rfl<|bE h fun x4 hx4 h => WO.remG hx4 rfl rfl rfl rfl rfl rfl<|sF h (fun h => ?_) fun h => ?_
 ·refine sN<|cT<|WC.region rfl rfl<|sM rfl<|sV (rI (rW (x3 - (1 : Int))))<|sA rfl<|sN<|gS rfl rfl<|sM rfl<|sA rfl<|sN<|qR ?_
  exact oI h▸qD
 refine sN<|cF<|qK<|gS rfl rfl<|sM rfl<|sA rfl<|sN<|qR ?_
 exact oI h▸qD
theorem oC {a0 : Int} {r : Int} (h : iA a0 = some r) : EvP prog aI ext 71 [rI a0] [] (rI r, []) := by
 refine Ev.body rfl Tryz.func71 rfl (by kernel_rfl)<|gS rfl rfl<|sV (r0)<|sN<|gS rfl rfl<|sM rfl<|sV (rI (rW (0 - a0)))<|bE h fun x1 hx1 h => cD (kF hx1)<|sV (rI (rW (0 - x1)))<|sA rfl<|sN<|qR ?_
 exact oI h▸qD
end Go.Dw.So
