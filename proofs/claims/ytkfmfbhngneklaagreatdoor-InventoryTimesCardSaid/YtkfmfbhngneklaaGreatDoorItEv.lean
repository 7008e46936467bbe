/- ItEv: the code computes what the plain functions say, further (written by lift.py). -/
import Derived.Test.YtkfmfbhngneklaaGreatDoorItEvA
set_option maxRecDepth 100000
set_option maxHeartbeats 4000000
namespace Go.Dw.It
open Go.Proofs Go.Proofs.Tryz Go.Dw
theorem ref20_place_ev {a1 : T_api_Change} {d0 : (List T_api_Channel)} {r : Int × Int × (List T_api_Channel)} (h : ref20_place a1 d0 = some r) : EvP prog hints ext 60 [.agg [.ref 0 0], .d (T_api_Change.pd a1)] [.arr 0 37 (d0.map T_api_Channel.pd)] (.tup [.d (.int .i64 r.1), .d (.int .i64 r.2.1)], [.arr 0 37 (r.2.2.map T_api_Channel.pd)]) := by
 refine Ev.body rfl Tryz.func60 rfl (by kernel_rfl)<|gS rfl rfl<|sB (.ptr 32 0) 32 (.var [.ref 0 0])<|sB (.ptr 48 0) 48 (.var [.d (.int .i64 a1.fKind), .d (.str a1.fSource.fNetwork), .d (.str a1.fSource.fStation), .d (.str a1.fSource.fLocation), .d (.str a1.fSource.fChannel), .d (.int .i64 a1.fFrom), .d (.int .i64 a1.fEpoch.fFrom), .d (.int .i64 a1.fEpoch.fTo), .d (.int .i64 a1.fEpoch.fRate.fNum), .d (.int .i64 a1.fEpoch.fRate.fDen), .d (.int .i64 a1.fEpoch.fPosition.fX), .d (.int .i64 a1.fEpoch.fPosition.fY), .d (.int .i64 a1.fEpoch.fPosition.fZ), .d (.lst (a1.fEpoch.fResponse.fStages.map T_api_Stage.pd))])<|sV (.d (.int .i64 0))<|sV (.d (.int .i64 0))<|sN<|qS<|gS rfl rfl<|sV (.d (.int .i64 0))<|sN<|bE h fun o25 ho25 h => WC.block (WC.loop (WL.ofLoop ho25 (fun s R' B' => ghosts prog 1 (A R' B') (hints.at_ 60 2) = some (A [(2, .ptr 32 0), (3, .ptr 48 0), (6, .d (.int .i64 s))] [(0, .arr 0 37 (d0.map T_api_Channel.pd)), (32, .var [.ref 0 0]), (48, .var [.d (.int .i64 a1.fKind), .d (.str a1.fSource.fNetwork), .d (.str a1.fSource.fStation), .d (.str a1.fSource.fLocation), .d (.str a1.fSource.fChannel), .d (.int .i64 a1.fFrom), .d (.int .i64 a1.fEpoch.fFrom), .d (.int .i64 a1.fEpoch.fTo), .d (.int .i64 a1.fEpoch.fRate.fNum), .d (.int .i64 a1.fEpoch.fRate.fDen), .d (.int .i64 a1.fEpoch.fPosition.fX), .d (.int .i64 a1.fEpoch.fPosition.fY), .d (.int .i64 a1.fEpoch.fPosition.fZ), .d (.lst (a1.fEpoch.fResponse.fStages.map T_api_Stage.pd))])])) (fun o e R' B' => match o with | .inl y => e = .exit 0 ∧ ghosts prog 1 (A R' B') (hints.at_ 60 11) = some (A [] [(0, .arr 0 37 (d0.map T_api_Channel.pd))]) | .inr r => e = .ret ∧ finish prog (hints.own 60) Tryz.f60 1 (A R' B') = some (.tup [.d (.int .i64 r.1), .d (.int .i64 r.2.1)], [.arr 0 37 (r.2.2.map T_api_Channel.pd)])) rfl ?_ ?_))
 ·rintro s1 R' B' q2 hI h
  refine qS<|gS rfl hI<|sM rfl<|sV (.ptr 32 0)<|sL rfl<|WO.lenR rfl rfl rfl rfl rfl rfl rfl rfl rfl<|sF h (fun h => ?_) fun h => ?_
  ·refine sN<|cT<|qK<|qS<|qB<|qS<|WC.regionDSeq rfl rfl<|sV (.ptr 32 0)<|sL rfl<|sM rfl<|bE h fun x5 hx5 h => WO.eltG hx5 rfl rfl rfl rfl rfl rfl rfl rfl<|sV (.elt 0 0 (s1).toNat 0)<|bE h fun x6 hx6 h => WO.loadE hx6 rfl rfl rfl rfl rfl rfl ?_
   refine sV (.ptr 48 1)<|sV (.d (T_api_SourceID.pd a1.fSource))<|ite_elim h (fun hb7 h => ?_) (fun hb7 h => ?_)
   ·refine WO.binS (eqN_34 x6.fSource a1.fSource) hb7 rfl rfl rfl rfl rfl ?_
    refine sN<|sO<|cT<|qX<|qE<|WC.region rfl rfl<|sM rfl<|sV (.d (.int .i64 (IntKind.wrap .i64 (s1 + (1 : Int)))))<|sA rfl<|sN ?_
    obtain rfl:=oI h
    exact ⟨rfl, rfl⟩
   refine WO.binS (eqN_34 x6.fSource a1.fSource) hb7 rfl rfl rfl rfl rfl ?_
   refine sN<|sO<|cF<|qK<|qS<|gS rfl rfl<|sV (.d (.int .i64 0))<|sN<|bE h fun o21 ho21 h => WC.block (WC.loop (WL.ofLoop ho21 (fun s R' B' => ghosts prog 1 (A R' B') (hints.at_ 60 6) = some (A [(2, .ptr 32 0), (3, .ptr 48 0), (6, .d (.int .i64 s1)), (7, .d (.int .i64 s))] [(0, .arr 0 37 (d0.map T_api_Channel.pd)), (32, .var [.ref 0 0]), (48, .var [.d (.int .i64 a1.fKind), .d (.str a1.fSource.fNetwork), .d (.str a1.fSource.fStation), .d (.str a1.fSource.fLocation), .d (.str a1.fSource.fChannel), .d (.int .i64 a1.fFrom), .d (.int .i64 a1.fEpoch.fFrom), .d (.int .i64 a1.fEpoch.fTo), .d (.int .i64 a1.fEpoch.fRate.fNum), .d (.int .i64 a1.fEpoch.fRate.fDen), .d (.int .i64 a1.fEpoch.fPosition.fX), .d (.int .i64 a1.fEpoch.fPosition.fY), .d (.int .i64 a1.fEpoch.fPosition.fZ), .d (.lst (a1.fEpoch.fResponse.fStages.map T_api_Stage.pd))])])) (fun o e R' B' => match o with | .inl y => e = .exit 2 ∧ ghosts prog 1 (A R' B') (hints.at_ 60 10) = some (A [(6, .d (.int .i64 y))] [(0, .arr 0 37 (d0.map T_api_Channel.pd))]) | .inr r => e = .ret ∧ finish prog (hints.own 60) Tryz.f60 1 (A R' B') = some (.tup [.d (.int .i64 r.1), .d (.int .i64 r.2.1)], [.arr 0 37 (r.2.2.map T_api_Channel.pd)])) rfl ?_ ?_))
   ·rintro s8 R' B' q10 hI h
    refine qS<|gS rfl hI<|sM rfl<|sV (.ptr 32 0)<|sL rfl<|sM rfl<|bE h fun x12 hx12 h => WO.eltG hx12 rfl rfl rfl rfl rfl rfl rfl rfl<|sV (.elt 0 0 (s1).toNat 4)<|bE h fun x13 hx13 h => WO.loadE hx13 rfl rfl rfl rfl rfl rfl<|sE (.d (.int .i64 (x13.fEpochs.length : Int))) (lenMap _ _)<|sF h (fun h => ?_) fun h => ?_
    ·refine sN<|cT<|qK<|qS<|qB<|WC.regionDSeq rfl rfl<|sV (.ptr 32 0)<|sL rfl<|sM rfl<|bE h fun x16 hx16 h => WO.eltG hx16 rfl rfl rfl rfl rfl rfl rfl rfl<|sV (.elt 0 0 (s1).toNat 4)<|bE h fun x17 hx17 h => WO.loadE hx17 rfl rfl rfl rfl rfl rfl<|sM rfl ?_
     refine bE h fun x18 hx18 h => WO.elemG hx18 rfl rfl rfl rfl rfl rfl rfl rfl rfl<|sV (.cptr [.int .i64 x18.fFrom, .int .i64 x18.fTo, .int .i64 x18.fRate.fNum, .int .i64 x18.fRate.fDen, .int .i64 x18.fPosition.fX, .int .i64 x18.fPosition.fY, .int .i64 x18.fPosition.fZ, .lst (x18.fResponse.fStages.map T_api_Stage.pd)])<|sC rfl<|sV (.ptr 48 5)<|sL rfl<|sF h (fun h => ?_) fun h => ?_
     ·refine sN<|sO<|cT<|gS rfl rfl<|sM rfl<|sM rfl<|sA rfl<|sA rfl<|sN<|qR ?_
      obtain rfl:=oI h
      exact ⟨(fun he => by cases he), rfl, rfl⟩
     refine sN<|sO<|cF<|qK<|WC.region rfl rfl<|sM rfl<|sV (.d (.int .i64 (IntKind.wrap .i64 (s8 + (1 : Int)))))<|sA rfl<|sN ?_
     obtain rfl:=oI h
     exact ⟨rfl, rfl⟩
    refine sN<|cF<|qX ?_
    obtain rfl:=oI h
    exact ⟨(fun he => by cases he), rfl, rfl⟩
   intro e R' B' he hq
   rcases o21 with y22 | r23
   ·obtain ⟨rfl, hI⟩ := hq
    refine qE<|gS rfl hI<|sM rfl<|sA rfl<|sV (.d (.int .i64 (-1)))<|sN<|qR ?_
    obtain rfl:=oI h
    exact ⟨(fun he => by cases he), rfl, rfl⟩
   obtain ⟨rfl, hf⟩ := hq
   obtain rfl:=oI h
   exact ⟨(fun he => by cases he), rfl, hf⟩
  refine sN<|cF<|qX ?_
  obtain rfl:=oI h
  exact ⟨(fun he => by cases he), rfl, rfl⟩
 intro e R' B' he hq
 rcases o25 with y26 | r27
 ·obtain ⟨rfl, hI⟩ := hq
  refine qE<|gS rfl hI<|sV (.d (.int .i64 (-1)))<|sV (.d (.int .i64 (-1)))<|sN<|qR ?_
  obtain rfl:=oI h
  exact qD
 obtain ⟨rfl, hf⟩ := hq
 obtain rfl:=oI h
 exact hf
theorem ref20_conflict_ev {a0 : (List T_api_Epoch)} {a1 : T_api_Epoch} {r : Bool} (h : ref20_conflict a0 a1 = some r) : EvP prog hints ext 61 [.d (.lst (a0.map T_api_Epoch.pd)), .d (T_api_Epoch.pd a1)] [] (.d (.bool r), []) := by
 refine Ev.body rfl Tryz.func61 rfl (by kernel_rfl)<|gS rfl rfl<|sB (.ptr 48 0) 48 (.var [.d (.int .i64 a1.fFrom), .d (.int .i64 a1.fTo), .d (.int .i64 a1.fRate.fNum), .d (.int .i64 a1.fRate.fDen), .d (.int .i64 a1.fPosition.fX), .d (.int .i64 a1.fPosition.fY), .d (.int .i64 a1.fPosition.fZ), .d (.lst (a1.fResponse.fStages.map T_api_Stage.pd))])<|sU<|sN<|qS<|gS rfl rfl<|sV (.d (.int .i64 0))<|sN<|bE h fun o9 ho9 h => WC.block (WC.loop (WL.ofLoop ho9 (fun s R' B' => ghosts prog 0 (A R' B') (hints.at_ 61 2) = some (A [(0, .d (.lst (a0.map T_api_Epoch.pd))), (3, .ptr 48 0), (5, .d (.int .i64 s))] [(48, .var [.d (.int .i64 a1.fFrom), .d (.int .i64 a1.fTo), .d (.int .i64 a1.fRate.fNum), .d (.int .i64 a1.fRate.fDen), .d (.int .i64 a1.fPosition.fX), .d (.int .i64 a1.fPosition.fY), .d (.int .i64 a1.fPosition.fZ), .d (.lst (a1.fResponse.fStages.map T_api_Stage.pd))])])) (fun o e R' B' => match o with | .inl y => e = .exit 0 ∧ ghosts prog 0 (A R' B') (hints.at_ 61 6) = some (A [] []) | .inr r => e = .ret ∧ finish prog (hints.own 61) Tryz.f61 0 (A R' B') = some (.d (.bool r), [])) rfl ?_ ?_))
 ·rintro s1 R' B' q2 hI h
  refine qS<|gS rfl hI<|sM rfl<|sM rfl<|sE (.d (.int .i64 (a0.length : Int))) (lenMap _ _)<|sF h (fun h => ?_) fun h => ?_
  ·refine sN<|cT<|qK<|qS<|qB<|WC.regionDSeq rfl rfl<|sM rfl<|sM rfl<|bE h fun x4 hx4 h => WO.elemG hx4 rfl rfl rfl rfl rfl rfl rfl rfl rfl<|sV (.cptr [.int .i64 x4.fFrom, .int .i64 x4.fTo, .int .i64 x4.fRate.fNum, .int .i64 x4.fRate.fDen, .int .i64 x4.fPosition.fX, .int .i64 x4.fPosition.fY, .int .i64 x4.fPosition.fZ, .lst (x4.fResponse.fStages.map T_api_Stage.pd)])<|sC rfl<|sV (.ptr 48 1)<|sL rfl<|sF h (fun h => ?_) fun h => ?_
   ·refine sM rfl<|sV (.ptr 48 0)<|sL rfl<|sM rfl<|sM rfl<|bE h fun x6 hx6 h => WO.elemG hx6 rfl rfl rfl rfl rfl rfl rfl rfl rfl<|sV (.cptr [.int .i64 x6.fTo, .int .i64 x6.fRate.fNum, .int .i64 x6.fRate.fDen, .int .i64 x6.fPosition.fX, .int .i64 x6.fPosition.fY, .int .i64 x6.fPosition.fZ, .lst (x6.fResponse.fStages.map T_api_Stage.pd)])<|sC rfl<|sV (.d (.bool (decide (a1.fFrom < x6.fTo))))<|sF h (fun h => ?_) fun h => ?_
    ·refine sN<|sO<|cT<|gS rfl rfl<|sT<|sN<|qR ?_
     obtain rfl:=oI h
     exact ⟨(fun he => by cases he), rfl, rfl⟩
    refine sN<|sO<|cF<|qK<|WC.region rfl rfl<|sM rfl<|sV (.d (.int .i64 (IntKind.wrap .i64 (s1 + (1 : Int)))))<|sA rfl<|sN ?_
    obtain rfl:=oI h
    exact ⟨rfl, rfl⟩
   refine sM rfl<|sK<|sK<|sK<|sK<|sK<|sK<|sK<|sK<|sU ?_
   refine sN<|sO<|cF<|qK<|WC.region rfl rfl<|sM rfl<|sV (.d (.int .i64 (IntKind.wrap .i64 (s1 + (1 : Int)))))<|sA rfl<|sN ?_
   obtain rfl:=oI h
   exact ⟨rfl, rfl⟩
  refine sN<|cF<|qX ?_
  obtain rfl:=oI h
  exact ⟨(fun he => by cases he), rfl, rfl⟩
 intro e R' B' he hq
 rcases o9 with y10 | r11
 ·obtain ⟨rfl, hI⟩ := hq
  refine qE<|gS rfl hI<|sU<|sN<|qR ?_
  obtain rfl:=oI h
  exact qD
 obtain ⟨rfl, hf⟩ := hq
 obtain rfl:=oI h
 exact hf
theorem ref20_add_ev {a0 : (List T_api_Epoch)} {a1 : T_api_Epoch} {r : (List T_api_Epoch)} (h : ref20_add a0 a1 = some r) : EvP prog hints ext 62 [.d (.lst (a0.map T_api_Epoch.pd)), .d (T_api_Epoch.pd a1)] [] (.ref 0 0, [.arr 0 46 (r.map T_api_Epoch.pd)]) := by
 refine Ev.body rfl Tryz.func62 rfl (by kernel_rfl)<|gS rfl rfl<|sB (.ptr 48 0) 48 (.var [.d (.int .i64 a1.fFrom), .d (.int .i64 a1.fTo), .d (.int .i64 a1.fRate.fNum), .d (.int .i64 a1.fRate.fDen), .d (.int .i64 a1.fPosition.fX), .d (.int .i64 a1.fPosition.fY), .d (.int .i64 a1.fPosition.fZ), .d (.lst (a1.fResponse.fStages.map T_api_Stage.pd))])<|sV .nils<|sN<|gS rfl rfl<|sV (.d (.int .i64 0))<|sN<|qS<|bE h fun o8 ho8 h => WC.block (WC.loop (WL.ofLoop ho8 (fun s R' B' => ghosts prog 0 (A R' B') (hints.at_ 62 2) = some (A [(0, .d (.lst (a0.map T_api_Epoch.pd))), (3, .ptr 48 0), (5, .d (.int .i64 s))] [(48, .var [.d (.int .i64 a1.fFrom), .d (.int .i64 a1.fTo), .d (.int .i64 a1.fRate.fNum), .d (.int .i64 a1.fRate.fDen), .d (.int .i64 a1.fPosition.fX), .d (.int .i64 a1.fPosition.fY), .d (.int .i64 a1.fPosition.fZ), .d (.lst (a1.fResponse.fStages.map T_api_Stage.pd))])])) (fun o e R' B' => e = .exit 0 ∧ ghosts prog 0 (A R' B') (hints.at_ 62 4) = some (A [(0, .d (.lst (a0.map T_api_Epoch.pd))), (3, .ptr 48 0), (5, .d (.int .i64 o))] [(48, .var [.d (.int .i64 a1.fFrom), .d (.int .i64 a1.fTo), .d (.int .i64 a1.fRate.fNum), .d (.int .i64 a1.fRate.fDen), .d (.int .i64 a1.fPosition.fX), .d (.int .i64 a1.fPosition.fY), .d (.int .i64 a1.fPosition.fZ), .d (.lst (a1.fResponse.fStages.map T_api_Stage.pd))])])) rfl ?_ ?_))
 ·rintro s1 R' B' q3 hI h
  refine qS<|WC.regionDSeq hI rfl<|sM rfl<|sM rfl<|sE (.d (.int .i64 (a0.length : Int))) (lenMap _ _)<|sF h (fun h => ?_) fun h => ?_
  ·refine sM rfl<|sM rfl<|sM rfl<|bE h fun x5 hx5 h => WO.elemG hx5 rfl rfl rfl rfl rfl rfl rfl rfl rfl<|sV (.cptr [.int .i64 x5.fFrom, .int .i64 x5.fTo, .int .i64 x5.fRate.fNum, .int .i64 x5.fRate.fDen, .int .i64 x5.fPosition.fX, .int .i64 x5.fPosition.fY, .int .i64 x5.fPosition.fZ, .lst (x5.fResponse.fStages.map T_api_Stage.pd)])<|sC rfl<|sV (.ptr 48 0)<|sL rfl<|sV (.d (.bool (decide (x5.fFrom < a1.fFrom))))<|sF h (fun h => ?_) fun h => ?_
   ·refine sN<|sO<|cT<|qK<|qB<|WC.region rfl rfl<|sM rfl<|sV (.d (.int .i64 (IntKind.wrap .i64 (s1 + (1 : Int)))))<|sA rfl<|sN ?_
    obtain rfl:=oI h
    exact ⟨rfl, rfl⟩
   refine sN<|sO<|cF<|qX ?_
   obtain rfl:=oI h
   exact ⟨(fun he => by cases he), rfl, rfl⟩
  refine sM rfl<|sK<|sK<|sK<|sK<|sK<|sK<|sK<|sK<|sU ?_
  refine sN<|sO<|cF<|qX ?_
  obtain rfl:=oI h
  exact ⟨(fun he => by cases he), rfl, rfl⟩
 intro e R' B' he hq
 obtain ⟨rfl, hI⟩ := hq
 refine qE<|gS rfl hI<|sM rfl<|sM rfl<|bE h fun x9 hx9 h => WO.cutL (sz := 8) (g := T_api_Epoch.pd) hx9 (fun _ => rfl) rfl rfl rfl rfl rfl rfl rfl rfl rfl rfl rfl<|bE h fun x10 hx10 h => WO.appN hx10 (fun _ => rfl) rfl rfl rfl rfl rfl rfl rfl rfl rfl rfl rfl rfl rfl rfl<|sA rfl<|sN<|WC.regionDSeq rfl rfl<|sM rfl<|sV (.d (T_api_Epoch.pd a1))<|bE h fun x11 hx11 h => cR (.agg [.d (.int .i64 x11.fFrom), .d (.int .i64 x11.fTo), .d (.int .i64 x11.fRate.fNum), .d (.int .i64 x11.fRate.fDen), .d (.int .i64 x11.fPosition.fX), .d (.int .i64 x11.fPosition.fY), .d (.int .i64 x11.fPosition.fZ), .ref 464 0]) [(464, .arr 0 92 (x11.fResponse.fStages.map T_api_Stage.pd))] (ref19_CopyEpoch_ev hx11) ?_
 refine sB (.d (.lst [T_api_Epoch.pd x11])) 464 .dead<|bE h fun x12 hx12 h => WO.appR hx12 (fun _ => rfl) rfl rfl rfl rfl rfl rfl rfl rfl rfl rfl rfl rfl rfl rfl<|sM rfl<|sM rfl<|bE h fun x13 hx13 h => WO.cutL (sz := 8) (g := T_api_Epoch.pd) hx13 (fun _ => rfl) rfl rfl rfl rfl rfl rfl rfl rfl rfl rfl rfl<|bE h fun x14 hx14 h => WO.appR hx14 (fun _ => rfl) rfl rfl rfl rfl rfl rfl rfl rfl rfl rfl rfl rfl rfl rfl<|sA rfl ?_
 refine sN<|sO<|qR ?_
 obtain rfl:=oI h
 exact qD
theorem ref20_Apply_ev {a0 : T_api_Inventory} {a1 : T_api_Change} {r : T_api_Inventory × Int} (h : ref20_Apply a0 a1 = some r) : EvP prog hints ext 33 [.d (T_api_Inventory.pd a0), .d (T_api_Change.pd a1)] [] (.tup [.d (T_api_Inventory.pd r.1), .d (.int .i64 r.2)], []) := by
 refine Ev.body rfl Tryz.func33 rfl (by kernel_rfl)<|gS rfl rfl<|sB (.ptr 32 0) 32 (.var [.d (.lst (a0.fChannels.map T_api_Channel.pd))])<|sB (.ptr 48 0) 48 (.var [.d (.int .i64 a1.fKind), .d (.str a1.fSource.fNetwork), .d (.str a1.fSource.fStation), .d (.str a1.fSource.fLocation), .d (.str a1.fSource.fChannel), .d (.int .i64 a1.fFrom), .d (.int .i64 a1.fEpoch.fFrom), .d (.int .i64 a1.fEpoch.fTo), .d (.int .i64 a1.fEpoch.fRate.fNum), .d (.int .i64 a1.fEpoch.fRate.fDen), .d (.int .i64 a1.fEpoch.fPosition.fX), .d (.int .i64 a1.fEpoch.fPosition.fY), .d (.int .i64 a1.fEpoch.fPosition.fZ), .d (.lst (a1.fEpoch.fResponse.fStages.map T_api_Stage.pd))])<|sB (.ptr 64 0) 64 (.var [.nils])<|sV (.d (.int .i64 0))<|sN<|qS<|gS rfl rfl<|sV (.d (T_api_Inventory.pd a0))<|sV (.d (T_api_Change.pd a1))<|bE h fun x1 hx1 h => cD (ref20_fits_ev hx1)<|sF h (fun h => ?_) fun h => ?_
 ·refine sN<|cT<|gS rfl rfl<|sV (.agg [.nils])<|sS 64 (.var [.nils])<|sV (.d (.int .i64 1))<|sN<|qR ?_
  obtain rfl:=oI h
  exact qD
 refine sN<|cF<|qK<|gS rfl rfl<|sV (.d (T_api_Inventory.pd a0))<|bE h fun x3 hx3 h => cR (.agg [.ref 256 0]) [(256, .arr 0 37 (x3.fChannels.map T_api_Channel.pd))] (ref19_Copy_ev hx3)<|sB (.ptr 96 0) 96 (.var [.nils])<|sS 96 (.var [.ref 256 0])<|sN<|gS rfl rfl<|sV (.agg [.ref 256 0])<|sV (.d (T_api_Change.pd a1))<|bE h fun x4 hx4 h => cR (.tup [.d (.int .i64 x4.1), .d (.int .i64 x4.2.1)]) [(256, .arr 0 37 (x4.2.2.map T_api_Channel.pd))] (ref20_place_ev hx4) ?_
 refine sM rfl<|sV (.d (.int .i64 x4.1))<|sV (.d (.int .i64 x4.2.1))<|sA rfl<|sA rfl<|sN<|WC.join (α := (List T_api_Channel)) (fun x R' B' => ghosts prog 0 (A R' B') (hints.at_ 33 10) = some (A [(3, .ptr 48 0), (4, .ptr 64 0), (6, .ptr 96 0), (7, .d (.int .i64 x4.1))] [(48, .var [.d (.int .i64 a1.fKind), .d (.str a1.fSource.fNetwork), .d (.str a1.fSource.fStation), .d (.str a1.fSource.fLocation), .d (.str a1.fSource.fChannel), .d (.int .i64 a1.fFrom), .d (.int .i64 a1.fEpoch.fFrom), .d (.int .i64 a1.fEpoch.fTo), .d (.int .i64 a1.fEpoch.fRate.fNum), .d (.int .i64 a1.fEpoch.fRate.fDen), .d (.int .i64 a1.fEpoch.fPosition.fX), .d (.int .i64 a1.fEpoch.fPosition.fY), .d (.int .i64 a1.fEpoch.fPosition.fZ), .d (.lst (a1.fEpoch.fResponse.fStages.map T_api_Stage.pd))]), (64, .var [.nils]), (96, .var [.ref 256 0]), (256, .arr 0 37 (x.map T_api_Channel.pd))])) (fun x => ref20_Apply_k60 a1 x4 x = some r) ?_ ?_
 ·refine gS rfl rfl<|sV (.ptr 48 0)<|sL rfl<|sF h (fun h => ?_) fun h => ?_
  ·refine sN<|cT<|qS<|gS rfl rfl<|sM rfl<|sF h (fun h => ?_) fun h => ?_
   ·refine sN<|cT<|gS rfl rfl<|sV (.agg [.nils])<|sS 64 (.var [.nils])<|sV (.d (.int .i64 6))<|sN<|qR ?_
    obtain rfl:=oI h
    exact qD
   refine sN<|cF<|qK<|gS rfl rfl<|sV (.ptr 96 0)<|sL rfl<|sM rfl<|bE h fun x64 hx64 h => WO.eltG hx64 rfl rfl rfl rfl rfl rfl rfl rfl<|sV (.elt 256 0 (x4.1).toNat 4)<|bE h fun x65 hx65 h => WO.loadE hx65 rfl rfl rfl rfl rfl rfl<|sA rfl<|sN<|WC.regionD rfl rfl ?_
   refine sV (.ptr 96 0)<|sL rfl<|sM rfl<|sM rfl<|sM rfl<|bE h fun x66 hx66 h => WO.cutL (sz := 8) (g := T_api_Epoch.pd) hx66 (fun _ => rfl) rfl rfl rfl rfl rfl rfl rfl rfl rfl rfl rfl<|bE h fun x67 hx67 h => WO.appN hx67 (fun _ => rfl) rfl rfl rfl rfl rfl rfl rfl rfl rfl rfl rfl rfl rfl rfl<|sM rfl<|sM rfl<|sV (.d (.int .i64 (IntKind.wrap .i64 (x4.2.1 + (1 : Int)))))<|bE h fun x68 hx68 h => WO.cutL (sz := 8) (g := T_api_Epoch.pd) hx68 (fun _ => rfl) rfl rfl rfl rfl rfl rfl rfl rfl rfl rfl rfl<|bE h fun x69 hx69 h => ?_
   refine WO.appR hx69 (fun _ => rfl) rfl rfl rfl rfl rfl rfl rfl rfl rfl rfl rfl rfl rfl rfl<|bE h fun x71 hx71 h => WO.eltG hx71 rfl rfl rfl rfl rfl rfl rfl rfl<|sV (.elt 256 0 (x4.1).toNat 4)<|bE h fun x72 hx72 h => WO.storeF (g := T_api_Channel.pd) (u := [(656, .dead)]) (sz := 1) hx72 (fun _ => rfl) (fun _ => Nat.le_of_ble_eq_true rfl) rfl rfl rfl rfl rfl rfl rfl rfl rfl rfl rfl ?_
   exact sN<|sO<|⟨x72, rfl, h⟩
  exact sN<|cF<|qK<|⟨x4.2.2, rfl, h⟩
 rintro j5 R' B' hI h
 refine qS<|gS rfl hI<|sV (.ptr 48 0)<|sL rfl<|sF h (fun h => ?_) fun h => ?_
 ·refine sN<|cT<|WC.join (α := (List T_api_Channel)) (fun x R' B' => ghosts prog 0 (A R' B') (hints.at_ 33 13) = some (A [(4, .ptr 64 0), (6, .ptr 96 0)] [(64, .var [.nils]), (96, .var [.d (.lst (x.map T_api_Channel.pd))])])) (fun x => ref20_Apply_k8 x = some r) ?_ ?_
  ·refine gS rfl rfl<|sV (.ptr 96 0)<|sL rfl<|sM rfl<|bE h fun x10 hx10 h => WO.eltG hx10 rfl rfl rfl rfl rfl rfl rfl rfl<|sV (.elt 256 0 (x4.1).toNat 4)<|bE h fun x11 hx11 h => WO.loadE hx11 rfl rfl rfl rfl rfl rfl<|sE (.d (.int .i64 (x11.fEpochs.length : Int))) (lenMap _ _)<|sF h (fun h => ?_) fun h => ?_
   ·refine sN<|cT<|WC.regionD rfl rfl<|sV (.ptr 96 0)<|sL rfl<|sM rfl<|sM rfl<|bE h fun x13 hx13 h => WO.sliceFG hx13 rfl rfl rfl rfl rfl rfl rfl rfl rfl rfl rfl rfl rfl rfl<|sV (.ptr 96 0)<|sL rfl<|sM rfl<|sV (.d (.int .i64 (IntKind.wrap .i64 (x4.1 + (1 : Int)))))<|bE h fun x14 hx14 h => WO.subR hx14 rfl rfl rfl rfl rfl rfl rfl rfl rfl rfl rfl rfl ?_
    refine bE h fun x15 hx15 h => bE h fun x16 hx16 h => WO.appF hx16 hx13 (fun _ => rfl) rfl rfl rfl rfl rfl rfl rfl rfl (appendee_view hx15 rfl) rfl rfl rfl rfl rfl rfl<|sV (.ptr 96 0)<|sS 96 (.var [.d (.lst (x16.map T_api_Channel.pd))]) ?_
    exact sN<|sO<|⟨x16, rfl, h⟩
   exact sN<|cF<|qK<|⟨j5, rfl, h⟩
  rintro j7 R' B' hI h
  refine gS rfl hI<|sV (.d (T_api_Inventory.pd (T_api_Inventory.mk j7)))<|sS 64 (.var [.d (.lst (((T_api_Inventory.mk j7).fChannels).map T_api_Channel.pd))])<|sV (.d (.int .i64 0))<|sN<|qR ?_
  obtain rfl:=oI h
  exact qD
 refine sN<|cF<|qK<|WC.join (α := Int × (List T_api_Channel)) (fun x R' B' => ghosts prog 0 (A R' B') (hints.at_ 33 21) = some (A [(3, .ptr 48 0), (4, .ptr 64 0), (6, .ptr 96 0), (7, .d (.int .i64 x.1))] [(48, .var [.d (.int .i64 a1.fKind), .d (.str a1.fSource.fNetwork), .d (.str a1.fSource.fStation), .d (.str a1.fSource.fLocation), .d (.str a1.fSource.fChannel), .d (.int .i64 a1.fFrom), .d (.int .i64 a1.fEpoch.fFrom), .d (.int .i64 a1.fEpoch.fTo), .d (.int .i64 a1.fEpoch.fRate.fNum), .d (.int .i64 a1.fEpoch.fRate.fDen), .d (.int .i64 a1.fEpoch.fPosition.fX), .d (.int .i64 a1.fEpoch.fPosition.fY), .d (.int .i64 a1.fEpoch.fPosition.fZ), .d (.lst (a1.fEpoch.fResponse.fStages.map T_api_Stage.pd))]), (64, .var [.nils]), (96, .var [.ref 256 0]), (256, .arr 0 37 (x.2.map T_api_Channel.pd))])) (fun x => ref20_Apply_k37 a1 x.1 x.2 = some r) ?_ ?_
 ·refine gS rfl rfl<|sM rfl<|sF h (fun h => ?_) fun h => ?_
  ·refine sN<|cT<|gS rfl rfl<|sV (.d (.int .i64 0))<|sN<|qS<|bE h fun o49 ho49 h => WC.block (WC.loop (WL.ofLoop ho49 (fun s R' B' => ghosts prog 0 (A R' B') (hints.at_ 33 16) = some (A [(3, .ptr 48 0), (4, .ptr 64 0), (6, .ptr 96 0), (7, .d (.int .i64 s))] [(48, .var [.d (.int .i64 a1.fKind), .d (.str a1.fSource.fNetwork), .d (.str a1.fSource.fStation), .d (.str a1.fSource.fLocation), .d (.str a1.fSource.fChannel), .d (.int .i64 a1.fFrom), .d (.int .i64 a1.fEpoch.fFrom), .d (.int .i64 a1.fEpoch.fTo), .d (.int .i64 a1.fEpoch.fRate.fNum), .d (.int .i64 a1.fEpoch.fRate.fDen), .d (.int .i64 a1.fEpoch.fPosition.fX), .d (.int .i64 a1.fEpoch.fPosition.fY), .d (.int .i64 a1.fEpoch.fPosition.fZ), .d (.lst (a1.fEpoch.fResponse.fStages.map T_api_Stage.pd))]), (64, .var [.nils]), (96, .var [.ref 256 0]), (256, .arr 0 37 (j5.map T_api_Channel.pd))])) (fun o e R' B' => e = .exit 0 ∧ ghosts prog 0 (A R' B') (hints.at_ 33 18) = some (A [(3, .ptr 48 0), (4, .ptr 64 0), (6, .ptr 96 0), (7, .d (.int .i64 o))] [(48, .var [.d (.int .i64 a1.fKind), .d (.str a1.fSource.fNetwork), .d (.str a1.fSource.fStation), .d (.str a1.fSource.fLocation), .d (.str a1.fSource.fChannel), .d (.int .i64 a1.fFrom), .d (.int .i64 a1.fEpoch.fFrom), .d (.int .i64 a1.fEpoch.fTo), .d (.int .i64 a1.fEpoch.fRate.fNum), .d (.int .i64 a1.fEpoch.fRate.fDen), .d (.int .i64 a1.fEpoch.fPosition.fX), .d (.int .i64 a1.fEpoch.fPosition.fY), .d (.int .i64 a1.fEpoch.fPosition.fZ), .d (.lst (a1.fEpoch.fResponse.fStages.map T_api_Stage.pd))]), (64, .var [.nils]), (96, .var [.ref 256 0]), (256, .arr 0 37 (j5.map T_api_Channel.pd))])) rfl ?_ ?_))
   ·rintro s39 R' B' q41 hI h
    refine qS<|WC.regionDSeq hI rfl<|sM rfl<|sV (.ptr 96 0)<|sL rfl<|WO.lenR rfl rfl rfl rfl rfl rfl rfl rfl rfl<|sF h (fun h => ?_) fun h => ?_
    ·refine sM rfl<|sV (.ptr 96 0)<|sL rfl<|sM rfl<|bE h fun x44 hx44 h => WO.eltG hx44 rfl rfl rfl rfl rfl rfl rfl rfl<|sV (.elt 256 0 (s39).toNat 0)<|bE h fun x45 hx45 h => WO.loadE hx45 rfl rfl rfl rfl rfl rfl<|sV (.ptr 48 1)<|sV (.d (T_api_SourceID.pd a1.fSource))<|bE h fun x46 hx46 h => cD (ref03_Compare_ev hx46)<|sV (.d (.bool (decide (x46 < (0 : Int)))))<|sF h (fun h => ?_) fun h => ?_
     ·refine sN<|sO<|cT<|qK<|qB<|WC.region rfl rfl<|sM rfl<|sV (.d (.int .i64 (IntKind.wrap .i64 (s39 + (1 : Int)))))<|sA rfl<|sN ?_
      obtain rfl:=oI h
      exact ⟨rfl, rfl⟩
     refine sN<|sO<|cF<|qX ?_
     obtain rfl:=oI h
     exact ⟨(fun he => by cases he), rfl, rfl⟩
    refine sM rfl<|sK<|sK<|sK<|sK<|sK<|sK<|sK<|sK<|sK<|sK<|sU ?_
    refine sN<|sO<|cF<|qX ?_
    obtain rfl:=oI h
    exact ⟨(fun he => by cases he), rfl, rfl⟩
   intro e R' B' he hq
   obtain ⟨rfl, hI⟩ := hq
   refine qE<|gS rfl hI<|sV (.ptr 96 0)<|sL rfl<|sV (.agg [.d (.str []), .d (.str []), .d (.str []), .d (.str []), .nils])<|sV (.d (.lst ([(T_api_Channel.mk (T_api_SourceID.mk [] [] [] []) [])].map T_api_Channel.pd)))<|bE h fun x50 hx50 h => WO.appR hx50 (fun _ => rfl) rfl rfl rfl rfl rfl rfl rfl rfl rfl rfl rfl rfl rfl rfl<|sV (.ptr 96 0)<|sS 96 (.var [.ref 256 1])<|sN<|WC.regionDSeq rfl rfl<|sV (.ptr 96 0)<|sL rfl<|sM rfl ?_
   refine sV (.d (.int .i64 (IntKind.wrap .i64 (o49 + (1 : Int)))))<|bE h fun x51 hx51 h => WO.subR hx51 rfl rfl rfl rfl rfl rfl rfl rfl rfl rfl rfl rfl<|sV (.ptr 96 0)<|sL rfl<|sM rfl<|bE h fun x52 hx52 h => WO.subR hx52 rfl rfl rfl rfl rfl rfl rfl rfl rfl rfl rfl rfl<|bE h fun x53 hx53 h => bE h fun x54 hx54 h => WO.copyG rfl rfl rfl rfl rfl rfl rfl rfl (dst_view hx53 rfl) (src_view hx54 rfl) rfl rfl (fun _ => rfl) ?_
   exact sN<|sO<|WC.region rfl rfl<|sV (.ptr 96 0)<|sL rfl<|sM rfl<|sV (.ptr 48 1)<|sV (.d (T_api_SourceID.pd a1.fSource))<|sV (.agg [.d (.str a1.fSource.fNetwork), .d (.str a1.fSource.fStation), .d (.str a1.fSource.fLocation), .d (.str a1.fSource.fChannel), .nils])<|bE h fun x57 hx57 h => WO.eltG hx57 rfl rfl rfl rfl rfl rfl rfl rfl<|bE h fun x58 hx58 h => WO.storeF (g := T_api_Channel.pd) (u := []) (sz := 5) hx58 (fun _ => rfl) (fun _ => Nat.le_of_ble_eq_true rfl) rfl rfl rfl rfl rfl rfl rfl rfl rfl rfl rfl<|sN<|⟨(o49, x58), rfl, h⟩
  exact sN<|cF<|qK<|⟨(x4.1, j5), rfl, h⟩
 rintro ⟨j17, j18⟩ R' B' hI h
 refine qS<|WC.regionDSeq hI rfl<|sV (.ptr 96 0)<|sL rfl<|sM rfl<|bE h fun x20 hx20 h => WO.eltG hx20 rfl rfl rfl rfl rfl rfl rfl rfl<|sV (.elt 256 0 (j17).toNat 4)<|bE h fun x21 hx21 h => WO.loadE hx21 rfl rfl rfl rfl rfl rfl<|sV (.ptr 48 6)<|sV (.d (T_api_Epoch.pd a1.fEpoch))<|bE h fun x22 hx22 h => ite_elim h (fun hb23 h => ?_) (fun hb23 h => ?_)
 ·refine WO.callR (v := .d (.bool true)) (u := []) rfl rfl (fun _ => rfl) rfl rfl rfl rfl rfl (ref20_conflict_ev hx22) rfl rfl (congrArg (fun b => RV.d (.bool b)) hb23) rfl ?_
  refine sN<|sO<|cT<|gS rfl rfl<|sV (.agg [.nils])<|sS 64 (.var [.nils])<|sV (.d (.int .i64 11))<|sN<|qR ?_
  obtain rfl:=oI h
  exact qD
 refine WO.callR (v := .d (.bool false)) (u := []) rfl rfl (fun _ => rfl) rfl rfl rfl rfl rfl (ref20_conflict_ev hx22) rfl rfl (congrArg (fun b => RV.d (.bool b)) hb23) rfl ?_
 refine sN<|sO<|cF<|qK<|WC.regionDSeq rfl rfl<|sV (.ptr 96 0)<|sL rfl<|sM rfl<|sV (.ptr 96 0)<|sL rfl<|sM rfl<|bE h fun x25 hx25 h => WO.eltG hx25 rfl rfl rfl rfl rfl rfl rfl rfl<|sV (.elt 256 0 (j17).toNat 4)<|bE h fun x26 hx26 h => WO.loadE hx26 rfl rfl rfl rfl rfl rfl ?_
 refine sV (.ptr 48 6)<|sV (.d (T_api_Epoch.pd a1.fEpoch))<|bE h fun x27 hx27 h => cR (.ref 2208 0) [(2208, .arr 0 46 (x27.map T_api_Epoch.pd))] (ref20_add_ev hx27)<|bE h fun x29 hx29 h => WO.eltG hx29 rfl rfl rfl rfl rfl rfl rfl rfl<|sV (.elt 256 0 (j17).toNat 4)<|bE h fun x30 hx30 h => WO.storeF (g := T_api_Channel.pd) (u := [(2208, .dead)]) (sz := 1) hx30 (fun _ => rfl) (fun _ => Nat.le_of_ble_eq_true rfl) rfl rfl rfl rfl rfl rfl rfl rfl rfl rfl rfl ?_
 refine sN<|sO<|qS<|gS rfl rfl<|sV (.ptr 96 0)<|sL rfl<|WO.lenR rfl rfl rfl rfl rfl rfl rfl rfl rfl<|sF h (fun h => ?_) fun h => ?_
 ·refine sM rfl<|sK<|sK<|sK<|sK<|sK<|sK<|sK<|sK<|sT<|sN<|cT<|gS rfl rfl<|sV (.agg [.nils])<|sS 64 (.var [.nils]) ?_
  refine sV (.d (.int .i64 8))<|sN<|qR ?_
  obtain rfl:=oI h
  exact qD
 refine sM rfl<|sV (.ptr 96 0)<|sL rfl<|sM rfl<|bE h fun x34 hx34 h => WO.eltG hx34 rfl rfl rfl rfl rfl rfl rfl rfl<|sV (.elt 256 0 (j17).toNat 4)<|bE h fun x35 hx35 h => WO.loadE hx35 rfl rfl rfl rfl rfl rfl<|sE (.d (.int .i64 (x35.fEpochs.length : Int))) (lenMap _ _)<|sV (.d (.bool (decide ((x35.fEpochs.length : Int) > (32 : Int)))))<|sF h (fun h => ?_) fun h => ?_
 ·refine sN<|cT<|gS rfl rfl<|sV (.agg [.nils])<|sS 64 (.var [.nils])<|sV (.d (.int .i64 8))<|sN<|qR ?_
  obtain rfl:=oI h
  exact qD
 refine sN<|cF<|qK<|gS rfl rfl<|sV (.agg [.ref 256 0])<|sS 64 (.var [.ref 256 0])<|sV (.d (.int .i64 0))<|sN<|qR ?_
 obtain rfl:=oI h
 exact qD
theorem Dice_Inventory_ev {a1 : Int} {d0 : T_seismonetmade_Dice} {r : T_api_Inventory × T_seismonetmade_Dice} (h : Dice_Inventory a1 d0 = some r) : EvP prog hints ext 8 [.ptr 0 0, .d (.int .i64 a1)] [.var [.d (.lst (d0.fL.map (PD.int .i64))), .d (.int .i64 d0.fAt)]] (.d (T_api_Inventory.pd r.1), [.var [.d (.lst (r.2.fL.map (PD.int .i64))), .d (.int .i64 r.2.fAt)]]) := by
 refine Ev.body rfl Tryz.func8 rfl (by kernel_rfl)<|gS rfl rfl<|sB (.ptr 64 0) 64 (.var [.nils])<|sN<|gS rfl rfl<|sB (.ptr 80 0) 80 (.var [.nils])<|sN<|qS<|gS rfl rfl<|sM rfl<|sM rfl<|sV (.d (.int .i64 (IntKind.wrap .i64 (a1 + (1 : Int)))))<|bE h fun x1 hx1 h => cR (.d (.int .i64 x1.1)) [(0, .var [.d (.lst (x1.2.fL.map (PD.int .i64))), .d (.int .i64 x1.2.fAt)])] (Dice_Next_ev hx1)<|sA rfl ?_
 refine sN<|bE h fun o18 ho18 h => WC.block (WC.loop (WL.ofLoop ho18 (fun s R' B' => ghosts prog 1 (A R' B') (hints.at_ 8 3) = some (A [(0, .ptr 0 0), (4, .ptr 64 0), (5, .ptr 80 0), (6, .d (.int .i64 s.1))] [(0, .var [.d (.lst (s.2.1.map (PD.int .i64))), .d (.int .i64 s.2.2.1)]), (64, .var [.nils]), (80, .var [.d (.lst (s.2.2.2.map T_api_Channel.pd))])])) (fun o e R' B' => e = .exit 0 ∧ ghosts prog 1 (A R' B') (hints.at_ 8 8) = some (A [(4, .ptr 64 0), (5, .ptr 80 0)] [(0, .var [.d (.lst (o.2.1.map (PD.int .i64))), .d (.int .i64 o.2.2)]), (64, .var [.nils]), (80, .var [.d (.lst (o.1.map T_api_Channel.pd))])])) rfl ?_ ?_))
 ·rintro ⟨s5, s6, s7, s8⟩ R' B' q12 hI h
  refine qS<|gS rfl hI<|sM rfl<|sF h (fun h => ?_) fun h => ?_
  ·refine sN<|cT<|qK<|qS<|qB<|WC.regionDSeq rfl rfl<|sV (.d (T_api_Inventory.pd (T_api_Inventory.mk s8)))<|sM rfl<|sV (.d (T_api_Inventory.pd (T_api_Inventory.mk s8)))<|bE h fun x14 hx14 h => cR (.d (T_api_Change.pd x14.1)) [(0, .var [.d (.lst (x14.2.fL.map (PD.int .i64))), .d (.int .i64 x14.2.fAt)])] (Dice_Change_ev hx14)<|bE h fun x15 hx15 h => cR (.tup [.d (T_api_Inventory.pd x15.1), .d (.int .i64 x15.2)]) [] (ref20_Apply_ev hx15)<|sM rfl<|sV (.d (T_api_Inventory.pd x15.1)) ?_
   refine sV (.d (.int .i64 x15.2))<|sB (.ptr 112 0) 112 (.var [.nils])<|sS 112 (.var [.d (.lst (x15.1.fChannels.map T_api_Channel.pd))])<|sA rfl ?_
   refine sN<|sO<|gS rfl rfl<|sM rfl<|sF h (fun h => ?_) fun h => ?_
   ·refine sN<|cT<|WC.region rfl rfl<|sV (.d (T_api_Inventory.pd x15.1))<|sS 80 (.var [.d (.lst (x15.1.fChannels.map T_api_Channel.pd))])<|sN<|WC.region rfl rfl<|sM rfl<|sV (.d (.int .i64 (IntKind.wrap .i64 (s5 - (1 : Int)))))<|sA rfl<|sN ?_
    obtain rfl:=oI h
    exact ⟨rfl, rfl⟩
   refine sN<|cF<|qK<|WC.region rfl rfl<|sM rfl<|sV (.d (.int .i64 (IntKind.wrap .i64 (s5 - (1 : Int)))))<|sA rfl<|sN ?_
   obtain rfl:=oI h
   exact ⟨rfl, rfl⟩
  refine sN<|cF<|qX ?_
  obtain rfl:=oI h
  exact ⟨(fun he => by cases he), rfl, rfl⟩
 intro e R' B' he hq
 obtain ⟨rfl, hI⟩ := hq
 refine qE<|gS rfl hI<|sV (.d (T_api_Inventory.pd (T_api_Inventory.mk o18.1)))<|sS 64 (.var [.d (.lst (((T_api_Inventory.mk o18.1).fChannels).map T_api_Channel.pd))])<|sN<|qR ?_
 obtain rfl:=oI h
 exact qD
theorem ref08_Has_ev {a0 : (List T_api_Span)} {a1 : Int} {r : Bool} (h : ref08_Has a0 a1 = some r) : EvP prog hints ext 10 [.d (.lst (a0.map T_api_Span.pd)), .d (.int .i64 a1)] [] (.d (.bool r), []) := by
 refine Ev.body rfl Tryz.func10 rfl (by kernel_rfl)<|gS rfl rfl<|sU<|sN<|qS<|gS rfl rfl<|sV (.d (.int .i64 0))<|sN<|bE h fun o9 ho9 h => WC.block (WC.loop (WL.ofLoop ho9 (fun s R' B' => ghosts prog 0 (A R' B') (hints.at_ 10 2) = some (A [(0, .d (.lst (a0.map T_api_Span.pd))), (1, .d (.int .i64 a1)), (5, .d (.int .i64 s))] [])) (fun o e R' B' => match o with | .inl y => e = .exit 0 ∧ ghosts prog 0 (A R' B') (hints.at_ 10 6) = some (A [] []) | .inr r => e = .ret ∧ finish prog (hints.own 10) Tryz.f10 0 (A R' B') = some (.d (.bool r), [])) rfl ?_ ?_))
 ·rintro s1 R' B' q2 hI h
  refine qS<|gS rfl hI<|sM rfl<|sM rfl<|sE (.d (.int .i64 (a0.length : Int))) (lenMap _ _)<|sF h (fun h => ?_) fun h => ?_
  ·refine sN<|cT<|qK<|qS<|qB<|gS rfl rfl<|sM rfl<|sM rfl<|bE h fun x4 hx4 h => WO.elemG hx4 rfl rfl rfl rfl rfl rfl rfl rfl rfl<|sV (.cptr [.int .i64 x4.fFrom, .int .i64 x4.fTo])<|sC rfl<|sM rfl<|sF h (fun h => ?_) fun h => ?_
   ·refine sM rfl<|sM rfl<|sM rfl<|sM rfl<|bE h fun x6 hx6 h => WO.elemG hx6 rfl rfl rfl rfl rfl rfl rfl rfl rfl<|sV (.cptr [.int .i64 x6.fTo])<|sC rfl<|sV (.d (.bool (decide (a1 < x6.fTo))))<|sF h (fun h => ?_) fun h => ?_
    ·refine sN<|cT<|gS rfl rfl<|sT<|sN<|qR ?_
     obtain rfl:=oI h
     exact ⟨(fun he => by cases he), rfl, rfl⟩
    refine sN<|cF<|qK<|WC.region rfl rfl<|sM rfl<|sV (.d (.int .i64 (IntKind.wrap .i64 (s1 + (1 : Int)))))<|sA rfl<|sN ?_
    obtain rfl:=oI h
    exact ⟨rfl, rfl⟩
   refine sM rfl<|sK<|sK<|sK<|sK<|sK<|sK<|sK<|sU<|sN<|cF<|qK<|WC.region rfl rfl<|sM rfl<|sV (.d (.int .i64 (IntKind.wrap .i64 (s1 + (1 : Int))))) ?_
   refine sA rfl<|sN ?_
   obtain rfl:=oI h
   exact ⟨rfl, rfl⟩
  refine sN<|cF<|qX ?_
  obtain rfl:=oI h
  exact ⟨(fun he => by cases he), rfl, rfl⟩
 intro e R' B' he hq
 rcases o9 with y10 | r11
 ·obtain ⟨rfl, hI⟩ := hq
  refine qE<|gS rfl hI<|sU<|sN<|qR ?_
  obtain rfl:=oI h
  exact qD
 obtain ⟨rfl, hf⟩ := hq
 obtain rfl:=oI h
 exact hf
theorem slices_Equal_int_ev {a0 : (List Int)} {a1 : (List Int)} {r : Bool} (h : slices_Equal_int a0 a1 = some r) : EvP prog hints ext 75 [.d (.lst (a0.map (PD.int .i64))), .d (.lst (a1.map (PD.int .i64)))] [] (.d (.bool r), []) := by
 refine Ev.body rfl Tryz.func75 rfl (by kernel_rfl)<|gS rfl rfl<|sU<|sN<|qS<|gS rfl rfl<|sM rfl<|sE (.d (.int .i64 (a0.length : Int))) (lenMap _ _)<|sM rfl<|sE (.d (.int .i64 (a1.length : Int))) (lenMap _ _)<|sF h (fun h => ?_) fun h => ?_
 ·refine sN<|cT<|gS rfl rfl<|sU<|sN<|qR ?_
  obtain rfl:=oI h
  exact qD
 refine sN<|cF<|qK<|qS<|gS rfl rfl<|sM rfl<|sE (.d (.int .i64 (a0.length : Int))) (lenMap _ _)<|sV (.d (.int .i64 0))<|sN<|bE h fun o9 ho9 h => WC.block (WC.loop (WL.ofLoop ho9 (fun s R' B' => ghosts prog 0 (A R' B') (hints.at_ 75 4) = some (A [(0, .d (.lst (a0.map (PD.int .i64)))), (1, .d (.lst (a1.map (PD.int .i64)))), (12, .d (.int .i64 (a0.length : Int))), (13, .d (.int .i64 s))] [])) (fun o e R' B' => match o with | .inl y => e = .exit 0 ∧ ghosts prog 0 (A R' B') (hints.at_ 75 9) = some (A [] []) | .inr r => e = .ret ∧ finish prog (hints.own 75) Tryz.f75 0 (A R' B') = some (.d (.bool r), [])) rfl ?_ ?_))
 ·rintro s2 R' B' q3 hI h
  refine gS rfl hI<|sF h (fun h => ?_) fun h => ?_
  ·refine sN<|qS<|cT<|qK<|qS<|qB<|gS rfl rfl<|sM rfl<|sA rfl<|sN<|WC.regionDSeq rfl rfl<|sM rfl<|sM rfl<|bE h fun x5 hx5 h => WO.elemG hx5 rfl rfl rfl rfl rfl rfl rfl rfl rfl ?_
   refine sC rfl<|sM rfl<|sM rfl<|bE h fun x6 hx6 h => WO.elemG hx6 rfl rfl rfl rfl rfl rfl rfl rfl rfl<|sC rfl<|sF h (fun h => ?_) fun h => ?_
   ·refine sN<|sO<|cT<|gS rfl rfl<|sU<|sN<|qR ?_
    obtain rfl:=oI h
    exact ⟨(fun he => by cases he), rfl, rfl⟩
   refine sN<|sO<|cF<|qK<|WC.region rfl rfl<|sV (.d (.int .i64 (IntKind.wrap .i64 (s2 + (1 : Int)))))<|sM rfl<|sN ?_
   obtain rfl:=oI h
   exact ⟨rfl, rfl⟩
  refine sN<|qS<|cF<|qX ?_
  obtain rfl:=oI h
  exact ⟨(fun he => by cases he), rfl, rfl⟩
 intro e R' B' he hq
 rcases o9 with y10 | r11
 ·obtain ⟨rfl, hI⟩ := hq
  refine qE<|gS rfl hI<|sT<|sN<|qR ?_
  obtain rfl:=oI h
  exact qD
 obtain ⟨rfl, hf⟩ := hq
 obtain rfl:=oI h
 exact hf
theorem response_Same_lit1_ev {a0 : T_api_Stage} {a1 : T_api_Stage} {r : Bool} (h : response_Same_lit1 a0 a1 = some r) : EvP prog hints ext 74 [.d (T_api_Stage.pd a0), .d (T_api_Stage.pd a1)] [] (.d (.bool r), []) := by
 refine Ev.body rfl Tryz.func74 rfl (by kernel_rfl)<|gS rfl rfl<|sB (.ptr 32 0) 32 (.var [.d (.int .i64 a0.fKind), .d (.int .i64 a0.fNum.a0), .d (.int .i64 a0.fNum.a1), .d (.int .i64 a0.fNum.a2), .d (.int .i64 a0.fDen.a0), .d (.int .i64 a0.fDen.a1), .d (.int .i64 a0.fDen.a2), .d (.lst (a0.fTaps.map (PD.int .i64))), .d (.int .i64 a0.fFactor), .d (.int .i64 a0.fShift)])<|sB (.ptr 48 0) 48 (.var [.d (.int .i64 a1.fKind), .d (.int .i64 a1.fNum.a0), .d (.int .i64 a1.fNum.a1), .d (.int .i64 a1.fNum.a2), .d (.int .i64 a1.fDen.a0), .d (.int .i64 a1.fDen.a1), .d (.int .i64 a1.fDen.a2), .d (.lst (a1.fTaps.map (PD.int .i64))), .d (.int .i64 a1.fFactor), .d (.int .i64 a1.fShift)])<|sU<|sN<|gS rfl rfl<|sV (.ptr 32 0)<|sL rfl<|sV (.ptr 48 0)<|sL rfl<|sF h (fun h => ?_) fun h => ?_
 ·refine sM rfl<|sV (.ptr 32 1)<|sV (.d (A3_Int.pd a0.fNum))<|sV (.ptr 48 1)<|sV (.d (A3_Int.pd a1.fNum))<|WO.bin (eqE_90 a0.fNum a1.fNum) rfl rfl rfl rfl rfl<|sF h (fun h => ?_) fun h => ?_
  ·refine sM rfl<|sV (.ptr 32 4)<|sV (.d (A3_Int.pd a0.fDen))<|sV (.ptr 48 4)<|sV (.d (A3_Int.pd a1.fDen))<|WO.bin (eqE_90 a0.fDen a1.fDen) rfl rfl rfl rfl rfl<|sF h (fun h => ?_) fun h => ?_
   ·refine sM rfl<|sV (.ptr 32 7)<|sL rfl<|sV (.ptr 48 7)<|sL rfl<|bE h fun x4 hx4 h => cD (slices_Equal_int_ev hx4)<|sF h (fun h => ?_) fun h => ?_
    ·refine sM rfl<|sV (.ptr 32 8)<|sL rfl<|sV (.ptr 48 8)<|sL rfl<|sV (.d (.bool (a0.fFactor == a1.fFactor)))<|sF h (fun h => ?_) fun h => ?_
     ·refine sM rfl<|sV (.ptr 32 9)<|sL rfl<|sV (.ptr 48 9)<|sL rfl<|sV (.d (.bool (a0.fShift == a1.fShift)))<|sV (.d (.bool (a0.fShift == a1.fShift)))<|sA rfl<|sN<|qR ?_
      obtain rfl:=oI h
      exact qD
     refine sM rfl<|sK<|sK<|sK<|sK<|sK<|sU<|sA rfl<|sN<|qR ?_
     obtain rfl:=oI h
     exact qD
    refine sM rfl<|sK<|sK<|sK<|sK<|sK<|sU<|sM rfl<|sK<|sK<|sK<|sK<|sK<|sU<|sA rfl ?_
    refine sN<|qR ?_
    obtain rfl:=oI h
    exact qD
   refine sM rfl<|sK<|sK<|sK<|sK<|sK<|sU<|sM rfl<|sK<|sK<|sK<|sK<|sK<|sU<|sM rfl ?_
   refine sK<|sK<|sK<|sK<|sK<|sU<|sA rfl<|sN<|qR ?_
   obtain rfl:=oI h
   exact qD
  refine sM rfl<|sK<|sK<|sK<|sK<|sK<|sU<|sM rfl<|sK<|sK<|sK<|sK<|sK<|sU<|sM rfl ?_
  refine sK<|sK<|sK<|sK<|sK<|sU<|sM rfl<|sK<|sK<|sK<|sK<|sK<|sU<|sA rfl<|sN ?_
  refine qR ?_
  obtain rfl:=oI h
  exact qD
 refine sM rfl<|sK<|sK<|sK<|sK<|sK<|sU<|sM rfl<|sK<|sK<|sK<|sK<|sK<|sU<|sM rfl ?_
 refine sK<|sK<|sK<|sK<|sK<|sU<|sM rfl<|sK<|sK<|sK<|sK<|sK<|sU<|sM rfl<|sK ?_
 refine sK<|sK<|sK<|sK<|sU<|sA rfl<|sN<|qR ?_
 obtain rfl:=oI h
 exact qD
theorem slices_EqualFunc_Stage_lit1_ev {a0 : (List T_api_Stage)} {a1 : (List T_api_Stage)} {r : Bool} (h : slices_EqualFunc_Stage_lit1 a0 a1 = some r) : EvP prog hints ext 73 [.d (.lst (a0.map T_api_Stage.pd)), .d (.lst (a1.map T_api_Stage.pd)), .d (.raw (.func (.func 74) #[] #[]))] [] (.d (.bool r), []) := by
 refine Ev.body rfl Tryz.func73 rfl (by kernel_rfl)<|gS rfl rfl<|sU<|sN<|qS<|gS rfl rfl<|sM rfl<|sE (.d (.int .i64 (a0.length : Int))) (lenMap _ _)<|sM rfl<|sE (.d (.int .i64 (a1.length : Int))) (lenMap _ _)<|sF h (fun h => ?_) fun h => ?_
 ·refine sN<|cT<|gS rfl rfl<|sU<|sN<|qR ?_
  obtain rfl:=oI h
  exact qD
 refine sN<|cF<|qK<|qS<|gS rfl rfl<|sM rfl<|sE (.d (.int .i64 (a0.length : Int))) (lenMap _ _)<|sV (.d (.int .i64 0))<|sN<|bE h fun o10 ho10 h => WC.block (WC.loop (WL.ofLoop ho10 (fun s R' B' => ghosts prog 0 (A R' B') (hints.at_ 73 4) = some (A [(1, .d (.lst (a1.map T_api_Stage.pd))), (2, .d (.raw (.func (.func 74) #[] #[]))), (15, .d (.lst (a0.map T_api_Stage.pd))), (16, .d (.int .i64 (a0.length : Int))), (17, .d (.int .i64 s))] [])) (fun o e R' B' => match o with | .inl y => e = .exit 0 ∧ ghosts prog 0 (A R' B') (hints.at_ 73 10) = some (A [] []) | .inr r => e = .ret ∧ finish prog (hints.own 73) Tryz.f73 0 (A R' B') = some (.d (.bool r), [])) rfl ?_ ?_))
 ·rintro s2 R' B' q3 hI h
  refine gS rfl hI<|sF h (fun h => ?_) fun h => ?_
  ·refine sN<|qS<|cT<|qK<|qS<|qB<|gS rfl rfl<|sM rfl<|bE h fun x5 hx5 h => WO.elemG hx5 rfl rfl rfl rfl rfl rfl rfl rfl rfl<|sV (.d (T_api_Stage.pd x5))<|sB (.ptr 128 0) 128 (.var [.d (.int .i64 0), .d (.int .i64 0), .d (.int .i64 0), .d (.int .i64 0), .d (.int .i64 0), .d (.int .i64 0), .d (.int .i64 0), .nils, .d (.int .i64 0), .d (.int .i64 0)])<|sA rfl<|sS 128 (.var [.d (.int .i64 x5.fKind), .d (.int .i64 x5.fNum.a0), .d (.int .i64 x5.fNum.a1), .d (.int .i64 x5.fNum.a2), .d (.int .i64 x5.fDen.a0), .d (.int .i64 x5.fDen.a1), .d (.int .i64 x5.fDen.a2), .d (.lst (x5.fTaps.map (PD.int .i64))), .d (.int .i64 x5.fFactor), .d (.int .i64 x5.fShift)])<|sN ?_
   refine gS rfl rfl<|sM rfl<|sM rfl<|bE h fun x6 hx6 h => WO.elemG hx6 rfl rfl rfl rfl rfl rfl rfl rfl rfl<|sV (.d (T_api_Stage.pd x6))<|sB (.ptr 144 0) 144 (.var [.d (.int .i64 0), .d (.int .i64 0), .d (.int .i64 0), .d (.int .i64 0), .d (.int .i64 0), .d (.int .i64 0), .d (.int .i64 0), .nils, .d (.int .i64 0), .d (.int .i64 0)])<|sS 144 (.var [.d (.int .i64 x6.fKind), .d (.int .i64 x6.fNum.a0), .d (.int .i64 x6.fNum.a1), .d (.int .i64 x6.fNum.a2), .d (.int .i64 x6.fDen.a0), .d (.int .i64 x6.fDen.a1), .d (.int .i64 x6.fDen.a2), .d (.lst (x6.fTaps.map (PD.int .i64))), .d (.int .i64 x6.fFactor), .d (.int .i64 x6.fShift)])<|sN<|gS rfl rfl<|sM rfl<|sV (.d (T_api_Stage.pd x5))<|sV (.d (T_api_Stage.pd x6))<|bE h fun x7 hx7 h => cD (response_Same_lit1_ev hx7) ?_
   refine sF h (fun h => ?_) fun h => ?_
   ·refine sN<|cT<|gS rfl rfl<|sU<|sN<|qR ?_
    obtain rfl:=oI h
    exact ⟨(fun he => by cases he), rfl, rfl⟩
   refine sN<|cF<|qK<|WC.region rfl rfl<|sV (.d (.int .i64 (IntKind.wrap .i64 (s2 + (1 : Int)))))<|sM rfl<|sN ?_
   obtain rfl:=oI h
   exact ⟨rfl, rfl⟩
  refine sN<|qS<|cF<|qX ?_
  obtain rfl:=oI h
  exact ⟨(fun he => by cases he), rfl, rfl⟩
 intro e R' B' he hq
 rcases o10 with y11 | r12
 ·obtain ⟨rfl, hI⟩ := hq
  refine qE<|gS rfl hI<|sT<|sN<|qR ?_
  obtain rfl:=oI h
  exact qD
 obtain ⟨rfl, hf⟩ := hq
 obtain rfl:=oI h
 exact hf
theorem response_Same_ev {a0 : T_api_Response} {a1 : T_api_Response} {r : Bool} (h : response_Same a0 a1 = some r) : EvP prog hints ext 37 [.d (T_api_Response.pd a0), .d (T_api_Response.pd a1)] [] (.d (.bool r), []) := by
 refine Ev.body rfl Tryz.func37 rfl (by kernel_rfl)<|gS rfl rfl<|sB (.ptr 32 0) 32 (.var [.d (.lst (a0.fStages.map T_api_Stage.pd))])<|sB (.ptr 48 0) 48 (.var [.d (.lst (a1.fStages.map T_api_Stage.pd))])<|sU<|sN<|gS rfl rfl<|sV (.ptr 32 0)<|sL rfl<|sV (.ptr 48 0)<|sL rfl<|bE h fun x1 hx1 h => cD (slices_EqualFunc_Stage_lit1_ev hx1)<|sA rfl<|sN ?_
 refine qR ?_
 obtain rfl:=oI h
 exact qD
theorem inventory_SameEpoch_ev {a0 : T_api_Epoch} {a1 : T_api_Epoch} {r : Bool} (h : inventory_SameEpoch a0 a1 = some r) : EvP prog hints ext 12 [.d (T_api_Epoch.pd a0), .d (T_api_Epoch.pd a1)] [] (.d (.bool r), []) := by
 refine Ev.body rfl Tryz.func12 rfl (by kernel_rfl)<|gS rfl rfl<|sB (.ptr 32 0) 32 (.var [.d (.int .i64 a0.fFrom), .d (.int .i64 a0.fTo), .d (.int .i64 a0.fRate.fNum), .d (.int .i64 a0.fRate.fDen), .d (.int .i64 a0.fPosition.fX), .d (.int .i64 a0.fPosition.fY), .d (.int .i64 a0.fPosition.fZ), .d (.lst (a0.fResponse.fStages.map T_api_Stage.pd))])<|sB (.ptr 48 0) 48 (.var [.d (.int .i64 a1.fFrom), .d (.int .i64 a1.fTo), .d (.int .i64 a1.fRate.fNum), .d (.int .i64 a1.fRate.fDen), .d (.int .i64 a1.fPosition.fX), .d (.int .i64 a1.fPosition.fY), .d (.int .i64 a1.fPosition.fZ), .d (.lst (a1.fResponse.fStages.map T_api_Stage.pd))])<|sU<|sN<|gS rfl rfl<|sV (.ptr 32 0)<|sL rfl<|sV (.ptr 48 0)<|sL rfl<|sF h (fun h => ?_) fun h => ?_
 ·refine sM rfl<|sV (.ptr 32 1)<|sL rfl<|sV (.ptr 48 1)<|sL rfl<|sV (.d (.bool (a0.fTo == a1.fTo)))<|sF h (fun h => ?_) fun h => ?_
  ·refine sM rfl<|sV (.ptr 32 2)<|sV (.d (T_api_Rate.pd a0.fRate))<|sV (.ptr 48 2)<|sV (.d (T_api_Rate.pd a1.fRate))<|WO.bin (eqE_39 a0.fRate a1.fRate) rfl rfl rfl rfl rfl<|sF h (fun h => ?_) fun h => ?_
   ·refine sM rfl<|sV (.ptr 32 4)<|sV (.d (T_api_Position.pd a0.fPosition))<|sV (.ptr 48 4)<|sV (.d (T_api_Position.pd a1.fPosition))<|WO.bin (eqE_41 a0.fPosition a1.fPosition) rfl rfl rfl rfl rfl<|sF h (fun h => ?_) fun h => ?_
    ·refine sM rfl<|sV (.ptr 32 7)<|sV (.d (T_api_Response.pd a0.fResponse))<|sV (.ptr 48 7)<|sV (.d (T_api_Response.pd a1.fResponse))<|bE h fun x5 hx5 h => cD (response_Same_ev hx5)<|sV (.d (.bool x5))<|sA rfl<|sN<|qR ?_
     obtain rfl:=oI h
     exact qD
    refine sM rfl<|sK<|sK<|sK<|sK<|sK<|sU<|sA rfl<|sN<|qR ?_
    obtain rfl:=oI h
    exact qD
   refine sM rfl<|sK<|sK<|sK<|sK<|sK<|sU<|sM rfl<|sK<|sK<|sK<|sK<|sK<|sU<|sA rfl ?_
   refine sN<|qR ?_
   obtain rfl:=oI h
   exact qD
  refine sM rfl<|sK<|sK<|sK<|sK<|sK<|sU<|sM rfl<|sK<|sK<|sK<|sK<|sK<|sU<|sM rfl ?_
  refine sK<|sK<|sK<|sK<|sK<|sU<|sA rfl<|sN<|qR ?_
  obtain rfl:=oI h
  exact qD
 refine sM rfl<|sK<|sK<|sK<|sK<|sK<|sU<|sM rfl<|sK<|sK<|sK<|sK<|sK<|sU<|sM rfl ?_
 refine sK<|sK<|sK<|sK<|sK<|sU<|sM rfl<|sK<|sK<|sK<|sK<|sK<|sU<|sA rfl<|sN ?_
 refine qR ?_
 obtain rfl:=oI h
 exact qD
theorem source_pattern_ev {a0 : (List UInt8)} {r : (List (List UInt8)) × Bool} (h : source_pattern a0 = some r) : EvP prog hints ext 76 [.d (.str a0)] [] (.tup [.d (.lst (r.1.map PD.str)), .d (.bool r.2)], []) := by
 refine Ev.body rfl Tryz.func76 rfl (by kernel_rfl)<|gS rfl rfl<|sV .nils<|sU<|sN<|gS rfl rfl<|sM rfl<|bE h fun x1 hx1 h => cD ((split_ev rfl) hx1)<|sA rfl<|sN<|qS<|gS rfl rfl<|sM rfl<|sE (.d (.int .i64 (x1.length : Int))) (lenMap _ _) ?_
 refine sV (.d (.int .i64 0))<|sN<|bE h fun o23 ho23 h => WC.block (WC.loop (WL.ofLoop ho23 (fun s R' B' => ghosts prog 0 (A R' B') (hints.at_ 76 3) = some (A [(4, .d (.lst (x1.map PD.str))), (10, .d (.lst (x1.map PD.str))), (11, .d (.int .i64 (x1.length : Int))), (12, .d (.int .i64 s))] [])) (fun o e R' B' => match o with | .inl y => e = .exit 0 ∧ ghosts prog 0 (A R' B') (hints.at_ 76 14) = some (A [(4, .d (.lst (x1.map PD.str)))] []) | .inr r => e = .ret ∧ finish prog (hints.own 76) Tryz.f76 0 (A R' B') = some (.tup [.d (.lst (r.1.map PD.str)), .d (.bool r.2)], [])) rfl ?_ ?_))
 ·rintro s2 R' B' q3 hI h
  refine gS rfl hI<|sF h (fun h => ?_) fun h => ?_
  ·refine sN<|qS<|cT<|qK<|qS<|qB<|gS rfl rfl<|bE h fun x5 hx5 h => WO.elemG hx5 rfl rfl rfl rfl rfl rfl rfl rfl rfl<|sC rfl<|sA rfl<|sN<|qS<|gS rfl rfl<|sM rfl ?_
   refine sV (.d (.int .i64 (x5.length : Int)))<|sV (.d (.int .i64 0))<|sN<|bE h fun o18 ho18 h => WC.block (WC.loop (WL.ofLoop ho18 (fun s R' B' => ghosts prog 0 (A R' B') (hints.at_ 76 6) = some (A [(4, .d (.lst (x1.map PD.str))), (6, .d (.str x5)), (10, .d (.lst (x1.map PD.str))), (11, .d (.int .i64 (x1.length : Int))), (12, .d (.int .i64 s2)), (17, .d (.int .i64 (x5.length : Int))), (18, .d (.int .i64 s))] [])) (fun o e R' B' => match o with | .inl y => e = .exit 2 ∧ ghosts prog 0 (A R' B') (hints.at_ 76 11) = some (A [(4, .d (.lst (x1.map PD.str))), (6, .d (.str x5)), (10, .d (.lst (x1.map PD.str))), (11, .d (.int .i64 (x1.length : Int))), (12, .d (.int .i64 y))] []) | .inr r => e = .ret ∧ finish prog (hints.own 76) Tryz.f76 0 (A R' B') = some (.tup [.d (.lst (r.1.map PD.str)), .d (.bool r.2)], [])) rfl ?_ ?_))
   ·rintro s6 R' B' q8 hI h
    refine gS rfl hI<|sF h (fun h => ?_) fun h => ?_
    ·refine sN<|qS<|cT<|qK<|qS<|qB<|gS rfl rfl<|sM rfl<|sA rfl<|sN<|gS rfl rfl<|sM rfl<|sM rfl<|bE h fun x10 hx10 h => WO.byteG hx10 rfl rfl rfl rfl rfl rfl ?_
     refine bE h fun x11 hx11 h => cD (source_plain_ev hx11)<|sF h (fun h => ?_) fun h => ?_
     ·refine sM rfl<|sM rfl<|sM rfl<|bE h fun x13 hx13 h => WO.byteG hx13 rfl rfl rfl rfl rfl rfl<|sV (.d (.bool (x13 != (63 : Int))))<|sF h (fun h => ?_) fun h => ?_
      ·refine sM rfl<|sM rfl<|sM rfl<|bE h fun x15 hx15 h => WO.byteG hx15 rfl rfl rfl rfl rfl rfl<|sV (.d (.bool (x15 != (42 : Int))))<|sF h (fun h => ?_) fun h => ?_
       ·refine sN<|cT<|gS rfl rfl<|sV .nils<|sU<|sN<|qR ?_
        obtain rfl:=oI h
        exact ⟨(fun he => by cases he), rfl, rfl⟩
       refine sN<|cF<|qK<|WC.region rfl rfl<|sV (.d (.int .i64 (IntKind.wrap .i64 (s6 + (1 : Int)))))<|sM rfl<|sN ?_
       obtain rfl:=oI h
       exact ⟨rfl, rfl⟩
      refine sM rfl<|sK<|sK<|sK<|sK<|sU<|sN<|cF<|qK<|WC.region rfl rfl<|sV (.d (.int .i64 (IntKind.wrap .i64 (s6 + (1 : Int)))))<|sM rfl<|sN ?_
      obtain rfl:=oI h
      exact ⟨rfl, rfl⟩
     refine sM rfl<|sK<|sK<|sK<|sK<|sU<|sM rfl<|sK<|sK<|sK<|sK<|sU<|sN<|cF<|qK ?_
     refine WC.region rfl rfl<|sV (.d (.int .i64 (IntKind.wrap .i64 (s6 + (1 : Int)))))<|sM rfl<|sN ?_
     obtain rfl:=oI h
     exact ⟨rfl, rfl⟩
    refine sN<|qS<|cF<|qX ?_
    obtain rfl:=oI h
    exact ⟨(fun he => by cases he), rfl, rfl⟩
   intro e R' B' he hq
   rcases o18 with y19 | r20
   ·obtain ⟨rfl, hI⟩ := hq
    refine qE<|gS rfl hI<|sM rfl<|sV (.d (.int .i64 (x5.length : Int)))<|sF h (fun h => ?_) fun h => ?_
    ·refine sN<|cT<|gS rfl rfl<|sV .nils<|sU<|sN<|qR ?_
     obtain rfl:=oI h
     exact ⟨(fun he => by cases he), rfl, rfl⟩
    refine sN<|cF<|qK<|WC.region rfl rfl<|sV (.d (.int .i64 (IntKind.wrap .i64 (y19 + (1 : Int)))))<|sM rfl<|sN ?_
    obtain rfl:=oI h
    exact ⟨rfl, rfl⟩
   obtain ⟨rfl, hf⟩ := hq
   obtain rfl:=oI h
   exact ⟨(fun he => by cases he), rfl, hf⟩
  refine sN<|qS<|cF<|qX ?_
  obtain rfl:=oI h
  exact ⟨(fun he => by cases he), rfl, rfl⟩
 intro e R' B' he hq
 rcases o23 with y24 | r25
 ·obtain ⟨rfl, hI⟩ := hq
  refine qE<|gS rfl hI<|sM rfl<|sM rfl<|sE (.d (.int .i64 (x1.length : Int))) (lenMap _ _)<|sV (.d (.bool ((x1.length : Int) == (4 : Int))))<|sA rfl<|sA rfl<|sN<|qR ?_
  obtain rfl:=oI h
  exact qD
 obtain ⟨rfl, hf⟩ := hq
 obtain rfl:=oI h
 exact hf
theorem source_parts_ev {a0 : T_api_SourceID} {r : A4__List_UInt8_} (h : source_parts a0 = some r) : EvP prog hints ext 106 [.d (T_api_SourceID.pd a0)] [] (.d (A4__List_UInt8_.pd r), []) := by
 refine Ev.body rfl Tryz.func106 rfl (by kernel_rfl)<|gS rfl rfl<|sB (.ptr 16 0) 16 (.var [.d (.str a0.fNetwork), .d (.str a0.fStation), .d (.str a0.fLocation), .d (.str a0.fChannel)])<|sB (.ptr 32 0) 32 (.var [.d (.str []), .d (.str []), .d (.str []), .d (.str [])])<|sN<|gS rfl rfl<|sV (.ptr 16 0)<|sL rfl<|sV (.ptr 16 1)<|sL rfl<|sV (.ptr 16 2)<|sL rfl<|sV (.ptr 16 3)<|sL rfl<|sV (.d (A4__List_UInt8_.pd (A4__List_UInt8_.mk a0.fNetwork a0.fStation a0.fLocation a0.fChannel))) ?_
 refine sS 32 (.var [.d (.str ((A4__List_UInt8_.mk a0.fNetwork a0.fStation a0.fLocation a0.fChannel).a0)), .d (.str ((A4__List_UInt8_.mk a0.fNetwork a0.fStation a0.fLocation a0.fChannel).a1)), .d (.str ((A4__List_UInt8_.mk a0.fNetwork a0.fStation a0.fLocation a0.fChannel).a2)), .d (.str ((A4__List_UInt8_.mk a0.fNetwork a0.fStation a0.fLocation a0.fChannel).a3))])<|sN<|qR ?_
 obtain rfl:=oI h
 exact qD
theorem source_fitsN_ev : ∀ (nfu : Nat) {a0 : (List UInt8)} {a1 : (List UInt8)} {r : Bool} (_ : source_fitsN nfu a0 a1 = some r), EvP prog hints ext 107 [.d (.str a0), .d (.str a1)] [] (.d (.bool r), [])
  | 0, _, _,  _, h => by cases h
  | nfu + 1, a0, a1,  r, h => by
   refine Ev.body rfl Tryz.func107 rfl (by kernel_rfl)<|gS rfl rfl<|sU<|sN<|qS<|qB<|gS rfl rfl<|sM rfl<|sF h (fun h => ?_) fun h => ?_
   ·refine sA rfl<|sN<|cT<|gS rfl rfl<|sM rfl<|sV (.d (.bool (a1 == [])))<|sA rfl<|sN<|qR ?_
    obtain rfl:=oI h
    exact qD
   refine sA rfl<|sN<|cF<|gS rfl rfl<|sM rfl<|bE h fun x2 hx2 h => WO.byteG hx2 rfl rfl rfl rfl rfl rfl<|sF h (fun h => ?_) fun h => ?_
   ·refine sA rfl<|sN<|cT<|gS rfl rfl<|sM rfl<|bE h fun x4 hx4 h => WO.cutG hx4 rfl rfl rfl rfl rfl rfl rfl rfl rfl rfl<|sM rfl<|bE h fun x5 hx5 h => ite_elim h (fun hb6 h => ?_) (fun hb6 h => ?_)
    ·refine WO.callR (v := .d (.bool true)) (u := []) rfl rfl (fun _ => rfl) rfl rfl rfl rfl rfl (source_fitsN_ev nfu hx5) rfl rfl (congrArg (fun b => RV.d (.bool b)) hb6) rfl<|sM rfl<|sK<|sK<|sK<|sK<|sK<|sK<|sK<|sK<|sT<|sA rfl<|sN<|qR ?_
     obtain rfl:=oI h
     exact qD
    refine WO.callR (v := .d (.bool false)) (u := []) rfl rfl (fun _ => rfl) rfl rfl rfl rfl rfl (source_fitsN_ev nfu hx5) rfl rfl (congrArg (fun b => RV.d (.bool b)) hb6) rfl<|sM rfl<|sM rfl<|sF h (fun h => ?_) fun h => ?_
    ·refine sM rfl<|sM rfl<|sM rfl<|bE h fun x8 hx8 h => WO.cutG hx8 rfl rfl rfl rfl rfl rfl rfl rfl rfl rfl<|bE h fun x9 hx9 h => cD (source_fitsN_ev nfu hx9)<|sV (.d (.bool x9))<|sV (.d (.bool x9))<|sA rfl<|sN<|qR ?_
     obtain rfl:=oI h
     exact qD
    refine sM rfl<|sK<|sK<|sK<|sK<|sU<|sU<|sA rfl<|sN<|qR ?_
    obtain rfl:=oI h
    exact qD
   refine sA rfl<|sN<|cF<|qK<|WC.regionDSeq rfl rfl<|sM rfl<|sF h (fun h => ?_) fun h => ?_
   ·refine sM rfl<|sM rfl<|bE h fun x11 hx11 h => WO.byteG hx11 rfl rfl rfl rfl rfl rfl<|sF h (fun h => ?_) fun h => ?_
    ·refine sM rfl<|sK<|sK<|sK<|sK<|sK<|sT<|sT<|sM rfl<|sM rfl<|bE h fun x13 hx13 h => WO.cutG hx13 rfl rfl rfl rfl rfl rfl rfl rfl rfl rfl<|sM rfl<|bE h fun x14 hx14 h => WO.cutG hx14 rfl rfl rfl rfl rfl rfl rfl rfl rfl rfl ?_
     refine bE h fun x15 hx15 h => cD (source_fitsN_ev nfu hx15)<|sV (.d (.bool x15))<|sA rfl ?_
     refine sN<|sO<|qR ?_
     obtain rfl:=oI h
     exact qD
    refine sM rfl<|sM rfl<|bE h fun x16 hx16 h => WO.byteG hx16 rfl rfl rfl rfl rfl rfl<|sM rfl<|bE h fun x17 hx17 h => WO.byteG hx17 rfl rfl rfl rfl rfl rfl<|sV (.d (.bool (x16 == x17)))<|sV (.d (.bool (x16 == x17)))<|sF h (fun h => ?_) fun h => ?_
    ·refine sM rfl<|sM rfl<|bE h fun x19 hx19 h => WO.cutG hx19 rfl rfl rfl rfl rfl rfl rfl rfl rfl rfl<|sM rfl<|bE h fun x20 hx20 h => WO.cutG hx20 rfl rfl rfl rfl rfl rfl rfl rfl rfl rfl<|bE h fun x21 hx21 h => cD (source_fitsN_ev nfu hx21)<|sV (.d (.bool x21))<|sA rfl ?_
     refine sN<|sO<|qR ?_
     obtain rfl:=oI h
     exact qD
    refine sM rfl<|sK<|sK<|sK<|sK<|sK<|sU<|sA rfl ?_
    refine sN<|sO<|qR ?_
    obtain rfl:=oI h
    exact qD
   refine sM rfl<|sK<|sK<|sK<|sK<|sK<|sK<|sK<|sK<|sK<|sK<|sU<|sM rfl<|sK<|sK ?_
   refine sK<|sK<|sK<|sU<|sA rfl ?_
   refine sN<|sO<|qR ?_
   obtain rfl:=oI h
   exact qD
theorem source_fits_ev {a0 : (List UInt8)} {a1 : (List UInt8)} {r : Bool} (h : source_fits a0 a1 = some r) : EvP prog hints ext 107 [.d (.str a0), .d (.str a1)] [] (.d (.bool r), []) :=
  let ⟨n, hn⟩ := recO_some h; source_fitsN_ev n hn
theorem source_match_ev {a0 : (List (List UInt8))} {a1 : T_api_SourceID} {r : Bool} (h : source_match a0 a1 = some r) : EvP prog hints ext 77 [.d (.lst (a0.map PD.str)), .d (T_api_SourceID.pd a1)] [] (.d (.bool r), []) := by
 refine Ev.body rfl Tryz.func77 rfl (by kernel_rfl)<|gS rfl rfl<|sB (.ptr 48 0) 48 (.var [.d (.str a1.fNetwork), .d (.str a1.fStation), .d (.str a1.fLocation), .d (.str a1.fChannel)])<|sU<|sN<|qS<|gS rfl rfl<|sV (.d (T_api_SourceID.pd a1))<|bE h fun x1 hx1 h => cD (source_parts_ev hx1)<|sV (.d (.int .i64 0))<|sN<|WC.block (WC.loop ?_)
 refine WL.round<|gS rfl rfl<|sT<|sN<|qS<|cT<|qK<|qS<|qB<|gS rfl rfl<|sM rfl<|sV (.d (.str x1.a0))<|sA rfl<|sA rfl<|sN ?_
 refine gS rfl rfl<|sM rfl<|sM rfl<|bE h fun x2 hx2 h => WO.elemG hx2 rfl rfl rfl rfl rfl rfl rfl rfl rfl<|sC rfl<|sM rfl<|bE h fun x3 hx3 h => cD (source_fits_ev hx3)<|sF h (fun h => ?_) fun h => ?_
 ·refine sN<|cT<|gS rfl rfl<|sU<|sN<|qR ?_
  obtain rfl:=oI h
  exact qD
 refine sN<|cF<|qK<|WC.region rfl rfl<|sV (.d (.int .i64 1))<|sM rfl<|sN<|WL.round<|gS rfl rfl<|sT<|sN<|qS<|cT<|qK<|qS ?_
 refine qB<|gS rfl rfl<|sM rfl<|sV (.d (.str x1.a1))<|sA rfl<|sA rfl<|sN<|gS rfl rfl<|sM rfl<|sM rfl<|bE h fun x5 hx5 h => WO.elemG hx5 rfl rfl rfl rfl rfl rfl rfl rfl rfl<|sC rfl<|sM rfl<|bE h fun x6 hx6 h => ?_
 refine cD (source_fits_ev hx6)<|sF h (fun h => ?_) fun h => ?_
 ·refine sN<|cT<|gS rfl rfl<|sU<|sN<|qR ?_
  obtain rfl:=oI h
  exact qD
 refine sN<|cF<|qK<|WC.region rfl rfl<|sV (.d (.int .i64 2))<|sM rfl<|sN<|WL.round<|gS rfl rfl<|sT<|sN<|qS<|cT<|qK<|qS ?_
 refine qB<|gS rfl rfl<|sM rfl<|sV (.d (.str x1.a2))<|sA rfl<|sA rfl<|sN<|gS rfl rfl<|sM rfl<|sM rfl<|bE h fun x8 hx8 h => WO.elemG hx8 rfl rfl rfl rfl rfl rfl rfl rfl rfl<|sC rfl<|sM rfl<|bE h fun x9 hx9 h => ?_
 refine cD (source_fits_ev hx9)<|sF h (fun h => ?_) fun h => ?_
 ·refine sN<|cT<|gS rfl rfl<|sU<|sN<|qR ?_
  obtain rfl:=oI h
  exact qD
 refine sN<|cF<|qK<|WC.region rfl rfl<|sV (.d (.int .i64 3))<|sM rfl<|sN<|WL.round<|gS rfl rfl<|sT<|sN<|qS<|cT<|qK<|qS ?_
 refine qB<|gS rfl rfl<|sM rfl<|sV (.d (.str x1.a3))<|sA rfl<|sA rfl<|sN<|gS rfl rfl<|sM rfl<|sM rfl<|bE h fun x11 hx11 h => WO.elemG hx11 rfl rfl rfl rfl rfl rfl rfl rfl rfl<|sC rfl<|sM rfl<|bE h fun x12 hx12 h => ?_
 refine cD (source_fits_ev hx12)<|sF h (fun h => ?_) fun h => ?_
 ·refine sN<|cT<|gS rfl rfl<|sU<|sN<|qR ?_
  obtain rfl:=oI h
  exact qD
 refine sN<|cF<|qK<|WC.region rfl rfl<|sV (.d (.int .i64 4))<|sM rfl<|sN<|WL.round<|gS rfl rfl<|sU<|sN<|qS<|cF<|qX<|qE ?_
 refine gS rfl rfl<|sT<|sN<|qR ?_
 obtain rfl:=oI h
 exact qD
theorem source_Select_ev {a0 : (List UInt8)} {a1 : (List T_api_SourceID)} {r : (List T_api_SourceID) × Int} (h : source_Select a0 a1 = some r) : EvP prog hints ext 38 [.d (.str a0), .d (.lst (a1.map T_api_SourceID.pd))] [] (.tup [.d (.lst (r.1.map T_api_SourceID.pd)), .d (.int .i64 r.2)], []) := by
 refine Ev.body rfl Tryz.func38 rfl (by kernel_rfl)<|gS rfl rfl<|sV .nils<|sV (.d (.int .i64 0))<|sN<|gS rfl rfl<|sM rfl<|bE h fun x1 hx1 h => cR (.tup [.d (.lst (x1.1.map PD.str)), .d (.bool x1.2)]) [] (source_pattern_ev hx1)<|sM rfl<|sV (.d (.lst (x1.1.map PD.str)))<|sV (.d (.bool x1.2))<|sA rfl<|sA rfl<|sN ?_
 refine qS<|gS rfl rfl<|sM rfl<|sF h (fun h => ?_) fun h => ?_
 ·refine sN<|cT<|gS rfl rfl<|sV .nils<|sV (.d (.int .i64 3))<|sN<|qR ?_
  obtain rfl:=oI h
  exact qD
 refine sN<|cF<|qK<|gS rfl rfl<|sV .nils<|sN<|qS<|gS rfl rfl<|sM rfl<|sE (.d (.int .i64 (a1.length : Int))) (lenMap _ _)<|sV (.d (.int .i64 0))<|sN<|bE h fun o15 ho15 h => WC.block (WC.loop (WL.ofLoop ho15 (fun s R' B' => ghosts prog 0 (A R' B') (hints.at_ 38 6) = some (A [(6, .d (.lst (x1.1.map PD.str))), (8, .ref 544 0), (18, .d (.lst (a1.map T_api_SourceID.pd))), (19, .d (.int .i64 (a1.length : Int))), (20, .d (.int .i64 s.1))] [(544, .arr 0 34 (s.2.map T_api_SourceID.pd))])) (fun o e R' B' => e = .exit 0 ∧ ghosts prog 0 (A R' B') (hints.at_ 38 11) = some (A [(8, .ref 544 0)] [(544, .arr 0 34 (o.map T_api_SourceID.pd))])) rfl ?_ ?_))
 ·rintro ⟨s3, s4⟩ R' B' q6 hI h
  refine gS rfl hI<|sF h (fun h => ?_) fun h => ?_
  ·refine sN<|qS<|cT<|qK<|qS<|qB<|gS rfl rfl<|bE h fun x8 hx8 h => WO.elemG hx8 rfl rfl rfl rfl rfl rfl rfl rfl rfl<|sV (.d (T_api_SourceID.pd x8))<|sB (.ptr 160 0) 160 (.var [.d (.str []), .d (.str []), .d (.str []), .d (.str [])])<|sS 160 (.var [.d (.str x8.fNetwork), .d (.str x8.fStation), .d (.str x8.fLocation), .d (.str x8.fChannel)])<|sN<|gS rfl rfl<|sV (.d (T_api_SourceID.pd x8)) ?_
   refine bE h fun x9 hx9 h => ite_elim h (fun hb10 h => ?_) (fun hb10 h => ?_)
   ·refine WO.callR (v := .d (.bool true)) (u := []) rfl rfl (fun _ => rfl) rfl rfl rfl rfl rfl (source_Valid_ev hx9) rfl rfl (congrArg (fun b => RV.d (.bool b)) hb10) rfl<|sM rfl<|sM rfl<|sV (.d (T_api_SourceID.pd x8))<|bE h fun x11 hx11 h => cD (source_match_ev hx11)<|sF h (fun h => ?_) fun h => ?_
    ·refine sN<|cT<|WC.region rfl rfl<|sM rfl<|sV (.d (T_api_SourceID.pd x8))<|sV (.d (.lst ([x8].map T_api_SourceID.pd)))<|bE h fun x13 hx13 h => WO.appR hx13 (fun _ => rfl) rfl rfl rfl rfl rfl rfl rfl rfl rfl rfl rfl rfl rfl rfl<|sA rfl<|sN<|WC.region rfl rfl<|sV (.d (.int .i64 (IntKind.wrap .i64 (s3 + (1 : Int)))))<|sM rfl<|sN ?_
     obtain rfl:=oI h
     exact ⟨rfl, rfl⟩
    refine sN<|cF<|qK<|WC.region rfl rfl<|sV (.d (.int .i64 (IntKind.wrap .i64 (s3 + (1 : Int)))))<|sM rfl<|sN ?_
    obtain rfl:=oI h
    exact ⟨rfl, rfl⟩
   refine WO.callR (v := .d (.bool false)) (u := []) rfl rfl (fun _ => rfl) rfl rfl rfl rfl rfl (source_Valid_ev hx9) rfl rfl (congrArg (fun b => RV.d (.bool b)) hb10) rfl<|sM rfl<|sK<|sK<|sK<|sU<|sN<|cF<|qK<|WC.region rfl rfl<|sV (.d (.int .i64 (IntKind.wrap .i64 (s3 + (1 : Int)))))<|sM rfl<|sN ?_
   obtain rfl:=oI h
   exact ⟨rfl, rfl⟩
  refine sN<|qS<|cF<|qX ?_
  obtain rfl:=oI h
  exact ⟨(fun he => by cases he), rfl, rfl⟩
 intro e R' B' he hq
 obtain ⟨rfl, hI⟩ := hq
 refine qE<|gS rfl hI<|sM rfl<|sA rfl<|sV (.d (.int .i64 0))<|sN<|qR ?_
 obtain rfl:=oI h
 exact qD
theorem inventory_Sources_ev {a0 : T_api_Inventory} {a1 : (List UInt8)} {a2 : Int} {r : (List T_api_SourceID) × Int} (h : inventory_Sources a0 a1 a2 = some r) : EvP prog hints ext 13 [.d (T_api_Inventory.pd a0), .d (.str a1), .d (.int .i64 a2)] [] (.tup [.d (.lst (r.1.map T_api_SourceID.pd)), .d (.int .i64 r.2)], []) := by
 refine Ev.body rfl Tryz.func13 rfl (by kernel_rfl)<|gS rfl rfl<|sB (.ptr 48 0) 48 (.var [.d (.lst (a0.fChannels.map T_api_Channel.pd))])<|sV .nils<|sV (.d (.int .i64 0))<|sN<|qS<|gS rfl rfl<|sV (.d (T_api_Inventory.pd a0))<|bE h fun x1 hx1 h => cD (inventory_Valid_ev hx1)<|sF h (fun h => ?_) fun h => ?_
 ·refine sN<|cT<|gS rfl rfl<|sV .nils<|sV (.d (.int .i64 1))<|sN<|qR ?_
  obtain rfl:=oI h
  exact qD
 refine sN<|cF<|qK<|gS rfl rfl<|sV .nils<|sN<|qS<|gS rfl rfl<|sV (.ptr 48 0)<|sL rfl<|sE (.d (.int .i64 (a0.fChannels.length : Int))) (lenMap _ _)<|sV (.d (.int .i64 0))<|sN<|bE h fun o13 ho13 h => WC.block (WC.loop (WL.ofLoop ho13 (fun s R' B' => ghosts prog 0 (A R' B') (hints.at_ 13 5) = some (A [(1, .d (.str a1)), (2, .d (.int .i64 a2)), (8, .ref 544 0), (17, .d (.lst (a0.fChannels.map T_api_Channel.pd))), (18, .d (.int .i64 (a0.fChannels.length : Int))), (19, .d (.int .i64 s.1))] [(544, .arr 0 34 (s.2.map T_api_SourceID.pd))])) (fun o e R' B' => e = .exit 0 ∧ ghosts prog 0 (A R' B') (hints.at_ 13 11) = some (A [(1, .d (.str a1)), (8, .ref 544 0)] [(544, .arr 0 34 (o.map T_api_SourceID.pd))])) rfl ?_ ?_))
 ·rintro ⟨s3, s4⟩ R' B' q6 hI h
  refine gS rfl hI<|sF h (fun h => ?_) fun h => ?_
  ·refine sN<|qS<|cT<|qK<|qS<|qB<|gS rfl rfl<|bE h fun x8 hx8 h => WO.elemG hx8 rfl rfl rfl rfl rfl rfl rfl rfl rfl<|sV (.d (T_api_Channel.pd x8))<|sB (.ptr 160 0) 160 (.var [.d (.str []), .d (.str []), .d (.str []), .d (.str []), .nils])<|sS 160 (.var [.d (.str x8.fSource.fNetwork), .d (.str x8.fSource.fStation), .d (.str x8.fSource.fLocation), .d (.str x8.fSource.fChannel), .d (.lst (x8.fEpochs.map T_api_Epoch.pd))])<|sN<|gS rfl rfl<|sV (.d (T_api_Channel.pd x8)) ?_
   refine sM rfl<|bE h fun x9 hx9 h => cR (.tup [.d (T_api_Epoch.pd x9.1), .d (.bool x9.2)]) [] (inventory_at_ev hx9)<|sM rfl<|sV (.d (T_api_Epoch.pd x9.1))<|sV (.d (.bool x9.2))<|sB (.ptr 176 0) 176 (.var [.d (.int .i64 0), .d (.int .i64 0), .d (.int .i64 0), .d (.int .i64 0), .d (.int .i64 0), .d (.int .i64 0), .d (.int .i64 0), .nils])<|sS 176 (.var [.d (.int .i64 x9.1.fFrom), .d (.int .i64 x9.1.fTo), .d (.int .i64 x9.1.fRate.fNum), .d (.int .i64 x9.1.fRate.fDen), .d (.int .i64 x9.1.fPosition.fX), .d (.int .i64 x9.1.fPosition.fY), .d (.int .i64 x9.1.fPosition.fZ), .d (.lst (x9.1.fResponse.fStages.map T_api_Stage.pd))])<|sA rfl<|sN<|gS rfl rfl<|sF h (fun h => ?_) fun h => ?_
   ·refine sN<|cT<|WC.region rfl rfl<|sM rfl<|sV (.ptr 160 0)<|sV (.d (T_api_SourceID.pd x8.fSource))<|sV (.d (.lst ([x8.fSource].map T_api_SourceID.pd)))<|bE h fun x11 hx11 h => WO.appR hx11 (fun _ => rfl) rfl rfl rfl rfl rfl rfl rfl rfl rfl rfl rfl rfl rfl rfl<|sA rfl<|sN<|WC.region rfl rfl<|sV (.d (.int .i64 (IntKind.wrap .i64 (s3 + (1 : Int)))))<|sM rfl<|sN ?_
    obtain rfl:=oI h
    exact ⟨rfl, rfl⟩
   refine sN<|cF<|qK<|WC.region rfl rfl<|sV (.d (.int .i64 (IntKind.wrap .i64 (s3 + (1 : Int)))))<|sM rfl<|sN ?_
   obtain rfl:=oI h
   exact ⟨rfl, rfl⟩
  refine sN<|qS<|cF<|qX ?_
  obtain rfl:=oI h
  exact ⟨(fun he => by cases he), rfl, rfl⟩
 intro e R' B' he hq
 obtain ⟨rfl, hI⟩ := hq
 refine qE<|gS rfl hI<|sM rfl<|sM rfl<|bE h fun x14 hx14 h => cR (.tup [.d (.lst (x14.1.map T_api_SourceID.pd)), .d (.int .i64 x14.2)]) [(544, .dead)] (source_Select_ev hx14)<|sV (.d (.lst (x14.1.map T_api_SourceID.pd)))<|sV (.d (.int .i64 x14.2))<|sA rfl<|sA rfl<|sN<|qR ?_
 obtain rfl:=oI h
 exact qD
theorem ref03_Same_ev {a0 : (List T_api_SourceID)} {a1 : (List T_api_SourceID)} {r : Bool} (h : ref03_Same a0 a1 = some r) : EvP prog hints ext 14 [.d (.lst (a0.map T_api_SourceID.pd)), .d (.lst (a1.map T_api_SourceID.pd))] [] (.d (.bool r), []) := by
 refine Ev.body rfl Tryz.func14 rfl (by kernel_rfl)<|gS rfl rfl<|sU<|sN<|qS<|gS rfl rfl<|sM rfl<|sE (.d (.int .i64 (a0.length : Int))) (lenMap _ _)<|sM rfl<|sE (.d (.int .i64 (a1.length : Int))) (lenMap _ _)<|sF h (fun h => ?_) fun h => ?_
 ·refine sN<|cT<|gS rfl rfl<|sU<|sN<|qR ?_
  obtain rfl:=oI h
  exact qD
 refine sN<|cF<|qK<|qS<|gS rfl rfl<|sV (.d (.int .i64 0))<|sN<|bE h fun o9 ho9 h => WC.block (WC.loop (WL.ofLoop ho9 (fun s R' B' => ghosts prog 0 (A R' B') (hints.at_ 14 4) = some (A [(0, .d (.lst (a0.map T_api_SourceID.pd))), (1, .d (.lst (a1.map T_api_SourceID.pd))), (5, .d (.int .i64 s))] [])) (fun o e R' B' => match o with | .inl y => e = .exit 0 ∧ ghosts prog 0 (A R' B') (hints.at_ 14 8) = some (A [] []) | .inr r => e = .ret ∧ finish prog (hints.own 14) Tryz.f14 0 (A R' B') = some (.d (.bool r), [])) rfl ?_ ?_))
 ·rintro s2 R' B' q3 hI h
  refine qS<|gS rfl hI<|sM rfl<|sM rfl<|sE (.d (.int .i64 (a0.length : Int))) (lenMap _ _)<|sF h (fun h => ?_) fun h => ?_
  ·refine sN<|cT<|qK<|qS<|qB<|WC.regionDSeq rfl rfl<|sM rfl<|sM rfl<|bE h fun x5 hx5 h => WO.elemG hx5 rfl rfl rfl rfl rfl rfl rfl rfl rfl<|sV (.d (T_api_SourceID.pd x5))<|sM rfl<|sM rfl<|bE h fun x6 hx6 h => WO.elemG hx6 rfl rfl rfl rfl rfl rfl rfl rfl rfl ?_
   refine sV (.d (T_api_SourceID.pd x6))<|ite_elim h (fun hb7 h => ?_) (fun hb7 h => ?_)
   ·refine WO.binS (eqN_34 x5 x6) hb7 rfl rfl rfl rfl rfl ?_
    refine sN<|sO<|cT<|gS rfl rfl<|sU<|sN<|qR ?_
    obtain rfl:=oI h
    exact ⟨(fun he => by cases he), rfl, rfl⟩
   refine WO.binS (eqN_34 x5 x6) hb7 rfl rfl rfl rfl rfl ?_
   refine sN<|sO<|cF<|qK<|WC.region rfl rfl<|sM rfl<|sV (.d (.int .i64 (IntKind.wrap .i64 (s2 + (1 : Int)))))<|sA rfl<|sN ?_
   obtain rfl:=oI h
   exact ⟨rfl, rfl⟩
  refine sN<|cF<|qX ?_
  obtain rfl:=oI h
  exact ⟨(fun he => by cases he), rfl, rfl⟩
 intro e R' B' he hq
 rcases o9 with y10 | r11
 ·obtain ⟨rfl, hI⟩ := hq
  refine qE<|gS rfl hI<|sT<|sN<|qR ?_
  obtain rfl:=oI h
  exact qD
 obtain ⟨rfl, hf⟩ := hq
 obtain rfl:=oI h
 exact hf
theorem law19_InventoryTimes_ev {a0 : (List Int)} {a1 : Int} {r : Bool} (h : law19_InventoryTimes a0 a1 = some r) : EvP prog hints ext 3 [.d (.lst (a0.map (PD.int .i64))), .d (.int .u16 a1)] [] (.d (.bool r), []) := by
 refine Ev.body rfl Tryz.func3 rfl (by kernel_rfl)<|gS rfl rfl<|sU<|sN<|qS<|gS rfl rfl<|sM rfl<|bE h fun x1 hx1 h => cD (made_Light_ev hx1)<|sF h (fun h => ?_) fun h => ?_
 ·refine sN<|cT<|gS rfl rfl<|bE h fun x3 hx3 h => cD (law19_sane_ev hx3)<|sA rfl<|sN<|qR ?_
  obtain rfl:=oI h
  exact qD
 refine sN<|cF<|qK<|gS rfl rfl<|sM rfl<|bE h fun x4 hx4 h => cR (.ptr 384 0) [(384, .var [.d (.lst (x4.fL.map (PD.int .i64))), .d (.int .i64 x4.fAt)])] (made_Roll_ev hx4)<|sA rfl<|sN<|gS rfl rfl<|sM rfl<|bE h fun x5 hx5 h => cR (.d (T_api_Inventory.pd x5.1)) [(384, .var [.d (.lst (x5.2.fL.map (PD.int .i64))), .d (.int .i64 x5.2.fAt)])] (Dice_Inventory_ev hx5)<|sB (.ptr 96 0) 96 (.var [.nils])<|sS 96 (.var [.d (.lst (x5.1.fChannels.map T_api_Channel.pd))]) ?_
 refine sN<|gS rfl rfl<|sM rfl<|sV (.d (.int .i64 (IntKind.wrap .i64 a1)))<|bE h fun x6 hx6 h => WO.remG hx6 rfl rfl rfl rfl rfl rfl<|sV (.d (.int .i64 (IntKind.wrap .i64 ((1000000000000 : Int) + x6))))<|sV (.d (.int .i64 (IntKind.wrap .i64 ((IntKind.wrap .i64 ((1000000000000 : Int) + x6)) - (1000 : Int)))))<|sA rfl<|sN<|gS rfl rfl<|sV .nils<|sN<|qS<|gS rfl rfl ?_
 refine sV (.ptr 96 0)<|sL rfl<|sE (.d (.int .i64 (x5.1.fChannels.length : Int))) (lenMap _ _)<|sV (.d (.int .i64 0))<|sN<|bE h fun o46 ho46 h => WC.block (WC.loop (WL.ofLoop ho46 (fun s R' B' => ghosts prog 0 (A R' B') (hints.at_ 3 8) = some (A [(6, .ptr 96 0), (7, .d (.int .i64 (IntKind.wrap .i64 ((IntKind.wrap .i64 ((1000000000000 : Int) + x6)) - (1000 : Int))))), (8, .ref 1888 0), (33, .d (.lst (x5.1.fChannels.map T_api_Channel.pd))), (34, .d (.int .i64 (x5.1.fChannels.length : Int))), (35, .d (.int .i64 s.1))] [(96, .var [.d (.lst (x5.1.fChannels.map T_api_Channel.pd))]), (1888, .arr 0 34 (s.2.map T_api_SourceID.pd))])) (fun o e R' B' => match o with | .inl y => e = .exit 0 ∧ ghosts prog 0 (A R' B') (hints.at_ 3 28) = some (A [(6, .ptr 96 0), (7, .d (.int .i64 (IntKind.wrap .i64 ((IntKind.wrap .i64 ((1000000000000 : Int) + x6)) - (1000 : Int))))), (8, .ref 1888 0)] [(96, .var [.d (.lst (x5.1.fChannels.map T_api_Channel.pd))]), (1888, .arr 0 34 (y.map T_api_SourceID.pd))]) | .inr r => e = .ret ∧ finish prog (hints.own 3) Tryz.f3 0 (A R' B') = some (.d (.bool r), [])) rfl ?_ ?_))
 ·rintro ⟨s7, s8⟩ R' B' q10 hI h
  refine gS rfl hI<|sF h (fun h => ?_) fun h => ?_
  ·refine sN<|qS<|cT<|qK<|qS<|qB<|gS rfl rfl<|bE h fun x12 hx12 h => WO.elemG hx12 rfl rfl rfl rfl rfl rfl rfl rfl rfl<|sV (.d (T_api_Channel.pd x12))<|sB (.ptr 160 0) 160 (.var [.d (.str []), .d (.str []), .d (.str []), .d (.str []), .nils])<|sS 160 (.var [.d (.str x12.fSource.fNetwork), .d (.str x12.fSource.fStation), .d (.str x12.fSource.fLocation), .d (.str x12.fSource.fChannel), .d (.lst (x12.fEpochs.map T_api_Epoch.pd))])<|sN<|gS rfl rfl<|sV (.d (T_api_Inventory.pd x5.1)) ?_
   refine sV (.ptr 160 0)<|sV (.d (T_api_SourceID.pd x12.fSource))<|sM rfl<|bE h fun x13 hx13 h => cR (.tup [.d (T_api_Epoch.pd x13.1), .d (.int .i64 x13.2)]) [] (inventory_At_ev hx13)<|sM rfl<|sV (.d (T_api_Epoch.pd x13.1))<|sV (.d (.int .i64 x13.2))<|sB (.ptr 176 0) 176 (.var [.d (.int .i64 0), .d (.int .i64 0), .d (.int .i64 0), .d (.int .i64 0), .d (.int .i64 0), .d (.int .i64 0), .d (.int .i64 0), .nils])<|sS 176 (.var [.d (.int .i64 x13.1.fFrom), .d (.int .i64 x13.1.fTo), .d (.int .i64 x13.1.fRate.fNum), .d (.int .i64 x13.1.fRate.fDen), .d (.int .i64 x13.1.fPosition.fX), .d (.int .i64 x13.1.fPosition.fY), .d (.int .i64 x13.1.fPosition.fZ), .d (.lst (x13.1.fResponse.fStages.map T_api_Stage.pd))])<|sA rfl<|sN<|gS rfl rfl<|sV (.d (T_api_Inventory.pd x5.1))<|sV (.ptr 160 0) ?_
   refine sV (.d (T_api_SourceID.pd x12.fSource))<|bE h fun x14 hx14 h => cD (inventory_Times_ev hx14)<|sM rfl<|bE h fun x15 hx15 h => cD (ref08_Has_ev hx15)<|sA rfl<|sN<|WC.join (α := Unit) (fun x R' B' => ghosts prog 0 (A R' B') (hints.at_ 3 14) = some (A [(6, .ptr 96 0), (7, .d (.int .i64 (IntKind.wrap .i64 ((IntKind.wrap .i64 ((1000000000000 : Int) + x6)) - (1000 : Int))))), (8, .ref 1888 0), (10, .ptr 160 0), (11, .ptr 176 0), (13, .d (.bool x15)), (33, .d (.lst (x5.1.fChannels.map T_api_Channel.pd))), (34, .d (.int .i64 (x5.1.fChannels.length : Int))), (35, .d (.int .i64 s7))] [(96, .var [.d (.lst (x5.1.fChannels.map T_api_Channel.pd))]), (160, .var [.d (.str x12.fSource.fNetwork), .d (.str x12.fSource.fStation), .d (.str x12.fSource.fLocation), .d (.str x12.fSource.fChannel), .d (.lst (x12.fEpochs.map T_api_Epoch.pd))]), (176, .var [.d (.int .i64 x13.1.fFrom), .d (.int .i64 x13.1.fTo), .d (.int .i64 x13.1.fRate.fNum), .d (.int .i64 x13.1.fRate.fDen), .d (.int .i64 x13.1.fPosition.fX), .d (.int .i64 x13.1.fPosition.fY), .d (.int .i64 x13.1.fPosition.fZ), .d (.lst (x13.1.fResponse.fStages.map T_api_Stage.pd))]), (1888, .arr 0 34 (s8.map T_api_SourceID.pd))])) (fun x => law19_InventoryTimes_k36 x12 x6 x13 s7 s8 x15 = some q10) ?_ ?_
   ·refine gS rfl rfl<|sM rfl<|sV (.d (.bool (x13.2 == (0 : Int))))<|sM rfl<|sF h (fun h => ?_) fun h => ?_
    ·refine sM rfl<|sK<|sK<|sK<|sK<|sK<|sK<|sK<|sK<|sK<|sK<|sK<|sK<|sK<|sK ?_
     refine sT<|sM rfl<|sK<|sK<|sK<|sK<|sK<|sK<|sT<|sN<|cT<|gS rfl rfl<|sU<|sN<|qR ?_
     obtain rfl:=oI h
     exact ⟨(fun he => by cases he), rfl, rfl⟩
    refine sM rfl<|sM rfl<|sF h (fun h => ?_) fun h => ?_
    ·refine sM rfl<|sM rfl<|sV (.ptr 176 0)<|sL rfl<|sF h (fun h => ?_) fun h => ?_
     ·refine sM rfl<|sK<|sK<|sK<|sK<|sT<|sT<|sT<|sM rfl<|sK<|sK<|sK<|sK<|sK<|sK ?_
      refine sT<|sN<|cT<|gS rfl rfl<|sU<|sN<|qR ?_
      obtain rfl:=oI h
      exact ⟨(fun he => by cases he), rfl, rfl⟩
     refine sM rfl<|sM rfl<|sV (.ptr 176 1)<|sL rfl<|sV (.d (.bool (decide ((IntKind.wrap .i64 ((IntKind.wrap .i64 ((1000000000000 : Int) + x6)) - (1000 : Int))) ≥ x13.1.fTo))))<|sV (.d (.bool (decide ((IntKind.wrap .i64 ((IntKind.wrap .i64 ((1000000000000 : Int) + x6)) - (1000 : Int))) ≥ x13.1.fTo))))<|sV (.d (.bool (decide ((IntKind.wrap .i64 ((IntKind.wrap .i64 ((1000000000000 : Int) + x6)) - (1000 : Int))) ≥ x13.1.fTo))))<|sF h (fun h => ?_) fun h => ?_
     ·refine sM rfl<|sK<|sK<|sK<|sK<|sK<|sK<|sT<|sN<|cT<|gS rfl rfl<|sU<|sN<|qR ?_
      obtain rfl:=oI h
      exact ⟨(fun he => by cases he), rfl, rfl⟩
     refine sM rfl<|sM rfl<|sF h (fun h => ?_) fun h => ?_
     ·refine sM rfl<|sM rfl<|sV (.d (.bool (x13.2 != (6 : Int))))<|sV (.d (.bool (x13.2 != (6 : Int))))<|sF h (fun h => ?_) fun h => ?_
      ·refine sN<|cT<|gS rfl rfl<|sU<|sN<|qR ?_
       obtain rfl:=oI h
       exact ⟨(fun he => by cases he), rfl, rfl⟩
      exact sN<|cF<|qK<|⟨(), rfl, h⟩
     exact sM rfl<|sK<|sK<|sU<|sU<|sN<|cF<|qK<|⟨(), rfl, h⟩
    refine sM rfl<|sK<|sK<|sK<|sK<|sK<|sK<|sK<|sK<|sK<|sK<|sU<|sU<|sM rfl<|sM rfl ?_
    refine sF h (fun h => ?_) fun h => ?_
    ·refine sM rfl<|sM rfl<|sV (.d (.bool (x13.2 != (6 : Int))))<|sV (.d (.bool (x13.2 != (6 : Int))))<|sF h (fun h => ?_) fun h => ?_
     ·refine sN<|cT<|gS rfl rfl<|sU<|sN<|qR ?_
      obtain rfl:=oI h
      exact ⟨(fun he => by cases he), rfl, rfl⟩
     exact sN<|cF<|qK<|⟨(), rfl, h⟩
    exact sM rfl<|sK<|sK<|sU<|sU<|sN<|cF<|qK<|⟨(), rfl, h⟩
   rintro ⟨⟩ R' B' hI h
   refine gS rfl hI<|sV (.d (.int .i64 0))<|sN<|qS<|gS rfl rfl<|sV (.ptr 160 4)<|sL rfl<|sE (.d (.int .i64 (x12.fEpochs.length : Int))) (lenMap _ _)<|sV (.d (.int .i64 0))<|sN<|bE h fun o29 ho29 h => WC.block (WC.loop (WL.ofLoop ho29 (fun s R' B' => ghosts prog 0 (A R' B') (hints.at_ 3 16) = some (A [(6, .ptr 96 0), (7, .d (.int .i64 (IntKind.wrap .i64 ((IntKind.wrap .i64 ((1000000000000 : Int) + x6)) - (1000 : Int))))), (8, .ref 1888 0), (10, .ptr 160 0), (11, .ptr 176 0), (13, .d (.bool x15)), (14, .d (.int .i64 s.1)), (33, .d (.lst (x5.1.fChannels.map T_api_Channel.pd))), (34, .d (.int .i64 (x5.1.fChannels.length : Int))), (35, .d (.int .i64 s7)), (82, .d (.lst (x12.fEpochs.map T_api_Epoch.pd))), (83, .d (.int .i64 (x12.fEpochs.length : Int))), (84, .d (.int .i64 s.2))] [(96, .var [.d (.lst (x5.1.fChannels.map T_api_Channel.pd))]), (160, .var [.d (.str x12.fSource.fNetwork), .d (.str x12.fSource.fStation), .d (.str x12.fSource.fLocation), .d (.str x12.fSource.fChannel), .d (.lst (x12.fEpochs.map T_api_Epoch.pd))]), (176, .var [.d (.int .i64 x13.1.fFrom), .d (.int .i64 x13.1.fTo), .d (.int .i64 x13.1.fRate.fNum), .d (.int .i64 x13.1.fRate.fDen), .d (.int .i64 x13.1.fPosition.fX), .d (.int .i64 x13.1.fPosition.fY), .d (.int .i64 x13.1.fPosition.fZ), .d (.lst (x13.1.fResponse.fStages.map T_api_Stage.pd))]), (1888, .arr 0 34 (s8.map T_api_SourceID.pd))])) (fun o e R' B' => match o with | .inl y => e = .exit 2 ∧ ghosts prog 0 (A R' B') (hints.at_ 3 23) = some (A [(6, .ptr 96 0), (7, .d (.int .i64 (IntKind.wrap .i64 ((IntKind.wrap .i64 ((1000000000000 : Int) + x6)) - (1000 : Int))))), (8, .ref 1888 0), (10, .ptr 160 0), (13, .d (.bool x15)), (14, .d (.int .i64 y.1)), (33, .d (.lst (x5.1.fChannels.map T_api_Channel.pd))), (34, .d (.int .i64 (x5.1.fChannels.length : Int))), (35, .d (.int .i64 y.2.1))] [(96, .var [.d (.lst (x5.1.fChannels.map T_api_Channel.pd))]), (160, .var [.d (.str x12.fSource.fNetwork), .d (.str x12.fSource.fStation), .d (.str x12.fSource.fLocation), .d (.str x12.fSource.fChannel), .d (.lst (x12.fEpochs.map T_api_Epoch.pd))]), (1888, .arr 0 34 (y.2.2.map T_api_SourceID.pd))]) | .inr r => e = .ret ∧ finish prog (hints.own 3) Tryz.f3 0 (A R' B') = some (.d (.bool r), [])) rfl ?_ ?_))
   ·rintro ⟨s16, s17⟩ R' B' q21 hI h
    refine gS rfl hI<|sF h (fun h => ?_) fun h => ?_
    ·refine sN<|qS<|cT<|qK<|qS<|qB<|gS rfl rfl<|bE h fun x23 hx23 h => WO.elemG hx23 rfl rfl rfl rfl rfl rfl rfl rfl rfl<|sV (.d (T_api_Epoch.pd x23))<|sB (.ptr 256 0) 256 (.var [.d (.int .i64 0), .d (.int .i64 0), .d (.int .i64 0), .d (.int .i64 0), .d (.int .i64 0), .d (.int .i64 0), .d (.int .i64 0), .nils])<|sS 256 (.var [.d (.int .i64 x23.fFrom), .d (.int .i64 x23.fTo), .d (.int .i64 x23.fRate.fNum), .d (.int .i64 x23.fRate.fDen), .d (.int .i64 x23.fPosition.fX), .d (.int .i64 x23.fPosition.fY), .d (.int .i64 x23.fPosition.fZ), .d (.lst (x23.fResponse.fStages.map T_api_Stage.pd))])<|sN<|gS rfl rfl<|sV (.ptr 256 0) ?_
     refine sL rfl<|sM rfl<|sF h (fun h => ?_) fun h => ?_
     ·refine sM rfl<|sM rfl<|sV (.ptr 256 1)<|sL rfl<|sV (.d (.bool (decide ((IntKind.wrap .i64 ((IntKind.wrap .i64 ((1000000000000 : Int) + x6)) - (1000 : Int))) < x23.fTo))))<|sF h (fun h => ?_) fun h => ?_
      ·refine sN<|cT<|gS rfl rfl<|sM rfl<|sV (.d (.int .i64 (IntKind.wrap .i64 (s16 + (1 : Int)))))<|sA rfl<|sN<|gS rfl rfl<|sV (.d (T_api_Epoch.pd x23))<|sV (.d (T_api_Epoch.pd x13.1))<|bE h fun x26 hx26 h => cD (inventory_SameEpoch_ev hx26)<|sF h (fun h => ?_) fun h => ?_
       ·refine sN<|cT<|gS rfl rfl<|sU<|sN<|qR ?_
        obtain rfl:=oI h
        exact ⟨(fun he => by cases he), rfl, rfl⟩
       refine sN<|cF<|qK<|WC.region rfl rfl<|sV (.d (.int .i64 (IntKind.wrap .i64 (s17 + (1 : Int)))))<|sM rfl<|sN ?_
       obtain rfl:=oI h
       exact ⟨rfl, rfl⟩
      refine sN<|cF<|qK<|WC.region rfl rfl<|sV (.d (.int .i64 (IntKind.wrap .i64 (s17 + (1 : Int)))))<|sM rfl<|sN ?_
      obtain rfl:=oI h
      exact ⟨rfl, rfl⟩
     refine sM rfl<|sK<|sK<|sK<|sK<|sU<|sN<|cF<|qK<|WC.region rfl rfl<|sV (.d (.int .i64 (IntKind.wrap .i64 (s17 + (1 : Int)))))<|sM rfl<|sN ?_
     obtain rfl:=oI h
     exact ⟨rfl, rfl⟩
    refine sN<|qS<|cF<|qX ?_
    obtain rfl:=oI h
    exact ⟨(fun he => by cases he), rfl, rfl⟩
   intro e R' B' he hq
   rcases o29 with y30 | r31
   ·obtain ⟨rfl, hI⟩ := hq
    refine qE<|qS<|gS rfl hI<|sM rfl<|sM rfl<|sV (.d (.bool (y30.1 == (1 : Int))))<|sF h (fun h => ?_) fun h => ?_
    ·refine sM rfl<|sK<|sK<|sT<|sN<|cT<|gS rfl rfl<|sU<|sN<|qR ?_
     obtain rfl:=oI h
     exact ⟨(fun he => by cases he), rfl, rfl⟩
    refine sM rfl<|sM rfl<|sV (.d (.bool (decide (y30.1 > (1 : Int)))))<|sF h (fun h => ?_) fun h => ?_
    ·refine sN<|cT<|gS rfl rfl<|sU<|sN<|qR ?_
     obtain rfl:=oI h
     exact ⟨(fun he => by cases he), rfl, rfl⟩
    refine sN<|cF<|qK<|gS rfl rfl<|sF h (fun h => ?_) fun h => ?_
    ·refine sN<|cT<|WC.region rfl rfl<|sM rfl<|sV (.ptr 160 0)<|sV (.d (T_api_SourceID.pd x12.fSource))<|sV (.d (.lst ([x12.fSource].map T_api_SourceID.pd)))<|bE h fun x35 hx35 h => WO.appR hx35 (fun _ => rfl) rfl rfl rfl rfl rfl rfl rfl rfl rfl rfl rfl rfl rfl rfl<|sA rfl<|sN<|WC.region rfl rfl<|sV (.d (.int .i64 (IntKind.wrap .i64 (y30.2.1 + (1 : Int)))))<|sM rfl<|sN ?_
     obtain rfl:=oI h
     exact ⟨rfl, rfl⟩
    refine sN<|cF<|qK<|WC.region rfl rfl<|sV (.d (.int .i64 (IntKind.wrap .i64 (y30.2.1 + (1 : Int)))))<|sM rfl<|sN ?_
    obtain rfl:=oI h
    exact ⟨rfl, rfl⟩
   obtain ⟨rfl, hf⟩ := hq
   obtain rfl:=oI h
   exact ⟨(fun he => by cases he), rfl, hf⟩
  refine sN<|qS<|cF<|qX ?_
  obtain rfl:=oI h
  exact ⟨(fun he => by cases he), rfl, rfl⟩
 intro e R' B' he hq
 rcases o46 with y47 | r48
 ·obtain ⟨rfl, hI⟩ := hq
  refine qE<|gS rfl hI<|sV (.d (T_api_Inventory.pd x5.1))<|sM rfl<|bE h fun x49 hx49 h => cR (.tup [.d (.lst (x49.1.map T_api_SourceID.pd)), .d (.int .i64 x49.2)]) [] (inventory_Sources_ev hx49)<|sM rfl<|sV (.d (.lst (x49.1.map T_api_SourceID.pd)))<|sV (.d (.int .i64 x49.2))<|sA rfl<|sA rfl<|sN<|gS rfl rfl<|sM rfl<|sF h (fun h => ?_) fun h => ?_
  ·refine sM rfl<|sM rfl<|sM rfl<|bE h fun x51 hx51 h => cR (.d (.bool x51)) [(1888, .dead)] (ref03_Same_ev hx51)<|sF h (fun h => ?_) fun h => ?_
   ·refine sM rfl<|bE h fun x53 hx53 h => cD (law19_sane_ev hx53)<|sV (.d (.bool x53))<|sA rfl<|sN<|qR ?_
    obtain rfl:=oI h
    exact qD
   refine sM rfl<|sK<|sU<|sA rfl<|sN<|qR ?_
   obtain rfl:=oI h
   exact qD
  refine sM rfl<|sK<|sK<|sK<|sU<|sM rfl<|sK<|sU<|sA rfl<|sN<|qR ?_
  obtain rfl:=oI h
  exact qD
 obtain ⟨rfl, hf⟩ := hq
 obtain rfl:=oI h
 exact hf
end Go.Dw.It
