/- FeEv: the code computes what the plain functions say, further (written by lift.py). -/
import Derived.Test.YtpeijlelfekcoaaGreatDoorFeEvA

set_option maxRecDepth 100000
set_option maxHeartbeats 4000000
namespace Go.Dw.Fe
open Go.Proofs Go.Proofs.Tryz Go.Dw
theorem ref36_Valid_ev {a0 : (List T_api_Alert)} {r : Bool} (h : ref36_Valid a0 = some r) : EvP prog hints ext 96 [.d (.lst (a0.map T_api_Alert.pd))] [] (.d (.bool r), []) := by
 refine Ev.body rfl Tryz.func96 rfl (by kernel_rfl)<|gS rfl rfl<|sU<|sN<|qS<|gS rfl rfl<|sV (.d (.int .i64 0))<|sN<|bE h fun o37 ho37 h => WC.block (WC.loop (WL.ofLoop ho37 (fun s R' B' => ghosts prog 0 (A R' B') (hints.at_ 96 0 2) = some (A [(0, .d (.lst (a0.map T_api_Alert.pd))), (3, .d (.int .i64 s))] [])) (fun o e R' B' => match o with | .inl y => e = .exit 0 ∧ ghosts prog 0 (A R' B') (hints.at_ 96 0 11) = some (A [(0, .d (.lst (a0.map T_api_Alert.pd)))] []) | .inr r => e = .ret ∧ finish prog (hints.own 96) Tryz.f96 0 (A R' B') = some (.d (.bool r), [])) rfl ?_ ?_))
 ·rintro s1 R' B' q2 hI h
  refine qS<|gS rfl hI<|sM rfl<|sM rfl<|sE (.d (.int .i64 (a0.length : Int))) (lenMap _ _)<|sF h (fun h => ?_) fun h => ?_
  ·refine sN<|cT<|qK<|qS<|qB<|WC.join (α := Unit) (fun x R' B' => ghosts prog 0 (A R' B') (hints.at_ 96 0 6) = some (A [(0, .d (.lst (a0.map T_api_Alert.pd))), (3, .d (.int .i64 s1))] [])) (fun x => ref36_Valid_k19 s1 a0 = some q2) ?_ ?_
   ·refine WC.regionDSeq rfl rfl<|sM rfl<|sM rfl<|bE h fun x20 hx20 h => WO.elemG hx20 rfl rfl rfl rfl rfl rfl rfl rfl rfl<|sV (.cptr [.int .i64 x20.fID, .bool x20.fWithdrawn, .str x20.fName.fSource.fNetwork, .str x20.fName.fSource.fStation, .str x20.fName.fSource.fLocation, .str x20.fName.fSource.fChannel, .int .i64 x20.fName.fTime, .int .i64 x20.fName.fEarly, .int .i64 x20.fName.fLate, .int .i64 x20.fName.fAmplitude, .int .i64 x20.fName.fPolarity, .int .i64 x20.fLevel, .str x20.fEvent.fName.fSource.fNetwork, .str x20.fEvent.fName.fSource.fStation, .str x20.fEvent.fName.fSource.fLocation, .str x20.fEvent.fName.fSource.fChannel, .int .i64 x20.fEvent.fName.fTime, .int .i64 x20.fEvent.fName.fEarly, .int .i64 x20.fEvent.fName.fLate, .int .i64 x20.fEvent.fName.fAmplitude, .int .i64 x20.fEvent.fName.fPolarity, .lst (x20.fEvent.fSolution.fPicks.map T_api_Pick.pd), .int .i64 x20.fEvent.fSolution.fLocation.fPoint.fX, .int .i64 x20.fEvent.fSolution.fLocation.fPoint.fY, .int .i64 x20.fEvent.fSolution.fLocation.fPoint.fZ, .int .i64 x20.fEvent.fSolution.fLocation.fTime, .int .i64 x20.fEvent.fSolution.fLocation.fMisfit, .int .i64 x20.fEvent.fSolution.fLocation.fLower, .int .i64 x20.fEvent.fSolution.fLocation.fArea.fLow.fX, .int .i64 x20.fEvent.fSolution.fLocation.fArea.fLow.fY, .int .i64 x20.fEvent.fSolution.fLocation.fArea.fLow.fZ, .int .i64 x20.fEvent.fSolution.fLocation.fArea.fHigh.fX, .int .i64 x20.fEvent.fSolution.fLocation.fArea.fHigh.fY, .int .i64 x20.fEvent.fSolution.fLocation.fArea.fHigh.fZ, .int .i64 x20.fEvent.fSolution.fMagnitude.fLow, .int .i64 x20.fEvent.fSolution.fMagnitude.fHigh, .int .i64 x20.fEvent.fSolution.fCount, .int .i64 x20.fAt])<|sC rfl<|sF h (fun h => ?_) fun h => ?_
    ·refine sM rfl<|sK<|sK<|sK<|sK<|sK<|sK<|sT<|sM rfl<|sK<|sK<|sK<|sK<|sK<|sK ?_
     refine sK<|sK<|sK<|sK<|sK<|sK<|sK<|sK<|sK<|sK<|sT<|sM rfl<|sK<|sK<|sK ?_
     refine sK<|sK<|sK<|sT<|sM rfl<|sK<|sK<|sK<|sK<|sK<|sK<|sT ?_
     refine sN<|sO<|cT<|gS rfl rfl<|sU<|sN<|qR ?_
     obtain rfl:=oI h
     exact ⟨(fun he => by cases he), rfl, rfl⟩
    refine sM rfl<|sM rfl<|sM rfl<|bE h fun x22 hx22 h => WO.elemG hx22 rfl rfl rfl rfl rfl rfl rfl rfl rfl<|sV (.cptr [.int .i64 x22.fID, .bool x22.fWithdrawn, .str x22.fName.fSource.fNetwork, .str x22.fName.fSource.fStation, .str x22.fName.fSource.fLocation, .str x22.fName.fSource.fChannel, .int .i64 x22.fName.fTime, .int .i64 x22.fName.fEarly, .int .i64 x22.fName.fLate, .int .i64 x22.fName.fAmplitude, .int .i64 x22.fName.fPolarity, .int .i64 x22.fLevel, .str x22.fEvent.fName.fSource.fNetwork, .str x22.fEvent.fName.fSource.fStation, .str x22.fEvent.fName.fSource.fLocation, .str x22.fEvent.fName.fSource.fChannel, .int .i64 x22.fEvent.fName.fTime, .int .i64 x22.fEvent.fName.fEarly, .int .i64 x22.fEvent.fName.fLate, .int .i64 x22.fEvent.fName.fAmplitude, .int .i64 x22.fEvent.fName.fPolarity, .lst (x22.fEvent.fSolution.fPicks.map T_api_Pick.pd), .int .i64 x22.fEvent.fSolution.fLocation.fPoint.fX, .int .i64 x22.fEvent.fSolution.fLocation.fPoint.fY, .int .i64 x22.fEvent.fSolution.fLocation.fPoint.fZ, .int .i64 x22.fEvent.fSolution.fLocation.fTime, .int .i64 x22.fEvent.fSolution.fLocation.fMisfit, .int .i64 x22.fEvent.fSolution.fLocation.fLower, .int .i64 x22.fEvent.fSolution.fLocation.fArea.fLow.fX, .int .i64 x22.fEvent.fSolution.fLocation.fArea.fLow.fY, .int .i64 x22.fEvent.fSolution.fLocation.fArea.fLow.fZ, .int .i64 x22.fEvent.fSolution.fLocation.fArea.fHigh.fX, .int .i64 x22.fEvent.fSolution.fLocation.fArea.fHigh.fY, .int .i64 x22.fEvent.fSolution.fLocation.fArea.fHigh.fZ, .int .i64 x22.fEvent.fSolution.fMagnitude.fLow, .int .i64 x22.fEvent.fSolution.fMagnitude.fHigh, .int .i64 x22.fEvent.fSolution.fCount, .int .i64 x22.fAt])<|sC rfl<|sV (.d (.bool (decide (x22.fID ≥ (1000 : Int)))))<|sF h (fun h => ?_) fun h => ?_
    ·refine sM rfl<|sK<|sK<|sK<|sK<|sK<|sK<|sK<|sK<|sK<|sK<|sK<|sK<|sK<|sK ?_
     refine sK<|sK<|sT<|sM rfl<|sK<|sK<|sK<|sK<|sK<|sK<|sT<|sM rfl<|sK<|sK<|sK ?_
     refine sK<|sK<|sK<|sT ?_
     refine sN<|sO<|cT<|gS rfl rfl<|sU<|sN<|qR ?_
     obtain rfl:=oI h
     exact ⟨(fun he => by cases he), rfl, rfl⟩
    refine sM rfl<|sM rfl<|sF h (fun h => ?_) fun h => ?_
    ·refine sM rfl<|sM rfl<|sM rfl<|bE h fun x25 hx25 h => WO.elemG hx25 rfl rfl rfl rfl rfl rfl rfl rfl rfl<|sV (.cptr [.int .i64 x25.fID, .bool x25.fWithdrawn, .str x25.fName.fSource.fNetwork, .str x25.fName.fSource.fStation, .str x25.fName.fSource.fLocation, .str x25.fName.fSource.fChannel, .int .i64 x25.fName.fTime, .int .i64 x25.fName.fEarly, .int .i64 x25.fName.fLate, .int .i64 x25.fName.fAmplitude, .int .i64 x25.fName.fPolarity, .int .i64 x25.fLevel, .str x25.fEvent.fName.fSource.fNetwork, .str x25.fEvent.fName.fSource.fStation, .str x25.fEvent.fName.fSource.fLocation, .str x25.fEvent.fName.fSource.fChannel, .int .i64 x25.fEvent.fName.fTime, .int .i64 x25.fEvent.fName.fEarly, .int .i64 x25.fEvent.fName.fLate, .int .i64 x25.fEvent.fName.fAmplitude, .int .i64 x25.fEvent.fName.fPolarity, .lst (x25.fEvent.fSolution.fPicks.map T_api_Pick.pd), .int .i64 x25.fEvent.fSolution.fLocation.fPoint.fX, .int .i64 x25.fEvent.fSolution.fLocation.fPoint.fY, .int .i64 x25.fEvent.fSolution.fLocation.fPoint.fZ, .int .i64 x25.fEvent.fSolution.fLocation.fTime, .int .i64 x25.fEvent.fSolution.fLocation.fMisfit, .int .i64 x25.fEvent.fSolution.fLocation.fLower, .int .i64 x25.fEvent.fSolution.fLocation.fArea.fLow.fX, .int .i64 x25.fEvent.fSolution.fLocation.fArea.fLow.fY, .int .i64 x25.fEvent.fSolution.fLocation.fArea.fLow.fZ, .int .i64 x25.fEvent.fSolution.fLocation.fArea.fHigh.fX, .int .i64 x25.fEvent.fSolution.fLocation.fArea.fHigh.fY, .int .i64 x25.fEvent.fSolution.fLocation.fArea.fHigh.fZ, .int .i64 x25.fEvent.fSolution.fMagnitude.fLow, .int .i64 x25.fEvent.fSolution.fMagnitude.fHigh, .int .i64 x25.fEvent.fSolution.fCount, .int .i64 x25.fAt])<|sC rfl<|sM rfl<|sM rfl<|sV (.d (.int .i64 (IntKind.wrap .i64 (s1 - (1 : Int)))))<|bE h fun x26 hx26 h => WO.elemG hx26 rfl rfl rfl rfl rfl rfl rfl rfl rfl<|sV (.cptr [.int .i64 x26.fID, .bool x26.fWithdrawn, .str x26.fName.fSource.fNetwork, .str x26.fName.fSource.fStation, .str x26.fName.fSource.fLocation, .str x26.fName.fSource.fChannel, .int .i64 x26.fName.fTime, .int .i64 x26.fName.fEarly, .int .i64 x26.fName.fLate, .int .i64 x26.fName.fAmplitude, .int .i64 x26.fName.fPolarity, .int .i64 x26.fLevel, .str x26.fEvent.fName.fSource.fNetwork, .str x26.fEvent.fName.fSource.fStation, .str x26.fEvent.fName.fSource.fLocation, .str x26.fEvent.fName.fSource.fChannel, .int .i64 x26.fEvent.fName.fTime, .int .i64 x26.fEvent.fName.fEarly, .int .i64 x26.fEvent.fName.fLate, .int .i64 x26.fEvent.fName.fAmplitude, .int .i64 x26.fEvent.fName.fPolarity, .lst (x26.fEvent.fSolution.fPicks.map T_api_Pick.pd), .int .i64 x26.fEvent.fSolution.fLocation.fPoint.fX, .int .i64 x26.fEvent.fSolution.fLocation.fPoint.fY, .int .i64 x26.fEvent.fSolution.fLocation.fPoint.fZ, .int .i64 x26.fEvent.fSolution.fLocation.fTime, .int .i64 x26.fEvent.fSolution.fLocation.fMisfit, .int .i64 x26.fEvent.fSolution.fLocation.fLower, .int .i64 x26.fEvent.fSolution.fLocation.fArea.fLow.fX, .int .i64 x26.fEvent.fSolution.fLocation.fArea.fLow.fY, .int .i64 x26.fEvent.fSolution.fLocation.fArea.fLow.fZ, .int .i64 x26.fEvent.fSolution.fLocation.fArea.fHigh.fX, .int .i64 x26.fEvent.fSolution.fLocation.fArea.fHigh.fY, .int .i64 x26.fEvent.fSolution.fLocation.fArea.fHigh.fZ, .int .i64 x26.fEvent.fSolution.fMagnitude.fLow, .int .i64 x26.fEvent.fSolution.fMagnitude.fHigh, .int .i64 x26.fEvent.fSolution.fCount, .int .i64 x26.fAt])<|sC rfl<|sV (.d (.bool (decide (x25.fID ≤ x26.fID)))) ?_
     refine sV (.d (.bool (decide (x25.fID ≤ x26.fID))))<|sF h (fun h => ?_) fun h => ?_
     ·refine sM rfl<|sK<|sK<|sK<|sK<|sK<|sK<|sT<|sM rfl<|sK<|sK<|sK<|sK<|sK<|sK ?_
      refine sT ?_
      refine sN<|sO<|cT<|gS rfl rfl<|sU<|sN<|qR ?_
      obtain rfl:=oI h
      exact ⟨(fun he => by cases he), rfl, rfl⟩
     refine sM rfl<|sM rfl<|sM rfl<|bE h fun x28 hx28 h => WO.elemG hx28 rfl rfl rfl rfl rfl rfl rfl rfl rfl<|sV (.cptr [.int .i64 x28.fAt])<|sC rfl<|sV (.d (.bool (decide (x28.fAt < (0 : Int)))))<|sF h (fun h => ?_) fun h => ?_
     ·refine sM rfl<|sK<|sK<|sK<|sK<|sK<|sK<|sT ?_
      refine sN<|sO<|cT<|gS rfl rfl<|sU<|sN<|qR ?_
      obtain rfl:=oI h
      exact ⟨(fun he => by cases he), rfl, rfl⟩
     refine sM rfl<|sM rfl<|sM rfl<|bE h fun x30 hx30 h => WO.elemG hx30 rfl rfl rfl rfl rfl rfl rfl rfl rfl<|sV (.cptr [.int .i64 x30.fAt])<|sC rfl<|sV (.d (.bool (decide (x30.fAt > (18014398509481984 : Int)))))<|sF h (fun h => ?_) fun h => ?_
     ·refine sN<|sO<|cT<|gS rfl rfl<|sU<|sN<|qR ?_
      obtain rfl:=oI h
      exact ⟨(fun he => by cases he), rfl, rfl⟩
     exact sN<|sO<|cF<|qK<|⟨(), rfl, h⟩
    refine sM rfl<|sK<|sK<|sK<|sK<|sK<|sK<|sK<|sK<|sK<|sK<|sK<|sK<|sU<|sU ?_
    refine sM rfl<|sM rfl<|sM rfl<|bE h fun x32 hx32 h => WO.elemG hx32 rfl rfl rfl rfl rfl rfl rfl rfl rfl<|sV (.cptr [.int .i64 x32.fAt])<|sC rfl<|sV (.d (.bool (decide (x32.fAt < (0 : Int)))))<|sF h (fun h => ?_) fun h => ?_
    ·refine sM rfl<|sK<|sK<|sK<|sK<|sK<|sK<|sT ?_
     refine sN<|sO<|cT<|gS rfl rfl<|sU<|sN<|qR ?_
     obtain rfl:=oI h
     exact ⟨(fun he => by cases he), rfl, rfl⟩
    refine sM rfl<|sM rfl<|sM rfl<|bE h fun x34 hx34 h => WO.elemG hx34 rfl rfl rfl rfl rfl rfl rfl rfl rfl<|sV (.cptr [.int .i64 x34.fAt])<|sC rfl<|sV (.d (.bool (decide (x34.fAt > (18014398509481984 : Int)))))<|sF h (fun h => ?_) fun h => ?_
    ·refine sN<|sO<|cT<|gS rfl rfl<|sU<|sN<|qR ?_
     obtain rfl:=oI h
     exact ⟨(fun he => by cases he), rfl, rfl⟩
    exact sN<|sO<|cF<|qK<|⟨(), rfl, h⟩
   rintro ⟨⟩ R' B' hI h
   refine gS rfl hI<|sV (.d (.int .i64 0))<|sN<|bE h fun o16 ho16 h => WC.block (WC.loop (WL.ofLoop ho16 (fun s R' B' => ghosts prog 0 (A R' B') (hints.at_ 96 0 7) = some (A [(0, .d (.lst (a0.map T_api_Alert.pd))), (3, .d (.int .i64 s1)), (4, .d (.int .i64 s))] [])) (fun o e R' B' => match o with | .inl y => e = .exit 2 ∧ ghosts prog 0 (A R' B') (hints.at_ 96 0 3) = some (A [(0, .d (.lst (a0.map T_api_Alert.pd))), (3, .d (.int .i64 y))] []) | .inr r => e = .ret ∧ finish prog (hints.own 96) Tryz.f96 0 (A R' B') = some (.d (.bool r), [])) rfl ?_ ?_))
   ·rintro s4 R' B' q6 hI h
    refine qS<|gS rfl hI<|sM rfl<|sM rfl<|sF h (fun h => ?_) fun h => ?_
    ·refine sN<|cT<|qK<|qS<|qB<|WC.regionDSeq rfl rfl<|sM rfl<|sM rfl<|bE h fun x8 hx8 h => WO.elemG hx8 rfl rfl rfl rfl rfl rfl rfl rfl rfl<|sV (.cptr [.bool x8.fWithdrawn, .str x8.fName.fSource.fNetwork, .str x8.fName.fSource.fStation, .str x8.fName.fSource.fLocation, .str x8.fName.fSource.fChannel, .int .i64 x8.fName.fTime, .int .i64 x8.fName.fEarly, .int .i64 x8.fName.fLate, .int .i64 x8.fName.fAmplitude, .int .i64 x8.fName.fPolarity, .int .i64 x8.fLevel, .str x8.fEvent.fName.fSource.fNetwork, .str x8.fEvent.fName.fSource.fStation, .str x8.fEvent.fName.fSource.fLocation, .str x8.fEvent.fName.fSource.fChannel, .int .i64 x8.fEvent.fName.fTime, .int .i64 x8.fEvent.fName.fEarly, .int .i64 x8.fEvent.fName.fLate, .int .i64 x8.fEvent.fName.fAmplitude, .int .i64 x8.fEvent.fName.fPolarity, .lst (x8.fEvent.fSolution.fPicks.map T_api_Pick.pd), .int .i64 x8.fEvent.fSolution.fLocation.fPoint.fX, .int .i64 x8.fEvent.fSolution.fLocation.fPoint.fY, .int .i64 x8.fEvent.fSolution.fLocation.fPoint.fZ, .int .i64 x8.fEvent.fSolution.fLocation.fTime, .int .i64 x8.fEvent.fSolution.fLocation.fMisfit, .int .i64 x8.fEvent.fSolution.fLocation.fLower, .int .i64 x8.fEvent.fSolution.fLocation.fArea.fLow.fX, .int .i64 x8.fEvent.fSolution.fLocation.fArea.fLow.fY, .int .i64 x8.fEvent.fSolution.fLocation.fArea.fLow.fZ, .int .i64 x8.fEvent.fSolution.fLocation.fArea.fHigh.fX, .int .i64 x8.fEvent.fSolution.fLocation.fArea.fHigh.fY, .int .i64 x8.fEvent.fSolution.fLocation.fArea.fHigh.fZ, .int .i64 x8.fEvent.fSolution.fMagnitude.fLow, .int .i64 x8.fEvent.fSolution.fMagnitude.fHigh, .int .i64 x8.fEvent.fSolution.fCount, .int .i64 x8.fAt])<|sC rfl<|sF h (fun h => ?_) fun h => ?_
     ·refine sM rfl<|sM rfl<|sM rfl<|bE h fun x10 hx10 h => WO.elemG hx10 rfl rfl rfl rfl rfl rfl rfl rfl rfl<|sV (.cptr [.bool x10.fWithdrawn, .str x10.fName.fSource.fNetwork, .str x10.fName.fSource.fStation, .str x10.fName.fSource.fLocation, .str x10.fName.fSource.fChannel, .int .i64 x10.fName.fTime, .int .i64 x10.fName.fEarly, .int .i64 x10.fName.fLate, .int .i64 x10.fName.fAmplitude, .int .i64 x10.fName.fPolarity, .int .i64 x10.fLevel, .str x10.fEvent.fName.fSource.fNetwork, .str x10.fEvent.fName.fSource.fStation, .str x10.fEvent.fName.fSource.fLocation, .str x10.fEvent.fName.fSource.fChannel, .int .i64 x10.fEvent.fName.fTime, .int .i64 x10.fEvent.fName.fEarly, .int .i64 x10.fEvent.fName.fLate, .int .i64 x10.fEvent.fName.fAmplitude, .int .i64 x10.fEvent.fName.fPolarity, .lst (x10.fEvent.fSolution.fPicks.map T_api_Pick.pd), .int .i64 x10.fEvent.fSolution.fLocation.fPoint.fX, .int .i64 x10.fEvent.fSolution.fLocation.fPoint.fY, .int .i64 x10.fEvent.fSolution.fLocation.fPoint.fZ, .int .i64 x10.fEvent.fSolution.fLocation.fTime, .int .i64 x10.fEvent.fSolution.fLocation.fMisfit, .int .i64 x10.fEvent.fSolution.fLocation.fLower, .int .i64 x10.fEvent.fSolution.fLocation.fArea.fLow.fX, .int .i64 x10.fEvent.fSolution.fLocation.fArea.fLow.fY, .int .i64 x10.fEvent.fSolution.fLocation.fArea.fLow.fZ, .int .i64 x10.fEvent.fSolution.fLocation.fArea.fHigh.fX, .int .i64 x10.fEvent.fSolution.fLocation.fArea.fHigh.fY, .int .i64 x10.fEvent.fSolution.fLocation.fArea.fHigh.fZ, .int .i64 x10.fEvent.fSolution.fMagnitude.fLow, .int .i64 x10.fEvent.fSolution.fMagnitude.fHigh, .int .i64 x10.fEvent.fSolution.fCount, .int .i64 x10.fAt])<|sC rfl<|sV (.d (.bool (!x10.fWithdrawn)))<|sF h (fun h => ?_) fun h => ?_
      ·refine sM rfl<|sM rfl<|sM rfl<|bE h fun x12 hx12 h => WO.elemG hx12 rfl rfl rfl rfl rfl rfl rfl rfl rfl<|sV (.cptr [.str x12.fName.fSource.fNetwork, .str x12.fName.fSource.fStation, .str x12.fName.fSource.fLocation, .str x12.fName.fSource.fChannel, .int .i64 x12.fName.fTime, .int .i64 x12.fName.fEarly, .int .i64 x12.fName.fLate, .int .i64 x12.fName.fAmplitude, .int .i64 x12.fName.fPolarity, .int .i64 x12.fLevel, .str x12.fEvent.fName.fSource.fNetwork, .str x12.fEvent.fName.fSource.fStation, .str x12.fEvent.fName.fSource.fLocation, .str x12.fEvent.fName.fSource.fChannel, .int .i64 x12.fEvent.fName.fTime, .int .i64 x12.fEvent.fName.fEarly, .int .i64 x12.fEvent.fName.fLate, .int .i64 x12.fEvent.fName.fAmplitude, .int .i64 x12.fEvent.fName.fPolarity, .lst (x12.fEvent.fSolution.fPicks.map T_api_Pick.pd), .int .i64 x12.fEvent.fSolution.fLocation.fPoint.fX, .int .i64 x12.fEvent.fSolution.fLocation.fPoint.fY, .int .i64 x12.fEvent.fSolution.fLocation.fPoint.fZ, .int .i64 x12.fEvent.fSolution.fLocation.fTime, .int .i64 x12.fEvent.fSolution.fLocation.fMisfit, .int .i64 x12.fEvent.fSolution.fLocation.fLower, .int .i64 x12.fEvent.fSolution.fLocation.fArea.fLow.fX, .int .i64 x12.fEvent.fSolution.fLocation.fArea.fLow.fY, .int .i64 x12.fEvent.fSolution.fLocation.fArea.fLow.fZ, .int .i64 x12.fEvent.fSolution.fLocation.fArea.fHigh.fX, .int .i64 x12.fEvent.fSolution.fLocation.fArea.fHigh.fY, .int .i64 x12.fEvent.fSolution.fLocation.fArea.fHigh.fZ, .int .i64 x12.fEvent.fSolution.fMagnitude.fLow, .int .i64 x12.fEvent.fSolution.fMagnitude.fHigh, .int .i64 x12.fEvent.fSolution.fCount, .int .i64 x12.fAt])<|sV (.d (T_api_Pick.pd x12.fName))<|sM rfl<|sM rfl<|bE h fun x13 hx13 h => WO.elemG hx13 rfl rfl rfl rfl rfl rfl rfl rfl rfl<|sV (.cptr [.str x13.fName.fSource.fNetwork, .str x13.fName.fSource.fStation, .str x13.fName.fSource.fLocation, .str x13.fName.fSource.fChannel, .int .i64 x13.fName.fTime, .int .i64 x13.fName.fEarly, .int .i64 x13.fName.fLate, .int .i64 x13.fName.fAmplitude, .int .i64 x13.fName.fPolarity, .int .i64 x13.fLevel, .str x13.fEvent.fName.fSource.fNetwork, .str x13.fEvent.fName.fSource.fStation, .str x13.fEvent.fName.fSource.fLocation, .str x13.fEvent.fName.fSource.fChannel, .int .i64 x13.fEvent.fName.fTime, .int .i64 x13.fEvent.fName.fEarly, .int .i64 x13.fEvent.fName.fLate, .int .i64 x13.fEvent.fName.fAmplitude, .int .i64 x13.fEvent.fName.fPolarity, .lst (x13.fEvent.fSolution.fPicks.map T_api_Pick.pd), .int .i64 x13.fEvent.fSolution.fLocation.fPoint.fX, .int .i64 x13.fEvent.fSolution.fLocation.fPoint.fY, .int .i64 x13.fEvent.fSolution.fLocation.fPoint.fZ, .int .i64 x13.fEvent.fSolution.fLocation.fTime, .int .i64 x13.fEvent.fSolution.fLocation.fMisfit, .int .i64 x13.fEvent.fSolution.fLocation.fLower, .int .i64 x13.fEvent.fSolution.fLocation.fArea.fLow.fX, .int .i64 x13.fEvent.fSolution.fLocation.fArea.fLow.fY, .int .i64 x13.fEvent.fSolution.fLocation.fArea.fLow.fZ, .int .i64 x13.fEvent.fSolution.fLocation.fArea.fHigh.fX, .int .i64 x13.fEvent.fSolution.fLocation.fArea.fHigh.fY, .int .i64 x13.fEvent.fSolution.fLocation.fArea.fHigh.fZ, .int .i64 x13.fEvent.fSolution.fMagnitude.fLow, .int .i64 x13.fEvent.fSolution.fMagnitude.fHigh, .int .i64 x13.fEvent.fSolution.fCount, .int .i64 x13.fAt])<|sV (.d (T_api_Pick.pd x13.fName))<|WO.bin (eqE_25 x12.fName x13.fName) rfl rfl rfl rfl rfl<|sF h (fun h => ?_) fun h => ?_
       ·refine sN<|sO<|cT<|gS rfl rfl<|sU<|sN<|qR ?_
        obtain rfl:=oI h
        exact ⟨(fun he => by cases he), rfl, rfl⟩
       refine sN<|sO<|cF<|qK<|WC.region rfl rfl<|sM rfl<|sV (.d (.int .i64 (IntKind.wrap .i64 (s4 + (1 : Int)))))<|sA rfl<|sN ?_
       obtain rfl:=oI h
       exact ⟨rfl, rfl⟩
      refine sM rfl<|sK<|sK<|sK<|sK<|sK<|sK<|sK<|sK<|sK<|sK<|sK<|sU ?_
      refine sN<|sO<|cF<|qK<|WC.region rfl rfl<|sM rfl<|sV (.d (.int .i64 (IntKind.wrap .i64 (s4 + (1 : Int)))))<|sA rfl<|sN ?_
      obtain rfl:=oI h
      exact ⟨rfl, rfl⟩
     refine sM rfl<|sK<|sK<|sK<|sK<|sK<|sK<|sU<|sM rfl<|sK<|sK<|sK<|sK<|sK<|sK ?_
     refine sK<|sK<|sK<|sK<|sK<|sU ?_
     refine sN<|sO<|cF<|qK<|WC.region rfl rfl<|sM rfl<|sV (.d (.int .i64 (IntKind.wrap .i64 (s4 + (1 : Int)))))<|sA rfl<|sN ?_
     obtain rfl:=oI h
     exact ⟨rfl, rfl⟩
    refine sN<|cF<|qX ?_
    obtain rfl:=oI h
    exact ⟨(fun he => by cases he), rfl, rfl⟩
   intro e R' B' he hq
   rcases o16 with y17 | r18
   ·obtain ⟨rfl, hI⟩ := hq
    refine qE<|WC.region hI rfl<|sM rfl<|sV (.d (.int .i64 (IntKind.wrap .i64 (y17 + (1 : Int)))))<|sA rfl<|sN ?_
    obtain rfl:=oI h
    exact ⟨rfl, rfl⟩
   obtain ⟨rfl, hf⟩ := hq
   obtain rfl:=oI h
   exact ⟨(fun he => by cases he), rfl, hf⟩
  refine sN<|cF<|qX ?_
  obtain rfl:=oI h
  exact ⟨(fun he => by cases he), rfl, rfl⟩
 intro e R' B' he hq
 rcases o37 with y38 | r39
 ·obtain ⟨rfl, hI⟩ := hq
  refine qE<|gS rfl hI<|sM rfl<|sE (.d (.int .i64 (a0.length : Int))) (lenMap _ _)<|sV (.d (.bool (decide ((a0.length : Int) ≤ (200 : Int)))))<|sA rfl<|sN<|qR ?_
  obtain rfl:=oI h
  exact qD
 obtain ⟨rfl, hf⟩ := hq
 obtain rfl:=oI h
 exact hf
theorem ref03_compare_ev {a0 : (List UInt8)} {a1 : (List UInt8)} {r : Int} (h : ref03_compare a0 a1 = some r) : EvP prog hints ext 178 [.d (.str a0), .d (.str a1)] [] (.d (.int .i64 r), []) := by
 refine Ev.body rfl Tryz.func178 rfl (by kernel_rfl)<|gS rfl rfl<|sV (.d (.int .i64 0))<|sN<|qS<|qB<|gS rfl rfl<|sM rfl<|sM rfl<|sF h (fun h => ?_) fun h => ?_
 ·refine sA rfl<|sN<|cT<|gS rfl rfl<|sV (.d (.int .i64 (-1)))<|sN<|qR ?_
  obtain rfl:=oI h
  exact qD
 refine sA rfl<|sN<|cF<|gS rfl rfl<|sM rfl<|sM rfl<|sF h (fun h => ?_) fun h => ?_
 ·refine sA rfl<|sN<|cT<|gS rfl rfl<|sV (.d (.int .i64 1))<|sN<|qR ?_
  obtain rfl:=oI h
  exact qD
 refine sA rfl<|sN<|cF<|qK<|gS rfl rfl<|sV (.d (.int .i64 0))<|sN<|qR ?_
 obtain rfl:=oI h
 exact qD
theorem ref03_Compare_ev {a0 : T_api_SourceID} {a1 : T_api_SourceID} {r : Int} (h : ref03_Compare a0 a1 = some r) : EvP prog hints ext 169 [.d (T_api_SourceID.pd a0), .d (T_api_SourceID.pd a1)] [] (.d (.int .i64 r), []) := by
 refine Ev.body rfl Tryz.func169 rfl (by kernel_rfl)<|gS rfl rfl<|sB (.ptr 32 0) 32 (.var [.d (.str a0.fNetwork), .d (.str a0.fStation), .d (.str a0.fLocation), .d (.str a0.fChannel)])<|sB (.ptr 48 0) 48 (.var [.d (.str a1.fNetwork), .d (.str a1.fStation), .d (.str a1.fLocation), .d (.str a1.fChannel)])<|sV (.d (.int .i64 0))<|sN<|qS<|WC.regionDSeq rfl rfl<|sV (.ptr 32 0)<|sL rfl<|sV (.ptr 48 0)<|sL rfl<|bE h fun x1 hx1 h => cD (ref03_compare_ev hx1)<|sV (.ptr 32 1) ?_
 refine sL rfl<|sV (.ptr 48 1)<|sL rfl<|bE h fun x2 hx2 h => cD (ref03_compare_ev hx2)<|sV (.ptr 32 2)<|sL rfl<|sV (.ptr 48 2)<|sL rfl<|bE h fun x3 hx3 h => cD (ref03_compare_ev hx3)<|sV (.ptr 32 3)<|sL rfl<|sV (.ptr 48 3)<|sL rfl ?_
 refine bE h fun x4 hx4 h => cD (ref03_compare_ev hx4)<|sV (.d (A4_Int.pd (A4_Int.mk x1 x2 x3 x4)))<|sV (.d (.int .i64 0)) ?_
 refine sN<|sO<|WC.block (WC.loop ?_)
 refine WL.round<|gS rfl rfl<|sT<|sN<|qS<|cT<|qK<|qS<|qB<|gS rfl rfl<|sV (.d (.int .i64 x1))<|sA rfl<|sN<|gS rfl rfl<|sM rfl ?_
 refine sF h (fun h => ?_) fun h => ?_
 ·refine sN<|cT<|gS rfl rfl<|sM rfl<|sA rfl<|sN<|qR ?_
  obtain rfl:=oI h
  exact qD
 refine sN<|cF<|qK<|WC.region rfl rfl<|sV (.d (.int .i64 1))<|sM rfl<|sN<|WL.round<|gS rfl rfl<|sT<|sN<|qS<|cT<|qK<|qS ?_
 refine qB<|gS rfl rfl<|sV (.d (.int .i64 x2))<|sA rfl<|sN<|gS rfl rfl<|sM rfl<|sF h (fun h => ?_) fun h => ?_
 ·refine sN<|cT<|gS rfl rfl<|sM rfl<|sA rfl<|sN<|qR ?_
  obtain rfl:=oI h
  exact qD
 refine sN<|cF<|qK<|WC.region rfl rfl<|sV (.d (.int .i64 2))<|sM rfl<|sN<|WL.round<|gS rfl rfl<|sT<|sN<|qS<|cT<|qK<|qS ?_
 refine qB<|gS rfl rfl<|sV (.d (.int .i64 x3))<|sA rfl<|sN<|gS rfl rfl<|sM rfl<|sF h (fun h => ?_) fun h => ?_
 ·refine sN<|cT<|gS rfl rfl<|sM rfl<|sA rfl<|sN<|qR ?_
  obtain rfl:=oI h
  exact qD
 refine sN<|cF<|qK<|WC.region rfl rfl<|sV (.d (.int .i64 3))<|sM rfl<|sN<|WL.round<|gS rfl rfl<|sT<|sN<|qS<|cT<|qK<|qS ?_
 refine qB<|gS rfl rfl<|sV (.d (.int .i64 x4))<|sA rfl<|sN<|gS rfl rfl<|sM rfl<|sF h (fun h => ?_) fun h => ?_
 ·refine sN<|cT<|gS rfl rfl<|sM rfl<|sA rfl<|sN<|qR ?_
  obtain rfl:=oI h
  exact qD
 refine sN<|cF<|qK<|WC.region rfl rfl<|sV (.d (.int .i64 4))<|sM rfl<|sN<|WL.round<|gS rfl rfl<|sU<|sN<|qS<|cF<|qX<|qE ?_
 refine gS rfl rfl<|sV (.d (.int .i64 0))<|sN<|qR ?_
 obtain rfl:=oI h
 exact qD
theorem ref23_Compare_ev {a0 : T_api_Pick} {a1 : T_api_Pick} {r : Int} (h : ref23_Compare a0 a1 = some r) : EvP prog hints ext 155 [.d (T_api_Pick.pd a0), .d (T_api_Pick.pd a1)] [] (.d (.int .i64 r), []) := by
 refine Ev.body rfl Tryz.func155 rfl (by kernel_rfl)<|gS rfl rfl<|sB (.ptr 32 0) 32 (.var [.d (.str a0.fSource.fNetwork), .d (.str a0.fSource.fStation), .d (.str a0.fSource.fLocation), .d (.str a0.fSource.fChannel), .d (.int .i64 a0.fTime), .d (.int .i64 a0.fEarly), .d (.int .i64 a0.fLate), .d (.int .i64 a0.fAmplitude), .d (.int .i64 a0.fPolarity)])<|sB (.ptr 48 0) 48 (.var [.d (.str a1.fSource.fNetwork), .d (.str a1.fSource.fStation), .d (.str a1.fSource.fLocation), .d (.str a1.fSource.fChannel), .d (.int .i64 a1.fTime), .d (.int .i64 a1.fEarly), .d (.int .i64 a1.fLate), .d (.int .i64 a1.fAmplitude), .d (.int .i64 a1.fPolarity)])<|sV (.d (.int .i64 0))<|sN<|qS<|gS rfl rfl<|sV (.ptr 32 0)<|sV (.d (T_api_SourceID.pd a0.fSource))<|sV (.ptr 48 0)<|sV (.d (T_api_SourceID.pd a1.fSource))<|bE h fun x1 hx1 h => cD (ref03_Compare_ev hx1)<|sA rfl ?_
 refine sN<|gS rfl rfl<|sM rfl<|sF h (fun h => ?_) fun h => ?_
 ·refine sN<|cT<|gS rfl rfl<|sM rfl<|sA rfl<|sN<|qR ?_
  obtain rfl:=oI h
  exact qG
 refine sN<|cF<|qK<|qS<|gS rfl rfl<|sV (.ptr 32 4)<|sL rfl<|sV (.ptr 48 4)<|sL rfl<|sV (.d (A2_Int.pd (A2_Int.mk a0.fTime a1.fTime)))<|sV (.ptr 32 5)<|sL rfl<|sV (.ptr 48 5)<|sL rfl<|sV (.d (A2_Int.pd (A2_Int.mk a0.fEarly a1.fEarly))) ?_
 refine sV (.ptr 32 6)<|sL rfl<|sV (.ptr 48 6)<|sL rfl<|sV (.d (A2_Int.pd (A2_Int.mk a0.fLate a1.fLate)))<|sV (.ptr 32 7)<|sL rfl<|sV (.ptr 48 7)<|sL rfl<|sV (.d (A2_Int.pd (A2_Int.mk a0.fAmplitude a1.fAmplitude)))<|sV (.ptr 32 8)<|sL rfl<|sV (.ptr 48 8)<|sL rfl<|sV (.d (A2_Int.pd (A2_Int.mk a0.fPolarity a1.fPolarity))) ?_
 refine sG (.d (A5_A2_Int.pd (A5_A2_Int.mk (A2_Int.mk a0.fTime a1.fTime) (A2_Int.mk a0.fEarly a1.fEarly) (A2_Int.mk a0.fLate a1.fLate) (A2_Int.mk a0.fAmplitude a1.fAmplitude) (A2_Int.mk a0.fPolarity a1.fPolarity))))<|sV (.d (.int .i64 0))<|sN<|WC.block (WC.loop ?_)
 refine WL.round<|WC.regionSeq (R0 := [(41, .d (A5_A2_Int.pd (A5_A2_Int.mk (A2_Int.mk a0.fTime a1.fTime) (A2_Int.mk a0.fEarly a1.fEarly) (A2_Int.mk a0.fLate a1.fLate) (A2_Int.mk a0.fAmplitude a1.fAmplitude) (A2_Int.mk a0.fPolarity a1.fPolarity)))), (42, .d (.int .i64 0))]) (B0 := []) rfl rfl<|sT<|sN<|qS<|cT<|qK<|qS<|qB<|gS rfl rfl<|sV (.d (A2_Int.pd (A2_Int.mk a0.fTime a1.fTime)))<|sB (.ptr 112 0) 112 (.var [.d (.int .i64 0), .d (.int .i64 0)])<|sS 112 (.var [.d (.int .i64 a0.fTime), .d (.int .i64 a1.fTime)])<|sN<|qS ?_
 refine gS rfl rfl<|sV (.ptr 112 0)<|sL rfl<|sV (.ptr 112 1)<|sL rfl<|sF h (fun h => ?_) fun h => ?_
 ·refine sN<|cT<|gS rfl rfl<|sV (.d (.int .i64 (-1)))<|sN<|qR ?_
  obtain rfl:=oI h
  exact qD
 refine sN<|cF<|qK<|gS rfl rfl<|sV (.ptr 112 0)<|sL rfl<|sV (.ptr 112 1)<|sL rfl<|sF h (fun h => ?_) fun h => ?_
 ·refine sN<|cT<|gS rfl rfl<|sV (.d (.int .i64 1))<|sN<|qR ?_
  obtain rfl:=oI h
  exact qD
 refine sN<|cF<|qK<|WC.region rfl rfl<|sV (.d (.int .i64 1))<|sM rfl<|sN<|WL.round<|WC.regionSeq (R0 := [(41, .d (A5_A2_Int.pd (A5_A2_Int.mk (A2_Int.mk a0.fTime a1.fTime) (A2_Int.mk a0.fEarly a1.fEarly) (A2_Int.mk a0.fLate a1.fLate) (A2_Int.mk a0.fAmplitude a1.fAmplitude) (A2_Int.mk a0.fPolarity a1.fPolarity)))), (42, .d (.int .i64 1))]) (B0 := []) rfl rfl<|sT<|sN<|qS<|cT<|qK<|qS ?_
 refine qB<|gS rfl rfl<|sV (.d (A2_Int.pd (A2_Int.mk a0.fEarly a1.fEarly)))<|sB (.ptr 112 0) 112 (.var [.d (.int .i64 0), .d (.int .i64 0)])<|sS 112 (.var [.d (.int .i64 a0.fEarly), .d (.int .i64 a1.fEarly)])<|sN<|qS<|gS rfl rfl<|sV (.ptr 112 0)<|sL rfl<|sV (.ptr 112 1)<|sL rfl<|sF h (fun h => ?_) fun h => ?_
 ·refine sN<|cT<|gS rfl rfl<|sV (.d (.int .i64 (-1)))<|sN<|qR ?_
  obtain rfl:=oI h
  exact qD
 refine sN<|cF<|qK<|gS rfl rfl<|sV (.ptr 112 0)<|sL rfl<|sV (.ptr 112 1)<|sL rfl<|sF h (fun h => ?_) fun h => ?_
 ·refine sN<|cT<|gS rfl rfl<|sV (.d (.int .i64 1))<|sN<|qR ?_
  obtain rfl:=oI h
  exact qD
 refine sN<|cF<|qK<|WC.region rfl rfl<|sV (.d (.int .i64 2))<|sM rfl<|sN<|WL.round<|WC.regionSeq (R0 := [(41, .d (A5_A2_Int.pd (A5_A2_Int.mk (A2_Int.mk a0.fTime a1.fTime) (A2_Int.mk a0.fEarly a1.fEarly) (A2_Int.mk a0.fLate a1.fLate) (A2_Int.mk a0.fAmplitude a1.fAmplitude) (A2_Int.mk a0.fPolarity a1.fPolarity)))), (42, .d (.int .i64 2))]) (B0 := []) rfl rfl<|sT<|sN<|qS<|cT<|qK<|qS ?_
 refine qB<|gS rfl rfl<|sV (.d (A2_Int.pd (A2_Int.mk a0.fLate a1.fLate)))<|sB (.ptr 112 0) 112 (.var [.d (.int .i64 0), .d (.int .i64 0)])<|sS 112 (.var [.d (.int .i64 a0.fLate), .d (.int .i64 a1.fLate)])<|sN<|qS<|gS rfl rfl<|sV (.ptr 112 0)<|sL rfl<|sV (.ptr 112 1)<|sL rfl<|sF h (fun h => ?_) fun h => ?_
 ·refine sN<|cT<|gS rfl rfl<|sV (.d (.int .i64 (-1)))<|sN<|qR ?_
  obtain rfl:=oI h
  exact qD
 refine sN<|cF<|qK<|gS rfl rfl<|sV (.ptr 112 0)<|sL rfl<|sV (.ptr 112 1)<|sL rfl<|sF h (fun h => ?_) fun h => ?_
 ·refine sN<|cT<|gS rfl rfl<|sV (.d (.int .i64 1))<|sN<|qR ?_
  obtain rfl:=oI h
  exact qD
 refine sN<|cF<|qK<|WC.region rfl rfl<|sV (.d (.int .i64 3))<|sM rfl<|sN<|WL.round<|WC.regionSeq (R0 := [(41, .d (A5_A2_Int.pd (A5_A2_Int.mk (A2_Int.mk a0.fTime a1.fTime) (A2_Int.mk a0.fEarly a1.fEarly) (A2_Int.mk a0.fLate a1.fLate) (A2_Int.mk a0.fAmplitude a1.fAmplitude) (A2_Int.mk a0.fPolarity a1.fPolarity)))), (42, .d (.int .i64 3))]) (B0 := []) rfl rfl<|sT<|sN<|qS<|cT<|qK<|qS ?_
 refine qB<|gS rfl rfl<|sV (.d (A2_Int.pd (A2_Int.mk a0.fAmplitude a1.fAmplitude)))<|sB (.ptr 112 0) 112 (.var [.d (.int .i64 0), .d (.int .i64 0)])<|sS 112 (.var [.d (.int .i64 a0.fAmplitude), .d (.int .i64 a1.fAmplitude)])<|sN<|qS<|gS rfl rfl<|sV (.ptr 112 0)<|sL rfl<|sV (.ptr 112 1)<|sL rfl<|sF h (fun h => ?_) fun h => ?_
 ·refine sN<|cT<|gS rfl rfl<|sV (.d (.int .i64 (-1)))<|sN<|qR ?_
  obtain rfl:=oI h
  exact qD
 refine sN<|cF<|qK<|gS rfl rfl<|sV (.ptr 112 0)<|sL rfl<|sV (.ptr 112 1)<|sL rfl<|sF h (fun h => ?_) fun h => ?_
 ·refine sN<|cT<|gS rfl rfl<|sV (.d (.int .i64 1))<|sN<|qR ?_
  obtain rfl:=oI h
  exact qD
 refine sN<|cF<|qK<|WC.region rfl rfl<|sV (.d (.int .i64 4))<|sM rfl<|sN<|WL.round<|WC.regionSeq (R0 := [(41, .d (A5_A2_Int.pd (A5_A2_Int.mk (A2_Int.mk a0.fTime a1.fTime) (A2_Int.mk a0.fEarly a1.fEarly) (A2_Int.mk a0.fLate a1.fLate) (A2_Int.mk a0.fAmplitude a1.fAmplitude) (A2_Int.mk a0.fPolarity a1.fPolarity)))), (42, .d (.int .i64 4))]) (B0 := []) rfl rfl<|sT<|sN<|qS<|cT<|qK<|qS ?_
 refine qB<|gS rfl rfl<|sV (.d (A2_Int.pd (A2_Int.mk a0.fPolarity a1.fPolarity)))<|sB (.ptr 112 0) 112 (.var [.d (.int .i64 0), .d (.int .i64 0)])<|sS 112 (.var [.d (.int .i64 a0.fPolarity), .d (.int .i64 a1.fPolarity)])<|sN<|qS<|gS rfl rfl<|sV (.ptr 112 0)<|sL rfl<|sV (.ptr 112 1)<|sL rfl<|sF h (fun h => ?_) fun h => ?_
 ·refine sN<|cT<|gS rfl rfl<|sV (.d (.int .i64 (-1)))<|sN<|qR ?_
  obtain rfl:=oI h
  exact qD
 refine sN<|cF<|qK<|gS rfl rfl<|sV (.ptr 112 0)<|sL rfl<|sV (.ptr 112 1)<|sL rfl<|sF h (fun h => ?_) fun h => ?_
 ·refine sN<|cT<|gS rfl rfl<|sV (.d (.int .i64 1))<|sN<|qR ?_
  obtain rfl:=oI h
  exact qD
 refine sN<|cF<|qK<|WC.region rfl rfl<|sV (.d (.int .i64 5))<|sM rfl<|sN<|WL.round<|WC.regionSeq (R0 := [(41, .d (A5_A2_Int.pd (A5_A2_Int.mk (A2_Int.mk a0.fTime a1.fTime) (A2_Int.mk a0.fEarly a1.fEarly) (A2_Int.mk a0.fLate a1.fLate) (A2_Int.mk a0.fAmplitude a1.fAmplitude) (A2_Int.mk a0.fPolarity a1.fPolarity)))), (42, .d (.int .i64 5))]) (B0 := []) rfl rfl<|sU<|sN<|qS<|cF<|qX<|qE ?_
 refine gS rfl rfl<|sV (.d (.int .i64 0))<|sN<|qR ?_
 obtain rfl:=oI h
 exact qD
theorem ref34_Compare_ev {a0 : T_api_Pick} {a1 : T_api_Pick} {r : Int} (h : ref34_Compare a0 a1 = some r) : EvP prog hints ext 133 [.d (T_api_Pick.pd a0), .d (T_api_Pick.pd a1)] [] (.d (.int .i64 r), []) := by
 refine Ev.body rfl Tryz.func133 rfl (by kernel_rfl)<|gS rfl rfl<|sB (.ptr 32 0) 32 (.var [.d (.str a0.fSource.fNetwork), .d (.str a0.fSource.fStation), .d (.str a0.fSource.fLocation), .d (.str a0.fSource.fChannel), .d (.int .i64 a0.fTime), .d (.int .i64 a0.fEarly), .d (.int .i64 a0.fLate), .d (.int .i64 a0.fAmplitude), .d (.int .i64 a0.fPolarity)])<|sB (.ptr 48 0) 48 (.var [.d (.str a1.fSource.fNetwork), .d (.str a1.fSource.fStation), .d (.str a1.fSource.fLocation), .d (.str a1.fSource.fChannel), .d (.int .i64 a1.fTime), .d (.int .i64 a1.fEarly), .d (.int .i64 a1.fLate), .d (.int .i64 a1.fAmplitude), .d (.int .i64 a1.fPolarity)])<|sV (.d (.int .i64 0))<|sN<|qS<|gS rfl rfl<|sV (.ptr 32 4)<|sL rfl<|sV (.ptr 48 4)<|sL rfl<|sF h (fun h => ?_) fun h => ?_
 ·refine sN<|cT<|gS rfl rfl<|sV (.d (.int .i64 (-1)))<|sN<|qR ?_
  obtain rfl:=oI h
  exact qG
 refine sN<|cF<|qK<|qS<|gS rfl rfl<|sV (.ptr 32 4)<|sL rfl<|sV (.ptr 48 4)<|sL rfl<|sF h (fun h => ?_) fun h => ?_
 ·refine sN<|cT<|gS rfl rfl<|sV (.d (.int .i64 1))<|sN<|qR ?_
  obtain rfl:=oI h
  exact qG
 refine sN<|cF<|qK<|gS rfl rfl<|sV (.d (T_api_Pick.pd a0))<|sV (.d (T_api_Pick.pd a1))<|bE h fun x3 hx3 h => cD (ref23_Compare_ev hx3)<|sA rfl<|sN<|qR ?_
 obtain rfl:=oI h
 exact qG
theorem ref34_Name_ev {a0 : (List T_api_Pick)} {r : T_api_Pick} (h : ref34_Name a0 = some r) : EvP prog hints ext 131 [.d (.lst (a0.map T_api_Pick.pd))] [] (.d (T_api_Pick.pd r), []) := by
 refine Ev.body rfl Tryz.func131 rfl (by kernel_rfl)<|gS rfl rfl<|sB (.ptr 32 0) 32 (.var [.d (.str []), .d (.str []), .d (.str []), .d (.str []), .d (.int .i64 0), .d (.int .i64 0), .d (.int .i64 0), .d (.int .i64 0), .d (.int .i64 0)])<|sN<|gS rfl rfl<|sM rfl<|bE h fun x1 hx1 h => WO.elemG hx1 rfl rfl rfl rfl rfl rfl rfl rfl rfl<|sV (.d (T_api_Pick.pd x1))<|sB (.ptr 48 0) 48 (.var [.d (.str []), .d (.str []), .d (.str []), .d (.str []), .d (.int .i64 0), .d (.int .i64 0), .d (.int .i64 0), .d (.int .i64 0), .d (.int .i64 0)])<|sH 48 (.var [.d (.str x1.fSource.fNetwork), .d (.str x1.fSource.fStation), .d (.str x1.fSource.fLocation), .d (.str x1.fSource.fChannel), .d (.int .i64 x1.fTime), .d (.int .i64 x1.fEarly), .d (.int .i64 x1.fLate), .d (.int .i64 x1.fAmplitude), .d (.int .i64 x1.fPolarity)])<|sN<|qS<|gS rfl rfl<|sV (.d (.int .i64 1)) ?_
 refine sN<|bE h fun o28 ho28 h => WC.block (WC.loop (WL.ofLoop ho28 (fun s R' B' => ghosts prog 0 (A R' B') (hints.at_ 131 0 3) = some (A [(0, .d (.lst (a0.map T_api_Pick.pd))), (2, .ptr 32 0), (3, .ptr 48 0), (4, .d (.int .i64 s.1))] [(32, .var [.d (.str []), .d (.str []), .d (.str []), .d (.str []), .d (.int .i64 0), .d (.int .i64 0), .d (.int .i64 0), .d (.int .i64 0), .d (.int .i64 0)]), (48, .var [.d (.str s.2.1), .d (.str s.2.2.1), .d (.str s.2.2.2.1), .d (.str s.2.2.2.2.1), .d (.int .i64 s.2.2.2.2.2.1), .d (.int .i64 s.2.2.2.2.2.2.1), .d (.int .i64 s.2.2.2.2.2.2.2.1), .d (.int .i64 s.2.2.2.2.2.2.2.2.1), .d (.int .i64 s.2.2.2.2.2.2.2.2.2)])])) (fun o e R' B' => e = .exit 0 ∧ ghosts prog 0 (A R' B') (hints.at_ 131 0 7) = some (A [(2, .ptr 32 0), (3, .ptr 48 0)] [(32, .var [.d (.str []), .d (.str []), .d (.str []), .d (.str []), .d (.int .i64 0), .d (.int .i64 0), .d (.int .i64 0), .d (.int .i64 0), .d (.int .i64 0)]), (48, .var [.d (.str o.1), .d (.str o.2.1), .d (.str o.2.2.1), .d (.str o.2.2.2.1), .d (.int .i64 o.2.2.2.2.1), .d (.int .i64 o.2.2.2.2.2.1), .d (.int .i64 o.2.2.2.2.2.2.1), .d (.int .i64 o.2.2.2.2.2.2.2.1), .d (.int .i64 o.2.2.2.2.2.2.2.2)])])) rfl ?_ ?_))
 ·rintro ⟨s2, s3, s4, s5, s6, s7, s8, s9, s10, s11⟩ R' B' q21 hI h
  refine qS<|gS rfl hI<|sM rfl<|sM rfl<|sE (.d (.int .i64 (a0.length : Int))) (lenMap _ _)<|sF h (fun h => ?_) fun h => ?_
  ·refine sN<|cT<|qK<|qS<|qB<|WC.regionDSeq rfl rfl<|sM rfl<|sM rfl<|bE h fun x23 hx23 h => WO.elemG hx23 rfl rfl rfl rfl rfl rfl rfl rfl rfl<|sV (.d (T_api_Pick.pd x23))<|sV (.d (T_api_Pick.pd (T_api_Pick.mk (T_api_SourceID.mk s3 s4 s5 s6) s7 s8 s9 s10 s11)))<|bE h fun x24 hx24 h => cD (ref34_Compare_ev hx24)<|sF h (fun h => ?_) fun h => ?_
   ·refine sN<|sO<|cT<|WC.region rfl rfl<|sM rfl<|sM rfl<|bE h fun x26 hx26 h => WO.elemG hx26 rfl rfl rfl rfl rfl rfl rfl rfl rfl<|sV (.d (T_api_Pick.pd x26))<|sH 48 (.var [.d (.str x26.fSource.fNetwork), .d (.str x26.fSource.fStation), .d (.str x26.fSource.fLocation), .d (.str x26.fSource.fChannel), .d (.int .i64 x26.fTime), .d (.int .i64 x26.fEarly), .d (.int .i64 x26.fLate), .d (.int .i64 x26.fAmplitude), .d (.int .i64 x26.fPolarity)])<|sN<|WC.region rfl rfl<|sM rfl<|sV (.d (.int .i64 (IntKind.wrap .i64 (s2 + (1 : Int)))))<|sA rfl<|sN ?_
    obtain rfl:=oI h
    exact ⟨rfl, rfl⟩
   refine sN<|sO<|cF<|qK<|WC.region rfl rfl<|sM rfl<|sV (.d (.int .i64 (IntKind.wrap .i64 (s2 + (1 : Int)))))<|sA rfl<|sN ?_
   obtain rfl:=oI h
   exact ⟨rfl, rfl⟩
  refine sN<|cF<|qX ?_
  obtain rfl:=oI h
  exact ⟨(fun he => by cases he), rfl, rfl⟩
 intro e R' B' he hq
 obtain ⟨rfl, hI⟩ := hq
 refine qE<|gS rfl hI<|sV (.d (T_api_Pick.pd (T_api_Pick.mk (T_api_SourceID.mk o28.1 o28.2.1 o28.2.2.1 o28.2.2.2.1) o28.2.2.2.2.1 o28.2.2.2.2.2.1 o28.2.2.2.2.2.2.1 o28.2.2.2.2.2.2.2.1 o28.2.2.2.2.2.2.2.2)))<|sH 32 (.var [.d (.str o28.1), .d (.str o28.2.1), .d (.str o28.2.2.1), .d (.str o28.2.2.2.1), .d (.int .i64 o28.2.2.2.2.1), .d (.int .i64 o28.2.2.2.2.2.1), .d (.int .i64 o28.2.2.2.2.2.2.1), .d (.int .i64 o28.2.2.2.2.2.2.2.1), .d (.int .i64 o28.2.2.2.2.2.2.2.2)])<|sN<|qR ?_
 obtain rfl:=oI h
 exact qG
theorem ref23_Sort_ev {a0 : (List T_api_Pick)} {r : (List T_api_Pick)} (h : ref23_Sort a0 = some r) : EvP prog hints ext 132 [.d (.lst (a0.map T_api_Pick.pd))] [] (.d (.lst (r.map T_api_Pick.pd)), []) := by
 refine Ev.body rfl Tryz.func132 rfl (by kernel_rfl)<|gS rfl rfl<|sV .nils<|sN<|gS rfl rfl<|sV .nils<|sN<|qS<|gS rfl rfl<|sV (.d (.int .i64 0))<|sN<|bE h fun o39 ho39 h => WC.block (WC.loop (WL.ofLoop ho39 (fun s R' B' => ghosts prog 0 (A R' B') (hints.at_ 132 0 3) = some (A [(0, .d (.lst (a0.map T_api_Pick.pd))), (3, .ref 816 0), (4, .d (.int .i64 s.1))] [(816, .arr 0 25 (s.2.map T_api_Pick.pd))])) (fun o e R' B' => e = .exit 0 ∧ ghosts prog 0 (A R' B') (hints.at_ 132 0 12) = some (A [(3, .ref 816 0)] [(816, .arr 0 25 (o.map T_api_Pick.pd))])) rfl ?_ ?_))
 ·rintro ⟨s1, s2⟩ R' B' q4 hI h
  refine qS<|gS rfl hI<|sM rfl<|sM rfl<|sE (.d (.int .i64 (a0.length : Int))) (lenMap _ _)<|sF h (fun h => ?_) fun h => ?_
  ·refine sN<|cT<|qK<|qS<|qB<|gS rfl rfl<|sM rfl<|WO.lenR rfl rfl rfl rfl rfl rfl rfl rfl rfl<|sA rfl<|sN<|qS<|bE h fun o19 ho19 h => WC.block (WC.loop (WL.ofLoop ho19 (fun s R' B' => ghosts prog 0 (A R' B') (hints.at_ 132 0 6) = some (A [(0, .d (.lst (a0.map T_api_Pick.pd))), (3, .ref 816 0), (4, .d (.int .i64 s1)), (5, .d (.int .i64 s))] [(816, .arr 0 25 (s2.map T_api_Pick.pd))])) (fun o e R' B' => e = .exit 2 ∧ ghosts prog 0 (A R' B') (hints.at_ 132 0 8) = some (A [(0, .d (.lst (a0.map T_api_Pick.pd))), (3, .ref 816 0), (4, .d (.int .i64 o.1)), (5, .d (.int .i64 o.2.1))] [(816, .arr 0 25 (o.2.2.map T_api_Pick.pd))])) rfl ?_ ?_))
   ·rintro s6 R' B' q10 hI h
    refine qS<|WC.regionDSeq hI rfl<|sM rfl<|sF h (fun h => ?_) fun h => ?_
    ·refine sM rfl<|sM rfl<|sM rfl<|sV (.d (.int .i64 (IntKind.wrap .i64 (s6 - (1 : Int)))))<|bE h fun x13 hx13 h => WO.eltG hx13 rfl rfl rfl rfl rfl rfl rfl rfl<|bE h fun x14 hx14 h => WO.loadE hx14 rfl rfl rfl rfl rfl rfl<|sM rfl<|sM rfl<|bE h fun x15 hx15 h => WO.elemG hx15 rfl rfl rfl rfl rfl rfl rfl rfl rfl<|sV (.d (T_api_Pick.pd x15))<|bE h fun x16 hx16 h => cD (ref23_Compare_ev hx16) ?_
     refine sV (.d (.bool (decide (x16 > (0 : Int)))))<|sF h (fun h => ?_) fun h => ?_
     ·refine sN<|sO<|cT<|qK<|qB<|WC.region rfl rfl<|sM rfl<|sV (.d (.int .i64 (IntKind.wrap .i64 (s6 - (1 : Int)))))<|sA rfl<|sN ?_
      obtain rfl:=oI h
      exact ⟨rfl, rfl⟩
     refine sN<|sO<|cF<|qX ?_
     obtain rfl:=oI h
     exact ⟨(fun he => by cases he), rfl, rfl⟩
    refine sM rfl<|sK<|sK<|sK<|sK<|sK<|sK<|sK<|sK<|sK<|sK<|sK<|sU ?_
    refine sN<|sO<|cF<|qX ?_
    obtain rfl:=oI h
    exact ⟨(fun he => by cases he), rfl, rfl⟩
   intro e R' B' he hq
   obtain ⟨rfl, hI⟩ := hq
   refine qE<|WC.join (α := Unit) (fun x R' B' => ghosts prog 0 (A R' B') (hints.at_ 132 0 9) = some (A [(0, .d (.lst (a0.map T_api_Pick.pd))), (3, .ref 816 0), (4, .d (.int .i64 o19.1)), (5, .d (.int .i64 o19.2.1))] [(816, .arr 0 25 (o19.2.2.map T_api_Pick.pd))])) (fun x => ref23_Sort_k31 a0 o19 = some q4) ?_ ?_
   ·refine WC.regionDSeq hI rfl<|sM rfl<|sF h (fun h => ?_) fun h => ?_
    ·refine sM rfl<|sM rfl<|sM rfl<|sV (.d (.int .i64 (IntKind.wrap .i64 (o19.2.1 - (1 : Int)))))<|bE h fun x34 hx34 h => WO.eltG hx34 rfl rfl rfl rfl rfl rfl rfl rfl<|bE h fun x35 hx35 h => WO.loadE hx35 rfl rfl rfl rfl rfl rfl<|sM rfl<|sM rfl<|bE h fun x36 hx36 h => WO.elemG hx36 rfl rfl rfl rfl rfl rfl rfl rfl rfl<|sV (.d (T_api_Pick.pd x36))<|WO.bin (eqE_25 x35 x36) rfl rfl rfl rfl rfl<|sF h (fun h => ?_) fun h => ?_
     ·refine sN<|sO<|cT<|qX<|qE<|WC.region rfl rfl<|sM rfl<|sV (.d (.int .i64 (IntKind.wrap .i64 (o19.1 + (1 : Int)))))<|sA rfl<|sN ?_
      obtain rfl:=oI h
      exact ⟨rfl, rfl⟩
     exact sN<|sO<|cF<|qK<|⟨(), rfl, h⟩
    refine sM rfl<|sK<|sK<|sK<|sK<|sK<|sK<|sK<|sK<|sK<|sK<|sU ?_
    exact sN<|sO<|cF<|qK<|⟨(), rfl, h⟩
   rintro ⟨⟩ R' B' hI h
   refine gS rfl hI<|sM rfl<|sM rfl<|sM rfl<|bE h fun x20 hx20 h => WO.elemG hx20 rfl rfl rfl rfl rfl rfl rfl rfl rfl<|sV (.d (T_api_Pick.pd x20))<|sG (.d (.lst ([x20].map T_api_Pick.pd)))<|bE h fun x21 hx21 h => WO.appR hx21 (fun _ => rfl) rfl rfl rfl rfl rfl rfl rfl rfl rfl rfl rfl rfl rfl rfl<|sA rfl<|sN<|WC.regionDSeq rfl rfl<|sM rfl<|sM rfl ?_
   refine sV (.d (.int .i64 (IntKind.wrap .i64 (o19.2.1 + (1 : Int)))))<|bE h fun x22 hx22 h => WO.subR hx22 rfl rfl rfl rfl rfl rfl rfl rfl rfl rfl rfl rfl<|sM rfl<|sM rfl<|bE h fun x23 hx23 h => WO.subR hx23 rfl rfl rfl rfl rfl rfl rfl rfl rfl rfl rfl rfl<|bE h fun x24 hx24 h => bE h fun x25 hx25 h => WO.copyG rfl rfl rfl rfl rfl rfl rfl rfl (dst_view hx24 rfl) (src_view hx25 rfl) rfl rfl (fun _ => rfl) ?_
   refine sN<|sO<|WC.region rfl rfl<|sM rfl<|sM rfl<|sM rfl<|sM rfl<|bE h fun x27 hx27 h => WO.elemG hx27 rfl rfl rfl rfl rfl rfl rfl rfl rfl<|sV (.d (T_api_Pick.pd x27))<|bE h fun x29 hx29 h => WO.eltG hx29 rfl rfl rfl rfl rfl rfl rfl rfl<|bE h fun x30 hx30 h => WO.storeE (g := T_api_Pick.pd) (sz := 9) (p := T_api_Pick.pd x27) hx30 (fun _ => rfl) (fun _ => rfl) rfl rfl rfl rfl rfl rfl rfl rfl rfl<|sN<|WC.region rfl rfl ?_
   refine sM rfl<|sV (.d (.int .i64 (IntKind.wrap .i64 (o19.1 + (1 : Int)))))<|sA rfl<|sN ?_
   obtain rfl:=oI h
   exact ⟨rfl, rfl⟩
  refine sN<|cF<|qX ?_
  obtain rfl:=oI h
  exact ⟨(fun he => by cases he), rfl, rfl⟩
 intro e R' B' he hq
 obtain ⟨rfl, hI⟩ := hq
 refine qE<|gS rfl hI<|sM rfl<|sA rfl<|sN<|qR ?_
 obtain rfl:=oI h
 exact qD
theorem ref34_common_ev {a0 : (List T_api_Pick)} {a1 : (List T_api_Pick)} {r : Bool} (h : ref34_common a0 a1 = some r) : EvP prog hints ext 134 [.d (.lst (a0.map T_api_Pick.pd)), .d (.lst (a1.map T_api_Pick.pd))] [] (.d (.bool r), []) := by
 refine Ev.body rfl Tryz.func134 rfl (by kernel_rfl)<|gS rfl rfl<|sU<|sN<|qS<|gS rfl rfl<|sV (.d (.int .i64 0))<|sN<|bE h fun o16 ho16 h => WC.block (WC.loop (WL.ofLoop ho16 (fun s R' B' => ghosts prog 0 (A R' B') (hints.at_ 134 0 2) = some (A [(0, .d (.lst (a0.map T_api_Pick.pd))), (1, .d (.lst (a1.map T_api_Pick.pd))), (5, .d (.int .i64 s))] [])) (fun o e R' B' => match o with | .inl y => e = .exit 0 ∧ ghosts prog 0 (A R' B') (hints.at_ 134 0 9) = some (A [] []) | .inr r => e = .ret ∧ finish prog (hints.own 134) Tryz.f134 0 (A R' B') = some (.d (.bool r), [])) rfl ?_ ?_))
 ·rintro s1 R' B' q2 hI h
  refine qS<|gS rfl hI<|sM rfl<|sM rfl<|sE (.d (.int .i64 (a0.length : Int))) (lenMap _ _)<|sF h (fun h => ?_) fun h => ?_
  ·refine sN<|cT<|qK<|qS<|qB<|gS rfl rfl<|sV (.d (.int .i64 0))<|sN<|bE h fun o12 ho12 h => WC.block (WC.loop (WL.ofLoop ho12 (fun s R' B' => ghosts prog 0 (A R' B') (hints.at_ 134 0 5) = some (A [(0, .d (.lst (a0.map T_api_Pick.pd))), (1, .d (.lst (a1.map T_api_Pick.pd))), (5, .d (.int .i64 s1)), (6, .d (.int .i64 s))] [])) (fun o e R' B' => match o with | .inl y => e = .exit 2 ∧ ghosts prog 0 (A R' B') (hints.at_ 134 0 3) = some (A [(0, .d (.lst (a0.map T_api_Pick.pd))), (1, .d (.lst (a1.map T_api_Pick.pd))), (5, .d (.int .i64 y))] []) | .inr r => e = .ret ∧ finish prog (hints.own 134) Tryz.f134 0 (A R' B') = some (.d (.bool r), [])) rfl ?_ ?_))
   ·rintro s4 R' B' q6 hI h
    refine qS<|gS rfl hI<|sM rfl<|sM rfl<|sE (.d (.int .i64 (a1.length : Int))) (lenMap _ _)<|sF h (fun h => ?_) fun h => ?_
    ·refine sN<|cT<|qK<|qS<|qB<|WC.regionDSeq rfl rfl<|sM rfl<|sM rfl<|bE h fun x8 hx8 h => WO.elemG hx8 rfl rfl rfl rfl rfl rfl rfl rfl rfl<|sV (.d (T_api_Pick.pd x8))<|sM rfl<|sM rfl<|bE h fun x9 hx9 h => WO.elemG hx9 rfl rfl rfl rfl rfl rfl rfl rfl rfl ?_
     refine sV (.d (T_api_Pick.pd x9))<|ite_elim h (fun hb10 h => ?_) (fun hb10 h => ?_)
     ·refine WO.binS (eqE_25 x8 x9) hb10 rfl rfl rfl rfl rfl ?_
      refine sN<|sO<|cT<|gS rfl rfl<|sT<|sN<|qR ?_
      obtain rfl:=oI h
      exact ⟨(fun he => by cases he), rfl, rfl⟩
     refine WO.binS (eqE_25 x8 x9) hb10 rfl rfl rfl rfl rfl ?_
     refine sN<|sO<|cF<|qK<|WC.region rfl rfl<|sM rfl<|sV (.d (.int .i64 (IntKind.wrap .i64 (s4 + (1 : Int)))))<|sA rfl<|sN ?_
     obtain rfl:=oI h
     exact ⟨rfl, rfl⟩
    refine sN<|cF<|qX ?_
    obtain rfl:=oI h
    exact ⟨(fun he => by cases he), rfl, rfl⟩
   intro e R' B' he hq
   rcases o12 with y13 | r14
   ·obtain ⟨rfl, hI⟩ := hq
    refine qE<|WC.region hI rfl<|sM rfl<|sV (.d (.int .i64 (IntKind.wrap .i64 (y13 + (1 : Int)))))<|sA rfl<|sN ?_
    obtain rfl:=oI h
    exact ⟨rfl, rfl⟩
   obtain ⟨rfl, hf⟩ := hq
   obtain rfl:=oI h
   exact ⟨(fun he => by cases he), rfl, hf⟩
  refine sN<|cF<|qX ?_
  obtain rfl:=oI h
  exact ⟨(fun he => by cases he), rfl, rfl⟩
 intro e R' B' he hq
 rcases o16 with y17 | r18
 ·obtain ⟨rfl, hI⟩ := hq
  refine qE<|gS rfl hI<|sU<|sN<|qR ?_
  obtain rfl:=oI h
  exact qD
 obtain ⟨rfl, hf⟩ := hq
 obtain rfl:=oI h
 exact hf
theorem ref34_Valid_ev {a0 : (List T_api_Event)} {r : Bool} (h : ref34_Valid a0 = some r) : EvP prog hints ext 97 [.d (.lst (a0.map T_api_Event.pd))] [] (.d (.bool r), []) := by
 refine Ev.body rfl Tryz.func97 rfl (by kernel_rfl)<|gS rfl rfl<|sU<|sN<|qS<|gS rfl rfl<|sV (.d (.int .i64 0))<|sN<|bE h fun o30 ho30 h => WC.block (WC.loop (WL.ofLoop ho30 (fun s R' B' => ghosts prog 0 (A R' B') (hints.at_ 97 0 2) = some (A [(0, .d (.lst (a0.map T_api_Event.pd))), (3, .d (.int .i64 s))] [])) (fun o e R' B' => match o with | .inl y => e = .exit 0 ∧ ghosts prog 0 (A R' B') (hints.at_ 97 0 12) = some (A [] []) | .inr r => e = .ret ∧ finish prog (hints.own 97) Tryz.f97 0 (A R' B') = some (.d (.bool r), [])) rfl ?_ ?_))
 ·rintro s1 R' B' q2 hI h
  refine qS<|gS rfl hI<|sM rfl<|sM rfl<|sE (.d (.int .i64 (a0.length : Int))) (lenMap _ _)<|sF h (fun h => ?_) fun h => ?_
  ·refine sN<|cT<|qK<|qS<|qB<|gS rfl rfl<|sM rfl<|sM rfl<|bE h fun x4 hx4 h => WO.elemG hx4 rfl rfl rfl rfl rfl rfl rfl rfl rfl<|sV (.cptr [.lst (x4.fSolution.fPicks.map T_api_Pick.pd), .int .i64 x4.fSolution.fLocation.fPoint.fX, .int .i64 x4.fSolution.fLocation.fPoint.fY, .int .i64 x4.fSolution.fLocation.fPoint.fZ, .int .i64 x4.fSolution.fLocation.fTime, .int .i64 x4.fSolution.fLocation.fMisfit, .int .i64 x4.fSolution.fLocation.fLower, .int .i64 x4.fSolution.fLocation.fArea.fLow.fX, .int .i64 x4.fSolution.fLocation.fArea.fLow.fY, .int .i64 x4.fSolution.fLocation.fArea.fLow.fZ, .int .i64 x4.fSolution.fLocation.fArea.fHigh.fX, .int .i64 x4.fSolution.fLocation.fArea.fHigh.fY, .int .i64 x4.fSolution.fLocation.fArea.fHigh.fZ, .int .i64 x4.fSolution.fMagnitude.fLow, .int .i64 x4.fSolution.fMagnitude.fHigh, .int .i64 x4.fSolution.fCount])<|sV (.cptr [.lst (x4.fSolution.fPicks.map T_api_Pick.pd), .int .i64 x4.fSolution.fLocation.fPoint.fX, .int .i64 x4.fSolution.fLocation.fPoint.fY, .int .i64 x4.fSolution.fLocation.fPoint.fZ, .int .i64 x4.fSolution.fLocation.fTime, .int .i64 x4.fSolution.fLocation.fMisfit, .int .i64 x4.fSolution.fLocation.fLower, .int .i64 x4.fSolution.fLocation.fArea.fLow.fX, .int .i64 x4.fSolution.fLocation.fArea.fLow.fY, .int .i64 x4.fSolution.fLocation.fArea.fLow.fZ, .int .i64 x4.fSolution.fLocation.fArea.fHigh.fX, .int .i64 x4.fSolution.fLocation.fArea.fHigh.fY, .int .i64 x4.fSolution.fLocation.fArea.fHigh.fZ, .int .i64 x4.fSolution.fMagnitude.fLow, .int .i64 x4.fSolution.fMagnitude.fHigh, .int .i64 x4.fSolution.fCount])<|sC rfl<|sA rfl<|sN ?_
   refine WC.join (α := Unit) (fun x R' B' => ghosts prog 0 (A R' B') (hints.at_ 97 0 7) = some (A [(0, .d (.lst (a0.map T_api_Event.pd))), (3, .d (.int .i64 s1)), (4, .d (.lst (x4.fSolution.fPicks.map T_api_Pick.pd)))] [])) (fun x => ref34_Valid_k16 s1 a0 x4 = some q2) ?_ ?_
   ·refine WC.regionDSeq rfl rfl<|sM rfl<|sE (.d (.int .i64 (x4.fSolution.fPicks.length : Int))) (lenMap _ _)<|sF h (fun h => ?_) fun h => ?_
    ·refine sM rfl<|sK<|sK<|sK<|sK<|sK<|sK<|sK<|sK<|sT<|sM rfl<|sK<|sK<|sK<|sK ?_
     refine sK<|sT<|sM rfl<|sK<|sK<|sK<|sK<|sK<|sK<|sK<|sK<|sK<|sK<|sK<|sK ?_
     refine sK<|sK<|sK<|sK<|sK<|sT ?_
     refine sN<|sO<|cT<|gS rfl rfl<|sU<|sN<|qR ?_
     obtain rfl:=oI h
     exact ⟨(fun he => by cases he), rfl, rfl⟩
    refine sM rfl<|sM rfl<|sM rfl<|bE h fun x18 hx18 h => WO.elemG hx18 rfl rfl rfl rfl rfl rfl rfl rfl rfl<|sV (.cptr [.str x18.fName.fSource.fNetwork, .str x18.fName.fSource.fStation, .str x18.fName.fSource.fLocation, .str x18.fName.fSource.fChannel, .int .i64 x18.fName.fTime, .int .i64 x18.fName.fEarly, .int .i64 x18.fName.fLate, .int .i64 x18.fName.fAmplitude, .int .i64 x18.fName.fPolarity, .lst (x18.fSolution.fPicks.map T_api_Pick.pd), .int .i64 x18.fSolution.fLocation.fPoint.fX, .int .i64 x18.fSolution.fLocation.fPoint.fY, .int .i64 x18.fSolution.fLocation.fPoint.fZ, .int .i64 x18.fSolution.fLocation.fTime, .int .i64 x18.fSolution.fLocation.fMisfit, .int .i64 x18.fSolution.fLocation.fLower, .int .i64 x18.fSolution.fLocation.fArea.fLow.fX, .int .i64 x18.fSolution.fLocation.fArea.fLow.fY, .int .i64 x18.fSolution.fLocation.fArea.fLow.fZ, .int .i64 x18.fSolution.fLocation.fArea.fHigh.fX, .int .i64 x18.fSolution.fLocation.fArea.fHigh.fY, .int .i64 x18.fSolution.fLocation.fArea.fHigh.fZ, .int .i64 x18.fSolution.fMagnitude.fLow, .int .i64 x18.fSolution.fMagnitude.fHigh, .int .i64 x18.fSolution.fCount])<|sV (.d (T_api_Pick.pd x18.fName))<|sM rfl<|bE h fun x19 hx19 h => cD (ref34_Name_ev hx19)<|WO.bin (eqN_25 x18.fName x19) rfl rfl rfl rfl rfl<|sF h (fun h => ?_) fun h => ?_
    ·refine sM rfl<|sK<|sK<|sK<|sK<|sK<|sT<|sM rfl<|sK<|sK<|sK<|sK<|sK<|sK<|sK ?_
     refine sK<|sK<|sK<|sK<|sK<|sK<|sK<|sK<|sK<|sK<|sT ?_
     refine sN<|sO<|cT<|gS rfl rfl<|sU<|sN<|qR ?_
     obtain rfl:=oI h
     exact ⟨(fun he => by cases he), rfl, rfl⟩
    refine sM rfl<|sM rfl<|sM rfl<|bE h fun x21 hx21 h => cD (ref23_Sort_ev hx21)<|bE h fun x22 hx22 h => cD (ref33_SamePicks_ev hx22)<|sV (.d (.bool (!x22)))<|sF h (fun h => ?_) fun h => ?_
    ·refine sM rfl<|sK<|sK<|sK<|sK<|sK<|sK<|sK<|sK<|sK<|sK<|sK<|sK<|sK<|sK ?_
     refine sK<|sK<|sK<|sT ?_
     refine sN<|sO<|cT<|gS rfl rfl<|sU<|sN<|qR ?_
     obtain rfl:=oI h
     exact ⟨(fun he => by cases he), rfl, rfl⟩
    refine sM rfl<|sM rfl<|sF h (fun h => ?_) fun h => ?_
    ·refine sM rfl<|sM rfl<|sM rfl<|sV (.d (.int .i64 (IntKind.wrap .i64 (s1 - (1 : Int)))))<|bE h fun x25 hx25 h => WO.elemG hx25 rfl rfl rfl rfl rfl rfl rfl rfl rfl<|sV (.cptr [.str x25.fName.fSource.fNetwork, .str x25.fName.fSource.fStation, .str x25.fName.fSource.fLocation, .str x25.fName.fSource.fChannel, .int .i64 x25.fName.fTime, .int .i64 x25.fName.fEarly, .int .i64 x25.fName.fLate, .int .i64 x25.fName.fAmplitude, .int .i64 x25.fName.fPolarity, .lst (x25.fSolution.fPicks.map T_api_Pick.pd), .int .i64 x25.fSolution.fLocation.fPoint.fX, .int .i64 x25.fSolution.fLocation.fPoint.fY, .int .i64 x25.fSolution.fLocation.fPoint.fZ, .int .i64 x25.fSolution.fLocation.fTime, .int .i64 x25.fSolution.fLocation.fMisfit, .int .i64 x25.fSolution.fLocation.fLower, .int .i64 x25.fSolution.fLocation.fArea.fLow.fX, .int .i64 x25.fSolution.fLocation.fArea.fLow.fY, .int .i64 x25.fSolution.fLocation.fArea.fLow.fZ, .int .i64 x25.fSolution.fLocation.fArea.fHigh.fX, .int .i64 x25.fSolution.fLocation.fArea.fHigh.fY, .int .i64 x25.fSolution.fLocation.fArea.fHigh.fZ, .int .i64 x25.fSolution.fMagnitude.fLow, .int .i64 x25.fSolution.fMagnitude.fHigh, .int .i64 x25.fSolution.fCount])<|sV (.d (T_api_Pick.pd x25.fName))<|sM rfl<|sM rfl<|bE h fun x26 hx26 h => WO.elemG hx26 rfl rfl rfl rfl rfl rfl rfl rfl rfl<|sV (.cptr [.str x26.fName.fSource.fNetwork, .str x26.fName.fSource.fStation, .str x26.fName.fSource.fLocation, .str x26.fName.fSource.fChannel, .int .i64 x26.fName.fTime, .int .i64 x26.fName.fEarly, .int .i64 x26.fName.fLate, .int .i64 x26.fName.fAmplitude, .int .i64 x26.fName.fPolarity, .lst (x26.fSolution.fPicks.map T_api_Pick.pd), .int .i64 x26.fSolution.fLocation.fPoint.fX, .int .i64 x26.fSolution.fLocation.fPoint.fY, .int .i64 x26.fSolution.fLocation.fPoint.fZ, .int .i64 x26.fSolution.fLocation.fTime, .int .i64 x26.fSolution.fLocation.fMisfit, .int .i64 x26.fSolution.fLocation.fLower, .int .i64 x26.fSolution.fLocation.fArea.fLow.fX, .int .i64 x26.fSolution.fLocation.fArea.fLow.fY, .int .i64 x26.fSolution.fLocation.fArea.fLow.fZ, .int .i64 x26.fSolution.fLocation.fArea.fHigh.fX, .int .i64 x26.fSolution.fLocation.fArea.fHigh.fY, .int .i64 x26.fSolution.fLocation.fArea.fHigh.fZ, .int .i64 x26.fSolution.fMagnitude.fLow, .int .i64 x26.fSolution.fMagnitude.fHigh, .int .i64 x26.fSolution.fCount])<|sV (.d (T_api_Pick.pd x26.fName))<|bE h fun x27 hx27 h => ?_
     refine cD (ref34_Compare_ev hx27)<|sV (.d (.bool (decide (x27 ≥ (0 : Int)))))<|sV (.d (.bool (decide (x27 ≥ (0 : Int)))))<|sF h (fun h => ?_) fun h => ?_
     ·refine sN<|sO<|cT<|gS rfl rfl<|sU<|sN<|qR ?_
      obtain rfl:=oI h
      exact ⟨(fun he => by cases he), rfl, rfl⟩
     exact sN<|sO<|cF<|qK<|⟨(), rfl, h⟩
    refine sM rfl<|sK<|sK<|sK<|sK<|sK<|sK<|sK<|sK<|sK<|sK<|sK<|sK<|sK<|sU ?_
    refine sU ?_
    exact sN<|sO<|cF<|qK<|⟨(), rfl, h⟩
   rintro ⟨⟩ R' B' hI h
   refine gS rfl hI<|sV (.d (.int .i64 0))<|sN<|bE h fun o13 ho13 h => WC.block (WC.loop (WL.ofLoop ho13 (fun s R' B' => ghosts prog 0 (A R' B') (hints.at_ 97 0 8) = some (A [(0, .d (.lst (a0.map T_api_Event.pd))), (3, .d (.int .i64 s1)), (4, .d (.lst (x4.fSolution.fPicks.map T_api_Pick.pd))), (5, .d (.int .i64 s))] [])) (fun o e R' B' => match o with | .inl y => e = .exit 2 ∧ ghosts prog 0 (A R' B') (hints.at_ 97 0 3) = some (A [(0, .d (.lst (a0.map T_api_Event.pd))), (3, .d (.int .i64 y))] []) | .inr r => e = .ret ∧ finish prog (hints.own 97) Tryz.f97 0 (A R' B') = some (.d (.bool r), [])) rfl ?_ ?_))
   ·rintro s5 R' B' q7 hI h
    refine qS<|gS rfl hI<|sM rfl<|sM rfl<|sF h (fun h => ?_) fun h => ?_
    ·refine sN<|cT<|qK<|qS<|qB<|gS rfl rfl<|sM rfl<|sM rfl<|sM rfl<|bE h fun x9 hx9 h => WO.elemG hx9 rfl rfl rfl rfl rfl rfl rfl rfl rfl<|sV (.cptr [.lst (x9.fSolution.fPicks.map T_api_Pick.pd), .int .i64 x9.fSolution.fLocation.fPoint.fX, .int .i64 x9.fSolution.fLocation.fPoint.fY, .int .i64 x9.fSolution.fLocation.fPoint.fZ, .int .i64 x9.fSolution.fLocation.fTime, .int .i64 x9.fSolution.fLocation.fMisfit, .int .i64 x9.fSolution.fLocation.fLower, .int .i64 x9.fSolution.fLocation.fArea.fLow.fX, .int .i64 x9.fSolution.fLocation.fArea.fLow.fY, .int .i64 x9.fSolution.fLocation.fArea.fLow.fZ, .int .i64 x9.fSolution.fLocation.fArea.fHigh.fX, .int .i64 x9.fSolution.fLocation.fArea.fHigh.fY, .int .i64 x9.fSolution.fLocation.fArea.fHigh.fZ, .int .i64 x9.fSolution.fMagnitude.fLow, .int .i64 x9.fSolution.fMagnitude.fHigh, .int .i64 x9.fSolution.fCount])<|sV (.cptr [.lst (x9.fSolution.fPicks.map T_api_Pick.pd), .int .i64 x9.fSolution.fLocation.fPoint.fX, .int .i64 x9.fSolution.fLocation.fPoint.fY, .int .i64 x9.fSolution.fLocation.fPoint.fZ, .int .i64 x9.fSolution.fLocation.fTime, .int .i64 x9.fSolution.fLocation.fMisfit, .int .i64 x9.fSolution.fLocation.fLower, .int .i64 x9.fSolution.fLocation.fArea.fLow.fX, .int .i64 x9.fSolution.fLocation.fArea.fLow.fY, .int .i64 x9.fSolution.fLocation.fArea.fLow.fZ, .int .i64 x9.fSolution.fLocation.fArea.fHigh.fX, .int .i64 x9.fSolution.fLocation.fArea.fHigh.fY, .int .i64 x9.fSolution.fLocation.fArea.fHigh.fZ, .int .i64 x9.fSolution.fMagnitude.fLow, .int .i64 x9.fSolution.fMagnitude.fHigh, .int .i64 x9.fSolution.fCount])<|sC rfl<|bE h fun x10 hx10 h => ?_
     refine ite_elim h (fun hb11 h => ?_) (fun hb11 h => ?_)
     ·refine WO.callR (v := .d (.bool true)) (u := []) rfl rfl (fun _ => rfl) rfl rfl rfl rfl rfl (ref34_common_ev hx10) rfl rfl (congrArg (fun b => RV.d (.bool b)) hb11) rfl<|sN<|cT<|gS rfl rfl<|sU<|sN<|qR ?_
      obtain rfl:=oI h
      exact ⟨(fun he => by cases he), rfl, rfl⟩
     refine WO.callR (v := .d (.bool false)) (u := []) rfl rfl (fun _ => rfl) rfl rfl rfl rfl rfl (ref34_common_ev hx10) rfl rfl (congrArg (fun b => RV.d (.bool b)) hb11) rfl<|sN<|cF<|qK<|WC.region rfl rfl<|sM rfl<|sV (.d (.int .i64 (IntKind.wrap .i64 (s5 + (1 : Int)))))<|sA rfl<|sN ?_
     obtain rfl:=oI h
     exact ⟨rfl, rfl⟩
    refine sN<|cF<|qX ?_
    obtain rfl:=oI h
    exact ⟨(fun he => by cases he), rfl, rfl⟩
   intro e R' B' he hq
   rcases o13 with y14 | r15
   ·obtain ⟨rfl, hI⟩ := hq
    refine qE<|WC.region hI rfl<|sM rfl<|sV (.d (.int .i64 (IntKind.wrap .i64 (y14 + (1 : Int)))))<|sA rfl<|sN ?_
    obtain rfl:=oI h
    exact ⟨rfl, rfl⟩
   obtain ⟨rfl, hf⟩ := hq
   obtain rfl:=oI h
   exact ⟨(fun he => by cases he), rfl, hf⟩
  refine sN<|cF<|qX ?_
  obtain rfl:=oI h
  exact ⟨(fun he => by cases he), rfl, rfl⟩
 intro e R' B' he hq
 rcases o30 with y31 | r32
 ·obtain ⟨rfl, hI⟩ := hq
  refine qE<|gS rfl hI<|sT<|sN<|qR ?_
  obtain rfl:=oI h
  exact qD
 obtain ⟨rfl, hf⟩ := hq
 obtain rfl:=oI h
 exact hf
theorem ref36_Errors_ev {a0 : T_api_Policy} {a1 : (List T_api_Alert)} {a2 : Int} {a3 : (List T_api_Event)} {a4 : Int} {r : Int} (h : ref36_Errors a0 a1 a2 a3 a4 = some r) : EvP prog hints ext 60 [.d (T_api_Policy.pd a0), .d (.lst (a1.map T_api_Alert.pd)), .d (.int .i64 a2), .d (.lst (a3.map T_api_Event.pd)), .d (.int .i64 a4)] [] (.d (.int .i64 r), []) := by
 refine Ev.body rfl Tryz.func60 rfl (by kernel_rfl)<|gS rfl rfl<|sB (.ptr 80 0) 80 (.var [.d (.lst (a0.fRules.map T_api_Rule.pd)), .d (.int .i64 a0.fDistance), .d (.int .i64 a0.fEvery)])<|sV (.d (.int .i64 0))<|sN<|qS<|gS rfl rfl<|sV (.d (T_api_Policy.pd a0))<|bE h fun x1 hx1 h => cD (ref35_Validate_ev hx1)<|sF h (fun h => ?_) fun h => ?_
 ·refine sN<|cT<|gS rfl rfl<|sV (.d (.int .i64 27))<|sN<|qR ?_
  obtain rfl:=oI h
  exact qD
 refine sN<|cF<|qK<|WC.join (α := Unit) (fun x R' B' => ghosts prog 0 (A R' B') (hints.at_ 60 0 5) = some (A [(1, .d (.lst (a1.map T_api_Alert.pd))), (4, .d (.int .i64 a4))] [])) (fun x => ref36_Errors_k14 a4 a1 = some r) ?_ ?_
 ·refine gS rfl rfl<|sM rfl<|bE h fun x15 hx15 h => cD (ref36_Valid_ev hx15)<|sF h (fun h => ?_) fun h => ?_
  ·refine sM rfl<|sK<|sK<|sK<|sT<|sM rfl<|sK<|sK<|sT<|sM rfl<|sK<|sK<|sK<|sK<|sK ?_
   refine sK<|sK<|sK<|sK<|sK<|sK<|sK<|sK<|sK<|sT<|sN<|cT<|gS rfl rfl<|sV (.d (.int .i64 1))<|sN ?_
   refine qR ?_
   obtain rfl:=oI h
   exact qD
  refine sM rfl<|sM rfl<|bE h fun x17 hx17 h => cD (ref34_Valid_ev hx17)<|sV (.d (.bool (!x17)))<|sF h (fun h => ?_) fun h => ?_
  ·refine sM rfl<|sK<|sK<|sT<|sM rfl<|sK<|sK<|sK<|sK<|sK<|sK<|sK<|sK<|sK<|sK ?_
   refine sK<|sK<|sK<|sK<|sT<|sN<|cT<|gS rfl rfl<|sV (.d (.int .i64 1))<|sN<|qR ?_
   obtain rfl:=oI h
   exact qD
  refine sM rfl<|sM rfl<|sV (.d (.bool (decide (a2 < (0 : Int)))))<|sF h (fun h => ?_) fun h => ?_
  ·refine sM rfl<|sK<|sK<|sK<|sK<|sK<|sK<|sK<|sK<|sK<|sK<|sK<|sK<|sK<|sK ?_
   refine sT<|sN<|cT<|gS rfl rfl<|sV (.d (.int .i64 1))<|sN<|qR ?_
   obtain rfl:=oI h
   exact qD
  refine sM rfl<|sM rfl<|sE (.d (.int .i64 (a1.length : Int))) (lenMap _ _)<|sF h (fun h => ?_) fun h => ?_
  ·refine sM rfl<|sM rfl<|sM rfl<|sM rfl<|sE (.d (.int .i64 (a1.length : Int))) (lenMap _ _)<|sV (.d (.int .i64 (IntKind.wrap .i64 ((a1.length : Int) - (1 : Int)))))<|bE h fun x21 hx21 h => WO.elemG hx21 rfl rfl rfl rfl rfl rfl rfl rfl rfl<|sV (.cptr [.int .i64 x21.fID, .bool x21.fWithdrawn, .str x21.fName.fSource.fNetwork, .str x21.fName.fSource.fStation, .str x21.fName.fSource.fLocation, .str x21.fName.fSource.fChannel, .int .i64 x21.fName.fTime, .int .i64 x21.fName.fEarly, .int .i64 x21.fName.fLate, .int .i64 x21.fName.fAmplitude, .int .i64 x21.fName.fPolarity, .int .i64 x21.fLevel, .str x21.fEvent.fName.fSource.fNetwork, .str x21.fEvent.fName.fSource.fStation, .str x21.fEvent.fName.fSource.fLocation, .str x21.fEvent.fName.fSource.fChannel, .int .i64 x21.fEvent.fName.fTime, .int .i64 x21.fEvent.fName.fEarly, .int .i64 x21.fEvent.fName.fLate, .int .i64 x21.fEvent.fName.fAmplitude, .int .i64 x21.fEvent.fName.fPolarity, .lst (x21.fEvent.fSolution.fPicks.map T_api_Pick.pd), .int .i64 x21.fEvent.fSolution.fLocation.fPoint.fX, .int .i64 x21.fEvent.fSolution.fLocation.fPoint.fY, .int .i64 x21.fEvent.fSolution.fLocation.fPoint.fZ, .int .i64 x21.fEvent.fSolution.fLocation.fTime, .int .i64 x21.fEvent.fSolution.fLocation.fMisfit, .int .i64 x21.fEvent.fSolution.fLocation.fLower, .int .i64 x21.fEvent.fSolution.fLocation.fArea.fLow.fX, .int .i64 x21.fEvent.fSolution.fLocation.fArea.fLow.fY, .int .i64 x21.fEvent.fSolution.fLocation.fArea.fLow.fZ, .int .i64 x21.fEvent.fSolution.fLocation.fArea.fHigh.fX, .int .i64 x21.fEvent.fSolution.fLocation.fArea.fHigh.fY, .int .i64 x21.fEvent.fSolution.fLocation.fArea.fHigh.fZ, .int .i64 x21.fEvent.fSolution.fMagnitude.fLow, .int .i64 x21.fEvent.fSolution.fMagnitude.fHigh, .int .i64 x21.fEvent.fSolution.fCount, .int .i64 x21.fAt])<|sC rfl<|sV (.d (.bool (decide (a2 ≤ x21.fID))))<|sV (.d (.bool (decide (a2 ≤ x21.fID))))<|sF h (fun h => ?_) fun h => ?_
   ·refine sN<|cT<|gS rfl rfl<|sV (.d (.int .i64 1))<|sN<|qR ?_
    obtain rfl:=oI h
    exact qD
   exact sN<|cF<|qK<|⟨(), rfl, h⟩
  refine sM rfl<|sK<|sK<|sK<|sK<|sK<|sK<|sK<|sK<|sK<|sU<|sU<|sN<|cF<|qK ?_
  exact ⟨(), rfl, h⟩
 rintro ⟨⟩ R' B' hI h
 refine qS<|gS rfl hI<|sM rfl<|sF h (fun h => ?_) fun h => ?_
 ·refine sM rfl<|sK<|sK<|sT<|sN<|cT<|gS rfl rfl<|sV (.d (.int .i64 2))<|sN<|qR ?_
  obtain rfl:=oI h
  exact qD
 refine sM rfl<|sM rfl<|sV (.d (.bool (decide (a4 > (18014398509481984 : Int)))))<|sF h (fun h => ?_) fun h => ?_
 ·refine sN<|cT<|gS rfl rfl<|sV (.d (.int .i64 2))<|sN<|qR ?_
  obtain rfl:=oI h
  exact qD
 refine sN<|cF<|qK<|qS<|gS rfl rfl<|sV (.d (.int .i64 0))<|sN<|bE h fun o11 ho11 h => WC.block (WC.loop (WL.ofLoop ho11 (fun s R' B' => ghosts prog 0 (A R' B') (hints.at_ 60 0 8) = some (A [(1, .d (.lst (a1.map T_api_Alert.pd))), (4, .d (.int .i64 a4)), (11, .d (.int .i64 s))] [])) (fun o e R' B' => match o with | .inl y => e = .exit 0 ∧ ghosts prog 0 (A R' B') (hints.at_ 60 0 12) = some (A [] []) | .inr r => e = .ret ∧ finish prog (hints.own 60) Tryz.f60 0 (A R' B') = some (.d (.int .i64 r), [])) rfl ?_ ?_))
 ·rintro s5 R' B' q6 hI h
  refine qS<|gS rfl hI<|sM rfl<|sM rfl<|sE (.d (.int .i64 (a1.length : Int))) (lenMap _ _)<|sF h (fun h => ?_) fun h => ?_
  ·refine sN<|cT<|qK<|qS<|qB<|gS rfl rfl<|sM rfl<|sM rfl<|sM rfl<|bE h fun x8 hx8 h => WO.elemG hx8 rfl rfl rfl rfl rfl rfl rfl rfl rfl<|sV (.cptr [.int .i64 x8.fAt])<|sC rfl<|sF h (fun h => ?_) fun h => ?_
   ·refine sN<|cT<|gS rfl rfl<|sV (.d (.int .i64 9))<|sN<|qR ?_
    obtain rfl:=oI h
    exact ⟨(fun he => by cases he), rfl, rfl⟩
   refine sN<|cF<|qK<|WC.region rfl rfl<|sM rfl<|sV (.d (.int .i64 (IntKind.wrap .i64 (s5 + (1 : Int)))))<|sA rfl<|sN ?_
   obtain rfl:=oI h
   exact ⟨rfl, rfl⟩
  refine sN<|cF<|qX ?_
  obtain rfl:=oI h
  exact ⟨(fun he => by cases he), rfl, rfl⟩
 intro e R' B' he hq
 rcases o11 with y12 | r13
 ·obtain ⟨rfl, hI⟩ := hq
  refine qE<|gS rfl hI<|sV (.d (.int .i64 0))<|sN<|qR ?_
  obtain rfl:=oI h
  exact qD
 obtain ⟨rfl, hf⟩ := hq
 obtain rfl:=oI h
 exact hf
theorem ref34_Index_ev {a0 : (List T_api_Event)} {a1 : T_api_Pick} {r : Int} (h : ref34_Index a0 a1 = some r) : EvP prog hints ext 98 [.d (.lst (a0.map T_api_Event.pd)), .d (T_api_Pick.pd a1)] [] (.d (.int .i64 r), []) := by
 refine Ev.body rfl Tryz.func98 rfl (by kernel_rfl)<|gS rfl rfl<|sB (.ptr 48 0) 48 (.var [.d (.str a1.fSource.fNetwork), .d (.str a1.fSource.fStation), .d (.str a1.fSource.fLocation), .d (.str a1.fSource.fChannel), .d (.int .i64 a1.fTime), .d (.int .i64 a1.fEarly), .d (.int .i64 a1.fLate), .d (.int .i64 a1.fAmplitude), .d (.int .i64 a1.fPolarity)])<|sV (.d (.int .i64 0))<|sN<|qS<|gS rfl rfl<|sV (.d (.int .i64 0))<|sN<|bE h fun o7 ho7 h => WC.block (WC.loop (WL.ofLoop ho7 (fun s R' B' => ghosts prog 0 (A R' B') (hints.at_ 98 0 2) = some (A [(0, .d (.lst (a0.map T_api_Event.pd))), (3, .ptr 48 0), (5, .d (.int .i64 s))] [(48, .var [.d (.str a1.fSource.fNetwork), .d (.str a1.fSource.fStation), .d (.str a1.fSource.fLocation), .d (.str a1.fSource.fChannel), .d (.int .i64 a1.fTime), .d (.int .i64 a1.fEarly), .d (.int .i64 a1.fLate), .d (.int .i64 a1.fAmplitude), .d (.int .i64 a1.fPolarity)])])) (fun o e R' B' => match o with | .inl y => e = .exit 0 ∧ ghosts prog 0 (A R' B') (hints.at_ 98 0 6) = some (A [] []) | .inr r => e = .ret ∧ finish prog (hints.own 98) Tryz.f98 0 (A R' B') = some (.d (.int .i64 r), [])) rfl ?_ ?_))
 ·rintro s1 R' B' q2 hI h
  refine qS<|gS rfl hI<|sM rfl<|sM rfl<|sE (.d (.int .i64 (a0.length : Int))) (lenMap _ _)<|sF h (fun h => ?_) fun h => ?_
  ·refine sN<|cT<|qK<|qS<|qB<|WC.regionDSeq rfl rfl<|sM rfl<|sM rfl<|bE h fun x4 hx4 h => WO.elemG hx4 rfl rfl rfl rfl rfl rfl rfl rfl rfl<|sV (.cptr [.str x4.fName.fSource.fNetwork, .str x4.fName.fSource.fStation, .str x4.fName.fSource.fLocation, .str x4.fName.fSource.fChannel, .int .i64 x4.fName.fTime, .int .i64 x4.fName.fEarly, .int .i64 x4.fName.fLate, .int .i64 x4.fName.fAmplitude, .int .i64 x4.fName.fPolarity, .lst (x4.fSolution.fPicks.map T_api_Pick.pd), .int .i64 x4.fSolution.fLocation.fPoint.fX, .int .i64 x4.fSolution.fLocation.fPoint.fY, .int .i64 x4.fSolution.fLocation.fPoint.fZ, .int .i64 x4.fSolution.fLocation.fTime, .int .i64 x4.fSolution.fLocation.fMisfit, .int .i64 x4.fSolution.fLocation.fLower, .int .i64 x4.fSolution.fLocation.fArea.fLow.fX, .int .i64 x4.fSolution.fLocation.fArea.fLow.fY, .int .i64 x4.fSolution.fLocation.fArea.fLow.fZ, .int .i64 x4.fSolution.fLocation.fArea.fHigh.fX, .int .i64 x4.fSolution.fLocation.fArea.fHigh.fY, .int .i64 x4.fSolution.fLocation.fArea.fHigh.fZ, .int .i64 x4.fSolution.fMagnitude.fLow, .int .i64 x4.fSolution.fMagnitude.fHigh, .int .i64 x4.fSolution.fCount])<|sV (.d (T_api_Pick.pd x4.fName))<|sV (.d (T_api_Pick.pd a1))<|ite_elim h (fun hb5 h => ?_) (fun hb5 h => ?_)
   ·refine WO.binS (eqE_25 x4.fName a1) hb5 rfl rfl rfl rfl rfl ?_
    refine sN<|sO<|cT<|gS rfl rfl<|sM rfl<|sA rfl<|sN<|qR ?_
    obtain rfl:=oI h
    exact ⟨(fun he => by cases he), rfl, rfl⟩
   refine WO.binS (eqE_25 x4.fName a1) hb5 rfl rfl rfl rfl rfl ?_
   refine sN<|sO<|cF<|qK<|WC.region rfl rfl<|sM rfl<|sV (.d (.int .i64 (IntKind.wrap .i64 (s1 + (1 : Int)))))<|sA rfl<|sN ?_
   obtain rfl:=oI h
   exact ⟨rfl, rfl⟩
  refine sN<|cF<|qX ?_
  obtain rfl:=oI h
  exact ⟨(fun he => by cases he), rfl, rfl⟩
 intro e R' B' he hq
 rcases o7 with y8 | r9
 ·obtain ⟨rfl, hI⟩ := hq
  refine qE<|gS rfl hI<|sV (.d (.int .i64 (-1)))<|sN<|qR ?_
  obtain rfl:=oI h
  exact qD
 obtain ⟨rfl, hf⟩ := hq
 obtain rfl:=oI h
 exact hf
theorem ref36_in_ev {a0 : Int} {r : Bool} (h : ref36_in a0 = some r) : EvP prog hints ext 64 [.nils, .d (.int .i64 a0)] [] (.d (.bool r), []) := by
 refine Ev.body rfl Tryz.func64 rfl (by kernel_rfl)<|gS rfl rfl<|sU<|sN<|qS<|gS rfl rfl<|sV (.d (.int .i64 0))<|sN<|bE h fun o3 ho3 h => WC.block (WC.loop (WL.ofLoop ho3 (fun s R' B' => ghosts prog 0 (A R' B') (hints.at_ 64 0 2) = some (A [(0, .nils), (1, .d (.int .i64 a0)), (5, .d (.int .i64 0))] [])) (fun o e R' B' => e = .exit 0 ∧ ghosts prog 0 (A R' B') (hints.at_ 64 0 6) = some (A [] [])) rfl ?_ ?_))
 ·rintro ⟨⟩ R' B' q1 hI h
  refine qS<|gS rfl hI<|sM rfl<|sM rfl<|sV (.d (.int .i64 0))<|sU<|sN<|cF<|qX ?_
  obtain rfl:=oI h
  exact ⟨(fun he => by cases he), rfl, rfl⟩
 intro e R' B' he hq
 obtain ⟨rfl, hI⟩ := hq
 refine qE<|gS rfl hI<|sU<|sN<|qR ?_
 obtain rfl:=oI h
 exact qD
theorem ref36_inq_ev {a1 : Int} {d0 : (List Int)} {r : Bool × (List Int)} (h : ref36_inq a1 d0 = some r) : EvP prog hints ext 64 [.ref 0 0, .d (.int .i64 a1)] [.arr 0 3 (d0.map (PD.int .i64))] (.d (.bool r.1), [.arr 0 3 (r.2.map (PD.int .i64))]) := by
 refine Ev.body rfl Tryz.func64 rfl (by kernel_rfl)<|gS rfl rfl<|sU<|sN<|qS<|gS rfl rfl<|sV (.d (.int .i64 0))<|sN<|bE h fun o9 ho9 h => WC.block (WC.loop (WL.ofLoop ho9 (fun s R' B' => ghosts prog 1 (A R' B') (hints.at_ 64 1 2) = some (A [(0, .ref 0 0), (1, .d (.int .i64 a1)), (5, .d (.int .i64 s))] [(0, .arr 0 3 (d0.map (PD.int .i64)))])) (fun o e R' B' => match o with | .inl y => e = .exit 0 ∧ ghosts prog 1 (A R' B') (hints.at_ 64 1 6) = some (A [] [(0, .arr 0 3 (d0.map (PD.int .i64)))]) | .inr r => e = .ret ∧ finish prog (hints.own 64) Tryz.f64 1 (A R' B') = some (.d (.bool r.1), [.arr 0 3 (r.2.map (PD.int .i64))])) rfl ?_ ?_))
 ·rintro s1 R' B' q2 hI h
  refine qS<|gS rfl hI<|sM rfl<|sM rfl<|WO.lenR rfl rfl rfl rfl rfl rfl rfl rfl rfl<|sF h (fun h => ?_) fun h => ?_
  ·refine sN<|cT<|qK<|qS<|qB<|gS rfl rfl<|sM rfl<|sM rfl<|bE h fun x5 hx5 h => WO.eltG hx5 rfl rfl rfl rfl rfl rfl rfl rfl<|bE h fun x6 hx6 h => WO.loadE hx6 rfl rfl rfl rfl rfl rfl<|sM rfl<|sF h (fun h => ?_) fun h => ?_
   ·refine sN<|cT<|gS rfl rfl<|sT<|sN<|qR ?_
    obtain rfl:=oI h
    exact ⟨(fun he => by cases he), rfl, rfl⟩
   refine sN<|cF<|qK<|WC.region rfl rfl<|sM rfl<|sV (.d (.int .i64 (IntKind.wrap .i64 (s1 + (1 : Int)))))<|sA rfl<|sN ?_
   obtain rfl:=oI h
   exact ⟨rfl, rfl⟩
  refine sN<|cF<|qX ?_
  obtain rfl:=oI h
  exact ⟨(fun he => by cases he), rfl, rfl⟩
 intro e R' B' he hq
 rcases o9 with y10 | r11
 ·obtain ⟨rfl, hI⟩ := hq
  refine qE<|gS rfl hI<|sU<|sN<|qR ?_
  obtain rfl:=oI h
  exact qD
 obtain ⟨rfl, hf⟩ := hq
 obtain rfl:=oI h
 exact hf
theorem ref36_common_ev {a0 : (List T_api_Pick)} {a1 : (List T_api_Pick)} {r : Bool} (h : ref36_common a0 a1 = some r) : EvP prog hints ext 99 [.d (.lst (a0.map T_api_Pick.pd)), .d (.lst (a1.map T_api_Pick.pd))] [] (.d (.bool r), []) := by
 refine Ev.body rfl Tryz.func99 rfl (by kernel_rfl)<|gS rfl rfl<|sU<|sN<|qS<|gS rfl rfl<|sV (.d (.int .i64 0))<|sN<|bE h fun o16 ho16 h => WC.block (WC.loop (WL.ofLoop ho16 (fun s R' B' => ghosts prog 0 (A R' B') (hints.at_ 99 0 2) = some (A [(0, .d (.lst (a0.map T_api_Pick.pd))), (1, .d (.lst (a1.map T_api_Pick.pd))), (5, .d (.int .i64 s))] [])) (fun o e R' B' => match o with | .inl y => e = .exit 0 ∧ ghosts prog 0 (A R' B') (hints.at_ 99 0 9) = some (A [] []) | .inr r => e = .ret ∧ finish prog (hints.own 99) Tryz.f99 0 (A R' B') = some (.d (.bool r), [])) rfl ?_ ?_))
 ·rintro s1 R' B' q2 hI h
  refine qS<|gS rfl hI<|sM rfl<|sM rfl<|sE (.d (.int .i64 (a0.length : Int))) (lenMap _ _)<|sF h (fun h => ?_) fun h => ?_
  ·refine sN<|cT<|qK<|qS<|qB<|gS rfl rfl<|sV (.d (.int .i64 0))<|sN<|bE h fun o12 ho12 h => WC.block (WC.loop (WL.ofLoop ho12 (fun s R' B' => ghosts prog 0 (A R' B') (hints.at_ 99 0 5) = some (A [(0, .d (.lst (a0.map T_api_Pick.pd))), (1, .d (.lst (a1.map T_api_Pick.pd))), (5, .d (.int .i64 s1)), (6, .d (.int .i64 s))] [])) (fun o e R' B' => match o with | .inl y => e = .exit 2 ∧ ghosts prog 0 (A R' B') (hints.at_ 99 0 3) = some (A [(0, .d (.lst (a0.map T_api_Pick.pd))), (1, .d (.lst (a1.map T_api_Pick.pd))), (5, .d (.int .i64 y))] []) | .inr r => e = .ret ∧ finish prog (hints.own 99) Tryz.f99 0 (A R' B') = some (.d (.bool r), [])) rfl ?_ ?_))
   ·rintro s4 R' B' q6 hI h
    refine qS<|gS rfl hI<|sM rfl<|sM rfl<|sE (.d (.int .i64 (a1.length : Int))) (lenMap _ _)<|sF h (fun h => ?_) fun h => ?_
    ·refine sN<|cT<|qK<|qS<|qB<|WC.regionDSeq rfl rfl<|sM rfl<|sM rfl<|bE h fun x8 hx8 h => WO.elemG hx8 rfl rfl rfl rfl rfl rfl rfl rfl rfl<|sV (.d (T_api_Pick.pd x8))<|sM rfl<|sM rfl<|bE h fun x9 hx9 h => WO.elemG hx9 rfl rfl rfl rfl rfl rfl rfl rfl rfl ?_
     refine sV (.d (T_api_Pick.pd x9))<|ite_elim h (fun hb10 h => ?_) (fun hb10 h => ?_)
     ·refine WO.binS (eqE_25 x8 x9) hb10 rfl rfl rfl rfl rfl ?_
      refine sN<|sO<|cT<|gS rfl rfl<|sT<|sN<|qR ?_
      obtain rfl:=oI h
      exact ⟨(fun he => by cases he), rfl, rfl⟩
     refine WO.binS (eqE_25 x8 x9) hb10 rfl rfl rfl rfl rfl ?_
     refine sN<|sO<|cF<|qK<|WC.region rfl rfl<|sM rfl<|sV (.d (.int .i64 (IntKind.wrap .i64 (s4 + (1 : Int)))))<|sA rfl<|sN ?_
     obtain rfl:=oI h
     exact ⟨rfl, rfl⟩
    refine sN<|cF<|qX ?_
    obtain rfl:=oI h
    exact ⟨(fun he => by cases he), rfl, rfl⟩
   intro e R' B' he hq
   rcases o12 with y13 | r14
   ·obtain ⟨rfl, hI⟩ := hq
    refine qE<|WC.region hI rfl<|sM rfl<|sV (.d (.int .i64 (IntKind.wrap .i64 (y13 + (1 : Int)))))<|sA rfl<|sN ?_
    obtain rfl:=oI h
    exact ⟨rfl, rfl⟩
   obtain ⟨rfl, hf⟩ := hq
   obtain rfl:=oI h
   exact ⟨(fun he => by cases he), rfl, hf⟩
  refine sN<|cF<|qX ?_
  obtain rfl:=oI h
  exact ⟨(fun he => by cases he), rfl, rfl⟩
 intro e R' B' he hq
 rcases o16 with y17 | r18
 ·obtain ⟨rfl, hI⟩ := hq
  refine qE<|gS rfl hI<|sU<|sN<|qR ?_
  obtain rfl:=oI h
  exact qD
 obtain ⟨rfl, hf⟩ := hq
 obtain rfl:=oI h
 exact hf
theorem ref36_Follow_ev {a0 : (List T_api_Alert)} {a1 : (List T_api_Event)} {r : (List Int)} (h : ref36_Follow a0 a1 = some r) : EvP prog hints ext 61 [.d (.lst (a0.map T_api_Alert.pd)), .d (.lst (a1.map T_api_Event.pd))] [] (.d (.lst (r.map (PD.int .i64))), []) := by
 refine Ev.body rfl Tryz.func61 rfl (by kernel_rfl)<|gS rfl rfl<|sV .nils<|sN<|gS rfl rfl<|sV .nils<|sN<|qS<|gS rfl rfl<|sV (.d (.int .i64 0))<|sN<|bE h fun o17 ho17 h => WC.block (WC.loop (WL.ofLoop ho17 (fun s R' B' => ghosts prog 0 (A R' B') (hints.at_ 61 0 3) = some (A [(0, .d (.lst (a0.map T_api_Alert.pd))), (1, .d (.lst (a1.map T_api_Event.pd))), (5, .ref 560 0), (6, .d (.int .i64 s.1))] [(560, .arr 0 3 (s.2.map (PD.int .i64)))])) (fun o e R' B' => e = .exit 0 ∧ ghosts prog 0 (A R' B') (hints.at_ 61 0 11) = some (A [(0, .d (.lst (a0.map T_api_Alert.pd))), (1, .d (.lst (a1.map T_api_Event.pd))), (5, .ref 560 0)] [(560, .arr 0 3 (o.map (PD.int .i64)))])) rfl ?_ ?_))
 ·rintro ⟨s1, s2⟩ R' B' q4 hI h
  refine qS<|gS rfl hI<|sM rfl<|sM rfl<|sE (.d (.int .i64 (a0.length : Int))) (lenMap _ _)<|sF h (fun h => ?_) fun h => ?_
  ·refine sN<|cT<|qK<|qS<|qB<|gS rfl rfl<|sV (.d (.int .i64 (-1)))<|sN<|WC.join (α := Int) (fun x R' B' => ghosts prog 0 (A R' B') (hints.at_ 61 0 8) = some (A [(0, .d (.lst (a0.map T_api_Alert.pd))), (1, .d (.lst (a1.map T_api_Event.pd))), (5, .ref 560 0), (6, .d (.int .i64 s1)), (7, .d (.int .i64 x))] [(560, .arr 0 3 (s2.map (PD.int .i64)))])) (fun x => ref36_Follow_k11 s2 s1 x = some q4) ?_ ?_
   ·refine gS rfl rfl<|sM rfl<|sM rfl<|bE h fun x12 hx12 h => WO.elemG hx12 rfl rfl rfl rfl rfl rfl rfl rfl rfl<|sV (.cptr [.bool x12.fWithdrawn, .str x12.fName.fSource.fNetwork, .str x12.fName.fSource.fStation, .str x12.fName.fSource.fLocation, .str x12.fName.fSource.fChannel, .int .i64 x12.fName.fTime, .int .i64 x12.fName.fEarly, .int .i64 x12.fName.fLate, .int .i64 x12.fName.fAmplitude, .int .i64 x12.fName.fPolarity, .int .i64 x12.fLevel, .str x12.fEvent.fName.fSource.fNetwork, .str x12.fEvent.fName.fSource.fStation, .str x12.fEvent.fName.fSource.fLocation, .str x12.fEvent.fName.fSource.fChannel, .int .i64 x12.fEvent.fName.fTime, .int .i64 x12.fEvent.fName.fEarly, .int .i64 x12.fEvent.fName.fLate, .int .i64 x12.fEvent.fName.fAmplitude, .int .i64 x12.fEvent.fName.fPolarity, .lst (x12.fEvent.fSolution.fPicks.map T_api_Pick.pd), .int .i64 x12.fEvent.fSolution.fLocation.fPoint.fX, .int .i64 x12.fEvent.fSolution.fLocation.fPoint.fY, .int .i64 x12.fEvent.fSolution.fLocation.fPoint.fZ, .int .i64 x12.fEvent.fSolution.fLocation.fTime, .int .i64 x12.fEvent.fSolution.fLocation.fMisfit, .int .i64 x12.fEvent.fSolution.fLocation.fLower, .int .i64 x12.fEvent.fSolution.fLocation.fArea.fLow.fX, .int .i64 x12.fEvent.fSolution.fLocation.fArea.fLow.fY, .int .i64 x12.fEvent.fSolution.fLocation.fArea.fLow.fZ, .int .i64 x12.fEvent.fSolution.fLocation.fArea.fHigh.fX, .int .i64 x12.fEvent.fSolution.fLocation.fArea.fHigh.fY, .int .i64 x12.fEvent.fSolution.fLocation.fArea.fHigh.fZ, .int .i64 x12.fEvent.fSolution.fMagnitude.fLow, .int .i64 x12.fEvent.fSolution.fMagnitude.fHigh, .int .i64 x12.fEvent.fSolution.fCount, .int .i64 x12.fAt])<|sC rfl<|sF h (fun h => ?_) fun h => ?_
    ·exact sN<|cT<|WC.region rfl rfl<|sM rfl<|sM rfl<|sM rfl<|bE h fun x14 hx14 h => WO.elemG hx14 rfl rfl rfl rfl rfl rfl rfl rfl rfl<|sV (.cptr [.str x14.fName.fSource.fNetwork, .str x14.fName.fSource.fStation, .str x14.fName.fSource.fLocation, .str x14.fName.fSource.fChannel, .int .i64 x14.fName.fTime, .int .i64 x14.fName.fEarly, .int .i64 x14.fName.fLate, .int .i64 x14.fName.fAmplitude, .int .i64 x14.fName.fPolarity, .int .i64 x14.fLevel, .str x14.fEvent.fName.fSource.fNetwork, .str x14.fEvent.fName.fSource.fStation, .str x14.fEvent.fName.fSource.fLocation, .str x14.fEvent.fName.fSource.fChannel, .int .i64 x14.fEvent.fName.fTime, .int .i64 x14.fEvent.fName.fEarly, .int .i64 x14.fEvent.fName.fLate, .int .i64 x14.fEvent.fName.fAmplitude, .int .i64 x14.fEvent.fName.fPolarity, .lst (x14.fEvent.fSolution.fPicks.map T_api_Pick.pd), .int .i64 x14.fEvent.fSolution.fLocation.fPoint.fX, .int .i64 x14.fEvent.fSolution.fLocation.fPoint.fY, .int .i64 x14.fEvent.fSolution.fLocation.fPoint.fZ, .int .i64 x14.fEvent.fSolution.fLocation.fTime, .int .i64 x14.fEvent.fSolution.fLocation.fMisfit, .int .i64 x14.fEvent.fSolution.fLocation.fLower, .int .i64 x14.fEvent.fSolution.fLocation.fArea.fLow.fX, .int .i64 x14.fEvent.fSolution.fLocation.fArea.fLow.fY, .int .i64 x14.fEvent.fSolution.fLocation.fArea.fLow.fZ, .int .i64 x14.fEvent.fSolution.fLocation.fArea.fHigh.fX, .int .i64 x14.fEvent.fSolution.fLocation.fArea.fHigh.fY, .int .i64 x14.fEvent.fSolution.fLocation.fArea.fHigh.fZ, .int .i64 x14.fEvent.fSolution.fMagnitude.fLow, .int .i64 x14.fEvent.fSolution.fMagnitude.fHigh, .int .i64 x14.fEvent.fSolution.fCount, .int .i64 x14.fAt])<|sV (.d (T_api_Pick.pd x14.fName))<|bE h fun x15 hx15 h => cD (ref34_Index_ev hx15)<|sA rfl<|sN<|⟨x15, rfl, h⟩
    exact sN<|cF<|qK<|⟨-1, rfl, h⟩
   rintro j6 R' B' hI h
   refine qS<|gS rfl hI<|sM rfl<|sM rfl<|bE h fun x7 hx7 h => ite_elim h (fun hb8 h => ?_) (fun hb8 h => ?_)
   ·refine WO.callR (v := .d (.bool true)) (u := [(560, .arr 0 3 (x7.2.map (PD.int .i64)))]) rfl rfl (fun _ => rfl) rfl rfl rfl rfl rfl (ref36_inq_ev hx7) rfl rfl (congrArg (fun b => RV.d (.bool b)) hb8) rfl<|sN<|cT<|WC.region rfl rfl<|sV (.d (.int .i64 (-1)))<|sN<|WC.region rfl rfl<|sM rfl<|sM rfl<|sV (.d (.lst ([-1].map (PD.int .i64))))<|bE h fun x9 hx9 h => WO.appR hx9 (fun _ => rfl) rfl rfl rfl rfl rfl rfl rfl rfl rfl rfl rfl rfl rfl rfl<|sA rfl<|sN<|WC.region rfl rfl ?_
    refine sM rfl<|sV (.d (.int .i64 (IntKind.wrap .i64 (s1 + (1 : Int)))))<|sA rfl<|sN ?_
    obtain rfl:=oI h
    exact ⟨rfl, rfl⟩
   refine WO.callR (v := .d (.bool false)) (u := [(560, .arr 0 3 (x7.2.map (PD.int .i64)))]) rfl rfl (fun _ => rfl) rfl rfl rfl rfl rfl (ref36_inq_ev hx7) rfl rfl (congrArg (fun b => RV.d (.bool b)) hb8) rfl<|sN<|cF<|qK<|WC.region rfl rfl<|sM rfl<|sM rfl<|sV (.d (.lst ([j6].map (PD.int .i64))))<|bE h fun x10 hx10 h => WO.appR hx10 (fun _ => rfl) rfl rfl rfl rfl rfl rfl rfl rfl rfl rfl rfl rfl rfl rfl<|sA rfl<|sN<|WC.region rfl rfl<|sM rfl<|sV (.d (.int .i64 (IntKind.wrap .i64 (s1 + (1 : Int))))) ?_
   refine sA rfl<|sN ?_
   obtain rfl:=oI h
   exact ⟨rfl, rfl⟩
  refine sN<|cF<|qX ?_
  obtain rfl:=oI h
  exact ⟨(fun he => by cases he), rfl, rfl⟩
 intro e R' B' he hq
 obtain ⟨rfl, hI⟩ := hq
 refine qE<|qS<|gS rfl hI<|sV (.d (.int .i64 0))<|sN<|bE h fun o47 ho47 h => WC.block (WC.loop (WL.ofLoop ho47 (fun s R' B' => ghosts prog 0 (A R' B') (hints.at_ 61 0 12) = some (A [(0, .d (.lst (a0.map T_api_Alert.pd))), (1, .d (.lst (a1.map T_api_Event.pd))), (5, .ref 560 0), (8, .d (.int .i64 s.1))] [(560, .arr 0 3 (s.2.map (PD.int .i64)))])) (fun o e R' B' => e = .exit 2 ∧ ghosts prog 0 (A R' B') (hints.at_ 61 0 19) = some (A [(5, .ref 560 0)] [(560, .arr 0 3 (o.map (PD.int .i64)))])) rfl ?_ ?_))
 ·rintro ⟨s18, s19⟩ R' B' q21 hI h
  refine qS<|gS rfl hI<|sM rfl<|sM rfl<|sE (.d (.int .i64 (a0.length : Int))) (lenMap _ _)<|sF h (fun h => ?_) fun h => ?_
  ·refine sN<|cT<|qK<|qS<|qB<|gS rfl rfl<|sV (.d (.int .i64 0))<|sN<|bE h fun o45 ho45 h => WC.block (WC.loop (WL.ofLoop ho45 (fun s R' B' => ghosts prog 0 (A R' B') (hints.at_ 61 0 15) = some (A [(0, .d (.lst (a0.map T_api_Alert.pd))), (1, .d (.lst (a1.map T_api_Event.pd))), (5, .ref 560 0), (8, .d (.int .i64 s18)), (9, .d (.int .i64 s.1))] [(560, .arr 0 3 (s.2.map (PD.int .i64)))])) (fun o e R' B' => e = .exit 4 ∧ ghosts prog 0 (A R' B') (hints.at_ 61 0 13) = some (A [(0, .d (.lst (a0.map T_api_Alert.pd))), (1, .d (.lst (a1.map T_api_Event.pd))), (5, .ref 560 0), (8, .d (.int .i64 o.1))] [(560, .arr 0 3 (o.2.map (PD.int .i64)))])) rfl ?_ ?_))
   ·rintro ⟨s23, s24⟩ R' B' q27 hI h
    refine qS<|gS rfl hI<|sM rfl<|sM rfl<|sE (.d (.int .i64 (a1.length : Int))) (lenMap _ _)<|sF h (fun h => ?_) fun h => ?_
    ·refine sM rfl<|sM rfl<|sM rfl<|bE h fun x30 hx30 h => WO.eltG hx30 rfl rfl rfl rfl rfl rfl rfl rfl<|bE h fun x31 hx31 h => WO.loadE hx31 rfl rfl rfl rfl rfl rfl<|sV (.d (.bool (decide (x31 < (0 : Int)))))<|sF h (fun h => ?_) fun h => ?_
     ·refine sM rfl<|sM rfl<|sM rfl<|bE h fun x33 hx33 h => WO.elemG hx33 rfl rfl rfl rfl rfl rfl rfl rfl rfl<|sV (.cptr [.bool x33.fWithdrawn, .str x33.fName.fSource.fNetwork, .str x33.fName.fSource.fStation, .str x33.fName.fSource.fLocation, .str x33.fName.fSource.fChannel, .int .i64 x33.fName.fTime, .int .i64 x33.fName.fEarly, .int .i64 x33.fName.fLate, .int .i64 x33.fName.fAmplitude, .int .i64 x33.fName.fPolarity, .int .i64 x33.fLevel, .str x33.fEvent.fName.fSource.fNetwork, .str x33.fEvent.fName.fSource.fStation, .str x33.fEvent.fName.fSource.fLocation, .str x33.fEvent.fName.fSource.fChannel, .int .i64 x33.fEvent.fName.fTime, .int .i64 x33.fEvent.fName.fEarly, .int .i64 x33.fEvent.fName.fLate, .int .i64 x33.fEvent.fName.fAmplitude, .int .i64 x33.fEvent.fName.fPolarity, .lst (x33.fEvent.fSolution.fPicks.map T_api_Pick.pd), .int .i64 x33.fEvent.fSolution.fLocation.fPoint.fX, .int .i64 x33.fEvent.fSolution.fLocation.fPoint.fY, .int .i64 x33.fEvent.fSolution.fLocation.fPoint.fZ, .int .i64 x33.fEvent.fSolution.fLocation.fTime, .int .i64 x33.fEvent.fSolution.fLocation.fMisfit, .int .i64 x33.fEvent.fSolution.fLocation.fLower, .int .i64 x33.fEvent.fSolution.fLocation.fArea.fLow.fX, .int .i64 x33.fEvent.fSolution.fLocation.fArea.fLow.fY, .int .i64 x33.fEvent.fSolution.fLocation.fArea.fLow.fZ, .int .i64 x33.fEvent.fSolution.fLocation.fArea.fHigh.fX, .int .i64 x33.fEvent.fSolution.fLocation.fArea.fHigh.fY, .int .i64 x33.fEvent.fSolution.fLocation.fArea.fHigh.fZ, .int .i64 x33.fEvent.fSolution.fMagnitude.fLow, .int .i64 x33.fEvent.fSolution.fMagnitude.fHigh, .int .i64 x33.fEvent.fSolution.fCount, .int .i64 x33.fAt])<|sC rfl<|sV (.d (.bool (!x33.fWithdrawn)))<|sF h (fun h => ?_) fun h => ?_
      ·refine sN<|cT<|qK<|qS<|qB<|WC.regionDSeq rfl rfl<|sM rfl<|sM rfl<|bE h fun x35 hx35 h => cR (.d (.bool x35.1)) [(560, .arr 0 3 (x35.2.map (PD.int .i64)))] (ref36_inq_ev hx35)<|sF h (fun h => ?_) fun h => ?_
       ·refine sM rfl<|sM rfl<|sM rfl<|bE h fun x37 hx37 h => WO.elemG hx37 rfl rfl rfl rfl rfl rfl rfl rfl rfl<|sV (.cptr [.str x37.fEvent.fName.fSource.fNetwork, .str x37.fEvent.fName.fSource.fStation, .str x37.fEvent.fName.fSource.fLocation, .str x37.fEvent.fName.fSource.fChannel, .int .i64 x37.fEvent.fName.fTime, .int .i64 x37.fEvent.fName.fEarly, .int .i64 x37.fEvent.fName.fLate, .int .i64 x37.fEvent.fName.fAmplitude, .int .i64 x37.fEvent.fName.fPolarity, .lst (x37.fEvent.fSolution.fPicks.map T_api_Pick.pd), .int .i64 x37.fEvent.fSolution.fLocation.fPoint.fX, .int .i64 x37.fEvent.fSolution.fLocation.fPoint.fY, .int .i64 x37.fEvent.fSolution.fLocation.fPoint.fZ, .int .i64 x37.fEvent.fSolution.fLocation.fTime, .int .i64 x37.fEvent.fSolution.fLocation.fMisfit, .int .i64 x37.fEvent.fSolution.fLocation.fLower, .int .i64 x37.fEvent.fSolution.fLocation.fArea.fLow.fX, .int .i64 x37.fEvent.fSolution.fLocation.fArea.fLow.fY, .int .i64 x37.fEvent.fSolution.fLocation.fArea.fLow.fZ, .int .i64 x37.fEvent.fSolution.fLocation.fArea.fHigh.fX, .int .i64 x37.fEvent.fSolution.fLocation.fArea.fHigh.fY, .int .i64 x37.fEvent.fSolution.fLocation.fArea.fHigh.fZ, .int .i64 x37.fEvent.fSolution.fMagnitude.fLow, .int .i64 x37.fEvent.fSolution.fMagnitude.fHigh, .int .i64 x37.fEvent.fSolution.fCount, .int .i64 x37.fAt])<|sV (.cptr [.lst (x37.fEvent.fSolution.fPicks.map T_api_Pick.pd), .int .i64 x37.fEvent.fSolution.fLocation.fPoint.fX, .int .i64 x37.fEvent.fSolution.fLocation.fPoint.fY, .int .i64 x37.fEvent.fSolution.fLocation.fPoint.fZ, .int .i64 x37.fEvent.fSolution.fLocation.fTime, .int .i64 x37.fEvent.fSolution.fLocation.fMisfit, .int .i64 x37.fEvent.fSolution.fLocation.fLower, .int .i64 x37.fEvent.fSolution.fLocation.fArea.fLow.fX, .int .i64 x37.fEvent.fSolution.fLocation.fArea.fLow.fY, .int .i64 x37.fEvent.fSolution.fLocation.fArea.fLow.fZ, .int .i64 x37.fEvent.fSolution.fLocation.fArea.fHigh.fX, .int .i64 x37.fEvent.fSolution.fLocation.fArea.fHigh.fY, .int .i64 x37.fEvent.fSolution.fLocation.fArea.fHigh.fZ, .int .i64 x37.fEvent.fSolution.fMagnitude.fLow, .int .i64 x37.fEvent.fSolution.fMagnitude.fHigh, .int .i64 x37.fEvent.fSolution.fCount, .int .i64 x37.fAt])<|sV (.cptr [.lst (x37.fEvent.fSolution.fPicks.map T_api_Pick.pd), .int .i64 x37.fEvent.fSolution.fLocation.fPoint.fX, .int .i64 x37.fEvent.fSolution.fLocation.fPoint.fY, .int .i64 x37.fEvent.fSolution.fLocation.fPoint.fZ, .int .i64 x37.fEvent.fSolution.fLocation.fTime, .int .i64 x37.fEvent.fSolution.fLocation.fMisfit, .int .i64 x37.fEvent.fSolution.fLocation.fLower, .int .i64 x37.fEvent.fSolution.fLocation.fArea.fLow.fX, .int .i64 x37.fEvent.fSolution.fLocation.fArea.fLow.fY, .int .i64 x37.fEvent.fSolution.fLocation.fArea.fLow.fZ, .int .i64 x37.fEvent.fSolution.fLocation.fArea.fHigh.fX, .int .i64 x37.fEvent.fSolution.fLocation.fArea.fHigh.fY, .int .i64 x37.fEvent.fSolution.fLocation.fArea.fHigh.fZ, .int .i64 x37.fEvent.fSolution.fMagnitude.fLow, .int .i64 x37.fEvent.fSolution.fMagnitude.fHigh, .int .i64 x37.fEvent.fSolution.fCount, .int .i64 x37.fAt])<|sC rfl<|sM rfl<|sM rfl<|bE h fun x38 hx38 h => WO.elemG hx38 rfl rfl rfl rfl rfl rfl rfl rfl rfl<|sV (.cptr [.lst (x38.fSolution.fPicks.map T_api_Pick.pd), .int .i64 x38.fSolution.fLocation.fPoint.fX, .int .i64 x38.fSolution.fLocation.fPoint.fY, .int .i64 x38.fSolution.fLocation.fPoint.fZ, .int .i64 x38.fSolution.fLocation.fTime, .int .i64 x38.fSolution.fLocation.fMisfit, .int .i64 x38.fSolution.fLocation.fLower, .int .i64 x38.fSolution.fLocation.fArea.fLow.fX, .int .i64 x38.fSolution.fLocation.fArea.fLow.fY, .int .i64 x38.fSolution.fLocation.fArea.fLow.fZ, .int .i64 x38.fSolution.fLocation.fArea.fHigh.fX, .int .i64 x38.fSolution.fLocation.fArea.fHigh.fY, .int .i64 x38.fSolution.fLocation.fArea.fHigh.fZ, .int .i64 x38.fSolution.fMagnitude.fLow, .int .i64 x38.fSolution.fMagnitude.fHigh, .int .i64 x38.fSolution.fCount])<|sV (.cptr [.lst (x38.fSolution.fPicks.map T_api_Pick.pd), .int .i64 x38.fSolution.fLocation.fPoint.fX, .int .i64 x38.fSolution.fLocation.fPoint.fY, .int .i64 x38.fSolution.fLocation.fPoint.fZ, .int .i64 x38.fSolution.fLocation.fTime, .int .i64 x38.fSolution.fLocation.fMisfit, .int .i64 x38.fSolution.fLocation.fLower, .int .i64 x38.fSolution.fLocation.fArea.fLow.fX, .int .i64 x38.fSolution.fLocation.fArea.fLow.fY, .int .i64 x38.fSolution.fLocation.fArea.fLow.fZ, .int .i64 x38.fSolution.fLocation.fArea.fHigh.fX, .int .i64 x38.fSolution.fLocation.fArea.fHigh.fY, .int .i64 x38.fSolution.fLocation.fArea.fHigh.fZ, .int .i64 x38.fSolution.fMagnitude.fLow, .int .i64 x38.fSolution.fMagnitude.fHigh, .int .i64 x38.fSolution.fCount]) ?_
        refine sC rfl<|bE h fun x39 hx39 h => cD (ref36_common_ev hx39)<|sF h (fun h => ?_) fun h => ?_
        ·refine sN<|sO<|cT<|WC.region rfl rfl<|sM rfl<|sM rfl<|sM rfl<|bE h fun x42 hx42 h => WO.eltG hx42 rfl rfl rfl rfl rfl rfl rfl rfl<|bE h fun x43 hx43 h => WO.storeE (g := (PD.int .i64)) (sz := 1) (p := .int .i64 s23) hx43 (fun _ => rfl) (fun _ => rfl) rfl rfl rfl rfl rfl rfl rfl rfl rfl<|sN<|WC.region rfl rfl<|sM rfl<|sV (.d (.int .i64 (IntKind.wrap .i64 (s23 + (1 : Int)))))<|sA rfl ?_
         refine sN ?_
         obtain rfl:=oI h
         exact ⟨rfl, rfl⟩
        refine sN<|sO<|cF<|qK<|WC.region rfl rfl<|sM rfl<|sV (.d (.int .i64 (IntKind.wrap .i64 (s23 + (1 : Int)))))<|sA rfl<|sN ?_
        obtain rfl:=oI h
        exact ⟨rfl, rfl⟩
       refine sM rfl<|sK<|sK<|sK<|sK<|sK<|sK<|sK<|sK<|sK<|sK<|sK<|sK<|sK<|sK ?_
       refine sU ?_
       refine sN<|sO<|cF<|qK<|WC.region rfl rfl<|sM rfl<|sV (.d (.int .i64 (IntKind.wrap .i64 (s23 + (1 : Int)))))<|sA rfl<|sN ?_
       obtain rfl:=oI h
       exact ⟨rfl, rfl⟩
      refine sN<|cF<|qX ?_
      obtain rfl:=oI h
      exact ⟨(fun he => by cases he), rfl, rfl⟩
     refine sM rfl<|sK<|sK<|sK<|sK<|sK<|sK<|sU<|sN<|cF<|qX ?_
     obtain rfl:=oI h
     exact ⟨(fun he => by cases he), rfl, rfl⟩
    refine sM rfl<|sK<|sK<|sK<|sK<|sK<|sU<|sM rfl<|sK<|sK<|sK<|sK<|sK<|sK<|sU ?_
    refine sN<|cF<|qX ?_
    obtain rfl:=oI h
    exact ⟨(fun he => by cases he), rfl, rfl⟩
   intro e R' B' he hq
   obtain ⟨rfl, hI⟩ := hq
   refine qE<|WC.region hI rfl<|sM rfl<|sV (.d (.int .i64 (IntKind.wrap .i64 (o45.1 + (1 : Int)))))<|sA rfl<|sN ?_
   obtain rfl:=oI h
   exact ⟨rfl, rfl⟩
  refine sN<|cF<|qX ?_
  obtain rfl:=oI h
  exact ⟨(fun he => by cases he), rfl, rfl⟩
 intro e R' B' he hq
 obtain ⟨rfl, hI⟩ := hq
 refine qE<|gS rfl hI<|sM rfl<|sA rfl<|sN<|qR ?_
 obtain rfl:=oI h
 exact qD
theorem ref35_Meets_ev {a0 : T_api_Rule} {a1 : T_api_Event} {r : Bool} (h : ref35_Meets a0 a1 = some r) : EvP prog hints ext 100 [.d (T_api_Rule.pd a0), .d (T_api_Event.pd a1)] [] (.d (.bool r), []) := by
 refine Ev.body rfl Tryz.func100 rfl (by kernel_rfl)<|gS rfl rfl<|sB (.ptr 32 0) 32 (.var [.d (.int .i64 a0.fMagnitude), .d (.int .i64 a0.fPicks), .d (.int .i64 a0.fMisfit), .d (.int .i64 a0.fWindow)])<|sB (.ptr 48 0) 48 (.var [.d (.str a1.fName.fSource.fNetwork), .d (.str a1.fName.fSource.fStation), .d (.str a1.fName.fSource.fLocation), .d (.str a1.fName.fSource.fChannel), .d (.int .i64 a1.fName.fTime), .d (.int .i64 a1.fName.fEarly), .d (.int .i64 a1.fName.fLate), .d (.int .i64 a1.fName.fAmplitude), .d (.int .i64 a1.fName.fPolarity), .d (.lst (a1.fSolution.fPicks.map T_api_Pick.pd)), .d (.int .i64 a1.fSolution.fLocation.fPoint.fX), .d (.int .i64 a1.fSolution.fLocation.fPoint.fY), .d (.int .i64 a1.fSolution.fLocation.fPoint.fZ), .d (.int .i64 a1.fSolution.fLocation.fTime), .d (.int .i64 a1.fSolution.fLocation.fMisfit), .d (.int .i64 a1.fSolution.fLocation.fLower), .d (.int .i64 a1.fSolution.fLocation.fArea.fLow.fX), .d (.int .i64 a1.fSolution.fLocation.fArea.fLow.fY), .d (.int .i64 a1.fSolution.fLocation.fArea.fLow.fZ), .d (.int .i64 a1.fSolution.fLocation.fArea.fHigh.fX), .d (.int .i64 a1.fSolution.fLocation.fArea.fHigh.fY), .d (.int .i64 a1.fSolution.fLocation.fArea.fHigh.fZ), .d (.int .i64 a1.fSolution.fMagnitude.fLow), .d (.int .i64 a1.fSolution.fMagnitude.fHigh), .d (.int .i64 a1.fSolution.fCount)])<|sU<|sN<|gS rfl rfl<|sV (.ptr 48 9)<|sV (.d (T_api_Solution.pd a1.fSolution))<|sB (.ptr 80 0) 80 (.var [.nils, .d (.int .i64 0), .d (.int .i64 0), .d (.int .i64 0), .d (.int .i64 0), .d (.int .i64 0), .d (.int .i64 0), .d (.int .i64 0), .d (.int .i64 0), .d (.int .i64 0), .d (.int .i64 0), .d (.int .i64 0), .d (.int .i64 0), .d (.int .i64 0), .d (.int .i64 0), .d (.int .i64 0)])<|sH 80 (.var [.d (.lst (a1.fSolution.fPicks.map T_api_Pick.pd)), .d (.int .i64 a1.fSolution.fLocation.fPoint.fX), .d (.int .i64 a1.fSolution.fLocation.fPoint.fY), .d (.int .i64 a1.fSolution.fLocation.fPoint.fZ), .d (.int .i64 a1.fSolution.fLocation.fTime), .d (.int .i64 a1.fSolution.fLocation.fMisfit), .d (.int .i64 a1.fSolution.fLocation.fLower), .d (.int .i64 a1.fSolution.fLocation.fArea.fLow.fX), .d (.int .i64 a1.fSolution.fLocation.fArea.fLow.fY), .d (.int .i64 a1.fSolution.fLocation.fArea.fLow.fZ), .d (.int .i64 a1.fSolution.fLocation.fArea.fHigh.fX), .d (.int .i64 a1.fSolution.fLocation.fArea.fHigh.fY), .d (.int .i64 a1.fSolution.fLocation.fArea.fHigh.fZ), .d (.int .i64 a1.fSolution.fMagnitude.fLow), .d (.int .i64 a1.fSolution.fMagnitude.fHigh), .d (.int .i64 a1.fSolution.fCount)])<|sN<|gS rfl rfl<|sV (.ptr 80 15)<|sL rfl ?_
 refine sF h (fun h => ?_) fun h => ?_
 ·refine sM rfl<|sV (.ptr 80 13)<|sV (.ptr 80 13)<|sL rfl<|sV (.ptr 32 0)<|sL rfl<|sV (.d (.bool (decide (a1.fSolution.fMagnitude.fLow ≥ a0.fMagnitude))))<|sF h (fun h => ?_) fun h => ?_
  ·refine sM rfl<|sV (.ptr 80 0)<|sL rfl<|sE (.d (.int .i64 (a1.fSolution.fPicks.length : Int))) (lenMap _ _)<|sV (.ptr 32 1)<|sL rfl<|sV (.d (.bool (decide ((a1.fSolution.fPicks.length : Int) ≥ a0.fPicks))))<|sF h (fun h => ?_) fun h => ?_
   ·refine sM rfl<|sV (.ptr 80 1)<|sV (.ptr 80 5)<|sL rfl<|sV (.ptr 32 2)<|sL rfl<|sV (.d (.bool (decide (a1.fSolution.fLocation.fMisfit ≤ a0.fMisfit))))<|sV (.d (.bool (decide (a1.fSolution.fLocation.fMisfit ≤ a0.fMisfit))))<|sA rfl<|sN<|qR ?_
    obtain rfl:=oI h
    exact qG
   refine sM rfl<|sK<|sK<|sK<|sK<|sK<|sK<|sU<|sA rfl<|sN<|qR ?_
   obtain rfl:=oI h
   exact qG
  refine sM rfl<|sK<|sK<|sK<|sK<|sK<|sK<|sU<|sM rfl<|sK<|sK<|sK<|sK<|sK<|sK ?_
  refine sU<|sA rfl<|sN<|qR ?_
  obtain rfl:=oI h
  exact qG
 refine sM rfl<|sK<|sK<|sK<|sK<|sK<|sK<|sU<|sM rfl<|sK<|sK<|sK<|sK<|sK<|sK ?_
 refine sU<|sM rfl<|sK<|sK<|sK<|sK<|sK<|sK<|sU<|sA rfl<|sN<|qR ?_
 obtain rfl:=oI h
 exact qG
theorem ref35_Level_ev {a0 : T_api_Policy} {a1 : T_api_Event} {r : Int} (h : ref35_Level a0 a1 = some r) : EvP prog hints ext 62 [.d (T_api_Policy.pd a0), .d (T_api_Event.pd a1)] [] (.d (.int .i64 r), []) := by
 refine Ev.body rfl Tryz.func62 rfl (by kernel_rfl)<|gS rfl rfl<|sB (.ptr 32 0) 32 (.var [.d (.lst (a0.fRules.map T_api_Rule.pd)), .d (.int .i64 a0.fDistance), .d (.int .i64 a0.fEvery)])<|sB (.ptr 48 0) 48 (.var [.d (.str a1.fName.fSource.fNetwork), .d (.str a1.fName.fSource.fStation), .d (.str a1.fName.fSource.fLocation), .d (.str a1.fName.fSource.fChannel), .d (.int .i64 a1.fName.fTime), .d (.int .i64 a1.fName.fEarly), .d (.int .i64 a1.fName.fLate), .d (.int .i64 a1.fName.fAmplitude), .d (.int .i64 a1.fName.fPolarity), .d (.lst (a1.fSolution.fPicks.map T_api_Pick.pd)), .d (.int .i64 a1.fSolution.fLocation.fPoint.fX), .d (.int .i64 a1.fSolution.fLocation.fPoint.fY), .d (.int .i64 a1.fSolution.fLocation.fPoint.fZ), .d (.int .i64 a1.fSolution.fLocation.fTime), .d (.int .i64 a1.fSolution.fLocation.fMisfit), .d (.int .i64 a1.fSolution.fLocation.fLower), .d (.int .i64 a1.fSolution.fLocation.fArea.fLow.fX), .d (.int .i64 a1.fSolution.fLocation.fArea.fLow.fY), .d (.int .i64 a1.fSolution.fLocation.fArea.fLow.fZ), .d (.int .i64 a1.fSolution.fLocation.fArea.fHigh.fX), .d (.int .i64 a1.fSolution.fLocation.fArea.fHigh.fY), .d (.int .i64 a1.fSolution.fLocation.fArea.fHigh.fZ), .d (.int .i64 a1.fSolution.fMagnitude.fLow), .d (.int .i64 a1.fSolution.fMagnitude.fHigh), .d (.int .i64 a1.fSolution.fCount)])<|sV (.d (.int .i64 0))<|sN<|gS rfl rfl<|sV (.d (.int .i64 0))<|sN<|qS<|gS rfl rfl<|sV (.d (.int .i64 0))<|sN<|bE h fun o12 ho12 h => WC.block (WC.loop (WL.ofLoop ho12 (fun s R' B' => ghosts prog 0 (A R' B') (hints.at_ 62 0 3) = some (A [(2, .ptr 32 0), (3, .ptr 48 0), (5, .d (.int .i64 s.1)), (6, .d (.int .i64 s.2))] [(32, .var [.d (.lst (a0.fRules.map T_api_Rule.pd)), .d (.int .i64 a0.fDistance), .d (.int .i64 a0.fEvery)]), (48, .var [.d (.str a1.fName.fSource.fNetwork), .d (.str a1.fName.fSource.fStation), .d (.str a1.fName.fSource.fLocation), .d (.str a1.fName.fSource.fChannel), .d (.int .i64 a1.fName.fTime), .d (.int .i64 a1.fName.fEarly), .d (.int .i64 a1.fName.fLate), .d (.int .i64 a1.fName.fAmplitude), .d (.int .i64 a1.fName.fPolarity), .d (.lst (a1.fSolution.fPicks.map T_api_Pick.pd)), .d (.int .i64 a1.fSolution.fLocation.fPoint.fX), .d (.int .i64 a1.fSolution.fLocation.fPoint.fY), .d (.int .i64 a1.fSolution.fLocation.fPoint.fZ), .d (.int .i64 a1.fSolution.fLocation.fTime), .d (.int .i64 a1.fSolution.fLocation.fMisfit), .d (.int .i64 a1.fSolution.fLocation.fLower), .d (.int .i64 a1.fSolution.fLocation.fArea.fLow.fX), .d (.int .i64 a1.fSolution.fLocation.fArea.fLow.fY), .d (.int .i64 a1.fSolution.fLocation.fArea.fLow.fZ), .d (.int .i64 a1.fSolution.fLocation.fArea.fHigh.fX), .d (.int .i64 a1.fSolution.fLocation.fArea.fHigh.fY), .d (.int .i64 a1.fSolution.fLocation.fArea.fHigh.fZ), .d (.int .i64 a1.fSolution.fMagnitude.fLow), .d (.int .i64 a1.fSolution.fMagnitude.fHigh), .d (.int .i64 a1.fSolution.fCount)])])) (fun o e R' B' => e = .exit 0 ∧ ghosts prog 0 (A R' B') (hints.at_ 62 0 7) = some (A [(5, .d (.int .i64 o))] [])) rfl ?_ ?_))
 ·rintro ⟨s1, s2⟩ R' B' q4 hI h
  refine qS<|gS rfl hI<|sM rfl<|sV (.ptr 32 0)<|sL rfl<|sE (.d (.int .i64 (a0.fRules.length : Int))) (lenMap _ _)<|sF h (fun h => ?_) fun h => ?_
  ·refine sM rfl<|sV (.d (T_api_Policy.pd a0))<|bE h fun x6 hx6 h => cD (ref35_Validate_ev hx6)<|sV (.d (.bool (x6 == (0 : Int))))<|sF h (fun h => ?_) fun h => ?_
   ·refine sN<|cT<|qK<|qS<|qB<|WC.regionDSeq rfl rfl<|sV (.ptr 32 0)<|sL rfl<|sM rfl<|bE h fun x8 hx8 h => WO.elemG hx8 rfl rfl rfl rfl rfl rfl rfl rfl rfl<|sV (.d (T_api_Rule.pd x8))<|sV (.d (T_api_Event.pd a1))<|bE h fun x9 hx9 h => ite_elim h (fun hb10 h => ?_) (fun hb10 h => ?_)
    ·refine WO.callR (v := .d (.bool true)) (u := []) rfl rfl (fun _ => rfl) rfl rfl rfl rfl rfl (ref35_Meets_ev hx9) rfl rfl (congrArg (fun b => RV.d (.bool b)) hb10) rfl ?_
     refine sN<|sO<|cT<|WC.region rfl rfl<|sM rfl<|sV (.d (.int .i64 (IntKind.wrap .i64 (s2 + (1 : Int)))))<|sA rfl<|sN<|WC.region rfl rfl<|sM rfl<|sV (.d (.int .i64 (IntKind.wrap .i64 (s2 + (1 : Int)))))<|sA rfl<|sN ?_
     obtain rfl:=oI h
     exact ⟨rfl, rfl⟩
    refine WO.callR (v := .d (.bool false)) (u := []) rfl rfl (fun _ => rfl) rfl rfl rfl rfl rfl (ref35_Meets_ev hx9) rfl rfl (congrArg (fun b => RV.d (.bool b)) hb10) rfl ?_
    refine sN<|sO<|cF<|qK<|WC.region rfl rfl<|sM rfl<|sV (.d (.int .i64 (IntKind.wrap .i64 (s2 + (1 : Int)))))<|sA rfl<|sN ?_
    obtain rfl:=oI h
    exact ⟨rfl, rfl⟩
   refine sN<|cF<|qX ?_
   obtain rfl:=oI h
   exact ⟨(fun he => by cases he), rfl, rfl⟩
  refine sM rfl<|sK<|sK<|sK<|sU<|sN<|cF<|qX ?_
  obtain rfl:=oI h
  exact ⟨(fun he => by cases he), rfl, rfl⟩
 intro e R' B' he hq
 obtain ⟨rfl, hI⟩ := hq
 refine qE<|gS rfl hI<|sM rfl<|sA rfl<|sN<|qR ?_
 obtain rfl:=oI h
 exact qD
theorem ref32_Agree_ev {a0 : T_api_Estimate} {a1 : T_api_Estimate} {r : Bool} (h : ref32_Agree a0 a1 = some r) : EvP prog hints ext 101 [.d (T_api_Estimate.pd a0), .d (T_api_Estimate.pd a1)] [] (.d (.bool r), []) := by
 refine Ev.body rfl Tryz.func101 rfl (by kernel_rfl)<|gS rfl rfl<|sB (.ptr 32 0) 32 (.var [.d (.int .i64 a0.fLow), .d (.int .i64 a0.fHigh)])<|sB (.ptr 48 0) 48 (.var [.d (.int .i64 a1.fLow), .d (.int .i64 a1.fHigh)])<|sU<|sN<|gS rfl rfl<|sV (.ptr 32 0)<|sL rfl<|sV (.ptr 48 0)<|sL rfl<|sV (.d (.int .i64 (if a1.fLow > a0.fLow then a1.fLow else a0.fLow)))<|sV (.ptr 32 1)<|sL rfl<|sV (.ptr 48 1) ?_
 refine sL rfl<|sV (.d (.int .i64 (if a1.fHigh < a0.fHigh then a1.fHigh else a0.fHigh)))<|sV (.d (.bool (decide ((if a1.fLow > a0.fLow then a1.fLow else a0.fLow) ≤ (if a1.fHigh < a0.fHigh then a1.fHigh else a0.fHigh)))))<|sA rfl<|sN<|qR ?_
 obtain rfl:=oI h
 exact qD
theorem ref24_Valid_ev {a0 : T_api_Position} {r : Bool} (h : ref24_Valid a0 = some r) : EvP prog hints ext 135 [.d (T_api_Position.pd a0)] [] (.d (.bool r), []) := by
 refine Ev.body rfl Tryz.func135 rfl (by kernel_rfl)<|gS rfl rfl<|sB (.ptr 16 0) 16 (.var [.d (.int .i64 a0.fX), .d (.int .i64 a0.fY), .d (.int .i64 a0.fZ)])<|sU<|sN<|gS rfl rfl<|sV (.ptr 16 0)<|sL rfl<|sF h (fun h => ?_) fun h => ?_
 ·refine sM rfl<|sV (.ptr 16 0)<|sL rfl<|sV (.d (.bool (decide (a0.fX ≤ (1048576 : Int)))))<|sF h (fun h => ?_) fun h => ?_
  ·refine sM rfl<|sV (.ptr 16 1)<|sL rfl<|sV (.d (.bool (decide (a0.fY ≥ (-1048576 : Int)))))<|sF h (fun h => ?_) fun h => ?_
   ·refine sM rfl<|sV (.ptr 16 1)<|sL rfl<|sV (.d (.bool (decide (a0.fY ≤ (1048576 : Int)))))<|sF h (fun h => ?_) fun h => ?_
    ·refine sM rfl<|sV (.ptr 16 2)<|sL rfl<|sV (.d (.bool (decide (a0.fZ ≥ (-16384 : Int)))))<|sF h (fun h => ?_) fun h => ?_
     ·refine sM rfl<|sV (.ptr 16 2)<|sL rfl<|sV (.d (.bool (decide (a0.fZ ≤ (1048576 : Int)))))<|sV (.d (.bool (decide (a0.fZ ≤ (1048576 : Int)))))<|sA rfl<|sN<|qR ?_
      obtain rfl:=oI h
      exact qD
     refine sM rfl<|sK<|sK<|sK<|sU<|sA rfl<|sN<|qR ?_
     obtain rfl:=oI h
     exact qD
    refine sM rfl<|sK<|sK<|sK<|sU<|sM rfl<|sK<|sK<|sK<|sU<|sA rfl<|sN<|qR ?_
    obtain rfl:=oI h
    exact qD
   refine sM rfl<|sK<|sK<|sK<|sU<|sM rfl<|sK<|sK<|sK<|sU<|sM rfl<|sK<|sK<|sK<|sU ?_
   refine sA rfl<|sN<|qR ?_
   obtain rfl:=oI h
   exact qD
  refine sM rfl<|sK<|sK<|sK<|sU<|sM rfl<|sK<|sK<|sK<|sU<|sM rfl<|sK<|sK<|sK<|sU ?_
  refine sM rfl<|sK<|sK<|sK<|sU<|sA rfl<|sN<|qR ?_
  obtain rfl:=oI h
  exact qD
 refine sM rfl<|sK<|sK<|sK<|sU<|sM rfl<|sK<|sK<|sK<|sU<|sM rfl<|sK<|sK<|sK<|sU ?_
 refine sM rfl<|sK<|sK<|sK<|sU<|sM rfl<|sK<|sK<|sK<|sU<|sA rfl<|sN<|qR ?_
 obtain rfl:=oI h
 exact qD
theorem ref24_square_ev {a0 : Int} {r : Int} (h : ref24_square a0 = some r) : EvP prog hints ext 136 [.d (.int .i64 a0)] [] (.d (.int .i64 r), []) := by
 refine Ev.body rfl Tryz.func136 rfl (by kernel_rfl)<|gS rfl rfl<|sV (.d (.int .i64 0))<|sN<|gS rfl rfl<|sM rfl<|sM rfl<|sV (.d (.int .i64 (IntKind.wrap .i64 (a0 * a0))))<|sA rfl<|sN<|qR ?_
 obtain rfl:=oI h
 exact qD
theorem ref24_Square_ev {a0 : T_api_Position} {a1 : T_api_Position} {r : Int} (h : ref24_Square a0 a1 = some r) : EvP prog hints ext 102 [.d (T_api_Position.pd a0), .d (T_api_Position.pd a1)] [] (.d (.int .i64 r), []) := by
 refine Ev.body rfl Tryz.func102 rfl (by kernel_rfl)<|gS rfl rfl<|sB (.ptr 32 0) 32 (.var [.d (.int .i64 a0.fX), .d (.int .i64 a0.fY), .d (.int .i64 a0.fZ)])<|sB (.ptr 48 0) 48 (.var [.d (.int .i64 a1.fX), .d (.int .i64 a1.fY), .d (.int .i64 a1.fZ)])<|sV (.d (.int .i64 0))<|sN<|qS<|gS rfl rfl<|sV (.d (T_api_Position.pd a0))<|bE h fun x1 hx1 h => cD (ref24_Valid_ev hx1)<|sF h (fun h => ?_) fun h => ?_
 ·refine sM rfl<|sK<|sK<|sK<|sT<|sN<|cT<|gS rfl rfl<|sV (.d (.int .i64 0))<|sN<|qR ?_
  obtain rfl:=oI h
  exact qD
 refine sM rfl<|sV (.d (T_api_Position.pd a1))<|bE h fun x3 hx3 h => cD (ref24_Valid_ev hx3)<|sV (.d (.bool (!x3)))<|sF h (fun h => ?_) fun h => ?_
 ·refine sN<|cT<|gS rfl rfl<|sV (.d (.int .i64 0))<|sN<|qR ?_
  obtain rfl:=oI h
  exact qD
 refine sN<|cF<|qK<|WC.regionDSeq rfl rfl<|sV (.ptr 32 0)<|sL rfl<|sV (.ptr 48 0)<|sL rfl<|sV (.d (.int .i64 (IntKind.wrap .i64 (a0.fX - a1.fX))))<|bE h fun x5 hx5 h => cD (ref24_square_ev hx5)<|sV (.ptr 32 1)<|sL rfl<|sV (.ptr 48 1)<|sL rfl ?_
 refine sV (.d (.int .i64 (IntKind.wrap .i64 (a0.fY - a1.fY))))<|bE h fun x6 hx6 h => cD (ref24_square_ev hx6)<|sV (.d (.int .i64 (IntKind.wrap .i64 (x5 + x6))))<|sV (.ptr 32 2)<|sL rfl<|sV (.ptr 48 2)<|sL rfl<|sV (.d (.int .i64 (IntKind.wrap .i64 (a0.fZ - a1.fZ))))<|bE h fun x7 hx7 h => cD (ref24_square_ev hx7)<|sV (.d (.int .i64 (IntKind.wrap .i64 ((IntKind.wrap .i64 (x5 + x6)) + x7))))<|sA rfl ?_
 refine sN<|sO<|qR ?_
 obtain rfl:=oI h
 exact qD
theorem ref35_Moved_ev {a0 : T_api_Policy} {a1 : T_api_Event} {a2 : T_api_Event} {r : Bool} (h : ref35_Moved a0 a1 a2 = some r) : EvP prog hints ext 63 [.d (T_api_Policy.pd a0), .d (T_api_Event.pd a1), .d (T_api_Event.pd a2)] [] (.d (.bool r), []) := by
 refine Ev.body rfl Tryz.func63 rfl (by kernel_rfl)<|gS rfl rfl<|sB (.ptr 48 0) 48 (.var [.d (.lst (a0.fRules.map T_api_Rule.pd)), .d (.int .i64 a0.fDistance), .d (.int .i64 a0.fEvery)])<|sB (.ptr 64 0) 64 (.var [.d (.str a1.fName.fSource.fNetwork), .d (.str a1.fName.fSource.fStation), .d (.str a1.fName.fSource.fLocation), .d (.str a1.fName.fSource.fChannel), .d (.int .i64 a1.fName.fTime), .d (.int .i64 a1.fName.fEarly), .d (.int .i64 a1.fName.fLate), .d (.int .i64 a1.fName.fAmplitude), .d (.int .i64 a1.fName.fPolarity), .d (.lst (a1.fSolution.fPicks.map T_api_Pick.pd)), .d (.int .i64 a1.fSolution.fLocation.fPoint.fX), .d (.int .i64 a1.fSolution.fLocation.fPoint.fY), .d (.int .i64 a1.fSolution.fLocation.fPoint.fZ), .d (.int .i64 a1.fSolution.fLocation.fTime), .d (.int .i64 a1.fSolution.fLocation.fMisfit), .d (.int .i64 a1.fSolution.fLocation.fLower), .d (.int .i64 a1.fSolution.fLocation.fArea.fLow.fX), .d (.int .i64 a1.fSolution.fLocation.fArea.fLow.fY), .d (.int .i64 a1.fSolution.fLocation.fArea.fLow.fZ), .d (.int .i64 a1.fSolution.fLocation.fArea.fHigh.fX), .d (.int .i64 a1.fSolution.fLocation.fArea.fHigh.fY), .d (.int .i64 a1.fSolution.fLocation.fArea.fHigh.fZ), .d (.int .i64 a1.fSolution.fMagnitude.fLow), .d (.int .i64 a1.fSolution.fMagnitude.fHigh), .d (.int .i64 a1.fSolution.fCount)])<|sB (.ptr 80 0) 80 (.var [.d (.str a2.fName.fSource.fNetwork), .d (.str a2.fName.fSource.fStation), .d (.str a2.fName.fSource.fLocation), .d (.str a2.fName.fSource.fChannel), .d (.int .i64 a2.fName.fTime), .d (.int .i64 a2.fName.fEarly), .d (.int .i64 a2.fName.fLate), .d (.int .i64 a2.fName.fAmplitude), .d (.int .i64 a2.fName.fPolarity), .d (.lst (a2.fSolution.fPicks.map T_api_Pick.pd)), .d (.int .i64 a2.fSolution.fLocation.fPoint.fX), .d (.int .i64 a2.fSolution.fLocation.fPoint.fY), .d (.int .i64 a2.fSolution.fLocation.fPoint.fZ), .d (.int .i64 a2.fSolution.fLocation.fTime), .d (.int .i64 a2.fSolution.fLocation.fMisfit), .d (.int .i64 a2.fSolution.fLocation.fLower), .d (.int .i64 a2.fSolution.fLocation.fArea.fLow.fX), .d (.int .i64 a2.fSolution.fLocation.fArea.fLow.fY), .d (.int .i64 a2.fSolution.fLocation.fArea.fLow.fZ), .d (.int .i64 a2.fSolution.fLocation.fArea.fHigh.fX), .d (.int .i64 a2.fSolution.fLocation.fArea.fHigh.fY), .d (.int .i64 a2.fSolution.fLocation.fArea.fHigh.fZ), .d (.int .i64 a2.fSolution.fMagnitude.fLow), .d (.int .i64 a2.fSolution.fMagnitude.fHigh), .d (.int .i64 a2.fSolution.fCount)])<|sU<|sN<|qS<|gS rfl rfl<|sV (.d (T_api_Policy.pd a0))<|bE h fun x1 hx1 h => cD (ref35_Validate_ev hx1)<|sF h (fun h => ?_) fun h => ?_
 ·refine sN<|cT<|gS rfl rfl<|sU<|sN<|qR ?_
  obtain rfl:=oI h
  exact qG
 refine sN<|cF<|qK<|WC.regionDSeq rfl rfl<|sV (.ptr 64 9)<|sV (.ptr 64 10)<|sV (.d (T_api_Location.pd a1.fSolution.fLocation))<|sV (.ptr 80 9)<|sV (.ptr 80 10)<|sV (.d (T_api_Location.pd a2.fSolution.fLocation))<|sB (.ptr 112 0) 112 (.var [.d (.int .i64 0), .d (.int .i64 0), .d (.int .i64 0), .d (.int .i64 0), .d (.int .i64 0), .d (.int .i64 0), .d (.int .i64 0), .d (.int .i64 0), .d (.int .i64 0), .d (.int .i64 0), .d (.int .i64 0), .d (.int .i64 0)])<|sB (.ptr 128 0) 128 (.var [.d (.int .i64 0), .d (.int .i64 0), .d (.int .i64 0), .d (.int .i64 0), .d (.int .i64 0), .d (.int .i64 0), .d (.int .i64 0), .d (.int .i64 0), .d (.int .i64 0), .d (.int .i64 0), .d (.int .i64 0), .d (.int .i64 0)])<|sH 112 (.var [.d (.int .i64 a1.fSolution.fLocation.fPoint.fX), .d (.int .i64 a1.fSolution.fLocation.fPoint.fY), .d (.int .i64 a1.fSolution.fLocation.fPoint.fZ), .d (.int .i64 a1.fSolution.fLocation.fTime), .d (.int .i64 a1.fSolution.fLocation.fMisfit), .d (.int .i64 a1.fSolution.fLocation.fLower), .d (.int .i64 a1.fSolution.fLocation.fArea.fLow.fX), .d (.int .i64 a1.fSolution.fLocation.fArea.fLow.fY), .d (.int .i64 a1.fSolution.fLocation.fArea.fLow.fZ), .d (.int .i64 a1.fSolution.fLocation.fArea.fHigh.fX), .d (.int .i64 a1.fSolution.fLocation.fArea.fHigh.fY), .d (.int .i64 a1.fSolution.fLocation.fArea.fHigh.fZ)])<|sH 128 (.var [.d (.int .i64 a2.fSolution.fLocation.fPoint.fX), .d (.int .i64 a2.fSolution.fLocation.fPoint.fY), .d (.int .i64 a2.fSolution.fLocation.fPoint.fZ), .d (.int .i64 a2.fSolution.fLocation.fTime), .d (.int .i64 a2.fSolution.fLocation.fMisfit), .d (.int .i64 a2.fSolution.fLocation.fLower), .d (.int .i64 a2.fSolution.fLocation.fArea.fLow.fX), .d (.int .i64 a2.fSolution.fLocation.fArea.fLow.fY), .d (.int .i64 a2.fSolution.fLocation.fArea.fLow.fZ), .d (.int .i64 a2.fSolution.fLocation.fArea.fHigh.fX), .d (.int .i64 a2.fSolution.fLocation.fArea.fHigh.fY), .d (.int .i64 a2.fSolution.fLocation.fArea.fHigh.fZ)]) ?_
 refine sN<|sO<|qS<|WC.regionDSeq rfl rfl<|sV (.d (T_api_Policy.pd a0))<|sV (.d (T_api_Event.pd a1))<|bE h fun x3 hx3 h => cD (ref35_Level_ev hx3)<|sV (.d (T_api_Policy.pd a0))<|sV (.d (T_api_Event.pd a2))<|bE h fun x4 hx4 h => cD (ref35_Level_ev hx4)<|sF h (fun h => ?_) fun h => ?_
 ·refine sM rfl<|sK<|sK<|sK<|sK<|sK<|sK<|sK<|sK<|sT ?_
  refine sN<|sO<|cT<|gS rfl rfl<|sT<|sN<|qR ?_
  obtain rfl:=oI h
  exact qG
 refine sM rfl<|sV (.ptr 64 9)<|sV (.ptr 64 22)<|sV (.d (T_api_Estimate.pd a1.fSolution.fMagnitude))<|sV (.ptr 80 9)<|sV (.ptr 80 22)<|sV (.d (T_api_Estimate.pd a2.fSolution.fMagnitude))<|bE h fun x6 hx6 h => cD (ref32_Agree_ev hx6)<|sV (.d (.bool (!x6)))<|sF h (fun h => ?_) fun h => ?_
 ·refine sN<|sO<|cT<|gS rfl rfl<|sT<|sN<|qR ?_
  obtain rfl:=oI h
  exact qG
 refine sN<|sO<|cF<|qK<|WC.join (α := Unit) (fun x R' B' => ghosts prog 0 (A R' B') (hints.at_ 63 0 8) = some (A [(3, .ptr 48 0), (7, .ptr 112 0), (8, .ptr 128 0)] [(48, .var [.d (.lst (a0.fRules.map T_api_Rule.pd)), .d (.int .i64 a0.fDistance), .d (.int .i64 a0.fEvery)]), (112, .var [.d (.int .i64 a1.fSolution.fLocation.fPoint.fX), .d (.int .i64 a1.fSolution.fLocation.fPoint.fY), .d (.int .i64 a1.fSolution.fLocation.fPoint.fZ), .d (.int .i64 a1.fSolution.fLocation.fTime), .d (.int .i64 a1.fSolution.fLocation.fMisfit), .d (.int .i64 a1.fSolution.fLocation.fLower), .d (.int .i64 a1.fSolution.fLocation.fArea.fLow.fX), .d (.int .i64 a1.fSolution.fLocation.fArea.fLow.fY), .d (.int .i64 a1.fSolution.fLocation.fArea.fLow.fZ), .d (.int .i64 a1.fSolution.fLocation.fArea.fHigh.fX), .d (.int .i64 a1.fSolution.fLocation.fArea.fHigh.fY), .d (.int .i64 a1.fSolution.fLocation.fArea.fHigh.fZ)]), (128, .var [.d (.int .i64 a2.fSolution.fLocation.fPoint.fX), .d (.int .i64 a2.fSolution.fLocation.fPoint.fY), .d (.int .i64 a2.fSolution.fLocation.fPoint.fZ), .d (.int .i64 a2.fSolution.fLocation.fTime), .d (.int .i64 a2.fSolution.fLocation.fMisfit), .d (.int .i64 a2.fSolution.fLocation.fLower), .d (.int .i64 a2.fSolution.fLocation.fArea.fLow.fX), .d (.int .i64 a2.fSolution.fLocation.fArea.fLow.fY), .d (.int .i64 a2.fSolution.fLocation.fArea.fLow.fZ), .d (.int .i64 a2.fSolution.fLocation.fArea.fHigh.fX), .d (.int .i64 a2.fSolution.fLocation.fArea.fHigh.fY), .d (.int .i64 a2.fSolution.fLocation.fArea.fHigh.fZ)])])) (fun x => ref35_Moved_k8 a2 a1 a0 = some r) ?_ ?_
 ·refine WC.regionDSeq rfl rfl<|sV (.ptr 48 1)<|sL rfl<|sF h (fun h => ?_) fun h => ?_
  ·refine sM rfl<|sV (.ptr 112 0)<|sV (.d (T_api_Position.pd a1.fSolution.fLocation.fPoint))<|sV (.ptr 128 0)<|sV (.d (T_api_Position.pd a2.fSolution.fLocation.fPoint))<|bE h fun x10 hx10 h => cD (ref24_Square_ev hx10)<|sV (.ptr 48 1)<|sL rfl<|sV (.ptr 48 1)<|sL rfl<|sV (.d (.int .i64 (IntKind.wrap .i64 (a0.fDistance * a0.fDistance))))<|sV (.d (.bool (decide (x10 > (IntKind.wrap .i64 (a0.fDistance * a0.fDistance))))))<|sF h (fun h => ?_) fun h => ?_
   ·refine sN<|sO<|cT<|gS rfl rfl<|sT<|sN<|qR ?_
    obtain rfl:=oI h
    exact qG
   exact sN<|sO<|cF<|qK<|⟨(), rfl, h⟩
  refine sM rfl<|sK<|sK<|sK<|sK<|sK<|sK<|sK<|sK<|sK<|sK<|sK<|sU ?_
  exact sN<|sO<|cF<|qK<|⟨(), rfl, h⟩
 rintro ⟨⟩ R' B' hI h
 refine gS rfl hI<|sV (.ptr 112 3)<|sL rfl<|sV (.ptr 128 3)<|sL rfl<|sV (.d (.int .i64 (IntKind.wrap .i64 (a1.fSolution.fLocation.fTime - a2.fSolution.fLocation.fTime))))<|sV (.ptr 128 3)<|sL rfl<|sV (.ptr 112 3)<|sL rfl<|sV (.d (.int .i64 (IntKind.wrap .i64 (a2.fSolution.fLocation.fTime - a1.fSolution.fLocation.fTime))))<|sV (.d (.int .i64 (if (IntKind.wrap .i64 (a2.fSolution.fLocation.fTime - a1.fSolution.fLocation.fTime)) > (IntKind.wrap .i64 (a1.fSolution.fLocation.fTime - a2.fSolution.fLocation.fTime)) then (IntKind.wrap .i64 (a2.fSolution.fLocation.fTime - a1.fSolution.fLocation.fTime)) else (IntKind.wrap .i64 (a1.fSolution.fLocation.fTime - a2.fSolution.fLocation.fTime)))))<|sV (.ptr 48 1)<|sL rfl<|sV (.d (.bool (decide ((if (IntKind.wrap .i64 (a2.fSolution.fLocation.fTime - a1.fSolution.fLocation.fTime)) > (IntKind.wrap .i64 (a1.fSolution.fLocation.fTime - a2.fSolution.fLocation.fTime)) then (IntKind.wrap .i64 (a2.fSolution.fLocation.fTime - a1.fSolution.fLocation.fTime)) else (IntKind.wrap .i64 (a1.fSolution.fLocation.fTime - a2.fSolution.fLocation.fTime))) > a0.fDistance)))) ?_
 refine sA rfl<|sN<|qR ?_
 obtain rfl:=oI h
 exact qG
theorem ref36_inqq_ev {a0 : (List Int)} {a1 : Int} {r : Bool} (h : ref36_inqq a0 a1 = some r) : EvP prog hints ext 64 [.d (.lst (a0.map (PD.int .i64))), .d (.int .i64 a1)] [] (.d (.bool r), []) := by
 refine Ev.body rfl Tryz.func64 rfl (by kernel_rfl)<|gS rfl rfl<|sU<|sN<|qS<|gS rfl rfl<|sV (.d (.int .i64 0))<|sN<|bE h fun o7 ho7 h => WC.block (WC.loop (WL.ofLoop ho7 (fun s R' B' => ghosts prog 0 (A R' B') (hints.at_ 64 0 2) = some (A [(0, .d (.lst (a0.map (PD.int .i64)))), (1, .d (.int .i64 a1)), (5, .d (.int .i64 s))] [])) (fun o e R' B' => match o with | .inl y => e = .exit 0 ∧ ghosts prog 0 (A R' B') (hints.at_ 64 0 6) = some (A [] []) | .inr r => e = .ret ∧ finish prog (hints.own 64) Tryz.f64 0 (A R' B') = some (.d (.bool r), [])) rfl ?_ ?_))
 ·rintro s1 R' B' q2 hI h
  refine qS<|gS rfl hI<|sM rfl<|sM rfl<|sE (.d (.int .i64 (a0.length : Int))) (lenMap _ _)<|sF h (fun h => ?_) fun h => ?_
  ·refine sN<|cT<|qK<|qS<|qB<|gS rfl rfl<|sM rfl<|sM rfl<|bE h fun x4 hx4 h => WO.elemG hx4 rfl rfl rfl rfl rfl rfl rfl rfl rfl<|sC rfl<|sM rfl<|sF h (fun h => ?_) fun h => ?_
   ·refine sN<|cT<|gS rfl rfl<|sT<|sN<|qR ?_
    obtain rfl:=oI h
    exact ⟨(fun he => by cases he), rfl, rfl⟩
   refine sN<|cF<|qK<|WC.region rfl rfl<|sM rfl<|sV (.d (.int .i64 (IntKind.wrap .i64 (s1 + (1 : Int)))))<|sA rfl<|sN ?_
   obtain rfl:=oI h
   exact ⟨rfl, rfl⟩
  refine sN<|cF<|qX ?_
  obtain rfl:=oI h
  exact ⟨(fun he => by cases he), rfl, rfl⟩
 intro e R' B' he hq
 rcases o7 with y8 | r9
 ·obtain ⟨rfl, hI⟩ := hq
  refine qE<|gS rfl hI<|sU<|sN<|qR ?_
  obtain rfl:=oI h
  exact qD
 obtain ⟨rfl, hf⟩ := hq
 obtain rfl:=oI h
 exact hf
theorem ref35_Timely_ev {a0 : T_api_Policy} {a1 : T_api_Event} {a2 : Int} {r : Bool} (h : ref35_Timely a0 a1 a2 = some r) : EvP prog hints ext 65 [.d (T_api_Policy.pd a0), .d (T_api_Event.pd a1), .d (.int .i64 a2)] [] (.d (.bool r), []) := by
 refine Ev.body rfl Tryz.func65 rfl (by kernel_rfl)<|gS rfl rfl<|sB (.ptr 48 0) 48 (.var [.d (.lst (a0.fRules.map T_api_Rule.pd)), .d (.int .i64 a0.fDistance), .d (.int .i64 a0.fEvery)])<|sB (.ptr 64 0) 64 (.var [.d (.str a1.fName.fSource.fNetwork), .d (.str a1.fName.fSource.fStation), .d (.str a1.fName.fSource.fLocation), .d (.str a1.fName.fSource.fChannel), .d (.int .i64 a1.fName.fTime), .d (.int .i64 a1.fName.fEarly), .d (.int .i64 a1.fName.fLate), .d (.int .i64 a1.fName.fAmplitude), .d (.int .i64 a1.fName.fPolarity), .d (.lst (a1.fSolution.fPicks.map T_api_Pick.pd)), .d (.int .i64 a1.fSolution.fLocation.fPoint.fX), .d (.int .i64 a1.fSolution.fLocation.fPoint.fY), .d (.int .i64 a1.fSolution.fLocation.fPoint.fZ), .d (.int .i64 a1.fSolution.fLocation.fTime), .d (.int .i64 a1.fSolution.fLocation.fMisfit), .d (.int .i64 a1.fSolution.fLocation.fLower), .d (.int .i64 a1.fSolution.fLocation.fArea.fLow.fX), .d (.int .i64 a1.fSolution.fLocation.fArea.fLow.fY), .d (.int .i64 a1.fSolution.fLocation.fArea.fLow.fZ), .d (.int .i64 a1.fSolution.fLocation.fArea.fHigh.fX), .d (.int .i64 a1.fSolution.fLocation.fArea.fHigh.fY), .d (.int .i64 a1.fSolution.fLocation.fArea.fHigh.fZ), .d (.int .i64 a1.fSolution.fMagnitude.fLow), .d (.int .i64 a1.fSolution.fMagnitude.fHigh), .d (.int .i64 a1.fSolution.fCount)])<|sU<|sN<|gS rfl rfl<|sV (.d (T_api_Policy.pd a0))<|sV (.d (T_api_Event.pd a1))<|bE h fun x1 hx1 h => cD (ref35_Level_ev hx1)<|sA rfl<|sN<|qS<|gS rfl rfl ?_
 refine sM rfl<|sF h (fun h => ?_) fun h => ?_
 ·refine sN<|cT<|gS rfl rfl<|sU<|sN<|qR ?_
  obtain rfl:=oI h
  exact qG
 refine sN<|cF<|qK<|gS rfl rfl<|sM rfl<|sV (.ptr 64 9)<|sV (.ptr 64 10)<|sV (.ptr 64 13)<|sL rfl<|sV (.d (.int .i64 (IntKind.wrap .i64 (a2 - a1.fSolution.fLocation.fTime))))<|sA rfl<|sN<|gS rfl rfl<|sM rfl<|sF h (fun h => ?_) fun h => ?_
 ·refine sM rfl<|sM rfl<|sV (.ptr 48 0)<|sL rfl<|sM rfl<|sV (.d (.int .i64 (IntKind.wrap .i64 (x1 - (1 : Int)))))<|bE h fun x4 hx4 h => WO.elemG hx4 rfl rfl rfl rfl rfl rfl rfl rfl rfl<|sV (.cptr [.int .i64 x4.fWindow])<|sC rfl<|sV (.d (.bool (decide ((IntKind.wrap .i64 (a2 - a1.fSolution.fLocation.fTime)) ≤ x4.fWindow))))<|sV (.d (.bool (decide ((IntKind.wrap .i64 (a2 - a1.fSolution.fLocation.fTime)) ≤ x4.fWindow))))<|sA rfl<|sN<|qR ?_
  obtain rfl:=oI h
  exact qG
 refine sM rfl<|sK<|sK<|sK<|sK<|sK<|sK<|sK<|sK<|sK<|sU<|sA rfl<|sN<|qR ?_
 obtain rfl:=oI h
 exact qG
theorem ref36_Step_ev {a0 : T_api_Policy} {a1 : (List T_api_Alert)} {a2 : Int} {a3 : (List T_api_Event)} {a4 : Int} {r : (List T_api_Alert) × (List T_api_Bulletin) × Int} (h : ref36_Step a0 a1 a2 a3 a4 = some r) : EvP prog hints ext 33 [.d (T_api_Policy.pd a0), .d (.lst (a1.map T_api_Alert.pd)), .d (.int .i64 a2), .d (.lst (a3.map T_api_Event.pd)), .d (.int .i64 a4)] [] (.tup [.d (.lst (r.1.map T_api_Alert.pd)), .d (.lst (r.2.1.map T_api_Bulletin.pd)), .d (.int .i64 r.2.2)], []) := by
 refine Ev.body rfl Tryz.func33 rfl (by kernel_rfl)<|gS rfl rfl<|sB (.ptr 80 0) 80 (.var [.d (.lst (a0.fRules.map T_api_Rule.pd)), .d (.int .i64 a0.fDistance), .d (.int .i64 a0.fEvery)])<|sV .nils<|sV .nils<|sV (.d (.int .i64 0))<|sN<|qS<|gS rfl rfl<|sV (.d (T_api_Policy.pd a0))<|sM rfl<|sM rfl<|sM rfl<|sM rfl<|bE h fun x1 hx1 h => ?_
 refine cD (ref36_Errors_ev hx1)<|sA rfl<|sN<|gS rfl rfl<|sM rfl<|sF h (fun h => ?_) fun h => ?_
 ·refine sN<|cT<|gS rfl rfl<|sM rfl<|sV .nils<|sV .nils<|sA rfl<|sN<|qR ?_
  obtain rfl:=oI h
  exact qD
 refine sN<|cF<|qK<|gS rfl rfl<|sM rfl<|sM rfl<|bE h fun x3 hx3 h => cD (ref36_Follow_ev hx3)<|sA rfl<|sN<|gS rfl rfl<|sV .nils<|sN<|gS rfl rfl<|sV .nils ?_
 refine sN<|qS<|gS rfl rfl<|sV (.d (.int .i64 0))<|sN<|bE h fun o73 ho73 h => WC.block (WC.loop (WL.ofLoop ho73 (fun s R' B' => ghosts prog 0 (A R' B') (hints.at_ 33 0 8) = some (A [(1, .d (.lst (a1.map T_api_Alert.pd))), (2, .d (.int .i64 a2)), (3, .d (.lst (a3.map T_api_Event.pd))), (4, .d (.int .i64 a4)), (5, .ptr 80 0), (14, .d (.lst (x3.map (PD.int .i64)))), (15, .ref 2112 0), (16, .ref 2048 0), (17, .d (.int .i64 s.1))] [(80, .var [.d (.lst (a0.fRules.map T_api_Rule.pd)), .d (.int .i64 a0.fDistance), .d (.int .i64 a0.fEvery)]), (2048, .arr 0 40 (s.2.2.map T_api_Bulletin.pd)), (2112, .arr 0 123 (s.2.1.map T_api_Alert.pd))])) (fun o e R' B' => e = .exit 0 ∧ ghosts prog 0 (A R' B') (hints.at_ 33 0 24) = some (A [(2, .d (.int .i64 a2)), (3, .d (.lst (a3.map T_api_Event.pd))), (4, .d (.int .i64 a4)), (5, .ptr 80 0), (14, .d (.lst (x3.map (PD.int .i64)))), (15, .ref 2112 0), (16, .ref 2048 0)] [(80, .var [.d (.lst (a0.fRules.map T_api_Rule.pd)), .d (.int .i64 a0.fDistance), .d (.int .i64 a0.fEvery)]), (2048, .arr 0 40 (o.2.map T_api_Bulletin.pd)), (2112, .arr 0 123 (o.1.map T_api_Alert.pd))])) rfl ?_ ?_))
 ·rintro ⟨s4, s5, s6⟩ R' B' q9 hI h
  refine qS<|gS rfl hI<|sM rfl<|sM rfl<|sE (.d (.int .i64 (a1.length : Int))) (lenMap _ _)<|sF h (fun h => ?_) fun h => ?_
  ·refine sN<|cT<|qK<|qS<|qB<|gS rfl rfl<|sM rfl<|sM rfl<|bE h fun x11 hx11 h => WO.elemG hx11 rfl rfl rfl rfl rfl rfl rfl rfl rfl<|sV (.d (T_api_Alert.pd x11))<|sB (.ptr 288 0) 288 (.var [.d (.int .i64 0), .d (.bool false), .d (.str []), .d (.str []), .d (.str []), .d (.str []), .d (.int .i64 0), .d (.int .i64 0), .d (.int .i64 0), .d (.int .i64 0), .d (.int .i64 0), .d (.int .i64 0), .d (.str []), .d (.str []), .d (.str []), .d (.str []), .d (.int .i64 0), .d (.int .i64 0), .d (.int .i64 0), .d (.int .i64 0), .d (.int .i64 0), .nils, .d (.int .i64 0), .d (.int .i64 0), .d (.int .i64 0), .d (.int .i64 0), .d (.int .i64 0), .d (.int .i64 0), .d (.int .i64 0), .d (.int .i64 0), .d (.int .i64 0), .d (.int .i64 0), .d (.int .i64 0), .d (.int .i64 0), .d (.int .i64 0), .d (.int .i64 0), .d (.int .i64 0), .d (.int .i64 0)])<|sH 288 (.var [.d (.int .i64 x11.fID), .d (.bool x11.fWithdrawn), .d (.str x11.fName.fSource.fNetwork), .d (.str x11.fName.fSource.fStation), .d (.str x11.fName.fSource.fLocation), .d (.str x11.fName.fSource.fChannel), .d (.int .i64 x11.fName.fTime), .d (.int .i64 x11.fName.fEarly), .d (.int .i64 x11.fName.fLate), .d (.int .i64 x11.fName.fAmplitude), .d (.int .i64 x11.fName.fPolarity), .d (.int .i64 x11.fLevel), .d (.str x11.fEvent.fName.fSource.fNetwork), .d (.str x11.fEvent.fName.fSource.fStation), .d (.str x11.fEvent.fName.fSource.fLocation), .d (.str x11.fEvent.fName.fSource.fChannel), .d (.int .i64 x11.fEvent.fName.fTime), .d (.int .i64 x11.fEvent.fName.fEarly), .d (.int .i64 x11.fEvent.fName.fLate), .d (.int .i64 x11.fEvent.fName.fAmplitude), .d (.int .i64 x11.fEvent.fName.fPolarity), .d (.lst (x11.fEvent.fSolution.fPicks.map T_api_Pick.pd)), .d (.int .i64 x11.fEvent.fSolution.fLocation.fPoint.fX), .d (.int .i64 x11.fEvent.fSolution.fLocation.fPoint.fY), .d (.int .i64 x11.fEvent.fSolution.fLocation.fPoint.fZ), .d (.int .i64 x11.fEvent.fSolution.fLocation.fTime), .d (.int .i64 x11.fEvent.fSolution.fLocation.fMisfit), .d (.int .i64 x11.fEvent.fSolution.fLocation.fLower), .d (.int .i64 x11.fEvent.fSolution.fLocation.fArea.fLow.fX), .d (.int .i64 x11.fEvent.fSolution.fLocation.fArea.fLow.fY), .d (.int .i64 x11.fEvent.fSolution.fLocation.fArea.fLow.fZ), .d (.int .i64 x11.fEvent.fSolution.fLocation.fArea.fHigh.fX), .d (.int .i64 x11.fEvent.fSolution.fLocation.fArea.fHigh.fY), .d (.int .i64 x11.fEvent.fSolution.fLocation.fArea.fHigh.fZ), .d (.int .i64 x11.fEvent.fSolution.fMagnitude.fLow), .d (.int .i64 x11.fEvent.fSolution.fMagnitude.fHigh), .d (.int .i64 x11.fEvent.fSolution.fCount), .d (.int .i64 x11.fAt)])<|sN<|gS rfl rfl ?_
   refine sV (.d (.int .i64 0))<|sN<|WC.join (α := (List UInt8) × (List UInt8) × (List UInt8) × (List UInt8) × Int × Int × Int × Int × Int) (fun x R' B' => ghosts prog 0 (A R' B') (hints.at_ 33 0 14) = some (A [(1, .d (.lst (a1.map T_api_Alert.pd))), (2, .d (.int .i64 a2)), (3, .d (.lst (a3.map T_api_Event.pd))), (4, .d (.int .i64 a4)), (5, .ptr 80 0), (14, .d (.lst (x3.map (PD.int .i64)))), (15, .ref 2112 0), (16, .ref 2048 0), (17, .d (.int .i64 s4)), (18, .ptr 288 0), (19, .d (.int .i64 0))] [(80, .var [.d (.lst (a0.fRules.map T_api_Rule.pd)), .d (.int .i64 a0.fDistance), .d (.int .i64 a0.fEvery)]), (288, .var [.d (.int .i64 x11.fID), .d (.bool x11.fWithdrawn), .d (.str x.1), .d (.str x.2.1), .d (.str x.2.2.1), .d (.str x.2.2.2.1), .d (.int .i64 x.2.2.2.2.1), .d (.int .i64 x.2.2.2.2.2.1), .d (.int .i64 x.2.2.2.2.2.2.1), .d (.int .i64 x.2.2.2.2.2.2.2.1), .d (.int .i64 x.2.2.2.2.2.2.2.2), .d (.int .i64 x11.fLevel), .d (.str x11.fEvent.fName.fSource.fNetwork), .d (.str x11.fEvent.fName.fSource.fStation), .d (.str x11.fEvent.fName.fSource.fLocation), .d (.str x11.fEvent.fName.fSource.fChannel), .d (.int .i64 x11.fEvent.fName.fTime), .d (.int .i64 x11.fEvent.fName.fEarly), .d (.int .i64 x11.fEvent.fName.fLate), .d (.int .i64 x11.fEvent.fName.fAmplitude), .d (.int .i64 x11.fEvent.fName.fPolarity), .d (.lst (x11.fEvent.fSolution.fPicks.map T_api_Pick.pd)), .d (.int .i64 x11.fEvent.fSolution.fLocation.fPoint.fX), .d (.int .i64 x11.fEvent.fSolution.fLocation.fPoint.fY), .d (.int .i64 x11.fEvent.fSolution.fLocation.fPoint.fZ), .d (.int .i64 x11.fEvent.fSolution.fLocation.fTime), .d (.int .i64 x11.fEvent.fSolution.fLocation.fMisfit), .d (.int .i64 x11.fEvent.fSolution.fLocation.fLower), .d (.int .i64 x11.fEvent.fSolution.fLocation.fArea.fLow.fX), .d (.int .i64 x11.fEvent.fSolution.fLocation.fArea.fLow.fY), .d (.int .i64 x11.fEvent.fSolution.fLocation.fArea.fLow.fZ), .d (.int .i64 x11.fEvent.fSolution.fLocation.fArea.fHigh.fX), .d (.int .i64 x11.fEvent.fSolution.fLocation.fArea.fHigh.fY), .d (.int .i64 x11.fEvent.fSolution.fLocation.fArea.fHigh.fZ), .d (.int .i64 x11.fEvent.fSolution.fMagnitude.fLow), .d (.int .i64 x11.fEvent.fSolution.fMagnitude.fHigh), .d (.int .i64 x11.fEvent.fSolution.fCount), .d (.int .i64 x11.fAt)]), (2048, .arr 0 40 (s6.map T_api_Bulletin.pd)), (2112, .arr 0 123 (s5.map T_api_Alert.pd))])) (fun x => ref36_Step_k67 x3 s4 x11 s6 a2 a4 s5 a3 a0 x.1 x.2.1 x.2.2.1 x.2.2.2.1 x.2.2.2.2.1 x.2.2.2.2.2.1 x.2.2.2.2.2.2.1 x.2.2.2.2.2.2.2.1 x.2.2.2.2.2.2.2.2 = some q9) ?_ ?_
   ·refine gS rfl rfl<|sM rfl<|sM rfl<|bE h fun x68 hx68 h => WO.elemG hx68 rfl rfl rfl rfl rfl rfl rfl rfl rfl<|sC rfl<|sF h (fun h => ?_) fun h => ?_
    ·refine sN<|cT<|WC.region rfl rfl<|sM rfl<|sM rfl<|sM rfl<|bE h fun x70 hx70 h => WO.elemG hx70 rfl rfl rfl rfl rfl rfl rfl rfl rfl<|sC rfl<|bE h fun x71 hx71 h => WO.elemG hx71 rfl rfl rfl rfl rfl rfl rfl rfl rfl<|sV (.cptr [.str x71.fName.fSource.fNetwork, .str x71.fName.fSource.fStation, .str x71.fName.fSource.fLocation, .str x71.fName.fSource.fChannel, .int .i64 x71.fName.fTime, .int .i64 x71.fName.fEarly, .int .i64 x71.fName.fLate, .int .i64 x71.fName.fAmplitude, .int .i64 x71.fName.fPolarity, .lst (x71.fSolution.fPicks.map T_api_Pick.pd), .int .i64 x71.fSolution.fLocation.fPoint.fX, .int .i64 x71.fSolution.fLocation.fPoint.fY, .int .i64 x71.fSolution.fLocation.fPoint.fZ, .int .i64 x71.fSolution.fLocation.fTime, .int .i64 x71.fSolution.fLocation.fMisfit, .int .i64 x71.fSolution.fLocation.fLower, .int .i64 x71.fSolution.fLocation.fArea.fLow.fX, .int .i64 x71.fSolution.fLocation.fArea.fLow.fY, .int .i64 x71.fSolution.fLocation.fArea.fLow.fZ, .int .i64 x71.fSolution.fLocation.fArea.fHigh.fX, .int .i64 x71.fSolution.fLocation.fArea.fHigh.fY, .int .i64 x71.fSolution.fLocation.fArea.fHigh.fZ, .int .i64 x71.fSolution.fMagnitude.fLow, .int .i64 x71.fSolution.fMagnitude.fHigh, .int .i64 x71.fSolution.fCount])<|sV (.d (T_api_Pick.pd x71.fName))<|sV (.ptr 288 2)<|sH 288 (.var [.d (.int .i64 x11.fID), .d (.bool x11.fWithdrawn), .d (.str x71.fName.fSource.fNetwork), .d (.str x71.fName.fSource.fStation), .d (.str x71.fName.fSource.fLocation), .d (.str x71.fName.fSource.fChannel), .d (.int .i64 x71.fName.fTime), .d (.int .i64 x71.fName.fEarly), .d (.int .i64 x71.fName.fLate), .d (.int .i64 x71.fName.fAmplitude), .d (.int .i64 x71.fName.fPolarity), .d (.int .i64 x11.fLevel), .d (.str x11.fEvent.fName.fSource.fNetwork), .d (.str x11.fEvent.fName.fSource.fStation), .d (.str x11.fEvent.fName.fSource.fLocation), .d (.str x11.fEvent.fName.fSource.fChannel), .d (.int .i64 x11.fEvent.fName.fTime), .d (.int .i64 x11.fEvent.fName.fEarly), .d (.int .i64 x11.fEvent.fName.fLate), .d (.int .i64 x11.fEvent.fName.fAmplitude), .d (.int .i64 x11.fEvent.fName.fPolarity), .d (.lst (x11.fEvent.fSolution.fPicks.map T_api_Pick.pd)), .d (.int .i64 x11.fEvent.fSolution.fLocation.fPoint.fX), .d (.int .i64 x11.fEvent.fSolution.fLocation.fPoint.fY), .d (.int .i64 x11.fEvent.fSolution.fLocation.fPoint.fZ), .d (.int .i64 x11.fEvent.fSolution.fLocation.fTime), .d (.int .i64 x11.fEvent.fSolution.fLocation.fMisfit), .d (.int .i64 x11.fEvent.fSolution.fLocation.fLower), .d (.int .i64 x11.fEvent.fSolution.fLocation.fArea.fLow.fX), .d (.int .i64 x11.fEvent.fSolution.fLocation.fArea.fLow.fY), .d (.int .i64 x11.fEvent.fSolution.fLocation.fArea.fLow.fZ), .d (.int .i64 x11.fEvent.fSolution.fLocation.fArea.fHigh.fX), .d (.int .i64 x11.fEvent.fSolution.fLocation.fArea.fHigh.fY), .d (.int .i64 x11.fEvent.fSolution.fLocation.fArea.fHigh.fZ), .d (.int .i64 x11.fEvent.fSolution.fMagnitude.fLow), .d (.int .i64 x11.fEvent.fSolution.fMagnitude.fHigh), .d (.int .i64 x11.fEvent.fSolution.fCount), .d (.int .i64 x11.fAt)]) ?_
     exact sN<|⟨(x71.fName.fSource.fNetwork, x71.fName.fSource.fStation, x71.fName.fSource.fLocation, x71.fName.fSource.fChannel, x71.fName.fTime, x71.fName.fEarly, x71.fName.fLate, x71.fName.fAmplitude, x71.fName.fPolarity), rfl, h⟩
    exact sN<|cF<|qK<|⟨(x11.fName.fSource.fNetwork, x11.fName.fSource.fStation, x11.fName.fSource.fLocation, x11.fName.fSource.fChannel, x11.fName.fTime, x11.fName.fEarly, x11.fName.fLate, x11.fName.fAmplitude, x11.fName.fPolarity), rfl, h⟩
   rintro ⟨j12, j13, j14, j15, j16, j17, j18, j19, j20⟩ R' B' hI h
   refine WC.join (α := Int × Bool × Int × (List UInt8) × (List UInt8) × (List UInt8) × (List UInt8) × Int × Int × Int × Int × Int × (List T_api_Pick) × Int × Int × Int × Int × Int × Int × Int × Int × Int × Int × Int × Int × Int × Int × Int) (fun x R' B' => ghosts prog 0 (A R' B') (hints.at_ 33 0 20) = some (A [(1, .d (.lst (a1.map T_api_Alert.pd))), (2, .d (.int .i64 a2)), (3, .d (.lst (a3.map T_api_Event.pd))), (4, .d (.int .i64 a4)), (5, .ptr 80 0), (14, .d (.lst (x3.map (PD.int .i64)))), (15, .ref 2112 0), (16, .ref 2048 0), (17, .d (.int .i64 s4)), (18, .ptr 288 0), (19, .d (.int .i64 x.1))] [(80, .var [.d (.lst (a0.fRules.map T_api_Rule.pd)), .d (.int .i64 a0.fDistance), .d (.int .i64 a0.fEvery)]), (288, .var [.d (.int .i64 x11.fID), .d (.bool x.2.1), .d (.str j12), .d (.str j13), .d (.str j14), .d (.str j15), .d (.int .i64 j16), .d (.int .i64 j17), .d (.int .i64 j18), .d (.int .i64 j19), .d (.int .i64 j20), .d (.int .i64 x.2.2.1), .d (.str x.2.2.2.1), .d (.str x.2.2.2.2.1), .d (.str x.2.2.2.2.2.1), .d (.str x.2.2.2.2.2.2.1), .d (.int .i64 x.2.2.2.2.2.2.2.1), .d (.int .i64 x.2.2.2.2.2.2.2.2.1), .d (.int .i64 x.2.2.2.2.2.2.2.2.2.1), .d (.int .i64 x.2.2.2.2.2.2.2.2.2.2.1), .d (.int .i64 x.2.2.2.2.2.2.2.2.2.2.2.1), .d (.lst (x.2.2.2.2.2.2.2.2.2.2.2.2.1.map T_api_Pick.pd)), .d (.int .i64 x.2.2.2.2.2.2.2.2.2.2.2.2.2.1), .d (.int .i64 x.2.2.2.2.2.2.2.2.2.2.2.2.2.2.1), .d (.int .i64 x.2.2.2.2.2.2.2.2.2.2.2.2.2.2.2.1), .d (.int .i64 x.2.2.2.2.2.2.2.2.2.2.2.2.2.2.2.2.1), .d (.int .i64 x.2.2.2.2.2.2.2.2.2.2.2.2.2.2.2.2.2.1), .d (.int .i64 x.2.2.2.2.2.2.2.2.2.2.2.2.2.2.2.2.2.2.1), .d (.int .i64 x.2.2.2.2.2.2.2.2.2.2.2.2.2.2.2.2.2.2.2.1), .d (.int .i64 x.2.2.2.2.2.2.2.2.2.2.2.2.2.2.2.2.2.2.2.2.1), .d (.int .i64 x.2.2.2.2.2.2.2.2.2.2.2.2.2.2.2.2.2.2.2.2.2.1), .d (.int .i64 x.2.2.2.2.2.2.2.2.2.2.2.2.2.2.2.2.2.2.2.2.2.2.1), .d (.int .i64 x.2.2.2.2.2.2.2.2.2.2.2.2.2.2.2.2.2.2.2.2.2.2.2.1), .d (.int .i64 x.2.2.2.2.2.2.2.2.2.2.2.2.2.2.2.2.2.2.2.2.2.2.2.2.1), .d (.int .i64 x.2.2.2.2.2.2.2.2.2.2.2.2.2.2.2.2.2.2.2.2.2.2.2.2.2.1), .d (.int .i64 x.2.2.2.2.2.2.2.2.2.2.2.2.2.2.2.2.2.2.2.2.2.2.2.2.2.2.1), .d (.int .i64 x.2.2.2.2.2.2.2.2.2.2.2.2.2.2.2.2.2.2.2.2.2.2.2.2.2.2.2), .d (.int .i64 x11.fAt)]), (2048, .arr 0 40 (s6.map T_api_Bulletin.pd)), (2112, .arr 0 123 (s5.map T_api_Alert.pd))])) (fun x => ref36_Step_k53 s6 a2 x11 a4 s5 j12 j13 j14 j15 j16 j17 j18 j19 j20 s4 x.1 x.2.1 x.2.2.1 x.2.2.2.1 x.2.2.2.2.1 x.2.2.2.2.2.1 x.2.2.2.2.2.2.1 x.2.2.2.2.2.2.2.1 x.2.2.2.2.2.2.2.2.1 x.2.2.2.2.2.2.2.2.2.1 x.2.2.2.2.2.2.2.2.2.2.1 x.2.2.2.2.2.2.2.2.2.2.2.1 x.2.2.2.2.2.2.2.2.2.2.2.2.1 x.2.2.2.2.2.2.2.2.2.2.2.2.2.1 x.2.2.2.2.2.2.2.2.2.2.2.2.2.2.1 x.2.2.2.2.2.2.2.2.2.2.2.2.2.2.2.1 x.2.2.2.2.2.2.2.2.2.2.2.2.2.2.2.2.1 x.2.2.2.2.2.2.2.2.2.2.2.2.2.2.2.2.2.1 x.2.2.2.2.2.2.2.2.2.2.2.2.2.2.2.2.2.2.1 x.2.2.2.2.2.2.2.2.2.2.2.2.2.2.2.2.2.2.2.1 x.2.2.2.2.2.2.2.2.2.2.2.2.2.2.2.2.2.2.2.2.1 x.2.2.2.2.2.2.2.2.2.2.2.2.2.2.2.2.2.2.2.2.2.1 x.2.2.2.2.2.2.2.2.2.2.2.2.2.2.2.2.2.2.2.2.2.2.1 x.2.2.2.2.2.2.2.2.2.2.2.2.2.2.2.2.2.2.2.2.2.2.2.1 x.2.2.2.2.2.2.2.2.2.2.2.2.2.2.2.2.2.2.2.2.2.2.2.2.1 x.2.2.2.2.2.2.2.2.2.2.2.2.2.2.2.2.2.2.2.2.2.2.2.2.2.1 x.2.2.2.2.2.2.2.2.2.2.2.2.2.2.2.2.2.2.2.2.2.2.2.2.2.2.1 x.2.2.2.2.2.2.2.2.2.2.2.2.2.2.2.2.2.2.2.2.2.2.2.2.2.2.2 = some q9) ?_ ?_
   ·refine gS rfl hI<|sM rfl<|sM rfl<|bE h fun x54 hx54 h => WO.elemG hx54 rfl rfl rfl rfl rfl rfl rfl rfl rfl<|sC rfl<|sA rfl<|sN<|qB<|gS rfl rfl<|sV (.ptr 288 1)<|sF h (fun h => ?_) fun h => ?_
    ·exact sA rfl<|sN<|cT<|qK<|⟨(0, x11.fWithdrawn, x11.fLevel, x11.fEvent.fName.fSource.fNetwork, x11.fEvent.fName.fSource.fStation, x11.fEvent.fName.fSource.fLocation, x11.fEvent.fName.fSource.fChannel, x11.fEvent.fName.fTime, x11.fEvent.fName.fEarly, x11.fEvent.fName.fLate, x11.fEvent.fName.fAmplitude, x11.fEvent.fName.fPolarity, x11.fEvent.fSolution.fPicks, x11.fEvent.fSolution.fLocation.fPoint.fX, x11.fEvent.fSolution.fLocation.fPoint.fY, x11.fEvent.fSolution.fLocation.fPoint.fZ, x11.fEvent.fSolution.fLocation.fTime, x11.fEvent.fSolution.fLocation.fMisfit, x11.fEvent.fSolution.fLocation.fLower, x11.fEvent.fSolution.fLocation.fArea.fLow.fX, x11.fEvent.fSolution.fLocation.fArea.fLow.fY, x11.fEvent.fSolution.fLocation.fArea.fLow.fZ, x11.fEvent.fSolution.fLocation.fArea.fHigh.fX, x11.fEvent.fSolution.fLocation.fArea.fHigh.fY, x11.fEvent.fSolution.fLocation.fArea.fHigh.fZ, x11.fEvent.fSolution.fMagnitude.fLow, x11.fEvent.fSolution.fMagnitude.fHigh, x11.fEvent.fSolution.fCount), rfl, h⟩
    refine sA rfl<|sN<|cF<|WC.regionDSeq rfl rfl<|sM rfl<|sF h (fun h => ?_) fun h => ?_
    ·refine sM rfl<|sK<|sK<|sK<|sK<|sK<|sK<|sK<|sT<|sA rfl ?_
     exact sN<|sO<|cT<|WC.region rfl rfl<|sV (.ptr 288 1)<|sS 288 (.var [.d (.int .i64 x11.fID), .d (.bool true), .d (.str j12), .d (.str j13), .d (.str j14), .d (.str j15), .d (.int .i64 j16), .d (.int .i64 j17), .d (.int .i64 j18), .d (.int .i64 j19), .d (.int .i64 j20), .d (.int .i64 x11.fLevel), .d (.str x11.fEvent.fName.fSource.fNetwork), .d (.str x11.fEvent.fName.fSource.fStation), .d (.str x11.fEvent.fName.fSource.fLocation), .d (.str x11.fEvent.fName.fSource.fChannel), .d (.int .i64 x11.fEvent.fName.fTime), .d (.int .i64 x11.fEvent.fName.fEarly), .d (.int .i64 x11.fEvent.fName.fLate), .d (.int .i64 x11.fEvent.fName.fAmplitude), .d (.int .i64 x11.fEvent.fName.fPolarity), .d (.lst (x11.fEvent.fSolution.fPicks.map T_api_Pick.pd)), .d (.int .i64 x11.fEvent.fSolution.fLocation.fPoint.fX), .d (.int .i64 x11.fEvent.fSolution.fLocation.fPoint.fY), .d (.int .i64 x11.fEvent.fSolution.fLocation.fPoint.fZ), .d (.int .i64 x11.fEvent.fSolution.fLocation.fTime), .d (.int .i64 x11.fEvent.fSolution.fLocation.fMisfit), .d (.int .i64 x11.fEvent.fSolution.fLocation.fLower), .d (.int .i64 x11.fEvent.fSolution.fLocation.fArea.fLow.fX), .d (.int .i64 x11.fEvent.fSolution.fLocation.fArea.fLow.fY), .d (.int .i64 x11.fEvent.fSolution.fLocation.fArea.fLow.fZ), .d (.int .i64 x11.fEvent.fSolution.fLocation.fArea.fHigh.fX), .d (.int .i64 x11.fEvent.fSolution.fLocation.fArea.fHigh.fY), .d (.int .i64 x11.fEvent.fSolution.fLocation.fArea.fHigh.fZ), .d (.int .i64 x11.fEvent.fSolution.fMagnitude.fLow), .d (.int .i64 x11.fEvent.fSolution.fMagnitude.fHigh), .d (.int .i64 x11.fEvent.fSolution.fCount), .d (.int .i64 x11.fAt)])<|sV (.d (.int .i64 3))<|sN<|⟨(3, true, x11.fLevel, x11.fEvent.fName.fSource.fNetwork, x11.fEvent.fName.fSource.fStation, x11.fEvent.fName.fSource.fLocation, x11.fEvent.fName.fSource.fChannel, x11.fEvent.fName.fTime, x11.fEvent.fName.fEarly, x11.fEvent.fName.fLate, x11.fEvent.fName.fAmplitude, x11.fEvent.fName.fPolarity, x11.fEvent.fSolution.fPicks, x11.fEvent.fSolution.fLocation.fPoint.fX, x11.fEvent.fSolution.fLocation.fPoint.fY, x11.fEvent.fSolution.fLocation.fPoint.fZ, x11.fEvent.fSolution.fLocation.fTime, x11.fEvent.fSolution.fLocation.fMisfit, x11.fEvent.fSolution.fLocation.fLower, x11.fEvent.fSolution.fLocation.fArea.fLow.fX, x11.fEvent.fSolution.fLocation.fArea.fLow.fY, x11.fEvent.fSolution.fLocation.fArea.fLow.fZ, x11.fEvent.fSolution.fLocation.fArea.fHigh.fX, x11.fEvent.fSolution.fLocation.fArea.fHigh.fY, x11.fEvent.fSolution.fLocation.fArea.fHigh.fZ, x11.fEvent.fSolution.fMagnitude.fLow, x11.fEvent.fSolution.fMagnitude.fHigh, x11.fEvent.fSolution.fCount), rfl, h⟩
    refine sM rfl<|sV (.d (T_api_Policy.pd a0))<|sM rfl<|sM rfl<|bE h fun x57 hx57 h => WO.elemG hx57 rfl rfl rfl rfl rfl rfl rfl rfl rfl<|sV (.d (T_api_Event.pd x57))<|bE h fun x58 hx58 h => cD (ref35_Level_ev hx58)<|sV (.d (.bool (x58 == (0 : Int))))<|sF h (fun h => ?_) fun h => ?_
    ·refine sA rfl ?_
     exact sN<|sO<|cT<|WC.region rfl rfl<|sV (.ptr 288 1)<|sS 288 (.var [.d (.int .i64 x11.fID), .d (.bool true), .d (.str j12), .d (.str j13), .d (.str j14), .d (.str j15), .d (.int .i64 j16), .d (.int .i64 j17), .d (.int .i64 j18), .d (.int .i64 j19), .d (.int .i64 j20), .d (.int .i64 x11.fLevel), .d (.str x11.fEvent.fName.fSource.fNetwork), .d (.str x11.fEvent.fName.fSource.fStation), .d (.str x11.fEvent.fName.fSource.fLocation), .d (.str x11.fEvent.fName.fSource.fChannel), .d (.int .i64 x11.fEvent.fName.fTime), .d (.int .i64 x11.fEvent.fName.fEarly), .d (.int .i64 x11.fEvent.fName.fLate), .d (.int .i64 x11.fEvent.fName.fAmplitude), .d (.int .i64 x11.fEvent.fName.fPolarity), .d (.lst (x11.fEvent.fSolution.fPicks.map T_api_Pick.pd)), .d (.int .i64 x11.fEvent.fSolution.fLocation.fPoint.fX), .d (.int .i64 x11.fEvent.fSolution.fLocation.fPoint.fY), .d (.int .i64 x11.fEvent.fSolution.fLocation.fPoint.fZ), .d (.int .i64 x11.fEvent.fSolution.fLocation.fTime), .d (.int .i64 x11.fEvent.fSolution.fLocation.fMisfit), .d (.int .i64 x11.fEvent.fSolution.fLocation.fLower), .d (.int .i64 x11.fEvent.fSolution.fLocation.fArea.fLow.fX), .d (.int .i64 x11.fEvent.fSolution.fLocation.fArea.fLow.fY), .d (.int .i64 x11.fEvent.fSolution.fLocation.fArea.fLow.fZ), .d (.int .i64 x11.fEvent.fSolution.fLocation.fArea.fHigh.fX), .d (.int .i64 x11.fEvent.fSolution.fLocation.fArea.fHigh.fY), .d (.int .i64 x11.fEvent.fSolution.fLocation.fArea.fHigh.fZ), .d (.int .i64 x11.fEvent.fSolution.fMagnitude.fLow), .d (.int .i64 x11.fEvent.fSolution.fMagnitude.fHigh), .d (.int .i64 x11.fEvent.fSolution.fCount), .d (.int .i64 x11.fAt)])<|sV (.d (.int .i64 3))<|sN<|⟨(3, true, x11.fLevel, x11.fEvent.fName.fSource.fNetwork, x11.fEvent.fName.fSource.fStation, x11.fEvent.fName.fSource.fLocation, x11.fEvent.fName.fSource.fChannel, x11.fEvent.fName.fTime, x11.fEvent.fName.fEarly, x11.fEvent.fName.fLate, x11.fEvent.fName.fAmplitude, x11.fEvent.fName.fPolarity, x11.fEvent.fSolution.fPicks, x11.fEvent.fSolution.fLocation.fPoint.fX, x11.fEvent.fSolution.fLocation.fPoint.fY, x11.fEvent.fSolution.fLocation.fPoint.fZ, x11.fEvent.fSolution.fLocation.fTime, x11.fEvent.fSolution.fLocation.fMisfit, x11.fEvent.fSolution.fLocation.fLower, x11.fEvent.fSolution.fLocation.fArea.fLow.fX, x11.fEvent.fSolution.fLocation.fArea.fLow.fY, x11.fEvent.fSolution.fLocation.fArea.fLow.fZ, x11.fEvent.fSolution.fLocation.fArea.fHigh.fX, x11.fEvent.fSolution.fLocation.fArea.fHigh.fY, x11.fEvent.fSolution.fLocation.fArea.fHigh.fZ, x11.fEvent.fSolution.fMagnitude.fLow, x11.fEvent.fSolution.fMagnitude.fHigh, x11.fEvent.fSolution.fCount), rfl, h⟩
    refine sA rfl ?_
    refine sN<|sO<|cF<|WC.regionDSeq rfl rfl<|sV (.d (T_api_Policy.pd a0))<|sV (.ptr 288 12)<|sV (.d (T_api_Event.pd x11.fEvent))<|sM rfl<|sM rfl<|bE h fun x60 hx60 h => WO.elemG hx60 rfl rfl rfl rfl rfl rfl rfl rfl rfl<|sV (.d (T_api_Event.pd x60))<|bE h fun x61 hx61 h => ite_elim h (fun hb62 h => ?_) (fun hb62 h => ?_)
    ·refine WO.callR (v := .d (.bool true)) (u := []) rfl rfl (fun _ => rfl) rfl rfl rfl rfl rfl (ref35_Moved_ev hx61) rfl rfl (congrArg (fun b => RV.d (.bool b)) hb62) rfl<|sM rfl<|sM rfl<|sV (.ptr 288 37)<|sL rfl<|sV (.d (.int .i64 (IntKind.wrap .i64 (a4 - x11.fAt))))<|sV (.ptr 80 2)<|sL rfl<|sV (.d (.bool (decide ((IntKind.wrap .i64 (a4 - x11.fAt)) ≥ a0.fEvery))))<|sF h (fun h => ?_) fun h => ?_
     ·refine sA rfl ?_
      refine sN<|sO<|cT<|WC.regionD rfl rfl<|sV (.d (T_api_Policy.pd a0))<|sM rfl<|sM rfl<|bE h fun x64 hx64 h => WO.elemG hx64 rfl rfl rfl rfl rfl rfl rfl rfl rfl<|sV (.d (T_api_Event.pd x64))<|bE h fun x65 hx65 h => cD (ref35_Level_ev hx65)<|sM rfl<|sM rfl<|bE h fun x66 hx66 h => WO.elemG hx66 rfl rfl rfl rfl rfl rfl rfl rfl rfl ?_
      refine sV (.d (T_api_Event.pd x66))<|sV (.ptr 288 11)<|sS 288 (.var [.d (.int .i64 x11.fID), .d (.bool x11.fWithdrawn), .d (.str j12), .d (.str j13), .d (.str j14), .d (.str j15), .d (.int .i64 j16), .d (.int .i64 j17), .d (.int .i64 j18), .d (.int .i64 j19), .d (.int .i64 j20), .d (.int .i64 x65), .d (.str x11.fEvent.fName.fSource.fNetwork), .d (.str x11.fEvent.fName.fSource.fStation), .d (.str x11.fEvent.fName.fSource.fLocation), .d (.str x11.fEvent.fName.fSource.fChannel), .d (.int .i64 x11.fEvent.fName.fTime), .d (.int .i64 x11.fEvent.fName.fEarly), .d (.int .i64 x11.fEvent.fName.fLate), .d (.int .i64 x11.fEvent.fName.fAmplitude), .d (.int .i64 x11.fEvent.fName.fPolarity), .d (.lst (x11.fEvent.fSolution.fPicks.map T_api_Pick.pd)), .d (.int .i64 x11.fEvent.fSolution.fLocation.fPoint.fX), .d (.int .i64 x11.fEvent.fSolution.fLocation.fPoint.fY), .d (.int .i64 x11.fEvent.fSolution.fLocation.fPoint.fZ), .d (.int .i64 x11.fEvent.fSolution.fLocation.fTime), .d (.int .i64 x11.fEvent.fSolution.fLocation.fMisfit), .d (.int .i64 x11.fEvent.fSolution.fLocation.fLower), .d (.int .i64 x11.fEvent.fSolution.fLocation.fArea.fLow.fX), .d (.int .i64 x11.fEvent.fSolution.fLocation.fArea.fLow.fY), .d (.int .i64 x11.fEvent.fSolution.fLocation.fArea.fLow.fZ), .d (.int .i64 x11.fEvent.fSolution.fLocation.fArea.fHigh.fX), .d (.int .i64 x11.fEvent.fSolution.fLocation.fArea.fHigh.fY), .d (.int .i64 x11.fEvent.fSolution.fLocation.fArea.fHigh.fZ), .d (.int .i64 x11.fEvent.fSolution.fMagnitude.fLow), .d (.int .i64 x11.fEvent.fSolution.fMagnitude.fHigh), .d (.int .i64 x11.fEvent.fSolution.fCount), .d (.int .i64 x11.fAt)])<|sV (.ptr 288 12)<|sH 288 (.var [.d (.int .i64 x11.fID), .d (.bool x11.fWithdrawn), .d (.str j12), .d (.str j13), .d (.str j14), .d (.str j15), .d (.int .i64 j16), .d (.int .i64 j17), .d (.int .i64 j18), .d (.int .i64 j19), .d (.int .i64 j20), .d (.int .i64 x65), .d (.str x66.fName.fSource.fNetwork), .d (.str x66.fName.fSource.fStation), .d (.str x66.fName.fSource.fLocation), .d (.str x66.fName.fSource.fChannel), .d (.int .i64 x66.fName.fTime), .d (.int .i64 x66.fName.fEarly), .d (.int .i64 x66.fName.fLate), .d (.int .i64 x66.fName.fAmplitude), .d (.int .i64 x66.fName.fPolarity), .d (.lst (x66.fSolution.fPicks.map T_api_Pick.pd)), .d (.int .i64 x66.fSolution.fLocation.fPoint.fX), .d (.int .i64 x66.fSolution.fLocation.fPoint.fY), .d (.int .i64 x66.fSolution.fLocation.fPoint.fZ), .d (.int .i64 x66.fSolution.fLocation.fTime), .d (.int .i64 x66.fSolution.fLocation.fMisfit), .d (.int .i64 x66.fSolution.fLocation.fLower), .d (.int .i64 x66.fSolution.fLocation.fArea.fLow.fX), .d (.int .i64 x66.fSolution.fLocation.fArea.fLow.fY), .d (.int .i64 x66.fSolution.fLocation.fArea.fLow.fZ), .d (.int .i64 x66.fSolution.fLocation.fArea.fHigh.fX), .d (.int .i64 x66.fSolution.fLocation.fArea.fHigh.fY), .d (.int .i64 x66.fSolution.fLocation.fArea.fHigh.fZ), .d (.int .i64 x66.fSolution.fMagnitude.fLow), .d (.int .i64 x66.fSolution.fMagnitude.fHigh), .d (.int .i64 x66.fSolution.fCount), .d (.int .i64 x11.fAt)])<|sV (.d (.int .i64 2)) ?_
      exact sN<|sO<|⟨(2, x11.fWithdrawn, x65, x66.fName.fSource.fNetwork, x66.fName.fSource.fStation, x66.fName.fSource.fLocation, x66.fName.fSource.fChannel, x66.fName.fTime, x66.fName.fEarly, x66.fName.fLate, x66.fName.fAmplitude, x66.fName.fPolarity, x66.fSolution.fPicks, x66.fSolution.fLocation.fPoint.fX, x66.fSolution.fLocation.fPoint.fY, x66.fSolution.fLocation.fPoint.fZ, x66.fSolution.fLocation.fTime, x66.fSolution.fLocation.fMisfit, x66.fSolution.fLocation.fLower, x66.fSolution.fLocation.fArea.fLow.fX, x66.fSolution.fLocation.fArea.fLow.fY, x66.fSolution.fLocation.fArea.fLow.fZ, x66.fSolution.fLocation.fArea.fHigh.fX, x66.fSolution.fLocation.fArea.fHigh.fY, x66.fSolution.fLocation.fArea.fHigh.fZ, x66.fSolution.fMagnitude.fLow, x66.fSolution.fMagnitude.fHigh, x66.fSolution.fCount), rfl, h⟩
     refine sA rfl ?_
     exact sN<|sO<|cF<|qK<|⟨(0, x11.fWithdrawn, x11.fLevel, x11.fEvent.fName.fSource.fNetwork, x11.fEvent.fName.fSource.fStation, x11.fEvent.fName.fSource.fLocation, x11.fEvent.fName.fSource.fChannel, x11.fEvent.fName.fTime, x11.fEvent.fName.fEarly, x11.fEvent.fName.fLate, x11.fEvent.fName.fAmplitude, x11.fEvent.fName.fPolarity, x11.fEvent.fSolution.fPicks, x11.fEvent.fSolution.fLocation.fPoint.fX, x11.fEvent.fSolution.fLocation.fPoint.fY, x11.fEvent.fSolution.fLocation.fPoint.fZ, x11.fEvent.fSolution.fLocation.fTime, x11.fEvent.fSolution.fLocation.fMisfit, x11.fEvent.fSolution.fLocation.fLower, x11.fEvent.fSolution.fLocation.fArea.fLow.fX, x11.fEvent.fSolution.fLocation.fArea.fLow.fY, x11.fEvent.fSolution.fLocation.fArea.fLow.fZ, x11.fEvent.fSolution.fLocation.fArea.fHigh.fX, x11.fEvent.fSolution.fLocation.fArea.fHigh.fY, x11.fEvent.fSolution.fLocation.fArea.fHigh.fZ, x11.fEvent.fSolution.fMagnitude.fLow, x11.fEvent.fSolution.fMagnitude.fHigh, x11.fEvent.fSolution.fCount), rfl, h⟩
    refine WO.callR (v := .d (.bool false)) (u := []) rfl rfl (fun _ => rfl) rfl rfl rfl rfl rfl (ref35_Moved_ev hx61) rfl rfl (congrArg (fun b => RV.d (.bool b)) hb62) rfl<|sM rfl<|sK<|sK<|sK<|sK<|sK<|sK<|sK<|sU<|sA rfl ?_
    exact sN<|sO<|cF<|qK<|⟨(0, x11.fWithdrawn, x11.fLevel, x11.fEvent.fName.fSource.fNetwork, x11.fEvent.fName.fSource.fStation, x11.fEvent.fName.fSource.fLocation, x11.fEvent.fName.fSource.fChannel, x11.fEvent.fName.fTime, x11.fEvent.fName.fEarly, x11.fEvent.fName.fLate, x11.fEvent.fName.fAmplitude, x11.fEvent.fName.fPolarity, x11.fEvent.fSolution.fPicks, x11.fEvent.fSolution.fLocation.fPoint.fX, x11.fEvent.fSolution.fLocation.fPoint.fY, x11.fEvent.fSolution.fLocation.fPoint.fZ, x11.fEvent.fSolution.fLocation.fTime, x11.fEvent.fSolution.fLocation.fMisfit, x11.fEvent.fSolution.fLocation.fLower, x11.fEvent.fSolution.fLocation.fArea.fLow.fX, x11.fEvent.fSolution.fLocation.fArea.fLow.fY, x11.fEvent.fSolution.fLocation.fArea.fLow.fZ, x11.fEvent.fSolution.fLocation.fArea.fHigh.fX, x11.fEvent.fSolution.fLocation.fArea.fHigh.fY, x11.fEvent.fSolution.fLocation.fArea.fHigh.fZ, x11.fEvent.fSolution.fMagnitude.fLow, x11.fEvent.fSolution.fMagnitude.fHigh, x11.fEvent.fSolution.fCount), rfl, h⟩
   rintro ⟨j21, j22, j23, j24, j25, j26, j27, j28, j29, j30, j31, j32, j33, j34, j35, j36, j37, j38, j39, j40, j41, j42, j43, j44, j45, j46, j47, j48⟩ R' B' hI h
   refine qS<|gS rfl hI<|sM rfl<|sF h (fun h => ?_) fun h => ?_
   ·refine sN<|cT<|gS rfl rfl<|sM rfl<|sV (.ptr 288 37)<|sS 288 (.var [.d (.int .i64 x11.fID), .d (.bool j22), .d (.str j12), .d (.str j13), .d (.str j14), .d (.str j15), .d (.int .i64 j16), .d (.int .i64 j17), .d (.int .i64 j18), .d (.int .i64 j19), .d (.int .i64 j20), .d (.int .i64 j23), .d (.str j24), .d (.str j25), .d (.str j26), .d (.str j27), .d (.int .i64 j28), .d (.int .i64 j29), .d (.int .i64 j30), .d (.int .i64 j31), .d (.int .i64 j32), .d (.lst (j33.map T_api_Pick.pd)), .d (.int .i64 j34), .d (.int .i64 j35), .d (.int .i64 j36), .d (.int .i64 j37), .d (.int .i64 j38), .d (.int .i64 j39), .d (.int .i64 j40), .d (.int .i64 j41), .d (.int .i64 j42), .d (.int .i64 j43), .d (.int .i64 j44), .d (.int .i64 j45), .d (.int .i64 j46), .d (.int .i64 j47), .d (.int .i64 j48), .d (.int .i64 a4)])<|sN<|WC.region rfl rfl<|sM rfl<|sM rfl<|sM rfl<|WO.lenR rfl rfl rfl rfl rfl rfl rfl rfl rfl<|sV (.d (.int .i64 (IntKind.wrap .i64 (a2 + (s6.length : Int)))))<|sM rfl<|sV (.ptr 288 0) ?_
    refine sL rfl<|sM rfl<|sV (.ptr 288 11)<|sL rfl<|sV (.ptr 288 12)<|sV (.d (T_api_Event.pd (T_api_Event.mk (T_api_Pick.mk (T_api_SourceID.mk j24 j25 j26 j27) j28 j29 j30 j31 j32) (T_api_Solution.mk j33 (T_api_Location.mk (T_api_Position.mk j34 j35 j36) j37 j38 j39 (T_api_Box.mk (T_api_Position.mk j40 j41 j42) (T_api_Position.mk j43 j44 j45))) (T_api_Estimate.mk j46 j47) j48))))<|sG (.d (T_api_Bulletin.pd (T_api_Bulletin.mk (IntKind.wrap .i64 (a2 + (s6.length : Int))) j21 x11.fID a4 j23 (T_api_Event.mk (T_api_Pick.mk (T_api_SourceID.mk j24 j25 j26 j27) j28 j29 j30 j31 j32) (T_api_Solution.mk j33 (T_api_Location.mk (T_api_Position.mk j34 j35 j36) j37 j38 j39 (T_api_Box.mk (T_api_Position.mk j40 j41 j42) (T_api_Position.mk j43 j44 j45))) (T_api_Estimate.mk j46 j47) j48)))))<|sG (.d (.lst ([(T_api_Bulletin.mk (IntKind.wrap .i64 (a2 + (s6.length : Int))) j21 x11.fID a4 j23 (T_api_Event.mk (T_api_Pick.mk (T_api_SourceID.mk j24 j25 j26 j27) j28 j29 j30 j31 j32) (T_api_Solution.mk j33 (T_api_Location.mk (T_api_Position.mk j34 j35 j36) j37 j38 j39 (T_api_Box.mk (T_api_Position.mk j40 j41 j42) (T_api_Position.mk j43 j44 j45))) (T_api_Estimate.mk j46 j47) j48)))].map T_api_Bulletin.pd)))<|bE h fun x50 hx50 h => WO.appR hx50 (fun _ => rfl) rfl rfl rfl rfl rfl rfl rfl rfl rfl rfl rfl rfl rfl rfl<|sA rfl<|sN<|WC.region rfl rfl<|sM rfl<|sV (.d (T_api_Alert.pd (T_api_Alert.mk x11.fID j22 (T_api_Pick.mk (T_api_SourceID.mk j12 j13 j14 j15) j16 j17 j18 j19 j20) j23 (T_api_Event.mk (T_api_Pick.mk (T_api_SourceID.mk j24 j25 j26 j27) j28 j29 j30 j31 j32) (T_api_Solution.mk j33 (T_api_Location.mk (T_api_Position.mk j34 j35 j36) j37 j38 j39 (T_api_Box.mk (T_api_Position.mk j40 j41 j42) (T_api_Position.mk j43 j44 j45))) (T_api_Estimate.mk j46 j47) j48)) a4))) ?_
    refine sG (.d (.lst ([(T_api_Alert.mk x11.fID j22 (T_api_Pick.mk (T_api_SourceID.mk j12 j13 j14 j15) j16 j17 j18 j19 j20) j23 (T_api_Event.mk (T_api_Pick.mk (T_api_SourceID.mk j24 j25 j26 j27) j28 j29 j30 j31 j32) (T_api_Solution.mk j33 (T_api_Location.mk (T_api_Position.mk j34 j35 j36) j37 j38 j39 (T_api_Box.mk (T_api_Position.mk j40 j41 j42) (T_api_Position.mk j43 j44 j45))) (T_api_Estimate.mk j46 j47) j48)) a4)].map T_api_Alert.pd)))<|bE h fun x51 hx51 h => WO.appR hx51 (fun _ => rfl) rfl rfl rfl rfl rfl rfl rfl rfl rfl rfl rfl rfl rfl rfl<|sA rfl<|sN<|WC.region rfl rfl<|sM rfl<|sV (.d (.int .i64 (IntKind.wrap .i64 (s4 + (1 : Int)))))<|sA rfl<|sN ?_
    obtain rfl:=oI h
    exact ⟨rfl, rfl⟩
   refine sN<|cF<|qK<|WC.region rfl rfl<|sM rfl<|sV (.d (T_api_Alert.pd (T_api_Alert.mk x11.fID j22 (T_api_Pick.mk (T_api_SourceID.mk j12 j13 j14 j15) j16 j17 j18 j19 j20) j23 (T_api_Event.mk (T_api_Pick.mk (T_api_SourceID.mk j24 j25 j26 j27) j28 j29 j30 j31 j32) (T_api_Solution.mk j33 (T_api_Location.mk (T_api_Position.mk j34 j35 j36) j37 j38 j39 (T_api_Box.mk (T_api_Position.mk j40 j41 j42) (T_api_Position.mk j43 j44 j45))) (T_api_Estimate.mk j46 j47) j48)) x11.fAt)))<|sG (.d (.lst ([(T_api_Alert.mk x11.fID j22 (T_api_Pick.mk (T_api_SourceID.mk j12 j13 j14 j15) j16 j17 j18 j19 j20) j23 (T_api_Event.mk (T_api_Pick.mk (T_api_SourceID.mk j24 j25 j26 j27) j28 j29 j30 j31 j32) (T_api_Solution.mk j33 (T_api_Location.mk (T_api_Position.mk j34 j35 j36) j37 j38 j39 (T_api_Box.mk (T_api_Position.mk j40 j41 j42) (T_api_Position.mk j43 j44 j45))) (T_api_Estimate.mk j46 j47) j48)) x11.fAt)].map T_api_Alert.pd)))<|bE h fun x52 hx52 h => WO.appR hx52 (fun _ => rfl) rfl rfl rfl rfl rfl rfl rfl rfl rfl rfl rfl rfl rfl rfl<|sA rfl<|sN<|WC.region rfl rfl<|sM rfl<|sV (.d (.int .i64 (IntKind.wrap .i64 (s4 + (1 : Int)))))<|sA rfl ?_
   refine sN ?_
   obtain rfl:=oI h
   exact ⟨rfl, rfl⟩
  refine sN<|cF<|qX ?_
  obtain rfl:=oI h
  exact ⟨(fun he => by cases he), rfl, rfl⟩
 intro e R' B' he hq
 obtain ⟨rfl, hI⟩ := hq
 refine qE<|qS<|gS rfl hI<|sV (.d (.int .i64 0))<|sN<|bE h fun o93 ho93 h => WC.block (WC.loop (WL.ofLoop ho93 (fun s R' B' => ghosts prog 0 (A R' B') (hints.at_ 33 0 25) = some (A [(2, .d (.int .i64 a2)), (3, .d (.lst (a3.map T_api_Event.pd))), (4, .d (.int .i64 a4)), (5, .ptr 80 0), (14, .d (.lst (x3.map (PD.int .i64)))), (15, .ref 2112 0), (16, .ref 2048 0), (21, .d (.int .i64 s.1))] [(80, .var [.d (.lst (a0.fRules.map T_api_Rule.pd)), .d (.int .i64 a0.fDistance), .d (.int .i64 a0.fEvery)]), (2048, .arr 0 40 (s.2.2.map T_api_Bulletin.pd)), (2112, .arr 0 123 (s.2.1.map T_api_Alert.pd))])) (fun o e R' B' => e = .exit 3 ∧ ghosts prog 0 (A R' B') (hints.at_ 33 0 31) = some (A [(2, .d (.int .i64 a2)), (15, .ref 2112 0), (16, .ref 2048 0)] [(2048, .arr 0 40 (o.2.map T_api_Bulletin.pd)), (2112, .arr 0 123 (o.1.map T_api_Alert.pd))])) rfl ?_ ?_))
 ·rintro ⟨s74, s75, s76⟩ R' B' q79 hI h
  refine qS<|gS rfl hI<|sM rfl<|sM rfl<|sE (.d (.int .i64 (a3.length : Int))) (lenMap _ _)<|sF h (fun h => ?_) fun h => ?_
  ·refine sN<|cT<|qK<|qS<|qB<|qS<|WC.regionDSeq rfl rfl<|sM rfl<|sM rfl<|bE h fun x81 hx81 h => ite_elim h (fun hb82 h => ?_) (fun hb82 h => ?_)
   ·refine WO.callR (v := .d (.bool true)) (u := []) rfl rfl (fun _ => rfl) rfl rfl rfl rfl rfl (ref36_inqq_ev hx81) rfl rfl (congrArg (fun b => RV.d (.bool b)) hb82) rfl<|sM rfl<|sK<|sK<|sK<|sK<|sK<|sK<|sK<|sK<|sT ?_
    refine sN<|sO<|cT<|qX<|qE<|WC.region rfl rfl<|sM rfl<|sV (.d (.int .i64 (IntKind.wrap .i64 (s74 + (1 : Int)))))<|sA rfl<|sN ?_
    obtain rfl:=oI h
    exact ⟨rfl, rfl⟩
   refine WO.callR (v := .d (.bool false)) (u := []) rfl rfl (fun _ => rfl) rfl rfl rfl rfl rfl (ref36_inqq_ev hx81) rfl rfl (congrArg (fun b => RV.d (.bool b)) hb82) rfl<|sM rfl<|sV (.d (T_api_Policy.pd a0))<|sM rfl<|sM rfl<|bE h fun x83 hx83 h => WO.elemG hx83 rfl rfl rfl rfl rfl rfl rfl rfl rfl<|sV (.d (T_api_Event.pd x83))<|sM rfl<|bE h fun x84 hx84 h => cD (ref35_Timely_ev hx84)<|sV (.d (.bool (!x84)))<|sF h (fun h => ?_) fun h => ?_
   ·refine sN<|sO<|cT<|qX<|qE<|WC.region rfl rfl<|sM rfl<|sV (.d (.int .i64 (IntKind.wrap .i64 (s74 + (1 : Int)))))<|sA rfl<|sN ?_
    obtain rfl:=oI h
    exact ⟨rfl, rfl⟩
   refine sN<|sO<|cF<|qK<|WC.regionDSeq rfl rfl<|sM rfl<|sM rfl<|WO.lenR rfl rfl rfl rfl rfl rfl rfl rfl rfl<|sV (.d (.int .i64 (IntKind.wrap .i64 (a2 + (s76.length : Int)))))<|sM rfl<|sM rfl<|bE h fun x86 hx86 h => WO.elemG hx86 rfl rfl rfl rfl rfl rfl rfl rfl rfl<|sV (.cptr [.str x86.fName.fSource.fNetwork, .str x86.fName.fSource.fStation, .str x86.fName.fSource.fLocation, .str x86.fName.fSource.fChannel, .int .i64 x86.fName.fTime, .int .i64 x86.fName.fEarly, .int .i64 x86.fName.fLate, .int .i64 x86.fName.fAmplitude, .int .i64 x86.fName.fPolarity, .lst (x86.fSolution.fPicks.map T_api_Pick.pd), .int .i64 x86.fSolution.fLocation.fPoint.fX, .int .i64 x86.fSolution.fLocation.fPoint.fY, .int .i64 x86.fSolution.fLocation.fPoint.fZ, .int .i64 x86.fSolution.fLocation.fTime, .int .i64 x86.fSolution.fLocation.fMisfit, .int .i64 x86.fSolution.fLocation.fLower, .int .i64 x86.fSolution.fLocation.fArea.fLow.fX, .int .i64 x86.fSolution.fLocation.fArea.fLow.fY, .int .i64 x86.fSolution.fLocation.fArea.fLow.fZ, .int .i64 x86.fSolution.fLocation.fArea.fHigh.fX, .int .i64 x86.fSolution.fLocation.fArea.fHigh.fY, .int .i64 x86.fSolution.fLocation.fArea.fHigh.fZ, .int .i64 x86.fSolution.fMagnitude.fLow, .int .i64 x86.fSolution.fMagnitude.fHigh, .int .i64 x86.fSolution.fCount])<|sV (.d (T_api_Pick.pd x86.fName))<|sV (.d (T_api_Policy.pd a0)) ?_
   refine sM rfl<|sM rfl<|bE h fun x87 hx87 h => WO.elemG hx87 rfl rfl rfl rfl rfl rfl rfl rfl rfl<|sV (.d (T_api_Event.pd x87))<|bE h fun x88 hx88 h => cD (ref35_Level_ev hx88)<|sM rfl<|sM rfl<|bE h fun x89 hx89 h => WO.elemG hx89 rfl rfl rfl rfl rfl rfl rfl rfl rfl<|sV (.d (T_api_Event.pd x89))<|sM rfl<|sG (.d (T_api_Alert.pd (T_api_Alert.mk (IntKind.wrap .i64 (a2 + (s76.length : Int))) false x86.fName x88 x89 a4)))<|sB (.ptr 352 0) 352 (.var [.d (.int .i64 0), .d (.bool false), .d (.str []), .d (.str []), .d (.str []), .d (.str []), .d (.int .i64 0), .d (.int .i64 0), .d (.int .i64 0), .d (.int .i64 0), .d (.int .i64 0), .d (.int .i64 0), .d (.str []), .d (.str []), .d (.str []), .d (.str []), .d (.int .i64 0), .d (.int .i64 0), .d (.int .i64 0), .d (.int .i64 0), .d (.int .i64 0), .nils, .d (.int .i64 0), .d (.int .i64 0), .d (.int .i64 0), .d (.int .i64 0), .d (.int .i64 0), .d (.int .i64 0), .d (.int .i64 0), .d (.int .i64 0), .d (.int .i64 0), .d (.int .i64 0), .d (.int .i64 0), .d (.int .i64 0), .d (.int .i64 0), .d (.int .i64 0), .d (.int .i64 0), .d (.int .i64 0)]) ?_
   refine sH 352 (.var [.d (.int .i64 (IntKind.wrap .i64 (a2 + (s76.length : Int)))), .d (.bool false), .d (.str x86.fName.fSource.fNetwork), .d (.str x86.fName.fSource.fStation), .d (.str x86.fName.fSource.fLocation), .d (.str x86.fName.fSource.fChannel), .d (.int .i64 x86.fName.fTime), .d (.int .i64 x86.fName.fEarly), .d (.int .i64 x86.fName.fLate), .d (.int .i64 x86.fName.fAmplitude), .d (.int .i64 x86.fName.fPolarity), .d (.int .i64 x88), .d (.str x89.fName.fSource.fNetwork), .d (.str x89.fName.fSource.fStation), .d (.str x89.fName.fSource.fLocation), .d (.str x89.fName.fSource.fChannel), .d (.int .i64 x89.fName.fTime), .d (.int .i64 x89.fName.fEarly), .d (.int .i64 x89.fName.fLate), .d (.int .i64 x89.fName.fAmplitude), .d (.int .i64 x89.fName.fPolarity), .d (.lst (x89.fSolution.fPicks.map T_api_Pick.pd)), .d (.int .i64 x89.fSolution.fLocation.fPoint.fX), .d (.int .i64 x89.fSolution.fLocation.fPoint.fY), .d (.int .i64 x89.fSolution.fLocation.fPoint.fZ), .d (.int .i64 x89.fSolution.fLocation.fTime), .d (.int .i64 x89.fSolution.fLocation.fMisfit), .d (.int .i64 x89.fSolution.fLocation.fLower), .d (.int .i64 x89.fSolution.fLocation.fArea.fLow.fX), .d (.int .i64 x89.fSolution.fLocation.fArea.fLow.fY), .d (.int .i64 x89.fSolution.fLocation.fArea.fLow.fZ), .d (.int .i64 x89.fSolution.fLocation.fArea.fHigh.fX), .d (.int .i64 x89.fSolution.fLocation.fArea.fHigh.fY), .d (.int .i64 x89.fSolution.fLocation.fArea.fHigh.fZ), .d (.int .i64 x89.fSolution.fMagnitude.fLow), .d (.int .i64 x89.fSolution.fMagnitude.fHigh), .d (.int .i64 x89.fSolution.fCount), .d (.int .i64 a4)]) ?_
   refine sN<|sO<|gS rfl rfl<|sM rfl<|sV (.ptr 352 0)<|sL rfl<|sV (.ptr 352 0)<|sL rfl<|sM rfl<|sV (.ptr 352 11)<|sL rfl<|sV (.ptr 352 12)<|sV (.d (T_api_Event.pd x89))<|sG (.d (T_api_Bulletin.pd (T_api_Bulletin.mk (IntKind.wrap .i64 (a2 + (s76.length : Int))) 1 (IntKind.wrap .i64 (a2 + (s76.length : Int))) a4 x88 x89)))<|sG (.d (.lst ([(T_api_Bulletin.mk (IntKind.wrap .i64 (a2 + (s76.length : Int))) 1 (IntKind.wrap .i64 (a2 + (s76.length : Int))) a4 x88 x89)].map T_api_Bulletin.pd)))<|bE h fun x90 hx90 h => ?_
   refine WO.appR hx90 (fun _ => rfl) rfl rfl rfl rfl rfl rfl rfl rfl rfl rfl rfl rfl rfl rfl<|sA rfl<|sN<|WC.region rfl rfl<|sM rfl<|sV (.d (T_api_Alert.pd (T_api_Alert.mk (IntKind.wrap .i64 (a2 + (s76.length : Int))) false x86.fName x88 x89 a4)))<|sG (.d (.lst ([(T_api_Alert.mk (IntKind.wrap .i64 (a2 + (s76.length : Int))) false x86.fName x88 x89 a4)].map T_api_Alert.pd)))<|bE h fun x91 hx91 h => WO.appR hx91 (fun _ => rfl) rfl rfl rfl rfl rfl rfl rfl rfl rfl rfl rfl rfl rfl rfl<|sA rfl<|sN<|WC.region rfl rfl<|sM rfl<|sV (.d (.int .i64 (IntKind.wrap .i64 (s74 + (1 : Int)))))<|sA rfl ?_
   refine sN ?_
   obtain rfl:=oI h
   exact ⟨rfl, rfl⟩
  refine sN<|cF<|qX ?_
  obtain rfl:=oI h
  exact ⟨(fun he => by cases he), rfl, rfl⟩
 intro e R' B' he hq
 obtain ⟨rfl, hI⟩ := hq
 refine qE<|qS<|gS rfl hI<|sM rfl<|WO.lenR rfl rfl rfl rfl rfl rfl rfl rfl rfl<|sF h (fun h => ?_) fun h => ?_
 ·refine sM rfl<|sK<|sK<|sK<|sK<|sK<|sK<|sK<|sK<|sK<|sK<|sT<|sN<|cT<|gS rfl rfl ?_
  refine sV .nils<|sV .nils<|sV (.d (.int .i64 8))<|sN<|qR ?_
  obtain rfl:=oI h
  exact qD
 refine sM rfl<|sM rfl<|sM rfl<|WO.lenR rfl rfl rfl rfl rfl rfl rfl rfl rfl<|sV (.d (.int .i64 (IntKind.wrap .i64 (a2 + (o93.2.length : Int)))))<|sF h (fun h => ?_) fun h => ?_
 ·refine sM rfl<|sM rfl<|WO.lenR rfl rfl rfl rfl rfl rfl rfl rfl rfl<|sV (.d (.bool (decide ((o93.2.length : Int) > (0 : Int)))))<|sV (.d (.bool (decide ((o93.2.length : Int) > (0 : Int)))))<|sF h (fun h => ?_) fun h => ?_
  ·refine sN<|cT<|gS rfl rfl<|sV .nils<|sV .nils<|sV (.d (.int .i64 8))<|sN<|qR ?_
   obtain rfl:=oI h
   exact qD
  refine sN<|cF<|qK<|gS rfl rfl<|sM rfl<|sM rfl<|sA rfl<|sA rfl<|sV (.d (.int .i64 0))<|sN<|qR ?_
  obtain rfl:=oI h
  exact qD
 refine sM rfl<|sK<|sK<|sK<|sU<|sU<|sN<|cF<|qK<|gS rfl rfl<|sM rfl<|sM rfl<|sA rfl<|sA rfl<|sV (.d (.int .i64 0)) ?_
 refine sN<|qR ?_
 obtain rfl:=oI h
 exact qD
theorem law37_told_ev {a1 : Int} {d0 : T_seismonetkeep_Src} {r : (List T_api_Bulletin) × T_seismonetkeep_Src} (h : law37_told a1 d0 = some r) : EvP prog hints ext 12 [.ptr 0 0, .d (.int .i64 a1)] [.var [.d (.lst (d0.fL.map (PD.int .i64))), .d (.int .i64 d0.fAt)]] (.ref 1 0, [.var [.d (.lst (r.2.fL.map (PD.int .i64))), .d (.int .i64 r.2.fAt)], .arr 0 40 (r.1.map T_api_Bulletin.pd)]) := by
 refine Ev.body rfl Tryz.func12 rfl (by kernel_rfl)<|gS rfl rfl<|sV .nils<|sN<|gS rfl rfl<|sV .nils<|sN<|gS rfl rfl<|sV .nils<|sN<|gS rfl rfl<|sM rfl<|bE h fun x1 hx1 h => cR (.d (T_api_Policy.pd x1.1)) [(0, .var [.d (.lst (x1.2.fL.map (PD.int .i64))), .d (.int .i64 x1.2.fAt)])] (Src_Policy_ev hx1)<|sB (.ptr 112 0) 112 (.var [.nils, .d (.int .i64 0), .d (.int .i64 0)]) ?_
 refine sS 112 (.var [.d (.lst (x1.1.fRules.map T_api_Rule.pd)), .d (.int .i64 x1.1.fDistance), .d (.int .i64 x1.1.fEvery)])<|sV (.d (.int .i64 1000))<|sN<|qS<|gS rfl rfl<|sV (.d (.int .i64 0))<|sN<|bE h fun o19 ho19 h => WC.block (WC.loop (WL.ofLoop ho19 (fun s R' B' => ghosts prog 1 (A R' B') (hints.at_ 12 1 5) = some (A [(0, .ptr 0 0), (1, .d (.int .i64 a1)), (5, .d (.lst (s.1.map T_api_Alert.pd))), (6, .ref 656 0), (7, .ptr 112 0), (8, .d (.int .i64 s.2.1)), (9, .d (.int .i64 s.2.2.1))] [(0, .var [.d (.lst (s.2.2.2.1.map (PD.int .i64))), .d (.int .i64 s.2.2.2.2.1)]), (112, .var [.d (.lst (x1.1.fRules.map T_api_Rule.pd)), .d (.int .i64 x1.1.fDistance), .d (.int .i64 x1.1.fEvery)]), (656, .arr 0 40 (s.2.2.2.2.2.map T_api_Bulletin.pd))])) (fun o e R' B' => e = .exit 0 ∧ ghosts prog 1 (A R' B') (hints.at_ 12 1 11) = some (A [(6, .ref 656 0)] [(0, .var [.d (.lst (o.2.1.map (PD.int .i64))), .d (.int .i64 o.2.2)]), (656, .arr 0 40 (o.1.map T_api_Bulletin.pd))])) rfl ?_ ?_))
 ·rintro ⟨s2, s3, s4, s5, s6, s7⟩ R' B' q11 hI h
  refine qS<|gS rfl hI<|sM rfl<|sM rfl<|sF h (fun h => ?_) fun h => ?_
  ·refine sN<|cT<|qK<|qS<|qB<|gS rfl rfl<|sM rfl<|sM rfl<|bE h fun x13 hx13 h => cR (.d (.int .i64 x13.1)) [(0, .var [.d (.lst (x13.2.fL.map (PD.int .i64))), .d (.int .i64 x13.2.fAt)])] (Src_N_ev hx13)<|sV (.d (.int .i64 (IntKind.wrap .i64 (s3 + x13.1))))<|sA rfl<|sN<|WC.regionDSeq rfl rfl<|sV (.d (.agg [.lst (x1.1.fRules.map T_api_Rule.pd), .int .i64 x1.1.fDistance, .int .i64 x1.1.fEvery])) ?_
   refine sM rfl<|sM rfl<|WO.lenR rfl rfl rfl rfl rfl rfl rfl rfl rfl<|sM rfl<|bE h fun x14 hx14 h => cR (.d (.lst (x14.1.map T_api_Event.pd))) [(0, .var [.d (.lst (x14.2.fL.map (PD.int .i64))), .d (.int .i64 x14.2.fAt)])] (Src_Events_ev hx14)<|sM rfl<|bE h fun x15 hx15 h => cR (.tup [.d (.lst (x15.1.map T_api_Alert.pd)), .d (.lst (x15.2.1.map T_api_Bulletin.pd)), .d (.int .i64 x15.2.2)]) [] (ref36_Step_ev hx15)<|sM rfl<|sV (.d (.lst (x15.1.map T_api_Alert.pd)))<|sV (.d (.lst (x15.2.1.map T_api_Bulletin.pd)))<|sV (.d (.int .i64 x15.2.2))<|sA rfl<|sA rfl ?_
   refine sA rfl ?_
   refine sN<|sO<|gS rfl rfl<|sM rfl<|sF h (fun h => ?_) fun h => ?_
   ·refine sN<|cT<|WC.region rfl rfl<|sM rfl<|sM rfl<|sM rfl<|bE h fun x17 hx17 h => WO.appR hx17 (fun _ => rfl) rfl rfl rfl rfl rfl rfl rfl rfl rfl rfl rfl rfl rfl rfl<|sA rfl<|sA rfl<|sN<|WC.region rfl rfl<|sM rfl<|sV (.d (.int .i64 (IntKind.wrap .i64 (s4 + (1 : Int)))))<|sA rfl ?_
    refine sN ?_
    obtain rfl:=oI h
    exact ⟨rfl, rfl⟩
   refine sN<|cF<|qK<|WC.region rfl rfl<|sM rfl<|sV (.d (.int .i64 (IntKind.wrap .i64 (s4 + (1 : Int)))))<|sA rfl<|sN ?_
   obtain rfl:=oI h
   exact ⟨rfl, rfl⟩
  refine sN<|cF<|qX ?_
  obtain rfl:=oI h
  exact ⟨(fun he => by cases he), rfl, rfl⟩
 intro e R' B' he hq
 obtain ⟨rfl, hI⟩ := hq
 refine qE<|gS rfl hI<|sM rfl<|sA rfl<|sN<|qR ?_
 obtain rfl:=oI h
 exact qD
theorem law37_FeedBack_ev {a0 : (List Int)} {a1 : (List UInt8)} {r : Bool} (h : law37_FeedBack a0 a1 = some r) : EvP prog hints ext 4 [.d (.lst (a0.map (PD.int .i64))), .d (.str a1)] [] (.d (.bool r), []) := by
 refine Ev.body rfl Tryz.func4 rfl (by kernel_rfl)<|gS rfl rfl<|sU<|sN<|qS<|gS rfl rfl<|sM rfl<|sV (.d (.int .i64 (a1.length : Int)))<|sF h (fun h => ?_) fun h => ?_
 ·refine sN<|cT<|gS rfl rfl<|bE h fun x2 hx2 h => cD (law37_awake_ev hx2)<|sA rfl<|sN<|qR ?_
  obtain rfl:=oI h
  exact qD
 refine sN<|cF<|qK<|gS rfl rfl<|sM rfl<|bE h fun x3 hx3 h => cR (.ptr 336 0) [(336, .var [.d (.lst (x3.fL.map (PD.int .i64))), .d (.int .i64 x3.fAt)])] (keep_New_ev hx3)<|sA rfl<|sN<|qS<|gS rfl rfl<|sM rfl<|bE h fun x4 hx4 h => cR (.ref 368 0) [(336, .var [.d (.lst (x4.2.fL.map (PD.int .i64))), .d (.int .i64 x4.2.fAt)]), (368, .arr 0 40 (x4.1.map T_api_Bulletin.pd))] (law37_told_ev hx4)<|sM rfl ?_
 refine bE h fun x5 hx5 h => cR (.d (.int .i64 x5.1)) [(336, .var [.d (.lst (x5.2.fL.map (PD.int .i64))), .d (.int .i64 x5.2.fAt)])] (Src_N_ev hx5)<|bE h fun x6 hx6 h => cD (law37_one_ev hx6)<|sG (.d (.lst ([x6].map T_api_Bulletin.pd)))<|bE h fun x7 hx7 h => WO.appR hx7 (fun _ => rfl) rfl rfl rfl rfl rfl rfl rfl rfl rfl rfl rfl rfl rfl rfl<|WO.lenR rfl rfl rfl rfl rfl rfl rfl rfl rfl<|sV (.d (.int .i64 0))<|sN<|bE h fun o21 ho21 h => WC.block (WC.loop (WL.ofLoop ho21 (fun s R' B' => ghosts prog 0 (A R' B') (hints.at_ 4 0 5) = some (A [(1, .d (.str a1)), (28, .ref 368 0), (29, .d (.int .i64 (x7.length : Int))), (30, .d (.int .i64 s))] [(368, .arr 0 40 (x7.map T_api_Bulletin.pd))])) (fun o e R' B' => match o with | .inl y => e = .exit 0 ∧ ghosts prog 0 (A R' B') (hints.at_ 4 0 12) = some (A [(1, .d (.str a1))] []) | .inr r => e = .ret ∧ finish prog (hints.own 4) Tryz.f4 0 (A R' B') = some (.d (.bool r), [])) rfl ?_ ?_))
 ·rintro s8 R' B' q9 hI h
  refine gS rfl hI<|sF h (fun h => ?_) fun h => ?_
  ·refine sN<|qS<|cT<|qK<|qS<|qB<|gS rfl rfl<|bE h fun x12 hx12 h => WO.eltG hx12 rfl rfl rfl rfl rfl rfl rfl rfl<|bE h fun x13 hx13 h => WO.loadE hx13 rfl rfl rfl rfl rfl rfl<|sB (.ptr 112 0) 112 (.var [.d (.int .i64 0), .d (.int .i64 0), .d (.int .i64 0), .d (.int .i64 0), .d (.int .i64 0), .d (.str []), .d (.str []), .d (.str []), .d (.str []), .d (.int .i64 0), .d (.int .i64 0), .d (.int .i64 0), .d (.int .i64 0), .d (.int .i64 0), .nils, .d (.int .i64 0), .d (.int .i64 0), .d (.int .i64 0), .d (.int .i64 0), .d (.int .i64 0), .d (.int .i64 0), .d (.int .i64 0), .d (.int .i64 0), .d (.int .i64 0), .d (.int .i64 0), .d (.int .i64 0), .d (.int .i64 0), .d (.int .i64 0), .d (.int .i64 0), .d (.int .i64 0)])<|sH 112 (.var [.d (.int .i64 x13.fNumber), .d (.int .i64 x13.fKind), .d (.int .i64 x13.fID), .d (.int .i64 x13.fAt), .d (.int .i64 x13.fLevel), .d (.str x13.fEvent.fName.fSource.fNetwork), .d (.str x13.fEvent.fName.fSource.fStation), .d (.str x13.fEvent.fName.fSource.fLocation), .d (.str x13.fEvent.fName.fSource.fChannel), .d (.int .i64 x13.fEvent.fName.fTime), .d (.int .i64 x13.fEvent.fName.fEarly), .d (.int .i64 x13.fEvent.fName.fLate), .d (.int .i64 x13.fEvent.fName.fAmplitude), .d (.int .i64 x13.fEvent.fName.fPolarity), .d (.lst (x13.fEvent.fSolution.fPicks.map T_api_Pick.pd)), .d (.int .i64 x13.fEvent.fSolution.fLocation.fPoint.fX), .d (.int .i64 x13.fEvent.fSolution.fLocation.fPoint.fY), .d (.int .i64 x13.fEvent.fSolution.fLocation.fPoint.fZ), .d (.int .i64 x13.fEvent.fSolution.fLocation.fTime), .d (.int .i64 x13.fEvent.fSolution.fLocation.fMisfit), .d (.int .i64 x13.fEvent.fSolution.fLocation.fLower), .d (.int .i64 x13.fEvent.fSolution.fLocation.fArea.fLow.fX), .d (.int .i64 x13.fEvent.fSolution.fLocation.fArea.fLow.fY), .d (.int .i64 x13.fEvent.fSolution.fLocation.fArea.fLow.fZ), .d (.int .i64 x13.fEvent.fSolution.fLocation.fArea.fHigh.fX), .d (.int .i64 x13.fEvent.fSolution.fLocation.fArea.fHigh.fY), .d (.int .i64 x13.fEvent.fSolution.fLocation.fArea.fHigh.fZ), .d (.int .i64 x13.fEvent.fSolution.fMagnitude.fLow), .d (.int .i64 x13.fEvent.fSolution.fMagnitude.fHigh), .d (.int .i64 x13.fEvent.fSolution.fCount)])<|sN<|gS rfl rfl ?_
   refine sV (.d (T_api_Bulletin.pd x13))<|bE h fun x14 hx14 h => cR (.tup [.d (.str x14.1), .d (.int .i64 x14.2)]) [] (feed_Encode_ev hx14)<|sM rfl<|sV (.d (.str x14.1))<|sV (.d (.int .i64 x14.2))<|sA rfl<|sA rfl<|sN<|gS rfl rfl<|sM rfl<|bE h fun x15 hx15 h => cR (.tup [.d (T_api_Bulletin.pd x15.1), .d (.int .i64 x15.2)]) [] (feed_Decode_ev hx15)<|sM rfl<|sV (.d (T_api_Bulletin.pd x15.1)) ?_
   refine sV (.d (.int .i64 x15.2))<|sB (.ptr 160 0) 160 (.var [.d (.int .i64 0), .d (.int .i64 0), .d (.int .i64 0), .d (.int .i64 0), .d (.int .i64 0), .d (.str []), .d (.str []), .d (.str []), .d (.str []), .d (.int .i64 0), .d (.int .i64 0), .d (.int .i64 0), .d (.int .i64 0), .d (.int .i64 0), .nils, .d (.int .i64 0), .d (.int .i64 0), .d (.int .i64 0), .d (.int .i64 0), .d (.int .i64 0), .d (.int .i64 0), .d (.int .i64 0), .d (.int .i64 0), .d (.int .i64 0), .d (.int .i64 0), .d (.int .i64 0), .d (.int .i64 0), .d (.int .i64 0), .d (.int .i64 0), .d (.int .i64 0)])<|sH 160 (.var [.d (.int .i64 x15.1.fNumber), .d (.int .i64 x15.1.fKind), .d (.int .i64 x15.1.fID), .d (.int .i64 x15.1.fAt), .d (.int .i64 x15.1.fLevel), .d (.str x15.1.fEvent.fName.fSource.fNetwork), .d (.str x15.1.fEvent.fName.fSource.fStation), .d (.str x15.1.fEvent.fName.fSource.fLocation), .d (.str x15.1.fEvent.fName.fSource.fChannel), .d (.int .i64 x15.1.fEvent.fName.fTime), .d (.int .i64 x15.1.fEvent.fName.fEarly), .d (.int .i64 x15.1.fEvent.fName.fLate), .d (.int .i64 x15.1.fEvent.fName.fAmplitude), .d (.int .i64 x15.1.fEvent.fName.fPolarity), .d (.lst (x15.1.fEvent.fSolution.fPicks.map T_api_Pick.pd)), .d (.int .i64 x15.1.fEvent.fSolution.fLocation.fPoint.fX), .d (.int .i64 x15.1.fEvent.fSolution.fLocation.fPoint.fY), .d (.int .i64 x15.1.fEvent.fSolution.fLocation.fPoint.fZ), .d (.int .i64 x15.1.fEvent.fSolution.fLocation.fTime), .d (.int .i64 x15.1.fEvent.fSolution.fLocation.fMisfit), .d (.int .i64 x15.1.fEvent.fSolution.fLocation.fLower), .d (.int .i64 x15.1.fEvent.fSolution.fLocation.fArea.fLow.fX), .d (.int .i64 x15.1.fEvent.fSolution.fLocation.fArea.fLow.fY), .d (.int .i64 x15.1.fEvent.fSolution.fLocation.fArea.fLow.fZ), .d (.int .i64 x15.1.fEvent.fSolution.fLocation.fArea.fHigh.fX), .d (.int .i64 x15.1.fEvent.fSolution.fLocation.fArea.fHigh.fY), .d (.int .i64 x15.1.fEvent.fSolution.fLocation.fArea.fHigh.fZ), .d (.int .i64 x15.1.fEvent.fSolution.fMagnitude.fLow), .d (.int .i64 x15.1.fEvent.fSolution.fMagnitude.fHigh), .d (.int .i64 x15.1.fEvent.fSolution.fCount)])<|sA rfl<|sN<|gS rfl rfl<|sM rfl<|sF h (fun h => ?_) fun h => ?_
   ·refine sM rfl<|sK<|sK<|sT<|sM rfl<|sK<|sK<|sK<|sK<|sT<|sN<|cT<|gS rfl rfl<|sU<|sN ?_
    refine qR ?_
    obtain rfl:=oI h
    exact ⟨(fun he => by cases he), rfl, rfl⟩
   refine sM rfl<|sM rfl<|sV (.d (.bool (x15.2 != (0 : Int))))<|sF h (fun h => ?_) fun h => ?_
   ·refine sM rfl<|sK<|sK<|sK<|sK<|sT<|sN<|cT<|gS rfl rfl<|sU<|sN<|qR ?_
    obtain rfl:=oI h
    exact ⟨(fun he => by cases he), rfl, rfl⟩
   refine sM rfl<|sV (.d (T_api_Bulletin.pd x13))<|sV (.d (.agg [.int .i64 x15.1.fNumber, .int .i64 x15.1.fKind, .int .i64 x15.1.fID, .int .i64 x15.1.fAt, .int .i64 x15.1.fLevel, .str x15.1.fEvent.fName.fSource.fNetwork, .str x15.1.fEvent.fName.fSource.fStation, .str x15.1.fEvent.fName.fSource.fLocation, .str x15.1.fEvent.fName.fSource.fChannel, .int .i64 x15.1.fEvent.fName.fTime, .int .i64 x15.1.fEvent.fName.fEarly, .int .i64 x15.1.fEvent.fName.fLate, .int .i64 x15.1.fEvent.fName.fAmplitude, .int .i64 x15.1.fEvent.fName.fPolarity, .lst (x15.1.fEvent.fSolution.fPicks.map T_api_Pick.pd), .int .i64 x15.1.fEvent.fSolution.fLocation.fPoint.fX, .int .i64 x15.1.fEvent.fSolution.fLocation.fPoint.fY, .int .i64 x15.1.fEvent.fSolution.fLocation.fPoint.fZ, .int .i64 x15.1.fEvent.fSolution.fLocation.fTime, .int .i64 x15.1.fEvent.fSolution.fLocation.fMisfit, .int .i64 x15.1.fEvent.fSolution.fLocation.fLower, .int .i64 x15.1.fEvent.fSolution.fLocation.fArea.fLow.fX, .int .i64 x15.1.fEvent.fSolution.fLocation.fArea.fLow.fY, .int .i64 x15.1.fEvent.fSolution.fLocation.fArea.fLow.fZ, .int .i64 x15.1.fEvent.fSolution.fLocation.fArea.fHigh.fX, .int .i64 x15.1.fEvent.fSolution.fLocation.fArea.fHigh.fY, .int .i64 x15.1.fEvent.fSolution.fLocation.fArea.fHigh.fZ, .int .i64 x15.1.fEvent.fSolution.fMagnitude.fLow, .int .i64 x15.1.fEvent.fSolution.fMagnitude.fHigh, .int .i64 x15.1.fEvent.fSolution.fCount]))<|bE h fun x18 hx18 h => cD (ref36_SameBulletin_ev hx18)<|sV (.d (.bool (!x18)))<|sF h (fun h => ?_) fun h => ?_
   ·refine sN<|cT<|gS rfl rfl<|sU<|sN<|qR ?_
    obtain rfl:=oI h
    exact ⟨(fun he => by cases he), rfl, rfl⟩
   refine sN<|cF<|qK<|WC.region rfl rfl<|sV (.d (.int .i64 (IntKind.wrap .i64 (s8 + (1 : Int)))))<|sM rfl<|sN ?_
   obtain rfl:=oI h
   exact ⟨rfl, rfl⟩
  refine sN<|qS<|cF<|qX ?_
  obtain rfl:=oI h
  exact ⟨(fun he => by cases he), rfl, rfl⟩
 intro e R' B' he hq
 rcases o21 with y22 | r23
 ·obtain ⟨rfl, hI⟩ := hq
  refine qE<|qS<|gS rfl hI<|sM rfl<|bE h fun x24 hx24 h => cR (.tup [.d (T_api_Bulletin.pd x24.1), .d (.int .i64 x24.2)]) [] (feed_Decode_ev hx24)<|sM rfl<|sV (.d (T_api_Bulletin.pd x24.1))<|sV (.d (.int .i64 x24.2))<|sB (.ptr 192 0) 192 (.var [.d (.int .i64 0), .d (.int .i64 0), .d (.int .i64 0), .d (.int .i64 0), .d (.int .i64 0), .d (.str []), .d (.str []), .d (.str []), .d (.str []), .d (.int .i64 0), .d (.int .i64 0), .d (.int .i64 0), .d (.int .i64 0), .d (.int .i64 0), .nils, .d (.int .i64 0), .d (.int .i64 0), .d (.int .i64 0), .d (.int .i64 0), .d (.int .i64 0), .d (.int .i64 0), .d (.int .i64 0), .d (.int .i64 0), .d (.int .i64 0), .d (.int .i64 0), .d (.int .i64 0), .d (.int .i64 0), .d (.int .i64 0), .d (.int .i64 0), .d (.int .i64 0)])<|sH 192 (.var [.d (.int .i64 x24.1.fNumber), .d (.int .i64 x24.1.fKind), .d (.int .i64 x24.1.fID), .d (.int .i64 x24.1.fAt), .d (.int .i64 x24.1.fLevel), .d (.str x24.1.fEvent.fName.fSource.fNetwork), .d (.str x24.1.fEvent.fName.fSource.fStation), .d (.str x24.1.fEvent.fName.fSource.fLocation), .d (.str x24.1.fEvent.fName.fSource.fChannel), .d (.int .i64 x24.1.fEvent.fName.fTime), .d (.int .i64 x24.1.fEvent.fName.fEarly), .d (.int .i64 x24.1.fEvent.fName.fLate), .d (.int .i64 x24.1.fEvent.fName.fAmplitude), .d (.int .i64 x24.1.fEvent.fName.fPolarity), .d (.lst (x24.1.fEvent.fSolution.fPicks.map T_api_Pick.pd)), .d (.int .i64 x24.1.fEvent.fSolution.fLocation.fPoint.fX), .d (.int .i64 x24.1.fEvent.fSolution.fLocation.fPoint.fY), .d (.int .i64 x24.1.fEvent.fSolution.fLocation.fPoint.fZ), .d (.int .i64 x24.1.fEvent.fSolution.fLocation.fTime), .d (.int .i64 x24.1.fEvent.fSolution.fLocation.fMisfit), .d (.int .i64 x24.1.fEvent.fSolution.fLocation.fLower), .d (.int .i64 x24.1.fEvent.fSolution.fLocation.fArea.fLow.fX), .d (.int .i64 x24.1.fEvent.fSolution.fLocation.fArea.fLow.fY), .d (.int .i64 x24.1.fEvent.fSolution.fLocation.fArea.fLow.fZ), .d (.int .i64 x24.1.fEvent.fSolution.fLocation.fArea.fHigh.fX), .d (.int .i64 x24.1.fEvent.fSolution.fLocation.fArea.fHigh.fY), .d (.int .i64 x24.1.fEvent.fSolution.fLocation.fArea.fHigh.fZ), .d (.int .i64 x24.1.fEvent.fSolution.fMagnitude.fLow), .d (.int .i64 x24.1.fEvent.fSolution.fMagnitude.fHigh), .d (.int .i64 x24.1.fEvent.fSolution.fCount)])<|sA rfl<|sN<|gS rfl rfl<|sM rfl ?_
  refine sF h (fun h => ?_) fun h => ?_
  ·refine sN<|cT<|gS rfl rfl<|sV (.d (.agg [.int .i64 x24.1.fNumber, .int .i64 x24.1.fKind, .int .i64 x24.1.fID, .int .i64 x24.1.fAt, .int .i64 x24.1.fLevel, .str x24.1.fEvent.fName.fSource.fNetwork, .str x24.1.fEvent.fName.fSource.fStation, .str x24.1.fEvent.fName.fSource.fLocation, .str x24.1.fEvent.fName.fSource.fChannel, .int .i64 x24.1.fEvent.fName.fTime, .int .i64 x24.1.fEvent.fName.fEarly, .int .i64 x24.1.fEvent.fName.fLate, .int .i64 x24.1.fEvent.fName.fAmplitude, .int .i64 x24.1.fEvent.fName.fPolarity, .lst (x24.1.fEvent.fSolution.fPicks.map T_api_Pick.pd), .int .i64 x24.1.fEvent.fSolution.fLocation.fPoint.fX, .int .i64 x24.1.fEvent.fSolution.fLocation.fPoint.fY, .int .i64 x24.1.fEvent.fSolution.fLocation.fPoint.fZ, .int .i64 x24.1.fEvent.fSolution.fLocation.fTime, .int .i64 x24.1.fEvent.fSolution.fLocation.fMisfit, .int .i64 x24.1.fEvent.fSolution.fLocation.fLower, .int .i64 x24.1.fEvent.fSolution.fLocation.fArea.fLow.fX, .int .i64 x24.1.fEvent.fSolution.fLocation.fArea.fLow.fY, .int .i64 x24.1.fEvent.fSolution.fLocation.fArea.fLow.fZ, .int .i64 x24.1.fEvent.fSolution.fLocation.fArea.fHigh.fX, .int .i64 x24.1.fEvent.fSolution.fLocation.fArea.fHigh.fY, .int .i64 x24.1.fEvent.fSolution.fLocation.fArea.fHigh.fZ, .int .i64 x24.1.fEvent.fSolution.fMagnitude.fLow, .int .i64 x24.1.fEvent.fSolution.fMagnitude.fHigh, .int .i64 x24.1.fEvent.fSolution.fCount]))<|bE h fun x26 hx26 h => cR (.tup [.d (.str x26.1), .d (.int .i64 x26.2)]) [] (feed_Encode_ev hx26)<|sM rfl<|sV (.d (.str x26.1))<|sV (.d (.int .i64 x26.2))<|sA rfl<|sA rfl<|sN<|gS rfl rfl<|sM rfl<|sF h (fun h => ?_) fun h => ?_
   ·refine sM rfl<|sK<|sK<|sK<|sT<|sN<|cT<|gS rfl rfl<|sU<|sN<|qR ?_
    obtain rfl:=oI h
    exact qG
   refine sM rfl<|sM rfl<|sM rfl<|sV (.d (.bool (!(x26.1 == a1))))<|sF h (fun h => ?_) fun h => ?_
   ·refine sN<|cT<|gS rfl rfl<|sU<|sN<|qR ?_
    obtain rfl:=oI h
    exact qG
   refine sN<|cF<|qK<|gS rfl rfl<|bE h fun x29 hx29 h => cD (law37_awake_ev hx29)<|sA rfl<|sN<|qR ?_
   obtain rfl:=oI h
   exact qG
  refine sN<|cF<|qK<|gS rfl rfl<|bE h fun x30 hx30 h => cD (law37_awake_ev hx30)<|sA rfl<|sN<|qR ?_
  obtain rfl:=oI h
  exact qG
 obtain ⟨rfl, hf⟩ := hq
 obtain rfl:=oI h
 exact hf
theorem ref36_SameBulletins_ev {a0 : (List T_api_Bulletin)} {a1 : (List T_api_Bulletin)} {r : Bool} (h : ref36_SameBulletins a0 a1 = some r) : EvP prog hints ext 23 [.d (.lst (a0.map T_api_Bulletin.pd)), .d (.lst (a1.map T_api_Bulletin.pd))] [] (.d (.bool r), []) := by
 refine Ev.body rfl Tryz.func23 rfl (by kernel_rfl)<|gS rfl rfl<|sU<|sN<|qS<|gS rfl rfl<|sM rfl<|sE (.d (.int .i64 (a0.length : Int))) (lenMap _ _)<|sM rfl<|sE (.d (.int .i64 (a1.length : Int))) (lenMap _ _)<|sF h (fun h => ?_) fun h => ?_
 ·refine sN<|cT<|gS rfl rfl<|sU<|sN<|qR ?_
  obtain rfl:=oI h
  exact qD
 refine sN<|cF<|qK<|qS<|gS rfl rfl<|sV (.d (.int .i64 0))<|sN<|bE h fun o10 ho10 h => WC.block (WC.loop (WL.ofLoop ho10 (fun s R' B' => ghosts prog 0 (A R' B') (hints.at_ 23 0 4) = some (A [(0, .d (.lst (a0.map T_api_Bulletin.pd))), (1, .d (.lst (a1.map T_api_Bulletin.pd))), (5, .d (.int .i64 s))] [])) (fun o e R' B' => match o with | .inl y => e = .exit 0 ∧ ghosts prog 0 (A R' B') (hints.at_ 23 0 8) = some (A [] []) | .inr r => e = .ret ∧ finish prog (hints.own 23) Tryz.f23 0 (A R' B') = some (.d (.bool r), [])) rfl ?_ ?_))
 ·rintro s2 R' B' q3 hI h
  refine qS<|gS rfl hI<|sM rfl<|sM rfl<|sE (.d (.int .i64 (a0.length : Int))) (lenMap _ _)<|sF h (fun h => ?_) fun h => ?_
  ·refine sN<|cT<|qK<|qS<|qB<|WC.regionDSeq rfl rfl<|sM rfl<|sM rfl<|bE h fun x5 hx5 h => WO.elemG hx5 rfl rfl rfl rfl rfl rfl rfl rfl rfl<|sV (.d (T_api_Bulletin.pd x5))<|sM rfl<|sM rfl<|bE h fun x6 hx6 h => WO.elemG hx6 rfl rfl rfl rfl rfl rfl rfl rfl rfl ?_
   refine sV (.d (T_api_Bulletin.pd x6))<|bE h fun x7 hx7 h => cD (ref36_SameBulletin_ev hx7)<|sF h (fun h => ?_) fun h => ?_
   ·refine sN<|sO<|cT<|gS rfl rfl<|sU<|sN<|qR ?_
    obtain rfl:=oI h
    exact ⟨(fun he => by cases he), rfl, rfl⟩
   refine sN<|sO<|cF<|qK<|WC.region rfl rfl<|sM rfl<|sV (.d (.int .i64 (IntKind.wrap .i64 (s2 + (1 : Int)))))<|sA rfl<|sN ?_
   obtain rfl:=oI h
   exact ⟨rfl, rfl⟩
  refine sN<|cF<|qX ?_
  obtain rfl:=oI h
  exact ⟨(fun he => by cases he), rfl, rfl⟩
 intro e R' B' he hq
 rcases o10 with y11 | r12
 ·obtain ⟨rfl, hI⟩ := hq
  refine qE<|gS rfl hI<|sT<|sN<|qR ?_
  obtain rfl:=oI h
  exact qD
 obtain ⟨rfl, hf⟩ := hq
 obtain rfl:=oI h
 exact hf
theorem law37_FeedPrefix_ev {a0 : (List Int)} {a1 : (List Int)} {r : Bool} (h : law37_FeedPrefix a0 a1 = some r) : EvP prog hints ext 5 [.d (.lst (a0.map (PD.int .i64))), .d (.lst (a1.map (PD.int .i64)))] [] (.d (.bool r), []) := by
 refine Ev.body rfl Tryz.func5 rfl (by kernel_rfl)<|gS rfl rfl<|sU<|sN<|gS rfl rfl<|sM rfl<|bE h fun x1 hx1 h => cR (.ptr 272 0) [(272, .var [.d (.lst (x1.fL.map (PD.int .i64))), .d (.int .i64 x1.fAt)])] (keep_New_ev hx1)<|sA rfl<|sN<|gS rfl rfl<|sM rfl<|bE h fun x2 hx2 h => cR (.ref 304 0) [(272, .var [.d (.lst (x2.2.fL.map (PD.int .i64))), .d (.int .i64 x2.2.fAt)]), (304, .arr 0 40 (x2.1.map T_api_Bulletin.pd))] (law37_told_ev hx2)<|sA rfl ?_
 refine sN<|gS rfl rfl<|sV .nils<|sN<|gS rfl rfl<|sM rfl<|WO.lenR rfl rfl rfl rfl rfl rfl rfl rfl rfl<|bE h fun x3 hx3 h => WO.mkS (g := PD.bool) hx3 rfl rfl rfl rfl rfl rfl rfl rfl rfl rfl rfl<|sA rfl<|sN<|qS<|gS rfl rfl<|sV (.d (.int .i64 0))<|sN ?_
 refine bE h fun o25 ho25 h => WC.block (WC.loop (WL.ofLoop ho25 (fun s R' B' => ghosts prog 0 (A R' B') (hints.at_ 5 0 6) = some (A [(1, .d (.lst (a1.map (PD.int .i64)))), (6, .ref 304 0), (7, .ref 1008 0), (8, .ref 352 0), (9, .d (.int .i64 s.1))] [(304, .arr 0 40 (x2.1.map T_api_Bulletin.pd)), (352, .arr 0 4 (s.2.2.map PD.bool)), (1008, .arr 0 66 (s.2.1.map T_api_Arrival.pd))])) (fun o e R' B' => match o with | .inl y => e = .exit 0 ∧ ghosts prog 0 (A R' B') (hints.at_ 5 0 13) = some (A [(6, .ref 304 0), (7, .ref 1008 0), (8, .ref 352 0)] [(304, .arr 0 40 (x2.1.map T_api_Bulletin.pd)), (352, .arr 0 4 (y.2.map PD.bool)), (1008, .arr 0 66 (y.1.map T_api_Arrival.pd))]) | .inr r => e = .ret ∧ finish prog (hints.own 5) Tryz.f5 0 (A R' B') = some (.d (.bool r), [])) rfl ?_ ?_))
 ·rintro ⟨s4, s5, s6⟩ R' B' q9 hI h
  refine qS<|gS rfl hI<|sM rfl<|sM rfl<|sE (.d (.int .i64 (a1.length : Int))) (lenMap _ _)<|sF h (fun h => ?_) fun h => ?_
  ·refine sM rfl<|sM rfl<|sV (.d (.bool (decide (s4 < (40 : Int)))))<|sF h (fun h => ?_) fun h => ?_
   ·refine sM rfl<|sM rfl<|WO.lenR rfl rfl rfl rfl rfl rfl rfl rfl rfl<|sV (.d (.bool (decide ((x2.1.length : Int) > (0 : Int)))))<|sF h (fun h => ?_) fun h => ?_
    ·refine sN<|cT<|qK<|qS<|qB<|gS rfl rfl<|sM rfl<|sM rfl<|bE h fun x13 hx13 h => WO.elemG hx13 rfl rfl rfl rfl rfl rfl rfl rfl rfl<|sC rfl<|sM rfl<|WO.lenR rfl rfl rfl rfl rfl rfl rfl rfl rfl<|bE h fun x14 hx14 h => cD (keep_Mod_ev hx14) ?_
     refine sA rfl<|sN<|gS rfl rfl<|sM rfl<|sM rfl<|bE h fun x16 hx16 h => WO.eltG hx16 rfl rfl rfl rfl rfl rfl rfl rfl<|bE h fun x17 hx17 h => WO.loadE hx17 rfl rfl rfl rfl rfl rfl<|bE h fun x18 hx18 h => cR (.tup [.d (.str x18.1), .d (.int .i64 x18.2)]) [] (feed_Encode_ev hx18)<|sM rfl<|sV (.d (.str x18.1))<|sV (.d (.int .i64 x18.2))<|sA rfl ?_
     refine sA rfl<|sN<|qS<|gS rfl rfl<|sM rfl<|sF h (fun h => ?_) fun h => ?_
     ·refine sN<|cT<|gS rfl rfl<|sU<|sN<|qR ?_
      obtain rfl:=oI h
      exact ⟨(fun he => by cases he), rfl, rfl⟩
     refine sN<|cF<|qK<|WC.region rfl rfl<|sM rfl<|sM rfl<|sM rfl<|sM rfl<|sM rfl<|sM rfl<|sV (.d (T_api_Arrival.pd (T_api_Arrival.mk x14 s4 x18.1)))<|sV (.d (.lst ([(T_api_Arrival.mk x14 s4 x18.1)].map T_api_Arrival.pd)))<|bE h fun x20 hx20 h => WO.appR hx20 (fun _ => rfl) rfl rfl rfl rfl rfl rfl rfl rfl rfl rfl rfl rfl rfl rfl<|sA rfl ?_
     refine bE h fun x22 hx22 h => WO.eltG hx22 rfl rfl rfl rfl rfl rfl rfl rfl<|bE h fun x23 hx23 h => WO.storeE (g := PD.bool) (sz := 1) (p := .bool true) hx23 (fun _ => rfl) (fun _ => rfl) rfl rfl rfl rfl rfl rfl rfl rfl rfl<|sN<|WC.region rfl rfl<|sM rfl<|sV (.d (.int .i64 (IntKind.wrap .i64 (s4 + (1 : Int)))))<|sA rfl<|sN ?_
     obtain rfl:=oI h
     exact ⟨rfl, rfl⟩
    refine sN<|cF<|qX ?_
    obtain rfl:=oI h
    exact ⟨(fun he => by cases he), rfl, rfl⟩
   refine sM rfl<|sK<|sK<|sK<|sU<|sN<|cF<|qX ?_
   obtain rfl:=oI h
   exact ⟨(fun he => by cases he), rfl, rfl⟩
  refine sM rfl<|sK<|sK<|sU<|sM rfl<|sK<|sK<|sK<|sU<|sN<|cF<|qX ?_
  obtain rfl:=oI h
  exact ⟨(fun he => by cases he), rfl, rfl⟩
 intro e R' B' he hq
 rcases o25 with y26 | r27
 ·obtain ⟨rfl, hI⟩ := hq
  refine qE<|gS rfl hI<|sT<|sN<|qS<|gS rfl rfl<|sM rfl<|WO.lenR rfl rfl rfl rfl rfl rfl rfl rfl rfl<|sV (.d (.int .i64 0))<|sN<|bE h fun o38 ho38 h => WC.block (WC.loop (WL.ofLoop ho38 (fun s R' B' => ghosts prog 0 (A R' B') (hints.at_ 5 0 15) = some (A [(6, .ref 304 0), (7, .ref 1008 0), (8, .ref 352 0), (13, .d (.bool s.1)), (66, .d (.int .i64 (y26.2.length : Int))), (67, .d (.int .i64 s.2))] [(304, .arr 0 40 (x2.1.map T_api_Bulletin.pd)), (352, .arr 0 4 (y26.2.map PD.bool)), (1008, .arr 0 66 (y26.1.map T_api_Arrival.pd))])) (fun o e R' B' => e = .exit 2 ∧ ghosts prog 0 (A R' B') (hints.at_ 5 0 19) = some (A [(6, .ref 304 0), (7, .ref 1008 0), (13, .d (.bool o))] [(304, .arr 0 40 (x2.1.map T_api_Bulletin.pd)), (1008, .arr 0 66 (y26.1.map T_api_Arrival.pd))])) rfl ?_ ?_))
  ·rintro ⟨s28, s29⟩ R' B' q31 hI h
   refine gS rfl hI<|sF h (fun h => ?_) fun h => ?_
   ·refine sN<|qS<|cT<|qK<|qS<|qB<|gS rfl rfl<|sM rfl<|sA rfl<|sN<|WC.region rfl rfl<|sF h (fun h => ?_) fun h => ?_
    ·refine sM rfl<|sM rfl<|sM rfl<|bE h fun x35 hx35 h => WO.eltG hx35 rfl rfl rfl rfl rfl rfl rfl rfl<|bE h fun x36 hx36 h => WO.loadE hx36 rfl rfl rfl rfl rfl rfl<|sV (.d (.bool x36))<|sA rfl<|sN<|WC.region rfl rfl<|sV (.d (.int .i64 (IntKind.wrap .i64 (s29 + (1 : Int)))))<|sM rfl<|sN ?_
     obtain rfl:=oI h
     exact ⟨rfl, rfl⟩
    refine sM rfl<|sK<|sK<|sK<|sK<|sU<|sA rfl<|sN<|WC.region rfl rfl<|sV (.d (.int .i64 (IntKind.wrap .i64 (s29 + (1 : Int)))))<|sM rfl<|sN ?_
    obtain rfl:=oI h
    exact ⟨rfl, rfl⟩
   refine sN<|qS<|cF<|qX ?_
   obtain rfl:=oI h
   exact ⟨(fun he => by cases he), rfl, rfl⟩
  intro e R' B' he hq
  obtain ⟨rfl, hI⟩ := hq
  refine qE<|gS rfl hI<|sM rfl<|bE h fun x39 hx39 h => cR (.d (.lst (x39.map T_api_Bulletin.pd))) [(1008, .dead)] (feed_Prefix_ev hx39)<|sA rfl<|sN<|WC.regionSeq (R0 := [(6, .d (.lst (x2.1.map T_api_Bulletin.pd))), (13, .d (.bool o38)), (15, .d (.lst (x39.map T_api_Bulletin.pd)))]) (B0 := []) rfl rfl<|sM rfl<|sE (.d (.int .i64 (x39.length : Int))) (lenMap _ _)<|sM rfl<|sE (.d (.int .i64 (x2.1.length : Int))) (lenMap _ _)<|sF h (fun h => ?_) fun h => ?_
  ·refine sM rfl<|sM rfl<|sM rfl<|sM rfl<|sE (.d (.int .i64 (x39.length : Int))) (lenMap _ _)<|bE h fun x41 hx41 h => WO.cutL (sz := 30) (g := T_api_Bulletin.pd) hx41 (fun _ => rfl) rfl rfl rfl rfl rfl rfl rfl rfl rfl rfl rfl<|bE h fun x42 hx42 h => cD (ref36_SameBulletins_ev hx42)<|sF h (fun h => ?_) fun h => ?_
   ·refine sM rfl<|sM rfl<|sM rfl<|sE (.d (.int .i64 (x39.length : Int))) (lenMap _ _)<|sM rfl<|sE (.d (.int .i64 (x2.1.length : Int))) (lenMap _ _)<|sV (.d (.bool ((x39.length : Int) == (x2.1.length : Int))))<|sV (.d (.bool (o38 == ((x39.length : Int) == (x2.1.length : Int)))))<|sF h (fun h => ?_) fun h => ?_
    ·refine sM rfl<|bE h fun x45 hx45 h => cD (law37_awake_ev hx45)<|sV (.d (.bool x45))<|sA rfl<|sN<|qR ?_
     obtain rfl:=oI h
     exact qD
    refine sM rfl<|sK<|sU<|sA rfl<|sN<|qR ?_
    obtain rfl:=oI h
    exact qD
   refine sM rfl<|sK<|sK<|sK<|sK<|sK<|sK<|sK<|sU<|sM rfl<|sK<|sU<|sA rfl<|sN<|qR ?_
   obtain rfl:=oI h
   exact qD
  refine sM rfl<|sK<|sK<|sK<|sK<|sK<|sK<|sU<|sM rfl<|sK<|sK<|sK<|sK<|sK<|sK ?_
  refine sK<|sU<|sM rfl<|sK<|sU<|sA rfl<|sN<|qR ?_
  obtain rfl:=oI h
  exact qD
 obtain ⟨rfl, hf⟩ := hq
 obtain rfl:=oI h
 exact hf
end Go.Dw.Fe
