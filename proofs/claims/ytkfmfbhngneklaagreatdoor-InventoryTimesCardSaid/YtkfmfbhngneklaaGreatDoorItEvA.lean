/- ItEv: the code computes what the plain functions say (written by lift.py). -/
import Derived.Test.YtkfmfbhngneklaaGreatDoorItFn
import Derived.Test.YtkfmfbhngneklaaGreatDoorDwShort
import Derived.Test.YtkfmfbhngneklaaGreatDoorProg

set_option maxRecDepth 100000
set_option maxHeartbeats 4000000
namespace Go.Dw.It
open Go.Proofs Go.Proofs.Tryz Go.Dw
def hintAt : FuncId → Nat → List Ghost := fun f id =>
  if f = 3 then (if id = 8 then [.own 8 1888 34, .keep [6, 7, 8, 33, 34, 35] [96, 1888]] else if id = 14 then [.keep [6, 7, 8, 10, 11, 13, 33, 34, 35] [96, 160, 176, 1888]] else if id = 16 then [.keep [6, 7, 8, 10, 11, 13, 14, 33, 34, 35, 82, 83, 84] [96, 160, 176, 1888]] else if id = 23 then [.keep [6, 7, 8, 10, 13, 14, 33, 34, 35] [96, 160, 1888]] else if id = 28 then [.keep [6, 7, 8] [96, 1888]] else []) else if f = 8 then (if id = 3 then [.frz (.cell 80 0), .keep [0, 4, 5, 6] [0, 64, 80]] else if id = 8 then [.keep [4, 5] [0, 64, 80]] else []) else if f = 10 then (if id = 2 then [.keep [0, 1, 5] []] else if id = 6 then [.keep [] []] else []) else if f = 11 then (if id = 6 then [.own 5 528 73, .keep [5, 20, 21, 22] [528]] else if id = 10 then [.keep [5] [528]] else []) else if f = 13 then (if id = 5 then [.own 8 544 34, .keep [1, 2, 8, 17, 18, 19] [544]] else if id = 11 then [.keep [1, 8] [544]] else []) else if f = 14 then (if id = 4 then [.keep [0, 1, 5] []] else if id = 8 then [.keep [] []] else []) else if f = 16 then (if id = 2 then [.keep [1, 6, 7, 8] [16]] else if id = 7 then [.keep [1] [16]] else []) else if f = 17 then (if id = 2 then [.keep [1, 3] [16]] else if id = 3 then [.keep [1, 3] [16]] else if id = 7 then [.keep [1, 3, 4] [16, 64]] else if id = 8 then [.keep [1, 3, 4, 5] [16, 64]] else if id = 12 then [.keep [1] [16]] else []) else if f = 22 then (if id = 2 then [.keep [3, 4, 9, 10, 11] [48, 64]] else if id = 7 then [.keep [4] [64]] else []) else if f = 24 then (if id = 4 then [.keep [0, 1, 5] []] else if id = 8 then [.keep [] []] else []) else if f = 33 then (if id = 10 then [.keep [3, 4, 6, 7] [48, 64, 96, 256]] else if id = 13 then [.frz (.cell 96 0), .keep [4, 6] [64, 96]] else if id = 16 then [.keep [3, 4, 6, 7] [48, 64, 96, 256]] else if id = 18 then [.keep [3, 4, 6, 7] [48, 64, 96, 256]] else if id = 21 then [.keep [3, 4, 6, 7] [48, 64, 96, 256]] else []) else if f = 34 then (if id = 5 then [.frz (.cell 80 13), .keep [0, 3, 4, 5] [0, 48, 64, 80]] else []) else if f = 35 then (if id = 2 then [.keep [1, 4, 9, 10, 11] [64]] else if id = 7 then [.keep [4] [64]] else []) else if f = 36 then (if id = 5 then [.own 4 816 73, .keep [4, 13, 14, 15] [144, 816]] else if id = 12 then [.keep [4] [816]] else []) else if f = 38 then (if id = 6 then [.own 8 544 34, .keep [6, 8, 18, 19, 20] [544]] else if id = 11 then [.keep [8] [544]] else []) else if f = 39 then (if id = 3 then [.ownp (.cell 48 0) 816 37, .keep [1, 2, 3, 4] [16, 32, 48, 816]] else if id = 7 then [.ownp (.cell 80 4) 720 46, .keep [1, 2, 3, 4, 5, 6] [16, 32, 48, 80, 720, 816]] else if id = 10 then [.keep [1, 2, 3, 4, 5] [16, 32, 48, 80, 720, 816]] else if id = 11 then [.keep [2, 3] [32, 48, 816]] else []) else if f = 42 then (if id = 2 then [.keep [0, 5, 6, 7] []] else if id = 7 then [.keep [0] []] else []) else if f = 50 then (if id = 3 then [.keep [1, 2, 10, 11, 12] [16, 32, 112]] else if id = 7 then [.keep [1, 2] [16, 32, 112]] else []) else if f = 52 then (if id = 4 then [.keep [2, 3, 5] [32, 48]] else if id = 8 then [.keep [] []] else []) else if f = 58 then (if id = 3 then [.keep [1, 3, 4] [16]] else if id = 11 then [.keep [1] [16]] else []) else if f = 60 then (if id = 2 then [.keep [2, 3, 6] [0, 32, 48]] else if id = 6 then [.keep [2, 3, 6, 7] [0, 32, 48]] else if id = 10 then [.keep [6] [0]] else if id = 11 then [.keep [] [0]] else []) else if f = 61 then (if id = 2 then [.keep [0, 3, 5] [48]] else if id = 6 then [.keep [] []] else []) else if f = 62 then (if id = 2 then [.keep [0, 3, 5] [48]] else if id = 4 then [.keep [0, 3, 5] [48]] else []) else if f = 65 then (if id = 4 then [.ownp (.cell 48 0) 448 92, .keep [0, 2, 3, 4, 5] [0, 32, 48, 448]] else if id = 11 then [.keep [2, 3] [0, 32, 48, 448]] else []) else if f = 66 then (if id = 3 then [.bump 0, .keep [0] [0]] else if id = 5 then [.keep [0, 1, 5, 6] [0]] else if id = 11 then [.keep [0, 5] [0]] else []) else if f = 73 then (if id = 4 then [.keep [1, 2, 15, 16, 17] []] else if id = 10 then [.keep [] []] else []) else if f = 75 then (if id = 4 then [.keep [0, 1, 12, 13] []] else if id = 9 then [.keep [] []] else []) else if f = 76 then (if id = 3 then [.keep [4, 10, 11, 12] []] else if id = 6 then [.keep [4, 6, 10, 11, 12, 17, 18] []] else if id = 11 then [.keep [4, 6, 10, 11, 12] []] else if id = 14 then [.keep [4] []] else []) else if f = 78 then (if id = 2 then [.keep [0, 1, 2, 9, 10] []] else if id = 7 then [.keep [0, 1, 2] []] else []) else if f = 79 then (if id = 3 then [.keep [3, 6, 7, 8] []] else if id = 8 then [.keep [3] []] else []) else if f = 81 then (if id = 2 then [.keep [0, 1, 2, 7] []] else if id = 6 then [.keep [0, 1, 2] []] else []) else if f = 84 then (if id = 3 then [.keep [1, 2, 13, 14] [16, 32, 112]] else if id = 7 then [.keep [1, 2] [16, 32, 112]] else []) else if f = 85 then (if id = 4 then [.keep [2, 3, 5] [32, 48]] else if id = 8 then [.keep [] []] else []) else if f = 89 then (if id = 1 then [.keep [0, 1] []] else if id = 3 then [.keep [0] []] else []) else if f = 92 then (if id = 6 then [.fixv 16, .keep [1, 3] []] else []) else if f = 93 then (if id = 3 then [.keep [3, 6, 7, 8] []] else if id = 10 then [.keep [3] []] else []) else if f = 94 then (if id = 1 then [.keep [0, 1] []] else if id = 3 then [.keep [0] []] else []) else if f = 95 then (if id = 6 then [.fixv 16, .keep [1, 3] []] else []) else if f = 98 then (if id = 3 then [.ownp (.cell 48 0) 416 92, .keep [1, 2, 3, 4] [16, 32, 48, 416]] else if id = 8 then [.keep [2, 3] [32, 48, 416]] else []) else if f = 99 then (if id = 8 then [.mv (.cell 48 7) 90128, .keep [0, 2, 3, 4] [0, 32, 48, 90128]] else if id = 12 then [.keep [0, 2, 3] [0, 32, 48, 90128]] else []) else if f = 100 then (if id = 2 then [.keep [0, 1, 7, 8] [0]] else if id = 7 then [.keep [] [0]] else []) else if f = 113 then (if id = 2 then [.keep [0, 1, 7, 8] []] else if id = 7 then [.keep [] []] else []) else if f = 116 then (if id = 3 then [.keep [3, 6, 7, 8] []] else if id = 7 then [.keep [3] []] else []) else if f = 117 then (if id = 2 then [.keep [0, 3] []] else if id = 6 then [.keep [] []] else []) else if f = 118 then (if id = 3 then [.keep [0, 3, 4] []] else if id = 6 then [.keep [3] []] else []) else if f = 141 then (if id = 2 then [.keep [0, 1, 7, 8] []] else if id = 7 then [.keep [] []] else []) else []
def hints : Hints := { at_ := hintAt, mt := fun f i => (f == 66 && i == 41) || (f == 99 && i == 44) || (f == 99 && i == 60), by_ := fun f i => (f == 60 && i == 0) || (f == 66 && i == 0) || (f == 70 && i == 0) || (f == 100 && i == 0), own := fun f i => (f == 36 && i == 0) || (f == 39 && i == 0) || (f == 50 && i == 0) || (f == 62 && i == 0) || (f == 64 && i == 0) || (f == 65 && i == 0) || (f == 66 && i == 0) || (f == 67 && i == 0) || (f == 83 && i == 0) || (f == 84 && i == 0) || (f == 98 && i == 0) || (f == 109 && i == 0) || (f == 110 && i == 0) }
theorem eqE_34 (a b : T_api_SourceID) : binT prog .eql 34 (.d a.pd) (.d b.pd) = some (.bool ((a.fNetwork == b.fNetwork) && ((a.fStation == b.fStation) && ((a.fLocation == b.fLocation) && ((a.fChannel == b.fChannel) && true)))), true) := by kernel_rfl
theorem eqN_34 (a b : T_api_SourceID) : binT prog .neq 34 (.d a.pd) (.d b.pd) = some (.bool (!((a.fNetwork == b.fNetwork) && ((a.fStation == b.fStation) && ((a.fLocation == b.fLocation) && ((a.fChannel == b.fChannel) && true))))), true) := by kernel_rfl
theorem eqE_39 (a b : T_api_Rate) : binT prog .eql 39 (.d a.pd) (.d b.pd) = some (.bool ((a.fNum == b.fNum) && ((a.fDen == b.fDen) && true)), true) := by kernel_rfl
theorem eqE_41 (a b : T_api_Position) : binT prog .eql 41 (.d a.pd) (.d b.pd) = some (.bool ((a.fX == b.fX) && ((a.fY == b.fY) && ((a.fZ == b.fZ) && true))), true) := by kernel_rfl
theorem eqN_73 (a b : T_api_Span) : binT prog .neq 73 (.d a.pd) (.d b.pd) = some (.bool (!((a.fFrom == b.fFrom) && ((a.fTo == b.fTo) && true))), true) := by kernel_rfl
theorem eqE_90 (a b : A3_Int) : binT prog .eql 90 (.d a.pd) (.d b.pd) = some (.bool ((a.a0 == b.a0) && ((a.a1 == b.a1) && ((a.a2 == b.a2) && true))), true) := by kernel_rfl
theorem eqN_90 (a b : A3_Int) : binT prog .neq 90 (.d a.pd) (.d b.pd) = some (.bool (!((a.a0 == b.a0) && ((a.a1 == b.a1) && ((a.a2 == b.a2) && true)))), true) := by kernel_rfl

theorem T_api_Span_inj : ∀ x y : T_api_Span, x.pd = y.pd → x = y := by
  rintro ⟨z1, z2⟩ ⟨z3, z4⟩ h
  cases h; rfl
def ext0 : FuncId → Option CallD := fun _ => none
theorem cmp_isNaN_int_ev0 {a0 : Int} {r : Bool} (h : cmp_isNaN_int a0 = some r) : EvP prog hints ext0 103 [.d (.int .i64 a0)] [] (.d (.bool r), []) := by
 refine Ev.body rfl Tryz.func103 rfl (by kernel_rfl)<|gS rfl rfl<|sU<|sN<|gS rfl rfl<|sM rfl<|sM rfl<|sV (.d (.bool (a0 != a0)))<|sA rfl<|sN<|qR ?_
 obtain rfl:=oI h
 exact qD
theorem cmp_Compare_int_ev0 {a0 : Int} {a1 : Int} {r : Int} (h : cmp_Compare_int a0 a1 = some r) : EvP prog hints ext0 72 [.d (.int .i64 a0), .d (.int .i64 a1)] [] (.d (.int .i64 r), []) := by
 refine Ev.body rfl Tryz.func72 rfl (by kernel_rfl)<|gS rfl rfl<|sV (.d (.int .i64 0))<|sN<|gS rfl rfl<|sM rfl<|bE h fun x1 hx1 h => cD (cmp_isNaN_int_ev0 hx1)<|sA rfl<|sN<|gS rfl rfl<|sM rfl<|bE h fun x2 hx2 h => cD (cmp_isNaN_int_ev0 hx2)<|sA rfl ?_
 refine sN<|qS<|gS rfl rfl<|sF h (fun h => ?_) fun h => ?_
 ·refine sN<|cT<|qS<|gS rfl rfl<|sF h (fun h => ?_) fun h => ?_
  ·refine sN<|cT<|gS rfl rfl<|sV (.d (.int .i64 0))<|sN<|qR ?_
   obtain rfl:=oI h
   exact qD
  refine sN<|cF<|qK<|gS rfl rfl<|sV (.d (.int .i64 (-1)))<|sN<|qR ?_
  obtain rfl:=oI h
  exact qD
 refine sN<|cF<|qK<|qS<|gS rfl rfl<|sF h (fun h => ?_) fun h => ?_
 ·refine sN<|cT<|gS rfl rfl<|sV (.d (.int .i64 1))<|sN<|qR ?_
  obtain rfl:=oI h
  exact qD
 refine sN<|cF<|qK<|qS<|gS rfl rfl<|sM rfl<|sM rfl<|sF h (fun h => ?_) fun h => ?_
 ·refine sN<|cT<|gS rfl rfl<|sV (.d (.int .i64 (-1)))<|sN<|qR ?_
  obtain rfl:=oI h
  exact qD
 refine sN<|cF<|qK<|qS<|gS rfl rfl<|sM rfl<|sM rfl<|sF h (fun h => ?_) fun h => ?_
 ·refine sN<|cT<|gS rfl rfl<|sV (.d (.int .i64 1))<|sN<|qR ?_
  obtain rfl:=oI h
  exact qD
 refine sN<|cF<|qK<|gS rfl rfl<|sV (.d (.int .i64 0))<|sN<|qR ?_
 obtain rfl:=oI h
 exact qD
theorem span_Normal_lit2_ev0 {a0 : T_api_Span} {a1 : T_api_Span} {r : Int} (h : span_Normal_lit2 a0 a1 = some r) : EvP prog hints ext0 71 [.d (T_api_Span.pd a0), .d (T_api_Span.pd a1)] [] (.d (.int .i64 r), []) := by
 refine Ev.body rfl Tryz.func71 rfl (by kernel_rfl)<|gS rfl rfl<|sB (.ptr 32 0) 32 (.var [.d (.int .i64 a0.fFrom), .d (.int .i64 a0.fTo)])<|sB (.ptr 48 0) 48 (.var [.d (.int .i64 a1.fFrom), .d (.int .i64 a1.fTo)])<|sV (.d (.int .i64 0))<|sN<|gS rfl rfl<|sV (.ptr 32 0)<|sL rfl<|sV (.ptr 48 0)<|sL rfl<|bE h fun x1 hx1 h => cD (cmp_Compare_int_ev0 hx1)<|sA rfl<|sN ?_
 refine qR ?_
 obtain rfl:=oI h
 exact qD
noncomputable def ext : FuncId → Option CallD := fun f => if f = 104 then some splitD else if f = 70 then some (sortD 71 73 T_api_Span.pd span_Normal_lit2) else if f = 83 then some (cloneD 46 8 80) else if f = 109 then some (cloneD 92 10 96) else if f = 110 then some (cloneD 3 1 8) else if f = 67 then some (cloneD 73 2 16) else none
theorem sort_70_71 {l r : List T_api_Span} (h : sortO span_Normal_lit2 l = some r) : EvP prog hints ext 70 [.ref 0 0, .d (.raw (.func (.func 71) #[] #[]))] [.arr 0 73 (l.map T_api_Span.pd)] (.tup [], [.arr 0 73 (r.map T_api_Span.pd)]) := sort_ev rfl (sortD_of T_api_Span_inj h)
theorem clone_83 {l r : List T_api_Epoch} (h : cloneO 80 l = some r) : EvP prog hints ext 83 [.d (.lst (l.map T_api_Epoch.pd))] [] (.ref 0 0, [.arr 0 46 (r.map T_api_Epoch.pd)]) := clone_ev (g := T_api_Epoch.pd) rfl (fun _ => rfl) h
theorem clone_109 {l r : List T_api_Stage} (h : cloneO 96 l = some r) : EvP prog hints ext 109 [.d (.lst (l.map T_api_Stage.pd))] [] (.ref 0 0, [.arr 0 92 (r.map T_api_Stage.pd)]) := clone_ev (g := T_api_Stage.pd) rfl (fun _ => rfl) h
theorem clone_110 {l r : List Int} (h : cloneO 8 l = some r) : EvP prog hints ext 110 [.d (.lst (l.map (PD.int .i64)))] [] (.ref 0 0, [.arr 0 3 (r.map (PD.int .i64))]) := clone_ev (g := (PD.int .i64)) rfl (fun _ => rfl) h
theorem clone_67 {l r : List T_api_Span} (h : cloneO 16 l = some r) : EvP prog hints ext 67 [.d (.lst (l.map T_api_Span.pd))] [] (.ref 0 0, [.arr 0 73 (r.map T_api_Span.pd)]) := clone_ev (g := T_api_Span.pd) rfl (fun _ => rfl) h
theorem made_Light_ev {a0 : (List Int)} {r : Bool} (h : made_Light a0 = some r) : EvP prog hints ext 5 [.d (.lst (a0.map (PD.int .i64)))] [] (.d (.bool r), []) := by
 refine Ev.body rfl Tryz.func5 rfl (by kernel_rfl)<|gS rfl rfl<|sU<|sN<|gS rfl rfl<|sM rfl<|sE (.d (.int .i64 (a0.length : Int))) (lenMap _ _)<|sV (.d (.bool (decide ((a0.length : Int) ≤ (500 : Int)))))<|sA rfl<|sN<|qR ?_
 obtain rfl:=oI h
 exact qD
theorem law19_one_ev  {r : T_api_Inventory} (h : law19_one = some r) : EvP prog hints ext 32 [] [] (.d (T_api_Inventory.pd r), []) := by
 refine Ev.body rfl Tryz.func32 rfl (by kernel_rfl)<|gS rfl rfl<|sB (.ptr 0 0) 0 (.var [.nils])<|sN<|gS rfl rfl<|sV (.d (T_api_Rate.pd (T_api_Rate.mk 100 1)))<|sV (.agg [.d (.int .i64 10), .d (.int .i64 20), .d (.int .i64 ((T_api_Rate.mk 100 1).fNum)), .d (.int .i64 ((T_api_Rate.mk 100 1).fDen)), .d (.int .i64 0), .d (.int .i64 0), .d (.int .i64 0), .nils])<|sB (.ptr 16 0) 16 (.var [.d (.int .i64 0), .d (.int .i64 0), .d (.int .i64 0), .d (.int .i64 0), .d (.int .i64 0), .d (.int .i64 0), .d (.int .i64 0), .nils])<|sS 16 (.var [.d (.int .i64 10), .d (.int .i64 20), .d (.int .i64 ((T_api_Rate.mk 100 1).fNum)), .d (.int .i64 ((T_api_Rate.mk 100 1).fDen)), .d (.int .i64 0), .d (.int .i64 0), .d (.int .i64 0), .nils])<|sN<|gS rfl rfl<|sV (.agg [.d (.int .i64 10), .d (.int .i64 20), .d (.int .i64 ((T_api_Rate.mk 100 1).fNum)), .d (.int .i64 ((T_api_Rate.mk 100 1).fDen)), .d (.int .i64 0), .d (.int .i64 0), .d (.int .i64 0), .nils])<|sB (.ptr 32 0) 32 (.var [.d (.int .i64 0), .d (.int .i64 0), .d (.int .i64 0), .d (.int .i64 0), .d (.int .i64 0), .d (.int .i64 0), .d (.int .i64 0), .nils])<|sS 32 (.var [.d (.int .i64 10), .d (.int .i64 20), .d (.int .i64 ((T_api_Rate.mk 100 1).fNum)), .d (.int .i64 ((T_api_Rate.mk 100 1).fDen)), .d (.int .i64 0), .d (.int .i64 0), .d (.int .i64 0), .nils])<|sN ?_
 refine gS rfl rfl<|sV (.ptr 32 0)<|sS 32 (.var [.d (.int .i64 20), .d (.int .i64 20), .d (.int .i64 ((T_api_Rate.mk 100 1).fNum)), .d (.int .i64 ((T_api_Rate.mk 100 1).fDen)), .d (.int .i64 0), .d (.int .i64 0), .d (.int .i64 0), .nils])<|sV (.ptr 32 1)<|sS 32 (.var [.d (.int .i64 20), .d (.int .i64 30), .d (.int .i64 ((T_api_Rate.mk 100 1).fNum)), .d (.int .i64 ((T_api_Rate.mk 100 1).fDen)), .d (.int .i64 0), .d (.int .i64 0), .d (.int .i64 0), .nils])<|sV (.ptr 32 4)<|sV (.ptr 32 4)<|sS 32 (.var [.d (.int .i64 20), .d (.int .i64 30), .d (.int .i64 ((T_api_Rate.mk 100 1).fNum)), .d (.int .i64 ((T_api_Rate.mk 100 1).fDen)), .d (.int .i64 5), .d (.int .i64 0), .d (.int .i64 0), .nils])<|sN<|gS rfl rfl<|sV (.d (T_api_SourceID.pd (T_api_SourceID.mk [65] [66] [] [72, 72, 90])))<|sV (.agg [.d (.int .i64 10), .d (.int .i64 20), .d (.int .i64 ((T_api_Rate.mk 100 1).fNum)), .d (.int .i64 ((T_api_Rate.mk 100 1).fDen)), .d (.int .i64 0), .d (.int .i64 0), .d (.int .i64 0), .nils])<|sV (.agg [.d (.int .i64 20), .d (.int .i64 30), .d (.int .i64 ((T_api_Rate.mk 100 1).fNum)), .d (.int .i64 ((T_api_Rate.mk 100 1).fDen)), .d (.int .i64 5), .d (.int .i64 0), .d (.int .i64 0), .nils])<|sV (.d (.lst ([(T_api_Epoch.mk 10 20 (T_api_Rate.mk 100 1) (T_api_Position.mk 0 0 0) (T_api_Response.mk [])), (T_api_Epoch.mk 20 30 (T_api_Rate.mk 100 1) (T_api_Position.mk 5 0 0) (T_api_Response.mk []))].map T_api_Epoch.pd)))<|sV (.d (T_api_Channel.pd (T_api_Channel.mk (T_api_SourceID.mk [65] [66] [] [72, 72, 90]) [(T_api_Epoch.mk 10 20 (T_api_Rate.mk 100 1) (T_api_Position.mk 0 0 0) (T_api_Response.mk [])), (T_api_Epoch.mk 20 30 (T_api_Rate.mk 100 1) (T_api_Position.mk 5 0 0) (T_api_Response.mk []))]))) ?_
 refine sV (.d (.lst ([(T_api_Channel.mk (T_api_SourceID.mk [65] [66] [] [72, 72, 90]) [(T_api_Epoch.mk 10 20 (T_api_Rate.mk 100 1) (T_api_Position.mk 0 0 0) (T_api_Response.mk [])), (T_api_Epoch.mk 20 30 (T_api_Rate.mk 100 1) (T_api_Position.mk 5 0 0) (T_api_Response.mk []))])].map T_api_Channel.pd)))<|sV (.d (T_api_Inventory.pd (T_api_Inventory.mk [(T_api_Channel.mk (T_api_SourceID.mk [65] [66] [] [72, 72, 90]) [(T_api_Epoch.mk 10 20 (T_api_Rate.mk 100 1) (T_api_Position.mk 0 0 0) (T_api_Response.mk [])), (T_api_Epoch.mk 20 30 (T_api_Rate.mk 100 1) (T_api_Position.mk 5 0 0) (T_api_Response.mk []))])])))<|sS 0 (.var [.d (.lst (((T_api_Inventory.mk [(T_api_Channel.mk (T_api_SourceID.mk [65] [66] [] [72, 72, 90]) [(T_api_Epoch.mk 10 20 (T_api_Rate.mk 100 1) (T_api_Position.mk 0 0 0) (T_api_Response.mk [])), (T_api_Epoch.mk 20 30 (T_api_Rate.mk 100 1) (T_api_Position.mk 5 0 0) (T_api_Response.mk []))])]).fChannels).map T_api_Channel.pd))])<|sN<|qR ?_
 obtain rfl:=oI h
 exact qD
theorem source_plain_ev {a0 : Int} {r : Bool} (h : source_plain a0 = some r) : EvP prog hints ext 105 [.d (.int .u8 a0)] [] (.d (.bool r), []) := by
 refine Ev.body rfl Tryz.func105 rfl (by kernel_rfl)<|gS rfl rfl<|sU<|sN<|gS rfl rfl<|sM rfl<|sF h (fun h => ?_) fun h => ?_
 ·refine sM rfl<|sM rfl<|sV (.d (.bool (decide (a0 ≤ (90 : Int)))))<|sF h (fun h => ?_) fun h => ?_
  ·refine sM rfl<|sK<|sK<|sK<|sK<|sK<|sK<|sT<|sA rfl<|sN<|qR ?_
   obtain rfl:=oI h
   exact qD
  refine sM rfl<|sM rfl<|sF h (fun h => ?_) fun h => ?_
  ·refine sM rfl<|sM rfl<|sV (.d (.bool (decide (a0 ≤ (57 : Int)))))<|sV (.d (.bool (decide (a0 ≤ (57 : Int)))))<|sV (.d (.bool (decide (a0 ≤ (57 : Int)))))<|sA rfl<|sN<|qR ?_
   obtain rfl:=oI h
   exact qD
  refine sM rfl<|sK<|sK<|sU<|sU<|sA rfl<|sN<|qR ?_
  obtain rfl:=oI h
  exact qD
 refine sM rfl<|sK<|sK<|sU<|sM rfl<|sM rfl<|sF h (fun h => ?_) fun h => ?_
 ·refine sM rfl<|sM rfl<|sV (.d (.bool (decide (a0 ≤ (57 : Int)))))<|sV (.d (.bool (decide (a0 ≤ (57 : Int)))))<|sV (.d (.bool (decide (a0 ≤ (57 : Int)))))<|sA rfl<|sN<|qR ?_
  obtain rfl:=oI h
  exact qD
 refine sM rfl<|sK<|sK<|sU<|sU<|sA rfl<|sN<|qR ?_
 obtain rfl:=oI h
 exact qD
theorem source_code_ev {a0 : (List UInt8)} {a1 : Int} {a2 : Int} {r : Bool} (h : source_code a0 a1 a2 = some r) : EvP prog hints ext 78 [.d (.str a0), .d (.int .i64 a1), .d (.int .i64 a2)] [] (.d (.bool r), []) := by
 refine Ev.body rfl Tryz.func78 rfl (by kernel_rfl)<|gS rfl rfl<|sU<|sN<|qS<|gS rfl rfl<|sM rfl<|sV (.d (.int .i64 (a0.length : Int)))<|sV (.d (.int .i64 0))<|sN<|bE h fun o8 ho8 h => WC.block (WC.loop (WL.ofLoop ho8 (fun s R' B' => ghosts prog 0 (A R' B') (hints.at_ 78 2) = some (A [(0, .d (.str a0)), (1, .d (.int .i64 a1)), (2, .d (.int .i64 a2)), (9, .d (.int .i64 (a0.length : Int))), (10, .d (.int .i64 s))] [])) (fun o e R' B' => match o with | .inl y => e = .exit 0 ∧ ghosts prog 0 (A R' B') (hints.at_ 78 7) = some (A [(0, .d (.str a0)), (1, .d (.int .i64 a1)), (2, .d (.int .i64 a2))] []) | .inr r => e = .ret ∧ finish prog (hints.own 78) Tryz.f78 0 (A R' B') = some (.d (.bool r), [])) rfl ?_ ?_))
 ·rintro s1 R' B' q2 hI h
  refine gS rfl hI<|sF h (fun h => ?_) fun h => ?_
  ·refine sN<|qS<|cT<|qK<|qS<|qB<|gS rfl rfl<|sM rfl<|sA rfl<|sN<|gS rfl rfl<|sM rfl<|sM rfl<|bE h fun x4 hx4 h => WO.byteG hx4 rfl rfl rfl rfl rfl rfl ?_
   refine bE h fun x5 hx5 h => cD (source_plain_ev hx5)<|sF h (fun h => ?_) fun h => ?_
   ·refine sN<|cT<|gS rfl rfl<|sU<|sN<|qR ?_
    obtain rfl:=oI h
    exact ⟨(fun he => by cases he), rfl, rfl⟩
   refine sN<|cF<|qK<|WC.region rfl rfl<|sV (.d (.int .i64 (IntKind.wrap .i64 (s1 + (1 : Int)))))<|sM rfl<|sN ?_
   obtain rfl:=oI h
   exact ⟨rfl, rfl⟩
  refine sN<|qS<|cF<|qX ?_
  obtain rfl:=oI h
  exact ⟨(fun he => by cases he), rfl, rfl⟩
 intro e R' B' he hq
 rcases o8 with y9 | r10
 ·obtain ⟨rfl, hI⟩ := hq
  refine qE<|gS rfl hI<|sM rfl<|sV (.d (.int .i64 (a0.length : Int)))<|sM rfl<|sF h (fun h => ?_) fun h => ?_
  ·refine sM rfl<|sM rfl<|sV (.d (.int .i64 (a0.length : Int)))<|sM rfl<|sV (.d (.bool (decide ((a0.length : Int) ≤ a2))))<|sV (.d (.bool (decide ((a0.length : Int) ≤ a2))))<|sA rfl<|sN<|qR ?_
   obtain rfl:=oI h
   exact qD
  refine sM rfl<|sK<|sK<|sK<|sK<|sU<|sA rfl<|sN<|qR ?_
  obtain rfl:=oI h
  exact qD
 obtain ⟨rfl, hf⟩ := hq
 obtain rfl:=oI h
 exact hf
theorem source_Valid_ev {a0 : T_api_SourceID} {r : Bool} (h : source_Valid a0 = some r) : EvP prog hints ext 41 [.d (T_api_SourceID.pd a0)] [] (.d (.bool r), []) := by
 refine Ev.body rfl Tryz.func41 rfl (by kernel_rfl)<|gS rfl rfl<|sB (.ptr 16 0) 16 (.var [.d (.str a0.fNetwork), .d (.str a0.fStation), .d (.str a0.fLocation), .d (.str a0.fChannel)])<|sU<|sN<|gS rfl rfl<|sV (.ptr 16 0)<|sL rfl<|bE h fun x1 hx1 h => ite_elim h (fun hb2 h => ?_) (fun hb2 h => ?_)
 ·refine WO.callR (v := .d (.bool true)) (u := []) rfl rfl (fun _ => rfl) rfl rfl rfl rfl rfl (source_code_ev hx1) rfl rfl (congrArg (fun b => RV.d (.bool b)) hb2) rfl<|sM rfl<|sV (.ptr 16 1)<|sL rfl<|bE h fun x3 hx3 h => cD (source_code_ev hx3)<|sF h (fun h => ?_) fun h => ?_
  ·refine sM rfl<|sV (.ptr 16 2)<|sL rfl<|bE h fun x5 hx5 h => cD (source_code_ev hx5)<|sF h (fun h => ?_) fun h => ?_
   ·refine sM rfl<|sV (.ptr 16 2)<|sL rfl<|sV (.d (.int .i64 (a0.fLocation.length : Int)))<|sV (.d (.bool ((a0.fLocation.length : Int) != (1 : Int))))<|sF h (fun h => ?_) fun h => ?_
    ·refine sM rfl<|sV (.ptr 16 3)<|sL rfl<|bE h fun x8 hx8 h => cD (source_code_ev hx8)<|sV (.d (.bool x8))<|sA rfl<|sN<|qR ?_
     obtain rfl:=oI h
     exact qD
    refine sM rfl<|sK<|sK<|sK<|sU<|sA rfl<|sN<|qR ?_
    obtain rfl:=oI h
    exact qD
   refine sM rfl<|sK<|sK<|sK<|sK<|sU<|sM rfl<|sK<|sK<|sK<|sU<|sA rfl<|sN<|qR ?_
   obtain rfl:=oI h
   exact qD
  refine sM rfl<|sK<|sK<|sK<|sU<|sM rfl<|sK<|sK<|sK<|sK<|sU<|sM rfl<|sK<|sK<|sK ?_
  refine sU<|sA rfl<|sN<|qR ?_
  obtain rfl:=oI h
  exact qD
 refine WO.callR (v := .d (.bool false)) (u := []) rfl rfl (fun _ => rfl) rfl rfl rfl rfl rfl (source_code_ev hx1) rfl rfl (congrArg (fun b => RV.d (.bool b)) hb2) rfl<|sM rfl<|sK<|sK<|sK<|sU<|sM rfl<|sK<|sK<|sK<|sU<|sM rfl<|sK<|sK<|sK ?_
 refine sK<|sU<|sM rfl<|sK<|sK<|sK<|sU<|sA rfl<|sN<|qR ?_
 obtain rfl:=oI h
 exact qD
theorem rate_in_ev {a0 : Int} {a1 : Int} {a2 : Int} {r : Bool} (h : rate_in a0 a1 a2 = some r) : EvP prog hints ext 88 [.d (.int .i64 a0), .d (.int .i64 a1), .d (.int .i64 a2)] [] (.d (.bool r), []) := by
 refine Ev.body rfl Tryz.func88 rfl (by kernel_rfl)<|gS rfl rfl<|sU<|sN<|gS rfl rfl<|sM rfl<|sM rfl<|sF h (fun h => ?_) fun h => ?_
 ·refine sM rfl<|sM rfl<|sM rfl<|sV (.d (.bool (decide (a0 ≤ a2))))<|sV (.d (.bool (decide (a0 ≤ a2))))<|sA rfl<|sN<|qR ?_
  obtain rfl:=oI h
  exact qD
 refine sM rfl<|sK<|sK<|sK<|sU<|sA rfl<|sN<|qR ?_
 obtain rfl:=oI h
 exact qD
theorem rate_gcd_ev {a0 : Int} {a1 : Int} {r : Int} (h : rate_gcd a0 a1 = some r) : EvP prog hints ext 89 [.d (.int .i64 a0), .d (.int .i64 a1)] [] (.d (.int .i64 r), []) := by
 refine Ev.body rfl Tryz.func89 rfl (by kernel_rfl)<|gS rfl rfl<|sV (.d (.int .i64 0))<|sN<|qS<|bE h fun o8 ho8 h => WC.block (WC.loop (WL.ofLoop ho8 (fun s R' B' => ghosts prog 0 (A R' B') (hints.at_ 89 1) = some (A [(0, .d (.int .i64 s.1)), (1, .d (.int .i64 s.2))] [])) (fun o e R' B' => e = .exit 0 ∧ ghosts prog 0 (A R' B') (hints.at_ 89 3) = some (A [(0, .d (.int .i64 o))] [])) rfl ?_ ?_))
 ·rintro ⟨s1, s2⟩ R' B' q4 hI h
  refine qS<|gS rfl hI<|sM rfl<|sF h (fun h => ?_) fun h => ?_
  ·refine sN<|cT<|qK<|qB<|WC.regionD rfl rfl<|sM rfl<|sM rfl<|sM rfl<|bE h fun x6 hx6 h => WO.remG hx6 rfl rfl rfl rfl rfl rfl<|sA rfl<|sA rfl ?_
   refine sN<|sO ?_
   obtain rfl:=oI h
   exact ⟨rfl, rfl⟩
  refine sN<|cF<|qX ?_
  obtain rfl:=oI h
  exact ⟨(fun he => by cases he), rfl, rfl⟩
 intro e R' B' he hq
 obtain ⟨rfl, hI⟩ := hq
 refine qE<|gS rfl hI<|sM rfl<|sA rfl<|sN<|qR ?_
 obtain rfl:=oI h
 exact qD
theorem rate_Valid_ev {a0 : T_api_Rate} {r : Bool} (h : rate_Valid a0 = some r) : EvP prog hints ext 54 [.d (T_api_Rate.pd a0)] [] (.d (.bool r), []) := by
 refine Ev.body rfl Tryz.func54 rfl (by kernel_rfl)<|gS rfl rfl<|sB (.ptr 16 0) 16 (.var [.d (.int .i64 a0.fNum), .d (.int .i64 a0.fDen)])<|sU<|sN<|gS rfl rfl<|sV (.ptr 16 0)<|sL rfl<|bE h fun x1 hx1 h => ite_elim h (fun hb2 h => ?_) (fun hb2 h => ?_)
 ·refine WO.callR (v := .d (.bool true)) (u := []) rfl rfl (fun _ => rfl) rfl rfl rfl rfl rfl (rate_in_ev hx1) rfl rfl (congrArg (fun b => RV.d (.bool b)) hb2) rfl<|sM rfl<|sV (.ptr 16 1)<|sL rfl<|bE h fun x3 hx3 h => cD (rate_in_ev hx3)<|sF h (fun h => ?_) fun h => ?_
  ·refine sM rfl<|sV (.ptr 16 0)<|sL rfl<|sV (.ptr 16 1)<|sL rfl<|bE h fun x5 hx5 h => cD (rate_gcd_ev hx5)<|sV (.d (.bool (x5 == (1 : Int))))<|sV (.d (.bool (x5 == (1 : Int))))<|sA rfl<|sN<|qR ?_
   obtain rfl:=oI h
   exact qD
  refine sM rfl<|sK<|sK<|sK<|sK<|sK<|sK<|sU<|sA rfl<|sN<|qR ?_
  obtain rfl:=oI h
  exact qD
 refine WO.callR (v := .d (.bool false)) (u := []) rfl rfl (fun _ => rfl) rfl rfl rfl rfl rfl (rate_in_ev hx1) rfl rfl (congrArg (fun b => RV.d (.bool b)) hb2) rfl<|sM rfl<|sK<|sK<|sK<|sU<|sM rfl<|sK<|sK<|sK<|sK<|sK<|sK<|sU<|sA rfl ?_
 refine sN<|qR ?_
 obtain rfl:=oI h
 exact qD
theorem response_in_ev {a0 : Int} {a1 : Int} {a2 : Int} {r : Bool} (h : response_in a0 a1 a2 = some r) : EvP prog hints ext 114 [.d (.int .i64 a0), .d (.int .i64 a1), .d (.int .i64 a2)] [] (.d (.bool r), []) := by
 refine Ev.body rfl Tryz.func114 rfl (by kernel_rfl)<|gS rfl rfl<|sU<|sN<|gS rfl rfl<|sM rfl<|sM rfl<|sF h (fun h => ?_) fun h => ?_
 ·refine sM rfl<|sM rfl<|sM rfl<|sV (.d (.bool (decide (a0 ≤ a2))))<|sV (.d (.bool (decide (a0 ≤ a2))))<|sA rfl<|sN<|qR ?_
  obtain rfl:=oI h
  exact qD
 refine sM rfl<|sK<|sK<|sK<|sU<|sA rfl<|sN<|qR ?_
 obtain rfl:=oI h
 exact qD
theorem response_terms_lit1_ev {a0 : Int} {r : Bool} (h : response_terms_lit1 a0 = some r) : EvP prog hints ext 132 [.d (.int .i64 a0)] [] (.d (.bool r), []) := by
 refine Ev.body rfl Tryz.func132 rfl (by kernel_rfl)<|gS rfl rfl<|sU<|sN<|gS rfl rfl<|sM rfl<|bE h fun x1 hx1 h => cD (response_in_ev hx1)<|sV (.d (.bool (!x1)))<|sA rfl<|sN<|qR ?_
 obtain rfl:=oI h
 exact qD
theorem slices_IndexFunc_int_lit1_ev {a0 : (List Int)} {r : Int} (h : slices_IndexFunc_int_lit1 a0 = some r) : EvP prog hints ext 141 [.d (.lst (a0.map (PD.int .i64))), .d (.raw (.func (.func 132) #[] #[]))] [] (.d (.int .i64 r), []) := by
 refine Ev.body rfl Tryz.func141 rfl (by kernel_rfl)<|gS rfl rfl<|sV (.d (.int .i64 0))<|sN<|qS<|gS rfl rfl<|sM rfl<|sE (.d (.int .i64 (a0.length : Int))) (lenMap _ _)<|sV (.d (.int .i64 0))<|sN<|bE h fun o8 ho8 h => WC.block (WC.loop (WL.ofLoop ho8 (fun s R' B' => ghosts prog 0 (A R' B') (hints.at_ 141 2) = some (A [(0, .d (.lst (a0.map (PD.int .i64)))), (1, .d (.raw (.func (.func 132) #[] #[]))), (7, .d (.int .i64 (a0.length : Int))), (8, .d (.int .i64 s))] [])) (fun o e R' B' => match o with | .inl y => e = .exit 0 ∧ ghosts prog 0 (A R' B') (hints.at_ 141 7) = some (A [] []) | .inr r => e = .ret ∧ finish prog (hints.own 141) Tryz.f141 0 (A R' B') = some (.d (.int .i64 r), [])) rfl ?_ ?_))
 ·rintro s1 R' B' q2 hI h
  refine gS rfl hI<|sF h (fun h => ?_) fun h => ?_
  ·refine sN<|qS<|cT<|qK<|qS<|qB<|gS rfl rfl<|sM rfl<|sA rfl<|sN<|gS rfl rfl<|sM rfl<|sM rfl<|sM rfl<|bE h fun x4 hx4 h => ?_
   refine WO.elemG hx4 rfl rfl rfl rfl rfl rfl rfl rfl rfl<|sC rfl<|bE h fun x5 hx5 h => ite_elim h (fun hb6 h => ?_) (fun hb6 h => ?_)
   ·refine WO.callR (v := .d (.bool true)) (u := []) rfl rfl (fun _ => rfl) rfl rfl rfl rfl rfl (response_terms_lit1_ev hx5) rfl rfl (congrArg (fun b => RV.d (.bool b)) hb6) rfl<|sN<|cT<|gS rfl rfl<|sM rfl<|sA rfl<|sN<|qR ?_
    obtain rfl:=oI h
    exact ⟨(fun he => by cases he), rfl, rfl⟩
   refine WO.callR (v := .d (.bool false)) (u := []) rfl rfl (fun _ => rfl) rfl rfl rfl rfl rfl (response_terms_lit1_ev hx5) rfl rfl (congrArg (fun b => RV.d (.bool b)) hb6) rfl<|sN<|cF<|qK<|WC.region rfl rfl<|sV (.d (.int .i64 (IntKind.wrap .i64 (s1 + (1 : Int)))))<|sM rfl<|sN ?_
   obtain rfl:=oI h
   exact ⟨rfl, rfl⟩
  refine sN<|qS<|cF<|qX ?_
  obtain rfl:=oI h
  exact ⟨(fun he => by cases he), rfl, rfl⟩
 intro e R' B' he hq
 rcases o8 with y9 | r10
 ·obtain ⟨rfl, hI⟩ := hq
  refine qE<|gS rfl hI<|sV (.d (.int .i64 (-1)))<|sN<|qR ?_
  obtain rfl:=oI h
  exact qD
 obtain ⟨rfl, hf⟩ := hq
 obtain rfl:=oI h
 exact hf
theorem slices_ContainsFunc_int_lit1_ev {a0 : (List Int)} {r : Bool} (h : slices_ContainsFunc_int_lit1 a0 = some r) : EvP prog hints ext 131 [.d (.lst (a0.map (PD.int .i64))), .d (.raw (.func (.func 132) #[] #[]))] [] (.d (.bool r), []) := by
 refine Ev.body rfl Tryz.func131 rfl (by kernel_rfl)<|gS rfl rfl<|sU<|sN<|gS rfl rfl<|sM rfl<|sM rfl<|bE h fun x1 hx1 h => cD (slices_IndexFunc_int_lit1_ev hx1)<|sV (.d (.bool (decide (x1 ≥ (0 : Int)))))<|sA rfl<|sN<|qR ?_
 obtain rfl:=oI h
 exact qD
theorem response_terms_ev {a0 : (List Int)} {r : Bool} (h : response_terms a0 = some r) : EvP prog hints ext 115 [.d (.lst (a0.map (PD.int .i64)))] [] (.d (.bool r), []) := by
 refine Ev.body rfl Tryz.func115 rfl (by kernel_rfl)<|gS rfl rfl<|sU<|sN<|gS rfl rfl<|sM rfl<|bE h fun x1 hx1 h => cD (slices_ContainsFunc_int_lit1_ev hx1)<|sV (.d (.bool (!x1)))<|sA rfl<|sN<|qR ?_
 obtain rfl:=oI h
 exact qD
theorem response_sum_ev {a0 : (List Int)} {r : Int} (h : response_sum a0 = some r) : EvP prog hints ext 116 [.d (.lst (a0.map (PD.int .i64)))] [] (.d (.int .i64 r), []) := by
 refine Ev.body rfl Tryz.func116 rfl (by kernel_rfl)<|gS rfl rfl<|sV (.d (.int .i64 0))<|sN<|gS rfl rfl<|sV (.d (.int .i64 0))<|sN<|qS<|gS rfl rfl<|sM rfl<|sE (.d (.int .i64 (a0.length : Int))) (lenMap _ _)<|sV (.d (.int .i64 0))<|sN<|bE h fun o8 ho8 h => WC.block (WC.loop (WL.ofLoop ho8 (fun s R' B' => ghosts prog 0 (A R' B') (hints.at_ 116 3) = some (A [(3, .d (.int .i64 s.1)), (6, .d (.lst (a0.map (PD.int .i64)))), (7, .d (.int .i64 (a0.length : Int))), (8, .d (.int .i64 s.2))] [])) (fun o e R' B' => e = .exit 0 ∧ ghosts prog 0 (A R' B') (hints.at_ 116 7) = some (A [(3, .d (.int .i64 o))] [])) rfl ?_ ?_))
 ·rintro ⟨s1, s2⟩ R' B' q4 hI h
  refine gS rfl hI<|sF h (fun h => ?_) fun h => ?_
  ·refine sN<|qS<|cT<|qK<|qS<|qB<|gS rfl rfl<|bE h fun x6 hx6 h => WO.elemG hx6 rfl rfl rfl rfl rfl rfl rfl rfl rfl<|sC rfl<|sA rfl<|sN<|WC.region rfl rfl<|sM rfl<|sM rfl ?_
   refine sV (.d (.int .i64 (IntKind.wrap .i64 (s1 + x6))))<|sA rfl<|sN<|WC.region rfl rfl<|sV (.d (.int .i64 (IntKind.wrap .i64 (s2 + (1 : Int)))))<|sM rfl<|sN ?_
   obtain rfl:=oI h
   exact ⟨rfl, rfl⟩
  refine sN<|qS<|cF<|qX ?_
  obtain rfl:=oI h
  exact ⟨(fun he => by cases he), rfl, rfl⟩
 intro e R' B' he hq
 obtain ⟨rfl, hI⟩ := hq
 refine qE<|gS rfl hI<|sM rfl<|sA rfl<|sN<|qR ?_
 obtain rfl:=oI h
 exact qD
theorem response_ValidStage_ev {a0 : T_api_Stage} {r : Bool} (h : response_ValidStage a0 = some r) : EvP prog hints ext 92 [.d (T_api_Stage.pd a0)] [] (.d (.bool r), []) := by
 refine Ev.body rfl Tryz.func92 rfl (by kernel_rfl)<|gS rfl rfl<|sB (.ptr 16 0) 16 (.var [.d (.int .i64 a0.fKind), .d (.int .i64 a0.fNum.a0), .d (.int .i64 a0.fNum.a1), .d (.int .i64 a0.fNum.a2), .d (.int .i64 a0.fDen.a0), .d (.int .i64 a0.fDen.a1), .d (.int .i64 a0.fDen.a2), .d (.lst (a0.fTaps.map (PD.int .i64))), .d (.int .i64 a0.fFactor), .d (.int .i64 a0.fShift)])<|sU<|sN<|gS rfl rfl<|sV (.ptr 16 7)<|sL rfl<|sE (.d (.int .i64 (a0.fTaps.length : Int))) (lenMap _ _)<|sF h (fun h => ?_) fun h => ?_
 ·refine sM rfl<|sV (.ptr 16 8)<|sL rfl<|sV (.d (.bool (a0.fFactor == (0 : Int))))<|sF h (fun h => ?_) fun h => ?_
  ·refine sM rfl<|sV (.ptr 16 9)<|sL rfl<|sV (.d (.bool (a0.fShift == (0 : Int))))<|sV (.d (.bool (a0.fShift == (0 : Int))))<|sA rfl<|sN<|qS<|gS rfl rfl<|sV (.ptr 16 0)<|sL rfl<|sN<|qB<|gS rfl rfl<|sF h (fun h => ?_) fun h => ?_
   ·refine sA rfl<|sN<|cT<|gS rfl rfl<|sF h (fun h => ?_) fun h => ?_
    ·refine sM rfl<|sV (.ptr 16 1)<|sV (.d (A3_Int.pd a0.fNum))<|sV (.ptr 16 1)<|sV (.ptr 16 1)<|sL rfl<|sV (.d (A3_Int.pd (A3_Int.mk a0.fNum.a0 0 0)))<|WO.bin (eqE_90 a0.fNum (A3_Int.mk a0.fNum.a0 0 0)) rfl rfl rfl rfl rfl<|sF h (fun h => ?_) fun h => ?_
     ·refine sM rfl<|sV (.ptr 16 4)<|sV (.d (A3_Int.pd a0.fDen))<|sV (.ptr 16 4)<|sV (.ptr 16 4)<|sL rfl<|sV (.d (A3_Int.pd (A3_Int.mk a0.fDen.a0 0 0)))<|WO.bin (eqE_90 a0.fDen (A3_Int.mk a0.fDen.a0 0 0)) rfl rfl rfl rfl rfl<|sF h (fun h => ?_) fun h => ?_
      ·refine sM rfl<|sV (.ptr 16 1)<|sV (.ptr 16 1)<|sL rfl<|bE h fun x7 hx7 h => cD (response_in_ev hx7)<|sF h (fun h => ?_) fun h => ?_
       ·refine sM rfl<|sV (.ptr 16 4)<|sV (.ptr 16 4)<|sL rfl<|bE h fun x9 hx9 h => cD (response_in_ev hx9)<|sV (.d (.bool x9))<|sA rfl<|sN<|qR ?_
        obtain rfl:=oI h
        exact qD
       refine sM rfl<|sK<|sK<|sK<|sK<|sU<|sA rfl<|sN<|qR ?_
       obtain rfl:=oI h
       exact qD
      refine sM rfl<|sK<|sK<|sK<|sK<|sU<|sM rfl<|sK<|sK<|sK<|sK<|sU<|sA rfl<|sN<|qR ?_
      obtain rfl:=oI h
      exact qD
     refine sM rfl<|sK<|sK<|sK<|sK<|sK<|sK<|sK<|sU<|sM rfl<|sK<|sK<|sK<|sK<|sU ?_
     refine sM rfl<|sK<|sK<|sK<|sK<|sU<|sA rfl<|sN<|qR ?_
     obtain rfl:=oI h
     exact qD
    refine sM rfl<|sK<|sK<|sK<|sK<|sK<|sK<|sK<|sU<|sM rfl<|sK<|sK<|sK<|sK<|sK ?_
    refine sK<|sK<|sU<|sM rfl<|sK<|sK<|sK<|sK<|sU<|sM rfl<|sK<|sK<|sK<|sK<|sU ?_
    refine sA rfl<|sN<|qR ?_
    obtain rfl:=oI h
    exact qD
   refine sA rfl<|sN<|cF<|gS rfl rfl<|sF h (fun h => ?_) fun h => ?_
   ·refine sA rfl<|sN<|cT<|WC.regionSeq (R0 := [(1, .cptr [.int .i64 a0.fKind, .int .i64 a0.fNum.a0, .int .i64 a0.fNum.a1, .int .i64 a0.fNum.a2, .int .i64 a0.fDen.a0, .int .i64 a0.fDen.a1, .int .i64 a0.fDen.a2, .lst (a0.fTaps.map (PD.int .i64)), .int .i64 a0.fFactor, .int .i64 a0.fShift]), (3, .d (.bool (a0.fShift == (0 : Int))))]) (B0 := []) rfl rfl<|sF h (fun h => ?_) fun h => ?_
    ·refine sM rfl<|sV (.cptr [.int .i64 a0.fNum.a0, .int .i64 a0.fNum.a1, .int .i64 a0.fNum.a2, .int .i64 a0.fDen.a0, .int .i64 a0.fDen.a1, .int .i64 a0.fDen.a2, .lst (a0.fTaps.map (PD.int .i64)), .int .i64 a0.fFactor, .int .i64 a0.fShift])<|sV (.d (.lst ([a0.fNum.a0, a0.fNum.a1, a0.fNum.a2].map (PD.int .i64))))<|bE h fun x12 hx12 h => cD (response_terms_ev hx12)<|sF h (fun h => ?_) fun h => ?_
     ·refine sM rfl<|sV (.cptr [.int .i64 a0.fDen.a0, .int .i64 a0.fDen.a1, .int .i64 a0.fDen.a2, .lst (a0.fTaps.map (PD.int .i64)), .int .i64 a0.fFactor, .int .i64 a0.fShift])<|sV (.d (.lst ([a0.fDen.a0, a0.fDen.a1, a0.fDen.a2].map (PD.int .i64))))<|bE h fun x14 hx14 h => cD (response_terms_ev hx14)<|sF h (fun h => ?_) fun h => ?_
      ·refine sM rfl<|sV (.cptr [.int .i64 a0.fDen.a0, .int .i64 a0.fDen.a1, .int .i64 a0.fDen.a2, .lst (a0.fTaps.map (PD.int .i64)), .int .i64 a0.fFactor, .int .i64 a0.fShift])<|sV (.cptr [.int .i64 a0.fDen.a0, .int .i64 a0.fDen.a1, .int .i64 a0.fDen.a2, .lst (a0.fTaps.map (PD.int .i64)), .int .i64 a0.fFactor, .int .i64 a0.fShift])<|sC rfl<|sV (.d (.bool (a0.fDen.a0 != (0 : Int))))<|sV (.d (.bool (a0.fDen.a0 != (0 : Int))))<|sA rfl<|sN<|qR ?_
       obtain rfl:=oI h
       exact qD
      refine sM rfl<|sK<|sK<|sK<|sK<|sU<|sA rfl<|sN<|qR ?_
      obtain rfl:=oI h
      exact qD
     refine sM rfl<|sK<|sK<|sK<|sU<|sM rfl<|sK<|sK<|sK<|sK<|sU<|sA rfl<|sN<|qR ?_
     obtain rfl:=oI h
     exact qD
    refine sM rfl<|sK<|sK<|sK<|sU<|sM rfl<|sK<|sK<|sK<|sU<|sM rfl<|sK<|sK<|sK<|sK ?_
    refine sU<|sA rfl<|sN<|qR ?_
    obtain rfl:=oI h
    exact qD
   refine sA rfl<|sN<|cF<|gS rfl rfl<|sF h (fun h => ?_) fun h => ?_
   ·refine sA rfl<|sN<|cT<|gS rfl rfl<|sV (.ptr 16 1)<|sV (.d (A3_Int.pd a0.fNum))<|sV (.d (A3_Int.pd (A3_Int.mk 0 0 0)))<|ite_elim h (fun hb17 h => ?_) (fun hb17 h => ?_)
    ·refine WO.binS (eqE_90 a0.fNum (A3_Int.mk 0 0 0)) hb17 rfl rfl rfl rfl rfl<|sM rfl<|sV (.ptr 16 4)<|sV (.d (A3_Int.pd a0.fDen))<|sV (.d (A3_Int.pd (A3_Int.mk 0 0 0)))<|WO.bin (eqE_90 a0.fDen (A3_Int.mk 0 0 0)) rfl rfl rfl rfl rfl<|sF h (fun h => ?_) fun h => ?_
     ·refine sM rfl<|sV (.ptr 16 7)<|sL rfl<|sE (.d (.int .i64 (a0.fTaps.length : Int))) (lenMap _ _)<|bE h fun x19 hx19 h => cD (response_in_ev hx19)<|sF h (fun h => ?_) fun h => ?_
      ·refine sM rfl<|sV (.ptr 16 7)<|sL rfl<|bE h fun x21 hx21 h => cD (response_terms_ev hx21)<|sF h (fun h => ?_) fun h => ?_
       ·refine sM rfl<|sV (.ptr 16 7)<|sL rfl<|bE h fun x23 hx23 h => cD (response_sum_ev hx23)<|sV (.d (.bool (x23 != (0 : Int))))<|sF h (fun h => ?_) fun h => ?_
        ·refine sM rfl<|sV (.ptr 16 8)<|sL rfl<|bE h fun x25 hx25 h => cD (response_in_ev hx25)<|sF h (fun h => ?_) fun h => ?_
         ·refine sM rfl<|sV (.ptr 16 9)<|sL rfl<|bE h fun x27 hx27 h => cD (response_in_ev hx27)<|sV (.d (.bool x27))<|sA rfl<|sN<|qR ?_
          obtain rfl:=oI h
          exact qD
         refine sM rfl<|sK<|sK<|sK<|sU<|sA rfl<|sN<|qR ?_
         obtain rfl:=oI h
         exact qD
        refine sM rfl<|sK<|sK<|sK<|sU<|sM rfl<|sK<|sK<|sK<|sU<|sA rfl<|sN<|qR ?_
        obtain rfl:=oI h
        exact qD
       refine sM rfl<|sK<|sK<|sK<|sK<|sU<|sM rfl<|sK<|sK<|sK<|sU<|sM rfl<|sK<|sK<|sK ?_
       refine sU<|sA rfl<|sN<|qR ?_
       obtain rfl:=oI h
       exact qD
      refine sM rfl<|sK<|sK<|sK<|sU<|sM rfl<|sK<|sK<|sK<|sK<|sU<|sM rfl<|sK<|sK<|sK ?_
      refine sU<|sM rfl<|sK<|sK<|sK<|sU<|sA rfl<|sN<|qR ?_
      obtain rfl:=oI h
      exact qD
     refine sM rfl<|sK<|sK<|sK<|sK<|sU<|sM rfl<|sK<|sK<|sK<|sU<|sM rfl<|sK<|sK<|sK ?_
     refine sK<|sU<|sM rfl<|sK<|sK<|sK<|sU<|sM rfl<|sK<|sK<|sK<|sU<|sA rfl<|sN<|qR ?_
     obtain rfl:=oI h
     exact qD
    refine WO.binS (eqE_90 a0.fNum (A3_Int.mk 0 0 0)) hb17 rfl rfl rfl rfl rfl<|sM rfl<|sK<|sK<|sK<|sK<|sU<|sM rfl<|sK<|sK<|sK<|sK<|sU<|sM rfl<|sK ?_
    refine sK<|sK<|sU<|sM rfl<|sK<|sK<|sK<|sK<|sU<|sM rfl<|sK<|sK<|sK<|sU<|sM rfl ?_
    refine sK<|sK<|sK<|sU<|sA rfl<|sN<|qR ?_
    obtain rfl:=oI h
    exact qD
   refine sA rfl<|sN<|cF<|qK<|gS rfl rfl<|sU<|sN<|qR ?_
   obtain rfl:=oI h
   exact qD
  refine sM rfl<|sK<|sK<|sK<|sU<|sA rfl<|sN<|qS<|gS rfl rfl<|sV (.ptr 16 0)<|sL rfl<|sN<|qB<|gS rfl rfl<|sF h (fun h => ?_) fun h => ?_
  ·refine sA rfl<|sN<|cT<|gS rfl rfl<|sM rfl<|sM rfl<|sK<|sK<|sK<|sK<|sK<|sK<|sK<|sU<|sM rfl ?_
   refine sK<|sK<|sK<|sK<|sK<|sK<|sK<|sU<|sM rfl<|sK<|sK<|sK<|sK<|sU<|sM rfl ?_
   refine sK<|sK<|sK<|sK<|sU<|sA rfl<|sN<|qR ?_
   obtain rfl:=oI h
   exact qD
  refine sA rfl<|sN<|cF<|gS rfl rfl<|sF h (fun h => ?_) fun h => ?_
  ·refine sA rfl<|sN<|cT<|WC.regionSeq (R0 := [(1, .cptr [.int .i64 a0.fKind, .int .i64 a0.fNum.a0, .int .i64 a0.fNum.a1, .int .i64 a0.fNum.a2, .int .i64 a0.fDen.a0, .int .i64 a0.fDen.a1, .int .i64 a0.fDen.a2, .lst (a0.fTaps.map (PD.int .i64)), .int .i64 a0.fFactor, .int .i64 a0.fShift]), (3, .d (.bool false))]) (B0 := []) rfl rfl<|sM rfl<|sM rfl<|sK<|sK<|sK<|sU<|sM rfl<|sK<|sK<|sK<|sU ?_
   refine sM rfl<|sK<|sK<|sK<|sK<|sU<|sA rfl<|sN<|qR ?_
   obtain rfl:=oI h
   exact qD
  refine sA rfl<|sN<|cF<|gS rfl rfl<|sF h (fun h => ?_) fun h => ?_
  ·refine sA rfl<|sN<|cT<|gS rfl rfl<|sV (.ptr 16 1)<|sV (.d (A3_Int.pd a0.fNum))<|sV (.d (A3_Int.pd (A3_Int.mk 0 0 0)))<|ite_elim h (fun hb31 h => ?_) (fun hb31 h => ?_)
   ·refine WO.binS (eqE_90 a0.fNum (A3_Int.mk 0 0 0)) hb31 rfl rfl rfl rfl rfl<|sM rfl<|sV (.ptr 16 4)<|sV (.d (A3_Int.pd a0.fDen))<|sV (.d (A3_Int.pd (A3_Int.mk 0 0 0)))<|WO.bin (eqE_90 a0.fDen (A3_Int.mk 0 0 0)) rfl rfl rfl rfl rfl<|sF h (fun h => ?_) fun h => ?_
    ·refine sM rfl<|sV (.ptr 16 7)<|sL rfl<|sE (.d (.int .i64 (a0.fTaps.length : Int))) (lenMap _ _)<|bE h fun x33 hx33 h => cD (response_in_ev hx33)<|sF h (fun h => ?_) fun h => ?_
     ·refine sM rfl<|sV (.ptr 16 7)<|sL rfl<|bE h fun x35 hx35 h => cD (response_terms_ev hx35)<|sF h (fun h => ?_) fun h => ?_
      ·refine sM rfl<|sV (.ptr 16 7)<|sL rfl<|bE h fun x37 hx37 h => cD (response_sum_ev hx37)<|sV (.d (.bool (x37 != (0 : Int))))<|sF h (fun h => ?_) fun h => ?_
       ·refine sM rfl<|sV (.ptr 16 8)<|sL rfl<|bE h fun x39 hx39 h => cD (response_in_ev hx39)<|sF h (fun h => ?_) fun h => ?_
        ·refine sM rfl<|sV (.ptr 16 9)<|sL rfl<|bE h fun x41 hx41 h => cD (response_in_ev hx41)<|sV (.d (.bool x41))<|sA rfl<|sN<|qR ?_
         obtain rfl:=oI h
         exact qD
        refine sM rfl<|sK<|sK<|sK<|sU<|sA rfl<|sN<|qR ?_
        obtain rfl:=oI h
        exact qD
       refine sM rfl<|sK<|sK<|sK<|sU<|sM rfl<|sK<|sK<|sK<|sU<|sA rfl<|sN<|qR ?_
       obtain rfl:=oI h
       exact qD
      refine sM rfl<|sK<|sK<|sK<|sK<|sU<|sM rfl<|sK<|sK<|sK<|sU<|sM rfl<|sK<|sK<|sK ?_
      refine sU<|sA rfl<|sN<|qR ?_
      obtain rfl:=oI h
      exact qD
     refine sM rfl<|sK<|sK<|sK<|sU<|sM rfl<|sK<|sK<|sK<|sK<|sU<|sM rfl<|sK<|sK<|sK ?_
     refine sU<|sM rfl<|sK<|sK<|sK<|sU<|sA rfl<|sN<|qR ?_
     obtain rfl:=oI h
     exact qD
    refine sM rfl<|sK<|sK<|sK<|sK<|sU<|sM rfl<|sK<|sK<|sK<|sU<|sM rfl<|sK<|sK<|sK ?_
    refine sK<|sU<|sM rfl<|sK<|sK<|sK<|sU<|sM rfl<|sK<|sK<|sK<|sU<|sA rfl<|sN<|qR ?_
    obtain rfl:=oI h
    exact qD
   refine WO.binS (eqE_90 a0.fNum (A3_Int.mk 0 0 0)) hb31 rfl rfl rfl rfl rfl<|sM rfl<|sK<|sK<|sK<|sK<|sU<|sM rfl<|sK<|sK<|sK<|sK<|sU<|sM rfl<|sK ?_
   refine sK<|sK<|sU<|sM rfl<|sK<|sK<|sK<|sK<|sU<|sM rfl<|sK<|sK<|sK<|sU<|sM rfl ?_
   refine sK<|sK<|sK<|sU<|sA rfl<|sN<|qR ?_
   obtain rfl:=oI h
   exact qD
  refine sA rfl<|sN<|cF<|qK<|gS rfl rfl<|sU<|sN<|qR ?_
  obtain rfl:=oI h
  exact qD
 refine sM rfl<|sK<|sK<|sK<|sU<|sM rfl<|sK<|sK<|sK<|sU<|sA rfl<|sN<|qS<|gS rfl rfl<|sV (.ptr 16 0) ?_
 refine sL rfl<|sN<|qB<|gS rfl rfl<|sF h (fun h => ?_) fun h => ?_
 ·refine sA rfl<|sN<|cT<|gS rfl rfl<|sM rfl<|sM rfl<|sK<|sK<|sK<|sK<|sK<|sK<|sK<|sU<|sM rfl ?_
  refine sK<|sK<|sK<|sK<|sK<|sK<|sK<|sU<|sM rfl<|sK<|sK<|sK<|sK<|sU<|sM rfl ?_
  refine sK<|sK<|sK<|sK<|sU<|sA rfl<|sN<|qR ?_
  obtain rfl:=oI h
  exact qD
 refine sA rfl<|sN<|cF<|gS rfl rfl<|sF h (fun h => ?_) fun h => ?_
 ·refine sA rfl<|sN<|cT<|WC.regionSeq (R0 := [(1, .cptr [.int .i64 a0.fKind, .int .i64 a0.fNum.a0, .int .i64 a0.fNum.a1, .int .i64 a0.fNum.a2, .int .i64 a0.fDen.a0, .int .i64 a0.fDen.a1, .int .i64 a0.fDen.a2, .lst (a0.fTaps.map (PD.int .i64)), .int .i64 a0.fFactor, .int .i64 a0.fShift]), (3, .d (.bool false))]) (B0 := []) rfl rfl<|sM rfl<|sM rfl<|sK<|sK<|sK<|sU<|sM rfl<|sK<|sK<|sK<|sU ?_
  refine sM rfl<|sK<|sK<|sK<|sK<|sU<|sA rfl<|sN<|qR ?_
  obtain rfl:=oI h
  exact qD
 refine sA rfl<|sN<|cF<|gS rfl rfl<|sF h (fun h => ?_) fun h => ?_
 ·refine sA rfl<|sN<|cT<|gS rfl rfl<|sV (.ptr 16 1)<|sV (.d (A3_Int.pd a0.fNum))<|sV (.d (A3_Int.pd (A3_Int.mk 0 0 0)))<|ite_elim h (fun hb45 h => ?_) (fun hb45 h => ?_)
  ·refine WO.binS (eqE_90 a0.fNum (A3_Int.mk 0 0 0)) hb45 rfl rfl rfl rfl rfl<|sM rfl<|sV (.ptr 16 4)<|sV (.d (A3_Int.pd a0.fDen))<|sV (.d (A3_Int.pd (A3_Int.mk 0 0 0)))<|WO.bin (eqE_90 a0.fDen (A3_Int.mk 0 0 0)) rfl rfl rfl rfl rfl<|sF h (fun h => ?_) fun h => ?_
   ·refine sM rfl<|sV (.ptr 16 7)<|sL rfl<|sE (.d (.int .i64 (a0.fTaps.length : Int))) (lenMap _ _)<|bE h fun x47 hx47 h => cD (response_in_ev hx47)<|sF h (fun h => ?_) fun h => ?_
    ·refine sM rfl<|sV (.ptr 16 7)<|sL rfl<|bE h fun x49 hx49 h => cD (response_terms_ev hx49)<|sF h (fun h => ?_) fun h => ?_
     ·refine sM rfl<|sV (.ptr 16 7)<|sL rfl<|bE h fun x51 hx51 h => cD (response_sum_ev hx51)<|sV (.d (.bool (x51 != (0 : Int))))<|sF h (fun h => ?_) fun h => ?_
      ·refine sM rfl<|sV (.ptr 16 8)<|sL rfl<|bE h fun x53 hx53 h => cD (response_in_ev hx53)<|sF h (fun h => ?_) fun h => ?_
       ·refine sM rfl<|sV (.ptr 16 9)<|sL rfl<|bE h fun x55 hx55 h => cD (response_in_ev hx55)<|sV (.d (.bool x55))<|sA rfl<|sN<|qR ?_
        obtain rfl:=oI h
        exact qD
       refine sM rfl<|sK<|sK<|sK<|sU<|sA rfl<|sN<|qR ?_
       obtain rfl:=oI h
       exact qD
      refine sM rfl<|sK<|sK<|sK<|sU<|sM rfl<|sK<|sK<|sK<|sU<|sA rfl<|sN<|qR ?_
      obtain rfl:=oI h
      exact qD
     refine sM rfl<|sK<|sK<|sK<|sK<|sU<|sM rfl<|sK<|sK<|sK<|sU<|sM rfl<|sK<|sK<|sK ?_
     refine sU<|sA rfl<|sN<|qR ?_
     obtain rfl:=oI h
     exact qD
    refine sM rfl<|sK<|sK<|sK<|sU<|sM rfl<|sK<|sK<|sK<|sK<|sU<|sM rfl<|sK<|sK<|sK ?_
    refine sU<|sM rfl<|sK<|sK<|sK<|sU<|sA rfl<|sN<|qR ?_
    obtain rfl:=oI h
    exact qD
   refine sM rfl<|sK<|sK<|sK<|sK<|sU<|sM rfl<|sK<|sK<|sK<|sU<|sM rfl<|sK<|sK<|sK ?_
   refine sK<|sU<|sM rfl<|sK<|sK<|sK<|sU<|sM rfl<|sK<|sK<|sK<|sU<|sA rfl<|sN<|qR ?_
   obtain rfl:=oI h
   exact qD
  refine WO.binS (eqE_90 a0.fNum (A3_Int.mk 0 0 0)) hb45 rfl rfl rfl rfl rfl<|sM rfl<|sK<|sK<|sK<|sK<|sU<|sM rfl<|sK<|sK<|sK<|sK<|sU<|sM rfl<|sK ?_
  refine sK<|sK<|sU<|sM rfl<|sK<|sK<|sK<|sK<|sU<|sM rfl<|sK<|sK<|sK<|sU<|sM rfl ?_
  refine sK<|sK<|sK<|sU<|sA rfl<|sN<|qR ?_
  obtain rfl:=oI h
  exact qD
 refine sA rfl<|sN<|cF<|qK<|gS rfl rfl<|sU<|sN<|qR ?_
 obtain rfl:=oI h
 exact qD
theorem response_Valid_lit1_ev {a0 : T_api_Stage} {r : Bool} (h : response_Valid_lit1 a0 = some r) : EvP prog hints ext 91 [.d (T_api_Stage.pd a0)] [] (.d (.bool r), []) := by
 refine Ev.body rfl Tryz.func91 rfl (by kernel_rfl)<|gS rfl rfl<|sB (.ptr 16 0) 16 (.var [.d (.int .i64 a0.fKind), .d (.int .i64 a0.fNum.a0), .d (.int .i64 a0.fNum.a1), .d (.int .i64 a0.fNum.a2), .d (.int .i64 a0.fDen.a0), .d (.int .i64 a0.fDen.a1), .d (.int .i64 a0.fDen.a2), .d (.lst (a0.fTaps.map (PD.int .i64))), .d (.int .i64 a0.fFactor), .d (.int .i64 a0.fShift)])<|sU<|sN<|gS rfl rfl<|sV (.d (T_api_Stage.pd a0))<|bE h fun x1 hx1 h => cD (response_ValidStage_ev hx1)<|sV (.d (.bool (!x1)))<|sA rfl<|sN<|qR ?_
 obtain rfl:=oI h
 exact qD
theorem slices_IndexFunc_Stage_lit1_ev {a0 : (List T_api_Stage)} {r : Int} (h : slices_IndexFunc_Stage_lit1 a0 = some r) : EvP prog hints ext 113 [.d (.lst (a0.map T_api_Stage.pd)), .d (.raw (.func (.func 91) #[] #[]))] [] (.d (.int .i64 r), []) := by
 refine Ev.body rfl Tryz.func113 rfl (by kernel_rfl)<|gS rfl rfl<|sV (.d (.int .i64 0))<|sN<|qS<|gS rfl rfl<|sM rfl<|sE (.d (.int .i64 (a0.length : Int))) (lenMap _ _)<|sV (.d (.int .i64 0))<|sN<|bE h fun o8 ho8 h => WC.block (WC.loop (WL.ofLoop ho8 (fun s R' B' => ghosts prog 0 (A R' B') (hints.at_ 113 2) = some (A [(0, .d (.lst (a0.map T_api_Stage.pd))), (1, .d (.raw (.func (.func 91) #[] #[]))), (7, .d (.int .i64 (a0.length : Int))), (8, .d (.int .i64 s))] [])) (fun o e R' B' => match o with | .inl y => e = .exit 0 ∧ ghosts prog 0 (A R' B') (hints.at_ 113 7) = some (A [] []) | .inr r => e = .ret ∧ finish prog (hints.own 113) Tryz.f113 0 (A R' B') = some (.d (.int .i64 r), [])) rfl ?_ ?_))
 ·rintro s1 R' B' q2 hI h
  refine gS rfl hI<|sF h (fun h => ?_) fun h => ?_
  ·refine sN<|qS<|cT<|qK<|qS<|qB<|gS rfl rfl<|sM rfl<|sA rfl<|sN<|gS rfl rfl<|sM rfl<|sM rfl<|sM rfl<|bE h fun x4 hx4 h => ?_
   refine WO.elemG hx4 rfl rfl rfl rfl rfl rfl rfl rfl rfl<|sV (.d (T_api_Stage.pd x4))<|bE h fun x5 hx5 h => ite_elim h (fun hb6 h => ?_) (fun hb6 h => ?_)
   ·refine WO.callR (v := .d (.bool true)) (u := []) rfl rfl (fun _ => rfl) rfl rfl rfl rfl rfl (response_Valid_lit1_ev hx5) rfl rfl (congrArg (fun b => RV.d (.bool b)) hb6) rfl<|sN<|cT<|gS rfl rfl<|sM rfl<|sA rfl<|sN<|qR ?_
    obtain rfl:=oI h
    exact ⟨(fun he => by cases he), rfl, rfl⟩
   refine WO.callR (v := .d (.bool false)) (u := []) rfl rfl (fun _ => rfl) rfl rfl rfl rfl rfl (response_Valid_lit1_ev hx5) rfl rfl (congrArg (fun b => RV.d (.bool b)) hb6) rfl<|sN<|cF<|qK<|WC.region rfl rfl<|sV (.d (.int .i64 (IntKind.wrap .i64 (s1 + (1 : Int)))))<|sM rfl<|sN ?_
   obtain rfl:=oI h
   exact ⟨rfl, rfl⟩
  refine sN<|qS<|cF<|qX ?_
  obtain rfl:=oI h
  exact ⟨(fun he => by cases he), rfl, rfl⟩
 intro e R' B' he hq
 rcases o8 with y9 | r10
 ·obtain ⟨rfl, hI⟩ := hq
  refine qE<|gS rfl hI<|sV (.d (.int .i64 (-1)))<|sN<|qR ?_
  obtain rfl:=oI h
  exact qD
 obtain ⟨rfl, hf⟩ := hq
 obtain rfl:=oI h
 exact hf
theorem slices_ContainsFunc_Stage_lit1_ev {a0 : (List T_api_Stage)} {r : Bool} (h : slices_ContainsFunc_Stage_lit1 a0 = some r) : EvP prog hints ext 90 [.d (.lst (a0.map T_api_Stage.pd)), .d (.raw (.func (.func 91) #[] #[]))] [] (.d (.bool r), []) := by
 refine Ev.body rfl Tryz.func90 rfl (by kernel_rfl)<|gS rfl rfl<|sU<|sN<|gS rfl rfl<|sM rfl<|sM rfl<|bE h fun x1 hx1 h => cD (slices_IndexFunc_Stage_lit1_ev hx1)<|sV (.d (.bool (decide (x1 ≥ (0 : Int)))))<|sA rfl<|sN<|qR ?_
 obtain rfl:=oI h
 exact qD
theorem response_factor_ev {a0 : (List T_api_Stage)} {r : Int} (h : response_factor a0 = some r) : EvP prog hints ext 93 [.d (.lst (a0.map T_api_Stage.pd))] [] (.d (.int .i64 r), []) := by
 refine Ev.body rfl Tryz.func93 rfl (by kernel_rfl)<|gS rfl rfl<|sV (.d (.int .i64 0))<|sN<|gS rfl rfl<|sV (.d (.int .i64 1))<|sN<|qS<|gS rfl rfl<|sM rfl<|sE (.d (.int .i64 (a0.length : Int))) (lenMap _ _)<|sV (.d (.int .i64 0))<|sN<|bE h fun o10 ho10 h => WC.block (WC.loop (WL.ofLoop ho10 (fun s R' B' => ghosts prog 0 (A R' B') (hints.at_ 93 3) = some (A [(3, .d (.int .i64 s.1)), (6, .d (.lst (a0.map T_api_Stage.pd))), (7, .d (.int .i64 (a0.length : Int))), (8, .d (.int .i64 s.2))] [])) (fun o e R' B' => match o with | .inl y => e = .exit 0 ∧ ghosts prog 0 (A R' B') (hints.at_ 93 10) = some (A [(3, .d (.int .i64 y))] []) | .inr r => e = .ret ∧ finish prog (hints.own 93) Tryz.f93 0 (A R' B') = some (.d (.int .i64 r), [])) rfl ?_ ?_))
 ·rintro ⟨s1, s2⟩ R' B' q4 hI h
  refine gS rfl hI<|sF h (fun h => ?_) fun h => ?_
  ·refine sN<|qS<|cT<|qK<|qS<|qB<|gS rfl rfl<|bE h fun x6 hx6 h => WO.elemG hx6 rfl rfl rfl rfl rfl rfl rfl rfl rfl<|sV (.d (T_api_Stage.pd x6))<|sB (.ptr 80 0) 80 (.var [.d (.int .i64 0), .d (.int .i64 0), .d (.int .i64 0), .d (.int .i64 0), .d (.int .i64 0), .d (.int .i64 0), .d (.int .i64 0), .nils, .d (.int .i64 0), .d (.int .i64 0)])<|sS 80 (.var [.d (.int .i64 x6.fKind), .d (.int .i64 x6.fNum.a0), .d (.int .i64 x6.fNum.a1), .d (.int .i64 x6.fNum.a2), .d (.int .i64 x6.fDen.a0), .d (.int .i64 x6.fDen.a1), .d (.int .i64 x6.fDen.a2), .d (.lst (x6.fTaps.map (PD.int .i64))), .d (.int .i64 x6.fFactor), .d (.int .i64 x6.fShift)])<|sN<|qS<|gS rfl rfl ?_
   refine sV (.ptr 80 0)<|sL rfl<|sF h (fun h => ?_) fun h => ?_
   ·refine sN<|cT<|qX<|qE<|WC.region rfl rfl<|sV (.d (.int .i64 (IntKind.wrap .i64 (s2 + (1 : Int)))))<|sM rfl<|sN ?_
    obtain rfl:=oI h
    exact ⟨rfl, rfl⟩
   refine sN<|cF<|qK<|gS rfl rfl<|sM rfl<|sV (.ptr 80 8)<|sL rfl<|sV (.d (.int .i64 (IntKind.wrap .i64 (s1 * x6.fFactor))))<|sA rfl<|sN<|gS rfl rfl<|sM rfl<|sF h (fun h => ?_) fun h => ?_
   ·refine sN<|cT<|gS rfl rfl<|sV (.d (.int .i64 0))<|sN<|qR ?_
    obtain rfl:=oI h
    exact ⟨(fun he => by cases he), rfl, rfl⟩
   refine sN<|cF<|qK<|WC.region rfl rfl<|sV (.d (.int .i64 (IntKind.wrap .i64 (s2 + (1 : Int)))))<|sM rfl<|sN ?_
   obtain rfl:=oI h
   exact ⟨rfl, rfl⟩
  refine sN<|qS<|cF<|qX ?_
  obtain rfl:=oI h
  exact ⟨(fun he => by cases he), rfl, rfl⟩
 intro e R' B' he hq
 rcases o10 with y11 | r12
 ·obtain ⟨rfl, hI⟩ := hq
  refine qE<|gS rfl hI<|sM rfl<|sA rfl<|sN<|qR ?_
  obtain rfl:=oI h
  exact qD
 obtain ⟨rfl, hf⟩ := hq
 obtain rfl:=oI h
 exact hf
theorem response_Valid_ev {a0 : T_api_Response} {r : Bool} (h : response_Valid a0 = some r) : EvP prog hints ext 55 [.d (T_api_Response.pd a0)] [] (.d (.bool r), []) := by
 refine Ev.body rfl Tryz.func55 rfl (by kernel_rfl)<|gS rfl rfl<|sB (.ptr 16 0) 16 (.var [.d (.lst (a0.fStages.map T_api_Stage.pd))])<|sU<|sN<|qS<|gS rfl rfl<|sV (.ptr 16 0)<|sL rfl<|sE (.d (.int .i64 (a0.fStages.length : Int))) (lenMap _ _)<|sF h (fun h => ?_) fun h => ?_
 ·refine sM rfl<|sK<|sK<|sK<|sT<|sN<|cT<|gS rfl rfl<|sU<|sN<|qR ?_
  obtain rfl:=oI h
  exact qD
 refine sM rfl<|sV (.ptr 16 0)<|sL rfl<|bE h fun x2 hx2 h => cD (slices_ContainsFunc_Stage_lit1_ev hx2)<|sF h (fun h => ?_) fun h => ?_
 ·refine sN<|cT<|gS rfl rfl<|sU<|sN<|qR ?_
  obtain rfl:=oI h
  exact qD
 refine sN<|cF<|qK<|gS rfl rfl<|sV (.ptr 16 0)<|sL rfl<|bE h fun x4 hx4 h => cD (response_factor_ev hx4)<|sV (.d (.bool (decide (x4 > (0 : Int)))))<|sA rfl<|sN<|qR ?_
 obtain rfl:=oI h
 exact qD
theorem inventory_in_ev {a0 : Int} {a1 : Int} {a2 : Int} {r : Bool} (h : inventory_in a0 a1 a2 = some r) : EvP prog hints ext 56 [.d (.int .i64 a0), .d (.int .i64 a1), .d (.int .i64 a2)] [] (.d (.bool r), []) := by
 refine Ev.body rfl Tryz.func56 rfl (by kernel_rfl)<|gS rfl rfl<|sU<|sN<|gS rfl rfl<|sM rfl<|sM rfl<|sF h (fun h => ?_) fun h => ?_
 ·refine sM rfl<|sM rfl<|sM rfl<|sV (.d (.bool (decide (a0 ≤ a2))))<|sV (.d (.bool (decide (a0 ≤ a2))))<|sA rfl<|sN<|qR ?_
  obtain rfl:=oI h
  exact qD
 refine sM rfl<|sK<|sK<|sK<|sU<|sA rfl<|sN<|qR ?_
 obtain rfl:=oI h
 exact qD
theorem inventory_ValidEpoch_ev {a0 : T_api_Epoch} {r : Bool} (h : inventory_ValidEpoch a0 = some r) : EvP prog hints ext 30 [.d (T_api_Epoch.pd a0)] [] (.d (.bool r), []) := by
 refine Ev.body rfl Tryz.func30 rfl (by kernel_rfl)<|gS rfl rfl<|sB (.ptr 16 0) 16 (.var [.d (.int .i64 a0.fFrom), .d (.int .i64 a0.fTo), .d (.int .i64 a0.fRate.fNum), .d (.int .i64 a0.fRate.fDen), .d (.int .i64 a0.fPosition.fX), .d (.int .i64 a0.fPosition.fY), .d (.int .i64 a0.fPosition.fZ), .d (.lst (a0.fResponse.fStages.map T_api_Stage.pd))])<|sU<|sN<|gS rfl rfl<|sV (.ptr 16 4)<|sV (.d (T_api_Position.pd a0.fPosition))<|sB (.ptr 48 0) 48 (.var [.d (.int .i64 0), .d (.int .i64 0), .d (.int .i64 0)])<|sS 48 (.var [.d (.int .i64 a0.fPosition.fX), .d (.int .i64 a0.fPosition.fY), .d (.int .i64 a0.fPosition.fZ)])<|sN<|gS rfl rfl<|sV (.ptr 16 0)<|sL rfl<|sF h (fun h => ?_) fun h => ?_
 ·refine sM rfl<|sV (.ptr 16 0)<|sL rfl<|sV (.ptr 16 1)<|sL rfl<|sV (.d (.bool (decide (a0.fFrom < a0.fTo))))<|sF h (fun h => ?_) fun h => ?_
  ·refine sM rfl<|sV (.ptr 16 1)<|sL rfl<|sV (.d (.bool (decide (a0.fTo ≤ (9007199254740992 : Int)))))<|sF h (fun h => ?_) fun h => ?_
   ·refine sM rfl<|sV (.ptr 16 2)<|sV (.d (T_api_Rate.pd a0.fRate))<|bE h fun x4 hx4 h => cD (rate_Valid_ev hx4)<|sF h (fun h => ?_) fun h => ?_
    ·refine sM rfl<|sV (.ptr 16 7)<|sV (.d (T_api_Response.pd a0.fResponse))<|bE h fun x6 hx6 h => cD (response_Valid_ev hx6)<|sF h (fun h => ?_) fun h => ?_
     ·refine sM rfl<|sV (.ptr 48 0)<|sL rfl<|bE h fun x8 hx8 h => cD (inventory_in_ev hx8)<|sF h (fun h => ?_) fun h => ?_
      ·refine sM rfl<|sV (.ptr 48 1)<|sL rfl<|bE h fun x10 hx10 h => cD (inventory_in_ev hx10)<|sF h (fun h => ?_) fun h => ?_
       ·refine sM rfl<|sV (.ptr 48 2)<|sL rfl<|bE h fun x12 hx12 h => cD (inventory_in_ev hx12)<|sV (.d (.bool x12))<|sA rfl<|sN<|qR ?_
        obtain rfl:=oI h
        exact qD
       refine sM rfl<|sK<|sK<|sK<|sU<|sA rfl<|sN<|qR ?_
       obtain rfl:=oI h
       exact qD
      refine sM rfl<|sK<|sK<|sK<|sU<|sM rfl<|sK<|sK<|sK<|sU<|sA rfl<|sN<|qR ?_
      obtain rfl:=oI h
      exact qD
     refine sM rfl<|sK<|sK<|sK<|sU<|sM rfl<|sK<|sK<|sK<|sU<|sM rfl<|sK<|sK<|sK<|sU ?_
     refine sA rfl<|sN<|qR ?_
     obtain rfl:=oI h
     exact qD
    refine sM rfl<|sK<|sK<|sK<|sU<|sM rfl<|sK<|sK<|sK<|sU<|sM rfl<|sK<|sK<|sK<|sU ?_
    refine sM rfl<|sK<|sK<|sK<|sU<|sA rfl<|sN<|qR ?_
    obtain rfl:=oI h
    exact qD
   refine sM rfl<|sK<|sK<|sK<|sU<|sM rfl<|sK<|sK<|sK<|sU<|sM rfl<|sK<|sK<|sK<|sU ?_
   refine sM rfl<|sK<|sK<|sK<|sU<|sM rfl<|sK<|sK<|sK<|sU<|sA rfl<|sN<|qR ?_
   obtain rfl:=oI h
   exact qD
  refine sM rfl<|sK<|sK<|sK<|sU<|sM rfl<|sK<|sK<|sK<|sU<|sM rfl<|sK<|sK<|sK<|sU ?_
  refine sM rfl<|sK<|sK<|sK<|sU<|sM rfl<|sK<|sK<|sK<|sU<|sM rfl<|sK<|sK<|sK<|sU ?_
  refine sA rfl<|sN<|qR ?_
  obtain rfl:=oI h
  exact qD
 refine sM rfl<|sK<|sK<|sK<|sK<|sK<|sU<|sM rfl<|sK<|sK<|sK<|sU<|sM rfl<|sK<|sK ?_
 refine sK<|sU<|sM rfl<|sK<|sK<|sK<|sU<|sM rfl<|sK<|sK<|sK<|sU<|sM rfl<|sK<|sK ?_
 refine sK<|sU<|sM rfl<|sK<|sK<|sK<|sU<|sA rfl<|sN<|qR ?_
 obtain rfl:=oI h
 exact qD
theorem inventory_epochs_ev {a0 : (List T_api_Epoch)} {r : Bool} (h : inventory_epochs a0 = some r) : EvP prog hints ext 42 [.d (.lst (a0.map T_api_Epoch.pd))] [] (.d (.bool r), []) := by
 refine Ev.body rfl Tryz.func42 rfl (by kernel_rfl)<|gS rfl rfl<|sU<|sN<|qS<|gS rfl rfl<|sM rfl<|sE (.d (.int .i64 (a0.length : Int))) (lenMap _ _)<|sV (.d (.int .i64 0))<|sN<|bE h fun o11 ho11 h => WC.block (WC.loop (WL.ofLoop ho11 (fun s R' B' => ghosts prog 0 (A R' B') (hints.at_ 42 2) = some (A [(0, .d (.lst (a0.map T_api_Epoch.pd))), (5, .d (.lst (a0.map T_api_Epoch.pd))), (6, .d (.int .i64 (a0.length : Int))), (7, .d (.int .i64 s))] [])) (fun o e R' B' => match o with | .inl y => e = .exit 0 ∧ ghosts prog 0 (A R' B') (hints.at_ 42 7) = some (A [(0, .d (.lst (a0.map T_api_Epoch.pd)))] []) | .inr r => e = .ret ∧ finish prog (hints.own 42) Tryz.f42 0 (A R' B') = some (.d (.bool r), [])) rfl ?_ ?_))
 ·rintro s1 R' B' q2 hI h
  refine gS rfl hI<|sF h (fun h => ?_) fun h => ?_
  ·refine sN<|qS<|cT<|qK<|qS<|qB<|gS rfl rfl<|sM rfl<|bE h fun x4 hx4 h => WO.elemG hx4 rfl rfl rfl rfl rfl rfl rfl rfl rfl<|sV (.d (T_api_Epoch.pd x4))<|sB (.ptr 64 0) 64 (.var [.d (.int .i64 0), .d (.int .i64 0), .d (.int .i64 0), .d (.int .i64 0), .d (.int .i64 0), .d (.int .i64 0), .d (.int .i64 0), .nils])<|sA rfl<|sS 64 (.var [.d (.int .i64 x4.fFrom), .d (.int .i64 x4.fTo), .d (.int .i64 x4.fRate.fNum), .d (.int .i64 x4.fRate.fDen), .d (.int .i64 x4.fPosition.fX), .d (.int .i64 x4.fPosition.fY), .d (.int .i64 x4.fPosition.fZ), .d (.lst (x4.fResponse.fStages.map T_api_Stage.pd))])<|sN ?_
   refine WC.regionDSeq rfl rfl<|sV (.d (T_api_Epoch.pd x4))<|bE h fun x5 hx5 h => cD (inventory_ValidEpoch_ev hx5)<|sF h (fun h => ?_) fun h => ?_
   ·refine sM rfl<|sK<|sK<|sK<|sK<|sK<|sK<|sK<|sK<|sK<|sK<|sK<|sK<|sK<|sT ?_
    refine sN<|sO<|cT<|gS rfl rfl<|sU<|sN<|qR ?_
    obtain rfl:=oI h
    exact ⟨(fun he => by cases he), rfl, rfl⟩
   refine sM rfl<|sM rfl<|sF h (fun h => ?_) fun h => ?_
   ·refine sM rfl<|sV (.ptr 64 0)<|sL rfl<|sM rfl<|sM rfl<|sV (.d (.int .i64 (IntKind.wrap .i64 (s1 - (1 : Int)))))<|bE h fun x8 hx8 h => WO.elemG hx8 rfl rfl rfl rfl rfl rfl rfl rfl rfl<|sV (.cptr [.int .i64 x8.fTo, .int .i64 x8.fRate.fNum, .int .i64 x8.fRate.fDen, .int .i64 x8.fPosition.fX, .int .i64 x8.fPosition.fY, .int .i64 x8.fPosition.fZ, .lst (x8.fResponse.fStages.map T_api_Stage.pd)])<|sC rfl<|sV (.d (.bool (decide (x4.fFrom < x8.fTo))))<|sV (.d (.bool (decide (x4.fFrom < x8.fTo))))<|sF h (fun h => ?_) fun h => ?_
    ·refine sN<|sO<|cT<|gS rfl rfl<|sU<|sN<|qR ?_
     obtain rfl:=oI h
     exact ⟨(fun he => by cases he), rfl, rfl⟩
    refine sN<|sO<|cF<|qK<|WC.region rfl rfl<|sV (.d (.int .i64 (IntKind.wrap .i64 (s1 + (1 : Int)))))<|sM rfl<|sN ?_
    obtain rfl:=oI h
    exact ⟨rfl, rfl⟩
   refine sM rfl<|sK<|sK<|sK<|sK<|sK<|sK<|sK<|sK<|sK<|sU<|sU ?_
   refine sN<|sO<|cF<|qK<|WC.region rfl rfl<|sV (.d (.int .i64 (IntKind.wrap .i64 (s1 + (1 : Int)))))<|sM rfl<|sN ?_
   obtain rfl:=oI h
   exact ⟨rfl, rfl⟩
  refine sN<|qS<|cF<|qX ?_
  obtain rfl:=oI h
  exact ⟨(fun he => by cases he), rfl, rfl⟩
 intro e R' B' he hq
 rcases o11 with y12 | r13
 ·obtain ⟨rfl, hI⟩ := hq
  refine qE<|gS rfl hI<|sM rfl<|sE (.d (.int .i64 (a0.length : Int))) (lenMap _ _)<|bE h fun x14 hx14 h => cD (inventory_in_ev hx14)<|sA rfl<|sN<|qR ?_
  obtain rfl:=oI h
  exact qD
 obtain ⟨rfl, hf⟩ := hq
 obtain rfl:=oI h
 exact hf
theorem cmp_isNaN_string_ev {a0 : (List UInt8)} {r : Bool} (h : cmp_isNaN_string a0 = some r) : EvP prog hints ext 108 [.d (.str a0)] [] (.d (.bool r), []) := by
 refine Ev.body rfl Tryz.func108 rfl (by kernel_rfl)<|gS rfl rfl<|sU<|sN<|gS rfl rfl<|sM rfl<|sM rfl<|sV (.d (.bool (!(a0 == a0))))<|sA rfl<|sN<|qR ?_
 obtain rfl:=oI h
 exact qD
theorem cmp_Compare_string_ev {a0 : (List UInt8)} {a1 : (List UInt8)} {r : Int} (h : cmp_Compare_string a0 a1 = some r) : EvP prog hints ext 80 [.d (.str a0), .d (.str a1)] [] (.d (.int .i64 r), []) := by
 refine Ev.body rfl Tryz.func80 rfl (by kernel_rfl)<|gS rfl rfl<|sV (.d (.int .i64 0))<|sN<|gS rfl rfl<|sM rfl<|bE h fun x1 hx1 h => cD (cmp_isNaN_string_ev hx1)<|sA rfl<|sN<|gS rfl rfl<|sM rfl<|bE h fun x2 hx2 h => cD (cmp_isNaN_string_ev hx2)<|sA rfl ?_
 refine sN<|qS<|gS rfl rfl<|sF h (fun h => ?_) fun h => ?_
 ·refine sN<|cT<|qS<|gS rfl rfl<|sF h (fun h => ?_) fun h => ?_
  ·refine sN<|cT<|gS rfl rfl<|sV (.d (.int .i64 0))<|sN<|qR ?_
   obtain rfl:=oI h
   exact qD
  refine sN<|cF<|qK<|gS rfl rfl<|sV (.d (.int .i64 (-1)))<|sN<|qR ?_
  obtain rfl:=oI h
  exact qD
 refine sN<|cF<|qK<|qS<|gS rfl rfl<|sF h (fun h => ?_) fun h => ?_
 ·refine sN<|cT<|gS rfl rfl<|sV (.d (.int .i64 1))<|sN<|qR ?_
  obtain rfl:=oI h
  exact qD
 refine sN<|cF<|qK<|qS<|gS rfl rfl<|sM rfl<|sM rfl<|sF h (fun h => ?_) fun h => ?_
 ·refine sN<|cT<|gS rfl rfl<|sV (.d (.int .i64 (-1)))<|sN<|qR ?_
  obtain rfl:=oI h
  exact qD
 refine sN<|cF<|qK<|qS<|gS rfl rfl<|sM rfl<|sM rfl<|sF h (fun h => ?_) fun h => ?_
 ·refine sN<|cT<|gS rfl rfl<|sV (.d (.int .i64 1))<|sN<|qR ?_
  obtain rfl:=oI h
  exact qD
 refine sN<|cF<|qK<|gS rfl rfl<|sV (.d (.int .i64 0))<|sN<|qR ?_
 obtain rfl:=oI h
 exact qD
theorem cmp_Or_int_ev {a0 : (List Int)} {r : Int} (h : cmp_Or_int a0 = some r) : EvP prog hints ext 79 [.d (.lst (a0.map (PD.int .i64)))] [] (.d (.int .i64 r), []) := by
 refine Ev.body rfl Tryz.func79 rfl (by kernel_rfl)<|gS rfl rfl<|sV (.d (.int .i64 0))<|sN<|gS rfl rfl<|sV (.d (.int .i64 0))<|sN<|qS<|gS rfl rfl<|sM rfl<|sE (.d (.int .i64 (a0.length : Int))) (lenMap _ _)<|sV (.d (.int .i64 0))<|sN<|bE h fun o7 ho7 h => WC.block (WC.loop (WL.ofLoop ho7 (fun s R' B' => ghosts prog 0 (A R' B') (hints.at_ 79 3) = some (A [(3, .d (.int .i64 0)), (6, .d (.lst (a0.map (PD.int .i64)))), (7, .d (.int .i64 (a0.length : Int))), (8, .d (.int .i64 s))] [])) (fun o e R' B' => match o with | .inl y => e = .exit 0 ∧ ghosts prog 0 (A R' B') (hints.at_ 79 8) = some (A [(3, .d (.int .i64 0))] []) | .inr r => e = .ret ∧ finish prog (hints.own 79) Tryz.f79 0 (A R' B') = some (.d (.int .i64 r), [])) rfl ?_ ?_))
 ·rintro s1 R' B' q2 hI h
  refine gS rfl hI<|sF h (fun h => ?_) fun h => ?_
  ·refine sN<|qS<|cT<|qK<|qS<|qB<|gS rfl rfl<|bE h fun x4 hx4 h => WO.elemG hx4 rfl rfl rfl rfl rfl rfl rfl rfl rfl<|sC rfl<|sA rfl<|sN<|gS rfl rfl<|sM rfl<|sM rfl ?_
   refine sF h (fun h => ?_) fun h => ?_
   ·refine sN<|cT<|gS rfl rfl<|sM rfl<|sA rfl<|sN<|qR ?_
    obtain rfl:=oI h
    exact ⟨(fun he => by cases he), rfl, rfl⟩
   refine sN<|cF<|qK<|WC.region rfl rfl<|sV (.d (.int .i64 (IntKind.wrap .i64 (s1 + (1 : Int)))))<|sM rfl<|sN ?_
   obtain rfl:=oI h
   exact ⟨rfl, rfl⟩
  refine sN<|qS<|cF<|qX ?_
  obtain rfl:=oI h
  exact ⟨(fun he => by cases he), rfl, rfl⟩
 intro e R' B' he hq
 rcases o7 with y8 | r9
 ·obtain ⟨rfl, hI⟩ := hq
  refine qE<|gS rfl hI<|sM rfl<|sA rfl<|sN<|qR ?_
  obtain rfl:=oI h
  exact qD
 obtain ⟨rfl, hf⟩ := hq
 obtain rfl:=oI h
 exact hf
theorem source_Compare_ev {a0 : T_api_SourceID} {a1 : T_api_SourceID} {r : Int} (h : source_Compare a0 a1 = some r) : EvP prog hints ext 43 [.d (T_api_SourceID.pd a0), .d (T_api_SourceID.pd a1)] [] (.d (.int .i64 r), []) := by
 refine Ev.body rfl Tryz.func43 rfl (by kernel_rfl)<|gS rfl rfl<|sB (.ptr 32 0) 32 (.var [.d (.str a0.fNetwork), .d (.str a0.fStation), .d (.str a0.fLocation), .d (.str a0.fChannel)])<|sB (.ptr 48 0) 48 (.var [.d (.str a1.fNetwork), .d (.str a1.fStation), .d (.str a1.fLocation), .d (.str a1.fChannel)])<|sV (.d (.int .i64 0))<|sN<|WC.regionDSeq rfl rfl<|sV (.ptr 32 0)<|sL rfl<|sV (.ptr 48 0)<|sL rfl<|bE h fun x1 hx1 h => cD (cmp_Compare_string_ev hx1)<|sV (.ptr 32 1)<|sL rfl ?_
 refine sV (.ptr 48 1)<|sL rfl<|bE h fun x2 hx2 h => cD (cmp_Compare_string_ev hx2)<|sV (.ptr 32 2)<|sL rfl<|sV (.ptr 48 2)<|sL rfl<|bE h fun x3 hx3 h => cD (cmp_Compare_string_ev hx3)<|sV (.ptr 32 3)<|sL rfl<|sV (.ptr 48 3)<|sL rfl<|bE h fun x4 hx4 h => ?_
 refine cD (cmp_Compare_string_ev hx4)<|sV (.d (.lst ([x1, x2, x3, x4].map (PD.int .i64))))<|bE h fun x5 hx5 h => cD (cmp_Or_int_ev hx5)<|sA rfl ?_
 refine sN<|sO<|qR ?_
 obtain rfl:=oI h
 exact qD
theorem inventory_Valid_ev {a0 : T_api_Inventory} {r : Bool} (h : inventory_Valid a0 = some r) : EvP prog hints ext 16 [.d (T_api_Inventory.pd a0)] [] (.d (.bool r), []) := by
 refine Ev.body rfl Tryz.func16 rfl (by kernel_rfl)<|gS rfl rfl<|sB (.ptr 16 0) 16 (.var [.d (.lst (a0.fChannels.map T_api_Channel.pd))])<|sU<|sN<|qS<|gS rfl rfl<|sV (.ptr 16 0)<|sL rfl<|sE (.d (.int .i64 (a0.fChannels.length : Int))) (lenMap _ _)<|sV (.d (.int .i64 0))<|sN<|bE h fun o14 ho14 h => WC.block (WC.loop (WL.ofLoop ho14 (fun s R' B' => ghosts prog 0 (A R' B') (hints.at_ 16 2) = some (A [(1, .ptr 16 0), (6, .d (.lst (a0.fChannels.map T_api_Channel.pd))), (7, .d (.int .i64 (a0.fChannels.length : Int))), (8, .d (.int .i64 s))] [(16, .var [.d (.lst (a0.fChannels.map T_api_Channel.pd))])])) (fun o e R' B' => match o with | .inl y => e = .exit 0 ∧ ghosts prog 0 (A R' B') (hints.at_ 16 7) = some (A [(1, .ptr 16 0)] [(16, .var [.d (.lst (a0.fChannels.map T_api_Channel.pd))])]) | .inr r => e = .ret ∧ finish prog (hints.own 16) Tryz.f16 0 (A R' B') = some (.d (.bool r), [])) rfl ?_ ?_))
 ·rintro s1 R' B' q2 hI h
  refine gS rfl hI<|sF h (fun h => ?_) fun h => ?_
  ·refine sN<|qS<|cT<|qK<|qS<|qB<|gS rfl rfl<|sM rfl<|bE h fun x4 hx4 h => WO.elemG hx4 rfl rfl rfl rfl rfl rfl rfl rfl rfl<|sV (.d (T_api_Channel.pd x4))<|sB (.ptr 64 0) 64 (.var [.d (.str []), .d (.str []), .d (.str []), .d (.str []), .nils])<|sA rfl<|sS 64 (.var [.d (.str x4.fSource.fNetwork), .d (.str x4.fSource.fStation), .d (.str x4.fSource.fLocation), .d (.str x4.fSource.fChannel), .d (.lst (x4.fEpochs.map T_api_Epoch.pd))])<|sN ?_
   refine WC.regionDSeq rfl rfl<|sV (.ptr 64 0)<|sV (.d (T_api_SourceID.pd x4.fSource))<|bE h fun x5 hx5 h => cD (source_Valid_ev hx5)<|sF h (fun h => ?_) fun h => ?_
   ·refine sM rfl<|sK<|sK<|sK<|sK<|sT<|sM rfl<|sK<|sK<|sK<|sK<|sK<|sK<|sK<|sK ?_
    refine sK<|sK<|sK<|sK<|sK<|sK<|sK<|sT ?_
    refine sN<|sO<|cT<|gS rfl rfl<|sU<|sN<|qR ?_
    obtain rfl:=oI h
    exact ⟨(fun he => by cases he), rfl, rfl⟩
   refine sM rfl<|sV (.ptr 64 4)<|sL rfl<|bE h fun x7 hx7 h => cD (inventory_epochs_ev hx7)<|sV (.d (.bool (!x7)))<|sF h (fun h => ?_) fun h => ?_
   ·refine sM rfl<|sK<|sK<|sK<|sK<|sK<|sK<|sK<|sK<|sK<|sK<|sK<|sK<|sK<|sK ?_
    refine sK<|sT ?_
    refine sN<|sO<|cT<|gS rfl rfl<|sU<|sN<|qR ?_
    obtain rfl:=oI h
    exact ⟨(fun he => by cases he), rfl, rfl⟩
   refine sM rfl<|sM rfl<|sF h (fun h => ?_) fun h => ?_
   ·refine sM rfl<|sV (.ptr 16 0)<|sL rfl<|sM rfl<|sV (.d (.int .i64 (IntKind.wrap .i64 (s1 - (1 : Int)))))<|bE h fun x10 hx10 h => WO.elemG hx10 rfl rfl rfl rfl rfl rfl rfl rfl rfl<|sV (.cptr [.str x10.fSource.fNetwork, .str x10.fSource.fStation, .str x10.fSource.fLocation, .str x10.fSource.fChannel, .lst (x10.fEpochs.map T_api_Epoch.pd)])<|sV (.d (T_api_SourceID.pd x10.fSource))<|sV (.ptr 64 0)<|sV (.d (T_api_SourceID.pd x4.fSource))<|bE h fun x11 hx11 h => cD (source_Compare_ev hx11)<|sV (.d (.bool (decide (x11 ≥ (0 : Int)))))<|sV (.d (.bool (decide (x11 ≥ (0 : Int))))) ?_
    refine sF h (fun h => ?_) fun h => ?_
    ·refine sN<|sO<|cT<|gS rfl rfl<|sU<|sN<|qR ?_
     obtain rfl:=oI h
     exact ⟨(fun he => by cases he), rfl, rfl⟩
    refine sN<|sO<|cF<|qK<|WC.region rfl rfl<|sV (.d (.int .i64 (IntKind.wrap .i64 (s1 + (1 : Int)))))<|sM rfl<|sN ?_
    obtain rfl:=oI h
    exact ⟨rfl, rfl⟩
   refine sM rfl<|sK<|sK<|sK<|sK<|sK<|sK<|sK<|sK<|sK<|sK<|sK<|sU<|sU ?_
   refine sN<|sO<|cF<|qK<|WC.region rfl rfl<|sV (.d (.int .i64 (IntKind.wrap .i64 (s1 + (1 : Int)))))<|sM rfl<|sN ?_
   obtain rfl:=oI h
   exact ⟨rfl, rfl⟩
  refine sN<|qS<|cF<|qX ?_
  obtain rfl:=oI h
  exact ⟨(fun he => by cases he), rfl, rfl⟩
 intro e R' B' he hq
 rcases o14 with y15 | r16
 ·obtain ⟨rfl, hI⟩ := hq
  refine qE<|gS rfl hI<|sV (.ptr 16 0)<|sL rfl<|sE (.d (.int .i64 (a0.fChannels.length : Int))) (lenMap _ _)<|sV (.d (.bool (decide ((a0.fChannels.length : Int) ≤ (128 : Int)))))<|sA rfl<|sN<|qR ?_
  obtain rfl:=oI h
  exact qD
 obtain ⟨rfl, hf⟩ := hq
 obtain rfl:=oI h
 exact hf
theorem inventory_CopyEpoch_ev {a0 : T_api_Epoch} {r : T_api_Epoch} (h : inventory_CopyEpoch a0 = some r) : EvP prog hints ext 84 [.d (T_api_Epoch.pd a0)] [] (.agg [.d (.int .i64 r.fFrom), .d (.int .i64 r.fTo), .d (.int .i64 r.fRate.fNum), .d (.int .i64 r.fRate.fDen), .d (.int .i64 r.fPosition.fX), .d (.int .i64 r.fPosition.fY), .d (.int .i64 r.fPosition.fZ), .ref 0 0], [.arr 0 92 (r.fResponse.fStages.map T_api_Stage.pd)]) := by
 refine Ev.body rfl Tryz.func84 rfl (by kernel_rfl)<|gS rfl rfl<|sB (.ptr 16 0) 16 (.var [.d (.int .i64 a0.fFrom), .d (.int .i64 a0.fTo), .d (.int .i64 a0.fRate.fNum), .d (.int .i64 a0.fRate.fDen), .d (.int .i64 a0.fPosition.fX), .d (.int .i64 a0.fPosition.fY), .d (.int .i64 a0.fPosition.fZ), .d (.lst (a0.fResponse.fStages.map T_api_Stage.pd))])<|sB (.ptr 32 0) 32 (.var [.d (.int .i64 0), .d (.int .i64 0), .d (.int .i64 0), .d (.int .i64 0), .d (.int .i64 0), .d (.int .i64 0), .d (.int .i64 0), .nils])<|sN<|gS rfl rfl<|sV (.ptr 16 7)<|sV (.ptr 16 7)<|sL rfl<|bE h fun x1 hx1 h => cR (.ref 112 0) [(112, .arr 0 92 (x1.map T_api_Stage.pd))] (clone_109 hx1)<|sV (.ptr 16 7)<|sV (.ptr 16 7)<|sS 16 (.var [.d (.int .i64 a0.fFrom), .d (.int .i64 a0.fTo), .d (.int .i64 a0.fRate.fNum), .d (.int .i64 a0.fRate.fDen), .d (.int .i64 a0.fPosition.fX), .d (.int .i64 a0.fPosition.fY), .d (.int .i64 a0.fPosition.fZ), .ref 112 0])<|sN ?_
 refine qS<|gS rfl rfl<|sV (.ptr 16 7)<|sV (.ptr 16 7)<|sL rfl<|WO.lenR rfl rfl rfl rfl rfl rfl rfl rfl rfl<|sV (.d (.int .i64 0))<|sN<|bE h fun o16 ho16 h => WC.block (WC.loop (WL.ofLoop ho16 (fun s R' B' => ghosts prog 0 (A R' B') (hints.at_ 84 3) = some (A [(1, .ptr 16 0), (2, .ptr 32 0), (13, .d (.int .i64 (x1.length : Int))), (14, .d (.int .i64 s.1))] [(16, .var [.d (.int .i64 a0.fFrom), .d (.int .i64 a0.fTo), .d (.int .i64 a0.fRate.fNum), .d (.int .i64 a0.fRate.fDen), .d (.int .i64 a0.fPosition.fX), .d (.int .i64 a0.fPosition.fY), .d (.int .i64 a0.fPosition.fZ), .ref 112 0]), (32, .var [.d (.int .i64 0), .d (.int .i64 0), .d (.int .i64 0), .d (.int .i64 0), .d (.int .i64 0), .d (.int .i64 0), .d (.int .i64 0), .nils]), (112, .arr 0 92 (s.2.map T_api_Stage.pd))])) (fun o e R' B' => e = .exit 0 ∧ ghosts prog 0 (A R' B') (hints.at_ 84 7) = some (A [(1, .ptr 16 0), (2, .ptr 32 0)] [(16, .var [.d (.int .i64 a0.fFrom), .d (.int .i64 a0.fTo), .d (.int .i64 a0.fRate.fNum), .d (.int .i64 a0.fRate.fDen), .d (.int .i64 a0.fPosition.fX), .d (.int .i64 a0.fPosition.fY), .d (.int .i64 a0.fPosition.fZ), .ref 112 0]), (32, .var [.d (.int .i64 0), .d (.int .i64 0), .d (.int .i64 0), .d (.int .i64 0), .d (.int .i64 0), .d (.int .i64 0), .d (.int .i64 0), .nils]), (112, .arr 0 92 (o.map T_api_Stage.pd))])) rfl ?_ ?_))
 ·rintro ⟨s2, s3⟩ R' B' q5 hI h
  refine gS rfl hI<|sF h (fun h => ?_) fun h => ?_
  ·refine sN<|qS<|cT<|qK<|qS<|qB<|gS rfl rfl<|sM rfl<|sA rfl<|sN<|WC.regionD rfl rfl<|sV (.ptr 16 7)<|sV (.ptr 16 7)<|sL rfl<|sM rfl ?_
   refine sV (.ptr 16 7)<|sV (.ptr 16 7)<|sL rfl<|sM rfl<|bE h fun x8 hx8 h => WO.eltG hx8 rfl rfl rfl rfl rfl rfl rfl rfl<|sV (.elt 112 0 (s2).toNat 7)<|bE h fun x9 hx9 h => WO.loadE hx9 rfl rfl rfl rfl rfl rfl<|bE h fun x10 hx10 h => cR (.ref 448 0) [(448, .arr 0 3 (x10.map (PD.int .i64)))] (clone_110 hx10)<|bE h fun x12 hx12 h => WO.eltG hx12 rfl rfl rfl rfl rfl rfl rfl rfl<|sV (.elt 112 0 (s2).toNat 7)<|bE h fun x13 hx13 h => ?_
   refine WO.storeF (g := T_api_Stage.pd) (u := [(448, .dead)]) (sz := 1) hx13 (fun _ => rfl) (fun _ => Nat.le_of_ble_eq_true rfl) rfl rfl rfl rfl rfl rfl rfl rfl rfl rfl rfl ?_
   refine sN<|sO<|WC.region rfl rfl<|sV (.d (.int .i64 (IntKind.wrap .i64 (s2 + (1 : Int)))))<|sM rfl<|sN ?_
   obtain rfl:=oI h
   exact ⟨rfl, rfl⟩
  refine sN<|qS<|cF<|qX ?_
  obtain rfl:=oI h
  exact ⟨(fun he => by cases he), rfl, rfl⟩
 intro e R' B' he hq
 obtain ⟨rfl, hI⟩ := hq
 refine qE<|gS rfl hI<|sV (.agg [.d (.int .i64 a0.fFrom), .d (.int .i64 a0.fTo), .d (.int .i64 a0.fRate.fNum), .d (.int .i64 a0.fRate.fDen), .d (.int .i64 a0.fPosition.fX), .d (.int .i64 a0.fPosition.fY), .d (.int .i64 a0.fPosition.fZ), .ref 112 0])<|sS 32 (.var [.d (.int .i64 a0.fFrom), .d (.int .i64 a0.fTo), .d (.int .i64 a0.fRate.fNum), .d (.int .i64 a0.fRate.fDen), .d (.int .i64 a0.fPosition.fX), .d (.int .i64 a0.fPosition.fY), .d (.int .i64 a0.fPosition.fZ), .ref 112 0])<|sN<|qR ?_
 obtain rfl:=oI h
 exact qD
theorem inventory_copied_ev {a0 : T_api_Channel} {r : T_api_Channel} (h : inventory_copied a0 = some r) : EvP prog hints ext 50 [.d (T_api_Channel.pd a0)] [] (.agg [.d (.str r.fSource.fNetwork), .d (.str r.fSource.fStation), .d (.str r.fSource.fLocation), .d (.str r.fSource.fChannel), .ref 0 0], [.arr 0 46 (r.fEpochs.map T_api_Epoch.pd)]) := by
 refine Ev.body rfl Tryz.func50 rfl (by kernel_rfl)<|gS rfl rfl<|sB (.ptr 16 0) 16 (.var [.d (.str a0.fSource.fNetwork), .d (.str a0.fSource.fStation), .d (.str a0.fSource.fLocation), .d (.str a0.fSource.fChannel), .d (.lst (a0.fEpochs.map T_api_Epoch.pd))])<|sB (.ptr 32 0) 32 (.var [.d (.str []), .d (.str []), .d (.str []), .d (.str []), .nils])<|sN<|gS rfl rfl<|sV (.ptr 16 4)<|sL rfl<|bE h fun x1 hx1 h => cR (.ref 112 0) [(112, .arr 0 46 (x1.map T_api_Epoch.pd))] (clone_83 hx1)<|sV (.ptr 16 4)<|sS 16 (.var [.d (.str a0.fSource.fNetwork), .d (.str a0.fSource.fStation), .d (.str a0.fSource.fLocation), .d (.str a0.fSource.fChannel), .ref 112 0])<|sN<|qS<|gS rfl rfl ?_
 refine sV (.ptr 16 4)<|sL rfl<|WO.lenR rfl rfl rfl rfl rfl rfl rfl rfl rfl<|sV (.d (.int .i64 0))<|sN<|bE h fun o16 ho16 h => WC.block (WC.loop (WL.ofLoop ho16 (fun s R' B' => ghosts prog 0 (A R' B') (hints.at_ 50 3) = some (A [(1, .ptr 16 0), (2, .ptr 32 0), (10, .ref 112 0), (11, .d (.int .i64 (x1.length : Int))), (12, .d (.int .i64 s.1))] [(16, .var [.d (.str a0.fSource.fNetwork), .d (.str a0.fSource.fStation), .d (.str a0.fSource.fLocation), .d (.str a0.fSource.fChannel), .ref 112 0]), (32, .var [.d (.str []), .d (.str []), .d (.str []), .d (.str []), .nils]), (112, .arr 0 46 (s.2.map T_api_Epoch.pd))])) (fun o e R' B' => e = .exit 0 ∧ ghosts prog 0 (A R' B') (hints.at_ 50 7) = some (A [(1, .ptr 16 0), (2, .ptr 32 0)] [(16, .var [.d (.str a0.fSource.fNetwork), .d (.str a0.fSource.fStation), .d (.str a0.fSource.fLocation), .d (.str a0.fSource.fChannel), .ref 112 0]), (32, .var [.d (.str []), .d (.str []), .d (.str []), .d (.str []), .nils]), (112, .arr 0 46 (o.map T_api_Epoch.pd))])) rfl ?_ ?_))
 ·rintro ⟨s2, s3⟩ R' B' q5 hI h
  refine gS rfl hI<|sF h (fun h => ?_) fun h => ?_
  ·refine sN<|qS<|cT<|qK<|qS<|qB<|gS rfl rfl<|sM rfl<|bE h fun x8 hx8 h => WO.eltG hx8 rfl rfl rfl rfl rfl rfl rfl rfl<|bE h fun x9 hx9 h => WO.loadE hx9 rfl rfl rfl rfl rfl rfl<|sB (.ptr 64 0) 64 (.var [.d (.int .i64 0), .d (.int .i64 0), .d (.int .i64 0), .d (.int .i64 0), .d (.int .i64 0), .d (.int .i64 0), .d (.int .i64 0), .nils])<|sA rfl<|sS 64 (.var [.d (.int .i64 x9.fFrom), .d (.int .i64 x9.fTo), .d (.int .i64 x9.fRate.fNum), .d (.int .i64 x9.fRate.fDen), .d (.int .i64 x9.fPosition.fX), .d (.int .i64 x9.fPosition.fY), .d (.int .i64 x9.fPosition.fZ), .d (.lst (x9.fResponse.fStages.map T_api_Stage.pd))]) ?_
   refine sN<|WC.regionD rfl rfl<|sV (.ptr 16 4)<|sL rfl<|sM rfl<|sV (.d (T_api_Epoch.pd x9))<|bE h fun x10 hx10 h => cR (.agg [.d (.int .i64 x10.fFrom), .d (.int .i64 x10.fTo), .d (.int .i64 x10.fRate.fNum), .d (.int .i64 x10.fRate.fDen), .d (.int .i64 x10.fPosition.fX), .d (.int .i64 x10.fPosition.fY), .d (.int .i64 x10.fPosition.fZ), .ref 336 0]) [(336, .arr 0 92 (x10.fResponse.fStages.map T_api_Stage.pd))] (inventory_CopyEpoch_ev hx10)<|bE h fun x12 hx12 h => WO.eltG hx12 rfl rfl rfl rfl rfl rfl rfl rfl<|bE h fun x13 hx13 h => WO.storeF (g := T_api_Epoch.pd) (u := [(336, .dead)]) (sz := 8) hx13 (fun _ => rfl) (fun _ => Nat.le_of_ble_eq_true rfl) rfl rfl rfl rfl rfl rfl rfl rfl rfl rfl rfl ?_
   refine sN<|sO<|WC.region rfl rfl<|sV (.d (.int .i64 (IntKind.wrap .i64 (s2 + (1 : Int)))))<|sM rfl<|sN ?_
   obtain rfl:=oI h
   exact ⟨rfl, rfl⟩
  refine sN<|qS<|cF<|qX ?_
  obtain rfl:=oI h
  exact ⟨(fun he => by cases he), rfl, rfl⟩
 intro e R' B' he hq
 obtain ⟨rfl, hI⟩ := hq
 refine qE<|gS rfl hI<|sV (.agg [.d (.str a0.fSource.fNetwork), .d (.str a0.fSource.fStation), .d (.str a0.fSource.fLocation), .d (.str a0.fSource.fChannel), .ref 112 0])<|sS 32 (.var [.d (.str a0.fSource.fNetwork), .d (.str a0.fSource.fStation), .d (.str a0.fSource.fLocation), .d (.str a0.fSource.fChannel), .ref 112 0])<|sN<|qR ?_
 obtain rfl:=oI h
 exact qD
theorem inventory_Find_ev {a0 : T_api_Inventory} {a1 : T_api_SourceID} {r : T_api_Channel × Bool} (h : inventory_Find a0 a1 = some r) : EvP prog hints ext 22 [.d (T_api_Inventory.pd a0), .d (T_api_SourceID.pd a1)] [] (.tup [.d (T_api_Channel.pd r.1), .d (.bool r.2)], []) := by
 refine Ev.body rfl Tryz.func22 rfl (by kernel_rfl)<|gS rfl rfl<|sB (.ptr 32 0) 32 (.var [.d (.lst (a0.fChannels.map T_api_Channel.pd))])<|sB (.ptr 48 0) 48 (.var [.d (.str a1.fNetwork), .d (.str a1.fStation), .d (.str a1.fLocation), .d (.str a1.fChannel)])<|sB (.ptr 64 0) 64 (.var [.d (.str []), .d (.str []), .d (.str []), .d (.str []), .nils])<|sU<|sN<|qS<|gS rfl rfl<|sV (.ptr 32 0)<|sL rfl<|sE (.d (.int .i64 (a0.fChannels.length : Int))) (lenMap _ _)<|sV (.d (.int .i64 0))<|sN<|bE h fun o8 ho8 h => ?_
 refine WC.block (WC.loop (WL.ofLoop ho8 (fun s R' B' => ghosts prog 0 (A R' B') (hints.at_ 22 2) = some (A [(3, .ptr 48 0), (4, .ptr 64 0), (9, .d (.lst (a0.fChannels.map T_api_Channel.pd))), (10, .d (.int .i64 (a0.fChannels.length : Int))), (11, .d (.int .i64 s))] [(48, .var [.d (.str a1.fNetwork), .d (.str a1.fStation), .d (.str a1.fLocation), .d (.str a1.fChannel)]), (64, .var [.d (.str []), .d (.str []), .d (.str []), .d (.str []), .nils])])) (fun o e R' B' => match o with | .inl y => e = .exit 0 ∧ ghosts prog 0 (A R' B') (hints.at_ 22 7) = some (A [(4, .ptr 64 0)] [(64, .var [.d (.str []), .d (.str []), .d (.str []), .d (.str []), .nils])]) | .inr r => e = .ret ∧ finish prog (hints.own 22) Tryz.f22 0 (A R' B') = some (.tup [.d (T_api_Channel.pd r.1), .d (.bool r.2)], [])) rfl ?_ ?_))
 ·rintro s1 R' B' q2 hI h
  refine gS rfl hI<|sF h (fun h => ?_) fun h => ?_
  ·refine sN<|qS<|cT<|qK<|qS<|qB<|gS rfl rfl<|bE h fun x4 hx4 h => WO.elemG hx4 rfl rfl rfl rfl rfl rfl rfl rfl rfl<|sV (.d (T_api_Channel.pd x4))<|sB (.ptr 112 0) 112 (.var [.d (.str []), .d (.str []), .d (.str []), .d (.str []), .nils])<|sS 112 (.var [.d (.str x4.fSource.fNetwork), .d (.str x4.fSource.fStation), .d (.str x4.fSource.fLocation), .d (.str x4.fSource.fChannel), .d (.lst (x4.fEpochs.map T_api_Epoch.pd))])<|sN<|gS rfl rfl<|sV (.ptr 112 0) ?_
   refine sV (.d (T_api_SourceID.pd x4.fSource))<|sV (.d (T_api_SourceID.pd a1))<|ite_elim h (fun hb5 h => ?_) (fun hb5 h => ?_)
   ·refine WO.binS (eqE_34 x4.fSource a1) hb5 rfl rfl rfl rfl rfl<|sN<|cT<|gS rfl rfl<|sV (.d (T_api_Channel.pd x4))<|bE h fun x6 hx6 h => cR (.agg [.d (.str x6.fSource.fNetwork), .d (.str x6.fSource.fStation), .d (.str x6.fSource.fLocation), .d (.str x6.fSource.fChannel), .ref 320 0]) [(320, .arr 0 46 (x6.fEpochs.map T_api_Epoch.pd))] (inventory_copied_ev hx6)<|sS 64 (.var [.d (.str x6.fSource.fNetwork), .d (.str x6.fSource.fStation), .d (.str x6.fSource.fLocation), .d (.str x6.fSource.fChannel), .ref 320 0])<|sT<|sN<|qR ?_
    obtain rfl:=oI h
    exact ⟨(fun he => by cases he), rfl, rfl⟩
   refine WO.binS (eqE_34 x4.fSource a1) hb5 rfl rfl rfl rfl rfl<|sN<|cF<|qK<|WC.region rfl rfl<|sV (.d (.int .i64 (IntKind.wrap .i64 (s1 + (1 : Int)))))<|sM rfl<|sN ?_
   obtain rfl:=oI h
   exact ⟨rfl, rfl⟩
  refine sN<|qS<|cF<|qX ?_
  obtain rfl:=oI h
  exact ⟨(fun he => by cases he), rfl, rfl⟩
 intro e R' B' he hq
 rcases o8 with y9 | r10
 ·obtain ⟨rfl, hI⟩ := hq
  refine qE<|gS rfl hI<|sV (.agg [.d (.str []), .d (.str []), .d (.str []), .d (.str []), .nils])<|sS 64 (.var [.d (.str []), .d (.str []), .d (.str []), .d (.str []), .nils])<|sU<|sN<|qR ?_
  obtain rfl:=oI h
  exact qD
 obtain ⟨rfl, hf⟩ := hq
 obtain rfl:=oI h
 exact hf
theorem inventory_at_ev {a0 : T_api_Channel} {a1 : Int} {r : T_api_Epoch × Bool} (h : inventory_at a0 a1 = some r) : EvP prog hints ext 35 [.d (T_api_Channel.pd a0), .d (.int .i64 a1)] [] (.tup [.d (T_api_Epoch.pd r.1), .d (.bool r.2)], []) := by
 refine Ev.body rfl Tryz.func35 rfl (by kernel_rfl)<|gS rfl rfl<|sB (.ptr 32 0) 32 (.var [.d (.str a0.fSource.fNetwork), .d (.str a0.fSource.fStation), .d (.str a0.fSource.fLocation), .d (.str a0.fSource.fChannel), .d (.lst (a0.fEpochs.map T_api_Epoch.pd))])<|sB (.ptr 64 0) 64 (.var [.d (.int .i64 0), .d (.int .i64 0), .d (.int .i64 0), .d (.int .i64 0), .d (.int .i64 0), .d (.int .i64 0), .d (.int .i64 0), .nils])<|sU<|sN<|qS<|gS rfl rfl<|sV (.ptr 32 4)<|sL rfl<|sE (.d (.int .i64 (a0.fEpochs.length : Int))) (lenMap _ _)<|sV (.d (.int .i64 0))<|sN<|bE h fun o8 ho8 h => WC.block (WC.loop (WL.ofLoop ho8 (fun s R' B' => ghosts prog 0 (A R' B') (hints.at_ 35 2) = some (A [(1, .d (.int .i64 a1)), (4, .ptr 64 0), (9, .d (.lst (a0.fEpochs.map T_api_Epoch.pd))), (10, .d (.int .i64 (a0.fEpochs.length : Int))), (11, .d (.int .i64 s))] [(64, .var [.d (.int .i64 0), .d (.int .i64 0), .d (.int .i64 0), .d (.int .i64 0), .d (.int .i64 0), .d (.int .i64 0), .d (.int .i64 0), .nils])])) (fun o e R' B' => match o with | .inl y => e = .exit 0 ∧ ghosts prog 0 (A R' B') (hints.at_ 35 7) = some (A [(4, .ptr 64 0)] [(64, .var [.d (.int .i64 0), .d (.int .i64 0), .d (.int .i64 0), .d (.int .i64 0), .d (.int .i64 0), .d (.int .i64 0), .d (.int .i64 0), .nils])]) | .inr r => e = .ret ∧ finish prog (hints.own 35) Tryz.f35 0 (A R' B') = some (.tup [.d (T_api_Epoch.pd r.1), .d (.bool r.2)], [])) rfl ?_ ?_))
 ·rintro s1 R' B' q2 hI h
  refine gS rfl hI<|sF h (fun h => ?_) fun h => ?_
  ·refine sN<|qS<|cT<|qK<|qS<|qB<|gS rfl rfl<|bE h fun x4 hx4 h => WO.elemG hx4 rfl rfl rfl rfl rfl rfl rfl rfl rfl<|sV (.d (T_api_Epoch.pd x4))<|sB (.ptr 112 0) 112 (.var [.d (.int .i64 0), .d (.int .i64 0), .d (.int .i64 0), .d (.int .i64 0), .d (.int .i64 0), .d (.int .i64 0), .d (.int .i64 0), .nils])<|sS 112 (.var [.d (.int .i64 x4.fFrom), .d (.int .i64 x4.fTo), .d (.int .i64 x4.fRate.fNum), .d (.int .i64 x4.fRate.fDen), .d (.int .i64 x4.fPosition.fX), .d (.int .i64 x4.fPosition.fY), .d (.int .i64 x4.fPosition.fZ), .d (.lst (x4.fResponse.fStages.map T_api_Stage.pd))])<|sN<|gS rfl rfl<|sV (.ptr 112 0) ?_
   refine sL rfl<|sM rfl<|sF h (fun h => ?_) fun h => ?_
   ·refine sM rfl<|sM rfl<|sV (.ptr 112 1)<|sL rfl<|sV (.d (.bool (decide (a1 < x4.fTo))))<|sF h (fun h => ?_) fun h => ?_
    ·refine sN<|cT<|gS rfl rfl<|sV (.d (T_api_Epoch.pd x4))<|sS 64 (.var [.d (.int .i64 x4.fFrom), .d (.int .i64 x4.fTo), .d (.int .i64 x4.fRate.fNum), .d (.int .i64 x4.fRate.fDen), .d (.int .i64 x4.fPosition.fX), .d (.int .i64 x4.fPosition.fY), .d (.int .i64 x4.fPosition.fZ), .d (.lst (x4.fResponse.fStages.map T_api_Stage.pd))])<|sT<|sN<|qR ?_
     obtain rfl:=oI h
     exact ⟨(fun he => by cases he), rfl, rfl⟩
    refine sN<|cF<|qK<|WC.region rfl rfl<|sV (.d (.int .i64 (IntKind.wrap .i64 (s1 + (1 : Int)))))<|sM rfl<|sN ?_
    obtain rfl:=oI h
    exact ⟨rfl, rfl⟩
   refine sM rfl<|sK<|sK<|sK<|sK<|sU<|sN<|cF<|qK<|WC.region rfl rfl<|sV (.d (.int .i64 (IntKind.wrap .i64 (s1 + (1 : Int)))))<|sM rfl<|sN ?_
   obtain rfl:=oI h
   exact ⟨rfl, rfl⟩
  refine sN<|qS<|cF<|qX ?_
  obtain rfl:=oI h
  exact ⟨(fun he => by cases he), rfl, rfl⟩
 intro e R' B' he hq
 rcases o8 with y9 | r10
 ·obtain ⟨rfl, hI⟩ := hq
  refine qE<|gS rfl hI<|sV (.agg [.d (.int .i64 0), .d (.int .i64 0), .d (.int .i64 0), .d (.int .i64 0), .d (.int .i64 0), .d (.int .i64 0), .d (.int .i64 0), .nils])<|sS 64 (.var [.d (.int .i64 0), .d (.int .i64 0), .d (.int .i64 0), .d (.int .i64 0), .d (.int .i64 0), .d (.int .i64 0), .d (.int .i64 0), .nils])<|sU<|sN<|qR ?_
  obtain rfl:=oI h
  exact qD
 obtain ⟨rfl, hf⟩ := hq
 obtain rfl:=oI h
 exact hf
theorem inventory_At_ev {a0 : T_api_Inventory} {a1 : T_api_SourceID} {a2 : Int} {r : T_api_Epoch × Int} (h : inventory_At a0 a1 a2 = some r) : EvP prog hints ext 9 [.d (T_api_Inventory.pd a0), .d (T_api_SourceID.pd a1), .d (.int .i64 a2)] [] (.tup [.d (T_api_Epoch.pd r.1), .d (.int .i64 r.2)], []) := by
 refine Ev.body rfl Tryz.func9 rfl (by kernel_rfl)<|gS rfl rfl<|sB (.ptr 48 0) 48 (.var [.d (.lst (a0.fChannels.map T_api_Channel.pd))])<|sB (.ptr 64 0) 64 (.var [.d (.str a1.fNetwork), .d (.str a1.fStation), .d (.str a1.fLocation), .d (.str a1.fChannel)])<|sB (.ptr 96 0) 96 (.var [.d (.int .i64 0), .d (.int .i64 0), .d (.int .i64 0), .d (.int .i64 0), .d (.int .i64 0), .d (.int .i64 0), .d (.int .i64 0), .nils])<|sV (.d (.int .i64 0))<|sN<|qS<|gS rfl rfl<|sV (.d (T_api_Inventory.pd a0))<|bE h fun x1 hx1 h => cD (inventory_Valid_ev hx1)<|sF h (fun h => ?_) fun h => ?_
 ·refine sN<|cT<|gS rfl rfl<|sV (.agg [.d (.int .i64 0), .d (.int .i64 0), .d (.int .i64 0), .d (.int .i64 0), .d (.int .i64 0), .d (.int .i64 0), .d (.int .i64 0), .nils])<|sS 96 (.var [.d (.int .i64 0), .d (.int .i64 0), .d (.int .i64 0), .d (.int .i64 0), .d (.int .i64 0), .d (.int .i64 0), .d (.int .i64 0), .nils])<|sV (.d (.int .i64 1))<|sN<|qR ?_
  obtain rfl:=oI h
  exact qD
 refine sN<|cF<|qK<|gS rfl rfl<|sV (.d (T_api_Inventory.pd a0))<|sV (.d (T_api_SourceID.pd a1))<|bE h fun x3 hx3 h => cR (.tup [.d (T_api_Channel.pd x3.1), .d (.bool x3.2)]) [] (inventory_Find_ev hx3)<|sM rfl<|sV (.d (T_api_Channel.pd x3.1))<|sV (.d (.bool x3.2))<|sB (.ptr 128 0) 128 (.var [.d (.str []), .d (.str []), .d (.str []), .d (.str []), .nils])<|sS 128 (.var [.d (.str x3.1.fSource.fNetwork), .d (.str x3.1.fSource.fStation), .d (.str x3.1.fSource.fLocation), .d (.str x3.1.fSource.fChannel), .d (.lst (x3.1.fEpochs.map T_api_Epoch.pd))])<|sA rfl<|sN ?_
 refine gS rfl rfl<|sV (.d (T_api_Channel.pd x3.1))<|sM rfl<|bE h fun x4 hx4 h => cR (.tup [.d (T_api_Epoch.pd x4.1), .d (.bool x4.2)]) [] (inventory_at_ev hx4)<|sM rfl<|sV (.d (T_api_Epoch.pd x4.1))<|sV (.d (.bool x4.2))<|sB (.ptr 160 0) 160 (.var [.d (.int .i64 0), .d (.int .i64 0), .d (.int .i64 0), .d (.int .i64 0), .d (.int .i64 0), .d (.int .i64 0), .d (.int .i64 0), .nils])<|sS 160 (.var [.d (.int .i64 x4.1.fFrom), .d (.int .i64 x4.1.fTo), .d (.int .i64 x4.1.fRate.fNum), .d (.int .i64 x4.1.fRate.fDen), .d (.int .i64 x4.1.fPosition.fX), .d (.int .i64 x4.1.fPosition.fY), .d (.int .i64 x4.1.fPosition.fZ), .d (.lst (x4.1.fResponse.fStages.map T_api_Stage.pd))])<|sA rfl<|sN<|qS<|gS rfl rfl<|sM rfl ?_
 refine sF h (fun h => ?_) fun h => ?_
 ·refine sN<|cT<|gS rfl rfl<|sV (.agg [.d (.int .i64 0), .d (.int .i64 0), .d (.int .i64 0), .d (.int .i64 0), .d (.int .i64 0), .d (.int .i64 0), .d (.int .i64 0), .nils])<|sS 96 (.var [.d (.int .i64 0), .d (.int .i64 0), .d (.int .i64 0), .d (.int .i64 0), .d (.int .i64 0), .d (.int .i64 0), .d (.int .i64 0), .nils])<|sV (.d (.int .i64 6))<|sN<|qR ?_
  obtain rfl:=oI h
  exact qD
 refine sN<|cF<|qK<|gS rfl rfl<|sV (.d (T_api_Epoch.pd x4.1))<|sS 96 (.var [.d (.int .i64 x4.1.fFrom), .d (.int .i64 x4.1.fTo), .d (.int .i64 x4.1.fRate.fNum), .d (.int .i64 x4.1.fRate.fDen), .d (.int .i64 x4.1.fPosition.fX), .d (.int .i64 x4.1.fPosition.fY), .d (.int .i64 x4.1.fPosition.fZ), .d (.lst (x4.1.fResponse.fStages.map T_api_Stage.pd))])<|sV (.d (.int .i64 0))<|sN<|qR ?_
 obtain rfl:=oI h
 exact qD
theorem span_some_ev {a0 : T_api_Span} {r : Bool} (h : span_some a0 = some r) : EvP prog hints ext 69 [.d (T_api_Span.pd a0)] [] (.d (.bool r), []) := by
 refine Ev.body rfl Tryz.func69 rfl (by kernel_rfl)<|gS rfl rfl<|sB (.ptr 16 0) 16 (.var [.d (.int .i64 a0.fFrom), .d (.int .i64 a0.fTo)])<|sU<|sN<|gS rfl rfl<|sV (.ptr 16 0)<|sL rfl<|sV (.ptr 16 1)<|sL rfl<|sV (.d (.bool (decide (a0.fFrom < a0.fTo))))<|sA rfl<|sN<|qR ?_
 obtain rfl:=oI h
 exact qD
theorem span_Normal_lit1_ev {a0 : T_api_Span} {r : Bool} (h : span_Normal_lit1 a0 = some r) : EvP prog hints ext 68 [.d (T_api_Span.pd a0)] [] (.d (.bool r), []) := by
 refine Ev.body rfl Tryz.func68 rfl (by kernel_rfl)<|gS rfl rfl<|sB (.ptr 16 0) 16 (.var [.d (.int .i64 a0.fFrom), .d (.int .i64 a0.fTo)])<|sU<|sN<|gS rfl rfl<|sV (.d (T_api_Span.pd a0))<|bE h fun x1 hx1 h => cD (span_some_ev hx1)<|sV (.d (.bool (!x1)))<|sA rfl<|sN<|qR ?_
 obtain rfl:=oI h
 exact qD
theorem slices_IndexFunc_Span_lit1_ev {d0 : (List T_api_Span)} {r : Int × (List T_api_Span)} (h : slices_IndexFunc_Span_lit1 d0 = some r) : EvP prog hints ext 100 [.ref 0 0, .d (.raw (.func (.func 68) #[] #[]))] [.arr 0 73 (d0.map T_api_Span.pd)] (.d (.int .i64 r.1), [.arr 0 73 (r.2.map T_api_Span.pd)]) := by
 refine Ev.body rfl Tryz.func100 rfl (by kernel_rfl)<|gS rfl rfl<|sV (.d (.int .i64 0))<|sN<|qS<|gS rfl rfl<|sM rfl<|WO.lenR rfl rfl rfl rfl rfl rfl rfl rfl rfl<|sV (.d (.int .i64 0))<|sN<|bE h fun o10 ho10 h => WC.block (WC.loop (WL.ofLoop ho10 (fun s R' B' => ghosts prog 1 (A R' B') (hints.at_ 100 2) = some (A [(0, .ref 0 0), (1, .d (.raw (.func (.func 68) #[] #[]))), (7, .d (.int .i64 (d0.length : Int))), (8, .d (.int .i64 s))] [(0, .arr 0 73 (d0.map T_api_Span.pd))])) (fun o e R' B' => match o with | .inl y => e = .exit 0 ∧ ghosts prog 1 (A R' B') (hints.at_ 100 7) = some (A [] [(0, .arr 0 73 (d0.map T_api_Span.pd))]) | .inr r => e = .ret ∧ finish prog (hints.own 100) Tryz.f100 1 (A R' B') = some (.d (.int .i64 r.1), [.arr 0 73 (r.2.map T_api_Span.pd)])) rfl ?_ ?_))
 ·rintro s1 R' B' q2 hI h
  refine gS rfl hI<|sF h (fun h => ?_) fun h => ?_
  ·refine sN<|qS<|cT<|qK<|qS<|qB<|gS rfl rfl<|sM rfl<|sA rfl<|sN<|gS rfl rfl<|sM rfl<|sM rfl<|sM rfl<|bE h fun x5 hx5 h => ?_
   refine WO.eltG hx5 rfl rfl rfl rfl rfl rfl rfl rfl<|bE h fun x6 hx6 h => WO.loadE hx6 rfl rfl rfl rfl rfl rfl<|bE h fun x7 hx7 h => ite_elim h (fun hb8 h => ?_) (fun hb8 h => ?_)
   ·refine WO.callR (v := .d (.bool true)) (u := []) rfl rfl (fun _ => rfl) rfl rfl rfl rfl rfl (span_Normal_lit1_ev hx7) rfl rfl (congrArg (fun b => RV.d (.bool b)) hb8) rfl<|sN<|cT<|gS rfl rfl<|sM rfl<|sA rfl<|sN<|qR ?_
    obtain rfl:=oI h
    exact ⟨(fun he => by cases he), rfl, rfl⟩
   refine WO.callR (v := .d (.bool false)) (u := []) rfl rfl (fun _ => rfl) rfl rfl rfl rfl rfl (span_Normal_lit1_ev hx7) rfl rfl (congrArg (fun b => RV.d (.bool b)) hb8) rfl<|sN<|cF<|qK<|WC.region rfl rfl<|sV (.d (.int .i64 (IntKind.wrap .i64 (s1 + (1 : Int)))))<|sM rfl<|sN ?_
   obtain rfl:=oI h
   exact ⟨rfl, rfl⟩
  refine sN<|qS<|cF<|qX ?_
  obtain rfl:=oI h
  exact ⟨(fun he => by cases he), rfl, rfl⟩
 intro e R' B' he hq
 rcases o10 with y11 | r12
 ·obtain ⟨rfl, hI⟩ := hq
  refine qE<|gS rfl hI<|sV (.d (.int .i64 (-1)))<|sN<|qR ?_
  obtain rfl:=oI h
  exact qD
 obtain ⟨rfl, hf⟩ := hq
 obtain rfl:=oI h
 exact hf
theorem slices_DeleteFunc_Span_lit1_ev {d0 : (List T_api_Span)} {r : (List T_api_Span)} (h : slices_DeleteFunc_Span_lit1 d0 = some r) : EvP prog hints ext 66 [.ref 0 0, .d (.raw (.func (.func 68) #[] #[]))] [.arr 0 73 (d0.map T_api_Span.pd)] (.ref 0 1, [.arr 1 73 (r.map T_api_Span.pd)]) := by
 refine Ev.body rfl Tryz.func66 rfl (by kernel_rfl)<|gS rfl rfl<|sV .nils<|sN<|gS rfl rfl<|sM rfl<|sM rfl<|bE h fun x1 hx1 h => cR (.d (.int .i64 x1.1)) [(0, .arr 0 73 (x1.2.map T_api_Span.pd))] (slices_IndexFunc_Span_lit1_ev hx1)<|sA rfl<|sN<|qS<|gS rfl rfl<|sM rfl<|sF h (fun h => ?_) fun h => ?_
 ·refine sN<|cT<|WC.regionSeq (R0 := [(0, .ref 0 1)]) (B0 := [(0, .arr 1 73 (x1.2.map T_api_Span.pd))]) rfl rfl<|sM rfl<|sA rfl<|sN<|qR ?_
  obtain rfl:=oI h
  exact qD
 refine sN<|cF<|qK<|qS<|gS rfl rfl<|sM rfl<|sV (.d (.int .i64 (IntKind.wrap .i64 (x1.1 + (1 : Int)))))<|sA rfl<|sN<|bE h fun o19 ho19 h => WC.block (WC.loop (WL.ofLoop ho19 (fun s R' B' => ghosts prog 1 (A R' B') (hints.at_ 66 5) = some (A [(0, .ref 0 0), (1, .d (.raw (.func (.func 68) #[] #[]))), (5, .d (.int .i64 s.1)), (6, .d (.int .i64 s.2.1))] [(0, .arr 0 73 (s.2.2.map T_api_Span.pd))])) (fun o e R' B' => e = .exit 0 ∧ ghosts prog 1 (A R' B') (hints.at_ 66 11) = some (A [(0, .ref 0 0), (5, .d (.int .i64 o.1))] [(0, .arr 0 73 (o.2.map T_api_Span.pd))])) rfl ?_ ?_))
 ·rintro ⟨s3, s4, s5⟩ R' B' q8 hI h
  refine qS<|gS rfl hI<|sM rfl<|sM rfl<|WO.lenR rfl rfl rfl rfl rfl rfl rfl rfl rfl<|sF h (fun h => ?_) fun h => ?_
  ·refine sN<|cT<|qK<|qS<|qB<|gS rfl rfl<|sM rfl<|sM rfl<|bE h fun x11 hx11 h => WO.eltG hx11 rfl rfl rfl rfl rfl rfl rfl rfl<|bE h fun x12 hx12 h => WO.loadE hx12 rfl rfl rfl rfl rfl rfl<|sB (.ptr 112 0) 112 (.var [.d (.int .i64 0), .d (.int .i64 0)])<|sS 112 (.var [.d (.int .i64 x12.fFrom), .d (.int .i64 x12.fTo)])<|sN ?_
   refine gS rfl rfl<|sM rfl<|sV (.d (T_api_Span.pd x12))<|bE h fun x13 hx13 h => cD (span_Normal_lit1_ev hx13)<|sF h (fun h => ?_) fun h => ?_
   ·refine sN<|cT<|gS rfl rfl<|sM rfl<|sM rfl<|sV (.d (T_api_Span.pd x12))<|bE h fun x16 hx16 h => WO.eltG hx16 rfl rfl rfl rfl rfl rfl rfl rfl<|bE h fun x17 hx17 h => WO.storeE (g := T_api_Span.pd) (sz := 2) (p := T_api_Span.pd x12) hx17 (fun _ => rfl) (fun _ => rfl) rfl rfl rfl rfl rfl rfl rfl rfl rfl<|sN<|WC.region rfl rfl<|sM rfl<|sV (.d (.int .i64 (IntKind.wrap .i64 (s3 + (1 : Int)))))<|sA rfl ?_
    refine sN<|WC.region rfl rfl<|sM rfl<|sV (.d (.int .i64 (IntKind.wrap .i64 (s4 + (1 : Int)))))<|sA rfl<|sN ?_
    obtain rfl:=oI h
    exact ⟨rfl, rfl⟩
   refine sN<|cF<|qK<|WC.region rfl rfl<|sM rfl<|sV (.d (.int .i64 (IntKind.wrap .i64 (s4 + (1 : Int)))))<|sA rfl<|sN ?_
   obtain rfl:=oI h
   exact ⟨rfl, rfl⟩
  refine sN<|cF<|qX ?_
  obtain rfl:=oI h
  exact ⟨(fun he => by cases he), rfl, rfl⟩
 intro e R' B' he hq
 obtain ⟨rfl, hI⟩ := hq
 refine qE<|gS rfl hI<|sM rfl<|sM rfl<|bE h fun x20 hx20 h => WO.subR hx20 rfl rfl rfl rfl rfl rfl rfl rfl rfl rfl rfl rfl<|bE h fun x21 hx21 h => WO.clearN (z := (T_api_Span.mk 0 0)) (g := T_api_Span.pd) rfl rfl rfl rfl rfl rfl rfl (dst_view hx21 rfl) rfl rfl rfl rfl<|sN<|gS rfl rfl<|sM rfl<|sM rfl<|bE h fun x23 hx23 h => WO.resl hx23 rfl rfl rfl rfl rfl rfl rfl rfl rfl rfl rfl rfl<|sA rfl ?_
 refine sN<|qR ?_
 obtain rfl:=oI h
 exact qD
theorem cmp_isNaN_int_ev {a0 : Int} {r : Bool} (h : cmp_isNaN_int a0 = some r) : EvP prog hints ext 103 [.d (.int .i64 a0)] [] (.d (.bool r), []) := by
 refine Ev.body rfl Tryz.func103 rfl (by kernel_rfl)<|gS rfl rfl<|sU<|sN<|gS rfl rfl<|sM rfl<|sM rfl<|sV (.d (.bool (a0 != a0)))<|sA rfl<|sN<|qR ?_
 obtain rfl:=oI h
 exact qD
theorem cmp_Compare_int_ev {a0 : Int} {a1 : Int} {r : Int} (h : cmp_Compare_int a0 a1 = some r) : EvP prog hints ext 72 [.d (.int .i64 a0), .d (.int .i64 a1)] [] (.d (.int .i64 r), []) := by
 refine Ev.body rfl Tryz.func72 rfl (by kernel_rfl)<|gS rfl rfl<|sV (.d (.int .i64 0))<|sN<|gS rfl rfl<|sM rfl<|bE h fun x1 hx1 h => cD (cmp_isNaN_int_ev hx1)<|sA rfl<|sN<|gS rfl rfl<|sM rfl<|bE h fun x2 hx2 h => cD (cmp_isNaN_int_ev hx2)<|sA rfl ?_
 refine sN<|qS<|gS rfl rfl<|sF h (fun h => ?_) fun h => ?_
 ·refine sN<|cT<|qS<|gS rfl rfl<|sF h (fun h => ?_) fun h => ?_
  ·refine sN<|cT<|gS rfl rfl<|sV (.d (.int .i64 0))<|sN<|qR ?_
   obtain rfl:=oI h
   exact qD
  refine sN<|cF<|qK<|gS rfl rfl<|sV (.d (.int .i64 (-1)))<|sN<|qR ?_
  obtain rfl:=oI h
  exact qD
 refine sN<|cF<|qK<|qS<|gS rfl rfl<|sF h (fun h => ?_) fun h => ?_
 ·refine sN<|cT<|gS rfl rfl<|sV (.d (.int .i64 1))<|sN<|qR ?_
  obtain rfl:=oI h
  exact qD
 refine sN<|cF<|qK<|qS<|gS rfl rfl<|sM rfl<|sM rfl<|sF h (fun h => ?_) fun h => ?_
 ·refine sN<|cT<|gS rfl rfl<|sV (.d (.int .i64 (-1)))<|sN<|qR ?_
  obtain rfl:=oI h
  exact qD
 refine sN<|cF<|qK<|qS<|gS rfl rfl<|sM rfl<|sM rfl<|sF h (fun h => ?_) fun h => ?_
 ·refine sN<|cT<|gS rfl rfl<|sV (.d (.int .i64 1))<|sN<|qR ?_
  obtain rfl:=oI h
  exact qD
 refine sN<|cF<|qK<|gS rfl rfl<|sV (.d (.int .i64 0))<|sN<|qR ?_
 obtain rfl:=oI h
 exact qD
theorem span_Normal_lit2_ev {a0 : T_api_Span} {a1 : T_api_Span} {r : Int} (h : span_Normal_lit2 a0 a1 = some r) : EvP prog hints ext 71 [.d (T_api_Span.pd a0), .d (T_api_Span.pd a1)] [] (.d (.int .i64 r), []) := by
 refine Ev.body rfl Tryz.func71 rfl (by kernel_rfl)<|gS rfl rfl<|sB (.ptr 32 0) 32 (.var [.d (.int .i64 a0.fFrom), .d (.int .i64 a0.fTo)])<|sB (.ptr 48 0) 48 (.var [.d (.int .i64 a1.fFrom), .d (.int .i64 a1.fTo)])<|sV (.d (.int .i64 0))<|sN<|gS rfl rfl<|sV (.ptr 32 0)<|sL rfl<|sV (.ptr 48 0)<|sL rfl<|bE h fun x1 hx1 h => cD (cmp_Compare_int_ev hx1)<|sA rfl<|sN ?_
 refine qR ?_
 obtain rfl:=oI h
 exact qD
theorem span_Normal_ev {a0 : (List T_api_Span)} {r : (List T_api_Span)} (h : span_Normal a0 = some r) : EvP prog hints ext 36 [.d (.lst (a0.map T_api_Span.pd))] [] (.ref 0 0, [.arr 0 73 (r.map T_api_Span.pd)]) := by
 refine Ev.body rfl Tryz.func36 rfl (by kernel_rfl)<|gS rfl rfl<|sV .nils<|sN<|gS rfl rfl<|sM rfl<|bE h fun x1 hx1 h => cR (.ref 144 0) [(144, .arr 0 73 (x1.map T_api_Span.pd))] (clone_67 hx1)<|bE h fun x2 hx2 h => cR (.ref 144 1) [(144, .arr 1 73 (x2.map T_api_Span.pd))] (slices_DeleteFunc_Span_lit1_ev hx2)<|sA rfl<|sN<|gS rfl rfl<|sM rfl<|bE h fun x3 hx3 h => ?_
 refine cR (.tup []) [(144, .arr 1 73 (x3.map T_api_Span.pd))] (sort_70_71 hx3)<|sN<|gS rfl rfl<|sV .nils<|sN<|qS<|gS rfl rfl<|sM rfl<|WO.lenR rfl rfl rfl rfl rfl rfl rfl rfl rfl<|sV (.d (.int .i64 0))<|sN<|bE h fun o27 ho27 h => WC.block (WC.loop (WL.ofLoop ho27 (fun s R' B' => ghosts prog 0 (A R' B') (hints.at_ 36 5) = some (A [(4, .ref 816 0), (13, .ref 144 0), (14, .d (.int .i64 (x3.length : Int))), (15, .d (.int .i64 s.1))] [(144, .arr 0 73 (x3.map T_api_Span.pd)), (816, .arr 0 73 (s.2.map T_api_Span.pd))])) (fun o e R' B' => e = .exit 0 ∧ ghosts prog 0 (A R' B') (hints.at_ 36 12) = some (A [(4, .ref 816 0)] [(816, .arr 0 73 (o.map T_api_Span.pd))])) rfl ?_ ?_))
 ·rintro ⟨s4, s5⟩ R' B' q7 hI h
  refine gS rfl hI<|sF h (fun h => ?_) fun h => ?_
  ·refine sN<|qS<|cT<|qK<|qS<|qB<|gS rfl rfl<|bE h fun x10 hx10 h => WO.eltG hx10 rfl rfl rfl rfl rfl rfl rfl rfl<|bE h fun x11 hx11 h => WO.loadE hx11 rfl rfl rfl rfl rfl rfl<|sB (.ptr 96 0) 96 (.var [.d (.int .i64 0), .d (.int .i64 0)])<|sS 96 (.var [.d (.int .i64 x11.fFrom), .d (.int .i64 x11.fTo)])<|sN<|gS rfl rfl ?_
   refine sM rfl<|WO.lenR rfl rfl rfl rfl rfl rfl rfl rfl rfl<|sA rfl<|sN<|WC.regionDSeq rfl rfl<|sM rfl<|sF h (fun h => ?_) fun h => ?_
   ·refine sM rfl<|sV (.ptr 96 0)<|sL rfl<|sM rfl<|sM rfl<|sV (.d (.int .i64 (IntKind.wrap .i64 ((s5.length : Int) - (1 : Int)))))<|bE h fun x14 hx14 h => WO.eltG hx14 rfl rfl rfl rfl rfl rfl rfl rfl<|sV (.elt 816 0 ((IntKind.wrap .i64 ((s5.length : Int) - (1 : Int)))).toNat 1)<|bE h fun x15 hx15 h => WO.loadE hx15 rfl rfl rfl rfl rfl rfl<|sV (.d (.bool (decide (x11.fFrom ≤ x15.fTo))))<|sF h (fun h => ?_) fun h => ?_
    ·refine sN<|sO<|cT<|WC.regionD rfl rfl<|sM rfl<|sM rfl<|sV (.d (.int .i64 (IntKind.wrap .i64 ((s5.length : Int) - (1 : Int)))))<|sM rfl<|sM rfl<|sV (.d (.int .i64 (IntKind.wrap .i64 ((s5.length : Int) - (1 : Int)))))<|bE h fun x18 hx18 h => WO.eltG hx18 rfl rfl rfl rfl rfl rfl rfl rfl<|sV (.elt 816 0 ((IntKind.wrap .i64 ((s5.length : Int) - (1 : Int)))).toNat 1)<|bE h fun x19 hx19 h => WO.loadE hx19 rfl rfl rfl rfl rfl rfl<|sV (.ptr 96 1) ?_
     refine sL rfl<|sV (.d (.int .i64 (if x11.fTo > x19.fTo then x11.fTo else x19.fTo)))<|bE h fun x21 hx21 h => WO.eltG hx21 rfl rfl rfl rfl rfl rfl rfl rfl<|sV (.elt 816 0 ((IntKind.wrap .i64 ((s5.length : Int) - (1 : Int)))).toNat 1)<|bE h fun x22 hx22 h => WO.storeF (g := T_api_Span.pd) (u := []) (sz := 1) hx22 (fun _ => rfl) (fun _ => Nat.le_of_ble_eq_true rfl) rfl rfl rfl rfl rfl rfl rfl rfl rfl rfl rfl ?_
     refine sN<|sO<|WC.region rfl rfl<|sV (.d (.int .i64 (IntKind.wrap .i64 (s4 + (1 : Int)))))<|sM rfl<|sN ?_
     obtain rfl:=oI h
     exact ⟨rfl, rfl⟩
    refine sN<|sO<|cF<|WC.region rfl rfl<|sM rfl<|sV (.d (T_api_Span.pd x11))<|sV (.d (.lst ([x11].map T_api_Span.pd)))<|bE h fun x24 hx24 h => WO.appR hx24 (fun _ => rfl) rfl rfl rfl rfl rfl rfl rfl rfl rfl rfl rfl rfl rfl rfl<|sA rfl<|sN<|WC.region rfl rfl<|sV (.d (.int .i64 (IntKind.wrap .i64 (s4 + (1 : Int)))))<|sM rfl<|sN ?_
    obtain rfl:=oI h
    exact ⟨rfl, rfl⟩
   refine sM rfl<|sK<|sK<|sK<|sK<|sK<|sK<|sK<|sK<|sK<|sU ?_
   refine sN<|sO<|cF<|WC.region rfl rfl<|sM rfl<|sV (.d (T_api_Span.pd x11))<|sV (.d (.lst ([x11].map T_api_Span.pd)))<|bE h fun x25 hx25 h => WO.appR hx25 (fun _ => rfl) rfl rfl rfl rfl rfl rfl rfl rfl rfl rfl rfl rfl rfl rfl<|sA rfl<|sN<|WC.region rfl rfl<|sV (.d (.int .i64 (IntKind.wrap .i64 (s4 + (1 : Int)))))<|sM rfl<|sN ?_
   obtain rfl:=oI h
   exact ⟨rfl, rfl⟩
  refine sN<|qS<|cF<|qX ?_
  obtain rfl:=oI h
  exact ⟨(fun he => by cases he), rfl, rfl⟩
 intro e R' B' he hq
 obtain ⟨rfl, hI⟩ := hq
 refine qE<|gS rfl hI<|sM rfl<|sA rfl<|sN<|qR ?_
 obtain rfl:=oI h
 exact qD
theorem inventory_Times_ev {a0 : T_api_Inventory} {a1 : T_api_SourceID} {r : (List T_api_Span)} (h : inventory_Times a0 a1 = some r) : EvP prog hints ext 11 [.d (T_api_Inventory.pd a0), .d (T_api_SourceID.pd a1)] [] (.d (.lst (r.map T_api_Span.pd)), []) := by
 refine Ev.body rfl Tryz.func11 rfl (by kernel_rfl)<|gS rfl rfl<|sB (.ptr 32 0) 32 (.var [.d (.lst (a0.fChannels.map T_api_Channel.pd))])<|sB (.ptr 48 0) 48 (.var [.d (.str a1.fNetwork), .d (.str a1.fStation), .d (.str a1.fLocation), .d (.str a1.fChannel)])<|sV .nils<|sN<|qS<|gS rfl rfl<|sV (.d (T_api_Inventory.pd a0))<|bE h fun x1 hx1 h => cD (inventory_Valid_ev hx1)<|sF h (fun h => ?_) fun h => ?_
 ·refine sN<|cT<|gS rfl rfl<|sV .nils<|sN<|qR ?_
  obtain rfl:=oI h
  exact qD
 refine sN<|cF<|qK<|gS rfl rfl<|sV .nils<|sN<|gS rfl rfl<|sV (.d (T_api_Inventory.pd a0))<|sV (.d (T_api_SourceID.pd a1))<|bE h fun x3 hx3 h => cR (.tup [.d (T_api_Channel.pd x3.1), .d (.bool x3.2)]) [] (inventory_Find_ev hx3)<|sM rfl<|sV (.d (T_api_Channel.pd x3.1))<|sV (.d (.bool x3.2))<|sB (.ptr 96 0) 96 (.var [.d (.str []), .d (.str []), .d (.str []), .d (.str []), .nils]) ?_
 refine sS 96 (.var [.d (.str x3.1.fSource.fNetwork), .d (.str x3.1.fSource.fStation), .d (.str x3.1.fSource.fLocation), .d (.str x3.1.fSource.fChannel), .d (.lst (x3.1.fEpochs.map T_api_Epoch.pd))])<|sA rfl<|sN<|qS<|gS rfl rfl<|sV (.ptr 96 4)<|sL rfl<|sE (.d (.int .i64 (x3.1.fEpochs.length : Int))) (lenMap _ _)<|sV (.d (.int .i64 0))<|sN<|bE h fun o12 ho12 h => WC.block (WC.loop (WL.ofLoop ho12 (fun s R' B' => ghosts prog 0 (A R' B') (hints.at_ 11 6) = some (A [(5, .ref 528 0), (20, .d (.lst (x3.1.fEpochs.map T_api_Epoch.pd))), (21, .d (.int .i64 (x3.1.fEpochs.length : Int))), (22, .d (.int .i64 s.1))] [(528, .arr 0 73 (s.2.map T_api_Span.pd))])) (fun o e R' B' => e = .exit 0 ∧ ghosts prog 0 (A R' B') (hints.at_ 11 10) = some (A [(5, .ref 528 0)] [(528, .arr 0 73 (o.map T_api_Span.pd))])) rfl ?_ ?_))
 ·rintro ⟨s4, s5⟩ R' B' q7 hI h
  refine gS rfl hI<|sF h (fun h => ?_) fun h => ?_
  ·refine sN<|qS<|cT<|qK<|qS<|qB<|gS rfl rfl<|bE h fun x9 hx9 h => WO.elemG hx9 rfl rfl rfl rfl rfl rfl rfl rfl rfl<|sV (.d (T_api_Epoch.pd x9))<|sB (.ptr 144 0) 144 (.var [.d (.int .i64 0), .d (.int .i64 0), .d (.int .i64 0), .d (.int .i64 0), .d (.int .i64 0), .d (.int .i64 0), .d (.int .i64 0), .nils])<|sS 144 (.var [.d (.int .i64 x9.fFrom), .d (.int .i64 x9.fTo), .d (.int .i64 x9.fRate.fNum), .d (.int .i64 x9.fRate.fDen), .d (.int .i64 x9.fPosition.fX), .d (.int .i64 x9.fPosition.fY), .d (.int .i64 x9.fPosition.fZ), .d (.lst (x9.fResponse.fStages.map T_api_Stage.pd))])<|sN<|WC.region rfl rfl<|sM rfl ?_
   refine sV (.ptr 144 0)<|sL rfl<|sV (.ptr 144 1)<|sL rfl<|sV (.d (T_api_Span.pd (T_api_Span.mk x9.fFrom x9.fTo)))<|sV (.d (.lst ([(T_api_Span.mk x9.fFrom x9.fTo)].map T_api_Span.pd)))<|bE h fun x10 hx10 h => WO.appR hx10 (fun _ => rfl) rfl rfl rfl rfl rfl rfl rfl rfl rfl rfl rfl rfl rfl rfl<|sA rfl<|sN<|WC.region rfl rfl<|sV (.d (.int .i64 (IntKind.wrap .i64 (s4 + (1 : Int)))))<|sM rfl<|sN ?_
   obtain rfl:=oI h
   exact ⟨rfl, rfl⟩
  refine sN<|qS<|cF<|qX ?_
  obtain rfl:=oI h
  exact ⟨(fun he => by cases he), rfl, rfl⟩
 intro e R' B' he hq
 obtain ⟨rfl, hI⟩ := hq
 refine qE<|gS rfl hI<|sM rfl<|bE h fun x13 hx13 h => cR (.ref 576 0) [(528, .dead), (576, .arr 0 73 (x13.map T_api_Span.pd))] (span_Normal_ev hx13)<|sA rfl<|sN<|qR ?_
 obtain rfl:=oI h
 exact qD
theorem ref08_Same_ev {a0 : (List T_api_Span)} {a1 : (List T_api_Span)} {r : Bool} (h : ref08_Same a0 a1 = some r) : EvP prog hints ext 24 [.d (.lst (a0.map T_api_Span.pd)), .d (.lst (a1.map T_api_Span.pd))] [] (.d (.bool r), []) := by
 refine Ev.body rfl Tryz.func24 rfl (by kernel_rfl)<|gS rfl rfl<|sU<|sN<|qS<|gS rfl rfl<|sM rfl<|sE (.d (.int .i64 (a0.length : Int))) (lenMap _ _)<|sM rfl<|sE (.d (.int .i64 (a1.length : Int))) (lenMap _ _)<|sF h (fun h => ?_) fun h => ?_
 ·refine sN<|cT<|gS rfl rfl<|sU<|sN<|qR ?_
  obtain rfl:=oI h
  exact qD
 refine sN<|cF<|qK<|qS<|gS rfl rfl<|sV (.d (.int .i64 0))<|sN<|bE h fun o9 ho9 h => WC.block (WC.loop (WL.ofLoop ho9 (fun s R' B' => ghosts prog 0 (A R' B') (hints.at_ 24 4) = some (A [(0, .d (.lst (a0.map T_api_Span.pd))), (1, .d (.lst (a1.map T_api_Span.pd))), (5, .d (.int .i64 s))] [])) (fun o e R' B' => match o with | .inl y => e = .exit 0 ∧ ghosts prog 0 (A R' B') (hints.at_ 24 8) = some (A [] []) | .inr r => e = .ret ∧ finish prog (hints.own 24) Tryz.f24 0 (A R' B') = some (.d (.bool r), [])) rfl ?_ ?_))
 ·rintro s2 R' B' q3 hI h
  refine qS<|gS rfl hI<|sM rfl<|sM rfl<|sE (.d (.int .i64 (a0.length : Int))) (lenMap _ _)<|sF h (fun h => ?_) fun h => ?_
  ·refine sN<|cT<|qK<|qS<|qB<|WC.regionDSeq rfl rfl<|sM rfl<|sM rfl<|bE h fun x5 hx5 h => WO.elemG hx5 rfl rfl rfl rfl rfl rfl rfl rfl rfl<|sV (.d (T_api_Span.pd x5))<|sM rfl<|sM rfl<|bE h fun x6 hx6 h => WO.elemG hx6 rfl rfl rfl rfl rfl rfl rfl rfl rfl ?_
   refine sV (.d (T_api_Span.pd x6))<|ite_elim h (fun hb7 h => ?_) (fun hb7 h => ?_)
   ·refine WO.binS (eqN_73 x5 x6) hb7 rfl rfl rfl rfl rfl ?_
    refine sN<|sO<|cT<|gS rfl rfl<|sU<|sN<|qR ?_
    obtain rfl:=oI h
    exact ⟨(fun he => by cases he), rfl, rfl⟩
   refine WO.binS (eqN_73 x5 x6) hb7 rfl rfl rfl rfl rfl ?_
   refine sN<|sO<|cF<|qK<|WC.region rfl rfl<|sM rfl<|sV (.d (.int .i64 (IntKind.wrap .i64 (s2 + (1 : Int)))))<|sA rfl<|sN ?_
   obtain rfl:=oI h
   exact ⟨rfl, rfl⟩
  refine sN<|cF<|qX ?_
  obtain rfl:=oI h
  exact ⟨(fun he => by cases he), rfl, rfl⟩
 intro e R' B' he hq
 rcases o9 with y10 | r11
 ·obtain ⟨rfl, hI⟩ := hq
  refine qE<|gS rfl hI<|sT<|sN<|qR ?_
  obtain rfl:=oI h
  exact qD
 obtain ⟨rfl, hf⟩ := hq
 obtain rfl:=oI h
 exact hf
theorem law19_sane_ev  {r : Bool} (h : law19_sane = some r) : EvP prog hints ext 6 [] [] (.d (.bool r), []) := by
 refine Ev.body rfl Tryz.func6 rfl (by kernel_rfl)<|gS rfl rfl<|sU<|sN<|gS rfl rfl<|bE h fun x1 hx1 h => cD (law19_one_ev hx1)<|sV (.d (.lst (x1.fChannels.map T_api_Channel.pd)))<|bE h fun x2 hx2 h => WO.elemG hx2 rfl rfl rfl rfl rfl rfl rfl rfl rfl<|sV (.cptr [.str x2.fSource.fNetwork, .str x2.fSource.fStation, .str x2.fSource.fLocation, .str x2.fSource.fChannel, .lst (x2.fEpochs.map T_api_Epoch.pd)])<|sV (.d (T_api_SourceID.pd x2.fSource))<|sB (.ptr 16 0) 16 (.var [.d (.str []), .d (.str []), .d (.str []), .d (.str [])])<|sS 16 (.var [.d (.str x2.fSource.fNetwork), .d (.str x2.fSource.fStation), .d (.str x2.fSource.fLocation), .d (.str x2.fSource.fChannel)])<|sN ?_
 refine WC.regionDSeq rfl rfl<|bE h fun x3 hx3 h => cD (law19_one_ev hx3)<|sV (.d (T_api_SourceID.pd x2.fSource))<|bE h fun x4 hx4 h => cR (.tup [.d (T_api_Epoch.pd x4.1), .d (.int .i64 x4.2)]) [] (inventory_At_ev hx4)<|sM rfl<|sV (.d (T_api_Epoch.pd x4.1))<|sV (.d (.int .i64 x4.2))<|sB (.ptr 32 0) 32 (.var [.d (.int .i64 0), .d (.int .i64 0), .d (.int .i64 0), .d (.int .i64 0), .d (.int .i64 0), .d (.int .i64 0), .d (.int .i64 0), .nils])<|sS 32 (.var [.d (.int .i64 x4.1.fFrom), .d (.int .i64 x4.1.fTo), .d (.int .i64 x4.1.fRate.fNum), .d (.int .i64 x4.1.fRate.fDen), .d (.int .i64 x4.1.fPosition.fX), .d (.int .i64 x4.1.fPosition.fY), .d (.int .i64 x4.1.fPosition.fZ), .d (.lst (x4.1.fResponse.fStages.map T_api_Stage.pd))])<|sA rfl ?_
 refine sN<|sO<|WC.regionDSeq rfl rfl<|bE h fun x5 hx5 h => cD (law19_one_ev hx5)<|sV (.d (T_api_SourceID.pd x2.fSource))<|bE h fun x6 hx6 h => cR (.tup [.d (T_api_Epoch.pd x6.1), .d (.int .i64 x6.2)]) [] (inventory_At_ev hx6)<|sM rfl<|sV (.d (T_api_Epoch.pd x6.1))<|sV (.d (.int .i64 x6.2))<|sB (.ptr 64 0) 64 (.var [.d (.int .i64 0), .d (.int .i64 0), .d (.int .i64 0), .d (.int .i64 0), .d (.int .i64 0), .d (.int .i64 0), .d (.int .i64 0), .nils])<|sS 64 (.var [.d (.int .i64 x6.1.fFrom), .d (.int .i64 x6.1.fTo), .d (.int .i64 x6.1.fRate.fNum), .d (.int .i64 x6.1.fRate.fDen), .d (.int .i64 x6.1.fPosition.fX), .d (.int .i64 x6.1.fPosition.fY), .d (.int .i64 x6.1.fPosition.fZ), .d (.lst (x6.1.fResponse.fStages.map T_api_Stage.pd))])<|sA rfl ?_
 refine sN<|sO<|WC.regionDSeq rfl rfl<|sM rfl<|sF h (fun h => ?_) fun h => ?_
 ·refine sM rfl<|sV (.ptr 32 4)<|sV (.ptr 32 4)<|sL rfl<|sV (.d (.bool (x4.1.fPosition.fX == (5 : Int))))<|sF h (fun h => ?_) fun h => ?_
  ·refine sM rfl<|sM rfl<|sV (.d (.bool (x6.2 == (6 : Int))))<|sF h (fun h => ?_) fun h => ?_
   ·refine sM rfl<|bE h fun x10 hx10 h => cD (law19_one_ev hx10)<|bE h fun x11 hx11 h => cD (inventory_Valid_ev hx11)<|sF h (fun h => ?_) fun h => ?_
    ·refine sM rfl<|bE h fun x13 hx13 h => cD (law19_one_ev hx13)<|sV (.d (T_api_SourceID.pd x2.fSource))<|bE h fun x14 hx14 h => cD (inventory_Times_ev hx14)<|sV (.d (T_api_Span.pd (T_api_Span.mk 10 30)))<|sV (.d (.lst ([(T_api_Span.mk 10 30)].map T_api_Span.pd)))<|bE h fun x15 hx15 h => cD (ref08_Same_ev hx15)<|sV (.d (.bool x15))<|sA rfl ?_
     refine sN<|sO<|qR ?_
     obtain rfl:=oI h
     exact qD
    refine sM rfl<|sK<|sK<|sK<|sK<|sK<|sK<|sU<|sA rfl ?_
    refine sN<|sO<|qR ?_
    obtain rfl:=oI h
    exact qD
   refine sM rfl<|sK<|sK<|sU<|sM rfl<|sK<|sK<|sK<|sK<|sK<|sK<|sU<|sA rfl ?_
   refine sN<|sO<|qR ?_
   obtain rfl:=oI h
   exact qD
  refine sM rfl<|sK<|sK<|sU<|sM rfl<|sK<|sK<|sU<|sM rfl<|sK<|sK<|sK<|sK<|sK<|sK ?_
  refine sU<|sA rfl ?_
  refine sN<|sO<|qR ?_
  obtain rfl:=oI h
  exact qD
 refine sM rfl<|sK<|sK<|sK<|sK<|sU<|sM rfl<|sK<|sK<|sU<|sM rfl<|sK<|sK<|sU<|sM rfl ?_
 refine sK<|sK<|sK<|sK<|sK<|sK<|sU<|sA rfl ?_
 refine sN<|sO<|qR ?_
 obtain rfl:=oI h
 exact qD
theorem made_Roll_ev {a0 : (List Int)} {r : T_seismonetmade_Dice} (h : made_Roll a0 = some r) : EvP prog hints ext 7 [.d (.lst (a0.map (PD.int .i64)))] [] (.ptr 0 0, [.var [.d (.lst (r.fL.map (PD.int .i64))), .d (.int .i64 r.fAt)]]) := by
 refine Ev.body rfl Tryz.func7 rfl (by kernel_rfl)<|gS rfl rfl<|sV (.d (.raw (.pointer none)))<|sN<|gS rfl rfl<|sM rfl<|sV (.d (T_seismonetmade_Dice.pd (T_seismonetmade_Dice.mk a0 0)))<|sB (.ptr 80 0) 80 (.var [.d (.lst (((T_seismonetmade_Dice.mk a0 0).fL).map (PD.int .i64))), .d (.int .i64 ((T_seismonetmade_Dice.mk a0 0).fAt))])<|sA rfl<|sN<|qR ?_
 obtain rfl:=oI h
 exact qD
theorem Dice_Next_ev {a1 : Int} {d0 : T_seismonetmade_Dice} {r : Int × T_seismonetmade_Dice} (h : Dice_Next a1 d0 = some r) : EvP prog hints ext 21 [.ptr 0 0, .d (.int .i64 a1)] [.var [.d (.lst (d0.fL.map (PD.int .i64))), .d (.int .i64 d0.fAt)]] (.d (.int .i64 r.1), [.var [.d (.lst (r.2.fL.map (PD.int .i64))), .d (.int .i64 r.2.fAt)]]) := by
 refine Ev.body rfl Tryz.func21 rfl (by kernel_rfl)<|gS rfl rfl<|sV (.d (.int .i64 0))<|sN<|qS<|WC.regionDSeq rfl rfl<|sM rfl<|sV (.ptr 0 0)<|sV (.ptr 0 1)<|sL rfl<|sM rfl<|sV (.ptr 0 0)<|sV (.ptr 0 0)<|sL rfl<|sE (.d (.int .i64 (d0.fL.length : Int))) (lenMap _ _) ?_
 refine sF h (fun h => ?_) fun h => ?_
 ·refine sM rfl<|sK<|sK<|sT ?_
  refine sN<|sO<|cT<|gS rfl rfl<|sV (.d (.int .i64 0))<|sN<|qR ?_
  obtain rfl:=oI h
  exact qD
 refine sM rfl<|sM rfl<|sV (.d (.bool (decide (a1 < (1 : Int)))))<|sF h (fun h => ?_) fun h => ?_
 ·refine sN<|sO<|cT<|gS rfl rfl<|sV (.d (.int .i64 0))<|sN<|qR ?_
  obtain rfl:=oI h
  exact qD
 refine sN<|sO<|cF<|qK<|WC.regionDSeq rfl rfl<|sM rfl<|sV (.ptr 0 0)<|sV (.ptr 0 0)<|sL rfl<|sM rfl<|sV (.ptr 0 0)<|sV (.ptr 0 1)<|sL rfl<|bE h fun x3 hx3 h => WO.elemG hx3 rfl rfl rfl rfl rfl rfl rfl rfl rfl<|sC rfl ?_
 refine sM rfl<|bE h fun x4 hx4 h => WO.remG hx4 rfl rfl rfl rfl rfl rfl<|sA rfl ?_
 refine sN<|sO<|gS rfl rfl<|sM rfl<|sV (.ptr 0 0)<|sV (.ptr 0 1)<|sL rfl<|sV (.d (.int .i64 (IntKind.wrap .i64 (d0.fAt + (1 : Int)))))<|sV (.ptr 0 0)<|sV (.ptr 0 1)<|sS 0 (.var [.d (.lst (d0.fL.map (PD.int .i64))), .d (.int .i64 (IntKind.wrap .i64 (d0.fAt + (1 : Int))))])<|sN<|qS<|gS rfl rfl<|sM rfl<|sF h (fun h => ?_) fun h => ?_
 ·refine sN<|cT<|WC.region rfl rfl<|sM rfl<|sM rfl<|sV (.d (.int .i64 (IntKind.wrap .i64 (x4 + a1))))<|sA rfl<|sN<|gS rfl rfl<|sM rfl<|sA rfl<|sN<|qR ?_
  obtain rfl:=oI h
  exact qD
 refine sN<|cF<|qK<|gS rfl rfl<|sM rfl<|sA rfl<|sN<|qR ?_
 obtain rfl:=oI h
 exact qD
theorem Dice_Pick_ev {a1 : (List Int)} {d0 : T_seismonetmade_Dice} {r : Int × T_seismonetmade_Dice} (h : Dice_Pick a1 d0 = some r) : EvP prog hints ext 40 [.ptr 0 0, .d (.lst (a1.map (PD.int .i64)))] [.var [.d (.lst (d0.fL.map (PD.int .i64))), .d (.int .i64 d0.fAt)]] (.d (.int .i64 r.1), [.var [.d (.lst (r.2.fL.map (PD.int .i64))), .d (.int .i64 r.2.fAt)]]) := by
 refine Ev.body rfl Tryz.func40 rfl (by kernel_rfl)<|gS rfl rfl<|sV (.d (.int .i64 0))<|sN<|gS rfl rfl<|sM rfl<|sM rfl<|sM rfl<|sE (.d (.int .i64 (a1.length : Int))) (lenMap _ _)<|bE h fun x1 hx1 h => cR (.d (.int .i64 x1.1)) [(0, .var [.d (.lst (x1.2.fL.map (PD.int .i64))), .d (.int .i64 x1.2.fAt)])] (Dice_Next_ev hx1)<|bE h fun x2 hx2 h => WO.elemG hx2 rfl rfl rfl rfl rfl rfl rfl rfl rfl<|sC rfl<|sA rfl ?_
 refine sN<|qR ?_
 obtain rfl:=oI h
 exact qD
theorem Dice_Source_ev {d0 : T_seismonetmade_Dice} {r : T_api_SourceID × T_seismonetmade_Dice} (h : Dice_Source d0 = some r) : EvP prog hints ext 20 [.ptr 0 0] [.var [.d (.lst (d0.fL.map (PD.int .i64))), .d (.int .i64 d0.fAt)]] (.d (T_api_SourceID.pd r.1), [.var [.d (.lst (r.2.fL.map (PD.int .i64))), .d (.int .i64 r.2.fAt)]]) := by
 refine Ev.body rfl Tryz.func20 rfl (by kernel_rfl)<|gS rfl rfl<|sB (.ptr 32 0) 32 (.var [.d (.str []), .d (.str []), .d (.str []), .d (.str [])])<|sN<|WC.regionDSeq rfl rfl<|sV (.d (.lst ([[71, 82], [88], [55, 65]].map PD.str)))<|sM rfl<|bE h fun x1 hx1 h => cR (.d (.int .i64 x1.1)) [(0, .var [.d (.lst (x1.2.fL.map (PD.int .i64))), .d (.int .i64 x1.2.fAt)])] (Dice_Next_ev hx1)<|bE h fun x2 hx2 h => WO.elemG hx2 rfl rfl rfl rfl rfl rfl rfl rfl rfl<|sC rfl<|sV (.d (.lst ([[70, 85, 82], [65], [65, 66, 67, 68, 69], [70, 85]].map PD.str)))<|sM rfl<|bE h fun x3 hx3 h => ?_
 refine cR (.d (.int .i64 x3.1)) [(0, .var [.d (.lst (x3.2.fL.map (PD.int .i64))), .d (.int .i64 x3.2.fAt)])] (Dice_Next_ev hx3)<|bE h fun x4 hx4 h => WO.elemG hx4 rfl rfl rfl rfl rfl rfl rfl rfl rfl<|sC rfl<|sV (.d (.lst ([[], [48, 48], [49, 48]].map PD.str)))<|sM rfl<|bE h fun x5 hx5 h => cR (.d (.int .i64 x5.1)) [(0, .var [.d (.lst (x5.2.fL.map (PD.int .i64))), .d (.int .i64 x5.2.fAt)])] (Dice_Next_ev hx5)<|bE h fun x6 hx6 h => WO.elemG hx6 rfl rfl rfl rfl rfl rfl rfl rfl rfl<|sC rfl<|sV (.d (.lst ([[72, 72, 90], [72, 72, 78], [66, 72, 90]].map PD.str)))<|sM rfl<|bE h fun x7 hx7 h => cR (.d (.int .i64 x7.1)) [(0, .var [.d (.lst (x7.2.fL.map (PD.int .i64))), .d (.int .i64 x7.2.fAt)])] (Dice_Next_ev hx7) ?_
 refine bE h fun x8 hx8 h => WO.elemG hx8 rfl rfl rfl rfl rfl rfl rfl rfl rfl<|sC rfl<|sV (.d (T_api_SourceID.pd (T_api_SourceID.mk x2 x4 x6 x8)))<|sS 32 (.var [.d (.str ((T_api_SourceID.mk x2 x4 x6 x8).fNetwork)), .d (.str ((T_api_SourceID.mk x2 x4 x6 x8).fStation)), .d (.str ((T_api_SourceID.mk x2 x4 x6 x8).fLocation)), .d (.str ((T_api_SourceID.mk x2 x4 x6 x8).fChannel))]) ?_
 refine sN<|sO<|qR ?_
 obtain rfl:=oI h
 exact qD
theorem ref01_In_ev {a0 : Int} {a1 : Int} {a2 : Int} {r : Bool} (h : ref01_In a0 a1 a2 = some r) : EvP prog hints ext 46 [.d (.int .i64 a0), .d (.int .i64 a1), .d (.int .i64 a2)] [] (.d (.bool r), []) := by
 refine Ev.body rfl Tryz.func46 rfl (by kernel_rfl)<|gS rfl rfl<|sU<|sN<|gS rfl rfl<|sM rfl<|sM rfl<|sF h (fun h => ?_) fun h => ?_
 ·refine sM rfl<|sM rfl<|sM rfl<|sV (.d (.bool (decide (a0 ≤ a2))))<|sV (.d (.bool (decide (a0 ≤ a2))))<|sA rfl<|sN<|qR ?_
  obtain rfl:=oI h
  exact qD
 refine sM rfl<|sK<|sK<|sK<|sU<|sA rfl<|sN<|qR ?_
 obtain rfl:=oI h
 exact qD
theorem ref02_gcd_ev {a0 : Int} {a1 : Int} {r : Int} (h : ref02_gcd a0 a1 = some r) : EvP prog hints ext 94 [.d (.int .i64 a0), .d (.int .i64 a1)] [] (.d (.int .i64 r), []) := by
 refine Ev.body rfl Tryz.func94 rfl (by kernel_rfl)<|gS rfl rfl<|sV (.d (.int .i64 0))<|sN<|qS<|bE h fun o8 ho8 h => WC.block (WC.loop (WL.ofLoop ho8 (fun s R' B' => ghosts prog 0 (A R' B') (hints.at_ 94 1) = some (A [(0, .d (.int .i64 s.1)), (1, .d (.int .i64 s.2))] [])) (fun o e R' B' => e = .exit 0 ∧ ghosts prog 0 (A R' B') (hints.at_ 94 3) = some (A [(0, .d (.int .i64 o))] [])) rfl ?_ ?_))
 ·rintro ⟨s1, s2⟩ R' B' q4 hI h
  refine qS<|gS rfl hI<|sM rfl<|sF h (fun h => ?_) fun h => ?_
  ·refine sN<|cT<|qK<|qB<|WC.regionD rfl rfl<|sM rfl<|sM rfl<|sM rfl<|bE h fun x6 hx6 h => WO.remG hx6 rfl rfl rfl rfl rfl rfl<|sA rfl<|sA rfl ?_
   refine sN<|sO ?_
   obtain rfl:=oI h
   exact ⟨rfl, rfl⟩
  refine sN<|cF<|qX ?_
  obtain rfl:=oI h
  exact ⟨(fun he => by cases he), rfl, rfl⟩
 intro e R' B' he hq
 obtain ⟨rfl, hI⟩ := hq
 refine qE<|gS rfl hI<|sM rfl<|sA rfl<|sN<|qR ?_
 obtain rfl:=oI h
 exact qD
theorem ref02_New_ev {a0 : Int} {a1 : Int} {r : T_api_Rate × Int} (h : ref02_New a0 a1 = some r) : EvP prog hints ext 119 [.d (.int .i64 a0), .d (.int .i64 a1)] [] (.tup [.d (T_api_Rate.pd r.1), .d (.int .i64 r.2)], []) := by
 refine Ev.body rfl Tryz.func119 rfl (by kernel_rfl)<|gS rfl rfl<|sB (.ptr 64 0) 64 (.var [.d (.int .i64 0), .d (.int .i64 0)])<|sV (.d (.int .i64 0))<|sN<|qS<|gS rfl rfl<|sM rfl<|bE h fun x1 hx1 h => cD (ref01_In_ev hx1)<|sF h (fun h => ?_) fun h => ?_
 ·refine sM rfl<|sK<|sK<|sK<|sT<|sN<|cT<|gS rfl rfl<|sV (.d (T_api_Rate.pd (T_api_Rate.mk 0 0)))<|sS 64 (.var [.d (.int .i64 ((T_api_Rate.mk 0 0).fNum)), .d (.int .i64 ((T_api_Rate.mk 0 0).fDen))])<|sV (.d (.int .i64 2))<|sN<|qR ?_
  obtain rfl:=oI h
  exact qD
 refine sM rfl<|sM rfl<|bE h fun x3 hx3 h => cD (ref01_In_ev hx3)<|sV (.d (.bool (!x3)))<|sF h (fun h => ?_) fun h => ?_
 ·refine sN<|cT<|gS rfl rfl<|sV (.d (T_api_Rate.pd (T_api_Rate.mk 0 0)))<|sS 64 (.var [.d (.int .i64 ((T_api_Rate.mk 0 0).fNum)), .d (.int .i64 ((T_api_Rate.mk 0 0).fDen))])<|sV (.d (.int .i64 2))<|sN<|qR ?_
  obtain rfl:=oI h
  exact qD
 refine sN<|cF<|qK<|gS rfl rfl<|sM rfl<|sM rfl<|bE h fun x5 hx5 h => cD (ref02_gcd_ev hx5)<|sA rfl<|sN<|WC.regionDSeq rfl rfl<|sM rfl<|sM rfl<|bE h fun x6 hx6 h => WO.quoG hx6 rfl rfl rfl rfl rfl rfl ?_
 refine sM rfl<|sM rfl<|bE h fun x7 hx7 h => WO.quoG hx7 rfl rfl rfl rfl rfl rfl<|sV (.d (T_api_Rate.pd (T_api_Rate.mk x6 x7)))<|sS 64 (.var [.d (.int .i64 ((T_api_Rate.mk x6 x7).fNum)), .d (.int .i64 ((T_api_Rate.mk x6 x7).fDen))])<|sV (.d (.int .i64 0)) ?_
 refine sN<|sO<|qR ?_
 obtain rfl:=oI h
 exact qD
theorem Dice_Rate_ev {d0 : T_seismonetmade_Dice} {r : T_api_Rate × T_seismonetmade_Dice} (h : Dice_Rate d0 = some r) : EvP prog hints ext 97 [.ptr 0 0] [.var [.d (.lst (d0.fL.map (PD.int .i64))), .d (.int .i64 d0.fAt)]] (.d (T_api_Rate.pd r.1), [.var [.d (.lst (r.2.fL.map (PD.int .i64))), .d (.int .i64 r.2.fAt)]]) := by
 refine Ev.body rfl Tryz.func97 rfl (by kernel_rfl)<|gS rfl rfl<|sB (.ptr 32 0) 32 (.var [.d (.int .i64 0), .d (.int .i64 0)])<|sN<|gS rfl rfl<|sM rfl<|sV (.d (.lst ([1, 3, 20, 100, 40, 4096, 7].map (PD.int .i64))))<|bE h fun x1 hx1 h => cR (.d (.int .i64 x1.1)) [(0, .var [.d (.lst (x1.2.fL.map (PD.int .i64))), .d (.int .i64 x1.2.fAt)])] (Dice_Pick_ev hx1)<|sM rfl<|sV (.d (.lst ([1, 1, 1, 3, 7, 4096].map (PD.int .i64))))<|bE h fun x2 hx2 h => cR (.d (.int .i64 x2.1)) [(0, .var [.d (.lst (x2.2.fL.map (PD.int .i64))), .d (.int .i64 x2.2.fAt)])] (Dice_Pick_ev hx2)<|bE h fun x3 hx3 h => cR (.tup [.d (T_api_Rate.pd x3.1), .d (.int .i64 x3.2)]) [] (ref02_New_ev hx3) ?_
 refine sM rfl<|sV (.d (T_api_Rate.pd x3.1))<|sV (.d (.int .i64 x3.2))<|sB (.ptr 48 0) 48 (.var [.d (.int .i64 0), .d (.int .i64 0)])<|sS 48 (.var [.d (.int .i64 x3.1.fNum), .d (.int .i64 x3.1.fDen)])<|sA rfl<|sN<|gS rfl rfl<|sV (.d (T_api_Rate.pd x3.1))<|sS 32 (.var [.d (.int .i64 x3.1.fNum), .d (.int .i64 x3.1.fDen)])<|sN<|qR ?_
 obtain rfl:=oI h
 exact qD
theorem Dice_Stage_ev {d0 : T_seismonetmade_Dice} {r : T_api_Stage × T_seismonetmade_Dice} (h : Dice_Stage d0 = some r) : EvP prog hints ext 99 [.ptr 0 0] [.var [.d (.lst (d0.fL.map (PD.int .i64))), .d (.int .i64 d0.fAt)]] (.d (T_api_Stage.pd r.1), [.var [.d (.lst (r.2.fL.map (PD.int .i64))), .d (.int .i64 r.2.fAt)]]) := by
 refine Ev.body rfl Tryz.func99 rfl (by kernel_rfl)<|gS rfl rfl<|sB (.ptr 32 0) 32 (.var [.d (.int .i64 0), .d (.int .i64 0), .d (.int .i64 0), .d (.int .i64 0), .d (.int .i64 0), .d (.int .i64 0), .d (.int .i64 0), .nils, .d (.int .i64 0), .d (.int .i64 0)])<|sN<|qS<|gS rfl rfl<|sM rfl<|bE h fun x1 hx1 h => cR (.d (.int .i64 x1.1)) [(0, .var [.d (.lst (x1.2.fL.map (PD.int .i64))), .d (.int .i64 x1.2.fAt)])] (Dice_Next_ev hx1)<|sN<|qB<|gS rfl rfl<|sF h (fun h => ?_) fun h => ?_
 ·refine sA rfl<|sN<|cT<|gS rfl rfl<|sM rfl<|bE h fun x3 hx3 h => cR (.d (.int .i64 x3.1)) [(0, .var [.d (.lst (x3.2.fL.map (PD.int .i64))), .d (.int .i64 x3.2.fAt)])] (Dice_Next_ev hx3)<|sV (.d (.int .i64 (IntKind.wrap .i64 ((1 : Int) + x3.1))))<|sV (.d (A3_Int.pd (A3_Int.mk (IntKind.wrap .i64 ((1 : Int) + x3.1)) 0 0)))<|sM rfl<|bE h fun x4 hx4 h => cR (.d (.int .i64 x4.1)) [(0, .var [.d (.lst (x4.2.fL.map (PD.int .i64))), .d (.int .i64 x4.2.fAt)])] (Dice_Next_ev hx4)<|sV (.d (.int .i64 (IntKind.wrap .i64 ((1 : Int) + x4.1))))<|sV (.d (A3_Int.pd (A3_Int.mk (IntKind.wrap .i64 ((1 : Int) + x4.1)) 0 0)))<|sV (.agg [.d (.int .i64 0), .d (.int .i64 ((A3_Int.mk (IntKind.wrap .i64 ((1 : Int) + x3.1)) 0 0).a0)), .d (.int .i64 ((A3_Int.mk (IntKind.wrap .i64 ((1 : Int) + x3.1)) 0 0).a1)), .d (.int .i64 ((A3_Int.mk (IntKind.wrap .i64 ((1 : Int) + x3.1)) 0 0).a2)), .d (.int .i64 ((A3_Int.mk (IntKind.wrap .i64 ((1 : Int) + x4.1)) 0 0).a0)), .d (.int .i64 ((A3_Int.mk (IntKind.wrap .i64 ((1 : Int) + x4.1)) 0 0).a1)), .d (.int .i64 ((A3_Int.mk (IntKind.wrap .i64 ((1 : Int) + x4.1)) 0 0).a2)), .nils, .d (.int .i64 0), .d (.int .i64 0)]) ?_
  refine sS 32 (.var [.d (.int .i64 0), .d (.int .i64 ((A3_Int.mk (IntKind.wrap .i64 ((1 : Int) + x3.1)) 0 0).a0)), .d (.int .i64 ((A3_Int.mk (IntKind.wrap .i64 ((1 : Int) + x3.1)) 0 0).a1)), .d (.int .i64 ((A3_Int.mk (IntKind.wrap .i64 ((1 : Int) + x3.1)) 0 0).a2)), .d (.int .i64 ((A3_Int.mk (IntKind.wrap .i64 ((1 : Int) + x4.1)) 0 0).a0)), .d (.int .i64 ((A3_Int.mk (IntKind.wrap .i64 ((1 : Int) + x4.1)) 0 0).a1)), .d (.int .i64 ((A3_Int.mk (IntKind.wrap .i64 ((1 : Int) + x4.1)) 0 0).a2)), .nils, .d (.int .i64 0), .d (.int .i64 0)])<|sN<|qR ?_
  obtain rfl:=oI h
  exact qD
 refine sA rfl<|sN<|cF<|gS rfl rfl<|sF h (fun h => ?_) fun h => ?_
 ·refine sA rfl<|sN<|cT<|gS rfl rfl<|sM rfl<|bE h fun x6 hx6 h => cR (.d (.int .i64 x6.1)) [(0, .var [.d (.lst (x6.2.fL.map (PD.int .i64))), .d (.int .i64 x6.2.fAt)])] (Dice_Next_ev hx6)<|sV (.d (.int .i64 (IntKind.wrap .i64 (x6.1 - (4 : Int)))))<|sM rfl<|bE h fun x7 hx7 h => cR (.d (.int .i64 x7.1)) [(0, .var [.d (.lst (x7.2.fL.map (PD.int .i64))), .d (.int .i64 x7.2.fAt)])] (Dice_Next_ev hx7)<|sV (.d (.int .i64 (IntKind.wrap .i64 (x7.1 - (4 : Int)))))<|sM rfl<|bE h fun x8 hx8 h => cR (.d (.int .i64 x8.1)) [(0, .var [.d (.lst (x8.2.fL.map (PD.int .i64))), .d (.int .i64 x8.2.fAt)])] (Dice_Next_ev hx8) ?_
  refine sV (.d (A3_Int.pd (A3_Int.mk (IntKind.wrap .i64 (x6.1 - (4 : Int))) (IntKind.wrap .i64 (x7.1 - (4 : Int))) x8.1)))<|sM rfl<|sV (.d (.lst ([1, 2, -3, 1048576].map (PD.int .i64))))<|bE h fun x9 hx9 h => cR (.d (.int .i64 x9.1)) [(0, .var [.d (.lst (x9.2.fL.map (PD.int .i64))), .d (.int .i64 x9.2.fAt)])] (Dice_Pick_ev hx9)<|sM rfl<|bE h fun x10 hx10 h => cR (.d (.int .i64 x10.1)) [(0, .var [.d (.lst (x10.2.fL.map (PD.int .i64))), .d (.int .i64 x10.2.fAt)])] (Dice_Next_ev hx10)<|sV (.d (.int .i64 (IntKind.wrap .i64 (x10.1 - (4 : Int)))))<|sM rfl<|sV (.d (.lst ([0, 1, 1048576].map (PD.int .i64))))<|bE h fun x11 hx11 h => cR (.d (.int .i64 x11.1)) [(0, .var [.d (.lst (x11.2.fL.map (PD.int .i64))), .d (.int .i64 x11.2.fAt)])] (Dice_Pick_ev hx11)<|sV (.d (A3_Int.pd (A3_Int.mk x9.1 (IntKind.wrap .i64 (x10.1 - (4 : Int))) x11.1)))<|sV (.agg [.d (.int .i64 1), .d (.int .i64 ((A3_Int.mk (IntKind.wrap .i64 (x6.1 - (4 : Int))) (IntKind.wrap .i64 (x7.1 - (4 : Int))) x8.1).a0)), .d (.int .i64 ((A3_Int.mk (IntKind.wrap .i64 (x6.1 - (4 : Int))) (IntKind.wrap .i64 (x7.1 - (4 : Int))) x8.1).a1)), .d (.int .i64 ((A3_Int.mk (IntKind.wrap .i64 (x6.1 - (4 : Int))) (IntKind.wrap .i64 (x7.1 - (4 : Int))) x8.1).a2)), .d (.int .i64 ((A3_Int.mk x9.1 (IntKind.wrap .i64 (x10.1 - (4 : Int))) x11.1).a0)), .d (.int .i64 ((A3_Int.mk x9.1 (IntKind.wrap .i64 (x10.1 - (4 : Int))) x11.1).a1)), .d (.int .i64 ((A3_Int.mk x9.1 (IntKind.wrap .i64 (x10.1 - (4 : Int))) x11.1).a2)), .nils, .d (.int .i64 0), .d (.int .i64 0)]) ?_
  refine sS 32 (.var [.d (.int .i64 1), .d (.int .i64 ((A3_Int.mk (IntKind.wrap .i64 (x6.1 - (4 : Int))) (IntKind.wrap .i64 (x7.1 - (4 : Int))) x8.1).a0)), .d (.int .i64 ((A3_Int.mk (IntKind.wrap .i64 (x6.1 - (4 : Int))) (IntKind.wrap .i64 (x7.1 - (4 : Int))) x8.1).a1)), .d (.int .i64 ((A3_Int.mk (IntKind.wrap .i64 (x6.1 - (4 : Int))) (IntKind.wrap .i64 (x7.1 - (4 : Int))) x8.1).a2)), .d (.int .i64 ((A3_Int.mk x9.1 (IntKind.wrap .i64 (x10.1 - (4 : Int))) x11.1).a0)), .d (.int .i64 ((A3_Int.mk x9.1 (IntKind.wrap .i64 (x10.1 - (4 : Int))) x11.1).a1)), .d (.int .i64 ((A3_Int.mk x9.1 (IntKind.wrap .i64 (x10.1 - (4 : Int))) x11.1).a2)), .nils, .d (.int .i64 0), .d (.int .i64 0)])<|sN<|qR ?_
  obtain rfl:=oI h
  exact qD
 refine sA rfl<|sN<|cF<|qK<|gS rfl rfl<|sM rfl<|bE h fun x12 hx12 h => cR (.d (.int .i64 x12.1)) [(0, .var [.d (.lst (x12.2.fL.map (PD.int .i64))), .d (.int .i64 x12.2.fAt)])] (Dice_Next_ev hx12)<|sV (.d (.int .i64 (IntKind.wrap .i64 ((1 : Int) + x12.1))))<|sB (.ref 704 0) 704 (.arr 0 3 ([(IntKind.wrap .i64 ((1 : Int) + x12.1))].map (PD.int .i64)))<|sM rfl<|sV (.d (.lst ([1, 1, 2, 5].map (PD.int .i64))))<|bE h fun x13 hx13 h => cR (.d (.int .i64 x13.1)) [(0, .var [.d (.lst (x13.2.fL.map (PD.int .i64))), .d (.int .i64 x13.2.fAt)])] (Dice_Pick_ev hx13)<|sM rfl ?_
 refine bE h fun x14 hx14 h => cR (.d (.int .i64 x14.1)) [(0, .var [.d (.lst (x14.2.fL.map (PD.int .i64))), .d (.int .i64 x14.2.fAt)])] (Dice_Next_ev hx14)<|sV (.agg [.d (.int .i64 2), .d (.int .i64 0), .d (.int .i64 0), .d (.int .i64 0), .d (.int .i64 0), .d (.int .i64 0), .d (.int .i64 0), .ref 704 0, .d (.int .i64 x13.1), .d (.int .i64 x14.1)])<|sB (.ptr 48 0) 48 (.var [.d (.int .i64 0), .d (.int .i64 0), .d (.int .i64 0), .d (.int .i64 0), .d (.int .i64 0), .d (.int .i64 0), .d (.int .i64 0), .nils, .d (.int .i64 0), .d (.int .i64 0)])<|sS 48 (.var [.d (.int .i64 2), .d (.int .i64 0), .d (.int .i64 0), .d (.int .i64 0), .d (.int .i64 0), .d (.int .i64 0), .d (.int .i64 0), .ref 704 0, .d (.int .i64 x13.1), .d (.int .i64 x14.1)])<|sN<|qS<|gS rfl rfl<|sM rfl<|bE h fun x15 hx15 h => cR (.d (.int .i64 x15.1)) [(0, .var [.d (.lst (x15.2.fL.map (PD.int .i64))), .d (.int .i64 x15.2.fAt)])] (Dice_Next_ev hx15)<|sA rfl<|sN<|bE h fun o32 ho32 h => WC.block (WC.loop (WL.ofLoop ho32 (fun s R' B' => ghosts prog 1 (A R' B') (hints.at_ 99 8) = some (A [(0, .ptr 0 0), (2, .ptr 32 0), (3, .ptr 48 0), (4, .d (.int .i64 s.1))] [(0, .var [.d (.lst (s.2.1.map (PD.int .i64))), .d (.int .i64 s.2.2.1)]), (32, .var [.d (.int .i64 0), .d (.int .i64 0), .d (.int .i64 0), .d (.int .i64 0), .d (.int .i64 0), .d (.int .i64 0), .d (.int .i64 0), .nils, .d (.int .i64 0), .d (.int .i64 0)]), (48, .var [.d (.int .i64 2), .d (.int .i64 0), .d (.int .i64 0), .d (.int .i64 0), .d (.int .i64 0), .d (.int .i64 0), .d (.int .i64 0), .ref 90128 0, .d (.int .i64 x13.1), .d (.int .i64 x14.1)]), (90128, .arr 0 3 (s.2.2.2.map (PD.int .i64)))])) (fun o e R' B' => e = .exit 1 ∧ ghosts prog 1 (A R' B') (hints.at_ 99 12) = some (A [(0, .ptr 0 0), (2, .ptr 32 0), (3, .ptr 48 0)] [(0, .var [.d (.lst (o.1.map (PD.int .i64))), .d (.int .i64 o.2.1)]), (32, .var [.d (.int .i64 0), .d (.int .i64 0), .d (.int .i64 0), .d (.int .i64 0), .d (.int .i64 0), .d (.int .i64 0), .d (.int .i64 0), .nils, .d (.int .i64 0), .d (.int .i64 0)]), (48, .var [.d (.int .i64 2), .d (.int .i64 0), .d (.int .i64 0), .d (.int .i64 0), .d (.int .i64 0), .d (.int .i64 0), .d (.int .i64 0), .ref 90128 0, .d (.int .i64 x13.1), .d (.int .i64 x14.1)]), (90128, .arr 0 3 (o.2.2.map (PD.int .i64)))])) rfl ?_ ?_))
 ·rintro ⟨s19, s20, s21, s22⟩ R' B' q26 hI h
  refine qS<|gS rfl hI<|sM rfl<|sF h (fun h => ?_) fun h => ?_
  ·refine sN<|cT<|qK<|qS<|qB<|gS rfl rfl<|sM rfl<|bE h fun x28 hx28 h => cR (.d (.int .i64 x28.1)) [(0, .var [.d (.lst (x28.2.fL.map (PD.int .i64))), .d (.int .i64 x28.2.fAt)])] (Dice_Next_ev hx28)<|sA rfl<|sN<|WC.region rfl rfl<|sM rfl<|sB (.ref 960 0) 960 (.arr 0 3 ([x28.1].map (PD.int .i64)))<|sV (.ptr 48 7) ?_
   refine sL rfl<|bE h fun x29 hx29 h => WO.appRG hx29 (fun _ => rfl) rfl rfl rfl rfl rfl rfl rfl rfl rfl rfl rfl rfl rfl rfl rfl<|sM rfl<|sV (.d (.lst ([x28.1].map (PD.int .i64))))<|bE h fun x30 hx30 h => WO.appR hx30 (fun _ => rfl) rfl rfl rfl rfl rfl rfl rfl rfl rfl rfl rfl rfl rfl rfl<|sV (.ptr 48 7)<|sS 48 (.var [.d (.int .i64 2), .d (.int .i64 0), .d (.int .i64 0), .d (.int .i64 0), .d (.int .i64 0), .d (.int .i64 0), .d (.int .i64 0), .ref 960 2, .d (.int .i64 x13.1), .d (.int .i64 x14.1)])<|sN<|WC.region rfl rfl<|sM rfl<|sV (.d (.int .i64 (IntKind.wrap .i64 (s19 - (1 : Int)))))<|sA rfl<|sN ?_
   obtain rfl:=oI h
   exact ⟨rfl, rfl⟩
  refine sN<|cF<|qX ?_
  obtain rfl:=oI h
  exact ⟨(fun he => by cases he), rfl, rfl⟩
 intro e R' B' he hq
 obtain ⟨rfl, hI⟩ := hq
 refine qE<|qS<|gS rfl hI<|sM rfl<|bE h fun x33 hx33 h => cR (.d (.int .i64 x33.1)) [(0, .var [.d (.lst (x33.2.fL.map (PD.int .i64))), .d (.int .i64 x33.2.fAt)])] (Dice_Next_ev hx33)<|sF h (fun h => ?_) fun h => ?_
 ·refine sN<|cT<|WC.region rfl rfl<|sV (.ptr 48 7)<|sL rfl<|sV (.d (.lst ([3].map (PD.int .i64))))<|bE h fun x35 hx35 h => WO.appR hx35 (fun _ => rfl) rfl rfl rfl rfl rfl rfl rfl rfl rfl rfl rfl rfl rfl rfl<|sV (.ptr 48 7)<|sS 48 (.var [.d (.int .i64 2), .d (.int .i64 0), .d (.int .i64 0), .d (.int .i64 0), .d (.int .i64 0), .d (.int .i64 0), .d (.int .i64 0), .ref 90128 1, .d (.int .i64 x13.1), .d (.int .i64 x14.1)])<|sN<|gS rfl rfl<|sV (.agg [.d (.int .i64 2), .d (.int .i64 0), .d (.int .i64 0), .d (.int .i64 0), .d (.int .i64 0), .d (.int .i64 0), .d (.int .i64 0), .ref 90128 1, .d (.int .i64 x13.1), .d (.int .i64 x14.1)])<|sS 32 (.var [.d (.int .i64 2), .d (.int .i64 0), .d (.int .i64 0), .d (.int .i64 0), .d (.int .i64 0), .d (.int .i64 0), .d (.int .i64 0), .ref 90128 1, .d (.int .i64 x13.1), .d (.int .i64 x14.1)])<|sN ?_
  refine qR ?_
  obtain rfl:=oI h
  exact qD
 refine sN<|cF<|qK<|gS rfl rfl<|sV (.agg [.d (.int .i64 2), .d (.int .i64 0), .d (.int .i64 0), .d (.int .i64 0), .d (.int .i64 0), .d (.int .i64 0), .d (.int .i64 0), .ref 90128 0, .d (.int .i64 x13.1), .d (.int .i64 x14.1)])<|sS 32 (.var [.d (.int .i64 2), .d (.int .i64 0), .d (.int .i64 0), .d (.int .i64 0), .d (.int .i64 0), .d (.int .i64 0), .d (.int .i64 0), .ref 90128 0, .d (.int .i64 x13.1), .d (.int .i64 x14.1)])<|sN<|qR ?_
 obtain rfl:=oI h
 exact qD
theorem Dice_Response_ev {d0 : T_seismonetmade_Dice} {r : T_api_Response × T_seismonetmade_Dice} (h : Dice_Response d0 = some r) : EvP prog hints ext 65 [.ptr 0 0] [.var [.d (.lst (d0.fL.map (PD.int .i64))), .d (.int .i64 d0.fAt)]] (.agg [.ref 1 0], [.var [.d (.lst (r.2.fL.map (PD.int .i64))), .d (.int .i64 r.2.fAt)], .arr 0 92 (r.1.fStages.map T_api_Stage.pd)]) := by
 refine Ev.body rfl Tryz.func65 rfl (by kernel_rfl)<|gS rfl rfl<|sB (.ptr 32 0) 32 (.var [.nils])<|sN<|gS rfl rfl<|sB (.ptr 48 0) 48 (.var [.nils])<|sN<|gS rfl rfl<|sV (.d (.int .i64 1))<|sN<|qS<|gS rfl rfl<|sM rfl<|bE h fun x1 hx1 h => cR (.d (.int .i64 x1.1)) [(0, .var [.d (.lst (x1.2.fL.map (PD.int .i64))), .d (.int .i64 x1.2.fAt)])] (Dice_Next_ev hx1) ?_
 refine sA rfl<|sN<|bE h fun o18 ho18 h => WC.block (WC.loop (WL.ofLoop ho18 (fun s R' B' => ghosts prog 1 (A R' B') (hints.at_ 65 4) = some (A [(0, .ptr 0 0), (2, .ptr 32 0), (3, .ptr 48 0), (4, .d (.int .i64 s.1)), (5, .d (.int .i64 s.2.1))] [(0, .var [.d (.lst (s.2.2.1.map (PD.int .i64))), .d (.int .i64 s.2.2.2.1)]), (32, .var [.nils]), (48, .var [.ref 448 0]), (448, .arr 0 92 (s.2.2.2.2.map T_api_Stage.pd))])) (fun o e R' B' => e = .exit 0 ∧ ghosts prog 1 (A R' B') (hints.at_ 65 11) = some (A [(2, .ptr 32 0), (3, .ptr 48 0)] [(0, .var [.d (.lst (o.1.map (PD.int .i64))), .d (.int .i64 o.2.1)]), (32, .var [.nils]), (48, .var [.ref 448 0]), (448, .arr 0 92 (o.2.2.map T_api_Stage.pd))])) rfl ?_ ?_))
 ·rintro ⟨s2, s3, s4, s5, s6⟩ R' B' q10 hI h
  refine qS<|gS rfl hI<|sM rfl<|sF h (fun h => ?_) fun h => ?_
  ·refine sN<|cT<|qK<|qS<|qB<|gS rfl rfl<|sM rfl<|bE h fun x12 hx12 h => cR (.d (T_api_Stage.pd x12.1)) [(0, .var [.d (.lst (x12.2.fL.map (PD.int .i64))), .d (.int .i64 x12.2.fAt)])] (Dice_Stage_ev hx12)<|sB (.ptr 96 0) 96 (.var [.d (.int .i64 0), .d (.int .i64 0), .d (.int .i64 0), .d (.int .i64 0), .d (.int .i64 0), .d (.int .i64 0), .d (.int .i64 0), .nils, .d (.int .i64 0), .d (.int .i64 0)])<|sS 96 (.var [.d (.int .i64 x12.1.fKind), .d (.int .i64 x12.1.fNum.a0), .d (.int .i64 x12.1.fNum.a1), .d (.int .i64 x12.1.fNum.a2), .d (.int .i64 x12.1.fDen.a0), .d (.int .i64 x12.1.fDen.a1), .d (.int .i64 x12.1.fDen.a2), .d (.lst (x12.1.fTaps.map (PD.int .i64))), .d (.int .i64 x12.1.fFactor), .d (.int .i64 x12.1.fShift)])<|sN<|qS<|gS rfl rfl<|sV (.ptr 96 0) ?_
   refine sL rfl<|sF h (fun h => ?_) fun h => ?_
   ·refine sN<|cT<|gS rfl rfl<|sM rfl<|sV (.ptr 96 8)<|sL rfl<|sV (.d (.int .i64 (IntKind.wrap .i64 (s2 * x12.1.fFactor))))<|sA rfl<|sN<|gS rfl rfl<|sM rfl<|sF h (fun h => ?_) fun h => ?_
    ·refine sN<|cT<|qX<|⟨fun he => (by cases he), fun _ => ?_⟩
     obtain rfl:=oI h
     exact ⟨(fun he => by cases he), rfl, rfl⟩
    refine sN<|cF<|qK<|WC.region rfl rfl<|sV (.ptr 48 0)<|sL rfl<|sV (.d (T_api_Stage.pd x12.1))<|sV (.d (.lst ([x12.1].map T_api_Stage.pd)))<|bE h fun x15 hx15 h => WO.appR hx15 (fun _ => rfl) rfl rfl rfl rfl rfl rfl rfl rfl rfl rfl rfl rfl rfl rfl<|sV (.ptr 48 0)<|sS 48 (.var [.ref 448 1])<|sN<|WC.region rfl rfl<|sM rfl ?_
    refine sV (.d (.int .i64 (IntKind.wrap .i64 (s3 - (1 : Int)))))<|sA rfl<|sN ?_
    obtain rfl:=oI h
    exact ⟨rfl, rfl⟩
   refine sN<|cF<|qK<|WC.region rfl rfl<|sV (.ptr 48 0)<|sL rfl<|sV (.d (T_api_Stage.pd x12.1))<|sV (.d (.lst ([x12.1].map T_api_Stage.pd)))<|bE h fun x16 hx16 h => WO.appR hx16 (fun _ => rfl) rfl rfl rfl rfl rfl rfl rfl rfl rfl rfl rfl rfl rfl rfl<|sV (.ptr 48 0)<|sS 48 (.var [.ref 448 1])<|sN<|WC.region rfl rfl<|sM rfl ?_
   refine sV (.d (.int .i64 (IntKind.wrap .i64 (s3 - (1 : Int)))))<|sA rfl<|sN ?_
   obtain rfl:=oI h
   exact ⟨rfl, rfl⟩
  refine sN<|cF<|qX ?_
  obtain rfl:=oI h
  exact ⟨(fun he => by cases he), rfl, rfl⟩
 intro e R' B' he hq
 obtain ⟨rfl, hI⟩ := hq
 refine qE<|gS rfl hI<|sV (.agg [.ref 448 0])<|sS 32 (.var [.ref 448 0])<|sN<|qR ?_
 obtain rfl:=oI h
 exact qD
theorem Dice_Epoch_ev {d0 : T_seismonetmade_Dice} {r : T_api_Epoch × T_seismonetmade_Dice} (h : Dice_Epoch d0 = some r) : EvP prog hints ext 63 [.ptr 0 0] [.var [.d (.lst (d0.fL.map (PD.int .i64))), .d (.int .i64 d0.fAt)]] (.d (T_api_Epoch.pd r.1), [.var [.d (.lst (r.2.fL.map (PD.int .i64))), .d (.int .i64 r.2.fAt)]]) := by
 refine Ev.body rfl Tryz.func63 rfl (by kernel_rfl)<|gS rfl rfl<|sB (.ptr 32 0) 32 (.var [.d (.int .i64 0), .d (.int .i64 0), .d (.int .i64 0), .d (.int .i64 0), .d (.int .i64 0), .d (.int .i64 0), .d (.int .i64 0), .nils])<|sN<|gS rfl rfl<|sM rfl<|bE h fun x1 hx1 h => cR (.d (.int .i64 x1.1)) [(0, .var [.d (.lst (x1.2.fL.map (PD.int .i64))), .d (.int .i64 x1.2.fAt)])] (Dice_Next_ev hx1)<|sV (.d (.int .i64 (IntKind.wrap .i64 ((1000 : Int) * x1.1))))<|sV (.d (.int .i64 (IntKind.wrap .i64 ((1000000000000 : Int) + (IntKind.wrap .i64 ((1000 : Int) * x1.1))))))<|sA rfl<|sN<|gS rfl rfl<|sM rfl<|bE h fun x2 hx2 h => ?_
 refine cR (.d (T_api_Rate.pd x2.1)) [(0, .var [.d (.lst (x2.2.fL.map (PD.int .i64))), .d (.int .i64 x2.2.fAt)])] (Dice_Rate_ev hx2)<|sB (.ptr 64 0) 64 (.var [.d (.int .i64 0), .d (.int .i64 0)])<|sS 64 (.var [.d (.int .i64 x2.1.fNum), .d (.int .i64 x2.1.fDen)])<|sN<|WC.regionDSeq rfl rfl<|sM rfl<|sM rfl<|sM rfl<|bE h fun x3 hx3 h => cR (.d (.int .i64 x3.1)) [(0, .var [.d (.lst (x3.2.fL.map (PD.int .i64))), .d (.int .i64 x3.2.fAt)])] (Dice_Next_ev hx3)<|sV (.d (.int .i64 (IntKind.wrap .i64 ((1 : Int) + x3.1))))<|sV (.d (.int .i64 (IntKind.wrap .i64 ((1000 : Int) * (IntKind.wrap .i64 ((1 : Int) + x3.1))))))<|sV (.d (.int .i64 (IntKind.wrap .i64 ((IntKind.wrap .i64 ((1000000000000 : Int) + (IntKind.wrap .i64 ((1000 : Int) * x1.1)))) + (IntKind.wrap .i64 ((1000 : Int) * (IntKind.wrap .i64 ((1 : Int) + x3.1))))))))<|sV (.d (T_api_Rate.pd x2.1))<|sM rfl ?_
 refine sV (.d (.lst ([0, 500, -1048576, 1048576].map (PD.int .i64))))<|bE h fun x4 hx4 h => cR (.d (.int .i64 x4.1)) [(0, .var [.d (.lst (x4.2.fL.map (PD.int .i64))), .d (.int .i64 x4.2.fAt)])] (Dice_Pick_ev hx4)<|sM rfl<|bE h fun x5 hx5 h => cR (.d (.int .i64 x5.1)) [(0, .var [.d (.lst (x5.2.fL.map (PD.int .i64))), .d (.int .i64 x5.2.fAt)])] (Dice_Next_ev hx5)<|sM rfl<|sV (.d (.lst ([0, -200, -16384].map (PD.int .i64))))<|bE h fun x6 hx6 h => cR (.d (.int .i64 x6.1)) [(0, .var [.d (.lst (x6.2.fL.map (PD.int .i64))), .d (.int .i64 x6.2.fAt)])] (Dice_Pick_ev hx6)<|sV (.d (T_api_Position.pd (T_api_Position.mk x4.1 x5.1 x6.1)))<|sV (.agg [.d (.int .i64 (IntKind.wrap .i64 ((1000000000000 : Int) + (IntKind.wrap .i64 ((1000 : Int) * x1.1))))), .d (.int .i64 (IntKind.wrap .i64 ((IntKind.wrap .i64 ((1000000000000 : Int) + (IntKind.wrap .i64 ((1000 : Int) * x1.1)))) + (IntKind.wrap .i64 ((1000 : Int) * (IntKind.wrap .i64 ((1 : Int) + x3.1))))))), .d (.int .i64 x2.1.fNum), .d (.int .i64 x2.1.fDen), .d (.int .i64 ((T_api_Position.mk x4.1 x5.1 x6.1).fX)), .d (.int .i64 ((T_api_Position.mk x4.1 x5.1 x6.1).fY)), .d (.int .i64 ((T_api_Position.mk x4.1 x5.1 x6.1).fZ)), .nils])<|sB (.ptr 80 0) 80 (.var [.d (.int .i64 0), .d (.int .i64 0), .d (.int .i64 0), .d (.int .i64 0), .d (.int .i64 0), .d (.int .i64 0), .d (.int .i64 0), .nils])<|sS 80 (.var [.d (.int .i64 (IntKind.wrap .i64 ((1000000000000 : Int) + (IntKind.wrap .i64 ((1000 : Int) * x1.1))))), .d (.int .i64 (IntKind.wrap .i64 ((IntKind.wrap .i64 ((1000000000000 : Int) + (IntKind.wrap .i64 ((1000 : Int) * x1.1)))) + (IntKind.wrap .i64 ((1000 : Int) * (IntKind.wrap .i64 ((1 : Int) + x3.1))))))), .d (.int .i64 x2.1.fNum), .d (.int .i64 x2.1.fDen), .d (.int .i64 ((T_api_Position.mk x4.1 x5.1 x6.1).fX)), .d (.int .i64 ((T_api_Position.mk x4.1 x5.1 x6.1).fY)), .d (.int .i64 ((T_api_Position.mk x4.1 x5.1 x6.1).fZ)), .nils]) ?_
 refine sN<|sO<|qS<|gS rfl rfl<|sM rfl<|bE h fun x7 hx7 h => cR (.d (.int .i64 x7.1)) [(0, .var [.d (.lst (x7.2.fL.map (PD.int .i64))), .d (.int .i64 x7.2.fAt)])] (Dice_Next_ev hx7)<|sF h (fun h => ?_) fun h => ?_
 ·refine sN<|cT<|WC.region rfl rfl<|sM rfl<|bE h fun x9 hx9 h => cR (.agg [.ref 544 0]) [(0, .var [.d (.lst (x9.2.fL.map (PD.int .i64))), .d (.int .i64 x9.2.fAt)]), (544, .arr 0 92 (x9.1.fStages.map T_api_Stage.pd))] (Dice_Response_ev hx9)<|sV (.ptr 80 7)<|sS 80 (.var [.d (.int .i64 (IntKind.wrap .i64 ((1000000000000 : Int) + (IntKind.wrap .i64 ((1000 : Int) * x1.1))))), .d (.int .i64 (IntKind.wrap .i64 ((IntKind.wrap .i64 ((1000000000000 : Int) + (IntKind.wrap .i64 ((1000 : Int) * x1.1)))) + (IntKind.wrap .i64 ((1000 : Int) * (IntKind.wrap .i64 ((1 : Int) + x3.1))))))), .d (.int .i64 x2.1.fNum), .d (.int .i64 x2.1.fDen), .d (.int .i64 ((T_api_Position.mk x4.1 x5.1 x6.1).fX)), .d (.int .i64 ((T_api_Position.mk x4.1 x5.1 x6.1).fY)), .d (.int .i64 ((T_api_Position.mk x4.1 x5.1 x6.1).fZ)), .ref 544 0])<|sN<|gS rfl rfl<|sV (.agg [.d (.int .i64 (IntKind.wrap .i64 ((1000000000000 : Int) + (IntKind.wrap .i64 ((1000 : Int) * x1.1))))), .d (.int .i64 (IntKind.wrap .i64 ((IntKind.wrap .i64 ((1000000000000 : Int) + (IntKind.wrap .i64 ((1000 : Int) * x1.1)))) + (IntKind.wrap .i64 ((1000 : Int) * (IntKind.wrap .i64 ((1 : Int) + x3.1))))))), .d (.int .i64 x2.1.fNum), .d (.int .i64 x2.1.fDen), .d (.int .i64 ((T_api_Position.mk x4.1 x5.1 x6.1).fX)), .d (.int .i64 ((T_api_Position.mk x4.1 x5.1 x6.1).fY)), .d (.int .i64 ((T_api_Position.mk x4.1 x5.1 x6.1).fZ)), .ref 544 0])<|sS 32 (.var [.d (.int .i64 (IntKind.wrap .i64 ((1000000000000 : Int) + (IntKind.wrap .i64 ((1000 : Int) * x1.1))))), .d (.int .i64 (IntKind.wrap .i64 ((IntKind.wrap .i64 ((1000000000000 : Int) + (IntKind.wrap .i64 ((1000 : Int) * x1.1)))) + (IntKind.wrap .i64 ((1000 : Int) * (IntKind.wrap .i64 ((1 : Int) + x3.1))))))), .d (.int .i64 x2.1.fNum), .d (.int .i64 x2.1.fDen), .d (.int .i64 ((T_api_Position.mk x4.1 x5.1 x6.1).fX)), .d (.int .i64 ((T_api_Position.mk x4.1 x5.1 x6.1).fY)), .d (.int .i64 ((T_api_Position.mk x4.1 x5.1 x6.1).fZ)), .ref 544 0])<|sN<|qR ?_
  obtain rfl:=oI h
  exact qD
 refine sN<|cF<|qK<|gS rfl rfl<|sV (.agg [.d (.int .i64 (IntKind.wrap .i64 ((1000000000000 : Int) + (IntKind.wrap .i64 ((1000 : Int) * x1.1))))), .d (.int .i64 (IntKind.wrap .i64 ((IntKind.wrap .i64 ((1000000000000 : Int) + (IntKind.wrap .i64 ((1000 : Int) * x1.1)))) + (IntKind.wrap .i64 ((1000 : Int) * (IntKind.wrap .i64 ((1 : Int) + x3.1))))))), .d (.int .i64 x2.1.fNum), .d (.int .i64 x2.1.fDen), .d (.int .i64 ((T_api_Position.mk x4.1 x5.1 x6.1).fX)), .d (.int .i64 ((T_api_Position.mk x4.1 x5.1 x6.1).fY)), .d (.int .i64 ((T_api_Position.mk x4.1 x5.1 x6.1).fZ)), .nils])<|sS 32 (.var [.d (.int .i64 (IntKind.wrap .i64 ((1000000000000 : Int) + (IntKind.wrap .i64 ((1000 : Int) * x1.1))))), .d (.int .i64 (IntKind.wrap .i64 ((IntKind.wrap .i64 ((1000000000000 : Int) + (IntKind.wrap .i64 ((1000 : Int) * x1.1)))) + (IntKind.wrap .i64 ((1000 : Int) * (IntKind.wrap .i64 ((1 : Int) + x3.1))))))), .d (.int .i64 x2.1.fNum), .d (.int .i64 x2.1.fDen), .d (.int .i64 ((T_api_Position.mk x4.1 x5.1 x6.1).fX)), .d (.int .i64 ((T_api_Position.mk x4.1 x5.1 x6.1).fY)), .d (.int .i64 ((T_api_Position.mk x4.1 x5.1 x6.1).fZ)), .nils])<|sN<|qR ?_
 obtain rfl:=oI h
 exact qD
theorem ref18_Copy_ev {a0 : T_api_Response} {r : T_api_Response} (h : ref18_Copy a0 = some r) : EvP prog hints ext 98 [.d (T_api_Response.pd a0)] [] (.agg [.ref 0 0], [.arr 0 92 (r.fStages.map T_api_Stage.pd)]) := by
 refine Ev.body rfl Tryz.func98 rfl (by kernel_rfl)<|gS rfl rfl<|sB (.ptr 16 0) 16 (.var [.d (.lst (a0.fStages.map T_api_Stage.pd))])<|sB (.ptr 32 0) 32 (.var [.nils])<|sN<|gS rfl rfl<|sB (.ptr 48 0) 48 (.var [.nils])<|sN<|qS<|gS rfl rfl<|sV (.d (.int .i64 0))<|sN<|bE h fun o10 ho10 h => WC.block (WC.loop (WL.ofLoop ho10 (fun s R' B' => ghosts prog 0 (A R' B') (hints.at_ 98 3) = some (A [(1, .ptr 16 0), (2, .ptr 32 0), (3, .ptr 48 0), (4, .d (.int .i64 s.1))] [(16, .var [.d (.lst (a0.fStages.map T_api_Stage.pd))]), (32, .var [.nils]), (48, .var [.ref 416 0]), (416, .arr 0 92 (s.2.map T_api_Stage.pd))])) (fun o e R' B' => e = .exit 0 ∧ ghosts prog 0 (A R' B') (hints.at_ 98 8) = some (A [(2, .ptr 32 0), (3, .ptr 48 0)] [(32, .var [.nils]), (48, .var [.ref 416 0]), (416, .arr 0 92 (o.map T_api_Stage.pd))])) rfl ?_ ?_))
 ·rintro ⟨s1, s2⟩ R' B' q4 hI h
  refine qS<|gS rfl hI<|sM rfl<|sV (.ptr 16 0)<|sL rfl<|sE (.d (.int .i64 (a0.fStages.length : Int))) (lenMap _ _)<|sF h (fun h => ?_) fun h => ?_
  ·refine sN<|cT<|qK<|qS<|qB<|gS rfl rfl<|sV (.ptr 16 0)<|sL rfl<|sM rfl<|bE h fun x6 hx6 h => WO.elemG hx6 rfl rfl rfl rfl rfl rfl rfl rfl rfl<|sV (.d (T_api_Stage.pd x6))<|sB (.ptr 80 0) 80 (.var [.d (.int .i64 0), .d (.int .i64 0), .d (.int .i64 0), .d (.int .i64 0), .d (.int .i64 0), .d (.int .i64 0), .d (.int .i64 0), .nils, .d (.int .i64 0), .d (.int .i64 0)])<|sS 80 (.var [.d (.int .i64 x6.fKind), .d (.int .i64 x6.fNum.a0), .d (.int .i64 x6.fNum.a1), .d (.int .i64 x6.fNum.a2), .d (.int .i64 x6.fDen.a0), .d (.int .i64 x6.fDen.a1), .d (.int .i64 x6.fDen.a2), .d (.lst (x6.fTaps.map (PD.int .i64))), .d (.int .i64 x6.fFactor), .d (.int .i64 x6.fShift)])<|sN ?_
   refine gS rfl rfl<|sV (.ptr 80 7)<|sL rfl<|bE h fun x7 hx7 h => WO.appN hx7 (fun _ => rfl) rfl rfl rfl rfl rfl rfl rfl rfl rfl rfl rfl rfl rfl rfl<|sV (.ptr 80 7)<|sS 80 (.var [.d (.int .i64 x6.fKind), .d (.int .i64 x6.fNum.a0), .d (.int .i64 x6.fNum.a1), .d (.int .i64 x6.fNum.a2), .d (.int .i64 x6.fDen.a0), .d (.int .i64 x6.fDen.a1), .d (.int .i64 x6.fDen.a2), .ref 320 0, .d (.int .i64 x6.fFactor), .d (.int .i64 x6.fShift)])<|sN<|WC.region rfl rfl<|sV (.ptr 48 0)<|sL rfl<|sV (.agg [.d (.int .i64 x6.fKind), .d (.int .i64 x6.fNum.a0), .d (.int .i64 x6.fNum.a1), .d (.int .i64 x6.fNum.a2), .d (.int .i64 x6.fDen.a0), .d (.int .i64 x6.fDen.a1), .d (.int .i64 x6.fDen.a2), .ref 320 0, .d (.int .i64 x6.fFactor), .d (.int .i64 x6.fShift)])<|sB (.d (.lst [T_api_Stage.pd (T_api_Stage.mk x6.fKind x6.fNum x6.fDen x7 x6.fFactor x6.fShift)])) 320 .dead<|bE h fun x8 hx8 h => WO.appR hx8 (fun _ => rfl) rfl rfl rfl rfl rfl rfl rfl rfl rfl rfl rfl rfl rfl rfl ?_
   refine sV (.ptr 48 0)<|sS 48 (.var [.ref 416 1])<|sN<|WC.region rfl rfl<|sM rfl<|sV (.d (.int .i64 (IntKind.wrap .i64 (s1 + (1 : Int)))))<|sA rfl<|sN ?_
   obtain rfl:=oI h
   exact ⟨rfl, rfl⟩
  refine sN<|cF<|qX ?_
  obtain rfl:=oI h
  exact ⟨(fun he => by cases he), rfl, rfl⟩
 intro e R' B' he hq
 obtain ⟨rfl, hI⟩ := hq
 refine qE<|gS rfl hI<|sV (.agg [.ref 416 0])<|sS 32 (.var [.ref 416 0])<|sN<|qR ?_
 obtain rfl:=oI h
 exact qD
theorem ref19_CopyEpoch_ev {a0 : T_api_Epoch} {r : T_api_Epoch} (h : ref19_CopyEpoch a0 = some r) : EvP prog hints ext 64 [.d (T_api_Epoch.pd a0)] [] (.agg [.d (.int .i64 r.fFrom), .d (.int .i64 r.fTo), .d (.int .i64 r.fRate.fNum), .d (.int .i64 r.fRate.fDen), .d (.int .i64 r.fPosition.fX), .d (.int .i64 r.fPosition.fY), .d (.int .i64 r.fPosition.fZ), .ref 0 0], [.arr 0 92 (r.fResponse.fStages.map T_api_Stage.pd)]) := by
 refine Ev.body rfl Tryz.func64 rfl (by kernel_rfl)<|gS rfl rfl<|sB (.ptr 16 0) 16 (.var [.d (.int .i64 a0.fFrom), .d (.int .i64 a0.fTo), .d (.int .i64 a0.fRate.fNum), .d (.int .i64 a0.fRate.fDen), .d (.int .i64 a0.fPosition.fX), .d (.int .i64 a0.fPosition.fY), .d (.int .i64 a0.fPosition.fZ), .d (.lst (a0.fResponse.fStages.map T_api_Stage.pd))])<|sB (.ptr 32 0) 32 (.var [.d (.int .i64 0), .d (.int .i64 0), .d (.int .i64 0), .d (.int .i64 0), .d (.int .i64 0), .d (.int .i64 0), .d (.int .i64 0), .nils])<|sN<|gS rfl rfl<|sV (.ptr 16 7)<|sV (.d (T_api_Response.pd a0.fResponse))<|bE h fun x1 hx1 h => cR (.agg [.ref 80 0]) [(80, .arr 0 92 (x1.fStages.map T_api_Stage.pd))] (ref18_Copy_ev hx1)<|sV (.ptr 16 7)<|sS 16 (.var [.d (.int .i64 a0.fFrom), .d (.int .i64 a0.fTo), .d (.int .i64 a0.fRate.fNum), .d (.int .i64 a0.fRate.fDen), .d (.int .i64 a0.fPosition.fX), .d (.int .i64 a0.fPosition.fY), .d (.int .i64 a0.fPosition.fZ), .ref 80 0])<|sN<|gS rfl rfl<|sV (.agg [.d (.int .i64 a0.fFrom), .d (.int .i64 a0.fTo), .d (.int .i64 a0.fRate.fNum), .d (.int .i64 a0.fRate.fDen), .d (.int .i64 a0.fPosition.fX), .d (.int .i64 a0.fPosition.fY), .d (.int .i64 a0.fPosition.fZ), .ref 80 0]) ?_
 refine sS 32 (.var [.d (.int .i64 a0.fFrom), .d (.int .i64 a0.fTo), .d (.int .i64 a0.fRate.fNum), .d (.int .i64 a0.fRate.fDen), .d (.int .i64 a0.fPosition.fX), .d (.int .i64 a0.fPosition.fY), .d (.int .i64 a0.fPosition.fZ), .ref 80 0])<|sN<|qR ?_
 obtain rfl:=oI h
 exact qD
theorem Dice_Change_ev {a1 : T_api_Inventory} {d0 : T_seismonetmade_Dice} {r : T_api_Change × T_seismonetmade_Dice} (h : Dice_Change a1 d0 = some r) : EvP prog hints ext 34 [.ptr 0 0, .d (T_api_Inventory.pd a1)] [.var [.d (.lst (d0.fL.map (PD.int .i64))), .d (.int .i64 d0.fAt)]] (.d (T_api_Change.pd r.1), [.var [.d (.lst (r.2.fL.map (PD.int .i64))), .d (.int .i64 r.2.fAt)]]) := by
 refine Ev.body rfl Tryz.func34 rfl (by kernel_rfl)<|gS rfl rfl<|sB (.ptr 48 0) 48 (.var [.d (.lst (a1.fChannels.map T_api_Channel.pd))])<|sB (.ptr 64 0) 64 (.var [.d (.int .i64 0), .d (.str []), .d (.str []), .d (.str []), .d (.str []), .d (.int .i64 0), .d (.int .i64 0), .d (.int .i64 0), .d (.int .i64 0), .d (.int .i64 0), .d (.int .i64 0), .d (.int .i64 0), .d (.int .i64 0), .nils])<|sN<|gS rfl rfl<|sM rfl<|sV (.d (.lst ([0, 0, 1, 2].map (PD.int .i64))))<|bE h fun x1 hx1 h => cR (.d (.int .i64 x1.1)) [(0, .var [.d (.lst (x1.2.fL.map (PD.int .i64))), .d (.int .i64 x1.2.fAt)])] (Dice_Pick_ev hx1)<|sM rfl<|bE h fun x2 hx2 h => cR (.d (T_api_SourceID.pd x2.1)) [(0, .var [.d (.lst (x2.2.fL.map (PD.int .i64))), .d (.int .i64 x2.2.fAt)])] (Dice_Source_ev hx2)<|sV (.agg [.d (.int .i64 x1.1), .d (.str x2.1.fNetwork), .d (.str x2.1.fStation), .d (.str x2.1.fLocation), .d (.str x2.1.fChannel), .d (.int .i64 0), .d (.int .i64 0), .d (.int .i64 0), .d (.int .i64 0), .d (.int .i64 0), .d (.int .i64 0), .d (.int .i64 0), .d (.int .i64 0), .nils])<|sB (.ptr 80 0) 80 (.var [.d (.int .i64 0), .d (.str []), .d (.str []), .d (.str []), .d (.str []), .d (.int .i64 0), .d (.int .i64 0), .d (.int .i64 0), .d (.int .i64 0), .d (.int .i64 0), .d (.int .i64 0), .d (.int .i64 0), .d (.int .i64 0), .nils]) ?_
 refine sS 80 (.var [.d (.int .i64 x1.1), .d (.str x2.1.fNetwork), .d (.str x2.1.fStation), .d (.str x2.1.fLocation), .d (.str x2.1.fChannel), .d (.int .i64 0), .d (.int .i64 0), .d (.int .i64 0), .d (.int .i64 0), .d (.int .i64 0), .d (.int .i64 0), .d (.int .i64 0), .d (.int .i64 0), .nils])<|sN<|WC.join (α := (List Int) × Int × Int × Int × Int × Int × Int × Int × Int × Int × (List T_api_Stage)) (fun x R' B' => ghosts prog 1 (A R' B') (hints.at_ 34 5) = some (A [(0, .ptr 0 0), (3, .ptr 48 0), (4, .ptr 64 0), (5, .ptr 80 0)] [(0, .var [.d (.lst (x.1.map (PD.int .i64))), .d (.int .i64 x.2.1)]), (48, .var [.d (.lst (a1.fChannels.map T_api_Channel.pd))]), (64, .var [.d (.int .i64 0), .d (.str []), .d (.str []), .d (.str []), .d (.str []), .d (.int .i64 0), .d (.int .i64 0), .d (.int .i64 0), .d (.int .i64 0), .d (.int .i64 0), .d (.int .i64 0), .d (.int .i64 0), .d (.int .i64 0), .nils]), (80, .var [.d (.int .i64 x1.1), .d (.str x2.1.fNetwork), .d (.str x2.1.fStation), .d (.str x2.1.fLocation), .d (.str x2.1.fChannel), .d (.int .i64 x.2.2.1), .d (.int .i64 x.2.2.2.1), .d (.int .i64 x.2.2.2.2.1), .d (.int .i64 x.2.2.2.2.2.1), .d (.int .i64 x.2.2.2.2.2.2.1), .d (.int .i64 x.2.2.2.2.2.2.2.1), .d (.int .i64 x.2.2.2.2.2.2.2.2.1), .d (.int .i64 x.2.2.2.2.2.2.2.2.2.1), .d (.lst (x.2.2.2.2.2.2.2.2.2.2.map T_api_Stage.pd))])])) (fun x => Dice_Change_k42 a1 x1 x2 x.1 x.2.1 x.2.2.1 x.2.2.2.1 x.2.2.2.2.1 x.2.2.2.2.2.1 x.2.2.2.2.2.2.1 x.2.2.2.2.2.2.2.1 x.2.2.2.2.2.2.2.2.1 x.2.2.2.2.2.2.2.2.2.1 x.2.2.2.2.2.2.2.2.2.2 = some r) ?_ ?_
 ·refine gS rfl rfl<|sV (.ptr 80 0)<|sL rfl<|sF h (fun h => ?_) fun h => ?_
  ·refine sN<|cT<|gS rfl rfl<|sM rfl<|bE h fun x44 hx44 h => cR (.d (T_api_Epoch.pd x44.1)) [(0, .var [.d (.lst (x44.2.fL.map (PD.int .i64))), .d (.int .i64 x44.2.fAt)])] (Dice_Epoch_ev hx44)<|sV (.ptr 80 6)<|sS 80 (.var [.d (.int .i64 x1.1), .d (.str x2.1.fNetwork), .d (.str x2.1.fStation), .d (.str x2.1.fLocation), .d (.str x2.1.fChannel), .d (.int .i64 0), .d (.int .i64 x44.1.fFrom), .d (.int .i64 x44.1.fTo), .d (.int .i64 x44.1.fRate.fNum), .d (.int .i64 x44.1.fRate.fDen), .d (.int .i64 x44.1.fPosition.fX), .d (.int .i64 x44.1.fPosition.fY), .d (.int .i64 x44.1.fPosition.fZ), .d (.lst (x44.1.fResponse.fStages.map T_api_Stage.pd))])<|sN<|WC.region rfl rfl<|sV (.ptr 80 6)<|sV (.ptr 80 6)<|sL rfl<|sV (.ptr 80 5)<|sS 80 (.var [.d (.int .i64 x1.1), .d (.str x2.1.fNetwork), .d (.str x2.1.fStation), .d (.str x2.1.fLocation), .d (.str x2.1.fChannel), .d (.int .i64 x44.1.fFrom), .d (.int .i64 x44.1.fFrom), .d (.int .i64 x44.1.fTo), .d (.int .i64 x44.1.fRate.fNum), .d (.int .i64 x44.1.fRate.fDen), .d (.int .i64 x44.1.fPosition.fX), .d (.int .i64 x44.1.fPosition.fY), .d (.int .i64 x44.1.fPosition.fZ), .d (.lst (x44.1.fResponse.fStages.map T_api_Stage.pd))]) ?_
   exact sN<|⟨(x44.2.fL, x44.2.fAt, x44.1.fFrom, x44.1.fFrom, x44.1.fTo, x44.1.fRate.fNum, x44.1.fRate.fDen, x44.1.fPosition.fX, x44.1.fPosition.fY, x44.1.fPosition.fZ, x44.1.fResponse.fStages), rfl, h⟩
  exact sN<|cF<|qK<|⟨(x2.2.fL, x2.2.fAt, 0, 0, 0, 0, 0, 0, 0, 0, []), rfl, h⟩
 rintro ⟨j13, j14, j15, j16, j17, j18, j19, j20, j21, j22, j23⟩ R' B' hI h
 refine qS<|gS rfl hI<|sV (.ptr 48 0)<|sL rfl<|sE (.d (.int .i64 (a1.fChannels.length : Int))) (lenMap _ _)<|sA rfl<|sN<|gS rfl rfl<|sM rfl<|sF h (fun h => ?_) fun h => ?_
 ·refine sM rfl<|sM rfl<|bE h fun x25 hx25 h => cR (.d (.int .i64 x25.1)) [(0, .var [.d (.lst (x25.2.fL.map (PD.int .i64))), .d (.int .i64 x25.2.fAt)])] (Dice_Next_ev hx25)<|sV (.d (.bool (decide (x25.1 > (0 : Int)))))<|sF h (fun h => ?_) fun h => ?_
  ·refine sN<|cT<|WC.regionDSeq rfl rfl<|sV (.ptr 48 0)<|sL rfl<|sM rfl<|sM rfl<|bE h fun x27 hx27 h => cR (.d (.int .i64 x27.1)) [(0, .var [.d (.lst (x27.2.fL.map (PD.int .i64))), .d (.int .i64 x27.2.fAt)])] (Dice_Next_ev hx27)<|bE h fun x28 hx28 h => WO.elemG hx28 rfl rfl rfl rfl rfl rfl rfl rfl rfl<|sV (.d (T_api_Channel.pd x28))<|sB (.ptr 112 0) 112 (.var [.d (.str []), .d (.str []), .d (.str []), .d (.str []), .nils])<|sS 112 (.var [.d (.str x28.fSource.fNetwork), .d (.str x28.fSource.fStation), .d (.str x28.fSource.fLocation), .d (.str x28.fSource.fChannel), .d (.lst (x28.fEpochs.map T_api_Epoch.pd))]) ?_
   refine sN<|sO<|gS rfl rfl<|sV (.ptr 112 0)<|sV (.d (T_api_SourceID.pd x28.fSource))<|sV (.ptr 80 1)<|sS 80 (.var [.d (.int .i64 x1.1), .d (.str x28.fSource.fNetwork), .d (.str x28.fSource.fStation), .d (.str x28.fSource.fLocation), .d (.str x28.fSource.fChannel), .d (.int .i64 j15), .d (.int .i64 j16), .d (.int .i64 j17), .d (.int .i64 j18), .d (.int .i64 j19), .d (.int .i64 j20), .d (.int .i64 j21), .d (.int .i64 j22), .d (.lst (j23.map T_api_Stage.pd))])<|sN<|gS rfl rfl<|sV (.ptr 80 0)<|sL rfl<|sF h (fun h => ?_) fun h => ?_
   ·refine sN<|cT<|WC.regionDSeq rfl rfl<|sV (.ptr 112 4)<|sL rfl<|sM rfl<|sV (.ptr 112 4)<|sL rfl<|sE (.d (.int .i64 (x28.fEpochs.length : Int))) (lenMap _ _)<|bE h fun x30 hx30 h => cR (.d (.int .i64 x30.1)) [(0, .var [.d (.lst (x30.2.fL.map (PD.int .i64))), .d (.int .i64 x30.2.fAt)])] (Dice_Next_ev hx30)<|bE h fun x31 hx31 h => WO.elemG hx31 rfl rfl rfl rfl rfl rfl rfl rfl rfl<|sV (.d (T_api_Epoch.pd x31))<|sB (.ptr 128 0) 128 (.var [.d (.int .i64 0), .d (.int .i64 0), .d (.int .i64 0), .d (.int .i64 0), .d (.int .i64 0), .d (.int .i64 0), .d (.int .i64 0), .nils]) ?_
    refine sS 128 (.var [.d (.int .i64 x31.fFrom), .d (.int .i64 x31.fTo), .d (.int .i64 x31.fRate.fNum), .d (.int .i64 x31.fRate.fDen), .d (.int .i64 x31.fPosition.fX), .d (.int .i64 x31.fPosition.fY), .d (.int .i64 x31.fPosition.fZ), .d (.lst (x31.fResponse.fStages.map T_api_Stage.pd))]) ?_
    refine sN<|sO<|gS rfl rfl<|sV (.ptr 128 0)<|sL rfl<|sV (.ptr 80 5)<|sS 80 (.var [.d (.int .i64 x1.1), .d (.str x28.fSource.fNetwork), .d (.str x28.fSource.fStation), .d (.str x28.fSource.fLocation), .d (.str x28.fSource.fChannel), .d (.int .i64 x31.fFrom), .d (.int .i64 j16), .d (.int .i64 j17), .d (.int .i64 j18), .d (.int .i64 j19), .d (.int .i64 j20), .d (.int .i64 j21), .d (.int .i64 j22), .d (.lst (j23.map T_api_Stage.pd))])<|sN<|gS rfl rfl<|sV (.ptr 80 0)<|sL rfl<|sF h (fun h => ?_) fun h => ?_
    ·refine sM rfl<|sM rfl<|bE h fun x33 hx33 h => cR (.d (.int .i64 x33.1)) [(0, .var [.d (.lst (x33.2.fL.map (PD.int .i64))), .d (.int .i64 x33.2.fAt)])] (Dice_Next_ev hx33)<|sV (.d (.bool (decide (x33.1 > (0 : Int)))))<|sF h (fun h => ?_) fun h => ?_
     ·refine sN<|cT<|gS rfl rfl<|sV (.d (T_api_Epoch.pd x31))<|bE h fun x35 hx35 h => cR (.agg [.d (.int .i64 x35.fFrom), .d (.int .i64 x35.fTo), .d (.int .i64 x35.fRate.fNum), .d (.int .i64 x35.fRate.fDen), .d (.int .i64 x35.fPosition.fX), .d (.int .i64 x35.fPosition.fY), .d (.int .i64 x35.fPosition.fZ), .ref 1120 0]) [(1120, .arr 0 92 (x35.fResponse.fStages.map T_api_Stage.pd))] (ref19_CopyEpoch_ev hx35)<|sB (.ptr 144 0) 144 (.var [.d (.int .i64 0), .d (.int .i64 0), .d (.int .i64 0), .d (.int .i64 0), .d (.int .i64 0), .d (.int .i64 0), .d (.int .i64 0), .nils])<|sS 144 (.var [.d (.int .i64 x35.fFrom), .d (.int .i64 x35.fTo), .d (.int .i64 x35.fRate.fNum), .d (.int .i64 x35.fRate.fDen), .d (.int .i64 x35.fPosition.fX), .d (.int .i64 x35.fPosition.fY), .d (.int .i64 x35.fPosition.fZ), .ref 1120 0])<|sN<|qS<|gS rfl rfl<|sM rfl<|bE h fun x36 hx36 h => cR (.d (.int .i64 x36.1)) [(0, .var [.d (.lst (x36.2.fL.map (PD.int .i64))), .d (.int .i64 x36.2.fAt)])] (Dice_Next_ev hx36)<|sN ?_
      refine qB<|gS rfl rfl<|sF h (fun h => ?_) fun h => ?_
      ·refine sA rfl<|sN<|cT<|WC.regionD rfl rfl<|sV (.ptr 144 1)<|sL rfl<|sM rfl<|sV (.d (.lst ([-1, 500, 3000].map (PD.int .i64))))<|bE h fun x38 hx38 h => cR (.d (.int .i64 x38.1)) [(0, .var [.d (.lst (x38.2.fL.map (PD.int .i64))), .d (.int .i64 x38.2.fAt)])] (Dice_Pick_ev hx38)<|sV (.d (.int .i64 (IntKind.wrap .i64 (x35.fTo + x38.1))))<|sV (.ptr 144 1)<|sS 144 (.var [.d (.int .i64 x35.fFrom), .d (.int .i64 (IntKind.wrap .i64 (x35.fTo + x38.1))), .d (.int .i64 x35.fRate.fNum), .d (.int .i64 x35.fRate.fDen), .d (.int .i64 x35.fPosition.fX), .d (.int .i64 x35.fPosition.fY), .d (.int .i64 x35.fPosition.fZ), .ref 1120 0]) ?_
       refine sN<|sO<|WC.region rfl rfl<|sV (.agg [.d (.int .i64 x35.fFrom), .d (.int .i64 (IntKind.wrap .i64 (x35.fTo + x38.1))), .d (.int .i64 x35.fRate.fNum), .d (.int .i64 x35.fRate.fDen), .d (.int .i64 x35.fPosition.fX), .d (.int .i64 x35.fPosition.fY), .d (.int .i64 x35.fPosition.fZ), .ref 1120 0])<|sV (.ptr 80 6)<|sS 80 (.var [.d (.int .i64 x1.1), .d (.str x28.fSource.fNetwork), .d (.str x28.fSource.fStation), .d (.str x28.fSource.fLocation), .d (.str x28.fSource.fChannel), .d (.int .i64 x31.fFrom), .d (.int .i64 x35.fFrom), .d (.int .i64 (IntKind.wrap .i64 (x35.fTo + x38.1))), .d (.int .i64 x35.fRate.fNum), .d (.int .i64 x35.fRate.fDen), .d (.int .i64 x35.fPosition.fX), .d (.int .i64 x35.fPosition.fY), .d (.int .i64 x35.fPosition.fZ), .ref 1120 0])<|sN<|gS rfl rfl<|sV (.agg [.d (.int .i64 x1.1), .d (.str x28.fSource.fNetwork), .d (.str x28.fSource.fStation), .d (.str x28.fSource.fLocation), .d (.str x28.fSource.fChannel), .d (.int .i64 x31.fFrom), .d (.int .i64 x35.fFrom), .d (.int .i64 (IntKind.wrap .i64 (x35.fTo + x38.1))), .d (.int .i64 x35.fRate.fNum), .d (.int .i64 x35.fRate.fDen), .d (.int .i64 x35.fPosition.fX), .d (.int .i64 x35.fPosition.fY), .d (.int .i64 x35.fPosition.fZ), .ref 1120 0])<|sS 64 (.var [.d (.int .i64 x1.1), .d (.str x28.fSource.fNetwork), .d (.str x28.fSource.fStation), .d (.str x28.fSource.fLocation), .d (.str x28.fSource.fChannel), .d (.int .i64 x31.fFrom), .d (.int .i64 x35.fFrom), .d (.int .i64 (IntKind.wrap .i64 (x35.fTo + x38.1))), .d (.int .i64 x35.fRate.fNum), .d (.int .i64 x35.fRate.fDen), .d (.int .i64 x35.fPosition.fX), .d (.int .i64 x35.fPosition.fY), .d (.int .i64 x35.fPosition.fZ), .ref 1120 0])<|sN<|qR ?_
       obtain rfl:=oI h
       exact qD
      refine sA rfl<|sN<|cF<|gS rfl rfl<|sF h (fun h => ?_) fun h => ?_
      ·refine sA rfl<|sN<|cT<|WC.region rfl rfl<|sV (.ptr 144 4)<|sV (.ptr 144 4)<|sS 144 (.var [.d (.int .i64 x35.fFrom), .d (.int .i64 x35.fTo), .d (.int .i64 x35.fRate.fNum), .d (.int .i64 x35.fRate.fDen), .d (.int .i64 77), .d (.int .i64 x35.fPosition.fY), .d (.int .i64 x35.fPosition.fZ), .ref 1120 0])<|sN<|WC.region rfl rfl<|sV (.agg [.d (.int .i64 x35.fFrom), .d (.int .i64 x35.fTo), .d (.int .i64 x35.fRate.fNum), .d (.int .i64 x35.fRate.fDen), .d (.int .i64 77), .d (.int .i64 x35.fPosition.fY), .d (.int .i64 x35.fPosition.fZ), .ref 1120 0])<|sV (.ptr 80 6)<|sS 80 (.var [.d (.int .i64 x1.1), .d (.str x28.fSource.fNetwork), .d (.str x28.fSource.fStation), .d (.str x28.fSource.fLocation), .d (.str x28.fSource.fChannel), .d (.int .i64 x31.fFrom), .d (.int .i64 x35.fFrom), .d (.int .i64 x35.fTo), .d (.int .i64 x35.fRate.fNum), .d (.int .i64 x35.fRate.fDen), .d (.int .i64 77), .d (.int .i64 x35.fPosition.fY), .d (.int .i64 x35.fPosition.fZ), .ref 1120 0])<|sN<|gS rfl rfl<|sV (.agg [.d (.int .i64 x1.1), .d (.str x28.fSource.fNetwork), .d (.str x28.fSource.fStation), .d (.str x28.fSource.fLocation), .d (.str x28.fSource.fChannel), .d (.int .i64 x31.fFrom), .d (.int .i64 x35.fFrom), .d (.int .i64 x35.fTo), .d (.int .i64 x35.fRate.fNum), .d (.int .i64 x35.fRate.fDen), .d (.int .i64 77), .d (.int .i64 x35.fPosition.fY), .d (.int .i64 x35.fPosition.fZ), .ref 1120 0]) ?_
       refine sS 64 (.var [.d (.int .i64 x1.1), .d (.str x28.fSource.fNetwork), .d (.str x28.fSource.fStation), .d (.str x28.fSource.fLocation), .d (.str x28.fSource.fChannel), .d (.int .i64 x31.fFrom), .d (.int .i64 x35.fFrom), .d (.int .i64 x35.fTo), .d (.int .i64 x35.fRate.fNum), .d (.int .i64 x35.fRate.fDen), .d (.int .i64 77), .d (.int .i64 x35.fPosition.fY), .d (.int .i64 x35.fPosition.fZ), .ref 1120 0])<|sN<|qR ?_
       obtain rfl:=oI h
       exact qD
      refine sA rfl<|sN<|cF<|gS rfl rfl<|sF h (fun h => ?_) fun h => ?_
      ·refine sA rfl<|sN<|cT<|WC.region rfl rfl<|sM rfl<|bE h fun x41 hx41 h => cR (.agg [.ref 1424 0]) [(0, .var [.d (.lst (x41.2.fL.map (PD.int .i64))), .d (.int .i64 x41.2.fAt)]), (1424, .arr 0 92 (x41.1.fStages.map T_api_Stage.pd))] (Dice_Response_ev hx41)<|sV (.ptr 144 7)<|sS 144 (.var [.d (.int .i64 x35.fFrom), .d (.int .i64 x35.fTo), .d (.int .i64 x35.fRate.fNum), .d (.int .i64 x35.fRate.fDen), .d (.int .i64 x35.fPosition.fX), .d (.int .i64 x35.fPosition.fY), .d (.int .i64 x35.fPosition.fZ), .ref 1424 0])<|sN<|WC.region rfl rfl<|sV (.agg [.d (.int .i64 x35.fFrom), .d (.int .i64 x35.fTo), .d (.int .i64 x35.fRate.fNum), .d (.int .i64 x35.fRate.fDen), .d (.int .i64 x35.fPosition.fX), .d (.int .i64 x35.fPosition.fY), .d (.int .i64 x35.fPosition.fZ), .ref 1424 0])<|sV (.ptr 80 6)<|sS 80 (.var [.d (.int .i64 x1.1), .d (.str x28.fSource.fNetwork), .d (.str x28.fSource.fStation), .d (.str x28.fSource.fLocation), .d (.str x28.fSource.fChannel), .d (.int .i64 x31.fFrom), .d (.int .i64 x35.fFrom), .d (.int .i64 x35.fTo), .d (.int .i64 x35.fRate.fNum), .d (.int .i64 x35.fRate.fDen), .d (.int .i64 x35.fPosition.fX), .d (.int .i64 x35.fPosition.fY), .d (.int .i64 x35.fPosition.fZ), .ref 1424 0])<|sN ?_
       refine gS rfl rfl<|sV (.agg [.d (.int .i64 x1.1), .d (.str x28.fSource.fNetwork), .d (.str x28.fSource.fStation), .d (.str x28.fSource.fLocation), .d (.str x28.fSource.fChannel), .d (.int .i64 x31.fFrom), .d (.int .i64 x35.fFrom), .d (.int .i64 x35.fTo), .d (.int .i64 x35.fRate.fNum), .d (.int .i64 x35.fRate.fDen), .d (.int .i64 x35.fPosition.fX), .d (.int .i64 x35.fPosition.fY), .d (.int .i64 x35.fPosition.fZ), .ref 1424 0])<|sS 64 (.var [.d (.int .i64 x1.1), .d (.str x28.fSource.fNetwork), .d (.str x28.fSource.fStation), .d (.str x28.fSource.fLocation), .d (.str x28.fSource.fChannel), .d (.int .i64 x31.fFrom), .d (.int .i64 x35.fFrom), .d (.int .i64 x35.fTo), .d (.int .i64 x35.fRate.fNum), .d (.int .i64 x35.fRate.fDen), .d (.int .i64 x35.fPosition.fX), .d (.int .i64 x35.fPosition.fY), .d (.int .i64 x35.fPosition.fZ), .ref 1424 0])<|sN<|qR ?_
       obtain rfl:=oI h
       exact qD
      refine sA rfl<|sN<|cF<|qK<|WC.region rfl rfl<|sV (.agg [.d (.int .i64 x35.fFrom), .d (.int .i64 x35.fTo), .d (.int .i64 x35.fRate.fNum), .d (.int .i64 x35.fRate.fDen), .d (.int .i64 x35.fPosition.fX), .d (.int .i64 x35.fPosition.fY), .d (.int .i64 x35.fPosition.fZ), .ref 1120 0])<|sV (.ptr 80 6)<|sS 80 (.var [.d (.int .i64 x1.1), .d (.str x28.fSource.fNetwork), .d (.str x28.fSource.fStation), .d (.str x28.fSource.fLocation), .d (.str x28.fSource.fChannel), .d (.int .i64 x31.fFrom), .d (.int .i64 x35.fFrom), .d (.int .i64 x35.fTo), .d (.int .i64 x35.fRate.fNum), .d (.int .i64 x35.fRate.fDen), .d (.int .i64 x35.fPosition.fX), .d (.int .i64 x35.fPosition.fY), .d (.int .i64 x35.fPosition.fZ), .ref 1120 0])<|sN<|gS rfl rfl<|sV (.agg [.d (.int .i64 x1.1), .d (.str x28.fSource.fNetwork), .d (.str x28.fSource.fStation), .d (.str x28.fSource.fLocation), .d (.str x28.fSource.fChannel), .d (.int .i64 x31.fFrom), .d (.int .i64 x35.fFrom), .d (.int .i64 x35.fTo), .d (.int .i64 x35.fRate.fNum), .d (.int .i64 x35.fRate.fDen), .d (.int .i64 x35.fPosition.fX), .d (.int .i64 x35.fPosition.fY), .d (.int .i64 x35.fPosition.fZ), .ref 1120 0])<|sS 64 (.var [.d (.int .i64 x1.1), .d (.str x28.fSource.fNetwork), .d (.str x28.fSource.fStation), .d (.str x28.fSource.fLocation), .d (.str x28.fSource.fChannel), .d (.int .i64 x31.fFrom), .d (.int .i64 x35.fFrom), .d (.int .i64 x35.fTo), .d (.int .i64 x35.fRate.fNum), .d (.int .i64 x35.fRate.fDen), .d (.int .i64 x35.fPosition.fX), .d (.int .i64 x35.fPosition.fY), .d (.int .i64 x35.fPosition.fZ), .ref 1120 0])<|sN<|qR ?_
      obtain rfl:=oI h
      exact qD
     refine sN<|cF<|qK<|gS rfl rfl<|sV (.d (T_api_Change.pd (T_api_Change.mk x1.1 x28.fSource x31.fFrom (T_api_Epoch.mk j16 j17 (T_api_Rate.mk j18 j19) (T_api_Position.mk j20 j21 j22) (T_api_Response.mk j23)))))<|sS 64 (.var [.d (.int .i64 ((T_api_Change.mk x1.1 x28.fSource x31.fFrom (T_api_Epoch.mk j16 j17 (T_api_Rate.mk j18 j19) (T_api_Position.mk j20 j21 j22) (T_api_Response.mk j23))).fKind)), .d (.str (((T_api_Change.mk x1.1 x28.fSource x31.fFrom (T_api_Epoch.mk j16 j17 (T_api_Rate.mk j18 j19) (T_api_Position.mk j20 j21 j22) (T_api_Response.mk j23))).fSource).fNetwork)), .d (.str (((T_api_Change.mk x1.1 x28.fSource x31.fFrom (T_api_Epoch.mk j16 j17 (T_api_Rate.mk j18 j19) (T_api_Position.mk j20 j21 j22) (T_api_Response.mk j23))).fSource).fStation)), .d (.str (((T_api_Change.mk x1.1 x28.fSource x31.fFrom (T_api_Epoch.mk j16 j17 (T_api_Rate.mk j18 j19) (T_api_Position.mk j20 j21 j22) (T_api_Response.mk j23))).fSource).fLocation)), .d (.str (((T_api_Change.mk x1.1 x28.fSource x31.fFrom (T_api_Epoch.mk j16 j17 (T_api_Rate.mk j18 j19) (T_api_Position.mk j20 j21 j22) (T_api_Response.mk j23))).fSource).fChannel)), .d (.int .i64 ((T_api_Change.mk x1.1 x28.fSource x31.fFrom (T_api_Epoch.mk j16 j17 (T_api_Rate.mk j18 j19) (T_api_Position.mk j20 j21 j22) (T_api_Response.mk j23))).fFrom)), .d (.int .i64 (((T_api_Change.mk x1.1 x28.fSource x31.fFrom (T_api_Epoch.mk j16 j17 (T_api_Rate.mk j18 j19) (T_api_Position.mk j20 j21 j22) (T_api_Response.mk j23))).fEpoch).fFrom)), .d (.int .i64 (((T_api_Change.mk x1.1 x28.fSource x31.fFrom (T_api_Epoch.mk j16 j17 (T_api_Rate.mk j18 j19) (T_api_Position.mk j20 j21 j22) (T_api_Response.mk j23))).fEpoch).fTo)), .d (.int .i64 ((((T_api_Change.mk x1.1 x28.fSource x31.fFrom (T_api_Epoch.mk j16 j17 (T_api_Rate.mk j18 j19) (T_api_Position.mk j20 j21 j22) (T_api_Response.mk j23))).fEpoch).fRate).fNum)), .d (.int .i64 ((((T_api_Change.mk x1.1 x28.fSource x31.fFrom (T_api_Epoch.mk j16 j17 (T_api_Rate.mk j18 j19) (T_api_Position.mk j20 j21 j22) (T_api_Response.mk j23))).fEpoch).fRate).fDen)), .d (.int .i64 ((((T_api_Change.mk x1.1 x28.fSource x31.fFrom (T_api_Epoch.mk j16 j17 (T_api_Rate.mk j18 j19) (T_api_Position.mk j20 j21 j22) (T_api_Response.mk j23))).fEpoch).fPosition).fX)), .d (.int .i64 ((((T_api_Change.mk x1.1 x28.fSource x31.fFrom (T_api_Epoch.mk j16 j17 (T_api_Rate.mk j18 j19) (T_api_Position.mk j20 j21 j22) (T_api_Response.mk j23))).fEpoch).fPosition).fY)), .d (.int .i64 ((((T_api_Change.mk x1.1 x28.fSource x31.fFrom (T_api_Epoch.mk j16 j17 (T_api_Rate.mk j18 j19) (T_api_Position.mk j20 j21 j22) (T_api_Response.mk j23))).fEpoch).fPosition).fZ)), .d (.lst (((((T_api_Change.mk x1.1 x28.fSource x31.fFrom (T_api_Epoch.mk j16 j17 (T_api_Rate.mk j18 j19) (T_api_Position.mk j20 j21 j22) (T_api_Response.mk j23))).fEpoch).fResponse).fStages).map T_api_Stage.pd))])<|sN<|qR ?_
     obtain rfl:=oI h
     exact qD
    refine sM rfl<|sK<|sK<|sK<|sU<|sN<|cF<|qK<|gS rfl rfl<|sV (.d (T_api_Change.pd (T_api_Change.mk x1.1 x28.fSource x31.fFrom (T_api_Epoch.mk j16 j17 (T_api_Rate.mk j18 j19) (T_api_Position.mk j20 j21 j22) (T_api_Response.mk j23)))))<|sS 64 (.var [.d (.int .i64 ((T_api_Change.mk x1.1 x28.fSource x31.fFrom (T_api_Epoch.mk j16 j17 (T_api_Rate.mk j18 j19) (T_api_Position.mk j20 j21 j22) (T_api_Response.mk j23))).fKind)), .d (.str (((T_api_Change.mk x1.1 x28.fSource x31.fFrom (T_api_Epoch.mk j16 j17 (T_api_Rate.mk j18 j19) (T_api_Position.mk j20 j21 j22) (T_api_Response.mk j23))).fSource).fNetwork)), .d (.str (((T_api_Change.mk x1.1 x28.fSource x31.fFrom (T_api_Epoch.mk j16 j17 (T_api_Rate.mk j18 j19) (T_api_Position.mk j20 j21 j22) (T_api_Response.mk j23))).fSource).fStation)), .d (.str (((T_api_Change.mk x1.1 x28.fSource x31.fFrom (T_api_Epoch.mk j16 j17 (T_api_Rate.mk j18 j19) (T_api_Position.mk j20 j21 j22) (T_api_Response.mk j23))).fSource).fLocation)), .d (.str (((T_api_Change.mk x1.1 x28.fSource x31.fFrom (T_api_Epoch.mk j16 j17 (T_api_Rate.mk j18 j19) (T_api_Position.mk j20 j21 j22) (T_api_Response.mk j23))).fSource).fChannel)), .d (.int .i64 ((T_api_Change.mk x1.1 x28.fSource x31.fFrom (T_api_Epoch.mk j16 j17 (T_api_Rate.mk j18 j19) (T_api_Position.mk j20 j21 j22) (T_api_Response.mk j23))).fFrom)), .d (.int .i64 (((T_api_Change.mk x1.1 x28.fSource x31.fFrom (T_api_Epoch.mk j16 j17 (T_api_Rate.mk j18 j19) (T_api_Position.mk j20 j21 j22) (T_api_Response.mk j23))).fEpoch).fFrom)), .d (.int .i64 (((T_api_Change.mk x1.1 x28.fSource x31.fFrom (T_api_Epoch.mk j16 j17 (T_api_Rate.mk j18 j19) (T_api_Position.mk j20 j21 j22) (T_api_Response.mk j23))).fEpoch).fTo)), .d (.int .i64 ((((T_api_Change.mk x1.1 x28.fSource x31.fFrom (T_api_Epoch.mk j16 j17 (T_api_Rate.mk j18 j19) (T_api_Position.mk j20 j21 j22) (T_api_Response.mk j23))).fEpoch).fRate).fNum)), .d (.int .i64 ((((T_api_Change.mk x1.1 x28.fSource x31.fFrom (T_api_Epoch.mk j16 j17 (T_api_Rate.mk j18 j19) (T_api_Position.mk j20 j21 j22) (T_api_Response.mk j23))).fEpoch).fRate).fDen)), .d (.int .i64 ((((T_api_Change.mk x1.1 x28.fSource x31.fFrom (T_api_Epoch.mk j16 j17 (T_api_Rate.mk j18 j19) (T_api_Position.mk j20 j21 j22) (T_api_Response.mk j23))).fEpoch).fPosition).fX)), .d (.int .i64 ((((T_api_Change.mk x1.1 x28.fSource x31.fFrom (T_api_Epoch.mk j16 j17 (T_api_Rate.mk j18 j19) (T_api_Position.mk j20 j21 j22) (T_api_Response.mk j23))).fEpoch).fPosition).fY)), .d (.int .i64 ((((T_api_Change.mk x1.1 x28.fSource x31.fFrom (T_api_Epoch.mk j16 j17 (T_api_Rate.mk j18 j19) (T_api_Position.mk j20 j21 j22) (T_api_Response.mk j23))).fEpoch).fPosition).fZ)), .d (.lst (((((T_api_Change.mk x1.1 x28.fSource x31.fFrom (T_api_Epoch.mk j16 j17 (T_api_Rate.mk j18 j19) (T_api_Position.mk j20 j21 j22) (T_api_Response.mk j23))).fEpoch).fResponse).fStages).map T_api_Stage.pd))])<|sN<|qR ?_
    obtain rfl:=oI h
    exact qD
   refine sN<|cF<|qK<|gS rfl rfl<|sV (.d (T_api_Change.pd (T_api_Change.mk x1.1 x28.fSource j15 (T_api_Epoch.mk j16 j17 (T_api_Rate.mk j18 j19) (T_api_Position.mk j20 j21 j22) (T_api_Response.mk j23)))))<|sS 64 (.var [.d (.int .i64 ((T_api_Change.mk x1.1 x28.fSource j15 (T_api_Epoch.mk j16 j17 (T_api_Rate.mk j18 j19) (T_api_Position.mk j20 j21 j22) (T_api_Response.mk j23))).fKind)), .d (.str (((T_api_Change.mk x1.1 x28.fSource j15 (T_api_Epoch.mk j16 j17 (T_api_Rate.mk j18 j19) (T_api_Position.mk j20 j21 j22) (T_api_Response.mk j23))).fSource).fNetwork)), .d (.str (((T_api_Change.mk x1.1 x28.fSource j15 (T_api_Epoch.mk j16 j17 (T_api_Rate.mk j18 j19) (T_api_Position.mk j20 j21 j22) (T_api_Response.mk j23))).fSource).fStation)), .d (.str (((T_api_Change.mk x1.1 x28.fSource j15 (T_api_Epoch.mk j16 j17 (T_api_Rate.mk j18 j19) (T_api_Position.mk j20 j21 j22) (T_api_Response.mk j23))).fSource).fLocation)), .d (.str (((T_api_Change.mk x1.1 x28.fSource j15 (T_api_Epoch.mk j16 j17 (T_api_Rate.mk j18 j19) (T_api_Position.mk j20 j21 j22) (T_api_Response.mk j23))).fSource).fChannel)), .d (.int .i64 ((T_api_Change.mk x1.1 x28.fSource j15 (T_api_Epoch.mk j16 j17 (T_api_Rate.mk j18 j19) (T_api_Position.mk j20 j21 j22) (T_api_Response.mk j23))).fFrom)), .d (.int .i64 (((T_api_Change.mk x1.1 x28.fSource j15 (T_api_Epoch.mk j16 j17 (T_api_Rate.mk j18 j19) (T_api_Position.mk j20 j21 j22) (T_api_Response.mk j23))).fEpoch).fFrom)), .d (.int .i64 (((T_api_Change.mk x1.1 x28.fSource j15 (T_api_Epoch.mk j16 j17 (T_api_Rate.mk j18 j19) (T_api_Position.mk j20 j21 j22) (T_api_Response.mk j23))).fEpoch).fTo)), .d (.int .i64 ((((T_api_Change.mk x1.1 x28.fSource j15 (T_api_Epoch.mk j16 j17 (T_api_Rate.mk j18 j19) (T_api_Position.mk j20 j21 j22) (T_api_Response.mk j23))).fEpoch).fRate).fNum)), .d (.int .i64 ((((T_api_Change.mk x1.1 x28.fSource j15 (T_api_Epoch.mk j16 j17 (T_api_Rate.mk j18 j19) (T_api_Position.mk j20 j21 j22) (T_api_Response.mk j23))).fEpoch).fRate).fDen)), .d (.int .i64 ((((T_api_Change.mk x1.1 x28.fSource j15 (T_api_Epoch.mk j16 j17 (T_api_Rate.mk j18 j19) (T_api_Position.mk j20 j21 j22) (T_api_Response.mk j23))).fEpoch).fPosition).fX)), .d (.int .i64 ((((T_api_Change.mk x1.1 x28.fSource j15 (T_api_Epoch.mk j16 j17 (T_api_Rate.mk j18 j19) (T_api_Position.mk j20 j21 j22) (T_api_Response.mk j23))).fEpoch).fPosition).fY)), .d (.int .i64 ((((T_api_Change.mk x1.1 x28.fSource j15 (T_api_Epoch.mk j16 j17 (T_api_Rate.mk j18 j19) (T_api_Position.mk j20 j21 j22) (T_api_Response.mk j23))).fEpoch).fPosition).fZ)), .d (.lst (((((T_api_Change.mk x1.1 x28.fSource j15 (T_api_Epoch.mk j16 j17 (T_api_Rate.mk j18 j19) (T_api_Position.mk j20 j21 j22) (T_api_Response.mk j23))).fEpoch).fResponse).fStages).map T_api_Stage.pd))])<|sN<|qR ?_
   obtain rfl:=oI h
   exact qD
  refine sN<|cF<|qK<|gS rfl rfl<|sV (.d (T_api_Change.pd (T_api_Change.mk x1.1 x2.1 j15 (T_api_Epoch.mk j16 j17 (T_api_Rate.mk j18 j19) (T_api_Position.mk j20 j21 j22) (T_api_Response.mk j23)))))<|sS 64 (.var [.d (.int .i64 ((T_api_Change.mk x1.1 x2.1 j15 (T_api_Epoch.mk j16 j17 (T_api_Rate.mk j18 j19) (T_api_Position.mk j20 j21 j22) (T_api_Response.mk j23))).fKind)), .d (.str (((T_api_Change.mk x1.1 x2.1 j15 (T_api_Epoch.mk j16 j17 (T_api_Rate.mk j18 j19) (T_api_Position.mk j20 j21 j22) (T_api_Response.mk j23))).fSource).fNetwork)), .d (.str (((T_api_Change.mk x1.1 x2.1 j15 (T_api_Epoch.mk j16 j17 (T_api_Rate.mk j18 j19) (T_api_Position.mk j20 j21 j22) (T_api_Response.mk j23))).fSource).fStation)), .d (.str (((T_api_Change.mk x1.1 x2.1 j15 (T_api_Epoch.mk j16 j17 (T_api_Rate.mk j18 j19) (T_api_Position.mk j20 j21 j22) (T_api_Response.mk j23))).fSource).fLocation)), .d (.str (((T_api_Change.mk x1.1 x2.1 j15 (T_api_Epoch.mk j16 j17 (T_api_Rate.mk j18 j19) (T_api_Position.mk j20 j21 j22) (T_api_Response.mk j23))).fSource).fChannel)), .d (.int .i64 ((T_api_Change.mk x1.1 x2.1 j15 (T_api_Epoch.mk j16 j17 (T_api_Rate.mk j18 j19) (T_api_Position.mk j20 j21 j22) (T_api_Response.mk j23))).fFrom)), .d (.int .i64 (((T_api_Change.mk x1.1 x2.1 j15 (T_api_Epoch.mk j16 j17 (T_api_Rate.mk j18 j19) (T_api_Position.mk j20 j21 j22) (T_api_Response.mk j23))).fEpoch).fFrom)), .d (.int .i64 (((T_api_Change.mk x1.1 x2.1 j15 (T_api_Epoch.mk j16 j17 (T_api_Rate.mk j18 j19) (T_api_Position.mk j20 j21 j22) (T_api_Response.mk j23))).fEpoch).fTo)), .d (.int .i64 ((((T_api_Change.mk x1.1 x2.1 j15 (T_api_Epoch.mk j16 j17 (T_api_Rate.mk j18 j19) (T_api_Position.mk j20 j21 j22) (T_api_Response.mk j23))).fEpoch).fRate).fNum)), .d (.int .i64 ((((T_api_Change.mk x1.1 x2.1 j15 (T_api_Epoch.mk j16 j17 (T_api_Rate.mk j18 j19) (T_api_Position.mk j20 j21 j22) (T_api_Response.mk j23))).fEpoch).fRate).fDen)), .d (.int .i64 ((((T_api_Change.mk x1.1 x2.1 j15 (T_api_Epoch.mk j16 j17 (T_api_Rate.mk j18 j19) (T_api_Position.mk j20 j21 j22) (T_api_Response.mk j23))).fEpoch).fPosition).fX)), .d (.int .i64 ((((T_api_Change.mk x1.1 x2.1 j15 (T_api_Epoch.mk j16 j17 (T_api_Rate.mk j18 j19) (T_api_Position.mk j20 j21 j22) (T_api_Response.mk j23))).fEpoch).fPosition).fY)), .d (.int .i64 ((((T_api_Change.mk x1.1 x2.1 j15 (T_api_Epoch.mk j16 j17 (T_api_Rate.mk j18 j19) (T_api_Position.mk j20 j21 j22) (T_api_Response.mk j23))).fEpoch).fPosition).fZ)), .d (.lst (((((T_api_Change.mk x1.1 x2.1 j15 (T_api_Epoch.mk j16 j17 (T_api_Rate.mk j18 j19) (T_api_Position.mk j20 j21 j22) (T_api_Response.mk j23))).fEpoch).fResponse).fStages).map T_api_Stage.pd))])<|sN<|qR ?_
  obtain rfl:=oI h
  exact qD
 refine sM rfl<|sK<|sK<|sK<|sU<|sN<|cF<|qK<|gS rfl rfl<|sV (.d (T_api_Change.pd (T_api_Change.mk x1.1 x2.1 j15 (T_api_Epoch.mk j16 j17 (T_api_Rate.mk j18 j19) (T_api_Position.mk j20 j21 j22) (T_api_Response.mk j23)))))<|sS 64 (.var [.d (.int .i64 ((T_api_Change.mk x1.1 x2.1 j15 (T_api_Epoch.mk j16 j17 (T_api_Rate.mk j18 j19) (T_api_Position.mk j20 j21 j22) (T_api_Response.mk j23))).fKind)), .d (.str (((T_api_Change.mk x1.1 x2.1 j15 (T_api_Epoch.mk j16 j17 (T_api_Rate.mk j18 j19) (T_api_Position.mk j20 j21 j22) (T_api_Response.mk j23))).fSource).fNetwork)), .d (.str (((T_api_Change.mk x1.1 x2.1 j15 (T_api_Epoch.mk j16 j17 (T_api_Rate.mk j18 j19) (T_api_Position.mk j20 j21 j22) (T_api_Response.mk j23))).fSource).fStation)), .d (.str (((T_api_Change.mk x1.1 x2.1 j15 (T_api_Epoch.mk j16 j17 (T_api_Rate.mk j18 j19) (T_api_Position.mk j20 j21 j22) (T_api_Response.mk j23))).fSource).fLocation)), .d (.str (((T_api_Change.mk x1.1 x2.1 j15 (T_api_Epoch.mk j16 j17 (T_api_Rate.mk j18 j19) (T_api_Position.mk j20 j21 j22) (T_api_Response.mk j23))).fSource).fChannel)), .d (.int .i64 ((T_api_Change.mk x1.1 x2.1 j15 (T_api_Epoch.mk j16 j17 (T_api_Rate.mk j18 j19) (T_api_Position.mk j20 j21 j22) (T_api_Response.mk j23))).fFrom)), .d (.int .i64 (((T_api_Change.mk x1.1 x2.1 j15 (T_api_Epoch.mk j16 j17 (T_api_Rate.mk j18 j19) (T_api_Position.mk j20 j21 j22) (T_api_Response.mk j23))).fEpoch).fFrom)), .d (.int .i64 (((T_api_Change.mk x1.1 x2.1 j15 (T_api_Epoch.mk j16 j17 (T_api_Rate.mk j18 j19) (T_api_Position.mk j20 j21 j22) (T_api_Response.mk j23))).fEpoch).fTo)), .d (.int .i64 ((((T_api_Change.mk x1.1 x2.1 j15 (T_api_Epoch.mk j16 j17 (T_api_Rate.mk j18 j19) (T_api_Position.mk j20 j21 j22) (T_api_Response.mk j23))).fEpoch).fRate).fNum)), .d (.int .i64 ((((T_api_Change.mk x1.1 x2.1 j15 (T_api_Epoch.mk j16 j17 (T_api_Rate.mk j18 j19) (T_api_Position.mk j20 j21 j22) (T_api_Response.mk j23))).fEpoch).fRate).fDen)), .d (.int .i64 ((((T_api_Change.mk x1.1 x2.1 j15 (T_api_Epoch.mk j16 j17 (T_api_Rate.mk j18 j19) (T_api_Position.mk j20 j21 j22) (T_api_Response.mk j23))).fEpoch).fPosition).fX)), .d (.int .i64 ((((T_api_Change.mk x1.1 x2.1 j15 (T_api_Epoch.mk j16 j17 (T_api_Rate.mk j18 j19) (T_api_Position.mk j20 j21 j22) (T_api_Response.mk j23))).fEpoch).fPosition).fY)), .d (.int .i64 ((((T_api_Change.mk x1.1 x2.1 j15 (T_api_Epoch.mk j16 j17 (T_api_Rate.mk j18 j19) (T_api_Position.mk j20 j21 j22) (T_api_Response.mk j23))).fEpoch).fPosition).fZ)), .d (.lst (((((T_api_Change.mk x1.1 x2.1 j15 (T_api_Epoch.mk j16 j17 (T_api_Rate.mk j18 j19) (T_api_Position.mk j20 j21 j22) (T_api_Response.mk j23))).fEpoch).fResponse).fStages).map T_api_Stage.pd))])<|sN<|qR ?_
 obtain rfl:=oI h
 exact qD
theorem ref03_code_ev {a0 : (List UInt8)} {a1 : Int} {a2 : Int} {r : Bool} (h : ref03_code a0 a1 a2 = some r) : EvP prog hints ext 81 [.d (.str a0), .d (.int .i64 a1), .d (.int .i64 a2)] [] (.d (.bool r), []) := by
 refine Ev.body rfl Tryz.func81 rfl (by kernel_rfl)<|gS rfl rfl<|sU<|sN<|qS<|gS rfl rfl<|sV (.d (.int .i64 0))<|sN<|bE h fun o17 ho17 h => WC.block (WC.loop (WL.ofLoop ho17 (fun s R' B' => ghosts prog 0 (A R' B') (hints.at_ 81 2) = some (A [(0, .d (.str a0)), (1, .d (.int .i64 a1)), (2, .d (.int .i64 a2)), (7, .d (.int .i64 s))] [])) (fun o e R' B' => match o with | .inl y => e = .exit 0 ∧ ghosts prog 0 (A R' B') (hints.at_ 81 6) = some (A [(0, .d (.str a0)), (1, .d (.int .i64 a1)), (2, .d (.int .i64 a2))] []) | .inr r => e = .ret ∧ finish prog (hints.own 81) Tryz.f81 0 (A R' B') = some (.d (.bool r), [])) rfl ?_ ?_))
 ·rintro s1 R' B' q2 hI h
  refine qS<|gS rfl hI<|sM rfl<|sM rfl<|sV (.d (.int .i64 (a0.length : Int)))<|sF h (fun h => ?_) fun h => ?_
  ·refine sN<|cT<|qK<|qS<|qB<|gS rfl rfl<|sM rfl<|sM rfl<|bE h fun x4 hx4 h => WO.byteG hx4 rfl rfl rfl rfl rfl rfl<|sF h (fun h => ?_) fun h => ?_
   ·refine sM rfl<|sM rfl<|sM rfl<|bE h fun x6 hx6 h => WO.byteG hx6 rfl rfl rfl rfl rfl rfl<|sV (.d (.bool (decide (x6 ≤ (90 : Int)))))<|sF h (fun h => ?_) fun h => ?_
    ·refine sM rfl<|sK<|sK<|sK<|sK<|sK<|sK<|sK<|sK<|sK<|sK<|sT<|sU<|sN<|cF ?_
     refine qK<|WC.region rfl rfl<|sM rfl<|sV (.d (.int .i64 (IntKind.wrap .i64 (s1 + (1 : Int)))))<|sA rfl<|sN ?_
     obtain rfl:=oI h
     exact ⟨rfl, rfl⟩
    refine sM rfl<|sM rfl<|sM rfl<|bE h fun x8 hx8 h => WO.byteG hx8 rfl rfl rfl rfl rfl rfl<|sF h (fun h => ?_) fun h => ?_
    ·refine sM rfl<|sM rfl<|sM rfl<|bE h fun x10 hx10 h => WO.byteG hx10 rfl rfl rfl rfl rfl rfl<|sV (.d (.bool (decide (x10 ≤ (57 : Int)))))<|sV (.d (.bool (decide (x10 ≤ (57 : Int)))))<|sV (.d (.bool (decide (x10 ≤ (57 : Int)))))<|sF h (fun h => ?_) fun h => ?_
     ·refine sN<|cT<|gS rfl rfl<|sU<|sN<|qR ?_
      obtain rfl:=oI h
      exact ⟨(fun he => by cases he), rfl, rfl⟩
     refine sN<|cF<|qK<|WC.region rfl rfl<|sM rfl<|sV (.d (.int .i64 (IntKind.wrap .i64 (s1 + (1 : Int)))))<|sA rfl<|sN ?_
     obtain rfl:=oI h
     exact ⟨rfl, rfl⟩
    refine sM rfl<|sK<|sK<|sK<|sK<|sU<|sU<|sT<|sN<|cT<|gS rfl rfl<|sU<|sN<|qR ?_
    obtain rfl:=oI h
    exact ⟨(fun he => by cases he), rfl, rfl⟩
   refine sM rfl<|sK<|sK<|sK<|sK<|sU<|sM rfl<|sM rfl<|sM rfl<|bE h fun x12 hx12 h => WO.byteG hx12 rfl rfl rfl rfl rfl rfl<|sF h (fun h => ?_) fun h => ?_
   ·refine sM rfl<|sM rfl<|sM rfl<|bE h fun x14 hx14 h => WO.byteG hx14 rfl rfl rfl rfl rfl rfl<|sV (.d (.bool (decide (x14 ≤ (57 : Int)))))<|sV (.d (.bool (decide (x14 ≤ (57 : Int)))))<|sV (.d (.bool (decide (x14 ≤ (57 : Int)))))<|sF h (fun h => ?_) fun h => ?_
    ·refine sN<|cT<|gS rfl rfl<|sU<|sN<|qR ?_
     obtain rfl:=oI h
     exact ⟨(fun he => by cases he), rfl, rfl⟩
    refine sN<|cF<|qK<|WC.region rfl rfl<|sM rfl<|sV (.d (.int .i64 (IntKind.wrap .i64 (s1 + (1 : Int)))))<|sA rfl<|sN ?_
    obtain rfl:=oI h
    exact ⟨rfl, rfl⟩
   refine sM rfl<|sK<|sK<|sK<|sK<|sU<|sU<|sT<|sN<|cT<|gS rfl rfl<|sU<|sN<|qR ?_
   obtain rfl:=oI h
   exact ⟨(fun he => by cases he), rfl, rfl⟩
  refine sN<|cF<|qX ?_
  obtain rfl:=oI h
  exact ⟨(fun he => by cases he), rfl, rfl⟩
 intro e R' B' he hq
 rcases o17 with y18 | r19
 ·obtain ⟨rfl, hI⟩ := hq
  refine qE<|gS rfl hI<|sM rfl<|sV (.d (.int .i64 (a0.length : Int)))<|sM rfl<|sF h (fun h => ?_) fun h => ?_
  ·refine sM rfl<|sM rfl<|sV (.d (.int .i64 (a0.length : Int)))<|sM rfl<|sV (.d (.bool (decide ((a0.length : Int) ≤ a2))))<|sV (.d (.bool (decide ((a0.length : Int) ≤ a2))))<|sA rfl<|sN<|qR ?_
   obtain rfl:=oI h
   exact qD
  refine sM rfl<|sK<|sK<|sK<|sK<|sU<|sA rfl<|sN<|qR ?_
  obtain rfl:=oI h
  exact qD
 obtain ⟨rfl, hf⟩ := hq
 obtain rfl:=oI h
 exact hf
theorem ref03_Valid_ev {a0 : T_api_SourceID} {r : Bool} (h : ref03_Valid a0 = some r) : EvP prog hints ext 44 [.d (T_api_SourceID.pd a0)] [] (.d (.bool r), []) := by
 refine Ev.body rfl Tryz.func44 rfl (by kernel_rfl)<|gS rfl rfl<|sB (.ptr 16 0) 16 (.var [.d (.str a0.fNetwork), .d (.str a0.fStation), .d (.str a0.fLocation), .d (.str a0.fChannel)])<|sU<|sN<|gS rfl rfl<|sV (.ptr 16 0)<|sL rfl<|bE h fun x1 hx1 h => ite_elim h (fun hb2 h => ?_) (fun hb2 h => ?_)
 ·refine WO.callR (v := .d (.bool true)) (u := []) rfl rfl (fun _ => rfl) rfl rfl rfl rfl rfl (ref03_code_ev hx1) rfl rfl (congrArg (fun b => RV.d (.bool b)) hb2) rfl<|sM rfl<|sV (.ptr 16 1)<|sL rfl<|bE h fun x3 hx3 h => cD (ref03_code_ev hx3)<|sF h (fun h => ?_) fun h => ?_
  ·refine sM rfl<|sV (.ptr 16 2)<|sL rfl<|sF h (fun h => ?_) fun h => ?_
   ·refine sM rfl<|sK<|sK<|sK<|sT<|sT<|sM rfl<|sV (.ptr 16 3)<|sL rfl<|bE h fun x6 hx6 h => cD (ref03_code_ev hx6)<|sV (.d (.bool x6))<|sA rfl<|sN<|qR ?_
    obtain rfl:=oI h
    exact qD
   refine sM rfl<|sV (.ptr 16 2)<|sL rfl<|bE h fun x7 hx7 h => cD (ref03_code_ev hx7)<|sV (.d (.bool x7))<|sF h (fun h => ?_) fun h => ?_
   ·refine sM rfl<|sV (.ptr 16 3)<|sL rfl<|bE h fun x9 hx9 h => cD (ref03_code_ev hx9)<|sV (.d (.bool x9))<|sA rfl<|sN<|qR ?_
    obtain rfl:=oI h
    exact qD
   refine sM rfl<|sK<|sK<|sK<|sU<|sA rfl<|sN<|qR ?_
   obtain rfl:=oI h
   exact qD
  refine sM rfl<|sK<|sK<|sK<|sK<|sK<|sK<|sK<|sK<|sU<|sM rfl<|sK<|sK<|sK<|sU ?_
  refine sA rfl<|sN<|qR ?_
  obtain rfl:=oI h
  exact qD
 refine WO.callR (v := .d (.bool false)) (u := []) rfl rfl (fun _ => rfl) rfl rfl rfl rfl rfl (ref03_code_ev hx1) rfl rfl (congrArg (fun b => RV.d (.bool b)) hb2) rfl<|sM rfl<|sK<|sK<|sK<|sU<|sM rfl<|sK<|sK<|sK<|sK<|sK<|sK<|sK<|sK ?_
 refine sU<|sM rfl<|sK<|sK<|sK<|sU<|sA rfl<|sN<|qR ?_
 obtain rfl:=oI h
 exact qD
theorem ref02_Valid_ev {a0 : T_api_Rate} {r : Bool} (h : ref02_Valid a0 = some r) : EvP prog hints ext 57 [.d (T_api_Rate.pd a0)] [] (.d (.bool r), []) := by
 refine Ev.body rfl Tryz.func57 rfl (by kernel_rfl)<|gS rfl rfl<|sB (.ptr 16 0) 16 (.var [.d (.int .i64 a0.fNum), .d (.int .i64 a0.fDen)])<|sU<|sN<|gS rfl rfl<|sV (.ptr 16 0)<|sL rfl<|bE h fun x1 hx1 h => ite_elim h (fun hb2 h => ?_) (fun hb2 h => ?_)
 ·refine WO.callR (v := .d (.bool true)) (u := []) rfl rfl (fun _ => rfl) rfl rfl rfl rfl rfl (ref01_In_ev hx1) rfl rfl (congrArg (fun b => RV.d (.bool b)) hb2) rfl<|sM rfl<|sV (.ptr 16 1)<|sL rfl<|bE h fun x3 hx3 h => cD (ref01_In_ev hx3)<|sF h (fun h => ?_) fun h => ?_
  ·refine sM rfl<|sV (.ptr 16 0)<|sL rfl<|sV (.ptr 16 1)<|sL rfl<|bE h fun x5 hx5 h => cD (ref02_gcd_ev hx5)<|sV (.d (.bool (x5 == (1 : Int))))<|sV (.d (.bool (x5 == (1 : Int))))<|sA rfl<|sN<|qR ?_
   obtain rfl:=oI h
   exact qD
  refine sM rfl<|sK<|sK<|sK<|sK<|sK<|sK<|sU<|sA rfl<|sN<|qR ?_
  obtain rfl:=oI h
  exact qD
 refine WO.callR (v := .d (.bool false)) (u := []) rfl rfl (fun _ => rfl) rfl rfl rfl rfl rfl (ref01_In_ev hx1) rfl rfl (congrArg (fun b => RV.d (.bool b)) hb2) rfl<|sM rfl<|sK<|sK<|sK<|sU<|sM rfl<|sK<|sK<|sK<|sK<|sK<|sK<|sU<|sA rfl ?_
 refine sN<|qR ?_
 obtain rfl:=oI h
 exact qD
theorem ref18_terms_ev {a0 : (List Int)} {r : Bool} (h : ref18_terms a0 = some r) : EvP prog hints ext 117 [.d (.lst (a0.map (PD.int .i64)))] [] (.d (.bool r), []) := by
 refine Ev.body rfl Tryz.func117 rfl (by kernel_rfl)<|gS rfl rfl<|sU<|sN<|qS<|gS rfl rfl<|sV (.d (.int .i64 0))<|sN<|bE h fun o8 ho8 h => WC.block (WC.loop (WL.ofLoop ho8 (fun s R' B' => ghosts prog 0 (A R' B') (hints.at_ 117 2) = some (A [(0, .d (.lst (a0.map (PD.int .i64)))), (3, .d (.int .i64 s))] [])) (fun o e R' B' => match o with | .inl y => e = .exit 0 ∧ ghosts prog 0 (A R' B') (hints.at_ 117 6) = some (A [] []) | .inr r => e = .ret ∧ finish prog (hints.own 117) Tryz.f117 0 (A R' B') = some (.d (.bool r), [])) rfl ?_ ?_))
 ·rintro s1 R' B' q2 hI h
  refine qS<|gS rfl hI<|sM rfl<|sM rfl<|sE (.d (.int .i64 (a0.length : Int))) (lenMap _ _)<|sF h (fun h => ?_) fun h => ?_
  ·refine sN<|cT<|qK<|qS<|qB<|gS rfl rfl<|sM rfl<|sM rfl<|bE h fun x4 hx4 h => WO.elemG hx4 rfl rfl rfl rfl rfl rfl rfl rfl rfl<|sC rfl<|bE h fun x5 hx5 h => cD (ref01_In_ev hx5)<|sF h (fun h => ?_) fun h => ?_
   ·refine sN<|cT<|gS rfl rfl<|sU<|sN<|qR ?_
    obtain rfl:=oI h
    exact ⟨(fun he => by cases he), rfl, rfl⟩
   refine sN<|cF<|qK<|WC.region rfl rfl<|sM rfl<|sV (.d (.int .i64 (IntKind.wrap .i64 (s1 + (1 : Int)))))<|sA rfl<|sN ?_
   obtain rfl:=oI h
   exact ⟨rfl, rfl⟩
  refine sN<|cF<|qX ?_
  obtain rfl:=oI h
  exact ⟨(fun he => by cases he), rfl, rfl⟩
 intro e R' B' he hq
 rcases o8 with y9 | r10
 ·obtain ⟨rfl, hI⟩ := hq
  refine qE<|gS rfl hI<|sT<|sN<|qR ?_
  obtain rfl:=oI h
  exact qD
 obtain ⟨rfl, hf⟩ := hq
 obtain rfl:=oI h
 exact hf
theorem ref18_total_ev {a0 : (List Int)} {r : Int} (h : ref18_total a0 = some r) : EvP prog hints ext 118 [.d (.lst (a0.map (PD.int .i64)))] [] (.d (.int .i64 r), []) := by
 refine Ev.body rfl Tryz.func118 rfl (by kernel_rfl)<|gS rfl rfl<|sV (.d (.int .i64 0))<|sN<|gS rfl rfl<|sV (.d (.int .i64 0))<|sN<|qS<|gS rfl rfl<|sV (.d (.int .i64 0))<|sN<|bE h fun o8 ho8 h => WC.block (WC.loop (WL.ofLoop ho8 (fun s R' B' => ghosts prog 0 (A R' B') (hints.at_ 118 3) = some (A [(0, .d (.lst (a0.map (PD.int .i64)))), (3, .d (.int .i64 s.1)), (4, .d (.int .i64 s.2))] [])) (fun o e R' B' => e = .exit 0 ∧ ghosts prog 0 (A R' B') (hints.at_ 118 6) = some (A [(3, .d (.int .i64 o))] [])) rfl ?_ ?_))
 ·rintro ⟨s1, s2⟩ R' B' q4 hI h
  refine qS<|gS rfl hI<|sM rfl<|sM rfl<|sE (.d (.int .i64 (a0.length : Int))) (lenMap _ _)<|sF h (fun h => ?_) fun h => ?_
  ·refine sN<|cT<|qK<|qS<|qB<|WC.region rfl rfl<|sM rfl<|sM rfl<|sM rfl<|bE h fun x6 hx6 h => WO.elemG hx6 rfl rfl rfl rfl rfl rfl rfl rfl rfl<|sC rfl<|sV (.d (.int .i64 (IntKind.wrap .i64 (s1 + x6))))<|sA rfl<|sN ?_
   refine WC.region rfl rfl<|sM rfl<|sV (.d (.int .i64 (IntKind.wrap .i64 (s2 + (1 : Int)))))<|sA rfl<|sN ?_
   obtain rfl:=oI h
   exact ⟨rfl, rfl⟩
  refine sN<|cF<|qX ?_
  obtain rfl:=oI h
  exact ⟨(fun he => by cases he), rfl, rfl⟩
 intro e R' B' he hq
 obtain ⟨rfl, hI⟩ := hq
 refine qE<|gS rfl hI<|sM rfl<|sA rfl<|sN<|qR ?_
 obtain rfl:=oI h
 exact qD
theorem ref18_ValidStage_ev {a0 : T_api_Stage} {r : Bool} (h : ref18_ValidStage a0 = some r) : EvP prog hints ext 95 [.d (T_api_Stage.pd a0)] [] (.d (.bool r), []) := by
 refine Ev.body rfl Tryz.func95 rfl (by kernel_rfl)<|gS rfl rfl<|sB (.ptr 16 0) 16 (.var [.d (.int .i64 a0.fKind), .d (.int .i64 a0.fNum.a0), .d (.int .i64 a0.fNum.a1), .d (.int .i64 a0.fNum.a2), .d (.int .i64 a0.fDen.a0), .d (.int .i64 a0.fDen.a1), .d (.int .i64 a0.fDen.a2), .d (.lst (a0.fTaps.map (PD.int .i64))), .d (.int .i64 a0.fFactor), .d (.int .i64 a0.fShift)])<|sU<|sN<|gS rfl rfl<|sV (.ptr 16 7)<|sL rfl<|sE (.d (.int .i64 (a0.fTaps.length : Int))) (lenMap _ _)<|sF h (fun h => ?_) fun h => ?_
 ·refine sM rfl<|sV (.ptr 16 8)<|sL rfl<|sV (.d (.bool (a0.fFactor == (0 : Int))))<|sF h (fun h => ?_) fun h => ?_
  ·refine sM rfl<|sV (.ptr 16 9)<|sL rfl<|sV (.d (.bool (a0.fShift == (0 : Int))))<|sV (.d (.bool (a0.fShift == (0 : Int))))<|sA rfl<|sN<|qS<|gS rfl rfl<|sV (.ptr 16 0)<|sL rfl<|sN<|qB<|gS rfl rfl<|sF h (fun h => ?_) fun h => ?_
   ·refine sA rfl<|sN<|cT<|gS rfl rfl<|sF h (fun h => ?_) fun h => ?_
    ·refine sM rfl<|sV (.ptr 16 1)<|sV (.ptr 16 1)<|sL rfl<|bE h fun x5 hx5 h => cD (ref01_In_ev hx5)<|sF h (fun h => ?_) fun h => ?_
     ·refine sM rfl<|sV (.ptr 16 4)<|sV (.ptr 16 4)<|sL rfl<|bE h fun x7 hx7 h => cD (ref01_In_ev hx7)<|sF h (fun h => ?_) fun h => ?_
      ·refine sM rfl<|sV (.ptr 16 1)<|sV (.ptr 16 2)<|sL rfl<|sV (.d (.bool (a0.fNum.a1 == (0 : Int))))<|sF h (fun h => ?_) fun h => ?_
       ·refine sM rfl<|sV (.ptr 16 1)<|sV (.ptr 16 3)<|sL rfl<|sV (.d (.bool (a0.fNum.a2 == (0 : Int))))<|sF h (fun h => ?_) fun h => ?_
        ·refine sM rfl<|sV (.ptr 16 4)<|sV (.ptr 16 5)<|sL rfl<|sV (.d (.bool (a0.fDen.a1 == (0 : Int))))<|sF h (fun h => ?_) fun h => ?_
         ·refine sM rfl<|sV (.ptr 16 4)<|sV (.ptr 16 6)<|sL rfl<|sV (.d (.bool (a0.fDen.a2 == (0 : Int))))<|sV (.d (.bool (a0.fDen.a2 == (0 : Int))))<|sA rfl<|sN<|qR ?_
          obtain rfl:=oI h
          exact qD
         refine sM rfl<|sK<|sK<|sK<|sK<|sU<|sA rfl<|sN<|qR ?_
         obtain rfl:=oI h
         exact qD
        refine sM rfl<|sK<|sK<|sK<|sK<|sU<|sM rfl<|sK<|sK<|sK<|sK<|sU<|sA rfl<|sN<|qR ?_
        obtain rfl:=oI h
        exact qD
       refine sM rfl<|sK<|sK<|sK<|sK<|sU<|sM rfl<|sK<|sK<|sK<|sK<|sU<|sM rfl<|sK<|sK ?_
       refine sK<|sK<|sU<|sA rfl<|sN<|qR ?_
       obtain rfl:=oI h
       exact qD
      refine sM rfl<|sK<|sK<|sK<|sK<|sU<|sM rfl<|sK<|sK<|sK<|sK<|sU<|sM rfl<|sK<|sK ?_
      refine sK<|sK<|sU<|sM rfl<|sK<|sK<|sK<|sK<|sU<|sA rfl<|sN<|qR ?_
      obtain rfl:=oI h
      exact qD
     refine sM rfl<|sK<|sK<|sK<|sK<|sU<|sM rfl<|sK<|sK<|sK<|sK<|sU<|sM rfl<|sK<|sK ?_
     refine sK<|sK<|sU<|sM rfl<|sK<|sK<|sK<|sK<|sU<|sM rfl<|sK<|sK<|sK<|sK<|sU ?_
     refine sA rfl<|sN<|qR ?_
     obtain rfl:=oI h
     exact qD
    refine sM rfl<|sK<|sK<|sK<|sK<|sU<|sM rfl<|sK<|sK<|sK<|sK<|sU<|sM rfl<|sK<|sK ?_
    refine sK<|sK<|sU<|sM rfl<|sK<|sK<|sK<|sK<|sU<|sM rfl<|sK<|sK<|sK<|sK<|sU ?_
    refine sM rfl<|sK<|sK<|sK<|sK<|sU<|sA rfl<|sN<|qR ?_
    obtain rfl:=oI h
    exact qD
   refine sA rfl<|sN<|cF<|gS rfl rfl<|sF h (fun h => ?_) fun h => ?_
   ·refine sA rfl<|sN<|cT<|WC.regionSeq (R0 := [(1, .cptr [.int .i64 a0.fKind, .int .i64 a0.fNum.a0, .int .i64 a0.fNum.a1, .int .i64 a0.fNum.a2, .int .i64 a0.fDen.a0, .int .i64 a0.fDen.a1, .int .i64 a0.fDen.a2, .lst (a0.fTaps.map (PD.int .i64)), .int .i64 a0.fFactor, .int .i64 a0.fShift]), (3, .d (.bool (a0.fShift == (0 : Int))))]) (B0 := []) rfl rfl<|sF h (fun h => ?_) fun h => ?_
    ·refine sM rfl<|sV (.cptr [.int .i64 a0.fNum.a0, .int .i64 a0.fNum.a1, .int .i64 a0.fNum.a2, .int .i64 a0.fDen.a0, .int .i64 a0.fDen.a1, .int .i64 a0.fDen.a2, .lst (a0.fTaps.map (PD.int .i64)), .int .i64 a0.fFactor, .int .i64 a0.fShift])<|sV (.d (.lst ([a0.fNum.a0, a0.fNum.a1, a0.fNum.a2].map (PD.int .i64))))<|bE h fun x14 hx14 h => cD (ref18_terms_ev hx14)<|sF h (fun h => ?_) fun h => ?_
     ·refine sM rfl<|sV (.cptr [.int .i64 a0.fDen.a0, .int .i64 a0.fDen.a1, .int .i64 a0.fDen.a2, .lst (a0.fTaps.map (PD.int .i64)), .int .i64 a0.fFactor, .int .i64 a0.fShift])<|sV (.d (.lst ([a0.fDen.a0, a0.fDen.a1, a0.fDen.a2].map (PD.int .i64))))<|bE h fun x16 hx16 h => cD (ref18_terms_ev hx16)<|sF h (fun h => ?_) fun h => ?_
      ·refine sM rfl<|sV (.cptr [.int .i64 a0.fDen.a0, .int .i64 a0.fDen.a1, .int .i64 a0.fDen.a2, .lst (a0.fTaps.map (PD.int .i64)), .int .i64 a0.fFactor, .int .i64 a0.fShift])<|sV (.cptr [.int .i64 a0.fDen.a0, .int .i64 a0.fDen.a1, .int .i64 a0.fDen.a2, .lst (a0.fTaps.map (PD.int .i64)), .int .i64 a0.fFactor, .int .i64 a0.fShift])<|sC rfl<|sV (.d (.bool (a0.fDen.a0 != (0 : Int))))<|sV (.d (.bool (a0.fDen.a0 != (0 : Int))))<|sA rfl<|sN<|qR ?_
       obtain rfl:=oI h
       exact qD
      refine sM rfl<|sK<|sK<|sK<|sK<|sU<|sA rfl<|sN<|qR ?_
      obtain rfl:=oI h
      exact qD
     refine sM rfl<|sK<|sK<|sK<|sU<|sM rfl<|sK<|sK<|sK<|sK<|sU<|sA rfl<|sN<|qR ?_
     obtain rfl:=oI h
     exact qD
    refine sM rfl<|sK<|sK<|sK<|sU<|sM rfl<|sK<|sK<|sK<|sU<|sM rfl<|sK<|sK<|sK<|sK ?_
    refine sU<|sA rfl<|sN<|qR ?_
    obtain rfl:=oI h
    exact qD
   refine sA rfl<|sN<|cF<|gS rfl rfl<|sF h (fun h => ?_) fun h => ?_
   ·refine sA rfl<|sN<|cT<|gS rfl rfl<|sV (.ptr 16 1)<|sV (.d (A3_Int.pd a0.fNum))<|sV (.d (A3_Int.pd (A3_Int.mk 0 0 0)))<|ite_elim h (fun hb19 h => ?_) (fun hb19 h => ?_)
    ·refine WO.binS (eqE_90 a0.fNum (A3_Int.mk 0 0 0)) hb19 rfl rfl rfl rfl rfl<|sM rfl<|sV (.ptr 16 4)<|sV (.d (A3_Int.pd a0.fDen))<|sV (.d (A3_Int.pd (A3_Int.mk 0 0 0)))<|WO.bin (eqE_90 a0.fDen (A3_Int.mk 0 0 0)) rfl rfl rfl rfl rfl<|sF h (fun h => ?_) fun h => ?_
     ·refine sM rfl<|sV (.ptr 16 7)<|sL rfl<|sE (.d (.int .i64 (a0.fTaps.length : Int))) (lenMap _ _)<|bE h fun x21 hx21 h => cD (ref01_In_ev hx21)<|sF h (fun h => ?_) fun h => ?_
      ·refine sM rfl<|sV (.ptr 16 7)<|sL rfl<|bE h fun x23 hx23 h => cD (ref18_terms_ev hx23)<|sF h (fun h => ?_) fun h => ?_
       ·refine sM rfl<|sV (.ptr 16 7)<|sL rfl<|bE h fun x25 hx25 h => cD (ref18_total_ev hx25)<|sV (.d (.bool (x25 != (0 : Int))))<|sF h (fun h => ?_) fun h => ?_
        ·refine sM rfl<|sV (.ptr 16 8)<|sL rfl<|bE h fun x27 hx27 h => cD (ref01_In_ev hx27)<|sF h (fun h => ?_) fun h => ?_
         ·refine sM rfl<|sV (.ptr 16 9)<|sL rfl<|bE h fun x29 hx29 h => cD (ref01_In_ev hx29)<|sV (.d (.bool x29))<|sA rfl<|sN<|qR ?_
          obtain rfl:=oI h
          exact qD
         refine sM rfl<|sK<|sK<|sK<|sU<|sA rfl<|sN<|qR ?_
         obtain rfl:=oI h
         exact qD
        refine sM rfl<|sK<|sK<|sK<|sU<|sM rfl<|sK<|sK<|sK<|sU<|sA rfl<|sN<|qR ?_
        obtain rfl:=oI h
        exact qD
       refine sM rfl<|sK<|sK<|sK<|sK<|sU<|sM rfl<|sK<|sK<|sK<|sU<|sM rfl<|sK<|sK<|sK ?_
       refine sU<|sA rfl<|sN<|qR ?_
       obtain rfl:=oI h
       exact qD
      refine sM rfl<|sK<|sK<|sK<|sU<|sM rfl<|sK<|sK<|sK<|sK<|sU<|sM rfl<|sK<|sK<|sK ?_
      refine sU<|sM rfl<|sK<|sK<|sK<|sU<|sA rfl<|sN<|qR ?_
      obtain rfl:=oI h
      exact qD
     refine sM rfl<|sK<|sK<|sK<|sK<|sU<|sM rfl<|sK<|sK<|sK<|sU<|sM rfl<|sK<|sK<|sK ?_
     refine sK<|sU<|sM rfl<|sK<|sK<|sK<|sU<|sM rfl<|sK<|sK<|sK<|sU<|sA rfl<|sN<|qR ?_
     obtain rfl:=oI h
     exact qD
    refine WO.binS (eqE_90 a0.fNum (A3_Int.mk 0 0 0)) hb19 rfl rfl rfl rfl rfl<|sM rfl<|sK<|sK<|sK<|sK<|sU<|sM rfl<|sK<|sK<|sK<|sK<|sU<|sM rfl<|sK ?_
    refine sK<|sK<|sU<|sM rfl<|sK<|sK<|sK<|sK<|sU<|sM rfl<|sK<|sK<|sK<|sU<|sM rfl ?_
    refine sK<|sK<|sK<|sU<|sA rfl<|sN<|qR ?_
    obtain rfl:=oI h
    exact qD
   refine sA rfl<|sN<|cF<|qK<|gS rfl rfl<|sU<|sN<|qR ?_
   obtain rfl:=oI h
   exact qD
  refine sM rfl<|sK<|sK<|sK<|sU<|sA rfl<|sN<|qS<|gS rfl rfl<|sV (.ptr 16 0)<|sL rfl<|sN<|qB<|gS rfl rfl<|sF h (fun h => ?_) fun h => ?_
  ·refine sA rfl<|sN<|cT<|gS rfl rfl<|sM rfl<|sM rfl<|sK<|sK<|sK<|sK<|sU<|sM rfl<|sK<|sK<|sK ?_
   refine sK<|sU<|sM rfl<|sK<|sK<|sK<|sK<|sU<|sM rfl<|sK<|sK<|sK<|sK<|sU<|sM rfl ?_
   refine sK<|sK<|sK<|sK<|sU<|sM rfl<|sK<|sK<|sK<|sK<|sU<|sA rfl<|sN<|qR ?_
   obtain rfl:=oI h
   exact qD
  refine sA rfl<|sN<|cF<|gS rfl rfl<|sF h (fun h => ?_) fun h => ?_
  ·refine sA rfl<|sN<|cT<|WC.regionSeq (R0 := [(1, .cptr [.int .i64 a0.fKind, .int .i64 a0.fNum.a0, .int .i64 a0.fNum.a1, .int .i64 a0.fNum.a2, .int .i64 a0.fDen.a0, .int .i64 a0.fDen.a1, .int .i64 a0.fDen.a2, .lst (a0.fTaps.map (PD.int .i64)), .int .i64 a0.fFactor, .int .i64 a0.fShift]), (3, .d (.bool false))]) (B0 := []) rfl rfl<|sM rfl<|sM rfl<|sK<|sK<|sK<|sU<|sM rfl<|sK<|sK<|sK<|sU ?_
   refine sM rfl<|sK<|sK<|sK<|sK<|sU<|sA rfl<|sN<|qR ?_
   obtain rfl:=oI h
   exact qD
  refine sA rfl<|sN<|cF<|gS rfl rfl<|sF h (fun h => ?_) fun h => ?_
  ·refine sA rfl<|sN<|cT<|gS rfl rfl<|sV (.ptr 16 1)<|sV (.d (A3_Int.pd a0.fNum))<|sV (.d (A3_Int.pd (A3_Int.mk 0 0 0)))<|ite_elim h (fun hb33 h => ?_) (fun hb33 h => ?_)
   ·refine WO.binS (eqE_90 a0.fNum (A3_Int.mk 0 0 0)) hb33 rfl rfl rfl rfl rfl<|sM rfl<|sV (.ptr 16 4)<|sV (.d (A3_Int.pd a0.fDen))<|sV (.d (A3_Int.pd (A3_Int.mk 0 0 0)))<|WO.bin (eqE_90 a0.fDen (A3_Int.mk 0 0 0)) rfl rfl rfl rfl rfl<|sF h (fun h => ?_) fun h => ?_
    ·refine sM rfl<|sV (.ptr 16 7)<|sL rfl<|sE (.d (.int .i64 (a0.fTaps.length : Int))) (lenMap _ _)<|bE h fun x35 hx35 h => cD (ref01_In_ev hx35)<|sF h (fun h => ?_) fun h => ?_
     ·refine sM rfl<|sV (.ptr 16 7)<|sL rfl<|bE h fun x37 hx37 h => cD (ref18_terms_ev hx37)<|sF h (fun h => ?_) fun h => ?_
      ·refine sM rfl<|sV (.ptr 16 7)<|sL rfl<|bE h fun x39 hx39 h => cD (ref18_total_ev hx39)<|sV (.d (.bool (x39 != (0 : Int))))<|sF h (fun h => ?_) fun h => ?_
       ·refine sM rfl<|sV (.ptr 16 8)<|sL rfl<|bE h fun x41 hx41 h => cD (ref01_In_ev hx41)<|sF h (fun h => ?_) fun h => ?_
        ·refine sM rfl<|sV (.ptr 16 9)<|sL rfl<|bE h fun x43 hx43 h => cD (ref01_In_ev hx43)<|sV (.d (.bool x43))<|sA rfl<|sN<|qR ?_
         obtain rfl:=oI h
         exact qD
        refine sM rfl<|sK<|sK<|sK<|sU<|sA rfl<|sN<|qR ?_
        obtain rfl:=oI h
        exact qD
       refine sM rfl<|sK<|sK<|sK<|sU<|sM rfl<|sK<|sK<|sK<|sU<|sA rfl<|sN<|qR ?_
       obtain rfl:=oI h
       exact qD
      refine sM rfl<|sK<|sK<|sK<|sK<|sU<|sM rfl<|sK<|sK<|sK<|sU<|sM rfl<|sK<|sK<|sK ?_
      refine sU<|sA rfl<|sN<|qR ?_
      obtain rfl:=oI h
      exact qD
     refine sM rfl<|sK<|sK<|sK<|sU<|sM rfl<|sK<|sK<|sK<|sK<|sU<|sM rfl<|sK<|sK<|sK ?_
     refine sU<|sM rfl<|sK<|sK<|sK<|sU<|sA rfl<|sN<|qR ?_
     obtain rfl:=oI h
     exact qD
    refine sM rfl<|sK<|sK<|sK<|sK<|sU<|sM rfl<|sK<|sK<|sK<|sU<|sM rfl<|sK<|sK<|sK ?_
    refine sK<|sU<|sM rfl<|sK<|sK<|sK<|sU<|sM rfl<|sK<|sK<|sK<|sU<|sA rfl<|sN<|qR ?_
    obtain rfl:=oI h
    exact qD
   refine WO.binS (eqE_90 a0.fNum (A3_Int.mk 0 0 0)) hb33 rfl rfl rfl rfl rfl<|sM rfl<|sK<|sK<|sK<|sK<|sU<|sM rfl<|sK<|sK<|sK<|sK<|sU<|sM rfl<|sK ?_
   refine sK<|sK<|sU<|sM rfl<|sK<|sK<|sK<|sK<|sU<|sM rfl<|sK<|sK<|sK<|sU<|sM rfl ?_
   refine sK<|sK<|sK<|sU<|sA rfl<|sN<|qR ?_
   obtain rfl:=oI h
   exact qD
  refine sA rfl<|sN<|cF<|qK<|gS rfl rfl<|sU<|sN<|qR ?_
  obtain rfl:=oI h
  exact qD
 refine sM rfl<|sK<|sK<|sK<|sU<|sM rfl<|sK<|sK<|sK<|sU<|sA rfl<|sN<|qS<|gS rfl rfl<|sV (.ptr 16 0) ?_
 refine sL rfl<|sN<|qB<|gS rfl rfl<|sF h (fun h => ?_) fun h => ?_
 ·refine sA rfl<|sN<|cT<|gS rfl rfl<|sM rfl<|sM rfl<|sK<|sK<|sK<|sK<|sU<|sM rfl<|sK<|sK<|sK ?_
  refine sK<|sU<|sM rfl<|sK<|sK<|sK<|sK<|sU<|sM rfl<|sK<|sK<|sK<|sK<|sU<|sM rfl ?_
  refine sK<|sK<|sK<|sK<|sU<|sM rfl<|sK<|sK<|sK<|sK<|sU<|sA rfl<|sN<|qR ?_
  obtain rfl:=oI h
  exact qD
 refine sA rfl<|sN<|cF<|gS rfl rfl<|sF h (fun h => ?_) fun h => ?_
 ·refine sA rfl<|sN<|cT<|WC.regionSeq (R0 := [(1, .cptr [.int .i64 a0.fKind, .int .i64 a0.fNum.a0, .int .i64 a0.fNum.a1, .int .i64 a0.fNum.a2, .int .i64 a0.fDen.a0, .int .i64 a0.fDen.a1, .int .i64 a0.fDen.a2, .lst (a0.fTaps.map (PD.int .i64)), .int .i64 a0.fFactor, .int .i64 a0.fShift]), (3, .d (.bool false))]) (B0 := []) rfl rfl<|sM rfl<|sM rfl<|sK<|sK<|sK<|sU<|sM rfl<|sK<|sK<|sK<|sU ?_
  refine sM rfl<|sK<|sK<|sK<|sK<|sU<|sA rfl<|sN<|qR ?_
  obtain rfl:=oI h
  exact qD
 refine sA rfl<|sN<|cF<|gS rfl rfl<|sF h (fun h => ?_) fun h => ?_
 ·refine sA rfl<|sN<|cT<|gS rfl rfl<|sV (.ptr 16 1)<|sV (.d (A3_Int.pd a0.fNum))<|sV (.d (A3_Int.pd (A3_Int.mk 0 0 0)))<|ite_elim h (fun hb47 h => ?_) (fun hb47 h => ?_)
  ·refine WO.binS (eqE_90 a0.fNum (A3_Int.mk 0 0 0)) hb47 rfl rfl rfl rfl rfl<|sM rfl<|sV (.ptr 16 4)<|sV (.d (A3_Int.pd a0.fDen))<|sV (.d (A3_Int.pd (A3_Int.mk 0 0 0)))<|WO.bin (eqE_90 a0.fDen (A3_Int.mk 0 0 0)) rfl rfl rfl rfl rfl<|sF h (fun h => ?_) fun h => ?_
   ·refine sM rfl<|sV (.ptr 16 7)<|sL rfl<|sE (.d (.int .i64 (a0.fTaps.length : Int))) (lenMap _ _)<|bE h fun x49 hx49 h => cD (ref01_In_ev hx49)<|sF h (fun h => ?_) fun h => ?_
    ·refine sM rfl<|sV (.ptr 16 7)<|sL rfl<|bE h fun x51 hx51 h => cD (ref18_terms_ev hx51)<|sF h (fun h => ?_) fun h => ?_
     ·refine sM rfl<|sV (.ptr 16 7)<|sL rfl<|bE h fun x53 hx53 h => cD (ref18_total_ev hx53)<|sV (.d (.bool (x53 != (0 : Int))))<|sF h (fun h => ?_) fun h => ?_
      ·refine sM rfl<|sV (.ptr 16 8)<|sL rfl<|bE h fun x55 hx55 h => cD (ref01_In_ev hx55)<|sF h (fun h => ?_) fun h => ?_
       ·refine sM rfl<|sV (.ptr 16 9)<|sL rfl<|bE h fun x57 hx57 h => cD (ref01_In_ev hx57)<|sV (.d (.bool x57))<|sA rfl<|sN<|qR ?_
        obtain rfl:=oI h
        exact qD
       refine sM rfl<|sK<|sK<|sK<|sU<|sA rfl<|sN<|qR ?_
       obtain rfl:=oI h
       exact qD
      refine sM rfl<|sK<|sK<|sK<|sU<|sM rfl<|sK<|sK<|sK<|sU<|sA rfl<|sN<|qR ?_
      obtain rfl:=oI h
      exact qD
     refine sM rfl<|sK<|sK<|sK<|sK<|sU<|sM rfl<|sK<|sK<|sK<|sU<|sM rfl<|sK<|sK<|sK ?_
     refine sU<|sA rfl<|sN<|qR ?_
     obtain rfl:=oI h
     exact qD
    refine sM rfl<|sK<|sK<|sK<|sU<|sM rfl<|sK<|sK<|sK<|sK<|sU<|sM rfl<|sK<|sK<|sK ?_
    refine sU<|sM rfl<|sK<|sK<|sK<|sU<|sA rfl<|sN<|qR ?_
    obtain rfl:=oI h
    exact qD
   refine sM rfl<|sK<|sK<|sK<|sK<|sU<|sM rfl<|sK<|sK<|sK<|sU<|sM rfl<|sK<|sK<|sK ?_
   refine sK<|sU<|sM rfl<|sK<|sK<|sK<|sU<|sM rfl<|sK<|sK<|sK<|sU<|sA rfl<|sN<|qR ?_
   obtain rfl:=oI h
   exact qD
  refine WO.binS (eqE_90 a0.fNum (A3_Int.mk 0 0 0)) hb47 rfl rfl rfl rfl rfl<|sM rfl<|sK<|sK<|sK<|sK<|sU<|sM rfl<|sK<|sK<|sK<|sK<|sU<|sM rfl<|sK ?_
  refine sK<|sK<|sU<|sM rfl<|sK<|sK<|sK<|sK<|sU<|sM rfl<|sK<|sK<|sK<|sU<|sM rfl ?_
  refine sK<|sK<|sK<|sU<|sA rfl<|sN<|qR ?_
  obtain rfl:=oI h
  exact qD
 refine sA rfl<|sN<|cF<|qK<|gS rfl rfl<|sU<|sN<|qR ?_
 obtain rfl:=oI h
 exact qD
theorem ref18_Valid_ev {a0 : T_api_Response} {r : Bool} (h : ref18_Valid a0 = some r) : EvP prog hints ext 58 [.d (T_api_Response.pd a0)] [] (.d (.bool r), []) := by
 refine Ev.body rfl Tryz.func58 rfl (by kernel_rfl)<|gS rfl rfl<|sB (.ptr 16 0) 16 (.var [.d (.lst (a0.fStages.map T_api_Stage.pd))])<|sU<|sN<|gS rfl rfl<|sV (.d (.int .i64 1))<|sN<|qS<|gS rfl rfl<|sV (.d (.int .i64 0))<|sN<|bE h fun o13 ho13 h => WC.block (WC.loop (WL.ofLoop ho13 (fun s R' B' => ghosts prog 0 (A R' B') (hints.at_ 58 3) = some (A [(1, .ptr 16 0), (3, .d (.int .i64 s.1)), (4, .d (.int .i64 s.2))] [(16, .var [.d (.lst (a0.fStages.map T_api_Stage.pd))])])) (fun o e R' B' => match o with | .inl y => e = .exit 0 ∧ ghosts prog 0 (A R' B') (hints.at_ 58 11) = some (A [(1, .ptr 16 0)] [(16, .var [.d (.lst (a0.fStages.map T_api_Stage.pd))])]) | .inr r => e = .ret ∧ finish prog (hints.own 58) Tryz.f58 0 (A R' B') = some (.d (.bool r), [])) rfl ?_ ?_))
 ·rintro ⟨s1, s2⟩ R' B' q3 hI h
  refine qS<|gS rfl hI<|sM rfl<|sV (.ptr 16 0)<|sL rfl<|sE (.d (.int .i64 (a0.fStages.length : Int))) (lenMap _ _)<|sF h (fun h => ?_) fun h => ?_
  ·refine sN<|cT<|qK<|qS<|qB<|qS<|gS rfl rfl<|sV (.ptr 16 0)<|sL rfl<|sM rfl<|bE h fun x5 hx5 h => WO.elemG hx5 rfl rfl rfl rfl rfl rfl rfl rfl rfl<|sV (.d (T_api_Stage.pd x5))<|bE h fun x6 hx6 h => cD (ref18_ValidStage_ev hx6) ?_
   refine sF h (fun h => ?_) fun h => ?_
   ·refine sN<|cT<|gS rfl rfl<|sU<|sN<|qR ?_
    obtain rfl:=oI h
    exact ⟨(fun he => by cases he), rfl, rfl⟩
   refine sN<|cF<|qK<|gS rfl rfl<|sV (.ptr 16 0)<|sL rfl<|sM rfl<|bE h fun x8 hx8 h => WO.elemG hx8 rfl rfl rfl rfl rfl rfl rfl rfl rfl<|sV (.cptr [.int .i64 x8.fKind, .int .i64 x8.fNum.a0, .int .i64 x8.fNum.a1, .int .i64 x8.fNum.a2, .int .i64 x8.fDen.a0, .int .i64 x8.fDen.a1, .int .i64 x8.fDen.a2, .lst (x8.fTaps.map (PD.int .i64)), .int .i64 x8.fFactor, .int .i64 x8.fShift])<|sC rfl<|sF h (fun h => ?_) fun h => ?_
   ·refine sN<|cT<|gS rfl rfl<|sM rfl<|sV (.ptr 16 0)<|sL rfl<|sM rfl<|bE h fun x10 hx10 h => WO.elemG hx10 rfl rfl rfl rfl rfl rfl rfl rfl rfl<|sV (.cptr [.int .i64 x10.fFactor, .int .i64 x10.fShift])<|sC rfl<|sV (.d (.int .i64 (IntKind.wrap .i64 (s1 * x10.fFactor))))<|sA rfl<|sN<|gS rfl rfl ?_
    refine sM rfl<|sF h (fun h => ?_) fun h => ?_
    ·refine sN<|cT<|gS rfl rfl<|sU<|sN<|qR ?_
     obtain rfl:=oI h
     exact ⟨(fun he => by cases he), rfl, rfl⟩
    refine sN<|cF<|qK<|WC.region rfl rfl<|sM rfl<|sV (.d (.int .i64 (IntKind.wrap .i64 (s2 + (1 : Int)))))<|sA rfl<|sN ?_
    obtain rfl:=oI h
    exact ⟨rfl, rfl⟩
   refine sN<|cF<|qK<|WC.region rfl rfl<|sM rfl<|sV (.d (.int .i64 (IntKind.wrap .i64 (s2 + (1 : Int)))))<|sA rfl<|sN ?_
   obtain rfl:=oI h
   exact ⟨rfl, rfl⟩
  refine sN<|cF<|qX ?_
  obtain rfl:=oI h
  exact ⟨(fun he => by cases he), rfl, rfl⟩
 intro e R' B' he hq
 rcases o13 with y14 | r15
 ·obtain ⟨rfl, hI⟩ := hq
  refine qE<|gS rfl hI<|sV (.ptr 16 0)<|sL rfl<|sE (.d (.int .i64 (a0.fStages.length : Int))) (lenMap _ _)<|sV (.d (.bool (decide ((a0.fStages.length : Int) ≤ (8 : Int)))))<|sA rfl<|sN<|qR ?_
  obtain rfl:=oI h
  exact qD
 obtain ⟨rfl, hf⟩ := hq
 obtain rfl:=oI h
 exact hf
theorem ref19_ValidEpoch_ev {a0 : T_api_Epoch} {r : Bool} (h : ref19_ValidEpoch a0 = some r) : EvP prog hints ext 31 [.d (T_api_Epoch.pd a0)] [] (.d (.bool r), []) := by
 refine Ev.body rfl Tryz.func31 rfl (by kernel_rfl)<|gS rfl rfl<|sB (.ptr 16 0) 16 (.var [.d (.int .i64 a0.fFrom), .d (.int .i64 a0.fTo), .d (.int .i64 a0.fRate.fNum), .d (.int .i64 a0.fRate.fDen), .d (.int .i64 a0.fPosition.fX), .d (.int .i64 a0.fPosition.fY), .d (.int .i64 a0.fPosition.fZ), .d (.lst (a0.fResponse.fStages.map T_api_Stage.pd))])<|sU<|sN<|gS rfl rfl<|sV (.ptr 16 4)<|sV (.d (T_api_Position.pd a0.fPosition))<|sB (.ptr 48 0) 48 (.var [.d (.int .i64 0), .d (.int .i64 0), .d (.int .i64 0)])<|sS 48 (.var [.d (.int .i64 a0.fPosition.fX), .d (.int .i64 a0.fPosition.fY), .d (.int .i64 a0.fPosition.fZ)])<|sN<|gS rfl rfl<|sV (.ptr 16 0)<|sL rfl<|sF h (fun h => ?_) fun h => ?_
 ·refine sM rfl<|sV (.ptr 16 0)<|sL rfl<|sV (.ptr 16 1)<|sL rfl<|sV (.d (.bool (decide (a0.fFrom < a0.fTo))))<|sF h (fun h => ?_) fun h => ?_
  ·refine sM rfl<|sV (.ptr 16 1)<|sL rfl<|sV (.d (.bool (decide (a0.fTo ≤ (9007199254740992 : Int)))))<|sF h (fun h => ?_) fun h => ?_
   ·refine sM rfl<|sV (.ptr 16 2)<|sV (.d (T_api_Rate.pd a0.fRate))<|bE h fun x4 hx4 h => cD (ref02_Valid_ev hx4)<|sF h (fun h => ?_) fun h => ?_
    ·refine sM rfl<|sV (.ptr 16 7)<|sV (.d (T_api_Response.pd a0.fResponse))<|bE h fun x6 hx6 h => cD (ref18_Valid_ev hx6)<|sF h (fun h => ?_) fun h => ?_
     ·refine sM rfl<|sV (.ptr 48 0)<|sL rfl<|bE h fun x8 hx8 h => cD (ref01_In_ev hx8)<|sF h (fun h => ?_) fun h => ?_
      ·refine sM rfl<|sV (.ptr 48 1)<|sL rfl<|bE h fun x10 hx10 h => cD (ref01_In_ev hx10)<|sF h (fun h => ?_) fun h => ?_
       ·refine sM rfl<|sV (.ptr 48 2)<|sL rfl<|bE h fun x12 hx12 h => cD (ref01_In_ev hx12)<|sV (.d (.bool x12))<|sA rfl<|sN<|qR ?_
        obtain rfl:=oI h
        exact qD
       refine sM rfl<|sK<|sK<|sK<|sU<|sA rfl<|sN<|qR ?_
       obtain rfl:=oI h
       exact qD
      refine sM rfl<|sK<|sK<|sK<|sU<|sM rfl<|sK<|sK<|sK<|sU<|sA rfl<|sN<|qR ?_
      obtain rfl:=oI h
      exact qD
     refine sM rfl<|sK<|sK<|sK<|sU<|sM rfl<|sK<|sK<|sK<|sU<|sM rfl<|sK<|sK<|sK<|sU ?_
     refine sA rfl<|sN<|qR ?_
     obtain rfl:=oI h
     exact qD
    refine sM rfl<|sK<|sK<|sK<|sU<|sM rfl<|sK<|sK<|sK<|sU<|sM rfl<|sK<|sK<|sK<|sU ?_
    refine sM rfl<|sK<|sK<|sK<|sU<|sA rfl<|sN<|qR ?_
    obtain rfl:=oI h
    exact qD
   refine sM rfl<|sK<|sK<|sK<|sU<|sM rfl<|sK<|sK<|sK<|sU<|sM rfl<|sK<|sK<|sK<|sU ?_
   refine sM rfl<|sK<|sK<|sK<|sU<|sM rfl<|sK<|sK<|sK<|sU<|sA rfl<|sN<|qR ?_
   obtain rfl:=oI h
   exact qD
  refine sM rfl<|sK<|sK<|sK<|sU<|sM rfl<|sK<|sK<|sK<|sU<|sM rfl<|sK<|sK<|sK<|sU ?_
  refine sM rfl<|sK<|sK<|sK<|sU<|sM rfl<|sK<|sK<|sK<|sU<|sM rfl<|sK<|sK<|sK<|sU ?_
  refine sA rfl<|sN<|qR ?_
  obtain rfl:=oI h
  exact qD
 refine sM rfl<|sK<|sK<|sK<|sK<|sK<|sU<|sM rfl<|sK<|sK<|sK<|sU<|sM rfl<|sK<|sK ?_
 refine sK<|sU<|sM rfl<|sK<|sK<|sK<|sU<|sM rfl<|sK<|sK<|sK<|sU<|sM rfl<|sK<|sK ?_
 refine sK<|sU<|sM rfl<|sK<|sK<|sK<|sU<|sA rfl<|sN<|qR ?_
 obtain rfl:=oI h
 exact qD
theorem ref03_compare_ev {a0 : (List UInt8)} {a1 : (List UInt8)} {r : Int} (h : ref03_compare a0 a1 = some r) : EvP prog hints ext 82 [.d (.str a0), .d (.str a1)] [] (.d (.int .i64 r), []) := by
 refine Ev.body rfl Tryz.func82 rfl (by kernel_rfl)<|gS rfl rfl<|sV (.d (.int .i64 0))<|sN<|qS<|qB<|gS rfl rfl<|sM rfl<|sM rfl<|sF h (fun h => ?_) fun h => ?_
 ·refine sA rfl<|sN<|cT<|gS rfl rfl<|sV (.d (.int .i64 (-1)))<|sN<|qR ?_
  obtain rfl:=oI h
  exact qD
 refine sA rfl<|sN<|cF<|gS rfl rfl<|sM rfl<|sM rfl<|sF h (fun h => ?_) fun h => ?_
 ·refine sA rfl<|sN<|cT<|gS rfl rfl<|sV (.d (.int .i64 1))<|sN<|qR ?_
  obtain rfl:=oI h
  exact qD
 refine sA rfl<|sN<|cF<|qK<|gS rfl rfl<|sV (.d (.int .i64 0))<|sN<|qR ?_
 obtain rfl:=oI h
 exact qD
theorem ref03_Compare_ev {a0 : T_api_SourceID} {a1 : T_api_SourceID} {r : Int} (h : ref03_Compare a0 a1 = some r) : EvP prog hints ext 45 [.d (T_api_SourceID.pd a0), .d (T_api_SourceID.pd a1)] [] (.d (.int .i64 r), []) := by
 refine Ev.body rfl Tryz.func45 rfl (by kernel_rfl)<|gS rfl rfl<|sB (.ptr 32 0) 32 (.var [.d (.str a0.fNetwork), .d (.str a0.fStation), .d (.str a0.fLocation), .d (.str a0.fChannel)])<|sB (.ptr 48 0) 48 (.var [.d (.str a1.fNetwork), .d (.str a1.fStation), .d (.str a1.fLocation), .d (.str a1.fChannel)])<|sV (.d (.int .i64 0))<|sN<|qS<|WC.regionDSeq rfl rfl<|sV (.ptr 32 0)<|sL rfl<|sV (.ptr 48 0)<|sL rfl<|bE h fun x1 hx1 h => cD (ref03_compare_ev hx1)<|sV (.ptr 32 1) ?_
 refine sL rfl<|sV (.ptr 48 1)<|sL rfl<|bE h fun x2 hx2 h => cD (ref03_compare_ev hx2)<|sV (.ptr 32 2)<|sL rfl<|sV (.ptr 48 2)<|sL rfl<|bE h fun x3 hx3 h => cD (ref03_compare_ev hx3)<|sV (.ptr 32 3)<|sL rfl<|sV (.ptr 48 3)<|sL rfl ?_
 refine bE h fun x4 hx4 h => cD (ref03_compare_ev hx4)<|sV (.d (A4_Int.pd (A4_Int.mk x1 x2 x3 x4)))<|sV (.d (.int .i64 0)) ?_
 refine sN<|sO<|WC.block (WC.loop ?_)
 refine WL.round<|gS rfl rfl<|sT<|sN<|qS<|cT<|qK<|qS<|qB<|gS rfl rfl<|sV (.d (.int .i64 ((A4_Int.mk x1 x2 x3 x4).a0)))<|sA rfl<|sN<|gS rfl rfl<|sM rfl ?_
 refine sF h (fun h => ?_) fun h => ?_
 ·refine sN<|cT<|gS rfl rfl<|sM rfl<|sA rfl<|sN<|qR ?_
  obtain rfl:=oI h
  exact qD
 refine sN<|cF<|qK<|WC.region rfl rfl<|sV (.d (.int .i64 1))<|sM rfl<|sN<|WL.round<|gS rfl rfl<|sT<|sN<|qS<|cT<|qK<|qS ?_
 refine qB<|gS rfl rfl<|sV (.d (.int .i64 ((A4_Int.mk x1 x2 x3 x4).a1)))<|sA rfl<|sN<|gS rfl rfl<|sM rfl<|sF h (fun h => ?_) fun h => ?_
 ·refine sN<|cT<|gS rfl rfl<|sM rfl<|sA rfl<|sN<|qR ?_
  obtain rfl:=oI h
  exact qD
 refine sN<|cF<|qK<|WC.region rfl rfl<|sV (.d (.int .i64 2))<|sM rfl<|sN<|WL.round<|gS rfl rfl<|sT<|sN<|qS<|cT<|qK<|qS ?_
 refine qB<|gS rfl rfl<|sV (.d (.int .i64 ((A4_Int.mk x1 x2 x3 x4).a2)))<|sA rfl<|sN<|gS rfl rfl<|sM rfl<|sF h (fun h => ?_) fun h => ?_
 ·refine sN<|cT<|gS rfl rfl<|sM rfl<|sA rfl<|sN<|qR ?_
  obtain rfl:=oI h
  exact qD
 refine sN<|cF<|qK<|WC.region rfl rfl<|sV (.d (.int .i64 3))<|sM rfl<|sN<|WL.round<|gS rfl rfl<|sT<|sN<|qS<|cT<|qK<|qS ?_
 refine qB<|gS rfl rfl<|sV (.d (.int .i64 ((A4_Int.mk x1 x2 x3 x4).a3)))<|sA rfl<|sN<|gS rfl rfl<|sM rfl<|sF h (fun h => ?_) fun h => ?_
 ·refine sN<|cT<|gS rfl rfl<|sM rfl<|sA rfl<|sN<|qR ?_
  obtain rfl:=oI h
  exact qD
 refine sN<|cF<|qK<|WC.region rfl rfl<|sV (.d (.int .i64 4))<|sM rfl<|sN<|WL.round<|gS rfl rfl<|sU<|sN<|qS<|cF<|qX<|qE ?_
 refine gS rfl rfl<|sV (.d (.int .i64 0))<|sN<|qR ?_
 obtain rfl:=oI h
 exact qD
theorem ref19_Valid_ev {a0 : T_api_Inventory} {r : Bool} (h : ref19_Valid a0 = some r) : EvP prog hints ext 17 [.d (T_api_Inventory.pd a0)] [] (.d (.bool r), []) := by
 refine Ev.body rfl Tryz.func17 rfl (by kernel_rfl)<|gS rfl rfl<|sB (.ptr 16 0) 16 (.var [.d (.lst (a0.fChannels.map T_api_Channel.pd))])<|sU<|sN<|qS<|gS rfl rfl<|sV (.d (.int .i64 0))<|sN<|bE h fun o32 ho32 h => WC.block (WC.loop (WL.ofLoop ho32 (fun s R' B' => ghosts prog 0 (A R' B') (hints.at_ 17 2) = some (A [(1, .ptr 16 0), (3, .d (.int .i64 s))] [(16, .var [.d (.lst (a0.fChannels.map T_api_Channel.pd))])])) (fun o e R' B' => match o with | .inl y => e = .exit 0 ∧ ghosts prog 0 (A R' B') (hints.at_ 17 12) = some (A [(1, .ptr 16 0)] [(16, .var [.d (.lst (a0.fChannels.map T_api_Channel.pd))])]) | .inr r => e = .ret ∧ finish prog (hints.own 17) Tryz.f17 0 (A R' B') = some (.d (.bool r), [])) rfl ?_ ?_))
 ·rintro s1 R' B' q2 hI h
  refine qS<|gS rfl hI<|sM rfl<|sV (.ptr 16 0)<|sL rfl<|sE (.d (.int .i64 (a0.fChannels.length : Int))) (lenMap _ _)<|sF h (fun h => ?_) fun h => ?_
  ·refine sN<|cT<|qK<|qS<|qB<|gS rfl rfl<|sV (.ptr 16 0)<|sL rfl<|sM rfl<|bE h fun x4 hx4 h => WO.elemG hx4 rfl rfl rfl rfl rfl rfl rfl rfl rfl<|sV (.d (T_api_Channel.pd x4))<|sB (.ptr 64 0) 64 (.var [.d (.str []), .d (.str []), .d (.str []), .d (.str []), .nils])<|sS 64 (.var [.d (.str x4.fSource.fNetwork), .d (.str x4.fSource.fStation), .d (.str x4.fSource.fLocation), .d (.str x4.fSource.fChannel), .d (.lst (x4.fEpochs.map T_api_Epoch.pd))])<|sN ?_
   refine WC.join (α := Unit) (fun x R' B' => ghosts prog 0 (A R' B') (hints.at_ 17 7) = some (A [(1, .ptr 16 0), (3, .d (.int .i64 s1)), (4, .ptr 64 0)] [(16, .var [.d (.lst (a0.fChannels.map T_api_Channel.pd))]), (64, .var [.d (.str x4.fSource.fNetwork), .d (.str x4.fSource.fStation), .d (.str x4.fSource.fLocation), .d (.str x4.fSource.fChannel), .d (.lst (x4.fEpochs.map T_api_Epoch.pd))])])) (fun x => ref19_Valid_k20 x4 s1 = some q2) ?_ ?_
   ·refine WC.regionDSeq rfl rfl<|sV (.ptr 64 0)<|sV (.d (T_api_SourceID.pd x4.fSource))<|bE h fun x21 hx21 h => cD (ref03_Valid_ev hx21)<|sF h (fun h => ?_) fun h => ?_
    ·refine sM rfl<|sK<|sK<|sK<|sK<|sK<|sK<|sK<|sK<|sK<|sK<|sK<|sK<|sK<|sK ?_
     refine sK<|sT<|sM rfl<|sK<|sK<|sK<|sK<|sK<|sT ?_
     refine sN<|sO<|cT<|gS rfl rfl<|sU<|sN<|qR ?_
     obtain rfl:=oI h
     exact ⟨(fun he => by cases he), rfl, rfl⟩
    refine sM rfl<|sM rfl<|sF h (fun h => ?_) fun h => ?_
    ·refine sM rfl<|sV (.ptr 16 0)<|sL rfl<|sM rfl<|sV (.d (.int .i64 (IntKind.wrap .i64 (s1 - (1 : Int)))))<|bE h fun x24 hx24 h => WO.elemG hx24 rfl rfl rfl rfl rfl rfl rfl rfl rfl<|sV (.cptr [.str x24.fSource.fNetwork, .str x24.fSource.fStation, .str x24.fSource.fLocation, .str x24.fSource.fChannel, .lst (x24.fEpochs.map T_api_Epoch.pd)])<|sV (.d (T_api_SourceID.pd x24.fSource))<|sV (.ptr 64 0)<|sV (.d (T_api_SourceID.pd x4.fSource))<|bE h fun x25 hx25 h => cD (ref03_Compare_ev hx25)<|sV (.d (.bool (decide (x25 ≥ (0 : Int)))))<|sV (.d (.bool (decide (x25 ≥ (0 : Int))))) ?_
     refine sF h (fun h => ?_) fun h => ?_
     ·refine sM rfl<|sK<|sK<|sK<|sK<|sK<|sT ?_
      refine sN<|sO<|cT<|gS rfl rfl<|sU<|sN<|qR ?_
      obtain rfl:=oI h
      exact ⟨(fun he => by cases he), rfl, rfl⟩
     refine sM rfl<|sV (.ptr 64 4)<|sL rfl<|sE (.d (.int .i64 (x4.fEpochs.length : Int))) (lenMap _ _)<|bE h fun x27 hx27 h => cD (ref01_In_ev hx27)<|sV (.d (.bool (!x27)))<|sF h (fun h => ?_) fun h => ?_
     ·refine sN<|sO<|cT<|gS rfl rfl<|sU<|sN<|qR ?_
      obtain rfl:=oI h
      exact ⟨(fun he => by cases he), rfl, rfl⟩
     exact sN<|sO<|cF<|qK<|⟨(), rfl, h⟩
    refine sM rfl<|sK<|sK<|sK<|sK<|sK<|sK<|sK<|sK<|sK<|sK<|sK<|sU<|sU<|sM rfl ?_
    refine sV (.ptr 64 4)<|sL rfl<|sE (.d (.int .i64 (x4.fEpochs.length : Int))) (lenMap _ _)<|bE h fun x29 hx29 h => cD (ref01_In_ev hx29)<|sV (.d (.bool (!x29)))<|sF h (fun h => ?_) fun h => ?_
    ·refine sN<|sO<|cT<|gS rfl rfl<|sU<|sN<|qR ?_
     obtain rfl:=oI h
     exact ⟨(fun he => by cases he), rfl, rfl⟩
    exact sN<|sO<|cF<|qK<|⟨(), rfl, h⟩
   rintro ⟨⟩ R' B' hI h
   refine gS rfl hI<|sV (.d (.int .i64 0))<|sN<|bE h fun o17 ho17 h => WC.block (WC.loop (WL.ofLoop ho17 (fun s R' B' => ghosts prog 0 (A R' B') (hints.at_ 17 8) = some (A [(1, .ptr 16 0), (3, .d (.int .i64 s1)), (4, .ptr 64 0), (5, .d (.int .i64 s))] [(16, .var [.d (.lst (a0.fChannels.map T_api_Channel.pd))]), (64, .var [.d (.str x4.fSource.fNetwork), .d (.str x4.fSource.fStation), .d (.str x4.fSource.fLocation), .d (.str x4.fSource.fChannel), .d (.lst (x4.fEpochs.map T_api_Epoch.pd))])])) (fun o e R' B' => match o with | .inl y => e = .exit 2 ∧ ghosts prog 0 (A R' B') (hints.at_ 17 3) = some (A [(1, .ptr 16 0), (3, .d (.int .i64 y))] [(16, .var [.d (.lst (a0.fChannels.map T_api_Channel.pd))])]) | .inr r => e = .ret ∧ finish prog (hints.own 17) Tryz.f17 0 (A R' B') = some (.d (.bool r), [])) rfl ?_ ?_))
   ·rintro s5 R' B' q7 hI h
    refine qS<|gS rfl hI<|sM rfl<|sV (.ptr 64 4)<|sL rfl<|sE (.d (.int .i64 (x4.fEpochs.length : Int))) (lenMap _ _)<|sF h (fun h => ?_) fun h => ?_
    ·refine sN<|cT<|qK<|qS<|qB<|WC.regionDSeq rfl rfl<|sV (.ptr 64 4)<|sL rfl<|sM rfl<|bE h fun x9 hx9 h => WO.elemG hx9 rfl rfl rfl rfl rfl rfl rfl rfl rfl<|sV (.d (T_api_Epoch.pd x9))<|bE h fun x10 hx10 h => cD (ref19_ValidEpoch_ev hx10)<|sF h (fun h => ?_) fun h => ?_
     ·refine sM rfl<|sK<|sK<|sK<|sK<|sK<|sK<|sK<|sK<|sK<|sK<|sK<|sK<|sK<|sK ?_
      refine sK<|sK<|sK<|sK<|sT ?_
      refine sN<|sO<|cT<|gS rfl rfl<|sU<|sN<|qR ?_
      obtain rfl:=oI h
      exact ⟨(fun he => by cases he), rfl, rfl⟩
     refine sM rfl<|sM rfl<|sF h (fun h => ?_) fun h => ?_
     ·refine sM rfl<|sV (.ptr 64 4)<|sL rfl<|sM rfl<|bE h fun x13 hx13 h => WO.elemG hx13 rfl rfl rfl rfl rfl rfl rfl rfl rfl<|sV (.cptr [.int .i64 x13.fFrom, .int .i64 x13.fTo, .int .i64 x13.fRate.fNum, .int .i64 x13.fRate.fDen, .int .i64 x13.fPosition.fX, .int .i64 x13.fPosition.fY, .int .i64 x13.fPosition.fZ, .lst (x13.fResponse.fStages.map T_api_Stage.pd)])<|sC rfl<|sV (.ptr 64 4)<|sL rfl<|sM rfl<|sV (.d (.int .i64 (IntKind.wrap .i64 (s5 - (1 : Int)))))<|bE h fun x14 hx14 h => WO.elemG hx14 rfl rfl rfl rfl rfl rfl rfl rfl rfl<|sV (.cptr [.int .i64 x14.fTo, .int .i64 x14.fRate.fNum, .int .i64 x14.fRate.fDen, .int .i64 x14.fPosition.fX, .int .i64 x14.fPosition.fY, .int .i64 x14.fPosition.fZ, .lst (x14.fResponse.fStages.map T_api_Stage.pd)]) ?_
      refine sC rfl<|sV (.d (.bool (decide (x13.fFrom < x14.fTo))))<|sV (.d (.bool (decide (x13.fFrom < x14.fTo))))<|sF h (fun h => ?_) fun h => ?_
      ·refine sN<|sO<|cT<|gS rfl rfl<|sU<|sN<|qR ?_
       obtain rfl:=oI h
       exact ⟨(fun he => by cases he), rfl, rfl⟩
      refine sN<|sO<|cF<|qK<|WC.region rfl rfl<|sM rfl<|sV (.d (.int .i64 (IntKind.wrap .i64 (s5 + (1 : Int)))))<|sA rfl<|sN ?_
      obtain rfl:=oI h
      exact ⟨rfl, rfl⟩
     refine sM rfl<|sK<|sK<|sK<|sK<|sK<|sK<|sK<|sK<|sK<|sK<|sK<|sK<|sK<|sK ?_
     refine sU<|sU ?_
     refine sN<|sO<|cF<|qK<|WC.region rfl rfl<|sM rfl<|sV (.d (.int .i64 (IntKind.wrap .i64 (s5 + (1 : Int)))))<|sA rfl<|sN ?_
     obtain rfl:=oI h
     exact ⟨rfl, rfl⟩
    refine sN<|cF<|qX ?_
    obtain rfl:=oI h
    exact ⟨(fun he => by cases he), rfl, rfl⟩
   intro e R' B' he hq
   rcases o17 with y18 | r19
   ·obtain ⟨rfl, hI⟩ := hq
    refine qE<|WC.region hI rfl<|sM rfl<|sV (.d (.int .i64 (IntKind.wrap .i64 (y18 + (1 : Int)))))<|sA rfl<|sN ?_
    obtain rfl:=oI h
    exact ⟨rfl, rfl⟩
   obtain ⟨rfl, hf⟩ := hq
   obtain rfl:=oI h
   exact ⟨(fun he => by cases he), rfl, hf⟩
  refine sN<|cF<|qX ?_
  obtain rfl:=oI h
  exact ⟨(fun he => by cases he), rfl, rfl⟩
 intro e R' B' he hq
 rcases o32 with y33 | r34
 ·obtain ⟨rfl, hI⟩ := hq
  refine qE<|gS rfl hI<|sV (.ptr 16 0)<|sL rfl<|sE (.d (.int .i64 (a0.fChannels.length : Int))) (lenMap _ _)<|sV (.d (.bool (decide ((a0.fChannels.length : Int) ≤ (128 : Int)))))<|sA rfl<|sN<|qR ?_
  obtain rfl:=oI h
  exact qD
 obtain ⟨rfl, hf⟩ := hq
 obtain rfl:=oI h
 exact hf
theorem ref18_SameStage_ev {a0 : T_api_Stage} {a1 : T_api_Stage} {r : Bool} (h : ref18_SameStage a0 a1 = some r) : EvP prog hints ext 85 [.d (T_api_Stage.pd a0), .d (T_api_Stage.pd a1)] [] (.d (.bool r), []) := by
 refine Ev.body rfl Tryz.func85 rfl (by kernel_rfl)<|gS rfl rfl<|sB (.ptr 32 0) 32 (.var [.d (.int .i64 a0.fKind), .d (.int .i64 a0.fNum.a0), .d (.int .i64 a0.fNum.a1), .d (.int .i64 a0.fNum.a2), .d (.int .i64 a0.fDen.a0), .d (.int .i64 a0.fDen.a1), .d (.int .i64 a0.fDen.a2), .d (.lst (a0.fTaps.map (PD.int .i64))), .d (.int .i64 a0.fFactor), .d (.int .i64 a0.fShift)])<|sB (.ptr 48 0) 48 (.var [.d (.int .i64 a1.fKind), .d (.int .i64 a1.fNum.a0), .d (.int .i64 a1.fNum.a1), .d (.int .i64 a1.fNum.a2), .d (.int .i64 a1.fDen.a0), .d (.int .i64 a1.fDen.a1), .d (.int .i64 a1.fDen.a2), .d (.lst (a1.fTaps.map (PD.int .i64))), .d (.int .i64 a1.fFactor), .d (.int .i64 a1.fShift)])<|sU<|sN<|qS<|gS rfl rfl<|sV (.ptr 32 0)<|sL rfl<|sV (.ptr 48 0)<|sL rfl<|sF h (fun h => ?_) fun h => ?_
 ·refine sM rfl<|sK<|sK<|sK<|sK<|sK<|sT<|sM rfl<|sK<|sK<|sK<|sK<|sK<|sT<|sM rfl ?_
  refine sK<|sK<|sK<|sK<|sK<|sT<|sM rfl<|sK<|sK<|sK<|sK<|sK<|sT<|sM rfl<|sK ?_
  refine sK<|sK<|sK<|sK<|sK<|sK<|sT<|sN<|cT<|gS rfl rfl<|sU<|sN<|qR ?_
  obtain rfl:=oI h
  exact qD
 refine sM rfl<|sV (.ptr 32 1)<|sV (.d (A3_Int.pd a0.fNum))<|sV (.ptr 48 1)<|sV (.d (A3_Int.pd a1.fNum))<|WO.bin (eqN_90 a0.fNum a1.fNum) rfl rfl rfl rfl rfl<|sF h (fun h => ?_) fun h => ?_
 ·refine sM rfl<|sK<|sK<|sK<|sK<|sK<|sT<|sM rfl<|sK<|sK<|sK<|sK<|sK<|sT<|sM rfl ?_
  refine sK<|sK<|sK<|sK<|sK<|sT<|sM rfl<|sK<|sK<|sK<|sK<|sK<|sK<|sK<|sT ?_
  refine sN<|cT<|gS rfl rfl<|sU<|sN<|qR ?_
  obtain rfl:=oI h
  exact qD
 refine sM rfl<|sV (.ptr 32 4)<|sV (.d (A3_Int.pd a0.fDen))<|sV (.ptr 48 4)<|sV (.d (A3_Int.pd a1.fDen))<|WO.bin (eqN_90 a0.fDen a1.fDen) rfl rfl rfl rfl rfl<|sF h (fun h => ?_) fun h => ?_
 ·refine sM rfl<|sK<|sK<|sK<|sK<|sK<|sT<|sM rfl<|sK<|sK<|sK<|sK<|sK<|sT<|sM rfl ?_
  refine sK<|sK<|sK<|sK<|sK<|sK<|sK<|sT<|sN<|cT<|gS rfl rfl<|sU<|sN<|qR ?_
  obtain rfl:=oI h
  exact qD
 refine sM rfl<|sV (.ptr 32 8)<|sL rfl<|sV (.ptr 48 8)<|sL rfl<|sV (.d (.bool (a0.fFactor != a1.fFactor)))<|sF h (fun h => ?_) fun h => ?_
 ·refine sM rfl<|sK<|sK<|sK<|sK<|sK<|sT<|sM rfl<|sK<|sK<|sK<|sK<|sK<|sK<|sK ?_
  refine sT<|sN<|cT<|gS rfl rfl<|sU<|sN<|qR ?_
  obtain rfl:=oI h
  exact qD
 refine sM rfl<|sV (.ptr 32 9)<|sL rfl<|sV (.ptr 48 9)<|sL rfl<|sV (.d (.bool (a0.fShift != a1.fShift)))<|sF h (fun h => ?_) fun h => ?_
 ·refine sM rfl<|sK<|sK<|sK<|sK<|sK<|sK<|sK<|sT<|sN<|cT<|gS rfl rfl<|sU<|sN<|qR ?_
  obtain rfl:=oI h
  exact qD
 refine sM rfl<|sV (.ptr 32 7)<|sL rfl<|sE (.d (.int .i64 (a0.fTaps.length : Int))) (lenMap _ _)<|sV (.ptr 48 7)<|sL rfl<|sE (.d (.int .i64 (a1.fTaps.length : Int))) (lenMap _ _)<|sV (.d (.bool ((a0.fTaps.length : Int) != (a1.fTaps.length : Int))))<|sF h (fun h => ?_) fun h => ?_
 ·refine sN<|cT<|gS rfl rfl<|sU<|sN<|qR ?_
  obtain rfl:=oI h
  exact qD
 refine sN<|cF<|qK<|qS<|gS rfl rfl<|sV (.d (.int .i64 0))<|sN<|bE h fun o14 ho14 h => WC.block (WC.loop (WL.ofLoop ho14 (fun s R' B' => ghosts prog 0 (A R' B') (hints.at_ 85 4) = some (A [(2, .ptr 32 0), (3, .ptr 48 0), (5, .d (.int .i64 s))] [(32, .var [.d (.int .i64 a0.fKind), .d (.int .i64 a0.fNum.a0), .d (.int .i64 a0.fNum.a1), .d (.int .i64 a0.fNum.a2), .d (.int .i64 a0.fDen.a0), .d (.int .i64 a0.fDen.a1), .d (.int .i64 a0.fDen.a2), .d (.lst (a0.fTaps.map (PD.int .i64))), .d (.int .i64 a0.fFactor), .d (.int .i64 a0.fShift)]), (48, .var [.d (.int .i64 a1.fKind), .d (.int .i64 a1.fNum.a0), .d (.int .i64 a1.fNum.a1), .d (.int .i64 a1.fNum.a2), .d (.int .i64 a1.fDen.a0), .d (.int .i64 a1.fDen.a1), .d (.int .i64 a1.fDen.a2), .d (.lst (a1.fTaps.map (PD.int .i64))), .d (.int .i64 a1.fFactor), .d (.int .i64 a1.fShift)])])) (fun o e R' B' => match o with | .inl y => e = .exit 0 ∧ ghosts prog 0 (A R' B') (hints.at_ 85 8) = some (A [] []) | .inr r => e = .ret ∧ finish prog (hints.own 85) Tryz.f85 0 (A R' B') = some (.d (.bool r), [])) rfl ?_ ?_))
 ·rintro s7 R' B' q8 hI h
  refine qS<|gS rfl hI<|sM rfl<|sV (.ptr 32 7)<|sL rfl<|sE (.d (.int .i64 (a0.fTaps.length : Int))) (lenMap _ _)<|sF h (fun h => ?_) fun h => ?_
  ·refine sN<|cT<|qK<|qS<|qB<|WC.regionDSeq rfl rfl<|sV (.ptr 32 7)<|sL rfl<|sM rfl<|bE h fun x10 hx10 h => WO.elemG hx10 rfl rfl rfl rfl rfl rfl rfl rfl rfl<|sC rfl<|sV (.ptr 48 7)<|sL rfl<|sM rfl ?_
   refine bE h fun x11 hx11 h => WO.elemG hx11 rfl rfl rfl rfl rfl rfl rfl rfl rfl<|sC rfl<|sF h (fun h => ?_) fun h => ?_
   ·refine sN<|sO<|cT<|gS rfl rfl<|sU<|sN<|qR ?_
    obtain rfl:=oI h
    exact ⟨(fun he => by cases he), rfl, rfl⟩
   refine sN<|sO<|cF<|qK<|WC.region rfl rfl<|sM rfl<|sV (.d (.int .i64 (IntKind.wrap .i64 (s7 + (1 : Int)))))<|sA rfl<|sN ?_
   obtain rfl:=oI h
   exact ⟨rfl, rfl⟩
  refine sN<|cF<|qX ?_
  obtain rfl:=oI h
  exact ⟨(fun he => by cases he), rfl, rfl⟩
 intro e R' B' he hq
 rcases o14 with y15 | r16
 ·obtain ⟨rfl, hI⟩ := hq
  refine qE<|gS rfl hI<|sT<|sN<|qR ?_
  obtain rfl:=oI h
  exact qD
 obtain ⟨rfl, hf⟩ := hq
 obtain rfl:=oI h
 exact hf
theorem ref18_Same_ev {a0 : T_api_Response} {a1 : T_api_Response} {r : Bool} (h : ref18_Same a0 a1 = some r) : EvP prog hints ext 52 [.d (T_api_Response.pd a0), .d (T_api_Response.pd a1)] [] (.d (.bool r), []) := by
 refine Ev.body rfl Tryz.func52 rfl (by kernel_rfl)<|gS rfl rfl<|sB (.ptr 32 0) 32 (.var [.d (.lst (a0.fStages.map T_api_Stage.pd))])<|sB (.ptr 48 0) 48 (.var [.d (.lst (a1.fStages.map T_api_Stage.pd))])<|sU<|sN<|qS<|gS rfl rfl<|sV (.ptr 32 0)<|sL rfl<|sE (.d (.int .i64 (a0.fStages.length : Int))) (lenMap _ _)<|sV (.ptr 48 0)<|sL rfl<|sE (.d (.int .i64 (a1.fStages.length : Int))) (lenMap _ _)<|sF h (fun h => ?_) fun h => ?_
 ·refine sN<|cT<|gS rfl rfl<|sU<|sN<|qR ?_
  obtain rfl:=oI h
  exact qD
 refine sN<|cF<|qK<|qS<|gS rfl rfl<|sV (.d (.int .i64 0))<|sN<|bE h fun o10 ho10 h => WC.block (WC.loop (WL.ofLoop ho10 (fun s R' B' => ghosts prog 0 (A R' B') (hints.at_ 52 4) = some (A [(2, .ptr 32 0), (3, .ptr 48 0), (5, .d (.int .i64 s))] [(32, .var [.d (.lst (a0.fStages.map T_api_Stage.pd))]), (48, .var [.d (.lst (a1.fStages.map T_api_Stage.pd))])])) (fun o e R' B' => match o with | .inl y => e = .exit 0 ∧ ghosts prog 0 (A R' B') (hints.at_ 52 8) = some (A [] []) | .inr r => e = .ret ∧ finish prog (hints.own 52) Tryz.f52 0 (A R' B') = some (.d (.bool r), [])) rfl ?_ ?_))
 ·rintro s2 R' B' q3 hI h
  refine qS<|gS rfl hI<|sM rfl<|sV (.ptr 32 0)<|sL rfl<|sE (.d (.int .i64 (a0.fStages.length : Int))) (lenMap _ _)<|sF h (fun h => ?_) fun h => ?_
  ·refine sN<|cT<|qK<|qS<|qB<|WC.regionDSeq rfl rfl<|sV (.ptr 32 0)<|sL rfl<|sM rfl<|bE h fun x5 hx5 h => WO.elemG hx5 rfl rfl rfl rfl rfl rfl rfl rfl rfl<|sV (.d (T_api_Stage.pd x5))<|sV (.ptr 48 0)<|sL rfl<|sM rfl ?_
   refine bE h fun x6 hx6 h => WO.elemG hx6 rfl rfl rfl rfl rfl rfl rfl rfl rfl<|sV (.d (T_api_Stage.pd x6))<|bE h fun x7 hx7 h => cD (ref18_SameStage_ev hx7)<|sF h (fun h => ?_) fun h => ?_
   ·refine sN<|sO<|cT<|gS rfl rfl<|sU<|sN<|qR ?_
    obtain rfl:=oI h
    exact ⟨(fun he => by cases he), rfl, rfl⟩
   refine sN<|sO<|cF<|qK<|WC.region rfl rfl<|sM rfl<|sV (.d (.int .i64 (IntKind.wrap .i64 (s2 + (1 : Int)))))<|sA rfl<|sN ?_
   obtain rfl:=oI h
   exact ⟨rfl, rfl⟩
  refine sN<|cF<|qX ?_
  obtain rfl:=oI h
  exact ⟨(fun he => by cases he), rfl, rfl⟩
 intro e R' B' he hq
 rcases o10 with y11 | r12
 ·obtain ⟨rfl, hI⟩ := hq
  refine qE<|gS rfl hI<|sT<|sN<|qR ?_
  obtain rfl:=oI h
  exact qD
 obtain ⟨rfl, hf⟩ := hq
 obtain rfl:=oI h
 exact hf
theorem ref19_SameEpoch_ev {a0 : T_api_Epoch} {a1 : T_api_Epoch} {r : Bool} (h : ref19_SameEpoch a0 a1 = some r) : EvP prog hints ext 27 [.d (T_api_Epoch.pd a0), .d (T_api_Epoch.pd a1)] [] (.d (.bool r), []) := by
 refine Ev.body rfl Tryz.func27 rfl (by kernel_rfl)<|gS rfl rfl<|sB (.ptr 32 0) 32 (.var [.d (.int .i64 a0.fFrom), .d (.int .i64 a0.fTo), .d (.int .i64 a0.fRate.fNum), .d (.int .i64 a0.fRate.fDen), .d (.int .i64 a0.fPosition.fX), .d (.int .i64 a0.fPosition.fY), .d (.int .i64 a0.fPosition.fZ), .d (.lst (a0.fResponse.fStages.map T_api_Stage.pd))])<|sB (.ptr 48 0) 48 (.var [.d (.int .i64 a1.fFrom), .d (.int .i64 a1.fTo), .d (.int .i64 a1.fRate.fNum), .d (.int .i64 a1.fRate.fDen), .d (.int .i64 a1.fPosition.fX), .d (.int .i64 a1.fPosition.fY), .d (.int .i64 a1.fPosition.fZ), .d (.lst (a1.fResponse.fStages.map T_api_Stage.pd))])<|sU<|sN<|gS rfl rfl<|sV (.ptr 32 0)<|sL rfl<|sV (.ptr 48 0)<|sL rfl<|sF h (fun h => ?_) fun h => ?_
 ·refine sM rfl<|sV (.ptr 32 1)<|sL rfl<|sV (.ptr 48 1)<|sL rfl<|sV (.d (.bool (a0.fTo == a1.fTo)))<|sF h (fun h => ?_) fun h => ?_
  ·refine sM rfl<|sV (.ptr 32 2)<|sV (.d (T_api_Rate.pd a0.fRate))<|sV (.ptr 48 2)<|sV (.d (T_api_Rate.pd a1.fRate))<|WO.bin (eqE_39 a0.fRate a1.fRate) rfl rfl rfl rfl rfl<|sF h (fun h => ?_) fun h => ?_
   ·refine sM rfl<|sV (.ptr 32 4)<|sV (.d (T_api_Position.pd a0.fPosition))<|sV (.ptr 48 4)<|sV (.d (T_api_Position.pd a1.fPosition))<|WO.bin (eqE_41 a0.fPosition a1.fPosition) rfl rfl rfl rfl rfl<|sF h (fun h => ?_) fun h => ?_
    ·refine sM rfl<|sV (.ptr 32 7)<|sV (.d (T_api_Response.pd a0.fResponse))<|sV (.ptr 48 7)<|sV (.d (T_api_Response.pd a1.fResponse))<|bE h fun x5 hx5 h => cD (ref18_Same_ev hx5)<|sV (.d (.bool x5))<|sA rfl<|sN<|qR ?_
     obtain rfl:=oI h
     exact qD
    refine sM rfl<|sK<|sK<|sK<|sK<|sK<|sU<|sA rfl<|sN<|qR ?_
    obtain rfl:=oI h
    exact qD
   refine sM rfl<|sK<|sK<|sK<|sK<|sK<|sU<|sM rfl<|sK<|sK<|sK<|sK<|sK<|sU<|sA rfl ?_
   refine sN<|qR ?_
   obtain rfl:=oI h
   exact qD
  refine sM rfl<|sK<|sK<|sK<|sK<|sK<|sU<|sM rfl<|sK<|sK<|sK<|sK<|sK<|sU<|sM rfl ?_
  refine sK<|sK<|sK<|sK<|sK<|sU<|sA rfl<|sN<|qR ?_
  obtain rfl:=oI h
  exact qD
 refine sM rfl<|sK<|sK<|sK<|sK<|sK<|sU<|sM rfl<|sK<|sK<|sK<|sK<|sK<|sU<|sM rfl ?_
 refine sK<|sK<|sK<|sK<|sK<|sU<|sM rfl<|sK<|sK<|sK<|sK<|sK<|sU<|sA rfl<|sN ?_
 refine qR ?_
 obtain rfl:=oI h
 exact qD
theorem ref20_zero_ev {a0 : T_api_Epoch} {r : Bool} (h : ref20_zero a0 = some r) : EvP prog hints ext 96 [.d (T_api_Epoch.pd a0)] [] (.d (.bool r), []) := by
 refine Ev.body rfl Tryz.func96 rfl (by kernel_rfl)<|gS rfl rfl<|sB (.ptr 16 0) 16 (.var [.d (.int .i64 a0.fFrom), .d (.int .i64 a0.fTo), .d (.int .i64 a0.fRate.fNum), .d (.int .i64 a0.fRate.fDen), .d (.int .i64 a0.fPosition.fX), .d (.int .i64 a0.fPosition.fY), .d (.int .i64 a0.fPosition.fZ), .d (.lst (a0.fResponse.fStages.map T_api_Stage.pd))])<|sU<|sN<|gS rfl rfl<|sV (.d (T_api_Epoch.pd a0))<|sV (.agg [.d (.int .i64 0), .d (.int .i64 0), .d (.int .i64 0), .d (.int .i64 0), .d (.int .i64 0), .d (.int .i64 0), .d (.int .i64 0), .nils])<|bE h fun x1 hx1 h => cD (ref19_SameEpoch_ev hx1)<|sA rfl<|sN<|qR ?_
 obtain rfl:=oI h
 exact qD
theorem ref20_fits_ev {a0 : T_api_Inventory} {a1 : T_api_Change} {r : Bool} (h : ref20_fits a0 a1 = some r) : EvP prog hints ext 59 [.d (T_api_Inventory.pd a0), .d (T_api_Change.pd a1)] [] (.d (.bool r), []) := by
 refine Ev.body rfl Tryz.func59 rfl (by kernel_rfl)<|gS rfl rfl<|sB (.ptr 32 0) 32 (.var [.d (.lst (a0.fChannels.map T_api_Channel.pd))])<|sB (.ptr 48 0) 48 (.var [.d (.int .i64 a1.fKind), .d (.str a1.fSource.fNetwork), .d (.str a1.fSource.fStation), .d (.str a1.fSource.fLocation), .d (.str a1.fSource.fChannel), .d (.int .i64 a1.fFrom), .d (.int .i64 a1.fEpoch.fFrom), .d (.int .i64 a1.fEpoch.fTo), .d (.int .i64 a1.fEpoch.fRate.fNum), .d (.int .i64 a1.fEpoch.fRate.fDen), .d (.int .i64 a1.fEpoch.fPosition.fX), .d (.int .i64 a1.fEpoch.fPosition.fY), .d (.int .i64 a1.fEpoch.fPosition.fZ), .d (.lst (a1.fEpoch.fResponse.fStages.map T_api_Stage.pd))])<|sU<|sN<|qS<|gS rfl rfl<|sV (.d (T_api_Inventory.pd a0))<|bE h fun x1 hx1 h => cD (ref19_Valid_ev hx1)<|sF h (fun h => ?_) fun h => ?_
 ·refine sM rfl<|sK<|sK<|sK<|sK<|sT<|sM rfl<|sK<|sK<|sK<|sK<|sT<|sN<|cT<|gS rfl rfl ?_
  refine sU<|sN<|qR ?_
  obtain rfl:=oI h
  exact qD
 refine sM rfl<|sV (.ptr 48 0)<|sL rfl<|bE h fun x3 hx3 h => cD (ref01_In_ev hx3)<|sV (.d (.bool (!x3)))<|sF h (fun h => ?_) fun h => ?_
 ·refine sM rfl<|sK<|sK<|sK<|sK<|sT<|sN<|cT<|gS rfl rfl<|sU<|sN<|qR ?_
  obtain rfl:=oI h
  exact qD
 refine sM rfl<|sV (.ptr 48 1)<|sV (.d (T_api_SourceID.pd a1.fSource))<|bE h fun x5 hx5 h => cD (ref03_Valid_ev hx5)<|sV (.d (.bool (!x5)))<|sF h (fun h => ?_) fun h => ?_
 ·refine sN<|cT<|gS rfl rfl<|sU<|sN<|qR ?_
  obtain rfl:=oI h
  exact qD
 refine sN<|cF<|qK<|qS<|gS rfl rfl<|sV (.ptr 48 0)<|sL rfl<|sF h (fun h => ?_) fun h => ?_
 ·refine sN<|cT<|gS rfl rfl<|sV (.ptr 48 6)<|sV (.d (T_api_Epoch.pd a1.fEpoch))<|bE h fun x8 hx8 h => cD (ref20_zero_ev hx8)<|sA rfl<|sN<|qR ?_
  obtain rfl:=oI h
  exact qD
 refine sN<|cF<|qK<|gS rfl rfl<|sV (.ptr 48 6)<|sV (.d (T_api_Epoch.pd a1.fEpoch))<|bE h fun x9 hx9 h => ite_elim h (fun hb10 h => ?_) (fun hb10 h => ?_)
 ·refine WO.callR (v := .d (.bool true)) (u := []) rfl rfl (fun _ => rfl) rfl rfl rfl rfl rfl (ref19_ValidEpoch_ev hx9) rfl rfl (congrArg (fun b => RV.d (.bool b)) hb10) rfl<|sM rfl<|sV (.ptr 48 0)<|sL rfl<|sF h (fun h => ?_) fun h => ?_
  ·refine sM rfl<|sK<|sK<|sK<|sK<|sK<|sK<|sT<|sT<|sA rfl<|sN<|qR ?_
   obtain rfl:=oI h
   exact qD
  refine sM rfl<|sV (.ptr 48 5)<|sL rfl<|sV (.ptr 48 6)<|sV (.ptr 48 6)<|sL rfl<|sV (.d (.bool (a1.fFrom == a1.fEpoch.fFrom)))<|sV (.d (.bool (a1.fFrom == a1.fEpoch.fFrom)))<|sV (.d (.bool (a1.fFrom == a1.fEpoch.fFrom)))<|sA rfl<|sN<|qR ?_
  obtain rfl:=oI h
  exact qD
 refine WO.callR (v := .d (.bool false)) (u := []) rfl rfl (fun _ => rfl) rfl rfl rfl rfl rfl (ref19_ValidEpoch_ev hx9) rfl rfl (congrArg (fun b => RV.d (.bool b)) hb10) rfl<|sM rfl<|sK<|sK<|sK<|sK<|sK<|sK<|sK<|sK<|sK<|sK<|sK<|sU<|sA rfl ?_
 refine sN<|qR ?_
 obtain rfl:=oI h
 exact qD
theorem ref19_Copy_ev {a0 : T_api_Inventory} {r : T_api_Inventory} (h : ref19_Copy a0 = some r) : EvP prog hints ext 39 [.d (T_api_Inventory.pd a0)] [] (.agg [.ref 0 0], [.arr 0 37 (r.fChannels.map T_api_Channel.pd)]) := by
 refine Ev.body rfl Tryz.func39 rfl (by kernel_rfl)<|gS rfl rfl<|sB (.ptr 16 0) 16 (.var [.d (.lst (a0.fChannels.map T_api_Channel.pd))])<|sB (.ptr 32 0) 32 (.var [.nils])<|sN<|gS rfl rfl<|sB (.ptr 48 0) 48 (.var [.nils])<|sN<|qS<|gS rfl rfl<|sV (.d (.int .i64 0))<|sN<|bE h fun o23 ho23 h => WC.block (WC.loop (WL.ofLoop ho23 (fun s R' B' => ghosts prog 0 (A R' B') (hints.at_ 39 3) = some (A [(1, .ptr 16 0), (2, .ptr 32 0), (3, .ptr 48 0), (4, .d (.int .i64 s.1))] [(16, .var [.d (.lst (a0.fChannels.map T_api_Channel.pd))]), (32, .var [.nils]), (48, .var [.ref 816 0]), (816, .arr 0 37 (s.2.map T_api_Channel.pd))])) (fun o e R' B' => e = .exit 0 ∧ ghosts prog 0 (A R' B') (hints.at_ 39 11) = some (A [(2, .ptr 32 0), (3, .ptr 48 0)] [(32, .var [.nils]), (48, .var [.ref 816 0]), (816, .arr 0 37 (o.map T_api_Channel.pd))])) rfl ?_ ?_))
 ·rintro ⟨s1, s2⟩ R' B' q4 hI h
  refine qS<|gS rfl hI<|sM rfl<|sV (.ptr 16 0)<|sL rfl<|sE (.d (.int .i64 (a0.fChannels.length : Int))) (lenMap _ _)<|sF h (fun h => ?_) fun h => ?_
  ·refine sN<|cT<|qK<|qS<|qB<|gS rfl rfl<|sV (.ptr 16 0)<|sL rfl<|sM rfl<|bE h fun x6 hx6 h => WO.elemG hx6 rfl rfl rfl rfl rfl rfl rfl rfl rfl<|sV (.cptr [.str x6.fSource.fNetwork, .str x6.fSource.fStation, .str x6.fSource.fLocation, .str x6.fSource.fChannel, .lst (x6.fEpochs.map T_api_Epoch.pd)])<|sV (.d (T_api_SourceID.pd x6.fSource))<|sV (.agg [.d (.str x6.fSource.fNetwork), .d (.str x6.fSource.fStation), .d (.str x6.fSource.fLocation), .d (.str x6.fSource.fChannel), .nils])<|sB (.ptr 80 0) 80 (.var [.d (.str []), .d (.str []), .d (.str []), .d (.str []), .nils]) ?_
   refine sS 80 (.var [.d (.str x6.fSource.fNetwork), .d (.str x6.fSource.fStation), .d (.str x6.fSource.fLocation), .d (.str x6.fSource.fChannel), .nils])<|sN<|qS<|gS rfl rfl<|sV (.d (.int .i64 0))<|sN<|bE h fun o20 ho20 h => WC.block (WC.loop (WL.ofLoop ho20 (fun s R' B' => ghosts prog 0 (A R' B') (hints.at_ 39 7) = some (A [(1, .ptr 16 0), (2, .ptr 32 0), (3, .ptr 48 0), (4, .d (.int .i64 s1)), (5, .ptr 80 0), (6, .d (.int .i64 s.1))] [(16, .var [.d (.lst (a0.fChannels.map T_api_Channel.pd))]), (32, .var [.nils]), (48, .var [.ref 816 0]), (80, .var [.d (.str x6.fSource.fNetwork), .d (.str x6.fSource.fStation), .d (.str x6.fSource.fLocation), .d (.str x6.fSource.fChannel), .ref 720 0]), (720, .arr 0 46 (s.2.map T_api_Epoch.pd)), (816, .arr 0 37 (s2.map T_api_Channel.pd))])) (fun o e R' B' => e = .exit 2 ∧ ghosts prog 0 (A R' B') (hints.at_ 39 10) = some (A [(1, .ptr 16 0), (2, .ptr 32 0), (3, .ptr 48 0), (4, .d (.int .i64 o.1)), (5, .ptr 80 0)] [(16, .var [.d (.lst (a0.fChannels.map T_api_Channel.pd))]), (32, .var [.nils]), (48, .var [.ref 816 0]), (80, .var [.d (.str x6.fSource.fNetwork), .d (.str x6.fSource.fStation), .d (.str x6.fSource.fLocation), .d (.str x6.fSource.fChannel), .ref 720 0]), (720, .arr 0 46 (o.2.2.map T_api_Epoch.pd)), (816, .arr 0 37 (o.2.1.map T_api_Channel.pd))])) rfl ?_ ?_))
   ·rintro ⟨s7, s8⟩ R' B' q12 hI h
    refine qS<|gS rfl hI<|sM rfl<|sV (.ptr 16 0)<|sL rfl<|sM rfl<|bE h fun x13 hx13 h => WO.elemG hx13 rfl rfl rfl rfl rfl rfl rfl rfl rfl<|sV (.cptr [.lst (x13.fEpochs.map T_api_Epoch.pd)])<|sC rfl<|sE (.d (.int .i64 (x13.fEpochs.length : Int))) (lenMap _ _)<|sF h (fun h => ?_) fun h => ?_
    ·refine sN<|cT<|qK<|qS<|qB<|WC.regionD rfl rfl<|sV (.ptr 80 4)<|sL rfl<|sV (.ptr 16 0)<|sL rfl<|sM rfl<|bE h fun x15 hx15 h => WO.elemG hx15 rfl rfl rfl rfl rfl rfl rfl rfl rfl<|sV (.cptr [.lst (x15.fEpochs.map T_api_Epoch.pd)])<|sC rfl ?_
     refine sM rfl<|bE h fun x16 hx16 h => WO.elemG hx16 rfl rfl rfl rfl rfl rfl rfl rfl rfl<|sV (.d (T_api_Epoch.pd x16))<|bE h fun x17 hx17 h => cR (.agg [.d (.int .i64 x17.fFrom), .d (.int .i64 x17.fTo), .d (.int .i64 x17.fRate.fNum), .d (.int .i64 x17.fRate.fDen), .d (.int .i64 x17.fPosition.fX), .d (.int .i64 x17.fPosition.fY), .d (.int .i64 x17.fPosition.fZ), .ref 688 0]) [(688, .arr 0 92 (x17.fResponse.fStages.map T_api_Stage.pd))] (ref19_CopyEpoch_ev hx17)<|sB (.d (.lst [T_api_Epoch.pd x17])) 688 .dead<|bE h fun x18 hx18 h => WO.appR hx18 (fun _ => rfl) rfl rfl rfl rfl rfl rfl rfl rfl rfl rfl rfl rfl rfl rfl<|sV (.ptr 80 4)<|sS 80 (.var [.d (.str x6.fSource.fNetwork), .d (.str x6.fSource.fStation), .d (.str x6.fSource.fLocation), .d (.str x6.fSource.fChannel), .ref 720 1]) ?_
     refine sN<|sO<|WC.region rfl rfl<|sM rfl<|sV (.d (.int .i64 (IntKind.wrap .i64 (s7 + (1 : Int)))))<|sA rfl<|sN ?_
     obtain rfl:=oI h
     exact ⟨rfl, rfl⟩
    refine sN<|cF<|qX ?_
    obtain rfl:=oI h
    exact ⟨(fun he => by cases he), rfl, rfl⟩
   intro e R' B' he hq
   obtain ⟨rfl, hI⟩ := hq
   refine qE<|WC.region hI rfl<|sV (.ptr 48 0)<|sL rfl<|sV (.agg [.d (.str x6.fSource.fNetwork), .d (.str x6.fSource.fStation), .d (.str x6.fSource.fLocation), .d (.str x6.fSource.fChannel), .ref 720 0])<|sB (.d (.lst [T_api_Channel.pd (T_api_Channel.mk x6.fSource o20.2.2)])) 720 .dead<|bE h fun x21 hx21 h => WO.appR hx21 (fun _ => rfl) rfl rfl rfl rfl rfl rfl rfl rfl rfl rfl rfl rfl rfl rfl<|sV (.ptr 48 0)<|sS 48 (.var [.ref 816 1])<|sN<|WC.region rfl rfl<|sM rfl<|sV (.d (.int .i64 (IntKind.wrap .i64 (o20.1 + (1 : Int)))))<|sA rfl ?_
   refine sN ?_
   obtain rfl:=oI h
   exact ⟨rfl, rfl⟩
  refine sN<|cF<|qX ?_
  obtain rfl:=oI h
  exact ⟨(fun he => by cases he), rfl, rfl⟩
 intro e R' B' he hq
 obtain ⟨rfl, hI⟩ := hq
 refine qE<|gS rfl hI<|sV (.agg [.ref 816 0])<|sS 32 (.var [.ref 816 0])<|sN<|qR ?_
 obtain rfl:=oI h
 exact qD
end Go.Dw.It
