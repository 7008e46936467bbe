/- SxEv: the code computes what the plain functions say (written by lift.py). -/
import Derived.Test.YtjlbpchimjjcpaaDoorSxFn
import Derived.Test.YtjlbpchimjjcpaaDoorProg

set_option maxRecDepth 100000
set_option maxHeartbeats 4000000
namespace Go.Dw.Sx
open Go.Proofs Go.Proofs.Tryd Go.Dw
def hintAt : FuncId → Nat → List Ghost := fun f id =>
  if f = 6 then (if id = 6 then [.own 12 1200 28, .keep [2, 3, 4, 6, 11, 12, 13] [96, 1024, 1200]] else if id = 9 then [.keep [2, 3, 4, 6, 11, 12] [96, 1024, 1200]] else if id = 11 then [.keep [2, 3, 4, 6, 11, 12] [96, 1024, 1200]] else if id = 15 then [.keep [2, 3, 4, 11, 12, 14, 15, 97, 98, 99] [224, 240, 1024, 1200]] else if id = 21 then [.keep [2, 3, 4, 11, 12, 14, 15, 18, 19, 20, 21, 22, 97, 98, 99, 118, 119, 120] [224, 240, 288, 1024, 1200]] else if id = 28 then [.keep [2, 3, 4, 11, 12, 14, 15, 18, 19, 20, 21, 22, 97, 98, 99] [224, 240, 288, 1024, 1200]] else if id = 31 then [.keep [2, 3, 4, 11, 12, 14, 15, 97, 98, 99, 189, 190, 191] [224, 240, 1024, 1200]] else if id = 38 then [.keep [2, 3, 4, 11, 12, 14, 15, 97, 98, 99] [224, 240, 1024, 1200]] else if id = 39 then [.keep [3, 4, 11, 12, 14] [224, 1024, 1200]] else if id = 40 then [.keep [3, 11, 14, 217, 218, 219] [224, 1024]] else if id = 43 then [.keep [3, 11, 14, 37, 217, 218, 219, 227, 228, 229] [224, 1024]] else if id = 50 then [.keep [3, 11, 14, 37, 217, 218, 219] [224, 1024]] else if id = 53 then [.keep [] []] else []) else if f = 13 then (if id = 6 then [.own 8 544 28, .keep [6, 8, 18, 19, 20] [544]] else if id = 11 then [.keep [8] [544]] else []) else if f = 19 then (if id = 18 then [.keep [0, 6, 7, 8, 19, 20, 21] [0]] else []) else if f = 27 then (if id = 6 then [.own 8 672 28, .keep [1, 6, 8, 9] [672]] else if id = 10 then [.keep [8] [672]] else []) else if f = 28 then (if id = 4 then [.keep [0, 1, 5] []] else if id = 8 then [.keep [] []] else []) else if f = 29 then (if id = 3 then [.own 3 816 28, .keep [0, 3, 4] [816]] else if id = 6 then [.keep [0, 3, 4, 5] [816]] else if id = 8 then [.keep [0, 3, 4, 5] [816]] else if id = 9 then [.keep [0, 3, 4, 5] [816]] else if id = 12 then [.keep [3] [816]] else []) else if f = 30 then (if id = 3 then [.keep [4, 10, 11, 12] []] else if id = 6 then [.keep [4, 6, 10, 11, 12, 17, 18] []] else if id = 11 then [.keep [4, 6, 10, 11, 12] []] else if id = 14 then [.keep [4] []] else []) else if f = 35 then (if id = 3 then [.keep [3, 6, 7, 8] []] else if id = 8 then [.keep [3] []] else []) else if f = 39 then (if id = 4 then [.keep [0, 3] [0]] else if id = 9 then [.keep [0, 3, 4, 5] [0]] else if id = 14 then [.keep [0, 3] [0]] else if id = 16 then [.keep [0] [0]] else []) else if f = 40 then (if id = 5 then [.keep [4, 5] [144]] else if id = 9 then [.keep [4, 5, 6, 7] [144]] else if id = 13 then [.keep [4, 5, 6] [144]] else if id = 15 then [.keep [4] [144]] else []) else if f = 42 then (if id = 2 then [.keep [0, 1, 2, 9, 10] []] else if id = 7 then [.keep [0, 1, 2] []] else []) else if f = 43 then (if id = 2 then [.keep [0, 1, 2, 7] []] else if id = 6 then [.keep [0, 1, 2] []] else []) else if f = 45 then (if id = 3 then [.keep [0, 1, 5, 6] [112]] else if id = 8 then [.keep [5] [112]] else []) else if f = 55 then (if id = 5 then [.keep [0, 1, 5] []] else if id = 9 then [.keep [] []] else []) else []
def hints : Hints := { at_ := hintAt, mt := fun f i => (f == 45 && i == 7), by_ := fun f i => (f == 38 && i == 0) || (f == 39 && i == 0), own := fun f i => (f == 29 && i == 0) || (f == 37 && i == 0) || (f == 45 && i == 0) }
theorem eqE_28 (a b : T_api_SourceID) : binT prog .eql 28 (.d a.pd) (.d b.pd) = some (.bool ((a.fNetwork == b.fNetwork) && ((a.fStation == b.fStation) && ((a.fLocation == b.fLocation) && ((a.fChannel == b.fChannel) && true)))), true) := by kernel_rfl
theorem eqN_28 (a b : T_api_SourceID) : binT prog .neq 28 (.d a.pd) (.d b.pd) = some (.bool (!((a.fNetwork == b.fNetwork) && ((a.fStation == b.fStation) && ((a.fLocation == b.fLocation) && ((a.fChannel == b.fChannel) && true))))), true) := by kernel_rfl

theorem T_api_SourceID_inj : ∀ x y : T_api_SourceID, x.pd = y.pd → x = y := by
  rintro ⟨z1, z2, z3, z4⟩ ⟨z5, z6, z7, z8⟩ h
  cases h; rfl
def ext0 : FuncId → Option CallD := fun _ => none
theorem cmp_isNaN_string_ev0 {a0 : (List UInt8)} {r : Bool} (h : cmp_isNaN_string a0 = some r) : EvP prog hints ext0 52 [.d (.str a0)] [] (.d (.bool r), []) := by
  refine Ev.body rfl Tryd.func52 rfl (by kernel_rfl) ?_
  refine WC.regionSeq rfl rfl ?_
  refine WO.s0 (v' := .d (.bool false)) rfl rfl (fun _ => rfl) rfl ?_
  refine WO.nil ?_
  refine WC.regionSeq rfl rfl ?_
  refine WO.s0 (v' := .d (.str a0)) rfl rfl (fun _ => rfl) rfl ?_
  refine WO.s0 (v' := .d (.str a0)) rfl rfl (fun _ => rfl) rfl ?_
  refine WO.s0 (v' := .d (.bool (!(a0 == a0)))) rfl rfl (fun _ => rfl) rfl ?_
  refine WO.s0 (v' := .d (.bool (!(a0 == a0)))) rfl rfl (fun _ => rfl) rfl ?_
  refine WO.nil ?_
  refine WC.ret ?_
  obtain rfl := Option.some.inj h
  exact WC.done rfl rfl rfl
theorem cmp_Compare_string_ev0 {a0 : (List UInt8)} {a1 : (List UInt8)} {r : Int} (h : cmp_Compare_string a0 a1 = some r) : EvP prog hints ext0 36 [.d (.str a0), .d (.str a1)] [] (.d (.int .i64 r), []) := by
  refine Ev.body rfl Tryd.func36 rfl (by kernel_rfl) ?_
  refine WC.regionSeq rfl rfl ?_
  refine WO.s0 (v' := .d (.int .i64 0)) rfl rfl (fun _ => rfl) rfl ?_
  refine WO.nil ?_
  refine WC.regionSeq rfl rfl ?_
  refine WO.s0 (v' := .d (.str a0)) rfl rfl (fun _ => rfl) rfl ?_
  refine bind_elim h (fun x1 hx1 h => ?_)
  refine WO.callR (v := .d (.bool x1)) (u := []) rfl rfl (fun _ => rfl) rfl rfl rfl rfl rfl (cmp_isNaN_string_ev0 hx1) rfl rfl rfl rfl ?_
  refine WO.s0 (v' := .d (.bool x1)) rfl rfl (fun _ => rfl) rfl ?_
  refine WO.nil ?_
  refine WC.regionSeq rfl rfl ?_
  refine WO.s0 (v' := .d (.str a1)) rfl rfl (fun _ => rfl) rfl ?_
  refine bind_elim h (fun x2 hx2 h => ?_)
  refine WO.callR (v := .d (.bool x2)) (u := []) rfl rfl (fun _ => rfl) rfl rfl rfl rfl rfl (cmp_isNaN_string_ev0 hx2) rfl rfl rfl rfl ?_
  refine WO.s0 (v' := .d (.bool x2)) rfl rfl (fun _ => rfl) rfl ?_
  refine WO.nil ?_
  refine WC.seq ?_
  refine WC.regionSeq rfl rfl ?_
  refine ite_elim h (fun hb3 h => ?_) (fun hb3 h => ?_)
  · refine WO.s0 (v' := .d (.bool true)) rfl rfl (fun _ => rfl) (congrArg (fun b => RV.d (.bool b)) hb3) ?_
    refine WO.nil ?_
    refine WC.condT rfl ?_
    refine WC.seq ?_
    refine WC.regionSeq rfl rfl ?_
    refine ite_elim h (fun hb4 h => ?_) (fun hb4 h => ?_)
    · refine WO.s0 (v' := .d (.bool true)) rfl rfl (fun _ => rfl) (congrArg (fun b => RV.d (.bool b)) hb4) ?_
      refine WO.nil ?_
      refine WC.condT rfl ?_
      refine WC.regionSeq rfl rfl ?_
      refine WO.s0 (v' := .d (.int .i64 0)) rfl rfl (fun _ => rfl) rfl ?_
      refine WO.nil ?_
      refine WC.ret ?_
      obtain rfl := Option.some.inj h
      exact WC.done rfl rfl rfl
    · refine WO.s0 (v' := .d (.bool false)) rfl rfl (fun _ => rfl) (congrArg (fun b => RV.d (.bool b)) hb4) ?_
      refine WO.nil ?_
      refine WC.condF rfl ?_
      refine WC.skip ?_
      refine WC.regionSeq rfl rfl ?_
      refine WO.s0 (v' := .d (.int .i64 (-1))) rfl rfl (fun _ => rfl) rfl ?_
      refine WO.nil ?_
      refine WC.ret ?_
      obtain rfl := Option.some.inj h
      exact WC.done rfl rfl rfl
  · refine WO.s0 (v' := .d (.bool false)) rfl rfl (fun _ => rfl) (congrArg (fun b => RV.d (.bool b)) hb3) ?_
    refine WO.nil ?_
    refine WC.condF rfl ?_
    refine WC.skip ?_
    refine WC.seq ?_
    refine WC.regionSeq rfl rfl ?_
    refine ite_elim h (fun hb5 h => ?_) (fun hb5 h => ?_)
    · refine WO.s0 (v' := .d (.bool true)) rfl rfl (fun _ => rfl) (congrArg (fun b => RV.d (.bool b)) hb5) ?_
      refine WO.nil ?_
      refine WC.condT rfl ?_
      refine WC.regionSeq rfl rfl ?_
      refine WO.s0 (v' := .d (.int .i64 1)) rfl rfl (fun _ => rfl) rfl ?_
      refine WO.nil ?_
      refine WC.ret ?_
      obtain rfl := Option.some.inj h
      exact WC.done rfl rfl rfl
    · refine WO.s0 (v' := .d (.bool false)) rfl rfl (fun _ => rfl) (congrArg (fun b => RV.d (.bool b)) hb5) ?_
      refine WO.nil ?_
      refine WC.condF rfl ?_
      refine WC.skip ?_
      refine WC.seq ?_
      refine WC.regionSeq rfl rfl ?_
      refine WO.s0 (v' := .d (.str a0)) rfl rfl (fun _ => rfl) rfl ?_
      refine WO.s0 (v' := .d (.str a1)) rfl rfl (fun _ => rfl) rfl ?_
      refine ite_elim h (fun hb6 h => ?_) (fun hb6 h => ?_)
      · refine WO.s0 (v' := .d (.bool true)) rfl rfl (fun _ => rfl) (congrArg (fun b => RV.d (.bool b)) hb6) ?_
        refine WO.nil ?_
        refine WC.condT rfl ?_
        refine WC.regionSeq rfl rfl ?_
        refine WO.s0 (v' := .d (.int .i64 (-1))) rfl rfl (fun _ => rfl) rfl ?_
        refine WO.nil ?_
        refine WC.ret ?_
        obtain rfl := Option.some.inj h
        exact WC.done rfl rfl rfl
      · refine WO.s0 (v' := .d (.bool false)) rfl rfl (fun _ => rfl) (congrArg (fun b => RV.d (.bool b)) hb6) ?_
        refine WO.nil ?_
        refine WC.condF rfl ?_
        refine WC.skip ?_
        refine WC.seq ?_
        refine WC.regionSeq rfl rfl ?_
        refine WO.s0 (v' := .d (.str a0)) rfl rfl (fun _ => rfl) rfl ?_
        refine WO.s0 (v' := .d (.str a1)) rfl rfl (fun _ => rfl) rfl ?_
        refine ite_elim h (fun hb7 h => ?_) (fun hb7 h => ?_)
        · refine WO.s0 (v' := .d (.bool true)) rfl rfl (fun _ => rfl) (congrArg (fun b => RV.d (.bool b)) hb7) ?_
          refine WO.nil ?_
          refine WC.condT rfl ?_
          refine WC.regionSeq rfl rfl ?_
          refine WO.s0 (v' := .d (.int .i64 1)) rfl rfl (fun _ => rfl) rfl ?_
          refine WO.nil ?_
          refine WC.ret ?_
          obtain rfl := Option.some.inj h
          exact WC.done rfl rfl rfl
        · refine WO.s0 (v' := .d (.bool false)) rfl rfl (fun _ => rfl) (congrArg (fun b => RV.d (.bool b)) hb7) ?_
          refine WO.nil ?_
          refine WC.condF rfl ?_
          refine WC.skip ?_
          refine WC.regionSeq rfl rfl ?_
          refine WO.s0 (v' := .d (.int .i64 0)) rfl rfl (fun _ => rfl) rfl ?_
          refine WO.nil ?_
          refine WC.ret ?_
          obtain rfl := Option.some.inj h
          exact WC.done rfl rfl rfl
theorem cmp_Or_int_ev0 {a0 : (List Int)} {r : Int} (h : cmp_Or_int a0 = some r) : EvP prog hints ext0 35 [.d (.lst (a0.map (PD.int .i64)))] [] (.d (.int .i64 r), []) := by
  refine Ev.body rfl Tryd.func35 rfl (by kernel_rfl) ?_
  refine WC.regionSeq rfl rfl ?_
  refine WO.s0 (v' := .d (.int .i64 0)) rfl rfl (fun _ => rfl) rfl ?_
  refine WO.nil ?_
  refine WC.regionSeq rfl rfl ?_
  refine WO.s0 (v' := .d (.int .i64 0)) rfl rfl (fun _ => rfl) rfl ?_
  refine WO.nil ?_
  refine WC.seq ?_
  refine WC.regionSeq rfl rfl ?_
  refine WO.s0 (v' := .d (.lst (a0.map (PD.int .i64)))) rfl rfl (fun _ => rfl) rfl ?_
  refine WO.s0 (v' := .d (.int .i64 (a0.length : Int))) rfl rfl (fun _ => rfl) (lenMap _ _) ?_
  refine WO.s0 (v' := .d (.int .i64 0)) rfl rfl (fun _ => rfl) rfl ?_
  refine WO.nil ?_
  refine bind_elim h (fun o7 ho7 h => ?_)
  refine WC.block (WC.loop (WL.ofLoop ho7 (fun s R' B' => ghosts prog 0 (A R' B') (hints.at_ 35 3) = some (A [(3, .d (.int .i64 0)), (6, .d (.lst (a0.map (PD.int .i64)))), (7, .d (.int .i64 (a0.length : Int))), (8, .d (.int .i64 s))] [])) (fun o e R' B' => match o with | .inl y => e = .exit 0 ∧ ghosts prog 0 (A R' B') (hints.at_ 35 8) = some (A [(3, .d (.int .i64 0))] []) | .inr r => e = .ret ∧ finish prog (hints.own 35) Tryd.f35 0 (A R' B') = some (.d (.int .i64 r), [])) rfl ?_ ?_))
  · rintro s1 R' B' q2 hI h
    refine WC.regionSeq hI rfl ?_
    refine ite_elim h (fun hb3 h => ?_) (fun hb3 h => ?_)
    · refine WO.s0 (v' := .d (.bool true)) rfl rfl (fun _ => rfl) (congrArg (fun b => RV.d (.bool b)) hb3) ?_
      refine WO.nil ?_
      refine WC.seq ?_
      refine WC.condT rfl ?_
      refine WC.skip ?_
      refine WC.seq ?_
      refine WC.block ?_
      refine WC.regionSeq rfl rfl ?_
      refine bind_elim h (fun x4 hx4 h => ?_)
      refine WO.elemG hx4 rfl rfl rfl rfl rfl rfl rfl rfl rfl ?_
      refine WO.s0 (v' := .d (.int .i64 x4)) rfl rfl (fun _ => rfl) rfl ?_
      refine WO.s0 (v' := .d (.int .i64 x4)) rfl rfl (fun _ => rfl) rfl ?_
      refine WO.nil ?_
      refine WC.regionSeq rfl rfl ?_
      refine WO.s0 (v' := .d (.int .i64 x4)) rfl rfl (fun _ => rfl) rfl ?_
      refine WO.s0 (v' := .d (.int .i64 0)) rfl rfl (fun _ => rfl) rfl ?_
      refine ite_elim h (fun hb5 h => ?_) (fun hb5 h => ?_)
      · refine WO.s0 (v' := .d (.bool true)) rfl rfl (fun _ => rfl) (congrArg (fun b => RV.d (.bool b)) hb5) ?_
        refine WO.nil ?_
        refine WC.condT rfl ?_
        refine WC.regionSeq rfl rfl ?_
        refine WO.s0 (v' := .d (.int .i64 x4)) rfl rfl (fun _ => rfl) rfl ?_
        refine WO.s0 (v' := .d (.int .i64 x4)) rfl rfl (fun _ => rfl) rfl ?_
        refine WO.nil ?_
        refine WC.ret ?_
        obtain rfl := Option.some.inj h
        exact ⟨(fun he => by cases he), rfl, rfl⟩
      · refine WO.s0 (v' := .d (.bool false)) rfl rfl (fun _ => rfl) (congrArg (fun b => RV.d (.bool b)) hb5) ?_
        refine WO.nil ?_
        refine WC.condF rfl ?_
        refine WC.skip ?_
        refine WC.region rfl rfl ?_
        refine WO.s0 (v' := .d (.int .i64 (IntKind.wrap .i64 (s1 + (1 : Int))))) rfl rfl (fun _ => rfl) rfl ?_
        refine WO.s0 (v' := .d (.int .i64 (IntKind.wrap .i64 (s1 + (1 : Int))))) rfl rfl (fun _ => rfl) rfl ?_
        refine WO.nil ?_
        obtain rfl := Option.some.inj h
        exact ⟨rfl, rfl⟩
    · refine WO.s0 (v' := .d (.bool false)) rfl rfl (fun _ => rfl) (congrArg (fun b => RV.d (.bool b)) hb3) ?_
      refine WO.nil ?_
      refine WC.seq ?_
      refine WC.condF rfl ?_
      refine WC.exit ?_
      obtain rfl := Option.some.inj h
      exact ⟨(fun he => by cases he), rfl, rfl⟩
  · intro e R' B' he hq
    rcases o7 with y8 | r9
    · obtain ⟨rfl, hI⟩ := hq
      refine ⟨fun _ => ?_, fun hne => (hne rfl).elim⟩
      refine WC.regionSeq hI rfl ?_
      refine WO.s0 (v' := .d (.int .i64 0)) rfl rfl (fun _ => rfl) rfl ?_
      refine WO.s0 (v' := .d (.int .i64 0)) rfl rfl (fun _ => rfl) rfl ?_
      refine WO.nil ?_
      refine WC.ret ?_
      obtain rfl := Option.some.inj h
      exact WC.done rfl rfl rfl
    · obtain ⟨rfl, hf⟩ := hq
      obtain rfl := Option.some.inj h
      exact hf
theorem source_Compare_ev0 {a0 : T_api_SourceID} {a1 : T_api_SourceID} {r : Int} (h : source_Compare a0 a1 = some r) : EvP prog hints ext0 16 [.d (T_api_SourceID.pd a0), .d (T_api_SourceID.pd a1)] [] (.d (.int .i64 r), []) := by
  refine Ev.body rfl Tryd.func16 rfl (by kernel_rfl) ?_
  refine WC.regionSeq rfl rfl ?_
  refine WO.s1 (v := .ptr 32 0) (id := 32) (bx := .var [.d (.str a0.fNetwork), .d (.str a0.fStation), .d (.str a0.fLocation), .d (.str a0.fChannel)]) rfl rfl (fun _ => rfl) ?_
  refine WO.s1 (v := .ptr 48 0) (id := 48) (bx := .var [.d (.str a1.fNetwork), .d (.str a1.fStation), .d (.str a1.fLocation), .d (.str a1.fChannel)]) rfl rfl (fun _ => rfl) ?_
  refine WO.s0 (v' := .d (.int .i64 0)) rfl rfl (fun _ => rfl) rfl ?_
  refine WO.nil ?_
  refine WC.regionDSeq rfl rfl ?_
  refine WO.s0 (v' := .ptr 32 0) rfl rfl (fun _ => rfl) rfl ?_
  refine WO.s0 (v' := .d (.str a0.fNetwork)) rfl rfl (fun _ => rfl) rfl ?_
  refine WO.s0 (v' := .ptr 48 0) rfl rfl (fun _ => rfl) rfl ?_
  refine WO.s0 (v' := .d (.str a1.fNetwork)) rfl rfl (fun _ => rfl) rfl ?_
  refine bind_elim h (fun x1 hx1 h => ?_)
  refine WO.callR (v := .d (.int .i64 x1)) (u := []) rfl rfl (fun _ => rfl) rfl rfl rfl rfl rfl (cmp_Compare_string_ev0 hx1) rfl rfl rfl rfl ?_
  refine WO.s0 (v' := .ptr 32 1) rfl rfl (fun _ => rfl) rfl ?_
  refine WO.s0 (v' := .d (.str a0.fStation)) rfl rfl (fun _ => rfl) rfl ?_
  refine WO.s0 (v' := .ptr 48 1) rfl rfl (fun _ => rfl) rfl ?_
  refine WO.s0 (v' := .d (.str a1.fStation)) rfl rfl (fun _ => rfl) rfl ?_
  refine bind_elim h (fun x2 hx2 h => ?_)
  refine WO.callR (v := .d (.int .i64 x2)) (u := []) rfl rfl (fun _ => rfl) rfl rfl rfl rfl rfl (cmp_Compare_string_ev0 hx2) rfl rfl rfl rfl ?_
  refine WO.s0 (v' := .ptr 32 2) rfl rfl (fun _ => rfl) rfl ?_
  refine WO.s0 (v' := .d (.str a0.fLocation)) rfl rfl (fun _ => rfl) rfl ?_
  refine WO.s0 (v' := .ptr 48 2) rfl rfl (fun _ => rfl) rfl ?_
  refine WO.s0 (v' := .d (.str a1.fLocation)) rfl rfl (fun _ => rfl) rfl ?_
  refine bind_elim h (fun x3 hx3 h => ?_)
  refine WO.callR (v := .d (.int .i64 x3)) (u := []) rfl rfl (fun _ => rfl) rfl rfl rfl rfl rfl (cmp_Compare_string_ev0 hx3) rfl rfl rfl rfl ?_
  refine WO.s0 (v' := .ptr 32 3) rfl rfl (fun _ => rfl) rfl ?_
  refine WO.s0 (v' := .d (.str a0.fChannel)) rfl rfl (fun _ => rfl) rfl ?_
  refine WO.s0 (v' := .ptr 48 3) rfl rfl (fun _ => rfl) rfl ?_
  refine WO.s0 (v' := .d (.str a1.fChannel)) rfl rfl (fun _ => rfl) rfl ?_
  refine bind_elim h (fun x4 hx4 h => ?_)
  refine WO.callR (v := .d (.int .i64 x4)) (u := []) rfl rfl (fun _ => rfl) rfl rfl rfl rfl rfl (cmp_Compare_string_ev0 hx4) rfl rfl rfl rfl ?_
  refine WO.s0 (v' := .d (.lst ([x1, x2, x3, x4].map (PD.int .i64)))) rfl rfl (fun _ => rfl) rfl ?_
  refine bind_elim h (fun x5 hx5 h => ?_)
  refine WO.callR (v := .d (.int .i64 x5)) (u := []) rfl rfl (fun _ => rfl) rfl rfl rfl rfl rfl (cmp_Or_int_ev0 hx5) rfl rfl rfl rfl ?_
  refine WO.s0 (v' := .d (.int .i64 x5)) rfl rfl (fun _ => rfl) rfl ?_
  refine WO.nil ⟨by kernel_rfl, ?_⟩
  refine WC.ret ?_
  obtain rfl := Option.some.inj h
  exact WC.done rfl rfl rfl
noncomputable def ext : FuncId → Option CallD := fun f => if f = 34 then some splitD else if f = 33 then some joinD else if f = 38 then some (sortD 16 28 T_api_SourceID.pd source_Compare) else if f = 37 then some (cloneD 28 4 64) else none
theorem sort_38_16 {l r : List T_api_SourceID} (h : sortO source_Compare l = some r) : EvP prog hints ext 38 [.ref 0 0, .d (.raw (.func (.func 16) #[] #[]))] [.arr 0 28 (l.map T_api_SourceID.pd)] (.tup [], [.arr 0 28 (r.map T_api_SourceID.pd)]) := sort_ev rfl (sortD_of T_api_SourceID_inj h)
theorem clone_37 {l r : List T_api_SourceID} (h : cloneO 64 l = some r) : EvP prog hints ext 37 [.d (.lst (l.map T_api_SourceID.pd))] [] (.ref 0 0, [.arr 0 28 (r.map T_api_SourceID.pd)]) := clone_ev (g := T_api_SourceID.pd) rfl (fun _ => rfl) h
theorem made_Light_ev {a0 : (List Int)} {r : Bool} (h : made_Light a0 = some r) : EvP prog hints ext 7 [.d (.lst (a0.map (PD.int .i64)))] [] (.d (.bool r), []) := by
  refine Ev.body rfl Tryd.func7 rfl (by kernel_rfl) ?_
  refine WC.regionSeq rfl rfl ?_
  refine WO.s0 (v' := .d (.bool false)) rfl rfl (fun _ => rfl) rfl ?_
  refine WO.nil ?_
  refine WC.regionSeq rfl rfl ?_
  refine WO.s0 (v' := .d (.lst (a0.map (PD.int .i64)))) rfl rfl (fun _ => rfl) rfl ?_
  refine WO.s0 (v' := .d (.int .i64 (a0.length : Int))) rfl rfl (fun _ => rfl) (lenMap _ _) ?_
  refine WO.s0 (v' := .d (.bool (decide ((a0.length : Int) ≤ (500 : Int))))) rfl rfl (fun _ => rfl) rfl ?_
  refine WO.s0 (v' := .d (.bool (decide ((a0.length : Int) ≤ (500 : Int))))) rfl rfl (fun _ => rfl) rfl ?_
  refine WO.nil ?_
  refine WC.ret ?_
  obtain rfl := Option.some.inj h
  exact WC.done rfl rfl rfl
theorem source_plain_ev {a0 : Int} {r : Bool} (h : source_plain a0 = some r) : EvP prog hints ext 46 [.d (.int .u8 a0)] [] (.d (.bool r), []) := by
  refine Ev.body rfl Tryd.func46 rfl (by kernel_rfl) ?_
  refine WC.regionSeq rfl rfl ?_
  refine WO.s0 (v' := .d (.bool false)) rfl rfl (fun _ => rfl) rfl ?_
  refine WO.nil ?_
  refine WC.regionSeq rfl rfl ?_
  refine WO.s0 (v' := .d (.int .u8 a0)) rfl rfl (fun _ => rfl) rfl ?_
  refine ite_elim h (fun hb1 h => ?_) (fun hb1 h => ?_)
  · refine WO.s0 (v' := .d (.bool true)) rfl rfl (fun _ => rfl) (congrArg (fun b => RV.d (.bool b)) hb1) ?_
    refine WO.s0 (v' := .d (.bool true)) rfl rfl (fun _ => rfl) rfl ?_
    refine WO.s0 (v' := .d (.int .u8 a0)) rfl rfl (fun _ => rfl) rfl ?_
    refine WO.s0 (v' := .d (.bool (decide (a0 ≤ (90 : Int))))) rfl rfl (fun _ => rfl) rfl ?_
    refine ite_elim h (fun hb2 h => ?_) (fun hb2 h => ?_)
    · refine WO.s0 (v' := .d (.bool true)) rfl rfl (fun _ => rfl) (congrArg (fun b => RV.d (.bool b)) hb2) ?_
      refine WO.s0 (v' := .d (.bool true)) rfl rfl (fun _ => rfl) rfl ?_
      refine WO.skip rfl rfl ?_
      refine WO.skip rfl rfl ?_
      refine WO.skip rfl rfl ?_
      refine WO.skip rfl rfl ?_
      refine WO.skip rfl rfl ?_
      refine WO.skip rfl rfl ?_
      refine WO.s0 (v' := .d (.bool true)) rfl rfl (fun _ => rfl) rfl ?_
      refine WO.s0 (v' := .d (.bool true)) rfl rfl (fun _ => rfl) rfl ?_
      refine WO.nil ?_
      refine WC.ret ?_
      obtain rfl := Option.some.inj h
      exact WC.done rfl rfl rfl
    · refine WO.s0 (v' := .d (.bool false)) rfl rfl (fun _ => rfl) (congrArg (fun b => RV.d (.bool b)) hb2) ?_
      refine WO.s0 (v' := .d (.bool false)) rfl rfl (fun _ => rfl) rfl ?_
      refine WO.s0 (v' := .d (.int .u8 a0)) rfl rfl (fun _ => rfl) rfl ?_
      refine ite_elim h (fun hb3 h => ?_) (fun hb3 h => ?_)
      · refine WO.s0 (v' := .d (.bool true)) rfl rfl (fun _ => rfl) (congrArg (fun b => RV.d (.bool b)) hb3) ?_
        refine WO.s0 (v' := .d (.bool true)) rfl rfl (fun _ => rfl) rfl ?_
        refine WO.s0 (v' := .d (.int .u8 a0)) rfl rfl (fun _ => rfl) rfl ?_
        refine WO.s0 (v' := .d (.bool (decide (a0 ≤ (57 : Int))))) rfl rfl (fun _ => rfl) rfl ?_
        refine WO.s0 (v' := .d (.bool (decide (a0 ≤ (57 : Int))))) rfl rfl (fun _ => rfl) rfl ?_
        refine WO.s0 (v' := .d (.bool (decide (a0 ≤ (57 : Int))))) rfl rfl (fun _ => rfl) rfl ?_
        refine WO.s0 (v' := .d (.bool (decide (a0 ≤ (57 : Int))))) rfl rfl (fun _ => rfl) rfl ?_
        refine WO.nil ?_
        refine WC.ret ?_
        obtain rfl := Option.some.inj h
        exact WC.done rfl rfl rfl
      · refine WO.s0 (v' := .d (.bool false)) rfl rfl (fun _ => rfl) (congrArg (fun b => RV.d (.bool b)) hb3) ?_
        refine WO.s0 (v' := .d (.bool false)) rfl rfl (fun _ => rfl) rfl ?_
        refine WO.skip rfl rfl ?_
        refine WO.skip rfl rfl ?_
        refine WO.s0 (v' := .d (.bool false)) rfl rfl (fun _ => rfl) rfl ?_
        refine WO.s0 (v' := .d (.bool false)) rfl rfl (fun _ => rfl) rfl ?_
        refine WO.s0 (v' := .d (.bool false)) rfl rfl (fun _ => rfl) rfl ?_
        refine WO.nil ?_
        refine WC.ret ?_
        obtain rfl := Option.some.inj h
        exact WC.done rfl rfl rfl
  · refine WO.s0 (v' := .d (.bool false)) rfl rfl (fun _ => rfl) (congrArg (fun b => RV.d (.bool b)) hb1) ?_
    refine WO.s0 (v' := .d (.bool false)) rfl rfl (fun _ => rfl) rfl ?_
    refine WO.skip rfl rfl ?_
    refine WO.skip rfl rfl ?_
    refine WO.s0 (v' := .d (.bool false)) rfl rfl (fun _ => rfl) rfl ?_
    refine WO.s0 (v' := .d (.bool false)) rfl rfl (fun _ => rfl) rfl ?_
    refine WO.s0 (v' := .d (.int .u8 a0)) rfl rfl (fun _ => rfl) rfl ?_
    refine ite_elim h (fun hb4 h => ?_) (fun hb4 h => ?_)
    · refine WO.s0 (v' := .d (.bool true)) rfl rfl (fun _ => rfl) (congrArg (fun b => RV.d (.bool b)) hb4) ?_
      refine WO.s0 (v' := .d (.bool true)) rfl rfl (fun _ => rfl) rfl ?_
      refine WO.s0 (v' := .d (.int .u8 a0)) rfl rfl (fun _ => rfl) rfl ?_
      refine WO.s0 (v' := .d (.bool (decide (a0 ≤ (57 : Int))))) rfl rfl (fun _ => rfl) rfl ?_
      refine WO.s0 (v' := .d (.bool (decide (a0 ≤ (57 : Int))))) rfl rfl (fun _ => rfl) rfl ?_
      refine WO.s0 (v' := .d (.bool (decide (a0 ≤ (57 : Int))))) rfl rfl (fun _ => rfl) rfl ?_
      refine WO.s0 (v' := .d (.bool (decide (a0 ≤ (57 : Int))))) rfl rfl (fun _ => rfl) rfl ?_
      refine WO.nil ?_
      refine WC.ret ?_
      obtain rfl := Option.some.inj h
      exact WC.done rfl rfl rfl
    · refine WO.s0 (v' := .d (.bool false)) rfl rfl (fun _ => rfl) (congrArg (fun b => RV.d (.bool b)) hb4) ?_
      refine WO.s0 (v' := .d (.bool false)) rfl rfl (fun _ => rfl) rfl ?_
      refine WO.skip rfl rfl ?_
      refine WO.skip rfl rfl ?_
      refine WO.s0 (v' := .d (.bool false)) rfl rfl (fun _ => rfl) rfl ?_
      refine WO.s0 (v' := .d (.bool false)) rfl rfl (fun _ => rfl) rfl ?_
      refine WO.s0 (v' := .d (.bool false)) rfl rfl (fun _ => rfl) rfl ?_
      refine WO.nil ?_
      refine WC.ret ?_
      obtain rfl := Option.some.inj h
      exact WC.done rfl rfl rfl
theorem source_code_ev {a0 : (List UInt8)} {a1 : Int} {a2 : Int} {r : Bool} (h : source_code a0 a1 a2 = some r) : EvP prog hints ext 42 [.d (.str a0), .d (.int .i64 a1), .d (.int .i64 a2)] [] (.d (.bool r), []) := by
  refine Ev.body rfl Tryd.func42 rfl (by kernel_rfl) ?_
  refine WC.regionSeq rfl rfl ?_
  refine WO.s0 (v' := .d (.bool false)) rfl rfl (fun _ => rfl) rfl ?_
  refine WO.nil ?_
  refine WC.seq ?_
  refine WC.regionSeq rfl rfl ?_
  refine WO.s0 (v' := .d (.str a0)) rfl rfl (fun _ => rfl) rfl ?_
  refine WO.s0 (v' := .d (.int .i64 (a0.length : Int))) rfl rfl (fun _ => rfl) rfl ?_
  refine WO.s0 (v' := .d (.int .i64 0)) rfl rfl (fun _ => rfl) rfl ?_
  refine WO.nil ?_
  refine bind_elim h (fun o8 ho8 h => ?_)
  refine WC.block (WC.loop (WL.ofLoop ho8 (fun s R' B' => ghosts prog 0 (A R' B') (hints.at_ 42 2) = some (A [(0, .d (.str a0)), (1, .d (.int .i64 a1)), (2, .d (.int .i64 a2)), (9, .d (.int .i64 (a0.length : Int))), (10, .d (.int .i64 s))] [])) (fun o e R' B' => match o with | .inl y => e = .exit 0 ∧ ghosts prog 0 (A R' B') (hints.at_ 42 7) = some (A [(0, .d (.str a0)), (1, .d (.int .i64 a1)), (2, .d (.int .i64 a2))] []) | .inr r => e = .ret ∧ finish prog (hints.own 42) Tryd.f42 0 (A R' B') = some (.d (.bool r), [])) rfl ?_ ?_))
  · rintro s1 R' B' q2 hI h
    refine WC.regionSeq hI rfl ?_
    refine ite_elim h (fun hb3 h => ?_) (fun hb3 h => ?_)
    · refine WO.s0 (v' := .d (.bool true)) rfl rfl (fun _ => rfl) (congrArg (fun b => RV.d (.bool b)) hb3) ?_
      refine WO.nil ?_
      refine WC.seq ?_
      refine WC.condT rfl ?_
      refine WC.skip ?_
      refine WC.seq ?_
      refine WC.block ?_
      refine WC.regionSeq rfl rfl ?_
      refine WO.s0 (v' := .d (.int .i64 s1)) rfl rfl (fun _ => rfl) rfl ?_
      refine WO.s0 (v' := .d (.int .i64 s1)) rfl rfl (fun _ => rfl) rfl ?_
      refine WO.nil ?_
      refine WC.regionSeq rfl rfl ?_
      refine WO.s0 (v' := .d (.str a0)) rfl rfl (fun _ => rfl) rfl ?_
      refine WO.s0 (v' := .d (.int .i64 s1)) rfl rfl (fun _ => rfl) rfl ?_
      refine bind_elim h (fun x4 hx4 h => ?_)
      refine WO.byteG hx4 rfl rfl rfl rfl rfl rfl ?_
      refine bind_elim h (fun x5 hx5 h => ?_)
      refine WO.callR (v := .d (.bool x5)) (u := []) rfl rfl (fun _ => rfl) rfl rfl rfl rfl rfl (source_plain_ev hx5) rfl rfl rfl rfl ?_
      refine ite_elim h (fun hb6 h => ?_) (fun hb6 h => ?_)
      · refine WO.s0 (v' := .d (.bool true)) rfl rfl (fun _ => rfl) (congrArg (fun b => RV.d (.bool b)) hb6) ?_
        refine WO.nil ?_
        refine WC.condT rfl ?_
        refine WC.regionSeq rfl rfl ?_
        refine WO.s0 (v' := .d (.bool false)) rfl rfl (fun _ => rfl) rfl ?_
        refine WO.nil ?_
        refine WC.ret ?_
        obtain rfl := Option.some.inj h
        exact ⟨(fun he => by cases he), rfl, rfl⟩
      · refine WO.s0 (v' := .d (.bool false)) rfl rfl (fun _ => rfl) (congrArg (fun b => RV.d (.bool b)) hb6) ?_
        refine WO.nil ?_
        refine WC.condF rfl ?_
        refine WC.skip ?_
        refine WC.region rfl rfl ?_
        refine WO.s0 (v' := .d (.int .i64 (IntKind.wrap .i64 (s1 + (1 : Int))))) rfl rfl (fun _ => rfl) rfl ?_
        refine WO.s0 (v' := .d (.int .i64 (IntKind.wrap .i64 (s1 + (1 : Int))))) rfl rfl (fun _ => rfl) rfl ?_
        refine WO.nil ?_
        obtain rfl := Option.some.inj h
        exact ⟨rfl, rfl⟩
    · refine WO.s0 (v' := .d (.bool false)) rfl rfl (fun _ => rfl) (congrArg (fun b => RV.d (.bool b)) hb3) ?_
      refine WO.nil ?_
      refine WC.seq ?_
      refine WC.condF rfl ?_
      refine WC.exit ?_
      obtain rfl := Option.some.inj h
      exact ⟨(fun he => by cases he), rfl, rfl⟩
  · intro e R' B' he hq
    rcases o8 with y9 | r10
    · obtain ⟨rfl, hI⟩ := hq
      refine ⟨fun _ => ?_, fun hne => (hne rfl).elim⟩
      refine WC.regionSeq hI rfl ?_
      refine WO.s0 (v' := .d (.str a0)) rfl rfl (fun _ => rfl) rfl ?_
      refine WO.s0 (v' := .d (.int .i64 (a0.length : Int))) rfl rfl (fun _ => rfl) rfl ?_
      refine WO.s0 (v' := .d (.int .i64 a1)) rfl rfl (fun _ => rfl) rfl ?_
      refine ite_elim h (fun hb11 h => ?_) (fun hb11 h => ?_)
      · refine WO.s0 (v' := .d (.bool true)) rfl rfl (fun _ => rfl) (congrArg (fun b => RV.d (.bool b)) hb11) ?_
        refine WO.s0 (v' := .d (.bool true)) rfl rfl (fun _ => rfl) rfl ?_
        refine WO.s0 (v' := .d (.str a0)) rfl rfl (fun _ => rfl) rfl ?_
        refine WO.s0 (v' := .d (.int .i64 (a0.length : Int))) rfl rfl (fun _ => rfl) rfl ?_
        refine WO.s0 (v' := .d (.int .i64 a2)) rfl rfl (fun _ => rfl) rfl ?_
        refine WO.s0 (v' := .d (.bool (decide ((a0.length : Int) ≤ a2)))) rfl rfl (fun _ => rfl) rfl ?_
        refine WO.s0 (v' := .d (.bool (decide ((a0.length : Int) ≤ a2)))) rfl rfl (fun _ => rfl) rfl ?_
        refine WO.s0 (v' := .d (.bool (decide ((a0.length : Int) ≤ a2)))) rfl rfl (fun _ => rfl) rfl ?_
        refine WO.nil ?_
        refine WC.ret ?_
        obtain rfl := Option.some.inj h
        exact WC.done rfl rfl rfl
      · refine WO.s0 (v' := .d (.bool false)) rfl rfl (fun _ => rfl) (congrArg (fun b => RV.d (.bool b)) hb11) ?_
        refine WO.s0 (v' := .d (.bool false)) rfl rfl (fun _ => rfl) rfl ?_
        refine WO.skip rfl rfl ?_
        refine WO.skip rfl rfl ?_
        refine WO.skip rfl rfl ?_
        refine WO.skip rfl rfl ?_
        refine WO.s0 (v' := .d (.bool false)) rfl rfl (fun _ => rfl) rfl ?_
        refine WO.s0 (v' := .d (.bool false)) rfl rfl (fun _ => rfl) rfl ?_
        refine WO.nil ?_
        refine WC.ret ?_
        obtain rfl := Option.some.inj h
        exact WC.done rfl rfl rfl
    · obtain ⟨rfl, hf⟩ := hq
      obtain rfl := Option.some.inj h
      exact hf
theorem source_Valid_ev {a0 : T_api_SourceID} {r : Bool} (h : source_Valid a0 = some r) : EvP prog hints ext 21 [.d (T_api_SourceID.pd a0)] [] (.d (.bool r), []) := by
  refine Ev.body rfl Tryd.func21 rfl (by kernel_rfl) ?_
  refine WC.regionSeq rfl rfl ?_
  refine WO.s1 (v := .ptr 16 0) (id := 16) (bx := .var [.d (.str a0.fNetwork), .d (.str a0.fStation), .d (.str a0.fLocation), .d (.str a0.fChannel)]) rfl rfl (fun _ => rfl) ?_
  refine WO.s0 (v' := .d (.bool false)) rfl rfl (fun _ => rfl) rfl ?_
  refine WO.nil ?_
  refine WC.regionSeq rfl rfl ?_
  refine WO.s0 (v' := .ptr 16 0) rfl rfl (fun _ => rfl) rfl ?_
  refine WO.s0 (v' := .d (.str a0.fNetwork)) rfl rfl (fun _ => rfl) rfl ?_
  refine bind_elim h (fun x1 hx1 h => ?_)
  refine ite_elim h (fun hb2 h => ?_) (fun hb2 h => ?_)
  · refine WO.callR (v := .d (.bool true)) (u := []) rfl rfl (fun _ => rfl) rfl rfl rfl rfl rfl (source_code_ev hx1) rfl rfl (congrArg (fun b => RV.d (.bool b)) hb2) rfl ?_
    refine WO.s0 (v' := .d (.bool true)) rfl rfl (fun _ => rfl) rfl ?_
    refine WO.s0 (v' := .ptr 16 1) rfl rfl (fun _ => rfl) rfl ?_
    refine WO.s0 (v' := .d (.str a0.fStation)) rfl rfl (fun _ => rfl) rfl ?_
    refine bind_elim h (fun x3 hx3 h => ?_)
    refine WO.callR (v := .d (.bool x3)) (u := []) rfl rfl (fun _ => rfl) rfl rfl rfl rfl rfl (source_code_ev hx3) rfl rfl rfl rfl ?_
    refine ite_elim h (fun hb4 h => ?_) (fun hb4 h => ?_)
    · refine WO.s0 (v' := .d (.bool true)) rfl rfl (fun _ => rfl) (congrArg (fun b => RV.d (.bool b)) hb4) ?_
      refine WO.s0 (v' := .d (.bool true)) rfl rfl (fun _ => rfl) rfl ?_
      refine WO.s0 (v' := .ptr 16 2) rfl rfl (fun _ => rfl) rfl ?_
      refine WO.s0 (v' := .d (.str a0.fLocation)) rfl rfl (fun _ => rfl) rfl ?_
      refine bind_elim h (fun x5 hx5 h => ?_)
      refine WO.callR (v := .d (.bool x5)) (u := []) rfl rfl (fun _ => rfl) rfl rfl rfl rfl rfl (source_code_ev hx5) rfl rfl rfl rfl ?_
      refine ite_elim h (fun hb6 h => ?_) (fun hb6 h => ?_)
      · refine WO.s0 (v' := .d (.bool true)) rfl rfl (fun _ => rfl) (congrArg (fun b => RV.d (.bool b)) hb6) ?_
        refine WO.s0 (v' := .d (.bool true)) rfl rfl (fun _ => rfl) rfl ?_
        refine WO.s0 (v' := .ptr 16 2) rfl rfl (fun _ => rfl) rfl ?_
        refine WO.s0 (v' := .d (.str a0.fLocation)) rfl rfl (fun _ => rfl) rfl ?_
        refine WO.s0 (v' := .d (.int .i64 (a0.fLocation.length : Int))) rfl rfl (fun _ => rfl) rfl ?_
        refine WO.s0 (v' := .d (.bool ((a0.fLocation.length : Int) != (1 : Int)))) rfl rfl (fun _ => rfl) rfl ?_
        refine ite_elim h (fun hb7 h => ?_) (fun hb7 h => ?_)
        · refine WO.s0 (v' := .d (.bool true)) rfl rfl (fun _ => rfl) (congrArg (fun b => RV.d (.bool b)) hb7) ?_
          refine WO.s0 (v' := .d (.bool true)) rfl rfl (fun _ => rfl) rfl ?_
          refine WO.s0 (v' := .ptr 16 3) rfl rfl (fun _ => rfl) rfl ?_
          refine WO.s0 (v' := .d (.str a0.fChannel)) rfl rfl (fun _ => rfl) rfl ?_
          refine bind_elim h (fun x8 hx8 h => ?_)
          refine WO.callR (v := .d (.bool x8)) (u := []) rfl rfl (fun _ => rfl) rfl rfl rfl rfl rfl (source_code_ev hx8) rfl rfl rfl rfl ?_
          refine WO.s0 (v' := .d (.bool x8)) rfl rfl (fun _ => rfl) rfl ?_
          refine WO.s0 (v' := .d (.bool x8)) rfl rfl (fun _ => rfl) rfl ?_
          refine WO.nil ?_
          refine WC.ret ?_
          obtain rfl := Option.some.inj h
          exact WC.done rfl rfl rfl
        · refine WO.s0 (v' := .d (.bool false)) rfl rfl (fun _ => rfl) (congrArg (fun b => RV.d (.bool b)) hb7) ?_
          refine WO.s0 (v' := .d (.bool false)) rfl rfl (fun _ => rfl) rfl ?_
          refine WO.skip rfl rfl ?_
          refine WO.skip rfl rfl ?_
          refine WO.skip rfl rfl ?_
          refine WO.s0 (v' := .d (.bool false)) rfl rfl (fun _ => rfl) rfl ?_
          refine WO.s0 (v' := .d (.bool false)) rfl rfl (fun _ => rfl) rfl ?_
          refine WO.nil ?_
          refine WC.ret ?_
          obtain rfl := Option.some.inj h
          exact WC.done rfl rfl rfl
      · refine WO.s0 (v' := .d (.bool false)) rfl rfl (fun _ => rfl) (congrArg (fun b => RV.d (.bool b)) hb6) ?_
        refine WO.s0 (v' := .d (.bool false)) rfl rfl (fun _ => rfl) rfl ?_
        refine WO.skip rfl rfl ?_
        refine WO.skip rfl rfl ?_
        refine WO.skip rfl rfl ?_
        refine WO.skip rfl rfl ?_
        refine WO.s0 (v' := .d (.bool false)) rfl rfl (fun _ => rfl) rfl ?_
        refine WO.s0 (v' := .d (.bool false)) rfl rfl (fun _ => rfl) rfl ?_
        refine WO.skip rfl rfl ?_
        refine WO.skip rfl rfl ?_
        refine WO.skip rfl rfl ?_
        refine WO.s0 (v' := .d (.bool false)) rfl rfl (fun _ => rfl) rfl ?_
        refine WO.s0 (v' := .d (.bool false)) rfl rfl (fun _ => rfl) rfl ?_
        refine WO.nil ?_
        refine WC.ret ?_
        obtain rfl := Option.some.inj h
        exact WC.done rfl rfl rfl
    · refine WO.s0 (v' := .d (.bool false)) rfl rfl (fun _ => rfl) (congrArg (fun b => RV.d (.bool b)) hb4) ?_
      refine WO.s0 (v' := .d (.bool false)) rfl rfl (fun _ => rfl) rfl ?_
      refine WO.skip rfl rfl ?_
      refine WO.skip rfl rfl ?_
      refine WO.skip rfl rfl ?_
      refine WO.s0 (v' := .d (.bool false)) rfl rfl (fun _ => rfl) rfl ?_
      refine WO.s0 (v' := .d (.bool false)) rfl rfl (fun _ => rfl) rfl ?_
      refine WO.skip rfl rfl ?_
      refine WO.skip rfl rfl ?_
      refine WO.skip rfl rfl ?_
      refine WO.skip rfl rfl ?_
      refine WO.s0 (v' := .d (.bool false)) rfl rfl (fun _ => rfl) rfl ?_
      refine WO.s0 (v' := .d (.bool false)) rfl rfl (fun _ => rfl) rfl ?_
      refine WO.skip rfl rfl ?_
      refine WO.skip rfl rfl ?_
      refine WO.skip rfl rfl ?_
      refine WO.s0 (v' := .d (.bool false)) rfl rfl (fun _ => rfl) rfl ?_
      refine WO.s0 (v' := .d (.bool false)) rfl rfl (fun _ => rfl) rfl ?_
      refine WO.nil ?_
      refine WC.ret ?_
      obtain rfl := Option.some.inj h
      exact WC.done rfl rfl rfl
  · refine WO.callR (v := .d (.bool false)) (u := []) rfl rfl (fun _ => rfl) rfl rfl rfl rfl rfl (source_code_ev hx1) rfl rfl (congrArg (fun b => RV.d (.bool b)) hb2) rfl ?_
    refine WO.s0 (v' := .d (.bool false)) rfl rfl (fun _ => rfl) rfl ?_
    refine WO.skip rfl rfl ?_
    refine WO.skip rfl rfl ?_
    refine WO.skip rfl rfl ?_
    refine WO.s0 (v' := .d (.bool false)) rfl rfl (fun _ => rfl) rfl ?_
    refine WO.s0 (v' := .d (.bool false)) rfl rfl (fun _ => rfl) rfl ?_
    refine WO.skip rfl rfl ?_
    refine WO.skip rfl rfl ?_
    refine WO.skip rfl rfl ?_
    refine WO.s0 (v' := .d (.bool false)) rfl rfl (fun _ => rfl) rfl ?_
    refine WO.s0 (v' := .d (.bool false)) rfl rfl (fun _ => rfl) rfl ?_
    refine WO.skip rfl rfl ?_
    refine WO.skip rfl rfl ?_
    refine WO.skip rfl rfl ?_
    refine WO.skip rfl rfl ?_
    refine WO.s0 (v' := .d (.bool false)) rfl rfl (fun _ => rfl) rfl ?_
    refine WO.s0 (v' := .d (.bool false)) rfl rfl (fun _ => rfl) rfl ?_
    refine WO.skip rfl rfl ?_
    refine WO.skip rfl rfl ?_
    refine WO.skip rfl rfl ?_
    refine WO.s0 (v' := .d (.bool false)) rfl rfl (fun _ => rfl) rfl ?_
    refine WO.s0 (v' := .d (.bool false)) rfl rfl (fun _ => rfl) rfl ?_
    refine WO.nil ?_
    refine WC.ret ?_
    obtain rfl := Option.some.inj h
    exact WC.done rfl rfl rfl
theorem source_Parse_ev {a0 : (List UInt8)} {r : T_api_SourceID × Int} (h : source_Parse a0 = some r) : EvP prog hints ext 15 [.d (.str a0)] [] (.tup [.d (T_api_SourceID.pd r.1), .d (.int .i64 r.2)], []) := by
  refine Ev.body rfl Tryd.func15 rfl (by kernel_rfl) ?_
  refine WC.regionSeq rfl rfl ?_
  refine WO.s1 (v := .ptr 32 0) (id := 32) (bx := .var [.d (.str []), .d (.str []), .d (.str []), .d (.str [])]) rfl rfl (fun _ => rfl) ?_
  refine WO.s0 (v' := .d (.int .i64 0)) rfl rfl (fun _ => rfl) rfl ?_
  refine WO.nil ?_
  refine WC.regionSeq rfl rfl ?_
  refine WO.s0 (v' := .d (.str a0)) rfl rfl (fun _ => rfl) rfl ?_
  refine bind_elim h (fun x1 hx1 h => ?_)
  refine WO.callR (v := .d (.lst (x1.map PD.str))) (u := []) rfl rfl (fun _ => rfl) rfl rfl rfl rfl rfl ((split_ev rfl) hx1) rfl rfl rfl rfl ?_
  refine WO.s0 (v' := .d (.lst (x1.map PD.str))) rfl rfl (fun _ => rfl) rfl ?_
  refine WO.nil ?_
  refine WC.seq ?_
  refine WC.regionSeq rfl rfl ?_
  refine WO.s0 (v' := .d (.lst (x1.map PD.str))) rfl rfl (fun _ => rfl) rfl ?_
  refine WO.s0 (v' := .d (.int .i64 (x1.length : Int))) rfl rfl (fun _ => rfl) (lenMap _ _) ?_
  refine ite_elim h (fun hb2 h => ?_) (fun hb2 h => ?_)
  · refine WO.s0 (v' := .d (.bool true)) rfl rfl (fun _ => rfl) (congrArg (fun b => RV.d (.bool b)) hb2) ?_
    refine WO.nil ?_
    refine WC.condT rfl ?_
    refine WC.regionSeq rfl rfl ?_
    refine WO.s0 (v' := .d (T_api_SourceID.pd (T_api_SourceID.mk [] [] [] []))) rfl rfl (fun _ => rfl) rfl ?_
    refine WO.n1 (v := .undef) (id := 32) (bx := .var [.d (.str ((T_api_SourceID.mk [] [] [] []).fNetwork)), .d (.str ((T_api_SourceID.mk [] [] [] []).fStation)), .d (.str ((T_api_SourceID.mk [] [] [] []).fLocation)), .d (.str ((T_api_SourceID.mk [] [] [] []).fChannel))]) rfl rfl (fun _ => rfl) ?_
    refine WO.s0 (v' := .d (.int .i64 3)) rfl rfl (fun _ => rfl) rfl ?_
    refine WO.nil ?_
    refine WC.ret ?_
    obtain rfl := Option.some.inj h
    exact WC.done rfl rfl rfl
  · refine WO.s0 (v' := .d (.bool false)) rfl rfl (fun _ => rfl) (congrArg (fun b => RV.d (.bool b)) hb2) ?_
    refine WO.nil ?_
    refine WC.condF rfl ?_
    refine WC.skip ?_
    refine WC.regionDSeq rfl rfl ?_
    refine WO.s0 (v' := .d (.lst (x1.map PD.str))) rfl rfl (fun _ => rfl) rfl ?_
    refine bind_elim h (fun x3 hx3 h => ?_)
    refine WO.elemG hx3 rfl rfl rfl rfl rfl rfl rfl rfl rfl ?_
    refine WO.s0 (v' := .d (.str x3)) rfl rfl (fun _ => rfl) rfl ?_
    refine WO.s0 (v' := .d (.lst (x1.map PD.str))) rfl rfl (fun _ => rfl) rfl ?_
    refine bind_elim h (fun x4 hx4 h => ?_)
    refine WO.elemG hx4 rfl rfl rfl rfl rfl rfl rfl rfl rfl ?_
    refine WO.s0 (v' := .d (.str x4)) rfl rfl (fun _ => rfl) rfl ?_
    refine WO.s0 (v' := .d (.lst (x1.map PD.str))) rfl rfl (fun _ => rfl) rfl ?_
    refine bind_elim h (fun x5 hx5 h => ?_)
    refine WO.elemG hx5 rfl rfl rfl rfl rfl rfl rfl rfl rfl ?_
    refine WO.s0 (v' := .d (.str x5)) rfl rfl (fun _ => rfl) rfl ?_
    refine WO.s0 (v' := .d (.lst (x1.map PD.str))) rfl rfl (fun _ => rfl) rfl ?_
    refine bind_elim h (fun x6 hx6 h => ?_)
    refine WO.elemG hx6 rfl rfl rfl rfl rfl rfl rfl rfl rfl ?_
    refine WO.s0 (v' := .d (.str x6)) rfl rfl (fun _ => rfl) rfl ?_
    refine WO.s0 (v' := .d (T_api_SourceID.pd (T_api_SourceID.mk x3 x4 x5 x6))) rfl rfl (fun _ => rfl) rfl ?_
    refine WO.s1 (v := .ptr 80 0) (id := 80) (bx := .var [.d (.str []), .d (.str []), .d (.str []), .d (.str [])]) rfl rfl (fun _ => rfl) ?_
    refine WO.n1 (v := .undef) (id := 80) (bx := .var [.d (.str ((T_api_SourceID.mk x3 x4 x5 x6).fNetwork)), .d (.str ((T_api_SourceID.mk x3 x4 x5 x6).fStation)), .d (.str ((T_api_SourceID.mk x3 x4 x5 x6).fLocation)), .d (.str ((T_api_SourceID.mk x3 x4 x5 x6).fChannel))]) rfl rfl (fun _ => rfl) ?_
    refine WO.nil ⟨by kernel_rfl, ?_⟩
    refine WC.seq ?_
    refine WC.regionSeq rfl rfl ?_
    refine WO.s0 (v' := .d (T_api_SourceID.pd (T_api_SourceID.mk x3 x4 x5 x6))) rfl rfl (fun _ => rfl) rfl ?_
    refine bind_elim h (fun x7 hx7 h => ?_)
    refine WO.callR (v := .d (.bool x7)) (u := []) rfl rfl (fun _ => rfl) rfl rfl rfl rfl rfl (source_Valid_ev hx7) rfl rfl rfl rfl ?_
    refine ite_elim h (fun hb8 h => ?_) (fun hb8 h => ?_)
    · refine WO.s0 (v' := .d (.bool true)) rfl rfl (fun _ => rfl) (congrArg (fun b => RV.d (.bool b)) hb8) ?_
      refine WO.nil ?_
      refine WC.condT rfl ?_
      refine WC.regionSeq rfl rfl ?_
      refine WO.s0 (v' := .d (T_api_SourceID.pd (T_api_SourceID.mk [] [] [] []))) rfl rfl (fun _ => rfl) rfl ?_
      refine WO.n1 (v := .undef) (id := 32) (bx := .var [.d (.str ((T_api_SourceID.mk [] [] [] []).fNetwork)), .d (.str ((T_api_SourceID.mk [] [] [] []).fStation)), .d (.str ((T_api_SourceID.mk [] [] [] []).fLocation)), .d (.str ((T_api_SourceID.mk [] [] [] []).fChannel))]) rfl rfl (fun _ => rfl) ?_
      refine WO.s0 (v' := .d (.int .i64 3)) rfl rfl (fun _ => rfl) rfl ?_
      refine WO.nil ?_
      refine WC.ret ?_
      obtain rfl := Option.some.inj h
      exact WC.done rfl rfl rfl
    · refine WO.s0 (v' := .d (.bool false)) rfl rfl (fun _ => rfl) (congrArg (fun b => RV.d (.bool b)) hb8) ?_
      refine WO.nil ?_
      refine WC.condF rfl ?_
      refine WC.skip ?_
      refine WC.regionSeq rfl rfl ?_
      refine WO.s0 (v' := .d (T_api_SourceID.pd (T_api_SourceID.mk x3 x4 x5 x6))) rfl rfl (fun _ => rfl) rfl ?_
      refine WO.n1 (v := .undef) (id := 32) (bx := .var [.d (.str ((T_api_SourceID.mk x3 x4 x5 x6).fNetwork)), .d (.str ((T_api_SourceID.mk x3 x4 x5 x6).fStation)), .d (.str ((T_api_SourceID.mk x3 x4 x5 x6).fLocation)), .d (.str ((T_api_SourceID.mk x3 x4 x5 x6).fChannel))]) rfl rfl (fun _ => rfl) ?_
      refine WO.s0 (v' := .d (.int .i64 0)) rfl rfl (fun _ => rfl) rfl ?_
      refine WO.nil ?_
      refine WC.ret ?_
      obtain rfl := Option.some.inj h
      exact WC.done rfl rfl rfl
theorem source_pattern_ev {a0 : (List UInt8)} {r : (List (List UInt8)) × Bool} (h : source_pattern a0 = some r) : EvP prog hints ext 30 [.d (.str a0)] [] (.tup [.d (.lst (r.1.map PD.str)), .d (.bool r.2)], []) := by
  refine Ev.body rfl Tryd.func30 rfl (by kernel_rfl) ?_
  refine WC.regionSeq rfl rfl ?_
  refine WO.s0 (v' := .nils) rfl rfl (fun _ => rfl) rfl ?_
  refine WO.s0 (v' := .d (.bool false)) rfl rfl (fun _ => rfl) rfl ?_
  refine WO.nil ?_
  refine WC.regionSeq rfl rfl ?_
  refine WO.s0 (v' := .d (.str a0)) rfl rfl (fun _ => rfl) rfl ?_
  refine bind_elim h (fun x1 hx1 h => ?_)
  refine WO.callR (v := .d (.lst (x1.map PD.str))) (u := []) rfl rfl (fun _ => rfl) rfl rfl rfl rfl rfl ((split_ev rfl) hx1) rfl rfl rfl rfl ?_
  refine WO.s0 (v' := .d (.lst (x1.map PD.str))) rfl rfl (fun _ => rfl) rfl ?_
  refine WO.nil ?_
  refine WC.seq ?_
  refine WC.regionSeq rfl rfl ?_
  refine WO.s0 (v' := .d (.lst (x1.map PD.str))) rfl rfl (fun _ => rfl) rfl ?_
  refine WO.s0 (v' := .d (.int .i64 (x1.length : Int))) rfl rfl (fun _ => rfl) (lenMap _ _) ?_
  refine WO.s0 (v' := .d (.int .i64 0)) rfl rfl (fun _ => rfl) rfl ?_
  refine WO.nil ?_
  refine bind_elim h (fun o23 ho23 h => ?_)
  refine WC.block (WC.loop (WL.ofLoop ho23 (fun s R' B' => ghosts prog 0 (A R' B') (hints.at_ 30 3) = some (A [(4, .d (.lst (x1.map PD.str))), (10, .d (.lst (x1.map PD.str))), (11, .d (.int .i64 (x1.length : Int))), (12, .d (.int .i64 s))] [])) (fun o e R' B' => match o with | .inl y => e = .exit 0 ∧ ghosts prog 0 (A R' B') (hints.at_ 30 14) = some (A [(4, .d (.lst (x1.map PD.str)))] []) | .inr r => e = .ret ∧ finish prog (hints.own 30) Tryd.f30 0 (A R' B') = some (.tup [.d (.lst (r.1.map PD.str)), .d (.bool r.2)], [])) rfl ?_ ?_))
  · rintro s2 R' B' q3 hI h
    refine WC.regionSeq hI rfl ?_
    refine ite_elim h (fun hb4 h => ?_) (fun hb4 h => ?_)
    · refine WO.s0 (v' := .d (.bool true)) rfl rfl (fun _ => rfl) (congrArg (fun b => RV.d (.bool b)) hb4) ?_
      refine WO.nil ?_
      refine WC.seq ?_
      refine WC.condT rfl ?_
      refine WC.skip ?_
      refine WC.seq ?_
      refine WC.block ?_
      refine WC.regionSeq rfl rfl ?_
      refine bind_elim h (fun x5 hx5 h => ?_)
      refine WO.elemG hx5 rfl rfl rfl rfl rfl rfl rfl rfl rfl ?_
      refine WO.s0 (v' := .d (.str x5)) rfl rfl (fun _ => rfl) rfl ?_
      refine WO.s0 (v' := .d (.str x5)) rfl rfl (fun _ => rfl) rfl ?_
      refine WO.nil ?_
      refine WC.seq ?_
      refine WC.regionSeq rfl rfl ?_
      refine WO.s0 (v' := .d (.str x5)) rfl rfl (fun _ => rfl) rfl ?_
      refine WO.s0 (v' := .d (.int .i64 (x5.length : Int))) rfl rfl (fun _ => rfl) rfl ?_
      refine WO.s0 (v' := .d (.int .i64 0)) rfl rfl (fun _ => rfl) rfl ?_
      refine WO.nil ?_
      refine bind_elim h (fun o18 ho18 h => ?_)
      refine WC.block (WC.loop (WL.ofLoop ho18 (fun s R' B' => ghosts prog 0 (A R' B') (hints.at_ 30 6) = some (A [(4, .d (.lst (x1.map PD.str))), (6, .d (.str x5)), (10, .d (.lst (x1.map PD.str))), (11, .d (.int .i64 (x1.length : Int))), (12, .d (.int .i64 s2)), (17, .d (.int .i64 (x5.length : Int))), (18, .d (.int .i64 s))] [])) (fun o e R' B' => match o with | .inl y => e = .exit 2 ∧ ghosts prog 0 (A R' B') (hints.at_ 30 11) = some (A [(4, .d (.lst (x1.map PD.str))), (6, .d (.str x5)), (10, .d (.lst (x1.map PD.str))), (11, .d (.int .i64 (x1.length : Int))), (12, .d (.int .i64 y))] []) | .inr r => e = .ret ∧ finish prog (hints.own 30) Tryd.f30 0 (A R' B') = some (.tup [.d (.lst (r.1.map PD.str)), .d (.bool r.2)], [])) rfl ?_ ?_))
      · rintro s6 R' B' q8 hI h
        refine WC.regionSeq hI rfl ?_
        refine ite_elim h (fun hb9 h => ?_) (fun hb9 h => ?_)
        · refine WO.s0 (v' := .d (.bool true)) rfl rfl (fun _ => rfl) (congrArg (fun b => RV.d (.bool b)) hb9) ?_
          refine WO.nil ?_
          refine WC.seq ?_
          refine WC.condT rfl ?_
          refine WC.skip ?_
          refine WC.seq ?_
          refine WC.block ?_
          refine WC.regionSeq rfl rfl ?_
          refine WO.s0 (v' := .d (.int .i64 s6)) rfl rfl (fun _ => rfl) rfl ?_
          refine WO.s0 (v' := .d (.int .i64 s6)) rfl rfl (fun _ => rfl) rfl ?_
          refine WO.nil ?_
          refine WC.regionSeq rfl rfl ?_
          refine WO.s0 (v' := .d (.str x5)) rfl rfl (fun _ => rfl) rfl ?_
          refine WO.s0 (v' := .d (.int .i64 s6)) rfl rfl (fun _ => rfl) rfl ?_
          refine bind_elim h (fun x10 hx10 h => ?_)
          refine WO.byteG hx10 rfl rfl rfl rfl rfl rfl ?_
          refine bind_elim h (fun x11 hx11 h => ?_)
          refine WO.callR (v := .d (.bool x11)) (u := []) rfl rfl (fun _ => rfl) rfl rfl rfl rfl rfl (source_plain_ev hx11) rfl rfl rfl rfl ?_
          refine ite_elim h (fun hb12 h => ?_) (fun hb12 h => ?_)
          · refine WO.s0 (v' := .d (.bool true)) rfl rfl (fun _ => rfl) (congrArg (fun b => RV.d (.bool b)) hb12) ?_
            refine WO.s0 (v' := .d (.bool true)) rfl rfl (fun _ => rfl) rfl ?_
            refine WO.s0 (v' := .d (.str x5)) rfl rfl (fun _ => rfl) rfl ?_
            refine WO.s0 (v' := .d (.int .i64 s6)) rfl rfl (fun _ => rfl) rfl ?_
            refine bind_elim h (fun x13 hx13 h => ?_)
            refine WO.byteG hx13 rfl rfl rfl rfl rfl rfl ?_
            refine WO.s0 (v' := .d (.bool (x13 != (63 : Int)))) rfl rfl (fun _ => rfl) rfl ?_
            refine ite_elim h (fun hb14 h => ?_) (fun hb14 h => ?_)
            · refine WO.s0 (v' := .d (.bool true)) rfl rfl (fun _ => rfl) (congrArg (fun b => RV.d (.bool b)) hb14) ?_
              refine WO.s0 (v' := .d (.bool true)) rfl rfl (fun _ => rfl) rfl ?_
              refine WO.s0 (v' := .d (.str x5)) rfl rfl (fun _ => rfl) rfl ?_
              refine WO.s0 (v' := .d (.int .i64 s6)) rfl rfl (fun _ => rfl) rfl ?_
              refine bind_elim h (fun x15 hx15 h => ?_)
              refine WO.byteG hx15 rfl rfl rfl rfl rfl rfl ?_
              refine WO.s0 (v' := .d (.bool (x15 != (42 : Int)))) rfl rfl (fun _ => rfl) rfl ?_
              refine ite_elim h (fun hb16 h => ?_) (fun hb16 h => ?_)
              · refine WO.s0 (v' := .d (.bool true)) rfl rfl (fun _ => rfl) (congrArg (fun b => RV.d (.bool b)) hb16) ?_
                refine WO.nil ?_
                refine WC.condT rfl ?_
                refine WC.regionSeq rfl rfl ?_
                refine WO.s0 (v' := .nils) rfl rfl (fun _ => rfl) rfl ?_
                refine WO.s0 (v' := .d (.bool false)) rfl rfl (fun _ => rfl) rfl ?_
                refine WO.nil ?_
                refine WC.ret ?_
                obtain rfl := Option.some.inj h
                exact ⟨(fun he => by cases he), rfl, rfl⟩
              · refine WO.s0 (v' := .d (.bool false)) rfl rfl (fun _ => rfl) (congrArg (fun b => RV.d (.bool b)) hb16) ?_
                refine WO.nil ?_
                refine WC.condF rfl ?_
                refine WC.skip ?_
                refine WC.region rfl rfl ?_
                refine WO.s0 (v' := .d (.int .i64 (IntKind.wrap .i64 (s6 + (1 : Int))))) rfl rfl (fun _ => rfl) rfl ?_
                refine WO.s0 (v' := .d (.int .i64 (IntKind.wrap .i64 (s6 + (1 : Int))))) rfl rfl (fun _ => rfl) rfl ?_
                refine WO.nil ?_
                obtain rfl := Option.some.inj h
                exact ⟨rfl, rfl⟩
            · refine WO.s0 (v' := .d (.bool false)) rfl rfl (fun _ => rfl) (congrArg (fun b => RV.d (.bool b)) hb14) ?_
              refine WO.s0 (v' := .d (.bool false)) rfl rfl (fun _ => rfl) rfl ?_
              refine WO.skip rfl rfl ?_
              refine WO.skip rfl rfl ?_
              refine WO.skip rfl rfl ?_
              refine WO.skip rfl rfl ?_
              refine WO.s0 (v' := .d (.bool false)) rfl rfl (fun _ => rfl) rfl ?_
              refine WO.nil ?_
              refine WC.condF rfl ?_
              refine WC.skip ?_
              refine WC.region rfl rfl ?_
              refine WO.s0 (v' := .d (.int .i64 (IntKind.wrap .i64 (s6 + (1 : Int))))) rfl rfl (fun _ => rfl) rfl ?_
              refine WO.s0 (v' := .d (.int .i64 (IntKind.wrap .i64 (s6 + (1 : Int))))) rfl rfl (fun _ => rfl) rfl ?_
              refine WO.nil ?_
              obtain rfl := Option.some.inj h
              exact ⟨rfl, rfl⟩
          · refine WO.s0 (v' := .d (.bool false)) rfl rfl (fun _ => rfl) (congrArg (fun b => RV.d (.bool b)) hb12) ?_
            refine WO.s0 (v' := .d (.bool false)) rfl rfl (fun _ => rfl) rfl ?_
            refine WO.skip rfl rfl ?_
            refine WO.skip rfl rfl ?_
            refine WO.skip rfl rfl ?_
            refine WO.skip rfl rfl ?_
            refine WO.s0 (v' := .d (.bool false)) rfl rfl (fun _ => rfl) rfl ?_
            refine WO.s0 (v' := .d (.bool false)) rfl rfl (fun _ => rfl) rfl ?_
            refine WO.skip rfl rfl ?_
            refine WO.skip rfl rfl ?_
            refine WO.skip rfl rfl ?_
            refine WO.skip rfl rfl ?_
            refine WO.s0 (v' := .d (.bool false)) rfl rfl (fun _ => rfl) rfl ?_
            refine WO.nil ?_
            refine WC.condF rfl ?_
            refine WC.skip ?_
            refine WC.region rfl rfl ?_
            refine WO.s0 (v' := .d (.int .i64 (IntKind.wrap .i64 (s6 + (1 : Int))))) rfl rfl (fun _ => rfl) rfl ?_
            refine WO.s0 (v' := .d (.int .i64 (IntKind.wrap .i64 (s6 + (1 : Int))))) rfl rfl (fun _ => rfl) rfl ?_
            refine WO.nil ?_
            obtain rfl := Option.some.inj h
            exact ⟨rfl, rfl⟩
        · refine WO.s0 (v' := .d (.bool false)) rfl rfl (fun _ => rfl) (congrArg (fun b => RV.d (.bool b)) hb9) ?_
          refine WO.nil ?_
          refine WC.seq ?_
          refine WC.condF rfl ?_
          refine WC.exit ?_
          obtain rfl := Option.some.inj h
          exact ⟨(fun he => by cases he), rfl, rfl⟩
      · intro e R' B' he hq
        rcases o18 with y19 | r20
        · obtain ⟨rfl, hI⟩ := hq
          refine ⟨fun _ => ?_, fun hne => (hne rfl).elim⟩
          refine WC.regionSeq hI rfl ?_
          refine WO.s0 (v' := .d (.str x5)) rfl rfl (fun _ => rfl) rfl ?_
          refine WO.s0 (v' := .d (.int .i64 (x5.length : Int))) rfl rfl (fun _ => rfl) rfl ?_
          refine ite_elim h (fun hb21 h => ?_) (fun hb21 h => ?_)
          · refine WO.s0 (v' := .d (.bool true)) rfl rfl (fun _ => rfl) (congrArg (fun b => RV.d (.bool b)) hb21) ?_
            refine WO.nil ?_
            refine WC.condT rfl ?_
            refine WC.regionSeq rfl rfl ?_
            refine WO.s0 (v' := .nils) rfl rfl (fun _ => rfl) rfl ?_
            refine WO.s0 (v' := .d (.bool false)) rfl rfl (fun _ => rfl) rfl ?_
            refine WO.nil ?_
            refine WC.ret ?_
            obtain rfl := Option.some.inj h
            exact ⟨(fun he => by cases he), rfl, rfl⟩
          · refine WO.s0 (v' := .d (.bool false)) rfl rfl (fun _ => rfl) (congrArg (fun b => RV.d (.bool b)) hb21) ?_
            refine WO.nil ?_
            refine WC.condF rfl ?_
            refine WC.skip ?_
            refine WC.region rfl rfl ?_
            refine WO.s0 (v' := .d (.int .i64 (IntKind.wrap .i64 (y19 + (1 : Int))))) rfl rfl (fun _ => rfl) rfl ?_
            refine WO.s0 (v' := .d (.int .i64 (IntKind.wrap .i64 (y19 + (1 : Int))))) rfl rfl (fun _ => rfl) rfl ?_
            refine WO.nil ?_
            obtain rfl := Option.some.inj h
            exact ⟨rfl, rfl⟩
        · obtain ⟨rfl, hf⟩ := hq
          obtain rfl := Option.some.inj h
          exact ⟨(fun he => by cases he), rfl, hf⟩
    · refine WO.s0 (v' := .d (.bool false)) rfl rfl (fun _ => rfl) (congrArg (fun b => RV.d (.bool b)) hb4) ?_
      refine WO.nil ?_
      refine WC.seq ?_
      refine WC.condF rfl ?_
      refine WC.exit ?_
      obtain rfl := Option.some.inj h
      exact ⟨(fun he => by cases he), rfl, rfl⟩
  · intro e R' B' he hq
    rcases o23 with y24 | r25
    · obtain ⟨rfl, hI⟩ := hq
      refine ⟨fun _ => ?_, fun hne => (hne rfl).elim⟩
      refine WC.regionSeq hI rfl ?_
      refine WO.s0 (v' := .d (.lst (x1.map PD.str))) rfl rfl (fun _ => rfl) rfl ?_
      refine WO.s0 (v' := .d (.lst (x1.map PD.str))) rfl rfl (fun _ => rfl) rfl ?_
      refine WO.s0 (v' := .d (.int .i64 (x1.length : Int))) rfl rfl (fun _ => rfl) (lenMap _ _) ?_
      refine WO.s0 (v' := .d (.bool ((x1.length : Int) == (4 : Int)))) rfl rfl (fun _ => rfl) rfl ?_
      refine WO.s0 (v' := .d (.lst (x1.map PD.str))) rfl rfl (fun _ => rfl) rfl ?_
      refine WO.s0 (v' := .d (.bool ((x1.length : Int) == (4 : Int)))) rfl rfl (fun _ => rfl) rfl ?_
      refine WO.nil ?_
      refine WC.ret ?_
      obtain rfl := Option.some.inj h
      exact WC.done rfl rfl rfl
    · obtain ⟨rfl, hf⟩ := hq
      obtain rfl := Option.some.inj h
      exact hf
theorem source_parts_ev {a0 : T_api_SourceID} {r : A4__List_UInt8_} (h : source_parts a0 = some r) : EvP prog hints ext 32 [.d (T_api_SourceID.pd a0)] [] (.d (A4__List_UInt8_.pd r), []) := by
  refine Ev.body rfl Tryd.func32 rfl (by kernel_rfl) ?_
  refine WC.regionSeq rfl rfl ?_
  refine WO.s1 (v := .ptr 16 0) (id := 16) (bx := .var [.d (.str a0.fNetwork), .d (.str a0.fStation), .d (.str a0.fLocation), .d (.str a0.fChannel)]) rfl rfl (fun _ => rfl) ?_
  refine WO.s1 (v := .ptr 32 0) (id := 32) (bx := .var [.d (.str []), .d (.str []), .d (.str []), .d (.str [])]) rfl rfl (fun _ => rfl) ?_
  refine WO.nil ?_
  refine WC.regionSeq rfl rfl ?_
  refine WO.s0 (v' := .ptr 16 0) rfl rfl (fun _ => rfl) rfl ?_
  refine WO.s0 (v' := .d (.str a0.fNetwork)) rfl rfl (fun _ => rfl) rfl ?_
  refine WO.s0 (v' := .ptr 16 1) rfl rfl (fun _ => rfl) rfl ?_
  refine WO.s0 (v' := .d (.str a0.fStation)) rfl rfl (fun _ => rfl) rfl ?_
  refine WO.s0 (v' := .ptr 16 2) rfl rfl (fun _ => rfl) rfl ?_
  refine WO.s0 (v' := .d (.str a0.fLocation)) rfl rfl (fun _ => rfl) rfl ?_
  refine WO.s0 (v' := .ptr 16 3) rfl rfl (fun _ => rfl) rfl ?_
  refine WO.s0 (v' := .d (.str a0.fChannel)) rfl rfl (fun _ => rfl) rfl ?_
  refine WO.s0 (v' := .d (A4__List_UInt8_.pd (A4__List_UInt8_.mk a0.fNetwork a0.fStation a0.fLocation a0.fChannel))) rfl rfl (fun _ => rfl) rfl ?_
  refine WO.n1 (v := .undef) (id := 32) (bx := .var [.d (.str ((A4__List_UInt8_.mk a0.fNetwork a0.fStation a0.fLocation a0.fChannel).a0)), .d (.str ((A4__List_UInt8_.mk a0.fNetwork a0.fStation a0.fLocation a0.fChannel).a1)), .d (.str ((A4__List_UInt8_.mk a0.fNetwork a0.fStation a0.fLocation a0.fChannel).a2)), .d (.str ((A4__List_UInt8_.mk a0.fNetwork a0.fStation a0.fLocation a0.fChannel).a3))]) rfl rfl (fun _ => rfl) ?_
  refine WO.nil ?_
  refine WC.ret ?_
  obtain rfl := Option.some.inj h
  exact WC.done rfl rfl rfl
theorem source_fitsN_ev : ∀ (nfu : Nat) {a0 : (List UInt8)} {a1 : (List UInt8)} {r : Bool} (_ : source_fitsN nfu a0 a1 = some r), EvP prog hints ext 47 [.d (.str a0), .d (.str a1)] [] (.d (.bool r), [])
  | 0, _, _,  _, h => by cases h
  | nfu + 1, a0, a1,  r, h => by
    refine Ev.body rfl Tryd.func47 rfl (by kernel_rfl) ?_
    refine WC.regionSeq rfl rfl ?_
    refine WO.s0 (v' := .d (.bool false)) rfl rfl (fun _ => rfl) rfl ?_
    refine WO.nil ?_
    refine WC.seq ?_
    refine WC.block ?_
    refine WC.regionSeq rfl rfl ?_
    refine WO.s0 (v' := .d (.str a0)) rfl rfl (fun _ => rfl) rfl ?_
    refine ite_elim h (fun hb1 h => ?_) (fun hb1 h => ?_)
    · refine WO.s0 (v' := .d (.bool true)) rfl rfl (fun _ => rfl) (congrArg (fun b => RV.d (.bool b)) hb1) ?_
      refine WO.s0 (v' := .d (.bool true)) rfl rfl (fun _ => rfl) rfl ?_
      refine WO.nil ?_
      refine WC.condT rfl ?_
      refine WC.regionSeq rfl rfl ?_
      refine WO.s0 (v' := .d (.str a1)) rfl rfl (fun _ => rfl) rfl ?_
      refine WO.s0 (v' := .d (.bool (a1 == []))) rfl rfl (fun _ => rfl) rfl ?_
      refine WO.s0 (v' := .d (.bool (a1 == []))) rfl rfl (fun _ => rfl) rfl ?_
      refine WO.nil ?_
      refine WC.ret ?_
      obtain rfl := Option.some.inj h
      exact WC.done rfl rfl rfl
    · refine WO.s0 (v' := .d (.bool false)) rfl rfl (fun _ => rfl) (congrArg (fun b => RV.d (.bool b)) hb1) ?_
      refine WO.s0 (v' := .d (.bool false)) rfl rfl (fun _ => rfl) rfl ?_
      refine WO.nil ?_
      refine WC.condF rfl ?_
      refine WC.regionSeq rfl rfl ?_
      refine WO.s0 (v' := .d (.str a0)) rfl rfl (fun _ => rfl) rfl ?_
      refine bind_elim h (fun x2 hx2 h => ?_)
      refine WO.byteG hx2 rfl rfl rfl rfl rfl rfl ?_
      refine ite_elim h (fun hb3 h => ?_) (fun hb3 h => ?_)
      · refine WO.s0 (v' := .d (.bool true)) rfl rfl (fun _ => rfl) (congrArg (fun b => RV.d (.bool b)) hb3) ?_
        refine WO.s0 (v' := .d (.bool true)) rfl rfl (fun _ => rfl) rfl ?_
        refine WO.nil ?_
        refine WC.condT rfl ?_
        refine WC.regionSeq rfl rfl ?_
        refine WO.s0 (v' := .d (.str a0)) rfl rfl (fun _ => rfl) rfl ?_
        refine bind_elim h (fun x4 hx4 h => ?_)
        refine WO.cutG hx4 rfl rfl rfl rfl rfl rfl rfl rfl rfl ?_
        refine WO.s0 (v' := .d (.str a1)) rfl rfl (fun _ => rfl) rfl ?_
        refine bind_elim h (fun x5 hx5 h => ?_)
        refine ite_elim h (fun hb6 h => ?_) (fun hb6 h => ?_)
        · refine WO.callR (v := .d (.bool true)) (u := []) rfl rfl (fun _ => rfl) rfl rfl rfl rfl rfl (source_fitsN_ev nfu hx5) rfl rfl (congrArg (fun b => RV.d (.bool b)) hb6) rfl ?_
          refine WO.s0 (v' := .d (.bool true)) rfl rfl (fun _ => rfl) rfl ?_
          refine WO.skip rfl rfl ?_
          refine WO.skip rfl rfl ?_
          refine WO.skip rfl rfl ?_
          refine WO.skip rfl rfl ?_
          refine WO.skip rfl rfl ?_
          refine WO.skip rfl rfl ?_
          refine WO.skip rfl rfl ?_
          refine WO.skip rfl rfl ?_
          refine WO.s0 (v' := .d (.bool true)) rfl rfl (fun _ => rfl) rfl ?_
          refine WO.s0 (v' := .d (.bool true)) rfl rfl (fun _ => rfl) rfl ?_
          refine WO.nil ?_
          refine WC.ret ?_
          obtain rfl := Option.some.inj h
          exact WC.done rfl rfl rfl
        · refine WO.callR (v := .d (.bool false)) (u := []) rfl rfl (fun _ => rfl) rfl rfl rfl rfl rfl (source_fitsN_ev nfu hx5) rfl rfl (congrArg (fun b => RV.d (.bool b)) hb6) rfl ?_
          refine WO.s0 (v' := .d (.bool false)) rfl rfl (fun _ => rfl) rfl ?_
          refine WO.s0 (v' := .d (.str a1)) rfl rfl (fun _ => rfl) rfl ?_
          refine ite_elim h (fun hb7 h => ?_) (fun hb7 h => ?_)
          · refine WO.s0 (v' := .d (.bool true)) rfl rfl (fun _ => rfl) (congrArg (fun b => RV.d (.bool b)) hb7) ?_
            refine WO.s0 (v' := .d (.bool true)) rfl rfl (fun _ => rfl) rfl ?_
            refine WO.s0 (v' := .d (.str a0)) rfl rfl (fun _ => rfl) rfl ?_
            refine WO.s0 (v' := .d (.str a1)) rfl rfl (fun _ => rfl) rfl ?_
            refine bind_elim h (fun x8 hx8 h => ?_)
            refine WO.cutG hx8 rfl rfl rfl rfl rfl rfl rfl rfl rfl ?_
            refine bind_elim h (fun x9 hx9 h => ?_)
            refine WO.callR (v := .d (.bool x9)) (u := []) rfl rfl (fun _ => rfl) rfl rfl rfl rfl rfl (source_fitsN_ev nfu hx9) rfl rfl rfl rfl ?_
            refine WO.s0 (v' := .d (.bool x9)) rfl rfl (fun _ => rfl) rfl ?_
            refine WO.s0 (v' := .d (.bool x9)) rfl rfl (fun _ => rfl) rfl ?_
            refine WO.s0 (v' := .d (.bool x9)) rfl rfl (fun _ => rfl) rfl ?_
            refine WO.nil ?_
            refine WC.ret ?_
            obtain rfl := Option.some.inj h
            exact WC.done rfl rfl rfl
          · refine WO.s0 (v' := .d (.bool false)) rfl rfl (fun _ => rfl) (congrArg (fun b => RV.d (.bool b)) hb7) ?_
            refine WO.s0 (v' := .d (.bool false)) rfl rfl (fun _ => rfl) rfl ?_
            refine WO.skip rfl rfl ?_
            refine WO.skip rfl rfl ?_
            refine WO.skip rfl rfl ?_
            refine WO.skip rfl rfl ?_
            refine WO.s0 (v' := .d (.bool false)) rfl rfl (fun _ => rfl) rfl ?_
            refine WO.s0 (v' := .d (.bool false)) rfl rfl (fun _ => rfl) rfl ?_
            refine WO.s0 (v' := .d (.bool false)) rfl rfl (fun _ => rfl) rfl ?_
            refine WO.nil ?_
            refine WC.ret ?_
            obtain rfl := Option.some.inj h
            exact WC.done rfl rfl rfl
      · refine WO.s0 (v' := .d (.bool false)) rfl rfl (fun _ => rfl) (congrArg (fun b => RV.d (.bool b)) hb3) ?_
        refine WO.s0 (v' := .d (.bool false)) rfl rfl (fun _ => rfl) rfl ?_
        refine WO.nil ?_
        refine WC.condF rfl ?_
        refine WC.skip ?_
        refine WC.regionDSeq rfl rfl ?_
        refine WO.s0 (v' := .d (.str a1)) rfl rfl (fun _ => rfl) rfl ?_
        refine ite_elim h (fun hb10 h => ?_) (fun hb10 h => ?_)
        · refine WO.s0 (v' := .d (.bool true)) rfl rfl (fun _ => rfl) (congrArg (fun b => RV.d (.bool b)) hb10) ?_
          refine WO.s0 (v' := .d (.bool true)) rfl rfl (fun _ => rfl) rfl ?_
          refine WO.s0 (v' := .d (.str a0)) rfl rfl (fun _ => rfl) rfl ?_
          refine bind_elim h (fun x11 hx11 h => ?_)
          refine WO.byteG hx11 rfl rfl rfl rfl rfl rfl ?_
          refine ite_elim h (fun hb12 h => ?_) (fun hb12 h => ?_)
          · refine WO.s0 (v' := .d (.bool true)) rfl rfl (fun _ => rfl) (congrArg (fun b => RV.d (.bool b)) hb12) ?_
            refine WO.s0 (v' := .d (.bool true)) rfl rfl (fun _ => rfl) rfl ?_
            refine WO.skip rfl rfl ?_
            refine WO.skip rfl rfl ?_
            refine WO.skip rfl rfl ?_
            refine WO.skip rfl rfl ?_
            refine WO.skip rfl rfl ?_
            refine WO.s0 (v' := .d (.bool true)) rfl rfl (fun _ => rfl) rfl ?_
            refine WO.s0 (v' := .d (.bool true)) rfl rfl (fun _ => rfl) rfl ?_
            refine WO.s0 (v' := .d (.bool true)) rfl rfl (fun _ => rfl) rfl ?_
            refine WO.s0 (v' := .d (.str a0)) rfl rfl (fun _ => rfl) rfl ?_
            refine bind_elim h (fun x13 hx13 h => ?_)
            refine WO.cutG hx13 rfl rfl rfl rfl rfl rfl rfl rfl rfl ?_
            refine WO.s0 (v' := .d (.str a1)) rfl rfl (fun _ => rfl) rfl ?_
            refine bind_elim h (fun x14 hx14 h => ?_)
            refine WO.cutG hx14 rfl rfl rfl rfl rfl rfl rfl rfl rfl ?_
            refine bind_elim h (fun x15 hx15 h => ?_)
            refine WO.callR (v := .d (.bool x15)) (u := []) rfl rfl (fun _ => rfl) rfl rfl rfl rfl rfl (source_fitsN_ev nfu hx15) rfl rfl rfl rfl ?_
            refine WO.s0 (v' := .d (.bool x15)) rfl rfl (fun _ => rfl) rfl ?_
            refine WO.s0 (v' := .d (.bool x15)) rfl rfl (fun _ => rfl) rfl ?_
            refine WO.nil ⟨by kernel_rfl, ?_⟩
            refine WC.ret ?_
            obtain rfl := Option.some.inj h
            exact WC.done rfl rfl rfl
          · refine WO.s0 (v' := .d (.bool false)) rfl rfl (fun _ => rfl) (congrArg (fun b => RV.d (.bool b)) hb12) ?_
            refine WO.s0 (v' := .d (.bool false)) rfl rfl (fun _ => rfl) rfl ?_
            refine WO.s0 (v' := .d (.str a0)) rfl rfl (fun _ => rfl) rfl ?_
            refine bind_elim h (fun x16 hx16 h => ?_)
            refine WO.byteG hx16 rfl rfl rfl rfl rfl rfl ?_
            refine WO.s0 (v' := .d (.str a1)) rfl rfl (fun _ => rfl) rfl ?_
            refine bind_elim h (fun x17 hx17 h => ?_)
            refine WO.byteG hx17 rfl rfl rfl rfl rfl rfl ?_
            refine WO.s0 (v' := .d (.bool (x16 == x17))) rfl rfl (fun _ => rfl) rfl ?_
            refine WO.s0 (v' := .d (.bool (x16 == x17))) rfl rfl (fun _ => rfl) rfl ?_
            refine ite_elim h (fun hb18 h => ?_) (fun hb18 h => ?_)
            · refine WO.s0 (v' := .d (.bool true)) rfl rfl (fun _ => rfl) (congrArg (fun b => RV.d (.bool b)) hb18) ?_
              refine WO.s0 (v' := .d (.bool true)) rfl rfl (fun _ => rfl) rfl ?_
              refine WO.s0 (v' := .d (.str a0)) rfl rfl (fun _ => rfl) rfl ?_
              refine bind_elim h (fun x19 hx19 h => ?_)
              refine WO.cutG hx19 rfl rfl rfl rfl rfl rfl rfl rfl rfl ?_
              refine WO.s0 (v' := .d (.str a1)) rfl rfl (fun _ => rfl) rfl ?_
              refine bind_elim h (fun x20 hx20 h => ?_)
              refine WO.cutG hx20 rfl rfl rfl rfl rfl rfl rfl rfl rfl ?_
              refine bind_elim h (fun x21 hx21 h => ?_)
              refine WO.callR (v := .d (.bool x21)) (u := []) rfl rfl (fun _ => rfl) rfl rfl rfl rfl rfl (source_fitsN_ev nfu hx21) rfl rfl rfl rfl ?_
              refine WO.s0 (v' := .d (.bool x21)) rfl rfl (fun _ => rfl) rfl ?_
              refine WO.s0 (v' := .d (.bool x21)) rfl rfl (fun _ => rfl) rfl ?_
              refine WO.nil ⟨by kernel_rfl, ?_⟩
              refine WC.ret ?_
              obtain rfl := Option.some.inj h
              exact WC.done rfl rfl rfl
            · refine WO.s0 (v' := .d (.bool false)) rfl rfl (fun _ => rfl) (congrArg (fun b => RV.d (.bool b)) hb18) ?_
              refine WO.s0 (v' := .d (.bool false)) rfl rfl (fun _ => rfl) rfl ?_
              refine WO.skip rfl rfl ?_
              refine WO.skip rfl rfl ?_
              refine WO.skip rfl rfl ?_
              refine WO.skip rfl rfl ?_
              refine WO.skip rfl rfl ?_
              refine WO.s0 (v' := .d (.bool false)) rfl rfl (fun _ => rfl) rfl ?_
              refine WO.s0 (v' := .d (.bool false)) rfl rfl (fun _ => rfl) rfl ?_
              refine WO.nil ⟨by kernel_rfl, ?_⟩
              refine WC.ret ?_
              obtain rfl := Option.some.inj h
              exact WC.done rfl rfl rfl
        · refine WO.s0 (v' := .d (.bool false)) rfl rfl (fun _ => rfl) (congrArg (fun b => RV.d (.bool b)) hb10) ?_
          refine WO.s0 (v' := .d (.bool false)) rfl rfl (fun _ => rfl) rfl ?_
          refine WO.skip rfl rfl ?_
          refine WO.skip rfl rfl ?_
          refine WO.skip rfl rfl ?_
          refine WO.skip rfl rfl ?_
          refine WO.skip rfl rfl ?_
          refine WO.skip rfl rfl ?_
          refine WO.skip rfl rfl ?_
          refine WO.skip rfl rfl ?_
          refine WO.skip rfl rfl ?_
          refine WO.skip rfl rfl ?_
          refine WO.s0 (v' := .d (.bool false)) rfl rfl (fun _ => rfl) rfl ?_
          refine WO.s0 (v' := .d (.bool false)) rfl rfl (fun _ => rfl) rfl ?_
          refine WO.skip rfl rfl ?_
          refine WO.skip rfl rfl ?_
          refine WO.skip rfl rfl ?_
          refine WO.skip rfl rfl ?_
          refine WO.skip rfl rfl ?_
          refine WO.s0 (v' := .d (.bool false)) rfl rfl (fun _ => rfl) rfl ?_
          refine WO.s0 (v' := .d (.bool false)) rfl rfl (fun _ => rfl) rfl ?_
          refine WO.nil ⟨by kernel_rfl, ?_⟩
          refine WC.ret ?_
          obtain rfl := Option.some.inj h
          exact WC.done rfl rfl rfl
theorem source_fits_ev {a0 : (List UInt8)} {a1 : (List UInt8)} {r : Bool} (h : source_fits a0 a1 = some r) : EvP prog hints ext 47 [.d (.str a0), .d (.str a1)] [] (.d (.bool r), []) :=
  let ⟨n, hn⟩ := recO_some h; source_fitsN_ev n hn
theorem source_match_ev {a0 : (List (List UInt8))} {a1 : T_api_SourceID} {r : Bool} (h : source_match a0 a1 = some r) : EvP prog hints ext 31 [.d (.lst (a0.map PD.str)), .d (T_api_SourceID.pd a1)] [] (.d (.bool r), []) := by
  refine Ev.body rfl Tryd.func31 rfl (by kernel_rfl) ?_
  refine WC.regionSeq rfl rfl ?_
  refine WO.s1 (v := .ptr 48 0) (id := 48) (bx := .var [.d (.str a1.fNetwork), .d (.str a1.fStation), .d (.str a1.fLocation), .d (.str a1.fChannel)]) rfl rfl (fun _ => rfl) ?_
  refine WO.s0 (v' := .d (.bool false)) rfl rfl (fun _ => rfl) rfl ?_
  refine WO.nil ?_
  refine WC.seq ?_
  refine WC.regionSeq rfl rfl ?_
  refine WO.s0 (v' := .d (T_api_SourceID.pd a1)) rfl rfl (fun _ => rfl) rfl ?_
  refine bind_elim h (fun x1 hx1 h => ?_)
  refine WO.callR (v := .d (A4__List_UInt8_.pd x1)) (u := []) rfl rfl (fun _ => rfl) rfl rfl rfl rfl rfl (source_parts_ev hx1) rfl rfl rfl rfl ?_
  refine WO.s0 (v' := .d (.int .i64 0)) rfl rfl (fun _ => rfl) rfl ?_
  refine WO.nil ?_
  refine WC.block (WC.loop ?_)
  refine WL.round ?_
  refine WC.regionSeq rfl rfl ?_
  refine WO.s0 (v' := .d (.bool true)) rfl rfl (fun _ => rfl) rfl ?_
  refine WO.nil ?_
  refine WC.seq ?_
  refine WC.condT rfl ?_
  refine WC.skip ?_
  refine WC.seq ?_
  refine WC.block ?_
  refine WC.regionSeq rfl rfl ?_
  refine WO.s0 (v' := .d (.int .i64 0)) rfl rfl (fun _ => rfl) rfl ?_
  refine WO.s0 (v' := .d (.str x1.a0)) rfl rfl (fun _ => rfl) rfl ?_
  refine WO.s0 (v' := .d (.int .i64 0)) rfl rfl (fun _ => rfl) rfl ?_
  refine WO.s0 (v' := .d (.str x1.a0)) rfl rfl (fun _ => rfl) rfl ?_
  refine WO.nil ?_
  refine WC.regionSeq rfl rfl ?_
  refine WO.s0 (v' := .d (.lst (a0.map PD.str))) rfl rfl (fun _ => rfl) rfl ?_
  refine WO.s0 (v' := .d (.int .i64 0)) rfl rfl (fun _ => rfl) rfl ?_
  refine bind_elim h (fun x2 hx2 h => ?_)
  refine WO.elemG hx2 rfl rfl rfl rfl rfl rfl rfl rfl rfl ?_
  refine WO.s0 (v' := .d (.str x2)) rfl rfl (fun _ => rfl) rfl ?_
  refine WO.s0 (v' := .d (.str x1.a0)) rfl rfl (fun _ => rfl) rfl ?_
  refine bind_elim h (fun x3 hx3 h => ?_)
  refine WO.callR (v := .d (.bool x3)) (u := []) rfl rfl (fun _ => rfl) rfl rfl rfl rfl rfl (source_fits_ev hx3) rfl rfl rfl rfl ?_
  refine ite_elim h (fun hb4 h => ?_) (fun hb4 h => ?_)
  · refine WO.s0 (v' := .d (.bool true)) rfl rfl (fun _ => rfl) (congrArg (fun b => RV.d (.bool b)) hb4) ?_
    refine WO.nil ?_
    refine WC.condT rfl ?_
    refine WC.regionSeq rfl rfl ?_
    refine WO.s0 (v' := .d (.bool false)) rfl rfl (fun _ => rfl) rfl ?_
    refine WO.nil ?_
    refine WC.ret ?_
    obtain rfl := Option.some.inj h
    exact WC.done rfl rfl rfl
  · refine WO.s0 (v' := .d (.bool false)) rfl rfl (fun _ => rfl) (congrArg (fun b => RV.d (.bool b)) hb4) ?_
    refine WO.nil ?_
    refine WC.condF rfl ?_
    refine WC.skip ?_
    refine WC.region rfl rfl ?_
    refine WO.s0 (v' := .d (.int .i64 1)) rfl rfl (fun _ => rfl) rfl ?_
    refine WO.s0 (v' := .d (.int .i64 1)) rfl rfl (fun _ => rfl) rfl ?_
    refine WO.nil ?_
    refine WL.round ?_
    refine WC.regionSeq rfl rfl ?_
    refine WO.s0 (v' := .d (.bool true)) rfl rfl (fun _ => rfl) rfl ?_
    refine WO.nil ?_
    refine WC.seq ?_
    refine WC.condT rfl ?_
    refine WC.skip ?_
    refine WC.seq ?_
    refine WC.block ?_
    refine WC.regionSeq rfl rfl ?_
    refine WO.s0 (v' := .d (.int .i64 1)) rfl rfl (fun _ => rfl) rfl ?_
    refine WO.s0 (v' := .d (.str x1.a1)) rfl rfl (fun _ => rfl) rfl ?_
    refine WO.s0 (v' := .d (.int .i64 1)) rfl rfl (fun _ => rfl) rfl ?_
    refine WO.s0 (v' := .d (.str x1.a1)) rfl rfl (fun _ => rfl) rfl ?_
    refine WO.nil ?_
    refine WC.regionSeq rfl rfl ?_
    refine WO.s0 (v' := .d (.lst (a0.map PD.str))) rfl rfl (fun _ => rfl) rfl ?_
    refine WO.s0 (v' := .d (.int .i64 1)) rfl rfl (fun _ => rfl) rfl ?_
    refine bind_elim h (fun x5 hx5 h => ?_)
    refine WO.elemG hx5 rfl rfl rfl rfl rfl rfl rfl rfl rfl ?_
    refine WO.s0 (v' := .d (.str x5)) rfl rfl (fun _ => rfl) rfl ?_
    refine WO.s0 (v' := .d (.str x1.a1)) rfl rfl (fun _ => rfl) rfl ?_
    refine bind_elim h (fun x6 hx6 h => ?_)
    refine WO.callR (v := .d (.bool x6)) (u := []) rfl rfl (fun _ => rfl) rfl rfl rfl rfl rfl (source_fits_ev hx6) rfl rfl rfl rfl ?_
    refine ite_elim h (fun hb7 h => ?_) (fun hb7 h => ?_)
    · refine WO.s0 (v' := .d (.bool true)) rfl rfl (fun _ => rfl) (congrArg (fun b => RV.d (.bool b)) hb7) ?_
      refine WO.nil ?_
      refine WC.condT rfl ?_
      refine WC.regionSeq rfl rfl ?_
      refine WO.s0 (v' := .d (.bool false)) rfl rfl (fun _ => rfl) rfl ?_
      refine WO.nil ?_
      refine WC.ret ?_
      obtain rfl := Option.some.inj h
      exact WC.done rfl rfl rfl
    · refine WO.s0 (v' := .d (.bool false)) rfl rfl (fun _ => rfl) (congrArg (fun b => RV.d (.bool b)) hb7) ?_
      refine WO.nil ?_
      refine WC.condF rfl ?_
      refine WC.skip ?_
      refine WC.region rfl rfl ?_
      refine WO.s0 (v' := .d (.int .i64 2)) rfl rfl (fun _ => rfl) rfl ?_
      refine WO.s0 (v' := .d (.int .i64 2)) rfl rfl (fun _ => rfl) rfl ?_
      refine WO.nil ?_
      refine WL.round ?_
      refine WC.regionSeq rfl rfl ?_
      refine WO.s0 (v' := .d (.bool true)) rfl rfl (fun _ => rfl) rfl ?_
      refine WO.nil ?_
      refine WC.seq ?_
      refine WC.condT rfl ?_
      refine WC.skip ?_
      refine WC.seq ?_
      refine WC.block ?_
      refine WC.regionSeq rfl rfl ?_
      refine WO.s0 (v' := .d (.int .i64 2)) rfl rfl (fun _ => rfl) rfl ?_
      refine WO.s0 (v' := .d (.str x1.a2)) rfl rfl (fun _ => rfl) rfl ?_
      refine WO.s0 (v' := .d (.int .i64 2)) rfl rfl (fun _ => rfl) rfl ?_
      refine WO.s0 (v' := .d (.str x1.a2)) rfl rfl (fun _ => rfl) rfl ?_
      refine WO.nil ?_
      refine WC.regionSeq rfl rfl ?_
      refine WO.s0 (v' := .d (.lst (a0.map PD.str))) rfl rfl (fun _ => rfl) rfl ?_
      refine WO.s0 (v' := .d (.int .i64 2)) rfl rfl (fun _ => rfl) rfl ?_
      refine bind_elim h (fun x8 hx8 h => ?_)
      refine WO.elemG hx8 rfl rfl rfl rfl rfl rfl rfl rfl rfl ?_
      refine WO.s0 (v' := .d (.str x8)) rfl rfl (fun _ => rfl) rfl ?_
      refine WO.s0 (v' := .d (.str x1.a2)) rfl rfl (fun _ => rfl) rfl ?_
      refine bind_elim h (fun x9 hx9 h => ?_)
      refine WO.callR (v := .d (.bool x9)) (u := []) rfl rfl (fun _ => rfl) rfl rfl rfl rfl rfl (source_fits_ev hx9) rfl rfl rfl rfl ?_
      refine ite_elim h (fun hb10 h => ?_) (fun hb10 h => ?_)
      · refine WO.s0 (v' := .d (.bool true)) rfl rfl (fun _ => rfl) (congrArg (fun b => RV.d (.bool b)) hb10) ?_
        refine WO.nil ?_
        refine WC.condT rfl ?_
        refine WC.regionSeq rfl rfl ?_
        refine WO.s0 (v' := .d (.bool false)) rfl rfl (fun _ => rfl) rfl ?_
        refine WO.nil ?_
        refine WC.ret ?_
        obtain rfl := Option.some.inj h
        exact WC.done rfl rfl rfl
      · refine WO.s0 (v' := .d (.bool false)) rfl rfl (fun _ => rfl) (congrArg (fun b => RV.d (.bool b)) hb10) ?_
        refine WO.nil ?_
        refine WC.condF rfl ?_
        refine WC.skip ?_
        refine WC.region rfl rfl ?_
        refine WO.s0 (v' := .d (.int .i64 3)) rfl rfl (fun _ => rfl) rfl ?_
        refine WO.s0 (v' := .d (.int .i64 3)) rfl rfl (fun _ => rfl) rfl ?_
        refine WO.nil ?_
        refine WL.round ?_
        refine WC.regionSeq rfl rfl ?_
        refine WO.s0 (v' := .d (.bool true)) rfl rfl (fun _ => rfl) rfl ?_
        refine WO.nil ?_
        refine WC.seq ?_
        refine WC.condT rfl ?_
        refine WC.skip ?_
        refine WC.seq ?_
        refine WC.block ?_
        refine WC.regionSeq rfl rfl ?_
        refine WO.s0 (v' := .d (.int .i64 3)) rfl rfl (fun _ => rfl) rfl ?_
        refine WO.s0 (v' := .d (.str x1.a3)) rfl rfl (fun _ => rfl) rfl ?_
        refine WO.s0 (v' := .d (.int .i64 3)) rfl rfl (fun _ => rfl) rfl ?_
        refine WO.s0 (v' := .d (.str x1.a3)) rfl rfl (fun _ => rfl) rfl ?_
        refine WO.nil ?_
        refine WC.regionSeq rfl rfl ?_
        refine WO.s0 (v' := .d (.lst (a0.map PD.str))) rfl rfl (fun _ => rfl) rfl ?_
        refine WO.s0 (v' := .d (.int .i64 3)) rfl rfl (fun _ => rfl) rfl ?_
        refine bind_elim h (fun x11 hx11 h => ?_)
        refine WO.elemG hx11 rfl rfl rfl rfl rfl rfl rfl rfl rfl ?_
        refine WO.s0 (v' := .d (.str x11)) rfl rfl (fun _ => rfl) rfl ?_
        refine WO.s0 (v' := .d (.str x1.a3)) rfl rfl (fun _ => rfl) rfl ?_
        refine bind_elim h (fun x12 hx12 h => ?_)
        refine WO.callR (v := .d (.bool x12)) (u := []) rfl rfl (fun _ => rfl) rfl rfl rfl rfl rfl (source_fits_ev hx12) rfl rfl rfl rfl ?_
        refine ite_elim h (fun hb13 h => ?_) (fun hb13 h => ?_)
        · refine WO.s0 (v' := .d (.bool true)) rfl rfl (fun _ => rfl) (congrArg (fun b => RV.d (.bool b)) hb13) ?_
          refine WO.nil ?_
          refine WC.condT rfl ?_
          refine WC.regionSeq rfl rfl ?_
          refine WO.s0 (v' := .d (.bool false)) rfl rfl (fun _ => rfl) rfl ?_
          refine WO.nil ?_
          refine WC.ret ?_
          obtain rfl := Option.some.inj h
          exact WC.done rfl rfl rfl
        · refine WO.s0 (v' := .d (.bool false)) rfl rfl (fun _ => rfl) (congrArg (fun b => RV.d (.bool b)) hb13) ?_
          refine WO.nil ?_
          refine WC.condF rfl ?_
          refine WC.skip ?_
          refine WC.region rfl rfl ?_
          refine WO.s0 (v' := .d (.int .i64 4)) rfl rfl (fun _ => rfl) rfl ?_
          refine WO.s0 (v' := .d (.int .i64 4)) rfl rfl (fun _ => rfl) rfl ?_
          refine WO.nil ?_
          refine WL.round ?_
          refine WC.regionSeq rfl rfl ?_
          refine WO.s0 (v' := .d (.bool false)) rfl rfl (fun _ => rfl) rfl ?_
          refine WO.nil ?_
          refine WC.seq ?_
          refine WC.condF rfl ?_
          refine WC.exit ?_
          refine ⟨fun _ => ?_, fun hne => (hne rfl).elim⟩
          refine WC.regionSeq rfl rfl ?_
          refine WO.s0 (v' := .d (.bool true)) rfl rfl (fun _ => rfl) rfl ?_
          refine WO.nil ?_
          refine WC.ret ?_
          obtain rfl := Option.some.inj h
          exact WC.done rfl rfl rfl
theorem source_Match_ev {a0 : (List UInt8)} {a1 : T_api_SourceID} {r : Bool × Int} (h : source_Match a0 a1 = some r) : EvP prog hints ext 12 [.d (.str a0), .d (T_api_SourceID.pd a1)] [] (.tup [.d (.bool r.1), .d (.int .i64 r.2)], []) := by
  refine Ev.body rfl Tryd.func12 rfl (by kernel_rfl) ?_
  refine WC.regionSeq rfl rfl ?_
  refine WO.s1 (v := .ptr 48 0) (id := 48) (bx := .var [.d (.str a1.fNetwork), .d (.str a1.fStation), .d (.str a1.fLocation), .d (.str a1.fChannel)]) rfl rfl (fun _ => rfl) ?_
  refine WO.s0 (v' := .d (.bool false)) rfl rfl (fun _ => rfl) rfl ?_
  refine WO.s0 (v' := .d (.int .i64 0)) rfl rfl (fun _ => rfl) rfl ?_
  refine WO.nil ?_
  refine WC.regionSeq rfl rfl ?_
  refine WO.s0 (v' := .d (.str a0)) rfl rfl (fun _ => rfl) rfl ?_
  refine bind_elim h (fun x1 hx1 h => ?_)
  refine WO.callR (v := .tup [.d (.lst (x1.1.map PD.str)), .d (.bool x1.2)]) (u := []) rfl rfl (fun _ => rfl) rfl rfl rfl rfl rfl (source_pattern_ev hx1) rfl rfl rfl rfl ?_
  refine WO.s0 (v' := .tup [.d (.lst (x1.1.map PD.str)), .d (.bool x1.2)]) rfl rfl (fun _ => rfl) rfl ?_
  refine WO.s0 (v' := .d (.lst (x1.1.map PD.str))) rfl rfl (fun _ => rfl) rfl ?_
  refine WO.s0 (v' := .d (.bool x1.2)) rfl rfl (fun _ => rfl) rfl ?_
  refine WO.s0 (v' := .d (.lst (x1.1.map PD.str))) rfl rfl (fun _ => rfl) rfl ?_
  refine WO.s0 (v' := .d (.bool x1.2)) rfl rfl (fun _ => rfl) rfl ?_
  refine WO.nil ?_
  refine WC.seq ?_
  refine WC.regionSeq rfl rfl ?_
  refine WO.s0 (v' := .d (.bool x1.2)) rfl rfl (fun _ => rfl) rfl ?_
  refine ite_elim h (fun hb2 h => ?_) (fun hb2 h => ?_)
  · refine WO.s0 (v' := .d (.bool true)) rfl rfl (fun _ => rfl) (congrArg (fun b => RV.d (.bool b)) hb2) ?_
    refine WO.nil ?_
    refine WC.condT rfl ?_
    refine WC.regionSeq rfl rfl ?_
    refine WO.s0 (v' := .d (.bool false)) rfl rfl (fun _ => rfl) rfl ?_
    refine WO.s0 (v' := .d (.int .i64 3)) rfl rfl (fun _ => rfl) rfl ?_
    refine WO.nil ?_
    refine WC.ret ?_
    obtain rfl := Option.some.inj h
    exact WC.done rfl rfl rfl
  · refine WO.s0 (v' := .d (.bool false)) rfl rfl (fun _ => rfl) (congrArg (fun b => RV.d (.bool b)) hb2) ?_
    refine WO.nil ?_
    refine WC.condF rfl ?_
    refine WC.skip ?_
    refine WC.seq ?_
    refine WC.regionSeq rfl rfl ?_
    refine WO.s0 (v' := .d (T_api_SourceID.pd a1)) rfl rfl (fun _ => rfl) rfl ?_
    refine bind_elim h (fun x3 hx3 h => ?_)
    refine WO.callR (v := .d (.bool x3)) (u := []) rfl rfl (fun _ => rfl) rfl rfl rfl rfl rfl (source_Valid_ev hx3) rfl rfl rfl rfl ?_
    refine ite_elim h (fun hb4 h => ?_) (fun hb4 h => ?_)
    · refine WO.s0 (v' := .d (.bool true)) rfl rfl (fun _ => rfl) (congrArg (fun b => RV.d (.bool b)) hb4) ?_
      refine WO.nil ?_
      refine WC.condT rfl ?_
      refine WC.regionSeq rfl rfl ?_
      refine WO.s0 (v' := .d (.bool false)) rfl rfl (fun _ => rfl) rfl ?_
      refine WO.s0 (v' := .d (.int .i64 1)) rfl rfl (fun _ => rfl) rfl ?_
      refine WO.nil ?_
      refine WC.ret ?_
      obtain rfl := Option.some.inj h
      exact WC.done rfl rfl rfl
    · refine WO.s0 (v' := .d (.bool false)) rfl rfl (fun _ => rfl) (congrArg (fun b => RV.d (.bool b)) hb4) ?_
      refine WO.nil ?_
      refine WC.condF rfl ?_
      refine WC.skip ?_
      refine WC.regionSeq rfl rfl ?_
      refine WO.s0 (v' := .d (.lst (x1.1.map PD.str))) rfl rfl (fun _ => rfl) rfl ?_
      refine WO.s0 (v' := .d (T_api_SourceID.pd a1)) rfl rfl (fun _ => rfl) rfl ?_
      refine bind_elim h (fun x5 hx5 h => ?_)
      refine WO.callR (v := .d (.bool x5)) (u := []) rfl rfl (fun _ => rfl) rfl rfl rfl rfl rfl (source_match_ev hx5) rfl rfl rfl rfl ?_
      refine WO.s0 (v' := .d (.bool x5)) rfl rfl (fun _ => rfl) rfl ?_
      refine WO.s0 (v' := .d (.int .i64 0)) rfl rfl (fun _ => rfl) rfl ?_
      refine WO.nil ?_
      refine WC.ret ?_
      obtain rfl := Option.some.inj h
      exact WC.done rfl rfl rfl
theorem law03_sane_ev  {r : Bool} (h : law03_sane = some r) : EvP prog hints ext 8 [] [] (.d (.bool r), []) := by
  refine Ev.body rfl Tryd.func8 rfl (by kernel_rfl) ?_
  refine WC.regionSeq rfl rfl ?_
  refine WO.s0 (v' := .d (.bool false)) rfl rfl (fun _ => rfl) rfl ?_
  refine WO.nil ?_
  refine WC.regionSeq rfl rfl ?_
  refine bind_elim h (fun x1 hx1 h => ?_)
  refine WO.callR (v := .tup [.d (T_api_SourceID.pd x1.1), .d (.int .i64 x1.2)]) (u := []) rfl rfl (fun _ => rfl) rfl rfl rfl rfl rfl (source_Parse_ev hx1) rfl rfl rfl rfl ?_
  refine WO.s0 (v' := .tup [.d (T_api_SourceID.pd x1.1), .d (.int .i64 x1.2)]) rfl rfl (fun _ => rfl) rfl ?_
  refine WO.s0 (v' := .d (T_api_SourceID.pd x1.1)) rfl rfl (fun _ => rfl) rfl ?_
  refine WO.s0 (v' := .d (.int .i64 x1.2)) rfl rfl (fun _ => rfl) rfl ?_
  refine WO.s1 (v := .ptr 16 0) (id := 16) (bx := .var [.d (.str []), .d (.str []), .d (.str []), .d (.str [])]) rfl rfl (fun _ => rfl) ?_
  refine WO.n1 (v := .undef) (id := 16) (bx := .var [.d (.str x1.1.fNetwork), .d (.str x1.1.fStation), .d (.str x1.1.fLocation), .d (.str x1.1.fChannel)]) rfl rfl (fun _ => rfl) ?_
  refine WO.s0 (v' := .d (.int .i64 x1.2)) rfl rfl (fun _ => rfl) rfl ?_
  refine WO.nil ?_
  refine WC.regionSeq rfl rfl ?_
  refine WO.s0 (v' := .d (T_api_SourceID.pd x1.1)) rfl rfl (fun _ => rfl) rfl ?_
  refine bind_elim h (fun x2 hx2 h => ?_)
  refine WO.callR (v := .tup [.d (.bool x2.1), .d (.int .i64 x2.2)]) (u := []) rfl rfl (fun _ => rfl) rfl rfl rfl rfl rfl (source_Match_ev hx2) rfl rfl rfl rfl ?_
  refine WO.s0 (v' := .tup [.d (.bool x2.1), .d (.int .i64 x2.2)]) rfl rfl (fun _ => rfl) rfl ?_
  refine WO.s0 (v' := .d (.bool x2.1)) rfl rfl (fun _ => rfl) rfl ?_
  refine WO.s0 (v' := .d (.int .i64 x2.2)) rfl rfl (fun _ => rfl) rfl ?_
  refine WO.s0 (v' := .d (.bool x2.1)) rfl rfl (fun _ => rfl) rfl ?_
  refine WO.s0 (v' := .d (.int .i64 x2.2)) rfl rfl (fun _ => rfl) rfl ?_
  refine WO.nil ?_
  refine WC.regionSeq rfl rfl ?_
  refine WO.s0 (v' := .d (T_api_SourceID.pd x1.1)) rfl rfl (fun _ => rfl) rfl ?_
  refine bind_elim h (fun x3 hx3 h => ?_)
  refine WO.callR (v := .tup [.d (.bool x3.1), .d (.int .i64 x3.2)]) (u := []) rfl rfl (fun _ => rfl) rfl rfl rfl rfl rfl (source_Match_ev hx3) rfl rfl rfl rfl ?_
  refine WO.s0 (v' := .tup [.d (.bool x3.1), .d (.int .i64 x3.2)]) rfl rfl (fun _ => rfl) rfl ?_
  refine WO.s0 (v' := .d (.bool x3.1)) rfl rfl (fun _ => rfl) rfl ?_
  refine WO.s0 (v' := .d (.int .i64 x3.2)) rfl rfl (fun _ => rfl) rfl ?_
  refine WO.s0 (v' := .d (.bool x3.1)) rfl rfl (fun _ => rfl) rfl ?_
  refine WO.s0 (v' := .d (.int .i64 x3.2)) rfl rfl (fun _ => rfl) rfl ?_
  refine WO.nil ?_
  refine WC.regionSeq rfl rfl ?_
  refine WO.s0 (v' := .d (.int .i64 x1.2)) rfl rfl (fun _ => rfl) rfl ?_
  refine ite_elim h (fun hb4 h => ?_) (fun hb4 h => ?_)
  · refine WO.s0 (v' := .d (.bool true)) rfl rfl (fun _ => rfl) (congrArg (fun b => RV.d (.bool b)) hb4) ?_
    refine WO.s0 (v' := .d (.bool true)) rfl rfl (fun _ => rfl) rfl ?_
    refine WO.s0 (v' := .d (T_api_SourceID.pd x1.1)) rfl rfl (fun _ => rfl) rfl ?_
    refine WO.s0 (v' := .d (T_api_SourceID.pd (T_api_SourceID.mk [71, 82] [70, 85, 82] [] [72, 72, 90]))) rfl rfl (fun _ => rfl) rfl ?_
    refine WO.bin (eqE_28 x1.1 (T_api_SourceID.mk [71, 82] [70, 85, 82] [] [72, 72, 90])) rfl rfl rfl rfl rfl ?_
    refine ite_elim h (fun hb5 h => ?_) (fun hb5 h => ?_)
    · refine WO.s0 (v' := .d (.bool true)) rfl rfl (fun _ => rfl) (congrArg (fun b => RV.d (.bool b)) hb5) ?_
      refine WO.s0 (v' := .d (.bool true)) rfl rfl (fun _ => rfl) rfl ?_
      refine WO.s0 (v' := .d (.int .i64 x2.2)) rfl rfl (fun _ => rfl) rfl ?_
      refine WO.s0 (v' := .d (.bool (x2.2 == (0 : Int)))) rfl rfl (fun _ => rfl) rfl ?_
      refine ite_elim h (fun hb6 h => ?_) (fun hb6 h => ?_)
      · refine WO.s0 (v' := .d (.bool true)) rfl rfl (fun _ => rfl) (congrArg (fun b => RV.d (.bool b)) hb6) ?_
        refine WO.s0 (v' := .d (.bool true)) rfl rfl (fun _ => rfl) rfl ?_
        refine WO.s0 (v' := .d (.int .i64 x3.2)) rfl rfl (fun _ => rfl) rfl ?_
        refine WO.s0 (v' := .d (.bool (x3.2 == (0 : Int)))) rfl rfl (fun _ => rfl) rfl ?_
        refine ite_elim h (fun hb7 h => ?_) (fun hb7 h => ?_)
        · refine WO.s0 (v' := .d (.bool true)) rfl rfl (fun _ => rfl) (congrArg (fun b => RV.d (.bool b)) hb7) ?_
          refine WO.s0 (v' := .d (.bool true)) rfl rfl (fun _ => rfl) rfl ?_
          refine WO.s0 (v' := .d (.bool x2.1)) rfl rfl (fun _ => rfl) rfl ?_
          refine ite_elim h (fun hb8 h => ?_) (fun hb8 h => ?_)
          · refine WO.s0 (v' := .d (.bool true)) rfl rfl (fun _ => rfl) (congrArg (fun b => RV.d (.bool b)) hb8) ?_
            refine WO.s0 (v' := .d (.bool true)) rfl rfl (fun _ => rfl) rfl ?_
            refine WO.s0 (v' := .d (.bool x3.1)) rfl rfl (fun _ => rfl) rfl ?_
            refine WO.s0 (v' := .d (.bool (!x3.1))) rfl rfl (fun _ => rfl) rfl ?_
            refine WO.s0 (v' := .d (.bool (!x3.1))) rfl rfl (fun _ => rfl) rfl ?_
            refine WO.s0 (v' := .d (.bool (!x3.1))) rfl rfl (fun _ => rfl) rfl ?_
            refine WO.nil ?_
            refine WC.ret ?_
            obtain rfl := Option.some.inj h
            exact WC.done rfl rfl rfl
          · refine WO.s0 (v' := .d (.bool false)) rfl rfl (fun _ => rfl) (congrArg (fun b => RV.d (.bool b)) hb8) ?_
            refine WO.s0 (v' := .d (.bool false)) rfl rfl (fun _ => rfl) rfl ?_
            refine WO.skip rfl rfl ?_
            refine WO.skip rfl rfl ?_
            refine WO.s0 (v' := .d (.bool false)) rfl rfl (fun _ => rfl) rfl ?_
            refine WO.s0 (v' := .d (.bool false)) rfl rfl (fun _ => rfl) rfl ?_
            refine WO.nil ?_
            refine WC.ret ?_
            obtain rfl := Option.some.inj h
            exact WC.done rfl rfl rfl
        · refine WO.s0 (v' := .d (.bool false)) rfl rfl (fun _ => rfl) (congrArg (fun b => RV.d (.bool b)) hb7) ?_
          refine WO.s0 (v' := .d (.bool false)) rfl rfl (fun _ => rfl) rfl ?_
          refine WO.skip rfl rfl ?_
          refine WO.s0 (v' := .d (.bool false)) rfl rfl (fun _ => rfl) rfl ?_
          refine WO.s0 (v' := .d (.bool false)) rfl rfl (fun _ => rfl) rfl ?_
          refine WO.skip rfl rfl ?_
          refine WO.skip rfl rfl ?_
          refine WO.s0 (v' := .d (.bool false)) rfl rfl (fun _ => rfl) rfl ?_
          refine WO.s0 (v' := .d (.bool false)) rfl rfl (fun _ => rfl) rfl ?_
          refine WO.nil ?_
          refine WC.ret ?_
          obtain rfl := Option.some.inj h
          exact WC.done rfl rfl rfl
      · refine WO.s0 (v' := .d (.bool false)) rfl rfl (fun _ => rfl) (congrArg (fun b => RV.d (.bool b)) hb6) ?_
        refine WO.s0 (v' := .d (.bool false)) rfl rfl (fun _ => rfl) rfl ?_
        refine WO.skip rfl rfl ?_
        refine WO.skip rfl rfl ?_
        refine WO.s0 (v' := .d (.bool false)) rfl rfl (fun _ => rfl) rfl ?_
        refine WO.s0 (v' := .d (.bool false)) rfl rfl (fun _ => rfl) rfl ?_
        refine WO.skip rfl rfl ?_
        refine WO.s0 (v' := .d (.bool false)) rfl rfl (fun _ => rfl) rfl ?_
        refine WO.s0 (v' := .d (.bool false)) rfl rfl (fun _ => rfl) rfl ?_
        refine WO.skip rfl rfl ?_
        refine WO.skip rfl rfl ?_
        refine WO.s0 (v' := .d (.bool false)) rfl rfl (fun _ => rfl) rfl ?_
        refine WO.s0 (v' := .d (.bool false)) rfl rfl (fun _ => rfl) rfl ?_
        refine WO.nil ?_
        refine WC.ret ?_
        obtain rfl := Option.some.inj h
        exact WC.done rfl rfl rfl
    · refine WO.s0 (v' := .d (.bool false)) rfl rfl (fun _ => rfl) (congrArg (fun b => RV.d (.bool b)) hb5) ?_
      refine WO.s0 (v' := .d (.bool false)) rfl rfl (fun _ => rfl) rfl ?_
      refine WO.skip rfl rfl ?_
      refine WO.skip rfl rfl ?_
      refine WO.s0 (v' := .d (.bool false)) rfl rfl (fun _ => rfl) rfl ?_
      refine WO.s0 (v' := .d (.bool false)) rfl rfl (fun _ => rfl) rfl ?_
      refine WO.skip rfl rfl ?_
      refine WO.skip rfl rfl ?_
      refine WO.s0 (v' := .d (.bool false)) rfl rfl (fun _ => rfl) rfl ?_
      refine WO.s0 (v' := .d (.bool false)) rfl rfl (fun _ => rfl) rfl ?_
      refine WO.skip rfl rfl ?_
      refine WO.s0 (v' := .d (.bool false)) rfl rfl (fun _ => rfl) rfl ?_
      refine WO.s0 (v' := .d (.bool false)) rfl rfl (fun _ => rfl) rfl ?_
      refine WO.skip rfl rfl ?_
      refine WO.skip rfl rfl ?_
      refine WO.s0 (v' := .d (.bool false)) rfl rfl (fun _ => rfl) rfl ?_
      refine WO.s0 (v' := .d (.bool false)) rfl rfl (fun _ => rfl) rfl ?_
      refine WO.nil ?_
      refine WC.ret ?_
      obtain rfl := Option.some.inj h
      exact WC.done rfl rfl rfl
  · refine WO.s0 (v' := .d (.bool false)) rfl rfl (fun _ => rfl) (congrArg (fun b => RV.d (.bool b)) hb4) ?_
    refine WO.s0 (v' := .d (.bool false)) rfl rfl (fun _ => rfl) rfl ?_
    refine WO.skip rfl rfl ?_
    refine WO.skip rfl rfl ?_
    refine WO.skip rfl rfl ?_
    refine WO.s0 (v' := .d (.bool false)) rfl rfl (fun _ => rfl) rfl ?_
    refine WO.s0 (v' := .d (.bool false)) rfl rfl (fun _ => rfl) rfl ?_
    refine WO.skip rfl rfl ?_
    refine WO.skip rfl rfl ?_
    refine WO.s0 (v' := .d (.bool false)) rfl rfl (fun _ => rfl) rfl ?_
    refine WO.s0 (v' := .d (.bool false)) rfl rfl (fun _ => rfl) rfl ?_
    refine WO.skip rfl rfl ?_
    refine WO.skip rfl rfl ?_
    refine WO.s0 (v' := .d (.bool false)) rfl rfl (fun _ => rfl) rfl ?_
    refine WO.s0 (v' := .d (.bool false)) rfl rfl (fun _ => rfl) rfl ?_
    refine WO.skip rfl rfl ?_
    refine WO.s0 (v' := .d (.bool false)) rfl rfl (fun _ => rfl) rfl ?_
    refine WO.s0 (v' := .d (.bool false)) rfl rfl (fun _ => rfl) rfl ?_
    refine WO.skip rfl rfl ?_
    refine WO.skip rfl rfl ?_
    refine WO.s0 (v' := .d (.bool false)) rfl rfl (fun _ => rfl) rfl ?_
    refine WO.s0 (v' := .d (.bool false)) rfl rfl (fun _ => rfl) rfl ?_
    refine WO.nil ?_
    refine WC.ret ?_
    obtain rfl := Option.some.inj h
    exact WC.done rfl rfl rfl
theorem made_Roll_ev {a0 : (List Int)} {r : T_seismonetmade_Dice} (h : made_Roll a0 = some r) : EvP prog hints ext 9 [.d (.lst (a0.map (PD.int .i64)))] [] (.ptr 0 0, [.var [.d (.lst (r.fL.map (PD.int .i64))), .d (.int .i64 r.fAt)]]) := by
  refine Ev.body rfl Tryd.func9 rfl (by kernel_rfl) ?_
  refine WC.regionSeq rfl rfl ?_
  refine WO.s0 (v' := .d (.raw (.pointer none))) rfl rfl (fun _ => rfl) rfl ?_
  refine WO.nil ?_
  refine WC.regionSeq rfl rfl ?_
  refine WO.s0 (v' := .d (.lst (a0.map (PD.int .i64)))) rfl rfl (fun _ => rfl) rfl ?_
  refine WO.s0 (v' := .d (T_seismonetmade_Dice.pd (T_seismonetmade_Dice.mk a0 0))) rfl rfl (fun _ => rfl) rfl ?_
  refine WO.s1 (v := .ptr 80 0) (id := 80) (bx := .var [.d (.lst (((T_seismonetmade_Dice.mk a0 0).fL).map (PD.int .i64))), .d (.int .i64 ((T_seismonetmade_Dice.mk a0 0).fAt))]) rfl rfl (fun _ => rfl) ?_
  refine WO.s0 (v' := .ptr 80 0) rfl rfl (fun _ => rfl) rfl ?_
  refine WO.nil ?_
  refine WC.ret ?_
  obtain rfl := Option.some.inj h
  exact WC.done rfl rfl rfl
theorem Dice_Next_ev {a1 : Int} {d0 : T_seismonetmade_Dice} {r : Int × T_seismonetmade_Dice} (h : Dice_Next a1 d0 = some r) : EvP prog hints ext 11 [.ptr 0 0, .d (.int .i64 a1)] [.var [.d (.lst (d0.fL.map (PD.int .i64))), .d (.int .i64 d0.fAt)]] (.d (.int .i64 r.1), [.var [.d (.lst (r.2.fL.map (PD.int .i64))), .d (.int .i64 r.2.fAt)]]) := by
  refine Ev.body rfl Tryd.func11 rfl (by kernel_rfl) ?_
  refine WC.regionSeq rfl rfl ?_
  refine WO.s0 (v' := .d (.int .i64 0)) rfl rfl (fun _ => rfl) rfl ?_
  refine WO.nil ?_
  refine WC.seq ?_
  refine WC.regionDSeq rfl rfl ?_
  refine WO.s0 (v' := .ptr 0 0) rfl rfl (fun _ => rfl) rfl ?_
  refine WO.s0 (v' := .ptr 0 0) rfl rfl (fun _ => rfl) rfl ?_
  refine WO.s0 (v' := .ptr 0 1) rfl rfl (fun _ => rfl) rfl ?_
  refine WO.s0 (v' := .d (.int .i64 d0.fAt)) rfl rfl (fun _ => rfl) rfl ?_
  refine WO.s0 (v' := .ptr 0 0) rfl rfl (fun _ => rfl) rfl ?_
  refine WO.s0 (v' := .ptr 0 0) rfl rfl (fun _ => rfl) rfl ?_
  refine WO.s0 (v' := .ptr 0 0) rfl rfl (fun _ => rfl) rfl ?_
  refine WO.s0 (v' := .d (.lst (d0.fL.map (PD.int .i64)))) rfl rfl (fun _ => rfl) rfl ?_
  refine WO.s0 (v' := .d (.int .i64 (d0.fL.length : Int))) rfl rfl (fun _ => rfl) (lenMap _ _) ?_
  refine ite_elim h (fun hb1 h => ?_) (fun hb1 h => ?_)
  · refine WO.s0 (v' := .d (.bool true)) rfl rfl (fun _ => rfl) (congrArg (fun b => RV.d (.bool b)) hb1) ?_
    refine WO.s0 (v' := .d (.bool true)) rfl rfl (fun _ => rfl) rfl ?_
    refine WO.skip rfl rfl ?_
    refine WO.skip rfl rfl ?_
    refine WO.s0 (v' := .d (.bool true)) rfl rfl (fun _ => rfl) rfl ?_
    refine WO.nil ⟨by kernel_rfl, ?_⟩
    refine WC.condT rfl ?_
    refine WC.regionSeq rfl rfl ?_
    refine WO.s0 (v' := .d (.int .i64 0)) rfl rfl (fun _ => rfl) rfl ?_
    refine WO.nil ?_
    refine WC.ret ?_
    obtain rfl := Option.some.inj h
    exact WC.done rfl rfl rfl
  · refine WO.s0 (v' := .d (.bool false)) rfl rfl (fun _ => rfl) (congrArg (fun b => RV.d (.bool b)) hb1) ?_
    refine WO.s0 (v' := .d (.bool false)) rfl rfl (fun _ => rfl) rfl ?_
    refine WO.s0 (v' := .d (.int .i64 a1)) rfl rfl (fun _ => rfl) rfl ?_
    refine WO.s0 (v' := .d (.bool (decide (a1 < (1 : Int))))) rfl rfl (fun _ => rfl) rfl ?_
    refine ite_elim h (fun hb2 h => ?_) (fun hb2 h => ?_)
    · refine WO.s0 (v' := .d (.bool true)) rfl rfl (fun _ => rfl) (congrArg (fun b => RV.d (.bool b)) hb2) ?_
      refine WO.nil ⟨by kernel_rfl, ?_⟩
      refine WC.condT rfl ?_
      refine WC.regionSeq rfl rfl ?_
      refine WO.s0 (v' := .d (.int .i64 0)) rfl rfl (fun _ => rfl) rfl ?_
      refine WO.nil ?_
      refine WC.ret ?_
      obtain rfl := Option.some.inj h
      exact WC.done rfl rfl rfl
    · refine WO.s0 (v' := .d (.bool false)) rfl rfl (fun _ => rfl) (congrArg (fun b => RV.d (.bool b)) hb2) ?_
      refine WO.nil ⟨by kernel_rfl, ?_⟩
      refine WC.condF rfl ?_
      refine WC.skip ?_
      refine WC.regionDSeq rfl rfl ?_
      refine WO.s0 (v' := .ptr 0 0) rfl rfl (fun _ => rfl) rfl ?_
      refine WO.s0 (v' := .ptr 0 0) rfl rfl (fun _ => rfl) rfl ?_
      refine WO.s0 (v' := .ptr 0 0) rfl rfl (fun _ => rfl) rfl ?_
      refine WO.s0 (v' := .d (.lst (d0.fL.map (PD.int .i64)))) rfl rfl (fun _ => rfl) rfl ?_
      refine WO.s0 (v' := .ptr 0 0) rfl rfl (fun _ => rfl) rfl ?_
      refine WO.s0 (v' := .ptr 0 0) rfl rfl (fun _ => rfl) rfl ?_
      refine WO.s0 (v' := .ptr 0 1) rfl rfl (fun _ => rfl) rfl ?_
      refine WO.s0 (v' := .d (.int .i64 d0.fAt)) rfl rfl (fun _ => rfl) rfl ?_
      refine bind_elim h (fun x3 hx3 h => ?_)
      refine WO.elemG hx3 rfl rfl rfl rfl rfl rfl rfl rfl rfl ?_
      refine WO.s0 (v' := .d (.int .i64 x3)) rfl rfl (fun _ => rfl) rfl ?_
      refine WO.s0 (v' := .d (.int .i64 a1)) rfl rfl (fun _ => rfl) rfl ?_
      refine bind_elim h (fun x4 hx4 h => ?_)
      refine WO.remG hx4 rfl rfl rfl rfl rfl rfl ?_
      refine WO.s0 (v' := .d (.int .i64 x4)) rfl rfl (fun _ => rfl) rfl ?_
      refine WO.nil ⟨by kernel_rfl, ?_⟩
      refine WC.regionSeq rfl rfl ?_
      refine WO.s0 (v' := .ptr 0 0) rfl rfl (fun _ => rfl) rfl ?_
      refine WO.s0 (v' := .ptr 0 0) rfl rfl (fun _ => rfl) rfl ?_
      refine WO.s0 (v' := .ptr 0 1) rfl rfl (fun _ => rfl) rfl ?_
      refine WO.s0 (v' := .d (.int .i64 d0.fAt)) rfl rfl (fun _ => rfl) rfl ?_
      refine WO.s0 (v' := .d (.int .i64 (IntKind.wrap .i64 (d0.fAt + (1 : Int))))) rfl rfl (fun _ => rfl) rfl ?_
      refine WO.s0 (v' := .ptr 0 0) rfl rfl (fun _ => rfl) rfl ?_
      refine WO.s0 (v' := .ptr 0 1) rfl rfl (fun _ => rfl) rfl ?_
      refine WO.n1 (v := .undef) (id := 0) (bx := .var [.d (.lst (d0.fL.map (PD.int .i64))), .d (.int .i64 (IntKind.wrap .i64 (d0.fAt + (1 : Int))))]) rfl rfl (fun _ => rfl) ?_
      refine WO.nil ?_
      refine WC.seq ?_
      refine WC.regionSeq rfl rfl ?_
      refine WO.s0 (v' := .d (.int .i64 x4)) rfl rfl (fun _ => rfl) rfl ?_
      refine ite_elim h (fun hb5 h => ?_) (fun hb5 h => ?_)
      · refine WO.s0 (v' := .d (.bool true)) rfl rfl (fun _ => rfl) (congrArg (fun b => RV.d (.bool b)) hb5) ?_
        refine WO.nil ?_
        refine WC.condT rfl ?_
        refine WC.region rfl rfl ?_
        refine WO.s0 (v' := .d (.int .i64 x4)) rfl rfl (fun _ => rfl) rfl ?_
        refine WO.s0 (v' := .d (.int .i64 a1)) rfl rfl (fun _ => rfl) rfl ?_
        refine WO.s0 (v' := .d (.int .i64 (IntKind.wrap .i64 (x4 + a1)))) rfl rfl (fun _ => rfl) rfl ?_
        refine WO.s0 (v' := .d (.int .i64 (IntKind.wrap .i64 (x4 + a1)))) rfl rfl (fun _ => rfl) rfl ?_
        refine WO.nil ?_
        refine WC.regionSeq rfl rfl ?_
        refine WO.s0 (v' := .d (.int .i64 (IntKind.wrap .i64 (x4 + a1)))) rfl rfl (fun _ => rfl) rfl ?_
        refine WO.s0 (v' := .d (.int .i64 (IntKind.wrap .i64 (x4 + a1)))) rfl rfl (fun _ => rfl) rfl ?_
        refine WO.nil ?_
        refine WC.ret ?_
        obtain rfl := Option.some.inj h
        exact WC.done rfl rfl rfl
      · refine WO.s0 (v' := .d (.bool false)) rfl rfl (fun _ => rfl) (congrArg (fun b => RV.d (.bool b)) hb5) ?_
        refine WO.nil ?_
        refine WC.condF rfl ?_
        refine WC.skip ?_
        refine WC.regionSeq rfl rfl ?_
        refine WO.s0 (v' := .d (.int .i64 x4)) rfl rfl (fun _ => rfl) rfl ?_
        refine WO.s0 (v' := .d (.int .i64 x4)) rfl rfl (fun _ => rfl) rfl ?_
        refine WO.nil ?_
        refine WC.ret ?_
        obtain rfl := Option.some.inj h
        exact WC.done rfl rfl rfl
theorem Dice_Source_ev {d0 : T_seismonetmade_Dice} {r : T_api_SourceID × T_seismonetmade_Dice} (h : Dice_Source d0 = some r) : EvP prog hints ext 10 [.ptr 0 0] [.var [.d (.lst (d0.fL.map (PD.int .i64))), .d (.int .i64 d0.fAt)]] (.d (T_api_SourceID.pd r.1), [.var [.d (.lst (r.2.fL.map (PD.int .i64))), .d (.int .i64 r.2.fAt)]]) := by
  refine Ev.body rfl Tryd.func10 rfl (by kernel_rfl) ?_
  refine WC.regionSeq rfl rfl ?_
  refine WO.s1 (v := .ptr 32 0) (id := 32) (bx := .var [.d (.str []), .d (.str []), .d (.str []), .d (.str [])]) rfl rfl (fun _ => rfl) ?_
  refine WO.nil ?_
  refine WC.regionDSeq rfl rfl ?_
  refine WO.s0 (v' := .d (.lst ([[71, 82], [88], [55, 65]].map PD.str))) rfl rfl (fun _ => rfl) rfl ?_
  refine WO.s0 (v' := .ptr 0 0) rfl rfl (fun _ => rfl) rfl ?_
  refine bind_elim h (fun x1 hx1 h => ?_)
  refine WO.callR (v := .d (.int .i64 x1.1)) (u := [(0, .var [.d (.lst (x1.2.fL.map (PD.int .i64))), .d (.int .i64 x1.2.fAt)])]) rfl rfl (fun _ => rfl) rfl rfl rfl rfl rfl (Dice_Next_ev hx1) rfl rfl rfl rfl ?_
  refine bind_elim h (fun x2 hx2 h => ?_)
  refine WO.elemG hx2 rfl rfl rfl rfl rfl rfl rfl rfl rfl ?_
  refine WO.s0 (v' := .d (.str x2)) rfl rfl (fun _ => rfl) rfl ?_
  refine WO.s0 (v' := .d (.lst ([[70, 85, 82], [65], [65, 66, 67, 68, 69], [70, 85]].map PD.str))) rfl rfl (fun _ => rfl) rfl ?_
  refine WO.s0 (v' := .ptr 0 0) rfl rfl (fun _ => rfl) rfl ?_
  refine bind_elim h (fun x3 hx3 h => ?_)
  refine WO.callR (v := .d (.int .i64 x3.1)) (u := [(0, .var [.d (.lst (x3.2.fL.map (PD.int .i64))), .d (.int .i64 x3.2.fAt)])]) rfl rfl (fun _ => rfl) rfl rfl rfl rfl rfl (Dice_Next_ev hx3) rfl rfl rfl rfl ?_
  refine bind_elim h (fun x4 hx4 h => ?_)
  refine WO.elemG hx4 rfl rfl rfl rfl rfl rfl rfl rfl rfl ?_
  refine WO.s0 (v' := .d (.str x4)) rfl rfl (fun _ => rfl) rfl ?_
  refine WO.s0 (v' := .d (.lst ([[], [48, 48], [49, 48]].map PD.str))) rfl rfl (fun _ => rfl) rfl ?_
  refine WO.s0 (v' := .ptr 0 0) rfl rfl (fun _ => rfl) rfl ?_
  refine bind_elim h (fun x5 hx5 h => ?_)
  refine WO.callR (v := .d (.int .i64 x5.1)) (u := [(0, .var [.d (.lst (x5.2.fL.map (PD.int .i64))), .d (.int .i64 x5.2.fAt)])]) rfl rfl (fun _ => rfl) rfl rfl rfl rfl rfl (Dice_Next_ev hx5) rfl rfl rfl rfl ?_
  refine bind_elim h (fun x6 hx6 h => ?_)
  refine WO.elemG hx6 rfl rfl rfl rfl rfl rfl rfl rfl rfl ?_
  refine WO.s0 (v' := .d (.str x6)) rfl rfl (fun _ => rfl) rfl ?_
  refine WO.s0 (v' := .d (.lst ([[72, 72, 90], [72, 72, 78], [66, 72, 90]].map PD.str))) rfl rfl (fun _ => rfl) rfl ?_
  refine WO.s0 (v' := .ptr 0 0) rfl rfl (fun _ => rfl) rfl ?_
  refine bind_elim h (fun x7 hx7 h => ?_)
  refine WO.callR (v := .d (.int .i64 x7.1)) (u := [(0, .var [.d (.lst (x7.2.fL.map (PD.int .i64))), .d (.int .i64 x7.2.fAt)])]) rfl rfl (fun _ => rfl) rfl rfl rfl rfl rfl (Dice_Next_ev hx7) rfl rfl rfl rfl ?_
  refine bind_elim h (fun x8 hx8 h => ?_)
  refine WO.elemG hx8 rfl rfl rfl rfl rfl rfl rfl rfl rfl ?_
  refine WO.s0 (v' := .d (.str x8)) rfl rfl (fun _ => rfl) rfl ?_
  refine WO.s0 (v' := .d (T_api_SourceID.pd (T_api_SourceID.mk x2 x4 x6 x8))) rfl rfl (fun _ => rfl) rfl ?_
  refine WO.n1 (v := .undef) (id := 32) (bx := .var [.d (.str ((T_api_SourceID.mk x2 x4 x6 x8).fNetwork)), .d (.str ((T_api_SourceID.mk x2 x4 x6 x8).fStation)), .d (.str ((T_api_SourceID.mk x2 x4 x6 x8).fLocation)), .d (.str ((T_api_SourceID.mk x2 x4 x6 x8).fChannel))]) rfl rfl (fun _ => rfl) ?_
  refine WO.nil ⟨by kernel_rfl, ?_⟩
  refine WC.ret ?_
  obtain rfl := Option.some.inj h
  exact WC.done rfl rfl rfl
theorem source_Format_ev {a0 : T_api_SourceID} {r : (List UInt8) × Int} (h : source_Format a0 = some r) : EvP prog hints ext 14 [.d (T_api_SourceID.pd a0)] [] (.tup [.d (.str r.1), .d (.int .i64 r.2)], []) := by
  refine Ev.body rfl Tryd.func14 rfl (by kernel_rfl) ?_
  refine WC.regionSeq rfl rfl ?_
  refine WO.s1 (v := .ptr 16 0) (id := 16) (bx := .var [.d (.str a0.fNetwork), .d (.str a0.fStation), .d (.str a0.fLocation), .d (.str a0.fChannel)]) rfl rfl (fun _ => rfl) ?_
  refine WO.s0 (v' := .d (.str [])) rfl rfl (fun _ => rfl) rfl ?_
  refine WO.s0 (v' := .d (.int .i64 0)) rfl rfl (fun _ => rfl) rfl ?_
  refine WO.nil ?_
  refine WC.seq ?_
  refine WC.regionSeq rfl rfl ?_
  refine WO.s0 (v' := .d (T_api_SourceID.pd a0)) rfl rfl (fun _ => rfl) rfl ?_
  refine bind_elim h (fun x1 hx1 h => ?_)
  refine WO.callR (v := .d (.bool x1)) (u := []) rfl rfl (fun _ => rfl) rfl rfl rfl rfl rfl (source_Valid_ev hx1) rfl rfl rfl rfl ?_
  refine ite_elim h (fun hb2 h => ?_) (fun hb2 h => ?_)
  · refine WO.s0 (v' := .d (.bool true)) rfl rfl (fun _ => rfl) (congrArg (fun b => RV.d (.bool b)) hb2) ?_
    refine WO.nil ?_
    refine WC.condT rfl ?_
    refine WC.regionSeq rfl rfl ?_
    refine WO.s0 (v' := .d (.str [])) rfl rfl (fun _ => rfl) rfl ?_
    refine WO.s0 (v' := .d (.int .i64 1)) rfl rfl (fun _ => rfl) rfl ?_
    refine WO.nil ?_
    refine WC.ret ?_
    obtain rfl := Option.some.inj h
    exact WC.done rfl rfl rfl
  · refine WO.s0 (v' := .d (.bool false)) rfl rfl (fun _ => rfl) (congrArg (fun b => RV.d (.bool b)) hb2) ?_
    refine WO.nil ?_
    refine WC.condF rfl ?_
    refine WC.skip ?_
    refine WC.regionSeq rfl rfl ?_
    refine WO.s0 (v' := .d (T_api_SourceID.pd a0)) rfl rfl (fun _ => rfl) rfl ?_
    refine bind_elim h (fun x3 hx3 h => ?_)
    refine WO.callR (v := .d (A4__List_UInt8_.pd x3)) (u := []) rfl rfl (fun _ => rfl) rfl rfl rfl rfl rfl (source_parts_ev hx3) rfl rfl rfl rfl ?_
    refine WO.s1 (v := .ptr 64 0) (id := 64) (bx := .var [.d (.str []), .d (.str []), .d (.str []), .d (.str [])]) rfl rfl (fun _ => rfl) ?_
    refine WO.n1 (v := .undef) (id := 64) (bx := .var [.d (.str x3.a0), .d (.str x3.a1), .d (.str x3.a2), .d (.str x3.a3)]) rfl rfl (fun _ => rfl) ?_
    refine WO.nil ?_
    refine WC.regionSeq rfl rfl ?_
    refine WO.s1 (v := .d (.lst ([x3.a0, x3.a1, x3.a2, x3.a3].map PD.str))) (id := 64) (bx := .dead) rfl rfl (fun _ => rfl) ?_
    refine bind_elim h (fun x4 hx4 h => ?_)
    refine WO.callR (v := .d (.str x4)) (u := []) rfl rfl (fun _ => rfl) rfl rfl rfl rfl rfl ((join_ev rfl) hx4) rfl rfl rfl rfl ?_
    refine WO.s0 (v' := .d (.str x4)) rfl rfl (fun _ => rfl) rfl ?_
    refine WO.s0 (v' := .d (.int .i64 0)) rfl rfl (fun _ => rfl) rfl ?_
    refine WO.nil ?_
    refine WC.ret ?_
    obtain rfl := Option.some.inj h
    exact WC.done rfl rfl rfl
theorem ref03_code_ev {a0 : (List UInt8)} {a1 : Int} {a2 : Int} {r : Bool} (h : ref03_code a0 a1 a2 = some r) : EvP prog hints ext 43 [.d (.str a0), .d (.int .i64 a1), .d (.int .i64 a2)] [] (.d (.bool r), []) := by
  refine Ev.body rfl Tryd.func43 rfl (by kernel_rfl) ?_
  refine WC.regionSeq rfl rfl ?_
  refine WO.s0 (v' := .d (.bool false)) rfl rfl (fun _ => rfl) rfl ?_
  refine WO.nil ?_
  refine WC.seq ?_
  refine WC.regionSeq rfl rfl ?_
  refine WO.s0 (v' := .d (.int .i64 0)) rfl rfl (fun _ => rfl) rfl ?_
  refine WO.nil ?_
  refine bind_elim h (fun o17 ho17 h => ?_)
  refine WC.block (WC.loop (WL.ofLoop ho17 (fun s R' B' => ghosts prog 0 (A R' B') (hints.at_ 43 2) = some (A [(0, .d (.str a0)), (1, .d (.int .i64 a1)), (2, .d (.int .i64 a2)), (7, .d (.int .i64 s))] [])) (fun o e R' B' => match o with | .inl y => e = .exit 0 ∧ ghosts prog 0 (A R' B') (hints.at_ 43 6) = some (A [(0, .d (.str a0)), (1, .d (.int .i64 a1)), (2, .d (.int .i64 a2))] []) | .inr r => e = .ret ∧ finish prog (hints.own 43) Tryd.f43 0 (A R' B') = some (.d (.bool r), [])) rfl ?_ ?_))
  · rintro s1 R' B' q2 hI h
    refine WC.seq ?_
    refine WC.regionSeq hI rfl ?_
    refine WO.s0 (v' := .d (.int .i64 s1)) rfl rfl (fun _ => rfl) rfl ?_
    refine WO.s0 (v' := .d (.str a0)) rfl rfl (fun _ => rfl) rfl ?_
    refine WO.s0 (v' := .d (.int .i64 (a0.length : Int))) rfl rfl (fun _ => rfl) rfl ?_
    refine ite_elim h (fun hb3 h => ?_) (fun hb3 h => ?_)
    · refine WO.s0 (v' := .d (.bool true)) rfl rfl (fun _ => rfl) (congrArg (fun b => RV.d (.bool b)) hb3) ?_
      refine WO.nil ?_
      refine WC.condT rfl ?_
      refine WC.skip ?_
      refine WC.seq ?_
      refine WC.block ?_
      refine WC.regionSeq rfl rfl ?_
      refine WO.s0 (v' := .d (.str a0)) rfl rfl (fun _ => rfl) rfl ?_
      refine WO.s0 (v' := .d (.int .i64 s1)) rfl rfl (fun _ => rfl) rfl ?_
      refine bind_elim h (fun x4 hx4 h => ?_)
      refine WO.byteG hx4 rfl rfl rfl rfl rfl rfl ?_
      refine ite_elim h (fun hb5 h => ?_) (fun hb5 h => ?_)
      · refine WO.s0 (v' := .d (.bool true)) rfl rfl (fun _ => rfl) (congrArg (fun b => RV.d (.bool b)) hb5) ?_
        refine WO.s0 (v' := .d (.bool true)) rfl rfl (fun _ => rfl) rfl ?_
        refine WO.s0 (v' := .d (.str a0)) rfl rfl (fun _ => rfl) rfl ?_
        refine WO.s0 (v' := .d (.int .i64 s1)) rfl rfl (fun _ => rfl) rfl ?_
        refine bind_elim h (fun x6 hx6 h => ?_)
        refine WO.byteG hx6 rfl rfl rfl rfl rfl rfl ?_
        refine WO.s0 (v' := .d (.bool (decide (x6 ≤ (90 : Int))))) rfl rfl (fun _ => rfl) rfl ?_
        refine ite_elim h (fun hb7 h => ?_) (fun hb7 h => ?_)
        · refine WO.s0 (v' := .d (.bool true)) rfl rfl (fun _ => rfl) (congrArg (fun b => RV.d (.bool b)) hb7) ?_
          refine WO.s0 (v' := .d (.bool true)) rfl rfl (fun _ => rfl) rfl ?_
          refine WO.skip rfl rfl ?_
          refine WO.skip rfl rfl ?_
          refine WO.skip rfl rfl ?_
          refine WO.skip rfl rfl ?_
          refine WO.skip rfl rfl ?_
          refine WO.skip rfl rfl ?_
          refine WO.skip rfl rfl ?_
          refine WO.skip rfl rfl ?_
          refine WO.skip rfl rfl ?_
          refine WO.skip rfl rfl ?_
          refine WO.s0 (v' := .d (.bool true)) rfl rfl (fun _ => rfl) rfl ?_
          refine WO.s0 (v' := .d (.bool false)) rfl rfl (fun _ => rfl) rfl ?_
          refine WO.nil ?_
          refine WC.condF rfl ?_
          refine WC.skip ?_
          refine WC.region rfl rfl ?_
          refine WO.s0 (v' := .d (.int .i64 s1)) rfl rfl (fun _ => rfl) rfl ?_
          refine WO.s0 (v' := .d (.int .i64 (IntKind.wrap .i64 (s1 + (1 : Int))))) rfl rfl (fun _ => rfl) rfl ?_
          refine WO.s0 (v' := .d (.int .i64 (IntKind.wrap .i64 (s1 + (1 : Int))))) rfl rfl (fun _ => rfl) rfl ?_
          refine WO.nil ?_
          obtain rfl := Option.some.inj h
          exact ⟨rfl, rfl⟩
        · refine WO.s0 (v' := .d (.bool false)) rfl rfl (fun _ => rfl) (congrArg (fun b => RV.d (.bool b)) hb7) ?_
          refine WO.s0 (v' := .d (.bool false)) rfl rfl (fun _ => rfl) rfl ?_
          refine WO.s0 (v' := .d (.str a0)) rfl rfl (fun _ => rfl) rfl ?_
          refine WO.s0 (v' := .d (.int .i64 s1)) rfl rfl (fun _ => rfl) rfl ?_
          refine bind_elim h (fun x8 hx8 h => ?_)
          refine WO.byteG hx8 rfl rfl rfl rfl rfl rfl ?_
          refine ite_elim h (fun hb9 h => ?_) (fun hb9 h => ?_)
          · refine WO.s0 (v' := .d (.bool true)) rfl rfl (fun _ => rfl) (congrArg (fun b => RV.d (.bool b)) hb9) ?_
            refine WO.s0 (v' := .d (.bool true)) rfl rfl (fun _ => rfl) rfl ?_
            refine WO.s0 (v' := .d (.str a0)) rfl rfl (fun _ => rfl) rfl ?_
            refine WO.s0 (v' := .d (.int .i64 s1)) rfl rfl (fun _ => rfl) rfl ?_
            refine bind_elim h (fun x10 hx10 h => ?_)
            refine WO.byteG hx10 rfl rfl rfl rfl rfl rfl ?_
            refine WO.s0 (v' := .d (.bool (decide (x10 ≤ (57 : Int))))) rfl rfl (fun _ => rfl) rfl ?_
            refine WO.s0 (v' := .d (.bool (decide (x10 ≤ (57 : Int))))) rfl rfl (fun _ => rfl) rfl ?_
            refine WO.s0 (v' := .d (.bool (decide (x10 ≤ (57 : Int))))) rfl rfl (fun _ => rfl) rfl ?_
            refine ite_elim h (fun hb11 h => ?_) (fun hb11 h => ?_)
            · refine WO.s0 (v' := .d (.bool true)) rfl rfl (fun _ => rfl) (congrArg (fun b => RV.d (.bool b)) hb11) ?_
              refine WO.nil ?_
              refine WC.condT rfl ?_
              refine WC.regionSeq rfl rfl ?_
              refine WO.s0 (v' := .d (.bool false)) rfl rfl (fun _ => rfl) rfl ?_
              refine WO.nil ?_
              refine WC.ret ?_
              obtain rfl := Option.some.inj h
              exact ⟨(fun he => by cases he), rfl, rfl⟩
            · refine WO.s0 (v' := .d (.bool false)) rfl rfl (fun _ => rfl) (congrArg (fun b => RV.d (.bool b)) hb11) ?_
              refine WO.nil ?_
              refine WC.condF rfl ?_
              refine WC.skip ?_
              refine WC.region rfl rfl ?_
              refine WO.s0 (v' := .d (.int .i64 s1)) rfl rfl (fun _ => rfl) rfl ?_
              refine WO.s0 (v' := .d (.int .i64 (IntKind.wrap .i64 (s1 + (1 : Int))))) rfl rfl (fun _ => rfl) rfl ?_
              refine WO.s0 (v' := .d (.int .i64 (IntKind.wrap .i64 (s1 + (1 : Int))))) rfl rfl (fun _ => rfl) rfl ?_
              refine WO.nil ?_
              obtain rfl := Option.some.inj h
              exact ⟨rfl, rfl⟩
          · refine WO.s0 (v' := .d (.bool false)) rfl rfl (fun _ => rfl) (congrArg (fun b => RV.d (.bool b)) hb9) ?_
            refine WO.s0 (v' := .d (.bool false)) rfl rfl (fun _ => rfl) rfl ?_
            refine WO.skip rfl rfl ?_
            refine WO.skip rfl rfl ?_
            refine WO.skip rfl rfl ?_
            refine WO.skip rfl rfl ?_
            refine WO.s0 (v' := .d (.bool false)) rfl rfl (fun _ => rfl) rfl ?_
            refine WO.s0 (v' := .d (.bool false)) rfl rfl (fun _ => rfl) rfl ?_
            refine WO.s0 (v' := .d (.bool true)) rfl rfl (fun _ => rfl) rfl ?_
            refine WO.nil ?_
            refine WC.condT rfl ?_
            refine WC.regionSeq rfl rfl ?_
            refine WO.s0 (v' := .d (.bool false)) rfl rfl (fun _ => rfl) rfl ?_
            refine WO.nil ?_
            refine WC.ret ?_
            obtain rfl := Option.some.inj h
            exact ⟨(fun he => by cases he), rfl, rfl⟩
      · refine WO.s0 (v' := .d (.bool false)) rfl rfl (fun _ => rfl) (congrArg (fun b => RV.d (.bool b)) hb5) ?_
        refine WO.s0 (v' := .d (.bool false)) rfl rfl (fun _ => rfl) rfl ?_
        refine WO.skip rfl rfl ?_
        refine WO.skip rfl rfl ?_
        refine WO.skip rfl rfl ?_
        refine WO.skip rfl rfl ?_
        refine WO.s0 (v' := .d (.bool false)) rfl rfl (fun _ => rfl) rfl ?_
        refine WO.s0 (v' := .d (.bool false)) rfl rfl (fun _ => rfl) rfl ?_
        refine WO.s0 (v' := .d (.str a0)) rfl rfl (fun _ => rfl) rfl ?_
        refine WO.s0 (v' := .d (.int .i64 s1)) rfl rfl (fun _ => rfl) rfl ?_
        refine bind_elim h (fun x12 hx12 h => ?_)
        refine WO.byteG hx12 rfl rfl rfl rfl rfl rfl ?_
        refine ite_elim h (fun hb13 h => ?_) (fun hb13 h => ?_)
        · refine WO.s0 (v' := .d (.bool true)) rfl rfl (fun _ => rfl) (congrArg (fun b => RV.d (.bool b)) hb13) ?_
          refine WO.s0 (v' := .d (.bool true)) rfl rfl (fun _ => rfl) rfl ?_
          refine WO.s0 (v' := .d (.str a0)) rfl rfl (fun _ => rfl) rfl ?_
          refine WO.s0 (v' := .d (.int .i64 s1)) rfl rfl (fun _ => rfl) rfl ?_
          refine bind_elim h (fun x14 hx14 h => ?_)
          refine WO.byteG hx14 rfl rfl rfl rfl rfl rfl ?_
          refine WO.s0 (v' := .d (.bool (decide (x14 ≤ (57 : Int))))) rfl rfl (fun _ => rfl) rfl ?_
          refine WO.s0 (v' := .d (.bool (decide (x14 ≤ (57 : Int))))) rfl rfl (fun _ => rfl) rfl ?_
          refine WO.s0 (v' := .d (.bool (decide (x14 ≤ (57 : Int))))) rfl rfl (fun _ => rfl) rfl ?_
          refine ite_elim h (fun hb15 h => ?_) (fun hb15 h => ?_)
          · refine WO.s0 (v' := .d (.bool true)) rfl rfl (fun _ => rfl) (congrArg (fun b => RV.d (.bool b)) hb15) ?_
            refine WO.nil ?_
            refine WC.condT rfl ?_
            refine WC.regionSeq rfl rfl ?_
            refine WO.s0 (v' := .d (.bool false)) rfl rfl (fun _ => rfl) rfl ?_
            refine WO.nil ?_
            refine WC.ret ?_
            obtain rfl := Option.some.inj h
            exact ⟨(fun he => by cases he), rfl, rfl⟩
          · refine WO.s0 (v' := .d (.bool false)) rfl rfl (fun _ => rfl) (congrArg (fun b => RV.d (.bool b)) hb15) ?_
            refine WO.nil ?_
            refine WC.condF rfl ?_
            refine WC.skip ?_
            refine WC.region rfl rfl ?_
            refine WO.s0 (v' := .d (.int .i64 s1)) rfl rfl (fun _ => rfl) rfl ?_
            refine WO.s0 (v' := .d (.int .i64 (IntKind.wrap .i64 (s1 + (1 : Int))))) rfl rfl (fun _ => rfl) rfl ?_
            refine WO.s0 (v' := .d (.int .i64 (IntKind.wrap .i64 (s1 + (1 : Int))))) rfl rfl (fun _ => rfl) rfl ?_
            refine WO.nil ?_
            obtain rfl := Option.some.inj h
            exact ⟨rfl, rfl⟩
        · refine WO.s0 (v' := .d (.bool false)) rfl rfl (fun _ => rfl) (congrArg (fun b => RV.d (.bool b)) hb13) ?_
          refine WO.s0 (v' := .d (.bool false)) rfl rfl (fun _ => rfl) rfl ?_
          refine WO.skip rfl rfl ?_
          refine WO.skip rfl rfl ?_
          refine WO.skip rfl rfl ?_
          refine WO.skip rfl rfl ?_
          refine WO.s0 (v' := .d (.bool false)) rfl rfl (fun _ => rfl) rfl ?_
          refine WO.s0 (v' := .d (.bool false)) rfl rfl (fun _ => rfl) rfl ?_
          refine WO.s0 (v' := .d (.bool true)) rfl rfl (fun _ => rfl) rfl ?_
          refine WO.nil ?_
          refine WC.condT rfl ?_
          refine WC.regionSeq rfl rfl ?_
          refine WO.s0 (v' := .d (.bool false)) rfl rfl (fun _ => rfl) rfl ?_
          refine WO.nil ?_
          refine WC.ret ?_
          obtain rfl := Option.some.inj h
          exact ⟨(fun he => by cases he), rfl, rfl⟩
    · refine WO.s0 (v' := .d (.bool false)) rfl rfl (fun _ => rfl) (congrArg (fun b => RV.d (.bool b)) hb3) ?_
      refine WO.nil ?_
      refine WC.condF rfl ?_
      refine WC.exit ?_
      obtain rfl := Option.some.inj h
      exact ⟨(fun he => by cases he), rfl, rfl⟩
  · intro e R' B' he hq
    rcases o17 with y18 | r19
    · obtain ⟨rfl, hI⟩ := hq
      refine ⟨fun _ => ?_, fun hne => (hne rfl).elim⟩
      refine WC.regionSeq hI rfl ?_
      refine WO.s0 (v' := .d (.str a0)) rfl rfl (fun _ => rfl) rfl ?_
      refine WO.s0 (v' := .d (.int .i64 (a0.length : Int))) rfl rfl (fun _ => rfl) rfl ?_
      refine WO.s0 (v' := .d (.int .i64 a1)) rfl rfl (fun _ => rfl) rfl ?_
      refine ite_elim h (fun hb20 h => ?_) (fun hb20 h => ?_)
      · refine WO.s0 (v' := .d (.bool true)) rfl rfl (fun _ => rfl) (congrArg (fun b => RV.d (.bool b)) hb20) ?_
        refine WO.s0 (v' := .d (.bool true)) rfl rfl (fun _ => rfl) rfl ?_
        refine WO.s0 (v' := .d (.str a0)) rfl rfl (fun _ => rfl) rfl ?_
        refine WO.s0 (v' := .d (.int .i64 (a0.length : Int))) rfl rfl (fun _ => rfl) rfl ?_
        refine WO.s0 (v' := .d (.int .i64 a2)) rfl rfl (fun _ => rfl) rfl ?_
        refine WO.s0 (v' := .d (.bool (decide ((a0.length : Int) ≤ a2)))) rfl rfl (fun _ => rfl) rfl ?_
        refine WO.s0 (v' := .d (.bool (decide ((a0.length : Int) ≤ a2)))) rfl rfl (fun _ => rfl) rfl ?_
        refine WO.s0 (v' := .d (.bool (decide ((a0.length : Int) ≤ a2)))) rfl rfl (fun _ => rfl) rfl ?_
        refine WO.nil ?_
        refine WC.ret ?_
        obtain rfl := Option.some.inj h
        exact WC.done rfl rfl rfl
      · refine WO.s0 (v' := .d (.bool false)) rfl rfl (fun _ => rfl) (congrArg (fun b => RV.d (.bool b)) hb20) ?_
        refine WO.s0 (v' := .d (.bool false)) rfl rfl (fun _ => rfl) rfl ?_
        refine WO.skip rfl rfl ?_
        refine WO.skip rfl rfl ?_
        refine WO.skip rfl rfl ?_
        refine WO.skip rfl rfl ?_
        refine WO.s0 (v' := .d (.bool false)) rfl rfl (fun _ => rfl) rfl ?_
        refine WO.s0 (v' := .d (.bool false)) rfl rfl (fun _ => rfl) rfl ?_
        refine WO.nil ?_
        refine WC.ret ?_
        obtain rfl := Option.some.inj h
        exact WC.done rfl rfl rfl
    · obtain ⟨rfl, hf⟩ := hq
      obtain rfl := Option.some.inj h
      exact hf
theorem ref03_Valid_ev {a0 : T_api_SourceID} {r : Bool} (h : ref03_Valid a0 = some r) : EvP prog hints ext 22 [.d (T_api_SourceID.pd a0)] [] (.d (.bool r), []) := by
  refine Ev.body rfl Tryd.func22 rfl (by kernel_rfl) ?_
  refine WC.regionSeq rfl rfl ?_
  refine WO.s1 (v := .ptr 16 0) (id := 16) (bx := .var [.d (.str a0.fNetwork), .d (.str a0.fStation), .d (.str a0.fLocation), .d (.str a0.fChannel)]) rfl rfl (fun _ => rfl) ?_
  refine WO.s0 (v' := .d (.bool false)) rfl rfl (fun _ => rfl) rfl ?_
  refine WO.nil ?_
  refine WC.regionSeq rfl rfl ?_
  refine WO.s0 (v' := .ptr 16 0) rfl rfl (fun _ => rfl) rfl ?_
  refine WO.s0 (v' := .d (.str a0.fNetwork)) rfl rfl (fun _ => rfl) rfl ?_
  refine bind_elim h (fun x1 hx1 h => ?_)
  refine ite_elim h (fun hb2 h => ?_) (fun hb2 h => ?_)
  · refine WO.callR (v := .d (.bool true)) (u := []) rfl rfl (fun _ => rfl) rfl rfl rfl rfl rfl (ref03_code_ev hx1) rfl rfl (congrArg (fun b => RV.d (.bool b)) hb2) rfl ?_
    refine WO.s0 (v' := .d (.bool true)) rfl rfl (fun _ => rfl) rfl ?_
    refine WO.s0 (v' := .ptr 16 1) rfl rfl (fun _ => rfl) rfl ?_
    refine WO.s0 (v' := .d (.str a0.fStation)) rfl rfl (fun _ => rfl) rfl ?_
    refine bind_elim h (fun x3 hx3 h => ?_)
    refine WO.callR (v := .d (.bool x3)) (u := []) rfl rfl (fun _ => rfl) rfl rfl rfl rfl rfl (ref03_code_ev hx3) rfl rfl rfl rfl ?_
    refine ite_elim h (fun hb4 h => ?_) (fun hb4 h => ?_)
    · refine WO.s0 (v' := .d (.bool true)) rfl rfl (fun _ => rfl) (congrArg (fun b => RV.d (.bool b)) hb4) ?_
      refine WO.s0 (v' := .d (.bool true)) rfl rfl (fun _ => rfl) rfl ?_
      refine WO.s0 (v' := .ptr 16 2) rfl rfl (fun _ => rfl) rfl ?_
      refine WO.s0 (v' := .d (.str a0.fLocation)) rfl rfl (fun _ => rfl) rfl ?_
      refine ite_elim h (fun hb5 h => ?_) (fun hb5 h => ?_)
      · refine WO.s0 (v' := .d (.bool true)) rfl rfl (fun _ => rfl) (congrArg (fun b => RV.d (.bool b)) hb5) ?_
        refine WO.s0 (v' := .d (.bool true)) rfl rfl (fun _ => rfl) rfl ?_
        refine WO.skip rfl rfl ?_
        refine WO.skip rfl rfl ?_
        refine WO.skip rfl rfl ?_
        refine WO.s0 (v' := .d (.bool true)) rfl rfl (fun _ => rfl) rfl ?_
        refine WO.s0 (v' := .d (.bool true)) rfl rfl (fun _ => rfl) rfl ?_
        refine WO.s0 (v' := .d (.bool true)) rfl rfl (fun _ => rfl) rfl ?_
        refine WO.s0 (v' := .ptr 16 3) rfl rfl (fun _ => rfl) rfl ?_
        refine WO.s0 (v' := .d (.str a0.fChannel)) rfl rfl (fun _ => rfl) rfl ?_
        refine bind_elim h (fun x6 hx6 h => ?_)
        refine WO.callR (v := .d (.bool x6)) (u := []) rfl rfl (fun _ => rfl) rfl rfl rfl rfl rfl (ref03_code_ev hx6) rfl rfl rfl rfl ?_
        refine WO.s0 (v' := .d (.bool x6)) rfl rfl (fun _ => rfl) rfl ?_
        refine WO.s0 (v' := .d (.bool x6)) rfl rfl (fun _ => rfl) rfl ?_
        refine WO.nil ?_
        refine WC.ret ?_
        obtain rfl := Option.some.inj h
        exact WC.done rfl rfl rfl
      · refine WO.s0 (v' := .d (.bool false)) rfl rfl (fun _ => rfl) (congrArg (fun b => RV.d (.bool b)) hb5) ?_
        refine WO.s0 (v' := .d (.bool false)) rfl rfl (fun _ => rfl) rfl ?_
        refine WO.s0 (v' := .ptr 16 2) rfl rfl (fun _ => rfl) rfl ?_
        refine WO.s0 (v' := .d (.str a0.fLocation)) rfl rfl (fun _ => rfl) rfl ?_
        refine bind_elim h (fun x7 hx7 h => ?_)
        refine WO.callR (v := .d (.bool x7)) (u := []) rfl rfl (fun _ => rfl) rfl rfl rfl rfl rfl (ref03_code_ev hx7) rfl rfl rfl rfl ?_
        refine WO.s0 (v' := .d (.bool x7)) rfl rfl (fun _ => rfl) rfl ?_
        refine ite_elim h (fun hb8 h => ?_) (fun hb8 h => ?_)
        · refine WO.s0 (v' := .d (.bool true)) rfl rfl (fun _ => rfl) (congrArg (fun b => RV.d (.bool b)) hb8) ?_
          refine WO.s0 (v' := .d (.bool true)) rfl rfl (fun _ => rfl) rfl ?_
          refine WO.s0 (v' := .ptr 16 3) rfl rfl (fun _ => rfl) rfl ?_
          refine WO.s0 (v' := .d (.str a0.fChannel)) rfl rfl (fun _ => rfl) rfl ?_
          refine bind_elim h (fun x9 hx9 h => ?_)
          refine WO.callR (v := .d (.bool x9)) (u := []) rfl rfl (fun _ => rfl) rfl rfl rfl rfl rfl (ref03_code_ev hx9) rfl rfl rfl rfl ?_
          refine WO.s0 (v' := .d (.bool x9)) rfl rfl (fun _ => rfl) rfl ?_
          refine WO.s0 (v' := .d (.bool x9)) rfl rfl (fun _ => rfl) rfl ?_
          refine WO.nil ?_
          refine WC.ret ?_
          obtain rfl := Option.some.inj h
          exact WC.done rfl rfl rfl
        · refine WO.s0 (v' := .d (.bool false)) rfl rfl (fun _ => rfl) (congrArg (fun b => RV.d (.bool b)) hb8) ?_
          refine WO.s0 (v' := .d (.bool false)) rfl rfl (fun _ => rfl) rfl ?_
          refine WO.skip rfl rfl ?_
          refine WO.skip rfl rfl ?_
          refine WO.skip rfl rfl ?_
          refine WO.s0 (v' := .d (.bool false)) rfl rfl (fun _ => rfl) rfl ?_
          refine WO.s0 (v' := .d (.bool false)) rfl rfl (fun _ => rfl) rfl ?_
          refine WO.nil ?_
          refine WC.ret ?_
          obtain rfl := Option.some.inj h
          exact WC.done rfl rfl rfl
    · refine WO.s0 (v' := .d (.bool false)) rfl rfl (fun _ => rfl) (congrArg (fun b => RV.d (.bool b)) hb4) ?_
      refine WO.s0 (v' := .d (.bool false)) rfl rfl (fun _ => rfl) rfl ?_
      refine WO.skip rfl rfl ?_
      refine WO.skip rfl rfl ?_
      refine WO.skip rfl rfl ?_
      refine WO.skip rfl rfl ?_
      refine WO.skip rfl rfl ?_
      refine WO.skip rfl rfl ?_
      refine WO.skip rfl rfl ?_
      refine WO.skip rfl rfl ?_
      refine WO.s0 (v' := .d (.bool false)) rfl rfl (fun _ => rfl) rfl ?_
      refine WO.s0 (v' := .d (.bool false)) rfl rfl (fun _ => rfl) rfl ?_
      refine WO.skip rfl rfl ?_
      refine WO.skip rfl rfl ?_
      refine WO.skip rfl rfl ?_
      refine WO.s0 (v' := .d (.bool false)) rfl rfl (fun _ => rfl) rfl ?_
      refine WO.s0 (v' := .d (.bool false)) rfl rfl (fun _ => rfl) rfl ?_
      refine WO.nil ?_
      refine WC.ret ?_
      obtain rfl := Option.some.inj h
      exact WC.done rfl rfl rfl
  · refine WO.callR (v := .d (.bool false)) (u := []) rfl rfl (fun _ => rfl) rfl rfl rfl rfl rfl (ref03_code_ev hx1) rfl rfl (congrArg (fun b => RV.d (.bool b)) hb2) rfl ?_
    refine WO.s0 (v' := .d (.bool false)) rfl rfl (fun _ => rfl) rfl ?_
    refine WO.skip rfl rfl ?_
    refine WO.skip rfl rfl ?_
    refine WO.skip rfl rfl ?_
    refine WO.s0 (v' := .d (.bool false)) rfl rfl (fun _ => rfl) rfl ?_
    refine WO.s0 (v' := .d (.bool false)) rfl rfl (fun _ => rfl) rfl ?_
    refine WO.skip rfl rfl ?_
    refine WO.skip rfl rfl ?_
    refine WO.skip rfl rfl ?_
    refine WO.skip rfl rfl ?_
    refine WO.skip rfl rfl ?_
    refine WO.skip rfl rfl ?_
    refine WO.skip rfl rfl ?_
    refine WO.skip rfl rfl ?_
    refine WO.s0 (v' := .d (.bool false)) rfl rfl (fun _ => rfl) rfl ?_
    refine WO.s0 (v' := .d (.bool false)) rfl rfl (fun _ => rfl) rfl ?_
    refine WO.skip rfl rfl ?_
    refine WO.skip rfl rfl ?_
    refine WO.skip rfl rfl ?_
    refine WO.s0 (v' := .d (.bool false)) rfl rfl (fun _ => rfl) rfl ?_
    refine WO.s0 (v' := .d (.bool false)) rfl rfl (fun _ => rfl) rfl ?_
    refine WO.nil ?_
    refine WC.ret ?_
    obtain rfl := Option.some.inj h
    exact WC.done rfl rfl rfl
theorem ref03_Format_ev {a0 : T_api_SourceID} {r : (List UInt8) × Int} (h : ref03_Format a0 = some r) : EvP prog hints ext 18 [.d (T_api_SourceID.pd a0)] [] (.tup [.d (.str r.1), .d (.int .i64 r.2)], []) := by
  refine Ev.body rfl Tryd.func18 rfl (by kernel_rfl) ?_
  refine WC.regionSeq rfl rfl ?_
  refine WO.s1 (v := .ptr 16 0) (id := 16) (bx := .var [.d (.str a0.fNetwork), .d (.str a0.fStation), .d (.str a0.fLocation), .d (.str a0.fChannel)]) rfl rfl (fun _ => rfl) ?_
  refine WO.s0 (v' := .d (.str [])) rfl rfl (fun _ => rfl) rfl ?_
  refine WO.s0 (v' := .d (.int .i64 0)) rfl rfl (fun _ => rfl) rfl ?_
  refine WO.nil ?_
  refine WC.seq ?_
  refine WC.regionSeq rfl rfl ?_
  refine WO.s0 (v' := .d (T_api_SourceID.pd a0)) rfl rfl (fun _ => rfl) rfl ?_
  refine bind_elim h (fun x1 hx1 h => ?_)
  refine WO.callR (v := .d (.bool x1)) (u := []) rfl rfl (fun _ => rfl) rfl rfl rfl rfl rfl (ref03_Valid_ev hx1) rfl rfl rfl rfl ?_
  refine ite_elim h (fun hb2 h => ?_) (fun hb2 h => ?_)
  · refine WO.s0 (v' := .d (.bool true)) rfl rfl (fun _ => rfl) (congrArg (fun b => RV.d (.bool b)) hb2) ?_
    refine WO.nil ?_
    refine WC.condT rfl ?_
    refine WC.regionSeq rfl rfl ?_
    refine WO.s0 (v' := .d (.str [])) rfl rfl (fun _ => rfl) rfl ?_
    refine WO.s0 (v' := .d (.int .i64 1)) rfl rfl (fun _ => rfl) rfl ?_
    refine WO.nil ?_
    refine WC.ret ?_
    obtain rfl := Option.some.inj h
    exact WC.done rfl rfl rfl
  · refine WO.s0 (v' := .d (.bool false)) rfl rfl (fun _ => rfl) (congrArg (fun b => RV.d (.bool b)) hb2) ?_
    refine WO.nil ?_
    refine WC.condF rfl ?_
    refine WC.skip ?_
    refine WC.regionSeq rfl rfl ?_
    refine WO.s0 (v' := .ptr 16 0) rfl rfl (fun _ => rfl) rfl ?_
    refine WO.s0 (v' := .d (.str a0.fNetwork)) rfl rfl (fun _ => rfl) rfl ?_
    refine bind_elim h (fun x3 hx3 h => ?_)
    refine WO.catG hx3 rfl rfl rfl rfl rfl ?_
    refine WO.s0 (v' := .ptr 16 1) rfl rfl (fun _ => rfl) rfl ?_
    refine WO.s0 (v' := .d (.str a0.fStation)) rfl rfl (fun _ => rfl) rfl ?_
    refine bind_elim h (fun x4 hx4 h => ?_)
    refine WO.catG hx4 rfl rfl rfl rfl rfl ?_
    refine bind_elim h (fun x5 hx5 h => ?_)
    refine WO.catG hx5 rfl rfl rfl rfl rfl ?_
    refine WO.s0 (v' := .ptr 16 2) rfl rfl (fun _ => rfl) rfl ?_
    refine WO.s0 (v' := .d (.str a0.fLocation)) rfl rfl (fun _ => rfl) rfl ?_
    refine bind_elim h (fun x6 hx6 h => ?_)
    refine WO.catG hx6 rfl rfl rfl rfl rfl ?_
    refine bind_elim h (fun x7 hx7 h => ?_)
    refine WO.catG hx7 rfl rfl rfl rfl rfl ?_
    refine WO.s0 (v' := .ptr 16 3) rfl rfl (fun _ => rfl) rfl ?_
    refine WO.s0 (v' := .d (.str a0.fChannel)) rfl rfl (fun _ => rfl) rfl ?_
    refine bind_elim h (fun x8 hx8 h => ?_)
    refine WO.catG hx8 rfl rfl rfl rfl rfl ?_
    refine WO.s0 (v' := .d (.str x8)) rfl rfl (fun _ => rfl) rfl ?_
    refine WO.s0 (v' := .d (.int .i64 0)) rfl rfl (fun _ => rfl) rfl ?_
    refine WO.nil ?_
    refine WC.ret ?_
    obtain rfl := Option.some.inj h
    exact WC.done rfl rfl rfl
theorem law03_pattern_ev {a1 : T_api_SourceID} {d0 : T_seismonetmade_Dice} {r : (List UInt8) × T_seismonetmade_Dice} (h : law03_pattern a1 d0 = some r) : EvP prog hints ext 19 [.ptr 0 0, .d (T_api_SourceID.pd a1)] [.var [.d (.lst (d0.fL.map (PD.int .i64))), .d (.int .i64 d0.fAt)]] (.d (.str r.1), [.var [.d (.lst (r.2.fL.map (PD.int .i64))), .d (.int .i64 r.2.fAt)]]) := by
  refine Ev.body rfl Tryd.func19 rfl (by kernel_rfl) ?_
  refine WC.regionSeq rfl rfl ?_
  refine WO.s1 (v := .ptr 48 0) (id := 48) (bx := .var [.d (.str a1.fNetwork), .d (.str a1.fStation), .d (.str a1.fLocation), .d (.str a1.fChannel)]) rfl rfl (fun _ => rfl) ?_
  refine WO.s0 (v' := .d (.str [])) rfl rfl (fun _ => rfl) rfl ?_
  refine WO.nil ?_
  refine WC.regionSeq rfl rfl ?_
  refine WO.s0 (v' := .ptr 48 0) rfl rfl (fun _ => rfl) rfl ?_
  refine WO.s0 (v' := .d (.str a1.fNetwork)) rfl rfl (fun _ => rfl) rfl ?_
  refine WO.s0 (v' := .ptr 48 1) rfl rfl (fun _ => rfl) rfl ?_
  refine WO.s0 (v' := .d (.str a1.fStation)) rfl rfl (fun _ => rfl) rfl ?_
  refine WO.s0 (v' := .ptr 48 2) rfl rfl (fun _ => rfl) rfl ?_
  refine WO.s0 (v' := .d (.str a1.fLocation)) rfl rfl (fun _ => rfl) rfl ?_
  refine WO.s0 (v' := .ptr 48 3) rfl rfl (fun _ => rfl) rfl ?_
  refine WO.s0 (v' := .d (.str a1.fChannel)) rfl rfl (fun _ => rfl) rfl ?_
  refine WO.s0 (v' := .d (.lst ([a1.fNetwork, a1.fStation, a1.fLocation, a1.fChannel].map PD.str))) rfl rfl (fun _ => rfl) rfl ?_
  refine WO.s0 (v' := .d (.lst ([a1.fNetwork, a1.fStation, a1.fLocation, a1.fChannel].map PD.str))) rfl rfl (fun _ => rfl) rfl ?_
  refine WO.nil ?_
  refine WC.regionSeq rfl rfl ?_
  refine WO.s0 (v' := .d (.str [])) rfl rfl (fun _ => rfl) rfl ?_
  refine WO.nil ?_
  refine WC.seq ?_
  refine WC.regionSeq rfl rfl ?_
  refine WO.s0 (v' := .d (.lst ([a1.fNetwork, a1.fStation, a1.fLocation, a1.fChannel].map PD.str))) rfl rfl (fun _ => rfl) rfl ?_
  refine WO.s0 (v' := .d (.int .i64 4)) rfl rfl (fun _ => rfl) rfl ?_
  refine WO.s0 (v' := .d (.int .i64 0)) rfl rfl (fun _ => rfl) rfl ?_
  refine WO.nil ?_
  refine WC.block (WC.loop ?_)
  refine WL.round ?_
  refine WC.regionSeq rfl rfl ?_
  refine WO.s0 (v' := .d (.bool true)) rfl rfl (fun _ => rfl) rfl ?_
  refine WO.nil ?_
  refine WC.seq ?_
  refine WC.condT rfl ?_
  refine WC.skip ?_
  refine WC.seq ?_
  refine WC.block ?_
  refine WC.regionSeq rfl rfl ?_
  refine WO.s0 (v' := .d (.int .i64 0)) rfl rfl (fun _ => rfl) rfl ?_
  refine WO.s0 (v' := .cptr [.str a1.fNetwork]) rfl rfl (fun _ => rfl) rfl ?_
  refine WO.s0 (v' := .d (.str a1.fNetwork)) rfl rfl (fun _ => rfl) rfl ?_
  refine WO.s0 (v' := .d (.int .i64 0)) rfl rfl (fun _ => rfl) rfl ?_
  refine WO.s0 (v' := .d (.str a1.fNetwork)) rfl rfl (fun _ => rfl) rfl ?_
  refine WO.nil ?_
  refine WC.join (α := (List UInt8) × (List Int) × Int) (fun x R' B' => ghosts prog 1 (A R' B') (hints.at_ 19 18) = some (A [(0, .ptr 0 0), (6, .d (.str [])), (7, .d (.int .i64 0)), (8, .d (.str x.1)), (19, .d (.lst ([a1.fNetwork, a1.fStation, a1.fLocation, a1.fChannel].map PD.str))), (20, .d (.int .i64 4)), (21, .d (.int .i64 0))] [(0, .var [.d (.lst (x.2.1.map (PD.int .i64))), .d (.int .i64 x.2.2)])])) (fun x => law03_pattern_k74 a1 x.1 x.2.1 x.2.2 = some r) ?_ ?_
  · refine WC.regionSeq rfl rfl ?_
    refine WO.s0 (v' := .ptr 0 0) rfl rfl (fun _ => rfl) rfl ?_
    refine bind_elim h (fun x75 hx75 h => ?_)
    refine WO.callR (v := .d (.int .i64 x75.1)) (u := [(0, .var [.d (.lst (x75.2.fL.map (PD.int .i64))), .d (.int .i64 x75.2.fAt)])]) rfl rfl (fun _ => rfl) rfl rfl rfl rfl rfl (Dice_Next_ev hx75) rfl rfl rfl rfl ?_
    refine WO.nil ?_
    refine WC.block ?_
    refine WC.regionSeq rfl rfl ?_
    refine ite_elim h (fun hb76 h => ?_) (fun hb76 h => ?_)
    · refine WO.s0 (v' := .d (.bool true)) rfl rfl (fun _ => rfl) (congrArg (fun b => RV.d (.bool b)) hb76) ?_
      refine WO.s0 (v' := .d (.bool true)) rfl rfl (fun _ => rfl) rfl ?_
      refine WO.nil ?_
      refine WC.condT rfl ?_
      refine WC.region rfl rfl ?_
      refine WO.s0 (v' := .d (.str [42])) rfl rfl (fun _ => rfl) rfl ?_
      refine WO.nil ?_
      exact ⟨([42], x75.2.fL, x75.2.fAt), rfl, h⟩
    · refine WO.s0 (v' := .d (.bool false)) rfl rfl (fun _ => rfl) (congrArg (fun b => RV.d (.bool b)) hb76) ?_
      refine WO.s0 (v' := .d (.bool false)) rfl rfl (fun _ => rfl) rfl ?_
      refine WO.nil ?_
      refine WC.condF rfl ?_
      refine WC.regionSeq rfl rfl ?_
      refine ite_elim h (fun hb77 h => ?_) (fun hb77 h => ?_)
      · refine WO.s0 (v' := .d (.bool true)) rfl rfl (fun _ => rfl) (congrArg (fun b => RV.d (.bool b)) hb77) ?_
        refine WO.s0 (v' := .d (.bool true)) rfl rfl (fun _ => rfl) rfl ?_
        refine WO.nil ?_
        refine WC.condT rfl ?_
        refine WC.regionSeq rfl rfl ?_
        refine WO.s0 (v' := .d (.str a1.fNetwork)) rfl rfl (fun _ => rfl) rfl ?_
        refine WO.s0 (v' := .d (.int .i64 (a1.fNetwork.length : Int))) rfl rfl (fun _ => rfl) rfl ?_
        refine ite_elim h (fun hb78 h => ?_) (fun hb78 h => ?_)
        · refine WO.s0 (v' := .d (.bool true)) rfl rfl (fun _ => rfl) (congrArg (fun b => RV.d (.bool b)) hb78) ?_
          refine WO.nil ?_
          refine WC.condT rfl ?_
          refine WC.regionSeq rfl rfl ?_
          refine WO.s0 (v' := .ptr 0 0) rfl rfl (fun _ => rfl) rfl ?_
          refine WO.s0 (v' := .d (.str a1.fNetwork)) rfl rfl (fun _ => rfl) rfl ?_
          refine WO.s0 (v' := .d (.int .i64 (a1.fNetwork.length : Int))) rfl rfl (fun _ => rfl) rfl ?_
          refine bind_elim h (fun x79 hx79 h => ?_)
          refine WO.callR (v := .d (.int .i64 x79.1)) (u := [(0, .var [.d (.lst (x79.2.fL.map (PD.int .i64))), .d (.int .i64 x79.2.fAt)])]) rfl rfl (fun _ => rfl) rfl rfl rfl rfl rfl (Dice_Next_ev hx79) rfl rfl rfl rfl ?_
          refine WO.s0 (v' := .d (.int .i64 x79.1)) rfl rfl (fun _ => rfl) rfl ?_
          refine WO.nil ?_
          refine WC.regionD rfl rfl ?_
          refine WO.s0 (v' := .d (.str a1.fNetwork)) rfl rfl (fun _ => rfl) rfl ?_
          refine WO.s0 (v' := .d (.int .i64 x79.1)) rfl rfl (fun _ => rfl) rfl ?_
          refine bind_elim h (fun x80 hx80 h => ?_)
          refine WO.cutG hx80 rfl rfl rfl rfl rfl rfl rfl rfl rfl ?_
          refine bind_elim h (fun x81 hx81 h => ?_)
          refine WO.catG hx81 rfl rfl rfl rfl rfl ?_
          refine WO.s0 (v' := .d (.str a1.fNetwork)) rfl rfl (fun _ => rfl) rfl ?_
          refine WO.s0 (v' := .d (.int .i64 x79.1)) rfl rfl (fun _ => rfl) rfl ?_
          refine WO.s0 (v' := .d (.int .i64 (IntKind.wrap .i64 (x79.1 + (1 : Int))))) rfl rfl (fun _ => rfl) rfl ?_
          refine bind_elim h (fun x82 hx82 h => ?_)
          refine WO.cutG hx82 rfl rfl rfl rfl rfl rfl rfl rfl rfl ?_
          refine bind_elim h (fun x83 hx83 h => ?_)
          refine WO.catG hx83 rfl rfl rfl rfl rfl ?_
          refine WO.s0 (v' := .d (.str x83)) rfl rfl (fun _ => rfl) rfl ?_
          refine WO.nil ⟨by kernel_rfl, ?_⟩
          exact ⟨(x83, x79.2.fL, x79.2.fAt), rfl, h⟩
        · refine WO.s0 (v' := .d (.bool false)) rfl rfl (fun _ => rfl) (congrArg (fun b => RV.d (.bool b)) hb78) ?_
          refine WO.nil ?_
          refine WC.condF rfl ?_
          refine WC.skip ?_
          exact ⟨(a1.fNetwork, x75.2.fL, x75.2.fAt), rfl, h⟩
      · refine WO.s0 (v' := .d (.bool false)) rfl rfl (fun _ => rfl) (congrArg (fun b => RV.d (.bool b)) hb77) ?_
        refine WO.s0 (v' := .d (.bool false)) rfl rfl (fun _ => rfl) rfl ?_
        refine WO.nil ?_
        refine WC.condF rfl ?_
        refine WC.regionSeq rfl rfl ?_
        refine ite_elim h (fun hb84 h => ?_) (fun hb84 h => ?_)
        · refine WO.s0 (v' := .d (.bool true)) rfl rfl (fun _ => rfl) (congrArg (fun b => RV.d (.bool b)) hb84) ?_
          refine WO.s0 (v' := .d (.bool true)) rfl rfl (fun _ => rfl) rfl ?_
          refine WO.nil ?_
          refine WC.condT rfl ?_
          refine WC.regionSeq rfl rfl ?_
          refine WO.s0 (v' := .d (.str a1.fNetwork)) rfl rfl (fun _ => rfl) rfl ?_
          refine WO.s0 (v' := .d (.int .i64 (a1.fNetwork.length : Int))) rfl rfl (fun _ => rfl) rfl ?_
          refine ite_elim h (fun hb85 h => ?_) (fun hb85 h => ?_)
          · refine WO.s0 (v' := .d (.bool true)) rfl rfl (fun _ => rfl) (congrArg (fun b => RV.d (.bool b)) hb85) ?_
            refine WO.nil ?_
            refine WC.condT rfl ?_
            refine WC.region rfl rfl ?_
            refine WO.s0 (v' := .d (.str a1.fNetwork)) rfl rfl (fun _ => rfl) rfl ?_
            refine WO.s0 (v' := .ptr 0 0) rfl rfl (fun _ => rfl) rfl ?_
            refine WO.s0 (v' := .d (.str a1.fNetwork)) rfl rfl (fun _ => rfl) rfl ?_
            refine WO.s0 (v' := .d (.int .i64 (a1.fNetwork.length : Int))) rfl rfl (fun _ => rfl) rfl ?_
            refine WO.s0 (v' := .d (.int .i64 (IntKind.wrap .i64 ((a1.fNetwork.length : Int) + (1 : Int))))) rfl rfl (fun _ => rfl) rfl ?_
            refine bind_elim h (fun x86 hx86 h => ?_)
            refine WO.callR (v := .d (.int .i64 x86.1)) (u := [(0, .var [.d (.lst (x86.2.fL.map (PD.int .i64))), .d (.int .i64 x86.2.fAt)])]) rfl rfl (fun _ => rfl) rfl rfl rfl rfl rfl (Dice_Next_ev hx86) rfl rfl rfl rfl ?_
            refine bind_elim h (fun x87 hx87 h => ?_)
            refine WO.cutG hx87 rfl rfl rfl rfl rfl rfl rfl rfl rfl ?_
            refine bind_elim h (fun x88 hx88 h => ?_)
            refine WO.catG hx88 rfl rfl rfl rfl rfl ?_
            refine WO.s0 (v' := .d (.str x88)) rfl rfl (fun _ => rfl) rfl ?_
            refine WO.nil ?_
            exact ⟨(x88, x86.2.fL, x86.2.fAt), rfl, h⟩
          · refine WO.s0 (v' := .d (.bool false)) rfl rfl (fun _ => rfl) (congrArg (fun b => RV.d (.bool b)) hb85) ?_
            refine WO.nil ?_
            refine WC.condF rfl ?_
            refine WC.skip ?_
            exact ⟨(a1.fNetwork, x75.2.fL, x75.2.fAt), rfl, h⟩
        · refine WO.s0 (v' := .d (.bool false)) rfl rfl (fun _ => rfl) (congrArg (fun b => RV.d (.bool b)) hb84) ?_
          refine WO.s0 (v' := .d (.bool false)) rfl rfl (fun _ => rfl) rfl ?_
          refine WO.nil ?_
          refine WC.condF rfl ?_
          refine WC.regionSeq rfl rfl ?_
          refine ite_elim h (fun hb89 h => ?_) (fun hb89 h => ?_)
          · refine WO.s0 (v' := .d (.bool true)) rfl rfl (fun _ => rfl) (congrArg (fun b => RV.d (.bool b)) hb89) ?_
            refine WO.s0 (v' := .d (.bool true)) rfl rfl (fun _ => rfl) rfl ?_
            refine WO.nil ?_
            refine WC.condT rfl ?_
            refine WC.region rfl rfl ?_
            refine WO.s0 (v' := .d (.lst ([[42, 42], [42, 85, 42], [97], [63, 63, 63], [70, 85, 82, 70, 85, 82, 70, 85, 82], [42, 63]].map PD.str))) rfl rfl (fun _ => rfl) rfl ?_
            refine WO.s0 (v' := .ptr 0 0) rfl rfl (fun _ => rfl) rfl ?_
            refine bind_elim h (fun x90 hx90 h => ?_)
            refine WO.callR (v := .d (.int .i64 x90.1)) (u := [(0, .var [.d (.lst (x90.2.fL.map (PD.int .i64))), .d (.int .i64 x90.2.fAt)])]) rfl rfl (fun _ => rfl) rfl rfl rfl rfl rfl (Dice_Next_ev hx90) rfl rfl rfl rfl ?_
            refine bind_elim h (fun x91 hx91 h => ?_)
            refine WO.elemG hx91 rfl rfl rfl rfl rfl rfl rfl rfl rfl ?_
            refine WO.s0 (v' := .d (.str x91)) rfl rfl (fun _ => rfl) rfl ?_
            refine WO.s0 (v' := .d (.str x91)) rfl rfl (fun _ => rfl) rfl ?_
            refine WO.nil ?_
            exact ⟨(x91, x90.2.fL, x90.2.fAt), rfl, h⟩
          · refine WO.s0 (v' := .d (.bool false)) rfl rfl (fun _ => rfl) (congrArg (fun b => RV.d (.bool b)) hb89) ?_
            refine WO.s0 (v' := .d (.bool false)) rfl rfl (fun _ => rfl) rfl ?_
            refine WO.nil ?_
            refine WC.condF rfl ?_
            refine WC.skip ?_
            exact ⟨(a1.fNetwork, x75.2.fL, x75.2.fAt), rfl, h⟩
  · rintro ⟨j1, j2, j3⟩ R' B' hI h
    refine WC.seq ?_
    refine WC.regionSeq hI rfl ?_
    refine WO.s0 (v' := .d (.int .i64 0)) rfl rfl (fun _ => rfl) rfl ?_
    refine WO.s0 (v' := .d (.bool false)) rfl rfl (fun _ => rfl) rfl ?_
    refine WO.nil ?_
    refine WC.condF rfl ?_
    refine WC.skip ?_
    refine WC.region rfl rfl ?_
    refine WO.s0 (v' := .d (.str [])) rfl rfl (fun _ => rfl) rfl ?_
    refine WO.s0 (v' := .d (.str j1)) rfl rfl (fun _ => rfl) rfl ?_
    refine bind_elim h (fun x4 hx4 h => ?_)
    refine WO.catG hx4 rfl rfl rfl rfl rfl ?_
    refine WO.s0 (v' := .d (.str x4)) rfl rfl (fun _ => rfl) rfl ?_
    refine WO.nil ?_
    refine WC.region rfl rfl ?_
    refine WO.s0 (v' := .d (.int .i64 1)) rfl rfl (fun _ => rfl) rfl ?_
    refine WO.s0 (v' := .d (.int .i64 1)) rfl rfl (fun _ => rfl) rfl ?_
    refine WO.nil ?_
    refine WL.round ?_
    refine WC.regionSeq rfl rfl ?_
    refine WO.s0 (v' := .d (.bool true)) rfl rfl (fun _ => rfl) rfl ?_
    refine WO.nil ?_
    refine WC.seq ?_
    refine WC.condT rfl ?_
    refine WC.skip ?_
    refine WC.seq ?_
    refine WC.block ?_
    refine WC.regionSeq rfl rfl ?_
    refine WO.s0 (v' := .d (.int .i64 1)) rfl rfl (fun _ => rfl) rfl ?_
    refine WO.s0 (v' := .cptr [.str a1.fStation]) rfl rfl (fun _ => rfl) rfl ?_
    refine WO.s0 (v' := .d (.str a1.fStation)) rfl rfl (fun _ => rfl) rfl ?_
    refine WO.s0 (v' := .d (.int .i64 1)) rfl rfl (fun _ => rfl) rfl ?_
    refine WO.s0 (v' := .d (.str a1.fStation)) rfl rfl (fun _ => rfl) rfl ?_
    refine WO.nil ?_
    refine WC.join (α := (List UInt8) × (List Int) × Int) (fun x R' B' => ghosts prog 1 (A R' B') (hints.at_ 19 18) = some (A [(0, .ptr 0 0), (6, .d (.str x4)), (7, .d (.int .i64 1)), (8, .d (.str x.1)), (19, .d (.lst ([a1.fNetwork, a1.fStation, a1.fLocation, a1.fChannel].map PD.str))), (20, .d (.int .i64 4)), (21, .d (.int .i64 1))] [(0, .var [.d (.lst (x.2.1.map (PD.int .i64))), .d (.int .i64 x.2.2)])])) (fun x => law03_pattern_k56 x4 a1 x.1 x.2.1 x.2.2 = some r) ?_ ?_
    · refine WC.regionSeq rfl rfl ?_
      refine WO.s0 (v' := .ptr 0 0) rfl rfl (fun _ => rfl) rfl ?_
      refine bind_elim h (fun x57 hx57 h => ?_)
      refine WO.callR (v := .d (.int .i64 x57.1)) (u := [(0, .var [.d (.lst (x57.2.fL.map (PD.int .i64))), .d (.int .i64 x57.2.fAt)])]) rfl rfl (fun _ => rfl) rfl rfl rfl rfl rfl (Dice_Next_ev hx57) rfl rfl rfl rfl ?_
      refine WO.nil ?_
      refine WC.block ?_
      refine WC.regionSeq rfl rfl ?_
      refine ite_elim h (fun hb58 h => ?_) (fun hb58 h => ?_)
      · refine WO.s0 (v' := .d (.bool true)) rfl rfl (fun _ => rfl) (congrArg (fun b => RV.d (.bool b)) hb58) ?_
        refine WO.s0 (v' := .d (.bool true)) rfl rfl (fun _ => rfl) rfl ?_
        refine WO.nil ?_
        refine WC.condT rfl ?_
        refine WC.region rfl rfl ?_
        refine WO.s0 (v' := .d (.str [42])) rfl rfl (fun _ => rfl) rfl ?_
        refine WO.nil ?_
        exact ⟨([42], x57.2.fL, x57.2.fAt), rfl, h⟩
      · refine WO.s0 (v' := .d (.bool false)) rfl rfl (fun _ => rfl) (congrArg (fun b => RV.d (.bool b)) hb58) ?_
        refine WO.s0 (v' := .d (.bool false)) rfl rfl (fun _ => rfl) rfl ?_
        refine WO.nil ?_
        refine WC.condF rfl ?_
        refine WC.regionSeq rfl rfl ?_
        refine ite_elim h (fun hb59 h => ?_) (fun hb59 h => ?_)
        · refine WO.s0 (v' := .d (.bool true)) rfl rfl (fun _ => rfl) (congrArg (fun b => RV.d (.bool b)) hb59) ?_
          refine WO.s0 (v' := .d (.bool true)) rfl rfl (fun _ => rfl) rfl ?_
          refine WO.nil ?_
          refine WC.condT rfl ?_
          refine WC.regionSeq rfl rfl ?_
          refine WO.s0 (v' := .d (.str a1.fStation)) rfl rfl (fun _ => rfl) rfl ?_
          refine WO.s0 (v' := .d (.int .i64 (a1.fStation.length : Int))) rfl rfl (fun _ => rfl) rfl ?_
          refine ite_elim h (fun hb60 h => ?_) (fun hb60 h => ?_)
          · refine WO.s0 (v' := .d (.bool true)) rfl rfl (fun _ => rfl) (congrArg (fun b => RV.d (.bool b)) hb60) ?_
            refine WO.nil ?_
            refine WC.condT rfl ?_
            refine WC.regionSeq rfl rfl ?_
            refine WO.s0 (v' := .ptr 0 0) rfl rfl (fun _ => rfl) rfl ?_
            refine WO.s0 (v' := .d (.str a1.fStation)) rfl rfl (fun _ => rfl) rfl ?_
            refine WO.s0 (v' := .d (.int .i64 (a1.fStation.length : Int))) rfl rfl (fun _ => rfl) rfl ?_
            refine bind_elim h (fun x61 hx61 h => ?_)
            refine WO.callR (v := .d (.int .i64 x61.1)) (u := [(0, .var [.d (.lst (x61.2.fL.map (PD.int .i64))), .d (.int .i64 x61.2.fAt)])]) rfl rfl (fun _ => rfl) rfl rfl rfl rfl rfl (Dice_Next_ev hx61) rfl rfl rfl rfl ?_
            refine WO.s0 (v' := .d (.int .i64 x61.1)) rfl rfl (fun _ => rfl) rfl ?_
            refine WO.nil ?_
            refine WC.regionD rfl rfl ?_
            refine WO.s0 (v' := .d (.str a1.fStation)) rfl rfl (fun _ => rfl) rfl ?_
            refine WO.s0 (v' := .d (.int .i64 x61.1)) rfl rfl (fun _ => rfl) rfl ?_
            refine bind_elim h (fun x62 hx62 h => ?_)
            refine WO.cutG hx62 rfl rfl rfl rfl rfl rfl rfl rfl rfl ?_
            refine bind_elim h (fun x63 hx63 h => ?_)
            refine WO.catG hx63 rfl rfl rfl rfl rfl ?_
            refine WO.s0 (v' := .d (.str a1.fStation)) rfl rfl (fun _ => rfl) rfl ?_
            refine WO.s0 (v' := .d (.int .i64 x61.1)) rfl rfl (fun _ => rfl) rfl ?_
            refine WO.s0 (v' := .d (.int .i64 (IntKind.wrap .i64 (x61.1 + (1 : Int))))) rfl rfl (fun _ => rfl) rfl ?_
            refine bind_elim h (fun x64 hx64 h => ?_)
            refine WO.cutG hx64 rfl rfl rfl rfl rfl rfl rfl rfl rfl ?_
            refine bind_elim h (fun x65 hx65 h => ?_)
            refine WO.catG hx65 rfl rfl rfl rfl rfl ?_
            refine WO.s0 (v' := .d (.str x65)) rfl rfl (fun _ => rfl) rfl ?_
            refine WO.nil ⟨by kernel_rfl, ?_⟩
            exact ⟨(x65, x61.2.fL, x61.2.fAt), rfl, h⟩
          · refine WO.s0 (v' := .d (.bool false)) rfl rfl (fun _ => rfl) (congrArg (fun b => RV.d (.bool b)) hb60) ?_
            refine WO.nil ?_
            refine WC.condF rfl ?_
            refine WC.skip ?_
            exact ⟨(a1.fStation, x57.2.fL, x57.2.fAt), rfl, h⟩
        · refine WO.s0 (v' := .d (.bool false)) rfl rfl (fun _ => rfl) (congrArg (fun b => RV.d (.bool b)) hb59) ?_
          refine WO.s0 (v' := .d (.bool false)) rfl rfl (fun _ => rfl) rfl ?_
          refine WO.nil ?_
          refine WC.condF rfl ?_
          refine WC.regionSeq rfl rfl ?_
          refine ite_elim h (fun hb66 h => ?_) (fun hb66 h => ?_)
          · refine WO.s0 (v' := .d (.bool true)) rfl rfl (fun _ => rfl) (congrArg (fun b => RV.d (.bool b)) hb66) ?_
            refine WO.s0 (v' := .d (.bool true)) rfl rfl (fun _ => rfl) rfl ?_
            refine WO.nil ?_
            refine WC.condT rfl ?_
            refine WC.regionSeq rfl rfl ?_
            refine WO.s0 (v' := .d (.str a1.fStation)) rfl rfl (fun _ => rfl) rfl ?_
            refine WO.s0 (v' := .d (.int .i64 (a1.fStation.length : Int))) rfl rfl (fun _ => rfl) rfl ?_
            refine ite_elim h (fun hb67 h => ?_) (fun hb67 h => ?_)
            · refine WO.s0 (v' := .d (.bool true)) rfl rfl (fun _ => rfl) (congrArg (fun b => RV.d (.bool b)) hb67) ?_
              refine WO.nil ?_
              refine WC.condT rfl ?_
              refine WC.region rfl rfl ?_
              refine WO.s0 (v' := .d (.str a1.fStation)) rfl rfl (fun _ => rfl) rfl ?_
              refine WO.s0 (v' := .ptr 0 0) rfl rfl (fun _ => rfl) rfl ?_
              refine WO.s0 (v' := .d (.str a1.fStation)) rfl rfl (fun _ => rfl) rfl ?_
              refine WO.s0 (v' := .d (.int .i64 (a1.fStation.length : Int))) rfl rfl (fun _ => rfl) rfl ?_
              refine WO.s0 (v' := .d (.int .i64 (IntKind.wrap .i64 ((a1.fStation.length : Int) + (1 : Int))))) rfl rfl (fun _ => rfl) rfl ?_
              refine bind_elim h (fun x68 hx68 h => ?_)
              refine WO.callR (v := .d (.int .i64 x68.1)) (u := [(0, .var [.d (.lst (x68.2.fL.map (PD.int .i64))), .d (.int .i64 x68.2.fAt)])]) rfl rfl (fun _ => rfl) rfl rfl rfl rfl rfl (Dice_Next_ev hx68) rfl rfl rfl rfl ?_
              refine bind_elim h (fun x69 hx69 h => ?_)
              refine WO.cutG hx69 rfl rfl rfl rfl rfl rfl rfl rfl rfl ?_
              refine bind_elim h (fun x70 hx70 h => ?_)
              refine WO.catG hx70 rfl rfl rfl rfl rfl ?_
              refine WO.s0 (v' := .d (.str x70)) rfl rfl (fun _ => rfl) rfl ?_
              refine WO.nil ?_
              exact ⟨(x70, x68.2.fL, x68.2.fAt), rfl, h⟩
            · refine WO.s0 (v' := .d (.bool false)) rfl rfl (fun _ => rfl) (congrArg (fun b => RV.d (.bool b)) hb67) ?_
              refine WO.nil ?_
              refine WC.condF rfl ?_
              refine WC.skip ?_
              exact ⟨(a1.fStation, x57.2.fL, x57.2.fAt), rfl, h⟩
          · refine WO.s0 (v' := .d (.bool false)) rfl rfl (fun _ => rfl) (congrArg (fun b => RV.d (.bool b)) hb66) ?_
            refine WO.s0 (v' := .d (.bool false)) rfl rfl (fun _ => rfl) rfl ?_
            refine WO.nil ?_
            refine WC.condF rfl ?_
            refine WC.regionSeq rfl rfl ?_
            refine ite_elim h (fun hb71 h => ?_) (fun hb71 h => ?_)
            · refine WO.s0 (v' := .d (.bool true)) rfl rfl (fun _ => rfl) (congrArg (fun b => RV.d (.bool b)) hb71) ?_
              refine WO.s0 (v' := .d (.bool true)) rfl rfl (fun _ => rfl) rfl ?_
              refine WO.nil ?_
              refine WC.condT rfl ?_
              refine WC.region rfl rfl ?_
              refine WO.s0 (v' := .d (.lst ([[42, 42], [42, 85, 42], [97], [63, 63, 63], [70, 85, 82, 70, 85, 82, 70, 85, 82], [42, 63]].map PD.str))) rfl rfl (fun _ => rfl) rfl ?_
              refine WO.s0 (v' := .ptr 0 0) rfl rfl (fun _ => rfl) rfl ?_
              refine bind_elim h (fun x72 hx72 h => ?_)
              refine WO.callR (v := .d (.int .i64 x72.1)) (u := [(0, .var [.d (.lst (x72.2.fL.map (PD.int .i64))), .d (.int .i64 x72.2.fAt)])]) rfl rfl (fun _ => rfl) rfl rfl rfl rfl rfl (Dice_Next_ev hx72) rfl rfl rfl rfl ?_
              refine bind_elim h (fun x73 hx73 h => ?_)
              refine WO.elemG hx73 rfl rfl rfl rfl rfl rfl rfl rfl rfl ?_
              refine WO.s0 (v' := .d (.str x73)) rfl rfl (fun _ => rfl) rfl ?_
              refine WO.s0 (v' := .d (.str x73)) rfl rfl (fun _ => rfl) rfl ?_
              refine WO.nil ?_
              exact ⟨(x73, x72.2.fL, x72.2.fAt), rfl, h⟩
            · refine WO.s0 (v' := .d (.bool false)) rfl rfl (fun _ => rfl) (congrArg (fun b => RV.d (.bool b)) hb71) ?_
              refine WO.s0 (v' := .d (.bool false)) rfl rfl (fun _ => rfl) rfl ?_
              refine WO.nil ?_
              refine WC.condF rfl ?_
              refine WC.skip ?_
              exact ⟨(a1.fStation, x57.2.fL, x57.2.fAt), rfl, h⟩
    · rintro ⟨j5, j6, j7⟩ R' B' hI h
      refine WC.seq ?_
      refine WC.regionSeq hI rfl ?_
      refine WO.s0 (v' := .d (.int .i64 1)) rfl rfl (fun _ => rfl) rfl ?_
      refine WO.s0 (v' := .d (.bool true)) rfl rfl (fun _ => rfl) rfl ?_
      refine WO.nil ?_
      refine WC.condT rfl ?_
      refine WC.region rfl rfl ?_
      refine WO.s0 (v' := .d (.str x4)) rfl rfl (fun _ => rfl) rfl ?_
      refine bind_elim h (fun x8 hx8 h => ?_)
      refine WO.catG hx8 rfl rfl rfl rfl rfl ?_
      refine WO.s0 (v' := .d (.str x8)) rfl rfl (fun _ => rfl) rfl ?_
      refine WO.nil ?_
      refine WC.region rfl rfl ?_
      refine WO.s0 (v' := .d (.str x8)) rfl rfl (fun _ => rfl) rfl ?_
      refine WO.s0 (v' := .d (.str j5)) rfl rfl (fun _ => rfl) rfl ?_
      refine bind_elim h (fun x9 hx9 h => ?_)
      refine WO.catG hx9 rfl rfl rfl rfl rfl ?_
      refine WO.s0 (v' := .d (.str x9)) rfl rfl (fun _ => rfl) rfl ?_
      refine WO.nil ?_
      refine WC.region rfl rfl ?_
      refine WO.s0 (v' := .d (.int .i64 2)) rfl rfl (fun _ => rfl) rfl ?_
      refine WO.s0 (v' := .d (.int .i64 2)) rfl rfl (fun _ => rfl) rfl ?_
      refine WO.nil ?_
      refine WL.round ?_
      refine WC.regionSeq rfl rfl ?_
      refine WO.s0 (v' := .d (.bool true)) rfl rfl (fun _ => rfl) rfl ?_
      refine WO.nil ?_
      refine WC.seq ?_
      refine WC.condT rfl ?_
      refine WC.skip ?_
      refine WC.seq ?_
      refine WC.block ?_
      refine WC.regionSeq rfl rfl ?_
      refine WO.s0 (v' := .d (.int .i64 2)) rfl rfl (fun _ => rfl) rfl ?_
      refine WO.s0 (v' := .cptr [.str a1.fLocation]) rfl rfl (fun _ => rfl) rfl ?_
      refine WO.s0 (v' := .d (.str a1.fLocation)) rfl rfl (fun _ => rfl) rfl ?_
      refine WO.s0 (v' := .d (.int .i64 2)) rfl rfl (fun _ => rfl) rfl ?_
      refine WO.s0 (v' := .d (.str a1.fLocation)) rfl rfl (fun _ => rfl) rfl ?_
      refine WO.nil ?_
      refine WC.join (α := (List UInt8) × (List Int) × Int) (fun x R' B' => ghosts prog 1 (A R' B') (hints.at_ 19 18) = some (A [(0, .ptr 0 0), (6, .d (.str x9)), (7, .d (.int .i64 2)), (8, .d (.str x.1)), (19, .d (.lst ([a1.fNetwork, a1.fStation, a1.fLocation, a1.fChannel].map PD.str))), (20, .d (.int .i64 4)), (21, .d (.int .i64 2))] [(0, .var [.d (.lst (x.2.1.map (PD.int .i64))), .d (.int .i64 x.2.2)])])) (fun x => law03_pattern_k38 x9 a1 x.1 x.2.1 x.2.2 = some r) ?_ ?_
      · refine WC.regionSeq rfl rfl ?_
        refine WO.s0 (v' := .ptr 0 0) rfl rfl (fun _ => rfl) rfl ?_
        refine bind_elim h (fun x39 hx39 h => ?_)
        refine WO.callR (v := .d (.int .i64 x39.1)) (u := [(0, .var [.d (.lst (x39.2.fL.map (PD.int .i64))), .d (.int .i64 x39.2.fAt)])]) rfl rfl (fun _ => rfl) rfl rfl rfl rfl rfl (Dice_Next_ev hx39) rfl rfl rfl rfl ?_
        refine WO.nil ?_
        refine WC.block ?_
        refine WC.regionSeq rfl rfl ?_
        refine ite_elim h (fun hb40 h => ?_) (fun hb40 h => ?_)
        · refine WO.s0 (v' := .d (.bool true)) rfl rfl (fun _ => rfl) (congrArg (fun b => RV.d (.bool b)) hb40) ?_
          refine WO.s0 (v' := .d (.bool true)) rfl rfl (fun _ => rfl) rfl ?_
          refine WO.nil ?_
          refine WC.condT rfl ?_
          refine WC.region rfl rfl ?_
          refine WO.s0 (v' := .d (.str [42])) rfl rfl (fun _ => rfl) rfl ?_
          refine WO.nil ?_
          exact ⟨([42], x39.2.fL, x39.2.fAt), rfl, h⟩
        · refine WO.s0 (v' := .d (.bool false)) rfl rfl (fun _ => rfl) (congrArg (fun b => RV.d (.bool b)) hb40) ?_
          refine WO.s0 (v' := .d (.bool false)) rfl rfl (fun _ => rfl) rfl ?_
          refine WO.nil ?_
          refine WC.condF rfl ?_
          refine WC.regionSeq rfl rfl ?_
          refine ite_elim h (fun hb41 h => ?_) (fun hb41 h => ?_)
          · refine WO.s0 (v' := .d (.bool true)) rfl rfl (fun _ => rfl) (congrArg (fun b => RV.d (.bool b)) hb41) ?_
            refine WO.s0 (v' := .d (.bool true)) rfl rfl (fun _ => rfl) rfl ?_
            refine WO.nil ?_
            refine WC.condT rfl ?_
            refine WC.regionSeq rfl rfl ?_
            refine WO.s0 (v' := .d (.str a1.fLocation)) rfl rfl (fun _ => rfl) rfl ?_
            refine WO.s0 (v' := .d (.int .i64 (a1.fLocation.length : Int))) rfl rfl (fun _ => rfl) rfl ?_
            refine ite_elim h (fun hb42 h => ?_) (fun hb42 h => ?_)
            · refine WO.s0 (v' := .d (.bool true)) rfl rfl (fun _ => rfl) (congrArg (fun b => RV.d (.bool b)) hb42) ?_
              refine WO.nil ?_
              refine WC.condT rfl ?_
              refine WC.regionSeq rfl rfl ?_
              refine WO.s0 (v' := .ptr 0 0) rfl rfl (fun _ => rfl) rfl ?_
              refine WO.s0 (v' := .d (.str a1.fLocation)) rfl rfl (fun _ => rfl) rfl ?_
              refine WO.s0 (v' := .d (.int .i64 (a1.fLocation.length : Int))) rfl rfl (fun _ => rfl) rfl ?_
              refine bind_elim h (fun x43 hx43 h => ?_)
              refine WO.callR (v := .d (.int .i64 x43.1)) (u := [(0, .var [.d (.lst (x43.2.fL.map (PD.int .i64))), .d (.int .i64 x43.2.fAt)])]) rfl rfl (fun _ => rfl) rfl rfl rfl rfl rfl (Dice_Next_ev hx43) rfl rfl rfl rfl ?_
              refine WO.s0 (v' := .d (.int .i64 x43.1)) rfl rfl (fun _ => rfl) rfl ?_
              refine WO.nil ?_
              refine WC.regionD rfl rfl ?_
              refine WO.s0 (v' := .d (.str a1.fLocation)) rfl rfl (fun _ => rfl) rfl ?_
              refine WO.s0 (v' := .d (.int .i64 x43.1)) rfl rfl (fun _ => rfl) rfl ?_
              refine bind_elim h (fun x44 hx44 h => ?_)
              refine WO.cutG hx44 rfl rfl rfl rfl rfl rfl rfl rfl rfl ?_
              refine bind_elim h (fun x45 hx45 h => ?_)
              refine WO.catG hx45 rfl rfl rfl rfl rfl ?_
              refine WO.s0 (v' := .d (.str a1.fLocation)) rfl rfl (fun _ => rfl) rfl ?_
              refine WO.s0 (v' := .d (.int .i64 x43.1)) rfl rfl (fun _ => rfl) rfl ?_
              refine WO.s0 (v' := .d (.int .i64 (IntKind.wrap .i64 (x43.1 + (1 : Int))))) rfl rfl (fun _ => rfl) rfl ?_
              refine bind_elim h (fun x46 hx46 h => ?_)
              refine WO.cutG hx46 rfl rfl rfl rfl rfl rfl rfl rfl rfl ?_
              refine bind_elim h (fun x47 hx47 h => ?_)
              refine WO.catG hx47 rfl rfl rfl rfl rfl ?_
              refine WO.s0 (v' := .d (.str x47)) rfl rfl (fun _ => rfl) rfl ?_
              refine WO.nil ⟨by kernel_rfl, ?_⟩
              exact ⟨(x47, x43.2.fL, x43.2.fAt), rfl, h⟩
            · refine WO.s0 (v' := .d (.bool false)) rfl rfl (fun _ => rfl) (congrArg (fun b => RV.d (.bool b)) hb42) ?_
              refine WO.nil ?_
              refine WC.condF rfl ?_
              refine WC.skip ?_
              exact ⟨(a1.fLocation, x39.2.fL, x39.2.fAt), rfl, h⟩
          · refine WO.s0 (v' := .d (.bool false)) rfl rfl (fun _ => rfl) (congrArg (fun b => RV.d (.bool b)) hb41) ?_
            refine WO.s0 (v' := .d (.bool false)) rfl rfl (fun _ => rfl) rfl ?_
            refine WO.nil ?_
            refine WC.condF rfl ?_
            refine WC.regionSeq rfl rfl ?_
            refine ite_elim h (fun hb48 h => ?_) (fun hb48 h => ?_)
            · refine WO.s0 (v' := .d (.bool true)) rfl rfl (fun _ => rfl) (congrArg (fun b => RV.d (.bool b)) hb48) ?_
              refine WO.s0 (v' := .d (.bool true)) rfl rfl (fun _ => rfl) rfl ?_
              refine WO.nil ?_
              refine WC.condT rfl ?_
              refine WC.regionSeq rfl rfl ?_
              refine WO.s0 (v' := .d (.str a1.fLocation)) rfl rfl (fun _ => rfl) rfl ?_
              refine WO.s0 (v' := .d (.int .i64 (a1.fLocation.length : Int))) rfl rfl (fun _ => rfl) rfl ?_
              refine ite_elim h (fun hb49 h => ?_) (fun hb49 h => ?_)
              · refine WO.s0 (v' := .d (.bool true)) rfl rfl (fun _ => rfl) (congrArg (fun b => RV.d (.bool b)) hb49) ?_
                refine WO.nil ?_
                refine WC.condT rfl ?_
                refine WC.region rfl rfl ?_
                refine WO.s0 (v' := .d (.str a1.fLocation)) rfl rfl (fun _ => rfl) rfl ?_
                refine WO.s0 (v' := .ptr 0 0) rfl rfl (fun _ => rfl) rfl ?_
                refine WO.s0 (v' := .d (.str a1.fLocation)) rfl rfl (fun _ => rfl) rfl ?_
                refine WO.s0 (v' := .d (.int .i64 (a1.fLocation.length : Int))) rfl rfl (fun _ => rfl) rfl ?_
                refine WO.s0 (v' := .d (.int .i64 (IntKind.wrap .i64 ((a1.fLocation.length : Int) + (1 : Int))))) rfl rfl (fun _ => rfl) rfl ?_
                refine bind_elim h (fun x50 hx50 h => ?_)
                refine WO.callR (v := .d (.int .i64 x50.1)) (u := [(0, .var [.d (.lst (x50.2.fL.map (PD.int .i64))), .d (.int .i64 x50.2.fAt)])]) rfl rfl (fun _ => rfl) rfl rfl rfl rfl rfl (Dice_Next_ev hx50) rfl rfl rfl rfl ?_
                refine bind_elim h (fun x51 hx51 h => ?_)
                refine WO.cutG hx51 rfl rfl rfl rfl rfl rfl rfl rfl rfl ?_
                refine bind_elim h (fun x52 hx52 h => ?_)
                refine WO.catG hx52 rfl rfl rfl rfl rfl ?_
                refine WO.s0 (v' := .d (.str x52)) rfl rfl (fun _ => rfl) rfl ?_
                refine WO.nil ?_
                exact ⟨(x52, x50.2.fL, x50.2.fAt), rfl, h⟩
              · refine WO.s0 (v' := .d (.bool false)) rfl rfl (fun _ => rfl) (congrArg (fun b => RV.d (.bool b)) hb49) ?_
                refine WO.nil ?_
                refine WC.condF rfl ?_
                refine WC.skip ?_
                exact ⟨(a1.fLocation, x39.2.fL, x39.2.fAt), rfl, h⟩
            · refine WO.s0 (v' := .d (.bool false)) rfl rfl (fun _ => rfl) (congrArg (fun b => RV.d (.bool b)) hb48) ?_
              refine WO.s0 (v' := .d (.bool false)) rfl rfl (fun _ => rfl) rfl ?_
              refine WO.nil ?_
              refine WC.condF rfl ?_
              refine WC.regionSeq rfl rfl ?_
              refine ite_elim h (fun hb53 h => ?_) (fun hb53 h => ?_)
              · refine WO.s0 (v' := .d (.bool true)) rfl rfl (fun _ => rfl) (congrArg (fun b => RV.d (.bool b)) hb53) ?_
                refine WO.s0 (v' := .d (.bool true)) rfl rfl (fun _ => rfl) rfl ?_
                refine WO.nil ?_
                refine WC.condT rfl ?_
                refine WC.region rfl rfl ?_
                refine WO.s0 (v' := .d (.lst ([[42, 42], [42, 85, 42], [97], [63, 63, 63], [70, 85, 82, 70, 85, 82, 70, 85, 82], [42, 63]].map PD.str))) rfl rfl (fun _ => rfl) rfl ?_
                refine WO.s0 (v' := .ptr 0 0) rfl rfl (fun _ => rfl) rfl ?_
                refine bind_elim h (fun x54 hx54 h => ?_)
                refine WO.callR (v := .d (.int .i64 x54.1)) (u := [(0, .var [.d (.lst (x54.2.fL.map (PD.int .i64))), .d (.int .i64 x54.2.fAt)])]) rfl rfl (fun _ => rfl) rfl rfl rfl rfl rfl (Dice_Next_ev hx54) rfl rfl rfl rfl ?_
                refine bind_elim h (fun x55 hx55 h => ?_)
                refine WO.elemG hx55 rfl rfl rfl rfl rfl rfl rfl rfl rfl ?_
                refine WO.s0 (v' := .d (.str x55)) rfl rfl (fun _ => rfl) rfl ?_
                refine WO.s0 (v' := .d (.str x55)) rfl rfl (fun _ => rfl) rfl ?_
                refine WO.nil ?_
                exact ⟨(x55, x54.2.fL, x54.2.fAt), rfl, h⟩
              · refine WO.s0 (v' := .d (.bool false)) rfl rfl (fun _ => rfl) (congrArg (fun b => RV.d (.bool b)) hb53) ?_
                refine WO.s0 (v' := .d (.bool false)) rfl rfl (fun _ => rfl) rfl ?_
                refine WO.nil ?_
                refine WC.condF rfl ?_
                refine WC.skip ?_
                exact ⟨(a1.fLocation, x39.2.fL, x39.2.fAt), rfl, h⟩
      · rintro ⟨j10, j11, j12⟩ R' B' hI h
        refine WC.seq ?_
        refine WC.regionSeq hI rfl ?_
        refine WO.s0 (v' := .d (.int .i64 2)) rfl rfl (fun _ => rfl) rfl ?_
        refine WO.s0 (v' := .d (.bool true)) rfl rfl (fun _ => rfl) rfl ?_
        refine WO.nil ?_
        refine WC.condT rfl ?_
        refine WC.region rfl rfl ?_
        refine WO.s0 (v' := .d (.str x9)) rfl rfl (fun _ => rfl) rfl ?_
        refine bind_elim h (fun x13 hx13 h => ?_)
        refine WO.catG hx13 rfl rfl rfl rfl rfl ?_
        refine WO.s0 (v' := .d (.str x13)) rfl rfl (fun _ => rfl) rfl ?_
        refine WO.nil ?_
        refine WC.region rfl rfl ?_
        refine WO.s0 (v' := .d (.str x13)) rfl rfl (fun _ => rfl) rfl ?_
        refine WO.s0 (v' := .d (.str j10)) rfl rfl (fun _ => rfl) rfl ?_
        refine bind_elim h (fun x14 hx14 h => ?_)
        refine WO.catG hx14 rfl rfl rfl rfl rfl ?_
        refine WO.s0 (v' := .d (.str x14)) rfl rfl (fun _ => rfl) rfl ?_
        refine WO.nil ?_
        refine WC.region rfl rfl ?_
        refine WO.s0 (v' := .d (.int .i64 3)) rfl rfl (fun _ => rfl) rfl ?_
        refine WO.s0 (v' := .d (.int .i64 3)) rfl rfl (fun _ => rfl) rfl ?_
        refine WO.nil ?_
        refine WL.round ?_
        refine WC.regionSeq rfl rfl ?_
        refine WO.s0 (v' := .d (.bool true)) rfl rfl (fun _ => rfl) rfl ?_
        refine WO.nil ?_
        refine WC.seq ?_
        refine WC.condT rfl ?_
        refine WC.skip ?_
        refine WC.seq ?_
        refine WC.block ?_
        refine WC.regionSeq rfl rfl ?_
        refine WO.s0 (v' := .d (.int .i64 3)) rfl rfl (fun _ => rfl) rfl ?_
        refine WO.s0 (v' := .cptr [.str a1.fChannel]) rfl rfl (fun _ => rfl) rfl ?_
        refine WO.s0 (v' := .d (.str a1.fChannel)) rfl rfl (fun _ => rfl) rfl ?_
        refine WO.s0 (v' := .d (.int .i64 3)) rfl rfl (fun _ => rfl) rfl ?_
        refine WO.s0 (v' := .d (.str a1.fChannel)) rfl rfl (fun _ => rfl) rfl ?_
        refine WO.nil ?_
        refine WC.join (α := (List UInt8) × (List Int) × Int) (fun x R' B' => ghosts prog 1 (A R' B') (hints.at_ 19 18) = some (A [(0, .ptr 0 0), (6, .d (.str x14)), (7, .d (.int .i64 3)), (8, .d (.str x.1)), (19, .d (.lst ([a1.fNetwork, a1.fStation, a1.fLocation, a1.fChannel].map PD.str))), (20, .d (.int .i64 4)), (21, .d (.int .i64 3))] [(0, .var [.d (.lst (x.2.1.map (PD.int .i64))), .d (.int .i64 x.2.2)])])) (fun x => law03_pattern_k20 x14 x.1 x.2.1 x.2.2 = some r) ?_ ?_
        · refine WC.regionSeq rfl rfl ?_
          refine WO.s0 (v' := .ptr 0 0) rfl rfl (fun _ => rfl) rfl ?_
          refine bind_elim h (fun x21 hx21 h => ?_)
          refine WO.callR (v := .d (.int .i64 x21.1)) (u := [(0, .var [.d (.lst (x21.2.fL.map (PD.int .i64))), .d (.int .i64 x21.2.fAt)])]) rfl rfl (fun _ => rfl) rfl rfl rfl rfl rfl (Dice_Next_ev hx21) rfl rfl rfl rfl ?_
          refine WO.nil ?_
          refine WC.block ?_
          refine WC.regionSeq rfl rfl ?_
          refine ite_elim h (fun hb22 h => ?_) (fun hb22 h => ?_)
          · refine WO.s0 (v' := .d (.bool true)) rfl rfl (fun _ => rfl) (congrArg (fun b => RV.d (.bool b)) hb22) ?_
            refine WO.s0 (v' := .d (.bool true)) rfl rfl (fun _ => rfl) rfl ?_
            refine WO.nil ?_
            refine WC.condT rfl ?_
            refine WC.region rfl rfl ?_
            refine WO.s0 (v' := .d (.str [42])) rfl rfl (fun _ => rfl) rfl ?_
            refine WO.nil ?_
            exact ⟨([42], x21.2.fL, x21.2.fAt), rfl, h⟩
          · refine WO.s0 (v' := .d (.bool false)) rfl rfl (fun _ => rfl) (congrArg (fun b => RV.d (.bool b)) hb22) ?_
            refine WO.s0 (v' := .d (.bool false)) rfl rfl (fun _ => rfl) rfl ?_
            refine WO.nil ?_
            refine WC.condF rfl ?_
            refine WC.regionSeq rfl rfl ?_
            refine ite_elim h (fun hb23 h => ?_) (fun hb23 h => ?_)
            · refine WO.s0 (v' := .d (.bool true)) rfl rfl (fun _ => rfl) (congrArg (fun b => RV.d (.bool b)) hb23) ?_
              refine WO.s0 (v' := .d (.bool true)) rfl rfl (fun _ => rfl) rfl ?_
              refine WO.nil ?_
              refine WC.condT rfl ?_
              refine WC.regionSeq rfl rfl ?_
              refine WO.s0 (v' := .d (.str a1.fChannel)) rfl rfl (fun _ => rfl) rfl ?_
              refine WO.s0 (v' := .d (.int .i64 (a1.fChannel.length : Int))) rfl rfl (fun _ => rfl) rfl ?_
              refine ite_elim h (fun hb24 h => ?_) (fun hb24 h => ?_)
              · refine WO.s0 (v' := .d (.bool true)) rfl rfl (fun _ => rfl) (congrArg (fun b => RV.d (.bool b)) hb24) ?_
                refine WO.nil ?_
                refine WC.condT rfl ?_
                refine WC.regionSeq rfl rfl ?_
                refine WO.s0 (v' := .ptr 0 0) rfl rfl (fun _ => rfl) rfl ?_
                refine WO.s0 (v' := .d (.str a1.fChannel)) rfl rfl (fun _ => rfl) rfl ?_
                refine WO.s0 (v' := .d (.int .i64 (a1.fChannel.length : Int))) rfl rfl (fun _ => rfl) rfl ?_
                refine bind_elim h (fun x25 hx25 h => ?_)
                refine WO.callR (v := .d (.int .i64 x25.1)) (u := [(0, .var [.d (.lst (x25.2.fL.map (PD.int .i64))), .d (.int .i64 x25.2.fAt)])]) rfl rfl (fun _ => rfl) rfl rfl rfl rfl rfl (Dice_Next_ev hx25) rfl rfl rfl rfl ?_
                refine WO.s0 (v' := .d (.int .i64 x25.1)) rfl rfl (fun _ => rfl) rfl ?_
                refine WO.nil ?_
                refine WC.regionD rfl rfl ?_
                refine WO.s0 (v' := .d (.str a1.fChannel)) rfl rfl (fun _ => rfl) rfl ?_
                refine WO.s0 (v' := .d (.int .i64 x25.1)) rfl rfl (fun _ => rfl) rfl ?_
                refine bind_elim h (fun x26 hx26 h => ?_)
                refine WO.cutG hx26 rfl rfl rfl rfl rfl rfl rfl rfl rfl ?_
                refine bind_elim h (fun x27 hx27 h => ?_)
                refine WO.catG hx27 rfl rfl rfl rfl rfl ?_
                refine WO.s0 (v' := .d (.str a1.fChannel)) rfl rfl (fun _ => rfl) rfl ?_
                refine WO.s0 (v' := .d (.int .i64 x25.1)) rfl rfl (fun _ => rfl) rfl ?_
                refine WO.s0 (v' := .d (.int .i64 (IntKind.wrap .i64 (x25.1 + (1 : Int))))) rfl rfl (fun _ => rfl) rfl ?_
                refine bind_elim h (fun x28 hx28 h => ?_)
                refine WO.cutG hx28 rfl rfl rfl rfl rfl rfl rfl rfl rfl ?_
                refine bind_elim h (fun x29 hx29 h => ?_)
                refine WO.catG hx29 rfl rfl rfl rfl rfl ?_
                refine WO.s0 (v' := .d (.str x29)) rfl rfl (fun _ => rfl) rfl ?_
                refine WO.nil ⟨by kernel_rfl, ?_⟩
                exact ⟨(x29, x25.2.fL, x25.2.fAt), rfl, h⟩
              · refine WO.s0 (v' := .d (.bool false)) rfl rfl (fun _ => rfl) (congrArg (fun b => RV.d (.bool b)) hb24) ?_
                refine WO.nil ?_
                refine WC.condF rfl ?_
                refine WC.skip ?_
                exact ⟨(a1.fChannel, x21.2.fL, x21.2.fAt), rfl, h⟩
            · refine WO.s0 (v' := .d (.bool false)) rfl rfl (fun _ => rfl) (congrArg (fun b => RV.d (.bool b)) hb23) ?_
              refine WO.s0 (v' := .d (.bool false)) rfl rfl (fun _ => rfl) rfl ?_
              refine WO.nil ?_
              refine WC.condF rfl ?_
              refine WC.regionSeq rfl rfl ?_
              refine ite_elim h (fun hb30 h => ?_) (fun hb30 h => ?_)
              · refine WO.s0 (v' := .d (.bool true)) rfl rfl (fun _ => rfl) (congrArg (fun b => RV.d (.bool b)) hb30) ?_
                refine WO.s0 (v' := .d (.bool true)) rfl rfl (fun _ => rfl) rfl ?_
                refine WO.nil ?_
                refine WC.condT rfl ?_
                refine WC.regionSeq rfl rfl ?_
                refine WO.s0 (v' := .d (.str a1.fChannel)) rfl rfl (fun _ => rfl) rfl ?_
                refine WO.s0 (v' := .d (.int .i64 (a1.fChannel.length : Int))) rfl rfl (fun _ => rfl) rfl ?_
                refine ite_elim h (fun hb31 h => ?_) (fun hb31 h => ?_)
                · refine WO.s0 (v' := .d (.bool true)) rfl rfl (fun _ => rfl) (congrArg (fun b => RV.d (.bool b)) hb31) ?_
                  refine WO.nil ?_
                  refine WC.condT rfl ?_
                  refine WC.region rfl rfl ?_
                  refine WO.s0 (v' := .d (.str a1.fChannel)) rfl rfl (fun _ => rfl) rfl ?_
                  refine WO.s0 (v' := .ptr 0 0) rfl rfl (fun _ => rfl) rfl ?_
                  refine WO.s0 (v' := .d (.str a1.fChannel)) rfl rfl (fun _ => rfl) rfl ?_
                  refine WO.s0 (v' := .d (.int .i64 (a1.fChannel.length : Int))) rfl rfl (fun _ => rfl) rfl ?_
                  refine WO.s0 (v' := .d (.int .i64 (IntKind.wrap .i64 ((a1.fChannel.length : Int) + (1 : Int))))) rfl rfl (fun _ => rfl) rfl ?_
                  refine bind_elim h (fun x32 hx32 h => ?_)
                  refine WO.callR (v := .d (.int .i64 x32.1)) (u := [(0, .var [.d (.lst (x32.2.fL.map (PD.int .i64))), .d (.int .i64 x32.2.fAt)])]) rfl rfl (fun _ => rfl) rfl rfl rfl rfl rfl (Dice_Next_ev hx32) rfl rfl rfl rfl ?_
                  refine bind_elim h (fun x33 hx33 h => ?_)
                  refine WO.cutG hx33 rfl rfl rfl rfl rfl rfl rfl rfl rfl ?_
                  refine bind_elim h (fun x34 hx34 h => ?_)
                  refine WO.catG hx34 rfl rfl rfl rfl rfl ?_
                  refine WO.s0 (v' := .d (.str x34)) rfl rfl (fun _ => rfl) rfl ?_
                  refine WO.nil ?_
                  exact ⟨(x34, x32.2.fL, x32.2.fAt), rfl, h⟩
                · refine WO.s0 (v' := .d (.bool false)) rfl rfl (fun _ => rfl) (congrArg (fun b => RV.d (.bool b)) hb31) ?_
                  refine WO.nil ?_
                  refine WC.condF rfl ?_
                  refine WC.skip ?_
                  exact ⟨(a1.fChannel, x21.2.fL, x21.2.fAt), rfl, h⟩
              · refine WO.s0 (v' := .d (.bool false)) rfl rfl (fun _ => rfl) (congrArg (fun b => RV.d (.bool b)) hb30) ?_
                refine WO.s0 (v' := .d (.bool false)) rfl rfl (fun _ => rfl) rfl ?_
                refine WO.nil ?_
                refine WC.condF rfl ?_
                refine WC.regionSeq rfl rfl ?_
                refine ite_elim h (fun hb35 h => ?_) (fun hb35 h => ?_)
                · refine WO.s0 (v' := .d (.bool true)) rfl rfl (fun _ => rfl) (congrArg (fun b => RV.d (.bool b)) hb35) ?_
                  refine WO.s0 (v' := .d (.bool true)) rfl rfl (fun _ => rfl) rfl ?_
                  refine WO.nil ?_
                  refine WC.condT rfl ?_
                  refine WC.region rfl rfl ?_
                  refine WO.s0 (v' := .d (.lst ([[42, 42], [42, 85, 42], [97], [63, 63, 63], [70, 85, 82, 70, 85, 82, 70, 85, 82], [42, 63]].map PD.str))) rfl rfl (fun _ => rfl) rfl ?_
                  refine WO.s0 (v' := .ptr 0 0) rfl rfl (fun _ => rfl) rfl ?_
                  refine bind_elim h (fun x36 hx36 h => ?_)
                  refine WO.callR (v := .d (.int .i64 x36.1)) (u := [(0, .var [.d (.lst (x36.2.fL.map (PD.int .i64))), .d (.int .i64 x36.2.fAt)])]) rfl rfl (fun _ => rfl) rfl rfl rfl rfl rfl (Dice_Next_ev hx36) rfl rfl rfl rfl ?_
                  refine bind_elim h (fun x37 hx37 h => ?_)
                  refine WO.elemG hx37 rfl rfl rfl rfl rfl rfl rfl rfl rfl ?_
                  refine WO.s0 (v' := .d (.str x37)) rfl rfl (fun _ => rfl) rfl ?_
                  refine WO.s0 (v' := .d (.str x37)) rfl rfl (fun _ => rfl) rfl ?_
                  refine WO.nil ?_
                  exact ⟨(x37, x36.2.fL, x36.2.fAt), rfl, h⟩
                · refine WO.s0 (v' := .d (.bool false)) rfl rfl (fun _ => rfl) (congrArg (fun b => RV.d (.bool b)) hb35) ?_
                  refine WO.s0 (v' := .d (.bool false)) rfl rfl (fun _ => rfl) rfl ?_
                  refine WO.nil ?_
                  refine WC.condF rfl ?_
                  refine WC.skip ?_
                  exact ⟨(a1.fChannel, x21.2.fL, x21.2.fAt), rfl, h⟩
        · rintro ⟨j15, j16, j17⟩ R' B' hI h
          refine WC.seq ?_
          refine WC.regionSeq hI rfl ?_
          refine WO.s0 (v' := .d (.int .i64 3)) rfl rfl (fun _ => rfl) rfl ?_
          refine WO.s0 (v' := .d (.bool true)) rfl rfl (fun _ => rfl) rfl ?_
          refine WO.nil ?_
          refine WC.condT rfl ?_
          refine WC.region rfl rfl ?_
          refine WO.s0 (v' := .d (.str x14)) rfl rfl (fun _ => rfl) rfl ?_
          refine bind_elim h (fun x18 hx18 h => ?_)
          refine WO.catG hx18 rfl rfl rfl rfl rfl ?_
          refine WO.s0 (v' := .d (.str x18)) rfl rfl (fun _ => rfl) rfl ?_
          refine WO.nil ?_
          refine WC.region rfl rfl ?_
          refine WO.s0 (v' := .d (.str x18)) rfl rfl (fun _ => rfl) rfl ?_
          refine WO.s0 (v' := .d (.str j15)) rfl rfl (fun _ => rfl) rfl ?_
          refine bind_elim h (fun x19 hx19 h => ?_)
          refine WO.catG hx19 rfl rfl rfl rfl rfl ?_
          refine WO.s0 (v' := .d (.str x19)) rfl rfl (fun _ => rfl) rfl ?_
          refine WO.nil ?_
          refine WC.region rfl rfl ?_
          refine WO.s0 (v' := .d (.int .i64 4)) rfl rfl (fun _ => rfl) rfl ?_
          refine WO.s0 (v' := .d (.int .i64 4)) rfl rfl (fun _ => rfl) rfl ?_
          refine WO.nil ?_
          refine WL.round ?_
          refine WC.regionSeq rfl rfl ?_
          refine WO.s0 (v' := .d (.bool false)) rfl rfl (fun _ => rfl) rfl ?_
          refine WO.nil ?_
          refine WC.seq ?_
          refine WC.condF rfl ?_
          refine WC.exit ?_
          refine ⟨fun _ => ?_, fun hne => (hne rfl).elim⟩
          refine WC.regionSeq rfl rfl ?_
          refine WO.s0 (v' := .d (.str x19)) rfl rfl (fun _ => rfl) rfl ?_
          refine WO.s0 (v' := .d (.str x19)) rfl rfl (fun _ => rfl) rfl ?_
          refine WO.nil ?_
          refine WC.ret ?_
          obtain rfl := Option.some.inj h
          exact WC.done rfl rfl rfl
theorem ref03_Split_ev {a0 : (List UInt8)} {a1 : Int} {r : (List (List UInt8))} (h : ref03_Split a0 a1 = some r) : EvP prog hints ext 45 [.d (.str a0), .d (.int .u8 a1)] [] (.ref 0 0, [.arr 0 9 (r.map PD.str)]) := by
  refine Ev.body rfl Tryd.func45 rfl (by kernel_rfl) ?_
  refine WC.regionSeq rfl rfl ?_
  refine WO.s0 (v' := .nils) rfl rfl (fun _ => rfl) rfl ?_
  refine WO.nil ?_
  refine WC.regionSeq rfl rfl ?_
  refine WO.s1 (v := .ref 112 0) (id := 112) (bx := .arr 0 9 ([[]].map PD.str)) rfl rfl (fun _ => rfl) ?_
  refine WO.s0 (v' := .ref 112 0) rfl rfl (fun _ => rfl) rfl ?_
  refine WO.nil ?_
  refine WC.seq ?_
  refine WC.regionSeq rfl rfl ?_
  refine WO.s0 (v' := .d (.int .i64 0)) rfl rfl (fun _ => rfl) rfl ?_
  refine WO.nil ?_
  refine bind_elim h (fun o18 ho18 h => ?_)
  refine WC.block (WC.loop (WL.ofLoop ho18 (fun s R' B' => ghosts prog 0 (A R' B') (hints.at_ 45 3) = some (A [(0, .d (.str a0)), (1, .d (.int .u8 a1)), (5, .ref 112 0), (6, .d (.int .i64 s.1))] [(112, .arr 0 9 (s.2.map PD.str))])) (fun o e R' B' => e = .exit 0 ∧ ghosts prog 0 (A R' B') (hints.at_ 45 8) = some (A [(5, .ref 112 0)] [(112, .arr 0 9 (o.map PD.str))])) rfl ?_ ?_))
  · rintro ⟨s1, s2⟩ R' B' q4 hI h
    refine WC.seq ?_
    refine WC.regionSeq hI rfl ?_
    refine WO.s0 (v' := .d (.int .i64 s1)) rfl rfl (fun _ => rfl) rfl ?_
    refine WO.s0 (v' := .d (.str a0)) rfl rfl (fun _ => rfl) rfl ?_
    refine WO.s0 (v' := .d (.int .i64 (a0.length : Int))) rfl rfl (fun _ => rfl) rfl ?_
    refine ite_elim h (fun hb5 h => ?_) (fun hb5 h => ?_)
    · refine WO.s0 (v' := .d (.bool true)) rfl rfl (fun _ => rfl) (congrArg (fun b => RV.d (.bool b)) hb5) ?_
      refine WO.nil ?_
      refine WC.condT rfl ?_
      refine WC.skip ?_
      refine WC.seq ?_
      refine WC.block ?_
      refine WC.regionSeq rfl rfl ?_
      refine WO.s0 (v' := .d (.str a0)) rfl rfl (fun _ => rfl) rfl ?_
      refine WO.s0 (v' := .d (.int .i64 s1)) rfl rfl (fun _ => rfl) rfl ?_
      refine bind_elim h (fun x6 hx6 h => ?_)
      refine WO.byteG hx6 rfl rfl rfl rfl rfl rfl ?_
      refine WO.s0 (v' := .d (.int .u8 a1)) rfl rfl (fun _ => rfl) rfl ?_
      refine ite_elim h (fun hb7 h => ?_) (fun hb7 h => ?_)
      · refine WO.s0 (v' := .d (.bool true)) rfl rfl (fun _ => rfl) (congrArg (fun b => RV.d (.bool b)) hb7) ?_
        refine WO.nil ?_
        refine WC.condT rfl ?_
        refine WC.region rfl rfl ?_
        refine WO.s0 (v' := .ref 112 0) rfl rfl (fun _ => rfl) rfl ?_
        refine WO.s0 (v' := .d (.lst ([[]].map PD.str))) rfl rfl (fun _ => rfl) rfl ?_
        refine bind_elim h (fun x8 hx8 h => ?_)
        refine WO.appR hx8 (fun _ => rfl) rfl rfl rfl rfl rfl rfl rfl rfl rfl rfl rfl rfl rfl rfl ?_
        refine WO.s0 (v' := .ref 112 1) rfl rfl (fun _ => rfl) rfl ?_
        refine WO.nil ?_
        refine WC.region rfl rfl ?_
        refine WO.s0 (v' := .d (.int .i64 s1)) rfl rfl (fun _ => rfl) rfl ?_
        refine WO.s0 (v' := .d (.int .i64 (IntKind.wrap .i64 (s1 + (1 : Int))))) rfl rfl (fun _ => rfl) rfl ?_
        refine WO.s0 (v' := .d (.int .i64 (IntKind.wrap .i64 (s1 + (1 : Int))))) rfl rfl (fun _ => rfl) rfl ?_
        refine WO.nil ?_
        obtain rfl := Option.some.inj h
        exact ⟨rfl, rfl⟩
      · refine WO.s0 (v' := .d (.bool false)) rfl rfl (fun _ => rfl) (congrArg (fun b => RV.d (.bool b)) hb7) ?_
        refine WO.nil ?_
        refine WC.condF rfl ?_
        refine WC.regionD rfl rfl ?_
        refine WO.s0 (v' := .ref 112 0) rfl rfl (fun _ => rfl) rfl ?_
        refine WO.s0 (v' := .ref 112 0) rfl rfl (fun _ => rfl) rfl ?_
        refine WO.lenR rfl rfl rfl rfl rfl rfl rfl rfl rfl ?_
        refine WO.s0 (v' := .d (.int .i64 (IntKind.wrap .i64 ((s2.length : Int) - (1 : Int))))) rfl rfl (fun _ => rfl) rfl ?_
        refine bind_elim h (fun x10 hx10 h => ?_)
        refine WO.eltG hx10 rfl rfl rfl rfl rfl rfl rfl rfl ?_
        refine bind_elim h (fun x11 hx11 h => ?_)
        refine WO.loadE hx11 rfl rfl rfl rfl rfl rfl ?_
        refine WO.s0 (v' := .d (.str a0)) rfl rfl (fun _ => rfl) rfl ?_
        refine WO.s0 (v' := .d (.int .i64 s1)) rfl rfl (fun _ => rfl) rfl ?_
        refine WO.s0 (v' := .d (.int .i64 s1)) rfl rfl (fun _ => rfl) rfl ?_
        refine WO.s0 (v' := .d (.int .i64 (IntKind.wrap .i64 (s1 + (1 : Int))))) rfl rfl (fun _ => rfl) rfl ?_
        refine bind_elim h (fun x12 hx12 h => ?_)
        refine WO.cutG hx12 rfl rfl rfl rfl rfl rfl rfl rfl rfl ?_
        refine bind_elim h (fun x13 hx13 h => ?_)
        refine WO.catG hx13 rfl rfl rfl rfl rfl ?_
        refine bind_elim h (fun x15 hx15 h => ?_)
        refine WO.eltG hx15 rfl rfl rfl rfl rfl rfl rfl rfl ?_
        refine bind_elim h (fun x16 hx16 h => ?_)
        refine WO.storeE (g := PD.str) hx16 (fun _ => rfl) (fun _ => rfl) rfl rfl rfl rfl rfl rfl rfl rfl rfl ?_
        refine WO.nil ⟨by kernel_rfl, ?_⟩
        refine WC.region rfl rfl ?_
        refine WO.s0 (v' := .d (.int .i64 s1)) rfl rfl (fun _ => rfl) rfl ?_
        refine WO.s0 (v' := .d (.int .i64 (IntKind.wrap .i64 (s1 + (1 : Int))))) rfl rfl (fun _ => rfl) rfl ?_
        refine WO.s0 (v' := .d (.int .i64 (IntKind.wrap .i64 (s1 + (1 : Int))))) rfl rfl (fun _ => rfl) rfl ?_
        refine WO.nil ?_
        obtain rfl := Option.some.inj h
        exact ⟨rfl, rfl⟩
    · refine WO.s0 (v' := .d (.bool false)) rfl rfl (fun _ => rfl) (congrArg (fun b => RV.d (.bool b)) hb5) ?_
      refine WO.nil ?_
      refine WC.condF rfl ?_
      refine WC.exit ?_
      obtain rfl := Option.some.inj h
      exact ⟨(fun he => by cases he), rfl, rfl⟩
  · intro e R' B' he hq
    obtain ⟨rfl, hI⟩ := hq
    refine ⟨fun _ => ?_, fun hne => (hne rfl).elim⟩
    refine WC.regionSeq hI rfl ?_
    refine WO.s0 (v' := .ref 112 0) rfl rfl (fun _ => rfl) rfl ?_
    refine WO.s0 (v' := .ref 112 0) rfl rfl (fun _ => rfl) rfl ?_
    refine WO.nil ?_
    refine WC.ret ?_
    obtain rfl := Option.some.inj h
    exact WC.done rfl rfl rfl
theorem ref03_parts_ev {a0 : (List UInt8)} {r : (List (List UInt8)) × Bool} (h : ref03_parts a0 = some r) : EvP prog hints ext 40 [.d (.str a0)] [] (.tup [.d (.lst (r.1.map PD.str)), .d (.bool r.2)], []) := by
  refine Ev.body rfl Tryd.func40 rfl (by kernel_rfl) ?_
  refine WC.regionSeq rfl rfl ?_
  refine WO.s0 (v' := .nils) rfl rfl (fun _ => rfl) rfl ?_
  refine WO.s0 (v' := .d (.bool false)) rfl rfl (fun _ => rfl) rfl ?_
  refine WO.nil ?_
  refine WC.regionSeq rfl rfl ?_
  refine WO.s0 (v' := .d (.str a0)) rfl rfl (fun _ => rfl) rfl ?_
  refine bind_elim h (fun x1 hx1 h => ?_)
  refine WO.callR (v := .ref 144 0) (u := [(144, .arr 0 9 (x1.map PD.str))]) rfl rfl (fun _ => rfl) rfl rfl rfl rfl rfl (ref03_Split_ev hx1) rfl rfl rfl rfl ?_
  refine WO.s0 (v' := .ref 144 0) rfl rfl (fun _ => rfl) rfl ?_
  refine WO.nil ?_
  refine WC.seq ?_
  refine WC.regionSeq rfl rfl ?_
  refine WO.s0 (v' := .ref 144 0) rfl rfl (fun _ => rfl) rfl ?_
  refine WO.lenR rfl rfl rfl rfl rfl rfl rfl rfl rfl ?_
  refine ite_elim h (fun hb2 h => ?_) (fun hb2 h => ?_)
  · refine WO.s0 (v' := .d (.bool true)) rfl rfl (fun _ => rfl) (congrArg (fun b => RV.d (.bool b)) hb2) ?_
    refine WO.nil ?_
    refine WC.condT rfl ?_
    refine WC.regionSeq rfl rfl ?_
    refine WO.s0 (v' := .nils) rfl rfl (fun _ => rfl) rfl ?_
    refine WO.s0 (v' := .d (.bool false)) rfl rfl (fun _ => rfl) rfl ?_
    refine WO.nil ?_
    refine WC.ret ?_
    obtain rfl := Option.some.inj h
    exact WC.done rfl rfl rfl
  · refine WO.s0 (v' := .d (.bool false)) rfl rfl (fun _ => rfl) (congrArg (fun b => RV.d (.bool b)) hb2) ?_
    refine WO.nil ?_
    refine WC.condF rfl ?_
    refine WC.skip ?_
    refine WC.seq ?_
    refine WC.regionSeq rfl rfl ?_
    refine WO.s0 (v' := .d (.int .i64 0)) rfl rfl (fun _ => rfl) rfl ?_
    refine WO.nil ?_
    refine bind_elim h (fun o39 ho39 h => ?_)
    refine WC.block (WC.loop (WL.ofLoop ho39 (fun s R' B' => ghosts prog 0 (A R' B') (hints.at_ 40 5) = some (A [(4, .ref 144 0), (5, .d (.int .i64 s))] [(144, .arr 0 9 (x1.map PD.str))])) (fun o e R' B' => match o with | .inl y => e = .exit 0 ∧ ghosts prog 0 (A R' B') (hints.at_ 40 15) = some (A [(4, .ref 144 0)] [(144, .arr 0 9 (x1.map PD.str))]) | .inr r => e = .ret ∧ finish prog (hints.own 40) Tryd.f40 0 (A R' B') = some (.tup [.d (.lst (r.1.map PD.str)), .d (.bool r.2)], [])) rfl ?_ ?_))
    · rintro s3 R' B' q4 hI h
      refine WC.seq ?_
      refine WC.regionSeq hI rfl ?_
      refine WO.s0 (v' := .d (.int .i64 s3)) rfl rfl (fun _ => rfl) rfl ?_
      refine ite_elim h (fun hb5 h => ?_) (fun hb5 h => ?_)
      · refine WO.s0 (v' := .d (.bool true)) rfl rfl (fun _ => rfl) (congrArg (fun b => RV.d (.bool b)) hb5) ?_
        refine WO.nil ?_
        refine WC.condT rfl ?_
        refine WC.skip ?_
        refine WC.seq ?_
        refine WC.block ?_
        refine WC.regionSeq rfl rfl ?_
        refine WO.s0 (v' := .d (.str [])) rfl rfl (fun _ => rfl) rfl ?_
        refine WO.nil ?_
        refine WC.seq ?_
        refine WC.regionSeq rfl rfl ?_
        refine WO.s0 (v' := .d (.int .i64 0)) rfl rfl (fun _ => rfl) rfl ?_
        refine WO.nil ?_
        refine bind_elim h (fun o31 ho31 h => ?_)
        refine WC.block (WC.loop (WL.ofLoop ho31 (fun s R' B' => ghosts prog 0 (A R' B') (hints.at_ 40 9) = some (A [(4, .ref 144 0), (5, .d (.int .i64 s3)), (6, .d (.str s.1)), (7, .d (.int .i64 s.2))] [(144, .arr 0 9 (x1.map PD.str))])) (fun o e R' B' => e = .exit 2 ∧ ghosts prog 0 (A R' B') (hints.at_ 40 13) = some (A [(4, .ref 144 0), (5, .d (.int .i64 o.1)), (6, .d (.str o.2))] [(144, .arr 0 9 (x1.map PD.str))])) rfl ?_ ?_))
        · rintro ⟨s6, s7⟩ R' B' q10 hI h
          refine WC.seq ?_
          refine WC.regionSeq hI rfl ?_
          refine WO.s0 (v' := .d (.int .i64 s7)) rfl rfl (fun _ => rfl) rfl ?_
          refine WO.s0 (v' := .ref 144 0) rfl rfl (fun _ => rfl) rfl ?_
          refine WO.s0 (v' := .d (.int .i64 s3)) rfl rfl (fun _ => rfl) rfl ?_
          refine bind_elim h (fun x12 hx12 h => ?_)
          refine WO.eltG hx12 rfl rfl rfl rfl rfl rfl rfl rfl ?_
          refine bind_elim h (fun x13 hx13 h => ?_)
          refine WO.loadE hx13 rfl rfl rfl rfl rfl rfl ?_
          refine WO.s0 (v' := .d (.int .i64 (x13.length : Int))) rfl rfl (fun _ => rfl) rfl ?_
          refine ite_elim h (fun hb14 h => ?_) (fun hb14 h => ?_)
          · refine WO.s0 (v' := .d (.bool true)) rfl rfl (fun _ => rfl) (congrArg (fun b => RV.d (.bool b)) hb14) ?_
            refine WO.nil ?_
            refine WC.condT rfl ?_
            refine WC.skip ?_
            refine WC.seq ?_
            refine WC.block ?_
            refine WC.regionSeq rfl rfl ?_
            refine WO.s0 (v' := .ref 144 0) rfl rfl (fun _ => rfl) rfl ?_
            refine WO.s0 (v' := .d (.int .i64 s3)) rfl rfl (fun _ => rfl) rfl ?_
            refine bind_elim h (fun x16 hx16 h => ?_)
            refine WO.eltG hx16 rfl rfl rfl rfl rfl rfl rfl rfl ?_
            refine bind_elim h (fun x17 hx17 h => ?_)
            refine WO.loadE hx17 rfl rfl rfl rfl rfl rfl ?_
            refine WO.s0 (v' := .d (.int .i64 s7)) rfl rfl (fun _ => rfl) rfl ?_
            refine bind_elim h (fun x18 hx18 h => ?_)
            refine WO.byteG hx18 rfl rfl rfl rfl rfl rfl ?_
            refine ite_elim h (fun hb19 h => ?_) (fun hb19 h => ?_)
            · refine WO.s0 (v' := .d (.bool true)) rfl rfl (fun _ => rfl) (congrArg (fun b => RV.d (.bool b)) hb19) ?_
              refine WO.s0 (v' := .d (.bool true)) rfl rfl (fun _ => rfl) rfl ?_
              refine WO.s0 (v' := .ref 144 0) rfl rfl (fun _ => rfl) rfl ?_
              refine WO.s0 (v' := .d (.int .i64 s3)) rfl rfl (fun _ => rfl) rfl ?_
              refine bind_elim h (fun x21 hx21 h => ?_)
              refine WO.eltG hx21 rfl rfl rfl rfl rfl rfl rfl rfl ?_
              refine bind_elim h (fun x22 hx22 h => ?_)
              refine WO.loadE hx22 rfl rfl rfl rfl rfl rfl ?_
              refine WO.s0 (v' := .d (.int .i64 s7)) rfl rfl (fun _ => rfl) rfl ?_
              refine bind_elim h (fun x23 hx23 h => ?_)
              refine WO.byteG hx23 rfl rfl rfl rfl rfl rfl ?_
              refine WO.s0 (v' := .d (.bool (x23 != (63 : Int)))) rfl rfl (fun _ => rfl) rfl ?_
              refine ite_elim h (fun hb24 h => ?_) (fun hb24 h => ?_)
              · refine WO.s0 (v' := .d (.bool true)) rfl rfl (fun _ => rfl) (congrArg (fun b => RV.d (.bool b)) hb24) ?_
                refine WO.nil ?_
                refine WC.condT rfl ?_
                refine WC.region rfl rfl ?_
                refine WO.s0 (v' := .d (.str s6)) rfl rfl (fun _ => rfl) rfl ?_
                refine WO.s0 (v' := .ref 144 0) rfl rfl (fun _ => rfl) rfl ?_
                refine WO.s0 (v' := .d (.int .i64 s3)) rfl rfl (fun _ => rfl) rfl ?_
                refine bind_elim h (fun x26 hx26 h => ?_)
                refine WO.eltG hx26 rfl rfl rfl rfl rfl rfl rfl rfl ?_
                refine bind_elim h (fun x27 hx27 h => ?_)
                refine WO.loadE hx27 rfl rfl rfl rfl rfl rfl ?_
                refine WO.s0 (v' := .d (.int .i64 s7)) rfl rfl (fun _ => rfl) rfl ?_
                refine WO.s0 (v' := .d (.int .i64 s7)) rfl rfl (fun _ => rfl) rfl ?_
                refine WO.s0 (v' := .d (.int .i64 (IntKind.wrap .i64 (s7 + (1 : Int))))) rfl rfl (fun _ => rfl) rfl ?_
                refine bind_elim h (fun x28 hx28 h => ?_)
                refine WO.cutG hx28 rfl rfl rfl rfl rfl rfl rfl rfl rfl ?_
                refine bind_elim h (fun x29 hx29 h => ?_)
                refine WO.catG hx29 rfl rfl rfl rfl rfl ?_
                refine WO.s0 (v' := .d (.str x29)) rfl rfl (fun _ => rfl) rfl ?_
                refine WO.nil ?_
                refine WC.region rfl rfl ?_
                refine WO.s0 (v' := .d (.int .i64 s7)) rfl rfl (fun _ => rfl) rfl ?_
                refine WO.s0 (v' := .d (.int .i64 (IntKind.wrap .i64 (s7 + (1 : Int))))) rfl rfl (fun _ => rfl) rfl ?_
                refine WO.s0 (v' := .d (.int .i64 (IntKind.wrap .i64 (s7 + (1 : Int))))) rfl rfl (fun _ => rfl) rfl ?_
                refine WO.nil ?_
                obtain rfl := Option.some.inj h
                exact ⟨rfl, rfl⟩
              · refine WO.s0 (v' := .d (.bool false)) rfl rfl (fun _ => rfl) (congrArg (fun b => RV.d (.bool b)) hb24) ?_
                refine WO.nil ?_
                refine WC.condF rfl ?_
                refine WC.skip ?_
                refine WC.region rfl rfl ?_
                refine WO.s0 (v' := .d (.int .i64 s7)) rfl rfl (fun _ => rfl) rfl ?_
                refine WO.s0 (v' := .d (.int .i64 (IntKind.wrap .i64 (s7 + (1 : Int))))) rfl rfl (fun _ => rfl) rfl ?_
                refine WO.s0 (v' := .d (.int .i64 (IntKind.wrap .i64 (s7 + (1 : Int))))) rfl rfl (fun _ => rfl) rfl ?_
                refine WO.nil ?_
                obtain rfl := Option.some.inj h
                exact ⟨rfl, rfl⟩
            · refine WO.s0 (v' := .d (.bool false)) rfl rfl (fun _ => rfl) (congrArg (fun b => RV.d (.bool b)) hb19) ?_
              refine WO.s0 (v' := .d (.bool false)) rfl rfl (fun _ => rfl) rfl ?_
              refine WO.skip rfl rfl ?_
              refine WO.skip rfl rfl ?_
              refine WO.skip rfl rfl ?_
              refine WO.skip rfl rfl ?_
              refine WO.skip rfl rfl ?_
              refine WO.skip rfl rfl ?_
              refine WO.skip rfl rfl ?_
              refine WO.s0 (v' := .d (.bool false)) rfl rfl (fun _ => rfl) rfl ?_
              refine WO.nil ?_
              refine WC.condF rfl ?_
              refine WC.skip ?_
              refine WC.region rfl rfl ?_
              refine WO.s0 (v' := .d (.int .i64 s7)) rfl rfl (fun _ => rfl) rfl ?_
              refine WO.s0 (v' := .d (.int .i64 (IntKind.wrap .i64 (s7 + (1 : Int))))) rfl rfl (fun _ => rfl) rfl ?_
              refine WO.s0 (v' := .d (.int .i64 (IntKind.wrap .i64 (s7 + (1 : Int))))) rfl rfl (fun _ => rfl) rfl ?_
              refine WO.nil ?_
              obtain rfl := Option.some.inj h
              exact ⟨rfl, rfl⟩
          · refine WO.s0 (v' := .d (.bool false)) rfl rfl (fun _ => rfl) (congrArg (fun b => RV.d (.bool b)) hb14) ?_
            refine WO.nil ?_
            refine WC.condF rfl ?_
            refine WC.exit ?_
            obtain rfl := Option.some.inj h
            exact ⟨(fun he => by cases he), rfl, rfl⟩
        · intro e R' B' he hq
          obtain ⟨rfl, hI⟩ := hq
          refine ⟨fun _ => ?_, fun hne => (hne rfl).elim⟩
          refine WC.regionSeq hI rfl ?_
          refine WO.s0 (v' := .ref 144 0) rfl rfl (fun _ => rfl) rfl ?_
          refine WO.s0 (v' := .d (.int .i64 o31.1)) rfl rfl (fun _ => rfl) rfl ?_
          refine bind_elim h (fun x33 hx33 h => ?_)
          refine WO.eltG hx33 rfl rfl rfl rfl rfl rfl rfl rfl ?_
          refine bind_elim h (fun x34 hx34 h => ?_)
          refine WO.loadE hx34 rfl rfl rfl rfl rfl rfl ?_
          refine WO.s0 (v' := .d (.int .i64 (x34.length : Int))) rfl rfl (fun _ => rfl) rfl ?_
          refine ite_elim h (fun hb35 h => ?_) (fun hb35 h => ?_)
          · refine WO.s0 (v' := .d (.bool true)) rfl rfl (fun _ => rfl) (congrArg (fun b => RV.d (.bool b)) hb35) ?_
            refine WO.s0 (v' := .d (.bool true)) rfl rfl (fun _ => rfl) rfl ?_
            refine WO.skip rfl rfl ?_
            refine WO.skip rfl rfl ?_
            refine WO.skip rfl rfl ?_
            refine WO.s0 (v' := .d (.bool true)) rfl rfl (fun _ => rfl) rfl ?_
            refine WO.nil ?_
            refine WC.condT rfl ?_
            refine WC.regionSeq rfl rfl ?_
            refine WO.s0 (v' := .nils) rfl rfl (fun _ => rfl) rfl ?_
            refine WO.s0 (v' := .d (.bool false)) rfl rfl (fun _ => rfl) rfl ?_
            refine WO.nil ?_
            refine WC.ret ?_
            obtain rfl := Option.some.inj h
            exact ⟨(fun he => by cases he), rfl, rfl⟩
          · refine WO.s0 (v' := .d (.bool false)) rfl rfl (fun _ => rfl) (congrArg (fun b => RV.d (.bool b)) hb35) ?_
            refine WO.s0 (v' := .d (.bool false)) rfl rfl (fun _ => rfl) rfl ?_
            refine WO.s0 (v' := .d (.str o31.2)) rfl rfl (fun _ => rfl) rfl ?_
            refine bind_elim h (fun x36 hx36 h => ?_)
            refine WO.callR (v := .d (.bool x36)) (u := []) rfl rfl (fun _ => rfl) rfl rfl rfl rfl rfl (ref03_code_ev hx36) rfl rfl rfl rfl ?_
            refine WO.s0 (v' := .d (.bool (!x36))) rfl rfl (fun _ => rfl) rfl ?_
            refine ite_elim h (fun hb37 h => ?_) (fun hb37 h => ?_)
            · refine WO.s0 (v' := .d (.bool true)) rfl rfl (fun _ => rfl) (congrArg (fun b => RV.d (.bool b)) hb37) ?_
              refine WO.nil ?_
              refine WC.condT rfl ?_
              refine WC.regionSeq rfl rfl ?_
              refine WO.s0 (v' := .nils) rfl rfl (fun _ => rfl) rfl ?_
              refine WO.s0 (v' := .d (.bool false)) rfl rfl (fun _ => rfl) rfl ?_
              refine WO.nil ?_
              refine WC.ret ?_
              obtain rfl := Option.some.inj h
              exact ⟨(fun he => by cases he), rfl, rfl⟩
            · refine WO.s0 (v' := .d (.bool false)) rfl rfl (fun _ => rfl) (congrArg (fun b => RV.d (.bool b)) hb37) ?_
              refine WO.nil ?_
              refine WC.condF rfl ?_
              refine WC.skip ?_
              refine WC.region rfl rfl ?_
              refine WO.s0 (v' := .d (.int .i64 o31.1)) rfl rfl (fun _ => rfl) rfl ?_
              refine WO.s0 (v' := .d (.int .i64 (IntKind.wrap .i64 (o31.1 + (1 : Int))))) rfl rfl (fun _ => rfl) rfl ?_
              refine WO.s0 (v' := .d (.int .i64 (IntKind.wrap .i64 (o31.1 + (1 : Int))))) rfl rfl (fun _ => rfl) rfl ?_
              refine WO.nil ?_
              obtain rfl := Option.some.inj h
              exact ⟨rfl, rfl⟩
      · refine WO.s0 (v' := .d (.bool false)) rfl rfl (fun _ => rfl) (congrArg (fun b => RV.d (.bool b)) hb5) ?_
        refine WO.nil ?_
        refine WC.condF rfl ?_
        refine WC.exit ?_
        obtain rfl := Option.some.inj h
        exact ⟨(fun he => by cases he), rfl, rfl⟩
    · intro e R' B' he hq
      rcases o39 with y40 | r41
      · obtain ⟨rfl, hI⟩ := hq
        refine ⟨fun _ => ?_, fun hne => (hne rfl).elim⟩
        refine WC.regionSeq hI rfl ?_
        refine WO.s0 (v' := .ref 144 0) rfl rfl (fun _ => rfl) rfl ?_
        refine WO.s0 (v' := .ref 144 0) rfl rfl (fun _ => rfl) rfl ?_
        refine WO.s0 (v' := .d (.bool true)) rfl rfl (fun _ => rfl) rfl ?_
        refine WO.nil ?_
        refine WC.ret ?_
        obtain rfl := Option.some.inj h
        exact WC.done rfl rfl rfl
      · obtain ⟨rfl, hf⟩ := hq
        obtain rfl := Option.some.inj h
        exact hf
theorem ref03_likeN_ev : ∀ (nfu : Nat) {a0 : (List UInt8)} {a1 : (List UInt8)} {r : Bool} (_ : ref03_likeN nfu a0 a1 = some r), EvP prog hints ext 55 [.d (.str a0), .d (.str a1)] [] (.d (.bool r), [])
  | 0, _, _,  _, h => by cases h
  | nfu + 1, a0, a1,  r, h => by
    refine Ev.body rfl Tryd.func55 rfl (by kernel_rfl) ?_
    refine WC.regionSeq rfl rfl ?_
    refine WO.s0 (v' := .d (.bool false)) rfl rfl (fun _ => rfl) rfl ?_
    refine WO.nil ?_
    refine WC.seq ?_
    refine WC.regionSeq rfl rfl ?_
    refine WO.s0 (v' := .d (.str a0)) rfl rfl (fun _ => rfl) rfl ?_
    refine ite_elim h (fun hb1 h => ?_) (fun hb1 h => ?_)
    · refine WO.s0 (v' := .d (.bool true)) rfl rfl (fun _ => rfl) (congrArg (fun b => RV.d (.bool b)) hb1) ?_
      refine WO.nil ?_
      refine WC.condT rfl ?_
      refine WC.regionSeq rfl rfl ?_
      refine WO.s0 (v' := .d (.str a1)) rfl rfl (fun _ => rfl) rfl ?_
      refine WO.s0 (v' := .d (.bool (a1 == []))) rfl rfl (fun _ => rfl) rfl ?_
      refine WO.s0 (v' := .d (.bool (a1 == []))) rfl rfl (fun _ => rfl) rfl ?_
      refine WO.nil ?_
      refine WC.ret ?_
      obtain rfl := Option.some.inj h
      exact WC.done rfl rfl rfl
    · refine WO.s0 (v' := .d (.bool false)) rfl rfl (fun _ => rfl) (congrArg (fun b => RV.d (.bool b)) hb1) ?_
      refine WO.nil ?_
      refine WC.condF rfl ?_
      refine WC.skip ?_
      refine WC.seq ?_
      refine WC.regionSeq rfl rfl ?_
      refine WO.s0 (v' := .d (.str a0)) rfl rfl (fun _ => rfl) rfl ?_
      refine bind_elim h (fun x2 hx2 h => ?_)
      refine WO.byteG hx2 rfl rfl rfl rfl rfl rfl ?_
      refine ite_elim h (fun hb3 h => ?_) (fun hb3 h => ?_)
      · refine WO.s0 (v' := .d (.bool true)) rfl rfl (fun _ => rfl) (congrArg (fun b => RV.d (.bool b)) hb3) ?_
        refine WO.nil ?_
        refine WC.condT rfl ?_
        refine WC.seq ?_
        refine WC.regionSeq rfl rfl ?_
        refine WO.s0 (v' := .d (.int .i64 0)) rfl rfl (fun _ => rfl) rfl ?_
        refine WO.nil ?_
        refine bind_elim h (fun o12 ho12 h => ?_)
        refine WC.block (WC.loop (WL.ofLoop ho12 (fun s R' B' => ghosts prog 0 (A R' B') (hints.at_ 55 5) = some (A [(0, .d (.str a0)), (1, .d (.str a1)), (5, .d (.int .i64 s))] [])) (fun o e R' B' => match o with | .inl y => e = .exit 0 ∧ ghosts prog 0 (A R' B') (hints.at_ 55 9) = some (A [] []) | .inr r => e = .ret ∧ finish prog (hints.own 55) Tryd.f55 0 (A R' B') = some (.d (.bool r), [])) rfl ?_ ?_))
        · rintro s4 R' B' q5 hI h
          refine WC.seq ?_
          refine WC.regionSeq hI rfl ?_
          refine WO.s0 (v' := .d (.int .i64 s4)) rfl rfl (fun _ => rfl) rfl ?_
          refine WO.s0 (v' := .d (.str a1)) rfl rfl (fun _ => rfl) rfl ?_
          refine WO.s0 (v' := .d (.int .i64 (a1.length : Int))) rfl rfl (fun _ => rfl) rfl ?_
          refine ite_elim h (fun hb6 h => ?_) (fun hb6 h => ?_)
          · refine WO.s0 (v' := .d (.bool true)) rfl rfl (fun _ => rfl) (congrArg (fun b => RV.d (.bool b)) hb6) ?_
            refine WO.nil ?_
            refine WC.condT rfl ?_
            refine WC.skip ?_
            refine WC.seq ?_
            refine WC.block ?_
            refine WC.regionDSeq rfl rfl ?_
            refine WO.s0 (v' := .d (.str a0)) rfl rfl (fun _ => rfl) rfl ?_
            refine bind_elim h (fun x7 hx7 h => ?_)
            refine WO.cutG hx7 rfl rfl rfl rfl rfl rfl rfl rfl rfl ?_
            refine WO.s0 (v' := .d (.str a1)) rfl rfl (fun _ => rfl) rfl ?_
            refine WO.s0 (v' := .d (.int .i64 s4)) rfl rfl (fun _ => rfl) rfl ?_
            refine bind_elim h (fun x8 hx8 h => ?_)
            refine WO.cutG hx8 rfl rfl rfl rfl rfl rfl rfl rfl rfl ?_
            refine bind_elim h (fun x9 hx9 h => ?_)
            refine ite_elim h (fun hb10 h => ?_) (fun hb10 h => ?_)
            · refine WO.callR (v := .d (.bool true)) (u := []) rfl rfl (fun _ => rfl) rfl rfl rfl rfl rfl (ref03_likeN_ev nfu hx9) rfl rfl (congrArg (fun b => RV.d (.bool b)) hb10) rfl ?_
              refine WO.nil ⟨by kernel_rfl, ?_⟩
              refine WC.condT rfl ?_
              refine WC.regionSeq rfl rfl ?_
              refine WO.s0 (v' := .d (.bool true)) rfl rfl (fun _ => rfl) rfl ?_
              refine WO.nil ?_
              refine WC.ret ?_
              obtain rfl := Option.some.inj h
              exact ⟨(fun he => by cases he), rfl, rfl⟩
            · refine WO.callR (v := .d (.bool false)) (u := []) rfl rfl (fun _ => rfl) rfl rfl rfl rfl rfl (ref03_likeN_ev nfu hx9) rfl rfl (congrArg (fun b => RV.d (.bool b)) hb10) rfl ?_
              refine WO.nil ⟨by kernel_rfl, ?_⟩
              refine WC.condF rfl ?_
              refine WC.skip ?_
              refine WC.region rfl rfl ?_
              refine WO.s0 (v' := .d (.int .i64 s4)) rfl rfl (fun _ => rfl) rfl ?_
              refine WO.s0 (v' := .d (.int .i64 (IntKind.wrap .i64 (s4 + (1 : Int))))) rfl rfl (fun _ => rfl) rfl ?_
              refine WO.s0 (v' := .d (.int .i64 (IntKind.wrap .i64 (s4 + (1 : Int))))) rfl rfl (fun _ => rfl) rfl ?_
              refine WO.nil ?_
              obtain rfl := Option.some.inj h
              exact ⟨rfl, rfl⟩
          · refine WO.s0 (v' := .d (.bool false)) rfl rfl (fun _ => rfl) (congrArg (fun b => RV.d (.bool b)) hb6) ?_
            refine WO.nil ?_
            refine WC.condF rfl ?_
            refine WC.exit ?_
            obtain rfl := Option.some.inj h
            exact ⟨(fun he => by cases he), rfl, rfl⟩
        · intro e R' B' he hq
          rcases o12 with y13 | r14
          · obtain ⟨rfl, hI⟩ := hq
            refine ⟨fun _ => ?_, fun hne => (hne rfl).elim⟩
            refine WC.regionSeq hI rfl ?_
            refine WO.s0 (v' := .d (.bool false)) rfl rfl (fun _ => rfl) rfl ?_
            refine WO.nil ?_
            refine WC.ret ?_
            obtain rfl := Option.some.inj h
            exact WC.done rfl rfl rfl
          · obtain ⟨rfl, hf⟩ := hq
            obtain rfl := Option.some.inj h
            exact hf
      · refine WO.s0 (v' := .d (.bool false)) rfl rfl (fun _ => rfl) (congrArg (fun b => RV.d (.bool b)) hb3) ?_
        refine WO.nil ?_
        refine WC.condF rfl ?_
        refine WC.skip ?_
        refine WC.regionDSeq rfl rfl ?_
        refine WO.s0 (v' := .d (.str a1)) rfl rfl (fun _ => rfl) rfl ?_
        refine ite_elim h (fun hb15 h => ?_) (fun hb15 h => ?_)
        · refine WO.s0 (v' := .d (.bool true)) rfl rfl (fun _ => rfl) (congrArg (fun b => RV.d (.bool b)) hb15) ?_
          refine WO.s0 (v' := .d (.bool true)) rfl rfl (fun _ => rfl) rfl ?_
          refine WO.s0 (v' := .d (.str a0)) rfl rfl (fun _ => rfl) rfl ?_
          refine bind_elim h (fun x16 hx16 h => ?_)
          refine WO.byteG hx16 rfl rfl rfl rfl rfl rfl ?_
          refine ite_elim h (fun hb17 h => ?_) (fun hb17 h => ?_)
          · refine WO.s0 (v' := .d (.bool true)) rfl rfl (fun _ => rfl) (congrArg (fun b => RV.d (.bool b)) hb17) ?_
            refine WO.s0 (v' := .d (.bool true)) rfl rfl (fun _ => rfl) rfl ?_
            refine WO.skip rfl rfl ?_
            refine WO.skip rfl rfl ?_
            refine WO.skip rfl rfl ?_
            refine WO.skip rfl rfl ?_
            refine WO.skip rfl rfl ?_
            refine WO.s0 (v' := .d (.bool true)) rfl rfl (fun _ => rfl) rfl ?_
            refine WO.s0 (v' := .d (.bool true)) rfl rfl (fun _ => rfl) rfl ?_
            refine WO.s0 (v' := .d (.bool true)) rfl rfl (fun _ => rfl) rfl ?_
            refine WO.s0 (v' := .d (.str a0)) rfl rfl (fun _ => rfl) rfl ?_
            refine bind_elim h (fun x18 hx18 h => ?_)
            refine WO.cutG hx18 rfl rfl rfl rfl rfl rfl rfl rfl rfl ?_
            refine WO.s0 (v' := .d (.str a1)) rfl rfl (fun _ => rfl) rfl ?_
            refine bind_elim h (fun x19 hx19 h => ?_)
            refine WO.cutG hx19 rfl rfl rfl rfl rfl rfl rfl rfl rfl ?_
            refine bind_elim h (fun x20 hx20 h => ?_)
            refine WO.callR (v := .d (.bool x20)) (u := []) rfl rfl (fun _ => rfl) rfl rfl rfl rfl rfl (ref03_likeN_ev nfu hx20) rfl rfl rfl rfl ?_
            refine WO.s0 (v' := .d (.bool x20)) rfl rfl (fun _ => rfl) rfl ?_
            refine WO.s0 (v' := .d (.bool x20)) rfl rfl (fun _ => rfl) rfl ?_
            refine WO.nil ⟨by kernel_rfl, ?_⟩
            refine WC.ret ?_
            obtain rfl := Option.some.inj h
            exact WC.done rfl rfl rfl
          · refine WO.s0 (v' := .d (.bool false)) rfl rfl (fun _ => rfl) (congrArg (fun b => RV.d (.bool b)) hb17) ?_
            refine WO.s0 (v' := .d (.bool false)) rfl rfl (fun _ => rfl) rfl ?_
            refine WO.s0 (v' := .d (.str a0)) rfl rfl (fun _ => rfl) rfl ?_
            refine bind_elim h (fun x21 hx21 h => ?_)
            refine WO.byteG hx21 rfl rfl rfl rfl rfl rfl ?_
            refine WO.s0 (v' := .d (.str a1)) rfl rfl (fun _ => rfl) rfl ?_
            refine bind_elim h (fun x22 hx22 h => ?_)
            refine WO.byteG hx22 rfl rfl rfl rfl rfl rfl ?_
            refine WO.s0 (v' := .d (.bool (x21 == x22))) rfl rfl (fun _ => rfl) rfl ?_
            refine WO.s0 (v' := .d (.bool (x21 == x22))) rfl rfl (fun _ => rfl) rfl ?_
            refine ite_elim h (fun hb23 h => ?_) (fun hb23 h => ?_)
            · refine WO.s0 (v' := .d (.bool true)) rfl rfl (fun _ => rfl) (congrArg (fun b => RV.d (.bool b)) hb23) ?_
              refine WO.s0 (v' := .d (.bool true)) rfl rfl (fun _ => rfl) rfl ?_
              refine WO.s0 (v' := .d (.str a0)) rfl rfl (fun _ => rfl) rfl ?_
              refine bind_elim h (fun x24 hx24 h => ?_)
              refine WO.cutG hx24 rfl rfl rfl rfl rfl rfl rfl rfl rfl ?_
              refine WO.s0 (v' := .d (.str a1)) rfl rfl (fun _ => rfl) rfl ?_
              refine bind_elim h (fun x25 hx25 h => ?_)
              refine WO.cutG hx25 rfl rfl rfl rfl rfl rfl rfl rfl rfl ?_
              refine bind_elim h (fun x26 hx26 h => ?_)
              refine WO.callR (v := .d (.bool x26)) (u := []) rfl rfl (fun _ => rfl) rfl rfl rfl rfl rfl (ref03_likeN_ev nfu hx26) rfl rfl rfl rfl ?_
              refine WO.s0 (v' := .d (.bool x26)) rfl rfl (fun _ => rfl) rfl ?_
              refine WO.s0 (v' := .d (.bool x26)) rfl rfl (fun _ => rfl) rfl ?_
              refine WO.nil ⟨by kernel_rfl, ?_⟩
              refine WC.ret ?_
              obtain rfl := Option.some.inj h
              exact WC.done rfl rfl rfl
            · refine WO.s0 (v' := .d (.bool false)) rfl rfl (fun _ => rfl) (congrArg (fun b => RV.d (.bool b)) hb23) ?_
              refine WO.s0 (v' := .d (.bool false)) rfl rfl (fun _ => rfl) rfl ?_
              refine WO.skip rfl rfl ?_
              refine WO.skip rfl rfl ?_
              refine WO.skip rfl rfl ?_
              refine WO.skip rfl rfl ?_
              refine WO.skip rfl rfl ?_
              refine WO.s0 (v' := .d (.bool false)) rfl rfl (fun _ => rfl) rfl ?_
              refine WO.s0 (v' := .d (.bool false)) rfl rfl (fun _ => rfl) rfl ?_
              refine WO.nil ⟨by kernel_rfl, ?_⟩
              refine WC.ret ?_
              obtain rfl := Option.some.inj h
              exact WC.done rfl rfl rfl
        · refine WO.s0 (v' := .d (.bool false)) rfl rfl (fun _ => rfl) (congrArg (fun b => RV.d (.bool b)) hb15) ?_
          refine WO.s0 (v' := .d (.bool false)) rfl rfl (fun _ => rfl) rfl ?_
          refine WO.skip rfl rfl ?_
          refine WO.skip rfl rfl ?_
          refine WO.skip rfl rfl ?_
          refine WO.skip rfl rfl ?_
          refine WO.skip rfl rfl ?_
          refine WO.skip rfl rfl ?_
          refine WO.skip rfl rfl ?_
          refine WO.skip rfl rfl ?_
          refine WO.skip rfl rfl ?_
          refine WO.skip rfl rfl ?_
          refine WO.s0 (v' := .d (.bool false)) rfl rfl (fun _ => rfl) rfl ?_
          refine WO.s0 (v' := .d (.bool false)) rfl rfl (fun _ => rfl) rfl ?_
          refine WO.skip rfl rfl ?_
          refine WO.skip rfl rfl ?_
          refine WO.skip rfl rfl ?_
          refine WO.skip rfl rfl ?_
          refine WO.skip rfl rfl ?_
          refine WO.s0 (v' := .d (.bool false)) rfl rfl (fun _ => rfl) rfl ?_
          refine WO.s0 (v' := .d (.bool false)) rfl rfl (fun _ => rfl) rfl ?_
          refine WO.nil ⟨by kernel_rfl, ?_⟩
          refine WC.ret ?_
          obtain rfl := Option.some.inj h
          exact WC.done rfl rfl rfl
theorem ref03_like_ev {a0 : (List UInt8)} {a1 : (List UInt8)} {r : Bool} (h : ref03_like a0 a1 = some r) : EvP prog hints ext 55 [.d (.str a0), .d (.str a1)] [] (.d (.bool r), []) :=
  let ⟨n, hn⟩ := recO_some h; ref03_likeN_ev n hn
theorem ref03_match_ev {a0 : (List (List UInt8))} {a1 : T_api_SourceID} {r : Bool} (h : ref03_match a0 a1 = some r) : EvP prog hints ext 41 [.d (.lst (a0.map PD.str)), .d (T_api_SourceID.pd a1)] [] (.d (.bool r), []) := by
  refine Ev.body rfl Tryd.func41 rfl (by kernel_rfl) ?_
  refine WC.regionSeq rfl rfl ?_
  refine WO.s1 (v := .ptr 48 0) (id := 48) (bx := .var [.d (.str a1.fNetwork), .d (.str a1.fStation), .d (.str a1.fLocation), .d (.str a1.fChannel)]) rfl rfl (fun _ => rfl) ?_
  refine WO.s0 (v' := .d (.bool false)) rfl rfl (fun _ => rfl) rfl ?_
  refine WO.nil ?_
  refine WC.regionDSeq rfl rfl ?_
  refine WO.s0 (v' := .d (.lst (a0.map PD.str))) rfl rfl (fun _ => rfl) rfl ?_
  refine bind_elim h (fun x1 hx1 h => ?_)
  refine WO.elemG hx1 rfl rfl rfl rfl rfl rfl rfl rfl rfl ?_
  refine WO.s0 (v' := .d (.str x1)) rfl rfl (fun _ => rfl) rfl ?_
  refine WO.s0 (v' := .ptr 48 0) rfl rfl (fun _ => rfl) rfl ?_
  refine WO.s0 (v' := .d (.str a1.fNetwork)) rfl rfl (fun _ => rfl) rfl ?_
  refine bind_elim h (fun x2 hx2 h => ?_)
  refine ite_elim h (fun hb3 h => ?_) (fun hb3 h => ?_)
  · refine WO.callR (v := .d (.bool true)) (u := []) rfl rfl (fun _ => rfl) rfl rfl rfl rfl rfl (ref03_like_ev hx2) rfl rfl (congrArg (fun b => RV.d (.bool b)) hb3) rfl ?_
    refine WO.s0 (v' := .d (.bool true)) rfl rfl (fun _ => rfl) rfl ?_
    refine WO.s0 (v' := .d (.lst (a0.map PD.str))) rfl rfl (fun _ => rfl) rfl ?_
    refine bind_elim h (fun x4 hx4 h => ?_)
    refine WO.elemG hx4 rfl rfl rfl rfl rfl rfl rfl rfl rfl ?_
    refine WO.s0 (v' := .d (.str x4)) rfl rfl (fun _ => rfl) rfl ?_
    refine WO.s0 (v' := .ptr 48 1) rfl rfl (fun _ => rfl) rfl ?_
    refine WO.s0 (v' := .d (.str a1.fStation)) rfl rfl (fun _ => rfl) rfl ?_
    refine bind_elim h (fun x5 hx5 h => ?_)
    refine WO.callR (v := .d (.bool x5)) (u := []) rfl rfl (fun _ => rfl) rfl rfl rfl rfl rfl (ref03_like_ev hx5) rfl rfl rfl rfl ?_
    refine ite_elim h (fun hb6 h => ?_) (fun hb6 h => ?_)
    · refine WO.s0 (v' := .d (.bool true)) rfl rfl (fun _ => rfl) (congrArg (fun b => RV.d (.bool b)) hb6) ?_
      refine WO.s0 (v' := .d (.bool true)) rfl rfl (fun _ => rfl) rfl ?_
      refine WO.s0 (v' := .d (.lst (a0.map PD.str))) rfl rfl (fun _ => rfl) rfl ?_
      refine bind_elim h (fun x7 hx7 h => ?_)
      refine WO.elemG hx7 rfl rfl rfl rfl rfl rfl rfl rfl rfl ?_
      refine WO.s0 (v' := .d (.str x7)) rfl rfl (fun _ => rfl) rfl ?_
      refine WO.s0 (v' := .ptr 48 2) rfl rfl (fun _ => rfl) rfl ?_
      refine WO.s0 (v' := .d (.str a1.fLocation)) rfl rfl (fun _ => rfl) rfl ?_
      refine bind_elim h (fun x8 hx8 h => ?_)
      refine WO.callR (v := .d (.bool x8)) (u := []) rfl rfl (fun _ => rfl) rfl rfl rfl rfl rfl (ref03_like_ev hx8) rfl rfl rfl rfl ?_
      refine ite_elim h (fun hb9 h => ?_) (fun hb9 h => ?_)
      · refine WO.s0 (v' := .d (.bool true)) rfl rfl (fun _ => rfl) (congrArg (fun b => RV.d (.bool b)) hb9) ?_
        refine WO.s0 (v' := .d (.bool true)) rfl rfl (fun _ => rfl) rfl ?_
        refine WO.s0 (v' := .d (.lst (a0.map PD.str))) rfl rfl (fun _ => rfl) rfl ?_
        refine bind_elim h (fun x10 hx10 h => ?_)
        refine WO.elemG hx10 rfl rfl rfl rfl rfl rfl rfl rfl rfl ?_
        refine WO.s0 (v' := .d (.str x10)) rfl rfl (fun _ => rfl) rfl ?_
        refine WO.s0 (v' := .ptr 48 3) rfl rfl (fun _ => rfl) rfl ?_
        refine WO.s0 (v' := .d (.str a1.fChannel)) rfl rfl (fun _ => rfl) rfl ?_
        refine bind_elim h (fun x11 hx11 h => ?_)
        refine WO.callR (v := .d (.bool x11)) (u := []) rfl rfl (fun _ => rfl) rfl rfl rfl rfl rfl (ref03_like_ev hx11) rfl rfl rfl rfl ?_
        refine WO.s0 (v' := .d (.bool x11)) rfl rfl (fun _ => rfl) rfl ?_
        refine WO.s0 (v' := .d (.bool x11)) rfl rfl (fun _ => rfl) rfl ?_
        refine WO.nil ⟨by kernel_rfl, ?_⟩
        refine WC.ret ?_
        obtain rfl := Option.some.inj h
        exact WC.done rfl rfl rfl
      · refine WO.s0 (v' := .d (.bool false)) rfl rfl (fun _ => rfl) (congrArg (fun b => RV.d (.bool b)) hb9) ?_
        refine WO.s0 (v' := .d (.bool false)) rfl rfl (fun _ => rfl) rfl ?_
        refine WO.skip rfl rfl ?_
        refine WO.skip rfl rfl ?_
        refine WO.skip rfl rfl ?_
        refine WO.skip rfl rfl ?_
        refine WO.skip rfl rfl ?_
        refine WO.skip rfl rfl ?_
        refine WO.s0 (v' := .d (.bool false)) rfl rfl (fun _ => rfl) rfl ?_
        refine WO.s0 (v' := .d (.bool false)) rfl rfl (fun _ => rfl) rfl ?_
        refine WO.nil ⟨by kernel_rfl, ?_⟩
        refine WC.ret ?_
        obtain rfl := Option.some.inj h
        exact WC.done rfl rfl rfl
    · refine WO.s0 (v' := .d (.bool false)) rfl rfl (fun _ => rfl) (congrArg (fun b => RV.d (.bool b)) hb6) ?_
      refine WO.s0 (v' := .d (.bool false)) rfl rfl (fun _ => rfl) rfl ?_
      refine WO.skip rfl rfl ?_
      refine WO.skip rfl rfl ?_
      refine WO.skip rfl rfl ?_
      refine WO.skip rfl rfl ?_
      refine WO.skip rfl rfl ?_
      refine WO.skip rfl rfl ?_
      refine WO.s0 (v' := .d (.bool false)) rfl rfl (fun _ => rfl) rfl ?_
      refine WO.s0 (v' := .d (.bool false)) rfl rfl (fun _ => rfl) rfl ?_
      refine WO.skip rfl rfl ?_
      refine WO.skip rfl rfl ?_
      refine WO.skip rfl rfl ?_
      refine WO.skip rfl rfl ?_
      refine WO.skip rfl rfl ?_
      refine WO.skip rfl rfl ?_
      refine WO.s0 (v' := .d (.bool false)) rfl rfl (fun _ => rfl) rfl ?_
      refine WO.s0 (v' := .d (.bool false)) rfl rfl (fun _ => rfl) rfl ?_
      refine WO.nil ⟨by kernel_rfl, ?_⟩
      refine WC.ret ?_
      obtain rfl := Option.some.inj h
      exact WC.done rfl rfl rfl
  · refine WO.callR (v := .d (.bool false)) (u := []) rfl rfl (fun _ => rfl) rfl rfl rfl rfl rfl (ref03_like_ev hx2) rfl rfl (congrArg (fun b => RV.d (.bool b)) hb3) rfl ?_
    refine WO.s0 (v' := .d (.bool false)) rfl rfl (fun _ => rfl) rfl ?_
    refine WO.skip rfl rfl ?_
    refine WO.skip rfl rfl ?_
    refine WO.skip rfl rfl ?_
    refine WO.skip rfl rfl ?_
    refine WO.skip rfl rfl ?_
    refine WO.skip rfl rfl ?_
    refine WO.s0 (v' := .d (.bool false)) rfl rfl (fun _ => rfl) rfl ?_
    refine WO.s0 (v' := .d (.bool false)) rfl rfl (fun _ => rfl) rfl ?_
    refine WO.skip rfl rfl ?_
    refine WO.skip rfl rfl ?_
    refine WO.skip rfl rfl ?_
    refine WO.skip rfl rfl ?_
    refine WO.skip rfl rfl ?_
    refine WO.skip rfl rfl ?_
    refine WO.s0 (v' := .d (.bool false)) rfl rfl (fun _ => rfl) rfl ?_
    refine WO.s0 (v' := .d (.bool false)) rfl rfl (fun _ => rfl) rfl ?_
    refine WO.skip rfl rfl ?_
    refine WO.skip rfl rfl ?_
    refine WO.skip rfl rfl ?_
    refine WO.skip rfl rfl ?_
    refine WO.skip rfl rfl ?_
    refine WO.skip rfl rfl ?_
    refine WO.s0 (v' := .d (.bool false)) rfl rfl (fun _ => rfl) rfl ?_
    refine WO.s0 (v' := .d (.bool false)) rfl rfl (fun _ => rfl) rfl ?_
    refine WO.nil ⟨by kernel_rfl, ?_⟩
    refine WC.ret ?_
    obtain rfl := Option.some.inj h
    exact WC.done rfl rfl rfl
theorem ref03_Match_ev {a0 : (List UInt8)} {a1 : T_api_SourceID} {r : Bool × Int} (h : ref03_Match a0 a1 = some r) : EvP prog hints ext 20 [.d (.str a0), .d (T_api_SourceID.pd a1)] [] (.tup [.d (.bool r.1), .d (.int .i64 r.2)], []) := by
  refine Ev.body rfl Tryd.func20 rfl (by kernel_rfl) ?_
  refine WC.regionSeq rfl rfl ?_
  refine WO.s1 (v := .ptr 48 0) (id := 48) (bx := .var [.d (.str a1.fNetwork), .d (.str a1.fStation), .d (.str a1.fLocation), .d (.str a1.fChannel)]) rfl rfl (fun _ => rfl) ?_
  refine WO.s0 (v' := .d (.bool false)) rfl rfl (fun _ => rfl) rfl ?_
  refine WO.s0 (v' := .d (.int .i64 0)) rfl rfl (fun _ => rfl) rfl ?_
  refine WO.nil ?_
  refine WC.regionSeq rfl rfl ?_
  refine WO.s0 (v' := .d (.str a0)) rfl rfl (fun _ => rfl) rfl ?_
  refine bind_elim h (fun x1 hx1 h => ?_)
  refine WO.callR (v := .tup [.d (.lst (x1.1.map PD.str)), .d (.bool x1.2)]) (u := []) rfl rfl (fun _ => rfl) rfl rfl rfl rfl rfl (ref03_parts_ev hx1) rfl rfl rfl rfl ?_
  refine WO.s0 (v' := .tup [.d (.lst (x1.1.map PD.str)), .d (.bool x1.2)]) rfl rfl (fun _ => rfl) rfl ?_
  refine WO.s0 (v' := .d (.lst (x1.1.map PD.str))) rfl rfl (fun _ => rfl) rfl ?_
  refine WO.s0 (v' := .d (.bool x1.2)) rfl rfl (fun _ => rfl) rfl ?_
  refine WO.s0 (v' := .d (.lst (x1.1.map PD.str))) rfl rfl (fun _ => rfl) rfl ?_
  refine WO.s0 (v' := .d (.bool x1.2)) rfl rfl (fun _ => rfl) rfl ?_
  refine WO.nil ?_
  refine WC.seq ?_
  refine WC.regionSeq rfl rfl ?_
  refine WO.s0 (v' := .d (.bool x1.2)) rfl rfl (fun _ => rfl) rfl ?_
  refine ite_elim h (fun hb2 h => ?_) (fun hb2 h => ?_)
  · refine WO.s0 (v' := .d (.bool true)) rfl rfl (fun _ => rfl) (congrArg (fun b => RV.d (.bool b)) hb2) ?_
    refine WO.nil ?_
    refine WC.condT rfl ?_
    refine WC.regionSeq rfl rfl ?_
    refine WO.s0 (v' := .d (.bool false)) rfl rfl (fun _ => rfl) rfl ?_
    refine WO.s0 (v' := .d (.int .i64 3)) rfl rfl (fun _ => rfl) rfl ?_
    refine WO.nil ?_
    refine WC.ret ?_
    obtain rfl := Option.some.inj h
    exact WC.done rfl rfl rfl
  · refine WO.s0 (v' := .d (.bool false)) rfl rfl (fun _ => rfl) (congrArg (fun b => RV.d (.bool b)) hb2) ?_
    refine WO.nil ?_
    refine WC.condF rfl ?_
    refine WC.skip ?_
    refine WC.seq ?_
    refine WC.regionSeq rfl rfl ?_
    refine WO.s0 (v' := .d (T_api_SourceID.pd a1)) rfl rfl (fun _ => rfl) rfl ?_
    refine bind_elim h (fun x3 hx3 h => ?_)
    refine WO.callR (v := .d (.bool x3)) (u := []) rfl rfl (fun _ => rfl) rfl rfl rfl rfl rfl (ref03_Valid_ev hx3) rfl rfl rfl rfl ?_
    refine ite_elim h (fun hb4 h => ?_) (fun hb4 h => ?_)
    · refine WO.s0 (v' := .d (.bool true)) rfl rfl (fun _ => rfl) (congrArg (fun b => RV.d (.bool b)) hb4) ?_
      refine WO.nil ?_
      refine WC.condT rfl ?_
      refine WC.regionSeq rfl rfl ?_
      refine WO.s0 (v' := .d (.bool false)) rfl rfl (fun _ => rfl) rfl ?_
      refine WO.s0 (v' := .d (.int .i64 1)) rfl rfl (fun _ => rfl) rfl ?_
      refine WO.nil ?_
      refine WC.ret ?_
      obtain rfl := Option.some.inj h
      exact WC.done rfl rfl rfl
    · refine WO.s0 (v' := .d (.bool false)) rfl rfl (fun _ => rfl) (congrArg (fun b => RV.d (.bool b)) hb4) ?_
      refine WO.nil ?_
      refine WC.condF rfl ?_
      refine WC.skip ?_
      refine WC.regionSeq rfl rfl ?_
      refine WO.s0 (v' := .d (.lst (x1.1.map PD.str))) rfl rfl (fun _ => rfl) rfl ?_
      refine WO.s0 (v' := .d (T_api_SourceID.pd a1)) rfl rfl (fun _ => rfl) rfl ?_
      refine bind_elim h (fun x5 hx5 h => ?_)
      refine WO.callR (v := .d (.bool x5)) (u := []) rfl rfl (fun _ => rfl) rfl rfl rfl rfl rfl (ref03_match_ev hx5) rfl rfl rfl rfl ?_
      refine WO.s0 (v' := .d (.bool x5)) rfl rfl (fun _ => rfl) rfl ?_
      refine WO.s0 (v' := .d (.int .i64 0)) rfl rfl (fun _ => rfl) rfl ?_
      refine WO.nil ?_
      refine WC.ret ?_
      obtain rfl := Option.some.inj h
      exact WC.done rfl rfl rfl
theorem cmp_isNaN_string_ev {a0 : (List UInt8)} {r : Bool} (h : cmp_isNaN_string a0 = some r) : EvP prog hints ext 52 [.d (.str a0)] [] (.d (.bool r), []) := by
  refine Ev.body rfl Tryd.func52 rfl (by kernel_rfl) ?_
  refine WC.regionSeq rfl rfl ?_
  refine WO.s0 (v' := .d (.bool false)) rfl rfl (fun _ => rfl) rfl ?_
  refine WO.nil ?_
  refine WC.regionSeq rfl rfl ?_
  refine WO.s0 (v' := .d (.str a0)) rfl rfl (fun _ => rfl) rfl ?_
  refine WO.s0 (v' := .d (.str a0)) rfl rfl (fun _ => rfl) rfl ?_
  refine WO.s0 (v' := .d (.bool (!(a0 == a0)))) rfl rfl (fun _ => rfl) rfl ?_
  refine WO.s0 (v' := .d (.bool (!(a0 == a0)))) rfl rfl (fun _ => rfl) rfl ?_
  refine WO.nil ?_
  refine WC.ret ?_
  obtain rfl := Option.some.inj h
  exact WC.done rfl rfl rfl
theorem cmp_Compare_string_ev {a0 : (List UInt8)} {a1 : (List UInt8)} {r : Int} (h : cmp_Compare_string a0 a1 = some r) : EvP prog hints ext 36 [.d (.str a0), .d (.str a1)] [] (.d (.int .i64 r), []) := by
  refine Ev.body rfl Tryd.func36 rfl (by kernel_rfl) ?_
  refine WC.regionSeq rfl rfl ?_
  refine WO.s0 (v' := .d (.int .i64 0)) rfl rfl (fun _ => rfl) rfl ?_
  refine WO.nil ?_
  refine WC.regionSeq rfl rfl ?_
  refine WO.s0 (v' := .d (.str a0)) rfl rfl (fun _ => rfl) rfl ?_
  refine bind_elim h (fun x1 hx1 h => ?_)
  refine WO.callR (v := .d (.bool x1)) (u := []) rfl rfl (fun _ => rfl) rfl rfl rfl rfl rfl (cmp_isNaN_string_ev hx1) rfl rfl rfl rfl ?_
  refine WO.s0 (v' := .d (.bool x1)) rfl rfl (fun _ => rfl) rfl ?_
  refine WO.nil ?_
  refine WC.regionSeq rfl rfl ?_
  refine WO.s0 (v' := .d (.str a1)) rfl rfl (fun _ => rfl) rfl ?_
  refine bind_elim h (fun x2 hx2 h => ?_)
  refine WO.callR (v := .d (.bool x2)) (u := []) rfl rfl (fun _ => rfl) rfl rfl rfl rfl rfl (cmp_isNaN_string_ev hx2) rfl rfl rfl rfl ?_
  refine WO.s0 (v' := .d (.bool x2)) rfl rfl (fun _ => rfl) rfl ?_
  refine WO.nil ?_
  refine WC.seq ?_
  refine WC.regionSeq rfl rfl ?_
  refine ite_elim h (fun hb3 h => ?_) (fun hb3 h => ?_)
  · refine WO.s0 (v' := .d (.bool true)) rfl rfl (fun _ => rfl) (congrArg (fun b => RV.d (.bool b)) hb3) ?_
    refine WO.nil ?_
    refine WC.condT rfl ?_
    refine WC.seq ?_
    refine WC.regionSeq rfl rfl ?_
    refine ite_elim h (fun hb4 h => ?_) (fun hb4 h => ?_)
    · refine WO.s0 (v' := .d (.bool true)) rfl rfl (fun _ => rfl) (congrArg (fun b => RV.d (.bool b)) hb4) ?_
      refine WO.nil ?_
      refine WC.condT rfl ?_
      refine WC.regionSeq rfl rfl ?_
      refine WO.s0 (v' := .d (.int .i64 0)) rfl rfl (fun _ => rfl) rfl ?_
      refine WO.nil ?_
      refine WC.ret ?_
      obtain rfl := Option.some.inj h
      exact WC.done rfl rfl rfl
    · refine WO.s0 (v' := .d (.bool false)) rfl rfl (fun _ => rfl) (congrArg (fun b => RV.d (.bool b)) hb4) ?_
      refine WO.nil ?_
      refine WC.condF rfl ?_
      refine WC.skip ?_
      refine WC.regionSeq rfl rfl ?_
      refine WO.s0 (v' := .d (.int .i64 (-1))) rfl rfl (fun _ => rfl) rfl ?_
      refine WO.nil ?_
      refine WC.ret ?_
      obtain rfl := Option.some.inj h
      exact WC.done rfl rfl rfl
  · refine WO.s0 (v' := .d (.bool false)) rfl rfl (fun _ => rfl) (congrArg (fun b => RV.d (.bool b)) hb3) ?_
    refine WO.nil ?_
    refine WC.condF rfl ?_
    refine WC.skip ?_
    refine WC.seq ?_
    refine WC.regionSeq rfl rfl ?_
    refine ite_elim h (fun hb5 h => ?_) (fun hb5 h => ?_)
    · refine WO.s0 (v' := .d (.bool true)) rfl rfl (fun _ => rfl) (congrArg (fun b => RV.d (.bool b)) hb5) ?_
      refine WO.nil ?_
      refine WC.condT rfl ?_
      refine WC.regionSeq rfl rfl ?_
      refine WO.s0 (v' := .d (.int .i64 1)) rfl rfl (fun _ => rfl) rfl ?_
      refine WO.nil ?_
      refine WC.ret ?_
      obtain rfl := Option.some.inj h
      exact WC.done rfl rfl rfl
    · refine WO.s0 (v' := .d (.bool false)) rfl rfl (fun _ => rfl) (congrArg (fun b => RV.d (.bool b)) hb5) ?_
      refine WO.nil ?_
      refine WC.condF rfl ?_
      refine WC.skip ?_
      refine WC.seq ?_
      refine WC.regionSeq rfl rfl ?_
      refine WO.s0 (v' := .d (.str a0)) rfl rfl (fun _ => rfl) rfl ?_
      refine WO.s0 (v' := .d (.str a1)) rfl rfl (fun _ => rfl) rfl ?_
      refine ite_elim h (fun hb6 h => ?_) (fun hb6 h => ?_)
      · refine WO.s0 (v' := .d (.bool true)) rfl rfl (fun _ => rfl) (congrArg (fun b => RV.d (.bool b)) hb6) ?_
        refine WO.nil ?_
        refine WC.condT rfl ?_
        refine WC.regionSeq rfl rfl ?_
        refine WO.s0 (v' := .d (.int .i64 (-1))) rfl rfl (fun _ => rfl) rfl ?_
        refine WO.nil ?_
        refine WC.ret ?_
        obtain rfl := Option.some.inj h
        exact WC.done rfl rfl rfl
      · refine WO.s0 (v' := .d (.bool false)) rfl rfl (fun _ => rfl) (congrArg (fun b => RV.d (.bool b)) hb6) ?_
        refine WO.nil ?_
        refine WC.condF rfl ?_
        refine WC.skip ?_
        refine WC.seq ?_
        refine WC.regionSeq rfl rfl ?_
        refine WO.s0 (v' := .d (.str a0)) rfl rfl (fun _ => rfl) rfl ?_
        refine WO.s0 (v' := .d (.str a1)) rfl rfl (fun _ => rfl) rfl ?_
        refine ite_elim h (fun hb7 h => ?_) (fun hb7 h => ?_)
        · refine WO.s0 (v' := .d (.bool true)) rfl rfl (fun _ => rfl) (congrArg (fun b => RV.d (.bool b)) hb7) ?_
          refine WO.nil ?_
          refine WC.condT rfl ?_
          refine WC.regionSeq rfl rfl ?_
          refine WO.s0 (v' := .d (.int .i64 1)) rfl rfl (fun _ => rfl) rfl ?_
          refine WO.nil ?_
          refine WC.ret ?_
          obtain rfl := Option.some.inj h
          exact WC.done rfl rfl rfl
        · refine WO.s0 (v' := .d (.bool false)) rfl rfl (fun _ => rfl) (congrArg (fun b => RV.d (.bool b)) hb7) ?_
          refine WO.nil ?_
          refine WC.condF rfl ?_
          refine WC.skip ?_
          refine WC.regionSeq rfl rfl ?_
          refine WO.s0 (v' := .d (.int .i64 0)) rfl rfl (fun _ => rfl) rfl ?_
          refine WO.nil ?_
          refine WC.ret ?_
          obtain rfl := Option.some.inj h
          exact WC.done rfl rfl rfl
theorem cmp_Or_int_ev {a0 : (List Int)} {r : Int} (h : cmp_Or_int a0 = some r) : EvP prog hints ext 35 [.d (.lst (a0.map (PD.int .i64)))] [] (.d (.int .i64 r), []) := by
  refine Ev.body rfl Tryd.func35 rfl (by kernel_rfl) ?_
  refine WC.regionSeq rfl rfl ?_
  refine WO.s0 (v' := .d (.int .i64 0)) rfl rfl (fun _ => rfl) rfl ?_
  refine WO.nil ?_
  refine WC.regionSeq rfl rfl ?_
  refine WO.s0 (v' := .d (.int .i64 0)) rfl rfl (fun _ => rfl) rfl ?_
  refine WO.nil ?_
  refine WC.seq ?_
  refine WC.regionSeq rfl rfl ?_
  refine WO.s0 (v' := .d (.lst (a0.map (PD.int .i64)))) rfl rfl (fun _ => rfl) rfl ?_
  refine WO.s0 (v' := .d (.int .i64 (a0.length : Int))) rfl rfl (fun _ => rfl) (lenMap _ _) ?_
  refine WO.s0 (v' := .d (.int .i64 0)) rfl rfl (fun _ => rfl) rfl ?_
  refine WO.nil ?_
  refine bind_elim h (fun o7 ho7 h => ?_)
  refine WC.block (WC.loop (WL.ofLoop ho7 (fun s R' B' => ghosts prog 0 (A R' B') (hints.at_ 35 3) = some (A [(3, .d (.int .i64 0)), (6, .d (.lst (a0.map (PD.int .i64)))), (7, .d (.int .i64 (a0.length : Int))), (8, .d (.int .i64 s))] [])) (fun o e R' B' => match o with | .inl y => e = .exit 0 ∧ ghosts prog 0 (A R' B') (hints.at_ 35 8) = some (A [(3, .d (.int .i64 0))] []) | .inr r => e = .ret ∧ finish prog (hints.own 35) Tryd.f35 0 (A R' B') = some (.d (.int .i64 r), [])) rfl ?_ ?_))
  · rintro s1 R' B' q2 hI h
    refine WC.regionSeq hI rfl ?_
    refine ite_elim h (fun hb3 h => ?_) (fun hb3 h => ?_)
    · refine WO.s0 (v' := .d (.bool true)) rfl rfl (fun _ => rfl) (congrArg (fun b => RV.d (.bool b)) hb3) ?_
      refine WO.nil ?_
      refine WC.seq ?_
      refine WC.condT rfl ?_
      refine WC.skip ?_
      refine WC.seq ?_
      refine WC.block ?_
      refine WC.regionSeq rfl rfl ?_
      refine bind_elim h (fun x4 hx4 h => ?_)
      refine WO.elemG hx4 rfl rfl rfl rfl rfl rfl rfl rfl rfl ?_
      refine WO.s0 (v' := .d (.int .i64 x4)) rfl rfl (fun _ => rfl) rfl ?_
      refine WO.s0 (v' := .d (.int .i64 x4)) rfl rfl (fun _ => rfl) rfl ?_
      refine WO.nil ?_
      refine WC.regionSeq rfl rfl ?_
      refine WO.s0 (v' := .d (.int .i64 x4)) rfl rfl (fun _ => rfl) rfl ?_
      refine WO.s0 (v' := .d (.int .i64 0)) rfl rfl (fun _ => rfl) rfl ?_
      refine ite_elim h (fun hb5 h => ?_) (fun hb5 h => ?_)
      · refine WO.s0 (v' := .d (.bool true)) rfl rfl (fun _ => rfl) (congrArg (fun b => RV.d (.bool b)) hb5) ?_
        refine WO.nil ?_
        refine WC.condT rfl ?_
        refine WC.regionSeq rfl rfl ?_
        refine WO.s0 (v' := .d (.int .i64 x4)) rfl rfl (fun _ => rfl) rfl ?_
        refine WO.s0 (v' := .d (.int .i64 x4)) rfl rfl (fun _ => rfl) rfl ?_
        refine WO.nil ?_
        refine WC.ret ?_
        obtain rfl := Option.some.inj h
        exact ⟨(fun he => by cases he), rfl, rfl⟩
      · refine WO.s0 (v' := .d (.bool false)) rfl rfl (fun _ => rfl) (congrArg (fun b => RV.d (.bool b)) hb5) ?_
        refine WO.nil ?_
        refine WC.condF rfl ?_
        refine WC.skip ?_
        refine WC.region rfl rfl ?_
        refine WO.s0 (v' := .d (.int .i64 (IntKind.wrap .i64 (s1 + (1 : Int))))) rfl rfl (fun _ => rfl) rfl ?_
        refine WO.s0 (v' := .d (.int .i64 (IntKind.wrap .i64 (s1 + (1 : Int))))) rfl rfl (fun _ => rfl) rfl ?_
        refine WO.nil ?_
        obtain rfl := Option.some.inj h
        exact ⟨rfl, rfl⟩
    · refine WO.s0 (v' := .d (.bool false)) rfl rfl (fun _ => rfl) (congrArg (fun b => RV.d (.bool b)) hb3) ?_
      refine WO.nil ?_
      refine WC.seq ?_
      refine WC.condF rfl ?_
      refine WC.exit ?_
      obtain rfl := Option.some.inj h
      exact ⟨(fun he => by cases he), rfl, rfl⟩
  · intro e R' B' he hq
    rcases o7 with y8 | r9
    · obtain ⟨rfl, hI⟩ := hq
      refine ⟨fun _ => ?_, fun hne => (hne rfl).elim⟩
      refine WC.regionSeq hI rfl ?_
      refine WO.s0 (v' := .d (.int .i64 0)) rfl rfl (fun _ => rfl) rfl ?_
      refine WO.s0 (v' := .d (.int .i64 0)) rfl rfl (fun _ => rfl) rfl ?_
      refine WO.nil ?_
      refine WC.ret ?_
      obtain rfl := Option.some.inj h
      exact WC.done rfl rfl rfl
    · obtain ⟨rfl, hf⟩ := hq
      obtain rfl := Option.some.inj h
      exact hf
theorem source_Compare_ev {a0 : T_api_SourceID} {a1 : T_api_SourceID} {r : Int} (h : source_Compare a0 a1 = some r) : EvP prog hints ext 16 [.d (T_api_SourceID.pd a0), .d (T_api_SourceID.pd a1)] [] (.d (.int .i64 r), []) := by
  refine Ev.body rfl Tryd.func16 rfl (by kernel_rfl) ?_
  refine WC.regionSeq rfl rfl ?_
  refine WO.s1 (v := .ptr 32 0) (id := 32) (bx := .var [.d (.str a0.fNetwork), .d (.str a0.fStation), .d (.str a0.fLocation), .d (.str a0.fChannel)]) rfl rfl (fun _ => rfl) ?_
  refine WO.s1 (v := .ptr 48 0) (id := 48) (bx := .var [.d (.str a1.fNetwork), .d (.str a1.fStation), .d (.str a1.fLocation), .d (.str a1.fChannel)]) rfl rfl (fun _ => rfl) ?_
  refine WO.s0 (v' := .d (.int .i64 0)) rfl rfl (fun _ => rfl) rfl ?_
  refine WO.nil ?_
  refine WC.regionDSeq rfl rfl ?_
  refine WO.s0 (v' := .ptr 32 0) rfl rfl (fun _ => rfl) rfl ?_
  refine WO.s0 (v' := .d (.str a0.fNetwork)) rfl rfl (fun _ => rfl) rfl ?_
  refine WO.s0 (v' := .ptr 48 0) rfl rfl (fun _ => rfl) rfl ?_
  refine WO.s0 (v' := .d (.str a1.fNetwork)) rfl rfl (fun _ => rfl) rfl ?_
  refine bind_elim h (fun x1 hx1 h => ?_)
  refine WO.callR (v := .d (.int .i64 x1)) (u := []) rfl rfl (fun _ => rfl) rfl rfl rfl rfl rfl (cmp_Compare_string_ev hx1) rfl rfl rfl rfl ?_
  refine WO.s0 (v' := .ptr 32 1) rfl rfl (fun _ => rfl) rfl ?_
  refine WO.s0 (v' := .d (.str a0.fStation)) rfl rfl (fun _ => rfl) rfl ?_
  refine WO.s0 (v' := .ptr 48 1) rfl rfl (fun _ => rfl) rfl ?_
  refine WO.s0 (v' := .d (.str a1.fStation)) rfl rfl (fun _ => rfl) rfl ?_
  refine bind_elim h (fun x2 hx2 h => ?_)
  refine WO.callR (v := .d (.int .i64 x2)) (u := []) rfl rfl (fun _ => rfl) rfl rfl rfl rfl rfl (cmp_Compare_string_ev hx2) rfl rfl rfl rfl ?_
  refine WO.s0 (v' := .ptr 32 2) rfl rfl (fun _ => rfl) rfl ?_
  refine WO.s0 (v' := .d (.str a0.fLocation)) rfl rfl (fun _ => rfl) rfl ?_
  refine WO.s0 (v' := .ptr 48 2) rfl rfl (fun _ => rfl) rfl ?_
  refine WO.s0 (v' := .d (.str a1.fLocation)) rfl rfl (fun _ => rfl) rfl ?_
  refine bind_elim h (fun x3 hx3 h => ?_)
  refine WO.callR (v := .d (.int .i64 x3)) (u := []) rfl rfl (fun _ => rfl) rfl rfl rfl rfl rfl (cmp_Compare_string_ev hx3) rfl rfl rfl rfl ?_
  refine WO.s0 (v' := .ptr 32 3) rfl rfl (fun _ => rfl) rfl ?_
  refine WO.s0 (v' := .d (.str a0.fChannel)) rfl rfl (fun _ => rfl) rfl ?_
  refine WO.s0 (v' := .ptr 48 3) rfl rfl (fun _ => rfl) rfl ?_
  refine WO.s0 (v' := .d (.str a1.fChannel)) rfl rfl (fun _ => rfl) rfl ?_
  refine bind_elim h (fun x4 hx4 h => ?_)
  refine WO.callR (v := .d (.int .i64 x4)) (u := []) rfl rfl (fun _ => rfl) rfl rfl rfl rfl rfl (cmp_Compare_string_ev hx4) rfl rfl rfl rfl ?_
  refine WO.s0 (v' := .d (.lst ([x1, x2, x3, x4].map (PD.int .i64)))) rfl rfl (fun _ => rfl) rfl ?_
  refine bind_elim h (fun x5 hx5 h => ?_)
  refine WO.callR (v := .d (.int .i64 x5)) (u := []) rfl rfl (fun _ => rfl) rfl rfl rfl rfl rfl (cmp_Or_int_ev hx5) rfl rfl rfl rfl ?_
  refine WO.s0 (v' := .d (.int .i64 x5)) rfl rfl (fun _ => rfl) rfl ?_
  refine WO.nil ⟨by kernel_rfl, ?_⟩
  refine WC.ret ?_
  obtain rfl := Option.some.inj h
  exact WC.done rfl rfl rfl
theorem ref03_compare_ev {a0 : (List UInt8)} {a1 : (List UInt8)} {r : Int} (h : ref03_compare a0 a1 = some r) : EvP prog hints ext 44 [.d (.str a0), .d (.str a1)] [] (.d (.int .i64 r), []) := by
  refine Ev.body rfl Tryd.func44 rfl (by kernel_rfl) ?_
  refine WC.regionSeq rfl rfl ?_
  refine WO.s0 (v' := .d (.int .i64 0)) rfl rfl (fun _ => rfl) rfl ?_
  refine WO.nil ?_
  refine WC.seq ?_
  refine WC.block ?_
  refine WC.regionSeq rfl rfl ?_
  refine WO.s0 (v' := .d (.str a0)) rfl rfl (fun _ => rfl) rfl ?_
  refine WO.s0 (v' := .d (.str a1)) rfl rfl (fun _ => rfl) rfl ?_
  refine ite_elim h (fun hb1 h => ?_) (fun hb1 h => ?_)
  · refine WO.s0 (v' := .d (.bool true)) rfl rfl (fun _ => rfl) (congrArg (fun b => RV.d (.bool b)) hb1) ?_
    refine WO.s0 (v' := .d (.bool true)) rfl rfl (fun _ => rfl) rfl ?_
    refine WO.nil ?_
    refine WC.condT rfl ?_
    refine WC.regionSeq rfl rfl ?_
    refine WO.s0 (v' := .d (.int .i64 (-1))) rfl rfl (fun _ => rfl) rfl ?_
    refine WO.nil ?_
    refine WC.ret ?_
    obtain rfl := Option.some.inj h
    exact WC.done rfl rfl rfl
  · refine WO.s0 (v' := .d (.bool false)) rfl rfl (fun _ => rfl) (congrArg (fun b => RV.d (.bool b)) hb1) ?_
    refine WO.s0 (v' := .d (.bool false)) rfl rfl (fun _ => rfl) rfl ?_
    refine WO.nil ?_
    refine WC.condF rfl ?_
    refine WC.regionSeq rfl rfl ?_
    refine WO.s0 (v' := .d (.str a0)) rfl rfl (fun _ => rfl) rfl ?_
    refine WO.s0 (v' := .d (.str a1)) rfl rfl (fun _ => rfl) rfl ?_
    refine ite_elim h (fun hb2 h => ?_) (fun hb2 h => ?_)
    · refine WO.s0 (v' := .d (.bool true)) rfl rfl (fun _ => rfl) (congrArg (fun b => RV.d (.bool b)) hb2) ?_
      refine WO.s0 (v' := .d (.bool true)) rfl rfl (fun _ => rfl) rfl ?_
      refine WO.nil ?_
      refine WC.condT rfl ?_
      refine WC.regionSeq rfl rfl ?_
      refine WO.s0 (v' := .d (.int .i64 1)) rfl rfl (fun _ => rfl) rfl ?_
      refine WO.nil ?_
      refine WC.ret ?_
      obtain rfl := Option.some.inj h
      exact WC.done rfl rfl rfl
    · refine WO.s0 (v' := .d (.bool false)) rfl rfl (fun _ => rfl) (congrArg (fun b => RV.d (.bool b)) hb2) ?_
      refine WO.s0 (v' := .d (.bool false)) rfl rfl (fun _ => rfl) rfl ?_
      refine WO.nil ?_
      refine WC.condF rfl ?_
      refine WC.skip ?_
      refine WC.regionSeq rfl rfl ?_
      refine WO.s0 (v' := .d (.int .i64 0)) rfl rfl (fun _ => rfl) rfl ?_
      refine WO.nil ?_
      refine WC.ret ?_
      obtain rfl := Option.some.inj h
      exact WC.done rfl rfl rfl
end Go.Dw.Sx
