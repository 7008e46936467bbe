/- SoEv: the code computes what the plain functions say (written by lift.py). -/
import Derived.Test.YtjlbpchimjjcpaaDoorSoFn
import Derived.Test.YtjlbpchimjjcpaaDoorProg

set_option maxRecDepth 100000
set_option maxHeartbeats 4000000
namespace Go.Dw.So
open Go.Proofs Go.Proofs.Tryd Go.Dw
def hintAt : FuncId → Nat → List Ghost := fun f id =>
  if f = 5 then (if id = 8 then [.keep [4, 5, 6] [64, 80, 96]] else if id = 10 then [.keep [4, 5, 6, 10, 11] [64, 80, 96]] else if id = 14 then [.keep [4, 5, 6, 10] [64, 80, 96]] else if id = 16 then [.keep [4, 5, 6, 10, 12, 85, 86, 87] [64, 80, 96]] else if id = 21 then [.keep [4, 5, 6, 10, 12] [64, 80, 96]] else []) else if f = 30 then (if id = 3 then [.keep [4, 10, 11, 12] []] else if id = 6 then [.keep [4, 6, 10, 11, 12, 17, 18] []] else if id = 11 then [.keep [4, 6, 10, 11, 12] []] else if id = 14 then [.keep [4] []] else []) else if f = 35 then (if id = 3 then [.keep [3, 6, 7, 8] []] else if id = 8 then [.keep [3] []] else []) else if f = 39 then (if id = 4 then [.keep [0, 3] [0]] else if id = 9 then [.keep [0, 3, 4, 5] [0]] else if id = 14 then [.keep [0, 3] [0]] else if id = 16 then [.keep [0] [0]] else []) else if f = 42 then (if id = 2 then [.keep [0, 1, 2, 9, 10] []] else if id = 7 then [.keep [0, 1, 2] []] else []) else []
def hints : Hints := { at_ := hintAt, mt := fun f i => (f == 37 && i == 5), by_ := fun f i => (f == 38 && i == 0) || (f == 39 && i == 0), own := fun f i => (f == 37 && i == 0) }
theorem eqE_28 (a b : T_api_SourceID) : binT prog .eql 28 (.d a.pd) (.d b.pd) = some (.bool ((a.fNetwork == b.fNetwork) && ((a.fStation == b.fStation) && ((a.fLocation == b.fLocation) && ((a.fChannel == b.fChannel) && true)))), true) := by kernel_rfl
theorem eqN_28 (a b : T_api_SourceID) : binT prog .neq 28 (.d a.pd) (.d b.pd) = some (.bool (!((a.fNetwork == b.fNetwork) && ((a.fStation == b.fStation) && ((a.fLocation == b.fLocation) && ((a.fChannel == b.fChannel) && true))))), true) := by kernel_rfl

theorem T_api_SourceID_inj : ∀ x y : T_api_SourceID, x.pd = y.pd → x = y := by
  rintro ⟨z1, z2, z3, z4⟩ ⟨z5, z6, z7, z8⟩ h
  cases h; rfl
def ext0 : FuncId → Option CallD := fun _ => none
theorem cmp_isNaN_string_ev0 {a0 : (List UInt8)} {r : Bool} (h : cmp_isNaN_string a0 = some r) : EvP prog hints ext0 52 [.d (.str a0)] [] (.d (.bool r), []) := by
  refine Ev.body rfl Tryd.func52 rfl (by kernel_rfl) ?_
  refine WC.regionSeq rfl rfl ?_
  refine WO.s0 (v' := .d (.bool false)) rfl rfl (fun _ => rfl) rfl ?_
  refine WO.nil ?_
  refine WC.regionSeq rfl rfl ?_
  refine WO.s0 (v' := .d (.str a0)) rfl rfl (fun _ => rfl) rfl ?_
  refine WO.s0 (v' := .d (.str a0)) rfl rfl (fun _ => rfl) rfl ?_
  refine WO.s0 (v' := .d (.bool (!(a0 == a0)))) rfl rfl (fun _ => rfl) rfl ?_
  refine WO.s0 (v' := .d (.bool (!(a0 == a0)))) rfl rfl (fun _ => rfl) rfl ?_
  refine WO.nil ?_
  refine WC.ret ?_
  obtain rfl := Option.some.inj h
  exact WC.done rfl rfl rfl
theorem cmp_Compare_string_ev0 {a0 : (List UInt8)} {a1 : (List UInt8)} {r : Int} (h : cmp_Compare_string a0 a1 = some r) : EvP prog hints ext0 36 [.d (.str a0), .d (.str a1)] [] (.d (.int .i64 r), []) := by
  refine Ev.body rfl Tryd.func36 rfl (by kernel_rfl) ?_
  refine WC.regionSeq rfl rfl ?_
  refine WO.s0 (v' := .d (.int .i64 0)) rfl rfl (fun _ => rfl) rfl ?_
  refine WO.nil ?_
  refine WC.regionSeq rfl rfl ?_
  refine WO.s0 (v' := .d (.str a0)) rfl rfl (fun _ => rfl) rfl ?_
  refine bind_elim h (fun x1 hx1 h => ?_)
  refine WO.callR (v := .d (.bool x1)) (u := []) rfl rfl (fun _ => rfl) rfl rfl rfl rfl rfl (cmp_isNaN_string_ev0 hx1) rfl rfl rfl rfl ?_
  refine WO.s0 (v' := .d (.bool x1)) rfl rfl (fun _ => rfl) rfl ?_
  refine WO.nil ?_
  refine WC.regionSeq rfl rfl ?_
  refine WO.s0 (v' := .d (.str a1)) rfl rfl (fun _ => rfl) rfl ?_
  refine bind_elim h (fun x2 hx2 h => ?_)
  refine WO.callR (v := .d (.bool x2)) (u := []) rfl rfl (fun _ => rfl) rfl rfl rfl rfl rfl (cmp_isNaN_string_ev0 hx2) rfl rfl rfl rfl ?_
  refine WO.s0 (v' := .d (.bool x2)) rfl rfl (fun _ => rfl) rfl ?_
  refine WO.nil ?_
  refine WC.seq ?_
  refine WC.regionSeq rfl rfl ?_
  refine ite_elim h (fun hb3 h => ?_) (fun hb3 h => ?_)
  · refine WO.s0 (v' := .d (.bool true)) rfl rfl (fun _ => rfl) (congrArg (fun b => RV.d (.bool b)) hb3) ?_
    refine WO.nil ?_
    refine WC.condT rfl ?_
    refine WC.seq ?_
    refine WC.regionSeq rfl rfl ?_
    refine ite_elim h (fun hb4 h => ?_) (fun hb4 h => ?_)
    · refine WO.s0 (v' := .d (.bool true)) rfl rfl (fun _ => rfl) (congrArg (fun b => RV.d (.bool b)) hb4) ?_
      refine WO.nil ?_
      refine WC.condT rfl ?_
      refine WC.regionSeq rfl rfl ?_
      refine WO.s0 (v' := .d (.int .i64 0)) rfl rfl (fun _ => rfl) rfl ?_
      refine WO.nil ?_
      refine WC.ret ?_
      obtain rfl := Option.some.inj h
      exact WC.done rfl rfl rfl
    · refine WO.s0 (v' := .d (.bool false)) rfl rfl (fun _ => rfl) (congrArg (fun b => RV.d (.bool b)) hb4) ?_
      refine WO.nil ?_
      refine WC.condF rfl ?_
      refine WC.skip ?_
      refine WC.regionSeq rfl rfl ?_
      refine WO.s0 (v' := .d (.int .i64 (-1))) rfl rfl (fun _ => rfl) rfl ?_
      refine WO.nil ?_
      refine WC.ret ?_
      obtain rfl := Option.some.inj h
      exact WC.done rfl rfl rfl
  · refine WO.s0 (v' := .d (.bool false)) rfl rfl (fun _ => rfl) (congrArg (fun b => RV.d (.bool b)) hb3) ?_
    refine WO.nil ?_
    refine WC.condF rfl ?_
    refine WC.skip ?_
    refine WC.seq ?_
    refine WC.regionSeq rfl rfl ?_
    refine ite_elim h (fun hb5 h => ?_) (fun hb5 h => ?_)
    · refine WO.s0 (v' := .d (.bool true)) rfl rfl (fun _ => rfl) (congrArg (fun b => RV.d (.bool b)) hb5) ?_
      refine WO.nil ?_
      refine WC.condT rfl ?_
      refine WC.regionSeq rfl rfl ?_
      refine WO.s0 (v' := .d (.int .i64 1)) rfl rfl (fun _ => rfl) rfl ?_
      refine WO.nil ?_
      refine WC.ret ?_
      obtain rfl := Option.some.inj h
      exact WC.done rfl rfl rfl
    · refine WO.s0 (v' := .d (.bool false)) rfl rfl (fun _ => rfl) (congrArg (fun b => RV.d (.bool b)) hb5) ?_
      refine WO.nil ?_
      refine WC.condF rfl ?_
      refine WC.skip ?_
      refine WC.seq ?_
      refine WC.regionSeq rfl rfl ?_
      refine WO.s0 (v' := .d (.str a0)) rfl rfl (fun _ => rfl) rfl ?_
      refine WO.s0 (v' := .d (.str a1)) rfl rfl (fun _ => rfl) rfl ?_
      refine ite_elim h (fun hb6 h => ?_) (fun hb6 h => ?_)
      · refine WO.s0 (v' := .d (.bool true)) rfl rfl (fun _ => rfl) (congrArg (fun b => RV.d (.bool b)) hb6) ?_
        refine WO.nil ?_
        refine WC.condT rfl ?_
        refine WC.regionSeq rfl rfl ?_
        refine WO.s0 (v' := .d (.int .i64 (-1))) rfl rfl (fun _ => rfl) rfl ?_
        refine WO.nil ?_
        refine WC.ret ?_
        obtain rfl := Option.some.inj h
        exact WC.done rfl rfl rfl
      · refine WO.s0 (v' := .d (.bool false)) rfl rfl (fun _ => rfl) (congrArg (fun b => RV.d (.bool b)) hb6) ?_
        refine WO.nil ?_
        refine WC.condF rfl ?_
        refine WC.skip ?_
        refine WC.seq ?_
        refine WC.regionSeq rfl rfl ?_
        refine WO.s0 (v' := .d (.str a0)) rfl rfl (fun _ => rfl) rfl ?_
        refine WO.s0 (v' := .d (.str a1)) rfl rfl (fun _ => rfl) rfl ?_
        refine ite_elim h (fun hb7 h => ?_) (fun hb7 h => ?_)
        · refine WO.s0 (v' := .d (.bool true)) rfl rfl (fun _ => rfl) (congrArg (fun b => RV.d (.bool b)) hb7) ?_
          refine WO.nil ?_
          refine WC.condT rfl ?_
          refine WC.regionSeq rfl rfl ?_
          refine WO.s0 (v' := .d (.int .i64 1)) rfl rfl (fun _ => rfl) rfl ?_
          refine WO.nil ?_
          refine WC.ret ?_
          obtain rfl := Option.some.inj h
          exact WC.done rfl rfl rfl
        · refine WO.s0 (v' := .d (.bool false)) rfl rfl (fun _ => rfl) (congrArg (fun b => RV.d (.bool b)) hb7) ?_
          refine WO.nil ?_
          refine WC.condF rfl ?_
          refine WC.skip ?_
          refine WC.regionSeq rfl rfl ?_
          refine WO.s0 (v' := .d (.int .i64 0)) rfl rfl (fun _ => rfl) rfl ?_
          refine WO.nil ?_
          refine WC.ret ?_
          obtain rfl := Option.some.inj h
          exact WC.done rfl rfl rfl
theorem cmp_Or_int_ev0 {a0 : (List Int)} {r : Int} (h : cmp_Or_int a0 = some r) : EvP prog hints ext0 35 [.d (.lst (a0.map (PD.int .i64)))] [] (.d (.int .i64 r), []) := by
  refine Ev.body rfl Tryd.func35 rfl (by kernel_rfl) ?_
  refine WC.regionSeq rfl rfl ?_
  refine WO.s0 (v' := .d (.int .i64 0)) rfl rfl (fun _ => rfl) rfl ?_
  refine WO.nil ?_
  refine WC.regionSeq rfl rfl ?_
  refine WO.s0 (v' := .d (.int .i64 0)) rfl rfl (fun _ => rfl) rfl ?_
  refine WO.nil ?_
  refine WC.seq ?_
  refine WC.regionSeq rfl rfl ?_
  refine WO.s0 (v' := .d (.lst (a0.map (PD.int .i64)))) rfl rfl (fun _ => rfl) rfl ?_
  refine WO.s0 (v' := .d (.int .i64 (a0.length : Int))) rfl rfl (fun _ => rfl) (lenMap _ _) ?_
  refine WO.s0 (v' := .d (.int .i64 0)) rfl rfl (fun _ => rfl) rfl ?_
  refine WO.nil ?_
  refine bind_elim h (fun o7 ho7 h => ?_)
  refine WC.block (WC.loop (WL.ofLoop ho7 (fun s R' B' => ghosts prog 0 (A R' B') (hints.at_ 35 3) = some (A [(3, .d (.int .i64 0)), (6, .d (.lst (a0.map (PD.int .i64)))), (7, .d (.int .i64 (a0.length : Int))), (8, .d (.int .i64 s))] [])) (fun o e R' B' => match o with | .inl y => e = .exit 0 ∧ ghosts prog 0 (A R' B') (hints.at_ 35 8) = some (A [(3, .d (.int .i64 0))] []) | .inr r => e = .ret ∧ finish prog (hints.own 35) Tryd.f35 0 (A R' B') = some (.d (.int .i64 r), [])) rfl ?_ ?_))
  · rintro s1 R' B' q2 hI h
    refine WC.regionSeq hI rfl ?_
    refine ite_elim h (fun hb3 h => ?_) (fun hb3 h => ?_)
    · refine WO.s0 (v' := .d (.bool true)) rfl rfl (fun _ => rfl) (congrArg (fun b => RV.d (.bool b)) hb3) ?_
      refine WO.nil ?_
      refine WC.seq ?_
      refine WC.condT rfl ?_
      refine WC.skip ?_
      refine WC.seq ?_
      refine WC.block ?_
      refine WC.regionSeq rfl rfl ?_
      refine bind_elim h (fun x4 hx4 h => ?_)
      refine WO.elemG hx4 rfl rfl rfl rfl rfl rfl rfl rfl rfl ?_
      refine WO.s0 (v' := .d (.int .i64 x4)) rfl rfl (fun _ => rfl) rfl ?_
      refine WO.s0 (v' := .d (.int .i64 x4)) rfl rfl (fun _ => rfl) rfl ?_
      refine WO.nil ?_
      refine WC.regionSeq rfl rfl ?_
      refine WO.s0 (v' := .d (.int .i64 x4)) rfl rfl (fun _ => rfl) rfl ?_
      refine WO.s0 (v' := .d (.int .i64 0)) rfl rfl (fun _ => rfl) rfl ?_
      refine ite_elim h (fun hb5 h => ?_) (fun hb5 h => ?_)
      · refine WO.s0 (v' := .d (.bool true)) rfl rfl (fun _ => rfl) (congrArg (fun b => RV.d (.bool b)) hb5) ?_
        refine WO.nil ?_
        refine WC.condT rfl ?_
        refine WC.regionSeq rfl rfl ?_
        refine WO.s0 (v' := .d (.int .i64 x4)) rfl rfl (fun _ => rfl) rfl ?_
        refine WO.s0 (v' := .d (.int .i64 x4)) rfl rfl (fun _ => rfl) rfl ?_
        refine WO.nil ?_
        refine WC.ret ?_
        obtain rfl := Option.some.inj h
        exact ⟨(fun he => by cases he), rfl, rfl⟩
      · refine WO.s0 (v' := .d (.bool false)) rfl rfl (fun _ => rfl) (congrArg (fun b => RV.d (.bool b)) hb5) ?_
        refine WO.nil ?_
        refine WC.condF rfl ?_
        refine WC.skip ?_
        refine WC.region rfl rfl ?_
        refine WO.s0 (v' := .d (.int .i64 (IntKind.wrap .i64 (s1 + (1 : Int))))) rfl rfl (fun _ => rfl) rfl ?_
        refine WO.s0 (v' := .d (.int .i64 (IntKind.wrap .i64 (s1 + (1 : Int))))) rfl rfl (fun _ => rfl) rfl ?_
        refine WO.nil ?_
        obtain rfl := Option.some.inj h
        exact ⟨rfl, rfl⟩
    · refine WO.s0 (v' := .d (.bool false)) rfl rfl (fun _ => rfl) (congrArg (fun b => RV.d (.bool b)) hb3) ?_
      refine WO.nil ?_
      refine WC.seq ?_
      refine WC.condF rfl ?_
      refine WC.exit ?_
      obtain rfl := Option.some.inj h
      exact ⟨(fun he => by cases he), rfl, rfl⟩
  · intro e R' B' he hq
    rcases o7 with y8 | r9
    · obtain ⟨rfl, hI⟩ := hq
      refine ⟨fun _ => ?_, fun hne => (hne rfl).elim⟩
      refine WC.regionSeq hI rfl ?_
      refine WO.s0 (v' := .d (.int .i64 0)) rfl rfl (fun _ => rfl) rfl ?_
      refine WO.s0 (v' := .d (.int .i64 0)) rfl rfl (fun _ => rfl) rfl ?_
      refine WO.nil ?_
      refine WC.ret ?_
      obtain rfl := Option.some.inj h
      exact WC.done rfl rfl rfl
    · obtain ⟨rfl, hf⟩ := hq
      obtain rfl := Option.some.inj h
      exact hf
theorem source_Compare_ev0 {a0 : T_api_SourceID} {a1 : T_api_SourceID} {r : Int} (h : source_Compare a0 a1 = some r) : EvP prog hints ext0 16 [.d (T_api_SourceID.pd a0), .d (T_api_SourceID.pd a1)] [] (.d (.int .i64 r), []) := by
  refine Ev.body rfl Tryd.func16 rfl (by kernel_rfl) ?_
  refine WC.regionSeq rfl rfl ?_
  refine WO.s1 (v := .ptr 32 0) (id := 32) (bx := .var [.d (.str a0.fNetwork), .d (.str a0.fStation), .d (.str a0.fLocation), .d (.str a0.fChannel)]) rfl rfl (fun _ => rfl) ?_
  refine WO.s1 (v := .ptr 48 0) (id := 48) (bx := .var [.d (.str a1.fNetwork), .d (.str a1.fStation), .d (.str a1.fLocation), .d (.str a1.fChannel)]) rfl rfl (fun _ => rfl) ?_
  refine WO.s0 (v' := .d (.int .i64 0)) rfl rfl (fun _ => rfl) rfl ?_
  refine WO.nil ?_
  refine WC.regionDSeq rfl rfl ?_
  refine WO.s0 (v' := .ptr 32 0) rfl rfl (fun _ => rfl) rfl ?_
  refine WO.s0 (v' := .d (.str a0.fNetwork)) rfl rfl (fun _ => rfl) rfl ?_
  refine WO.s0 (v' := .ptr 48 0) rfl rfl (fun _ => rfl) rfl ?_
  refine WO.s0 (v' := .d (.str a1.fNetwork)) rfl rfl (fun _ => rfl) rfl ?_
  refine bind_elim h (fun x1 hx1 h => ?_)
  refine WO.callR (v := .d (.int .i64 x1)) (u := []) rfl rfl (fun _ => rfl) rfl rfl rfl rfl rfl (cmp_Compare_string_ev0 hx1) rfl rfl rfl rfl ?_
  refine WO.s0 (v' := .ptr 32 1) rfl rfl (fun _ => rfl) rfl ?_
  refine WO.s0 (v' := .d (.str a0.fStation)) rfl rfl (fun _ => rfl) rfl ?_
  refine WO.s0 (v' := .ptr 48 1) rfl rfl (fun _ => rfl) rfl ?_
  refine WO.s0 (v' := .d (.str a1.fStation)) rfl rfl (fun _ => rfl) rfl ?_
  refine bind_elim h (fun x2 hx2 h => ?_)
  refine WO.callR (v := .d (.int .i64 x2)) (u := []) rfl rfl (fun _ => rfl) rfl rfl rfl rfl rfl (cmp_Compare_string_ev0 hx2) rfl rfl rfl rfl ?_
  refine WO.s0 (v' := .ptr 32 2) rfl rfl (fun _ => rfl) rfl ?_
  refine WO.s0 (v' := .d (.str a0.fLocation)) rfl rfl (fun _ => rfl) rfl ?_
  refine WO.s0 (v' := .ptr 48 2) rfl rfl (fun _ => rfl) rfl ?_
  refine WO.s0 (v' := .d (.str a1.fLocation)) rfl rfl (fun _ => rfl) rfl ?_
  refine bind_elim h (fun x3 hx3 h => ?_)
  refine WO.callR (v := .d (.int .i64 x3)) (u := []) rfl rfl (fun _ => rfl) rfl rfl rfl rfl rfl (cmp_Compare_string_ev0 hx3) rfl rfl rfl rfl ?_
  refine WO.s0 (v' := .ptr 32 3) rfl rfl (fun _ => rfl) rfl ?_
  refine WO.s0 (v' := .d (.str a0.fChannel)) rfl rfl (fun _ => rfl) rfl ?_
  refine WO.s0 (v' := .ptr 48 3) rfl rfl (fun _ => rfl) rfl ?_
  refine WO.s0 (v' := .d (.str a1.fChannel)) rfl rfl (fun _ => rfl) rfl ?_
  refine bind_elim h (fun x4 hx4 h => ?_)
  refine WO.callR (v := .d (.int .i64 x4)) (u := []) rfl rfl (fun _ => rfl) rfl rfl rfl rfl rfl (cmp_Compare_string_ev0 hx4) rfl rfl rfl rfl ?_
  refine WO.s0 (v' := .d (.lst ([x1, x2, x3, x4].map (PD.int .i64)))) rfl rfl (fun _ => rfl) rfl ?_
  refine bind_elim h (fun x5 hx5 h => ?_)
  refine WO.callR (v := .d (.int .i64 x5)) (u := []) rfl rfl (fun _ => rfl) rfl rfl rfl rfl rfl (cmp_Or_int_ev0 hx5) rfl rfl rfl rfl ?_
  refine WO.s0 (v' := .d (.int .i64 x5)) rfl rfl (fun _ => rfl) rfl ?_
  refine WO.nil ⟨by kernel_rfl, ?_⟩
  refine WC.ret ?_
  obtain rfl := Option.some.inj h
  exact WC.done rfl rfl rfl
noncomputable def ext : FuncId → Option CallD := fun f => if f = 34 then some splitD else if f = 38 then some (sortD 16 28 T_api_SourceID.pd source_Compare) else none
theorem sort_38_16 {l r : List T_api_SourceID} (h : sortO source_Compare l = some r) : EvP prog hints ext 38 [.ref 0 0, .d (.raw (.func (.func 16) #[] #[]))] [.arr 0 28 (l.map T_api_SourceID.pd)] (.tup [], [.arr 0 28 (r.map T_api_SourceID.pd)]) := sort_ev rfl (sortD_of T_api_SourceID_inj h)
theorem made_Light_ev {a0 : (List Int)} {r : Bool} (h : made_Light a0 = some r) : EvP prog hints ext 7 [.d (.lst (a0.map (PD.int .i64)))] [] (.d (.bool r), []) := by
  refine Ev.body rfl Tryd.func7 rfl (by kernel_rfl) ?_
  refine WC.regionSeq rfl rfl ?_
  refine WO.s0 (v' := .d (.bool false)) rfl rfl (fun _ => rfl) rfl ?_
  refine WO.nil ?_
  refine WC.regionSeq rfl rfl ?_
  refine WO.s0 (v' := .d (.lst (a0.map (PD.int .i64)))) rfl rfl (fun _ => rfl) rfl ?_
  refine WO.s0 (v' := .d (.int .i64 (a0.length : Int))) rfl rfl (fun _ => rfl) (lenMap _ _) ?_
  refine WO.s0 (v' := .d (.bool (decide ((a0.length : Int) ≤ (500 : Int))))) rfl rfl (fun _ => rfl) rfl ?_
  refine WO.s0 (v' := .d (.bool (decide ((a0.length : Int) ≤ (500 : Int))))) rfl rfl (fun _ => rfl) rfl ?_
  refine WO.nil ?_
  refine WC.ret ?_
  obtain rfl := Option.some.inj h
  exact WC.done rfl rfl rfl
theorem source_plain_ev {a0 : Int} {r : Bool} (h : source_plain a0 = some r) : EvP prog hints ext 46 [.d (.int .u8 a0)] [] (.d (.bool r), []) := by
  refine Ev.body rfl Tryd.func46 rfl (by kernel_rfl) ?_
  refine WC.regionSeq rfl rfl ?_
  refine WO.s0 (v' := .d (.bool false)) rfl rfl (fun _ => rfl) rfl ?_
  refine WO.nil ?_
  refine WC.regionSeq rfl rfl ?_
  refine WO.s0 (v' := .d (.int .u8 a0)) rfl rfl (fun _ => rfl) rfl ?_
  refine ite_elim h (fun hb1 h => ?_) (fun hb1 h => ?_)
  · refine WO.s0 (v' := .d (.bool true)) rfl rfl (fun _ => rfl) (congrArg (fun b => RV.d (.bool b)) hb1) ?_
    refine WO.s0 (v' := .d (.bool true)) rfl rfl (fun _ => rfl) rfl ?_
    refine WO.s0 (v' := .d (.int .u8 a0)) rfl rfl (fun _ => rfl) rfl ?_
    refine WO.s0 (v' := .d (.bool (decide (a0 ≤ (90 : Int))))) rfl rfl (fun _ => rfl) rfl ?_
    refine ite_elim h (fun hb2 h => ?_) (fun hb2 h => ?_)
    · refine WO.s0 (v' := .d (.bool true)) rfl rfl (fun _ => rfl) (congrArg (fun b => RV.d (.bool b)) hb2) ?_
      refine WO.s0 (v' := .d (.bool true)) rfl rfl (fun _ => rfl) rfl ?_
      refine WO.skip rfl rfl ?_
      refine WO.skip rfl rfl ?_
      refine WO.skip rfl rfl ?_
      refine WO.skip rfl rfl ?_
      refine WO.skip rfl rfl ?_
      refine WO.skip rfl rfl ?_
      refine WO.s0 (v' := .d (.bool true)) rfl rfl (fun _ => rfl) rfl ?_
      refine WO.s0 (v' := .d (.bool true)) rfl rfl (fun _ => rfl) rfl ?_
      refine WO.nil ?_
      refine WC.ret ?_
      obtain rfl := Option.some.inj h
      exact WC.done rfl rfl rfl
    · refine WO.s0 (v' := .d (.bool false)) rfl rfl (fun _ => rfl) (congrArg (fun b => RV.d (.bool b)) hb2) ?_
      refine WO.s0 (v' := .d (.bool false)) rfl rfl (fun _ => rfl) rfl ?_
      refine WO.s0 (v' := .d (.int .u8 a0)) rfl rfl (fun _ => rfl) rfl ?_
      refine ite_elim h (fun hb3 h => ?_) (fun hb3 h => ?_)
      · refine WO.s0 (v' := .d (.bool true)) rfl rfl (fun _ => rfl) (congrArg (fun b => RV.d (.bool b)) hb3) ?_
        refine WO.s0 (v' := .d (.bool true)) rfl rfl (fun _ => rfl) rfl ?_
        refine WO.s0 (v' := .d (.int .u8 a0)) rfl rfl (fun _ => rfl) rfl ?_
        refine WO.s0 (v' := .d (.bool (decide (a0 ≤ (57 : Int))))) rfl rfl (fun _ => rfl) rfl ?_
        refine WO.s0 (v' := .d (.bool (decide (a0 ≤ (57 : Int))))) rfl rfl (fun _ => rfl) rfl ?_
        refine WO.s0 (v' := .d (.bool (decide (a0 ≤ (57 : Int))))) rfl rfl (fun _ => rfl) rfl ?_
        refine WO.s0 (v' := .d (.bool (decide (a0 ≤ (57 : Int))))) rfl rfl (fun _ => rfl) rfl ?_
        refine WO.nil ?_
        refine WC.ret ?_
        obtain rfl := Option.some.inj h
        exact WC.done rfl rfl rfl
      · refine WO.s0 (v' := .d (.bool false)) rfl rfl (fun _ => rfl) (congrArg (fun b => RV.d (.bool b)) hb3) ?_
        refine WO.s0 (v' := .d (.bool false)) rfl rfl (fun _ => rfl) rfl ?_
        refine WO.skip rfl rfl ?_
        refine WO.skip rfl rfl ?_
        refine WO.s0 (v' := .d (.bool false)) rfl rfl (fun _ => rfl) rfl ?_
        refine WO.s0 (v' := .d (.bool false)) rfl rfl (fun _ => rfl) rfl ?_
        refine WO.s0 (v' := .d (.bool false)) rfl rfl (fun _ => rfl) rfl ?_
        refine WO.nil ?_
        refine WC.ret ?_
        obtain rfl := Option.some.inj h
        exact WC.done rfl rfl rfl
  · refine WO.s0 (v' := .d (.bool false)) rfl rfl (fun _ => rfl) (congrArg (fun b => RV.d (.bool b)) hb1) ?_
    refine WO.s0 (v' := .d (.bool false)) rfl rfl (fun _ => rfl) rfl ?_
    refine WO.skip rfl rfl ?_
    refine WO.skip rfl rfl ?_
    refine WO.s0 (v' := .d (.bool false)) rfl rfl (fun _ => rfl) rfl ?_
    refine WO.s0 (v' := .d (.bool false)) rfl rfl (fun _ => rfl) rfl ?_
    refine WO.s0 (v' := .d (.int .u8 a0)) rfl rfl (fun _ => rfl) rfl ?_
    refine ite_elim h (fun hb4 h => ?_) (fun hb4 h => ?_)
    · refine WO.s0 (v' := .d (.bool true)) rfl rfl (fun _ => rfl) (congrArg (fun b => RV.d (.bool b)) hb4) ?_
      refine WO.s0 (v' := .d (.bool true)) rfl rfl (fun _ => rfl) rfl ?_
      refine WO.s0 (v' := .d (.int .u8 a0)) rfl rfl (fun _ => rfl) rfl ?_
      refine WO.s0 (v' := .d (.bool (decide (a0 ≤ (57 : Int))))) rfl rfl (fun _ => rfl) rfl ?_
      refine WO.s0 (v' := .d (.bool (decide (a0 ≤ (57 : Int))))) rfl rfl (fun _ => rfl) rfl ?_
      refine WO.s0 (v' := .d (.bool (decide (a0 ≤ (57 : Int))))) rfl rfl (fun _ => rfl) rfl ?_
      refine WO.s0 (v' := .d (.bool (decide (a0 ≤ (57 : Int))))) rfl rfl (fun _ => rfl) rfl ?_
      refine WO.nil ?_
      refine WC.ret ?_
      obtain rfl := Option.some.inj h
      exact WC.done rfl rfl rfl
    · refine WO.s0 (v' := .d (.bool false)) rfl rfl (fun _ => rfl) (congrArg (fun b => RV.d (.bool b)) hb4) ?_
      refine WO.s0 (v' := .d (.bool false)) rfl rfl (fun _ => rfl) rfl ?_
      refine WO.skip rfl rfl ?_
      refine WO.skip rfl rfl ?_
      refine WO.s0 (v' := .d (.bool false)) rfl rfl (fun _ => rfl) rfl ?_
      refine WO.s0 (v' := .d (.bool false)) rfl rfl (fun _ => rfl) rfl ?_
      refine WO.s0 (v' := .d (.bool false)) rfl rfl (fun _ => rfl) rfl ?_
      refine WO.nil ?_
      refine WC.ret ?_
      obtain rfl := Option.some.inj h
      exact WC.done rfl rfl rfl
theorem source_code_ev {a0 : (List UInt8)} {a1 : Int} {a2 : Int} {r : Bool} (h : source_code a0 a1 a2 = some r) : EvP prog hints ext 42 [.d (.str a0), .d (.int .i64 a1), .d (.int .i64 a2)] [] (.d (.bool r), []) := by
  refine Ev.body rfl Tryd.func42 rfl (by kernel_rfl) ?_
  refine WC.regionSeq rfl rfl ?_
  refine WO.s0 (v' := .d (.bool false)) rfl rfl (fun _ => rfl) rfl ?_
  refine WO.nil ?_
  refine WC.seq ?_
  refine WC.regionSeq rfl rfl ?_
  refine WO.s0 (v' := .d (.str a0)) rfl rfl (fun _ => rfl) rfl ?_
  refine WO.s0 (v' := .d (.int .i64 (a0.length : Int))) rfl rfl (fun _ => rfl) rfl ?_
  refine WO.s0 (v' := .d (.int .i64 0)) rfl rfl (fun _ => rfl) rfl ?_
  refine WO.nil ?_
  refine bind_elim h (fun o8 ho8 h => ?_)
  refine WC.block (WC.loop (WL.ofLoop ho8 (fun s R' B' => ghosts prog 0 (A R' B') (hints.at_ 42 2) = some (A [(0, .d (.str a0)), (1, .d (.int .i64 a1)), (2, .d (.int .i64 a2)), (9, .d (.int .i64 (a0.length : Int))), (10, .d (.int .i64 s))] [])) (fun o e R' B' => match o with | .inl y => e = .exit 0 ∧ ghosts prog 0 (A R' B') (hints.at_ 42 7) = some (A [(0, .d (.str a0)), (1, .d (.int .i64 a1)), (2, .d (.int .i64 a2))] []) | .inr r => e = .ret ∧ finish prog (hints.own 42) Tryd.f42 0 (A R' B') = some (.d (.bool r), [])) rfl ?_ ?_))
  · rintro s1 R' B' q2 hI h
    refine WC.regionSeq hI rfl ?_
    refine ite_elim h (fun hb3 h => ?_) (fun hb3 h => ?_)
    · refine WO.s0 (v' := .d (.bool true)) rfl rfl (fun _ => rfl) (congrArg (fun b => RV.d (.bool b)) hb3) ?_
      refine WO.nil ?_
      refine WC.seq ?_
      refine WC.condT rfl ?_
      refine WC.skip ?_
      refine WC.seq ?_
      refine WC.block ?_
      refine WC.regionSeq rfl rfl ?_
      refine WO.s0 (v' := .d (.int .i64 s1)) rfl rfl (fun _ => rfl) rfl ?_
      refine WO.s0 (v' := .d (.int .i64 s1)) rfl rfl (fun _ => rfl) rfl ?_
      refine WO.nil ?_
      refine WC.regionSeq rfl rfl ?_
      refine WO.s0 (v' := .d (.str a0)) rfl rfl (fun _ => rfl) rfl ?_
      refine WO.s0 (v' := .d (.int .i64 s1)) rfl rfl (fun _ => rfl) rfl ?_
      refine bind_elim h (fun x4 hx4 h => ?_)
      refine WO.byteG hx4 rfl rfl rfl rfl rfl rfl ?_
      refine bind_elim h (fun x5 hx5 h => ?_)
      refine WO.callR (v := .d (.bool x5)) (u := []) rfl rfl (fun _ => rfl) rfl rfl rfl rfl rfl (source_plain_ev hx5) rfl rfl rfl rfl ?_
      refine ite_elim h (fun hb6 h => ?_) (fun hb6 h => ?_)
      · refine WO.s0 (v' := .d (.bool true)) rfl rfl (fun _ => rfl) (congrArg (fun b => RV.d (.bool b)) hb6) ?_
        refine WO.nil ?_
        refine WC.condT rfl ?_
        refine WC.regionSeq rfl rfl ?_
        refine WO.s0 (v' := .d (.bool false)) rfl rfl (fun _ => rfl) rfl ?_
        refine WO.nil ?_
        refine WC.ret ?_
        obtain rfl := Option.some.inj h
        exact ⟨(fun he => by cases he), rfl, rfl⟩
      · refine WO.s0 (v' := .d (.bool false)) rfl rfl (fun _ => rfl) (congrArg (fun b => RV.d (.bool b)) hb6) ?_
        refine WO.nil ?_
        refine WC.condF rfl ?_
        refine WC.skip ?_
        refine WC.region rfl rfl ?_
        refine WO.s0 (v' := .d (.int .i64 (IntKind.wrap .i64 (s1 + (1 : Int))))) rfl rfl (fun _ => rfl) rfl ?_
        refine WO.s0 (v' := .d (.int .i64 (IntKind.wrap .i64 (s1 + (1 : Int))))) rfl rfl (fun _ => rfl) rfl ?_
        refine WO.nil ?_
        obtain rfl := Option.some.inj h
        exact ⟨rfl, rfl⟩
    · refine WO.s0 (v' := .d (.bool false)) rfl rfl (fun _ => rfl) (congrArg (fun b => RV.d (.bool b)) hb3) ?_
      refine WO.nil ?_
      refine WC.seq ?_
      refine WC.condF rfl ?_
      refine WC.exit ?_
      obtain rfl := Option.some.inj h
      exact ⟨(fun he => by cases he), rfl, rfl⟩
  · intro e R' B' he hq
    rcases o8 with y9 | r10
    · obtain ⟨rfl, hI⟩ := hq
      refine ⟨fun _ => ?_, fun hne => (hne rfl).elim⟩
      refine WC.regionSeq hI rfl ?_
      refine WO.s0 (v' := .d (.str a0)) rfl rfl (fun _ => rfl) rfl ?_
      refine WO.s0 (v' := .d (.int .i64 (a0.length : Int))) rfl rfl (fun _ => rfl) rfl ?_
      refine WO.s0 (v' := .d (.int .i64 a1)) rfl rfl (fun _ => rfl) rfl ?_
      refine ite_elim h (fun hb11 h => ?_) (fun hb11 h => ?_)
      · refine WO.s0 (v' := .d (.bool true)) rfl rfl (fun _ => rfl) (congrArg (fun b => RV.d (.bool b)) hb11) ?_
        refine WO.s0 (v' := .d (.bool true)) rfl rfl (fun _ => rfl) rfl ?_
        refine WO.s0 (v' := .d (.str a0)) rfl rfl (fun _ => rfl) rfl ?_
        refine WO.s0 (v' := .d (.int .i64 (a0.length : Int))) rfl rfl (fun _ => rfl) rfl ?_
        refine WO.s0 (v' := .d (.int .i64 a2)) rfl rfl (fun _ => rfl) rfl ?_
        refine WO.s0 (v' := .d (.bool (decide ((a0.length : Int) ≤ a2)))) rfl rfl (fun _ => rfl) rfl ?_
        refine WO.s0 (v' := .d (.bool (decide ((a0.length : Int) ≤ a2)))) rfl rfl (fun _ => rfl) rfl ?_
        refine WO.s0 (v' := .d (.bool (decide ((a0.length : Int) ≤ a2)))) rfl rfl (fun _ => rfl) rfl ?_
        refine WO.nil ?_
        refine WC.ret ?_
        obtain rfl := Option.some.inj h
        exact WC.done rfl rfl rfl
      · refine WO.s0 (v' := .d (.bool false)) rfl rfl (fun _ => rfl) (congrArg (fun b => RV.d (.bool b)) hb11) ?_
        refine WO.s0 (v' := .d (.bool false)) rfl rfl (fun _ => rfl) rfl ?_
        refine WO.skip rfl rfl ?_
        refine WO.skip rfl rfl ?_
        refine WO.skip rfl rfl ?_
        refine WO.skip rfl rfl ?_
        refine WO.s0 (v' := .d (.bool false)) rfl rfl (fun _ => rfl) rfl ?_
        refine WO.s0 (v' := .d (.bool false)) rfl rfl (fun _ => rfl) rfl ?_
        refine WO.nil ?_
        refine WC.ret ?_
        obtain rfl := Option.some.inj h
        exact WC.done rfl rfl rfl
    · obtain ⟨rfl, hf⟩ := hq
      obtain rfl := Option.some.inj h
      exact hf
theorem source_Valid_ev {a0 : T_api_SourceID} {r : Bool} (h : source_Valid a0 = some r) : EvP prog hints ext 21 [.d (T_api_SourceID.pd a0)] [] (.d (.bool r), []) := by
  refine Ev.body rfl Tryd.func21 rfl (by kernel_rfl) ?_
  refine WC.regionSeq rfl rfl ?_
  refine WO.s1 (v := .ptr 16 0) (id := 16) (bx := .var [.d (.str a0.fNetwork), .d (.str a0.fStation), .d (.str a0.fLocation), .d (.str a0.fChannel)]) rfl rfl (fun _ => rfl) ?_
  refine WO.s0 (v' := .d (.bool false)) rfl rfl (fun _ => rfl) rfl ?_
  refine WO.nil ?_
  refine WC.regionSeq rfl rfl ?_
  refine WO.s0 (v' := .ptr 16 0) rfl rfl (fun _ => rfl) rfl ?_
  refine WO.s0 (v' := .d (.str a0.fNetwork)) rfl rfl (fun _ => rfl) rfl ?_
  refine bind_elim h (fun x1 hx1 h => ?_)
  refine ite_elim h (fun hb2 h => ?_) (fun hb2 h => ?_)
  · refine WO.callR (v := .d (.bool true)) (u := []) rfl rfl (fun _ => rfl) rfl rfl rfl rfl rfl (source_code_ev hx1) rfl rfl (congrArg (fun b => RV.d (.bool b)) hb2) rfl ?_
    refine WO.s0 (v' := .d (.bool true)) rfl rfl (fun _ => rfl) rfl ?_
    refine WO.s0 (v' := .ptr 16 1) rfl rfl (fun _ => rfl) rfl ?_
    refine WO.s0 (v' := .d (.str a0.fStation)) rfl rfl (fun _ => rfl) rfl ?_
    refine bind_elim h (fun x3 hx3 h => ?_)
    refine WO.callR (v := .d (.bool x3)) (u := []) rfl rfl (fun _ => rfl) rfl rfl rfl rfl rfl (source_code_ev hx3) rfl rfl rfl rfl ?_
    refine ite_elim h (fun hb4 h => ?_) (fun hb4 h => ?_)
    · refine WO.s0 (v' := .d (.bool true)) rfl rfl (fun _ => rfl) (congrArg (fun b => RV.d (.bool b)) hb4) ?_
      refine WO.s0 (v' := .d (.bool true)) rfl rfl (fun _ => rfl) rfl ?_
      refine WO.s0 (v' := .ptr 16 2) rfl rfl (fun _ => rfl) rfl ?_
      refine WO.s0 (v' := .d (.str a0.fLocation)) rfl rfl (fun _ => rfl) rfl ?_
      refine bind_elim h (fun x5 hx5 h => ?_)
      refine WO.callR (v := .d (.bool x5)) (u := []) rfl rfl (fun _ => rfl) rfl rfl rfl rfl rfl (source_code_ev hx5) rfl rfl rfl rfl ?_
      refine ite_elim h (fun hb6 h => ?_) (fun hb6 h => ?_)
      · refine WO.s0 (v' := .d (.bool true)) rfl rfl (fun _ => rfl) (congrArg (fun b => RV.d (.bool b)) hb6) ?_
        refine WO.s0 (v' := .d (.bool true)) rfl rfl (fun _ => rfl) rfl ?_
        refine WO.s0 (v' := .ptr 16 2) rfl rfl (fun _ => rfl) rfl ?_
        refine WO.s0 (v' := .d (.str a0.fLocation)) rfl rfl (fun _ => rfl) rfl ?_
        refine WO.s0 (v' := .d (.int .i64 (a0.fLocation.length : Int))) rfl rfl (fun _ => rfl) rfl ?_
        refine WO.s0 (v' := .d (.bool ((a0.fLocation.length : Int) != (1 : Int)))) rfl rfl (fun _ => rfl) rfl ?_
        refine ite_elim h (fun hb7 h => ?_) (fun hb7 h => ?_)
        · refine WO.s0 (v' := .d (.bool true)) rfl rfl (fun _ => rfl) (congrArg (fun b => RV.d (.bool b)) hb7) ?_
          refine WO.s0 (v' := .d (.bool true)) rfl rfl (fun _ => rfl) rfl ?_
          refine WO.s0 (v' := .ptr 16 3) rfl rfl (fun _ => rfl) rfl ?_
          refine WO.s0 (v' := .d (.str a0.fChannel)) rfl rfl (fun _ => rfl) rfl ?_
          refine bind_elim h (fun x8 hx8 h => ?_)
          refine WO.callR (v := .d (.bool x8)) (u := []) rfl rfl (fun _ => rfl) rfl rfl rfl rfl rfl (source_code_ev hx8) rfl rfl rfl rfl ?_
          refine WO.s0 (v' := .d (.bool x8)) rfl rfl (fun _ => rfl) rfl ?_
          refine WO.s0 (v' := .d (.bool x8)) rfl rfl (fun _ => rfl) rfl ?_
          refine WO.nil ?_
          refine WC.ret ?_
          obtain rfl := Option.some.inj h
          exact WC.done rfl rfl rfl
        · refine WO.s0 (v' := .d (.bool false)) rfl rfl (fun _ => rfl) (congrArg (fun b => RV.d (.bool b)) hb7) ?_
          refine WO.s0 (v' := .d (.bool false)) rfl rfl (fun _ => rfl) rfl ?_
          refine WO.skip rfl rfl ?_
          refine WO.skip rfl rfl ?_
          refine WO.skip rfl rfl ?_
          refine WO.s0 (v' := .d (.bool false)) rfl rfl (fun _ => rfl) rfl ?_
          refine WO.s0 (v' := .d (.bool false)) rfl rfl (fun _ => rfl) rfl ?_
          refine WO.nil ?_
          refine WC.ret ?_
          obtain rfl := Option.some.inj h
          exact WC.done rfl rfl rfl
      · refine WO.s0 (v' := .d (.bool false)) rfl rfl (fun _ => rfl) (congrArg (fun b => RV.d (.bool b)) hb6) ?_
        refine WO.s0 (v' := .d (.bool false)) rfl rfl (fun _ => rfl) rfl ?_
        refine WO.skip rfl rfl ?_
        refine WO.skip rfl rfl ?_
        refine WO.skip rfl rfl ?_
        refine WO.skip rfl rfl ?_
        refine WO.s0 (v' := .d (.bool false)) rfl rfl (fun _ => rfl) rfl ?_
        refine WO.s0 (v' := .d (.bool false)) rfl rfl (fun _ => rfl) rfl ?_
        refine WO.skip rfl rfl ?_
        refine WO.skip rfl rfl ?_
        refine WO.skip rfl rfl ?_
        refine WO.s0 (v' := .d (.bool false)) rfl rfl (fun _ => rfl) rfl ?_
        refine WO.s0 (v' := .d (.bool false)) rfl rfl (fun _ => rfl) rfl ?_
        refine WO.nil ?_
        refine WC.ret ?_
        obtain rfl := Option.some.inj h
        exact WC.done rfl rfl rfl
    · refine WO.s0 (v' := .d (.bool false)) rfl rfl (fun _ => rfl) (congrArg (fun b => RV.d (.bool b)) hb4) ?_
      refine WO.s0 (v' := .d (.bool false)) rfl rfl (fun _ => rfl) rfl ?_
      refine WO.skip rfl rfl ?_
      refine WO.skip rfl rfl ?_
      refine WO.skip rfl rfl ?_
      refine WO.s0 (v' := .d (.bool false)) rfl rfl (fun _ => rfl) rfl ?_
      refine WO.s0 (v' := .d (.bool false)) rfl rfl (fun _ => rfl) rfl ?_
      refine WO.skip rfl rfl ?_
      refine WO.skip rfl rfl ?_
      refine WO.skip rfl rfl ?_
      refine WO.skip rfl rfl ?_
      refine WO.s0 (v' := .d (.bool false)) rfl rfl (fun _ => rfl) rfl ?_
      refine WO.s0 (v' := .d (.bool false)) rfl rfl (fun _ => rfl) rfl ?_
      refine WO.skip rfl rfl ?_
      refine WO.skip rfl rfl ?_
      refine WO.skip rfl rfl ?_
      refine WO.s0 (v' := .d (.bool false)) rfl rfl (fun _ => rfl) rfl ?_
      refine WO.s0 (v' := .d (.bool false)) rfl rfl (fun _ => rfl) rfl ?_
      refine WO.nil ?_
      refine WC.ret ?_
      obtain rfl := Option.some.inj h
      exact WC.done rfl rfl rfl
  · refine WO.callR (v := .d (.bool false)) (u := []) rfl rfl (fun _ => rfl) rfl rfl rfl rfl rfl (source_code_ev hx1) rfl rfl (congrArg (fun b => RV.d (.bool b)) hb2) rfl ?_
    refine WO.s0 (v' := .d (.bool false)) rfl rfl (fun _ => rfl) rfl ?_
    refine WO.skip rfl rfl ?_
    refine WO.skip rfl rfl ?_
    refine WO.skip rfl rfl ?_
    refine WO.s0 (v' := .d (.bool false)) rfl rfl (fun _ => rfl) rfl ?_
    refine WO.s0 (v' := .d (.bool false)) rfl rfl (fun _ => rfl) rfl ?_
    refine WO.skip rfl rfl ?_
    refine WO.skip rfl rfl ?_
    refine WO.skip rfl rfl ?_
    refine WO.s0 (v' := .d (.bool false)) rfl rfl (fun _ => rfl) rfl ?_
    refine WO.s0 (v' := .d (.bool false)) rfl rfl (fun _ => rfl) rfl ?_
    refine WO.skip rfl rfl ?_
    refine WO.skip rfl rfl ?_
    refine WO.skip rfl rfl ?_
    refine WO.skip rfl rfl ?_
    refine WO.s0 (v' := .d (.bool false)) rfl rfl (fun _ => rfl) rfl ?_
    refine WO.s0 (v' := .d (.bool false)) rfl rfl (fun _ => rfl) rfl ?_
    refine WO.skip rfl rfl ?_
    refine WO.skip rfl rfl ?_
    refine WO.skip rfl rfl ?_
    refine WO.s0 (v' := .d (.bool false)) rfl rfl (fun _ => rfl) rfl ?_
    refine WO.s0 (v' := .d (.bool false)) rfl rfl (fun _ => rfl) rfl ?_
    refine WO.nil ?_
    refine WC.ret ?_
    obtain rfl := Option.some.inj h
    exact WC.done rfl rfl rfl
theorem source_Parse_ev {a0 : (List UInt8)} {r : T_api_SourceID × Int} (h : source_Parse a0 = some r) : EvP prog hints ext 15 [.d (.str a0)] [] (.tup [.d (T_api_SourceID.pd r.1), .d (.int .i64 r.2)], []) := by
  refine Ev.body rfl Tryd.func15 rfl (by kernel_rfl) ?_
  refine WC.regionSeq rfl rfl ?_
  refine WO.s1 (v := .ptr 32 0) (id := 32) (bx := .var [.d (.str []), .d (.str []), .d (.str []), .d (.str [])]) rfl rfl (fun _ => rfl) ?_
  refine WO.s0 (v' := .d (.int .i64 0)) rfl rfl (fun _ => rfl) rfl ?_
  refine WO.nil ?_
  refine WC.regionSeq rfl rfl ?_
  refine WO.s0 (v' := .d (.str a0)) rfl rfl (fun _ => rfl) rfl ?_
  refine bind_elim h (fun x1 hx1 h => ?_)
  refine WO.callR (v := .d (.lst (x1.map PD.str))) (u := []) rfl rfl (fun _ => rfl) rfl rfl rfl rfl rfl ((split_ev rfl) hx1) rfl rfl rfl rfl ?_
  refine WO.s0 (v' := .d (.lst (x1.map PD.str))) rfl rfl (fun _ => rfl) rfl ?_
  refine WO.nil ?_
  refine WC.seq ?_
  refine WC.regionSeq rfl rfl ?_
  refine WO.s0 (v' := .d (.lst (x1.map PD.str))) rfl rfl (fun _ => rfl) rfl ?_
  refine WO.s0 (v' := .d (.int .i64 (x1.length : Int))) rfl rfl (fun _ => rfl) (lenMap _ _) ?_
  refine ite_elim h (fun hb2 h => ?_) (fun hb2 h => ?_)
  · refine WO.s0 (v' := .d (.bool true)) rfl rfl (fun _ => rfl) (congrArg (fun b => RV.d (.bool b)) hb2) ?_
    refine WO.nil ?_
    refine WC.condT rfl ?_
    refine WC.regionSeq rfl rfl ?_
    refine WO.s0 (v' := .d (T_api_SourceID.pd (T_api_SourceID.mk [] [] [] []))) rfl rfl (fun _ => rfl) rfl ?_
    refine WO.n1 (v := .undef) (id := 32) (bx := .var [.d (.str ((T_api_SourceID.mk [] [] [] []).fNetwork)), .d (.str ((T_api_SourceID.mk [] [] [] []).fStation)), .d (.str ((T_api_SourceID.mk [] [] [] []).fLocation)), .d (.str ((T_api_SourceID.mk [] [] [] []).fChannel))]) rfl rfl (fun _ => rfl) ?_
    refine WO.s0 (v' := .d (.int .i64 3)) rfl rfl (fun _ => rfl) rfl ?_
    refine WO.nil ?_
    refine WC.ret ?_
    obtain rfl := Option.some.inj h
    exact WC.done rfl rfl rfl
  · refine WO.s0 (v' := .d (.bool false)) rfl rfl (fun _ => rfl) (congrArg (fun b => RV.d (.bool b)) hb2) ?_
    refine WO.nil ?_
    refine WC.condF rfl ?_
    refine WC.skip ?_
    refine WC.regionDSeq rfl rfl ?_
    refine WO.s0 (v' := .d (.lst (x1.map PD.str))) rfl rfl (fun _ => rfl) rfl ?_
    refine bind_elim h (fun x3 hx3 h => ?_)
    refine WO.elemG hx3 rfl rfl rfl rfl rfl rfl rfl rfl rfl ?_
    refine WO.s0 (v' := .d (.str x3)) rfl rfl (fun _ => rfl) rfl ?_
    refine WO.s0 (v' := .d (.lst (x1.map PD.str))) rfl rfl (fun _ => rfl) rfl ?_
    refine bind_elim h (fun x4 hx4 h => ?_)
    refine WO.elemG hx4 rfl rfl rfl rfl rfl rfl rfl rfl rfl ?_
    refine WO.s0 (v' := .d (.str x4)) rfl rfl (fun _ => rfl) rfl ?_
    refine WO.s0 (v' := .d (.lst (x1.map PD.str))) rfl rfl (fun _ => rfl) rfl ?_
    refine bind_elim h (fun x5 hx5 h => ?_)
    refine WO.elemG hx5 rfl rfl rfl rfl rfl rfl rfl rfl rfl ?_
    refine WO.s0 (v' := .d (.str x5)) rfl rfl (fun _ => rfl) rfl ?_
    refine WO.s0 (v' := .d (.lst (x1.map PD.str))) rfl rfl (fun _ => rfl) rfl ?_
    refine bind_elim h (fun x6 hx6 h => ?_)
    refine WO.elemG hx6 rfl rfl rfl rfl rfl rfl rfl rfl rfl ?_
    refine WO.s0 (v' := .d (.str x6)) rfl rfl (fun _ => rfl) rfl ?_
    refine WO.s0 (v' := .d (T_api_SourceID.pd (T_api_SourceID.mk x3 x4 x5 x6))) rfl rfl (fun _ => rfl) rfl ?_
    refine WO.s1 (v := .ptr 80 0) (id := 80) (bx := .var [.d (.str []), .d (.str []), .d (.str []), .d (.str [])]) rfl rfl (fun _ => rfl) ?_
    refine WO.n1 (v := .undef) (id := 80) (bx := .var [.d (.str ((T_api_SourceID.mk x3 x4 x5 x6).fNetwork)), .d (.str ((T_api_SourceID.mk x3 x4 x5 x6).fStation)), .d (.str ((T_api_SourceID.mk x3 x4 x5 x6).fLocation)), .d (.str ((T_api_SourceID.mk x3 x4 x5 x6).fChannel))]) rfl rfl (fun _ => rfl) ?_
    refine WO.nil ⟨by kernel_rfl, ?_⟩
    refine WC.seq ?_
    refine WC.regionSeq rfl rfl ?_
    refine WO.s0 (v' := .d (T_api_SourceID.pd (T_api_SourceID.mk x3 x4 x5 x6))) rfl rfl (fun _ => rfl) rfl ?_
    refine bind_elim h (fun x7 hx7 h => ?_)
    refine WO.callR (v := .d (.bool x7)) (u := []) rfl rfl (fun _ => rfl) rfl rfl rfl rfl rfl (source_Valid_ev hx7) rfl rfl rfl rfl ?_
    refine ite_elim h (fun hb8 h => ?_) (fun hb8 h => ?_)
    · refine WO.s0 (v' := .d (.bool true)) rfl rfl (fun _ => rfl) (congrArg (fun b => RV.d (.bool b)) hb8) ?_
      refine WO.nil ?_
      refine WC.condT rfl ?_
      refine WC.regionSeq rfl rfl ?_
      refine WO.s0 (v' := .d (T_api_SourceID.pd (T_api_SourceID.mk [] [] [] []))) rfl rfl (fun _ => rfl) rfl ?_
      refine WO.n1 (v := .undef) (id := 32) (bx := .var [.d (.str ((T_api_SourceID.mk [] [] [] []).fNetwork)), .d (.str ((T_api_SourceID.mk [] [] [] []).fStation)), .d (.str ((T_api_SourceID.mk [] [] [] []).fLocation)), .d (.str ((T_api_SourceID.mk [] [] [] []).fChannel))]) rfl rfl (fun _ => rfl) ?_
      refine WO.s0 (v' := .d (.int .i64 3)) rfl rfl (fun _ => rfl) rfl ?_
      refine WO.nil ?_
      refine WC.ret ?_
      obtain rfl := Option.some.inj h
      exact WC.done rfl rfl rfl
    · refine WO.s0 (v' := .d (.bool false)) rfl rfl (fun _ => rfl) (congrArg (fun b => RV.d (.bool b)) hb8) ?_
      refine WO.nil ?_
      refine WC.condF rfl ?_
      refine WC.skip ?_
      refine WC.regionSeq rfl rfl ?_
      refine WO.s0 (v' := .d (T_api_SourceID.pd (T_api_SourceID.mk x3 x4 x5 x6))) rfl rfl (fun _ => rfl) rfl ?_
      refine WO.n1 (v := .undef) (id := 32) (bx := .var [.d (.str ((T_api_SourceID.mk x3 x4 x5 x6).fNetwork)), .d (.str ((T_api_SourceID.mk x3 x4 x5 x6).fStation)), .d (.str ((T_api_SourceID.mk x3 x4 x5 x6).fLocation)), .d (.str ((T_api_SourceID.mk x3 x4 x5 x6).fChannel))]) rfl rfl (fun _ => rfl) ?_
      refine WO.s0 (v' := .d (.int .i64 0)) rfl rfl (fun _ => rfl) rfl ?_
      refine WO.nil ?_
      refine WC.ret ?_
      obtain rfl := Option.some.inj h
      exact WC.done rfl rfl rfl
theorem source_pattern_ev {a0 : (List UInt8)} {r : (List (List UInt8)) × Bool} (h : source_pattern a0 = some r) : EvP prog hints ext 30 [.d (.str a0)] [] (.tup [.d (.lst (r.1.map PD.str)), .d (.bool r.2)], []) := by
  refine Ev.body rfl Tryd.func30 rfl (by kernel_rfl) ?_
  refine WC.regionSeq rfl rfl ?_
  refine WO.s0 (v' := .nils) rfl rfl (fun _ => rfl) rfl ?_
  refine WO.s0 (v' := .d (.bool false)) rfl rfl (fun _ => rfl) rfl ?_
  refine WO.nil ?_
  refine WC.regionSeq rfl rfl ?_
  refine WO.s0 (v' := .d (.str a0)) rfl rfl (fun _ => rfl) rfl ?_
  refine bind_elim h (fun x1 hx1 h => ?_)
  refine WO.callR (v := .d (.lst (x1.map PD.str))) (u := []) rfl rfl (fun _ => rfl) rfl rfl rfl rfl rfl ((split_ev rfl) hx1) rfl rfl rfl rfl ?_
  refine WO.s0 (v' := .d (.lst (x1.map PD.str))) rfl rfl (fun _ => rfl) rfl ?_
  refine WO.nil ?_
  refine WC.seq ?_
  refine WC.regionSeq rfl rfl ?_
  refine WO.s0 (v' := .d (.lst (x1.map PD.str))) rfl rfl (fun _ => rfl) rfl ?_
  refine WO.s0 (v' := .d (.int .i64 (x1.length : Int))) rfl rfl (fun _ => rfl) (lenMap _ _) ?_
  refine WO.s0 (v' := .d (.int .i64 0)) rfl rfl (fun _ => rfl) rfl ?_
  refine WO.nil ?_
  refine bind_elim h (fun o23 ho23 h => ?_)
  refine WC.block (WC.loop (WL.ofLoop ho23 (fun s R' B' => ghosts prog 0 (A R' B') (hints.at_ 30 3) = some (A [(4, .d (.lst (x1.map PD.str))), (10, .d (.lst (x1.map PD.str))), (11, .d (.int .i64 (x1.length : Int))), (12, .d (.int .i64 s))] [])) (fun o e R' B' => match o with | .inl y => e = .exit 0 ∧ ghosts prog 0 (A R' B') (hints.at_ 30 14) = some (A [(4, .d (.lst (x1.map PD.str)))] []) | .inr r => e = .ret ∧ finish prog (hints.own 30) Tryd.f30 0 (A R' B') = some (.tup [.d (.lst (r.1.map PD.str)), .d (.bool r.2)], [])) rfl ?_ ?_))
  · rintro s2 R' B' q3 hI h
    refine WC.regionSeq hI rfl ?_
    refine ite_elim h (fun hb4 h => ?_) (fun hb4 h => ?_)
    · refine WO.s0 (v' := .d (.bool true)) rfl rfl (fun _ => rfl) (congrArg (fun b => RV.d (.bool b)) hb4) ?_
      refine WO.nil ?_
      refine WC.seq ?_
      refine WC.condT rfl ?_
      refine WC.skip ?_
      refine WC.seq ?_
      refine WC.block ?_
      refine WC.regionSeq rfl rfl ?_
      refine bind_elim h (fun x5 hx5 h => ?_)
      refine WO.elemG hx5 rfl rfl rfl rfl rfl rfl rfl rfl rfl ?_
      refine WO.s0 (v' := .d (.str x5)) rfl rfl (fun _ => rfl) rfl ?_
      refine WO.s0 (v' := .d (.str x5)) rfl rfl (fun _ => rfl) rfl ?_
      refine WO.nil ?_
      refine WC.seq ?_
      refine WC.regionSeq rfl rfl ?_
      refine WO.s0 (v' := .d (.str x5)) rfl rfl (fun _ => rfl) rfl ?_
      refine WO.s0 (v' := .d (.int .i64 (x5.length : Int))) rfl rfl (fun _ => rfl) rfl ?_
      refine WO.s0 (v' := .d (.int .i64 0)) rfl rfl (fun _ => rfl) rfl ?_
      refine WO.nil ?_
      refine bind_elim h (fun o18 ho18 h => ?_)
      refine WC.block (WC.loop (WL.ofLoop ho18 (fun s R' B' => ghosts prog 0 (A R' B') (hints.at_ 30 6) = some (A [(4, .d (.lst (x1.map PD.str))), (6, .d (.str x5)), (10, .d (.lst (x1.map PD.str))), (11, .d (.int .i64 (x1.length : Int))), (12, .d (.int .i64 s2)), (17, .d (.int .i64 (x5.length : Int))), (18, .d (.int .i64 s))] [])) (fun o e R' B' => match o with | .inl y => e = .exit 2 ∧ ghosts prog 0 (A R' B') (hints.at_ 30 11) = some (A [(4, .d (.lst (x1.map PD.str))), (6, .d (.str x5)), (10, .d (.lst (x1.map PD.str))), (11, .d (.int .i64 (x1.length : Int))), (12, .d (.int .i64 y))] []) | .inr r => e = .ret ∧ finish prog (hints.own 30) Tryd.f30 0 (A R' B') = some (.tup [.d (.lst (r.1.map PD.str)), .d (.bool r.2)], [])) rfl ?_ ?_))
      · rintro s6 R' B' q8 hI h
        refine WC.regionSeq hI rfl ?_
        refine ite_elim h (fun hb9 h => ?_) (fun hb9 h => ?_)
        · refine WO.s0 (v' := .d (.bool true)) rfl rfl (fun _ => rfl) (congrArg (fun b => RV.d (.bool b)) hb9) ?_
          refine WO.nil ?_
          refine WC.seq ?_
          refine WC.condT rfl ?_
          refine WC.skip ?_
          refine WC.seq ?_
          refine WC.block ?_
          refine WC.regionSeq rfl rfl ?_
          refine WO.s0 (v' := .d (.int .i64 s6)) rfl rfl (fun _ => rfl) rfl ?_
          refine WO.s0 (v' := .d (.int .i64 s6)) rfl rfl (fun _ => rfl) rfl ?_
          refine WO.nil ?_
          refine WC.regionSeq rfl rfl ?_
          refine WO.s0 (v' := .d (.str x5)) rfl rfl (fun _ => rfl) rfl ?_
          refine WO.s0 (v' := .d (.int .i64 s6)) rfl rfl (fun _ => rfl) rfl ?_
          refine bind_elim h (fun x10 hx10 h => ?_)
          refine WO.byteG hx10 rfl rfl rfl rfl rfl rfl ?_
          refine bind_elim h (fun x11 hx11 h => ?_)
          refine WO.callR (v := .d (.bool x11)) (u := []) rfl rfl (fun _ => rfl) rfl rfl rfl rfl rfl (source_plain_ev hx11) rfl rfl rfl rfl ?_
          refine ite_elim h (fun hb12 h => ?_) (fun hb12 h => ?_)
          · refine WO.s0 (v' := .d (.bool true)) rfl rfl (fun _ => rfl) (congrArg (fun b => RV.d (.bool b)) hb12) ?_
            refine WO.s0 (v' := .d (.bool true)) rfl rfl (fun _ => rfl) rfl ?_
            refine WO.s0 (v' := .d (.str x5)) rfl rfl (fun _ => rfl) rfl ?_
            refine WO.s0 (v' := .d (.int .i64 s6)) rfl rfl (fun _ => rfl) rfl ?_
            refine bind_elim h (fun x13 hx13 h => ?_)
            refine WO.byteG hx13 rfl rfl rfl rfl rfl rfl ?_
            refine WO.s0 (v' := .d (.bool (x13 != (63 : Int)))) rfl rfl (fun _ => rfl) rfl ?_
            refine ite_elim h (fun hb14 h => ?_) (fun hb14 h => ?_)
            · refine WO.s0 (v' := .d (.bool true)) rfl rfl (fun _ => rfl) (congrArg (fun b => RV.d (.bool b)) hb14) ?_
              refine WO.s0 (v' := .d (.bool true)) rfl rfl (fun _ => rfl) rfl ?_
              refine WO.s0 (v' := .d (.str x5)) rfl rfl (fun _ => rfl) rfl ?_
              refine WO.s0 (v' := .d (.int .i64 s6)) rfl rfl (fun _ => rfl) rfl ?_
              refine bind_elim h (fun x15 hx15 h => ?_)
              refine WO.byteG hx15 rfl rfl rfl rfl rfl rfl ?_
              refine WO.s0 (v' := .d (.bool (x15 != (42 : Int)))) rfl rfl (fun _ => rfl) rfl ?_
              refine ite_elim h (fun hb16 h => ?_) (fun hb16 h => ?_)
              · refine WO.s0 (v' := .d (.bool true)) rfl rfl (fun _ => rfl) (congrArg (fun b => RV.d (.bool b)) hb16) ?_
                refine WO.nil ?_
                refine WC.condT rfl ?_
                refine WC.regionSeq rfl rfl ?_
                refine WO.s0 (v' := .nils) rfl rfl (fun _ => rfl) rfl ?_
                refine WO.s0 (v' := .d (.bool false)) rfl rfl (fun _ => rfl) rfl ?_
                refine WO.nil ?_
                refine WC.ret ?_
                obtain rfl := Option.some.inj h
                exact ⟨(fun he => by cases he), rfl, rfl⟩
              · refine WO.s0 (v' := .d (.bool false)) rfl rfl (fun _ => rfl) (congrArg (fun b => RV.d (.bool b)) hb16) ?_
                refine WO.nil ?_
                refine WC.condF rfl ?_
                refine WC.skip ?_
                refine WC.region rfl rfl ?_
                refine WO.s0 (v' := .d (.int .i64 (IntKind.wrap .i64 (s6 + (1 : Int))))) rfl rfl (fun _ => rfl) rfl ?_
                refine WO.s0 (v' := .d (.int .i64 (IntKind.wrap .i64 (s6 + (1 : Int))))) rfl rfl (fun _ => rfl) rfl ?_
                refine WO.nil ?_
                obtain rfl := Option.some.inj h
                exact ⟨rfl, rfl⟩
            · refine WO.s0 (v' := .d (.bool false)) rfl rfl (fun _ => rfl) (congrArg (fun b => RV.d (.bool b)) hb14) ?_
              refine WO.s0 (v' := .d (.bool false)) rfl rfl (fun _ => rfl) rfl ?_
              refine WO.skip rfl rfl ?_
              refine WO.skip rfl rfl ?_
              refine WO.skip rfl rfl ?_
              refine WO.skip rfl rfl ?_
              refine WO.s0 (v' := .d (.bool false)) rfl rfl (fun _ => rfl) rfl ?_
              refine WO.nil ?_
              refine WC.condF rfl ?_
              refine WC.skip ?_
              refine WC.region rfl rfl ?_
              refine WO.s0 (v' := .d (.int .i64 (IntKind.wrap .i64 (s6 + (1 : Int))))) rfl rfl (fun _ => rfl) rfl ?_
              refine WO.s0 (v' := .d (.int .i64 (IntKind.wrap .i64 (s6 + (1 : Int))))) rfl rfl (fun _ => rfl) rfl ?_
              refine WO.nil ?_
              obtain rfl := Option.some.inj h
              exact ⟨rfl, rfl⟩
          · refine WO.s0 (v' := .d (.bool false)) rfl rfl (fun _ => rfl) (congrArg (fun b => RV.d (.bool b)) hb12) ?_
            refine WO.s0 (v' := .d (.bool false)) rfl rfl (fun _ => rfl) rfl ?_
            refine WO.skip rfl rfl ?_
            refine WO.skip rfl rfl ?_
            refine WO.skip rfl rfl ?_
            refine WO.skip rfl rfl ?_
            refine WO.s0 (v' := .d (.bool false)) rfl rfl (fun _ => rfl) rfl ?_
            refine WO.s0 (v' := .d (.bool false)) rfl rfl (fun _ => rfl) rfl ?_
            refine WO.skip rfl rfl ?_
            refine WO.skip rfl rfl ?_
            refine WO.skip rfl rfl ?_
            refine WO.skip rfl rfl ?_
            refine WO.s0 (v' := .d (.bool false)) rfl rfl (fun _ => rfl) rfl ?_
            refine WO.nil ?_
            refine WC.condF rfl ?_
            refine WC.skip ?_
            refine WC.region rfl rfl ?_
            refine WO.s0 (v' := .d (.int .i64 (IntKind.wrap .i64 (s6 + (1 : Int))))) rfl rfl (fun _ => rfl) rfl ?_
            refine WO.s0 (v' := .d (.int .i64 (IntKind.wrap .i64 (s6 + (1 : Int))))) rfl rfl (fun _ => rfl) rfl ?_
            refine WO.nil ?_
            obtain rfl := Option.some.inj h
            exact ⟨rfl, rfl⟩
        · refine WO.s0 (v' := .d (.bool false)) rfl rfl (fun _ => rfl) (congrArg (fun b => RV.d (.bool b)) hb9) ?_
          refine WO.nil ?_
          refine WC.seq ?_
          refine WC.condF rfl ?_
          refine WC.exit ?_
          obtain rfl := Option.some.inj h
          exact ⟨(fun he => by cases he), rfl, rfl⟩
      · intro e R' B' he hq
        rcases o18 with y19 | r20
        · obtain ⟨rfl, hI⟩ := hq
          refine ⟨fun _ => ?_, fun hne => (hne rfl).elim⟩
          refine WC.regionSeq hI rfl ?_
          refine WO.s0 (v' := .d (.str x5)) rfl rfl (fun _ => rfl) rfl ?_
          refine WO.s0 (v' := .d (.int .i64 (x5.length : Int))) rfl rfl (fun _ => rfl) rfl ?_
          refine ite_elim h (fun hb21 h => ?_) (fun hb21 h => ?_)
          · refine WO.s0 (v' := .d (.bool true)) rfl rfl (fun _ => rfl) (congrArg (fun b => RV.d (.bool b)) hb21) ?_
            refine WO.nil ?_
            refine WC.condT rfl ?_
            refine WC.regionSeq rfl rfl ?_
            refine WO.s0 (v' := .nils) rfl rfl (fun _ => rfl) rfl ?_
            refine WO.s0 (v' := .d (.bool false)) rfl rfl (fun _ => rfl) rfl ?_
            refine WO.nil ?_
            refine WC.ret ?_
            obtain rfl := Option.some.inj h
            exact ⟨(fun he => by cases he), rfl, rfl⟩
          · refine WO.s0 (v' := .d (.bool false)) rfl rfl (fun _ => rfl) (congrArg (fun b => RV.d (.bool b)) hb21) ?_
            refine WO.nil ?_
            refine WC.condF rfl ?_
            refine WC.skip ?_
            refine WC.region rfl rfl ?_
            refine WO.s0 (v' := .d (.int .i64 (IntKind.wrap .i64 (y19 + (1 : Int))))) rfl rfl (fun _ => rfl) rfl ?_
            refine WO.s0 (v' := .d (.int .i64 (IntKind.wrap .i64 (y19 + (1 : Int))))) rfl rfl (fun _ => rfl) rfl ?_
            refine WO.nil ?_
            obtain rfl := Option.some.inj h
            exact ⟨rfl, rfl⟩
        · obtain ⟨rfl, hf⟩ := hq
          obtain rfl := Option.some.inj h
          exact ⟨(fun he => by cases he), rfl, hf⟩
    · refine WO.s0 (v' := .d (.bool false)) rfl rfl (fun _ => rfl) (congrArg (fun b => RV.d (.bool b)) hb4) ?_
      refine WO.nil ?_
      refine WC.seq ?_
      refine WC.condF rfl ?_
      refine WC.exit ?_
      obtain rfl := Option.some.inj h
      exact ⟨(fun he => by cases he), rfl, rfl⟩
  · intro e R' B' he hq
    rcases o23 with y24 | r25
    · obtain ⟨rfl, hI⟩ := hq
      refine ⟨fun _ => ?_, fun hne => (hne rfl).elim⟩
      refine WC.regionSeq hI rfl ?_
      refine WO.s0 (v' := .d (.lst (x1.map PD.str))) rfl rfl (fun _ => rfl) rfl ?_
      refine WO.s0 (v' := .d (.lst (x1.map PD.str))) rfl rfl (fun _ => rfl) rfl ?_
      refine WO.s0 (v' := .d (.int .i64 (x1.length : Int))) rfl rfl (fun _ => rfl) (lenMap _ _) ?_
      refine WO.s0 (v' := .d (.bool ((x1.length : Int) == (4 : Int)))) rfl rfl (fun _ => rfl) rfl ?_
      refine WO.s0 (v' := .d (.lst (x1.map PD.str))) rfl rfl (fun _ => rfl) rfl ?_
      refine WO.s0 (v' := .d (.bool ((x1.length : Int) == (4 : Int)))) rfl rfl (fun _ => rfl) rfl ?_
      refine WO.nil ?_
      refine WC.ret ?_
      obtain rfl := Option.some.inj h
      exact WC.done rfl rfl rfl
    · obtain ⟨rfl, hf⟩ := hq
      obtain rfl := Option.some.inj h
      exact hf
theorem source_parts_ev {a0 : T_api_SourceID} {r : A4__List_UInt8_} (h : source_parts a0 = some r) : EvP prog hints ext 32 [.d (T_api_SourceID.pd a0)] [] (.d (A4__List_UInt8_.pd r), []) := by
  refine Ev.body rfl Tryd.func32 rfl (by kernel_rfl) ?_
  refine WC.regionSeq rfl rfl ?_
  refine WO.s1 (v := .ptr 16 0) (id := 16) (bx := .var [.d (.str a0.fNetwork), .d (.str a0.fStation), .d (.str a0.fLocation), .d (.str a0.fChannel)]) rfl rfl (fun _ => rfl) ?_
  refine WO.s1 (v := .ptr 32 0) (id := 32) (bx := .var [.d (.str []), .d (.str []), .d (.str []), .d (.str [])]) rfl rfl (fun _ => rfl) ?_
  refine WO.nil ?_
  refine WC.regionSeq rfl rfl ?_
  refine WO.s0 (v' := .ptr 16 0) rfl rfl (fun _ => rfl) rfl ?_
  refine WO.s0 (v' := .d (.str a0.fNetwork)) rfl rfl (fun _ => rfl) rfl ?_
  refine WO.s0 (v' := .ptr 16 1) rfl rfl (fun _ => rfl) rfl ?_
  refine WO.s0 (v' := .d (.str a0.fStation)) rfl rfl (fun _ => rfl) rfl ?_
  refine WO.s0 (v' := .ptr 16 2) rfl rfl (fun _ => rfl) rfl ?_
  refine WO.s0 (v' := .d (.str a0.fLocation)) rfl rfl (fun _ => rfl) rfl ?_
  refine WO.s0 (v' := .ptr 16 3) rfl rfl (fun _ => rfl) rfl ?_
  refine WO.s0 (v' := .d (.str a0.fChannel)) rfl rfl (fun _ => rfl) rfl ?_
  refine WO.s0 (v' := .d (A4__List_UInt8_.pd (A4__List_UInt8_.mk a0.fNetwork a0.fStation a0.fLocation a0.fChannel))) rfl rfl (fun _ => rfl) rfl ?_
  refine WO.n1 (v := .undef) (id := 32) (bx := .var [.d (.str ((A4__List_UInt8_.mk a0.fNetwork a0.fStation a0.fLocation a0.fChannel).a0)), .d (.str ((A4__List_UInt8_.mk a0.fNetwork a0.fStation a0.fLocation a0.fChannel).a1)), .d (.str ((A4__List_UInt8_.mk a0.fNetwork a0.fStation a0.fLocation a0.fChannel).a2)), .d (.str ((A4__List_UInt8_.mk a0.fNetwork a0.fStation a0.fLocation a0.fChannel).a3))]) rfl rfl (fun _ => rfl) ?_
  refine WO.nil ?_
  refine WC.ret ?_
  obtain rfl := Option.some.inj h
  exact WC.done rfl rfl rfl
theorem source_fitsN_ev : ∀ (nfu : Nat) {a0 : (List UInt8)} {a1 : (List UInt8)} {r : Bool} (_ : source_fitsN nfu a0 a1 = some r), EvP prog hints ext 47 [.d (.str a0), .d (.str a1)] [] (.d (.bool r), [])
  | 0, _, _,  _, h => by cases h
  | nfu + 1, a0, a1,  r, h => by
    refine Ev.body rfl Tryd.func47 rfl (by kernel_rfl) ?_
    refine WC.regionSeq rfl rfl ?_
    refine WO.s0 (v' := .d (.bool false)) rfl rfl (fun _ => rfl) rfl ?_
    refine WO.nil ?_
    refine WC.seq ?_
    refine WC.block ?_
    refine WC.regionSeq rfl rfl ?_
    refine WO.s0 (v' := .d (.str a0)) rfl rfl (fun _ => rfl) rfl ?_
    refine ite_elim h (fun hb1 h => ?_) (fun hb1 h => ?_)
    · refine WO.s0 (v' := .d (.bool true)) rfl rfl (fun _ => rfl) (congrArg (fun b => RV.d (.bool b)) hb1) ?_
      refine WO.s0 (v' := .d (.bool true)) rfl rfl (fun _ => rfl) rfl ?_
      refine WO.nil ?_
      refine WC.condT rfl ?_
      refine WC.regionSeq rfl rfl ?_
      refine WO.s0 (v' := .d (.str a1)) rfl rfl (fun _ => rfl) rfl ?_
      refine WO.s0 (v' := .d (.bool (a1 == []))) rfl rfl (fun _ => rfl) rfl ?_
      refine WO.s0 (v' := .d (.bool (a1 == []))) rfl rfl (fun _ => rfl) rfl ?_
      refine WO.nil ?_
      refine WC.ret ?_
      obtain rfl := Option.some.inj h
      exact WC.done rfl rfl rfl
    · refine WO.s0 (v' := .d (.bool false)) rfl rfl (fun _ => rfl) (congrArg (fun b => RV.d (.bool b)) hb1) ?_
      refine WO.s0 (v' := .d (.bool false)) rfl rfl (fun _ => rfl) rfl ?_
      refine WO.nil ?_
      refine WC.condF rfl ?_
      refine WC.regionSeq rfl rfl ?_
      refine WO.s0 (v' := .d (.str a0)) rfl rfl (fun _ => rfl) rfl ?_
      refine bind_elim h (fun x2 hx2 h => ?_)
      refine WO.byteG hx2 rfl rfl rfl rfl rfl rfl ?_
      refine ite_elim h (fun hb3 h => ?_) (fun hb3 h => ?_)
      · refine WO.s0 (v' := .d (.bool true)) rfl rfl (fun _ => rfl) (congrArg (fun b => RV.d (.bool b)) hb3) ?_
        refine WO.s0 (v' := .d (.bool true)) rfl rfl (fun _ => rfl) rfl ?_
        refine WO.nil ?_
        refine WC.condT rfl ?_
        refine WC.regionSeq rfl rfl ?_
        refine WO.s0 (v' := .d (.str a0)) rfl rfl (fun _ => rfl) rfl ?_
        refine bind_elim h (fun x4 hx4 h => ?_)
        refine WO.cutG hx4 rfl rfl rfl rfl rfl rfl rfl rfl rfl ?_
        refine WO.s0 (v' := .d (.str a1)) rfl rfl (fun _ => rfl) rfl ?_
        refine bind_elim h (fun x5 hx5 h => ?_)
        refine ite_elim h (fun hb6 h => ?_) (fun hb6 h => ?_)
        · refine WO.callR (v := .d (.bool true)) (u := []) rfl rfl (fun _ => rfl) rfl rfl rfl rfl rfl (source_fitsN_ev nfu hx5) rfl rfl (congrArg (fun b => RV.d (.bool b)) hb6) rfl ?_
          refine WO.s0 (v' := .d (.bool true)) rfl rfl (fun _ => rfl) rfl ?_
          refine WO.skip rfl rfl ?_
          refine WO.skip rfl rfl ?_
          refine WO.skip rfl rfl ?_
          refine WO.skip rfl rfl ?_
          refine WO.skip rfl rfl ?_
          refine WO.skip rfl rfl ?_
          refine WO.skip rfl rfl ?_
          refine WO.skip rfl rfl ?_
          refine WO.s0 (v' := .d (.bool true)) rfl rfl (fun _ => rfl) rfl ?_
          refine WO.s0 (v' := .d (.bool true)) rfl rfl (fun _ => rfl) rfl ?_
          refine WO.nil ?_
          refine WC.ret ?_
          obtain rfl := Option.some.inj h
          exact WC.done rfl rfl rfl
        · refine WO.callR (v := .d (.bool false)) (u := []) rfl rfl (fun _ => rfl) rfl rfl rfl rfl rfl (source_fitsN_ev nfu hx5) rfl rfl (congrArg (fun b => RV.d (.bool b)) hb6) rfl ?_
          refine WO.s0 (v' := .d (.bool false)) rfl rfl (fun _ => rfl) rfl ?_
          refine WO.s0 (v' := .d (.str a1)) rfl rfl (fun _ => rfl) rfl ?_
          refine ite_elim h (fun hb7 h => ?_) (fun hb7 h => ?_)
          · refine WO.s0 (v' := .d (.bool true)) rfl rfl (fun _ => rfl) (congrArg (fun b => RV.d (.bool b)) hb7) ?_
            refine WO.s0 (v' := .d (.bool true)) rfl rfl (fun _ => rfl) rfl ?_
            refine WO.s0 (v' := .d (.str a0)) rfl rfl (fun _ => rfl) rfl ?_
            refine WO.s0 (v' := .d (.str a1)) rfl rfl (fun _ => rfl) rfl ?_
            refine bind_elim h (fun x8 hx8 h => ?_)
            refine WO.cutG hx8 rfl rfl rfl rfl rfl rfl rfl rfl rfl ?_
            refine bind_elim h (fun x9 hx9 h => ?_)
            refine WO.callR (v := .d (.bool x9)) (u := []) rfl rfl (fun _ => rfl) rfl rfl rfl rfl rfl (source_fitsN_ev nfu hx9) rfl rfl rfl rfl ?_
            refine WO.s0 (v' := .d (.bool x9)) rfl rfl (fun _ => rfl) rfl ?_
            refine WO.s0 (v' := .d (.bool x9)) rfl rfl (fun _ => rfl) rfl ?_
            refine WO.s0 (v' := .d (.bool x9)) rfl rfl (fun _ => rfl) rfl ?_
            refine WO.nil ?_
            refine WC.ret ?_
            obtain rfl := Option.some.inj h
            exact WC.done rfl rfl rfl
          · refine WO.s0 (v' := .d (.bool false)) rfl rfl (fun _ => rfl) (congrArg (fun b => RV.d (.bool b)) hb7) ?_
            refine WO.s0 (v' := .d (.bool false)) rfl rfl (fun _ => rfl) rfl ?_
            refine WO.skip rfl rfl ?_
            refine WO.skip rfl rfl ?_
            refine WO.skip rfl rfl ?_
            refine WO.skip rfl rfl ?_
            refine WO.s0 (v' := .d (.bool false)) rfl rfl (fun _ => rfl) rfl ?_
            refine WO.s0 (v' := .d (.bool false)) rfl rfl (fun _ => rfl) rfl ?_
            refine WO.s0 (v' := .d (.bool false)) rfl rfl (fun _ => rfl) rfl ?_
            refine WO.nil ?_
            refine WC.ret ?_
            obtain rfl := Option.some.inj h
            exact WC.done rfl rfl rfl
      · refine WO.s0 (v' := .d (.bool false)) rfl rfl (fun _ => rfl) (congrArg (fun b => RV.d (.bool b)) hb3) ?_
        refine WO.s0 (v' := .d (.bool false)) rfl rfl (fun _ => rfl) rfl ?_
        refine WO.nil ?_
        refine WC.condF rfl ?_
        refine WC.skip ?_
        refine WC.regionDSeq rfl rfl ?_
        refine WO.s0 (v' := .d (.str a1)) rfl rfl (fun _ => rfl) rfl ?_
        refine ite_elim h (fun hb10 h => ?_) (fun hb10 h => ?_)
        · refine WO.s0 (v' := .d (.bool true)) rfl rfl (fun _ => rfl) (congrArg (fun b => RV.d (.bool b)) hb10) ?_
          refine WO.s0 (v' := .d (.bool true)) rfl rfl (fun _ => rfl) rfl ?_
          refine WO.s0 (v' := .d (.str a0)) rfl rfl (fun _ => rfl) rfl ?_
          refine bind_elim h (fun x11 hx11 h => ?_)
          refine WO.byteG hx11 rfl rfl rfl rfl rfl rfl ?_
          refine ite_elim h (fun hb12 h => ?_) (fun hb12 h => ?_)
          · refine WO.s0 (v' := .d (.bool true)) rfl rfl (fun _ => rfl) (congrArg (fun b => RV.d (.bool b)) hb12) ?_
            refine WO.s0 (v' := .d (.bool true)) rfl rfl (fun _ => rfl) rfl ?_
            refine WO.skip rfl rfl ?_
            refine WO.skip rfl rfl ?_
            refine WO.skip rfl rfl ?_
            refine WO.skip rfl rfl ?_
            refine WO.skip rfl rfl ?_
            refine WO.s0 (v' := .d (.bool true)) rfl rfl (fun _ => rfl) rfl ?_
            refine WO.s0 (v' := .d (.bool true)) rfl rfl (fun _ => rfl) rfl ?_
            refine WO.s0 (v' := .d (.bool true)) rfl rfl (fun _ => rfl) rfl ?_
            refine WO.s0 (v' := .d (.str a0)) rfl rfl (fun _ => rfl) rfl ?_
            refine bind_elim h (fun x13 hx13 h => ?_)
            refine WO.cutG hx13 rfl rfl rfl rfl rfl rfl rfl rfl rfl ?_
            refine WO.s0 (v' := .d (.str a1)) rfl rfl (fun _ => rfl) rfl ?_
            refine bind_elim h (fun x14 hx14 h => ?_)
            refine WO.cutG hx14 rfl rfl rfl rfl rfl rfl rfl rfl rfl ?_
            refine bind_elim h (fun x15 hx15 h => ?_)
            refine WO.callR (v := .d (.bool x15)) (u := []) rfl rfl (fun _ => rfl) rfl rfl rfl rfl rfl (source_fitsN_ev nfu hx15) rfl rfl rfl rfl ?_
            refine WO.s0 (v' := .d (.bool x15)) rfl rfl (fun _ => rfl) rfl ?_
            refine WO.s0 (v' := .d (.bool x15)) rfl rfl (fun _ => rfl) rfl ?_
            refine WO.nil ⟨by kernel_rfl, ?_⟩
            refine WC.ret ?_
            obtain rfl := Option.some.inj h
            exact WC.done rfl rfl rfl
          · refine WO.s0 (v' := .d (.bool false)) rfl rfl (fun _ => rfl) (congrArg (fun b => RV.d (.bool b)) hb12) ?_
            refine WO.s0 (v' := .d (.bool false)) rfl rfl (fun _ => rfl) rfl ?_
            refine WO.s0 (v' := .d (.str a0)) rfl rfl (fun _ => rfl) rfl ?_
            refine bind_elim h (fun x16 hx16 h => ?_)
            refine WO.byteG hx16 rfl rfl rfl rfl rfl rfl ?_
            refine WO.s0 (v' := .d (.str a1)) rfl rfl (fun _ => rfl) rfl ?_
            refine bind_elim h (fun x17 hx17 h => ?_)
            refine WO.byteG hx17 rfl rfl rfl rfl rfl rfl ?_
            refine WO.s0 (v' := .d (.bool (x16 == x17))) rfl rfl (fun _ => rfl) rfl ?_
            refine WO.s0 (v' := .d (.bool (x16 == x17))) rfl rfl (fun _ => rfl) rfl ?_
            refine ite_elim h (fun hb18 h => ?_) (fun hb18 h => ?_)
            · refine WO.s0 (v' := .d (.bool true)) rfl rfl (fun _ => rfl) (congrArg (fun b => RV.d (.bool b)) hb18) ?_
              refine WO.s0 (v' := .d (.bool true)) rfl rfl (fun _ => rfl) rfl ?_
              refine WO.s0 (v' := .d (.str a0)) rfl rfl (fun _ => rfl) rfl ?_
              refine bind_elim h (fun x19 hx19 h => ?_)
              refine WO.cutG hx19 rfl rfl rfl rfl rfl rfl rfl rfl rfl ?_
              refine WO.s0 (v' := .d (.str a1)) rfl rfl (fun _ => rfl) rfl ?_
              refine bind_elim h (fun x20 hx20 h => ?_)
              refine WO.cutG hx20 rfl rfl rfl rfl rfl rfl rfl rfl rfl ?_
              refine bind_elim h (fun x21 hx21 h => ?_)
              refine WO.callR (v := .d (.bool x21)) (u := []) rfl rfl (fun _ => rfl) rfl rfl rfl rfl rfl (source_fitsN_ev nfu hx21) rfl rfl rfl rfl ?_
              refine WO.s0 (v' := .d (.bool x21)) rfl rfl (fun _ => rfl) rfl ?_
              refine WO.s0 (v' := .d (.bool x21)) rfl rfl (fun _ => rfl) rfl ?_
              refine WO.nil ⟨by kernel_rfl, ?_⟩
              refine WC.ret ?_
              obtain rfl := Option.some.inj h
              exact WC.done rfl rfl rfl
            · refine WO.s0 (v' := .d (.bool false)) rfl rfl (fun _ => rfl) (congrArg (fun b => RV.d (.bool b)) hb18) ?_
              refine WO.s0 (v' := .d (.bool false)) rfl rfl (fun _ => rfl) rfl ?_
              refine WO.skip rfl rfl ?_
              refine WO.skip rfl rfl ?_
              refine WO.skip rfl rfl ?_
              refine WO.skip rfl rfl ?_
              refine WO.skip rfl rfl ?_
              refine WO.s0 (v' := .d (.bool false)) rfl rfl (fun _ => rfl) rfl ?_
              refine WO.s0 (v' := .d (.bool false)) rfl rfl (fun _ => rfl) rfl ?_
              refine WO.nil ⟨by kernel_rfl, ?_⟩
              refine WC.ret ?_
              obtain rfl := Option.some.inj h
              exact WC.done rfl rfl rfl
        · refine WO.s0 (v' := .d (.bool false)) rfl rfl (fun _ => rfl) (congrArg (fun b => RV.d (.bool b)) hb10) ?_
          refine WO.s0 (v' := .d (.bool false)) rfl rfl (fun _ => rfl) rfl ?_
          refine WO.skip rfl rfl ?_
          refine WO.skip rfl rfl ?_
          refine WO.skip rfl rfl ?_
          refine WO.skip rfl rfl ?_
          refine WO.skip rfl rfl ?_
          refine WO.skip rfl rfl ?_
          refine WO.skip rfl rfl ?_
          refine WO.skip rfl rfl ?_
          refine WO.skip rfl rfl ?_
          refine WO.skip rfl rfl ?_
          refine WO.s0 (v' := .d (.bool false)) rfl rfl (fun _ => rfl) rfl ?_
          refine WO.s0 (v' := .d (.bool false)) rfl rfl (fun _ => rfl) rfl ?_
          refine WO.skip rfl rfl ?_
          refine WO.skip rfl rfl ?_
          refine WO.skip rfl rfl ?_
          refine WO.skip rfl rfl ?_
          refine WO.skip rfl rfl ?_
          refine WO.s0 (v' := .d (.bool false)) rfl rfl (fun _ => rfl) rfl ?_
          refine WO.s0 (v' := .d (.bool false)) rfl rfl (fun _ => rfl) rfl ?_
          refine WO.nil ⟨by kernel_rfl, ?_⟩
          refine WC.ret ?_
          obtain rfl := Option.some.inj h
          exact WC.done rfl rfl rfl
theorem source_fits_ev {a0 : (List UInt8)} {a1 : (List UInt8)} {r : Bool} (h : source_fits a0 a1 = some r) : EvP prog hints ext 47 [.d (.str a0), .d (.str a1)] [] (.d (.bool r), []) :=
  let ⟨n, hn⟩ := recO_some h; source_fitsN_ev n hn
theorem source_match_ev {a0 : (List (List UInt8))} {a1 : T_api_SourceID} {r : Bool} (h : source_match a0 a1 = some r) : EvP prog hints ext 31 [.d (.lst (a0.map PD.str)), .d (T_api_SourceID.pd a1)] [] (.d (.bool r), []) := by
  refine Ev.body rfl Tryd.func31 rfl (by kernel_rfl) ?_
  refine WC.regionSeq rfl rfl ?_
  refine WO.s1 (v := .ptr 48 0) (id := 48) (bx := .var [.d (.str a1.fNetwork), .d (.str a1.fStation), .d (.str a1.fLocation), .d (.str a1.fChannel)]) rfl rfl (fun _ => rfl) ?_
  refine WO.s0 (v' := .d (.bool false)) rfl rfl (fun _ => rfl) rfl ?_
  refine WO.nil ?_
  refine WC.seq ?_
  refine WC.regionSeq rfl rfl ?_
  refine WO.s0 (v' := .d (T_api_SourceID.pd a1)) rfl rfl (fun _ => rfl) rfl ?_
  refine bind_elim h (fun x1 hx1 h => ?_)
  refine WO.callR (v := .d (A4__List_UInt8_.pd x1)) (u := []) rfl rfl (fun _ => rfl) rfl rfl rfl rfl rfl (source_parts_ev hx1) rfl rfl rfl rfl ?_
  refine WO.s0 (v' := .d (.int .i64 0)) rfl rfl (fun _ => rfl) rfl ?_
  refine WO.nil ?_
  refine WC.block (WC.loop ?_)
  refine WL.round ?_
  refine WC.regionSeq rfl rfl ?_
  refine WO.s0 (v' := .d (.bool true)) rfl rfl (fun _ => rfl) rfl ?_
  refine WO.nil ?_
  refine WC.seq ?_
  refine WC.condT rfl ?_
  refine WC.skip ?_
  refine WC.seq ?_
  refine WC.block ?_
  refine WC.regionSeq rfl rfl ?_
  refine WO.s0 (v' := .d (.int .i64 0)) rfl rfl (fun _ => rfl) rfl ?_
  refine WO.s0 (v' := .d (.str x1.a0)) rfl rfl (fun _ => rfl) rfl ?_
  refine WO.s0 (v' := .d (.int .i64 0)) rfl rfl (fun _ => rfl) rfl ?_
  refine WO.s0 (v' := .d (.str x1.a0)) rfl rfl (fun _ => rfl) rfl ?_
  refine WO.nil ?_
  refine WC.regionSeq rfl rfl ?_
  refine WO.s0 (v' := .d (.lst (a0.map PD.str))) rfl rfl (fun _ => rfl) rfl ?_
  refine WO.s0 (v' := .d (.int .i64 0)) rfl rfl (fun _ => rfl) rfl ?_
  refine bind_elim h (fun x2 hx2 h => ?_)
  refine WO.elemG hx2 rfl rfl rfl rfl rfl rfl rfl rfl rfl ?_
  refine WO.s0 (v' := .d (.str x2)) rfl rfl (fun _ => rfl) rfl ?_
  refine WO.s0 (v' := .d (.str x1.a0)) rfl rfl (fun _ => rfl) rfl ?_
  refine bind_elim h (fun x3 hx3 h => ?_)
  refine WO.callR (v := .d (.bool x3)) (u := []) rfl rfl (fun _ => rfl) rfl rfl rfl rfl rfl (source_fits_ev hx3) rfl rfl rfl rfl ?_
  refine ite_elim h (fun hb4 h => ?_) (fun hb4 h => ?_)
  · refine WO.s0 (v' := .d (.bool true)) rfl rfl (fun _ => rfl) (congrArg (fun b => RV.d (.bool b)) hb4) ?_
    refine WO.nil ?_
    refine WC.condT rfl ?_
    refine WC.regionSeq rfl rfl ?_
    refine WO.s0 (v' := .d (.bool false)) rfl rfl (fun _ => rfl) rfl ?_
    refine WO.nil ?_
    refine WC.ret ?_
    obtain rfl := Option.some.inj h
    exact WC.done rfl rfl rfl
  · refine WO.s0 (v' := .d (.bool false)) rfl rfl (fun _ => rfl) (congrArg (fun b => RV.d (.bool b)) hb4) ?_
    refine WO.nil ?_
    refine WC.condF rfl ?_
    refine WC.skip ?_
    refine WC.region rfl rfl ?_
    refine WO.s0 (v' := .d (.int .i64 1)) rfl rfl (fun _ => rfl) rfl ?_
    refine WO.s0 (v' := .d (.int .i64 1)) rfl rfl (fun _ => rfl) rfl ?_
    refine WO.nil ?_
    refine WL.round ?_
    refine WC.regionSeq rfl rfl ?_
    refine WO.s0 (v' := .d (.bool true)) rfl rfl (fun _ => rfl) rfl ?_
    refine WO.nil ?_
    refine WC.seq ?_
    refine WC.condT rfl ?_
    refine WC.skip ?_
    refine WC.seq ?_
    refine WC.block ?_
    refine WC.regionSeq rfl rfl ?_
    refine WO.s0 (v' := .d (.int .i64 1)) rfl rfl (fun _ => rfl) rfl ?_
    refine WO.s0 (v' := .d (.str x1.a1)) rfl rfl (fun _ => rfl) rfl ?_
    refine WO.s0 (v' := .d (.int .i64 1)) rfl rfl (fun _ => rfl) rfl ?_
    refine WO.s0 (v' := .d (.str x1.a1)) rfl rfl (fun _ => rfl) rfl ?_
    refine WO.nil ?_
    refine WC.regionSeq rfl rfl ?_
    refine WO.s0 (v' := .d (.lst (a0.map PD.str))) rfl rfl (fun _ => rfl) rfl ?_
    refine WO.s0 (v' := .d (.int .i64 1)) rfl rfl (fun _ => rfl) rfl ?_
    refine bind_elim h (fun x5 hx5 h => ?_)
    refine WO.elemG hx5 rfl rfl rfl rfl rfl rfl rfl rfl rfl ?_
    refine WO.s0 (v' := .d (.str x5)) rfl rfl (fun _ => rfl) rfl ?_
    refine WO.s0 (v' := .d (.str x1.a1)) rfl rfl (fun _ => rfl) rfl ?_
    refine bind_elim h (fun x6 hx6 h => ?_)
    refine WO.callR (v := .d (.bool x6)) (u := []) rfl rfl (fun _ => rfl) rfl rfl rfl rfl rfl (source_fits_ev hx6) rfl rfl rfl rfl ?_
    refine ite_elim h (fun hb7 h => ?_) (fun hb7 h => ?_)
    · refine WO.s0 (v' := .d (.bool true)) rfl rfl (fun _ => rfl) (congrArg (fun b => RV.d (.bool b)) hb7) ?_
      refine WO.nil ?_
      refine WC.condT rfl ?_
      refine WC.regionSeq rfl rfl ?_
      refine WO.s0 (v' := .d (.bool false)) rfl rfl (fun _ => rfl) rfl ?_
      refine WO.nil ?_
      refine WC.ret ?_
      obtain rfl := Option.some.inj h
      exact WC.done rfl rfl rfl
    · refine WO.s0 (v' := .d (.bool false)) rfl rfl (fun _ => rfl) (congrArg (fun b => RV.d (.bool b)) hb7) ?_
      refine WO.nil ?_
      refine WC.condF rfl ?_
      refine WC.skip ?_
      refine WC.region rfl rfl ?_
      refine WO.s0 (v' := .d (.int .i64 2)) rfl rfl (fun _ => rfl) rfl ?_
      refine WO.s0 (v' := .d (.int .i64 2)) rfl rfl (fun _ => rfl) rfl ?_
      refine WO.nil ?_
      refine WL.round ?_
      refine WC.regionSeq rfl rfl ?_
      refine WO.s0 (v' := .d (.bool true)) rfl rfl (fun _ => rfl) rfl ?_
      refine WO.nil ?_
      refine WC.seq ?_
      refine WC.condT rfl ?_
      refine WC.skip ?_
      refine WC.seq ?_
      refine WC.block ?_
      refine WC.regionSeq rfl rfl ?_
      refine WO.s0 (v' := .d (.int .i64 2)) rfl rfl (fun _ => rfl) rfl ?_
      refine WO.s0 (v' := .d (.str x1.a2)) rfl rfl (fun _ => rfl) rfl ?_
      refine WO.s0 (v' := .d (.int .i64 2)) rfl rfl (fun _ => rfl) rfl ?_
      refine WO.s0 (v' := .d (.str x1.a2)) rfl rfl (fun _ => rfl) rfl ?_
      refine WO.nil ?_
      refine WC.regionSeq rfl rfl ?_
      refine WO.s0 (v' := .d (.lst (a0.map PD.str))) rfl rfl (fun _ => rfl) rfl ?_
      refine WO.s0 (v' := .d (.int .i64 2)) rfl rfl (fun _ => rfl) rfl ?_
      refine bind_elim h (fun x8 hx8 h => ?_)
      refine WO.elemG hx8 rfl rfl rfl rfl rfl rfl rfl rfl rfl ?_
      refine WO.s0 (v' := .d (.str x8)) rfl rfl (fun _ => rfl) rfl ?_
      refine WO.s0 (v' := .d (.str x1.a2)) rfl rfl (fun _ => rfl) rfl ?_
      refine bind_elim h (fun x9 hx9 h => ?_)
      refine WO.callR (v := .d (.bool x9)) (u := []) rfl rfl (fun _ => rfl) rfl rfl rfl rfl rfl (source_fits_ev hx9) rfl rfl rfl rfl ?_
      refine ite_elim h (fun hb10 h => ?_) (fun hb10 h => ?_)
      · refine WO.s0 (v' := .d (.bool true)) rfl rfl (fun _ => rfl) (congrArg (fun b => RV.d (.bool b)) hb10) ?_
        refine WO.nil ?_
        refine WC.condT rfl ?_
        refine WC.regionSeq rfl rfl ?_
        refine WO.s0 (v' := .d (.bool false)) rfl rfl (fun _ => rfl) rfl ?_
        refine WO.nil ?_
        refine WC.ret ?_
        obtain rfl := Option.some.inj h
        exact WC.done rfl rfl rfl
      · refine WO.s0 (v' := .d (.bool false)) rfl rfl (fun _ => rfl) (congrArg (fun b => RV.d (.bool b)) hb10) ?_
        refine WO.nil ?_
        refine WC.condF rfl ?_
        refine WC.skip ?_
        refine WC.region rfl rfl ?_
        refine WO.s0 (v' := .d (.int .i64 3)) rfl rfl (fun _ => rfl) rfl ?_
        refine WO.s0 (v' := .d (.int .i64 3)) rfl rfl (fun _ => rfl) rfl ?_
        refine WO.nil ?_
        refine WL.round ?_
        refine WC.regionSeq rfl rfl ?_
        refine WO.s0 (v' := .d (.bool true)) rfl rfl (fun _ => rfl) rfl ?_
        refine WO.nil ?_
        refine WC.seq ?_
        refine WC.condT rfl ?_
        refine WC.skip ?_
        refine WC.seq ?_
        refine WC.block ?_
        refine WC.regionSeq rfl rfl ?_
        refine WO.s0 (v' := .d (.int .i64 3)) rfl rfl (fun _ => rfl) rfl ?_
        refine WO.s0 (v' := .d (.str x1.a3)) rfl rfl (fun _ => rfl) rfl ?_
        refine WO.s0 (v' := .d (.int .i64 3)) rfl rfl (fun _ => rfl) rfl ?_
        refine WO.s0 (v' := .d (.str x1.a3)) rfl rfl (fun _ => rfl) rfl ?_
        refine WO.nil ?_
        refine WC.regionSeq rfl rfl ?_
        refine WO.s0 (v' := .d (.lst (a0.map PD.str))) rfl rfl (fun _ => rfl) rfl ?_
        refine WO.s0 (v' := .d (.int .i64 3)) rfl rfl (fun _ => rfl) rfl ?_
        refine bind_elim h (fun x11 hx11 h => ?_)
        refine WO.elemG hx11 rfl rfl rfl rfl rfl rfl rfl rfl rfl ?_
        refine WO.s0 (v' := .d (.str x11)) rfl rfl (fun _ => rfl) rfl ?_
        refine WO.s0 (v' := .d (.str x1.a3)) rfl rfl (fun _ => rfl) rfl ?_
        refine bind_elim h (fun x12 hx12 h => ?_)
        refine WO.callR (v := .d (.bool x12)) (u := []) rfl rfl (fun _ => rfl) rfl rfl rfl rfl rfl (source_fits_ev hx12) rfl rfl rfl rfl ?_
        refine ite_elim h (fun hb13 h => ?_) (fun hb13 h => ?_)
        · refine WO.s0 (v' := .d (.bool true)) rfl rfl (fun _ => rfl) (congrArg (fun b => RV.d (.bool b)) hb13) ?_
          refine WO.nil ?_
          refine WC.condT rfl ?_
          refine WC.regionSeq rfl rfl ?_
          refine WO.s0 (v' := .d (.bool false)) rfl rfl (fun _ => rfl) rfl ?_
          refine WO.nil ?_
          refine WC.ret ?_
          obtain rfl := Option.some.inj h
          exact WC.done rfl rfl rfl
        · refine WO.s0 (v' := .d (.bool false)) rfl rfl (fun _ => rfl) (congrArg (fun b => RV.d (.bool b)) hb13) ?_
          refine WO.nil ?_
          refine WC.condF rfl ?_
          refine WC.skip ?_
          refine WC.region rfl rfl ?_
          refine WO.s0 (v' := .d (.int .i64 4)) rfl rfl (fun _ => rfl) rfl ?_
          refine WO.s0 (v' := .d (.int .i64 4)) rfl rfl (fun _ => rfl) rfl ?_
          refine WO.nil ?_
          refine WL.round ?_
          refine WC.regionSeq rfl rfl ?_
          refine WO.s0 (v' := .d (.bool false)) rfl rfl (fun _ => rfl) rfl ?_
          refine WO.nil ?_
          refine WC.seq ?_
          refine WC.condF rfl ?_
          refine WC.exit ?_
          refine ⟨fun _ => ?_, fun hne => (hne rfl).elim⟩
          refine WC.regionSeq rfl rfl ?_
          refine WO.s0 (v' := .d (.bool true)) rfl rfl (fun _ => rfl) rfl ?_
          refine WO.nil ?_
          refine WC.ret ?_
          obtain rfl := Option.some.inj h
          exact WC.done rfl rfl rfl
theorem source_Match_ev {a0 : (List UInt8)} {a1 : T_api_SourceID} {r : Bool × Int} (h : source_Match a0 a1 = some r) : EvP prog hints ext 12 [.d (.str a0), .d (T_api_SourceID.pd a1)] [] (.tup [.d (.bool r.1), .d (.int .i64 r.2)], []) := by
  refine Ev.body rfl Tryd.func12 rfl (by kernel_rfl) ?_
  refine WC.regionSeq rfl rfl ?_
  refine WO.s1 (v := .ptr 48 0) (id := 48) (bx := .var [.d (.str a1.fNetwork), .d (.str a1.fStation), .d (.str a1.fLocation), .d (.str a1.fChannel)]) rfl rfl (fun _ => rfl) ?_
  refine WO.s0 (v' := .d (.bool false)) rfl rfl (fun _ => rfl) rfl ?_
  refine WO.s0 (v' := .d (.int .i64 0)) rfl rfl (fun _ => rfl) rfl ?_
  refine WO.nil ?_
  refine WC.regionSeq rfl rfl ?_
  refine WO.s0 (v' := .d (.str a0)) rfl rfl (fun _ => rfl) rfl ?_
  refine bind_elim h (fun x1 hx1 h => ?_)
  refine WO.callR (v := .tup [.d (.lst (x1.1.map PD.str)), .d (.bool x1.2)]) (u := []) rfl rfl (fun _ => rfl) rfl rfl rfl rfl rfl (source_pattern_ev hx1) rfl rfl rfl rfl ?_
  refine WO.s0 (v' := .tup [.d (.lst (x1.1.map PD.str)), .d (.bool x1.2)]) rfl rfl (fun _ => rfl) rfl ?_
  refine WO.s0 (v' := .d (.lst (x1.1.map PD.str))) rfl rfl (fun _ => rfl) rfl ?_
  refine WO.s0 (v' := .d (.bool x1.2)) rfl rfl (fun _ => rfl) rfl ?_
  refine WO.s0 (v' := .d (.lst (x1.1.map PD.str))) rfl rfl (fun _ => rfl) rfl ?_
  refine WO.s0 (v' := .d (.bool x1.2)) rfl rfl (fun _ => rfl) rfl ?_
  refine WO.nil ?_
  refine WC.seq ?_
  refine WC.regionSeq rfl rfl ?_
  refine WO.s0 (v' := .d (.bool x1.2)) rfl rfl (fun _ => rfl) rfl ?_
  refine ite_elim h (fun hb2 h => ?_) (fun hb2 h => ?_)
  · refine WO.s0 (v' := .d (.bool true)) rfl rfl (fun _ => rfl) (congrArg (fun b => RV.d (.bool b)) hb2) ?_
    refine WO.nil ?_
    refine WC.condT rfl ?_
    refine WC.regionSeq rfl rfl ?_
    refine WO.s0 (v' := .d (.bool false)) rfl rfl (fun _ => rfl) rfl ?_
    refine WO.s0 (v' := .d (.int .i64 3)) rfl rfl (fun _ => rfl) rfl ?_
    refine WO.nil ?_
    refine WC.ret ?_
    obtain rfl := Option.some.inj h
    exact WC.done rfl rfl rfl
  · refine WO.s0 (v' := .d (.bool false)) rfl rfl (fun _ => rfl) (congrArg (fun b => RV.d (.bool b)) hb2) ?_
    refine WO.nil ?_
    refine WC.condF rfl ?_
    refine WC.skip ?_
    refine WC.seq ?_
    refine WC.regionSeq rfl rfl ?_
    refine WO.s0 (v' := .d (T_api_SourceID.pd a1)) rfl rfl (fun _ => rfl) rfl ?_
    refine bind_elim h (fun x3 hx3 h => ?_)
    refine WO.callR (v := .d (.bool x3)) (u := []) rfl rfl (fun _ => rfl) rfl rfl rfl rfl rfl (source_Valid_ev hx3) rfl rfl rfl rfl ?_
    refine ite_elim h (fun hb4 h => ?_) (fun hb4 h => ?_)
    · refine WO.s0 (v' := .d (.bool true)) rfl rfl (fun _ => rfl) (congrArg (fun b => RV.d (.bool b)) hb4) ?_
      refine WO.nil ?_
      refine WC.condT rfl ?_
      refine WC.regionSeq rfl rfl ?_
      refine WO.s0 (v' := .d (.bool false)) rfl rfl (fun _ => rfl) rfl ?_
      refine WO.s0 (v' := .d (.int .i64 1)) rfl rfl (fun _ => rfl) rfl ?_
      refine WO.nil ?_
      refine WC.ret ?_
      obtain rfl := Option.some.inj h
      exact WC.done rfl rfl rfl
    · refine WO.s0 (v' := .d (.bool false)) rfl rfl (fun _ => rfl) (congrArg (fun b => RV.d (.bool b)) hb4) ?_
      refine WO.nil ?_
      refine WC.condF rfl ?_
      refine WC.skip ?_
      refine WC.regionSeq rfl rfl ?_
      refine WO.s0 (v' := .d (.lst (x1.1.map PD.str))) rfl rfl (fun _ => rfl) rfl ?_
      refine WO.s0 (v' := .d (T_api_SourceID.pd a1)) rfl rfl (fun _ => rfl) rfl ?_
      refine bind_elim h (fun x5 hx5 h => ?_)
      refine WO.callR (v := .d (.bool x5)) (u := []) rfl rfl (fun _ => rfl) rfl rfl rfl rfl rfl (source_match_ev hx5) rfl rfl rfl rfl ?_
      refine WO.s0 (v' := .d (.bool x5)) rfl rfl (fun _ => rfl) rfl ?_
      refine WO.s0 (v' := .d (.int .i64 0)) rfl rfl (fun _ => rfl) rfl ?_
      refine WO.nil ?_
      refine WC.ret ?_
      obtain rfl := Option.some.inj h
      exact WC.done rfl rfl rfl
theorem law03_sane_ev  {r : Bool} (h : law03_sane = some r) : EvP prog hints ext 8 [] [] (.d (.bool r), []) := by
  refine Ev.body rfl Tryd.func8 rfl (by kernel_rfl) ?_
  refine WC.regionSeq rfl rfl ?_
  refine WO.s0 (v' := .d (.bool false)) rfl rfl (fun _ => rfl) rfl ?_
  refine WO.nil ?_
  refine WC.regionSeq rfl rfl ?_
  refine bind_elim h (fun x1 hx1 h => ?_)
  refine WO.callR (v := .tup [.d (T_api_SourceID.pd x1.1), .d (.int .i64 x1.2)]) (u := []) rfl rfl (fun _ => rfl) rfl rfl rfl rfl rfl (source_Parse_ev hx1) rfl rfl rfl rfl ?_
  refine WO.s0 (v' := .tup [.d (T_api_SourceID.pd x1.1), .d (.int .i64 x1.2)]) rfl rfl (fun _ => rfl) rfl ?_
  refine WO.s0 (v' := .d (T_api_SourceID.pd x1.1)) rfl rfl (fun _ => rfl) rfl ?_
  refine WO.s0 (v' := .d (.int .i64 x1.2)) rfl rfl (fun _ => rfl) rfl ?_
  refine WO.s1 (v := .ptr 16 0) (id := 16) (bx := .var [.d (.str []), .d (.str []), .d (.str []), .d (.str [])]) rfl rfl (fun _ => rfl) ?_
  refine WO.n1 (v := .undef) (id := 16) (bx := .var [.d (.str x1.1.fNetwork), .d (.str x1.1.fStation), .d (.str x1.1.fLocation), .d (.str x1.1.fChannel)]) rfl rfl (fun _ => rfl) ?_
  refine WO.s0 (v' := .d (.int .i64 x1.2)) rfl rfl (fun _ => rfl) rfl ?_
  refine WO.nil ?_
  refine WC.regionSeq rfl rfl ?_
  refine WO.s0 (v' := .d (T_api_SourceID.pd x1.1)) rfl rfl (fun _ => rfl) rfl ?_
  refine bind_elim h (fun x2 hx2 h => ?_)
  refine WO.callR (v := .tup [.d (.bool x2.1), .d (.int .i64 x2.2)]) (u := []) rfl rfl (fun _ => rfl) rfl rfl rfl rfl rfl (source_Match_ev hx2) rfl rfl rfl rfl ?_
  refine WO.s0 (v' := .tup [.d (.bool x2.1), .d (.int .i64 x2.2)]) rfl rfl (fun _ => rfl) rfl ?_
  refine WO.s0 (v' := .d (.bool x2.1)) rfl rfl (fun _ => rfl) rfl ?_
  refine WO.s0 (v' := .d (.int .i64 x2.2)) rfl rfl (fun _ => rfl) rfl ?_
  refine WO.s0 (v' := .d (.bool x2.1)) rfl rfl (fun _ => rfl) rfl ?_
  refine WO.s0 (v' := .d (.int .i64 x2.2)) rfl rfl (fun _ => rfl) rfl ?_
  refine WO.nil ?_
  refine WC.regionSeq rfl rfl ?_
  refine WO.s0 (v' := .d (T_api_SourceID.pd x1.1)) rfl rfl (fun _ => rfl) rfl ?_
  refine bind_elim h (fun x3 hx3 h => ?_)
  refine WO.callR (v := .tup [.d (.bool x3.1), .d (.int .i64 x3.2)]) (u := []) rfl rfl (fun _ => rfl) rfl rfl rfl rfl rfl (source_Match_ev hx3) rfl rfl rfl rfl ?_
  refine WO.s0 (v' := .tup [.d (.bool x3.1), .d (.int .i64 x3.2)]) rfl rfl (fun _ => rfl) rfl ?_
  refine WO.s0 (v' := .d (.bool x3.1)) rfl rfl (fun _ => rfl) rfl ?_
  refine WO.s0 (v' := .d (.int .i64 x3.2)) rfl rfl (fun _ => rfl) rfl ?_
  refine WO.s0 (v' := .d (.bool x3.1)) rfl rfl (fun _ => rfl) rfl ?_
  refine WO.s0 (v' := .d (.int .i64 x3.2)) rfl rfl (fun _ => rfl) rfl ?_
  refine WO.nil ?_
  refine WC.regionSeq rfl rfl ?_
  refine WO.s0 (v' := .d (.int .i64 x1.2)) rfl rfl (fun _ => rfl) rfl ?_
  refine ite_elim h (fun hb4 h => ?_) (fun hb4 h => ?_)
  · refine WO.s0 (v' := .d (.bool true)) rfl rfl (fun _ => rfl) (congrArg (fun b => RV.d (.bool b)) hb4) ?_
    refine WO.s0 (v' := .d (.bool true)) rfl rfl (fun _ => rfl) rfl ?_
    refine WO.s0 (v' := .d (T_api_SourceID.pd x1.1)) rfl rfl (fun _ => rfl) rfl ?_
    refine WO.s0 (v' := .d (T_api_SourceID.pd (T_api_SourceID.mk [71, 82] [70, 85, 82] [] [72, 72, 90]))) rfl rfl (fun _ => rfl) rfl ?_
    refine WO.bin (eqE_28 x1.1 (T_api_SourceID.mk [71, 82] [70, 85, 82] [] [72, 72, 90])) rfl rfl rfl rfl rfl ?_
    refine ite_elim h (fun hb5 h => ?_) (fun hb5 h => ?_)
    · refine WO.s0 (v' := .d (.bool true)) rfl rfl (fun _ => rfl) (congrArg (fun b => RV.d (.bool b)) hb5) ?_
      refine WO.s0 (v' := .d (.bool true)) rfl rfl (fun _ => rfl) rfl ?_
      refine WO.s0 (v' := .d (.int .i64 x2.2)) rfl rfl (fun _ => rfl) rfl ?_
      refine WO.s0 (v' := .d (.bool (x2.2 == (0 : Int)))) rfl rfl (fun _ => rfl) rfl ?_
      refine ite_elim h (fun hb6 h => ?_) (fun hb6 h => ?_)
      · refine WO.s0 (v' := .d (.bool true)) rfl rfl (fun _ => rfl) (congrArg (fun b => RV.d (.bool b)) hb6) ?_
        refine WO.s0 (v' := .d (.bool true)) rfl rfl (fun _ => rfl) rfl ?_
        refine WO.s0 (v' := .d (.int .i64 x3.2)) rfl rfl (fun _ => rfl) rfl ?_
        refine WO.s0 (v' := .d (.bool (x3.2 == (0 : Int)))) rfl rfl (fun _ => rfl) rfl ?_
        refine ite_elim h (fun hb7 h => ?_) (fun hb7 h => ?_)
        · refine WO.s0 (v' := .d (.bool true)) rfl rfl (fun _ => rfl) (congrArg (fun b => RV.d (.bool b)) hb7) ?_
          refine WO.s0 (v' := .d (.bool true)) rfl rfl (fun _ => rfl) rfl ?_
          refine WO.s0 (v' := .d (.bool x2.1)) rfl rfl (fun _ => rfl) rfl ?_
          refine ite_elim h (fun hb8 h => ?_) (fun hb8 h => ?_)
          · refine WO.s0 (v' := .d (.bool true)) rfl rfl (fun _ => rfl) (congrArg (fun b => RV.d (.bool b)) hb8) ?_
            refine WO.s0 (v' := .d (.bool true)) rfl rfl (fun _ => rfl) rfl ?_
            refine WO.s0 (v' := .d (.bool x3.1)) rfl rfl (fun _ => rfl) rfl ?_
            refine WO.s0 (v' := .d (.bool (!x3.1))) rfl rfl (fun _ => rfl) rfl ?_
            refine WO.s0 (v' := .d (.bool (!x3.1))) rfl rfl (fun _ => rfl) rfl ?_
            refine WO.s0 (v' := .d (.bool (!x3.1))) rfl rfl (fun _ => rfl) rfl ?_
            refine WO.nil ?_
            refine WC.ret ?_
            obtain rfl := Option.some.inj h
            exact WC.done rfl rfl rfl
          · refine WO.s0 (v' := .d (.bool false)) rfl rfl (fun _ => rfl) (congrArg (fun b => RV.d (.bool b)) hb8) ?_
            refine WO.s0 (v' := .d (.bool false)) rfl rfl (fun _ => rfl) rfl ?_
            refine WO.skip rfl rfl ?_
            refine WO.skip rfl rfl ?_
            refine WO.s0 (v' := .d (.bool false)) rfl rfl (fun _ => rfl) rfl ?_
            refine WO.s0 (v' := .d (.bool false)) rfl rfl (fun _ => rfl) rfl ?_
            refine WO.nil ?_
            refine WC.ret ?_
            obtain rfl := Option.some.inj h
            exact WC.done rfl rfl rfl
        · refine WO.s0 (v' := .d (.bool false)) rfl rfl (fun _ => rfl) (congrArg (fun b => RV.d (.bool b)) hb7) ?_
          refine WO.s0 (v' := .d (.bool false)) rfl rfl (fun _ => rfl) rfl ?_
          refine WO.skip rfl rfl ?_
          refine WO.s0 (v' := .d (.bool false)) rfl rfl (fun _ => rfl) rfl ?_
          refine WO.s0 (v' := .d (.bool false)) rfl rfl (fun _ => rfl) rfl ?_
          refine WO.skip rfl rfl ?_
          refine WO.skip rfl rfl ?_
          refine WO.s0 (v' := .d (.bool false)) rfl rfl (fun _ => rfl) rfl ?_
          refine WO.s0 (v' := .d (.bool false)) rfl rfl (fun _ => rfl) rfl ?_
          refine WO.nil ?_
          refine WC.ret ?_
          obtain rfl := Option.some.inj h
          exact WC.done rfl rfl rfl
      · refine WO.s0 (v' := .d (.bool false)) rfl rfl (fun _ => rfl) (congrArg (fun b => RV.d (.bool b)) hb6) ?_
        refine WO.s0 (v' := .d (.bool false)) rfl rfl (fun _ => rfl) rfl ?_
        refine WO.skip rfl rfl ?_
        refine WO.skip rfl rfl ?_
        refine WO.s0 (v' := .d (.bool false)) rfl rfl (fun _ => rfl) rfl ?_
        refine WO.s0 (v' := .d (.bool false)) rfl rfl (fun _ => rfl) rfl ?_
        refine WO.skip rfl rfl ?_
        refine WO.s0 (v' := .d (.bool false)) rfl rfl (fun _ => rfl) rfl ?_
        refine WO.s0 (v' := .d (.bool false)) rfl rfl (fun _ => rfl) rfl ?_
        refine WO.skip rfl rfl ?_
        refine WO.skip rfl rfl ?_
        refine WO.s0 (v' := .d (.bool false)) rfl rfl (fun _ => rfl) rfl ?_
        refine WO.s0 (v' := .d (.bool false)) rfl rfl (fun _ => rfl) rfl ?_
        refine WO.nil ?_
        refine WC.ret ?_
        obtain rfl := Option.some.inj h
        exact WC.done rfl rfl rfl
    · refine WO.s0 (v' := .d (.bool false)) rfl rfl (fun _ => rfl) (congrArg (fun b => RV.d (.bool b)) hb5) ?_
      refine WO.s0 (v' := .d (.bool false)) rfl rfl (fun _ => rfl) rfl ?_
      refine WO.skip rfl rfl ?_
      refine WO.skip rfl rfl ?_
      refine WO.s0 (v' := .d (.bool false)) rfl rfl (fun _ => rfl) rfl ?_
      refine WO.s0 (v' := .d (.bool false)) rfl rfl (fun _ => rfl) rfl ?_
      refine WO.skip rfl rfl ?_
      refine WO.skip rfl rfl ?_
      refine WO.s0 (v' := .d (.bool false)) rfl rfl (fun _ => rfl) rfl ?_
      refine WO.s0 (v' := .d (.bool false)) rfl rfl (fun _ => rfl) rfl ?_
      refine WO.skip rfl rfl ?_
      refine WO.s0 (v' := .d (.bool false)) rfl rfl (fun _ => rfl) rfl ?_
      refine WO.s0 (v' := .d (.bool false)) rfl rfl (fun _ => rfl) rfl ?_
      refine WO.skip rfl rfl ?_
      refine WO.skip rfl rfl ?_
      refine WO.s0 (v' := .d (.bool false)) rfl rfl (fun _ => rfl) rfl ?_
      refine WO.s0 (v' := .d (.bool false)) rfl rfl (fun _ => rfl) rfl ?_
      refine WO.nil ?_
      refine WC.ret ?_
      obtain rfl := Option.some.inj h
      exact WC.done rfl rfl rfl
  · refine WO.s0 (v' := .d (.bool false)) rfl rfl (fun _ => rfl) (congrArg (fun b => RV.d (.bool b)) hb4) ?_
    refine WO.s0 (v' := .d (.bool false)) rfl rfl (fun _ => rfl) rfl ?_
    refine WO.skip rfl rfl ?_
    refine WO.skip rfl rfl ?_
    refine WO.skip rfl rfl ?_
    refine WO.s0 (v' := .d (.bool false)) rfl rfl (fun _ => rfl) rfl ?_
    refine WO.s0 (v' := .d (.bool false)) rfl rfl (fun _ => rfl) rfl ?_
    refine WO.skip rfl rfl ?_
    refine WO.skip rfl rfl ?_
    refine WO.s0 (v' := .d (.bool false)) rfl rfl (fun _ => rfl) rfl ?_
    refine WO.s0 (v' := .d (.bool false)) rfl rfl (fun _ => rfl) rfl ?_
    refine WO.skip rfl rfl ?_
    refine WO.skip rfl rfl ?_
    refine WO.s0 (v' := .d (.bool false)) rfl rfl (fun _ => rfl) rfl ?_
    refine WO.s0 (v' := .d (.bool false)) rfl rfl (fun _ => rfl) rfl ?_
    refine WO.skip rfl rfl ?_
    refine WO.s0 (v' := .d (.bool false)) rfl rfl (fun _ => rfl) rfl ?_
    refine WO.s0 (v' := .d (.bool false)) rfl rfl (fun _ => rfl) rfl ?_
    refine WO.skip rfl rfl ?_
    refine WO.skip rfl rfl ?_
    refine WO.s0 (v' := .d (.bool false)) rfl rfl (fun _ => rfl) rfl ?_
    refine WO.s0 (v' := .d (.bool false)) rfl rfl (fun _ => rfl) rfl ?_
    refine WO.nil ?_
    refine WC.ret ?_
    obtain rfl := Option.some.inj h
    exact WC.done rfl rfl rfl
theorem made_Roll_ev {a0 : (List Int)} {r : T_seismonetmade_Dice} (h : made_Roll a0 = some r) : EvP prog hints ext 9 [.d (.lst (a0.map (PD.int .i64)))] [] (.ptr 0 0, [.var [.d (.lst (r.fL.map (PD.int .i64))), .d (.int .i64 r.fAt)]]) := by
  refine Ev.body rfl Tryd.func9 rfl (by kernel_rfl) ?_
  refine WC.regionSeq rfl rfl ?_
  refine WO.s0 (v' := .d (.raw (.pointer none))) rfl rfl (fun _ => rfl) rfl ?_
  refine WO.nil ?_
  refine WC.regionSeq rfl rfl ?_
  refine WO.s0 (v' := .d (.lst (a0.map (PD.int .i64)))) rfl rfl (fun _ => rfl) rfl ?_
  refine WO.s0 (v' := .d (T_seismonetmade_Dice.pd (T_seismonetmade_Dice.mk a0 0))) rfl rfl (fun _ => rfl) rfl ?_
  refine WO.s1 (v := .ptr 80 0) (id := 80) (bx := .var [.d (.lst (((T_seismonetmade_Dice.mk a0 0).fL).map (PD.int .i64))), .d (.int .i64 ((T_seismonetmade_Dice.mk a0 0).fAt))]) rfl rfl (fun _ => rfl) ?_
  refine WO.s0 (v' := .ptr 80 0) rfl rfl (fun _ => rfl) rfl ?_
  refine WO.nil ?_
  refine WC.ret ?_
  obtain rfl := Option.some.inj h
  exact WC.done rfl rfl rfl
theorem Dice_Next_ev {a1 : Int} {d0 : T_seismonetmade_Dice} {r : Int × T_seismonetmade_Dice} (h : Dice_Next a1 d0 = some r) : EvP prog hints ext 11 [.ptr 0 0, .d (.int .i64 a1)] [.var [.d (.lst (d0.fL.map (PD.int .i64))), .d (.int .i64 d0.fAt)]] (.d (.int .i64 r.1), [.var [.d (.lst (r.2.fL.map (PD.int .i64))), .d (.int .i64 r.2.fAt)]]) := by
  refine Ev.body rfl Tryd.func11 rfl (by kernel_rfl) ?_
  refine WC.regionSeq rfl rfl ?_
  refine WO.s0 (v' := .d (.int .i64 0)) rfl rfl (fun _ => rfl) rfl ?_
  refine WO.nil ?_
  refine WC.seq ?_
  refine WC.regionDSeq rfl rfl ?_
  refine WO.s0 (v' := .ptr 0 0) rfl rfl (fun _ => rfl) rfl ?_
  refine WO.s0 (v' := .ptr 0 0) rfl rfl (fun _ => rfl) rfl ?_
  refine WO.s0 (v' := .ptr 0 1) rfl rfl (fun _ => rfl) rfl ?_
  refine WO.s0 (v' := .d (.int .i64 d0.fAt)) rfl rfl (fun _ => rfl) rfl ?_
  refine WO.s0 (v' := .ptr 0 0) rfl rfl (fun _ => rfl) rfl ?_
  refine WO.s0 (v' := .ptr 0 0) rfl rfl (fun _ => rfl) rfl ?_
  refine WO.s0 (v' := .ptr 0 0) rfl rfl (fun _ => rfl) rfl ?_
  refine WO.s0 (v' := .d (.lst (d0.fL.map (PD.int .i64)))) rfl rfl (fun _ => rfl) rfl ?_
  refine WO.s0 (v' := .d (.int .i64 (d0.fL.length : Int))) rfl rfl (fun _ => rfl) (lenMap _ _) ?_
  refine ite_elim h (fun hb1 h => ?_) (fun hb1 h => ?_)
  · refine WO.s0 (v' := .d (.bool true)) rfl rfl (fun _ => rfl) (congrArg (fun b => RV.d (.bool b)) hb1) ?_
    refine WO.s0 (v' := .d (.bool true)) rfl rfl (fun _ => rfl) rfl ?_
    refine WO.skip rfl rfl ?_
    refine WO.skip rfl rfl ?_
    refine WO.s0 (v' := .d (.bool true)) rfl rfl (fun _ => rfl) rfl ?_
    refine WO.nil ⟨by kernel_rfl, ?_⟩
    refine WC.condT rfl ?_
    refine WC.regionSeq rfl rfl ?_
    refine WO.s0 (v' := .d (.int .i64 0)) rfl rfl (fun _ => rfl) rfl ?_
    refine WO.nil ?_
    refine WC.ret ?_
    obtain rfl := Option.some.inj h
    exact WC.done rfl rfl rfl
  · refine WO.s0 (v' := .d (.bool false)) rfl rfl (fun _ => rfl) (congrArg (fun b => RV.d (.bool b)) hb1) ?_
    refine WO.s0 (v' := .d (.bool false)) rfl rfl (fun _ => rfl) rfl ?_
    refine WO.s0 (v' := .d (.int .i64 a1)) rfl rfl (fun _ => rfl) rfl ?_
    refine WO.s0 (v' := .d (.bool (decide (a1 < (1 : Int))))) rfl rfl (fun _ => rfl) rfl ?_
    refine ite_elim h (fun hb2 h => ?_) (fun hb2 h => ?_)
    · refine WO.s0 (v' := .d (.bool true)) rfl rfl (fun _ => rfl) (congrArg (fun b => RV.d (.bool b)) hb2) ?_
      refine WO.nil ⟨by kernel_rfl, ?_⟩
      refine WC.condT rfl ?_
      refine WC.regionSeq rfl rfl ?_
      refine WO.s0 (v' := .d (.int .i64 0)) rfl rfl (fun _ => rfl) rfl ?_
      refine WO.nil ?_
      refine WC.ret ?_
      obtain rfl := Option.some.inj h
      exact WC.done rfl rfl rfl
    · refine WO.s0 (v' := .d (.bool false)) rfl rfl (fun _ => rfl) (congrArg (fun b => RV.d (.bool b)) hb2) ?_
      refine WO.nil ⟨by kernel_rfl, ?_⟩
      refine WC.condF rfl ?_
      refine WC.skip ?_
      refine WC.regionDSeq rfl rfl ?_
      refine WO.s0 (v' := .ptr 0 0) rfl rfl (fun _ => rfl) rfl ?_
      refine WO.s0 (v' := .ptr 0 0) rfl rfl (fun _ => rfl) rfl ?_
      refine WO.s0 (v' := .ptr 0 0) rfl rfl (fun _ => rfl) rfl ?_
      refine WO.s0 (v' := .d (.lst (d0.fL.map (PD.int .i64)))) rfl rfl (fun _ => rfl) rfl ?_
      refine WO.s0 (v' := .ptr 0 0) rfl rfl (fun _ => rfl) rfl ?_
      refine WO.s0 (v' := .ptr 0 0) rfl rfl (fun _ => rfl) rfl ?_
      refine WO.s0 (v' := .ptr 0 1) rfl rfl (fun _ => rfl) rfl ?_
      refine WO.s0 (v' := .d (.int .i64 d0.fAt)) rfl rfl (fun _ => rfl) rfl ?_
      refine bind_elim h (fun x3 hx3 h => ?_)
      refine WO.elemG hx3 rfl rfl rfl rfl rfl rfl rfl rfl rfl ?_
      refine WO.s0 (v' := .d (.int .i64 x3)) rfl rfl (fun _ => rfl) rfl ?_
      refine WO.s0 (v' := .d (.int .i64 a1)) rfl rfl (fun _ => rfl) rfl ?_
      refine bind_elim h (fun x4 hx4 h => ?_)
      refine WO.remG hx4 rfl rfl rfl rfl rfl rfl ?_
      refine WO.s0 (v' := .d (.int .i64 x4)) rfl rfl (fun _ => rfl) rfl ?_
      refine WO.nil ⟨by kernel_rfl, ?_⟩
      refine WC.regionSeq rfl rfl ?_
      refine WO.s0 (v' := .ptr 0 0) rfl rfl (fun _ => rfl) rfl ?_
      refine WO.s0 (v' := .ptr 0 0) rfl rfl (fun _ => rfl) rfl ?_
      refine WO.s0 (v' := .ptr 0 1) rfl rfl (fun _ => rfl) rfl ?_
      refine WO.s0 (v' := .d (.int .i64 d0.fAt)) rfl rfl (fun _ => rfl) rfl ?_
      refine WO.s0 (v' := .d (.int .i64 (IntKind.wrap .i64 (d0.fAt + (1 : Int))))) rfl rfl (fun _ => rfl) rfl ?_
      refine WO.s0 (v' := .ptr 0 0) rfl rfl (fun _ => rfl) rfl ?_
      refine WO.s0 (v' := .ptr 0 1) rfl rfl (fun _ => rfl) rfl ?_
      refine WO.n1 (v := .undef) (id := 0) (bx := .var [.d (.lst (d0.fL.map (PD.int .i64))), .d (.int .i64 (IntKind.wrap .i64 (d0.fAt + (1 : Int))))]) rfl rfl (fun _ => rfl) ?_
      refine WO.nil ?_
      refine WC.seq ?_
      refine WC.regionSeq rfl rfl ?_
      refine WO.s0 (v' := .d (.int .i64 x4)) rfl rfl (fun _ => rfl) rfl ?_
      refine ite_elim h (fun hb5 h => ?_) (fun hb5 h => ?_)
      · refine WO.s0 (v' := .d (.bool true)) rfl rfl (fun _ => rfl) (congrArg (fun b => RV.d (.bool b)) hb5) ?_
        refine WO.nil ?_
        refine WC.condT rfl ?_
        refine WC.region rfl rfl ?_
        refine WO.s0 (v' := .d (.int .i64 x4)) rfl rfl (fun _ => rfl) rfl ?_
        refine WO.s0 (v' := .d (.int .i64 a1)) rfl rfl (fun _ => rfl) rfl ?_
        refine WO.s0 (v' := .d (.int .i64 (IntKind.wrap .i64 (x4 + a1)))) rfl rfl (fun _ => rfl) rfl ?_
        refine WO.s0 (v' := .d (.int .i64 (IntKind.wrap .i64 (x4 + a1)))) rfl rfl (fun _ => rfl) rfl ?_
        refine WO.nil ?_
        refine WC.regionSeq rfl rfl ?_
        refine WO.s0 (v' := .d (.int .i64 (IntKind.wrap .i64 (x4 + a1)))) rfl rfl (fun _ => rfl) rfl ?_
        refine WO.s0 (v' := .d (.int .i64 (IntKind.wrap .i64 (x4 + a1)))) rfl rfl (fun _ => rfl) rfl ?_
        refine WO.nil ?_
        refine WC.ret ?_
        obtain rfl := Option.some.inj h
        exact WC.done rfl rfl rfl
      · refine WO.s0 (v' := .d (.bool false)) rfl rfl (fun _ => rfl) (congrArg (fun b => RV.d (.bool b)) hb5) ?_
        refine WO.nil ?_
        refine WC.condF rfl ?_
        refine WC.skip ?_
        refine WC.regionSeq rfl rfl ?_
        refine WO.s0 (v' := .d (.int .i64 x4)) rfl rfl (fun _ => rfl) rfl ?_
        refine WO.s0 (v' := .d (.int .i64 x4)) rfl rfl (fun _ => rfl) rfl ?_
        refine WO.nil ?_
        refine WC.ret ?_
        obtain rfl := Option.some.inj h
        exact WC.done rfl rfl rfl
theorem Dice_Source_ev {d0 : T_seismonetmade_Dice} {r : T_api_SourceID × T_seismonetmade_Dice} (h : Dice_Source d0 = some r) : EvP prog hints ext 10 [.ptr 0 0] [.var [.d (.lst (d0.fL.map (PD.int .i64))), .d (.int .i64 d0.fAt)]] (.d (T_api_SourceID.pd r.1), [.var [.d (.lst (r.2.fL.map (PD.int .i64))), .d (.int .i64 r.2.fAt)]]) := by
  refine Ev.body rfl Tryd.func10 rfl (by kernel_rfl) ?_
  refine WC.regionSeq rfl rfl ?_
  refine WO.s1 (v := .ptr 32 0) (id := 32) (bx := .var [.d (.str []), .d (.str []), .d (.str []), .d (.str [])]) rfl rfl (fun _ => rfl) ?_
  refine WO.nil ?_
  refine WC.regionDSeq rfl rfl ?_
  refine WO.s0 (v' := .d (.lst ([[71, 82], [88], [55, 65]].map PD.str))) rfl rfl (fun _ => rfl) rfl ?_
  refine WO.s0 (v' := .ptr 0 0) rfl rfl (fun _ => rfl) rfl ?_
  refine bind_elim h (fun x1 hx1 h => ?_)
  refine WO.callR (v := .d (.int .i64 x1.1)) (u := [(0, .var [.d (.lst (x1.2.fL.map (PD.int .i64))), .d (.int .i64 x1.2.fAt)])]) rfl rfl (fun _ => rfl) rfl rfl rfl rfl rfl (Dice_Next_ev hx1) rfl rfl rfl rfl ?_
  refine bind_elim h (fun x2 hx2 h => ?_)
  refine WO.elemG hx2 rfl rfl rfl rfl rfl rfl rfl rfl rfl ?_
  refine WO.s0 (v' := .d (.str x2)) rfl rfl (fun _ => rfl) rfl ?_
  refine WO.s0 (v' := .d (.lst ([[70, 85, 82], [65], [65, 66, 67, 68, 69], [70, 85]].map PD.str))) rfl rfl (fun _ => rfl) rfl ?_
  refine WO.s0 (v' := .ptr 0 0) rfl rfl (fun _ => rfl) rfl ?_
  refine bind_elim h (fun x3 hx3 h => ?_)
  refine WO.callR (v := .d (.int .i64 x3.1)) (u := [(0, .var [.d (.lst (x3.2.fL.map (PD.int .i64))), .d (.int .i64 x3.2.fAt)])]) rfl rfl (fun _ => rfl) rfl rfl rfl rfl rfl (Dice_Next_ev hx3) rfl rfl rfl rfl ?_
  refine bind_elim h (fun x4 hx4 h => ?_)
  refine WO.elemG hx4 rfl rfl rfl rfl rfl rfl rfl rfl rfl ?_
  refine WO.s0 (v' := .d (.str x4)) rfl rfl (fun _ => rfl) rfl ?_
  refine WO.s0 (v' := .d (.lst ([[], [48, 48], [49, 48]].map PD.str))) rfl rfl (fun _ => rfl) rfl ?_
  refine WO.s0 (v' := .ptr 0 0) rfl rfl (fun _ => rfl) rfl ?_
  refine bind_elim h (fun x5 hx5 h => ?_)
  refine WO.callR (v := .d (.int .i64 x5.1)) (u := [(0, .var [.d (.lst (x5.2.fL.map (PD.int .i64))), .d (.int .i64 x5.2.fAt)])]) rfl rfl (fun _ => rfl) rfl rfl rfl rfl rfl (Dice_Next_ev hx5) rfl rfl rfl rfl ?_
  refine bind_elim h (fun x6 hx6 h => ?_)
  refine WO.elemG hx6 rfl rfl rfl rfl rfl rfl rfl rfl rfl ?_
  refine WO.s0 (v' := .d (.str x6)) rfl rfl (fun _ => rfl) rfl ?_
  refine WO.s0 (v' := .d (.lst ([[72, 72, 90], [72, 72, 78], [66, 72, 90]].map PD.str))) rfl rfl (fun _ => rfl) rfl ?_
  refine WO.s0 (v' := .ptr 0 0) rfl rfl (fun _ => rfl) rfl ?_
  refine bind_elim h (fun x7 hx7 h => ?_)
  refine WO.callR (v := .d (.int .i64 x7.1)) (u := [(0, .var [.d (.lst (x7.2.fL.map (PD.int .i64))), .d (.int .i64 x7.2.fAt)])]) rfl rfl (fun _ => rfl) rfl rfl rfl rfl rfl (Dice_Next_ev hx7) rfl rfl rfl rfl ?_
  refine bind_elim h (fun x8 hx8 h => ?_)
  refine WO.elemG hx8 rfl rfl rfl rfl rfl rfl rfl rfl rfl ?_
  refine WO.s0 (v' := .d (.str x8)) rfl rfl (fun _ => rfl) rfl ?_
  refine WO.s0 (v' := .d (T_api_SourceID.pd (T_api_SourceID.mk x2 x4 x6 x8))) rfl rfl (fun _ => rfl) rfl ?_
  refine WO.n1 (v := .undef) (id := 32) (bx := .var [.d (.str ((T_api_SourceID.mk x2 x4 x6 x8).fNetwork)), .d (.str ((T_api_SourceID.mk x2 x4 x6 x8).fStation)), .d (.str ((T_api_SourceID.mk x2 x4 x6 x8).fLocation)), .d (.str ((T_api_SourceID.mk x2 x4 x6 x8).fChannel))]) rfl rfl (fun _ => rfl) ?_
  refine WO.nil ⟨by kernel_rfl, ?_⟩
  refine WC.ret ?_
  obtain rfl := Option.some.inj h
  exact WC.done rfl rfl rfl
theorem cmp_isNaN_string_ev {a0 : (List UInt8)} {r : Bool} (h : cmp_isNaN_string a0 = some r) : EvP prog hints ext 52 [.d (.str a0)] [] (.d (.bool r), []) := by
  refine Ev.body rfl Tryd.func52 rfl (by kernel_rfl) ?_
  refine WC.regionSeq rfl rfl ?_
  refine WO.s0 (v' := .d (.bool false)) rfl rfl (fun _ => rfl) rfl ?_
  refine WO.nil ?_
  refine WC.regionSeq rfl rfl ?_
  refine WO.s0 (v' := .d (.str a0)) rfl rfl (fun _ => rfl) rfl ?_
  refine WO.s0 (v' := .d (.str a0)) rfl rfl (fun _ => rfl) rfl ?_
  refine WO.s0 (v' := .d (.bool (!(a0 == a0)))) rfl rfl (fun _ => rfl) rfl ?_
  refine WO.s0 (v' := .d (.bool (!(a0 == a0)))) rfl rfl (fun _ => rfl) rfl ?_
  refine WO.nil ?_
  refine WC.ret ?_
  obtain rfl := Option.some.inj h
  exact WC.done rfl rfl rfl
theorem cmp_Compare_string_ev {a0 : (List UInt8)} {a1 : (List UInt8)} {r : Int} (h : cmp_Compare_string a0 a1 = some r) : EvP prog hints ext 36 [.d (.str a0), .d (.str a1)] [] (.d (.int .i64 r), []) := by
  refine Ev.body rfl Tryd.func36 rfl (by kernel_rfl) ?_
  refine WC.regionSeq rfl rfl ?_
  refine WO.s0 (v' := .d (.int .i64 0)) rfl rfl (fun _ => rfl) rfl ?_
  refine WO.nil ?_
  refine WC.regionSeq rfl rfl ?_
  refine WO.s0 (v' := .d (.str a0)) rfl rfl (fun _ => rfl) rfl ?_
  refine bind_elim h (fun x1 hx1 h => ?_)
  refine WO.callR (v := .d (.bool x1)) (u := []) rfl rfl (fun _ => rfl) rfl rfl rfl rfl rfl (cmp_isNaN_string_ev hx1) rfl rfl rfl rfl ?_
  refine WO.s0 (v' := .d (.bool x1)) rfl rfl (fun _ => rfl) rfl ?_
  refine WO.nil ?_
  refine WC.regionSeq rfl rfl ?_
  refine WO.s0 (v' := .d (.str a1)) rfl rfl (fun _ => rfl) rfl ?_
  refine bind_elim h (fun x2 hx2 h => ?_)
  refine WO.callR (v := .d (.bool x2)) (u := []) rfl rfl (fun _ => rfl) rfl rfl rfl rfl rfl (cmp_isNaN_string_ev hx2) rfl rfl rfl rfl ?_
  refine WO.s0 (v' := .d (.bool x2)) rfl rfl (fun _ => rfl) rfl ?_
  refine WO.nil ?_
  refine WC.seq ?_
  refine WC.regionSeq rfl rfl ?_
  refine ite_elim h (fun hb3 h => ?_) (fun hb3 h => ?_)
  · refine WO.s0 (v' := .d (.bool true)) rfl rfl (fun _ => rfl) (congrArg (fun b => RV.d (.bool b)) hb3) ?_
    refine WO.nil ?_
    refine WC.condT rfl ?_
    refine WC.seq ?_
    refine WC.regionSeq rfl rfl ?_
    refine ite_elim h (fun hb4 h => ?_) (fun hb4 h => ?_)
    · refine WO.s0 (v' := .d (.bool true)) rfl rfl (fun _ => rfl) (congrArg (fun b => RV.d (.bool b)) hb4) ?_
      refine WO.nil ?_
      refine WC.condT rfl ?_
      refine WC.regionSeq rfl rfl ?_
      refine WO.s0 (v' := .d (.int .i64 0)) rfl rfl (fun _ => rfl) rfl ?_
      refine WO.nil ?_
      refine WC.ret ?_
      obtain rfl := Option.some.inj h
      exact WC.done rfl rfl rfl
    · refine WO.s0 (v' := .d (.bool false)) rfl rfl (fun _ => rfl) (congrArg (fun b => RV.d (.bool b)) hb4) ?_
      refine WO.nil ?_
      refine WC.condF rfl ?_
      refine WC.skip ?_
      refine WC.regionSeq rfl rfl ?_
      refine WO.s0 (v' := .d (.int .i64 (-1))) rfl rfl (fun _ => rfl) rfl ?_
      refine WO.nil ?_
      refine WC.ret ?_
      obtain rfl := Option.some.inj h
      exact WC.done rfl rfl rfl
  · refine WO.s0 (v' := .d (.bool false)) rfl rfl (fun _ => rfl) (congrArg (fun b => RV.d (.bool b)) hb3) ?_
    refine WO.nil ?_
    refine WC.condF rfl ?_
    refine WC.skip ?_
    refine WC.seq ?_
    refine WC.regionSeq rfl rfl ?_
    refine ite_elim h (fun hb5 h => ?_) (fun hb5 h => ?_)
    · refine WO.s0 (v' := .d (.bool true)) rfl rfl (fun _ => rfl) (congrArg (fun b => RV.d (.bool b)) hb5) ?_
      refine WO.nil ?_
      refine WC.condT rfl ?_
      refine WC.regionSeq rfl rfl ?_
      refine WO.s0 (v' := .d (.int .i64 1)) rfl rfl (fun _ => rfl) rfl ?_
      refine WO.nil ?_
      refine WC.ret ?_
      obtain rfl := Option.some.inj h
      exact WC.done rfl rfl rfl
    · refine WO.s0 (v' := .d (.bool false)) rfl rfl (fun _ => rfl) (congrArg (fun b => RV.d (.bool b)) hb5) ?_
      refine WO.nil ?_
      refine WC.condF rfl ?_
      refine WC.skip ?_
      refine WC.seq ?_
      refine WC.regionSeq rfl rfl ?_
      refine WO.s0 (v' := .d (.str a0)) rfl rfl (fun _ => rfl) rfl ?_
      refine WO.s0 (v' := .d (.str a1)) rfl rfl (fun _ => rfl) rfl ?_
      refine ite_elim h (fun hb6 h => ?_) (fun hb6 h => ?_)
      · refine WO.s0 (v' := .d (.bool true)) rfl rfl (fun _ => rfl) (congrArg (fun b => RV.d (.bool b)) hb6) ?_
        refine WO.nil ?_
        refine WC.condT rfl ?_
        refine WC.regionSeq rfl rfl ?_
        refine WO.s0 (v' := .d (.int .i64 (-1))) rfl rfl (fun _ => rfl) rfl ?_
        refine WO.nil ?_
        refine WC.ret ?_
        obtain rfl := Option.some.inj h
        exact WC.done rfl rfl rfl
      · refine WO.s0 (v' := .d (.bool false)) rfl rfl (fun _ => rfl) (congrArg (fun b => RV.d (.bool b)) hb6) ?_
        refine WO.nil ?_
        refine WC.condF rfl ?_
        refine WC.skip ?_
        refine WC.seq ?_
        refine WC.regionSeq rfl rfl ?_
        refine WO.s0 (v' := .d (.str a0)) rfl rfl (fun _ => rfl) rfl ?_
        refine WO.s0 (v' := .d (.str a1)) rfl rfl (fun _ => rfl) rfl ?_
        refine ite_elim h (fun hb7 h => ?_) (fun hb7 h => ?_)
        · refine WO.s0 (v' := .d (.bool true)) rfl rfl (fun _ => rfl) (congrArg (fun b => RV.d (.bool b)) hb7) ?_
          refine WO.nil ?_
          refine WC.condT rfl ?_
          refine WC.regionSeq rfl rfl ?_
          refine WO.s0 (v' := .d (.int .i64 1)) rfl rfl (fun _ => rfl) rfl ?_
          refine WO.nil ?_
          refine WC.ret ?_
          obtain rfl := Option.some.inj h
          exact WC.done rfl rfl rfl
        · refine WO.s0 (v' := .d (.bool false)) rfl rfl (fun _ => rfl) (congrArg (fun b => RV.d (.bool b)) hb7) ?_
          refine WO.nil ?_
          refine WC.condF rfl ?_
          refine WC.skip ?_
          refine WC.regionSeq rfl rfl ?_
          refine WO.s0 (v' := .d (.int .i64 0)) rfl rfl (fun _ => rfl) rfl ?_
          refine WO.nil ?_
          refine WC.ret ?_
          obtain rfl := Option.some.inj h
          exact WC.done rfl rfl rfl
theorem cmp_Or_int_ev {a0 : (List Int)} {r : Int} (h : cmp_Or_int a0 = some r) : EvP prog hints ext 35 [.d (.lst (a0.map (PD.int .i64)))] [] (.d (.int .i64 r), []) := by
  refine Ev.body rfl Tryd.func35 rfl (by kernel_rfl) ?_
  refine WC.regionSeq rfl rfl ?_
  refine WO.s0 (v' := .d (.int .i64 0)) rfl rfl (fun _ => rfl) rfl ?_
  refine WO.nil ?_
  refine WC.regionSeq rfl rfl ?_
  refine WO.s0 (v' := .d (.int .i64 0)) rfl rfl (fun _ => rfl) rfl ?_
  refine WO.nil ?_
  refine WC.seq ?_
  refine WC.regionSeq rfl rfl ?_
  refine WO.s0 (v' := .d (.lst (a0.map (PD.int .i64)))) rfl rfl (fun _ => rfl) rfl ?_
  refine WO.s0 (v' := .d (.int .i64 (a0.length : Int))) rfl rfl (fun _ => rfl) (lenMap _ _) ?_
  refine WO.s0 (v' := .d (.int .i64 0)) rfl rfl (fun _ => rfl) rfl ?_
  refine WO.nil ?_
  refine bind_elim h (fun o7 ho7 h => ?_)
  refine WC.block (WC.loop (WL.ofLoop ho7 (fun s R' B' => ghosts prog 0 (A R' B') (hints.at_ 35 3) = some (A [(3, .d (.int .i64 0)), (6, .d (.lst (a0.map (PD.int .i64)))), (7, .d (.int .i64 (a0.length : Int))), (8, .d (.int .i64 s))] [])) (fun o e R' B' => match o with | .inl y => e = .exit 0 ∧ ghosts prog 0 (A R' B') (hints.at_ 35 8) = some (A [(3, .d (.int .i64 0))] []) | .inr r => e = .ret ∧ finish prog (hints.own 35) Tryd.f35 0 (A R' B') = some (.d (.int .i64 r), [])) rfl ?_ ?_))
  · rintro s1 R' B' q2 hI h
    refine WC.regionSeq hI rfl ?_
    refine ite_elim h (fun hb3 h => ?_) (fun hb3 h => ?_)
    · refine WO.s0 (v' := .d (.bool true)) rfl rfl (fun _ => rfl) (congrArg (fun b => RV.d (.bool b)) hb3) ?_
      refine WO.nil ?_
      refine WC.seq ?_
      refine WC.condT rfl ?_
      refine WC.skip ?_
      refine WC.seq ?_
      refine WC.block ?_
      refine WC.regionSeq rfl rfl ?_
      refine bind_elim h (fun x4 hx4 h => ?_)
      refine WO.elemG hx4 rfl rfl rfl rfl rfl rfl rfl rfl rfl ?_
      refine WO.s0 (v' := .d (.int .i64 x4)) rfl rfl (fun _ => rfl) rfl ?_
      refine WO.s0 (v' := .d (.int .i64 x4)) rfl rfl (fun _ => rfl) rfl ?_
      refine WO.nil ?_
      refine WC.regionSeq rfl rfl ?_
      refine WO.s0 (v' := .d (.int .i64 x4)) rfl rfl (fun _ => rfl) rfl ?_
      refine WO.s0 (v' := .d (.int .i64 0)) rfl rfl (fun _ => rfl) rfl ?_
      refine ite_elim h (fun hb5 h => ?_) (fun hb5 h => ?_)
      · refine WO.s0 (v' := .d (.bool true)) rfl rfl (fun _ => rfl) (congrArg (fun b => RV.d (.bool b)) hb5) ?_
        refine WO.nil ?_
        refine WC.condT rfl ?_
        refine WC.regionSeq rfl rfl ?_
        refine WO.s0 (v' := .d (.int .i64 x4)) rfl rfl (fun _ => rfl) rfl ?_
        refine WO.s0 (v' := .d (.int .i64 x4)) rfl rfl (fun _ => rfl) rfl ?_
        refine WO.nil ?_
        refine WC.ret ?_
        obtain rfl := Option.some.inj h
        exact ⟨(fun he => by cases he), rfl, rfl⟩
      · refine WO.s0 (v' := .d (.bool false)) rfl rfl (fun _ => rfl) (congrArg (fun b => RV.d (.bool b)) hb5) ?_
        refine WO.nil ?_
        refine WC.condF rfl ?_
        refine WC.skip ?_
        refine WC.region rfl rfl ?_
        refine WO.s0 (v' := .d (.int .i64 (IntKind.wrap .i64 (s1 + (1 : Int))))) rfl rfl (fun _ => rfl) rfl ?_
        refine WO.s0 (v' := .d (.int .i64 (IntKind.wrap .i64 (s1 + (1 : Int))))) rfl rfl (fun _ => rfl) rfl ?_
        refine WO.nil ?_
        obtain rfl := Option.some.inj h
        exact ⟨rfl, rfl⟩
    · refine WO.s0 (v' := .d (.bool false)) rfl rfl (fun _ => rfl) (congrArg (fun b => RV.d (.bool b)) hb3) ?_
      refine WO.nil ?_
      refine WC.seq ?_
      refine WC.condF rfl ?_
      refine WC.exit ?_
      obtain rfl := Option.some.inj h
      exact ⟨(fun he => by cases he), rfl, rfl⟩
  · intro e R' B' he hq
    rcases o7 with y8 | r9
    · obtain ⟨rfl, hI⟩ := hq
      refine ⟨fun _ => ?_, fun hne => (hne rfl).elim⟩
      refine WC.regionSeq hI rfl ?_
      refine WO.s0 (v' := .d (.int .i64 0)) rfl rfl (fun _ => rfl) rfl ?_
      refine WO.s0 (v' := .d (.int .i64 0)) rfl rfl (fun _ => rfl) rfl ?_
      refine WO.nil ?_
      refine WC.ret ?_
      obtain rfl := Option.some.inj h
      exact WC.done rfl rfl rfl
    · obtain ⟨rfl, hf⟩ := hq
      obtain rfl := Option.some.inj h
      exact hf
theorem source_Compare_ev {a0 : T_api_SourceID} {a1 : T_api_SourceID} {r : Int} (h : source_Compare a0 a1 = some r) : EvP prog hints ext 16 [.d (T_api_SourceID.pd a0), .d (T_api_SourceID.pd a1)] [] (.d (.int .i64 r), []) := by
  refine Ev.body rfl Tryd.func16 rfl (by kernel_rfl) ?_
  refine WC.regionSeq rfl rfl ?_
  refine WO.s1 (v := .ptr 32 0) (id := 32) (bx := .var [.d (.str a0.fNetwork), .d (.str a0.fStation), .d (.str a0.fLocation), .d (.str a0.fChannel)]) rfl rfl (fun _ => rfl) ?_
  refine WO.s1 (v := .ptr 48 0) (id := 48) (bx := .var [.d (.str a1.fNetwork), .d (.str a1.fStation), .d (.str a1.fLocation), .d (.str a1.fChannel)]) rfl rfl (fun _ => rfl) ?_
  refine WO.s0 (v' := .d (.int .i64 0)) rfl rfl (fun _ => rfl) rfl ?_
  refine WO.nil ?_
  refine WC.regionDSeq rfl rfl ?_
  refine WO.s0 (v' := .ptr 32 0) rfl rfl (fun _ => rfl) rfl ?_
  refine WO.s0 (v' := .d (.str a0.fNetwork)) rfl rfl (fun _ => rfl) rfl ?_
  refine WO.s0 (v' := .ptr 48 0) rfl rfl (fun _ => rfl) rfl ?_
  refine WO.s0 (v' := .d (.str a1.fNetwork)) rfl rfl (fun _ => rfl) rfl ?_
  refine bind_elim h (fun x1 hx1 h => ?_)
  refine WO.callR (v := .d (.int .i64 x1)) (u := []) rfl rfl (fun _ => rfl) rfl rfl rfl rfl rfl (cmp_Compare_string_ev hx1) rfl rfl rfl rfl ?_
  refine WO.s0 (v' := .ptr 32 1) rfl rfl (fun _ => rfl) rfl ?_
  refine WO.s0 (v' := .d (.str a0.fStation)) rfl rfl (fun _ => rfl) rfl ?_
  refine WO.s0 (v' := .ptr 48 1) rfl rfl (fun _ => rfl) rfl ?_
  refine WO.s0 (v' := .d (.str a1.fStation)) rfl rfl (fun _ => rfl) rfl ?_
  refine bind_elim h (fun x2 hx2 h => ?_)
  refine WO.callR (v := .d (.int .i64 x2)) (u := []) rfl rfl (fun _ => rfl) rfl rfl rfl rfl rfl (cmp_Compare_string_ev hx2) rfl rfl rfl rfl ?_
  refine WO.s0 (v' := .ptr 32 2) rfl rfl (fun _ => rfl) rfl ?_
  refine WO.s0 (v' := .d (.str a0.fLocation)) rfl rfl (fun _ => rfl) rfl ?_
  refine WO.s0 (v' := .ptr 48 2) rfl rfl (fun _ => rfl) rfl ?_
  refine WO.s0 (v' := .d (.str a1.fLocation)) rfl rfl (fun _ => rfl) rfl ?_
  refine bind_elim h (fun x3 hx3 h => ?_)
  refine WO.callR (v := .d (.int .i64 x3)) (u := []) rfl rfl (fun _ => rfl) rfl rfl rfl rfl rfl (cmp_Compare_string_ev hx3) rfl rfl rfl rfl ?_
  refine WO.s0 (v' := .ptr 32 3) rfl rfl (fun _ => rfl) rfl ?_
  refine WO.s0 (v' := .d (.str a0.fChannel)) rfl rfl (fun _ => rfl) rfl ?_
  refine WO.s0 (v' := .ptr 48 3) rfl rfl (fun _ => rfl) rfl ?_
  refine WO.s0 (v' := .d (.str a1.fChannel)) rfl rfl (fun _ => rfl) rfl ?_
  refine bind_elim h (fun x4 hx4 h => ?_)
  refine WO.callR (v := .d (.int .i64 x4)) (u := []) rfl rfl (fun _ => rfl) rfl rfl rfl rfl rfl (cmp_Compare_string_ev hx4) rfl rfl rfl rfl ?_
  refine WO.s0 (v' := .d (.lst ([x1, x2, x3, x4].map (PD.int .i64)))) rfl rfl (fun _ => rfl) rfl ?_
  refine bind_elim h (fun x5 hx5 h => ?_)
  refine WO.callR (v := .d (.int .i64 x5)) (u := []) rfl rfl (fun _ => rfl) rfl rfl rfl rfl rfl (cmp_Or_int_ev hx5) rfl rfl rfl rfl ?_
  refine WO.s0 (v' := .d (.int .i64 x5)) rfl rfl (fun _ => rfl) rfl ?_
  refine WO.nil ⟨by kernel_rfl, ?_⟩
  refine WC.ret ?_
  obtain rfl := Option.some.inj h
  exact WC.done rfl rfl rfl
theorem slices_Clone_SourceID_ev {a0 : (List T_api_SourceID)} {r : (List T_api_SourceID)} (h : slices_Clone_SourceID a0 = some r) : EvP prog hints ext 37 [.d (.lst (a0.map T_api_SourceID.pd))] [] (.ref 0 0, [.arr 0 28 (r.map T_api_SourceID.pd)]) := by
  refine Ev.body rfl Tryd.func37 rfl (by kernel_rfl) ?_
  refine WC.regionSeq rfl rfl ?_
  refine WO.s0 (v' := .nils) rfl rfl (fun _ => rfl) rfl ?_
  refine WO.nil ?_
  refine WC.seq ?_
  refine WC.regionSeq rfl rfl ?_
  refine WO.s0 (v' := .d (.lst (a0.map T_api_SourceID.pd))) rfl rfl (fun _ => rfl) rfl ?_
  refine bind_elim h (fun x1 hx1 h => ?_)
  refine WO.nilE hx1 rfl rfl rfl rfl rfl rfl ?_
  refine WO.nil ?_
  refine WC.condF rfl ?_
  refine WC.skip ?_
  refine WC.regionSeq rfl rfl ?_
  refine WO.s1 (v := .ref 80 0) (id := 80) (bx := .arr 0 28 (([] : List T_api_SourceID).map T_api_SourceID.pd)) rfl rfl (fun _ => rfl) ?_
  refine WO.s0 (v' := .d (.lst (a0.map T_api_SourceID.pd))) rfl rfl (fun _ => rfl) rfl ?_
  refine bind_elim h (fun x2 hx2 h => ?_)
  refine WO.appR hx2 (fun _ => rfl) rfl rfl rfl rfl rfl rfl rfl rfl rfl rfl rfl rfl rfl rfl ?_
  refine WO.s0 (v' := .ref 80 1) rfl rfl (fun _ => rfl) rfl ?_
  refine WO.nil ?_
  refine WC.ret ?_
  obtain rfl := Option.some.inj h
  exact WC.done rfl rfl rfl
theorem slices_Compact_SourceID_ev {d0 : (List T_api_SourceID)} {r : (List T_api_SourceID)} (h : slices_Compact_SourceID d0 = some r) : EvP prog hints ext 39 [.ref 0 0] [.arr 0 28 (d0.map T_api_SourceID.pd)] (.d (.lst (r.map T_api_SourceID.pd)), [.dead]) := by
  refine Ev.body rfl Tryd.func39 rfl (by kernel_rfl) ?_
  refine WC.regionSeq rfl rfl ?_
  refine WO.s0 (v' := .nils) rfl rfl (fun _ => rfl) rfl ?_
  refine WO.nil ?_
  refine WC.seq ?_
  refine WC.regionSeq rfl rfl ?_
  refine WO.s0 (v' := .ref 0 0) rfl rfl (fun _ => rfl) rfl ?_
  refine WO.lenR rfl rfl rfl rfl rfl rfl rfl rfl rfl ?_
  refine ite_elim h (fun hb1 h => ?_) (fun hb1 h => ?_)
  · refine WO.s0 (v' := .d (.bool true)) rfl rfl (fun _ => rfl) (congrArg (fun b => RV.d (.bool b)) hb1) ?_
    refine WO.nil ?_
    refine WC.condT rfl ?_
    refine WC.regionSeq rfl rfl ?_
    refine WO.s0 (v' := .ref 0 0) rfl rfl (fun _ => rfl) rfl ?_
    refine WO.s0 (v' := .ref 0 0) rfl rfl (fun _ => rfl) rfl ?_
    refine WO.nil ?_
    refine WC.ret ?_
    obtain rfl := Option.some.inj h
    exact WC.done rfl rfl rfl
  · refine WO.s0 (v' := .d (.bool false)) rfl rfl (fun _ => rfl) (congrArg (fun b => RV.d (.bool b)) hb1) ?_
    refine WO.nil ?_
    refine WC.condF rfl ?_
    refine WC.skip ?_
    refine WC.seq ?_
    refine WC.regionSeq rfl rfl ?_
    refine WO.s0 (v' := .d (.int .i64 1)) rfl rfl (fun _ => rfl) rfl ?_
    refine WO.nil ?_
    refine bind_elim h (fun o39 ho39 h => ?_)
    refine WC.block (WC.loop (WL.ofLoop ho39 (fun s R' B' => ghosts prog 1 (A R' B') (hints.at_ 39 4) = some (A [(0, .ref 0 0), (3, .d (.int .i64 s))] [(0, .arr 0 28 (d0.map T_api_SourceID.pd))])) (fun o e R' B' => match o with | .inl y => e = .exit 0 ∧ ghosts prog 1 (A R' B') (hints.at_ 39 16) = some (A [(0, .ref 0 0)] [(0, .arr 0 28 (d0.map T_api_SourceID.pd))]) | .inr r => e = .ret ∧ finish prog (hints.own 39) Tryd.f39 1 (A R' B') = some (.d (.lst (r.map T_api_SourceID.pd)), [.dead])) rfl ?_ ?_))
    · rintro s2 R' B' q3 hI h
      refine WC.seq ?_
      refine WC.regionSeq hI rfl ?_
      refine WO.s0 (v' := .d (.int .i64 s2)) rfl rfl (fun _ => rfl) rfl ?_
      refine WO.s0 (v' := .ref 0 0) rfl rfl (fun _ => rfl) rfl ?_
      refine WO.lenR rfl rfl rfl rfl rfl rfl rfl rfl rfl ?_
      refine ite_elim h (fun hb4 h => ?_) (fun hb4 h => ?_)
      · refine WO.s0 (v' := .d (.bool true)) rfl rfl (fun _ => rfl) (congrArg (fun b => RV.d (.bool b)) hb4) ?_
        refine WO.nil ?_
        refine WC.condT rfl ?_
        refine WC.skip ?_
        refine WC.seq ?_
        refine WC.block ?_
        refine WC.regionDSeq rfl rfl ?_
        refine WO.s0 (v' := .ref 0 0) rfl rfl (fun _ => rfl) rfl ?_
        refine WO.s0 (v' := .d (.int .i64 s2)) rfl rfl (fun _ => rfl) rfl ?_
        refine bind_elim h (fun x6 hx6 h => ?_)
        refine WO.eltG hx6 rfl rfl rfl rfl rfl rfl rfl rfl ?_
        refine bind_elim h (fun x7 hx7 h => ?_)
        refine WO.loadE hx7 rfl rfl rfl rfl rfl rfl ?_
        refine WO.s0 (v' := .ref 0 0) rfl rfl (fun _ => rfl) rfl ?_
        refine WO.s0 (v' := .d (.int .i64 s2)) rfl rfl (fun _ => rfl) rfl ?_
        refine WO.s0 (v' := .d (.int .i64 (IntKind.wrap .i64 (s2 - (1 : Int))))) rfl rfl (fun _ => rfl) rfl ?_
        refine bind_elim h (fun x9 hx9 h => ?_)
        refine WO.eltG hx9 rfl rfl rfl rfl rfl rfl rfl rfl ?_
        refine bind_elim h (fun x10 hx10 h => ?_)
        refine WO.loadE hx10 rfl rfl rfl rfl rfl rfl ?_
        refine ite_elim h (fun hb11 h => ?_) (fun hb11 h => ?_)
        · refine WO.binS (eqE_28 x7 x10) hb11 rfl rfl rfl rfl rfl ?_
          refine WO.nil ⟨by kernel_rfl, ?_⟩
          refine WC.condT rfl ?_
          refine WC.regionSeq rfl rfl ?_
          refine WO.s0 (v' := .ref 0 0) rfl rfl (fun _ => rfl) rfl ?_
          refine WO.s0 (v' := .d (.int .i64 s2)) rfl rfl (fun _ => rfl) rfl ?_
          refine bind_elim h (fun x12 hx12 h => ?_)
          refine WO.subR hx12 rfl rfl rfl rfl rfl rfl rfl rfl rfl rfl rfl ?_
          refine WO.s0 (v' := .view 0 0 (0 + (s2 : Int).toNat) (0 + ((d0.length : Int) : Int).toNat)) rfl rfl (fun _ => rfl) rfl ?_
          refine WO.nil ?_
          refine WC.seq ?_
          refine WC.regionSeq rfl rfl ?_
          refine WO.s0 (v' := .d (.int .i64 1)) rfl rfl (fun _ => rfl) rfl ?_
          refine WO.nil ?_
          refine bind_elim h (fun o32 ho32 h => ?_)
          refine WC.block (WC.loop (WL.ofLoop ho32 (fun s R' B' => ghosts prog 1 (A R' B') (hints.at_ 39 9) = some (A [(0, .ref 0 0), (3, .d (.int .i64 s.1)), (4, .view 0 0 (0 + (s2 : Int).toNat) (0 + ((d0.length : Int) : Int).toNat)), (5, .d (.int .i64 s.2.1))] [(0, .arr 0 28 (s.2.2.map T_api_SourceID.pd))])) (fun o e R' B' => e = .exit 2 ∧ ghosts prog 1 (A R' B') (hints.at_ 39 14) = some (A [(0, .ref 0 0), (3, .d (.int .i64 o.1))] [(0, .arr 0 28 (o.2.map T_api_SourceID.pd))])) rfl ?_ ?_))
          · rintro ⟨s13, s14, s15⟩ R' B' q18 hI h
            refine WC.seq ?_
            refine WC.regionSeq hI rfl ?_
            refine WO.s0 (v' := .d (.int .i64 s14)) rfl rfl (fun _ => rfl) rfl ?_
            refine WO.s0 (v' := .view 0 0 (0 + (s2 : Int).toNat) (0 + ((d0.length : Int) : Int).toNat)) rfl rfl (fun _ => rfl) rfl ?_
            refine bind_elim h (fun x19 hx19 h => ?_)
            refine WO.lenVw hx19 rfl rfl rfl rfl rfl rfl rfl rfl rfl ?_
            refine ite_elim h (fun hb20 h => ?_) (fun hb20 h => ?_)
            · refine WO.s0 (v' := .d (.bool true)) rfl rfl (fun _ => rfl) (congrArg (fun b => RV.d (.bool b)) hb20) ?_
              refine WO.nil ?_
              refine WC.condT rfl ?_
              refine WC.skip ?_
              refine WC.seq ?_
              refine WC.block ?_
              refine WC.regionDSeq rfl rfl ?_
              refine WO.s0 (v' := .view 0 0 (0 + (s2 : Int).toNat) (0 + ((d0.length : Int) : Int).toNat)) rfl rfl (fun _ => rfl) rfl ?_
              refine WO.s0 (v' := .d (.int .i64 s14)) rfl rfl (fun _ => rfl) rfl ?_
              refine bind_elim h (fun x21 hx21 h => ?_)
              refine WO.eltV hx21 rfl rfl rfl rfl rfl rfl rfl rfl ?_
              refine bind_elim h (fun x22 hx22 h => ?_)
              refine WO.loadE hx22 rfl rfl rfl rfl rfl rfl ?_
              refine WO.s0 (v' := .view 0 0 (0 + (s2 : Int).toNat) (0 + ((d0.length : Int) : Int).toNat)) rfl rfl (fun _ => rfl) rfl ?_
              refine WO.s0 (v' := .d (.int .i64 s14)) rfl rfl (fun _ => rfl) rfl ?_
              refine WO.s0 (v' := .d (.int .i64 (IntKind.wrap .i64 (s14 - (1 : Int))))) rfl rfl (fun _ => rfl) rfl ?_
              refine bind_elim h (fun x23 hx23 h => ?_)
              refine WO.eltV hx23 rfl rfl rfl rfl rfl rfl rfl rfl ?_
              refine bind_elim h (fun x24 hx24 h => ?_)
              refine WO.loadE hx24 rfl rfl rfl rfl rfl rfl ?_
              refine ite_elim h (fun hb25 h => ?_) (fun hb25 h => ?_)
              · refine WO.binS (eqN_28 x22 x24) hb25 rfl rfl rfl rfl rfl ?_
                refine WO.nil ⟨by kernel_rfl, ?_⟩
                refine WC.condT rfl ?_
                refine WC.regionSeq rfl rfl ?_
                refine WO.s0 (v' := .ref 0 0) rfl rfl (fun _ => rfl) rfl ?_
                refine WO.s0 (v' := .d (.int .i64 s13)) rfl rfl (fun _ => rfl) rfl ?_
                refine WO.s0 (v' := .view 0 0 (0 + (s2 : Int).toNat) (0 + ((d0.length : Int) : Int).toNat)) rfl rfl (fun _ => rfl) rfl ?_
                refine WO.s0 (v' := .d (.int .i64 s14)) rfl rfl (fun _ => rfl) rfl ?_
                refine bind_elim h (fun x26 hx26 h => ?_)
                refine WO.eltV hx26 rfl rfl rfl rfl rfl rfl rfl rfl ?_
                refine bind_elim h (fun x27 hx27 h => ?_)
                refine WO.loadE hx27 rfl rfl rfl rfl rfl rfl ?_
                refine bind_elim h (fun x29 hx29 h => ?_)
                refine WO.eltG hx29 rfl rfl rfl rfl rfl rfl rfl rfl ?_
                refine bind_elim h (fun x30 hx30 h => ?_)
                refine WO.storeE (g := T_api_SourceID.pd) hx30 (fun _ => rfl) (fun _ => rfl) rfl rfl rfl rfl rfl rfl rfl rfl rfl ?_
                refine WO.nil ?_
                refine WC.region rfl rfl ?_
                refine WO.s0 (v' := .d (.int .i64 s13)) rfl rfl (fun _ => rfl) rfl ?_
                refine WO.s0 (v' := .d (.int .i64 (IntKind.wrap .i64 (s13 + (1 : Int))))) rfl rfl (fun _ => rfl) rfl ?_
                refine WO.s0 (v' := .d (.int .i64 (IntKind.wrap .i64 (s13 + (1 : Int))))) rfl rfl (fun _ => rfl) rfl ?_
                refine WO.nil ?_
                refine WC.region rfl rfl ?_
                refine WO.s0 (v' := .d (.int .i64 s14)) rfl rfl (fun _ => rfl) rfl ?_
                refine WO.s0 (v' := .d (.int .i64 (IntKind.wrap .i64 (s14 + (1 : Int))))) rfl rfl (fun _ => rfl) rfl ?_
                refine WO.s0 (v' := .d (.int .i64 (IntKind.wrap .i64 (s14 + (1 : Int))))) rfl rfl (fun _ => rfl) rfl ?_
                refine WO.nil ?_
                obtain rfl := Option.some.inj h
                exact ⟨rfl, rfl⟩
              · refine WO.binS (eqN_28 x22 x24) hb25 rfl rfl rfl rfl rfl ?_
                refine WO.nil ⟨by kernel_rfl, ?_⟩
                refine WC.condF rfl ?_
                refine WC.skip ?_
                refine WC.region rfl rfl ?_
                refine WO.s0 (v' := .d (.int .i64 s14)) rfl rfl (fun _ => rfl) rfl ?_
                refine WO.s0 (v' := .d (.int .i64 (IntKind.wrap .i64 (s14 + (1 : Int))))) rfl rfl (fun _ => rfl) rfl ?_
                refine WO.s0 (v' := .d (.int .i64 (IntKind.wrap .i64 (s14 + (1 : Int))))) rfl rfl (fun _ => rfl) rfl ?_
                refine WO.nil ?_
                obtain rfl := Option.some.inj h
                exact ⟨rfl, rfl⟩
            · refine WO.s0 (v' := .d (.bool false)) rfl rfl (fun _ => rfl) (congrArg (fun b => RV.d (.bool b)) hb20) ?_
              refine WO.nil ?_
              refine WC.condF rfl ?_
              refine WC.exit ?_
              obtain rfl := Option.some.inj h
              exact ⟨(fun he => by cases he), rfl, rfl⟩
          · intro e R' B' he hq
            obtain ⟨rfl, hI⟩ := hq
            refine ⟨fun _ => ?_, fun hne => (hne rfl).elim⟩
            refine WC.regionSeq hI rfl ?_
            refine WO.s0 (v' := .ref 0 0) rfl rfl (fun _ => rfl) rfl ?_
            refine WO.s0 (v' := .d (.int .i64 o32.1)) rfl rfl (fun _ => rfl) rfl ?_
            refine bind_elim h (fun x33 hx33 h => ?_)
            refine WO.subR hx33 rfl rfl rfl rfl rfl rfl rfl rfl rfl rfl rfl ?_
            refine bind_elim h (fun x34 hx34 h => ?_)
            refine WO.clearN (z := (T_api_SourceID.mk [] [] [] [])) (g := T_api_SourceID.pd) rfl rfl rfl rfl rfl rfl rfl (dst_view hx34 rfl) rfl rfl rfl rfl ?_
            refine WO.nil ?_
            refine WC.regionSeq rfl rfl ?_
            refine WO.s0 (v' := .ref 0 0) rfl rfl (fun _ => rfl) rfl ?_
            refine WO.s0 (v' := .d (.int .i64 o32.1)) rfl rfl (fun _ => rfl) rfl ?_
            refine bind_elim h (fun x36 hx36 h => ?_)
            refine WO.subR hx36 rfl rfl rfl rfl rfl rfl rfl rfl rfl rfl rfl ?_
            refine WO.s0 (v' := .view 0 0 (0 + (0 : Int).toNat) (0 + (o32.1 : Int).toNat)) rfl rfl (fun _ => rfl) rfl ?_
            refine WO.nil ?_
            refine WC.ret ?_
            refine bind_elim h (fun x37 hx37 h => ?_)
            obtain rfl := Option.some.inj h
            exact ⟨(fun he => by cases he), rfl, (finish_view hx37 rfl rfl rfl rfl rfl)⟩
        · refine WO.binS (eqE_28 x7 x10) hb11 rfl rfl rfl rfl rfl ?_
          refine WO.nil ⟨by kernel_rfl, ?_⟩
          refine WC.condF rfl ?_
          refine WC.skip ?_
          refine WC.region rfl rfl ?_
          refine WO.s0 (v' := .d (.int .i64 s2)) rfl rfl (fun _ => rfl) rfl ?_
          refine WO.s0 (v' := .d (.int .i64 (IntKind.wrap .i64 (s2 + (1 : Int))))) rfl rfl (fun _ => rfl) rfl ?_
          refine WO.s0 (v' := .d (.int .i64 (IntKind.wrap .i64 (s2 + (1 : Int))))) rfl rfl (fun _ => rfl) rfl ?_
          refine WO.nil ?_
          obtain rfl := Option.some.inj h
          exact ⟨rfl, rfl⟩
      · refine WO.s0 (v' := .d (.bool false)) rfl rfl (fun _ => rfl) (congrArg (fun b => RV.d (.bool b)) hb4) ?_
        refine WO.nil ?_
        refine WC.condF rfl ?_
        refine WC.exit ?_
        obtain rfl := Option.some.inj h
        exact ⟨(fun he => by cases he), rfl, rfl⟩
    · intro e R' B' he hq
      rcases o39 with y40 | r41
      · obtain ⟨rfl, hI⟩ := hq
        refine ⟨fun _ => ?_, fun hne => (hne rfl).elim⟩
        refine WC.regionSeq hI rfl ?_
        refine WO.s0 (v' := .ref 0 0) rfl rfl (fun _ => rfl) rfl ?_
        refine WO.s0 (v' := .ref 0 0) rfl rfl (fun _ => rfl) rfl ?_
        refine WO.nil ?_
        refine WC.ret ?_
        obtain rfl := Option.some.inj h
        exact WC.done rfl rfl rfl
      · obtain ⟨rfl, hf⟩ := hq
        obtain rfl := Option.some.inj h
        exact hf
theorem source_Sort_ev {a0 : (List T_api_SourceID)} {r : (List T_api_SourceID)} (h : source_Sort a0 = some r) : EvP prog hints ext 17 [.d (.lst (a0.map T_api_SourceID.pd))] [] (.d (.lst (r.map T_api_SourceID.pd)), []) := by
  refine Ev.body rfl Tryd.func17 rfl (by kernel_rfl) ?_
  refine WC.regionSeq rfl rfl ?_
  refine WO.s0 (v' := .nils) rfl rfl (fun _ => rfl) rfl ?_
  refine WO.nil ?_
  refine WC.regionSeq rfl rfl ?_
  refine WO.s0 (v' := .d (.lst (a0.map T_api_SourceID.pd))) rfl rfl (fun _ => rfl) rfl ?_
  refine bind_elim h (fun x1 hx1 h => ?_)
  refine WO.callR (v := .ref 80 0) (u := [(80, .arr 0 28 (x1.map T_api_SourceID.pd))]) rfl rfl (fun _ => rfl) rfl rfl rfl rfl rfl (slices_Clone_SourceID_ev hx1) rfl rfl rfl rfl ?_
  refine WO.s0 (v' := .ref 80 0) rfl rfl (fun _ => rfl) rfl ?_
  refine WO.nil ?_
  refine WC.regionSeq rfl rfl ?_
  refine WO.s0 (v' := .ref 80 0) rfl rfl (fun _ => rfl) rfl ?_
  refine bind_elim h (fun x2 hx2 h => ?_)
  refine WO.callR (v := .tup []) (u := [(80, .arr 0 28 (x2.map T_api_SourceID.pd))]) rfl rfl (fun _ => rfl) rfl rfl rfl rfl rfl (sort_38_16 hx2) rfl rfl rfl rfl ?_
  refine WO.nil ?_
  refine WC.regionSeq rfl rfl ?_
  refine WO.s0 (v' := .ref 80 0) rfl rfl (fun _ => rfl) rfl ?_
  refine bind_elim h (fun x3 hx3 h => ?_)
  refine WO.callR (v := .d (.lst (x3.map T_api_SourceID.pd))) (u := [(80, .dead)]) rfl rfl (fun _ => rfl) rfl rfl rfl rfl rfl (slices_Compact_SourceID_ev hx3) rfl rfl rfl rfl ?_
  refine WO.s0 (v' := .d (.lst (x3.map T_api_SourceID.pd))) rfl rfl (fun _ => rfl) rfl ?_
  refine WO.nil ?_
  refine WC.ret ?_
  obtain rfl := Option.some.inj h
  exact WC.done rfl rfl rfl
theorem law03_SourceOrder_ev {a0 : (List Int)} {r : Bool} (h : law03_SourceOrder a0 = some r) : EvP prog hints ext 5 [.d (.lst (a0.map (PD.int .i64)))] [] (.d (.bool r), []) := by
  refine Ev.body rfl Tryd.func5 rfl (by kernel_rfl) ?_
  refine WC.regionSeq rfl rfl ?_
  refine WO.s0 (v' := .d (.bool false)) rfl rfl (fun _ => rfl) rfl ?_
  refine WO.nil ?_
  refine WC.seq ?_
  refine WC.regionSeq rfl rfl ?_
  refine WO.s0 (v' := .d (.lst (a0.map (PD.int .i64)))) rfl rfl (fun _ => rfl) rfl ?_
  refine bind_elim h (fun x1 hx1 h => ?_)
  refine WO.callR (v := .d (.bool x1)) (u := []) rfl rfl (fun _ => rfl) rfl rfl rfl rfl rfl (made_Light_ev hx1) rfl rfl rfl rfl ?_
  refine ite_elim h (fun hb2 h => ?_) (fun hb2 h => ?_)
  · refine WO.s0 (v' := .d (.bool true)) rfl rfl (fun _ => rfl) (congrArg (fun b => RV.d (.bool b)) hb2) ?_
    refine WO.nil ?_
    refine WC.condT rfl ?_
    refine WC.regionSeq rfl rfl ?_
    refine bind_elim h (fun x3 hx3 h => ?_)
    refine WO.callR (v := .d (.bool x3)) (u := []) rfl rfl (fun _ => rfl) rfl rfl rfl rfl rfl (law03_sane_ev hx3) rfl rfl rfl rfl ?_
    refine WO.s0 (v' := .d (.bool x3)) rfl rfl (fun _ => rfl) rfl ?_
    refine WO.nil ?_
    refine WC.ret ?_
    obtain rfl := Option.some.inj h
    exact WC.done rfl rfl rfl
  · refine WO.s0 (v' := .d (.bool false)) rfl rfl (fun _ => rfl) (congrArg (fun b => RV.d (.bool b)) hb2) ?_
    refine WO.nil ?_
    refine WC.condF rfl ?_
    refine WC.skip ?_
    refine WC.regionSeq rfl rfl ?_
    refine WO.s0 (v' := .d (.lst (a0.map (PD.int .i64)))) rfl rfl (fun _ => rfl) rfl ?_
    refine bind_elim h (fun x4 hx4 h => ?_)
    refine WO.callR (v := .ptr 320 0) (u := [(320, .var [.d (.lst (x4.fL.map (PD.int .i64))), .d (.int .i64 x4.fAt)])]) rfl rfl (fun _ => rfl) rfl rfl rfl rfl rfl (made_Roll_ev hx4) rfl rfl rfl rfl ?_
    refine WO.s0 (v' := .ptr 320 0) rfl rfl (fun _ => rfl) rfl ?_
    refine WO.nil ?_
    refine WC.regionSeq rfl rfl ?_
    refine WO.s0 (v' := .ptr 320 0) rfl rfl (fun _ => rfl) rfl ?_
    refine bind_elim h (fun x5 hx5 h => ?_)
    refine WO.callR (v := .d (T_api_SourceID.pd x5.1)) (u := [(320, .var [.d (.lst (x5.2.fL.map (PD.int .i64))), .d (.int .i64 x5.2.fAt)])]) rfl rfl (fun _ => rfl) rfl rfl rfl rfl rfl (Dice_Source_ev hx5) rfl rfl rfl rfl ?_
    refine WO.s0 (v' := .ptr 320 0) rfl rfl (fun _ => rfl) rfl ?_
    refine bind_elim h (fun x6 hx6 h => ?_)
    refine WO.callR (v := .d (T_api_SourceID.pd x6.1)) (u := [(320, .var [.d (.lst (x6.2.fL.map (PD.int .i64))), .d (.int .i64 x6.2.fAt)])]) rfl rfl (fun _ => rfl) rfl rfl rfl rfl rfl (Dice_Source_ev hx6) rfl rfl rfl rfl ?_
    refine WO.s0 (v' := .ptr 320 0) rfl rfl (fun _ => rfl) rfl ?_
    refine bind_elim h (fun x7 hx7 h => ?_)
    refine WO.callR (v := .d (T_api_SourceID.pd x7.1)) (u := [(320, .var [.d (.lst (x7.2.fL.map (PD.int .i64))), .d (.int .i64 x7.2.fAt)])]) rfl rfl (fun _ => rfl) rfl rfl rfl rfl rfl (Dice_Source_ev hx7) rfl rfl rfl rfl ?_
    refine WO.s1 (v := .ptr 64 0) (id := 64) (bx := .var [.d (.str []), .d (.str []), .d (.str []), .d (.str [])]) rfl rfl (fun _ => rfl) ?_
    refine WO.s1 (v := .ptr 80 0) (id := 80) (bx := .var [.d (.str []), .d (.str []), .d (.str []), .d (.str [])]) rfl rfl (fun _ => rfl) ?_
    refine WO.s1 (v := .ptr 96 0) (id := 96) (bx := .var [.d (.str []), .d (.str []), .d (.str []), .d (.str [])]) rfl rfl (fun _ => rfl) ?_
    refine WO.n1 (v := .undef) (id := 64) (bx := .var [.d (.str x5.1.fNetwork), .d (.str x5.1.fStation), .d (.str x5.1.fLocation), .d (.str x5.1.fChannel)]) rfl rfl (fun _ => rfl) ?_
    refine WO.n1 (v := .undef) (id := 80) (bx := .var [.d (.str x6.1.fNetwork), .d (.str x6.1.fStation), .d (.str x6.1.fLocation), .d (.str x6.1.fChannel)]) rfl rfl (fun _ => rfl) ?_
    refine WO.n1 (v := .undef) (id := 96) (bx := .var [.d (.str x7.1.fNetwork), .d (.str x7.1.fStation), .d (.str x7.1.fLocation), .d (.str x7.1.fChannel)]) rfl rfl (fun _ => rfl) ?_
    refine WO.nil ?_
    refine WC.regionDSeq rfl rfl ?_
    refine WO.s0 (v' := .d (T_api_SourceID.pd x5.1)) rfl rfl (fun _ => rfl) rfl ?_
    refine WO.s0 (v' := .d (T_api_SourceID.pd x6.1)) rfl rfl (fun _ => rfl) rfl ?_
    refine bind_elim h (fun x8 hx8 h => ?_)
    refine WO.callR (v := .d (.int .i64 x8)) (u := []) rfl rfl (fun _ => rfl) rfl rfl rfl rfl rfl (source_Compare_ev hx8) rfl rfl rfl rfl ?_
    refine WO.s0 (v' := .d (T_api_SourceID.pd x6.1)) rfl rfl (fun _ => rfl) rfl ?_
    refine WO.s0 (v' := .d (T_api_SourceID.pd x7.1)) rfl rfl (fun _ => rfl) rfl ?_
    refine bind_elim h (fun x9 hx9 h => ?_)
    refine WO.callR (v := .d (.int .i64 x9)) (u := []) rfl rfl (fun _ => rfl) rfl rfl rfl rfl rfl (source_Compare_ev hx9) rfl rfl rfl rfl ?_
    refine WO.s0 (v' := .d (T_api_SourceID.pd x5.1)) rfl rfl (fun _ => rfl) rfl ?_
    refine WO.s0 (v' := .d (T_api_SourceID.pd x7.1)) rfl rfl (fun _ => rfl) rfl ?_
    refine bind_elim h (fun x10 hx10 h => ?_)
    refine WO.callR (v := .d (.int .i64 x10)) (u := []) rfl rfl (fun _ => rfl) rfl rfl rfl rfl rfl (source_Compare_ev hx10) rfl rfl rfl rfl ?_
    refine WO.s0 (v' := .d (.int .i64 x8)) rfl rfl (fun _ => rfl) rfl ?_
    refine WO.s0 (v' := .d (.int .i64 x9)) rfl rfl (fun _ => rfl) rfl ?_
    refine WO.s0 (v' := .d (.int .i64 x10)) rfl rfl (fun _ => rfl) rfl ?_
    refine WO.nil ⟨by kernel_rfl, ?_⟩
    refine WC.join (α := Unit) (fun x R' B' => ghosts prog 0 (A R' B') (hints.at_ 5 8) = some (A [(4, .ptr 64 0), (5, .ptr 80 0), (6, .ptr 96 0)] [(64, .var [.d (.str x5.1.fNetwork), .d (.str x5.1.fStation), .d (.str x5.1.fLocation), .d (.str x5.1.fChannel)]), (80, .var [.d (.str x6.1.fNetwork), .d (.str x6.1.fStation), .d (.str x6.1.fLocation), .d (.str x6.1.fChannel)]), (96, .var [.d (.str x7.1.fNetwork), .d (.str x7.1.fStation), .d (.str x7.1.fLocation), .d (.str x7.1.fChannel)])])) (fun x => law03_SourceOrder_k44 x7 x5 x6 = some r) ?_ ?_
    · refine WC.regionSeq rfl rfl ?_
      refine WO.s0 (v' := .d (T_api_SourceID.pd x6.1)) rfl rfl (fun _ => rfl) rfl ?_
      refine WO.s0 (v' := .d (T_api_SourceID.pd x5.1)) rfl rfl (fun _ => rfl) rfl ?_
      refine bind_elim h (fun x45 hx45 h => ?_)
      refine WO.callR (v := .d (.int .i64 x45)) (u := []) rfl rfl (fun _ => rfl) rfl rfl rfl rfl rfl (source_Compare_ev hx45) rfl rfl rfl rfl ?_
      refine WO.s0 (v' := .d (.int .i64 x8)) rfl rfl (fun _ => rfl) rfl ?_
      refine WO.s0 (v' := .d (.int .i64 (IntKind.wrap .i64 (0 - x8)))) rfl rfl (fun _ => rfl) rfl ?_
      refine ite_elim h (fun hb46 h => ?_) (fun hb46 h => ?_)
      · refine WO.s0 (v' := .d (.bool true)) rfl rfl (fun _ => rfl) (congrArg (fun b => RV.d (.bool b)) hb46) ?_
        refine WO.s0 (v' := .d (.bool true)) rfl rfl (fun _ => rfl) rfl ?_
        refine WO.skip rfl rfl ?_
        refine WO.skip rfl rfl ?_
        refine WO.skip rfl rfl ?_
        refine WO.skip rfl rfl ?_
        refine WO.skip rfl rfl ?_
        refine WO.skip rfl rfl ?_
        refine WO.s0 (v' := .d (.bool true)) rfl rfl (fun _ => rfl) rfl ?_
        refine WO.s0 (v' := .d (.bool true)) rfl rfl (fun _ => rfl) rfl ?_
        refine WO.skip rfl rfl ?_
        refine WO.skip rfl rfl ?_
        refine WO.skip rfl rfl ?_
        refine WO.skip rfl rfl ?_
        refine WO.skip rfl rfl ?_
        refine WO.skip rfl rfl ?_
        refine WO.skip rfl rfl ?_
        refine WO.skip rfl rfl ?_
        refine WO.skip rfl rfl ?_
        refine WO.skip rfl rfl ?_
        refine WO.s0 (v' := .d (.bool true)) rfl rfl (fun _ => rfl) rfl ?_
        refine WO.nil ?_
        refine WC.condT rfl ?_
        refine WC.regionSeq rfl rfl ?_
        refine WO.s0 (v' := .d (.bool false)) rfl rfl (fun _ => rfl) rfl ?_
        refine WO.nil ?_
        refine WC.ret ?_
        obtain rfl := Option.some.inj h
        exact WC.done rfl rfl rfl
      · refine WO.s0 (v' := .d (.bool false)) rfl rfl (fun _ => rfl) (congrArg (fun b => RV.d (.bool b)) hb46) ?_
        refine WO.s0 (v' := .d (.bool false)) rfl rfl (fun _ => rfl) rfl ?_
        refine WO.s0 (v' := .d (.int .i64 x8)) rfl rfl (fun _ => rfl) rfl ?_
        refine WO.s0 (v' := .d (.bool (x8 == (0 : Int)))) rfl rfl (fun _ => rfl) rfl ?_
        refine WO.s0 (v' := .d (T_api_SourceID.pd x5.1)) rfl rfl (fun _ => rfl) rfl ?_
        refine WO.s0 (v' := .d (T_api_SourceID.pd x6.1)) rfl rfl (fun _ => rfl) rfl ?_
        refine WO.bin (eqE_28 x5.1 x6.1) rfl rfl rfl rfl rfl ?_
        refine WO.s0 (v' := .d (.bool (!((x8 == (0 : Int)) == ((x5.1.fNetwork == x6.1.fNetwork) && ((x5.1.fStation == x6.1.fStation) && ((x5.1.fLocation == x6.1.fLocation) && ((x5.1.fChannel == x6.1.fChannel) && true)))))))) rfl rfl (fun _ => rfl) rfl ?_
        refine ite_elim h (fun hb47 h => ?_) (fun hb47 h => ?_)
        · refine WO.s0 (v' := .d (.bool true)) rfl rfl (fun _ => rfl) (congrArg (fun b => RV.d (.bool b)) hb47) ?_
          refine WO.s0 (v' := .d (.bool true)) rfl rfl (fun _ => rfl) rfl ?_
          refine WO.skip rfl rfl ?_
          refine WO.skip rfl rfl ?_
          refine WO.skip rfl rfl ?_
          refine WO.skip rfl rfl ?_
          refine WO.skip rfl rfl ?_
          refine WO.skip rfl rfl ?_
          refine WO.skip rfl rfl ?_
          refine WO.skip rfl rfl ?_
          refine WO.skip rfl rfl ?_
          refine WO.skip rfl rfl ?_
          refine WO.s0 (v' := .d (.bool true)) rfl rfl (fun _ => rfl) rfl ?_
          refine WO.nil ?_
          refine WC.condT rfl ?_
          refine WC.regionSeq rfl rfl ?_
          refine WO.s0 (v' := .d (.bool false)) rfl rfl (fun _ => rfl) rfl ?_
          refine WO.nil ?_
          refine WC.ret ?_
          obtain rfl := Option.some.inj h
          exact WC.done rfl rfl rfl
        · refine WO.s0 (v' := .d (.bool false)) rfl rfl (fun _ => rfl) (congrArg (fun b => RV.d (.bool b)) hb47) ?_
          refine WO.s0 (v' := .d (.bool false)) rfl rfl (fun _ => rfl) rfl ?_
          refine WO.s0 (v' := .d (.int .i64 x8)) rfl rfl (fun _ => rfl) rfl ?_
          refine ite_elim h (fun hb48 h => ?_) (fun hb48 h => ?_)
          · refine WO.s0 (v' := .d (.bool true)) rfl rfl (fun _ => rfl) (congrArg (fun b => RV.d (.bool b)) hb48) ?_
            refine WO.s0 (v' := .d (.bool true)) rfl rfl (fun _ => rfl) rfl ?_
            refine WO.s0 (v' := .d (.int .i64 x9)) rfl rfl (fun _ => rfl) rfl ?_
            refine WO.s0 (v' := .d (.bool (decide (x9 ≤ (0 : Int))))) rfl rfl (fun _ => rfl) rfl ?_
            refine ite_elim h (fun hb49 h => ?_) (fun hb49 h => ?_)
            · refine WO.s0 (v' := .d (.bool true)) rfl rfl (fun _ => rfl) (congrArg (fun b => RV.d (.bool b)) hb49) ?_
              refine WO.s0 (v' := .d (.bool true)) rfl rfl (fun _ => rfl) rfl ?_
              refine WO.s0 (v' := .d (.int .i64 x10)) rfl rfl (fun _ => rfl) rfl ?_
              refine WO.s0 (v' := .d (.bool (decide (x10 > (0 : Int))))) rfl rfl (fun _ => rfl) rfl ?_
              refine WO.s0 (v' := .d (.bool (decide (x10 > (0 : Int))))) rfl rfl (fun _ => rfl) rfl ?_
              refine ite_elim h (fun hb50 h => ?_) (fun hb50 h => ?_)
              · refine WO.s0 (v' := .d (.bool true)) rfl rfl (fun _ => rfl) (congrArg (fun b => RV.d (.bool b)) hb50) ?_
                refine WO.nil ?_
                refine WC.condT rfl ?_
                refine WC.regionSeq rfl rfl ?_
                refine WO.s0 (v' := .d (.bool false)) rfl rfl (fun _ => rfl) rfl ?_
                refine WO.nil ?_
                refine WC.ret ?_
                obtain rfl := Option.some.inj h
                exact WC.done rfl rfl rfl
              · refine WO.s0 (v' := .d (.bool false)) rfl rfl (fun _ => rfl) (congrArg (fun b => RV.d (.bool b)) hb50) ?_
                refine WO.nil ?_
                refine WC.condF rfl ?_
                refine WC.skip ?_
                exact ⟨(), rfl, h⟩
            · refine WO.s0 (v' := .d (.bool false)) rfl rfl (fun _ => rfl) (congrArg (fun b => RV.d (.bool b)) hb49) ?_
              refine WO.s0 (v' := .d (.bool false)) rfl rfl (fun _ => rfl) rfl ?_
              refine WO.skip rfl rfl ?_
              refine WO.skip rfl rfl ?_
              refine WO.s0 (v' := .d (.bool false)) rfl rfl (fun _ => rfl) rfl ?_
              refine WO.s0 (v' := .d (.bool false)) rfl rfl (fun _ => rfl) rfl ?_
              refine WO.nil ?_
              refine WC.condF rfl ?_
              refine WC.skip ?_
              exact ⟨(), rfl, h⟩
          · refine WO.s0 (v' := .d (.bool false)) rfl rfl (fun _ => rfl) (congrArg (fun b => RV.d (.bool b)) hb48) ?_
            refine WO.s0 (v' := .d (.bool false)) rfl rfl (fun _ => rfl) rfl ?_
            refine WO.skip rfl rfl ?_
            refine WO.skip rfl rfl ?_
            refine WO.s0 (v' := .d (.bool false)) rfl rfl (fun _ => rfl) rfl ?_
            refine WO.s0 (v' := .d (.bool false)) rfl rfl (fun _ => rfl) rfl ?_
            refine WO.skip rfl rfl ?_
            refine WO.skip rfl rfl ?_
            refine WO.s0 (v' := .d (.bool false)) rfl rfl (fun _ => rfl) rfl ?_
            refine WO.s0 (v' := .d (.bool false)) rfl rfl (fun _ => rfl) rfl ?_
            refine WO.nil ?_
            refine WC.condF rfl ?_
            refine WC.skip ?_
            exact ⟨(), rfl, h⟩
    · rintro ⟨⟩ R' B' hI h
      refine WC.regionSeq hI rfl ?_
      refine WO.s0 (v' := .d (T_api_SourceID.pd x7.1)) rfl rfl (fun _ => rfl) rfl ?_
      refine WO.s0 (v' := .d (T_api_SourceID.pd x5.1)) rfl rfl (fun _ => rfl) rfl ?_
      refine WO.s0 (v' := .d (T_api_SourceID.pd x6.1)) rfl rfl (fun _ => rfl) rfl ?_
      refine WO.s0 (v' := .d (T_api_SourceID.pd x5.1)) rfl rfl (fun _ => rfl) rfl ?_
      refine WO.s0 (v' := .d (.lst ([x7.1, x5.1, x6.1, x5.1].map T_api_SourceID.pd))) rfl rfl (fun _ => rfl) rfl ?_
      refine bind_elim h (fun x11 hx11 h => ?_)
      refine WO.callR (v := .d (.lst (x11.map T_api_SourceID.pd))) (u := []) rfl rfl (fun _ => rfl) rfl rfl rfl rfl rfl (source_Sort_ev hx11) rfl rfl rfl rfl ?_
      refine WO.s0 (v' := .d (.lst (x11.map T_api_SourceID.pd))) rfl rfl (fun _ => rfl) rfl ?_
      refine WO.nil ?_
      refine WC.seq ?_
      refine WC.regionSeq rfl rfl ?_
      refine WO.s0 (v' := .d (.int .i64 1)) rfl rfl (fun _ => rfl) rfl ?_
      refine WO.nil ?_
      refine bind_elim h (fun o20 ho20 h => ?_)
      refine WC.block (WC.loop (WL.ofLoop ho20 (fun s R' B' => ghosts prog 0 (A R' B') (hints.at_ 5 10) = some (A [(4, .ptr 64 0), (5, .ptr 80 0), (6, .ptr 96 0), (10, .d (.lst (x11.map T_api_SourceID.pd))), (11, .d (.int .i64 s))] [(64, .var [.d (.str x5.1.fNetwork), .d (.str x5.1.fStation), .d (.str x5.1.fLocation), .d (.str x5.1.fChannel)]), (80, .var [.d (.str x6.1.fNetwork), .d (.str x6.1.fStation), .d (.str x6.1.fLocation), .d (.str x6.1.fChannel)]), (96, .var [.d (.str x7.1.fNetwork), .d (.str x7.1.fStation), .d (.str x7.1.fLocation), .d (.str x7.1.fChannel)])])) (fun o e R' B' => match o with | .inl y => e = .exit 0 ∧ ghosts prog 0 (A R' B') (hints.at_ 5 14) = some (A [(4, .ptr 64 0), (5, .ptr 80 0), (6, .ptr 96 0), (10, .d (.lst (x11.map T_api_SourceID.pd)))] [(64, .var [.d (.str x5.1.fNetwork), .d (.str x5.1.fStation), .d (.str x5.1.fLocation), .d (.str x5.1.fChannel)]), (80, .var [.d (.str x6.1.fNetwork), .d (.str x6.1.fStation), .d (.str x6.1.fLocation), .d (.str x6.1.fChannel)]), (96, .var [.d (.str x7.1.fNetwork), .d (.str x7.1.fStation), .d (.str x7.1.fLocation), .d (.str x7.1.fChannel)])]) | .inr r => e = .ret ∧ finish prog (hints.own 5) Tryd.f5 0 (A R' B') = some (.d (.bool r), [])) rfl ?_ ?_))
      · rintro s12 R' B' q13 hI h
        refine WC.seq ?_
        refine WC.regionSeq hI rfl ?_
        refine WO.s0 (v' := .d (.int .i64 s12)) rfl rfl (fun _ => rfl) rfl ?_
        refine WO.s0 (v' := .d (.lst (x11.map T_api_SourceID.pd))) rfl rfl (fun _ => rfl) rfl ?_
        refine WO.s0 (v' := .d (.int .i64 (x11.length : Int))) rfl rfl (fun _ => rfl) (lenMap _ _) ?_
        refine ite_elim h (fun hb14 h => ?_) (fun hb14 h => ?_)
        · refine WO.s0 (v' := .d (.bool true)) rfl rfl (fun _ => rfl) (congrArg (fun b => RV.d (.bool b)) hb14) ?_
          refine WO.nil ?_
          refine WC.condT rfl ?_
          refine WC.skip ?_
          refine WC.seq ?_
          refine WC.block ?_
          refine WC.regionDSeq rfl rfl ?_
          refine WO.s0 (v' := .d (.lst (x11.map T_api_SourceID.pd))) rfl rfl (fun _ => rfl) rfl ?_
          refine WO.s0 (v' := .d (.int .i64 s12)) rfl rfl (fun _ => rfl) rfl ?_
          refine WO.s0 (v' := .d (.int .i64 (IntKind.wrap .i64 (s12 - (1 : Int))))) rfl rfl (fun _ => rfl) rfl ?_
          refine bind_elim h (fun x15 hx15 h => ?_)
          refine WO.elemG hx15 rfl rfl rfl rfl rfl rfl rfl rfl rfl ?_
          refine WO.s0 (v' := .d (T_api_SourceID.pd x15)) rfl rfl (fun _ => rfl) rfl ?_
          refine WO.s0 (v' := .d (.lst (x11.map T_api_SourceID.pd))) rfl rfl (fun _ => rfl) rfl ?_
          refine WO.s0 (v' := .d (.int .i64 s12)) rfl rfl (fun _ => rfl) rfl ?_
          refine bind_elim h (fun x16 hx16 h => ?_)
          refine WO.elemG hx16 rfl rfl rfl rfl rfl rfl rfl rfl rfl ?_
          refine WO.s0 (v' := .d (T_api_SourceID.pd x16)) rfl rfl (fun _ => rfl) rfl ?_
          refine bind_elim h (fun x17 hx17 h => ?_)
          refine WO.callR (v := .d (.int .i64 x17)) (u := []) rfl rfl (fun _ => rfl) rfl rfl rfl rfl rfl (source_Compare_ev hx17) rfl rfl rfl rfl ?_
          refine ite_elim h (fun hb18 h => ?_) (fun hb18 h => ?_)
          · refine WO.s0 (v' := .d (.bool true)) rfl rfl (fun _ => rfl) (congrArg (fun b => RV.d (.bool b)) hb18) ?_
            refine WO.nil ⟨by kernel_rfl, ?_⟩
            refine WC.condT rfl ?_
            refine WC.regionSeq rfl rfl ?_
            refine WO.s0 (v' := .d (.bool false)) rfl rfl (fun _ => rfl) rfl ?_
            refine WO.nil ?_
            refine WC.ret ?_
            obtain rfl := Option.some.inj h
            exact ⟨(fun he => by cases he), rfl, rfl⟩
          · refine WO.s0 (v' := .d (.bool false)) rfl rfl (fun _ => rfl) (congrArg (fun b => RV.d (.bool b)) hb18) ?_
            refine WO.nil ⟨by kernel_rfl, ?_⟩
            refine WC.condF rfl ?_
            refine WC.skip ?_
            refine WC.region rfl rfl ?_
            refine WO.s0 (v' := .d (.int .i64 s12)) rfl rfl (fun _ => rfl) rfl ?_
            refine WO.s0 (v' := .d (.int .i64 (IntKind.wrap .i64 (s12 + (1 : Int))))) rfl rfl (fun _ => rfl) rfl ?_
            refine WO.s0 (v' := .d (.int .i64 (IntKind.wrap .i64 (s12 + (1 : Int))))) rfl rfl (fun _ => rfl) rfl ?_
            refine WO.nil ?_
            obtain rfl := Option.some.inj h
            exact ⟨rfl, rfl⟩
        · refine WO.s0 (v' := .d (.bool false)) rfl rfl (fun _ => rfl) (congrArg (fun b => RV.d (.bool b)) hb14) ?_
          refine WO.nil ?_
          refine WC.condF rfl ?_
          refine WC.exit ?_
          obtain rfl := Option.some.inj h
          exact ⟨(fun he => by cases he), rfl, rfl⟩
      · intro e R' B' he hq
        rcases o20 with y21 | r22
        · obtain ⟨rfl, hI⟩ := hq
          refine ⟨fun _ => ?_, fun hne => (hne rfl).elim⟩
          refine WC.regionSeq hI rfl ?_
          refine WO.s0 (v' := .d (.int .i64 0)) rfl rfl (fun _ => rfl) rfl ?_
          refine WO.nil ?_
          refine WC.seq ?_
          refine WC.regionSeq rfl rfl ?_
          refine WO.s0 (v' := .d (.lst (x11.map T_api_SourceID.pd))) rfl rfl (fun _ => rfl) rfl ?_
          refine WO.s0 (v' := .d (.int .i64 (x11.length : Int))) rfl rfl (fun _ => rfl) (lenMap _ _) ?_
          refine WO.s0 (v' := .d (.int .i64 0)) rfl rfl (fun _ => rfl) rfl ?_
          refine WO.nil ?_
          refine bind_elim h (fun o33 ho33 h => ?_)
          refine WC.block (WC.loop (WL.ofLoop ho33 (fun s R' B' => ghosts prog 0 (A R' B') (hints.at_ 5 16) = some (A [(4, .ptr 64 0), (5, .ptr 80 0), (6, .ptr 96 0), (10, .d (.lst (x11.map T_api_SourceID.pd))), (12, .d (.int .i64 s.1)), (85, .d (.lst (x11.map T_api_SourceID.pd))), (86, .d (.int .i64 (x11.length : Int))), (87, .d (.int .i64 s.2))] [(64, .var [.d (.str x5.1.fNetwork), .d (.str x5.1.fStation), .d (.str x5.1.fLocation), .d (.str x5.1.fChannel)]), (80, .var [.d (.str x6.1.fNetwork), .d (.str x6.1.fStation), .d (.str x6.1.fLocation), .d (.str x6.1.fChannel)]), (96, .var [.d (.str x7.1.fNetwork), .d (.str x7.1.fStation), .d (.str x7.1.fLocation), .d (.str x7.1.fChannel)])])) (fun o e R' B' => e = .exit 2 ∧ ghosts prog 0 (A R' B') (hints.at_ 5 21) = some (A [(4, .ptr 64 0), (5, .ptr 80 0), (6, .ptr 96 0), (10, .d (.lst (x11.map T_api_SourceID.pd))), (12, .d (.int .i64 o))] [(64, .var [.d (.str x5.1.fNetwork), .d (.str x5.1.fStation), .d (.str x5.1.fLocation), .d (.str x5.1.fChannel)]), (80, .var [.d (.str x6.1.fNetwork), .d (.str x6.1.fStation), .d (.str x6.1.fLocation), .d (.str x6.1.fChannel)]), (96, .var [.d (.str x7.1.fNetwork), .d (.str x7.1.fStation), .d (.str x7.1.fLocation), .d (.str x7.1.fChannel)])])) rfl ?_ ?_))
          · rintro ⟨s23, s24⟩ R' B' q26 hI h
            refine WC.regionSeq hI rfl ?_
            refine ite_elim h (fun hb27 h => ?_) (fun hb27 h => ?_)
            · refine WO.s0 (v' := .d (.bool true)) rfl rfl (fun _ => rfl) (congrArg (fun b => RV.d (.bool b)) hb27) ?_
              refine WO.nil ?_
              refine WC.seq ?_
              refine WC.condT rfl ?_
              refine WC.skip ?_
              refine WC.seq ?_
              refine WC.block ?_
              refine WC.regionSeq rfl rfl ?_
              refine bind_elim h (fun x28 hx28 h => ?_)
              refine WO.elemG hx28 rfl rfl rfl rfl rfl rfl rfl rfl rfl ?_
              refine WO.s0 (v' := .d (T_api_SourceID.pd x28)) rfl rfl (fun _ => rfl) rfl ?_
              refine WO.s1 (v := .ptr 224 0) (id := 224) (bx := .var [.d (.str []), .d (.str []), .d (.str []), .d (.str [])]) rfl rfl (fun _ => rfl) ?_
              refine WO.n1 (v := .undef) (id := 224) (bx := .var [.d (.str x28.fNetwork), .d (.str x28.fStation), .d (.str x28.fLocation), .d (.str x28.fChannel)]) rfl rfl (fun _ => rfl) ?_
              refine WO.nil ?_
              refine WC.regionSeq rfl rfl ?_
              refine WO.s0 (v' := .d (T_api_SourceID.pd x28)) rfl rfl (fun _ => rfl) rfl ?_
              refine WO.s0 (v' := .d (T_api_SourceID.pd x5.1)) rfl rfl (fun _ => rfl) rfl ?_
              refine ite_elim h (fun hb29 h => ?_) (fun hb29 h => ?_)
              · refine WO.binS (eqE_28 x28 x5.1) hb29 rfl rfl rfl rfl rfl ?_
                refine WO.s0 (v' := .d (.bool true)) rfl rfl (fun _ => rfl) rfl ?_
                refine WO.skip rfl rfl ?_
                refine WO.skip rfl rfl ?_
                refine WO.skip rfl rfl ?_
                refine WO.s0 (v' := .d (.bool true)) rfl rfl (fun _ => rfl) rfl ?_
                refine WO.s0 (v' := .d (.bool true)) rfl rfl (fun _ => rfl) rfl ?_
                refine WO.skip rfl rfl ?_
                refine WO.skip rfl rfl ?_
                refine WO.skip rfl rfl ?_
                refine WO.s0 (v' := .d (.bool true)) rfl rfl (fun _ => rfl) rfl ?_
                refine WO.nil ?_
                refine WC.condT rfl ?_
                refine WC.region rfl rfl ?_
                refine WO.s0 (v' := .d (.int .i64 s23)) rfl rfl (fun _ => rfl) rfl ?_
                refine WO.s0 (v' := .d (.int .i64 (IntKind.wrap .i64 (s23 + (1 : Int))))) rfl rfl (fun _ => rfl) rfl ?_
                refine WO.s0 (v' := .d (.int .i64 (IntKind.wrap .i64 (s23 + (1 : Int))))) rfl rfl (fun _ => rfl) rfl ?_
                refine WO.nil ?_
                refine WC.region rfl rfl ?_
                refine WO.s0 (v' := .d (.int .i64 (IntKind.wrap .i64 (s24 + (1 : Int))))) rfl rfl (fun _ => rfl) rfl ?_
                refine WO.s0 (v' := .d (.int .i64 (IntKind.wrap .i64 (s24 + (1 : Int))))) rfl rfl (fun _ => rfl) rfl ?_
                refine WO.nil ?_
                obtain rfl := Option.some.inj h
                exact ⟨rfl, rfl⟩
              · refine WO.binS (eqE_28 x28 x5.1) hb29 rfl rfl rfl rfl rfl ?_
                refine WO.s0 (v' := .d (.bool false)) rfl rfl (fun _ => rfl) rfl ?_
                refine WO.s0 (v' := .d (T_api_SourceID.pd x28)) rfl rfl (fun _ => rfl) rfl ?_
                refine WO.s0 (v' := .d (T_api_SourceID.pd x6.1)) rfl rfl (fun _ => rfl) rfl ?_
                refine WO.bin (eqE_28 x28 x6.1) rfl rfl rfl rfl rfl ?_
                refine ite_elim h (fun hb30 h => ?_) (fun hb30 h => ?_)
                · refine WO.s0 (v' := .d (.bool true)) rfl rfl (fun _ => rfl) (congrArg (fun b => RV.d (.bool b)) hb30) ?_
                  refine WO.s0 (v' := .d (.bool true)) rfl rfl (fun _ => rfl) rfl ?_
                  refine WO.skip rfl rfl ?_
                  refine WO.skip rfl rfl ?_
                  refine WO.skip rfl rfl ?_
                  refine WO.s0 (v' := .d (.bool true)) rfl rfl (fun _ => rfl) rfl ?_
                  refine WO.nil ?_
                  refine WC.condT rfl ?_
                  refine WC.region rfl rfl ?_
                  refine WO.s0 (v' := .d (.int .i64 s23)) rfl rfl (fun _ => rfl) rfl ?_
                  refine WO.s0 (v' := .d (.int .i64 (IntKind.wrap .i64 (s23 + (1 : Int))))) rfl rfl (fun _ => rfl) rfl ?_
                  refine WO.s0 (v' := .d (.int .i64 (IntKind.wrap .i64 (s23 + (1 : Int))))) rfl rfl (fun _ => rfl) rfl ?_
                  refine WO.nil ?_
                  refine WC.region rfl rfl ?_
                  refine WO.s0 (v' := .d (.int .i64 (IntKind.wrap .i64 (s24 + (1 : Int))))) rfl rfl (fun _ => rfl) rfl ?_
                  refine WO.s0 (v' := .d (.int .i64 (IntKind.wrap .i64 (s24 + (1 : Int))))) rfl rfl (fun _ => rfl) rfl ?_
                  refine WO.nil ?_
                  obtain rfl := Option.some.inj h
                  exact ⟨rfl, rfl⟩
                · refine WO.s0 (v' := .d (.bool false)) rfl rfl (fun _ => rfl) (congrArg (fun b => RV.d (.bool b)) hb30) ?_
                  refine WO.s0 (v' := .d (.bool false)) rfl rfl (fun _ => rfl) rfl ?_
                  refine WO.s0 (v' := .d (T_api_SourceID.pd x28)) rfl rfl (fun _ => rfl) rfl ?_
                  refine WO.s0 (v' := .d (T_api_SourceID.pd x7.1)) rfl rfl (fun _ => rfl) rfl ?_
                  refine WO.bin (eqE_28 x28 x7.1) rfl rfl rfl rfl rfl ?_
                  refine ite_elim h (fun hb31 h => ?_) (fun hb31 h => ?_)
                  · refine WO.s0 (v' := .d (.bool true)) rfl rfl (fun _ => rfl) (congrArg (fun b => RV.d (.bool b)) hb31) ?_
                    refine WO.nil ?_
                    refine WC.condT rfl ?_
                    refine WC.region rfl rfl ?_
                    refine WO.s0 (v' := .d (.int .i64 s23)) rfl rfl (fun _ => rfl) rfl ?_
                    refine WO.s0 (v' := .d (.int .i64 (IntKind.wrap .i64 (s23 + (1 : Int))))) rfl rfl (fun _ => rfl) rfl ?_
                    refine WO.s0 (v' := .d (.int .i64 (IntKind.wrap .i64 (s23 + (1 : Int))))) rfl rfl (fun _ => rfl) rfl ?_
                    refine WO.nil ?_
                    refine WC.region rfl rfl ?_
                    refine WO.s0 (v' := .d (.int .i64 (IntKind.wrap .i64 (s24 + (1 : Int))))) rfl rfl (fun _ => rfl) rfl ?_
                    refine WO.s0 (v' := .d (.int .i64 (IntKind.wrap .i64 (s24 + (1 : Int))))) rfl rfl (fun _ => rfl) rfl ?_
                    refine WO.nil ?_
                    obtain rfl := Option.some.inj h
                    exact ⟨rfl, rfl⟩
                  · refine WO.s0 (v' := .d (.bool false)) rfl rfl (fun _ => rfl) (congrArg (fun b => RV.d (.bool b)) hb31) ?_
                    refine WO.nil ?_
                    refine WC.condF rfl ?_
                    refine WC.skip ?_
                    refine WC.region rfl rfl ?_
                    refine WO.s0 (v' := .d (.int .i64 (IntKind.wrap .i64 (s24 + (1 : Int))))) rfl rfl (fun _ => rfl) rfl ?_
                    refine WO.s0 (v' := .d (.int .i64 (IntKind.wrap .i64 (s24 + (1 : Int))))) rfl rfl (fun _ => rfl) rfl ?_
                    refine WO.nil ?_
                    obtain rfl := Option.some.inj h
                    exact ⟨rfl, rfl⟩
            · refine WO.s0 (v' := .d (.bool false)) rfl rfl (fun _ => rfl) (congrArg (fun b => RV.d (.bool b)) hb27) ?_
              refine WO.nil ?_
              refine WC.seq ?_
              refine WC.condF rfl ?_
              refine WC.exit ?_
              obtain rfl := Option.some.inj h
              exact ⟨(fun he => by cases he), rfl, rfl⟩
          · intro e R' B' he hq
            obtain ⟨rfl, hI⟩ := hq
            refine ⟨fun _ => ?_, fun hne => (hne rfl).elim⟩
            refine WC.regionSeq hI rfl ?_
            refine WO.s0 (v' := .d (.int .i64 o33)) rfl rfl (fun _ => rfl) rfl ?_
            refine WO.s0 (v' := .d (.lst (x11.map T_api_SourceID.pd))) rfl rfl (fun _ => rfl) rfl ?_
            refine WO.s0 (v' := .d (.int .i64 (x11.length : Int))) rfl rfl (fun _ => rfl) (lenMap _ _) ?_
            refine ite_elim h (fun hb34 h => ?_) (fun hb34 h => ?_)
            · refine WO.s0 (v' := .d (.bool true)) rfl rfl (fun _ => rfl) (congrArg (fun b => RV.d (.bool b)) hb34) ?_
              refine WO.s0 (v' := .d (.bool true)) rfl rfl (fun _ => rfl) rfl ?_
              refine WO.s0 (v' := .d (.lst (x11.map T_api_SourceID.pd))) rfl rfl (fun _ => rfl) rfl ?_
              refine WO.s0 (v' := .d (.int .i64 (x11.length : Int))) rfl rfl (fun _ => rfl) (lenMap _ _) ?_
              refine WO.s0 (v' := .d (.bool (decide ((x11.length : Int) ≥ (1 : Int))))) rfl rfl (fun _ => rfl) rfl ?_
              refine ite_elim h (fun hb35 h => ?_) (fun hb35 h => ?_)
              · refine WO.s0 (v' := .d (.bool true)) rfl rfl (fun _ => rfl) (congrArg (fun b => RV.d (.bool b)) hb35) ?_
                refine WO.s0 (v' := .d (.bool true)) rfl rfl (fun _ => rfl) rfl ?_
                refine WO.s0 (v' := .d (.lst (x11.map T_api_SourceID.pd))) rfl rfl (fun _ => rfl) rfl ?_
                refine WO.s0 (v' := .d (.int .i64 (x11.length : Int))) rfl rfl (fun _ => rfl) (lenMap _ _) ?_
                refine WO.s0 (v' := .d (.bool ((x11.length : Int) == (3 : Int)))) rfl rfl (fun _ => rfl) rfl ?_
                refine WO.s0 (v' := .d (T_api_SourceID.pd x5.1)) rfl rfl (fun _ => rfl) rfl ?_
                refine WO.s0 (v' := .d (T_api_SourceID.pd x6.1)) rfl rfl (fun _ => rfl) rfl ?_
                refine ite_elim h (fun hb36 h => ?_) (fun hb36 h => ?_)
                · refine WO.binS (eqN_28 x5.1 x6.1) hb36 rfl rfl rfl rfl rfl ?_
                  refine WO.s0 (v' := .d (.bool true)) rfl rfl (fun _ => rfl) rfl ?_
                  refine WO.s0 (v' := .d (T_api_SourceID.pd x6.1)) rfl rfl (fun _ => rfl) rfl ?_
                  refine WO.s0 (v' := .d (T_api_SourceID.pd x7.1)) rfl rfl (fun _ => rfl) rfl ?_
                  refine WO.bin (eqN_28 x6.1 x7.1) rfl rfl rfl rfl rfl ?_
                  refine ite_elim h (fun hb37 h => ?_) (fun hb37 h => ?_)
                  · refine WO.s0 (v' := .d (.bool true)) rfl rfl (fun _ => rfl) (congrArg (fun b => RV.d (.bool b)) hb37) ?_
                    refine WO.s0 (v' := .d (.bool true)) rfl rfl (fun _ => rfl) rfl ?_
                    refine WO.s0 (v' := .d (T_api_SourceID.pd x5.1)) rfl rfl (fun _ => rfl) rfl ?_
                    refine WO.s0 (v' := .d (T_api_SourceID.pd x7.1)) rfl rfl (fun _ => rfl) rfl ?_
                    refine WO.bin (eqN_28 x5.1 x7.1) rfl rfl rfl rfl rfl ?_
                    refine WO.s0 (v' := .d (.bool (!((x5.1.fNetwork == x7.1.fNetwork) && ((x5.1.fStation == x7.1.fStation) && ((x5.1.fLocation == x7.1.fLocation) && ((x5.1.fChannel == x7.1.fChannel) && true))))))) rfl rfl (fun _ => rfl) rfl ?_
                    refine WO.s0 (v' := .d (.bool (((x11.length : Int) == (3 : Int)) == (!((x5.1.fNetwork == x7.1.fNetwork) && ((x5.1.fStation == x7.1.fStation) && ((x5.1.fLocation == x7.1.fLocation) && ((x5.1.fChannel == x7.1.fChannel) && true)))))))) rfl rfl (fun _ => rfl) rfl ?_
                    refine ite_elim h (fun hb38 h => ?_) (fun hb38 h => ?_)
                    · refine WO.s0 (v' := .d (.bool true)) rfl rfl (fun _ => rfl) (congrArg (fun b => RV.d (.bool b)) hb38) ?_
                      refine WO.s0 (v' := .d (.bool true)) rfl rfl (fun _ => rfl) rfl ?_
                      refine bind_elim h (fun x39 hx39 h => ?_)
                      refine WO.callR (v := .d (.bool x39)) (u := []) rfl rfl (fun _ => rfl) rfl rfl rfl rfl rfl (law03_sane_ev hx39) rfl rfl rfl rfl ?_
                      refine WO.s0 (v' := .d (.bool x39)) rfl rfl (fun _ => rfl) rfl ?_
                      refine WO.s0 (v' := .d (.bool x39)) rfl rfl (fun _ => rfl) rfl ?_
                      refine WO.nil ?_
                      refine WC.ret ?_
                      obtain rfl := Option.some.inj h
                      exact WC.done rfl rfl rfl
                    · refine WO.s0 (v' := .d (.bool false)) rfl rfl (fun _ => rfl) (congrArg (fun b => RV.d (.bool b)) hb38) ?_
                      refine WO.s0 (v' := .d (.bool false)) rfl rfl (fun _ => rfl) rfl ?_
                      refine WO.skip rfl rfl ?_
                      refine WO.s0 (v' := .d (.bool false)) rfl rfl (fun _ => rfl) rfl ?_
                      refine WO.s0 (v' := .d (.bool false)) rfl rfl (fun _ => rfl) rfl ?_
                      refine WO.nil ?_
                      refine WC.ret ?_
                      obtain rfl := Option.some.inj h
                      exact WC.done rfl rfl rfl
                  · refine WO.s0 (v' := .d (.bool false)) rfl rfl (fun _ => rfl) (congrArg (fun b => RV.d (.bool b)) hb37) ?_
                    refine WO.s0 (v' := .d (.bool false)) rfl rfl (fun _ => rfl) rfl ?_
                    refine WO.skip rfl rfl ?_
                    refine WO.skip rfl rfl ?_
                    refine WO.skip rfl rfl ?_
                    refine WO.s0 (v' := .d (.bool false)) rfl rfl (fun _ => rfl) rfl ?_
                    refine WO.s0 (v' := .d (.bool (((x11.length : Int) == (3 : Int)) == false))) rfl rfl (fun _ => rfl) rfl ?_
                    refine ite_elim h (fun hb40 h => ?_) (fun hb40 h => ?_)
                    · refine WO.s0 (v' := .d (.bool true)) rfl rfl (fun _ => rfl) (congrArg (fun b => RV.d (.bool b)) hb40) ?_
                      refine WO.s0 (v' := .d (.bool true)) rfl rfl (fun _ => rfl) rfl ?_
                      refine bind_elim h (fun x41 hx41 h => ?_)
                      refine WO.callR (v := .d (.bool x41)) (u := []) rfl rfl (fun _ => rfl) rfl rfl rfl rfl rfl (law03_sane_ev hx41) rfl rfl rfl rfl ?_
                      refine WO.s0 (v' := .d (.bool x41)) rfl rfl (fun _ => rfl) rfl ?_
                      refine WO.s0 (v' := .d (.bool x41)) rfl rfl (fun _ => rfl) rfl ?_
                      refine WO.nil ?_
                      refine WC.ret ?_
                      obtain rfl := Option.some.inj h
                      exact WC.done rfl rfl rfl
                    · refine WO.s0 (v' := .d (.bool false)) rfl rfl (fun _ => rfl) (congrArg (fun b => RV.d (.bool b)) hb40) ?_
                      refine WO.s0 (v' := .d (.bool false)) rfl rfl (fun _ => rfl) rfl ?_
                      refine WO.skip rfl rfl ?_
                      refine WO.s0 (v' := .d (.bool false)) rfl rfl (fun _ => rfl) rfl ?_
                      refine WO.s0 (v' := .d (.bool false)) rfl rfl (fun _ => rfl) rfl ?_
                      refine WO.nil ?_
                      refine WC.ret ?_
                      obtain rfl := Option.some.inj h
                      exact WC.done rfl rfl rfl
                · refine WO.binS (eqN_28 x5.1 x6.1) hb36 rfl rfl rfl rfl rfl ?_
                  refine WO.s0 (v' := .d (.bool false)) rfl rfl (fun _ => rfl) rfl ?_
                  refine WO.skip rfl rfl ?_
                  refine WO.skip rfl rfl ?_
                  refine WO.skip rfl rfl ?_
                  refine WO.s0 (v' := .d (.bool false)) rfl rfl (fun _ => rfl) rfl ?_
                  refine WO.s0 (v' := .d (.bool false)) rfl rfl (fun _ => rfl) rfl ?_
                  refine WO.skip rfl rfl ?_
                  refine WO.skip rfl rfl ?_
                  refine WO.skip rfl rfl ?_
                  refine WO.s0 (v' := .d (.bool false)) rfl rfl (fun _ => rfl) rfl ?_
                  refine WO.s0 (v' := .d (.bool (((x11.length : Int) == (3 : Int)) == false))) rfl rfl (fun _ => rfl) rfl ?_
                  refine ite_elim h (fun hb42 h => ?_) (fun hb42 h => ?_)
                  · refine WO.s0 (v' := .d (.bool true)) rfl rfl (fun _ => rfl) (congrArg (fun b => RV.d (.bool b)) hb42) ?_
                    refine WO.s0 (v' := .d (.bool true)) rfl rfl (fun _ => rfl) rfl ?_
                    refine bind_elim h (fun x43 hx43 h => ?_)
                    refine WO.callR (v := .d (.bool x43)) (u := []) rfl rfl (fun _ => rfl) rfl rfl rfl rfl rfl (law03_sane_ev hx43) rfl rfl rfl rfl ?_
                    refine WO.s0 (v' := .d (.bool x43)) rfl rfl (fun _ => rfl) rfl ?_
                    refine WO.s0 (v' := .d (.bool x43)) rfl rfl (fun _ => rfl) rfl ?_
                    refine WO.nil ?_
                    refine WC.ret ?_
                    obtain rfl := Option.some.inj h
                    exact WC.done rfl rfl rfl
                  · refine WO.s0 (v' := .d (.bool false)) rfl rfl (fun _ => rfl) (congrArg (fun b => RV.d (.bool b)) hb42) ?_
                    refine WO.s0 (v' := .d (.bool false)) rfl rfl (fun _ => rfl) rfl ?_
                    refine WO.skip rfl rfl ?_
                    refine WO.s0 (v' := .d (.bool false)) rfl rfl (fun _ => rfl) rfl ?_
                    refine WO.s0 (v' := .d (.bool false)) rfl rfl (fun _ => rfl) rfl ?_
                    refine WO.nil ?_
                    refine WC.ret ?_
                    obtain rfl := Option.some.inj h
                    exact WC.done rfl rfl rfl
              · refine WO.s0 (v' := .d (.bool false)) rfl rfl (fun _ => rfl) (congrArg (fun b => RV.d (.bool b)) hb35) ?_
                refine WO.s0 (v' := .d (.bool false)) rfl rfl (fun _ => rfl) rfl ?_
                refine WO.skip rfl rfl ?_
                refine WO.skip rfl rfl ?_
                refine WO.skip rfl rfl ?_
                refine WO.skip rfl rfl ?_
                refine WO.skip rfl rfl ?_
                refine WO.skip rfl rfl ?_
                refine WO.skip rfl rfl ?_
                refine WO.skip rfl rfl ?_
                refine WO.skip rfl rfl ?_
                refine WO.skip rfl rfl ?_
                refine WO.skip rfl rfl ?_
                refine WO.skip rfl rfl ?_
                refine WO.skip rfl rfl ?_
                refine WO.skip rfl rfl ?_
                refine WO.skip rfl rfl ?_
                refine WO.skip rfl rfl ?_
                refine WO.skip rfl rfl ?_
                refine WO.s0 (v' := .d (.bool false)) rfl rfl (fun _ => rfl) rfl ?_
                refine WO.s0 (v' := .d (.bool false)) rfl rfl (fun _ => rfl) rfl ?_
                refine WO.skip rfl rfl ?_
                refine WO.s0 (v' := .d (.bool false)) rfl rfl (fun _ => rfl) rfl ?_
                refine WO.s0 (v' := .d (.bool false)) rfl rfl (fun _ => rfl) rfl ?_
                refine WO.nil ?_
                refine WC.ret ?_
                obtain rfl := Option.some.inj h
                exact WC.done rfl rfl rfl
            · refine WO.s0 (v' := .d (.bool false)) rfl rfl (fun _ => rfl) (congrArg (fun b => RV.d (.bool b)) hb34) ?_
              refine WO.s0 (v' := .d (.bool false)) rfl rfl (fun _ => rfl) rfl ?_
              refine WO.skip rfl rfl ?_
              refine WO.skip rfl rfl ?_
              refine WO.skip rfl rfl ?_
              refine WO.s0 (v' := .d (.bool false)) rfl rfl (fun _ => rfl) rfl ?_
              refine WO.s0 (v' := .d (.bool false)) rfl rfl (fun _ => rfl) rfl ?_
              refine WO.skip rfl rfl ?_
              refine WO.skip rfl rfl ?_
              refine WO.skip rfl rfl ?_
              refine WO.skip rfl rfl ?_
              refine WO.skip rfl rfl ?_
              refine WO.skip rfl rfl ?_
              refine WO.skip rfl rfl ?_
              refine WO.skip rfl rfl ?_
              refine WO.skip rfl rfl ?_
              refine WO.skip rfl rfl ?_
              refine WO.skip rfl rfl ?_
              refine WO.skip rfl rfl ?_
              refine WO.skip rfl rfl ?_
              refine WO.skip rfl rfl ?_
              refine WO.skip rfl rfl ?_
              refine WO.skip rfl rfl ?_
              refine WO.skip rfl rfl ?_
              refine WO.s0 (v' := .d (.bool false)) rfl rfl (fun _ => rfl) rfl ?_
              refine WO.s0 (v' := .d (.bool false)) rfl rfl (fun _ => rfl) rfl ?_
              refine WO.skip rfl rfl ?_
              refine WO.s0 (v' := .d (.bool false)) rfl rfl (fun _ => rfl) rfl ?_
              refine WO.s0 (v' := .d (.bool false)) rfl rfl (fun _ => rfl) rfl ?_
              refine WO.nil ?_
              refine WC.ret ?_
              obtain rfl := Option.some.inj h
              exact WC.done rfl rfl rfl
        · obtain ⟨rfl, hf⟩ := hq
          obtain rfl := Option.some.inj h
          exact hf
end Go.Dw.So
