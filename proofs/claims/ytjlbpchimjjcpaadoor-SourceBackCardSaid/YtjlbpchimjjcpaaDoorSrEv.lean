/- SrEv: the code computes what the plain functions say (written by lift.py). -/
import Derived.Test.YtjlbpchimjjcpaaDoorSrFn
import Derived.Test.YtjlbpchimjjcpaaDoorProg

set_option maxRecDepth 100000
set_option maxHeartbeats 4000000
namespace Go.Dw.Sr
open Go.Proofs Go.Proofs.Tryd Go.Dw
def hintAt : FuncId → Nat → List Ghost := fun f id =>
  if f = 30 then (if id = 3 then [.keep [4, 10, 11, 12] []] else if id = 6 then [.keep [4, 6, 10, 11, 12, 17, 18] []] else if id = 11 then [.keep [4, 6, 10, 11, 12] []] else if id = 14 then [.keep [4] []] else []) else if f = 42 then (if id = 2 then [.keep [0, 1, 2, 9, 10] []] else if id = 7 then [.keep [0, 1, 2] []] else []) else []
def hints : Hints := { at_ := hintAt, mt := fun _ _ => false, by_ := fun _ _ => false, own := fun f i => false }
theorem eqE_28 (a b : T_api_SourceID) : binT prog .eql 28 (.d a.pd) (.d b.pd) = some (.bool ((a.fNetwork == b.fNetwork) && ((a.fStation == b.fStation) && ((a.fLocation == b.fLocation) && ((a.fChannel == b.fChannel) && true)))), true) := by kernel_rfl

def ext : FuncId → Option CallD := fun f => if f = 34 then some splitD else if f = 33 then some joinD else none
theorem made_Light_ev {a0 : (List Int)} {r : Bool} (h : made_Light a0 = some r) : EvP prog hints ext 7 [.d (.lst (a0.map (PD.int .i64)))] [] (.d (.bool r), []) := by
  refine Ev.body rfl Tryd.func7 rfl (by kernel_rfl) ?_
  refine WC.regionSeq rfl rfl ?_
  refine WO.s0 (v' := .d (.bool false)) rfl rfl (fun _ => rfl) rfl ?_
  refine WO.nil ?_
  refine WC.regionSeq rfl rfl ?_
  refine WO.s0 (v' := .d (.lst (a0.map (PD.int .i64)))) rfl rfl (fun _ => rfl) rfl ?_
  refine WO.s0 (v' := .d (.int .i64 (a0.length : Int))) rfl rfl (fun _ => rfl) (lenMap _ _) ?_
  refine WO.s0 (v' := .d (.bool (decide ((a0.length : Int) ≤ (500 : Int))))) rfl rfl (fun _ => rfl) rfl ?_
  refine WO.s0 (v' := .d (.bool (decide ((a0.length : Int) ≤ (500 : Int))))) rfl rfl (fun _ => rfl) rfl ?_
  refine WO.nil ?_
  refine WC.ret ?_
  obtain rfl := Option.some.inj h
  exact WC.done rfl rfl rfl
theorem source_plain_ev {a0 : Int} {r : Bool} (h : source_plain a0 = some r) : EvP prog hints ext 46 [.d (.int .u8 a0)] [] (.d (.bool r), []) := by
  refine Ev.body rfl Tryd.func46 rfl (by kernel_rfl) ?_
  refine WC.regionSeq rfl rfl ?_
  refine WO.s0 (v' := .d (.bool false)) rfl rfl (fun _ => rfl) rfl ?_
  refine WO.nil ?_
  refine WC.regionSeq rfl rfl ?_
  refine WO.s0 (v' := .d (.int .u8 a0)) rfl rfl (fun _ => rfl) rfl ?_
  refine ite_elim h (fun hb1 h => ?_) (fun hb1 h => ?_)
  · refine WO.s0 (v' := .d (.bool true)) rfl rfl (fun _ => rfl) (congrArg (fun b => RV.d (.bool b)) hb1) ?_
    refine WO.s0 (v' := .d (.bool true)) rfl rfl (fun _ => rfl) rfl ?_
    refine WO.s0 (v' := .d (.int .u8 a0)) rfl rfl (fun _ => rfl) rfl ?_
    refine WO.s0 (v' := .d (.bool (decide (a0 ≤ (90 : Int))))) rfl rfl (fun _ => rfl) rfl ?_
    refine ite_elim h (fun hb2 h => ?_) (fun hb2 h => ?_)
    · refine WO.s0 (v' := .d (.bool true)) rfl rfl (fun _ => rfl) (congrArg (fun b => RV.d (.bool b)) hb2) ?_
      refine WO.s0 (v' := .d (.bool true)) rfl rfl (fun _ => rfl) rfl ?_
      refine WO.skip rfl rfl ?_
      refine WO.skip rfl rfl ?_
      refine WO.skip rfl rfl ?_
      refine WO.skip rfl rfl ?_
      refine WO.skip rfl rfl ?_
      refine WO.skip rfl rfl ?_
      refine WO.s0 (v' := .d (.bool true)) rfl rfl (fun _ => rfl) rfl ?_
      refine WO.s0 (v' := .d (.bool true)) rfl rfl (fun _ => rfl) rfl ?_
      refine WO.nil ?_
      refine WC.ret ?_
      obtain rfl := Option.some.inj h
      exact WC.done rfl rfl rfl
    · refine WO.s0 (v' := .d (.bool false)) rfl rfl (fun _ => rfl) (congrArg (fun b => RV.d (.bool b)) hb2) ?_
      refine WO.s0 (v' := .d (.bool false)) rfl rfl (fun _ => rfl) rfl ?_
      refine WO.s0 (v' := .d (.int .u8 a0)) rfl rfl (fun _ => rfl) rfl ?_
      refine ite_elim h (fun hb3 h => ?_) (fun hb3 h => ?_)
      · refine WO.s0 (v' := .d (.bool true)) rfl rfl (fun _ => rfl) (congrArg (fun b => RV.d (.bool b)) hb3) ?_
        refine WO.s0 (v' := .d (.bool true)) rfl rfl (fun _ => rfl) rfl ?_
        refine WO.s0 (v' := .d (.int .u8 a0)) rfl rfl (fun _ => rfl) rfl ?_
        refine WO.s0 (v' := .d (.bool (decide (a0 ≤ (57 : Int))))) rfl rfl (fun _ => rfl) rfl ?_
        refine WO.s0 (v' := .d (.bool (decide (a0 ≤ (57 : Int))))) rfl rfl (fun _ => rfl) rfl ?_
        refine WO.s0 (v' := .d (.bool (decide (a0 ≤ (57 : Int))))) rfl rfl (fun _ => rfl) rfl ?_
        refine WO.s0 (v' := .d (.bool (decide (a0 ≤ (57 : Int))))) rfl rfl (fun _ => rfl) rfl ?_
        refine WO.nil ?_
        refine WC.ret ?_
        obtain rfl := Option.some.inj h
        exact WC.done rfl rfl rfl
      · refine WO.s0 (v' := .d (.bool false)) rfl rfl (fun _ => rfl) (congrArg (fun b => RV.d (.bool b)) hb3) ?_
        refine WO.s0 (v' := .d (.bool false)) rfl rfl (fun _ => rfl) rfl ?_
        refine WO.skip rfl rfl ?_
        refine WO.skip rfl rfl ?_
        refine WO.s0 (v' := .d (.bool false)) rfl rfl (fun _ => rfl) rfl ?_
        refine WO.s0 (v' := .d (.bool false)) rfl rfl (fun _ => rfl) rfl ?_
        refine WO.s0 (v' := .d (.bool false)) rfl rfl (fun _ => rfl) rfl ?_
        refine WO.nil ?_
        refine WC.ret ?_
        obtain rfl := Option.some.inj h
        exact WC.done rfl rfl rfl
  · refine WO.s0 (v' := .d (.bool false)) rfl rfl (fun _ => rfl) (congrArg (fun b => RV.d (.bool b)) hb1) ?_
    refine WO.s0 (v' := .d (.bool false)) rfl rfl (fun _ => rfl) rfl ?_
    refine WO.skip rfl rfl ?_
    refine WO.skip rfl rfl ?_
    refine WO.s0 (v' := .d (.bool false)) rfl rfl (fun _ => rfl) rfl ?_
    refine WO.s0 (v' := .d (.bool false)) rfl rfl (fun _ => rfl) rfl ?_
    refine WO.s0 (v' := .d (.int .u8 a0)) rfl rfl (fun _ => rfl) rfl ?_
    refine ite_elim h (fun hb4 h => ?_) (fun hb4 h => ?_)
    · refine WO.s0 (v' := .d (.bool true)) rfl rfl (fun _ => rfl) (congrArg (fun b => RV.d (.bool b)) hb4) ?_
      refine WO.s0 (v' := .d (.bool true)) rfl rfl (fun _ => rfl) rfl ?_
      refine WO.s0 (v' := .d (.int .u8 a0)) rfl rfl (fun _ => rfl) rfl ?_
      refine WO.s0 (v' := .d (.bool (decide (a0 ≤ (57 : Int))))) rfl rfl (fun _ => rfl) rfl ?_
      refine WO.s0 (v' := .d (.bool (decide (a0 ≤ (57 : Int))))) rfl rfl (fun _ => rfl) rfl ?_
      refine WO.s0 (v' := .d (.bool (decide (a0 ≤ (57 : Int))))) rfl rfl (fun _ => rfl) rfl ?_
      refine WO.s0 (v' := .d (.bool (decide (a0 ≤ (57 : Int))))) rfl rfl (fun _ => rfl) rfl ?_
      refine WO.nil ?_
      refine WC.ret ?_
      obtain rfl := Option.some.inj h
      exact WC.done rfl rfl rfl
    · refine WO.s0 (v' := .d (.bool false)) rfl rfl (fun _ => rfl) (congrArg (fun b => RV.d (.bool b)) hb4) ?_
      refine WO.s0 (v' := .d (.bool false)) rfl rfl (fun _ => rfl) rfl ?_
      refine WO.skip rfl rfl ?_
      refine WO.skip rfl rfl ?_
      refine WO.s0 (v' := .d (.bool false)) rfl rfl (fun _ => rfl) rfl ?_
      refine WO.s0 (v' := .d (.bool false)) rfl rfl (fun _ => rfl) rfl ?_
      refine WO.s0 (v' := .d (.bool false)) rfl rfl (fun _ => rfl) rfl ?_
      refine WO.nil ?_
      refine WC.ret ?_
      obtain rfl := Option.some.inj h
      exact WC.done rfl rfl rfl
theorem source_code_ev {a0 : (List UInt8)} {a1 : Int} {a2 : Int} {r : Bool} (h : source_code a0 a1 a2 = some r) : EvP prog hints ext 42 [.d (.str a0), .d (.int .i64 a1), .d (.int .i64 a2)] [] (.d (.bool r), []) := by
  refine Ev.body rfl Tryd.func42 rfl (by kernel_rfl) ?_
  refine WC.regionSeq rfl rfl ?_
  refine WO.s0 (v' := .d (.bool false)) rfl rfl (fun _ => rfl) rfl ?_
  refine WO.nil ?_
  refine WC.seq ?_
  refine WC.regionSeq rfl rfl ?_
  refine WO.s0 (v' := .d (.str a0)) rfl rfl (fun _ => rfl) rfl ?_
  refine WO.s0 (v' := .d (.int .i64 (a0.length : Int))) rfl rfl (fun _ => rfl) rfl ?_
  refine WO.s0 (v' := .d (.int .i64 0)) rfl rfl (fun _ => rfl) rfl ?_
  refine WO.nil ?_
  refine bind_elim h (fun o8 ho8 h => ?_)
  refine WC.block (WC.loop (WL.ofLoop ho8 (fun s R' B' => ghosts prog 0 (A R' B') (hints.at_ 42 2) = some (A [(0, .d (.str a0)), (1, .d (.int .i64 a1)), (2, .d (.int .i64 a2)), (9, .d (.int .i64 (a0.length : Int))), (10, .d (.int .i64 s))] [])) (fun o e R' B' => match o with | .inl y => e = .exit 0 ∧ ghosts prog 0 (A R' B') (hints.at_ 42 7) = some (A [(0, .d (.str a0)), (1, .d (.int .i64 a1)), (2, .d (.int .i64 a2))] []) | .inr r => e = .ret ∧ finish prog (hints.own 42) Tryd.f42 0 (A R' B') = some (.d (.bool r), [])) rfl ?_ ?_))
  · rintro s1 R' B' q2 hI h
    refine WC.regionSeq hI rfl ?_
    refine ite_elim h (fun hb3 h => ?_) (fun hb3 h => ?_)
    · refine WO.s0 (v' := .d (.bool true)) rfl rfl (fun _ => rfl) (congrArg (fun b => RV.d (.bool b)) hb3) ?_
      refine WO.nil ?_
      refine WC.seq ?_
      refine WC.condT rfl ?_
      refine WC.skip ?_
      refine WC.seq ?_
      refine WC.block ?_
      refine WC.regionSeq rfl rfl ?_
      refine WO.s0 (v' := .d (.int .i64 s1)) rfl rfl (fun _ => rfl) rfl ?_
      refine WO.s0 (v' := .d (.int .i64 s1)) rfl rfl (fun _ => rfl) rfl ?_
      refine WO.nil ?_
      refine WC.regionSeq rfl rfl ?_
      refine WO.s0 (v' := .d (.str a0)) rfl rfl (fun _ => rfl) rfl ?_
      refine WO.s0 (v' := .d (.int .i64 s1)) rfl rfl (fun _ => rfl) rfl ?_
      refine bind_elim h (fun x4 hx4 h => ?_)
      refine WO.byteG hx4 rfl rfl rfl rfl rfl rfl ?_
      refine bind_elim h (fun x5 hx5 h => ?_)
      refine WO.callR (v := .d (.bool x5)) (u := []) rfl rfl (fun _ => rfl) rfl rfl rfl rfl rfl (source_plain_ev hx5) rfl rfl rfl rfl ?_
      refine ite_elim h (fun hb6 h => ?_) (fun hb6 h => ?_)
      · refine WO.s0 (v' := .d (.bool true)) rfl rfl (fun _ => rfl) (congrArg (fun b => RV.d (.bool b)) hb6) ?_
        refine WO.nil ?_
        refine WC.condT rfl ?_
        refine WC.regionSeq rfl rfl ?_
        refine WO.s0 (v' := .d (.bool false)) rfl rfl (fun _ => rfl) rfl ?_
        refine WO.nil ?_
        refine WC.ret ?_
        obtain rfl := Option.some.inj h
        exact ⟨(fun he => by cases he), rfl, rfl⟩
      · refine WO.s0 (v' := .d (.bool false)) rfl rfl (fun _ => rfl) (congrArg (fun b => RV.d (.bool b)) hb6) ?_
        refine WO.nil ?_
        refine WC.condF rfl ?_
        refine WC.skip ?_
        refine WC.region rfl rfl ?_
        refine WO.s0 (v' := .d (.int .i64 (IntKind.wrap .i64 (s1 + (1 : Int))))) rfl rfl (fun _ => rfl) rfl ?_
        refine WO.s0 (v' := .d (.int .i64 (IntKind.wrap .i64 (s1 + (1 : Int))))) rfl rfl (fun _ => rfl) rfl ?_
        refine WO.nil ?_
        obtain rfl := Option.some.inj h
        exact ⟨rfl, rfl⟩
    · refine WO.s0 (v' := .d (.bool false)) rfl rfl (fun _ => rfl) (congrArg (fun b => RV.d (.bool b)) hb3) ?_
      refine WO.nil ?_
      refine WC.seq ?_
      refine WC.condF rfl ?_
      refine WC.exit ?_
      obtain rfl := Option.some.inj h
      exact ⟨(fun he => by cases he), rfl, rfl⟩
  · intro e R' B' he hq
    rcases o8 with y9 | r10
    · obtain ⟨rfl, hI⟩ := hq
      refine ⟨fun _ => ?_, fun hne => (hne rfl).elim⟩
      refine WC.regionSeq hI rfl ?_
      refine WO.s0 (v' := .d (.str a0)) rfl rfl (fun _ => rfl) rfl ?_
      refine WO.s0 (v' := .d (.int .i64 (a0.length : Int))) rfl rfl (fun _ => rfl) rfl ?_
      refine WO.s0 (v' := .d (.int .i64 a1)) rfl rfl (fun _ => rfl) rfl ?_
      refine ite_elim h (fun hb11 h => ?_) (fun hb11 h => ?_)
      · refine WO.s0 (v' := .d (.bool true)) rfl rfl (fun _ => rfl) (congrArg (fun b => RV.d (.bool b)) hb11) ?_
        refine WO.s0 (v' := .d (.bool true)) rfl rfl (fun _ => rfl) rfl ?_
        refine WO.s0 (v' := .d (.str a0)) rfl rfl (fun _ => rfl) rfl ?_
        refine WO.s0 (v' := .d (.int .i64 (a0.length : Int))) rfl rfl (fun _ => rfl) rfl ?_
        refine WO.s0 (v' := .d (.int .i64 a2)) rfl rfl (fun _ => rfl) rfl ?_
        refine WO.s0 (v' := .d (.bool (decide ((a0.length : Int) ≤ a2)))) rfl rfl (fun _ => rfl) rfl ?_
        refine WO.s0 (v' := .d (.bool (decide ((a0.length : Int) ≤ a2)))) rfl rfl (fun _ => rfl) rfl ?_
        refine WO.s0 (v' := .d (.bool (decide ((a0.length : Int) ≤ a2)))) rfl rfl (fun _ => rfl) rfl ?_
        refine WO.nil ?_
        refine WC.ret ?_
        obtain rfl := Option.some.inj h
        exact WC.done rfl rfl rfl
      · refine WO.s0 (v' := .d (.bool false)) rfl rfl (fun _ => rfl) (congrArg (fun b => RV.d (.bool b)) hb11) ?_
        refine WO.s0 (v' := .d (.bool false)) rfl rfl (fun _ => rfl) rfl ?_
        refine WO.skip rfl rfl ?_
        refine WO.skip rfl rfl ?_
        refine WO.skip rfl rfl ?_
        refine WO.skip rfl rfl ?_
        refine WO.s0 (v' := .d (.bool false)) rfl rfl (fun _ => rfl) rfl ?_
        refine WO.s0 (v' := .d (.bool false)) rfl rfl (fun _ => rfl) rfl ?_
        refine WO.nil ?_
        refine WC.ret ?_
        obtain rfl := Option.some.inj h
        exact WC.done rfl rfl rfl
    · obtain ⟨rfl, hf⟩ := hq
      obtain rfl := Option.some.inj h
      exact hf
theorem source_Valid_ev {a0 : T_api_SourceID} {r : Bool} (h : source_Valid a0 = some r) : EvP prog hints ext 21 [.d (T_api_SourceID.pd a0)] [] (.d (.bool r), []) := by
  refine Ev.body rfl Tryd.func21 rfl (by kernel_rfl) ?_
  refine WC.regionSeq rfl rfl ?_
  refine WO.s1 (v := .ptr 16 0) (id := 16) (bx := .var [.d (.str a0.fNetwork), .d (.str a0.fStation), .d (.str a0.fLocation), .d (.str a0.fChannel)]) rfl rfl (fun _ => rfl) ?_
  refine WO.s0 (v' := .d (.bool false)) rfl rfl (fun _ => rfl) rfl ?_
  refine WO.nil ?_
  refine WC.regionSeq rfl rfl ?_
  refine WO.s0 (v' := .ptr 16 0) rfl rfl (fun _ => rfl) rfl ?_
  refine WO.s0 (v' := .d (.str a0.fNetwork)) rfl rfl (fun _ => rfl) rfl ?_
  refine bind_elim h (fun x1 hx1 h => ?_)
  refine ite_elim h (fun hb2 h => ?_) (fun hb2 h => ?_)
  · refine WO.callR (v := .d (.bool true)) (u := []) rfl rfl (fun _ => rfl) rfl rfl rfl rfl rfl (source_code_ev hx1) rfl rfl (congrArg (fun b => RV.d (.bool b)) hb2) rfl ?_
    refine WO.s0 (v' := .d (.bool true)) rfl rfl (fun _ => rfl) rfl ?_
    refine WO.s0 (v' := .ptr 16 1) rfl rfl (fun _ => rfl) rfl ?_
    refine WO.s0 (v' := .d (.str a0.fStation)) rfl rfl (fun _ => rfl) rfl ?_
    refine bind_elim h (fun x3 hx3 h => ?_)
    refine WO.callR (v := .d (.bool x3)) (u := []) rfl rfl (fun _ => rfl) rfl rfl rfl rfl rfl (source_code_ev hx3) rfl rfl rfl rfl ?_
    refine ite_elim h (fun hb4 h => ?_) (fun hb4 h => ?_)
    · refine WO.s0 (v' := .d (.bool true)) rfl rfl (fun _ => rfl) (congrArg (fun b => RV.d (.bool b)) hb4) ?_
      refine WO.s0 (v' := .d (.bool true)) rfl rfl (fun _ => rfl) rfl ?_
      refine WO.s0 (v' := .ptr 16 2) rfl rfl (fun _ => rfl) rfl ?_
      refine WO.s0 (v' := .d (.str a0.fLocation)) rfl rfl (fun _ => rfl) rfl ?_
      refine bind_elim h (fun x5 hx5 h => ?_)
      refine WO.callR (v := .d (.bool x5)) (u := []) rfl rfl (fun _ => rfl) rfl rfl rfl rfl rfl (source_code_ev hx5) rfl rfl rfl rfl ?_
      refine ite_elim h (fun hb6 h => ?_) (fun hb6 h => ?_)
      · refine WO.s0 (v' := .d (.bool true)) rfl rfl (fun _ => rfl) (congrArg (fun b => RV.d (.bool b)) hb6) ?_
        refine WO.s0 (v' := .d (.bool true)) rfl rfl (fun _ => rfl) rfl ?_
        refine WO.s0 (v' := .ptr 16 2) rfl rfl (fun _ => rfl) rfl ?_
        refine WO.s0 (v' := .d (.str a0.fLocation)) rfl rfl (fun _ => rfl) rfl ?_
        refine WO.s0 (v' := .d (.int .i64 (a0.fLocation.length : Int))) rfl rfl (fun _ => rfl) rfl ?_
        refine WO.s0 (v' := .d (.bool ((a0.fLocation.length : Int) != (1 : Int)))) rfl rfl (fun _ => rfl) rfl ?_
        refine ite_elim h (fun hb7 h => ?_) (fun hb7 h => ?_)
        · refine WO.s0 (v' := .d (.bool true)) rfl rfl (fun _ => rfl) (congrArg (fun b => RV.d (.bool b)) hb7) ?_
          refine WO.s0 (v' := .d (.bool true)) rfl rfl (fun _ => rfl) rfl ?_
          refine WO.s0 (v' := .ptr 16 3) rfl rfl (fun _ => rfl) rfl ?_
          refine WO.s0 (v' := .d (.str a0.fChannel)) rfl rfl (fun _ => rfl) rfl ?_
          refine bind_elim h (fun x8 hx8 h => ?_)
          refine WO.callR (v := .d (.bool x8)) (u := []) rfl rfl (fun _ => rfl) rfl rfl rfl rfl rfl (source_code_ev hx8) rfl rfl rfl rfl ?_
          refine WO.s0 (v' := .d (.bool x8)) rfl rfl (fun _ => rfl) rfl ?_
          refine WO.s0 (v' := .d (.bool x8)) rfl rfl (fun _ => rfl) rfl ?_
          refine WO.nil ?_
          refine WC.ret ?_
          obtain rfl := Option.some.inj h
          exact WC.done rfl rfl rfl
        · refine WO.s0 (v' := .d (.bool false)) rfl rfl (fun _ => rfl) (congrArg (fun b => RV.d (.bool b)) hb7) ?_
          refine WO.s0 (v' := .d (.bool false)) rfl rfl (fun _ => rfl) rfl ?_
          refine WO.skip rfl rfl ?_
          refine WO.skip rfl rfl ?_
          refine WO.skip rfl rfl ?_
          refine WO.s0 (v' := .d (.bool false)) rfl rfl (fun _ => rfl) rfl ?_
          refine WO.s0 (v' := .d (.bool false)) rfl rfl (fun _ => rfl) rfl ?_
          refine WO.nil ?_
          refine WC.ret ?_
          obtain rfl := Option.some.inj h
          exact WC.done rfl rfl rfl
      · refine WO.s0 (v' := .d (.bool false)) rfl rfl (fun _ => rfl) (congrArg (fun b => RV.d (.bool b)) hb6) ?_
        refine WO.s0 (v' := .d (.bool false)) rfl rfl (fun _ => rfl) rfl ?_
        refine WO.skip rfl rfl ?_
        refine WO.skip rfl rfl ?_
        refine WO.skip rfl rfl ?_
        refine WO.skip rfl rfl ?_
        refine WO.s0 (v' := .d (.bool false)) rfl rfl (fun _ => rfl) rfl ?_
        refine WO.s0 (v' := .d (.bool false)) rfl rfl (fun _ => rfl) rfl ?_
        refine WO.skip rfl rfl ?_
        refine WO.skip rfl rfl ?_
        refine WO.skip rfl rfl ?_
        refine WO.s0 (v' := .d (.bool false)) rfl rfl (fun _ => rfl) rfl ?_
        refine WO.s0 (v' := .d (.bool false)) rfl rfl (fun _ => rfl) rfl ?_
        refine WO.nil ?_
        refine WC.ret ?_
        obtain rfl := Option.some.inj h
        exact WC.done rfl rfl rfl
    · refine WO.s0 (v' := .d (.bool false)) rfl rfl (fun _ => rfl) (congrArg (fun b => RV.d (.bool b)) hb4) ?_
      refine WO.s0 (v' := .d (.bool false)) rfl rfl (fun _ => rfl) rfl ?_
      refine WO.skip rfl rfl ?_
      refine WO.skip rfl rfl ?_
      refine WO.skip rfl rfl ?_
      refine WO.s0 (v' := .d (.bool false)) rfl rfl (fun _ => rfl) rfl ?_
      refine WO.s0 (v' := .d (.bool false)) rfl rfl (fun _ => rfl) rfl ?_
      refine WO.skip rfl rfl ?_
      refine WO.skip rfl rfl ?_
      refine WO.skip rfl rfl ?_
      refine WO.skip rfl rfl ?_
      refine WO.s0 (v' := .d (.bool false)) rfl rfl (fun _ => rfl) rfl ?_
      refine WO.s0 (v' := .d (.bool false)) rfl rfl (fun _ => rfl) rfl ?_
      refine WO.skip rfl rfl ?_
      refine WO.skip rfl rfl ?_
      refine WO.skip rfl rfl ?_
      refine WO.s0 (v' := .d (.bool false)) rfl rfl (fun _ => rfl) rfl ?_
      refine WO.s0 (v' := .d (.bool false)) rfl rfl (fun _ => rfl) rfl ?_
      refine WO.nil ?_
      refine WC.ret ?_
      obtain rfl := Option.some.inj h
      exact WC.done rfl rfl rfl
  · refine WO.callR (v := .d (.bool false)) (u := []) rfl rfl (fun _ => rfl) rfl rfl rfl rfl rfl (source_code_ev hx1) rfl rfl (congrArg (fun b => RV.d (.bool b)) hb2) rfl ?_
    refine WO.s0 (v' := .d (.bool false)) rfl rfl (fun _ => rfl) rfl ?_
    refine WO.skip rfl rfl ?_
    refine WO.skip rfl rfl ?_
    refine WO.skip rfl rfl ?_
    refine WO.s0 (v' := .d (.bool false)) rfl rfl (fun _ => rfl) rfl ?_
    refine WO.s0 (v' := .d (.bool false)) rfl rfl (fun _ => rfl) rfl ?_
    refine WO.skip rfl rfl ?_
    refine WO.skip rfl rfl ?_
    refine WO.skip rfl rfl ?_
    refine WO.s0 (v' := .d (.bool false)) rfl rfl (fun _ => rfl) rfl ?_
    refine WO.s0 (v' := .d (.bool false)) rfl rfl (fun _ => rfl) rfl ?_
    refine WO.skip rfl rfl ?_
    refine WO.skip rfl rfl ?_
    refine WO.skip rfl rfl ?_
    refine WO.skip rfl rfl ?_
    refine WO.s0 (v' := .d (.bool false)) rfl rfl (fun _ => rfl) rfl ?_
    refine WO.s0 (v' := .d (.bool false)) rfl rfl (fun _ => rfl) rfl ?_
    refine WO.skip rfl rfl ?_
    refine WO.skip rfl rfl ?_
    refine WO.skip rfl rfl ?_
    refine WO.s0 (v' := .d (.bool false)) rfl rfl (fun _ => rfl) rfl ?_
    refine WO.s0 (v' := .d (.bool false)) rfl rfl (fun _ => rfl) rfl ?_
    refine WO.nil ?_
    refine WC.ret ?_
    obtain rfl := Option.some.inj h
    exact WC.done rfl rfl rfl
theorem source_pattern_ev {a0 : (List UInt8)} {r : (List (List UInt8)) × Bool} (h : source_pattern a0 = some r) : EvP prog hints ext 30 [.d (.str a0)] [] (.tup [.d (.lst (r.1.map PD.str)), .d (.bool r.2)], []) := by
  refine Ev.body rfl Tryd.func30 rfl (by kernel_rfl) ?_
  refine WC.regionSeq rfl rfl ?_
  refine WO.s0 (v' := .nils) rfl rfl (fun _ => rfl) rfl ?_
  refine WO.s0 (v' := .d (.bool false)) rfl rfl (fun _ => rfl) rfl ?_
  refine WO.nil ?_
  refine WC.regionSeq rfl rfl ?_
  refine WO.s0 (v' := .d (.str a0)) rfl rfl (fun _ => rfl) rfl ?_
  refine bind_elim h (fun x1 hx1 h => ?_)
  refine WO.callR (v := .d (.lst (x1.map PD.str))) (u := []) rfl rfl (fun _ => rfl) rfl rfl rfl rfl rfl ((split_ev rfl) hx1) rfl rfl rfl rfl ?_
  refine WO.s0 (v' := .d (.lst (x1.map PD.str))) rfl rfl (fun _ => rfl) rfl ?_
  refine WO.nil ?_
  refine WC.seq ?_
  refine WC.regionSeq rfl rfl ?_
  refine WO.s0 (v' := .d (.lst (x1.map PD.str))) rfl rfl (fun _ => rfl) rfl ?_
  refine WO.s0 (v' := .d (.int .i64 (x1.length : Int))) rfl rfl (fun _ => rfl) (lenMap _ _) ?_
  refine WO.s0 (v' := .d (.int .i64 0)) rfl rfl (fun _ => rfl) rfl ?_
  refine WO.nil ?_
  refine bind_elim h (fun o23 ho23 h => ?_)
  refine WC.block (WC.loop (WL.ofLoop ho23 (fun s R' B' => ghosts prog 0 (A R' B') (hints.at_ 30 3) = some (A [(4, .d (.lst (x1.map PD.str))), (10, .d (.lst (x1.map PD.str))), (11, .d (.int .i64 (x1.length : Int))), (12, .d (.int .i64 s))] [])) (fun o e R' B' => match o with | .inl y => e = .exit 0 ∧ ghosts prog 0 (A R' B') (hints.at_ 30 14) = some (A [(4, .d (.lst (x1.map PD.str)))] []) | .inr r => e = .ret ∧ finish prog (hints.own 30) Tryd.f30 0 (A R' B') = some (.tup [.d (.lst (r.1.map PD.str)), .d (.bool r.2)], [])) rfl ?_ ?_))
  · rintro s2 R' B' q3 hI h
    refine WC.regionSeq hI rfl ?_
    refine ite_elim h (fun hb4 h => ?_) (fun hb4 h => ?_)
    · refine WO.s0 (v' := .d (.bool true)) rfl rfl (fun _ => rfl) (congrArg (fun b => RV.d (.bool b)) hb4) ?_
      refine WO.nil ?_
      refine WC.seq ?_
      refine WC.condT rfl ?_
      refine WC.skip ?_
      refine WC.seq ?_
      refine WC.block ?_
      refine WC.regionSeq rfl rfl ?_
      refine bind_elim h (fun x5 hx5 h => ?_)
      refine WO.elemG hx5 rfl rfl rfl rfl rfl rfl rfl rfl rfl ?_
      refine WO.s0 (v' := .d (.str x5)) rfl rfl (fun _ => rfl) rfl ?_
      refine WO.s0 (v' := .d (.str x5)) rfl rfl (fun _ => rfl) rfl ?_
      refine WO.nil ?_
      refine WC.seq ?_
      refine WC.regionSeq rfl rfl ?_
      refine WO.s0 (v' := .d (.str x5)) rfl rfl (fun _ => rfl) rfl ?_
      refine WO.s0 (v' := .d (.int .i64 (x5.length : Int))) rfl rfl (fun _ => rfl) rfl ?_
      refine WO.s0 (v' := .d (.int .i64 0)) rfl rfl (fun _ => rfl) rfl ?_
      refine WO.nil ?_
      refine bind_elim h (fun o18 ho18 h => ?_)
      refine WC.block (WC.loop (WL.ofLoop ho18 (fun s R' B' => ghosts prog 0 (A R' B') (hints.at_ 30 6) = some (A [(4, .d (.lst (x1.map PD.str))), (6, .d (.str x5)), (10, .d (.lst (x1.map PD.str))), (11, .d (.int .i64 (x1.length : Int))), (12, .d (.int .i64 s2)), (17, .d (.int .i64 (x5.length : Int))), (18, .d (.int .i64 s))] [])) (fun o e R' B' => match o with | .inl y => e = .exit 2 ∧ ghosts prog 0 (A R' B') (hints.at_ 30 11) = some (A [(4, .d (.lst (x1.map PD.str))), (6, .d (.str x5)), (10, .d (.lst (x1.map PD.str))), (11, .d (.int .i64 (x1.length : Int))), (12, .d (.int .i64 y))] []) | .inr r => e = .ret ∧ finish prog (hints.own 30) Tryd.f30 0 (A R' B') = some (.tup [.d (.lst (r.1.map PD.str)), .d (.bool r.2)], [])) rfl ?_ ?_))
      · rintro s6 R' B' q8 hI h
        refine WC.regionSeq hI rfl ?_
        refine ite_elim h (fun hb9 h => ?_) (fun hb9 h => ?_)
        · refine WO.s0 (v' := .d (.bool true)) rfl rfl (fun _ => rfl) (congrArg (fun b => RV.d (.bool b)) hb9) ?_
          refine WO.nil ?_
          refine WC.seq ?_
          refine WC.condT rfl ?_
          refine WC.skip ?_
          refine WC.seq ?_
          refine WC.block ?_
          refine WC.regionSeq rfl rfl ?_
          refine WO.s0 (v' := .d (.int .i64 s6)) rfl rfl (fun _ => rfl) rfl ?_
          refine WO.s0 (v' := .d (.int .i64 s6)) rfl rfl (fun _ => rfl) rfl ?_
          refine WO.nil ?_
          refine WC.regionSeq rfl rfl ?_
          refine WO.s0 (v' := .d (.str x5)) rfl rfl (fun _ => rfl) rfl ?_
          refine WO.s0 (v' := .d (.int .i64 s6)) rfl rfl (fun _ => rfl) rfl ?_
          refine bind_elim h (fun x10 hx10 h => ?_)
          refine WO.byteG hx10 rfl rfl rfl rfl rfl rfl ?_
          refine bind_elim h (fun x11 hx11 h => ?_)
          refine WO.callR (v := .d (.bool x11)) (u := []) rfl rfl (fun _ => rfl) rfl rfl rfl rfl rfl (source_plain_ev hx11) rfl rfl rfl rfl ?_
          refine ite_elim h (fun hb12 h => ?_) (fun hb12 h => ?_)
          · refine WO.s0 (v' := .d (.bool true)) rfl rfl (fun _ => rfl) (congrArg (fun b => RV.d (.bool b)) hb12) ?_
            refine WO.s0 (v' := .d (.bool true)) rfl rfl (fun _ => rfl) rfl ?_
            refine WO.s0 (v' := .d (.str x5)) rfl rfl (fun _ => rfl) rfl ?_
            refine WO.s0 (v' := .d (.int .i64 s6)) rfl rfl (fun _ => rfl) rfl ?_
            refine bind_elim h (fun x13 hx13 h => ?_)
            refine WO.byteG hx13 rfl rfl rfl rfl rfl rfl ?_
            refine WO.s0 (v' := .d (.bool (x13 != (63 : Int)))) rfl rfl (fun _ => rfl) rfl ?_
            refine ite_elim h (fun hb14 h => ?_) (fun hb14 h => ?_)
            · refine WO.s0 (v' := .d (.bool true)) rfl rfl (fun _ => rfl) (congrArg (fun b => RV.d (.bool b)) hb14) ?_
              refine WO.s0 (v' := .d (.bool true)) rfl rfl (fun _ => rfl) rfl ?_
              refine WO.s0 (v' := .d (.str x5)) rfl rfl (fun _ => rfl) rfl ?_
              refine WO.s0 (v' := .d (.int .i64 s6)) rfl rfl (fun _ => rfl) rfl ?_
              refine bind_elim h (fun x15 hx15 h => ?_)
              refine WO.byteG hx15 rfl rfl rfl rfl rfl rfl ?_
              refine WO.s0 (v' := .d (.bool (x15 != (42 : Int)))) rfl rfl (fun _ => rfl) rfl ?_
              refine ite_elim h (fun hb16 h => ?_) (fun hb16 h => ?_)
              · refine WO.s0 (v' := .d (.bool true)) rfl rfl (fun _ => rfl) (congrArg (fun b => RV.d (.bool b)) hb16) ?_
                refine WO.nil ?_
                refine WC.condT rfl ?_
                refine WC.regionSeq rfl rfl ?_
                refine WO.s0 (v' := .nils) rfl rfl (fun _ => rfl) rfl ?_
                refine WO.s0 (v' := .d (.bool false)) rfl rfl (fun _ => rfl) rfl ?_
                refine WO.nil ?_
                refine WC.ret ?_
                obtain rfl := Option.some.inj h
                exact ⟨(fun he => by cases he), rfl, rfl⟩
              · refine WO.s0 (v' := .d (.bool false)) rfl rfl (fun _ => rfl) (congrArg (fun b => RV.d (.bool b)) hb16) ?_
                refine WO.nil ?_
                refine WC.condF rfl ?_
                refine WC.skip ?_
                refine WC.region rfl rfl ?_
                refine WO.s0 (v' := .d (.int .i64 (IntKind.wrap .i64 (s6 + (1 : Int))))) rfl rfl (fun _ => rfl) rfl ?_
                refine WO.s0 (v' := .d (.int .i64 (IntKind.wrap .i64 (s6 + (1 : Int))))) rfl rfl (fun _ => rfl) rfl ?_
                refine WO.nil ?_
                obtain rfl := Option.some.inj h
                exact ⟨rfl, rfl⟩
            · refine WO.s0 (v' := .d (.bool false)) rfl rfl (fun _ => rfl) (congrArg (fun b => RV.d (.bool b)) hb14) ?_
              refine WO.s0 (v' := .d (.bool false)) rfl rfl (fun _ => rfl) rfl ?_
              refine WO.skip rfl rfl ?_
              refine WO.skip rfl rfl ?_
              refine WO.skip rfl rfl ?_
              refine WO.skip rfl rfl ?_
              refine WO.s0 (v' := .d (.bool false)) rfl rfl (fun _ => rfl) rfl ?_
              refine WO.nil ?_
              refine WC.condF rfl ?_
              refine WC.skip ?_
              refine WC.region rfl rfl ?_
              refine WO.s0 (v' := .d (.int .i64 (IntKind.wrap .i64 (s6 + (1 : Int))))) rfl rfl (fun _ => rfl) rfl ?_
              refine WO.s0 (v' := .d (.int .i64 (IntKind.wrap .i64 (s6 + (1 : Int))))) rfl rfl (fun _ => rfl) rfl ?_
              refine WO.nil ?_
              obtain rfl := Option.some.inj h
              exact ⟨rfl, rfl⟩
          · refine WO.s0 (v' := .d (.bool false)) rfl rfl (fun _ => rfl) (congrArg (fun b => RV.d (.bool b)) hb12) ?_
            refine WO.s0 (v' := .d (.bool false)) rfl rfl (fun _ => rfl) rfl ?_
            refine WO.skip rfl rfl ?_
            refine WO.skip rfl rfl ?_
            refine WO.skip rfl rfl ?_
            refine WO.skip rfl rfl ?_
            refine WO.s0 (v' := .d (.bool false)) rfl rfl (fun _ => rfl) rfl ?_
            refine WO.s0 (v' := .d (.bool false)) rfl rfl (fun _ => rfl) rfl ?_
            refine WO.skip rfl rfl ?_
            refine WO.skip rfl rfl ?_
            refine WO.skip rfl rfl ?_
            refine WO.skip rfl rfl ?_
            refine WO.s0 (v' := .d (.bool false)) rfl rfl (fun _ => rfl) rfl ?_
            refine WO.nil ?_
            refine WC.condF rfl ?_
            refine WC.skip ?_
            refine WC.region rfl rfl ?_
            refine WO.s0 (v' := .d (.int .i64 (IntKind.wrap .i64 (s6 + (1 : Int))))) rfl rfl (fun _ => rfl) rfl ?_
            refine WO.s0 (v' := .d (.int .i64 (IntKind.wrap .i64 (s6 + (1 : Int))))) rfl rfl (fun _ => rfl) rfl ?_
            refine WO.nil ?_
            obtain rfl := Option.some.inj h
            exact ⟨rfl, rfl⟩
        · refine WO.s0 (v' := .d (.bool false)) rfl rfl (fun _ => rfl) (congrArg (fun b => RV.d (.bool b)) hb9) ?_
          refine WO.nil ?_
          refine WC.seq ?_
          refine WC.condF rfl ?_
          refine WC.exit ?_
          obtain rfl := Option.some.inj h
          exact ⟨(fun he => by cases he), rfl, rfl⟩
      · intro e R' B' he hq
        rcases o18 with y19 | r20
        · obtain ⟨rfl, hI⟩ := hq
          refine ⟨fun _ => ?_, fun hne => (hne rfl).elim⟩
          refine WC.regionSeq hI rfl ?_
          refine WO.s0 (v' := .d (.str x5)) rfl rfl (fun _ => rfl) rfl ?_
          refine WO.s0 (v' := .d (.int .i64 (x5.length : Int))) rfl rfl (fun _ => rfl) rfl ?_
          refine ite_elim h (fun hb21 h => ?_) (fun hb21 h => ?_)
          · refine WO.s0 (v' := .d (.bool true)) rfl rfl (fun _ => rfl) (congrArg (fun b => RV.d (.bool b)) hb21) ?_
            refine WO.nil ?_
            refine WC.condT rfl ?_
            refine WC.regionSeq rfl rfl ?_
            refine WO.s0 (v' := .nils) rfl rfl (fun _ => rfl) rfl ?_
            refine WO.s0 (v' := .d (.bool false)) rfl rfl (fun _ => rfl) rfl ?_
            refine WO.nil ?_
            refine WC.ret ?_
            obtain rfl := Option.some.inj h
            exact ⟨(fun he => by cases he), rfl, rfl⟩
          · refine WO.s0 (v' := .d (.bool false)) rfl rfl (fun _ => rfl) (congrArg (fun b => RV.d (.bool b)) hb21) ?_
            refine WO.nil ?_
            refine WC.condF rfl ?_
            refine WC.skip ?_
            refine WC.region rfl rfl ?_
            refine WO.s0 (v' := .d (.int .i64 (IntKind.wrap .i64 (y19 + (1 : Int))))) rfl rfl (fun _ => rfl) rfl ?_
            refine WO.s0 (v' := .d (.int .i64 (IntKind.wrap .i64 (y19 + (1 : Int))))) rfl rfl (fun _ => rfl) rfl ?_
            refine WO.nil ?_
            obtain rfl := Option.some.inj h
            exact ⟨rfl, rfl⟩
        · obtain ⟨rfl, hf⟩ := hq
          obtain rfl := Option.some.inj h
          exact ⟨(fun he => by cases he), rfl, hf⟩
    · refine WO.s0 (v' := .d (.bool false)) rfl rfl (fun _ => rfl) (congrArg (fun b => RV.d (.bool b)) hb4) ?_
      refine WO.nil ?_
      refine WC.seq ?_
      refine WC.condF rfl ?_
      refine WC.exit ?_
      obtain rfl := Option.some.inj h
      exact ⟨(fun he => by cases he), rfl, rfl⟩
  · intro e R' B' he hq
    rcases o23 with y24 | r25
    · obtain ⟨rfl, hI⟩ := hq
      refine ⟨fun _ => ?_, fun hne => (hne rfl).elim⟩
      refine WC.regionSeq hI rfl ?_
      refine WO.s0 (v' := .d (.lst (x1.map PD.str))) rfl rfl (fun _ => rfl) rfl ?_
      refine WO.s0 (v' := .d (.lst (x1.map PD.str))) rfl rfl (fun _ => rfl) rfl ?_
      refine WO.s0 (v' := .d (.int .i64 (x1.length : Int))) rfl rfl (fun _ => rfl) (lenMap _ _) ?_
      refine WO.s0 (v' := .d (.bool ((x1.length : Int) == (4 : Int)))) rfl rfl (fun _ => rfl) rfl ?_
      refine WO.s0 (v' := .d (.lst (x1.map PD.str))) rfl rfl (fun _ => rfl) rfl ?_
      refine WO.s0 (v' := .d (.bool ((x1.length : Int) == (4 : Int)))) rfl rfl (fun _ => rfl) rfl ?_
      refine WO.nil ?_
      refine WC.ret ?_
      obtain rfl := Option.some.inj h
      exact WC.done rfl rfl rfl
    · obtain ⟨rfl, hf⟩ := hq
      obtain rfl := Option.some.inj h
      exact hf
theorem source_parts_ev {a0 : T_api_SourceID} {r : A4__List_UInt8_} (h : source_parts a0 = some r) : EvP prog hints ext 32 [.d (T_api_SourceID.pd a0)] [] (.d (A4__List_UInt8_.pd r), []) := by
  refine Ev.body rfl Tryd.func32 rfl (by kernel_rfl) ?_
  refine WC.regionSeq rfl rfl ?_
  refine WO.s1 (v := .ptr 16 0) (id := 16) (bx := .var [.d (.str a0.fNetwork), .d (.str a0.fStation), .d (.str a0.fLocation), .d (.str a0.fChannel)]) rfl rfl (fun _ => rfl) ?_
  refine WO.s1 (v := .ptr 32 0) (id := 32) (bx := .var [.d (.str []), .d (.str []), .d (.str []), .d (.str [])]) rfl rfl (fun _ => rfl) ?_
  refine WO.nil ?_
  refine WC.regionSeq rfl rfl ?_
  refine WO.s0 (v' := .ptr 16 0) rfl rfl (fun _ => rfl) rfl ?_
  refine WO.s0 (v' := .d (.str a0.fNetwork)) rfl rfl (fun _ => rfl) rfl ?_
  refine WO.s0 (v' := .ptr 16 1) rfl rfl (fun _ => rfl) rfl ?_
  refine WO.s0 (v' := .d (.str a0.fStation)) rfl rfl (fun _ => rfl) rfl ?_
  refine WO.s0 (v' := .ptr 16 2) rfl rfl (fun _ => rfl) rfl ?_
  refine WO.s0 (v' := .d (.str a0.fLocation)) rfl rfl (fun _ => rfl) rfl ?_
  refine WO.s0 (v' := .ptr 16 3) rfl rfl (fun _ => rfl) rfl ?_
  refine WO.s0 (v' := .d (.str a0.fChannel)) rfl rfl (fun _ => rfl) rfl ?_
  refine WO.s0 (v' := .d (A4__List_UInt8_.pd (A4__List_UInt8_.mk a0.fNetwork a0.fStation a0.fLocation a0.fChannel))) rfl rfl (fun _ => rfl) rfl ?_
  refine WO.n1 (v := .undef) (id := 32) (bx := .var [.d (.str ((A4__List_UInt8_.mk a0.fNetwork a0.fStation a0.fLocation a0.fChannel).a0)), .d (.str ((A4__List_UInt8_.mk a0.fNetwork a0.fStation a0.fLocation a0.fChannel).a1)), .d (.str ((A4__List_UInt8_.mk a0.fNetwork a0.fStation a0.fLocation a0.fChannel).a2)), .d (.str ((A4__List_UInt8_.mk a0.fNetwork a0.fStation a0.fLocation a0.fChannel).a3))]) rfl rfl (fun _ => rfl) ?_
  refine WO.nil ?_
  refine WC.ret ?_
  obtain rfl := Option.some.inj h
  exact WC.done rfl rfl rfl
theorem source_fitsN_ev : ∀ (nfu : Nat) {a0 : (List UInt8)} {a1 : (List UInt8)} {r : Bool} (_ : source_fitsN nfu a0 a1 = some r), EvP prog hints ext 47 [.d (.str a0), .d (.str a1)] [] (.d (.bool r), [])
  | 0, _, _,  _, h => by cases h
  | nfu + 1, a0, a1,  r, h => by
    refine Ev.body rfl Tryd.func47 rfl (by kernel_rfl) ?_
    refine WC.regionSeq rfl rfl ?_
    refine WO.s0 (v' := .d (.bool false)) rfl rfl (fun _ => rfl) rfl ?_
    refine WO.nil ?_
    refine WC.seq ?_
    refine WC.block ?_
    refine WC.regionSeq rfl rfl ?_
    refine WO.s0 (v' := .d (.str a0)) rfl rfl (fun _ => rfl) rfl ?_
    refine ite_elim h (fun hb1 h => ?_) (fun hb1 h => ?_)
    · refine WO.s0 (v' := .d (.bool true)) rfl rfl (fun _ => rfl) (congrArg (fun b => RV.d (.bool b)) hb1) ?_
      refine WO.s0 (v' := .d (.bool true)) rfl rfl (fun _ => rfl) rfl ?_
      refine WO.nil ?_
      refine WC.condT rfl ?_
      refine WC.regionSeq rfl rfl ?_
      refine WO.s0 (v' := .d (.str a1)) rfl rfl (fun _ => rfl) rfl ?_
      refine WO.s0 (v' := .d (.bool (a1 == []))) rfl rfl (fun _ => rfl) rfl ?_
      refine WO.s0 (v' := .d (.bool (a1 == []))) rfl rfl (fun _ => rfl) rfl ?_
      refine WO.nil ?_
      refine WC.ret ?_
      obtain rfl := Option.some.inj h
      exact WC.done rfl rfl rfl
    · refine WO.s0 (v' := .d (.bool false)) rfl rfl (fun _ => rfl) (congrArg (fun b => RV.d (.bool b)) hb1) ?_
      refine WO.s0 (v' := .d (.bool false)) rfl rfl (fun _ => rfl) rfl ?_
      refine WO.nil ?_
      refine WC.condF rfl ?_
      refine WC.regionSeq rfl rfl ?_
      refine WO.s0 (v' := .d (.str a0)) rfl rfl (fun _ => rfl) rfl ?_
      refine bind_elim h (fun x2 hx2 h => ?_)
      refine WO.byteG hx2 rfl rfl rfl rfl rfl rfl ?_
      refine ite_elim h (fun hb3 h => ?_) (fun hb3 h => ?_)
      · refine WO.s0 (v' := .d (.bool true)) rfl rfl (fun _ => rfl) (congrArg (fun b => RV.d (.bool b)) hb3) ?_
        refine WO.s0 (v' := .d (.bool true)) rfl rfl (fun _ => rfl) rfl ?_
        refine WO.nil ?_
        refine WC.condT rfl ?_
        refine WC.regionSeq rfl rfl ?_
        refine WO.s0 (v' := .d (.str a0)) rfl rfl (fun _ => rfl) rfl ?_
        refine bind_elim h (fun x4 hx4 h => ?_)
        refine WO.cutG hx4 rfl rfl rfl rfl rfl rfl rfl rfl rfl ?_
        refine WO.s0 (v' := .d (.str a1)) rfl rfl (fun _ => rfl) rfl ?_
        refine bind_elim h (fun x5 hx5 h => ?_)
        refine ite_elim h (fun hb6 h => ?_) (fun hb6 h => ?_)
        · refine WO.callR (v := .d (.bool true)) (u := []) rfl rfl (fun _ => rfl) rfl rfl rfl rfl rfl (source_fitsN_ev nfu hx5) rfl rfl (congrArg (fun b => RV.d (.bool b)) hb6) rfl ?_
          refine WO.s0 (v' := .d (.bool true)) rfl rfl (fun _ => rfl) rfl ?_
          refine WO.skip rfl rfl ?_
          refine WO.skip rfl rfl ?_
          refine WO.skip rfl rfl ?_
          refine WO.skip rfl rfl ?_
          refine WO.skip rfl rfl ?_
          refine WO.skip rfl rfl ?_
          refine WO.skip rfl rfl ?_
          refine WO.skip rfl rfl ?_
          refine WO.s0 (v' := .d (.bool true)) rfl rfl (fun _ => rfl) rfl ?_
          refine WO.s0 (v' := .d (.bool true)) rfl rfl (fun _ => rfl) rfl ?_
          refine WO.nil ?_
          refine WC.ret ?_
          obtain rfl := Option.some.inj h
          exact WC.done rfl rfl rfl
        · refine WO.callR (v := .d (.bool false)) (u := []) rfl rfl (fun _ => rfl) rfl rfl rfl rfl rfl (source_fitsN_ev nfu hx5) rfl rfl (congrArg (fun b => RV.d (.bool b)) hb6) rfl ?_
          refine WO.s0 (v' := .d (.bool false)) rfl rfl (fun _ => rfl) rfl ?_
          refine WO.s0 (v' := .d (.str a1)) rfl rfl (fun _ => rfl) rfl ?_
          refine ite_elim h (fun hb7 h => ?_) (fun hb7 h => ?_)
          · refine WO.s0 (v' := .d (.bool true)) rfl rfl (fun _ => rfl) (congrArg (fun b => RV.d (.bool b)) hb7) ?_
            refine WO.s0 (v' := .d (.bool true)) rfl rfl (fun _ => rfl) rfl ?_
            refine WO.s0 (v' := .d (.str a0)) rfl rfl (fun _ => rfl) rfl ?_
            refine WO.s0 (v' := .d (.str a1)) rfl rfl (fun _ => rfl) rfl ?_
            refine bind_elim h (fun x8 hx8 h => ?_)
            refine WO.cutG hx8 rfl rfl rfl rfl rfl rfl rfl rfl rfl ?_
            refine bind_elim h (fun x9 hx9 h => ?_)
            refine WO.callR (v := .d (.bool x9)) (u := []) rfl rfl (fun _ => rfl) rfl rfl rfl rfl rfl (source_fitsN_ev nfu hx9) rfl rfl rfl rfl ?_
            refine WO.s0 (v' := .d (.bool x9)) rfl rfl (fun _ => rfl) rfl ?_
            refine WO.s0 (v' := .d (.bool x9)) rfl rfl (fun _ => rfl) rfl ?_
            refine WO.s0 (v' := .d (.bool x9)) rfl rfl (fun _ => rfl) rfl ?_
            refine WO.nil ?_
            refine WC.ret ?_
            obtain rfl := Option.some.inj h
            exact WC.done rfl rfl rfl
          · refine WO.s0 (v' := .d (.bool false)) rfl rfl (fun _ => rfl) (congrArg (fun b => RV.d (.bool b)) hb7) ?_
            refine WO.s0 (v' := .d (.bool false)) rfl rfl (fun _ => rfl) rfl ?_
            refine WO.skip rfl rfl ?_
            refine WO.skip rfl rfl ?_
            refine WO.skip rfl rfl ?_
            refine WO.skip rfl rfl ?_
            refine WO.s0 (v' := .d (.bool false)) rfl rfl (fun _ => rfl) rfl ?_
            refine WO.s0 (v' := .d (.bool false)) rfl rfl (fun _ => rfl) rfl ?_
            refine WO.s0 (v' := .d (.bool false)) rfl rfl (fun _ => rfl) rfl ?_
            refine WO.nil ?_
            refine WC.ret ?_
            obtain rfl := Option.some.inj h
            exact WC.done rfl rfl rfl
      · refine WO.s0 (v' := .d (.bool false)) rfl rfl (fun _ => rfl) (congrArg (fun b => RV.d (.bool b)) hb3) ?_
        refine WO.s0 (v' := .d (.bool false)) rfl rfl (fun _ => rfl) rfl ?_
        refine WO.nil ?_
        refine WC.condF rfl ?_
        refine WC.skip ?_
        refine WC.regionDSeq rfl rfl ?_
        refine WO.s0 (v' := .d (.str a1)) rfl rfl (fun _ => rfl) rfl ?_
        refine ite_elim h (fun hb10 h => ?_) (fun hb10 h => ?_)
        · refine WO.s0 (v' := .d (.bool true)) rfl rfl (fun _ => rfl) (congrArg (fun b => RV.d (.bool b)) hb10) ?_
          refine WO.s0 (v' := .d (.bool true)) rfl rfl (fun _ => rfl) rfl ?_
          refine WO.s0 (v' := .d (.str a0)) rfl rfl (fun _ => rfl) rfl ?_
          refine bind_elim h (fun x11 hx11 h => ?_)
          refine WO.byteG hx11 rfl rfl rfl rfl rfl rfl ?_
          refine ite_elim h (fun hb12 h => ?_) (fun hb12 h => ?_)
          · refine WO.s0 (v' := .d (.bool true)) rfl rfl (fun _ => rfl) (congrArg (fun b => RV.d (.bool b)) hb12) ?_
            refine WO.s0 (v' := .d (.bool true)) rfl rfl (fun _ => rfl) rfl ?_
            refine WO.skip rfl rfl ?_
            refine WO.skip rfl rfl ?_
            refine WO.skip rfl rfl ?_
            refine WO.skip rfl rfl ?_
            refine WO.skip rfl rfl ?_
            refine WO.s0 (v' := .d (.bool true)) rfl rfl (fun _ => rfl) rfl ?_
            refine WO.s0 (v' := .d (.bool true)) rfl rfl (fun _ => rfl) rfl ?_
            refine WO.s0 (v' := .d (.bool true)) rfl rfl (fun _ => rfl) rfl ?_
            refine WO.s0 (v' := .d (.str a0)) rfl rfl (fun _ => rfl) rfl ?_
            refine bind_elim h (fun x13 hx13 h => ?_)
            refine WO.cutG hx13 rfl rfl rfl rfl rfl rfl rfl rfl rfl ?_
            refine WO.s0 (v' := .d (.str a1)) rfl rfl (fun _ => rfl) rfl ?_
            refine bind_elim h (fun x14 hx14 h => ?_)
            refine WO.cutG hx14 rfl rfl rfl rfl rfl rfl rfl rfl rfl ?_
            refine bind_elim h (fun x15 hx15 h => ?_)
            refine WO.callR (v := .d (.bool x15)) (u := []) rfl rfl (fun _ => rfl) rfl rfl rfl rfl rfl (source_fitsN_ev nfu hx15) rfl rfl rfl rfl ?_
            refine WO.s0 (v' := .d (.bool x15)) rfl rfl (fun _ => rfl) rfl ?_
            refine WO.s0 (v' := .d (.bool x15)) rfl rfl (fun _ => rfl) rfl ?_
            refine WO.nil ⟨by kernel_rfl, ?_⟩
            refine WC.ret ?_
            obtain rfl := Option.some.inj h
            exact WC.done rfl rfl rfl
          · refine WO.s0 (v' := .d (.bool false)) rfl rfl (fun _ => rfl) (congrArg (fun b => RV.d (.bool b)) hb12) ?_
            refine WO.s0 (v' := .d (.bool false)) rfl rfl (fun _ => rfl) rfl ?_
            refine WO.s0 (v' := .d (.str a0)) rfl rfl (fun _ => rfl) rfl ?_
            refine bind_elim h (fun x16 hx16 h => ?_)
            refine WO.byteG hx16 rfl rfl rfl rfl rfl rfl ?_
            refine WO.s0 (v' := .d (.str a1)) rfl rfl (fun _ => rfl) rfl ?_
            refine bind_elim h (fun x17 hx17 h => ?_)
            refine WO.byteG hx17 rfl rfl rfl rfl rfl rfl ?_
            refine WO.s0 (v' := .d (.bool (x16 == x17))) rfl rfl (fun _ => rfl) rfl ?_
            refine WO.s0 (v' := .d (.bool (x16 == x17))) rfl rfl (fun _ => rfl) rfl ?_
            refine ite_elim h (fun hb18 h => ?_) (fun hb18 h => ?_)
            · refine WO.s0 (v' := .d (.bool true)) rfl rfl (fun _ => rfl) (congrArg (fun b => RV.d (.bool b)) hb18) ?_
              refine WO.s0 (v' := .d (.bool true)) rfl rfl (fun _ => rfl) rfl ?_
              refine WO.s0 (v' := .d (.str a0)) rfl rfl (fun _ => rfl) rfl ?_
              refine bind_elim h (fun x19 hx19 h => ?_)
              refine WO.cutG hx19 rfl rfl rfl rfl rfl rfl rfl rfl rfl ?_
              refine WO.s0 (v' := .d (.str a1)) rfl rfl (fun _ => rfl) rfl ?_
              refine bind_elim h (fun x20 hx20 h => ?_)
              refine WO.cutG hx20 rfl rfl rfl rfl rfl rfl rfl rfl rfl ?_
              refine bind_elim h (fun x21 hx21 h => ?_)
              refine WO.callR (v := .d (.bool x21)) (u := []) rfl rfl (fun _ => rfl) rfl rfl rfl rfl rfl (source_fitsN_ev nfu hx21) rfl rfl rfl rfl ?_
              refine WO.s0 (v' := .d (.bool x21)) rfl rfl (fun _ => rfl) rfl ?_
              refine WO.s0 (v' := .d (.bool x21)) rfl rfl (fun _ => rfl) rfl ?_
              refine WO.nil ⟨by kernel_rfl, ?_⟩
              refine WC.ret ?_
              obtain rfl := Option.some.inj h
              exact WC.done rfl rfl rfl
            · refine WO.s0 (v' := .d (.bool false)) rfl rfl (fun _ => rfl) (congrArg (fun b => RV.d (.bool b)) hb18) ?_
              refine WO.s0 (v' := .d (.bool false)) rfl rfl (fun _ => rfl) rfl ?_
              refine WO.skip rfl rfl ?_
              refine WO.skip rfl rfl ?_
              refine WO.skip rfl rfl ?_
              refine WO.skip rfl rfl ?_
              refine WO.skip rfl rfl ?_
              refine WO.s0 (v' := .d (.bool false)) rfl rfl (fun _ => rfl) rfl ?_
              refine WO.s0 (v' := .d (.bool false)) rfl rfl (fun _ => rfl) rfl ?_
              refine WO.nil ⟨by kernel_rfl, ?_⟩
              refine WC.ret ?_
              obtain rfl := Option.some.inj h
              exact WC.done rfl rfl rfl
        · refine WO.s0 (v' := .d (.bool false)) rfl rfl (fun _ => rfl) (congrArg (fun b => RV.d (.bool b)) hb10) ?_
          refine WO.s0 (v' := .d (.bool false)) rfl rfl (fun _ => rfl) rfl ?_
          refine WO.skip rfl rfl ?_
          refine WO.skip rfl rfl ?_
          refine WO.skip rfl rfl ?_
          refine WO.skip rfl rfl ?_
          refine WO.skip rfl rfl ?_
          refine WO.skip rfl rfl ?_
          refine WO.skip rfl rfl ?_
          refine WO.skip rfl rfl ?_
          refine WO.skip rfl rfl ?_
          refine WO.skip rfl rfl ?_
          refine WO.s0 (v' := .d (.bool false)) rfl rfl (fun _ => rfl) rfl ?_
          refine WO.s0 (v' := .d (.bool false)) rfl rfl (fun _ => rfl) rfl ?_
          refine WO.skip rfl rfl ?_
          refine WO.skip rfl rfl ?_
          refine WO.skip rfl rfl ?_
          refine WO.skip rfl rfl ?_
          refine WO.skip rfl rfl ?_
          refine WO.s0 (v' := .d (.bool false)) rfl rfl (fun _ => rfl) rfl ?_
          refine WO.s0 (v' := .d (.bool false)) rfl rfl (fun _ => rfl) rfl ?_
          refine WO.nil ⟨by kernel_rfl, ?_⟩
          refine WC.ret ?_
          obtain rfl := Option.some.inj h
          exact WC.done rfl rfl rfl
theorem source_fits_ev {a0 : (List UInt8)} {a1 : (List UInt8)} {r : Bool} (h : source_fits a0 a1 = some r) : EvP prog hints ext 47 [.d (.str a0), .d (.str a1)] [] (.d (.bool r), []) :=
  let ⟨n, hn⟩ := recO_some h; source_fitsN_ev n hn
theorem source_match_ev {a0 : (List (List UInt8))} {a1 : T_api_SourceID} {r : Bool} (h : source_match a0 a1 = some r) : EvP prog hints ext 31 [.d (.lst (a0.map PD.str)), .d (T_api_SourceID.pd a1)] [] (.d (.bool r), []) := by
  refine Ev.body rfl Tryd.func31 rfl (by kernel_rfl) ?_
  refine WC.regionSeq rfl rfl ?_
  refine WO.s1 (v := .ptr 48 0) (id := 48) (bx := .var [.d (.str a1.fNetwork), .d (.str a1.fStation), .d (.str a1.fLocation), .d (.str a1.fChannel)]) rfl rfl (fun _ => rfl) ?_
  refine WO.s0 (v' := .d (.bool false)) rfl rfl (fun _ => rfl) rfl ?_
  refine WO.nil ?_
  refine WC.seq ?_
  refine WC.regionSeq rfl rfl ?_
  refine WO.s0 (v' := .d (T_api_SourceID.pd a1)) rfl rfl (fun _ => rfl) rfl ?_
  refine bind_elim h (fun x1 hx1 h => ?_)
  refine WO.callR (v := .d (A4__List_UInt8_.pd x1)) (u := []) rfl rfl (fun _ => rfl) rfl rfl rfl rfl rfl (source_parts_ev hx1) rfl rfl rfl rfl ?_
  refine WO.s0 (v' := .d (.int .i64 0)) rfl rfl (fun _ => rfl) rfl ?_
  refine WO.nil ?_
  refine WC.block (WC.loop ?_)
  refine WL.round ?_
  refine WC.regionSeq rfl rfl ?_
  refine WO.s0 (v' := .d (.bool true)) rfl rfl (fun _ => rfl) rfl ?_
  refine WO.nil ?_
  refine WC.seq ?_
  refine WC.condT rfl ?_
  refine WC.skip ?_
  refine WC.seq ?_
  refine WC.block ?_
  refine WC.regionSeq rfl rfl ?_
  refine WO.s0 (v' := .d (.int .i64 0)) rfl rfl (fun _ => rfl) rfl ?_
  refine WO.s0 (v' := .d (.str x1.a0)) rfl rfl (fun _ => rfl) rfl ?_
  refine WO.s0 (v' := .d (.int .i64 0)) rfl rfl (fun _ => rfl) rfl ?_
  refine WO.s0 (v' := .d (.str x1.a0)) rfl rfl (fun _ => rfl) rfl ?_
  refine WO.nil ?_
  refine WC.regionSeq rfl rfl ?_
  refine WO.s0 (v' := .d (.lst (a0.map PD.str))) rfl rfl (fun _ => rfl) rfl ?_
  refine WO.s0 (v' := .d (.int .i64 0)) rfl rfl (fun _ => rfl) rfl ?_
  refine bind_elim h (fun x2 hx2 h => ?_)
  refine WO.elemG hx2 rfl rfl rfl rfl rfl rfl rfl rfl rfl ?_
  refine WO.s0 (v' := .d (.str x2)) rfl rfl (fun _ => rfl) rfl ?_
  refine WO.s0 (v' := .d (.str x1.a0)) rfl rfl (fun _ => rfl) rfl ?_
  refine bind_elim h (fun x3 hx3 h => ?_)
  refine WO.callR (v := .d (.bool x3)) (u := []) rfl rfl (fun _ => rfl) rfl rfl rfl rfl rfl (source_fits_ev hx3) rfl rfl rfl rfl ?_
  refine ite_elim h (fun hb4 h => ?_) (fun hb4 h => ?_)
  · refine WO.s0 (v' := .d (.bool true)) rfl rfl (fun _ => rfl) (congrArg (fun b => RV.d (.bool b)) hb4) ?_
    refine WO.nil ?_
    refine WC.condT rfl ?_
    refine WC.regionSeq rfl rfl ?_
    refine WO.s0 (v' := .d (.bool false)) rfl rfl (fun _ => rfl) rfl ?_
    refine WO.nil ?_
    refine WC.ret ?_
    obtain rfl := Option.some.inj h
    exact WC.done rfl rfl rfl
  · refine WO.s0 (v' := .d (.bool false)) rfl rfl (fun _ => rfl) (congrArg (fun b => RV.d (.bool b)) hb4) ?_
    refine WO.nil ?_
    refine WC.condF rfl ?_
    refine WC.skip ?_
    refine WC.region rfl rfl ?_
    refine WO.s0 (v' := .d (.int .i64 1)) rfl rfl (fun _ => rfl) rfl ?_
    refine WO.s0 (v' := .d (.int .i64 1)) rfl rfl (fun _ => rfl) rfl ?_
    refine WO.nil ?_
    refine WL.round ?_
    refine WC.regionSeq rfl rfl ?_
    refine WO.s0 (v' := .d (.bool true)) rfl rfl (fun _ => rfl) rfl ?_
    refine WO.nil ?_
    refine WC.seq ?_
    refine WC.condT rfl ?_
    refine WC.skip ?_
    refine WC.seq ?_
    refine WC.block ?_
    refine WC.regionSeq rfl rfl ?_
    refine WO.s0 (v' := .d (.int .i64 1)) rfl rfl (fun _ => rfl) rfl ?_
    refine WO.s0 (v' := .d (.str x1.a1)) rfl rfl (fun _ => rfl) rfl ?_
    refine WO.s0 (v' := .d (.int .i64 1)) rfl rfl (fun _ => rfl) rfl ?_
    refine WO.s0 (v' := .d (.str x1.a1)) rfl rfl (fun _ => rfl) rfl ?_
    refine WO.nil ?_
    refine WC.regionSeq rfl rfl ?_
    refine WO.s0 (v' := .d (.lst (a0.map PD.str))) rfl rfl (fun _ => rfl) rfl ?_
    refine WO.s0 (v' := .d (.int .i64 1)) rfl rfl (fun _ => rfl) rfl ?_
    refine bind_elim h (fun x5 hx5 h => ?_)
    refine WO.elemG hx5 rfl rfl rfl rfl rfl rfl rfl rfl rfl ?_
    refine WO.s0 (v' := .d (.str x5)) rfl rfl (fun _ => rfl) rfl ?_
    refine WO.s0 (v' := .d (.str x1.a1)) rfl rfl (fun _ => rfl) rfl ?_
    refine bind_elim h (fun x6 hx6 h => ?_)
    refine WO.callR (v := .d (.bool x6)) (u := []) rfl rfl (fun _ => rfl) rfl rfl rfl rfl rfl (source_fits_ev hx6) rfl rfl rfl rfl ?_
    refine ite_elim h (fun hb7 h => ?_) (fun hb7 h => ?_)
    · refine WO.s0 (v' := .d (.bool true)) rfl rfl (fun _ => rfl) (congrArg (fun b => RV.d (.bool b)) hb7) ?_
      refine WO.nil ?_
      refine WC.condT rfl ?_
      refine WC.regionSeq rfl rfl ?_
      refine WO.s0 (v' := .d (.bool false)) rfl rfl (fun _ => rfl) rfl ?_
      refine WO.nil ?_
      refine WC.ret ?_
      obtain rfl := Option.some.inj h
      exact WC.done rfl rfl rfl
    · refine WO.s0 (v' := .d (.bool false)) rfl rfl (fun _ => rfl) (congrArg (fun b => RV.d (.bool b)) hb7) ?_
      refine WO.nil ?_
      refine WC.condF rfl ?_
      refine WC.skip ?_
      refine WC.region rfl rfl ?_
      refine WO.s0 (v' := .d (.int .i64 2)) rfl rfl (fun _ => rfl) rfl ?_
      refine WO.s0 (v' := .d (.int .i64 2)) rfl rfl (fun _ => rfl) rfl ?_
      refine WO.nil ?_
      refine WL.round ?_
      refine WC.regionSeq rfl rfl ?_
      refine WO.s0 (v' := .d (.bool true)) rfl rfl (fun _ => rfl) rfl ?_
      refine WO.nil ?_
      refine WC.seq ?_
      refine WC.condT rfl ?_
      refine WC.skip ?_
      refine WC.seq ?_
      refine WC.block ?_
      refine WC.regionSeq rfl rfl ?_
      refine WO.s0 (v' := .d (.int .i64 2)) rfl rfl (fun _ => rfl) rfl ?_
      refine WO.s0 (v' := .d (.str x1.a2)) rfl rfl (fun _ => rfl) rfl ?_
      refine WO.s0 (v' := .d (.int .i64 2)) rfl rfl (fun _ => rfl) rfl ?_
      refine WO.s0 (v' := .d (.str x1.a2)) rfl rfl (fun _ => rfl) rfl ?_
      refine WO.nil ?_
      refine WC.regionSeq rfl rfl ?_
      refine WO.s0 (v' := .d (.lst (a0.map PD.str))) rfl rfl (fun _ => rfl) rfl ?_
      refine WO.s0 (v' := .d (.int .i64 2)) rfl rfl (fun _ => rfl) rfl ?_
      refine bind_elim h (fun x8 hx8 h => ?_)
      refine WO.elemG hx8 rfl rfl rfl rfl rfl rfl rfl rfl rfl ?_
      refine WO.s0 (v' := .d (.str x8)) rfl rfl (fun _ => rfl) rfl ?_
      refine WO.s0 (v' := .d (.str x1.a2)) rfl rfl (fun _ => rfl) rfl ?_
      refine bind_elim h (fun x9 hx9 h => ?_)
      refine WO.callR (v := .d (.bool x9)) (u := []) rfl rfl (fun _ => rfl) rfl rfl rfl rfl rfl (source_fits_ev hx9) rfl rfl rfl rfl ?_
      refine ite_elim h (fun hb10 h => ?_) (fun hb10 h => ?_)
      · refine WO.s0 (v' := .d (.bool true)) rfl rfl (fun _ => rfl) (congrArg (fun b => RV.d (.bool b)) hb10) ?_
        refine WO.nil ?_
        refine WC.condT rfl ?_
        refine WC.regionSeq rfl rfl ?_
        refine WO.s0 (v' := .d (.bool false)) rfl rfl (fun _ => rfl) rfl ?_
        refine WO.nil ?_
        refine WC.ret ?_
        obtain rfl := Option.some.inj h
        exact WC.done rfl rfl rfl
      · refine WO.s0 (v' := .d (.bool false)) rfl rfl (fun _ => rfl) (congrArg (fun b => RV.d (.bool b)) hb10) ?_
        refine WO.nil ?_
        refine WC.condF rfl ?_
        refine WC.skip ?_
        refine WC.region rfl rfl ?_
        refine WO.s0 (v' := .d (.int .i64 3)) rfl rfl (fun _ => rfl) rfl ?_
        refine WO.s0 (v' := .d (.int .i64 3)) rfl rfl (fun _ => rfl) rfl ?_
        refine WO.nil ?_
        refine WL.round ?_
        refine WC.regionSeq rfl rfl ?_
        refine WO.s0 (v' := .d (.bool true)) rfl rfl (fun _ => rfl) rfl ?_
        refine WO.nil ?_
        refine WC.seq ?_
        refine WC.condT rfl ?_
        refine WC.skip ?_
        refine WC.seq ?_
        refine WC.block ?_
        refine WC.regionSeq rfl rfl ?_
        refine WO.s0 (v' := .d (.int .i64 3)) rfl rfl (fun _ => rfl) rfl ?_
        refine WO.s0 (v' := .d (.str x1.a3)) rfl rfl (fun _ => rfl) rfl ?_
        refine WO.s0 (v' := .d (.int .i64 3)) rfl rfl (fun _ => rfl) rfl ?_
        refine WO.s0 (v' := .d (.str x1.a3)) rfl rfl (fun _ => rfl) rfl ?_
        refine WO.nil ?_
        refine WC.regionSeq rfl rfl ?_
        refine WO.s0 (v' := .d (.lst (a0.map PD.str))) rfl rfl (fun _ => rfl) rfl ?_
        refine WO.s0 (v' := .d (.int .i64 3)) rfl rfl (fun _ => rfl) rfl ?_
        refine bind_elim h (fun x11 hx11 h => ?_)
        refine WO.elemG hx11 rfl rfl rfl rfl rfl rfl rfl rfl rfl ?_
        refine WO.s0 (v' := .d (.str x11)) rfl rfl (fun _ => rfl) rfl ?_
        refine WO.s0 (v' := .d (.str x1.a3)) rfl rfl (fun _ => rfl) rfl ?_
        refine bind_elim h (fun x12 hx12 h => ?_)
        refine WO.callR (v := .d (.bool x12)) (u := []) rfl rfl (fun _ => rfl) rfl rfl rfl rfl rfl (source_fits_ev hx12) rfl rfl rfl rfl ?_
        refine ite_elim h (fun hb13 h => ?_) (fun hb13 h => ?_)
        · refine WO.s0 (v' := .d (.bool true)) rfl rfl (fun _ => rfl) (congrArg (fun b => RV.d (.bool b)) hb13) ?_
          refine WO.nil ?_
          refine WC.condT rfl ?_
          refine WC.regionSeq rfl rfl ?_
          refine WO.s0 (v' := .d (.bool false)) rfl rfl (fun _ => rfl) rfl ?_
          refine WO.nil ?_
          refine WC.ret ?_
          obtain rfl := Option.some.inj h
          exact WC.done rfl rfl rfl
        · refine WO.s0 (v' := .d (.bool false)) rfl rfl (fun _ => rfl) (congrArg (fun b => RV.d (.bool b)) hb13) ?_
          refine WO.nil ?_
          refine WC.condF rfl ?_
          refine WC.skip ?_
          refine WC.region rfl rfl ?_
          refine WO.s0 (v' := .d (.int .i64 4)) rfl rfl (fun _ => rfl) rfl ?_
          refine WO.s0 (v' := .d (.int .i64 4)) rfl rfl (fun _ => rfl) rfl ?_
          refine WO.nil ?_
          refine WL.round ?_
          refine WC.regionSeq rfl rfl ?_
          refine WO.s0 (v' := .d (.bool false)) rfl rfl (fun _ => rfl) rfl ?_
          refine WO.nil ?_
          refine WC.seq ?_
          refine WC.condF rfl ?_
          refine WC.exit ?_
          refine ⟨fun _ => ?_, fun hne => (hne rfl).elim⟩
          refine WC.regionSeq rfl rfl ?_
          refine WO.s0 (v' := .d (.bool true)) rfl rfl (fun _ => rfl) rfl ?_
          refine WO.nil ?_
          refine WC.ret ?_
          obtain rfl := Option.some.inj h
          exact WC.done rfl rfl rfl
theorem source_Match_ev {a0 : (List UInt8)} {a1 : T_api_SourceID} {r : Bool × Int} (h : source_Match a0 a1 = some r) : EvP prog hints ext 12 [.d (.str a0), .d (T_api_SourceID.pd a1)] [] (.tup [.d (.bool r.1), .d (.int .i64 r.2)], []) := by
  refine Ev.body rfl Tryd.func12 rfl (by kernel_rfl) ?_
  refine WC.regionSeq rfl rfl ?_
  refine WO.s1 (v := .ptr 48 0) (id := 48) (bx := .var [.d (.str a1.fNetwork), .d (.str a1.fStation), .d (.str a1.fLocation), .d (.str a1.fChannel)]) rfl rfl (fun _ => rfl) ?_
  refine WO.s0 (v' := .d (.bool false)) rfl rfl (fun _ => rfl) rfl ?_
  refine WO.s0 (v' := .d (.int .i64 0)) rfl rfl (fun _ => rfl) rfl ?_
  refine WO.nil ?_
  refine WC.regionSeq rfl rfl ?_
  refine WO.s0 (v' := .d (.str a0)) rfl rfl (fun _ => rfl) rfl ?_
  refine bind_elim h (fun x1 hx1 h => ?_)
  refine WO.callR (v := .tup [.d (.lst (x1.1.map PD.str)), .d (.bool x1.2)]) (u := []) rfl rfl (fun _ => rfl) rfl rfl rfl rfl rfl (source_pattern_ev hx1) rfl rfl rfl rfl ?_
  refine WO.s0 (v' := .tup [.d (.lst (x1.1.map PD.str)), .d (.bool x1.2)]) rfl rfl (fun _ => rfl) rfl ?_
  refine WO.s0 (v' := .d (.lst (x1.1.map PD.str))) rfl rfl (fun _ => rfl) rfl ?_
  refine WO.s0 (v' := .d (.bool x1.2)) rfl rfl (fun _ => rfl) rfl ?_
  refine WO.s0 (v' := .d (.lst (x1.1.map PD.str))) rfl rfl (fun _ => rfl) rfl ?_
  refine WO.s0 (v' := .d (.bool x1.2)) rfl rfl (fun _ => rfl) rfl ?_
  refine WO.nil ?_
  refine WC.seq ?_
  refine WC.regionSeq rfl rfl ?_
  refine WO.s0 (v' := .d (.bool x1.2)) rfl rfl (fun _ => rfl) rfl ?_
  refine ite_elim h (fun hb2 h => ?_) (fun hb2 h => ?_)
  · refine WO.s0 (v' := .d (.bool true)) rfl rfl (fun _ => rfl) (congrArg (fun b => RV.d (.bool b)) hb2) ?_
    refine WO.nil ?_
    refine WC.condT rfl ?_
    refine WC.regionSeq rfl rfl ?_
    refine WO.s0 (v' := .d (.bool false)) rfl rfl (fun _ => rfl) rfl ?_
    refine WO.s0 (v' := .d (.int .i64 3)) rfl rfl (fun _ => rfl) rfl ?_
    refine WO.nil ?_
    refine WC.ret ?_
    obtain rfl := Option.some.inj h
    exact WC.done rfl rfl rfl
  · refine WO.s0 (v' := .d (.bool false)) rfl rfl (fun _ => rfl) (congrArg (fun b => RV.d (.bool b)) hb2) ?_
    refine WO.nil ?_
    refine WC.condF rfl ?_
    refine WC.skip ?_
    refine WC.seq ?_
    refine WC.regionSeq rfl rfl ?_
    refine WO.s0 (v' := .d (T_api_SourceID.pd a1)) rfl rfl (fun _ => rfl) rfl ?_
    refine bind_elim h (fun x3 hx3 h => ?_)
    refine WO.callR (v := .d (.bool x3)) (u := []) rfl rfl (fun _ => rfl) rfl rfl rfl rfl rfl (source_Valid_ev hx3) rfl rfl rfl rfl ?_
    refine ite_elim h (fun hb4 h => ?_) (fun hb4 h => ?_)
    · refine WO.s0 (v' := .d (.bool true)) rfl rfl (fun _ => rfl) (congrArg (fun b => RV.d (.bool b)) hb4) ?_
      refine WO.nil ?_
      refine WC.condT rfl ?_
      refine WC.regionSeq rfl rfl ?_
      refine WO.s0 (v' := .d (.bool false)) rfl rfl (fun _ => rfl) rfl ?_
      refine WO.s0 (v' := .d (.int .i64 1)) rfl rfl (fun _ => rfl) rfl ?_
      refine WO.nil ?_
      refine WC.ret ?_
      obtain rfl := Option.some.inj h
      exact WC.done rfl rfl rfl
    · refine WO.s0 (v' := .d (.bool false)) rfl rfl (fun _ => rfl) (congrArg (fun b => RV.d (.bool b)) hb4) ?_
      refine WO.nil ?_
      refine WC.condF rfl ?_
      refine WC.skip ?_
      refine WC.regionSeq rfl rfl ?_
      refine WO.s0 (v' := .d (.lst (x1.1.map PD.str))) rfl rfl (fun _ => rfl) rfl ?_
      refine WO.s0 (v' := .d (T_api_SourceID.pd a1)) rfl rfl (fun _ => rfl) rfl ?_
      refine bind_elim h (fun x5 hx5 h => ?_)
      refine WO.callR (v := .d (.bool x5)) (u := []) rfl rfl (fun _ => rfl) rfl rfl rfl rfl rfl (source_match_ev hx5) rfl rfl rfl rfl ?_
      refine WO.s0 (v' := .d (.bool x5)) rfl rfl (fun _ => rfl) rfl ?_
      refine WO.s0 (v' := .d (.int .i64 0)) rfl rfl (fun _ => rfl) rfl ?_
      refine WO.nil ?_
      refine WC.ret ?_
      obtain rfl := Option.some.inj h
      exact WC.done rfl rfl rfl
theorem source_Parse_ev {a0 : (List UInt8)} {r : T_api_SourceID × Int} (h : source_Parse a0 = some r) : EvP prog hints ext 15 [.d (.str a0)] [] (.tup [.d (T_api_SourceID.pd r.1), .d (.int .i64 r.2)], []) := by
  refine Ev.body rfl Tryd.func15 rfl (by kernel_rfl) ?_
  refine WC.regionSeq rfl rfl ?_
  refine WO.s1 (v := .ptr 32 0) (id := 32) (bx := .var [.d (.str []), .d (.str []), .d (.str []), .d (.str [])]) rfl rfl (fun _ => rfl) ?_
  refine WO.s0 (v' := .d (.int .i64 0)) rfl rfl (fun _ => rfl) rfl ?_
  refine WO.nil ?_
  refine WC.regionSeq rfl rfl ?_
  refine WO.s0 (v' := .d (.str a0)) rfl rfl (fun _ => rfl) rfl ?_
  refine bind_elim h (fun x1 hx1 h => ?_)
  refine WO.callR (v := .d (.lst (x1.map PD.str))) (u := []) rfl rfl (fun _ => rfl) rfl rfl rfl rfl rfl ((split_ev rfl) hx1) rfl rfl rfl rfl ?_
  refine WO.s0 (v' := .d (.lst (x1.map PD.str))) rfl rfl (fun _ => rfl) rfl ?_
  refine WO.nil ?_
  refine WC.seq ?_
  refine WC.regionSeq rfl rfl ?_
  refine WO.s0 (v' := .d (.lst (x1.map PD.str))) rfl rfl (fun _ => rfl) rfl ?_
  refine WO.s0 (v' := .d (.int .i64 (x1.length : Int))) rfl rfl (fun _ => rfl) (lenMap _ _) ?_
  refine ite_elim h (fun hb2 h => ?_) (fun hb2 h => ?_)
  · refine WO.s0 (v' := .d (.bool true)) rfl rfl (fun _ => rfl) (congrArg (fun b => RV.d (.bool b)) hb2) ?_
    refine WO.nil ?_
    refine WC.condT rfl ?_
    refine WC.regionSeq rfl rfl ?_
    refine WO.s0 (v' := .d (T_api_SourceID.pd (T_api_SourceID.mk [] [] [] []))) rfl rfl (fun _ => rfl) rfl ?_
    refine WO.n1 (v := .undef) (id := 32) (bx := .var [.d (.str ((T_api_SourceID.mk [] [] [] []).fNetwork)), .d (.str ((T_api_SourceID.mk [] [] [] []).fStation)), .d (.str ((T_api_SourceID.mk [] [] [] []).fLocation)), .d (.str ((T_api_SourceID.mk [] [] [] []).fChannel))]) rfl rfl (fun _ => rfl) ?_
    refine WO.s0 (v' := .d (.int .i64 3)) rfl rfl (fun _ => rfl) rfl ?_
    refine WO.nil ?_
    refine WC.ret ?_
    obtain rfl := Option.some.inj h
    exact WC.done rfl rfl rfl
  · refine WO.s0 (v' := .d (.bool false)) rfl rfl (fun _ => rfl) (congrArg (fun b => RV.d (.bool b)) hb2) ?_
    refine WO.nil ?_
    refine WC.condF rfl ?_
    refine WC.skip ?_
    refine WC.regionDSeq rfl rfl ?_
    refine WO.s0 (v' := .d (.lst (x1.map PD.str))) rfl rfl (fun _ => rfl) rfl ?_
    refine bind_elim h (fun x3 hx3 h => ?_)
    refine WO.elemG hx3 rfl rfl rfl rfl rfl rfl rfl rfl rfl ?_
    refine WO.s0 (v' := .d (.str x3)) rfl rfl (fun _ => rfl) rfl ?_
    refine WO.s0 (v' := .d (.lst (x1.map PD.str))) rfl rfl (fun _ => rfl) rfl ?_
    refine bind_elim h (fun x4 hx4 h => ?_)
    refine WO.elemG hx4 rfl rfl rfl rfl rfl rfl rfl rfl rfl ?_
    refine WO.s0 (v' := .d (.str x4)) rfl rfl (fun _ => rfl) rfl ?_
    refine WO.s0 (v' := .d (.lst (x1.map PD.str))) rfl rfl (fun _ => rfl) rfl ?_
    refine bind_elim h (fun x5 hx5 h => ?_)
    refine WO.elemG hx5 rfl rfl rfl rfl rfl rfl rfl rfl rfl ?_
    refine WO.s0 (v' := .d (.str x5)) rfl rfl (fun _ => rfl) rfl ?_
    refine WO.s0 (v' := .d (.lst (x1.map PD.str))) rfl rfl (fun _ => rfl) rfl ?_
    refine bind_elim h (fun x6 hx6 h => ?_)
    refine WO.elemG hx6 rfl rfl rfl rfl rfl rfl rfl rfl rfl ?_
    refine WO.s0 (v' := .d (.str x6)) rfl rfl (fun _ => rfl) rfl ?_
    refine WO.s0 (v' := .d (T_api_SourceID.pd (T_api_SourceID.mk x3 x4 x5 x6))) rfl rfl (fun _ => rfl) rfl ?_
    refine WO.s1 (v := .ptr 80 0) (id := 80) (bx := .var [.d (.str []), .d (.str []), .d (.str []), .d (.str [])]) rfl rfl (fun _ => rfl) ?_
    refine WO.n1 (v := .undef) (id := 80) (bx := .var [.d (.str ((T_api_SourceID.mk x3 x4 x5 x6).fNetwork)), .d (.str ((T_api_SourceID.mk x3 x4 x5 x6).fStation)), .d (.str ((T_api_SourceID.mk x3 x4 x5 x6).fLocation)), .d (.str ((T_api_SourceID.mk x3 x4 x5 x6).fChannel))]) rfl rfl (fun _ => rfl) ?_
    refine WO.nil ⟨by kernel_rfl, ?_⟩
    refine WC.seq ?_
    refine WC.regionSeq rfl rfl ?_
    refine WO.s0 (v' := .d (T_api_SourceID.pd (T_api_SourceID.mk x3 x4 x5 x6))) rfl rfl (fun _ => rfl) rfl ?_
    refine bind_elim h (fun x7 hx7 h => ?_)
    refine WO.callR (v := .d (.bool x7)) (u := []) rfl rfl (fun _ => rfl) rfl rfl rfl rfl rfl (source_Valid_ev hx7) rfl rfl rfl rfl ?_
    refine ite_elim h (fun hb8 h => ?_) (fun hb8 h => ?_)
    · refine WO.s0 (v' := .d (.bool true)) rfl rfl (fun _ => rfl) (congrArg (fun b => RV.d (.bool b)) hb8) ?_
      refine WO.nil ?_
      refine WC.condT rfl ?_
      refine WC.regionSeq rfl rfl ?_
      refine WO.s0 (v' := .d (T_api_SourceID.pd (T_api_SourceID.mk [] [] [] []))) rfl rfl (fun _ => rfl) rfl ?_
      refine WO.n1 (v := .undef) (id := 32) (bx := .var [.d (.str ((T_api_SourceID.mk [] [] [] []).fNetwork)), .d (.str ((T_api_SourceID.mk [] [] [] []).fStation)), .d (.str ((T_api_SourceID.mk [] [] [] []).fLocation)), .d (.str ((T_api_SourceID.mk [] [] [] []).fChannel))]) rfl rfl (fun _ => rfl) ?_
      refine WO.s0 (v' := .d (.int .i64 3)) rfl rfl (fun _ => rfl) rfl ?_
      refine WO.nil ?_
      refine WC.ret ?_
      obtain rfl := Option.some.inj h
      exact WC.done rfl rfl rfl
    · refine WO.s0 (v' := .d (.bool false)) rfl rfl (fun _ => rfl) (congrArg (fun b => RV.d (.bool b)) hb8) ?_
      refine WO.nil ?_
      refine WC.condF rfl ?_
      refine WC.skip ?_
      refine WC.regionSeq rfl rfl ?_
      refine WO.s0 (v' := .d (T_api_SourceID.pd (T_api_SourceID.mk x3 x4 x5 x6))) rfl rfl (fun _ => rfl) rfl ?_
      refine WO.n1 (v := .undef) (id := 32) (bx := .var [.d (.str ((T_api_SourceID.mk x3 x4 x5 x6).fNetwork)), .d (.str ((T_api_SourceID.mk x3 x4 x5 x6).fStation)), .d (.str ((T_api_SourceID.mk x3 x4 x5 x6).fLocation)), .d (.str ((T_api_SourceID.mk x3 x4 x5 x6).fChannel))]) rfl rfl (fun _ => rfl) ?_
      refine WO.s0 (v' := .d (.int .i64 0)) rfl rfl (fun _ => rfl) rfl ?_
      refine WO.nil ?_
      refine WC.ret ?_
      obtain rfl := Option.some.inj h
      exact WC.done rfl rfl rfl
theorem law03_sane_ev  {r : Bool} (h : law03_sane = some r) : EvP prog hints ext 8 [] [] (.d (.bool r), []) := by
  refine Ev.body rfl Tryd.func8 rfl (by kernel_rfl) ?_
  refine WC.regionSeq rfl rfl ?_
  refine WO.s0 (v' := .d (.bool false)) rfl rfl (fun _ => rfl) rfl ?_
  refine WO.nil ?_
  refine WC.regionSeq rfl rfl ?_
  refine bind_elim h (fun x1 hx1 h => ?_)
  refine WO.callR (v := .tup [.d (T_api_SourceID.pd x1.1), .d (.int .i64 x1.2)]) (u := []) rfl rfl (fun _ => rfl) rfl rfl rfl rfl rfl (source_Parse_ev hx1) rfl rfl rfl rfl ?_
  refine WO.s0 (v' := .tup [.d (T_api_SourceID.pd x1.1), .d (.int .i64 x1.2)]) rfl rfl (fun _ => rfl) rfl ?_
  refine WO.s0 (v' := .d (T_api_SourceID.pd x1.1)) rfl rfl (fun _ => rfl) rfl ?_
  refine WO.s0 (v' := .d (.int .i64 x1.2)) rfl rfl (fun _ => rfl) rfl ?_
  refine WO.s1 (v := .ptr 16 0) (id := 16) (bx := .var [.d (.str []), .d (.str []), .d (.str []), .d (.str [])]) rfl rfl (fun _ => rfl) ?_
  refine WO.n1 (v := .undef) (id := 16) (bx := .var [.d (.str x1.1.fNetwork), .d (.str x1.1.fStation), .d (.str x1.1.fLocation), .d (.str x1.1.fChannel)]) rfl rfl (fun _ => rfl) ?_
  refine WO.s0 (v' := .d (.int .i64 x1.2)) rfl rfl (fun _ => rfl) rfl ?_
  refine WO.nil ?_
  refine WC.regionSeq rfl rfl ?_
  refine WO.s0 (v' := .d (T_api_SourceID.pd x1.1)) rfl rfl (fun _ => rfl) rfl ?_
  refine bind_elim h (fun x2 hx2 h => ?_)
  refine WO.callR (v := .tup [.d (.bool x2.1), .d (.int .i64 x2.2)]) (u := []) rfl rfl (fun _ => rfl) rfl rfl rfl rfl rfl (source_Match_ev hx2) rfl rfl rfl rfl ?_
  refine WO.s0 (v' := .tup [.d (.bool x2.1), .d (.int .i64 x2.2)]) rfl rfl (fun _ => rfl) rfl ?_
  refine WO.s0 (v' := .d (.bool x2.1)) rfl rfl (fun _ => rfl) rfl ?_
  refine WO.s0 (v' := .d (.int .i64 x2.2)) rfl rfl (fun _ => rfl) rfl ?_
  refine WO.s0 (v' := .d (.bool x2.1)) rfl rfl (fun _ => rfl) rfl ?_
  refine WO.s0 (v' := .d (.int .i64 x2.2)) rfl rfl (fun _ => rfl) rfl ?_
  refine WO.nil ?_
  refine WC.regionSeq rfl rfl ?_
  refine WO.s0 (v' := .d (T_api_SourceID.pd x1.1)) rfl rfl (fun _ => rfl) rfl ?_
  refine bind_elim h (fun x3 hx3 h => ?_)
  refine WO.callR (v := .tup [.d (.bool x3.1), .d (.int .i64 x3.2)]) (u := []) rfl rfl (fun _ => rfl) rfl rfl rfl rfl rfl (source_Match_ev hx3) rfl rfl rfl rfl ?_
  refine WO.s0 (v' := .tup [.d (.bool x3.1), .d (.int .i64 x3.2)]) rfl rfl (fun _ => rfl) rfl ?_
  refine WO.s0 (v' := .d (.bool x3.1)) rfl rfl (fun _ => rfl) rfl ?_
  refine WO.s0 (v' := .d (.int .i64 x3.2)) rfl rfl (fun _ => rfl) rfl ?_
  refine WO.s0 (v' := .d (.bool x3.1)) rfl rfl (fun _ => rfl) rfl ?_
  refine WO.s0 (v' := .d (.int .i64 x3.2)) rfl rfl (fun _ => rfl) rfl ?_
  refine WO.nil ?_
  refine WC.regionSeq rfl rfl ?_
  refine WO.s0 (v' := .d (.int .i64 x1.2)) rfl rfl (fun _ => rfl) rfl ?_
  refine ite_elim h (fun hb4 h => ?_) (fun hb4 h => ?_)
  · refine WO.s0 (v' := .d (.bool true)) rfl rfl (fun _ => rfl) (congrArg (fun b => RV.d (.bool b)) hb4) ?_
    refine WO.s0 (v' := .d (.bool true)) rfl rfl (fun _ => rfl) rfl ?_
    refine WO.s0 (v' := .d (T_api_SourceID.pd x1.1)) rfl rfl (fun _ => rfl) rfl ?_
    refine WO.s0 (v' := .d (T_api_SourceID.pd (T_api_SourceID.mk [71, 82] [70, 85, 82] [] [72, 72, 90]))) rfl rfl (fun _ => rfl) rfl ?_
    refine WO.bin (eqE_28 x1.1 (T_api_SourceID.mk [71, 82] [70, 85, 82] [] [72, 72, 90])) rfl rfl rfl rfl rfl ?_
    refine ite_elim h (fun hb5 h => ?_) (fun hb5 h => ?_)
    · refine WO.s0 (v' := .d (.bool true)) rfl rfl (fun _ => rfl) (congrArg (fun b => RV.d (.bool b)) hb5) ?_
      refine WO.s0 (v' := .d (.bool true)) rfl rfl (fun _ => rfl) rfl ?_
      refine WO.s0 (v' := .d (.int .i64 x2.2)) rfl rfl (fun _ => rfl) rfl ?_
      refine WO.s0 (v' := .d (.bool (x2.2 == (0 : Int)))) rfl rfl (fun _ => rfl) rfl ?_
      refine ite_elim h (fun hb6 h => ?_) (fun hb6 h => ?_)
      · refine WO.s0 (v' := .d (.bool true)) rfl rfl (fun _ => rfl) (congrArg (fun b => RV.d (.bool b)) hb6) ?_
        refine WO.s0 (v' := .d (.bool true)) rfl rfl (fun _ => rfl) rfl ?_
        refine WO.s0 (v' := .d (.int .i64 x3.2)) rfl rfl (fun _ => rfl) rfl ?_
        refine WO.s0 (v' := .d (.bool (x3.2 == (0 : Int)))) rfl rfl (fun _ => rfl) rfl ?_
        refine ite_elim h (fun hb7 h => ?_) (fun hb7 h => ?_)
        · refine WO.s0 (v' := .d (.bool true)) rfl rfl (fun _ => rfl) (congrArg (fun b => RV.d (.bool b)) hb7) ?_
          refine WO.s0 (v' := .d (.bool true)) rfl rfl (fun _ => rfl) rfl ?_
          refine WO.s0 (v' := .d (.bool x2.1)) rfl rfl (fun _ => rfl) rfl ?_
          refine ite_elim h (fun hb8 h => ?_) (fun hb8 h => ?_)
          · refine WO.s0 (v' := .d (.bool true)) rfl rfl (fun _ => rfl) (congrArg (fun b => RV.d (.bool b)) hb8) ?_
            refine WO.s0 (v' := .d (.bool true)) rfl rfl (fun _ => rfl) rfl ?_
            refine WO.s0 (v' := .d (.bool x3.1)) rfl rfl (fun _ => rfl) rfl ?_
            refine WO.s0 (v' := .d (.bool (!x3.1))) rfl rfl (fun _ => rfl) rfl ?_
            refine WO.s0 (v' := .d (.bool (!x3.1))) rfl rfl (fun _ => rfl) rfl ?_
            refine WO.s0 (v' := .d (.bool (!x3.1))) rfl rfl (fun _ => rfl) rfl ?_
            refine WO.nil ?_
            refine WC.ret ?_
            obtain rfl := Option.some.inj h
            exact WC.done rfl rfl rfl
          · refine WO.s0 (v' := .d (.bool false)) rfl rfl (fun _ => rfl) (congrArg (fun b => RV.d (.bool b)) hb8) ?_
            refine WO.s0 (v' := .d (.bool false)) rfl rfl (fun _ => rfl) rfl ?_
            refine WO.skip rfl rfl ?_
            refine WO.skip rfl rfl ?_
            refine WO.s0 (v' := .d (.bool false)) rfl rfl (fun _ => rfl) rfl ?_
            refine WO.s0 (v' := .d (.bool false)) rfl rfl (fun _ => rfl) rfl ?_
            refine WO.nil ?_
            refine WC.ret ?_
            obtain rfl := Option.some.inj h
            exact WC.done rfl rfl rfl
        · refine WO.s0 (v' := .d (.bool false)) rfl rfl (fun _ => rfl) (congrArg (fun b => RV.d (.bool b)) hb7) ?_
          refine WO.s0 (v' := .d (.bool false)) rfl rfl (fun _ => rfl) rfl ?_
          refine WO.skip rfl rfl ?_
          refine WO.s0 (v' := .d (.bool false)) rfl rfl (fun _ => rfl) rfl ?_
          refine WO.s0 (v' := .d (.bool false)) rfl rfl (fun _ => rfl) rfl ?_
          refine WO.skip rfl rfl ?_
          refine WO.skip rfl rfl ?_
          refine WO.s0 (v' := .d (.bool false)) rfl rfl (fun _ => rfl) rfl ?_
          refine WO.s0 (v' := .d (.bool false)) rfl rfl (fun _ => rfl) rfl ?_
          refine WO.nil ?_
          refine WC.ret ?_
          obtain rfl := Option.some.inj h
          exact WC.done rfl rfl rfl
      · refine WO.s0 (v' := .d (.bool false)) rfl rfl (fun _ => rfl) (congrArg (fun b => RV.d (.bool b)) hb6) ?_
        refine WO.s0 (v' := .d (.bool false)) rfl rfl (fun _ => rfl) rfl ?_
        refine WO.skip rfl rfl ?_
        refine WO.skip rfl rfl ?_
        refine WO.s0 (v' := .d (.bool false)) rfl rfl (fun _ => rfl) rfl ?_
        refine WO.s0 (v' := .d (.bool false)) rfl rfl (fun _ => rfl) rfl ?_
        refine WO.skip rfl rfl ?_
        refine WO.s0 (v' := .d (.bool false)) rfl rfl (fun _ => rfl) rfl ?_
        refine WO.s0 (v' := .d (.bool false)) rfl rfl (fun _ => rfl) rfl ?_
        refine WO.skip rfl rfl ?_
        refine WO.skip rfl rfl ?_
        refine WO.s0 (v' := .d (.bool false)) rfl rfl (fun _ => rfl) rfl ?_
        refine WO.s0 (v' := .d (.bool false)) rfl rfl (fun _ => rfl) rfl ?_
        refine WO.nil ?_
        refine WC.ret ?_
        obtain rfl := Option.some.inj h
        exact WC.done rfl rfl rfl
    · refine WO.s0 (v' := .d (.bool false)) rfl rfl (fun _ => rfl) (congrArg (fun b => RV.d (.bool b)) hb5) ?_
      refine WO.s0 (v' := .d (.bool false)) rfl rfl (fun _ => rfl) rfl ?_
      refine WO.skip rfl rfl ?_
      refine WO.skip rfl rfl ?_
      refine WO.s0 (v' := .d (.bool false)) rfl rfl (fun _ => rfl) rfl ?_
      refine WO.s0 (v' := .d (.bool false)) rfl rfl (fun _ => rfl) rfl ?_
      refine WO.skip rfl rfl ?_
      refine WO.skip rfl rfl ?_
      refine WO.s0 (v' := .d (.bool false)) rfl rfl (fun _ => rfl) rfl ?_
      refine WO.s0 (v' := .d (.bool false)) rfl rfl (fun _ => rfl) rfl ?_
      refine WO.skip rfl rfl ?_
      refine WO.s0 (v' := .d (.bool false)) rfl rfl (fun _ => rfl) rfl ?_
      refine WO.s0 (v' := .d (.bool false)) rfl rfl (fun _ => rfl) rfl ?_
      refine WO.skip rfl rfl ?_
      refine WO.skip rfl rfl ?_
      refine WO.s0 (v' := .d (.bool false)) rfl rfl (fun _ => rfl) rfl ?_
      refine WO.s0 (v' := .d (.bool false)) rfl rfl (fun _ => rfl) rfl ?_
      refine WO.nil ?_
      refine WC.ret ?_
      obtain rfl := Option.some.inj h
      exact WC.done rfl rfl rfl
  · refine WO.s0 (v' := .d (.bool false)) rfl rfl (fun _ => rfl) (congrArg (fun b => RV.d (.bool b)) hb4) ?_
    refine WO.s0 (v' := .d (.bool false)) rfl rfl (fun _ => rfl) rfl ?_
    refine WO.skip rfl rfl ?_
    refine WO.skip rfl rfl ?_
    refine WO.skip rfl rfl ?_
    refine WO.s0 (v' := .d (.bool false)) rfl rfl (fun _ => rfl) rfl ?_
    refine WO.s0 (v' := .d (.bool false)) rfl rfl (fun _ => rfl) rfl ?_
    refine WO.skip rfl rfl ?_
    refine WO.skip rfl rfl ?_
    refine WO.s0 (v' := .d (.bool false)) rfl rfl (fun _ => rfl) rfl ?_
    refine WO.s0 (v' := .d (.bool false)) rfl rfl (fun _ => rfl) rfl ?_
    refine WO.skip rfl rfl ?_
    refine WO.skip rfl rfl ?_
    refine WO.s0 (v' := .d (.bool false)) rfl rfl (fun _ => rfl) rfl ?_
    refine WO.s0 (v' := .d (.bool false)) rfl rfl (fun _ => rfl) rfl ?_
    refine WO.skip rfl rfl ?_
    refine WO.s0 (v' := .d (.bool false)) rfl rfl (fun _ => rfl) rfl ?_
    refine WO.s0 (v' := .d (.bool false)) rfl rfl (fun _ => rfl) rfl ?_
    refine WO.skip rfl rfl ?_
    refine WO.skip rfl rfl ?_
    refine WO.s0 (v' := .d (.bool false)) rfl rfl (fun _ => rfl) rfl ?_
    refine WO.s0 (v' := .d (.bool false)) rfl rfl (fun _ => rfl) rfl ?_
    refine WO.nil ?_
    refine WC.ret ?_
    obtain rfl := Option.some.inj h
    exact WC.done rfl rfl rfl
theorem made_Roll_ev {a0 : (List Int)} {r : T_seismonetmade_Dice} (h : made_Roll a0 = some r) : EvP prog hints ext 9 [.d (.lst (a0.map (PD.int .i64)))] [] (.ptr 0 0, [.var [.d (.lst (r.fL.map (PD.int .i64))), .d (.int .i64 r.fAt)]]) := by
  refine Ev.body rfl Tryd.func9 rfl (by kernel_rfl) ?_
  refine WC.regionSeq rfl rfl ?_
  refine WO.s0 (v' := .d (.raw (.pointer none))) rfl rfl (fun _ => rfl) rfl ?_
  refine WO.nil ?_
  refine WC.regionSeq rfl rfl ?_
  refine WO.s0 (v' := .d (.lst (a0.map (PD.int .i64)))) rfl rfl (fun _ => rfl) rfl ?_
  refine WO.s0 (v' := .d (T_seismonetmade_Dice.pd (T_seismonetmade_Dice.mk a0 0))) rfl rfl (fun _ => rfl) rfl ?_
  refine WO.s1 (v := .ptr 80 0) (id := 80) (bx := .var [.d (.lst (((T_seismonetmade_Dice.mk a0 0).fL).map (PD.int .i64))), .d (.int .i64 ((T_seismonetmade_Dice.mk a0 0).fAt))]) rfl rfl (fun _ => rfl) ?_
  refine WO.s0 (v' := .ptr 80 0) rfl rfl (fun _ => rfl) rfl ?_
  refine WO.nil ?_
  refine WC.ret ?_
  obtain rfl := Option.some.inj h
  exact WC.done rfl rfl rfl
theorem Dice_Next_ev {a1 : Int} {d0 : T_seismonetmade_Dice} {r : Int × T_seismonetmade_Dice} (h : Dice_Next a1 d0 = some r) : EvP prog hints ext 11 [.ptr 0 0, .d (.int .i64 a1)] [.var [.d (.lst (d0.fL.map (PD.int .i64))), .d (.int .i64 d0.fAt)]] (.d (.int .i64 r.1), [.var [.d (.lst (r.2.fL.map (PD.int .i64))), .d (.int .i64 r.2.fAt)]]) := by
  refine Ev.body rfl Tryd.func11 rfl (by kernel_rfl) ?_
  refine WC.regionSeq rfl rfl ?_
  refine WO.s0 (v' := .d (.int .i64 0)) rfl rfl (fun _ => rfl) rfl ?_
  refine WO.nil ?_
  refine WC.seq ?_
  refine WC.regionDSeq rfl rfl ?_
  refine WO.s0 (v' := .ptr 0 0) rfl rfl (fun _ => rfl) rfl ?_
  refine WO.s0 (v' := .ptr 0 0) rfl rfl (fun _ => rfl) rfl ?_
  refine WO.s0 (v' := .ptr 0 1) rfl rfl (fun _ => rfl) rfl ?_
  refine WO.s0 (v' := .d (.int .i64 d0.fAt)) rfl rfl (fun _ => rfl) rfl ?_
  refine WO.s0 (v' := .ptr 0 0) rfl rfl (fun _ => rfl) rfl ?_
  refine WO.s0 (v' := .ptr 0 0) rfl rfl (fun _ => rfl) rfl ?_
  refine WO.s0 (v' := .ptr 0 0) rfl rfl (fun _ => rfl) rfl ?_
  refine WO.s0 (v' := .d (.lst (d0.fL.map (PD.int .i64)))) rfl rfl (fun _ => rfl) rfl ?_
  refine WO.s0 (v' := .d (.int .i64 (d0.fL.length : Int))) rfl rfl (fun _ => rfl) (lenMap _ _) ?_
  refine ite_elim h (fun hb1 h => ?_) (fun hb1 h => ?_)
  · refine WO.s0 (v' := .d (.bool true)) rfl rfl (fun _ => rfl) (congrArg (fun b => RV.d (.bool b)) hb1) ?_
    refine WO.s0 (v' := .d (.bool true)) rfl rfl (fun _ => rfl) rfl ?_
    refine WO.skip rfl rfl ?_
    refine WO.skip rfl rfl ?_
    refine WO.s0 (v' := .d (.bool true)) rfl rfl (fun _ => rfl) rfl ?_
    refine WO.nil ⟨by kernel_rfl, ?_⟩
    refine WC.condT rfl ?_
    refine WC.regionSeq rfl rfl ?_
    refine WO.s0 (v' := .d (.int .i64 0)) rfl rfl (fun _ => rfl) rfl ?_
    refine WO.nil ?_
    refine WC.ret ?_
    obtain rfl := Option.some.inj h
    exact WC.done rfl rfl rfl
  · refine WO.s0 (v' := .d (.bool false)) rfl rfl (fun _ => rfl) (congrArg (fun b => RV.d (.bool b)) hb1) ?_
    refine WO.s0 (v' := .d (.bool false)) rfl rfl (fun _ => rfl) rfl ?_
    refine WO.s0 (v' := .d (.int .i64 a1)) rfl rfl (fun _ => rfl) rfl ?_
    refine WO.s0 (v' := .d (.bool (decide (a1 < (1 : Int))))) rfl rfl (fun _ => rfl) rfl ?_
    refine ite_elim h (fun hb2 h => ?_) (fun hb2 h => ?_)
    · refine WO.s0 (v' := .d (.bool true)) rfl rfl (fun _ => rfl) (congrArg (fun b => RV.d (.bool b)) hb2) ?_
      refine WO.nil ⟨by kernel_rfl, ?_⟩
      refine WC.condT rfl ?_
      refine WC.regionSeq rfl rfl ?_
      refine WO.s0 (v' := .d (.int .i64 0)) rfl rfl (fun _ => rfl) rfl ?_
      refine WO.nil ?_
      refine WC.ret ?_
      obtain rfl := Option.some.inj h
      exact WC.done rfl rfl rfl
    · refine WO.s0 (v' := .d (.bool false)) rfl rfl (fun _ => rfl) (congrArg (fun b => RV.d (.bool b)) hb2) ?_
      refine WO.nil ⟨by kernel_rfl, ?_⟩
      refine WC.condF rfl ?_
      refine WC.skip ?_
      refine WC.regionDSeq rfl rfl ?_
      refine WO.s0 (v' := .ptr 0 0) rfl rfl (fun _ => rfl) rfl ?_
      refine WO.s0 (v' := .ptr 0 0) rfl rfl (fun _ => rfl) rfl ?_
      refine WO.s0 (v' := .ptr 0 0) rfl rfl (fun _ => rfl) rfl ?_
      refine WO.s0 (v' := .d (.lst (d0.fL.map (PD.int .i64)))) rfl rfl (fun _ => rfl) rfl ?_
      refine WO.s0 (v' := .ptr 0 0) rfl rfl (fun _ => rfl) rfl ?_
      refine WO.s0 (v' := .ptr 0 0) rfl rfl (fun _ => rfl) rfl ?_
      refine WO.s0 (v' := .ptr 0 1) rfl rfl (fun _ => rfl) rfl ?_
      refine WO.s0 (v' := .d (.int .i64 d0.fAt)) rfl rfl (fun _ => rfl) rfl ?_
      refine bind_elim h (fun x3 hx3 h => ?_)
      refine WO.elemG hx3 rfl rfl rfl rfl rfl rfl rfl rfl rfl ?_
      refine WO.s0 (v' := .d (.int .i64 x3)) rfl rfl (fun _ => rfl) rfl ?_
      refine WO.s0 (v' := .d (.int .i64 a1)) rfl rfl (fun _ => rfl) rfl ?_
      refine bind_elim h (fun x4 hx4 h => ?_)
      refine WO.remG hx4 rfl rfl rfl rfl rfl rfl ?_
      refine WO.s0 (v' := .d (.int .i64 x4)) rfl rfl (fun _ => rfl) rfl ?_
      refine WO.nil ⟨by kernel_rfl, ?_⟩
      refine WC.regionSeq rfl rfl ?_
      refine WO.s0 (v' := .ptr 0 0) rfl rfl (fun _ => rfl) rfl ?_
      refine WO.s0 (v' := .ptr 0 0) rfl rfl (fun _ => rfl) rfl ?_
      refine WO.s0 (v' := .ptr 0 1) rfl rfl (fun _ => rfl) rfl ?_
      refine WO.s0 (v' := .d (.int .i64 d0.fAt)) rfl rfl (fun _ => rfl) rfl ?_
      refine WO.s0 (v' := .d (.int .i64 (IntKind.wrap .i64 (d0.fAt + (1 : Int))))) rfl rfl (fun _ => rfl) rfl ?_
      refine WO.s0 (v' := .ptr 0 0) rfl rfl (fun _ => rfl) rfl ?_
      refine WO.s0 (v' := .ptr 0 1) rfl rfl (fun _ => rfl) rfl ?_
      refine WO.n1 (v := .undef) (id := 0) (bx := .var [.d (.lst (d0.fL.map (PD.int .i64))), .d (.int .i64 (IntKind.wrap .i64 (d0.fAt + (1 : Int))))]) rfl rfl (fun _ => rfl) ?_
      refine WO.nil ?_
      refine WC.seq ?_
      refine WC.regionSeq rfl rfl ?_
      refine WO.s0 (v' := .d (.int .i64 x4)) rfl rfl (fun _ => rfl) rfl ?_
      refine ite_elim h (fun hb5 h => ?_) (fun hb5 h => ?_)
      · refine WO.s0 (v' := .d (.bool true)) rfl rfl (fun _ => rfl) (congrArg (fun b => RV.d (.bool b)) hb5) ?_
        refine WO.nil ?_
        refine WC.condT rfl ?_
        refine WC.region rfl rfl ?_
        refine WO.s0 (v' := .d (.int .i64 x4)) rfl rfl (fun _ => rfl) rfl ?_
        refine WO.s0 (v' := .d (.int .i64 a1)) rfl rfl (fun _ => rfl) rfl ?_
        refine WO.s0 (v' := .d (.int .i64 (IntKind.wrap .i64 (x4 + a1)))) rfl rfl (fun _ => rfl) rfl ?_
        refine WO.s0 (v' := .d (.int .i64 (IntKind.wrap .i64 (x4 + a1)))) rfl rfl (fun _ => rfl) rfl ?_
        refine WO.nil ?_
        refine WC.regionSeq rfl rfl ?_
        refine WO.s0 (v' := .d (.int .i64 (IntKind.wrap .i64 (x4 + a1)))) rfl rfl (fun _ => rfl) rfl ?_
        refine WO.s0 (v' := .d (.int .i64 (IntKind.wrap .i64 (x4 + a1)))) rfl rfl (fun _ => rfl) rfl ?_
        refine WO.nil ?_
        refine WC.ret ?_
        obtain rfl := Option.some.inj h
        exact WC.done rfl rfl rfl
      · refine WO.s0 (v' := .d (.bool false)) rfl rfl (fun _ => rfl) (congrArg (fun b => RV.d (.bool b)) hb5) ?_
        refine WO.nil ?_
        refine WC.condF rfl ?_
        refine WC.skip ?_
        refine WC.regionSeq rfl rfl ?_
        refine WO.s0 (v' := .d (.int .i64 x4)) rfl rfl (fun _ => rfl) rfl ?_
        refine WO.s0 (v' := .d (.int .i64 x4)) rfl rfl (fun _ => rfl) rfl ?_
        refine WO.nil ?_
        refine WC.ret ?_
        obtain rfl := Option.some.inj h
        exact WC.done rfl rfl rfl
theorem Dice_Source_ev {d0 : T_seismonetmade_Dice} {r : T_api_SourceID × T_seismonetmade_Dice} (h : Dice_Source d0 = some r) : EvP prog hints ext 10 [.ptr 0 0] [.var [.d (.lst (d0.fL.map (PD.int .i64))), .d (.int .i64 d0.fAt)]] (.d (T_api_SourceID.pd r.1), [.var [.d (.lst (r.2.fL.map (PD.int .i64))), .d (.int .i64 r.2.fAt)]]) := by
  refine Ev.body rfl Tryd.func10 rfl (by kernel_rfl) ?_
  refine WC.regionSeq rfl rfl ?_
  refine WO.s1 (v := .ptr 32 0) (id := 32) (bx := .var [.d (.str []), .d (.str []), .d (.str []), .d (.str [])]) rfl rfl (fun _ => rfl) ?_
  refine WO.nil ?_
  refine WC.regionDSeq rfl rfl ?_
  refine WO.s0 (v' := .d (.lst ([[71, 82], [88], [55, 65]].map PD.str))) rfl rfl (fun _ => rfl) rfl ?_
  refine WO.s0 (v' := .ptr 0 0) rfl rfl (fun _ => rfl) rfl ?_
  refine bind_elim h (fun x1 hx1 h => ?_)
  refine WO.callR (v := .d (.int .i64 x1.1)) (u := [(0, .var [.d (.lst (x1.2.fL.map (PD.int .i64))), .d (.int .i64 x1.2.fAt)])]) rfl rfl (fun _ => rfl) rfl rfl rfl rfl rfl (Dice_Next_ev hx1) rfl rfl rfl rfl ?_
  refine bind_elim h (fun x2 hx2 h => ?_)
  refine WO.elemG hx2 rfl rfl rfl rfl rfl rfl rfl rfl rfl ?_
  refine WO.s0 (v' := .d (.str x2)) rfl rfl (fun _ => rfl) rfl ?_
  refine WO.s0 (v' := .d (.lst ([[70, 85, 82], [65], [65, 66, 67, 68, 69], [70, 85]].map PD.str))) rfl rfl (fun _ => rfl) rfl ?_
  refine WO.s0 (v' := .ptr 0 0) rfl rfl (fun _ => rfl) rfl ?_
  refine bind_elim h (fun x3 hx3 h => ?_)
  refine WO.callR (v := .d (.int .i64 x3.1)) (u := [(0, .var [.d (.lst (x3.2.fL.map (PD.int .i64))), .d (.int .i64 x3.2.fAt)])]) rfl rfl (fun _ => rfl) rfl rfl rfl rfl rfl (Dice_Next_ev hx3) rfl rfl rfl rfl ?_
  refine bind_elim h (fun x4 hx4 h => ?_)
  refine WO.elemG hx4 rfl rfl rfl rfl rfl rfl rfl rfl rfl ?_
  refine WO.s0 (v' := .d (.str x4)) rfl rfl (fun _ => rfl) rfl ?_
  refine WO.s0 (v' := .d (.lst ([[], [48, 48], [49, 48]].map PD.str))) rfl rfl (fun _ => rfl) rfl ?_
  refine WO.s0 (v' := .ptr 0 0) rfl rfl (fun _ => rfl) rfl ?_
  refine bind_elim h (fun x5 hx5 h => ?_)
  refine WO.callR (v := .d (.int .i64 x5.1)) (u := [(0, .var [.d (.lst (x5.2.fL.map (PD.int .i64))), .d (.int .i64 x5.2.fAt)])]) rfl rfl (fun _ => rfl) rfl rfl rfl rfl rfl (Dice_Next_ev hx5) rfl rfl rfl rfl ?_
  refine bind_elim h (fun x6 hx6 h => ?_)
  refine WO.elemG hx6 rfl rfl rfl rfl rfl rfl rfl rfl rfl ?_
  refine WO.s0 (v' := .d (.str x6)) rfl rfl (fun _ => rfl) rfl ?_
  refine WO.s0 (v' := .d (.lst ([[72, 72, 90], [72, 72, 78], [66, 72, 90]].map PD.str))) rfl rfl (fun _ => rfl) rfl ?_
  refine WO.s0 (v' := .ptr 0 0) rfl rfl (fun _ => rfl) rfl ?_
  refine bind_elim h (fun x7 hx7 h => ?_)
  refine WO.callR (v := .d (.int .i64 x7.1)) (u := [(0, .var [.d (.lst (x7.2.fL.map (PD.int .i64))), .d (.int .i64 x7.2.fAt)])]) rfl rfl (fun _ => rfl) rfl rfl rfl rfl rfl (Dice_Next_ev hx7) rfl rfl rfl rfl ?_
  refine bind_elim h (fun x8 hx8 h => ?_)
  refine WO.elemG hx8 rfl rfl rfl rfl rfl rfl rfl rfl rfl ?_
  refine WO.s0 (v' := .d (.str x8)) rfl rfl (fun _ => rfl) rfl ?_
  refine WO.s0 (v' := .d (T_api_SourceID.pd (T_api_SourceID.mk x2 x4 x6 x8))) rfl rfl (fun _ => rfl) rfl ?_
  refine WO.n1 (v := .undef) (id := 32) (bx := .var [.d (.str ((T_api_SourceID.mk x2 x4 x6 x8).fNetwork)), .d (.str ((T_api_SourceID.mk x2 x4 x6 x8).fStation)), .d (.str ((T_api_SourceID.mk x2 x4 x6 x8).fLocation)), .d (.str ((T_api_SourceID.mk x2 x4 x6 x8).fChannel))]) rfl rfl (fun _ => rfl) ?_
  refine WO.nil ⟨by kernel_rfl, ?_⟩
  refine WC.ret ?_
  obtain rfl := Option.some.inj h
  exact WC.done rfl rfl rfl
theorem source_Format_ev {a0 : T_api_SourceID} {r : (List UInt8) × Int} (h : source_Format a0 = some r) : EvP prog hints ext 14 [.d (T_api_SourceID.pd a0)] [] (.tup [.d (.str r.1), .d (.int .i64 r.2)], []) := by
  refine Ev.body rfl Tryd.func14 rfl (by kernel_rfl) ?_
  refine WC.regionSeq rfl rfl ?_
  refine WO.s1 (v := .ptr 16 0) (id := 16) (bx := .var [.d (.str a0.fNetwork), .d (.str a0.fStation), .d (.str a0.fLocation), .d (.str a0.fChannel)]) rfl rfl (fun _ => rfl) ?_
  refine WO.s0 (v' := .d (.str [])) rfl rfl (fun _ => rfl) rfl ?_
  refine WO.s0 (v' := .d (.int .i64 0)) rfl rfl (fun _ => rfl) rfl ?_
  refine WO.nil ?_
  refine WC.seq ?_
  refine WC.regionSeq rfl rfl ?_
  refine WO.s0 (v' := .d (T_api_SourceID.pd a0)) rfl rfl (fun _ => rfl) rfl ?_
  refine bind_elim h (fun x1 hx1 h => ?_)
  refine WO.callR (v := .d (.bool x1)) (u := []) rfl rfl (fun _ => rfl) rfl rfl rfl rfl rfl (source_Valid_ev hx1) rfl rfl rfl rfl ?_
  refine ite_elim h (fun hb2 h => ?_) (fun hb2 h => ?_)
  · refine WO.s0 (v' := .d (.bool true)) rfl rfl (fun _ => rfl) (congrArg (fun b => RV.d (.bool b)) hb2) ?_
    refine WO.nil ?_
    refine WC.condT rfl ?_
    refine WC.regionSeq rfl rfl ?_
    refine WO.s0 (v' := .d (.str [])) rfl rfl (fun _ => rfl) rfl ?_
    refine WO.s0 (v' := .d (.int .i64 1)) rfl rfl (fun _ => rfl) rfl ?_
    refine WO.nil ?_
    refine WC.ret ?_
    obtain rfl := Option.some.inj h
    exact WC.done rfl rfl rfl
  · refine WO.s0 (v' := .d (.bool false)) rfl rfl (fun _ => rfl) (congrArg (fun b => RV.d (.bool b)) hb2) ?_
    refine WO.nil ?_
    refine WC.condF rfl ?_
    refine WC.skip ?_
    refine WC.regionSeq rfl rfl ?_
    refine WO.s0 (v' := .d (T_api_SourceID.pd a0)) rfl rfl (fun _ => rfl) rfl ?_
    refine bind_elim h (fun x3 hx3 h => ?_)
    refine WO.callR (v := .d (A4__List_UInt8_.pd x3)) (u := []) rfl rfl (fun _ => rfl) rfl rfl rfl rfl rfl (source_parts_ev hx3) rfl rfl rfl rfl ?_
    refine WO.s1 (v := .ptr 64 0) (id := 64) (bx := .var [.d (.str []), .d (.str []), .d (.str []), .d (.str [])]) rfl rfl (fun _ => rfl) ?_
    refine WO.n1 (v := .undef) (id := 64) (bx := .var [.d (.str x3.a0), .d (.str x3.a1), .d (.str x3.a2), .d (.str x3.a3)]) rfl rfl (fun _ => rfl) ?_
    refine WO.nil ?_
    refine WC.regionSeq rfl rfl ?_
    refine WO.s1 (v := .d (.lst ([x3.a0, x3.a1, x3.a2, x3.a3].map PD.str))) (id := 64) (bx := .dead) rfl rfl (fun _ => rfl) ?_
    refine bind_elim h (fun x4 hx4 h => ?_)
    refine WO.callR (v := .d (.str x4)) (u := []) rfl rfl (fun _ => rfl) rfl rfl rfl rfl rfl ((join_ev rfl) hx4) rfl rfl rfl rfl ?_
    refine WO.s0 (v' := .d (.str x4)) rfl rfl (fun _ => rfl) rfl ?_
    refine WO.s0 (v' := .d (.int .i64 0)) rfl rfl (fun _ => rfl) rfl ?_
    refine WO.nil ?_
    refine WC.ret ?_
    obtain rfl := Option.some.inj h
    exact WC.done rfl rfl rfl
theorem law03_SourceBack_ev {a0 : (List Int)} {r : Bool} (h : law03_SourceBack a0 = some r) : EvP prog hints ext 4 [.d (.lst (a0.map (PD.int .i64)))] [] (.d (.bool r), []) := by
  refine Ev.body rfl Tryd.func4 rfl (by kernel_rfl) ?_
  refine WC.regionSeq rfl rfl ?_
  refine WO.s0 (v' := .d (.bool false)) rfl rfl (fun _ => rfl) rfl ?_
  refine WO.nil ?_
  refine WC.seq ?_
  refine WC.regionSeq rfl rfl ?_
  refine WO.s0 (v' := .d (.lst (a0.map (PD.int .i64)))) rfl rfl (fun _ => rfl) rfl ?_
  refine bind_elim h (fun x1 hx1 h => ?_)
  refine WO.callR (v := .d (.bool x1)) (u := []) rfl rfl (fun _ => rfl) rfl rfl rfl rfl rfl (made_Light_ev hx1) rfl rfl rfl rfl ?_
  refine ite_elim h (fun hb2 h => ?_) (fun hb2 h => ?_)
  · refine WO.s0 (v' := .d (.bool true)) rfl rfl (fun _ => rfl) (congrArg (fun b => RV.d (.bool b)) hb2) ?_
    refine WO.nil ?_
    refine WC.condT rfl ?_
    refine WC.regionSeq rfl rfl ?_
    refine bind_elim h (fun x3 hx3 h => ?_)
    refine WO.callR (v := .d (.bool x3)) (u := []) rfl rfl (fun _ => rfl) rfl rfl rfl rfl rfl (law03_sane_ev hx3) rfl rfl rfl rfl ?_
    refine WO.s0 (v' := .d (.bool x3)) rfl rfl (fun _ => rfl) rfl ?_
    refine WO.nil ?_
    refine WC.ret ?_
    obtain rfl := Option.some.inj h
    exact WC.done rfl rfl rfl
  · refine WO.s0 (v' := .d (.bool false)) rfl rfl (fun _ => rfl) (congrArg (fun b => RV.d (.bool b)) hb2) ?_
    refine WO.nil ?_
    refine WC.condF rfl ?_
    refine WC.skip ?_
    refine WC.regionSeq rfl rfl ?_
    refine WO.s0 (v' := .d (.lst (a0.map (PD.int .i64)))) rfl rfl (fun _ => rfl) rfl ?_
    refine bind_elim h (fun x4 hx4 h => ?_)
    refine WO.callR (v := .ptr 336 0) (u := [(336, .var [.d (.lst (x4.fL.map (PD.int .i64))), .d (.int .i64 x4.fAt)])]) rfl rfl (fun _ => rfl) rfl rfl rfl rfl rfl (made_Roll_ev hx4) rfl rfl rfl rfl ?_
    refine WO.s0 (v' := .ptr 336 0) rfl rfl (fun _ => rfl) rfl ?_
    refine WO.nil ?_
    refine WC.regionSeq rfl rfl ?_
    refine WO.s0 (v' := .ptr 336 0) rfl rfl (fun _ => rfl) rfl ?_
    refine bind_elim h (fun x5 hx5 h => ?_)
    refine WO.callR (v := .d (T_api_SourceID.pd x5.1)) (u := [(336, .var [.d (.lst (x5.2.fL.map (PD.int .i64))), .d (.int .i64 x5.2.fAt)])]) rfl rfl (fun _ => rfl) rfl rfl rfl rfl rfl (Dice_Source_ev hx5) rfl rfl rfl rfl ?_
    refine WO.s0 (v' := .ptr 336 0) rfl rfl (fun _ => rfl) rfl ?_
    refine bind_elim h (fun x6 hx6 h => ?_)
    refine WO.callR (v := .d (T_api_SourceID.pd x6.1)) (u := [(336, .var [.d (.lst (x6.2.fL.map (PD.int .i64))), .d (.int .i64 x6.2.fAt)])]) rfl rfl (fun _ => rfl) rfl rfl rfl rfl rfl (Dice_Source_ev hx6) rfl rfl rfl rfl ?_
    refine WO.s1 (v := .ptr 64 0) (id := 64) (bx := .var [.d (.str []), .d (.str []), .d (.str []), .d (.str [])]) rfl rfl (fun _ => rfl) ?_
    refine WO.s1 (v := .ptr 80 0) (id := 80) (bx := .var [.d (.str []), .d (.str []), .d (.str []), .d (.str [])]) rfl rfl (fun _ => rfl) ?_
    refine WO.n1 (v := .undef) (id := 64) (bx := .var [.d (.str x5.1.fNetwork), .d (.str x5.1.fStation), .d (.str x5.1.fLocation), .d (.str x5.1.fChannel)]) rfl rfl (fun _ => rfl) ?_
    refine WO.n1 (v := .undef) (id := 80) (bx := .var [.d (.str x6.1.fNetwork), .d (.str x6.1.fStation), .d (.str x6.1.fLocation), .d (.str x6.1.fChannel)]) rfl rfl (fun _ => rfl) ?_
    refine WO.nil ?_
    refine WC.regionSeq rfl rfl ?_
    refine WO.s0 (v' := .d (T_api_SourceID.pd x5.1)) rfl rfl (fun _ => rfl) rfl ?_
    refine bind_elim h (fun x7 hx7 h => ?_)
    refine WO.callR (v := .tup [.d (.str x7.1), .d (.int .i64 x7.2)]) (u := []) rfl rfl (fun _ => rfl) rfl rfl rfl rfl rfl (source_Format_ev hx7) rfl rfl rfl rfl ?_
    refine WO.s0 (v' := .tup [.d (.str x7.1), .d (.int .i64 x7.2)]) rfl rfl (fun _ => rfl) rfl ?_
    refine WO.s0 (v' := .d (.str x7.1)) rfl rfl (fun _ => rfl) rfl ?_
    refine WO.s0 (v' := .d (.int .i64 x7.2)) rfl rfl (fun _ => rfl) rfl ?_
    refine WO.s0 (v' := .d (.str x7.1)) rfl rfl (fun _ => rfl) rfl ?_
    refine WO.s0 (v' := .d (.int .i64 x7.2)) rfl rfl (fun _ => rfl) rfl ?_
    refine WO.nil ?_
    refine WC.regionSeq rfl rfl ?_
    refine WO.s0 (v' := .d (.str x7.1)) rfl rfl (fun _ => rfl) rfl ?_
    refine bind_elim h (fun x8 hx8 h => ?_)
    refine WO.callR (v := .tup [.d (T_api_SourceID.pd x8.1), .d (.int .i64 x8.2)]) (u := []) rfl rfl (fun _ => rfl) rfl rfl rfl rfl rfl (source_Parse_ev hx8) rfl rfl rfl rfl ?_
    refine WO.s0 (v' := .tup [.d (T_api_SourceID.pd x8.1), .d (.int .i64 x8.2)]) rfl rfl (fun _ => rfl) rfl ?_
    refine WO.s0 (v' := .d (T_api_SourceID.pd x8.1)) rfl rfl (fun _ => rfl) rfl ?_
    refine WO.s0 (v' := .d (.int .i64 x8.2)) rfl rfl (fun _ => rfl) rfl ?_
    refine WO.s1 (v := .ptr 128 0) (id := 128) (bx := .var [.d (.str []), .d (.str []), .d (.str []), .d (.str [])]) rfl rfl (fun _ => rfl) ?_
    refine WO.n1 (v := .undef) (id := 128) (bx := .var [.d (.str x8.1.fNetwork), .d (.str x8.1.fStation), .d (.str x8.1.fLocation), .d (.str x8.1.fChannel)]) rfl rfl (fun _ => rfl) ?_
    refine WO.s0 (v' := .d (.int .i64 x8.2)) rfl rfl (fun _ => rfl) rfl ?_
    refine WO.nil ?_
    refine WC.regionSeq rfl rfl ?_
    refine WO.s0 (v' := .d (.str x7.1)) rfl rfl (fun _ => rfl) rfl ?_
    refine WO.s0 (v' := .d (T_api_SourceID.pd x5.1)) rfl rfl (fun _ => rfl) rfl ?_
    refine bind_elim h (fun x9 hx9 h => ?_)
    refine WO.callR (v := .tup [.d (.bool x9.1), .d (.int .i64 x9.2)]) (u := []) rfl rfl (fun _ => rfl) rfl rfl rfl rfl rfl (source_Match_ev hx9) rfl rfl rfl rfl ?_
    refine WO.s0 (v' := .tup [.d (.bool x9.1), .d (.int .i64 x9.2)]) rfl rfl (fun _ => rfl) rfl ?_
    refine WO.s0 (v' := .d (.bool x9.1)) rfl rfl (fun _ => rfl) rfl ?_
    refine WO.s0 (v' := .d (.int .i64 x9.2)) rfl rfl (fun _ => rfl) rfl ?_
    refine WO.s0 (v' := .d (.bool x9.1)) rfl rfl (fun _ => rfl) rfl ?_
    refine WO.s0 (v' := .d (.int .i64 x9.2)) rfl rfl (fun _ => rfl) rfl ?_
    refine WO.nil ?_
    refine WC.regionSeq rfl rfl ?_
    refine WO.s0 (v' := .d (.str x7.1)) rfl rfl (fun _ => rfl) rfl ?_
    refine WO.s0 (v' := .d (T_api_SourceID.pd x6.1)) rfl rfl (fun _ => rfl) rfl ?_
    refine bind_elim h (fun x10 hx10 h => ?_)
    refine WO.callR (v := .tup [.d (.bool x10.1), .d (.int .i64 x10.2)]) (u := []) rfl rfl (fun _ => rfl) rfl rfl rfl rfl rfl (source_Match_ev hx10) rfl rfl rfl rfl ?_
    refine WO.s0 (v' := .tup [.d (.bool x10.1), .d (.int .i64 x10.2)]) rfl rfl (fun _ => rfl) rfl ?_
    refine WO.s0 (v' := .d (.bool x10.1)) rfl rfl (fun _ => rfl) rfl ?_
    refine WO.s0 (v' := .d (.int .i64 x10.2)) rfl rfl (fun _ => rfl) rfl ?_
    refine WO.s0 (v' := .d (.bool x10.1)) rfl rfl (fun _ => rfl) rfl ?_
    refine WO.s0 (v' := .d (.int .i64 x10.2)) rfl rfl (fun _ => rfl) rfl ?_
    refine WO.nil ?_
    refine WC.regionSeq rfl rfl ?_
    refine WO.s0 (v' := .d (T_api_SourceID.pd x6.1)) rfl rfl (fun _ => rfl) rfl ?_
    refine bind_elim h (fun x11 hx11 h => ?_)
    refine WO.callR (v := .tup [.d (.bool x11.1), .d (.int .i64 x11.2)]) (u := []) rfl rfl (fun _ => rfl) rfl rfl rfl rfl rfl (source_Match_ev hx11) rfl rfl rfl rfl ?_
    refine WO.s0 (v' := .tup [.d (.bool x11.1), .d (.int .i64 x11.2)]) rfl rfl (fun _ => rfl) rfl ?_
    refine WO.s0 (v' := .d (.bool x11.1)) rfl rfl (fun _ => rfl) rfl ?_
    refine WO.s0 (v' := .d (.int .i64 x11.2)) rfl rfl (fun _ => rfl) rfl ?_
    refine WO.s0 (v' := .d (.bool x11.1)) rfl rfl (fun _ => rfl) rfl ?_
    refine WO.s0 (v' := .d (.int .i64 x11.2)) rfl rfl (fun _ => rfl) rfl ?_
    refine WO.nil ?_
    refine WC.regionSeq rfl rfl ?_
    refine WO.s0 (v' := .d (.int .i64 x7.2)) rfl rfl (fun _ => rfl) rfl ?_
    refine ite_elim h (fun hb12 h => ?_) (fun hb12 h => ?_)
    · refine WO.s0 (v' := .d (.bool true)) rfl rfl (fun _ => rfl) (congrArg (fun b => RV.d (.bool b)) hb12) ?_
      refine WO.s0 (v' := .d (.bool true)) rfl rfl (fun _ => rfl) rfl ?_
      refine WO.s0 (v' := .d (.int .i64 x8.2)) rfl rfl (fun _ => rfl) rfl ?_
      refine WO.s0 (v' := .d (.bool (x8.2 == (0 : Int)))) rfl rfl (fun _ => rfl) rfl ?_
      refine ite_elim h (fun hb13 h => ?_) (fun hb13 h => ?_)
      · refine WO.s0 (v' := .d (.bool true)) rfl rfl (fun _ => rfl) (congrArg (fun b => RV.d (.bool b)) hb13) ?_
        refine WO.s0 (v' := .d (.bool true)) rfl rfl (fun _ => rfl) rfl ?_
        refine WO.s0 (v' := .d (T_api_SourceID.pd x8.1)) rfl rfl (fun _ => rfl) rfl ?_
        refine WO.s0 (v' := .d (T_api_SourceID.pd x5.1)) rfl rfl (fun _ => rfl) rfl ?_
        refine WO.bin (eqE_28 x8.1 x5.1) rfl rfl rfl rfl rfl ?_
        refine ite_elim h (fun hb14 h => ?_) (fun hb14 h => ?_)
        · refine WO.s0 (v' := .d (.bool true)) rfl rfl (fun _ => rfl) (congrArg (fun b => RV.d (.bool b)) hb14) ?_
          refine WO.s0 (v' := .d (.bool true)) rfl rfl (fun _ => rfl) rfl ?_
          refine WO.s0 (v' := .d (.int .i64 x9.2)) rfl rfl (fun _ => rfl) rfl ?_
          refine WO.s0 (v' := .d (.bool (x9.2 == (0 : Int)))) rfl rfl (fun _ => rfl) rfl ?_
          refine ite_elim h (fun hb15 h => ?_) (fun hb15 h => ?_)
          · refine WO.s0 (v' := .d (.bool true)) rfl rfl (fun _ => rfl) (congrArg (fun b => RV.d (.bool b)) hb15) ?_
            refine WO.s0 (v' := .d (.bool true)) rfl rfl (fun _ => rfl) rfl ?_
            refine WO.s0 (v' := .d (.bool x9.1)) rfl rfl (fun _ => rfl) rfl ?_
            refine ite_elim h (fun hb16 h => ?_) (fun hb16 h => ?_)
            · refine WO.s0 (v' := .d (.bool true)) rfl rfl (fun _ => rfl) (congrArg (fun b => RV.d (.bool b)) hb16) ?_
              refine WO.s0 (v' := .d (.bool true)) rfl rfl (fun _ => rfl) rfl ?_
              refine WO.s0 (v' := .d (.int .i64 x10.2)) rfl rfl (fun _ => rfl) rfl ?_
              refine WO.s0 (v' := .d (.bool (x10.2 == (0 : Int)))) rfl rfl (fun _ => rfl) rfl ?_
              refine ite_elim h (fun hb17 h => ?_) (fun hb17 h => ?_)
              · refine WO.s0 (v' := .d (.bool true)) rfl rfl (fun _ => rfl) (congrArg (fun b => RV.d (.bool b)) hb17) ?_
                refine WO.s0 (v' := .d (.bool true)) rfl rfl (fun _ => rfl) rfl ?_
                refine WO.s0 (v' := .d (.bool x10.1)) rfl rfl (fun _ => rfl) rfl ?_
                refine WO.s0 (v' := .d (T_api_SourceID.pd x5.1)) rfl rfl (fun _ => rfl) rfl ?_
                refine WO.s0 (v' := .d (T_api_SourceID.pd x6.1)) rfl rfl (fun _ => rfl) rfl ?_
                refine WO.bin (eqE_28 x5.1 x6.1) rfl rfl rfl rfl rfl ?_
                refine WO.s0 (v' := .d (.bool (x10.1 == ((x5.1.fNetwork == x6.1.fNetwork) && ((x5.1.fStation == x6.1.fStation) && ((x5.1.fLocation == x6.1.fLocation) && ((x5.1.fChannel == x6.1.fChannel) && true))))))) rfl rfl (fun _ => rfl) rfl ?_
                refine ite_elim h (fun hb18 h => ?_) (fun hb18 h => ?_)
                · refine WO.s0 (v' := .d (.bool true)) rfl rfl (fun _ => rfl) (congrArg (fun b => RV.d (.bool b)) hb18) ?_
                  refine WO.s0 (v' := .d (.bool true)) rfl rfl (fun _ => rfl) rfl ?_
                  refine WO.s0 (v' := .d (.int .i64 x11.2)) rfl rfl (fun _ => rfl) rfl ?_
                  refine WO.s0 (v' := .d (.bool (x11.2 == (0 : Int)))) rfl rfl (fun _ => rfl) rfl ?_
                  refine ite_elim h (fun hb19 h => ?_) (fun hb19 h => ?_)
                  · refine WO.s0 (v' := .d (.bool true)) rfl rfl (fun _ => rfl) (congrArg (fun b => RV.d (.bool b)) hb19) ?_
                    refine WO.s0 (v' := .d (.bool true)) rfl rfl (fun _ => rfl) rfl ?_
                    refine WO.s0 (v' := .d (.bool x11.1)) rfl rfl (fun _ => rfl) rfl ?_
                    refine ite_elim h (fun hb20 h => ?_) (fun hb20 h => ?_)
                    · refine WO.s0 (v' := .d (.bool true)) rfl rfl (fun _ => rfl) (congrArg (fun b => RV.d (.bool b)) hb20) ?_
                      refine WO.s0 (v' := .d (.bool true)) rfl rfl (fun _ => rfl) rfl ?_
                      refine bind_elim h (fun x21 hx21 h => ?_)
                      refine WO.callR (v := .d (.bool x21)) (u := []) rfl rfl (fun _ => rfl) rfl rfl rfl rfl rfl (law03_sane_ev hx21) rfl rfl rfl rfl ?_
                      refine WO.s0 (v' := .d (.bool x21)) rfl rfl (fun _ => rfl) rfl ?_
                      refine WO.s0 (v' := .d (.bool x21)) rfl rfl (fun _ => rfl) rfl ?_
                      refine WO.nil ?_
                      refine WC.ret ?_
                      obtain rfl := Option.some.inj h
                      exact WC.done rfl rfl rfl
                    · refine WO.s0 (v' := .d (.bool false)) rfl rfl (fun _ => rfl) (congrArg (fun b => RV.d (.bool b)) hb20) ?_
                      refine WO.s0 (v' := .d (.bool false)) rfl rfl (fun _ => rfl) rfl ?_
                      refine WO.skip rfl rfl ?_
                      refine WO.s0 (v' := .d (.bool false)) rfl rfl (fun _ => rfl) rfl ?_
                      refine WO.s0 (v' := .d (.bool false)) rfl rfl (fun _ => rfl) rfl ?_
                      refine WO.nil ?_
                      refine WC.ret ?_
                      obtain rfl := Option.some.inj h
                      exact WC.done rfl rfl rfl
                  · refine WO.s0 (v' := .d (.bool false)) rfl rfl (fun _ => rfl) (congrArg (fun b => RV.d (.bool b)) hb19) ?_
                    refine WO.s0 (v' := .d (.bool false)) rfl rfl (fun _ => rfl) rfl ?_
                    refine WO.skip rfl rfl ?_
                    refine WO.s0 (v' := .d (.bool false)) rfl rfl (fun _ => rfl) rfl ?_
                    refine WO.s0 (v' := .d (.bool false)) rfl rfl (fun _ => rfl) rfl ?_
                    refine WO.skip rfl rfl ?_
                    refine WO.s0 (v' := .d (.bool false)) rfl rfl (fun _ => rfl) rfl ?_
                    refine WO.s0 (v' := .d (.bool false)) rfl rfl (fun _ => rfl) rfl ?_
                    refine WO.nil ?_
                    refine WC.ret ?_
                    obtain rfl := Option.some.inj h
                    exact WC.done rfl rfl rfl
                · refine WO.s0 (v' := .d (.bool false)) rfl rfl (fun _ => rfl) (congrArg (fun b => RV.d (.bool b)) hb18) ?_
                  refine WO.s0 (v' := .d (.bool false)) rfl rfl (fun _ => rfl) rfl ?_
                  refine WO.skip rfl rfl ?_
                  refine WO.skip rfl rfl ?_
                  refine WO.s0 (v' := .d (.bool false)) rfl rfl (fun _ => rfl) rfl ?_
                  refine WO.s0 (v' := .d (.bool false)) rfl rfl (fun _ => rfl) rfl ?_
                  refine WO.skip rfl rfl ?_
                  refine WO.s0 (v' := .d (.bool false)) rfl rfl (fun _ => rfl) rfl ?_
                  refine WO.s0 (v' := .d (.bool false)) rfl rfl (fun _ => rfl) rfl ?_
                  refine WO.skip rfl rfl ?_
                  refine WO.s0 (v' := .d (.bool false)) rfl rfl (fun _ => rfl) rfl ?_
                  refine WO.s0 (v' := .d (.bool false)) rfl rfl (fun _ => rfl) rfl ?_
                  refine WO.nil ?_
                  refine WC.ret ?_
                  obtain rfl := Option.some.inj h
                  exact WC.done rfl rfl rfl
              · refine WO.s0 (v' := .d (.bool false)) rfl rfl (fun _ => rfl) (congrArg (fun b => RV.d (.bool b)) hb17) ?_
                refine WO.s0 (v' := .d (.bool false)) rfl rfl (fun _ => rfl) rfl ?_
                refine WO.skip rfl rfl ?_
                refine WO.skip rfl rfl ?_
                refine WO.skip rfl rfl ?_
                refine WO.skip rfl rfl ?_
                refine WO.skip rfl rfl ?_
                refine WO.s0 (v' := .d (.bool false)) rfl rfl (fun _ => rfl) rfl ?_
                refine WO.s0 (v' := .d (.bool false)) rfl rfl (fun _ => rfl) rfl ?_
                refine WO.skip rfl rfl ?_
                refine WO.skip rfl rfl ?_
                refine WO.s0 (v' := .d (.bool false)) rfl rfl (fun _ => rfl) rfl ?_
                refine WO.s0 (v' := .d (.bool false)) rfl rfl (fun _ => rfl) rfl ?_
                refine WO.skip rfl rfl ?_
                refine WO.s0 (v' := .d (.bool false)) rfl rfl (fun _ => rfl) rfl ?_
                refine WO.s0 (v' := .d (.bool false)) rfl rfl (fun _ => rfl) rfl ?_
                refine WO.skip rfl rfl ?_
                refine WO.s0 (v' := .d (.bool false)) rfl rfl (fun _ => rfl) rfl ?_
                refine WO.s0 (v' := .d (.bool false)) rfl rfl (fun _ => rfl) rfl ?_
                refine WO.nil ?_
                refine WC.ret ?_
                obtain rfl := Option.some.inj h
                exact WC.done rfl rfl rfl
            · refine WO.s0 (v' := .d (.bool false)) rfl rfl (fun _ => rfl) (congrArg (fun b => RV.d (.bool b)) hb16) ?_
              refine WO.s0 (v' := .d (.bool false)) rfl rfl (fun _ => rfl) rfl ?_
              refine WO.skip rfl rfl ?_
              refine WO.skip rfl rfl ?_
              refine WO.s0 (v' := .d (.bool false)) rfl rfl (fun _ => rfl) rfl ?_
              refine WO.s0 (v' := .d (.bool false)) rfl rfl (fun _ => rfl) rfl ?_
              refine WO.skip rfl rfl ?_
              refine WO.skip rfl rfl ?_
              refine WO.skip rfl rfl ?_
              refine WO.skip rfl rfl ?_
              refine WO.skip rfl rfl ?_
              refine WO.s0 (v' := .d (.bool false)) rfl rfl (fun _ => rfl) rfl ?_
              refine WO.s0 (v' := .d (.bool false)) rfl rfl (fun _ => rfl) rfl ?_
              refine WO.skip rfl rfl ?_
              refine WO.skip rfl rfl ?_
              refine WO.s0 (v' := .d (.bool false)) rfl rfl (fun _ => rfl) rfl ?_
              refine WO.s0 (v' := .d (.bool false)) rfl rfl (fun _ => rfl) rfl ?_
              refine WO.skip rfl rfl ?_
              refine WO.s0 (v' := .d (.bool false)) rfl rfl (fun _ => rfl) rfl ?_
              refine WO.s0 (v' := .d (.bool false)) rfl rfl (fun _ => rfl) rfl ?_
              refine WO.skip rfl rfl ?_
              refine WO.s0 (v' := .d (.bool false)) rfl rfl (fun _ => rfl) rfl ?_
              refine WO.s0 (v' := .d (.bool false)) rfl rfl (fun _ => rfl) rfl ?_
              refine WO.nil ?_
              refine WC.ret ?_
              obtain rfl := Option.some.inj h
              exact WC.done rfl rfl rfl
          · refine WO.s0 (v' := .d (.bool false)) rfl rfl (fun _ => rfl) (congrArg (fun b => RV.d (.bool b)) hb15) ?_
            refine WO.s0 (v' := .d (.bool false)) rfl rfl (fun _ => rfl) rfl ?_
            refine WO.skip rfl rfl ?_
            refine WO.s0 (v' := .d (.bool false)) rfl rfl (fun _ => rfl) rfl ?_
            refine WO.s0 (v' := .d (.bool false)) rfl rfl (fun _ => rfl) rfl ?_
            refine WO.skip rfl rfl ?_
            refine WO.skip rfl rfl ?_
            refine WO.s0 (v' := .d (.bool false)) rfl rfl (fun _ => rfl) rfl ?_
            refine WO.s0 (v' := .d (.bool false)) rfl rfl (fun _ => rfl) rfl ?_
            refine WO.skip rfl rfl ?_
            refine WO.skip rfl rfl ?_
            refine WO.skip rfl rfl ?_
            refine WO.skip rfl rfl ?_
            refine WO.skip rfl rfl ?_
            refine WO.s0 (v' := .d (.bool false)) rfl rfl (fun _ => rfl) rfl ?_
            refine WO.s0 (v' := .d (.bool false)) rfl rfl (fun _ => rfl) rfl ?_
            refine WO.skip rfl rfl ?_
            refine WO.skip rfl rfl ?_
            refine WO.s0 (v' := .d (.bool false)) rfl rfl (fun _ => rfl) rfl ?_
            refine WO.s0 (v' := .d (.bool false)) rfl rfl (fun _ => rfl) rfl ?_
            refine WO.skip rfl rfl ?_
            refine WO.s0 (v' := .d (.bool false)) rfl rfl (fun _ => rfl) rfl ?_
            refine WO.s0 (v' := .d (.bool false)) rfl rfl (fun _ => rfl) rfl ?_
            refine WO.skip rfl rfl ?_
            refine WO.s0 (v' := .d (.bool false)) rfl rfl (fun _ => rfl) rfl ?_
            refine WO.s0 (v' := .d (.bool false)) rfl rfl (fun _ => rfl) rfl ?_
            refine WO.nil ?_
            refine WC.ret ?_
            obtain rfl := Option.some.inj h
            exact WC.done rfl rfl rfl
        · refine WO.s0 (v' := .d (.bool false)) rfl rfl (fun _ => rfl) (congrArg (fun b => RV.d (.bool b)) hb14) ?_
          refine WO.s0 (v' := .d (.bool false)) rfl rfl (fun _ => rfl) rfl ?_
          refine WO.skip rfl rfl ?_
          refine WO.skip rfl rfl ?_
          refine WO.s0 (v' := .d (.bool false)) rfl rfl (fun _ => rfl) rfl ?_
          refine WO.s0 (v' := .d (.bool false)) rfl rfl (fun _ => rfl) rfl ?_
          refine WO.skip rfl rfl ?_
          refine WO.s0 (v' := .d (.bool false)) rfl rfl (fun _ => rfl) rfl ?_
          refine WO.s0 (v' := .d (.bool false)) rfl rfl (fun _ => rfl) rfl ?_
          refine WO.skip rfl rfl ?_
          refine WO.skip rfl rfl ?_
          refine WO.s0 (v' := .d (.bool false)) rfl rfl (fun _ => rfl) rfl ?_
          refine WO.s0 (v' := .d (.bool false)) rfl rfl (fun _ => rfl) rfl ?_
          refine WO.skip rfl rfl ?_
          refine WO.skip rfl rfl ?_
          refine WO.skip rfl rfl ?_
          refine WO.skip rfl rfl ?_
          refine WO.skip rfl rfl ?_
          refine WO.s0 (v' := .d (.bool false)) rfl rfl (fun _ => rfl) rfl ?_
          refine WO.s0 (v' := .d (.bool false)) rfl rfl (fun _ => rfl) rfl ?_
          refine WO.skip rfl rfl ?_
          refine WO.skip rfl rfl ?_
          refine WO.s0 (v' := .d (.bool false)) rfl rfl (fun _ => rfl) rfl ?_
          refine WO.s0 (v' := .d (.bool false)) rfl rfl (fun _ => rfl) rfl ?_
          refine WO.skip rfl rfl ?_
          refine WO.s0 (v' := .d (.bool false)) rfl rfl (fun _ => rfl) rfl ?_
          refine WO.s0 (v' := .d (.bool false)) rfl rfl (fun _ => rfl) rfl ?_
          refine WO.skip rfl rfl ?_
          refine WO.s0 (v' := .d (.bool false)) rfl rfl (fun _ => rfl) rfl ?_
          refine WO.s0 (v' := .d (.bool false)) rfl rfl (fun _ => rfl) rfl ?_
          refine WO.nil ?_
          refine WC.ret ?_
          obtain rfl := Option.some.inj h
          exact WC.done rfl rfl rfl
      · refine WO.s0 (v' := .d (.bool false)) rfl rfl (fun _ => rfl) (congrArg (fun b => RV.d (.bool b)) hb13) ?_
        refine WO.s0 (v' := .d (.bool false)) rfl rfl (fun _ => rfl) rfl ?_
        refine WO.skip rfl rfl ?_
        refine WO.skip rfl rfl ?_
        refine WO.skip rfl rfl ?_
        refine WO.s0 (v' := .d (.bool false)) rfl rfl (fun _ => rfl) rfl ?_
        refine WO.s0 (v' := .d (.bool false)) rfl rfl (fun _ => rfl) rfl ?_
        refine WO.skip rfl rfl ?_
        refine WO.skip rfl rfl ?_
        refine WO.s0 (v' := .d (.bool false)) rfl rfl (fun _ => rfl) rfl ?_
        refine WO.s0 (v' := .d (.bool false)) rfl rfl (fun _ => rfl) rfl ?_
        refine WO.skip rfl rfl ?_
        refine WO.s0 (v' := .d (.bool false)) rfl rfl (fun _ => rfl) rfl ?_
        refine WO.s0 (v' := .d (.bool false)) rfl rfl (fun _ => rfl) rfl ?_
        refine WO.skip rfl rfl ?_
        refine WO.skip rfl rfl ?_
        refine WO.s0 (v' := .d (.bool false)) rfl rfl (fun _ => rfl) rfl ?_
        refine WO.s0 (v' := .d (.bool false)) rfl rfl (fun _ => rfl) rfl ?_
        refine WO.skip rfl rfl ?_
        refine WO.skip rfl rfl ?_
        refine WO.skip rfl rfl ?_
        refine WO.skip rfl rfl ?_
        refine WO.skip rfl rfl ?_
        refine WO.s0 (v' := .d (.bool false)) rfl rfl (fun _ => rfl) rfl ?_
        refine WO.s0 (v' := .d (.bool false)) rfl rfl (fun _ => rfl) rfl ?_
        refine WO.skip rfl rfl ?_
        refine WO.skip rfl rfl ?_
        refine WO.s0 (v' := .d (.bool false)) rfl rfl (fun _ => rfl) rfl ?_
        refine WO.s0 (v' := .d (.bool false)) rfl rfl (fun _ => rfl) rfl ?_
        refine WO.skip rfl rfl ?_
        refine WO.s0 (v' := .d (.bool false)) rfl rfl (fun _ => rfl) rfl ?_
        refine WO.s0 (v' := .d (.bool false)) rfl rfl (fun _ => rfl) rfl ?_
        refine WO.skip rfl rfl ?_
        refine WO.s0 (v' := .d (.bool false)) rfl rfl (fun _ => rfl) rfl ?_
        refine WO.s0 (v' := .d (.bool false)) rfl rfl (fun _ => rfl) rfl ?_
        refine WO.nil ?_
        refine WC.ret ?_
        obtain rfl := Option.some.inj h
        exact WC.done rfl rfl rfl
    · refine WO.s0 (v' := .d (.bool false)) rfl rfl (fun _ => rfl) (congrArg (fun b => RV.d (.bool b)) hb12) ?_
      refine WO.s0 (v' := .d (.bool false)) rfl rfl (fun _ => rfl) rfl ?_
      refine WO.skip rfl rfl ?_
      refine WO.skip rfl rfl ?_
      refine WO.s0 (v' := .d (.bool false)) rfl rfl (fun _ => rfl) rfl ?_
      refine WO.s0 (v' := .d (.bool false)) rfl rfl (fun _ => rfl) rfl ?_
      refine WO.skip rfl rfl ?_
      refine WO.skip rfl rfl ?_
      refine WO.skip rfl rfl ?_
      refine WO.s0 (v' := .d (.bool false)) rfl rfl (fun _ => rfl) rfl ?_
      refine WO.s0 (v' := .d (.bool false)) rfl rfl (fun _ => rfl) rfl ?_
      refine WO.skip rfl rfl ?_
      refine WO.skip rfl rfl ?_
      refine WO.s0 (v' := .d (.bool false)) rfl rfl (fun _ => rfl) rfl ?_
      refine WO.s0 (v' := .d (.bool false)) rfl rfl (fun _ => rfl) rfl ?_
      refine WO.skip rfl rfl ?_
      refine WO.s0 (v' := .d (.bool false)) rfl rfl (fun _ => rfl) rfl ?_
      refine WO.s0 (v' := .d (.bool false)) rfl rfl (fun _ => rfl) rfl ?_
      refine WO.skip rfl rfl ?_
      refine WO.skip rfl rfl ?_
      refine WO.s0 (v' := .d (.bool false)) rfl rfl (fun _ => rfl) rfl ?_
      refine WO.s0 (v' := .d (.bool false)) rfl rfl (fun _ => rfl) rfl ?_
      refine WO.skip rfl rfl ?_
      refine WO.skip rfl rfl ?_
      refine WO.skip rfl rfl ?_
      refine WO.skip rfl rfl ?_
      refine WO.skip rfl rfl ?_
      refine WO.s0 (v' := .d (.bool false)) rfl rfl (fun _ => rfl) rfl ?_
      refine WO.s0 (v' := .d (.bool false)) rfl rfl (fun _ => rfl) rfl ?_
      refine WO.skip rfl rfl ?_
      refine WO.skip rfl rfl ?_
      refine WO.s0 (v' := .d (.bool false)) rfl rfl (fun _ => rfl) rfl ?_
      refine WO.s0 (v' := .d (.bool false)) rfl rfl (fun _ => rfl) rfl ?_
      refine WO.skip rfl rfl ?_
      refine WO.s0 (v' := .d (.bool false)) rfl rfl (fun _ => rfl) rfl ?_
      refine WO.s0 (v' := .d (.bool false)) rfl rfl (fun _ => rfl) rfl ?_
      refine WO.skip rfl rfl ?_
      refine WO.s0 (v' := .d (.bool false)) rfl rfl (fun _ => rfl) rfl ?_
      refine WO.s0 (v' := .d (.bool false)) rfl rfl (fun _ => rfl) rfl ?_
      refine WO.nil ?_
      refine WC.ret ?_
      obtain rfl := Option.some.inj h
      exact WC.done rfl rfl rfl
theorem ref03_compare_ev {a0 : (List UInt8)} {a1 : (List UInt8)} {r : Int} (h : ref03_compare a0 a1 = some r) : EvP prog hints ext 44 [.d (.str a0), .d (.str a1)] [] (.d (.int .i64 r), []) := by
  refine Ev.body rfl Tryd.func44 rfl (by kernel_rfl) ?_
  refine WC.regionSeq rfl rfl ?_
  refine WO.s0 (v' := .d (.int .i64 0)) rfl rfl (fun _ => rfl) rfl ?_
  refine WO.nil ?_
  refine WC.seq ?_
  refine WC.block ?_
  refine WC.regionSeq rfl rfl ?_
  refine WO.s0 (v' := .d (.str a0)) rfl rfl (fun _ => rfl) rfl ?_
  refine WO.s0 (v' := .d (.str a1)) rfl rfl (fun _ => rfl) rfl ?_
  refine ite_elim h (fun hb1 h => ?_) (fun hb1 h => ?_)
  · refine WO.s0 (v' := .d (.bool true)) rfl rfl (fun _ => rfl) (congrArg (fun b => RV.d (.bool b)) hb1) ?_
    refine WO.s0 (v' := .d (.bool true)) rfl rfl (fun _ => rfl) rfl ?_
    refine WO.nil ?_
    refine WC.condT rfl ?_
    refine WC.regionSeq rfl rfl ?_
    refine WO.s0 (v' := .d (.int .i64 (-1))) rfl rfl (fun _ => rfl) rfl ?_
    refine WO.nil ?_
    refine WC.ret ?_
    obtain rfl := Option.some.inj h
    exact WC.done rfl rfl rfl
  · refine WO.s0 (v' := .d (.bool false)) rfl rfl (fun _ => rfl) (congrArg (fun b => RV.d (.bool b)) hb1) ?_
    refine WO.s0 (v' := .d (.bool false)) rfl rfl (fun _ => rfl) rfl ?_
    refine WO.nil ?_
    refine WC.condF rfl ?_
    refine WC.regionSeq rfl rfl ?_
    refine WO.s0 (v' := .d (.str a0)) rfl rfl (fun _ => rfl) rfl ?_
    refine WO.s0 (v' := .d (.str a1)) rfl rfl (fun _ => rfl) rfl ?_
    refine ite_elim h (fun hb2 h => ?_) (fun hb2 h => ?_)
    · refine WO.s0 (v' := .d (.bool true)) rfl rfl (fun _ => rfl) (congrArg (fun b => RV.d (.bool b)) hb2) ?_
      refine WO.s0 (v' := .d (.bool true)) rfl rfl (fun _ => rfl) rfl ?_
      refine WO.nil ?_
      refine WC.condT rfl ?_
      refine WC.regionSeq rfl rfl ?_
      refine WO.s0 (v' := .d (.int .i64 1)) rfl rfl (fun _ => rfl) rfl ?_
      refine WO.nil ?_
      refine WC.ret ?_
      obtain rfl := Option.some.inj h
      exact WC.done rfl rfl rfl
    · refine WO.s0 (v' := .d (.bool false)) rfl rfl (fun _ => rfl) (congrArg (fun b => RV.d (.bool b)) hb2) ?_
      refine WO.s0 (v' := .d (.bool false)) rfl rfl (fun _ => rfl) rfl ?_
      refine WO.nil ?_
      refine WC.condF rfl ?_
      refine WC.skip ?_
      refine WC.regionSeq rfl rfl ?_
      refine WO.s0 (v' := .d (.int .i64 0)) rfl rfl (fun _ => rfl) rfl ?_
      refine WO.nil ?_
      refine WC.ret ?_
      obtain rfl := Option.some.inj h
      exact WC.done rfl rfl rfl
theorem ref03_Compare_ev {a0 : T_api_SourceID} {a1 : T_api_SourceID} {r : Int} (h : ref03_Compare a0 a1 = some r) : EvP prog hints ext 23 [.d (T_api_SourceID.pd a0), .d (T_api_SourceID.pd a1)] [] (.d (.int .i64 r), []) := by
  refine Ev.body rfl Tryd.func23 rfl (by kernel_rfl) ?_
  refine WC.regionSeq rfl rfl ?_
  refine WO.s1 (v := .ptr 32 0) (id := 32) (bx := .var [.d (.str a0.fNetwork), .d (.str a0.fStation), .d (.str a0.fLocation), .d (.str a0.fChannel)]) rfl rfl (fun _ => rfl) ?_
  refine WO.s1 (v := .ptr 48 0) (id := 48) (bx := .var [.d (.str a1.fNetwork), .d (.str a1.fStation), .d (.str a1.fLocation), .d (.str a1.fChannel)]) rfl rfl (fun _ => rfl) ?_
  refine WO.s0 (v' := .d (.int .i64 0)) rfl rfl (fun _ => rfl) rfl ?_
  refine WO.nil ?_
  refine WC.seq ?_
  refine WC.regionDSeq rfl rfl ?_
  refine WO.s0 (v' := .ptr 32 0) rfl rfl (fun _ => rfl) rfl ?_
  refine WO.s0 (v' := .d (.str a0.fNetwork)) rfl rfl (fun _ => rfl) rfl ?_
  refine WO.s0 (v' := .ptr 48 0) rfl rfl (fun _ => rfl) rfl ?_
  refine WO.s0 (v' := .d (.str a1.fNetwork)) rfl rfl (fun _ => rfl) rfl ?_
  refine bind_elim h (fun x1 hx1 h => ?_)
  refine WO.callR (v := .d (.int .i64 x1)) (u := []) rfl rfl (fun _ => rfl) rfl rfl rfl rfl rfl (ref03_compare_ev hx1) rfl rfl rfl rfl ?_
  refine WO.s0 (v' := .ptr 32 1) rfl rfl (fun _ => rfl) rfl ?_
  refine WO.s0 (v' := .d (.str a0.fStation)) rfl rfl (fun _ => rfl) rfl ?_
  refine WO.s0 (v' := .ptr 48 1) rfl rfl (fun _ => rfl) rfl ?_
  refine WO.s0 (v' := .d (.str a1.fStation)) rfl rfl (fun _ => rfl) rfl ?_
  refine bind_elim h (fun x2 hx2 h => ?_)
  refine WO.callR (v := .d (.int .i64 x2)) (u := []) rfl rfl (fun _ => rfl) rfl rfl rfl rfl rfl (ref03_compare_ev hx2) rfl rfl rfl rfl ?_
  refine WO.s0 (v' := .ptr 32 2) rfl rfl (fun _ => rfl) rfl ?_
  refine WO.s0 (v' := .d (.str a0.fLocation)) rfl rfl (fun _ => rfl) rfl ?_
  refine WO.s0 (v' := .ptr 48 2) rfl rfl (fun _ => rfl) rfl ?_
  refine WO.s0 (v' := .d (.str a1.fLocation)) rfl rfl (fun _ => rfl) rfl ?_
  refine bind_elim h (fun x3 hx3 h => ?_)
  refine WO.callR (v := .d (.int .i64 x3)) (u := []) rfl rfl (fun _ => rfl) rfl rfl rfl rfl rfl (ref03_compare_ev hx3) rfl rfl rfl rfl ?_
  refine WO.s0 (v' := .ptr 32 3) rfl rfl (fun _ => rfl) rfl ?_
  refine WO.s0 (v' := .d (.str a0.fChannel)) rfl rfl (fun _ => rfl) rfl ?_
  refine WO.s0 (v' := .ptr 48 3) rfl rfl (fun _ => rfl) rfl ?_
  refine WO.s0 (v' := .d (.str a1.fChannel)) rfl rfl (fun _ => rfl) rfl ?_
  refine bind_elim h (fun x4 hx4 h => ?_)
  refine WO.callR (v := .d (.int .i64 x4)) (u := []) rfl rfl (fun _ => rfl) rfl rfl rfl rfl rfl (ref03_compare_ev hx4) rfl rfl rfl rfl ?_
  refine WO.s0 (v' := .d (A4_Int.pd (A4_Int.mk x1 x2 x3 x4))) rfl rfl (fun _ => rfl) rfl ?_
  refine WO.s0 (v' := .d (.int .i64 0)) rfl rfl (fun _ => rfl) rfl ?_
  refine WO.nil ⟨by kernel_rfl, ?_⟩
  refine WC.block (WC.loop ?_)
  refine WL.round ?_
  refine WC.regionSeq rfl rfl ?_
  refine WO.s0 (v' := .d (.bool true)) rfl rfl (fun _ => rfl) rfl ?_
  refine WO.nil ?_
  refine WC.seq ?_
  refine WC.condT rfl ?_
  refine WC.skip ?_
  refine WC.seq ?_
  refine WC.block ?_
  refine WC.regionSeq rfl rfl ?_
  refine WO.s0 (v' := .d (.int .i64 ((A4_Int.mk x1 x2 x3 x4).a0))) rfl rfl (fun _ => rfl) rfl ?_
  refine WO.s0 (v' := .d (.int .i64 ((A4_Int.mk x1 x2 x3 x4).a0))) rfl rfl (fun _ => rfl) rfl ?_
  refine WO.nil ?_
  refine WC.regionSeq rfl rfl ?_
  refine WO.s0 (v' := .d (.int .i64 ((A4_Int.mk x1 x2 x3 x4).a0))) rfl rfl (fun _ => rfl) rfl ?_
  refine ite_elim h (fun hb5 h => ?_) (fun hb5 h => ?_)
  · refine WO.s0 (v' := .d (.bool true)) rfl rfl (fun _ => rfl) (congrArg (fun b => RV.d (.bool b)) hb5) ?_
    refine WO.nil ?_
    refine WC.condT rfl ?_
    refine WC.regionSeq rfl rfl ?_
    refine WO.s0 (v' := .d (.int .i64 ((A4_Int.mk x1 x2 x3 x4).a0))) rfl rfl (fun _ => rfl) rfl ?_
    refine WO.s0 (v' := .d (.int .i64 ((A4_Int.mk x1 x2 x3 x4).a0))) rfl rfl (fun _ => rfl) rfl ?_
    refine WO.nil ?_
    refine WC.ret ?_
    obtain rfl := Option.some.inj h
    exact WC.done rfl rfl rfl
  · refine WO.s0 (v' := .d (.bool false)) rfl rfl (fun _ => rfl) (congrArg (fun b => RV.d (.bool b)) hb5) ?_
    refine WO.nil ?_
    refine WC.condF rfl ?_
    refine WC.skip ?_
    refine WC.region rfl rfl ?_
    refine WO.s0 (v' := .d (.int .i64 1)) rfl rfl (fun _ => rfl) rfl ?_
    refine WO.s0 (v' := .d (.int .i64 1)) rfl rfl (fun _ => rfl) rfl ?_
    refine WO.nil ?_
    refine WL.round ?_
    refine WC.regionSeq rfl rfl ?_
    refine WO.s0 (v' := .d (.bool true)) rfl rfl (fun _ => rfl) rfl ?_
    refine WO.nil ?_
    refine WC.seq ?_
    refine WC.condT rfl ?_
    refine WC.skip ?_
    refine WC.seq ?_
    refine WC.block ?_
    refine WC.regionSeq rfl rfl ?_
    refine WO.s0 (v' := .d (.int .i64 ((A4_Int.mk x1 x2 x3 x4).a1))) rfl rfl (fun _ => rfl) rfl ?_
    refine WO.s0 (v' := .d (.int .i64 ((A4_Int.mk x1 x2 x3 x4).a1))) rfl rfl (fun _ => rfl) rfl ?_
    refine WO.nil ?_
    refine WC.regionSeq rfl rfl ?_
    refine WO.s0 (v' := .d (.int .i64 ((A4_Int.mk x1 x2 x3 x4).a1))) rfl rfl (fun _ => rfl) rfl ?_
    refine ite_elim h (fun hb6 h => ?_) (fun hb6 h => ?_)
    · refine WO.s0 (v' := .d (.bool true)) rfl rfl (fun _ => rfl) (congrArg (fun b => RV.d (.bool b)) hb6) ?_
      refine WO.nil ?_
      refine WC.condT rfl ?_
      refine WC.regionSeq rfl rfl ?_
      refine WO.s0 (v' := .d (.int .i64 ((A4_Int.mk x1 x2 x3 x4).a1))) rfl rfl (fun _ => rfl) rfl ?_
      refine WO.s0 (v' := .d (.int .i64 ((A4_Int.mk x1 x2 x3 x4).a1))) rfl rfl (fun _ => rfl) rfl ?_
      refine WO.nil ?_
      refine WC.ret ?_
      obtain rfl := Option.some.inj h
      exact WC.done rfl rfl rfl
    · refine WO.s0 (v' := .d (.bool false)) rfl rfl (fun _ => rfl) (congrArg (fun b => RV.d (.bool b)) hb6) ?_
      refine WO.nil ?_
      refine WC.condF rfl ?_
      refine WC.skip ?_
      refine WC.region rfl rfl ?_
      refine WO.s0 (v' := .d (.int .i64 2)) rfl rfl (fun _ => rfl) rfl ?_
      refine WO.s0 (v' := .d (.int .i64 2)) rfl rfl (fun _ => rfl) rfl ?_
      refine WO.nil ?_
      refine WL.round ?_
      refine WC.regionSeq rfl rfl ?_
      refine WO.s0 (v' := .d (.bool true)) rfl rfl (fun _ => rfl) rfl ?_
      refine WO.nil ?_
      refine WC.seq ?_
      refine WC.condT rfl ?_
      refine WC.skip ?_
      refine WC.seq ?_
      refine WC.block ?_
      refine WC.regionSeq rfl rfl ?_
      refine WO.s0 (v' := .d (.int .i64 ((A4_Int.mk x1 x2 x3 x4).a2))) rfl rfl (fun _ => rfl) rfl ?_
      refine WO.s0 (v' := .d (.int .i64 ((A4_Int.mk x1 x2 x3 x4).a2))) rfl rfl (fun _ => rfl) rfl ?_
      refine WO.nil ?_
      refine WC.regionSeq rfl rfl ?_
      refine WO.s0 (v' := .d (.int .i64 ((A4_Int.mk x1 x2 x3 x4).a2))) rfl rfl (fun _ => rfl) rfl ?_
      refine ite_elim h (fun hb7 h => ?_) (fun hb7 h => ?_)
      · refine WO.s0 (v' := .d (.bool true)) rfl rfl (fun _ => rfl) (congrArg (fun b => RV.d (.bool b)) hb7) ?_
        refine WO.nil ?_
        refine WC.condT rfl ?_
        refine WC.regionSeq rfl rfl ?_
        refine WO.s0 (v' := .d (.int .i64 ((A4_Int.mk x1 x2 x3 x4).a2))) rfl rfl (fun _ => rfl) rfl ?_
        refine WO.s0 (v' := .d (.int .i64 ((A4_Int.mk x1 x2 x3 x4).a2))) rfl rfl (fun _ => rfl) rfl ?_
        refine WO.nil ?_
        refine WC.ret ?_
        obtain rfl := Option.some.inj h
        exact WC.done rfl rfl rfl
      · refine WO.s0 (v' := .d (.bool false)) rfl rfl (fun _ => rfl) (congrArg (fun b => RV.d (.bool b)) hb7) ?_
        refine WO.nil ?_
        refine WC.condF rfl ?_
        refine WC.skip ?_
        refine WC.region rfl rfl ?_
        refine WO.s0 (v' := .d (.int .i64 3)) rfl rfl (fun _ => rfl) rfl ?_
        refine WO.s0 (v' := .d (.int .i64 3)) rfl rfl (fun _ => rfl) rfl ?_
        refine WO.nil ?_
        refine WL.round ?_
        refine WC.regionSeq rfl rfl ?_
        refine WO.s0 (v' := .d (.bool true)) rfl rfl (fun _ => rfl) rfl ?_
        refine WO.nil ?_
        refine WC.seq ?_
        refine WC.condT rfl ?_
        refine WC.skip ?_
        refine WC.seq ?_
        refine WC.block ?_
        refine WC.regionSeq rfl rfl ?_
        refine WO.s0 (v' := .d (.int .i64 ((A4_Int.mk x1 x2 x3 x4).a3))) rfl rfl (fun _ => rfl) rfl ?_
        refine WO.s0 (v' := .d (.int .i64 ((A4_Int.mk x1 x2 x3 x4).a3))) rfl rfl (fun _ => rfl) rfl ?_
        refine WO.nil ?_
        refine WC.regionSeq rfl rfl ?_
        refine WO.s0 (v' := .d (.int .i64 ((A4_Int.mk x1 x2 x3 x4).a3))) rfl rfl (fun _ => rfl) rfl ?_
        refine ite_elim h (fun hb8 h => ?_) (fun hb8 h => ?_)
        · refine WO.s0 (v' := .d (.bool true)) rfl rfl (fun _ => rfl) (congrArg (fun b => RV.d (.bool b)) hb8) ?_
          refine WO.nil ?_
          refine WC.condT rfl ?_
          refine WC.regionSeq rfl rfl ?_
          refine WO.s0 (v' := .d (.int .i64 ((A4_Int.mk x1 x2 x3 x4).a3))) rfl rfl (fun _ => rfl) rfl ?_
          refine WO.s0 (v' := .d (.int .i64 ((A4_Int.mk x1 x2 x3 x4).a3))) rfl rfl (fun _ => rfl) rfl ?_
          refine WO.nil ?_
          refine WC.ret ?_
          obtain rfl := Option.some.inj h
          exact WC.done rfl rfl rfl
        · refine WO.s0 (v' := .d (.bool false)) rfl rfl (fun _ => rfl) (congrArg (fun b => RV.d (.bool b)) hb8) ?_
          refine WO.nil ?_
          refine WC.condF rfl ?_
          refine WC.skip ?_
          refine WC.region rfl rfl ?_
          refine WO.s0 (v' := .d (.int .i64 4)) rfl rfl (fun _ => rfl) rfl ?_
          refine WO.s0 (v' := .d (.int .i64 4)) rfl rfl (fun _ => rfl) rfl ?_
          refine WO.nil ?_
          refine WL.round ?_
          refine WC.regionSeq rfl rfl ?_
          refine WO.s0 (v' := .d (.bool false)) rfl rfl (fun _ => rfl) rfl ?_
          refine WO.nil ?_
          refine WC.seq ?_
          refine WC.condF rfl ?_
          refine WC.exit ?_
          refine ⟨fun _ => ?_, fun hne => (hne rfl).elim⟩
          refine WC.regionSeq rfl rfl ?_
          refine WO.s0 (v' := .d (.int .i64 0)) rfl rfl (fun _ => rfl) rfl ?_
          refine WO.nil ?_
          refine WC.ret ?_
          obtain rfl := Option.some.inj h
          exact WC.done rfl rfl rfl
end Go.Dw.Sr
