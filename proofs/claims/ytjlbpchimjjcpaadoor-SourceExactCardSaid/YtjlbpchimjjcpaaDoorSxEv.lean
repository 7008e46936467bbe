/- SxEv: the code computes what the plain functions say, further (written by lift.py). -/
import Derived.Test.YtjlbpchimjjcpaaDoorSxEvA
set_option maxRecDepth 100000
set_option maxHeartbeats 4000000
namespace Go.Dw.Sx
open Go.Proofs Go.Proofs.Tryd Go.Dw
theorem ref03_Compare_ev {a0 : T_api_SourceID} {a1 : T_api_SourceID} {r : Int} (h : ref03_Compare a0 a1 = some r) : EvP prog hints ext 23 [.d (T_api_SourceID.pd a0), .d (T_api_SourceID.pd a1)] [] (.d (.int .i64 r), []) := by
  refine Ev.body rfl Tryd.func23 rfl (by kernel_rfl) ?_
  refine WC.regionSeq rfl rfl ?_
  refine WO.s1 (v := .ptr 32 0) (id := 32) (bx := .var [.d (.str a0.fNetwork), .d (.str a0.fStation), .d (.str a0.fLocation), .d (.str a0.fChannel)]) rfl rfl (fun _ => rfl) ?_
  refine WO.s1 (v := .ptr 48 0) (id := 48) (bx := .var [.d (.str a1.fNetwork), .d (.str a1.fStation), .d (.str a1.fLocation), .d (.str a1.fChannel)]) rfl rfl (fun _ => rfl) ?_
  refine WO.s0 (v' := .d (.int .i64 0)) rfl rfl (fun _ => rfl) rfl ?_
  refine WO.nil ?_
  refine WC.seq ?_
  refine WC.regionDSeq rfl rfl ?_
  refine WO.s0 (v' := .ptr 32 0) rfl rfl (fun _ => rfl) rfl ?_
  refine WO.s0 (v' := .d (.str a0.fNetwork)) rfl rfl (fun _ => rfl) rfl ?_
  refine WO.s0 (v' := .ptr 48 0) rfl rfl (fun _ => rfl) rfl ?_
  refine WO.s0 (v' := .d (.str a1.fNetwork)) rfl rfl (fun _ => rfl) rfl ?_
  refine bind_elim h (fun x1 hx1 h => ?_)
  refine WO.callR (v := .d (.int .i64 x1)) (u := []) rfl rfl (fun _ => rfl) rfl rfl rfl rfl rfl (ref03_compare_ev hx1) rfl rfl rfl rfl ?_
  refine WO.s0 (v' := .ptr 32 1) rfl rfl (fun _ => rfl) rfl ?_
  refine WO.s0 (v' := .d (.str a0.fStation)) rfl rfl (fun _ => rfl) rfl ?_
  refine WO.s0 (v' := .ptr 48 1) rfl rfl (fun _ => rfl) rfl ?_
  refine WO.s0 (v' := .d (.str a1.fStation)) rfl rfl (fun _ => rfl) rfl ?_
  refine bind_elim h (fun x2 hx2 h => ?_)
  refine WO.callR (v := .d (.int .i64 x2)) (u := []) rfl rfl (fun _ => rfl) rfl rfl rfl rfl rfl (ref03_compare_ev hx2) rfl rfl rfl rfl ?_
  refine WO.s0 (v' := .ptr 32 2) rfl rfl (fun _ => rfl) rfl ?_
  refine WO.s0 (v' := .d (.str a0.fLocation)) rfl rfl (fun _ => rfl) rfl ?_
  refine WO.s0 (v' := .ptr 48 2) rfl rfl (fun _ => rfl) rfl ?_
  refine WO.s0 (v' := .d (.str a1.fLocation)) rfl rfl (fun _ => rfl) rfl ?_
  refine bind_elim h (fun x3 hx3 h => ?_)
  refine WO.callR (v := .d (.int .i64 x3)) (u := []) rfl rfl (fun _ => rfl) rfl rfl rfl rfl rfl (ref03_compare_ev hx3) rfl rfl rfl rfl ?_
  refine WO.s0 (v' := .ptr 32 3) rfl rfl (fun _ => rfl) rfl ?_
  refine WO.s0 (v' := .d (.str a0.fChannel)) rfl rfl (fun _ => rfl) rfl ?_
  refine WO.s0 (v' := .ptr 48 3) rfl rfl (fun _ => rfl) rfl ?_
  refine WO.s0 (v' := .d (.str a1.fChannel)) rfl rfl (fun _ => rfl) rfl ?_
  refine bind_elim h (fun x4 hx4 h => ?_)
  refine WO.callR (v := .d (.int .i64 x4)) (u := []) rfl rfl (fun _ => rfl) rfl rfl rfl rfl rfl (ref03_compare_ev hx4) rfl rfl rfl rfl ?_
  refine WO.s0 (v' := .d (A4_Int.pd (A4_Int.mk x1 x2 x3 x4))) rfl rfl (fun _ => rfl) rfl ?_
  refine WO.s0 (v' := .d (.int .i64 0)) rfl rfl (fun _ => rfl) rfl ?_
  refine WO.nil ⟨by kernel_rfl, ?_⟩
  refine WC.block (WC.loop ?_)
  refine WL.round ?_
  refine WC.regionSeq rfl rfl ?_
  refine WO.s0 (v' := .d (.bool true)) rfl rfl (fun _ => rfl) rfl ?_
  refine WO.nil ?_
  refine WC.seq ?_
  refine WC.condT rfl ?_
  refine WC.skip ?_
  refine WC.seq ?_
  refine WC.block ?_
  refine WC.regionSeq rfl rfl ?_
  refine WO.s0 (v' := .d (.int .i64 ((A4_Int.mk x1 x2 x3 x4).a0))) rfl rfl (fun _ => rfl) rfl ?_
  refine WO.s0 (v' := .d (.int .i64 ((A4_Int.mk x1 x2 x3 x4).a0))) rfl rfl (fun _ => rfl) rfl ?_
  refine WO.nil ?_
  refine WC.regionSeq rfl rfl ?_
  refine WO.s0 (v' := .d (.int .i64 ((A4_Int.mk x1 x2 x3 x4).a0))) rfl rfl (fun _ => rfl) rfl ?_
  refine ite_elim h (fun hb5 h => ?_) (fun hb5 h => ?_)
  · refine WO.s0 (v' := .d (.bool true)) rfl rfl (fun _ => rfl) (congrArg (fun b => RV.d (.bool b)) hb5) ?_
    refine WO.nil ?_
    refine WC.condT rfl ?_
    refine WC.regionSeq rfl rfl ?_
    refine WO.s0 (v' := .d (.int .i64 ((A4_Int.mk x1 x2 x3 x4).a0))) rfl rfl (fun _ => rfl) rfl ?_
    refine WO.s0 (v' := .d (.int .i64 ((A4_Int.mk x1 x2 x3 x4).a0))) rfl rfl (fun _ => rfl) rfl ?_
    refine WO.nil ?_
    refine WC.ret ?_
    obtain rfl := Option.some.inj h
    exact WC.done rfl rfl rfl
  · refine WO.s0 (v' := .d (.bool false)) rfl rfl (fun _ => rfl) (congrArg (fun b => RV.d (.bool b)) hb5) ?_
    refine WO.nil ?_
    refine WC.condF rfl ?_
    refine WC.skip ?_
    refine WC.region rfl rfl ?_
    refine WO.s0 (v' := .d (.int .i64 1)) rfl rfl (fun _ => rfl) rfl ?_
    refine WO.s0 (v' := .d (.int .i64 1)) rfl rfl (fun _ => rfl) rfl ?_
    refine WO.nil ?_
    refine WL.round ?_
    refine WC.regionSeq rfl rfl ?_
    refine WO.s0 (v' := .d (.bool true)) rfl rfl (fun _ => rfl) rfl ?_
    refine WO.nil ?_
    refine WC.seq ?_
    refine WC.condT rfl ?_
    refine WC.skip ?_
    refine WC.seq ?_
    refine WC.block ?_
    refine WC.regionSeq rfl rfl ?_
    refine WO.s0 (v' := .d (.int .i64 ((A4_Int.mk x1 x2 x3 x4).a1))) rfl rfl (fun _ => rfl) rfl ?_
    refine WO.s0 (v' := .d (.int .i64 ((A4_Int.mk x1 x2 x3 x4).a1))) rfl rfl (fun _ => rfl) rfl ?_
    refine WO.nil ?_
    refine WC.regionSeq rfl rfl ?_
    refine WO.s0 (v' := .d (.int .i64 ((A4_Int.mk x1 x2 x3 x4).a1))) rfl rfl (fun _ => rfl) rfl ?_
    refine ite_elim h (fun hb6 h => ?_) (fun hb6 h => ?_)
    · refine WO.s0 (v' := .d (.bool true)) rfl rfl (fun _ => rfl) (congrArg (fun b => RV.d (.bool b)) hb6) ?_
      refine WO.nil ?_
      refine WC.condT rfl ?_
      refine WC.regionSeq rfl rfl ?_
      refine WO.s0 (v' := .d (.int .i64 ((A4_Int.mk x1 x2 x3 x4).a1))) rfl rfl (fun _ => rfl) rfl ?_
      refine WO.s0 (v' := .d (.int .i64 ((A4_Int.mk x1 x2 x3 x4).a1))) rfl rfl (fun _ => rfl) rfl ?_
      refine WO.nil ?_
      refine WC.ret ?_
      obtain rfl := Option.some.inj h
      exact WC.done rfl rfl rfl
    · refine WO.s0 (v' := .d (.bool false)) rfl rfl (fun _ => rfl) (congrArg (fun b => RV.d (.bool b)) hb6) ?_
      refine WO.nil ?_
      refine WC.condF rfl ?_
      refine WC.skip ?_
      refine WC.region rfl rfl ?_
      refine WO.s0 (v' := .d (.int .i64 2)) rfl rfl (fun _ => rfl) rfl ?_
      refine WO.s0 (v' := .d (.int .i64 2)) rfl rfl (fun _ => rfl) rfl ?_
      refine WO.nil ?_
      refine WL.round ?_
      refine WC.regionSeq rfl rfl ?_
      refine WO.s0 (v' := .d (.bool true)) rfl rfl (fun _ => rfl) rfl ?_
      refine WO.nil ?_
      refine WC.seq ?_
      refine WC.condT rfl ?_
      refine WC.skip ?_
      refine WC.seq ?_
      refine WC.block ?_
      refine WC.regionSeq rfl rfl ?_
      refine WO.s0 (v' := .d (.int .i64 ((A4_Int.mk x1 x2 x3 x4).a2))) rfl rfl (fun _ => rfl) rfl ?_
      refine WO.s0 (v' := .d (.int .i64 ((A4_Int.mk x1 x2 x3 x4).a2))) rfl rfl (fun _ => rfl) rfl ?_
      refine WO.nil ?_
      refine WC.regionSeq rfl rfl ?_
      refine WO.s0 (v' := .d (.int .i64 ((A4_Int.mk x1 x2 x3 x4).a2))) rfl rfl (fun _ => rfl) rfl ?_
      refine ite_elim h (fun hb7 h => ?_) (fun hb7 h => ?_)
      · refine WO.s0 (v' := .d (.bool true)) rfl rfl (fun _ => rfl) (congrArg (fun b => RV.d (.bool b)) hb7) ?_
        refine WO.nil ?_
        refine WC.condT rfl ?_
        refine WC.regionSeq rfl rfl ?_
        refine WO.s0 (v' := .d (.int .i64 ((A4_Int.mk x1 x2 x3 x4).a2))) rfl rfl (fun _ => rfl) rfl ?_
        refine WO.s0 (v' := .d (.int .i64 ((A4_Int.mk x1 x2 x3 x4).a2))) rfl rfl (fun _ => rfl) rfl ?_
        refine WO.nil ?_
        refine WC.ret ?_
        obtain rfl := Option.some.inj h
        exact WC.done rfl rfl rfl
      · refine WO.s0 (v' := .d (.bool false)) rfl rfl (fun _ => rfl) (congrArg (fun b => RV.d (.bool b)) hb7) ?_
        refine WO.nil ?_
        refine WC.condF rfl ?_
        refine WC.skip ?_
        refine WC.region rfl rfl ?_
        refine WO.s0 (v' := .d (.int .i64 3)) rfl rfl (fun _ => rfl) rfl ?_
        refine WO.s0 (v' := .d (.int .i64 3)) rfl rfl (fun _ => rfl) rfl ?_
        refine WO.nil ?_
        refine WL.round ?_
        refine WC.regionSeq rfl rfl ?_
        refine WO.s0 (v' := .d (.bool true)) rfl rfl (fun _ => rfl) rfl ?_
        refine WO.nil ?_
        refine WC.seq ?_
        refine WC.condT rfl ?_
        refine WC.skip ?_
        refine WC.seq ?_
        refine WC.block ?_
        refine WC.regionSeq rfl rfl ?_
        refine WO.s0 (v' := .d (.int .i64 ((A4_Int.mk x1 x2 x3 x4).a3))) rfl rfl (fun _ => rfl) rfl ?_
        refine WO.s0 (v' := .d (.int .i64 ((A4_Int.mk x1 x2 x3 x4).a3))) rfl rfl (fun _ => rfl) rfl ?_
        refine WO.nil ?_
        refine WC.regionSeq rfl rfl ?_
        refine WO.s0 (v' := .d (.int .i64 ((A4_Int.mk x1 x2 x3 x4).a3))) rfl rfl (fun _ => rfl) rfl ?_
        refine ite_elim h (fun hb8 h => ?_) (fun hb8 h => ?_)
        · refine WO.s0 (v' := .d (.bool true)) rfl rfl (fun _ => rfl) (congrArg (fun b => RV.d (.bool b)) hb8) ?_
          refine WO.nil ?_
          refine WC.condT rfl ?_
          refine WC.regionSeq rfl rfl ?_
          refine WO.s0 (v' := .d (.int .i64 ((A4_Int.mk x1 x2 x3 x4).a3))) rfl rfl (fun _ => rfl) rfl ?_
          refine WO.s0 (v' := .d (.int .i64 ((A4_Int.mk x1 x2 x3 x4).a3))) rfl rfl (fun _ => rfl) rfl ?_
          refine WO.nil ?_
          refine WC.ret ?_
          obtain rfl := Option.some.inj h
          exact WC.done rfl rfl rfl
        · refine WO.s0 (v' := .d (.bool false)) rfl rfl (fun _ => rfl) (congrArg (fun b => RV.d (.bool b)) hb8) ?_
          refine WO.nil ?_
          refine WC.condF rfl ?_
          refine WC.skip ?_
          refine WC.region rfl rfl ?_
          refine WO.s0 (v' := .d (.int .i64 4)) rfl rfl (fun _ => rfl) rfl ?_
          refine WO.s0 (v' := .d (.int .i64 4)) rfl rfl (fun _ => rfl) rfl ?_
          refine WO.nil ?_
          refine WL.round ?_
          refine WC.regionSeq rfl rfl ?_
          refine WO.s0 (v' := .d (.bool false)) rfl rfl (fun _ => rfl) rfl ?_
          refine WO.nil ?_
          refine WC.seq ?_
          refine WC.condF rfl ?_
          refine WC.exit ?_
          refine ⟨fun _ => ?_, fun hne => (hne rfl).elim⟩
          refine WC.regionSeq rfl rfl ?_
          refine WO.s0 (v' := .d (.int .i64 0)) rfl rfl (fun _ => rfl) rfl ?_
          refine WO.nil ?_
          refine WC.ret ?_
          obtain rfl := Option.some.inj h
          exact WC.done rfl rfl rfl
theorem source_SameStation_ev {a0 : T_api_SourceID} {a1 : T_api_SourceID} {r : Bool} (h : source_SameStation a0 a1 = some r) : EvP prog hints ext 24 [.d (T_api_SourceID.pd a0), .d (T_api_SourceID.pd a1)] [] (.d (.bool r), []) := by
  refine Ev.body rfl Tryd.func24 rfl (by kernel_rfl) ?_
  refine WC.regionSeq rfl rfl ?_
  refine WO.s1 (v := .ptr 32 0) (id := 32) (bx := .var [.d (.str a0.fNetwork), .d (.str a0.fStation), .d (.str a0.fLocation), .d (.str a0.fChannel)]) rfl rfl (fun _ => rfl) ?_
  refine WO.s1 (v := .ptr 48 0) (id := 48) (bx := .var [.d (.str a1.fNetwork), .d (.str a1.fStation), .d (.str a1.fLocation), .d (.str a1.fChannel)]) rfl rfl (fun _ => rfl) ?_
  refine WO.s0 (v' := .d (.bool false)) rfl rfl (fun _ => rfl) rfl ?_
  refine WO.nil ?_
  refine WC.regionSeq rfl rfl ?_
  refine WO.s0 (v' := .ptr 32 0) rfl rfl (fun _ => rfl) rfl ?_
  refine WO.s0 (v' := .d (.str a0.fNetwork)) rfl rfl (fun _ => rfl) rfl ?_
  refine WO.s0 (v' := .ptr 48 0) rfl rfl (fun _ => rfl) rfl ?_
  refine WO.s0 (v' := .d (.str a1.fNetwork)) rfl rfl (fun _ => rfl) rfl ?_
  refine ite_elim h (fun hb1 h => ?_) (fun hb1 h => ?_)
  · refine WO.s0 (v' := .d (.bool true)) rfl rfl (fun _ => rfl) (congrArg (fun b => RV.d (.bool b)) hb1) ?_
    refine WO.s0 (v' := .d (.bool true)) rfl rfl (fun _ => rfl) rfl ?_
    refine WO.s0 (v' := .ptr 32 1) rfl rfl (fun _ => rfl) rfl ?_
    refine WO.s0 (v' := .d (.str a0.fStation)) rfl rfl (fun _ => rfl) rfl ?_
    refine WO.s0 (v' := .ptr 48 1) rfl rfl (fun _ => rfl) rfl ?_
    refine WO.s0 (v' := .d (.str a1.fStation)) rfl rfl (fun _ => rfl) rfl ?_
    refine WO.s0 (v' := .d (.bool (a0.fStation == a1.fStation))) rfl rfl (fun _ => rfl) rfl ?_
    refine WO.s0 (v' := .d (.bool (a0.fStation == a1.fStation))) rfl rfl (fun _ => rfl) rfl ?_
    refine WO.s0 (v' := .d (.bool (a0.fStation == a1.fStation))) rfl rfl (fun _ => rfl) rfl ?_
    refine WO.nil ?_
    refine WC.ret ?_
    obtain rfl := Option.some.inj h
    exact WC.done rfl rfl rfl
  · refine WO.s0 (v' := .d (.bool false)) rfl rfl (fun _ => rfl) (congrArg (fun b => RV.d (.bool b)) hb1) ?_
    refine WO.s0 (v' := .d (.bool false)) rfl rfl (fun _ => rfl) rfl ?_
    refine WO.skip rfl rfl ?_
    refine WO.skip rfl rfl ?_
    refine WO.skip rfl rfl ?_
    refine WO.skip rfl rfl ?_
    refine WO.skip rfl rfl ?_
    refine WO.s0 (v' := .d (.bool false)) rfl rfl (fun _ => rfl) rfl ?_
    refine WO.s0 (v' := .d (.bool false)) rfl rfl (fun _ => rfl) rfl ?_
    refine WO.nil ?_
    refine WC.ret ?_
    obtain rfl := Option.some.inj h
    exact WC.done rfl rfl rfl
theorem ref03_SameStation_ev {a0 : T_api_SourceID} {a1 : T_api_SourceID} {r : Bool} (h : ref03_SameStation a0 a1 = some r) : EvP prog hints ext 25 [.d (T_api_SourceID.pd a0), .d (T_api_SourceID.pd a1)] [] (.d (.bool r), []) := by
  refine Ev.body rfl Tryd.func25 rfl (by kernel_rfl) ?_
  refine WC.regionSeq rfl rfl ?_
  refine WO.s1 (v := .ptr 32 0) (id := 32) (bx := .var [.d (.str a0.fNetwork), .d (.str a0.fStation), .d (.str a0.fLocation), .d (.str a0.fChannel)]) rfl rfl (fun _ => rfl) ?_
  refine WO.s1 (v := .ptr 48 0) (id := 48) (bx := .var [.d (.str a1.fNetwork), .d (.str a1.fStation), .d (.str a1.fLocation), .d (.str a1.fChannel)]) rfl rfl (fun _ => rfl) ?_
  refine WO.s0 (v' := .d (.bool false)) rfl rfl (fun _ => rfl) rfl ?_
  refine WO.nil ?_
  refine WC.regionSeq rfl rfl ?_
  refine WO.s0 (v' := .ptr 32 0) rfl rfl (fun _ => rfl) rfl ?_
  refine WO.s0 (v' := .d (.str a0.fNetwork)) rfl rfl (fun _ => rfl) rfl ?_
  refine WO.s0 (v' := .ptr 48 0) rfl rfl (fun _ => rfl) rfl ?_
  refine WO.s0 (v' := .d (.str a1.fNetwork)) rfl rfl (fun _ => rfl) rfl ?_
  refine ite_elim h (fun hb1 h => ?_) (fun hb1 h => ?_)
  · refine WO.s0 (v' := .d (.bool true)) rfl rfl (fun _ => rfl) (congrArg (fun b => RV.d (.bool b)) hb1) ?_
    refine WO.s0 (v' := .d (.bool true)) rfl rfl (fun _ => rfl) rfl ?_
    refine WO.s0 (v' := .ptr 32 1) rfl rfl (fun _ => rfl) rfl ?_
    refine WO.s0 (v' := .d (.str a0.fStation)) rfl rfl (fun _ => rfl) rfl ?_
    refine WO.s0 (v' := .ptr 48 1) rfl rfl (fun _ => rfl) rfl ?_
    refine WO.s0 (v' := .d (.str a1.fStation)) rfl rfl (fun _ => rfl) rfl ?_
    refine WO.s0 (v' := .d (.bool (a0.fStation == a1.fStation))) rfl rfl (fun _ => rfl) rfl ?_
    refine WO.s0 (v' := .d (.bool (a0.fStation == a1.fStation))) rfl rfl (fun _ => rfl) rfl ?_
    refine WO.s0 (v' := .d (.bool (a0.fStation == a1.fStation))) rfl rfl (fun _ => rfl) rfl ?_
    refine WO.nil ?_
    refine WC.ret ?_
    obtain rfl := Option.some.inj h
    exact WC.done rfl rfl rfl
  · refine WO.s0 (v' := .d (.bool false)) rfl rfl (fun _ => rfl) (congrArg (fun b => RV.d (.bool b)) hb1) ?_
    refine WO.s0 (v' := .d (.bool false)) rfl rfl (fun _ => rfl) rfl ?_
    refine WO.skip rfl rfl ?_
    refine WO.skip rfl rfl ?_
    refine WO.skip rfl rfl ?_
    refine WO.skip rfl rfl ?_
    refine WO.skip rfl rfl ?_
    refine WO.s0 (v' := .d (.bool false)) rfl rfl (fun _ => rfl) rfl ?_
    refine WO.s0 (v' := .d (.bool false)) rfl rfl (fun _ => rfl) rfl ?_
    refine WO.nil ?_
    refine WC.ret ?_
    obtain rfl := Option.some.inj h
    exact WC.done rfl rfl rfl
theorem ref03_Parse_ev {a0 : (List UInt8)} {r : T_api_SourceID × Int} (h : ref03_Parse a0 = some r) : EvP prog hints ext 26 [.d (.str a0)] [] (.tup [.d (T_api_SourceID.pd r.1), .d (.int .i64 r.2)], []) := by
  refine Ev.body rfl Tryd.func26 rfl (by kernel_rfl) ?_
  refine WC.regionSeq rfl rfl ?_
  refine WO.s1 (v := .ptr 32 0) (id := 32) (bx := .var [.d (.str []), .d (.str []), .d (.str []), .d (.str [])]) rfl rfl (fun _ => rfl) ?_
  refine WO.s0 (v' := .d (.int .i64 0)) rfl rfl (fun _ => rfl) rfl ?_
  refine WO.nil ?_
  refine WC.regionSeq rfl rfl ?_
  refine WO.s0 (v' := .d (.str a0)) rfl rfl (fun _ => rfl) rfl ?_
  refine bind_elim h (fun x1 hx1 h => ?_)
  refine WO.callR (v := .ref 112 0) (u := [(112, .arr 0 9 (x1.map PD.str))]) rfl rfl (fun _ => rfl) rfl rfl rfl rfl rfl (ref03_Split_ev hx1) rfl rfl rfl rfl ?_
  refine WO.s0 (v' := .ref 112 0) rfl rfl (fun _ => rfl) rfl ?_
  refine WO.nil ?_
  refine WC.seq ?_
  refine WC.regionSeq rfl rfl ?_
  refine WO.s0 (v' := .ref 112 0) rfl rfl (fun _ => rfl) rfl ?_
  refine WO.lenR rfl rfl rfl rfl rfl rfl rfl rfl rfl ?_
  refine ite_elim h (fun hb2 h => ?_) (fun hb2 h => ?_)
  · refine WO.s0 (v' := .d (.bool true)) rfl rfl (fun _ => rfl) (congrArg (fun b => RV.d (.bool b)) hb2) ?_
    refine WO.nil ?_
    refine WC.condT rfl ?_
    refine WC.regionSeq rfl rfl ?_
    refine WO.s0 (v' := .d (T_api_SourceID.pd (T_api_SourceID.mk [] [] [] []))) rfl rfl (fun _ => rfl) rfl ?_
    refine WO.n1 (v := .undef) (id := 32) (bx := .var [.d (.str ((T_api_SourceID.mk [] [] [] []).fNetwork)), .d (.str ((T_api_SourceID.mk [] [] [] []).fStation)), .d (.str ((T_api_SourceID.mk [] [] [] []).fLocation)), .d (.str ((T_api_SourceID.mk [] [] [] []).fChannel))]) rfl rfl (fun _ => rfl) ?_
    refine WO.s0 (v' := .d (.int .i64 3)) rfl rfl (fun _ => rfl) rfl ?_
    refine WO.nil ?_
    refine WC.ret ?_
    obtain rfl := Option.some.inj h
    exact WC.done rfl rfl rfl
  · refine WO.s0 (v' := .d (.bool false)) rfl rfl (fun _ => rfl) (congrArg (fun b => RV.d (.bool b)) hb2) ?_
    refine WO.nil ?_
    refine WC.condF rfl ?_
    refine WC.skip ?_
    refine WC.regionDSeq rfl rfl ?_
    refine WO.s0 (v' := .ref 112 0) rfl rfl (fun _ => rfl) rfl ?_
    refine bind_elim h (fun x4 hx4 h => ?_)
    refine WO.eltG hx4 rfl rfl rfl rfl rfl rfl rfl rfl ?_
    refine bind_elim h (fun x5 hx5 h => ?_)
    refine WO.loadE hx5 rfl rfl rfl rfl rfl rfl ?_
    refine WO.s0 (v' := .ref 112 0) rfl rfl (fun _ => rfl) rfl ?_
    refine bind_elim h (fun x7 hx7 h => ?_)
    refine WO.eltG hx7 rfl rfl rfl rfl rfl rfl rfl rfl ?_
    refine bind_elim h (fun x8 hx8 h => ?_)
    refine WO.loadE hx8 rfl rfl rfl rfl rfl rfl ?_
    refine WO.s0 (v' := .ref 112 0) rfl rfl (fun _ => rfl) rfl ?_
    refine bind_elim h (fun x10 hx10 h => ?_)
    refine WO.eltG hx10 rfl rfl rfl rfl rfl rfl rfl rfl ?_
    refine bind_elim h (fun x11 hx11 h => ?_)
    refine WO.loadE hx11 rfl rfl rfl rfl rfl rfl ?_
    refine WO.s0 (v' := .ref 112 0) rfl rfl (fun _ => rfl) rfl ?_
    refine bind_elim h (fun x13 hx13 h => ?_)
    refine WO.eltG hx13 rfl rfl rfl rfl rfl rfl rfl rfl ?_
    refine bind_elim h (fun x14 hx14 h => ?_)
    refine WO.loadE hx14 rfl rfl rfl rfl rfl rfl ?_
    refine WO.s0 (v' := .d (T_api_SourceID.pd (T_api_SourceID.mk x5 x8 x11 x14))) rfl rfl (fun _ => rfl) rfl ?_
    refine WO.s1 (v := .ptr 80 0) (id := 80) (bx := .var [.d (.str []), .d (.str []), .d (.str []), .d (.str [])]) rfl rfl (fun _ => rfl) ?_
    refine WO.n1 (v := .undef) (id := 80) (bx := .var [.d (.str ((T_api_SourceID.mk x5 x8 x11 x14).fNetwork)), .d (.str ((T_api_SourceID.mk x5 x8 x11 x14).fStation)), .d (.str ((T_api_SourceID.mk x5 x8 x11 x14).fLocation)), .d (.str ((T_api_SourceID.mk x5 x8 x11 x14).fChannel))]) rfl rfl (fun _ => rfl) ?_
    refine WO.nil ⟨by kernel_rfl, ?_⟩
    refine WC.seq ?_
    refine WC.regionSeq rfl rfl ?_
    refine WO.s0 (v' := .d (T_api_SourceID.pd (T_api_SourceID.mk x5 x8 x11 x14))) rfl rfl (fun _ => rfl) rfl ?_
    refine bind_elim h (fun x15 hx15 h => ?_)
    refine WO.callR (v := .d (.bool x15)) (u := []) rfl rfl (fun _ => rfl) rfl rfl rfl rfl rfl (ref03_Valid_ev hx15) rfl rfl rfl rfl ?_
    refine ite_elim h (fun hb16 h => ?_) (fun hb16 h => ?_)
    · refine WO.s0 (v' := .d (.bool true)) rfl rfl (fun _ => rfl) (congrArg (fun b => RV.d (.bool b)) hb16) ?_
      refine WO.nil ?_
      refine WC.condT rfl ?_
      refine WC.regionSeq rfl rfl ?_
      refine WO.s0 (v' := .d (T_api_SourceID.pd (T_api_SourceID.mk [] [] [] []))) rfl rfl (fun _ => rfl) rfl ?_
      refine WO.n1 (v := .undef) (id := 32) (bx := .var [.d (.str ((T_api_SourceID.mk [] [] [] []).fNetwork)), .d (.str ((T_api_SourceID.mk [] [] [] []).fStation)), .d (.str ((T_api_SourceID.mk [] [] [] []).fLocation)), .d (.str ((T_api_SourceID.mk [] [] [] []).fChannel))]) rfl rfl (fun _ => rfl) ?_
      refine WO.s0 (v' := .d (.int .i64 3)) rfl rfl (fun _ => rfl) rfl ?_
      refine WO.nil ?_
      refine WC.ret ?_
      obtain rfl := Option.some.inj h
      exact WC.done rfl rfl rfl
    · refine WO.s0 (v' := .d (.bool false)) rfl rfl (fun _ => rfl) (congrArg (fun b => RV.d (.bool b)) hb16) ?_
      refine WO.nil ?_
      refine WC.condF rfl ?_
      refine WC.skip ?_
      refine WC.regionSeq rfl rfl ?_
      refine WO.s0 (v' := .d (T_api_SourceID.pd (T_api_SourceID.mk x5 x8 x11 x14))) rfl rfl (fun _ => rfl) rfl ?_
      refine WO.n1 (v := .undef) (id := 32) (bx := .var [.d (.str ((T_api_SourceID.mk x5 x8 x11 x14).fNetwork)), .d (.str ((T_api_SourceID.mk x5 x8 x11 x14).fStation)), .d (.str ((T_api_SourceID.mk x5 x8 x11 x14).fLocation)), .d (.str ((T_api_SourceID.mk x5 x8 x11 x14).fChannel))]) rfl rfl (fun _ => rfl) ?_
      refine WO.s0 (v' := .d (.int .i64 0)) rfl rfl (fun _ => rfl) rfl ?_
      refine WO.nil ?_
      refine WC.ret ?_
      obtain rfl := Option.some.inj h
      exact WC.done rfl rfl rfl
theorem source_Select_ev {a0 : (List UInt8)} {a1 : (List T_api_SourceID)} {r : (List T_api_SourceID) × Int} (h : source_Select a0 a1 = some r) : EvP prog hints ext 13 [.d (.str a0), .d (.lst (a1.map T_api_SourceID.pd))] [] (.tup [.d (.lst (r.1.map T_api_SourceID.pd)), .d (.int .i64 r.2)], []) := by
  refine Ev.body rfl Tryd.func13 rfl (by kernel_rfl) ?_
  refine WC.regionSeq rfl rfl ?_
  refine WO.s0 (v' := .nils) rfl rfl (fun _ => rfl) rfl ?_
  refine WO.s0 (v' := .d (.int .i64 0)) rfl rfl (fun _ => rfl) rfl ?_
  refine WO.nil ?_
  refine WC.regionSeq rfl rfl ?_
  refine WO.s0 (v' := .d (.str a0)) rfl rfl (fun _ => rfl) rfl ?_
  refine bind_elim h (fun x1 hx1 h => ?_)
  refine WO.callR (v := .tup [.d (.lst (x1.1.map PD.str)), .d (.bool x1.2)]) (u := []) rfl rfl (fun _ => rfl) rfl rfl rfl rfl rfl (source_pattern_ev hx1) rfl rfl rfl rfl ?_
  refine WO.s0 (v' := .tup [.d (.lst (x1.1.map PD.str)), .d (.bool x1.2)]) rfl rfl (fun _ => rfl) rfl ?_
  refine WO.s0 (v' := .d (.lst (x1.1.map PD.str))) rfl rfl (fun _ => rfl) rfl ?_
  refine WO.s0 (v' := .d (.bool x1.2)) rfl rfl (fun _ => rfl) rfl ?_
  refine WO.s0 (v' := .d (.lst (x1.1.map PD.str))) rfl rfl (fun _ => rfl) rfl ?_
  refine WO.s0 (v' := .d (.bool x1.2)) rfl rfl (fun _ => rfl) rfl ?_
  refine WO.nil ?_
  refine WC.seq ?_
  refine WC.regionSeq rfl rfl ?_
  refine WO.s0 (v' := .d (.bool x1.2)) rfl rfl (fun _ => rfl) rfl ?_
  refine ite_elim h (fun hb2 h => ?_) (fun hb2 h => ?_)
  · refine WO.s0 (v' := .d (.bool true)) rfl rfl (fun _ => rfl) (congrArg (fun b => RV.d (.bool b)) hb2) ?_
    refine WO.nil ?_
    refine WC.condT rfl ?_
    refine WC.regionSeq rfl rfl ?_
    refine WO.s0 (v' := .nils) rfl rfl (fun _ => rfl) rfl ?_
    refine WO.s0 (v' := .d (.int .i64 3)) rfl rfl (fun _ => rfl) rfl ?_
    refine WO.nil ?_
    refine WC.ret ?_
    obtain rfl := Option.some.inj h
    exact WC.done rfl rfl rfl
  · refine WO.s0 (v' := .d (.bool false)) rfl rfl (fun _ => rfl) (congrArg (fun b => RV.d (.bool b)) hb2) ?_
    refine WO.nil ?_
    refine WC.condF rfl ?_
    refine WC.skip ?_
    refine WC.regionSeq rfl rfl ?_
    refine WO.s0 (v' := .nils) rfl rfl (fun _ => rfl) rfl ?_
    refine WO.nil ?_
    refine WC.seq ?_
    refine WC.regionSeq rfl rfl ?_
    refine WO.s0 (v' := .d (.lst (a1.map T_api_SourceID.pd))) rfl rfl (fun _ => rfl) rfl ?_
    refine WO.s0 (v' := .d (.int .i64 (a1.length : Int))) rfl rfl (fun _ => rfl) (lenMap _ _) ?_
    refine WO.s0 (v' := .d (.int .i64 0)) rfl rfl (fun _ => rfl) rfl ?_
    refine WO.nil ?_
    refine bind_elim h (fun o15 ho15 h => ?_)
    refine WC.block (WC.loop (WL.ofLoop ho15 (fun s R' B' => ghosts prog 0 (A R' B') (hints.at_ 13 6) = some (A [(6, .d (.lst (x1.1.map PD.str))), (8, .ref 544 0), (18, .d (.lst (a1.map T_api_SourceID.pd))), (19, .d (.int .i64 (a1.length : Int))), (20, .d (.int .i64 s.1))] [(544, .arr 0 28 (s.2.map T_api_SourceID.pd))])) (fun o e R' B' => e = .exit 0 ∧ ghosts prog 0 (A R' B') (hints.at_ 13 11) = some (A [(8, .ref 544 0)] [(544, .arr 0 28 (o.map T_api_SourceID.pd))])) rfl ?_ ?_))
    · rintro ⟨s3, s4⟩ R' B' q6 hI h
      refine WC.regionSeq hI rfl ?_
      refine ite_elim h (fun hb7 h => ?_) (fun hb7 h => ?_)
      · refine WO.s0 (v' := .d (.bool true)) rfl rfl (fun _ => rfl) (congrArg (fun b => RV.d (.bool b)) hb7) ?_
        refine WO.nil ?_
        refine WC.seq ?_
        refine WC.condT rfl ?_
        refine WC.skip ?_
        refine WC.seq ?_
        refine WC.block ?_
        refine WC.regionSeq rfl rfl ?_
        refine bind_elim h (fun x8 hx8 h => ?_)
        refine WO.elemG hx8 rfl rfl rfl rfl rfl rfl rfl rfl rfl ?_
        refine WO.s0 (v' := .d (T_api_SourceID.pd x8)) rfl rfl (fun _ => rfl) rfl ?_
        refine WO.s1 (v := .ptr 160 0) (id := 160) (bx := .var [.d (.str []), .d (.str []), .d (.str []), .d (.str [])]) rfl rfl (fun _ => rfl) ?_
        refine WO.n1 (v := .undef) (id := 160) (bx := .var [.d (.str x8.fNetwork), .d (.str x8.fStation), .d (.str x8.fLocation), .d (.str x8.fChannel)]) rfl rfl (fun _ => rfl) ?_
        refine WO.nil ?_
        refine WC.regionSeq rfl rfl ?_
        refine WO.s0 (v' := .d (T_api_SourceID.pd x8)) rfl rfl (fun _ => rfl) rfl ?_
        refine bind_elim h (fun x9 hx9 h => ?_)
        refine ite_elim h (fun hb10 h => ?_) (fun hb10 h => ?_)
        · refine WO.callR (v := .d (.bool true)) (u := []) rfl rfl (fun _ => rfl) rfl rfl rfl rfl rfl (source_Valid_ev hx9) rfl rfl (congrArg (fun b => RV.d (.bool b)) hb10) rfl ?_
          refine WO.s0 (v' := .d (.bool true)) rfl rfl (fun _ => rfl) rfl ?_
          refine WO.s0 (v' := .d (.lst (x1.1.map PD.str))) rfl rfl (fun _ => rfl) rfl ?_
          refine WO.s0 (v' := .d (T_api_SourceID.pd x8)) rfl rfl (fun _ => rfl) rfl ?_
          refine bind_elim h (fun x11 hx11 h => ?_)
          refine WO.callR (v := .d (.bool x11)) (u := []) rfl rfl (fun _ => rfl) rfl rfl rfl rfl rfl (source_match_ev hx11) rfl rfl rfl rfl ?_
          refine ite_elim h (fun hb12 h => ?_) (fun hb12 h => ?_)
          · refine WO.s0 (v' := .d (.bool true)) rfl rfl (fun _ => rfl) (congrArg (fun b => RV.d (.bool b)) hb12) ?_
            refine WO.nil ?_
            refine WC.condT rfl ?_
            refine WC.region rfl rfl ?_
            refine WO.s0 (v' := .ref 544 0) rfl rfl (fun _ => rfl) rfl ?_
            refine WO.s0 (v' := .d (T_api_SourceID.pd x8)) rfl rfl (fun _ => rfl) rfl ?_
            refine WO.s0 (v' := .d (.lst ([x8].map T_api_SourceID.pd))) rfl rfl (fun _ => rfl) rfl ?_
            refine bind_elim h (fun x13 hx13 h => ?_)
            refine WO.appR hx13 (fun _ => rfl) rfl rfl rfl rfl rfl rfl rfl rfl rfl rfl rfl rfl rfl rfl ?_
            refine WO.s0 (v' := .ref 544 1) rfl rfl (fun _ => rfl) rfl ?_
            refine WO.nil ?_
            refine WC.region rfl rfl ?_
            refine WO.s0 (v' := .d (.int .i64 (IntKind.wrap .i64 (s3 + (1 : Int))))) rfl rfl (fun _ => rfl) rfl ?_
            refine WO.s0 (v' := .d (.int .i64 (IntKind.wrap .i64 (s3 + (1 : Int))))) rfl rfl (fun _ => rfl) rfl ?_
            refine WO.nil ?_
            obtain rfl := Option.some.inj h
            exact ⟨rfl, rfl⟩
          · refine WO.s0 (v' := .d (.bool false)) rfl rfl (fun _ => rfl) (congrArg (fun b => RV.d (.bool b)) hb12) ?_
            refine WO.nil ?_
            refine WC.condF rfl ?_
            refine WC.skip ?_
            refine WC.region rfl rfl ?_
            refine WO.s0 (v' := .d (.int .i64 (IntKind.wrap .i64 (s3 + (1 : Int))))) rfl rfl (fun _ => rfl) rfl ?_
            refine WO.s0 (v' := .d (.int .i64 (IntKind.wrap .i64 (s3 + (1 : Int))))) rfl rfl (fun _ => rfl) rfl ?_
            refine WO.nil ?_
            obtain rfl := Option.some.inj h
            exact ⟨rfl, rfl⟩
        · refine WO.callR (v := .d (.bool false)) (u := []) rfl rfl (fun _ => rfl) rfl rfl rfl rfl rfl (source_Valid_ev hx9) rfl rfl (congrArg (fun b => RV.d (.bool b)) hb10) rfl ?_
          refine WO.s0 (v' := .d (.bool false)) rfl rfl (fun _ => rfl) rfl ?_
          refine WO.skip rfl rfl ?_
          refine WO.skip rfl rfl ?_
          refine WO.skip rfl rfl ?_
          refine WO.s0 (v' := .d (.bool false)) rfl rfl (fun _ => rfl) rfl ?_
          refine WO.nil ?_
          refine WC.condF rfl ?_
          refine WC.skip ?_
          refine WC.region rfl rfl ?_
          refine WO.s0 (v' := .d (.int .i64 (IntKind.wrap .i64 (s3 + (1 : Int))))) rfl rfl (fun _ => rfl) rfl ?_
          refine WO.s0 (v' := .d (.int .i64 (IntKind.wrap .i64 (s3 + (1 : Int))))) rfl rfl (fun _ => rfl) rfl ?_
          refine WO.nil ?_
          obtain rfl := Option.some.inj h
          exact ⟨rfl, rfl⟩
      · refine WO.s0 (v' := .d (.bool false)) rfl rfl (fun _ => rfl) (congrArg (fun b => RV.d (.bool b)) hb7) ?_
        refine WO.nil ?_
        refine WC.seq ?_
        refine WC.condF rfl ?_
        refine WC.exit ?_
        obtain rfl := Option.some.inj h
        exact ⟨(fun he => by cases he), rfl, rfl⟩
    · intro e R' B' he hq
      obtain ⟨rfl, hI⟩ := hq
      refine ⟨fun _ => ?_, fun hne => (hne rfl).elim⟩
      refine WC.regionSeq hI rfl ?_
      refine WO.s0 (v' := .ref 544 0) rfl rfl (fun _ => rfl) rfl ?_
      refine WO.s0 (v' := .ref 544 0) rfl rfl (fun _ => rfl) rfl ?_
      refine WO.s0 (v' := .d (.int .i64 0)) rfl rfl (fun _ => rfl) rfl ?_
      refine WO.nil ?_
      refine WC.ret ?_
      obtain rfl := Option.some.inj h
      exact WC.done rfl rfl rfl
theorem ref03_Select_ev {a0 : (List UInt8)} {a1 : (List T_api_SourceID)} {r : (List T_api_SourceID) × Int} (h : ref03_Select a0 a1 = some r) : EvP prog hints ext 27 [.d (.str a0), .d (.lst (a1.map T_api_SourceID.pd))] [] (.tup [.d (.lst (r.1.map T_api_SourceID.pd)), .d (.int .i64 r.2)], []) := by
  refine Ev.body rfl Tryd.func27 rfl (by kernel_rfl) ?_
  refine WC.regionSeq rfl rfl ?_
  refine WO.s0 (v' := .nils) rfl rfl (fun _ => rfl) rfl ?_
  refine WO.s0 (v' := .d (.int .i64 0)) rfl rfl (fun _ => rfl) rfl ?_
  refine WO.nil ?_
  refine WC.regionSeq rfl rfl ?_
  refine WO.s0 (v' := .d (.str a0)) rfl rfl (fun _ => rfl) rfl ?_
  refine bind_elim h (fun x1 hx1 h => ?_)
  refine WO.callR (v := .tup [.d (.lst (x1.1.map PD.str)), .d (.bool x1.2)]) (u := []) rfl rfl (fun _ => rfl) rfl rfl rfl rfl rfl (ref03_parts_ev hx1) rfl rfl rfl rfl ?_
  refine WO.s0 (v' := .tup [.d (.lst (x1.1.map PD.str)), .d (.bool x1.2)]) rfl rfl (fun _ => rfl) rfl ?_
  refine WO.s0 (v' := .d (.lst (x1.1.map PD.str))) rfl rfl (fun _ => rfl) rfl ?_
  refine WO.s0 (v' := .d (.bool x1.2)) rfl rfl (fun _ => rfl) rfl ?_
  refine WO.s0 (v' := .d (.lst (x1.1.map PD.str))) rfl rfl (fun _ => rfl) rfl ?_
  refine WO.s0 (v' := .d (.bool x1.2)) rfl rfl (fun _ => rfl) rfl ?_
  refine WO.nil ?_
  refine WC.seq ?_
  refine WC.regionSeq rfl rfl ?_
  refine WO.s0 (v' := .d (.bool x1.2)) rfl rfl (fun _ => rfl) rfl ?_
  refine ite_elim h (fun hb2 h => ?_) (fun hb2 h => ?_)
  · refine WO.s0 (v' := .d (.bool true)) rfl rfl (fun _ => rfl) (congrArg (fun b => RV.d (.bool b)) hb2) ?_
    refine WO.nil ?_
    refine WC.condT rfl ?_
    refine WC.regionSeq rfl rfl ?_
    refine WO.s0 (v' := .nils) rfl rfl (fun _ => rfl) rfl ?_
    refine WO.s0 (v' := .d (.int .i64 3)) rfl rfl (fun _ => rfl) rfl ?_
    refine WO.nil ?_
    refine WC.ret ?_
    obtain rfl := Option.some.inj h
    exact WC.done rfl rfl rfl
  · refine WO.s0 (v' := .d (.bool false)) rfl rfl (fun _ => rfl) (congrArg (fun b => RV.d (.bool b)) hb2) ?_
    refine WO.nil ?_
    refine WC.condF rfl ?_
    refine WC.skip ?_
    refine WC.regionSeq rfl rfl ?_
    refine WO.s0 (v' := .nils) rfl rfl (fun _ => rfl) rfl ?_
    refine WO.nil ?_
    refine WC.seq ?_
    refine WC.regionSeq rfl rfl ?_
    refine WO.s0 (v' := .d (.int .i64 0)) rfl rfl (fun _ => rfl) rfl ?_
    refine WO.nil ?_
    refine bind_elim h (fun o17 ho17 h => ?_)
    refine WC.block (WC.loop (WL.ofLoop ho17 (fun s R' B' => ghosts prog 0 (A R' B') (hints.at_ 27 6) = some (A [(1, .d (.lst (a1.map T_api_SourceID.pd))), (6, .d (.lst (x1.1.map PD.str))), (8, .ref 672 0), (9, .d (.int .i64 s.1))] [(672, .arr 0 28 (s.2.map T_api_SourceID.pd))])) (fun o e R' B' => e = .exit 0 ∧ ghosts prog 0 (A R' B') (hints.at_ 27 10) = some (A [(8, .ref 672 0)] [(672, .arr 0 28 (o.map T_api_SourceID.pd))])) rfl ?_ ?_))
    · rintro ⟨s3, s4⟩ R' B' q6 hI h
      refine WC.seq ?_
      refine WC.regionSeq hI rfl ?_
      refine WO.s0 (v' := .d (.int .i64 s3)) rfl rfl (fun _ => rfl) rfl ?_
      refine WO.s0 (v' := .d (.lst (a1.map T_api_SourceID.pd))) rfl rfl (fun _ => rfl) rfl ?_
      refine WO.s0 (v' := .d (.int .i64 (a1.length : Int))) rfl rfl (fun _ => rfl) (lenMap _ _) ?_
      refine ite_elim h (fun hb7 h => ?_) (fun hb7 h => ?_)
      · refine WO.s0 (v' := .d (.bool true)) rfl rfl (fun _ => rfl) (congrArg (fun b => RV.d (.bool b)) hb7) ?_
        refine WO.nil ?_
        refine WC.condT rfl ?_
        refine WC.skip ?_
        refine WC.seq ?_
        refine WC.block ?_
        refine WC.regionSeq rfl rfl ?_
        refine WO.s0 (v' := .d (.lst (a1.map T_api_SourceID.pd))) rfl rfl (fun _ => rfl) rfl ?_
        refine WO.s0 (v' := .d (.int .i64 s3)) rfl rfl (fun _ => rfl) rfl ?_
        refine bind_elim h (fun x8 hx8 h => ?_)
        refine WO.elemG hx8 rfl rfl rfl rfl rfl rfl rfl rfl rfl ?_
        refine WO.s0 (v' := .d (T_api_SourceID.pd x8)) rfl rfl (fun _ => rfl) rfl ?_
        refine bind_elim h (fun x9 hx9 h => ?_)
        refine ite_elim h (fun hb10 h => ?_) (fun hb10 h => ?_)
        · refine WO.callR (v := .d (.bool true)) (u := []) rfl rfl (fun _ => rfl) rfl rfl rfl rfl rfl (ref03_Valid_ev hx9) rfl rfl (congrArg (fun b => RV.d (.bool b)) hb10) rfl ?_
          refine WO.s0 (v' := .d (.bool true)) rfl rfl (fun _ => rfl) rfl ?_
          refine WO.s0 (v' := .d (.lst (x1.1.map PD.str))) rfl rfl (fun _ => rfl) rfl ?_
          refine WO.s0 (v' := .d (.lst (a1.map T_api_SourceID.pd))) rfl rfl (fun _ => rfl) rfl ?_
          refine WO.s0 (v' := .d (.int .i64 s3)) rfl rfl (fun _ => rfl) rfl ?_
          refine bind_elim h (fun x11 hx11 h => ?_)
          refine WO.elemG hx11 rfl rfl rfl rfl rfl rfl rfl rfl rfl ?_
          refine WO.s0 (v' := .d (T_api_SourceID.pd x11)) rfl rfl (fun _ => rfl) rfl ?_
          refine bind_elim h (fun x12 hx12 h => ?_)
          refine WO.callR (v := .d (.bool x12)) (u := []) rfl rfl (fun _ => rfl) rfl rfl rfl rfl rfl (ref03_match_ev hx12) rfl rfl rfl rfl ?_
          refine ite_elim h (fun hb13 h => ?_) (fun hb13 h => ?_)
          · refine WO.s0 (v' := .d (.bool true)) rfl rfl (fun _ => rfl) (congrArg (fun b => RV.d (.bool b)) hb13) ?_
            refine WO.nil ?_
            refine WC.condT rfl ?_
            refine WC.region rfl rfl ?_
            refine WO.s0 (v' := .ref 672 0) rfl rfl (fun _ => rfl) rfl ?_
            refine WO.s0 (v' := .d (.lst (a1.map T_api_SourceID.pd))) rfl rfl (fun _ => rfl) rfl ?_
            refine WO.s0 (v' := .d (.int .i64 s3)) rfl rfl (fun _ => rfl) rfl ?_
            refine bind_elim h (fun x14 hx14 h => ?_)
            refine WO.elemG hx14 rfl rfl rfl rfl rfl rfl rfl rfl rfl ?_
            refine WO.s0 (v' := .d (T_api_SourceID.pd x14)) rfl rfl (fun _ => rfl) rfl ?_
            refine WO.s0 (v' := .d (.lst ([x14].map T_api_SourceID.pd))) rfl rfl (fun _ => rfl) rfl ?_
            refine bind_elim h (fun x15 hx15 h => ?_)
            refine WO.appR hx15 (fun _ => rfl) rfl rfl rfl rfl rfl rfl rfl rfl rfl rfl rfl rfl rfl rfl ?_
            refine WO.s0 (v' := .ref 672 1) rfl rfl (fun _ => rfl) rfl ?_
            refine WO.nil ?_
            refine WC.region rfl rfl ?_
            refine WO.s0 (v' := .d (.int .i64 s3)) rfl rfl (fun _ => rfl) rfl ?_
            refine WO.s0 (v' := .d (.int .i64 (IntKind.wrap .i64 (s3 + (1 : Int))))) rfl rfl (fun _ => rfl) rfl ?_
            refine WO.s0 (v' := .d (.int .i64 (IntKind.wrap .i64 (s3 + (1 : Int))))) rfl rfl (fun _ => rfl) rfl ?_
            refine WO.nil ?_
            obtain rfl := Option.some.inj h
            exact ⟨rfl, rfl⟩
          · refine WO.s0 (v' := .d (.bool false)) rfl rfl (fun _ => rfl) (congrArg (fun b => RV.d (.bool b)) hb13) ?_
            refine WO.nil ?_
            refine WC.condF rfl ?_
            refine WC.skip ?_
            refine WC.region rfl rfl ?_
            refine WO.s0 (v' := .d (.int .i64 s3)) rfl rfl (fun _ => rfl) rfl ?_
            refine WO.s0 (v' := .d (.int .i64 (IntKind.wrap .i64 (s3 + (1 : Int))))) rfl rfl (fun _ => rfl) rfl ?_
            refine WO.s0 (v' := .d (.int .i64 (IntKind.wrap .i64 (s3 + (1 : Int))))) rfl rfl (fun _ => rfl) rfl ?_
            refine WO.nil ?_
            obtain rfl := Option.some.inj h
            exact ⟨rfl, rfl⟩
        · refine WO.callR (v := .d (.bool false)) (u := []) rfl rfl (fun _ => rfl) rfl rfl rfl rfl rfl (ref03_Valid_ev hx9) rfl rfl (congrArg (fun b => RV.d (.bool b)) hb10) rfl ?_
          refine WO.s0 (v' := .d (.bool false)) rfl rfl (fun _ => rfl) rfl ?_
          refine WO.skip rfl rfl ?_
          refine WO.skip rfl rfl ?_
          refine WO.skip rfl rfl ?_
          refine WO.skip rfl rfl ?_
          refine WO.skip rfl rfl ?_
          refine WO.skip rfl rfl ?_
          refine WO.s0 (v' := .d (.bool false)) rfl rfl (fun _ => rfl) rfl ?_
          refine WO.nil ?_
          refine WC.condF rfl ?_
          refine WC.skip ?_
          refine WC.region rfl rfl ?_
          refine WO.s0 (v' := .d (.int .i64 s3)) rfl rfl (fun _ => rfl) rfl ?_
          refine WO.s0 (v' := .d (.int .i64 (IntKind.wrap .i64 (s3 + (1 : Int))))) rfl rfl (fun _ => rfl) rfl ?_
          refine WO.s0 (v' := .d (.int .i64 (IntKind.wrap .i64 (s3 + (1 : Int))))) rfl rfl (fun _ => rfl) rfl ?_
          refine WO.nil ?_
          obtain rfl := Option.some.inj h
          exact ⟨rfl, rfl⟩
      · refine WO.s0 (v' := .d (.bool false)) rfl rfl (fun _ => rfl) (congrArg (fun b => RV.d (.bool b)) hb7) ?_
        refine WO.nil ?_
        refine WC.condF rfl ?_
        refine WC.exit ?_
        obtain rfl := Option.some.inj h
        exact ⟨(fun he => by cases he), rfl, rfl⟩
    · intro e R' B' he hq
      obtain ⟨rfl, hI⟩ := hq
      refine ⟨fun _ => ?_, fun hne => (hne rfl).elim⟩
      refine WC.regionSeq hI rfl ?_
      refine WO.s0 (v' := .ref 672 0) rfl rfl (fun _ => rfl) rfl ?_
      refine WO.s0 (v' := .ref 672 0) rfl rfl (fun _ => rfl) rfl ?_
      refine WO.s0 (v' := .d (.int .i64 0)) rfl rfl (fun _ => rfl) rfl ?_
      refine WO.nil ?_
      refine WC.ret ?_
      obtain rfl := Option.some.inj h
      exact WC.done rfl rfl rfl
theorem ref03_Same_ev {a0 : (List T_api_SourceID)} {a1 : (List T_api_SourceID)} {r : Bool} (h : ref03_Same a0 a1 = some r) : EvP prog hints ext 28 [.d (.lst (a0.map T_api_SourceID.pd)), .d (.lst (a1.map T_api_SourceID.pd))] [] (.d (.bool r), []) := by
  refine Ev.body rfl Tryd.func28 rfl (by kernel_rfl) ?_
  refine WC.regionSeq rfl rfl ?_
  refine WO.s0 (v' := .d (.bool false)) rfl rfl (fun _ => rfl) rfl ?_
  refine WO.nil ?_
  refine WC.seq ?_
  refine WC.regionSeq rfl rfl ?_
  refine WO.s0 (v' := .d (.lst (a0.map T_api_SourceID.pd))) rfl rfl (fun _ => rfl) rfl ?_
  refine WO.s0 (v' := .d (.int .i64 (a0.length : Int))) rfl rfl (fun _ => rfl) (lenMap _ _) ?_
  refine WO.s0 (v' := .d (.lst (a1.map T_api_SourceID.pd))) rfl rfl (fun _ => rfl) rfl ?_
  refine WO.s0 (v' := .d (.int .i64 (a1.length : Int))) rfl rfl (fun _ => rfl) (lenMap _ _) ?_
  refine ite_elim h (fun hb1 h => ?_) (fun hb1 h => ?_)
  · refine WO.s0 (v' := .d (.bool true)) rfl rfl (fun _ => rfl) (congrArg (fun b => RV.d (.bool b)) hb1) ?_
    refine WO.nil ?_
    refine WC.condT rfl ?_
    refine WC.regionSeq rfl rfl ?_
    refine WO.s0 (v' := .d (.bool false)) rfl rfl (fun _ => rfl) rfl ?_
    refine WO.nil ?_
    refine WC.ret ?_
    obtain rfl := Option.some.inj h
    exact WC.done rfl rfl rfl
  · refine WO.s0 (v' := .d (.bool false)) rfl rfl (fun _ => rfl) (congrArg (fun b => RV.d (.bool b)) hb1) ?_
    refine WO.nil ?_
    refine WC.condF rfl ?_
    refine WC.skip ?_
    refine WC.seq ?_
    refine WC.regionSeq rfl rfl ?_
    refine WO.s0 (v' := .d (.int .i64 0)) rfl rfl (fun _ => rfl) rfl ?_
    refine WO.nil ?_
    refine bind_elim h (fun o9 ho9 h => ?_)
    refine WC.block (WC.loop (WL.ofLoop ho9 (fun s R' B' => ghosts prog 0 (A R' B') (hints.at_ 28 4) = some (A [(0, .d (.lst (a0.map T_api_SourceID.pd))), (1, .d (.lst (a1.map T_api_SourceID.pd))), (5, .d (.int .i64 s))] [])) (fun o e R' B' => match o with | .inl y => e = .exit 0 ∧ ghosts prog 0 (A R' B') (hints.at_ 28 8) = some (A [] []) | .inr r => e = .ret ∧ finish prog (hints.own 28) Tryd.f28 0 (A R' B') = some (.d (.bool r), [])) rfl ?_ ?_))
    · rintro s2 R' B' q3 hI h
      refine WC.seq ?_
      refine WC.regionSeq hI rfl ?_
      refine WO.s0 (v' := .d (.int .i64 s2)) rfl rfl (fun _ => rfl) rfl ?_
      refine WO.s0 (v' := .d (.lst (a0.map T_api_SourceID.pd))) rfl rfl (fun _ => rfl) rfl ?_
      refine WO.s0 (v' := .d (.int .i64 (a0.length : Int))) rfl rfl (fun _ => rfl) (lenMap _ _) ?_
      refine ite_elim h (fun hb4 h => ?_) (fun hb4 h => ?_)
      · refine WO.s0 (v' := .d (.bool true)) rfl rfl (fun _ => rfl) (congrArg (fun b => RV.d (.bool b)) hb4) ?_
        refine WO.nil ?_
        refine WC.condT rfl ?_
        refine WC.skip ?_
        refine WC.seq ?_
        refine WC.block ?_
        refine WC.regionDSeq rfl rfl ?_
        refine WO.s0 (v' := .d (.lst (a0.map T_api_SourceID.pd))) rfl rfl (fun _ => rfl) rfl ?_
        refine WO.s0 (v' := .d (.int .i64 s2)) rfl rfl (fun _ => rfl) rfl ?_
        refine bind_elim h (fun x5 hx5 h => ?_)
        refine WO.elemG hx5 rfl rfl rfl rfl rfl rfl rfl rfl rfl ?_
        refine WO.s0 (v' := .d (T_api_SourceID.pd x5)) rfl rfl (fun _ => rfl) rfl ?_
        refine WO.s0 (v' := .d (.lst (a1.map T_api_SourceID.pd))) rfl rfl (fun _ => rfl) rfl ?_
        refine WO.s0 (v' := .d (.int .i64 s2)) rfl rfl (fun _ => rfl) rfl ?_
        refine bind_elim h (fun x6 hx6 h => ?_)
        refine WO.elemG hx6 rfl rfl rfl rfl rfl rfl rfl rfl rfl ?_
        refine WO.s0 (v' := .d (T_api_SourceID.pd x6)) rfl rfl (fun _ => rfl) rfl ?_
        refine ite_elim h (fun hb7 h => ?_) (fun hb7 h => ?_)
        · refine WO.binS (eqN_28 x5 x6) hb7 rfl rfl rfl rfl rfl ?_
          refine WO.nil ⟨by kernel_rfl, ?_⟩
          refine WC.condT rfl ?_
          refine WC.regionSeq rfl rfl ?_
          refine WO.s0 (v' := .d (.bool false)) rfl rfl (fun _ => rfl) rfl ?_
          refine WO.nil ?_
          refine WC.ret ?_
          obtain rfl := Option.some.inj h
          exact ⟨(fun he => by cases he), rfl, rfl⟩
        · refine WO.binS (eqN_28 x5 x6) hb7 rfl rfl rfl rfl rfl ?_
          refine WO.nil ⟨by kernel_rfl, ?_⟩
          refine WC.condF rfl ?_
          refine WC.skip ?_
          refine WC.region rfl rfl ?_
          refine WO.s0 (v' := .d (.int .i64 s2)) rfl rfl (fun _ => rfl) rfl ?_
          refine WO.s0 (v' := .d (.int .i64 (IntKind.wrap .i64 (s2 + (1 : Int))))) rfl rfl (fun _ => rfl) rfl ?_
          refine WO.s0 (v' := .d (.int .i64 (IntKind.wrap .i64 (s2 + (1 : Int))))) rfl rfl (fun _ => rfl) rfl ?_
          refine WO.nil ?_
          obtain rfl := Option.some.inj h
          exact ⟨rfl, rfl⟩
      · refine WO.s0 (v' := .d (.bool false)) rfl rfl (fun _ => rfl) (congrArg (fun b => RV.d (.bool b)) hb4) ?_
        refine WO.nil ?_
        refine WC.condF rfl ?_
        refine WC.exit ?_
        obtain rfl := Option.some.inj h
        exact ⟨(fun he => by cases he), rfl, rfl⟩
    · intro e R' B' he hq
      rcases o9 with y10 | r11
      · obtain ⟨rfl, hI⟩ := hq
        refine ⟨fun _ => ?_, fun hne => (hne rfl).elim⟩
        refine WC.regionSeq hI rfl ?_
        refine WO.s0 (v' := .d (.bool true)) rfl rfl (fun _ => rfl) rfl ?_
        refine WO.nil ?_
        refine WC.ret ?_
        obtain rfl := Option.some.inj h
        exact WC.done rfl rfl rfl
      · obtain ⟨rfl, hf⟩ := hq
        obtain rfl := Option.some.inj h
        exact hf
theorem slices_Compact_SourceID_ev {d0 : (List T_api_SourceID)} {r : (List T_api_SourceID)} (h : slices_Compact_SourceID d0 = some r) : EvP prog hints ext 39 [.ref 0 0] [.arr 0 28 (d0.map T_api_SourceID.pd)] (.d (.lst (r.map T_api_SourceID.pd)), [.dead]) := by
  refine Ev.body rfl Tryd.func39 rfl (by kernel_rfl) ?_
  refine WC.regionSeq rfl rfl ?_
  refine WO.s0 (v' := .nils) rfl rfl (fun _ => rfl) rfl ?_
  refine WO.nil ?_
  refine WC.seq ?_
  refine WC.regionSeq rfl rfl ?_
  refine WO.s0 (v' := .ref 0 0) rfl rfl (fun _ => rfl) rfl ?_
  refine WO.lenR rfl rfl rfl rfl rfl rfl rfl rfl rfl ?_
  refine ite_elim h (fun hb1 h => ?_) (fun hb1 h => ?_)
  · refine WO.s0 (v' := .d (.bool true)) rfl rfl (fun _ => rfl) (congrArg (fun b => RV.d (.bool b)) hb1) ?_
    refine WO.nil ?_
    refine WC.condT rfl ?_
    refine WC.regionSeq rfl rfl ?_
    refine WO.s0 (v' := .ref 0 0) rfl rfl (fun _ => rfl) rfl ?_
    refine WO.s0 (v' := .ref 0 0) rfl rfl (fun _ => rfl) rfl ?_
    refine WO.nil ?_
    refine WC.ret ?_
    obtain rfl := Option.some.inj h
    exact WC.done rfl rfl rfl
  · refine WO.s0 (v' := .d (.bool false)) rfl rfl (fun _ => rfl) (congrArg (fun b => RV.d (.bool b)) hb1) ?_
    refine WO.nil ?_
    refine WC.condF rfl ?_
    refine WC.skip ?_
    refine WC.seq ?_
    refine WC.regionSeq rfl rfl ?_
    refine WO.s0 (v' := .d (.int .i64 1)) rfl rfl (fun _ => rfl) rfl ?_
    refine WO.nil ?_
    refine bind_elim h (fun o39 ho39 h => ?_)
    refine WC.block (WC.loop (WL.ofLoop ho39 (fun s R' B' => ghosts prog 1 (A R' B') (hints.at_ 39 4) = some (A [(0, .ref 0 0), (3, .d (.int .i64 s))] [(0, .arr 0 28 (d0.map T_api_SourceID.pd))])) (fun o e R' B' => match o with | .inl y => e = .exit 0 ∧ ghosts prog 1 (A R' B') (hints.at_ 39 16) = some (A [(0, .ref 0 0)] [(0, .arr 0 28 (d0.map T_api_SourceID.pd))]) | .inr r => e = .ret ∧ finish prog (hints.own 39) Tryd.f39 1 (A R' B') = some (.d (.lst (r.map T_api_SourceID.pd)), [.dead])) rfl ?_ ?_))
    · rintro s2 R' B' q3 hI h
      refine WC.seq ?_
      refine WC.regionSeq hI rfl ?_
      refine WO.s0 (v' := .d (.int .i64 s2)) rfl rfl (fun _ => rfl) rfl ?_
      refine WO.s0 (v' := .ref 0 0) rfl rfl (fun _ => rfl) rfl ?_
      refine WO.lenR rfl rfl rfl rfl rfl rfl rfl rfl rfl ?_
      refine ite_elim h (fun hb4 h => ?_) (fun hb4 h => ?_)
      · refine WO.s0 (v' := .d (.bool true)) rfl rfl (fun _ => rfl) (congrArg (fun b => RV.d (.bool b)) hb4) ?_
        refine WO.nil ?_
        refine WC.condT rfl ?_
        refine WC.skip ?_
        refine WC.seq ?_
        refine WC.block ?_
        refine WC.regionDSeq rfl rfl ?_
        refine WO.s0 (v' := .ref 0 0) rfl rfl (fun _ => rfl) rfl ?_
        refine WO.s0 (v' := .d (.int .i64 s2)) rfl rfl (fun _ => rfl) rfl ?_
        refine bind_elim h (fun x6 hx6 h => ?_)
        refine WO.eltG hx6 rfl rfl rfl rfl rfl rfl rfl rfl ?_
        refine bind_elim h (fun x7 hx7 h => ?_)
        refine WO.loadE hx7 rfl rfl rfl rfl rfl rfl ?_
        refine WO.s0 (v' := .ref 0 0) rfl rfl (fun _ => rfl) rfl ?_
        refine WO.s0 (v' := .d (.int .i64 s2)) rfl rfl (fun _ => rfl) rfl ?_
        refine WO.s0 (v' := .d (.int .i64 (IntKind.wrap .i64 (s2 - (1 : Int))))) rfl rfl (fun _ => rfl) rfl ?_
        refine bind_elim h (fun x9 hx9 h => ?_)
        refine WO.eltG hx9 rfl rfl rfl rfl rfl rfl rfl rfl ?_
        refine bind_elim h (fun x10 hx10 h => ?_)
        refine WO.loadE hx10 rfl rfl rfl rfl rfl rfl ?_
        refine ite_elim h (fun hb11 h => ?_) (fun hb11 h => ?_)
        · refine WO.binS (eqE_28 x7 x10) hb11 rfl rfl rfl rfl rfl ?_
          refine WO.nil ⟨by kernel_rfl, ?_⟩
          refine WC.condT rfl ?_
          refine WC.regionSeq rfl rfl ?_
          refine WO.s0 (v' := .ref 0 0) rfl rfl (fun _ => rfl) rfl ?_
          refine WO.s0 (v' := .d (.int .i64 s2)) rfl rfl (fun _ => rfl) rfl ?_
          refine bind_elim h (fun x12 hx12 h => ?_)
          refine WO.subR hx12 rfl rfl rfl rfl rfl rfl rfl rfl rfl rfl rfl ?_
          refine WO.s0 (v' := .view 0 0 (0 + (s2 : Int).toNat) (0 + ((d0.length : Int) : Int).toNat)) rfl rfl (fun _ => rfl) rfl ?_
          refine WO.nil ?_
          refine WC.seq ?_
          refine WC.regionSeq rfl rfl ?_
          refine WO.s0 (v' := .d (.int .i64 1)) rfl rfl (fun _ => rfl) rfl ?_
          refine WO.nil ?_
          refine bind_elim h (fun o32 ho32 h => ?_)
          refine WC.block (WC.loop (WL.ofLoop ho32 (fun s R' B' => ghosts prog 1 (A R' B') (hints.at_ 39 9) = some (A [(0, .ref 0 0), (3, .d (.int .i64 s.1)), (4, .view 0 0 (0 + (s2 : Int).toNat) (0 + ((d0.length : Int) : Int).toNat)), (5, .d (.int .i64 s.2.1))] [(0, .arr 0 28 (s.2.2.map T_api_SourceID.pd))])) (fun o e R' B' => e = .exit 2 ∧ ghosts prog 1 (A R' B') (hints.at_ 39 14) = some (A [(0, .ref 0 0), (3, .d (.int .i64 o.1))] [(0, .arr 0 28 (o.2.map T_api_SourceID.pd))])) rfl ?_ ?_))
          · rintro ⟨s13, s14, s15⟩ R' B' q18 hI h
            refine WC.seq ?_
            refine WC.regionSeq hI rfl ?_
            refine WO.s0 (v' := .d (.int .i64 s14)) rfl rfl (fun _ => rfl) rfl ?_
            refine WO.s0 (v' := .view 0 0 (0 + (s2 : Int).toNat) (0 + ((d0.length : Int) : Int).toNat)) rfl rfl (fun _ => rfl) rfl ?_
            refine bind_elim h (fun x19 hx19 h => ?_)
            refine WO.lenVw hx19 rfl rfl rfl rfl rfl rfl rfl rfl rfl ?_
            refine ite_elim h (fun hb20 h => ?_) (fun hb20 h => ?_)
            · refine WO.s0 (v' := .d (.bool true)) rfl rfl (fun _ => rfl) (congrArg (fun b => RV.d (.bool b)) hb20) ?_
              refine WO.nil ?_
              refine WC.condT rfl ?_
              refine WC.skip ?_
              refine WC.seq ?_
              refine WC.block ?_
              refine WC.regionDSeq rfl rfl ?_
              refine WO.s0 (v' := .view 0 0 (0 + (s2 : Int).toNat) (0 + ((d0.length : Int) : Int).toNat)) rfl rfl (fun _ => rfl) rfl ?_
              refine WO.s0 (v' := .d (.int .i64 s14)) rfl rfl (fun _ => rfl) rfl ?_
              refine bind_elim h (fun x21 hx21 h => ?_)
              refine WO.eltV hx21 rfl rfl rfl rfl rfl rfl rfl rfl ?_
              refine bind_elim h (fun x22 hx22 h => ?_)
              refine WO.loadE hx22 rfl rfl rfl rfl rfl rfl ?_
              refine WO.s0 (v' := .view 0 0 (0 + (s2 : Int).toNat) (0 + ((d0.length : Int) : Int).toNat)) rfl rfl (fun _ => rfl) rfl ?_
              refine WO.s0 (v' := .d (.int .i64 s14)) rfl rfl (fun _ => rfl) rfl ?_
              refine WO.s0 (v' := .d (.int .i64 (IntKind.wrap .i64 (s14 - (1 : Int))))) rfl rfl (fun _ => rfl) rfl ?_
              refine bind_elim h (fun x23 hx23 h => ?_)
              refine WO.eltV hx23 rfl rfl rfl rfl rfl rfl rfl rfl ?_
              refine bind_elim h (fun x24 hx24 h => ?_)
              refine WO.loadE hx24 rfl rfl rfl rfl rfl rfl ?_
              refine ite_elim h (fun hb25 h => ?_) (fun hb25 h => ?_)
              · refine WO.binS (eqN_28 x22 x24) hb25 rfl rfl rfl rfl rfl ?_
                refine WO.nil ⟨by kernel_rfl, ?_⟩
                refine WC.condT rfl ?_
                refine WC.regionSeq rfl rfl ?_
                refine WO.s0 (v' := .ref 0 0) rfl rfl (fun _ => rfl) rfl ?_
                refine WO.s0 (v' := .d (.int .i64 s13)) rfl rfl (fun _ => rfl) rfl ?_
                refine WO.s0 (v' := .view 0 0 (0 + (s2 : Int).toNat) (0 + ((d0.length : Int) : Int).toNat)) rfl rfl (fun _ => rfl) rfl ?_
                refine WO.s0 (v' := .d (.int .i64 s14)) rfl rfl (fun _ => rfl) rfl ?_
                refine bind_elim h (fun x26 hx26 h => ?_)
                refine WO.eltV hx26 rfl rfl rfl rfl rfl rfl rfl rfl ?_
                refine bind_elim h (fun x27 hx27 h => ?_)
                refine WO.loadE hx27 rfl rfl rfl rfl rfl rfl ?_
                refine bind_elim h (fun x29 hx29 h => ?_)
                refine WO.eltG hx29 rfl rfl rfl rfl rfl rfl rfl rfl ?_
                refine bind_elim h (fun x30 hx30 h => ?_)
                refine WO.storeE (g := T_api_SourceID.pd) hx30 (fun _ => rfl) (fun _ => rfl) rfl rfl rfl rfl rfl rfl rfl rfl rfl ?_
                refine WO.nil ?_
                refine WC.region rfl rfl ?_
                refine WO.s0 (v' := .d (.int .i64 s13)) rfl rfl (fun _ => rfl) rfl ?_
                refine WO.s0 (v' := .d (.int .i64 (IntKind.wrap .i64 (s13 + (1 : Int))))) rfl rfl (fun _ => rfl) rfl ?_
                refine WO.s0 (v' := .d (.int .i64 (IntKind.wrap .i64 (s13 + (1 : Int))))) rfl rfl (fun _ => rfl) rfl ?_
                refine WO.nil ?_
                refine WC.region rfl rfl ?_
                refine WO.s0 (v' := .d (.int .i64 s14)) rfl rfl (fun _ => rfl) rfl ?_
                refine WO.s0 (v' := .d (.int .i64 (IntKind.wrap .i64 (s14 + (1 : Int))))) rfl rfl (fun _ => rfl) rfl ?_
                refine WO.s0 (v' := .d (.int .i64 (IntKind.wrap .i64 (s14 + (1 : Int))))) rfl rfl (fun _ => rfl) rfl ?_
                refine WO.nil ?_
                obtain rfl := Option.some.inj h
                exact ⟨rfl, rfl⟩
              · refine WO.binS (eqN_28 x22 x24) hb25 rfl rfl rfl rfl rfl ?_
                refine WO.nil ⟨by kernel_rfl, ?_⟩
                refine WC.condF rfl ?_
                refine WC.skip ?_
                refine WC.region rfl rfl ?_
                refine WO.s0 (v' := .d (.int .i64 s14)) rfl rfl (fun _ => rfl) rfl ?_
                refine WO.s0 (v' := .d (.int .i64 (IntKind.wrap .i64 (s14 + (1 : Int))))) rfl rfl (fun _ => rfl) rfl ?_
                refine WO.s0 (v' := .d (.int .i64 (IntKind.wrap .i64 (s14 + (1 : Int))))) rfl rfl (fun _ => rfl) rfl ?_
                refine WO.nil ?_
                obtain rfl := Option.some.inj h
                exact ⟨rfl, rfl⟩
            · refine WO.s0 (v' := .d (.bool false)) rfl rfl (fun _ => rfl) (congrArg (fun b => RV.d (.bool b)) hb20) ?_
              refine WO.nil ?_
              refine WC.condF rfl ?_
              refine WC.exit ?_
              obtain rfl := Option.some.inj h
              exact ⟨(fun he => by cases he), rfl, rfl⟩
          · intro e R' B' he hq
            obtain ⟨rfl, hI⟩ := hq
            refine ⟨fun _ => ?_, fun hne => (hne rfl).elim⟩
            refine WC.regionSeq hI rfl ?_
            refine WO.s0 (v' := .ref 0 0) rfl rfl (fun _ => rfl) rfl ?_
            refine WO.s0 (v' := .d (.int .i64 o32.1)) rfl rfl (fun _ => rfl) rfl ?_
            refine bind_elim h (fun x33 hx33 h => ?_)
            refine WO.subR hx33 rfl rfl rfl rfl rfl rfl rfl rfl rfl rfl rfl ?_
            refine bind_elim h (fun x34 hx34 h => ?_)
            refine WO.clearN (z := (T_api_SourceID.mk [] [] [] [])) (g := T_api_SourceID.pd) rfl rfl rfl rfl rfl rfl rfl (dst_view hx34 rfl) rfl rfl rfl rfl ?_
            refine WO.nil ?_
            refine WC.regionSeq rfl rfl ?_
            refine WO.s0 (v' := .ref 0 0) rfl rfl (fun _ => rfl) rfl ?_
            refine WO.s0 (v' := .d (.int .i64 o32.1)) rfl rfl (fun _ => rfl) rfl ?_
            refine bind_elim h (fun x36 hx36 h => ?_)
            refine WO.subR hx36 rfl rfl rfl rfl rfl rfl rfl rfl rfl rfl rfl ?_
            refine WO.s0 (v' := .view 0 0 (0 + (0 : Int).toNat) (0 + (o32.1 : Int).toNat)) rfl rfl (fun _ => rfl) rfl ?_
            refine WO.nil ?_
            refine WC.ret ?_
            refine bind_elim h (fun x37 hx37 h => ?_)
            obtain rfl := Option.some.inj h
            exact ⟨(fun he => by cases he), rfl, (finish_view hx37 rfl rfl rfl rfl rfl)⟩
        · refine WO.binS (eqE_28 x7 x10) hb11 rfl rfl rfl rfl rfl ?_
          refine WO.nil ⟨by kernel_rfl, ?_⟩
          refine WC.condF rfl ?_
          refine WC.skip ?_
          refine WC.region rfl rfl ?_
          refine WO.s0 (v' := .d (.int .i64 s2)) rfl rfl (fun _ => rfl) rfl ?_
          refine WO.s0 (v' := .d (.int .i64 (IntKind.wrap .i64 (s2 + (1 : Int))))) rfl rfl (fun _ => rfl) rfl ?_
          refine WO.s0 (v' := .d (.int .i64 (IntKind.wrap .i64 (s2 + (1 : Int))))) rfl rfl (fun _ => rfl) rfl ?_
          refine WO.nil ?_
          obtain rfl := Option.some.inj h
          exact ⟨rfl, rfl⟩
      · refine WO.s0 (v' := .d (.bool false)) rfl rfl (fun _ => rfl) (congrArg (fun b => RV.d (.bool b)) hb4) ?_
        refine WO.nil ?_
        refine WC.condF rfl ?_
        refine WC.exit ?_
        obtain rfl := Option.some.inj h
        exact ⟨(fun he => by cases he), rfl, rfl⟩
    · intro e R' B' he hq
      rcases o39 with y40 | r41
      · obtain ⟨rfl, hI⟩ := hq
        refine ⟨fun _ => ?_, fun hne => (hne rfl).elim⟩
        refine WC.regionSeq hI rfl ?_
        refine WO.s0 (v' := .ref 0 0) rfl rfl (fun _ => rfl) rfl ?_
        refine WO.s0 (v' := .ref 0 0) rfl rfl (fun _ => rfl) rfl ?_
        refine WO.nil ?_
        refine WC.ret ?_
        obtain rfl := Option.some.inj h
        exact WC.done rfl rfl rfl
      · obtain ⟨rfl, hf⟩ := hq
        obtain rfl := Option.some.inj h
        exact hf
theorem source_Sort_ev {a0 : (List T_api_SourceID)} {r : (List T_api_SourceID)} (h : source_Sort a0 = some r) : EvP prog hints ext 17 [.d (.lst (a0.map T_api_SourceID.pd))] [] (.d (.lst (r.map T_api_SourceID.pd)), []) := by
  refine Ev.body rfl Tryd.func17 rfl (by kernel_rfl) ?_
  refine WC.regionSeq rfl rfl ?_
  refine WO.s0 (v' := .nils) rfl rfl (fun _ => rfl) rfl ?_
  refine WO.nil ?_
  refine WC.regionSeq rfl rfl ?_
  refine WO.s0 (v' := .d (.lst (a0.map T_api_SourceID.pd))) rfl rfl (fun _ => rfl) rfl ?_
  refine bind_elim h (fun x1 hx1 h => ?_)
  refine WO.callR (v := .ref 80 0) (u := [(80, .arr 0 28 (x1.map T_api_SourceID.pd))]) rfl rfl (fun _ => rfl) rfl rfl rfl rfl rfl (clone_37 hx1) rfl rfl rfl rfl ?_
  refine WO.s0 (v' := .ref 80 0) rfl rfl (fun _ => rfl) rfl ?_
  refine WO.nil ?_
  refine WC.regionSeq rfl rfl ?_
  refine WO.s0 (v' := .ref 80 0) rfl rfl (fun _ => rfl) rfl ?_
  refine bind_elim h (fun x2 hx2 h => ?_)
  refine WO.callR (v := .tup []) (u := [(80, .arr 0 28 (x2.map T_api_SourceID.pd))]) rfl rfl (fun _ => rfl) rfl rfl rfl rfl rfl (sort_38_16 hx2) rfl rfl rfl rfl ?_
  refine WO.nil ?_
  refine WC.regionSeq rfl rfl ?_
  refine WO.s0 (v' := .ref 80 0) rfl rfl (fun _ => rfl) rfl ?_
  refine bind_elim h (fun x3 hx3 h => ?_)
  refine WO.callR (v := .d (.lst (x3.map T_api_SourceID.pd))) (u := [(80, .dead)]) rfl rfl (fun _ => rfl) rfl rfl rfl rfl rfl (slices_Compact_SourceID_ev hx3) rfl rfl rfl rfl ?_
  refine WO.s0 (v' := .d (.lst (x3.map T_api_SourceID.pd))) rfl rfl (fun _ => rfl) rfl ?_
  refine WO.nil ?_
  refine WC.ret ?_
  obtain rfl := Option.some.inj h
  exact WC.done rfl rfl rfl
theorem ref03_Sort_ev {a0 : (List T_api_SourceID)} {r : (List T_api_SourceID)} (h : ref03_Sort a0 = some r) : EvP prog hints ext 29 [.d (.lst (a0.map T_api_SourceID.pd))] [] (.ref 0 0, [.arr 0 28 (r.map T_api_SourceID.pd)]) := by
  refine Ev.body rfl Tryd.func29 rfl (by kernel_rfl) ?_
  refine WC.regionSeq rfl rfl ?_
  refine WO.s0 (v' := .nils) rfl rfl (fun _ => rfl) rfl ?_
  refine WO.nil ?_
  refine WC.regionSeq rfl rfl ?_
  refine WO.s0 (v' := .nils) rfl rfl (fun _ => rfl) rfl ?_
  refine WO.nil ?_
  refine WC.seq ?_
  refine WC.regionSeq rfl rfl ?_
  refine WO.s0 (v' := .d (.int .i64 0)) rfl rfl (fun _ => rfl) rfl ?_
  refine WO.nil ?_
  refine bind_elim h (fun o39 ho39 h => ?_)
  refine WC.block (WC.loop (WL.ofLoop ho39 (fun s R' B' => ghosts prog 0 (A R' B') (hints.at_ 29 3) = some (A [(0, .d (.lst (a0.map T_api_SourceID.pd))), (3, .ref 816 0), (4, .d (.int .i64 s.1))] [(816, .arr 0 28 (s.2.map T_api_SourceID.pd))])) (fun o e R' B' => e = .exit 0 ∧ ghosts prog 0 (A R' B') (hints.at_ 29 12) = some (A [(3, .ref 816 0)] [(816, .arr 0 28 (o.map T_api_SourceID.pd))])) rfl ?_ ?_))
  · rintro ⟨s1, s2⟩ R' B' q4 hI h
    refine WC.seq ?_
    refine WC.regionSeq hI rfl ?_
    refine WO.s0 (v' := .d (.int .i64 s1)) rfl rfl (fun _ => rfl) rfl ?_
    refine WO.s0 (v' := .d (.lst (a0.map T_api_SourceID.pd))) rfl rfl (fun _ => rfl) rfl ?_
    refine WO.s0 (v' := .d (.int .i64 (a0.length : Int))) rfl rfl (fun _ => rfl) (lenMap _ _) ?_
    refine ite_elim h (fun hb5 h => ?_) (fun hb5 h => ?_)
    · refine WO.s0 (v' := .d (.bool true)) rfl rfl (fun _ => rfl) (congrArg (fun b => RV.d (.bool b)) hb5) ?_
      refine WO.nil ?_
      refine WC.condT rfl ?_
      refine WC.skip ?_
      refine WC.seq ?_
      refine WC.block ?_
      refine WC.regionSeq rfl rfl ?_
      refine WO.s0 (v' := .d (.int .i64 0)) rfl rfl (fun _ => rfl) rfl ?_
      refine WO.nil ?_
      refine WC.seq ?_
      refine bind_elim h (fun o19 ho19 h => ?_)
      refine WC.block (WC.loop (WL.ofLoop ho19 (fun s R' B' => ghosts prog 0 (A R' B') (hints.at_ 29 6) = some (A [(0, .d (.lst (a0.map T_api_SourceID.pd))), (3, .ref 816 0), (4, .d (.int .i64 s1)), (5, .d (.int .i64 s))] [(816, .arr 0 28 (s2.map T_api_SourceID.pd))])) (fun o e R' B' => e = .exit 2 ∧ ghosts prog 0 (A R' B') (hints.at_ 29 8) = some (A [(0, .d (.lst (a0.map T_api_SourceID.pd))), (3, .ref 816 0), (4, .d (.int .i64 o.1)), (5, .d (.int .i64 o.2.1))] [(816, .arr 0 28 (o.2.2.map T_api_SourceID.pd))])) rfl ?_ ?_))
      · rintro s6 R' B' q10 hI h
        refine WC.seq ?_
        refine WC.regionDSeq hI rfl ?_
        refine WO.s0 (v' := .d (.int .i64 s6)) rfl rfl (fun _ => rfl) rfl ?_
        refine WO.s0 (v' := .ref 816 0) rfl rfl (fun _ => rfl) rfl ?_
        refine WO.lenR rfl rfl rfl rfl rfl rfl rfl rfl rfl ?_
        refine ite_elim h (fun hb11 h => ?_) (fun hb11 h => ?_)
        · refine WO.s0 (v' := .d (.bool true)) rfl rfl (fun _ => rfl) (congrArg (fun b => RV.d (.bool b)) hb11) ?_
          refine WO.s0 (v' := .d (.bool true)) rfl rfl (fun _ => rfl) rfl ?_
          refine WO.s0 (v' := .ref 816 0) rfl rfl (fun _ => rfl) rfl ?_
          refine WO.s0 (v' := .d (.int .i64 s6)) rfl rfl (fun _ => rfl) rfl ?_
          refine bind_elim h (fun x13 hx13 h => ?_)
          refine WO.eltG hx13 rfl rfl rfl rfl rfl rfl rfl rfl ?_
          refine bind_elim h (fun x14 hx14 h => ?_)
          refine WO.loadE hx14 rfl rfl rfl rfl rfl rfl ?_
          refine WO.s0 (v' := .d (.lst (a0.map T_api_SourceID.pd))) rfl rfl (fun _ => rfl) rfl ?_
          refine WO.s0 (v' := .d (.int .i64 s1)) rfl rfl (fun _ => rfl) rfl ?_
          refine bind_elim h (fun x15 hx15 h => ?_)
          refine WO.elemG hx15 rfl rfl rfl rfl rfl rfl rfl rfl rfl ?_
          refine WO.s0 (v' := .d (T_api_SourceID.pd x15)) rfl rfl (fun _ => rfl) rfl ?_
          refine bind_elim h (fun x16 hx16 h => ?_)
          refine WO.callR (v := .d (.int .i64 x16)) (u := []) rfl rfl (fun _ => rfl) rfl rfl rfl rfl rfl (ref03_Compare_ev hx16) rfl rfl rfl rfl ?_
          refine WO.s0 (v' := .d (.bool (decide (x16 < (0 : Int))))) rfl rfl (fun _ => rfl) rfl ?_
          refine ite_elim h (fun hb17 h => ?_) (fun hb17 h => ?_)
          · refine WO.s0 (v' := .d (.bool true)) rfl rfl (fun _ => rfl) (congrArg (fun b => RV.d (.bool b)) hb17) ?_
            refine WO.nil ⟨by kernel_rfl, ?_⟩
            refine WC.condT rfl ?_
            refine WC.skip ?_
            refine WC.block ?_
            refine WC.region rfl rfl ?_
            refine WO.s0 (v' := .d (.int .i64 s6)) rfl rfl (fun _ => rfl) rfl ?_
            refine WO.s0 (v' := .d (.int .i64 (IntKind.wrap .i64 (s6 + (1 : Int))))) rfl rfl (fun _ => rfl) rfl ?_
            refine WO.s0 (v' := .d (.int .i64 (IntKind.wrap .i64 (s6 + (1 : Int))))) rfl rfl (fun _ => rfl) rfl ?_
            refine WO.nil ?_
            obtain rfl := Option.some.inj h
            exact ⟨rfl, rfl⟩
          · refine WO.s0 (v' := .d (.bool false)) rfl rfl (fun _ => rfl) (congrArg (fun b => RV.d (.bool b)) hb17) ?_
            refine WO.nil ⟨by kernel_rfl, ?_⟩
            refine WC.condF rfl ?_
            refine WC.exit ?_
            obtain rfl := Option.some.inj h
            exact ⟨(fun he => by cases he), rfl, rfl⟩
        · refine WO.s0 (v' := .d (.bool false)) rfl rfl (fun _ => rfl) (congrArg (fun b => RV.d (.bool b)) hb11) ?_
          refine WO.s0 (v' := .d (.bool false)) rfl rfl (fun _ => rfl) rfl ?_
          refine WO.skip rfl rfl ?_
          refine WO.skip rfl rfl ?_
          refine WO.skip rfl rfl ?_
          refine WO.skip rfl rfl ?_
          refine WO.skip rfl rfl ?_
          refine WO.skip rfl rfl ?_
          refine WO.skip rfl rfl ?_
          refine WO.skip rfl rfl ?_
          refine WO.skip rfl rfl ?_
          refine WO.skip rfl rfl ?_
          refine WO.s0 (v' := .d (.bool false)) rfl rfl (fun _ => rfl) rfl ?_
          refine WO.nil ⟨by kernel_rfl, ?_⟩
          refine WC.condF rfl ?_
          refine WC.exit ?_
          obtain rfl := Option.some.inj h
          exact ⟨(fun he => by cases he), rfl, rfl⟩
      · intro e R' B' he hq
        obtain ⟨rfl, hI⟩ := hq
        refine ⟨fun _ => ?_, fun hne => (hne rfl).elim⟩
        refine WC.join (α := Unit) (fun x R' B' => ghosts prog 0 (A R' B') (hints.at_ 29 9) = some (A [(0, .d (.lst (a0.map T_api_SourceID.pd))), (3, .ref 816 0), (4, .d (.int .i64 o19.1)), (5, .d (.int .i64 o19.2.1))] [(816, .arr 0 28 (o19.2.2.map T_api_SourceID.pd))])) (fun x => ref03_Sort_k31 a0 o19 = some q4) ?_ ?_
        · refine WC.regionDSeq hI rfl ?_
          refine WO.s0 (v' := .d (.int .i64 o19.2.1)) rfl rfl (fun _ => rfl) rfl ?_
          refine WO.s0 (v' := .ref 816 0) rfl rfl (fun _ => rfl) rfl ?_
          refine WO.lenR rfl rfl rfl rfl rfl rfl rfl rfl rfl ?_
          refine ite_elim h (fun hb32 h => ?_) (fun hb32 h => ?_)
          · refine WO.s0 (v' := .d (.bool true)) rfl rfl (fun _ => rfl) (congrArg (fun b => RV.d (.bool b)) hb32) ?_
            refine WO.s0 (v' := .d (.bool true)) rfl rfl (fun _ => rfl) rfl ?_
            refine WO.s0 (v' := .ref 816 0) rfl rfl (fun _ => rfl) rfl ?_
            refine WO.s0 (v' := .d (.int .i64 o19.2.1)) rfl rfl (fun _ => rfl) rfl ?_
            refine bind_elim h (fun x34 hx34 h => ?_)
            refine WO.eltG hx34 rfl rfl rfl rfl rfl rfl rfl rfl ?_
            refine bind_elim h (fun x35 hx35 h => ?_)
            refine WO.loadE hx35 rfl rfl rfl rfl rfl rfl ?_
            refine WO.s0 (v' := .d (.lst (a0.map T_api_SourceID.pd))) rfl rfl (fun _ => rfl) rfl ?_
            refine WO.s0 (v' := .d (.int .i64 o19.1)) rfl rfl (fun _ => rfl) rfl ?_
            refine bind_elim h (fun x36 hx36 h => ?_)
            refine WO.elemG hx36 rfl rfl rfl rfl rfl rfl rfl rfl rfl ?_
            refine WO.s0 (v' := .d (T_api_SourceID.pd x36)) rfl rfl (fun _ => rfl) rfl ?_
            refine WO.bin (eqE_28 x35 x36) rfl rfl rfl rfl rfl ?_
            refine ite_elim h (fun hb37 h => ?_) (fun hb37 h => ?_)
            · refine WO.s0 (v' := .d (.bool true)) rfl rfl (fun _ => rfl) (congrArg (fun b => RV.d (.bool b)) hb37) ?_
              refine WO.nil ⟨by kernel_rfl, ?_⟩
              refine WC.condT rfl ?_
              refine WC.exit ?_
              refine ⟨fun _ => ?_, fun hne => (hne rfl).elim⟩
              refine WC.region rfl rfl ?_
              refine WO.s0 (v' := .d (.int .i64 o19.1)) rfl rfl (fun _ => rfl) rfl ?_
              refine WO.s0 (v' := .d (.int .i64 (IntKind.wrap .i64 (o19.1 + (1 : Int))))) rfl rfl (fun _ => rfl) rfl ?_
              refine WO.s0 (v' := .d (.int .i64 (IntKind.wrap .i64 (o19.1 + (1 : Int))))) rfl rfl (fun _ => rfl) rfl ?_
              refine WO.nil ?_
              obtain rfl := Option.some.inj h
              exact ⟨rfl, rfl⟩
            · refine WO.s0 (v' := .d (.bool false)) rfl rfl (fun _ => rfl) (congrArg (fun b => RV.d (.bool b)) hb37) ?_
              refine WO.nil ⟨by kernel_rfl, ?_⟩
              refine WC.condF rfl ?_
              refine WC.skip ?_
              exact ⟨(), rfl, h⟩
          · refine WO.s0 (v' := .d (.bool false)) rfl rfl (fun _ => rfl) (congrArg (fun b => RV.d (.bool b)) hb32) ?_
            refine WO.s0 (v' := .d (.bool false)) rfl rfl (fun _ => rfl) rfl ?_
            refine WO.skip rfl rfl ?_
            refine WO.skip rfl rfl ?_
            refine WO.skip rfl rfl ?_
            refine WO.skip rfl rfl ?_
            refine WO.skip rfl rfl ?_
            refine WO.skip rfl rfl ?_
            refine WO.skip rfl rfl ?_
            refine WO.skip rfl rfl ?_
            refine WO.skip rfl rfl ?_
            refine WO.s0 (v' := .d (.bool false)) rfl rfl (fun _ => rfl) rfl ?_
            refine WO.nil ⟨by kernel_rfl, ?_⟩
            refine WC.condF rfl ?_
            refine WC.skip ?_
            exact ⟨(), rfl, h⟩
        · rintro ⟨⟩ R' B' hI h
          refine WC.regionSeq hI rfl ?_
          refine WO.s0 (v' := .ref 816 0) rfl rfl (fun _ => rfl) rfl ?_
          refine WO.s0 (v' := .d (.lst (a0.map T_api_SourceID.pd))) rfl rfl (fun _ => rfl) rfl ?_
          refine WO.s0 (v' := .d (.int .i64 o19.1)) rfl rfl (fun _ => rfl) rfl ?_
          refine bind_elim h (fun x20 hx20 h => ?_)
          refine WO.elemG hx20 rfl rfl rfl rfl rfl rfl rfl rfl rfl ?_
          refine WO.s0 (v' := .d (T_api_SourceID.pd x20)) rfl rfl (fun _ => rfl) rfl ?_
          refine WO.s0 (v' := .d (.lst ([x20].map T_api_SourceID.pd))) rfl rfl (fun _ => rfl) rfl ?_
          refine bind_elim h (fun x21 hx21 h => ?_)
          refine WO.appR hx21 (fun _ => rfl) rfl rfl rfl rfl rfl rfl rfl rfl rfl rfl rfl rfl rfl rfl ?_
          refine WO.s0 (v' := .ref 816 1) rfl rfl (fun _ => rfl) rfl ?_
          refine WO.nil ?_
          refine WC.regionDSeq rfl rfl ?_
          refine WO.s0 (v' := .ref 816 1) rfl rfl (fun _ => rfl) rfl ?_
          refine WO.s0 (v' := .d (.int .i64 o19.2.1)) rfl rfl (fun _ => rfl) rfl ?_
          refine WO.s0 (v' := .d (.int .i64 (IntKind.wrap .i64 (o19.2.1 + (1 : Int))))) rfl rfl (fun _ => rfl) rfl ?_
          refine bind_elim h (fun x22 hx22 h => ?_)
          refine WO.subR hx22 rfl rfl rfl rfl rfl rfl rfl rfl rfl rfl rfl ?_
          refine WO.s0 (v' := .ref 816 1) rfl rfl (fun _ => rfl) rfl ?_
          refine WO.s0 (v' := .d (.int .i64 o19.2.1)) rfl rfl (fun _ => rfl) rfl ?_
          refine bind_elim h (fun x23 hx23 h => ?_)
          refine WO.subR hx23 rfl rfl rfl rfl rfl rfl rfl rfl rfl rfl rfl ?_
          refine bind_elim h (fun x24 hx24 h => ?_)
          refine bind_elim h (fun x25 hx25 h => ?_)
          refine WO.copyG rfl rfl rfl rfl rfl rfl rfl rfl (dst_view hx24 rfl) (src_view hx25 rfl) rfl rfl (fun _ => rfl) ?_
          refine WO.nil ⟨by kernel_rfl, ?_⟩
          refine WC.region rfl rfl ?_
          refine WO.s0 (v' := .ref 816 1) rfl rfl (fun _ => rfl) rfl ?_
          refine WO.s0 (v' := .d (.int .i64 o19.2.1)) rfl rfl (fun _ => rfl) rfl ?_
          refine WO.s0 (v' := .d (.lst (a0.map T_api_SourceID.pd))) rfl rfl (fun _ => rfl) rfl ?_
          refine WO.s0 (v' := .d (.int .i64 o19.1)) rfl rfl (fun _ => rfl) rfl ?_
          refine bind_elim h (fun x27 hx27 h => ?_)
          refine WO.elemG hx27 rfl rfl rfl rfl rfl rfl rfl rfl rfl ?_
          refine WO.s0 (v' := .d (T_api_SourceID.pd x27)) rfl rfl (fun _ => rfl) rfl ?_
          refine bind_elim h (fun x29 hx29 h => ?_)
          refine WO.eltG hx29 rfl rfl rfl rfl rfl rfl rfl rfl ?_
          refine bind_elim h (fun x30 hx30 h => ?_)
          refine WO.storeE (g := T_api_SourceID.pd) hx30 (fun _ => rfl) (fun _ => rfl) rfl rfl rfl rfl rfl rfl rfl rfl rfl ?_
          refine WO.nil ?_
          refine WC.region rfl rfl ?_
          refine WO.s0 (v' := .d (.int .i64 o19.1)) rfl rfl (fun _ => rfl) rfl ?_
          refine WO.s0 (v' := .d (.int .i64 (IntKind.wrap .i64 (o19.1 + (1 : Int))))) rfl rfl (fun _ => rfl) rfl ?_
          refine WO.s0 (v' := .d (.int .i64 (IntKind.wrap .i64 (o19.1 + (1 : Int))))) rfl rfl (fun _ => rfl) rfl ?_
          refine WO.nil ?_
          obtain rfl := Option.some.inj h
          exact ⟨rfl, rfl⟩
    · refine WO.s0 (v' := .d (.bool false)) rfl rfl (fun _ => rfl) (congrArg (fun b => RV.d (.bool b)) hb5) ?_
      refine WO.nil ?_
      refine WC.condF rfl ?_
      refine WC.exit ?_
      obtain rfl := Option.some.inj h
      exact ⟨(fun he => by cases he), rfl, rfl⟩
  · intro e R' B' he hq
    obtain ⟨rfl, hI⟩ := hq
    refine ⟨fun _ => ?_, fun hne => (hne rfl).elim⟩
    refine WC.regionSeq hI rfl ?_
    refine WO.s0 (v' := .ref 816 0) rfl rfl (fun _ => rfl) rfl ?_
    refine WO.s0 (v' := .ref 816 0) rfl rfl (fun _ => rfl) rfl ?_
    refine WO.nil ?_
    refine WC.ret ?_
    obtain rfl := Option.some.inj h
    exact WC.done rfl rfl rfl
theorem law03_SourceExact_ev {a0 : (List Int)} {a1 : T_api_SourceID} {a2 : (List UInt8)} {a3 : (List UInt8)} {a4 : (List T_api_SourceID)} {r : Bool} (h : law03_SourceExact a0 a1 a2 a3 a4 = some r) : EvP prog hints ext 6 [.d (.lst (a0.map (PD.int .i64))), .d (T_api_SourceID.pd a1), .d (.str a2), .d (.str a3), .d (.lst (a4.map T_api_SourceID.pd))] [] (.d (.bool r), []) := by
  refine Ev.body rfl Tryd.func6 rfl (by kernel_rfl) ?_
  refine WC.regionSeq rfl rfl ?_
  refine WO.s1 (v := .ptr 96 0) (id := 96) (bx := .var [.d (.str a1.fNetwork), .d (.str a1.fStation), .d (.str a1.fLocation), .d (.str a1.fChannel)]) rfl rfl (fun _ => rfl) ?_
  refine WO.s0 (v' := .d (.bool false)) rfl rfl (fun _ => rfl) rfl ?_
  refine WO.nil ?_
  refine WC.seq ?_
  refine WC.regionSeq rfl rfl ?_
  refine WO.s0 (v' := .d (.lst (a0.map (PD.int .i64)))) rfl rfl (fun _ => rfl) rfl ?_
  refine bind_elim h (fun x1 hx1 h => ?_)
  refine WO.callR (v := .d (.bool x1)) (u := []) rfl rfl (fun _ => rfl) rfl rfl rfl rfl rfl (made_Light_ev hx1) rfl rfl rfl rfl ?_
  refine ite_elim h (fun hb2 h => ?_) (fun hb2 h => ?_)
  · refine WO.s0 (v' := .d (.bool true)) rfl rfl (fun _ => rfl) (congrArg (fun b => RV.d (.bool b)) hb2) ?_
    refine WO.s0 (v' := .d (.bool true)) rfl rfl (fun _ => rfl) rfl ?_
    refine WO.skip rfl rfl ?_
    refine WO.skip rfl rfl ?_
    refine WO.skip rfl rfl ?_
    refine WO.s0 (v' := .d (.bool true)) rfl rfl (fun _ => rfl) rfl ?_
    refine WO.s0 (v' := .d (.bool true)) rfl rfl (fun _ => rfl) rfl ?_
    refine WO.skip rfl rfl ?_
    refine WO.skip rfl rfl ?_
    refine WO.skip rfl rfl ?_
    refine WO.s0 (v' := .d (.bool true)) rfl rfl (fun _ => rfl) rfl ?_
    refine WO.s0 (v' := .d (.bool true)) rfl rfl (fun _ => rfl) rfl ?_
    refine WO.skip rfl rfl ?_
    refine WO.skip rfl rfl ?_
    refine WO.skip rfl rfl ?_
    refine WO.s0 (v' := .d (.bool true)) rfl rfl (fun _ => rfl) rfl ?_
    refine WO.nil ?_
    refine WC.condT rfl ?_
    refine WC.regionSeq rfl rfl ?_
    refine bind_elim h (fun x3 hx3 h => ?_)
    refine WO.callR (v := .d (.bool x3)) (u := []) rfl rfl (fun _ => rfl) rfl rfl rfl rfl rfl (law03_sane_ev hx3) rfl rfl rfl rfl ?_
    refine WO.s0 (v' := .d (.bool x3)) rfl rfl (fun _ => rfl) rfl ?_
    refine WO.nil ?_
    refine WC.ret ?_
    obtain rfl := Option.some.inj h
    exact WC.done rfl rfl rfl
  · refine WO.s0 (v' := .d (.bool false)) rfl rfl (fun _ => rfl) (congrArg (fun b => RV.d (.bool b)) hb2) ?_
    refine WO.s0 (v' := .d (.bool false)) rfl rfl (fun _ => rfl) rfl ?_
    refine WO.s0 (v' := .d (.str a2)) rfl rfl (fun _ => rfl) rfl ?_
    refine WO.s0 (v' := .d (.int .i64 (a2.length : Int))) rfl rfl (fun _ => rfl) rfl ?_
    refine WO.s0 (v' := .d (.bool (decide ((a2.length : Int) > (60 : Int))))) rfl rfl (fun _ => rfl) rfl ?_
    refine ite_elim h (fun hb4 h => ?_) (fun hb4 h => ?_)
    · refine WO.s0 (v' := .d (.bool true)) rfl rfl (fun _ => rfl) (congrArg (fun b => RV.d (.bool b)) hb4) ?_
      refine WO.s0 (v' := .d (.bool true)) rfl rfl (fun _ => rfl) rfl ?_
      refine WO.skip rfl rfl ?_
      refine WO.skip rfl rfl ?_
      refine WO.skip rfl rfl ?_
      refine WO.s0 (v' := .d (.bool true)) rfl rfl (fun _ => rfl) rfl ?_
      refine WO.s0 (v' := .d (.bool true)) rfl rfl (fun _ => rfl) rfl ?_
      refine WO.skip rfl rfl ?_
      refine WO.skip rfl rfl ?_
      refine WO.skip rfl rfl ?_
      refine WO.s0 (v' := .d (.bool true)) rfl rfl (fun _ => rfl) rfl ?_
      refine WO.nil ?_
      refine WC.condT rfl ?_
      refine WC.regionSeq rfl rfl ?_
      refine bind_elim h (fun x5 hx5 h => ?_)
      refine WO.callR (v := .d (.bool x5)) (u := []) rfl rfl (fun _ => rfl) rfl rfl rfl rfl rfl (law03_sane_ev hx5) rfl rfl rfl rfl ?_
      refine WO.s0 (v' := .d (.bool x5)) rfl rfl (fun _ => rfl) rfl ?_
      refine WO.nil ?_
      refine WC.ret ?_
      obtain rfl := Option.some.inj h
      exact WC.done rfl rfl rfl
    · refine WO.s0 (v' := .d (.bool false)) rfl rfl (fun _ => rfl) (congrArg (fun b => RV.d (.bool b)) hb4) ?_
      refine WO.s0 (v' := .d (.bool false)) rfl rfl (fun _ => rfl) rfl ?_
      refine WO.s0 (v' := .d (.str a3)) rfl rfl (fun _ => rfl) rfl ?_
      refine WO.s0 (v' := .d (.int .i64 (a3.length : Int))) rfl rfl (fun _ => rfl) rfl ?_
      refine WO.s0 (v' := .d (.bool (decide ((a3.length : Int) > (40 : Int))))) rfl rfl (fun _ => rfl) rfl ?_
      refine ite_elim h (fun hb6 h => ?_) (fun hb6 h => ?_)
      · refine WO.s0 (v' := .d (.bool true)) rfl rfl (fun _ => rfl) (congrArg (fun b => RV.d (.bool b)) hb6) ?_
        refine WO.s0 (v' := .d (.bool true)) rfl rfl (fun _ => rfl) rfl ?_
        refine WO.skip rfl rfl ?_
        refine WO.skip rfl rfl ?_
        refine WO.skip rfl rfl ?_
        refine WO.s0 (v' := .d (.bool true)) rfl rfl (fun _ => rfl) rfl ?_
        refine WO.nil ?_
        refine WC.condT rfl ?_
        refine WC.regionSeq rfl rfl ?_
        refine bind_elim h (fun x7 hx7 h => ?_)
        refine WO.callR (v := .d (.bool x7)) (u := []) rfl rfl (fun _ => rfl) rfl rfl rfl rfl rfl (law03_sane_ev hx7) rfl rfl rfl rfl ?_
        refine WO.s0 (v' := .d (.bool x7)) rfl rfl (fun _ => rfl) rfl ?_
        refine WO.nil ?_
        refine WC.ret ?_
        obtain rfl := Option.some.inj h
        exact WC.done rfl rfl rfl
      · refine WO.s0 (v' := .d (.bool false)) rfl rfl (fun _ => rfl) (congrArg (fun b => RV.d (.bool b)) hb6) ?_
        refine WO.s0 (v' := .d (.bool false)) rfl rfl (fun _ => rfl) rfl ?_
        refine WO.s0 (v' := .d (.lst (a4.map T_api_SourceID.pd))) rfl rfl (fun _ => rfl) rfl ?_
        refine WO.s0 (v' := .d (.int .i64 (a4.length : Int))) rfl rfl (fun _ => rfl) (lenMap _ _) ?_
        refine WO.s0 (v' := .d (.bool (decide ((a4.length : Int) > (40 : Int))))) rfl rfl (fun _ => rfl) rfl ?_
        refine ite_elim h (fun hb8 h => ?_) (fun hb8 h => ?_)
        · refine WO.s0 (v' := .d (.bool true)) rfl rfl (fun _ => rfl) (congrArg (fun b => RV.d (.bool b)) hb8) ?_
          refine WO.nil ?_
          refine WC.condT rfl ?_
          refine WC.regionSeq rfl rfl ?_
          refine bind_elim h (fun x9 hx9 h => ?_)
          refine WO.callR (v := .d (.bool x9)) (u := []) rfl rfl (fun _ => rfl) rfl rfl rfl rfl rfl (law03_sane_ev hx9) rfl rfl rfl rfl ?_
          refine WO.s0 (v' := .d (.bool x9)) rfl rfl (fun _ => rfl) rfl ?_
          refine WO.nil ?_
          refine WC.ret ?_
          obtain rfl := Option.some.inj h
          exact WC.done rfl rfl rfl
        · refine WO.s0 (v' := .d (.bool false)) rfl rfl (fun _ => rfl) (congrArg (fun b => RV.d (.bool b)) hb8) ?_
          refine WO.nil ?_
          refine WC.condF rfl ?_
          refine WC.skip ?_
          refine WC.regionSeq rfl rfl ?_
          refine WO.s0 (v' := .d (.lst (a0.map (PD.int .i64)))) rfl rfl (fun _ => rfl) rfl ?_
          refine bind_elim h (fun x10 hx10 h => ?_)
          refine WO.callR (v := .ptr 1024 0) (u := [(1024, .var [.d (.lst (x10.fL.map (PD.int .i64))), .d (.int .i64 x10.fAt)])]) rfl rfl (fun _ => rfl) rfl rfl rfl rfl rfl (made_Roll_ev hx10) rfl rfl rfl rfl ?_
          refine WO.s0 (v' := .ptr 1024 0) rfl rfl (fun _ => rfl) rfl ?_
          refine WO.nil ?_
          refine WC.regionSeq rfl rfl ?_
          refine WO.s0 (v' := .nils) rfl rfl (fun _ => rfl) rfl ?_
          refine WO.nil ?_
          refine WC.seq ?_
          refine WC.regionSeq rfl rfl ?_
          refine WO.s0 (v' := .ptr 1024 0) rfl rfl (fun _ => rfl) rfl ?_
          refine bind_elim h (fun x11 hx11 h => ?_)
          refine WO.callR (v := .d (.int .i64 x11.1)) (u := [(1024, .var [.d (.lst (x11.2.fL.map (PD.int .i64))), .d (.int .i64 x11.2.fAt)])]) rfl rfl (fun _ => rfl) rfl rfl rfl rfl rfl (Dice_Next_ev hx11) rfl rfl rfl rfl ?_
          refine WO.s0 (v' := .d (.int .i64 x11.1)) rfl rfl (fun _ => rfl) rfl ?_
          refine WO.nil ?_
          refine bind_elim h (fun o24 ho24 h => ?_)
          refine WC.block (WC.loop (WL.ofLoop ho24 (fun s R' B' => ghosts prog 0 (A R' B') (hints.at_ 6 6) = some (A [(2, .d (.str a2)), (3, .d (.str a3)), (4, .d (.lst (a4.map T_api_SourceID.pd))), (6, .ptr 96 0), (11, .ptr 1024 0), (12, .ref 1200 0), (13, .d (.int .i64 s.1))] [(96, .var [.d (.str a1.fNetwork), .d (.str a1.fStation), .d (.str a1.fLocation), .d (.str a1.fChannel)]), (1024, .var [.d (.lst (s.2.1.map (PD.int .i64))), .d (.int .i64 s.2.2.1)]), (1200, .arr 0 28 (s.2.2.2.map T_api_SourceID.pd))])) (fun o e R' B' => e = .exit 0 ∧ ghosts prog 0 (A R' B') (hints.at_ 6 9) = some (A [(2, .d (.str a2)), (3, .d (.str a3)), (4, .d (.lst (a4.map T_api_SourceID.pd))), (6, .ptr 96 0), (11, .ptr 1024 0), (12, .ref 1200 0)] [(96, .var [.d (.str a1.fNetwork), .d (.str a1.fStation), .d (.str a1.fLocation), .d (.str a1.fChannel)]), (1024, .var [.d (.lst (o.1.map (PD.int .i64))), .d (.int .i64 o.2.1)]), (1200, .arr 0 28 (o.2.2.map T_api_SourceID.pd))])) rfl ?_ ?_))
          · rintro ⟨s12, s13, s14, s15⟩ R' B' q19 hI h
            refine WC.seq ?_
            refine WC.regionSeq hI rfl ?_
            refine WO.s0 (v' := .d (.int .i64 s12)) rfl rfl (fun _ => rfl) rfl ?_
            refine ite_elim h (fun hb20 h => ?_) (fun hb20 h => ?_)
            · refine WO.s0 (v' := .d (.bool true)) rfl rfl (fun _ => rfl) (congrArg (fun b => RV.d (.bool b)) hb20) ?_
              refine WO.nil ?_
              refine WC.condT rfl ?_
              refine WC.skip ?_
              refine WC.seq ?_
              refine WC.block ?_
              refine WC.region rfl rfl ?_
              refine WO.s0 (v' := .ref 1200 0) rfl rfl (fun _ => rfl) rfl ?_
              refine WO.s0 (v' := .ptr 1024 0) rfl rfl (fun _ => rfl) rfl ?_
              refine bind_elim h (fun x21 hx21 h => ?_)
              refine WO.callR (v := .d (T_api_SourceID.pd x21.1)) (u := [(1024, .var [.d (.lst (x21.2.fL.map (PD.int .i64))), .d (.int .i64 x21.2.fAt)])]) rfl rfl (fun _ => rfl) rfl rfl rfl rfl rfl (Dice_Source_ev hx21) rfl rfl rfl rfl ?_
              refine WO.s0 (v' := .d (.lst ([x21.1].map T_api_SourceID.pd))) rfl rfl (fun _ => rfl) rfl ?_
              refine bind_elim h (fun x22 hx22 h => ?_)
              refine WO.appR hx22 (fun _ => rfl) rfl rfl rfl rfl rfl rfl rfl rfl rfl rfl rfl rfl rfl rfl ?_
              refine WO.s0 (v' := .ref 1200 1) rfl rfl (fun _ => rfl) rfl ?_
              refine WO.nil ?_
              refine WC.region rfl rfl ?_
              refine WO.s0 (v' := .d (.int .i64 s12)) rfl rfl (fun _ => rfl) rfl ?_
              refine WO.s0 (v' := .d (.int .i64 (IntKind.wrap .i64 (s12 - (1 : Int))))) rfl rfl (fun _ => rfl) rfl ?_
              refine WO.s0 (v' := .d (.int .i64 (IntKind.wrap .i64 (s12 - (1 : Int))))) rfl rfl (fun _ => rfl) rfl ?_
              refine WO.nil ?_
              obtain rfl := Option.some.inj h
              exact ⟨rfl, rfl⟩
            · refine WO.s0 (v' := .d (.bool false)) rfl rfl (fun _ => rfl) (congrArg (fun b => RV.d (.bool b)) hb20) ?_
              refine WO.nil ?_
              refine WC.condF rfl ?_
              refine WC.exit ?_
              obtain rfl := Option.some.inj h
              exact ⟨(fun he => by cases he), rfl, rfl⟩
          · intro e R' B' he hq
            obtain ⟨rfl, hI⟩ := hq
            refine ⟨fun _ => ?_, fun hne => (hne rfl).elim⟩
            refine WC.join (α := (List Int) × Int × (List T_api_SourceID)) (fun x R' B' => ghosts prog 0 (A R' B') (hints.at_ 6 11) = some (A [(2, .d (.str a2)), (3, .d (.str a3)), (4, .d (.lst (a4.map T_api_SourceID.pd))), (6, .ptr 96 0), (11, .ptr 1024 0), (12, .ref 1200 0)] [(96, .var [.d (.str a1.fNetwork), .d (.str a1.fStation), .d (.str a1.fLocation), .d (.str a1.fChannel)]), (1024, .var [.d (.lst (x.1.map (PD.int .i64))), .d (.int .i64 x.2.1)]), (1200, .arr 0 28 (x.2.2.map T_api_SourceID.pd))])) (fun x => law03_SourceExact_k116 a1 a3 a2 a4 x.1 x.2.1 x.2.2 = some r) ?_ ?_
            · refine WC.regionSeq hI rfl ?_
              refine WO.s0 (v' := .ptr 1024 0) rfl rfl (fun _ => rfl) rfl ?_
              refine bind_elim h (fun x117 hx117 h => ?_)
              refine WO.callR (v := .d (.int .i64 x117.1)) (u := [(1024, .var [.d (.lst (x117.2.fL.map (PD.int .i64))), .d (.int .i64 x117.2.fAt)])]) rfl rfl (fun _ => rfl) rfl rfl rfl rfl rfl (Dice_Next_ev hx117) rfl rfl rfl rfl ?_
              refine ite_elim h (fun hb118 h => ?_) (fun hb118 h => ?_)
              · refine WO.s0 (v' := .d (.bool true)) rfl rfl (fun _ => rfl) (congrArg (fun b => RV.d (.bool b)) hb118) ?_
                refine WO.nil ?_
                refine WC.condT rfl ?_
                refine WC.region rfl rfl ?_
                refine WO.s0 (v' := .ref 1200 0) rfl rfl (fun _ => rfl) rfl ?_
                refine WO.s0 (v' := .d (T_api_SourceID.pd a1)) rfl rfl (fun _ => rfl) rfl ?_
                refine WO.s0 (v' := .d (.lst ([a1].map T_api_SourceID.pd))) rfl rfl (fun _ => rfl) rfl ?_
                refine bind_elim h (fun x119 hx119 h => ?_)
                refine WO.appR hx119 (fun _ => rfl) rfl rfl rfl rfl rfl rfl rfl rfl rfl rfl rfl rfl rfl rfl ?_
                refine WO.s0 (v' := .ref 1200 1) rfl rfl (fun _ => rfl) rfl ?_
                refine WO.nil ?_
                exact ⟨(x117.2.fL, x117.2.fAt, x119), rfl, h⟩
              · refine WO.s0 (v' := .d (.bool false)) rfl rfl (fun _ => rfl) (congrArg (fun b => RV.d (.bool b)) hb118) ?_
                refine WO.nil ?_
                refine WC.condF rfl ?_
                refine WC.skip ?_
                exact ⟨(x117.2.fL, x117.2.fAt, o24.2.2), rfl, h⟩
            · rintro ⟨j25, j26, j27⟩ R' B' hI h
              refine WC.regionSeq hI rfl ?_
              refine WO.s0 (v' := .ptr 1024 0) rfl rfl (fun _ => rfl) rfl ?_
              refine bind_elim h (fun x28 hx28 h => ?_)
              refine WO.callR (v := .d (T_api_SourceID.pd x28.1)) (u := [(1024, .var [.d (.lst (x28.2.fL.map (PD.int .i64))), .d (.int .i64 x28.2.fAt)])]) rfl rfl (fun _ => rfl) rfl rfl rfl rfl rfl (Dice_Source_ev hx28) rfl rfl rfl rfl ?_
              refine WO.s0 (v' := .ptr 1024 0) rfl rfl (fun _ => rfl) rfl ?_
              refine bind_elim h (fun x29 hx29 h => ?_)
              refine WO.callR (v := .d (T_api_SourceID.pd x29.1)) (u := [(1024, .var [.d (.lst (x29.2.fL.map (PD.int .i64))), .d (.int .i64 x29.2.fAt)])]) rfl rfl (fun _ => rfl) rfl rfl rfl rfl rfl (Dice_Source_ev hx29) rfl rfl rfl rfl ?_
              refine WO.s1 (v := .ptr 224 0) (id := 224) (bx := .var [.d (.str []), .d (.str []), .d (.str []), .d (.str [])]) rfl rfl (fun _ => rfl) ?_
              refine WO.s1 (v := .ptr 240 0) (id := 240) (bx := .var [.d (.str []), .d (.str []), .d (.str []), .d (.str [])]) rfl rfl (fun _ => rfl) ?_
              refine WO.n1 (v := .undef) (id := 224) (bx := .var [.d (.str x28.1.fNetwork), .d (.str x28.1.fStation), .d (.str x28.1.fLocation), .d (.str x28.1.fChannel)]) rfl rfl (fun _ => rfl) ?_
              refine WO.n1 (v := .undef) (id := 240) (bx := .var [.d (.str x29.1.fNetwork), .d (.str x29.1.fStation), .d (.str x29.1.fLocation), .d (.str x29.1.fChannel)]) rfl rfl (fun _ => rfl) ?_
              refine WO.nil ?_
              refine WC.regionSeq rfl rfl ?_
              refine WO.s0 (v' := .d (T_api_SourceID.pd x28.1)) rfl rfl (fun _ => rfl) rfl ?_
              refine WO.s1 (v := .ptr 256 0) (id := 256) (bx := .var [.d (.str []), .d (.str []), .d (.str []), .d (.str [])]) rfl rfl (fun _ => rfl) ?_
              refine WO.n1 (v := .undef) (id := 256) (bx := .var [.d (.str x28.1.fNetwork), .d (.str x28.1.fStation), .d (.str x28.1.fLocation), .d (.str x28.1.fChannel)]) rfl rfl (fun _ => rfl) ?_
              refine WO.nil ?_
              refine WC.regionSeq rfl rfl ?_
              refine WO.s0 (v' := .d (.lst ([[], [102, 117, 114], [65, 66, 67, 68, 69, 70], [65, 45, 66]].map PD.str))) rfl rfl (fun _ => rfl) rfl ?_
              refine WO.s0 (v' := .ptr 1024 0) rfl rfl (fun _ => rfl) rfl ?_
              refine bind_elim h (fun x30 hx30 h => ?_)
              refine WO.callR (v := .d (.int .i64 x30.1)) (u := [(1024, .var [.d (.lst (x30.2.fL.map (PD.int .i64))), .d (.int .i64 x30.2.fAt)])]) rfl rfl (fun _ => rfl) rfl rfl rfl rfl rfl (Dice_Next_ev hx30) rfl rfl rfl rfl ?_
              refine bind_elim h (fun x31 hx31 h => ?_)
              refine WO.elemG hx31 rfl rfl rfl rfl rfl rfl rfl rfl rfl ?_
              refine WO.s0 (v' := .d (.str x31)) rfl rfl (fun _ => rfl) rfl ?_
              refine WO.s0 (v' := .ptr 256 1) rfl rfl (fun _ => rfl) rfl ?_
              refine WO.n1 (v := .undef) (id := 256) (bx := .var [.d (.str x28.1.fNetwork), .d (.str x31), .d (.str x28.1.fLocation), .d (.str x28.1.fChannel)]) rfl rfl (fun _ => rfl) ?_
              refine WO.nil ?_
              refine WC.seq ?_
              refine WC.regionSeq rfl rfl ?_
              refine WO.s0 (v' := .d (T_api_SourceID.pd x28.1)) rfl rfl (fun _ => rfl) rfl ?_
              refine WO.s0 (v' := .d (T_api_SourceID.pd (T_api_SourceID.mk x28.1.fNetwork x31 x28.1.fLocation x28.1.fChannel))) rfl rfl (fun _ => rfl) rfl ?_
              refine WO.s0 (v' := .d (T_api_SourceID.pd a1)) rfl rfl (fun _ => rfl) rfl ?_
              refine WO.s0 (v' := .d (.lst ([x28.1, (T_api_SourceID.mk x28.1.fNetwork x31 x28.1.fLocation x28.1.fChannel), a1].map T_api_SourceID.pd))) rfl rfl (fun _ => rfl) rfl ?_
              refine WO.s0 (v' := .d (.int .i64 3)) rfl rfl (fun _ => rfl) rfl ?_
              refine WO.s0 (v' := .d (.int .i64 0)) rfl rfl (fun _ => rfl) rfl ?_
              refine WO.nil ?_
              refine bind_elim h (fun o83 ho83 h => ?_)
              refine WC.block (WC.loop (WL.ofLoop ho83 (fun s R' B' => ghosts prog 0 (A R' B') (hints.at_ 6 15) = some (A [(2, .d (.str a2)), (3, .d (.str a3)), (4, .d (.lst (a4.map T_api_SourceID.pd))), (11, .ptr 1024 0), (12, .ref 1200 0), (14, .ptr 224 0), (15, .ptr 240 0), (97, .d (.lst ([x28.1, (T_api_SourceID.mk x28.1.fNetwork x31 x28.1.fLocation x28.1.fChannel), a1].map T_api_SourceID.pd))), (98, .d (.int .i64 3)), (99, .d (.int .i64 s.1))] [(224, .var [.d (.str x28.1.fNetwork), .d (.str x28.1.fStation), .d (.str x28.1.fLocation), .d (.str x28.1.fChannel)]), (240, .var [.d (.str x29.1.fNetwork), .d (.str x29.1.fStation), .d (.str x29.1.fLocation), .d (.str x29.1.fChannel)]), (1024, .var [.d (.lst (s.2.1.map (PD.int .i64))), .d (.int .i64 s.2.2)]), (1200, .arr 0 28 (j27.map T_api_SourceID.pd))])) (fun o e R' B' => match o with | .inl y => e = .exit 2 ∧ ghosts prog 0 (A R' B') (hints.at_ 6 39) = some (A [(3, .d (.str a3)), (4, .d (.lst (a4.map T_api_SourceID.pd))), (11, .ptr 1024 0), (12, .ref 1200 0), (14, .ptr 224 0)] [(224, .var [.d (.str x28.1.fNetwork), .d (.str x28.1.fStation), .d (.str x28.1.fLocation), .d (.str x28.1.fChannel)]), (1024, .var [.d (.lst (y.1.map (PD.int .i64))), .d (.int .i64 y.2)]), (1200, .arr 0 28 (j27.map T_api_SourceID.pd))]) | .inr r => e = .ret ∧ finish prog (hints.own 6) Tryd.f6 0 (A R' B') = some (.d (.bool r), [])) rfl ?_ ?_))
              · rintro ⟨s32, s33, s34⟩ R' B' q37 hI h
                refine WC.regionSeq hI rfl ?_
                refine ite_elim h (fun hb38 h => ?_) (fun hb38 h => ?_)
                · refine WO.s0 (v' := .d (.bool true)) rfl rfl (fun _ => rfl) (congrArg (fun b => RV.d (.bool b)) hb38) ?_
                  refine WO.nil ?_
                  refine WC.seq ?_
                  refine WC.condT rfl ?_
                  refine WC.skip ?_
                  refine WC.seq ?_
                  refine WC.block ?_
                  refine WC.regionSeq rfl rfl ?_
                  refine bind_elim h (fun x39 hx39 h => ?_)
                  refine WO.elemG hx39 rfl rfl rfl rfl rfl rfl rfl rfl rfl ?_
                  refine WO.s0 (v' := .d (T_api_SourceID.pd x39)) rfl rfl (fun _ => rfl) rfl ?_
                  refine WO.s1 (v := .ptr 288 0) (id := 288) (bx := .var [.d (.str []), .d (.str []), .d (.str []), .d (.str [])]) rfl rfl (fun _ => rfl) ?_
                  refine WO.n1 (v := .undef) (id := 288) (bx := .var [.d (.str x39.fNetwork), .d (.str x39.fStation), .d (.str x39.fLocation), .d (.str x39.fChannel)]) rfl rfl (fun _ => rfl) ?_
                  refine WO.nil ?_
                  refine WC.regionSeq rfl rfl ?_
                  refine WO.s0 (v' := .d (T_api_SourceID.pd x39)) rfl rfl (fun _ => rfl) rfl ?_
                  refine bind_elim h (fun x40 hx40 h => ?_)
                  refine WO.callR (v := .tup [.d (.str x40.1), .d (.int .i64 x40.2)]) (u := []) rfl rfl (fun _ => rfl) rfl rfl rfl rfl rfl (source_Format_ev hx40) rfl rfl rfl rfl ?_
                  refine WO.s0 (v' := .tup [.d (.str x40.1), .d (.int .i64 x40.2)]) rfl rfl (fun _ => rfl) rfl ?_
                  refine WO.s0 (v' := .d (.str x40.1)) rfl rfl (fun _ => rfl) rfl ?_
                  refine WO.s0 (v' := .d (.int .i64 x40.2)) rfl rfl (fun _ => rfl) rfl ?_
                  refine WO.s0 (v' := .d (.str x40.1)) rfl rfl (fun _ => rfl) rfl ?_
                  refine WO.s0 (v' := .d (.int .i64 x40.2)) rfl rfl (fun _ => rfl) rfl ?_
                  refine WO.nil ?_
                  refine WC.regionSeq rfl rfl ?_
                  refine WO.s0 (v' := .d (T_api_SourceID.pd x39)) rfl rfl (fun _ => rfl) rfl ?_
                  refine bind_elim h (fun x41 hx41 h => ?_)
                  refine WO.callR (v := .tup [.d (.str x41.1), .d (.int .i64 x41.2)]) (u := []) rfl rfl (fun _ => rfl) rfl rfl rfl rfl rfl (ref03_Format_ev hx41) rfl rfl rfl rfl ?_
                  refine WO.s0 (v' := .tup [.d (.str x41.1), .d (.int .i64 x41.2)]) rfl rfl (fun _ => rfl) rfl ?_
                  refine WO.s0 (v' := .d (.str x41.1)) rfl rfl (fun _ => rfl) rfl ?_
                  refine WO.s0 (v' := .d (.int .i64 x41.2)) rfl rfl (fun _ => rfl) rfl ?_
                  refine WO.s0 (v' := .d (.str x41.1)) rfl rfl (fun _ => rfl) rfl ?_
                  refine WO.s0 (v' := .d (.int .i64 x41.2)) rfl rfl (fun _ => rfl) rfl ?_
                  refine WO.nil ?_
                  refine WC.regionSeq rfl rfl ?_
                  refine WO.s0 (v' := .ptr 1024 0) rfl rfl (fun _ => rfl) rfl ?_
                  refine WO.s0 (v' := .d (T_api_SourceID.pd x28.1)) rfl rfl (fun _ => rfl) rfl ?_
                  refine bind_elim h (fun x42 hx42 h => ?_)
                  refine WO.callR (v := .d (.str x42.1)) (u := [(1024, .var [.d (.lst (x42.2.fL.map (PD.int .i64))), .d (.int .i64 x42.2.fAt)])]) rfl rfl (fun _ => rfl) rfl rfl rfl rfl rfl (law03_pattern_ev hx42) rfl rfl rfl rfl ?_
                  refine WO.s0 (v' := .d (.str x42.1)) rfl rfl (fun _ => rfl) rfl ?_
                  refine WO.nil ?_
                  refine WC.seq ?_
                  refine WC.regionSeq rfl rfl ?_
                  refine WO.s0 (v' := .d (.str x42.1)) rfl rfl (fun _ => rfl) rfl ?_
                  refine WO.s0 (v' := .d (.str a3)) rfl rfl (fun _ => rfl) rfl ?_
                  refine WO.s0 (v' := .d (.lst ([x42.1, a3].map PD.str))) rfl rfl (fun _ => rfl) rfl ?_
                  refine WO.s0 (v' := .d (.int .i64 2)) rfl rfl (fun _ => rfl) rfl ?_
                  refine WO.s0 (v' := .d (.int .i64 0)) rfl rfl (fun _ => rfl) rfl ?_
                  refine WO.nil ?_
                  refine bind_elim h (fun o53 ho53 h => ?_)
                  refine WC.block (WC.loop (WL.ofLoop ho53 (fun s R' B' => ghosts prog 0 (A R' B') (hints.at_ 6 21) = some (A [(2, .d (.str a2)), (3, .d (.str a3)), (4, .d (.lst (a4.map T_api_SourceID.pd))), (11, .ptr 1024 0), (12, .ref 1200 0), (14, .ptr 224 0), (15, .ptr 240 0), (18, .ptr 288 0), (19, .d (.str x40.1)), (20, .d (.int .i64 x40.2)), (21, .d (.str x41.1)), (22, .d (.int .i64 x41.2)), (97, .d (.lst ([x28.1, (T_api_SourceID.mk x28.1.fNetwork x31 x28.1.fLocation x28.1.fChannel), a1].map T_api_SourceID.pd))), (98, .d (.int .i64 3)), (99, .d (.int .i64 s32)), (118, .d (.lst ([x42.1, a3].map PD.str))), (119, .d (.int .i64 2)), (120, .d (.int .i64 s))] [(224, .var [.d (.str x28.1.fNetwork), .d (.str x28.1.fStation), .d (.str x28.1.fLocation), .d (.str x28.1.fChannel)]), (240, .var [.d (.str x29.1.fNetwork), .d (.str x29.1.fStation), .d (.str x29.1.fLocation), .d (.str x29.1.fChannel)]), (288, .var [.d (.str x39.fNetwork), .d (.str x39.fStation), .d (.str x39.fLocation), .d (.str x39.fChannel)]), (1024, .var [.d (.lst (x42.2.fL.map (PD.int .i64))), .d (.int .i64 x42.2.fAt)]), (1200, .arr 0 28 (j27.map T_api_SourceID.pd))])) (fun o e R' B' => match o with | .inl y => e = .exit 4 ∧ ghosts prog 0 (A R' B') (hints.at_ 6 28) = some (A [(2, .d (.str a2)), (3, .d (.str a3)), (4, .d (.lst (a4.map T_api_SourceID.pd))), (11, .ptr 1024 0), (12, .ref 1200 0), (14, .ptr 224 0), (15, .ptr 240 0), (18, .ptr 288 0), (19, .d (.str x40.1)), (20, .d (.int .i64 x40.2)), (21, .d (.str x41.1)), (22, .d (.int .i64 x41.2)), (97, .d (.lst ([x28.1, (T_api_SourceID.mk x28.1.fNetwork x31 x28.1.fLocation x28.1.fChannel), a1].map T_api_SourceID.pd))), (98, .d (.int .i64 3)), (99, .d (.int .i64 y))] [(224, .var [.d (.str x28.1.fNetwork), .d (.str x28.1.fStation), .d (.str x28.1.fLocation), .d (.str x28.1.fChannel)]), (240, .var [.d (.str x29.1.fNetwork), .d (.str x29.1.fStation), .d (.str x29.1.fLocation), .d (.str x29.1.fChannel)]), (288, .var [.d (.str x39.fNetwork), .d (.str x39.fStation), .d (.str x39.fLocation), .d (.str x39.fChannel)]), (1024, .var [.d (.lst (x42.2.fL.map (PD.int .i64))), .d (.int .i64 x42.2.fAt)]), (1200, .arr 0 28 (j27.map T_api_SourceID.pd))]) | .inr r => e = .ret ∧ finish prog (hints.own 6) Tryd.f6 0 (A R' B') = some (.d (.bool r), [])) rfl ?_ ?_))
                  · rintro s43 R' B' q45 hI h
                    refine WC.regionSeq hI rfl ?_
                    refine ite_elim h (fun hb46 h => ?_) (fun hb46 h => ?_)
                    · refine WO.s0 (v' := .d (.bool true)) rfl rfl (fun _ => rfl) (congrArg (fun b => RV.d (.bool b)) hb46) ?_
                      refine WO.nil ?_
                      refine WC.seq ?_
                      refine WC.condT rfl ?_
                      refine WC.skip ?_
                      refine WC.seq ?_
                      refine WC.block ?_
                      refine WC.regionSeq rfl rfl ?_
                      refine bind_elim h (fun x47 hx47 h => ?_)
                      refine WO.elemG hx47 rfl rfl rfl rfl rfl rfl rfl rfl rfl ?_
                      refine WO.s0 (v' := .d (.str x47)) rfl rfl (fun _ => rfl) rfl ?_
                      refine WO.s0 (v' := .d (.str x47)) rfl rfl (fun _ => rfl) rfl ?_
                      refine WO.nil ?_
                      refine WC.regionSeq rfl rfl ?_
                      refine WO.s0 (v' := .d (.str x47)) rfl rfl (fun _ => rfl) rfl ?_
                      refine WO.s0 (v' := .d (T_api_SourceID.pd x39)) rfl rfl (fun _ => rfl) rfl ?_
                      refine bind_elim h (fun x48 hx48 h => ?_)
                      refine WO.callR (v := .tup [.d (.bool x48.1), .d (.int .i64 x48.2)]) (u := []) rfl rfl (fun _ => rfl) rfl rfl rfl rfl rfl (source_Match_ev hx48) rfl rfl rfl rfl ?_
                      refine WO.s0 (v' := .tup [.d (.bool x48.1), .d (.int .i64 x48.2)]) rfl rfl (fun _ => rfl) rfl ?_
                      refine WO.s0 (v' := .d (.bool x48.1)) rfl rfl (fun _ => rfl) rfl ?_
                      refine WO.s0 (v' := .d (.int .i64 x48.2)) rfl rfl (fun _ => rfl) rfl ?_
                      refine WO.s0 (v' := .d (.bool x48.1)) rfl rfl (fun _ => rfl) rfl ?_
                      refine WO.s0 (v' := .d (.int .i64 x48.2)) rfl rfl (fun _ => rfl) rfl ?_
                      refine WO.nil ?_
                      refine WC.regionSeq rfl rfl ?_
                      refine WO.s0 (v' := .d (.str x47)) rfl rfl (fun _ => rfl) rfl ?_
                      refine WO.s0 (v' := .d (T_api_SourceID.pd x39)) rfl rfl (fun _ => rfl) rfl ?_
                      refine bind_elim h (fun x49 hx49 h => ?_)
                      refine WO.callR (v := .tup [.d (.bool x49.1), .d (.int .i64 x49.2)]) (u := []) rfl rfl (fun _ => rfl) rfl rfl rfl rfl rfl (ref03_Match_ev hx49) rfl rfl rfl rfl ?_
                      refine WO.s0 (v' := .tup [.d (.bool x49.1), .d (.int .i64 x49.2)]) rfl rfl (fun _ => rfl) rfl ?_
                      refine WO.s0 (v' := .d (.bool x49.1)) rfl rfl (fun _ => rfl) rfl ?_
                      refine WO.s0 (v' := .d (.int .i64 x49.2)) rfl rfl (fun _ => rfl) rfl ?_
                      refine WO.s0 (v' := .d (.bool x49.1)) rfl rfl (fun _ => rfl) rfl ?_
                      refine WO.s0 (v' := .d (.int .i64 x49.2)) rfl rfl (fun _ => rfl) rfl ?_
                      refine WO.nil ?_
                      refine WC.regionSeq rfl rfl ?_
                      refine WO.s0 (v' := .d (.bool x48.1)) rfl rfl (fun _ => rfl) rfl ?_
                      refine WO.s0 (v' := .d (.bool x49.1)) rfl rfl (fun _ => rfl) rfl ?_
                      refine ite_elim h (fun hb50 h => ?_) (fun hb50 h => ?_)
                      · refine WO.s0 (v' := .d (.bool true)) rfl rfl (fun _ => rfl) (congrArg (fun b => RV.d (.bool b)) hb50) ?_
                        refine WO.s0 (v' := .d (.bool true)) rfl rfl (fun _ => rfl) rfl ?_
                        refine WO.skip rfl rfl ?_
                        refine WO.skip rfl rfl ?_
                        refine WO.skip rfl rfl ?_
                        refine WO.s0 (v' := .d (.bool true)) rfl rfl (fun _ => rfl) rfl ?_
                        refine WO.nil ?_
                        refine WC.condT rfl ?_
                        refine WC.regionSeq rfl rfl ?_
                        refine WO.s0 (v' := .d (.bool false)) rfl rfl (fun _ => rfl) rfl ?_
                        refine WO.nil ?_
                        refine WC.ret ?_
                        obtain rfl := Option.some.inj h
                        exact ⟨(fun he => by cases he), rfl, rfl⟩
                      · refine WO.s0 (v' := .d (.bool false)) rfl rfl (fun _ => rfl) (congrArg (fun b => RV.d (.bool b)) hb50) ?_
                        refine WO.s0 (v' := .d (.bool false)) rfl rfl (fun _ => rfl) rfl ?_
                        refine WO.s0 (v' := .d (.int .i64 x48.2)) rfl rfl (fun _ => rfl) rfl ?_
                        refine WO.s0 (v' := .d (.int .i64 x49.2)) rfl rfl (fun _ => rfl) rfl ?_
                        refine WO.s0 (v' := .d (.bool (x48.2 != x49.2))) rfl rfl (fun _ => rfl) rfl ?_
                        refine ite_elim h (fun hb51 h => ?_) (fun hb51 h => ?_)
                        · refine WO.s0 (v' := .d (.bool true)) rfl rfl (fun _ => rfl) (congrArg (fun b => RV.d (.bool b)) hb51) ?_
                          refine WO.nil ?_
                          refine WC.condT rfl ?_
                          refine WC.regionSeq rfl rfl ?_
                          refine WO.s0 (v' := .d (.bool false)) rfl rfl (fun _ => rfl) rfl ?_
                          refine WO.nil ?_
                          refine WC.ret ?_
                          obtain rfl := Option.some.inj h
                          exact ⟨(fun he => by cases he), rfl, rfl⟩
                        · refine WO.s0 (v' := .d (.bool false)) rfl rfl (fun _ => rfl) (congrArg (fun b => RV.d (.bool b)) hb51) ?_
                          refine WO.nil ?_
                          refine WC.condF rfl ?_
                          refine WC.skip ?_
                          refine WC.region rfl rfl ?_
                          refine WO.s0 (v' := .d (.int .i64 (IntKind.wrap .i64 (s43 + (1 : Int))))) rfl rfl (fun _ => rfl) rfl ?_
                          refine WO.s0 (v' := .d (.int .i64 (IntKind.wrap .i64 (s43 + (1 : Int))))) rfl rfl (fun _ => rfl) rfl ?_
                          refine WO.nil ?_
                          obtain rfl := Option.some.inj h
                          exact ⟨rfl, rfl⟩
                    · refine WO.s0 (v' := .d (.bool false)) rfl rfl (fun _ => rfl) (congrArg (fun b => RV.d (.bool b)) hb46) ?_
                      refine WO.nil ?_
                      refine WC.seq ?_
                      refine WC.condF rfl ?_
                      refine WC.exit ?_
                      obtain rfl := Option.some.inj h
                      exact ⟨(fun he => by cases he), rfl, rfl⟩
                  · intro e R' B' he hq
                    rcases o53 with y54 | r55
                    · obtain ⟨rfl, hI⟩ := hq
                      refine ⟨fun _ => ?_, fun hne => (hne rfl).elim⟩
                      refine WC.seq ?_
                      refine WC.regionDSeq hI rfl ?_
                      refine WO.s0 (v' := .d (.str x40.1)) rfl rfl (fun _ => rfl) rfl ?_
                      refine WO.s0 (v' := .d (.str x41.1)) rfl rfl (fun _ => rfl) rfl ?_
                      refine ite_elim h (fun hb56 h => ?_) (fun hb56 h => ?_)
                      · refine WO.s0 (v' := .d (.bool true)) rfl rfl (fun _ => rfl) (congrArg (fun b => RV.d (.bool b)) hb56) ?_
                        refine WO.s0 (v' := .d (.bool true)) rfl rfl (fun _ => rfl) rfl ?_
                        refine WO.skip rfl rfl ?_
                        refine WO.skip rfl rfl ?_
                        refine WO.skip rfl rfl ?_
                        refine WO.s0 (v' := .d (.bool true)) rfl rfl (fun _ => rfl) rfl ?_
                        refine WO.s0 (v' := .d (.bool true)) rfl rfl (fun _ => rfl) rfl ?_
                        refine WO.skip rfl rfl ?_
                        refine WO.skip rfl rfl ?_
                        refine WO.skip rfl rfl ?_
                        refine WO.skip rfl rfl ?_
                        refine WO.skip rfl rfl ?_
                        refine WO.s0 (v' := .d (.bool true)) rfl rfl (fun _ => rfl) rfl ?_
                        refine WO.s0 (v' := .d (.bool true)) rfl rfl (fun _ => rfl) rfl ?_
                        refine WO.skip rfl rfl ?_
                        refine WO.skip rfl rfl ?_
                        refine WO.skip rfl rfl ?_
                        refine WO.skip rfl rfl ?_
                        refine WO.skip rfl rfl ?_
                        refine WO.skip rfl rfl ?_
                        refine WO.skip rfl rfl ?_
                        refine WO.s0 (v' := .d (.bool true)) rfl rfl (fun _ => rfl) rfl ?_
                        refine WO.s0 (v' := .d (.bool true)) rfl rfl (fun _ => rfl) rfl ?_
                        refine WO.skip rfl rfl ?_
                        refine WO.skip rfl rfl ?_
                        refine WO.skip rfl rfl ?_
                        refine WO.skip rfl rfl ?_
                        refine WO.skip rfl rfl ?_
                        refine WO.skip rfl rfl ?_
                        refine WO.skip rfl rfl ?_
                        refine WO.s0 (v' := .d (.bool true)) rfl rfl (fun _ => rfl) rfl ?_
                        refine WO.nil ⟨by kernel_rfl, ?_⟩
                        refine WC.condT rfl ?_
                        refine WC.regionSeq rfl rfl ?_
                        refine WO.s0 (v' := .d (.bool false)) rfl rfl (fun _ => rfl) rfl ?_
                        refine WO.nil ?_
                        refine WC.ret ?_
                        obtain rfl := Option.some.inj h
                        exact ⟨(fun he => by cases he), rfl, rfl⟩
                      · refine WO.s0 (v' := .d (.bool false)) rfl rfl (fun _ => rfl) (congrArg (fun b => RV.d (.bool b)) hb56) ?_
                        refine WO.s0 (v' := .d (.bool false)) rfl rfl (fun _ => rfl) rfl ?_
                        refine WO.s0 (v' := .d (.int .i64 x40.2)) rfl rfl (fun _ => rfl) rfl ?_
                        refine WO.s0 (v' := .d (.int .i64 x41.2)) rfl rfl (fun _ => rfl) rfl ?_
                        refine WO.s0 (v' := .d (.bool (x40.2 != x41.2))) rfl rfl (fun _ => rfl) rfl ?_
                        refine ite_elim h (fun hb57 h => ?_) (fun hb57 h => ?_)
                        · refine WO.s0 (v' := .d (.bool true)) rfl rfl (fun _ => rfl) (congrArg (fun b => RV.d (.bool b)) hb57) ?_
                          refine WO.s0 (v' := .d (.bool true)) rfl rfl (fun _ => rfl) rfl ?_
                          refine WO.skip rfl rfl ?_
                          refine WO.skip rfl rfl ?_
                          refine WO.skip rfl rfl ?_
                          refine WO.skip rfl rfl ?_
                          refine WO.skip rfl rfl ?_
                          refine WO.s0 (v' := .d (.bool true)) rfl rfl (fun _ => rfl) rfl ?_
                          refine WO.s0 (v' := .d (.bool true)) rfl rfl (fun _ => rfl) rfl ?_
                          refine WO.skip rfl rfl ?_
                          refine WO.skip rfl rfl ?_
                          refine WO.skip rfl rfl ?_
                          refine WO.skip rfl rfl ?_
                          refine WO.skip rfl rfl ?_
                          refine WO.skip rfl rfl ?_
                          refine WO.skip rfl rfl ?_
                          refine WO.s0 (v' := .d (.bool true)) rfl rfl (fun _ => rfl) rfl ?_
                          refine WO.s0 (v' := .d (.bool true)) rfl rfl (fun _ => rfl) rfl ?_
                          refine WO.skip rfl rfl ?_
                          refine WO.skip rfl rfl ?_
                          refine WO.skip rfl rfl ?_
                          refine WO.skip rfl rfl ?_
                          refine WO.skip rfl rfl ?_
                          refine WO.skip rfl rfl ?_
                          refine WO.skip rfl rfl ?_
                          refine WO.s0 (v' := .d (.bool true)) rfl rfl (fun _ => rfl) rfl ?_
                          refine WO.nil ⟨by kernel_rfl, ?_⟩
                          refine WC.condT rfl ?_
                          refine WC.regionSeq rfl rfl ?_
                          refine WO.s0 (v' := .d (.bool false)) rfl rfl (fun _ => rfl) rfl ?_
                          refine WO.nil ?_
                          refine WC.ret ?_
                          obtain rfl := Option.some.inj h
                          exact ⟨(fun he => by cases he), rfl, rfl⟩
                        · refine WO.s0 (v' := .d (.bool false)) rfl rfl (fun _ => rfl) (congrArg (fun b => RV.d (.bool b)) hb57) ?_
                          refine WO.s0 (v' := .d (.bool false)) rfl rfl (fun _ => rfl) rfl ?_
                          refine WO.s0 (v' := .d (T_api_SourceID.pd x39)) rfl rfl (fun _ => rfl) rfl ?_
                          refine bind_elim h (fun x58 hx58 h => ?_)
                          refine WO.callR (v := .d (.bool x58)) (u := []) rfl rfl (fun _ => rfl) rfl rfl rfl rfl rfl (source_Valid_ev hx58) rfl rfl rfl rfl ?_
                          refine WO.s0 (v' := .d (T_api_SourceID.pd x39)) rfl rfl (fun _ => rfl) rfl ?_
                          refine bind_elim h (fun x59 hx59 h => ?_)
                          refine WO.callR (v := .d (.bool x59)) (u := []) rfl rfl (fun _ => rfl) rfl rfl rfl rfl rfl (ref03_Valid_ev hx59) rfl rfl rfl rfl ?_
                          refine WO.s0 (v' := .d (.bool (!(x58 == x59)))) rfl rfl (fun _ => rfl) rfl ?_
                          refine ite_elim h (fun hb60 h => ?_) (fun hb60 h => ?_)
                          · refine WO.s0 (v' := .d (.bool true)) rfl rfl (fun _ => rfl) (congrArg (fun b => RV.d (.bool b)) hb60) ?_
                            refine WO.s0 (v' := .d (.bool true)) rfl rfl (fun _ => rfl) rfl ?_
                            refine WO.skip rfl rfl ?_
                            refine WO.skip rfl rfl ?_
                            refine WO.skip rfl rfl ?_
                            refine WO.skip rfl rfl ?_
                            refine WO.skip rfl rfl ?_
                            refine WO.skip rfl rfl ?_
                            refine WO.skip rfl rfl ?_
                            refine WO.s0 (v' := .d (.bool true)) rfl rfl (fun _ => rfl) rfl ?_
                            refine WO.s0 (v' := .d (.bool true)) rfl rfl (fun _ => rfl) rfl ?_
                            refine WO.skip rfl rfl ?_
                            refine WO.skip rfl rfl ?_
                            refine WO.skip rfl rfl ?_
                            refine WO.skip rfl rfl ?_
                            refine WO.skip rfl rfl ?_
                            refine WO.skip rfl rfl ?_
                            refine WO.skip rfl rfl ?_
                            refine WO.s0 (v' := .d (.bool true)) rfl rfl (fun _ => rfl) rfl ?_
                            refine WO.nil ⟨by kernel_rfl, ?_⟩
                            refine WC.condT rfl ?_
                            refine WC.regionSeq rfl rfl ?_
                            refine WO.s0 (v' := .d (.bool false)) rfl rfl (fun _ => rfl) rfl ?_
                            refine WO.nil ?_
                            refine WC.ret ?_
                            obtain rfl := Option.some.inj h
                            exact ⟨(fun he => by cases he), rfl, rfl⟩
                          · refine WO.s0 (v' := .d (.bool false)) rfl rfl (fun _ => rfl) (congrArg (fun b => RV.d (.bool b)) hb60) ?_
                            refine WO.s0 (v' := .d (.bool false)) rfl rfl (fun _ => rfl) rfl ?_
                            refine WO.s0 (v' := .d (T_api_SourceID.pd x39)) rfl rfl (fun _ => rfl) rfl ?_
                            refine WO.s0 (v' := .d (T_api_SourceID.pd x29.1)) rfl rfl (fun _ => rfl) rfl ?_
                            refine bind_elim h (fun x61 hx61 h => ?_)
                            refine WO.callR (v := .d (.int .i64 x61)) (u := []) rfl rfl (fun _ => rfl) rfl rfl rfl rfl rfl (source_Compare_ev hx61) rfl rfl rfl rfl ?_
                            refine WO.s0 (v' := .d (T_api_SourceID.pd x39)) rfl rfl (fun _ => rfl) rfl ?_
                            refine WO.s0 (v' := .d (T_api_SourceID.pd x29.1)) rfl rfl (fun _ => rfl) rfl ?_
                            refine bind_elim h (fun x62 hx62 h => ?_)
                            refine WO.callR (v := .d (.int .i64 x62)) (u := []) rfl rfl (fun _ => rfl) rfl rfl rfl rfl rfl (ref03_Compare_ev hx62) rfl rfl rfl rfl ?_
                            refine WO.s0 (v' := .d (.bool (x61 != x62))) rfl rfl (fun _ => rfl) rfl ?_
                            refine ite_elim h (fun hb63 h => ?_) (fun hb63 h => ?_)
                            · refine WO.s0 (v' := .d (.bool true)) rfl rfl (fun _ => rfl) (congrArg (fun b => RV.d (.bool b)) hb63) ?_
                              refine WO.s0 (v' := .d (.bool true)) rfl rfl (fun _ => rfl) rfl ?_
                              refine WO.skip rfl rfl ?_
                              refine WO.skip rfl rfl ?_
                              refine WO.skip rfl rfl ?_
                              refine WO.skip rfl rfl ?_
                              refine WO.skip rfl rfl ?_
                              refine WO.skip rfl rfl ?_
                              refine WO.skip rfl rfl ?_
                              refine WO.s0 (v' := .d (.bool true)) rfl rfl (fun _ => rfl) rfl ?_
                              refine WO.nil ⟨by kernel_rfl, ?_⟩
                              refine WC.condT rfl ?_
                              refine WC.regionSeq rfl rfl ?_
                              refine WO.s0 (v' := .d (.bool false)) rfl rfl (fun _ => rfl) rfl ?_
                              refine WO.nil ?_
                              refine WC.ret ?_
                              obtain rfl := Option.some.inj h
                              exact ⟨(fun he => by cases he), rfl, rfl⟩
                            · refine WO.s0 (v' := .d (.bool false)) rfl rfl (fun _ => rfl) (congrArg (fun b => RV.d (.bool b)) hb63) ?_
                              refine WO.s0 (v' := .d (.bool false)) rfl rfl (fun _ => rfl) rfl ?_
                              refine WO.s0 (v' := .d (T_api_SourceID.pd x39)) rfl rfl (fun _ => rfl) rfl ?_
                              refine WO.s0 (v' := .d (T_api_SourceID.pd x29.1)) rfl rfl (fun _ => rfl) rfl ?_
                              refine bind_elim h (fun x64 hx64 h => ?_)
                              refine WO.callR (v := .d (.bool x64)) (u := []) rfl rfl (fun _ => rfl) rfl rfl rfl rfl rfl (source_SameStation_ev hx64) rfl rfl rfl rfl ?_
                              refine WO.s0 (v' := .d (T_api_SourceID.pd x39)) rfl rfl (fun _ => rfl) rfl ?_
                              refine WO.s0 (v' := .d (T_api_SourceID.pd x29.1)) rfl rfl (fun _ => rfl) rfl ?_
                              refine bind_elim h (fun x65 hx65 h => ?_)
                              refine WO.callR (v := .d (.bool x65)) (u := []) rfl rfl (fun _ => rfl) rfl rfl rfl rfl rfl (ref03_SameStation_ev hx65) rfl rfl rfl rfl ?_
                              refine WO.s0 (v' := .d (.bool (!(x64 == x65)))) rfl rfl (fun _ => rfl) rfl ?_
                              refine ite_elim h (fun hb66 h => ?_) (fun hb66 h => ?_)
                              · refine WO.s0 (v' := .d (.bool true)) rfl rfl (fun _ => rfl) (congrArg (fun b => RV.d (.bool b)) hb66) ?_
                                refine WO.nil ⟨by kernel_rfl, ?_⟩
                                refine WC.condT rfl ?_
                                refine WC.regionSeq rfl rfl ?_
                                refine WO.s0 (v' := .d (.bool false)) rfl rfl (fun _ => rfl) rfl ?_
                                refine WO.nil ?_
                                refine WC.ret ?_
                                obtain rfl := Option.some.inj h
                                exact ⟨(fun he => by cases he), rfl, rfl⟩
                              · refine WO.s0 (v' := .d (.bool false)) rfl rfl (fun _ => rfl) (congrArg (fun b => RV.d (.bool b)) hb66) ?_
                                refine WO.nil ⟨by kernel_rfl, ?_⟩
                                refine WC.condF rfl ?_
                                refine WC.skip ?_
                                refine WC.regionSeq rfl rfl ?_
                                refine WO.s0 (v' := .d (.str x40.1)) rfl rfl (fun _ => rfl) rfl ?_
                                refine WO.s0 (v' := .d (.str a2)) rfl rfl (fun _ => rfl) rfl ?_
                                refine WO.s0 (v' := .d (.str x40.1)) rfl rfl (fun _ => rfl) rfl ?_
                                refine bind_elim h (fun x67 hx67 h => ?_)
                                refine WO.catG hx67 rfl rfl rfl rfl rfl ?_
                                refine WO.s0 (v' := .d (.str x40.1)) rfl rfl (fun _ => rfl) rfl ?_
                                refine WO.s0 (v' := .ptr 1024 0) rfl rfl (fun _ => rfl) rfl ?_
                                refine WO.s0 (v' := .d (.str x40.1)) rfl rfl (fun _ => rfl) rfl ?_
                                refine WO.s0 (v' := .d (.int .i64 (x40.1.length : Int))) rfl rfl (fun _ => rfl) rfl ?_
                                refine WO.s0 (v' := .d (.int .i64 (IntKind.wrap .i64 ((x40.1.length : Int) + (1 : Int))))) rfl rfl (fun _ => rfl) rfl ?_
                                refine bind_elim h (fun x68 hx68 h => ?_)
                                refine WO.callR (v := .d (.int .i64 x68.1)) (u := [(1024, .var [.d (.lst (x68.2.fL.map (PD.int .i64))), .d (.int .i64 x68.2.fAt)])]) rfl rfl (fun _ => rfl) rfl rfl rfl rfl rfl (Dice_Next_ev hx68) rfl rfl rfl rfl ?_
                                refine bind_elim h (fun x69 hx69 h => ?_)
                                refine WO.cutG hx69 rfl rfl rfl rfl rfl rfl rfl rfl rfl ?_
                                refine WO.s0 (v' := .d (.lst ([x40.1, a2, x67, x69].map PD.str))) rfl rfl (fun _ => rfl) rfl ?_
                                refine WO.s0 (v' := .d (.int .i64 4)) rfl rfl (fun _ => rfl) rfl ?_
                                refine WO.s0 (v' := .d (.int .i64 0)) rfl rfl (fun _ => rfl) rfl ?_
                                refine WO.nil ?_
                                refine bind_elim h (fun o79 ho79 h => ?_)
                                refine WC.block (WC.loop (WL.ofLoop ho79 (fun s R' B' => ghosts prog 0 (A R' B') (hints.at_ 6 31) = some (A [(2, .d (.str a2)), (3, .d (.str a3)), (4, .d (.lst (a4.map T_api_SourceID.pd))), (11, .ptr 1024 0), (12, .ref 1200 0), (14, .ptr 224 0), (15, .ptr 240 0), (97, .d (.lst ([x28.1, (T_api_SourceID.mk x28.1.fNetwork x31 x28.1.fLocation x28.1.fChannel), a1].map T_api_SourceID.pd))), (98, .d (.int .i64 3)), (99, .d (.int .i64 y54)), (189, .d (.lst ([x40.1, a2, x67, x69].map PD.str))), (190, .d (.int .i64 4)), (191, .d (.int .i64 s))] [(224, .var [.d (.str x28.1.fNetwork), .d (.str x28.1.fStation), .d (.str x28.1.fLocation), .d (.str x28.1.fChannel)]), (240, .var [.d (.str x29.1.fNetwork), .d (.str x29.1.fStation), .d (.str x29.1.fLocation), .d (.str x29.1.fChannel)]), (1024, .var [.d (.lst (x68.2.fL.map (PD.int .i64))), .d (.int .i64 x68.2.fAt)]), (1200, .arr 0 28 (j27.map T_api_SourceID.pd))])) (fun o e R' B' => match o with | .inl y => e = .exit 6 ∧ ghosts prog 0 (A R' B') (hints.at_ 6 38) = some (A [(2, .d (.str a2)), (3, .d (.str a3)), (4, .d (.lst (a4.map T_api_SourceID.pd))), (11, .ptr 1024 0), (12, .ref 1200 0), (14, .ptr 224 0), (15, .ptr 240 0), (97, .d (.lst ([x28.1, (T_api_SourceID.mk x28.1.fNetwork x31 x28.1.fLocation x28.1.fChannel), a1].map T_api_SourceID.pd))), (98, .d (.int .i64 3)), (99, .d (.int .i64 y54))] [(224, .var [.d (.str x28.1.fNetwork), .d (.str x28.1.fStation), .d (.str x28.1.fLocation), .d (.str x28.1.fChannel)]), (240, .var [.d (.str x29.1.fNetwork), .d (.str x29.1.fStation), .d (.str x29.1.fLocation), .d (.str x29.1.fChannel)]), (1024, .var [.d (.lst (x68.2.fL.map (PD.int .i64))), .d (.int .i64 x68.2.fAt)]), (1200, .arr 0 28 (j27.map T_api_SourceID.pd))]) | .inr r => e = .ret ∧ finish prog (hints.own 6) Tryd.f6 0 (A R' B') = some (.d (.bool r), [])) rfl ?_ ?_))
                                · rintro s70 R' B' q71 hI h
                                  refine WC.regionSeq hI rfl ?_
                                  refine ite_elim h (fun hb72 h => ?_) (fun hb72 h => ?_)
                                  · refine WO.s0 (v' := .d (.bool true)) rfl rfl (fun _ => rfl) (congrArg (fun b => RV.d (.bool b)) hb72) ?_
                                    refine WO.nil ?_
                                    refine WC.seq ?_
                                    refine WC.condT rfl ?_
                                    refine WC.skip ?_
                                    refine WC.seq ?_
                                    refine WC.block ?_
                                    refine WC.regionSeq rfl rfl ?_
                                    refine bind_elim h (fun x73 hx73 h => ?_)
                                    refine WO.elemG hx73 rfl rfl rfl rfl rfl rfl rfl rfl rfl ?_
                                    refine WO.s0 (v' := .d (.str x73)) rfl rfl (fun _ => rfl) rfl ?_
                                    refine WO.s0 (v' := .d (.str x73)) rfl rfl (fun _ => rfl) rfl ?_
                                    refine WO.nil ?_
                                    refine WC.regionSeq rfl rfl ?_
                                    refine WO.s0 (v' := .d (.str x73)) rfl rfl (fun _ => rfl) rfl ?_
                                    refine bind_elim h (fun x74 hx74 h => ?_)
                                    refine WO.callR (v := .tup [.d (T_api_SourceID.pd x74.1), .d (.int .i64 x74.2)]) (u := []) rfl rfl (fun _ => rfl) rfl rfl rfl rfl rfl (source_Parse_ev hx74) rfl rfl rfl rfl ?_
                                    refine WO.s0 (v' := .tup [.d (T_api_SourceID.pd x74.1), .d (.int .i64 x74.2)]) rfl rfl (fun _ => rfl) rfl ?_
                                    refine WO.s0 (v' := .d (T_api_SourceID.pd x74.1)) rfl rfl (fun _ => rfl) rfl ?_
                                    refine WO.s0 (v' := .d (.int .i64 x74.2)) rfl rfl (fun _ => rfl) rfl ?_
                                    refine WO.s1 (v := .ptr 512 0) (id := 512) (bx := .var [.d (.str []), .d (.str []), .d (.str []), .d (.str [])]) rfl rfl (fun _ => rfl) ?_
                                    refine WO.n1 (v := .undef) (id := 512) (bx := .var [.d (.str x74.1.fNetwork), .d (.str x74.1.fStation), .d (.str x74.1.fLocation), .d (.str x74.1.fChannel)]) rfl rfl (fun _ => rfl) ?_
                                    refine WO.s0 (v' := .d (.int .i64 x74.2)) rfl rfl (fun _ => rfl) rfl ?_
                                    refine WO.nil ?_
                                    refine WC.regionSeq rfl rfl ?_
                                    refine WO.s0 (v' := .d (.str x73)) rfl rfl (fun _ => rfl) rfl ?_
                                    refine bind_elim h (fun x75 hx75 h => ?_)
                                    refine WO.callR (v := .tup [.d (T_api_SourceID.pd x75.1), .d (.int .i64 x75.2)]) (u := []) rfl rfl (fun _ => rfl) rfl rfl rfl rfl rfl (ref03_Parse_ev hx75) rfl rfl rfl rfl ?_
                                    refine WO.s0 (v' := .tup [.d (T_api_SourceID.pd x75.1), .d (.int .i64 x75.2)]) rfl rfl (fun _ => rfl) rfl ?_
                                    refine WO.s0 (v' := .d (T_api_SourceID.pd x75.1)) rfl rfl (fun _ => rfl) rfl ?_
                                    refine WO.s0 (v' := .d (.int .i64 x75.2)) rfl rfl (fun _ => rfl) rfl ?_
                                    refine WO.s1 (v := .ptr 544 0) (id := 544) (bx := .var [.d (.str []), .d (.str []), .d (.str []), .d (.str [])]) rfl rfl (fun _ => rfl) ?_
                                    refine WO.n1 (v := .undef) (id := 544) (bx := .var [.d (.str x75.1.fNetwork), .d (.str x75.1.fStation), .d (.str x75.1.fLocation), .d (.str x75.1.fChannel)]) rfl rfl (fun _ => rfl) ?_
                                    refine WO.s0 (v' := .d (.int .i64 x75.2)) rfl rfl (fun _ => rfl) rfl ?_
                                    refine WO.nil ?_
                                    refine WC.regionSeq rfl rfl ?_
                                    refine WO.s0 (v' := .d (T_api_SourceID.pd x74.1)) rfl rfl (fun _ => rfl) rfl ?_
                                    refine WO.s0 (v' := .d (T_api_SourceID.pd x75.1)) rfl rfl (fun _ => rfl) rfl ?_
                                    refine ite_elim h (fun hb76 h => ?_) (fun hb76 h => ?_)
                                    · refine WO.binS (eqN_28 x74.1 x75.1) hb76 rfl rfl rfl rfl rfl ?_
                                      refine WO.s0 (v' := .d (.bool true)) rfl rfl (fun _ => rfl) rfl ?_
                                      refine WO.skip rfl rfl ?_
                                      refine WO.skip rfl rfl ?_
                                      refine WO.skip rfl rfl ?_
                                      refine WO.s0 (v' := .d (.bool true)) rfl rfl (fun _ => rfl) rfl ?_
                                      refine WO.nil ?_
                                      refine WC.condT rfl ?_
                                      refine WC.regionSeq rfl rfl ?_
                                      refine WO.s0 (v' := .d (.bool false)) rfl rfl (fun _ => rfl) rfl ?_
                                      refine WO.nil ?_
                                      refine WC.ret ?_
                                      obtain rfl := Option.some.inj h
                                      exact ⟨(fun he => by cases he), rfl, rfl⟩
                                    · refine WO.binS (eqN_28 x74.1 x75.1) hb76 rfl rfl rfl rfl rfl ?_
                                      refine WO.s0 (v' := .d (.bool false)) rfl rfl (fun _ => rfl) rfl ?_
                                      refine WO.s0 (v' := .d (.int .i64 x74.2)) rfl rfl (fun _ => rfl) rfl ?_
                                      refine WO.s0 (v' := .d (.int .i64 x75.2)) rfl rfl (fun _ => rfl) rfl ?_
                                      refine WO.s0 (v' := .d (.bool (x74.2 != x75.2))) rfl rfl (fun _ => rfl) rfl ?_
                                      refine ite_elim h (fun hb77 h => ?_) (fun hb77 h => ?_)
                                      · refine WO.s0 (v' := .d (.bool true)) rfl rfl (fun _ => rfl) (congrArg (fun b => RV.d (.bool b)) hb77) ?_
                                        refine WO.nil ?_
                                        refine WC.condT rfl ?_
                                        refine WC.regionSeq rfl rfl ?_
                                        refine WO.s0 (v' := .d (.bool false)) rfl rfl (fun _ => rfl) rfl ?_
                                        refine WO.nil ?_
                                        refine WC.ret ?_
                                        obtain rfl := Option.some.inj h
                                        exact ⟨(fun he => by cases he), rfl, rfl⟩
                                      · refine WO.s0 (v' := .d (.bool false)) rfl rfl (fun _ => rfl) (congrArg (fun b => RV.d (.bool b)) hb77) ?_
                                        refine WO.nil ?_
                                        refine WC.condF rfl ?_
                                        refine WC.skip ?_
                                        refine WC.region rfl rfl ?_
                                        refine WO.s0 (v' := .d (.int .i64 (IntKind.wrap .i64 (s70 + (1 : Int))))) rfl rfl (fun _ => rfl) rfl ?_
                                        refine WO.s0 (v' := .d (.int .i64 (IntKind.wrap .i64 (s70 + (1 : Int))))) rfl rfl (fun _ => rfl) rfl ?_
                                        refine WO.nil ?_
                                        obtain rfl := Option.some.inj h
                                        exact ⟨rfl, rfl⟩
                                  · refine WO.s0 (v' := .d (.bool false)) rfl rfl (fun _ => rfl) (congrArg (fun b => RV.d (.bool b)) hb72) ?_
                                    refine WO.nil ?_
                                    refine WC.seq ?_
                                    refine WC.condF rfl ?_
                                    refine WC.exit ?_
                                    obtain rfl := Option.some.inj h
                                    exact ⟨(fun he => by cases he), rfl, rfl⟩
                                · intro e R' B' he hq
                                  rcases o79 with y80 | r81
                                  · obtain ⟨rfl, hI⟩ := hq
                                    refine ⟨fun _ => ?_, fun hne => (hne rfl).elim⟩
                                    refine WC.region hI rfl ?_
                                    refine WO.s0 (v' := .d (.int .i64 (IntKind.wrap .i64 (y54 + (1 : Int))))) rfl rfl (fun _ => rfl) rfl ?_
                                    refine WO.s0 (v' := .d (.int .i64 (IntKind.wrap .i64 (y54 + (1 : Int))))) rfl rfl (fun _ => rfl) rfl ?_
                                    refine WO.nil ?_
                                    obtain rfl := Option.some.inj h
                                    exact ⟨rfl, rfl⟩
                                  · obtain ⟨rfl, hf⟩ := hq
                                    obtain rfl := Option.some.inj h
                                    exact ⟨(fun he => by cases he), rfl, hf⟩
                    · obtain ⟨rfl, hf⟩ := hq
                      obtain rfl := Option.some.inj h
                      exact ⟨(fun he => by cases he), rfl, hf⟩
                · refine WO.s0 (v' := .d (.bool false)) rfl rfl (fun _ => rfl) (congrArg (fun b => RV.d (.bool b)) hb38) ?_
                  refine WO.nil ?_
                  refine WC.seq ?_
                  refine WC.condF rfl ?_
                  refine WC.exit ?_
                  obtain rfl := Option.some.inj h
                  exact ⟨(fun he => by cases he), rfl, rfl⟩
              · intro e R' B' he hq
                rcases o83 with y84 | r85
                · obtain ⟨rfl, hI⟩ := hq
                  refine ⟨fun _ => ?_, fun hne => (hne rfl).elim⟩
                  refine WC.seq ?_
                  refine WC.regionSeq hI rfl ?_
                  refine WO.s0 (v' := .ref 1200 0) rfl rfl (fun _ => rfl) rfl ?_
                  refine WO.s0 (v' := .d (.lst (a4.map T_api_SourceID.pd))) rfl rfl (fun _ => rfl) rfl ?_
                  refine WO.s1 (v := .d (.lst [.lst (j27.map T_api_SourceID.pd), .lst (a4.map T_api_SourceID.pd)])) (id := 1200) (bx := .dead) rfl rfl (fun _ => rfl) ?_
                  refine WO.s0 (v' := .d (.int .i64 2)) rfl rfl (fun _ => rfl) rfl ?_
                  refine WO.s0 (v' := .d (.int .i64 0)) rfl rfl (fun _ => rfl) rfl ?_
                  refine WO.nil ?_
                  refine bind_elim h (fun o112 ho112 h => ?_)
                  refine WC.block (WC.loop (WL.ofLoop ho112 (fun s R' B' => ghosts prog 0 (A R' B') (hints.at_ 6 40) = some (A [(3, .d (.str a3)), (11, .ptr 1024 0), (14, .ptr 224 0), (217, .d (.lst ([j27, a4].map (fun l => PD.lst (l.map T_api_SourceID.pd))))), (218, .d (.int .i64 2)), (219, .d (.int .i64 s.1))] [(224, .var [.d (.str x28.1.fNetwork), .d (.str x28.1.fStation), .d (.str x28.1.fLocation), .d (.str x28.1.fChannel)]), (1024, .var [.d (.lst (s.2.1.map (PD.int .i64))), .d (.int .i64 s.2.2)])])) (fun o e R' B' => match o with | .inl y => e = .exit 8 ∧ ghosts prog 0 (A R' B') (hints.at_ 6 53) = some (A [] []) | .inr r => e = .ret ∧ finish prog (hints.own 6) Tryd.f6 0 (A R' B') = some (.d (.bool r), [])) rfl ?_ ?_))
                  · rintro ⟨s86, s87, s88⟩ R' B' q89 hI h
                    refine WC.regionSeq hI rfl ?_
                    refine ite_elim h (fun hb90 h => ?_) (fun hb90 h => ?_)
                    · refine WO.s0 (v' := .d (.bool true)) rfl rfl (fun _ => rfl) (congrArg (fun b => RV.d (.bool b)) hb90) ?_
                      refine WO.nil ?_
                      refine WC.seq ?_
                      refine WC.condT rfl ?_
                      refine WC.skip ?_
                      refine WC.seq ?_
                      refine WC.block ?_
                      refine WC.regionSeq rfl rfl ?_
                      refine bind_elim h (fun x91 hx91 h => ?_)
                      refine WO.elemG hx91 rfl rfl rfl rfl rfl rfl rfl rfl rfl ?_
                      refine WO.s0 (v' := .d (.lst (x91.map T_api_SourceID.pd))) rfl rfl (fun _ => rfl) rfl ?_
                      refine WO.s0 (v' := .d (.lst (x91.map T_api_SourceID.pd))) rfl rfl (fun _ => rfl) rfl ?_
                      refine WO.nil ?_
                      refine WC.seq ?_
                      refine WC.regionSeq rfl rfl ?_
                      refine WO.s0 (v' := .d (.str a3)) rfl rfl (fun _ => rfl) rfl ?_
                      refine WO.s0 (v' := .ptr 1024 0) rfl rfl (fun _ => rfl) rfl ?_
                      refine WO.s0 (v' := .d (T_api_SourceID.pd x28.1)) rfl rfl (fun _ => rfl) rfl ?_
                      refine bind_elim h (fun x92 hx92 h => ?_)
                      refine WO.callR (v := .d (.str x92.1)) (u := [(1024, .var [.d (.lst (x92.2.fL.map (PD.int .i64))), .d (.int .i64 x92.2.fAt)])]) rfl rfl (fun _ => rfl) rfl rfl rfl rfl rfl (law03_pattern_ev hx92) rfl rfl rfl rfl ?_
                      refine WO.s0 (v' := .d (.lst ([a3, x92.1, [42, 46, 42, 46, 42, 46, 42]].map PD.str))) rfl rfl (fun _ => rfl) rfl ?_
                      refine WO.s0 (v' := .d (.int .i64 3)) rfl rfl (fun _ => rfl) rfl ?_
                      refine WO.s0 (v' := .d (.int .i64 0)) rfl rfl (fun _ => rfl) rfl ?_
                      refine WO.nil ?_
                      refine bind_elim h (fun o104 ho104 h => ?_)
                      refine WC.block (WC.loop (WL.ofLoop ho104 (fun s R' B' => ghosts prog 0 (A R' B') (hints.at_ 6 43) = some (A [(3, .d (.str a3)), (11, .ptr 1024 0), (14, .ptr 224 0), (37, .d (.lst (x91.map T_api_SourceID.pd))), (217, .d (.lst ([j27, a4].map (fun l => PD.lst (l.map T_api_SourceID.pd))))), (218, .d (.int .i64 2)), (219, .d (.int .i64 s86)), (227, .d (.lst ([a3, x92.1, [42, 46, 42, 46, 42, 46, 42]].map PD.str))), (228, .d (.int .i64 3)), (229, .d (.int .i64 s))] [(224, .var [.d (.str x28.1.fNetwork), .d (.str x28.1.fStation), .d (.str x28.1.fLocation), .d (.str x28.1.fChannel)]), (1024, .var [.d (.lst (x92.2.fL.map (PD.int .i64))), .d (.int .i64 x92.2.fAt)])])) (fun o e R' B' => match o with | .inl y => e = .exit 10 ∧ ghosts prog 0 (A R' B') (hints.at_ 6 50) = some (A [(3, .d (.str a3)), (11, .ptr 1024 0), (14, .ptr 224 0), (37, .d (.lst (x91.map T_api_SourceID.pd))), (217, .d (.lst ([j27, a4].map (fun l => PD.lst (l.map T_api_SourceID.pd))))), (218, .d (.int .i64 2)), (219, .d (.int .i64 y))] [(224, .var [.d (.str x28.1.fNetwork), .d (.str x28.1.fStation), .d (.str x28.1.fLocation), .d (.str x28.1.fChannel)]), (1024, .var [.d (.lst (x92.2.fL.map (PD.int .i64))), .d (.int .i64 x92.2.fAt)])]) | .inr r => e = .ret ∧ finish prog (hints.own 6) Tryd.f6 0 (A R' B') = some (.d (.bool r), [])) rfl ?_ ?_))
                      · rintro s93 R' B' q95 hI h
                        refine WC.regionSeq hI rfl ?_
                        refine ite_elim h (fun hb96 h => ?_) (fun hb96 h => ?_)
                        · refine WO.s0 (v' := .d (.bool true)) rfl rfl (fun _ => rfl) (congrArg (fun b => RV.d (.bool b)) hb96) ?_
                          refine WO.nil ?_
                          refine WC.seq ?_
                          refine WC.condT rfl ?_
                          refine WC.skip ?_
                          refine WC.seq ?_
                          refine WC.block ?_
                          refine WC.regionSeq rfl rfl ?_
                          refine bind_elim h (fun x97 hx97 h => ?_)
                          refine WO.elemG hx97 rfl rfl rfl rfl rfl rfl rfl rfl rfl ?_
                          refine WO.s0 (v' := .d (.str x97)) rfl rfl (fun _ => rfl) rfl ?_
                          refine WO.s0 (v' := .d (.str x97)) rfl rfl (fun _ => rfl) rfl ?_
                          refine WO.nil ?_
                          refine WC.regionSeq rfl rfl ?_
                          refine WO.s0 (v' := .d (.str x97)) rfl rfl (fun _ => rfl) rfl ?_
                          refine WO.s0 (v' := .d (.lst (x91.map T_api_SourceID.pd))) rfl rfl (fun _ => rfl) rfl ?_
                          refine bind_elim h (fun x98 hx98 h => ?_)
                          refine WO.callR (v := .tup [.d (.lst (x98.1.map T_api_SourceID.pd)), .d (.int .i64 x98.2)]) (u := []) rfl rfl (fun _ => rfl) rfl rfl rfl rfl rfl (source_Select_ev hx98) rfl rfl rfl rfl ?_
                          refine WO.s0 (v' := .tup [.d (.lst (x98.1.map T_api_SourceID.pd)), .d (.int .i64 x98.2)]) rfl rfl (fun _ => rfl) rfl ?_
                          refine WO.s0 (v' := .d (.lst (x98.1.map T_api_SourceID.pd))) rfl rfl (fun _ => rfl) rfl ?_
                          refine WO.s0 (v' := .d (.int .i64 x98.2)) rfl rfl (fun _ => rfl) rfl ?_
                          refine WO.s0 (v' := .d (.lst (x98.1.map T_api_SourceID.pd))) rfl rfl (fun _ => rfl) rfl ?_
                          refine WO.s0 (v' := .d (.int .i64 x98.2)) rfl rfl (fun _ => rfl) rfl ?_
                          refine WO.nil ?_
                          refine WC.regionSeq rfl rfl ?_
                          refine WO.s0 (v' := .d (.str x97)) rfl rfl (fun _ => rfl) rfl ?_
                          refine WO.s0 (v' := .d (.lst (x91.map T_api_SourceID.pd))) rfl rfl (fun _ => rfl) rfl ?_
                          refine bind_elim h (fun x99 hx99 h => ?_)
                          refine WO.callR (v := .tup [.d (.lst (x99.1.map T_api_SourceID.pd)), .d (.int .i64 x99.2)]) (u := []) rfl rfl (fun _ => rfl) rfl rfl rfl rfl rfl (ref03_Select_ev hx99) rfl rfl rfl rfl ?_
                          refine WO.s0 (v' := .tup [.d (.lst (x99.1.map T_api_SourceID.pd)), .d (.int .i64 x99.2)]) rfl rfl (fun _ => rfl) rfl ?_
                          refine WO.s0 (v' := .d (.lst (x99.1.map T_api_SourceID.pd))) rfl rfl (fun _ => rfl) rfl ?_
                          refine WO.s0 (v' := .d (.int .i64 x99.2)) rfl rfl (fun _ => rfl) rfl ?_
                          refine WO.s0 (v' := .d (.lst (x99.1.map T_api_SourceID.pd))) rfl rfl (fun _ => rfl) rfl ?_
                          refine WO.s0 (v' := .d (.int .i64 x99.2)) rfl rfl (fun _ => rfl) rfl ?_
                          refine WO.nil ?_
                          refine WC.regionSeq rfl rfl ?_
                          refine WO.s0 (v' := .d (.int .i64 x98.2)) rfl rfl (fun _ => rfl) rfl ?_
                          refine WO.s0 (v' := .d (.int .i64 x99.2)) rfl rfl (fun _ => rfl) rfl ?_
                          refine ite_elim h (fun hb100 h => ?_) (fun hb100 h => ?_)
                          · refine WO.s0 (v' := .d (.bool true)) rfl rfl (fun _ => rfl) (congrArg (fun b => RV.d (.bool b)) hb100) ?_
                            refine WO.s0 (v' := .d (.bool true)) rfl rfl (fun _ => rfl) rfl ?_
                            refine WO.skip rfl rfl ?_
                            refine WO.skip rfl rfl ?_
                            refine WO.skip rfl rfl ?_
                            refine WO.skip rfl rfl ?_
                            refine WO.s0 (v' := .d (.bool true)) rfl rfl (fun _ => rfl) rfl ?_
                            refine WO.nil ?_
                            refine WC.condT rfl ?_
                            refine WC.regionSeq rfl rfl ?_
                            refine WO.s0 (v' := .d (.bool false)) rfl rfl (fun _ => rfl) rfl ?_
                            refine WO.nil ?_
                            refine WC.ret ?_
                            obtain rfl := Option.some.inj h
                            exact ⟨(fun he => by cases he), rfl, rfl⟩
                          · refine WO.s0 (v' := .d (.bool false)) rfl rfl (fun _ => rfl) (congrArg (fun b => RV.d (.bool b)) hb100) ?_
                            refine WO.s0 (v' := .d (.bool false)) rfl rfl (fun _ => rfl) rfl ?_
                            refine WO.s0 (v' := .d (.lst (x98.1.map T_api_SourceID.pd))) rfl rfl (fun _ => rfl) rfl ?_
                            refine WO.s0 (v' := .d (.lst (x99.1.map T_api_SourceID.pd))) rfl rfl (fun _ => rfl) rfl ?_
                            refine bind_elim h (fun x101 hx101 h => ?_)
                            refine WO.callR (v := .d (.bool x101)) (u := []) rfl rfl (fun _ => rfl) rfl rfl rfl rfl rfl (ref03_Same_ev hx101) rfl rfl rfl rfl ?_
                            refine WO.s0 (v' := .d (.bool (!x101))) rfl rfl (fun _ => rfl) rfl ?_
                            refine ite_elim h (fun hb102 h => ?_) (fun hb102 h => ?_)
                            · refine WO.s0 (v' := .d (.bool true)) rfl rfl (fun _ => rfl) (congrArg (fun b => RV.d (.bool b)) hb102) ?_
                              refine WO.nil ?_
                              refine WC.condT rfl ?_
                              refine WC.regionSeq rfl rfl ?_
                              refine WO.s0 (v' := .d (.bool false)) rfl rfl (fun _ => rfl) rfl ?_
                              refine WO.nil ?_
                              refine WC.ret ?_
                              obtain rfl := Option.some.inj h
                              exact ⟨(fun he => by cases he), rfl, rfl⟩
                            · refine WO.s0 (v' := .d (.bool false)) rfl rfl (fun _ => rfl) (congrArg (fun b => RV.d (.bool b)) hb102) ?_
                              refine WO.nil ?_
                              refine WC.condF rfl ?_
                              refine WC.skip ?_
                              refine WC.region rfl rfl ?_
                              refine WO.s0 (v' := .d (.int .i64 (IntKind.wrap .i64 (s93 + (1 : Int))))) rfl rfl (fun _ => rfl) rfl ?_
                              refine WO.s0 (v' := .d (.int .i64 (IntKind.wrap .i64 (s93 + (1 : Int))))) rfl rfl (fun _ => rfl) rfl ?_
                              refine WO.nil ?_
                              obtain rfl := Option.some.inj h
                              exact ⟨rfl, rfl⟩
                        · refine WO.s0 (v' := .d (.bool false)) rfl rfl (fun _ => rfl) (congrArg (fun b => RV.d (.bool b)) hb96) ?_
                          refine WO.nil ?_
                          refine WC.seq ?_
                          refine WC.condF rfl ?_
                          refine WC.exit ?_
                          obtain rfl := Option.some.inj h
                          exact ⟨(fun he => by cases he), rfl, rfl⟩
                      · intro e R' B' he hq
                        rcases o104 with y105 | r106
                        · obtain ⟨rfl, hI⟩ := hq
                          refine ⟨fun _ => ?_, fun hne => (hne rfl).elim⟩
                          refine WC.regionSeq hI rfl ?_
                          refine WO.s0 (v' := .d (.lst (x91.map T_api_SourceID.pd))) rfl rfl (fun _ => rfl) rfl ?_
                          refine bind_elim h (fun x107 hx107 h => ?_)
                          refine WO.callR (v := .d (.lst (x107.map T_api_SourceID.pd))) (u := []) rfl rfl (fun _ => rfl) rfl rfl rfl rfl rfl (source_Sort_ev hx107) rfl rfl rfl rfl ?_
                          refine WO.s0 (v' := .d (.lst (x91.map T_api_SourceID.pd))) rfl rfl (fun _ => rfl) rfl ?_
                          refine bind_elim h (fun x108 hx108 h => ?_)
                          refine WO.callR (v := .ref 4128 0) (u := [(4128, .arr 0 28 (x108.map T_api_SourceID.pd))]) rfl rfl (fun _ => rfl) rfl rfl rfl rfl rfl (ref03_Sort_ev hx108) rfl rfl rfl rfl ?_
                          refine bind_elim h (fun x109 hx109 h => ?_)
                          refine WO.callR (v := .d (.bool x109)) (u := [(4128, .dead)]) rfl rfl (fun _ => rfl) rfl rfl rfl rfl rfl (ref03_Same_ev hx109) rfl rfl rfl rfl ?_
                          refine ite_elim h (fun hb110 h => ?_) (fun hb110 h => ?_)
                          · refine WO.s0 (v' := .d (.bool true)) rfl rfl (fun _ => rfl) (congrArg (fun b => RV.d (.bool b)) hb110) ?_
                            refine WO.nil ?_
                            refine WC.condT rfl ?_
                            refine WC.regionSeq rfl rfl ?_
                            refine WO.s0 (v' := .d (.bool false)) rfl rfl (fun _ => rfl) rfl ?_
                            refine WO.nil ?_
                            refine WC.ret ?_
                            obtain rfl := Option.some.inj h
                            exact ⟨(fun he => by cases he), rfl, rfl⟩
                          · refine WO.s0 (v' := .d (.bool false)) rfl rfl (fun _ => rfl) (congrArg (fun b => RV.d (.bool b)) hb110) ?_
                            refine WO.nil ?_
                            refine WC.condF rfl ?_
                            refine WC.skip ?_
                            refine WC.region rfl rfl ?_
                            refine WO.s0 (v' := .d (.int .i64 (IntKind.wrap .i64 (y105 + (1 : Int))))) rfl rfl (fun _ => rfl) rfl ?_
                            refine WO.s0 (v' := .d (.int .i64 (IntKind.wrap .i64 (y105 + (1 : Int))))) rfl rfl (fun _ => rfl) rfl ?_
                            refine WO.nil ?_
                            obtain rfl := Option.some.inj h
                            exact ⟨rfl, rfl⟩
                        · obtain ⟨rfl, hf⟩ := hq
                          obtain rfl := Option.some.inj h
                          exact ⟨(fun he => by cases he), rfl, hf⟩
                    · refine WO.s0 (v' := .d (.bool false)) rfl rfl (fun _ => rfl) (congrArg (fun b => RV.d (.bool b)) hb90) ?_
                      refine WO.nil ?_
                      refine WC.seq ?_
                      refine WC.condF rfl ?_
                      refine WC.exit ?_
                      obtain rfl := Option.some.inj h
                      exact ⟨(fun he => by cases he), rfl, rfl⟩
                  · intro e R' B' he hq
                    rcases o112 with y113 | r114
                    · obtain ⟨rfl, hI⟩ := hq
                      refine ⟨fun _ => ?_, fun hne => (hne rfl).elim⟩
                      refine WC.regionSeq hI rfl ?_
                      refine bind_elim h (fun x115 hx115 h => ?_)
                      refine WO.callR (v := .d (.bool x115)) (u := []) rfl rfl (fun _ => rfl) rfl rfl rfl rfl rfl (law03_sane_ev hx115) rfl rfl rfl rfl ?_
                      refine WO.s0 (v' := .d (.bool x115)) rfl rfl (fun _ => rfl) rfl ?_
                      refine WO.nil ?_
                      refine WC.ret ?_
                      obtain rfl := Option.some.inj h
                      exact WC.done rfl rfl rfl
                    · obtain ⟨rfl, hf⟩ := hq
                      obtain rfl := Option.some.inj h
                      exact hf
                · obtain ⟨rfl, hf⟩ := hq
                  obtain rfl := Option.some.inj h
                  exact hf
end Go.Dw.Sx
