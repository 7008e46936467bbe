/- SessionLate holds: for every two small numbers the law returns true. Its conditions: none but the row's own. -/
import Derived.Test.YtjecbkklfphblaaGreatSlEv
import Derived.Test.YtjecbkklfphblaaGreatSlLaw
import Derived.Test.YtjecbkklfphblaaGreatDwArg
import Derived.Test.YtjecbkklfphblaaGreatDwSort
import Derived.Test.YtjecbkklfphblaaGreatDwClone
import Derived.Test.YtjecbkklfphblaaGreatShelfS
import Derived.Test.YtjecbkklfphblaaGreatSeIns
import Derived.Test.YtjecbkklfphblaaGreatRows
import Derived.WalkKit
import Derived.ProofKit
import Derived.OpenShut
import Derived.Deep.DeepHandedRow
import Derived.Lay
import Derived.Lib.LaidTab














namespace Go.Proofs
namespace YtjecbkklfphblaaGreat
open Go.ChangeShapes Go.WideShapes Go.ChangeAt Go.RowKit Go.Dw
set_option maxRecDepth 100000

theorem own : ownKnob Tryz.prog.godebug = none := by kernel_rfl
theorem mixed : Tryz.prog.follows .mixedOrders = true := by kernel_rfl
theorem entersLaw : Dw.Enters Tryz.prog 4 := ⟨Tryz.f4, Tryz.func4, by decide +kernel, by kernel_rfl⟩
theorem enters127 : Dw.Enters Tryz.prog 127 := ⟨Tryz.f127, Tryz.func127, by decide +kernel, by kernel_rfl⟩
theorem enters128 : Dw.Enters Tryz.prog 128 := ⟨Tryz.f128, Tryz.func128, by decide +kernel, by kernel_rfl⟩
theorem sort_nil127 (base : Base) : CallOk Tryz.prog base 127 [.ref 0 0, .d (.raw (.func (.func 128) #[] #[]))] [.arr 0 55 []] (.tup []) [.arr 0 55 []] :=
  evFun_sound (H := { at_ := fun _ _ _ => [], mt := fun _ _ => false, by_ := fun _ i => i == 0, own := fun _ _ => false }) (ext_none _ _) mixed 60 _ _ _ _ _ (by kernel_rfl)
theorem enters74 : Dw.Enters Tryz.prog 74 := ⟨Tryz.f74, Tryz.func74, by decide +kernel, by kernel_rfl⟩
theorem info55 : ∃ i0 z, Tryz.prog.info? 55 = some i0 ∧ i0.zero = some z ∧ i0.size = 2 ∧ i0.bytes = 16 ∧ z.cells.size = 2 :=
  ⟨(Tryz.prog.info? 55).get (by kernel_rfl), ((Tryz.prog.info? 55).get (by kernel_rfl)).zero.getD (.bool false), (Option.some_get _).symm, by kernel_rfl, by kernel_rfl, by kernel_rfl, by kernel_rfl⟩
theorem enters73 : Dw.Enters Tryz.prog 73 := ⟨Tryz.f73, Tryz.func73, by decide +kernel, by kernel_rfl⟩
theorem info9 : ∃ i0 z, Tryz.prog.info? 9 = some i0 ∧ i0.zero = some z ∧ i0.size = 1 ∧ i0.bytes = 16 ∧ z.cells.size = 1 :=
  ⟨(Tryz.prog.info? 9).get (by kernel_rfl), ((Tryz.prog.info? 9).get (by kernel_rfl)).zero.getD (.bool false), (Option.some_get _).symm, by kernel_rfl, by kernel_rfl, by kernel_rfl, by kernel_rfl⟩
theorem enters75 : Dw.Enters Tryz.prog 75 := ⟨Tryz.f75, Tryz.func75, by decide +kernel, by kernel_rfl⟩
theorem info113 : ∃ i0 z, Tryz.prog.info? 113 = some i0 ∧ i0.zero = some z ∧ i0.size = 3 ∧ i0.bytes = 32 ∧ z.cells.size = 3 :=
  ⟨(Tryz.prog.info? 113).get (by kernel_rfl), ((Tryz.prog.info? 113).get (by kernel_rfl)).zero.getD (.bool false), (Option.some_get _).symm, by kernel_rfl, by kernel_rfl, by kernel_rfl, by kernel_rfl⟩
theorem enters76 : Dw.Enters Tryz.prog 76 := ⟨Tryz.f76, Tryz.func76, by decide +kernel, by kernel_rfl⟩
theorem info50 : ∃ i0 z, Tryz.prog.info? 50 = some i0 ∧ i0.zero = some z ∧ i0.size = 3 ∧ i0.bytes = 32 ∧ z.cells.size = 3 :=
  ⟨(Tryz.prog.info? 50).get (by kernel_rfl), ((Tryz.prog.info? 50).get (by kernel_rfl)).zero.getD (.bool false), (Option.some_get _).symm, by kernel_rfl, by kernel_rfl, by kernel_rfl, by kernel_rfl⟩

def base0 : Base := ⟨fun _ => none, False, []⟩
theorem ext_ok : ExtOk Tryz.prog base0 Sl.ext := by
  intro f g hf args bs r bs' h
  unfold Sl.ext at hf
  split at hf
  · rename_i hf'
    cases hf
    subst hf'
    exact sort_ok (α := Sl.aa) (pd := Sl.aa.pd) (cmp := Sl.aK) (g := 128) (e := 55) (k := 2) Tryz.laysSort127 rfl rfl enters127 enters128 (enters_of Tryz.func128 (by kernel_rfl) rfl) Tryz.isAgg55 Tryz.sizeOf55 (by kernel_rfl) (fun _ => rfl) (fun _ => ⟨_, rfl⟩) (fun _ => rfl)
      (fun x y c hc => (Sl.jx hc).callOk (ext_none _ _) mixed) (sort_nil127 _) args bs r bs' h
  split at hf
  · rename_i hf'
    cases hf
    subst hf'
    obtain ⟨i0, z, g0, g1, g2, g3, g4⟩ := info55
    exact clone_ok Tryz.laysClone74 (fun h => h) rfl rfl enters74 g0 g1 g2 g3 g4 (by omega) (by omega) Tryz.sizeOf55 args bs r bs' h
  split at hf
  · rename_i hf'
    cases hf
    subst hf'
    obtain ⟨i0, z, g0, g1, g2, g3, g4⟩ := info9
    exact clone_ok Tryz.laysClone73 (fun h => h) rfl rfl enters73 g0 g1 g2 g3 g4 (by omega) (by omega) Tryz.sizeOf9 args bs r bs' h
  split at hf
  · rename_i hf'
    cases hf
    subst hf'
    obtain ⟨i0, z, g0, g1, g2, g3, g4⟩ := info113
    exact clone_ok Tryz.laysClone75 (fun h => h) rfl rfl enters75 g0 g1 g2 g3 g4 (by omega) (by omega) Tryz.sizeOf113 args bs r bs' h
  split at hf
  · rename_i hf'
    cases hf
    subst hf'
    obtain ⟨i0, z, g0, g1, g2, g3, g4⟩ := info50
    exact clone_ok Tryz.laysClone76 (fun h => h) rfl rfl enters76 g0 g1 g2 g3 g4 (by omega) (by omega) Tryz.sizeOf50 args bs r bs' h
  split at hf
  · rename_i hf'
    cases hf
    subst hf'
    exact insert_ok _ args bs r bs' h
  cases hf

theorem u8_of {n : Int} (h : (Lit.int .u8 n).wf = true) : 0 ≤ n ∧ n < 256 := by
  simp only [Lit.wf, IntKind.min, IntKind.max, IntKind.signed, IntKind.bits, Bool.and_eq_true, decide_eq_true_eq] at h
  have h1 := h.1
  have h2 := h.2
  simp at h1 h2
  omega
/-- Two small numbers, as data. -/
theorem args_of {ps : List PD} (h : ShAll Tryz.prog 3 [5, 5] ps) : ∃ a b : Int, ps = [.int .u8 a, .int .u8 b] ∧ (0 ≤ a ∧ a < 256) ∧ (0 ≤ b ∧ b < 256) := by
  match ps, h with
  | [p, q], ⟨h1, h2, _⟩ =>
    obtain ⟨a, rfl, ha⟩ := ShV.int Tryz.underlying5 h1
    obtain ⟨b, rfl, hb⟩ := ShV.int Tryz.underlying5 h2
    exact ⟨a, b, rfl, u8_of ha, u8_of hb⟩

theorem contract (H : Type) (enc : TypeId × Value → H) (W : World) (base : Nat) (args : Array Value) (ds gs : List (DataW H)) (before : List MemPlace)
    (hval : ∀ (j : Nat) t v, Tryz.f4.params[j]? = some t → args[j]? = some v → Value.okWide Tryz.prog W .any base t v)
    (hW : DataW.Whole enc Tryz.prog Tryz.f4.params.toList Rows.sessionLateSpec.vars false W args.toList ds gs before) :
    Calls Tryz.prog 4 args W fun e W' => ∃ v, e = .returned v ∧ Rows.sessionLateSpec.post enc Tryz.prog Tryz.f4 false true false false W args v W' := by
  refine law_calls (base := base0) (d := 3) (tb := 4) entersLaw hval hW (by kernel_rfl) rfl (fun ds h => ?_) (by kernel_rfl) Tryz.underlying4 (fun a v h => by cases h) (fun x hx => by cases hx) (fun pds h => ?_)
  · have h1 : Tryz.f4.params.size = 2 := by kernel_rfl
    rw [h1] at h
    match ds, h with
    | [d1, d2], _ => rfl
  · obtain ⟨a, b, rfl, ha, hb⟩ := args_of (show ShAll Tryz.prog 3 [5, 5] pds from h)
    exact (Sl.ji (Sl.law_SessionLate ha hb)).callOk ext_ok mixed

/-- The witness's argument. -/
def wit : Array Value := #[.int .u8 0, .int .u8 0]
/-- A world for the witness. -/
noncomputable def laidWorld (os : Os) : World := World.laidAll Tryz.prog os Rows.sessionLateRow.laid
theorem laid_met (os : Os) : laidMet Tryz.prog Rows.sessionLateRow.laid ((laidWorld os).forCall (fun _ _ => 0) ⟨#[], wit, []⟩).memory :=
  laidMet_laidAll _ (by kernel_rfl) (by kernel_rfl)
theorem reads (os : Os) {H : Type} (enc : TypeId × Value → H) : ∃ places, DataW.whole enc Tryz.prog ((laidWorld os).forCall (fun _ _ => 0) ⟨#[], wit, []⟩).memory Tryz.f4.params.toList Rows.sessionLateSpec.vars false wit.toList 8 = some ([.lit (.int .u8 0), .lit (.int .u8 0)], [], places) :=
  ⟨[], by kernel_rfl⟩

theorem lifted (os : Os) (started : os.Started) (H : Type) (enc : TypeId × Value → H) (F : Stop.Interp) :
    ReturnsInHanded {} Tryz.checked os 4 .any ((OpenSpec.ofChange Rows.sessionLateSpec).preRow enc Tryz.prog Tryz.f4 Rows.sessionLateRow.domain false Rows.sessionLateRow.laid) (((OpenSpec.ofChange Rows.sessionLateSpec).at F).post enc Tryz.prog Tryz.f4 false true false false) := by
  obtain ⟨places, hx⟩ := reads os enc
  refine returnsInHanded_of_row (C := Tryz.checked) (s := OpenSpec.ofChange Rows.sessionLateSpec) own started (by kernel_rfl) Tryz.func4
    (witness_row_at (enc := enc) (C := Tryz.checked) false (laidWorld os) wit (World.laidAll_os _ _ _) (by kernel_rfl) (by kernel_rfl) (by kernel_rfl)
      (OpenSpec.preRow_of_cond 8 hx (by kernel_rfl) (fun k hk => by cases hk) (by kernel_rfl) (laid_met os))) ?_
  intro W base args ds gs before hval hW _ _ _ hL hS _
  exact contract H enc W base args ds gs before hval hW

theorem said : Rows.SessionLateSaid :=
  OpenClaim.holds_of_cond 4 Tryz.f4 rfl rfl rfl rfl rfl rfl rfl ⟨rfl, rfl, rfl, rfl, rfl⟩ rfl rfl rfl rfl rfl (by kernel_rfl) Tryz.func4 (by kernel_rfl)
    (of_decide_eq_true (by kernel_rfl)) (by unfold Func.isWrapper; first | (rw [if_pos (by decide +kernel)]; kernel_rfl) | (rw [if_neg (by decide +kernel)]; exact ⟨rfl, rfl⟩))
    (fun os started H enc _ F => by rw [OpenClaim.pre_eq_preRow]; exact lifted os started H enc F)
end YtjecbkklfphblaaGreat
end Go.Proofs
