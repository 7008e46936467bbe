/- SolutionUntouched holds: for every list of numbers the law returns true, and the list reads as it did. Its conditions: none but the row's own. -/
import Derived.Test.YtoplbomkhkbklaaGreatSoEv
import Derived.Test.YtoplbomkhkbklaaGreatSoLawX
import Derived.Test.YtoplbomkhkbklaaGreatDwArg
import Derived.Test.YtoplbomkhkbklaaGreatDwSort
import Derived.Test.YtoplbomkhkbklaaGreatDwClone
import Derived.Test.YtoplbomkhkbklaaGreatShelfT
import Derived.Test.YtoplbomkhkbklaaGreatRows
import Derived.WalkKit
import Derived.ProofKit
import Derived.OpenShut
import Derived.Deep.DeepHandedRow
import Derived.Lay
import Derived.Lib.LaidTab













namespace Go.Proofs
namespace YtoplbomkhkbklaaGreat
open Go.ChangeShapes Go.WideShapes Go.ChangeAt Go.RowKit Go.Dw
set_option maxRecDepth 100000

theorem own : ownKnob Tryz.prog.godebug = none := by kernel_rfl
theorem mixed : Tryz.prog.follows .mixedOrders = true := by kernel_rfl
theorem entersLaw : Dw.Enters Tryz.prog 4 := ⟨Tryz.f4, Tryz.func4, by decide +kernel, by kernel_rfl⟩
theorem enters54 : Dw.Enters Tryz.prog 54 := ⟨Tryz.f54, Tryz.func54, by decide +kernel, by kernel_rfl⟩
theorem enters55 : Dw.Enters Tryz.prog 55 := ⟨Tryz.f55, Tryz.func55, by decide +kernel, by kernel_rfl⟩
theorem sort_nil54 (base : wa) : sc Tryz.prog base 54 [.ref 0 0, .d (.raw (.func (.func 55) #[] #[]))] [.arr 0 48 []] (.tup []) [.arr 0 48 []] :=
  wK (H := { at_ := fun _ _ _ => [], mt := fun _ _ => false, by_ := fun _ i => i == 0, own := fun _ _ => false }) (zt _ _) mixed 60 _ _ _ _ _ (by kernel_rfl)
theorem enters53 : Dw.Enters Tryz.prog 53 := ⟨Tryz.f53, Tryz.func53, by decide +kernel, by kernel_rfl⟩
theorem info48 : ∃ i0 z, Tryz.prog.info? 48 = some i0 ∧ i0.zero = some z ∧ i0.size = 9 ∧ i0.bytes = 104 ∧ z.cells.size = 9 :=
  ⟨(Tryz.prog.info? 48).get (by kernel_rfl), ((Tryz.prog.info? 48).get (by kernel_rfl)).zero.getD (.bool false), (Option.some_get _).symm, by kernel_rfl, by kernel_rfl, by kernel_rfl, by kernel_rfl⟩
theorem enters159 : Dw.Enters Tryz.prog 159 := ⟨Tryz.f159, Tryz.func159, by decide +kernel, by kernel_rfl⟩
theorem info71 : ∃ i0 z, Tryz.prog.info? 71 = some i0 ∧ i0.zero = some z ∧ i0.size = 8 ∧ i0.bytes = 80 ∧ z.cells.size = 8 :=
  ⟨(Tryz.prog.info? 71).get (by kernel_rfl), ((Tryz.prog.info? 71).get (by kernel_rfl)).zero.getD (.bool false), (Option.some_get _).symm, by kernel_rfl, by kernel_rfl, by kernel_rfl, by kernel_rfl⟩
theorem enters178 : Dw.Enters Tryz.prog 178 := ⟨Tryz.f178, Tryz.func178, by decide +kernel, by kernel_rfl⟩
theorem info104 : ∃ i0 z, Tryz.prog.info? 104 = some i0 ∧ i0.zero = some z ∧ i0.size = 10 ∧ i0.bytes = 96 ∧ z.cells.size = 10 :=
  ⟨(Tryz.prog.info? 104).get (by kernel_rfl), ((Tryz.prog.info? 104).get (by kernel_rfl)).zero.getD (.bool false), (Option.some_get _).symm, by kernel_rfl, by kernel_rfl, by kernel_rfl, by kernel_rfl⟩
theorem enters37 : Dw.Enters Tryz.prog 37 := ⟨Tryz.f37, Tryz.func37, by decide +kernel, by kernel_rfl⟩
theorem info3 : ∃ i0 z, Tryz.prog.info? 3 = some i0 ∧ i0.zero = some z ∧ i0.size = 1 ∧ i0.bytes = 8 ∧ z.cells.size = 1 :=
  ⟨(Tryz.prog.info? 3).get (by kernel_rfl), ((Tryz.prog.info? 3).get (by kernel_rfl)).zero.getD (.bool false), (Option.some_get _).symm, by kernel_rfl, by kernel_rfl, by kernel_rfl, by kernel_rfl⟩

def base0 : wa := ⟨fun _ => none, False, []⟩
theorem ext_ok : ExtOk Tryz.prog base0 So.ext := by
  intro f g hf args bs r bs' h
  unfold So.ext at hf
  split at hf
  · rename_i hf'
    cases hf
    subst hf'
    exact sort_ok (α := So.aq) (pd := So.aq.pd) (cmp := So.bX) (g := 55) (e := 48) (k := 9) Tryz.laysSort54 rfl rfl enters54 enters55 (enters_of Tryz.func55 (by kernel_rfl) rfl) Tryz.isAgg48 Tryz.sizeOf48 (by kernel_rfl) (fun _ => rfl) (fun _ => ⟨_, rfl⟩) (fun _ => rfl)
      (fun x y c hc => (So.nX hc).callOk (zt _ _) mixed) (sort_nil54 _) args bs r bs' h
  split at hf
  · rename_i hf'
    cases hf
    subst hf'
    obtain ⟨i0, z, g0, g1, g2, g3, g4⟩ := info48
    exact vH Tryz.laysClone53 (fun h => h) rfl rfl enters53 g0 g1 g2 g3 g4 za za Tryz.sizeOf48 args bs r bs' h
  split at hf
  · rename_i hf'
    cases hf
    subst hf'
    obtain ⟨i0, z, g0, g1, g2, g3, g4⟩ := info71
    exact vH Tryz.laysClone159 (fun h => h) rfl rfl enters159 g0 g1 g2 g3 g4 za za Tryz.sizeOf71 args bs r bs' h
  split at hf
  · rename_i hf'
    cases hf
    subst hf'
    obtain ⟨i0, z, g0, g1, g2, g3, g4⟩ := info104
    exact vH Tryz.laysClone178 (fun h => h) rfl rfl enters178 g0 g1 g2 g3 g4 za za Tryz.sizeOf104 args bs r bs' h
  split at hf
  · rename_i hf'
    cases hf
    subst hf'
    obtain ⟨i0, z, g0, g1, g2, g3, g4⟩ := info3
    exact vH Tryz.laysClone37 (fun h => h) rfl rfl enters37 g0 g1 g2 g3 g4 za za Tryz.sizeOf3 args bs r bs' h
  cases hf

/-- A list of numbers, as data. -/
theorem ints_of {ps : List PD} (h : yW Tryz.prog 3 [22] ps) : ∃ l : List Int, ps = [.lst (l.map (.int .i64))] := by
  match ps, h with
  | [p], ⟨h, _⟩ =>
    obtain ⟨l, rfl, _⟩ := ShV.ints Tryz.underlying22 Tryz.underlying3 h
    exact ⟨l, rfl⟩

theorem contract (H : Type) (enc : TypeId × Value → H) (W : World) (base : Nat) (args : Array Value) (ds gs : List (DataW H)) (before : List MemPlace)
    (hval : ∀ (j : Nat) t v, Tryz.f4.params[j]? = some t → args[j]? = some v → Value.okWide Tryz.prog W .any base t v)
    (hW : DataW.Whole enc Tryz.prog Tryz.f4.params.toList Rows.solutionUntouchedSpec.vars false W args.toList ds gs before) :
    Calls Tryz.prog 4 args W fun e W' => ∃ v, e = .returned v ∧ Rows.solutionUntouchedSpec.post enc Tryz.prog Tryz.f4 false true false false W args v W' := by
  refine A8 (base := base0) (d := 3) (tb := 4) entersLaw hval hW (by kernel_rfl) rfl (fun ds h => ?_) (by kernel_rfl) Tryz.underlying4 (fun a v h => by cases h) (fun x hx => by cases hx) (fun pds h => ?_)
  · have h1 : Tryz.f4.params.size = 1 := by kernel_rfl
    rw [h1] at h
    obtain ⟨d, rfl⟩ := List.length_eq_one_iff.1 h
    rfl
  · obtain ⟨l, rfl⟩ := ints_of (show yW Tryz.prog 3 [22] pds from h)
    exact (So.kC (So.mj l)).callOk ext_ok mixed

/-- The witness's argument. -/
def wit : Array Value := #[.slice none 0 0]
/-- A world for the witness. -/
noncomputable def laidWorld (os : Os) : World := World.laidAll Tryz.prog os Rows.solutionUntouchedRow.laid
theorem laid_met (os : Os) : laidMet Tryz.prog Rows.solutionUntouchedRow.laid ((laidWorld os).forCall (fun _ _ => 0) ⟨#[], wit, []⟩).memory :=
  laidMet_laidAll _ (by kernel_rfl) (by kernel_rfl)
theorem reads (os : Os) {H : Type} (enc : TypeId × Value → H) : ∃ places, DataW.whole enc Tryz.prog ((laidWorld os).forCall (fun _ _ => 0) ⟨#[], wit, []⟩).memory Tryz.f4.params.toList Rows.solutionUntouchedSpec.vars false wit.toList 8 = some ([.nil], [], places) :=
  ⟨[], by kernel_rfl⟩

theorem lifted (os : Os) (started : os.Started) (H : Type) (enc : TypeId × Value → H) (F : Stop.Interp) :
    ReturnsInHanded {} Tryz.checked os 4 .any ((OpenSpec.ofChange Rows.solutionUntouchedSpec).preRow enc Tryz.prog Tryz.f4 Rows.solutionUntouchedRow.domain false Rows.solutionUntouchedRow.laid) (((OpenSpec.ofChange Rows.solutionUntouchedSpec).at F).post enc Tryz.prog Tryz.f4 false true false false) := by
  obtain ⟨places, hx⟩ := reads os enc
  refine returnsInHanded_of_row (C := Tryz.checked) (s := OpenSpec.ofChange Rows.solutionUntouchedSpec) own started (by kernel_rfl) Tryz.func4
    (witness_row_at (enc := enc) (C := Tryz.checked) false (laidWorld os) wit (World.laidAll_os _ _ _) (by kernel_rfl) (by kernel_rfl) (by kernel_rfl)
      (OpenSpec.preRow_of_cond 8 hx (by kernel_rfl) (fun k hk => by cases hk) (by kernel_rfl) (laid_met os))) ?_
  intro W base args ds gs before hval hW _ _ _ hL hS _
  exact contract H enc W base args ds gs before hval hW

theorem said : Rows.SolutionUntouchedSaid :=
  OpenClaim.holds_of_cond 4 Tryz.f4 rfl rfl rfl rfl rfl rfl rfl ⟨rfl, rfl, rfl, rfl, rfl⟩ rfl rfl rfl rfl rfl (by kernel_rfl) Tryz.func4 (by kernel_rfl)
    (of_decide_eq_true (by kernel_rfl)) (by unfold Func.isWrapper; first | (rw [if_pos (by decide +kernel)]; kernel_rfl) | (rw [if_neg (by decide +kernel)]; exact ⟨rfl, rfl⟩))
    (fun os started H enc _ F => by rw [OpenClaim.pre_eq_preRow]; exact lifted os started H enc F)
end YtoplbomkhkbklaaGreat
end Go.Proofs
