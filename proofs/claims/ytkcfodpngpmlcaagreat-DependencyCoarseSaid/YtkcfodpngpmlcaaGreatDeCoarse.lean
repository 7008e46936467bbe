/- DependencyCoarse holds: for every list of numbers the law returns true, and the list reads as it did. Its conditions: none but the row's own. -/
import Derived.Test.YtkcfodpngpmlcaaGreatDeEv
import Derived.Test.YtkcfodpngpmlcaaGreatDeLawQ
import Derived.Test.YtkcfodpngpmlcaaGreatDwArg
import Derived.Test.YtkcfodpngpmlcaaGreatDwSort
import Derived.Test.YtkcfodpngpmlcaaGreatDwClone
import Derived.Test.YtkcfodpngpmlcaaGreatShelfE
import Derived.Test.YtkcfodpngpmlcaaGreatRows
import Derived.WalkKit
import Derived.ProofKit
import Derived.OpenShut
import Derived.Deep.DeepHandedRow
import Derived.Lay
import Derived.Lib.LaidTab













namespace Go.Proofs
namespace YtkcfodpngpmlcaaGreat
open Go.ChangeShapes Go.WideShapes Go.ChangeAt Go.RowKit Go.Dw
set_option maxRecDepth 100000

theorem own : ownKnob Tryz.prog.godebug = none := by kernel_rfl
theorem mixed : Tryz.prog.follows .mixedOrders = true := by kernel_rfl
theorem entersLaw : Dw.Enters Tryz.prog 7 := ⟨Tryz.f7, Tryz.func7, by decide +kernel, by kernel_rfl⟩
theorem enters72 : Dw.Enters Tryz.prog 72 := ⟨Tryz.f72, Tryz.func72, by decide +kernel, by kernel_rfl⟩
theorem enters73 : Dw.Enters Tryz.prog 73 := ⟨Tryz.f73, Tryz.func73, by decide +kernel, by kernel_rfl⟩
theorem sort_nil72 (base : Base) : CallOk Tryz.prog base 72 [.ref 0 0, .d (.raw (.func (.func 73) #[] #[]))] [.arr 0 52 []] (.tup []) [.arr 0 52 []] :=
  evFun_sound (H := { at_ := fun _ _ _ => [], mt := fun _ _ => false, by_ := fun _ i => i == 0, own := fun _ _ => false }) (ext_none _ _) mixed 60 _ _ _ _ _ (by kernel_rfl)
theorem enters88 : Dw.Enters Tryz.prog 88 := ⟨Tryz.f88, Tryz.func88, by decide +kernel, by kernel_rfl⟩
theorem enters89 : Dw.Enters Tryz.prog 89 := ⟨Tryz.f89, Tryz.func89, by decide +kernel, by kernel_rfl⟩
theorem sort_nil88 (base : Base) : CallOk Tryz.prog base 88 [.ref 0 0, .d (.raw (.func (.func 89) #[] #[]))] [.arr 0 50 []] (.tup []) [.arr 0 50 []] :=
  evFun_sound (H := { at_ := fun _ _ _ => [], mt := fun _ _ => false, by_ := fun _ i => i == 0, own := fun _ _ => false }) (ext_none _ _) mixed 60 _ _ _ _ _ (by kernel_rfl)
theorem enters95 : Dw.Enters Tryz.prog 95 := ⟨Tryz.f95, Tryz.func95, by decide +kernel, by kernel_rfl⟩
theorem enters96 : Dw.Enters Tryz.prog 96 := ⟨Tryz.f96, Tryz.func96, by decide +kernel, by kernel_rfl⟩
theorem sort_nil95 (base : Base) : CallOk Tryz.prog base 95 [.ref 0 0, .d (.raw (.func (.func 96) #[] #[]))] [.arr 0 76 []] (.tup []) [.arr 0 76 []] :=
  evFun_sound (H := { at_ := fun _ _ _ => [], mt := fun _ _ => false, by_ := fun _ i => i == 0, own := fun _ _ => false }) (ext_none _ _) mixed 60 _ _ _ _ _ (by kernel_rfl)
theorem enters123 : Dw.Enters Tryz.prog 123 := ⟨Tryz.f123, Tryz.func123, by decide +kernel, by kernel_rfl⟩
theorem info52 : ∃ i0 z, Tryz.prog.info? 52 = some i0 ∧ i0.zero = some z ∧ i0.size = 9 ∧ i0.bytes = 104 ∧ z.cells.size = 9 :=
  ⟨(Tryz.prog.info? 52).get (by kernel_rfl), ((Tryz.prog.info? 52).get (by kernel_rfl)).zero.getD (.bool false), (Option.some_get _).symm, by kernel_rfl, by kernel_rfl, by kernel_rfl, by kernel_rfl⟩
theorem enters87 : Dw.Enters Tryz.prog 87 := ⟨Tryz.f87, Tryz.func87, by decide +kernel, by kernel_rfl⟩
theorem info50 : ∃ i0 z, Tryz.prog.info? 50 = some i0 ∧ i0.zero = some z ∧ i0.size = 4 ∧ i0.bytes = 64 ∧ z.cells.size = 4 :=
  ⟨(Tryz.prog.info? 50).get (by kernel_rfl), ((Tryz.prog.info? 50).get (by kernel_rfl)).zero.getD (.bool false), (Option.some_get _).symm, by kernel_rfl, by kernel_rfl, by kernel_rfl, by kernel_rfl⟩
theorem enters92 : Dw.Enters Tryz.prog 92 := ⟨Tryz.f92, Tryz.func92, by decide +kernel, by kernel_rfl⟩
theorem info76 : ∃ i0 z, Tryz.prog.info? 76 = some i0 ∧ i0.zero = some z ∧ i0.size = 2 ∧ i0.bytes = 16 ∧ z.cells.size = 2 :=
  ⟨(Tryz.prog.info? 76).get (by kernel_rfl), ((Tryz.prog.info? 76).get (by kernel_rfl)).zero.getD (.bool false), (Option.some_get _).symm, by kernel_rfl, by kernel_rfl, by kernel_rfl, by kernel_rfl⟩
theorem enters139 : Dw.Enters Tryz.prog 139 := ⟨Tryz.f139, Tryz.func139, by decide +kernel, by kernel_rfl⟩
theorem info96 : ∃ i0 z, Tryz.prog.info? 96 = some i0 ∧ i0.zero = some z ∧ i0.size = 8 ∧ i0.bytes = 80 ∧ z.cells.size = 8 :=
  ⟨(Tryz.prog.info? 96).get (by kernel_rfl), ((Tryz.prog.info? 96).get (by kernel_rfl)).zero.getD (.bool false), (Option.some_get _).symm, by kernel_rfl, by kernel_rfl, by kernel_rfl, by kernel_rfl⟩
theorem enters181 : Dw.Enters Tryz.prog 181 := ⟨Tryz.f181, Tryz.func181, by decide +kernel, by kernel_rfl⟩
theorem info137 : ∃ i0 z, Tryz.prog.info? 137 = some i0 ∧ i0.zero = some z ∧ i0.size = 10 ∧ i0.bytes = 96 ∧ z.cells.size = 10 :=
  ⟨(Tryz.prog.info? 137).get (by kernel_rfl), ((Tryz.prog.info? 137).get (by kernel_rfl)).zero.getD (.bool false), (Option.some_get _).symm, by kernel_rfl, by kernel_rfl, by kernel_rfl, by kernel_rfl⟩
theorem enters182 : Dw.Enters Tryz.prog 182 := ⟨Tryz.f182, Tryz.func182, by decide +kernel, by kernel_rfl⟩
theorem info3 : ∃ i0 z, Tryz.prog.info? 3 = some i0 ∧ i0.zero = some z ∧ i0.size = 1 ∧ i0.bytes = 8 ∧ z.cells.size = 1 :=
  ⟨(Tryz.prog.info? 3).get (by kernel_rfl), ((Tryz.prog.info? 3).get (by kernel_rfl)).zero.getD (.bool false), (Option.some_get _).symm, by kernel_rfl, by kernel_rfl, by kernel_rfl, by kernel_rfl⟩

def base0 : Base := ⟨fun _ => none, False, []⟩
theorem ext_ok : ExtOk Tryz.prog base0 De.ext := by
  intro f g hf args bs r bs' h
  unfold De.ext at hf
  split at hf
  · rename_i hf'
    cases hf
    subst hf'
    exact sort_ok (α := De.aa) (pd := De.aa.pd) (cmp := De.bz) (g := 73) (e := 52) (k := 9) Tryz.laysSort72 rfl rfl enters72 enters73 (enters_of Tryz.func73 (by kernel_rfl) rfl) Tryz.isAgg52 Tryz.sizeOf52 (by kernel_rfl) (fun _ => rfl) (fun _ => ⟨_, rfl⟩) (fun _ => rfl)
      (fun x y c hc => (De.yl hc).callOk (ext_none _ _) mixed) (sort_nil72 _) args bs r bs' h
  split at hf
  · rename_i hf'
    cases hf
    subst hf'
    exact sort_ok (α := De.ag) (pd := De.ag.pd) (cmp := De.co) (g := 89) (e := 50) (k := 4) Tryz.laysSort88 rfl rfl enters88 enters89 (enters_of Tryz.func89 (by kernel_rfl) rfl) Tryz.isAgg50 Tryz.sizeOf50 (by kernel_rfl) (fun _ => rfl) (fun _ => ⟨_, rfl⟩) (fun _ => rfl)
      (fun x y c hc => (De.tN hc).callOk (ext_none _ _) mixed) (sort_nil88 _) args bs r bs' h
  split at hf
  · rename_i hf'
    cases hf
    subst hf'
    exact sort_ok (α := De.aj) (pd := De.aj.pd) (cmp := De.ch) (g := 96) (e := 76) (k := 2) Tryz.laysSort95 rfl rfl enters95 enters96 (enters_of Tryz.func96 (by kernel_rfl) rfl) Tryz.isAgg76 Tryz.sizeOf76 (by kernel_rfl) (fun _ => rfl) (fun _ => ⟨_, rfl⟩) (fun _ => rfl)
      (fun x y c hc => (De.xj hc).callOk (ext_none _ _) mixed) (sort_nil95 _) args bs r bs' h
  split at hf
  · rename_i hf'
    cases hf
    subst hf'
    obtain ⟨i0, z, g0, g1, g2, g3, g4⟩ := info52
    exact clone_ok Tryz.laysClone123 (fun h => h) rfl rfl enters123 g0 g1 g2 g3 g4 (by omega) (by omega) Tryz.sizeOf52 args bs r bs' h
  split at hf
  · rename_i hf'
    cases hf
    subst hf'
    obtain ⟨i0, z, g0, g1, g2, g3, g4⟩ := info50
    exact clone_ok Tryz.laysClone87 (fun h => h) rfl rfl enters87 g0 g1 g2 g3 g4 (by omega) (by omega) Tryz.sizeOf50 args bs r bs' h
  split at hf
  · rename_i hf'
    cases hf
    subst hf'
    obtain ⟨i0, z, g0, g1, g2, g3, g4⟩ := info76
    exact clone_ok Tryz.laysClone92 (fun h => h) rfl rfl enters92 g0 g1 g2 g3 g4 (by omega) (by omega) Tryz.sizeOf76 args bs r bs' h
  split at hf
  · rename_i hf'
    cases hf
    subst hf'
    obtain ⟨i0, z, g0, g1, g2, g3, g4⟩ := info96
    exact clone_ok Tryz.laysClone139 (fun h => h) rfl rfl enters139 g0 g1 g2 g3 g4 (by omega) (by omega) Tryz.sizeOf96 args bs r bs' h
  split at hf
  · rename_i hf'
    cases hf
    subst hf'
    obtain ⟨i0, z, g0, g1, g2, g3, g4⟩ := info137
    exact clone_ok Tryz.laysClone181 (fun h => h) rfl rfl enters181 g0 g1 g2 g3 g4 (by omega) (by omega) Tryz.sizeOf137 args bs r bs' h
  split at hf
  · rename_i hf'
    cases hf
    subst hf'
    obtain ⟨i0, z, g0, g1, g2, g3, g4⟩ := info3
    exact clone_ok Tryz.laysClone182 (fun h => h) rfl rfl enters182 g0 g1 g2 g3 g4 (by omega) (by omega) Tryz.sizeOf3 args bs r bs' h
  cases hf

/-- A list of numbers, as data. -/
theorem ints_of {ps : List PD} (h : ShAll Tryz.prog 3 [22] ps) : ∃ l : List Int, ps = [.lst (l.map (.int .i64))] := by
  match ps, h with
  | [p], ⟨h, _⟩ =>
    obtain ⟨l, rfl, _⟩ := ShV.ints Tryz.underlying22 Tryz.underlying3 h
    exact ⟨l, rfl⟩

theorem contract (H : Type) (enc : TypeId × Value → H) (W : World) (base : Nat) (args : Array Value) (ds gs : List (DataW H)) (before : List MemPlace)
    (hval : ∀ (j : Nat) t v, Tryz.f7.params[j]? = some t → args[j]? = some v → Value.okWide Tryz.prog W .any base t v)
    (hW : DataW.Whole enc Tryz.prog Tryz.f7.params.toList Rows.dependencyCoarseSpec.vars false W args.toList ds gs before) :
    Calls Tryz.prog 7 args W fun e W' => ∃ v, e = .returned v ∧ Rows.dependencyCoarseSpec.post enc Tryz.prog Tryz.f7 false true false false W args v W' := by
  refine law_calls (base := base0) (d := 3) (tb := 4) entersLaw hval hW (by kernel_rfl) rfl (fun ds h => ?_) (by kernel_rfl) Tryz.underlying4 (fun a v h => by cases h) (fun x hx => by cases hx) (fun pds h => ?_)
  · have h1 : Tryz.f7.params.size = 1 := by kernel_rfl
    rw [h1] at h
    obtain ⟨d, rfl⟩ := List.length_eq_one_iff.1 h
    rfl
  · obtain ⟨l, rfl⟩ := ints_of (show ShAll Tryz.prog 3 [22] pds from h)
    exact (De.tZ (De.wJ l)).callOk ext_ok mixed

/-- The witness's argument. -/
def wit : Array Value := #[.slice none 0 0]
/-- A world for the witness. -/
noncomputable def laidWorld (os : Os) : World := World.laidAll Tryz.prog os Rows.dependencyCoarseRow.laid
theorem laid_met (os : Os) : laidMet Tryz.prog Rows.dependencyCoarseRow.laid ((laidWorld os).forCall (fun _ _ => 0) ⟨#[], wit, []⟩).memory :=
  laidMet_laidAll _ (by kernel_rfl) (by kernel_rfl)
theorem reads (os : Os) {H : Type} (enc : TypeId × Value → H) : ∃ places, DataW.whole enc Tryz.prog ((laidWorld os).forCall (fun _ _ => 0) ⟨#[], wit, []⟩).memory Tryz.f7.params.toList Rows.dependencyCoarseSpec.vars false wit.toList 8 = some ([.nil], [], places) :=
  ⟨[], by kernel_rfl⟩

theorem lifted (os : Os) (started : os.Started) (H : Type) (enc : TypeId × Value → H) (F : Stop.Interp) :
    ReturnsInHanded {} Tryz.checked os 7 .any ((OpenSpec.ofChange Rows.dependencyCoarseSpec).preRow enc Tryz.prog Tryz.f7 Rows.dependencyCoarseRow.domain false Rows.dependencyCoarseRow.laid) (((OpenSpec.ofChange Rows.dependencyCoarseSpec).at F).post enc Tryz.prog Tryz.f7 false true false false) := by
  obtain ⟨places, hx⟩ := reads os enc
  refine returnsInHanded_of_row (C := Tryz.checked) (s := OpenSpec.ofChange Rows.dependencyCoarseSpec) own started (by kernel_rfl) Tryz.func7
    (witness_row_at (enc := enc) (C := Tryz.checked) false (laidWorld os) wit (World.laidAll_os _ _ _) (by kernel_rfl) (by kernel_rfl) (by kernel_rfl)
      (OpenSpec.preRow_of_cond 8 hx (by kernel_rfl) (fun k hk => by cases hk) (by kernel_rfl) (laid_met os))) ?_
  intro W base args ds gs before hval hW _ _ _ hL hS _
  exact contract H enc W base args ds gs before hval hW

theorem said : Rows.DependencyCoarseSaid :=
  OpenClaim.holds_of_cond 7 Tryz.f7 rfl rfl rfl rfl rfl rfl rfl ⟨rfl, rfl, rfl, rfl, rfl⟩ rfl rfl rfl rfl rfl (by kernel_rfl) Tryz.func7 (by kernel_rfl)
    (of_decide_eq_true (by kernel_rfl)) (by unfold Func.isWrapper; first | (rw [if_pos (by decide +kernel)]; kernel_rfl) | (rw [if_neg (by decide +kernel)]; exact ⟨rfl, rfl⟩))
    (fun os started H enc _ F => by rw [OpenClaim.pre_eq_preRow]; exact lifted os started H enc F)
end YtkcfodpngpmlcaaGreat
end Go.Proofs
