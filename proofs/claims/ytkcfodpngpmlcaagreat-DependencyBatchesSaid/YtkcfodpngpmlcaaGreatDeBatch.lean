/- DependencyBatches holds: for every list of numbers the law returns true, and the list reads as it did. Its conditions: none but the row's own. -/
import Derived.Test.YtkcfodpngpmlcaaGreatDeEv
import Derived.Test.YtkcfodpngpmlcaaGreatDeLawX
import Derived.Test.YtkcfodpngpmlcaaGreatDeSh
import Derived.Test.YtkcfodpngpmlcaaGreatDwArg
import Derived.Test.YtkcfodpngpmlcaaGreatDwSort
import Derived.Test.YtkcfodpngpmlcaaGreatDwClone
import Derived.Test.YtkcfodpngpmlcaaGreatShelfE
import Derived.Test.YtkcfodpngpmlcaaGreatRows
import Derived.WalkKit
import Derived.ProofKit
import Derived.OpenShut
import Derived.Deep.DeepHandedRow
import Derived.Lay
import Derived.Lib.LaidTab














namespace Go.Proofs
namespace YtkcfodpngpmlcaaGreat
open Go.ChangeShapes Go.WideShapes Go.ChangeAt Go.RowKit Go.Dw
set_option maxRecDepth 100000

theorem own : ownKnob Tryz.prog.godebug = none := by kernel_rfl
theorem mixed : Tryz.prog.follows .mixedOrders = true := by kernel_rfl
theorem entersLaw : Dw.Enters Tryz.prog 4 := ⟨Tryz.f4, Tryz.func4, by decide +kernel, by kernel_rfl⟩
theorem enters72 : Dw.Enters Tryz.prog 72 := ⟨Tryz.f72, Tryz.func72, by decide +kernel, by kernel_rfl⟩
theorem enters73 : Dw.Enters Tryz.prog 73 := ⟨Tryz.f73, Tryz.func73, by decide +kernel, by kernel_rfl⟩
theorem sort_nil72 (base : oD) : jM Tryz.prog base 72 [.ref 0 0, .d (.raw (.func (.func 73) #[] #[]))] [.arr 0 52 []] (.tup []) [.arr 0 52 []] :=
  kG (H := { at_ := fun _ _ _ => [], mt := fun _ _ => false, by_ := fun _ i => i == 0, own := fun _ _ => false }) (ll _ _) mixed 60 _ _ _ _ _ (by kernel_rfl)
theorem enters88 : Dw.Enters Tryz.prog 88 := ⟨Tryz.f88, Tryz.func88, by decide +kernel, by kernel_rfl⟩
theorem enters89 : Dw.Enters Tryz.prog 89 := ⟨Tryz.f89, Tryz.func89, by decide +kernel, by kernel_rfl⟩
theorem sort_nil88 (base : oD) : jM Tryz.prog base 88 [.ref 0 0, .d (.raw (.func (.func 89) #[] #[]))] [.arr 0 50 []] (.tup []) [.arr 0 50 []] :=
  kG (H := { at_ := fun _ _ _ => [], mt := fun _ _ => false, by_ := fun _ i => i == 0, own := fun _ _ => false }) (ll _ _) mixed 60 _ _ _ _ _ (by kernel_rfl)
theorem enters95 : Dw.Enters Tryz.prog 95 := ⟨Tryz.f95, Tryz.func95, by decide +kernel, by kernel_rfl⟩
theorem enters96 : Dw.Enters Tryz.prog 96 := ⟨Tryz.f96, Tryz.func96, by decide +kernel, by kernel_rfl⟩
theorem sort_nil95 (base : oD) : jM Tryz.prog base 95 [.ref 0 0, .d (.raw (.func (.func 96) #[] #[]))] [.arr 0 76 []] (.tup []) [.arr 0 76 []] :=
  kG (H := { at_ := fun _ _ _ => [], mt := fun _ _ => false, by_ := fun _ i => i == 0, own := fun _ _ => false }) (ll _ _) mixed 60 _ _ _ _ _ (by kernel_rfl)
theorem enters123 : Dw.Enters Tryz.prog 123 := ⟨Tryz.f123, Tryz.func123, by decide +kernel, by kernel_rfl⟩
theorem info52 : ∃ i0 z, Tryz.prog.info? 52 = some i0 ∧ i0.zero = some z ∧ i0.size = 9 ∧ i0.bytes = 104 ∧ z.cells.size = 9 :=
  ⟨(Tryz.prog.info? 52).get (by kernel_rfl), ((Tryz.prog.info? 52).get (by kernel_rfl)).zero.getD (.bool false), (Option.some_get _).symm, by kernel_rfl, by kernel_rfl, by kernel_rfl, by kernel_rfl⟩
theorem enters87 : Dw.Enters Tryz.prog 87 := ⟨Tryz.f87, Tryz.func87, by decide +kernel, by kernel_rfl⟩
theorem info50 : ∃ i0 z, Tryz.prog.info? 50 = some i0 ∧ i0.zero = some z ∧ i0.size = 4 ∧ i0.bytes = 64 ∧ z.cells.size = 4 :=
  ⟨(Tryz.prog.info? 50).get (by kernel_rfl), ((Tryz.prog.info? 50).get (by kernel_rfl)).zero.getD (.bool false), (Option.some_get _).symm, by kernel_rfl, by kernel_rfl, by kernel_rfl, by kernel_rfl⟩
theorem enters92 : Dw.Enters Tryz.prog 92 := ⟨Tryz.f92, Tryz.func92, by decide +kernel, by kernel_rfl⟩
theorem info76 : ∃ i0 z, Tryz.prog.info? 76 = some i0 ∧ i0.zero = some z ∧ i0.size = 2 ∧ i0.bytes = 16 ∧ z.cells.size = 2 :=
  ⟨(Tryz.prog.info? 76).get (by kernel_rfl), ((Tryz.prog.info? 76).get (by kernel_rfl)).zero.getD (.bool false), (Option.some_get _).symm, by kernel_rfl, by kernel_rfl, by kernel_rfl, by kernel_rfl⟩
theorem enters139 : Dw.Enters Tryz.prog 139 := ⟨Tryz.f139, Tryz.func139, by decide +kernel, by kernel_rfl⟩
theorem info96 : ∃ i0 z, Tryz.prog.info? 96 = some i0 ∧ i0.zero = some z ∧ i0.size = 8 ∧ i0.bytes = 80 ∧ z.cells.size = 8 :=
  ⟨(Tryz.prog.info? 96).get (by kernel_rfl), ((Tryz.prog.info? 96).get (by kernel_rfl)).zero.getD (.bool false), (Option.some_get _).symm, by kernel_rfl, by kernel_rfl, by kernel_rfl, by kernel_rfl⟩
theorem enters181 : Dw.Enters Tryz.prog 181 := ⟨Tryz.f181, Tryz.func181, by decide +kernel, by kernel_rfl⟩
theorem info137 : ∃ i0 z, Tryz.prog.info? 137 = some i0 ∧ i0.zero = some z ∧ i0.size = 10 ∧ i0.bytes = 96 ∧ z.cells.size = 10 :=
  ⟨(Tryz.prog.info? 137).get (by kernel_rfl), ((Tryz.prog.info? 137).get (by kernel_rfl)).zero.getD (.bool false), (Option.some_get _).symm, by kernel_rfl, by kernel_rfl, by kernel_rfl, by kernel_rfl⟩
theorem enters182 : Dw.Enters Tryz.prog 182 := ⟨Tryz.f182, Tryz.func182, by decide +kernel, by kernel_rfl⟩
theorem info3 : ∃ i0 z, Tryz.prog.info? 3 = some i0 ∧ i0.zero = some z ∧ i0.size = 1 ∧ i0.bytes = 8 ∧ z.cells.size = 1 :=
  ⟨(Tryz.prog.info? 3).get (by kernel_rfl), ((Tryz.prog.info? 3).get (by kernel_rfl)).zero.getD (.bool false), (Option.some_get _).symm, by kernel_rfl, by kernel_rfl, by kernel_rfl, by kernel_rfl⟩

def base0 : oD := ⟨fun _ => none, False, []⟩
theorem ext_ok : ExtOk Tryz.prog base0 De.ext := by
  intro f g hf args bs r bs' h
  unfold De.ext at hf
  split at hf
  · rename_i hf'
    cases hf
    subst hf'
    exact u4 (α := De.aa) (pd := De.aa.pd) (cmp := De.bf) (g := 73) (e := 52) (k := 9) Tryz.laysSort72 rfl rfl enters72 enters73 (enters_of Tryz.func73 (by kernel_rfl) rfl) Tryz.isAgg52 Tryz.sizeOf52 (by kernel_rfl) (fun _ => rfl) (fun _ => ⟨_, rfl⟩) (fun _ => rfl)
      (fun x y c hc => (De.xA hc).uA (ll _ _) mixed) (sort_nil72 _) args bs r bs' h
  split at hf
  · rename_i hf'
    cases hf
    subst hf'
    exact u4 (α := De.ag) (pd := De.ag.pd) (cmp := De.bY) (g := 89) (e := 50) (k := 4) Tryz.laysSort88 rfl rfl enters88 enters89 (enters_of Tryz.func89 (by kernel_rfl) rfl) Tryz.isAgg50 Tryz.sizeOf50 (by kernel_rfl) (fun _ => rfl) (fun _ => ⟨_, rfl⟩) (fun _ => rfl)
      (fun x y c hc => (De.sw hc).uA (ll _ _) mixed) (sort_nil88 _) args bs r bs' h
  split at hf
  · rename_i hf'
    cases hf
    subst hf'
    exact u4 (α := De.aj) (pd := De.aj.pd) (cmp := De.bS) (g := 96) (e := 76) (k := 2) Tryz.laysSort95 rfl rfl enters95 enters96 (enters_of Tryz.func96 (by kernel_rfl) rfl) Tryz.isAgg76 Tryz.sizeOf76 (by kernel_rfl) (fun _ => rfl) (fun _ => ⟨_, rfl⟩) (fun _ => rfl)
      (fun x y c hc => (De.wC hc).uA (ll _ _) mixed) (sort_nil95 _) args bs r bs' h
  split at hf
  · rename_i hf'
    cases hf
    subst hf'
    obtain ⟨i0, z, g0, g1, g2, g3, g4⟩ := info52
    exact lf Tryz.laysClone123 (fun h => h) rfl rfl enters123 g0 g1 g2 g3 g4 om om Tryz.sizeOf52 args bs r bs' h
  split at hf
  · rename_i hf'
    cases hf
    subst hf'
    obtain ⟨i0, z, g0, g1, g2, g3, g4⟩ := info50
    exact lf Tryz.laysClone87 (fun h => h) rfl rfl enters87 g0 g1 g2 g3 g4 om om Tryz.sizeOf50 args bs r bs' h
  split at hf
  · rename_i hf'
    cases hf
    subst hf'
    obtain ⟨i0, z, g0, g1, g2, g3, g4⟩ := info76
    exact lf Tryz.laysClone92 (fun h => h) rfl rfl enters92 g0 g1 g2 g3 g4 om om Tryz.sizeOf76 args bs r bs' h
  split at hf
  · rename_i hf'
    cases hf
    subst hf'
    obtain ⟨i0, z, g0, g1, g2, g3, g4⟩ := info96
    exact lf Tryz.laysClone139 (fun h => h) rfl rfl enters139 g0 g1 g2 g3 g4 om om Tryz.sizeOf96 args bs r bs' h
  split at hf
  · rename_i hf'
    cases hf
    subst hf'
    obtain ⟨i0, z, g0, g1, g2, g3, g4⟩ := info137
    exact lf Tryz.laysClone181 (fun h => h) rfl rfl enters181 g0 g1 g2 g3 g4 om om Tryz.sizeOf137 args bs r bs' h
  split at hf
  · rename_i hf'
    cases hf
    subst hf'
    obtain ⟨i0, z, g0, g1, g2, g3, g4⟩ := info3
    exact lf Tryz.laysClone182 (fun h => h) rfl rfl enters182 g0 g1 g2 g3 g4 om om Tryz.sizeOf3 args bs r bs' h
  cases hf

theorem contract (H : Type) (enc : TypeId × Value → H) (W : World) (base : Nat) (args : Array Value) (ds gs : List (DataW H)) (before : List MemPlace)
    (hval : ∀ (j : Nat) t v, Tryz.f4.params[j]? = some t → args[j]? = some v → Value.okWide Tryz.prog W .any base t v)
    (hW : DataW.Whole enc Tryz.prog Tryz.f4.params.toList Rows.dependencyBatchesSpec.vars false W args.toList ds gs before) :
    Calls Tryz.prog 4 args W fun e W' => ∃ v, e = .returned v ∧ Rows.dependencyBatchesSpec.post enc Tryz.prog Tryz.f4 false true false false W args v W' := by
  refine yA (base := base0) (d := 10) (tb := 4) entersLaw hval hW (by kernel_rfl) rfl (fun ds h => ?_) (by kernel_rfl) Tryz.underlying4 (fun a v h => by cases h) (fun x hx => by cases hx) (fun pds h => ?_)
  · have h1 : Tryz.f4.params.size = 5 := by kernel_rfl
    rw [h1] at h
    match ds, h with
    | [d1, d2, d3, d4, d5], _ => rfl
  · obtain ⟨n, a, b, v, l, rfl, q1, q2, q3⟩ := De.args_of (show vd Tryz.prog 10 [3, 25, 25, 42, 22] pds from h)
    exact (De.se (De.holds_of n l q1 q2 q3)).uA ext_ok mixed

/-- The witness's argument. -/
def wit : Array Value := #[.int .i64 0, .slice none 0 0, .slice none 0 0, .agg #[.slice none 0 0], .slice none 0 0]
/-- A world for the witness. -/
noncomputable def laidWorld (os : Os) : World := World.laidAll Tryz.prog os Rows.dependencyBatchesRow.laid
theorem laid_met (os : Os) : laidMet Tryz.prog Rows.dependencyBatchesRow.laid ((laidWorld os).forCall (fun _ _ => 0) ⟨#[], wit, []⟩).memory :=
  laidMet_laidAll _ (by kernel_rfl) (by kernel_rfl)
theorem reads (os : Os) {H : Type} (enc : TypeId × Value → H) : ∃ places, DataW.whole enc Tryz.prog ((laidWorld os).forCall (fun _ _ => 0) ⟨#[], wit, []⟩).memory Tryz.f4.params.toList Rows.dependencyBatchesSpec.vars false wit.toList 8 = some ([.lit (.int .i64 0), .nil, .nil, .agg [.nil], .nil], [], places) :=
  ⟨[], by kernel_rfl⟩

theorem lifted (os : Os) (started : os.Started) (H : Type) (enc : TypeId × Value → H) (F : Stop.Interp) :
    ReturnsInHanded {} Tryz.checked os 4 .any ((OpenSpec.ofChange Rows.dependencyBatchesSpec).preRow enc Tryz.prog Tryz.f4 Rows.dependencyBatchesRow.domain false Rows.dependencyBatchesRow.laid) (((OpenSpec.ofChange Rows.dependencyBatchesSpec).at F).post enc Tryz.prog Tryz.f4 false true false false) := by
  obtain ⟨places, hx⟩ := reads os enc
  refine returnsInHanded_of_row (C := Tryz.checked) (s := OpenSpec.ofChange Rows.dependencyBatchesSpec) own started (by kernel_rfl) Tryz.func4
    (witness_row_at (enc := enc) (C := Tryz.checked) false (laidWorld os) wit (World.laidAll_os _ _ _) (by kernel_rfl) (by kernel_rfl) (by kernel_rfl)
      (OpenSpec.preRow_of_cond 8 hx (by kernel_rfl) (fun k hk => by cases hk) (by kernel_rfl) (laid_met os))) ?_
  intro W base args ds gs before hval hW _ _ _ hL hS _
  exact contract H enc W base args ds gs before hval hW

theorem said : Rows.DependencyBatchesSaid :=
  OpenClaim.holds_of_cond 4 Tryz.f4 rfl rfl rfl rfl rfl rfl rfl ⟨rfl, rfl, rfl, rfl, rfl⟩ rfl rfl rfl rfl rfl (by kernel_rfl) Tryz.func4 (by kernel_rfl)
    (of_decide_eq_true (by kernel_rfl)) (by unfold Func.isWrapper; first | (rw [if_pos (by decide +kernel)]; kernel_rfl) | (rw [if_neg (by decide +kernel)]; exact ⟨rfl, rfl⟩))
    (fun os started H enc _ F => by rw [OpenClaim.pre_eq_preRow]; exact lifted os started H enc F)
end YtkcfodpngpmlcaaGreat
end Go.Proofs
