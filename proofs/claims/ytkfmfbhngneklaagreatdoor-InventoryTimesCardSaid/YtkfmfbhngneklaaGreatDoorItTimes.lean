/- InventoryTimes holds: for all inputs the law returns true, and the input reads as it did. Its conditions: the row's own (the listed tables of unicode/utf8 are as the program's text lays them). -/
import Derived.Test.YtkfmfbhngneklaaGreatDoorItEv
import Derived.Test.YtkfmfbhngneklaaGreatDoorItLaw
import Derived.Test.YtkfmfbhngneklaaGreatDoorDwArg
import Derived.Test.YtkfmfbhngneklaaGreatDoorDwSort
import Derived.Test.YtkfmfbhngneklaaGreatDoorDwClone
import Derived.Test.YtkfmfbhngneklaaGreatDoorShelfI
import Derived.Test.YtkfmfbhngneklaaGreatDoorCards
import Derived.Test.YtkfmfbhngneklaaGreatDoorTie
import Derived.WalkKit
import Derived.ProofKit
import Derived.OpenShut
import Derived.Deep.DeepHandedRow
import Derived.Lib.LaidTab
namespace Go.Proofs
namespace YtkfmfbhngneklaaGreatDoor
open Go.ChangeShapes Go.WideShapes Go.ChangeAt Go.RowKit Go.Dw
set_option maxRecDepth 100000

theorem own : ownKnob Tryz.prog.godebug = none := by kernel_rfl
theorem mixed : Tryz.prog.follows .mixedOrders = true := by kernel_rfl
theorem enters104 : Dw.Enters Tryz.prog 104 := ⟨Tryz.f104, Tryz.func104, by decide +kernel, by kernel_rfl⟩
theorem enters70 : Dw.Enters Tryz.prog 70 := ⟨Tryz.f70, Tryz.func70, by decide +kernel, by kernel_rfl⟩
theorem enters71 : Dw.Enters Tryz.prog 71 := ⟨Tryz.f71, Tryz.func71, by decide +kernel, by kernel_rfl⟩
theorem enters83 : Dw.Enters Tryz.prog 83 := ⟨Tryz.f83, Tryz.func83, by decide +kernel, by kernel_rfl⟩
theorem enters109 : Dw.Enters Tryz.prog 109 := ⟨Tryz.f109, Tryz.func109, by decide +kernel, by kernel_rfl⟩
theorem enters110 : Dw.Enters Tryz.prog 110 := ⟨Tryz.f110, Tryz.func110, by decide +kernel, by kernel_rfl⟩
theorem enters67 : Dw.Enters Tryz.prog 67 := ⟨Tryz.f67, Tryz.func67, by decide +kernel, by kernel_rfl⟩
theorem entersLaw : Dw.Enters Tryz.prog 3 := ⟨Tryz.f3, Tryz.func3, by decide +kernel, by kernel_rfl⟩

def baseOf (m : Int) : Base := ⟨fun a => if a = ⟨0, 0, none⟩ then some (.int .i64 m) else none, False⟩
theorem sort_nil (base : Base) : CallOk Tryz.prog base 70 [.ref 0 0, .d (.raw (.func (.func 71) #[] #[]))] [.arr 0 73 []] (.tup []) [.arr 0 73 []] :=
  evFun_sound (H := { at_ := fun _ _ => [], mt := fun _ _ => false, by_ := fun _ i => i == 0, own := fun _ _ => false }) (ext_none _ _) mixed 60 _ _ _ _ _ (by kernel_rfl)
theorem info46 : ∃ i0 z, Tryz.prog.info? 46 = some i0 ∧ i0.zero = some z ∧ i0.size = 8 ∧ i0.bytes = 80 ∧ z.cells.size = 8 :=
  ⟨(Tryz.prog.info? 46).get (by kernel_rfl), ((Tryz.prog.info? 46).get (by kernel_rfl)).zero.getD (.bool false), (Option.some_get _).symm, by kernel_rfl, by kernel_rfl, by kernel_rfl, by kernel_rfl⟩
theorem info92 : ∃ i0 z, Tryz.prog.info? 92 = some i0 ∧ i0.zero = some z ∧ i0.size = 10 ∧ i0.bytes = 96 ∧ z.cells.size = 10 :=
  ⟨(Tryz.prog.info? 92).get (by kernel_rfl), ((Tryz.prog.info? 92).get (by kernel_rfl)).zero.getD (.bool false), (Option.some_get _).symm, by kernel_rfl, by kernel_rfl, by kernel_rfl, by kernel_rfl⟩
theorem info3 : ∃ i0 z, Tryz.prog.info? 3 = some i0 ∧ i0.zero = some z ∧ i0.size = 1 ∧ i0.bytes = 8 ∧ z.cells.size = 1 :=
  ⟨(Tryz.prog.info? 3).get (by kernel_rfl), ((Tryz.prog.info? 3).get (by kernel_rfl)).zero.getD (.bool false), (Option.some_get _).symm, by kernel_rfl, by kernel_rfl, by kernel_rfl, by kernel_rfl⟩
theorem info73 : ∃ i0 z, Tryz.prog.info? 73 = some i0 ∧ i0.zero = some z ∧ i0.size = 2 ∧ i0.bytes = 16 ∧ z.cells.size = 2 :=
  ⟨(Tryz.prog.info? 73).get (by kernel_rfl), ((Tryz.prog.info? 73).get (by kernel_rfl)).zero.getD (.bool false), (Option.some_get _).symm, by kernel_rfl, by kernel_rfl, by kernel_rfl, by kernel_rfl⟩
theorem ext_ok (m : Int) : ExtOk Tryz.prog (baseOf m) It.ext := by
  intro f g hf args bs r bs' h
  unfold It.ext at hf
  split at hf
  · rename_i hf'
    cases hf
    subst hf'
    exact split_ok Tryz.laysM146 (m := m) rfl enters104 args bs r bs' h
  split at hf
  · rename_i hf'
    cases hf
    subst hf'
    exact sort_ok (α := It.Span) (pd := It.T_api_Span.pd) (cmp := It.span_Normal_lit2) (g := 71) (e := 73) (k := 2) Tryz.laysSort rfl rfl enters70 enters71 (enters_of Tryz.func71 (by kernel_rfl) rfl) Tryz.isAgg73 Tryz.sizeOf73 (by kernel_rfl) (fun _ => rfl) (fun _ => ⟨_, rfl⟩) (fun _ => rfl)
      (fun x y c hc => (It.span_Normal_lit2_ev0 hc).callOk (ext_none _ _) mixed) (sort_nil _) args bs r bs' h
  split at hf
  · rename_i hf'
    cases hf
    subst hf'
    obtain ⟨i0, z, g0, g1, g2, g3, g4⟩ := info46
    exact clone_ok Tryz.laysClone83 (fun h => h) rfl rfl enters83 g0 g1 g2 g3 g4 (by omega) (by omega) Tryz.sizeOf46 args bs r bs' h
  split at hf
  · rename_i hf'
    cases hf
    subst hf'
    obtain ⟨i0, z, g0, g1, g2, g3, g4⟩ := info92
    exact clone_ok Tryz.laysClone109 (fun h => h) rfl rfl enters109 g0 g1 g2 g3 g4 (by omega) (by omega) Tryz.sizeOf92 args bs r bs' h
  split at hf
  · rename_i hf'
    cases hf
    subst hf'
    obtain ⟨i0, z, g0, g1, g2, g3, g4⟩ := info3
    exact clone_ok Tryz.laysClone110 (fun h => h) rfl rfl enters110 g0 g1 g2 g3 g4 (by omega) (by omega) Tryz.sizeOf3 args bs r bs' h
  split at hf
  · rename_i hf'
    cases hf
    subst hf'
    obtain ⟨i0, z, g0, g1, g2, g3, g4⟩ := info73
    exact clone_ok Tryz.laysClone67 (fun h => h) rfl rfl enters67 g0 g1 g2 g3 g4 (by omega) (by omega) Tryz.sizeOf73 args bs r bs' h
  cases hf

/-- The two arguments, as data. -/
theorem args_of {ps : List PD} (h : ShAll Tryz.prog 2 [22, 23] ps) : ∃ (l : List Int) (n : Int), ps = [.lst (l.map (.int .i64)), .int .u16 n] := by
  match ps, h with
  | [p1, p2], ⟨h1, h2, _⟩ =>
    obtain ⟨l, rfl, _⟩ := ShV.ints Tryz.underlying22 Tryz.underlying3 h1
    obtain ⟨n, rfl, _⟩ := ShV.int Tryz.underlying23 h2
    exact ⟨l, n, rfl⟩

theorem contract (H : Type) (enc : TypeId × Value → H) (W : World) (base : Nat) (args : Array Value) (ds gs : List (DataW H)) (before : List MemPlace)
    (hval : ∀ (j : Nat) t v, Tryz.f3.params[j]? = some t → args[j]? = some v → Value.okWide Tryz.prog W .any base t v)
    (hW : DataW.Whole enc Tryz.prog Tryz.f3.params.toList Rows.inventoryTimesSpec.vars false W args.toList ds gs before) (hS : W.ShapedOpen Tryz.prog) :
    Calls Tryz.prog 3 args W fun e W' => ∃ v, e = .returned v ∧ Rows.inventoryTimesSpec.post enc Tryz.prog Tryz.f3 false true false false W args v W' := by
  obtain ⟨m, hm⟩ := Tryz.laysM146.s1_3 W hS
  refine law_calls (base := baseOf m) (d := 2) (tb := 4) entersLaw hval hW (by kernel_rfl) rfl (fun ds h => ?_) (by kernel_rfl) Tryz.underlying4 (fun a v h => ?_) (fun pds h => ?_)
  · have h1 : Tryz.f3.params.size = 2 := by kernel_rfl
    rw [h1] at h
    match ds, h with
    | [d1, d2], _ => rfl
  · simp only [baseOf] at h
    split at h
    · rename_i ha; cases h; subst ha; exact ⟨hm, rfl⟩
    · cases h
  · obtain ⟨l, n, rfl⟩ := args_of (show ShAll Tryz.prog 2 [22, 23] pds from h)
    exact (It.law19_InventoryTimes_ev (It.law_InventoryTimes l n)).callOk (ext_ok m) mixed

/-- The witness's arguments. -/
def wit : Array Value := #[.slice none 0 0, .int .u16 0]
/-- A WORLD FOR THE WITNESS: the settled one, the listed tables holding what the text lays. -/
def litCells : List (DataW Unit) → List Value
  | [] => []
  | .lit (.int k n) :: r => .int k n :: litCells r
  | .agg [.lit (.int k n), .lit (.int k' n')] :: r => .int k n :: .int k' n' :: litCells r
  | _ :: r => litCells r
def cellsOfAgg : DataW Unit → Array Value
  | .agg l => (litCells l).toArray
  | _ => #[]
noncomputable def layAt (g : Nat) (d : DataW Unit) (w : World) : World :=
  { w with heap := w.heap.modify g fun
      | .cells _ t frozen => .cells (cellsOfAgg d) t frozen
      | o => o }
noncomputable def laidWorld (os : Os) : World := layAt 1 Rows.laid_unicode_utf8_first (layAt 2 Rows.laid_unicode_utf8_acceptRanges (World.holding Tryz.prog os ⟨#[], #[], []⟩))
theorem laid_met (os : Os) : laidMet Tryz.prog Rows.inventoryTimesRow.laid ((laidWorld os).forCall (fun _ _ => 0) ⟨#[], wit, []⟩).memory :=
  laidMet_of_run' 8 (by kernel_rfl) (by kernel_rfl)
theorem reads (os : Os) {H : Type} (enc : TypeId × Value → H) : ∃ places, DataW.whole enc Tryz.prog ((laidWorld os).forCall (fun _ _ => 0) ⟨#[], wit, []⟩).memory Tryz.f3.params.toList Rows.inventoryTimesSpec.vars false wit.toList 8 = some ([.nil, .lit (.int .u16 0)], [], places) :=
  ⟨[], by kernel_rfl⟩

theorem lifted (os : Os) (started : os.Started) (H : Type) (enc : TypeId × Value → H) (F : Stop.Interp) :
    ReturnsInHanded {} Tryz.checked os 3 .any ((OpenSpec.ofChange Rows.inventoryTimesSpec).preRow enc Tryz.prog Tryz.f3 Rows.inventoryTimesRow.domain false Rows.inventoryTimesRow.laid) (((OpenSpec.ofChange Rows.inventoryTimesSpec).at F).post enc Tryz.prog Tryz.f3 false true false false) := by
  obtain ⟨places, hx⟩ := reads os enc
  refine returnsInHanded_of_row (C := Tryz.checked) (s := OpenSpec.ofChange Rows.inventoryTimesSpec) own started (by kernel_rfl) Tryz.func3
    (witness_row_at (enc := enc) (C := Tryz.checked) false (laidWorld os) wit rfl (by kernel_rfl) (by kernel_rfl) (by kernel_rfl)
      (OpenSpec.preRow_of_cond 8 hx (by kernel_rfl) (fun k hk => by cases hk) (by kernel_rfl) (laid_met os))) ?_
  intro W base args ds gs before hval hW _ _ _ hL hS _
  exact contract H enc W base args ds gs before hval hW hS

theorem said : Rows.InventoryTimesSaid :=
  OpenClaim.holds_of_cond 3 Tryz.f3 rfl rfl rfl rfl rfl rfl rfl ⟨rfl, rfl, rfl, rfl, rfl⟩ rfl rfl rfl rfl rfl (by kernel_rfl) Tryz.func3 (by kernel_rfl)
    (of_decide_eq_true (by kernel_rfl)) (by unfold Func.isWrapper; first | (rw [if_pos (by decide +kernel)]; kernel_rfl) | (rw [if_neg (by decide +kernel)]; exact ⟨rfl, rfl⟩))
    (fun os started H enc _ F => by rw [OpenClaim.pre_eq_preRow]; exact lifted os started H enc F)

theorem plain (f : FuncId) (fn : Func) (hf : Tryz.pinned.checked.prog.funcNamed "seismonet/seismonetlaw19.InventoryTimes" = some f) (hfn : Tryz.pinned.checked.prog.funcs[f]? = some fn) :
    false = Tryz.pinned.checked.prog.looks [] ∧ ∀ (j : Nat) t, fn.params[j]? = some t → Tryz.pinned.checked.prog.wantsStandIn t = false := by
  obtain rfl : f = 3 := Option.some.inj ((show Tryz.prog.funcNamed "seismonet/seismonetlaw19.InventoryTimes" = some 3 by kernel_rfl).symm.trans hf) |>.symm
  obtain rfl : fn = Tryz.f3 := (Option.some.inj (Tryz.func3.symm.trans hfn)).symm
  refine ⟨by kernel_rfl, fun j t ht => ?_⟩
  rw [Tryz.params3] at ht
  have ht := Array.mem_of_getElem? ht
  simp only [List.mem_toArray, List.mem_cons, List.not_mem_nil, or_false] at ht
  rcases ht with rfl | rfl
  · exact (show Tryz.prog.wantsStandIn 22 = false by kernel_rfl)
  · exact (show Tryz.prog.wantsStandIn 23 = false by kernel_rfl)

theorem card : Rows.InventoryTimesCardSaid :=
  Claim7.holds_tied_plain_at .later [] _ _ _ _ said (fun _ h => by cases h) (by kernel_rfl) (fun _ h => by cases h) inventoryTimes_row_tie rfl ⟨rfl, rfl⟩ (by kernel_rfl) rfl plain (by kernel_rfl)
end YtkfmfbhngneklaaGreatDoor
end Go.Proofs
