/- SourceOrder holds: for every list of numbers the law returns true, and the list reads as it did. Its conditions: the row's own (the listed tables of unicode/utf8 are as the program's text lays them). -/
import Derived.Test.YtjlbpchimjjcpaaDoorSoEv
import Derived.Test.YtjlbpchimjjcpaaDoorSoLaw
import Derived.Test.YtjlbpchimjjcpaaDoorDwArg
import Derived.Test.YtjlbpchimjjcpaaDoorDwSort
import Derived.Test.YtjlbpchimjjcpaaDoorShelfC
import Derived.Test.YtjlbpchimjjcpaaDoorCards
import Derived.Test.YtjlbpchimjjcpaaDoorTie
import Derived.WalkKit
import Derived.ProofKit
import Derived.OpenShut
import Derived.Deep.DeepHandedRow
import Derived.Lib.LaidTab
namespace Go.Proofs
namespace YtjlbpchimjjcpaaDoor
open Go.ChangeShapes Go.WideShapes Go.ChangeAt Go.RowKit Go.Dw
set_option maxRecDepth 100000

theorem own : ownKnob Tryd.prog.godebug = none := by kernel_rfl
theorem mixed : Tryd.prog.follows .mixedOrders = true := by kernel_rfl
theorem enters34 : Dw.Enters Tryd.prog 34 := ⟨Tryd.f34, Tryd.func34, by decide +kernel, by kernel_rfl⟩
theorem enters38 : Dw.Enters Tryd.prog 38 := ⟨Tryd.f38, Tryd.func38, by decide +kernel, by kernel_rfl⟩
theorem enters16 : Dw.Enters Tryd.prog 16 := ⟨Tryd.f16, Tryd.func16, by decide +kernel, by kernel_rfl⟩
theorem entersLaw : Dw.Enters Tryd.prog 5 := ⟨Tryd.f5, Tryd.func5, by decide +kernel, by kernel_rfl⟩

def baseOf (m : Int) : Base := ⟨fun a => if a = ⟨0, 0, none⟩ then some (.int .i64 m) else none, False⟩
theorem sort_nil (base : Base) : CallOk Tryd.prog base 38 [.ref 0 0, .d (.raw (.func (.func 16) #[] #[]))] [.arr 0 28 []] (.tup []) [.arr 0 28 []] :=
  evFun_sound (H := { at_ := fun _ _ => [], mt := fun _ _ => false, by_ := fun _ i => i == 0, own := fun _ _ => false }) (ext_none _ _) mixed 60 _ _ _ _ _ (by kernel_rfl)
theorem ext_ok (m : Int) : ExtOk Tryd.prog (baseOf m) So.ext := by
  intro f g hf args bs r bs' h
  unfold So.ext at hf
  split at hf
  · rename_i hf'
    cases hf
    subst hf'
    exact split_ok Tryd.laysM146 (m := m) rfl enters34 args bs r bs' h
  · split at hf
    · rename_i hf'
      cases hf
      subst hf'
      exact sort_ok (α := So.Src) (pd := So.T_api_SourceID.pd) (cmp := So.source_Compare) (g := 16) (e := 28) (k := 4) Tryd.laysSort rfl rfl enters38 enters16 (enters_of Tryd.func16 (by kernel_rfl) rfl) Tryd.isAgg28 Tryd.sizeOf28 (by kernel_rfl) (fun _ => rfl) (fun _ => ⟨_, rfl⟩) (fun _ => rfl)
        (fun x y c hc => (So.source_Compare_ev0 hc).callOk (ext_none _ _) mixed) (sort_nil _) args bs r bs' h
    · cases hf

/-- A list of numbers, as data. -/
theorem ints_of {ps : List PD} (h : ShAll Tryd.prog 3 [22] ps) : ∃ l : List Int, ps = [.lst (l.map (.int .i64))] := by
  match ps, h with
  | [p], ⟨h, _⟩ =>
    obtain ⟨l, rfl, _⟩ := ShV.ints Tryd.underlying22 Tryd.underlying3 h
    exact ⟨l, rfl⟩

theorem contract (H : Type) (enc : TypeId × Value → H) (W : World) (base : Nat) (args : Array Value) (ds gs : List (DataW H)) (before : List MemPlace)
    (hval : ∀ (j : Nat) t v, Tryd.f5.params[j]? = some t → args[j]? = some v → Value.okWide Tryd.prog W .any base t v)
    (hW : DataW.Whole enc Tryd.prog Tryd.f5.params.toList Rows.sourceOrderSpec.vars false W args.toList ds gs before) (hS : W.ShapedOpen Tryd.prog) :
    Calls Tryd.prog 5 args W fun e W' => ∃ v, e = .returned v ∧ Rows.sourceOrderSpec.post enc Tryd.prog Tryd.f5 false true false false W args v W' := by
  obtain ⟨m, hm⟩ := Tryd.laysM146.s1_3 W hS
  refine law_calls (base := baseOf m) (d := 3) (tb := 4) entersLaw hval hW (by kernel_rfl) rfl (fun ds h => ?_) (by kernel_rfl) Tryd.underlying4 (fun a v h => ?_) (fun pds h => ?_)
  · have h1 : Tryd.f5.params.size = 1 := by kernel_rfl
    rw [h1] at h
    obtain ⟨d, rfl⟩ := List.length_eq_one_iff.1 h
    rfl
  · simp only [baseOf] at h
    split at h
    · rename_i ha; cases h; subst ha; exact ⟨hm, rfl⟩
    · cases h
  · obtain ⟨l, rfl⟩ := ints_of (show ShAll Tryd.prog 3 [22] pds from h)
    exact (So.law03_SourceOrder_ev (So.SourceOrder_law l)).callOk (ext_ok m) mixed

/-- A WORLD FOR THE WITNESS: the settled one, the listed tables holding what the text lays. -/
def litCells : List (DataW Unit) → List Value
  | [] => []
  | .lit (.int k n) :: r => .int k n :: litCells r
  | .agg [.lit (.int k n), .lit (.int k' n')] :: r => .int k n :: .int k' n' :: litCells r
  | _ :: r => litCells r
def cellsOfAgg : DataW Unit → Array Value
  | .agg l => (litCells l).toArray
  | _ => #[]
noncomputable def layAt (g : Nat) (d : DataW Unit) (w : World) : World :=
  { w with heap := w.heap.modify g fun
      | .cells _ t frozen => .cells (cellsOfAgg d) t frozen
      | o => o }
noncomputable def laidWorld (os : Os) : World := layAt 1 Rows.laid_unicode_utf8_first (layAt 2 Rows.laid_unicode_utf8_acceptRanges (World.holding Tryd.prog os ⟨#[], #[], []⟩))
theorem laid_met (os : Os) : laidMet Tryd.prog Rows.sourceOrderRow.laid ((laidWorld os).forCall (fun _ _ => 0) ⟨#[], #[.slice none 0 0], []⟩).memory :=
  laidMet_of_run' 8 (by kernel_rfl) (by kernel_rfl)
theorem reads (os : Os) {H : Type} (enc : TypeId × Value → H) : ∃ places, DataW.whole enc Tryd.prog ((laidWorld os).forCall (fun _ _ => 0) ⟨#[], #[.slice none 0 0], []⟩).memory Tryd.f5.params.toList Rows.sourceOrderSpec.vars false #[Value.slice none 0 0].toList 8 = some ([.nil], [], places) :=
  ⟨[], by kernel_rfl⟩

theorem lifted (os : Os) (started : os.Started) (H : Type) (enc : TypeId × Value → H) (F : Stop.Interp) :
    ReturnsInHanded {} Tryd.checked os 5 .any ((OpenSpec.ofChange Rows.sourceOrderSpec).preRow enc Tryd.prog Tryd.f5 Rows.sourceOrderRow.domain false Rows.sourceOrderRow.laid) (((OpenSpec.ofChange Rows.sourceOrderSpec).at F).post enc Tryd.prog Tryd.f5 false true false false) := by
  obtain ⟨places, hx⟩ := reads os enc
  refine returnsInHanded_of_row (C := Tryd.checked) (s := OpenSpec.ofChange Rows.sourceOrderSpec) own started (by kernel_rfl) Tryd.func5
    (witness_row_at (enc := enc) (C := Tryd.checked) false (laidWorld os) #[.slice none 0 0] rfl (by kernel_rfl) (by kernel_rfl) (by kernel_rfl)
      (OpenSpec.preRow_of_cond 8 hx (by kernel_rfl) (fun k hk => by cases hk) (by kernel_rfl) (laid_met os))) ?_
  intro W base args ds gs before hval hW _ _ _ hL hS _
  exact contract H enc W base args ds gs before hval hW hS

theorem said : Rows.SourceOrderSaid :=
  OpenClaim.holds_of_cond 5 Tryd.f5 rfl rfl rfl rfl rfl rfl rfl ⟨rfl, rfl, rfl, rfl, rfl⟩ rfl rfl rfl rfl rfl (by kernel_rfl) Tryd.func5 (by kernel_rfl)
    (of_decide_eq_true (by kernel_rfl)) (by unfold Func.isWrapper; first | (rw [if_pos (by decide +kernel)]; kernel_rfl) | (rw [if_neg (by decide +kernel)]; exact ⟨rfl, rfl⟩))
    (fun os started H enc _ F => by rw [OpenClaim.pre_eq_preRow]; exact lifted os started H enc F)

theorem plain (f : FuncId) (fn : Func) (hf : Tryd.pinned.checked.prog.funcNamed "seismonet/seismonetlaw03.SourceOrder" = some f) (hfn : Tryd.pinned.checked.prog.funcs[f]? = some fn) :
    false = Tryd.pinned.checked.prog.looks [] ∧ ∀ (j : Nat) t, fn.params[j]? = some t → Tryd.pinned.checked.prog.wantsStandIn t = false := by
  obtain rfl : f = 5 := Option.some.inj ((show Tryd.prog.funcNamed "seismonet/seismonetlaw03.SourceOrder" = some 5 by kernel_rfl).symm.trans hf) |>.symm
  obtain rfl : fn = Tryd.f5 := (Option.some.inj (Tryd.func5.symm.trans hfn)).symm
  refine ⟨by kernel_rfl, fun j t ht => ?_⟩
  rw [Tryd.params5] at ht
  obtain rfl : t = 22 := by simpa using Array.mem_of_getElem? ht
  exact (show Tryd.prog.wantsStandIn 22 = false by kernel_rfl)

theorem card : Rows.SourceOrderCardSaid :=
  Claim7.holds_tied_plain_at .later [] _ _ _ _ said (fun _ h => by cases h) (by kernel_rfl) (fun _ h => by cases h) sourceOrder_row_tie rfl ⟨rfl, rfl⟩ (by kernel_rfl) rfl plain (by kernel_rfl)
end YtjlbpchimjjcpaaDoor
end Go.Proofs
