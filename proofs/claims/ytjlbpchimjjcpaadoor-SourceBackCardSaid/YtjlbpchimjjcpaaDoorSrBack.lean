/- SourceBack holds: for every list of numbers the law returns true, and the list reads as it did. Its conditions: the row's own (the listed tables of unicode/utf8 are as the program's text lays them). -/
import Derived.Test.YtjlbpchimjjcpaaDoorSrEv
import Derived.Test.YtjlbpchimjjcpaaDoorSrLaw
import Derived.Test.YtjlbpchimjjcpaaDoorDwArg
import Derived.Test.YtjlbpchimjjcpaaDoorDwJoin
import Derived.Test.YtjlbpchimjjcpaaDoorShelfB
import Derived.Test.YtjlbpchimjjcpaaDoorCards
import Derived.Test.YtjlbpchimjjcpaaDoorTie
import Derived.WalkKit
import Derived.ProofKit
import Derived.OpenShut
import Derived.Deep.DeepHandedRow
import Derived.Lib.LaidTab
namespace Go.Proofs
namespace YtjlbpchimjjcpaaDoor
open Go.ChangeShapes Go.WideShapes Go.ChangeAt Go.RowKit Go.Dw
set_option maxRecDepth 100000

theorem own : ownKnob Tryd.prog.godebug = none := by kernel_rfl
theorem mixed : Tryd.prog.follows .mixedOrders = true := by kernel_rfl
theorem enters34 : Dw.Enters Tryd.prog 34 := ⟨Tryd.f34, Tryd.func34, by decide +kernel, by kernel_rfl⟩
theorem enters33 : Dw.Enters Tryd.prog 33 := ⟨Tryd.f33, Tryd.func33, by decide +kernel, by kernel_rfl⟩
theorem entersLaw : Dw.Enters Tryd.prog 4 := ⟨Tryd.f4, Tryd.func4, by decide +kernel, by kernel_rfl⟩

def baseOf (m : Int) : Snap := fun a => if a = ⟨0, 0, none⟩ then some (.int .i64 m) else none
theorem ext_ok (m : Int) : ExtOk Tryd.prog (baseOf m) Sr.ext := by
  intro f g hf args bs r bs' h
  unfold Sr.ext at hf
  split at hf
  · rename_i hf'
    cases hf
    subst hf'
    exact split_ok Tryd.laysM146 (m := m) rfl enters34 args bs r bs' h
  · split at hf
    · rename_i hf'
      cases hf
      subst hf'
      exact join_ok Tryd.lays156 Tryd.Builder_Extra_156 enters33 args bs r bs' h
    · cases hf

/-- A list of numbers, as data. -/
theorem ints_of {ps : List PD} (h : ShAll Tryd.prog 3 [22] ps) : ∃ l : List Int, ps = [.lst (l.map (.int .i64))] := by
  match ps, h with
  | [p], ⟨h, _⟩ =>
    obtain ⟨l, rfl, _⟩ := ShV.ints Tryd.underlying22 Tryd.underlying3 h
    exact ⟨l, rfl⟩

theorem contract (H : Type) (enc : TypeId × Value → H) (W : World) (base : Nat) (args : Array Value) (ds gs : List (DataW H)) (before : List MemPlace)
    (hval : ∀ (j : Nat) t v, Tryd.f4.params[j]? = some t → args[j]? = some v → Value.okWide Tryd.prog W .any base t v)
    (hW : DataW.Whole enc Tryd.prog Tryd.f4.params.toList Rows.sourceBackSpec.vars false W args.toList ds gs before) (hS : W.ShapedOpen Tryd.prog) :
    Calls Tryd.prog 4 args W fun e W' => ∃ v, e = .returned v ∧ Rows.sourceBackSpec.post enc Tryd.prog Tryd.f4 false true false false W args v W' := by
  obtain ⟨m, hm⟩ := Tryd.laysM146.s1_3 W hS
  refine law_calls (base := baseOf m) (d := 3) (tb := 4) entersLaw hval hW (by kernel_rfl) rfl (fun ds h => ?_) (by kernel_rfl) Tryd.underlying4 (fun a v h => ?_) (fun pds h => ?_)
  · have h1 : Tryd.f4.params.size = 1 := by kernel_rfl
    rw [h1] at h
    obtain ⟨d, rfl⟩ := List.length_eq_one_iff.1 h
    rfl
  · unfold baseOf at h
    split at h
    · rename_i ha; cases h; subst ha; exact ⟨hm, rfl⟩
    · cases h
  · obtain ⟨l, rfl⟩ := ints_of (show ShAll Tryd.prog 3 [22] pds from h)
    exact (Sr.law03_SourceBack_ev (Sr.SourceBack_law l)).callOk (ext_ok m) mixed

/-- A WORLD FOR THE WITNESS: the settled one, the listed tables holding what the text lays. -/
def litCells : List (DataW Unit) → List Value
  | [] => []
  | .lit (.int k n) :: r => .int k n :: litCells r
  | .agg [.lit (.int k n), .lit (.int k' n')] :: r => .int k n :: .int k' n' :: litCells r
  | _ :: r => litCells r
def cellsOfAgg : DataW Unit → Array Value
  | .agg l => (litCells l).toArray
  | _ => #[]
noncomputable def layAt (g : Nat) (d : DataW Unit) (w : World) : World :=
  { w with heap := w.heap.modify g fun
      | .cells _ t frozen => .cells (cellsOfAgg d) t frozen
      | o => o }
noncomputable def laidWorld (os : Os) : World := layAt 1 Rows.laid_unicode_utf8_first (layAt 2 Rows.laid_unicode_utf8_acceptRanges (World.holding Tryd.prog os ⟨#[], #[], []⟩))
theorem laid_met (os : Os) : laidMet Tryd.prog Rows.sourceBackRow.laid ((laidWorld os).forCall (fun _ _ => 0) ⟨#[], #[.slice none 0 0], []⟩).memory :=
  laidMet_of_run' 8 (by kernel_rfl) (by kernel_rfl)
theorem reads (os : Os) {H : Type} (enc : TypeId × Value → H) : ∃ places, DataW.whole enc Tryd.prog ((laidWorld os).forCall (fun _ _ => 0) ⟨#[], #[.slice none 0 0], []⟩).memory Tryd.f4.params.toList Rows.sourceBackSpec.vars false #[Value.slice none 0 0].toList 8 = some ([.nil], [], places) :=
  ⟨[], by kernel_rfl⟩

theorem lifted (os : Os) (started : os.Started) (H : Type) (enc : TypeId × Value → H) (F : Stop.Interp) :
    ReturnsInHanded {} Tryd.checked os 4 .any ((OpenSpec.ofChange Rows.sourceBackSpec).preRow enc Tryd.prog Tryd.f4 Rows.sourceBackRow.domain false Rows.sourceBackRow.laid) (((OpenSpec.ofChange Rows.sourceBackSpec).at F).post enc Tryd.prog Tryd.f4 false true false false) := by
  obtain ⟨places, hx⟩ := reads os enc
  refine returnsInHanded_of_row (C := Tryd.checked) (s := OpenSpec.ofChange Rows.sourceBackSpec) own started (by kernel_rfl) Tryd.func4
    (witness_row_at (enc := enc) (C := Tryd.checked) false (laidWorld os) #[.slice none 0 0] rfl (by kernel_rfl) (by kernel_rfl) (by kernel_rfl)
      (OpenSpec.preRow_of_cond 8 hx (by kernel_rfl) (fun k hk => by cases hk) (by kernel_rfl) (laid_met os))) ?_
  intro W base args ds gs before hval hW _ _ _ hL hS _
  exact contract H enc W base args ds gs before hval hW hS

theorem said : Rows.SourceBackSaid :=
  OpenClaim.holds_of_cond 4 Tryd.f4 rfl rfl rfl rfl rfl rfl rfl ⟨rfl, rfl, rfl, rfl, rfl⟩ rfl rfl rfl rfl rfl (by kernel_rfl) Tryd.func4 (by kernel_rfl)
    (of_decide_eq_true (by kernel_rfl)) (by unfold Func.isWrapper; first | (rw [if_pos (by decide +kernel)]; kernel_rfl) | (rw [if_neg (by decide +kernel)]; exact ⟨rfl, rfl⟩))
    (fun os started H enc _ F => by rw [OpenClaim.pre_eq_preRow]; exact lifted os started H enc F)

theorem plain (f : FuncId) (fn : Func) (hf : Tryd.pinned.checked.prog.funcNamed "seismonet/seismonetlaw03.SourceBack" = some f) (hfn : Tryd.pinned.checked.prog.funcs[f]? = some fn) :
    false = Tryd.pinned.checked.prog.looks [] ∧ ∀ (j : Nat) t, fn.params[j]? = some t → Tryd.pinned.checked.prog.wantsStandIn t = false := by
  obtain rfl : f = 4 := Option.some.inj ((show Tryd.prog.funcNamed "seismonet/seismonetlaw03.SourceBack" = some 4 by kernel_rfl).symm.trans hf) |>.symm
  obtain rfl : fn = Tryd.f4 := (Option.some.inj (Tryd.func4.symm.trans hfn)).symm
  refine ⟨by kernel_rfl, fun j t ht => ?_⟩
  rw [Tryd.params4] at ht
  obtain rfl : t = 22 := by simpa using Array.mem_of_getElem? ht
  exact (show Tryd.prog.wantsStandIn 22 = false by kernel_rfl)

theorem card : Rows.SourceBackCardSaid :=
  Claim7.holds_tied_plain_at .later [] _ _ _ _ said (fun _ h => by cases h) (by kernel_rfl) (fun _ h => by cases h) sourceBack_row_tie rfl ⟨rfl, rfl⟩ (by kernel_rfl) rfl plain (by kernel_rfl)
end YtjlbpchimjjcpaaDoor
end Go.Proofs
