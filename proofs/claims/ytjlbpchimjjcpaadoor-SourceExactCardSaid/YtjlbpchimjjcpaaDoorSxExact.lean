/- SourceExact holds: for all inputs the law returns true, and the input reads as it did. Its conditions: the row's own (the listed tables of unicode/utf8 are as the program's text lays them). -/
import Derived.Test.YtjlbpchimjjcpaaDoorSxEv
import Derived.Test.YtjlbpchimjjcpaaDoorSxLaw
import Derived.Test.YtjlbpchimjjcpaaDoorDwArg
import Derived.Test.YtjlbpchimjjcpaaDoorDwSort
import Derived.Test.YtjlbpchimjjcpaaDoorDwClone
import Derived.Test.YtjlbpchimjjcpaaDoorShelfX
import Derived.Test.YtjlbpchimjjcpaaDoorCards
import Derived.Test.YtjlbpchimjjcpaaDoorTie
import Derived.WalkKit
import Derived.ProofKit
import Derived.OpenShut
import Derived.Deep.DeepHandedRow
import Derived.Lib.LaidTab
namespace Go.Proofs
namespace YtjlbpchimjjcpaaDoor
open Go.ChangeShapes Go.WideShapes Go.ChangeAt Go.RowKit Go.Dw
set_option maxRecDepth 100000

theorem own : ownKnob Tryd.prog.godebug = none := by kernel_rfl
theorem mixed : Tryd.prog.follows .mixedOrders = true := by kernel_rfl
theorem enters34 : Dw.Enters Tryd.prog 34 := ⟨Tryd.f34, Tryd.func34, by decide +kernel, by kernel_rfl⟩
theorem enters33 : Dw.Enters Tryd.prog 33 := ⟨Tryd.f33, Tryd.func33, by decide +kernel, by kernel_rfl⟩
theorem enters37 : Dw.Enters Tryd.prog 37 := ⟨Tryd.f37, Tryd.func37, by decide +kernel, by kernel_rfl⟩
theorem enters38 : Dw.Enters Tryd.prog 38 := ⟨Tryd.f38, Tryd.func38, by decide +kernel, by kernel_rfl⟩
theorem enters16 : Dw.Enters Tryd.prog 16 := ⟨Tryd.f16, Tryd.func16, by decide +kernel, by kernel_rfl⟩
theorem entersLaw : Dw.Enters Tryd.prog 6 := ⟨Tryd.f6, Tryd.func6, by decide +kernel, by kernel_rfl⟩

def baseOf (m : Int) : Base := ⟨fun a => if a = ⟨0, 0, none⟩ then some (.int .i64 m) else none, False⟩
theorem sort_nil (base : Base) : CallOk Tryd.prog base 38 [.ref 0 0, .d (.raw (.func (.func 16) #[] #[]))] [.arr 0 28 []] (.tup []) [.arr 0 28 []] :=
  evFun_sound (H := { at_ := fun _ _ => [], mt := fun _ _ => false, by_ := fun _ i => i == 0, own := fun _ _ => false }) (ext_none _ _) mixed 60 _ _ _ _ _ (by kernel_rfl)
theorem info28 : ∃ i0 : TypeInfo, Tryd.prog.info? 28 = some i0 ∧ i0.zero = some (.agg #[.string ⟨#[]⟩, .string ⟨#[]⟩, .string ⟨#[]⟩, .string ⟨#[]⟩]) ∧ i0.size = 4 ∧ i0.bytes = 64 :=
  ⟨(Tryd.prog.info? 28).get (by kernel_rfl), (Option.some_get _).symm, by kernel_rfl, by kernel_rfl, by kernel_rfl⟩
theorem ext_ok (m : Int) : ExtOk Tryd.prog (baseOf m) Sx.ext := by
  intro f g hf args bs r bs' h
  unfold Sx.ext at hf
  split at hf
  · rename_i hf'
    cases hf
    subst hf'
    exact split_ok Tryd.laysM146 (m := m) rfl enters34 args bs r bs' h
  · split at hf
    · rename_i hf'
      cases hf
      subst hf'
      exact join_ok Tryd.lays156 Tryd.Builder_Extra_156 (fun h => h) enters33 args bs r bs' h
    · split at hf
      · rename_i hf'
        cases hf
        subst hf'
        exact sort_ok (α := Sx.Src) (pd := Sx.T_api_SourceID.pd) (cmp := Sx.source_Compare) (g := 16) (e := 28) (k := 4) Tryd.laysSort rfl rfl enters38 enters16 (enters_of Tryd.func16 (by kernel_rfl) rfl) Tryd.isAgg28 Tryd.sizeOf28 (by kernel_rfl) (fun _ => rfl) (fun _ => ⟨_, rfl⟩) (fun _ => rfl)
          (fun x y c hc => (Sx.source_Compare_ev0 hc).callOk (ext_none _ _) mixed) (sort_nil _) args bs r bs' h
      · split at hf
        · rename_i hf'
          cases hf
          subst hf'
          obtain ⟨i0, g0, g1, g2, g3⟩ := info28
          exact clone_ok Tryd.laysClone (fun h => h) rfl rfl enters37 g0 g1 g2 g3 rfl (by omega) (by omega) Tryd.sizeOf28 args bs r bs' h
        · cases hf

theorem cells28 : Tryd.prog.cellsOf 28 = 4 := by kernel_rfl
theorem cells9 : Tryd.prog.cellsOf 9 = 1 := by kernel_rfl
theorem agg28 : isAggT Tryd.prog 28 = true := by kernel_rfl
theorem str_of {d : Nat} {c : PD} (h : Sh Tryd.prog (d + 1) 9 [c]) : ∃ s : List UInt8, c = .str s ∧ s.length ≤ 9223372036854775807 := by
  unfold Sh at h
  simp only [Tryd.underlying9] at h
  obtain ⟨s, h1, h2⟩ := h
  exact ⟨s, by simpa using h1, h2⟩
/-- An identifier, as data. -/
theorem src_of {d : Nat} {p : PD} (h : ShV Tryd.prog (d + 2) 28 p) : ∃ x : Sx.Src, p = x.pd ∧ Sx.SrcOk x := by
  obtain ⟨h1, -, h3⟩ := h
  obtain ⟨cs, rfl⟩ := h1 agg28
  unfold Sh at h3
  simp only [Tryd.underlying28, PD.cells, cells28] at h3
  obtain ⟨h4, h5⟩ := h3
  obtain ⟨a, b, c, e, rfl⟩ := Sx.four h4
  simp only [List.mem_cons, List.not_mem_nil, or_false, forall_eq_or_imp, forall_eq, cells9] at h5
  obtain ⟨k1, k2, k3, k4⟩ := h5
  obtain ⟨s1, rfl, l1⟩ := str_of (d := d) k1
  obtain ⟨s2, rfl, l2⟩ := str_of (d := d) k2
  obtain ⟨s3, rfl, l3⟩ := str_of (d := d) k3
  obtain ⟨s4, rfl, l4⟩ := str_of (d := d) k4
  exact ⟨⟨s1, s2, s3, s4⟩, rfl, l1, l2, l3, l4⟩
/-- The five arguments, as data. -/
theorem args_of {ps : List PD} (h : ShAll Tryd.prog 4 [22, 28, 9, 9, 34] ps) : ∃ (l : List Int) (x : Sx.Src) (s t : List UInt8) (q : List Sx.Src), ps = [.lst (l.map (.int .i64)), x.pd, .str s, .str t, .lst (q.map Sx.T_api_SourceID.pd)] ∧ Sx.SrcOk x ∧ ∀ y ∈ q, Sx.SrcOk y := by
  match ps, h with
  | [p1, p2, p3, p4, p5], ⟨h1, h2, h3, h4, h5, _⟩ =>
    obtain ⟨l, rfl, _⟩ := ShV.ints Tryd.underlying22 Tryd.underlying3 h1
    obtain ⟨x, rfl, hx⟩ := src_of h2
    obtain ⟨s, rfl, _⟩ := ShV.str Tryd.underlying9 h3
    obtain ⟨t, rfl, _⟩ := ShV.str Tryd.underlying9 h4
    obtain ⟨q, rfl, _, hq⟩ := ShV.lst (d := 3) (g := Sx.T_api_SourceID.pd) (Q := Sx.SrcOk) Tryd.underlying34 h5 fun y hy => src_of hy
    exact ⟨l, x, s, t, q, rfl, hx, hq⟩

theorem contract (H : Type) (enc : TypeId × Value → H) (W : World) (base : Nat) (args : Array Value) (ds gs : List (DataW H)) (before : List MemPlace)
    (hval : ∀ (j : Nat) t v, Tryd.f6.params[j]? = some t → args[j]? = some v → Value.okWide Tryd.prog W .any base t v)
    (hW : DataW.Whole enc Tryd.prog Tryd.f6.params.toList Rows.sourceExactSpec.vars false W args.toList ds gs before) (hS : W.ShapedOpen Tryd.prog) :
    Calls Tryd.prog 6 args W fun e W' => ∃ v, e = .returned v ∧ Rows.sourceExactSpec.post enc Tryd.prog Tryd.f6 false true false false W args v W' := by
  obtain ⟨m, hm⟩ := Tryd.laysM146.s1_3 W hS
  refine law_calls (base := baseOf m) (d := 4) (tb := 4) entersLaw hval hW (by kernel_rfl) rfl (fun ds h => ?_) (by kernel_rfl) Tryd.underlying4 (fun a v h => ?_) (fun pds h => ?_)
  · have h1 : Tryd.f6.params.size = 5 := by kernel_rfl
    rw [h1] at h
    match ds, h with
    | [d1, d2, d3, d4, d5], _ => rfl
  · simp only [baseOf] at h
    split at h
    · rename_i ha; cases h; subst ha; exact ⟨hm, rfl⟩
    · cases h
  · obtain ⟨l, x, s, u, q, rfl, hx, hq⟩ := args_of (show ShAll Tryd.prog 4 [22, 28, 9, 9, 34] pds from h)
    exact (Sx.law03_SourceExact_ev (Sx.SourceExact_law l x s u q hx hq)).callOk (ext_ok m) mixed

/-- The witness's arguments. -/
def wit : Array Value := #[.slice none 0 0, .agg #[.string ⟨#[]⟩, .string ⟨#[]⟩, .string ⟨#[]⟩, .string ⟨#[]⟩], .string ⟨#[]⟩, .string ⟨#[]⟩, .slice none 0 0]
/-- A WORLD FOR THE WITNESS: the settled one, the listed tables holding what the text lays. -/
def litCells : List (DataW Unit) → List Value
  | [] => []
  | .lit (.int k n) :: r => .int k n :: litCells r
  | .agg [.lit (.int k n), .lit (.int k' n')] :: r => .int k n :: .int k' n' :: litCells r
  | _ :: r => litCells r
def cellsOfAgg : DataW Unit → Array Value
  | .agg l => (litCells l).toArray
  | _ => #[]
noncomputable def layAt (g : Nat) (d : DataW Unit) (w : World) : World :=
  { w with heap := w.heap.modify g fun
      | .cells _ t frozen => .cells (cellsOfAgg d) t frozen
      | o => o }
noncomputable def laidWorld (os : Os) : World := layAt 1 Rows.laid_unicode_utf8_first (layAt 2 Rows.laid_unicode_utf8_acceptRanges (World.holding Tryd.prog os ⟨#[], #[], []⟩))
theorem laid_met (os : Os) : laidMet Tryd.prog Rows.sourceExactRow.laid ((laidWorld os).forCall (fun _ _ => 0) ⟨#[], wit, []⟩).memory :=
  laidMet_of_run' 8 (by kernel_rfl) (by kernel_rfl)
theorem reads (os : Os) {H : Type} (enc : TypeId × Value → H) : ∃ places, DataW.whole enc Tryd.prog ((laidWorld os).forCall (fun _ _ => 0) ⟨#[], wit, []⟩).memory Tryd.f6.params.toList Rows.sourceExactSpec.vars false wit.toList 8 = some ([.nil, .agg [.lit (.string []), .lit (.string []), .lit (.string []), .lit (.string [])], .lit (.string []), .lit (.string []), .nil], [], places) :=
  ⟨[], by kernel_rfl⟩

theorem lifted (os : Os) (started : os.Started) (H : Type) (enc : TypeId × Value → H) (F : Stop.Interp) :
    ReturnsInHanded {} Tryd.checked os 6 .any ((OpenSpec.ofChange Rows.sourceExactSpec).preRow enc Tryd.prog Tryd.f6 Rows.sourceExactRow.domain false Rows.sourceExactRow.laid) (((OpenSpec.ofChange Rows.sourceExactSpec).at F).post enc Tryd.prog Tryd.f6 false true false false) := by
  obtain ⟨places, hx⟩ := reads os enc
  refine returnsInHanded_of_row (C := Tryd.checked) (s := OpenSpec.ofChange Rows.sourceExactSpec) own started (by kernel_rfl) Tryd.func6
    (witness_row_at (enc := enc) (C := Tryd.checked) false (laidWorld os) wit rfl (by kernel_rfl) (by kernel_rfl) (by kernel_rfl)
      (OpenSpec.preRow_of_cond 8 hx (by kernel_rfl) (fun k hk => by cases hk) (by kernel_rfl) (laid_met os))) ?_
  intro W base args ds gs before hval hW _ _ _ hL hS _
  exact contract H enc W base args ds gs before hval hW hS

theorem said : Rows.SourceExactSaid :=
  OpenClaim.holds_of_cond 6 Tryd.f6 rfl rfl rfl rfl rfl rfl rfl ⟨rfl, rfl, rfl, rfl, rfl⟩ rfl rfl rfl rfl rfl (by kernel_rfl) Tryd.func6 (by kernel_rfl)
    (of_decide_eq_true (by kernel_rfl)) (by unfold Func.isWrapper; first | (rw [if_pos (by decide +kernel)]; kernel_rfl) | (rw [if_neg (by decide +kernel)]; exact ⟨rfl, rfl⟩))
    (fun os started H enc _ F => by rw [OpenClaim.pre_eq_preRow]; exact lifted os started H enc F)

theorem plain (f : FuncId) (fn : Func) (hf : Tryd.pinned.checked.prog.funcNamed "seismonet/seismonetlaw03.SourceExact" = some f) (hfn : Tryd.pinned.checked.prog.funcs[f]? = some fn) :
    false = Tryd.pinned.checked.prog.looks [] ∧ ∀ (j : Nat) t, fn.params[j]? = some t → Tryd.pinned.checked.prog.wantsStandIn t = false := by
  obtain rfl : f = 6 := Option.some.inj ((show Tryd.prog.funcNamed "seismonet/seismonetlaw03.SourceExact" = some 6 by kernel_rfl).symm.trans hf) |>.symm
  obtain rfl : fn = Tryd.f6 := (Option.some.inj (Tryd.func6.symm.trans hfn)).symm
  refine ⟨by kernel_rfl, fun j t ht => ?_⟩
  rw [Tryd.params6] at ht
  have ht := Array.mem_of_getElem? ht
  simp only [List.mem_toArray, List.mem_cons, List.not_mem_nil, or_false] at ht
  rcases ht with rfl | rfl | rfl | rfl | rfl
  · exact (show Tryd.prog.wantsStandIn 22 = false by kernel_rfl)
  · exact (show Tryd.prog.wantsStandIn 28 = false by kernel_rfl)
  · exact (show Tryd.prog.wantsStandIn 9 = false by kernel_rfl)
  · exact (show Tryd.prog.wantsStandIn 9 = false by kernel_rfl)
  · exact (show Tryd.prog.wantsStandIn 34 = false by kernel_rfl)

theorem card : Rows.SourceExactCardSaid :=
  Claim7.holds_tied_plain_at .later [] _ _ _ _ said (fun _ h => by cases h) (by kernel_rfl) (fun _ h => by cases h) sourceExact_row_tie rfl ⟨rfl, rfl⟩ (by kernel_rfl) rfl plain (by kernel_rfl)
end YtjlbpchimjjcpaaDoor
end Go.Proofs
