/- FeedTexts holds: for all inputs the law returns true, and the input reads as it did. Its conditions: the row's own (the listed tables and errors of Go's library are as the program's text lays them). -/
import Derived.Test.YtpeijlelfekcoaaGreatDoorFtEv
import Derived.Test.YtpeijlelfekcoaaGreatDoorFtSh
import Derived.Test.YtpeijlelfekcoaaGreatDoorDwArg
import Derived.Test.YtpeijlelfekcoaaGreatDoorDwLaid
import Derived.Test.YtpeijlelfekcoaaGreatDoorShelfF
import Derived.Test.YtpeijlelfekcoaaGreatDoorCards
import Derived.Test.YtpeijlelfekcoaaGreatDoorTie
import Derived.WalkKit
import Derived.ProofKit
import Derived.OpenShut
import Derived.Deep.DeepHandedRow
import Derived.Lay
import Derived.Lib.LaidTab













namespace Go.Proofs
namespace YtpeijlelfekcoaaGreatDoor
open Go.ChangeShapes Go.WideShapes Go.ChangeAt Go.RowKit Go.Dw
set_option maxRecDepth 100000

theorem own : ownKnob Tryz.prog.godebug = none := by kernel_rfl
theorem mixed : Tryz.prog.follows .mixedOrders = true := by kernel_rfl
theorem enters47 : Dw.Enters Tryz.prog 47 := ⟨Tryz.f47, Tryz.func47, by decide +kernel, by kernel_rfl⟩
theorem enters67 : Dw.Enters Tryz.prog 67 := ⟨Tryz.f67, Tryz.func67, by decide +kernel, by kernel_rfl⟩
theorem enters86 : Dw.Enters Tryz.prog 86 := ⟨Tryz.f86, Tryz.func86, by decide +kernel, by kernel_rfl⟩
theorem enters39 : Dw.Enters Tryz.prog 39 := ⟨Tryz.f39, Tryz.func39, by decide +kernel, by kernel_rfl⟩
theorem entersLaw : Dw.Enters Tryz.prog 3 := ⟨Tryz.f3, Tryz.func3, by decide +kernel, by kernel_rfl⟩

/-- What every call may lean on: MaxLen's cell, the two errors', the table of powers of ten. -/
def baseOf (m : Int) (te te' : TypeId) (pe pe' : Value) (t : TypeId) (fz : Nat × Nat) : Base :=
  ⟨fun a => if a = ⟨0, 0, none⟩ then some (.int .i64 m) else if a = ⟨1, 0, none⟩ then some (.iface te pe) else if a = ⟨2, 0, none⟩ then some (.iface te' pe') else if a = ⟨3, 0, none⟩ then some (.int .u64 1) else none, False,
    [(3, Obj.cells (Lib.pow10Tab.map fun z => Value.int .u64 z).toArray t fz)]⟩
theorem ext_ok (m : Int) (te te' : TypeId) (pe pe' : Value) (t : TypeId) (fz : Nat × Nat) : ExtOk Tryz.prog (baseOf m te te' pe pe' t fz) Ft.ext := by
  intro f g hf args bs r bs' h
  unfold Ft.ext at hf
  split at hf
  · rename_i hf'
    cases hf
    subst hf'
    exact split_ok Tryz.laysM146 (m := m) rfl enters47 args bs r bs' h
  split at hf
  · rename_i hf'
    cases hf
    subst hf'
    exact itoa_ok (base := baseOf m te te' pe pe' t fz) Tryz.laysM171 (fun h => h) (g := 3) (t := t) (fz := fz) (by kernel_rfl) (.head _) enters67 args bs r bs' h
  split at hf
  · rename_i hf'
    cases hf
    subst hf'
    exact atoi_ok (base := baseOf m te te' pe pe' t fz) Tryz.laysC172 (fun h => h) (te := te) (pe := pe) (te' := te') (pe' := pe') rfl rfl enters86 args bs r bs' h
  split at hf
  · rename_i hf'
    cases hf
    subst hf'
    exact join_ok Tryz.lays156 Tryz.Builder_Extra_156 (fun h => h) enters39 args bs r bs' h
  cases hf

/-- The arguments, as data. -/


theorem contract (H : Type) (enc : TypeId × Value → H) (W : World) (base : Nat) (args : Array Value) (ds gs : List (DataW H)) (before : List MemPlace)
    (hval : ∀ (j : Nat) t v, Tryz.f3.params[j]? = some t → args[j]? = some v → Value.okWide Tryz.prog W .any base t v)
    (hW : DataW.Whole enc Tryz.prog Tryz.f3.params.toList Rows.feedTextsSpec.vars false W args.toList ds gs before) (hL : laidMet Tryz.prog Rows.feedTextsRow.laid W) (hS : W.ShapedOpen Tryz.prog) :
    Calls Tryz.prog 3 args W fun e W' => ∃ v, e = .returned v ∧ Rows.feedTextsSpec.post enc Tryz.prog Tryz.f3 false true false false W args v W' := by
  obtain ⟨m, hm⟩ := Tryz.laysM146.s1_3 W hS
  obtain ⟨t, fz, htab⟩ := laid_tab (k := .u64) (zs := Lib.pow10Tab) (name := "internal/strconv.uint64pow10") (g := 3) (t := 232) (n := 20) (e := 190) hL (.tail _ (.tail _ (.head _))) (by kernel_rfl) (by kernel_rfl) (by kernel_rfl) (by kernel_rfl) (by kernel_rfl) (by kernel_rfl)
  obtain ⟨te', pe', hr⟩ := laid_iface (name := "strconv.ErrRange") (g := 2) (t := 140) hL (.tail _ (.tail _ (.tail _ (.tail _ (.head _))))) (by kernel_rfl) (by kernel_rfl) Tryz.underlying140
  obtain ⟨te, pe, hs⟩ := laid_iface (name := "strconv.ErrSyntax") (g := 1) (t := 140) hL (.tail _ (.tail _ (.tail _ (.tail _ (.tail _ (.head _)))))) (by kernel_rfl) (by kernel_rfl) Tryz.underlying140
  refine law_calls (base := baseOf m te te' pe pe' t fz) (d := 9) (tb := 4) entersLaw hval hW (by kernel_rfl) rfl (fun ds h => ?_) (by kernel_rfl) Tryz.underlying4 (fun a v h => ?_) (fun x hx => ?_) (fun pds h => ?_)
  · have h1 : Tryz.f3.params.size = 5 := by kernel_rfl
    rw [h1] at h
    match ds, h with
    | [d1, d2, d3, d4, d5], _ => rfl
  · simp only [baseOf] at h
    split at h
    · rename_i ha; cases h; subst ha; exact ⟨hm, rfl⟩
    split at h
    · rename_i ha; cases h; subst ha; exact ⟨hs, rfl⟩
    split at h
    · rename_i ha; cases h; subst ha; exact ⟨hr, rfl⟩
    split at h
    · rename_i ha; cases h; subst ha; exact ⟨by simp [World.cell?, htab, Lib.pow10Tab], rfl⟩
    · cases h
  · obtain rfl := List.mem_singleton.1 hx
    exact ⟨htab, 0, .int .u64 1, rfl⟩
  · obtain ⟨b, s, l, n, m', rfl, hl, hq⟩ := Ft.args_of (show ShAll Tryz.prog 9 [40, 9, 41, 3, 5] pds from h)
    exact (Ft.kV (Ft.holds_of s l n hl hq)).callOk (ext_ok m te te' pe pe' t fz) mixed

/-- The witness's arguments. -/
def wit : Array Value := #[.agg #[.int .i64 0, .int .i64 0, .int .i64 0, .int .i64 0, .int .i64 0, .string ⟨#[]⟩, .string ⟨#[]⟩, .string ⟨#[]⟩, .string ⟨#[]⟩, .int .i64 0, .int .i64 0, .int .i64 0, .int .i64 0, .int .i64 0, .slice none 0 0, .int .i64 0, .int .i64 0, .int .i64 0, .int .i64 0, .int .i64 0, .int .i64 0, .int .i64 0, .int .i64 0, .int .i64 0, .int .i64 0, .int .i64 0, .int .i64 0, .int .i64 0, .int .i64 0, .int .i64 0], .string ⟨#[]⟩, .slice none 0 0, .int .i64 0, .int .u8 0]
/-- A WORLD FOR THE WITNESS: the settled one, the listed variables holding what the text lays. -/
noncomputable def laidWorld (os : Os) : World := World.laidAll Tryz.prog os Rows.feedTextsRow.laid
theorem laid_met (os : Os) : laidMet Tryz.prog Rows.feedTextsRow.laid ((laidWorld os).forCall (fun _ _ => 0) ⟨#[], wit, []⟩).memory :=
  laidMet_laidAll _ (by kernel_rfl) (by kernel_rfl)
theorem reads (os : Os) {H : Type} (enc : TypeId × Value → H) : ∃ places, DataW.whole enc Tryz.prog ((laidWorld os).forCall (fun _ _ => 0) ⟨#[], wit, []⟩).memory Tryz.f3.params.toList Rows.feedTextsSpec.vars false wit.toList 8 = some ([.agg [.lit (.int .i64 0), .lit (.int .i64 0), .lit (.int .i64 0), .lit (.int .i64 0), .lit (.int .i64 0), .agg [.agg [.agg [.lit (.string []), .lit (.string []), .lit (.string []), .lit (.string [])], .lit (.int .i64 0), .lit (.int .i64 0), .lit (.int .i64 0), .lit (.int .i64 0), .lit (.int .i64 0)], .agg [.nil, .agg [.agg [.lit (.int .i64 0), .lit (.int .i64 0), .lit (.int .i64 0)], .lit (.int .i64 0), .lit (.int .i64 0), .lit (.int .i64 0), .agg [.agg [.lit (.int .i64 0), .lit (.int .i64 0), .lit (.int .i64 0)], .agg [.lit (.int .i64 0), .lit (.int .i64 0), .lit (.int .i64 0)]]], .agg [.lit (.int .i64 0), .lit (.int .i64 0)], .lit (.int .i64 0)]]], .lit (.string []), .nil, .lit (.int .i64 0), .lit (.int .u8 0)], [], places) :=
  ⟨[], by kernel_rfl⟩

theorem lifted (os : Os) (started : os.Started) (H : Type) (enc : TypeId × Value → H) (F : Stop.Interp) :
    ReturnsInHanded {} Tryz.checked os 3 .any ((OpenSpec.ofChange Rows.feedTextsSpec).preRow enc Tryz.prog Tryz.f3 Rows.feedTextsRow.domain false Rows.feedTextsRow.laid) (((OpenSpec.ofChange Rows.feedTextsSpec).at F).post enc Tryz.prog Tryz.f3 false true false false) := by
  obtain ⟨places, hx⟩ := reads os enc
  refine returnsInHanded_of_row (C := Tryz.checked) (s := OpenSpec.ofChange Rows.feedTextsSpec) own started (by kernel_rfl) Tryz.func3
    (witness_row_at (enc := enc) (C := Tryz.checked) false (laidWorld os) wit (World.laidAll_os _ _ _) (by kernel_rfl) (by kernel_rfl) (by kernel_rfl)
      (OpenSpec.preRow_of_cond 8 hx (by kernel_rfl) (fun k hk => by cases hk) (by kernel_rfl) (laid_met os))) ?_
  intro W base args ds gs before hval hW _ _ _ hL hS _
  exact contract H enc W base args ds gs before hval hW hL hS

theorem said : Rows.FeedTextsSaid :=
  OpenClaim.holds_of_cond 3 Tryz.f3 rfl rfl rfl rfl rfl rfl rfl ⟨rfl, rfl, rfl, rfl, rfl⟩ rfl rfl rfl rfl rfl (by kernel_rfl) Tryz.func3 (by kernel_rfl)
    (of_decide_eq_true (by kernel_rfl)) (by unfold Func.isWrapper; first | (rw [if_pos (by decide +kernel)]; kernel_rfl) | (rw [if_neg (by decide +kernel)]; exact ⟨rfl, rfl⟩))
    (fun os started H enc _ F => by rw [OpenClaim.pre_eq_preRow]; exact lifted os started H enc F)

theorem plain (f : FuncId) (fn : Func) (hf : Tryz.pinned.checked.prog.funcNamed "seismonet/seismonetlaw37.FeedTexts" = some f) (hfn : Tryz.pinned.checked.prog.funcs[f]? = some fn) :
    true = Tryz.pinned.checked.prog.looks [] ∧ ∀ (j : Nat) t, fn.params[j]? = some t → Tryz.pinned.checked.prog.wantsStandIn t = false := by
  obtain rfl : f = 3 := Option.some.inj ((show Tryz.prog.funcNamed "seismonet/seismonetlaw37.FeedTexts" = some 3 by kernel_rfl).symm.trans hf) |>.symm
  obtain rfl : fn = Tryz.f3 := (Option.some.inj (Tryz.func3.symm.trans hfn)).symm
  refine ⟨by kernel_rfl, fun j t ht => ?_⟩
  rw [Tryz.params3] at ht
  have ht := Array.mem_of_getElem? ht
  simp only [List.mem_toArray, List.mem_cons, List.not_mem_nil, or_false] at ht
  rcases ht with rfl | rfl | rfl | rfl | rfl
  · exact (show Tryz.prog.wantsStandIn 40 = false by kernel_rfl)
  · exact (show Tryz.prog.wantsStandIn 9 = false by kernel_rfl)
  · exact (show Tryz.prog.wantsStandIn 41 = false by kernel_rfl)
  · exact (show Tryz.prog.wantsStandIn 3 = false by kernel_rfl)
  · exact (show Tryz.prog.wantsStandIn 5 = false by kernel_rfl)

theorem card : Rows.FeedTextsCardSaid :=
  Claim7.holds_tied_plain_at .later [] _ _ _ _ said (fun _ h => by cases h) (by kernel_rfl) (fun _ h => by cases h) feedTexts_row_tie rfl ⟨rfl, rfl⟩ (by kernel_rfl) rfl plain (by kernel_rfl)
end YtpeijlelfekcoaaGreatDoor
end Go.Proofs
