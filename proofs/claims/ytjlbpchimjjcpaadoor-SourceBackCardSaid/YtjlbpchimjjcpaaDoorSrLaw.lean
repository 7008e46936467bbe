/- SrLaw: the dice and the identifiers they make; the law SourceBack in plain Lean. -/
import Derived.Test.YtjlbpchimjjcpaaDoorSrCo
import Derived.IntWalk
set_option maxRecDepth 100000
set_option maxHeartbeats 4000000
namespace Go.Dw.Sr
open Go.Dw
abbrev Dice := T_seismonetmade_Dice
abbrev Src := T_api_SourceID

def DiceOk (d : Dice) : Prop := 0 ≤ d.fAt ∧ d.fAt ≤ d.fL.length ∧ d.fL.length ≤ 1000000
theorem next_ok {k : Int} {d : Dice} (hk : 1 ≤ k) (hk' : k ≤ 1000000) (hd : DiceOk d) : ∃ v d', Dice_Next k d = some (v, d') ∧ 0 ≤ v ∧ v < k ∧ DiceOk d' := by
  obtain ⟨h0, h1, h2⟩ := hd
  unfold Dice_Next
  by_cases ha : d.fAt ≥ (d.fL.length : Int)
  · rw [if_pos (decide_eq_true ha)]
    exact ⟨0, d, rfl, Int.le_refl _, by omega, h0, h1, h2⟩
  rw [if_neg (by simpa using ha), if_neg (by simp; omega)]
  have hg : getO d.fL d.fAt = some (d.fL[d.fAt.toNat]'(by omega)) := by
    unfold getO
    rw [if_pos h0, List.getElem?_eq_getElem]
  rw [hg]
  generalize d.fL[d.fAt.toNat]'(by omega) = n
  have hw : IntKind.wrap .i64 (d.fAt + 1) = d.fAt + 1 := IntWalk.i64_in _ (by omega)
  have hd' : DiceOk (T_seismonetmade_Dice.mk d.fL (IntKind.wrap .i64 (d.fAt + (1 : Int)))) := by
    rw [hw]; exact ⟨by simp only; omega, by simp only; omega, h2⟩
  have hr : remO n k = some (n.tmod k) := by unfold remO; rw [if_neg (by omega)]
  have hl : n.tmod k < k := Int.tmod_lt_of_pos _ (by omega)
  have hg' : -k < n.tmod k := by
    rcases Int.le_total 0 n with h | h
    · have := Int.tmod_nonneg k h; omega
    · have e : n.tmod k = -((-n).tmod k) := by rw [Int.neg_tmod]; omega
      have := Int.tmod_lt_of_pos (-n) (show 0 < k by omega)
      omega
  simp only [Option.bind_some, hr]
  by_cases hn : n.tmod k < 0
  · rw [if_pos (decide_eq_true hn)]
    have hw2 : IntKind.wrap .i64 (n.tmod k + k) = n.tmod k + k := IntWalk.i64_in _ (by omega)
    exact ⟨_, _, rfl, by rw [hw2]; omega, by rw [hw2]; omega, hd'⟩
  · rw [if_neg (by simpa using hn)]
    exact ⟨_, _, rfl, by omega, hl, hd'⟩
theorem getO_in {α : Type} {l : List α} {n : Int} (h0 : 0 ≤ n) (h1 : n < l.length) : ∃ x, x ∈ l ∧ getO l n = some x := by
  refine ⟨l[n.toNat]'(by omega), List.getElem_mem _, ?_⟩
  unfold getO
  rw [if_pos h0, List.getElem?_eq_getElem]

def nets : List (List UInt8) := [[71, 82], [88], [55, 65]]
def stas : List (List UInt8) := [[70, 85, 82], [65], [65, 66, 67, 68, 69], [70, 85]]
def locs : List (List UInt8) := [[], [48, 48], [49, 48]]
def chas : List (List UInt8) := [[72, 72, 90], [72, 72, 78], [66, 72, 90]]
def IsSrc (a : Src) : Prop := a.fNetwork ∈ nets ∧ a.fStation ∈ stas ∧ a.fLocation ∈ locs ∧ a.fChannel ∈ chas
theorem source_ok {d : Dice} (hd : DiceOk d) : ∃ a d', Dice_Source d = some (a, d') ∧ IsSrc a ∧ DiceOk d' := by
  obtain ⟨v1, d1, e1, l1, u1, hd⟩ := next_ok (k := 3) (by omega) (by omega) hd
  obtain ⟨v2, d2, e2, l2, u2, hd⟩ := next_ok (k := 4) (by omega) (by omega) hd
  obtain ⟨v3, d3, e3, l3, u3, hd⟩ := next_ok (k := 3) (by omega) (by omega) hd
  obtain ⟨v4, d4, e4, l4, u4, hd⟩ := next_ok (k := 3) (by omega) (by omega) hd
  obtain ⟨x1, m1, g1⟩ := getO_in (l := nets) l1 u1
  obtain ⟨x2, m2, g2⟩ := getO_in (l := stas) l2 u2
  obtain ⟨x3, m3, g3⟩ := getO_in (l := locs) l3 u3
  obtain ⟨x4, m4, g4⟩ := getO_in (l := chas) l4 u4
  unfold nets at g1; unfold stas at g2; unfold locs at g3; unfold chas at g4
  refine ⟨⟨x1, x2, x3, x4⟩, d4, ?_, ⟨m1, m2, m3, m4⟩, hd⟩
  simp only [Dice_Source, e1, g1, e2, g2, e3, g3, e4, g4, Option.bind_some]

def fmt (a : Src) : List UInt8 := a.fNetwork ++ [46] ++ a.fStation ++ [46] ++ a.fLocation ++ [46] ++ a.fChannel
def chk1 (a : Src) : Bool := decide (source_Valid_c a = some true) && decide (source_Format_c a = some (fmt a, 0)) && decide (source_Parse_c (fmt a) = some (a, 0)) && decide (source_pattern_c (fmt a) = some ([a.fNetwork, a.fStation, a.fLocation, a.fChannel], true))
theorem chk1_all : (nets.all fun n => stas.all fun t => locs.all fun l => chas.all fun c => chk1 ⟨n, t, l, c⟩) = true := by kernel_rfl
theorem chk1_at {a : Src} (h : IsSrc a) : source_Valid a = some true ∧ source_Format a = some (fmt a, 0) ∧ source_Parse (fmt a) = some (a, 0) ∧ source_pattern (fmt a) = some ([a.fNetwork, a.fStation, a.fLocation, a.fChannel], true) := by
  obtain ⟨n, t, l, c⟩ := a
  have h := List.all_eq_true.1 (List.all_eq_true.1 (List.all_eq_true.1 (List.all_eq_true.1 chk1_all n h.1) t h.2.1) l h.2.2.1) c h.2.2.2
  simp only [chk1, Bool.and_eq_true, decide_eq_true_eq] at h
  obtain ⟨⟨⟨h1, h2⟩, h3⟩, h4⟩ := h
  exact ⟨source_Valid_le _ _ h1, source_Format_le _ _ h2, source_Parse_le _ _ h3, source_pattern_le _ _ h4⟩
def codes : List (List (List UInt8)) := [nets, stas, locs, chas]
def chk2 (x y : List UInt8) : Bool := decide (source_fits_c x y = some (x == y)) && decide (source_fits_c [42] y = some true)
theorem chk2_all : (codes.all fun l => l.all fun x => l.all fun y => chk2 x y) = true := by kernel_rfl
theorem chk2_at {l : List (List UInt8)} (hl : l ∈ codes) {x y : List UInt8} (hx : x ∈ l) (hy : y ∈ l) : source_fits x y = some (x == y) ∧ source_fits [42] y = some true := by
  have h := List.all_eq_true.1 (List.all_eq_true.1 (List.all_eq_true.1 chk2_all l hl) x hx) y hy
  simp only [chk2, Bool.and_eq_true, decide_eq_true_eq] at h
  exact ⟨source_fits_le _ _ _ h.1, source_fits_le _ _ _ h.2⟩
theorem match_at {a b : Src} (ha : IsSrc a) (hb : IsSrc b) : source_match [a.fNetwork, a.fStation, a.fLocation, a.fChannel] b = some (decide (a = b)) := by
  obtain ⟨n, t, l, c⟩ := a
  obtain ⟨n', t', l', c'⟩ := b
  have h1 := (chk2_at (l := nets) (by simp [codes]) ha.1 hb.1).1
  have h2 := (chk2_at (l := stas) (by simp [codes]) ha.2.1 hb.2.1).1
  have h3 := (chk2_at (l := locs) (by simp [codes]) ha.2.2.1 hb.2.2.1).1
  have h4 := (chk2_at (l := chas) (by simp [codes]) ha.2.2.2 hb.2.2.2).1
  simp only at h1 h2 h3 h4
  simp only [source_match, source_parts, Option.bind_some, getO, Int.le_refl, if_true, show (0:Int).toNat = 0 from rfl, show (1:Int).toNat = 1 from rfl, show (2:Int).toNat = 2 from rfl, show (3:Int).toNat = 3 from rfl, List.getElem?_cons_zero, List.getElem?_cons_succ, h1, h2, h3, h4, show (0:Int) ≤ 1 from by omega, show (0:Int) ≤ 2 from by omega, show (0:Int) ≤ 3 from by omega, T_api_SourceID.mk.injEq]
  by_cases e1 : n = n' <;> by_cases e2 : t = t' <;> by_cases e3 : l = l' <;> by_cases e4 : c = c' <;> simp [e1, e2, e3, e4]
theorem star_at {b : Src} (hb : IsSrc b) : source_match [[42], [42], [42], [42]] b = some true := by
  have h1 := (chk2_at (l := nets) (by simp [codes]) hb.1 hb.1).2
  have h2 := (chk2_at (l := stas) (by simp [codes]) hb.2.1 hb.2.1).2
  have h3 := (chk2_at (l := locs) (by simp [codes]) hb.2.2.1 hb.2.2.1).2
  have h4 := (chk2_at (l := chas) (by simp [codes]) hb.2.2.2 hb.2.2.2).2
  simp only [source_match, source_parts, Option.bind_some, getO, Int.le_refl, if_true, show (0:Int).toNat = 0 from rfl, show (1:Int).toNat = 1 from rfl, show (2:Int).toNat = 2 from rfl, show (3:Int).toNat = 3 from rfl, List.getElem?_cons_zero, List.getElem?_cons_succ, h1, h2, h3, h4, show (0:Int) ≤ 1 from by omega, show (0:Int) ≤ 2 from by omega, show (0:Int) ≤ 3 from by omega, Bool.not_true, Bool.false_eq_true, if_false]
theorem Match_at {a b : Src} (ha : IsSrc a) (hb : IsSrc b) : source_Match (fmt a) b = some (decide (a = b), 0) := by
  simp only [source_Match, (chk1_at ha).2.2.2, (chk1_at hb).1, match_at ha hb, Option.bind_some, Bool.not_true, Bool.false_eq_true, if_false]
theorem pat_star : source_pattern [42, 46, 42, 46, 42, 46, 42] = some ([[42], [42], [42], [42]], true) := source_pattern_le _ _ (by kernel_rfl)
theorem Star_at {b : Src} (hb : IsSrc b) : source_Match [42, 46, 42, 46, 42, 46, 42] b = some (true, 0) := by
  simp only [source_Match, pat_star, (chk1_at hb).1, star_at hb, Option.bind_some, Bool.not_true, Bool.false_eq_true, if_false]
theorem sane_at : law03_sane = some true := law03_sane_le _ (by kernel_rfl)
theorem eq_src (a b : Src) : ((a.fNetwork == b.fNetwork) && ((a.fStation == b.fStation) && ((a.fLocation == b.fLocation) && ((a.fChannel == b.fChannel) && true)))) = decide (a = b) := by
  obtain ⟨n, t, l, c⟩ := a
  obtain ⟨n', t', l', c'⟩ := b
  simp only [T_api_SourceID.mk.injEq]
  by_cases e1 : n = n' <;> by_cases e2 : t = t' <;> by_cases e3 : l = l' <;> by_cases e4 : c = c' <;> simp [e1, e2, e3, e4]
theorem roll_ok {t : List Int} (h : t.length ≤ 500) : ∃ d, made_Roll t = some d ∧ DiceOk d := ⟨⟨t, 0⟩, rfl, by simp, by simp, by simp only; omega⟩

theorem SourceBack_law (t : List Int) : law03_SourceBack t = some true := by
  unfold law03_SourceBack made_Light
  by_cases hl : (t.length : Int) ≤ 500
  · obtain ⟨d, e0, hd⟩ := roll_ok (t := t) (by omega)
    obtain ⟨a, d1, e1, ha, hd⟩ := source_ok hd
    obtain ⟨b, d2, e2, hb, hd⟩ := source_ok hd
    obtain ⟨-, f1, f2, -⟩ := chk1_at ha
    have hx : decide (a = a) = true := by simp
    simp only [hl, decide_true, Option.bind_some, Bool.not_true, Bool.false_eq_true, if_false, e0, e1, e2, f1, f2, Match_at ha ha, Match_at ha hb, Star_at hb, eq_src, sane_at, hx, beq_self_eq_true, if_true]
  · simp only [hl, decide_false, Option.bind_some, Bool.not_false, if_true, sane_at]
end Go.Dw.Sr
