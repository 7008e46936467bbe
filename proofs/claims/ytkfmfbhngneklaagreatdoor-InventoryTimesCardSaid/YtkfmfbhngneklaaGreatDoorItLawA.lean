/- ItLawA: identifiers and dice in plain Lean (as for the laws of chapter 3). -/
import Derived.Test.YtkfmfbhngneklaaGreatDoorItCo
import Derived.Test.YtkfmfbhngneklaaGreatDoorDwPlain
set_option maxRecDepth 100000
set_option maxHeartbeats 4000000
namespace Go.Dw.It
open Go.Dw
abbrev Dice := T_seismonetmade_Dice
abbrev Src := T_api_SourceID

def DiceOk (d : Dice) : Prop := 0 ≤ d.fAt ∧ d.fAt ≤ d.fL.length ∧ d.fL.length ≤ 1000000
theorem next_ok {k : Int} {d : Dice} (hk : 1 ≤ k) (hk' : k ≤ 1000000) (hd : DiceOk d) : ∃ v d', Dice_Next k d = some (v, d') ∧ 0 ≤ v ∧ v < k ∧ DiceOk d' := by
  obtain ⟨h0, h1, h2⟩ := hd
  unfold Dice_Next
  by_cases ha : d.fAt ≥ (d.fL.length : Int)
  · rw [if_pos (decide_eq_true ha)]
    exact ⟨0, d, rfl, Int.le_refl _, by omega, h0, h1, h2⟩
  rw [if_neg (by simpa using ha), if_neg (by simp; omega)]
  have hg : getO d.fL d.fAt = some (d.fL[d.fAt.toNat]'(by omega)) := by
    unfold getO
    rw [if_pos h0, List.getElem?_eq_getElem]
  rw [hg]
  generalize d.fL[d.fAt.toNat]'(by omega) = n
  have hw : IntKind.wrap .i64 (d.fAt + 1) = d.fAt + 1 := IntWalk.i64_in _ (by omega)
  have hd' : DiceOk (T_seismonetmade_Dice.mk d.fL (IntKind.wrap .i64 (d.fAt + (1 : Int)))) := by
    rw [hw]; exact ⟨by simp only; omega, by simp only; omega, h2⟩
  have hr : remO n k = some (n.tmod k) := by unfold remO; rw [if_neg (by omega)]
  have hl : n.tmod k < k := Int.tmod_lt_of_pos _ (by omega)
  have hg' : -k < n.tmod k := by
    rcases Int.le_total 0 n with h | h
    · have := Int.tmod_nonneg k h; omega
    · have e : n.tmod k = -((-n).tmod k) := by rw [Int.neg_tmod]; omega
      have := Int.tmod_lt_of_pos (-n) (show 0 < k by omega)
      omega
  simp only [Option.bind_some, hr]
  by_cases hn : n.tmod k < 0
  · rw [if_pos (decide_eq_true hn)]
    have hw2 : IntKind.wrap .i64 (n.tmod k + k) = n.tmod k + k := IntWalk.i64_in _ (by omega)
    exact ⟨_, _, rfl, by rw [hw2]; omega, by rw [hw2]; omega, hd'⟩
  · rw [if_neg (by simpa using hn)]
    exact ⟨_, _, rfl, by omega, hl, hd'⟩
theorem getO_in {α : Type} {l : List α} {n : Int} (h0 : 0 ≤ n) (h1 : n < l.length) : ∃ x, x ∈ l ∧ getO l n = some x := by
  refine ⟨l[n.toNat]'(by omega), List.getElem_mem _, ?_⟩
  unfold getO
  rw [if_pos h0, List.getElem?_eq_getElem]

def nets : List (List UInt8) := [[71, 82], [88], [55, 65]]
def stas : List (List UInt8) := [[70, 85, 82], [65], [65, 66, 67, 68, 69], [70, 85]]
def locs : List (List UInt8) := [[], [48, 48], [49, 48]]
def chas : List (List UInt8) := [[72, 72, 90], [72, 72, 78], [66, 72, 90]]
def IsSrc (a : Src) : Prop := a.fNetwork ∈ nets ∧ a.fStation ∈ stas ∧ a.fLocation ∈ locs ∧ a.fChannel ∈ chas
theorem source_ok {d : Dice} (hd : DiceOk d) : ∃ a d', Dice_Source d = some (a, d') ∧ IsSrc a ∧ DiceOk d' := by
  obtain ⟨v1, d1, e1, l1, u1, hd⟩ := next_ok (k := 3) (by omega) (by omega) hd
  obtain ⟨v2, d2, e2, l2, u2, hd⟩ := next_ok (k := 4) (by omega) (by omega) hd
  obtain ⟨v3, d3, e3, l3, u3, hd⟩ := next_ok (k := 3) (by omega) (by omega) hd
  obtain ⟨v4, d4, e4, l4, u4, hd⟩ := next_ok (k := 3) (by omega) (by omega) hd
  obtain ⟨x1, m1, g1⟩ := getO_in (l := nets) l1 u1
  obtain ⟨x2, m2, g2⟩ := getO_in (l := stas) l2 u2
  obtain ⟨x3, m3, g3⟩ := getO_in (l := locs) l3 u3
  obtain ⟨x4, m4, g4⟩ := getO_in (l := chas) l4 u4
  unfold nets at g1; unfold stas at g2; unfold locs at g3; unfold chas at g4
  refine ⟨⟨x1, x2, x3, x4⟩, d4, ?_, ⟨m1, m2, m3, m4⟩, hd⟩
  simp only [Dice_Source, e1, g1, e2, g2, e3, g3, e4, g4, Option.bind_some]

theorem eq_src (a b : Src) : ((a.fNetwork == b.fNetwork) && ((a.fStation == b.fStation) && ((a.fLocation == b.fLocation) && ((a.fChannel == b.fChannel) && true)))) = decide (a = b) := by
  obtain ⟨n, t, l, c⟩ := a
  obtain ⟨n', t', l', c'⟩ := b
  simp only [T_api_SourceID.mk.injEq]
  by_cases e1 : n = n' <;> by_cases e2 : t = t' <;> by_cases e3 : l = l' <;> by_cases e4 : c = c' <;> simp [e1, e2, e3, e4]
theorem roll_ok {t : List Int} (h : t.length ≤ 500) : ∃ d, made_Roll t = some d ∧ DiceOk d := ⟨⟨t, 0⟩, rfl, by simp, by simp, by simp only; omega⟩


theorem cmp_str (a b : List UInt8) : cmp_Compare_string a b = some (cmpB a b) := by
  unfold cmp_Compare_string cmp_isNaN_string
  simp only [beq_self_eq_true, Bool.not_true, Option.bind_some, Bool.false_eq_true, if_false]
  unfold cmpB
  cases h : Op.bytesLess a b with
  | true => simp
  | false => by_cases e : a = b <;> simp [e]
theorem or_next {l : List Int} {i j : Nat} (hj : j = i + 1) (hi : i < l.length) (hl : l.length < 1000) (h0 : l[i] = 0) : cmp_Or_int_l6 l i = some (.next (j : Int)) := by
  subst hj
  unfold cmp_Or_int_l6
  rw [if_pos (by simp; omega), getO_at rfl hi]
  simp only [Option.bind_some, h0, w64 (n := (i : Int) + 1) (by omega) (by omega)]
  rfl
theorem or_stop {l : List Int} {i : Nat} (hi : i < l.length) (h0 : l[i] ≠ 0) : cmp_Or_int_l6 l i = some (.stop (.inr l[i])) := by
  unfold cmp_Or_int_l6
  rw [if_pos (by simp; omega), getO_at rfl hi]
  simp only [Option.bind_some]
  rw [if_pos (by simpa using h0)]
theorem or_end {l : List Int} {n : Nat} (hn : n = l.length) : cmp_Or_int_l6 l n = some (.stop (.inl ())) := by
  subst hn
  unfold cmp_Or_int_l6
  rw [if_neg (by simp)]
theorem or4 (a b c d : Int) : cmp_Or_int [a, b, c, d] = some (if a ≠ 0 then a else if b ≠ 0 then b else if c ≠ 0 then c else d) := by
  show ((loopO (cmp_Or_int_l6 [a, b, c, d]) ((0 : Nat) : Int)).bind _) = _
  by_cases ha : a = 0
  · rw [loopO_next (or_next (i := 0) (j := 1) rfl (by simp) (by simp) (by simpa using ha)), if_neg (by simpa using ha)]
    by_cases hb : b = 0
    · rw [loopO_next (or_next (i := 1) (j := 2) rfl (by simp) (by simp) (by simpa using hb)), if_neg (by simpa using hb)]
      by_cases hc : c = 0
      · rw [loopO_next (or_next (i := 2) (j := 3) rfl (by simp) (by simp) (by simpa using hc)), if_neg (by simpa using hc)]
        by_cases hd : d = 0
        · rw [loopO_next (or_next (i := 3) (j := 4) rfl (by simp) (by simp) (by simpa using hd)), loopO_stop (or_end (n := 4) rfl)]
          rw [hd]; rfl
        · rw [loopO_stop (or_stop (i := 3) (by simp) (by simpa using hd))]; rfl
      · rw [loopO_stop (or_stop (i := 2) (by simp) (by simpa using hc)), if_pos hc]; rfl
    · rw [loopO_stop (or_stop (i := 1) (by simp) (by simpa using hb)), if_pos hb]; rfl
  · rw [loopO_stop (or_stop (i := 0) (by simp) (by simpa using ha)), if_pos (by simpa using ha)]; rfl

/-- Identifiers compared. -/
def cmpS (a b : Src) : Int := if cmpB a.fNetwork b.fNetwork ≠ 0 then cmpB a.fNetwork b.fNetwork else if cmpB a.fStation b.fStation ≠ 0 then cmpB a.fStation b.fStation else if cmpB a.fLocation b.fLocation ≠ 0 then cmpB a.fLocation b.fLocation else cmpB a.fChannel b.fChannel
theorem Compare_eq (a b : Src) : source_Compare a b = some (cmpS a b) := by
  unfold source_Compare
  simp only [cmp_str, Option.bind_some, or4]
  rfl
theorem cmpS_tot : Tot cmpS := (cmpB_tot.map fun x : Src => x.fNetwork).or ((cmpB_tot.map fun x : Src => x.fStation).or ((cmpB_tot.map fun x : Src => x.fLocation).or (cmpB_tot.map fun x : Src => x.fChannel)))
theorem cmpS_zero {a b : Src} (h : cmpS a b = 0) : a = b := by
  unfold cmpS at h
  obtain ⟨n, t, l, c⟩ := a
  obtain ⟨n', t', l', c'⟩ := b
  simp only at h
  by_cases h1 : cmpB n n' = 0
  · rw [if_neg (by simpa using h1)] at h
    by_cases h2 : cmpB t t' = 0
    · rw [if_neg (by simpa using h2)] at h
      by_cases h3 : cmpB l l' = 0
      · rw [if_neg (by simpa using h3)] at h
        rw [cmpB_zero] at h h1 h2 h3
        subst h h1 h2 h3; rfl
      · rw [if_pos h3] at h; exact (h3 h).elim
    · rw [if_pos h2] at h; exact (h2 h).elim
  · rw [if_pos h1] at h; exact (h1 h).elim
theorem cmpS_range (a b : Src) : -1 ≤ cmpS a b ∧ cmpS a b ≤ 1 := by
  unfold cmpS
  repeat' split
  all_goals exact cmpB_range _ _
theorem lt3_eq : lt3 source_Compare = fun x y => decide (cmpS x y < 0) := by
  funext x y
  unfold lt3
  rw [Compare_eq]; rfl
theorem Compare_ok : CmpOk source_Compare := ⟨fun x y => ⟨_, Compare_eq x y⟩, by rw [lt3_eq]; exact cmpS_tot.swo⟩

theorem eqs (a b : Src) : ((a.fNetwork == b.fNetwork) && ((a.fStation == b.fStation) && ((a.fLocation == b.fLocation) && ((a.fChannel == b.fChannel) && true)))) = decide (a = b) := by
  rw [eq_src]
/-! ### Loops over a list -/
theorem byteO_at {s : List UInt8} {n : Int} {i : Nat} (hn : n = i) (hi : i < s.length) : byteO s n = some ((s[i].toNat : Nat) : Int) := by
  subst hn
  unfold byteO
  rw [if_pos ⟨by omega, by omega⟩, Int.toNat_natCast, List.getD_eq_getElem?_getD, List.getElem?_eq_getElem hi]; rfl
theorem cutO_at {α : Type} {l : List α} {a b : Int} {i j : Nat} (ha : a = i) (hb : b = j) (h1 : i ≤ j) (h2 : j ≤ l.length) : cutO l a b = some ((l.drop i).take (j - i)) := by
  subst ha hb
  unfold cutO
  rw [if_pos ⟨by omega, by omega, by omega⟩, Int.toNat_natCast, Int.toNat_natCast]
theorem catO_at {a b : List UInt8} (h : a.length + b.length ≤ 9223372036854775807) : catO a b = some (a ++ b) := by
  unfold catO
  rw [if_pos (by omega)]
theorem appO_at {α : Type} {l m : List α} {b : Nat} (h : (l.length + m.length) * b ≤ 140737488355328) : appO l m b = some (l ++ m) := by
  unfold appO
  rw [if_pos h]
theorem loop_list {α ω : Type} {body : Int → Option (Step1 Int ω)} (l : List α) {p : α → Bool} {u r : ω} (h1 : ∀ (i : Nat) (hi : i < l.length), body i = if p l[i] = true then some (.next ((i + 1 : Nat) : Int)) else some (.stop r))
    (h2 : body (l.length : Nat) = some (.stop u)) : loopO body (0 : Int) = some (if l.all p = true then u else r) := by
  have : ∀ k i, i + k = l.length → loopO body (i : Int) = some (if (l.drop i).all p = true then u else r) := by
    intro k
    induction k with
    | zero =>
      intro i hi
      obtain rfl : i = l.length := by omega
      rw [loopO_stop h2]; simp
    | succ k ih =>
      intro i hi
      have hlt : i < l.length := by omega
      rw [List.drop_eq_getElem_cons hlt, List.all_cons]
      by_cases hp : p l[i] = true
      · rw [loopO_next (by rw [h1 i hlt, if_pos hp]), ih (i + 1) (by omega), hp, Bool.true_and]
      · rw [loopO_stop (by rw [h1 i hlt, if_neg hp])]; simp [hp]
  have := this l.length 0 (by omega)
  simpa using this

/-- A loop over places, with an early stop. -/
theorem loop_upto {ω : Type} {body : Int → Option (Step1 Int ω)} (n : Nat) {q : Nat → Bool} {u : ω} {r : Nat → ω} (h1 : ∀ i, i < n → body i = if q i = true then some (.next ((i + 1 : Nat) : Int)) else some (.stop (r i)))
    (h2 : body (n : Nat) = some (.stop u)) : (loopO body (0 : Int) = some u ∧ ∀ i, i < n → q i = true) ∨ ∃ i, i < n ∧ loopO body (0 : Int) = some (r i) ∧ q i = false ∧ ∀ j, j < i → q j = true := by
  have : ∀ k i, i + k = n → (∀ j, j < i → q j = true) → (loopO body (i : Int) = some u ∧ ∀ i, i < n → q i = true) ∨ ∃ m, m < n ∧ loopO body (i : Int) = some (r m) ∧ q m = false ∧ ∀ j, j < m → q j = true := by
    intro k
    induction k with
    | zero =>
      intro i hi hj
      obtain rfl : i = n := by omega
      exact .inl ⟨loopO_stop h2, hj⟩
    | succ k ih =>
      intro i hi hj
      by_cases hp : q i = true
      · rw [loopO_next (by rw [h1 i (by omega), if_pos hp])]
        exact ih (i + 1) (by omega) fun j hj' => by
          by_cases e : j = i
          · subst e; exact hp
          · exact hj j (by omega)
      · exact .inr ⟨i, by omega, loopO_stop (by rw [h1 i (by omega), if_neg hp]), by simpa using hp, hj⟩
  exact this n 0 (by omega) fun j hj => by omega
theorem loop_all {ω : Type} {body : Int → Option (Step1 Int ω)} (n : Nat) {q : Nat → Bool} {u r : ω} (h1 : ∀ i, i < n → body i = if q i = true then some (.next ((i + 1 : Nat) : Int)) else some (.stop r))
    (h2 : body (n : Nat) = some (.stop u)) : loopO body (0 : Int) = some (if (List.range n).all q = true then u else r) := by
  rcases loop_upto n h1 h2 with ⟨h, h'⟩ | ⟨i, hi, h, h', -⟩
  · rw [h, if_pos (List.all_eq_true.2 fun i hi => h' i (List.mem_range.1 hi))]
  · rw [h, if_neg (fun ha => by have := List.all_eq_true.1 ha i (List.mem_range.2 hi); rw [h'] at this; cases this)]
theorem ite_and (b c : Bool) : (if b = true then some c else some false) = some (b && c) := by cases b <;> rfl
theorem ite_nand (b : Bool) {α : Type} (x y : α) : (if (!b) = true then x else y) = if b = true then y else x := by cases b <;> rfl

/-! ### Codes -/
def plainB (c : UInt8) : Bool := (decide (65 ≤ c.toNat) && decide (c.toNat ≤ 90)) || (decide (48 ≤ c.toNat) && decide (c.toNat ≤ 57))
theorem dec1 (n : Nat) : decide ((n : Int) ≥ 65) = decide (65 ≤ n) := decide_eq_decide.2 (by omega)
theorem dec2 (n : Nat) : decide ((n : Int) ≤ 90) = decide (n ≤ 90) := decide_eq_decide.2 (by omega)
theorem dec3 (n : Nat) : decide ((n : Int) ≥ 48) = decide (48 ≤ n) := decide_eq_decide.2 (by omega)
theorem dec4 (n : Nat) : decide ((n : Int) ≤ 57) = decide (n ≤ 57) := decide_eq_decide.2 (by omega)
theorem plain_eq (c : UInt8) : source_plain ((c.toNat : Nat) : Int) = some (plainB c) := by
  unfold source_plain plainB
  rw [dec1, dec2, dec3, dec4]
  cases decide (65 ≤ c.toNat) <;> cases decide (c.toNat ≤ 90) <;> cases decide (48 ≤ c.toNat) <;> simp
def codeB (s : List UInt8) (lo hi : Int) : Bool := s.all plainB && (decide ((s.length : Int) ≥ lo) && decide ((s.length : Int) ≤ hi))
theorem code_l7 {s : List UInt8} (hs : s.length ≤ 9223372036854775807) : loopO (source_code_l7 s) (0 : Int) = some (if s.all plainB = true then .inl () else .inr false) := by
  refine loop_list s (fun i hi => ?_) ?_
  · unfold source_code_l7
    rw [if_pos (by simp; omega), byteO_at rfl hi, w64 (by omega) (by omega)]
    simp only [Option.bind_some, plain_eq]
    cases plainB s[i] <;> simp
  · unfold source_code_l7
    rw [if_neg (by simp)]
theorem code_eq {s : List UInt8} (hs : s.length ≤ 9223372036854775807) (lo hi : Int) : source_code s lo hi = some (codeB s lo hi) := by
  unfold source_code codeB
  rw [code_l7 hs]
  cases s.all plainB with
  | true => cases decide ((s.length : Int) ≥ lo) <;> simp
  | false => rfl
theorem ref_code_l16 {s : List UInt8} (hs : s.length ≤ 9223372036854775807) : loopO (ref03_code_l16 s) (0 : Int) = some (if s.all plainB = true then .inl () else .inr false) := by
  refine loop_list s (fun i hi => ?_) ?_
  · unfold ref03_code_l16
    rw [if_pos (by simp; omega), byteO_at rfl hi, w64 (by omega) (by omega)]
    simp only [Option.bind_some, dec1, dec2, dec3, dec4]
    unfold plainB
    cases decide (65 ≤ s[i].toNat) <;> cases decide (s[i].toNat ≤ 90) <;> cases decide (48 ≤ s[i].toNat) <;> cases decide (s[i].toNat ≤ 57) <;> simp
  · unfold ref03_code_l16
    rw [if_neg (by simp)]
theorem ref_code_eq {s : List UInt8} (hs : s.length ≤ 9223372036854775807) (lo hi : Int) : ref03_code s lo hi = some (codeB s lo hi) := by
  unfold ref03_code codeB
  rw [ref_code_l16 hs]
  cases s.all plainB with
  | true => cases decide ((s.length : Int) ≥ lo) <;> simp
  | false => rfl

def SrcOk (x : Src) : Prop := x.fNetwork.length ≤ 9223372036854775807 ∧ x.fStation.length ≤ 9223372036854775807 ∧ x.fLocation.length ≤ 9223372036854775807 ∧ x.fChannel.length ≤ 9223372036854775807
def validB (x : Src) : Bool := codeB x.fNetwork 1 2 && (codeB x.fStation 1 5 && (codeB x.fLocation 0 2 && (decide (x.fLocation.length ≠ 1) && codeB x.fChannel 3 3)))
theorem Valid_eq {x : Src} (hx : SrcOk x) : source_Valid x = some (validB x) := by
  obtain ⟨h1, h2, h3, h4⟩ := hx
  unfold source_Valid validB
  simp only [code_eq h1, code_eq h2, code_eq h3, code_eq h4, Option.bind_some]
  have e : ((x.fLocation.length : Int) != 1) = decide (x.fLocation.length ≠ 1) := by
    by_cases h : x.fLocation.length = 1
    · simp [h]
    · simp [h]; omega
  rw [e]
  cases codeB x.fNetwork 1 2 <;> cases codeB x.fStation 1 5 <;> cases codeB x.fLocation 0 2 <;> cases decide (x.fLocation.length ≠ 1) <;> simp
theorem loc_eq (s : List UInt8) : (codeB s 0 2 && decide (s.length ≠ 1)) = (decide (s = []) || codeB s 2 2) := by
  unfold codeB
  match s with
  | [] => simp
  | [a] => simp
  | [a, b] => simp
  | a :: b :: c :: r =>
    have h1 : decide (((a :: b :: c :: r).length : Int) ≤ 2) = false := by simp; omega
    rw [h1]; simp
theorem ref_Valid_eq {x : Src} (hx : SrcOk x) : ref03_Valid x = some (validB x) := by
  obtain ⟨h1, h2, h3, h4⟩ := hx
  unfold ref03_Valid validB
  simp only [ref_code_eq h1, ref_code_eq h2, ref_code_eq h3, ref_code_eq h4, Option.bind_some]
  rw [← Bool.and_assoc (codeB x.fLocation 0 2), loc_eq]
  by_cases e : x.fLocation = []
  · cases codeB x.fNetwork 1 2 <;> cases codeB x.fStation 1 5 <;> simp [e]
  · cases codeB x.fNetwork 1 2 <;> cases codeB x.fStation 1 5 <;> cases codeB x.fLocation 2 2 <;> simp [e]
theorem codeB_len {s : List UInt8} {lo : Int} {hi : Nat} (h : codeB s lo hi = true) : s.length ≤ hi := by
  unfold codeB at h
  simp only [Bool.and_eq_true, decide_eq_true_eq] at h
  omega
theorem valid_len {x : Src} (h : validB x = true) : x.fNetwork.length ≤ 2 ∧ x.fStation.length ≤ 5 ∧ x.fLocation.length ≤ 2 ∧ x.fChannel.length ≤ 3 := by
  unfold validB at h
  simp only [Bool.and_eq_true] at h
  exact ⟨codeB_len (hi := 2) h.1, codeB_len (hi := 5) h.2.1, codeB_len (hi := 2) h.2.2.1, codeB_len (hi := 3) h.2.2.2.2⟩

theorem four {α : Type} {l : List α} (h : l.length = 4) : ∃ a b c d, l = [a, b, c, d] := by
  match l, h with
  | [a, b, c, d], _ => exact ⟨a, b, c, d, rfl⟩
theorem getO4 {α : Type} (a b c d : α) : getO [a, b, c, d] 0 = some a ∧ getO [a, b, c, d] 1 = some b ∧ getO [a, b, c, d] 2 = some c ∧ getO [a, b, c, d] 3 = some d := ⟨rfl, rfl, rfl, rfl⟩
theorem inO4 {α : Type} (a b c d : α) : inO [a, b, c, d] 0 = some () ∧ inO [a, b, c, d] 1 = some () ∧ inO [a, b, c, d] 2 = some () ∧ inO [a, b, c, d] 3 = some () := ⟨rfl, rfl, rfl, rfl⟩

/-! ### Matching -/
def fitsB : List UInt8 → List UInt8 → Bool
  | [], s => s.isEmpty
  | c :: p, s => if c = 42 then (List.range (s.length + 1)).any (fun i => fitsB p (s.drop i)) else match s with | [] => false | d :: t => (decide (c = 63) || decide (c = d)) && fitsB p t
theorem fitsB_cons (c : UInt8) (p s : List UInt8) : fitsB (c :: p) s = if c = 42 then (List.range (s.length + 1)).any (fun i => fitsB p (s.drop i)) else match s with | [] => false | d :: t => (decide (c = 63) || decide (c = d)) && fitsB p t := by
  cases s <;> rfl
theorem e42 (c : UInt8) : (((c.toNat : Nat) : Int) == 42) = decide (c = 42) := by
  by_cases h : c = 42
  · subst h; rfl
  · have : c.toNat ≠ 42 := fun e => h (UInt8.toNat_inj.1 e)
    simp [h]; omega
theorem e63 (c : UInt8) : (((c.toNat : Nat) : Int) == 63) = decide (c = 63) := by
  by_cases h : c = 63
  · subst h; rfl
  · have : c.toNat ≠ 63 := fun e => h (UInt8.toNat_inj.1 e)
    simp [h]; omega
theorem ecd (c d : UInt8) : (((c.toNat : Nat) : Int) == ((d.toNat : Nat) : Int)) = decide (c = d) := by
  by_cases h : c = d
  · subst h; simp
  · have : c.toNat ≠ d.toNat := fun e => h (UInt8.toNat_inj.1 e)
    simp [h]; omega
theorem byte0 (c : UInt8) (p : List UInt8) : byteO (c :: p) 0 = some ((c.toNat : Nat) : Int) := byteO_at (i := 0) rfl (by simp)
theorem cut1 (c : UInt8) (p : List UInt8) : cutO (c :: p) 1 (((c :: p).length : Nat) : Int) = some p := by
  have := cutO_at (l := c :: p) (a := 1) (b := (((c :: p).length : Nat) : Int)) (i := 1) (j := (c :: p).length) rfl rfl (by simp) (Nat.le_refl _)
  rw [this]
  simp
theorem fitsN_eq : ∀ (n : Nat) (p s : List UInt8), p.length + s.length < n → source_fitsN n p s = some (fitsB p s) := by
  intro n
  induction n with
  | zero => intro p s h; omega
  | succ n ih =>
    intro p s h
    unfold source_fitsN
    match p with
    | [] => cases s <;> simp [fitsB]
    | c :: p =>
      rw [if_neg (by simp), byte0, cut1]
      simp only [Option.bind_some, e42, e63]
      simp only [List.length_cons] at h
      by_cases h1 : c = 42
      · rw [if_pos (by simpa using h1), ih p s (by omega), Option.bind_some]
        have hf : fitsB (c :: p) s = (List.range (s.length + 1)).any (fun i => fitsB p (s.drop i)) := by rw [fitsB_cons, if_pos h1]
        match s with
        | [] => rw [hf]; cases h2 : fitsB p [] <;> simp [h2, List.range_succ]
        | d :: t =>
          have e2 : source_fitsN n (c :: p) t = some (fitsB (c :: p) t) := ih (c :: p) t (by simp at h ⊢; omega)
          have hf2 : fitsB (c :: p) t = (List.range (t.length + 1)).any (fun i => fitsB p (t.drop i)) := by rw [fitsB_cons, if_pos h1]
          rw [cut1 d t, hf, List.length_cons, List.range_succ_eq_map (n := t.length + 1), List.any_cons, List.any_map, List.drop_zero]
          cases h3 : fitsB p (d :: t) with
          | true => simp
          | false =>
            rw [if_neg (by simp), if_pos (by simp), Option.bind_some, e2, Option.bind_some, hf2]
            simp [Function.comp_def]
      · rw [if_neg (by simpa using h1)]
        match s with
        | [] => simp [fitsB, h1]
        | d :: t =>
          rw [if_pos (by simp), cut1, byte0]
          simp only [Option.bind_some, ecd, ih p t (by simp at h ⊢; omega)]
          have hf : fitsB (c :: p) (d :: t) = ((decide (c = 63) || decide (c = d)) && fitsB p t) := by rw [fitsB_cons, if_neg h1]
          rw [hf]
          by_cases h2 : c = 63 <;> by_cases h3 : c = d <;> simp [h2, h3]
theorem fits_eq (p s : List UInt8) : source_fits p s = some (fitsB p s) := Le.recO (fun n => source_fitsN_up n p s) (p.length + s.length + 1) _ (fitsN_eq _ p s (by omega))
def matchB (a b c d : List UInt8) (x : Src) : Bool := fitsB a x.fNetwork && (fitsB b x.fStation && (fitsB c x.fLocation && fitsB d x.fChannel))
theorem match_eq (a b c d : List UInt8) (x : Src) : source_match [a, b, c, d] x = some (matchB a b c d x) := by
  obtain ⟨g0, g1, g2, g3⟩ := getO4 a b c d
  unfold source_match source_parts matchB
  simp only [g0, g1, g2, g3, Option.bind_some, fits_eq]
  cases fitsB a x.fNetwork <;> cases fitsB b x.fStation <;> cases fitsB c x.fLocation <;> cases fitsB d x.fChannel <;> rfl
end Go.Dw.It
