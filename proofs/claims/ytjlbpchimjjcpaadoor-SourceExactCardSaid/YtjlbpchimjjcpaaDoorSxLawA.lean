/- SxLawA: the functions of the law SourceExact and of its reference, each in plain Lean. -/
import Derived.Test.YtjlbpchimjjcpaaDoorSxCo
import Derived.Test.YtjlbpchimjjcpaaDoorDwPlain
set_option maxRecDepth 100000
set_option maxHeartbeats 4000000
namespace Go.Dw.Sx
open Go.Dw
abbrev Dice := T_seismonetmade_Dice
abbrev Src := T_api_SourceID

def DiceOk (d : Dice) : Prop := 0 ≤ d.fAt ∧ d.fAt ≤ d.fL.length ∧ d.fL.length ≤ 1000000
theorem next_ok {k : Int} {d : Dice} (hk : 1 ≤ k) (hk' : k ≤ 1000000) (hd : DiceOk d) : ∃ v d', Dice_Next k d = some (v, d') ∧ 0 ≤ v ∧ v < k ∧ DiceOk d' := by
  obtain ⟨h0, h1, h2⟩ := hd
  unfold Dice_Next
  by_cases ha : d.fAt ≥ (d.fL.length : Int)
  · rw [if_pos (decide_eq_true ha)]
    exact ⟨0, d, rfl, Int.le_refl _, by omega, h0, h1, h2⟩
  rw [if_neg (by simpa using ha), if_neg (by simp; omega)]
  have hg : getO d.fL d.fAt = some (d.fL[d.fAt.toNat]'(by omega)) := by
    unfold getO
    rw [if_pos h0, List.getElem?_eq_getElem]
  rw [hg]
  generalize d.fL[d.fAt.toNat]'(by omega) = n
  have hw : IntKind.wrap .i64 (d.fAt + 1) = d.fAt + 1 := IntWalk.i64_in _ (by omega)
  have hd' : DiceOk (T_seismonetmade_Dice.mk d.fL (IntKind.wrap .i64 (d.fAt + (1 : Int)))) := by
    rw [hw]; exact ⟨by simp only; omega, by simp only; omega, h2⟩
  have hr : remO n k = some (n.tmod k) := by unfold remO; rw [if_neg (by omega)]
  have hl : n.tmod k < k := Int.tmod_lt_of_pos _ (by omega)
  have hg' : -k < n.tmod k := by
    rcases Int.le_total 0 n with h | h
    · have := Int.tmod_nonneg k h; omega
    · have e : n.tmod k = -((-n).tmod k) := by rw [Int.neg_tmod]; omega
      have := Int.tmod_lt_of_pos (-n) (show 0 < k by omega)
      omega
  simp only [Option.bind_some, hr]
  by_cases hn : n.tmod k < 0
  · rw [if_pos (decide_eq_true hn)]
    have hw2 : IntKind.wrap .i64 (n.tmod k + k) = n.tmod k + k := IntWalk.i64_in _ (by omega)
    exact ⟨_, _, rfl, by rw [hw2]; omega, by rw [hw2]; omega, hd'⟩
  · rw [if_neg (by simpa using hn)]
    exact ⟨_, _, rfl, by omega, hl, hd'⟩
theorem getO_in {α : Type} {l : List α} {n : Int} (h0 : 0 ≤ n) (h1 : n < l.length) : ∃ x, x ∈ l ∧ getO l n = some x := by
  refine ⟨l[n.toNat]'(by omega), List.getElem_mem _, ?_⟩
  unfold getO
  rw [if_pos h0, List.getElem?_eq_getElem]

def nets : List (List UInt8) := [[71, 82], [88], [55, 65]]
def stas : List (List UInt8) := [[70, 85, 82], [65], [65, 66, 67, 68, 69], [70, 85]]
def locs : List (List UInt8) := [[], [48, 48], [49, 48]]
def chas : List (List UInt8) := [[72, 72, 90], [72, 72, 78], [66, 72, 90]]
def IsSrc (a : Src) : Prop := a.fNetwork ∈ nets ∧ a.fStation ∈ stas ∧ a.fLocation ∈ locs ∧ a.fChannel ∈ chas
theorem source_ok {d : Dice} (hd : DiceOk d) : ∃ a d', Dice_Source d = some (a, d') ∧ IsSrc a ∧ DiceOk d' := by
  obtain ⟨v1, d1, e1, l1, u1, hd⟩ := next_ok (k := 3) (by omega) (by omega) hd
  obtain ⟨v2, d2, e2, l2, u2, hd⟩ := next_ok (k := 4) (by omega) (by omega) hd
  obtain ⟨v3, d3, e3, l3, u3, hd⟩ := next_ok (k := 3) (by omega) (by omega) hd
  obtain ⟨v4, d4, e4, l4, u4, hd⟩ := next_ok (k := 3) (by omega) (by omega) hd
  obtain ⟨x1, m1, g1⟩ := getO_in (l := nets) l1 u1
  obtain ⟨x2, m2, g2⟩ := getO_in (l := stas) l2 u2
  obtain ⟨x3, m3, g3⟩ := getO_in (l := locs) l3 u3
  obtain ⟨x4, m4, g4⟩ := getO_in (l := chas) l4 u4
  unfold nets at g1; unfold stas at g2; unfold locs at g3; unfold chas at g4
  refine ⟨⟨x1, x2, x3, x4⟩, d4, ?_, ⟨m1, m2, m3, m4⟩, hd⟩
  simp only [Dice_Source, e1, g1, e2, g2, e3, g3, e4, g4, Option.bind_some]

theorem sane_at : law03_sane = some true := law03_sane_le _ (by kernel_rfl)
theorem eq_src (a b : Src) : ((a.fNetwork == b.fNetwork) && ((a.fStation == b.fStation) && ((a.fLocation == b.fLocation) && ((a.fChannel == b.fChannel) && true)))) = decide (a = b) := by
  obtain ⟨n, t, l, c⟩ := a
  obtain ⟨n', t', l', c'⟩ := b
  simp only [T_api_SourceID.mk.injEq]
  by_cases e1 : n = n' <;> by_cases e2 : t = t' <;> by_cases e3 : l = l' <;> by_cases e4 : c = c' <;> simp [e1, e2, e3, e4]
theorem roll_ok {t : List Int} (h : t.length ≤ 500) : ∃ d, made_Roll t = some d ∧ DiceOk d := ⟨⟨t, 0⟩, rfl, by simp, by simp, by simp only; omega⟩


theorem cmp_str (a b : List UInt8) : cmp_Compare_string a b = some (cmpB a b) := by
  unfold cmp_Compare_string cmp_isNaN_string
  simp only [beq_self_eq_true, Bool.not_true, Option.bind_some, Bool.false_eq_true, if_false]
  unfold cmpB
  cases h : Op.bytesLess a b with
  | true => simp
  | false => by_cases e : a = b <;> simp [e]
theorem or_next {l : List Int} {i j : Nat} (hj : j = i + 1) (hi : i < l.length) (hl : l.length < 1000) (h0 : l[i] = 0) : cmp_Or_int_l6 l i = some (.next (j : Int)) := by
  subst hj
  unfold cmp_Or_int_l6
  rw [if_pos (by simp; omega), getO_at rfl hi]
  simp only [Option.bind_some, h0, w64 (n := (i : Int) + 1) (by omega) (by omega)]
  rfl
theorem or_stop {l : List Int} {i : Nat} (hi : i < l.length) (h0 : l[i] ≠ 0) : cmp_Or_int_l6 l i = some (.stop (.inr l[i])) := by
  unfold cmp_Or_int_l6
  rw [if_pos (by simp; omega), getO_at rfl hi]
  simp only [Option.bind_some]
  rw [if_pos (by simpa using h0)]
theorem or_end {l : List Int} {n : Nat} (hn : n = l.length) : cmp_Or_int_l6 l n = some (.stop (.inl ())) := by
  subst hn
  unfold cmp_Or_int_l6
  rw [if_neg (by simp)]
theorem or4 (a b c d : Int) : cmp_Or_int [a, b, c, d] = some (if a ≠ 0 then a else if b ≠ 0 then b else if c ≠ 0 then c else d) := by
  show ((loopO (cmp_Or_int_l6 [a, b, c, d]) ((0 : Nat) : Int)).bind _) = _
  by_cases ha : a = 0
  · rw [loopO_next (or_next (i := 0) (j := 1) rfl (by simp) (by simp) (by simpa using ha)), if_neg (by simpa using ha)]
    by_cases hb : b = 0
    · rw [loopO_next (or_next (i := 1) (j := 2) rfl (by simp) (by simp) (by simpa using hb)), if_neg (by simpa using hb)]
      by_cases hc : c = 0
      · rw [loopO_next (or_next (i := 2) (j := 3) rfl (by simp) (by simp) (by simpa using hc)), if_neg (by simpa using hc)]
        by_cases hd : d = 0
        · rw [loopO_next (or_next (i := 3) (j := 4) rfl (by simp) (by simp) (by simpa using hd)), loopO_stop (or_end (n := 4) rfl)]
          rw [hd]; rfl
        · rw [loopO_stop (or_stop (i := 3) (by simp) (by simpa using hd))]; rfl
      · rw [loopO_stop (or_stop (i := 2) (by simp) (by simpa using hc)), if_pos hc]; rfl
    · rw [loopO_stop (or_stop (i := 1) (by simp) (by simpa using hb)), if_pos hb]; rfl
  · rw [loopO_stop (or_stop (i := 0) (by simp) (by simpa using ha)), if_pos (by simpa using ha)]; rfl

/-- Identifiers compared. -/
def cmpS (a b : Src) : Int := if cmpB a.fNetwork b.fNetwork ≠ 0 then cmpB a.fNetwork b.fNetwork else if cmpB a.fStation b.fStation ≠ 0 then cmpB a.fStation b.fStation else if cmpB a.fLocation b.fLocation ≠ 0 then cmpB a.fLocation b.fLocation else cmpB a.fChannel b.fChannel
theorem Compare_eq (a b : Src) : source_Compare a b = some (cmpS a b) := by
  unfold source_Compare
  simp only [cmp_str, Option.bind_some, or4]
  rfl
theorem cmpS_tot : Tot cmpS := (cmpB_tot.map fun x : Src => x.fNetwork).or ((cmpB_tot.map fun x : Src => x.fStation).or ((cmpB_tot.map fun x : Src => x.fLocation).or (cmpB_tot.map fun x : Src => x.fChannel)))
theorem cmpS_zero {a b : Src} (h : cmpS a b = 0) : a = b := by
  unfold cmpS at h
  obtain ⟨n, t, l, c⟩ := a
  obtain ⟨n', t', l', c'⟩ := b
  simp only at h
  by_cases h1 : cmpB n n' = 0
  · rw [if_neg (by simpa using h1)] at h
    by_cases h2 : cmpB t t' = 0
    · rw [if_neg (by simpa using h2)] at h
      by_cases h3 : cmpB l l' = 0
      · rw [if_neg (by simpa using h3)] at h
        rw [cmpB_zero] at h h1 h2 h3
        subst h h1 h2 h3; rfl
      · rw [if_pos h3] at h; exact (h3 h).elim
    · rw [if_pos h2] at h; exact (h2 h).elim
  · rw [if_pos h1] at h; exact (h1 h).elim
theorem cmpS_range (a b : Src) : -1 ≤ cmpS a b ∧ cmpS a b ≤ 1 := by
  unfold cmpS
  repeat' split
  all_goals exact cmpB_range _ _
theorem lt3_eq : lt3 source_Compare = fun x y => decide (cmpS x y < 0) := by
  funext x y
  unfold lt3
  rw [Compare_eq]; rfl
theorem Compare_ok : CmpOk source_Compare := ⟨fun x y => ⟨_, Compare_eq x y⟩, by rw [lt3_eq]; exact cmpS_tot.swo⟩

instance : DecidableEq Src := fun a b => decidable_of_iff (a.fNetwork = b.fNetwork ∧ a.fStation = b.fStation ∧ a.fLocation = b.fLocation ∧ a.fChannel = b.fChannel) (by
  obtain ⟨n, t, l, c⟩ := a
  obtain ⟨n', t', l', c'⟩ := b
  simp)
theorem eqs (a b : Src) : ((a.fNetwork == b.fNetwork) && ((a.fStation == b.fStation) && ((a.fLocation == b.fLocation) && ((a.fChannel == b.fChannel) && true)))) = decide (a = b) := by
  rw [eq_src]
  exact decide_eq_decide.2 Iff.rfl
def eqF (a b : Src) : Bool := ((a.fNetwork == b.fNetwork) && ((a.fStation == b.fStation) && ((a.fLocation == b.fLocation) && ((a.fChannel == b.fChannel) && true))))
theorem Compact_eq (l : List Src) : slices_Compact_SourceID l = compactG eqF ⟨[], [], [], []⟩ l := by
  have h1 : slices_Compact_SourceID_l31 = compactG_l31 eqF := by funext s d ⟨a, b, c⟩; rfl
  have h2 : slices_Compact_SourceID_l38 = compactG_l38 eqF ⟨[], [], [], []⟩ := by
    funext d s
    unfold slices_Compact_SourceID_l38 compactG_l38
    rw [h1]; rfl
  unfold slices_Compact_SourceID compactG
  rw [h2]
  refine ite_congr rfl (fun _ => rfl) fun _ => ?_
  refine congrArg _ (funext fun o => ?_)
  rcases o with _ | _ <;> rfl

/-! ### Loops over a list -/
theorem byteO_at {s : List UInt8} {n : Int} {i : Nat} (hn : n = i) (hi : i < s.length) : byteO s n = some ((s[i].toNat : Nat) : Int) := by
  subst hn
  unfold byteO
  rw [if_pos ⟨by omega, by omega⟩, Int.toNat_natCast, List.getD_eq_getElem?_getD, List.getElem?_eq_getElem hi]; rfl
theorem cutO_at {α : Type} {l : List α} {a b : Int} {i j : Nat} (ha : a = i) (hb : b = j) (h1 : i ≤ j) (h2 : j ≤ l.length) : cutO l a b = some ((l.drop i).take (j - i)) := by
  subst ha hb
  unfold cutO
  rw [if_pos ⟨by omega, by omega, by omega⟩, Int.toNat_natCast, Int.toNat_natCast]
theorem catO_at {a b : List UInt8} (h : a.length + b.length ≤ 9223372036854775807) : catO a b = some (a ++ b) := by
  unfold catO
  rw [if_pos (by omega)]
theorem appO_at {α : Type} {l m : List α} {b : Nat} (h : (l.length + m.length) * b ≤ 140737488355328) : appO l m b = some (l ++ m) := by
  unfold appO
  rw [if_pos h]
theorem loop_list {α ω : Type} {body : Int → Option (Step1 Int ω)} (l : List α) {p : α → Bool} {u r : ω} (h1 : ∀ (i : Nat) (hi : i < l.length), body i = if p l[i] = true then some (.next ((i + 1 : Nat) : Int)) else some (.stop r))
    (h2 : body (l.length : Nat) = some (.stop u)) : loopO body (0 : Int) = some (if l.all p = true then u else r) := by
  have : ∀ k i, i + k = l.length → loopO body (i : Int) = some (if (l.drop i).all p = true then u else r) := by
    intro k
    induction k with
    | zero =>
      intro i hi
      obtain rfl : i = l.length := by omega
      rw [loopO_stop h2]; simp
    | succ k ih =>
      intro i hi
      have hlt : i < l.length := by omega
      rw [List.drop_eq_getElem_cons hlt, List.all_cons]
      by_cases hp : p l[i] = true
      · rw [loopO_next (by rw [h1 i hlt, if_pos hp]), ih (i + 1) (by omega), hp, Bool.true_and]
      · rw [loopO_stop (by rw [h1 i hlt, if_neg hp])]; simp [hp]
  have := this l.length 0 (by omega)
  simpa using this

/-! ### Codes -/
def plainB (c : UInt8) : Bool := (decide (65 ≤ c.toNat) && decide (c.toNat ≤ 90)) || (decide (48 ≤ c.toNat) && decide (c.toNat ≤ 57))
theorem dec1 (n : Nat) : decide ((n : Int) ≥ 65) = decide (65 ≤ n) := decide_eq_decide.2 (by omega)
theorem dec2 (n : Nat) : decide ((n : Int) ≤ 90) = decide (n ≤ 90) := decide_eq_decide.2 (by omega)
theorem dec3 (n : Nat) : decide ((n : Int) ≥ 48) = decide (48 ≤ n) := decide_eq_decide.2 (by omega)
theorem dec4 (n : Nat) : decide ((n : Int) ≤ 57) = decide (n ≤ 57) := decide_eq_decide.2 (by omega)
theorem plain_eq (c : UInt8) : source_plain ((c.toNat : Nat) : Int) = some (plainB c) := by
  unfold source_plain plainB
  rw [dec1, dec2, dec3, dec4]
  cases decide (65 ≤ c.toNat) <;> cases decide (c.toNat ≤ 90) <;> cases decide (48 ≤ c.toNat) <;> simp
def codeB (s : List UInt8) (lo hi : Int) : Bool := s.all plainB && (decide ((s.length : Int) ≥ lo) && decide ((s.length : Int) ≤ hi))
theorem code_l7 {s : List UInt8} (hs : s.length ≤ 9223372036854775807) : loopO (source_code_l7 s) (0 : Int) = some (if s.all plainB = true then .inl () else .inr false) := by
  refine loop_list s (fun i hi => ?_) ?_
  · unfold source_code_l7
    rw [if_pos (by simp; omega), byteO_at rfl hi, w64 (by omega) (by omega)]
    simp only [Option.bind_some, plain_eq]
    cases plainB s[i] <;> simp
  · unfold source_code_l7
    rw [if_neg (by simp)]
theorem code_eq {s : List UInt8} (hs : s.length ≤ 9223372036854775807) (lo hi : Int) : source_code s lo hi = some (codeB s lo hi) := by
  unfold source_code codeB
  rw [code_l7 hs]
  cases s.all plainB with
  | true => cases decide ((s.length : Int) ≥ lo) <;> simp
  | false => rfl
theorem ref_code_l16 {s : List UInt8} (hs : s.length ≤ 9223372036854775807) : loopO (ref03_code_l16 s) (0 : Int) = some (if s.all plainB = true then .inl () else .inr false) := by
  refine loop_list s (fun i hi => ?_) ?_
  · unfold ref03_code_l16
    rw [if_pos (by simp; omega), byteO_at rfl hi, w64 (by omega) (by omega)]
    simp only [Option.bind_some, dec1, dec2, dec3, dec4]
    unfold plainB
    cases decide (65 ≤ s[i].toNat) <;> cases decide (s[i].toNat ≤ 90) <;> cases decide (48 ≤ s[i].toNat) <;> cases decide (s[i].toNat ≤ 57) <;> simp
  · unfold ref03_code_l16
    rw [if_neg (by simp)]
theorem ref_code_eq {s : List UInt8} (hs : s.length ≤ 9223372036854775807) (lo hi : Int) : ref03_code s lo hi = some (codeB s lo hi) := by
  unfold ref03_code codeB
  rw [ref_code_l16 hs]
  cases s.all plainB with
  | true => cases decide ((s.length : Int) ≥ lo) <;> simp
  | false => rfl

def SrcOk (x : Src) : Prop := x.fNetwork.length ≤ 9223372036854775807 ∧ x.fStation.length ≤ 9223372036854775807 ∧ x.fLocation.length ≤ 9223372036854775807 ∧ x.fChannel.length ≤ 9223372036854775807
def validB (x : Src) : Bool := codeB x.fNetwork 1 2 && (codeB x.fStation 1 5 && (codeB x.fLocation 0 2 && (decide (x.fLocation.length ≠ 1) && codeB x.fChannel 3 3)))
theorem Valid_eq {x : Src} (hx : SrcOk x) : source_Valid x = some (validB x) := by
  obtain ⟨h1, h2, h3, h4⟩ := hx
  unfold source_Valid validB
  simp only [code_eq h1, code_eq h2, code_eq h3, code_eq h4, Option.bind_some]
  have e : ((x.fLocation.length : Int) != 1) = decide (x.fLocation.length ≠ 1) := by
    by_cases h : x.fLocation.length = 1
    · simp [h]
    · simp [h]; omega
  rw [e]
  cases codeB x.fNetwork 1 2 <;> cases codeB x.fStation 1 5 <;> cases codeB x.fLocation 0 2 <;> cases decide (x.fLocation.length ≠ 1) <;> simp
theorem loc_eq (s : List UInt8) : (codeB s 0 2 && decide (s.length ≠ 1)) = (decide (s = []) || codeB s 2 2) := by
  unfold codeB
  match s with
  | [] => simp
  | [a] => simp
  | [a, b] => simp
  | a :: b :: c :: r =>
    have h1 : decide (((a :: b :: c :: r).length : Int) ≤ 2) = false := by simp; omega
    rw [h1]; simp
theorem ref_Valid_eq {x : Src} (hx : SrcOk x) : ref03_Valid x = some (validB x) := by
  obtain ⟨h1, h2, h3, h4⟩ := hx
  unfold ref03_Valid validB
  simp only [ref_code_eq h1, ref_code_eq h2, ref_code_eq h3, ref_code_eq h4, Option.bind_some]
  rw [← Bool.and_assoc (codeB x.fLocation 0 2), loc_eq]
  by_cases e : x.fLocation = []
  · cases codeB x.fNetwork 1 2 <;> cases codeB x.fStation 1 5 <;> simp [e]
  · cases codeB x.fNetwork 1 2 <;> cases codeB x.fStation 1 5 <;> cases codeB x.fLocation 2 2 <;> simp [e]
theorem codeB_len {s : List UInt8} {lo : Int} {hi : Nat} (h : codeB s lo hi = true) : s.length ≤ hi := by
  unfold codeB at h
  simp only [Bool.and_eq_true, decide_eq_true_eq] at h
  omega
theorem valid_len {x : Src} (h : validB x = true) : x.fNetwork.length ≤ 2 ∧ x.fStation.length ≤ 5 ∧ x.fLocation.length ≤ 2 ∧ x.fChannel.length ≤ 3 := by
  unfold validB at h
  simp only [Bool.and_eq_true] at h
  exact ⟨codeB_len (hi := 2) h.1, codeB_len (hi := 5) h.2.1, codeB_len (hi := 2) h.2.2.1, codeB_len (hi := 3) h.2.2.2.2⟩

/-! ### Texts -/
def fmt (x : Src) : List UInt8 := x.fNetwork ++ [46] ++ x.fStation ++ [46] ++ x.fLocation ++ [46] ++ x.fChannel
def formatB (x : Src) : List UInt8 × Int := if validB x = true then (fmt x, 0) else ([], 1)
theorem Format_eq {x : Src} (hx : SrcOk x) : source_Format x = some (formatB x) := by
  unfold source_Format formatB source_parts
  rw [Valid_eq hx, Option.bind_some]
  cases h : validB x with
  | false => simp
  | true =>
    obtain ⟨h1, h2, h3, h4⟩ := valid_len h
    have e : Lib.join [x.fNetwork, x.fStation, x.fLocation, x.fChannel] [46] = fmt x := by
      simp [Lib.join, List.intercalate, List.intersperse, fmt]
    have hl : (fmt x).length ≤ 15 := by simp [fmt]; omega
    simp only [Bool.not_true, Bool.false_eq_true, if_false, Option.bind_some, joinO, e, if_true]
    rw [if_pos ⟨by simp, by simp, by omega⟩]; rfl
theorem ref_Format_eq {x : Src} (hx : SrcOk x) : ref03_Format x = some (formatB x) := by
  unfold ref03_Format formatB
  rw [ref_Valid_eq hx, Option.bind_some]
  cases h : validB x with
  | false => simp
  | true =>
    obtain ⟨h1, h2, h3, h4⟩ := valid_len h
    rw [if_neg (by simp), catO_at (by simp; omega), Option.bind_some, catO_at (by simp; omega), Option.bind_some, catO_at (by simp; omega), Option.bind_some, catO_at (by simp; omega), Option.bind_some, catO_at (by simp; omega), Option.bind_some, catO_at (by simp; omega)]
    rfl
theorem format_len (x : Src) : (formatB x).1.length ≤ 15 := by
  unfold formatB
  split
  · rename_i h
    obtain ⟨h1, h2, h3, h4⟩ := valid_len h
    simp [fmt]; omega
  · simp

/-! ### Splitting -/
theorem splitL_ne (c : UInt8) : ∀ s, splitL c s ≠ []
  | [] => by simp [splitL]
  | x :: r => by
    unfold splitL
    split
    · simp
    · split <;> simp
theorem splitL_cons (c x : UInt8) (r : List UInt8) : ∃ q qs, splitL c r = q :: qs ∧ splitL c (x :: r) = if x = c then [] :: q :: qs else (x :: q) :: qs := by
  match h : splitL c r with
  | [] => exact (splitL_ne c r h).elim
  | q :: qs => refine ⟨q, qs, rfl, ?_⟩; rw [splitL, h]
theorem splitL_len (c : UInt8) : ∀ s, (splitL c s).length ≤ s.length + 1 ∧ ∀ p ∈ splitL c s, p.length ≤ s.length
  | [] => by simp [splitL]
  | x :: r => by
    obtain ⟨q, qs, h1, h2⟩ := splitL_cons c x r
    obtain ⟨h3, h4⟩ := splitL_len c r
    rw [h1] at h3 h4
    rw [h2]
    split
    · refine ⟨by simp at h3 ⊢; omega, fun p hp => ?_⟩
      rcases List.mem_cons.1 hp with rfl | hp
      · simp
      · have := h4 p hp; simp; omega
    · refine ⟨by simp at h3 ⊢; omega, fun p hp => ?_⟩
      rcases List.mem_cons.1 hp with rfl | hp
      · have := h4 q (by simp); simp; omega
      · have := h4 p (by simp [hp]); simp; omega
theorem u46 (c : UInt8) : (((c.toNat : Nat) : Int) == 46) = decide (c = 46) := by
  by_cases h : c = 46
  · subst h; rfl
  · have : c.toNat ≠ 46 := fun e => h (UInt8.toNat_inj.1 e)
    simp [h]; omega
theorem ref_Split_eq {s : List UInt8} (hs : s.length ≤ 4000000000) : ref03_Split s 46 = some (splitL 46 s) := by
  obtain ⟨o, h1, h2⟩ := loop_ind (body := ref03_Split_l17 s 46) (fun st : Int × List (List UInt8) => ∃ (i : Nat) (init : List (List UInt8)) (last p : List UInt8) (ps : List (List UInt8)), st = ((i : Int), init ++ [last]) ∧ i ≤ s.length ∧ init.length ≤ i ∧ last.length ≤ i ∧
      splitL 46 (s.drop i) = p :: ps ∧ splitL 46 s = init ++ (last ++ p) :: ps) (fun st => ((s.length : Int) - st.1).toNat) (fun o => o = splitL 46 s) (by
    rintro st ⟨i, init, last, p, ps, rfl, hi, hin, hla, hp, hsp⟩
    unfold ref03_Split_l17
    simp only
    by_cases hlt : i < s.length
    · rw [if_pos (by simp; omega), byteO_at rfl hlt, Option.bind_some, w64 (n := (i : Int) + 1) (by omega) (by omega)]
      have hd : s.drop i = s[i] :: s.drop (i + 1) := List.drop_eq_getElem_cons hlt
      obtain ⟨q, qs, g1, g2⟩ := splitL_cons 46 s[i] (s.drop (i + 1))
      rw [← hd, hp] at g2
      refine .inl ?_
      by_cases hc : s[i] = 46
      · rw [if_pos (by rw [u46]; simpa using hc), appO_at (by simp; omega), Option.bind_some]
        rw [if_pos hc] at g2
        obtain ⟨rfl, rfl⟩ := List.cons.inj g2
        exact ⟨_, rfl, ⟨i + 1, init ++ [last], [], q, qs, by simp, by omega, by simp; omega, by simp, g1, by rw [hsp]; simp⟩, by simp only; omega⟩
      · rw [if_neg (by rw [u46]; simpa using hc)]
        rw [if_neg hc] at g2
        obtain ⟨rfl, rfl⟩ := List.cons.inj g2
        have hlen : (init ++ [last]).length = init.length + 1 := by simp
        have hg : (init ++ [last])[init.length]'(by simp) = last := by simp
        rw [w64 (by omega) (by omega), inO_at (by omega) (by omega), getO_at (i := init.length) (by omega) (by omega), hg]
        simp only [Option.bind_some]
        rw [cutO_at (i := i) (j := i + 1) rfl (by omega) (by omega) (by omega), Option.bind_some]
        have ht : (s.drop i).take (i + 1 - i) = [s[i]] := by rw [hd, show i + 1 - i = 1 by omega]; rfl
        rw [ht, catO_at (by simp; omega), Option.bind_some, setO_at (i := init.length) (by omega) (by omega)]
        have hset : (init ++ [last]).set init.length (last ++ [s[i]]) = init ++ [last ++ [s[i]]] := by
          rw [List.set_append_right _ _ (Nat.le_refl _)]; simp
        rw [hset]
        exact ⟨_, rfl, ⟨i + 1, init, last ++ [s[i]], q, ps, by simp, by omega, by omega, by simp; omega, g1, by rw [hsp]; simp⟩, by simp only; omega⟩
    · rw [if_neg (by simp; omega)]
      refine .inr ⟨_, rfl, ?_⟩
      rw [hsp]
      rw [List.drop_eq_nil_of_le (by omega)] at hp
      cases hp
      simp) (0, [[]]) (by
      match h : splitL 46 s with
      | [] => exact (splitL_ne 46 s h).elim
      | p :: ps => exact ⟨0, [], [], p, ps, rfl, by omega, by simp, by simp, by simpa using h, by simp⟩)
  unfold ref03_Split
  rw [h1, h2]; rfl
theorem splitO_eq {s : List UInt8} (hs : s.length ≤ 4000000000) : splitO s [46] = some (splitL 46 s) := by
  show (if s.length < 4294967281 then some (splitL 46 s) else none) = _
  rw [if_pos (by omega)]
theorem four {α : Type} {l : List α} (h : l.length = 4) : ∃ a b c d, l = [a, b, c, d] := by
  match l, h with
  | [a, b, c, d], _ => exact ⟨a, b, c, d, rfl⟩
theorem getO4 {α : Type} (a b c d : α) : getO [a, b, c, d] 0 = some a ∧ getO [a, b, c, d] 1 = some b ∧ getO [a, b, c, d] 2 = some c ∧ getO [a, b, c, d] 3 = some d := ⟨rfl, rfl, rfl, rfl⟩
theorem inO4 {α : Type} (a b c d : α) : inO [a, b, c, d] 0 = some () ∧ inO [a, b, c, d] 1 = some () ∧ inO [a, b, c, d] 2 = some () ∧ inO [a, b, c, d] 3 = some () := ⟨rfl, rfl, rfl, rfl⟩

theorem Parse_eq {z : List UInt8} (hz : z.length ≤ 4000000000) : ∃ r, source_Parse z = some r ∧ ref03_Parse z = some r := by
  unfold source_Parse ref03_Parse
  rw [splitO_eq hz, ref_Split_eq hz, Option.bind_some, Option.bind_some]
  by_cases h4 : (splitL 46 z).length = 4
  · have hn : (((splitL 46 z).length : Int) != 4) = false := by rw [h4]; rfl
    rw [if_neg (by rw [hn]; simp), if_neg (by rw [hn]; simp)]
    obtain ⟨a, b, c, d, hl⟩ := four h4
    have hlen := (splitL_len 46 z).2
    rw [hl] at hlen ⊢
    have hok : SrcOk ⟨a, b, c, d⟩ := by
      have h1 := hlen a (by simp); have h2 := hlen b (by simp); have h3 := hlen c (by simp); have h4 := hlen d (by simp)
      exact ⟨by simp only; omega, by simp only; omega, by simp only; omega, by simp only; omega⟩
    obtain ⟨g0, g1, g2, g3⟩ := getO4 a b c d
    obtain ⟨i0, i1, i2, i3⟩ := inO4 a b c d
    simp only [g0, g1, g2, g3, i0, i1, i2, i3, Option.bind_some, Valid_eq hok, ref_Valid_eq hok]
    cases validB ⟨a, b, c, d⟩ <;> exact ⟨_, rfl, rfl⟩
  · have hn : (((splitL 46 z).length : Int) != 4) = true := by simp; omega
    rw [if_pos hn, if_pos hn]
    exact ⟨_, rfl, rfl⟩

/-! ### Patterns -/
def wildB (c : UInt8) : Bool := plainB c || (c == 63 || c == 42)
def partB (p : List UInt8) : Bool := p.all wildB && decide (p.length ≤ 8)
theorem u63 (c : UInt8) : (((c.toNat : Nat) : Int) != 63) = !(c == 63) := by
  by_cases h : c = 63
  · subst h; rfl
  · have : c.toNat ≠ 63 := fun e => h (UInt8.toNat_inj.1 e)
    have h2 : (c == 63) = false := by simpa using h
    rw [h2]; simp; omega
theorem u42 (c : UInt8) : (((c.toNat : Nat) : Int) != 42) = !(c == 42) := by
  by_cases h : c = 42
  · subst h; rfl
  · have : c.toNat ≠ 42 := fun e => h (UInt8.toNat_inj.1 e)
    have h2 : (c == 42) = false := by simpa using h
    rw [h2]; simp; omega
theorem pat_l17 {p : List UInt8} (hp : p.length ≤ 4000000000) (j : Int) : loopO (source_pattern_l17 p j) (0 : Int) = some (if p.all wildB = true then .inl j else .inr ([], false)) := by
  refine loop_list p (fun i hi => ?_) ?_
  · unfold source_pattern_l17 wildB
    rw [if_pos (by simp; omega), byteO_at rfl hi, w64 (by omega) (by omega)]
    simp only [Option.bind_some, plain_eq, u63, u42]
    cases plainB p[i] <;> cases p[i] == 63 <;> cases p[i] == 42 <;> simp
  · unfold source_pattern_l17
    rw [if_neg (by simp)]
theorem pat_l22 {l : List (List UInt8)} (hl : l.length ≤ 4000000001) (hp : ∀ p ∈ l, p.length ≤ 4000000000) : loopO (source_pattern_l22 l) (0 : Int) = some (if l.all partB = true then .inl () else .inr ([], false)) := by
  refine loop_list l (fun i hi => ?_) ?_
  · unfold source_pattern_l22 partB
    rw [if_pos (by simp; omega), getO_at rfl hi, Option.bind_some, pat_l17 (hp _ (List.getElem_mem hi)), Option.bind_some]
    cases h : l[i].all wildB with
    | false => simp
    | true =>
      by_cases h8 : l[i].length ≤ 8
      · have h9 : decide ((l[i].length : Int) > 8) = false := by simp; omega
        simp only [if_true, h9, Bool.false_eq_true, if_false]
        rw [w64 (by omega) (by omega)]
        simp [h8]
      · have h9 : decide ((l[i].length : Int) > 8) = true := by simp; omega
        simp [h8, h9]
  · unfold source_pattern_l22
    rw [if_neg (by simp)]
theorem pattern_eq {z : List UInt8} (hz : z.length ≤ 4000000000) :
    source_pattern z = some (if (splitL 46 z).all partB = true then (splitL 46 z, ((splitL 46 z).length : Int) == 4) else ([], false)) := by
  obtain ⟨h1, h2⟩ := splitL_len 46 z
  unfold source_pattern
  rw [splitO_eq hz, Option.bind_some, pat_l22 (by omega) (fun p hp => by have := h2 p hp; omega), Option.bind_some]
  cases (splitL 46 z).all partB <;> rfl
def nw (c : UInt8) : Bool := !(c == 42) && !(c == 63)
theorem parts_l30 {l : List (List UInt8)} {j : Nat} (hj : j < l.length) (hp : l[j].length ≤ 4000000000) : loopO (ref03_parts_l30 l j) (([] : List UInt8), (0 : Int)) = some ((j : Int), l[j].filter nw) := by
  obtain ⟨o, h1, h2⟩ := loop_ind (body := ref03_parts_l30 l j) (fun st : List UInt8 × Int => ∃ i : Nat, st = ((l[j].take i).filter nw, (i : Int)) ∧ i ≤ l[j].length) (fun st => ((l[j].length : Int) - st.2).toNat) (fun o => o = ((j : Int), l[j].filter nw)) (by
    rintro st ⟨i, rfl, hi⟩
    unfold ref03_parts_l30
    simp only
    rw [inO_at (by omega) (by omega), getO_at (i := j) rfl hj]
    simp only [Option.bind_some]
    by_cases hlt : i < l[j].length
    · rw [if_pos (by simp; omega), byteO_at rfl hlt, w64 (by omega) (by omega)]
      simp only [Option.bind_some, u42, u63]
      have hlen : ((l[j].take i).filter nw).length ≤ i := Nat.le_trans (List.length_filter_le _ _) (by simp; omega)
      rw [cutO_at (i := i) (j := i + 1) rfl (by omega) (by omega) (by omega)]
      have ht : (l[j].drop i).take (i + 1 - i) = [l[j][i]] := by rw [List.drop_eq_getElem_cons hlt, show i + 1 - i = 1 by omega]; rfl
      rw [ht, Option.bind_some, catO_at (by simp; omega)]
      have hf : (l[j].take (i + 1)).filter nw = (l[j].take i).filter nw ++ (if nw l[j][i] = true then [l[j][i]] else []) := by
        rw [take_succ_at hlt, List.filter_append]
        by_cases h : nw l[j][i] = true
        · simp [h]
        · simp [h]
      refine .inl ⟨((l[j].take (i + 1)).filter nw, ((i + 1 : Nat) : Int)), ?_, ⟨i + 1, rfl, by omega⟩, by simp only; omega⟩
      rw [hf]
      unfold nw
      cases l[j][i] == 42 <;> cases l[j][i] == 63 <;> simp
    · rw [if_neg (by simp; omega)]
      refine .inr ⟨_, rfl, ?_⟩
      rw [List.take_of_length_le (by omega)]) ([], 0) ⟨0, by simp, Nat.zero_le _⟩
  rw [h1, h2]
theorem filt_all (p : List UInt8) : (p.filter nw).all plainB = p.all wildB := by
  induction p with
  | nil => rfl
  | cons c p ih =>
    rw [List.all_cons, ← ih]
    unfold nw wildB
    cases h1 : c == 42 <;> cases h2 : c == 63 <;> simp [List.filter_cons, h1, h2]
theorem parts_l38 {l : List (List UInt8)} (h4 : l.length = 4) (hp : ∀ p ∈ l, p.length ≤ 4000000000) : loopO (ref03_parts_l38 l) (0 : Int) = some (if l.all partB = true then .inl () else .inr ([], false)) := by
  refine loop_list l (fun i hi => ?_) ?_
  · have hpi := hp _ (List.getElem_mem hi)
    have hfl : (l[i].filter nw).length ≤ l[i].length := List.length_filter_le _ _
    unfold ref03_parts_l38 partB
    rw [if_pos (by simp; omega), parts_l30 hi hpi, Option.bind_some, inO_at (by simp only; omega) (by simp only; omega), getO_at (i := i) rfl hi]
    simp only [Option.bind_some]
    by_cases h8 : l[i].length ≤ 8
    · rw [if_neg (by simp; omega), ref_code_eq (by omega), Option.bind_some, w64 (by omega) (by omega)]
      have hc : codeB (l[i].filter nw) 0 8 = l[i].all wildB := by
        unfold codeB
        rw [filt_all]
        have : decide (((l[i].filter nw).length : Int) ≤ 8) = true := by simp only [decide_eq_true_eq]; omega
        rw [this]
        simp
      rw [hc]
      cases l[i].all wildB <;> simp [h8]
    · rw [if_pos (by simp; omega)]
      simp [h8]
  · unfold ref03_parts_l38
    rw [if_neg (by simp; omega)]
theorem parts_eq {z : List UInt8} (hz : z.length ≤ 4000000000) :
    ref03_parts z = some (if (splitL 46 z).length = 4 ∧ (splitL 46 z).all partB = true then (splitL 46 z, true) else ([], false)) := by
  obtain ⟨h1, h2⟩ := splitL_len 46 z
  unfold ref03_parts
  rw [ref_Split_eq hz, Option.bind_some]
  by_cases h4 : (splitL 46 z).length = 4
  · have hn : (((splitL 46 z).length : Int) != 4) = false := by rw [h4]; rfl
    rw [if_neg (by rw [hn]; simp), parts_l38 h4 (fun p hp => by have := h2 p hp; omega), Option.bind_some]
    cases (splitL 46 z).all partB <;> simp [h4]
  · have hn : (((splitL 46 z).length : Int) != 4) = true := by simp; omega
    rw [if_pos hn, if_neg (fun h => h4 h.1)]
/-- A pattern, or not; the same for both. -/
def patB (z : List UInt8) : Bool := decide ((splitL 46 z).length = 4) && (splitL 46 z).all partB
theorem pat_pair {z : List UInt8} (hz : z.length ≤ 4000000000) : ∃ l1 l2, source_pattern z = some (l1, patB z) ∧ ref03_parts z = some (l2, patB z) ∧ (patB z = true → ∃ a b c d, l1 = [a, b, c, d] ∧ l2 = [a, b, c, d] ∧ a.length ≤ 8 ∧ b.length ≤ 8 ∧ c.length ≤ 8 ∧ d.length ≤ 8) := by
  rw [pattern_eq hz, parts_eq hz]
  unfold patB
  by_cases h4 : (splitL 46 z).length = 4
  · have hn : (((splitL 46 z).length : Int) == 4) = true := by rw [h4]; rfl
    cases h : (splitL 46 z).all partB with
    | true =>
      refine ⟨splitL 46 z, splitL 46 z, by simp [hn, h4], by simp [h4], fun _ => ?_⟩
      obtain ⟨a, b, c, d, hl⟩ := four h4
      rw [hl] at h
      simp only [List.all_cons, List.all_nil, Bool.and_true, Bool.and_eq_true, partB, decide_eq_true_eq] at h
      exact ⟨a, b, c, d, hl, hl, h.1.2, h.2.1.2, h.2.2.1.2, h.2.2.2.2⟩
    | false => exact ⟨[], [], by simp, by simp, by simp⟩
  · have hn : (((splitL 46 z).length : Int) == 4) = false := by simp; omega
    cases h : (splitL 46 z).all partB with
    | true => exact ⟨splitL 46 z, [], by simp [hn, h4], by simp [h4], by simp [h4]⟩
    | false => exact ⟨[], [], by simp, by simp, by simp⟩

/-! ### Matching -/
def fitsB : List UInt8 → List UInt8 → Bool
  | [], s => s.isEmpty
  | c :: p, s => if c = 42 then (List.range (s.length + 1)).any (fun i => fitsB p (s.drop i)) else match s with | [] => false | d :: t => (decide (c = 63) || decide (c = d)) && fitsB p t
theorem fitsB_cons (c : UInt8) (p s : List UInt8) : fitsB (c :: p) s = if c = 42 then (List.range (s.length + 1)).any (fun i => fitsB p (s.drop i)) else match s with | [] => false | d :: t => (decide (c = 63) || decide (c = d)) && fitsB p t := by
  cases s <;> rfl
theorem e42 (c : UInt8) : (((c.toNat : Nat) : Int) == 42) = decide (c = 42) := by
  have := u42 c
  by_cases h : c = 42
  · subst h; rfl
  · have : c.toNat ≠ 42 := fun e => h (UInt8.toNat_inj.1 e)
    simp [h]; omega
theorem e63 (c : UInt8) : (((c.toNat : Nat) : Int) == 63) = decide (c = 63) := by
  by_cases h : c = 63
  · subst h; rfl
  · have : c.toNat ≠ 63 := fun e => h (UInt8.toNat_inj.1 e)
    simp [h]; omega
theorem ecd (c d : UInt8) : (((c.toNat : Nat) : Int) == ((d.toNat : Nat) : Int)) = decide (c = d) := by
  by_cases h : c = d
  · subst h; simp
  · have : c.toNat ≠ d.toNat := fun e => h (UInt8.toNat_inj.1 e)
    simp [h]; omega
theorem byte0 (c : UInt8) (p : List UInt8) : byteO (c :: p) 0 = some ((c.toNat : Nat) : Int) := byteO_at (i := 0) rfl (by simp)
theorem cut1 (c : UInt8) (p : List UInt8) : cutO (c :: p) 1 (((c :: p).length : Nat) : Int) = some p := by
  have := cutO_at (l := c :: p) (a := 1) (b := (((c :: p).length : Nat) : Int)) (i := 1) (j := (c :: p).length) rfl rfl (by simp) (Nat.le_refl _)
  rw [this]
  simp
theorem fitsN_eq : ∀ (n : Nat) (p s : List UInt8), p.length + s.length < n → source_fitsN n p s = some (fitsB p s) := by
  intro n
  induction n with
  | zero => intro p s h; omega
  | succ n ih =>
    intro p s h
    unfold source_fitsN
    match p with
    | [] => cases s <;> simp [fitsB]
    | c :: p =>
      rw [if_neg (by simp), byte0, cut1]
      simp only [Option.bind_some, e42, e63]
      simp only [List.length_cons] at h
      by_cases h1 : c = 42
      · rw [if_pos (by simpa using h1), ih p s (by omega), Option.bind_some]
        have hf : fitsB (c :: p) s = (List.range (s.length + 1)).any (fun i => fitsB p (s.drop i)) := by rw [fitsB_cons, if_pos h1]
        match s with
        | [] => rw [hf]; cases h2 : fitsB p [] <;> simp [h2, List.range_succ]
        | d :: t =>
          have e2 : source_fitsN n (c :: p) t = some (fitsB (c :: p) t) := ih (c :: p) t (by simp at h ⊢; omega)
          have hf2 : fitsB (c :: p) t = (List.range (t.length + 1)).any (fun i => fitsB p (t.drop i)) := by rw [fitsB_cons, if_pos h1]
          rw [cut1 d t, hf, List.length_cons, List.range_succ_eq_map (n := t.length + 1), List.any_cons, List.any_map, List.drop_zero]
          cases h3 : fitsB p (d :: t) with
          | true => simp
          | false =>
            rw [if_neg (by simp), if_pos (by simp), Option.bind_some, e2, Option.bind_some, hf2]
            simp [Function.comp_def]
      · rw [if_neg (by simpa using h1)]
        match s with
        | [] => simp [fitsB, h1]
        | d :: t =>
          rw [if_pos (by simp), cut1, byte0]
          simp only [Option.bind_some, ecd, ih p t (by simp at h ⊢; omega)]
          have hf : fitsB (c :: p) (d :: t) = ((decide (c = 63) || decide (c = d)) && fitsB p t) := by rw [fitsB_cons, if_neg h1]
          rw [hf]
          by_cases h2 : c = 63 <;> by_cases h3 : c = d <;> simp [h2, h3]
theorem fits_eq (p s : List UInt8) : source_fits p s = some (fitsB p s) := Le.recO (fun n => source_fitsN_up n p s) (p.length + s.length + 1) _ (fitsN_eq _ p s (by omega))
theorem likeN_eq : ∀ (n : Nat) (p s : List UInt8), p.length < n → s.length ≤ 9223372036854775800 → ref03_likeN n p s = some (fitsB p s) := by
  intro n
  induction n with
  | zero => intro p s h; omega
  | succ n ih =>
    intro p s h hs
    unfold ref03_likeN
    match p with
    | [] => cases s <;> simp [fitsB]
    | c :: p =>
      rw [if_neg (by simp), byte0, cut1]
      simp only [Option.bind_some, e42, e63]
      simp only [List.length_cons] at h
      by_cases h1 : c = 42
      · rw [if_pos (by simpa using h1)]
        have hl : loopO (ref03_like_l11 s (c :: p) (ref03_likeN n)) (0 : Int) = some (if (List.range (s.length + 1)).all (fun i => !fitsB p (s.drop i)) = true then .inl () else .inr true) := by
          refine loop_list (List.range (s.length + 1)) (p := fun i => !fitsB p (s.drop i)) (fun i hi => ?_) ?_
          · simp only [List.length_range] at hi
            unfold ref03_like_l11
            rw [if_pos (by simp; omega), cut1, Option.bind_some, cutO_at (i := i) (j := s.length) rfl rfl (by omega) (Nat.le_refl _), Option.bind_some]
            rw [List.take_of_length_le (by simp), ih p (s.drop i) (by omega) (by simp; omega), Option.bind_some, List.getElem_range, w64 (by omega) (by omega)]
            cases fitsB p (s.drop i) <;> simp
          · unfold ref03_like_l11
            rw [if_neg (by simp; omega)]
        rw [hl, Option.bind_some, fitsB_cons, if_pos h1]
        cases h2 : (List.range (s.length + 1)).all (fun i => !fitsB p (s.drop i)) with
        | true =>
          have : (List.range (s.length + 1)).any (fun i => fitsB p (s.drop i)) = false := by
            rw [List.any_eq_false]
            intro i hi
            have := List.all_eq_true.1 h2 i hi
            simpa using this
          rw [this]; rfl
        | false =>
          have : (List.range (s.length + 1)).any (fun i => fitsB p (s.drop i)) = true := by
            rw [List.all_eq_false] at h2
            obtain ⟨i, hi, h3⟩ := h2
            exact List.any_eq_true.2 ⟨i, hi, by simpa using h3⟩
          rw [this]; rfl
      · rw [if_neg (by simpa using h1)]
        match s with
        | [] => simp [fitsB, h1]
        | d :: t =>
          rw [if_pos (by simp), cut1, byte0]
          simp only [Option.bind_some, ecd, ih p t (by omega) (by simp at hs ⊢; omega)]
          have hf : fitsB (c :: p) (d :: t) = ((decide (c = 63) || decide (c = d)) && fitsB p t) := by rw [fitsB_cons, if_neg h1]
          rw [hf]
          by_cases h2 : c = 63 <;> by_cases h3 : c = d <;> simp [h2, h3]
theorem like_eq (p : List UInt8) {s : List UInt8} (hs : s.length ≤ 9223372036854775800) : ref03_like p s = some (fitsB p s) := Le.recO (fun n => ref03_likeN_up n p s) (p.length + 1) _ (likeN_eq _ p s (by omega) hs)
def matchB (a b c d : List UInt8) (x : Src) : Bool := fitsB a x.fNetwork && (fitsB b x.fStation && (fitsB c x.fLocation && fitsB d x.fChannel))
theorem match_eq (a b c d : List UInt8) (x : Src) : source_match [a, b, c, d] x = some (matchB a b c d x) := by
  obtain ⟨g0, g1, g2, g3⟩ := getO4 a b c d
  unfold source_match source_parts matchB
  simp only [g0, g1, g2, g3, Option.bind_some, fits_eq]
  cases fitsB a x.fNetwork <;> cases fitsB b x.fStation <;> cases fitsB c x.fLocation <;> cases fitsB d x.fChannel <;> rfl
theorem ref_match_eq (a b c d : List UInt8) {x : Src} (hx : validB x = true) : ref03_match [a, b, c, d] x = some (matchB a b c d x) := by
  obtain ⟨h1, h2, h3, h4⟩ := valid_len hx
  obtain ⟨g0, g1, g2, g3⟩ := getO4 a b c d
  unfold ref03_match matchB
  simp only [g0, g1, g2, g3, Option.bind_some, like_eq a (show x.fNetwork.length ≤ 9223372036854775800 by omega), like_eq b (show x.fStation.length ≤ 9223372036854775800 by omega), like_eq c (show x.fLocation.length ≤ 9223372036854775800 by omega), like_eq d (show x.fChannel.length ≤ 9223372036854775800 by omega)]
  cases fitsB a x.fNetwork <;> cases fitsB b x.fStation <;> cases fitsB c x.fLocation <;> cases fitsB d x.fChannel <;> rfl
theorem Match_eq {z : List UInt8} (hz : z.length ≤ 4000000000) {x : Src} (hx : SrcOk x) : ∃ r, source_Match z x = some r ∧ ref03_Match z x = some r := by
  obtain ⟨l1, l2, e1, e2, h⟩ := pat_pair hz
  unfold source_Match ref03_Match
  rw [e1, e2]
  simp only [Option.bind_some, Valid_eq hx, ref_Valid_eq hx]
  cases hp : patB z with
  | false => exact ⟨_, rfl, rfl⟩
  | true =>
    obtain ⟨a, b, c, d, rfl, rfl, -⟩ := h hp
    cases hv : validB x with
    | false => exact ⟨_, rfl, rfl⟩
    | true =>
      simp only [match_eq, ref_match_eq a b c d hv, Option.bind_some]
      exact ⟨_, rfl, rfl⟩
end Go.Dw.Sx
