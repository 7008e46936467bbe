/- SoLaw: the law SourceOrder in plain Lean. -/
import Derived.Test.YtjlbpchimjjcpaaDoorSoCo
import Derived.Test.YtjlbpchimjjcpaaDoorDwPlain
set_option maxRecDepth 100000
set_option maxHeartbeats 4000000
namespace Go.Dw.So
open Go.Dw
abbrev Dice := T_seismonetmade_Dice
abbrev Src := T_api_SourceID

def DiceOk (d : Dice) : Prop := 0 ≤ d.fAt ∧ d.fAt ≤ d.fL.length ∧ d.fL.length ≤ 1000000
theorem next_ok {k : Int} {d : Dice} (hk : 1 ≤ k) (hk' : k ≤ 1000000) (hd : DiceOk d) : ∃ v d', Dice_Next k d = some (v, d') ∧ 0 ≤ v ∧ v < k ∧ DiceOk d' := by
  obtain ⟨h0, h1, h2⟩ := hd
  unfold Dice_Next
  by_cases ha : d.fAt ≥ (d.fL.length : Int)
  · rw [if_pos (decide_eq_true ha)]
    exact ⟨0, d, rfl, Int.le_refl _, by omega, h0, h1, h2⟩
  rw [if_neg (by simpa using ha), if_neg (by simp; omega)]
  have hg : getO d.fL d.fAt = some (d.fL[d.fAt.toNat]'(by omega)) := by
    unfold getO
    rw [if_pos h0, List.getElem?_eq_getElem]
  rw [hg]
  generalize d.fL[d.fAt.toNat]'(by omega) = n
  have hw : IntKind.wrap .i64 (d.fAt + 1) = d.fAt + 1 := IntWalk.i64_in _ (by omega)
  have hd' : DiceOk (T_seismonetmade_Dice.mk d.fL (IntKind.wrap .i64 (d.fAt + (1 : Int)))) := by
    rw [hw]; exact ⟨by simp only; omega, by simp only; omega, h2⟩
  have hr : remO n k = some (n.tmod k) := by unfold remO; rw [if_neg (by omega)]
  have hl : n.tmod k < k := Int.tmod_lt_of_pos _ (by omega)
  have hg' : -k < n.tmod k := by
    rcases Int.le_total 0 n with h | h
    · have := Int.tmod_nonneg k h; omega
    · have e : n.tmod k = -((-n).tmod k) := by rw [Int.neg_tmod]; omega
      have := Int.tmod_lt_of_pos (-n) (show 0 < k by omega)
      omega
  simp only [Option.bind_some, hr]
  by_cases hn : n.tmod k < 0
  · rw [if_pos (decide_eq_true hn)]
    have hw2 : IntKind.wrap .i64 (n.tmod k + k) = n.tmod k + k := IntWalk.i64_in _ (by omega)
    exact ⟨_, _, rfl, by rw [hw2]; omega, by rw [hw2]; omega, hd'⟩
  · rw [if_neg (by simpa using hn)]
    exact ⟨_, _, rfl, by omega, hl, hd'⟩
theorem getO_in {α : Type} {l : List α} {n : Int} (h0 : 0 ≤ n) (h1 : n < l.length) : ∃ x, x ∈ l ∧ getO l n = some x := by
  refine ⟨l[n.toNat]'(by omega), List.getElem_mem _, ?_⟩
  unfold getO
  rw [if_pos h0, List.getElem?_eq_getElem]

def nets : List (List UInt8) := [[71, 82], [88], [55, 65]]
def stas : List (List UInt8) := [[70, 85, 82], [65], [65, 66, 67, 68, 69], [70, 85]]
def locs : List (List UInt8) := [[], [48, 48], [49, 48]]
def chas : List (List UInt8) := [[72, 72, 90], [72, 72, 78], [66, 72, 90]]
def IsSrc (a : Src) : Prop := a.fNetwork ∈ nets ∧ a.fStation ∈ stas ∧ a.fLocation ∈ locs ∧ a.fChannel ∈ chas
theorem source_ok {d : Dice} (hd : DiceOk d) : ∃ a d', Dice_Source d = some (a, d') ∧ IsSrc a ∧ DiceOk d' := by
  obtain ⟨v1, d1, e1, l1, u1, hd⟩ := next_ok (k := 3) (by omega) (by omega) hd
  obtain ⟨v2, d2, e2, l2, u2, hd⟩ := next_ok (k := 4) (by omega) (by omega) hd
  obtain ⟨v3, d3, e3, l3, u3, hd⟩ := next_ok (k := 3) (by omega) (by omega) hd
  obtain ⟨v4, d4, e4, l4, u4, hd⟩ := next_ok (k := 3) (by omega) (by omega) hd
  obtain ⟨x1, m1, g1⟩ := getO_in (l := nets) l1 u1
  obtain ⟨x2, m2, g2⟩ := getO_in (l := stas) l2 u2
  obtain ⟨x3, m3, g3⟩ := getO_in (l := locs) l3 u3
  obtain ⟨x4, m4, g4⟩ := getO_in (l := chas) l4 u4
  unfold nets at g1; unfold stas at g2; unfold locs at g3; unfold chas at g4
  refine ⟨⟨x1, x2, x3, x4⟩, d4, ?_, ⟨m1, m2, m3, m4⟩, hd⟩
  simp only [Dice_Source, e1, g1, e2, g2, e3, g3, e4, g4, Option.bind_some]

theorem sane_at : law03_sane = some true := law03_sane_le _ (by kernel_rfl)
theorem eq_src (a b : Src) : ((a.fNetwork == b.fNetwork) && ((a.fStation == b.fStation) && ((a.fLocation == b.fLocation) && ((a.fChannel == b.fChannel) && true)))) = decide (a = b) := by
  obtain ⟨n, t, l, c⟩ := a
  obtain ⟨n', t', l', c'⟩ := b
  simp only [T_api_SourceID.mk.injEq]
  by_cases e1 : n = n' <;> by_cases e2 : t = t' <;> by_cases e3 : l = l' <;> by_cases e4 : c = c' <;> simp [e1, e2, e3, e4]
theorem roll_ok {t : List Int} (h : t.length ≤ 500) : ∃ d, made_Roll t = some d ∧ DiceOk d := ⟨⟨t, 0⟩, rfl, by simp, by simp, by simp only; omega⟩


theorem cmp_str (a b : List UInt8) : cmp_Compare_string a b = some (cmpB a b) := by
  unfold cmp_Compare_string cmp_isNaN_string
  simp only [beq_self_eq_true, Bool.not_true, Option.bind_some, Bool.false_eq_true, if_false]
  unfold cmpB
  cases h : Op.bytesLess a b with
  | true => simp
  | false => by_cases e : a = b <;> simp [e]
theorem or_next {l : List Int} {i j : Nat} (hj : j = i + 1) (hi : i < l.length) (hl : l.length < 1000) (h0 : l[i] = 0) : cmp_Or_int_l6 l i = some (.next (j : Int)) := by
  subst hj
  unfold cmp_Or_int_l6
  rw [if_pos (by simp; omega), getO_at rfl hi]
  simp only [Option.bind_some, h0, w64 (n := (i : Int) + 1) (by omega) (by omega)]
  rfl
theorem or_stop {l : List Int} {i : Nat} (hi : i < l.length) (h0 : l[i] ≠ 0) : cmp_Or_int_l6 l i = some (.stop (.inr l[i])) := by
  unfold cmp_Or_int_l6
  rw [if_pos (by simp; omega), getO_at rfl hi]
  simp only [Option.bind_some]
  rw [if_pos (by simpa using h0)]
theorem or_end {l : List Int} {n : Nat} (hn : n = l.length) : cmp_Or_int_l6 l n = some (.stop (.inl ())) := by
  subst hn
  unfold cmp_Or_int_l6
  rw [if_neg (by simp)]
theorem or4 (a b c d : Int) : cmp_Or_int [a, b, c, d] = some (if a ≠ 0 then a else if b ≠ 0 then b else if c ≠ 0 then c else d) := by
  show ((loopO (cmp_Or_int_l6 [a, b, c, d]) ((0 : Nat) : Int)).bind _) = _
  by_cases ha : a = 0
  · rw [loopO_next (or_next (i := 0) (j := 1) rfl (by simp) (by simp) (by simpa using ha)), if_neg (by simpa using ha)]
    by_cases hb : b = 0
    · rw [loopO_next (or_next (i := 1) (j := 2) rfl (by simp) (by simp) (by simpa using hb)), if_neg (by simpa using hb)]
      by_cases hc : c = 0
      · rw [loopO_next (or_next (i := 2) (j := 3) rfl (by simp) (by simp) (by simpa using hc)), if_neg (by simpa using hc)]
        by_cases hd : d = 0
        · rw [loopO_next (or_next (i := 3) (j := 4) rfl (by simp) (by simp) (by simpa using hd)), loopO_stop (or_end (n := 4) rfl)]
          rw [hd]; rfl
        · rw [loopO_stop (or_stop (i := 3) (by simp) (by simpa using hd))]; rfl
      · rw [loopO_stop (or_stop (i := 2) (by simp) (by simpa using hc)), if_pos hc]; rfl
    · rw [loopO_stop (or_stop (i := 1) (by simp) (by simpa using hb)), if_pos hb]; rfl
  · rw [loopO_stop (or_stop (i := 0) (by simp) (by simpa using ha)), if_pos (by simpa using ha)]; rfl

/-- Identifiers compared. -/
def cmpS (a b : Src) : Int := if cmpB a.fNetwork b.fNetwork ≠ 0 then cmpB a.fNetwork b.fNetwork else if cmpB a.fStation b.fStation ≠ 0 then cmpB a.fStation b.fStation else if cmpB a.fLocation b.fLocation ≠ 0 then cmpB a.fLocation b.fLocation else cmpB a.fChannel b.fChannel
theorem Compare_eq (a b : Src) : source_Compare a b = some (cmpS a b) := by
  unfold source_Compare
  simp only [cmp_str, Option.bind_some, or4]
  rfl
theorem cmpS_tot : Tot cmpS := (cmpB_tot.map fun x : Src => x.fNetwork).or ((cmpB_tot.map fun x : Src => x.fStation).or ((cmpB_tot.map fun x : Src => x.fLocation).or (cmpB_tot.map fun x : Src => x.fChannel)))
theorem cmpS_zero {a b : Src} (h : cmpS a b = 0) : a = b := by
  unfold cmpS at h
  obtain ⟨n, t, l, c⟩ := a
  obtain ⟨n', t', l', c'⟩ := b
  simp only at h
  by_cases h1 : cmpB n n' = 0
  · rw [if_neg (by simpa using h1)] at h
    by_cases h2 : cmpB t t' = 0
    · rw [if_neg (by simpa using h2)] at h
      by_cases h3 : cmpB l l' = 0
      · rw [if_neg (by simpa using h3)] at h
        rw [cmpB_zero] at h h1 h2 h3
        subst h h1 h2 h3; rfl
      · rw [if_pos h3] at h; exact (h3 h).elim
    · rw [if_pos h2] at h; exact (h2 h).elim
  · rw [if_pos h1] at h; exact (h1 h).elim
theorem cmpS_range (a b : Src) : -1 ≤ cmpS a b ∧ cmpS a b ≤ 1 := by
  unfold cmpS
  repeat' split
  all_goals exact cmpB_range _ _
theorem lt3_eq : lt3 source_Compare = fun x y => decide (cmpS x y < 0) := by
  funext x y
  unfold lt3
  rw [Compare_eq]; rfl
theorem Compare_ok : CmpOk source_Compare := ⟨fun x y => ⟨_, Compare_eq x y⟩, by rw [lt3_eq]; exact cmpS_tot.swo⟩

instance : DecidableEq Src := fun a b => decidable_of_iff (a.fNetwork = b.fNetwork ∧ a.fStation = b.fStation ∧ a.fLocation = b.fLocation ∧ a.fChannel = b.fChannel) (by
  obtain ⟨n, t, l, c⟩ := a
  obtain ⟨n', t', l', c'⟩ := b
  simp)
theorem eqs (a b : Src) : ((a.fNetwork == b.fNetwork) && ((a.fStation == b.fStation) && ((a.fLocation == b.fLocation) && ((a.fChannel == b.fChannel) && true)))) = decide (a = b) := by
  rw [eq_src]
  exact decide_eq_decide.2 Iff.rfl
def eqF (a b : Src) : Bool := ((a.fNetwork == b.fNetwork) && ((a.fStation == b.fStation) && ((a.fLocation == b.fLocation) && ((a.fChannel == b.fChannel) && true))))
theorem Compact_eq (l : List Src) : slices_Compact_SourceID l = compactG eqF ⟨[], [], [], []⟩ l := by
  have h1 : slices_Compact_SourceID_l31 = compactG_l31 eqF := by funext s d ⟨a, b, c⟩; rfl
  have h2 : slices_Compact_SourceID_l38 = compactG_l38 eqF ⟨[], [], [], []⟩ := by
    funext d s
    unfold slices_Compact_SourceID_l38 compactG_l38
    rw [h1]; rfl
  unfold slices_Compact_SourceID compactG
  rw [h2]
  refine ite_congr rfl (fun _ => rfl) fun _ => ?_
  refine congrArg _ (funext fun o => ?_)
  rcases o with _ | _ <;> rfl
theorem Sort_spec {l : List Src} (hne : l ≠ []) (hl : l.length * 64 ≤ 140737488355328) :
    ∃ r, source_Sort l = some r ∧ r.Pairwise (fun x y => cmpS x y < 0) ∧ (∀ x, x ∈ r ↔ x ∈ l) ∧ r.length ≤ l.length ∧ r ≠ [] := by
  have h1 : slices_Clone_SourceID l = some l := by
    unfold slices_Clone_SourceID neO appO
    rw [if_neg (by simpa using hne), Option.bind_some, if_pos (by simpa using hl)]
    rfl
  have h2 := sortO_mergeSort Compare_ok (fun x y h h' => by
    rw [lt3_eq] at h h'
    simp only [decide_eq_false_iff_not] at h h'
    have := cmpS_tot.anti x y
    exact cmpS_zero (by omega)) l (by omega)
  generalize hm : (l.mergeSort fun x y => !lt3 source_Compare y x) = m at h2
  have hp : m.Perm l := sortO_perm h2
  have hs : m.Pairwise (fun x y => cmpS x y ≤ 0) := by
    rw [← hm]
    refine (List.pairwise_mergeSort ?_ ?_ l).imp ?_
    · intro a b c h h'
      rw [lt3_eq] at *
      simp only [Bool.not_eq_true', decide_eq_false_iff_not] at *
      have := cmpS_tot.tr a b c (by have := cmpS_tot.anti a b; omega) (by have := cmpS_tot.anti b c; omega)
      have := cmpS_tot.anti a c; omega
    · intro a b
      rw [lt3_eq]
      have := cmpS_tot.anti a b
      by_cases h : cmpS b a < 0
      · have : ¬ cmpS a b < 0 := by omega
        simp [this]
      · simp [h]
    · intro a b h
      rw [lt3_eq] at h
      simp only [Bool.not_eq_true', decide_eq_false_iff_not] at h
      have := cmpS_tot.anti a b; omega
  have hml : m.length = l.length := hp.length_eq
  have h3 : slices_Compact_SourceID m = some (cpt m) := by
    rw [Compact_eq]
    exact compact_at (fun x y => eqs x y) (by omega)
  refine ⟨cpt m, ?_, cpt_pairwise cmpS_tot (fun x y => cmpS_zero) hs, fun x => cpt_mem.trans hp.mem_iff, by have := cpt_length m; omega, cpt_ne fun h => hne ?_⟩
  · unfold source_Sort
    rw [h1, Option.bind_some, h2, Option.bind_some, h3]; rfl
  · subst h; exact hp.symm.eq_nil

theorem l19_ok {r : List Src} (hr : r.Pairwise (fun x y => cmpS x y < 0)) (hl : r.length < 1000) : loopO (law03_SourceOrder_l19 r) (1 : Int) = some (.inl ()) := by
  obtain ⟨o, h1, h2⟩ := loop_ind (body := law03_SourceOrder_l19 r) (fun s : Int => ∃ j : Nat, s = (j : Int) ∧ 1 ≤ j) (fun s => ((r.length : Int) - s).toNat) (fun o => o = .inl ()) (by
    rintro s ⟨j, rfl, hj⟩
    unfold law03_SourceOrder_l19
    by_cases hlt : j < r.length
    · rw [if_pos (by simp; omega), w64 (n := (j : Int) - 1) (by omega) (by omega), getO_at (i := j - 1) (by omega) (by omega), getO_at (i := j) rfl hlt]
      simp only [Option.bind_some, Compare_eq]
      have := List.pairwise_iff_getElem.1 hr (j - 1) j (by omega) hlt (by omega)
      rw [if_neg (by simp; omega), w64 (by omega) (by omega)]
      exact .inl ⟨_, rfl, ⟨j + 1, by omega, by omega⟩, by omega⟩
    · rw [if_neg (by simp; omega)]
      exact .inr ⟨_, rfl, rfl⟩) 1 ⟨1, rfl, Nat.le_refl _⟩
  rw [h1, h2]
theorem l32_ok {r : List Src} {a b c : Src × Dice} (hr : ∀ x ∈ r, x = a.1 ∨ x = b.1 ∨ x = c.1) (hl : r.length < 1000) : loopO (law03_SourceOrder_l32 r a b c) ((0 : Int), (0 : Int)) = some (r.length : Int) := by
  obtain ⟨o, h1, h2⟩ := loop_ind (body := law03_SourceOrder_l32 r a b c) (fun s : Int × Int => ∃ j : Nat, s = ((j : Int), (j : Int)) ∧ j ≤ r.length) (fun s => ((r.length : Int) - s.1).toNat) (fun o => o = (r.length : Int)) (by
    rintro s ⟨j, rfl, hj⟩
    unfold law03_SourceOrder_l32
    simp only [eqs]
    by_cases hlt : j < r.length
    · rw [if_pos (by simp; omega), getO_at (i := j) rfl hlt]
      simp only [Option.bind_some, w64 (n := (j : Int) + 1) (by omega) (by omega)]
      refine .inl ⟨((j : Int) + 1, (j : Int) + 1), ?_, ⟨j + 1, by simp, by omega⟩, by simp only; omega⟩
      rcases hr _ (List.getElem_mem hlt) with h | h | h
      · rw [if_pos (by simpa using h)]
      · by_cases h1 : r[j] = a.1
        · rw [if_pos (by simpa using h1)]
        · rw [if_neg (by simpa using h1), if_pos (by simpa using h)]
      · by_cases h1 : r[j] = a.1
        · rw [if_pos (by simpa using h1)]
        · by_cases h2 : r[j] = b.1
          · rw [if_neg (by simpa using h1), if_pos (by simpa using h2)]
          · rw [if_neg (by simpa using h1), if_neg (by simpa using h2), if_pos (by simpa using h)]
    · rw [if_neg (by simp; omega)]
      exact .inr ⟨_, rfl, by omega⟩) (0, 0) ⟨0, rfl, Nat.zero_le _⟩
  rw [h1, h2]

theorem len3 {r : List Src} {a b c : Src} (hn : r.Nodup) (hm : ∀ x, x ∈ r ↔ x ∈ [c, a, b, a]) : ((r.length : Int) == 3) = (!decide (a = b) && (!decide (b = c) && !decide (a = c))) := by
  have len : ∀ q : List Src, q.Nodup → (∀ x, x ∈ q ↔ x ∈ [c, a, b, a]) → r.length = q.length := fun q hq hmq =>
    ((List.perm_ext_iff_of_nodup hn hq).2 fun x => (hm x).trans (hmq x).symm).length_eq
  by_cases h1 : a = b
  · subst h1
    by_cases h2 : a = c
    · subst h2
      rw [len [a] (by simp) (by simp)]; simp
    · rw [len [a, c] (by simp [h2]) (by intro x; simp; by_cases x = a <;> by_cases x = c <;> simp [*])]; simp
  · by_cases h2 : b = c
    · subst h2
      rw [len [a, b] (by simp [h1]) (by intro x; simp; by_cases x = a <;> by_cases x = b <;> simp [*])]; simp
    · by_cases h3 : a = c
      · subst h3
        rw [len [a, b] (by simp [h1]) (by intro x; simp; by_cases x = a <;> simp [*])]; simp
      · rw [len [a, b, c] (by simp [h1, h2, h3]) (by intro x; simp; by_cases x = a <;> by_cases x = b <;> by_cases x = c <;> simp [*])]; simp [h1, h2, h3]

theorem k44_ok (c a b : Src × Dice) : law03_SourceOrder_k44 c a b = some true := by
  obtain ⟨r, h1, h2, h3, h4, h5⟩ := Sort_spec (l := [c.1, a.1, b.1, a.1]) (by simp) (by simp)
  simp only [List.length_cons, List.length_nil] at h4
  have hn : r.Nodup := h2.imp fun {x y} h e => by subst e; have := cmpS_tot.refl x; omega
  unfold law03_SourceOrder_k44
  have hne : decide ((r.length : Int) ≥ 1) = true := by
    have : r.length ≠ 0 := fun h => h5 (List.eq_nil_of_length_eq_zero h)
    simp; omega
  have hm3 : ∀ x ∈ r, x = a.1 ∨ x = b.1 ∨ x = c.1 := fun x hx => by
    have := (h3 x).1 hx
    simp only [List.mem_cons, List.not_mem_nil, or_false] at this
    rcases this with h | h | h | h
    · exact .inr (.inr h)
    · exact .inl h
    · exact .inr (.inl h)
    · exact .inl h
  simp only [h1, Option.bind_some, l19_ok h2 (by omega), l32_ok hm3 (by omega), beq_self_eq_true, if_true, hne, eqs, sane_at]
  rw [len3 hn h3]
  by_cases e1 : a.1 = b.1 <;> by_cases e2 : b.1 = c.1 <;> by_cases e3 : a.1 = c.1 <;> simp [e1, e2, e3]

theorem SourceOrder_law (t : List Int) : law03_SourceOrder t = some true := by
  unfold law03_SourceOrder made_Light
  by_cases hl : (t.length : Int) ≤ 500
  · obtain ⟨d, e0, hd⟩ := roll_ok (t := t) (by omega)
    obtain ⟨a, d1, e1, ha, hd⟩ := source_ok hd
    obtain ⟨b, d2, e2, hb, hd⟩ := source_ok hd
    obtain ⟨c, d3, e3, hc, hd⟩ := source_ok hd
    have hab := cmpS_range a b
    have hanti := cmpS_tot.anti a b
    have hw : IntKind.wrap .i64 (0 - cmpS a b) = cmpS b a := by rw [w64 (by omega) (by omega)]; omega
    have hz : (cmpS a b == 0) = decide (a = b) := by
      by_cases h : a = b
      · subst h; simp [cmpS_tot.refl]
      · have : cmpS a b ≠ 0 := fun h' => h (cmpS_zero h')
        simp [h, this]
    have htr : decide (cmpS a b ≤ 0) = true → decide (cmpS b c ≤ 0) = true → decide (cmpS a c > 0) = false := fun h h' => by
      have := cmpS_tot.tr a b c (by simpa using h) (by simpa using h')
      simp; omega
    simp only [hl, decide_true, Option.bind_some, Bool.not_true, Bool.false_eq_true, if_false, e0, e1, e2, e3, Compare_eq, hw, eqs, hz, beq_self_eq_true, bne_self_eq_false, k44_ok]
    split
    · rename_i h1
      split
      · rename_i h2
        rw [htr h1 h2]; simp
      · rfl
    · rfl
  · simp only [hl, decide_false, Option.bind_some, Bool.not_false, if_true, sane_at]
end Go.Dw.So
