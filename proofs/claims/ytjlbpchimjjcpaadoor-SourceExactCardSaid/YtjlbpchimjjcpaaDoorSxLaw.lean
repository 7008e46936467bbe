/- SxLaw: the law SourceExact in plain Lean. -/
import Derived.Test.YtjlbpchimjjcpaaDoorSxLawA
set_option maxRecDepth 100000
set_option maxHeartbeats 4000000
namespace Go.Dw.Sx
open Go.Dw

/-! ### Selecting, and sameness -/
theorem filter_take {l : List Src} {q : Src → Bool} {i : Nat} (hi : i < l.length) : (l.take (i + 1)).filter q = (l.take i).filter q ++ (if q l[i] = true then [l[i]] else []) := by
  rw [take_succ_at hi, List.filter_append]
  by_cases h : q l[i] = true <;> simp [h]
theorem sel_l14 {l : List Src} (hl : l.length ≤ 1000) (hok : ∀ x ∈ l, SrcOk x) (a b c d : List UInt8) (ok : Bool) :
    loopO (source_Select_l14 l ([a, b, c, d], ok)) ((0 : Int), ([] : List Src)) = some (l.filter fun x => validB x && matchB a b c d x) := by
  obtain ⟨o, h1, h2⟩ := loop_ind (body := source_Select_l14 l ([a, b, c, d], ok)) (fun st : Int × List Src => ∃ i : Nat, st = ((i : Int), (l.take i).filter fun x => validB x && matchB a b c d x) ∧ i ≤ l.length) (fun st => ((l.length : Int) - st.1).toNat)
    (fun o => o = l.filter fun x => validB x && matchB a b c d x) (by
    rintro st ⟨i, rfl, hi⟩
    unfold source_Select_l14
    simp only
    by_cases hlt : i < l.length
    · have hlen : ((l.take i).filter fun x => validB x && matchB a b c d x).length ≤ i := Nat.le_trans (List.length_filter_le _ _) (by simp; omega)
      rw [if_pos (by simp; omega), getO_at rfl hlt, w64 (by omega) (by omega)]
      simp only [Option.bind_some, Valid_eq (hok _ (List.getElem_mem hlt)), match_eq]
      rw [appO_at (by simp only [List.length_cons, List.length_nil]; omega)]
      refine .inl ⟨(((i + 1 : Nat) : Int), (l.take (i + 1)).filter fun x => validB x && matchB a b c d x), ?_, ⟨i + 1, rfl, by omega⟩, by simp only; omega⟩
      rw [filter_take hlt]
      cases validB l[i] <;> cases matchB a b c d l[i] <;> simp
    · rw [if_neg (by simp; omega)]
      refine .inr ⟨_, rfl, ?_⟩
      rw [List.take_of_length_le (by omega)]) (0, []) ⟨0, by simp, Nat.zero_le _⟩
  rw [h1, h2]
theorem ref_sel_l16 {l : List Src} (hl : l.length ≤ 1000) (hok : ∀ x ∈ l, SrcOk x) (a b c d : List UInt8) (ok : Bool) :
    loopO (ref03_Select_l16 l ([a, b, c, d], ok)) ((0 : Int), ([] : List Src)) = some (l.filter fun x => validB x && matchB a b c d x) := by
  obtain ⟨o, h1, h2⟩ := loop_ind (body := ref03_Select_l16 l ([a, b, c, d], ok)) (fun st : Int × List Src => ∃ i : Nat, st = ((i : Int), (l.take i).filter fun x => validB x && matchB a b c d x) ∧ i ≤ l.length) (fun st => ((l.length : Int) - st.1).toNat)
    (fun o => o = l.filter fun x => validB x && matchB a b c d x) (by
    rintro st ⟨i, rfl, hi⟩
    unfold ref03_Select_l16
    simp only
    by_cases hlt : i < l.length
    · have hlen : ((l.take i).filter fun x => validB x && matchB a b c d x).length ≤ i := Nat.le_trans (List.length_filter_le _ _) (by simp; omega)
      rw [if_pos (by simp; omega), getO_at rfl hlt, w64 (by omega) (by omega)]
      simp only [Option.bind_some, ref_Valid_eq (hok _ (List.getElem_mem hlt))]
      rw [appO_at (by simp only [List.length_cons, List.length_nil]; omega)]
      refine .inl ⟨(((i + 1 : Nat) : Int), (l.take (i + 1)).filter fun x => validB x && matchB a b c d x), ?_, ⟨i + 1, rfl, by omega⟩, by simp only; omega⟩
      rw [filter_take hlt]
      cases hv : validB l[i] with
      | false => simp
      | true =>
        rw [ref_match_eq a b c d hv]
        cases matchB a b c d l[i] <;> simp
    · rw [if_neg (by simp; omega)]
      refine .inr ⟨_, rfl, ?_⟩
      rw [List.take_of_length_le (by omega)]) (0, []) ⟨0, by simp, Nat.zero_le _⟩
  rw [h1, h2]
theorem Select_eq {z : List UInt8} (hz : z.length ≤ 4000000000) {l : List Src} (hl : l.length ≤ 1000) (hok : ∀ x ∈ l, SrcOk x) : ∃ r, source_Select z l = some r ∧ ref03_Select z l = some r ∧ r.1.length ≤ 1000 := by
  obtain ⟨l1, l2, e1, e2, h⟩ := pat_pair hz
  unfold source_Select ref03_Select
  rw [e1, e2]
  simp only [Option.bind_some]
  cases hp : patB z with
  | false => exact ⟨_, rfl, rfl, by simp⟩
  | true =>
    obtain ⟨a, b, c, d, rfl, rfl, -⟩ := h hp
    simp only [Bool.not_true, Bool.false_eq_true, if_false, sel_l14 hl hok, ref_sel_l16 hl hok, Option.bind_some]
    exact ⟨_, rfl, rfl, Nat.le_trans (List.length_filter_le _ _) hl⟩
theorem Same_refl {l : List Src} (hl : l.length ≤ 1000) : ref03_Same l l = some true := by
  unfold ref03_Same
  rw [if_neg (by simp)]
  have := loop_list (body := ref03_Same_l8 l l) l (p := fun _ => true) (u := .inl ()) (r := .inr false) (fun i hi => by
    unfold ref03_Same_l8
    simp only [eqs]
    rw [if_pos (by simp; omega), getO_at rfl hi, w64 (by omega) (by omega)]
    simp) (by
    unfold ref03_Same_l8
    rw [if_neg (by simp)])
  rw [this]
  simp

/-! ### Sorting -/
theorem Sort_eq {l : List Src} (hl : l.length ≤ 1000) :
    ∃ r, source_Sort l = some r ∧ r.Pairwise (fun x y => cmpS x y < 0) ∧ (∀ x, x ∈ r ↔ x ∈ l) ∧ r.length ≤ l.length := by
  have h1 : cloneO 64 l = some l := by
    unfold cloneO
    rw [if_pos (by omega)]
  have h2 := sortO_mergeSort Compare_ok (fun x y h h' => by
    rw [lt3_eq] at h h'
    simp only [decide_eq_false_iff_not] at h h'
    have := cmpS_tot.anti x y
    exact cmpS_zero (by omega)) l (by omega)
  generalize hm : (l.mergeSort fun x y => !lt3 source_Compare y x) = m at h2
  have hp : m.Perm l := sortO_perm h2
  have hs : m.Pairwise (fun x y => cmpS x y ≤ 0) := by
    rw [← hm]
    refine (List.pairwise_mergeSort ?_ ?_ l).imp ?_
    · intro a b c h h'
      rw [lt3_eq] at *
      simp only [Bool.not_eq_true', decide_eq_false_iff_not] at *
      have := cmpS_tot.tr a b c (by have := cmpS_tot.anti a b; omega) (by have := cmpS_tot.anti b c; omega)
      have := cmpS_tot.anti a c; omega
    · intro a b
      rw [lt3_eq]
      have := cmpS_tot.anti a b
      by_cases h : cmpS b a < 0
      · have : ¬ cmpS a b < 0 := by omega
        simp [this]
      · simp [h]
    · intro a b h
      rw [lt3_eq] at h
      simp only [Bool.not_eq_true', decide_eq_false_iff_not] at h
      have := cmpS_tot.anti a b; omega
  have hml : m.length = l.length := hp.length_eq
  have h3 : slices_Compact_SourceID m = some (cpt m) := by
    rw [Compact_eq]
    exact compact_at (fun x y => eqs x y) (by omega)
  refine ⟨cpt m, ?_, cpt_pairwise cmpS_tot (fun x y => cmpS_zero) hs, fun x => cpt_mem.trans hp.mem_iff, by have := cpt_length m; omega⟩
  unfold source_Sort
  rw [h1, Option.bind_some, h2, Option.bind_some, h3]; rfl
theorem strict_unique : ∀ {r s : List Src}, r.Pairwise (fun x y => cmpS x y < 0) → s.Pairwise (fun x y => cmpS x y < 0) → (∀ x, x ∈ r ↔ x ∈ s) → r = s
  | [], [], _, _, _ => rfl
  | [], b :: s, _, _, h => by have := (h b).2 (by simp); cases this
  | a :: r, [], _, _, h => by have := (h a).1 (by simp); cases this
  | a :: r, b :: s, h1, h2, h => by
    obtain ⟨ha, hr⟩ := List.pairwise_cons.1 h1
    obtain ⟨hb, hs⟩ := List.pairwise_cons.1 h2
    have hab : a = b := by
      rcases List.mem_cons.1 ((h a).1 (by simp)) with e | hm
      · exact e
      · rcases List.mem_cons.1 ((h b).2 (by simp)) with e | hm'
        · exact e.symm
        · have h3 := hb a hm
          have h4 := ha b hm'
          have := cmpS_tot.anti a b
          omega
    subst hab
    have hn : ∀ {t : List Src}, (∀ y ∈ t, cmpS a y < 0) → a ∉ t := fun h ht => by have := h a ht; have := cmpS_tot.refl a; omega
    have : r = s := strict_unique hr hs fun x => by
      have := h x
      simp only [List.mem_cons] at this
      constructor
      · intro hx
        rcases this.1 (.inr hx) with e | h5
        · subst e; exact (hn ha hx).elim
        · exact h5
      · intro hx
        rcases this.2 (.inr hx) with e | h5
        · subst e; exact (hn hb hx).elim
        · exact h5
    rw [this]
theorem ref_cmp (a b : List UInt8) : ref03_compare a b = some (cmpB a b) := by
  unfold ref03_compare cmpB
  cases h : Op.bytesLess a b with
  | true => simp
  | false => by_cases e : a = b <;> simp [e]
theorem ref_Compare_eq (a b : Src) : ref03_Compare a b = some (cmpS a b) := by
  unfold ref03_Compare cmpS
  simp only [ref_cmp, Option.bind_some, bne_iff_ne, ne_eq]
  by_cases h1 : cmpB a.fNetwork b.fNetwork = 0 <;> by_cases h2 : cmpB a.fStation b.fStation = 0 <;> by_cases h3 : cmpB a.fLocation b.fLocation = 0 <;> by_cases h4 : cmpB a.fChannel b.fChannel = 0 <;> simp [h1, h2, h3, h4]
theorem find_l18 {l out : List Src} {i : Nat} (hi : i < l.length) (ho : out.length ≤ 1000) :
    ∃ k : Nat, loopO (ref03_Sort_l18 out l (i : Int)) (0 : Int) = some ((i : Int), (k : Int), out) ∧ k ≤ out.length ∧ (∀ j, (h : j < k) → (h' : j < out.length) → cmpS out[j] l[i] < 0) ∧ (∀ h : k < out.length, ¬ cmpS out[k] l[i] < 0) := by
  obtain ⟨o, h1, k, rfl, h2⟩ := loop_ind (body := ref03_Sort_l18 out l (i : Int)) (fun s : Int => ∃ k : Nat, s = (k : Int) ∧ k ≤ out.length ∧ ∀ j, (h : j < k) → (h' : j < out.length) → cmpS out[j] l[i] < 0) (fun s => ((out.length : Int) - s).toNat)
    (fun o => ∃ k : Nat, o = ((i : Int), (k : Int), out) ∧ k ≤ out.length ∧ (∀ j, (h : j < k) → (h' : j < out.length) → cmpS out[j] l[i] < 0) ∧ (∀ h : k < out.length, ¬ cmpS out[k] l[i] < 0)) (by
    rintro s ⟨k, rfl, hk, hlt⟩
    unfold ref03_Sort_l18
    by_cases h : k < out.length
    · rw [if_pos (by simp; omega), inO_at (by omega) (by omega), getO_at (i := k) rfl h, getO_at (i := i) rfl hi]
      simp only [Option.bind_some, ref_Compare_eq]
      by_cases hc : cmpS out[k] l[i] < 0
      · rw [if_pos (by simpa using hc), w64 (by omega) (by omega)]
        refine .inl ⟨_, rfl, ⟨k + 1, by omega, by omega, fun j hj hj' => ?_⟩, by omega⟩
        by_cases e : j = k
        · subst e; exact hc
        · exact hlt j (by omega) hj'
      · rw [if_neg (by simpa using hc)]
        exact .inr ⟨_, rfl, k, rfl, hk, hlt, fun _ => hc⟩
    · rw [if_neg (by simp; omega)]
      exact .inr ⟨_, rfl, k, rfl, hk, hlt, fun h' => (h h').elim⟩) 0 ⟨0, rfl, Nat.zero_le _, fun j hj => by omega⟩
  exact ⟨k, h1, h2⟩
theorem shift_eq {out : List Src} {x : Src} {k : Nat} (hk : k ≤ out.length) :
    (copyL (out ++ [x]) (k + 1) (out.length + 1 - (k + 1)) (((out ++ [x]).drop k).take (out.length + 1 - k))).set k x = out.take k ++ x :: out.drop k := by
  have hd : (out ++ [x]).drop k = out.drop k ++ [x] := List.drop_append_of_le_length hk
  have hys : ((out ++ [x]).drop k).take (out.length + 1 - k) = out.drop k ++ [x] := by
    rw [hd]; exact List.take_of_length_le (by simp; omega)
  unfold copyL
  rw [hys]
  have hmin : Nat.min (out.drop k ++ [x]).length (out.length + 1 - (k + 1)) = out.length - k := by
    show min _ _ = _
    simp
  rw [hmin]
  have ht : (out.drop k ++ [x]).take (out.length - k) = out.drop k := by
    rw [List.take_append_of_le_length (by simp)]
    exact List.take_of_length_le (by simp)
  have hz : (out ++ [x]).drop (k + 1 + (out.length - k)) = [] := List.drop_eq_nil_of_le (by simp; omega)
  rw [ht, hz, List.append_nil]
  have hA : (out ++ [x]).take (k + 1) = out.take k ++ [(out ++ [x])[k]'(by simp; omega)] := by
    rw [take_succ_at (by simp; omega), List.take_append_of_le_length hk]
  rw [hA, List.append_assoc, List.set_append_right _ _ (by simp; omega)]
  simp [Nat.min_eq_left hk]
theorem k31_eq {l out : List Src} {i k : Nat} (hi : i < l.length) (hl : l.length ≤ 1000) (ho : out.length ≤ 1000) (hk : k ≤ out.length) :
    ref03_Sort_k31 l ((i : Int), (k : Int), out) = some (.next (((i + 1 : Nat) : Int), out.take k ++ l[i] :: out.drop k)) := by
  unfold ref03_Sort_k31
  simp only
  rw [getO_at (i := i) rfl hi, Option.bind_some, appO_at (by simp; omega), Option.bind_some]
  have hlen : (out ++ [l[i]]).length = out.length + 1 := by simp
  rw [w64 (n := (k : Int) + 1) (by omega) (by omega), w64 (n := (i : Int) + 1) (by omega) (by omega), hlen]
  rw [subO_at (by omega) (by omega) (by omega), Option.bind_some, subO_at (by omega) (by omega) (by omega), Option.bind_some]
  have t1 : (0 + ((k : Int) + 1).toNat) = k + 1 := by omega
  have t2 : (0 + (((out.length + 1 : Nat) : Int)).toNat) = out.length + 1 := by omega
  have t3 : (0 + ((k : Int)).toNat) = k := by omega
  rw [t1, t2, t3, viewO_at (by omega) (by omega), Option.bind_some, partO_at (by omega) (by omega), Option.bind_some, Option.bind_some]
  have hcl : (copyL (out ++ [l[i]]) (k + 1) (out.length + 1 - (k + 1)) (((out ++ [l[i]]).drop k).take (out.length + 1 - k))).length = out.length + 1 := by
    have := congrArg List.length (shift_eq (x := l[i]) hk)
    rw [List.length_set] at this
    rw [this]
    simp
    omega
  rw [inO_at (by omega) (by omega), Option.bind_some, setO_at (i := k) rfl (by omega), Option.bind_some, shift_eq hk]
  rfl
theorem ins_sorted {out : List Src} {x : Src} {k : Nat} (ho : out.Pairwise (fun x y => cmpS x y < 0)) (hk : k ≤ out.length) (h1 : ∀ j, (h : j < k) → (h' : j < out.length) → cmpS out[j] x < 0)
    (h2 : ∀ h : k < out.length, ¬ cmpS out[k] x < 0 ∧ out[k] ≠ x) : (out.take k ++ x :: out.drop k).Pairwise (fun x y => cmpS x y < 0) := by
  have hsplit : (out.take k ++ out.drop k).Pairwise (fun x y => cmpS x y < 0) := by rwa [List.take_append_drop]
  obtain ⟨p1, p2, p3⟩ := List.pairwise_append.1 hsplit
  have hlt : ∀ y ∈ out.take k, cmpS y x < 0 := fun y hy => by
    obtain ⟨j, hj, rfl⟩ := List.getElem_of_mem hy
    simp only [List.length_take] at hj
    rw [List.getElem_take]
    exact h1 j (by omega) (by omega)
  have hgt : ∀ y ∈ out.drop k, cmpS x y < 0 := fun y hy => by
    by_cases hkl : k < out.length
    · obtain ⟨g1, g2⟩ := h2 hkl
      have hx : cmpS x out[k] < 0 := by
        have := cmpS_tot.anti x out[k]
        by_cases hz : cmpS out[k] x = 0
        · exact (g2 (cmpS_zero hz)).elim
        · omega
      rw [List.drop_eq_getElem_cons hkl] at hy p2
      rcases List.mem_cons.1 hy with rfl | hy
      · exact hx
      · exact cmpS_tot.lt hx (by have := (List.pairwise_cons.1 p2).1 y hy; omega)
    · rw [List.drop_eq_nil_of_le (by omega)] at hy; cases hy
  refine List.pairwise_append.2 ⟨p1, List.pairwise_cons.2 ⟨hgt, p2⟩, fun a ha b hb => ?_⟩
  rcases List.mem_cons.1 hb with rfl | hb
  · exact hlt a ha
  · exact p3 a ha b hb
theorem ref_Sort_eq {l : List Src} (hl : l.length ≤ 1000) : ∃ r, ref03_Sort l = some r ∧ r.Pairwise (fun x y => cmpS x y < 0) ∧ (∀ x, x ∈ r ↔ x ∈ l) := by
  obtain ⟨o, h1, h2, h3⟩ := loop_ind (body := ref03_Sort_l38 l) (fun st : Int × List Src => ∃ (i : Nat) (out : List Src), st = ((i : Int), out) ∧ i ≤ l.length ∧ out.length ≤ i ∧ out.Pairwise (fun x y => cmpS x y < 0) ∧ ∀ x, x ∈ out ↔ x ∈ l.take i) (fun st => ((l.length : Int) - st.1).toNat)
    (fun o => o.Pairwise (fun x y => cmpS x y < 0) ∧ ∀ x, x ∈ o ↔ x ∈ l) (by
    rintro st ⟨i, out, rfl, hi, ho, hs, hm⟩
    unfold ref03_Sort_l38
    simp only
    by_cases hlt : i < l.length
    · rw [if_pos (by simp; omega)]
      obtain ⟨k, e1, hk, hlo, hhi⟩ := find_l18 (l := l) (out := out) hlt (by omega)
      rw [e1, Option.bind_some]
      refine .inl ?_
      have hins : (∀ h : k < out.length, out[k] ≠ l[i]) → ∃ s', ref03_Sort_k31 l ((i : Int), (k : Int), out) = some (.next s') ∧ (∃ (i : Nat) (out : List Src), s' = ((i : Int), out) ∧ i ≤ l.length ∧ out.length ≤ i ∧ out.Pairwise (fun x y => cmpS x y < 0) ∧ ∀ x, x ∈ out ↔ x ∈ l.take i) ∧ ((l.length : Int) - s'.1).toNat < ((l.length : Int) - (i : Int)).toNat := fun hne => by
        refine ⟨_, k31_eq hlt hl (by omega) hk, ⟨i + 1, _, rfl, by omega, by simp; omega, ins_sorted hs hk hlo (fun h => ⟨hhi h, hne h⟩), fun x => ?_⟩, by simp only; omega⟩
        rw [take_succ_at hlt, List.mem_append, List.mem_cons, List.mem_append, ← hm x]
        have : x ∈ out ↔ x ∈ out.take k ∨ x ∈ out.drop k := by rw [← List.mem_append, List.take_append_drop]
        rw [this]
        simp only [List.mem_singleton]
        constructor
        · rintro (h | h | h)
          · exact .inl (.inl h)
          · exact .inr h
          · exact .inl (.inr h)
        · rintro ((h | h) | h)
          · exact .inl h
          · exact .inr (.inr h)
          · exact .inr (.inl h)
      by_cases hkl : k < out.length
      · rw [if_pos (by simp; omega), inO_at (by simp only; omega) (by simp only; omega), getO_at (i := k) rfl hkl, getO_at (i := i) rfl hlt]
        simp only [Option.bind_some, eqs]
        by_cases he : out[k] = l[i]
        · rw [if_pos (by simpa using he), w64 (by omega) (by omega)]
          refine ⟨_, rfl, ⟨i + 1, out, by simp, by omega, by omega, hs, fun x => ?_⟩, by simp only; omega⟩
          rw [take_succ_at hlt, List.mem_append, ← hm x, List.mem_singleton]
          refine ⟨.inl, fun h => h.elim id fun h => ?_⟩
          subst h
          rw [← he]
          exact List.getElem_mem hkl
        · rw [if_neg (by simpa using he)]
          exact hins fun _ => he
      · rw [if_neg (by simp; omega)]
        exact hins fun h => (hkl h).elim
    · rw [if_neg (by simp; omega)]
      refine .inr ⟨_, rfl, hs, fun x => ?_⟩
      rw [hm x, List.take_of_length_le (by omega)]) (0, []) ⟨0, [], rfl, Nat.zero_le _, Nat.le_refl _, .nil, fun x => by simp⟩
  refine ⟨o, ?_, h2, h3⟩
  unfold ref03_Sort
  rw [h1]; rfl
theorem Sorts_eq {l : List Src} (hl : l.length ≤ 1000) : ∃ r, source_Sort l = some r ∧ ref03_Sort l = some r ∧ r.length ≤ 1000 := by
  obtain ⟨r, h1, h2, h3, h4⟩ := Sort_eq hl
  obtain ⟨r', h5, h6, h7⟩ := ref_Sort_eq hl
  have : r = r' := strict_unique h2 h6 fun x => (h3 x).trans (h7 x).symm
  subst this
  exact ⟨r, h1, h5, by omega⟩

/-! ### The law's own patterns -/
noncomputable def stageG {β : Type} (part : List UInt8) (d : Dice) (k : List UInt8 → List Int → Int → Option β) : Option β :=
  (Dice_Next (6 : Int) d).bind fun x75 => if (x75.1 == (0 : Int)) = true then (k [42] x75.2.fL x75.2.fAt) else (if (x75.1 == (1 : Int)) = true then (if (decide ((part.length : Int) > (0 : Int))) = true then ((Dice_Next (part.length : Int) x75.2).bind fun x79 => (cutO part 0 x79.1).bind fun x80 => (catO x80 [63]).bind fun x81 => (cutO part (IntKind.wrap .i64 (x79.1 + (1 : Int))) (part.length : Int)).bind fun x82 => (catO x81 x82).bind fun x83 => k x83 x79.2.fL x79.2.fAt) else (k part x75.2.fL x75.2.fAt)) else (if (x75.1 == (2 : Int)) = true then (if (decide ((part.length : Int) > (0 : Int))) = true then ((Dice_Next (IntKind.wrap .i64 ((part.length : Int) + (1 : Int))) x75.2).bind fun x86 => (cutO part 0 x86.1).bind fun x87 => (catO x87 [42]).bind fun x88 => k x88 x86.2.fL x86.2.fAt) else (k part x75.2.fL x75.2.fAt)) else (if (x75.1 == (3 : Int)) = true then ((Dice_Next (6 : Int) x75.2).bind fun x90 => (getO [[42, 42], [42, 85, 42], [97], [63, 63, 63], [70, 85, 82, 70, 85, 82, 70, 85, 82], [42, 63]] x90.1).bind fun x91 => k x91 x90.2.fL x90.2.fAt) else (k part x75.2.fL x75.2.fAt))))
theorem stage_ok {β : Type} {part : List UInt8} (hp : part.length ≤ 5) {d : Dice} (hd : DiceOk d) {k : List UInt8 → List Int → Int → Option β} {Q : β → Prop}
    (hk : ∀ p' (d' : Dice), p'.length ≤ 9 → DiceOk d' → ∃ r, k p' d'.fL d'.fAt = some r ∧ Q r) : ∃ r, stageG part d k = some r ∧ Q r := by
  obtain ⟨v, d1, e1, v0, v6, hd1⟩ := next_ok (k := 6) (by omega) (by omega) hd
  unfold stageG
  rw [e1]
  simp only [Option.bind_some]
  split
  · exact hk _ _ (by simp) hd1
  split
  · split
    · rename_i hpos
      have hpos : 0 < part.length := by simp at hpos; exact hpos
      obtain ⟨w, d2, e2, w0, w1, hd2⟩ := next_ok (k := (part.length : Int)) (by omega) (by omega) hd1
      obtain ⟨n, rfl⟩ := Int.eq_ofNat_of_zero_le w0
      rw [e2]
      simp only [Option.bind_some]
      rw [cutO_at (a := 0) (b := (n : Int)) (i := 0) (j := n) rfl rfl (Nat.zero_le _) (by omega), Option.bind_some, catO_at (by simp; omega), Option.bind_some, w64 (by omega) (by omega),
        cutO_at (i := n + 1) (j := part.length) (by omega) rfl (by omega) (Nat.le_refl _), Option.bind_some, catO_at (by simp; omega), Option.bind_some]
      exact hk _ _ (by simp; omega) hd2
    · exact hk _ _ (by omega) hd1
  split
  · split
    · rw [w64 (by omega) (by omega)]
      obtain ⟨w, d2, e2, w0, w1, hd2⟩ := next_ok (k := (part.length : Int) + 1) (by omega) (by omega) hd1
      obtain ⟨n, rfl⟩ := Int.eq_ofNat_of_zero_le w0
      rw [e2]
      simp only [Option.bind_some]
      rw [cutO_at (a := 0) (b := (n : Int)) (i := 0) (j := n) rfl rfl (Nat.zero_le _) (by omega), Option.bind_some, catO_at (by simp; omega), Option.bind_some]
      exact hk _ _ (by simp; omega) hd2
    · exact hk _ _ (by omega) hd1
  split
  · obtain ⟨w, d2, e2, w0, w1, hd2⟩ := next_ok (k := 6) (by omega) (by omega) hd1
    obtain ⟨x, hx, hg⟩ := getO_in (l := ([[42, 42], [42, 85, 42], [97], [63, 63, 63], [70, 85, 82, 70, 85, 82, 70, 85, 82], [42, 63]] : List (List UInt8))) w0 (by simpa using w1)
    rw [e2]
    simp only [Option.bind_some]
    rw [hg, Option.bind_some]
    refine hk _ _ ?_ hd2
    have : ∀ x ∈ ([[42, 42], [42, 85, 42], [97], [63, 63, 63], [70, 85, 82, 70, 85, 82, 70, 85, 82], [42, 63]] : List (List UInt8)), x.length ≤ 9 := by decide
    exact this x hx
  · exact hk _ _ (by omega) hd1
theorem src_len {a : Src} (h : IsSrc a) : a.fNetwork.length ≤ 5 ∧ a.fStation.length ≤ 5 ∧ a.fLocation.length ≤ 5 ∧ a.fChannel.length ≤ 5 := by
  obtain ⟨h1, h2, h3, h4⟩ := h
  exact ⟨(by decide : ∀ x ∈ nets, x.length ≤ 5) _ h1, (by decide : ∀ x ∈ stas, x.length ≤ 5) _ h2, (by decide : ∀ x ∈ locs, x.length ≤ 5) _ h3, (by decide : ∀ x ∈ chas, x.length ≤ 5) _ h4⟩
theorem src_ok {a : Src} (h : IsSrc a) : SrcOk a := by
  obtain ⟨h1, h2, h3, h4⟩ := src_len h
  exact ⟨by omega, by omega, by omega, by omega⟩
theorem pattern_ok {a : Src} (ha : IsSrc a) {d : Dice} (hd : DiceOk d) : ∃ r, law03_pattern a d = some r ∧ r.1.length ≤ 60 ∧ DiceOk r.2 := by
  obtain ⟨h1, h2, h3, h4⟩ := src_len ha
  have s4 : ∀ (x : List UInt8), x.length ≤ 29 → ∀ p' (d' : Dice), p'.length ≤ 9 → DiceOk d' → ∃ r, law03_pattern_k20 x p' d'.fL d'.fAt = some r ∧ r.1.length ≤ 60 ∧ DiceOk r.2 := fun x hx p' d' hp hd' => by
    unfold law03_pattern_k20
    rw [catO_at (by simp; omega), Option.bind_some, catO_at (by simp; omega), Option.bind_some]
    exact ⟨_, rfl, by simp; omega, hd'⟩
  have s3 : ∀ (x : List UInt8), x.length ≤ 19 → ∀ p' (d' : Dice), p'.length ≤ 9 → DiceOk d' → ∃ r, law03_pattern_k38 x a p' d'.fL d'.fAt = some r ∧ r.1.length ≤ 60 ∧ DiceOk r.2 := fun x hx p' d' hp hd' => by
    have e : law03_pattern_k38 x a p' d'.fL d'.fAt = (catO x [46]).bind fun x13 => (catO x13 p').bind fun x14 => stageG a.fChannel d' (law03_pattern_k20 x14) := rfl
    rw [e, catO_at (by simp; omega), Option.bind_some, catO_at (by simp; omega), Option.bind_some]
    exact stage_ok h4 hd' (s4 _ (by simp; omega))
  have s2 : ∀ (x : List UInt8), x.length ≤ 9 → ∀ p' (d' : Dice), p'.length ≤ 9 → DiceOk d' → ∃ r, law03_pattern_k56 x a p' d'.fL d'.fAt = some r ∧ r.1.length ≤ 60 ∧ DiceOk r.2 := fun x hx p' d' hp hd' => by
    have e : law03_pattern_k56 x a p' d'.fL d'.fAt = (catO x [46]).bind fun x8 => (catO x8 p').bind fun x9 => stageG a.fLocation d' (law03_pattern_k38 x9 a) := rfl
    rw [e, catO_at (by simp; omega), Option.bind_some, catO_at (by simp; omega), Option.bind_some]
    exact stage_ok h3 hd' (s3 _ (by simp; omega))
  have s1 : ∀ p' (d' : Dice), p'.length ≤ 9 → DiceOk d' → ∃ r, law03_pattern_k74 a p' d'.fL d'.fAt = some r ∧ r.1.length ≤ 60 ∧ DiceOk r.2 := fun p' d' hp hd' => by
    have e : law03_pattern_k74 a p' d'.fL d'.fAt = (catO [] p').bind fun x4 => stageG a.fStation d' (law03_pattern_k56 x4 a) := rfl
    rw [e, catO_at (by simp; omega), Option.bind_some]
    exact stage_ok h2 hd' (s2 _ (by simp; omega))
  have e : law03_pattern a d = stageG a.fNetwork d (law03_pattern_k74 a) := rfl
  rw [e]
  exact stage_ok h1 hd s1

/-! ### The law -/
theorem two {α : Type} {P : α → Prop} {x y : α} (hx : P x) (hy : P y) {i : Nat} (hi : i < [x, y].length) : P [x, y][i] := by
  match i, hi with
  | 0, _ => exact hx
  | 1, _ => exact hy
theorem l50_ok {p : List UInt8 × Dice} {pat : List UInt8} {x : Src} (hp : p.1.length ≤ 4000000000) (hq : pat.length ≤ 4000000000) (hx : SrcOk x) (s : Int) : loopO (law03_SourceExact_l52 p pat x s) (0 : Int) = some (.inl s) := by
  have := loop_list (body := law03_SourceExact_l52 p pat x s) [p.1, pat] (p := fun _ => true) (u := .inl s) (r := .inr false) (fun i hi => by
    have hz : [p.1, pat][i].length ≤ 4000000000 := two (P := fun z : List UInt8 => z.length ≤ 4000000000) hp hq hi
    obtain ⟨r, e1, e2⟩ := Match_eq hz hx
    simp only [List.length_cons, List.length_nil] at hi
    unfold law03_SourceExact_l52
    rw [if_pos (by simp; omega), getO_at rfl (by simpa using hi), w64 (by omega) (by omega)]
    simp only [Option.bind_some, e1, e2]
    simp) (by
    unfold law03_SourceExact_l52
    rw [if_neg (by simp)])
  rw [this]
  simp
theorem l76_ok {s : List UInt8 × Int} {t u v : List UInt8} (h1 : s.1.length ≤ 4000000000) (h2 : t.length ≤ 4000000000) (h3 : u.length ≤ 4000000000) (h4 : v.length ≤ 4000000000) : loopO (law03_SourceExact_l78 s t u v) (0 : Int) = some (.inl ()) := by
  have := loop_list (body := law03_SourceExact_l78 s t u v) [s.1, t, u, v] (p := fun _ => true) (u := .inl ()) (r := .inr false) (fun i hi => by
    have hz : [s.1, t, u, v][i].length ≤ 4000000000 := by
      match i, hi with
      | 0, _ => exact h1
      | 1, _ => exact h2
      | 2, _ => exact h3
      | 3, _ => exact h4
    obtain ⟨r, e1, e2⟩ := Parse_eq hz
    simp only [List.length_cons, List.length_nil] at hi
    unfold law03_SourceExact_l78
    rw [if_pos (by simp; omega), getO_at rfl (by simpa using hi), w64 (by omega) (by omega)]
    simp only [Option.bind_some, e1, e2, eqs]
    simp) (by
    unfold law03_SourceExact_l78
    rw [if_neg (by simp)])
  rw [this]
  simp
theorem l82_ok {a b : Src × Dice} {odd : List UInt8} {raw : Src} {pat text : List UInt8} (ha : IsSrc a.1) (hb : IsSrc b.1) (ho : odd.length ≤ 10) (hr : SrcOk raw) (hp : pat.length ≤ 40) (ht : text.length ≤ 60) {d : Dice} (hd : DiceOk d) :
    ∃ d' : Dice, DiceOk d' ∧ loopO (law03_SourceExact_l82 a odd raw pat b text) ((0 : Int), d.fL, d.fAt) = some (.inl (d'.fL, d'.fAt)) := by
  obtain ⟨o, h1, d', hd', rfl⟩ := loop_ind (body := law03_SourceExact_l82 a odd raw pat b text) (fun st : Int × List Int × Int => ∃ (i : Nat) (d : Dice), st = ((i : Int), d.fL, d.fAt) ∧ i ≤ 3 ∧ DiceOk d) (fun st => ((3 : Int) - st.1).toNat)
    (fun o => ∃ d' : Dice, DiceOk d' ∧ o = .inl (d'.fL, d'.fAt)) (by
    rintro st ⟨i, d, rfl, hi, hd⟩
    unfold law03_SourceExact_l82
    simp only
    by_cases hlt : i < 3
    · rw [if_pos (by simp; omega)]
      obtain ⟨x, hg, hx⟩ : ∃ x, getO [a.1, (T_api_SourceID.mk a.1.fNetwork odd a.1.fLocation a.1.fChannel), raw] (i : Int) = some x ∧ SrcOk x := by
        obtain ⟨q1, q2, q3, q4⟩ := src_ok ha
        match i, hlt with
        | 0, _ => exact ⟨_, rfl, src_ok ha⟩
        | 1, _ => exact ⟨_, rfl, q1, by simp only; omega, q3, q4⟩
        | 2, _ => exact ⟨_, rfl, hr⟩
      obtain ⟨p, e1, hpl, hd1⟩ := pattern_ok ha hd
      have e1' : law03_pattern a.1 (T_seismonetmade_Dice.mk d.fL d.fAt) = some p := e1
      have hfl := format_len x
      obtain ⟨v, d2, e2, v0, v1, hd2⟩ := next_ok (k := ((formatB x).1.length : Int) + 1) (by omega) (by omega) hd1
      obtain ⟨n, rfl⟩ := Int.eq_ofNat_of_zero_le v0
      rw [hg]
      simp only [Option.bind_some, Format_eq hx, ref_Format_eq hx, e1', l50_ok (show p.1.length ≤ 4000000000 by omega) (show pat.length ≤ 4000000000 by omega) hx, Valid_eq hx, ref_Valid_eq hx, Compare_eq, ref_Compare_eq, beq_self_eq_true, Bool.not_true, Bool.false_eq_true, if_false, bne_self_eq_false]
      have hss : ∃ q, source_SameStation x b.1 = some q ∧ ref03_SameStation x b.1 = some q := by
        unfold source_SameStation ref03_SameStation
        split <;> exact ⟨_, rfl, rfl⟩
      obtain ⟨q, g1, g2⟩ := hss
      rw [g1, g2]
      simp only [Option.bind_some, beq_self_eq_true, Bool.not_true, Bool.false_eq_true, if_false]
      rw [catO_at (by simp; omega), Option.bind_some, w64 (by omega) (by omega), e2, Option.bind_some, cutO_at (a := 0) (i := 0) (j := n) rfl rfl (Nat.zero_le _) (by omega), Option.bind_some,
        l76_ok (by omega) (by omega) (by simp; omega) (by simp; omega), Option.bind_some]
      refine .inl ⟨_, rfl, ⟨i + 1, d2, ?_, by omega, hd2⟩, ?_⟩
      · rw [w64 (by omega) (by omega)]; rfl
      · simp only
        rw [w64 (by omega) (by omega)]; omega
    · rw [if_neg (by simp; omega)]
      exact .inr ⟨_, rfl, d, hd, rfl⟩) ((0 : Int), d.fL, d.fAt) ⟨0, d, rfl, by omega, hd⟩
  exact ⟨d', hd', h1⟩
theorem l103_ok {pat : List UInt8} {p : List UInt8 × Dice} {l : List Src} (h1 : pat.length ≤ 4000000000) (h2 : p.1.length ≤ 4000000000) (hl : l.length ≤ 1000) (hok : ∀ x ∈ l, SrcOk x) (s : Int) : loopO (law03_SourceExact_l103 pat p l s) (0 : Int) = some (.inl s) := by
  have := loop_list (body := law03_SourceExact_l103 pat p l s) [pat, p.1, [42, 46, 42, 46, 42, 46, 42]] (p := fun _ => true) (u := .inl s) (r := .inr false) (fun i hi => by
    have hz : [pat, p.1, [42, 46, 42, 46, 42, 46, 42]][i].length ≤ 4000000000 := by
      match i, hi with
      | 0, _ => exact h1
      | 1, _ => exact h2
      | 2, _ => simp
    obtain ⟨r, e1, e2, e3⟩ := Select_eq hz hl hok
    simp only [List.length_cons, List.length_nil] at hi
    unfold law03_SourceExact_l103
    rw [if_pos (by simp; omega), getO_at rfl (by simpa using hi), w64 (by omega) (by omega)]
    simp only [Option.bind_some, e1, e2, bne_self_eq_false, Bool.false_eq_true, if_false, Same_refl e3]
    simp) (by
    unfold law03_SourceExact_l103
    rw [if_neg (by simp)])
  rw [this]
  simp
theorem l111_ok {l list : List Src} {a : Src × Dice} {pat : List UInt8} (ha : IsSrc a.1) (hl : l.length ≤ 1000) (hok : ∀ x ∈ l, SrcOk x) (hl2 : list.length ≤ 1000) (hok2 : ∀ x ∈ list, SrcOk x) (hp : pat.length ≤ 40) {d : Dice} (hd : DiceOk d) :
    loopO (law03_SourceExact_l111 l list a pat) ((0 : Int), d.fL, d.fAt) = some (.inl ()) := by
  obtain ⟨o, h1, rfl⟩ := loop_ind (body := law03_SourceExact_l111 l list a pat) (fun st : Int × List Int × Int => ∃ (i : Nat) (d : Dice), st = ((i : Int), d.fL, d.fAt) ∧ i ≤ 2 ∧ DiceOk d) (fun st => ((2 : Int) - st.1).toNat)
    (fun o => o = .inl ()) (by
    rintro st ⟨i, d, rfl, hi, hd⟩
    unfold law03_SourceExact_l111
    simp only
    by_cases hlt : i < 2
    · rw [if_pos (by simp; omega)]
      obtain ⟨x, hg, hx, hxo⟩ : ∃ x, getO [l, list] (i : Int) = some x ∧ x.length ≤ 1000 ∧ ∀ y ∈ x, SrcOk y := by
        match i, hlt with
        | 0, _ => exact ⟨_, rfl, hl, hok⟩
        | 1, _ => exact ⟨_, rfl, hl2, hok2⟩
      obtain ⟨p, e1, hpl, hd1⟩ := pattern_ok ha hd
      have e1' : law03_pattern a.1 (T_seismonetmade_Dice.mk d.fL d.fAt) = some p := e1
      obtain ⟨r, g1, g2, g3⟩ := Sorts_eq hx
      rw [hg]
      simp only [Option.bind_some, e1', l103_ok (show pat.length ≤ 4000000000 by omega) (show p.1.length ≤ 4000000000 by omega) hx hxo, g1, g2, Same_refl g3, Bool.not_true, Bool.false_eq_true, if_false]
      refine .inl ⟨_, rfl, ⟨i + 1, p.2, ?_, by omega, hd1⟩, ?_⟩
      · rw [w64 (by omega) (by omega)]; rfl
      · simp only
        rw [w64 (by omega) (by omega)]; omega
    · rw [if_neg (by simp; omega)]
      exact .inr ⟨_, rfl, rfl⟩) ((0 : Int), d.fL, d.fAt) ⟨0, d, rfl, by omega, hd⟩
  exact h1
theorem l23_ok {n : Int} (h0 : 0 ≤ n) (h8 : n < 8) {d : Dice} (hd : DiceOk d) : ∃ (d' : Dice) (l : List Src), DiceOk d' ∧ l.length ≤ 8 ∧ (∀ x ∈ l, SrcOk x) ∧ loopO law03_SourceExact_l23 (n, d.fL, d.fAt, ([] : List Src)) = some (d'.fL, d'.fAt, l) := by
  obtain ⟨o, h1, d', l, hd', hl, hok, rfl⟩ := loop_ind (body := law03_SourceExact_l23) (fun st : Int × List Int × Int × List Src => ∃ (d : Dice) (l : List Src), st.2 = (d.fL, d.fAt, l) ∧ 0 ≤ st.1 ∧ st.1 < 8 ∧ DiceOk d ∧ (l.length : Int) + st.1 ≤ 8 ∧ ∀ x ∈ l, SrcOk x) (fun st => st.1.toNat)
    (fun o => ∃ (d' : Dice) (l : List Src), DiceOk d' ∧ l.length ≤ 8 ∧ (∀ x ∈ l, SrcOk x) ∧ o = (d'.fL, d'.fAt, l)) (by
    rintro ⟨m, st⟩ ⟨d, l, h, h0, h8, hd, hl, hok⟩
    simp only at h h0 h8 hl
    subst h
    unfold law03_SourceExact_l23
    simp only
    by_cases hlt : 0 < m
    · rw [if_pos (by simpa using hlt)]
      obtain ⟨a, d1, e1, ha, hd1⟩ := source_ok hd
      have e1' : Dice_Source (T_seismonetmade_Dice.mk d.fL d.fAt) = some (a, d1) := e1
      rw [e1', Option.bind_some, appO_at (by simp; omega), Option.bind_some, w64 (by omega) (by omega)]
      refine .inl ⟨_, rfl, ⟨d1, l ++ [a], rfl, by simp only; omega, by simp only; omega, hd1, by simp; omega, fun x hx => ?_⟩, by simp only; omega⟩
      rcases List.mem_append.1 hx with hx | hx
      · exact hok x hx
      · rw [List.mem_singleton] at hx; subst hx; exact src_ok ha
    · rw [if_neg (by simpa using hlt)]
      exact .inr ⟨_, rfl, d, l, hd, by omega, hok, rfl⟩) (n, d.fL, d.fAt, []) ⟨d, [], rfl, h0, h8, hd, by simp; omega, fun x hx => by cases hx⟩
  exact ⟨d', l, hd', hl, hok, h1⟩
theorem k116_ok {raw : Src} {pat text : List UInt8} {list l : List Src} (hr : SrcOk raw) (hp : pat.length ≤ 40) (ht : text.length ≤ 60) (hl2 : list.length ≤ 1000) (hok2 : ∀ x ∈ list, SrcOk x) (hl : l.length ≤ 1000) (hok : ∀ x ∈ l, SrcOk x) {d : Dice} (hd : DiceOk d) :
    law03_SourceExact_k116 raw pat text list d.fL d.fAt l = some true := by
  obtain ⟨a, d1, e1, ha, hd1⟩ := source_ok hd
  obtain ⟨b, d2, e2, hb, hd2⟩ := source_ok hd1
  obtain ⟨v, d3, e3, v0, v4, hd3⟩ := next_ok (k := 4) (by omega) (by omega) hd2
  obtain ⟨odd, ho, hg⟩ := getO_in (l := ([[], [102, 117, 114], [65, 66, 67, 68, 69, 70], [65, 45, 66]] : List (List UInt8))) v0 (by simpa using v4)
  have hol : odd.length ≤ 10 := (by decide : ∀ x ∈ ([[], [102, 117, 114], [65, 66, 67, 68, 69, 70], [65, 45, 66]] : List (List UInt8)), x.length ≤ 10) odd ho
  have e1' : Dice_Source (T_seismonetmade_Dice.mk d.fL d.fAt) = some (a, d1) := e1
  obtain ⟨d4, hd4, g1⟩ := l82_ok (a := (a, d1)) (b := (b, d2)) ha hb hol hr hp ht hd3
  unfold law03_SourceExact_k116
  simp only [e1', e2, e3, hg, Option.bind_some, g1, l111_ok (a := (a, d1)) ha hl hok hl2 hok2 hp hd4, sane_at]
theorem SourceExact_law (t : List Int) (raw : Src) (text pat : List UInt8) (list : List Src) (hr : SrcOk raw) (hok : ∀ x ∈ list, SrcOk x) : law03_SourceExact t raw text pat list = some true := by
  unfold law03_SourceExact made_Light
  by_cases hl : (t.length : Int) ≤ 500
  · by_cases h1 : text.length > 60
    · simp only [hl, decide_true, Option.bind_some, Bool.not_true, Bool.false_eq_true, if_false, sane_at]
      rw [if_pos (by simp; omega)]
    by_cases h2 : pat.length > 40
    · simp only [hl, decide_true, Option.bind_some, Bool.not_true, Bool.false_eq_true, if_false, sane_at]
      rw [if_neg (by simp; omega), if_pos (by simp; omega)]
    by_cases h3 : list.length > 40
    · simp only [hl, decide_true, Option.bind_some, Bool.not_true, Bool.false_eq_true, if_false, sane_at]
      rw [if_neg (by simp; omega), if_neg (by simp; omega), if_pos (by simp; omega)]
    obtain ⟨d, e0, hd⟩ := roll_ok (t := t) (by omega)
    obtain ⟨n, d1, e1, n0, n8, hd1⟩ := next_ok (k := 8) (by omega) (by omega) hd
    obtain ⟨d2, l, hd2, hll, hlo, g1⟩ := l23_ok n0 n8 hd1
    obtain ⟨m, d3, e3, m0, m3, hd3⟩ := next_ok (k := 3) (by omega) (by omega) hd2
    have e3' : Dice_Next (3 : Int) (T_seismonetmade_Dice.mk d2.fL d2.fAt) = some (m, d3) := e3
    simp only [hl, decide_true, Option.bind_some, Bool.not_true, Bool.false_eq_true, if_false, e0, e1, g1, e3']
    rw [if_neg (by simp; omega), if_neg (by simp; omega), if_neg (by simp; omega)]
    split
    · rw [appO_at (by simp; omega), Option.bind_some]
      exact k116_ok hr (by omega) (by omega) (by omega) hok (by simp; omega) (fun x hx => by
        rcases List.mem_append.1 hx with hx | hx
        · exact hlo x hx
        · rw [List.mem_singleton] at hx; subst hx; exact hr) hd3
    · exact k116_ok hr (by omega) (by omega) (by omega) hok (by omega) hlo hd3
  · simp only [hl, decide_false, Option.bind_some, Bool.not_false, if_true, sane_at]
end Go.Dw.Sx
