/- ItLawD: an inventory that is changed stays valid. -/
import Derived.Test.YtkfmfbhngneklaaGreatDoorItLawC
import Derived.Test.YtkfmfbhngneklaaGreatDoorDwLift3
set_option maxRecDepth 100000
set_option maxHeartbeats 4000000
namespace Go.Dw.It
open Go.Dw

theorem loop_run {σ ω : Type} {body : σ → Option (Step1 σ ω)} (n : Nat) (st : Nat → σ) {r : ω} (h1 : ∀ i, i < n → body (st i) = some (.next (st (i + 1)))) (h2 : body (st n) = some (.stop r)) : loopO body (st 0) = some r := by
  have : ∀ k i, i + k = n → loopO body (st i) = some r := by
    intro k
    induction k with
    | zero => intro i hi; obtain rfl : i = n := by omega
              exact loopO_stop h2
    | succ k ih => intro i hi; rw [loopO_next (h1 i (by omega))]; exact ih (i + 1) (by omega)
  exact this n 0 (by omega)
theorem modO_at {α : Type} {l : List α} {n : Int} {i : Nat} {f : α → α} (hn : n = i) (hi : i < l.length) : modO l n f = some (l.set i (f l[i])) := by
  subst hn
  unfold modO
  rw [if_pos (by omega), Int.toNat_natCast, List.getElem?_eq_getElem hi]

/-! ### Copies -/
theorem copy18 {r : Resp} (hr : ROk r) : ref18_Copy r = some r := by
  obtain ⟨hl, ht⟩ := hr
  have : loopO (ref18_Copy_l9 r) ((0 : Int), ([] : List Stage)) = some r.fStages := loop_run (body := ref18_Copy_l9 r) r.fStages.length (fun i => ((i : Int), r.fStages.take i)) (fun i hi => by
    have hti := ht _ (List.getElem_mem hi)
    unfold ref18_Copy_l9
    simp only
    rw [if_pos (decide_eq_true (by omega)), getO_at rfl hi, Option.bind_some, appO_at (by simp; omega), Option.bind_some, appO_at (by simp; omega), Option.bind_some, w64 (by omega) (by omega), take_succ_at hi]
    rfl) (by
    unfold ref18_Copy_l9
    simp only
    rw [if_neg (by simp), List.take_length])
  unfold ref18_Copy
  rw [this]; rfl
theorem copyE {e : Epoch} (he : ROk e.fResponse) : ref19_CopyEpoch e = some e := by
  unfold ref19_CopyEpoch
  rw [copy18 he]; rfl
theorem copyC {l : List Chan} (hl : IOk l) {k : Nat} (hk : k < l.length) (s2 : List Chan) : loopO (ref19_Copy_l19 ⟨l⟩ (k : Int) s2) ((0 : Int), ([] : List Epoch)) = some ((k : Int), s2, l[k].fEpochs) := by
  obtain ⟨he, hr⟩ := (hl.2 _ (List.getElem_mem hk)).2
  exact loop_run (body := ref19_Copy_l19 ⟨l⟩ (k : Int) s2) l[k].fEpochs.length (fun i => ((i : Int), l[k].fEpochs.take i)) (fun i hi => by
    unfold ref19_Copy_l19
    simp only
    rw [getO_at rfl hk]
    simp only [Option.bind_some]
    rw [if_pos (decide_eq_true (by omega)), getO_at rfl hi, Option.bind_some, copyE (hr _ (List.getElem_mem hi)), Option.bind_some, appO_at (by simp; omega), Option.bind_some, w64 (by omega) (by omega), take_succ_at hi]
    rfl) (by
    unfold ref19_Copy_l19
    simp only
    rw [getO_at rfl hk]
    simp only [Option.bind_some]
    rw [if_neg (by simp), List.take_length])
theorem copyI {l : List Chan} (hl : IOk l) : ref19_Copy ⟨l⟩ = some ⟨l⟩ := by
  have hn := hl.1
  have : loopO (ref19_Copy_l22 ⟨l⟩) ((0 : Int), ([] : List Chan)) = some l := loop_run (body := ref19_Copy_l22 ⟨l⟩) l.length (fun i => ((i : Int), l.take i)) (fun i hi => by
    unfold ref19_Copy_l22
    simp only
    rw [if_pos (decide_eq_true (by omega)), getO_at rfl hi, Option.bind_some, copyC hl hi, Option.bind_some]
    simp only
    rw [appO_at (by simp; omega), Option.bind_some, w64 (by omega) (by omega), take_succ_at hi]
    rfl) (by
    unfold ref19_Copy_l22
    simp only
    rw [if_neg (by simp), List.take_length])
  unfold ref19_Copy
  rw [this]; rfl

/-! ### Places -/
theorem place_in {l : List Chan} {c : T_api_Change} {k : Nat} (hk : k < l.length) (he : l[k].fEpochs.length ≤ 4000000000) :
    loopO (ref20_place_l20 l (k : Int) c) (0 : Int) = some (.inl (k : Int)) ∨ ∃ m : Nat, m < l[k].fEpochs.length ∧ loopO (ref20_place_l20 l (k : Int) c) (0 : Int) = some (.inr ((k : Int), (m : Int), l)) := by
  rcases loop_upto (body := ref20_place_l20 l (k : Int) c) l[k].fEpochs.length (q := fun i => match l[k].fEpochs[i]? with | some e => !(e.fFrom == c.fFrom) | none => true) (u := .inl (k : Int)) (r := fun i => .inr ((k : Int), (i : Int), l)) (fun i hi => by
    unfold ref20_place_l20
    rw [inO_at (by omega) (by omega), getO_at rfl hk]
    simp only [Option.bind_some]
    rw [if_pos (decide_eq_true (by omega)), getO_at rfl hi, w64 (by omega) (by omega)]
    simp only [Option.bind_some, List.getElem?_eq_getElem hi, ite_nand]
    rfl) (by
    unfold ref20_place_l20
    rw [inO_at (by omega) (by omega), getO_at rfl hk]
    simp only [Option.bind_some]
    rw [if_neg (by simp)]) with ⟨h, -⟩ | ⟨m, hm, h, -⟩
  · exact .inl h
  · exact .inr ⟨m, hm, h⟩
theorem place_eq {l : List Chan} (hl : l.length ≤ 4000000000) (he : ∀ x ∈ l, x.fEpochs.length ≤ 4000000000) (c : T_api_Change) :
    ∃ i j, ref20_place c l = some (i, j, l) ∧ ((i = -1 ∧ j = -1 ∧ ∀ x ∈ l, x.fSource ≠ c.fSource) ∨ ∃ k, ∃ hk : k < l.length, i = (k : Int) ∧ l[k].fSource = c.fSource ∧ (j = -1 ∨ ∃ m : Nat, m < l[k].fEpochs.length ∧ j = (m : Int))) := by
  obtain ⟨o, h, hq⟩ := loop_ind (body := ref20_place_l24 l c) (fun s : Int => ∃ i : Nat, s = (i : Int) ∧ i ≤ l.length ∧ ∀ j, (h : j < i) → (h' : j < l.length) → l[j].fSource ≠ c.fSource) (fun s => ((l.length : Int) - s).toNat)
    (fun o => match o with | .inl _ => ∀ x ∈ l, x.fSource ≠ c.fSource | .inr (i, j, l') => l' = l ∧ ∃ k, ∃ hk : k < l.length, i = (k : Int) ∧ l[k].fSource = c.fSource ∧ (j = -1 ∨ ∃ m : Nat, m < l[k].fEpochs.length ∧ j = (m : Int))) (by
    rintro s ⟨i, rfl, hi, hne⟩
    unfold ref20_place_l24
    by_cases hlt : i < l.length
    · rw [if_pos (decide_eq_true (by omega)), inO_at (by omega) (by omega), getO_at rfl hlt, w64 (by omega) (by omega)]
      simp only [Option.bind_some, eqs]
      by_cases hs : l[i].fSource = c.fSource
      · rw [if_neg (by simp [hs])]
        rcases place_in (c := c) hlt (he _ (List.getElem_mem hlt)) with h | ⟨m, hm, h⟩
        · rw [h]; exact .inr ⟨_, rfl, rfl, i, hlt, rfl, hs, .inl rfl⟩
        · rw [h]; exact .inr ⟨_, rfl, rfl, i, hlt, rfl, hs, .inr ⟨m, hm, rfl⟩⟩
      · rw [if_pos (by simp [hs])]
        refine .inl ⟨_, rfl, ⟨i + 1, by omega, by omega, fun j hj hj' => ?_⟩, by omega⟩
        by_cases e : j = i
        · subst e; exact hs
        · exact hne j (by omega) hj'
    · rw [if_neg (by simp; omega)]
      refine .inr ⟨_, rfl, fun x hx => ?_⟩
      obtain ⟨j, hj, rfl⟩ := List.getElem_of_mem hx
      exact hne j (by omega) hj) 0 ⟨0, rfl, Nat.zero_le _, fun j hj => by omega⟩
  unfold ref20_place
  rw [h]
  rcases o with _ | ⟨i, j, l'⟩
  · exact ⟨-1, -1, rfl, .inl ⟨rfl, rfl, hq⟩⟩
  · obtain ⟨rfl, hq⟩ := hq
    exact ⟨i, j, rfl, .inr hq⟩
theorem conflict_eq {l : List Epoch} (hl : l.length ≤ 4000000000) (e : Epoch) : ∃ b, ref20_conflict l e = some b ∧ (b = false → ∀ x ∈ l, ¬ (x.fFrom < e.fTo ∧ e.fFrom < x.fTo)) := by
  have := loop_list (body := ref20_conflict_l8 l e) l (p := fun x => !(decide (x.fFrom < e.fTo) && decide (e.fFrom < x.fTo))) (u := .inl ()) (r := .inr true) (fun i hi => by
    unfold ref20_conflict_l8
    rw [if_pos (decide_eq_true (by omega)), getO_at rfl hi, w64 (by omega) (by omega)]
    simp only [Option.bind_some, ite_nand]
    cases decide (l[i].fFrom < e.fTo) <;> cases decide (e.fFrom < l[i].fTo) <;> rfl) (by
    unfold ref20_conflict_l8
    rw [if_neg (by simp)])
  unfold ref20_conflict
  rw [this]
  by_cases h : l.all (fun x => !(decide (x.fFrom < e.fTo) && decide (e.fFrom < x.fTo))) = true
  · rw [if_pos h]
    refine ⟨false, rfl, fun _ x hx h' => ?_⟩
    have := List.all_eq_true.1 h x hx
    simp [h'] at this
  · rw [if_neg h]
    exact ⟨true, rfl, fun h => by cases h⟩
theorem add_eq {l : List Epoch} (hl : l.length ≤ 4000000000) {e : Epoch} (he : ROk e.fResponse) :
    ∃ k, k ≤ l.length ∧ ref20_add l e = some (l.take k ++ e :: l.drop k) ∧ (∀ j, (h : j < k) → (h' : j < l.length) → l[j].fFrom < e.fFrom) ∧ (∀ h : k < l.length, ¬ l[k].fFrom < e.fFrom) := by
  have key : ∃ k : Nat, k ≤ l.length ∧ loopO (ref20_add_l7 l e) (0 : Int) = some (k : Int) ∧ (∀ j, (h : j < k) → (h' : j < l.length) → l[j].fFrom < e.fFrom) ∧ (∀ h : k < l.length, ¬ l[k].fFrom < e.fFrom) := by
    rcases loop_upto (body := ref20_add_l7 l e) l.length (q := fun i => match l[i]? with | some x => decide (x.fFrom < e.fFrom) | none => true) (u := (l.length : Int)) (r := fun i => (i : Int)) (fun i hi => by
      unfold ref20_add_l7
      rw [if_pos (decide_eq_true (by omega)), getO_at rfl hi, w64 (by omega) (by omega)]
      simp only [Option.bind_some, List.getElem?_eq_getElem hi]
      rfl) (by
      unfold ref20_add_l7
      rw [if_neg (by simp)]) with ⟨h, h'⟩ | ⟨i, hi, h, h', h''⟩
    · refine ⟨l.length, Nat.le_refl _, h, fun j hj hj' => ?_, fun h => by omega⟩
      have := h' j hj'
      simpa [List.getElem?_eq_getElem hj'] using this
    · refine ⟨i, by omega, h, fun j hj hj' => ?_, fun hi' hc => ?_⟩
      · have := h'' j hj
        simpa [List.getElem?_eq_getElem hj'] using this
      · simp [List.getElem?_eq_getElem hi, hc] at h'
  obtain ⟨k, hk, h, h1, h2⟩ := key
  refine ⟨k, hk, ?_, h1, h2⟩
  unfold ref20_add
  rw [h, Option.bind_some, cutO_at (a := 0) (i := 0) (j := k) rfl rfl (by omega) hk, Option.bind_some, appO_at (by simp; omega), Option.bind_some, copyE he, Option.bind_some, appO_at (by simp; omega), Option.bind_some,
    cutO_at (i := k) (j := l.length) rfl rfl hk (Nat.le_refl _), Option.bind_some, appO_at (by simp; omega), Option.bind_some]
  have ht : List.take (l.length - k) (List.drop k l) = l.drop k := List.take_of_length_le (by simp)
  rw [ht]
  simp
end Go.Dw.It
