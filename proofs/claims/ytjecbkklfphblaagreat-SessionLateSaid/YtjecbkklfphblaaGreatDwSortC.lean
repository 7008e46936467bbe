
import Derived.Test.YtjecbkklfphblaaGreatDwSortP
import Derived.Test.YtjecbkklfphblaaGreatDwLe


namespace Go.Dw
open Go.Proofs
section
variable {α : Type}
def apartB [DecidableEq α] (cmp : α → α → Option Int) : List α → Bool
 | [] => true
 | a :: l => l.all (fun b => lt3 cmp a b || lt3 cmp b a || decide (a = b)) && apartB cmp l
def ApartE (cmp : α → α → Option Int) (l : List α) : Prop := l.Pairwise fun x y => lt3 cmp x y = true ∨ lt3 cmp y x = true ∨ x = y
theorem ApartE.eq {cmp : α → α → Option Int} {l : List α} (h : ApartE cmp l) {a b : α} (ha : a ∈ l) (hb : b ∈ l) (h1 : lt3 cmp a b = false) (h2 : lt3 cmp b a = false) : a = b := by
 have key : ∀ {l : List α}, ApartE cmp l → ∀ x ∈ l, ∀ y ∈ l, x = y ∨ lt3 cmp x y = true ∨ lt3 cmp y x = true := by
  intro l
  induction l with
  | nil => intro _ x hx; cases hx
  | cons c l ih =>
   intro h
   obtain ⟨hc, hl⟩ := List.pairwise_cons.1 h
   intro x hx y hy
   rcases List.mem_cons.1 hx with hx' | hx' <;> rcases List.mem_cons.1 hy with hy' | hy'
   ·exact .inl (hx'.trans hy'.symm)
   ·subst hx'
    rcases hc y hy' with h | h | h
    ·exact .inr (.inl h)
    ·exact .inr (.inr h)
    ·exact .inl h
   ·subst hy'
    rcases hc x hx' with h | h | h
    ·exact .inr (.inr h)
    ·exact .inr (.inl h)
    ·exact .inl h.symm
   ·exact ih hl x hx' y hy'
 rcases key h a ha b hb with h | h | h
 ·exact h
 ·rw [h] at h1; cases h1
 ·rw [h] at h2; cases h2
def insC (cmp : α → α → Option Int) (a : α) : List α → List α
 | [] => [a]
 | b :: l => if lt3 cmp a b = true then a :: b :: l else b :: insC cmp a l
def isortC (cmp : α → α → Option Int) : List α → List α
 | [] => []
 | a :: l => insC cmp a (isortC cmp l)
def sortC [DecidableEq α] (cmp : α → α → Option Int) (l : List α) : Option (List α) := if (apartB cmp l && decide (l.length < 4611686018427387904)) = true then some (isortC cmp l) else none
theorem apartB_apart [DecidableEq α] {cmp : α → α → Option Int} : ∀ {l : List α}, apartB cmp l = true → ApartE cmp l
 | [], _ => .nil
 | a :: l, h => by
  simp only [apartB, Bool.and_eq_true, List.all_eq_true, Bool.or_eq_true, decide_eq_true_eq, or_assoc] at h
  exact .cons h.1 (apartB_apart h.2)
theorem insC_perm (cmp : α → α → Option Int) (a : α) : ∀ l : List α, (insC cmp a l).Perm (a :: l)
 | [] => .refl _
 | b :: l => by
  unfold insC
  split
  ·exact .refl _
  ·exact ((insC_perm cmp a l).cons b).trans (.swap a b l)
theorem isortC_perm (cmp : α → α → Option Int) : ∀ l : List α, (isortC cmp l).Perm l
 | [] => .nil
 | a :: l => (insC_perm cmp a _).trans ((isortC_perm cmp l).cons a)
theorem insC_sorted {cmp : α → α → Option Int} (hc : Sort.SWO (lt3 cmp)) (a : α) : ∀ {l : List α}, l.Pairwise (fun x y => lt3 cmp y x = false) → (insC cmp a l).Pairwise (fun x y => lt3 cmp y x = false)
 | [], _ => by simp [insC]
 | b :: l, h => by
  obtain ⟨h1, h2⟩ := List.pairwise_cons.1 h
  unfold insC
  split
  ·rename_i hab
   refine .cons (fun y hy => ?_) h
   rcases List.mem_cons.1 hy with rfl | hy
   ·cases hya : lt3 cmp y a with
    | false => rfl
    | true => have := hc.trans _ _ _ hab hya; rw [hc.irrefl] at this; cases this
   ·cases hya : lt3 cmp y a with
    | false => rfl
    | true => have := hc.trans _ _ _ hya hab; rw [h1 y hy] at this; cases this
  ·rename_i hab
   refine .cons (fun y hy => ?_) (insC_sorted hc a h2)
   rcases List.mem_cons.1 ((insC_perm cmp a l).mem_iff.1 hy) with rfl | hy
   ·simpa using hab
   ·exact h1 y hy
theorem isortC_sorted {cmp : α → α → Option Int} (hc : Sort.SWO (lt3 cmp)) : ∀ l : List α, (isortC cmp l).Pairwise (fun x y => lt3 cmp y x = false)
 | [] => .nil
 | a :: l => insC_sorted hc a (isortC_sorted hc l)
theorem sortO_sorted {cmp : α → α → Option Int} (hc : CmpOk cmp) (l : List α) (hl : l.length < 4611686018427387904) : ∃ r, sortO cmp l = some r ∧ r.Perm l ∧ r.Pairwise (fun x y => lt3 cmp y x = false) := by
 cases l with
 | nil => exact ⟨[], rfl, .nil, .nil⟩
 | cons a l =>
  have h : ∃ r, sortO cmp (a :: l) = some r := ⟨_, by rw [sortO_cons, if_pos ⟨hc, hl⟩]⟩
  obtain ⟨r, hr⟩ := h
  refine ⟨r, hr, sortO_perm hr, ?_⟩
  rw [sortO_cons, if_pos ⟨hc, hl⟩] at hr
  letI : Inhabited α := ⟨a⟩
  have := Sort.pdq_sorts (lt3 cmp) hc.2 (a :: l).toArray 0 (a :: l).length (Lib.bitLen (a :: l).length) true true (Nat.zero_le _) (by simp) (.inl rfl)
  obtain ⟨⟨hs, -, -⟩, hso⟩ := this
  have hr := Option.some.inj hr
  rw [List.pairwise_iff_getElem]
  intro i j hi hj hij
  subst hr
  have hsz : (Sort.pdq (lt3 cmp) (a :: l).toArray 0 (a :: l).length (Lib.bitLen (a :: l).length) true true).size = (a :: l).length := by simpa using hs
  have hi' : i < (Sort.pdq (lt3 cmp) (a :: l).toArray 0 (a :: l).length (Lib.bitLen (a :: l).length) true true).size := by simpa using hi
  have hj' : j < (Sort.pdq (lt3 cmp) (a :: l).toArray 0 (a :: l).length (Lib.bitLen (a :: l).length) true true).size := by simpa using hj
  have h1 := hso i j (Nat.zero_le _) hij (by omega)
  rw [getElem!_pos _ i hi', getElem!_pos _ j hj'] at h1
  simpa using h1
theorem sortO_isort {cmp : α → α → Option Int} (hc : CmpOk cmp) {l : List α} (ha : ApartE cmp l) (hl : l.length < 4611686018427387904) : sortO cmp l = some (isortC cmp l) := by
 obtain ⟨r, e, hp, hs⟩ := sortO_sorted hc l hl
 have hi := isortC_perm cmp l
 rw [e]
 refine congrArg some (List.Perm.eq_of_pairwise (le := fun x y => lt3 cmp y x = false) (fun a b h1 h2 h3 h4 => ha.eq (hp.mem_iff.1 h1) (hi.mem_iff.1 h2) h4 h3) hs (isortC_sorted hc.2 l) (hp.trans hi.symm))
theorem sortC_le [DecidableEq α] {cmp : α → α → Option Int} (hc : CmpOk cmp) (l : List α) : Le (sortC cmp l) (sortO cmp l) := fun r hr => by
 unfold sortC at hr
 split at hr
 ·rename_i h
  simp only [Bool.and_eq_true, decide_eq_true_eq] at h
  rw [sortO_isort hc (apartB_apart h.1) h.2]
  exact hr
 ·cases hr
end
end Go.Dw
