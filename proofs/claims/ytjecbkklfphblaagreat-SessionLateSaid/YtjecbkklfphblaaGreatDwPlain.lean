
import Derived.Test.YtjecbkklfphblaaGreatDwLift4
import Derived.IntWalk
import Derived.Sort.Walk0
import Derived.Sort.AssemblyPlain




namespace Go.Dw

theorem loop_ind {σ ω : Type} {body : σ → Option (Step1 σ ω)} (I : σ → Prop) (m : σ → Nat) (Q : ω → Prop)
  (step : ∀ s, I s → (∃ s', body s = some (.next s') ∧ I s' ∧ m s' < m s) ∨ (∃ o, body s = some (.stop o) ∧ Q o)) : ∀ s, I s → ∃ o, loopO body s = some o ∧ Q o := by
 intro s
 generalize hn : m s = n
 induction n using Nat.strongRecOn generalizing s with
 | _ n ih =>
  intro hs
  rcases step s hs with ⟨s', h1, h2, h3⟩ | ⟨o, h1, h2⟩
  ·obtain ⟨o, h4, h5⟩ := ih (m s') (by omega) s' rfl h2
   exact ⟨o, by rw [loopO_next h1]; exact h4, h5⟩
  ·exact ⟨o, loopO_stop h1, h2⟩

theorem getO_at {α : Type} {l : List α} {n : Int} {i : Nat} (hn : n = i) (hi : i < l.length) : getO l n = some l[i] := by
 subst hn
 unfold getO
 rw [if_pos (by omega), Int.toNat_natCast, List.getElem?_eq_getElem hi]
theorem subO_at {n : Nat} {lo hi : Int} (h0 : 0 ≤ lo) (h1 : lo ≤ hi) (h2 : hi ≤ n) : subO n lo hi = some () := by unfold subO; rw [if_pos ⟨h0, h1, h2⟩]
theorem viewO_at {n lo hi : Nat} (h1 : lo ≤ hi) (h2 : hi ≤ n) : viewO n lo hi = some () := by unfold viewO; rw [if_pos ⟨h1, h2⟩]
theorem partO_at {α : Type} {l : List α} {lo hi : Nat} (h1 : lo ≤ hi) (h2 : hi ≤ l.length) : partO l lo hi = some ((l.drop lo).take (hi - lo)) := by unfold partO; rw [if_pos ⟨h1, h2⟩]
theorem w64 {n : Int} (h0 : -9223372036854775808 ≤ n) (h1 : n ≤ 9223372036854775807) : IntKind.wrap .i64 n = n := IntWalk.i64_in _ (by omega)

structure Tot {α : Type} (c : α → α → Int) : Prop where
 anti : ∀ x y, c y x = -c x y
 tr : ∀ x y z, c x y ≤ 0 → c y z ≤ 0 → c x z ≤ 0
theorem Tot.refl {α : Type} {c : α → α → Int} (h : Tot c) (x : α) : c x x = 0 := by have := h.anti x x; omega
theorem Tot.or {α : Type} {c d : α → α → Int} (hc : Tot c) (hd : Tot d) : Tot (fun x y => if c x y ≠ 0 then c x y else d x y) := by
 refine ⟨fun x y => ?_, fun x y z h1 h2 => ?_⟩
 ·have := hc.anti x y; have := hd.anti x y
  by_cases h : c x y = 0
  ·rw [if_neg (by omega), if_neg (by omega)]; omega
  ·rw [if_pos (by omega), if_pos h]; omega
 ·have a1 : c x y ≤ 0 := by split at h1 <;> omega
  have a2 : c y z ≤ 0 := by split at h2 <;> omega
  have a3 := hc.tr x y z a1 a2
  by_cases h : c x z = 0
  ·rw [if_neg (by omega)]
   have b1 := hc.tr z x y (by have := hc.anti x z; omega) a1
   have b2 := hc.tr y z x a2 (by have := hc.anti x z; omega)
   have e1 := hc.anti x y; have e2 := hc.anti y z
   rw [if_neg (by omega)] at h1; rw [if_neg (by omega)] at h2
   exact hd.tr x y z h1 h2
  ·rw [if_pos h]; exact a3
theorem Tot.map {α β : Type} {c : β → β → Int} (h : Tot c) (f : α → β) : Tot (fun x y => c (f x) (f y)) := ⟨fun x y => h.anti _ _, fun x y z => h.tr _ _ _⟩
theorem Tot.lt {α : Type} {c : α → α → Int} (h : Tot c) {x y z : α} (h1 : c x y < 0) (h2 : c y z ≤ 0) : c x z < 0 := by
 have a := h.tr x y z (by omega) h2
 by_cases hz : c x z = 0
 ·have b := h.tr y z x h2 (by have := h.anti x z; omega)
  have := h.anti x y; omega
 ·omega
theorem Tot.swo {α : Type} {c : α → α → Int} (h : Tot c) : Sort.SWO (fun x y => decide (c x y < 0)) := by
 refine ⟨fun x => ?_, fun x y z h1 h2 => ?_, fun x y z h1 h2 => ?_⟩
 ·have := h.refl x; simp; omega
 ·simp only [decide_eq_true_eq] at *
  exact h.lt h1 (by omega)
 ·simp only [decide_eq_false_iff_not] at *
  have := h.tr z y x (by have := h.anti y z; omega) (by have := h.anti x y; omega)
  have := h.anti x z; omega

def cmpI (a b : Int) : Int := if a < b then -1 else if a > b then 1 else 0
theorem cmpI_tot : Tot cmpI := by
 refine ⟨fun x y => ?_, fun x y z h1 h2 => ?_⟩ <;> unfold cmpI at * <;> (repeat' split at *) <;> omega
section
variable {α : Type} [DecidableEq α]
end

theorem take_succ_at {α : Type} {l : List α} {n : Nat} (h : n < l.length) : l.take (n + 1) = l.take n ++ [l[n]] := by
 rw [List.take_add_one, List.getElem?_eq_getElem h]; rfl

section
variable {α : Type} [DecidableEq α] {eq : α → α → Bool} (heq : ∀ x y, eq x y = decide (x = y))
include heq
end
end Go.Dw
