
import Derived.Test.YtjecbkklfphblaaGreatDwLift4

namespace Go.Dw

def Le {α : Type} (m m' : Option α) : Prop := ∀ r, m = some r → m' = some r
theorem Le.refl {α : Type} (m : Option α) : Le m m := fun _ h => h
theorem Le.none {α : Type} (m : Option α) : Le none m := fun _ h => by cases h
theorem Le.trans {α : Type} {a b c : Option α} (h : Le a b) (h' : Le b c) : Le a c := fun r hr => h' r (h r hr)
theorem Le.bind {α β : Type} {m m' : Option α} {k k' : α → Option β} (h : Le m m') (hk : ∀ x, Le (k x) (k' x)) : Le (m.bind k) (m'.bind k') := fun r hr => by
 rcases m with _ | x
 ·cases hr
 ·rw [h x rfl]; exact hk x r hr
theorem Le.ite {α : Type} {c : Bool} {a a' b b' : Option α} (h : Le a a') (h' : Le b b') : Le (if c = true then a else b) (if c = true then a' else b') := by cases c <;> assumption
theorem Le.loopN {σ ω : Type} {body body' : σ → Option (Step1 σ ω)} (h : ∀ s, Le (body s) (body' s)) : ∀ (n : Nat) (s : σ), Le (loopN body n s) (loopN body' n s)
 | 0, _ => Le.none _
 | n + 1, s => fun r hr => by
  simp only [Dw.loopN] at hr ⊢
  rcases hb : body s with _ | (s' | o)
  ·simp [hb] at hr
  ·rw [h s _ hb]; simp only [hb] at hr; exact Le.loopN h n s' r hr
  ·rw [h s _ hb]; simp only [hb] at hr; exact hr
theorem Le.loop {σ ω : Type} {body body' : σ → Option (Step1 σ ω)} (h : ∀ s, Le (body s) (body' s)) (n : Nat) (s : σ) : Le (Dw.loopN body n s) (loopO body' s) := fun _ hr => loopO_of (Le.loopN h n s _ hr)
theorem Le.loopO {σ ω : Type} {body body' : σ → Option (Step1 σ ω)} (h : ∀ s, Le (body s) (body' s)) (s : σ) : Le (Dw.loopO body s) (Dw.loopO body' s) := fun _ hr => by
 obtain ⟨n, hn⟩ := loopO_some hr
 exact Le.loop h n s _ hn
end Go.Dw
