
import Derived.Test.YtkcfodpngpmlcaaGreatDwLift4

namespace Go.Dw

def Le {α : Type} (m m' : Option α) : Prop := ∀ r, m = some r → m' = some r
theorem Le.refl {α : Type} (m : Option α) : Le m m := fun _ h => h
theorem Le.none {α : Type} (m : Option α) : Le none m := fun _ h => by cases h
theorem Le.trans {α : Type} {a b c : Option α} (h : Le a b) (h' : Le b c) : Le a c := fun r hr => h' r (h r hr)
theorem Le.bind {α β : Type} {m m' : Option α} {k k' : α → Option β} (h : Le m m') (hk : ∀ x, Le (k x) (k' x)) : Le (m.bind k) (m'.bind k') := fun r hr => by
 rcases m with _ | x
 ·cases hr
 ·rw [h x rfl]; exact hk x r hr
theorem Le.iz {σ ω : Type} {body body' : σ → Option (cb σ ω)} (h : ∀ s, Le (body s) (body' s)) : ∀ (n : Nat) (s : σ), Le (iz body n s) (iz body' n s)
 | 0, _ => Le.none _
 | n + 1, s => fun r hr => by
  simp only [Dw.iz] at hr ⊢
  rcases hb : body s with _ | (s' | o)
  ·simp [hb] at hr
  ·rw [h s _ hb]; simp only [hb] at hr; exact Le.iz h n s' r hr
  ·rw [h s _ hb]; simp only [hb] at hr; exact hr
theorem Le.loop {σ ω : Type} {body body' : σ → Option (cb σ ω)} (h : ∀ s, Le (body s) (body' s)) (n : Nat) (s : σ) : Le (Dw.iz body n s) (bF body' s) := fun _ hr => ke (Le.iz h n s _ hr)
theorem Le.bF {σ ω : Type} {body body' : σ → Option (cb σ ω)} (h : ∀ s, Le (body s) (body' s)) (s : σ) : Le (Dw.bF body s) (Dw.bF body' s) := fun _ hr => by
 obtain ⟨n, hn⟩ := me hr
 exact Le.loop h n s _ hn
end Go.Dw
