
import Derived.Test.YtjecbkklfphblaaGreatDwPlain
import Derived.Test.YtjecbkklfphblaaGreatDwLift4



namespace Go.Dw

def Ok {α : Type} (x : Option α) (Q : α → Prop) : Prop := ∃ a, x = some a ∧ Q a
namespace Ok
variable {α β : Type} {Q : α → Prop} {P : β → Prop}
theorem ret {a : α} (h : Q a) : Ok (some a) Q := ⟨a, rfl, h⟩
theorem of {x : Option α} {a : α} (h : x = some a) (hq : Q a) : Ok x Q := ⟨a, h, hq⟩
theorem bind {x : Option β} {f : β → Option α} (h : Ok x P) (hf : ∀ b, P b → Ok (f b) Q) : Ok (x.bind f) Q := by
 obtain ⟨b, rfl, hb⟩ := h
 exact hf b hb
theorem mono {x : Option β} {P' : β → Prop} (h : Ok x P) (hq : ∀ b, P b → P' b) : Ok x P' := by
 obtain ⟨b, hb, hp⟩ := h
 exact ⟨b, hb, hq b hp⟩
theorem name {x : Option β} (h : Ok x P) : Ok x (fun b => x = some b ∧ P b) := by
 obtain ⟨b, hb, hp⟩ := h
 exact ⟨b, hb, hb, hp⟩
theorem val {x : Option β} (h : Ok x P) {b : β} (hb : x = some b) : P b := by
 obtain ⟨c, hc, hp⟩ := h
 rw [hb] at hc; cases hc
 exact hp
theorem ite {c : Prop} [Decidable c] {x y : Option α} (h1 : c → Ok x Q) (h2 : ¬c → Ok y Q) : Ok (if c then x else y) Q := by
 split
 ·exact h1 ‹_›
 ·exact h2 ‹_›
theorem iteD {p : Prop} [Decidable p] {x y : Option α} (h1 : p → Ok x Q) (h2 : ¬p → Ok y Q) : Ok (if decide p = true then x else y) Q := by
 by_cases h : p
 ·rw [if_pos (decide_eq_true h)]; exact h1 h
 ·rw [if_neg (by simpa using h)]; exact h2 h
theorem get {l : List β} {n : Int} (h0 : 0 ≤ n) (h1 : n < l.length) : Ok (getO l n) (fun x => x ∈ l ∧ l[n.toNat]? = some x) := by
 refine ⟨l[n.toNat]'(by omega), ?_, List.getElem_mem _, List.getElem?_eq_getElem _⟩
 unfold getO
 rw [if_pos h0, List.getElem?_eq_getElem]
theorem sub {n : Nat} {lo hi : Int} (h0 : 0 ≤ lo) (h1 : lo ≤ hi) (h2 : hi ≤ n) : Ok (subO n lo hi) (fun _ => True) := ⟨(), subO_at h0 h1 h2, trivial⟩
theorem view {n lo hi : Nat} (h1 : lo ≤ hi) (h2 : hi ≤ n) : Ok (viewO n lo hi) (fun _ => True) := ⟨(), viewO_at h1 h2, trivial⟩
theorem part {l : List β} {lo hi : Nat} (h1 : lo ≤ hi) (h2 : hi ≤ l.length) : Ok (partO l lo hi) (fun r => r = (l.drop lo).take (hi - lo)) := ⟨_, partO_at h1 h2, rfl⟩
theorem set {l : List β} {n : Int} {y : β} (h0 : 0 ≤ n) (h1 : n < l.length) : Ok (setO l n y) (fun r => r = l.set n.toNat y) := by
 refine ⟨l.set n.toNat y, ?_, rfl⟩
 unfold setO
 rw [if_pos ⟨h0, h1⟩]
theorem cut {l : List β} {a b : Int} (h0 : 0 ≤ a) (h1 : a ≤ b) (h2 : b ≤ l.length) : Ok (cutO l a b) (fun r => r = (l.drop a.toNat).take (b.toNat - a.toNat)) := ⟨_, by unfold cutO; rw [if_pos ⟨h0, h1, h2⟩], rfl⟩
theorem rem {x y : Int} (h : y ≠ 0) : Ok (remO x y) (fun r => r = x.tmod y) := ⟨_, by unfold remO; rw [if_neg h], rfl⟩
theorem quo {k : IntKind} {x y : Int} (h : y ≠ 0) : Ok (quoO k x y) (fun r => r = k.wrap (x.tdiv y)) := ⟨_, by unfold quoO; rw [if_neg h], rfl⟩
theorem mk {n : Int} {z : β} {b : Nat} (h0 : 0 ≤ n) (h1 : n.toNat * b ≤ 140737488355328) (h2 : n.toNat ≤ 140737488355328) : Ok (mkO n z b) (fun r => r = List.replicate n.toNat z) := ⟨_, by unfold mkO; rw [if_pos ⟨h0, h1, h2⟩], rfl⟩
def S {σ ω : Type} (I : σ → Prop) (m : σ → Nat) (Q : ω → Prop) (s : σ) : Step1 σ ω → Prop
 | .next s' => I s' ∧ m s' < m s
 | .stop o => Q o
theorem loop {σ ω : Type} {body : σ → Option (Step1 σ ω)} {Q : ω → Prop} {s : σ} (I : σ → Prop) (m : σ → Nat) (step : ∀ s, I s → Ok (body s) (S I m Q s)) (h : I s) : Ok (loopO body s) Q := by
 refine loop_ind I m Q (fun s hs => ?_) s h
 obtain ⟨r, h1, h2⟩ := step s hs
 cases r with
 | next s' => exact .inl ⟨s', h1, h2.1, h2.2⟩
 | stop o => exact .inr ⟨o, h1, h2⟩
theorem nx {σ ω : Type} {I : σ → Prop} {m : σ → Nat} {Q : ω → Prop} {s s' : σ} (h : I s') (hm : m s' < m s) : Ok (some (.next s')) (S I m Q s) := ⟨_, rfl, h, hm⟩
theorem st {σ ω : Type} {I : σ → Prop} {m : σ → Nat} {Q : ω → Prop} {s : σ} {o : ω} (h : Q o) : Ok (some (.stop o)) (S I m Q s) := ⟨_, rfl, h⟩
end Ok
theorem Ok.eq {α : Type} {x : Option α} {a : α} (h : Ok x (fun b => b = a)) : x = some a := by
 obtain ⟨b, h1, h2⟩ := h
 rw [h1, h2]
end Go.Dw
