
import Derived.Test.YtjecbkklfphblaaGreatDwArg

namespace Go.Dw
section
variable {P : Program} {d : Nat} {t : TypeId} {cs : List PD}
theorem Sh.int {k : IntKind} (hu : P.underlying t = some (.int k)) (h : Sh P (d + 1) t cs) : ∃ n, cs = [.int k n] ∧ (Lit.int k n).wf = true := by
 unfold Sh at h
 simp only [hu] at h
 exact h
theorem Sh.bool (hu : P.underlying t = some .bool) (h : Sh P (d + 1) t cs) : ∃ b, cs = [.bool b] := by
 unfold Sh at h
 simp only [hu] at h
 exact h
theorem Sh.str (hu : P.underlying t = some .string) (h : Sh P (d + 1) t cs) : ∃ s, cs = [.str s] ∧ s.length ≤ maxLen := by
 unfold Sh at h
 simp only [hu] at h
 exact h
theorem Sh.slen {fs : Array Field} (hu : P.underlying t = some (.struct fs)) (h : Sh P (d + 1) t cs) : cs.length = P.cellsOf t := by
 unfold Sh at h
 simp only [hu] at h
 exact h.1
theorem Sh.field {fs : Array Field} (hu : P.underlying t = some (.struct fs)) (h : Sh P (d + 1) t cs) (i : Nat) {ft : TypeId} {off n : Nat} (hf : fs.toList[i]?.map (fun f => (f.type, f.offset)) = some (ft, off)) (hc : P.cellsOf ft = n) : Sh P d ft ((cs.drop off).take n) := by
 unfold Sh at h
 simp only [hu] at h
 cases hg : fs.toList[i]? with
 | none => rw [hg] at hf; cases hf
 | some f =>
  rw [hg] at hf
  simp only [Option.map_some, Option.some.injEq, Prod.mk.injEq] at hf
  obtain ⟨rfl, rfl⟩ := hf
  subst hc
  exact h.2 f (List.mem_of_getElem? hg)
theorem Sh.elem {n : Nat} {e : TypeId} (hu : P.underlying t = some (.array n e)) (h : Sh P (d + 1) t cs) (i : Nat) {off k : Nat} (hi : i < n) (ho : i * k = off) (hc : P.cellsOf e = k) : Sh P d e ((cs.drop off).take k) := by
 unfold Sh at h
 simp only [hu] at h
 subst hc ho
 exact h.2 i hi
theorem Sh.lst {α : Type} {e : TypeId} {pd : α → PD} {Q : α → Prop} (hu : P.underlying t = some (.slice e)) (ha : isAggT P e = true) (h : Sh P (d + 1) t cs) (hpd : ∀ a, pd a = .agg (pd a).cells) (hx : ∀ cs, Sh P d e cs → ∃ a, cs = (pd a).cells ∧ Q a) :
  ∃ l : List α, cs = [.lst (l.map pd)] ∧ l.length ≤ maxLen ∧ ∀ a ∈ l, Q a := by
 unfold Sh at h
 simp only [hu] at h
 obtain ⟨es, h3, h4, h5⟩ := h
 have key : ∀ es : List PD, (∀ x ∈ es, ∃ a, x = pd a ∧ Q a) → ∃ l : List α, es = l.map pd ∧ ∀ a ∈ l, Q a := by
  intro es
  induction es with
  | nil => exact fun _ => ⟨[], rfl, by simp⟩
  | cons x es ih =>
   intro hh
   obtain ⟨a, rfl, ha⟩ := hh x (by simp)
   obtain ⟨l, rfl, hl⟩ := ih fun y hy => hh y (by simp [hy])
   exact ⟨a :: l, rfl, by simpa using ⟨ha, hl⟩⟩
 obtain ⟨l, rfl, hl⟩ := key es (fun x hm => by
  obtain ⟨g1, -, g2⟩ := h5 x hm
  obtain ⟨c, rfl⟩ := g1 ha
  obtain ⟨a, h6, h7⟩ := hx _ g2
  exact ⟨a, by rw [hpd a, ← h6]; rfl, h7⟩)
 exact ⟨l, h3, by simpa using h4, hl⟩
end
end Go.Dw
