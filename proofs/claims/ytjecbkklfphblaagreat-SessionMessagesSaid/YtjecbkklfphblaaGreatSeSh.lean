
import Derived.Test.YtjecbkklfphblaaGreatSeLawP
import Derived.Test.YtjecbkklfphblaaGreatDwSh
import Derived.Test.YtjecbkklfphblaaGreatProg



set_option maxRecDepth 100000
namespace Go.Dw.Se
open Go.Proofs Go.Dw
def ln (x : aa) : Prop := ((Lit.int .i64 x.az).wf = true) ∧ ((Lit.int .i64 x.fTo).wf = true)
theorem sh_55 {d : Nat} {cs : List PD} (h : Sh Tryz.prog (d + 2) 55 cs) : ∃ a : aa, cs = a.pd.cells ∧ ln a := by
  have hl : cs.length = 2 := (Sh.slen (d := d + 1) Tryz.underlying55 h).trans (by kernel_rfl)
  have f0 : Sh Tryz.prog (d + 1) 3 ((cs.drop 0).take 1) := Sh.field (d := d + 1) Tryz.underlying55 h 0 rfl (by kernel_rfl)
  have f1 : Sh Tryz.prog (d + 1) 3 ((cs.drop 1).take 1) := Sh.field (d := d + 1) Tryz.underlying55 h 1 rfl (by kernel_rfl)
  match cs, hl with
  | [c0, c1], _ =>
    obtain ⟨v0, e0, q0⟩ := Sh.int (d := d) Tryz.underlying3 (show Sh Tryz.prog (d + 1) 3 [c0] from f0)
    obtain rfl : c0 = _ := (List.cons.inj e0).1
    obtain ⟨v1, e1, q1⟩ := Sh.int (d := d) Tryz.underlying3 (show Sh Tryz.prog (d + 1) 3 [c1] from f1)
    obtain rfl : c1 = _ := (List.cons.inj e1).1
    exact ⟨⟨v0, v1⟩, rfl, q0, q1⟩
theorem args_of {ps : List PD} (h : ShAll Tryz.prog 10 [22, 9, 3, 3, 3, 30] ps) : ∃ (t : List Int) (raw : List UInt8) (a b c : Int) (l : List aa), ps = [.lst (t.map (.int .i64)), .str raw, .int .i64 a, .int .i64 b, .int .i64 c, .lst (l.map aa.pd)] := by
  have h0 : ∃ p1 p2 p3 p4 p5 p6, ps = [p1, p2, p3, p4, p5, p6] ∧ ShV Tryz.prog 10 22 p1 ∧ ShV Tryz.prog 10 9 p2 ∧ ShV Tryz.prog 10 3 p3 ∧ ShV Tryz.prog 10 3 p4 ∧ ShV Tryz.prog 10 3 p5 ∧ ShV Tryz.prog 10 30 p6 := by
    rcases ps with _ | ⟨p1, _ | ⟨p2, _ | ⟨p3, _ | ⟨p4, _ | ⟨p5, _ | ⟨p6, _ | ⟨p7, ps⟩⟩⟩⟩⟩⟩⟩
    · exact h.elim
    · exact h.2.elim
    · exact h.2.2.elim
    · exact h.2.2.2.elim
    · exact h.2.2.2.2.elim
    · exact h.2.2.2.2.2.elim
    · exact ⟨p1, p2, p3, p4, p5, p6, rfl, h.1, h.2.1, h.2.2.1, h.2.2.2.1, h.2.2.2.2.1, h.2.2.2.2.2.1⟩
    · exact h.2.2.2.2.2.2.elim
  obtain ⟨p1, p2, p3, p4, p5, p6, rfl, h1, h2, h3, h4, h5, h6⟩ := h0
  obtain ⟨t, rfl, _⟩ := ShV.ints Tryz.underlying22 Tryz.underlying3 h1
  obtain ⟨raw, e2, -⟩ := Sh.str (d := 9) Tryz.underlying9 h2.2.2
  rw [one_cells (h2.2.1 (by kernel_rfl))] at e2
  cases e2
  obtain ⟨a, rfl, -⟩ := ShV.int Tryz.underlying3 h3
  obtain ⟨b, rfl, -⟩ := ShV.int Tryz.underlying3 h4
  obtain ⟨c, rfl, -⟩ := ShV.int Tryz.underlying3 h5
  obtain ⟨l, e6, -, -⟩ := Sh.lst (d := 9) (pd := aa.pd) (Q := ln) Tryz.underlying30 (by kernel_rfl) h6.2.2 (fun _ => rfl) (fun _ h => sh_55 (d := 7) h)
  rw [one_cells (h6.2.1 (by kernel_rfl))] at e6
  cases e6
  exact ⟨t, raw, a, b, c, l, rfl⟩
end Go.Dw.Se
