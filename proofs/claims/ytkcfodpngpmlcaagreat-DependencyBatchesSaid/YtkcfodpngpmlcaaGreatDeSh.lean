
import Derived.Test.YtkcfodpngpmlcaaGreatDeLawX
import Derived.Test.YtkcfodpngpmlcaaGreatDwSh
import Derived.Test.YtkcfodpngpmlcaaGreatProg



set_option maxRecDepth 100000
namespace Go.Dw.De
open Go.Proofs Go.Dw
def mZ (x : ag) : Prop := (x.aC.length ≤ maxLen) ∧ (x.aA.length ≤ maxLen) ∧ (x.av.length ≤ maxLen) ∧ (x.aD.length ≤ maxLen)
theorem sh_50 {d : Nat} {cs : List PD} (h : Sh Tryz.prog (d + 2) 50 cs) : ∃ a : ag, cs = a.pd.cells ∧ mZ a := by
 have hl : cs.length = 4 := (Sh.slen (d := d + 1) Tryz.underlying50 h).trans (by kernel_rfl)
 have f0 : Sh Tryz.prog (d + 1) 9 ((cs.drop 0).take 1) := Sh.field (d := d + 1) Tryz.underlying50 h 0 rfl (by kernel_rfl)
 have f1 : Sh Tryz.prog (d + 1) 9 ((cs.drop 1).take 1) := Sh.field (d := d + 1) Tryz.underlying50 h 1 rfl (by kernel_rfl)
 have f2 : Sh Tryz.prog (d + 1) 9 ((cs.drop 2).take 1) := Sh.field (d := d + 1) Tryz.underlying50 h 2 rfl (by kernel_rfl)
 have f3 : Sh Tryz.prog (d + 1) 9 ((cs.drop 3).take 1) := Sh.field (d := d + 1) Tryz.underlying50 h 3 rfl (by kernel_rfl)
 match cs, hl with
 | [c0, c1, c2, c3], _ =>
  obtain ⟨v0, e0, q0⟩ := Sh.str (d := d) Tryz.underlying9 (show Sh Tryz.prog (d + 1) 9 [c0] from f0)
  obtain rfl : c0 = _ := (List.cons.inj e0).1
  obtain ⟨v1, e1, q1⟩ := Sh.str (d := d) Tryz.underlying9 (show Sh Tryz.prog (d + 1) 9 [c1] from f1)
  obtain rfl : c1 = _ := (List.cons.inj e1).1
  obtain ⟨v2, e2, q2⟩ := Sh.str (d := d) Tryz.underlying9 (show Sh Tryz.prog (d + 1) 9 [c2] from f2)
  obtain rfl : c2 = _ := (List.cons.inj e2).1
  obtain ⟨v3, e3, q3⟩ := Sh.str (d := d) Tryz.underlying9 (show Sh Tryz.prog (d + 1) 9 [c3] from f3)
  obtain rfl : c3 = _ := (List.cons.inj e3).1
  exact ⟨⟨v0, v1, v2, v3⟩, rfl, q0, q1, q2, q3⟩
def fA (x : aa) : Prop := (mZ x.ak) ∧ ((Lit.int .i64 x.aN).wf = true) ∧ ((Lit.int .i64 x.aG).wf = true) ∧ ((Lit.int .i64 x.aY).wf = true) ∧ ((Lit.int .i64 x.aH).wf = true) ∧ ((Lit.int .i64 x.aK).wf = true)
theorem sh_52 {d : Nat} {cs : List PD} (h : Sh Tryz.prog (d + 3) 52 cs) : ∃ a : aa, cs = a.pd.cells ∧ fA a := by
 have hl : cs.length = 9 := (Sh.slen (d := d + 2) Tryz.underlying52 h).trans (by kernel_rfl)
 have f0 : Sh Tryz.prog (d + 2) 50 ((cs.drop 0).take 4) := Sh.field (d := d + 2) Tryz.underlying52 h 0 rfl (by kernel_rfl)
 have f1 : Sh Tryz.prog (d + 2) 3 ((cs.drop 4).take 1) := Sh.field (d := d + 2) Tryz.underlying52 h 1 rfl (by kernel_rfl)
 have f2 : Sh Tryz.prog (d + 2) 3 ((cs.drop 5).take 1) := Sh.field (d := d + 2) Tryz.underlying52 h 2 rfl (by kernel_rfl)
 have f3 : Sh Tryz.prog (d + 2) 3 ((cs.drop 6).take 1) := Sh.field (d := d + 2) Tryz.underlying52 h 3 rfl (by kernel_rfl)
 have f4 : Sh Tryz.prog (d + 2) 3 ((cs.drop 7).take 1) := Sh.field (d := d + 2) Tryz.underlying52 h 4 rfl (by kernel_rfl)
 have f5 : Sh Tryz.prog (d + 2) 3 ((cs.drop 8).take 1) := Sh.field (d := d + 2) Tryz.underlying52 h 5 rfl (by kernel_rfl)
 match cs, hl with
 | [c0, c1, c2, c3, c4, c5, c6, c7, c8], _ =>
  obtain ⟨v0, e0, q0⟩ := sh_50 (d := d) (show Sh Tryz.prog (d + 2) 50 [c0, c1, c2, c3] from f0)
  simp only [ag.pd, PD.cells, List.cons.injEq, and_true] at e0
  obtain ⟨rfl, rfl, rfl, rfl⟩ := e0
  obtain ⟨v1, e1, q1⟩ := Sh.int (d := d + 1) Tryz.underlying3 (show Sh Tryz.prog (d + 1 + 1) 3 [c4] from f1)
  obtain rfl : c4 = _ := (List.cons.inj e1).1
  obtain ⟨v2, e2, q2⟩ := Sh.int (d := d + 1) Tryz.underlying3 (show Sh Tryz.prog (d + 1 + 1) 3 [c5] from f2)
  obtain rfl : c5 = _ := (List.cons.inj e2).1
  obtain ⟨v3, e3, q3⟩ := Sh.int (d := d + 1) Tryz.underlying3 (show Sh Tryz.prog (d + 1 + 1) 3 [c6] from f3)
  obtain rfl : c6 = _ := (List.cons.inj e3).1
  obtain ⟨v4, e4, q4⟩ := Sh.int (d := d + 1) Tryz.underlying3 (show Sh Tryz.prog (d + 1 + 1) 3 [c7] from f4)
  obtain rfl : c7 = _ := (List.cons.inj e4).1
  obtain ⟨v5, e5, q5⟩ := Sh.int (d := d + 1) Tryz.underlying3 (show Sh Tryz.prog (d + 1 + 1) 3 [c8] from f5)
  obtain rfl : c8 = _ := (List.cons.inj e5).1
  exact ⟨⟨v0, v1, v2, v3, v4, v5⟩, rfl, q0, q1, q2, q3, q4, q5⟩
def vL (x : aT) : Prop := ((Lit.int .i64 x.aU).wf = true) ∧ ((Lit.int .i64 x.aS).wf = true)
theorem sh_89 {d : Nat} {cs : List PD} (h : Sh Tryz.prog (d + 2) 89 cs) : ∃ a : aT, cs = a.pd.cells ∧ vL a := by
 have hl : cs.length = 2 := (Sh.slen (d := d + 1) Tryz.underlying89 h).trans (by kernel_rfl)
 have f0 : Sh Tryz.prog (d + 1) 3 ((cs.drop 0).take 1) := Sh.field (d := d + 1) Tryz.underlying89 h 0 rfl (by kernel_rfl)
 have f1 : Sh Tryz.prog (d + 1) 3 ((cs.drop 1).take 1) := Sh.field (d := d + 1) Tryz.underlying89 h 1 rfl (by kernel_rfl)
 match cs, hl with
 | [c0, c1], _ =>
  obtain ⟨v0, e0, q0⟩ := Sh.int (d := d) Tryz.underlying3 (show Sh Tryz.prog (d + 1) 3 [c0] from f0)
  obtain rfl : c0 = _ := (List.cons.inj e0).1
  obtain ⟨v1, e1, q1⟩ := Sh.int (d := d) Tryz.underlying3 (show Sh Tryz.prog (d + 1) 3 [c1] from f1)
  obtain rfl : c1 = _ := (List.cons.inj e1).1
  exact ⟨⟨v0, v1⟩, rfl, q0, q1⟩
def rJ (x : ap) : Prop := ((Lit.int .i64 x.fX).wf = true) ∧ ((Lit.int .i64 x.fY).wf = true) ∧ ((Lit.int .i64 x.fZ).wf = true)
theorem sh_28 {d : Nat} {cs : List PD} (h : Sh Tryz.prog (d + 2) 28 cs) : ∃ a : ap, cs = a.pd.cells ∧ rJ a := by
 have hl : cs.length = 3 := (Sh.slen (d := d + 1) Tryz.underlying28 h).trans (by kernel_rfl)
 have f0 : Sh Tryz.prog (d + 1) 3 ((cs.drop 0).take 1) := Sh.field (d := d + 1) Tryz.underlying28 h 0 rfl (by kernel_rfl)
 have f1 : Sh Tryz.prog (d + 1) 3 ((cs.drop 1).take 1) := Sh.field (d := d + 1) Tryz.underlying28 h 1 rfl (by kernel_rfl)
 have f2 : Sh Tryz.prog (d + 1) 3 ((cs.drop 2).take 1) := Sh.field (d := d + 1) Tryz.underlying28 h 2 rfl (by kernel_rfl)
 match cs, hl with
 | [c0, c1, c2], _ =>
  obtain ⟨v0, e0, q0⟩ := Sh.int (d := d) Tryz.underlying3 (show Sh Tryz.prog (d + 1) 3 [c0] from f0)
  obtain rfl : c0 = _ := (List.cons.inj e0).1
  obtain ⟨v1, e1, q1⟩ := Sh.int (d := d) Tryz.underlying3 (show Sh Tryz.prog (d + 1) 3 [c1] from f1)
  obtain rfl : c1 = _ := (List.cons.inj e1).1
  obtain ⟨v2, e2, q2⟩ := Sh.int (d := d) Tryz.underlying3 (show Sh Tryz.prog (d + 1) 3 [c2] from f2)
  obtain rfl : c2 = _ := (List.cons.inj e2).1
  exact ⟨⟨v0, v1, v2⟩, rfl, q0, q1, q2⟩
def xi (x : aV) : Prop := ((Lit.int .i64 x.a0).wf = true) ∧ ((Lit.int .i64 x.a1).wf = true) ∧ ((Lit.int .i64 x.a2).wf = true)
theorem sh_135 {d : Nat} {cs : List PD} (h : Sh Tryz.prog (d + 2) 135 cs) : ∃ a : aV, cs = a.pd.cells ∧ xi a := by
 have hl : cs.length = 3 := (Sh.alen (d := d + 1) Tryz.underlying135 h).trans (by kernel_rfl)
 have f0 : Sh Tryz.prog (d + 1) 3 ((cs.drop 0).take 1) := Sh.elem (d := d + 1) Tryz.underlying135 h 0 om rfl (by kernel_rfl)
 have f1 : Sh Tryz.prog (d + 1) 3 ((cs.drop 1).take 1) := Sh.elem (d := d + 1) Tryz.underlying135 h 1 om rfl (by kernel_rfl)
 have f2 : Sh Tryz.prog (d + 1) 3 ((cs.drop 2).take 1) := Sh.elem (d := d + 1) Tryz.underlying135 h 2 om rfl (by kernel_rfl)
 match cs, hl with
 | [c0, c1, c2], _ =>
  obtain ⟨v0, e0, q0⟩ := Sh.int (d := d) Tryz.underlying3 (show Sh Tryz.prog (d + 1) 3 [c0] from f0)
  obtain rfl : c0 = _ := (List.cons.inj e0).1
  obtain ⟨v1, e1, q1⟩ := Sh.int (d := d) Tryz.underlying3 (show Sh Tryz.prog (d + 1) 3 [c1] from f1)
  obtain rfl : c1 = _ := (List.cons.inj e1).1
  obtain ⟨v2, e2, q2⟩ := Sh.int (d := d) Tryz.underlying3 (show Sh Tryz.prog (d + 1) 3 [c2] from f2)
  obtain rfl : c2 = _ := (List.cons.inj e2).1
  exact ⟨⟨v0, v1, v2⟩, rfl, q0, q1, q2⟩
def qy (x : aq) : Prop := ((Lit.int .i64 x.br).wf = true) ∧ (xi x.aU) ∧ (xi x.aS) ∧ (x.bc.length ≤ maxLen ∧ ∀ y ∈ x.bc, (Lit.int .i64 y).wf = true) ∧ ((Lit.int .i64 x.aX).wf = true) ∧ ((Lit.int .i64 x.bi).wf = true)
theorem sh_137 {d : Nat} {cs : List PD} (h : Sh Tryz.prog (d + 3) 137 cs) : ∃ a : aq, cs = a.pd.cells ∧ qy a := by
 have hl : cs.length = 10 := (Sh.slen (d := d + 2) Tryz.underlying137 h).trans (by kernel_rfl)
 have f0 : Sh Tryz.prog (d + 2) 3 ((cs.drop 0).take 1) := Sh.field (d := d + 2) Tryz.underlying137 h 0 rfl (by kernel_rfl)
 have f1 : Sh Tryz.prog (d + 2) 135 ((cs.drop 1).take 3) := Sh.field (d := d + 2) Tryz.underlying137 h 1 rfl (by kernel_rfl)
 have f2 : Sh Tryz.prog (d + 2) 135 ((cs.drop 4).take 3) := Sh.field (d := d + 2) Tryz.underlying137 h 2 rfl (by kernel_rfl)
 have f3 : Sh Tryz.prog (d + 2) 22 ((cs.drop 7).take 1) := Sh.field (d := d + 2) Tryz.underlying137 h 3 rfl (by kernel_rfl)
 have f4 : Sh Tryz.prog (d + 2) 3 ((cs.drop 8).take 1) := Sh.field (d := d + 2) Tryz.underlying137 h 4 rfl (by kernel_rfl)
 have f5 : Sh Tryz.prog (d + 2) 3 ((cs.drop 9).take 1) := Sh.field (d := d + 2) Tryz.underlying137 h 5 rfl (by kernel_rfl)
 match cs, hl with
 | [c0, c1, c2, c3, c4, c5, c6, c7, c8, c9], _ =>
  obtain ⟨v0, e0, q0⟩ := Sh.int (d := d + 1) Tryz.underlying3 (show Sh Tryz.prog (d + 1 + 1) 3 [c0] from f0)
  obtain rfl : c0 = _ := (List.cons.inj e0).1
  obtain ⟨v1, e1, q1⟩ := sh_135 (d := d) (show Sh Tryz.prog (d + 2) 135 [c1, c2, c3] from f1)
  simp only [aV.pd, PD.cells, List.cons.injEq, and_true] at e1
  obtain ⟨rfl, rfl, rfl⟩ := e1
  obtain ⟨v2, e2, q2⟩ := sh_135 (d := d) (show Sh Tryz.prog (d + 2) 135 [c4, c5, c6] from f2)
  simp only [aV.pd, PD.cells, List.cons.injEq, and_true] at e2
  obtain ⟨rfl, rfl, rfl⟩ := e2
  obtain ⟨v3, e3, q3⟩ := Sh.lst1 (d := d + 1) (g := (PD.int .i64)) (Q := fun y => (Lit.int .i64 y).wf = true) Tryz.underlying22 (by kernel_rfl) (show Sh Tryz.prog (d + 2) 22 [c7] from f3) (fun _ h => Sh.int Tryz.underlying3 h)
  obtain rfl : c7 = _ := (List.cons.inj e3).1
  obtain ⟨v4, e4, q4⟩ := Sh.int (d := d + 1) Tryz.underlying3 (show Sh Tryz.prog (d + 1 + 1) 3 [c8] from f4)
  obtain rfl : c8 = _ := (List.cons.inj e4).1
  obtain ⟨v5, e5, q5⟩ := Sh.int (d := d + 1) Tryz.underlying3 (show Sh Tryz.prog (d + 1 + 1) 3 [c9] from f5)
  obtain rfl : c9 = _ := (List.cons.inj e5).1
  exact ⟨⟨v0, v1, v2, v3, v4, v5⟩, rfl, q0, q1, q2, q3, q4, q5⟩
def rK (x : aB) : Prop := (x.aL.length ≤ maxLen ∧ ∀ y ∈ x.aL, qy y)
theorem sh_93 {d : Nat} {cs : List PD} (h : Sh Tryz.prog (d + 5) 93 cs) : ∃ a : aB, cs = a.pd.cells ∧ rK a := by
 have hl : cs.length = 1 := (Sh.slen (d := d + 4) Tryz.underlying93 h).trans (by kernel_rfl)
 have f0 : Sh Tryz.prog (d + 4) 91 ((cs.drop 0).take 1) := Sh.field (d := d + 4) Tryz.underlying93 h 0 rfl (by kernel_rfl)
 match cs, hl with
 | [c0], _ =>
  obtain ⟨v0, e0, q0⟩ := Sh.lst (d := d + 3) (pd := aq.pd) (Q := qy) Tryz.underlying91 (by kernel_rfl) (show Sh Tryz.prog (d + 4) 91 [c0] from f0) (fun _ => rfl) (fun _ h => sh_137 h)
  obtain rfl : c0 = _ := (List.cons.inj e0).1
  exact ⟨⟨v0⟩, rfl, q0⟩
def qx (x : ai) : Prop := ((Lit.int .i64 x.aJ).wf = true) ∧ ((Lit.int .i64 x.fTo).wf = true) ∧ (vL x.bI) ∧ (rJ x.aF) ∧ (rK x.aQ)
theorem sh_96 {d : Nat} {cs : List PD} (h : Sh Tryz.prog (d + 6) 96 cs) : ∃ a : ai, cs = a.pd.cells ∧ qx a := by
 have hl : cs.length = 8 := (Sh.slen (d := d + 5) Tryz.underlying96 h).trans (by kernel_rfl)
 have f0 : Sh Tryz.prog (d + 5) 3 ((cs.drop 0).take 1) := Sh.field (d := d + 5) Tryz.underlying96 h 0 rfl (by kernel_rfl)
 have f1 : Sh Tryz.prog (d + 5) 3 ((cs.drop 1).take 1) := Sh.field (d := d + 5) Tryz.underlying96 h 1 rfl (by kernel_rfl)
 have f2 : Sh Tryz.prog (d + 5) 89 ((cs.drop 2).take 2) := Sh.field (d := d + 5) Tryz.underlying96 h 2 rfl (by kernel_rfl)
 have f3 : Sh Tryz.prog (d + 5) 28 ((cs.drop 4).take 3) := Sh.field (d := d + 5) Tryz.underlying96 h 3 rfl (by kernel_rfl)
 have f4 : Sh Tryz.prog (d + 5) 93 ((cs.drop 7).take 1) := Sh.field (d := d + 5) Tryz.underlying96 h 4 rfl (by kernel_rfl)
 match cs, hl with
 | [c0, c1, c2, c3, c4, c5, c6, c7], _ =>
  obtain ⟨v0, e0, q0⟩ := Sh.int (d := d + 4) Tryz.underlying3 (show Sh Tryz.prog (d + 4 + 1) 3 [c0] from f0)
  obtain rfl : c0 = _ := (List.cons.inj e0).1
  obtain ⟨v1, e1, q1⟩ := Sh.int (d := d + 4) Tryz.underlying3 (show Sh Tryz.prog (d + 4 + 1) 3 [c1] from f1)
  obtain rfl : c1 = _ := (List.cons.inj e1).1
  obtain ⟨v2, e2, q2⟩ := sh_89 (d := d + 3) (show Sh Tryz.prog (d + 3 + 2) 89 [c2, c3] from f2)
  simp only [aT.pd, PD.cells, List.cons.injEq, and_true] at e2
  obtain ⟨rfl, rfl⟩ := e2
  obtain ⟨v3, e3, q3⟩ := sh_28 (d := d + 3) (show Sh Tryz.prog (d + 3 + 2) 28 [c4, c5, c6] from f3)
  simp only [ap.pd, PD.cells, List.cons.injEq, and_true] at e3
  obtain ⟨rfl, rfl, rfl⟩ := e3
  obtain ⟨v4, e4, q4⟩ := sh_93 (d := d) (show Sh Tryz.prog (d + 5) 93 [c7] from f4)
  obtain rfl : c7 = _ := (List.cons.inj e4).1
  exact ⟨⟨v0, v1, v2, v3, v4⟩, rfl, q0, q1, q2, q3, q4⟩
def nT (x : ae) : Prop := (mZ x.ak) ∧ (x.aM.length ≤ maxLen ∧ ∀ y ∈ x.aM, qx y)
theorem sh_99 {d : Nat} {cs : List PD} (h : Sh Tryz.prog (d + 8) 99 cs) : ∃ a : ae, cs = a.pd.cells ∧ nT a := by
 have hl : cs.length = 5 := (Sh.slen (d := d + 7) Tryz.underlying99 h).trans (by kernel_rfl)
 have f0 : Sh Tryz.prog (d + 7) 50 ((cs.drop 0).take 4) := Sh.field (d := d + 7) Tryz.underlying99 h 0 rfl (by kernel_rfl)
 have f1 : Sh Tryz.prog (d + 7) 97 ((cs.drop 4).take 1) := Sh.field (d := d + 7) Tryz.underlying99 h 1 rfl (by kernel_rfl)
 match cs, hl with
 | [c0, c1, c2, c3, c4], _ =>
  obtain ⟨v0, e0, q0⟩ := sh_50 (d := d + 5) (show Sh Tryz.prog (d + 5 + 2) 50 [c0, c1, c2, c3] from f0)
  simp only [ag.pd, PD.cells, List.cons.injEq, and_true] at e0
  obtain ⟨rfl, rfl, rfl, rfl⟩ := e0
  obtain ⟨v1, e1, q1⟩ := Sh.lst (d := d + 6) (pd := ai.pd) (Q := qx) Tryz.underlying97 (by kernel_rfl) (show Sh Tryz.prog (d + 7) 97 [c4] from f1) (fun _ => rfl) (fun _ h => sh_96 h)
  obtain rfl : c4 = _ := (List.cons.inj e1).1
  exact ⟨⟨v0, v1⟩, rfl, q0, q1⟩
def ju (x : ac) : Prop := (x.al.length ≤ maxLen ∧ ∀ y ∈ x.al, nT y)
theorem sh_42 {d : Nat} {cs : List PD} (h : Sh Tryz.prog (d + 10) 42 cs) : ∃ a : ac, cs = a.pd.cells ∧ ju a := by
 have hl : cs.length = 1 := (Sh.slen (d := d + 9) Tryz.underlying42 h).trans (by kernel_rfl)
 have f0 : Sh Tryz.prog (d + 9) 40 ((cs.drop 0).take 1) := Sh.field (d := d + 9) Tryz.underlying42 h 0 rfl (by kernel_rfl)
 match cs, hl with
 | [c0], _ =>
  obtain ⟨v0, e0, q0⟩ := Sh.lst (d := d + 8) (pd := ae.pd) (Q := nT) Tryz.underlying40 (by kernel_rfl) (show Sh Tryz.prog (d + 9) 40 [c0] from f0) (fun _ => rfl) (fun _ h => sh_99 h)
  obtain rfl : c0 = _ := (List.cons.inj e0).1
  exact ⟨⟨v0⟩, rfl, q0⟩

theorem args_of {ps : List PD} (h : vd Tryz.prog 10 [3, 25, 25, 42, 22] ps) : ∃ (n : Int) (a b : List aa) (v : ac) (l : List Int), ps = [.int .i64 n, .lst (a.map aa.pd), .lst (b.map aa.pd), v.pd, .lst (l.map (.int .i64))] ∧ (∀ p ∈ a, fA p) ∧ (∀ p ∈ b, fA p) ∧ ju v := by
 have h0 : ∃ p1 p2 p3 p4 p5, ps = [p1, p2, p3, p4, p5] ∧ ShV Tryz.prog 10 3 p1 ∧ ShV Tryz.prog 10 25 p2 ∧ ShV Tryz.prog 10 25 p3 ∧ ShV Tryz.prog 10 42 p4 ∧ ShV Tryz.prog 10 22 p5 := by
  rcases ps with _ | ⟨p1, _ | ⟨p2, _ | ⟨p3, _ | ⟨p4, _ | ⟨p5, _ | ⟨p6, ps⟩⟩⟩⟩⟩⟩
  ·exact h.elim
  ·exact h.2.elim
  ·exact h.2.2.elim
  ·exact h.2.2.2.elim
  ·exact h.2.2.2.2.elim
  ·exact ⟨p1, p2, p3, p4, p5, rfl, h.1, h.2.1, h.2.2.1, h.2.2.2.1, h.2.2.2.2.1⟩
  ·exact h.2.2.2.2.2.elim
 obtain ⟨p1, p2, p3, p4, p5, rfl, h1, h2, h3, h4, h5⟩ := h0
 obtain ⟨n, rfl, -⟩ := ShV.int Tryz.underlying3 h1
 obtain ⟨l, rfl, _⟩ := ShV.ints Tryz.underlying22 Tryz.underlying3 h5
 obtain ⟨a, e2, -, q2⟩ := Sh.lst (d := 9) (pd := aa.pd) (Q := fA) Tryz.underlying25 (by kernel_rfl) h2.2.2 (fun _ => rfl) (fun _ h => sh_52 (d := 6) h)
 obtain ⟨b, e3, -, q3⟩ := Sh.lst (d := 9) (pd := aa.pd) (Q := fA) Tryz.underlying25 (by kernel_rfl) h3.2.2 (fun _ => rfl) (fun _ h => sh_52 (d := 6) h)
 obtain ⟨v, e4, q4⟩ := sh_42 (d := 0) h4.2.2
 rw [jm (h2.2.1 (by kernel_rfl))] at e2
 rw [jm (h3.2.1 (by kernel_rfl))] at e3
 obtain ⟨c, rfl⟩ := h4.1 (by kernel_rfl)
 cases e2
 cases e3
 have : PD.agg c = v.pd := by
  have : c = v.pd.cells := e4
  rw [this]; rfl
 rw [this]
 exact ⟨n, a, b, v, l, rfl, q2, q3, q4⟩
theorem slen_of {p : aa} (h : fA p) : vM p := h.1
theorem argI_of {v : ac} (h : ju v) : ArgI v :=
 ⟨h.1, fun c hc => (h.2 c hc).1, fun c hc e he => ((h.2 c hc).2.2 e he).2.2.2.2.1⟩
theorem holds_of (n : Int) {a b : List aa} {v : ac} (l : List Int) (h1 : ∀ p ∈ a, fA p) (h2 : ∀ p ∈ b, fA p) (h3 : ju v) : f9 n a b v l = some true :=
 vu n a b v l (fun p hp => slen_of (h1 p hp)) (fun p hp => slen_of (h2 p hp)) (argI_of h3)
end Go.Dw.De
