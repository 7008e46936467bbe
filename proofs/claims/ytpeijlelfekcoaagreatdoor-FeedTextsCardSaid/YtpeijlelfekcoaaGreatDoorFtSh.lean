
import Derived.Test.YtpeijlelfekcoaaGreatDoorFtLaw
import Derived.Test.YtpeijlelfekcoaaGreatDoorDwSh
import Derived.Test.YtpeijlelfekcoaaGreatDoorProg



set_option maxRecDepth 100000
namespace Go.Dw.Ft
open Go.Proofs Go.Dw
def ig (x : am) : Prop := (x.aC.length ≤ maxLen) ∧ (x.aE.length ≤ maxLen) ∧ (x.ac.length ≤ maxLen) ∧ (x.aD.length ≤ maxLen)
theorem sh_23 {d : Nat} {cs : List PD} (h : Sh Tryz.prog (d + 2) 23 cs) : ∃ a : am, cs = a.pd.cells ∧ ig a := by
  have hl : cs.length = 4 := (Sh.slen (d := d + 1) Tryz.underlying23 h).trans (by kernel_rfl)
  have f0 : Sh Tryz.prog (d + 1) 9 ((cs.drop 0).take 1) := Sh.field (d := d + 1) Tryz.underlying23 h 0 rfl (by kernel_rfl)
  have f1 : Sh Tryz.prog (d + 1) 9 ((cs.drop 1).take 1) := Sh.field (d := d + 1) Tryz.underlying23 h 1 rfl (by kernel_rfl)
  have f2 : Sh Tryz.prog (d + 1) 9 ((cs.drop 2).take 1) := Sh.field (d := d + 1) Tryz.underlying23 h 2 rfl (by kernel_rfl)
  have f3 : Sh Tryz.prog (d + 1) 9 ((cs.drop 3).take 1) := Sh.field (d := d + 1) Tryz.underlying23 h 3 rfl (by kernel_rfl)
  match cs, hl with
  | [c0, c1, c2, c3], _ =>
    obtain ⟨v0, e0, q0⟩ := Sh.str (d := d) Tryz.underlying9 (show Sh Tryz.prog (d + 1) 9 [c0] from f0)
    obtain rfl : c0 = _ := (List.cons.inj e0).1
    obtain ⟨v1, e1, q1⟩ := Sh.str (d := d) Tryz.underlying9 (show Sh Tryz.prog (d + 1) 9 [c1] from f1)
    obtain rfl : c1 = _ := (List.cons.inj e1).1
    obtain ⟨v2, e2, q2⟩ := Sh.str (d := d) Tryz.underlying9 (show Sh Tryz.prog (d + 1) 9 [c2] from f2)
    obtain rfl : c2 = _ := (List.cons.inj e2).1
    obtain ⟨v3, e3, q3⟩ := Sh.str (d := d) Tryz.underlying9 (show Sh Tryz.prog (d + 1) 9 [c3] from f3)
    obtain rfl : c3 = _ := (List.cons.inj e3).1
    exact ⟨⟨v0, v1, v2, v3⟩, rfl, q0, q1, q2, q3⟩
def fE (x : ag) : Prop := (ig x.ah) ∧ ((Lit.int .i64 x.aF).wf = true) ∧ ((Lit.int .i64 x.aJ).wf = true) ∧ ((Lit.int .i64 x.aN).wf = true) ∧ ((Lit.int .i64 x.au).wf = true) ∧ ((Lit.int .i64 x.av).wf = true)
theorem sh_25 {d : Nat} {cs : List PD} (h : Sh Tryz.prog (d + 3) 25 cs) : ∃ a : ag, cs = a.pd.cells ∧ fE a := by
  have hl : cs.length = 9 := (Sh.slen (d := d + 2) Tryz.underlying25 h).trans (by kernel_rfl)
  have f0 : Sh Tryz.prog (d + 2) 23 ((cs.drop 0).take 4) := Sh.field (d := d + 2) Tryz.underlying25 h 0 rfl (by kernel_rfl)
  have f1 : Sh Tryz.prog (d + 2) 3 ((cs.drop 4).take 1) := Sh.field (d := d + 2) Tryz.underlying25 h 1 rfl (by kernel_rfl)
  have f2 : Sh Tryz.prog (d + 2) 3 ((cs.drop 5).take 1) := Sh.field (d := d + 2) Tryz.underlying25 h 2 rfl (by kernel_rfl)
  have f3 : Sh Tryz.prog (d + 2) 3 ((cs.drop 6).take 1) := Sh.field (d := d + 2) Tryz.underlying25 h 3 rfl (by kernel_rfl)
  have f4 : Sh Tryz.prog (d + 2) 3 ((cs.drop 7).take 1) := Sh.field (d := d + 2) Tryz.underlying25 h 4 rfl (by kernel_rfl)
  have f5 : Sh Tryz.prog (d + 2) 3 ((cs.drop 8).take 1) := Sh.field (d := d + 2) Tryz.underlying25 h 5 rfl (by kernel_rfl)
  match cs, hl with
  | [c0, c1, c2, c3, c4, c5, c6, c7, c8], _ =>
    obtain ⟨v0, e0, q0⟩ := sh_23 (d := d) (show Sh Tryz.prog (d + 2) 23 [c0, c1, c2, c3] from f0)
    simp only [am.pd, PD.cells, List.cons.injEq, and_true] at e0
    obtain ⟨rfl, rfl, rfl, rfl⟩ := e0
    obtain ⟨v1, e1, q1⟩ := Sh.int (d := d + 1) Tryz.underlying3 (show Sh Tryz.prog (d + 1 + 1) 3 [c4] from f1)
    obtain rfl : c4 = _ := (List.cons.inj e1).1
    obtain ⟨v2, e2, q2⟩ := Sh.int (d := d + 1) Tryz.underlying3 (show Sh Tryz.prog (d + 1 + 1) 3 [c5] from f2)
    obtain rfl : c5 = _ := (List.cons.inj e2).1
    obtain ⟨v3, e3, q3⟩ := Sh.int (d := d + 1) Tryz.underlying3 (show Sh Tryz.prog (d + 1 + 1) 3 [c6] from f3)
    obtain rfl : c6 = _ := (List.cons.inj e3).1
    obtain ⟨v4, e4, q4⟩ := Sh.int (d := d + 1) Tryz.underlying3 (show Sh Tryz.prog (d + 1 + 1) 3 [c7] from f4)
    obtain rfl : c7 = _ := (List.cons.inj e4).1
    obtain ⟨v5, e5, q5⟩ := Sh.int (d := d + 1) Tryz.underlying3 (show Sh Tryz.prog (d + 1 + 1) 3 [c8] from f5)
    obtain rfl : c8 = _ := (List.cons.inj e5).1
    exact ⟨⟨v0, v1, v2, v3, v4, v5⟩, rfl, q0, q1, q2, q3, q4, q5⟩
def ec (x : aj) : Prop := ((Lit.int .i64 x.fX).wf = true) ∧ ((Lit.int .i64 x.fY).wf = true) ∧ ((Lit.int .i64 x.fZ).wf = true)
theorem sh_28 {d : Nat} {cs : List PD} (h : Sh Tryz.prog (d + 2) 28 cs) : ∃ a : aj, cs = a.pd.cells ∧ ec a := by
  have hl : cs.length = 3 := (Sh.slen (d := d + 1) Tryz.underlying28 h).trans (by kernel_rfl)
  have f0 : Sh Tryz.prog (d + 1) 3 ((cs.drop 0).take 1) := Sh.field (d := d + 1) Tryz.underlying28 h 0 rfl (by kernel_rfl)
  have f1 : Sh Tryz.prog (d + 1) 3 ((cs.drop 1).take 1) := Sh.field (d := d + 1) Tryz.underlying28 h 1 rfl (by kernel_rfl)
  have f2 : Sh Tryz.prog (d + 1) 3 ((cs.drop 2).take 1) := Sh.field (d := d + 1) Tryz.underlying28 h 2 rfl (by kernel_rfl)
  match cs, hl with
  | [c0, c1, c2], _ =>
    obtain ⟨v0, e0, q0⟩ := Sh.int (d := d) Tryz.underlying3 (show Sh Tryz.prog (d + 1) 3 [c0] from f0)
    obtain rfl : c0 = _ := (List.cons.inj e0).1
    obtain ⟨v1, e1, q1⟩ := Sh.int (d := d) Tryz.underlying3 (show Sh Tryz.prog (d + 1) 3 [c1] from f1)
    obtain rfl : c1 = _ := (List.cons.inj e1).1
    obtain ⟨v2, e2, q2⟩ := Sh.int (d := d) Tryz.underlying3 (show Sh Tryz.prog (d + 1) 3 [c2] from f2)
    obtain rfl : c2 = _ := (List.cons.inj e2).1
    exact ⟨⟨v0, v1, v2⟩, rfl, q0, q1, q2⟩
def kF (x : aP) : Prop := (ec x.aI) ∧ (ec x.az)
theorem sh_30 {d : Nat} {cs : List PD} (h : Sh Tryz.prog (d + 3) 30 cs) : ∃ a : aP, cs = a.pd.cells ∧ kF a := by
  have hl : cs.length = 6 := (Sh.slen (d := d + 2) Tryz.underlying30 h).trans (by kernel_rfl)
  have f0 : Sh Tryz.prog (d + 2) 28 ((cs.drop 0).take 3) := Sh.field (d := d + 2) Tryz.underlying30 h 0 rfl (by kernel_rfl)
  have f1 : Sh Tryz.prog (d + 2) 28 ((cs.drop 3).take 3) := Sh.field (d := d + 2) Tryz.underlying30 h 1 rfl (by kernel_rfl)
  match cs, hl with
  | [c0, c1, c2, c3, c4, c5], _ =>
    obtain ⟨v0, e0, q0⟩ := sh_28 (d := d) (show Sh Tryz.prog (d + 2) 28 [c0, c1, c2] from f0)
    simp only [aj.pd, PD.cells, List.cons.injEq, and_true] at e0
    obtain ⟨rfl, rfl, rfl⟩ := e0
    obtain ⟨v1, e1, q1⟩ := sh_28 (d := d) (show Sh Tryz.prog (d + 2) 28 [c3, c4, c5] from f1)
    simp only [aj.pd, PD.cells, List.cons.injEq, and_true] at e1
    obtain ⟨rfl, rfl, rfl⟩ := e1
    exact ⟨⟨v0, v1⟩, rfl, q0, q1⟩
def ic (x : aB) : Prop := (ec x.aA) ∧ ((Lit.int .i64 x.aF).wf = true) ∧ ((Lit.int .i64 x.aO).wf = true) ∧ ((Lit.int .i64 x.aV).wf = true) ∧ (kF x.ap)
theorem sh_32 {d : Nat} {cs : List PD} (h : Sh Tryz.prog (d + 4) 32 cs) : ∃ a : aB, cs = a.pd.cells ∧ ic a := by
  have hl : cs.length = 12 := (Sh.slen (d := d + 3) Tryz.underlying32 h).trans (by kernel_rfl)
  have f0 : Sh Tryz.prog (d + 3) 28 ((cs.drop 0).take 3) := Sh.field (d := d + 3) Tryz.underlying32 h 0 rfl (by kernel_rfl)
  have f1 : Sh Tryz.prog (d + 3) 3 ((cs.drop 3).take 1) := Sh.field (d := d + 3) Tryz.underlying32 h 1 rfl (by kernel_rfl)
  have f2 : Sh Tryz.prog (d + 3) 3 ((cs.drop 4).take 1) := Sh.field (d := d + 3) Tryz.underlying32 h 2 rfl (by kernel_rfl)
  have f3 : Sh Tryz.prog (d + 3) 3 ((cs.drop 5).take 1) := Sh.field (d := d + 3) Tryz.underlying32 h 3 rfl (by kernel_rfl)
  have f4 : Sh Tryz.prog (d + 3) 30 ((cs.drop 6).take 6) := Sh.field (d := d + 3) Tryz.underlying32 h 4 rfl (by kernel_rfl)
  match cs, hl with
  | [c0, c1, c2, c3, c4, c5, c6, c7, c8, c9, c10, c11], _ =>
    obtain ⟨v0, e0, q0⟩ := sh_28 (d := d + 1) (show Sh Tryz.prog (d + 1 + 2) 28 [c0, c1, c2] from f0)
    simp only [aj.pd, PD.cells, List.cons.injEq, and_true] at e0
    obtain ⟨rfl, rfl, rfl⟩ := e0
    obtain ⟨v1, e1, q1⟩ := Sh.int (d := d + 2) Tryz.underlying3 (show Sh Tryz.prog (d + 2 + 1) 3 [c3] from f1)
    obtain rfl : c3 = _ := (List.cons.inj e1).1
    obtain ⟨v2, e2, q2⟩ := Sh.int (d := d + 2) Tryz.underlying3 (show Sh Tryz.prog (d + 2 + 1) 3 [c4] from f2)
    obtain rfl : c4 = _ := (List.cons.inj e2).1
    obtain ⟨v3, e3, q3⟩ := Sh.int (d := d + 2) Tryz.underlying3 (show Sh Tryz.prog (d + 2 + 1) 3 [c5] from f3)
    obtain rfl : c5 = _ := (List.cons.inj e3).1
    obtain ⟨v4, e4, q4⟩ := sh_30 (d := d) (show Sh Tryz.prog (d + 3) 30 [c6, c7, c8, c9, c10, c11] from f4)
    simp only [aP.pd, PD.cells, List.cons.injEq, and_true] at e4
    obtain ⟨rfl, rfl, rfl, rfl, rfl, rfl⟩ := e4
    exact ⟨⟨v0, v1, v2, v3, v4⟩, rfl, q0, q1, q2, q3, q4⟩
def ib (x : aG) : Prop := ((Lit.int .i64 x.aI).wf = true) ∧ ((Lit.int .i64 x.az).wf = true)
theorem sh_34 {d : Nat} {cs : List PD} (h : Sh Tryz.prog (d + 2) 34 cs) : ∃ a : aG, cs = a.pd.cells ∧ ib a := by
  have hl : cs.length = 2 := (Sh.slen (d := d + 1) Tryz.underlying34 h).trans (by kernel_rfl)
  have f0 : Sh Tryz.prog (d + 1) 3 ((cs.drop 0).take 1) := Sh.field (d := d + 1) Tryz.underlying34 h 0 rfl (by kernel_rfl)
  have f1 : Sh Tryz.prog (d + 1) 3 ((cs.drop 1).take 1) := Sh.field (d := d + 1) Tryz.underlying34 h 1 rfl (by kernel_rfl)
  match cs, hl with
  | [c0, c1], _ =>
    obtain ⟨v0, e0, q0⟩ := Sh.int (d := d) Tryz.underlying3 (show Sh Tryz.prog (d + 1) 3 [c0] from f0)
    obtain rfl : c0 = _ := (List.cons.inj e0).1
    obtain ⟨v1, e1, q1⟩ := Sh.int (d := d) Tryz.underlying3 (show Sh Tryz.prog (d + 1) 3 [c1] from f1)
    obtain rfl : c1 = _ := (List.cons.inj e1).1
    exact ⟨⟨v0, v1⟩, rfl, q0, q1⟩
def ie (x : aw) : Prop := (x.aK.length ≤ maxLen ∧ ∀ y ∈ x.aK, fE y) ∧ (ic x.ac) ∧ (ib x.aq) ∧ ((Lit.int .i64 x.aU).wf = true)
theorem sh_36 {d : Nat} {cs : List PD} (h : Sh Tryz.prog (d + 5) 36 cs) : ∃ a : aw, cs = a.pd.cells ∧ ie a := by
  have hl : cs.length = 16 := (Sh.slen (d := d + 4) Tryz.underlying36 h).trans (by kernel_rfl)
  have f0 : Sh Tryz.prog (d + 4) 26 ((cs.drop 0).take 1) := Sh.field (d := d + 4) Tryz.underlying36 h 0 rfl (by kernel_rfl)
  have f1 : Sh Tryz.prog (d + 4) 32 ((cs.drop 1).take 12) := Sh.field (d := d + 4) Tryz.underlying36 h 1 rfl (by kernel_rfl)
  have f2 : Sh Tryz.prog (d + 4) 34 ((cs.drop 13).take 2) := Sh.field (d := d + 4) Tryz.underlying36 h 2 rfl (by kernel_rfl)
  have f3 : Sh Tryz.prog (d + 4) 3 ((cs.drop 15).take 1) := Sh.field (d := d + 4) Tryz.underlying36 h 3 rfl (by kernel_rfl)
  match cs, hl with
  | [c0, c1, c2, c3, c4, c5, c6, c7, c8, c9, c10, c11, c12, c13, c14, c15], _ =>
    obtain ⟨v0, e0, q0⟩ := Sh.lst (d := d + 3) (pd := ag.pd) (Q := fE) Tryz.underlying26 (by kernel_rfl) (show Sh Tryz.prog (d + 4) 26 [c0] from f0) (fun _ => rfl) (fun _ h => sh_25 h)
    obtain rfl : c0 = _ := (List.cons.inj e0).1
    obtain ⟨v1, e1, q1⟩ := sh_32 (d := d) (show Sh Tryz.prog (d + 4) 32 [c1, c2, c3, c4, c5, c6, c7, c8, c9, c10, c11, c12] from f1)
    simp only [aB.pd, PD.cells, List.cons.injEq, and_true] at e1
    obtain ⟨rfl, rfl, rfl, rfl, rfl, rfl, rfl, rfl, rfl, rfl, rfl, rfl⟩ := e1
    obtain ⟨v2, e2, q2⟩ := sh_34 (d := d + 2) (show Sh Tryz.prog (d + 2 + 2) 34 [c13, c14] from f2)
    simp only [aG.pd, PD.cells, List.cons.injEq, and_true] at e2
    obtain ⟨rfl, rfl⟩ := e2
    obtain ⟨v3, e3, q3⟩ := Sh.int (d := d + 3) Tryz.underlying3 (show Sh Tryz.prog (d + 3 + 1) 3 [c15] from f3)
    obtain rfl : c15 = _ := (List.cons.inj e3).1
    exact ⟨⟨v0, v1, v2, v3⟩, rfl, q0, q1, q2, q3⟩
def jC (x : ar) : Prop := (fE x.ak) ∧ (ie x.aa)
theorem sh_38 {d : Nat} {cs : List PD} (h : Sh Tryz.prog (d + 6) 38 cs) : ∃ a : ar, cs = a.pd.cells ∧ jC a := by
  have hl : cs.length = 25 := (Sh.slen (d := d + 5) Tryz.underlying38 h).trans (by kernel_rfl)
  have f0 : Sh Tryz.prog (d + 5) 25 ((cs.drop 0).take 9) := Sh.field (d := d + 5) Tryz.underlying38 h 0 rfl (by kernel_rfl)
  have f1 : Sh Tryz.prog (d + 5) 36 ((cs.drop 9).take 16) := Sh.field (d := d + 5) Tryz.underlying38 h 1 rfl (by kernel_rfl)
  match cs, hl with
  | [c0, c1, c2, c3, c4, c5, c6, c7, c8, c9, c10, c11, c12, c13, c14, c15, c16, c17, c18, c19, c20, c21, c22, c23, c24], _ =>
    obtain ⟨v0, e0, q0⟩ := sh_25 (d := d + 2) (show Sh Tryz.prog (d + 2 + 3) 25 [c0, c1, c2, c3, c4, c5, c6, c7, c8] from f0)
    simp only [ag.pd, PD.cells, List.cons.injEq, and_true] at e0
    obtain ⟨rfl, rfl, rfl, rfl, rfl, rfl, rfl, rfl, rfl⟩ := e0
    obtain ⟨v1, e1, q1⟩ := sh_36 (d := d) (show Sh Tryz.prog (d + 5) 36 [c9, c10, c11, c12, c13, c14, c15, c16, c17, c18, c19, c20, c21, c22, c23, c24] from f1)
    simp only [aw.pd, PD.cells, List.cons.injEq, and_true] at e1
    obtain ⟨rfl, rfl, rfl, rfl, rfl, rfl, rfl, rfl, rfl, rfl, rfl, rfl, rfl, rfl, rfl, rfl⟩ := e1
    exact ⟨⟨v0, v1⟩, rfl, q0, q1⟩
def eb (x : ai) : Prop := ((Lit.int .i64 x.aQ).wf = true) ∧ ((Lit.int .i64 x.bh).wf = true) ∧ ((Lit.int .i64 x.fID).wf = true) ∧ ((Lit.int .i64 x.fAt).wf = true) ∧ ((Lit.int .i64 x.aW).wf = true) ∧ (jC x.ae)
theorem sh_40 {d : Nat} {cs : List PD} (h : Sh Tryz.prog (d + 7) 40 cs) : ∃ a : ai, cs = a.pd.cells ∧ eb a := by
  have hl : cs.length = 30 := (Sh.slen (d := d + 6) Tryz.underlying40 h).trans (by kernel_rfl)
  have f0 : Sh Tryz.prog (d + 6) 3 ((cs.drop 0).take 1) := Sh.field (d := d + 6) Tryz.underlying40 h 0 rfl (by kernel_rfl)
  have f1 : Sh Tryz.prog (d + 6) 3 ((cs.drop 1).take 1) := Sh.field (d := d + 6) Tryz.underlying40 h 1 rfl (by kernel_rfl)
  have f2 : Sh Tryz.prog (d + 6) 3 ((cs.drop 2).take 1) := Sh.field (d := d + 6) Tryz.underlying40 h 2 rfl (by kernel_rfl)
  have f3 : Sh Tryz.prog (d + 6) 3 ((cs.drop 3).take 1) := Sh.field (d := d + 6) Tryz.underlying40 h 3 rfl (by kernel_rfl)
  have f4 : Sh Tryz.prog (d + 6) 3 ((cs.drop 4).take 1) := Sh.field (d := d + 6) Tryz.underlying40 h 4 rfl (by kernel_rfl)
  have f5 : Sh Tryz.prog (d + 6) 38 ((cs.drop 5).take 25) := Sh.field (d := d + 6) Tryz.underlying40 h 5 rfl (by kernel_rfl)
  match cs, hl with
  | [c0, c1, c2, c3, c4, c5, c6, c7, c8, c9, c10, c11, c12, c13, c14, c15, c16, c17, c18, c19, c20, c21, c22, c23, c24, c25, c26, c27, c28, c29], _ =>
    obtain ⟨v0, e0, q0⟩ := Sh.int (d := d + 5) Tryz.underlying3 (show Sh Tryz.prog (d + 5 + 1) 3 [c0] from f0)
    obtain rfl : c0 = _ := (List.cons.inj e0).1
    obtain ⟨v1, e1, q1⟩ := Sh.int (d := d + 5) Tryz.underlying3 (show Sh Tryz.prog (d + 5 + 1) 3 [c1] from f1)
    obtain rfl : c1 = _ := (List.cons.inj e1).1
    obtain ⟨v2, e2, q2⟩ := Sh.int (d := d + 5) Tryz.underlying3 (show Sh Tryz.prog (d + 5 + 1) 3 [c2] from f2)
    obtain rfl : c2 = _ := (List.cons.inj e2).1
    obtain ⟨v3, e3, q3⟩ := Sh.int (d := d + 5) Tryz.underlying3 (show Sh Tryz.prog (d + 5 + 1) 3 [c3] from f3)
    obtain rfl : c3 = _ := (List.cons.inj e3).1
    obtain ⟨v4, e4, q4⟩ := Sh.int (d := d + 5) Tryz.underlying3 (show Sh Tryz.prog (d + 5 + 1) 3 [c4] from f4)
    obtain rfl : c4 = _ := (List.cons.inj e4).1
    obtain ⟨v5, e5, q5⟩ := sh_38 (d := d) (show Sh Tryz.prog (d + 6) 38 [c5, c6, c7, c8, c9, c10, c11, c12, c13, c14, c15, c16, c17, c18, c19, c20, c21, c22, c23, c24, c25, c26, c27, c28, c29] from f5)
    simp only [ar.pd, PD.cells, List.cons.injEq, and_true] at e5
    obtain ⟨rfl, rfl, rfl, rfl, rfl, rfl, rfl, rfl, rfl, rfl, rfl, rfl, rfl, rfl, rfl, rfl, rfl, rfl, rfl, rfl, rfl, rfl, rfl, rfl, rfl⟩ := e5
    exact ⟨⟨v0, v1, v2, v3, v4, v5⟩, rfl, q0, q1, q2, q3, q4, q5⟩

theorem all_cons {d : Nat} {t : TypeId} {ts : List TypeId} {ps : List PD} (h : ShAll Tryz.prog d (t :: ts) ps) : ∃ p qs, ps = p :: qs ∧ ShV Tryz.prog d t p ∧ ShAll Tryz.prog d ts qs := by
  cases ps with
  | nil => exact h.elim
  | cons p qs => exact ⟨p, qs, rfl, h.1, h.2⟩
theorem all_nil {d : Nat} {ps : List PD} (h : ShAll Tryz.prog d [] ps) : ps = [] := by
  cases ps with
  | nil => rfl
  | cons p qs => exact h.elim
theorem args_of {ps : List PD} (h : ShAll Tryz.prog 9 [40, 9, 41, 3, 5] ps) : ∃ (b : ai) (s : List UInt8) (l : List Int) (n m : Int), ps = [ai.pd b, .str s, .lst (l.map (.int .i64)), .int .i64 n, .int .u8 m] ∧ eb b ∧ (Lit.int .u8 m).wf = true := by
    obtain ⟨p1, ps, rfl, h1, h⟩ := all_cons h
    obtain ⟨p2, ps, rfl, h2, h⟩ := all_cons h
    obtain ⟨p3, ps, rfl, h3, h⟩ := all_cons h
    obtain ⟨p4, ps, rfl, h4, h⟩ := all_cons h
    obtain ⟨p5, ps, rfl, h5, h⟩ := all_cons h
    obtain rfl := all_nil h
    obtain ⟨cs, rfl⟩ := h1.1 (by kernel_rfl)
    obtain ⟨b, e1, q1⟩ := sh_40 (d := 2) h1.2.2
    obtain ⟨s, rfl, _⟩ := ShV.str Tryz.underlying9 h2
    obtain ⟨l, rfl, _⟩ := ShV.ints Tryz.underlying41 Tryz.underlying3 h3
    obtain ⟨n, rfl, _⟩ := ShV.int Tryz.underlying3 h4
    obtain ⟨m, rfl, q5⟩ := ShV.int Tryz.underlying5 h5
    exact ⟨b, s, l, n, m, by rw [show PD.agg cs = ai.pd b from congrArg PD.agg e1], q1, q5⟩
theorem fits_of {b : ai} (h : eb b) : FitsIn b := by
  obtain ⟨-, -, -, -, -, ⟨⟨hs, -⟩, ⟨⟨-, hp⟩, -⟩⟩⟩ := h
  exact ⟨hs, fun p hp' => (hp p hp').1⟩
theorem holds_of {b : ai} (s : List UInt8) (l : List Int) (n : Int) {m : Int} (h1 : eb b) (h2 : (Lit.int .u8 m).wf = true) : fd b s l n m = some true := by
  have h3 : 0 ≤ m ∧ m < 256 := by
    have h4 : IntKind.u8.min ≤ m ∧ m ≤ IntKind.u8.max := by simpa [Lit.wf] using h2
    have e1 : IntKind.u8.min = 0 := by decide
    have e2 : IntKind.u8.max = 255 := by decide
    omega
  exact FeedTexts_law b s l n m (fits_of h1) h3.1 h3.2
end Go.Dw.Ft
