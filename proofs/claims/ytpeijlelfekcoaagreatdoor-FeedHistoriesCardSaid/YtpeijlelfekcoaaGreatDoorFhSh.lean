
import Derived.Test.YtpeijlelfekcoaaGreatDoorFhLaw
import Derived.Test.YtpeijlelfekcoaaGreatDoorDwSh
import Derived.Test.YtpeijlelfekcoaaGreatDoorProg



set_option maxRecDepth 100000
namespace Go.Dw.Fh
open Go.Proofs Go.Dw
def gP (x : au) : Prop := (x.aB.length ≤ maxLen) ∧ (x.aD.length ≤ maxLen) ∧ (x.ac.length ≤ maxLen) ∧ (x.aC.length ≤ maxLen)
theorem sh_23 {d : Nat} {cs : List PD} (h : Sh Tryz.prog (d + 2) 23 cs) : ∃ a : au, cs = a.pd.cells ∧ gP a := by
  have hl : cs.length = 4 := (Sh.slen (d := d + 1) Tryz.underlying23 h).trans (by kernel_rfl)
  have f0 : Sh Tryz.prog (d + 1) 9 ((cs.drop 0).take 1) := Sh.field (d := d + 1) Tryz.underlying23 h 0 rfl (by kernel_rfl)
  have f1 : Sh Tryz.prog (d + 1) 9 ((cs.drop 1).take 1) := Sh.field (d := d + 1) Tryz.underlying23 h 1 rfl (by kernel_rfl)
  have f2 : Sh Tryz.prog (d + 1) 9 ((cs.drop 2).take 1) := Sh.field (d := d + 1) Tryz.underlying23 h 2 rfl (by kernel_rfl)
  have f3 : Sh Tryz.prog (d + 1) 9 ((cs.drop 3).take 1) := Sh.field (d := d + 1) Tryz.underlying23 h 3 rfl (by kernel_rfl)
  match cs, hl with
  | [c0, c1, c2, c3], _ =>
    obtain ⟨v0, e0, q0⟩ := Sh.str (d := d) Tryz.underlying9 (show Sh Tryz.prog (d + 1) 9 [c0] from f0)
    obtain rfl : c0 = _ := (List.cons.inj e0).1
    obtain ⟨v1, e1, q1⟩ := Sh.str (d := d) Tryz.underlying9 (show Sh Tryz.prog (d + 1) 9 [c1] from f1)
    obtain rfl : c1 = _ := (List.cons.inj e1).1
    obtain ⟨v2, e2, q2⟩ := Sh.str (d := d) Tryz.underlying9 (show Sh Tryz.prog (d + 1) 9 [c2] from f2)
    obtain rfl : c2 = _ := (List.cons.inj e2).1
    obtain ⟨v3, e3, q3⟩ := Sh.str (d := d) Tryz.underlying9 (show Sh Tryz.prog (d + 1) 9 [c3] from f3)
    obtain rfl : c3 = _ := (List.cons.inj e3).1
    exact ⟨⟨v0, v1, v2, v3⟩, rfl, q0, q1, q2, q3⟩
def fo (x : ah) : Prop := (gP x.ai) ∧ ((Lit.int .i64 x.aF).wf = true) ∧ ((Lit.int .i64 x.aL).wf = true) ∧ ((Lit.int .i64 x.aP).wf = true) ∧ ((Lit.int .i64 x.aq).wf = true) ∧ ((Lit.int .i64 x.av).wf = true)
theorem sh_25 {d : Nat} {cs : List PD} (h : Sh Tryz.prog (d + 3) 25 cs) : ∃ a : ah, cs = a.pd.cells ∧ fo a := by
  have hl : cs.length = 9 := (Sh.slen (d := d + 2) Tryz.underlying25 h).trans (by kernel_rfl)
  have f0 : Sh Tryz.prog (d + 2) 23 ((cs.drop 0).take 4) := Sh.field (d := d + 2) Tryz.underlying25 h 0 rfl (by kernel_rfl)
  have f1 : Sh Tryz.prog (d + 2) 3 ((cs.drop 4).take 1) := Sh.field (d := d + 2) Tryz.underlying25 h 1 rfl (by kernel_rfl)
  have f2 : Sh Tryz.prog (d + 2) 3 ((cs.drop 5).take 1) := Sh.field (d := d + 2) Tryz.underlying25 h 2 rfl (by kernel_rfl)
  have f3 : Sh Tryz.prog (d + 2) 3 ((cs.drop 6).take 1) := Sh.field (d := d + 2) Tryz.underlying25 h 3 rfl (by kernel_rfl)
  have f4 : Sh Tryz.prog (d + 2) 3 ((cs.drop 7).take 1) := Sh.field (d := d + 2) Tryz.underlying25 h 4 rfl (by kernel_rfl)
  have f5 : Sh Tryz.prog (d + 2) 3 ((cs.drop 8).take 1) := Sh.field (d := d + 2) Tryz.underlying25 h 5 rfl (by kernel_rfl)
  match cs, hl with
  | [c0, c1, c2, c3, c4, c5, c6, c7, c8], _ =>
    obtain ⟨v0, e0, q0⟩ := sh_23 (d := d) (show Sh Tryz.prog (d + 2) 23 [c0, c1, c2, c3] from f0)
    simp only [au.pd, PD.cells, List.cons.injEq, and_true] at e0
    obtain ⟨rfl, rfl, rfl, rfl⟩ := e0
    obtain ⟨v1, e1, q1⟩ := Sh.int (d := d + 1) Tryz.underlying3 (show Sh Tryz.prog (d + 1 + 1) 3 [c4] from f1)
    obtain rfl : c4 = _ := (List.cons.inj e1).1
    obtain ⟨v2, e2, q2⟩ := Sh.int (d := d + 1) Tryz.underlying3 (show Sh Tryz.prog (d + 1 + 1) 3 [c5] from f2)
    obtain rfl : c5 = _ := (List.cons.inj e2).1
    obtain ⟨v3, e3, q3⟩ := Sh.int (d := d + 1) Tryz.underlying3 (show Sh Tryz.prog (d + 1 + 1) 3 [c6] from f3)
    obtain rfl : c6 = _ := (List.cons.inj e3).1
    obtain ⟨v4, e4, q4⟩ := Sh.int (d := d + 1) Tryz.underlying3 (show Sh Tryz.prog (d + 1 + 1) 3 [c7] from f4)
    obtain rfl : c7 = _ := (List.cons.inj e4).1
    obtain ⟨v5, e5, q5⟩ := Sh.int (d := d + 1) Tryz.underlying3 (show Sh Tryz.prog (d + 1 + 1) 3 [c8] from f5)
    obtain rfl : c8 = _ := (List.cons.inj e5).1
    exact ⟨⟨v0, v1, v2, v3, v4, v5⟩, rfl, q0, q1, q2, q3, q4, q5⟩
def dX (x : ak) : Prop := ((Lit.int .i64 x.fX).wf = true) ∧ ((Lit.int .i64 x.fY).wf = true) ∧ ((Lit.int .i64 x.fZ).wf = true)
theorem sh_28 {d : Nat} {cs : List PD} (h : Sh Tryz.prog (d + 2) 28 cs) : ∃ a : ak, cs = a.pd.cells ∧ dX a := by
  have hl : cs.length = 3 := (Sh.slen (d := d + 1) Tryz.underlying28 h).trans (by kernel_rfl)
  have f0 : Sh Tryz.prog (d + 1) 3 ((cs.drop 0).take 1) := Sh.field (d := d + 1) Tryz.underlying28 h 0 rfl (by kernel_rfl)
  have f1 : Sh Tryz.prog (d + 1) 3 ((cs.drop 1).take 1) := Sh.field (d := d + 1) Tryz.underlying28 h 1 rfl (by kernel_rfl)
  have f2 : Sh Tryz.prog (d + 1) 3 ((cs.drop 2).take 1) := Sh.field (d := d + 1) Tryz.underlying28 h 2 rfl (by kernel_rfl)
  match cs, hl with
  | [c0, c1, c2], _ =>
    obtain ⟨v0, e0, q0⟩ := Sh.int (d := d) Tryz.underlying3 (show Sh Tryz.prog (d + 1) 3 [c0] from f0)
    obtain rfl : c0 = _ := (List.cons.inj e0).1
    obtain ⟨v1, e1, q1⟩ := Sh.int (d := d) Tryz.underlying3 (show Sh Tryz.prog (d + 1) 3 [c1] from f1)
    obtain rfl : c1 = _ := (List.cons.inj e1).1
    obtain ⟨v2, e2, q2⟩ := Sh.int (d := d) Tryz.underlying3 (show Sh Tryz.prog (d + 1) 3 [c2] from f2)
    obtain rfl : c2 = _ := (List.cons.inj e2).1
    exact ⟨⟨v0, v1, v2⟩, rfl, q0, q1, q2⟩
def jN (x : aZ) : Prop := (dX x.aI) ∧ (dX x.aw)
theorem sh_30 {d : Nat} {cs : List PD} (h : Sh Tryz.prog (d + 3) 30 cs) : ∃ a : aZ, cs = a.pd.cells ∧ jN a := by
  have hl : cs.length = 6 := (Sh.slen (d := d + 2) Tryz.underlying30 h).trans (by kernel_rfl)
  have f0 : Sh Tryz.prog (d + 2) 28 ((cs.drop 0).take 3) := Sh.field (d := d + 2) Tryz.underlying30 h 0 rfl (by kernel_rfl)
  have f1 : Sh Tryz.prog (d + 2) 28 ((cs.drop 3).take 3) := Sh.field (d := d + 2) Tryz.underlying30 h 1 rfl (by kernel_rfl)
  match cs, hl with
  | [c0, c1, c2, c3, c4, c5], _ =>
    obtain ⟨v0, e0, q0⟩ := sh_28 (d := d) (show Sh Tryz.prog (d + 2) 28 [c0, c1, c2] from f0)
    simp only [ak.pd, PD.cells, List.cons.injEq, and_true] at e0
    obtain ⟨rfl, rfl, rfl⟩ := e0
    obtain ⟨v1, e1, q1⟩ := sh_28 (d := d) (show Sh Tryz.prog (d + 2) 28 [c3, c4, c5] from f1)
    simp only [ak.pd, PD.cells, List.cons.injEq, and_true] at e1
    obtain ⟨rfl, rfl, rfl⟩ := e1
    exact ⟨⟨v0, v1⟩, rfl, q0, q1⟩
def gN (x : aK) : Prop := (dX x.aA) ∧ ((Lit.int .i64 x.aF).wf = true) ∧ ((Lit.int .i64 x.aQ).wf = true) ∧ ((Lit.int .i64 x.aW).wf = true) ∧ (jN x.am)
theorem sh_32 {d : Nat} {cs : List PD} (h : Sh Tryz.prog (d + 4) 32 cs) : ∃ a : aK, cs = a.pd.cells ∧ gN a := by
  have hl : cs.length = 12 := (Sh.slen (d := d + 3) Tryz.underlying32 h).trans (by kernel_rfl)
  have f0 : Sh Tryz.prog (d + 3) 28 ((cs.drop 0).take 3) := Sh.field (d := d + 3) Tryz.underlying32 h 0 rfl (by kernel_rfl)
  have f1 : Sh Tryz.prog (d + 3) 3 ((cs.drop 3).take 1) := Sh.field (d := d + 3) Tryz.underlying32 h 1 rfl (by kernel_rfl)
  have f2 : Sh Tryz.prog (d + 3) 3 ((cs.drop 4).take 1) := Sh.field (d := d + 3) Tryz.underlying32 h 2 rfl (by kernel_rfl)
  have f3 : Sh Tryz.prog (d + 3) 3 ((cs.drop 5).take 1) := Sh.field (d := d + 3) Tryz.underlying32 h 3 rfl (by kernel_rfl)
  have f4 : Sh Tryz.prog (d + 3) 30 ((cs.drop 6).take 6) := Sh.field (d := d + 3) Tryz.underlying32 h 4 rfl (by kernel_rfl)
  match cs, hl with
  | [c0, c1, c2, c3, c4, c5, c6, c7, c8, c9, c10, c11], _ =>
    obtain ⟨v0, e0, q0⟩ := sh_28 (d := d + 1) (show Sh Tryz.prog (d + 1 + 2) 28 [c0, c1, c2] from f0)
    simp only [ak.pd, PD.cells, List.cons.injEq, and_true] at e0
    obtain ⟨rfl, rfl, rfl⟩ := e0
    obtain ⟨v1, e1, q1⟩ := Sh.int (d := d + 2) Tryz.underlying3 (show Sh Tryz.prog (d + 2 + 1) 3 [c3] from f1)
    obtain rfl : c3 = _ := (List.cons.inj e1).1
    obtain ⟨v2, e2, q2⟩ := Sh.int (d := d + 2) Tryz.underlying3 (show Sh Tryz.prog (d + 2 + 1) 3 [c4] from f2)
    obtain rfl : c4 = _ := (List.cons.inj e2).1
    obtain ⟨v3, e3, q3⟩ := Sh.int (d := d + 2) Tryz.underlying3 (show Sh Tryz.prog (d + 2 + 1) 3 [c5] from f3)
    obtain rfl : c5 = _ := (List.cons.inj e3).1
    obtain ⟨v4, e4, q4⟩ := sh_30 (d := d) (show Sh Tryz.prog (d + 3) 30 [c6, c7, c8, c9, c10, c11] from f4)
    simp only [aZ.pd, PD.cells, List.cons.injEq, and_true] at e4
    obtain ⟨rfl, rfl, rfl, rfl, rfl, rfl⟩ := e4
    exact ⟨⟨v0, v1, v2, v3, v4⟩, rfl, q0, q1, q2, q3, q4⟩
def gM (x : aO) : Prop := ((Lit.int .i64 x.aI).wf = true) ∧ ((Lit.int .i64 x.aw).wf = true)
theorem sh_34 {d : Nat} {cs : List PD} (h : Sh Tryz.prog (d + 2) 34 cs) : ∃ a : aO, cs = a.pd.cells ∧ gM a := by
  have hl : cs.length = 2 := (Sh.slen (d := d + 1) Tryz.underlying34 h).trans (by kernel_rfl)
  have f0 : Sh Tryz.prog (d + 1) 3 ((cs.drop 0).take 1) := Sh.field (d := d + 1) Tryz.underlying34 h 0 rfl (by kernel_rfl)
  have f1 : Sh Tryz.prog (d + 1) 3 ((cs.drop 1).take 1) := Sh.field (d := d + 1) Tryz.underlying34 h 1 rfl (by kernel_rfl)
  match cs, hl with
  | [c0, c1], _ =>
    obtain ⟨v0, e0, q0⟩ := Sh.int (d := d) Tryz.underlying3 (show Sh Tryz.prog (d + 1) 3 [c0] from f0)
    obtain rfl : c0 = _ := (List.cons.inj e0).1
    obtain ⟨v1, e1, q1⟩ := Sh.int (d := d) Tryz.underlying3 (show Sh Tryz.prog (d + 1) 3 [c1] from f1)
    obtain rfl : c1 = _ := (List.cons.inj e1).1
    exact ⟨⟨v0, v1⟩, rfl, q0, q1⟩
def gO (x : aG) : Prop := (x.aJ.length ≤ maxLen ∧ ∀ y ∈ x.aJ, fo y) ∧ (gN x.ac) ∧ (gM x.ap) ∧ ((Lit.int .i64 x.aU).wf = true)
theorem sh_36 {d : Nat} {cs : List PD} (h : Sh Tryz.prog (d + 5) 36 cs) : ∃ a : aG, cs = a.pd.cells ∧ gO a := by
  have hl : cs.length = 16 := (Sh.slen (d := d + 4) Tryz.underlying36 h).trans (by kernel_rfl)
  have f0 : Sh Tryz.prog (d + 4) 26 ((cs.drop 0).take 1) := Sh.field (d := d + 4) Tryz.underlying36 h 0 rfl (by kernel_rfl)
  have f1 : Sh Tryz.prog (d + 4) 32 ((cs.drop 1).take 12) := Sh.field (d := d + 4) Tryz.underlying36 h 1 rfl (by kernel_rfl)
  have f2 : Sh Tryz.prog (d + 4) 34 ((cs.drop 13).take 2) := Sh.field (d := d + 4) Tryz.underlying36 h 2 rfl (by kernel_rfl)
  have f3 : Sh Tryz.prog (d + 4) 3 ((cs.drop 15).take 1) := Sh.field (d := d + 4) Tryz.underlying36 h 3 rfl (by kernel_rfl)
  match cs, hl with
  | [c0, c1, c2, c3, c4, c5, c6, c7, c8, c9, c10, c11, c12, c13, c14, c15], _ =>
    obtain ⟨v0, e0, q0⟩ := Sh.lst (d := d + 3) (pd := ah.pd) (Q := fo) Tryz.underlying26 (by kernel_rfl) (show Sh Tryz.prog (d + 4) 26 [c0] from f0) (fun _ => rfl) (fun _ h => sh_25 h)
    obtain rfl : c0 = _ := (List.cons.inj e0).1
    obtain ⟨v1, e1, q1⟩ := sh_32 (d := d) (show Sh Tryz.prog (d + 4) 32 [c1, c2, c3, c4, c5, c6, c7, c8, c9, c10, c11, c12] from f1)
    simp only [aK.pd, PD.cells, List.cons.injEq, and_true] at e1
    obtain ⟨rfl, rfl, rfl, rfl, rfl, rfl, rfl, rfl, rfl, rfl, rfl, rfl⟩ := e1
    obtain ⟨v2, e2, q2⟩ := sh_34 (d := d + 2) (show Sh Tryz.prog (d + 2 + 2) 34 [c13, c14] from f2)
    simp only [aO.pd, PD.cells, List.cons.injEq, and_true] at e2
    obtain ⟨rfl, rfl⟩ := e2
    obtain ⟨v3, e3, q3⟩ := Sh.int (d := d + 3) Tryz.underlying3 (show Sh Tryz.prog (d + 3 + 1) 3 [c15] from f3)
    obtain rfl : c15 = _ := (List.cons.inj e3).1
    exact ⟨⟨v0, v1, v2, v3⟩, rfl, q0, q1, q2, q3⟩
def iV (x : az) : Prop := (fo x.aj) ∧ (gO x.aa)
theorem sh_38 {d : Nat} {cs : List PD} (h : Sh Tryz.prog (d + 6) 38 cs) : ∃ a : az, cs = a.pd.cells ∧ iV a := by
  have hl : cs.length = 25 := (Sh.slen (d := d + 5) Tryz.underlying38 h).trans (by kernel_rfl)
  have f0 : Sh Tryz.prog (d + 5) 25 ((cs.drop 0).take 9) := Sh.field (d := d + 5) Tryz.underlying38 h 0 rfl (by kernel_rfl)
  have f1 : Sh Tryz.prog (d + 5) 36 ((cs.drop 9).take 16) := Sh.field (d := d + 5) Tryz.underlying38 h 1 rfl (by kernel_rfl)
  match cs, hl with
  | [c0, c1, c2, c3, c4, c5, c6, c7, c8, c9, c10, c11, c12, c13, c14, c15, c16, c17, c18, c19, c20, c21, c22, c23, c24], _ =>
    obtain ⟨v0, e0, q0⟩ := sh_25 (d := d + 2) (show Sh Tryz.prog (d + 2 + 3) 25 [c0, c1, c2, c3, c4, c5, c6, c7, c8] from f0)
    simp only [ah.pd, PD.cells, List.cons.injEq, and_true] at e0
    obtain ⟨rfl, rfl, rfl, rfl, rfl, rfl, rfl, rfl, rfl⟩ := e0
    obtain ⟨v1, e1, q1⟩ := sh_36 (d := d) (show Sh Tryz.prog (d + 5) 36 [c9, c10, c11, c12, c13, c14, c15, c16, c17, c18, c19, c20, c21, c22, c23, c24] from f1)
    simp only [aG.pd, PD.cells, List.cons.injEq, and_true] at e1
    obtain ⟨rfl, rfl, rfl, rfl, rfl, rfl, rfl, rfl, rfl, rfl, rfl, rfl, rfl, rfl, rfl, rfl⟩ := e1
    exact ⟨⟨v0, v1⟩, rfl, q0, q1⟩
def dl (x : ag) : Prop := ((Lit.int .i64 x.aT).wf = true) ∧ ((Lit.int .i64 x.ba).wf = true) ∧ ((Lit.int .i64 x.fID).wf = true) ∧ ((Lit.int .i64 x.fAt).wf = true) ∧ ((Lit.int .i64 x.aX).wf = true) ∧ (iV x.ae)
theorem sh_40 {d : Nat} {cs : List PD} (h : Sh Tryz.prog (d + 7) 40 cs) : ∃ a : ag, cs = a.pd.cells ∧ dl a := by
  have hl : cs.length = 30 := (Sh.slen (d := d + 6) Tryz.underlying40 h).trans (by kernel_rfl)
  have f0 : Sh Tryz.prog (d + 6) 3 ((cs.drop 0).take 1) := Sh.field (d := d + 6) Tryz.underlying40 h 0 rfl (by kernel_rfl)
  have f1 : Sh Tryz.prog (d + 6) 3 ((cs.drop 1).take 1) := Sh.field (d := d + 6) Tryz.underlying40 h 1 rfl (by kernel_rfl)
  have f2 : Sh Tryz.prog (d + 6) 3 ((cs.drop 2).take 1) := Sh.field (d := d + 6) Tryz.underlying40 h 2 rfl (by kernel_rfl)
  have f3 : Sh Tryz.prog (d + 6) 3 ((cs.drop 3).take 1) := Sh.field (d := d + 6) Tryz.underlying40 h 3 rfl (by kernel_rfl)
  have f4 : Sh Tryz.prog (d + 6) 3 ((cs.drop 4).take 1) := Sh.field (d := d + 6) Tryz.underlying40 h 4 rfl (by kernel_rfl)
  have f5 : Sh Tryz.prog (d + 6) 38 ((cs.drop 5).take 25) := Sh.field (d := d + 6) Tryz.underlying40 h 5 rfl (by kernel_rfl)
  match cs, hl with
  | [c0, c1, c2, c3, c4, c5, c6, c7, c8, c9, c10, c11, c12, c13, c14, c15, c16, c17, c18, c19, c20, c21, c22, c23, c24, c25, c26, c27, c28, c29], _ =>
    obtain ⟨v0, e0, q0⟩ := Sh.int (d := d + 5) Tryz.underlying3 (show Sh Tryz.prog (d + 5 + 1) 3 [c0] from f0)
    obtain rfl : c0 = _ := (List.cons.inj e0).1
    obtain ⟨v1, e1, q1⟩ := Sh.int (d := d + 5) Tryz.underlying3 (show Sh Tryz.prog (d + 5 + 1) 3 [c1] from f1)
    obtain rfl : c1 = _ := (List.cons.inj e1).1
    obtain ⟨v2, e2, q2⟩ := Sh.int (d := d + 5) Tryz.underlying3 (show Sh Tryz.prog (d + 5 + 1) 3 [c2] from f2)
    obtain rfl : c2 = _ := (List.cons.inj e2).1
    obtain ⟨v3, e3, q3⟩ := Sh.int (d := d + 5) Tryz.underlying3 (show Sh Tryz.prog (d + 5 + 1) 3 [c3] from f3)
    obtain rfl : c3 = _ := (List.cons.inj e3).1
    obtain ⟨v4, e4, q4⟩ := Sh.int (d := d + 5) Tryz.underlying3 (show Sh Tryz.prog (d + 5 + 1) 3 [c4] from f4)
    obtain rfl : c4 = _ := (List.cons.inj e4).1
    obtain ⟨v5, e5, q5⟩ := sh_38 (d := d) (show Sh Tryz.prog (d + 6) 38 [c5, c6, c7, c8, c9, c10, c11, c12, c13, c14, c15, c16, c17, c18, c19, c20, c21, c22, c23, c24, c25, c26, c27, c28, c29] from f5)
    simp only [az.pd, PD.cells, List.cons.injEq, and_true] at e5
    obtain ⟨rfl, rfl, rfl, rfl, rfl, rfl, rfl, rfl, rfl, rfl, rfl, rfl, rfl, rfl, rfl, rfl, rfl, rfl, rfl, rfl, rfl, rfl, rfl, rfl, rfl⟩ := e5
    exact ⟨⟨v0, v1, v2, v3, v4, v5⟩, rfl, q0, q1, q2, q3, q4, q5⟩
def gZ (x : aS) : Prop := ((Lit.int .i64 x.cq).wf = true) ∧ ((Lit.int .i64 x.fAt).wf = true) ∧ (x.ei.length ≤ maxLen)
theorem sh_66 {d : Nat} {cs : List PD} (h : Sh Tryz.prog (d + 2) 66 cs) : ∃ a : aS, cs = a.pd.cells ∧ gZ a := by
  have hl : cs.length = 3 := (Sh.slen (d := d + 1) Tryz.underlying66 h).trans (by kernel_rfl)
  have f0 : Sh Tryz.prog (d + 1) 3 ((cs.drop 0).take 1) := Sh.field (d := d + 1) Tryz.underlying66 h 0 rfl (by kernel_rfl)
  have f1 : Sh Tryz.prog (d + 1) 3 ((cs.drop 1).take 1) := Sh.field (d := d + 1) Tryz.underlying66 h 1 rfl (by kernel_rfl)
  have f2 : Sh Tryz.prog (d + 1) 9 ((cs.drop 2).take 1) := Sh.field (d := d + 1) Tryz.underlying66 h 2 rfl (by kernel_rfl)
  match cs, hl with
  | [c0, c1, c2], _ =>
    obtain ⟨v0, e0, q0⟩ := Sh.int (d := d) Tryz.underlying3 (show Sh Tryz.prog (d + 1) 3 [c0] from f0)
    obtain rfl : c0 = _ := (List.cons.inj e0).1
    obtain ⟨v1, e1, q1⟩ := Sh.int (d := d) Tryz.underlying3 (show Sh Tryz.prog (d + 1) 3 [c1] from f1)
    obtain rfl : c1 = _ := (List.cons.inj e1).1
    obtain ⟨v2, e2, q2⟩ := Sh.str (d := d) Tryz.underlying9 (show Sh Tryz.prog (d + 1) 9 [c2] from f2)
    obtain rfl : c2 = _ := (List.cons.inj e2).1
    exact ⟨⟨v0, v1, v2⟩, rfl, q0, q1, q2⟩

theorem args_of {ps : List PD} (h : ShAll Tryz.prog 9 [43, 63, 41] ps) : ∃ (raw : List ag) (ar : List aS) (l : List Int), ps = [.lst (raw.map ag.pd), .lst (ar.map aS.pd), .lst (l.map (.int .i64))] ∧ raw.length ≤ maxLen ∧ ∀ b ∈ raw, dl b := by
  match ps, h with
  | [p1, p2, p3], ⟨h1, h2, h3, _⟩ =>
    obtain ⟨l, rfl, _⟩ := ShV.ints Tryz.underlying41 Tryz.underlying3 h3
    obtain ⟨raw, e1, k1, q1⟩ := Sh.lst (d := 8) (pd := ag.pd) (Q := dl) Tryz.underlying43 (by kernel_rfl) h1.2.2 (fun _ => rfl) (fun _ h => sh_40 (d := 1) h)
    obtain ⟨ar, e2, k2, q2⟩ := Sh.lst (d := 8) (pd := aS.pd) (Q := gZ) Tryz.underlying63 (by kernel_rfl) h2.2.2 (fun _ => rfl) (fun _ h => sh_66 (d := 6) h)
    rw [one_cells (h1.2.1 (by kernel_rfl))] at e1
    rw [one_cells (h2.2.1 (by kernel_rfl))] at e2
    cases e1
    cases e2
    exact ⟨raw, ar, l, rfl, k1, q1⟩
theorem fits_of {b : ag} (h : dl b) : FitsIn b := by
  obtain ⟨-, -, -, -, -, ⟨⟨hs, -⟩, ⟨⟨-, hp⟩, -⟩⟩⟩ := h
  exact ⟨hs, fun p hp' => (hp p hp').1⟩
theorem holds_of {raw : List ag} (ar : List aS) (l : List Int) (h1 : raw.length ≤ maxLen) (h2 : ∀ b ∈ raw, dl b) : dN raw ar l = some true :=
  j5 raw ar l (fun b hb => fits_of (h2 b hb)) h1
end Go.Dw.Fh
