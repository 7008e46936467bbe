/- DwLift2: rules for parts of rows, copy, clear, nil. -/
import Derived.Test.YtkfmfbhngneklaaGreatDoorDwLift
namespace Go.Dw
def neO {α : Type} (l : List α) : Option Unit := if l.isEmpty = true then none else some ()
def subO (n : Nat) (lo hi : Int) : Option Unit := if 0 ≤ lo ∧ lo ≤ hi ∧ hi ≤ n then some () else none
def inV (len lo hi : Nat) (n : Int) : Option Unit := if 0 ≤ n ∧ n < (hi : Int) - lo ∧ hi ≤ len then some () else none
def lenV (len lo hi : Nat) : Option Int := if lo ≤ hi ∧ hi ≤ len then some ((hi : Int) - lo) else none
def viewO (len lo hi : Nat) : Option Unit := if lo ≤ hi ∧ hi ≤ len then some () else none
def partO {α : Type} (li : List α) (lo hi : Nat) : Option (List α) := if lo ≤ hi ∧ hi ≤ li.length then some ((li.drop lo).take (hi - lo)) else none
def copyL {α : Type} (li : List α) (off m : Nat) (ys : List α) : List α := li.take off ++ ys.take (Nat.min ys.length m) ++ li.drop (off + Nat.min ys.length m)
def clearL {α : Type} (li : List α) (off m : Nat) (z : α) : List α := li.take off ++ List.replicate m z ++ li.drop (off + m)
section
variable {P : Program} {H : Hints} {ext : FuncId → Option CallD} {mt : Hf} {ops : Array Oper} {l : List Oper} {R : List (Nat × RV)} {B : List (Nat × Box)} {K : List (Nat × RV) → List (Nat × Box) → List Tr → Prop} {o : Oper} {d : Nat}

theorem neO_some {α : Type} {l : List α} {y : Unit} (h : neO l = some y) : l.isEmpty = false := by
  unfold neO at h
  split at h
  · cases h
  · simpa using ‹¬ l.isEmpty = true›
/-- A list against nil. -/
theorem WO.nilE {α : Type} {g : α → PD} {li : List α} {t t' e : TypeId} {x y : Operand} {u : Unit} (hg : neO li = some u) (hw : wantD ops (A R B) o = some true) (hd : o.dst = some d) (ho : o.op = .binOp .eql t x y t') (hx : (A R B).opd x = some (.d (.lst (li.map g)))) (hy : (A R B).opd y = some .nils)
    (ht : P.underlying t = some (.slice e)) (h : WO P H ext mt ops l ((d, .d (.bool false)) :: R) B fun R' B' ts => K R' B' (⟨[], []⟩ :: ts)) : WO P H ext mt ops (o :: l) R B K := by
  refine WO.step (u := []) (rd := []) (c := !(li.map g).isEmpty) hw hd (fun m => ?_) (by simpa using neO_some hg) h
  simp only [evOp, ho, hx, hy, binT, binPD, eqOp, ht]
  rfl
theorem WO.nilN {α : Type} {g : α → PD} {li : List α} {t t' e : TypeId} {x y : Operand} {u : Unit} (hg : neO li = some u) (hw : wantD ops (A R B) o = some true) (hd : o.dst = some d) (ho : o.op = .binOp .neq t x y t') (hx : (A R B).opd x = some (.d (.lst (li.map g)))) (hy : (A R B).opd y = some .nils)
    (ht : P.underlying t = some (.slice e)) (h : WO P H ext mt ops l ((d, .d (.bool true)) :: R) B fun R' B' ts => K R' B' (⟨[], []⟩ :: ts)) : WO P H ext mt ops (o :: l) R B K := by
  refine WO.step (u := []) (rd := []) (c := !(li.map g).isEmpty) hw hd (fun m => ?_) (by simpa using neO_some hg) h
  simp only [evOp, ho, hx, hy, binT, binPD, eqOp, ht]
  rfl
/-- A part of a row. -/
theorem WO.subR {α : Type} {g : α → PD} {li : List α} {t e : TypeId} {x : Operand} {lo hi : Option Operand} {rl rh : Option RV} {a b : Int} {id ver sz : Nat} {y : Unit} (hg : subO li.length a b = some y) (hmt : mt.lit (o.dst.getD 0) = false) (hw : wantD ops (A R B) o = some true) (hd : o.dst = some d) (ho : o.op = .slice t x lo hi none) (hx : (A R B).opd x = some (.ref id ver))
    (hb : assoc B id = some (.arr ver e (li.map g))) (ht : P.underlying t = some (.slice e)) (hz : szT P e = some (sz + 1)) (hl : opdOpt (A R B) lo = some rl) (hh : opdOpt (A R B) hi = some rh) (ha : bnd rl 0 = some a) (hbb : bnd rh (li.length : Int) = some b)
    (h : WO P H ext mt ops l ((d, .view id ver (0 + a.toNat) (0 + b.toNat)) :: R) B fun R' B' ts => K R' B' (⟨[id, id], []⟩ :: ts)) : WO P H ext mt ops (o :: l) R B K := by
  have hc : 0 ≤ a ∧ a ≤ b ∧ b ≤ li.length := by unfold subO at hg; split at hg <;> first | assumption | cases hg
  have e0 : (((li.map g).length : Nat) : Int) - ((0 : Nat) : Int) = (li.length : Int) := by simp
  refine WO.step (u := []) (rd := [id, id]) (c := decide (0 ≤ (li.map g).length ∧ (li.map g).length ≤ (li.map g).length ∧ 0 ≤ a ∧ a ≤ b ∧ b ≤ (((li.map g).length : Nat) : Int) - ((0 : Nat) : Int))) hw hd (fun m => ?_) (by rw [e0]; simpa using hc) h
  have ho3 : opdOpt (A R B) none = some none := rfl
  simp only [evOp, ho, hx, hl, hh, ho3, hmt, Bool.false_eq_true, if_false, sliceD, ht, M.bind, M.get, hb, sliceB, ha, e0, hbb, hz, and_self, if_true, needRV, M.need]
  simp
theorem WO.lenVw {α : Type} {g : α → PD} {li : List α} {t e : TypeId} {x : Operand} {c : Call} {id ver lo hi : Nat} {n : Int} (hg : lenV li.length lo hi = some n) (hw : wantD ops (A R B) o = some true) (hd : o.dst = some d) (ho : o.op = .call c)
    (hc : c.callee = .builtin .len) (ha : c.args.toList = [x]) (hat : c.argTypes = #[t]) (hx : (A R B).opd x = some (.view id ver lo hi)) (hb : assoc B id = some (.arr ver e (li.map g))) (ht : P.underlying t = some (.slice e))
    (h : WO P H ext mt ops l ((d, .d (.int .i64 n)) :: R) B fun R' B' ts => K R' B' (⟨[id], []⟩ :: ts)) : WO P H ext mt ops (o :: l) R B K := by
  unfold lenV at hg
  split at hg
  rotate_left
  · cases hg
  rename_i hcc
  cases hg
  refine WO.step (u := []) (rd := [id]) (c := decide (lo ≤ hi ∧ hi ≤ (li.map g).length)) hw hd (fun n => ?_) (by simpa using hcc) h
  have ho2 : opds (A R B) c.args.toList = some [.view id ver lo hi] := by simp only [ha, opds, hx]
  simp only [evOp, ho, hc, ho2, hat]
  show lenD P t _ _ = _
  simp [lenD, ht, M.bind, M.get, hb, needRV, M.need]
theorem WO.eltV {α : Type} {g : α → PD} {li : List α} {t e : TypeId} {x i : Operand} {k : IntKind} {n : Int} {id ver lo hi sz : Nat} {y : Unit} (hg : inV li.length lo hi n = some y) (hw : wantD ops (A R B) o = some true) (hd : o.dst = some d) (ho : o.op = .indexAddr t x i) (hx : (A R B).opd x = some (.view id ver lo hi)) (hii : (A R B).opd i = some (.d (.int k n)))
    (hb : assoc B id = some (.arr ver e (li.map g))) (ht : P.underlying t = some (.slice e)) (hz : szT P e = some sz)
    (h : WO P H ext mt ops l ((d, .elt id ver (lo + n.toNat) 0) :: R) B fun R' B' ts => K R' B' (⟨[id], []⟩ :: ts)) : WO P H ext mt ops (o :: l) R B K := by
  have hn : 0 ≤ n ∧ n < (hi : Int) - lo ∧ hi ≤ li.length := by unfold inV at hg; split at hg <;> first | assumption | cases hg
  refine WO.step (u := []) (rd := [id]) (c := decide (0 ≤ n ∧ n < (hi : Int) - lo ∧ hi ≤ (li.map g).length)) hw hd (fun m => ?_) (by simpa using hn) h
  simp only [evOp, ho, hx, hii, indexAddrD, ht, hz, M.bind, M.get, hb, and_self, if_true, needRV, M.need]
  simp

theorem dst_ref {α : Type} {g : α → PD} {li : List α} {e : TypeId} {id ver : Nat} (hb : assoc B id = some (.arr ver e (li.map g))) : dstM (.ref id ver) (assoc B) = some ((id, ver, e, li.map g, 0, li.length), [id], true) := by
  simp [dstM, M.bind, M.get, hb, M.pure]
theorem dst_view {α : Type} {g : α → PD} {li : List α} {e : TypeId} {id ver lo hi : Nat} {y : Unit} (hg : viewO li.length lo hi = some y) (hb : assoc B id = some (.arr ver e (li.map g))) : dstM (.view id ver lo hi) (assoc B) = some ((id, ver, e, li.map g, lo, hi - lo), [id], true) := by
  have hc : lo ≤ hi ∧ hi ≤ li.length := by unfold viewO at hg; split at hg <;> first | assumption | cases hg
  simp [dstM, M.bind, M.get, hb, M.need, hc]
theorem src_ref {α : Type} {g : α → PD} {li : List α} {e : TypeId} {id ver : Nat} (hb : assoc B id = some (.arr ver e (li.map g))) : appendee (.ref id ver) (assoc B) = some (li.map g, [id], true) := by
  simp [appendee, M.bind, M.get, hb, M.pure]
theorem src_view {α : Type} {g : α → PD} {li ys : List α} {e : TypeId} {id ver lo hi : Nat} (hg : partO li lo hi = some ys) (hb : assoc B id = some (.arr ver e (li.map g))) : appendee (.view id ver lo hi) (assoc B) = some (ys.map g, [id], true) := by
  unfold partO at hg
  split at hg
  · rename_i hc
    cases hg
    simp [appendee, M.bind, M.get, hb, M.need, hc, List.map_take, List.map_drop]
  · cases hg
theorem src_d {g : List PD} {B : Boxes} : appendee (.d (.lst g)) B = some (g, [], true) := rfl

/-- copy. -/
theorem copyD_of {α : Type} {g : α → PD} {li ys : List α} {t e : TypeId} {id ver off m sz : Nat} {vx vy : RV} {rd1 rd2 : List Nat} (hD : dstM vx (assoc B) = some ((id, ver, e, li.map g, off, m), rd1, true)) (hY : appendee vy (assoc B) = some (ys.map g, rd2, true))
    (ht : P.underlying t = some (.slice e)) (hz : szT P e = some (sz + 1)) (hsz : ∀ x, (g x).cells.length = sz + 1) :
    copyD P t vx vy (assoc B) = some ((.d (.int .i64 (Nat.min ys.length m : Nat)), [(id, .arr ver e ((copyL li off m ys).map g))]), rd1 ++ (rd2 ++ []), true) := by
  have he : elemT P t = some e := by simp [elemT, ht]
  have ha : ((ys.map g).all fun c => c.cells.length == sz + 1) = true := by simp [hsz]
  simp only [copyD, he, hz, M.bind, hD, hY, M.need, ha, decide_true, Bool.and_self, List.length_map, copyL, List.map_append, List.map_take, List.map_drop]
theorem WO.copyG {α : Type} {g : α → PD} {li ys : List α} {t t2 e : TypeId} {x y : Operand} {c : Call} {id ver off m sz : Nat} {vx vy : RV} {rd1 rd2 : List Nat} (hw : wantD ops (A R B) o = some true) (hd : o.dst = some d) (ho : o.op = .call c)
    (hc : c.callee = .builtin .copy) (ha : c.args.toList = [x, y]) (hat : c.argTypes = #[t, t2]) (hx : (A R B).opd x = some vx) (hy : (A R B).opd y = some vy)
    (hD : dstM vx (assoc B) = some ((id, ver, e, li.map g, off, m), rd1, true)) (hY : appendee vy (assoc B) = some (ys.map g, rd2, true))
    (ht : P.underlying t = some (.slice e)) (hz : szT P e = some (sz + 1)) (hsz : ∀ x, (g x).cells.length = sz + 1)
    (h : WO P H ext mt ops l ((d, .d (.int .i64 (Nat.min ys.length m : Nat))) :: R) ((id, .arr ver e ((copyL li off m ys).map g)) :: B) fun R' B' ts => K R' B' (⟨rd1 ++ (rd2 ++ []), [id]⟩ :: ts)) : WO P H ext mt ops (o :: l) R B K := by
  refine WO.step (u := [(id, .arr ver e ((copyL li off m ys).map g))]) (rd := rd1 ++ (rd2 ++ [])) (c := true) hw hd (fun n => ?_) rfl h
  have ho2 : opds (A R B) c.args.toList = some [vx, vy] := by simp only [ha, opds, hx, hy]
  simp only [evOp, ho, hc, ho2, hat]
  exact copyD_of hD hY ht hz hsz
theorem WO.copyN {α : Type} {g : α → PD} {li ys : List α} {t t2 e : TypeId} {x y : Operand} {c : Call} {id ver off m sz : Nat} {vx vy : RV} {rd1 rd2 : List Nat} (hw : wantD ops (A R B) o = some true) (hd : o.dst = none) (ho : o.op = .call c)
    (hc : c.callee = .builtin .copy) (ha : c.args.toList = [x, y]) (hat : c.argTypes = #[t, t2]) (hx : (A R B).opd x = some vx) (hy : (A R B).opd y = some vy)
    (hD : dstM vx (assoc B) = some ((id, ver, e, li.map g, off, m), rd1, true)) (hY : appendee vy (assoc B) = some (ys.map g, rd2, true))
    (ht : P.underlying t = some (.slice e)) (hz : szT P e = some (sz + 1)) (hsz : ∀ x, (g x).cells.length = sz + 1)
    (h : WO P H ext mt ops l R ((id, .arr ver e ((copyL li off m ys).map g)) :: B) fun R' B' ts => K R' B' (⟨rd1 ++ (rd2 ++ []), [id]⟩ :: ts)) : WO P H ext mt ops (o :: l) R B K := by
  refine WO.stepN (v := .d (.int .i64 (Nat.min ys.length m : Nat))) (u := [(id, .arr ver e ((copyL li off m ys).map g))]) (rd := rd1 ++ (rd2 ++ [])) (c := true) hw hd (fun n => ?_) rfl h
  have ho2 : opds (A R B) c.args.toList = some [vx, vy] := by simp only [ha, opds, hx, hy]
  simp only [evOp, ho, hc, ho2, hat]
  exact copyD_of hD hY ht hz hsz
theorem clearD_of {α : Type} {g : α → PD} {li : List α} {z : α} {t e : TypeId} {id ver off m sz : Nat} {vx : RV} {rd1 : List Nat} (hD : dstM vx (assoc B) = some ((id, ver, e, li.map g, off, m), rd1, true))
    (ht : P.underlying t = some (.slice e)) (hz : szT P e = some (sz + 1)) (h0 : (zeroT P e).bind zeroPD = some (g z)) (hsz : (g z).cells.length = sz + 1) :
    clearD P t vx (assoc B) = some ((.tup [], [(id, .arr ver e ((clearL li off m z).map g))]), rd1 ++ [], true) := by
  have he : elemT P t = some e := by simp [elemT, ht]
  simp only [clearD, he, hz, h0, M.bind, hD, M.need, hsz, decide_true, beq_self_eq_true, Bool.and_self, clearL, List.map_append, List.map_take, List.map_drop, List.map_replicate]
theorem WO.clearG {α : Type} {g : α → PD} {li : List α} {z : α} {t e : TypeId} {x : Operand} {c : Call} {id ver off m sz : Nat} {vx : RV} {rd1 : List Nat} (hw : wantD ops (A R B) o = some true) (hd : o.dst = some d) (ho : o.op = .call c)
    (hc : c.callee = .builtin .clear) (ha : c.args.toList = [x]) (hat : c.argTypes = #[t]) (hx : (A R B).opd x = some vx)
    (hD : dstM vx (assoc B) = some ((id, ver, e, li.map g, off, m), rd1, true))
    (ht : P.underlying t = some (.slice e)) (hz : szT P e = some (sz + 1)) (h0 : (zeroT P e).bind zeroPD = some (g z)) (hsz : (g z).cells.length = sz + 1)
    (h : WO P H ext mt ops l ((d, .tup []) :: R) ((id, .arr ver e ((clearL li off m z).map g)) :: B) fun R' B' ts => K R' B' (⟨rd1 ++ [], [id]⟩ :: ts)) : WO P H ext mt ops (o :: l) R B K := by
  refine WO.step (u := [(id, .arr ver e ((clearL li off m z).map g))]) (rd := rd1 ++ []) (c := true) hw hd (fun n => ?_) rfl h
  have ho2 : opds (A R B) c.args.toList = some [vx] := by simp only [ha, opds, hx]
  simp only [evOp, ho, hc, ho2, hat]
  exact clearD_of hD ht hz h0 hsz
theorem WO.clearN {α : Type} {g : α → PD} {li : List α} {z : α} {t e : TypeId} {x : Operand} {c : Call} {id ver off m sz : Nat} {vx : RV} {rd1 : List Nat} (hw : wantD ops (A R B) o = some true) (hd : o.dst = none) (ho : o.op = .call c)
    (hc : c.callee = .builtin .clear) (ha : c.args.toList = [x]) (hat : c.argTypes = #[t]) (hx : (A R B).opd x = some vx)
    (hD : dstM vx (assoc B) = some ((id, ver, e, li.map g, off, m), rd1, true))
    (ht : P.underlying t = some (.slice e)) (hz : szT P e = some (sz + 1)) (h0 : (zeroT P e).bind zeroPD = some (g z)) (hsz : (g z).cells.length = sz + 1)
    (h : WO P H ext mt ops l R ((id, .arr ver e ((clearL li off m z).map g)) :: B) fun R' B' ts => K R' B' (⟨rd1 ++ [], [id]⟩ :: ts)) : WO P H ext mt ops (o :: l) R B K := by
  refine WO.stepN (v := .tup []) (u := [(id, .arr ver e ((clearL li off m z).map g))]) (rd := rd1 ++ []) (c := true) hw hd (fun n => ?_) rfl h
  have ho2 : opds (A R B) c.args.toList = some [vx] := by simp only [ha, opds, hx]
  simp only [evOp, ho, hc, ho2, hat]
  exact clearD_of hD ht hz h0 hsz

/-- Data out of a view. -/
theorem toPD_view {α : Type} {g : α → PD} {li z : List α} {e : TypeId} {id ver lo hi : Nat} (hg : partO li lo hi = some z) (hb : assoc B id = some (.arr ver e (li.map g))) : toPD (.view id ver lo hi) (assoc B) = some ((.lst (z.map g), [(id, .dead)]), [id], true) := by
  unfold partO at hg
  split at hg
  · rename_i hc
    cases hg
    simp [toPD, toPD1, M.bind, M.get, hb, M.need, hc, List.map_take, List.map_drop]
  · cases hg

def finishB (nb : Nat) (rs : List RV) (b1 : Boxes) : Option (RV × List Box) :=
  match M.bind (reachM 64 [] (List.range nb ++ rs.flatMap idsV)) (fun ids => M.bind (getsM ids) fun bxs => M.pure (ids, bxs)) b1 with
  | some ((ids, bxs), _, true) =>
    if ids.take nb = List.range nb ∧ nodup ids = true then
      let ρ : Ren := ⟨idxOf ids, curVer b1 (keepVer nb)⟩
      some (renV ρ (one rs), (ids.zip bxs).map fun x => renB ρ (keepVer nb x.1) x.2)
    else none
  | _ => none
theorem finish_of {own : Nat → Bool} {fn : Func} {nb : Nat} {rs : List RV} {u : Ups} {rd : List Nat} {x : RV × List Box} (h : resD P own (A R B) 0 fn.results.toList (assoc B) = some ((rs, u), rd, true)) (hx : finishB nb rs (upBoxes (assoc B) u) = some x) : finish P own fn nb (A R B) = some x := by
  simp only [finish, h]
  exact hx
theorem finish_view {α : Type} {g : α → PD} {li z : List α} {e : TypeId} {own : Nat → Bool} {fn : Func} {nb t id ver lo hi : Nat} {x : RV × List Box} {rd : List Nat} (hg : partO li lo hi = some z) (hres : fn.results.toList = [.tmp t]) (ho : own 0 = false)
    (hv : resV P (A R B) (.tmp t) (assoc B) = some (.view id ver lo hi, rd, true)) (hb : assoc B id = some (.arr ver e (li.map g))) (hx : finishB nb [.d (.lst (z.map g))] (upBoxes (assoc B) [(id, .dead)]) = some x) : finish P own fn nb (A R B) = some x := by
  refine finish_of (rs := [.d (.lst (z.map g))]) (u := [(id, .dead)]) (rd := rd ++ ([id] ++ [])) ?_ hx
  have htp := toPD_view (B := B) hg hb
  simp [hres, resD, M.bind, hv, outV, ho, htp, M.pure, M.need, RV.sized]
end
end Go.Dw
namespace Go.Dw
section
variable {P : Program} {H : Hints} {ext : FuncId → Option CallD} {f : FuncId} {nb : Nat} {R : List (Nat × RV)} {B : List (Nat × Box)} {Q : Ex → List (Nat × RV) → List (Nat × Box) → Prop}
/-- A loop behind which nothing stands. -/
theorem WL.ofLoopEnd {σ ω : Type} {body : σ → Option (Step1 σ ω)} {b : Code} {s0 : σ} {o : ω} (h : loopO body s0 = some o) (I : σ → List (Nat × RV) → List (Nat × Box) → Prop) (h0 : I s0 R B)
    (hstep : ∀ s R B x, I s R B → body s = some x → WC P H ext f nb b R B fun e R' B' => match x with | .next s' => e = .normal ∧ I s' R' B' | .stop o' => e ≠ .normal ∧ (o' = o → Q e R' B')) : WL P H ext f nb b R B Q :=
  WL.ofLoop h I (fun o' e R' B' => o' = o → Q e R' B') h0 hstep (fun _ _ _ _ hq => hq rfl)
end
end Go.Dw
