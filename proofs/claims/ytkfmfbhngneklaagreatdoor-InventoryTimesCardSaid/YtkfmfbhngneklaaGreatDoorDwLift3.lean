/- DwLift3: a part of an element written; rows that are stored become data. -/
import Derived.Test.YtkfmfbhngneklaaGreatDoorDwLift2
namespace Go.Dw

def modO {α : Type} (l : List α) (n : Int) (f : α → α) : Option (List α) :=
  if 0 ≤ n then (match l[n.toNat]? with | some x => some (l.set n.toNat (f x)) | none => none) else none
theorem modO_some {α : Type} {l r : List α} {n : Int} {f : α → α} (h : modO l n f = some r) : 0 ≤ n ∧ ∃ hn : n.toNat < l.length, r = l.set n.toNat (f l[n.toNat]) := by
  unfold modO at h
  split at h
  · rename_i h0
    split at h
    · rename_i x hx
      cases h
      obtain ⟨h1, rfl⟩ := List.getElem?_eq_some_iff.1 hx
      exact ⟨h0, h1, rfl⟩
    · cases h
  · cases h
section
variable {P : Program} {H : Hints} {ext : FuncId → Option CallD} {mt : Hf} {ops : Array Oper} {l : List Oper} {R : List (Nat × RV)} {B : List (Nat × Box)} {K : List (Nat × RV) → List (Nat × Box) → List Tr → Prop} {o : Oper}

/-- A part of an element of a list in a box, written; what is written may be a row that becomes data. -/
theorem WO.storeF {α : Type} {g : α → PD} {f : α → α} {li r : List α} {t e : TypeId} {a x : Operand} {n : Int} {id ver off sz : Nat} {v : RV} {p : PD} {u : Ups} {rd : List Nat} (hg : modO li n f = some r) (hpt : ∀ x, (g x).put off p.cells = g (f x))
    (hfit : ∀ x, off + sz ≤ (g x).cells.length) (hw : wantD ops (A R B) o = some true) (hd : o.dst = none) (ho : o.op = .store t a x) (ha : (A R B).opd a = some (.elt id ver n.toNat off)) (hx : (A R B).opd x = some v)
    (hb : assoc B id = some (.arr ver e (li.map g))) (hz : szT P t = some sz) (hs : v.sized = true) (htp : toPD v (assoc B) = some ((p, u), rd, true)) (hne : (u.map (·.1)).contains id = false) (hpc : p.cells.length = sz)
    (h : WO P H ext mt ops l R (upsB (u ++ [(id, Box.arr ver e (r.map g))]) B) fun R' B' ts => K R' B' (⟨[id] ++ rd, (u ++ [(id, Box.arr ver e (r.map g))]).map (·.1)⟩ :: ts)) : WO P H ext mt ops (o :: l) R B K := by
  obtain ⟨h1, hlt, rfl⟩ := modO_some hg
  have h3 : (li.map g)[n.toNat]? = some (g li[n.toNat]) := by simp [hlt]
  rw [List.map_set, ← hpt li[n.toNat]] at h
  refine WO.stepN (v := .undef) (u := u ++ [(id, .arr ver e ((li.map g).set n.toNat ((g li[n.toNat]).put off p.cells)))]) (rd := [id] ++ rd) (c := v.sized && decide (p.cells.length = sz ∧ off + sz ≤ (g li[n.toNat]).cells.length)) hw hd (fun m => ?_) ?_ h
  · simp only [evOp, ho, ha, hx, storeD, hz, M.bind, M.get, hb, if_true, htp, h3, hne, M.need]
    simp [M.need]
  · simp [hs, hpc, hfit]
theorem WO.appRG {vy : RV} {rd : List Nat} {α : Type} {g : α → PD} {li m r : List α} {t e : TypeId} {x y : Operand} {c : Call} {id ver sz by_ d : Nat} {z : Value} (hg : appO li m (by_ + 1) = some r) (hsz : ∀ x, (g x).cells.length = sz + 1) (hw : wantD ops (A R B) o = some true) (hd : o.dst = some d) (ho : o.op = .call c)
    (hc : c.callee = .builtin .append) (ha : c.args.toList = [x, y]) (hat : c.argTypes = #[t, t]) (hx : (A R B).opd x = some (.ref id ver)) (hy : (A R B).opd y = some vy) (hye : appendee vy (assoc B) = some (m.map g, rd, true))
    (hb : assoc B id = some (.arr ver e (li.map g))) (ht : elemT P t = some e) (hz : szT P e = some (sz + 1)) (hby : bytesT P e = some (by_ + 1)) (hzz : zeroT P e = some z) (hzs : z.cells.size = sz + 1)
    (h : WO P H ext mt ops l ((d, .ref id (ver + 1)) :: R) ((id, .arr (ver + 1) e (r.map g)) :: B) fun R' B' ts => K R' B' (⟨rd ++ [id], [id]⟩ :: ts)) : WO P H ext mt ops (o :: l) R B K := by
  obtain ⟨h1, rfl⟩ := appO_some hg
  rw [List.map_append] at h
  refine WO.step (u := [(id, .arr (ver + 1) e (li.map g ++ m.map g))]) (rd := rd ++ [id]) (c := decide (((li.map g).length + (m.map g).length) * (by_ + 1) ≤ 140737488355328) && (m.map g).all (fun e => e.cells.length == sz + 1)) hw hd (fun n => ?_) ?_ h
  · have ho2 : opds (A R B) c.args.toList = some [.ref id ver, vy] := by simp only [ha, opds, hx, hy]
    simp only [evOp, ho, hc, ho2, hat]
    have hif : ∀ (m m' : M (RV × Ups)), (if (#[t, t] : Array TypeId).size = 2 then m else m') = m := fun _ _ => if_pos rfl
    rw [hif]
    show appendD P _ t t _ _ _ = _
    simp only [appendD, ht, hz, hby, hzz, hzs, and_self, if_true, M.bind, hye, M.pure, M.get, hb, M.need]
    simp
  · simp only [Bool.and_eq_true, decide_eq_true_eq]
    exact ⟨by simpa using h1, by simp [hsz]⟩
/-- Append to nil. -/
theorem WO.appNG {vy : RV} {rd : List Nat} {α : Type} {g : α → PD} {m r : List α} {t e : TypeId} {x y : Operand} {c : Call} {sz by_ d : Nat} {z : Value} (hg : appO [] m (by_ + 1) = some r) (hsz : ∀ x, (g x).cells.length = sz + 1) (hw : wantD ops (A R B) o = some true) (hd : o.dst = some d) (ho : o.op = .call c)
    (hc : c.callee = .builtin .append) (ha : c.args.toList = [x, y]) (hat : c.argTypes = #[t, t]) (hx : (A R B).opd x = some .nils) (hy : (A R B).opd y = some vy) (hye : appendee vy (assoc B) = some (m.map g, rd, true))
    (hb : assoc B (d * 16) = none) (ht : elemT P t = some e) (hz : szT P e = some (sz + 1)) (hby : bytesT P e = some (by_ + 1)) (hzz : zeroT P e = some z) (hzs : z.cells.size = sz + 1)
    (h : WO P H ext mt ops l ((d, .ref (d * 16) 0) :: R) ((d * 16, .arr 0 e (r.map g)) :: B) fun R' B' ts => K R' B' (⟨rd ++ [d * 16], [d * 16]⟩ :: ts)) : WO P H ext mt ops (o :: l) R B K := by
  obtain ⟨h1, hr⟩ := appO_some hg
  rw [List.nil_append] at hr
  subst hr
  refine WO.step (u := [(d * 16, .arr 0 e (r.map g))]) (rd := rd ++ [d * 16]) (c := decide ((r.map g).length * (by_ + 1) ≤ 140737488355328) && (r.map g).all (fun e => e.cells.length == sz + 1)) hw hd (fun n => ?_) ?_ h
  · have ho2 : opds (A R B) c.args.toList = some [.nils, vy] := by simp only [ha, opds, hx, hy]
    simp only [evOp, ho, hc, ho2, hat, hd, Option.getD_some]
    have hif : ∀ (m m' : M (RV × Ups)), (if (#[t, t] : Array TypeId).size = 2 then m else m') = m := fun _ _ => if_pos rfl
    rw [hif]
    show appendD P _ t t _ _ _ = _
    simp only [appendD, ht, hz, hby, hzz, hzs, and_self, if_true, M.bind, hye, M.pure, M.vacant, hb, M.need]
    simp
  · simp only [Bool.and_eq_true, decide_eq_true_eq]
    exact ⟨by simpa using h1, by simp [hsz]⟩
theorem appendee_view {α : Type} {g : α → PD} {li m : List α} {id ver lo hi : Nat} {e : TypeId} {B : List (Nat × Box)} (h : partO li lo hi = some m) (hb : assoc B id = some (.arr ver e (li.map g))) :
    appendee (.view id ver lo hi) (assoc B) = some (m.map g, [id], true) := by
  unfold partO at h
  split at h
  · rename_i hc
    cases h
    have hc' : lo ≤ hi ∧ hi ≤ (li.map g).length := by simpa using hc
    simp only [appendee, M.bind, M.get, hb, if_true, M.need]
    simp [hc', List.map_drop, List.map_take]
    exact hc.2
  · cases h
/-- A beginning of a row, without room. -/
theorem WO.sliceFG {α : Type} {g : α → PD} {li : List α} {t e : TypeId} {x : Operand} {lo hi mx : Option Operand} {k k' : IntKind} {b : Int} {id ver sz d : Nat} {y : Unit} (hg : subO li.length 0 b = some y) (hmt : mt.lit (o.dst.getD 0) = false) (hw : wantD ops (A R B) o = some true) (hd : o.dst = some d) (ho : o.op = .slice t x lo hi mx)
    (hx : (A R B).opd x = some (.ref id ver)) (hb : assoc B id = some (.arr ver e (li.map g))) (ht : P.underlying t = some (.slice e)) (hz : szT P e = some (sz + 1)) {rl rh rm : Option RV} (hl : opdOpt (A R B) lo = some rl) (hh : opdOpt (A R B) hi = some rh) (hm : opdOpt (A R B) mx = some rm)
    (hrl : rl = none) (hrh : rh = some (.d (.int k b))) (hrm : rm = some (.d (.int k' b)))
    (h : WO P H ext mt ops l ((d, .fview id ver b.toNat) :: R) B fun R' B' ts => K R' B' (⟨[id], []⟩ :: ts)) : WO P H ext mt ops (o :: l) R B K := by
  subst hrl hrh hrm
  have hc : 0 ≤ b ∧ b ≤ li.length := by unfold subO at hg; split at hg <;> first | (rename_i h; exact ⟨h.2.1, h.2.2⟩) | cases hg
  refine WO.step (v := .fview id ver b.toNat) (u := []) (rd := [id]) (c := decide (0 ≤ b ∧ b ≤ (li.map g).length)) hw hd (fun m => ?_) (by simpa using hc) h
  simp only [evOp, ho, hx, hl, hh, hm, hmt, Bool.false_eq_true, if_false, sliceD, sliceF, ht, hz, M.bind, M.get, hb, and_self, if_true, M.need]
  simp
/-- An append to it. -/
theorem WO.appF {vy : RV} {rd : List Nat} {α : Type} {g : α → PD} {li m r : List α} {t e : TypeId} {x y : Operand} {c : Call} {id ver sz by_ d : Nat} {z : Value} {b : Int} {q : Unit} (hg : appO (li.take b.toNat) m (by_ + 1) = some r) (hs : subO li.length 0 b = some q) (hsz : ∀ x, (g x).cells.length = sz + 1) (hw : wantD ops (A R B) o = some true) (hd : o.dst = some d) (ho : o.op = .call c)
    (hc : c.callee = .builtin .append) (ha : c.args.toList = [x, y]) (hat : c.argTypes = #[t, t]) (hx : (A R B).opd x = some (.fview id ver b.toNat)) (hy : (A R B).opd y = some vy) (hye : appendee vy (assoc B) = some (m.map g, rd, true))
    (hb : assoc B id = some (.arr ver e (li.map g))) (ht : elemT P t = some e) (hz : szT P e = some (sz + 1)) (hby : bytesT P e = some (by_ + 1)) (hzz : zeroT P e = some z) (hzs : z.cells.size = sz + 1)
    (h : WO P H ext mt ops l ((d, .d (.lst (r.map g))) :: R) ((id, .dead) :: B) fun R' B' ts => K R' B' (⟨rd ++ [id], [id]⟩ :: ts)) : WO P H ext mt ops (o :: l) R B K := by
  obtain ⟨h1, rfl⟩ := appO_some hg
  have hcc : 0 ≤ b ∧ b ≤ li.length := by unfold subO at hs; split at hs <;> first | (rename_i h; exact ⟨h.2.1, h.2.2⟩) | cases hs
  rw [List.map_append, List.map_take] at h
  refine WO.step (v := .d (.lst ((li.map g).take b.toNat ++ m.map g))) (u := [(id, .dead)]) (rd := rd ++ [id]) (c := decide (b.toNat ≤ (li.map g).length ∧ (b.toNat + (m.map g).length) * (by_ + 1) ≤ 140737488355328) && (m.map g).all (fun e => e.cells.length == sz + 1)) hw hd (fun n => ?_) ?_ h
  · have ho2 : opds (A R B) c.args.toList = some [.fview id ver b.toNat, vy] := by simp only [ha, opds, hx, hy]
    simp only [evOp, ho, hc, ho2, hat]
    have hif : ∀ (m m' : M (RV × Ups)), (if (#[t, t] : Array TypeId).size = 2 then m else m') = m := fun _ _ => if_pos rfl
    rw [hif]
    show appendD P _ t t _ _ _ = _
    simp only [appendD, ht, hz, hby, hzz, hzs, and_self, if_true, M.bind, hye, M.pure, M.get, hb, M.need]
    simp
  · simp only [Bool.and_eq_true, decide_eq_true_eq]
    have hl : (li.take b.toNat).length = b.toNat := by simp; omega
    rw [hl] at h1
    exact ⟨⟨by simp; omega, by simpa using h1⟩, by simp [hsz]⟩
/-- A row made shorter. -/
theorem WO.resl {α : Type} {g : α → PD} {li : List α} {t e : TypeId} {x : Operand} {lo hi : Option Operand} {k : IntKind} {b : Int} {id ver sz d : Nat} {y : Unit} (hg : subO li.length 0 b = some y) (hmt : mt.lit (o.dst.getD 0) = true) (hw : wantD ops (A R B) o = some true) (hd : o.dst = some d) (ho : o.op = .slice t x lo hi none)
    (hx : (A R B).opd x = some (.ref id ver)) (hb : assoc B id = some (.arr ver e (li.map g))) (ht : P.underlying t = some (.slice e)) (hz : szT P e = some (sz + 1)) {rl rh : Option RV} (hl : opdOpt (A R B) lo = some rl) (hh : opdOpt (A R B) hi = some rh) (hrl : rl = none) (hrh : rh = some (.d (.int k b)))
    (h : WO P H ext mt ops l ((d, .ref id (ver + 1)) :: R) ((id, .arr (ver + 1) e ((li.take b.toNat).map g)) :: B) fun R' B' ts => K R' B' (⟨[id], [id]⟩ :: ts)) : WO P H ext mt ops (o :: l) R B K := by
  subst hrl hrh
  have hc : 0 ≤ b ∧ b ≤ li.length := by unfold subO at hg; split at hg <;> first | (rename_i h; exact ⟨h.2.1, h.2.2⟩) | cases hg
  rw [List.map_take] at h
  refine WO.step (v := .ref id (ver + 1)) (u := [(id, .arr (ver + 1) e ((li.map g).take b.toNat))]) (rd := [id]) (c := decide (0 ≤ b ∧ b ≤ (li.map g).length)) hw hd (fun m => ?_) (by simpa using hc) h
  have ho3 : opdOpt (A R B) none = some none := rfl
  simp only [evOp, ho, hx, hl, hh, ho3, hmt, if_true, reslD, ht, hz, M.bind, M.get, hb, and_self, M.need]
  simp
end
end Go.Dw
