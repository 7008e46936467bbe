
import Derived.Test.YtkcfodpngpmlcaaGreatDwLift4

namespace Go.Dw

def lastO {α : Type} (l : List α) : Option α := l[l.length - 1]?
def atO (n : Int) (j : Nat) : Option Unit := if n.toNat = j then some () else none
def stO (len : Nat) (n : Int) (j : Nat) : Option Unit := if n.toNat = j ∧ j < len then some () else none
theorem atO_some {n : Int} {j : Nat} {y : Unit} (h : atO n j = some y) : n.toNat = j := by unfold atO at h; split at h <;> first | assumption | cases h
theorem stO_some {len : Nat} {n : Int} {j : Nat} {y : Unit} (h : stO len n j = some y) : n.toNat = j ∧ j < len := by unfold stO at h; split at h <;> first | assumption | cases h

def mIdx {κ β : Type} (eq : κ → κ → Bool) (k : κ) : List (κ × β) → Nat
 | [] => 0
 | e :: r => if eq k e.1 = true then 0 else mIdx eq k r + 1
def mIns {κ β : Type} (eq : κ → κ → Bool) (k : κ) (z : β) : List (κ × β) → List (κ × β)
 | [] => [(k, z)]
 | e :: r => if eq k e.1 = true then e :: r else e :: mIns eq k z r
theorem pdSame1_inj {a b : PD} (h : pdSame1 a b = true) : a = b := by
 unfold pdSame1 at h
 split at h
 ·simp only [Bool.and_eq_true, decide_eq_true_eq] at h
  rw [h.1, h.2]
 ·simp only [decide_eq_true_eq] at h; rw [h]
 ·simp only [decide_eq_true_eq] at h; rw [h]
 ·cases h
theorem pdSames_inj : ∀ {a b : List PD}, pdSames a b = true → a = b
 | [], [], _ => rfl
 | [], _ :: _, h => by simp [pdSames] at h
 | _ :: _, [], h => by simp [pdSames] at h
 | a :: r, b :: q, h => by
  simp only [pdSames, Bool.and_eq_true] at h
  rw [pdSame1_inj h.1, pdSames_inj h.2]
theorem pdSame_inj {a b : PD} (h : pdSame a b = true) : a = b := by
 unfold pdSame at h
 split at h
 ·rw [pdSames_inj h]
 ·exact pdSame1_inj h
theorem mEnt_at {P : Program} {κ β : Type} {gk : κ → PD} {gv : β → PD} {eq : κ → κ → Bool} {kt : TypeId} (hK : KeyT P kt gk eq) (k : κ) : ∀ (li : List (κ × List β)) (i : Nat),
  ((mapFind P kt (gk k) (li.map fun e => (gk e.1, PD.lst (e.2.map gv))) i = some none ∧ mGet eq k [] li = [] ∧ mIns eq k [] li = li ++ [(k, [])] ∧ mIdx eq k li = li.length) ∨
  ∃ x, eq k x = true ∧ mapFind P kt (gk k) (li.map fun e => (gk e.1, PD.lst (e.2.map gv))) i = some (some (i + mIdx eq k li, gk x, .lst ((mGet eq k [] li).map gv))) ∧ mIns eq k [] li = li) ∧
  ∃ k' r, (mIns eq k [] li)[mIdx eq k li]? = some (k', r) ∧ gk k' = gk k ∧ ∀ v, (mPut eq k v li).map (fun e => (gk e.1, e.2.map gv)) = ((mIns eq k [] li).map fun e => (gk e.1, e.2.map gv)).set (mIdx eq k li) (gk k', v.map gv)
 | [], i => ⟨.inl ⟨rfl, rfl, rfl, rfl⟩, k, [], rfl, rfl, fun v => rfl⟩
 | (x, v) :: r, i => by
  cases hx : eq k x with
  | true =>
   refine ⟨.inr ⟨x, hx, by simp [mapFind, hK.feq, hx, mGet, mIdx], by simp [mIns, hx]⟩, x, v, by simp [mIns, mIdx, hx], (pdSame_inj (hK.same _ _ hx)).symm, fun v' => ?_⟩
   simp [mPut, mIns, mIdx, hx, pdSame_inj (hK.same _ _ hx)]
  | false =>
   obtain ⟨h1, k', r', h2, h3, h4⟩ := mEnt_at hK k r (i + 1)
   refine ⟨?_, k', r', by simpa [mIns, mIdx, hx] using h2, h3, fun v' => by simpa [mPut, mIns, mIdx, hx] using h4 v'⟩
   rcases h1 with ⟨e1, e2, e3, e4⟩ | ⟨y, e1, e2, e3⟩
   ·exact .inl ⟨by simp only [List.map_cons, mapFind, hK.feq, hx]; exact e1, by simp [mGet, hx, e2], by simp [mIns, hx, e3], by simp [mIdx, hx, e4]⟩
   ·refine .inr ⟨y, e1, ?_, by simp [mIns, hx, e3]⟩
    simp only [List.map_cons, mapFind, hK.feq, hx]
    rw [e2]
    simp only [mIdx, mGet, hx, Bool.false_eq_true, if_false]
    rw [show i + 1 + mIdx eq k r = i + (mIdx eq k r + 1) by omega]

section
variable {P : Program} {nb : Nat} {R : List (Nat × RV)} {B : List (Nat × Box)} {s' : St} {gs : List Ghost} {α : Type} {g : α → PD} {l : List (List α)} {es : List α} {id new k ver kv i : Nat} {e e2 : TypeId}

theorem ghosts_skip {x : Ghost} {s s1 : St} (h1 : ghost1 P nb s x = some s1) (h : ghosts P nb s1 gs = some s') : ghosts P nb s (x :: gs) = some s' := by
 simp only [ghosts, h1]; exact h
theorem ghosts_lendL (hes : lastO l = some es) (hB : assoc B id = some (.nest ver e e2 (l.map (List.map g)) none)) (hnew : assoc B new = none)
  (h : ghosts P nb (A R ((new, .arr 0 e2 (es.map g)) :: (id, .nest ver e e2 (l.map (List.map g)) (some (l.length - 1, .ref new 0))) :: B)) gs = some s') : ghosts P nb (A R B) (.lend id none new :: gs) = some s' := by
 refine ghosts_skip ?_ h
 unfold lastO at hes
 have h1 : lentAt (A R B) (l.map (List.map g)) none = some (l.length - 1, es.map g) := by
  simp [lentAt, hes]
 simp only [ghost1, hB, hnew, h1]
 rfl
theorem ghosts_lendR {r : Nat} {n : Int} {q : IntKind} (hes : getO l n = some es) (hr : assoc R r = some (.d (.int q n))) (hB : assoc B id = some (.nest ver e e2 (l.map (List.map g)) none)) (hnew : assoc B new = none)
  (h : ghosts P nb (A R ((new, .arr 0 e2 (es.map g)) :: (id, .nest ver e e2 (l.map (List.map g)) (some (n.toNat, .ref new 0))) :: B)) gs = some s') : ghosts P nb (A R B) (.lend id (some r) new :: gs) = some s' := by
 refine ghosts_skip ?_ h
 obtain ⟨h0, h1, h2⟩ := getO_some hes
 have h3 : lentAt (A R B) (l.map (List.map g)) (some r) = some (n.toNat, es.map g) := by
  simp [lentAt, hr, h0, h2]
 simp only [ghost1, hB, hnew, h3]
 rfl
theorem ghosts_give (hB : assoc B id = some (.nest ver e e2 (l.map (List.map g)) (some (i, .ref k kv)))) (hk : assoc B k = some (.arr kv e2 (es.map g))) (hne : k ≠ id)
  (h : ghosts P nb (A R ((k, .dead) :: (id, .nest ver e e2 ((l.set i es).map (List.map g)) none) :: B)) gs = some s') : ghosts P nb (A R B) (.give id :: gs) = some s' := by
 refine ghosts_skip ?_ h
 simp only [ghost1, hB, hk, hne, ne_eq, not_false_eq_true, and_self, if_true, List.map_set]
 rfl
theorem ghosts_frzn {r : Nat} (hp : assoc R r = some (.ref id ver)) (hB : assoc B id = some (.nest ver e e2 (l.map (List.map g)) none))
  (h : ghosts P nb (A ((r, .d (.lst (l.map fun x => .lst (x.map g)))) :: R) ((id, .dead) :: B)) gs = some s') : ghosts P nb (A R B) (.frzn (.reg r) :: gs) = some s' := by
 refine ghosts_skip ?_ h
 simp only [ghost1, plRV, hp, hB, if_true, plSet, List.map_map, Function.comp_def]
 rfl
theorem ghosts_frzm {κ β : Type} {gk : κ → PD} {gv : β → PD} {li : List (κ × List β)} {kt vt : TypeId} (hB : assoc B id = some (.mapn kt vt e2 (li.map fun e => (gk e.1, e.2.map gv)) none))
  (h : ghosts P nb (A R ((id, .map kt vt (li.map fun e => (gk e.1, .lst (e.2.map gv)))) :: B)) gs = some s') : ghosts P nb (A R B) (.frzm id :: gs) = some s' := by
 refine ghosts_skip ?_ h
 simp only [ghost1, hB, lstP, List.map_map, Function.comp_def]
 rfl
end

section
variable {P : Program} {H : Hints} {ext : FuncId → Option CallD} {mt : Hf} {ops : Array Oper} {l : List Oper} {R : List (Nat × RV)} {B : List (Nat × Box)} {K : List (Nat × RV) → List (Nat × Box) → List Tr → Prop} {o : Oper} {d : Nat}

theorem WO.lenN {α : Type} {g : α → PD} {li : List (List α)} {t e e2 e' : TypeId} {x : Operand} {c : Call} {id ver : Nat} {hh : Option (Nat × RV)} (hw : wantD ops (A R B) o = some true) (hd : o.dst = some d) (ho : o.op = .call c)
  (hc : c.callee = .builtin .len) (ha : c.args.toList = [x]) (hat : c.argTypes = #[t]) (hx : (A R B).opd x = some (.ref id ver)) (hb : assoc B id = some (.nest ver e e2 (li.map (List.map g)) hh)) (ht : P.underlying t = some (.slice e'))
  (h : WO P H ext mt ops l ((d, .d (.int .i64 (li.length : Int))) :: R) B fun R' B' ts => K R' B' (⟨[id], []⟩ :: ts)) : WO P H ext mt ops (o :: l) R B K := by
 refine WO.step (u := []) (rd := [id]) (c := true) hw hd (fun n => ?_) rfl h
 have ho2 : opds (A R B) c.args.toList = some [.ref id ver] := by simp only [ha, opds, hx]
 simp only [evOp, ho, hc, ho2, hat]
 show lenD P t _ _ = _
 simp [lenD, ht, M.bind, M.get, hb, ofRV, M.pure]
theorem WO.eltN {α : Type} {g : α → PD} {li : List (List α)} {t e e2 : TypeId} {x i : Operand} {k : IntKind} {n : Int} {id ver sz : Nat} {hh : Option (Nat × RV)} {y : Unit} (hg : inO li n = some y) (hw : wantD ops (A R B) o = some true) (hd : o.dst = some d) (ho : o.op = .indexAddr t x i)
  (hx : (A R B).opd x = some (.ref id ver)) (hi : (A R B).opd i = some (.d (.int k n))) (hb : assoc B id = some (.nest ver e e2 (li.map (List.map g)) hh)) (ht : P.underlying t = some (.slice e)) (hz : szT P e = some sz)
  (h : WO P H ext mt ops l ((d, .elt id ver n.toNat 0) :: R) B fun R' B' ts => K R' B' (⟨[id], []⟩ :: ts)) : WO P H ext mt ops (o :: l) R B K := by
 have hn : 0 ≤ n ∧ n < li.length := by unfold inO at hg; split at hg <;> first | assumption | cases hg
 refine WO.step (u := []) (rd := [id]) (c := decide (0 ≤ n ∧ n < (li.map (List.map g)).length)) hw hd (fun m => ?_) (by simpa using hn) h
 simp only [evOp, ho, hx, hi, indexAddrD, ht, hz, M.bind, M.get, hb, and_self, if_true, needRV, M.need]
 simp
theorem WO.loadN {t e e2 : TypeId} {a : Operand} {n : Int} {id ver j k : Nat} {ess : List (List PD)} {rv : RV} {y : Unit} (hg : atO n j = some y) (hw : wantD ops (A R B) o = some true) (hd : o.dst = some d) (ho : o.op = .load t a)
  (ha : (A R B).opd a = some (.elt id ver n.toNat 0)) (hb : assoc B id = some (.nest ver e e2 ess (some (j, rv)))) (hk : kindT P t = some (false, k))
  (h : WO P H ext mt ops l ((d, rv) :: R) B fun R' B' ts => K R' B' (⟨[id], []⟩ :: ts)) : WO P H ext mt ops (o :: l) R B K := by
 have hj := atO_some hg
 refine WO.step (u := []) (rd := [id]) (c := true) hw hd (fun m => ?_) rfl h
 simp only [evOp, ho, ha, loadD, M.bind, M.get, hb, hj, and_self, if_true, hk, ofRV, M.pure]
 rfl
theorem WO.storeN {α : Type} {g : α → PD} {li : List (List α)} {t e e2 : TypeId} {a x : Operand} {n : Int} {id ver j q kv : Nat} {rv : RV} {y : Unit} (hg : stO li.length n j = some y) (hw : wantD ops (A R B) o = some true) (hd : o.dst = none) (ho : o.op = .store t a x)
  (ha : (A R B).opd a = some (.elt id ver n.toNat 0)) (hx : (A R B).opd x = some (.ref q kv)) (hb : assoc B id = some (.nest ver e e2 (li.map (List.map g)) (some (j, rv)))) (hz : szT P t = some 1)
  (h : WO P H ext mt ops l R ((id, .nest ver e e2 (li.map (List.map g)) (some (j, .ref q kv))) :: B) fun R' B' ts => K R' B' (⟨[id], [id]⟩ :: ts)) : WO P H ext mt ops (o :: l) R B K := by
 obtain ⟨hj, hl⟩ := stO_some hg
 refine WO.stepN (v := .undef) (u := [(id, .nest ver e e2 (li.map (List.map g)) (some (j, .ref q kv)))]) (rd := [id]) (c := (RV.ref q kv).one && decide (j < (li.map (List.map g)).length) && decide (j = j)) hw hd (fun m => ?_) ?_ h
 ·simp only [evOp, ho, ha, hx, storeD, hz, M.bind, M.get, hb, hj, and_self, if_true, M.need]
  rfl
 ·simp [RV.one, hl]
theorem WO.appNN {α : Type} {g : α → PD} {li r : List (List α)} {t e e2 : TypeId} {x y : Operand} {c : Call} {id ver by_ : Nat} {z : Value} (hg : appO li [[]] (by_ + 1) = some r) (hw : wantD ops (A R B) o = some true) (hd : o.dst = some d) (ho : o.op = .call c)
  (hc : c.callee = .builtin .append) (ha : c.args.toList = [x, y]) (hat : c.argTypes = #[t, t]) (hx : (A R B).opd x = some (.ref id ver)) (hy : (A R B).opd y = some (.d (.lst [nil0])))
  (hb : assoc B id = some (.nest ver e e2 (li.map (List.map g)) none)) (ht : elemT P t = some e) (hz : szT P e = some 1) (hby : bytesT P e = some (by_ + 1)) (hzz : zeroT P e = some z) (hzs : z.cells.size = 1)
  (h : WO P H ext mt ops l ((d, .ref id (ver + 1)) :: R) ((id, .nest (ver + 1) e e2 (r.map (List.map g)) none) :: B) fun R' B' ts => K R' B' (⟨[id], [id]⟩ :: ts)) : WO P H ext mt ops (o :: l) R B K := by
 obtain ⟨h1, rfl⟩ := appO_some hg
 rw [List.map_append] at h
 refine WO.step (u := [(id, .nest (ver + 1) e e2 (li.map (List.map g) ++ [[]]) none)]) (rd := [id]) (c := decide (((li.map (List.map g)).length + 1) * (by_ + 1) ≤ 140737488355328)) hw hd (fun n => ?_) ?_ h
 ·have ho2 : opds (A R B) c.args.toList = some [.ref id ver, .d (.lst [nil0])] := by simp only [ha, opds, hx, hy]
  simp only [evOp, ho, hc, ho2, hat]
  have hif : ∀ (m m' : M (RV × Ups)), (if (#[t, t] : Array TypeId).size = 2 then m else m') = m := fun _ _ => if_pos rfl
  rw [hif, if_pos (show (#[t, t] : Array TypeId).getD 0 0 = (#[t, t] : Array TypeId).getD 1 0 from rfl)]
  show appendD P _ t t _ _ _ = _
  have hn : [nil0].all isNil0 = true := rfl
  simp only [appendD, ht, hz, hby, hzz, hzs, and_self, if_true, M.bind, appendee, M.pure, M.get, hb, M.need, hn]
  simp [List.replicate]
 ·simpa using h1
theorem WO.mapE {κ β : Type} {gk : κ → PD} {gv : β → PD} {eq : κ → κ → Bool} {k : κ} {li : List (κ × List β)} {t kt vt e2 : TypeId} {x xk : Operand} {id : Nat} (hK : KeyT P kt gk eq) (hz : isZ0 (zeroT P vt) = true) (hw : wantD ops (A R B) o = some true) (hd : o.dst = some d) (ho : o.op = .mapEntry t x xk)
  (hx : (A R B).opd x = some (.ptr id 0)) (hk : (A R B).opd xk = some (.d (gk k))) (hb : assoc B id = some (.mapn kt vt e2 (li.map fun e => (gk e.1, e.2.map gv)) none)) (hv : assoc B (d * 16) = none) (hne : decide (d * 16 ≠ id) = true) (ht : P.underlying t = some (.map kt vt))
  (h : WO P H ext mt ops l ((d, .tup [.ref (d * 16) 0, .d (.int .i64 (mIdx eq k li : Nat))]) :: R) ((d * 16, .arr 0 e2 ((mGet eq k [] li).map gv)) :: (id, .mapn kt vt e2 ((mIns eq k [] li).map fun e => (gk e.1, e.2.map gv)) (some (mIdx eq k li))) :: B) fun R' B' ts => K R' B' (⟨[id, d * 16], [id, d * 16]⟩ :: ts)) :
  WO P H ext mt ops (o :: l) R B K := by
 have hne := of_decide_eq_true hne
 have hl : lstP (li.map fun e => (gk e.1, e.2.map gv)) = li.map fun e => (gk e.1, PD.lst (e.2.map gv)) := by simp [lstP, Function.comp_def]
 rcases (mEnt_at (gv := gv) hK k li 0).1 with ⟨h1, h2, h3, h4⟩ | ⟨y, h1, h2, h3⟩
 ·refine WO.step (u := [(id, .mapn kt vt e2 ((mIns eq k [] li).map fun e => (gk e.1, e.2.map gv)) (some (mIdx eq k li))), (d * 16, .arr 0 e2 ((mGet eq k [] li).map gv))]) (rd := [id, d * 16]) (c := true) hw hd (fun n => ?_) rfl h
  simp only [evOp, ho, hx, hk, hd, Option.getD_some, mapEntryD, ht, M.bind, M.get, hb, true_and, hK.kind, hne, ne_eq, not_false_eq_true, if_true, M.vacant, hv, hl, h1, hz, M.pure, h2, h3, h4]
  simp
 ·refine WO.step (u := [(id, .mapn kt vt e2 ((mIns eq k [] li).map fun e => (gk e.1, e.2.map gv)) (some (mIdx eq k li))), (d * 16, .arr 0 e2 ((mGet eq k [] li).map gv))]) (rd := [id, d * 16]) (c := pdSame (gk k) (gk y)) hw hd (fun n => ?_) (hK.same _ _ h1) h
  simp only [evOp, ho, hx, hk, hd, Option.getD_some, mapEntryD, ht, M.bind, M.get, hb, true_and, hK.kind, hne, ne_eq, not_false_eq_true, if_true, M.vacant, hv, hl, h2, M.need, h3, Nat.zero_add]
  simp
theorem WO.entS {κ β : Type} {gk : κ → PD} {gv : β → PD} {eq : κ → κ → Bool} {k : κ} {li : List (κ × List β)} {row : List β} {t kt vt e2 : TypeId} {x xn xv : Operand} {id q kv : Nat} (hK : KeyT P kt gk eq) (hw : wantD ops (A R B) o = some true) (hd : o.dst = none) (ho : o.op = .entryStore t x xn xv)
  (hx : (A R B).opd x = some (.ptr id 0)) (hn : (A R B).opd xn = some (.d (.int .i64 (mIdx eq k li : Nat)))) (hv : (A R B).opd xv = some (.ref q kv)) (hb : assoc B id = some (.mapn kt vt e2 ((mIns eq k [] li).map fun e => (gk e.1, e.2.map gv)) (some (mIdx eq k li)))) (hq : assoc B q = some (.arr kv e2 (row.map gv))) (hne : decide (q ≠ id) = true)
  (h : WO P H ext mt ops l R ((id, .mapn kt vt e2 ((mPut eq k row li).map fun e => (gk e.1, e.2.map gv)) none) :: (q, .dead) :: B) fun R' B' ts => K R' B' (⟨[id, q], [q, id]⟩ :: ts)) : WO P H ext mt ops (o :: l) R B K := by
 have hne := of_decide_eq_true hne
 obtain ⟨k', r, h2, h3, h4⟩ := (mEnt_at (gv := gv) hK k li 0).2
 refine WO.stepN (v := .undef) (u := [(q, .dead), (id, .mapn kt vt e2 ((mPut eq k row li).map fun e : κ × List β => (gk e.1, e.2.map gv)) none)]) (rd := [id, q]) (c := true) hw hd (fun n => ?_) rfl h
 have h5 : ((mIns eq k [] li).map fun e : κ × List β => (gk e.1, e.2.map gv))[mIdx eq k li]? = some (gk k', r.map gv) := by simp [h2]
 simp only [evOp, ho, hx, hn, hv, entryStoreD, M.bind, M.get, hb, hq, hne, ne_eq, not_false_eq_true, and_self, if_true, h5, M.pure, h4]
 simp
end
end Go.Dw
