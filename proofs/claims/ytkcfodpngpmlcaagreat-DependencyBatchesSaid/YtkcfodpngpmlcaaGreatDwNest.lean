
import Derived.Test.YtkcfodpngpmlcaaGreatDwLift4

namespace Go.Dw

def mu {α : Type} (l : List α) : Option α := l[l.length - 1]?
def atO (n : Int) (j : Nat) : Option Unit := if n.toNat = j then some () else none
def stO (len : Nat) (n : Int) (j : Nat) : Option Unit := if n.toNat = j ∧ j < len then some () else none
theorem atO_some {n : Int} {j : Nat} {y : Unit} (h : atO n j = some y) : n.toNat = j := by unfold atO at h; split at h <;> first | assumption | cases h
theorem stO_some {len : Nat} {n : Int} {j : Nat} {y : Unit} (h : stO len n j = some y) : n.toNat = j ∧ j < len := by unfold stO at h; split at h <;> first | assumption | cases h

def kB {κ β : Type} (eq : κ → κ → Bool) (k : κ) : List (κ × β) → Nat
 | [] => 0
 | e :: r => if eq k e.1 = true then 0 else kB eq k r + 1
def mU {κ β : Type} (eq : κ → κ → Bool) (k : κ) (z : β) : List (κ × β) → List (κ × β)
 | [] => [(k, z)]
 | e :: r => if eq k e.1 = true then e :: r else e :: mU eq k z r
theorem qM {a b : PD} (h : jA a b = true) : a = b := by
 unfold jA at h
 split at h
 ·simp only [Bool.and_eq_true, decide_eq_true_eq] at h
  rw [h.1, h.2]
 ·simp only [decide_eq_true_eq] at h; rw [h]
 ·simp only [decide_eq_true_eq] at h; rw [h]
 ·cases h
theorem qN : ∀ {a b : List PD}, ib a b = true → a = b
 | [], [], _ => rfl
 | [], _ :: _, h => by simp [ib] at h
 | _ :: _, [], h => by simp [ib] at h
 | a :: r, b :: q, h => by
  simp only [ib, Bool.and_eq_true] at h
  rw [qM h.1, qN h.2]
theorem sY {a b : PD} (h : jo a b = true) : a = b := by
 unfold jo at h
 split at h
 ·rw [qN h]
 ·exact qM h
theorem uP {P : Program} {κ β : Type} {gk : κ → PD} {gv : β → PD} {eq : κ → κ → Bool} {kt : TypeId} (hK : rL P kt gk eq) (k : κ) : ∀ (li : List (κ × List β)) (i : Nat),
  ((dE P kt (gk k) (li.map fun e => (gk e.1, PD.lst (e.2.map gv))) i = some none ∧ gl eq k [] li = [] ∧ mU eq k [] li = li ++ [(k, [])] ∧ kB eq k li = li.length) ∨
  ∃ x, eq k x = true ∧ dE P kt (gk k) (li.map fun e => (gk e.1, PD.lst (e.2.map gv))) i = some (some (i + kB eq k li, gk x, .lst ((gl eq k [] li).map gv))) ∧ mU eq k [] li = li) ∧
  ∃ k' r, (mU eq k [] li)[kB eq k li]? = some (k', r) ∧ gk k' = gk k ∧ ∀ v, (mD eq k v li).map (fun e => (gk e.1, e.2.map gv)) = ((mU eq k [] li).map fun e => (gk e.1, e.2.map gv)).set (kB eq k li) (gk k', v.map gv)
 | [], i => ⟨.inl ⟨rfl, rfl, rfl, rfl⟩, k, [], rfl, rfl, fun v => rfl⟩
 | (x, v) :: r, i => by
  cases hx : eq k x with
  | true =>
   refine ⟨.inr ⟨x, hx, by simp [dE, hK.feq, hx, gl, kB], by simp [mU, hx]⟩, x, v, by simp [mU, kB, hx], (sY (hK.same _ _ hx)).symm, fun v' => ?_⟩
   simp [mD, mU, kB, hx, sY (hK.same _ _ hx)]
  | false =>
   obtain ⟨h1, k', r', h2, h3, h4⟩ := uP hK k r (i + 1)
   refine ⟨?_, k', r', by simpa [mU, kB, hx] using h2, h3, fun v' => by simpa [mD, mU, kB, hx] using h4 v'⟩
   rcases h1 with ⟨e1, e2, e3, e4⟩ | ⟨y, e1, e2, e3⟩
   ·exact .inl ⟨by simp only [List.map_cons, dE, hK.feq, hx]; exact e1, by simp [gl, hx, e2], by simp [mU, hx, e3], by simp [kB, hx, e4]⟩
   ·refine .inr ⟨y, e1, ?_, by simp [mU, hx, e3]⟩
    simp only [List.map_cons, dE, hK.feq, hx]
    rw [e2]
    simp only [kB, gl, hx, Bool.false_eq_true, if_false]
    rw [show i + 1 + kB eq k r = i + (kB eq k r + 1) by omega]

section
variable {P : Program} {nb : Nat} {R : List (Nat × RV)} {B : List (Nat × Box)} {s' : St} {gs : List p8} {α : Type} {g : α → PD} {l : List (List α)} {es : List α} {id new k ver kv i : Nat} {e e2 : TypeId}

theorem gC {x : p8} {s s1 : St} (h1 : e7 P nb s x = some s1) (h : bg P nb s1 gs = some s') : bg P nb s (x :: gs) = some s' := by
 simp only [bg, h1]; exact h
theorem gF (hes : mu l = some es) (hB : assoc B id = some (.nest ver e e2 (l.map (List.map g)) none)) (hnew : assoc B new = none)
  (h : bg P nb (A R ((new, .arr 0 e2 (es.map g)) :: (id, .nest ver e e2 (l.map (List.map g)) (some (l.length - 1, .ref new 0))) :: B)) gs = some s') : bg P nb (A R B) (.qV id none new :: gs) = some s' := by
 refine gC ?_ h
 unfold mu at hes
 have h1 : mP (A R B) (l.map (List.map g)) none = some (l.length - 1, es.map g) := by
  simp [mP, hes]
 simp only [e7, hB, hnew, h1]
 rfl
theorem oR {r : Nat} {n : Int} {q : IntKind} (hes : cA l n = some es) (hr : assoc R r = some (.d (.int q n))) (hB : assoc B id = some (.nest ver e e2 (l.map (List.map g)) none)) (hnew : assoc B new = none)
  (h : bg P nb (A R ((new, .arr 0 e2 (es.map g)) :: (id, .nest ver e e2 (l.map (List.map g)) (some (n.toNat, .ref new 0))) :: B)) gs = some s') : bg P nb (A R B) (.qV id (some r) new :: gs) = some s' := by
 refine gC ?_ h
 obtain ⟨h0, h1, h2⟩ := pE hes
 have h3 : mP (A R B) (l.map (List.map g)) (some r) = some (n.toNat, es.map g) := by
  simp [mP, hr, h0, h2]
 simp only [e7, hB, hnew, h3]
 rfl
theorem fQ (hB : assoc B id = some (.nest ver e e2 (l.map (List.map g)) (some (i, .ref k kv)))) (hk : assoc B k = some (.arr kv e2 (es.map g))) (hne : k ≠ id)
  (h : bg P nb (A R ((k, .dead) :: (id, .nest ver e e2 ((l.set i es).map (List.map g)) none) :: B)) gs = some s') : bg P nb (A R B) (.lA id :: gs) = some s' := by
 refine gC ?_ h
 simp only [e7, hB, hk, hne, ne_eq, not_false_eq_true, and_self, if_true, List.map_set]
 rfl
theorem qu {r : Nat} (hp : assoc R r = some (.ref id ver)) (hB : assoc B id = some (.nest ver e e2 (l.map (List.map g)) none))
  (h : bg P nb (A ((r, .d (.lst (l.map fun x => .lst (x.map g)))) :: R) ((id, .dead) :: B)) gs = some s') : bg P nb (A R B) (.frzn (.reg r) :: gs) = some s' := by
 refine gC ?_ h
 simp only [e7, iD, hp, hB, if_true, jb, List.map_map, Function.comp_def]
 rfl
theorem vW {κ β : Type} {gk : κ → PD} {gv : β → PD} {li : List (κ × List β)} {kt vt : TypeId} (hB : assoc B id = some (.mapn kt vt e2 (li.map fun e => (gk e.1, e.2.map gv)) none))
  (h : bg P nb (A R ((id, .map kt vt (li.map fun e => (gk e.1, .lst (e.2.map gv)))) :: B)) gs = some s') : bg P nb (A R B) (.frzm id :: gs) = some s' := by
 refine gC ?_ h
 simp only [e7, hB, od, List.map_map, Function.comp_def]
 rfl
end

section
variable {P : Program} {H : Hints} {ext : FuncId → Option dW} {mt : Hf} {ops : Array Oper} {l : List Oper} {R : List (Nat × RV)} {B : List (Nat × Box)} {K : List (Nat × RV) → List (Nat × Box) → List Tr → Prop} {o : Oper} {d : Nat}

theorem WO.oY {α : Type} {g : α → PD} {li : List (List α)} {t e e2 e' : TypeId} {x : Operand} {c : Call} {id ver : Nat} {hh : Option (Nat × RV)} (hw : cQ ops (A R B) o = some true) (hd : o.dst = some d) (ho : o.op = .call c)
  (hc : c.callee = .builtin .len) (ha : c.args.toList = [x]) (hat : c.argTypes = #[t]) (hx : (A R B).opd x = some (.ref id ver)) (hb : assoc B id = some (.nest ver e e2 (li.map (List.map g)) hh)) (ht : P.underlying t = some (.slice e'))
  (h : WO P H ext mt ops l ((d, .d (.int .i64 (li.length : Int))) :: R) B fun R' B' ts => K R' B' (⟨[id], []⟩ :: ts)) : WO P H ext mt ops (o :: l) R B K := by
 refine WO.step (u := []) (rd := [id]) (c := true) hw hd (fun n => ?_) rfl h
 have ho2 : gX (A R B) c.args.toList = some [.ref id ver] := by simp only [ha, gX, hx]
 simp only [dL, ho, hc, ho2, hat]
 show pN P t _ _ = _
 simp [pN, ht, M.bind, M.get, hb, fi, M.pure]
theorem WO.nS {α : Type} {g : α → PD} {li : List (List α)} {t e e2 : TypeId} {x i : Operand} {k : IntKind} {n : Int} {id ver sz : Nat} {hh : Option (Nat × RV)} {y : Unit} (hg : inO li n = some y) (hw : cQ ops (A R B) o = some true) (hd : o.dst = some d) (ho : o.op = .indexAddr t x i)
  (hx : (A R B).opd x = some (.ref id ver)) (hi : (A R B).opd i = some (.d (.int k n))) (hb : assoc B id = some (.nest ver e e2 (li.map (List.map g)) hh)) (ht : P.underlying t = some (.slice e)) (hz : szT P e = some sz)
  (h : WO P H ext mt ops l ((d, .elt id ver n.toNat 0) :: R) B fun R' B' ts => K R' B' (⟨[id], []⟩ :: ts)) : WO P H ext mt ops (o :: l) R B K := by
 have hn : 0 ≤ n ∧ n < li.length := by unfold inO at hg; split at hg <;> first | assumption | cases hg
 refine WO.step (u := []) (rd := [id]) (c := decide (0 ≤ n ∧ n < (li.map (List.map g)).length)) hw hd (fun m => ?_) (by simpa using hn) h
 simp only [dL, ho, hx, hi, fc, ht, hz, M.bind, M.get, hb, and_self, if_true, dU, M.cS]
 simp
theorem WO.qF {t e e2 : TypeId} {a : Operand} {n : Int} {id ver j k : Nat} {ess : List (List PD)} {rv : RV} {y : Unit} (hg : atO n j = some y) (hw : cQ ops (A R B) o = some true) (hd : o.dst = some d) (ho : o.op = .load t a)
  (ha : (A R B).opd a = some (.elt id ver n.toNat 0)) (hb : assoc B id = some (.nest ver e e2 ess (some (j, rv)))) (hk : jS P t = some (false, k))
  (h : WO P H ext mt ops l ((d, rv) :: R) B fun R' B' ts => K R' B' (⟨[id], []⟩ :: ts)) : WO P H ext mt ops (o :: l) R B K := by
 have hj := atO_some hg
 refine WO.step (u := []) (rd := [id]) (c := true) hw hd (fun m => ?_) rfl h
 simp only [dL, ho, ha, mQ, M.bind, M.get, hb, hj, and_self, if_true, hk, fi, M.pure]
 rfl
theorem WO.oA {α : Type} {g : α → PD} {li : List (List α)} {t e e2 : TypeId} {a x : Operand} {n : Int} {id ver j q kv : Nat} {rv : RV} {y : Unit} (hg : stO li.length n j = some y) (hw : cQ ops (A R B) o = some true) (hd : o.dst = none) (ho : o.op = .store t a x)
  (ha : (A R B).opd a = some (.elt id ver n.toNat 0)) (hx : (A R B).opd x = some (.ref q kv)) (hb : assoc B id = some (.nest ver e e2 (li.map (List.map g)) (some (j, rv)))) (hz : szT P t = some 1)
  (h : WO P H ext mt ops l R ((id, .nest ver e e2 (li.map (List.map g)) (some (j, .ref q kv))) :: B) fun R' B' ts => K R' B' (⟨[id], [id]⟩ :: ts)) : WO P H ext mt ops (o :: l) R B K := by
 obtain ⟨hj, hl⟩ := stO_some hg
 refine WO.qT (v := .undef) (u := [(id, .nest ver e e2 (li.map (List.map g)) (some (j, .ref q kv)))]) (rd := [id]) (c := (RV.ref q kv).one && decide (j < (li.map (List.map g)).length) && decide (j = j)) hw hd (fun m => ?_) ?_ h
 ·simp only [dL, ho, ha, hx, k6, hz, M.bind, M.get, hb, hj, and_self, if_true, M.cS]
  rfl
 ·simp [RV.one, hl]
theorem WO.appNN {α : Type} {g : α → PD} {li r : List (List α)} {t e e2 : TypeId} {x y : Operand} {c : Call} {id ver by_ : Nat} {z : Value} (hg : dJ li [[]] (by_ + 1) = some r) (hw : cQ ops (A R B) o = some true) (hd : o.dst = some d) (ho : o.op = .call c)
  (hc : c.callee = .builtin .append) (ha : c.args.toList = [x, y]) (hat : c.argTypes = #[t, t]) (hx : (A R B).opd x = some (.ref id ver)) (hy : (A R B).opd y = some (.d (.lst [qY])))
  (hb : assoc B id = some (.nest ver e e2 (li.map (List.map g)) none)) (ht : fO P t = some e) (hz : szT P e = some 1) (hby : ix P e = some (by_ + 1)) (hzz : fo P e = some z) (hzs : z.cells.size = 1)
  (h : WO P H ext mt ops l ((d, .ref id (ver + 1)) :: R) ((id, .nest (ver + 1) e e2 (r.map (List.map g)) none) :: B) fun R' B' ts => K R' B' (⟨[id], [id]⟩ :: ts)) : WO P H ext mt ops (o :: l) R B K := by
 obtain ⟨h1, rfl⟩ := pA hg
 rw [List.map_append] at h
 refine WO.step (u := [(id, .nest (ver + 1) e e2 (li.map (List.map g) ++ [[]]) none)]) (rd := [id]) (c := decide (((li.map (List.map g)).length + 1) * (by_ + 1) ≤ 140737488355328)) hw hd (fun n => ?_) ?_ h
 ·have ho2 : gX (A R B) c.args.toList = some [.ref id ver, .d (.lst [qY])] := by simp only [ha, gX, hx, hy]
  simp only [dL, ho, hc, ho2, hat]
  have hif : ∀ (m m' : M (RV × Ups)), (if (#[t, t] : Array TypeId).size = 2 then m else m') = m := fun _ _ => if_pos rfl
  rw [hif, if_pos (show (#[t, t] : Array TypeId).getD 0 0 = (#[t, t] : Array TypeId).getD 1 0 from rfl)]
  show fR P _ t t _ _ _ = _
  have hn : [qY].all sy = true := rfl
  simp only [fR, ht, hz, hby, hzz, hzs, and_self, if_true, M.bind, eW, M.pure, M.get, hb, M.cS, hn]
  simp [List.replicate]
 ·simpa using h1
theorem WO.mapE {κ β : Type} {gk : κ → PD} {gv : β → PD} {eq : κ → κ → Bool} {k : κ} {li : List (κ × List β)} {t kt vt e2 : TypeId} {x xk : Operand} {id : Nat} (hK : rL P kt gk eq) (hz : isZ0 (fo P vt) = true) (hw : cQ ops (A R B) o = some true) (hd : o.dst = some d) (ho : o.op = .mapEntry t x xk)
  (hx : (A R B).opd x = some (.ptr id 0)) (hk : (A R B).opd xk = some (.d (gk k))) (hb : assoc B id = some (.mapn kt vt e2 (li.map fun e => (gk e.1, e.2.map gv)) none)) (hv : assoc B (d * 16) = none) (hne : decide (d * 16 ≠ id) = true) (ht : P.underlying t = some (.map kt vt))
  (h : WO P H ext mt ops l ((d, .tup [.ref (d * 16) 0, .d (.int .i64 (kB eq k li : Nat))]) :: R) ((d * 16, .arr 0 e2 ((gl eq k [] li).map gv)) :: (id, .mapn kt vt e2 ((mU eq k [] li).map fun e => (gk e.1, e.2.map gv)) (some (kB eq k li))) :: B) fun R' B' ts => K R' B' (⟨[id, d * 16], [id, d * 16]⟩ :: ts)) :
  WO P H ext mt ops (o :: l) R B K := by
 have hne := of_decide_eq_true hne
 have hl : od (li.map fun e => (gk e.1, e.2.map gv)) = li.map fun e => (gk e.1, PD.lst (e.2.map gv)) := by simp [od, Function.comp_def]
 rcases (uP (gv := gv) hK k li 0).1 with ⟨h1, h2, h3, h4⟩ | ⟨y, h1, h2, h3⟩
 ·refine WO.step (u := [(id, .mapn kt vt e2 ((mU eq k [] li).map fun e => (gk e.1, e.2.map gv)) (some (kB eq k li))), (d * 16, .arr 0 e2 ((gl eq k [] li).map gv))]) (rd := [id, d * 16]) (c := true) hw hd (fun n => ?_) rfl h
  simp only [dL, ho, hx, hk, hd, Option.getD_some, gG, ht, M.bind, M.get, hb, true_and, hK.kind, hne, ne_eq, not_false_eq_true, if_true, M.dC, hv, hl, h1, hz, M.pure, h2, h3, h4]
  simp
 ·refine WO.step (u := [(id, .mapn kt vt e2 ((mU eq k [] li).map fun e => (gk e.1, e.2.map gv)) (some (kB eq k li))), (d * 16, .arr 0 e2 ((gl eq k [] li).map gv))]) (rd := [id, d * 16]) (c := jo (gk k) (gk y)) hw hd (fun n => ?_) (hK.same _ _ h1) h
  simp only [dL, ho, hx, hk, hd, Option.getD_some, gG, ht, M.bind, M.get, hb, true_and, hK.kind, hne, ne_eq, not_false_eq_true, if_true, M.dC, hv, hl, h2, M.cS, h3, Nat.zero_add]
  simp
theorem WO.entS {κ β : Type} {gk : κ → PD} {gv : β → PD} {eq : κ → κ → Bool} {k : κ} {li : List (κ × List β)} {row : List β} {t kt vt e2 : TypeId} {x xn xv : Operand} {id q kv : Nat} (hK : rL P kt gk eq) (hw : cQ ops (A R B) o = some true) (hd : o.dst = none) (ho : o.op = .entryStore t x xn xv)
  (hx : (A R B).opd x = some (.ptr id 0)) (hn : (A R B).opd xn = some (.d (.int .i64 (kB eq k li : Nat)))) (hv : (A R B).opd xv = some (.ref q kv)) (hb : assoc B id = some (.mapn kt vt e2 ((mU eq k [] li).map fun e => (gk e.1, e.2.map gv)) (some (kB eq k li)))) (hq : assoc B q = some (.arr kv e2 (row.map gv))) (hne : decide (q ≠ id) = true)
  (h : WO P H ext mt ops l R ((id, .mapn kt vt e2 ((mD eq k row li).map fun e => (gk e.1, e.2.map gv)) none) :: (q, .dead) :: B) fun R' B' ts => K R' B' (⟨[id, q], [q, id]⟩ :: ts)) : WO P H ext mt ops (o :: l) R B K := by
 have hne := of_decide_eq_true hne
 obtain ⟨k', r, h2, h3, h4⟩ := (uP (gv := gv) hK k li 0).2
 refine WO.qT (v := .undef) (u := [(q, .dead), (id, .mapn kt vt e2 ((mD eq k row li).map fun e : κ × List β => (gk e.1, e.2.map gv)) none)]) (rd := [id, q]) (c := true) hw hd (fun n => ?_) rfl h
 have h5 : ((mU eq k [] li).map fun e : κ × List β => (gk e.1, e.2.map gv))[kB eq k li]? = some (gk k', r.map gv) := by simp [h2]
 simp only [dL, ho, hx, hn, hv, fP, M.bind, M.get, hb, hq, hne, ne_eq, not_false_eq_true, and_self, if_true, h5, M.pure, h4]
 simp
end
end Go.Dw
