
import Derived.Test.YtjecbkklfphblaaGreatDwWp

namespace Go.Dw

abbrev EvP (P : Program) (H : Hints) (ext : FuncId → Option CallD) (f : FuncId) (args : List RV) (bs : List Box) (p : RV × List Box) : Prop := Ev P H ext f args bs p.1 p.2

def getO {α : Type} (l : List α) (n : Int) : Option α := if 0 ≤ n then l[n.toNat]? else none
def byteO (s : List UInt8) (n : Int) : Option Int := if 0 ≤ n ∧ n < s.length then some ((s.getD n.toNat 0).toNat : Nat) else none
def cutO {α : Type} (l : List α) (lo hi : Int) : Option (List α) := if 0 ≤ lo ∧ lo ≤ hi ∧ hi ≤ l.length then some ((l.drop lo.toNat).take (hi.toNat - lo.toNat)) else none
def appO {α : Type} (l m : List α) (bytes : Nat) : Option (List α) := if (l.length + m.length) * bytes ≤ 140737488355328 then some (l ++ m) else none
def catO (a b : List UInt8) : Option (List UInt8) := if ((a.length + b.length : Nat) : Int) ≤ 9223372036854775807 then some (a ++ b) else none
def shlO (k : IntKind) (x y : Int) : Option Int := if y < 0 then none else some (shlI k x y)
def shrO (k : IntKind) (x y : Int) : Option Int := if y < 0 then none else some (shrI k x y)
def quoO (k : IntKind) (x y : Int) : Option Int := if y = 0 then none else some (k.wrap (x.tdiv y))
def remO (x y : Int) : Option Int := if y = 0 then none else some (x.tmod y)
def setO {α : Type} (l : List α) (n : Int) (y : α) : Option (List α) := if 0 ≤ n ∧ n < l.length then some (l.set n.toNat y) else none
def inO {α : Type} (l : List α) (n : Int) : Option Unit := if 0 ≤ n ∧ n < l.length then some () else none

theorem getO_some {α : Type} {l : List α} {n : Int} {x : α} (h : getO l n = some x) : 0 ≤ n ∧ n < l.length ∧ l[n.toNat]? = some x := by
 unfold getO at h
 split at h
 ·rename_i h0
  have := (List.getElem?_eq_some_iff.1 h).1
  exact ⟨h0, by omega, h⟩
 ·cases h
theorem byteO_some {s : List UInt8} {n c : Int} (h : byteO s n = some c) : (0 ≤ n ∧ n < s.length) ∧ c = ((s.getD n.toNat 0).toNat : Nat) := by
 unfold byteO at h; split at h
 ·cases h; exact ⟨by assumption, rfl⟩
 ·cases h
theorem cutO_some {α : Type} {l r : List α} {lo hi : Int} (h : cutO l lo hi = some r) : (0 ≤ lo ∧ lo ≤ hi ∧ hi ≤ l.length) ∧ r = (l.drop lo.toNat).take (hi.toNat - lo.toNat) := by
 unfold cutO at h; split at h
 ·cases h; exact ⟨by assumption, rfl⟩
 ·cases h
theorem appO_some {α : Type} {l m r : List α} {b : Nat} (h : appO l m b = some r) : (l.length + m.length) * b ≤ 140737488355328 ∧ r = l ++ m := by
 unfold appO at h; split at h
 ·cases h; exact ⟨by assumption, rfl⟩
 ·cases h
theorem catO_some {a b r : List UInt8} (h : catO a b = some r) : ((a.length + b.length : Nat) : Int) ≤ 9223372036854775807 ∧ r = a ++ b := by
 unfold catO at h; split at h
 ·cases h; exact ⟨by assumption, rfl⟩
 ·cases h
theorem setO_some {α : Type} {l r : List α} {n : Int} {y : α} (h : setO l n y = some r) : (0 ≤ n ∧ n < l.length) ∧ r = l.set n.toNat y := by
 unfold setO at h; split at h
 ·cases h; exact ⟨by assumption, rfl⟩
 ·cases h

theorem bind_elim {α β : Type} {m : Option α} {k : α → Option β} {r : β} (h : m.bind k = some r) {G : Prop} (hk : ∀ x, m = some x → k x = some r → G) : G := by
 cases m with
 | none => cases h
 | some x => exact hk x rfl h
theorem ite_elim {β : Type} {t : Bool} {a b : Option β} {r : β} (h : (if t = true then a else b) = some r) {G : Prop} (h1 : t = true → a = some r → G) (h2 : t = false → b = some r → G) : G := by
 cases t with
 | true => exact h1 rfl h
 | false => exact h2 rfl h

theorem lenMap {α : Type} (g : α → PD) (l : List α) : RV.d (.int .i64 ((l.map g).length : Nat)) = RV.d (.int .i64 (l.length : Nat)) := by rw [List.length_map]

inductive Step1 (σ ω : Type) where
 | next (s : σ)
 | stop (o : ω)
def loopN {σ ω : Type} (body : σ → Option (Step1 σ ω)) : Nat → σ → Option ω
 | 0, _ => none
 | n + 1, s =>
  match body s with
  | some (.next s') => loopN body n s'
  | some (.stop o) => some o
  | none => none
theorem loopN_mono {σ ω : Type} {body : σ → Option (Step1 σ ω)} : ∀ {n m : Nat} {s : σ} {o : ω}, loopN body n s = some o → n ≤ m → loopN body m s = some o
 | 0, _, _, _, h, _ => by cases h
 | n + 1, 0, _, _, _, hm => by omega
 | n + 1, m + 1, s, o, h, hm => by
  simp only [loopN] at h ⊢
  rcases hb : body s with _ | (s' | o')
  ·simp [hb] at h
  ·simp only [hb] at h ⊢; exact loopN_mono h (by omega)
  ·simp only [hb] at h ⊢; exact h
open Classical in
noncomputable def loopO {σ ω : Type} (body : σ → Option (Step1 σ ω)) (s : σ) : Option ω := if h : ∃ n o, loopN body n s = some o then some h.choose_spec.choose else none
theorem loopO_of {σ ω : Type} {body : σ → Option (Step1 σ ω)} {n : Nat} {s : σ} {o : ω} (h : loopN body n s = some o) : loopO body s = some o := by
 have he : ∃ n o, loopN body n s = some o := ⟨n, o, h⟩
 unfold loopO
 rw [dif_pos he]
 have h2 := he.choose_spec.choose_spec
 have h3 := loopN_mono h (Nat.le_max_left n he.choose)
 have h4 := loopN_mono h2 (Nat.le_max_right n he.choose)
 rw [h3] at h4
 exact h4.symm
theorem loopO_some {σ ω : Type} {body : σ → Option (Step1 σ ω)} {s : σ} {o : ω} (h : loopO body s = some o) : ∃ n, loopN body n s = some o := by
 unfold loopO at h
 split at h
 ·rename_i he
  cases h
  exact ⟨_, he.choose_spec.choose_spec⟩
 ·cases h
theorem loopO_next {σ ω : Type} {body : σ → Option (Step1 σ ω)} {s s' : σ} (h : body s = some (.next s')) : loopO body s = loopO body s' := by
 cases h1 : loopO body s' with
 | some o =>
  obtain ⟨n, hn⟩ := loopO_some h1
  exact loopO_of (n := n + 1) (by simp only [loopN, h]; exact hn)
 | none =>
  cases h2 : loopO body s with
  | none => rfl
  | some o =>
   obtain ⟨n, hn⟩ := loopO_some h2
   cases n with
   | zero => cases hn
   | succ n =>
    simp only [loopN, h] at hn
    rw [loopO_of hn] at h1
    cases h1
theorem loopO_stop {σ ω : Type} {body : σ → Option (Step1 σ ω)} {s : σ} {o : ω} (h : body s = some (.stop o)) : loopO body s = some o :=
 loopO_of (n := 1) (by simp only [loopN, h])

open Classical in
section
variable {P : Program} {H : Hints} {ext : FuncId → Option CallD} {f : FuncId} {nb : Nat} {R : List (Nat × RV)} {B : List (Nat × Box)} {Q : Ex → List (Nat × RV) → List (Nat × Box) → Prop}

theorem WL.ofLoop {σ ω : Type} {body : σ → Option (Step1 σ ω)} {b : Code} {s0 : σ} {o : ω} (h : loopO body s0 = some o) (I : σ → List (Nat × RV) → List (Nat × Box) → Prop) (Qo : ω → Ex → List (Nat × RV) → List (Nat × Box) → Prop) (h0 : I s0 R B)
  (hstep : ∀ s R B x, I s R B → body s = some x → WC P H ext f nb b R B fun e R' B' => match x with | .next s' => e = .normal ∧ I s' R' B' | .stop o' => e ≠ .normal ∧ Qo o' e R' B')
  (hQ : ∀ e R' B', e ≠ .normal → Qo o e R' B' → Q e R' B') : WL P H ext f nb b R B Q := by
 obtain ⟨n, hn⟩ := loopO_some h
 clear h
 induction n generalizing s0 R B with
 | zero => cases hn
 | succ n ih =>
  simp only [loopN] at hn
  rcases hb : body s0 with _ | (s' | o')
  ·simp [hb] at hn
  ·simp only [hb] at hn
   obtain ⟨e, R', B', hN, he, hI⟩ := hstep s0 R B _ h0 hb
   subst he
   exact WL.round ⟨.normal, R', B', hN, ih hI hn⟩
  ·simp only [hb, Option.some.injEq] at hn
   subst hn
   obtain ⟨e, R', B', hN, he, hq⟩ := hstep s0 R B _ h0 hb
   refine WL.round ⟨e, R', B', hN, ?_⟩
   have := hQ e R' B' he hq
   cases e with
   | normal => exact (he rfl).elim
   | exit id => exact this
   | ret => exact this

theorem WC.join {α : Type} {a b : Code} (I : α → List (Nat × RV) → List (Nat × Box) → Prop) (G : α → Prop) (h1 : WC P H ext f nb a R B fun e R' B' => match e with | .normal => ∃ x, I x R' B' ∧ G x | e => Q e R' B')
  (h2 : ∀ x R' B', I x R' B' → G x → WC P H ext f nb b R' B' Q) : WC P H ext f nb (.seq a b) R B Q := by
 refine WC.seq ?_
 obtain ⟨e, R', B', hN, h⟩ := h1
 refine ⟨e, R', B', hN, ?_⟩
 cases e with
 | normal => obtain ⟨x, hI, hG⟩ := h; exact h2 x R' B' hI hG
 | exit id => exact h
 | ret => exact h
end

section
variable {P : Program} {H : Hints} {ext : FuncId → Option CallD} {mt : Hf} {ops : Array Oper} {l : List Oper} {R : List (Nat × RV)} {B : List (Nat × Box)} {K : List (Nat × RV) → List (Nat × Box) → List Tr → Prop} {o : Oper} {d : Nat}

theorem WO.s0 {v v' : RV} {rd : List Nat} (hw : wantD ops (A R B) o = some true) (hd : o.dst = some d) (he : ∀ n, evOp P mt (evFun P H ext n) (A R B) o (assoc B) = some ((v, []), rd, true)) (hv : v = v')
  (h : WO P H ext mt ops l ((d, v') :: R) B fun R' B' ts => K R' B' (⟨rd, []⟩ :: ts)) : WO P H ext mt ops (o :: l) R B K := by
 subst hv
 exact WO.step (u := []) hw hd he rfl h
theorem WO.s1 {v : RV} {id : Nat} {bx : Box} {rd : List Nat} (hw : wantD ops (A R B) o = some true) (hd : o.dst = some d) (he : ∀ n, evOp P mt (evFun P H ext n) (A R B) o (assoc B) = some ((v, [(id, bx)]), rd, true))
  (h : WO P H ext mt ops l ((d, v) :: R) ((id, bx) :: B) fun R' B' ts => K R' B' (⟨rd, [id]⟩ :: ts)) : WO P H ext mt ops (o :: l) R B K :=
 WO.step (u := [(id, bx)]) hw hd he rfl h
theorem WO.n1 {v : RV} {id : Nat} {bx : Box} {rd : List Nat} (hw : wantD ops (A R B) o = some true) (hd : o.dst = none) (he : ∀ n, evOp P mt (evFun P H ext n) (A R B) o (assoc B) = some ((v, [(id, bx)]), rd, true))
  (h : WO P H ext mt ops l R ((id, bx) :: B) fun R' B' ts => K R' B' (⟨rd, [id]⟩ :: ts)) : WO P H ext mt ops (o :: l) R B K :=
 WO.stepN (u := [(id, bx)]) hw hd he rfl h
theorem WO.bin {op : BinOp} {t t' : TypeId} {x y : Operand} {vx vy : RV} {p : PD} (he : binT P op t vx vy = some (p, true)) (hw : wantD ops (A R B) o = some true) (hd : o.dst = some d) (ho : o.op = .binOp op t x y t') (hx : (A R B).opd x = some vx) (hy : (A R B).opd y = some vy)
  (h : WO P H ext mt ops l ((d, .d p) :: R) B fun R' B' ts => K R' B' (⟨[], []⟩ :: ts)) : WO P H ext mt ops (o :: l) R B K := by
 refine WO.s0 (rd := []) hw hd (fun n => ?_) rfl h
 simp only [evOp, ho, hx, hy, binX, he]
 rfl
theorem WO.split {b : Bool} {rd : List Nat} (hw : wantD ops (A R B) o = some true) (hd : o.dst = some d) (he : ∀ n, evOp P mt (evFun P H ext n) (A R B) o (assoc B) = some ((.d (.bool b), []), rd, true))
  (h : WO P H ext mt ops l ((d, .d (.bool b)) :: R) B fun R' B' ts => K R' B' (⟨rd, []⟩ :: ts)) : WO P H ext mt ops (o :: l) R B K :=
 WO.step (u := []) hw hd he rfl h

theorem WO.elemG {α : Type} {g : α → PD} {li : List α} {t e : TypeId} {x i : Operand} {k : IntKind} {n : Int} {sz : Nat} {y : α} {cs : List PD} (hg : getO li n = some y) (hw : wantD ops (A R B) o = some true) (hd : o.dst = some d) (ho : o.op = .indexAddr t x i) (hx : (A R B).opd x = some (.d (.lst (li.map g)))) (hi : (A R B).opd i = some (.d (.int k n)))
  (ht : P.underlying t = some (.slice e)) (hz : szT P e = some sz) (hc : (g y).cells = cs) (hcl : cs.length = sz)
  (h : WO P H ext mt ops l ((d, .cptr cs) :: R) B fun R' B' ts => K R' B' (⟨[], []⟩ :: ts)) : WO P H ext mt ops (o :: l) R B K := by
 subst hc
 obtain ⟨h0, h1, h2⟩ := getO_some hg
 have hgd : (li.map g).getD n.toNat default = g y := by simp [h2]
 have hn' : 0 ≤ n ∧ n < (li.map g).length := by simpa using ⟨h0, h1⟩
 refine WO.step (u := []) (rd := []) (c := true) hw hd (fun m => ?_) rfl h
 simp only [evOp, ho, hx, hi, indexAddrD, ht, hz, hgd, hn', hcl, and_self, decide_true, beq_self_eq_true, Bool.and_true]
 rfl
theorem WO.byteG {t : TypeId} {x i : Operand} {s : List UInt8} {k : IntKind} {n c : Int} (hg : byteO s n = some c) (hw : wantD ops (A R B) o = some true) (hd : o.dst = some d) (ho : o.op = .index t x i) (hx : (A R B).opd x = some (.d (.str s))) (hi : (A R B).opd i = some (.d (.int k n))) (ht : P.underlying t = some .string)
  (h : WO P H ext mt ops l ((d, .d (.int .u8 c)) :: R) B fun R' B' ts => K R' B' (⟨[], []⟩ :: ts)) : WO P H ext mt ops (o :: l) R B K := by
 obtain ⟨h1, rfl⟩ := byteO_some hg
 refine WO.step (u := []) (rd := []) (c := decide (0 ≤ n ∧ n < s.length)) hw hd (fun m => ?_) (by simpa using h1) h
 simp only [evOp, ho, hx, hi, indexD, indexS, ht]
 rfl
theorem WO.cutG {t : TypeId} {x : Operand} {lo hi : Option Operand} {s r : List UInt8} {rl rh : Option RV} {a b : Int} (hg : cutO s a b = some r) (hmt : mt.lit (o.dst.getD 0) = false) (hw : wantD ops (A R B) o = some true) (hd : o.dst = some d) (ho : o.op = .slice t x lo hi none) (hx : (A R B).opd x = some (.d (.str s))) (ht : P.underlying t = some .string)
  (hl : opdOpt (A R B) lo = some rl) (hh : opdOpt (A R B) hi = some rh) (ha : bnd rl 0 = some a) (hb : bnd rh s.length = some b)
  (h : WO P H ext mt ops l ((d, .d (.str r)) :: R) B fun R' B' ts => K R' B' (⟨[], []⟩ :: ts)) : WO P H ext mt ops (o :: l) R B K := by
 obtain ⟨h1, rfl⟩ := cutO_some hg
 rw [← cut_drop_take s rh a b hb h1] at h
 refine WO.step (u := []) (rd := []) (c := decide (0 ≤ a ∧ a ≤ b ∧ b ≤ s.length)) hw hd (fun m => ?_) (by simpa using h1) h
 have h0 : opdOpt (A R B) none = some none := rfl
 simp only [evOp, ho, hx, hl, hh, h0, hmt, Bool.false_eq_true, if_false, sliceD, ht, ha, hb]
 rfl
theorem WO.cutL {α : Type} {g : α → PD} {t e : TypeId} {x : Operand} {lo hi : Option Operand} {li r : List α} {rl rh : Option RV} {a b : Int} {sz : Nat} (hg : cutO li a b = some r) (hsz : ∀ x, (g x).cells.length = sz) (hmt : mt.lit (o.dst.getD 0) = false) (hw : wantD ops (A R B) o = some true) (hd : o.dst = some d) (ho : o.op = .slice t x lo hi none) (hx : (A R B).opd x = some (.d (.lst (li.map g)))) (ht : P.underlying t = some (.slice e)) (hz : szT P e = some sz)
  (hl : opdOpt (A R B) lo = some rl) (hh : opdOpt (A R B) hi = some rh) (ha : bnd rl 0 = some a) (hb : bnd rh li.length = some b)
  (h : WO P H ext mt ops l ((d, .d (.lst (r.map g))) :: R) B fun R' B' ts => K R' B' (⟨[], []⟩ :: ts)) : WO P H ext mt ops (o :: l) R B K := by
 obtain ⟨h1, rfl⟩ := cutO_some hg
 have hb' : bnd rh ((li.map g).length : Nat) = some b := by simpa using hb
 have he : (((li.drop a.toNat).take (b.toNat - a.toNat)).map g) = cut (li.map g) a.toNat (hiOf rh b) := by
  rw [cut_drop_take (li.map g) rh a b hb' (by simpa using h1)]; simp
 rw [he] at h
 refine WO.step (u := []) (rd := []) (c := decide (0 ≤ a ∧ a ≤ b ∧ b ≤ (li.map g).length) && (li.map g).all (fun e => e.cells.length == sz)) hw hd (fun m => ?_) ?_ h
 ·have h0 : opdOpt (A R B) none = some none := rfl
  simp only [evOp, ho, hx, hl, hh, h0, hmt, Bool.false_eq_true, if_false, sliceD, ht, ha, hb', hz]
  rfl
 ·simp only [Bool.and_eq_true, decide_eq_true_eq]
  refine ⟨by simpa using h1, ?_⟩
  simp [hsz]
theorem WO.catG {t t' : TypeId} {x y : Operand} {a b r : List UInt8} (hg : catO a b = some r) (hw : wantD ops (A R B) o = some true) (hd : o.dst = some d) (ho : o.op = .binOp .add t x y t') (hx : (A R B).opd x = some (.d (.str a))) (hy : (A R B).opd y = some (.d (.str b)))
  (h : WO P H ext mt ops l ((d, .d (.str r)) :: R) B fun R' B' ts => K R' B' (⟨[], []⟩ :: ts)) : WO P H ext mt ops (o :: l) R B K := by
 obtain ⟨h1, rfl⟩ := catO_some hg
 refine WO.step (u := []) (rd := []) (c := decide (((a.length + b.length : Nat) : Int) ≤ IntKind.i64.max)) hw hd (fun n => ?_) ?_ h
 ·simp only [evOp, ho, hx, hy, binX, binT, binPD, strBin]
  rfl
 ·have : IntKind.i64.max = 9223372036854775807 := by decide
  rw [this]
  exact decide_eq_true h1
theorem WO.quoG {t t' : TypeId} {x y : Operand} {k k' : IntKind} {a b r : Int} (hg : quoO k a b = some r) (hw : wantD ops (A R B) o = some true) (hd : o.dst = some d) (ho : o.op = .binOp .quo t x y t') (hx : (A R B).opd x = some (.d (.int k a))) (hy : (A R B).opd y = some (.d (.int k' b))) (hk : k = k')
  (h : WO P H ext mt ops l ((d, .d (.int k r)) :: R) B fun R' B' ts => K R' B' (⟨[], []⟩ :: ts)) : WO P H ext mt ops (o :: l) R B K := by
 subst hk
 unfold quoO at hg
 split at hg
 ·cases hg
 ·rename_i hb
  cases hg
  refine WO.step (u := []) (rd := []) (c := b != 0) hw hd (fun n => ?_) (by simpa using hb) h
  simp only [evOp, ho, hx, hy, binX, binT, binPD, if_true, intBin]
  rfl
theorem WO.shlG {t t' : TypeId} {x y : Operand} {k k' : IntKind} {a b r : Int} (hg : shlO k a b = some r) (hw : wantD ops (A R B) o = some true) (hd : o.dst = some d) (ho : o.op = .binOp .shl t x y t') (hx : (A R B).opd x = some (.d (.int k a))) (hy : (A R B).opd y = some (.d (.int k' b)))
  (h : WO P H ext mt ops l ((d, .d (.int k r)) :: R) B fun R' B' ts => K R' B' (⟨[], []⟩ :: ts)) : WO P H ext mt ops (o :: l) R B K := by
 unfold shlO at hg
 split at hg
 ·cases hg
 ·rename_i hb
  cases hg
  refine WO.step (u := []) (rd := []) (c := decide (0 ≤ b)) hw hd (fun n => ?_) (by simpa using hb) h
  simp only [evOp, ho, hx, hy, binX, binT, binPD]
  rfl
theorem WO.shrG {t t' : TypeId} {x y : Operand} {k k' : IntKind} {a b r : Int} (hg : shrO k a b = some r) (hw : wantD ops (A R B) o = some true) (hd : o.dst = some d) (ho : o.op = .binOp .shr t x y t') (hx : (A R B).opd x = some (.d (.int k a))) (hy : (A R B).opd y = some (.d (.int k' b)))
  (h : WO P H ext mt ops l ((d, .d (.int k r)) :: R) B fun R' B' ts => K R' B' (⟨[], []⟩ :: ts)) : WO P H ext mt ops (o :: l) R B K := by
 unfold shrO at hg
 split at hg
 ·cases hg
 ·rename_i hb
  cases hg
  refine WO.step (u := []) (rd := []) (c := decide (0 ≤ b)) hw hd (fun n => ?_) (by simpa using hb) h
  simp only [evOp, ho, hx, hy, binX, binT, binPD]
  rfl
theorem WO.remG {t t' : TypeId} {x y : Operand} {k k' : IntKind} {a b r : Int} (hg : remO a b = some r) (hw : wantD ops (A R B) o = some true) (hd : o.dst = some d) (ho : o.op = .binOp .rem t x y t') (hx : (A R B).opd x = some (.d (.int k a))) (hy : (A R B).opd y = some (.d (.int k' b))) (hk : k = k')
  (h : WO P H ext mt ops l ((d, .d (.int k r)) :: R) B fun R' B' ts => K R' B' (⟨[], []⟩ :: ts)) : WO P H ext mt ops (o :: l) R B K := by
 subst hk
 unfold remO at hg
 split at hg
 ·cases hg
 ·rename_i hb
  cases hg
  refine WO.step (u := []) (rd := []) (c := b != 0) hw hd (fun n => ?_) (by simpa using hb) h
  simp only [evOp, ho, hx, hy, binX, binT, binPD, if_true, intBin]
  rfl
theorem WO.appR {α : Type} {g : α → PD} {li m r : List α} {t e : TypeId} {x y : Operand} {c : Call} {id ver sz by_ : Nat} {z : Value} (hg : appO li m (by_ + 1) = some r) (hsz : ∀ x, (g x).cells.length = sz + 1) (hw : wantD ops (A R B) o = some true) (hd : o.dst = some d) (ho : o.op = .call c)
  (hc : c.callee = .builtin .append) (ha : c.args.toList = [x, y]) (hat : c.argTypes = #[t, t]) (hx : (A R B).opd x = some (.ref id ver)) (hy : (A R B).opd y = some (.d (.lst (m.map g))))
  (hb : assoc B id = some (.arr ver e (li.map g))) (ht : elemT P t = some e) (hz : szT P e = some (sz + 1)) (hby : bytesT P e = some (by_ + 1)) (hzz : zeroT P e = some z) (hzs : z.cells.size = sz + 1)
  (h : WO P H ext mt ops l ((d, .ref id (ver + 1)) :: R) ((id, .arr (ver + 1) e (r.map g)) :: B) fun R' B' ts => K R' B' (⟨[id], [id]⟩ :: ts)) : WO P H ext mt ops (o :: l) R B K := by
 obtain ⟨h1, rfl⟩ := appO_some hg
 rw [List.map_append] at h
 refine WO.step (u := [(id, .arr (ver + 1) e (li.map g ++ m.map g))]) (rd := [id]) (c := decide (((li.map g).length + (m.map g).length) * (by_ + 1) ≤ 140737488355328) && (m.map g).all (fun e => e.cells.length == sz + 1)) hw hd (fun n => ?_) ?_ h
 ·have ho2 : opds (A R B) c.args.toList = some [.ref id ver, .d (.lst (m.map g))] := by simp only [ha, opds, hx, hy]
  simp only [evOp, ho, hc, ho2, hat]
  have hif : ∀ (m m' : M (RV × Ups)), (if (#[t, t] : Array TypeId).size = 2 then m else m') = m := fun _ _ => if_pos rfl
  rw [hif, if_pos (show (#[t, t] : Array TypeId).getD 0 0 = (#[t, t] : Array TypeId).getD 1 0 from rfl)]
  show appendD P _ t t _ _ _ = _
  simp only [appendD, ht, hz, hby, hzz, hzs, and_self, if_true, M.bind, appendee, M.pure, M.get, hb, M.need]
  simp
 ·simp only [Bool.and_eq_true, decide_eq_true_eq]
  exact ⟨by simpa using h1, by simp [hsz]⟩
theorem WO.lenR {α : Type} {g : α → PD} {li : List α} {t e : TypeId} {x : Operand} {c : Call} {id ver : Nat} (hw : wantD ops (A R B) o = some true) (hd : o.dst = some d) (ho : o.op = .call c)
  (hc : c.callee = .builtin .len) (ha : c.args.toList = [x]) (hat : c.argTypes = #[t]) (hx : (A R B).opd x = some (.ref id ver)) (hb : assoc B id = some (.arr ver e (li.map g))) (ht : P.underlying t = some (.slice e))
  (h : WO P H ext mt ops l ((d, .d (.int .i64 (li.length : Int))) :: R) B fun R' B' ts => K R' B' (⟨[id], []⟩ :: ts)) : WO P H ext mt ops (o :: l) R B K := by
 refine WO.step (u := []) (rd := [id]) (c := true) hw hd (fun n => ?_) rfl h
 have ho2 : opds (A R B) c.args.toList = some [.ref id ver] := by simp only [ha, opds, hx]
 simp only [evOp, ho, hc, ho2, hat]
 show lenD P t _ _ = _
 simp [lenD, ht, M.bind, M.get, hb, ofRV, M.pure]
theorem WO.eltG {α : Type} {g : α → PD} {li : List α} {t e : TypeId} {x i : Operand} {k : IntKind} {n : Int} {id ver sz : Nat} {y : Unit} (hg : inO li n = some y) (hw : wantD ops (A R B) o = some true) (hd : o.dst = some d) (ho : o.op = .indexAddr t x i) (hx : (A R B).opd x = some (.ref id ver)) (hi : (A R B).opd i = some (.d (.int k n)))
  (hb : assoc B id = some (.arr ver e (li.map g))) (ht : P.underlying t = some (.slice e)) (hz : szT P e = some sz)
  (h : WO P H ext mt ops l ((d, .elt id ver n.toNat 0) :: R) B fun R' B' ts => K R' B' (⟨[id], []⟩ :: ts)) : WO P H ext mt ops (o :: l) R B K := by
 have hn : 0 ≤ n ∧ n < li.length := by unfold inO at hg; split at hg <;> first | assumption | cases hg
 refine WO.step (u := []) (rd := [id]) (c := decide (0 ≤ n ∧ n < (li.map g).length)) hw hd (fun m => ?_) (by simpa using hn) h
 simp only [evOp, ho, hx, hi, indexAddrD, ht, hz, M.bind, M.get, hb, and_self, if_true, needRV, M.need]
 simp
theorem WO.loadE {α : Type} {g : α → PD} {li : List α} {t e : TypeId} {a : Operand} {n : Int} {id ver off : Nat} {y : α} {v : RV} (hg : getO li n = some y) (hw : wantD ops (A R B) o = some true) (hd : o.dst = some d) (ho : o.op = .load t a) (ha : (A R B).opd a = some (.elt id ver n.toNat off))
  (hb : assoc B id = some (.arr ver e (li.map g))) (hv : partPD P t ((g y).cells.drop off) (assoc B) = some ((v, []), [], true))
  (h : WO P H ext mt ops l ((d, v) :: R) B fun R' B' ts => K R' B' (⟨[id], []⟩ :: ts)) : WO P H ext mt ops (o :: l) R B K := by
 obtain ⟨h0, h1, h2⟩ := getO_some hg
 refine WO.step (u := []) (rd := [id]) (c := true) hw hd (fun m => ?_) rfl h
 have h3 : (li.map g)[n.toNat]? = some (g y) := by simp [h2]
 simp only [evOp, ho, ha, loadD, M.bind, M.get, hb, if_true, h3, hv]
 simp
theorem WO.storeE {α : Type} {g : α → PD} {li r : List α} {t e : TypeId} {a x : Operand} {n : Int} {id ver sz : Nat} {y : α} {p : PD} (hg : setO li n y = some r) (hsz : ∀ x, (g x).cells.length = sz) (hpt : ∀ x, (g x).put 0 p.cells = g y) (hw : wantD ops (A R B) o = some true) (hd : o.dst = none) (ho : o.op = .store t a x) (ha : (A R B).opd a = some (.elt id ver n.toNat 0)) (hx : (A R B).opd x = some (.d p))
  (hb : assoc B id = some (.arr ver e (li.map g))) (hz : szT P t = some sz) (hs : (RV.d p).sized = true) (hpc : p.cells.length = sz)
  (h : WO P H ext mt ops l R ((id, .arr ver e (r.map g)) :: B) fun R' B' ts => K R' B' (⟨[id], [id]⟩ :: ts)) : WO P H ext mt ops (o :: l) R B K := by
 obtain ⟨h1, rfl⟩ := setO_some hg
 have hlt : n.toNat < li.length := by omega
 have h3 : (li.map g)[n.toNat]? = some (g li[n.toNat]) := by simp [hlt]
 rw [List.map_set, ← hpt li[n.toNat]] at h
 refine WO.stepN (v := .undef) (u := [(id, .arr ver e ((li.map g).set n.toNat ((g li[n.toNat]).put 0 p.cells)))]) (rd := [id]) (c := (RV.d p).sized && decide (p.cells.length = sz ∧ 0 + sz ≤ (g li[n.toNat]).cells.length)) hw hd (fun m => ?_) ?_ h
 ·have htp : toPD (.d p) = M.pure (p, []) := rfl
  simp only [evOp, ho, ha, hx, storeD, hz, M.bind, M.get, hb, if_true, htp, M.pure, h3, M.need]
  simp [M.need]
 ·simp [hs, hpc, hsz]
end
end Go.Dw
attribute [irreducible] Go.Dw.quoO Go.Dw.remO Go.Dw.shlO Go.Dw.shrO


namespace Go.Dw
def subO (n : Nat) (lo hi : Int) : Option Unit := if 0 ≤ lo ∧ lo ≤ hi ∧ hi ≤ n then some () else none
def viewO (len lo hi : Nat) : Option Unit := if lo ≤ hi ∧ hi ≤ len then some () else none
def partO {α : Type} (li : List α) (lo hi : Nat) : Option (List α) := if lo ≤ hi ∧ hi ≤ li.length then some ((li.drop lo).take (hi - lo)) else none
def clearL {α : Type} (li : List α) (off m : Nat) (z : α) : List α := li.take off ++ List.replicate m z ++ li.drop (off + m)
section
variable {P : Program} {H : Hints} {ext : FuncId → Option CallD} {mt : Hf} {ops : Array Oper} {l : List Oper} {R : List (Nat × RV)} {B : List (Nat × Box)} {K : List (Nat × RV) → List (Nat × Box) → List Tr → Prop} {o : Oper} {d : Nat}

theorem WO.subR {α : Type} {g : α → PD} {li : List α} {t e : TypeId} {x : Operand} {lo hi : Option Operand} {rl rh : Option RV} {a b : Int} {id ver sz : Nat} {y : Unit} (hg : subO li.length a b = some y) (hmt : mt.lit (o.dst.getD 0) = false) (hw : wantD ops (A R B) o = some true) (hd : o.dst = some d) (ho : o.op = .slice t x lo hi none) (hx : (A R B).opd x = some (.ref id ver))
  (hb : assoc B id = some (.arr ver e (li.map g))) (ht : P.underlying t = some (.slice e)) (hz : szT P e = some (sz + 1)) (hl : opdOpt (A R B) lo = some rl) (hh : opdOpt (A R B) hi = some rh) (ha : bnd rl 0 = some a) (hbb : bnd rh (li.length : Int) = some b)
  (h : WO P H ext mt ops l ((d, .view id ver (0 + a.toNat) (0 + b.toNat)) :: R) B fun R' B' ts => K R' B' (⟨[id, id], []⟩ :: ts)) : WO P H ext mt ops (o :: l) R B K := by
 have hc : 0 ≤ a ∧ a ≤ b ∧ b ≤ li.length := by unfold subO at hg; split at hg <;> first | assumption | cases hg
 have e0 : (((li.map g).length : Nat) : Int) - ((0 : Nat) : Int) = (li.length : Int) := by simp
 refine WO.step (u := []) (rd := [id, id]) (c := decide (0 ≤ (li.map g).length ∧ (li.map g).length ≤ (li.map g).length ∧ 0 ≤ a ∧ a ≤ b ∧ b ≤ (((li.map g).length : Nat) : Int) - ((0 : Nat) : Int))) hw hd (fun m => ?_) (by rw [e0]; simpa using hc) h
 have ho3 : opdOpt (A R B) none = some none := rfl
 simp only [evOp, ho, hx, hl, hh, ho3, hmt, Bool.false_eq_true, if_false, sliceD, ht, M.bind, M.get, hb, sliceB, ha, e0, hbb, hz, and_self, if_true, needRV, M.need]
 simp
theorem dst_view {α : Type} {g : α → PD} {li : List α} {e : TypeId} {id ver lo hi : Nat} {y : Unit} (hg : viewO li.length lo hi = some y) (hb : assoc B id = some (.arr ver e (li.map g))) : dstM (.view id ver lo hi) (assoc B) = some ((id, ver, e, li.map g, lo, hi - lo), [id], true) := by
 have hc : lo ≤ hi ∧ hi ≤ li.length := by unfold viewO at hg; split at hg <;> first | assumption | cases hg
 simp [dstM, M.bind, M.get, hb, M.need, hc]
theorem clearD_of {α : Type} {g : α → PD} {li : List α} {z : α} {t e : TypeId} {id ver off m sz : Nat} {vx : RV} {rd1 : List Nat} (hD : dstM vx (assoc B) = some ((id, ver, e, li.map g, off, m), rd1, true))
  (ht : P.underlying t = some (.slice e)) (hz : szT P e = some (sz + 1)) (h0 : (zeroT P e).bind zeroPD = some (g z)) (hsz : (g z).cells.length = sz + 1) :
  clearD P t vx (assoc B) = some ((.tup [], [(id, .arr ver e ((clearL li off m z).map g))]), rd1 ++ [], true) := by
 have he : elemT P t = some e := by simp [elemT, ht]
 simp only [clearD, he, hz, h0, M.bind, hD, M.need, hsz, decide_true, beq_self_eq_true, Bool.and_self, clearL, List.map_append, List.map_take, List.map_drop, List.map_replicate]
theorem WO.clearN {α : Type} {g : α → PD} {li : List α} {z : α} {t e : TypeId} {x : Operand} {c : Call} {id ver off m sz : Nat} {vx : RV} {rd1 : List Nat} (hw : wantD ops (A R B) o = some true) (hd : o.dst = none) (ho : o.op = .call c)
  (hc : c.callee = .builtin .clear) (ha : c.args.toList = [x]) (hat : c.argTypes = #[t]) (hx : (A R B).opd x = some vx)
  (hD : dstM vx (assoc B) = some ((id, ver, e, li.map g, off, m), rd1, true))
  (ht : P.underlying t = some (.slice e)) (hz : szT P e = some (sz + 1)) (h0 : (zeroT P e).bind zeroPD = some (g z)) (hsz : (g z).cells.length = sz + 1)
  (h : WO P H ext mt ops l R ((id, .arr ver e ((clearL li off m z).map g)) :: B) fun R' B' ts => K R' B' (⟨rd1 ++ [], [id]⟩ :: ts)) : WO P H ext mt ops (o :: l) R B K := by
 refine WO.stepN (v := .tup []) (u := [(id, .arr ver e ((clearL li off m z).map g))]) (rd := rd1 ++ []) (c := true) hw hd (fun n => ?_) rfl h
 have ho2 : opds (A R B) c.args.toList = some [vx] := by simp only [ha, opds, hx]
 simp only [evOp, ho, hc, ho2, hat]
 exact clearD_of hD ht hz h0 hsz

end
end Go.Dw
namespace Go.Dw
section
variable {P : Program} {H : Hints} {ext : FuncId → Option CallD} {f : FuncId} {nb : Nat} {R : List (Nat × RV)} {B : List (Nat × Box)} {Q : Ex → List (Nat × RV) → List (Nat × Box) → Prop}
theorem WL.ofLoopEnd {σ ω : Type} {body : σ → Option (Step1 σ ω)} {b : Code} {s0 : σ} {o : ω} (h : loopO body s0 = some o) (I : σ → List (Nat × RV) → List (Nat × Box) → Prop) (h0 : I s0 R B)
  (hstep : ∀ s R B x, I s R B → body s = some x → WC P H ext f nb b R B fun e R' B' => match x with | .next s' => e = .normal ∧ I s' R' B' | .stop o' => e ≠ .normal ∧ (o' = o → Q e R' B')) : WL P H ext f nb b R B Q :=
 WL.ofLoop h I (fun o' e R' B' => o' = o → Q e R' B') h0 hstep (fun _ _ _ _ hq => hq rfl)
end
end Go.Dw


namespace Go.Dw

def modO {α : Type} (l : List α) (n : Int) (f : α → α) : Option (List α) :=
 if 0 ≤ n then (match l[n.toNat]? with | some x => some (l.set n.toNat (f x)) | none => none) else none
theorem modO_some {α : Type} {l r : List α} {n : Int} {f : α → α} (h : modO l n f = some r) : 0 ≤ n ∧ ∃ hn : n.toNat < l.length, r = l.set n.toNat (f l[n.toNat]) := by
 unfold modO at h
 split at h
 ·rename_i h0
  split at h
  ·rename_i x hx
   cases h
   obtain ⟨h1, rfl⟩ := List.getElem?_eq_some_iff.1 hx
   exact ⟨h0, h1, rfl⟩
  ·cases h
 ·cases h
section
variable {P : Program} {H : Hints} {ext : FuncId → Option CallD} {mt : Hf} {ops : Array Oper} {l : List Oper} {R : List (Nat × RV)} {B : List (Nat × Box)} {K : List (Nat × RV) → List (Nat × Box) → List Tr → Prop} {o : Oper}

theorem WO.storeF {α : Type} {g : α → PD} {f : α → α} {li r : List α} {t e : TypeId} {a x : Operand} {n : Int} {id ver off sz : Nat} {v : RV} {p : PD} {u : Ups} {rd : List Nat} (hg : modO li n f = some r) (hpt : ∀ x, (g x).put off p.cells = g (f x))
  (hfit : ∀ x, off + sz ≤ (g x).cells.length) (hw : wantD ops (A R B) o = some true) (hd : o.dst = none) (ho : o.op = .store t a x) (ha : (A R B).opd a = some (.elt id ver n.toNat off)) (hx : (A R B).opd x = some v)
  (hb : assoc B id = some (.arr ver e (li.map g))) (hz : szT P t = some sz) (hs : v.sized = true) (htp : toPD v (assoc B) = some ((p, u), rd, true)) (hne : (u.map (·.1)).contains id = false) (hpc : p.cells.length = sz)
  (h : WO P H ext mt ops l R (upsB (u ++ [(id, Box.arr ver e (r.map g))]) B) fun R' B' ts => K R' B' (⟨[id] ++ rd, (u ++ [(id, Box.arr ver e (r.map g))]).map (·.1)⟩ :: ts)) : WO P H ext mt ops (o :: l) R B K := by
 obtain ⟨h1, hlt, rfl⟩ := modO_some hg
 have h3 : (li.map g)[n.toNat]? = some (g li[n.toNat]) := by simp [hlt]
 rw [List.map_set, ← hpt li[n.toNat]] at h
 refine WO.stepN (v := .undef) (u := u ++ [(id, .arr ver e ((li.map g).set n.toNat ((g li[n.toNat]).put off p.cells)))]) (rd := [id] ++ rd) (c := v.sized && decide (p.cells.length = sz ∧ off + sz ≤ (g li[n.toNat]).cells.length)) hw hd (fun m => ?_) ?_ h
 ·simp only [evOp, ho, ha, hx, storeD, hz, M.bind, M.get, hb, if_true, htp, h3, hne, M.need]
  simp [M.need]
 ·simp [hs, hpc, hfit]
theorem WO.resl {α : Type} {g : α → PD} {li : List α} {t e : TypeId} {x : Operand} {lo hi : Option Operand} {k : IntKind} {b : Int} {id ver sz d : Nat} {y : Unit} (hg : subO li.length 0 b = some y) (hmt : mt.lit (o.dst.getD 0) = true) (hw : wantD ops (A R B) o = some true) (hd : o.dst = some d) (ho : o.op = .slice t x lo hi none)
  (hx : (A R B).opd x = some (.ref id ver)) (hb : assoc B id = some (.arr ver e (li.map g))) (ht : P.underlying t = some (.slice e)) (hz : szT P e = some (sz + 1)) {rl rh : Option RV} (hl : opdOpt (A R B) lo = some rl) (hh : opdOpt (A R B) hi = some rh) (hrl : rl = none) (hrh : rh = some (.d (.int k b)))
  (h : WO P H ext mt ops l ((d, .ref id (ver + 1)) :: R) ((id, .arr (ver + 1) e ((li.take b.toNat).map g)) :: B) fun R' B' ts => K R' B' (⟨[id], [id]⟩ :: ts)) : WO P H ext mt ops (o :: l) R B K := by
 subst hrl hrh
 have hc : 0 ≤ b ∧ b ≤ li.length := by unfold subO at hg; split at hg <;> first | (rename_i h; exact ⟨h.2.1, h.2.2⟩) | cases hg
 rw [List.map_take] at h
 refine WO.step (v := .ref id (ver + 1)) (u := [(id, .arr (ver + 1) e ((li.map g).take b.toNat))]) (rd := [id]) (c := decide (0 ≤ b ∧ b ≤ (li.map g).length)) hw hd (fun m => ?_) (by simpa using hc) h
 have ho3 : opdOpt (A R B) none = some none := rfl
 simp only [evOp, ho, hx, hl, hh, ho3, hmt, if_true, reslD, ht, hz, M.bind, M.get, hb, and_self, M.need]
 simp
end
end Go.Dw


namespace Go.Dw
def mGet {κ β : Type} (eq : κ → κ → Bool) (k : κ) (z : β) : List (κ × β) → β
 | [] => z
 | e :: r => if eq k e.1 = true then e.2 else mGet eq k z r
def mHas {κ β : Type} (eq : κ → κ → Bool) (k : κ) : List (κ × β) → Bool
 | [] => false
 | e :: r => if eq k e.1 = true then true else mHas eq k r
def mPut {κ β : Type} (eq : κ → κ → Bool) (k : κ) (v : β) : List (κ × β) → List (κ × β)
 | [] => [(k, v)]
 | e :: r => if eq k e.1 = true then (k, v) :: r else e :: mPut eq k v r
def cloneO {α : Type} (bytes : Nat) (l : List α) : Option (List α) := if l.length * bytes ≤ 140737488355328 then some l else none
def mkZ {α : Type} (n : Int) (z : α) (bytes : Nat) : Option (List α) := if 0 < n ∧ n.toNat * bytes ≤ 140737488355328 ∧ n.toNat ≤ 140737488355328 then some (List.replicate n.toNat z) else none
def mkO {α : Type} (n : Int) (z : α) (bytes : Nat) : Option (List α) := if 0 ≤ n ∧ n.toNat * bytes ≤ 140737488355328 ∧ n.toNat ≤ 140737488355328 then some (List.replicate n.toNat z) else none
section
variable {P : Program}
theorem mapFind_at {κ β : Type} {gk : κ → PD} {gv : β → PD} {eq : κ → κ → Bool} {kt : TypeId} (hE : ∀ a b, keyEq P kt (gk a) (gk b) = some (eq a b)) (k : κ) (z : β) : ∀ (li : List (κ × β)) (i : Nat),
  (mHas eq k li = false ∧ mGet eq k z li = z ∧ mapFind P kt (gk k) (li.map fun e => (gk e.1, gv e.2)) i = some none ∧ ∀ v, mPut eq k v li = li ++ [(k, v)]) ∨
  ∃ j x, mHas eq k li = true ∧ eq k x = true ∧ mapFind P kt (gk k) (li.map fun e => (gk e.1, gv e.2)) i = some (some (i + j, gk x, gv (mGet eq k z li))) ∧ ∀ v, mPut eq k v li = li.set j (k, v)
 | [], i => .inl ⟨rfl, rfl, rfl, fun _ => rfl⟩
 | (x, v) :: r, i => by
  cases hx : eq k x with
  | true => exact .inr ⟨0, x, by simp [mHas, hx], hx, by simp [mapFind, hE, hx, mGet], fun v' => by simp [mPut, hx]⟩
  | false =>
   rcases mapFind_at hE k z r (i + 1) with ⟨h1, h2, h3, h4⟩ | ⟨j, y, h1, h2, h3, h4⟩
   ·exact .inl ⟨by simp [mHas, hx, h1], by simp [mGet, hx, h2], by simp [mapFind, hE, hx]; exact h3, fun v' => by simp [mPut, hx, h4]⟩
   ·refine .inr ⟨j + 1, y, by simp [mHas, hx, h1], h2, ?_, fun v' => by simp [mPut, hx, h4]⟩
    simp only [List.map_cons, mapFind, hE, hx]
    rw [h3, show i + 1 + j = i + (j + 1) by omega]
    simp [mGet, hx]
end
section
variable {P : Program} {H : Hints} {ext : FuncId → Option CallD} {mt : Hf} {ops : Array Oper} {l : List Oper} {R : List (Nat × RV)} {B : List (Nat × Box)} {K : List (Nat × RV) → List (Nat × Box) → List Tr → Prop} {o : Oper} {d : Nat}
structure KeyT (P : Program) (kt : TypeId) {κ : Type} (gk : κ → PD) (eq : κ → κ → Bool) : Prop where
 feq : ∀ a b, keyEq P kt (gk a) (gk b) = some (eq a b)
 kind : ∀ a, keyKind P kt (gk a) = true
 same : ∀ a b, eq a b = true → pdSame (gk a) (gk b) = true
theorem WO.sU {v : RV} {u : Ups} {rd : List Nat} (hw : wantD ops (A R B) o = some true) (hd : o.dst = some d) (he : ∀ n, evOp P mt (evFun P H ext n) (A R B) o (assoc B) = some ((v, u), rd, true))
  (h : WO P H ext mt ops l ((d, v) :: R) (upsB u B) fun R' B' ts => K R' B' (⟨rd, u.map (·.1)⟩ :: ts)) : WO P H ext mt ops (o :: l) R B K := WO.step hw hd he rfl h
theorem WO.strU {li : List Int} {src dst e : TypeId} {x : Operand} (hw : wantD ops (A R B) o = some true) (hd : o.dst = some d) (ho : o.op = .convert src dst x) (hx : (A R B).opd x = some (.d (.lst (li.map (.int .u8))))) (hs : P.underlying src = some (.slice e)) (ht : P.underlying dst = some .string) (he : P.underlying e = some (.int .u8))
  (h : WO P H ext mt ops l ((d, .d (.str (Dw.strU li))) :: R) B fun R' B' ts => K R' B' (⟨[], []⟩ :: ts)) : WO P H ext mt ops (o :: l) R B K := by
 refine WO.s0 (rd := []) hw hd (fun m => ?_) rfl h
 simp only [evOp, ho, hx, convB, hs, ht, he, u8s_map]
 rfl
def bytO (s : List UInt8) : Option (List Int) := if s.length ≤ 140737488355328 then some (s.map fun b => (b.toNat : Int)) else none
theorem WO.bytR {str : List UInt8} {r : List Int} {src dst e : TypeId} {x : Operand} (hg : bytO str = some r) (hw : wantD ops (A R B) o = some true) (hd : o.dst = some d) (ho : o.op = .convert src dst x) (hx : (A R B).opd x = some (.d (.str str))) (hs : P.underlying src = some .string) (ht : P.underlying dst = some (.slice e)) (he : P.underlying e = some (.int .u8)) (hz : szT P e = some 1)
  (hb : assoc B (d * 16) = none)
  (h : WO P H ext mt ops l ((d, .ref (d * 16) 0) :: R) ((d * 16, .arr 0 e (r.map (.int .u8))) :: B) fun R' B' ts => K R' B' (⟨[d * 16], [d * 16]⟩ :: ts)) : WO P H ext mt ops (o :: l) R B K := by
 unfold bytO at hg
 split at hg
 rotate_left
 ·cases hg
 rename_i hc
 cases hg
 rw [List.map_map] at h
 refine WO.step (u := [(d * 16, .arr 0 e (str.map fun b => .int .u8 b.toNat))]) (rd := [d * 16]) (c := decide (szT P e = some 1 ∧ str.length ≤ 140737488355328)) hw hd (fun m => ?_) ?_ h
 ·simp only [evOp, ho, hx, hd, Option.getD_some, convB, hs, ht, he, M.bind, M.vacant, hb, M.need]
  rfl
 ·exact decide_eq_true ⟨hz, hc⟩
theorem WO.rowS {li : List Int} {src dst e e' : TypeId} {x : Operand} {id ver : Nat} (hw : wantD ops (A R B) o = some true) (hd : o.dst = some d) (ho : o.op = .convert src dst x) (hx : (A R B).opd x = some (.ref id ver)) (hs : P.underlying src = some (.slice e)) (ht : P.underlying dst = some .string) (he : P.underlying e = some (.int .u8))
  (hb : assoc B id = some (.arr ver e' (li.map (.int .u8))))
  (h : WO P H ext mt ops l ((d, .d (.str (Dw.strU li))) :: R) B fun R' B' ts => K R' B' (⟨[id], []⟩ :: ts)) : WO P H ext mt ops (o :: l) R B K := by
 refine WO.s0 (rd := [id]) hw hd (fun m => ?_) rfl h
 simp only [evOp, ho, hx, convB, hs, ht, he, M.bind, M.get, hb, if_true, u8s_map]
 rfl
theorem WO.look {κ β : Type} {gk : κ → PD} {gv : β → PD} {eq : κ → κ → Bool} {k : κ} {z : β} {li : List (κ × β)} {t kt vt : TypeId} {x y : Operand} {id : Nat} (hK : KeyT P kt gk eq) (hz : (zeroT P vt).bind zeroPD = some (gv z)) (hw : wantD ops (A R B) o = some true) (hd : o.dst = some d) (ho : o.op = .lookup t x y false) (hx : (A R B).opd x = some (.ptr id 0)) (hy : (A R B).opd y = some (.d (gk k)))
  (hb : assoc B id = some (.map kt vt (li.map fun e => (gk e.1, gv e.2)))) (ht : P.underlying t = some (.map kt vt))
  (h : WO P H ext mt ops l ((d, .d (gv (mGet eq k z li))) :: R) B fun R' B' ts => K R' B' (⟨[id], []⟩ :: ts)) : WO P H ext mt ops (o :: l) R B K := by
 refine WO.s0 (rd := [id]) hw hd (fun n => ?_) rfl h
 rcases mapFind_at (gv := gv) hK.feq k z li 0 with ⟨-, h2, h3, -⟩ | ⟨j, y', -, -, h3, -⟩
 ·simp only [evOp, ho, hx, hy, lookupD, ht, M.bind, M.get, hb, true_and, hK.kind, if_true, h3, hz, h2, Bool.false_eq_true, if_false]
  rfl
 ·simp only [evOp, ho, hx, hy, lookupD, ht, M.bind, M.get, hb, true_and, hK.kind, if_true, h3, Bool.false_eq_true, if_false]
  rfl
theorem WO.lookS {κ : Type} {gk : κ → PD} {eq : κ → κ → Bool} {k : κ} {z b' : Bool} {li : List (κ × Bool)} {t kt vt : TypeId} {x y : Operand} {id : Nat} (hK : KeyT P kt gk eq) (hb' : mGet eq k z li = b') (hz : (zeroT P vt).bind zeroPD = some (.bool z)) (hw : wantD ops (A R B) o = some true) (hd : o.dst = some d) (ho : o.op = .lookup t x y false) (hx : (A R B).opd x = some (.ptr id 0)) (hy : (A R B).opd y = some (.d (gk k)))
  (hb : assoc B id = some (.map kt vt (li.map fun e => (gk e.1, PD.bool e.2)))) (ht : P.underlying t = some (.map kt vt))
  (h : WO P H ext mt ops l ((d, .d (.bool b')) :: R) B fun R' B' ts => K R' B' (⟨[id], []⟩ :: ts)) : WO P H ext mt ops (o :: l) R B K := by
 subst hb'
 exact WO.look (gv := PD.bool) hK hz hw hd ho hx hy hb ht h
theorem WO.mput {κ β : Type} {gk : κ → PD} {gv : β → PD} {eq : κ → κ → Bool} {k : κ} {y : β} {li : List (κ × β)} {t kt vt : TypeId} {x xk xv : Operand} {id : Nat} {v : RV} {u : Ups} {rd : List Nat} (hK : KeyT P kt gk eq) (hw : wantD ops (A R B) o = some true) (hd : o.dst = none) (ho : o.op = .mapUpdate t x xk xv) (hx : (A R B).opd x = some (.ptr id 0)) (hk : (A R B).opd xk = some (.d (gk k))) (hv : (A R B).opd xv = some v)
  (hb : assoc B id = some (.map kt vt (li.map fun e => (gk e.1, gv e.2)))) (ht : P.underlying t = some (.map kt vt)) (hp : toPD v (assoc B) = some ((gv y, u), rd, true)) (hu : (u.map (·.1)).contains id = false)
  (h : WO P H ext mt ops l R (upsB (u ++ [(id, .map kt vt ((mPut eq k y li).map fun e => (gk e.1, gv e.2)))]) B) fun R' B' ts => K R' B' (⟨id :: rd, (u ++ [(id, Box.map kt vt ((mPut eq k y li).map fun e => (gk e.1, gv e.2)))]).map (·.1)⟩ :: ts)) : WO P H ext mt ops (o :: l) R B K := by
 have hrd : [id] ++ (rd ++ []) = id :: rd := by simp
 rcases mapFind_at (gv := gv) hK.feq k y li 0 with ⟨-, -, h3, h4⟩ | ⟨j, y', -, h2, h3, h4⟩
 ·refine WO.stepN (v := .undef) (rd := id :: rd) (c := true) hw hd (fun n => ?_) rfl h
  simp only [evOp, ho, hx, hk, hv, mapUpdD, ht, M.bind, M.get, hb, true_and, hK.kind, if_true, h3, hp, hu, Bool.false_eq_true, if_false, M.pure, h4, hrd, Bool.and_true, List.map_append, List.map_cons, List.map_nil]
 ·refine WO.stepN (v := .undef) (rd := id :: rd) (c := pdSame (gk k) (gk y')) hw hd (fun n => ?_) (hK.same _ _ h2) h
  simp only [evOp, ho, hx, hk, hv, mapUpdD, ht, M.bind, M.get, hb, true_and, hK.kind, if_true, h3, hp, hu, Bool.false_eq_true, if_false, M.need, h4, hrd, Bool.true_and, List.map_set, Nat.zero_add]
theorem WO.appZ {α : Type} {g : α → PD} {z : α} {n : Int} {r : List α} {t t' e : TypeId} {x y : Operand} {c : Call} {k q : IntKind} {sz by_ : Nat} (hg : mkZ n z by_ = some r) (hzk : (g z).cells.length = sz + 1) (hne : (decide (t = t')) = false) (hw : wantD ops (A R B) o = some true) (hd : o.dst = some d) (ho : o.op = .call c)
  (hc : c.callee = .builtin .append) (ha : c.args.toList = [x, y]) (hat : c.argTypes = #[t, t']) (hx : (A R B).opd x = some .nils) (hy : (A R B).opd y = some (.d (.int k n)))
  (hb : assoc B (d * 16) = none) (ht : elemT P t = some e) (ht' : P.underlying t' = some (.int q)) (hsz : szT P e = some (sz + 1)) (hby : bytesT P e = some by_) (hz : (zeroT P e).bind zeroPD = some (g z))
  (h : WO P H ext mt ops l ((d, .ref (d * 16) 0) :: R) ((d * 16, .arr 0 e (r.map g)) :: B) fun R' B' ts => K R' B' (⟨[d * 16], [d * 16]⟩ :: ts)) : WO P H ext mt ops (o :: l) R B K := by
 unfold mkZ at hg
 split at hg
 rotate_left
 ·cases hg
 rename_i hcc
 cases hg
 rw [List.map_replicate] at h
 refine WO.step (u := [(d * 16, .arr 0 e (List.replicate n.toNat (g z)))]) (rd := [d * 16]) (c := decide (0 < n ∧ n.toNat * by_ ≤ 140737488355328 ∧ n.toNat ≤ 140737488355328) && ((g z).cells.length == sz + 1)) hw hd (fun m => ?_) ?_ h
 ·have ho2 : opds (A R B) c.args.toList = some [.nils, .d (.int k n)] := by simp only [ha, opds, hx, hy]
  simp only [evOp, ho, hc, ho2, hat, hd, Option.getD_some]
  have hif : ∀ (m m' : M (RV × Ups)), (if (#[t, t'] : Array TypeId).size = 2 then m else m') = m := fun _ _ => if_pos rfl
  rw [hif, if_neg (show ¬ (#[t, t'] : Array TypeId).getD 0 0 = (#[t, t'] : Array TypeId).getD 1 0 from of_decide_eq_false hne)]
  show appZD P _ t t' _ _ _ = _
  simp only [appZD, ht, ht', hsz, hby, hz, M.bind, M.vacant, hb, M.need]
  rfl
 ·simp [hcc, hzk]
theorem KeyT.int {kt : TypeId} {q : IntKind} (h : P.underlying kt = some (.int q)) : KeyT P kt (PD.int q) (fun a b => a == b) :=
 ⟨fun a b => by simp [keyEq, isAggP, keySame], fun a => by simp [keyKind, keyChk, h], fun a b hab => by simpa [pdSame, pdSame1] using hab⟩
theorem KeyT.str {kt : TypeId} (h : P.underlying kt = some .string) : KeyT P kt PD.str (fun a b => a == b) :=
 ⟨fun a b => by simp [keyEq, isAggP, keySame], fun a => by simp [keyKind, keyChk, h], fun a b hab => by simpa [pdSame, pdSame1] using hab⟩
end
section
variable {P : Program} {H : Hints} {ext : FuncId → Option CallD} {mt : Hf} {ops : Array Oper} {l : List Oper} {R : List (Nat × RV)} {B : List (Nat × Box)} {K : List (Nat × RV) → List (Nat × Box) → List Tr → Prop} {o : Oper}
theorem WO.fullG {α : Type} {g : α → PD} {li : List α} {t e : TypeId} {x : Operand} {lo hi mx : Option Operand} {k k' : IntKind} {sz d : Nat} (hmt : mt.lit (o.dst.getD 0) = true) (hw : wantD ops (A R B) o = some true) (hd : o.dst = some d) (ho : o.op = .slice t x lo hi mx)
  (hx : (A R B).opd x = some (.d (.lst (li.map g)))) (ht : P.underlying t = some (.slice e)) (hz : szT P e = some (sz + 1)) {rl rh rm : Option RV} (hl : opdOpt (A R B) lo = some rl) (hh : opdOpt (A R B) hi = some rh) (hm : opdOpt (A R B) mx = some rm)
  (hrl : rl = none) (hrh : rh = some (.d (.int k (li.length : Int)))) (hrm : rm = some (.d (.int k' (li.length : Int))))
  (h : WO P H ext mt ops l ((d, .dfull (li.map g)) :: R) B fun R' B' ts => K R' B' (⟨[], []⟩ :: ts)) : WO P H ext mt ops (o :: l) R B K := by
 subst hrl hrh hrm
 refine WO.step (v := .dfull (li.map g)) (u := []) (rd := []) (c := decide ((li.length : Int) = ((li.map g).length : Int))) hw hd (fun m => ?_) (by simp) h
 simp only [evOp, ho, hx, hl, hh, hm, hmt, if_true, reslD, ht, fullD, hz, M.need]
theorem WO.appD {vy : RV} {rd : List Nat} {α : Type} {g : α → PD} {li m r : List α} {t e : TypeId} {x y : Operand} {c : Call} {sz by_ d : Nat} {z : Value} (hg : appO li m (by_ + 1) = some r) (hsz : ∀ x, (g x).cells.length = sz + 1) (hw : wantD ops (A R B) o = some true) (hd : o.dst = some d) (ho : o.op = .call c)
  (hc : c.callee = .builtin .append) (ha : c.args.toList = [x, y]) (hat : c.argTypes = #[t, t]) (hx : (A R B).opd x = some (.dfull (li.map g))) (hy : (A R B).opd y = some vy) (hye : appendee vy (assoc B) = some (m.map g, rd, true))
  (ht : elemT P t = some e) (hz : szT P e = some (sz + 1)) (hby : bytesT P e = some (by_ + 1)) (hzz : zeroT P e = some z) (hzs : z.cells.size = sz + 1)
  (h : WO P H ext mt ops l ((d, .d (.lst (r.map g))) :: R) B fun R' B' ts => K R' B' (⟨rd, []⟩ :: ts)) : WO P H ext mt ops (o :: l) R B K := by
 obtain ⟨h1, rfl⟩ := appO_some hg
 rw [List.map_append] at h
 refine WO.step (v := .d (.lst (li.map g ++ m.map g))) (u := []) (rd := rd ++ []) (c := decide (((li.map g).length + (m.map g).length) * (by_ + 1) ≤ 140737488355328) && ((m.map g).all (fun e => e.cells.length == sz + 1) && (li.map g).all (fun e => e.cells.length == sz + 1))) hw hd (fun n => ?_) ?_ (by rw [List.append_nil]; exact h)
 ·have ho2 : opds (A R B) c.args.toList = some [.dfull (li.map g), vy] := by simp only [ha, opds, hx, hy]
  simp only [evOp, ho, hc, ho2, hat]
  have hif : ∀ (m m' : M (RV × Ups)), (if (#[t, t] : Array TypeId).size = 2 then m else m') = m := fun _ _ => if_pos rfl
  rw [hif, if_pos (show (#[t, t] : Array TypeId).getD 0 0 = (#[t, t] : Array TypeId).getD 1 0 from rfl)]
  show appendD P _ t t _ _ _ = _
  simp only [appendD, ht, hz, hby, hzz, hzs, and_self, if_true, M.bind, hye, M.need]
  simp
 ·simp only [Bool.and_eq_true, decide_eq_true_eq]
  exact ⟨by simpa using h1, by simp [hsz], by simp [hsz]⟩
end
section
variable {P : Program} {H : Hints} {ext : FuncId → Option CallD} {mt : Hf} {ops : Array Oper} {l : List Oper} {R : List (Nat × RV)} {B : List (Nat × Box)} {K : List (Nat × RV) → List (Nat × Box) → List Tr → Prop} {o : Oper} {d : Nat}
def inA (k : Nat) (n : Int) : Option Unit := if 0 ≤ n ∧ n < k then some () else none
def lenO {α : Type} (k : Nat) (l : List α) : Option (List α) := if l.length = k then some l else none
def cI (k : IntKind) (n : Int) : RV := .d (.int k n)
theorem allPD_cI (k : IntKind) : ∀ l : List Int, allPD (l.map (cI k)) = some (l.map (PD.int k))
 | [] => rfl
 | n :: l => by simp only [List.map_cons, cI, allPD, allPD_cI k l]
theorem setCells_all : ∀ (cs pre v : List RV), v.length = cs.length → setCells (pre ++ cs) pre.length v = pre ++ v
 | [], pre, v, h => by cases v with | nil => simp [setCells] | cons => simp at h
 | c :: cs, pre, v, h => by
  cases v with
  | nil => simp at h
  | cons x v =>
   have h1 := setCells_all cs (pre ++ [x]) v (by simpa using h)
   simp only [setCells]
   rw [show (pre ++ c :: cs).set pre.length x = (pre ++ [x]) ++ cs from by simp]
   rw [List.length_append, List.length_singleton] at h1
   rw [h1]; simp
theorem WO.tabE {li : List Int} {y : Unit} {t e : TypeId} {x i : Operand} {k q : IntKind} {n : Int} {id len : Nat} (hg : inA len n = some y) (hw : wantD ops (A R B) o = some true) (hd : o.dst = some d) (ho : o.op = .indexAddr t x i) (hx : (A R B).opd x = some (.ptr id 0)) (hi : (A R B).opd i = some (.d (.int q n)))
  (hb : assoc B id = some (.var (li.map (cI k)))) (ht : P.underlying t = some (.array len e)) (hz : szT P e = some 1)
  (h : WO P H ext mt ops l ((d, .ptr id n.toNat) :: R) B fun R' B' ts => K R' B' (⟨[id], []⟩ :: ts)) : WO P H ext mt ops (o :: l) R B K := by
 unfold inA at hg
 split at hg
 rotate_left
 ·cases hg
 rename_i hc
 refine WO.step (u := []) (rd := [id]) (c := true) hw hd (fun m => ?_) rfl h
 have h1 : decide (0 ≤ n ∧ n < (len : Int)) = true := decide_eq_true hc
 simp only [evOp, ho, hx, hi, indexAddrD, ht, hz, M.bind, M.need, moveP, M.get, hb, h1, ofRV, M.pure, Nat.mul_one, Nat.zero_add]
 rfl
theorem WO.tabL {li : List Int} {t : TypeId} {a : Operand} {k : IntKind} {n y : Int} {id : Nat} (hg : getO li n = some y) (hw : wantD ops (A R B) o = some true) (hd : o.dst = some d) (ho : o.op = .load t a) (ha : (A R B).opd a = some (.ptr id n.toNat))
  (hb : assoc B id = some (.var (li.map (cI k)))) (ht : kindT P t = some (false, 1))
  (h : WO P H ext mt ops l ((d, .d (.int k y)) :: R) B fun R' B' ts => K R' B' (⟨[id], []⟩ :: ts)) : WO P H ext mt ops (o :: l) R B K := by
 obtain ⟨h0, h1, h2⟩ := getO_some hg
 refine WO.step (u := []) (rd := [id]) (c := true) hw hd (fun m => ?_) rfl h
 have h3 : (li.map (cI k))[n.toNat]? = some (cI k y) := by simp [h2]
 simp only [evOp, ho, ha, loadD, M.bind, M.get, hb, partRV, ht, h3]
 rfl
theorem WO.tabS {li r : List Int} {t : TypeId} {a x : Operand} {k : IntKind} {n y : Int} {id : Nat} (hg : setO li n y = some r) (hw : wantD ops (A R B) o = some true) (hd : o.dst = none) (ho : o.op = .store t a x) (ha : (A R B).opd a = some (.ptr id n.toNat)) (hx : (A R B).opd x = some (.d (.int k y)))
  (hb : assoc B id = some (.var (li.map (cI k)))) (hz : szT P t = some 1)
  (h : WO P H ext mt ops l R ((id, .var (r.map (cI k))) :: B) fun R' B' ts => K R' B' (⟨[id], [id]⟩ :: ts)) : WO P H ext mt ops (o :: l) R B K := by
 obtain ⟨h1, rfl⟩ := setO_some hg
 have hlt : n.toNat < li.length := by omega
 rw [List.map_set] at h
 refine WO.n1 (v := .undef) (rd := [id]) hw hd (fun m => ?_) h
 simp only [evOp, ho, ha, hx, storeD, hz, M.bind, M.get, hb, M.need]
 rw [show ((RV.d (.int k y)).sized && decide ((RV.d (.int k y)).cells.length = 1 ∧ n.toNat + 1 ≤ (li.map (cI k)).length)) = true from by
  rw [show (RV.d (.int k y)).sized = true from rfl, Bool.true_and]
  exact decide_eq_true ⟨rfl, by rw [List.length_map]; exact hlt⟩]
 rfl
theorem loadTab {li z : List Int} {t : TypeId} {k : IntKind} {id len : Nat} (hg : lenO len li = some z) (hb : assoc B id = some (.var (li.map (cI k)))) (ht : kindT P t = some (true, len)) :
  loadD P t (.ptr id 0) (assoc B) = some ((.d (.agg (z.map (PD.int k))), []), [id], true) := by
 unfold lenO at hg
 split at hg
 rotate_left
 ·cases hg
 rename_i hc
 cases hg
 have h1 : ((li.map (cI k)).drop 0).take len = li.map (cI k) := by rw [List.drop_zero, List.take_of_length_le (by simp [hc])]
 have h2 : decide (0 + len ≤ (li.map (cI k)).length) = true := decide_eq_true (by simp [hc])
 simp only [loadD, M.bind, M.get, hb, partRV, ht, h1, h2, mkAgg, allPD_cI, needRV, M.need]
 rfl
theorem WO.tabW {li z : List Int} {t : TypeId} {a : Operand} {k : IntKind} {id len : Nat} (hg : lenO len li = some z) (hw : wantD ops (A R B) o = some true) (hd : o.dst = some d) (ho : o.op = .load t a) (ha : (A R B).opd a = some (.ptr id 0))
  (hb : assoc B id = some (.var (li.map (cI k)))) (ht : kindT P t = some (true, len))
  (h : WO P H ext mt ops l ((d, .d (.agg (z.map (PD.int k)))) :: R) B fun R' B' ts => K R' B' (⟨[id], []⟩ :: ts)) : WO P H ext mt ops (o :: l) R B K := by
 refine WO.step (u := []) (rd := [id]) (c := true) hw hd (fun m => ?_) rfl h
 simp only [evOp, ho, ha]
 exact loadTab hg hb ht
theorem sized_tab (k : IntKind) (r : List Int) : (RV.d (.agg (r.map (PD.int k)))).sized = true := by
 simp only [RV.sized, RV.cells, List.map_map, List.all_map, List.all_eq_true]
 intro x _; rfl
theorem WO.tabP {li r z y : List Int} {t : TypeId} {a x : Operand} {k : IntKind} {id len : Nat} (hg : lenO len li = some z) (hr : lenO len r = some y) (hw : wantD ops (A R B) o = some true) (hd : o.dst = none) (ho : o.op = .store t a x) (ha : (A R B).opd a = some (.ptr id 0)) (hx : (A R B).opd x = some (.d (.agg (r.map (PD.int k)))))
  (hb : assoc B id = some (.var (li.map (cI k)))) (hz : szT P t = some len)
  (h : WO P H ext mt ops l R ((id, .var (y.map (cI k))) :: B) fun R' B' ts => K R' B' (⟨[id], [id]⟩ :: ts)) : WO P H ext mt ops (o :: l) R B K := by
 unfold lenO at hg hr
 split at hg
 rotate_left
 ·cases hg
 split at hr
 rotate_left
 ·cases hr
 rename_i h1 h2
 cases hg; cases hr
 have h3 : (RV.d (.agg (r.map (PD.int k)))).cells = r.map (cI k) := by
  simp only [RV.cells, PD.cells, List.map_map]; rfl
 refine WO.n1 (v := .undef) (rd := [id]) hw hd (fun m => ?_) h
 have h4 : decide ((r.map (cI k)).length = len ∧ 0 + len ≤ (li.map (cI k)).length) = true := decide_eq_true (by simp [h1, h2])
 have h5 : setCells (li.map (cI k)) 0 (r.map (cI k)) = r.map (cI k) := by
  have := setCells_all (li.map (cI k)) [] (r.map (cI k)) (by simp [h1, h2])
  simpa using this
 simp only [evOp, ho, ha, hx, storeD, hz, M.bind, M.get, hb, M.need, h3, h4, sized_tab, h5]
 rfl
theorem finish_tab {li z : List Int} {k : IntKind} {own : Nat → Bool} {fn : Func} {t id len : Nat} {ty : TypeId} {x : RV × List Box} (hg : lenO len li = some z) (hres : fn.results.toList = [.cell t ty]) (hr : assoc R t = some (.ptr id 0))
  (hb : assoc B id = some (.var (li.map (cI k)))) (ht : kindT P ty = some (true, len)) (hx : (.d (.agg (z.map (PD.int k))), []) = x) : finish P own fn 0 (A R B) = some x := by
 subst hx
 have h1 := loadTab (P := P) (t := ty) hg hb ht
 have h2 : resD P own (A R B) 0 fn.results.toList (A R B).boxes = some (([.d (.agg (z.map (PD.int k)))], []), [id], true) := by
  simp only [hres, resD, resV, M.bind, show (A R B).regs t = assoc R t from rfl, hr, show (A R B).boxes = assoc B from rfl, h1]
  rfl
 simp only [finish, h2]
 rfl
theorem tabG {x : Option St} {Rk : List (Nat × RV)} {B1 B2 : List (Nat × Box)} {i : Nat} {k : IntKind} {l : List Int} {f : RV → RV} (h : x = some (A Rk (B1 ++ (i, .var ((l.map (cI k)).map f)) :: B2))) (hf : ∀ n, f (cI k n) = cI k n) :
  x = some (A Rk (B1 ++ (i, .var (l.map (cI k))) :: B2)) := by
 rw [h, List.map_map, show (f ∘ cI k) = cI k from funext hf]
end
end Go.Dw
