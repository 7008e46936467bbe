/- DwLift: plain functions as what code computes: partial operations, loops; the interpreter's steps that go with them (no claim). -/
import Derived.Test.YtkfmfbhngneklaaGreatDoorDwWp
namespace Go.Dw

/-- A call's answer as a pair. -/
abbrev EvP (P : Program) (H : Hints) (ext : FuncId → Option CallD) (f : FuncId) (args : List RV) (bs : List Box) (p : RV × List Box) : Prop := Ev P H ext f args bs p.1 p.2

/-! ### Partial operations -/
def getO {α : Type} (l : List α) (n : Int) : Option α := if 0 ≤ n then l[n.toNat]? else none
def byteO (s : List UInt8) (n : Int) : Option Int := if 0 ≤ n ∧ n < s.length then some ((s.getD n.toNat 0).toNat : Nat) else none
def cutO {α : Type} (l : List α) (lo hi : Int) : Option (List α) := if 0 ≤ lo ∧ lo ≤ hi ∧ hi ≤ l.length then some ((l.drop lo.toNat).take (hi.toNat - lo.toNat)) else none
def appO {α : Type} (l m : List α) (bytes : Nat) : Option (List α) := if (l.length + m.length) * bytes ≤ 140737488355328 then some (l ++ m) else none
def catO (a b : List UInt8) : Option (List UInt8) := if ((a.length + b.length : Nat) : Int) ≤ 9223372036854775807 then some (a ++ b) else none
def quoO (k : IntKind) (x y : Int) : Option Int := if y = 0 then none else some (k.wrap (x.tdiv y))
def remO (x y : Int) : Option Int := if y = 0 then none else some (x.tmod y)
def setO {α : Type} (l : List α) (n : Int) (y : α) : Option (List α) := if 0 ≤ n ∧ n < l.length then some (l.set n.toNat y) else none
def inO {α : Type} (l : List α) (n : Int) : Option Unit := if 0 ≤ n ∧ n < l.length then some () else none

theorem getO_some {α : Type} {l : List α} {n : Int} {x : α} (h : getO l n = some x) : 0 ≤ n ∧ n < l.length ∧ l[n.toNat]? = some x := by
  unfold getO at h
  split at h
  · rename_i h0
    have := (List.getElem?_eq_some_iff.1 h).1
    exact ⟨h0, by omega, h⟩
  · cases h
theorem byteO_some {s : List UInt8} {n c : Int} (h : byteO s n = some c) : (0 ≤ n ∧ n < s.length) ∧ c = ((s.getD n.toNat 0).toNat : Nat) := by
  unfold byteO at h; split at h
  · cases h; exact ⟨by assumption, rfl⟩
  · cases h
theorem cutO_some {α : Type} {l r : List α} {lo hi : Int} (h : cutO l lo hi = some r) : (0 ≤ lo ∧ lo ≤ hi ∧ hi ≤ l.length) ∧ r = (l.drop lo.toNat).take (hi.toNat - lo.toNat) := by
  unfold cutO at h; split at h
  · cases h; exact ⟨by assumption, rfl⟩
  · cases h
theorem appO_some {α : Type} {l m r : List α} {b : Nat} (h : appO l m b = some r) : (l.length + m.length) * b ≤ 140737488355328 ∧ r = l ++ m := by
  unfold appO at h; split at h
  · cases h; exact ⟨by assumption, rfl⟩
  · cases h
theorem catO_some {a b r : List UInt8} (h : catO a b = some r) : ((a.length + b.length : Nat) : Int) ≤ 9223372036854775807 ∧ r = a ++ b := by
  unfold catO at h; split at h
  · cases h; exact ⟨by assumption, rfl⟩
  · cases h
theorem setO_some {α : Type} {l r : List α} {n : Int} {y : α} (h : setO l n y = some r) : (0 ≤ n ∧ n < l.length) ∧ r = l.set n.toNat y := by
  unfold setO at h; split at h
  · cases h; exact ⟨by assumption, rfl⟩
  · cases h

theorem bind_elim {α β : Type} {m : Option α} {k : α → Option β} {r : β} (h : m.bind k = some r) {G : Prop} (hk : ∀ x, m = some x → k x = some r → G) : G := by
  cases m with
  | none => cases h
  | some x => exact hk x rfl h
theorem ite_elim {β : Type} {t : Bool} {a b : Option β} {r : β} (h : (if t = true then a else b) = some r) {G : Prop} (h1 : t = true → a = some r → G) (h2 : t = false → b = some r → G) : G := by
  cases t with
  | true => exact h1 rfl h
  | false => exact h2 rfl h

theorem lenMap {α : Type} (g : α → PD) (l : List α) : RV.d (.int .i64 ((l.map g).length : Nat)) = RV.d (.int .i64 (l.length : Nat)) := by rw [List.length_map]

/-! ### Loops -/
inductive Step1 (σ ω : Type) where
  | next (s : σ)
  | stop (o : ω)
def loopN {σ ω : Type} (body : σ → Option (Step1 σ ω)) : Nat → σ → Option ω
  | 0, _ => none
  | n + 1, s =>
    match body s with
    | some (.next s') => loopN body n s'
    | some (.stop o) => some o
    | none => none
theorem loopN_mono {σ ω : Type} {body : σ → Option (Step1 σ ω)} : ∀ {n m : Nat} {s : σ} {o : ω}, loopN body n s = some o → n ≤ m → loopN body m s = some o
  | 0, _, _, _, h, _ => by cases h
  | n + 1, 0, _, _, _, hm => by omega
  | n + 1, m + 1, s, o, h, hm => by
    simp only [loopN] at h ⊢
    rcases hb : body s with _ | (s' | o')
    · simp [hb] at h
    · simp only [hb] at h ⊢; exact loopN_mono h (by omega)
    · simp only [hb] at h ⊢; exact h
open Classical in
noncomputable def loopO {σ ω : Type} (body : σ → Option (Step1 σ ω)) (s : σ) : Option ω := if h : ∃ n o, loopN body n s = some o then some h.choose_spec.choose else none
theorem loopO_of {σ ω : Type} {body : σ → Option (Step1 σ ω)} {n : Nat} {s : σ} {o : ω} (h : loopN body n s = some o) : loopO body s = some o := by
  have he : ∃ n o, loopN body n s = some o := ⟨n, o, h⟩
  unfold loopO
  rw [dif_pos he]
  have h2 := he.choose_spec.choose_spec
  have h3 := loopN_mono h (Nat.le_max_left n he.choose)
  have h4 := loopN_mono h2 (Nat.le_max_right n he.choose)
  rw [h3] at h4
  exact h4.symm
theorem loopO_some {σ ω : Type} {body : σ → Option (Step1 σ ω)} {s : σ} {o : ω} (h : loopO body s = some o) : ∃ n, loopN body n s = some o := by
  unfold loopO at h
  split at h
  · rename_i he
    cases h
    exact ⟨_, he.choose_spec.choose_spec⟩
  · cases h
theorem loopO_next {σ ω : Type} {body : σ → Option (Step1 σ ω)} {s s' : σ} (h : body s = some (.next s')) : loopO body s = loopO body s' := by
  cases h1 : loopO body s' with
  | some o =>
    obtain ⟨n, hn⟩ := loopO_some h1
    exact loopO_of (n := n + 1) (by simp only [loopN, h]; exact hn)
  | none =>
    cases h2 : loopO body s with
    | none => rfl
    | some o =>
      obtain ⟨n, hn⟩ := loopO_some h2
      cases n with
      | zero => cases hn
      | succ n =>
        simp only [loopN, h] at hn
        rw [loopO_of hn] at h1
        cases h1
theorem loopO_stop {σ ω : Type} {body : σ → Option (Step1 σ ω)} {s : σ} {o : ω} (h : body s = some (.stop o)) : loopO body s = some o :=
  loopO_of (n := 1) (by simp only [loopN, h])

/-! ### Recursion -/
open Classical in
noncomputable def recO {β : Type} (g : Nat → Option β) : Option β := if h : ∃ n r, g n = some r then some h.choose_spec.choose else none
theorem recO_some {β : Type} {g : Nat → Option β} {r : β} (h : recO g = some r) : ∃ n, g n = some r := by
  unfold recO at h
  split at h
  · rename_i he; cases h; exact ⟨_, he.choose_spec.choose_spec⟩
  · cases h
theorem recO_of {β : Type} {g : Nat → Option β} {r : β} (h : ∃ n, g n = some r) (hu : ∀ n s, g n = some s → s = r) : recO g = some r := by
  obtain ⟨n, hn⟩ := h
  have he : ∃ n r, g n = some r := ⟨n, r, hn⟩
  unfold recO
  rw [dif_pos he]
  exact congrArg some (hu _ _ he.choose_spec.choose_spec)

section
variable {P : Program} {H : Hints} {ext : FuncId → Option CallD} {f : FuncId} {nb : Nat} {R : List (Nat × RV)} {B : List (Nat × Box)} {Q : Ex → List (Nat × RV) → List (Nat × Box) → Prop}

theorem WL.ofLoop {σ ω : Type} {body : σ → Option (Step1 σ ω)} {b : Code} {s0 : σ} {o : ω} (h : loopO body s0 = some o) (I : σ → List (Nat × RV) → List (Nat × Box) → Prop) (Qo : ω → Ex → List (Nat × RV) → List (Nat × Box) → Prop) (h0 : I s0 R B)
    (hstep : ∀ s R B x, I s R B → body s = some x → WC P H ext f nb b R B fun e R' B' => match x with | .next s' => e = .normal ∧ I s' R' B' | .stop o' => e ≠ .normal ∧ Qo o' e R' B')
    (hQ : ∀ e R' B', e ≠ .normal → Qo o e R' B' → Q e R' B') : WL P H ext f nb b R B Q := by
  obtain ⟨n, hn⟩ := loopO_some h
  clear h
  induction n generalizing s0 R B with
  | zero => cases hn
  | succ n ih =>
    simp only [loopN] at hn
    rcases hb : body s0 with _ | (s' | o')
    · simp [hb] at hn
    · simp only [hb] at hn
      obtain ⟨e, R', B', hN, he, hI⟩ := hstep s0 R B _ h0 hb
      subst he
      exact WL.round ⟨.normal, R', B', hN, ih hI hn⟩
    · simp only [hb, Option.some.injEq] at hn
      subst hn
      obtain ⟨e, R', B', hN, he, hq⟩ := hstep s0 R B _ h0 hb
      refine WL.round ⟨e, R', B', hN, ?_⟩
      have := hQ e R' B' he hq
      cases e with
      | normal => exact (he rfl).elim
      | exit id => exact this
      | ret => exact this

theorem WC.condT' {c : Operand} {a b : Code} {t : Bool} (ht : t = true) (hc : (A R B).opd c = some (.d (.bool t))) (h1 : WC P H ext f nb a R B Q) : WC P H ext f nb (.cond c a b) R B Q := by subst ht; exact WC.condT hc h1
theorem WC.condF' {c : Operand} {a b : Code} {t : Bool} (ht : t = false) (hc : (A R B).opd c = some (.d (.bool t))) (h1 : WC P H ext f nb b R B Q) : WC P H ext f nb (.cond c a b) R B Q := by subst ht; exact WC.condF hc h1
theorem WC.join {α : Type} {a b : Code} (I : α → List (Nat × RV) → List (Nat × Box) → Prop) (G : α → Prop) (h1 : WC P H ext f nb a R B fun e R' B' => match e with | .normal => ∃ x, I x R' B' ∧ G x | e => Q e R' B')
    (h2 : ∀ x R' B', I x R' B' → G x → WC P H ext f nb b R' B' Q) : WC P H ext f nb (.seq a b) R B Q := by
  refine WC.seq ?_
  obtain ⟨e, R', B', hN, h⟩ := h1
  refine ⟨e, R', B', hN, ?_⟩
  cases e with
  | normal => obtain ⟨x, hI, hG⟩ := h; exact h2 x R' B' hI hG
  | exit id => exact h
  | ret => exact h
end

section
variable {P : Program} {H : Hints} {ext : FuncId → Option CallD} {mt : Hf} {ops : Array Oper} {l : List Oper} {R : List (Nat × RV)} {B : List (Nat × Box)} {K : List (Nat × RV) → List (Nat × Box) → List Tr → Prop} {o : Oper} {d : Nat}

/-- One operation that leaves memory alone. -/
theorem WO.s0 {v v' : RV} {rd : List Nat} (hw : wantD ops (A R B) o = some true) (hd : o.dst = some d) (he : ∀ n, evOp P mt (evFun P H ext n) (A R B) o (assoc B) = some ((v, []), rd, true)) (hv : v = v')
    (h : WO P H ext mt ops l ((d, v') :: R) B fun R' B' ts => K R' B' (⟨rd, []⟩ :: ts)) : WO P H ext mt ops (o :: l) R B K := by
  subst hv
  exact WO.step (u := []) hw hd he rfl h
/-- One operation that changes a box, or makes one. -/
theorem WO.s1 {v : RV} {id : Nat} {bx : Box} {rd : List Nat} (hw : wantD ops (A R B) o = some true) (hd : o.dst = some d) (he : ∀ n, evOp P mt (evFun P H ext n) (A R B) o (assoc B) = some ((v, [(id, bx)]), rd, true))
    (h : WO P H ext mt ops l ((d, v) :: R) ((id, bx) :: B) fun R' B' ts => K R' B' (⟨rd, [id]⟩ :: ts)) : WO P H ext mt ops (o :: l) R B K :=
  WO.step (u := [(id, bx)]) hw hd he rfl h
theorem WO.n1 {v : RV} {id : Nat} {bx : Box} {rd : List Nat} (hw : wantD ops (A R B) o = some true) (hd : o.dst = none) (he : ∀ n, evOp P mt (evFun P H ext n) (A R B) o (assoc B) = some ((v, [(id, bx)]), rd, true))
    (h : WO P H ext mt ops l R ((id, bx) :: B) fun R' B' ts => K R' B' (⟨rd, [id]⟩ :: ts)) : WO P H ext mt ops (o :: l) R B K :=
  WO.stepN (u := [(id, bx)]) hw hd he rfl h
/-- Two values of a type compared. -/
theorem WO.bin {op : BinOp} {t t' : TypeId} {x y : Operand} {vx vy : RV} {p : PD} (he : binT P op t vx vy = some (p, true)) (hw : wantD ops (A R B) o = some true) (hd : o.dst = some d) (ho : o.op = .binOp op t x y t') (hx : (A R B).opd x = some vx) (hy : (A R B).opd y = some vy)
    (h : WO P H ext mt ops l ((d, .d p) :: R) B fun R' B' ts => K R' B' (⟨[], []⟩ :: ts)) : WO P H ext mt ops (o :: l) R B K := by
  refine WO.s0 (rd := []) hw hd (fun n => ?_) rfl h
  simp only [evOp, ho, hx, hy, he]
  rfl
theorem WO.binS {op : BinOp} {t t' : TypeId} {x y : Operand} {vx vy : RV} {b b' : Bool} (he : binT P op t vx vy = some (.bool b, true)) (hb : b = b') (hw : wantD ops (A R B) o = some true) (hd : o.dst = some d) (ho : o.op = .binOp op t x y t') (hx : (A R B).opd x = some vx) (hy : (A R B).opd y = some vy)
    (h : WO P H ext mt ops l ((d, .d (.bool b')) :: R) B fun R' B' ts => K R' B' (⟨[], []⟩ :: ts)) : WO P H ext mt ops (o :: l) R B K := by
  subst hb
  exact WO.bin he hw hd ho hx hy h
/-- A truth value: both outcomes. -/
theorem WO.split {b : Bool} {rd : List Nat} (hw : wantD ops (A R B) o = some true) (hd : o.dst = some d) (he : ∀ n, evOp P mt (evFun P H ext n) (A R B) o (assoc B) = some ((.d (.bool b), []), rd, true))
    (h : WO P H ext mt ops l ((d, .d (.bool b)) :: R) B fun R' B' ts => K R' B' (⟨rd, []⟩ :: ts)) : WO P H ext mt ops (o :: l) R B K :=
  WO.step (u := []) hw hd he rfl h

/-- The place of an element of a list. -/
theorem WO.elemG {α : Type} {g : α → PD} {li : List α} {t e : TypeId} {x i : Operand} {k : IntKind} {n : Int} {sz : Nat} {y : α} {cs : List PD} (hg : getO li n = some y) (hw : wantD ops (A R B) o = some true) (hd : o.dst = some d) (ho : o.op = .indexAddr t x i) (hx : (A R B).opd x = some (.d (.lst (li.map g)))) (hi : (A R B).opd i = some (.d (.int k n)))
    (ht : P.underlying t = some (.slice e)) (hz : szT P e = some sz) (hc : (g y).cells = cs) (hcl : cs.length = sz)
    (h : WO P H ext mt ops l ((d, .cptr cs) :: R) B fun R' B' ts => K R' B' (⟨[], []⟩ :: ts)) : WO P H ext mt ops (o :: l) R B K := by
  subst hc
  obtain ⟨h0, h1, h2⟩ := getO_some hg
  have hgd : (li.map g).getD n.toNat default = g y := by simp [h2]
  have hn' : 0 ≤ n ∧ n < (li.map g).length := by simpa using ⟨h0, h1⟩
  refine WO.step (u := []) (rd := []) (c := true) hw hd (fun m => ?_) rfl h
  simp only [evOp, ho, hx, hi, indexAddrD, ht, hz, hgd, hn', hcl, and_self, decide_true, beq_self_eq_true, Bool.and_true]
  rfl
/-- A byte of a text. -/
theorem WO.byteG {t : TypeId} {x i : Operand} {s : List UInt8} {k : IntKind} {n c : Int} (hg : byteO s n = some c) (hw : wantD ops (A R B) o = some true) (hd : o.dst = some d) (ho : o.op = .index t x i) (hx : (A R B).opd x = some (.d (.str s))) (hi : (A R B).opd i = some (.d (.int k n))) (ht : P.underlying t = some .string)
    (h : WO P H ext mt ops l ((d, .d (.int .u8 c)) :: R) B fun R' B' ts => K R' B' (⟨[], []⟩ :: ts)) : WO P H ext mt ops (o :: l) R B K := by
  obtain ⟨h1, rfl⟩ := byteO_some hg
  refine WO.step (u := []) (rd := []) (c := decide (0 ≤ n ∧ n < s.length)) hw hd (fun m => ?_) (by simpa using h1) h
  simp only [evOp, ho, hx, hi, indexD, indexS, ht]
  rfl
/-- A part of a text. -/
theorem WO.cutG {t : TypeId} {x : Operand} {lo hi : Option Operand} {s r : List UInt8} {rl rh : Option RV} {a b : Int} (hg : cutO s a b = some r) (hmt : mt.lit (o.dst.getD 0) = false) (hw : wantD ops (A R B) o = some true) (hd : o.dst = some d) (ho : o.op = .slice t x lo hi none) (hx : (A R B).opd x = some (.d (.str s))) (ht : P.underlying t = some .string)
    (hl : opdOpt (A R B) lo = some rl) (hh : opdOpt (A R B) hi = some rh) (ha : bnd rl 0 = some a) (hb : bnd rh s.length = some b)
    (h : WO P H ext mt ops l ((d, .d (.str r)) :: R) B fun R' B' ts => K R' B' (⟨[], []⟩ :: ts)) : WO P H ext mt ops (o :: l) R B K := by
  obtain ⟨h1, rfl⟩ := cutO_some hg
  rw [← cut_drop_take s rh a b hb h1] at h
  refine WO.step (u := []) (rd := []) (c := decide (0 ≤ a ∧ a ≤ b ∧ b ≤ s.length)) hw hd (fun m => ?_) (by simpa using h1) h
  have h0 : opdOpt (A R B) none = some none := rfl
  simp only [evOp, ho, hx, hl, hh, h0, hmt, Bool.false_eq_true, if_false, sliceD, ht, ha, hb]
  rfl
/-- A part of a list. -/
theorem WO.cutL {α : Type} {g : α → PD} {t e : TypeId} {x : Operand} {lo hi : Option Operand} {li r : List α} {rl rh : Option RV} {a b : Int} {sz : Nat} (hg : cutO li a b = some r) (hsz : ∀ x, (g x).cells.length = sz) (hmt : mt.lit (o.dst.getD 0) = false) (hw : wantD ops (A R B) o = some true) (hd : o.dst = some d) (ho : o.op = .slice t x lo hi none) (hx : (A R B).opd x = some (.d (.lst (li.map g)))) (ht : P.underlying t = some (.slice e)) (hz : szT P e = some sz)
    (hl : opdOpt (A R B) lo = some rl) (hh : opdOpt (A R B) hi = some rh) (ha : bnd rl 0 = some a) (hb : bnd rh li.length = some b)
    (h : WO P H ext mt ops l ((d, .d (.lst (r.map g))) :: R) B fun R' B' ts => K R' B' (⟨[], []⟩ :: ts)) : WO P H ext mt ops (o :: l) R B K := by
  obtain ⟨h1, rfl⟩ := cutO_some hg
  have hb' : bnd rh ((li.map g).length : Nat) = some b := by simpa using hb
  have he : (((li.drop a.toNat).take (b.toNat - a.toNat)).map g) = cut (li.map g) a.toNat (hiOf rh b) := by
    rw [cut_drop_take (li.map g) rh a b hb' (by simpa using h1)]; simp
  rw [he] at h
  refine WO.step (u := []) (rd := []) (c := decide (0 ≤ a ∧ a ≤ b ∧ b ≤ (li.map g).length) && (li.map g).all (fun e => e.cells.length == sz)) hw hd (fun m => ?_) ?_ h
  · have h0 : opdOpt (A R B) none = some none := rfl
    simp only [evOp, ho, hx, hl, hh, h0, hmt, Bool.false_eq_true, if_false, sliceD, ht, ha, hb', hz]
    rfl
  · simp only [Bool.and_eq_true, decide_eq_true_eq]
    refine ⟨by simpa using h1, ?_⟩
    simp [hsz]
/-- Two texts joined. -/
theorem WO.catG {t t' : TypeId} {x y : Operand} {a b r : List UInt8} (hg : catO a b = some r) (hw : wantD ops (A R B) o = some true) (hd : o.dst = some d) (ho : o.op = .binOp .add t x y t') (hx : (A R B).opd x = some (.d (.str a))) (hy : (A R B).opd y = some (.d (.str b)))
    (h : WO P H ext mt ops l ((d, .d (.str r)) :: R) B fun R' B' ts => K R' B' (⟨[], []⟩ :: ts)) : WO P H ext mt ops (o :: l) R B K := by
  obtain ⟨h1, rfl⟩ := catO_some hg
  refine WO.step (u := []) (rd := []) (c := decide (((a.length + b.length : Nat) : Int) ≤ IntKind.i64.max)) hw hd (fun n => ?_) ?_ h
  · simp only [evOp, ho, hx, hy, binT, binPD, strBin]
    rfl
  · have : IntKind.i64.max = 9223372036854775807 := by decide
    rw [this]
    exact decide_eq_true h1
theorem WO.quoG {t t' : TypeId} {x y : Operand} {k k' : IntKind} {a b r : Int} (hg : quoO k a b = some r) (hw : wantD ops (A R B) o = some true) (hd : o.dst = some d) (ho : o.op = .binOp .quo t x y t') (hx : (A R B).opd x = some (.d (.int k a))) (hy : (A R B).opd y = some (.d (.int k' b))) (hk : k = k')
    (h : WO P H ext mt ops l ((d, .d (.int k r)) :: R) B fun R' B' ts => K R' B' (⟨[], []⟩ :: ts)) : WO P H ext mt ops (o :: l) R B K := by
  subst hk
  unfold quoO at hg
  split at hg
  · cases hg
  · rename_i hb
    cases hg
    refine WO.step (u := []) (rd := []) (c := b != 0) hw hd (fun n => ?_) (by simpa using hb) h
    simp only [evOp, ho, hx, hy, binT, binPD, if_true, intBin]
    rfl
theorem WO.remG {t t' : TypeId} {x y : Operand} {k k' : IntKind} {a b r : Int} (hg : remO a b = some r) (hw : wantD ops (A R B) o = some true) (hd : o.dst = some d) (ho : o.op = .binOp .rem t x y t') (hx : (A R B).opd x = some (.d (.int k a))) (hy : (A R B).opd y = some (.d (.int k' b))) (hk : k = k')
    (h : WO P H ext mt ops l ((d, .d (.int k r)) :: R) B fun R' B' ts => K R' B' (⟨[], []⟩ :: ts)) : WO P H ext mt ops (o :: l) R B K := by
  subst hk
  unfold remO at hg
  split at hg
  · cases hg
  · rename_i hb
    cases hg
    refine WO.step (u := []) (rd := []) (c := b != 0) hw hd (fun n => ?_) (by simpa using hb) h
    simp only [evOp, ho, hx, hy, binT, binPD, if_true, intBin]
    rfl
/-- Append to a list in a box. -/
theorem WO.appR {α : Type} {g : α → PD} {li m r : List α} {t e : TypeId} {x y : Operand} {c : Call} {id ver sz by_ : Nat} {z : Value} (hg : appO li m (by_ + 1) = some r) (hsz : ∀ x, (g x).cells.length = sz + 1) (hw : wantD ops (A R B) o = some true) (hd : o.dst = some d) (ho : o.op = .call c)
    (hc : c.callee = .builtin .append) (ha : c.args.toList = [x, y]) (hat : c.argTypes = #[t, t]) (hx : (A R B).opd x = some (.ref id ver)) (hy : (A R B).opd y = some (.d (.lst (m.map g))))
    (hb : assoc B id = some (.arr ver e (li.map g))) (ht : elemT P t = some e) (hz : szT P e = some (sz + 1)) (hby : bytesT P e = some (by_ + 1)) (hzz : zeroT P e = some z) (hzs : z.cells.size = sz + 1)
    (h : WO P H ext mt ops l ((d, .ref id (ver + 1)) :: R) ((id, .arr (ver + 1) e (r.map g)) :: B) fun R' B' ts => K R' B' (⟨[id], [id]⟩ :: ts)) : WO P H ext mt ops (o :: l) R B K := by
  obtain ⟨h1, rfl⟩ := appO_some hg
  rw [List.map_append] at h
  refine WO.step (u := [(id, .arr (ver + 1) e (li.map g ++ m.map g))]) (rd := [id]) (c := decide (((li.map g).length + (m.map g).length) * (by_ + 1) ≤ 140737488355328) && (m.map g).all (fun e => e.cells.length == sz + 1)) hw hd (fun n => ?_) ?_ h
  · have ho2 : opds (A R B) c.args.toList = some [.ref id ver, .d (.lst (m.map g))] := by simp only [ha, opds, hx, hy]
    simp only [evOp, ho, hc, ho2, hat]
    have hif : ∀ (m m' : M (RV × Ups)), (if (#[t, t] : Array TypeId).size = 2 then m else m') = m := fun _ _ => if_pos rfl
    rw [hif]
    show appendD P _ t t _ _ _ = _
    simp only [appendD, ht, hz, hby, hzz, hzs, and_self, if_true, M.bind, appendee, M.pure, M.get, hb, M.need]
    simp
  · simp only [Bool.and_eq_true, decide_eq_true_eq]
    exact ⟨by simpa using h1, by simp [hsz]⟩
/-- Append to nil. -/
theorem WO.appN {α : Type} {g : α → PD} {m r : List α} {t e : TypeId} {x y : Operand} {c : Call} {sz by_ : Nat} {z : Value} (hg : appO [] m (by_ + 1) = some r) (hsz : ∀ x, (g x).cells.length = sz + 1) (hw : wantD ops (A R B) o = some true) (hd : o.dst = some d) (ho : o.op = .call c)
    (hc : c.callee = .builtin .append) (ha : c.args.toList = [x, y]) (hat : c.argTypes = #[t, t]) (hx : (A R B).opd x = some .nils) (hy : (A R B).opd y = some (.d (.lst (m.map g))))
    (hb : assoc B (d * 16) = none) (ht : elemT P t = some e) (hz : szT P e = some (sz + 1)) (hby : bytesT P e = some (by_ + 1)) (hzz : zeroT P e = some z) (hzs : z.cells.size = sz + 1)
    (h : WO P H ext mt ops l ((d, .ref (d * 16) 0) :: R) ((d * 16, .arr 0 e (r.map g)) :: B) fun R' B' ts => K R' B' (⟨[d * 16], [d * 16]⟩ :: ts)) : WO P H ext mt ops (o :: l) R B K := by
  obtain ⟨h1, hr⟩ := appO_some hg
  rw [List.nil_append] at hr
  subst hr
  refine WO.step (u := [(d * 16, .arr 0 e (r.map g))]) (rd := [d * 16]) (c := decide ((r.map g).length * (by_ + 1) ≤ 140737488355328) && (r.map g).all (fun e => e.cells.length == sz + 1)) hw hd (fun n => ?_) ?_ h
  · have ho2 : opds (A R B) c.args.toList = some [.nils, .d (.lst (r.map g))] := by simp only [ha, opds, hx, hy]
    simp only [evOp, ho, hc, ho2, hat, hd, Option.getD_some]
    have hif : ∀ (m m' : M (RV × Ups)), (if (#[t, t] : Array TypeId).size = 2 then m else m') = m := fun _ _ => if_pos rfl
    rw [hif]
    show appendD P _ t t _ _ _ = _
    simp only [appendD, ht, hz, hby, hzz, hzs, and_self, if_true, M.bind, appendee, M.pure, M.vacant, hb, M.need]
    simp
  · simp only [Bool.and_eq_true, decide_eq_true_eq]
    exact ⟨by simpa using h1, by simp [hsz]⟩
/-- The length of a list in a box. -/
theorem WO.lenR {α : Type} {g : α → PD} {li : List α} {t e : TypeId} {x : Operand} {c : Call} {id ver : Nat} (hw : wantD ops (A R B) o = some true) (hd : o.dst = some d) (ho : o.op = .call c)
    (hc : c.callee = .builtin .len) (ha : c.args.toList = [x]) (hat : c.argTypes = #[t]) (hx : (A R B).opd x = some (.ref id ver)) (hb : assoc B id = some (.arr ver e (li.map g))) (ht : P.underlying t = some (.slice e))
    (h : WO P H ext mt ops l ((d, .d (.int .i64 (li.length : Int))) :: R) B fun R' B' ts => K R' B' (⟨[id], []⟩ :: ts)) : WO P H ext mt ops (o :: l) R B K := by
  refine WO.step (u := []) (rd := [id]) (c := true) hw hd (fun n => ?_) rfl h
  have ho2 : opds (A R B) c.args.toList = some [.ref id ver] := by simp only [ha, opds, hx]
  simp only [evOp, ho, hc, ho2, hat]
  show lenD P t _ _ = _
  simp [lenD, ht, M.bind, M.get, hb, ofRV, M.pure]
/-- The place of an element of a list in a box. -/
theorem WO.eltG {α : Type} {g : α → PD} {li : List α} {t e : TypeId} {x i : Operand} {k : IntKind} {n : Int} {id ver sz : Nat} {y : Unit} (hg : inO li n = some y) (hw : wantD ops (A R B) o = some true) (hd : o.dst = some d) (ho : o.op = .indexAddr t x i) (hx : (A R B).opd x = some (.ref id ver)) (hi : (A R B).opd i = some (.d (.int k n)))
    (hb : assoc B id = some (.arr ver e (li.map g))) (ht : P.underlying t = some (.slice e)) (hz : szT P e = some sz)
    (h : WO P H ext mt ops l ((d, .elt id ver n.toNat 0) :: R) B fun R' B' ts => K R' B' (⟨[id], []⟩ :: ts)) : WO P H ext mt ops (o :: l) R B K := by
  have hn : 0 ≤ n ∧ n < li.length := by unfold inO at hg; split at hg <;> first | assumption | cases hg
  refine WO.step (u := []) (rd := [id]) (c := decide (0 ≤ n ∧ n < (li.map g).length)) hw hd (fun m => ?_) (by simpa using hn) h
  simp only [evOp, ho, hx, hi, indexAddrD, ht, hz, M.bind, M.get, hb, and_self, if_true, needRV, M.need]
  simp
/-- An element of a list in a box, read. -/
theorem WO.loadE {α : Type} {g : α → PD} {li : List α} {t e : TypeId} {a : Operand} {n : Int} {id ver off : Nat} {y : α} {v : RV} (hg : getO li n = some y) (hw : wantD ops (A R B) o = some true) (hd : o.dst = some d) (ho : o.op = .load t a) (ha : (A R B).opd a = some (.elt id ver n.toNat off))
    (hb : assoc B id = some (.arr ver e (li.map g))) (hv : partPD P t ((g y).cells.drop off) (assoc B) = some ((v, []), [], true))
    (h : WO P H ext mt ops l ((d, v) :: R) B fun R' B' ts => K R' B' (⟨[id], []⟩ :: ts)) : WO P H ext mt ops (o :: l) R B K := by
  obtain ⟨h0, h1, h2⟩ := getO_some hg
  refine WO.step (u := []) (rd := [id]) (c := true) hw hd (fun m => ?_) rfl h
  have h3 : (li.map g)[n.toNat]? = some (g y) := by simp [h2]
  simp only [evOp, ho, ha, loadD, M.bind, M.get, hb, if_true, h3, hv]
  simp
/-- An element of a list in a box, written. -/
theorem WO.storeE {α : Type} {g : α → PD} {li r : List α} {t e : TypeId} {a x : Operand} {n : Int} {id ver sz : Nat} {y : α} {p : PD} (hg : setO li n y = some r) (hsz : ∀ x, (g x).cells.length = sz) (hpt : ∀ x, (g x).put 0 p.cells = g y) (hw : wantD ops (A R B) o = some true) (hd : o.dst = none) (ho : o.op = .store t a x) (ha : (A R B).opd a = some (.elt id ver n.toNat 0)) (hx : (A R B).opd x = some (.d p))
    (hb : assoc B id = some (.arr ver e (li.map g))) (hz : szT P t = some sz) (hs : (RV.d p).sized = true) (hpc : p.cells.length = sz)
    (h : WO P H ext mt ops l R ((id, .arr ver e (r.map g)) :: B) fun R' B' ts => K R' B' (⟨[id], [id]⟩ :: ts)) : WO P H ext mt ops (o :: l) R B K := by
  obtain ⟨h1, rfl⟩ := setO_some hg
  have hlt : n.toNat < li.length := by omega
  have h3 : (li.map g)[n.toNat]? = some (g li[n.toNat]) := by simp [hlt]
  rw [List.map_set, ← hpt li[n.toNat]] at h
  refine WO.stepN (v := .undef) (u := [(id, .arr ver e ((li.map g).set n.toNat ((g li[n.toNat]).put 0 p.cells)))]) (rd := [id]) (c := (RV.d p).sized && decide (p.cells.length = sz ∧ 0 + sz ≤ (g li[n.toNat]).cells.length)) hw hd (fun m => ?_) ?_ h
  · have htp : toPD (.d p) = M.pure (p, []) := rfl
    simp only [evOp, ho, ha, hx, storeD, hz, M.bind, M.get, hb, if_true, htp, M.pure, h3, M.need]
    simp [M.need]
  · simp [hs, hpc, hsz]
end
end Go.Dw
attribute [irreducible] Go.Dw.quoO Go.Dw.remO
