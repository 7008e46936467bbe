/- DsWp: the interpreter's answer, step by step, for arguments that are not closed. -/
import Derived.Test.YtjlbpchimjjcpaaDoorDsFun
import Derived.IntWalk
namespace Go.Ds

/-- A state by lists. -/
abbrev A (R : List (Nat × RV)) (B : List (Nat × Box)) : St := ⟨assoc R, assoc B⟩

/-- With fuel enough, the call gives this. -/
def Ev (P : Program) (H : Hints) (ext : FuncId → Option CallD) (f : FuncId) (args : List RV) (bs : List Box) (r : RV) (bs' : List Box) : Prop :=
  ∃ N, ∀ n, N ≤ n → evFun P H ext n f args bs = some (r, bs')

def WO (P : Program) (H : Hints) (ext : FuncId → Option CallD) (mt : Nat → Bool) (ops : Array Oper) (l : List Oper) (R : List (Nat × RV)) (B : List (Nat × Box)) (K : List (Nat × RV) → List (Nat × Box) → List Tr → Prop) : Prop :=
  ∃ R' B' ts, (∃ N, ∀ n, N ≤ n → evOps P mt (evFun P H ext n) ops l (A R B) = some (A R' B', ts)) ∧ K R' B' ts
def WC (P : Program) (H : Hints) (ext : FuncId → Option CallD) (f : FuncId) (nb : Nat) (c : Code) (R : List (Nat × RV)) (B : List (Nat × Box)) (Q : Ex → List (Nat × RV) → List (Nat × Box) → Prop) : Prop :=
  ∃ e R' B', (∃ N, ∀ n, N ≤ n → evCode P H f nb (evFun P H ext n) n c (A R B) = some (e, A R' B')) ∧ Q e R' B'

def putR (d : Option Nat) (v : RV) (R : List (Nat × RV)) : List (Nat × RV) := match d with | some d => (d, v) :: R | none => R
def upsB : Ups → List (Nat × Box) → List (Nat × Box)
  | [], B => B
  | x :: u, B => upsB u (x :: B)

theorem put_A (d : Option Nat) (v : RV) (R : List (Nat × RV)) (B : List (Nat × Box)) : (A R B).put d v = A (putR d v R) B := by cases d <;> rfl
theorem ups_A : ∀ (u : Ups) (R : List (Nat × RV)) (B : List (Nat × Box)), (A R B).ups u = A R (upsB u B)
  | [], _, _ => rfl
  | (id, b) :: u, R, B => ups_A u R ((id, b) :: B)

section
variable {P : Program} {H : Hints} {ext : FuncId → Option CallD} {mt : Nat → Bool} {ops : Array Oper} {l : List Oper} {R : List (Nat × RV)} {B : List (Nat × Box)} {K : List (Nat × RV) → List (Nat × Box) → List Tr → Prop} {o : Oper} {d : Nat}

theorem WO.nil (h : K R B []) : WO P H ext mt ops [] R B K := ⟨R, B, [], ⟨0, fun _ _ => rfl⟩, h⟩

theorem WO.step' {v : RV} {u : Ups} {rd : List Nat} (hw : wantD ops (A R B) o = some true) (hd : o.dst = some d) (he : ∃ N, ∀ n, N ≤ n → evOp P mt (evFun P H ext n) (A R B) o (assoc B) = some ((v, u), rd, true))
    (h : WO P H ext mt ops l ((d, v) :: R) (upsB u B) fun R' B' ts => K R' B' (⟨rd, u.map (·.1)⟩ :: ts)) : WO P H ext mt ops (o :: l) R B K := by
  obtain ⟨R', B', ts, ⟨N, hN⟩, hK⟩ := h
  obtain ⟨N', he⟩ := he
  refine ⟨R', B', _, ⟨N + N', fun n hn => ?_⟩, hK⟩
  have hs : step1 P mt (evFun P H ext n) ops o (A R B) = some (A ((d, v) :: R) (upsB u B), ⟨rd, u.map (·.1)⟩) := by
    rw [step1_do hw (he n (by omega)), ups_A, put_A, hd]; rfl
  simp only [evOps, hs, hN n (by omega)]

/-- One operation, not a call. -/
theorem WO.step {v : RV} {u : Ups} {rd : List Nat} {c : Bool} (hw : wantD ops (A R B) o = some true) (hd : o.dst = some d) (he : ∀ n, evOp P mt (evFun P H ext n) (A R B) o (assoc B) = some ((v, u), rd, c)) (hc : c = true)
    (h : WO P H ext mt ops l ((d, v) :: R) (upsB u B) fun R' B' ts => K R' B' (⟨rd, u.map (·.1)⟩ :: ts)) : WO P H ext mt ops (o :: l) R B K := by
  subst hc
  exact WO.step' hw hd ⟨0, fun n _ => he n⟩ h
theorem WO.skip (hw : wantD ops (A R B) o = some false) (hd : o.dst = some d) (h : WO P H ext mt ops l ((d, .undef) :: R) B fun R' B' ts => K R' B' (⟨[], []⟩ :: ts)) : WO P H ext mt ops (o :: l) R B K := by
  obtain ⟨R', B', ts, ⟨N, hN⟩, hK⟩ := h
  refine ⟨R', B', _, ⟨N, fun n hn => ?_⟩, hK⟩
  have hs : step1 P mt (evFun P H ext n) ops o (A R B) = some (A ((d, .undef) :: R) B, ⟨[], []⟩) := by
    rw [step1_skip hw, put_A, hd]; rfl
  simp only [evOps, hs, hN n hn]

/-- An operation without a slot. -/
theorem WO.stepN {v : RV} {u : Ups} {rd : List Nat} {c : Bool} (hw : wantD ops (A R B) o = some true) (hd : o.dst = none) (he : ∀ n, evOp P mt (evFun P H ext n) (A R B) o (assoc B) = some ((v, u), rd, c)) (hc : c = true)
    (h : WO P H ext mt ops l R (upsB u B) fun R' B' ts => K R' B' (⟨rd, u.map (·.1)⟩ :: ts)) : WO P H ext mt ops (o :: l) R B K := by
  subst hc
  obtain ⟨R', B', ts, ⟨N, hN⟩, hK⟩ := h
  refine ⟨R', B', _, ⟨N, fun n hn => ?_⟩, hK⟩
  have hs : step1 P mt (evFun P H ext n) ops o (A R B) = some (A R (upsB u B), ⟨rd, u.map (·.1)⟩) := by
    rw [step1_do hw (he n), ups_A, put_A, hd]; rfl
  simp only [evOps, hs, hN n hn]

/-- A value given another name. -/
theorem WO.stepAs {v v' : RV} {u : Ups} {rd : List Nat} {c : Bool} (hw : wantD ops (A R B) o = some true) (hd : o.dst = some d) (he : ∀ n, evOp P mt (evFun P H ext n) (A R B) o (assoc B) = some ((v, u), rd, c)) (hc : c = true) (hv : v = v')
    (h : WO P H ext mt ops l ((d, v') :: R) (upsB u B) fun R' B' ts => K R' B' (⟨rd, u.map (·.1)⟩ :: ts)) : WO P H ext mt ops (o :: l) R B K := by
  subst hv
  exact WO.step hw hd he hc h

/-- A comparison: both outcomes. -/
theorem WO.cmp {op : BinOp} {t t' : TypeId} {x y : Operand} {a b : RV} {p : Prop} [Decidable p] (hw : wantD ops (A R B) o = some true) (hd : o.dst = some d) (ho : o.op = .binOp op t x y t') (hx : (A R B).opd x = some a) (hy : (A R B).opd y = some b)
    (hb : binT P op t a b = some (.bool (decide p), true))
    (h1 : p → WO P H ext mt ops l ((d, .d (.bool true)) :: R) B fun R' B' ts => K R' B' (⟨[], []⟩ :: ts))
    (h2 : ¬p → WO P H ext mt ops l ((d, .d (.bool false)) :: R) B fun R' B' ts => K R' B' (⟨[], []⟩ :: ts)) : WO P H ext mt ops (o :: l) R B K := by
  by_cases hp : p
  · refine WO.step (u := []) (rd := []) hw hd (fun n => ?_) rfl (h1 hp)
    simp only [evOp, ho, hx, hy, hb, hp, decide_true]
    rfl
  · refine WO.step (u := []) (rd := []) hw hd (fun n => ?_) rfl (h2 hp)
    simp only [evOp, ho, hx, hy, hb, hp, decide_false]
    rfl
theorem WO.ints {op : BinOp} {t t' : TypeId} {x y : Operand} {k k' : IntKind} {a b : Int} {p : Prop} [Decidable p] (hw : wantD ops (A R B) o = some true) (hd : o.dst = some d) (ho : o.op = .binOp op t x y t') (hx : (A R B).opd x = some (.d (.int k a))) (hy : (A R B).opd y = some (.d (.int k' b)))
    (hk : k = k') (hop : (match op with | .eql | .neq | .lss | .leq | .gtr | .geq => true | _ => false) = true) (hb : intBin op k a b = some (.bool (decide p), true))
    (h1 : p → WO P H ext mt ops l ((d, .d (.bool true)) :: R) B fun R' B' ts => K R' B' (⟨[], []⟩ :: ts))
    (h2 : ¬p → WO P H ext mt ops l ((d, .d (.bool false)) :: R) B fun R' B' ts => K R' B' (⟨[], []⟩ :: ts)) : WO P H ext mt ops (o :: l) R B K := by
  subst hk
  refine WO.cmp hw hd ho hx hy ?_ h1 h2
  cases op <;> first | (cases hop; done) | (simp only [binT, binPD, if_true, hb])
theorem intBin_eql (k : IntKind) (a b : Int) : intBin .eql k a b = some (.bool (decide (a = b)), true) := rfl
theorem intBin_neq (k : IntKind) (a b : Int) : intBin .neq k a b = some (.bool (decide (a ≠ b)), true) := by
  simp only [intBin]
  congr 3
  exact Bool.eq_iff_iff.2 (by simp)
/-- Two texts compared. -/
theorem WO.streq {t t' : TypeId} {x y : Operand} {a b : List UInt8} (hw : wantD ops (A R B) o = some true) (hd : o.dst = some d) (ho : o.op = .binOp .eql t x y t') (hx : (A R B).opd x = some (.d (.str a))) (hy : (A R B).opd y = some (.d (.str b)))
    (h1 : a = b → WO P H ext mt ops l ((d, .d (.bool true)) :: R) B fun R' B' ts => K R' B' (⟨[], []⟩ :: ts))
    (h2 : a ≠ b → WO P H ext mt ops l ((d, .d (.bool false)) :: R) B fun R' B' ts => K R' B' (⟨[], []⟩ :: ts)) : WO P H ext mt ops (o :: l) R B K := by
  refine WO.cmp (p := a = b) hw hd ho hx hy ?_ h1 h2
  simp only [binT, binPD, strBin]
  congr 3
  exact Bool.eq_iff_iff.2 (by simp)
theorem WO.strne {t t' : TypeId} {x y : Operand} {a b : List UInt8} (hw : wantD ops (A R B) o = some true) (hd : o.dst = some d) (ho : o.op = .binOp .neq t x y t') (hx : (A R B).opd x = some (.d (.str a))) (hy : (A R B).opd y = some (.d (.str b)))
    (h1 : a ≠ b → WO P H ext mt ops l ((d, .d (.bool true)) :: R) B fun R' B' ts => K R' B' (⟨[], []⟩ :: ts))
    (h2 : a = b → WO P H ext mt ops l ((d, .d (.bool false)) :: R) B fun R' B' ts => K R' B' (⟨[], []⟩ :: ts)) : WO P H ext mt ops (o :: l) R B K := by
  refine WO.cmp (p := a ≠ b) hw hd ho hx hy ?_ h1 (fun h => h2 (Classical.not_not.1 h))
  simp only [binT, binPD, strBin]
  congr 3
  exact Bool.eq_iff_iff.2 (by simp)

/-- A sum in range. -/
theorem WO.add {t t' : TypeId} {x y : Operand} {k k' : IntKind} {a b : Int} (hw : wantD ops (A R B) o = some true) (hd : o.dst = some d) (ho : o.op = .binOp .add t x y t') (hx : (A R B).opd x = some (.d (.int k a))) (hy : (A R B).opd y = some (.d (.int k' b))) (hk : k = k')
    (hb : k.wrap (a + b) = a + b) (h : WO P H ext mt ops l ((d, .d (.int k (a + b))) :: R) B fun R' B' ts => K R' B' (⟨[], []⟩ :: ts)) : WO P H ext mt ops (o :: l) R B K := by
  subst hk
  refine WO.step (u := []) (rd := []) hw hd (fun n => ?_) rfl h
  simp only [evOp, ho, hx, hy, binT, binPD, if_true, intBin, hb]
  rfl
theorem WO.sub {t t' : TypeId} {x y : Operand} {k k' : IntKind} {a b : Int} (hw : wantD ops (A R B) o = some true) (hd : o.dst = some d) (ho : o.op = .binOp .sub t x y t') (hx : (A R B).opd x = some (.d (.int k a))) (hy : (A R B).opd y = some (.d (.int k' b))) (hk : k = k')
    (hb : k.wrap (a - b) = a - b) (h : WO P H ext mt ops l ((d, .d (.int k (a - b))) :: R) B fun R' B' ts => K R' B' (⟨[], []⟩ :: ts)) : WO P H ext mt ops (o :: l) R B K := by
  subst hk
  refine WO.step (u := []) (rd := []) hw hd (fun n => ?_) rfl h
  simp only [evOp, ho, hx, hy, binT, binPD, if_true, intBin, hb]
  rfl
/-- Two texts joined. -/
theorem WO.cat {t t' : TypeId} {x y : Operand} {a b : List UInt8} (hw : wantD ops (A R B) o = some true) (hd : o.dst = some d) (ho : o.op = .binOp .add t x y t') (hx : (A R B).opd x = some (.d (.str a))) (hy : (A R B).opd y = some (.d (.str b)))
    (hb : a.length + b.length ≤ 2 ^ 40) (h : WO P H ext mt ops l ((d, .d (.str (a ++ b))) :: R) B fun R' B' ts => K R' B' (⟨[], []⟩ :: ts)) : WO P H ext mt ops (o :: l) R B K := by
  refine WO.step (u := []) (rd := []) (c := decide (((a.length + b.length : Nat) : Int) ≤ IntKind.i64.max)) hw hd (fun n => ?_) ?_ h
  · simp only [evOp, ho, hx, hy, binT, binPD, strBin]
    rfl
  · have : IntKind.i64.max = 9223372036854775807 := by decide
    rw [this]
    exact decide_eq_true (by omega)
/-- Two structs that are equal. -/
theorem WO.same {t t' : TypeId} {x y : Operand} {a b : List PD} {r : Bool} (hw : wantD ops (A R B) o = some true) (hd : o.dst = some d) (ho : o.op = .binOp .eql t x y t') (hx : (A R B).opd x = some (.d (.agg a))) (hy : (A R B).opd y = some (.d (.agg b)))
    (he : binT P .eql t (.d (.agg a)) (.d (.agg b)) = some (.bool r, true)) (hr : r = true) (h : WO P H ext mt ops l ((d, .d (.bool true)) :: R) B fun R' B' ts => K R' B' (⟨[], []⟩ :: ts)) : WO P H ext mt ops (o :: l) R B K := by
  subst hr
  refine WO.step (u := []) (rd := []) (c := true) hw hd (fun n => ?_) rfl h
  simp only [evOp, ho, hx, hy, he]
  rfl
/-- A byte of a text. -/
theorem WO.idx {t : TypeId} {x i : Operand} {s : List UInt8} {k : IntKind} {n : Int} (hw : wantD ops (A R B) o = some true) (hd : o.dst = some d) (ho : o.op = .index t x i) (hx : (A R B).opd x = some (.d (.str s))) (hi : (A R B).opd i = some (.d (.int k n))) (ht : P.underlying t = some .string)
    (hn : 0 ≤ n ∧ n < s.length) (h : WO P H ext mt ops l ((d, .d (.int .u8 ((s.getD n.toNat 0).toNat : Nat))) :: R) B fun R' B' ts => K R' B' (⟨[], []⟩ :: ts)) : WO P H ext mt ops (o :: l) R B K := by
  refine WO.step (u := []) (rd := []) (c := decide (0 ≤ n ∧ n < s.length)) hw hd (fun m => ?_) (by simpa using hn) h
  simp only [evOp, ho, hx, hi, indexD, indexS, ht]
  rfl
/-- A part of a text. -/
theorem WO.cut {t : TypeId} {x : Operand} {lo hi : Option Operand} {s : List UInt8} {rl rh : Option RV} {a b : Int} (hw : wantD ops (A R B) o = some true) (hd : o.dst = some d) (ho : o.op = .slice t x lo hi none) (hx : (A R B).opd x = some (.d (.str s))) (ht : P.underlying t = some .string)
    (hl : opdOpt (A R B) lo = some rl) (hh : opdOpt (A R B) hi = some rh) (ha : bnd rl 0 = some a) (hb : bnd rh s.length = some b) (hn : 0 ≤ a ∧ a ≤ b ∧ b ≤ s.length)
    (h : WO P H ext mt ops l ((d, .d (.str (cut s a.toNat (hiOf rh b)))) :: R) B fun R' B' ts => K R' B' (⟨[], []⟩ :: ts)) : WO P H ext mt ops (o :: l) R B K := by
  refine WO.step (u := []) (rd := []) (c := decide (0 ≤ a ∧ a ≤ b ∧ b ≤ s.length)) hw hd (fun m => ?_) (by simpa using hn) h
  have h0 : opdOpt (A R B) none = some none := rfl
  simp only [evOp, ho, hx, hl, hh, h0, sliceD, ht, ha, hb]
  rfl

/-- All but the first byte. -/
theorem WO.tail {t : TypeId} {x lo : Operand} {c : UInt8} {r : List UInt8} {k : IntKind} (hw : wantD ops (A R B) o = some true) (hd : o.dst = some d) (ho : o.op = .slice t x (some lo) none none) (hx : (A R B).opd x = some (.d (.str (c :: r)))) (hl : (A R B).opd lo = some (.d (.int k 1)))
    (ht : P.underlying t = some .string) (h : WO P H ext mt ops l ((d, .d (.str r)) :: R) B fun R' B' ts => K R' B' (⟨[], []⟩ :: ts)) : WO P H ext mt ops (o :: l) R B K := by
  refine WO.step (u := []) (rd := []) (c := true) hw hd (fun m => ?_) rfl h
  have h0 : opdOpt (A R B) none = some none := rfl
  have h1 : opdOpt (A R B) (some lo) = some (some (.d (.int k 1))) := by simp only [opdOpt, hl]
  have hc : (0 : Int) ≤ 1 ∧ (1 : Int) ≤ ((c :: r).length : Int) ∧ (((c :: r).length : Int)) ≤ (c :: r).length := by simp; omega
  simp only [evOp, ho, hx, h0, h1, sliceD, ht, bnd, hc, and_self, decide_true]
  rfl

/-- A call of a function. -/
theorem WO.call {c : Call} {g : FuncId} {args as : List RV} {ids : List Nat} {u0 : Ups} {bs bs' : List Box} {r v : RV} {u : Ups} {ra rg rh : List Nat} {ca cg ch : Bool} {fo : Operand}
    (hw : wantD ops (A R B) o = some true) (hd : o.dst = some d) (ho : o.op = .call c) (hc : c.callee = .value fo) (hf : (A R B).opd fo = some (.d (.raw (.func (.func g) ⟨[]⟩ ⟨[]⟩)))) (ha : opds (A R B) c.args.toList = some args)
    (hA : argsD args 0 (assoc B) = some ((as, ids, u0), ra, ca)) (hca : ca = true) (hG : getVars ids (assoc B) = some (bs, rg, cg)) (hcg : cg = true)
    (hE : Ev P H ext g as bs r bs') (hl : bs'.length = ids.length) (hn : nodup ids = true) (hh : homeD (d * 16) r (assoc B) = some ((v, u), rh, ch)) (hch : ch = true)
    (h : WO P H ext mt ops l ((d, v) :: R) (upsB (u0 ++ (ids.zip bs' ++ u)) B) fun R' B' ts => K R' B' (⟨ra ++ (rg ++ (rh ++ [])), (u0 ++ (ids.zip bs' ++ u)).map (·.1)⟩ :: ts)) : WO P H ext mt ops (o :: l) R B K := by
  subst hca hcg hch
  obtain ⟨N, hN⟩ := hE
  refine WO.step' hw hd ⟨N, fun n hn' => ?_⟩ h
  simp only [evOp, ho, hd, Option.getD_some, hc, ha, hf, callD, M.bind, hA, hG, hN n hn', hl, hn, and_self, if_true, hh, M.pure, Bool.and_true]
/-- A call with a truth value: both outcomes. -/
theorem WO.callB {c : Call} {g : FuncId} {args as : List RV} {ids : List Nat} {u0 : Ups} {bs bs' : List Box} {b : Bool} {ra rg : List Nat} {ca cg : Bool} {fo : Operand}
    (hw : wantD ops (A R B) o = some true) (hd : o.dst = some d) (ho : o.op = .call c) (hc : c.callee = .value fo) (hf : (A R B).opd fo = some (.d (.raw (.func (.func g) ⟨[]⟩ ⟨[]⟩)))) (ha : opds (A R B) c.args.toList = some args)
    (hA : argsD args 0 (assoc B) = some ((as, ids, u0), ra, ca)) (hca : ca = true) (hG : getVars ids (assoc B) = some (bs, rg, cg)) (hcg : cg = true)
    (hE : Ev P H ext g as bs (.d (.bool b)) bs') (hl : bs'.length = ids.length) (hn : nodup ids = true)
    (h1 : b = true → WO P H ext mt ops l ((d, .d (.bool true)) :: R) (upsB (u0 ++ (ids.zip bs' ++ [])) B) fun R' B' ts => K R' B' (⟨ra ++ (rg ++ ([] ++ [])), (u0 ++ (ids.zip bs' ++ ([] : Ups))).map (·.1)⟩ :: ts))
    (h2 : b = false → WO P H ext mt ops l ((d, .d (.bool false)) :: R) (upsB (u0 ++ (ids.zip bs' ++ [])) B) fun R' B' ts => K R' B' (⟨ra ++ (rg ++ ([] ++ [])), (u0 ++ (ids.zip bs' ++ ([] : Ups))).map (·.1)⟩ :: ts)) : WO P H ext mt ops (o :: l) R B K := by
  cases b with
  | true => exact WO.call (rh := []) hw hd ho hc hf ha hA hca hG hcg hE hl hn rfl rfl (h1 rfl)
  | false => exact WO.call (rh := []) hw hd ho hc hf ha hA hca hG hcg hE hl hn rfl rfl (h2 rfl)
/-- The place of an element of a list. -/
theorem WO.elem {t e : TypeId} {x i : Operand} {es : List PD} {k : IntKind} {n : Int} {sz : Nat} {y : PD} {cs : List PD} (hw : wantD ops (A R B) o = some true) (hd : o.dst = some d) (ho : o.op = .indexAddr t x i) (hx : (A R B).opd x = some (.d (.lst es))) (hi : (A R B).opd i = some (.d (.int k n)))
    (ht : P.underlying t = some (.slice e)) (hz : szT P e = some sz) (hn : 0 ≤ n) (hy : es[n.toNat]? = some y) (hc : y.cells = cs) (hcl : cs.length = sz)
    (h : WO P H ext mt ops l ((d, .cptr cs) :: R) B fun R' B' ts => K R' B' (⟨[], []⟩ :: ts)) : WO P H ext mt ops (o :: l) R B K := by
  subst hc
  have hlt : n.toNat < es.length := (List.getElem?_eq_some_iff.1 hy).1
  have hg : es.getD n.toNat default = y := by simp [hy]
  have hn' : 0 ≤ n ∧ n < es.length := by omega
  refine WO.step (u := []) (rd := []) (c := true) hw hd (fun m => ?_) rfl h
  simp only [evOp, ho, hx, hi, indexAddrD, ht, hz, hg, hn', hcl, and_self, decide_true, beq_self_eq_true, Bool.and_true]
  rfl
end

section
variable {P : Program} {H : Hints} {ext : FuncId → Option CallD} {f : FuncId} {nb : Nat} {R : List (Nat × RV)} {B : List (Nat × Box)} {Q : Ex → List (Nat × RV) → List (Nat × Box) → Prop}

theorem WC.skip (h : Q .normal R B) : WC P H ext f nb .skip R B Q := ⟨_, R, B, ⟨0, fun _ _ => rfl⟩, h⟩
theorem WC.ret (h : Q .ret R B) : WC P H ext f nb .ret R B Q := ⟨_, R, B, ⟨0, fun _ _ => rfl⟩, h⟩
theorem WC.exit {id : Nat} (h : Q (.exit id) R B) : WC P H ext f nb (.exit id) R B Q := ⟨_, R, B, ⟨0, fun _ _ => rfl⟩, h⟩
theorem WC.regionAny {id : Nat} {ops : Array Oper} {dr : Bool} {R0 : List (Nat × RV)} {B0 : List (Nat × Box)} (hg : ghosts P nb (A R B) (H.at_ f id) = some (A R0 B0))
    (h : WO P H ext (H.mt f) ops ops.toList R0 B0 fun R' B' ts => (dr = true → ordOk ops ts = true) ∧ Q .normal R' B') : WC P H ext f nb (.region id ops dr) R B Q := by
  obtain ⟨R', B', ts, ⟨N, hN⟩, ho, hQ⟩ := h
  refine ⟨_, R', B', ⟨N, fun n hn => ?_⟩, hQ⟩
  simp only [evCode, evRegion, hg, hN n hn]
  cases dr with
  | false => simp
  | true => simp [ho rfl]
theorem WC.region {id : Nat} {ops : Array Oper} {l : List Oper} {R0 : List (Nat × RV)} {B0 : List (Nat × Box)} (hg : ghosts P nb (A R B) (H.at_ f id) = some (A R0 B0)) (hl : ops.toList = l)
    (h : WO P H ext (H.mt f) ops l R0 B0 fun R' B' _ => Q .normal R' B') : WC P H ext f nb (.region id ops false) R B Q := by
  subst hl
  obtain ⟨R', B', ts, hN, hQ⟩ := h
  exact WC.regionAny hg ⟨R', B', ts, hN, ⟨(fun h => by cases h), hQ⟩⟩
theorem WC.regionD {id : Nat} {ops : Array Oper} {l : List Oper} {R0 : List (Nat × RV)} {B0 : List (Nat × Box)} (hg : ghosts P nb (A R B) (H.at_ f id) = some (A R0 B0)) (hl : ops.toList = l)
    (h : WO P H ext (H.mt f) ops l R0 B0 fun R' B' ts => ordOk ops ts = true ∧ Q .normal R' B') : WC P H ext f nb (.region id ops true) R B Q := by
  subst hl
  obtain ⟨R', B', ts, hN, h1, hQ⟩ := h
  exact WC.regionAny hg ⟨R', B', ts, hN, ⟨(fun _ => h1), hQ⟩⟩
theorem WC.seq {a b : Code} (h : WC P H ext f nb a R B fun e R' B' => match e with | .normal => WC P H ext f nb b R' B' Q | e => Q e R' B') : WC P H ext f nb (.seq a b) R B Q := by
  obtain ⟨e, R', B', ⟨N, hN⟩, h⟩ := h
  cases e with
  | normal =>
    obtain ⟨e, R'', B'', ⟨N', hN'⟩, h⟩ := h
    exact ⟨e, R'', B'', ⟨N + N', fun n hn => by simp only [evCode, hN n (by omega), hN' n (by omega)]⟩, h⟩
  | exit id => exact ⟨_, R', B', ⟨N, fun n hn => by simp only [evCode, hN n hn]⟩, h⟩
  | ret => exact ⟨_, R', B', ⟨N, fun n hn => by simp only [evCode, hN n hn]⟩, h⟩
theorem WC.regionSeq {id : Nat} {ops : Array Oper} {l : List Oper} {R0 : List (Nat × RV)} {B0 : List (Nat × Box)} {b : Code} (hg : ghosts P nb (A R B) (H.at_ f id) = some (A R0 B0)) (hl : ops.toList = l)
    (h : WO P H ext (H.mt f) ops l R0 B0 fun R' B' _ => WC P H ext f nb b R' B' Q) : WC P H ext f nb (.seq (.region id ops false) b) R B Q := WC.seq (WC.region hg hl h)
theorem WC.regionDSeq {id : Nat} {ops : Array Oper} {l : List Oper} {R0 : List (Nat × RV)} {B0 : List (Nat × Box)} {b : Code} (hg : ghosts P nb (A R B) (H.at_ f id) = some (A R0 B0)) (hl : ops.toList = l)
    (h : WO P H ext (H.mt f) ops l R0 B0 fun R' B' ts => ordOk ops ts = true ∧ WC P H ext f nb b R' B' Q) : WC P H ext f nb (.seq (.region id ops true) b) R B Q := WC.seq (WC.regionD hg hl h)
theorem WC.cond {c : Operand} {a b : Code} {t : Bool} (hc : (A R B).opd c = some (.d (.bool t))) (h1 : t = true → WC P H ext f nb a R B Q) (h2 : t = false → WC P H ext f nb b R B Q) : WC P H ext f nb (.cond c a b) R B Q := by
  cases t with
  | true =>
    obtain ⟨e, R', B', ⟨N, hN⟩, h⟩ := h1 rfl
    exact ⟨e, R', B', ⟨N, fun n hn => by simp only [evCode, hc, if_true, hN n hn]⟩, h⟩
  | false =>
    obtain ⟨e, R', B', ⟨N, hN⟩, h⟩ := h2 rfl
    exact ⟨e, R', B', ⟨N, fun n hn => by simp only [evCode, hc, Bool.false_eq_true, if_false, hN n hn]⟩, h⟩
theorem WC.condT {c : Operand} {a b : Code} (hc : (A R B).opd c = some (.d (.bool true))) (h1 : WC P H ext f nb a R B Q) : WC P H ext f nb (.cond c a b) R B Q := WC.cond hc (fun _ => h1) (fun h => by cases h)
theorem WC.condF {c : Operand} {a b : Code} (hc : (A R B).opd c = some (.d (.bool false))) (h1 : WC P H ext f nb b R B Q) : WC P H ext f nb (.cond c a b) R B Q := WC.cond hc (fun h => by cases h) (fun _ => h1)
theorem WC.block {id : Nat} {b : Code} (h : WC P H ext f nb b R B fun e R' B' => match e with | .exit id' => (id' = id → Q .normal R' B') ∧ (id' ≠ id → Q (.exit id') R' B') | e => Q e R' B') : WC P H ext f nb (.block id b) R B Q := by
  obtain ⟨e, R', B', ⟨N, hN⟩, h⟩ := h
  cases e with
  | exit id' =>
    by_cases hid : id' = id
    · exact ⟨.normal, R', B', ⟨N, fun n hn => by simp only [evCode, hN n hn, hid, if_true]⟩, h.1 hid⟩
    · exact ⟨.exit id', R', B', ⟨N, fun n hn => by simp only [evCode, hN n hn, hid, if_false]⟩, h.2 hid⟩
  | normal => exact ⟨_, R', B', ⟨N, fun n hn => by simp only [evCode, hN n hn]⟩, h⟩
  | ret => exact ⟨_, R', B', ⟨N, fun n hn => by simp only [evCode, hN n hn]⟩, h⟩

/-- The loop, with a count of rounds that is enough. -/
def WL (P : Program) (H : Hints) (ext : FuncId → Option CallD) (f : FuncId) (nb : Nat) (c : Code) (R : List (Nat × RV)) (B : List (Nat × Box)) (Q : Ex → List (Nat × RV) → List (Nat × Box) → Prop) : Prop :=
  ∃ e R' B', (∃ N, ∀ n m, N ≤ n → N ≤ m → evLoop (evCode P H f nb (evFun P H ext n) n c) m (A R B) = some (e, A R' B')) ∧ Q e R' B'
theorem WL.round {b : Code} (h : WC P H ext f nb b R B fun e R' B' => match e with | .normal => WL P H ext f nb b R' B' Q | e => Q e R' B') : WL P H ext f nb b R B Q := by
  obtain ⟨e, R', B', ⟨N, hN⟩, h⟩ := h
  cases e with
  | normal =>
    obtain ⟨e, R'', B'', ⟨N', hN'⟩, h⟩ := h
    refine ⟨e, R'', B'', ⟨N + N' + 1, fun n m hn hm => ?_⟩, h⟩
    obtain ⟨m, rfl⟩ : ∃ k, m = k + 1 := ⟨m - 1, by omega⟩
    simp only [evLoop, hN n (by omega), hN' n m (by omega) (by omega)]
  | exit id =>
    refine ⟨_, R', B', ⟨N + 1, fun n m hn hm => ?_⟩, h⟩
    obtain ⟨m, rfl⟩ : ∃ k, m = k + 1 := ⟨m - 1, by omega⟩
    simp only [evLoop, hN n (by omega)]
  | ret =>
    refine ⟨_, R', B', ⟨N + 1, fun n m hn hm => ?_⟩, h⟩
    obtain ⟨m, rfl⟩ : ∃ k, m = k + 1 := ⟨m - 1, by omega⟩
    simp only [evLoop, hN n (by omega)]
theorem WC.loop {b : Code} (h : WL P H ext f nb b R B Q) : WC P H ext f nb (.loop b) R B Q := by
  obtain ⟨e, R', B', ⟨N, hN⟩, h⟩ := h
  exact ⟨e, R', B', ⟨N, fun n hn => by simp only [evCode]; exact hN n n hn hn⟩, h⟩

theorem WL.ind {b : Code} (I : Nat → List (Nat × RV) → List (Nat × Box) → Prop) (k : Nat) (hI : I k R B)
    (hstep : ∀ k R B, I k R B → (∀ k' R' B', k' < k → I k' R' B' → WL P H ext f nb b R' B' Q) → WL P H ext f nb b R B Q) : WL P H ext f nb b R B Q := by
  induction k using Nat.strongRecOn generalizing R B with
  | ind k ih => exact hstep k R B hI fun k' R' B' hk hI' => ih k' hk hI'

/-- The end of a body. -/
def Done (P : Program) (fn : Func) (nb : Nat) (r : RV) (bs' : List Box) : Ex → List (Nat × RV) → List (Nat × Box) → Prop
  | .exit _, _, _ => False
  | _, R, B => finish P fn nb (A R B) = some (r, bs')
theorem WC.done {fn : Func} {r : RV} {bs' : List Box} {x : RV × List Box} {e : Ex} (he : (match e with | .exit _ => false | _ => true) = true) (hf : finish P fn nb (A R B) = some x) (hx : x = (r, bs')) : Done P fn nb r bs' e R B := by
  subst hx
  cases e with
  | exit id => cases he
  | normal => exact hf
  | ret => exact hf

theorem finish_tmp1 {fn : Func} {t : Nat} {p : PD} (hr : fn.results = #[.tmp t]) (h : assoc R t = some (.d p)) : finish P fn 0 (A R B) = some (.d p, []) := by
  simp [finish, hr, resD, resV, h, M.bind, M.pure, retD1, boxesOut, M.need, nodup, disj, one]
theorem finish_tmp2 {fn : Func} {t u : Nat} {p q : PD} (hr : fn.results = #[.tmp t, .tmp u]) (h : assoc R t = some (.d p)) (h' : assoc R u = some (.d q)) : finish P fn 0 (A R B) = some (.tup [.d p, .d q], []) := by
  simp [finish, hr, resD, resV, h, h', M.bind, M.pure, retD1, boxesOut, M.need, nodup, disj, one]

def enumA {α : Type} : Nat → List α → List (Nat × α)
  | _, [] => []
  | k, a :: l => (k, a) :: enumA (k + 1) l
theorem assoc_enum {α : Type} : ∀ (l : List α) (k i : Nat), assoc (enumA k l) (k + i) = look l i
  | [], _, _ => rfl
  | a :: l, k, 0 => by simp [enumA, assoc, look]
  | a :: l, k, i + 1 => by
    have h : ¬ k + (i + 1) = k := by omega
    simp only [enumA, assoc, h, if_false, look]
    rw [← assoc_enum l (k + 1) i, Nat.add_right_comm]; rfl
theorem look_A (args : List RV) (bs : List Box) : (⟨look args, look bs⟩ : St) = A (enumA 0 args) (enumA 0 bs) := by
  have h : ∀ {α : Type} (l : List α), look l = assoc (enumA 0 l) := fun l => funext fun i => by rw [← assoc_enum l 0 i, Nat.zero_add]
  rw [h args, h bs]

/-- A function by its body. -/
theorem Ev.body {args : List RV} {bs bs' : List Box} {r : RV} {fn : Func} {c : Code} (hx : ext f = none) (hf : P.funcs[f]? = some fn) (hb : fn.body = some c) (hd : (dstOk fn.ntmps c && (fn.name != "runtime.NumGoroutine") && decide (args.length ≤ fn.ntmps)) = true)
    (h : WC P H ext f bs.length c (enumA 0 args) (enumA 0 bs) (Done P fn bs.length r bs')) : Ev P H ext f args bs r bs' := by
  obtain ⟨e, R', B', ⟨N, hN⟩, h⟩ := h
  refine ⟨N + 1, fun n hn => ?_⟩
  obtain ⟨n, rfl⟩ : ∃ k, n = k + 1 := ⟨n - 1, by omega⟩
  simp only [evFun, hx, hf, hb, hd, if_true, look_A, hN n (by omega)]
  cases e with
  | exit id => cases h
  | normal => exact h
  | ret => exact h
theorem Ev.lib {args : List RV} {bs bs' : List Box} {r : RV} {g : CallD} (hx : ext f = some g) (hg : g f args bs = some (r, bs')) : Ev P H ext f args bs r bs' := by
  refine ⟨1, fun n hn => ?_⟩
  obtain ⟨n, rfl⟩ : ∃ k, n = k + 1 := ⟨n - 1, by omega⟩
  simp only [evFun, hx, hg]
theorem Ev.callOk {base : Snap} {args : List RV} {bs bs' : List Box} {r : RV} (hext : ExtOk P base ext) (hm : P.follows .mixedOrders = true) (h : Ev P H ext f args bs r bs') : CallOk P base f args bs r bs' := by
  obtain ⟨N, h⟩ := h
  exact evFun_sound hext hm N f args bs r bs' (h N (Nat.le_refl _))
end
end Go.Ds
