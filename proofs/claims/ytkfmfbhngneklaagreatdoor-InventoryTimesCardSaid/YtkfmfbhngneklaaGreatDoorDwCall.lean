/- DwCall: a call, whole. -/
import Derived.Test.YtkfmfbhngneklaaGreatDoorDwRen
namespace Go.Dw

def blks (ls : List Loc) : List Nat := ls.filterMap Loc.block
theorem look_get {α : Type} : ∀ (l : List α) (i : Nat), look l i = l[i]?
  | [], _ => rfl
  | a :: r, 0 => rfl
  | a :: r, n + 1 => by rw [look, look_get r n]; rfl
theorem blks_mem {ls : List Loc} {b : Nat} : b ∈ blks ls ↔ ∃ k L, look ls k = some L ∧ L.block = some b := by
  unfold blks
  rw [List.mem_filterMap]
  constructor
  · rintro ⟨L, hL, hb⟩
    obtain ⟨k, hk⟩ := List.getElem?_of_mem hL
    exact ⟨k, L, by rw [look_get]; exact hk, hb⟩
  · rintro ⟨k, L, hk, hb⟩
    rw [look_get] at hk
    exact ⟨L, List.mem_of_getElem? hk, hb⟩

/-- The function has a body that is entered. -/
def Enters (P : Program) (f : FuncId) : Prop := ∃ fn, P.funcs[f]? = some fn ∧ fn.name ≠ "runtime.NumGoroutine" ∧ fn.body.isNone = false
/-- A call of f comes back with a value of which R holds: by its body, or at once. -/
def Invokes (P : Program) (f : FuncId) (vs : Array Value) (w : World) (R : Value → World → Prop) : Prop :=
  (Enters P f ∧ Calls P f vs w fun e w' => ∃ v, e = .returned v ∧ R v w') ∨ (∃ v w', (callFunc f vs).run P w = .ok (.value v) w' ∧ R v w')

/-- What stands behind a call. -/
structure After (P : Program) (E : Prop) (S : Snap) (w : World) (ls : List Loc) (n : Nat) (r : RV) (bs' : List Box) (v : Value) (w' : World) (S' : Snap) (ls' : List Loc) : Prop where
  len : ls'.length = bs'.length
  more : n ≤ bs'.length
  sub : Sub S S'
  mem : Mem P S' (look ls') (look bs') w'
  sold : ∀ ad v, S' ad = some v → S ad = some v ∨ w.heap.size ≤ ad.block ∨ ad.block ∈ blks ls
  le : LocLe (look ls) (look ls')
  own : ∀ k L b, look ls' k = some L → L.block = some b → b ∈ blks ls ∨ w.heap.size ≤ b
  frame : Frame E (blks ls) w w'
  res : R S' (look ls') r v

/-- What a call is promised to do. -/
def CallOk (P : Program) (base : Base) (f : FuncId) (args : List RV) (bs : List Box) (r : RV) (bs' : List Box) : Prop :=
  ∀ (S : Snap) (w : World) (ls : List Loc) (vs : Array Value), Mem P S (look ls) (look bs) w → ls.length = bs.length → Sub base.snap S →
    args.length = vs.size → (∀ (i : Nat) a v, args[i]? = some a → vs[i]? = some v → R S (look ls) a v) →
    Invokes P f vs w fun v w' => ∃ S' ls', After P base.mono S w ls bs.length r bs' v w' S' ls'
def CallSound (P : Program) (base : Base) (call : CallD) : Prop := ∀ f args bs r bs', call f args bs = some (r, bs') → CallOk P base f args bs r bs'

section
variable {P : Program} {X : Ctx} {S : Snap} {loc : Locs} {s : St} {tm : Array Value} {w : World}

theorem argD_some {by_ : Bool} {c x : RV} {b : Boxes} {u : Ups} {r : List Nat} (h : argD by_ c b = some ((x, u), r, true)) :
    deads u ∧ (∀ y ∈ u, ∃ ver e es, b y.1 = some (.arr ver e es)) ∧
    ∀ S loc S' loc' v, Sub S S' → LocLe loc loc' → (∀ y ∈ u, Frz b S loc S' y.1) → R S loc c v → R S' loc' x v := by
  have same : ∀ {r : List Nat}, M.pure (c, ([] : Ups)) b = some ((x, u), r, true) → deads u ∧ (∀ y ∈ u, ∃ ver e es, b y.1 = some (.arr ver e es)) ∧
      ∀ S loc S' loc' v, Sub S S' → LocLe loc loc' → (∀ y ∈ u, Frz b S loc S' y.1) → R S loc c v → R S' loc' x v := by
    intro r h
    obtain ⟨h1, -, -⟩ := M.pure_some h
    cases h1
    exact ⟨(fun y hy => by cases hy), (fun y hy => by cases hy), fun S loc S' loc' v hs hl _ hr => hr.mono hs hl⟩
  have data : ∀ {r : List Nat} {p : PD} {u1 : Ups}, toPD c b = some ((p, u1), r, true) → x = .d p → u = u1 → deads u ∧ (∀ y ∈ u, ∃ ver e es, b y.1 = some (.arr ver e es)) ∧
      ∀ S loc S' loc' v, Sub S S' → LocLe loc loc' → (∀ y ∈ u, Frz b S loc S' y.1) → R S loc c v → R S' loc' x v := by
    rintro r p u1 h rfl rfl
    obtain ⟨a1, a2, a3⟩ := toPD_some h
    exact ⟨a1, a2, fun S loc S' loc' v hs _ hf hr => .d (a3 S loc S' v hr hs hf)⟩
  have need : (M.bind (toPD c) fun (p, u) => M.need c.sized ((RV.d p, u) : RV × Ups)) b = some ((x, u), r, true) → deads u ∧ (∀ y ∈ u, ∃ ver e es, b y.1 = some (.arr ver e es)) ∧
      ∀ S loc S' loc' v, Sub S S' → LocLe loc loc' → (∀ y ∈ u, Frz b S loc S' y.1) → R S loc c v → R S' loc' x v := by
    intro h
    obtain ⟨⟨p, u1⟩, r1, r2, h1, h2, _⟩ := M.bind_some h
    obtain ⟨h3, -, -⟩ := M.need_some h2
    cases h3
    exact data h1 rfl rfl
  have byref : (if by_ then M.pure (c, ([] : Ups)) else M.bind (toPD c) fun (p, u) => M.pure ((RV.d p, u) : RV × Ups)) b = some ((x, u), r, true) → deads u ∧ (∀ y ∈ u, ∃ ver e es, b y.1 = some (.arr ver e es)) ∧
      ∀ S loc S' loc' v, Sub S S' → LocLe loc loc' → (∀ y ∈ u, Frz b S loc S' y.1) → R S loc c v → R S' loc' x v := by
    intro h
    cases by_ with
    | true => exact same h
    | false =>
      simp only [Bool.false_eq_true, if_false] at h
      obtain ⟨⟨p, u1⟩, r1, r2, h1, h2, _⟩ := M.bind_some h
      obtain ⟨h3, -, -⟩ := M.pure_some h2
      cases h3
      exact data h1 rfl rfl
  cases c with
  | ptr _ _ => exact same h
  | elt _ _ _ _ => exact same h
  | clo _ _ => exact same h
  | fview _ _ _ => exact need h
  | ref _ _ => exact byref h
  | view _ _ _ _ => exact byref h
  | d _ => exact need h
  | undef => exact need h
  | junk => exact need h
  | nils => exact need h
  | agg _ =>
    by_cases hby : by_ = true
    · subst hby; exact same h
    · have hbf : by_ = false := by cases by_ <;> simp_all
      subst hbf
      exact need h
  | tup _ => exact need h
  | cptr _ => exact need h

theorem argsD_some {by_ : Nat → Bool} : ∀ {args : List RV} {i : Nat} {b : Boxes} {as : List RV} {u : Ups} {r : List Nat}, argsD by_ i args b = some ((as, u), r, true) →
    deads u ∧ (∀ x ∈ u, ∃ ver e es, b x.1 = some (.arr ver e es)) ∧ as.length = args.length ∧
    ∀ S loc S' loc', Sub S S' → LocLe loc loc' → (∀ x ∈ u, Frz b S loc S' x.1) →
      ∀ (i : Nat) x a v, args[i]? = some x → as[i]? = some a → R S loc x v → R S' loc' a v
  | [], i, b, as, u, r, h => by
    obtain ⟨h1, -, -⟩ := M.pure_some (b := b) h
    cases h1
    exact ⟨(fun x hx => by cases hx), (fun x hx => by cases hx), rfl, fun S loc S' loc' _ _ _ i x a v hx => by simp at hx⟩
  | c :: cs, i, b, as, u, r, h => by
    obtain ⟨⟨x, u1⟩, r1, r2, h1, h2, _⟩ := M.bind_some h
    obtain ⟨⟨l, u2⟩, r3, r4, h3, h4, _⟩ := M.bind_some h2
    obtain ⟨h5, -, -⟩ := M.pure_some h4
    cases h5
    obtain ⟨a1, a2, a3⟩ := argD_some h1
    obtain ⟨b1, b2, b3, b4⟩ := argsD_some h3
    refine ⟨fun x hx => (List.mem_append.1 hx).elim (a1 x) (b1 x), fun x hx => (List.mem_append.1 hx).elim (a2 x) (b2 x), by simp [b3], ?_⟩
    intro S loc S' loc' hs hl hv j y a v hy ha hr
    cases j with
    | zero =>
      simp only [List.getElem?_cons_zero, Option.some.injEq] at hy ha
      subst hy; subst ha
      exact a3 S loc S' loc' v hs hl (fun x hx => hv x (List.mem_append.2 (.inl hx))) hr
    | succ j =>
      simp only [List.getElem?_cons_succ] at hy ha
      exact b4 S loc S' loc' hs hl (fun x hx => hv x (List.mem_append.2 (.inr hx))) j y a v hy ha hr

theorem getsM_some : ∀ {ids : List Nat} {b : Boxes} {l : List Box} {r : List Nat}, getsM ids b = some (l, r, true) →
    l.length = ids.length ∧ ∀ (j : Nat) id, ids[j]? = some id → ∃ bx, b id = some bx ∧ l[j]? = some bx
  | [], b, l, r, h => by
    obtain ⟨h1, -, -⟩ := M.pure_some (b := b) h
    subst h1
    exact ⟨rfl, fun j id hj => by simp at hj⟩
  | i :: ids, b, l, r, h => by
    obtain ⟨bx, r1, r2, h1, h2, _⟩ := M.bind_some h
    obtain ⟨hb, _, _⟩ := M.get_some h1
    obtain ⟨l', r3, r4, h3, h4, _⟩ := M.bind_some h2
    obtain ⟨h5, -, -⟩ := M.pure_some h4
    subst h5
    obtain ⟨g1, g2⟩ := getsM_some h3
    refine ⟨by simp [g1], fun j id hj => ?_⟩
    cases j with
    | zero => simp only [List.getElem?_cons_zero, Option.some.injEq] at hj; subst hj; exact ⟨bx, hb, rfl⟩
    | succ j => simp only [List.getElem?_cons_succ] at hj ⊢; exact g2 j id hj
theorem vacantsM_some : ∀ {ids : List Nat} {b : Boxes} {x : Unit} {r : List Nat}, vacantsM ids b = some (x, r, true) → ∀ i ∈ ids, b i = none
  | [], b, x, r, _ => fun i hi => by cases hi
  | i :: ids, b, x, r, h => by
    obtain ⟨_, r1, r2, h1, h2, _⟩ := M.bind_some h
    obtain ⟨hb, _, _⟩ := M.vacant_some h1
    intro j hj
    rcases List.mem_cons.1 hj with rfl | hj
    · exact hb
    · exact vacantsM_some h2 j hj

theorem nodup_spec : ∀ {l : List Nat}, nodup l = true → l.Nodup
  | [], _ => List.nodup_nil
  | a :: r, h => by
    simp only [nodup, Bool.and_eq_true, Bool.not_eq_true'] at h
    refine List.nodup_cons.2 ⟨?_, nodup_spec h.2⟩
    intro hm
    have := h.1
    simp [hm] at this
theorem disj_spec {a b : List Nat} (h : disj a b = true) : ∀ x ∈ a, x ∉ b := fun x hx hb => by
  have := List.all_eq_true.1 h x hx
  simp [hb] at this

theorem idxOf_some : ∀ {l : List Nat} {id k : Nat}, idxOf l id = some k → l[k]? = some id
  | [], id, k, h => by simp [idxOf] at h
  | a :: r, id, k, h => by
    simp only [idxOf] at h
    split at h
    · rename_i ha; cases h; subst ha; rfl
    · cases hr : idxOf r id with
      | none => simp [hr] at h
      | some j => simp only [hr, Option.map_some, Option.some.injEq] at h; subst h; simpa using idxOf_some hr
theorem idxOf_get : ∀ {l : List Nat} {id k : Nat}, l.Nodup → l[k]? = some id → idxOf l id = some k
  | [], id, k, _, h => by simp at h
  | a :: r, id, k, hn, h => by
    rw [List.nodup_cons] at hn
    cases k with
    | zero => simp only [List.getElem?_cons_zero, Option.some.injEq] at h; subst h; simp [idxOf]
    | succ k =>
      simp only [List.getElem?_cons_succ] at h
      have hne : id ≠ a := fun e => hn.1 (by subst e; exact List.mem_of_getElem? h)
      simp [idxOf, hne, idxOf_get hn.2 h]

theorem ups_zip : ∀ (ids : List Nat) (bs : List Box) (s : St), ids.Nodup → bs.length = ids.length → ∀ (j : Nat) id bx, ids[j]? = some id → bs[j]? = some bx → (s.ups (ids.zip bs)).boxes id = some bx
  | [], bs, s, _, _, j, id, bx, hj, _ => by simp at hj
  | i :: ids, [], s, _, hl, j, id, bx, _, _ => by simp at hl
  | i :: ids, b :: bs, s, hn, hl, j, id, bx, hj, hb => by
    rw [List.nodup_cons] at hn
    simp only [List.length_cons] at hl
    rw [List.zip_cons_cons, ups_cons]
    cases j with
    | zero =>
      simp only [List.getElem?_cons_zero, Option.some.injEq] at hj hb
      subst hj; subst hb
      rw [ups_at _ _ _ (fun hm => hn.1 (by
        obtain ⟨x, hx, hxi⟩ := List.mem_map.1 hm
        rw [← hxi]
        exact (List.of_mem_zip hx).1))]
      exact upd_same _ _ _
    | succ j =>
      simp only [List.getElem?_cons_succ] at hj hb
      exact ups_zip ids bs _ hn.2 (by omega) j id bx hj hb
theorem ups_zip_ne (ids : List Nat) (bs : List Box) (s : St) (id : Nat) (h : id ∉ ids) : (s.ups (ids.zip bs)).boxes id = s.boxes id := by
  refine ups_at _ _ _ fun hm => h ?_
  obtain ⟨x, hx, hxi⟩ := List.mem_map.1 hm
  rw [← hxi]
  exact (List.of_mem_zip hx).1

theorem Frame.trans {E : Prop} {B0 bls : List Nat} {w0 w w' : World} (h : Frame E B0 w0 w) (h' : Frame E bls w w') (hb : ∀ b ∈ bls, b ∈ B0 ∨ w0.heap.size ≤ b) : Frame E B0 w0 w' :=
  ⟨h'.os.trans h.os, h'.tape.trans h.tape, h'.output.trans h.output, Nat.le_trans h.size h'.size, fun b hlt hn => by
    rw [h'.block b (Nat.lt_of_lt_of_le hlt h.size) ?_]
    · exact h.block b hlt hn
    · intro hm
      rcases hb b hm with h1 | h1
      · exact hn h1
      · omega, fun he => Nat.le_trans (h.drawn he) (h'.drawn he)⟩
end
end Go.Dw
