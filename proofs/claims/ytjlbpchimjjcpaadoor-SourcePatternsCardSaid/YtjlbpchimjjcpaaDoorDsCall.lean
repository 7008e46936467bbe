/- DsCall: calls: what is handed over, and what comes home. -/
import Derived.Test.YtjlbpchimjjcpaaDoorDsGrow
namespace Go.Ds

/-- A variable's cells, all of them data. -/
def VarAt (S : Snap) (w : World) (b : Nat) (ps : List PD) : Prop :=
  ∃ t vs, w.heap[b]? = some (.cells vs t (0, 0)) ∧ vs.size = ps.length ∧ ∀ (i : Nat) p u, ps[i]? = some p → vs[i]? = some u → V S p u

/-- One argument. -/
inductive ArgR (S : Snap) (bls : List Nat) : RV → Value → Prop
  | d {p : PD} {v : Value} (h : V S p v) : ArgR S bls (.d p) v
  | ptr (k off b : Nat) (h : bls[k]? = some b) : ArgR S bls (.ptr k off) (.pointer (some ⟨b, off, none⟩))

/-- The variables handed in. -/
def VarsAt (S : Snap) (w : World) (bls : List Nat) (bs : List Box) : Prop :=
  bs.length = bls.length ∧ ∀ (k b : Nat) bx, bls[k]? = some b → bs[k]? = some bx → ∃ ps : List PD, bx = .var (ps.map .d) ∧ VarAt S w b ps

inductive Res1 (P : Program) (S : Snap) (w : World) : RV → Value → List Nat → Prop
  | d {p : PD} {v : Value} (h : V S p v) : Res1 P S w (.d p) v []
  | fresh (e : TypeId) (es : List PD) (sz : Nat) (xs : List Value) (v : Value) (hsz : szT P e = some sz) (how : w.ownsRow 0 e sz v es.length xs) (hf : Flat S sz es xs) (ho : v.oneCell' = true) : Res1 P S w (.fresh e es) v v.ownBlock.toList
  | fvar (ps : List PD) (b : Nat) (h : VarAt S w b ps) : Res1 P S w (.fvar ps) (.pointer (some ⟨b, 0, none⟩)) [b]
inductive Ress (P : Program) (S : Snap) (w : World) : List RV → List Value → List Nat → Prop
  | nil : Ress P S w [] [] []
  | cons {r : RV} {v : Value} {bl : List Nat} {rs : List RV} {vs : List Value} {bls : List Nat} (h : Res1 P S w r v bl) (h' : Ress P S w rs vs bls) : Ress P S w (r :: rs) (v :: vs) (bl ++ bls)
def Res (P : Program) (S : Snap) (w : World) (r : RV) (v : Value) (bl : List Nat) : Prop :=
  (∃ rs vs, r = .tup rs ∧ v = .tuple vs ∧ Ress P S w rs vs.toList bl) ∨ ((∀ rs, r ≠ .tup rs) ∧ Res1 P S w r v bl)

/-- The function has a body that is entered. -/
def Enters (P : Program) (f : FuncId) : Prop := ∃ fn, P.funcs[f]? = some fn ∧ fn.name ≠ "runtime.NumGoroutine" ∧ fn.body.isNone = false
/-- A call of f comes back with a value of which R holds: by its body, or at once. -/
def Invokes (P : Program) (f : FuncId) (vs : Array Value) (w : World) (R : Value → World → Prop) : Prop :=
  (Enters P f ∧ Calls P f vs w fun e w' => ∃ v, e = .returned v ∧ R v w') ∨ (∃ v w', (callFunc f vs).run P w = .ok (.value v) w' ∧ R v w')

/-- What a call is promised to do. -/
def CallOk (P : Program) (base : Snap) (f : FuncId) (args : List RV) (bs : List Box) (r : RV) (bs' : List Box) : Prop :=
  ∀ (S : Snap) (w : World) (bls : List Nat) (vs : Array Value),
    (∀ ad v, S ad = some v → w.cell? ad = some v) → (∀ ad v, S ad = some v → v.oneCell' = true) →
    Sub base S → bls.Nodup → (∀ b ∈ bls, b < w.heap.size) → (∀ b ∈ bls, ∀ o, S ⟨b, o, none⟩ = none) → VarsAt S w bls bs →
    args.length = vs.size → (∀ (i : Nat) a v, args[i]? = some a → vs[i]? = some v → ArgR S bls a v) →
    Invokes P f vs w fun v w' => ∃ S' bl, Sub S S' ∧ (∀ ad v, S' ad = some v → w'.cell? ad = some v) ∧ (∀ ad v, S' ad = some v → v.oneCell' = true) ∧
      (∀ ad v, S' ad = some v → S ad = some v ∨ w.heap.size ≤ ad.block) ∧ Frame bls w w' ∧ VarsAt S' w' bls bs' ∧ bl.Nodup ∧ (∀ b ∈ bl, w.heap.size ≤ b ∧ ∀ o, S' ⟨b, o, none⟩ = none) ∧ Res P S' w' r v bl
def CallSound (P : Program) (base : Snap) (call : CallD) : Prop := ∀ f args bs r bs', call f args bs = some (r, bs') → CallOk P base f args bs r bs'

section
variable {P : Program} {X : Ctx} {S : Snap} {loc : Locs} {s : St} {tm : Array Value} {w : World}

theorem Res1.lt {r : RV} {v : Value} {bl : List Nat} (h : Res1 P S w r v bl) : ∀ b ∈ bl, b < w.heap.size := by
  cases h with
  | d h => intro b hb; cases hb
  | fresh e es sz xs v hsz how hf ho => intro b hb; exact (how.lt b (by simpa using hb)).2
  | fvar ps b h =>
    obtain ⟨t, vs, h1, _⟩ := h
    intro b' hb'
    simp only [List.mem_singleton] at hb'
    subst hb'
    exact (Array.getElem?_eq_some_iff.1 h1).1

theorem VarAt.box {b : Nat} {ps : List PD} (h : VarAt S w b ps) : BoxR P S loc w (.var (ps.map .d)) (.var b) := by
  obtain ⟨t, vs, h1, h2, h3⟩ := h
  refine .var _ b t vs h1 (by simpa using h2) fun i c u hc hu => ?_
  rw [List.getElem?_map] at hc
  cases hp : ps[i]? with
  | none => simp [hp] at hc
  | some p => simp only [hp, Option.map_some, Option.some.injEq] at hc; subst hc; exact .d (h3 i p u hp hu)

/-- One result brought home. -/
theorem home1_sound (h : Sim P X S loc s tm w) {id : Nat} {rv x : RV} {u : Ups} {r : List Nat} {v : Value} {bl : List Nat} (hl : home1 id rv s.boxes = some ((x, u), r, true)) (hr : Res1 P S w rv v bl)
    (hb : ∀ b ∈ bl, X.w0.heap.size ≤ b ∧ (∀ o, S ⟨b, o, none⟩ = none) ∧ ∀ i L, loc i = some L → L.block ≠ some b) :
    ∃ loc', Sim P X S loc' (s.ups u) tm w ∧ R S loc' x v ∧ LocLe loc loc' ∧ (∀ i, i ≠ id → (s.ups u).boxes i = s.boxes i) ∧ (∀ i L b, loc' i = some L → L.block = some b → (∃ L', loc i = some L' ∧ L'.block = some b) ∨ b ∈ bl) := by
  rcases rv with p | _ | _ | _ | _ | _ | _ | _ | _ | _ | ⟨e, es⟩ | cs <;> first | exact (M.fail_some (b := s.boxes) hl).elim | skip
  · obtain ⟨h1, -, -⟩ := M.pure_some (b := s.boxes) hl
    cases h1
    cases hr with
    | d hv => exact ⟨loc, h, .d hv, LocLe.refl loc, fun i _ => rfl, fun i L b hL hb => .inl ⟨L, hL, hb⟩⟩
  · simp only [home1] at hl
    obtain ⟨_, r1, r2, h1, h2, _⟩ := M.bind_some hl
    obtain ⟨hbx, _, _⟩ := M.vacant_some h1
    obtain ⟨h3, -, -⟩ := M.pure_some h2
    cases h3
    cases hr with
    | fresh _ _ sz xs _ hsz how hf ho =>
      have hloc := h.vacant hbx
      have hst : LocStep (loc id) (.arr 0 e sz v) := by rw [hloc]; trivial
      refine ⟨upd loc id (.arr 0 e sz v), ?_, .ref id 0 _ _ ho (upd_same _ _ _) (fun ver' e' sz' hdr' he => by cases he; exact ⟨Nat.le_refl _, fun _ => rfl⟩), LocLe.upd hst, fun i hi => upd_ne _ _ hi, ?_⟩
      · refine h.setBox (Step.refl none w) id _ _ (fun b hc => by cases hc) (.arr 0 e es sz v xs hsz how hf) (fun b hbl => ?_) hst ?_
        · obtain ⟨a1, a2, a3⟩ := hb b (by rw [show v.ownBlock = some b from hbl]; simp)
          exact .inr (.inr ⟨a3, a2, a1⟩)
        · intro b hk
          have := h.par id b hk
          rw [hloc] at this
          cases this
      · intro i L b hL hLb
        by_cases hi : i = id
        · subst hi; rw [upd_same] at hL; cases hL; right; rw [show v.ownBlock = some b from hLb]; simp
        · rw [upd_ne _ _ hi] at hL; exact .inl ⟨L, hL, hLb⟩
  · simp only [home1] at hl
    obtain ⟨_, r1, r2, h1, h2, _⟩ := M.bind_some hl
    obtain ⟨hbx, _, _⟩ := M.vacant_some h1
    obtain ⟨h3, -, -⟩ := M.pure_some h2
    cases h3
    cases hr with
    | fvar _ b hv =>
      have hloc := h.vacant hbx
      have hst : LocStep (loc id) (.var b) := by rw [hloc]; trivial
      refine ⟨upd loc id (.var b), ?_, .ptr id 0 _ _ rfl (upd_same _ _ _) (fun b' he => by cases he; rfl), LocLe.upd hst, fun i hi => upd_ne _ _ hi, ?_⟩
      · refine h.setBox (Step.refl none w) id _ _ (fun b hc => by cases hc) hv.box (fun b' hbl => ?_) hst ?_
        · cases hbl
          obtain ⟨a1, a2, a3⟩ := hb b (by simp)
          exact .inr (.inr ⟨a3, a2, a1⟩)
        · intro b' hk
          have := h.par id b' hk
          rw [hloc] at this
          cases this
      · intro i L b' hL hLb
        by_cases hi : i = id
        · subst hi; rw [upd_same] at hL; cases hL; cases hLb; exact .inr (by simp)
        · rw [upd_ne _ _ hi] at hL; exact .inl ⟨L, hL, hLb⟩

theorem nodup_spec : ∀ {l : List Nat}, nodup l = true → l.Nodup
  | [], _ => List.nodup_nil
  | a :: r, h => by
    simp only [nodup, Bool.and_eq_true, Bool.not_eq_true'] at h
    refine List.nodup_cons.2 ⟨?_, nodup_spec h.2⟩
    intro hm
    have := h.1
    simp [hm] at this

theorem home_vacant {b b0 : Boxes} {id : Nat} {y x : RV × Ups} {r : List Nat} (hv : b0 id = none → b id = none) (h : M.bind (M.vacant id) (fun _ => M.pure y) b0 = some (x, r, true)) : M.bind (M.vacant id) (fun _ => M.pure y) b = some (x, r, true) := by
  obtain ⟨_, r1, r2, h1, h2, _⟩ := M.bind_some h
  obtain ⟨hb, _, _⟩ := M.vacant_some h1
  have hb' := hv hb
  simp only [M.bind, M.vacant, hb, hb'] at h ⊢
  exact h

/-- Several results brought home: each at its own number, the boxes as they were before the first. -/
theorem homes_sound : ∀ (rs : List RV) {S : Snap} {loc : Locs} {s : St} (b0 : Boxes) (id : Nat), Sim P X S loc s tm w → (∀ i, id ≤ i → b0 i = none → s.boxes i = none) → ∀ {xs : List RV} {u : Ups} {r : List Nat} {vs : List Value} {bl : List Nat}, homes id rs b0 = some ((xs, u), r, true) → Ress P S w rs vs bl → bl.Nodup →
    (∀ b ∈ bl, X.w0.heap.size ≤ b ∧ (∀ o, S ⟨b, o, none⟩ = none) ∧ ∀ i L, loc i = some L → L.block ≠ some b) →
    ∃ loc', Sim P X S loc' (s.ups u) tm w ∧ LocLe loc loc' ∧ xs.length = vs.length ∧ (∀ (i : Nat) x v, xs[i]? = some x → vs[i]? = some v → R S loc' x v)
  | [], S, loc, s, b0, id, h, hs0, xs, u, r, vs, bl, hl, hr, hn, hb => by
    obtain ⟨h1, -, -⟩ := M.pure_some (b := b0) hl
    cases h1
    cases hr
    exact ⟨loc, h, LocLe.refl loc, rfl, fun i x v hx => by simp at hx⟩
  | rv :: rs, S, loc, s, b0, id, h, hs0, xs, u, r, vs, bl, hl, hr, hn, hb => by
    obtain ⟨⟨x, u1⟩, r1, r2, h1, h2, _⟩ := M.bind_some hl
    obtain ⟨⟨ys, u2⟩, r3, r4, h3, h4, _⟩ := M.bind_some h2
    obtain ⟨h5, -, -⟩ := M.pure_some h4
    cases h5
    cases hr with
    | cons hr1 hr2 =>
      rename_i v bl1 vs bl2
      have h1' : home1 id rv s.boxes = some ((x, u1), r1, true) := by
        rcases rv with p | _ | _ | _ | _ | _ | _ | _ | _ | _ | ⟨e, es⟩ | cs <;> first | exact h1 | skip
        · exact home_vacant (b0 := b0) (fun hv => hs0 id (Nat.le_refl _) hv) h1
        · exact home_vacant (b0 := b0) (fun hv => hs0 id (Nat.le_refl _) hv) h1
      obtain ⟨loc1, g1, g2, g3, g4, g5⟩ := home1_sound h h1' hr1 (fun b hb' => hb b (List.mem_append.2 (.inl hb')))
      rw [List.nodup_append] at hn
      obtain ⟨loc2, k1, k2, k3, k4⟩ := homes_sound rs b0 (id + 1) g1 (fun i hi hv => by rw [g4 i (by omega)]; exact hs0 i (by omega) hv) h3 hr2 hn.2.1 (fun b hb' => by
        obtain ⟨a1, a2, a3⟩ := hb b (List.mem_append.2 (.inr hb'))
        refine ⟨a1, a2, fun i L hL hLb => ?_⟩
        rcases g5 i L b hL hLb with ⟨L', h6, h7⟩ | h6
        · exact a3 i L' h6 h7
        · exact hn.2.2 b h6 b hb' rfl)
      refine ⟨loc2, by rw [ups_append]; exact k1, g3.trans k2, by simp [k3], fun i y z hy hz => ?_⟩
      cases i with
      | zero => simp only [List.getElem?_cons_zero, Option.some.injEq] at hy hz; subst hy; subst hz; exact g2.mono (Sub.refl S) k2
      | succ i => simp only [List.getElem?_cons_succ] at hy hz; exact k4 i y z hy hz

theorem homeD_sound (h : Sim P X S loc s tm w) {id : Nat} {rv x : RV} {u : Ups} {r : List Nat} {v : Value} {bl : List Nat} (b0 : Boxes) (hs0 : ∀ i, id ≤ i → b0 i = none → s.boxes i = none) (hl : homeD id rv b0 = some ((x, u), r, true)) (hr : Res P S w rv v bl) (hn : bl.Nodup)
    (hb : ∀ b ∈ bl, X.w0.heap.size ≤ b ∧ (∀ o, S ⟨b, o, none⟩ = none) ∧ ∀ i L, loc i = some L → L.block ≠ some b) :
    ∃ loc', Sim P X S loc' (s.ups u) tm w ∧ R S loc' x v ∧ LocLe loc loc' := by
  rcases hr with ⟨rs, vs, rfl, rfl, hr⟩ | ⟨hnt, hr⟩
  · simp only [homeD] at hl
    obtain ⟨⟨xs, u1⟩, r1, r2, h1, h2, _⟩ := M.bind_some hl
    obtain ⟨h3, -, -⟩ := M.pure_some h2
    cases h3
    obtain ⟨loc', g1, g2, g3, g4⟩ := homes_sound rs b0 id h hs0 h1 hr hn hb
    exact ⟨loc', g1, .tup xs vs (by simpa using g3.symm) (fun i c v hc hv => g4 i c v hc (by simpa using hv)), g2⟩
  · have h1 : home1 id rv b0 = some ((x, u), r, true) := by
      cases rv <;> first | exact hl | exact (hnt _ rfl).elim
    have h1' : home1 id rv s.boxes = some ((x, u), r, true) := by
      rcases rv with p | _ | _ | _ | _ | _ | _ | _ | _ | _ | ⟨e, es⟩ | cs <;> first | exact h1 | skip
      · exact home_vacant (b0 := b0) (fun hv => hs0 id (Nat.le_refl _) hv) h1
      · exact home_vacant (b0 := b0) (fun hv => hs0 id (Nat.le_refl _) hv) h1
    obtain ⟨loc1, g1, g2, g3, _, _⟩ := home1_sound h h1' hr hb
    exact ⟨loc1, g1, g2, g3⟩
end
end Go.Ds
