/- DsFun: a function, whole: if the interpreter gives an answer, the call gives it. -/
import Derived.Test.YtjlbpchimjjcpaaDoorDsGhost
namespace Go.Ds
section
variable {P : Program} {X : Ctx} {S : Snap} {loc : Locs} {s : St} {tm : Array Value} {w : World}

/-- One result as it stands at the end of the body: S', loc' are what is known once all that is used up has been frozen. -/
theorem retD1_sound {rv y : RV} {i : List Nat} {u : Ups} {r : List Nat} {v : Value} (hl : retD1 rv s.boxes = some ((y, i, u), r, true)) (hr : R S loc rv v) :
    deads u ∧ (∀ x ∈ u, ∃ ver e es, s.boxes x.1 = some (.arr ver e es)) ∧ (∀ rs, y ≠ .tup rs) ∧
    ∀ {s' : St} {S' : Snap} {loc' : Locs}, Sim P X S' loc' s' tm w → Sub S S' → LocLe loc loc' → (∀ x ∈ u, ∀ ver e es v, s.boxes x.1 = some (.arr ver e es) → R S loc (.ref x.1 ver) v → V S' (.lst es) v) → (∀ id ∈ i, s'.boxes id = s.boxes id) →
      ∃ bl, Res1 P S' w y v bl ∧ bl.Nodup ∧ (∀ b ∈ bl, ∃ id L, i = [id] ∧ loc' id = some L ∧ L.block = some b) := by
  rcases rv with p | _ | _ | _ | cs | cs | ⟨id, ver⟩ | ⟨id, off⟩ | _ | _ | _ | _ <;> first | exact (M.fail_some (b := s.boxes) hl).elim | skip
  · obtain ⟨h1, -, -⟩ := M.pure_some (b := s.boxes) hl
    cases h1
    refine ⟨(fun x hx => by cases hx), (fun x hx => by cases hx), (fun rs h => by cases h), ?_⟩
    intro s' S' loc' _ hs _ _ _
    cases hr with
    | d hv => exact ⟨[], .d (hv.mono hs), List.nodup_nil, fun b hb => by cases hb⟩
  · obtain ⟨h1, -, -⟩ := M.pure_some (b := s.boxes) hl
    cases h1
    refine ⟨(fun x hx => by cases hx), (fun x hx => by cases hx), (fun rs h => by cases h), ?_⟩
    intro s' S' loc' _ hs _ _ _
    cases hr with
    | nils => exact ⟨[], .d (.nil none 0), List.nodup_nil, fun b hb => by cases hb⟩
  · simp only [retD1] at hl
    obtain ⟨⟨ps, u1⟩, r1, r2, h1, h2, _⟩ := M.bind_some hl
    obtain ⟨h3, -, -⟩ := M.pure_some h2
    cases h3
    obtain ⟨a1, a2, a3, a4⟩ := toPDs_some h1
    refine ⟨a1, a2, (fun rs h => by cases h), ?_⟩
    intro s' S' loc' _ hs _ hv _
    obtain ⟨vs, rfl, hlen, hc⟩ := hr.cells_agg
    refine ⟨[], .d (.agg ps vs (by rw [hlen, a3]) fun i p v hp hvi => ?_), List.nodup_nil, fun b hb => by cases hb⟩
    have hi : i < cs.length := by rw [← a3]; exact (List.getElem?_eq_some_iff.1 hp).1
    exact a4 S loc S' hs hv i cs[i] p v (List.getElem?_eq_getElem hi) hp (hc i _ v (List.getElem?_eq_getElem hi) hvi)
  · simp only [retD1] at hl
    obtain ⟨bx, r1, r2, h1, h2, _⟩ := M.bind_some hl
    obtain ⟨hb, _, _⟩ := M.get_some h1
    cases bx with
    | var _ => exact (M.fail_some (b := s.boxes) h2).elim
    | dead => exact (M.fail_some (b := s.boxes) h2).elim
    | arr ver' e es =>
      by_cases hver : ver = ver'
      rotate_left
      · simp only [hver, if_false] at h2; exact (M.fail_some (b := s.boxes) h2).elim
      simp only [hver, if_true] at h2
      subst hver
      obtain ⟨h3, -, -⟩ := M.pure_some (b := s.boxes) h2
      cases h3
      refine ⟨(fun x hx => by cases hx), (fun x hx => by cases hx), (fun rs h => by cases h), ?_⟩
      intro s' S' loc' hsim hs hle _ hkeep
      have hb' : s'.boxes id = some (.arr ver e es) := by rw [hkeep id (by simp)]; exact hb
      have hr' := hr.mono hs hle
      obtain ⟨sz, xs, hloc, hsz, how, hf⟩ := hsim.arr_at hb' hr'
      have ho : v.oneCell' = true := by cases hr with | ref _ _ _ _ ho => exact ho
      refine ⟨v.ownBlock.toList, .fresh e es sz xs v hsz how hf ho, by cases v.ownBlock <;> simp, fun b hbm => ⟨id, _, rfl, hloc, by simpa [Loc.block] using hbm⟩⟩
  · cases off with
    | succ o => exact (M.fail_some (b := s.boxes) hl).elim
    | zero =>
      simp only [retD1] at hl
      obtain ⟨bx, r1, r2, h1, h2, _⟩ := M.bind_some hl
      obtain ⟨hb, _, _⟩ := M.get_some h1
      cases bx with
      | arr _ _ _ => exact (M.fail_some (b := s.boxes) h2).elim
      | dead => exact (M.fail_some (b := s.boxes) h2).elim
      | var cs =>
        rcases hp : allPD cs with _ | ps
        · simp only [hp] at h2; exact (M.fail_some (b := s.boxes) h2).elim
        simp only [hp] at h2
        obtain ⟨h3, -, -⟩ := M.pure_some (b := s.boxes) h2
        cases h3
        refine ⟨(fun x hx => by cases hx), (fun x hx => by cases hx), (fun rs h => by cases h), ?_⟩
        intro s' S' loc' hsim hs hle _ hkeep
        have hb' : s'.boxes id = some (.var (ps.map .d)) := by rw [hkeep id (by simp), hb, allPD_some hp]
        obtain ⟨b, t, vs, hloc, rfl, hw, hlen, hv⟩ := hsim.var_at hb' (hr.mono hs hle)
        refine ⟨[b], .fvar ps b ⟨t, vs, hw, by simpa using hlen, fun i p u hpi hu => ?_⟩, by simp, fun b' hb' => ⟨id, _, rfl, hloc, by simp at hb'; rw [hb']; rfl⟩⟩
        have := hv i (.d p) u (by simp [hpi]) hu
        cases this with | d h => exact h

/-- A result's value. -/
def resSem (tm : Array Value) (x : ResultVar) : Sem Value :=
  match x with
  | .tmp t => pure (tm.getD t Go.undef)
  | .cell a t => do loadVar t (← asAddr (tm.getD a Go.undef))
theorem results_run {fn : Func} {vs : List Value} (h : (fn.results.toList.mapM (resSem tm)).run P w = .ok vs w) :
    (results fn tm).run P w = .ok (if h : vs.toArray.size = 1 then vs.toArray[0] else .tuple vs.toArray) w := by
  have he : results fn tm = (do let vs ← fn.results.mapM (resSem tm); pure (if h : vs.size = 1 then vs[0] else .tuple vs)) := rfl
  rw [he, Array.mapM_eq_mapM_toList]
  simp only [Sem.run_bind, Sem.run_map, h, Result.andThen_ok, Sem.run_pure]

theorem resV_sound (h : Sim P X S loc s tm w) {x : ResultVar} {rv : RV} {r : List Nat} (hl : resV P s x s.boxes = some (rv, r, true)) :
    ∃ v, (resSem tm x).run P w = .ok v w ∧ R S loc rv v := by
  cases x with
  | tmp t =>
    simp only [resV] at hl
    rcases h1 : s.regs t with _ | v1
    · simp only [h1] at hl; exact (M.fail_some (b := s.boxes) hl).elim
    simp only [h1] at hl
    obtain ⟨h2, -, -⟩ := M.pure_some (b := s.boxes) hl
    subst h2
    obtain ⟨v, hv, hr⟩ := h.regs t _ h1
    exact ⟨v, by simp [resSem, hv], hr⟩
  | cell t ty =>
    simp only [resV] at hl
    obtain ⟨⟨y, u⟩, r1, r2, h1, h2, _⟩ := M.bind_some hl
    obtain ⟨h3, -, -⟩ := M.pure_some (b := s.boxes) h2
    subst h3
    rcases h4 : s.regs t with _ | v1
    · simp only [h4] at h1; exact (M.fail_some (b := s.boxes) h1).elim
    simp only [h4] at h1
    obtain ⟨v, hv, hr⟩ := h.regs t _ h4
    obtain ⟨v', h5, h6, _⟩ := loadD_sound h h1 hr
    refine ⟨v', ?_, h6⟩
    have hp : ∃ ad, v = .pointer (some ad) := by
      cases v with
      | pointer a => cases a with
        | some ad => exact ⟨ad, rfl⟩
        | none => simp [Instr.loadAt, Instr.sureAddr] at h5
      | _ => simp [Instr.loadAt, Instr.sureAddr] at h5
    obtain ⟨ad, rfl⟩ := hp
    have hg : tm.getD t Go.undef = .pointer (some ad) := by simp [hv]
    simp only [resSem, hg, asAddr, Sem.run_bind, Sem.run_pure, Result.andThen_ok]
    simpa [Instr.loadAt, Instr.sureAddr] using h5

theorem resD_sound (h : Sim P X S loc s tm w) : ∀ {xs : List ResultVar} {ys : List RV} {is : List Nat} {us : Ups} {r : List Nat}, resD P s xs s.boxes = some ((ys, is, us), r, true) →
    ∃ vs, (xs.mapM (resSem tm)).run P w = .ok vs w ∧ vs.length = xs.length ∧
      deads us ∧ (∀ x ∈ us, ∃ ver e es, s.boxes x.1 = some (.arr ver e es)) ∧ (∀ y ∈ ys, ∀ rs, y ≠ .tup rs) ∧ ys.length = xs.length ∧
      ∀ {s' : St} {S' : Snap} {loc' : Locs}, Sim P X S' loc' s' tm w → Sub S S' → LocLe loc loc' → (∀ x ∈ us, ∀ ver e es v, s.boxes x.1 = some (.arr ver e es) → R S loc (.ref x.1 ver) v → V S' (.lst es) v) → (∀ id ∈ is, s'.boxes id = s.boxes id) → is.Nodup →
        ∃ bl, Ress P S' w ys vs bl ∧ bl.Nodup ∧ ∀ b ∈ bl, ∃ id ∈ is, ∃ L, loc' id = some L ∧ L.block = some b
  | [], ys, is, us, r, hl => by
    obtain ⟨h1, -, -⟩ := M.pure_some (b := s.boxes) hl
    cases h1
    refine ⟨[], rfl, rfl, (fun x hx => by cases hx), (fun x hx => by cases hx), (fun y hy => by cases hy), rfl, ?_⟩
    intro s' S' loc' _ _ _ _ _ _
    exact ⟨[], .nil, List.nodup_nil, fun b hb => by cases hb⟩
  | x :: xs, ys, is, us, r, hl => by
    simp only [resD] at hl
    obtain ⟨rv, r1, r2, h1, h2, _⟩ := M.bind_some hl
    obtain ⟨⟨y, i, u⟩, r3, r4, h3, h4, _⟩ := M.bind_some h2
    obtain ⟨⟨zs, js, vs⟩, r5, r6, h5, h6, _⟩ := M.bind_some h4
    obtain ⟨h7, -, -⟩ := M.pure_some h6
    cases h7
    obtain ⟨v, g1, g2⟩ := resV_sound h h1
    obtain ⟨a1, a2, a3, a4⟩ := retD1_sound (P := P) (X := X) (tm := tm) (w := w) h3 g2
    obtain ⟨vals, b1, b2, b3, b4, b5, b6, b7⟩ := resD_sound h h5
    refine ⟨v :: vals, ?_, by simp [b2], fun z hz => (List.mem_append.1 hz).elim (a1 z) (b3 z), fun z hz => (List.mem_append.1 hz).elim (a2 z) (b4 z), ?_, by simp [b6], ?_⟩
    · rw [List.mapM_cons]
      simp only [Sem.run_bind, g1, Result.andThen_ok, b1, Sem.run_pure]
    · intro z hz
      rcases List.mem_cons.1 hz with rfl | hz
      · exact a3
      · exact b5 z hz
    · intro s' S' loc' hsim hs hle hv hk hn
      rw [List.nodup_append] at hn
      obtain ⟨bl1, c1, c2, c3⟩ := a4 hsim hs hle (fun z hz => hv z (List.mem_append.2 (.inl hz))) (fun id hid => hk id (List.mem_append.2 (.inl hid)))
      obtain ⟨bl2, d1, d2, d3⟩ := b7 hsim hs hle (fun z hz => hv z (List.mem_append.2 (.inr hz))) (fun id hid => hk id (List.mem_append.2 (.inr hid))) hn.2.1
      refine ⟨bl1 ++ bl2, .cons c1 d1, ?_, ?_⟩
      · rw [List.nodup_append]
        refine ⟨c2, d2, fun b hb b' hb' heq => ?_⟩
        subst heq
        obtain ⟨id, L, rfl, e1, e2⟩ := c3 b hb
        obtain ⟨id', hid', L', e3, e4⟩ := d3 b hb'
        have := hsim.inj id id' L L' b e1 e3 e2 e4
        exact hn.2.2 id (by simp) id' hid' this
      · intro b hb
        rcases List.mem_append.1 hb with hb | hb
        · obtain ⟨id, L, rfl, e1, e2⟩ := c3 b hb
          exact ⟨id, by simp, L, e1, e2⟩
        · obtain ⟨id, hid, L, e1, e2⟩ := d3 b hb
          exact ⟨id, List.mem_append.2 (.inr hid), L, e1, e2⟩

theorem boxesOut_some (nb : Nat) : ∀ (k : Nat) {b : Boxes} {l : List Box} {us : Ups} {r : List Nat}, k ≤ nb → boxesOut nb k b = some ((l, us), r, true) →
    l.length = k ∧ deads us ∧ (∀ x ∈ us, ∃ ver e es, b x.1 = some (.arr ver e es)) ∧ ∀ (j : Nat) bx, l[j]? = some bx → ∃ (cs : List RV) (ps : List PD), b (nb - k + j) = some (.var cs) ∧ bx = .var (ps.map .d) ∧ ps.length = cs.length ∧
      ∀ S loc S', Sub S S' → (∀ x ∈ us, ∀ ver e es v, b x.1 = some (.arr ver e es) → R S loc (.ref x.1 ver) v → V S' (.lst es) v) →
        ∀ (i : Nat) c p v, cs[i]? = some c → ps[i]? = some p → R S loc c v → V S' p v
  | 0, b, l, us, r, _, h => by
    obtain ⟨h1, -, -⟩ := M.pure_some (b := b) h
    cases h1
    exact ⟨rfl, (fun x hx => by cases hx), (fun x hx => by cases hx), fun j bx hj => by simp at hj⟩
  | k + 1, b, l, us, r, hk, h => by
    simp only [boxesOut] at h
    obtain ⟨bx, r1, r2, h1, h2, _⟩ := M.bind_some h
    obtain ⟨hb, _, _⟩ := M.get_some h1
    obtain ⟨⟨bx', u⟩, r3, r4, h3, h4, _⟩ := M.bind_some h2
    obtain ⟨⟨l', us'⟩, r5, r6, h5, h6, _⟩ := M.bind_some h4
    obtain ⟨h7, -, -⟩ := M.pure_some h6
    cases h7
    obtain ⟨g1, g2, g3, g4⟩ := boxesOut_some nb k (by omega) h5
    cases bx with
    | arr _ _ _ => exact (M.fail_some (b := b) h3).elim
    | dead => exact (M.fail_some (b := b) h3).elim
    | var cs =>
      simp only [boxOut] at h3
      obtain ⟨⟨ps, u1⟩, r7, r8, h8, h9, _⟩ := M.bind_some h3
      obtain ⟨h10, -, -⟩ := M.pure_some h9
      cases h10
      obtain ⟨a1, a2, a3, a4⟩ := toPDs_some h8
      refine ⟨by simp [g1], fun x hx => (List.mem_append.1 hx).elim (a1 x) (g2 x), fun x hx => (List.mem_append.1 hx).elim (a2 x) (g3 x), fun j bx hj => ?_⟩
      cases j with
      | zero =>
        simp only [List.getElem?_cons_zero, Option.some.injEq] at hj
        subst hj
        exact ⟨cs, ps, hb, rfl, a3, fun S loc S' hs hv => a4 S loc S' hs (fun x hx => hv x (List.mem_append.2 (.inl hx)))⟩
      | succ j =>
        simp only [List.getElem?_cons_succ] at hj
        obtain ⟨cs', ps', c1, c2, c3, c4⟩ := g4 j bx hj
        refine ⟨cs', ps', ?_, c2, c3, fun S loc S' hs hv => c4 S loc S' hs (fun x hx => hv x (List.mem_append.2 (.inr hx)))⟩
        rw [← c1]
        congr 1
        omega
end

theorem one_res {P : Program} {S : Snap} {w : World} {ys : List RV} {vs : List Value} {bl : List Nat} (h : Ress P S w ys vs bl) (hn : ∀ y ∈ ys, ∀ rs, y ≠ .tup rs) :
    Res P S w (one ys) (if h : vs.toArray.size = 1 then vs.toArray[0] else .tuple vs.toArray) bl := by
  cases h with
  | nil => exact .inl ⟨[], #[], rfl, rfl, .nil⟩
  | cons h1 h2 =>
    rename_i r v bl1 rs vs bls
    cases h2 with
    | nil =>
      refine .inr ⟨hn r (by simp), ?_⟩
      show Res1 P S w r v (bl1 ++ [])
      simpa using h1
    | cons h3 h4 =>
      rename_i r2 v2 bl2 rs2 vs2 bls2
      refine .inl ⟨_, (v :: v2 :: vs2).toArray, rfl, ?_, ?_⟩
      · simp only [List.size_toArray, List.length_cons]
        rw [dif_neg (by omega)]
      · simpa using Ress.cons h1 (Ress.cons h3 h4)

theorem Ress.length {P : Program} {S : Snap} {w : World} {ys : List RV} {vs : List Value} {bl : List Nat} (h : Ress P S w ys vs bl) : ys.length = vs.length := by
  induction h with
  | nil => rfl
  | cons _ _ ih => simp [ih]

/-- Promises for functions that are not interpreted. -/
def ExtOk (P : Program) (base : Snap) (ext : FuncId → Option CallD) : Prop := ∀ f g, ext f = some g → ∀ args bs r bs', g f args bs = some (r, bs') → CallOk P base f args bs r bs'

theorem look_get {α : Type} : ∀ (l : List α) (i : Nat), look l i = l[i]?
  | [], _ => rfl
  | a :: r, 0 => rfl
  | a :: r, n + 1 => by rw [look, look_get r n]; rfl

theorem finish_sound {P : Program} {X : Ctx} {fn : Func} {nb : Nat} (hnb : ∀ k b, X.par k = some b → k < nb) {bls : List Nat} (hB : X.B0 = bls) (hbl : bls.length = nb) (hpb : ∀ k, X.par k = bls[k]?) {s : St} {a : Act} {w : World} (hS : SimX P X s a w) {r : RV} {bs' : List Box}
    (hf : finish P fn nb s = some (r, bs')) :
    ∃ v S' bl, (results fn a.tmps).run P w = .ok v w ∧ Sub X.S0 S' ∧ (∀ ad v, S' ad = some v → w.cell? ad = some v) ∧ (∀ ad v, S' ad = some v → v.oneCell' = true) ∧
      (∀ ad v, S' ad = some v → X.S0 ad = some v ∨ X.w0.heap.size ≤ ad.block) ∧ Frame bls X.w0 w ∧ VarsAt S' w bls bs' ∧ bl.Nodup ∧ (∀ b ∈ bl, X.w0.heap.size ≤ b ∧ ∀ o, S' ⟨b, o, none⟩ = none) ∧ Res P S' w r v bl := by
  obtain ⟨hd, S, loc, h⟩ := hS
  unfold finish at hf
  generalize hm : M.bind (resD P s fn.results.toList) (fun (rs, is, u) => M.bind (boxesOut nb nb) fun (l, us) =>
    M.need (nodup is && is.all (fun i => decide (nb ≤ i)) && disj is ((u ++ us).map (·.1))) (one rs, l)) s.boxes = m at hf
  rcases m with _ | ⟨x, rd, c⟩
  · cases hf
  simp only at hf
  cases c with
  | false => simp at hf
  | true =>
  simp only [if_true, Option.some.injEq] at hf
  subst hf
  obtain ⟨⟨rs, is, u⟩, r1, r2, h1, h2, _⟩ := M.bind_some hm
  obtain ⟨⟨l, us⟩, r3, r4, h3, h4, _⟩ := M.bind_some h2
  obtain ⟨h5, -, h6⟩ := M.need_some h4
  cases h5
  simp only [Bool.true_eq, Bool.and_eq_true] at h6
  obtain ⟨⟨hnd, hge⟩, hdj⟩ := h6
  have hnd := nodup_spec hnd
  have hdj := disj_spec hdj
  obtain ⟨vs, g1, g2, g3, g4, g5, g6, g7⟩ := resD_sound h h1
  obtain ⟨b1, b2, b3, b4⟩ := boxesOut_some nb nb (Nat.le_refl _) h3
  obtain ⟨S', loc', hsim, hsub, hle, hfz⟩ := h.freezes (u ++ us) (fun x hx => (List.mem_append.1 hx).elim (g3 x) (b2 x)) (fun x hx => .inl ((List.mem_append.1 hx).elim (g4 x) (b3 x)))
  obtain ⟨bl, c1, c2, c3⟩ := g7 hsim hsub hle (fun x hx => hfz x (List.mem_append.2 (.inl hx))) (fun id hid => ups_at _ _ _ (hdj id hid)) hnd
  refine ⟨_, S', bl, ?_, hsim.s0, hsim.imm, hsim.sone, hsim.sold, by rw [← hB]; exact hsim.frame, ⟨by rw [b1, hbl], ?_⟩, c2, ?_, one_res c1 g5⟩
  · exact results_run g1
  · intro k b bx hk hbx
    obtain ⟨cs, ps, e1, e2, e3, e4⟩ := b4 k bx hbx
    rw [Nat.sub_self, Nat.zero_add] at e1
    have hpk : X.par k = some b := by rw [hpb]; exact hk
    have hl := h.par k b hpk
    have hbR := h.loc_of e1 hl
    refine ⟨ps, e2, ?_⟩
    cases hbR with
    | var _ _ t vs' hw hlen hc =>
      refine ⟨t, vs', hw, by rw [hlen, e3], fun i p v hp hv => ?_⟩
      have hi : i < cs.length := by rw [← e3]; exact (List.getElem?_eq_some_iff.1 hp).1
      exact e4 S loc S' hsub (fun x hx => hfz x (List.mem_append.2 (.inr hx))) i cs[i] p v (List.getElem?_eq_getElem hi) hp (hc i _ v (List.getElem?_eq_getElem hi) hv)
  · intro b hb
    obtain ⟨id, hid, L, e1, e2⟩ := c3 b hb
    refine ⟨?_, fun o => hsim.sdis id L b e1 e2 o⟩
    rcases hsim.own id L b e1 e2 with hB' | hB'
    · obtain ⟨k, hk⟩ := hsim.b0 b hB'
      have hkl := hsim.par k b hk
      have := hsim.inj id k L _ b e1 hkl e2 rfl
      subst this
      have hge' := List.all_eq_true.1 hge id hid
      have := of_decide_eq_true hge'
      have := hnb id b hk
      omega
    · exact hB'

theorem evFun_sound {P : Program} {base : Snap} {H : Hints} {ext : FuncId → Option CallD} (hext : ExtOk P base ext) (hm : P.follows .mixedOrders = true) : ∀ n, CallSound P base (evFun P H ext n) := by
  intro n
  induction n with
  | zero => intro f args bs r bs' h; simp [evFun] at h
  | succ n ih =>
    intro f args bs r bs' h
    unfold evFun at h
    rcases he : ext f with _ | g
    rotate_left
    · simp only [he] at h; exact hext f g he args bs r bs' h
    simp only [he] at h
    rcases hfn : P.funcs[f]? with _ | fn
    · simp [hfn] at h
    simp only [hfn] at h
    rcases hbody : fn.body with _ | c
    · simp [hbody] at h
    simp only [hbody] at h
    split at h
    rotate_left
    · cases h
    rename_i hcond
    simp only [Bool.and_eq_true, bne_iff_ne, ne_eq, decide_eq_true_eq] at hcond
    obtain ⟨⟨hdst, hname⟩, hargs⟩ := hcond
    intro S w bls vs himm hone hbase hnd hlt hdis hv hlen harg
    refine .inl ⟨⟨fn, hfn, hname, by rw [hbody]; rfl⟩, calls_of_wp hfn hbody ?_⟩
    let X : Ctx := { w0 := w, B0 := bls, S0 := S, par := fun k => bls[k]?, nt := fn.ntmps, base := base }
    have hbn : bs.length = bls.length := hv.1
    have hnb : ∀ k b, X.par k = some b → k < bs.length := fun k b hk => by rw [hbn]; exact (List.getElem?_eq_some_iff.1 hk).1
    have hsim : Sim P X S (fun k => (bls[k]?).map .var) { regs := look args, boxes := look bs } (vs ++ Array.replicate (fn.ntmps - vs.size) undef) w := by
      refine ⟨?_, ?_, ?_, ?_, himm, hone, ?_, ?_, ?_, Frame.refl bls w, Sub.refl S, ?_, fun ad v h => .inl h, ?_, hbase⟩
      · show (vs ++ Array.replicate (fn.ntmps - vs.size) undef).size = fn.ntmps
        simp; omega
      · intro t rv ht
        replace ht : look args t = some rv := ht
        rw [look_get] at ht
        have hlt' : t < vs.size := by rw [← hlen]; exact (List.getElem?_eq_some_iff.1 ht).1
        refine ⟨vs[t], by rw [Array.getElem?_append_left hlt', Array.getElem?_eq_getElem hlt'], ?_⟩
        have := harg t rv vs[t] ht (Array.getElem?_eq_getElem hlt')
        generalize vs[t] = v at this
        cases this with
        | d h => exact .d h
        | ptr k off b hk => exact .ptr k off _ (.var b) rfl (by simp [hk]) (fun b' he => by cases he; rfl)
      · intro id bx hb
        replace hb : look bs id = some bx := hb
        rw [look_get] at hb
        have hlt' : id < bls.length := by rw [← hbn]; exact (List.getElem?_eq_some_iff.1 hb).1
        obtain ⟨ps, rfl, hva⟩ := hv.2 id bls[id] bx (List.getElem?_eq_getElem hlt') hb
        exact ⟨.var bls[id], by simp [hlt'], hva.box⟩
      · intro id L hL
        cases hk : bls[id]? with
        | none => simp [hk] at hL
        | some b =>
          have hlt' : id < bs.length := by rw [hbn]; exact (List.getElem?_eq_some_iff.1 hk).1
          exact ⟨bs[id], by simp only [look_get]; exact List.getElem?_eq_getElem hlt'⟩
      · intro id L b hL hb o
        cases hk : bls[id]? with
        | none => simp [hk] at hL
        | some b' =>
          simp only [hk, Option.map_some, Option.some.injEq] at hL
          subst hL
          cases hb
          exact hdis b (List.mem_of_getElem? hk) o
      · intro id id' L L' b hL hL' hb hb'
        cases hk : bls[id]? with
        | none => simp [hk] at hL
        | some b1 =>
          cases hk' : bls[id']? with
          | none => simp [hk'] at hL'
          | some b2 =>
            simp only [hk, hk', Option.map_some, Option.some.injEq] at hL hL'
            subst hL; subst hL'
            cases hb; cases hb'
            obtain ⟨h1, h2⟩ := List.getElem?_eq_some_iff.1 hk
            obtain ⟨h3, h4⟩ := List.getElem?_eq_some_iff.1 hk'
            exact (List.getElem_inj hnd).1 (h2.trans h4.symm)
      · intro id L b hL hb
        cases hk : bls[id]? with
        | none => simp [hk] at hL
        | some b' =>
          simp only [hk, Option.map_some, Option.some.injEq] at hL
          subst hL
          cases hb
          exact .inl (List.mem_of_getElem? hk)
      · intro k b hk
        have hk' : bls[k]? = some b := hk
        simp [hk']
      · intro b hb
        obtain ⟨k, hk, hke⟩ := List.getElem_of_mem hb
        exact ⟨k, by show bls[k]? = some b; rw [List.getElem?_eq_getElem hk, hke]⟩
    have hSX : SimX P X { regs := look args, boxes := look bs } { tmps := vs ++ Array.replicate (fn.ntmps - vs.size) undef, defers := [] } w := ⟨rfl, S, _, hsim⟩
    rcases hcode : evCode P H f bs.length (evFun P H ext n) n c { regs := look args, boxes := look bs } with _ | ⟨e, s'⟩
    · simp [hcode] at h
    rw [hcode] at h
    have hfin : finish P fn bs.length s' = some (r, bs') ∧ (e = .normal ∨ e = .ret) := by
      cases e with
      | normal => exact ⟨h, .inl rfl⟩
      | ret => exact ⟨h, .inr rfl⟩
      | exit id => cases h
    refine evCode_sound ih hm hnb c hdst hcode hSX fun a' w' hS' => ?_
    obtain ⟨v, S', bl, k1, k2⟩ := finish_sound hnb (bls := bls) rfl hbn.symm (fun k => rfl) hS' hfin.1
    have hgoal : a'.defers = [] ∧ ∃ v, (results fn a'.tmps).run P w' = .ok v w' ∧ ∃ v_1, Ending.returned v = .returned v_1 ∧ ∃ S' bl, Sub S S' ∧ (∀ ad v, S' ad = some v → w'.cell? ad = some v) ∧ (∀ ad v, S' ad = some v → v.oneCell' = true) ∧
      (∀ ad v, S' ad = some v → S ad = some v ∨ w.heap.size ≤ ad.block) ∧ Frame bls w w' ∧ VarsAt S' w' bls bs' ∧ bl.Nodup ∧ (∀ b ∈ bl, w.heap.size ≤ b ∧ ∀ o, S' ⟨b, o, none⟩ = none) ∧ Res P S' w' r v_1 bl :=
      ⟨hS'.1, v, k1, v, rfl, S', bl, k2⟩
    rcases hfin.2 with rfl | rfl
    · exact hgoal
    · exact hgoal

theorem Invokes.calls {P : Program} {f : FuncId} {vs : Array Value} {w : World} {R : Value → World → Prop} (h : Invokes P f vs w R) (he : Enters P f) : Calls P f vs w fun e w' => ∃ v, e = .returned v ∧ R v w' := by
  rcases h with ⟨_, h⟩ | ⟨v, w', hr, _⟩
  · exact h
  · obtain ⟨fn, hfn, hname, hbody⟩ := he
    have hrun' : (callFunc f vs).run P w = .ok (.enter f vs) w := by
      have : (fn.name == "runtime.NumGoroutine") = false := by simpa using hname
      simp only [callFunc, Sem.run_bind, run_program, Result.andThen_ok, hfn, this, hbody, Bool.false_eq_true, if_false, Sem.run_pure]
    rw [hrun'] at hr
    cases hr
end Go.Ds
