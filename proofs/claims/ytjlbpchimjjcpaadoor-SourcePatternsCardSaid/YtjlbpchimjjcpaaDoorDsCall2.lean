/- DsCall2: a call, whole. -/
import Derived.Test.YtjlbpchimjjcpaaDoorDsCall
namespace Go.Ds
section
variable {P : Program} {X : Ctx} {S : Snap} {loc : Locs} {s : St} {tm : Array Value} {w : World}

theorem argsD_some : ∀ {args : List RV} {k : Nat} {b : Boxes} {as : List RV} {ids : List Nat} {u : Ups} {r : List Nat}, argsD args k b = some ((as, ids, u), r, true) →
    deads u ∧ (∀ x ∈ u, ∃ ver e es, b x.1 = some (.arr ver e es)) ∧ as.length = args.length ∧
    ∀ S loc S' loc' bls, Sub S S' → LocLe loc loc' → (∀ x ∈ u, ∀ ver e es v, b x.1 = some (.arr ver e es) → R S loc (.ref x.1 ver) v → V S' (.lst es) v) →
      (∀ (j : Nat) id, ids[j]? = some id → ∃ blk, bls[k + j]? = some blk ∧ loc' id = some (.var blk)) →
      ∀ (i : Nat) x a v, args[i]? = some x → as[i]? = some a → R S loc x v → ArgR S' bls a v
  | [], k, b, as, ids, u, r, h => by
    obtain ⟨h1, -, -⟩ := M.pure_some (b := b) h
    cases h1
    exact ⟨(fun x hx => by cases hx), (fun x hx => by cases hx), rfl, fun S loc S' loc' bls _ _ _ _ i x a v hx => by simp at hx⟩
  | c :: cs, k, b, as, ids, u, r, h => by
    have data : ∀ {as : List RV} {ids : List Nat} {u : Ups} {r : List Nat}, (M.bind (toPD c) fun (p, u) => M.bind (argsD cs k) fun (l, ids, us) => M.need c.sized (RV.d p :: l, ids, u ++ us)) b = some ((as, ids, u), r, true) →
        deads u ∧ (∀ x ∈ u, ∃ ver e es, b x.1 = some (.arr ver e es)) ∧ as.length = (c :: cs).length ∧
        ∀ S loc S' loc' bls, Sub S S' → LocLe loc loc' → (∀ x ∈ u, ∀ ver e es v, b x.1 = some (.arr ver e es) → R S loc (.ref x.1 ver) v → V S' (.lst es) v) →
          (∀ (j : Nat) id, ids[j]? = some id → ∃ blk, bls[k + j]? = some blk ∧ loc' id = some (.var blk)) →
          ∀ (i : Nat) x a v, (c :: cs)[i]? = some x → as[i]? = some a → R S loc x v → ArgR S' bls a v := by
      intro as ids u r h
      obtain ⟨⟨p, u1⟩, r1, r2, h1, h2, _⟩ := M.bind_some h
      obtain ⟨⟨l, ids', u2⟩, r3, r4, h3, h4, _⟩ := M.bind_some h2
      obtain ⟨h5, -, hsz⟩ := M.need_some h4
      cases h5
      obtain ⟨a1, a2, a3⟩ := toPD_some h1
      obtain ⟨b1, b2, b3, b4⟩ := argsD_some h3
      refine ⟨fun x hx => (List.mem_append.1 hx).elim (a1 x) (b1 x), fun x hx => (List.mem_append.1 hx).elim (a2 x) (b2 x), by simp [b3], ?_⟩
      intro S loc S' loc' bls hs hl hv hids i x a v hx ha hr
      cases i with
      | zero =>
        simp only [List.getElem?_cons_zero, Option.some.injEq] at hx ha
        subst hx; subst ha
        exact .d (a3 S loc S' v hr hs fun x hx => hv x (List.mem_append.2 (.inl hx)))
      | succ i =>
        simp only [List.getElem?_cons_succ] at hx ha
        exact b4 S loc S' loc' bls hs hl (fun x hx => hv x (List.mem_append.2 (.inr hx))) hids i x a v hx ha hr
    rcases c with p | _ | _ | _ | _ | _ | _ | ⟨id, off⟩ | _ | _ | _ | _ <;> first | exact data h | skip
    obtain ⟨⟨l, ids', u2⟩, r3, r4, h3, h4, _⟩ := M.bind_some h
    obtain ⟨h5, -, -⟩ := M.pure_some (b := b) h4
    cases h5
    obtain ⟨b1, b2, b3, b4⟩ := argsD_some h3
    refine ⟨b1, b2, by simp [b3], ?_⟩
    intro S loc S' loc' bls hs hl hv hids i x a v hx ha hr
    cases i with
    | zero =>
      simp only [List.getElem?_cons_zero, Option.some.injEq] at hx ha
      subst hx; subst ha
      obtain ⟨blk, hb, hloc⟩ := hids 0 id rfl
      cases hr with
      | ptr _ _ _ L ho hL hp =>
        obtain ⟨L', hL', hc⟩ := hl id L hL
        rw [hloc] at hL'
        cases hL'
        have : L = .var blk := by
          rcases hc with h6 | h6 | ⟨_, _, _, _, _, _, _, _, _, h6, _⟩
          · exact h6.symm
          · cases h6
          · cases h6
        rw [hp blk this]
        exact .ptr k off blk hb
    | succ i =>
      simp only [List.getElem?_cons_succ] at hx ha
      exact b4 S loc S' loc' bls hs hl hv (fun j id' hj => by
        obtain ⟨blk, hb, hloc⟩ := hids (j + 1) id' (by simpa using hj)
        exact ⟨blk, by rw [← hb]; congr 1; omega, hloc⟩) i x a v hx ha hr

theorem getVars_some : ∀ {ids : List Nat} {b : Boxes} {bs : List Box} {r : List Nat}, getVars ids b = some (bs, r, true) →
    bs.length = ids.length ∧ ∀ (j : Nat) id, ids[j]? = some id → ∃ ps : List PD, b id = some (.var (ps.map .d)) ∧ bs[j]? = some (.var (ps.map .d))
  | [], b, bs, r, h => by
    obtain ⟨h1, -, -⟩ := M.pure_some (b := b) h
    subst h1
    exact ⟨rfl, fun j id hj => by simp at hj⟩
  | id :: ids, b, bs, r, h => by
    obtain ⟨bx, r1, r2, h1, h2, _⟩ := M.bind_some h
    obtain ⟨hb, _, _⟩ := M.get_some h1
    cases bx with
    | var cs =>
      rcases hp : allPD cs with _ | ps
      · simp only [hp] at h2; exact (M.fail_some (b := b) h2).elim
      simp only [hp] at h2
      obtain ⟨l, r3, r4, h3, h4, _⟩ := M.bind_some h2
      obtain ⟨h5, -, -⟩ := M.pure_some h4
      subst h5
      obtain ⟨g1, g2⟩ := getVars_some h3
      refine ⟨by simp [g1], fun j id' hj => ?_⟩
      cases j with
      | zero =>
        simp only [List.getElem?_cons_zero, Option.some.injEq] at hj
        subst hj
        exact ⟨ps, by rw [hb, allPD_some hp], rfl⟩
      | succ j => simp only [List.getElem?_cons_succ] at hj ⊢; exact g2 j id' hj
    | arr _ _ _ => exact (M.fail_some (b := b) h2).elim
    | dead => exact (M.fail_some (b := b) h2).elim

theorem ups_zip : ∀ (ids : List Nat) (bs : List Box) (s : St), ids.Nodup → bs.length = ids.length → ∀ (j : Nat) id bx, ids[j]? = some id → bs[j]? = some bx → (s.ups (ids.zip bs)).boxes id = some bx
  | [], bs, s, _, _, j, id, bx, hj, _ => by simp at hj
  | i :: ids, [], s, _, hl, j, id, bx, _, _ => by simp at hl
  | i :: ids, b :: bs, s, hn, hl, j, id, bx, hj, hb => by
    rw [List.nodup_cons] at hn
    simp only [List.length_cons] at hl
    rw [List.zip_cons_cons, ups_cons]
    cases j with
    | zero =>
      simp only [List.getElem?_cons_zero, Option.some.injEq] at hj hb
      subst hj; subst hb
      rw [ups_at _ _ _ (fun hm => hn.1 (by
        obtain ⟨x, hx, hxi⟩ := List.mem_map.1 hm
        rw [← hxi]
        exact (List.of_mem_zip hx).1))]
      exact upd_same _ _ _
    | succ j =>
      simp only [List.getElem?_cons_succ] at hj hb
      exact ups_zip ids bs _ hn.2 (by omega) j id bx hj hb

theorem Frame.trans {B0 bls : List Nat} {w0 w w' : World} (h : Frame B0 w0 w) (h' : Frame bls w w') (hb : ∀ b ∈ bls, b ∈ B0 ∨ w0.heap.size ≤ b) : Frame B0 w0 w' :=
  ⟨h'.os.trans h.os, h'.tape.trans h.tape, h'.output.trans h.output, Nat.le_trans h.size h'.size, fun b hlt hn => by
    rw [h'.block b (Nat.lt_of_lt_of_le hlt h.size) ?_]
    · exact h.block b hlt hn
    · intro hm
      rcases hb b hm with h1 | h1
      · exact hn h1
      · omega⟩

/-- Behind a call. -/
theorem Sim.afterCall (h : Sim P X S loc s tm w) {w' : World} {S' : Snap} {ids bls : List Nat} {bs' : List Box} (hn : ids.Nodup)
    (hloc : ∀ (j : Nat) id, ids[j]? = some id → ∃ b, bls[j]? = some b ∧ loc id = some (.var b)) (hlen : bls.length = ids.length)
    (hs : Sub S S') (himm : ∀ ad v, S' ad = some v → w'.cell? ad = some v) (hone : ∀ ad v, S' ad = some v → v.oneCell' = true)
    (hold : ∀ ad v, S' ad = some v → S ad = some v ∨ w.heap.size ≤ ad.block) (hf : Frame bls w w') (hv : VarsAt S' w' bls bs') :
    Sim P X S' loc (s.ups (ids.zip bs')) tm w' := by
  have hbl : ∀ b ∈ bls, ∃ id ∈ ids, loc id = some (.var b) := by
    intro b hb
    obtain ⟨j, hj, hje⟩ := List.getElem_of_mem hb
    have hj' : j < ids.length := by omega
    obtain ⟨b', h1, h2⟩ := hloc j ids[j] (List.getElem?_eq_getElem hj')
    rw [List.getElem?_eq_getElem hj, hje] at h1
    cases h1
    exact ⟨ids[j], List.getElem_mem hj', h2⟩
  have hlt : ∀ id L b, loc id = some L → L.block = some b → b < w.heap.size := by
    intro id L b hL hb
    obtain ⟨bx, hbx⟩ := h.dom id L hL
    exact (h.loc_of hbx hL).block_lt hb
  have hbox : ∀ id, id ∈ ids → ∃ (j : Nat) (bx : Box), ids[j]? = some id ∧ bs'[j]? = some bx ∧ (s.ups (ids.zip bs')).boxes id = some bx := by
    intro id hid
    obtain ⟨j, hj, hje⟩ := List.getElem_of_mem hid
    have hb : j < bs'.length := by rw [hv.1]; omega
    exact ⟨j, bs'[j], by rw [List.getElem?_eq_getElem hj, hje], List.getElem?_eq_getElem hb, ups_zip ids bs' s hn (by rw [hv.1]; omega) j id _ (by rw [List.getElem?_eq_getElem hj, hje]) (List.getElem?_eq_getElem hb)⟩
  have hoth : ∀ id, id ∉ ids → (s.ups (ids.zip bs')).boxes id = s.boxes id := by
    intro id hid
    refine ups_at _ _ _ fun hm => hid ?_
    obtain ⟨x, hx, hxi⟩ := List.mem_map.1 hm
    rw [← hxi]
    exact (List.of_mem_zip hx).1
  refine ⟨h.nt, ?_, ?_, ?_, himm, hone, ?_, h.inj, h.own, ?_, h.s0.trans hs, h.par, ?_, h.b0, h.bs.trans hs⟩
  · intro t rv ht
    rw [ups_regs] at ht
    obtain ⟨v, h1, h2⟩ := h.regs t rv ht
    exact ⟨v, h1, h2.mono hs (LocLe.refl loc)⟩
  · intro id bx hb
    by_cases hid : id ∈ ids
    · obtain ⟨j, bx', h1, h2, h3⟩ := hbox id hid
      rw [h3] at hb
      cases hb
      obtain ⟨b, h4, h5⟩ := hloc j id h1
      obtain ⟨ps, rfl, h6⟩ := hv.2 j b bx h4 h2
      exact ⟨_, h5, h6.box⟩
    · rw [hoth id hid] at hb
      obtain ⟨L, h1, h2⟩ := h.boxes id bx hb
      refine ⟨L, h1, h2.keep hs (LocLe.refl loc) fun b hb' => hf.block b (h2.block_lt hb') fun hm => ?_⟩
      obtain ⟨id', h3, h4⟩ := hbl b hm
      have := h.inj id id' L _ b h1 h4 hb' rfl
      subst this
      exact hid h3
  · intro id L hL
    obtain ⟨bx, hbx⟩ := h.dom id L hL
    by_cases hid : id ∈ ids
    · obtain ⟨j, bx', h1, h2, h3⟩ := hbox id hid
      exact ⟨bx', h3⟩
    · exact ⟨bx, by rw [hoth id hid]; exact hbx⟩
  · intro id L b hL hb o
    cases hS : S' ⟨b, o, none⟩ with
    | none => rfl
    | some v =>
      rcases hold _ v hS with h1 | h1
      · rw [h.sdis id L b hL hb o] at h1; cases h1
      · have := hlt id L b hL hb
        simp at h1
        omega
  · refine h.frame.trans hf fun b hb => ?_
    obtain ⟨id, _, h2⟩ := hbl b hb
    exact h.own id _ b h2 rfl
  · intro ad v hv'
    rcases hold ad v hv' with h1 | h1
    · exact h.sold ad v h1
    · exact .inr (Nat.le_trans h.frame.size h1)

theorem callD_sound {call : CallD} (hcall : CallSound P X.base call) {o : Oper} {a : Act} (h : Sim P X S loc s a.tmps w) (hd : a.defers = []) (hdst : ∀ d, o.dst = some d → d < X.nt) {f : FuncId} {id : Nat} {args : List RV} {v : RV} {u : Ups} {r : List Nat}
    (hl : callD call f id args s.boxes = some ((v, u), r, true)) {vs : Array Value} (hlen : args.length = vs.size) (hargs : ∀ (i : Nat) x y, args[i]? = some x → vs[i]? = some y → R S loc x y)
    (hrun : (execOp a.eval o).run P w = (callFunc f vs).run P w) : OpOk P X ((s.ups u).put o.dst v) o a w := by
  obtain ⟨⟨as, ids, u0⟩, r1, r2, h1, h2, _⟩ := M.bind_some hl
  obtain ⟨bs, r3, r4, h3, h4, _⟩ := M.bind_some h2
  rcases hc : call f as bs with _ | ⟨res, bs'⟩
  · simp only [hc] at h4; exact (M.fail_some (b := s.boxes) h4).elim
  simp only [hc] at h4
  by_cases hcond : bs'.length = ids.length ∧ nodup ids = true
  rotate_left
  · simp only [hcond, if_false] at h4; exact (M.fail_some (b := s.boxes) h4).elim
  rw [if_pos hcond] at h4
  obtain ⟨hbl', hnd⟩ := hcond
  have hnd := nodup_spec hnd
  obtain ⟨⟨x, u1⟩, r5, r6, h5, h6, _⟩ := M.bind_some h4
  obtain ⟨h7, -, -⟩ := M.pure_some h6
  cases h7
  obtain ⟨a1, a2, a3, a4⟩ := argsD_some h1
  obtain ⟨g1, g2⟩ := getVars_some h3
  obtain ⟨S1, loc1, hS1, hsub, hle, hfz⟩ := h.freezes u0 a1 (fun x hx => .inl (a2 x hx))
  have hok := hcall f as bs res bs' hc
  have hid : ∀ (j : Nat) i, ids[j]? = some i → ∃ (ps : List PD) (b : Nat), s.boxes i = some (.var (ps.map .d)) ∧ (s.ups u0).boxes i = some (.var (ps.map .d)) ∧ bs[j]? = some (.var (ps.map .d)) ∧ loc1 i = some (.var b) ∧ VarAt S1 w b ps := by
    intro j i hj
    obtain ⟨ps, hb, hbs⟩ := g2 j i hj
    have hnot : i ∉ u0.map (·.1) := by
      intro hm
      obtain ⟨y, hy, hyi⟩ := List.mem_map.1 hm
      obtain ⟨ver, e, es, hy2⟩ := a2 y hy
      rw [hyi, hb] at hy2
      cases hy2
    have hb1 : (s.ups u0).boxes i = some (.var (ps.map .d)) := by rw [ups_at u0 s i hnot]; exact hb
    obtain ⟨L, hL, hbx⟩ := hS1.boxes i _ hb1
    cases hbx with
    | var _ b t vs hw hlv hcv =>
      refine ⟨ps, b, hb, hb1, hbs, hL, t, vs, hw, by simpa using hlv, fun i p u hp hu => ?_⟩
      have := hcv i (.d p) u (by simp [hp]) hu
      cases this with | d h => exact h
  -- the blocks
  have hex : ∃ bls : List Nat, bls.length = ids.length ∧ ∀ (j : Nat) i, ids[j]? = some i → ∃ b, bls[j]? = some b ∧ loc1 i = some (.var b) := by
    refine ⟨ids.map fun i => match loc1 i with | some (.var b) => b | _ => 0, by simp, fun j i hj => ?_⟩
    obtain ⟨ps, b, _, _, _, hb, _⟩ := hid j i hj
    exact ⟨b, by simp [hj, hb], hb⟩
  obtain ⟨bls, hbll, hbls⟩ := hex
  have hbmem : ∀ b ∈ bls, ∃ i, loc1 i = some (.var b) := by
    intro b hb
    obtain ⟨j, hj, hje⟩ := List.getElem_of_mem hb
    have hj' : j < ids.length := by omega
    obtain ⟨b', k1, k2⟩ := hbls j ids[j] (List.getElem?_eq_getElem hj')
    rw [List.getElem?_eq_getElem hj, hje] at k1
    cases k1
    exact ⟨_, k2⟩
  have hlt : ∀ i L b, loc1 i = some L → L.block = some b → b < w.heap.size := by
    intro i L b hL hb
    obtain ⟨bx, hbx⟩ := hS1.dom i L hL
    exact (hS1.loc_of hbx hL).block_lt hb
  have hblnd : bls.Nodup := by
    rw [List.nodup_iff_pairwise_ne, List.pairwise_iff_getElem]
    intro p q hp hq hpq heq
    have hp' : p < ids.length := by omega
    have hq' : q < ids.length := by omega
    obtain ⟨b1, k1, k2⟩ := hbls p ids[p] (List.getElem?_eq_getElem hp')
    obtain ⟨b2, k3, k4⟩ := hbls q ids[q] (List.getElem?_eq_getElem hq')
    rw [List.getElem?_eq_getElem hp] at k1
    rw [List.getElem?_eq_getElem hq] at k3
    cases k1; cases k3
    have := hS1.inj _ _ _ _ _ k2 k4 rfl (by rw [heq]; rfl)
    rw [List.nodup_iff_pairwise_ne, List.pairwise_iff_getElem] at hnd
    exact hnd p q hp' hq' hpq this
  have hcalls := hok S1 w bls vs hS1.imm hS1.sone hS1.bs hblnd (fun b hb => by obtain ⟨i, hi⟩ := hbmem b hb; exact hlt i _ b hi rfl)
    (fun b hb o => by obtain ⟨i, hi⟩ := hbmem b hb; exact hS1.sdis i _ b hi rfl o)
    ⟨by omega, fun k b bx hk hbx => by
      have hk' : k < ids.length := by rw [← hbll]; exact (List.getElem?_eq_some_iff.1 hk).1
      obtain ⟨ps, b', _, _, k1, k2, k3⟩ := hid k ids[k] (List.getElem?_eq_getElem hk')
      obtain ⟨b2, k4, k5⟩ := hbls k ids[k] (List.getElem?_eq_getElem hk')
      rw [hk] at k4
      cases k4
      rw [k2] at k5
      cases k5
      rw [hbx] at k1
      cases k1
      exact ⟨ps, rfl, k3⟩⟩
    (by rw [a3]; exact hlen)
    (fun i x y hx hy => by
      have hi : i < args.length := by rw [← a3]; exact (List.getElem?_eq_some_iff.1 hx).1
      exact a4 S loc S1 loc1 bls hsub hle hfz (fun j i hj => by simpa using hbls j i hj) i args[i] x y (List.getElem?_eq_getElem hi) hx (hargs i _ y (List.getElem?_eq_getElem hi) hy))
  intro K Q hK
  unfold Oper.wp
  rw [hrun]
  suffices tail : ∀ rv w', (∃ S' bl, Sub S1 S' ∧ (∀ ad v, S' ad = some v → w'.cell? ad = some v) ∧ (∀ ad v, S' ad = some v → v.oneCell' = true) ∧
      (∀ ad v, S' ad = some v → S1 ad = some v ∨ w.heap.size ≤ ad.block) ∧ Frame bls w w' ∧ VarsAt S' w' bls bs' ∧ bl.Nodup ∧ (∀ b ∈ bl, w.heap.size ≤ b ∧ ∀ o, S' ⟨b, o, none⟩ = none) ∧ Res P S' w' res rv bl) → K (a.put o.dst rv) w' by
    rcases hcalls with ⟨⟨fn, hfn, hname, hbody⟩, hcalls⟩ | ⟨rv, w', hr, hR⟩
    · have hrun' : (callFunc f vs).run P w = .ok (.enter f vs) w := by
        have : (fn.name == "runtime.NumGoroutine") = false := by simpa using hname
        simp only [callFunc, Sem.run_bind, run_program, Result.andThen_ok, hfn, this, hbody, Bool.false_eq_true, if_false, Sem.run_pure]
      rw [hrun', Oper.upon_enter]
      refine hcalls.mono fun e w' he => ?_
      obtain ⟨rv, rfl, he⟩ := he
      exact tail rv w' he
    · rw [hr, Oper.upon_value]
      exact tail rv w' hR
  intro rv w' he
  obtain ⟨S', bl, e1, e2, e3, e4, e5, e6, e7, e8, e9⟩ := he
  have hSc := hS1.afterCall hnd hbls hbll e1 e2 e3 e4 e5 e6
  obtain ⟨loc2, k1, k2, _⟩ := homeD_sound hSc s.boxes (fun i _ hv => by
      have h8 : i ∉ ids := fun hm => by
        obtain ⟨j, hj, hje⟩ := List.getElem_of_mem hm
        obtain ⟨ps, b, hb, _⟩ := hid j i (by rw [List.getElem?_eq_getElem hj, hje])
        rw [hv] at hb; cases hb
      have h9 : i ∉ u0.map (·.1) := fun hm => by
        obtain ⟨y, hy, hyi⟩ := List.mem_map.1 hm
        obtain ⟨ver, e, es, hy2⟩ := a2 y hy
        rw [hyi, hv] at hy2
        cases hy2
      rw [ups_at _ _ _ (fun hm => h8 (by
        obtain ⟨y, hy, hyi⟩ := List.mem_map.1 hm
        rw [← hyi]; exact (List.of_mem_zip hy).1)), ups_at _ _ _ h9]
      exact hv) h5 e9 e7 (fun b hb => by
      obtain ⟨q1, q2⟩ := e8 b hb
      refine ⟨Nat.le_trans hS1.frame.size q1, q2, fun i L hL hLb => ?_⟩
      have := hlt i L b hL hLb
      omega)
  refine hK _ _ ⟨by cases o.dst <;> exact hd, S', loc2, ?_⟩
  rw [ups_append, ups_append]
  exact k1.put (a := a) k2 o.dst hdst
end
end Go.Ds
