/- DwCall2: into a call, and out of it. -/
import Derived.Test.YtkfmfbhngneklaaGreatDoorDwCall
namespace Go.Dw
section
variable {P : Program} {X : Ctx} {S : Snap} {loc : Locs} {s : St} {tm : Array Value} {w : World}

/-- Some boxes, under new numbers. -/
theorem pick_mem (h : Sim P X S loc s tm w) {ids : List Nat} {bxs bs2 : List Box} {b : Boxes} {f : Nat → Nat → Nat} {ρ : Ren} (hn : ids.Nodup) (hlen : bxs.length = ids.length) (hg : ∀ (j : Nat) id, ids[j]? = some id → ∃ bx, s.boxes id = some bx ∧ bxs[j]? = some bx)
    (hb : ∀ id bx, b id = some bx → s.boxes id = some bx) (hρ : ρ = ⟨idxOf ids, curVer b f⟩) (hl2 : bs2.length = ids.length) (h2 : ∀ (k : Nat) id bx, ids[k]? = some id → bxs[k]? = some bx → bs2[k]? = some (renB ρ (f id) bx)) :
    ∃ ls : List Loc, ls.length = ids.length ∧ (∀ (j : Nat) id, ids[j]? = some id → ∃ L, loc id = some L ∧ ls[j]? = some (setVer (f id) L)) ∧ RenR ρ loc (look ls) ∧ Mem P S (look ls) (look bs2) w := by
  have hL : ∀ (j : Nat) id, ids[j]? = some id → ∃ L, loc id = some L := fun j id hj => by
    obtain ⟨bx, hb, _⟩ := hg j id hj
    obtain ⟨L, h1, _⟩ := h.boxes id bx hb
    exact ⟨L, h1⟩
  let ls : List Loc := ids.map fun id => match loc id with | some L => setVer (f id) L | none => .dead
  have hls : ∀ (j : Nat) id, ids[j]? = some id → ∃ L, loc id = some L ∧ ls[j]? = some (setVer (f id) L) := fun j id hj => by
    obtain ⟨L, h1⟩ := hL j id hj
    exact ⟨L, h1, by simp [ls, hj, h1]⟩
  have hr : RenR ρ loc (look ls) := by
    subst hρ
    refine RenR.mk' (P := P) (S := S) (w := w) (fun id bx hb' => h.boxes id bx (hb id bx hb')) (fun id k L hp hL => ?_)
    obtain ⟨L', h1, h2⟩ := hls k id (idxOf_some hp)
    rw [hL] at h1
    cases h1
    rw [look_get]
    exact h2
  refine ⟨ls, by simp [ls], hls, hr, h.mem.ren hr (fun k bx' hk => ?_) (fun k L' hk => ?_)⟩
  · rw [look_get] at hk
    have hlt : k < ids.length := by rw [← hl2]; exact (List.getElem?_eq_some_iff.1 hk).1
    have hid := List.getElem?_eq_getElem hlt
    obtain ⟨bx, h1, h3⟩ := hg k _ hid
    rw [h2 k _ bx hid h3] at hk
    cases hk
    refine ⟨ids[k], bx, _, by rw [hρ]; exact idxOf_get hn hid, h1, rfl, fun L hL => ?_⟩
    obtain ⟨L', h3, h4⟩ := hls k _ hid
    rw [hL] at h3
    cases h3
    rw [look_get]
    exact h4
  · rw [look_get] at hk
    have hlt : k < ids.length := by have := (List.getElem?_eq_some_iff.1 hk).1; simpa [ls] using this
    have hid := List.getElem?_eq_getElem hlt
    obtain ⟨L, h3, h4⟩ := hls k _ hid
    obtain ⟨bx, _, h5⟩ := hg k _ hid
    rw [hk] at h4
    cases h4
    exact ⟨⟨_, by rw [look_get]; exact h2 k _ bx hid h5⟩, ids[k], L, _, by rw [hρ]; exact idxOf_get hn hid, h3, rfl⟩

/-- Behind a call. -/
theorem Sim.afterCall (h : Sim P X S loc s tm w) {ids news : List Nat} {bs' : List Box} {ls ls' : List Loc} {off : Nat → Nat} {r : RV} {v : Value} {w' : World} {S' : Snap} {σ : Ren} (hn : ids.Nodup)
    (hlen : ls.length = ids.length) (hls : ∀ (j : Nat) id, ids[j]? = some id → ∃ L, loc id = some L ∧ ls[j]? = some (setVer (fun _ => 0) L))
    (hoff : ∀ (j : Nat) id ver e sz hdr, ids[j]? = some id → loc id = some (.arr ver e sz hdr) → off j = ver)
    (hnew : ∀ i ∈ news, s.boxes i = none) (hnn : news.Nodup) (hnl : (ids ++ news).length = bs'.length)
    (hσ : σ = ⟨look (ids ++ news), curVer (look bs') fun k cur => off k + cur⟩) (ha : After P X.base.mono S w ls ids.length r bs' v w' S' ls') :
    ∃ loc2, Sim P X S' loc2 (s.ups ((ids ++ news).zip (bs'.zipIdx.map fun x => renB σ (fun cur => off x.2 + cur) x.1))) tm w' ∧ R S' loc2 (renV σ r) v ∧ LocLe loc loc2 := by
  have hold : ∀ id ∈ ids, ∃ L, loc id = some L := fun id hid => by
    obtain ⟨j, hj⟩ := List.getElem?_of_mem hid
    obtain ⟨L, h1, _⟩ := hls j id hj
    exact ⟨L, h1⟩
  have hall : (ids ++ news).Nodup := by
    rw [List.nodup_append]
    refine ⟨hn, hnn, fun a ha b hb hab => ?_⟩
    subst hab
    obtain ⟨L, h1⟩ := hold a ha
    obtain ⟨bx, h2⟩ := h.dom a L h1
    rw [hnew a hb] at h2
    cases h2
  -- where the boxes lie now
  let loc2 : Locs := fun id => match idxOf (ids ++ news) id with | some k => (look ls' k).map (setVer (off k + ·)) | none => loc id
  have hl2 : ∀ k id, (ids ++ news)[k]? = some id → loc2 id = (look ls' k).map (setVer (off k + ·)) := fun k id hk => by
    simp only [loc2, idxOf_get hall hk]
  have hl2n : ∀ id, id ∉ ids ++ news → loc2 id = loc id := fun id hid => by
    simp only [loc2]
    cases hi : idxOf (ids ++ news) id with
    | none => rfl
    | some k => exact (hid (List.mem_of_getElem? (idxOf_some hi))).elim
  have hr : RenR σ (look ls') loc2 := by
    subst hσ
    refine RenR.mk' (P := P) (S := S') (w := w') ha.mem.boxes (fun k id L hp hL => ?_)
    rw [look_get] at hp
    rw [hl2 k id hp, hL]
    rfl
  have hblk : ∀ b ∈ blks ls, ∃ id ∈ ids, ∃ L, loc id = some L ∧ L.block = some b := fun b hb => by
    obtain ⟨k, L, h1, h2⟩ := blks_mem.1 hb
    rw [look_get] at h1
    have hk : k < ids.length := by rw [← hlen]; exact (List.getElem?_eq_some_iff.1 h1).1
    obtain ⟨L', h3, h4⟩ := hls k _ (List.getElem?_eq_getElem hk)
    rw [h1] at h4
    cases h4
    rw [setVer_block] at h2
    exact ⟨_, List.getElem_mem hk, L', h3, h2⟩
  have hblk0 : ∀ b ∈ blks ls, b ∈ X.B0 ∨ X.w0.heap.size ≤ b := fun b hb => by
    obtain ⟨id, _, L, h1, h2⟩ := hblk b hb
    exact h.own id L b h1 h2
  have hle : LocLe loc loc2 := fun id L hL => by
    by_cases hid : id ∈ ids ++ news
    rotate_left
    · exact ⟨L, by rw [hl2n id hid]; exact hL, .inl rfl⟩
    obtain ⟨k, hk⟩ := List.getElem?_of_mem hid
    have hki : k < ids.length := by
      by_cases hlt : k < ids.length
      · exact hlt
      · rw [List.getElem?_append_right (by omega)] at hk
        obtain ⟨bx, hbx⟩ := h.dom id L hL
        rw [hnew id (List.mem_of_getElem? hk)] at hbx
        cases hbx
    have hk' : ids[k]? = some id := by rwa [List.getElem?_append_left hki] at hk
    obtain ⟨L0, h1, h2⟩ := hls k id hk'
    rw [hL] at h1
    cases h1
    obtain ⟨L', h3, h4⟩ := ha.le k _ (by rw [look_get]; exact h2)
    refine ⟨setVer (off k + ·) L', by rw [hl2 k id hk, h3]; rfl, ?_⟩
    rcases h4 with rfl | rfl | ⟨v1, e1, s1, d1, v2, e2, s2, d2, h5, rfl, hlt⟩
    · left
      cases L with
      | arr ver e sz hdr => simp only [setVer, Loc.arr.injEq, and_true]; rw [hoff k id ver e sz hdr hk' hL]; omega
      | var b => rfl
      | dead => rfl
    · exact .inr (.inl rfl)
    · obtain ⟨cur, rfl, rfl⟩ := setVer_arr h5
      exact .inr (.inr ⟨cur, e1, s1, d1, off k + v2, e2, s2, d2, rfl, rfl, by rw [hoff k id cur e1 s1 d1 hk' hL]; omega⟩)
  have hbx : ∀ k id, (ids ++ news)[k]? = some id → ∃ bx, bs'[k]? = some bx ∧ (s.ups ((ids ++ news).zip (bs'.zipIdx.map fun x => renB σ (fun cur => off x.2 + cur) x.1))).boxes id = some (renB σ (fun cur => off k + cur) bx) := fun k id hk => by
    have hlt : k < bs'.length := by rw [← hnl]; exact (List.getElem?_eq_some_iff.1 hk).1
    refine ⟨bs'[k], List.getElem?_eq_getElem hlt, ?_⟩
    refine ups_zip _ _ s hall (by simp [hnl]) k id _ hk ?_
    simp [hlt]
  have hbn : ∀ id, id ∉ ids ++ news → (s.ups ((ids ++ news).zip (bs'.zipIdx.map fun x => renB σ (fun cur => off x.2 + cur) x.1))).boxes id = s.boxes id := fun id hid => ups_zip_ne _ _ s id hid
  -- blocks of those that were not handed on
  have hother : ∀ id L b, id ∉ ids ++ news → loc id = some L → L.block = some b → b < w.heap.size ∧ b ∉ blks ls := fun id L b hid hL hb => by
    refine ⟨h.mem.lt hL hb, fun hm => ?_⟩
    obtain ⟨id', h1, L', h2, h3⟩ := hblk b hm
    have := h.inj id id' L L' b hL h2 hb h3
    subst this
    exact hid (List.mem_append.2 (.inl h1))
  have hmine : ∀ id L b, id ∈ ids ++ news → loc2 id = some L → L.block = some b → ∃ k L', look ls' k = some L' ∧ L'.block = some b ∧ (ids ++ news)[k]? = some id ∧ (b ∈ blks ls ∨ w.heap.size ≤ b) := fun id L b hid hL hb => by
    obtain ⟨k, hk⟩ := List.getElem?_of_mem hid
    rw [hl2 k id hk, Option.map_eq_some_iff] at hL
    obtain ⟨L', h1, rfl⟩ := hL
    rw [setVer_block] at hb
    exact ⟨k, L', h1, hb, hk, ha.own k L' b h1 hb⟩
  refine ⟨loc2, ⟨h.nt, ?_, ?_, ?_, ha.mem.imm, ha.mem.sone, ?_, ?_, ?_, h.frame.trans ha.frame hblk0, h.s0.trans ha.sub, ?_, ?_, h.bs.trans ha.sub⟩, R.renV hr ha.res, hle⟩
  · intro t rv ht
    rw [ups_regs] at ht
    obtain ⟨u, h1, h2⟩ := h.regs t rv ht
    exact ⟨u, h1, h2.mono ha.sub hle⟩
  · intro id bx hb
    by_cases hid : id ∈ ids ++ news
    · obtain ⟨k, hk⟩ := List.getElem?_of_mem hid
      obtain ⟨bx0, h1, h2⟩ := hbx k id hk
      rw [h2] at hb
      cases hb
      obtain ⟨L, h3, h4⟩ := ha.mem.boxes k bx0 (by rw [look_get]; exact h1)
      exact ⟨setVer (off k + ·) L, by rw [hl2 k id hk, h3]; rfl, BoxR.ren hr _ h4⟩
    · rw [hbn id hid] at hb
      obtain ⟨L, h1, h2⟩ := h.boxes id bx hb
      refine ⟨L, by rw [hl2n id hid]; exact h1, h2.keep ha.sub hle fun b hb' => ?_⟩
      obtain ⟨h3, h4⟩ := hother id L b hid h1 hb'
      exact ha.frame.block b h3 h4
  · intro id L hL
    by_cases hid : id ∈ ids ++ news
    · obtain ⟨k, hk⟩ := List.getElem?_of_mem hid
      obtain ⟨bx0, _, h2⟩ := hbx k id hk
      exact ⟨_, h2⟩
    · rw [hl2n id hid] at hL
      rw [hbn id hid]
      exact h.dom id L hL
  · intro id L b hL hb o
    by_cases hid : id ∈ ids ++ news
    · obtain ⟨k, L', h1, h2, _⟩ := hmine id L b hid hL hb
      exact ha.mem.sdis k L' b h1 h2 o
    · rw [hl2n id hid] at hL
      obtain ⟨h3, h4⟩ := hother id L b hid hL hb
      cases hS : S' ⟨b, o, none⟩ with
      | none => rfl
      | some u =>
        rcases ha.sold _ u hS with h5 | h5 | h5
        · rw [h.sdis id L b hL hb o] at h5; cases h5
        · simp only at h5; omega
        · exact (h4 h5).elim
  · intro id id' L L' b hL hL' hb hb'
    by_cases hid : id ∈ ids ++ news
    · obtain ⟨k, L1, h1, h2, h3, h4⟩ := hmine id L b hid hL hb
      by_cases hid' : id' ∈ ids ++ news
      · obtain ⟨k', L1', h1', h2', h3', _⟩ := hmine id' L' b hid' hL' hb'
        have := ha.mem.inj k k' L1 L1' b h1 h1' h2 h2'
        subst this
        rw [h3] at h3'
        exact Option.some.inj h3'
      · rw [hl2n id' hid'] at hL'
        obtain ⟨h5, h6⟩ := hother id' L' b hid' hL' hb'
        rcases h4 with h4 | h4
        · exact (h6 h4).elim
        · omega
    · rw [hl2n id hid] at hL
      obtain ⟨h5, h6⟩ := hother id L b hid hL hb
      by_cases hid' : id' ∈ ids ++ news
      · obtain ⟨k', L1', h1', h2', h3', h4⟩ := hmine id' L' b hid' hL' hb'
        rcases h4 with h4 | h4
        · exact (h6 h4).elim
        · omega
      · rw [hl2n id' hid'] at hL'
        exact h.inj id id' L L' b hL hL' hb hb'
  · intro id L b hL hb
    by_cases hid : id ∈ ids ++ news
    · obtain ⟨k, L1, h1, h2, h3, h4⟩ := hmine id L b hid hL hb
      rcases h4 with h4 | h4
      · exact hblk0 b h4
      · exact .inr (Nat.le_trans h.frame.size h4)
    · rw [hl2n id hid] at hL
      exact h.own id L b hL hb
  · intro k L0 hk
    obtain ⟨L, h1, h2⟩ := h.par k L0 hk
    obtain ⟨L', h3, h4⟩ := hle k L h1
    exact ⟨L', h3, LocStep.trans h2 h4⟩
  · intro ad u hu
    rcases ha.sold ad u hu with h1 | h1 | h1
    · exact h.sold ad u h1
    · exact .inr (.inl (Nat.le_trans h.frame.size h1))
    · exact .inr ((hblk0 _ h1).symm)

theorem callD_sound {by_ : FuncId → Nat → Bool} {call : CallD} (hcall : CallSound P X.base call) {o : Oper} {a : Act} (h : Sim P X S loc s a.tmps w) (hd : a.defers = []) (hdst : ∀ d, o.dst = some d → d < X.nt) {f : FuncId} {base : Nat} {args : List RV} {v : RV} {u : Ups} {r : List Nat}
    (hl : callD by_ call f base args s.boxes = some ((v, u), r, true)) {vs : Array Value} (hlen : args.length = vs.size) (hargs : ∀ (i : Nat) x y, args[i]? = some x → vs[i]? = some y → R S loc x y)
    (hrun : (execOp a.eval o).run P w = (callFunc f vs).run P w) : OpOk P X ((s.ups u).put o.dst v) o a w := by
  obtain ⟨⟨as, u0⟩, r1, r2, h1, h2, _⟩ := M.bind_some hl
  obtain ⟨ids, r3, r4, h3, h4, _⟩ := M.bind_some h2
  obtain ⟨bxs, r5, r6, h5, h6, _⟩ := M.bind_some h4
  rcases hc : call f (as.map (renV (inRen ids bxs))) (bxs.map (renB (inRen ids bxs) fun _ => 0)) with _ | ⟨res, bs'⟩
  · simp only [hc] at h6; exact (M.fail_some (b := s.boxes) h6).elim
  simp only [hc] at h6
  split at h6
  rotate_left
  · exact (M.fail_some (b := s.boxes) h6).elim
  rename_i hcond
  obtain ⟨hc1, hc2, hc3⟩ := hcond
  obtain ⟨_, r7, r8, h7, h8, _⟩ := M.bind_some h6
  obtain ⟨h9, -, -⟩ := M.pure_some h8
  cases h9
  have hn := nodup_spec hc2
  obtain ⟨a1, a2, a3, a4⟩ := argsD_some h1
  obtain ⟨g1, g2⟩ := getsM_some h5
  obtain ⟨S1, loc1, hS1, hsub, hle, hfz⟩ := h.freezes u0 a1 (fun x hx => .inl (a2 x hx))
  have hkeep : ∀ id ∈ ids, (s.ups u0).boxes id = s.boxes id := fun id hid => ups_at _ _ _ (disj_spec hc3 id hid)
  have hg : ∀ (j : Nat) id, ids[j]? = some id → ∃ bx, (s.ups u0).boxes id = some bx ∧ bxs[j]? = some bx := fun j id hj => by
    obtain ⟨bx, k1, k2⟩ := g2 j id hj
    exact ⟨bx, by rw [hkeep id (List.mem_of_getElem? hj)]; exact k1, k2⟩
  obtain ⟨ls, q1, q2, q3, q4⟩ := pick_mem hS1 (f := fun _ _ => 0) (b := fun i => (idxOf ids i).bind (look bxs)) (ρ := (inRen ids bxs)) (bs2 := bxs.map (renB (inRen ids bxs) fun _ => 0)) hn g1 hg (fun id bx hb => by
      rw [Option.bind_eq_some_iff] at hb
      obtain ⟨k, m1, m2⟩ := hb
      obtain ⟨bx', m3, m4⟩ := hg k id (idxOf_some m1)
      rw [look_get, m4] at m2
      cases m2
      exact m3) rfl (by simp [g1]) (fun k id bx hk hbx => by rw [List.getElem?_map, hbx]; rfl)
  have hok := hcall f _ _ res bs' hc S1 w ls vs q4 (by rw [q1, List.length_map, g1]) hS1.bs (by rw [List.length_map, a3]; exact hlen) (fun i x y hx hy => by
    rw [List.getElem?_map, Option.map_eq_some_iff] at hx
    obtain ⟨x0, hx0, rfl⟩ := hx
    have hi : i < args.length := by rw [← a3]; exact (List.getElem?_eq_some_iff.1 hx0).1
    exact R.renV q3 (a4 S loc S1 loc1 hsub hle hfz i args[i] x0 y (List.getElem?_eq_getElem hi) hx0 (hargs i _ y (List.getElem?_eq_getElem hi) hy)))
  intro K Q hK
  unfold Oper.wp
  rw [hrun]
  suffices tail : ∀ rv w', (∃ S' ls', After P X.base.mono S1 w ls (bxs.map (renB (inRen ids bxs) fun _ => 0)).length res bs' rv w' S' ls') → K (a.put o.dst rv) w' by
    rcases hok with ⟨⟨fn, hfn, hname, hbody⟩, hcalls⟩ | ⟨rv, w', hr, hR⟩
    · have hrun' : (callFunc f vs).run P w = .ok (.enter f vs) w := by
        have : (fn.name == "runtime.NumGoroutine") = false := by simpa using hname
        simp only [callFunc, Sem.run_bind, run_program, Result.andThen_ok, hfn, this, hbody, Bool.false_eq_true, if_false, Sem.run_pure]
      rw [hrun', Oper.upon_enter]
      refine hcalls.mono fun e w' he => ?_
      obtain ⟨rv, rfl, he⟩ := he
      exact tail rv w' he
    · rw [hr, Oper.upon_value]
      exact tail rv w' hR
  intro rv w' he
  obtain ⟨S', ls', ha⟩ := he
  rw [List.length_map, g1] at ha
  have hvac := vacantsM_some h7
  obtain ⟨loc2, k1, k2, _⟩ := hS1.afterCall (off := offOf bxs) hn q1 q2 (fun j id ver e sz hdr hj hL => by
      obtain ⟨bx, m1, m2⟩ := hg j id hj
      have := hS1.loc_of m1 hL
      simp only [offOf, look_get, m2]
      cases this with
      | arr => rfl
      | dead _ hd => cases hd)
    (fun i hi => by
      have hv := hvac i hi
      rw [ups_at _ _ _ fun hm => ?_]
      · exact hv
      · obtain ⟨y, hy, hyi⟩ := List.mem_map.1 hm
        obtain ⟨ver, e, es, hy2⟩ := a2 y hy
        rw [hyi, hv] at hy2
        cases hy2)
    (by
      unfold newIds
      rw [List.nodup_iff_pairwise_ne, List.pairwise_map]
      exact List.pairwise_lt_range.imp fun {a b} hab => by omega)
    (by simp [newIds]; omega) rfl ha
  refine hK _ _ ⟨by cases o.dst <;> exact hd, S', loc2, ?_⟩
  rw [ups_append]
  exact k1.put (a := a) k2 o.dst hdst
end
end Go.Dw
