/- DsGhost: ghost steps; code. -/
import Derived.Test.YtjlbpchimjjcpaaDoorDsRegion
namespace Go.Ds

theorem gets_some {α : Type} {f : Nat → Option α} : ∀ {ts : List Nat} {l : List (Nat × α)}, gets f ts = some l → (∀ x ∈ l, f x.1 = some x.2 ∧ x.1 ∈ ts) ∧ ∀ t ∈ ts, ∃ v, (t, v) ∈ l
  | [], l, h => by
    simp only [gets, Option.some.injEq] at h
    subst h
    exact ⟨(fun x hx => by cases hx), (fun t ht => by cases ht)⟩
  | t :: ts, l, h => by
    simp only [gets] at h
    rcases h1 : f t with _ | v
    · simp [h1] at h
    rcases h2 : gets f ts with _ | r
    · simp [h1, h2] at h
    simp only [h1, h2, Option.some.injEq] at h
    subst h
    obtain ⟨g1, g2⟩ := gets_some h2
    refine ⟨fun x hx => ?_, fun t' ht => ?_⟩
    · rcases List.mem_cons.1 hx with rfl | hx
      · exact ⟨h1, by simp⟩
      · exact ⟨(g1 x hx).1, by simp [(g1 x hx).2]⟩
    · rcases List.mem_cons.1 ht with rfl | ht
      · exact ⟨v, by simp⟩
      · obtain ⟨v', hv⟩ := g2 t' ht
        exact ⟨v', by simp [hv]⟩
theorem assoc_map {α : Type} (g : α → α) : ∀ {l : List (Nat × α)} {t : Nat} {v : α}, assoc (l.map fun x => (x.1, g x.2)) t = some v → ∃ v0, (t, v0) ∈ l ∧ v = g v0
  | [], t, v, h => by simp [assoc] at h
  | (k, a) :: r, t, v, h => by
    simp only [List.map_cons, assoc] at h
    by_cases hk : t = k
    · subst hk
      simp only [if_true, Option.some.injEq] at h
      exact ⟨a, by simp, h.symm⟩
    · simp only [hk, if_false] at h
      obtain ⟨v0, h1, h2⟩ := assoc_map g h
      exact ⟨v0, by simp [h1], h2⟩
theorem assoc_mem {α : Type} (g : α → α) : ∀ {l : List (Nat × α)} {t : Nat} {v : α}, (t, v) ∈ l → ∃ v', assoc (l.map fun x => (x.1, g x.2)) t = some v'
  | [], t, v, h => by cases h
  | (k, a) :: r, t, v, h => by
    simp only [List.map_cons, assoc]
    by_cases hk : t = k
    · exact ⟨g a, by simp [hk]⟩
    · simp only [hk, if_false]
      rcases List.mem_cons.1 h with h | h
      · cases h; exact (hk rfl).elim
      · exact assoc_mem g h

def renLoc : Loc → Loc
  | .arr _ e sz hdr => .arr 0 e sz hdr
  | L => L
theorem renLoc_block (L : Loc) : (renLoc L).block = L.block := by cases L <;> rfl

section
variable {P : Program} {X : Ctx} {S : Snap} {loc : Locs} {s : St} {tm : Array Value} {w : World}

theorem Sim.setRegs (h : Sim P X S loc s tm w) (regs' : Nat → Option RV) (hr : ∀ t rv, regs' t = some rv → ∃ v, tm[t]? = some v ∧ R S loc rv v) : Sim P X S loc { s with regs := regs' } tm w :=
  ⟨h.nt, hr, h.boxes, h.dom, h.imm, h.sone, h.sdis, h.inj, h.own, h.frame, h.s0, h.par, h.sold, h.b0, h.bs⟩

noncomputable def keepLoc (loc : Locs) (bs : List Nat) : Locs := fun id => if id ∈ bs then (loc id).map renLoc else none

theorem R.ren1 (h : Sim P X S loc s tm w) {bs : List Nat} {rv : RV} {v : Value} (hr : R S loc rv v) (hid : ∀ id ∈ ids1 (Ds.ren1 s.boxes rv), id ∈ bs) : R S (keepLoc loc bs) (Ds.ren1 s.boxes rv) v := by
  cases hr with
  | d h => exact .d h
  | undef => exact .undef
  | junk v => exact .junk v
  | nils => exact .nils
  | agg cs vs hl hc => exact .junk _
  | tup cs vs hl hc => exact .junk _
  | elt id ver i o v L ho hL hc => exact .junk _
  | cptr cs b o f hS hV => exact .cptr cs b o f hS hV
  | ptr id off v L ho hL hc =>
    have hm : id ∈ bs := hid id (by simp [Ds.ren1, ids1])
    refine .ptr id off v (renLoc L) ho (by simp [keepLoc, hm, hL]) fun b hb => hc b ?_
    cases L <;> first | exact hb | cases hb
  | ref id ver v L ho hL hc =>
    simp only [Ds.ren1] at hid ⊢
    rcases hb : s.boxes id with _ | bx
    · simp only; exact .junk _
    rw [hb] at hid
    cases bx with
    | var cs => exact .junk _
    | dead => exact .junk _
    | arr ver' e es =>
      simp only at hid ⊢
      by_cases hver : ver = ver'
      rotate_left
      · simp only [hver, if_false]; exact .junk _
      subst hver
      simp only [if_true] at hid ⊢
      have hm : id ∈ bs := hid id (by simp [ids1])
      have hbx := h.loc_of hb hL
      cases hbx with
      | arr _ _ _ sz hdr xs hsz how hf =>
        have := (hc ver e sz hdr rfl).2 rfl
        subst this
        exact .ref id 0 _ (.arr 0 e sz v) ho (by simp [keepLoc, hm, hL, renLoc]) (fun ver' e' sz' hdr' he => by cases he; exact ⟨Nat.le_refl _, fun _ => rfl⟩)

theorem R.renV (h : Sim P X S loc s tm w) {bs : List Nat} {rv : RV} {v : Value} (hr : R S loc rv v) (hid : ∀ id ∈ idsV (Ds.renV s.boxes rv), id ∈ bs) : R S (keepLoc loc bs) (Ds.renV s.boxes rv) v := by
  have cells : ∀ {cs : List RV} {vs : Array Value}, (∀ (i : Nat) c v, cs[i]? = some c → vs[i]? = some v → R S loc c v) → (∀ id ∈ (cs.map (Ds.ren1 s.boxes)).flatMap ids1, id ∈ bs) →
      ∀ (i : Nat) c v, (cs.map (Ds.ren1 s.boxes))[i]? = some c → vs[i]? = some v → R S (keepLoc loc bs) c v := by
    intro cs vs hc hi i c v h1 h2
    rw [List.getElem?_map] at h1
    rcases hci : cs[i]? with _ | c0
    · simp [hci] at h1
    simp only [hci, Option.map_some, Option.some.injEq] at h1
    subst h1
    refine R.ren1 h (hc i c0 v hci h2) fun id hid => hi id (List.mem_flatMap.2 ⟨_, List.mem_map.2 ⟨c0, List.mem_of_getElem? hci, rfl⟩, hid⟩)
  cases rv with
  | agg cs =>
    obtain ⟨vs, rfl, hl, hc⟩ := hr.cells_agg
    exact .agg _ vs (by simpa using hl) (cells hc (by simpa [Ds.renV, idsV] using hid))
  | tup cs =>
    cases hr with
    | tup _ vs hl hc => exact .tup _ vs (by simpa using hl) (cells hc (by simpa [Ds.renV, idsV] using hid))
  | d p => exact R.ren1 h hr (fun i hi => hid i hi)
  | undef => exact R.ren1 h hr (fun i hi => hid i hi)
  | junk => exact R.ren1 h hr (fun i hi => hid i hi)
  | nils => exact R.ren1 h hr (fun i hi => hid i hi)
  | elt a b c d => exact .junk _
  | cptr cs => exact R.ren1 h hr (fun i hi => hid i hi)
  | fresh a b => cases hr
  | fvar a => cases hr
  | ptr id off =>
    refine R.ren1 h hr fun i hi => hid i ?_
    simpa [Ds.renV, Ds.ren1, idsV] using hi
  | ref id ver =>
    refine R.ren1 h hr fun i hi => hid i ?_
    show i ∈ idsV (Ds.ren1 s.boxes (.ref id ver))
    simp only [Ds.ren1] at hi ⊢
    split at hi <;> first | (split at hi <;> first | (rename_i h1 h2; simpa [h2, idsV] using hi) | (simp [ids1] at hi)) | (simp [ids1] at hi)

theorem ghost1_sound {nb : Nat} (hnb : ∀ k b, X.par k = some b → k < nb) {g : Ghost} {s' : St} (hg : ghost1 P nb s g = some s') (h : Sim P X S loc s tm w) : ∃ S' loc', Sim P X S' loc' s' tm w := by
  cases g with
  | keep rs bs =>
    simp only [ghost1] at hg
    rcases h1 : gets s.regs rs with _ | l
    · simp [h1] at hg
    rcases h2 : gets s.boxes bs with _ | m
    · simp [h1, h2] at hg
    simp only [h1, h2] at hg
    split at hg
    rotate_left
    · cases hg
    rename_i hcond
    simp only [Bool.and_eq_true] at hcond
    obtain ⟨⟨hc0, hc1⟩, hc2⟩ := hcond
    cases hg
    obtain ⟨l1, _⟩ := gets_some h1
    obtain ⟨m1, m2⟩ := gets_some h2
    refine ⟨S, keepLoc loc bs, ?_⟩
    have hkl : ∀ id L', keepLoc loc bs id = some L' → id ∈ bs ∧ ∃ L, loc id = some L ∧ L' = renLoc L := by
      intro id L' hL
      unfold keepLoc at hL
      split at hL
      · rename_i hm
        cases hl : loc id with
        | none => simp [hl] at hL
        | some L => simp only [hl, Option.map_some, Option.some.injEq] at hL; exact ⟨hm, L, rfl, hL.symm⟩
      · cases hL
    refine ⟨h.nt, ?_, ?_, ?_, h.imm, h.sone, ?_, ?_, ?_, h.frame, h.s0, ?_, h.sold, h.b0, h.bs⟩
    · intro t rv ht
      obtain ⟨v0, hm, rfl⟩ := assoc_map (Ds.renV s.boxes) ht
      obtain ⟨v, hv, hr⟩ := h.regs t v0 (l1 _ hm).1
      refine ⟨v, hv, R.renV h hr fun id hid => ?_⟩
      have := List.all_eq_true.1 hc1 _ hm
      have := List.all_eq_true.1 this id hid
      simpa using this
    · intro id bx hb
      obtain ⟨b0, hm, rfl⟩ := assoc_map (renB s.boxes) hb
      obtain ⟨hb0, hin⟩ := m1 _ hm
      simp only at hb0 hin
      obtain ⟨L, hL, hbx⟩ := h.boxes id b0 hb0
      refine ⟨renLoc L, by simp [keepLoc, hin, hL], ?_⟩
      have hids : ∀ i ∈ idsB (renB s.boxes b0), i ∈ bs := fun i hi => by
        have := List.all_eq_true.1 hc2 _ hm
        have := List.all_eq_true.1 this i hi
        simpa using this
      cases hbx with
      | var cs b t vs hw hl hc =>
        refine .var _ b t vs hw (by simpa using hl) fun i c v hci hv => ?_
        rw [List.getElem?_map] at hci
        rcases hc0' : cs[i]? with _ | c0
        · simp [hc0'] at hci
        simp only [hc0', Option.map_some, Option.some.injEq] at hci
        subst hci
        refine R.ren1 h (hc i c0 v hc0' hv) fun id' hid' => hids id' ?_
        simp only [renB, idsB]
        refine List.mem_flatMap.2 ⟨_, List.mem_map.2 ⟨c0, List.mem_of_getElem? hc0', rfl⟩, ?_⟩
        revert hid'
        generalize Ds.ren1 s.boxes c0 = c1
        intro hid'
        cases c1 <;> first | exact hid' | (simp [ids1] at hid')
      | arr ver e es sz hdr xs hsz how hf => exact .arr 0 e es sz hdr xs hsz how hf
      | dead L hL' => subst hL'; exact .dead _ rfl
    · intro id L' hL
      obtain ⟨hm, L, hl, rfl⟩ := hkl id L' hL
      obtain ⟨v, hv⟩ := m2 id hm
      exact assoc_mem (renB s.boxes) hv
    · intro id L' b hL hb o
      obtain ⟨hm, L, hl, rfl⟩ := hkl id L' hL
      rw [renLoc_block] at hb
      exact h.sdis id L b hl hb o
    · intro id id' L' L2' b hL hL2 hb hb2
      obtain ⟨_, L, hl, rfl⟩ := hkl id L' hL
      obtain ⟨_, L2, hl2, rfl⟩ := hkl id' L2' hL2
      rw [renLoc_block] at hb hb2
      exact h.inj id id' L L2 b hl hl2 hb hb2
    · intro id L' b hL hb
      obtain ⟨_, L, hl, rfl⟩ := hkl id L' hL
      rw [renLoc_block] at hb
      exact h.own id L b hl hb
    · intro k b hk
      have hlt := hnb k b hk
      have := List.all_eq_true.1 hc0 k (List.mem_range.2 hlt)
      have hin : k ∈ bs := by simpa using this
      simp [keepLoc, hin, h.par k b hk, renLoc]
  | own t id e =>
    simp only [ghost1] at hg
    split at hg
    · rename_i k ht hb hk
      cases hg
      obtain ⟨loc', h1, h2, _⟩ := h.newArr hb (Step.refl none w) hk (hdr := .slice none 0 0) (es := []) (xs := []) (World.ownsRow_nil w 0 e _) (Flat.nil S _) (fun g hg => by cases hg) rfl
      refine ⟨S, loc', ?_⟩
      refine h1.setRegs _ fun x rv hx => ?_
      split at hx
      · rename_i hxt
        subst hxt
        cases hx
        obtain ⟨v, hv, hr⟩ := h.regs x _ ht
        cases hr with
        | nils => exact ⟨_, hv, h2⟩
      · exact h1.regs x rv hx
    · cases hg
  | freeze t =>
    simp only [ghost1] at hg
    rcases ht : s.regs t with _ | rv
    · simp [ht] at hg
    rw [ht] at hg
    cases rv <;> first | (simp at hg; done) | skip
    rename_i id ver
    simp only at hg
    rcases hb : s.boxes id with _ | bx
    · simp [hb] at hg
    rw [hb] at hg
    cases bx <;> first | (simp at hg; done) | skip
    rename_i ver' e es
    simp only at hg
    by_cases hver : ver = ver'
    rotate_left
    · simp [hver] at hg
    subst hver
    simp only [if_true, Option.some.injEq] at hg
    subst hg
    obtain ⟨S', h1, hs, hl, hv⟩ := h.freeze1 hb
    refine ⟨S', _, h1.setRegs _ fun x rv hx => ?_⟩
    split at hx
    · rename_i hxt
      subst hxt
      cases hx
      obtain ⟨v, hvx, hr⟩ := h.regs x _ ht
      exact ⟨v, hvx, .d (hv v hr)⟩
    · exact h1.regs x rv hx

theorem ghosts_sound {nb : Nat} (hnb : ∀ k b, X.par k = some b → k < nb) : ∀ (gs : List Ghost) {s s' : St} {S : Snap} {loc : Locs}, ghosts P nb s gs = some s' → Sim P X S loc s tm w → ∃ S' loc', Sim P X S' loc' s' tm w
  | [], s, s', S, loc, h, hs => by simp only [ghosts, Option.some.injEq] at h; subst h; exact ⟨S, loc, hs⟩
  | g :: gs, s, s', S, loc, h, hs => by
    simp only [ghosts] at h
    rcases h1 : ghost1 P nb s g with _ | s1
    · simp [h1] at h
    simp only [h1] at h
    obtain ⟨S1, loc1, hs1⟩ := ghost1_sound hnb h1 hs
    exact ghosts_sound hnb gs h hs1
end

def Ex.out : Ex → Exit
  | .normal => .normal
  | .exit id => .exit id
  | .ret => .ret

section
variable {P : Program} {X : Ctx} {H : Hints} {f : FuncId} {nb : Nat} {call : CallD} {fuel : Nat}

theorem evLoop_rounds {c : Code} {body : St → Option (Ex × St)} {Q : Exit → Act → World → Prop}
    (hbody : ∀ {s : St} {e : Ex} {s' : St} {a : Act} {w : World} {Q : Exit → Act → World → Prop}, body s = some (e, s') → SimX P X s a w → (∀ a' w', SimX P X s' a' w' → Q e.out a' w') → c.wp P Q a w) :
    ∀ (n : Nat) {s : St} {e : Ex} {s' : St} {a : Act} {w : World}, evLoop body n s = some (e, s') → SimX P X s a w → (∀ a' w', SimX P X s' a' w' → Q e.out a' w') → Code.rounds P c Q n a w
  | 0, s, e, s', a, w, h, _, _ => by simp [evLoop] at h
  | n + 1, s, e, s', a, w, h, hS, hQ => by
    simp only [evLoop] at h
    rcases h1 : body s with _ | ⟨e1, s1⟩
    · simp [h1] at h
    rw [h1] at h
    rw [rounds_succ]
    cases e1 with
    | normal =>
      simp only at h
      exact hbody h1 hS fun a' w' hS' => evLoop_rounds hbody n h hS' hQ
    | exit id =>
      simp only [Option.some.injEq, Prod.mk.injEq] at h
      obtain ⟨rfl, rfl⟩ := h
      exact hbody h1 hS fun a' w' hS' => hQ a' w' hS'
    | ret =>
      simp only [Option.some.injEq, Prod.mk.injEq] at h
      obtain ⟨rfl, rfl⟩ := h
      exact hbody h1 hS fun a' w' hS' => hQ a' w' hS'

theorem evCode_sound (hcall : CallSound P X.base call) (hm : P.follows .mixedOrders = true) (hnb : ∀ k b, X.par k = some b → k < nb) : ∀ (c : Code) {s : St} {e : Ex} {s' : St} {a : Act} {w : World} {Q : Exit → Act → World → Prop},
    dstOk X.nt c = true → evCode P H f nb call fuel c s = some (e, s') → SimX P X s a w → (∀ a' w', SimX P X s' a' w' → Q e.out a' w') → c.wp P Q a w
  | .skip, s, e, s', a, w, Q, _, h, hS, hQ => by
    simp only [evCode, Option.some.injEq, Prod.mk.injEq] at h
    obtain ⟨rfl, rfl⟩ := h
    exact wp_skip (hQ a w hS)
  | .region id ops dr, s, e, s', a, w, Q, hd, h, hS, hQ => by
    simp only [evCode] at h
    rcases h1 : evRegion P H f nb call id ops dr s with _ | s1
    · simp [h1] at h
    simp only [h1, Option.some.injEq, Prod.mk.injEq] at h
    obtain ⟨rfl, rfl⟩ := h
    unfold evRegion at h1
    rcases h2 : ghosts P nb s (H.at_ f id) with _ | s0
    · simp [h2] at h1
    simp only [h2] at h1
    rcases h3 : evOps P (H.mt f) call ops ops.toList s0 with _ | ⟨s2, ts⟩
    · simp [h3] at h1
    simp only [h3] at h1
    obtain ⟨hdf, S, loc, hsim⟩ := hS
    obtain ⟨S', loc', hsim'⟩ := ghosts_sound hnb _ h2 hsim
    have hdst : DstIn X.nt ops := by
      intro i o ho d hod
      have := Array.all_eq_true_iff_forall_mem.1 (show (ops.all fun o => match o.dst with | some d => decide (d < X.nt) | none => true) = true from hd) o (Array.mem_of_getElem? ho)
      simpa [hod] using this
    have hs2 : s2 = s1 ∧ (dr = true → ordOk ops ts = true) := by
      cases dr with
      | true =>
        simp only [if_true] at h1
        split at h1
        · rename_i hok; cases h1; exact ⟨rfl, fun _ => hok⟩
        · cases h1
      | false => simp only [Bool.false_eq_true, if_false, Option.some.injEq] at h1; exact ⟨h1, fun h => by cases h⟩
    obtain ⟨rfl, hord⟩ := hs2
    exact region_sound hcall hm hdst h3 hord ⟨hdf, S', loc', hsim'⟩ hQ
  | .seq x y, s, e, s', a, w, Q, hd, h, hS, hQ => by
    simp only [dstOk, Bool.and_eq_true] at hd
    simp only [evCode] at h
    rcases h1 : evCode P H f nb call fuel x s with _ | ⟨e1, s1⟩
    · simp [h1] at h
    rw [h1] at h
    refine wp_seq ?_
    cases e1 with
    | normal =>
      simp only at h
      exact evCode_sound hcall hm hnb x hd.1 h1 hS fun a' w' hS' => evCode_sound hcall hm hnb y hd.2 h hS' hQ
    | exit id =>
      simp only [Option.some.injEq, Prod.mk.injEq] at h
      obtain ⟨rfl, rfl⟩ := h
      exact evCode_sound hcall hm hnb x hd.1 h1 hS fun a' w' hS' => hQ a' w' hS'
    | ret =>
      simp only [Option.some.injEq, Prod.mk.injEq] at h
      obtain ⟨rfl, rfl⟩ := h
      exact evCode_sound hcall hm hnb x hd.1 h1 hS fun a' w' hS' => hQ a' w' hS'
  | .cond c x y, s, e, s', a, w, Q, hd, h, hS, hQ => by
    simp only [dstOk, Bool.and_eq_true] at hd
    simp only [evCode] at h
    rcases h1 : s.opd c with _ | rv
    · simp [h1] at h
    rw [h1] at h
    rcases rv with p | _ | _ | _ | _ | _ | _ | _ | _ | _ | _ | _ <;> first | (simp at h; done) | skip
    cases p <;> first | (simp at h; done) | skip
    rename_i t
    have hS' := hS
    obtain ⟨hdf, S, loc, hsim⟩ := hS'
    have hb := (hsim.opd h1).bool_inv
    cases t with
    | true =>
      simp only [if_true] at h
      exact wp_cond_true hb (evCode_sound hcall hm hnb x hd.1 h hS hQ)
    | false =>
      simp only [Bool.false_eq_true, if_false] at h
      exact wp_cond_false hb (evCode_sound hcall hm hnb y hd.2 h hS hQ)
  | .block id x, s, e, s', a, w, Q, hd, h, hS, hQ => by
    simp only [evCode] at h
    rcases h1 : evCode P H f nb call fuel x s with _ | ⟨e1, s1⟩
    · simp [h1] at h
    rw [h1] at h
    refine wp_block (evCode_sound hcall hm hnb x hd h1 hS fun a' w' hS' => ?_)
    cases e1 with
    | normal =>
      simp only [Option.some.injEq, Prod.mk.injEq] at h
      obtain ⟨rfl, rfl⟩ := h
      exact hQ a' w' hS'
    | exit id' =>
      simp only at h
      by_cases hid : id' = id
      · simp only [hid, if_true, Option.some.injEq, Prod.mk.injEq] at h
        obtain ⟨rfl, rfl⟩ := h
        simp only [Ex.out, Exit.inBlock, hid, if_true]
        exact hQ a' w' hS'
      · simp only [hid, if_false, Option.some.injEq, Prod.mk.injEq] at h
        obtain ⟨rfl, rfl⟩ := h
        simp only [Ex.out, Exit.inBlock, hid, if_false]
        exact hQ a' w' hS'
    | ret =>
      simp only [Option.some.injEq, Prod.mk.injEq] at h
      obtain ⟨rfl, rfl⟩ := h
      exact hQ a' w' hS'
  | .loop x, s, e, s', a, w, Q, hd, h, hS, hQ => by
    simp only [evCode] at h
    exact wp_loop_rounds fuel (evLoop_rounds (fun hb hS hQ => evCode_sound hcall hm hnb x hd hb hS hQ) fuel h hS hQ)
  | .exit id, s, e, s', a, w, Q, _, h, hS, hQ => by
    simp only [evCode, Option.some.injEq, Prod.mk.injEq] at h
    obtain ⟨rfl, rfl⟩ := h
    exact wp_exit (hQ a w hS)
  | .ret, s, e, s', a, w, Q, _, h, hS, hQ => by
    simp only [evCode, Option.some.injEq, Prod.mk.injEq] at h
    obtain ⟨rfl, rfl⟩ := h
    exact wp_ret (hQ a w hS)
  | .rangeFunc _ _ _ _, s, e, s', a, w, Q, _, h, _, _ => by simp [evCode] at h
  | .scope _, s, e, s', a, w, Q, _, h, _, _ => by simp [evCode] at h
  | .label _, s, e, s', a, w, Q, _, h, _, _ => by simp [evCode] at h
  | .goto _, s, e, s', a, w, Q, _, h, _, _ => by simp [evCode] at h
  | .refuse _, s, e, s', a, w, Q, _, h, _, _ => by simp [evCode] at h
end
end Go.Ds
