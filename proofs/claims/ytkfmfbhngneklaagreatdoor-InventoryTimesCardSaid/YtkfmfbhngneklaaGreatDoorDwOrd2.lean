/- DwOrd2: a region that draws its order. -/
import Derived.Test.YtkfmfbhngneklaaGreatDoorDwOrd
namespace Go.Dw

theorem ups_in : ∀ (u : Ups) (s s' : St) (id : Nat), id ∈ u.map (·.1) → (s.ups u).boxes id = (s'.ups u).boxes id
  | [], _, _, _, h => by simp at h
  | (i, b) :: r, s, s', id, h => by
    rw [ups_cons, ups_cons]
    by_cases hr : id ∈ r.map (·.1)
    · exact ups_in r _ _ id hr
    · rw [ups_at _ _ _ hr, ups_at _ _ _ hr]
      have : id = i := by simpa [hr] using h
      subst this
      show upd s.boxes id b id = upd s'.boxes id b id
      rw [upd_same, upd_same]
theorem put_boxes (s : St) (d : Option Nat) (v : RV) : (s.put d v).boxes = s.boxes := by cases d <;> rfl
theorem St.ext' {s s' : St} (h1 : s.regs = s'.regs) (h2 : s.boxes = s'.boxes) : s = s' := by
  obtain ⟨a, b⟩ := s
  obtain ⟨c, d⟩ := s'
  simp only at h1 h2
  subst h1; subst h2
  rfl
/-- Two steps, apart from one another, exchanged. -/
theorem swap_state {s : St} {u1 u2 : Ups} {d1 d2 : Option Nat} {v1 v2 : RV} (hu : disj (u1.map (·.1)) (u2.map (·.1)) = true) (hd : ∀ d, d1 = some d → d2 ≠ some d) :
    ((((s.ups u1).put d1 v1).ups u2).put d2 v2) = ((((s.ups u2).put d2 v2).ups u1).put d1 v1) := by
  have hu := disj_spec hu
  refine St.ext' ?_ ?_
  · cases d1 with
    | none =>
      cases d2 with
      | none => simp only [St.put, ups_regs]
      | some e => simp only [St.put, ups_regs]
    | some d =>
      cases d2 with
      | none => simp only [St.put, ups_regs]
      | some e =>
        have hne : d ≠ e := fun he => hd d rfl (he ▸ rfl)
        simp only [St.put, ups_regs]
        funext t
        by_cases h1 : t = d
        · subst h1; simp [hne]
        · by_cases h2 : t = e
          · subst h2; simp [h1]
          · simp [h1, h2]
  · rw [put_boxes, put_boxes]
    funext id
    by_cases h1 : id ∈ u1.map (·.1)
    · have h2 : id ∉ u2.map (·.1) := hu id h1
      rw [ups_at _ _ _ h2, put_boxes]
      rw [ups_in u1 _ ((s.ups u2).put d2 v2) id h1]
    · by_cases h2 : id ∈ u2.map (·.1)
      · rw [ups_at u1 _ _ h1, put_boxes]
        rw [ups_in u2 _ s id h2]
      · rw [ups_at _ _ _ h2, put_boxes, ups_at _ _ _ h1, ups_at _ _ _ h1, put_boxes, ups_at _ _ _ h2]

section
variable {P : Program} {mt : Hf} {call : CallD} {ops : Array Oper}

theorem step1_cases {o : Oper} {s s' : St} {t : Tr} (h : step1 P mt call ops o s = some (s', t)) :
    (wantD ops s o = some true ∧ ∃ v u, evOp P mt call s o s.boxes = some ((v, u), t.rd, true) ∧ s' = (s.ups u).put o.dst v ∧ t.wr = u.map (·.1)) ∨
    (wantD ops s o = some false ∧ s' = s.put o.dst .undef ∧ t.rd = [] ∧ t.wr = []) := by
  unfold step1 at h
  rcases hw : wantD ops s o with _ | w
  · simp [hw] at h
  simp only [hw] at h
  cases w with
  | true =>
    simp only [if_true] at h
    rcases he : evOp P mt call s o s.boxes with _ | ⟨⟨v, u⟩, rd, c⟩
    · simp [he] at h
    simp only [he] at h
    cases c with
    | true =>
      simp only [if_true, Option.some.injEq, Prod.mk.injEq] at h
      obtain ⟨rfl, rfl⟩ := h
      exact .inl ⟨rfl, v, u, rfl, rfl, rfl⟩
    | false => simp at h
  | false =>
    simp only [Bool.false_eq_true, if_false, Option.some.injEq, Prod.mk.injEq] at h
    obtain ⟨rfl, rfl⟩ := h
    exact .inr ⟨rfl, rfl, rfl, rfl⟩
theorem step1_do {o : Oper} {s : St} {v : RV} {u : Ups} {rd : List Nat} (hw : wantD ops s o = some true) (he : evOp P mt call s o s.boxes = some ((v, u), rd, true)) :
    step1 P mt call ops o s = some ((s.ups u).put o.dst v, ⟨rd, u.map (·.1)⟩) := by
  unfold step1; simp [hw, he]
theorem step1_skip {o : Oper} {s : St} (hw : wantD ops s o = some false) : step1 P mt call ops o s = some (s.put o.dst .undef, ⟨[], []⟩) := by
  unfold step1; simp [hw]

theorem wantD_congr {o : Oper} {s s' : St} (h : ∀ t ∈ o.looksAt ops, s.regs t = s'.regs t) : wantD ops s o = wantD ops s' o := by
  unfold wantD
  cases hg : o.guard with
  | none => rfl
  | some g =>
    obtain ⟨j, want⟩ := g
    simp only
    cases ht : (ops[j]?).bind (·.dst) with
    | none => rfl
    | some t =>
      simp only
      rw [h t (by simp [Oper.looksAt, hg, ht])]
theorem evOp_looks {o : Oper} {s s' : St} (h : ∀ t ∈ o.looksAt ops, s.regs t = s'.regs t) : evOp P mt call s o = evOp P mt call s' o := by
  refine evOp_congr o fun x hx => ?_
  cases x with
  | tmp t => exact h t (List.mem_append_left _ (List.mem_filterMap.2 ⟨.tmp t, by simpa using hx, rfl⟩))
  | const v => rfl
  | global g => rfl
  | func f => rfl

/-- A step that looks at nothing that another has turned: the same step. -/
theorem step1_frame {o : Oper} {s s1 s' : St} {t : Tr} {d : Option Nat} {u : Ups} {v : RV} (h : step1 P mt call ops o s1 = some (s', t)) (hs : s1 = (s.ups u).put d v)
    (hd : ∀ e, d = some e → e ∉ o.looksAt ops) (hu : disj (u.map (·.1)) t.rd = true) :
    ∃ v' u', t.wr = u'.map (·.1) ∧ s' = (s1.ups u').put o.dst v' ∧ step1 P mt call ops o s = some ((s.ups u').put o.dst v', t) := by
  have hregs : ∀ t ∈ o.looksAt ops, s1.regs t = s.regs t := by
    intro t ht
    subst hs
    cases d with
    | none => simp only [St.put, ups_regs]
    | some e =>
      have : t ≠ e := fun he => hd e rfl (he ▸ ht)
      simp only [St.put, ups_regs, this, if_false]
  have hu := disj_spec hu
  rcases step1_cases h with ⟨hw, v', u', he, h1, h2⟩ | ⟨hw, h1, h2, h3⟩
  · have hw' : wantD ops s o = some true := by rw [← wantD_congr hregs]; exact hw
    have he' : evOp P mt call s o s.boxes = some ((v', u'), t.rd, true) := by
      rw [← evOp_looks (P := P) (mt := mt) (call := call) hregs]
      refine Lc.evOp P mt call s1 o _ _ _ _ _ he fun id hid => ?_
      subst hs
      rw [put_boxes, ups_at _ _ _ (fun hm => hu id hm hid)]
    refine ⟨v', u', h2, h1, ?_⟩
    rw [step1_do hw' he']
    obtain ⟨rd, wr⟩ := t
    simp only at h2
    rw [h2]
  · have hw' : wantD ops s o = some false := by rw [← wantD_congr hregs]; exact hw
    refine ⟨.undef, [], by rw [h3]; rfl, h1, ?_⟩
    rw [step1_skip hw']
    obtain ⟨rd, wr⟩ := t
    simp only at h2 h3
    rw [h2, h3]
    rfl

theorem commute {x y : Oper} {s s1 s2 : St} {tx ty : Tr} (h1 : step1 P mt call ops x s = some (s1, tx)) (h2 : step1 P mt call ops y s1 = some (s2, ty)) (hp : pairOk ops (x, tx) (y, ty) = true) :
    ∃ s3, step1 P mt call ops y s = some (s3, ty) ∧ step1 P mt call ops x s3 = some (s2, tx) := by
  simp only [pairOk, Bool.and_eq_true] at hp
  obtain ⟨⟨⟨hap, hd1⟩, hd2⟩, hd3⟩ := hp
  obtain ⟨a1, a2, a3⟩ := Oper.apart_spec hap
  have hx : ∃ v u, s1 = (s.ups u).put x.dst v ∧ tx.wr = u.map (·.1) := by
    rcases step1_cases h1 with ⟨_, v, u, _, h3, h4⟩ | ⟨_, h3, _, h4⟩
    · exact ⟨v, u, h3, h4⟩
    · exact ⟨.undef, [], h3, by rw [h4]; rfl⟩
  obtain ⟨vx, ux, hs1, hwx⟩ := hx
  obtain ⟨vy, uy, hwy, hs2, hy⟩ := step1_frame h2 hs1 a1 (by rw [← hwx]; exact hd1)
  refine ⟨_, hy, ?_⟩
  have hregs : ∀ t ∈ x.looksAt ops, ((s.ups uy).put y.dst vy).regs t = s.regs t := by
    intro t ht
    cases hdy : y.dst with
    | none => simp only [St.put, ups_regs]
    | some e =>
      have : t ≠ e := fun he => a3 e hdy (he ▸ ht)
      simp only [St.put, ups_regs, this, if_false]
  have hd2 := disj_spec hd2
  rcases step1_cases h1 with ⟨hw, v, u, he, h3, h4⟩ | ⟨hw, h3, h4, h5⟩
  · have hw' : wantD ops ((s.ups uy).put y.dst vy) x = some true := by rw [wantD_congr hregs]; exact hw
    have he' : evOp P mt call ((s.ups uy).put y.dst vy) x ((s.ups uy).put y.dst vy).boxes = some ((v, u), tx.rd, true) := by
      rw [evOp_looks (P := P) (mt := mt) (call := call) hregs]
      refine Lc.evOp P mt call s x _ _ _ _ _ he fun id hid => ?_
      rw [put_boxes, ups_at _ _ _ (fun hm => hd2 id (by rw [hwy]; exact hm) hid)]
    rw [step1_do hw' he', hs2, h3]
    rw [swap_state (by rw [← h4, ← hwy]; exact hd3) a2]
    obtain ⟨rd, wr⟩ := tx
    simp only at h4
    rw [h4]
  · have hw' : wantD ops ((s.ups uy).put y.dst vy) x = some false := by rw [wantD_congr hregs]; exact hw
    rw [step1_skip hw', hs2, h3]
    have := swap_state (s := s) (u1 := []) (u2 := uy) (d1 := x.dst) (d2 := y.dst) (v1 := .undef) (v2 := vy) (by rfl) a2
    simp only [St.ups] at this
    rw [this]
    obtain ⟨rd, wr⟩ := tx
    simp only at h4 h5
    rw [h4, h5]

theorem evOps_cons {o : Oper} {r : List Oper} {s sF : St} {ts : List Tr} (h : evOps P mt call ops (o :: r) s = some (sF, ts)) :
    ∃ s1 t ts', step1 P mt call ops o s = some (s1, t) ∧ evOps P mt call ops r s1 = some (sF, ts') ∧ ts = t :: ts' := by
  unfold evOps at h
  rcases h1 : step1 P mt call ops o s with _ | ⟨s1, t⟩
  · simp [h1] at h
  simp only [h1] at h
  rcases h2 : evOps P mt call ops r s1 with _ | ⟨s2, ts'⟩
  · simp [h2] at h
  simp only [h2, Option.some.injEq, Prod.mk.injEq] at h
  exact ⟨s1, t, ts', rfl, by rw [h2, h.1], h.2.symm⟩
theorem evOps_mk {o : Oper} {r : List Oper} {s s1 sF : St} {t : Tr} {ts : List Tr} (h1 : step1 P mt call ops o s = some (s1, t)) (h2 : evOps P mt call ops r s1 = some (sF, ts)) :
    evOps P mt call ops (o :: r) s = some (sF, t :: ts) := by
  unfold evOps; simp [h1, h2]

/-- An operation brought to the front. -/
theorem evOps_front : ∀ (l1 : List (Oper × Tr)) {o : Oper} {t : Tr} {l2 : List (Oper × Tr)} {s sF : St},
    evOps P mt call ops ((l1 ++ (o, t) :: l2).map (·.1)) s = some (sF, (l1 ++ (o, t) :: l2).map (·.2)) → (∀ x ∈ l1, pairOk ops x (o, t) = true) →
    ∃ s1, step1 P mt call ops o s = some (s1, t) ∧ evOps P mt call ops ((l1 ++ l2).map (·.1)) s1 = some (sF, (l1 ++ l2).map (·.2))
  | [], o, t, l2, s, sF, h, _ => by
    simp only [List.nil_append, List.map_cons] at h
    obtain ⟨s1, t', ts', h1, h2, h3⟩ := evOps_cons h
    cases h3
    exact ⟨s1, h1, h2⟩
  | (x, tx) :: l1, o, t, l2, s, sF, h, hp => by
    simp only [List.cons_append, List.map_cons] at h
    obtain ⟨s1, t', ts', h1, h2, h3⟩ := evOps_cons h
    cases h3
    obtain ⟨s2, h4, h5⟩ := evOps_front l1 h2 (fun y hy => hp y (by simp [hy]))
    obtain ⟨s3, h6, h7⟩ := commute h1 h4 (hp (x, tx) (by simp))
    exact ⟨s3, h6, by simp only [List.cons_append, List.map_cons]; exact evOps_mk h7 h5⟩

/-! ### What comes before -/
theorem ancs_get : ∀ (l : List Oper) (acc : List Nat) (i : Nat), i < acc.length → (ancs l acc).getD i 0 = acc.getD i 0
  | [], acc, i, _ => rfl
  | o :: r, acc, i, h => by
    rw [ancs, ancs_get r _ i (by simp; omega)]
    simp only [List.getD_eq_getElem?_getD]
    rw [List.getElem?_append_left h]

theorem foldl_bits (acc : List Nat) : ∀ (es : List Edge) (b j : Nat), (es.foldl (fun b e => if Region.binds .any e then b ||| (2 ^ e.on ||| acc.getD e.on 0) else b) b).testBit j = true →
    b.testBit j = true ∨ ∃ e ∈ es, Region.binds .any e = true ∧ (e.on = j ∨ (acc.getD e.on 0).testBit j = true)
  | [], b, j, h => .inl h
  | e :: es, b, j, h => by
    simp only [List.foldl_cons] at h
    rcases foldl_bits acc es _ j h with h1 | ⟨e', h1, h2, h3⟩
    · by_cases hb : Region.binds .any e = true
      · simp only [hb, if_true, Nat.testBit_or, Bool.or_eq_true, Nat.testBit_two_pow, decide_eq_true_eq] at h1
        rcases h1 with h1 | h1 | h1
        · exact .inl h1
        · exact .inr ⟨e, by simp, hb, .inl h1⟩
        · exact .inr ⟨e, by simp, hb, .inr h1⟩
      · simp only [hb] at h1; exact .inl h1
    · exact .inr ⟨e', by simp [h1], h2, h3⟩

theorem ancs_spec : ∀ (l : List Oper) (acc : List Nat) (i : Nat) (o : Oper), l[i]? = some o → ∀ j, ((ancs l acc).getD (acc.length + i) 0).testBit j = true →
    ∃ e ∈ o.after, Region.binds .any e = true ∧ (e.on = j ∨ (e.on < acc.length + i ∧ ((ancs l acc).getD e.on 0).testBit j = true))
  | [], acc, i, o, h, _, _ => by simp at h
  | x :: r, acc, 0, o, h, j, hj => by
    simp only [List.getElem?_cons_zero, Option.some.injEq] at h
    subst h
    rw [ancs, Nat.add_zero, ancs_get r _ acc.length (by simp)] at hj
    simp only [List.getD_eq_getElem?_getD, List.getElem?_concat_length, Option.getD_some] at hj
    rcases foldl_bits acc x.after.toList 0 j hj with h1 | ⟨e, h1, h2, h3⟩
    · simp at h1
    · refine ⟨e, by simpa using h1, h2, ?_⟩
      rcases h3 with h3 | h3
      · exact .inl h3
      · by_cases hlt : e.on < acc.length
        · refine .inr ⟨by omega, ?_⟩
          rw [ancs, ancs_get r _ e.on (by simp; omega)]
          simp only [List.getD_eq_getElem?_getD] at h3 ⊢
          rw [List.getElem?_append_left hlt]
          exact h3
        · rw [List.getD_eq_getElem?_getD, List.getElem?_eq_none (by omega)] at h3
          simp at h3
  | x :: r, acc, i + 1, o, h, j, hj => by
    simp only [List.getElem?_cons_succ] at h
    rw [ancs] at hj ⊢
    have := ancs_spec r (acc ++ [x.after.toList.foldl (fun b e => if Region.binds .any e then b ||| (2 ^ e.on ||| acc.getD e.on 0) else b) 0]) i o h j (by
      simp only [List.length_append, List.length_singleton]
      rw [show acc.length + 1 + i = acc.length + (i + 1) by omega]
      exact hj)
    simp only [List.length_append, List.length_singleton] at this
    rw [show acc.length + 1 + i = acc.length + (i + 1) by omega] at this
    exact this

/-- The set of what has come up is closed; then all that comes before something that may come up has come up. -/
theorem anc_listed {listed : Array Bool} (hclosed : ∀ (i : Nat) o, ops[i]? = some o → listed.getD i false = true → ∀ e ∈ o.after, Region.binds .any e = true → listed.getD e.on false = true) (hsz : listed.size = ops.size) :
    ∀ (n i : Nat) (o : Oper), i ≤ n → ops[i]? = some o → (∀ e ∈ o.after, Region.binds .any e = true → listed.getD e.on false = true) → ∀ j, ((ancs ops.toList []).getD i 0).testBit j = true → listed.getD j false = true := by
  intro n
  induction n with
  | zero =>
    intro i o hi ho he j hj
    have h0 : i = 0 := by omega
    subst h0
    obtain ⟨e, h1, h2, h3⟩ := ancs_spec ops.toList [] 0 o (by simpa using ho) j (by simpa using hj)
    rcases h3 with rfl | ⟨h3, _⟩
    · exact he e h1 h2
    · simp at h3
  | succ n ih =>
    intro i o hi ho he j hj
    obtain ⟨e, h1, h2, h3⟩ := ancs_spec ops.toList [] i o (by simpa using ho) j (by simpa using hj)
    rcases h3 with rfl | ⟨h3, h4⟩
    · exact he e h1 h2
    · simp only [List.length_nil, Nat.zero_add] at h3
      have hl := he e h1 h2
      have hlt : e.on < ops.size := by
        rcases Nat.lt_or_ge e.on listed.size with h | h
        · omega
        · simp [Array.getElem?_eq_none h] at hl
      have ho2 : ops[e.on]? = some ops[e.on] := Array.getElem?_eq_getElem hlt
      exact ih e.on _ (by omega) ho2 (hclosed e.on _ ho2 hl) j h4
end
end Go.Dw
