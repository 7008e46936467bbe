/- DsApp: parts of strings and lists; append. -/
import Derived.Test.YtjlbpchimjjcpaaDoorDsList
import Derived.Laws.Slices
namespace Go.Ds
section
variable {P : Program} {X : Ctx} {S : Snap} {loc : Locs} {s : St} {tm : Array Value} {w : World}

inductive RO (S : Snap) (loc : Locs) : Option RV → Option Value → Prop
  | none : RO S loc none none
  | some {rv : RV} {v : Value} (h : R S loc rv v) : RO S loc (some rv) (some v)

theorem bnd_some {rv : RV} {d n : Int} (h : bnd (some rv) d = some n) : ∃ k, rv = .d (.int k n) := by
  rcases rv with p | _ | _ | _ | _ | _ | _ | _ | _ | _ | _ | _ <;> first | (simp [bnd] at h; done) | skip
  cases p <;> first | (simp [bnd] at h; done) | skip
  simp only [bnd, Option.some.injEq] at h
  subst h
  exact ⟨_, rfl⟩

theorem bounds_run {b : Bool} {len cap : Nat} {lo hi : Option RV} {lo' hi' : Option Value} {l h : Int} (h1 : RO S loc lo lo') (h2 : RO S loc hi hi') (hl : bnd lo 0 = some l) (hh : bnd hi len = some h)
    (h0 : 0 ≤ l ∧ l ≤ h ∧ h ≤ len) (hc : len ≤ cap) : (Instr.sliceBounds b len cap lo' hi' none).run P w = .ok (l.toNat, h.toNat, cap) w := by
  obtain ⟨a1, a2, a3⟩ := h0
  cases h1 with
  | none =>
    simp only [bnd, Option.some.injEq] at hl
    subst hl
    cases h2 with
    | none => simp only [bnd, Option.some.injEq] at hh; subst hh; simp [Instr.sliceBounds]
    | some h2 =>
      obtain ⟨k, rfl⟩ := bnd_some hh
      have := h2.int_inv
      subst this
      have e : 0 ≤ h ∧ h ≤ (cap : Int) := ⟨by omega, by omega⟩
      simp [Instr.sliceBounds, Instr.sliceBound, asIntOf, e]
  | some h1 =>
    obtain ⟨k, rfl⟩ := bnd_some hl
    have := h1.int_inv
    subst this
    cases h2 with
    | none =>
      simp only [bnd, Option.some.injEq] at hh
      subst hh
      have e : 0 ≤ l ∧ l ≤ (len : Int) := ⟨by omega, by omega⟩
      simp [Instr.sliceBounds, Instr.sliceBound, asIntOf, e]
    | some h2 =>
      obtain ⟨k', rfl⟩ := bnd_some hh
      have := h2.int_inv
      subst this
      have e : 0 ≤ h ∧ h ≤ (cap : Int) := ⟨by omega, by omega⟩
      have e3 : l ≤ max h 0 := by omega
      simp [Instr.sliceBounds, Instr.sliceBound, asIntOf, e, a1, e3]

theorem cut_drop_take {α : Type} (l : List α) (hi : Option RV) (a h : Int) (hh : bnd hi l.length = some h) (h0 : 0 ≤ a ∧ a ≤ h ∧ h ≤ l.length) :
    cut l a.toNat (hiOf hi h) = (l.drop a.toNat).take (h.toNat - a.toNat) := by
  cases hi with
  | none =>
    simp only [bnd, Option.some.injEq] at hh
    subst hh
    simp only [hiOf, cut]
    rw [List.take_of_length_le]
    simp
  | some r => simp only [hiOf, cut]

theorem sliceD_sound {t : TypeId} {x v : RV} {lo hi mx : Option RV} {lo' hi' mx' : Option Value} {b : Boxes} {u : Ups} {r : List Nat} {vx : Value} (hl : sliceD P t x lo hi mx b = some ((v, u), r, true)) (hx : R S loc x vx)
    (h1 : RO S loc lo lo') (h2 : RO S loc hi hi') (h3 : RO S loc mx mx') :
    ∃ v', (Instr.sliceAt t vx lo' hi' mx').run P w = .ok v' w ∧ R S loc v v' ∧ u = [] := by
  unfold sliceD at hl
  rcases hu : P.underlying t with _ | d
  · simp only [hu] at hl; exact (M.fail_some (b := b) hl).elim
  rw [hu] at hl
  cases h3 with
  | some h3 => cases d <;> first | exact (M.fail_some (b := b) hl).elim | (rcases x with p | _ | _ | _ | _ | _ | _ | _ | _ | _ | _ | _ <;> first | exact (M.fail_some (b := b) hl).elim | (cases p <;> exact (M.fail_some (b := b) hl).elim))
  | none =>
  cases d <;> first | exact (M.fail_some (b := b) hl).elim | skip
  case string =>
    rcases x with p | _ | _ | _ | _ | _ | _ | _ | _ | _ | _ | _ <;> first | exact (M.fail_some (b := b) hl).elim | skip
    cases p <;> first | exact (M.fail_some (b := b) hl).elim | skip
    rename_i l
    rcases hb1 : bnd lo 0 with _ | a
    · simp only [hb1] at hl; exact (M.fail_some (b := b) hl).elim
    rcases hb2 : bnd hi l.length with _ | h
    · simp only [hb1, hb2] at hl; exact (M.fail_some (b := b) hl).elim
    simp only [hb1, hb2] at hl
    obtain ⟨h4, -, h5⟩ := needRV_some hl
    cases h4
    have h0 := of_decide_eq_true h5.symm
    have e1 := hx.str_inv
    subst e1
    have hb := bounds_run (P := P) (w := w) (b := false) (len := l.length) (cap := l.length) h1 h2 hb1 hb2 h0 (Nat.le_refl _)
    refine ⟨.string ((ByteArray.mk l.toArray).extract a.toNat h.toNat), ?_, ?_, rfl⟩
    · simp [Instr.sliceAt, run_underlying hu, Instr.slice, mk_size, hb]
    · rw [ByteArray.extract_mk, cut_drop_take l hi a h hb2 h0]
      exact .d (.str _)
  case slice e =>
    rcases x with p | _ | _ | _ | _ | _ | _ | _ | _ | _ | _ | _ <;> first | exact (M.fail_some (b := b) hl).elim | skip
    cases p <;> first | exact (M.fail_some (b := b) hl).elim | skip
    rename_i es
    rcases hb1 : bnd lo 0 with _ | a
    · simp only [hb1] at hl; exact (M.fail_some (b := b) hl).elim
    rcases hb2 : bnd hi es.length with _ | h
    · simp only [hb1, hb2] at hl; exact (M.fail_some (b := b) hl).elim
    rcases hk : szT P e with _ | k
    · simp only [hb1, hb2, hk] at hl; exact (M.fail_some (b := b) hl).elim
    simp only [hb1, hb2, hk] at hl
    obtain ⟨h4, -, h5⟩ := needRV_some hl
    cases h4
    simp only [Bool.true_eq, Bool.and_eq_true] at h5
    obtain ⟨h5, h6⟩ := h5
    have h0 := of_decide_eq_true h5
    obtain ⟨ad, c, rfl, hc⟩ := len_nat hx.lst_inv
    have hb := bounds_run (P := P) (w := w) (b := true) (len := es.length) (cap := c) h1 h2 hb1 hb2 h0 hc
    refine ⟨.slice (if c = a.toNat then ad else ad.map (·.add (a.toNat * k))) (h.toNat - a.toNat) (c - a.toNat), ?_, ?_, rfl⟩
    · simp [Instr.sliceAt, run_underlying hu, Instr.slice, hb, sizeOf_run hk]
    · rw [cut_drop_take es hi a h hb2 h0]
      have hlen : ((es.drop a.toNat).take (h.toNat - a.toNat)).length = h.toNat - a.toNat := by simp; omega
      refine .d ?_
      by_cases hz : h.toNat - a.toNat = 0
      · rw [hz]
        simp only [List.take_zero]
        exact .nil _ _
      · have hne : es[a.toNat]? = some es[a.toNat] := List.getElem?_eq_getElem (by omega)
        obtain ⟨bb, o, c', sz, f, he, _, hsz, hS, hV⟩ := hx.lst_inv.elem hne
        cases he
        have hszk : sz = k := by
          have := List.all_eq_true.1 h6 _ (List.mem_of_getElem? hne)
          rw [← hsz _ (List.mem_of_getElem? hne)]
          simpa using this
        subst hszk
        rw [if_neg (by omega)]
        simp only [Option.map_some, add_mk]
        have := V.lst (S := S) ((es.drop a.toNat).take (h.toNat - a.toNat)) bb (o + a.toNat * sz) (c - a.toNat) sz (fun i j => f (a.toNat + i) j) (by rw [hlen]; omega)
          (fun e he => hsz e (List.mem_of_mem_drop (List.mem_of_mem_take he)))
          (fun i e j x hi hj => by
            rw [List.getElem?_take] at hi
            split at hi
            · rw [List.getElem?_drop] at hi
              have := hS _ e j x hi hj
              rw [← this]
              congr 2
              rw [Nat.add_mul]
              omega
            · cases hi)
          (fun i e j x hi hj => by
            rw [List.getElem?_take] at hi
            split at hi
            · rw [List.getElem?_drop] at hi
              exact hV _ e j x hi hj
            · cases hi)
        rw [hlen] at this
        exact this

/-! ### append -/
theorem Flat.nil (S : Snap) (sz : Nat) : Flat S sz [] [] := ⟨(fun e he => by cases he), (fun u hu => by cases hu), (fun i e j x hi => by simp at hi)⟩
theorem Flat.append {sz : Nat} {es fs : List PD} {xs ys : List Value} (h : Flat S sz es xs) (hl : xs.length = es.length * sz) (h' : Flat S sz fs ys) : Flat S sz (es ++ fs) (xs ++ ys) := by
  refine ⟨fun e he => (List.mem_append.1 he).elim (h.len e) (h'.len e), fun u hu => (List.mem_append.1 hu).elim (h.one u) (h'.one u), fun i e j x hi hj => ?_⟩
  by_cases hlt : i < es.length
  · rw [List.getElem?_append_left hlt] at hi
    obtain ⟨u, hu, hv⟩ := h.cell i e j x hi hj
    exact ⟨u, by rw [List.getElem?_append_left (List.getElem?_eq_some_iff.1 hu).1]; exact hu, hv⟩
  · rw [List.getElem?_append_right (by omega)] at hi
    obtain ⟨u, hu, hv⟩ := h'.cell (i - es.length) e j x hi hj
    refine ⟨u, ?_, hv⟩
    have hle : es.length * sz ≤ i * sz := Nat.mul_le_mul_right _ (by omega)
    rw [List.getElem?_append_right (by omega), ← hu]
    congr 1
    rw [hl, Nat.sub_mul]
    omega

/-- What is appended, as the model finds it. -/
def Appd (w : World) (S : Snap) (sz : Nat) (vx : Value) (es : List PD) : Prop :=
  ∃ a c news, vx = .slice a es.length c ∧ news.length = es.length * sz ∧ Flat S sz es news ∧ (es ≠ [] → ∃ ad, a = some ad ∧ ∀ (j : Nat) u, news[j]? = some u → w.cell? (ad.add j) = some u)

theorem appendee_sound (h : Sim P X S loc s tm w) {x : RV} {es : List PD} {r : List Nat} {vx : Value} {sz : Nat} (hl : appendee x s.boxes = some (es, r, true)) (hx : R S loc x vx) (hpos : 0 < sz) (hsz : ∀ e ∈ es, e.cells.length = sz) :
    Appd w S sz vx es := by
  rcases x with p | _ | _ | _ | _ | _ | ⟨id, ver⟩ | _ | _ | _ | _ | _ <;> first | exact (M.fail_some (b := s.boxes) hl).elim | skip
  · cases p <;> first | exact (M.fail_some (b := s.boxes) hl).elim | skip
    rename_i es'
    obtain ⟨h1, -, -⟩ := M.pure_some (b := s.boxes) hl
    subst h1
    by_cases hne : es = []
    · subst hne
      obtain ⟨a, c, rfl, _⟩ := len_nat hx.lst_inv
      exact ⟨a, c, [], rfl, by simp, Flat.nil S _, fun h => (h rfl).elim⟩
    · obtain ⟨e0, r0, he0⟩ : ∃ e r, es = e :: r := by
        cases es with
        | nil => exact (hne rfl).elim
        | cons e r => exact ⟨e, r, rfl⟩
      have h0 : es[0]? = some e0 := by rw [he0]; rfl
      obtain ⟨b, o, c, sz', f, rfl, hc, hsz', hS, hV⟩ := hx.lst_inv.elem h0
      have : sz' = sz := by rw [← hsz' e0 (List.mem_of_getElem? h0)]; exact hsz e0 (List.mem_of_getElem? h0)
      subst this
      have key : ∀ q, q < es.length * sz' → ∃ e x, es[q / sz']? = some e ∧ e.cells[q % sz']? = some x := by
        intro q hq
        have h1 : q / sz' < es.length := (Nat.div_lt_iff_lt_mul hpos).2 hq
        have h2 : q % sz' < (es[q / sz']).cells.length := by rw [hsz' _ (List.getElem_mem h1)]; exact Nat.mod_lt _ hpos
        exact ⟨_, _, List.getElem?_eq_getElem h1, List.getElem?_eq_getElem h2⟩
      have hget : ∀ q u, ((List.range (es.length * sz')).map (fun q => f (q / sz') (q % sz')))[q]? = some u → q < es.length * sz' ∧ u = f (q / sz') (q % sz') := by
        intro q u hq
        rw [List.getElem?_map] at hq
        cases hr : (List.range (es.length * sz'))[q]? with
        | none => simp [hr] at hq
        | some k =>
          simp only [hr, Option.map_some, Option.some.injEq] at hq
          obtain ⟨hlt, he⟩ := List.getElem?_eq_some_iff.1 hr
          simp at hlt he
          subst he
          exact ⟨hlt, hq.symm⟩
      have hcell : ∀ q, q < es.length * sz' → S ⟨b, o + q, none⟩ = some (f (q / sz') (q % sz')) := by
        intro q hq
        obtain ⟨e, x, h1, h2⟩ := key q hq
        have := hS _ e _ x h1 h2
        rw [← this]
        congr 2
        have := Nat.div_add_mod q sz'
        rw [Nat.mul_comm] at this
        omega
      refine ⟨_, c, (List.range (es.length * sz')).map (fun q => f (q / sz') (q % sz')), rfl, by simp, ⟨hsz', ?_, ?_⟩, fun _ => ⟨_, rfl, ?_⟩⟩
      · intro u hu
        obtain ⟨q, hq, hqe⟩ := List.getElem_of_mem hu
        obtain ⟨h1, h2⟩ := hget q u (by rw [List.getElem?_eq_getElem hq, hqe])
        exact h.sone _ u (by rw [h2]; exact hcell q h1)
      · intro i e j x hi hj
        have hi' := (List.getElem?_eq_some_iff.1 hi).1
        have hj' : j < sz' := by
          have := (List.getElem?_eq_some_iff.1 hj).1
          rw [hsz' e (List.mem_of_getElem? hi)] at this
          exact this
        have hq : i * sz' + j < es.length * sz' := by
          have := Nat.mul_le_mul_right sz' (show i + 1 ≤ es.length from hi')
          rw [Nat.add_mul, Nat.one_mul] at this
          omega
        refine ⟨f i j, ?_, hV i e j x hi hj⟩
        rw [List.getElem?_map, List.getElem?_range hq]
        simp only [Option.map_some, Option.some.injEq]
        have hd : (i * sz' + j) / sz' = i := by
          rw [Nat.mul_comm, Nat.mul_add_div hpos, Nat.div_eq_of_lt hj', Nat.add_zero]
        have hm : (i * sz' + j) % sz' = j := by
          rw [Nat.mul_comm, Nat.mul_add_mod, Nat.mod_eq_of_lt hj']
        rw [hd, hm]
      · intro q u hq
        obtain ⟨h1, rfl⟩ := hget q u hq
        rw [add_mk]
        exact h.imm _ _ (hcell q h1)
  · obtain ⟨h1, -, -⟩ := M.pure_some (b := s.boxes) hl
    subst h1
    cases hx with
    | nils => exact ⟨none, 0, [], rfl, by simp, Flat.nil S _, fun h => (h rfl).elim⟩
  · obtain ⟨bx, r1, r2, h1, h2, _⟩ := M.bind_some hl
    obtain ⟨hb, _, _⟩ := M.get_some h1
    cases bx with
    | arr ver' e' es' =>
      by_cases hver : ver = ver'
      rotate_left
      · simp only [hver, if_false] at h2; exact (M.fail_some (b := s.boxes) h2).elim
      simp only [hver, if_true] at h2
      subst hver
      obtain ⟨h3, -, -⟩ := M.pure_some h2
      subst h3
      obtain ⟨sz', xs, hloc, hsz', how, hf⟩ := h.arr_at hb hx
      by_cases hne : es = []
      · subst hne
        have : ∃ a c, vx = .slice a 0 c := by
          rcases how.2 with ⟨rfl, h0⟩ | ⟨g, cap, cur, rfl, _⟩
          · exact ⟨none, 0, rfl⟩
          · exact ⟨_, _, rfl⟩
        obtain ⟨a, c, rfl⟩ := this
        exact ⟨a, c, [], rfl, by simp, Flat.nil S _, fun h => (h rfl).elim⟩
      · obtain ⟨e0, r0, he0⟩ : ∃ e r, es = e :: r := by
          cases es with
          | nil => exact (hne rfl).elim
          | cons e r => exact ⟨e, r, rfl⟩
        have hm : e0 ∈ es := by rw [he0]; simp
        have : sz' = sz := by rw [← hf.len e0 hm]; exact hsz e0 hm
        subst this
        have hpl : 0 < es.length := by rw [he0]; simp
        obtain ⟨g, c, rfl⟩ := ownsRow_hdr how hpl
        exact ⟨_, c, xs, rfl, how.1, hf, fun _ => ⟨_, rfl, how.cells rfl⟩⟩
    | var _ => exact (M.fail_some (b := s.boxes) h2).elim
    | dead => exact (M.fail_some (b := s.boxes) h2).elim
end
end Go.Ds
