/- ItLawG: finding, times and selections of valid inventories. -/
import Derived.Test.YtkfmfbhngneklaaGreatDoorItLawF
import Derived.Test.YtkfmfbhngneklaaGreatDoorDwClone
import Derived.Test.YtkfmfbhngneklaaGreatDoorDwSort
set_option maxRecDepth 100000
set_option maxHeartbeats 4000000
namespace Go.Dw.It
open Go.Dw

theorem clone_at {α : Type} {n : Nat} {l : List α} (h : l.length * n ≤ 140737488355328) : cloneO n l = some l := by
  unfold cloneO
  rw [if_pos h]
theorem set_self {α : Type} {l : List α} {i : Nat} (h : i < l.length) : l.set i l[i] = l := by simp
theorem sortO_sorted {α : Type} {cmp : α → α → Option Int} (hc : CmpOk cmp) (l : List α) (hl : l.length < 4611686018427387904) : ∃ r, sortO cmp l = some r ∧ r.Perm l ∧ r.Pairwise (fun x y => lt3 cmp y x = false) := by
  cases l with
  | nil => exact ⟨[], rfl, .nil, .nil⟩
  | cons a l =>
    have h : ∃ r, sortO cmp (a :: l) = some r := ⟨_, by rw [sortO_cons, if_pos ⟨hc, hl⟩]⟩
    obtain ⟨r, hr⟩ := h
    refine ⟨r, hr, sortO_perm hr, ?_⟩
    rw [sortO_cons, if_pos ⟨hc, hl⟩] at hr
    letI : Inhabited α := ⟨a⟩
    have := Sort.pdq_sorts (lt3 cmp) hc.2 (a :: l).toArray 0 (a :: l).length (Lib.bitLen (a :: l).length) true true (Nat.zero_le _) (by simp) (.inl rfl)
    obtain ⟨⟨hs, -, -⟩, hso⟩ := this
    have hr := Option.some.inj hr
    rw [List.pairwise_iff_getElem]
    intro i j hi hj hij
    subst hr
    have hsz : (Sort.pdq (lt3 cmp) (a :: l).toArray 0 (a :: l).length (Lib.bitLen (a :: l).length) true true).size = (a :: l).length := by simpa using hs
    have hi' : i < (Sort.pdq (lt3 cmp) (a :: l).toArray 0 (a :: l).length (Lib.bitLen (a :: l).length) true true).size := by simpa using hi
    have hj' : j < (Sort.pdq (lt3 cmp) (a :: l).toArray 0 (a :: l).length (Lib.bitLen (a :: l).length) true true).size := by simpa using hj
    have h1 := hso i j (Nat.zero_le _) hij (by omega)
    rw [getElem!_pos _ i hi', getElem!_pos _ j hj'] at h1
    simpa using h1

/-! ### Copies -/
theorem pcopyE {e : Epoch} (he : ROk e.fResponse) : inventory_CopyEpoch e = some e := by
  obtain ⟨hl, ht⟩ := he
  have : loopO (inventory_CopyEpoch_l15 e.fResponse.fStages) ((0 : Int), e.fResponse.fStages) = some e.fResponse.fStages := loop_run (body := inventory_CopyEpoch_l15 e.fResponse.fStages) e.fResponse.fStages.length (fun i => ((i : Int), e.fResponse.fStages)) (fun i hi => by
    have hti := ht _ (List.getElem_mem hi)
    unfold inventory_CopyEpoch_l15
    simp only
    rw [if_pos (decide_eq_true (by omega)), inO_at (by omega) (by omega), getO_at rfl hi]
    simp only [Option.bind_some]
    rw [clone_at (by omega), Option.bind_some, modO_at (i := i) rfl hi, Option.bind_some, w64 (by omega) (by omega)]
    have : (T_api_Stage.mk e.fResponse.fStages[i].fKind e.fResponse.fStages[i].fNum e.fResponse.fStages[i].fDen e.fResponse.fStages[i].fTaps e.fResponse.fStages[i].fFactor e.fResponse.fStages[i].fShift) = e.fResponse.fStages[i] := rfl
    rw [this, set_self hi]; rfl) (by
    unfold inventory_CopyEpoch_l15
    simp only
    rw [if_neg (by simp)])
  unfold inventory_CopyEpoch
  rw [clone_at (by omega), Option.bind_some, this]; rfl
theorem pcopyC {c : Chan} (hc : EOk c.fEpochs) : inventory_copied c = some c := by
  obtain ⟨hl, ht⟩ := hc
  have : loopO (inventory_copied_l15 c.fEpochs) ((0 : Int), c.fEpochs) = some c.fEpochs := loop_run (body := inventory_copied_l15 c.fEpochs) c.fEpochs.length (fun i => ((i : Int), c.fEpochs)) (fun i hi => by
    unfold inventory_copied_l15
    simp only
    rw [if_pos (decide_eq_true (by omega)), inO_at (by omega) (by omega), getO_at rfl hi]
    simp only [Option.bind_some]
    rw [pcopyE (ht _ (List.getElem_mem hi)), Option.bind_some, modO_at (i := i) rfl hi, Option.bind_some, w64 (by omega) (by omega), set_self hi]; rfl) (by
    unfold inventory_copied_l15
    simp only
    rw [if_neg (by simp)])
  unfold inventory_copied
  rw [clone_at (by omega), Option.bind_some, this]; rfl

/-! ### Finding -/
theorem Srt_inj {l : List Chan} (h : Srt l) {i j : Nat} (hi : i < l.length) (hj : j < l.length) (he : l[i].fSource = l[j].fSource) : i = j := by
  have h0 := cmpS_tot.refl l[i].fSource
  by_cases hlt : i < j
  · have := Srt_get h hlt hj; rw [← he] at this; omega
  by_cases hgt : j < i
  · have := Srt_get h hgt hi; rw [← he] at this; omega
  omega
theorem find_ok {l : List Chan} (hl : IV l) {k : Nat} (hk : k < l.length) : inventory_Find ⟨l⟩ l[k].fSource = some (l[k], true) := by
  have hn := hl.2.2
  have hlp : loopO (inventory_Find_l7 ⟨l⟩ l[k].fSource) (0 : Int) = some (.inr (l[k], true)) := by
    rcases loop_upto (body := inventory_Find_l7 ⟨l⟩ l[k].fSource) l.length (q := fun i => match l[i]? with | some c => !(decide (c.fSource = l[k].fSource)) | none => true) (u := .inl ())
      (r := fun i => match l[i]? with | some c => .inr (c, true) | none => .inl ()) (fun i hi => by
      unfold inventory_Find_l7
      simp only
      rw [if_pos (decide_eq_true (by omega)), getO_at rfl hi, w64 (by omega) (by omega)]
      simp only [Option.bind_some, eqs, List.getElem?_eq_getElem hi, ite_nand, pcopyC (CV_E (hl.1 _ (List.getElem_mem hi)))]
      rfl) (by
      unfold inventory_Find_l7
      simp only
      rw [if_neg (by simp)]) with ⟨-, h⟩ | ⟨i, hi, h, h', -⟩
    · have := h k hk
      simp [List.getElem?_eq_getElem hk] at this
    · rw [List.getElem?_eq_getElem hi] at h'
      simp only [Bool.not_eq_false', decide_eq_true_eq] at h'
      obtain rfl := Srt_inj hl.2.1 hi hk h'
      rw [h, List.getElem?_eq_getElem hi]
  unfold inventory_Find
  rw [hlp]; rfl
def ins (x : Int) (e : Epoch) : Bool := decide (e.fFrom ≤ x) && decide (x < e.fTo)
theorem ins_iff {x : Int} {e : Epoch} : ins x e = true ↔ e.fFrom ≤ x ∧ x < e.fTo := by unfold ins; simp
theorem at_ok {c : Chan} (hc : c.fEpochs.length ≤ 4000000000) (x : Int) : (∃ e, e ∈ c.fEpochs ∧ ins x e = true ∧ inventory_at c x = some (e, true)) ∨ (∃ z, inventory_at c x = some (z, false) ∧ ∀ e ∈ c.fEpochs, ins x e = false) := by
  unfold inventory_at
  rcases loop_upto (body := inventory_at_l7 c x) c.fEpochs.length (q := fun i => match c.fEpochs[i]? with | some e => !(ins x e) | none => true) (u := .inl ())
    (r := fun i => match c.fEpochs[i]? with | some e => .inr (e, true) | none => .inl ()) (fun i hi => by
    unfold inventory_at_l7 ins
    rw [if_pos (decide_eq_true (by omega)), getO_at rfl hi, w64 (by omega) (by omega)]
    simp only [Option.bind_some, List.getElem?_eq_getElem hi]
    cases decide (c.fEpochs[i].fFrom ≤ x) <;> cases decide (x < c.fEpochs[i].fTo) <;> rfl) (by
    unfold inventory_at_l7
    rw [if_neg (by simp)]) with ⟨h, h'⟩ | ⟨i, hi, h, h', -⟩
  · right
    rw [h]
    refine ⟨_, rfl, fun e he => ?_⟩
    obtain ⟨i, hi, rfl⟩ := List.getElem_of_mem he
    have := h' i hi
    rw [List.getElem?_eq_getElem hi] at this
    simpa using this
  · left
    rw [h, List.getElem?_eq_getElem hi]
    rw [List.getElem?_eq_getElem hi] at h'
    exact ⟨c.fEpochs[i], List.getElem_mem hi, by simpa using h', rfl⟩
theorem ins_one {l : List Epoch} (hp : l.Pairwise (fun a b => a.fTo ≤ b.fFrom)) {x : Int} {a b : Epoch} (ha : a ∈ l) (hb : b ∈ l) (h1 : ins x a = true) (h2 : ins x b = true) : a = b := by
  rw [ins_iff] at h1 h2
  obtain ⟨i, hi, rfl⟩ := List.getElem_of_mem ha
  obtain ⟨j, hj, rfl⟩ := List.getElem_of_mem hb
  have hp := List.pairwise_iff_getElem.1 hp
  by_cases h : i < j
  · have := hp i j hi hj h; omega
  by_cases h' : j < i
  · have := hp j i hj hi h'; omega
  obtain rfl : i = j := by omega
  rfl
theorem ins_count {l : List Epoch} (hp : l.Pairwise (fun a b => a.fTo ≤ b.fFrom)) (x : Int) : (l.filter (ins x)).length ≤ 1 := by
  have h := hp.filter (ins x)
  have hm : ∀ e ∈ l.filter (ins x), ins x e = true := fun e he => (List.mem_filter.1 he).2
  generalize l.filter (ins x) = m at *
  match m with
  | [] => simp
  | [a] => simp
  | a :: b :: r =>
    have h1 := ins_iff.1 (hm a (by simp))
    have h2 := ins_iff.1 (hm b (by simp))
    have := (List.pairwise_cons.1 h).1 b (by simp)
    omega

/-! ### Spans -/
abbrev Span := T_api_Span
def hasS (l : List Span) (y : Int) : Prop := ∃ s, s ∈ l ∧ s.fFrom ≤ y ∧ y < s.fTo
theorem hasS_app (l m : List Span) (y : Int) : hasS (l ++ m) y ↔ hasS l y ∨ hasS m y := by
  unfold hasS
  constructor
  · rintro ⟨s, hs, h⟩
    rcases List.mem_append.1 hs with hs | hs
    · exact .inl ⟨s, hs, h⟩
    · exact .inr ⟨s, hs, h⟩
  · rintro (⟨s, hs, h⟩ | ⟨s, hs, h⟩)
    · exact ⟨s, by simp [hs], h⟩
    · exact ⟨s, by simp [hs], h⟩
theorem hasS_one (s : Span) (y : Int) : hasS [s] y ↔ s.fFrom ≤ y ∧ y < s.fTo := by
  unfold hasS
  constructor
  · rintro ⟨t, ht, h⟩; rw [List.mem_singleton.1 ht] at h; exact h
  · intro h; exact ⟨s, by simp, h⟩
theorem has_eq {l : List Span} (hl : l.length ≤ 4000000000) (x : Int) : ∃ b, ref08_Has l x = some b ∧ (b = true ↔ hasS l x) := by
  have := loop_list (body := ref08_Has_l8 l x) l (p := fun s => !(decide (s.fFrom ≤ x) && decide (x < s.fTo))) (u := .inl ()) (r := .inr true) (fun i hi => by
    unfold ref08_Has_l8
    rw [if_pos (decide_eq_true (by omega)), getO_at rfl hi, w64 (by omega) (by omega)]
    simp only [Option.bind_some]
    cases decide (l[i].fFrom ≤ x) <;> cases decide (x < l[i].fTo) <;> rfl) (by
    unfold ref08_Has_l8
    rw [if_neg (by simp)])
  unfold ref08_Has
  rw [this]
  by_cases h : l.all (fun s => !(decide (s.fFrom ≤ x) && decide (x < s.fTo))) = true
  · rw [if_pos h]
    have : ¬ hasS l x := fun ⟨s, hs, h'⟩ => by
      have := List.all_eq_true.1 h s hs
      simp [h'] at this
    exact ⟨false, rfl, by simp [this]⟩
  · rw [if_neg h]
    have : hasS l x := by
      have h := List.all_eq_false.1 (Bool.not_eq_true _ ▸ h)
      obtain ⟨s, hs, h'⟩ := h
      exact ⟨s, hs, by simpa using h'⟩
    exact ⟨true, rfl, by simp [this]⟩
theorem cmp_int (a b : Int) : cmp_Compare_int a b = some (cmpI a b) := by
  unfold cmp_Compare_int cmp_isNaN_int cmpI
  simp only [Option.bind_some, bne_self_eq_false, Bool.false_eq_true, if_false]
  by_cases h : a < b
  · simp [h]
  · by_cases h' : a > b <;> simp [h, h']
theorem lit2_eq (a b : Span) : span_Normal_lit2 a b = some (cmpI a.fFrom b.fFrom) := by
  unfold span_Normal_lit2
  rw [cmp_int]; rfl
theorem lit2_lt : lt3 span_Normal_lit2 = fun x y => decide (cmpI x.fFrom y.fFrom < 0) := by
  funext x y
  unfold lt3
  rw [lit2_eq]; rfl
theorem lit2_ok : CmpOk span_Normal_lit2 := ⟨fun x y => ⟨_, lit2_eq x y⟩, by rw [lit2_lt]; exact (cmpI_tot.map fun x : Span => x.fFrom).swo⟩
theorem del_ok {l : List Span} (hl : l.length ≤ 4000000000) (h : ∀ s ∈ l, s.fFrom < s.fTo) : slices_DeleteFunc_Span_lit1 l = some l := by
  have : loopO (slices_IndexFunc_Span_lit1_l9 l) (0 : Int) = some (.inl ()) := by
    have := loop_list (body := slices_IndexFunc_Span_lit1_l9 l) l (p := fun s => true) (u := .inl ()) (r := .inl ()) (fun i hi => by
      unfold slices_IndexFunc_Span_lit1_l9 span_Normal_lit1 span_some
      rw [if_pos (decide_eq_true (by omega)), inO_at (by omega) (by omega), getO_at rfl hi, w64 (by omega) (by omega)]
      simp only [Option.bind_some, decide_eq_true (h _ (List.getElem_mem hi))]
      rfl) (by
      unfold slices_IndexFunc_Span_lit1_l9
      rw [if_neg (by simp)])
    simpa using this
  unfold slices_DeleteFunc_Span_lit1 slices_IndexFunc_Span_lit1
  rw [this]; rfl
theorem merge_ok {m : List Span} (hl : m.length ≤ 4000000000) (hv : ∀ s ∈ m, s.fFrom < s.fTo) (hs : m.Pairwise (fun x y => x.fFrom ≤ y.fFrom)) :
    ∃ out, loopO (span_Normal_l26 m) ((0 : Int), ([] : List Span)) = some out ∧ out.length ≤ m.length ∧ ∀ y, hasS out y ↔ hasS m y := by
  have hp := List.pairwise_iff_getElem.1 hs
  obtain ⟨o, h, hq⟩ := loop_ind (body := span_Normal_l26 m) (fun st : Int × List Span => ∃ i : Nat, st.1 = (i : Int) ∧ i ≤ m.length ∧ st.2.length ≤ i ∧ (∀ y, hasS st.2 y ↔ hasS (m.take i) y) ∧ (∀ s : Span, s ∈ st.2 → ∃ j, ∃ hj : j < m.length, j < i ∧ s.fFrom = m[j].fFrom)) (fun s => ((m.length : Int) - s.1).toNat)
    (fun o => o.length ≤ m.length ∧ ∀ y, hasS o y ↔ hasS m y) (by
    rintro ⟨s, out⟩ ⟨i, hi0, hi, ho, hc, hf⟩
    simp only at hi0 ho hc hf
    subst hi0
    unfold span_Normal_l26
    simp only
    by_cases hlt : i < m.length
    · have happ : appO out [m[i]] 16 = some (out ++ [m[i]]) := appO_at (by simp; omega)
      rw [if_pos (decide_eq_true (by omega)), inO_at (by omega) (by omega), getO_at rfl hlt, w64 (n := (i : Int) + 1) (by omega) (by omega)]
      simp only [Option.bind_some, happ]
      have htk : ∀ y, hasS (m.take (i + 1)) y ↔ hasS (m.take i) y ∨ (m[i].fFrom ≤ y ∧ y < m[i].fTo) := fun y => by rw [take_succ_at hlt, hasS_app, hasS_one]
      have hvi := hv _ (List.getElem_mem hlt)
      have hfull : (∃ i' : Nat, ((i + 1 : Nat) : Int) = (i' : Int) ∧ i' ≤ m.length ∧ (out ++ [m[i]]).length ≤ i' ∧ (∀ y, hasS (out ++ [m[i]]) y ↔ hasS (m.take i') y) ∧ (∀ s ∈ out ++ [m[i]], ∃ j, ∃ hj : j < m.length, j < i' ∧ s.fFrom = m[j].fFrom)) := by
        refine ⟨i + 1, rfl, by omega, by simp; omega, fun y => by rw [hasS_app, hasS_one, htk, hc], fun s hs => ?_⟩
        rcases List.mem_append.1 hs with hs | hs
        · obtain ⟨j, hj, h1, h2⟩ := hf s hs
          exact ⟨j, hj, by omega, h2⟩
        · rw [List.mem_singleton.1 hs]; exact ⟨i, hlt, by omega, rfl⟩
      have hoc : out = [] ∨ ∃ init last, out = init ++ [last] := by
        rcases List.eq_nil_or_concat out with h | ⟨init, last, h⟩
        · exact .inl h
        · exact .inr ⟨init, last, by rw [h]; simp⟩
      rcases hoc with rfl | ⟨init, last, rfl⟩
      · rw [if_neg (by simp)]
        exact .inl ⟨_, rfl, hfull, by simp only; omega⟩
      · have hlen : (init ++ [last]).length = init.length + 1 := by simp
        rw [if_pos (decide_eq_true (by omega)), hlen]
        have hw : IntKind.wrap .i64 (((init.length + 1 : Nat) : Int) - 1) = (init.length : Int) := by rw [w64 (by omega) (by omega)]; omega
        have hg : (init ++ [last])[init.length]'(by simp) = last := by simp
        rw [hw, inO_at (by omega) (by omega), getO_at (i := init.length) rfl (by omega), hg]
        simp only [Option.bind_some]
        by_cases hm : m[i].fFrom ≤ last.fTo
        · rw [if_pos (decide_eq_true hm), modO_at (i := init.length) rfl (by omega), hg, Option.bind_some]
          have hset : ∀ v : Span, (init ++ [last]).set init.length v = init ++ [v] := fun v => by simp
          rw [hset]
          obtain ⟨j, hj, h1, h2⟩ := hf last (by simp)
          have hle : last.fFrom ≤ m[i].fFrom := by rw [h2]; exact hp j i hj hlt h1
          refine .inl ⟨_, rfl, ⟨i + 1, rfl, by omega, by simp at ho ⊢; omega, fun y => ?_, fun s hs => ?_⟩, by simp only; omega⟩
          · rw [htk, ← hc, hasS_app, hasS_app, hasS_one, hasS_one]
            simp only
            split
            · constructor
              · rintro (h | h)
                · exact .inl (.inl h)
                · by_cases hy : y < last.fTo
                  · exact .inl (.inr ⟨h.1, hy⟩)
                  · exact .inr ⟨by omega, h.2⟩
              · rintro ((h | h) | h)
                · exact .inl h
                · exact .inr ⟨h.1, by omega⟩
                · exact .inr ⟨by omega, h.2⟩
            · constructor
              · rintro (h | h)
                · exact .inl (.inl h)
                · exact .inl (.inr h)
              · rintro ((h | h) | h)
                · exact .inl h
                · exact .inr h
                · exact .inr ⟨by omega, by omega⟩
          · rcases List.mem_append.1 hs with hs | hs
            · obtain ⟨j', hj', h1', h2'⟩ := hf s (by simp [hs])
              exact ⟨j', hj', by omega, h2'⟩
            · rw [List.mem_singleton.1 hs]; exact ⟨j, hj, by omega, h2⟩
        · rw [if_neg (by simpa using hm)]
          exact .inl ⟨_, rfl, hfull, by simp only; omega⟩
    · rw [if_neg (by simp; omega)]
      refine .inr ⟨_, rfl, by omega, fun y => ?_⟩
      rw [hc, List.take_of_length_le (by omega)]) (0, []) ⟨0, rfl, Nat.zero_le _, by simp, fun y => by simp, by simp⟩
  exact ⟨o, h, hq⟩
theorem normal_ok {l : List Span} (hl : l.length ≤ 4000000000) (hv : ∀ s ∈ l, s.fFrom < s.fTo) : ∃ out, span_Normal l = some out ∧ out.length ≤ l.length ∧ ∀ y, hasS out y ↔ hasS l y := by
  obtain ⟨m, e1, hp, hs⟩ := sortO_sorted lit2_ok l (by omega)
  have hml := hp.length_eq
  obtain ⟨out, e2, h1, h2⟩ := merge_ok (m := m) (by omega) (fun s h => hv s (hp.mem_iff.1 h)) (hs.imp fun {a b} h => by
    rw [lit2_lt] at h
    simp only [decide_eq_false_iff_not] at h
    unfold cmpI at h
    by_cases h' : b.fFrom < a.fFrom
    · rw [if_pos h'] at h; omega
    · omega)
  refine ⟨out, ?_, by omega, fun y => (h2 y).trans ?_⟩
  · unfold span_Normal
    rw [clone_at (by omega), Option.bind_some, del_ok hl hv, Option.bind_some, e1, Option.bind_some, e2]; rfl
  · unfold hasS
    constructor
    · rintro ⟨s, hs, h⟩; exact ⟨s, hp.mem_iff.1 hs, h⟩
    · rintro ⟨s, hs, h⟩; exact ⟨s, hp.mem_iff.2 hs, h⟩
def spanE (e : Epoch) : Span := ⟨e.fFrom, e.fTo⟩
theorem times_ok {l : List Chan} (hl : IV l) {k : Nat} (hk : k < l.length) (x : Int) : ∃ out, inventory_Times ⟨l⟩ l[k].fSource = some out ∧ ref08_Has out x = some (l[k].fEpochs.any (ins x)) := by
  have hc := hl.1 _ (List.getElem_mem hk)
  have h32 := hc.2.2.1
  have hlp : loopO (inventory_Times_l11 (l[k], true)) ((0 : Int), ([] : List Span)) = some (l[k].fEpochs.map spanE) := loop_run (body := inventory_Times_l11 (l[k], true)) l[k].fEpochs.length (fun i => ((i : Int), (l[k].fEpochs.take i).map spanE)) (fun i hi => by
    unfold inventory_Times_l11
    simp only
    rw [if_pos (decide_eq_true (by omega)), getO_at rfl hi, Option.bind_some, appO_at (by simp; omega), Option.bind_some, w64 (by omega) (by omega), take_succ_at hi, List.map_append]
    rfl) (by
    unfold inventory_Times_l11
    simp only
    rw [if_neg (by simp), List.take_length])
  obtain ⟨out, e1, h1, h2⟩ := normal_ok (l := l[k].fEpochs.map spanE) (by simp; omega) (fun s hs => by
    obtain ⟨e, he, rfl⟩ := List.mem_map.1 hs
    exact (vE_lt (hc.2.2.2.1 e he).1).1)
  refine ⟨out, ?_, ?_⟩
  · unfold inventory_Times
    rw [vI_eq (IV_I hl), IV_vI hl, Option.bind_some, if_neg (by decide), find_ok hl hk, Option.bind_some, hlp, Option.bind_some, e1]; rfl
  · have h1 : out.length ≤ 4000000000 := by simp at h1; omega
    obtain ⟨b, e2, hb⟩ := has_eq h1 x
    rw [e2]
    refine congrArg some ?_
    rw [Bool.eq_iff_iff, hb, h2, List.any_eq_true]
    constructor
    · rintro ⟨s, hs, h'⟩
      obtain ⟨e, he, rfl⟩ := List.mem_map.1 hs
      exact ⟨e, he, ins_iff.2 h'⟩
    · rintro ⟨e, he, h⟩
      exact ⟨spanE e, List.mem_map.2 ⟨e, he, rfl⟩, ins_iff.1 h⟩
end Go.Dw.It
