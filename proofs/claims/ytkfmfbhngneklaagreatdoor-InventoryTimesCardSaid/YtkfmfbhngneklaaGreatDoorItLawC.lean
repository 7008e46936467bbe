/- ItLawC: valid responses, epochs and inventories, for the program and for the document. -/
import Derived.Test.YtkfmfbhngneklaaGreatDoorItLawB
set_option maxRecDepth 100000
set_option maxHeartbeats 4000000
namespace Go.Dw.It
open Go.Dw

/-! ### Responses -/
def prodOk : Int → List Stage → Bool
  | _, [] => true
  | p, s :: r => if s.fKind = 2 then decide (p * s.fFactor ≤ 64) && prodOk (p * s.fFactor) r else prodOk p r
theorem prodOk_cons (p : Int) (s : Stage) (r : List Stage) : prodOk p (s :: r) = if s.fKind = 2 then decide (p * s.fFactor ≤ 64) && prodOk (p * s.fFactor) r else prodOk p r := rfl
noncomputable def vP (r : Resp) : Bool := decide (r.fStages.length ≤ 8) && (r.fStages.all vS && prodOk 1 r.fStages)
def ROk (r : Resp) : Prop := r.fStages.length ≤ 4000000000 ∧ ∀ s ∈ r.fStages, s.fTaps.length ≤ 4000000000
theorem vS_factor {s : Stage} (h : vS s = true) (hk : s.fKind = 2) : 1 ≤ s.fFactor ∧ s.fFactor ≤ 64 := by
  unfold vS at h
  rw [if_neg (by omega), if_neg (by omega), if_pos hk] at h
  simp only [Bool.and_eq_true, inB, decide_eq_true_eq] at h
  omega
theorem allv_eq {r : Resp} (hr : ROk r) : slices_ContainsFunc_Stage_lit1 r.fStages = some (!(r.fStages.all vS)) := by
  obtain ⟨hl, ht⟩ := hr
  generalize r.fStages = l at *
  unfold slices_ContainsFunc_Stage_lit1 slices_IndexFunc_Stage_lit1
  have := loop_upto (body := slices_IndexFunc_Stage_lit1_l7 l) l.length (q := fun i => match l[i]? with | some s => vS s | none => true) (u := .inl ()) (r := fun i => .inr (i : Int)) (fun i hi => by
    unfold slices_IndexFunc_Stage_lit1_l7 response_Valid_lit1
    rw [if_pos (by simp; omega), getO_at rfl hi, w64 (by omega) (by omega)]
    simp only [Option.bind_some, vS_eq (ht _ (List.getElem_mem hi)), List.getElem?_eq_getElem hi, ite_nand]
    rfl) (by
    unfold slices_IndexFunc_Stage_lit1_l7
    rw [if_neg (by simp)])
  rcases this with ⟨h, h'⟩ | ⟨i, hi, h, h', -⟩
  · rw [h]
    have : l.all vS = true := List.all_eq_true.2 fun x hx => by
      obtain ⟨i, hi, rfl⟩ := List.getElem_of_mem hx
      have := h' i hi
      simpa [List.getElem?_eq_getElem hi] using this
    rw [this]; rfl
  · rw [h]
    have : l.all vS = false := List.all_eq_false.2 ⟨l[i], List.getElem_mem hi, by
      simpa [List.getElem?_eq_getElem hi] using h'⟩
    rw [this]
    simp only [Option.bind_some]
    rw [show decide ((i : Int) ≥ 0) = true by simp]; rfl
theorem factor_eq {r : Resp} (hr : ROk r) (hv : r.fStages.all vS = true) : ∃ p, response_factor r.fStages = some p ∧ (decide (p > 0) = prodOk 1 r.fStages) := by
  obtain ⟨hl, ht⟩ := hr
  generalize r.fStages = l at *
  obtain ⟨o, h, hq⟩ := loop_ind (body := response_factor_l9 l) (fun s => ∃ i : Nat, s.2 = (i : Int) ∧ i ≤ l.length ∧ 1 ≤ s.1 ∧ s.1 ≤ 64 ∧ prodOk 1 l = prodOk s.1 (l.drop i)) (fun s => ((l.length : Int) - s.2).toNat)
    (fun o => match o with | .inl y => 0 < y ∧ prodOk 1 l = true | .inr y => y = 0 ∧ prodOk 1 l = false) (by
    rintro ⟨x, y⟩ ⟨i, hy, hi, h1, h2, h3⟩
    simp only at hy h1 h2 h3
    subst hy
    unfold response_factor_l9
    simp only
    by_cases hlt : i < l.length
    · rw [if_pos (by simp; omega), getO_at rfl hlt, Option.bind_some, w64 (n := (i : Int) + 1) (by omega) (by omega)]
      rw [List.drop_eq_getElem_cons hlt, prodOk_cons] at h3
      have hvi : vS l[i] = true := List.all_eq_true.1 hv _ (List.getElem_mem hlt)
      by_cases hk : l[i].fKind = 2
      · rw [if_neg (by simpa using hk)]
        rw [if_pos hk] at h3
        obtain ⟨f1, f2⟩ := vS_factor hvi hk
        have m1 : 1 ≤ x * l[i].fFactor := by have := Int.mul_le_mul h1 f1 (by omega) (by omega); omega
        have m2 : x * l[i].fFactor ≤ 64 * 64 := Int.mul_le_mul h2 f2 (by omega) (by omega)
        rw [w64 (n := x * l[i].fFactor) (by omega) (by omega)]
        by_cases hp : x * l[i].fFactor ≤ 64
        · rw [if_neg (by simp; omega)]
          refine .inl ⟨_, rfl, ⟨i + 1, rfl, by omega, m1, hp, ?_⟩, by simp only; omega⟩
          rw [h3]; simp [hp]
        · rw [if_pos (by simp; omega)]
          refine .inr ⟨_, rfl, rfl, ?_⟩
          rw [h3]; simp [hp]
      · rw [if_pos (by simpa using hk)]
        rw [if_neg hk] at h3
        exact .inl ⟨_, rfl, ⟨i + 1, rfl, by omega, h1, h2, h3⟩, by simp only; omega⟩
    · rw [if_neg (by simp; omega)]
      refine .inr ⟨_, rfl, by omega, ?_⟩
      rw [h3, List.drop_eq_nil_of_le (by omega)]; rfl) (1, 0) ⟨0, rfl, Nat.zero_le _, by simp only; omega, by simp only; omega, rfl⟩
  unfold response_factor
  rw [h]
  rcases o with y | y
  · exact ⟨y, rfl, by rw [hq.2]; simpa using hq.1⟩
  · exact ⟨y, rfl, by rw [hq.2, hq.1]; rfl⟩
theorem vP_eq {r : Resp} (hr : ROk r) : response_Valid r = some (vP r) := by
  unfold response_Valid vP
  by_cases h8 : r.fStages.length ≤ 8
  · rw [if_neg (by simp; omega), allv_eq hr, Option.bind_some]
    cases hv : r.fStages.all vS with
    | false => simp
    | true =>
      obtain ⟨p, h1, h2⟩ := factor_eq hr hv
      rw [if_neg (by simp), h1, Option.bind_some, h2]; simp [h8]
  · rw [if_pos (by simp; omega)]; simp [h8]
theorem ref_vP_eq {r : Resp} (hr : ROk r) : ref18_Valid r = some (vP r) := by
  obtain ⟨hl, ht⟩ := hr
  obtain ⟨o, h, hq⟩ := loop_ind (body := ref18_Valid_l12 r) (fun s => ∃ i : Nat, s.2 = (i : Int) ∧ i ≤ r.fStages.length ∧ 1 ≤ s.1 ∧ s.1 ≤ 64 ∧ (r.fStages.all vS && prodOk 1 r.fStages) = ((r.fStages.drop i).all vS && prodOk s.1 (r.fStages.drop i))) (fun s => ((r.fStages.length : Int) - s.2).toNat)
    (fun o => match o with | .inl _ => (r.fStages.all vS && prodOk 1 r.fStages) = true | .inr y => y = false ∧ (r.fStages.all vS && prodOk 1 r.fStages) = false) (by
    rintro ⟨x, y⟩ ⟨i, hy, hi, h1, h2, h3⟩
    simp only at hy h1 h2 h3
    subst hy
    unfold ref18_Valid_l12
    simp only
    by_cases hlt : i < r.fStages.length
    · rw [if_pos (by simp; omega), getO_at rfl hlt, w64 (n := (i : Int) + 1) (by omega) (by omega)]
      simp only [Option.bind_some, ref_vS_eq (ht _ (List.getElem_mem hlt)), ite_nand]
      rw [List.drop_eq_getElem_cons hlt, List.all_cons, prodOk_cons] at h3
      cases hvi : vS r.fStages[i] with
      | false => rw [hvi] at h3; exact .inr ⟨.inr false, by simp, rfl, by rw [h3]; rfl⟩
      | true =>
      rw [hvi, Bool.true_and] at h3
      simp only [if_true]
      by_cases hk : r.fStages[i].fKind = 2
      · rw [if_pos (by simpa using hk)]
        rw [if_pos hk] at h3
        obtain ⟨f1, f2⟩ := vS_factor hvi hk
        have m1 : 1 ≤ x * r.fStages[i].fFactor := by have := Int.mul_le_mul h1 f1 (by omega) (by omega); omega
        have m2 : x * r.fStages[i].fFactor ≤ 64 * 64 := Int.mul_le_mul h2 f2 (by omega) (by omega)
        rw [w64 (n := x * r.fStages[i].fFactor) (by omega) (by omega)]
        by_cases hp : x * r.fStages[i].fFactor ≤ 64
        · rw [if_neg (by simp; omega)]
          refine .inl ⟨_, rfl, ⟨i + 1, rfl, by omega, m1, hp, ?_⟩, by simp only; omega⟩
          rw [h3]; simp [hp]
        · rw [if_pos (by simp; omega)]
          refine .inr ⟨_, rfl, rfl, ?_⟩
          rw [h3]; simp [hp]
      · rw [if_neg (by simpa using hk)]
        rw [if_neg hk] at h3
        exact .inl ⟨_, rfl, ⟨i + 1, rfl, by omega, h1, h2, h3⟩, by simp only; omega⟩
    · rw [if_neg (by simp; omega)]
      refine .inr ⟨_, rfl, ?_⟩
      simp only
      rw [h3, List.drop_eq_nil_of_le (by omega)]; rfl) (1, 0) ⟨0, rfl, Nat.zero_le _, by simp only; omega, by simp only; omega, rfl⟩
  unfold ref18_Valid vP
  rw [h, Option.bind_some]
  have e : decide ((r.fStages.length : Int) ≤ 8) = decide (r.fStages.length ≤ 8) := decide_eq_decide.2 (by omega)
  rcases o with y | y
  · simp only at hq
    rw [hq, e, Bool.and_true]
  · rw [hq.2, hq.1]; simp

/-! ### Epochs -/
noncomputable def vE (e : Epoch) : Bool := decide (e.fFrom ≥ 0) && (decide (e.fFrom < e.fTo) && (decide (e.fTo ≤ 9007199254740992) && (vR e.fRate && (vP e.fResponse && (inB e.fPosition.fX (-1048576) 1048576 && (inB e.fPosition.fY (-1048576) 1048576 && inB e.fPosition.fZ (-16384) 1048576))))))
theorem vE_eq {e : Epoch} (he : ROk e.fResponse) : inventory_ValidEpoch e = some (vE e) := by
  unfold inventory_ValidEpoch vE
  simp only [vR_eq, vP_eq he, iin_eq, Option.bind_some, ite_and]
theorem ref_vE_eq {e : Epoch} (he : ROk e.fResponse) : ref19_ValidEpoch e = some (vE e) := by
  unfold ref19_ValidEpoch vE
  simp only [ref_vR_eq, ref_vP_eq he, In_eq, Option.bind_some, ite_and]
def EOk (l : List Epoch) : Prop := l.length ≤ 4000000000 ∧ ∀ e ∈ l, ROk e.fResponse
/-- May this epoch stand here? -/
noncomputable def stepE (l : List Epoch) (i : Nat) : Bool := match l[i]? with
  | some e => vE e && (decide (i = 0) || match l[i - 1]? with | some p => decide (p.fTo ≤ e.fFrom) | none => true)
  | none => true
noncomputable def vEs (l : List Epoch) : Bool := (List.range l.length).all (stepE l) && inB l.length 1 32
theorem stepE_0 {l : List Epoch} (h : 0 < l.length) : stepE l 0 = vE l[0] := by
  unfold stepE; rw [List.getElem?_eq_getElem h]; simp
theorem stepE_s {l : List Epoch} {i : Nat} (h : i + 1 < l.length) : stepE l (i + 1) = (vE l[i + 1] && decide (l[i].fTo ≤ l[i + 1].fFrom)) := by
  unfold stepE; rw [List.getElem?_eq_getElem h]
  simp only [Nat.add_sub_cancel, List.getElem?_eq_getElem (show i < l.length by omega)]
  simp
theorem epochs_loop {l : List Epoch} (hl : EOk l) : loopO (inventory_epochs_l10 l) (0 : Int) = some (if (List.range l.length).all (stepE l) = true then .inl () else .inr false) := by
  obtain ⟨hl, ht⟩ := hl
  refine loop_all l.length (fun i hi => ?_) ?_
  · unfold inventory_epochs_l10
    rw [if_pos (by simp; omega), getO_at rfl hi, w64 (n := (i : Int) + 1) (by omega) (by omega)]
    simp only [Option.bind_some, vE_eq (ht _ (List.getElem_mem hi)), ite_nand]
    match i, hi with
    | 0, hi =>
      rw [stepE_0 hi, if_neg (c := decide (((0 : Nat) : Int) > 0) = true) (by simp)]; rfl
    | i + 1, hi =>
      rw [stepE_s hi, if_pos (c := decide (((i + 1 : Nat) : Int) > 0) = true) (decide_eq_true (by omega)), w64 (by omega) (by omega), getO_at (i := i) (by omega) (by omega), Option.bind_some]
      cases vE l[i + 1] with
      | false => simp
      | true =>
        by_cases h : l[i].fTo ≤ l[i + 1].fFrom
        · rw [if_neg (c := decide (l[i + 1].fFrom < l[i].fTo) = true) (by simp; omega)]; simp [h]
        · rw [if_pos (c := decide (l[i + 1].fFrom < l[i].fTo) = true) (by simp; omega)]; simp [h]
  · unfold inventory_epochs_l10
    rw [if_neg (by simp)]
theorem epochs_eq {l : List Epoch} (hl : EOk l) : inventory_epochs l = some (vEs l) := by
  unfold inventory_epochs vEs
  rw [epochs_loop hl, Option.bind_some]
  cases (List.range l.length).all (stepE l) with
  | true => simp only [if_true, iin_eq, Option.bind_some, Bool.true_and]
  | false => rfl
theorem ref_epochs_loop {c : Chan} (hl : EOk c.fEpochs) (s : Int) : loopO (ref19_Valid_l16 c s) (0 : Int) = some (if (List.range c.fEpochs.length).all (stepE c.fEpochs) = true then .inl s else .inr false) := by
  obtain ⟨hl, ht⟩ := hl
  refine loop_all c.fEpochs.length (fun i hi => ?_) ?_
  · unfold ref19_Valid_l16
    rw [if_pos (by simp; omega), getO_at rfl hi, w64 (n := (i : Int) + 1) (by omega) (by omega)]
    simp only [Option.bind_some, ref_vE_eq (ht _ (List.getElem_mem hi)), ite_nand]
    match i, hi with
    | 0, hi =>
      rw [stepE_0 hi, if_neg (c := decide (((0 : Nat) : Int) > 0) = true) (by simp)]; rfl
    | i + 1, hi =>
      rw [stepE_s hi, if_pos (c := decide (((i + 1 : Nat) : Int) > 0) = true) (decide_eq_true (by omega)), w64 (by omega) (by omega), getO_at (i := i) (by omega) (by omega), Option.bind_some]
      cases vE c.fEpochs[i + 1] with
      | false => simp
      | true =>
        by_cases h : c.fEpochs[i].fTo ≤ c.fEpochs[i + 1].fFrom
        · rw [if_neg (c := decide (c.fEpochs[i + 1].fFrom < c.fEpochs[i].fTo) = true) (by simp; omega)]; simp [h]
        · rw [if_pos (c := decide (c.fEpochs[i + 1].fFrom < c.fEpochs[i].fTo) = true) (by simp; omega)]; simp [h]
  · unfold ref19_Valid_l16
    rw [if_neg (by simp)]

/-! ### Inventories -/
theorem ref_cmp (a b : List UInt8) : ref03_compare a b = some (cmpB a b) := by
  unfold ref03_compare cmpB
  cases h : Op.bytesLess a b with
  | true => simp
  | false => by_cases e : a = b <;> simp [e]
theorem ref_Compare_eq (a b : Src) : ref03_Compare a b = some (cmpS a b) := by
  unfold ref03_Compare cmpS
  simp only [ref_cmp, Option.bind_some, bne_iff_ne, ne_eq]
  by_cases h1 : cmpB a.fNetwork b.fNetwork = 0 <;> by_cases h2 : cmpB a.fStation b.fStation = 0 <;> by_cases h3 : cmpB a.fLocation b.fLocation = 0 <;> by_cases h4 : cmpB a.fChannel b.fChannel = 0 <;> simp [h1, h2, h3, h4]
def COk (c : Chan) : Prop := SrcOk c.fSource ∧ EOk c.fEpochs
def IOk (l : List Chan) : Prop := l.length ≤ 4000000000 ∧ ∀ c ∈ l, COk c
noncomputable def stepI (l : List Chan) (i : Nat) : Bool := match l[i]? with
  | some c => validB c.fSource && vEs c.fEpochs && (decide (i = 0) || match l[i - 1]? with | some p => decide (cmpS p.fSource c.fSource < 0) | none => true)
  | none => true
noncomputable def vI (l : List Chan) : Bool := (List.range l.length).all (stepI l) && decide (l.length ≤ 128)
theorem stepI_0 {l : List Chan} (h : 0 < l.length) : stepI l 0 = (validB l[0].fSource && vEs l[0].fEpochs) := by
  unfold stepI; rw [List.getElem?_eq_getElem h]; simp
theorem stepI_s {l : List Chan} {i : Nat} (h : i + 1 < l.length) : stepI l (i + 1) = (validB l[i + 1].fSource && vEs l[i + 1].fEpochs && decide (cmpS l[i].fSource l[i + 1].fSource < 0)) := by
  unfold stepI; rw [List.getElem?_eq_getElem h]
  simp only [Nat.add_sub_cancel, List.getElem?_eq_getElem (show i < l.length by omega)]
  simp
theorem vI_eq {l : List Chan} (hl : IOk l) : inventory_Valid ⟨l⟩ = some (vI l) := by
  obtain ⟨hl, hc⟩ := hl
  unfold inventory_Valid vI
  rw [loop_all (body := inventory_Valid_l13 ⟨l⟩) l.length (q := stepI l) (u := .inl ()) (r := .inr false) (fun i hi => by
    unfold inventory_Valid_l13
    simp only
    rw [if_pos (by simp; omega), getO_at rfl hi, w64 (n := (i : Int) + 1) (by omega) (by omega)]
    simp only [Option.bind_some, Valid_eq (hc _ (List.getElem_mem hi)).1, epochs_eq (hc _ (List.getElem_mem hi)).2, Compare_eq, ite_nand]
    match i, hi with
    | 0, hi =>
      rw [stepI_0 hi, if_neg (c := decide (((0 : Nat) : Int) > 0) = true) (by simp)]
      cases validB l[0].fSource <;> cases vEs l[0].fEpochs <;> simp
    | i + 1, hi =>
      rw [stepI_s hi, if_pos (c := decide (((i + 1 : Nat) : Int) > 0) = true) (decide_eq_true (by omega)), w64 (by omega) (by omega), getO_at (i := i) (by omega) (by omega)]
      simp only [Option.bind_some]
      cases validB l[i + 1].fSource with
      | false => simp
      | true =>
        cases vEs l[i + 1].fEpochs with
        | false => simp
        | true =>
          by_cases h : cmpS l[i].fSource l[i + 1].fSource < 0
          · rw [if_neg (c := decide (cmpS l[i].fSource l[i + 1].fSource ≥ 0) = true) (by simp; omega)]; simp [h]
          · rw [if_pos (c := decide (cmpS l[i].fSource l[i + 1].fSource ≥ 0) = true) (by simp; omega)]; simp [h]) (by
    unfold inventory_Valid_l13
    rw [if_neg (by simp)]), Option.bind_some]
  have e : decide ((l.length : Int) ≤ 128) = decide (l.length ≤ 128) := decide_eq_decide.2 (by omega)
  cases (List.range l.length).all (stepI l) with
  | true => simp [e]
  | false => rfl
theorem ref_vI_eq {l : List Chan} (hl : IOk l) : ref19_Valid ⟨l⟩ = some (vI l) := by
  obtain ⟨hl, hc⟩ := hl
  unfold ref19_Valid vI
  rw [loop_all (body := ref19_Valid_l31 ⟨l⟩) l.length (q := stepI l) (u := .inl ()) (r := .inr false) (fun i hi => by
    unfold ref19_Valid_l31 ref19_Valid_k20
    simp only
    rw [if_pos (by simp; omega), getO_at rfl hi]
    simp only [Option.bind_some, ref_Valid_eq (hc _ (List.getElem_mem hi)).1, ref_epochs_loop (hc _ (List.getElem_mem hi)).2, ref_Compare_eq, In_eq, ite_nand]
    have he : ∀ c : Chan, vEs c.fEpochs = ((List.range c.fEpochs.length).all (stepE c.fEpochs) && inB c.fEpochs.length 1 32) := fun _ => rfl
    match i, hi with
    | 0, hi =>
      rw [stepI_0 hi, if_neg (c := decide (((0 : Nat) : Int) > 0) = true) (by simp), he]
      cases validB l[0].fSource <;> cases inB l[0].fEpochs.length 1 32 <;> cases (List.range l[0].fEpochs.length).all (stepE l[0].fEpochs) <;> simp <;> rfl
    | i + 1, hi =>
      rw [stepI_s hi, if_pos (c := decide (((i + 1 : Nat) : Int) > 0) = true) (decide_eq_true (by omega)), w64 (n := ((i + 1 : Nat) : Int) - 1) (by omega) (by omega), getO_at (i := i) (by omega) (by omega), he]
      have hw : ∀ j : Int, j = ((i + 1 : Nat) : Int) → IntKind.wrap .i64 (j + 1) = ((i + 1 + 1 : Nat) : Int) := fun j hj => by subst hj; exact w64 (by omega) (by omega)
      simp only [Option.bind_some]
      by_cases h : cmpS l[i].fSource l[i + 1].fSource < 0
      · rw [if_neg (c := decide (cmpS l[i].fSource l[i + 1].fSource ≥ 0) = true) (by simp; omega)]
        cases validB l[i + 1].fSource <;> cases inB l[i + 1].fEpochs.length 1 32 <;> cases (List.range l[i + 1].fEpochs.length).all (stepE l[i + 1].fEpochs) <;> simp only [Bool.true_and, Bool.and_true, Bool.false_and, Bool.and_false, if_true, Bool.false_eq_true, if_false, h, decide_true, hw _ rfl]
      · rw [if_pos (c := decide (cmpS l[i].fSource l[i + 1].fSource ≥ 0) = true) (by simp; omega)]
        cases validB l[i + 1].fSource <;> simp [h]) (by
    unfold ref19_Valid_l31
    rw [if_neg (by simp)]), Option.bind_some]
  have e : decide ((l.length : Int) ≤ 128) = decide (l.length ≤ 128) := decide_eq_decide.2 (by omega)
  cases (List.range l.length).all (stepI l) with
  | true => simp [e]
  | false => rfl
end Go.Dw.It
