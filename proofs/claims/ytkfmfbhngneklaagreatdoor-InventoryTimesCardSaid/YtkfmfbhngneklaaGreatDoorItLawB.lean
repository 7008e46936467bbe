/- ItLawB: valid epochs and inventories: the program and the document mean the same. -/
import Derived.Test.YtkfmfbhngneklaaGreatDoorItLawA
set_option maxRecDepth 100000
set_option maxHeartbeats 4000000
namespace Go.Dw.It
open Go.Dw
abbrev Stage := T_api_Stage
abbrev Resp := T_api_Response
abbrev Epoch := T_api_Epoch
abbrev Chan := T_api_Channel
abbrev Inv := T_api_Inventory

def inB (a lo hi : Int) : Bool := decide (a ≥ lo) && decide (a ≤ hi)
theorem rin_eq (a b c : Int) : rate_in a b c = some (inB a b c) := by unfold rate_in inB; rw [ite_and]
theorem pin_eq (a b c : Int) : response_in a b c = some (inB a b c) := rin_eq a b c
theorem iin_eq (a b c : Int) : inventory_in a b c = some (inB a b c) := rin_eq a b c
theorem In_eq (a b c : Int) : ref01_In a b c = some (inB a b c) := rin_eq a b c

/-! ### Rates -/
theorem gcd_ok (a b : Int) : ∃ g, rate_gcd a b = some g := by
  obtain ⟨o, h, -⟩ := loop_ind (body := rate_gcd_l7) (fun _ => True) (fun s => s.2.natAbs) (fun _ => True) (by
    rintro ⟨x, y⟩ -
    unfold rate_gcd_l7
    by_cases hy : y = 0
    · exact .inr ⟨x, by simp [hy], trivial⟩
    · refine .inl ⟨(y, x.tmod y), ?_, trivial, ?_⟩
      · have : (y != 0) = true := by simpa using hy
        simp only [this, if_true]
        unfold remO
        rw [if_neg hy]; rfl
      · simp only [Int.natAbs_tmod]
        exact Nat.mod_lt _ (by omega)) (a, b) trivial
  exact ⟨o, by unfold rate_gcd; rw [h]; rfl⟩
noncomputable def vR (r : T_api_Rate) : Bool := inB r.fNum 1 4096 && (inB r.fDen 1 4096 && ((rate_gcd r.fNum r.fDen).getD 0 == 1))
theorem vR_eq (r : T_api_Rate) : rate_Valid r = some (vR r) := by
  obtain ⟨g, hg⟩ := gcd_ok r.fNum r.fDen
  unfold rate_Valid vR
  simp only [rin_eq, Option.bind_some, hg, ite_and, Option.getD_some]
theorem ref_vR_eq (r : T_api_Rate) : ref02_Valid r = some (vR r) := vR_eq r

/-! ### Stages -/
def termsB (l : List Int) : Bool := l.all fun x => inB x (-1048576) 1048576
theorem terms_eq {l : List Int} (hl : l.length ≤ 4000000000) : response_terms l = some (termsB l) := by
  unfold response_terms slices_ContainsFunc_int_lit1 slices_IndexFunc_int_lit1
  have := loop_upto (body := slices_IndexFunc_int_lit1_l7 l) l.length (q := fun i => inB (l.getD i 0) (-1048576) 1048576) (u := .inl ()) (r := fun i => .inr (i : Int)) (fun i hi => by
    unfold slices_IndexFunc_int_lit1_l7 response_terms_lit1
    rw [if_pos (by simp; omega), getO_at rfl hi, w64 (by omega) (by omega)]
    simp only [Option.bind_some, pin_eq, List.getD_eq_getElem?_getD, List.getElem?_eq_getElem hi, Option.getD_some, ite_nand]
    rfl) (by
    unfold slices_IndexFunc_int_lit1_l7
    rw [if_neg (by simp)])
  rcases this with ⟨h, h'⟩ | ⟨i, hi, h, h', -⟩
  · rw [h]
    have : termsB l = true := List.all_eq_true.2 fun x hx => by
      obtain ⟨i, hi, rfl⟩ := List.getElem_of_mem hx
      have := h' i hi
      simpa [List.getD_eq_getElem?_getD, List.getElem?_eq_getElem hi] using this
    rw [this]; rfl
  · rw [h]
    have : termsB l = false := List.all_eq_false.2 ⟨l[i], List.getElem_mem hi, by
      simpa [List.getD_eq_getElem?_getD, List.getElem?_eq_getElem hi] using h'⟩
    rw [this]
    simp only [Option.bind_some]
    rw [show decide ((i : Int) ≥ 0) = true by simp]; rfl
theorem ref_terms_eq {l : List Int} (hl : l.length ≤ 4000000000) : ref18_terms l = some (termsB l) := by
  unfold ref18_terms
  rw [loop_list (body := ref18_terms_l7 l) l (p := fun x => inB x (-1048576) 1048576) (u := .inl ()) (r := .inr false) (fun i hi => by
    unfold ref18_terms_l7
    rw [if_pos (by simp; omega), getO_at rfl hi, w64 (by omega) (by omega)]
    simp only [Option.bind_some, In_eq, ite_nand]
    rfl) (by
    unfold ref18_terms_l7
    rw [if_neg (by simp)])]
  unfold termsB
  cases l.all fun x => inB x (-1048576) 1048576 <;> rfl
theorem sum_ok {l : List Int} (hl : l.length ≤ 4000000000) : ∃ g, response_sum l = some g := by
  obtain ⟨o, h, -⟩ := loop_ind (body := response_sum_l7 l) (fun s => ∃ i : Nat, s.2 = (i : Int) ∧ i ≤ l.length) (fun s => ((l.length : Int) - s.2).toNat) (fun _ => True) (by
    rintro ⟨x, y⟩ ⟨i, hy, hi⟩
    simp only at hy
    subst hy
    unfold response_sum_l7
    by_cases hlt : i < l.length
    · refine .inl ⟨(IntKind.wrap .i64 (x + l[i]), ((i + 1 : Nat) : Int)), ?_, ⟨i + 1, rfl, by omega⟩, by simp only; omega⟩
      simp only
      rw [if_pos (by simp; omega), getO_at rfl hlt, w64 (n := (i : Int) + 1) (by omega) (by omega)]; rfl
    · exact .inr ⟨x, by simp only; rw [if_neg (by simp; omega)], trivial⟩) (0, 0) ⟨0, rfl, Nat.zero_le _⟩
  exact ⟨o, by unfold response_sum; rw [h]; rfl⟩
noncomputable def sumB (l : List Int) : Int := (response_sum l).getD 0
theorem sum_eq {l : List Int} (hl : l.length ≤ 4000000000) : response_sum l = some (sumB l) := by
  obtain ⟨g, hg⟩ := sum_ok hl
  unfold sumB; rw [hg]; rfl
theorem ref_sum_eq {l : List Int} (hl : l.length ≤ 4000000000) : ref18_total l = some (sumB l) := sum_eq hl
noncomputable def vS (s : Stage) : Bool :=
  if s.fKind = 0 then decide (s.fTaps = []) && (s.fFactor == 0) && (s.fShift == 0) && inB s.fNum.a0 1 1048576 && inB s.fDen.a0 1 1048576 && (s.fNum.a1 == 0) && (s.fNum.a2 == 0) && (s.fDen.a1 == 0) && (s.fDen.a2 == 0)
  else if s.fKind = 1 then decide (s.fTaps = []) && (s.fFactor == 0) && (s.fShift == 0) && termsB [s.fNum.a0, s.fNum.a1, s.fNum.a2] && termsB [s.fDen.a0, s.fDen.a1, s.fDen.a2] && (s.fDen.a0 != 0)
  else if s.fKind = 2 then (s.fNum.a0 == 0) && (s.fNum.a1 == 0) && (s.fNum.a2 == 0) && (s.fDen.a0 == 0) && (s.fDen.a1 == 0) && (s.fDen.a2 == 0) && inB s.fTaps.length 1 128 && termsB s.fTaps && (sumB s.fTaps != 0) && inB s.fFactor 1 64 && inB s.fShift 0 40
  else false
theorem len0 {α : Type} [DecidableEq α] (l : List α) : ((l.length : Int) == 0) = decide (l = []) := by
  cases l with
  | nil => rfl
  | cons a l => simp; omega
theorem vS_eq {s : Stage} (hl : s.fTaps.length ≤ 4000000000) : response_ValidStage s = some (vS s) := by
  unfold response_ValidStage vS
  simp only [pin_eq, terms_eq hl, terms_eq (l := [s.fNum.a0, s.fNum.a1, s.fNum.a2]) (by simp), terms_eq (l := [s.fDen.a0, s.fDen.a1, s.fDen.a2]) (by simp), sum_eq hl, Option.bind_some, ite_and, len0]
  by_cases h0 : s.fKind = 0
  · rw [if_pos h0]
    simp only [h0, beq_self_eq_true, if_true, ite_and]
    cases decide (s.fTaps = []) <;> cases s.fFactor == 0 <;> simp <;> cases s.fShift == 0 <;> simp [Bool.and_assoc, Bool.and_comm, Bool.and_left_comm]
  rw [if_neg h0]
  have e0 : (s.fKind == 0) = false := by simpa using h0
  by_cases h1 : s.fKind = 1
  · rw [if_pos h1]
    simp only [h1, beq_self_eq_true, if_true, ite_and]
    cases decide (s.fTaps = []) <;> cases s.fFactor == 0 <;> simp [Bool.and_assoc]
  rw [if_neg h1]
  have e1 : (s.fKind == 1) = false := by simpa using h1
  by_cases h2 : s.fKind = 2
  · rw [if_pos h2]
    simp only [h2, beq_self_eq_true, if_true, ite_and]
    cases decide (s.fTaps = []) <;> cases s.fFactor == 0 <;> simp [Bool.and_assoc]
  rw [if_neg h2]
  have e2 : (s.fKind == 2) = false := by simpa using h2
  simp only [e0, e1, e2]
  cases decide (s.fTaps = []) <;> cases s.fFactor == 0 <;> simp
theorem ref_vS_eq {s : Stage} (hl : s.fTaps.length ≤ 4000000000) : ref18_ValidStage s = some (vS s) := by
  unfold ref18_ValidStage vS
  simp only [In_eq, ref_terms_eq hl, ref_terms_eq (l := [s.fNum.a0, s.fNum.a1, s.fNum.a2]) (by simp), ref_terms_eq (l := [s.fDen.a0, s.fDen.a1, s.fDen.a2]) (by simp), ref_sum_eq hl, Option.bind_some, ite_and, len0]
  by_cases h0 : s.fKind = 0
  · rw [if_pos h0]
    simp only [h0, beq_self_eq_true, if_true, ite_and]
    cases decide (s.fTaps = []) <;> cases s.fFactor == 0 <;> simp [Bool.and_assoc]
  rw [if_neg h0]
  have e0 : (s.fKind == 0) = false := by simpa using h0
  by_cases h1 : s.fKind = 1
  · rw [if_pos h1]
    simp only [h1, beq_self_eq_true, if_true, ite_and]
    cases decide (s.fTaps = []) <;> cases s.fFactor == 0 <;> simp [Bool.and_assoc]
  rw [if_neg h1]
  have e1 : (s.fKind == 1) = false := by simpa using h1
  by_cases h2 : s.fKind = 2
  · rw [if_pos h2]
    simp only [h2, beq_self_eq_true, if_true, ite_and]
    cases decide (s.fTaps = []) <;> cases s.fFactor == 0 <;> simp [Bool.and_assoc]
  rw [if_neg h2]
  have e2 : (s.fKind == 2) = false := by simpa using h2
  simp only [e0, e1, e2]
  cases decide (s.fTaps = []) <;> cases s.fFactor == 0 <;> simp
end Go.Dw.It
