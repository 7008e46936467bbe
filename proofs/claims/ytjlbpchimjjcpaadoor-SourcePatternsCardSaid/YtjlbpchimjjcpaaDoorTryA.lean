/- TryA: the functions of source, by the interpreter. -/
import Derived.Test.YtjlbpchimjjcpaaDoorProg
import Derived.Test.YtjlbpchimjjcpaaDoorDsSplit
set_option maxRecDepth 100000
namespace Go.Ds.Sp
open Go.Proofs Go.Proofs.Tryd

/-- Ghost steps: at the head of a loop what is used later is kept. -/
def hints : Hints where
  at_ := fun f id =>
    if f = 42 then (if id = 2 then [.keep [0, 1, 2, 6, 9, 10] []] else [])
    else if f = 30 then (if id = 3 then [.keep [0, 2, 3, 4, 10, 11, 12] []] else if id = 6 then [.keep [0, 2, 3, 4, 6, 10, 11, 12, 17, 18] []] else [])
    else if f = 31 then (if id = 2 then [.keep [0, 4, 8, 9] []] else [])
    else if f = 13 then (if id = 5 then [.own 8 128 28] else if id = 6 then [.keep [0, 6, 7, 8, 18, 19, 20] [128]] else [])
    else []
  mt := fun _ _ => false

def extS : FuncId → Option CallD := fun f => if f = 34 then some splitD else none

def plainB (c : Int) : Bool := decide (65 ≤ c) && decide (c ≤ 90) || decide (48 ≤ c) && decide (c ≤ 57)
theorem done_bool {b c : Bool} {bs : List Box} (h : b = c) : ((RV.d (.bool b), bs) : RV × List Box) = (.d (.bool c), bs) := by rw [h]

theorem plain_ev (c : Int) : Ev prog hints extS 46 [.d (.int .u8 c)] [] (.d (.bool (plainB c))) [] := by
  refine Ev.body rfl func46 rfl (by kernel_rfl) ?_
  refine WC.regionSeq rfl rfl ?_
  repeat' (first
      | refine WO.nil ?_
      | (refine WO.ints rfl rfl rfl rfl rfl rfl rfl rfl ?_ ?_ <;> intro _ <;> try (rename_i hq; simp at hq; done))
      | (refine WO.ints rfl rfl rfl rfl rfl rfl rfl (intBin_neq _ _ _) ?_ ?_ <;> intro _ <;> try (rename_i hq; simp at hq; done))
      | (refine WO.streq rfl rfl rfl rfl rfl ?_ ?_ <;> intro hq <;> try (simp at hq; done))
      | (refine WO.strne rfl rfl rfl rfl rfl ?_ ?_ <;> intro hq <;> try (simp at hq; done))
      | (refine WO.tail rfl rfl rfl rfl rfl rfl ?_)
      | (refine WO.add rfl rfl rfl rfl rfl rfl (IntWalk.i64_in _ (by omega)) ?_)
      | (refine WO.sub rfl rfl rfl rfl rfl rfl (IntWalk.i64_in _ (by omega)) ?_)
      | (refine WO.idx rfl rfl rfl rfl rfl rfl (by omega) ?_)
      | refine WO.step rfl rfl (fun _ => rfl) rfl ?_
      | refine WO.stepN rfl rfl (fun _ => rfl) rfl ?_
      | refine WO.skip rfl rfl ?_
      | (refine WO.step rfl rfl (fun _ => rfl) (by simp; omega) ?_)
      | fail)
  refine WC.regionSeq rfl rfl ?_
  repeat' (first
      | refine WO.nil ?_
      | (refine WO.ints rfl rfl rfl rfl rfl rfl rfl rfl ?_ ?_ <;> intro _ <;> try (rename_i hq; simp at hq; done))
      | (refine WO.ints rfl rfl rfl rfl rfl rfl rfl (intBin_neq _ _ _) ?_ ?_ <;> intro _ <;> try (rename_i hq; simp at hq; done))
      | (refine WO.streq rfl rfl rfl rfl rfl ?_ ?_ <;> intro hq <;> try (simp at hq; done))
      | (refine WO.strne rfl rfl rfl rfl rfl ?_ ?_ <;> intro hq <;> try (simp at hq; done))
      | (refine WO.tail rfl rfl rfl rfl rfl rfl ?_)
      | (refine WO.add rfl rfl rfl rfl rfl rfl (IntWalk.i64_in _ (by omega)) ?_)
      | (refine WO.sub rfl rfl rfl rfl rfl rfl (IntWalk.i64_in _ (by omega)) ?_)
      | (refine WO.idx rfl rfl rfl rfl rfl rfl (by omega) ?_)
      | refine WO.step rfl rfl (fun _ => rfl) rfl ?_
      | refine WO.stepN rfl rfl (fun _ => rfl) rfl ?_
      | refine WO.skip rfl rfl ?_
      | (refine WO.step rfl rfl (fun _ => rfl) (by simp; omega) ?_)
      | fail)
  all_goals refine WC.ret ?_
  all_goals refine WC.done rfl (finish_tmp1 rfl rfl) ?_
  all_goals refine done_bool ?_
  all_goals (simp [plainB]; omega)

def by_ (s : List UInt8) (i : Int) : Int := ((s.getD i.toNat 0).toNat : Nat)
def codeB (s : List UInt8) (low high : Int) : Bool := s.all (fun c => plainB (c.toNat : Nat)) && (decide (low ≤ s.length) && decide ((s.length : Int) ≤ high))

theorem all_by {s : List UInt8} {p : Int → Bool} (h : ∀ j : Int, 0 ≤ j → j < s.length → p (by_ s j) = true) : s.all (fun c => p (c.toNat : Nat)) = true := by
  refine List.all_eq_true.2 fun c hc => ?_
  obtain ⟨i, hi, rfl⟩ := List.mem_iff_getElem.1 hc
  have := h i (by omega) (by omega)
  simpa [by_, hi] using this
theorem not_all_by {s : List UInt8} {p : Int → Bool} {j : Int} (h0 : 0 ≤ j) (h1 : j < s.length) (h : p (by_ s j) = false) : s.all (fun c => p (c.toNat : Nat)) = false := by
  refine List.all_eq_false.2 ⟨s[j.toNat]'(by omega), List.getElem_mem _, ?_⟩
  have hlt : j.toNat < s.length := by omega
  simpa [by_, hlt] using h

theorem code_ev (s : List UInt8) (low high : Int) (hs : s.length ≤ 2 ^ 40) : Ev prog hints extS 42 [.d (.str s), .d (.int .i64 low), .d (.int .i64 high)] [] (.d (.bool (codeB s low high))) [] := by
  refine Ev.body rfl func42 rfl (by kernel_rfl) ?_
  refine WC.regionSeq rfl rfl ?_
  repeat' (first
      | refine WO.nil ?_
      | (refine WO.ints rfl rfl rfl rfl rfl rfl rfl rfl ?_ ?_ <;> intro _ <;> try (rename_i hq; simp at hq; done))
      | (refine WO.ints rfl rfl rfl rfl rfl rfl rfl (intBin_neq _ _ _) ?_ ?_ <;> intro _ <;> try (rename_i hq; simp at hq; done))
      | (refine WO.streq rfl rfl rfl rfl rfl ?_ ?_ <;> intro hq <;> try (simp at hq; done))
      | (refine WO.strne rfl rfl rfl rfl rfl ?_ ?_ <;> intro hq <;> try (simp at hq; done))
      | (refine WO.tail rfl rfl rfl rfl rfl rfl ?_)
      | (refine WO.add rfl rfl rfl rfl rfl rfl (IntWalk.i64_in _ (by omega)) ?_)
      | (refine WO.sub rfl rfl rfl rfl rfl rfl (IntWalk.i64_in _ (by omega)) ?_)
      | (refine WO.idx rfl rfl rfl rfl rfl rfl (by omega) ?_)
      | refine WO.step rfl rfl (fun _ => rfl) rfl ?_
      | refine WO.stepN rfl rfl (fun _ => rfl) rfl ?_
      | refine WO.skip rfl rfl ?_
      | (refine WO.step rfl rfl (fun _ => rfl) (by simp; omega) ?_)
      | fail)
  refine WC.seq (WC.seq ?_)
  refine WC.region rfl rfl ?_
  repeat' (first
      | refine WO.nil ?_
      | (refine WO.ints rfl rfl rfl rfl rfl rfl rfl rfl ?_ ?_ <;> intro _ <;> try (rename_i hq; simp at hq; done))
      | (refine WO.ints rfl rfl rfl rfl rfl rfl rfl (intBin_neq _ _ _) ?_ ?_ <;> intro _ <;> try (rename_i hq; simp at hq; done))
      | (refine WO.streq rfl rfl rfl rfl rfl ?_ ?_ <;> intro hq <;> try (simp at hq; done))
      | (refine WO.strne rfl rfl rfl rfl rfl ?_ ?_ <;> intro hq <;> try (simp at hq; done))
      | (refine WO.tail rfl rfl rfl rfl rfl rfl ?_)
      | (refine WO.add rfl rfl rfl rfl rfl rfl (IntWalk.i64_in _ (by omega)) ?_)
      | (refine WO.sub rfl rfl rfl rfl rfl rfl (IntWalk.i64_in _ (by omega)) ?_)
      | (refine WO.idx rfl rfl rfl rfl rfl rfl (by omega) ?_)
      | refine WO.step rfl rfl (fun _ => rfl) rfl ?_
      | refine WO.stepN rfl rfl (fun _ => rfl) rfl ?_
      | refine WO.skip rfl rfl ?_
      | (refine WO.step rfl rfl (fun _ => rfl) (by simp; omega) ?_)
      | fail)
  refine WC.block (WC.loop ?_)
  refine WL.ind (fun k R B => ∃ i : Int, 0 ≤ i ∧ i + k = s.length ∧ (∀ j : Int, 0 ≤ j → j < i → plainB (by_ s j) = true) ∧
    ghosts prog 0 (A R B) (hints.at_ 42 2) = some (A [(0, .d (.str s)), (1, .d (.int .i64 low)), (2, .d (.int .i64 high)), (6, .d (.bool false)), (9, .d (.int .i64 s.length)), (10, .d (.int .i64 i))] [])) s.length
    ⟨0, by omega, by omega, fun j h1 h2 => by omega, rfl⟩ ?_
  rintro k R B ⟨i, h0, hk, hp, hg⟩ ih
  refine WL.round (WC.regionSeq hg rfl ?_)
  repeat' (first
      | refine WO.nil ?_
      | (refine WO.ints rfl rfl rfl rfl rfl rfl rfl rfl ?_ ?_ <;> intro _ <;> try (rename_i hq; simp at hq; done))
      | (refine WO.ints rfl rfl rfl rfl rfl rfl rfl (intBin_neq _ _ _) ?_ ?_ <;> intro _ <;> try (rename_i hq; simp at hq; done))
      | (refine WO.streq rfl rfl rfl rfl rfl ?_ ?_ <;> intro hq <;> try (simp at hq; done))
      | (refine WO.strne rfl rfl rfl rfl rfl ?_ ?_ <;> intro hq <;> try (simp at hq; done))
      | (refine WO.tail rfl rfl rfl rfl rfl rfl ?_)
      | (refine WO.add rfl rfl rfl rfl rfl rfl (IntWalk.i64_in _ (by omega)) ?_)
      | (refine WO.sub rfl rfl rfl rfl rfl rfl (IntWalk.i64_in _ (by omega)) ?_)
      | (refine WO.idx rfl rfl rfl rfl rfl rfl (by omega) ?_)
      | refine WO.step rfl rfl (fun _ => rfl) rfl ?_
      | refine WO.stepN rfl rfl (fun _ => rfl) rfl ?_
      | refine WO.skip rfl rfl ?_
      | (refine WO.step rfl rfl (fun _ => rfl) (by simp; omega) ?_)
      | fail)
  · refine WC.seq (WC.condT rfl (WC.skip ?_))
    refine WC.seq (WC.block ?_)
    refine WC.regionSeq rfl rfl ?_
    repeat' (first
      | refine WO.nil ?_
      | (refine WO.ints rfl rfl rfl rfl rfl rfl rfl rfl ?_ ?_ <;> intro _ <;> try (rename_i hq; simp at hq; done))
      | (refine WO.ints rfl rfl rfl rfl rfl rfl rfl (intBin_neq _ _ _) ?_ ?_ <;> intro _ <;> try (rename_i hq; simp at hq; done))
      | (refine WO.streq rfl rfl rfl rfl rfl ?_ ?_ <;> intro hq <;> try (simp at hq; done))
      | (refine WO.strne rfl rfl rfl rfl rfl ?_ ?_ <;> intro hq <;> try (simp at hq; done))
      | (refine WO.tail rfl rfl rfl rfl rfl rfl ?_)
      | (refine WO.add rfl rfl rfl rfl rfl rfl (IntWalk.i64_in _ (by omega)) ?_)
      | (refine WO.sub rfl rfl rfl rfl rfl rfl (IntWalk.i64_in _ (by omega)) ?_)
      | (refine WO.idx rfl rfl rfl rfl rfl rfl (by omega) ?_)
      | refine WO.step rfl rfl (fun _ => rfl) rfl ?_
      | refine WO.stepN rfl rfl (fun _ => rfl) rfl ?_
      | refine WO.skip rfl rfl ?_
      | (refine WO.step rfl rfl (fun _ => rfl) (by simp; omega) ?_)
      | fail)
    refine WC.regionSeq rfl rfl ?_
    repeat' (first
      | refine WO.nil ?_
      | (refine WO.ints rfl rfl rfl rfl rfl rfl rfl rfl ?_ ?_ <;> intro _ <;> try (rename_i hq; simp at hq; done))
      | (refine WO.ints rfl rfl rfl rfl rfl rfl rfl (intBin_neq _ _ _) ?_ ?_ <;> intro _ <;> try (rename_i hq; simp at hq; done))
      | (refine WO.streq rfl rfl rfl rfl rfl ?_ ?_ <;> intro hq <;> try (simp at hq; done))
      | (refine WO.strne rfl rfl rfl rfl rfl ?_ ?_ <;> intro hq <;> try (simp at hq; done))
      | (refine WO.tail rfl rfl rfl rfl rfl rfl ?_)
      | (refine WO.add rfl rfl rfl rfl rfl rfl (IntWalk.i64_in _ (by omega)) ?_)
      | (refine WO.sub rfl rfl rfl rfl rfl rfl (IntWalk.i64_in _ (by omega)) ?_)
      | (refine WO.idx rfl rfl rfl rfl rfl rfl (by omega) ?_)
      | refine WO.step rfl rfl (fun _ => rfl) rfl ?_
      | refine WO.stepN rfl rfl (fun _ => rfl) rfl ?_
      | refine WO.skip rfl rfl ?_
      | (refine WO.step rfl rfl (fun _ => rfl) (by simp; omega) ?_)
      | fail)
    refine WO.call rfl rfl rfl rfl rfl rfl rfl rfl rfl rfl (plain_ev _) rfl rfl rfl rfl ?_
    repeat' (first
      | refine WO.nil ?_
      | (refine WO.ints rfl rfl rfl rfl rfl rfl rfl rfl ?_ ?_ <;> intro _ <;> try (rename_i hq; simp at hq; done))
      | (refine WO.ints rfl rfl rfl rfl rfl rfl rfl (intBin_neq _ _ _) ?_ ?_ <;> intro _ <;> try (rename_i hq; simp at hq; done))
      | (refine WO.streq rfl rfl rfl rfl rfl ?_ ?_ <;> intro hq <;> try (simp at hq; done))
      | (refine WO.strne rfl rfl rfl rfl rfl ?_ ?_ <;> intro hq <;> try (simp at hq; done))
      | (refine WO.tail rfl rfl rfl rfl rfl rfl ?_)
      | (refine WO.add rfl rfl rfl rfl rfl rfl (IntWalk.i64_in _ (by omega)) ?_)
      | (refine WO.sub rfl rfl rfl rfl rfl rfl (IntWalk.i64_in _ (by omega)) ?_)
      | (refine WO.idx rfl rfl rfl rfl rfl rfl (by omega) ?_)
      | refine WO.step rfl rfl (fun _ => rfl) rfl ?_
      | refine WO.stepN rfl rfl (fun _ => rfl) rfl ?_
      | refine WO.skip rfl rfl ?_
      | (refine WO.step rfl rfl (fun _ => rfl) (by simp; omega) ?_)
      | fail)
    refine WC.cond rfl ?_ ?_ <;> intro hb
    · refine WC.regionSeq rfl rfl ?_
      repeat' (first
      | refine WO.nil ?_
      | (refine WO.ints rfl rfl rfl rfl rfl rfl rfl rfl ?_ ?_ <;> intro _ <;> try (rename_i hq; simp at hq; done))
      | (refine WO.ints rfl rfl rfl rfl rfl rfl rfl (intBin_neq _ _ _) ?_ ?_ <;> intro _ <;> try (rename_i hq; simp at hq; done))
      | (refine WO.streq rfl rfl rfl rfl rfl ?_ ?_ <;> intro hq <;> try (simp at hq; done))
      | (refine WO.strne rfl rfl rfl rfl rfl ?_ ?_ <;> intro hq <;> try (simp at hq; done))
      | (refine WO.tail rfl rfl rfl rfl rfl rfl ?_)
      | (refine WO.add rfl rfl rfl rfl rfl rfl (IntWalk.i64_in _ (by omega)) ?_)
      | (refine WO.sub rfl rfl rfl rfl rfl rfl (IntWalk.i64_in _ (by omega)) ?_)
      | (refine WO.idx rfl rfl rfl rfl rfl rfl (by omega) ?_)
      | refine WO.step rfl rfl (fun _ => rfl) rfl ?_
      | refine WO.stepN rfl rfl (fun _ => rfl) rfl ?_
      | refine WO.skip rfl rfl ?_
      | (refine WO.step rfl rfl (fun _ => rfl) (by simp; omega) ?_)
      | fail)
      refine WC.ret ?_
      refine WC.done rfl (finish_tmp1 rfl rfl) (done_bool ?_)
      have := not_all_by (p := plainB) h0 (by omega) (by simpa [by_] using hb)
      simp [codeB, this]
    · refine WC.skip ?_
      refine WC.region rfl rfl ?_
      repeat' (first
      | refine WO.nil ?_
      | (refine WO.ints rfl rfl rfl rfl rfl rfl rfl rfl ?_ ?_ <;> intro _ <;> try (rename_i hq; simp at hq; done))
      | (refine WO.ints rfl rfl rfl rfl rfl rfl rfl (intBin_neq _ _ _) ?_ ?_ <;> intro _ <;> try (rename_i hq; simp at hq; done))
      | (refine WO.streq rfl rfl rfl rfl rfl ?_ ?_ <;> intro hq <;> try (simp at hq; done))
      | (refine WO.strne rfl rfl rfl rfl rfl ?_ ?_ <;> intro hq <;> try (simp at hq; done))
      | (refine WO.tail rfl rfl rfl rfl rfl rfl ?_)
      | (refine WO.add rfl rfl rfl rfl rfl rfl (IntWalk.i64_in _ (by omega)) ?_)
      | (refine WO.sub rfl rfl rfl rfl rfl rfl (IntWalk.i64_in _ (by omega)) ?_)
      | (refine WO.idx rfl rfl rfl rfl rfl rfl (by omega) ?_)
      | refine WO.step rfl rfl (fun _ => rfl) rfl ?_
      | refine WO.stepN rfl rfl (fun _ => rfl) rfl ?_
      | refine WO.skip rfl rfl ?_
      | (refine WO.step rfl rfl (fun _ => rfl) (by simp; omega) ?_)
      | fail)
      refine ih (k - 1) _ _ (by omega) ⟨i + 1, by omega, by omega, fun j h1 h2 => ?_, rfl⟩
      by_cases hj : j = i
      · subst hj; simpa [by_] using hb
      · exact hp j h1 (by omega)
  · refine WC.seq (WC.condF rfl (WC.exit ⟨fun _ => ?_, fun h => (h rfl).elim⟩))
    have hall := all_by (p := plainB) fun j h1 h2 => hp j h1 (by omega)
    refine WC.regionSeq rfl rfl ?_
    repeat' (first
      | refine WO.nil ?_
      | (refine WO.ints rfl rfl rfl rfl rfl rfl rfl rfl ?_ ?_ <;> intro _ <;> try (rename_i hq; simp at hq; done))
      | (refine WO.ints rfl rfl rfl rfl rfl rfl rfl (intBin_neq _ _ _) ?_ ?_ <;> intro _ <;> try (rename_i hq; simp at hq; done))
      | (refine WO.streq rfl rfl rfl rfl rfl ?_ ?_ <;> intro hq <;> try (simp at hq; done))
      | (refine WO.strne rfl rfl rfl rfl rfl ?_ ?_ <;> intro hq <;> try (simp at hq; done))
      | (refine WO.tail rfl rfl rfl rfl rfl rfl ?_)
      | (refine WO.add rfl rfl rfl rfl rfl rfl (IntWalk.i64_in _ (by omega)) ?_)
      | (refine WO.sub rfl rfl rfl rfl rfl rfl (IntWalk.i64_in _ (by omega)) ?_)
      | (refine WO.idx rfl rfl rfl rfl rfl rfl (by omega) ?_)
      | refine WO.step rfl rfl (fun _ => rfl) rfl ?_
      | refine WO.stepN rfl rfl (fun _ => rfl) rfl ?_
      | refine WO.skip rfl rfl ?_
      | (refine WO.step rfl rfl (fun _ => rfl) (by simp; omega) ?_)
      | fail)
    all_goals refine WC.ret ?_
    all_goals refine WC.done rfl (finish_tmp1 rfl rfl) (done_bool ?_)
    all_goals (simp [codeB, *]; try omega)
end Go.Ds.Sp
