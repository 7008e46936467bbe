/- TryB: identifiers and dice. -/
import Derived.Test.YtjlbpchimjjcpaaDoorTryA
set_option maxRecDepth 100000
namespace Go.Ds.Sp
open Go.Proofs Go.Proofs.Tryd

/-- An identifier as data. -/
structure Src where
  net : List UInt8
  sta : List UInt8
  loc : List UInt8
  cha : List UInt8
def Src.pd (s : Src) : PD := .agg [.str s.net, .str s.sta, .str s.loc, .str s.cha]
def Src.small (s : Src) : Prop := s.net.length ≤ 2 ^ 40 ∧ s.sta.length ≤ 2 ^ 40 ∧ s.loc.length ≤ 2 ^ 40 ∧ s.cha.length ≤ 2 ^ 40
def validB (s : Src) : Bool := codeB s.net 1 2 && codeB s.sta 1 5 && codeB s.loc 0 2 && decide ((s.loc.length : Int) ≠ 1) && codeB s.cha 3 3

theorem valid_ev (s : Src) (hs : s.small) : Ev prog hints extS 21 [.d s.pd] [] (.d (.bool (validB s))) [] := by
  obtain ⟨n, t, l, c⟩ := s
  obtain ⟨h1, h2, h3, h4⟩ := hs
  simp only at h1 h2 h3 h4
  refine Ev.body rfl func21 rfl (by kernel_rfl) ?_
  refine WC.regionSeq rfl rfl ?_
  repeat' (first
      | refine WO.nil ?_
      | (refine WO.ints rfl rfl rfl rfl rfl rfl rfl rfl ?_ ?_ <;> intro _ <;> try (rename_i hq; simp at hq; done))
      | (refine WO.ints rfl rfl rfl rfl rfl rfl rfl (intBin_neq _ _ _) ?_ ?_ <;> intro _ <;> try (rename_i hq; simp at hq; done))
      | (refine WO.streq rfl rfl rfl rfl rfl ?_ ?_ <;> intro hq <;> try (simp at hq; done))
      | (refine WO.strne rfl rfl rfl rfl rfl ?_ ?_ <;> intro hq <;> try (simp at hq; done))
      | (refine WO.tail rfl rfl rfl rfl rfl rfl ?_)
      | (refine WO.add rfl rfl rfl rfl rfl rfl (IntWalk.i64_in _ (by omega)) ?_)
      | (refine WO.sub rfl rfl rfl rfl rfl rfl (IntWalk.i64_in _ (by omega)) ?_)
      | (refine WO.idx rfl rfl rfl rfl rfl rfl (by omega) ?_)
      | refine WO.step rfl rfl (fun _ => rfl) rfl ?_
      | refine WO.stepN rfl rfl (fun _ => rfl) rfl ?_
      | refine WO.skip rfl rfl ?_
      | (refine WO.step rfl rfl (fun _ => rfl) (by simp; omega) ?_)
      | fail)
  refine WC.regionSeq rfl rfl ?_
  repeat' (first
      | refine WO.nil ?_
      | (refine WO.ints rfl rfl rfl rfl rfl rfl rfl rfl ?_ ?_ <;> intro _ <;> try (rename_i hq; simp at hq; done))
      | (refine WO.ints rfl rfl rfl rfl rfl rfl rfl (intBin_neq _ _ _) ?_ ?_ <;> intro _ <;> try (rename_i hq; simp at hq; done))
      | (refine WO.streq rfl rfl rfl rfl rfl ?_ ?_ <;> intro hq <;> try (simp at hq; done))
      | (refine WO.strne rfl rfl rfl rfl rfl ?_ ?_ <;> intro hq <;> try (simp at hq; done))
      | (refine WO.tail rfl rfl rfl rfl rfl rfl ?_)
      | (refine WO.add rfl rfl rfl rfl rfl rfl (IntWalk.i64_in _ (by omega)) ?_)
      | (refine WO.sub rfl rfl rfl rfl rfl rfl (IntWalk.i64_in _ (by omega)) ?_)
      | (refine WO.idx rfl rfl rfl rfl rfl rfl (by omega) ?_)
      | refine WO.step rfl rfl (fun _ => rfl) rfl ?_
      | refine WO.stepN rfl rfl (fun _ => rfl) rfl ?_
      | refine WO.skip rfl rfl ?_
      | (refine WO.step rfl rfl (fun _ => rfl) (by simp; omega) ?_)
      | (refine WO.callB rfl rfl rfl rfl rfl rfl rfl rfl rfl rfl (code_ev _ _ _ (by assumption)) rfl rfl ?_ ?_ <;> intro _)
      | fail)
  all_goals refine WC.ret ?_
  all_goals refine WC.done rfl (finish_tmp1 rfl rfl) (done_bool ?_)
  all_goals (simp only [validB, *]; try simp_all)
theorem light_ev (l : List Int) : Ev prog hints extS 7 [.d (.lst (l.map (.int .i64)))] [] (.d (.bool (decide (l.length ≤ 500)))) [] := by
  refine Ev.body rfl func7 rfl (by kernel_rfl) ?_
  refine WC.regionSeq rfl rfl ?_
  repeat' (first
      | refine WO.nil ?_
      | (refine WO.ints rfl rfl rfl rfl rfl rfl rfl rfl ?_ ?_ <;> intro _ <;> try (rename_i hq; simp at hq; done))
      | (refine WO.ints rfl rfl rfl rfl rfl rfl rfl (intBin_neq _ _ _) ?_ ?_ <;> intro _ <;> try (rename_i hq; simp at hq; done))
      | (refine WO.streq rfl rfl rfl rfl rfl ?_ ?_ <;> intro hq <;> try (simp at hq; done))
      | (refine WO.strne rfl rfl rfl rfl rfl ?_ ?_ <;> intro hq <;> try (simp at hq; done))
      | (refine WO.tail rfl rfl rfl rfl rfl rfl ?_)
      | (refine WO.add rfl rfl rfl rfl rfl rfl (IntWalk.i64_in _ (by omega)) ?_)
      | (refine WO.sub rfl rfl rfl rfl rfl rfl (IntWalk.i64_in _ (by omega)) ?_)
      | (refine WO.idx rfl rfl rfl rfl rfl rfl (by omega) ?_)
      | refine WO.step rfl rfl (fun _ => rfl) rfl ?_
      | refine WO.stepN rfl rfl (fun _ => rfl) rfl ?_
      | refine WO.skip rfl rfl ?_
      | (refine WO.step rfl rfl (fun _ => rfl) (by simp; omega) ?_)
      | fail)
  refine WC.regionSeq rfl rfl ?_
  repeat' (first
      | refine WO.nil ?_
      | (refine WO.ints rfl rfl rfl rfl rfl rfl rfl rfl ?_ ?_ <;> intro _ <;> try (rename_i hq; simp at hq; done))
      | (refine WO.ints rfl rfl rfl rfl rfl rfl rfl (intBin_neq _ _ _) ?_ ?_ <;> intro _ <;> try (rename_i hq; simp at hq; done))
      | (refine WO.streq rfl rfl rfl rfl rfl ?_ ?_ <;> intro hq <;> try (simp at hq; done))
      | (refine WO.strne rfl rfl rfl rfl rfl ?_ ?_ <;> intro hq <;> try (simp at hq; done))
      | (refine WO.tail rfl rfl rfl rfl rfl rfl ?_)
      | (refine WO.add rfl rfl rfl rfl rfl rfl (IntWalk.i64_in _ (by omega)) ?_)
      | (refine WO.sub rfl rfl rfl rfl rfl rfl (IntWalk.i64_in _ (by omega)) ?_)
      | (refine WO.idx rfl rfl rfl rfl rfl rfl (by omega) ?_)
      | refine WO.step rfl rfl (fun _ => rfl) rfl ?_
      | refine WO.stepN rfl rfl (fun _ => rfl) rfl ?_
      | refine WO.skip rfl rfl ?_
      | (refine WO.step rfl rfl (fun _ => rfl) (by simp; omega) ?_)
      | fail)
  all_goals refine WC.ret ?_
  all_goals refine WC.done rfl (finish_tmp1 rfl rfl) (done_bool ?_)
  all_goals (simp_all; try omega)
theorem roll_ev (l : List PD) : Ev prog hints extS 9 [.d (.lst l)] [] (.fvar [.lst l, .int .i64 0]) [] := by
  refine Ev.body rfl func9 rfl (by kernel_rfl) ?_
  refine WC.regionSeq rfl rfl ?_
  repeat' (first
      | refine WO.nil ?_
      | (refine WO.ints rfl rfl rfl rfl rfl rfl rfl rfl ?_ ?_ <;> intro _ <;> try (rename_i hq; simp at hq; done))
      | (refine WO.ints rfl rfl rfl rfl rfl rfl rfl (intBin_neq _ _ _) ?_ ?_ <;> intro _ <;> try (rename_i hq; simp at hq; done))
      | (refine WO.streq rfl rfl rfl rfl rfl ?_ ?_ <;> intro hq <;> try (simp at hq; done))
      | (refine WO.strne rfl rfl rfl rfl rfl ?_ ?_ <;> intro hq <;> try (simp at hq; done))
      | (refine WO.tail rfl rfl rfl rfl rfl rfl ?_)
      | (refine WO.add rfl rfl rfl rfl rfl rfl (IntWalk.i64_in _ (by omega)) ?_)
      | (refine WO.sub rfl rfl rfl rfl rfl rfl (IntWalk.i64_in _ (by omega)) ?_)
      | (refine WO.idx rfl rfl rfl rfl rfl rfl (by omega) ?_)
      | refine WO.step rfl rfl (fun _ => rfl) rfl ?_
      | refine WO.stepN rfl rfl (fun _ => rfl) rfl ?_
      | refine WO.skip rfl rfl ?_
      | (refine WO.step rfl rfl (fun _ => rfl) (by simp; omega) ?_)
      | fail)
  refine WC.regionSeq rfl rfl ?_
  repeat' (first
      | refine WO.nil ?_
      | (refine WO.ints rfl rfl rfl rfl rfl rfl rfl rfl ?_ ?_ <;> intro _ <;> try (rename_i hq; simp at hq; done))
      | (refine WO.ints rfl rfl rfl rfl rfl rfl rfl (intBin_neq _ _ _) ?_ ?_ <;> intro _ <;> try (rename_i hq; simp at hq; done))
      | (refine WO.streq rfl rfl rfl rfl rfl ?_ ?_ <;> intro hq <;> try (simp at hq; done))
      | (refine WO.strne rfl rfl rfl rfl rfl ?_ ?_ <;> intro hq <;> try (simp at hq; done))
      | (refine WO.tail rfl rfl rfl rfl rfl rfl ?_)
      | (refine WO.add rfl rfl rfl rfl rfl rfl (IntWalk.i64_in _ (by omega)) ?_)
      | (refine WO.sub rfl rfl rfl rfl rfl rfl (IntWalk.i64_in _ (by omega)) ?_)
      | (refine WO.idx rfl rfl rfl rfl rfl rfl (by omega) ?_)
      | refine WO.step rfl rfl (fun _ => rfl) rfl ?_
      | refine WO.stepN rfl rfl (fun _ => rfl) rfl ?_
      | refine WO.skip rfl rfl ?_
      | (refine WO.step rfl rfl (fun _ => rfl) (by simp; omega) ?_)
      | fail)
  exact WC.ret (WC.done rfl rfl rfl)
theorem parts_ev (s : Src) : Ev prog hints extS 32 [.d s.pd] [] (.d s.pd) [] := by
  obtain ⟨n, t, l, c⟩ := s
  refine Ev.body rfl func32 rfl (by kernel_rfl) ?_
  refine WC.regionSeq rfl rfl ?_
  repeat' (first
      | refine WO.nil ?_
      | (refine WO.ints rfl rfl rfl rfl rfl rfl rfl rfl ?_ ?_ <;> intro _ <;> try (rename_i hq; simp at hq; done))
      | (refine WO.ints rfl rfl rfl rfl rfl rfl rfl (intBin_neq _ _ _) ?_ ?_ <;> intro _ <;> try (rename_i hq; simp at hq; done))
      | (refine WO.streq rfl rfl rfl rfl rfl ?_ ?_ <;> intro hq <;> try (simp at hq; done))
      | (refine WO.strne rfl rfl rfl rfl rfl ?_ ?_ <;> intro hq <;> try (simp at hq; done))
      | (refine WO.tail rfl rfl rfl rfl rfl rfl ?_)
      | (refine WO.add rfl rfl rfl rfl rfl rfl (IntWalk.i64_in _ (by omega)) ?_)
      | (refine WO.sub rfl rfl rfl rfl rfl rfl (IntWalk.i64_in _ (by omega)) ?_)
      | (refine WO.idx rfl rfl rfl rfl rfl rfl (by omega) ?_)
      | refine WO.step rfl rfl (fun _ => rfl) rfl ?_
      | refine WO.stepN rfl rfl (fun _ => rfl) rfl ?_
      | refine WO.skip rfl rfl ?_
      | (refine WO.step rfl rfl (fun _ => rfl) (by simp; omega) ?_)
      | fail)
  refine WC.regionSeq rfl rfl ?_
  repeat' (first
      | refine WO.nil ?_
      | (refine WO.ints rfl rfl rfl rfl rfl rfl rfl rfl ?_ ?_ <;> intro _ <;> try (rename_i hq; simp at hq; done))
      | (refine WO.ints rfl rfl rfl rfl rfl rfl rfl (intBin_neq _ _ _) ?_ ?_ <;> intro _ <;> try (rename_i hq; simp at hq; done))
      | (refine WO.streq rfl rfl rfl rfl rfl ?_ ?_ <;> intro hq <;> try (simp at hq; done))
      | (refine WO.strne rfl rfl rfl rfl rfl ?_ ?_ <;> intro hq <;> try (simp at hq; done))
      | (refine WO.tail rfl rfl rfl rfl rfl rfl ?_)
      | (refine WO.add rfl rfl rfl rfl rfl rfl (IntWalk.i64_in _ (by omega)) ?_)
      | (refine WO.sub rfl rfl rfl rfl rfl rfl (IntWalk.i64_in _ (by omega)) ?_)
      | (refine WO.idx rfl rfl rfl rfl rfl rfl (by omega) ?_)
      | refine WO.step rfl rfl (fun _ => rfl) rfl ?_
      | refine WO.stepN rfl rfl (fun _ => rfl) rfl ?_
      | refine WO.skip rfl rfl ?_
      | (refine WO.step rfl rfl (fun _ => rfl) (by simp; omega) ?_)
      | fail)
  exact WC.ret (WC.done rfl rfl rfl)

/-- What a throw gives, and where the dice stand then. -/
def nextV (l : List Int) (a n : Int) : Int × Int :=
  if a ≥ l.length ∨ n < 1 then (0, a) else
    let x := (l.getD a.toNat 0).tmod n
    (if x < 0 then x + n else x, a + 1)
def dice (l : List Int) (a : Int) : Box := .var [.d (.lst (l.map (.int .i64))), .d (.int .i64 a)]

theorem tmod_bounds (x n : Int) (h : 1 ≤ n) : -n < x.tmod n ∧ x.tmod n < n := ⟨Int.lt_tmod_of_pos x (by omega), Int.tmod_lt_of_pos x (by omega)⟩
theorem map_int_get (l : List Int) (k : Nat) (h : k < l.length) : (l.map (PD.int .i64))[k]? = some (.int .i64 (l.getD k 0)) := by simp [h]
theorem done_dice {x y : Int} {l : List Int} {a b : Int} (h : x = y) (h' : a = b) : ((RV.d (.int .i64 x), [dice l a]) : RV × List Box) = (.d (.int .i64 y), [dice l b]) := by rw [h, h']

theorem next_ev (l : List Int) (a n : Int) (ha : 0 ≤ a ∧ a ≤ 2 ^ 40) (hn : n ≤ 2 ^ 40) :
    Ev prog hints extS 11 [.ptr 0 0, .d (.int .i64 n)] [dice l a] (.d (.int .i64 (nextV l a n).1)) [dice l (nextV l a n).2] := by
  have hl : (l.map (PD.int .i64)).length = l.length := by simp
  refine Ev.body rfl func11 rfl (by kernel_rfl) ?_
  refine WC.regionSeq rfl rfl ?_
  repeat' (first
      | refine WO.nil ?_
      | (refine WO.ints rfl rfl rfl rfl rfl rfl rfl rfl ?_ ?_ <;> intro _ <;> try (rename_i hq; simp at hq; done))
      | (refine WO.ints rfl rfl rfl rfl rfl rfl rfl (intBin_neq _ _ _) ?_ ?_ <;> intro _ <;> try (rename_i hq; simp at hq; done))
      | (refine WO.streq rfl rfl rfl rfl rfl ?_ ?_ <;> intro hq <;> try (simp at hq; done))
      | (refine WO.strne rfl rfl rfl rfl rfl ?_ ?_ <;> intro hq <;> try (simp at hq; done))
      | (refine WO.tail rfl rfl rfl rfl rfl rfl ?_)
      | (refine WO.add rfl rfl rfl rfl rfl rfl (IntWalk.i64_in _ (by omega)) ?_)
      | (refine WO.sub rfl rfl rfl rfl rfl rfl (IntWalk.i64_in _ (by omega)) ?_)
      | (refine WO.idx rfl rfl rfl rfl rfl rfl (by omega) ?_)
      | refine WO.step rfl rfl (fun _ => rfl) rfl ?_
      | refine WO.stepN rfl rfl (fun _ => rfl) rfl ?_
      | refine WO.skip rfl rfl ?_
      | (refine WO.step rfl rfl (fun _ => rfl) (by simp; omega) ?_)
      | fail)
  refine WC.seq (WC.regionDSeq rfl rfl ?_)
  repeat' (first
      | refine WO.nil ?_
      | (refine WO.ints rfl rfl rfl rfl rfl rfl rfl rfl ?_ ?_ <;> intro _ <;> try (rename_i hq; simp at hq; done))
      | (refine WO.ints rfl rfl rfl rfl rfl rfl rfl (intBin_neq _ _ _) ?_ ?_ <;> intro _ <;> try (rename_i hq; simp at hq; done))
      | (refine WO.streq rfl rfl rfl rfl rfl ?_ ?_ <;> intro hq <;> try (simp at hq; done))
      | (refine WO.strne rfl rfl rfl rfl rfl ?_ ?_ <;> intro hq <;> try (simp at hq; done))
      | (refine WO.tail rfl rfl rfl rfl rfl rfl ?_)
      | (refine WO.add rfl rfl rfl rfl rfl rfl (IntWalk.i64_in _ (by omega)) ?_)
      | (refine WO.sub rfl rfl rfl rfl rfl rfl (IntWalk.i64_in _ (by omega)) ?_)
      | (refine WO.idx rfl rfl rfl rfl rfl rfl (by omega) ?_)
      | refine WO.step rfl rfl (fun _ => rfl) rfl ?_
      | refine WO.stepN rfl rfl (fun _ => rfl) rfl ?_
      | refine WO.skip rfl rfl ?_
      | (refine WO.step rfl rfl (fun _ => rfl) (by simp; omega) ?_)
      | fail)
  · refine ⟨by kernel_rfl, WC.condT rfl ?_⟩
    refine WC.regionSeq rfl rfl ?_
    repeat' (first
      | refine WO.nil ?_
      | (refine WO.ints rfl rfl rfl rfl rfl rfl rfl rfl ?_ ?_ <;> intro _ <;> try (rename_i hq; simp at hq; done))
      | (refine WO.ints rfl rfl rfl rfl rfl rfl rfl (intBin_neq _ _ _) ?_ ?_ <;> intro _ <;> try (rename_i hq; simp at hq; done))
      | (refine WO.streq rfl rfl rfl rfl rfl ?_ ?_ <;> intro hq <;> try (simp at hq; done))
      | (refine WO.strne rfl rfl rfl rfl rfl ?_ ?_ <;> intro hq <;> try (simp at hq; done))
      | (refine WO.tail rfl rfl rfl rfl rfl rfl ?_)
      | (refine WO.add rfl rfl rfl rfl rfl rfl (IntWalk.i64_in _ (by omega)) ?_)
      | (refine WO.sub rfl rfl rfl rfl rfl rfl (IntWalk.i64_in _ (by omega)) ?_)
      | (refine WO.idx rfl rfl rfl rfl rfl rfl (by omega) ?_)
      | refine WO.step rfl rfl (fun _ => rfl) rfl ?_
      | refine WO.stepN rfl rfl (fun _ => rfl) rfl ?_
      | refine WO.skip rfl rfl ?_
      | (refine WO.step rfl rfl (fun _ => rfl) (by simp; omega) ?_)
      | fail)
    refine WC.ret ?_
    refine WC.done rfl rfl (done_dice ?_ ?_) <;> simp_all [nextV]
  · refine ⟨by kernel_rfl, WC.condT rfl ?_⟩
    refine WC.regionSeq rfl rfl ?_
    repeat' (first
      | refine WO.nil ?_
      | (refine WO.ints rfl rfl rfl rfl rfl rfl rfl rfl ?_ ?_ <;> intro _ <;> try (rename_i hq; simp at hq; done))
      | (refine WO.ints rfl rfl rfl rfl rfl rfl rfl (intBin_neq _ _ _) ?_ ?_ <;> intro _ <;> try (rename_i hq; simp at hq; done))
      | (refine WO.streq rfl rfl rfl rfl rfl ?_ ?_ <;> intro hq <;> try (simp at hq; done))
      | (refine WO.strne rfl rfl rfl rfl rfl ?_ ?_ <;> intro hq <;> try (simp at hq; done))
      | (refine WO.tail rfl rfl rfl rfl rfl rfl ?_)
      | (refine WO.add rfl rfl rfl rfl rfl rfl (IntWalk.i64_in _ (by omega)) ?_)
      | (refine WO.sub rfl rfl rfl rfl rfl rfl (IntWalk.i64_in _ (by omega)) ?_)
      | (refine WO.idx rfl rfl rfl rfl rfl rfl (by omega) ?_)
      | refine WO.step rfl rfl (fun _ => rfl) rfl ?_
      | refine WO.stepN rfl rfl (fun _ => rfl) rfl ?_
      | refine WO.skip rfl rfl ?_
      | (refine WO.step rfl rfl (fun _ => rfl) (by simp; omega) ?_)
      | fail)
    refine WC.ret ?_
    refine WC.done rfl rfl (done_dice ?_ ?_) <;> simp_all [nextV]
  · refine ⟨by kernel_rfl, WC.condF rfl (WC.skip ?_)⟩
    have hb := tmod_bounds (l.getD a.toNat 0) n (by omega)
    have hc : ¬ (a ≥ (l.length : Int) ∨ n < 1) := by omega
    have hv : nextV l a n = (if (l.getD a.toNat 0).tmod n < 0 then (l.getD a.toNat 0).tmod n + n else (l.getD a.toNat 0).tmod n, a + 1) := by simp only [nextV, hc, if_false]
    refine WC.regionDSeq rfl rfl ?_
    repeat' (first
      | refine WO.nil ?_
      | (refine WO.ints rfl rfl rfl rfl rfl rfl rfl rfl ?_ ?_ <;> intro _ <;> try (rename_i hq; simp at hq; done))
      | (refine WO.ints rfl rfl rfl rfl rfl rfl rfl (intBin_neq _ _ _) ?_ ?_ <;> intro _ <;> try (rename_i hq; simp at hq; done))
      | (refine WO.streq rfl rfl rfl rfl rfl ?_ ?_ <;> intro hq <;> try (simp at hq; done))
      | (refine WO.strne rfl rfl rfl rfl rfl ?_ ?_ <;> intro hq <;> try (simp at hq; done))
      | (refine WO.tail rfl rfl rfl rfl rfl rfl ?_)
      | (refine WO.add rfl rfl rfl rfl rfl rfl (IntWalk.i64_in _ (by omega)) ?_)
      | (refine WO.sub rfl rfl rfl rfl rfl rfl (IntWalk.i64_in _ (by omega)) ?_)
      | (refine WO.idx rfl rfl rfl rfl rfl rfl (by omega) ?_)
      | refine WO.step rfl rfl (fun _ => rfl) rfl ?_
      | refine WO.stepN rfl rfl (fun _ => rfl) rfl ?_
      | refine WO.skip rfl rfl ?_
      | (refine WO.step rfl rfl (fun _ => rfl) (by simp; omega) ?_)
      | fail)
    refine WO.elem rfl rfl rfl rfl rfl rfl rfl (by omega) (map_int_get l _ (by omega)) rfl rfl ?_
    repeat' (first
      | refine WO.nil ?_
      | (refine WO.ints rfl rfl rfl rfl rfl rfl rfl rfl ?_ ?_ <;> intro _ <;> try (rename_i hq; simp at hq; done))
      | (refine WO.ints rfl rfl rfl rfl rfl rfl rfl (intBin_neq _ _ _) ?_ ?_ <;> intro _ <;> try (rename_i hq; simp at hq; done))
      | (refine WO.streq rfl rfl rfl rfl rfl ?_ ?_ <;> intro hq <;> try (simp at hq; done))
      | (refine WO.strne rfl rfl rfl rfl rfl ?_ ?_ <;> intro hq <;> try (simp at hq; done))
      | (refine WO.tail rfl rfl rfl rfl rfl rfl ?_)
      | (refine WO.add rfl rfl rfl rfl rfl rfl (IntWalk.i64_in _ (by omega)) ?_)
      | (refine WO.sub rfl rfl rfl rfl rfl rfl (IntWalk.i64_in _ (by omega)) ?_)
      | (refine WO.idx rfl rfl rfl rfl rfl rfl (by omega) ?_)
      | refine WO.step rfl rfl (fun _ => rfl) rfl ?_
      | refine WO.stepN rfl rfl (fun _ => rfl) rfl ?_
      | refine WO.skip rfl rfl ?_
      | (refine WO.step rfl rfl (fun _ => rfl) (by simp; omega) ?_)
      | fail)
    refine ⟨by kernel_rfl, ?_⟩
    refine WC.regionSeq rfl rfl ?_
    repeat' (first
      | refine WO.nil ?_
      | (refine WO.ints rfl rfl rfl rfl rfl rfl rfl rfl ?_ ?_ <;> intro _ <;> try (rename_i hq; simp at hq; done))
      | (refine WO.ints rfl rfl rfl rfl rfl rfl rfl (intBin_neq _ _ _) ?_ ?_ <;> intro _ <;> try (rename_i hq; simp at hq; done))
      | (refine WO.streq rfl rfl rfl rfl rfl ?_ ?_ <;> intro hq <;> try (simp at hq; done))
      | (refine WO.strne rfl rfl rfl rfl rfl ?_ ?_ <;> intro hq <;> try (simp at hq; done))
      | (refine WO.tail rfl rfl rfl rfl rfl rfl ?_)
      | (refine WO.add rfl rfl rfl rfl rfl rfl (IntWalk.i64_in _ (by omega)) ?_)
      | (refine WO.sub rfl rfl rfl rfl rfl rfl (IntWalk.i64_in _ (by omega)) ?_)
      | (refine WO.idx rfl rfl rfl rfl rfl rfl (by omega) ?_)
      | refine WO.step rfl rfl (fun _ => rfl) rfl ?_
      | refine WO.stepN rfl rfl (fun _ => rfl) rfl ?_
      | refine WO.skip rfl rfl ?_
      | (refine WO.step rfl rfl (fun _ => rfl) (by simp; omega) ?_)
      | fail)
    refine WC.seq ?_
    refine WC.regionSeq rfl rfl ?_
    repeat' (first
      | refine WO.nil ?_
      | (refine WO.ints rfl rfl rfl rfl rfl rfl rfl rfl ?_ ?_ <;> intro _ <;> try (rename_i hq; simp at hq; done))
      | (refine WO.ints rfl rfl rfl rfl rfl rfl rfl (intBin_neq _ _ _) ?_ ?_ <;> intro _ <;> try (rename_i hq; simp at hq; done))
      | (refine WO.streq rfl rfl rfl rfl rfl ?_ ?_ <;> intro hq <;> try (simp at hq; done))
      | (refine WO.strne rfl rfl rfl rfl rfl ?_ ?_ <;> intro hq <;> try (simp at hq; done))
      | (refine WO.tail rfl rfl rfl rfl rfl rfl ?_)
      | (refine WO.add rfl rfl rfl rfl rfl rfl (IntWalk.i64_in _ (by omega)) ?_)
      | (refine WO.sub rfl rfl rfl rfl rfl rfl (IntWalk.i64_in _ (by omega)) ?_)
      | (refine WO.idx rfl rfl rfl rfl rfl rfl (by omega) ?_)
      | refine WO.step rfl rfl (fun _ => rfl) rfl ?_
      | refine WO.stepN rfl rfl (fun _ => rfl) rfl ?_
      | refine WO.skip rfl rfl ?_
      | (refine WO.step rfl rfl (fun _ => rfl) (by simp; omega) ?_)
      | fail)
    · refine WC.condT rfl ?_
      refine WC.region rfl rfl ?_
      repeat' (first
      | refine WO.nil ?_
      | (refine WO.ints rfl rfl rfl rfl rfl rfl rfl rfl ?_ ?_ <;> intro _ <;> try (rename_i hq; simp at hq; done))
      | (refine WO.ints rfl rfl rfl rfl rfl rfl rfl (intBin_neq _ _ _) ?_ ?_ <;> intro _ <;> try (rename_i hq; simp at hq; done))
      | (refine WO.streq rfl rfl rfl rfl rfl ?_ ?_ <;> intro hq <;> try (simp at hq; done))
      | (refine WO.strne rfl rfl rfl rfl rfl ?_ ?_ <;> intro hq <;> try (simp at hq; done))
      | (refine WO.tail rfl rfl rfl rfl rfl rfl ?_)
      | (refine WO.add rfl rfl rfl rfl rfl rfl (IntWalk.i64_in _ (by omega)) ?_)
      | (refine WO.sub rfl rfl rfl rfl rfl rfl (IntWalk.i64_in _ (by omega)) ?_)
      | (refine WO.idx rfl rfl rfl rfl rfl rfl (by omega) ?_)
      | refine WO.step rfl rfl (fun _ => rfl) rfl ?_
      | refine WO.stepN rfl rfl (fun _ => rfl) rfl ?_
      | refine WO.skip rfl rfl ?_
      | (refine WO.step rfl rfl (fun _ => rfl) (by simp; omega) ?_)
      | fail)
      refine WC.regionSeq rfl rfl ?_
      repeat' (first
      | refine WO.nil ?_
      | (refine WO.ints rfl rfl rfl rfl rfl rfl rfl rfl ?_ ?_ <;> intro _ <;> try (rename_i hq; simp at hq; done))
      | (refine WO.ints rfl rfl rfl rfl rfl rfl rfl (intBin_neq _ _ _) ?_ ?_ <;> intro _ <;> try (rename_i hq; simp at hq; done))
      | (refine WO.streq rfl rfl rfl rfl rfl ?_ ?_ <;> intro hq <;> try (simp at hq; done))
      | (refine WO.strne rfl rfl rfl rfl rfl ?_ ?_ <;> intro hq <;> try (simp at hq; done))
      | (refine WO.tail rfl rfl rfl rfl rfl rfl ?_)
      | (refine WO.add rfl rfl rfl rfl rfl rfl (IntWalk.i64_in _ (by omega)) ?_)
      | (refine WO.sub rfl rfl rfl rfl rfl rfl (IntWalk.i64_in _ (by omega)) ?_)
      | (refine WO.idx rfl rfl rfl rfl rfl rfl (by omega) ?_)
      | refine WO.step rfl rfl (fun _ => rfl) rfl ?_
      | refine WO.stepN rfl rfl (fun _ => rfl) rfl ?_
      | refine WO.skip rfl rfl ?_
      | (refine WO.step rfl rfl (fun _ => rfl) (by simp; omega) ?_)
      | fail)
      refine WC.ret ?_
      refine WC.done rfl rfl (done_dice ?_ ?_) <;> rw [hv]
      · exact (if_pos (by assumption)).symm
    · refine WC.condF rfl (WC.skip ?_)
      refine WC.regionSeq rfl rfl ?_
      repeat' (first
      | refine WO.nil ?_
      | (refine WO.ints rfl rfl rfl rfl rfl rfl rfl rfl ?_ ?_ <;> intro _ <;> try (rename_i hq; simp at hq; done))
      | (refine WO.ints rfl rfl rfl rfl rfl rfl rfl (intBin_neq _ _ _) ?_ ?_ <;> intro _ <;> try (rename_i hq; simp at hq; done))
      | (refine WO.streq rfl rfl rfl rfl rfl ?_ ?_ <;> intro hq <;> try (simp at hq; done))
      | (refine WO.strne rfl rfl rfl rfl rfl ?_ ?_ <;> intro hq <;> try (simp at hq; done))
      | (refine WO.tail rfl rfl rfl rfl rfl rfl ?_)
      | (refine WO.add rfl rfl rfl rfl rfl rfl (IntWalk.i64_in _ (by omega)) ?_)
      | (refine WO.sub rfl rfl rfl rfl rfl rfl (IntWalk.i64_in _ (by omega)) ?_)
      | (refine WO.idx rfl rfl rfl rfl rfl rfl (by omega) ?_)
      | refine WO.step rfl rfl (fun _ => rfl) rfl ?_
      | refine WO.stepN rfl rfl (fun _ => rfl) rfl ?_
      | refine WO.skip rfl rfl ?_
      | (refine WO.step rfl rfl (fun _ => rfl) (by simp; omega) ?_)
      | fail)
      refine WC.ret ?_
      refine WC.done rfl rfl (done_dice ?_ ?_) <;> rw [hv]
      · exact (if_neg (by assumption)).symm
theorem nextV_range (l : List Int) (a n : Int) (hn : 1 ≤ n) : 0 ≤ (nextV l a n).1 ∧ (nextV l a n).1 < n := by
  have hb := tmod_bounds (l.getD a.toNat 0) n hn
  unfold nextV
  split
  · simp only; omega
  · simp only; split <;> omega
theorem nextV_at (l : List Int) (a n : Int) : a ≤ (nextV l a n).2 ∧ (nextV l a n).2 ≤ a + 1 := by
  unfold nextV
  split <;> simp only <;> omega

/-- One of several. -/
def pickL (o : List (List UInt8)) (i : Int) : List UInt8 := o.getD i.toNat []
theorem map_str_get (o : List (List UInt8)) (i : Int) (h : 0 ≤ i ∧ i < o.length) : (o.map PD.str)[i.toNat]? = some (.str (pickL o i)) := by
  have hlt : i.toNat < o.length := by omega
  simp [pickL, hlt]
def nets : List (List UInt8) := [[71, 82], [88], [55, 65]]
def stas : List (List UInt8) := [[70, 85, 82], [65], [65, 66, 67, 68, 69], [70, 85]]
def locs : List (List UInt8) := [[], [48, 48], [49, 48]]
def chas : List (List UInt8) := [[72, 72, 90], [72, 72, 78], [66, 72, 90]]
def srcV (l : List Int) (a : Int) : Src × Int :=
  let x := nextV l a 3
  let y := nextV l x.2 4
  let z := nextV l y.2 3
  let u := nextV l z.2 3
  (⟨pickL nets x.1, pickL stas y.1, pickL locs z.1, pickL chas u.1⟩, u.2)
theorem src_ev (l : List Int) (a : Int) (ha : 0 ≤ a ∧ a ≤ 2 ^ 30) : Ev prog hints extS 10 [.ptr 0 0] [dice l a] (.d (srcV l a).1.pd) [dice l (srcV l a).2] := by
  have h1 := nextV_at l a 3
  have h2 := nextV_at l (nextV l a 3).2 4
  have h3 := nextV_at l (nextV l (nextV l a 3).2 4).2 3
  have r1 := nextV_range l a 3 (by omega)
  have r2 := nextV_range l (nextV l a 3).2 4 (by omega)
  have r3 := nextV_range l (nextV l (nextV l a 3).2 4).2 3 (by omega)
  have r4 := nextV_range l (nextV l (nextV l (nextV l a 3).2 4).2 3).2 3 (by omega)
  refine Ev.body rfl func10 rfl (by kernel_rfl) ?_
  refine WC.regionSeq rfl rfl ?_
  repeat' (first
      | refine WO.nil ?_
      | (refine WO.ints rfl rfl rfl rfl rfl rfl rfl rfl ?_ ?_ <;> intro _ <;> try (rename_i hq; simp at hq; done))
      | (refine WO.ints rfl rfl rfl rfl rfl rfl rfl (intBin_neq _ _ _) ?_ ?_ <;> intro _ <;> try (rename_i hq; simp at hq; done))
      | (refine WO.streq rfl rfl rfl rfl rfl ?_ ?_ <;> intro hq <;> try (simp at hq; done))
      | (refine WO.strne rfl rfl rfl rfl rfl ?_ ?_ <;> intro hq <;> try (simp at hq; done))
      | (refine WO.tail rfl rfl rfl rfl rfl rfl ?_)
      | (refine WO.add rfl rfl rfl rfl rfl rfl (IntWalk.i64_in _ (by omega)) ?_)
      | (refine WO.sub rfl rfl rfl rfl rfl rfl (IntWalk.i64_in _ (by omega)) ?_)
      | (refine WO.idx rfl rfl rfl rfl rfl rfl (by omega) ?_)
      | refine WO.step rfl rfl (fun _ => rfl) rfl ?_
      | refine WO.stepN rfl rfl (fun _ => rfl) rfl ?_
      | refine WO.skip rfl rfl ?_
      | (refine WO.step rfl rfl (fun _ => rfl) (by simp; omega) ?_)
      | fail)
  refine WC.regionDSeq rfl rfl ?_
  repeat' (first
      | refine WO.nil ?_
      | (refine WO.ints rfl rfl rfl rfl rfl rfl rfl rfl ?_ ?_ <;> intro _ <;> try (rename_i hq; simp at hq; done))
      | (refine WO.ints rfl rfl rfl rfl rfl rfl rfl (intBin_neq _ _ _) ?_ ?_ <;> intro _ <;> try (rename_i hq; simp at hq; done))
      | (refine WO.streq rfl rfl rfl rfl rfl ?_ ?_ <;> intro hq <;> try (simp at hq; done))
      | (refine WO.strne rfl rfl rfl rfl rfl ?_ ?_ <;> intro hq <;> try (simp at hq; done))
      | (refine WO.tail rfl rfl rfl rfl rfl rfl ?_)
      | (refine WO.add rfl rfl rfl rfl rfl rfl (IntWalk.i64_in _ (by omega)) ?_)
      | (refine WO.sub rfl rfl rfl rfl rfl rfl (IntWalk.i64_in _ (by omega)) ?_)
      | (refine WO.idx rfl rfl rfl rfl rfl rfl (by omega) ?_)
      | refine WO.step rfl rfl (fun _ => rfl) rfl ?_
      | refine WO.stepN rfl rfl (fun _ => rfl) rfl ?_
      | refine WO.skip rfl rfl ?_
      | (refine WO.step rfl rfl (fun _ => rfl) (by simp; omega) ?_)
      | fail)
  refine WO.call rfl rfl rfl rfl rfl rfl rfl rfl rfl rfl (next_ev l a 3 (by omega) (by omega)) rfl rfl rfl rfl ?_
  refine WO.elem rfl rfl rfl rfl rfl rfl rfl r1.1 (map_str_get nets _ r1) rfl rfl ?_
  repeat' (first
      | refine WO.nil ?_
      | (refine WO.ints rfl rfl rfl rfl rfl rfl rfl rfl ?_ ?_ <;> intro _ <;> try (rename_i hq; simp at hq; done))
      | (refine WO.ints rfl rfl rfl rfl rfl rfl rfl (intBin_neq _ _ _) ?_ ?_ <;> intro _ <;> try (rename_i hq; simp at hq; done))
      | (refine WO.streq rfl rfl rfl rfl rfl ?_ ?_ <;> intro hq <;> try (simp at hq; done))
      | (refine WO.strne rfl rfl rfl rfl rfl ?_ ?_ <;> intro hq <;> try (simp at hq; done))
      | (refine WO.tail rfl rfl rfl rfl rfl rfl ?_)
      | (refine WO.add rfl rfl rfl rfl rfl rfl (IntWalk.i64_in _ (by omega)) ?_)
      | (refine WO.sub rfl rfl rfl rfl rfl rfl (IntWalk.i64_in _ (by omega)) ?_)
      | (refine WO.idx rfl rfl rfl rfl rfl rfl (by omega) ?_)
      | refine WO.step rfl rfl (fun _ => rfl) rfl ?_
      | refine WO.stepN rfl rfl (fun _ => rfl) rfl ?_
      | refine WO.skip rfl rfl ?_
      | (refine WO.step rfl rfl (fun _ => rfl) (by simp; omega) ?_)
      | fail)
  refine WO.call rfl rfl rfl rfl rfl rfl rfl rfl rfl rfl (next_ev l _ 4 (by omega) (by omega)) rfl rfl rfl rfl ?_
  refine WO.elem rfl rfl rfl rfl rfl rfl rfl r2.1 (map_str_get stas _ r2) rfl rfl ?_
  repeat' (first
      | refine WO.nil ?_
      | (refine WO.ints rfl rfl rfl rfl rfl rfl rfl rfl ?_ ?_ <;> intro _ <;> try (rename_i hq; simp at hq; done))
      | (refine WO.ints rfl rfl rfl rfl rfl rfl rfl (intBin_neq _ _ _) ?_ ?_ <;> intro _ <;> try (rename_i hq; simp at hq; done))
      | (refine WO.streq rfl rfl rfl rfl rfl ?_ ?_ <;> intro hq <;> try (simp at hq; done))
      | (refine WO.strne rfl rfl rfl rfl rfl ?_ ?_ <;> intro hq <;> try (simp at hq; done))
      | (refine WO.tail rfl rfl rfl rfl rfl rfl ?_)
      | (refine WO.add rfl rfl rfl rfl rfl rfl (IntWalk.i64_in _ (by omega)) ?_)
      | (refine WO.sub rfl rfl rfl rfl rfl rfl (IntWalk.i64_in _ (by omega)) ?_)
      | (refine WO.idx rfl rfl rfl rfl rfl rfl (by omega) ?_)
      | refine WO.step rfl rfl (fun _ => rfl) rfl ?_
      | refine WO.stepN rfl rfl (fun _ => rfl) rfl ?_
      | refine WO.skip rfl rfl ?_
      | (refine WO.step rfl rfl (fun _ => rfl) (by simp; omega) ?_)
      | fail)
  refine WO.call rfl rfl rfl rfl rfl rfl rfl rfl rfl rfl (next_ev l _ 3 (by omega) (by omega)) rfl rfl rfl rfl ?_
  refine WO.elem rfl rfl rfl rfl rfl rfl rfl r3.1 (map_str_get locs _ r3) rfl rfl ?_
  repeat' (first
      | refine WO.nil ?_
      | (refine WO.ints rfl rfl rfl rfl rfl rfl rfl rfl ?_ ?_ <;> intro _ <;> try (rename_i hq; simp at hq; done))
      | (refine WO.ints rfl rfl rfl rfl rfl rfl rfl (intBin_neq _ _ _) ?_ ?_ <;> intro _ <;> try (rename_i hq; simp at hq; done))
      | (refine WO.streq rfl rfl rfl rfl rfl ?_ ?_ <;> intro hq <;> try (simp at hq; done))
      | (refine WO.strne rfl rfl rfl rfl rfl ?_ ?_ <;> intro hq <;> try (simp at hq; done))
      | (refine WO.tail rfl rfl rfl rfl rfl rfl ?_)
      | (refine WO.add rfl rfl rfl rfl rfl rfl (IntWalk.i64_in _ (by omega)) ?_)
      | (refine WO.sub rfl rfl rfl rfl rfl rfl (IntWalk.i64_in _ (by omega)) ?_)
      | (refine WO.idx rfl rfl rfl rfl rfl rfl (by omega) ?_)
      | refine WO.step rfl rfl (fun _ => rfl) rfl ?_
      | refine WO.stepN rfl rfl (fun _ => rfl) rfl ?_
      | refine WO.skip rfl rfl ?_
      | (refine WO.step rfl rfl (fun _ => rfl) (by simp; omega) ?_)
      | fail)
  refine WO.call rfl rfl rfl rfl rfl rfl rfl rfl rfl rfl (next_ev l _ 3 (by omega) (by omega)) rfl rfl rfl rfl ?_
  refine WO.elem rfl rfl rfl rfl rfl rfl rfl r4.1 (map_str_get chas _ r4) rfl rfl ?_
  repeat' (first
      | refine WO.nil ?_
      | (refine WO.ints rfl rfl rfl rfl rfl rfl rfl rfl ?_ ?_ <;> intro _ <;> try (rename_i hq; simp at hq; done))
      | (refine WO.ints rfl rfl rfl rfl rfl rfl rfl (intBin_neq _ _ _) ?_ ?_ <;> intro _ <;> try (rename_i hq; simp at hq; done))
      | (refine WO.streq rfl rfl rfl rfl rfl ?_ ?_ <;> intro hq <;> try (simp at hq; done))
      | (refine WO.strne rfl rfl rfl rfl rfl ?_ ?_ <;> intro hq <;> try (simp at hq; done))
      | (refine WO.tail rfl rfl rfl rfl rfl rfl ?_)
      | (refine WO.add rfl rfl rfl rfl rfl rfl (IntWalk.i64_in _ (by omega)) ?_)
      | (refine WO.sub rfl rfl rfl rfl rfl rfl (IntWalk.i64_in _ (by omega)) ?_)
      | (refine WO.idx rfl rfl rfl rfl rfl rfl (by omega) ?_)
      | refine WO.step rfl rfl (fun _ => rfl) rfl ?_
      | refine WO.stepN rfl rfl (fun _ => rfl) rfl ?_
      | refine WO.skip rfl rfl ?_
      | (refine WO.step rfl rfl (fun _ => rfl) (by simp; omega) ?_)
      | fail)
  refine ⟨by kernel_rfl, ?_⟩
  exact WC.ret (WC.done rfl rfl rfl)
end Go.Ds.Sp
