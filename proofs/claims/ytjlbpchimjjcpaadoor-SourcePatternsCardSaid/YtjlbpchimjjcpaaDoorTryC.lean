/- TryC: patterns. -/
import Derived.Test.YtjlbpchimjjcpaaDoorTryB
set_option maxRecDepth 100000
set_option maxHeartbeats 4000000
namespace Go.Ds.Sp
open Go.Proofs Go.Proofs.Tryd

theorem u8_eq {c d : UInt8} : ((c.toNat : Nat) : Int) = ((d.toNat : Nat) : Int) ↔ c = d := by
  rw [Int.ofNat_inj]; exact UInt8.toNat_inj

def fitsB : List UInt8 → List UInt8 → Bool
  | [], s => s.isEmpty
  | c :: p, [] => c == 42 && fitsB p []
  | c :: p, d :: t => if c = 42 then fitsB p (d :: t) || fitsB (c :: p) t else (c == 63 || c == d) && fitsB p t
termination_by p s => p.length + s.length

theorem fitsB_none (c : UInt8) (p : List UInt8) : fitsB (c :: p) [] = (c == 42 && fitsB p []) := by rw [fitsB]
theorem fitsB_star (p s : List UInt8) (e : UInt8) : fitsB (42 :: p) (e :: s) = (fitsB p (e :: s) || fitsB (42 :: p) s) := by rw [fitsB, if_pos rfl]
theorem fitsB_byte {c : UInt8} (h : c ≠ 42) (p s : List UInt8) (e : UInt8) : fitsB (c :: p) (e :: s) = ((c == 63 || c == e) && fitsB p s) := by rw [fitsB, if_neg h]
theorem fits_nil (s : List UInt8) : Ev prog hints extS 47 [.d (.str []), .d (.str s)] [] (.d (.bool (fitsB [] s))) [] := by
  refine Ev.body rfl func47 rfl (by kernel_rfl) ?_
  refine WC.regionSeq rfl rfl ?_
  repeat' (first
      | refine WO.nil ?_
      | (refine WO.ints rfl rfl rfl rfl rfl rfl rfl rfl ?_ ?_ <;> intro _ <;> try (rename_i hq; simp at hq; done))
      | (refine WO.ints rfl rfl rfl rfl rfl rfl rfl (intBin_neq _ _ _) ?_ ?_ <;> intro _ <;> try (rename_i hq; simp at hq; done))
      | (refine WO.streq rfl rfl rfl rfl rfl ?_ ?_ <;> intro hq <;> try (simp at hq; done))
      | (refine WO.strne rfl rfl rfl rfl rfl ?_ ?_ <;> intro hq <;> try (simp at hq; done))
      | (refine WO.tail rfl rfl rfl rfl rfl rfl ?_)
      | (refine WO.add rfl rfl rfl rfl rfl rfl (IntWalk.i64_in _ (by omega)) ?_)
      | (refine WO.sub rfl rfl rfl rfl rfl rfl (IntWalk.i64_in _ (by omega)) ?_)
      | (refine WO.idx rfl rfl rfl rfl rfl rfl (by omega) ?_)
      | refine WO.step rfl rfl (fun _ => rfl) rfl ?_
      | refine WO.stepN rfl rfl (fun _ => rfl) rfl ?_
      | refine WO.skip rfl rfl ?_
      | (refine WO.step rfl rfl (fun _ => rfl) (by simp; omega) ?_)
      | fail)
  refine WC.seq (WC.block ?_)
  refine WC.regionSeq rfl rfl ?_
  repeat' (first
      | refine WO.nil ?_
      | (refine WO.ints rfl rfl rfl rfl rfl rfl rfl rfl ?_ ?_ <;> intro _ <;> try (rename_i hq; simp at hq; done))
      | (refine WO.ints rfl rfl rfl rfl rfl rfl rfl (intBin_neq _ _ _) ?_ ?_ <;> intro _ <;> try (rename_i hq; simp at hq; done))
      | (refine WO.streq rfl rfl rfl rfl rfl ?_ ?_ <;> intro hq <;> try (simp at hq; done))
      | (refine WO.strne rfl rfl rfl rfl rfl ?_ ?_ <;> intro hq <;> try (simp at hq; done))
      | (refine WO.tail rfl rfl rfl rfl rfl rfl ?_)
      | (refine WO.add rfl rfl rfl rfl rfl rfl (IntWalk.i64_in _ (by omega)) ?_)
      | (refine WO.sub rfl rfl rfl rfl rfl rfl (IntWalk.i64_in _ (by omega)) ?_)
      | (refine WO.idx rfl rfl rfl rfl rfl rfl (by omega) ?_)
      | refine WO.step rfl rfl (fun _ => rfl) rfl ?_
      | refine WO.stepN rfl rfl (fun _ => rfl) rfl ?_
      | refine WO.skip rfl rfl ?_
      | (refine WO.step rfl rfl (fun _ => rfl) (by simp; omega) ?_)
      | fail)
  refine WC.condT rfl ?_
  refine WC.regionSeq rfl rfl ?_
  repeat' (first
      | refine WO.nil ?_
      | (refine WO.ints rfl rfl rfl rfl rfl rfl rfl rfl ?_ ?_ <;> intro _ <;> try (rename_i hq; simp at hq; done))
      | (refine WO.ints rfl rfl rfl rfl rfl rfl rfl (intBin_neq _ _ _) ?_ ?_ <;> intro _ <;> try (rename_i hq; simp at hq; done))
      | (refine WO.streq rfl rfl rfl rfl rfl ?_ ?_ <;> intro hq <;> try (simp at hq; done))
      | (refine WO.strne rfl rfl rfl rfl rfl ?_ ?_ <;> intro hq <;> try (simp at hq; done))
      | (refine WO.tail rfl rfl rfl rfl rfl rfl ?_)
      | (refine WO.add rfl rfl rfl rfl rfl rfl (IntWalk.i64_in _ (by omega)) ?_)
      | (refine WO.sub rfl rfl rfl rfl rfl rfl (IntWalk.i64_in _ (by omega)) ?_)
      | (refine WO.idx rfl rfl rfl rfl rfl rfl (by omega) ?_)
      | refine WO.step rfl rfl (fun _ => rfl) rfl ?_
      | refine WO.stepN rfl rfl (fun _ => rfl) rfl ?_
      | refine WO.skip rfl rfl ?_
      | (refine WO.step rfl rfl (fun _ => rfl) (by simp; omega) ?_)
      | fail)
  all_goals refine WC.ret (WC.done rfl (finish_tmp1 rfl rfl) (done_bool ?_))
  · have hq : s = [] := hq
    rw [hq, fitsB]; rfl
  · have hq : s ≠ [] := hq
    cases s with
    | nil => exact (hq rfl).elim
    | cons e s => rw [fitsB]; rfl
theorem fits_one (c : UInt8) (p : List UInt8) (i1 : Ev prog hints extS 47 [.d (.str p), .d (.str [])] [] (.d (.bool (fitsB p []))) []) : Ev prog hints extS 47 [.d (.str (c :: p)), .d (.str [])] [] (.d (.bool (fitsB (c :: p) []))) [] := by
  refine Ev.body rfl func47 rfl (by kernel_rfl) ?_
  refine WC.regionSeq rfl rfl ?_
  repeat' (first
      | refine WO.nil ?_
      | (refine WO.ints rfl rfl rfl rfl rfl rfl rfl rfl ?_ ?_ <;> intro _ <;> try (rename_i hq; simp at hq; done))
      | (refine WO.ints rfl rfl rfl rfl rfl rfl rfl (intBin_neq _ _ _) ?_ ?_ <;> intro _ <;> try (rename_i hq; simp at hq; done))
      | (refine WO.streq rfl rfl rfl rfl rfl ?_ ?_ <;> intro hq <;> try (simp at hq; done))
      | (refine WO.strne rfl rfl rfl rfl rfl ?_ ?_ <;> intro hq <;> try (simp at hq; done))
      | (refine WO.tail rfl rfl rfl rfl rfl rfl ?_)
      | (refine WO.add rfl rfl rfl rfl rfl rfl (IntWalk.i64_in _ (by omega)) ?_)
      | (refine WO.sub rfl rfl rfl rfl rfl rfl (IntWalk.i64_in _ (by omega)) ?_)
      | (refine WO.idx rfl rfl rfl rfl rfl rfl (by omega) ?_)
      | refine WO.step rfl rfl (fun _ => rfl) rfl ?_
      | refine WO.stepN rfl rfl (fun _ => rfl) rfl ?_
      | refine WO.skip rfl rfl ?_
      | (refine WO.step rfl rfl (fun _ => rfl) (by simp; omega) ?_)
      | fail)
  refine WC.seq (WC.block ?_)
  refine WC.regionSeq rfl rfl ?_
  repeat' (first
      | refine WO.nil ?_
      | (refine WO.ints rfl rfl rfl rfl rfl rfl rfl rfl ?_ ?_ <;> intro _ <;> try (rename_i hq; simp at hq; done))
      | (refine WO.ints rfl rfl rfl rfl rfl rfl rfl (intBin_neq _ _ _) ?_ ?_ <;> intro _ <;> try (rename_i hq; simp at hq; done))
      | (refine WO.streq rfl rfl rfl rfl rfl ?_ ?_ <;> intro hq <;> try (simp at hq; done))
      | (refine WO.strne rfl rfl rfl rfl rfl ?_ ?_ <;> intro hq <;> try (simp at hq; done))
      | (refine WO.tail rfl rfl rfl rfl rfl rfl ?_)
      | (refine WO.add rfl rfl rfl rfl rfl rfl (IntWalk.i64_in _ (by omega)) ?_)
      | (refine WO.sub rfl rfl rfl rfl rfl rfl (IntWalk.i64_in _ (by omega)) ?_)
      | (refine WO.idx rfl rfl rfl rfl rfl rfl (by omega) ?_)
      | refine WO.step rfl rfl (fun _ => rfl) rfl ?_
      | refine WO.stepN rfl rfl (fun _ => rfl) rfl ?_
      | refine WO.skip rfl rfl ?_
      | (refine WO.step rfl rfl (fun _ => rfl) (by simp; omega) ?_)
      | fail)
  refine WC.condF rfl ?_
  refine WC.regionSeq rfl rfl ?_
  refine WO.step rfl rfl (fun _ => rfl) rfl ?_
  refine WO.idx rfl rfl rfl rfl rfl rfl (by simp) ?_
  repeat' (first
      | refine WO.nil ?_
      | (refine WO.ints rfl rfl rfl rfl rfl rfl rfl rfl ?_ ?_ <;> intro _ <;> try (rename_i hq; simp at hq; done))
      | (refine WO.ints rfl rfl rfl rfl rfl rfl rfl (intBin_neq _ _ _) ?_ ?_ <;> intro _ <;> try (rename_i hq; simp at hq; done))
      | (refine WO.streq rfl rfl rfl rfl rfl ?_ ?_ <;> intro hq <;> try (simp at hq; done))
      | (refine WO.strne rfl rfl rfl rfl rfl ?_ ?_ <;> intro hq <;> try (simp at hq; done))
      | (refine WO.tail rfl rfl rfl rfl rfl rfl ?_)
      | (refine WO.add rfl rfl rfl rfl rfl rfl (IntWalk.i64_in _ (by omega)) ?_)
      | (refine WO.sub rfl rfl rfl rfl rfl rfl (IntWalk.i64_in _ (by omega)) ?_)
      | (refine WO.idx rfl rfl rfl rfl rfl rfl (by omega) ?_)
      | refine WO.step rfl rfl (fun _ => rfl) rfl ?_
      | refine WO.stepN rfl rfl (fun _ => rfl) rfl ?_
      | refine WO.skip rfl rfl ?_
      | (refine WO.step rfl rfl (fun _ => rfl) (by simp; omega) ?_)
      | fail)
  · rename_i hc
    have hc : c = 42 := u8_eq.1 hc
    refine WC.condT rfl ?_
    refine WC.regionSeq rfl rfl ?_
    repeat' (first
      | refine WO.nil ?_
      | (refine WO.ints rfl rfl rfl rfl rfl rfl rfl rfl ?_ ?_ <;> intro _ <;> try (rename_i hq; simp at hq; done))
      | (refine WO.ints rfl rfl rfl rfl rfl rfl rfl (intBin_neq _ _ _) ?_ ?_ <;> intro _ <;> try (rename_i hq; simp at hq; done))
      | (refine WO.streq rfl rfl rfl rfl rfl ?_ ?_ <;> intro hq <;> try (simp at hq; done))
      | (refine WO.strne rfl rfl rfl rfl rfl ?_ ?_ <;> intro hq <;> try (simp at hq; done))
      | (refine WO.tail rfl rfl rfl rfl rfl rfl ?_)
      | (refine WO.add rfl rfl rfl rfl rfl rfl (IntWalk.i64_in _ (by omega)) ?_)
      | (refine WO.sub rfl rfl rfl rfl rfl rfl (IntWalk.i64_in _ (by omega)) ?_)
      | (refine WO.idx rfl rfl rfl rfl rfl rfl (by omega) ?_)
      | refine WO.step rfl rfl (fun _ => rfl) rfl ?_
      | refine WO.stepN rfl rfl (fun _ => rfl) rfl ?_
      | refine WO.skip rfl rfl ?_
      | (refine WO.step rfl rfl (fun _ => rfl) (by simp; omega) ?_)
      | (refine WO.callB rfl rfl rfl rfl rfl rfl rfl rfl rfl rfl (i1) rfl rfl ?_ ?_ <;> intro _)
      | fail)
    all_goals refine WC.ret (WC.done rfl (finish_tmp1 rfl rfl) (done_bool ?_))
    all_goals (rename_i h; rw [fitsB_none, hc, h]; rfl)
  · rename_i hc
    have hc : c ≠ 42 := fun h => hc (u8_eq.2 h)
    refine WC.condF rfl (WC.skip ?_)
    refine WC.regionDSeq rfl rfl ?_
    repeat' (first
      | refine WO.nil ?_
      | (refine WO.ints rfl rfl rfl rfl rfl rfl rfl rfl ?_ ?_ <;> intro _ <;> try (rename_i hq; simp at hq; done))
      | (refine WO.ints rfl rfl rfl rfl rfl rfl rfl (intBin_neq _ _ _) ?_ ?_ <;> intro _ <;> try (rename_i hq; simp at hq; done))
      | (refine WO.streq rfl rfl rfl rfl rfl ?_ ?_ <;> intro hq <;> try (simp at hq; done))
      | (refine WO.strne rfl rfl rfl rfl rfl ?_ ?_ <;> intro hq <;> try (simp at hq; done))
      | (refine WO.tail rfl rfl rfl rfl rfl rfl ?_)
      | (refine WO.add rfl rfl rfl rfl rfl rfl (IntWalk.i64_in _ (by omega)) ?_)
      | (refine WO.sub rfl rfl rfl rfl rfl rfl (IntWalk.i64_in _ (by omega)) ?_)
      | (refine WO.idx rfl rfl rfl rfl rfl rfl (by omega) ?_)
      | refine WO.step rfl rfl (fun _ => rfl) rfl ?_
      | refine WO.stepN rfl rfl (fun _ => rfl) rfl ?_
      | refine WO.skip rfl rfl ?_
      | (refine WO.step rfl rfl (fun _ => rfl) (by simp; omega) ?_)
      | fail)
    all_goals refine ⟨by kernel_rfl, ?_⟩
    all_goals refine WC.ret (WC.done rfl (finish_tmp1 rfl rfl) (done_bool ?_))
    all_goals (rw [fitsB_none]; simp [hc])
theorem fits_two (c e : UInt8) (p s : List UInt8) (i1 : Ev prog hints extS 47 [.d (.str p), .d (.str (e :: s))] [] (.d (.bool (fitsB p (e :: s)))) [])
    (i2 : Ev prog hints extS 47 [.d (.str (c :: p)), .d (.str s)] [] (.d (.bool (fitsB (c :: p) s))) []) (i3 : Ev prog hints extS 47 [.d (.str p), .d (.str s)] [] (.d (.bool (fitsB p s))) []) :
    Ev prog hints extS 47 [.d (.str (c :: p)), .d (.str (e :: s))] [] (.d (.bool (fitsB (c :: p) (e :: s)))) [] := by
  refine Ev.body rfl func47 rfl (by kernel_rfl) ?_
  refine WC.regionSeq rfl rfl ?_
  repeat' (first
      | refine WO.nil ?_
      | (refine WO.ints rfl rfl rfl rfl rfl rfl rfl rfl ?_ ?_ <;> intro _ <;> try (rename_i hq; simp at hq; done))
      | (refine WO.ints rfl rfl rfl rfl rfl rfl rfl (intBin_neq _ _ _) ?_ ?_ <;> intro _ <;> try (rename_i hq; simp at hq; done))
      | (refine WO.streq rfl rfl rfl rfl rfl ?_ ?_ <;> intro hq <;> try (simp at hq; done))
      | (refine WO.strne rfl rfl rfl rfl rfl ?_ ?_ <;> intro hq <;> try (simp at hq; done))
      | (refine WO.tail rfl rfl rfl rfl rfl rfl ?_)
      | (refine WO.add rfl rfl rfl rfl rfl rfl (IntWalk.i64_in _ (by omega)) ?_)
      | (refine WO.sub rfl rfl rfl rfl rfl rfl (IntWalk.i64_in _ (by omega)) ?_)
      | (refine WO.idx rfl rfl rfl rfl rfl rfl (by omega) ?_)
      | refine WO.step rfl rfl (fun _ => rfl) rfl ?_
      | refine WO.stepN rfl rfl (fun _ => rfl) rfl ?_
      | refine WO.skip rfl rfl ?_
      | (refine WO.step rfl rfl (fun _ => rfl) (by simp; omega) ?_)
      | fail)
  refine WC.seq (WC.block ?_)
  refine WC.regionSeq rfl rfl ?_
  repeat' (first
      | refine WO.nil ?_
      | (refine WO.ints rfl rfl rfl rfl rfl rfl rfl rfl ?_ ?_ <;> intro _ <;> try (rename_i hq; simp at hq; done))
      | (refine WO.ints rfl rfl rfl rfl rfl rfl rfl (intBin_neq _ _ _) ?_ ?_ <;> intro _ <;> try (rename_i hq; simp at hq; done))
      | (refine WO.streq rfl rfl rfl rfl rfl ?_ ?_ <;> intro hq <;> try (simp at hq; done))
      | (refine WO.strne rfl rfl rfl rfl rfl ?_ ?_ <;> intro hq <;> try (simp at hq; done))
      | (refine WO.tail rfl rfl rfl rfl rfl rfl ?_)
      | (refine WO.add rfl rfl rfl rfl rfl rfl (IntWalk.i64_in _ (by omega)) ?_)
      | (refine WO.sub rfl rfl rfl rfl rfl rfl (IntWalk.i64_in _ (by omega)) ?_)
      | (refine WO.idx rfl rfl rfl rfl rfl rfl (by omega) ?_)
      | refine WO.step rfl rfl (fun _ => rfl) rfl ?_
      | refine WO.stepN rfl rfl (fun _ => rfl) rfl ?_
      | refine WO.skip rfl rfl ?_
      | (refine WO.step rfl rfl (fun _ => rfl) (by simp; omega) ?_)
      | fail)
  refine WC.condF rfl ?_
  refine WC.regionSeq rfl rfl ?_
  refine WO.step rfl rfl (fun _ => rfl) rfl ?_
  refine WO.idx rfl rfl rfl rfl rfl rfl (by simp) ?_
  repeat' (first
      | refine WO.nil ?_
      | (refine WO.ints rfl rfl rfl rfl rfl rfl rfl rfl ?_ ?_ <;> intro _ <;> try (rename_i hq; simp at hq; done))
      | (refine WO.ints rfl rfl rfl rfl rfl rfl rfl (intBin_neq _ _ _) ?_ ?_ <;> intro _ <;> try (rename_i hq; simp at hq; done))
      | (refine WO.streq rfl rfl rfl rfl rfl ?_ ?_ <;> intro hq <;> try (simp at hq; done))
      | (refine WO.strne rfl rfl rfl rfl rfl ?_ ?_ <;> intro hq <;> try (simp at hq; done))
      | (refine WO.tail rfl rfl rfl rfl rfl rfl ?_)
      | (refine WO.add rfl rfl rfl rfl rfl rfl (IntWalk.i64_in _ (by omega)) ?_)
      | (refine WO.sub rfl rfl rfl rfl rfl rfl (IntWalk.i64_in _ (by omega)) ?_)
      | (refine WO.idx rfl rfl rfl rfl rfl rfl (by omega) ?_)
      | refine WO.step rfl rfl (fun _ => rfl) rfl ?_
      | refine WO.stepN rfl rfl (fun _ => rfl) rfl ?_
      | refine WO.skip rfl rfl ?_
      | (refine WO.step rfl rfl (fun _ => rfl) (by simp; omega) ?_)
      | fail)
  · rename_i hc
    have hc : c = 42 := u8_eq.1 hc
    refine WC.condT rfl ?_
    refine WC.regionSeq rfl rfl ?_
    repeat' (first
      | refine WO.nil ?_
      | (refine WO.ints rfl rfl rfl rfl rfl rfl rfl rfl ?_ ?_ <;> intro _ <;> try (rename_i hq; simp at hq; done))
      | (refine WO.ints rfl rfl rfl rfl rfl rfl rfl (intBin_neq _ _ _) ?_ ?_ <;> intro _ <;> try (rename_i hq; simp at hq; done))
      | (refine WO.streq rfl rfl rfl rfl rfl ?_ ?_ <;> intro hq <;> try (simp at hq; done))
      | (refine WO.strne rfl rfl rfl rfl rfl ?_ ?_ <;> intro hq <;> try (simp at hq; done))
      | (refine WO.tail rfl rfl rfl rfl rfl rfl ?_)
      | (refine WO.add rfl rfl rfl rfl rfl rfl (IntWalk.i64_in _ (by omega)) ?_)
      | (refine WO.sub rfl rfl rfl rfl rfl rfl (IntWalk.i64_in _ (by omega)) ?_)
      | (refine WO.idx rfl rfl rfl rfl rfl rfl (by omega) ?_)
      | refine WO.step rfl rfl (fun _ => rfl) rfl ?_
      | refine WO.stepN rfl rfl (fun _ => rfl) rfl ?_
      | refine WO.skip rfl rfl ?_
      | (refine WO.step rfl rfl (fun _ => rfl) (by simp; omega) ?_)
      | (refine WO.callB rfl rfl rfl rfl rfl rfl rfl rfl rfl rfl (i1) rfl rfl ?_ ?_ <;> intro _)
      | (refine WO.callB rfl rfl rfl rfl rfl rfl rfl rfl rfl rfl (i2) rfl rfl ?_ ?_ <;> intro _)
      | fail)
    all_goals refine WC.ret (WC.done rfl (finish_tmp1 rfl rfl) (done_bool ?_))
    all_goals rw [show fitsB (c :: p) (e :: s) = (fitsB p (e :: s) || fitsB (c :: p) s) from by rw [hc, fitsB_star]]
    all_goals first | (rename_i h1 h2; rw [h1, h2]; rfl) | (rename_i h; rw [h]; rfl)
  · rename_i hc
    have hc : c ≠ 42 := fun h => hc (u8_eq.2 h)
    refine WC.condF rfl (WC.skip ?_)
    refine WC.regionDSeq rfl rfl ?_
    repeat' (first
      | refine WO.nil ?_
      | (refine WO.ints rfl rfl rfl rfl rfl rfl rfl rfl ?_ ?_ <;> intro _ <;> try (rename_i hq; simp at hq; done))
      | (refine WO.ints rfl rfl rfl rfl rfl rfl rfl (intBin_neq _ _ _) ?_ ?_ <;> intro _ <;> try (rename_i hq; simp at hq; done))
      | (refine WO.streq rfl rfl rfl rfl rfl ?_ ?_ <;> intro hq <;> try (simp at hq; done))
      | (refine WO.strne rfl rfl rfl rfl rfl ?_ ?_ <;> intro hq <;> try (simp at hq; done))
      | (refine WO.tail rfl rfl rfl rfl rfl rfl ?_)
      | (refine WO.add rfl rfl rfl rfl rfl rfl (IntWalk.i64_in _ (by omega)) ?_)
      | (refine WO.sub rfl rfl rfl rfl rfl rfl (IntWalk.i64_in _ (by omega)) ?_)
      | (refine WO.idx rfl rfl rfl rfl rfl rfl (by omega) ?_)
      | refine WO.step rfl rfl (fun _ => rfl) rfl ?_
      | refine WO.stepN rfl rfl (fun _ => rfl) rfl ?_
      | refine WO.skip rfl rfl ?_
      | (refine WO.step rfl rfl (fun _ => rfl) (by simp; omega) ?_)
      | (refine WO.idx rfl rfl rfl rfl rfl rfl (by simp; done) ?_)
      | (refine WO.callB rfl rfl rfl rfl rfl rfl rfl rfl rfl rfl (i3) rfl rfl ?_ ?_ <;> intro _)
      | fail)
    all_goals refine ⟨by kernel_rfl, ?_⟩
    all_goals refine WC.ret (WC.done rfl (finish_tmp1 rfl rfl) (done_bool ?_))
    all_goals rw [fitsB_byte hc]
    · rename_i h1 h2
      have h1 : c = 63 := u8_eq.1 h1
      rw [h1, h2]; rfl
    · rename_i h1 h2
      rw [h2, Bool.and_false]
    · rename_i h0 h1 h2
      have h1 : c = e := u8_eq.1 h1
      rw [h1, h2]; simp
    · rename_i h0 h1 h2
      rw [h2, Bool.and_false]
    · rename_i h0 h1
      have h0 : c ≠ 63 := fun h => h0 (u8_eq.2 h)
      have h1 : c ≠ e := fun h => h1 (u8_eq.2 h)
      simp [h0, h1]

theorem fits_ev : ∀ (N : Nat) (p s : List UInt8), p.length + s.length ≤ N → Ev prog hints extS 47 [.d (.str p), .d (.str s)] [] (.d (.bool (fitsB p s))) []
  | _, [], s, _ => fits_nil s
  | 0, c :: p, s, h => by simp at h
  | N + 1, c :: p, [], h => fits_one c p (fits_ev N p [] (by simp at h ⊢; omega))
  | N + 1, c :: p, e :: s, h => fits_two c e p s (fits_ev N p (e :: s) (by simp at h ⊢; omega)) (fits_ev N (c :: p) s (by simp at h ⊢; omega)) (fits_ev N p s (by simp at h ⊢; omega))

def matchB (p : List (List UInt8)) (s : Src) : Bool := fitsB (p.getD 0 []) s.net && fitsB (p.getD 1 []) s.sta && fitsB (p.getD 2 []) s.loc && fitsB (p.getD 3 []) s.cha

theorem match_ev (p0 p1 p2 p3 : List UInt8) (s : Src) : Ev prog hints extS 31 [.d (.lst ([p0, p1, p2, p3].map .str)), .d s.pd] [] (.d (.bool (matchB [p0, p1, p2, p3] s))) [] := by
  have e0 := fits_ev _ p0 s.net (Nat.le_refl _)
  have e1 := fits_ev _ p1 s.sta (Nat.le_refl _)
  have e2 := fits_ev _ p2 s.loc (Nat.le_refl _)
  have e3 := fits_ev _ p3 s.cha (Nat.le_refl _)
  refine Ev.body rfl func31 rfl (by kernel_rfl) ?_
  refine WC.regionSeq rfl rfl ?_
  repeat' (first
      | refine WO.nil ?_
      | (refine WO.ints rfl rfl rfl rfl rfl rfl rfl rfl ?_ ?_ <;> intro _ <;> try (rename_i hq; simp at hq; done))
      | (refine WO.ints rfl rfl rfl rfl rfl rfl rfl (intBin_neq _ _ _) ?_ ?_ <;> intro _ <;> try (rename_i hq; simp at hq; done))
      | (refine WO.streq rfl rfl rfl rfl rfl ?_ ?_ <;> intro hq <;> try (simp at hq; done))
      | (refine WO.strne rfl rfl rfl rfl rfl ?_ ?_ <;> intro hq <;> try (simp at hq; done))
      | (refine WO.tail rfl rfl rfl rfl rfl rfl ?_)
      | (refine WO.add rfl rfl rfl rfl rfl rfl (IntWalk.i64_in _ (by omega)) ?_)
      | (refine WO.sub rfl rfl rfl rfl rfl rfl (IntWalk.i64_in _ (by omega)) ?_)
      | (refine WO.idx rfl rfl rfl rfl rfl rfl (by omega) ?_)
      | refine WO.step rfl rfl (fun _ => rfl) rfl ?_
      | refine WO.stepN rfl rfl (fun _ => rfl) rfl ?_
      | refine WO.skip rfl rfl ?_
      | (refine WO.step rfl rfl (fun _ => rfl) (by simp; omega) ?_)
      | fail)
  refine WC.seq (WC.seq ?_)
  refine WC.region rfl rfl ?_
  repeat' (first
      | refine WO.nil ?_
      | (refine WO.ints rfl rfl rfl rfl rfl rfl rfl rfl ?_ ?_ <;> intro _ <;> try (rename_i hq; simp at hq; done))
      | (refine WO.ints rfl rfl rfl rfl rfl rfl rfl (intBin_neq _ _ _) ?_ ?_ <;> intro _ <;> try (rename_i hq; simp at hq; done))
      | (refine WO.streq rfl rfl rfl rfl rfl ?_ ?_ <;> intro hq <;> try (simp at hq; done))
      | (refine WO.strne rfl rfl rfl rfl rfl ?_ ?_ <;> intro hq <;> try (simp at hq; done))
      | (refine WO.tail rfl rfl rfl rfl rfl rfl ?_)
      | (refine WO.add rfl rfl rfl rfl rfl rfl (IntWalk.i64_in _ (by omega)) ?_)
      | (refine WO.sub rfl rfl rfl rfl rfl rfl (IntWalk.i64_in _ (by omega)) ?_)
      | (refine WO.idx rfl rfl rfl rfl rfl rfl (by omega) ?_)
      | refine WO.step rfl rfl (fun _ => rfl) rfl ?_
      | refine WO.stepN rfl rfl (fun _ => rfl) rfl ?_
      | refine WO.skip rfl rfl ?_
      | (refine WO.step rfl rfl (fun _ => rfl) (by simp; omega) ?_)
      | refine WO.call rfl rfl rfl rfl rfl rfl rfl rfl rfl rfl (parts_ev s) rfl rfl rfl rfl ?_
      | fail)
  refine WC.block (WC.loop ?_)
  refine WL.round (WC.regionSeq rfl rfl ?_)
  repeat' (first
      | refine WO.nil ?_
      | (refine WO.ints rfl rfl rfl rfl rfl rfl rfl rfl ?_ ?_ <;> intro _ <;> try (rename_i hq; simp at hq; done))
      | (refine WO.ints rfl rfl rfl rfl rfl rfl rfl (intBin_neq _ _ _) ?_ ?_ <;> intro _ <;> try (rename_i hq; simp at hq; done))
      | (refine WO.streq rfl rfl rfl rfl rfl ?_ ?_ <;> intro hq <;> try (simp at hq; done))
      | (refine WO.strne rfl rfl rfl rfl rfl ?_ ?_ <;> intro hq <;> try (simp at hq; done))
      | (refine WO.tail rfl rfl rfl rfl rfl rfl ?_)
      | (refine WO.add rfl rfl rfl rfl rfl rfl (IntWalk.i64_in _ (by omega)) ?_)
      | (refine WO.sub rfl rfl rfl rfl rfl rfl (IntWalk.i64_in _ (by omega)) ?_)
      | (refine WO.idx rfl rfl rfl rfl rfl rfl (by omega) ?_)
      | refine WO.step rfl rfl (fun _ => rfl) rfl ?_
      | refine WO.stepN rfl rfl (fun _ => rfl) rfl ?_
      | refine WO.skip rfl rfl ?_
      | (refine WO.step rfl rfl (fun _ => rfl) (by simp; omega) ?_)
      | fail)
  refine WC.seq (WC.condT rfl (WC.skip ?_))
  refine WC.seq (WC.block ?_)
  refine WC.regionSeq rfl rfl ?_
  repeat' (first
      | refine WO.nil ?_
      | (refine WO.ints rfl rfl rfl rfl rfl rfl rfl rfl ?_ ?_ <;> intro _ <;> try (rename_i hq; simp at hq; done))
      | (refine WO.ints rfl rfl rfl rfl rfl rfl rfl (intBin_neq _ _ _) ?_ ?_ <;> intro _ <;> try (rename_i hq; simp at hq; done))
      | (refine WO.streq rfl rfl rfl rfl rfl ?_ ?_ <;> intro hq <;> try (simp at hq; done))
      | (refine WO.strne rfl rfl rfl rfl rfl ?_ ?_ <;> intro hq <;> try (simp at hq; done))
      | (refine WO.tail rfl rfl rfl rfl rfl rfl ?_)
      | (refine WO.add rfl rfl rfl rfl rfl rfl (IntWalk.i64_in _ (by omega)) ?_)
      | (refine WO.sub rfl rfl rfl rfl rfl rfl (IntWalk.i64_in _ (by omega)) ?_)
      | (refine WO.idx rfl rfl rfl rfl rfl rfl (by omega) ?_)
      | refine WO.step rfl rfl (fun _ => rfl) rfl ?_
      | refine WO.stepN rfl rfl (fun _ => rfl) rfl ?_
      | refine WO.skip rfl rfl ?_
      | (refine WO.step rfl rfl (fun _ => rfl) (by simp; omega) ?_)
      | fail)
  refine WC.regionSeq rfl rfl ?_
  repeat' (first
      | refine WO.nil ?_
      | (refine WO.ints rfl rfl rfl rfl rfl rfl rfl rfl ?_ ?_ <;> intro _ <;> try (rename_i hq; simp at hq; done))
      | (refine WO.ints rfl rfl rfl rfl rfl rfl rfl (intBin_neq _ _ _) ?_ ?_ <;> intro _ <;> try (rename_i hq; simp at hq; done))
      | (refine WO.streq rfl rfl rfl rfl rfl ?_ ?_ <;> intro hq <;> try (simp at hq; done))
      | (refine WO.strne rfl rfl rfl rfl rfl ?_ ?_ <;> intro hq <;> try (simp at hq; done))
      | (refine WO.tail rfl rfl rfl rfl rfl rfl ?_)
      | (refine WO.add rfl rfl rfl rfl rfl rfl (IntWalk.i64_in _ (by omega)) ?_)
      | (refine WO.sub rfl rfl rfl rfl rfl rfl (IntWalk.i64_in _ (by omega)) ?_)
      | (refine WO.idx rfl rfl rfl rfl rfl rfl (by omega) ?_)
      | refine WO.step rfl rfl (fun _ => rfl) rfl ?_
      | refine WO.stepN rfl rfl (fun _ => rfl) rfl ?_
      | refine WO.skip rfl rfl ?_
      | (refine WO.step rfl rfl (fun _ => rfl) (by simp; omega) ?_)
      | fail)
  repeat' (first
      | refine WO.nil ?_
      | (refine WO.ints rfl rfl rfl rfl rfl rfl rfl rfl ?_ ?_ <;> intro _ <;> try (rename_i hq; simp at hq; done))
      | (refine WO.ints rfl rfl rfl rfl rfl rfl rfl (intBin_neq _ _ _) ?_ ?_ <;> intro _ <;> try (rename_i hq; simp at hq; done))
      | (refine WO.streq rfl rfl rfl rfl rfl ?_ ?_ <;> intro hq <;> try (simp at hq; done))
      | (refine WO.strne rfl rfl rfl rfl rfl ?_ ?_ <;> intro hq <;> try (simp at hq; done))
      | (refine WO.tail rfl rfl rfl rfl rfl rfl ?_)
      | (refine WO.add rfl rfl rfl rfl rfl rfl (IntWalk.i64_in _ (by omega)) ?_)
      | (refine WO.sub rfl rfl rfl rfl rfl rfl (IntWalk.i64_in _ (by omega)) ?_)
      | (refine WO.idx rfl rfl rfl rfl rfl rfl (by omega) ?_)
      | refine WO.step rfl rfl (fun _ => rfl) rfl ?_
      | refine WO.stepN rfl rfl (fun _ => rfl) rfl ?_
      | refine WO.skip rfl rfl ?_
      | (refine WO.step rfl rfl (fun _ => rfl) (by simp; omega) ?_)
      | refine WO.call rfl rfl rfl rfl rfl rfl rfl rfl rfl rfl (e0) rfl rfl rfl rfl ?_
      | fail)
  refine WC.cond rfl ?_ ?_ <;> intro h0
  · refine WC.regionSeq rfl rfl ?_
    repeat' (first
      | refine WO.nil ?_
      | (refine WO.ints rfl rfl rfl rfl rfl rfl rfl rfl ?_ ?_ <;> intro _ <;> try (rename_i hq; simp at hq; done))
      | (refine WO.ints rfl rfl rfl rfl rfl rfl rfl (intBin_neq _ _ _) ?_ ?_ <;> intro _ <;> try (rename_i hq; simp at hq; done))
      | (refine WO.streq rfl rfl rfl rfl rfl ?_ ?_ <;> intro hq <;> try (simp at hq; done))
      | (refine WO.strne rfl rfl rfl rfl rfl ?_ ?_ <;> intro hq <;> try (simp at hq; done))
      | (refine WO.tail rfl rfl rfl rfl rfl rfl ?_)
      | (refine WO.add rfl rfl rfl rfl rfl rfl (IntWalk.i64_in _ (by omega)) ?_)
      | (refine WO.sub rfl rfl rfl rfl rfl rfl (IntWalk.i64_in _ (by omega)) ?_)
      | (refine WO.idx rfl rfl rfl rfl rfl rfl (by omega) ?_)
      | refine WO.step rfl rfl (fun _ => rfl) rfl ?_
      | refine WO.stepN rfl rfl (fun _ => rfl) rfl ?_
      | refine WO.skip rfl rfl ?_
      | (refine WO.step rfl rfl (fun _ => rfl) (by simp; omega) ?_)
      | fail)
    refine WC.ret (WC.done rfl (finish_tmp1 rfl rfl) (done_bool ?_))
    simp only [Bool.not_eq_true'] at h0
    simp [matchB, *]
  refine WC.skip ?_
  refine WC.region rfl rfl ?_
  repeat' (first
      | refine WO.nil ?_
      | (refine WO.ints rfl rfl rfl rfl rfl rfl rfl rfl ?_ ?_ <;> intro _ <;> try (rename_i hq; simp at hq; done))
      | (refine WO.ints rfl rfl rfl rfl rfl rfl rfl (intBin_neq _ _ _) ?_ ?_ <;> intro _ <;> try (rename_i hq; simp at hq; done))
      | (refine WO.streq rfl rfl rfl rfl rfl ?_ ?_ <;> intro hq <;> try (simp at hq; done))
      | (refine WO.strne rfl rfl rfl rfl rfl ?_ ?_ <;> intro hq <;> try (simp at hq; done))
      | (refine WO.tail rfl rfl rfl rfl rfl rfl ?_)
      | (refine WO.add rfl rfl rfl rfl rfl rfl (IntWalk.i64_in _ (by omega)) ?_)
      | (refine WO.sub rfl rfl rfl rfl rfl rfl (IntWalk.i64_in _ (by omega)) ?_)
      | (refine WO.idx rfl rfl rfl rfl rfl rfl (by omega) ?_)
      | refine WO.step rfl rfl (fun _ => rfl) rfl ?_
      | refine WO.stepN rfl rfl (fun _ => rfl) rfl ?_
      | refine WO.skip rfl rfl ?_
      | (refine WO.step rfl rfl (fun _ => rfl) (by simp; omega) ?_)
      | fail)
  refine WL.round (WC.regionSeq rfl rfl ?_)
  repeat' (first
      | refine WO.nil ?_
      | (refine WO.ints rfl rfl rfl rfl rfl rfl rfl rfl ?_ ?_ <;> intro _ <;> try (rename_i hq; simp at hq; done))
      | (refine WO.ints rfl rfl rfl rfl rfl rfl rfl (intBin_neq _ _ _) ?_ ?_ <;> intro _ <;> try (rename_i hq; simp at hq; done))
      | (refine WO.streq rfl rfl rfl rfl rfl ?_ ?_ <;> intro hq <;> try (simp at hq; done))
      | (refine WO.strne rfl rfl rfl rfl rfl ?_ ?_ <;> intro hq <;> try (simp at hq; done))
      | (refine WO.tail rfl rfl rfl rfl rfl rfl ?_)
      | (refine WO.add rfl rfl rfl rfl rfl rfl (IntWalk.i64_in _ (by omega)) ?_)
      | (refine WO.sub rfl rfl rfl rfl rfl rfl (IntWalk.i64_in _ (by omega)) ?_)
      | (refine WO.idx rfl rfl rfl rfl rfl rfl (by omega) ?_)
      | refine WO.step rfl rfl (fun _ => rfl) rfl ?_
      | refine WO.stepN rfl rfl (fun _ => rfl) rfl ?_
      | refine WO.skip rfl rfl ?_
      | (refine WO.step rfl rfl (fun _ => rfl) (by simp; omega) ?_)
      | fail)
  refine WC.seq (WC.condT rfl (WC.skip ?_))
  refine WC.seq (WC.block ?_)
  refine WC.regionSeq rfl rfl ?_
  repeat' (first
      | refine WO.nil ?_
      | (refine WO.ints rfl rfl rfl rfl rfl rfl rfl rfl ?_ ?_ <;> intro _ <;> try (rename_i hq; simp at hq; done))
      | (refine WO.ints rfl rfl rfl rfl rfl rfl rfl (intBin_neq _ _ _) ?_ ?_ <;> intro _ <;> try (rename_i hq; simp at hq; done))
      | (refine WO.streq rfl rfl rfl rfl rfl ?_ ?_ <;> intro hq <;> try (simp at hq; done))
      | (refine WO.strne rfl rfl rfl rfl rfl ?_ ?_ <;> intro hq <;> try (simp at hq; done))
      | (refine WO.tail rfl rfl rfl rfl rfl rfl ?_)
      | (refine WO.add rfl rfl rfl rfl rfl rfl (IntWalk.i64_in _ (by omega)) ?_)
      | (refine WO.sub rfl rfl rfl rfl rfl rfl (IntWalk.i64_in _ (by omega)) ?_)
      | (refine WO.idx rfl rfl rfl rfl rfl rfl (by omega) ?_)
      | refine WO.step rfl rfl (fun _ => rfl) rfl ?_
      | refine WO.stepN rfl rfl (fun _ => rfl) rfl ?_
      | refine WO.skip rfl rfl ?_
      | (refine WO.step rfl rfl (fun _ => rfl) (by simp; omega) ?_)
      | fail)
  refine WC.regionSeq rfl rfl ?_
  repeat' (first
      | refine WO.nil ?_
      | (refine WO.ints rfl rfl rfl rfl rfl rfl rfl rfl ?_ ?_ <;> intro _ <;> try (rename_i hq; simp at hq; done))
      | (refine WO.ints rfl rfl rfl rfl rfl rfl rfl (intBin_neq _ _ _) ?_ ?_ <;> intro _ <;> try (rename_i hq; simp at hq; done))
      | (refine WO.streq rfl rfl rfl rfl rfl ?_ ?_ <;> intro hq <;> try (simp at hq; done))
      | (refine WO.strne rfl rfl rfl rfl rfl ?_ ?_ <;> intro hq <;> try (simp at hq; done))
      | (refine WO.tail rfl rfl rfl rfl rfl rfl ?_)
      | (refine WO.add rfl rfl rfl rfl rfl rfl (IntWalk.i64_in _ (by omega)) ?_)
      | (refine WO.sub rfl rfl rfl rfl rfl rfl (IntWalk.i64_in _ (by omega)) ?_)
      | (refine WO.idx rfl rfl rfl rfl rfl rfl (by omega) ?_)
      | refine WO.step rfl rfl (fun _ => rfl) rfl ?_
      | refine WO.stepN rfl rfl (fun _ => rfl) rfl ?_
      | refine WO.skip rfl rfl ?_
      | (refine WO.step rfl rfl (fun _ => rfl) (by simp; omega) ?_)
      | fail)
  repeat' (first
      | refine WO.nil ?_
      | (refine WO.ints rfl rfl rfl rfl rfl rfl rfl rfl ?_ ?_ <;> intro _ <;> try (rename_i hq; simp at hq; done))
      | (refine WO.ints rfl rfl rfl rfl rfl rfl rfl (intBin_neq _ _ _) ?_ ?_ <;> intro _ <;> try (rename_i hq; simp at hq; done))
      | (refine WO.streq rfl rfl rfl rfl rfl ?_ ?_ <;> intro hq <;> try (simp at hq; done))
      | (refine WO.strne rfl rfl rfl rfl rfl ?_ ?_ <;> intro hq <;> try (simp at hq; done))
      | (refine WO.tail rfl rfl rfl rfl rfl rfl ?_)
      | (refine WO.add rfl rfl rfl rfl rfl rfl (IntWalk.i64_in _ (by omega)) ?_)
      | (refine WO.sub rfl rfl rfl rfl rfl rfl (IntWalk.i64_in _ (by omega)) ?_)
      | (refine WO.idx rfl rfl rfl rfl rfl rfl (by omega) ?_)
      | refine WO.step rfl rfl (fun _ => rfl) rfl ?_
      | refine WO.stepN rfl rfl (fun _ => rfl) rfl ?_
      | refine WO.skip rfl rfl ?_
      | (refine WO.step rfl rfl (fun _ => rfl) (by simp; omega) ?_)
      | refine WO.call rfl rfl rfl rfl rfl rfl rfl rfl rfl rfl (e1) rfl rfl rfl rfl ?_
      | fail)
  refine WC.cond rfl ?_ ?_ <;> intro h1
  · refine WC.regionSeq rfl rfl ?_
    repeat' (first
      | refine WO.nil ?_
      | (refine WO.ints rfl rfl rfl rfl rfl rfl rfl rfl ?_ ?_ <;> intro _ <;> try (rename_i hq; simp at hq; done))
      | (refine WO.ints rfl rfl rfl rfl rfl rfl rfl (intBin_neq _ _ _) ?_ ?_ <;> intro _ <;> try (rename_i hq; simp at hq; done))
      | (refine WO.streq rfl rfl rfl rfl rfl ?_ ?_ <;> intro hq <;> try (simp at hq; done))
      | (refine WO.strne rfl rfl rfl rfl rfl ?_ ?_ <;> intro hq <;> try (simp at hq; done))
      | (refine WO.tail rfl rfl rfl rfl rfl rfl ?_)
      | (refine WO.add rfl rfl rfl rfl rfl rfl (IntWalk.i64_in _ (by omega)) ?_)
      | (refine WO.sub rfl rfl rfl rfl rfl rfl (IntWalk.i64_in _ (by omega)) ?_)
      | (refine WO.idx rfl rfl rfl rfl rfl rfl (by omega) ?_)
      | refine WO.step rfl rfl (fun _ => rfl) rfl ?_
      | refine WO.stepN rfl rfl (fun _ => rfl) rfl ?_
      | refine WO.skip rfl rfl ?_
      | (refine WO.step rfl rfl (fun _ => rfl) (by simp; omega) ?_)
      | fail)
    refine WC.ret (WC.done rfl (finish_tmp1 rfl rfl) (done_bool ?_))
    simp only [Bool.not_eq_true'] at h1
    simp [matchB, *]
  refine WC.skip ?_
  refine WC.region rfl rfl ?_
  repeat' (first
      | refine WO.nil ?_
      | (refine WO.ints rfl rfl rfl rfl rfl rfl rfl rfl ?_ ?_ <;> intro _ <;> try (rename_i hq; simp at hq; done))
      | (refine WO.ints rfl rfl rfl rfl rfl rfl rfl (intBin_neq _ _ _) ?_ ?_ <;> intro _ <;> try (rename_i hq; simp at hq; done))
      | (refine WO.streq rfl rfl rfl rfl rfl ?_ ?_ <;> intro hq <;> try (simp at hq; done))
      | (refine WO.strne rfl rfl rfl rfl rfl ?_ ?_ <;> intro hq <;> try (simp at hq; done))
      | (refine WO.tail rfl rfl rfl rfl rfl rfl ?_)
      | (refine WO.add rfl rfl rfl rfl rfl rfl (IntWalk.i64_in _ (by omega)) ?_)
      | (refine WO.sub rfl rfl rfl rfl rfl rfl (IntWalk.i64_in _ (by omega)) ?_)
      | (refine WO.idx rfl rfl rfl rfl rfl rfl (by omega) ?_)
      | refine WO.step rfl rfl (fun _ => rfl) rfl ?_
      | refine WO.stepN rfl rfl (fun _ => rfl) rfl ?_
      | refine WO.skip rfl rfl ?_
      | (refine WO.step rfl rfl (fun _ => rfl) (by simp; omega) ?_)
      | fail)
  refine WL.round (WC.regionSeq rfl rfl ?_)
  repeat' (first
      | refine WO.nil ?_
      | (refine WO.ints rfl rfl rfl rfl rfl rfl rfl rfl ?_ ?_ <;> intro _ <;> try (rename_i hq; simp at hq; done))
      | (refine WO.ints rfl rfl rfl rfl rfl rfl rfl (intBin_neq _ _ _) ?_ ?_ <;> intro _ <;> try (rename_i hq; simp at hq; done))
      | (refine WO.streq rfl rfl rfl rfl rfl ?_ ?_ <;> intro hq <;> try (simp at hq; done))
      | (refine WO.strne rfl rfl rfl rfl rfl ?_ ?_ <;> intro hq <;> try (simp at hq; done))
      | (refine WO.tail rfl rfl rfl rfl rfl rfl ?_)
      | (refine WO.add rfl rfl rfl rfl rfl rfl (IntWalk.i64_in _ (by omega)) ?_)
      | (refine WO.sub rfl rfl rfl rfl rfl rfl (IntWalk.i64_in _ (by omega)) ?_)
      | (refine WO.idx rfl rfl rfl rfl rfl rfl (by omega) ?_)
      | refine WO.step rfl rfl (fun _ => rfl) rfl ?_
      | refine WO.stepN rfl rfl (fun _ => rfl) rfl ?_
      | refine WO.skip rfl rfl ?_
      | (refine WO.step rfl rfl (fun _ => rfl) (by simp; omega) ?_)
      | fail)
  refine WC.seq (WC.condT rfl (WC.skip ?_))
  refine WC.seq (WC.block ?_)
  refine WC.regionSeq rfl rfl ?_
  repeat' (first
      | refine WO.nil ?_
      | (refine WO.ints rfl rfl rfl rfl rfl rfl rfl rfl ?_ ?_ <;> intro _ <;> try (rename_i hq; simp at hq; done))
      | (refine WO.ints rfl rfl rfl rfl rfl rfl rfl (intBin_neq _ _ _) ?_ ?_ <;> intro _ <;> try (rename_i hq; simp at hq; done))
      | (refine WO.streq rfl rfl rfl rfl rfl ?_ ?_ <;> intro hq <;> try (simp at hq; done))
      | (refine WO.strne rfl rfl rfl rfl rfl ?_ ?_ <;> intro hq <;> try (simp at hq; done))
      | (refine WO.tail rfl rfl rfl rfl rfl rfl ?_)
      | (refine WO.add rfl rfl rfl rfl rfl rfl (IntWalk.i64_in _ (by omega)) ?_)
      | (refine WO.sub rfl rfl rfl rfl rfl rfl (IntWalk.i64_in _ (by omega)) ?_)
      | (refine WO.idx rfl rfl rfl rfl rfl rfl (by omega) ?_)
      | refine WO.step rfl rfl (fun _ => rfl) rfl ?_
      | refine WO.stepN rfl rfl (fun _ => rfl) rfl ?_
      | refine WO.skip rfl rfl ?_
      | (refine WO.step rfl rfl (fun _ => rfl) (by simp; omega) ?_)
      | fail)
  refine WC.regionSeq rfl rfl ?_
  repeat' (first
      | refine WO.nil ?_
      | (refine WO.ints rfl rfl rfl rfl rfl rfl rfl rfl ?_ ?_ <;> intro _ <;> try (rename_i hq; simp at hq; done))
      | (refine WO.ints rfl rfl rfl rfl rfl rfl rfl (intBin_neq _ _ _) ?_ ?_ <;> intro _ <;> try (rename_i hq; simp at hq; done))
      | (refine WO.streq rfl rfl rfl rfl rfl ?_ ?_ <;> intro hq <;> try (simp at hq; done))
      | (refine WO.strne rfl rfl rfl rfl rfl ?_ ?_ <;> intro hq <;> try (simp at hq; done))
      | (refine WO.tail rfl rfl rfl rfl rfl rfl ?_)
      | (refine WO.add rfl rfl rfl rfl rfl rfl (IntWalk.i64_in _ (by omega)) ?_)
      | (refine WO.sub rfl rfl rfl rfl rfl rfl (IntWalk.i64_in _ (by omega)) ?_)
      | (refine WO.idx rfl rfl rfl rfl rfl rfl (by omega) ?_)
      | refine WO.step rfl rfl (fun _ => rfl) rfl ?_
      | refine WO.stepN rfl rfl (fun _ => rfl) rfl ?_
      | refine WO.skip rfl rfl ?_
      | (refine WO.step rfl rfl (fun _ => rfl) (by simp; omega) ?_)
      | fail)
  repeat' (first
      | refine WO.nil ?_
      | (refine WO.ints rfl rfl rfl rfl rfl rfl rfl rfl ?_ ?_ <;> intro _ <;> try (rename_i hq; simp at hq; done))
      | (refine WO.ints rfl rfl rfl rfl rfl rfl rfl (intBin_neq _ _ _) ?_ ?_ <;> intro _ <;> try (rename_i hq; simp at hq; done))
      | (refine WO.streq rfl rfl rfl rfl rfl ?_ ?_ <;> intro hq <;> try (simp at hq; done))
      | (refine WO.strne rfl rfl rfl rfl rfl ?_ ?_ <;> intro hq <;> try (simp at hq; done))
      | (refine WO.tail rfl rfl rfl rfl rfl rfl ?_)
      | (refine WO.add rfl rfl rfl rfl rfl rfl (IntWalk.i64_in _ (by omega)) ?_)
      | (refine WO.sub rfl rfl rfl rfl rfl rfl (IntWalk.i64_in _ (by omega)) ?_)
      | (refine WO.idx rfl rfl rfl rfl rfl rfl (by omega) ?_)
      | refine WO.step rfl rfl (fun _ => rfl) rfl ?_
      | refine WO.stepN rfl rfl (fun _ => rfl) rfl ?_
      | refine WO.skip rfl rfl ?_
      | (refine WO.step rfl rfl (fun _ => rfl) (by simp; omega) ?_)
      | refine WO.call rfl rfl rfl rfl rfl rfl rfl rfl rfl rfl (e2) rfl rfl rfl rfl ?_
      | fail)
  refine WC.cond rfl ?_ ?_ <;> intro h2
  · refine WC.regionSeq rfl rfl ?_
    repeat' (first
      | refine WO.nil ?_
      | (refine WO.ints rfl rfl rfl rfl rfl rfl rfl rfl ?_ ?_ <;> intro _ <;> try (rename_i hq; simp at hq; done))
      | (refine WO.ints rfl rfl rfl rfl rfl rfl rfl (intBin_neq _ _ _) ?_ ?_ <;> intro _ <;> try (rename_i hq; simp at hq; done))
      | (refine WO.streq rfl rfl rfl rfl rfl ?_ ?_ <;> intro hq <;> try (simp at hq; done))
      | (refine WO.strne rfl rfl rfl rfl rfl ?_ ?_ <;> intro hq <;> try (simp at hq; done))
      | (refine WO.tail rfl rfl rfl rfl rfl rfl ?_)
      | (refine WO.add rfl rfl rfl rfl rfl rfl (IntWalk.i64_in _ (by omega)) ?_)
      | (refine WO.sub rfl rfl rfl rfl rfl rfl (IntWalk.i64_in _ (by omega)) ?_)
      | (refine WO.idx rfl rfl rfl rfl rfl rfl (by omega) ?_)
      | refine WO.step rfl rfl (fun _ => rfl) rfl ?_
      | refine WO.stepN rfl rfl (fun _ => rfl) rfl ?_
      | refine WO.skip rfl rfl ?_
      | (refine WO.step rfl rfl (fun _ => rfl) (by simp; omega) ?_)
      | fail)
    refine WC.ret (WC.done rfl (finish_tmp1 rfl rfl) (done_bool ?_))
    simp only [Bool.not_eq_true'] at h2
    simp [matchB, *]
  refine WC.skip ?_
  refine WC.region rfl rfl ?_
  repeat' (first
      | refine WO.nil ?_
      | (refine WO.ints rfl rfl rfl rfl rfl rfl rfl rfl ?_ ?_ <;> intro _ <;> try (rename_i hq; simp at hq; done))
      | (refine WO.ints rfl rfl rfl rfl rfl rfl rfl (intBin_neq _ _ _) ?_ ?_ <;> intro _ <;> try (rename_i hq; simp at hq; done))
      | (refine WO.streq rfl rfl rfl rfl rfl ?_ ?_ <;> intro hq <;> try (simp at hq; done))
      | (refine WO.strne rfl rfl rfl rfl rfl ?_ ?_ <;> intro hq <;> try (simp at hq; done))
      | (refine WO.tail rfl rfl rfl rfl rfl rfl ?_)
      | (refine WO.add rfl rfl rfl rfl rfl rfl (IntWalk.i64_in _ (by omega)) ?_)
      | (refine WO.sub rfl rfl rfl rfl rfl rfl (IntWalk.i64_in _ (by omega)) ?_)
      | (refine WO.idx rfl rfl rfl rfl rfl rfl (by omega) ?_)
      | refine WO.step rfl rfl (fun _ => rfl) rfl ?_
      | refine WO.stepN rfl rfl (fun _ => rfl) rfl ?_
      | refine WO.skip rfl rfl ?_
      | (refine WO.step rfl rfl (fun _ => rfl) (by simp; omega) ?_)
      | fail)
  refine WL.round (WC.regionSeq rfl rfl ?_)
  repeat' (first
      | refine WO.nil ?_
      | (refine WO.ints rfl rfl rfl rfl rfl rfl rfl rfl ?_ ?_ <;> intro _ <;> try (rename_i hq; simp at hq; done))
      | (refine WO.ints rfl rfl rfl rfl rfl rfl rfl (intBin_neq _ _ _) ?_ ?_ <;> intro _ <;> try (rename_i hq; simp at hq; done))
      | (refine WO.streq rfl rfl rfl rfl rfl ?_ ?_ <;> intro hq <;> try (simp at hq; done))
      | (refine WO.strne rfl rfl rfl rfl rfl ?_ ?_ <;> intro hq <;> try (simp at hq; done))
      | (refine WO.tail rfl rfl rfl rfl rfl rfl ?_)
      | (refine WO.add rfl rfl rfl rfl rfl rfl (IntWalk.i64_in _ (by omega)) ?_)
      | (refine WO.sub rfl rfl rfl rfl rfl rfl (IntWalk.i64_in _ (by omega)) ?_)
      | (refine WO.idx rfl rfl rfl rfl rfl rfl (by omega) ?_)
      | refine WO.step rfl rfl (fun _ => rfl) rfl ?_
      | refine WO.stepN rfl rfl (fun _ => rfl) rfl ?_
      | refine WO.skip rfl rfl ?_
      | (refine WO.step rfl rfl (fun _ => rfl) (by simp; omega) ?_)
      | fail)
  refine WC.seq (WC.condT rfl (WC.skip ?_))
  refine WC.seq (WC.block ?_)
  refine WC.regionSeq rfl rfl ?_
  repeat' (first
      | refine WO.nil ?_
      | (refine WO.ints rfl rfl rfl rfl rfl rfl rfl rfl ?_ ?_ <;> intro _ <;> try (rename_i hq; simp at hq; done))
      | (refine WO.ints rfl rfl rfl rfl rfl rfl rfl (intBin_neq _ _ _) ?_ ?_ <;> intro _ <;> try (rename_i hq; simp at hq; done))
      | (refine WO.streq rfl rfl rfl rfl rfl ?_ ?_ <;> intro hq <;> try (simp at hq; done))
      | (refine WO.strne rfl rfl rfl rfl rfl ?_ ?_ <;> intro hq <;> try (simp at hq; done))
      | (refine WO.tail rfl rfl rfl rfl rfl rfl ?_)
      | (refine WO.add rfl rfl rfl rfl rfl rfl (IntWalk.i64_in _ (by omega)) ?_)
      | (refine WO.sub rfl rfl rfl rfl rfl rfl (IntWalk.i64_in _ (by omega)) ?_)
      | (refine WO.idx rfl rfl rfl rfl rfl rfl (by omega) ?_)
      | refine WO.step rfl rfl (fun _ => rfl) rfl ?_
      | refine WO.stepN rfl rfl (fun _ => rfl) rfl ?_
      | refine WO.skip rfl rfl ?_
      | (refine WO.step rfl rfl (fun _ => rfl) (by simp; omega) ?_)
      | fail)
  refine WC.regionSeq rfl rfl ?_
  repeat' (first
      | refine WO.nil ?_
      | (refine WO.ints rfl rfl rfl rfl rfl rfl rfl rfl ?_ ?_ <;> intro _ <;> try (rename_i hq; simp at hq; done))
      | (refine WO.ints rfl rfl rfl rfl rfl rfl rfl (intBin_neq _ _ _) ?_ ?_ <;> intro _ <;> try (rename_i hq; simp at hq; done))
      | (refine WO.streq rfl rfl rfl rfl rfl ?_ ?_ <;> intro hq <;> try (simp at hq; done))
      | (refine WO.strne rfl rfl rfl rfl rfl ?_ ?_ <;> intro hq <;> try (simp at hq; done))
      | (refine WO.tail rfl rfl rfl rfl rfl rfl ?_)
      | (refine WO.add rfl rfl rfl rfl rfl rfl (IntWalk.i64_in _ (by omega)) ?_)
      | (refine WO.sub rfl rfl rfl rfl rfl rfl (IntWalk.i64_in _ (by omega)) ?_)
      | (refine WO.idx rfl rfl rfl rfl rfl rfl (by omega) ?_)
      | refine WO.step rfl rfl (fun _ => rfl) rfl ?_
      | refine WO.stepN rfl rfl (fun _ => rfl) rfl ?_
      | refine WO.skip rfl rfl ?_
      | (refine WO.step rfl rfl (fun _ => rfl) (by simp; omega) ?_)
      | fail)
  repeat' (first
      | refine WO.nil ?_
      | (refine WO.ints rfl rfl rfl rfl rfl rfl rfl rfl ?_ ?_ <;> intro _ <;> try (rename_i hq; simp at hq; done))
      | (refine WO.ints rfl rfl rfl rfl rfl rfl rfl (intBin_neq _ _ _) ?_ ?_ <;> intro _ <;> try (rename_i hq; simp at hq; done))
      | (refine WO.streq rfl rfl rfl rfl rfl ?_ ?_ <;> intro hq <;> try (simp at hq; done))
      | (refine WO.strne rfl rfl rfl rfl rfl ?_ ?_ <;> intro hq <;> try (simp at hq; done))
      | (refine WO.tail rfl rfl rfl rfl rfl rfl ?_)
      | (refine WO.add rfl rfl rfl rfl rfl rfl (IntWalk.i64_in _ (by omega)) ?_)
      | (refine WO.sub rfl rfl rfl rfl rfl rfl (IntWalk.i64_in _ (by omega)) ?_)
      | (refine WO.idx rfl rfl rfl rfl rfl rfl (by omega) ?_)
      | refine WO.step rfl rfl (fun _ => rfl) rfl ?_
      | refine WO.stepN rfl rfl (fun _ => rfl) rfl ?_
      | refine WO.skip rfl rfl ?_
      | (refine WO.step rfl rfl (fun _ => rfl) (by simp; omega) ?_)
      | refine WO.call rfl rfl rfl rfl rfl rfl rfl rfl rfl rfl (e3) rfl rfl rfl rfl ?_
      | fail)
  refine WC.cond rfl ?_ ?_ <;> intro h3
  · refine WC.regionSeq rfl rfl ?_
    repeat' (first
      | refine WO.nil ?_
      | (refine WO.ints rfl rfl rfl rfl rfl rfl rfl rfl ?_ ?_ <;> intro _ <;> try (rename_i hq; simp at hq; done))
      | (refine WO.ints rfl rfl rfl rfl rfl rfl rfl (intBin_neq _ _ _) ?_ ?_ <;> intro _ <;> try (rename_i hq; simp at hq; done))
      | (refine WO.streq rfl rfl rfl rfl rfl ?_ ?_ <;> intro hq <;> try (simp at hq; done))
      | (refine WO.strne rfl rfl rfl rfl rfl ?_ ?_ <;> intro hq <;> try (simp at hq; done))
      | (refine WO.tail rfl rfl rfl rfl rfl rfl ?_)
      | (refine WO.add rfl rfl rfl rfl rfl rfl (IntWalk.i64_in _ (by omega)) ?_)
      | (refine WO.sub rfl rfl rfl rfl rfl rfl (IntWalk.i64_in _ (by omega)) ?_)
      | (refine WO.idx rfl rfl rfl rfl rfl rfl (by omega) ?_)
      | refine WO.step rfl rfl (fun _ => rfl) rfl ?_
      | refine WO.stepN rfl rfl (fun _ => rfl) rfl ?_
      | refine WO.skip rfl rfl ?_
      | (refine WO.step rfl rfl (fun _ => rfl) (by simp; omega) ?_)
      | fail)
    refine WC.ret (WC.done rfl (finish_tmp1 rfl rfl) (done_bool ?_))
    simp only [Bool.not_eq_true'] at h3
    simp [matchB, *]
  refine WC.skip ?_
  refine WC.region rfl rfl ?_
  repeat' (first
      | refine WO.nil ?_
      | (refine WO.ints rfl rfl rfl rfl rfl rfl rfl rfl ?_ ?_ <;> intro _ <;> try (rename_i hq; simp at hq; done))
      | (refine WO.ints rfl rfl rfl rfl rfl rfl rfl (intBin_neq _ _ _) ?_ ?_ <;> intro _ <;> try (rename_i hq; simp at hq; done))
      | (refine WO.streq rfl rfl rfl rfl rfl ?_ ?_ <;> intro hq <;> try (simp at hq; done))
      | (refine WO.strne rfl rfl rfl rfl rfl ?_ ?_ <;> intro hq <;> try (simp at hq; done))
      | (refine WO.tail rfl rfl rfl rfl rfl rfl ?_)
      | (refine WO.add rfl rfl rfl rfl rfl rfl (IntWalk.i64_in _ (by omega)) ?_)
      | (refine WO.sub rfl rfl rfl rfl rfl rfl (IntWalk.i64_in _ (by omega)) ?_)
      | (refine WO.idx rfl rfl rfl rfl rfl rfl (by omega) ?_)
      | refine WO.step rfl rfl (fun _ => rfl) rfl ?_
      | refine WO.stepN rfl rfl (fun _ => rfl) rfl ?_
      | refine WO.skip rfl rfl ?_
      | (refine WO.step rfl rfl (fun _ => rfl) (by simp; omega) ?_)
      | fail)
  refine WL.round (WC.regionSeq rfl rfl ?_)
  repeat' (first
      | refine WO.nil ?_
      | (refine WO.ints rfl rfl rfl rfl rfl rfl rfl rfl ?_ ?_ <;> intro _ <;> try (rename_i hq; simp at hq; done))
      | (refine WO.ints rfl rfl rfl rfl rfl rfl rfl (intBin_neq _ _ _) ?_ ?_ <;> intro _ <;> try (rename_i hq; simp at hq; done))
      | (refine WO.streq rfl rfl rfl rfl rfl ?_ ?_ <;> intro hq <;> try (simp at hq; done))
      | (refine WO.strne rfl rfl rfl rfl rfl ?_ ?_ <;> intro hq <;> try (simp at hq; done))
      | (refine WO.tail rfl rfl rfl rfl rfl rfl ?_)
      | (refine WO.add rfl rfl rfl rfl rfl rfl (IntWalk.i64_in _ (by omega)) ?_)
      | (refine WO.sub rfl rfl rfl rfl rfl rfl (IntWalk.i64_in _ (by omega)) ?_)
      | (refine WO.idx rfl rfl rfl rfl rfl rfl (by omega) ?_)
      | refine WO.step rfl rfl (fun _ => rfl) rfl ?_
      | refine WO.stepN rfl rfl (fun _ => rfl) rfl ?_
      | refine WO.skip rfl rfl ?_
      | (refine WO.step rfl rfl (fun _ => rfl) (by simp; omega) ?_)
      | fail)
  refine WC.seq (WC.condF rfl (WC.exit ⟨fun _ => ?_, fun h => (h rfl).elim⟩))
  refine WC.regionSeq rfl rfl ?_
  repeat' (first
      | refine WO.nil ?_
      | (refine WO.ints rfl rfl rfl rfl rfl rfl rfl rfl ?_ ?_ <;> intro _ <;> try (rename_i hq; simp at hq; done))
      | (refine WO.ints rfl rfl rfl rfl rfl rfl rfl (intBin_neq _ _ _) ?_ ?_ <;> intro _ <;> try (rename_i hq; simp at hq; done))
      | (refine WO.streq rfl rfl rfl rfl rfl ?_ ?_ <;> intro hq <;> try (simp at hq; done))
      | (refine WO.strne rfl rfl rfl rfl rfl ?_ ?_ <;> intro hq <;> try (simp at hq; done))
      | (refine WO.tail rfl rfl rfl rfl rfl rfl ?_)
      | (refine WO.add rfl rfl rfl rfl rfl rfl (IntWalk.i64_in _ (by omega)) ?_)
      | (refine WO.sub rfl rfl rfl rfl rfl rfl (IntWalk.i64_in _ (by omega)) ?_)
      | (refine WO.idx rfl rfl rfl rfl rfl rfl (by omega) ?_)
      | refine WO.step rfl rfl (fun _ => rfl) rfl ?_
      | refine WO.stepN rfl rfl (fun _ => rfl) rfl ?_
      | refine WO.skip rfl rfl ?_
      | (refine WO.step rfl rfl (fun _ => rfl) (by simp; omega) ?_)
      | fail)
  refine WC.ret (WC.done rfl (finish_tmp1 rfl rfl) (done_bool ?_))
  simp only [Bool.not_eq_false'] at h0 h1 h2 h3
  simp [matchB, *]
end Go.Ds.Sp
