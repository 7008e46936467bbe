/- TryE: Select. -/
import Derived.Test.YtjlbpchimjjcpaaDoorTryD
set_option maxRecDepth 100000
set_option maxHeartbeats 4000000
namespace Go.Ds.Sp
open Go.Proofs Go.Proofs.Tryd

theorem map_pd_get (xs : List Src) (k : Nat) (h : k < xs.length) : (xs.map Src.pd)[k]? = some (.agg [.str (xs[k]).net, .str (xs[k]).sta, .str (xs[k]).loc, .str (xs[k]).cha]) := by simp [h, Src.pd]
theorem take_filter (f : Src → Bool) (xs : List Src) (i : Int) (h0 : 0 ≤ i) (h : i.toNat < xs.length) : ((xs.take (i + 1).toNat).filter f) = (xs.take i.toNat).filter f ++ (if f xs[i.toNat] then [xs[i.toNat]] else []) := by
  have e : (i + 1).toNat = i.toNat + 1 := by omega
  rw [e, List.take_succ_eq_append_getElem h, List.filter_append]
  congr 1
  by_cases hf : f xs[i.toNat] <;> simp [hf]

theorem Select_ev (s : List UInt8) (xs : List Src) (hs : s.length ≤ 2 ^ 30) (hx : ∀ x ∈ xs, x.small) (hn : xs.length ≤ 2 ^ 30) (hok : (splitL 46 s).all partOk = true) (h4 : (splitL 46 s).length = 4) :
    Ev prog hints extS 13 [.d (.str s), .d (.lst (xs.map Src.pd))] [] (.tup [.fresh 28 ((xs.filter fun x => validB x && matchB (splitL 46 s) x).map Src.pd), .d (.int .i64 0)]) [] := by
  have hp := pattern_ev s hs
  unfold patV at hp
  rw [hok, if_pos rfl] at hp
  obtain ⟨a, b, c, d, hl⟩ := four h4
  rw [hl] at hp ⊢
  have hm := fun x => match_ev a b c d x
  have hlm : (xs.map Src.pd).length = xs.length := by simp
  generalize hf : (fun x => validB x && matchB [a, b, c, d] x) = f
  have hf : ∀ x, f x = (validB x && matchB [a, b, c, d] x) := fun x => by rw [← hf]
  refine Ev.body rfl func13 rfl (by kernel_rfl) ?_
  refine WC.regionSeq rfl rfl ?_
  repeat' (first
      | refine WO.nil ?_
      | (refine WO.ints rfl rfl rfl rfl rfl rfl rfl rfl ?_ ?_ <;> intro _ <;> try (rename_i hq; simp at hq; done))
      | (refine WO.ints rfl rfl rfl rfl rfl rfl rfl (intBin_neq _ _ _) ?_ ?_ <;> intro _ <;> try (rename_i hq; simp at hq; done))
      | (refine WO.streq rfl rfl rfl rfl rfl ?_ ?_ <;> intro hq <;> try (simp at hq; done))
      | (refine WO.strne rfl rfl rfl rfl rfl ?_ ?_ <;> intro hq <;> try (simp at hq; done))
      | (refine WO.tail rfl rfl rfl rfl rfl rfl ?_)
      | (refine WO.add rfl rfl rfl rfl rfl rfl (IntWalk.i64_in _ (by omega)) ?_)
      | (refine WO.sub rfl rfl rfl rfl rfl rfl (IntWalk.i64_in _ (by omega)) ?_)
      | (refine WO.idx rfl rfl rfl rfl rfl rfl (by omega) ?_)
      | refine WO.step rfl rfl (fun _ => rfl) rfl ?_
      | refine WO.stepN rfl rfl (fun _ => rfl) rfl ?_
      | refine WO.skip rfl rfl ?_
      | (refine WO.step rfl rfl (fun _ => rfl) (by simp; omega) ?_)
      | fail)
  refine WC.regionSeq rfl rfl ?_
  repeat' (first
      | refine WO.nil ?_
      | (refine WO.ints rfl rfl rfl rfl rfl rfl rfl rfl ?_ ?_ <;> intro _ <;> try (rename_i hq; simp at hq; done))
      | (refine WO.ints rfl rfl rfl rfl rfl rfl rfl (intBin_neq _ _ _) ?_ ?_ <;> intro _ <;> try (rename_i hq; simp at hq; done))
      | (refine WO.streq rfl rfl rfl rfl rfl ?_ ?_ <;> intro hq <;> try (simp at hq; done))
      | (refine WO.strne rfl rfl rfl rfl rfl ?_ ?_ <;> intro hq <;> try (simp at hq; done))
      | (refine WO.tail rfl rfl rfl rfl rfl rfl ?_)
      | (refine WO.add rfl rfl rfl rfl rfl rfl (IntWalk.i64_in _ (by omega)) ?_)
      | (refine WO.sub rfl rfl rfl rfl rfl rfl (IntWalk.i64_in _ (by omega)) ?_)
      | (refine WO.idx rfl rfl rfl rfl rfl rfl (by omega) ?_)
      | refine WO.step rfl rfl (fun _ => rfl) rfl ?_
      | refine WO.stepN rfl rfl (fun _ => rfl) rfl ?_
      | refine WO.skip rfl rfl ?_
      | (refine WO.step rfl rfl (fun _ => rfl) (by simp; omega) ?_)
      | refine WO.call rfl rfl rfl rfl rfl rfl rfl rfl rfl rfl (hp) rfl rfl rfl rfl ?_
      | fail)
  refine WC.seq ?_
  refine WC.regionSeq rfl rfl ?_
  repeat' (first
      | refine WO.nil ?_
      | (refine WO.ints rfl rfl rfl rfl rfl rfl rfl rfl ?_ ?_ <;> intro _ <;> try (rename_i hq; simp at hq; done))
      | (refine WO.ints rfl rfl rfl rfl rfl rfl rfl (intBin_neq _ _ _) ?_ ?_ <;> intro _ <;> try (rename_i hq; simp at hq; done))
      | (refine WO.streq rfl rfl rfl rfl rfl ?_ ?_ <;> intro hq <;> try (simp at hq; done))
      | (refine WO.strne rfl rfl rfl rfl rfl ?_ ?_ <;> intro hq <;> try (simp at hq; done))
      | (refine WO.tail rfl rfl rfl rfl rfl rfl ?_)
      | (refine WO.add rfl rfl rfl rfl rfl rfl (IntWalk.i64_in _ (by omega)) ?_)
      | (refine WO.sub rfl rfl rfl rfl rfl rfl (IntWalk.i64_in _ (by omega)) ?_)
      | (refine WO.idx rfl rfl rfl rfl rfl rfl (by omega) ?_)
      | refine WO.step rfl rfl (fun _ => rfl) rfl ?_
      | refine WO.stepN rfl rfl (fun _ => rfl) rfl ?_
      | refine WO.skip rfl rfl ?_
      | (refine WO.step rfl rfl (fun _ => rfl) (by simp; omega) ?_)
      | fail)
  refine WC.condF rfl (WC.skip ?_)
  refine WC.regionSeq rfl rfl ?_
  repeat' (first
      | refine WO.nil ?_
      | (refine WO.ints rfl rfl rfl rfl rfl rfl rfl rfl ?_ ?_ <;> intro _ <;> try (rename_i hq; simp at hq; done))
      | (refine WO.ints rfl rfl rfl rfl rfl rfl rfl (intBin_neq _ _ _) ?_ ?_ <;> intro _ <;> try (rename_i hq; simp at hq; done))
      | (refine WO.streq rfl rfl rfl rfl rfl ?_ ?_ <;> intro hq <;> try (simp at hq; done))
      | (refine WO.strne rfl rfl rfl rfl rfl ?_ ?_ <;> intro hq <;> try (simp at hq; done))
      | (refine WO.tail rfl rfl rfl rfl rfl rfl ?_)
      | (refine WO.add rfl rfl rfl rfl rfl rfl (IntWalk.i64_in _ (by omega)) ?_)
      | (refine WO.sub rfl rfl rfl rfl rfl rfl (IntWalk.i64_in _ (by omega)) ?_)
      | (refine WO.idx rfl rfl rfl rfl rfl rfl (by omega) ?_)
      | refine WO.step rfl rfl (fun _ => rfl) rfl ?_
      | refine WO.stepN rfl rfl (fun _ => rfl) rfl ?_
      | refine WO.skip rfl rfl ?_
      | (refine WO.step rfl rfl (fun _ => rfl) (by simp; omega) ?_)
      | fail)
  refine WC.seq (WC.seq ?_)
  refine WC.region (R0 := (8, .ref 128 0) :: _) (B0 := (128, .arr 0 28 []) :: _) rfl rfl ?_
  repeat' (first
      | refine WO.nil ?_
      | (refine WO.ints rfl rfl rfl rfl rfl rfl rfl rfl ?_ ?_ <;> intro _ <;> try (rename_i hq; simp at hq; done))
      | (refine WO.ints rfl rfl rfl rfl rfl rfl rfl (intBin_neq _ _ _) ?_ ?_ <;> intro _ <;> try (rename_i hq; simp at hq; done))
      | (refine WO.streq rfl rfl rfl rfl rfl ?_ ?_ <;> intro hq <;> try (simp at hq; done))
      | (refine WO.strne rfl rfl rfl rfl rfl ?_ ?_ <;> intro hq <;> try (simp at hq; done))
      | (refine WO.tail rfl rfl rfl rfl rfl rfl ?_)
      | (refine WO.add rfl rfl rfl rfl rfl rfl (IntWalk.i64_in _ (by omega)) ?_)
      | (refine WO.sub rfl rfl rfl rfl rfl rfl (IntWalk.i64_in _ (by omega)) ?_)
      | (refine WO.idx rfl rfl rfl rfl rfl rfl (by omega) ?_)
      | refine WO.step rfl rfl (fun _ => rfl) rfl ?_
      | refine WO.stepN rfl rfl (fun _ => rfl) rfl ?_
      | refine WO.skip rfl rfl ?_
      | (refine WO.step rfl rfl (fun _ => rfl) (by simp; omega) ?_)
      | fail)
  refine WC.block (WC.loop ?_)
  refine WL.ind (fun k R B => ∃ (i : Int) (es : List PD), 0 ≤ i ∧ i + k = xs.length ∧ es = ((xs.take i.toNat).filter f).map Src.pd ∧
    ghosts prog 0 (A R B) (hints.at_ 13 6) = some (A [(0, .d (.str s)), (6, .d (.lst ([a, b, c, d].map .str))), (7, .d (.bool (decide ([a, b, c, d].length = 4)))), (8, .ref 128 0), (18, .d (.lst (xs.map Src.pd))), (19, .d (.int .i64 (xs.map Src.pd).length)), (20, .d (.int .i64 i))] [(128, .arr 0 28 es)])) xs.length
    ⟨0, [], by omega, by omega, by simp, rfl⟩ ?_
  rintro k R B ⟨i, es, h0, hk, hes, hg⟩ ih
  have hel : es.length ≤ 2 ^ 30 := by
    rw [hes, List.length_map]
    exact Nat.le_trans (List.length_filter_le _ _) (by rw [List.length_take]; omega)
  refine WL.round (WC.regionSeq hg rfl ?_)
  repeat' (first
      | refine WO.nil ?_
      | (refine WO.ints rfl rfl rfl rfl rfl rfl rfl rfl ?_ ?_ <;> intro _ <;> try (rename_i hq; simp at hq; done))
      | (refine WO.ints rfl rfl rfl rfl rfl rfl rfl (intBin_neq _ _ _) ?_ ?_ <;> intro _ <;> try (rename_i hq; simp at hq; done))
      | (refine WO.streq rfl rfl rfl rfl rfl ?_ ?_ <;> intro hq <;> try (simp at hq; done))
      | (refine WO.strne rfl rfl rfl rfl rfl ?_ ?_ <;> intro hq <;> try (simp at hq; done))
      | (refine WO.tail rfl rfl rfl rfl rfl rfl ?_)
      | (refine WO.add rfl rfl rfl rfl rfl rfl (IntWalk.i64_in _ (by omega)) ?_)
      | (refine WO.sub rfl rfl rfl rfl rfl rfl (IntWalk.i64_in _ (by omega)) ?_)
      | (refine WO.idx rfl rfl rfl rfl rfl rfl (by omega) ?_)
      | refine WO.step rfl rfl (fun _ => rfl) rfl ?_
      | refine WO.stepN rfl rfl (fun _ => rfl) rfl ?_
      | refine WO.skip rfl rfl ?_
      | (refine WO.step rfl rfl (fun _ => rfl) (by simp; omega) ?_)
      | fail)
  · rename_i hlt
    have hlt : i.toNat < xs.length := by omega
    have hv := valid_ev _ (hx _ (List.getElem_mem hlt))
    have hm := hm xs[i.toNat]
    have htf := take_filter f xs i h0 hlt
    rw [hf] at htf
    refine WC.seq (WC.condT rfl (WC.skip ?_))
    refine WC.seq (WC.block ?_)
    refine WC.regionSeq rfl rfl ?_
    refine WO.elem rfl rfl rfl rfl rfl rfl rfl h0 (map_pd_get xs _ hlt) rfl rfl ?_
    repeat' (first
      | refine WO.nil ?_
      | (refine WO.ints rfl rfl rfl rfl rfl rfl rfl rfl ?_ ?_ <;> intro _ <;> try (rename_i hq; simp at hq; done))
      | (refine WO.ints rfl rfl rfl rfl rfl rfl rfl (intBin_neq _ _ _) ?_ ?_ <;> intro _ <;> try (rename_i hq; simp at hq; done))
      | (refine WO.streq rfl rfl rfl rfl rfl ?_ ?_ <;> intro hq <;> try (simp at hq; done))
      | (refine WO.strne rfl rfl rfl rfl rfl ?_ ?_ <;> intro hq <;> try (simp at hq; done))
      | (refine WO.tail rfl rfl rfl rfl rfl rfl ?_)
      | (refine WO.add rfl rfl rfl rfl rfl rfl (IntWalk.i64_in _ (by omega)) ?_)
      | (refine WO.sub rfl rfl rfl rfl rfl rfl (IntWalk.i64_in _ (by omega)) ?_)
      | (refine WO.idx rfl rfl rfl rfl rfl rfl (by omega) ?_)
      | refine WO.step rfl rfl (fun _ => rfl) rfl ?_
      | refine WO.stepN rfl rfl (fun _ => rfl) rfl ?_
      | refine WO.skip rfl rfl ?_
      | (refine WO.step rfl rfl (fun _ => rfl) (by simp; omega) ?_)
      | fail)
    refine WC.regionSeq rfl rfl ?_
    repeat' (first
      | refine WO.nil ?_
      | (refine WO.ints rfl rfl rfl rfl rfl rfl rfl rfl ?_ ?_ <;> intro _ <;> try (rename_i hq; simp at hq; done))
      | (refine WO.ints rfl rfl rfl rfl rfl rfl rfl (intBin_neq _ _ _) ?_ ?_ <;> intro _ <;> try (rename_i hq; simp at hq; done))
      | (refine WO.streq rfl rfl rfl rfl rfl ?_ ?_ <;> intro hq <;> try (simp at hq; done))
      | (refine WO.strne rfl rfl rfl rfl rfl ?_ ?_ <;> intro hq <;> try (simp at hq; done))
      | (refine WO.tail rfl rfl rfl rfl rfl rfl ?_)
      | (refine WO.add rfl rfl rfl rfl rfl rfl (IntWalk.i64_in _ (by omega)) ?_)
      | (refine WO.sub rfl rfl rfl rfl rfl rfl (IntWalk.i64_in _ (by omega)) ?_)
      | (refine WO.idx rfl rfl rfl rfl rfl rfl (by omega) ?_)
      | refine WO.step rfl rfl (fun _ => rfl) rfl ?_
      | refine WO.stepN rfl rfl (fun _ => rfl) rfl ?_
      | refine WO.skip rfl rfl ?_
      | (refine WO.step rfl rfl (fun _ => rfl) (by simp; omega) ?_)
      | (refine WO.callB rfl rfl rfl rfl rfl rfl rfl rfl rfl rfl (hv) rfl rfl ?_ ?_ <;> intro _)
      | (refine WO.callB rfl rfl rfl rfl rfl rfl rfl rfl rfl rfl (hm) rfl rfl ?_ ?_ <;> intro _)
      | fail)
    · rename_i h1 h2
      refine WC.condT rfl ?_
      refine WC.region rfl rfl ?_
      repeat' (first
      | refine WO.nil ?_
      | (refine WO.ints rfl rfl rfl rfl rfl rfl rfl rfl ?_ ?_ <;> intro _ <;> try (rename_i hq; simp at hq; done))
      | (refine WO.ints rfl rfl rfl rfl rfl rfl rfl (intBin_neq _ _ _) ?_ ?_ <;> intro _ <;> try (rename_i hq; simp at hq; done))
      | (refine WO.streq rfl rfl rfl rfl rfl ?_ ?_ <;> intro hq <;> try (simp at hq; done))
      | (refine WO.strne rfl rfl rfl rfl rfl ?_ ?_ <;> intro hq <;> try (simp at hq; done))
      | (refine WO.tail rfl rfl rfl rfl rfl rfl ?_)
      | (refine WO.add rfl rfl rfl rfl rfl rfl (IntWalk.i64_in _ (by omega)) ?_)
      | (refine WO.sub rfl rfl rfl rfl rfl rfl (IntWalk.i64_in _ (by omega)) ?_)
      | (refine WO.idx rfl rfl rfl rfl rfl rfl (by omega) ?_)
      | refine WO.step rfl rfl (fun _ => rfl) rfl ?_
      | refine WO.stepN rfl rfl (fun _ => rfl) rfl ?_
      | refine WO.skip rfl rfl ?_
      | (refine WO.step rfl rfl (fun _ => rfl) (by simp; omega) ?_)
      | fail)
      refine WO.step rfl rfl (fun _ => rfl) ?hc ?_
      case hc => exact Bool.and_eq_true_iff.2 ⟨rfl, Bool.and_eq_true_iff.2 ⟨rfl, Bool.and_eq_true_iff.2 ⟨decide_eq_true (show (es.length + 1) * 64 ≤ 140737488355328 by omega), rfl⟩⟩⟩
      repeat' (first
      | refine WO.nil ?_
      | (refine WO.ints rfl rfl rfl rfl rfl rfl rfl rfl ?_ ?_ <;> intro _ <;> try (rename_i hq; simp at hq; done))
      | (refine WO.ints rfl rfl rfl rfl rfl rfl rfl (intBin_neq _ _ _) ?_ ?_ <;> intro _ <;> try (rename_i hq; simp at hq; done))
      | (refine WO.streq rfl rfl rfl rfl rfl ?_ ?_ <;> intro hq <;> try (simp at hq; done))
      | (refine WO.strne rfl rfl rfl rfl rfl ?_ ?_ <;> intro hq <;> try (simp at hq; done))
      | (refine WO.tail rfl rfl rfl rfl rfl rfl ?_)
      | (refine WO.add rfl rfl rfl rfl rfl rfl (IntWalk.i64_in _ (by omega)) ?_)
      | (refine WO.sub rfl rfl rfl rfl rfl rfl (IntWalk.i64_in _ (by omega)) ?_)
      | (refine WO.idx rfl rfl rfl rfl rfl rfl (by omega) ?_)
      | refine WO.step rfl rfl (fun _ => rfl) rfl ?_
      | refine WO.stepN rfl rfl (fun _ => rfl) rfl ?_
      | refine WO.skip rfl rfl ?_
      | (refine WO.step rfl rfl (fun _ => rfl) (by simp; omega) ?_)
      | fail)
      refine WC.region rfl rfl ?_
      repeat' (first
      | refine WO.nil ?_
      | (refine WO.ints rfl rfl rfl rfl rfl rfl rfl rfl ?_ ?_ <;> intro _ <;> try (rename_i hq; simp at hq; done))
      | (refine WO.ints rfl rfl rfl rfl rfl rfl rfl (intBin_neq _ _ _) ?_ ?_ <;> intro _ <;> try (rename_i hq; simp at hq; done))
      | (refine WO.streq rfl rfl rfl rfl rfl ?_ ?_ <;> intro hq <;> try (simp at hq; done))
      | (refine WO.strne rfl rfl rfl rfl rfl ?_ ?_ <;> intro hq <;> try (simp at hq; done))
      | (refine WO.tail rfl rfl rfl rfl rfl rfl ?_)
      | (refine WO.add rfl rfl rfl rfl rfl rfl (IntWalk.i64_in _ (by omega)) ?_)
      | (refine WO.sub rfl rfl rfl rfl rfl rfl (IntWalk.i64_in _ (by omega)) ?_)
      | (refine WO.idx rfl rfl rfl rfl rfl rfl (by omega) ?_)
      | refine WO.step rfl rfl (fun _ => rfl) rfl ?_
      | refine WO.stepN rfl rfl (fun _ => rfl) rfl ?_
      | refine WO.skip rfl rfl ?_
      | (refine WO.step rfl rfl (fun _ => rfl) (by simp; omega) ?_)
      | fail)
      refine ih (k - 1) _ _ (by omega) ⟨i + 1, _, by omega, by omega, ?_, rfl⟩
      rw [htf, h1, h2, List.map_append, ← hes]; rfl
    · rename_i h1 h2
      refine WC.condF rfl (WC.skip ?_)
      refine WC.region rfl rfl ?_
      repeat' (first
      | refine WO.nil ?_
      | (refine WO.ints rfl rfl rfl rfl rfl rfl rfl rfl ?_ ?_ <;> intro _ <;> try (rename_i hq; simp at hq; done))
      | (refine WO.ints rfl rfl rfl rfl rfl rfl rfl (intBin_neq _ _ _) ?_ ?_ <;> intro _ <;> try (rename_i hq; simp at hq; done))
      | (refine WO.streq rfl rfl rfl rfl rfl ?_ ?_ <;> intro hq <;> try (simp at hq; done))
      | (refine WO.strne rfl rfl rfl rfl rfl ?_ ?_ <;> intro hq <;> try (simp at hq; done))
      | (refine WO.tail rfl rfl rfl rfl rfl rfl ?_)
      | (refine WO.add rfl rfl rfl rfl rfl rfl (IntWalk.i64_in _ (by omega)) ?_)
      | (refine WO.sub rfl rfl rfl rfl rfl rfl (IntWalk.i64_in _ (by omega)) ?_)
      | (refine WO.idx rfl rfl rfl rfl rfl rfl (by omega) ?_)
      | refine WO.step rfl rfl (fun _ => rfl) rfl ?_
      | refine WO.stepN rfl rfl (fun _ => rfl) rfl ?_
      | refine WO.skip rfl rfl ?_
      | (refine WO.step rfl rfl (fun _ => rfl) (by simp; omega) ?_)
      | fail)
      refine ih (k - 1) _ _ (by omega) ⟨i + 1, _, by omega, by omega, ?_, rfl⟩
      rw [htf, h1, h2, hes]; simp
    · rename_i h1
      refine WC.condF rfl (WC.skip ?_)
      refine WC.region rfl rfl ?_
      repeat' (first
      | refine WO.nil ?_
      | (refine WO.ints rfl rfl rfl rfl rfl rfl rfl rfl ?_ ?_ <;> intro _ <;> try (rename_i hq; simp at hq; done))
      | (refine WO.ints rfl rfl rfl rfl rfl rfl rfl (intBin_neq _ _ _) ?_ ?_ <;> intro _ <;> try (rename_i hq; simp at hq; done))
      | (refine WO.streq rfl rfl rfl rfl rfl ?_ ?_ <;> intro hq <;> try (simp at hq; done))
      | (refine WO.strne rfl rfl rfl rfl rfl ?_ ?_ <;> intro hq <;> try (simp at hq; done))
      | (refine WO.tail rfl rfl rfl rfl rfl rfl ?_)
      | (refine WO.add rfl rfl rfl rfl rfl rfl (IntWalk.i64_in _ (by omega)) ?_)
      | (refine WO.sub rfl rfl rfl rfl rfl rfl (IntWalk.i64_in _ (by omega)) ?_)
      | (refine WO.idx rfl rfl rfl rfl rfl rfl (by omega) ?_)
      | refine WO.step rfl rfl (fun _ => rfl) rfl ?_
      | refine WO.stepN rfl rfl (fun _ => rfl) rfl ?_
      | refine WO.skip rfl rfl ?_
      | (refine WO.step rfl rfl (fun _ => rfl) (by simp; omega) ?_)
      | fail)
      refine ih (k - 1) _ _ (by omega) ⟨i + 1, _, by omega, by omega, ?_, rfl⟩
      rw [htf, h1, hes]; simp
  · refine WC.seq (WC.condF rfl (WC.exit ⟨fun _ => ?_, fun h => (h rfl).elim⟩))
    refine WC.regionSeq rfl rfl ?_
    repeat' (first
      | refine WO.nil ?_
      | (refine WO.ints rfl rfl rfl rfl rfl rfl rfl rfl ?_ ?_ <;> intro _ <;> try (rename_i hq; simp at hq; done))
      | (refine WO.ints rfl rfl rfl rfl rfl rfl rfl (intBin_neq _ _ _) ?_ ?_ <;> intro _ <;> try (rename_i hq; simp at hq; done))
      | (refine WO.streq rfl rfl rfl rfl rfl ?_ ?_ <;> intro hq <;> try (simp at hq; done))
      | (refine WO.strne rfl rfl rfl rfl rfl ?_ ?_ <;> intro hq <;> try (simp at hq; done))
      | (refine WO.tail rfl rfl rfl rfl rfl rfl ?_)
      | (refine WO.add rfl rfl rfl rfl rfl rfl (IntWalk.i64_in _ (by omega)) ?_)
      | (refine WO.sub rfl rfl rfl rfl rfl rfl (IntWalk.i64_in _ (by omega)) ?_)
      | (refine WO.idx rfl rfl rfl rfl rfl rfl (by omega) ?_)
      | refine WO.step rfl rfl (fun _ => rfl) rfl ?_
      | refine WO.stepN rfl rfl (fun _ => rfl) rfl ?_
      | refine WO.skip rfl rfl ?_
      | (refine WO.step rfl rfl (fun _ => rfl) (by simp; omega) ?_)
      | fail)
    refine WC.ret (WC.done rfl rfl ?_)
    rw [hes, List.take_of_length_le (by omega)]
    rfl
end Go.Ds.Sp
