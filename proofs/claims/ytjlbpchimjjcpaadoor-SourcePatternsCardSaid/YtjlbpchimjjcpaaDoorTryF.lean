/- TryF: SourcePatterns, its body. -/
import Derived.Test.YtjlbpchimjjcpaaDoorTryP
set_option maxRecDepth 1000000
set_option maxHeartbeats 4000000
namespace Go.Ds.Sp
open Go.Proofs Go.Proofs.Tryd

theorem srcV_mem (l : List Int) (a : Int) : (srcV l a).1.net ∈ nets ∧ (srcV l a).1.sta ∈ stas ∧ (srcV l a).1.loc ∈ locs ∧ (srcV l a).1.cha ∈ chas ∧ a ≤ (srcV l a).2 ∧ (srcV l a).2 ≤ a + 4 := by
  have h1 := nextV_at l a 3
  have h2 := nextV_at l (nextV l a 3).2 4
  have h3 := nextV_at l (nextV l (nextV l a 3).2 4).2 3
  have h4 := nextV_at l (nextV l (nextV l (nextV l a 3).2 4).2 3).2 3
  refine ⟨pick_mem (nextV_range l _ 3 (by omega)), pick_mem (nextV_range l _ 4 (by omega)), pick_mem (nextV_range l _ 3 (by omega)), pick_mem (nextV_range l _ 3 (by omega)), ?_, ?_⟩
  · show a ≤ (nextV l (nextV l (nextV l (nextV l a 3).2 4).2 3).2 3).2; omega
  · show (nextV l (nextV l (nextV l (nextV l a 3).2 4).2 3).2 3).2 ≤ a + 4; omega
theorem src_lens {a : Src} (hn : a.net ∈ nets) (ht : a.sta ∈ stas) (hl : a.loc ∈ locs) (hc : a.cha ∈ chas) : a.net.length ≤ 2 ∧ 1 ≤ a.sta.length ∧ a.sta.length ≤ 5 ∧ a.loc.length ≤ 2 ∧ a.cha.length ≤ 3 := by
  have e1 : (nets.all fun x => decide (x.length ≤ 2)) = true := by decide
  have e2 : (stas.all fun x => decide (1 ≤ x.length ∧ x.length ≤ 5)) = true := by decide
  have e3 : (locs.all fun x => decide (x.length ≤ 2)) = true := by decide
  have e4 : (chas.all fun x => decide (x.length ≤ 3)) = true := by decide
  have f2 := of_decide_eq_true (List.all_eq_true.1 e2 _ ht)
  exact ⟨of_decide_eq_true (List.all_eq_true.1 e1 _ hn), f2.1, f2.2, of_decide_eq_true (List.all_eq_true.1 e3 _ hl), of_decide_eq_true (List.all_eq_true.1 e4 _ hc)⟩
theorem src_small {a : Src} (hn : a.net ∈ nets) (ht : a.sta ∈ stas) (hl : a.loc ∈ locs) (hc : a.cha ∈ chas) : a.small := by
  obtain ⟨h1, h2, h3, h4, h5⟩ := src_lens hn ht hl hc
  exact ⟨by omega, by omega, by omega, by omega⟩

section
variable {P : Program} {H : Hints} {ext : FuncId → Option CallD} {mt : Nat → Bool} {ops : Array Oper} {l : List Oper} {R : List (Nat × RV)} {B : List (Nat × Box)} {o : Oper} {d : Nat} {K : List (Nat × RV) → List (Nat × Box) → List Tr → Prop}
theorem WO.bin {op : BinOp} {t t' : TypeId} {x y : Operand} {vx vy : RV} {p : PD} (hw : wantD ops (A R B) o = some true) (hd : o.dst = some d) (ho : o.op = .binOp op t x y t') (hx : (A R B).opd x = some vx) (hy : (A R B).opd y = some vy)
    (he : binT P op t vx vy = some (p, true)) (h : WO P H ext mt ops l ((d, .d p) :: R) B fun R' B' ts => K R' B' (⟨[], []⟩ :: ts)) : WO P H ext mt ops (o :: l) R B K := by
  refine WO.step (u := []) (rd := []) (c := true) hw hd (fun n => ?_) rfl h
  simp only [evOp, ho, hx, hy, he]
  rfl
end
theorem eq_src (a b : Src) : binT prog .eql 28 (.d a.pd) (.d b.pd) = some (.bool (a.net == b.net && (a.sta == b.sta && (a.loc == b.loc && (a.cha == b.cha && true)))), true) := by kernel_rfl
theorem same_src (a : Src) : binT prog .eql 28 (.d a.pd) (.d a.pd) = some (.bool true, true) := by rw [eq_src]; simp

theorem law_ev (t : List Int) : Ev prog hints extS 3 [.d (.lst (t.map (.int .i64)))] [] (.d (.bool true)) [] := by
  refine Ev.body rfl func3 rfl (by kernel_rfl) ?_
  refine WC.regionSeq rfl rfl ?_
  repeat' (first
      | (refine WO.ints rfl rfl rfl rfl rfl rfl rfl rfl ?_ ?_ <;> intro _ <;> try (rename_i hq; simp at hq; done))
      | (refine WO.ints rfl rfl rfl rfl rfl rfl rfl (intBin_neq _ _ _) ?_ ?_ <;> intro _ <;> try (rename_i hq; simp at hq; done))
      | (refine WO.streq rfl rfl rfl rfl rfl ?_ ?_ <;> intro hq <;> try (simp at hq; done))
      | (refine WO.strne rfl rfl rfl rfl rfl ?_ ?_ <;> intro hq <;> try (simp at hq; done))
      | (refine WO.tail rfl rfl rfl rfl rfl rfl ?_)
      | (refine WO.cut rfl rfl rfl rfl rfl rfl rfl rfl rfl (by omega) ?_)
      | (refine WO.add rfl rfl rfl rfl rfl rfl (IntWalk.i64_in _ (by omega)) ?_)
      | (refine WO.sub rfl rfl rfl rfl rfl rfl (IntWalk.i64_in _ (by omega)) ?_)
      | (refine WO.idx rfl rfl rfl rfl rfl rfl (by omega) ?_)
      | refine WO.step rfl rfl (fun _ => rfl) rfl ?_
      | refine WO.stepN rfl rfl (fun _ => rfl) rfl ?_
      | refine WO.skip rfl rfl ?_
      | refine WO.nil ?_
      | (refine WO.step rfl rfl (fun _ => rfl) (by simp; omega) ?_)
      | fail)
  refine WC.seq ?_
  refine WC.regionSeq rfl rfl ?_
  repeat' (first
      | (refine WO.ints rfl rfl rfl rfl rfl rfl rfl rfl ?_ ?_ <;> intro _ <;> try (rename_i hq; simp at hq; done))
      | (refine WO.ints rfl rfl rfl rfl rfl rfl rfl (intBin_neq _ _ _) ?_ ?_ <;> intro _ <;> try (rename_i hq; simp at hq; done))
      | (refine WO.streq rfl rfl rfl rfl rfl ?_ ?_ <;> intro hq <;> try (simp at hq; done))
      | (refine WO.strne rfl rfl rfl rfl rfl ?_ ?_ <;> intro hq <;> try (simp at hq; done))
      | (refine WO.tail rfl rfl rfl rfl rfl rfl ?_)
      | (refine WO.cut rfl rfl rfl rfl rfl rfl rfl rfl rfl (by omega) ?_)
      | (refine WO.add rfl rfl rfl rfl rfl rfl (IntWalk.i64_in _ (by omega)) ?_)
      | (refine WO.sub rfl rfl rfl rfl rfl rfl (IntWalk.i64_in _ (by omega)) ?_)
      | (refine WO.idx rfl rfl rfl rfl rfl rfl (by omega) ?_)
      | refine WO.step rfl rfl (fun _ => rfl) rfl ?_
      | refine WO.stepN rfl rfl (fun _ => rfl) rfl ?_
      | refine WO.skip rfl rfl ?_
      | refine WO.nil ?_
      | (refine WO.step rfl rfl (fun _ => rfl) (by simp; omega) ?_)
      | refine WO.call rfl rfl rfl rfl rfl rfl rfl rfl rfl rfl (light_ev t) rfl rfl rfl rfl ?_
      | fail)
  refine WC.cond rfl ?_ ?_ <;> intro hb
  · refine WC.regionSeq rfl rfl ?_
    repeat' (first
      | (refine WO.ints rfl rfl rfl rfl rfl rfl rfl rfl ?_ ?_ <;> intro _ <;> try (rename_i hq; simp at hq; done))
      | (refine WO.ints rfl rfl rfl rfl rfl rfl rfl (intBin_neq _ _ _) ?_ ?_ <;> intro _ <;> try (rename_i hq; simp at hq; done))
      | (refine WO.streq rfl rfl rfl rfl rfl ?_ ?_ <;> intro hq <;> try (simp at hq; done))
      | (refine WO.strne rfl rfl rfl rfl rfl ?_ ?_ <;> intro hq <;> try (simp at hq; done))
      | (refine WO.tail rfl rfl rfl rfl rfl rfl ?_)
      | (refine WO.cut rfl rfl rfl rfl rfl rfl rfl rfl rfl (by omega) ?_)
      | (refine WO.add rfl rfl rfl rfl rfl rfl (IntWalk.i64_in _ (by omega)) ?_)
      | (refine WO.sub rfl rfl rfl rfl rfl rfl (IntWalk.i64_in _ (by omega)) ?_)
      | (refine WO.idx rfl rfl rfl rfl rfl rfl (by omega) ?_)
      | refine WO.step rfl rfl (fun _ => rfl) rfl ?_
      | refine WO.stepN rfl rfl (fun _ => rfl) rfl ?_
      | refine WO.skip rfl rfl ?_
      | refine WO.nil ?_
      | (refine WO.step rfl rfl (fun _ => rfl) (by simp; omega) ?_)
      | refine WO.call rfl rfl rfl rfl rfl rfl rfl rfl rfl rfl (sane_ev) rfl rfl rfl rfl ?_
      | fail)
    exact WC.ret (WC.done rfl (finish_tmp1 rfl rfl) rfl)
  · refine WC.skip ?_
    refine WC.regionSeq rfl rfl ?_
    repeat' (first
      | (refine WO.ints rfl rfl rfl rfl rfl rfl rfl rfl ?_ ?_ <;> intro _ <;> try (rename_i hq; simp at hq; done))
      | (refine WO.ints rfl rfl rfl rfl rfl rfl rfl (intBin_neq _ _ _) ?_ ?_ <;> intro _ <;> try (rename_i hq; simp at hq; done))
      | (refine WO.streq rfl rfl rfl rfl rfl ?_ ?_ <;> intro hq <;> try (simp at hq; done))
      | (refine WO.strne rfl rfl rfl rfl rfl ?_ ?_ <;> intro hq <;> try (simp at hq; done))
      | (refine WO.tail rfl rfl rfl rfl rfl rfl ?_)
      | (refine WO.cut rfl rfl rfl rfl rfl rfl rfl rfl rfl (by omega) ?_)
      | (refine WO.add rfl rfl rfl rfl rfl rfl (IntWalk.i64_in _ (by omega)) ?_)
      | (refine WO.sub rfl rfl rfl rfl rfl rfl (IntWalk.i64_in _ (by omega)) ?_)
      | (refine WO.idx rfl rfl rfl rfl rfl rfl (by omega) ?_)
      | refine WO.step rfl rfl (fun _ => rfl) rfl ?_
      | refine WO.stepN rfl rfl (fun _ => rfl) rfl ?_
      | refine WO.skip rfl rfl ?_
      | refine WO.nil ?_
      | (refine WO.step rfl rfl (fun _ => rfl) (by simp; omega) ?_)
      | refine WO.call rfl rfl rfl rfl rfl rfl rfl rfl rfl rfl (roll_ev _) rfl rfl rfl rfl ?_
      | fail)
    have sa := src_ev t 0 (by omega)
    have ma := srcV_mem t 0
    generalize srcV t 0 = s1 at sa ma
    obtain ⟨a, p⟩ := s1
    obtain ⟨hn, ht, hl, hc, p1, p2⟩ := ma
    simp only at hn ht hl hc p1 p2 sa
    obtain ⟨n1, n2, n3, n4, n5⟩ := src_lens hn ht hl hc
    have asm := src_small hn ht hl hc
    refine WC.regionSeq rfl rfl ?_
    repeat' (first
      | (refine WO.ints rfl rfl rfl rfl rfl rfl rfl rfl ?_ ?_ <;> intro _ <;> try (rename_i hq; simp at hq; done))
      | (refine WO.ints rfl rfl rfl rfl rfl rfl rfl (intBin_neq _ _ _) ?_ ?_ <;> intro _ <;> try (rename_i hq; simp at hq; done))
      | (refine WO.streq rfl rfl rfl rfl rfl ?_ ?_ <;> intro hq <;> try (simp at hq; done))
      | (refine WO.strne rfl rfl rfl rfl rfl ?_ ?_ <;> intro hq <;> try (simp at hq; done))
      | (refine WO.tail rfl rfl rfl rfl rfl rfl ?_)
      | (refine WO.cut rfl rfl rfl rfl rfl rfl rfl rfl rfl (by omega) ?_)
      | (refine WO.add rfl rfl rfl rfl rfl rfl (IntWalk.i64_in _ (by omega)) ?_)
      | (refine WO.sub rfl rfl rfl rfl rfl rfl (IntWalk.i64_in _ (by omega)) ?_)
      | (refine WO.idx rfl rfl rfl rfl rfl rfl (by omega) ?_)
      | refine WO.step rfl rfl (fun _ => rfl) rfl ?_
      | refine WO.stepN rfl rfl (fun _ => rfl) rfl ?_
      | refine WO.skip rfl rfl ?_
      | refine WO.nil ?_
      | (refine WO.step rfl rfl (fun _ => rfl) (by simp; omega) ?_)
      | refine WO.call rfl rfl rfl rfl rfl rfl rfl rfl rfl rfl (sa) rfl rfl rfl rfl ?_
      | fail)
    have nk := next_ev t p a.sta.length (by omega) (by omega)
    have rk := nextV_range t p a.sta.length (by omega)
    have ak := nextV_at t p a.sta.length
    generalize nextV t p a.sta.length = kq at nk rk ak
    obtain ⟨k, q⟩ := kq
    simp only at nk rk ak
    obtain ⟨hv, ho, hr, hg, hp4, hl4, hm⟩ := law_src hn ht hl hc rk.1 rk.2
    obtain ⟨an, at_, al, ac⟩ := a
    simp only at n1 n2 n3 n4 n5 hn ht hl hc rk nk
    refine WC.regionSeq rfl rfl ?_
    repeat' (first
      | (refine WO.ints rfl rfl rfl rfl rfl rfl rfl rfl ?_ ?_ <;> intro _ <;> try (rename_i hq; simp at hq; done))
      | (refine WO.ints rfl rfl rfl rfl rfl rfl rfl (intBin_neq _ _ _) ?_ ?_ <;> intro _ <;> try (rename_i hq; simp at hq; done))
      | (refine WO.streq rfl rfl rfl rfl rfl ?_ ?_ <;> intro hq <;> try (simp at hq; done))
      | (refine WO.strne rfl rfl rfl rfl rfl ?_ ?_ <;> intro hq <;> try (simp at hq; done))
      | (refine WO.tail rfl rfl rfl rfl rfl rfl ?_)
      | (refine WO.cut rfl rfl rfl rfl rfl rfl rfl rfl rfl (by omega) ?_)
      | (refine WO.add rfl rfl rfl rfl rfl rfl (IntWalk.i64_in _ (by omega)) ?_)
      | (refine WO.sub rfl rfl rfl rfl rfl rfl (IntWalk.i64_in _ (by omega)) ?_)
      | (refine WO.idx rfl rfl rfl rfl rfl rfl (by omega) ?_)
      | refine WO.step rfl rfl (fun _ => rfl) rfl ?_
      | refine WO.stepN rfl rfl (fun _ => rfl) rfl ?_
      | refine WO.skip rfl rfl ?_
      | refine WO.nil ?_
      | (refine WO.step rfl rfl (fun _ => rfl) (by simp; omega) ?_)
      | refine WO.call rfl rfl rfl rfl rfl rfl rfl rfl rfl rfl (nk) rfl rfl rfl rfl ?_
      | fail)
    refine WC.regionDSeq rfl rfl ?_
    repeat' (first
      | (refine WO.cat rfl rfl rfl rfl rfl (by simp [cut, hiOf] <;> omega) ?_)
      | (refine WO.ints rfl rfl rfl rfl rfl rfl rfl rfl ?_ ?_ <;> intro _ <;> try (rename_i hq; simp at hq; done))
      | (refine WO.ints rfl rfl rfl rfl rfl rfl rfl (intBin_neq _ _ _) ?_ ?_ <;> intro _ <;> try (rename_i hq; simp at hq; done))
      | (refine WO.streq rfl rfl rfl rfl rfl ?_ ?_ <;> intro hq <;> try (simp at hq; done))
      | (refine WO.strne rfl rfl rfl rfl rfl ?_ ?_ <;> intro hq <;> try (simp at hq; done))
      | (refine WO.tail rfl rfl rfl rfl rfl rfl ?_)
      | (refine WO.cut rfl rfl rfl rfl rfl rfl rfl rfl rfl (by omega) ?_)
      | (refine WO.add rfl rfl rfl rfl rfl rfl (IntWalk.i64_in _ (by omega)) ?_)
      | (refine WO.sub rfl rfl rfl rfl rfl rfl (IntWalk.i64_in _ (by omega)) ?_)
      | (refine WO.idx rfl rfl rfl rfl rfl rfl (by omega) ?_)
      | refine WO.step rfl rfl (fun _ => rfl) rfl ?_
      | refine WO.stepN rfl rfl (fun _ => rfl) rfl ?_
      | refine WO.skip rfl rfl ?_
      | refine WO.nil ?_
      | (refine WO.step rfl rfl (fun _ => rfl) (by simp; omega) ?_)
      | fail)
    refine ⟨by kernel_rfl, ?_⟩
    refine WC.regionDSeq rfl rfl ?_
    repeat' (first
      | (refine WO.cat rfl rfl rfl rfl rfl (by simp [cut, hiOf] <;> omega) ?_)
      | (refine WO.ints rfl rfl rfl rfl rfl rfl rfl rfl ?_ ?_ <;> intro _ <;> try (rename_i hq; simp at hq; done))
      | (refine WO.ints rfl rfl rfl rfl rfl rfl rfl (intBin_neq _ _ _) ?_ ?_ <;> intro _ <;> try (rename_i hq; simp at hq; done))
      | (refine WO.streq rfl rfl rfl rfl rfl ?_ ?_ <;> intro hq <;> try (simp at hq; done))
      | (refine WO.strne rfl rfl rfl rfl rfl ?_ ?_ <;> intro hq <;> try (simp at hq; done))
      | (refine WO.tail rfl rfl rfl rfl rfl rfl ?_)
      | (refine WO.cut rfl rfl rfl rfl rfl rfl rfl rfl rfl (by omega) ?_)
      | (refine WO.add rfl rfl rfl rfl rfl rfl (IntWalk.i64_in _ (by omega)) ?_)
      | (refine WO.sub rfl rfl rfl rfl rfl rfl (IntWalk.i64_in _ (by omega)) ?_)
      | (refine WO.idx rfl rfl rfl rfl rfl rfl (by omega) ?_)
      | refine WO.step rfl rfl (fun _ => rfl) rfl ?_
      | refine WO.stepN rfl rfl (fun _ => rfl) rfl ?_
      | refine WO.skip rfl rfl ?_
      | refine WO.nil ?_
      | (refine WO.step rfl rfl (fun _ => rfl) (by simp; omega) ?_)
      | fail)
    refine ⟨by kernel_rfl, ?_⟩
    refine WC.regionSeq rfl rfl ?_
    repeat' (first
      | (refine WO.cat rfl rfl rfl rfl rfl (by simp [cut, hiOf] <;> omega) ?_)
      | (refine WO.ints rfl rfl rfl rfl rfl rfl rfl rfl ?_ ?_ <;> intro _ <;> try (rename_i hq; simp at hq; done))
      | (refine WO.ints rfl rfl rfl rfl rfl rfl rfl (intBin_neq _ _ _) ?_ ?_ <;> intro _ <;> try (rename_i hq; simp at hq; done))
      | (refine WO.streq rfl rfl rfl rfl rfl ?_ ?_ <;> intro hq <;> try (simp at hq; done))
      | (refine WO.strne rfl rfl rfl rfl rfl ?_ ?_ <;> intro hq <;> try (simp at hq; done))
      | (refine WO.tail rfl rfl rfl rfl rfl rfl ?_)
      | (refine WO.cut rfl rfl rfl rfl rfl rfl rfl rfl rfl (by omega) ?_)
      | (refine WO.add rfl rfl rfl rfl rfl rfl (IntWalk.i64_in _ (by omega)) ?_)
      | (refine WO.sub rfl rfl rfl rfl rfl rfl (IntWalk.i64_in _ (by omega)) ?_)
      | (refine WO.idx rfl rfl rfl rfl rfl rfl (by omega) ?_)
      | refine WO.step rfl rfl (fun _ => rfl) rfl ?_
      | refine WO.stepN rfl rfl (fun _ => rfl) rfl ?_
      | refine WO.skip rfl rfl ?_
      | refine WO.nil ?_
      | (refine WO.step rfl rfl (fun _ => rfl) (by simp; omega) ?_)
      | fail)
    have hx1 := src_lens (a := ⟨an, at_, al, ac⟩) hn ht hl hc
    have M1 := Match_ev (oneS ⟨an, at_, al, ac⟩ k) ⟨an, at_, al, ac⟩ (by simp [oneS, cut]; omega) asm
    have M2 := Match_ev (restS ⟨an, at_, al, ac⟩ k) ⟨an, at_, al, ac⟩ (by simp [restS, cut]; omega) asm
    have M3 := Match_ev (longS ⟨an, at_, al, ac⟩) ⟨an, at_, al, ac⟩ (by simp [longS]; omega) asm
    rw [ho] at M1
    rw [hr] at M2
    rw [hg] at M3
    refine WC.regionSeq rfl rfl ?_
    repeat' (first
      | (refine WO.ints rfl rfl rfl rfl rfl rfl rfl rfl ?_ ?_ <;> intro _ <;> try (rename_i hq; simp at hq; done))
      | (refine WO.ints rfl rfl rfl rfl rfl rfl rfl (intBin_neq _ _ _) ?_ ?_ <;> intro _ <;> try (rename_i hq; simp at hq; done))
      | (refine WO.streq rfl rfl rfl rfl rfl ?_ ?_ <;> intro hq <;> try (simp at hq; done))
      | (refine WO.strne rfl rfl rfl rfl rfl ?_ ?_ <;> intro hq <;> try (simp at hq; done))
      | (refine WO.tail rfl rfl rfl rfl rfl rfl ?_)
      | (refine WO.cut rfl rfl rfl rfl rfl rfl rfl rfl rfl (by omega) ?_)
      | (refine WO.add rfl rfl rfl rfl rfl rfl (IntWalk.i64_in _ (by omega)) ?_)
      | (refine WO.sub rfl rfl rfl rfl rfl rfl (IntWalk.i64_in _ (by omega)) ?_)
      | (refine WO.idx rfl rfl rfl rfl rfl rfl (by omega) ?_)
      | refine WO.step rfl rfl (fun _ => rfl) rfl ?_
      | refine WO.stepN rfl rfl (fun _ => rfl) rfl ?_
      | refine WO.skip rfl rfl ?_
      | refine WO.nil ?_
      | (refine WO.step rfl rfl (fun _ => rfl) (by simp; omega) ?_)
      | refine WO.call rfl rfl rfl rfl rfl rfl rfl rfl rfl rfl (M1) rfl rfl rfl rfl ?_
      | fail)
    refine WC.regionSeq rfl rfl ?_
    repeat' (first
      | (refine WO.ints rfl rfl rfl rfl rfl rfl rfl rfl ?_ ?_ <;> intro _ <;> try (rename_i hq; simp at hq; done))
      | (refine WO.ints rfl rfl rfl rfl rfl rfl rfl (intBin_neq _ _ _) ?_ ?_ <;> intro _ <;> try (rename_i hq; simp at hq; done))
      | (refine WO.streq rfl rfl rfl rfl rfl ?_ ?_ <;> intro hq <;> try (simp at hq; done))
      | (refine WO.strne rfl rfl rfl rfl rfl ?_ ?_ <;> intro hq <;> try (simp at hq; done))
      | (refine WO.tail rfl rfl rfl rfl rfl rfl ?_)
      | (refine WO.cut rfl rfl rfl rfl rfl rfl rfl rfl rfl (by omega) ?_)
      | (refine WO.add rfl rfl rfl rfl rfl rfl (IntWalk.i64_in _ (by omega)) ?_)
      | (refine WO.sub rfl rfl rfl rfl rfl rfl (IntWalk.i64_in _ (by omega)) ?_)
      | (refine WO.idx rfl rfl rfl rfl rfl rfl (by omega) ?_)
      | refine WO.step rfl rfl (fun _ => rfl) rfl ?_
      | refine WO.stepN rfl rfl (fun _ => rfl) rfl ?_
      | refine WO.skip rfl rfl ?_
      | refine WO.nil ?_
      | (refine WO.step rfl rfl (fun _ => rfl) (by simp; omega) ?_)
      | refine WO.call rfl rfl rfl rfl rfl rfl rfl rfl rfl rfl (M2) rfl rfl rfl rfl ?_
      | fail)
    refine WC.regionSeq rfl rfl ?_
    repeat' (first
      | (refine WO.ints rfl rfl rfl rfl rfl rfl rfl rfl ?_ ?_ <;> intro _ <;> try (rename_i hq; simp at hq; done))
      | (refine WO.ints rfl rfl rfl rfl rfl rfl rfl (intBin_neq _ _ _) ?_ ?_ <;> intro _ <;> try (rename_i hq; simp at hq; done))
      | (refine WO.streq rfl rfl rfl rfl rfl ?_ ?_ <;> intro hq <;> try (simp at hq; done))
      | (refine WO.strne rfl rfl rfl rfl rfl ?_ ?_ <;> intro hq <;> try (simp at hq; done))
      | (refine WO.tail rfl rfl rfl rfl rfl rfl ?_)
      | (refine WO.cut rfl rfl rfl rfl rfl rfl rfl rfl rfl (by omega) ?_)
      | (refine WO.add rfl rfl rfl rfl rfl rfl (IntWalk.i64_in _ (by omega)) ?_)
      | (refine WO.sub rfl rfl rfl rfl rfl rfl (IntWalk.i64_in _ (by omega)) ?_)
      | (refine WO.idx rfl rfl rfl rfl rfl rfl (by omega) ?_)
      | refine WO.step rfl rfl (fun _ => rfl) rfl ?_
      | refine WO.stepN rfl rfl (fun _ => rfl) rfl ?_
      | refine WO.skip rfl rfl ?_
      | refine WO.nil ?_
      | (refine WO.step rfl rfl (fun _ => rfl) (by simp; omega) ?_)
      | refine WO.call rfl rfl rfl rfl rfl rfl rfl rfl rfl rfl (M3) rfl rfl rfl rfl ?_
      | fail)
    have sb := src_ev t q (by omega)
    have mb := srcV_mem t q
    generalize srcV t q = s2 at sb mb
    obtain ⟨b, q2⟩ := s2
    obtain ⟨bn, bt, bl, bc, b1, b2⟩ := mb
    simp only at bn bt bl bc b1 b2 sb
    have bsm := src_small bn bt bl bc
    have Se := Select_ev (restS ⟨an, at_, al, ac⟩ k) [⟨an, at_, al, ac⟩, b, ⟨an, at_, al, ac⟩] (by simp [restS, cut]; omega) (by simp [asm, bsm]) (by simp) hp4 hl4
    have hff : ([⟨an, at_, al, ac⟩, b, ⟨an, at_, al, ac⟩] : List Src).filter (fun x => validB x && matchB (splitL 46 (restS ⟨an, at_, al, ac⟩ k)) x) = ([⟨an, at_, al, ac⟩] ++ (if (validB b && matchB (splitL 46 (restS ⟨an, at_, al, ac⟩ k)) b) = true then [b] else []) ++ [⟨an, at_, al, ac⟩] : List Src) := by
      simp only [List.filter_cons, List.filter_nil, hv, hm, Bool.and_self, if_true]
      split <;> rfl
    rw [hff] at Se
    rcases hfb : (validB b && matchB (splitL 46 (restS ⟨an, at_, al, ac⟩ k)) b) with _ | _
    all_goals rw [hfb] at Se
    all_goals simp only [Bool.false_eq_true, if_false, if_true, List.nil_append, List.append_nil, List.cons_append, List.map_cons, List.map_nil] at Se
    · refine WC.regionDSeq rfl rfl ?_
      repeat' (first
      | (refine WO.ints rfl rfl rfl rfl rfl rfl rfl rfl ?_ ?_ <;> intro _ <;> try (rename_i hq; simp at hq; done))
      | (refine WO.ints rfl rfl rfl rfl rfl rfl rfl (intBin_neq _ _ _) ?_ ?_ <;> intro _ <;> try (rename_i hq; simp at hq; done))
      | (refine WO.streq rfl rfl rfl rfl rfl ?_ ?_ <;> intro hq <;> try (simp at hq; done))
      | (refine WO.strne rfl rfl rfl rfl rfl ?_ ?_ <;> intro hq <;> try (simp at hq; done))
      | (refine WO.tail rfl rfl rfl rfl rfl rfl ?_)
      | (refine WO.cut rfl rfl rfl rfl rfl rfl rfl rfl rfl (by omega) ?_)
      | (refine WO.add rfl rfl rfl rfl rfl rfl (IntWalk.i64_in _ (by omega)) ?_)
      | (refine WO.sub rfl rfl rfl rfl rfl rfl (IntWalk.i64_in _ (by omega)) ?_)
      | (refine WO.idx rfl rfl rfl rfl rfl rfl (by omega) ?_)
      | refine WO.step rfl rfl (fun _ => rfl) rfl ?_
      | refine WO.stepN rfl rfl (fun _ => rfl) rfl ?_
      | refine WO.skip rfl rfl ?_
      | refine WO.nil ?_
      | (refine WO.step rfl rfl (fun _ => rfl) (by simp; omega) ?_)
      | refine WO.call rfl rfl rfl rfl rfl rfl rfl rfl rfl rfl (sb) rfl rfl rfl rfl ?_
      | refine WO.call rfl rfl rfl rfl rfl rfl rfl rfl rfl rfl (Se) rfl rfl rfl rfl ?_
      | fail)
      refine ⟨by kernel_rfl, ?_⟩
      refine WC.regionDSeq rfl rfl ?_
      repeat' (first
      | (refine WO.ints rfl rfl rfl rfl rfl rfl rfl rfl ?_ ?_ <;> intro _ <;> try (rename_i hq; simp at hq; done))
      | (refine WO.ints rfl rfl rfl rfl rfl rfl rfl (intBin_neq _ _ _) ?_ ?_ <;> intro _ <;> try (rename_i hq; simp at hq; done))
      | (refine WO.streq rfl rfl rfl rfl rfl ?_ ?_ <;> intro hq <;> try (simp at hq; done))
      | (refine WO.strne rfl rfl rfl rfl rfl ?_ ?_ <;> intro hq <;> try (simp at hq; done))
      | (refine WO.tail rfl rfl rfl rfl rfl rfl ?_)
      | (refine WO.cut rfl rfl rfl rfl rfl rfl rfl rfl rfl (by omega) ?_)
      | (refine WO.add rfl rfl rfl rfl rfl rfl (IntWalk.i64_in _ (by omega)) ?_)
      | (refine WO.sub rfl rfl rfl rfl rfl rfl (IntWalk.i64_in _ (by omega)) ?_)
      | (refine WO.idx rfl rfl rfl rfl rfl rfl (by omega) ?_)
      | refine WO.step rfl rfl (fun _ => rfl) rfl ?_
      | refine WO.stepN rfl rfl (fun _ => rfl) rfl ?_
      | refine WO.skip rfl rfl ?_
      | refine WO.nil ?_
      | (refine WO.step rfl rfl (fun _ => rfl) (by simp; omega) ?_)
      | refine WO.call rfl rfl rfl rfl rfl rfl rfl rfl rfl rfl (sane_ev) rfl rfl rfl rfl ?_
      | (refine WO.bin rfl rfl rfl rfl rfl (same_src ⟨an, at_, al, ac⟩) ?_)
      | fail)
      refine ⟨by kernel_rfl, ?_⟩
      exact WC.ret (WC.done rfl (finish_tmp1 rfl rfl) rfl)
    · refine WC.regionDSeq rfl rfl ?_
      repeat' (first
      | (refine WO.ints rfl rfl rfl rfl rfl rfl rfl rfl ?_ ?_ <;> intro _ <;> try (rename_i hq; simp at hq; done))
      | (refine WO.ints rfl rfl rfl rfl rfl rfl rfl (intBin_neq _ _ _) ?_ ?_ <;> intro _ <;> try (rename_i hq; simp at hq; done))
      | (refine WO.streq rfl rfl rfl rfl rfl ?_ ?_ <;> intro hq <;> try (simp at hq; done))
      | (refine WO.strne rfl rfl rfl rfl rfl ?_ ?_ <;> intro hq <;> try (simp at hq; done))
      | (refine WO.tail rfl rfl rfl rfl rfl rfl ?_)
      | (refine WO.cut rfl rfl rfl rfl rfl rfl rfl rfl rfl (by omega) ?_)
      | (refine WO.add rfl rfl rfl rfl rfl rfl (IntWalk.i64_in _ (by omega)) ?_)
      | (refine WO.sub rfl rfl rfl rfl rfl rfl (IntWalk.i64_in _ (by omega)) ?_)
      | (refine WO.idx rfl rfl rfl rfl rfl rfl (by omega) ?_)
      | refine WO.step rfl rfl (fun _ => rfl) rfl ?_
      | refine WO.stepN rfl rfl (fun _ => rfl) rfl ?_
      | refine WO.skip rfl rfl ?_
      | refine WO.nil ?_
      | (refine WO.step rfl rfl (fun _ => rfl) (by simp; omega) ?_)
      | refine WO.call rfl rfl rfl rfl rfl rfl rfl rfl rfl rfl (sb) rfl rfl rfl rfl ?_
      | refine WO.call rfl rfl rfl rfl rfl rfl rfl rfl rfl rfl (Se) rfl rfl rfl rfl ?_
      | fail)
      refine ⟨by kernel_rfl, ?_⟩
      refine WC.regionDSeq rfl rfl ?_
      repeat' (first
      | (refine WO.ints rfl rfl rfl rfl rfl rfl rfl rfl ?_ ?_ <;> intro _ <;> try (rename_i hq; simp at hq; done))
      | (refine WO.ints rfl rfl rfl rfl rfl rfl rfl (intBin_neq _ _ _) ?_ ?_ <;> intro _ <;> try (rename_i hq; simp at hq; done))
      | (refine WO.streq rfl rfl rfl rfl rfl ?_ ?_ <;> intro hq <;> try (simp at hq; done))
      | (refine WO.strne rfl rfl rfl rfl rfl ?_ ?_ <;> intro hq <;> try (simp at hq; done))
      | (refine WO.tail rfl rfl rfl rfl rfl rfl ?_)
      | (refine WO.cut rfl rfl rfl rfl rfl rfl rfl rfl rfl (by omega) ?_)
      | (refine WO.add rfl rfl rfl rfl rfl rfl (IntWalk.i64_in _ (by omega)) ?_)
      | (refine WO.sub rfl rfl rfl rfl rfl rfl (IntWalk.i64_in _ (by omega)) ?_)
      | (refine WO.idx rfl rfl rfl rfl rfl rfl (by omega) ?_)
      | refine WO.step rfl rfl (fun _ => rfl) rfl ?_
      | refine WO.stepN rfl rfl (fun _ => rfl) rfl ?_
      | refine WO.skip rfl rfl ?_
      | refine WO.nil ?_
      | (refine WO.step rfl rfl (fun _ => rfl) (by simp; omega) ?_)
      | refine WO.call rfl rfl rfl rfl rfl rfl rfl rfl rfl rfl (sane_ev) rfl rfl rfl rfl ?_
      | (refine WO.bin rfl rfl rfl rfl rfl (same_src ⟨an, at_, al, ac⟩) ?_)
      | fail)
      refine ⟨by kernel_rfl, ?_⟩
      exact WC.ret (WC.done rfl (finish_tmp1 rfl rfl) rfl)
end Go.Ds.Sp
