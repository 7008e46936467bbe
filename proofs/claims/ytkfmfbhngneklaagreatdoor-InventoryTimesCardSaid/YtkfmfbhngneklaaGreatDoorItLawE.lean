/- ItLawE: inventories that are valid, and stay so when they are changed. -/
import Derived.Test.YtkfmfbhngneklaaGreatDoorItLawD
set_option maxRecDepth 100000
set_option maxHeartbeats 4000000
namespace Go.Dw.It
open Go.Dw

theorem nets_ok : ∀ s ∈ nets, codeB s 1 2 = true ∧ s.length ≤ 8 := by decide
theorem stas_ok : ∀ s ∈ stas, codeB s 1 5 = true ∧ s.length ≤ 8 := by decide
theorem locs_ok : ∀ s ∈ locs, (codeB s 0 2 = true ∧ s.length ≠ 1) ∧ s.length ≤ 8 := by decide
theorem chas_ok : ∀ s ∈ chas, codeB s 3 3 = true ∧ s.length ≤ 8 := by decide
theorem isSrc_ok {a : Src} (h : IsSrc a) : SrcOk a ∧ validB a = true := by
  obtain ⟨h1, h2, h3, h4⟩ := h
  have a1 := nets_ok _ h1; have a2 := stas_ok _ h2; have a3 := locs_ok _ h3; have a4 := chas_ok _ h4
  refine ⟨⟨by omega, by omega, by omega, by omega⟩, ?_⟩
  unfold validB
  simp [a1.1, a2.1, a3.1.1, a3.1.2, a4.1]

def CV (c : Chan) (m : Nat) : Prop := IsSrc c.fSource ∧ m ≤ c.fEpochs.length ∧ c.fEpochs.length ≤ 32 ∧ (∀ e ∈ c.fEpochs, vE e = true ∧ ROk e.fResponse) ∧ c.fEpochs.Pairwise (fun a b => a.fTo ≤ b.fFrom)
def Srt (l : List Chan) : Prop := (l.map (·.fSource)).Pairwise (fun x y => cmpS x y < 0)
def IV (l : List Chan) : Prop := (∀ c ∈ l, CV c 1) ∧ Srt l ∧ l.length ≤ 128
theorem vE_lt {e : Epoch} (h : vE e = true) : e.fFrom < e.fTo ∧ 0 ≤ e.fFrom ∧ e.fTo ≤ 9007199254740992 := by
  unfold vE at h
  simp only [Bool.and_eq_true, decide_eq_true_eq] at h
  omega
theorem CV_E {c : Chan} {m : Nat} (h : CV c m) : EOk c.fEpochs := ⟨by have := h.2.2.1; omega, fun e he => (h.2.2.2.1 e he).2⟩
theorem CV_vEs {c : Chan} (h : CV c 1) : vEs c.fEpochs = true := by
  obtain ⟨-, h1, h2, h3, h4⟩ := h
  generalize c.fEpochs = l at *
  unfold vEs
  have hi : inB l.length 1 32 = true := by unfold inB; simp; omega
  rw [hi, Bool.and_true, List.all_eq_true]
  intro i hi
  have hi := List.mem_range.1 hi
  match i, hi with
  | 0, hi => rw [stepE_0 hi]; exact (h3 _ (List.getElem_mem hi)).1
  | i + 1, hi =>
    rw [stepE_s hi, (h3 _ (List.getElem_mem hi)).1, Bool.true_and]
    exact decide_eq_true (List.pairwise_iff_getElem.1 h4 i (i + 1) (by omega) hi (by omega))
theorem Srt_get {l : List Chan} (h : Srt l) {i j : Nat} (hi : i < j) (hj : j < l.length) : cmpS l[i].fSource l[j].fSource < 0 := by
  have := List.pairwise_iff_getElem.1 h i j (by simp; omega) (by simpa using hj) hi
  simpa using this
theorem IV_I {l : List Chan} (h : IV l) : IOk l := ⟨by have := h.2.2; omega, fun c hc => ⟨(isSrc_ok (h.1 c hc).1).1, CV_E (h.1 c hc)⟩⟩
theorem IV_vI {l : List Chan} (h : IV l) : vI l = true := by
  obtain ⟨h1, h2, h3⟩ := h
  unfold vI
  rw [decide_eq_true h3, Bool.and_true, List.all_eq_true]
  intro i hi
  have hi := List.mem_range.1 hi
  have hc := h1 _ (List.getElem_mem hi)
  match i, hi with
  | 0, hi => rw [stepI_0 hi, (isSrc_ok hc.1).2, CV_vEs hc]; rfl
  | i + 1, hi =>
    rw [stepI_s hi, (isSrc_ok hc.1).2, CV_vEs hc]
    exact decide_eq_true (Srt_get h2 (by omega) hi)

theorem ins_ep {l : List Epoch} {e : Epoch} {k : Nat} (hp : l.Pairwise (fun a b => a.fTo ≤ b.fFrom)) (hv : ∀ x ∈ l, x.fFrom < x.fTo) (he : e.fFrom < e.fTo) (nc : ∀ x ∈ l, ¬ (x.fFrom < e.fTo ∧ e.fFrom < x.fTo)) (hk : k ≤ l.length)
    (h1 : ∀ j, (h : j < k) → (h' : j < l.length) → l[j].fFrom < e.fFrom) (h2 : ∀ h : k < l.length, ¬ l[k].fFrom < e.fFrom) : (l.take k ++ e :: l.drop k).Pairwise (fun a b => a.fTo ≤ b.fFrom) := by
  have hsplit : (l.take k ++ l.drop k).Pairwise (fun a b => a.fTo ≤ b.fFrom) := by rwa [List.take_append_drop]
  obtain ⟨p1, p2, p3⟩ := List.pairwise_append.1 hsplit
  have hlt : ∀ y ∈ l.take k, y.fTo ≤ e.fFrom := fun y hy => by
    have hm := nc y (List.mem_of_mem_take hy)
    obtain ⟨j, hj, rfl⟩ := List.getElem_of_mem hy
    simp only [List.length_take] at hj
    rw [List.getElem_take] at hm ⊢
    have := h1 j (by omega) (by omega)
    omega
  have hgt : ∀ y ∈ l.drop k, e.fTo ≤ y.fFrom := fun y hy => by
    have hm := nc y (List.mem_of_mem_drop hy)
    have hvy := hv y (List.mem_of_mem_drop hy)
    by_cases hkl : k < l.length
    · have := h2 hkl
      have hvk := hv _ (List.getElem_mem hkl)
      rw [List.drop_eq_getElem_cons hkl] at hy p2
      rcases List.mem_cons.1 hy with rfl | hy
      · omega
      · have := (List.pairwise_cons.1 p2).1 y hy
        omega
    · rw [List.drop_eq_nil_of_le (by omega)] at hy; cases hy
  refine List.pairwise_append.2 ⟨p1, List.pairwise_cons.2 ⟨hgt, p2⟩, fun a ha b hb => ?_⟩
  rcases List.mem_cons.1 hb with rfl | hb
  · exact hlt a ha
  · exact p3 a ha b hb
theorem ne0 {n : Int} {A : Prop} (h : n ≠ 0) : n = 0 → A := fun h' => (h h').elim
theorem k37_ok {A B : List Chan} {c0 : Chan} {c : T_api_Change} (hA : ∀ x ∈ A, CV x 1) (hB : ∀ x ∈ B, CV x 1) (hc : CV c0 0) (hs : Srt (A ++ c0 :: B)) (hn : (A ++ c0 :: B).length ≤ 129) (hv : vE c.fEpoch = true) (hr : ROk c.fEpoch.fResponse) :
    ∃ r, ref20_Apply_k37 c (A.length : Int) (A ++ c0 :: B) = some r ∧ (r.2 = 0 → IV r.1.fChannels) := by
  have hk : A.length < (A ++ c0 :: B).length := by simp
  have hg : (A ++ c0 :: B)[A.length]'hk = c0 := by simp
  obtain ⟨c1, -, c3, c4, c5⟩ := hc
  unfold ref20_Apply_k37
  rw [inO_at (by omega) (by omega), getO_at (i := A.length) rfl hk, hg]
  simp only [Option.bind_some]
  obtain ⟨b, hb, hb'⟩ := conflict_eq (l := c0.fEpochs) (by omega) c.fEpoch
  rw [hb, Option.bind_some]
  cases b with
  | true => exact ⟨_, rfl, ne0 (by decide)⟩
  | false =>
    obtain ⟨k, e1, e2, e3, e4⟩ := add_eq (l := c0.fEpochs) (by omega) hr
    rw [if_neg (by decide), e2]
    simp only [Option.bind_some]
    rw [modO_at (i := A.length) rfl hk, hg]
    have hset : (A ++ c0 :: B).set A.length ⟨c0.fSource, c0.fEpochs.take k ++ c.fEpoch :: c0.fEpochs.drop k⟩ = A ++ ⟨c0.fSource, c0.fEpochs.take k ++ c.fEpoch :: c0.fEpochs.drop k⟩ :: B := by simp
    rw [hset]
    generalize hc1 : (⟨c0.fSource, c0.fEpochs.take k ++ c.fEpoch :: c0.fEpochs.drop k⟩ : Chan) = d
    have hkd : A.length < (A ++ d :: B).length := by simp
    have hgd : (A ++ d :: B)[A.length]'hkd = d := by simp
    simp only [Option.bind_some]
    by_cases h128 : (A ++ d :: B).length > 128
    · rw [if_pos (decide_eq_true (by omega))]; exact ⟨_, rfl, ne0 (by decide)⟩
    rw [if_neg (by simp only [decide_eq_true_eq]; omega), inO_at (by omega) (by omega), getO_at (i := A.length) rfl hkd, hgd]
    simp only [Option.bind_some]
    by_cases h32 : d.fEpochs.length > 32
    · rw [if_pos (decide_eq_true (by omega))]; exact ⟨_, rfl, ne0 (by decide)⟩
    rw [if_neg (by simp only [decide_eq_true_eq]; omega)]
    refine ⟨_, rfl, fun _ => ⟨fun x hx => ?_, ?_, by simp only; omega⟩⟩
    · rcases List.mem_append.1 hx with hx | hx
      · exact hA x hx
      rcases List.mem_cons.1 hx with rfl | hx
      · subst hc1
        refine ⟨c1, by simp; omega, by omega, fun e he => ?_, ins_ep c5 (fun x hx => (vE_lt (c4 x hx).1).1) (vE_lt hv).1 (hb' rfl) e1 e3 e4⟩
        rcases List.mem_append.1 he with he | he
        · exact c4 e (List.mem_of_mem_take he)
        rcases List.mem_cons.1 he with rfl | he
        · exact ⟨hv, hr⟩
        · exact c4 e (List.mem_of_mem_drop he)
      · exact hB x hx
    · unfold Srt at hs ⊢
      subst hc1
      simpa using hs
theorem fits_ok {l : List Chan} {c : T_api_Change} (hl : IV l) (hs : IsSrc c.fSource) (hr : ROk c.fEpoch.fResponse) : ∃ b, ref20_fits ⟨l⟩ c = some b ∧ (b = true → c.fKind ≠ 1 → vE c.fEpoch = true) := by
  obtain ⟨s1, s2⟩ := isSrc_ok hs
  unfold ref20_fits ref20_zero
  rw [ref_vI_eq (IV_I hl), IV_vI hl, In_eq, ref_Valid_eq s1, s2, ref_vE_eq hr]
  simp only [Option.bind_some, Bool.not_true, Bool.false_eq_true, if_false]
  cases inB c.fKind 0 2 with
  | false => exact ⟨_, rfl, fun h => by cases h⟩
  | true =>
    simp only [Bool.not_true, Bool.false_eq_true, if_false]
    by_cases hk : c.fKind = 1
    · have hz : ∃ b, ref18_Same c.fEpoch.fResponse ⟨[]⟩ = some b := by
        unfold ref18_Same
        by_cases h : c.fEpoch.fResponse.fStages = []
        · rw [if_neg (by simp [h])]
          have : loopO (ref18_Same_l9 c.fEpoch.fResponse ⟨[]⟩) (0 : Int) = some (.inl ()) := loopO_stop (by unfold ref18_Same_l9; rw [if_neg (by simp [h])])
          rw [this]; exact ⟨_, rfl⟩
        · rw [if_pos (by simpa using h)]; exact ⟨_, rfl⟩
      obtain ⟨b, hb⟩ := hz
      rw [if_pos (by simpa using hk)]
      unfold ref19_SameEpoch
      rw [hb]
      simp only [Option.bind_some, ite_and]
      exact ⟨_, rfl, fun _ h => (h hk).elim⟩
    · rw [if_neg (by simpa using hk)]
      cases hv : vE c.fEpoch with
      | false => exact ⟨_, rfl, fun h => by cases h⟩
      | true =>
        simp only [if_true]
        by_cases h2 : c.fKind = 2
        · rw [if_pos (by simpa using h2)]; exact ⟨_, rfl, fun _ _ => trivial⟩
        · rw [if_neg (by simpa using h2)]; exact ⟨_, rfl, fun _ _ => trivial⟩
theorem shift_eq {α : Type} {out : List α} {x z : α} {k : Nat} (hk : k ≤ out.length) :
    (copyL (out ++ [z]) (k + 1) (out.length + 1 - (k + 1)) (((out ++ [z]).drop k).take (out.length + 1 - k))).set k x = out.take k ++ x :: out.drop k := by
  have hd : (out ++ [z]).drop k = out.drop k ++ [z] := List.drop_append_of_le_length hk
  have hys : ((out ++ [z]).drop k).take (out.length + 1 - k) = out.drop k ++ [z] := by
    rw [hd]; exact List.take_of_length_le (by simp; omega)
  unfold copyL
  rw [hys]
  have hmin : Nat.min (out.drop k ++ [z]).length (out.length + 1 - (k + 1)) = out.length - k := by
    show min _ _ = _
    simp
  rw [hmin]
  have ht : (out.drop k ++ [z]).take (out.length - k) = out.drop k := by
    rw [List.take_append_of_le_length (by simp)]
    exact List.take_of_length_le (by simp)
  have hz : (out ++ [z]).drop (k + 1 + (out.length - k)) = [] := List.drop_eq_nil_of_le (by simp; omega)
  rw [ht, hz, List.append_nil]
  have hA : (out ++ [z]).take (k + 1) = out.take k ++ [(out ++ [z])[k]'(by simp; omega)] := by
    rw [take_succ_at (by simp; omega), List.take_append_of_le_length hk]
  rw [hA, List.append_assoc, List.set_append_right _ _ (by simp; omega)]
  simp [Nat.min_eq_left hk]
theorem ins_sorted {out : List Src} {x : Src} {k : Nat} (ho : out.Pairwise (fun x y => cmpS x y < 0)) (hk : k ≤ out.length) (h1 : ∀ j, (h : j < k) → (h' : j < out.length) → cmpS out[j] x < 0)
    (h2 : ∀ h : k < out.length, ¬ cmpS out[k] x < 0 ∧ out[k] ≠ x) : (out.take k ++ x :: out.drop k).Pairwise (fun x y => cmpS x y < 0) := by
  have hsplit : (out.take k ++ out.drop k).Pairwise (fun x y => cmpS x y < 0) := by rwa [List.take_append_drop]
  obtain ⟨p1, p2, p3⟩ := List.pairwise_append.1 hsplit
  have hlt : ∀ y ∈ out.take k, cmpS y x < 0 := fun y hy => by
    obtain ⟨j, hj, rfl⟩ := List.getElem_of_mem hy
    simp only [List.length_take] at hj
    rw [List.getElem_take]
    exact h1 j (by omega) (by omega)
  have hgt : ∀ y ∈ out.drop k, cmpS x y < 0 := fun y hy => by
    by_cases hkl : k < out.length
    · obtain ⟨g1, g2⟩ := h2 hkl
      have hx : cmpS x out[k] < 0 := by
        have := cmpS_tot.anti x out[k]
        by_cases hz : cmpS out[k] x = 0
        · exact (g2 (cmpS_zero hz)).elim
        · omega
      rw [List.drop_eq_getElem_cons hkl] at hy p2
      rcases List.mem_cons.1 hy with rfl | hy
      · exact hx
      · exact cmpS_tot.lt hx (by have := (List.pairwise_cons.1 p2).1 y hy; omega)
    · rw [List.drop_eq_nil_of_le (by omega)] at hy; cases hy
  refine List.pairwise_append.2 ⟨p1, List.pairwise_cons.2 ⟨hgt, p2⟩, fun a ha b hb => ?_⟩
  rcases List.mem_cons.1 hb with rfl | hb
  · exact hlt a ha
  · exact p3 a ha b hb
theorem split_at {α : Type} {l : List α} {k : Nat} (hk : k < l.length) : ∃ A B, l = A ++ l[k] :: B ∧ A.length = k :=
  ⟨l.take k, l.drop (k + 1), by rw [← List.drop_eq_getElem_cons hk, List.take_append_drop], by simp; omega⟩
theorem find48 {l : List Chan} (hl : l.length ≤ 1000) (c : T_api_Change) : ∃ k : Nat, k ≤ l.length ∧ loopO (ref20_Apply_l48 l c) (0 : Int) = some (k : Int) ∧ (∀ j, (h : j < k) → (h' : j < l.length) → cmpS l[j].fSource c.fSource < 0) ∧ (∀ h : k < l.length, ¬ cmpS l[k].fSource c.fSource < 0) := by
  rcases loop_upto (body := ref20_Apply_l48 l c) l.length (q := fun i => match l[i]? with | some x => decide (cmpS x.fSource c.fSource < 0) | none => true) (u := (l.length : Int)) (r := fun i => (i : Int)) (fun i hi => by
    unfold ref20_Apply_l48
    rw [if_pos (decide_eq_true (by omega)), inO_at (by omega) (by omega), getO_at rfl hi, w64 (by omega) (by omega)]
    simp only [Option.bind_some, ref_Compare_eq, List.getElem?_eq_getElem hi]
    rfl) (by
    unfold ref20_Apply_l48
    rw [if_neg (by simp)]) with ⟨h, h'⟩ | ⟨i, hi, h, h', h''⟩
  · refine ⟨l.length, Nat.le_refl _, h, fun j hj hj' => ?_, fun h => by omega⟩
    have := h' j hj'
    simpa [List.getElem?_eq_getElem hj'] using this
  · refine ⟨i, by omega, h, fun j hj hj' => ?_, fun hi' hc => ?_⟩
    · have := h'' j hj
      simpa [List.getElem?_eq_getElem hj'] using this
    · simp [List.getElem?_eq_getElem hi, hc] at h'
theorem apply_ok {l : List Chan} {c : T_api_Change} (hl : IV l) (hs : IsSrc c.fSource) (hr : ROk c.fEpoch.fResponse) : ∃ r, ref20_Apply ⟨l⟩ c = some r ∧ (r.2 = 0 → IV r.1.fChannels) := by
  obtain ⟨b, hf, hb⟩ := fits_ok hl hs hr
  obtain ⟨h1, h2, h3⟩ := hl
  unfold ref20_Apply
  rw [hf, Option.bind_some]
  cases b with
  | false => exact ⟨_, rfl, ne0 (by decide)⟩
  | true =>
  have hb := hb rfl
  rw [if_neg (by decide), copyI (IV_I ⟨h1, h2, h3⟩), Option.bind_some]
  obtain ⟨i, j, hp, hq⟩ := place_eq (l := l) (by omega) (fun x hx => by have := (h1 x hx).2.2.1; omega) c
  simp only
  rw [hp, Option.bind_some]
  simp only
  by_cases hk0 : c.fKind = 0
  · rw [if_neg (by simpa using hk0)]
    unfold ref20_Apply_k60
    rw [if_neg (by simp [hk0])]
    simp only
    have hv := hb (by omega)
    rcases hq with ⟨rfl, rfl, hne⟩ | ⟨k, hk, rfl, hsk, -⟩
    · rw [if_pos (by simp)]
      obtain ⟨k, k1, k2, k3, k4⟩ := find48 (l := l) (by omega) c
      rw [k2, Option.bind_some, appO_at (by simp; omega), Option.bind_some]
      generalize hz : (T_api_Channel.mk (T_api_SourceID.mk [] [] [] []) []) = z
      have hlen : (l ++ [z]).length = l.length + 1 := by simp
      rw [hlen, w64 (n := (k : Int) + 1) (by omega) (by omega), subO_at (by omega) (by omega) (by omega), Option.bind_some, subO_at (by omega) (by omega) (by omega), Option.bind_some]
      have t1 : (0 + ((k : Int) + 1).toNat) = k + 1 := by omega
      have t2 : (0 + (((l.length + 1 : Nat) : Int)).toNat) = l.length + 1 := by omega
      have t3 : (0 + ((k : Int)).toNat) = k := by omega
      rw [t1, t2, t3, viewO_at (by omega) (by omega), Option.bind_some, partO_at (by omega) (by omega), Option.bind_some]
      have hsh := shift_eq (out := l) (x := (⟨c.fSource, []⟩ : Chan)) (z := z) k1
      have hcl : (copyL (l ++ [z]) (k + 1) (l.length + 1 - (k + 1)) (((l ++ [z]).drop k).take (l.length + 1 - k))).length = l.length + 1 := by
        have := congrArg List.length hsh
        rw [List.length_set] at this
        rw [this]
        simp
        omega
      rw [inO_at (by omega) (by omega), Option.bind_some, modO_at (i := k) rfl (by omega), Option.bind_some, hsh]
      have hkl : (l.take k).length = k := by simp; omega
      have := k37_ok (A := l.take k) (B := l.drop k) (c0 := ⟨c.fSource, []⟩) (c := c) (fun x hx => h1 x (List.mem_of_mem_take hx)) (fun x hx => h1 x (List.mem_of_mem_drop hx)) ⟨hs, Nat.zero_le _, by simp, fun e he => (by cases he), List.Pairwise.nil⟩ (by
        unfold Srt at h2 ⊢
        have := ins_sorted (x := c.fSource) (k := k) h2 (by simpa using k1) (fun j hj hj' => by simpa using k3 j hj (by simpa using hj')) (fun h => by
          have h' : k < l.length := by simpa using h
          refine ⟨by simpa using k4 h', by simpa using hne _ (List.getElem_mem h')⟩)
        simpa [List.map_take, List.map_drop] using this) (by simp; omega) hv hr
      rw [hkl] at this
      exact this
    · rw [if_neg (by simp)]
      obtain ⟨A, B, hAB, hA⟩ := split_at hk
      have hck := h1 _ (List.getElem_mem hk)
      generalize l[k] = c0 at *
      subst hAB hA
      exact k37_ok (fun x hx => h1 x (by simp [hx])) (fun x hx => h1 x (by simp [hx])) ⟨hck.1, Nat.zero_le _, hck.2.2⟩ h2 (by omega) hv hr
  · rw [if_pos (by simpa using hk0)]
    rcases hq with ⟨rfl, rfl, hne⟩ | ⟨k, hk, rfl, hsk, hj⟩
    · exact ⟨_, rfl, ne0 (by decide)⟩
    rcases hj with rfl | ⟨m, hm, rfl⟩
    · exact ⟨_, rfl, ne0 (by decide)⟩
    rw [if_neg (by simp), inO_at (by omega) (by omega), getO_at rfl hk]
    have hck := h1 _ (List.getElem_mem hk)
    have h32 : l[k].fEpochs.length ≤ 32 := hck.2.2.1
    simp only [Option.bind_some]
    rw [cutO_at (a := 0) (i := 0) (j := m) rfl rfl (by omega) (by omega), Option.bind_some, appO_at (by simp; omega), Option.bind_some, w64 (n := (m : Int) + 1) (by omega) (by omega), cutO_at (i := m + 1) (j := l[k].fEpochs.length) (by omega) rfl (by omega) (Nat.le_refl _), Option.bind_some,
      appO_at (by simp; omega), Option.bind_some, modO_at (i := k) rfl hk]
    simp only [Option.bind_some]
    have hep : ([] : List Epoch) ++ List.take (m - 0) (List.drop 0 l[k].fEpochs) ++ List.take (l[k].fEpochs.length - (m + 1)) (List.drop (m + 1) l[k].fEpochs) = l[k].fEpochs.eraseIdx m := by
      rw [List.take_of_length_le (l := List.drop (m + 1) l[k].fEpochs) (by simp), List.eraseIdx_eq_take_drop_succ]; rfl
    rw [hep]
    have hsub : (l[k].fEpochs.eraseIdx m).Sublist l[k].fEpochs := List.eraseIdx_sublist _ _
    obtain ⟨A, B, hAB, hA⟩ := split_at hk
    generalize l[k] = c0 at *
    subst hAB hA
    have hset : (A ++ c0 :: B).set A.length ⟨c0.fSource, c0.fEpochs.eraseIdx m⟩ = A ++ ⟨c0.fSource, c0.fEpochs.eraseIdx m⟩ :: B := by simp
    rw [hset]
    have hcv : CV ⟨c0.fSource, c0.fEpochs.eraseIdx m⟩ 0 := ⟨hck.1, Nat.zero_le _, Nat.le_trans hsub.length_le hck.2.2.1, fun e he => hck.2.2.2.1 e (hsub.subset he), hck.2.2.2.2.sublist hsub⟩
    have hs2 : Srt (A ++ ⟨c0.fSource, c0.fEpochs.eraseIdx m⟩ :: B) := by unfold Srt at h2 ⊢; simpa using h2
    have hAv : ∀ x ∈ A, CV x 1 := fun x hx => h1 x (by simp [hx])
    have hBv : ∀ x ∈ B, CV x 1 := fun x hx => h1 x (by simp [hx])
    generalize hd : (⟨c0.fSource, c0.fEpochs.eraseIdx m⟩ : Chan) = d at *
    have hn : (A ++ d :: B).length ≤ 128 := by simp at h3 ⊢; omega
    have hkd : A.length < (A ++ d :: B).length := by simp
    have hgd : (A ++ d :: B)[A.length]'hkd = d := by simp
    unfold ref20_Apply_k60
    simp only
    by_cases hk1 : c.fKind = 1
    · rw [if_pos (by simpa using hk1), inO_at (by omega) (by omega), getO_at rfl hkd, hgd]
      simp only [Option.bind_some]
      by_cases he0 : d.fEpochs.length = 0
      · rw [if_pos (by simp only [beq_iff_eq]; omega), subO_at (by omega) (by omega) (by omega), Option.bind_some, w64 (n := (A.length : Int) + 1) (by omega) (by omega), subO_at (by omega) (by omega) (by omega), Option.bind_some]
        have t1 : (0 + ((A.length : Int) + 1).toNat) = A.length + 1 := by omega
        have t2 : (0 + (((A ++ d :: B).length : Nat) : Int).toNat) = (A ++ d :: B).length := by omega
        rw [t1, t2, partO_at (by omega) (by omega), Option.bind_some, Int.toNat_natCast]
        have e1 : (A ++ d :: B).take A.length = A := by simp
        have e2 : List.take ((A ++ d :: B).length - (A.length + 1)) (List.drop (A.length + 1) (A ++ d :: B)) = B := by
          have : List.drop (A.length + 1) (A ++ d :: B) = B := by rw [List.drop_append]; simp
          rw [this]; exact List.take_of_length_le (by simp; omega)
        rw [e1, e2, appO_at (by simp at hn; omega), Option.bind_some]
        refine ⟨_, rfl, fun _ => ⟨fun x hx => ?_, ?_, by simp at hn ⊢; omega⟩⟩
        · rcases List.mem_append.1 hx with hx | hx
          · exact hAv x hx
          · exact hBv x hx
        · unfold Srt at hs2 ⊢
          refine hs2.sublist ?_
          simp
      · rw [if_neg (by simp only [beq_iff_eq]; omega)]
        refine ⟨_, rfl, fun _ => ⟨fun x hx => ?_, hs2, hn⟩⟩
        rcases List.mem_append.1 hx with hx | hx
        · exact hAv x hx
        rcases List.mem_cons.1 hx with rfl | hx
        · exact ⟨hcv.1, by omega, hcv.2.2⟩
        · exact hBv x hx
    · rw [if_neg (by simpa using hk1), if_neg (by simp)]
      exact k37_ok hAv hBv hcv hs2 (by omega) (hb hk1) hr
end Go.Dw.It
