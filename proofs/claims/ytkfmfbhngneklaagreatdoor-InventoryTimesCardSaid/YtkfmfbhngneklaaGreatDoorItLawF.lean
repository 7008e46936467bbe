/- ItLawF: the inventories that the dice make are valid. -/
import Derived.Test.YtkfmfbhngneklaaGreatDoorItLawE
set_option maxRecDepth 100000
set_option maxHeartbeats 4000000
namespace Go.Dw.It
open Go.Dw

theorem eta_d (d : Dice) : T_seismonetmade_Dice.mk d.fL d.fAt = d := rfl
theorem pick_ok {l : List Int} {d : Dice} (h1 : 1 ≤ l.length) (h2 : l.length ≤ 1000000) (hd : DiceOk d) : ∃ v d', Dice_Pick l d = some (v, d') ∧ v ∈ l ∧ DiceOk d' := by
  obtain ⟨v, d', e, a, b, hd⟩ := next_ok (k := (l.length : Int)) (by omega) (by omega) hd
  obtain ⟨x, hx, g⟩ := getO_in (l := l) a b
  exact ⟨x, d', by unfold Dice_Pick; rw [e, Option.bind_some]; simp only; rw [g]; rfl, hx, hd⟩
theorem new_ok : ∀ a ∈ ([1, 3, 20, 100, 40, 4096, 7] : List Int), ∀ b ∈ ([1, 1, 1, 3, 7, 4096] : List Int), ∃ r, ref02_New a b = some r := by
  have : (([1, 3, 20, 100, 40, 4096, 7] : List Int).all fun a => ([1, 1, 1, 3, 7, 4096] : List Int).all fun b => (ref02_New_c a b).isSome) = true := by kernel_rfl
  intro a ha b hb
  have := List.all_eq_true.1 (List.all_eq_true.1 this a ha) b hb
  obtain ⟨r, hr⟩ := Option.isSome_iff_exists.1 this
  exact ⟨r, ref02_New_le _ _ _ hr⟩
theorem rate_ok {d : Dice} (hd : DiceOk d) : ∃ r d', Dice_Rate d = some (r, d') ∧ DiceOk d' := by
  obtain ⟨v1, d1, e1, m1, hd⟩ := pick_ok (l := [1, 3, 20, 100, 40, 4096, 7]) (by simp) (by simp) hd
  obtain ⟨v2, d2, e2, m2, hd⟩ := pick_ok (l := [1, 1, 1, 3, 7, 4096]) (by simp) (by simp) hd
  obtain ⟨r, hr⟩ := new_ok v1 m1 v2 m2
  exact ⟨r.1, d2, by unfold Dice_Rate; rw [e1, Option.bind_some]; simp only; rw [e2, Option.bind_some]; simp only; rw [hr]; rfl, hd⟩
theorem taps_ok {n : Int} {d : Dice} {t : List Int} (h0 : 0 ≤ n) (h1 : n ≤ 2) (ht : t.length ≤ 1) (hd : DiceOk d) : ∃ d' t', loopO Dice_Stage_l31 (n, d.fL, d.fAt, t) = some (d'.fL, d'.fAt, t') ∧ DiceOk d' ∧ t'.length ≤ 10 := by
  obtain ⟨o, h, hq⟩ := loop_ind (body := Dice_Stage_l31) (fun s => 0 ≤ s.1 ∧ s.1 ≤ 2 ∧ DiceOk ⟨s.2.1, s.2.2.1⟩ ∧ (s.2.2.2.length : Int) + 2 * s.1 ≤ 10) (fun s => s.1.toNat) (fun o => DiceOk ⟨o.1, o.2.1⟩ ∧ o.2.2.length ≤ 10) (by
    rintro ⟨n, L, a, t⟩ ⟨h0, h1, hd, ht⟩
    simp only at h0 h1 hd ht
    unfold Dice_Stage_l31
    simp only
    by_cases hn : n > 0
    · obtain ⟨v, d', e, -, -, hd⟩ := next_ok (k := 4) (by omega) (by omega) hd
      rw [if_pos (decide_eq_true hn), e, Option.bind_some, appO_at (by simp; omega), Option.bind_some, appO_at (by simp; omega), Option.bind_some, w64 (by omega) (by omega)]
      exact .inl ⟨_, rfl, ⟨by simp only; omega, by simp only; omega, hd, by simp; omega⟩, by simp only; omega⟩
    · rw [if_neg (by simpa using hn)]
      exact .inr ⟨_, rfl, hd, by simp only; omega⟩) (n, d.fL, d.fAt, t) ⟨h0, h1, hd, by simp only; omega⟩
  exact ⟨⟨o.1, o.2.1⟩, o.2.2, h, hq.1, hq.2⟩
theorem stage_ok {d : Dice} (hd : DiceOk d) : ∃ s d', Dice_Stage d = some (s, d') ∧ DiceOk d' ∧ s.fTaps.length ≤ 11 := by
  unfold Dice_Stage
  obtain ⟨v1, d1, e1, l1, u1, hd⟩ := next_ok (k := 3) (by omega) (by omega) hd
  rw [e1, Option.bind_some]
  simp only
  by_cases h0 : v1 = 0
  · obtain ⟨v2, d2, e2, -, -, hd⟩ := next_ok (k := 9) (by omega) (by omega) hd
    obtain ⟨v3, d3, e3, -, -, hd⟩ := next_ok (k := 9) (by omega) (by omega) hd
    rw [if_pos (by simpa using h0), e2, Option.bind_some]
    simp only
    rw [e3]
    exact ⟨_, _, rfl, hd, by simp⟩
  rw [if_neg (by simpa using h0)]
  by_cases h1 : v1 = 1
  · obtain ⟨v2, d2, e2, -, -, hd⟩ := next_ok (k := 9) (by omega) (by omega) hd
    obtain ⟨v3, d3, e3, -, -, hd⟩ := next_ok (k := 9) (by omega) (by omega) hd
    obtain ⟨v4, d4, e4, -, -, hd⟩ := next_ok (k := 3) (by omega) (by omega) hd
    obtain ⟨v5, d5, e5, -, hd⟩ := pick_ok (l := [1, 2, -3, 1048576]) (by simp) (by simp) hd
    obtain ⟨v6, d6, e6, -, -, hd⟩ := next_ok (k := 9) (by omega) (by omega) hd
    obtain ⟨v7, d7, e7, -, hd⟩ := pick_ok (l := [0, 1, 1048576]) (by simp) (by simp) hd
    simp only [h1, beq_self_eq_true, if_true, e2, e3, e4, e5, e6, e7, Option.bind_some]
    exact ⟨_, _, rfl, hd, by simp⟩
  rw [if_neg (by simpa using h1)]
  obtain ⟨v2, d2, e2, -, -, hd⟩ := next_ok (k := 4) (by omega) (by omega) hd
  obtain ⟨v3, d3, e3, -, hd⟩ := pick_ok (l := [1, 1, 2, 5]) (by simp) (by simp) hd
  obtain ⟨v4, d4, e4, -, -, hd⟩ := next_ok (k := 5) (by omega) (by omega) hd
  obtain ⟨v5, d5, e5, l5, u5, hd⟩ := next_ok (k := 3) (by omega) (by omega) hd
  obtain ⟨d6, t, e6, hd, ht⟩ := taps_ok (n := v5) (t := [(IntKind.wrap .i64 ((1 : Int) + v2))]) l5 (by omega) (by simp) hd
  obtain ⟨v7, d7, e7, -, -, hd⟩ := next_ok (k := 6) (by omega) (by omega) hd
  simp only [e2, e3, e4, e5, e6, eta_d, e7, Option.bind_some]
  by_cases h7 : v7 = 0
  · rw [if_pos (by simpa using h7), appO_at (by simp; omega)]
    exact ⟨_, _, rfl, hd, by simp; omega⟩
  · rw [if_neg (by simpa using h7)]
    exact ⟨_, _, rfl, hd, by simp only; omega⟩
theorem response_ok {d : Dice} (hd : DiceOk d) : ∃ r d', Dice_Response d = some (r, d') ∧ DiceOk d' ∧ ROk r := by
  obtain ⟨v1, d1, e1, l1, u1, hd⟩ := next_ok (k := 4) (by omega) (by omega) hd
  obtain ⟨o, h, hq⟩ := loop_ind (body := Dice_Response_l17) (fun s => 0 ≤ s.2.1 ∧ s.2.1 ≤ 3 ∧ DiceOk ⟨s.2.2.1, s.2.2.2.1⟩ ∧ (s.2.2.2.2.length : Int) + s.2.1 ≤ 3 ∧ ∀ x ∈ s.2.2.2.2, x.fTaps.length ≤ 11) (fun s => s.2.1.toNat)
    (fun o => DiceOk ⟨o.1, o.2.1⟩ ∧ o.2.2.length ≤ 3 ∧ ∀ x ∈ o.2.2, x.fTaps.length ≤ 11) (by
    rintro ⟨p, n, L, a, t⟩ ⟨h0, h1, hd, ht, hx⟩
    simp only at h0 h1 hd ht hx
    unfold Dice_Response_l17
    simp only
    by_cases hn : n > 0
    · obtain ⟨s, d', e, hd, hs⟩ := stage_ok hd
      rw [if_pos (decide_eq_true hn), e, Option.bind_some]
      have hx' : ∀ x ∈ t ++ [s], x.fTaps.length ≤ 11 := fun x h => by
        rcases List.mem_append.1 h with h | h
        · exact hx x h
        · rw [List.mem_singleton.1 h]; exact hs
      have happ : appO t [s] 96 = some (t ++ [s]) := appO_at (by simp; omega)
      simp only [happ, Option.bind_some]
      rw [w64 (n := n - 1) (by omega) (by omega)]
      split
      · split
        · exact .inr ⟨_, rfl, hd, by simp only; omega, hx⟩
        · exact .inl ⟨_, rfl, ⟨by simp only; omega, by simp only; omega, hd, by simp; omega, hx'⟩, by simp only; omega⟩
      · exact .inl ⟨_, rfl, ⟨by simp only; omega, by simp only; omega, hd, by simp; omega, hx'⟩, by simp only; omega⟩
    · rw [if_neg (by simpa using hn)]
      exact .inr ⟨_, rfl, hd, by simp only; omega, hx⟩) (1, v1, d1.fL, d1.fAt, []) ⟨l1, by simp only; omega, hd, by simp; omega, by simp⟩
  refine ⟨⟨o.2.2⟩, ⟨o.1, o.2.1⟩, ?_, hq.1, by simp only; omega, fun s hs => by have := hq.2.2 s hs; omega⟩
  unfold Dice_Response
  rw [e1, Option.bind_some]
  simp only
  rw [h]; rfl
theorem epoch_ok {d : Dice} (hd : DiceOk d) : ∃ e d', Dice_Epoch d = some (e, d') ∧ DiceOk d' ∧ ROk e.fResponse := by
  obtain ⟨v1, d1, e1, -, -, hd⟩ := next_ok (k := 20) (by omega) (by omega) hd
  obtain ⟨v2, d2, e2, hd⟩ := rate_ok hd
  obtain ⟨v3, d3, e3, -, -, hd⟩ := next_ok (k := 8) (by omega) (by omega) hd
  obtain ⟨v4, d4, e4, -, hd⟩ := pick_ok (l := [0, 500, -1048576, 1048576]) (by simp) (by simp) hd
  obtain ⟨v5, d5, e5, -, -, hd⟩ := next_ok (k := 1000) (by omega) (by omega) hd
  obtain ⟨v6, d6, e6, -, hd⟩ := pick_ok (l := [0, -200, -16384]) (by simp) (by simp) hd
  obtain ⟨v7, d7, e7, -, -, hd⟩ := next_ok (k := 2) (by omega) (by omega) hd
  unfold Dice_Epoch
  simp only [e1, e2, e3, e4, e5, e6, e7, Option.bind_some]
  by_cases h7 : v7 = 0
  · obtain ⟨r, d8, e8, hd, hr⟩ := response_ok hd
    rw [if_pos (by simpa using h7), e8]
    exact ⟨_, _, rfl, hd, hr⟩
  · rw [if_neg (by simpa using h7)]
    exact ⟨_, _, rfl, hd, by simp [ROk]⟩
theorem k42_ok {l : List Chan} (hl : IV l) {x1 : Int × Dice} {x2 : Src × Dice} (hs : IsSrc x2.1) {L : List Int} {a : Int} (hd : DiceOk ⟨L, a⟩) (j15 j16 j17 j18 j19 j20 j21 j22 : Int) {j23 : List Stage} (hr : ROk ⟨j23⟩) :
    ∃ c d', Dice_Change_k42 ⟨l⟩ x1 x2 L a j15 j16 j17 j18 j19 j20 j21 j22 j23 = some (c, d') ∧ DiceOk d' ∧ IsSrc c.fSource ∧ ROk c.fEpoch.fResponse := by
  obtain ⟨h1, h2, h3⟩ := hl
  unfold Dice_Change_k42
  simp only
  by_cases hn : l.length = 0
  · rw [if_neg (by simp [hn])]
    exact ⟨_, _, rfl, hd, hs, hr⟩
  rw [if_pos (decide_eq_true (by omega))]
  obtain ⟨v1, d1, e1, -, -, hd⟩ := next_ok (k := 3) (by omega) (by omega) hd
  rw [e1, Option.bind_some]
  simp only
  by_cases hv1 : v1 > 0
  · rw [if_pos (decide_eq_true hv1)]
    obtain ⟨v2, d2, e2, a2, b2, hd⟩ := next_ok (k := (l.length : Int)) (by omega) (by omega) hd
    obtain ⟨c, hc, g⟩ := getO_in (l := l) a2 b2
    rw [e2, Option.bind_some]
    simp only
    rw [g, Option.bind_some]
    have hcv := h1 c hc
    have b32 := hcv.2.2.1
    have b1 := hcv.2.1
    by_cases hk : x1.1 = 0
    · rw [if_neg (by simpa using hk)]
      exact ⟨_, _, rfl, hd, hcv.1, hr⟩
    rw [if_pos (by simpa using hk)]
    obtain ⟨v3, d3, e3, a3, b3, hd⟩ := next_ok (k := (c.fEpochs.length : Int)) (by omega) (by omega) hd
    obtain ⟨e, he, g3⟩ := getO_in (l := c.fEpochs) a3 b3
    rw [e3, Option.bind_some]
    simp only
    rw [g3, Option.bind_some]
    have her := (hcv.2.2.2.1 e he).2
    by_cases hk2 : x1.1 = 2
    · rw [if_pos (by simpa using hk2)]
      obtain ⟨v4, d4, e4, -, -, hd⟩ := next_ok (k := 3) (by omega) (by omega) hd
      rw [e4, Option.bind_some]
      simp only
      by_cases hv4 : v4 > 0
      · obtain ⟨v5, d5, e5, -, -, hd⟩ := next_ok (k := 3) (by omega) (by omega) hd
        rw [if_pos (decide_eq_true hv4), copyE her, Option.bind_some, e5, Option.bind_some]
        simp only
        by_cases z0 : v5 = 0
        · obtain ⟨v6, d6, e6, -, hd⟩ := pick_ok (l := [-1, 500, 3000]) (by simp) (by simp) hd
          rw [if_pos (by simpa using z0), e6]
          exact ⟨_, _, rfl, hd, hcv.1, her⟩
        rw [if_neg (by simpa using z0)]
        by_cases z1 : v5 = 1
        · rw [if_pos (by simpa using z1)]
          exact ⟨_, _, rfl, hd, hcv.1, her⟩
        rw [if_neg (by simpa using z1)]
        by_cases z2 : v5 = 2
        · obtain ⟨r, d6, e6, hd, hr6⟩ := response_ok hd
          rw [if_pos (by simpa using z2), e6]
          exact ⟨_, _, rfl, hd, hcv.1, hr6⟩
        rw [if_neg (by simpa using z2)]
        exact ⟨_, _, rfl, hd, hcv.1, her⟩
      · rw [if_neg (by simpa using hv4)]
        exact ⟨_, _, rfl, hd, hcv.1, hr⟩
    · rw [if_neg (by simpa using hk2)]
      exact ⟨_, _, rfl, hd, hcv.1, hr⟩
  · rw [if_neg (by simpa using hv1)]
    exact ⟨_, _, rfl, hd, hs, hr⟩
theorem change_ok {l : List Chan} (hl : IV l) {d : Dice} (hd : DiceOk d) : ∃ c d', Dice_Change ⟨l⟩ d = some (c, d') ∧ DiceOk d' ∧ IsSrc c.fSource ∧ ROk c.fEpoch.fResponse := by
  obtain ⟨v1, d1, e1, -, hd⟩ := pick_ok (l := [0, 0, 1, 2]) (by simp) (by simp) hd
  obtain ⟨s, d2, e2, hs, hd⟩ := source_ok hd
  unfold Dice_Change
  rw [e1, Option.bind_some]
  simp only
  rw [e2, Option.bind_some]
  simp only
  by_cases hv : v1 = 1
  · rw [if_neg (by simpa using hv)]
    exact k42_ok hl (x2 := (s, d2)) hs hd _ _ _ _ _ _ _ _ (by simp [ROk])
  · rw [if_pos (by simpa using hv)]
    obtain ⟨e, d3, e3, hd, hr⟩ := epoch_ok hd
    rw [e3, Option.bind_some]
    exact k42_ok hl (x2 := (s, d2)) hs hd _ _ _ _ _ _ _ _ hr
theorem inventory_ok {n : Int} {d : Dice} (h0 : 0 ≤ n) (h1 : n ≤ 1000) (hd : DiceOk d) : ∃ l d', Dice_Inventory n d = some (⟨l⟩, d') ∧ DiceOk d' ∧ IV l := by
  obtain ⟨v1, d1, e1, l1, u1, hd⟩ := next_ok (k := n + 1) (by omega) (by omega) hd
  obtain ⟨o, h, hq⟩ := loop_ind (body := Dice_Inventory_l17) (fun s => 0 ≤ s.1 ∧ s.1 ≤ 1001 ∧ DiceOk ⟨s.2.1, s.2.2.1⟩ ∧ IV s.2.2.2) (fun s => s.1.toNat) (fun o => DiceOk ⟨o.2.1, o.2.2⟩ ∧ IV o.1) (by
    rintro ⟨n, L, a, l⟩ ⟨h0, h1, hd, hl⟩
    simp only at h0 h1 hd hl
    unfold Dice_Inventory_l17
    simp only
    by_cases hn : n > 0
    · obtain ⟨c, d', e, hd, hs, hr⟩ := change_ok hl hd
      obtain ⟨r, er, hr'⟩ := apply_ok (c := c) hl hs hr
      rw [if_pos (decide_eq_true hn), e, Option.bind_some]
      simp only
      rw [er, Option.bind_some, w64 (n := n - 1) (by omega) (by omega)]
      by_cases h2 : r.2 = 0
      · rw [if_pos (by simpa using h2)]
        exact .inl ⟨_, rfl, ⟨by simp only; omega, by simp only; omega, hd, hr' h2⟩, by simp only; omega⟩
      · rw [if_neg (by simpa using h2)]
        exact .inl ⟨_, rfl, ⟨by simp only; omega, by simp only; omega, hd, hl⟩, by simp only; omega⟩
    · rw [if_neg (by simpa using hn)]
      exact .inr ⟨_, rfl, hd, hl⟩) (v1, d1.fL, d1.fAt, []) ⟨l1, by simp only; omega, hd, by simp [IV, Srt]⟩
  refine ⟨o.1, ⟨o.2.1, o.2.2⟩, ?_, hq.1, hq.2⟩
  unfold Dice_Inventory
  rw [w64 (n := n + 1) (by omega) (by omega), e1, Option.bind_some]
  simp only
  rw [h]; rfl
end Go.Dw.It
