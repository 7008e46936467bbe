/- ItLaw: the law InventoryTimes in plain Lean. -/
import Derived.Test.YtkfmfbhngneklaaGreatDoorItLawG
set_option maxRecDepth 100000
set_option maxHeartbeats 4000000
namespace Go.Dw.It
open Go.Dw

def one : Inv := ⟨[⟨⟨[65], [66], [], [72, 72, 90]⟩, [⟨10, 20, ⟨100, 1⟩, ⟨0, 0, 0⟩, ⟨[]⟩⟩, ⟨20, 30, ⟨100, 1⟩, ⟨5, 0, 0⟩, ⟨[]⟩⟩]⟩]⟩
def oneS : Src := ⟨[65], [66], [], [72, 72, 90]⟩
theorem sort2 : sortO span_Normal_lit2 [⟨10, 20⟩, ⟨20, 30⟩] = some [⟨10, 20⟩, ⟨20, 30⟩] := by
  obtain ⟨r, h1, h2, h3⟩ := sortO_sorted lit2_ok [⟨10, 20⟩, ⟨20, 30⟩] (by simp)
  rw [h1]
  have hl := h2.length_eq
  match r, hl with
  | [x, y], _ =>
    have hx : x ∈ ([⟨10, 20⟩, ⟨20, 30⟩] : List Span) := h2.mem_iff.1 (by simp)
    have hy : y ∈ ([⟨10, 20⟩, ⟨20, 30⟩] : List Span) := h2.mem_iff.1 (by simp)
    have ha : (⟨10, 20⟩ : Span) ∈ [x, y] := h2.mem_iff.2 (by simp)
    have hb : (⟨20, 30⟩ : Span) ∈ [x, y] := h2.mem_iff.2 (by simp)
    have hs := (List.pairwise_cons.1 h3).1 y (by simp)
    rw [lit2_lt] at hs
    simp only [List.mem_cons, List.not_mem_nil, or_false] at hx hy ha hb
    rcases hx with rfl | rfl <;> rcases hy with rfl | rfl
    · simp at hb
    · rfl
    · simp [cmpI] at hs
    · simp at ha
theorem sane_at : law19_sane = some true := by
  have h0 : law19_one = some one := rfl
  have h1 : inventory_At one oneS 20 = some (⟨20, 30, ⟨100, 1⟩, ⟨5, 0, 0⟩, ⟨[]⟩⟩, 0) := inventory_At_le _ _ _ _ (by kernel_rfl)
  have h2 : inventory_At one oneS 30 = some (⟨0, 0, ⟨0, 0⟩, ⟨0, 0, 0⟩, ⟨[]⟩⟩, 6) := inventory_At_le _ _ _ _ (by kernel_rfl)
  have h3 : inventory_Valid one = some true := inventory_Valid_le _ _ (by kernel_rfl)
  have h4 : inventory_Find one oneS = some (⟨oneS, [⟨10, 20, ⟨100, 1⟩, ⟨0, 0, 0⟩, ⟨[]⟩⟩, ⟨20, 30, ⟨100, 1⟩, ⟨5, 0, 0⟩, ⟨[]⟩⟩]⟩, true) := inventory_Find_le _ _ _ (by kernel_rfl)
  have h5 : loopO (inventory_Times_l11 (⟨oneS, [⟨10, 20, ⟨100, 1⟩, ⟨0, 0, 0⟩, ⟨[]⟩⟩, ⟨20, 30, ⟨100, 1⟩, ⟨5, 0, 0⟩, ⟨[]⟩⟩]⟩, true)) ((0 : Int), ([] : List Span)) = some [⟨10, 20⟩, ⟨20, 30⟩] :=
    Le.loop (body := inventory_Times_l11_c _) (fun s => inventory_Times_l11_le _ s) fuelC _ _ (by kernel_rfl)
  have h6 : loopO (span_Normal_l26 [⟨10, 20⟩, ⟨20, 30⟩]) ((0 : Int), ([] : List Span)) = some [⟨10, 30⟩] := Le.loop (body := span_Normal_l26_c _) (fun s => span_Normal_l26_le _ s) fuelC _ _ (by kernel_rfl)
  have h7 : inventory_Times one oneS = some [⟨10, 30⟩] := by
    unfold inventory_Times span_Normal
    rw [h3, Option.bind_some, if_neg (by decide), h4, Option.bind_some, h5, Option.bind_some, clone_at (by simp), Option.bind_some, del_ok (by simp) (by simp), Option.bind_some, sort2, Option.bind_some, h6]; rfl
  have h8 : ref08_Same [⟨10, 30⟩] [⟨10, 30⟩] = some true := ref08_Same_le _ _ _ (by kernel_rfl)
  have h9 : getO one.fChannels 0 = some ⟨oneS, [⟨10, 20, ⟨100, 1⟩, ⟨0, 0, 0⟩, ⟨[]⟩⟩, ⟨20, 30, ⟨100, 1⟩, ⟨5, 0, 0⟩, ⟨[]⟩⟩]⟩ := rfl
  unfold law19_sane
  simp only [h0, h9, h1, h2, h3, h7, h8, Option.bind_some]
  rfl
theorem loop_true {ω : Type} {body : Int → Option (Step1 Int ω)} (n : Nat) {u : ω} (h1 : ∀ i, i < n → body i = some (.next ((i + 1 : Nat) : Int))) (h2 : body (n : Nat) = some (.stop u)) : loopO body (0 : Int) = some u := by
  have := loop_all (body := body) n (q := fun _ => true) (u := u) (r := u) (fun i hi => by rw [h1 i hi]; rfl) h2
  simpa using this
theorem equal_refl {l : List Int} (hl : l.length ≤ 4000000000) : slices_Equal_int l l = some true := by
  unfold slices_Equal_int
  rw [if_neg (by simp), loop_true (body := slices_Equal_int_l8 l l) l.length (u := .inl ()) (fun i hi => by
    unfold slices_Equal_int_l8
    rw [if_pos (decide_eq_true (by omega)), getO_at rfl hi, w64 (by omega) (by omega)]
    simp) (by
    unfold slices_Equal_int_l8
    rw [if_neg (by simp)])]
  rfl
theorem stage_refl {s : Stage} (hs : s.fTaps.length ≤ 4000000000) : response_Same_lit1 s s = some true := by
  unfold response_Same_lit1
  simp [equal_refl hs]
theorem resp_refl {r : Resp} (hr : ROk r) : response_Same r r = some true := by
  obtain ⟨hl, ht⟩ := hr
  unfold response_Same slices_EqualFunc_Stage_lit1
  rw [if_neg (by simp), loop_true (body := slices_EqualFunc_Stage_lit1_l9 r.fStages r.fStages) r.fStages.length (u := .inl ()) (fun i hi => by
    unfold slices_EqualFunc_Stage_lit1_l9
    rw [if_pos (decide_eq_true (by omega)), getO_at rfl hi, w64 (by omega) (by omega)]
    simp only [Option.bind_some, stage_refl (ht _ (List.getElem_mem hi))]
    rfl) (by
    unfold slices_EqualFunc_Stage_lit1_l9
    rw [if_neg (by simp)])]
  rfl
theorem epoch_refl {e : Epoch} (he : ROk e.fResponse) : inventory_SameEpoch e e = some true := by
  unfold inventory_SameEpoch
  simp [resp_refl he]
theorem Same_refl {l : List Src} (hl : l.length ≤ 4000000000) : ref03_Same l l = some true := by
  unfold ref03_Same
  rw [if_neg (by simp), loop_true (body := ref03_Same_l8 l l) l.length (u := .inl ()) (fun i hi => by
    unfold ref03_Same_l8
    simp only [eqs]
    rw [if_pos (decide_eq_true (by omega)), getO_at rfl hi, w64 (by omega) (by omega)]
    simp) (by
    unfold ref03_Same_l8
    rw [if_neg (by simp)])]
  rfl

def timeX (x6 : Int) : Int := IntKind.wrap .i64 ((IntKind.wrap .i64 ((1000000000000 : Int) + x6)) - (1000 : Int))
theorem filter_take {α : Type} {l : List α} {q : α → Bool} {i : Nat} (hi : i < l.length) : (l.take (i + 1)).filter q = (l.take i).filter q ++ (if q l[i] = true then [l[i]] else []) := by
  rw [take_succ_at hi, List.filter_append]
  by_cases h : q l[i] = true <;> simp [h]
theorem count_ok {c : Chan} (hc : CV c 1) {x6 : Int} {e : Epoch × Int} (he : ∀ y ∈ c.fEpochs, ins (timeX x6) y = true → y = e.1) (s7 : Int) (s8 : List Src) :
    loopO (law19_InventoryTimes_l28 c x6 e s7 s8) ((0 : Int), (0 : Int)) = some (.inl (((c.fEpochs.filter (ins (timeX x6))).length : Int), s7, s8)) := by
  have h32 := hc.2.2.1
  exact loop_run (body := law19_InventoryTimes_l28 c x6 e s7 s8) c.fEpochs.length (fun i => ((((c.fEpochs.take i).filter (ins (timeX x6))).length : Int), (i : Int))) (fun i hi => by
    have hlen : ((c.fEpochs.take i).filter (ins (timeX x6))).length ≤ i := Nat.le_trans (List.length_filter_le _ _) (by simp; omega)
    unfold law19_InventoryTimes_l28
    simp only
    rw [if_pos (decide_eq_true (by omega)), getO_at rfl hi, filter_take hi]
    simp only [Option.bind_some]
    rw [w64 (n := (i : Int) + 1) (by omega) (by omega), w64 (n := (((c.fEpochs.take i).filter (ins (timeX x6))).length : Int) + 1) (by omega) (by omega)]
    have hx : (IntKind.wrap .i64 ((IntKind.wrap .i64 ((1000000000000 : Int) + x6)) - (1000 : Int))) = timeX x6 := rfl
    rw [hx]
    by_cases h1 : c.fEpochs[i].fFrom ≤ timeX x6
    · by_cases h2 : timeX x6 < c.fEpochs[i].fTo
      · have hin : ins (timeX x6) c.fEpochs[i] = true := ins_iff.2 ⟨h1, h2⟩
        have := he _ (List.getElem_mem hi) hin
        rw [if_pos (decide_eq_true h1), if_pos (decide_eq_true h2), ← this, epoch_refl (hc.2.2.2.1 _ (List.getElem_mem hi)).2, hin]
        simp
      · have hin : ins (timeX x6) c.fEpochs[i] = false := by unfold ins; simp [h2]
        rw [if_pos (decide_eq_true h1), if_neg (by simpa using h2), hin]; simp
    · have hin : ins (timeX x6) c.fEpochs[i] = false := by unfold ins; simp [h1]
      rw [if_neg (by simpa using h1), hin]; simp) (by
    unfold law19_InventoryTimes_l28
    simp only
    rw [if_neg (by simp), List.take_length])
theorem k36_ok {c : Chan} (hc : CV c 1) {x6 : Int} {e : Epoch × Int} (he : ∀ y ∈ c.fEpochs, ins (timeX x6) y = true → y = e.1) {s7 : Int} {s8 : List Src} (h7 : 0 ≤ s7 ∧ s7 ≤ 1000) (h8 : s8.length ≤ 1000) :
    law19_InventoryTimes_k36 c x6 e s7 s8 (c.fEpochs.any (ins (timeX x6))) = some (.next (s7 + 1, s8 ++ if c.fEpochs.any (ins (timeX x6)) = true then [c.fSource] else [])) := by
  have h1 := ins_count hc.2.2.2.2 (timeX x6)
  unfold law19_InventoryTimes_k36
  rw [count_ok hc he, Option.bind_some]
  simp only
  rw [w64 (n := s7 + 1) (by omega) (by omega)]
  by_cases h : c.fEpochs.any (ins (timeX x6)) = true
  · have hpos : 0 < (c.fEpochs.filter (ins (timeX x6))).length := by
      obtain ⟨y, hy, h⟩ := List.any_eq_true.1 h
      exact List.length_pos_of_mem (List.mem_filter.2 ⟨hy, h⟩)
    have hone : (c.fEpochs.filter (ins (timeX x6))).length = 1 := by omega
    rw [h, hone, appO_at (by simp; omega)]
    simp
  · have h := Bool.not_eq_true _ ▸ h
    have hz : (c.fEpochs.filter (ins (timeX x6))).length = 0 := by
      rw [List.length_eq_zero_iff, List.filter_eq_nil_iff]
      intro y hy hy'
      have := List.any_eq_false.1 h y hy
      exact this hy'
    rw [h, hz]
    simp
theorem step_ok {l : List Chan} (hl : IV l) {d : Dice} {x6 : Int} {i : Nat} (hi : i < l.length) {s8 : List Src} (h8 : s8.length ≤ 1000) :
    law19_InventoryTimes_l45 (⟨l⟩, d) x6 ((i : Int), s8) = some (.next (((i + 1 : Nat) : Int), s8 ++ if l[i].fEpochs.any (ins (timeX x6)) = true then [l[i].fSource] else [])) := by
  have hn := hl.2.2
  have hc := hl.1 _ (List.getElem_mem hi)
  have h32 := hc.2.2.1
  unfold law19_InventoryTimes_l45
  simp only
  have hx : (IntKind.wrap .i64 ((IntKind.wrap .i64 ((1000000000000 : Int) + x6)) - (1000 : Int))) = timeX x6 := rfl
  obtain ⟨tm, e1, e2⟩ := times_ok hl hi (timeX x6)
  rw [if_pos (decide_eq_true (by omega)), getO_at rfl hi, hx]
  simp only [Option.bind_some, e1, e2]
  unfold inventory_At
  rw [vI_eq (IV_I hl), IV_vI hl, Option.bind_some, if_neg (by decide), find_ok hl hi, Option.bind_some]
  rcases at_ok (c := l[i]) (by omega) (timeX x6) with ⟨e, he, hin, ha⟩ | ⟨z, ha, hno⟩
  · have hany : l[i].fEpochs.any (ins (timeX x6)) = true := List.any_eq_true.2 ⟨e, he, hin⟩
    have hin' := ins_iff.1 hin
    have hk := k36_ok (e := (e, 0)) hc (fun y hy h => ins_one hc.2.2.2.2 hy he h hin) (s7 := (i : Int)) (s8 := s8) ⟨by omega, by omega⟩ h8
    rw [ha]
    simp only [Option.bind_some, Bool.not_true, Bool.false_eq_true, if_false]
    rw [hany] at hk ⊢
    rw [if_neg (by simp), if_pos (by simp), if_neg (by simp; omega), if_neg (by simp; omega), if_neg (by simp), hk]
    rfl
  · have hany : l[i].fEpochs.any (ins (timeX x6)) = false := List.any_eq_false.2 fun e he => by simp [hno e he]
    have hk := fun (e : Epoch × Int) => k36_ok (x6 := x6) (e := e) hc (fun y hy h => by rw [hno y hy] at h; cases h) (s7 := (i : Int)) (s8 := s8) ⟨by omega, by omega⟩ h8
    rw [ha]
    simp only [Option.bind_some, Bool.not_false, if_true]
    rw [hany] at hk ⊢
    rw [if_neg (by simp), if_neg (by simp), if_pos (by simp), if_neg (by simp), hk]
    rfl
def wantL (l : List Chan) (x : Int) : List Src := (l.filter fun c => c.fEpochs.any (ins x)).map (·.fSource)
theorem want_take {l : List Chan} {x : Int} {i : Nat} (hi : i < l.length) : wantL (l.take (i + 1)) x = wantL (l.take i) x ++ if l[i].fEpochs.any (ins x) = true then [l[i].fSource] else [] := by
  unfold wantL
  rw [filter_take hi, List.map_append]
  congr 1
  split <;> rfl
theorem want_len (l : List Chan) (x : Int) : (wantL l x).length ≤ l.length := by unfold wantL; rw [List.length_map]; exact List.length_filter_le _ _
theorem l45_ok {l : List Chan} (hl : IV l) {d : Dice} {x6 : Int} : loopO (law19_InventoryTimes_l45 (⟨l⟩, d) x6) ((0 : Int), ([] : List Src)) = some (.inl (wantL l (timeX x6))) := by
  have hn := hl.2.2
  exact loop_run (body := law19_InventoryTimes_l45 (⟨l⟩, d) x6) l.length (fun i => ((i : Int), wantL (l.take i) (timeX x6))) (fun i hi => by
    rw [step_ok hl hi (by have := want_len (l.take i) (timeX x6); simp at this; omega), want_take hi]) (by
    unfold law19_InventoryTimes_l45
    simp only
    rw [if_neg (by simp), List.take_length])

/-! ### Selections -/
theorem star_fits (s : List UInt8) : fitsB [42] s = true := by
  rw [fitsB_cons, if_pos rfl, List.any_eq_true]
  exact ⟨s.length, by simp, by simp [fitsB]⟩
theorem star_match (x : Src) : matchB [42] [42] [42] [42] x = true := by unfold matchB; simp [star_fits]
theorem star_pat : source_pattern [42, 46, 42, 46, 42, 46, 42] = some ([[42], [42], [42], [42]], true) := source_pattern_le _ _ (by kernel_rfl)
theorem sources_ok {l : List Chan} (hl : IV l) (x : Int) : inventory_Sources ⟨l⟩ [42, 46, 42, 46, 42, 46, 42] x = some (wantL l x, 0) := by
  have hn := hl.2.2
  have h1 : loopO (inventory_Sources_l12 ⟨l⟩ x) ((0 : Int), ([] : List Src)) = some (wantL l x) := loop_run (body := inventory_Sources_l12 ⟨l⟩ x) l.length (fun i => ((i : Int), wantL (l.take i) x)) (fun i hi => by
    have hc := hl.1 _ (List.getElem_mem hi)
    have h32 := hc.2.2.1
    have hw := want_len (l.take i) x
    simp only [List.length_take] at hw
    unfold inventory_Sources_l12
    simp only
    rw [if_pos (decide_eq_true (by omega)), getO_at rfl hi, want_take hi, w64 (by omega) (by omega)]
    simp only [Option.bind_some]
    rcases at_ok (c := l[i]) (by omega) x with ⟨e, he, hin, ha⟩ | ⟨z, ha, hno⟩
    · have hany : l[i].fEpochs.any (ins x) = true := List.any_eq_true.2 ⟨e, he, hin⟩
      rw [ha, hany]
      simp only [Option.bind_some, if_true]
      rw [appO_at (by simp; omega)]; rfl
    · have hany : l[i].fEpochs.any (ins x) = false := List.any_eq_false.2 fun e he => by simp [hno e he]
      rw [ha, hany]
      simp) (by
    unfold inventory_Sources_l12
    simp only
    rw [if_neg (by simp), List.take_length])
  have hsrc : ∀ s ∈ wantL l x, IsSrc s := fun s hs => by
    obtain ⟨c, hc, rfl⟩ := List.mem_map.1 hs
    exact (hl.1 c (List.mem_filter.1 hc).1).1
  have hlen := want_len l x
  unfold inventory_Sources
  rw [vI_eq (IV_I hl), IV_vI hl, Option.bind_some, if_neg (by decide), h1, Option.bind_some]
  generalize wantL l x = m at *
  have h2 : loopO (source_Select_l14 m ([[42], [42], [42], [42]], true)) ((0 : Int), ([] : List Src)) = some m := loop_run (body := source_Select_l14 m ([[42], [42], [42], [42]], true)) m.length (fun i => ((i : Int), m.take i)) (fun i hi => by
    obtain ⟨s1, s2⟩ := isSrc_ok (hsrc _ (List.getElem_mem hi))
    unfold source_Select_l14
    simp only
    rw [if_pos (decide_eq_true (by omega)), getO_at rfl hi, w64 (by omega) (by omega), take_succ_at hi]
    simp only [Option.bind_some, Valid_eq s1, s2, match_eq, star_match, if_true]
    rw [appO_at (by simp; omega)]; rfl) (by
    unfold source_Select_l14
    simp only
    rw [if_neg (by simp), List.take_length])
  unfold source_Select
  rw [star_pat, Option.bind_some, if_neg (by decide), h2]; rfl

theorem law_InventoryTimes (t : List Int) (n : Int) : law19_InventoryTimes t n = some true := by
  unfold law19_InventoryTimes made_Light
  rw [Option.bind_some]
  by_cases hlt : t.length ≤ 500
  · rw [if_neg (by simp; omega)]
    obtain ⟨d, e1, hd⟩ := roll_ok hlt
    obtain ⟨l, d2, e2, hd2, hl⟩ := inventory_ok (n := 8) (by omega) (by omega) hd
    have e3 : remO (IntKind.wrap .i64 n) 40000 = some ((IntKind.wrap .i64 n).tmod 40000) := by unfold remO; rw [if_neg (by omega)]
    rw [e1, Option.bind_some, e2, Option.bind_some, e3, Option.bind_some, l45_ok hl, Option.bind_some]
    simp only
    have hx : (IntKind.wrap .i64 ((IntKind.wrap .i64 ((1000000000000 : Int) + (IntKind.wrap .i64 n).tmod 40000)) - (1000 : Int))) = timeX ((IntKind.wrap .i64 n).tmod 40000) := rfl
    rw [hx, sources_ok hl, Option.bind_some]
    simp only [beq_self_eq_true, if_true]
    rw [Same_refl (by have := want_len l (timeX ((IntKind.wrap .i64 n).tmod 40000)); have := hl.2.2; omega), Option.bind_some, if_pos rfl, sane_at]; rfl
  · rw [if_pos (by simp; omega), sane_at]; rfl
end Go.Dw.It
