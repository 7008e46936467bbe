/- FeLawA: what the generators of the law's inputs make: dice, policies, events (plain Lean). -/
import Derived.Test.YtpeijlelfekcoaaGreatDoorFeCo
import Derived.Test.YtpeijlelfekcoaaGreatDoorDwOk
import Derived.Test.YtpeijlelfekcoaaGreatDoorDwText


set_option maxRecDepth 100000
set_option maxHeartbeats 4000000
namespace Go.Dw.Fe
open Go.Dw
abbrev Src := T_seismonetkeep_Src
abbrev Pick := T_api_Pick
abbrev Sid := T_api_SourceID
abbrev Ev := T_api_Event
abbrev Bul := T_api_Bulletin
abbrev Alert := T_api_Alert
abbrev Policy := T_api_Policy

/-! ### Numbers -/
theorem mod_ok (a b : Int) (h0 : 1 ≤ b) (h1 : b ≤ 1000000000) : Ok (keep_Mod a b) (fun r => 0 ≤ r ∧ r < b) := by
  unfold keep_Mod
  have hl : a.tmod b < b := Int.tmod_lt_of_pos _ (by omega)
  have hg : -b < a.tmod b := by
    rcases Int.le_total 0 a with h | h
    · have := Int.tmod_nonneg b h; omega
    · have e : a.tmod b = -((-a).tmod b) := by rw [Int.neg_tmod]; omega
      have := Int.tmod_lt_of_pos (-a) (show 0 < b by omega)
      omega
  refine Ok.iteD (fun _ => by omega) (fun _ => ?_)
  refine Ok.bind (Ok.rem (by omega)) (fun x hx => ?_)
  subst hx
  refine Ok.iteD (fun _ => ?_) (fun _ => ?_)
  · rw [w64 (by omega) (by omega)]
    exact Ok.ret (by omega)
  · exact Ok.ret (by omega)
def SrcOk (d : Src) : Prop := 0 ≤ d.fAt ∧ d.fAt ≤ d.fL.length ∧ d.fL.length ≤ 2000
theorem raw_ok (d : Src) (hd : SrcOk d) : Ok (Src_Raw d) (fun r => SrcOk r.2) := by
  obtain ⟨h0, h1, h2⟩ := hd
  unfold Src_Raw
  refine Ok.iteD (fun _ => Ok.ret ⟨h0, h1, h2⟩) (fun h => ?_)
  rw [w64 (n := d.fAt + 1) (by omega) (by omega), w64 (by omega) (by omega)]
  refine Ok.bind (Ok.get (by omega) (by omega)) (fun x _ => ?_)
  refine Ok.ret ⟨?_, ?_, h2⟩ <;> simp only <;> omega
theorem n_ok (k : Int) (d : Src) (hd : SrcOk d) (h0 : 1 ≤ k) (h1 : k ≤ 1000000000) : Ok (Src_N k d) (fun r => 0 ≤ r.1 ∧ r.1 < k ∧ SrcOk r.2) := by
  unfold Src_N
  refine Ok.bind (raw_ok d hd) (fun x hx => ?_)
  refine Ok.bind (mod_ok _ _ h0 h1) (fun y hy => ?_)
  exact Ok.ret ⟨hy.1, hy.2, hx⟩
theorem pick_ok (l : List Int) (d : Src) (hd : SrcOk d) (h0 : l ≠ []) (h1 : l.length ≤ 1000000) : Ok (Src_Pick l d) (fun r => r.1 ∈ l ∧ SrcOk r.2) := by
  unfold Src_Pick
  have := List.length_pos_iff.2 h0
  refine Ok.bind (n_ok _ d hd (by omega) (by omega)) (fun x hx => ?_)
  refine Ok.bind (Ok.get hx.1 hx.2.1) (fun y hy => ?_)
  exact Ok.ret ⟨hy.1, hx.2.2⟩
def stas : List (List UInt8) := [[83, 49], [83, 50], [83, 51], [83, 52], [83, 53], [83, 54]]
def IsSid (a : Sid) : Prop := ∃ x ∈ stas, a = ⟨[65, 66], x, [48, 48], [66, 72, 90]⟩
theorem source_ok (n : Int) : Ok (keep_Source n) IsSid := by
  unfold keep_Source
  refine Ok.bind (mod_ok n 6 (by omega) (by omega)) (fun x hx => ?_)
  refine Ok.bind (Ok.get hx.1 hx.2) (fun y hy => ?_)
  exact Ok.ret ⟨y, hy.1, rfl⟩
theorem new_ok (l : List Int) : Ok (keep_New l) SrcOk := by
  unfold keep_New
  refine Ok.bind (Ok.cut (by omega) (by split <;> omega) (by split <;> omega)) (fun x hx => ?_)
  subst hx
  refine Ok.ret ⟨by simp, by simp, ?_⟩
  simp only [List.length_take, List.length_drop]
  split <;> omega

/-! ### Policies -/
theorem policy_ok (d : Src) (hd : SrcOk d) : Ok (Src_Policy d) (fun r => r.1.fRules.length ≤ 8 ∧ SrcOk r.2) := by
  unfold Src_Policy
  refine Ok.bind (pick_ok _ d hd (by simp) (by simp)) (fun x1 h1 => ?_)
  refine Ok.bind (pick_ok _ _ h1.2 (by simp) (by simp)) (fun x2 h2 => ?_)
  refine Ok.bind (n_ok _ _ h2.2 (by omega) (by omega)) (fun x3 h3 => ?_)
  rw [w64 (by omega) (by omega)]
  refine Ok.bind (P := fun o => SrcOk ⟨o.1, o.2.1⟩ ∧ o.2.2.length ≤ 8) (Ok.loop (fun s => 0 ≤ s.1 ∧ s.1 + s.2.2.2.length ≤ 3 ∧ SrcOk ⟨s.2.1, s.2.2.1⟩) (fun s => s.1.toNat) ?_ ⟨by simp only; omega, by simp only [List.length_nil]; omega, h3.2.2⟩) ?_
  · rintro ⟨s4, s5, s6, s7⟩ ⟨i0, i1, i2⟩
    simp only at i0 i1 i2
    unfold Src_Policy_l18
    refine Ok.iteD (fun _ => ?_) (fun _ => ?_)
    · refine Ok.bind (n_ok _ _ i2 (by omega) (by omega)) (fun y1 g1 => ?_)
      refine Ok.bind (n_ok _ _ g1.2.2 (by omega) (by omega)) (fun y2 g2 => ?_)
      refine Ok.bind (pick_ok _ _ g2.2.2 (by simp) (by simp)) (fun y3 g3 => ?_)
      refine Ok.bind (pick_ok _ _ g3.2 (by simp) (by simp)) (fun y4 g4 => ?_)
      refine Ok.bind (Ok.app (by simp only [List.length_cons, List.length_nil]; omega)) (fun y5 g5 => ?_)
      subst g5
      rw [w64 (n := s4 - 1) (by omega) (by omega)]
      exact Ok.nx ⟨by simp only; omega, by simp only [List.length_append, List.length_cons, List.length_nil]; omega, g4.2⟩ (by simp only; omega)
    · exact Ok.st ⟨i2, by simp only; omega⟩
  · intro o ho
    exact Ok.ret ⟨ho.2, ho.1⟩

/-! ### Events -/
def PickOk (p : Pick) : Prop := IsSid p.fSource ∧ 0 ≤ p.fEarly ∧ p.fEarly ≤ p.fTime ∧ p.fTime ≤ p.fLate ∧ p.fLate ≤ 1000000 ∧ 0 ≤ p.fAmplitude ∧ p.fAmplitude ≤ 1000 ∧ -1 ≤ p.fPolarity ∧ p.fPolarity ≤ 1
def near (n : Int) : Prop := -1000000 ≤ n ∧ n ≤ 1000000
def PosOk (p : T_api_Position) : Prop := near p.fX ∧ near p.fY ∧ near p.fZ
structure SolOk (s : T_api_Solution) : Prop where
  picks : ∀ p ∈ s.fPicks, PickOk p
  len : s.fPicks.length ≤ 4
  len1 : 1 ≤ s.fPicks.length
  point : PosOk s.fLocation.fPoint
  low : PosOk s.fLocation.fArea.fLow
  high : PosOk s.fLocation.fArea.fHigh
  time : near s.fLocation.fTime
  misfit : near s.fLocation.fMisfit
  lower : near s.fLocation.fLower
  mlow : near s.fMagnitude.fLow
  mhigh : near s.fMagnitude.fHigh
  count : near s.fCount
structure EvOk (e : Ev) : Prop where
  name : PickOk e.fName
  sol : SolOk e.fSolution
theorem place_ok (d : Src) (hd : SrcOk d) : Ok (Src_Place 20 d) (fun r => PosOk r.1 ∧ SrcOk r.2) := by
  unfold Src_Place
  rw [w64 (n := 2 * 20) (by omega) (by omega), w64 (n := 2 * 20 + 1) (by omega) (by omega), w64 (n := 20 + 1) (by omega) (by omega)]
  refine Ok.bind (n_ok _ _ hd (by omega) (by omega)) (fun y1 g1 => ?_)
  refine Ok.bind (n_ok _ _ g1.2.2 (by omega) (by omega)) (fun y2 g2 => ?_)
  refine Ok.bind (n_ok _ _ g2.2.2 (by omega) (by omega)) (fun y3 g3 => ?_)
  rw [w64 (n := y1.1 - 20) (by omega) (by omega), w64 (n := y2.1 - 20) (by omega) (by omega)]
  refine Ok.ret ⟨⟨?_, ?_, ?_⟩, g3.2.2⟩ <;> unfold near <;> simp only <;> omega
theorem event_ok (d : Src) (hd : SrcOk d) : Ok (Src_Event 1 d) (fun r => EvOk r.1 ∧ SrcOk r.2) := by
  unfold Src_Event
  refine Ok.bind (n_ok _ _ hd (by omega) (by omega)) (fun x1 h1 => ?_)
  have hw : IntKind.wrap .i64 ((1000 : Int) + x1.1) = 1000 + x1.1 := w64 (by omega) (by omega)
  refine Ok.bind (P := fun o => SrcOk ⟨o.1, o.2.1⟩ ∧ (1 ≤ o.2.2.length ∧ o.2.2.length ≤ 4) ∧ ∀ p ∈ o.2.2, PickOk p) (Ok.loop (fun s => 0 ≤ s.1 ∧ s.1 = s.2.2.2.length ∧ s.1 ≤ 4 ∧ SrcOk ⟨s.2.1, s.2.2.1⟩ ∧ ∀ p ∈ s.2.2.2, PickOk p) (fun s => (4 - s.1).toNat) ?_ ⟨by simp, by simp, by simp, h1.2.2, by simp⟩) ?_
  · rintro ⟨s2, s3, s4, s5⟩ ⟨i0, i1, i2, i3, i4⟩
    simp only at i0 i1 i2 i3 i4
    unfold Src_Event_l15
    refine Ok.bind (n_ok _ _ i3 (by omega) (by omega)) (fun y1 g1 => ?_)
    rw [w64 (n := 1 + y1.1) (by omega) (by omega)]
    refine Ok.iteD (fun hlt => ?_) (fun hlt => ?_)
    · refine Ok.bind (source_ok s2) (fun y2 g2 => ?_)
      refine Ok.bind (n_ok _ _ g1.2.2 (by omega) (by omega)) (fun y3 g3 => ?_)
      refine Ok.bind (Ok.app (by simp only [List.length_cons, List.length_nil]; omega)) (fun y5 g5 => ?_)
      subst g5
      rw [hw, w64 (n := 10 * 1) (by omega) (by omega), w64 (n := 1000 + x1.1 + 10 * 1) (by omega) (by omega), w64 (n := 1000 + x1.1 + 10 * 1 + y3.1) (by omega) (by omega), w64 (n := s2 + 1) (by omega) (by omega)]
      refine Ok.nx ⟨by simp only; omega, by simp only [List.length_append, List.length_cons, List.length_nil]; omega, by simp only; omega, g3.2.2, ?_⟩ (by simp only; omega)
      intro p hp
      rcases List.mem_append.1 hp with hp | hp
      · exact i4 p hp
      · obtain rfl := List.mem_singleton.1 hp
        refine ⟨g2, ?_⟩
        simp only
        omega
    · refine Ok.st ⟨g1.2.2, by simp only; omega, i4⟩
  · intro o ho
    obtain ⟨h2, h3, h4⟩ := ho
    refine Ok.bind (Ok.isin (by omega) (by omega)) (fun _ _ => ?_)
    refine Ok.bind (Ok.get (by omega) (by omega)) (fun x19 h19 => ?_)
    refine Ok.bind (place_ok _ h2) (fun x20 h20 => ?_)
    refine Ok.bind (n_ok _ _ h20.2 (by omega) (by omega)) (fun x21 h21 => ?_)
    refine Ok.bind (pick_ok _ _ h21.2.2 (by simp) (by simp)) (fun x22 h22 => ?_)
    have hm : near x22.1 := by
      have := h22.1
      simp only [List.mem_cons, List.not_mem_nil, or_false] at this
      unfold near; omega
    refine Ok.bind (n_ok _ _ h22.2 (by omega) (by omega)) (fun x23 h23 => ?_)
    rw [hw, w64 (n := 1000 + x1.1 - x21.1) (by omega) (by omega)]
    refine Ok.iteD (fun hlt => ?_) (fun hlt => ?_)
    · refine Ok.bind (n_ok _ _ h23.2.2 (by omega) (by omega)) (fun x25 h25 => ?_)
      refine Ok.bind (n_ok _ _ h25.2.2 (by omega) (by omega)) (fun x26 h26 => ?_)
      rw [w64 (n := x25.1 + x26.1) (by omega) (by omega)]
      exact Ok.ret ⟨⟨h4 _ h19.1, ⟨h4, h3.2, h3.1, h20.1, h20.1, h20.1, by unfold near; simp only; omega, hm, by unfold near; simp only; omega, by unfold near; simp only; omega, by unfold near; simp only; omega, by unfold near; simp only; omega⟩⟩, h26.2.2⟩
    · exact Ok.ret ⟨⟨h4 _ h19.1, ⟨h4, h3.2, h3.1, h20.1, h20.1, h20.1, by unfold near; simp only; omega, hm, by unfold near; simp only; omega, by unfold near; simp only; omega, by unfold near; simp only; omega, by unfold near; simp only; omega⟩⟩, h23.2.2⟩
end Go.Dw.Fe

/- FeLawB: words of bulletins: what is written is read back (plain Lean). -/


set_option maxRecDepth 100000
set_option maxHeartbeats 4000000
namespace Go.Dw.Fe
open Go.Dw Go.Lib
abbrev Rd := T_feed_reader
abbrev Wd := List UInt8

/-! ### Identifiers -/
def fmt (a : Sid) : List UInt8 := a.fNetwork ++ [46] ++ a.fStation ++ [46] ++ a.fLocation ++ [46] ++ a.fChannel
def chk1 (a : Sid) : Bool := decide (source_Valid_c a = some true) && decide (source_Format_c a = some (fmt a, 0)) && decide (source_Parse_c (fmt a) = some (a, 0)) && decide ((32 : UInt8) ∉ fmt a ∧ (fmt a).length ≤ 100)
theorem chk1_all : (stas.all fun t => chk1 ⟨[65, 66], t, [48, 48], [66, 72, 90]⟩) = true := by kernel_rfl
theorem chk1_at {a : Sid} (h : IsSid a) : source_Valid a = some true ∧ source_Format a = some (fmt a, 0) ∧ source_Parse (fmt a) = some (a, 0) ∧ (32 : UInt8) ∉ fmt a ∧ (fmt a).length ≤ 100 := by
  obtain ⟨x, hx, rfl⟩ := h
  have h := List.all_eq_true.1 chk1_all x hx
  simp only [chk1, Bool.and_eq_true, decide_eq_true_eq] at h
  obtain ⟨⟨⟨h1, h2⟩, h3⟩, h4⟩ := h
  exact ⟨source_Valid_le _ _ h1, source_Format_le _ _ h2, source_Parse_le _ _ h3, h4⟩

/-! ### The reader -/
def big (n : Int) : Prop := -9223372036854775808 ≤ n ∧ n ≤ 9223372036854775807
theorem word_read (w : Wd) (ws : List Wd) (b : Bool) (hl : ws.length ≤ 1000000000) : reader_word ⟨w :: ws, b⟩ = some (w, ⟨ws, b⟩) := by
  unfold reader_word
  have h0 : (((w :: ws).length : Int) == 0) = false := by simp; omega
  simp only [h0, Bool.false_eq_true, if_false]
  rw [getO_at (n := 0) (i := 0) rfl (by simp)]
  obtain ⟨r, h1, h2⟩ := Ok.cut (l := w :: ws) (a := 1) (b := ((w :: ws).length : Int)) (by omega) (by simp; omega) (by omega)
  rw [Option.bind_some, h1, Option.bind_some]
  subst h2
  simp
theorem number_read {n : Int} (h : big n) (ws : List Wd) (hl : ws.length ≤ 1000000000) : reader_number ⟨itoa n :: ws, false⟩ = some (n, ⟨ws, false⟩) := by
  obtain ⟨h0, h1⟩ := h
  unfold reader_number
  rw [word_read _ _ _ hl, Option.bind_some]
  simp only [Bool.false_eq_true, if_false]
  rw [atoiO_itoa (by omega) (by omega), Option.bind_some]
  simp only [Bool.not_true, Bool.false_eq_true, if_false]
  rw [itoaO_at (by omega) (by omega), Option.bind_some]
  simp
def pickWords (p : Pick) : List Wd := fmt p.fSource :: [itoa p.fTime, itoa p.fEarly, itoa p.fLate, itoa p.fAmplitude, itoa p.fPolarity]
theorem pick_read {p : Pick} (hp : PickOk p) (ws : List Wd) (hl : ws.length ≤ 100000000) : reader_pick ⟨pickWords p ++ ws, false⟩ = some (p, ⟨ws, false⟩) := by
  obtain ⟨hs, h1, h2, h3, h4, h5, h6, h7, h8⟩ := hp
  obtain ⟨-, -, f3, -⟩ := chk1_at hs
  unfold reader_pick pickWords
  simp only [List.cons_append, List.nil_append]
  rw [word_read _ _ _ (by simp only [List.length_cons]; omega), Option.bind_some]
  simp only [f3, Option.bind_some, Bool.false_eq_true, if_false]
  have e : ((0 : Int) != 0) = false := rfl
  rw [e, number_read (by unfold big; omega) _ (by simp only [List.length_cons]; omega), Option.bind_some]
  rw [number_read (by unfold big; omega) _ (by simp only [List.length_cons]; omega), Option.bind_some]
  rw [number_read (by unfold big; omega) _ (by simp only [List.length_cons]; omega), Option.bind_some]
  rw [number_read (by unfold big; omega) _ (by simp only [List.length_cons]; omega), Option.bind_some]
  rw [number_read (by unfold big; omega) _ (by omega), Option.bind_some]
theorem picks_read : ∀ (l : List Pick) (ws : List Wd) (acc : List Pick), (∀ p ∈ l, PickOk p) → l.length ≤ 1000000 → ws.length ≤ 1000000 → acc.length + l.length ≤ 1000000 →
    loopO feed_Decode_l21 ((l.length : Int), l.flatMap pickWords ++ ws, false, acc) = some (ws, false, acc ++ l)
  | [], ws, acc, _, _, _, _ => by
    refine loopO_stop ?_
    simp [feed_Decode_l21]
  | p :: l, ws, acc, hp, hl, hw, ha => by
    simp only [List.length_cons] at hl ha
    have hfl : (l.flatMap pickWords).length = 6 * l.length := by
      clear hp hl hw ha
      induction l with
      | nil => rfl
      | cons a l ih => rw [List.flatMap_cons, List.length_append, ih]; simp [pickWords]; omega
    rw [loopO_next (s' := ((l.length : Int), l.flatMap pickWords ++ ws, false, acc ++ [p]))]
    · rw [picks_read l ws (acc ++ [p]) (fun q hq => hp q (by simp [hq])) (by omega) hw (by simp; omega)]
      simp
    · unfold feed_Decode_l21
      simp only
      rw [if_pos (decide_eq_true (by simp only [List.length_cons]; omega))]
      simp only [Bool.not_false, if_true]
      rw [List.flatMap_cons, List.append_assoc, pick_read (hp p (by simp)) _ (by rw [List.length_append, hfl]; omega), Option.bind_some]
      obtain ⟨r, h1, h2⟩ := Ok.app (l := acc) (m := [p]) (b := 104) (by simp only [List.length_cons, List.length_nil]; omega)
      rw [h1, Option.bind_some, h2, w64 (by simp only [List.length_cons]; omega) (by simp only [List.length_cons]; omega)]
      congr 3
      simp only [List.length_cons]; omega

/-! ### The numbers of a solution -/
def posNums (p : T_api_Position) : List Int := [p.fX, p.fY, p.fZ]
def solNums (s : T_api_Solution) : List Int := posNums s.fLocation.fPoint ++ ([s.fLocation.fTime, s.fLocation.fMisfit, s.fLocation.fLower] ++ (posNums s.fLocation.fArea.fLow ++ (posNums s.fLocation.fArea.fHigh ++ [s.fMagnitude.fLow, s.fMagnitude.fHigh, s.fCount])))
theorem grow_at {n : Int} (h0 : 0 ≤ n) (h1 : n ≤ 1000000) : slices_Grow_int n = some [] := by
  unfold slices_Grow_int
  rw [if_neg (by simp; omega), w64 (by omega) (by omega)]
  by_cases h : n = 0
  · subst h; rfl
  · rw [if_pos (by simp; omega)]
    obtain ⟨r, g1, g2⟩ := Ok.mkz (n := n - 0) (z := (0 : Int)) (b := 8) (by omega) (by omega) (by omega)
    rw [g1, Option.bind_some]
    obtain ⟨u, g3, -⟩ := Ok.sub (n := r.length) (lo := 0) (hi := 0) (by omega) (by omega) (by omega)
    rw [g3, Option.bind_some]
    simp [slices_Grow_int_k3]
theorem concat_l8 : ∀ (k : Nat) (l : List (List Int)) (i : Nat) (s : Int), i + k = l.length → 0 ≤ s → (∀ x ∈ l, x.length ≤ 1000) → l.length ≤ 100 → s ≤ 1000 * i →
    ∃ o, loopO (slices_Concat_int_l8 l) (s, (i : Int)) = some o ∧ 0 ≤ o ∧ o ≤ 1000 * l.length := by
  intro k
  induction k with
  | zero =>
    intro l i s hi h0 hx hl hs
    refine ⟨s, loopO_stop ?_, h0, by omega⟩
    unfold slices_Concat_int_l8
    simp only
    rw [if_neg (by simp; omega)]
  | succ k ih =>
    intro l i s hi h0 hx hl hs
    have hlt : i < l.length := by omega
    have hx' := hx l[i] (List.getElem_mem _)
    rw [loopO_next (s' := (s + (l[i].length : Int), ((i + 1 : Nat) : Int)))]
    · exact ih l (i + 1) _ (by omega) (by omega) hx hl (by omega)
    · unfold slices_Concat_int_l8
      simp only
      rw [if_pos (by simp; omega), getO_at rfl hlt, Option.bind_some, w64 (by omega) (by omega), if_neg (by simp; omega), w64 (n := (i : Int) + 1) (by omega) (by omega)]
      simp
theorem concat_l18 : ∀ (k : Nat) (l : List (List Int)) (i : Nat) (s : List Int), i + k = l.length → (∀ x ∈ l, x.length ≤ 1000) → l.length ≤ 100 → s.length ≤ 1000 * i →
    loopO (slices_Concat_int_l18 l) ((i : Int), s) = some (s ++ (l.drop i).flatten) := by
  intro k
  induction k with
  | zero =>
    intro l i s hi hx hl hs
    rw [List.drop_of_length_le (by omega)]
    simp only [List.flatten_nil, List.append_nil]
    refine loopO_stop ?_
    unfold slices_Concat_int_l18
    simp only
    rw [if_neg (by simp; omega)]
  | succ k ih =>
    intro l i s hi hx hl hs
    have hlt : i < l.length := by omega
    have hx' := hx l[i] (List.getElem_mem _)
    rw [List.drop_eq_getElem_cons hlt, List.flatten_cons, ← List.append_assoc]
    rw [loopO_next (s' := (((i + 1 : Nat) : Int), s ++ l[i]))]
    · exact ih l (i + 1) _ (by omega) hx hl (by rw [List.length_append]; omega)
    · unfold slices_Concat_int_l18
      simp only
      obtain ⟨r, h1, h2⟩ := Ok.app (l := s) (m := l[i]) (b := 8) (by omega)
      rw [if_pos (by simp; omega), getO_at rfl hlt, Option.bind_some, h1, Option.bind_some, h2, w64 (n := (i : Int) + 1) (by omega) (by omega)]
      simp
theorem concat_at {l : List (List Int)} (hx : ∀ x ∈ l, x.length ≤ 1000) (hl : l.length ≤ 100) : slices_Concat_int l = some l.flatten := by
  unfold slices_Concat_int
  obtain ⟨o, h1, h2, h3⟩ := concat_l8 l.length l 0 0 (by omega) (by omega) hx hl (by omega)
  have h4 := concat_l18 l.length l 0 [] (by omega) hx hl (by simp)
  simp only [Int.ofNat_zero, Int.natCast_zero, List.drop_zero, List.nil_append] at h1 h4
  rw [h1, Option.bind_some, grow_at h2 (by omega), Option.bind_some, h4, Option.bind_some]
theorem numbers_at (s : T_api_Solution) : feed_numbers s = some (solNums s) := by
  unfold feed_numbers feed_place
  simp only [Option.bind_some]
  rw [concat_at (by simp) (by simp), Option.bind_some]
  simp [solNums, posNums]

/-! ### The writer -/
theorem writerq_at {l : List Int} {d : List Wd} (h : ∀ n ∈ l, big n) (hl : l.length ≤ 1000000) (hd : d.length ≤ 1000000) : writer_numbersq l d = some (d ++ l.map itoa) := by
  have key : ∀ k i : Nat, i + k = l.length → ∀ acc : List Wd, acc.length ≤ 1000000 + i → loopO (writer_numbersq_l10 l) ((i : Int), acc) = some (acc ++ (l.drop i).map itoa) := by
    intro k
    induction k with
    | zero =>
      intro i hi acc ha
      rw [List.drop_of_length_le (by omega)]
      simp only [List.map_nil, List.append_nil]
      refine loopO_stop ?_
      unfold writer_numbersq_l10
      simp only
      rw [if_neg (by simp; omega)]; rfl
    | succ k ih =>
      intro i hi acc ha
      have hlt : i < l.length := by omega
      have hb := h l[i] (List.getElem_mem _)
      obtain ⟨b0, b1⟩ := hb
      rw [List.drop_eq_getElem_cons hlt, List.map_cons, loopO_next (s' := (((i + 1 : Nat) : Int), acc ++ [itoa l[i]]))]
      · rw [ih (i + 1) (by omega) _ (by simp; omega)]; simp
      · unfold writer_numbersq_l10
        simp only
        obtain ⟨r, h1, h2⟩ := Ok.app (l := acc) (m := [itoa l[i]]) (b := 16) (by simp only [List.length_cons, List.length_nil]; omega)
        rw [if_pos (by simp; omega), getO_at rfl hlt, Option.bind_some, itoaO_at (by omega) (by omega), Option.bind_some, h1, Option.bind_some, h2, w64 (by omega) (by omega)]
        simp
  have := key l.length 0 (by omega) d (by omega)
  unfold writer_numbersq
  rw [show ((0 : Nat) : Int) = 0 from rfl] at this
  rw [this]; simp
theorem writer_eq (l : List Int) : writer_numbers l = writer_numbersq l [] := rfl
theorem writer_at {l : List Int} (h : ∀ n ∈ l, big n) (hl : l.length ≤ 1000000) : writer_numbers l = some (l.map itoa) := by
  rw [writer_eq, writerq_at h hl (by simp)]; simp
theorem writer_pick_at {p : Pick} {d : List Wd} (hp : PickOk p) (hd : d.length ≤ 900000) : writer_pick p d = some (d ++ pickWords p) := by
  obtain ⟨hs, h1, h2, h3, h4, h5, h6, h7, h8⟩ := hp
  obtain ⟨-, f2, -⟩ := chk1_at hs
  unfold writer_pick
  rw [f2, Option.bind_some]
  obtain ⟨r, g1, g2⟩ := Ok.app (l := d) (m := [fmt p.fSource]) (b := 16) (by simp only [List.length_cons, List.length_nil]; omega)
  rw [g1, Option.bind_some, g2, writerq_at (by
    intro n hn
    unfold big
    simp only [List.mem_cons, List.not_mem_nil, or_false] at hn
    omega) (by simp) (by simp; omega), Option.bind_some]
  simp [pickWords]
end Go.Dw.Fe

/- FeLawC: valid bulletins are encoded, and their texts decoded (plain Lean). -/

set_option maxRecDepth 100000
set_option maxHeartbeats 4000000
namespace Go.Dw.Fe
open Go.Dw Go.Lib

structure BulOk (b : Bul) : Prop where
  num0 : 0 ≤ b.fNumber
  num1 : b.fNumber < 1000
  kind0 : 1 ≤ b.fKind
  kind1 : b.fKind ≤ 3
  id0 : 0 ≤ b.fID
  id1 : b.fID ≤ b.fNumber
  iss : b.fID = b.fNumber ↔ b.fKind = 1
  lev0 : 0 ≤ b.fLevel
  lev1 : b.fLevel ≤ 8
  at0 : 0 ≤ b.fAt
  at1 : b.fAt ≤ 1000000
  ev : EvOk b.fEvent
theorem loop_all {α ω : Type} {body : Int → Option (Step1 Int ω)} (l : List α) {u : ω} (h1 : ∀ (i : Nat) (_ : i < l.length), body i = some (.next ((i + 1 : Nat) : Int)))
    (h2 : body (l.length : Nat) = some (.stop u)) : loopO body (0 : Int) = some u := by
  have : ∀ k i, i + k = l.length → loopO body (i : Int) = some u := by
    intro k
    induction k with
    | zero =>
      intro i hi
      obtain rfl : i = l.length := by omega
      exact loopO_stop h2
    | succ k ih =>
      intro i hi
      rw [loopO_next (h1 i (by omega)), ih (i + 1) (by omega)]
  exact this l.length 0 (by omega)
theorem validPick_at {p : Pick} (hp : PickOk p) : picker_ValidPick p = some true := by
  obtain ⟨hs, h1, h2, h3, h4, h5, h6, h7, h8⟩ := hp
  unfold picker_ValidPick picker_in
  rw [(chk1_at hs).1, Option.bind_some, if_pos rfl, if_pos (by simp; omega), if_pos (by simp; omega), if_pos (by simp; omega), if_pos (by simp; omega), if_pos (by simp; omega)]
  have e1 : decide (p.fAmplitude ≤ 1073741823) = true := decide_eq_true (by omega)
  have e2 : decide (p.fPolarity ≤ 1) = true := decide_eq_true (by omega)
  rw [e1, Option.bind_some, if_pos rfl, if_pos (by simp; omega), e2]
  rfl
theorem containsPick_at {l : List Pick} (h : ∀ p ∈ l, PickOk p) (hl : l.length ≤ 1000000) : slices_ContainsFunc_Pick_lit1 l = some false := by
  unfold slices_ContainsFunc_Pick_lit1 slices_IndexFunc_Pick_lit1
  rw [loop_all l (u := .inl ())]
  · rfl
  · intro i hi
    unfold slices_IndexFunc_Pick_lit1_l7 feed_Valid_lit1
    rw [if_pos (by simp; omega), getO_at rfl hi, Option.bind_some, validPick_at (h _ (List.getElem_mem _)), w64 (by omega) (by omega)]
    simp
  · unfold slices_IndexFunc_Pick_lit1_l7
    rw [if_neg (by simp)]
theorem within_at {l : List Int} (h : ∀ n ∈ l, -1152921504606846976 ≤ n ∧ n ≤ 1152921504606846976) (hl : l.length ≤ 1000000) : feed_within l = some true := by
  unfold feed_within slices_ContainsFunc_int_lit1 slices_IndexFunc_int_lit1
  rw [loop_all l (u := .inl ())]
  · rfl
  · intro i hi
    have hb := h l[i] (List.getElem_mem _)
    unfold slices_IndexFunc_int_lit1_l7 feed_within_lit1
    rw [if_pos (by simp; omega), getO_at rfl hi, Option.bind_some, if_neg (by simp; omega), Option.bind_some, if_neg (by simp; omega), w64 (by omega) (by omega)]
    simp
  · unfold slices_IndexFunc_int_lit1_l7
    rw [if_neg (by simp)]
theorem solNums_near {s : T_api_Solution} (h : SolOk s) : ∀ n ∈ solNums s, near n := by
  obtain ⟨-, -, -, ⟨a1, a2, a3⟩, ⟨b1, b2, b3⟩, ⟨c1, c2, c3⟩, d1, d2, d3, d4, d5, d6⟩ := h
  intro n hn
  simp only [solNums, posNums, List.cons_append, List.nil_append, List.mem_cons, List.not_mem_nil, or_false] at hn
  rcases hn with rfl | rfl | rfl | rfl | rfl | rfl | rfl | rfl | rfl | rfl | rfl | rfl | rfl | rfl | rfl <;> assumption
theorem solNums_len (s : T_api_Solution) : (solNums s).length = 15 := rfl
theorem valid_at {b : Bul} (h : BulOk b) : feed_Valid b = some true := by
  obtain ⟨h1, h2, h3, h4, h5, h6, h7, h8, h9, h10, h11, h12⟩ := h
  have hk : (!((b.fID == b.fNumber) == (b.fKind == (1 : Int)))) = false := by
    by_cases e : b.fID = b.fNumber
    · simp [e, h7.1 e]
    · have : b.fKind ≠ 1 := fun e' => e (h7.2 e')
      rw [beq_eq_false_iff_ne.2 e, beq_eq_false_iff_ne.2 this]; rfl
  have hl := h12.sol.len
  unfold feed_Valid
  rw [if_neg (by simp; omega), if_neg (by simp; omega), if_neg (by simp; omega), if_neg (by simp; omega), if_neg (by simp; omega), if_neg (by simp; omega), if_neg (by rw [hk]; simp), if_neg (by simp; omega), if_neg (by simp; omega), if_neg (by simp; omega)]
  rw [validPick_at h12.name, Option.bind_some, if_neg (by simp), containsPick_at h12.sol.picks (by omega), Option.bind_some, if_neg (by simp)]
  rw [within_at (by simp; omega) (by simp), Option.bind_some, if_pos rfl, numbers_at, Option.bind_some, within_at (fun n hn => by
    have := solNums_near h12.sol n hn
    unfold near at this; omega) (by rw [solNums_len]; omega)]
  rfl

/-! ### Encode -/
def words (b : Bul) : List Wd := [b.fNumber, b.fKind, b.fID, b.fAt, b.fLevel].map itoa ++ (pickWords b.fEvent.fName ++ ([(b.fEvent.fSolution.fPicks.length : Int)].map itoa ++ (b.fEvent.fSolution.fPicks.flatMap pickWords ++ (solNums b.fEvent.fSolution).map itoa)))
def text (b : Bul) : List UInt8 := Lib.join (words b) [32]
theorem flat_len : ∀ (l : List Pick), (l.flatMap pickWords).length = 6 * l.length
  | [] => rfl
  | a :: l => by rw [List.flatMap_cons, List.length_append, flat_len l]; simp [pickWords]; omega
theorem pickWords_ok {p : Pick} (hp : PickOk p) : ∀ w ∈ pickWords p, (32 : UInt8) ∉ w ∧ w.length ≤ 100 := by
  obtain ⟨hs, h1, h2, h3, h4, h5, h6, h7, h8⟩ := hp
  have hc := (chk1_at hs).2.2.2
  have hi : ∀ n : Int, big n → (32 : UInt8) ∉ itoa n ∧ (itoa n).length ≤ 100 := fun n hn => ⟨itoa_no (.inl (by decide)), by have := itoa_len hn.1 hn.2; omega⟩
  intro w hw
  simp only [pickWords, List.mem_cons, List.not_mem_nil, or_false] at hw
  rcases hw with rfl | rfl | rfl | rfl | rfl | rfl
  · exact hc
  all_goals exact hi _ (by unfold big; omega)
theorem words_ok {b : Bul} (h : BulOk b) : ∀ w ∈ words b, (32 : UInt8) ∉ w ∧ w.length ≤ 100 := by
  obtain ⟨h1, h2, h3, h4, h5, h6, h7, h8, h9, h10, h11, h12⟩ := h
  have hi : ∀ n : Int, big n → (32 : UInt8) ∉ itoa n ∧ (itoa n).length ≤ 100 := fun n hn => ⟨itoa_no (.inl (by decide)), by have := itoa_len hn.1 hn.2; omega⟩
  have hl := h12.sol.len
  intro w hw
  simp only [words, List.mem_append] at hw
  rcases hw with hw | hw | hw | hw | hw
  · simp only [List.map_cons, List.map_nil, List.mem_cons, List.not_mem_nil, or_false] at hw
    rcases hw with rfl | rfl | rfl | rfl | rfl <;> exact hi _ (by unfold big; omega)
  · exact pickWords_ok h12.name w hw
  · simp only [List.map_cons, List.map_nil, List.mem_cons, List.not_mem_nil, or_false] at hw
    subst hw
    exact hi _ (by unfold big; omega)
  · obtain ⟨p, hp, hw⟩ := List.mem_flatMap.1 hw
    exact pickWords_ok (h12.sol.picks p hp) w hw
  · obtain ⟨n, hn, rfl⟩ := List.mem_map.1 hw
    have := solNums_near h12.sol n hn
    exact hi _ (by unfold near at this; unfold big; omega)
theorem words_len {b : Bul} (h : BulOk b) : (words b).length ≤ 51 := by
  have := h.ev.sol.len
  simp only [words, List.length_append, List.length_map, flat_len, solNums_len, List.length_cons, List.length_nil, pickWords]
  omega
theorem encode_l13 {b : Bul} (hp : ∀ p ∈ b.fEvent.fSolution.fPicks, PickOk p) (hl : b.fEvent.fSolution.fPicks.length ≤ 1000) : ∀ (k i : Nat) (acc : List Wd), i + k = b.fEvent.fSolution.fPicks.length → acc.length ≤ 100 + 6 * i →
    loopO (feed_Encode_l13 b) ((i : Int), acc) = some (acc ++ (b.fEvent.fSolution.fPicks.drop i).flatMap pickWords) := by
  intro k
  induction k with
  | zero =>
    intro i acc hi ha
    rw [List.drop_of_length_le (by omega)]
    simp only [List.flatMap_nil, List.append_nil]
    refine loopO_stop ?_
    unfold feed_Encode_l13
    simp only
    rw [if_neg (by simp; omega)]
  | succ k ih =>
    intro i acc hi ha
    have hlt : i < b.fEvent.fSolution.fPicks.length := by omega
    rw [List.drop_eq_getElem_cons hlt, List.flatMap_cons, ← List.append_assoc, loopO_next (s' := (((i + 1 : Nat) : Int), acc ++ pickWords b.fEvent.fSolution.fPicks[i]))]
    · exact ih (i + 1) _ (by omega) (by simp [pickWords]; omega)
    · unfold feed_Encode_l13
      simp only
      rw [if_pos (by simp; omega), getO_at rfl hlt, Option.bind_some, writer_pick_at (hp _ (List.getElem_mem _)) (by omega), Option.bind_some, w64 (by omega) (by omega)]
      simp
theorem encode_at {b : Bul} (h : BulOk b) : feed_Encode b = some (text b, 0) := by
  have hv := valid_at h
  have hw := words_ok h
  have hwl := words_len h
  obtain ⟨h1, h2, h3, h4, h5, h6, h7, h8, h9, h10, h11, h12⟩ := h
  have hl := h12.sol.len
  unfold feed_Encode
  rw [hv, Option.bind_some]
  simp only [Bool.not_true, Bool.false_eq_true, if_false]
  rw [writer_at (by
    intro n hn
    simp only [List.mem_cons, List.not_mem_nil, or_false] at hn
    unfold big
    omega) (by simp), Option.bind_some]
  rw [writer_pick_at h12.name (by simp), Option.bind_some]
  rw [writerq_at (by
    intro n hn
    simp only [List.mem_cons, List.not_mem_nil, or_false] at hn
    unfold big
    omega) (by simp) (by simp [pickWords]), Option.bind_some]
  have := encode_l13 h12.sol.picks (by omega) _ 0 ([b.fNumber, b.fKind, b.fID, b.fAt, b.fLevel].map itoa ++ pickWords b.fEvent.fName ++ [(b.fEvent.fSolution.fPicks.length : Int)].map itoa) (Nat.zero_add _) (by simp [pickWords])
  rw [show ((0 : Nat) : Int) = 0 from rfl] at this
  rw [this, Option.bind_some, numbers_at, Option.bind_some, writerq_at (fun n hn => by
    have := solNums_near h12.sol n hn
    unfold near at this; unfold big; omega) (by rw [solNums_len]; omega) (by simp only [List.drop_zero, List.length_append, List.length_map, flat_len, List.length_cons, List.length_nil, pickWords]; omega), Option.bind_some]
  have e : [b.fNumber, b.fKind, b.fID, b.fAt, b.fLevel].map itoa ++ pickWords b.fEvent.fName ++ [(b.fEvent.fSolution.fPicks.length : Int)].map itoa ++ (List.drop 0 b.fEvent.fSolution.fPicks).flatMap pickWords ++ (solNums b.fEvent.fSolution).map itoa = words b := by
    simp only [words, List.drop_zero, List.append_assoc]
  rw [e, joinO_ok (by simp [words]) (fun w hw' => by have := (hw w hw').2; omega) (by omega) (by simp), Option.bind_some]
  rfl

/-! ### The instances by reference say the same -/
theorem numbersq_at (s : T_api_Solution) (d : List Pick) : feed_numbersq s.fLocation.fPoint.fX s.fLocation.fPoint.fY s.fLocation.fPoint.fZ s.fLocation.fTime s.fLocation.fMisfit s.fLocation.fLower s.fLocation.fArea.fLow.fX s.fLocation.fArea.fLow.fY s.fLocation.fArea.fLow.fZ
    s.fLocation.fArea.fHigh.fX s.fLocation.fArea.fHigh.fY s.fLocation.fArea.fHigh.fZ s.fMagnitude.fLow s.fMagnitude.fHigh s.fCount d = some (solNums s, d) := by
  unfold feed_numbersq feed_place
  simp only [Option.bind_some]
  rw [concat_at (by simp) (by simp), Option.bind_some]
  simp [solNums, posNums]
theorem containsq_eq (d : List Pick) : slices_ContainsFunc_Pick_lit1q d = (slices_ContainsFunc_Pick_lit1 d).map (fun v => (v, d)) := by
  unfold slices_ContainsFunc_Pick_lit1q slices_ContainsFunc_Pick_lit1 slices_IndexFunc_Pick_lit1q slices_IndexFunc_Pick_lit1
  rw [loopO_map (b := slices_IndexFunc_Pick_lit1_l7 d) (b' := slices_IndexFunc_Pick_lit1q_l9 d) (Sum.map id (fun i => (i, d))) (fun s => by
    unfold slices_IndexFunc_Pick_lit1_l7 slices_IndexFunc_Pick_lit1q_l9
    rw [inO_getO]
    split
    · cases getO d s with
      | none => rfl
      | some x =>
        simp only [Option.bind_some]
        cases feed_Valid_lit1 x with
        | none => rfl
        | some v => cases v <;> rfl
    · rfl)]
  cases loopO (slices_IndexFunc_Pick_lit1_l7 d) (0 : Int) with
  | none => rfl
  | some o => cases o <;> rfl
theorem ite_map {α β : Type} (c : Prop) [Decidable c] (f : α → β) (x y : Option α) : (if c then x else y).map f = if c then x.map f else y.map f := by split <;> rfl
theorem Validq_eq (b : Bul) : feed_Validq b.fNumber b.fKind b.fID b.fAt b.fLevel b.fEvent.fName.fSource.fNetwork b.fEvent.fName.fSource.fStation b.fEvent.fName.fSource.fLocation b.fEvent.fName.fSource.fChannel b.fEvent.fName.fTime b.fEvent.fName.fEarly b.fEvent.fName.fLate b.fEvent.fName.fAmplitude b.fEvent.fName.fPolarity
    b.fEvent.fSolution.fLocation.fPoint.fX b.fEvent.fSolution.fLocation.fPoint.fY b.fEvent.fSolution.fLocation.fPoint.fZ b.fEvent.fSolution.fLocation.fTime b.fEvent.fSolution.fLocation.fMisfit b.fEvent.fSolution.fLocation.fLower b.fEvent.fSolution.fLocation.fArea.fLow.fX b.fEvent.fSolution.fLocation.fArea.fLow.fY b.fEvent.fSolution.fLocation.fArea.fLow.fZ
    b.fEvent.fSolution.fLocation.fArea.fHigh.fX b.fEvent.fSolution.fLocation.fArea.fHigh.fY b.fEvent.fSolution.fLocation.fArea.fHigh.fZ b.fEvent.fSolution.fMagnitude.fLow b.fEvent.fSolution.fMagnitude.fHigh b.fEvent.fSolution.fCount b.fEvent.fSolution.fPicks = (feed_Valid b).map (fun v => (v, b.fEvent.fSolution.fPicks)) := by
  unfold feed_Validq feed_Valid
  simp only [ite_map, Option.map_some, Option.map_bind, Function.comp_def, containsq_eq, numbersq_at, numbers_at, Option.bind_some, Option.bind_map]
theorem Encodeq_l15_eq (b : Bul) (v : Bool) : feed_Encodeq_l15 (v, b.fEvent.fSolution.fPicks) = feed_Encode_l13 b := by
  funext ⟨s6, s7⟩
  unfold feed_Encodeq_l15 feed_Encode_l13
  simp only [inO_getO]
theorem Encodeq_eq (b : Bul) : feed_Encodeq b.fNumber b.fKind b.fID b.fAt b.fLevel b.fEvent.fName.fSource.fNetwork b.fEvent.fName.fSource.fStation b.fEvent.fName.fSource.fLocation b.fEvent.fName.fSource.fChannel b.fEvent.fName.fTime b.fEvent.fName.fEarly b.fEvent.fName.fLate b.fEvent.fName.fAmplitude b.fEvent.fName.fPolarity
    b.fEvent.fSolution.fLocation.fPoint.fX b.fEvent.fSolution.fLocation.fPoint.fY b.fEvent.fSolution.fLocation.fPoint.fZ b.fEvent.fSolution.fLocation.fTime b.fEvent.fSolution.fLocation.fMisfit b.fEvent.fSolution.fLocation.fLower b.fEvent.fSolution.fLocation.fArea.fLow.fX b.fEvent.fSolution.fLocation.fArea.fLow.fY b.fEvent.fSolution.fLocation.fArea.fLow.fZ
    b.fEvent.fSolution.fLocation.fArea.fHigh.fX b.fEvent.fSolution.fLocation.fArea.fHigh.fY b.fEvent.fSolution.fLocation.fArea.fHigh.fZ b.fEvent.fSolution.fMagnitude.fLow b.fEvent.fSolution.fMagnitude.fHigh b.fEvent.fSolution.fCount b.fEvent.fSolution.fPicks = (feed_Encode b).map (fun r => (r.1, r.2, b.fEvent.fSolution.fPicks)) := by
  unfold feed_Encodeq feed_Encode
  rw [Validq_eq]
  cases feed_Valid b with
  | none => rfl
  | some v =>
    simp only [Option.map_some, Option.bind_some]
    simp only [ite_map, Option.map_some, Option.map_bind, Function.comp_def, Encodeq_l15_eq, numbersq_at, numbers_at, Option.bind_some]

/-! ### Decode -/
theorem position_read {p : T_api_Position} (h : PosOk p) (ws : List Wd) (hl : ws.length ≤ 1000000) : reader_position ⟨itoa p.fX :: itoa p.fY :: itoa p.fZ :: ws, false⟩ = some (p, ⟨ws, false⟩) := by
  obtain ⟨⟨a1, a2⟩, ⟨b1, b2⟩, ⟨c1, c2⟩⟩ := h
  unfold reader_position
  rw [number_read (by unfold big; omega) _ (by simp only [List.length_cons]; omega), Option.bind_some]
  rw [number_read (by unfold big; omega) _ (by simp only [List.length_cons]; omega), Option.bind_some]
  rw [number_read (by unfold big; omega) _ (by omega), Option.bind_some]
theorem text_len {b : Bul} (h : BulOk b) : (text b).length ≤ 10000 := by
  have h1 := join_len (s := [32]) (fun w hw => (words_ok h w hw).2)
  have h2 := words_len h
  have h3 : (words b).length * (100 + [(32 : UInt8)].length) ≤ 51 * 101 := Nat.mul_le_mul h2 (by simp)
  unfold text; omega
theorem near_big {n : Int} (h : near n) : big n := by unfold near at h; unfold big; omega
theorem decode_at {b : Bul} (h : BulOk b) : feed_Decode (text b) = some (b, 0) := by
  have he := encode_at h
  have hw := words_ok h
  have hwl := words_len h
  have htl := text_len h
  have hsp : splitL 32 (text b) = words b := split_join (by simp [words]) (fun w hw' => (hw w hw').1)
  obtain ⟨h1, h2, h3, h4, h5, h6, h7, h8, h9, h10, h11, h12⟩ := h
  have hl := h12.sol.len
  obtain ⟨-, -, -, p1, p2, p3, d1, d2, d3, d4, d5, d6⟩ := h12.sol
  unfold feed_Decode
  rw [splitO_ok (by omega), Option.bind_some, hsp]
  unfold words
  simp only [List.map_cons, List.map_nil, List.cons_append, List.nil_append]
  have hA : (pickWords b.fEvent.fName ++ itoa (b.fEvent.fSolution.fPicks.length : Int) :: (b.fEvent.fSolution.fPicks.flatMap pickWords ++ (solNums b.fEvent.fSolution).map itoa)).length ≤ 1000 := by
    simp only [List.length_append, List.length_cons, List.length_map, flat_len, solNums_len, pickWords, List.length_nil]; omega
  rw [number_read (by unfold big; omega) _ (by simp only [List.length_cons]; omega), Option.bind_some]
  rw [number_read (by unfold big; omega) _ (by simp only [List.length_cons]; omega), Option.bind_some]
  rw [number_read (by unfold big; omega) _ (by simp only [List.length_cons]; omega), Option.bind_some]
  rw [number_read (by unfold big; omega) _ (by simp only [List.length_cons]; omega), Option.bind_some]
  rw [number_read (by unfold big; omega) _ (by omega), Option.bind_some]
  rw [pick_read h12.name _ (by simp only [List.length_append, List.length_cons] at hA ⊢; omega), Option.bind_some]
  rw [number_read (by unfold big; omega) _ (by simp only [List.length_append, List.length_cons] at hA ⊢; omega), Option.bind_some]
  simp only
  rw [picks_read _ _ _ h12.sol.picks (by omega) (by rw [List.length_map, solNums_len]; omega) (by simp; omega), Option.bind_some]
  simp only [solNums, posNums, List.cons_append, List.nil_append, List.map_cons, List.map_nil]
  rw [position_read p1 _ (by simp), Option.bind_some]
  rw [number_read (near_big d1) _ (by simp), Option.bind_some]
  rw [number_read (near_big d2) _ (by simp), Option.bind_some]
  rw [number_read (near_big d3) _ (by simp), Option.bind_some]
  rw [position_read p2 _ (by simp), Option.bind_some]
  rw [position_read p3 _ (by simp), Option.bind_some]
  rw [number_read (near_big d4) _ (by simp), Option.bind_some]
  rw [number_read (near_big d5) _ (by simp), Option.bind_some]
  rw [number_read (near_big d6) _ (by simp), Option.bind_some]
  simp only [Bool.false_eq_true, if_false, List.length_nil]
  rw [if_neg (by simp), Encodeq_eq, he]
  simp
/-- A bulletin is the same as itself. -/
theorem samePicks_self {l : List Pick} (hl : l.length ≤ 1000000) : ref33_SamePicks l l = some true := by
  unfold ref33_SamePicks
  rw [if_neg (by simp), loop_all l (u := .inl ())]
  · rfl
  · intro i hi
    unfold ref33_SamePicks_l8
    rw [if_pos (by simp; omega), getO_at rfl hi, Option.bind_some, Option.bind_some, if_neg (by simp), w64 (by omega) (by omega)]
    simp
  · unfold ref33_SamePicks_l8
    rw [if_neg (by simp)]
theorem same_self {b : Bul} (hl : b.fEvent.fSolution.fPicks.length ≤ 1000000) : ref36_SameBulletin b b = some true := by
  unfold ref36_SameBulletin ref36_SameEvent ref33_Same
  simp only [beq_self_eq_true, Bool.and_self, if_true, samePicks_self hl, Option.bind_some]
end Go.Dw.Fe

/- FeLawD: any text is decoded or refused; what is decoded is encoded as it was (plain Lean). -/

set_option maxRecDepth 100000
set_option maxHeartbeats 4000000
namespace Go.Dw.Fe
open Go.Dw Go.Lib

def Short (w : Wd) : Prop := w.length ≤ 20000
structure RdOk (r : Rd) : Prop where
  len : r.fwords.length ≤ 20001
  wds : ∀ w ∈ r.fwords, Short w
/-- What a read leaves: no more words, and fewer if nothing is bad. -/
structure After (r r' : Rd) : Prop where
  ok : RdOk r'
  le : r'.fwords.length ≤ r.fwords.length
  lt : r'.fbad = false → r'.fwords.length < r.fwords.length
theorem After.trans {a b c : Rd} (h : After a b) (h' : After b c) : After a c := ⟨h'.ok, Nat.le_trans h'.le h.le, fun e => Nat.lt_of_lt_of_le (h'.lt e) h.le⟩
theorem After.bad {r : Rd} {ws : List Wd} {b : Bool} (h : After r ⟨ws, b⟩) : After r ⟨ws, true⟩ := ⟨⟨h.ok.len, h.ok.wds⟩, h.le, fun e => by cases e⟩
theorem word_ok (r : Rd) (h : RdOk r) : Ok (reader_word r) (fun x => Short x.1 ∧ After r x.2) := by
  obtain ⟨hl, hw⟩ := h
  unfold reader_word
  refine Ok.iteE (fun _ => ?_) (fun hne => ?_)
  · exact Ok.ret ⟨by unfold Short; simp, ⟨hl, hw⟩, Nat.le_refl _, fun e => by cases e⟩
  · refine Ok.bind (Ok.get (by omega) (by omega)) (fun x hx => ?_)
    refine Ok.bind (Ok.cut (by omega) (by omega) (by omega)) (fun y hy => ?_)
    subst hy
    have hlen : ((r.fwords.drop (1 : Int).toNat).take ((r.fwords.length : Int).toNat - (1 : Int).toNat)).length = r.fwords.length - 1 := by
      simp only [List.length_take, List.length_drop]; omega
    refine Ok.ret ⟨hw _ hx.1, ⟨by simp only [hlen]; omega, fun w h => hw w (List.mem_of_mem_drop (List.mem_of_mem_take h))⟩, by simp only [hlen]; omega, fun _ => by simp only [hlen]; omega⟩
theorem number_ok (r : Rd) (h : RdOk r) : Ok (reader_number r) (fun x => big x.1 ∧ After r x.2) := by
  unfold reader_number
  refine Ok.bind (word_ok r h) (fun x hx => ?_)
  obtain ⟨hs, ha⟩ := hx
  refine Ok.bind (atoiO_ok (by unfold Short at hs; omega)) (fun y hy => ?_)
  refine Ok.iteB (fun _ => Ok.ret ⟨hy, ha.bad⟩) (fun hb => ?_)
  refine Ok.iteN (fun _ => Ok.ret ⟨hy, ha.bad⟩) (fun _ => ?_)
  rw [itoaO_at hy.1 hy.2]
  refine Ok.bind (P := fun _ => True) (Ok.ret trivial) (fun z _ => Ok.ret ⟨hy, ⟨ha.ok.len, ha.ok.wds⟩, ha.le, fun _ => ha.lt hb⟩)
def SidSm (s : Sid) : Prop := s.fNetwork.length ≤ 20000 ∧ s.fStation.length ≤ 20000 ∧ s.fLocation.length ≤ 20000 ∧ s.fChannel.length ≤ 20000
theorem plain_ok (n : Int) : Ok (source_plain n) (fun _ => True) := by
  unfold source_plain
  repeat' (first | refine Ok.iteD (fun _ => ?_) (fun _ => ?_) | exact Ok.ret trivial)
theorem code_ok (w : Wd) (hw : w.length ≤ 20000) (lo hi : Int) : Ok (source_code w lo hi) (fun _ => True) := by
  unfold source_code
  refine Ok.bind (P := fun _ => True) (Ok.upto (w.length : Int) (by omega) (fun _ => True) trivial (fun i h0 h1 _ => ?_)) (fun o _ => ?_)
  · unfold source_code_l7
    refine Ok.iteD (fun hlt => ?_) (fun _ => Ok.st trivial)
    refine Ok.bind (Ok.byte h0 hlt) (fun x _ => ?_)
    refine Ok.bind (plain_ok x) (fun y _ => ?_)
    refine Ok.iteN (fun _ => Ok.st trivial) (fun _ => ?_)
    rw [w64 (by omega) (by omega)]
    exact Ok.nx ⟨⟨by omega, by omega⟩, trivial⟩ (by omega)
  · cases o with
    | inl y => exact Ok.iteD (fun _ => Ok.ret trivial) (fun _ => Ok.ret trivial)
    | inr y => exact Ok.ret trivial
theorem sid_ok (s : Sid) (h : SidSm s) : Ok (source_Valid s) (fun _ => True) := by
  obtain ⟨h1, h2, h3, h4⟩ := h
  unfold source_Valid
  refine Ok.bind (code_ok _ h1 _ _) (fun x _ => Ok.iteB (fun _ => ?_) (fun _ => Ok.ret trivial))
  refine Ok.bind (code_ok _ h2 _ _) (fun x _ => Ok.iteB (fun _ => ?_) (fun _ => Ok.ret trivial))
  refine Ok.bind (code_ok _ h3 _ _) (fun x _ => Ok.iteB (fun _ => ?_) (fun _ => Ok.ret trivial))
  refine Ok.iteNe (fun _ => ?_) (fun _ => Ok.ret trivial)
  exact Ok.bind (code_ok _ h4 _ _) (fun x _ => Ok.ret trivial)
theorem sid_zero : SidSm ⟨[], [], [], []⟩ := ⟨by simp, by simp, by simp, by simp⟩
theorem parse_ok (w : Wd) (h : Short w) : Ok (source_Parse w) (fun r => SidSm r.1) := by
  unfold Short at h
  obtain ⟨h1, h2⟩ := splitL_len' 46 w
  unfold source_Parse
  rw [splitO_ok (by omega), Option.bind_some]
  refine Ok.iteNe (fun _ => Ok.ret sid_zero) (fun h4 => ?_)
  refine Ok.bind (Ok.get (by omega) (by omega)) (fun x0 g0 => ?_)
  refine Ok.bind (Ok.get (by omega) (by omega)) (fun x1 g1 => ?_)
  refine Ok.bind (Ok.get (by omega) (by omega)) (fun x2 g2 => ?_)
  refine Ok.bind (Ok.get (by omega) (by omega)) (fun x3 g3 => ?_)
  have hs : SidSm ⟨x0, x1, x2, x3⟩ := ⟨Nat.le_trans (h2 _ g0.1) h, Nat.le_trans (h2 _ g1.1) h, Nat.le_trans (h2 _ g2.1) h, Nat.le_trans (h2 _ g3.1) h⟩
  refine Ok.bind (sid_ok _ hs) (fun y _ => ?_)
  exact Ok.iteN (fun _ => Ok.ret sid_zero) (fun _ => Ok.ret hs)
structure PickSm (p : Pick) : Prop where
  sid : SidSm p.fSource
  nums : ∀ n ∈ [p.fTime, p.fEarly, p.fLate, p.fAmplitude, p.fPolarity], big n
theorem pickr_ok (r : Rd) (h : RdOk r) : Ok (reader_pick r) (fun x => PickSm x.1 ∧ After r x.2) := by
  have five : ∀ (q : Rd) (s : Sid), SidSm s → After r q → Ok ((reader_number q).bind fun x4 => (reader_number x4.2).bind fun x5 => (reader_number x5.2).bind fun x6 => (reader_number x6.2).bind fun x7 => (reader_number x7.2).bind fun x8 => some ((T_api_Pick.mk s x4.1 x5.1 x6.1 x7.1 x8.1), x8.2)) (fun x => PickSm x.1 ∧ After r x.2) := by
    intro q s hs hq
    refine Ok.bind (number_ok q hq.ok) (fun x1 h1 => ?_)
    refine Ok.bind (number_ok _ h1.2.ok) (fun x2 h2 => ?_)
    refine Ok.bind (number_ok _ h2.2.ok) (fun x3 h3 => ?_)
    refine Ok.bind (number_ok _ h3.2.ok) (fun x4 h4 => ?_)
    refine Ok.bind (number_ok _ h4.2.ok) (fun x5 h5 => ?_)
    refine Ok.ret ⟨⟨hs, ?_⟩, ((((hq.trans h1.2).trans h2.2).trans h3.2).trans h4.2).trans h5.2⟩
    intro n hn
    simp only [List.mem_cons, List.not_mem_nil, or_false] at hn
    rcases hn with rfl | rfl | rfl | rfl | rfl
    · exact h1.1
    · exact h2.1
    · exact h3.1
    · exact h4.1
    · exact h5.1
  unfold reader_pick
  refine Ok.bind (word_ok r h) (fun x hx => ?_)
  refine Ok.bind (parse_ok _ hx.1) (fun y hy => ?_)
  refine Ok.iteB (fun _ => ?_) (fun hb => ?_)
  · exact five _ _ hy hx.2.bad
  · exact five _ _ hy ⟨⟨hx.2.ok.len, hx.2.ok.wds⟩, hx.2.le, fun _ => hx.2.lt hb⟩
def PosSm (p : T_api_Position) : Prop := ∀ n ∈ posNums p, big n
theorem pos_ok (r : Rd) (h : RdOk r) : Ok (reader_position r) (fun x => PosSm x.1 ∧ After r x.2) := by
  unfold reader_position
  refine Ok.bind (number_ok r h) (fun x1 h1 => ?_)
  refine Ok.bind (number_ok _ h1.2.ok) (fun x2 h2 => ?_)
  refine Ok.bind (number_ok _ h2.2.ok) (fun x3 h3 => ?_)
  refine Ok.ret ⟨fun n hn => ?_, (h1.2.trans h2.2).trans h3.2⟩
  simp only [posNums, List.mem_cons, List.not_mem_nil, or_false] at hn
  rcases hn with rfl | rfl | rfl
  · exact h1.1
  · exact h2.1
  · exact h3.1
theorem loop_ok (n : Int) (hn : big n) (r : Rd) (h : RdOk r) : Ok (loopO feed_Decode_l21 (n, r.fwords, r.fbad, [])) (fun o => RdOk ⟨o.1, o.2.1⟩ ∧ (∀ p ∈ o.2.2, PickSm p) ∧ o.2.2.length ≤ 20002) := by
  refine Ok.loop (fun s => big s.1 ∧ RdOk ⟨s.2.1, s.2.2.1⟩ ∧ (∀ p ∈ s.2.2.2, PickSm p) ∧ s.2.2.2.length + s.2.1.length ≤ 20001 + (if s.2.2.1 = true then 1 else 0)) (fun s => s.1.toNat) ?_ ⟨hn, h, by simp, ?_⟩
  · rintro ⟨k, ws, b, ps⟩ ⟨i0, i1, i2, i3⟩
    unfold big at i0
    simp only at i0 i1 i2 i3
    have hfin : RdOk ⟨ws, b⟩ ∧ (∀ p ∈ ps, PickSm p) ∧ ps.length ≤ 20002 := ⟨i1, i2, by split at i3 <;> omega⟩
    unfold feed_Decode_l21
    refine Ok.iteD (fun hk => ?_) (fun _ => Ok.st hfin)
    refine Ok.iteN (fun hb => ?_) (fun _ => Ok.st hfin)
    subst hb
    simp only [Bool.false_eq_true, if_false, Nat.add_zero] at i3
    refine Ok.bind (pickr_ok _ i1) (fun x hx => ?_)
    refine Ok.bind (Ok.app (by simp only [List.length_cons, List.length_nil]; omega)) (fun y hy => ?_)
    subst hy
    rw [w64 (by omega) (by omega)]
    refine Ok.nx ⟨by unfold big; simp only; omega, hx.2.ok, ?_, ?_⟩ (by simp only; omega)
    · intro p hp
      rcases List.mem_append.1 hp with hp | hp
      · exact i2 p hp
      · obtain rfl := List.mem_singleton.1 hp
        exact hx.1
    · have h1 := hx.2.le
      have h2 := hx.2.lt
      simp only [List.length_append, List.length_cons, List.length_nil] at h1 h2 ⊢
      split
      · omega
      · rename_i hf
        have := h2 (by simpa using hf)
        omega
  · have := h.len
    simp only [List.length_nil]; omega

/-! ### Encode ends -/
structure BulSm (b : Bul) : Prop where
  nums : ∀ n ∈ [b.fNumber, b.fKind, b.fID, b.fAt, b.fLevel], big n
  name : PickSm b.fEvent.fName
  picks : ∀ p ∈ b.fEvent.fSolution.fPicks, PickSm p
  len : b.fEvent.fSolution.fPicks.length ≤ 20002
  sol : ∀ n ∈ solNums b.fEvent.fSolution, big n
theorem validPick_ok (p : Pick) (h : PickSm p) : Ok (picker_ValidPick p) (fun _ => True) := by
  have hin : ∀ a b c : Int, Ok (picker_in a b c) (fun _ => True) := fun a b c => by
    unfold picker_in
    exact Ok.iteD (fun _ => Ok.ret trivial) (fun _ => Ok.ret trivial)
  unfold picker_ValidPick
  refine Ok.bind (sid_ok _ h.sid) (fun x _ => Ok.iteB (fun _ => ?_) (fun _ => Ok.ret trivial))
  refine Ok.iteD (fun _ => ?_) (fun _ => Ok.ret trivial)
  refine Ok.iteD (fun _ => ?_) (fun _ => Ok.ret trivial)
  refine Ok.iteD (fun _ => ?_) (fun _ => Ok.ret trivial)
  refine Ok.iteD (fun _ => ?_) (fun _ => Ok.ret trivial)
  refine Ok.bind (hin _ _ _) (fun x _ => Ok.iteB (fun _ => ?_) (fun _ => Ok.ret trivial))
  exact Ok.bind (hin _ _ _) (fun x _ => Ok.ret trivial)
theorem contains_ok (l : List Pick) (h : ∀ p ∈ l, PickSm p) (hl : l.length ≤ 1000000) : Ok (slices_ContainsFunc_Pick_lit1 l) (fun _ => True) := by
  unfold slices_ContainsFunc_Pick_lit1 slices_IndexFunc_Pick_lit1
  refine Ok.bind (P := fun _ => True) (Ok.bind (P := fun _ => True) (Ok.upto (l.length : Int) (by omega) (fun _ => True) trivial (fun i h0 h1 _ => ?_)) (fun o _ => ?_)) (fun x _ => Ok.ret trivial)
  · unfold slices_IndexFunc_Pick_lit1_l7 feed_Valid_lit1
    refine Ok.iteD (fun hlt => ?_) (fun _ => Ok.st trivial)
    refine Ok.bind (Ok.get h0 hlt) (fun x hx => ?_)
    refine Ok.bind (P := fun _ => True) (Ok.bind (validPick_ok x (h x hx.1)) (fun _ _ => Ok.ret trivial)) (fun y _ => ?_)
    refine Ok.iteB (fun _ => Ok.st trivial) (fun _ => ?_)
    rw [w64 (by omega) (by omega)]
    exact Ok.nx ⟨⟨by omega, by omega⟩, trivial⟩ (by omega)
  · cases o <;> exact Ok.ret trivial
theorem within_ok (l : List Int) (hl : l.length ≤ 1000000) : Ok (feed_within l) (fun _ => True) := by
  unfold feed_within slices_ContainsFunc_int_lit1 slices_IndexFunc_int_lit1
  refine Ok.bind (P := fun _ => True) (Ok.bind (P := fun _ => True) (Ok.bind (P := fun _ => True) (Ok.upto (l.length : Int) (by omega) (fun _ => True) trivial (fun i h0 h1 _ => ?_)) (fun o _ => ?_)) (fun x _ => Ok.ret trivial)) (fun x _ => Ok.ret trivial)
  · unfold slices_IndexFunc_int_lit1_l7 feed_within_lit1
    refine Ok.iteD (fun hlt => ?_) (fun _ => Ok.st trivial)
    refine Ok.bind (Ok.get h0 hlt) (fun x hx => ?_)
    refine Ok.bind (P := fun _ => True) (Ok.iteD (fun _ => Ok.ret trivial) (fun _ => Ok.ret trivial)) (fun y _ => ?_)
    refine Ok.iteB (fun _ => Ok.st trivial) (fun _ => ?_)
    rw [w64 (by omega) (by omega)]
    exact Ok.nx ⟨⟨by omega, by omega⟩, trivial⟩ (by omega)
  · cases o <;> exact Ok.ret trivial
theorem valid_ok (b : Bul) (h : BulSm b) : Ok (feed_Valid b) (fun _ => True) := by
  unfold feed_Valid
  refine Ok.iteD (fun _ => Ok.ret trivial) (fun _ => ?_)
  refine Ok.iteD (fun _ => Ok.ret trivial) (fun _ => ?_)
  refine Ok.iteD (fun _ => Ok.ret trivial) (fun _ => ?_)
  refine Ok.iteD (fun _ => Ok.ret trivial) (fun _ => ?_)
  refine Ok.iteD (fun _ => Ok.ret trivial) (fun _ => ?_)
  refine Ok.iteD (fun _ => Ok.ret trivial) (fun _ => ?_)
  refine Ok.iteN (fun _ => Ok.ret trivial) (fun _ => ?_)
  refine Ok.iteD (fun _ => Ok.ret trivial) (fun _ => ?_)
  refine Ok.iteD (fun _ => Ok.ret trivial) (fun _ => ?_)
  refine Ok.iteD (fun _ => Ok.ret trivial) (fun _ => ?_)
  refine Ok.bind (validPick_ok _ h.name) (fun x _ => Ok.iteN (fun _ => Ok.ret trivial) (fun _ => ?_))
  refine Ok.bind (contains_ok _ h.picks (by have := h.len; omega)) (fun x _ => Ok.iteB (fun _ => Ok.ret trivial) (fun _ => ?_))
  refine Ok.bind (within_ok _ (by simp)) (fun x _ => Ok.iteB (fun _ => ?_) (fun _ => Ok.ret trivial))
  rw [numbers_at, Option.bind_some]
  exact Ok.bind (within_ok _ (by rw [solNums_len]; omega)) (fun x _ => Ok.ret trivial)
theorem format_ok (s : Sid) (h : SidSm s) : Ok (source_Format s) (fun r => r.1.length ≤ 100000) := by
  unfold source_Format source_parts
  refine Ok.bind (sid_ok s h) (fun x _ => Ok.iteN (fun _ => Ok.ret (by simp)) (fun _ => ?_))
  obtain ⟨h1, h2, h3, h4⟩ := h
  have hw : ∀ w ∈ [s.fNetwork, s.fStation, s.fLocation, s.fChannel], w.length ≤ 20000 := by
    intro w hw
    simp only [List.mem_cons, List.not_mem_nil, or_false] at hw
    rcases hw with rfl | rfl | rfl | rfl <;> assumption
  rw [Option.bind_some, joinO_ok (by simp) (fun w h => by have := hw w h; omega) (by simp) (by simp), Option.bind_some]
  have := join_len (s := [46]) hw
  simp only [List.length_cons, List.length_nil] at this
  exact Ok.ret (by simp only; omega)
def WdsOk (d : List Wd) (n : Nat) : Prop := d.length = n ∧ ∀ w ∈ d, w.length ≤ 100000
theorem wds_itoa {l : List Int} (h : ∀ n ∈ l, big n) : ∀ w ∈ l.map itoa, w.length ≤ 100000 := by
  intro w hw
  obtain ⟨n, hn, rfl⟩ := List.mem_map.1 hw
  have := itoa_len (h n hn).1 (h n hn).2
  omega
theorem wds_app {d e : List Wd} {n m : Nat} (h : WdsOk d n) (he : e.length = m) (hw : ∀ w ∈ e, w.length ≤ 100000) : WdsOk (d ++ e) (n + m) := ⟨by rw [List.length_append, h.1, he], fun w hw' => (List.mem_append.1 hw').elim (h.2 w) (hw w)⟩
theorem writerp_ok (p : Pick) (h : PickSm p) (d : List Wd) (n : Nat) (hd : WdsOk d n) (hn : n ≤ 900000) : Ok (writer_pick p d) (fun r => WdsOk r (n + 6)) := by
  have hl := hd.1
  unfold writer_pick
  refine Ok.bind (format_ok _ h.sid) (fun x hx => ?_)
  refine Ok.bind (Ok.app (by simp only [List.length_cons, List.length_nil]; omega)) (fun y hy => ?_)
  subst hy
  rw [writerq_at h.nums (by simp) (by simp; omega), Option.bind_some]
  refine Ok.ret ?_
  have h1 : WdsOk (d ++ [x.1]) (n + 1) := wds_app hd rfl (by simpa using hx)
  have h2 := wds_app h1 (m := 5) (e := [p.fTime, p.fEarly, p.fLate, p.fAmplitude, p.fPolarity].map itoa) (by simp) (wds_itoa h.nums)
  exact h2
theorem encode_ok (b : Bul) (h : BulSm b) : Ok (feed_Encode b) (fun _ => True) := by
  have hl := h.len
  unfold feed_Encode
  refine Ok.bind (valid_ok b h) (fun x _ => Ok.iteN (fun _ => Ok.ret trivial) (fun _ => ?_))
  rw [writer_at h.nums (by simp), Option.bind_some]
  have h0 : WdsOk ([b.fNumber, b.fKind, b.fID, b.fAt, b.fLevel].map itoa) 5 := ⟨by simp, wds_itoa h.nums⟩
  refine Ok.bind (writerp_ok _ h.name _ 5 h0 (by omega)) (fun y hy => ?_)
  have hlen : ∀ n ∈ [(b.fEvent.fSolution.fPicks.length : Int)], big n := by
    intro n hn
    obtain rfl := List.mem_singleton.1 hn
    unfold big; omega
  rw [writerq_at hlen (by simp) (by have := hy.1; omega), Option.bind_some]
  have h1 := wds_app hy (m := 1) (e := [(b.fEvent.fSolution.fPicks.length : Int)].map itoa) (by simp) (wds_itoa hlen)
  refine Ok.bind (P := fun o => WdsOk o (12 + 6 * b.fEvent.fSolution.fPicks.length)) (Ok.loop (fun s => (0 ≤ s.1 ∧ s.1 ≤ b.fEvent.fSolution.fPicks.length) ∧ WdsOk s.2 (12 + 6 * s.1.toNat)) (fun s => ((b.fEvent.fSolution.fPicks.length : Int) - s.1).toNat) ?_ ⟨by simp only; omega, h1⟩) (fun o ho => ?_)
  · rintro ⟨i, d⟩ ⟨⟨i0, i1⟩, i2⟩
    simp only at i0 i1 i2
    unfold feed_Encode_l13
    refine Ok.iteD (fun hlt => ?_) (fun hge => ?_)
    · refine Ok.bind (Ok.get i0 hlt) (fun p hp => ?_)
      refine Ok.bind (writerp_ok p (h.picks p hp.1) d _ i2 (by omega)) (fun z hz => ?_)
      rw [w64 (by omega) (by omega)]
      refine Ok.nx ⟨by simp only; omega, ?_⟩ (by simp only; omega)
      have e : 12 + 6 * i.toNat + 6 = 12 + 6 * (i + 1).toNat := by omega
      rw [e] at hz
      exact hz
    · have e : i.toNat = b.fEvent.fSolution.fPicks.length := by omega
      rw [e] at i2
      exact Ok.st i2
  · rw [numbers_at, Option.bind_some, writerq_at h.sol (by rw [solNums_len]; omega) (by have := ho.1; omega), Option.bind_some]
    have h2 := wds_app ho (m := 15) (e := (solNums b.fEvent.fSolution).map itoa) (by rw [List.length_map, solNums_len]) (wds_itoa h.sol)
    have hne : o ++ (solNums b.fEvent.fSolution).map itoa ≠ [] := by
      intro e
      have := h2.1
      rw [e] at this
      simp at this
    rw [joinO_ok hne (fun w hw => by have := h2.2 w hw; omega) (by have := h2.1; omega) (by simp), Option.bind_some]
    exact Ok.ret trivial

/-! ### Decode ends, and what it answers is encoded as the text -/
theorem decode_ok (t : List UInt8) (ht : t.length ≤ 20000) : Ok (feed_Decode t) (fun r => r.2 = 0 → feed_Encode r.1 = some (t, 0)) := by
  obtain ⟨s1, s2⟩ := splitL_len' 32 t
  unfold feed_Decode
  rw [splitO_ok (by omega), Option.bind_some]
  have hr : RdOk ⟨splitL 32 t, false⟩ := ⟨by simp only; omega, fun w hw => Nat.le_trans (s2 w hw) ht⟩
  refine Ok.bind (number_ok _ hr) (fun x2 h2 => ?_)
  refine Ok.bind (number_ok _ h2.2.ok) (fun x3 h3 => ?_)
  refine Ok.bind (number_ok _ h3.2.ok) (fun x4 h4 => ?_)
  refine Ok.bind (number_ok _ h4.2.ok) (fun x5 h5 => ?_)
  refine Ok.bind (number_ok _ h5.2.ok) (fun x6 h6 => ?_)
  refine Ok.bind (pickr_ok _ h6.2.ok) (fun x7 h7 => ?_)
  refine Ok.bind (number_ok _ h7.2.ok) (fun x8 h8 => ?_)
  refine Ok.bind (loop_ok _ h8.1 _ h8.2.ok) (fun o ho => ?_)
  refine Ok.bind (pos_ok _ ho.1) (fun x23 h23 => ?_)
  refine Ok.bind (number_ok _ h23.2.ok) (fun x24 h24 => ?_)
  refine Ok.bind (number_ok _ h24.2.ok) (fun x25 h25 => ?_)
  refine Ok.bind (number_ok _ h25.2.ok) (fun x26 h26 => ?_)
  refine Ok.bind (pos_ok _ h26.2.ok) (fun x27 h27 => ?_)
  refine Ok.bind (pos_ok _ h27.2.ok) (fun x28 h28 => ?_)
  refine Ok.bind (number_ok _ h28.2.ok) (fun x29 h29 => ?_)
  refine Ok.bind (number_ok _ h29.2.ok) (fun x30 h30 => ?_)
  refine Ok.bind (number_ok _ h30.2.ok) (fun x31 h31 => ?_)
  refine Ok.iteB (fun _ => Ok.ret (fun e => by cases e)) (fun _ => ?_)
  refine Ok.iteD (fun _ => Ok.ret (fun e => by cases e)) (fun _ => ?_)
  have hb : BulSm ⟨x2.1, x3.1, x4.1, x5.1, x6.1, ⟨x7.1, ⟨o.2.2, ⟨x23.1, x24.1, x25.1, x26.1, ⟨x27.1, x28.1⟩⟩, ⟨x29.1, x30.1⟩, x31.1⟩⟩⟩ := by
    refine ⟨?_, h7.1, ho.2.1, ho.2.2, ?_⟩
    · intro n hn
      simp only [List.mem_cons, List.not_mem_nil, or_false] at hn
      rcases hn with rfl | rfl | rfl | rfl | rfl
      · exact h2.1
      · exact h3.1
      · exact h4.1
      · exact h5.1
      · exact h6.1
    · intro n hn
      simp only [solNums] at hn
      rcases List.mem_append.1 hn with hn | hn
      · exact h23.1 n hn
      rcases List.mem_append.1 hn with hn | hn
      · simp only [List.mem_cons, List.not_mem_nil, or_false] at hn
        rcases hn with rfl | rfl | rfl
        · exact h24.1
        · exact h25.1
        · exact h26.1
      rcases List.mem_append.1 hn with hn | hn
      · exact h27.1 n hn
      rcases List.mem_append.1 hn with hn | hn
      · exact h28.1 n hn
      simp only [List.mem_cons, List.not_mem_nil, or_false] at hn
      rcases hn with rfl | rfl | rfl
      · exact h29.1
      · exact h30.1
      · exact h31.1
  obtain ⟨⟨w, e⟩, he, -⟩ := encode_ok _ hb
  have hq := Encodeq_eq ⟨x2.1, x3.1, x4.1, x5.1, x6.1, ⟨x7.1, ⟨o.2.2, ⟨x23.1, x24.1, x25.1, x26.1, ⟨x27.1, x28.1⟩⟩, ⟨x29.1, x30.1⟩, x31.1⟩⟩⟩
  rw [he] at hq
  simp only [Option.map_some] at hq
  rw [hq, Option.bind_some]
  refine Ok.iteNe (fun _ => Ok.ret (fun e => by cases e)) (fun h0 => ?_)
  refine Ok.iteN (fun _ => Ok.ret (fun e => by cases e)) (fun h1 => Ok.ret (fun _ => ?_))
  simp only at h0 h1
  have h1' : w = t := by simpa using h1
  rw [← h1', ← h0]
  exact he
end Go.Dw.Fe

/- FeLawE: the events that the dice make, and that the functions of a step end (plain Lean). -/

set_option maxRecDepth 100000
set_option maxHeartbeats 4000000
namespace Go.Dw.Fe
open Go.Dw Go.Lib

/-! ### Events -/
theorem modO_at {α : Type} {l : List α} {n : Int} {x : α} {f : α → α} (h0 : 0 ≤ n) (hx : l[n.toNat]? = some x) : modO l n f = some (l.set n.toNat (f x)) := by
  unfold modO
  rw [if_pos h0, hx]
theorem set_at {α : Type} {l : List α} {i : Nat} {x y : α} (hx : l[i]? = some x) : (l.set i y)[i]? = some y := by
  obtain ⟨h, -⟩ := List.getElem?_eq_some_iff.1 hx
  rw [List.getElem?_set_self h]
theorem events_l30 {e : Ev} {d : Src} (he : e.fSolution.fPicks.length ≤ 4) (i : Int) (hi0 : 0 ≤ i) (hi1 : i ≤ 4) (es : List Ev) (hp : ∀ p ∈ e.fSolution.fPicks, PickOk p) :
    Ok (loopO (Src_Events_l30 (e, d) i es) ((0 : Int), e.fSolution.fPicks)) (fun o => o.1 = i ∧ o.2.1 = es ∧ o.2.2.length = e.fSolution.fPicks.length ∧ ∀ p ∈ o.2.2, PickOk p) := by
  refine Ok.loop (fun s => 0 ≤ s.1 ∧ s.1 ≤ e.fSolution.fPicks.length ∧ s.2.length = e.fSolution.fPicks.length ∧ ∀ p ∈ s.2, PickOk p) (fun s => ((e.fSolution.fPicks.length : Int) - s.1).toNat) ?_ ⟨by simp only; omega, by simp only; omega, rfl, hp⟩
  rintro ⟨k, ps⟩ ⟨i0, i1, i2, i3⟩
  simp only at i0 i1 i2 i3
  unfold Src_Events_l30
  refine Ok.iteD (fun hlt => ?_) (fun _ => Ok.st ⟨rfl, rfl, i2, i3⟩)
  simp only at hlt
  refine Ok.bind (Ok.isin i0 (by omega)) (fun _ _ => ?_)
  have hlt' : k.toNat < ps.length := by omega
  have hx := List.getElem?_eq_getElem hlt'
  have hpx := i3 _ (List.getElem_mem hlt')
  rw [modO_at i0 hx, Option.bind_some, modO_at i0 (set_at hx), Option.bind_some, List.set_set, modO_at i0 (set_at hx), Option.bind_some, List.set_set, modO_at i0 (set_at hx), Option.bind_some, List.set_set]
  rw [w64 (n := 400 * i) (by omega) (by omega), w64 (n := 1000 + 400 * i) (by omega) (by omega), w64 (n := 1000 + 400 * i + k) (by omega) (by omega), w64 (n := 1000 + 400 * i + k + 2) (by omega) (by omega), w64 (n := k + 1) (by omega) (by omega)]
  refine Ok.nx ⟨by simp only; omega, by simp only; omega, by simpa using i2, ?_⟩ (by simp only; omega)
  intro p hp'
  rcases List.mem_or_eq_of_mem_set hp' with h | h
  · exact i3 p h
  · subst h
    obtain ⟨hs, h1, h2, h3, h4, h5, h6, h7, h8⟩ := hpx
    refine ⟨hs, ?_⟩
    simp only
    omega
theorem events_ok (d : Src) (hd : SrcOk d) : Ok (Src_Events 4 d) (fun r => (r.1.length ≤ 4 ∧ ∀ e ∈ r.1, EvOk e) ∧ SrcOk r.2) := by
  unfold Src_Events
  refine Ok.bind (P := fun o => (o.1.length ≤ 4 ∧ ∀ e ∈ o.1, EvOk e) ∧ SrcOk ⟨o.2.1, o.2.2⟩) (Ok.loop (fun s => (0 ≤ s.1 ∧ s.1 ≤ 4) ∧ SrcOk ⟨s.2.1, s.2.2.1⟩ ∧ s.2.2.2.length ≤ s.1.toNat ∧ ∀ e ∈ s.2.2.2, EvOk e) (fun s => (4 - s.1).toNat) ?_ ⟨by simp, hd, by simp, by simp⟩) (fun o ho => Ok.ret ho)
  rintro ⟨i, L, a, es⟩ ⟨⟨i0, i1⟩, i2, i3, i4⟩
  simp only at i0 i1 i2 i3 i4
  unfold Src_Events_l36
  refine Ok.iteD (fun hlt => ?_) (fun _ => Ok.st ⟨⟨by simp only; omega, i4⟩, i2⟩)
  refine Ok.bind (n_ok _ _ i2 (by omega) (by omega)) (fun x1 h1 => ?_)
  refine Ok.iteE (fun _ => ?_) (fun _ => ?_)
  · rw [w64 (by omega) (by omega)]
    exact Ok.nx ⟨by simp only; omega, h1.2.2, by simp only; omega, i4⟩ (by simp only; omega)
  · refine Ok.bind (event_ok _ h1.2.2) (fun x2 h2 => ?_)
    obtain ⟨he, hd2⟩ := h2
    have hl4 := he.sol.len
    have hl1 := he.sol.len1
    refine Ok.bind (events_l30 (d := x2.2) hl4 i i0 i1 es he.sol.picks) (fun o ho => ?_)
    obtain ⟨o1, o2, o3, o4⟩ := ho
    refine Ok.bind (n_ok _ _ hd2 (by omega) (by omega)) (fun x3 h3 => ?_)
    rw [w64 (n := (o.2.2.length : Int) - 1) (by omega) (by omega)]
    refine Ok.bind (Ok.cut (by split <;> omega) (by split <;> omega) (by omega)) (fun x4 h4 => ?_)
    have hl5 : 1 ≤ x4.length ∧ x4.length ≤ 4 := by
      subst h4
      simp only [List.length_take, List.length_drop]
      split <;> omega
    have hm : ∀ p ∈ x4, PickOk p := fun p hp => by
      subst h4
      exact o4 p (List.mem_of_mem_drop (List.mem_of_mem_take hp))
    refine Ok.bind (Ok.get (by omega) (by omega)) (fun x5 h5 => ?_)
    rw [o1, o2]
    refine Ok.bind (Ok.app (by simp only [List.length_cons, List.length_nil]; omega)) (fun x6 h6 => ?_)
    subst h6
    rw [w64 (by omega) (by omega)]
    refine Ok.nx ⟨by simp only; omega, h3.2.2, by simp only [List.length_append, List.length_cons, List.length_nil]; omega, ?_⟩ (by simp only; omega)
    intro e hmem
    rcases List.mem_append.1 hmem with hmem | hmem
    · exact i4 e hmem
    · obtain rfl := List.mem_singleton.1 hmem
      obtain ⟨-, -, -, q1, q2, q3, q4, q5, q6, q7, q8, q9⟩ := he.sol
      exact ⟨hm _ h5.1, ⟨hm, hl5.2, hl5.1, q1, q2, q3, q4, q5, q6, q7, q8, q9⟩⟩

/-! ### What a step calls, ends -/
theorem rwithin_ok (n : Int) : Ok (ref35_within n) (fun _ => True) := by
  unfold ref35_within
  exact Ok.iteD (fun _ => Ok.ret trivial) (fun _ => Ok.ret trivial)
theorem validate_ok (p : Policy) : Ok (ref35_Validate p) (fun r => r = 0 → p.fRules.length ≤ 8) := by
  unfold ref35_Validate
  refine Ok.iteD (fun _ => Ok.ret (fun e => by cases e)) (fun _ => ?_)
  refine Ok.iteD (fun _ => Ok.ret (fun e => by cases e)) (fun h8 => ?_)
  have h8' : p.fRules.length ≤ 8 := by omega
  refine Ok.bind (rwithin_ok _) (fun x _ => Ok.iteN (fun _ => Ok.ret (fun e => by cases e)) (fun _ => ?_))
  refine Ok.bind (rwithin_ok _) (fun x _ => Ok.iteN (fun _ => Ok.ret (fun e => by cases e)) (fun _ => ?_))
  refine Ok.bind (P := fun _ => True) (Ok.upto (p.fRules.length : Int) (by omega) (fun _ => True) trivial (fun i h0 h1 _ => ?_)) (fun o _ => ?_)
  · unfold ref35_Validate_l19
    refine Ok.iteD (fun hlt => ?_) (fun _ => Ok.st trivial)
    refine Ok.bind (Ok.get h0 hlt) (fun x _ => ?_)
    refine Ok.iteD (fun _ => Ok.st trivial) (fun _ => ?_)
    refine Ok.iteD (fun _ => Ok.st trivial) (fun _ => ?_)
    refine Ok.iteD (fun _ => Ok.st trivial) (fun _ => ?_)
    refine Ok.iteD (fun _ => Ok.st trivial) (fun _ => ?_)
    refine Ok.bind (rwithin_ok _) (fun x _ => Ok.iteN (fun _ => Ok.st trivial) (fun _ => ?_))
    refine Ok.bind (rwithin_ok _) (fun x _ => Ok.iteN (fun _ => Ok.st trivial) (fun _ => ?_))
    rw [w64 (by omega) (by omega)]
    exact Ok.nx ⟨⟨by omega, by omega⟩, trivial⟩ (by omega)
  · cases o <;> exact Ok.ret (fun _ => h8')
theorem avalid_l15 (l : List Alert) (hl : l.length ≤ 1000) (s : Int) (h0 : 0 ≤ s) (h1 : s < l.length) : Ok (loopO (ref36_Valid_l15 s l) (0 : Int)) (fun o => ∀ y, o = .inl y → y = s) := by
  refine Ok.upto s h0 (fun _ => True) trivial (fun i g0 g1 _ => ?_)
  have nx : Ok (some (.next (IntKind.wrap .i64 (i + (1 : Int))))) (Ok.S (fun i => (0 ≤ i ∧ i ≤ s) ∧ True) (fun i => (s - i).toNat) (fun o : Int ⊕ Bool => ∀ y, o = .inl y → y = s) i) ∨ ¬ i < s := by
    by_cases hlt : i < s
    · left
      rw [w64 (by omega) (by omega)]
      exact Ok.nx ⟨⟨by omega, by omega⟩, trivial⟩ (by omega)
    · exact .inr hlt
  unfold ref36_Valid_l15
  refine Ok.iteD (fun hlt => ?_) (fun _ => Ok.st (fun y e => by cases e; rfl))
  have nx := nx.resolve_right (fun h => h hlt)
  refine Ok.bind (Ok.get h0 h1) (fun x _ => Ok.iteN (fun _ => ?_) (fun _ => nx))
  refine Ok.bind (Ok.get g0 (by omega)) (fun x _ => Ok.iteN (fun _ => ?_) (fun _ => nx))
  refine Ok.bind (Ok.get h0 h1) (fun x _ => ?_)
  refine Ok.bind (Ok.get g0 (by omega)) (fun y _ => ?_)
  exact Ok.iteB (fun _ => Ok.st (fun y e => by cases e)) (fun _ => nx)
theorem avalid_ok (l : List Alert) (hl : l.length ≤ 1000) : Ok (ref36_Valid l) (fun _ => True) := by
  unfold ref36_Valid
  refine Ok.bind (P := fun _ => True) (Ok.upto (l.length : Int) (by omega) (fun _ => True) trivial (fun i h0 h1 _ => ?_)) (fun o _ => by cases o <;> exact Ok.ret trivial)
  unfold ref36_Valid_l36
  refine Ok.iteD (fun hlt => ?_) (fun _ => Ok.st trivial)
  have k19 : Ok (ref36_Valid_k19 i l) (Ok.S (fun i => (0 ≤ i ∧ i ≤ (l.length : Int)) ∧ True) (fun i => ((l.length : Int) - i).toNat) (fun _ : Unit ⊕ Bool => True) i) := by
    unfold ref36_Valid_k19
    refine Ok.bind (avalid_l15 l hl i h0 hlt) (fun o ho => ?_)
    cases o with
    | inl y =>
      obtain rfl := ho y rfl
      simp only
      rw [w64 (by omega) (by omega)]
      exact Ok.nx ⟨⟨by omega, by omega⟩, trivial⟩ (by omega)
    | inr y => exact Ok.st trivial
  refine Ok.bind (Ok.get h0 hlt) (fun x _ => Ok.iteD (fun _ => Ok.st trivial) (fun _ => ?_))
  refine Ok.bind (Ok.get h0 hlt) (fun x _ => Ok.iteD (fun _ => Ok.st trivial) (fun _ => ?_))
  refine Ok.iteD (fun hpos => ?_) (fun _ => ?_)
  · rw [w64 (by omega) (by omega)]
    refine Ok.bind (Ok.get h0 hlt) (fun x _ => ?_)
    refine Ok.bind (Ok.get (by omega) (by omega)) (fun y _ => Ok.iteD (fun _ => Ok.st trivial) (fun _ => ?_))
    refine Ok.bind (Ok.get h0 hlt) (fun x _ => Ok.iteD (fun _ => Ok.st trivial) (fun _ => ?_))
    refine Ok.bind (Ok.get h0 hlt) (fun x _ => Ok.iteD (fun _ => Ok.st trivial) (fun _ => k19))
  · refine Ok.bind (Ok.get h0 hlt) (fun x _ => Ok.iteD (fun _ => Ok.st trivial) (fun _ => ?_))
    refine Ok.bind (Ok.get h0 hlt) (fun x _ => Ok.iteD (fun _ => Ok.st trivial) (fun _ => k19))
theorem rcmp_ok (a b : List UInt8) : Ok (ref03_compare a b) (fun _ => True) := by
  unfold ref03_compare
  exact Ok.iteB (fun _ => Ok.ret trivial) (fun _ => Ok.iteN (fun _ => Ok.ret trivial) (fun _ => Ok.ret trivial))
theorem rcmp3_ok (a b : Sid) : Ok (ref03_Compare a b) (fun _ => True) := by
  unfold ref03_Compare
  refine Ok.bind (rcmp_ok _ _) (fun x1 _ => ?_)
  refine Ok.bind (rcmp_ok _ _) (fun x2 _ => ?_)
  refine Ok.bind (rcmp_ok _ _) (fun x3 _ => ?_)
  refine Ok.bind (rcmp_ok _ _) (fun x4 _ => ?_)
  repeat' (first | refine Ok.iteNe (fun _ => ?_) (fun _ => ?_) | exact Ok.ret trivial)
theorem rcmp23_ok (a b : Pick) : Ok (ref23_Compare a b) (fun _ => True) := by
  unfold ref23_Compare
  refine Ok.bind (rcmp3_ok _ _) (fun x1 _ => Ok.iteNe (fun _ => Ok.ret trivial) (fun _ => ?_))
  repeat' (first | refine Ok.iteD (fun _ => ?_) (fun _ => ?_) | exact Ok.ret trivial)
theorem rcmp34_ok (a b : Pick) : Ok (ref34_Compare a b) (fun _ => True) := by
  unfold ref34_Compare
  refine Ok.iteD (fun _ => Ok.ret trivial) (fun _ => Ok.iteD (fun _ => Ok.ret trivial) (fun _ => ?_))
  exact Ok.bind (rcmp23_ok _ _) (fun x _ => Ok.ret trivial)
theorem name_ok (l : List Pick) (h1 : 1 ≤ l.length) (h2 : l.length ≤ 1000) : Ok (ref34_Name l) (fun _ => True) := by
  unfold ref34_Name
  refine Ok.bind (Ok.get (by omega) (by omega)) (fun x _ => ?_)
  refine Ok.bind (P := fun _ => True) (Ok.loop (fun s => 0 ≤ s.1 ∧ s.1 ≤ (l.length : Int)) (fun s => ((l.length : Int) - s.1).toNat) ?_ ⟨by simp only; omega, by simp only; omega⟩) (fun o _ => Ok.ret trivial)
  rintro ⟨i, a1, a2, a3, a4, a5, a6, a7, a8, a9⟩ ⟨i0, i1⟩
  simp only at i0 i1
  unfold ref34_Name_l27
  refine Ok.iteD (fun hlt => ?_) (fun _ => Ok.st trivial)
  refine Ok.bind (Ok.get i0 hlt) (fun x _ => ?_)
  refine Ok.bind (rcmp34_ok _ _) (fun y _ => ?_)
  rw [w64 (by omega) (by omega)]
  refine Ok.iteD (fun _ => ?_) (fun _ => ?_)
  · refine Ok.bind (Ok.get i0 hlt) (fun x _ => ?_)
    exact Ok.nx ⟨by simp only; omega, by simp only; omega⟩ (by simp only; omega)
  · exact Ok.nx ⟨by simp only; omega, by simp only; omega⟩ (by simp only; omega)
theorem copyL_len {α : Type} {l y : List α} {a m : Nat} (h : a + m ≤ l.length) : (copyL l a m y).length = l.length := by
  have : Nat.min y.length m ≤ m := Nat.min_le_right _ _
  have h2 : Nat.min y.length m ≤ y.length := Nat.min_le_left _ _
  simp only [copyL, List.length_append, List.length_take, List.length_drop]
  omega
theorem sort_ok (l : List Pick) (hl : l.length ≤ 1000) : Ok (ref23_Sort l) (fun r => r.length ≤ 1000) := by
  unfold ref23_Sort
  refine Ok.bind (P := fun o => o.length ≤ 1000) (Ok.loop (fun s => 0 ≤ s.1 ∧ s.1 ≤ (l.length : Int) ∧ s.2.length ≤ s.1.toNat) (fun s => ((l.length : Int) - s.1).toNat) ?_ ⟨by simp, by simp, by simp⟩) (fun o ho => Ok.ret ho)
  rintro ⟨i, ps⟩ ⟨i0, i1, i2⟩
  simp only at i0 i1 i2
  unfold ref23_Sort_l38
  refine Ok.iteD (fun hlt => ?_) (fun _ => Ok.st (show ps.length ≤ 1000 by omega))
  refine Ok.bind (P := fun o => o.1 = i ∧ (0 ≤ o.2.1 ∧ o.2.1 ≤ (ps.length : Int)) ∧ o.2.2 = ps) (Ok.loop (fun k : Int => 0 ≤ k ∧ k ≤ (ps.length : Int)) (fun k => k.toNat) ?_ ⟨by omega, by omega⟩) ?_
  · rintro k ⟨k0, k1⟩
    unfold ref23_Sort_l18
    refine Ok.iteD (fun hk => ?_) (fun _ => Ok.st ⟨rfl, ⟨k0, k1⟩, rfl⟩)
    rw [w64 (by omega) (by omega)]
    refine Ok.bind (Ok.isin (by omega) (by omega)) (fun _ _ => ?_)
    refine Ok.bind (Ok.get (by omega) (by omega)) (fun x _ => ?_)
    refine Ok.bind (Ok.get i0 hlt) (fun y _ => ?_)
    refine Ok.bind (rcmp23_ok _ _) (fun z _ => ?_)
    exact Ok.iteD (fun _ => Ok.nx ⟨by omega, by omega⟩ (by omega)) (fun _ => Ok.st ⟨rfl, ⟨k0, k1⟩, rfl⟩)
  · rintro ⟨o1, o2, o3⟩ ⟨e1, ⟨k0, k1⟩, e3⟩
    simp only at e1 k0 k1 e3
    subst e1 e3
    have k31 : Ok (ref23_Sort_k31 l (o1, o2, o3)) (Ok.S (fun s => 0 ≤ s.1 ∧ s.1 ≤ (l.length : Int) ∧ s.2.length ≤ s.1.toNat) (fun s => ((l.length : Int) - s.1).toNat) (fun o : List Pick => o.length ≤ 1000) (o1, o3)) := by
      unfold ref23_Sort_k31
      simp only
      refine Ok.bind (Ok.get i0 hlt) (fun x _ => ?_)
      refine Ok.bind (Ok.app (by simp only [List.length_cons, List.length_nil]; omega)) (fun y hy => ?_)
      have hyl : y.length = o3.length + 1 := by rw [hy]; simp
      rw [w64 (n := o2 + 1) (by omega) (by omega), w64 (n := o1 + 1) (by omega) (by omega)]
      refine Ok.bind (Ok.sub (by omega) (by omega) (by omega)) (fun _ _ => ?_)
      refine Ok.bind (Ok.sub (by omega) (by omega) (by omega)) (fun _ _ => ?_)
      refine Ok.bind (Ok.view (by omega) (by omega)) (fun _ _ => ?_)
      refine Ok.bind (Ok.part (by omega) (by omega)) (fun z _ => ?_)
      refine Ok.bind (Ok.get i0 hlt) (fun x2 _ => ?_)
      have hc : (copyL y (0 + (o2 + 1).toNat) (0 + ((y.length : Int)).toNat - (0 + (o2 + 1).toNat)) z).length = y.length := copyL_len (by omega)
      refine Ok.bind (Ok.isin (by omega) (by rw [hc]; omega)) (fun _ _ => ?_)
      refine Ok.bind (Ok.set (by omega) (by rw [hc]; omega)) (fun w hw => ?_)
      have hwl : w.length = y.length := by rw [hw, List.length_set, hc]
      exact Ok.nx ⟨by simp only; omega, by simp only; omega, by simp only; omega⟩ (by simp only; omega)
    simp only
    refine Ok.iteD (fun hpos => ?_) (fun _ => k31)
    rw [w64 (n := o2 - 1) (by omega) (by omega)]
    refine Ok.bind (Ok.isin (by omega) (by omega)) (fun _ _ => ?_)
    refine Ok.bind (Ok.get (by omega) (by omega)) (fun x _ => ?_)
    refine Ok.bind (Ok.get i0 hlt) (fun y _ => ?_)
    refine Ok.iteB (fun _ => ?_) (fun _ => k31)
    rw [w64 (by omega) (by omega)]
    exact Ok.nx ⟨by simp only; omega, by simp only; omega, by simp only; omega⟩ (by simp only; omega)
theorem samePicks_ok (a b : List Pick) (hl : a.length ≤ 1000) : Ok (ref33_SamePicks a b) (fun _ => True) := by
  unfold ref33_SamePicks
  refine Ok.iteNe (fun _ => Ok.ret trivial) (fun he => ?_)
  refine Ok.bind (P := fun _ => True) (Ok.upto (a.length : Int) (by omega) (fun _ => True) trivial (fun i h0 h1 _ => ?_)) (fun o _ => by cases o <;> exact Ok.ret trivial)
  unfold ref33_SamePicks_l8
  refine Ok.iteD (fun hlt => ?_) (fun _ => Ok.st trivial)
  refine Ok.bind (Ok.get h0 hlt) (fun x _ => ?_)
  refine Ok.bind (Ok.get h0 (by omega)) (fun y _ => ?_)
  refine Ok.iteN (fun _ => Ok.st trivial) (fun _ => ?_)
  rw [w64 (by omega) (by omega)]
  exact Ok.nx ⟨⟨by omega, by omega⟩, trivial⟩ (by omega)
theorem common_l11_ok (a b : List Pick) (hb : b.length ≤ 1000) (s : Int) (h0 : 0 ≤ s) (h1 : s < a.length) : Ok (loopO (ref34_common_l11 b a s) (0 : Int)) (fun o => ∀ y, o = .inl y → y = s) := by
  refine Ok.upto (b.length : Int) (by omega) (fun _ => True) trivial (fun i g0 g1 _ => ?_)
  unfold ref34_common_l11
  refine Ok.iteD (fun hlt => ?_) (fun _ => Ok.st (fun y e => by cases e; rfl))
  refine Ok.bind (Ok.get h0 h1) (fun x _ => ?_)
  refine Ok.bind (Ok.get g0 hlt) (fun y _ => ?_)
  refine Ok.iteB (fun _ => Ok.st (fun y e => by cases e)) (fun _ => ?_)
  rw [w64 (by omega) (by omega)]
  exact Ok.nx ⟨⟨by omega, by omega⟩, trivial⟩ (by omega)
theorem common_ok (a b : List Pick) (ha : a.length ≤ 1000) (hb : b.length ≤ 1000) : Ok (ref34_common a b) (fun _ => True) := by
  unfold ref34_common
  refine Ok.bind (P := fun _ => True) (Ok.upto (a.length : Int) (by omega) (fun _ => True) trivial (fun i h0 h1 _ => ?_)) (fun o _ => by cases o <;> exact Ok.ret trivial)
  unfold ref34_common_l15
  refine Ok.iteD (fun hlt => ?_) (fun _ => Ok.st trivial)
  refine Ok.bind (common_l11_ok a b hb i h0 hlt) (fun o ho => ?_)
  cases o with
  | inl y =>
    obtain rfl := ho y rfl
    simp only
    rw [w64 (by omega) (by omega)]
    exact Ok.nx ⟨⟨by omega, by omega⟩, trivial⟩ (by omega)
  | inr y => exact Ok.st trivial
theorem common36_eq (a b : List Pick) : ref36_common a b = ref34_common a b := rfl
theorem evalid_ok (l : List Ev) (hl : l.length ≤ 1000) (h : ∀ e ∈ l, e.fSolution.fPicks.length ≤ 1000) : Ok (ref34_Valid l) (fun _ => True) := by
  unfold ref34_Valid
  refine Ok.bind (P := fun _ => True) (Ok.upto (l.length : Int) (by omega) (fun _ => True) trivial (fun i h0 h1 _ => ?_)) (fun o _ => by cases o <;> exact Ok.ret trivial)
  unfold ref34_Valid_l29
  refine Ok.iteD (fun hlt => ?_) (fun _ => Ok.st trivial)
  refine Ok.bind (Ok.get h0 hlt) (fun x hx => ?_)
  have hxl := h x hx.1
  have k16 : Ok (ref34_Valid_k16 i l x) (Ok.S (fun i => (0 ≤ i ∧ i ≤ (l.length : Int)) ∧ True) (fun i => ((l.length : Int) - i).toNat) (fun _ : Unit ⊕ Bool => True) i) := by
    unfold ref34_Valid_k16
    refine Ok.bind (P := fun o : Int ⊕ Bool => ∀ y, o = .inl y → y = i) (Ok.upto i h0 (fun _ => True) trivial (fun k g0 g1 _ => ?_)) (fun o ho => ?_)
    · unfold ref34_Valid_l12
      refine Ok.iteD (fun hk => ?_) (fun _ => Ok.st (fun y e => by cases e; rfl))
      refine Ok.bind (Ok.get g0 (by omega)) (fun y hy => ?_)
      refine Ok.bind (common_ok _ _ hxl (h y hy.1)) (fun z _ => ?_)
      refine Ok.iteB (fun _ => Ok.st (fun y e => by cases e)) (fun _ => ?_)
      rw [w64 (by omega) (by omega)]
      exact Ok.nx ⟨⟨by omega, by omega⟩, trivial⟩ (by omega)
    · cases o with
      | inl y =>
        obtain rfl := ho y rfl
        simp only
        rw [w64 (by omega) (by omega)]
        exact Ok.nx ⟨⟨by omega, by omega⟩, trivial⟩ (by omega)
      | inr y => exact Ok.st trivial
  refine Ok.iteE (fun _ => Ok.st trivial) (fun hne => ?_)
  refine Ok.bind (Ok.get h0 hlt) (fun x2 _ => ?_)
  refine Ok.bind (name_ok _ (by omega) hxl) (fun x3 _ => ?_)
  refine Ok.iteN (fun _ => Ok.st trivial) (fun _ => ?_)
  refine Ok.bind (sort_ok _ hxl) (fun x4 _ => ?_)
  refine Ok.bind (samePicks_ok _ _ hxl) (fun x5 _ => Ok.iteN (fun _ => Ok.st trivial) (fun _ => ?_))
  refine Ok.iteD (fun hpos => ?_) (fun _ => k16)
  rw [w64 (by omega) (by omega)]
  refine Ok.bind (Ok.get (by omega) (by omega)) (fun x6 _ => ?_)
  refine Ok.bind (Ok.get h0 hlt) (fun x7 _ => ?_)
  refine Ok.bind (rcmp34_ok _ _) (fun x8 _ => ?_)
  exact Ok.iteD (fun _ => Ok.st trivial) (fun _ => k16)
theorem errors_ok (p : Policy) (l : List Alert) (n : Int) (es : List Ev) (now : Int) (hl : l.length ≤ 1000) (hel : es.length ≤ 1000) (h : ∀ e ∈ es, e.fSolution.fPicks.length ≤ 1000) : Ok (ref36_Errors p l n es now) (fun r => r = 0 → p.fRules.length ≤ 8) := by
  have k14 : p.fRules.length ≤ 8 → Ok (ref36_Errors_k14 now l) (fun r => r = 0 → p.fRules.length ≤ 8) := by
    intro h8
    unfold ref36_Errors_k14
    refine Ok.iteD (fun _ => Ok.ret (fun _ => h8)) (fun _ => Ok.iteD (fun _ => Ok.ret (fun _ => h8)) (fun _ => ?_))
    refine Ok.bind (P := fun _ => True) (Ok.upto (l.length : Int) (by omega) (fun _ => True) trivial (fun i h0 h1 _ => ?_)) (fun o _ => by cases o <;> exact Ok.ret (fun _ => h8))
    unfold ref36_Errors_l10
    refine Ok.iteD (fun hlt => ?_) (fun _ => Ok.st trivial)
    refine Ok.bind (Ok.get h0 hlt) (fun x _ => Ok.iteD (fun _ => Ok.st trivial) (fun _ => ?_))
    rw [w64 (by omega) (by omega)]
    exact Ok.nx ⟨⟨by omega, by omega⟩, trivial⟩ (by omega)
  unfold ref36_Errors
  refine Ok.bind (validate_ok p) (fun x hx => Ok.iteNe (fun _ => Ok.ret (fun e => by cases e)) (fun h0 => ?_))
  have h8 := hx h0
  refine Ok.bind (avalid_ok l hl) (fun x _ => Ok.iteN (fun _ => Ok.ret (fun _ => h8)) (fun _ => ?_))
  refine Ok.bind (evalid_ok es hel h) (fun x _ => Ok.iteN (fun _ => Ok.ret (fun _ => h8)) (fun _ => ?_))
  refine Ok.iteD (fun _ => Ok.ret (fun _ => h8)) (fun _ => Ok.iteD (fun hpos => ?_) (fun _ => k14 h8))
  rw [w64 (by omega) (by omega)]
  refine Ok.bind (Ok.get (by omega) (by omega)) (fun x _ => ?_)
  exact Ok.iteD (fun _ => Ok.ret (fun _ => h8)) (fun _ => k14 h8)
end Go.Dw.Fe

/- FeLawF: the bulletins that the steps of the reference make are valid and numbered in order (plain Lean). -/

set_option maxRecDepth 100000
set_option maxHeartbeats 4000000
namespace Go.Dw.Fe
open Go.Dw Go.Lib

theorem inq_ok (a : Int) (d : List Int) (hl : d.length ≤ 1000000) : Ok (ref36_inq a d) (fun r => r.2 = d) := by
  unfold ref36_inq
  refine Ok.bind (P := fun o : Unit ⊕ (Bool × List Int) => ∀ y, o = .inr y → y.2 = d) (Ok.upto (d.length : Int) (by omega) (fun _ => True) trivial (fun i h0 h1 _ => ?_)) (fun o ho => ?_)
  · unfold ref36_inq_l8
    refine Ok.iteD (fun hlt => ?_) (fun _ => Ok.st (fun y e => by cases e))
    refine Ok.bind (Ok.isin h0 hlt) (fun _ _ => ?_)
    refine Ok.bind (Ok.get h0 hlt) (fun x _ => ?_)
    refine Ok.iteE (fun _ => Ok.st (fun y e => by cases e; rfl)) (fun _ => ?_)
    rw [w64 (by omega) (by omega)]
    exact Ok.nx ⟨⟨by omega, by omega⟩, trivial⟩ (by omega)
  · cases o with
    | inl y => exact Ok.ret rfl
    | inr y => exact Ok.ret (ho y rfl)
theorem inqq_ok (d : List Int) (a : Int) (hl : d.length ≤ 1000000) : Ok (ref36_inqq d a) (fun _ => True) := by
  unfold ref36_inqq
  refine Ok.bind (P := fun _ => True) (Ok.upto (d.length : Int) (by omega) (fun _ => True) trivial (fun i h0 h1 _ => ?_)) (fun o _ => by cases o <;> exact Ok.ret trivial)
  unfold ref36_inqq_l6
  refine Ok.iteD (fun hlt => ?_) (fun _ => Ok.st trivial)
  refine Ok.bind (Ok.get h0 hlt) (fun x _ => ?_)
  refine Ok.iteE (fun _ => Ok.st trivial) (fun _ => ?_)
  rw [w64 (by omega) (by omega)]
  exact Ok.nx ⟨⟨by omega, by omega⟩, trivial⟩ (by omega)
theorem index_ok (es : List Ev) (p : Pick) (hl : es.length ≤ 1000000) : Ok (ref34_Index es p) (fun r => r < es.length) := by
  unfold ref34_Index
  refine Ok.bind (P := fun o : Unit ⊕ Int => ∀ y, o = .inr y → y < es.length) (Ok.upto (es.length : Int) (by omega) (fun _ => True) trivial (fun i h0 h1 _ => ?_)) (fun o ho => ?_)
  · unfold ref34_Index_l6
    refine Ok.iteD (fun hlt => ?_) (fun _ => Ok.st (fun y e => by cases e))
    refine Ok.bind (Ok.get h0 hlt) (fun x _ => ?_)
    refine Ok.iteB (fun _ => Ok.st (fun y e => by cases e; exact hlt)) (fun _ => ?_)
    rw [w64 (by omega) (by omega)]
    exact Ok.nx ⟨⟨by omega, by omega⟩, trivial⟩ (by omega)
  · cases o with
    | inl y => exact Ok.ret (by omega)
    | inr y => exact Ok.ret (ho y rfl)
def FlOk (es : List Ev) (n : Nat) (r : List Int) : Prop := r.length = n ∧ ∀ x ∈ r, x < es.length
theorem follow_ok (l : List Alert) (es : List Ev) (hl : l.length ≤ 1000) (hel : es.length ≤ 1000) (hp : ∀ a ∈ l, a.fEvent.fSolution.fPicks.length ≤ 1000) (hq : ∀ e ∈ es, e.fSolution.fPicks.length ≤ 1000) : Ok (ref36_Follow l es) (fun r => FlOk es l.length r) := by
  unfold ref36_Follow
  refine Ok.bind (P := fun o => FlOk es l.length o) (Ok.loop (fun s => (0 ≤ s.1 ∧ s.1 ≤ (l.length : Int)) ∧ FlOk es s.1.toNat s.2) (fun s => ((l.length : Int) - s.1).toNat) ?_ ⟨by simp, by simp [FlOk]⟩) (fun o ho => ?_)
  · rintro ⟨i, d⟩ ⟨⟨i0, i1⟩, i2, i3⟩
    simp only at i0 i1 i2 i3
    unfold ref36_Follow_l16
    refine Ok.iteD (fun hlt => ?_) (fun _ => Ok.st ⟨by omega, i3⟩)
    have k11 : ∀ j : Int, j < es.length → Ok (ref36_Follow_k11 d i j) (Ok.S (fun s => (0 ≤ s.1 ∧ s.1 ≤ (l.length : Int)) ∧ FlOk es s.1.toNat s.2) (fun s => ((l.length : Int) - s.1).toNat) (fun o => FlOk es l.length o) (i, d)) := by
      intro j hj
      have go : ∀ x : Int, x < es.length → FlOk es (i + 1).toNat (d ++ [x]) := by
        intro x hx
        refine ⟨by simp only [List.length_append, List.length_cons, List.length_nil]; omega, fun y hy => ?_⟩
        rcases List.mem_append.1 hy with hy | hy
        · exact i3 y hy
        · obtain rfl := List.mem_singleton.1 hy; exact hx
      unfold ref36_Follow_k11
      refine Ok.bind (inq_ok _ _ (by omega)) (fun x hx => ?_)
      rw [hx, w64 (by omega) (by omega)]
      refine Ok.iteB (fun _ => ?_) (fun _ => ?_)
      · refine Ok.bind (Ok.app (by simp only [List.length_cons, List.length_nil]; omega)) (fun y hy => ?_)
        subst hy
        exact Ok.nx ⟨by simp only; omega, go (-1) (by omega)⟩ (by simp only; omega)
      · refine Ok.bind (Ok.app (by simp only [List.length_cons, List.length_nil]; omega)) (fun y hy => ?_)
        subst hy
        exact Ok.nx ⟨by simp only; omega, go j hj⟩ (by simp only; omega)
    refine Ok.bind (Ok.get i0 hlt) (fun x _ => Ok.iteN (fun _ => ?_) (fun _ => k11 _ (by omega)))
    refine Ok.bind (Ok.get i0 hlt) (fun x _ => ?_)
    exact Ok.bind (index_ok _ _ (by omega)) (fun y hy => k11 y hy)
  · refine Ok.bind (P := fun o => FlOk es l.length o) (Ok.loop (fun s => (0 ≤ s.1 ∧ s.1 ≤ (l.length : Int)) ∧ FlOk es l.length s.2) (fun s => ((l.length : Int) - s.1).toNat) ?_ ⟨by simp only; omega, ho⟩) (fun o ho => Ok.ret ho)
    rintro ⟨i, d⟩ ⟨⟨i0, i1⟩, i2⟩
    simp only at i0 i1 i2
    unfold ref36_Follow_l46
    refine Ok.iteD (fun hlt => ?_) (fun _ => Ok.st i2)
    refine Ok.bind (P := fun o => o.1 = i ∧ FlOk es l.length o.2) (Ok.loop (fun s => (0 ≤ s.1 ∧ s.1 ≤ (es.length : Int)) ∧ FlOk es l.length s.2) (fun s => ((es.length : Int) - s.1).toNat) ?_ ⟨by simp only; omega, i2⟩) (fun o ho => ?_)
    · rintro ⟨k, d⟩ ⟨⟨k0, k1⟩, k2⟩
      simp only at k0 k1 k2
      unfold ref36_Follow_l44
      refine Ok.iteD (fun hk => ?_) (fun _ => Ok.st ⟨rfl, k2⟩)
      have hdl := k2.1
      have nx : Ok (some (.next (IntKind.wrap .i64 (k + (1 : Int)), d))) (Ok.S (fun s => (0 ≤ s.1 ∧ s.1 ≤ (es.length : Int)) ∧ FlOk es l.length s.2) (fun s => ((es.length : Int) - s.1).toNat) (fun o : Int × List Int => o.1 = i ∧ FlOk es l.length o.2) (k, d)) := by
        rw [w64 (by omega) (by omega)]
        exact Ok.nx ⟨by simp only; omega, k2⟩ (by simp only; omega)
      refine Ok.bind (Ok.isin i0 (by omega)) (fun _ _ => ?_)
      refine Ok.bind (Ok.get i0 (by omega)) (fun x _ => Ok.iteD (fun _ => ?_) (fun _ => Ok.st ⟨rfl, k2⟩))
      refine Ok.bind (Ok.get i0 hlt) (fun y _ => Ok.iteN (fun _ => ?_) (fun _ => Ok.st ⟨rfl, k2⟩))
      refine Ok.bind (inq_ok _ _ (by omega)) (fun z hz => ?_)
      rw [hz]
      refine Ok.iteN (fun _ => ?_) (fun _ => nx)
      refine Ok.bind (Ok.get i0 hlt) (fun a ha => ?_)
      refine Ok.bind (Ok.get k0 hk) (fun b hb => ?_)
      rw [common36_eq]
      refine Ok.bind (common_ok _ _ (hp a ha.1) (hq b hb.1)) (fun c _ => Ok.iteB (fun _ => ?_) (fun _ => nx))
      refine Ok.bind (Ok.isin i0 (by omega)) (fun _ _ => ?_)
      refine Ok.bind (Ok.set i0 (by omega)) (fun w hw => ?_)
      subst hw
      rw [w64 (by omega) (by omega)]
      refine Ok.nx ⟨by simp only; omega, by rw [List.length_set]; exact hdl, fun x hx => ?_⟩ (by simp only; omega)
      rcases List.mem_or_eq_of_mem_set hx with h | h
      · exact k2.2 x h
      · subst h; exact hk
    · obtain ⟨o1, o2⟩ := o
      obtain ⟨rfl, ho⟩ := ho
      simp only
      rw [w64 (by omega) (by omega)]
      exact Ok.nx ⟨by simp only; omega, ho⟩ (by simp only; omega)

/-! ### Levels -/
theorem meets_ok (r : T_api_Rule) (e : Ev) : Ok (ref35_Meets r e) (fun _ => True) := by
  unfold ref35_Meets
  repeat' (first | refine Ok.iteD (fun _ => ?_) (fun _ => ?_) | exact Ok.ret trivial)
theorem level_ok (p : Policy) (e : Ev) (h8 : p.fRules.length ≤ 8) : Ok (ref35_Level p e) (fun r => 0 ≤ r ∧ r ≤ p.fRules.length) := by
  unfold ref35_Level
  refine Ok.bind (P := fun r : Int => 0 ≤ r ∧ r ≤ (p.fRules.length : Int)) (Ok.loop (fun s : Int × Int => (0 ≤ s.2 ∧ s.2 ≤ (p.fRules.length : Int)) ∧ 0 ≤ s.1 ∧ s.1 ≤ s.2) (fun s => ((p.fRules.length : Int) - s.2).toNat) ?_ ⟨by simp, by simp⟩) (fun o ho => Ok.ret ho)
  rintro ⟨v, i⟩ ⟨⟨i0, i1⟩, i2, i3⟩
  simp only at i0 i1 i2 i3
  unfold ref35_Level_l11
  have hst : Ok (some (.stop v)) (Ok.S (fun s : Int × Int => (0 ≤ s.2 ∧ s.2 ≤ (p.fRules.length : Int)) ∧ 0 ≤ s.1 ∧ s.1 ≤ s.2) (fun s => ((p.fRules.length : Int) - s.2).toNat) (fun r : Int => 0 ≤ r ∧ r ≤ p.fRules.length) (v, i)) := Ok.st ⟨i2, by omega⟩
  refine Ok.iteD (fun hlt => ?_) (fun _ => hst)
  refine Ok.bind (validate_ok p) (fun x _ => Ok.iteE (fun _ => ?_) (fun _ => hst))
  refine Ok.bind (Ok.get i0 hlt) (fun y _ => ?_)
  refine Ok.bind (meets_ok _ _) (fun z _ => ?_)
  rw [w64 (by omega) (by omega)]
  refine Ok.iteB (fun _ => ?_) (fun _ => ?_)
  · exact Ok.nx ⟨by simp only; omega, by simp only; omega⟩ (by simp only; omega)
  · exact Ok.nx ⟨by simp only; omega, by simp only; omega⟩ (by simp only; omega)
theorem v24_ok (p : T_api_Position) : Ok (ref24_Valid p) (fun _ => True) := by
  unfold ref24_Valid
  repeat' (first | refine Ok.iteD (fun _ => ?_) (fun _ => ?_) | exact Ok.ret trivial)
theorem square_ok (p q : T_api_Position) : Ok (ref24_Square p q) (fun _ => True) := by
  unfold ref24_Square ref24_square
  refine Ok.bind (v24_ok _) (fun x _ => Ok.iteN (fun _ => Ok.ret trivial) (fun _ => ?_))
  refine Ok.bind (v24_ok _) (fun x _ => Ok.iteN (fun _ => Ok.ret trivial) (fun _ => ?_))
  simp only [Option.bind_some]
  exact Ok.ret trivial
theorem moved_ok (p : Policy) (a b : Ev) (h8 : p.fRules.length ≤ 8) : Ok (ref35_Moved p a b) (fun _ => True) := by
  unfold ref35_Moved ref35_Moved_k8 ref32_Agree
  refine Ok.bind (validate_ok p) (fun x _ => Ok.iteNe (fun _ => Ok.ret trivial) (fun _ => ?_))
  refine Ok.bind (level_ok p _ h8) (fun y _ => ?_)
  refine Ok.bind (level_ok p _ h8) (fun z _ => Ok.iteNe (fun _ => Ok.ret trivial) (fun _ => ?_))
  refine Ok.bind (P := fun _ => True) (Ok.ret trivial) (fun w _ => Ok.iteN (fun _ => Ok.ret trivial) (fun _ => ?_))
  refine Ok.iteD (fun _ => ?_) (fun _ => Ok.ret trivial)
  exact Ok.bind (square_ok _ _) (fun v _ => Ok.iteD (fun _ => Ok.ret trivial) (fun _ => Ok.ret trivial))
theorem timely_ok (p : Policy) (e : Ev) (now : Int) (h8 : p.fRules.length ≤ 8) : Ok (ref35_Timely p e now) (fun _ => True) := by
  unfold ref35_Timely
  refine Ok.bind (level_ok p e h8) (fun x hx => Ok.iteE (fun _ => Ok.ret trivial) (fun hne => ?_))
  refine Ok.iteD (fun _ => ?_) (fun _ => Ok.ret trivial)
  rw [w64 (n := x - 1) (by omega) (by omega)]
  exact Ok.bind (Ok.get (by omega) (by omega)) (fun y _ => Ok.ret trivial)

/-! ### A step -/
structure BulPre (b : Bul) : Prop where
  num0 : 0 ≤ b.fNumber
  kind0 : 1 ≤ b.fKind
  kind1 : b.fKind ≤ 3
  id0 : 0 ≤ b.fID
  id1 : b.fID ≤ b.fNumber
  iss : b.fID = b.fNumber ↔ b.fKind = 1
  lev0 : 0 ≤ b.fLevel
  lev1 : b.fLevel ≤ 8
  at0 : 0 ≤ b.fAt
  at1 : b.fAt ≤ 1000000
  ev : EvOk b.fEvent
theorem BulPre.ok {b : Bul} (h : BulPre b) (h1 : b.fNumber < 1000) : BulOk b := by
  obtain ⟨a1, a2, a3, a4, a5, a6, a7, a8, a9, a10, a11⟩ := h
  exact ⟨a1, h1, a2, a3, a4, a5, a6, a7, a8, a9, a10, a11⟩
structure AlOk (n : Int) (a : Alert) : Prop where
  id0 : 0 ≤ a.fID
  id1 : a.fID < n
  lev0 : 0 ≤ a.fLevel
  lev1 : a.fLevel ≤ 8
  ev : EvOk a.fEvent
theorem AlOk.mono {n m : Int} {a : Alert} (h : AlOk n a) (hm : n ≤ m) : AlOk m a := ⟨h.id0, by have := h.id1; omega, h.lev0, h.lev1, h.ev⟩
def TlOk (n : Int) (l : List Bul) : Prop := (∀ b ∈ l, BulPre b) ∧ ∀ (k : Nat) (h : k < l.length), l[k].fNumber = n + (k : Int)
theorem TlOk.app {n : Int} {l : List Bul} {b : Bul} (h : TlOk n l) (hb : BulPre b) (hn : b.fNumber = n + (l.length : Int)) : TlOk n (l ++ [b]) := by
  refine ⟨fun x hx => ?_, fun k hk => ?_⟩
  · rcases List.mem_append.1 hx with hx | hx
    · exact h.1 x hx
    · obtain rfl := List.mem_singleton.1 hx; exact hb
  · by_cases hlt : k < l.length
    · rw [List.getElem_append_left hlt]; exact h.2 k hlt
    · have : k = l.length := by simp only [List.length_append, List.length_cons, List.length_nil] at hk; omega
      subst this
      simpa using hn
theorem mem_snoc {α : Type} {P : α → Prop} {l : List α} {x : α} (h : ∀ a ∈ l, P a) (hx : P x) : ∀ a ∈ l ++ [x], P a := by
  intro a ha
  rcases List.mem_append.1 ha with ha | ha
  · exact h a ha
  · obtain rfl := List.mem_singleton.1 ha; exact hx
/-- What the loop through the alerts keeps. -/
structure Inv (L n : Int) (s : Int × List Alert × List Bul) : Prop where
  i0 : 0 ≤ s.1
  i1 : s.1 ≤ L
  al : s.2.1.length = s.1.toNat
  tl : s.2.2.length ≤ s.1.toNat
  als : ∀ a ∈ s.2.1, AlOk n a
  tls : TlOk n s.2.2
def Fin (n : Int) (o : List Alert × List Bul) : Prop := (o.1.length ≤ 200 ∧ o.2.length ≤ 200) ∧ (∀ a ∈ o.1, AlOk n a) ∧ TlOk n o.2
theorem k53_ok {Q : List Alert × List Bul → Prop} {L n now : Int} {x : Alert} {al : List Alert} {bs : List Bul} {i kind lev : Int} {wd : Bool} {e : Ev} {j12 j13 j14 j15 : List UInt8} {j16 j17 j18 j19 j20 : Int} (hI : Inv L n (i, al, bs)) (hL : L ≤ 200) (hn0 : 0 ≤ n) (hn1 : n ≤ 1000) (hi : i < L) (hx : AlOk n x) (hk : kind = 0 ∨ kind = 2 ∨ kind = 3)
    (hl0 : 0 ≤ lev) (hl1 : lev ≤ 8) (hnow0 : 0 ≤ now) (hnow1 : now ≤ 1000000) (he : EvOk e) :
    Ok (ref36_Step_k53 bs n x now al j12 j13 j14 j15 j16 j17 j18 j19 j20 i kind wd lev e.fName.fSource.fNetwork e.fName.fSource.fStation e.fName.fSource.fLocation e.fName.fSource.fChannel e.fName.fTime e.fName.fEarly e.fName.fLate e.fName.fAmplitude e.fName.fPolarity e.fSolution.fPicks e.fSolution.fLocation.fPoint.fX e.fSolution.fLocation.fPoint.fY e.fSolution.fLocation.fPoint.fZ
      e.fSolution.fLocation.fTime e.fSolution.fLocation.fMisfit e.fSolution.fLocation.fLower e.fSolution.fLocation.fArea.fLow.fX e.fSolution.fLocation.fArea.fLow.fY e.fSolution.fLocation.fArea.fLow.fZ e.fSolution.fLocation.fArea.fHigh.fX e.fSolution.fLocation.fArea.fHigh.fY e.fSolution.fLocation.fArea.fHigh.fZ e.fSolution.fMagnitude.fLow e.fSolution.fMagnitude.fHigh e.fSolution.fCount)
      (Ok.S (Inv L n) (fun s => (L - s.1).toNat) Q (i, al, bs)) := by
  obtain ⟨i0, i1, i2, i3, i4, i5⟩ := hI
  simp only at i0 i1 i2 i3 i4 i5
  have hnum : IntKind.wrap .i64 (n + (bs.length : Int)) = n + (bs.length : Int) := w64 (by omega) (by omega)
  unfold ref36_Step_k53
  rw [hnum, w64 (n := i + 1) (by omega) (by omega)]
  refine Ok.iteD (fun hpos => ?_) (fun _ => ?_)
  · refine Ok.bind (Ok.app (by simp only [List.length_cons, List.length_nil]; omega)) (fun y hy => ?_)
    refine Ok.bind (Ok.app (by simp only [List.length_cons, List.length_nil]; omega)) (fun z hz => ?_)
    subst hy hz
    refine Ok.nx ⟨by simp only; omega, by simp only; omega, by simp only [List.length_append, List.length_cons, List.length_nil]; omega, by simp only [List.length_append, List.length_cons, List.length_nil]; omega, ?_, ?_⟩ (by simp only; omega)
    · exact mem_snoc i4 ⟨hx.id0, hx.id1, hl0, hl1, he⟩
    · have h1 := hx.id1
      refine TlOk.app i5 ⟨?_, ?_, ?_, hx.id0, ?_, ?_, hl0, hl1, hnow0, hnow1, he⟩ rfl
      · simp only; omega
      · simp only; omega
      · simp only; omega
      · simp only; omega
      · simp only; omega
  · refine Ok.bind (Ok.app (by simp only [List.length_cons, List.length_nil]; omega)) (fun z hz => ?_)
    subst hz
    refine Ok.nx ⟨by simp only; omega, by simp only; omega, by simp only [List.length_append, List.length_cons, List.length_nil]; omega, by simp only; omega, ?_, i5⟩ (by simp only; omega)
    exact mem_snoc i4 ⟨hx.id0, hx.id1, hl0, hl1, he⟩
structure StepIn (p : Policy) (l : List Alert) (n : Int) (es : List Ev) (now : Int) : Prop where
  len : l.length ≤ 200
  als : ∀ a ∈ l, AlOk n a
  n0 : 0 ≤ n
  n1 : n ≤ 1000
  elen : es.length ≤ 4
  evs : ∀ e ∈ es, EvOk e
  now0 : 0 ≤ now
  now1 : now ≤ 1000000
theorem same_get {α : Type} {l : List α} {n : Nat} {x y : α} (h : l[n]? = some x) (h' : l[n]? = some y) : x = y := Option.some.inj (h.symm.trans h')
theorem k67_ok {Q : List Alert × List Bul → Prop} {p : Policy} {l : List Alert} {n : Int} {es : List Ev} {now : Int} {fl : List Int} (h : StepIn p l n es now) (h8 : p.fRules.length ≤ 8) (hf : FlOk es l.length fl) {al : List Alert} {bs : List Bul} {i : Int} (hI : Inv (l.length : Int) n (i, al, bs)) (hi : i < l.length) {x : Alert} (hx : AlOk n x)
    {j12 j13 j14 j15 : List UInt8} {j16 j17 j18 j19 j20 : Int} : Ok (ref36_Step_k67 fl i x bs n now al es p j12 j13 j14 j15 j16 j17 j18 j19 j20) (Ok.S (Inv (l.length : Int) n) (fun s => ((l.length : Int) - s.1).toNat) Q (i, al, bs)) := by
  obtain ⟨a1, a2, a3, a4, a5, a6, a7, a8⟩ := h
  obtain ⟨f1, f2⟩ := hf
  have i0 : 0 ≤ i := hI.i0
  have hL : (l.length : Int) ≤ 200 := by omega
  have lv : ∀ {k : Int} {wd : Bool}, k = 0 ∨ k = 2 ∨ k = 3 → Ok _ _ := fun {k wd} hk => k53_ok (Q := Q) (kind := k) (wd := wd) (j12 := j12) (j13 := j13) (j14 := j14) (j15 := j15) (j16 := j16) (j17 := j17) (j18 := j18) (j19 := j19) (j20 := j20) hI hL a3 a4 hi hx hk hx.lev0 hx.lev1 a7 a8 hx.ev
  unfold ref36_Step_k67
  refine Ok.bind (Ok.get i0 (by omega)) (fun y hy => ?_)
  have hye := f2 y hy.1
  refine Ok.iteB (fun _ => lv (.inl rfl)) (fun _ => ?_)
  refine Ok.iteD (fun _ => lv (.inr (.inr rfl))) (fun hneg => ?_)
  refine Ok.bind (Ok.get (by omega) hye) (fun e1 h1 => ?_)
  refine Ok.bind (level_ok p _ h8) (fun v hv => Ok.iteE (fun _ => lv (.inr (.inr rfl))) (fun _ => ?_))
  refine Ok.bind (Ok.get (by omega) hye) (fun e2 h2 => ?_)
  refine Ok.bind (moved_ok p _ _ h8) (fun m _ => Ok.iteB (fun _ => ?_) (fun _ => lv (.inl rfl)))
  refine Ok.iteD (fun _ => ?_) (fun _ => lv (.inl rfl))
  refine Ok.bind (Ok.get (by omega) hye) (fun e3 h3 => ?_)
  refine Ok.bind (level_ok p _ h8) (fun v2 hv2 => ?_)
  refine Ok.bind (Ok.get (by omega) hye) (fun e4 h4 => ?_)
  exact k53_ok hI hL a3 a4 hi hx (.inr (.inl rfl)) hv2.1 (by omega) a7 a8 (a6 _ h4.1)
theorem step_l72 {p : Policy} {l : List Alert} {n : Int} {es : List Ev} {now : Int} {fl : List Int} (h : StepIn p l n es now) (h8 : p.fRules.length ≤ 8) (hf : FlOk es l.length fl) :
    Ok (loopO (ref36_Step_l72 l fl es n now p) ((0 : Int), [], [])) (Fin n) := by
  have hlen := h.len
  refine Ok.loop (Inv (l.length : Int) n) (fun s => ((l.length : Int) - s.1).toNat) ?_ ⟨by simp, by simp, by simp, by simp, by simp, by simp [TlOk]⟩
  rintro ⟨i, al, bs⟩ hI
  have hI' := hI
  obtain ⟨i0, i1, i2, i3, i4, i5⟩ := hI'
  simp only at i0 i1 i2 i3 i4 i5
  unfold ref36_Step_l72
  refine Ok.iteD (fun hlt => ?_) (fun _ => Ok.st ⟨⟨show al.length ≤ 200 by omega, show bs.length ≤ 200 by omega⟩, i4, i5⟩)
  refine Ok.bind (Ok.get i0 hlt) (fun x hx => ?_)
  have hxa := h.als x hx.1
  have hfl := hf.1
  refine Ok.bind (Ok.get i0 (by omega)) (fun y hy => ?_)
  refine Ok.iteD (fun hpos => ?_) (fun _ => k67_ok h h8 hf hI hlt hxa)
  refine Ok.bind (Ok.get i0 (by omega)) (fun z hz => ?_)
  obtain rfl := same_get hy.2 hz.2
  refine Ok.bind (Ok.get hpos (hf.2 y hy.1)) (fun e _ => ?_)
  exact k67_ok h h8 hf hI hlt hxa
/-- What the loop through the events keeps. -/
structure Inv2 (E n : Int) (s : Int × List Alert × List Bul) : Prop where
  i0 : 0 ≤ s.1
  i1 : s.1 ≤ E
  al : s.2.1.length ≤ 200 + s.1.toNat
  tl : s.2.2.length ≤ 200 + s.1.toNat
  als : ∀ a ∈ s.2.1, AlOk (n + (s.2.2.length : Int)) a
  tls : TlOk n s.2.2
def Fin2 (n : Int) (o : List Alert × List Bul) : Prop := (o.1.length ≤ 300 ∧ o.2.length ≤ 300) ∧ (∀ a ∈ o.1, AlOk (n + (o.2.length : Int)) a) ∧ TlOk n o.2
theorem step_l92 {p : Policy} {l : List Alert} {n : Int} {es : List Ev} {now : Int} {fl : List Int} (h : StepIn p l n es now) (h8 : p.fRules.length ≤ 8) (hf : FlOk es l.length fl) {o : List Alert × List Bul} (ho : Fin n o) :
    Ok (loopO (ref36_Step_l92 es fl p now n) ((0 : Int), o.1, o.2)) (Fin2 n) := by
  have hlen := h.len
  have hel := h.elen
  have hn0 := h.n0
  have hn1 := h.n1
  have hfl := hf.1
  obtain ⟨⟨o1, o2⟩, o3, o4⟩ := ho
  refine Ok.loop (Inv2 (es.length : Int) n) (fun s => ((es.length : Int) - s.1).toNat) ?_ ⟨by simp, by simp only; omega, by simp only; omega, by simp only; omega, fun a ha => (o3 a ha).mono (by omega), o4⟩
  rintro ⟨i, al, bs⟩ ⟨i0, i1, i2, i3, i4, i5⟩
  simp only at i0 i1 i2 i3 i4 i5
  unfold ref36_Step_l92
  have hw : IntKind.wrap .i64 (i + 1) = i + 1 := w64 (by omega) (by omega)
  have hnum : IntKind.wrap .i64 (n + (bs.length : Int)) = n + (bs.length : Int) := w64 (by omega) (by omega)
  dsimp only
  rw [hw, hnum]
  have nx : i < es.length → Ok (some (.next (i + 1, al, bs))) (Ok.S (Inv2 (es.length : Int) n) (fun s => ((es.length : Int) - s.1).toNat) (Fin2 n) (i, al, bs)) := fun hlt =>
    Ok.nx ⟨by simp only; omega, by simp only; omega, by simp only; omega, by simp only; omega, i4, i5⟩ (by simp only; omega)
  refine Ok.iteD (fun hlt => ?_) (fun _ => Ok.st ⟨⟨show al.length ≤ 300 by omega, show bs.length ≤ 300 by omega⟩, i4, i5⟩)
  refine Ok.bind (inqq_ok _ _ (by omega)) (fun x _ => Ok.iteB (fun _ => nx hlt) (fun _ => ?_))
  refine Ok.bind (Ok.get i0 hlt) (fun e1 h1 => ?_)
  refine Ok.bind (timely_ok p _ _ h8) (fun y _ => Ok.iteN (fun _ => nx hlt) (fun _ => ?_))
  refine Ok.bind (Ok.get i0 hlt) (fun e2 h2 => ?_)
  refine Ok.bind (Ok.get i0 hlt) (fun e3 h3 => ?_)
  refine Ok.bind (level_ok p _ h8) (fun v hv => ?_)
  refine Ok.bind (Ok.get i0 hlt) (fun e4 h4 => ?_)
  have he4 := h.evs e4 h4.1
  refine Ok.bind (Ok.app (by simp only [List.length_cons, List.length_nil]; omega)) (fun z hz => ?_)
  refine Ok.bind (Ok.app (by simp only [List.length_cons, List.length_nil]; omega)) (fun w hw => ?_)
  subst hz hw
  have hbl : ((bs ++ [(T_api_Bulletin.mk (n + (bs.length : Int)) 1 (n + (bs.length : Int)) now v e4)]).length : Int) = (bs.length : Int) + 1 := by simp
  refine Ok.nx ⟨by simp only; omega, by simp only; omega, by simp only [List.length_append, List.length_cons, List.length_nil]; omega, by simp only [List.length_append, List.length_cons, List.length_nil]; omega, ?_, ?_⟩ (by simp only; omega)
  · simp only
    rw [hbl]
    exact mem_snoc (fun a ha => (i4 a ha).mono (by omega)) ⟨by simp only; omega, by simp only; omega, hv.1, by simp only; omega, he4⟩
  · exact TlOk.app i5 ⟨by simp only; omega, by simp only; omega, by simp only; omega, by simp only; omega, by simp only; omega, by simp only, hv.1, by simp only; omega, h.now0, h.now1, he4⟩ rfl
theorem step_ok {p : Policy} {l : List Alert} {n : Int} {es : List Ev} {now : Int} (h : StepIn p l n es now) :
    Ok (ref36_Step p l n es now) (fun r => r.2.2 = 0 → (r.1.length ≤ 200 ∧ ∀ a ∈ r.1, AlOk (n + (r.2.1.length : Int)) a) ∧ n + (r.2.1.length : Int) ≤ 1000 ∧ TlOk n r.2.1) := by
  have hlen := h.len
  have hel := h.elen
  have hn0 := h.n0
  have hn1 := h.n1
  have hq : ∀ e ∈ es, e.fSolution.fPicks.length ≤ 1000 := fun e he => by have := (h.evs e he).sol.len; omega
  have hp : ∀ a ∈ l, a.fEvent.fSolution.fPicks.length ≤ 1000 := fun a ha => by have := (h.als a ha).ev.sol.len; omega
  unfold ref36_Step
  refine Ok.bind (errors_ok p l n es now (by omega) (by omega) hq) (fun x hx => Ok.iteNe (fun hne => Ok.ret (fun e => (hne e).elim)) (fun h0 => ?_))
  have h8 := hx h0
  refine Ok.bind (follow_ok l es (by omega) (by omega) hp hq) (fun fl hfl => ?_)
  refine Ok.bind (step_l72 h h8 hfl) (fun o ho => ?_)
  refine Ok.bind (step_l92 h h8 hfl ho) (fun o' ho' => ?_)
  obtain ⟨⟨b1, b2⟩, b3, b4⟩ := ho'
  refine Ok.iteD (fun _ => Ok.ret (fun e => by cases e)) (fun h200 => ?_)
  rw [w64 (by omega) (by omega)]
  refine Ok.iteD (fun hbig => ?_) (fun hsm => Ok.ret (fun _ => ⟨⟨show o'.1.length ≤ 200 by omega, b3⟩, show n + (o'.2.length : Int) ≤ 1000 by omega, b4⟩))
  refine Ok.iteD (fun _ => Ok.ret (fun e => by cases e)) (fun hz => Ok.ret (fun _ => ⟨⟨show o'.1.length ≤ 200 by omega, b3⟩, show n + (o'.2.length : Int) ≤ 1000 by omega, b4⟩))

/-! ### The bulletins that are told -/
def BulsOk (l : List Bul) : Prop := l.length ≤ 1000 ∧ (∀ b ∈ l, BulOk b) ∧ ∀ (k : Nat) (h : k < l.length), l[k].fNumber = (k : Int)
theorem BulsOk.app {l m : List Bul} (h : BulsOk l) (hm : TlOk (l.length : Int) m) (hn : (l.length : Int) + (m.length : Int) ≤ 1000) : BulsOk (l ++ m) := by
  refine ⟨by rw [List.length_append]; omega, fun b hb => ?_, fun k hk => ?_⟩
  · rcases List.mem_append.1 hb with hb | hb
    · exact h.2.1 b hb
    · obtain ⟨k, hk, rfl⟩ := List.getElem_of_mem hb
      exact (hm.1 _ (List.getElem_mem hk)).ok (by rw [hm.2 k hk]; omega)
  · by_cases hlt : k < l.length
    · rw [List.getElem_append_left hlt]; exact h.2.2 k hlt
    · rw [List.getElem_append_right (by omega)]
      rw [List.length_append] at hk
      rw [hm.2 (k - l.length) (by omega)]; omega
theorem told_ok (k : Int) (hk0 : 0 ≤ k) (hk1 : k ≤ 100) (d : Src) (hd : SrcOk d) : Ok (law37_told k d) (fun r => BulsOk r.1 ∧ SrcOk r.2) := by
  unfold law37_told
  refine Ok.bind (policy_ok d hd) (fun x hx => ?_)
  refine Ok.bind (P := fun o => BulsOk o.1 ∧ SrcOk ⟨o.2.1, o.2.2⟩) (Ok.loop (fun s => (0 ≤ s.2.2.1 ∧ s.2.2.1 ≤ k) ∧ (1000 ≤ s.2.1 ∧ s.2.1 ≤ 1000 + 400 * s.2.2.1) ∧ SrcOk ⟨s.2.2.2.1, s.2.2.2.2.1⟩ ∧ (s.1.length ≤ 200 ∧ ∀ a ∈ s.1, AlOk (s.2.2.2.2.2.length : Int) a) ∧ BulsOk s.2.2.2.2.2) (fun s => (k - s.2.2.1).toNat) ?_
    ⟨by simp only; omega, by simp, hx.2, by simp, by simp [BulsOk]⟩) (fun o ho => Ok.ret ho)
  rintro ⟨al, now, i, L, a, bs⟩ ⟨⟨i0, i1⟩, ⟨n0, n1⟩, i2, ⟨i3, i4⟩, i5⟩
  simp only at i0 i1 n0 n1 i2 i3 i4 i5
  have hbl := i5.1
  unfold law37_told_l18
  refine Ok.iteD (fun hlt => ?_) (fun _ => Ok.st ⟨i5, i2⟩)
  refine Ok.bind (n_ok _ _ i2 (by omega) (by omega)) (fun y hy => ?_)
  refine Ok.bind (events_ok _ hy.2.2) (fun z hz => ?_)
  rw [w64 (n := now + y.1) (by omega) (by omega), w64 (n := i + 1) (by omega) (by omega)]
  have hin : StepIn x.1 al (bs.length : Int) z.1 (now + y.1) := ⟨i3, i4, by omega, by omega, hz.1.1, hz.1.2, by omega, by omega⟩
  refine Ok.bind (step_ok hin) (fun w hw => ?_)
  refine Ok.iteE (fun he => ?_) (fun _ => ?_)
  · obtain ⟨⟨w1, w2⟩, w3, w4⟩ := hw he
    refine Ok.bind (Ok.app (by omega)) (fun v hv => ?_)
    subst hv
    refine Ok.nx ⟨by simp only; omega, by simp only; omega, hz.2, ⟨w1, ?_⟩, i5.app w4 w3⟩ (by simp only; omega)
    intro a ha
    have := w2 a ha
    simpa using this
  · exact Ok.nx ⟨by simp only; omega, by simp only; omega, hz.2, ⟨i3, i4⟩, i5⟩ (by simp only; omega)
end Go.Dw.Fe

/- FeLaw: the laws FeedBack and FeedPrefix in plain Lean. -/


set_option maxRecDepth 100000
set_option maxHeartbeats 4000000
namespace Go.Dw.Fe
open Go.Dw Go.Lib

theorem awake_at : law37_awake = some true := law37_awake_le _ (by kernel_rfl)
theorem one_ok (n : Int) (h0 : 0 ≤ n) (h1 : n < 1000) : Ok (law37_one n) BulOk := by
  unfold law37_one
  refine Ok.bind (source_ok 0) (fun x hx => Ok.ret ?_)
  have hp : PickOk ⟨x, 5, 4, 9, 0, -1⟩ := ⟨hx, by simp, by simp, by simp, by simp, by simp, by simp, by simp, by simp⟩
  have hz : PosOk ⟨0, 0, 0⟩ := ⟨by simp [near], by simp [near], by simp [near]⟩
  refine ⟨h0, h1, by simp, by simp, h0, by simp, by simp, by simp, by simp, by simp, by simp, hp, ⟨fun p h => ?_, by simp, by simp, hz, hz, hz, by simp [near], by simp [near], by simp [near], by simp [near], by simp [near], by simp [near]⟩⟩
  obtain rfl := List.mem_singleton.1 h
  exact hp

/-! ### FeedBack -/
theorem FeedBack_law (l : List Int) (t : List UInt8) : law37_FeedBack l t = some true := by
  refine Ok.eq ?_
  unfold law37_FeedBack
  have aw : Ok (law37_awake.bind fun x => some x) (fun b => b = true) := by rw [awake_at]; exact Ok.ret rfl
  refine Ok.iteD (fun _ => aw) (fun h300 => ?_)
  refine Ok.bind (new_ok l) (fun d hd => ?_)
  refine Ok.bind (told_ok 4 (by omega) (by omega) d hd) (fun x hx => ?_)
  obtain ⟨⟨b1, b2, b3⟩, hx2⟩ := hx
  refine Ok.bind (n_ok _ _ hx2 (by omega) (by omega)) (fun y hy => ?_)
  refine Ok.bind (one_ok y.1 hy.1 (by omega)) (fun z hz => ?_)
  refine Ok.bind (Ok.app (by simp only [List.length_cons, List.length_nil]; omega)) (fun w hw => ?_)
  have hall : ∀ b ∈ w, BulOk b := by subst hw; exact mem_snoc b2 hz
  have hlen : w.length ≤ 1001 := by subst hw; simp only [List.length_append, List.length_cons, List.length_nil]; omega
  refine Ok.bind (P := fun o => o = .inl ()) (Ok.upto (w.length : Int) (by omega) (fun _ => True) trivial (fun i h0 h1 _ => ?_)) (fun o ho => ?_)
  · unfold law37_FeedBack_l20
    refine Ok.iteD (fun hlt => ?_) (fun _ => Ok.st rfl)
    refine Ok.bind (Ok.isin h0 hlt) (fun _ _ => ?_)
    refine Ok.bind (Ok.get h0 hlt) (fun b hb => ?_)
    have hb := hall b hb.1
    have hl := hb.ev.sol.len
    rw [encode_at hb, Option.bind_some, decode_at hb, Option.bind_some]
    refine Ok.iteNe (fun h => (h rfl).elim) (fun _ => Ok.iteNe (fun h => (h rfl).elim) (fun _ => ?_))
    rw [same_self (by omega), Option.bind_some]
    refine Ok.iteN (fun h => by cases h) (fun _ => ?_)
    rw [w64 (by omega) (by omega)]
    exact Ok.nx ⟨⟨by omega, by omega⟩, trivial⟩ (by omega)
  · subst ho
    refine Ok.bind (decode_ok t (by omega)) (fun r hr => ?_)
    refine Ok.iteE (fun he => ?_) (fun _ => aw)
    rw [hr he, Option.bind_some]
    refine Ok.iteNe (fun h => (h rfl).elim) (fun _ => Ok.iteN (fun h => by simp at h) (fun _ => aw))

/-! ### FeedPrefix -/
theorem mHas_put {β : Type} (k k' : Int) (v : β) : ∀ l : List (Int × β), mHas (fun a b => a == b) k' (mPut (fun a b => a == b) k v l) = (k' == k || mHas (fun a b => a == b) k' l)
  | [] => by by_cases h : k' = k <;> simp [mPut, mHas, h]
  | e :: r => by
    have ih := mHas_put k k' v r
    by_cases h : k = e.1
    · subst h
      simp only [mPut, beq_self_eq_true, if_true, mHas]
      by_cases h2 : k' = e.1 <;> simp [h2]
    · have hb : (k == e.1) = false := by simpa using h
      simp only [mPut, hb, Bool.false_eq_true, if_false, mHas, ih]
      by_cases h2 : k' = e.1 <;> simp [h2]
theorem mGet_put {β : Type} (k k' : Int) (v z : β) : ∀ l : List (Int × β), mGet (fun a b => a == b) k' z (mPut (fun a b => a == b) k v l) = if k' = k then v else mGet (fun a b => a == b) k' z l
  | [] => by by_cases h : k' = k <;> simp [mPut, mGet, h]
  | e :: r => by
    have ih := mGet_put k k' v z r
    by_cases h : k = e.1
    · subst h
      simp only [mPut, beq_self_eq_true, if_true, mGet]
      by_cases h2 : k' = e.1 <;> simp [h2]
    · have hb : (k == e.1) = false := by simpa using h
      simp only [mPut, hb, Bool.false_eq_true, if_false, mGet, ih]
      by_cases h2 : k' = e.1
      · subst h2
        have : ¬ e.1 = k := fun e => h e.symm
        simp [this]
      · simp [h2]
abbrev Arr := T_api_Arrival
def ArrOk (all : List Bul) (a : Arr) : Prop := ∃ (k : Nat) (h : k < all.length), a.fSeq = (k : Int) ∧ a.fData = text all[k]
def HasSeq (l : List Arr) (k : Int) : Prop := ∃ a ∈ l, a.fSeq = k
def MapOk (all : List Bul) (l : List Arr) (m : List (Int × Bul)) : Prop :=
  (∀ k : Int, mHas (fun a b => a == b) k m = true ↔ HasSeq l k) ∧ ∀ (z : Bul) (k : Nat) (h : k < all.length), mHas (fun a b => a == b) (k : Int) m = true → mGet (fun a b => a == b) (k : Int) z m = all[k]
theorem prefix_l11 {all : List Bul} (hall : BulsOk all) {l : List Arr} (hl : l.length ≤ 1000000) (ha : ∀ a ∈ l, ArrOk all a) : Ok (loopO (feed_Prefix_l11 l) ((0 : Int), [])) (MapOk all l) := by
  refine Ok.loop (fun s => (0 ≤ s.1 ∧ s.1 ≤ (l.length : Int)) ∧ MapOk all (l.take s.1.toNat) s.2) (fun s => ((l.length : Int) - s.1).toNat) ?_ ⟨by simp only; omega, by simp [MapOk, HasSeq, mHas]⟩
  rintro ⟨i, m⟩ ⟨⟨i0, i1⟩, i2, i3⟩
  simp only at i0 i1 i2 i3
  unfold feed_Prefix_l11
  refine Ok.iteD (fun hlt => ?_) (fun hge => ?_)
  · refine Ok.bind (Ok.get i0 hlt) (fun a haa => ?_)
    obtain ⟨k, hk, e1, e2⟩ := ha a haa.1
    rw [w64 (n := i + 1) (by omega) (by omega)]
    have htk : l.take (i + 1).toNat = l.take i.toNat ++ [a] := by
      rw [show (i + 1).toNat = i.toNat + 1 by omega, List.take_add_one, haa.2]; rfl
    have hseq : ∀ q : Int, HasSeq (l.take i.toNat ++ [a]) q ↔ HasSeq (l.take i.toNat) q ∨ a.fSeq = q := by
      intro q
      simp only [HasSeq, List.mem_append, List.mem_singleton]
      constructor
      · rintro ⟨b, hb | rfl, h⟩
        · exact .inl ⟨b, hb, h⟩
        · exact .inr h
      · rintro (⟨b, hb, h⟩ | h)
        · exact ⟨b, .inl hb, h⟩
        · exact ⟨a, .inr rfl, h⟩
    refine Ok.iteB (fun hh => ?_) (fun hh => ?_)
    · refine Ok.nx ⟨by simp only; omega, ?_⟩ (by simp only; omega)
      simp only
      rw [htk]
      refine ⟨fun q => ?_, i3⟩
      rw [hseq, i2]
      refine ⟨.inl, fun h => h.elim id (fun h => ?_)⟩
      rw [← h]; exact (i2 _).1 hh
    · have hb := hall.2.1 all[k] (List.getElem_mem hk)
      have hn := hall.2.2 k hk
      rw [e2, decode_at hb, Option.bind_some]
      refine Ok.iteE (fun _ => ?_) (fun h => (h rfl).elim)
      refine Ok.iteE (fun _ => ?_) (fun h => (h (by rw [hn, e1])).elim)
      refine Ok.nx ⟨by simp only; omega, ?_⟩ (by simp only; omega)
      simp only
      rw [htk]
      refine ⟨fun q => ?_, fun z q hq hh' => ?_⟩
      · rw [hseq, mHas_put, Bool.or_eq_true, beq_iff_eq, i2]
        exact ⟨fun h => h.elim (fun h => .inr h.symm) .inl, fun h => h.elim .inr (fun h => .inl h.symm)⟩
      · rw [mGet_put]
        by_cases hqk : (q : Int) = a.fSeq
        · rw [if_pos hqk]
          obtain rfl : q = k := by omega
          rfl
        · rw [if_neg hqk]
          rw [mHas_put, Bool.or_eq_true, beq_iff_eq] at hh'
          exact i3 z q hq (hh'.resolve_left hqk)
  · have : l.take i.toNat = l := List.take_of_length_le (by omega)
    rw [this] at i2
    exact Ok.st ⟨i2, i3⟩
theorem prefix_at {all : List Bul} (hall : BulsOk all) {l : List Arr} (hl : l.length ≤ 1000000) (ha : ∀ a ∈ l, ArrOk all a) :
    Ok (feed_Prefix l) (fun r => ∃ m : Nat, m ≤ all.length ∧ r = all.take m ∧ (∀ j : Nat, j < m → HasSeq l (j : Int)) ∧ ¬ HasSeq l (m : Int)) := by
  have hN := hall.1
  unfold feed_Prefix
  refine Ok.bind (prefix_l11 hall hl ha) (fun o ho => ?_)
  obtain ⟨m1, m2⟩ := ho
  refine Ok.bind (P := fun r => ∃ m : Nat, m ≤ all.length ∧ r = all.take m ∧ (∀ j : Nat, j < m → HasSeq l (j : Int)) ∧ ¬ HasSeq l (m : Int)) (Ok.loop (fun s => ∃ m : Nat, s.1 = (m : Int) ∧ m ≤ all.length ∧ s.2 = all.take m ∧ ∀ j : Nat, j < m → HasSeq l (j : Int)) (fun s => ((all.length : Int) - s.1).toNat) ?_ ⟨0, rfl, by omega, by simp, fun j hj => by omega⟩) (fun r hr => Ok.ret hr)
  rintro ⟨i, out⟩ ⟨m, e1, h1, e2, h2⟩
  simp only at e1 e2
  subst e1 e2
  unfold feed_Prefix_l18
  refine Ok.iteN (fun hh => Ok.st ⟨m, h1, rfl, h2, fun hs => ?_⟩) (fun hh => ?_)
  · rw [(m1 _).2 hs] at hh; cases hh
  · have hs := (m1 _).1 hh
    have hlt : m < all.length := by
      obtain ⟨a, ham, haq⟩ := hs
      obtain ⟨k, hk, e3, -⟩ := ha a ham
      omega
    simp only [m2 _ m hlt hh]
    refine Ok.bind (Ok.app (by simp only [List.length_cons, List.length_nil, List.length_take]; omega)) (fun y hy => ?_)
    subst hy
    rw [w64 (by omega) (by omega)]
    refine Ok.nx ⟨m + 1, by simp only; omega, by omega, ?_, fun j hj => ?_⟩ (by simp only; omega)
    · simp only
      rw [take_succ_at hlt]
    · by_cases hjm : j < m
      · exact h2 j hjm
      · obtain rfl : j = m := by omega
        exact hs
theorem sames_self {l : List Bul} (hl : l.length ≤ 1000000) (h : ∀ b ∈ l, b.fEvent.fSolution.fPicks.length ≤ 1000000) : ref36_SameBulletins l l = some true := by
  unfold ref36_SameBulletins
  rw [if_neg (by simp), loop_all l (u := .inl ())]
  · rfl
  · intro i hi
    unfold ref36_SameBulletins_l9
    rw [if_pos (by simp; omega), getO_at rfl hi, Option.bind_some, Option.bind_some, same_self (h _ (List.getElem_mem hi)), Option.bind_some, if_neg (by simp), w64 (by omega) (by omega)]
    simp
  · unfold ref36_SameBulletins_l9
    rw [if_neg (by simp)]
theorem FeedPrefix_law (l order : List Int) : law37_FeedPrefix l order = some true := by
  refine Ok.eq ?_
  unfold law37_FeedPrefix
  refine Ok.bind (new_ok l) (fun d hd => ?_)
  refine Ok.bind (told_ok 5 (by omega) (by omega) d hd) (fun x hx => ?_)
  obtain ⟨hall, -⟩ := hx
  obtain ⟨b1, b2, b3⟩ := id hall
  generalize hA : x.1 = all at *
  refine Ok.bind (Ok.mk (by omega) (by omega) (by omega)) (fun s0 hs0 => ?_)
  refine Ok.bind (P := fun o : (List Arr × List Bool) ⊕ Bool => ∃ y, o = .inl y ∧ y.1.length ≤ 40 ∧ (∀ a ∈ y.1, ArrOk all a) ∧ y.2.length = all.length ∧ ∀ k : Nat, y.2[k]? = some true ↔ HasSeq y.1 (k : Int))
    (Ok.loop (fun s => (0 ≤ s.1 ∧ s.1 ≤ 40) ∧ s.2.1.length ≤ s.1.toNat ∧ (∀ a ∈ s.2.1, ArrOk all a) ∧ s.2.2.length = all.length ∧ ∀ k : Nat, s.2.2[k]? = some true ↔ HasSeq s.2.1 (k : Int)) (fun s => (40 - s.1).toNat) ?_ ⟨by simp, by simp, by simp, ?_, ?_⟩) (fun o ho => ?_)
  · rintro ⟨i, sm, seen⟩ ⟨⟨i0, i1⟩, i2, i3, i4, i5⟩
    simp only at i0 i1 i2 i3 i4 i5
    have fin : Ok (some (.stop (.inl (sm, seen)))) (Ok.S (fun s : Int × List Arr × List Bool => (0 ≤ s.1 ∧ s.1 ≤ 40) ∧ s.2.1.length ≤ s.1.toNat ∧ (∀ a ∈ s.2.1, ArrOk all a) ∧ s.2.2.length = all.length ∧ ∀ k : Nat, s.2.2[k]? = some true ↔ HasSeq s.2.1 (k : Int)) (fun s => (40 - s.1).toNat)
        (fun o : (List Arr × List Bool) ⊕ Bool => ∃ y, o = .inl y ∧ y.1.length ≤ 40 ∧ (∀ a ∈ y.1, ArrOk all a) ∧ y.2.length = all.length ∧ ∀ k : Nat, y.2[k]? = some true ↔ HasSeq y.1 (k : Int)) (i, sm, seen)) :=
      Ok.st ⟨_, rfl, by simp only; omega, i3, i4, i5⟩
    unfold law37_FeedPrefix_l24
    rw [hA]
    refine Ok.iteD (fun hlt => ?_) (fun _ => fin)
    refine Ok.iteD (fun h40 => ?_) (fun _ => fin)
    refine Ok.iteD (fun hpos => ?_) (fun _ => fin)
    refine Ok.bind (Ok.get i0 hlt) (fun v _ => ?_)
    refine Ok.bind (mod_ok v _ (by omega) (by omega)) (fun k hk => ?_)
    refine Ok.bind (Ok.isin hk.1 hk.2) (fun _ _ => ?_)
    refine Ok.bind (Ok.get hk.1 hk.2) (fun b hb => ?_)
    rw [encode_at (b2 b hb.1), Option.bind_some]
    refine Ok.iteNe (fun h => (h rfl).elim) (fun _ => ?_)
    refine Ok.bind (Ok.app (by simp only [List.length_cons, List.length_nil]; omega)) (fun w hw => ?_)
    subst hw
    refine Ok.bind (Ok.isin hk.1 (by omega)) (fun _ _ => ?_)
    refine Ok.bind (Ok.set hk.1 (by omega)) (fun u hu => ?_)
    subst hu
    rw [w64 (by omega) (by omega)]
    have hkn : ((k.toNat : Nat) : Int) = k := by omega
    obtain ⟨hkl, hbk⟩ := List.getElem?_eq_some_iff.1 hb.2
    refine Ok.nx ⟨by simp only; omega, by simp only [List.length_append, List.length_cons, List.length_nil]; omega, mem_snoc i3 ⟨k.toNat, hkl, hkn.symm, by rw [hbk]⟩, by rw [List.length_set]; exact i4, fun j => ?_⟩ (by simp only; omega)
    simp only
    have hq : HasSeq (sm ++ [(T_api_Arrival.mk k i (text b))]) (j : Int) ↔ HasSeq sm (j : Int) ∨ k = (j : Int) := by
      simp only [HasSeq, List.mem_append, List.mem_singleton]
      constructor
      · rintro ⟨c, hc | rfl, h⟩
        · exact .inl ⟨c, hc, h⟩
        · exact .inr h
      · rintro (⟨c, hc, h⟩ | h)
        · exact ⟨c, .inl hc, h⟩
        · exact ⟨_, .inr rfl, h⟩
    rw [hq, ← i5]
    by_cases hj : k.toNat = j
    · subst hj
      rw [List.getElem?_set_self (by omega)]
      simp [hkn]
    · rw [List.getElem?_set_ne hj]
      exact ⟨.inl, fun h => h.elim id (fun h => (hj (by omega)).elim)⟩
  · subst hs0; simp
  · intro k
    subst hs0
    simp [HasSeq, List.getElem?_replicate]
  · obtain ⟨⟨sm, seen⟩, rfl, c1, c2, c3, c4⟩ := ho
    simp only at c1 c2 c3 c4
    refine Ok.bind (P := fun w => w = seen.all id) (Ok.loop (fun s => (0 ≤ s.2 ∧ s.2 ≤ (seen.length : Int)) ∧ s.1 = (seen.take s.2.toNat).all id) (fun s => ((seen.length : Int) - s.2).toNat) ?_ ⟨by simp only; omega, by simp⟩) (fun w hw => ?_)
    · rintro ⟨q, i⟩ ⟨⟨i0, i1⟩, i2⟩
      simp only at i0 i1 i2
      unfold law37_FeedPrefix_l37
      refine Ok.iteD (fun hlt => ?_) (fun _ => Ok.st ?_)
      · simp only at hlt
        rw [w64 (by omega) (by omega)]
        have hlt' : i.toNat < seen.length := by omega
        have htk : (seen.take (i + 1).toNat).all id = (q && seen[i.toNat]) := by
          rw [show (i + 1).toNat = i.toNat + 1 by omega, take_succ_at hlt', List.all_append, ← i2]; simp
        refine Ok.iteB (fun hq => ?_) (fun hq => ?_)
        · refine Ok.bind (Ok.isin i0 hlt) (fun _ _ => ?_)
          refine Ok.bind (Ok.get i0 hlt) (fun v hv => ?_)
          refine Ok.nx ⟨by simp only; omega, ?_⟩ (by simp only; omega)
          simp only
          rw [htk, hq, Bool.true_and]
          have := hv.2
          rw [List.getElem?_eq_getElem hlt'] at this
          exact (Option.some.inj this).symm
        · refine Ok.nx ⟨by simp only; omega, ?_⟩ (by simp only; omega)
          simp only
          rw [htk, hq, Bool.false_and]
      · have : seen.take i.toNat = seen := List.take_of_length_le (by simp only at *; omega)
        rw [this] at i2
        exact i2
    · refine Ok.bind (prefix_at hall (show sm.length ≤ 1000000 by omega) c2) (fun r hr => ?_)
      obtain ⟨m, hm, rfl, g1, g2⟩ := hr
      have hrl : (all.take m).length = m := by simp; omega
      refine Ok.iteD (fun _ => ?_) (fun h => (h (by omega)).elim)
      refine Ok.bind (Ok.cut (by omega) (by omega) (by omega)) (fun y hy => ?_)
      have hy2 : y = all.take m := by
        subst hy
        rw [hrl]; simp
      rw [hy2, sames_self (by omega) (fun b hb => by have := (b2 b (List.mem_of_mem_take hb)).ev.sol.len; omega), Option.bind_some]
      refine Ok.iteB (fun _ => ?_) (fun h => by cases h)
      refine Ok.iteE (fun _ => by rw [awake_at]; exact Ok.ret rfl) (fun hne => ?_)
      refine (hne ?_).elim
      rw [hw, hrl]
      have h1 : seen.all id = true ↔ m = all.length := by
        rw [List.all_eq_true]
        constructor
        · intro h
          by_cases hlt : m < all.length
          · refine (g2 ((c4 m).1 ?_)).elim
            rw [List.getElem?_eq_getElem (by omega)]
            have := h _ (List.getElem_mem (show m < seen.length by omega))
            exact congrArg some this
          · omega
        · intro h b hb
          obtain ⟨k, hk, rfl⟩ := List.getElem_of_mem hb
          have := (c4 k).2 (g1 k (by omega))
          rw [List.getElem?_eq_getElem hk] at this
          exact Option.some.inj this
      by_cases hmN : m = all.length
      · rw [h1.2 hmN, hmN]; simp
      · have h2 : seen.all id = false := by
          cases h : seen.all id with
          | false => rfl
          | true => exact (hmN (h1.1 h)).elim
        rw [h2]
        have : ((m : Int) == (all.length : Int)) = false := by
          rw [beq_eq_false_iff_ne]; omega
        rw [this]
end Go.Dw.Fe
