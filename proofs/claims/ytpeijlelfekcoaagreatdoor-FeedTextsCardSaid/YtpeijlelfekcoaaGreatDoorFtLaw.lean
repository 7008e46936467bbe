
import Derived.Test.YtpeijlelfekcoaaGreatDoorFtFn
import Derived.Test.YtpeijlelfekcoaaGreatDoorDwPlain
import Derived.Test.YtpeijlelfekcoaaGreatDoorDwOk
import Derived.Test.YtpeijlelfekcoaaGreatDoorDwText
import Derived.Test.YtpeijlelfekcoaaGreatDoorFtCo




set_option maxRecDepth 100000
set_option maxHeartbeats 4000000
namespace Go.Dw.Ft
namespace So
open Go.Dw
abbrev Src := am
theorem ij {s : List UInt8} {n : Int} {i : Nat} (hn : n = i) (hi : i < s.length) : byteO s n = some ((s[i].toNat : Nat) : Int) := by
  subst hn
  unfold byteO
  rw [if_pos ⟨by omega, by omega⟩, Int.toNat_natCast, List.getD_eq_getElem?_getD, List.getElem?_eq_getElem hi]; rfl
theorem cutO_at {α : Type} {l : List α} {a b : Int} {i j : Nat} (ha : a = i) (hb : b = j) (h1 : i ≤ j) (h2 : j ≤ l.length) : cutO l a b = some ((l.drop i).take (j - i)) := by
  subst ha hb
  unfold cutO
  rw [if_pos ⟨by omega, by omega, by omega⟩, Int.toNat_natCast, Int.toNat_natCast]
theorem eP {a b : List UInt8} (h : a.length + b.length ≤ 9223372036854775807) : catO a b = some (a ++ b) := by
  unfold catO
  rw [if_pos (by omega)]
theorem fF {α : Type} {l m : List α} {b : Nat} (h : (l.length + m.length) * b ≤ 140737488355328) : appO l m b = some (l ++ m) := by
  unfold appO
  rw [if_pos h]
theorem kA {α ω : Type} {body : Int → Option (Step1 Int ω)} (l : List α) {p : α → Bool} {u r : ω} (h1 : ∀ (i : Nat) (hi : i < l.length), body i = if p l[i] = true then some (.next ((i + 1 : Nat) : Int)) else some (.stop r))
    (h2 : body (l.length : Nat) = some (.stop u)) : loopO body (0 : Int) = some (if l.all p = true then u else r) := by
  have : ∀ k i, i + k = l.length → loopO body (i : Int) = some (if (l.drop i).all p = true then u else r) := by
    intro k
    induction k with
    | zero =>
      intro i hi
      obtain rfl : i = l.length := by omega
      rw [loopO_stop h2]; simp
    | succ k ih =>
      intro i hi
      have hlt : i < l.length := by omega
      rw [List.drop_eq_getElem_cons hlt, List.all_cons]
      by_cases hp : p l[i] = true
      · rw [loopO_next (by rw [h1 i hlt, if_pos hp]), ih (i + 1) (by omega), hp, Bool.true_and]
      · rw [loopO_stop (by rw [h1 i hlt, if_neg hp])]; simp [hp]
  have := this l.length 0 (by omega)
  simpa using this

def ir (c : UInt8) : Bool := (decide (65 ≤ c.toNat) && decide (c.toNat ≤ 90)) || (decide (48 ≤ c.toNat) && decide (c.toNat ≤ 57))
theorem dec1 (n : Nat) : decide ((n : Int) ≥ 65) = decide (65 ≤ n) := decide_eq_decide.2 (by omega)
theorem dec2 (n : Nat) : decide ((n : Int) ≤ 90) = decide (n ≤ 90) := decide_eq_decide.2 (by omega)
theorem dec3 (n : Nat) : decide ((n : Int) ≥ 48) = decide (48 ≤ n) := decide_eq_decide.2 (by omega)
theorem dec4 (n : Nat) : decide ((n : Int) ≤ 57) = decide (n ≤ 57) := decide_eq_decide.2 (by omega)
theorem plain_eq (c : UInt8) : dO ((c.toNat : Nat) : Int) = some (ir c) := by
  unfold dO ir
  rw [dec1, dec2, dec3, dec4]
  cases decide (65 ≤ c.toNat) <;> cases decide (c.toNat ≤ 90) <;> cases decide (48 ≤ c.toNat) <;> simp
def eB (s : List UInt8) (lo hi : Int) : Bool := s.all ir && (decide ((s.length : Int) ≥ lo) && decide ((s.length : Int) ≤ hi))
theorem code_l7 {s : List UInt8} (hs : s.length ≤ 9223372036854775807) : loopO (dx s) (0 : Int) = some (if s.all ir = true then .inl () else .inr false) := by
  refine kA s (fun i hi => ?_) ?_
  · unfold dx
    rw [if_pos (by simp; omega), ij rfl hi, w64 (by omega) (by omega)]
    simp only [Option.bind_some, plain_eq]
    cases ir s[i] <;> simp
  · unfold dx
    rw [if_neg (by simp)]
theorem code_eq {s : List UInt8} (hs : s.length ≤ 9223372036854775807) (lo hi : Int) : di s lo hi = some (eB s lo hi) := by
  unfold di eB
  rw [code_l7 hs]
  cases s.all ir with
  | true => cases decide ((s.length : Int) ≥ lo) <;> simp
  | false => rfl
theorem ref_code_l16 {s : List UInt8} (hs : s.length ≤ 9223372036854775807) : loopO (fP s) (0 : Int) = some (if s.all ir = true then .inl () else .inr false) := by
  refine kA s (fun i hi => ?_) ?_
  · unfold fP
    rw [if_pos (by simp; omega), ij rfl hi, w64 (by omega) (by omega)]
    simp only [Option.bind_some, dec1, dec2, dec3, dec4]
    unfold ir
    cases decide (65 ≤ s[i].toNat) <;> cases decide (s[i].toNat ≤ 90) <;> cases decide (48 ≤ s[i].toNat) <;> cases decide (s[i].toNat ≤ 57) <;> simp
  · unfold fP
    rw [if_neg (by simp)]
theorem iP {s : List UInt8} (hs : s.length ≤ 9223372036854775807) (lo hi : Int) : eI s lo hi = some (eB s lo hi) := by
  unfold eI eB
  rw [ref_code_l16 hs]
  cases s.all ir with
  | true => cases decide ((s.length : Int) ≥ lo) <;> simp
  | false => rfl

def eX (x : Src) : Prop := x.aC.length ≤ 9223372036854775807 ∧ x.aE.length ≤ 9223372036854775807 ∧ x.ac.length ≤ 9223372036854775807 ∧ x.aD.length ≤ 9223372036854775807
def dC (x : Src) : Bool := eB x.aC 1 2 && (eB x.aE 1 5 && (eB x.ac 0 2 && (decide (x.ac.length ≠ 1) && eB x.aD 3 3)))
theorem jU {x : Src} (hx : eX x) : cO x = some (dC x) := by
  obtain ⟨h1, h2, h3, h4⟩ := hx
  unfold cO dC
  simp only [code_eq h1, code_eq h2, code_eq h3, code_eq h4, Option.bind_some]
  have e : ((x.ac.length : Int) != 1) = decide (x.ac.length ≠ 1) := by
    by_cases h : x.ac.length = 1
    · simp [h]
    · simp [h]; omega
  rw [e]
  cases eB x.aC 1 2 <;> cases eB x.aE 1 5 <;> cases eB x.ac 0 2 <;> cases decide (x.ac.length ≠ 1) <;> simp
theorem loc_eq (s : List UInt8) : (eB s 0 2 && decide (s.length ≠ 1)) = (decide (s = []) || eB s 2 2) := by
  unfold eB
  match s with
  | [] => simp
  | [a] => simp
  | [a, b] => simp
  | a :: b :: c :: r =>
    have h1 : decide (((a :: b :: c :: r).length : Int) ≤ 2) = false := by simp; omega
    rw [h1]; simp
theorem jy {x : Src} (hx : eX x) : fx x = some (dC x) := by
  obtain ⟨h1, h2, h3, h4⟩ := hx
  unfold fx dC
  simp only [iP h1, iP h2, iP h3, iP h4, Option.bind_some]
  rw [← Bool.and_assoc (eB x.ac 0 2), loc_eq]
  by_cases e : x.ac = []
  · cases eB x.aC 1 2 <;> cases eB x.aE 1 5 <;> simp [e]
  · cases eB x.aC 1 2 <;> cases eB x.aE 1 5 <;> cases eB x.ac 2 2 <;> simp [e]
theorem kz {s : List UInt8} {lo : Int} {hi : Nat} (h : eB s lo hi = true) : s.length ≤ hi := by
  unfold eB at h
  simp only [Bool.and_eq_true, decide_eq_true_eq] at h
  omega
theorem jl {x : Src} (h : dC x = true) : x.aC.length ≤ 2 ∧ x.aE.length ≤ 5 ∧ x.ac.length ≤ 2 ∧ x.aD.length ≤ 3 := by
  unfold dC at h
  simp only [Bool.and_eq_true] at h
  exact ⟨kz (hi := 2) h.1, kz (hi := 5) h.2.1, kz (hi := 2) h.2.2.1, kz (hi := 3) h.2.2.2.2⟩

def fmt (x : Src) : List UInt8 := x.aC ++ [46] ++ x.aE ++ [46] ++ x.ac ++ [46] ++ x.aD
def iE (x : Src) : List UInt8 × Int := if dC x = true then (fmt x, 0) else ([], 1)
theorem Format_eq {x : Src} (hx : eX x) : df x = some (iE x) := by
  unfold df iE eV
  rw [jU hx, Option.bind_some]
  cases h : dC x with
  | false => simp
  | true =>
    obtain ⟨h1, h2, h3, h4⟩ := jl h
    have e : Lib.join [x.aC, x.aE, x.ac, x.aD] [46] = fmt x := by
      simp [Lib.join, List.intercalate, List.intersperse, fmt]
    have hl : (fmt x).length ≤ 15 := by simp [fmt]; omega
    simp only [Bool.not_true, Bool.false_eq_true, if_false, Option.bind_some, joinO, e, if_true]
    rw [if_pos ⟨by simp, by simp, by omega⟩]; rfl
theorem ref_Format_eq {x : Src} (hx : eX x) : hO x = some (iE x) := by
  unfold hO iE
  rw [jy hx, Option.bind_some]
  cases h : dC x with
  | false => simp
  | true =>
    obtain ⟨h1, h2, h3, h4⟩ := jl h
    rw [if_neg (by simp), eP (by simp; omega), Option.bind_some, eP (by simp; omega), Option.bind_some, eP (by simp; omega), Option.bind_some, eP (by simp; omega), Option.bind_some, eP (by simp; omega), Option.bind_some, eP (by simp; omega)]
    rfl
theorem splitL_ne (c : UInt8) : ∀ s, splitL c s ≠ []
  | [] => by simp [splitL]
  | x :: r => by
    unfold splitL
    split
    · simp
    · split <;> simp
theorem splitL_cons (c x : UInt8) (r : List UInt8) : ∃ q qs, splitL c r = q :: qs ∧ splitL c (x :: r) = if x = c then [] :: q :: qs else (x :: q) :: qs := by
  match h : splitL c r with
  | [] => exact (splitL_ne c r h).elim
  | q :: qs => refine ⟨q, qs, rfl, ?_⟩; rw [splitL, h]
theorem splitL_len (c : UInt8) : ∀ s, (splitL c s).length ≤ s.length + 1 ∧ ∀ p ∈ splitL c s, p.length ≤ s.length
  | [] => by simp [splitL]
  | x :: r => by
    obtain ⟨q, qs, h1, h2⟩ := splitL_cons c x r
    obtain ⟨h3, h4⟩ := splitL_len c r
    rw [h1] at h3 h4
    rw [h2]
    split
    · refine ⟨by simp at h3 ⊢; omega, fun p hp => ?_⟩
      rcases List.mem_cons.1 hp with rfl | hp
      · simp
      · have := h4 p hp; simp; omega
    · refine ⟨by simp at h3 ⊢; omega, fun p hp => ?_⟩
      rcases List.mem_cons.1 hp with rfl | hp
      · have := h4 q (by simp); simp; omega
      · have := h4 p (by simp [hp]); simp; omega
theorem u46 (c : UInt8) : (((c.toNat : Nat) : Int) == 46) = decide (c = 46) := by
  by_cases h : c = 46
  · subst h; rfl
  · have : c.toNat ≠ 46 := fun e => h (UInt8.toNat_inj.1 e)
    simp [h]; omega
theorem ref_Split_eq {s : List UInt8} (hs : s.length ≤ 4000000000) : iH s 46 = some (splitL 46 s) := by
  obtain ⟨o, h1, h2⟩ := loop_ind (body := gP s 46) (fun st : Int × List (List UInt8) => ∃ (i : Nat) (init : List (List UInt8)) (last p : List UInt8) (ps : List (List UInt8)), st = ((i : Int), init ++ [last]) ∧ i ≤ s.length ∧ init.length ≤ i ∧ last.length ≤ i ∧
      splitL 46 (s.drop i) = p :: ps ∧ splitL 46 s = init ++ (last ++ p) :: ps) (fun st => ((s.length : Int) - st.1).toNat) (fun o => o = splitL 46 s) (by
    rintro st ⟨i, init, last, p, ps, rfl, hi, hin, hla, hp, hsp⟩
    unfold gP
    simp only
    by_cases hlt : i < s.length
    · rw [if_pos (by simp; omega), ij rfl hlt, Option.bind_some, w64 (n := (i : Int) + 1) (by omega) (by omega)]
      have hd : s.drop i = s[i] :: s.drop (i + 1) := List.drop_eq_getElem_cons hlt
      obtain ⟨q, qs, g1, g2⟩ := splitL_cons 46 s[i] (s.drop (i + 1))
      rw [← hd, hp] at g2
      refine .inl ?_
      by_cases hc : s[i] = 46
      · rw [if_pos (by rw [u46]; simpa using hc), fF (by simp; omega), Option.bind_some]
        rw [if_pos hc] at g2
        obtain ⟨rfl, rfl⟩ := List.cons.inj g2
        exact ⟨_, rfl, ⟨i + 1, init ++ [last], [], q, qs, by simp, by omega, by simp; omega, by simp, g1, by rw [hsp]; simp⟩, by simp only; omega⟩
      · rw [if_neg (by rw [u46]; simpa using hc)]
        rw [if_neg hc] at g2
        obtain ⟨rfl, rfl⟩ := List.cons.inj g2
        have hlen : (init ++ [last]).length = init.length + 1 := by simp
        have hg : (init ++ [last])[init.length]'(by simp) = last := by simp
        rw [w64 (by omega) (by omega), inO_at (by omega) (by omega), getO_at (i := init.length) (by omega) (by omega), hg]
        simp only [Option.bind_some]
        rw [cutO_at (i := i) (j := i + 1) rfl (by omega) (by omega) (by omega), Option.bind_some]
        have ht : (s.drop i).take (i + 1 - i) = [s[i]] := by rw [hd, show i + 1 - i = 1 by omega]; rfl
        rw [ht, eP (by simp; omega), Option.bind_some, setO_at (i := init.length) (by omega) (by omega)]
        have hset : (init ++ [last]).set init.length (last ++ [s[i]]) = init ++ [last ++ [s[i]]] := by
          rw [List.set_append_right _ _ (Nat.le_refl _)]; simp
        rw [hset]
        exact ⟨_, rfl, ⟨i + 1, init, last ++ [s[i]], q, ps, by simp, by omega, by omega, by simp; omega, g1, by rw [hsp]; simp⟩, by simp only; omega⟩
    · rw [if_neg (by simp; omega)]
      refine .inr ⟨_, rfl, ?_⟩
      rw [hsp]
      rw [List.drop_eq_nil_of_le (by omega)] at hp
      cases hp
      simp) (0, [[]]) (by
      match h : splitL 46 s with
      | [] => exact (splitL_ne 46 s h).elim
      | p :: ps => exact ⟨0, [], [], p, ps, rfl, by omega, by simp, by simp, by simpa using h, by simp⟩)
  unfold iH
  rw [h1, h2]; rfl
theorem splitO_eq {s : List UInt8} (hs : s.length ≤ 4000000000) : splitO s [46] = some (splitL 46 s) := by
  show (if s.length < 4294967281 then some (splitL 46 s) else none) = _
  rw [if_pos (by omega)]
theorem four {α : Type} {l : List α} (h : l.length = 4) : ∃ a b c d, l = [a, b, c, d] := by
  match l, h with
  | [a, b, c, d], _ => exact ⟨a, b, c, d, rfl⟩
theorem getO4 {α : Type} (a b c d : α) : getO [a, b, c, d] 0 = some a ∧ getO [a, b, c, d] 1 = some b ∧ getO [a, b, c, d] 2 = some c ∧ getO [a, b, c, d] 3 = some d := ⟨rfl, rfl, rfl, rfl⟩
theorem inO4 {α : Type} (a b c d : α) : inO [a, b, c, d] 0 = some () ∧ inO [a, b, c, d] 1 = some () ∧ inO [a, b, c, d] 2 = some () ∧ inO [a, b, c, d] 3 = some () := ⟨rfl, rfl, rfl, rfl⟩

theorem Parse_eq {z : List UInt8} (hz : z.length ≤ 4000000000) : ∃ r, cN z = some r ∧ fw z = some r := by
  unfold cN fw
  rw [splitO_eq hz, ref_Split_eq hz, Option.bind_some, Option.bind_some]
  by_cases h4 : (splitL 46 z).length = 4
  · have hn : (((splitL 46 z).length : Int) != 4) = false := by rw [h4]; rfl
    rw [if_neg (by rw [hn]; simp), if_neg (by rw [hn]; simp)]
    obtain ⟨a, b, c, d, hl⟩ := four h4
    have hlen := (splitL_len 46 z).2
    rw [hl] at hlen ⊢
    have hok : eX ⟨a, b, c, d⟩ := by
      have h1 := hlen a (by simp); have h2 := hlen b (by simp); have h3 := hlen c (by simp); have h4 := hlen d (by simp)
      exact ⟨by simp only; omega, by simp only; omega, by simp only; omega, by simp only; omega⟩
    obtain ⟨g0, g1, g2, g3⟩ := getO4 a b c d
    obtain ⟨i0, i1, i2, i3⟩ := inO4 a b c d
    simp only [g0, g1, g2, g3, i0, i1, i2, i3, Option.bind_some, jU hok, jy hok]
    cases dC ⟨a, b, c, d⟩ <;> exact ⟨_, rfl, rfl⟩
  · have hn : (((splitL 46 z).length : Int) != 4) = true := by simp; omega
    rw [if_pos hn, if_pos hn]
    exact ⟨_, rfl, rfl⟩


theorem plain_no {c : UInt8} (h : ir c = true) : c ≠ 46 ∧ c ≠ 32 := by
  unfold ir at h
  simp only [Bool.or_eq_true, Bool.and_eq_true, decide_eq_true_eq] at h
  constructor <;> (rintro rfl; revert h; decide)
theorem iB {s : List UInt8} {lo hi : Int} (h : eB s lo hi = true) : (46 : UInt8) ∉ s ∧ (32 : UInt8) ∉ s := by
  unfold eB at h
  simp only [Bool.and_eq_true, List.all_eq_true] at h
  exact ⟨fun hm => (plain_no (h.1 _ hm)).1 rfl, fun hm => (plain_no (h.1 _ hm)).2 rfl⟩
theorem ln {x : Src} (h : dC x = true) : ((46 : UInt8) ∉ x.aC ∧ (46 : UInt8) ∉ x.aE ∧ (46 : UInt8) ∉ x.ac ∧ (46 : UInt8) ∉ x.aD) ∧ (32 : UInt8) ∉ fmt x ∧ (fmt x).length ≤ 15 := by
  have hl := jl h
  unfold dC at h
  simp only [Bool.and_eq_true] at h
  obtain ⟨h1, h2, h3, -, h4⟩ := h
  refine ⟨⟨(iB h1).1, (iB h2).1, (iB h3).1, (iB h4).1⟩, ?_, by simp [fmt]; omega⟩
  simp [fmt, (iB h1).2, (iB h2).2, (iB h3).2, (iB h4).2]
theorem lens {x : Src} (h : dC x = true) : eX x := by
  obtain ⟨h1, h2, h3, h4⟩ := jl h
  exact ⟨by omega, by omega, by omega, by omega⟩
theorem parse_fmt {x : Src} (h : dC x = true) : cN (fmt x) = some (x, 0) := by
  obtain ⟨⟨h1, h2, h3, h4⟩, -, hl⟩ := ln h
  have e : fmt x = Lib.join [x.aC, x.aE, x.ac, x.aD] [46] := by simp [Lib.join, List.intercalate, List.intersperse, fmt]
  have hs : splitL 46 (fmt x) = [x.aC, x.aE, x.ac, x.aD] := by
    rw [e]
    refine split_join (by simp) (fun w hw => ?_)
    simp only [List.mem_cons, List.not_mem_nil, or_false] at hw
    rcases hw with rfl | rfl | rfl | rfl <;> assumption
  unfold cN
  rw [splitO_eq (by omega), hs, Option.bind_some, if_neg (by simp)]
  obtain ⟨g0, g1, g2, g3⟩ := getO4 x.aC x.aE x.ac x.aD
  have hv := jU (x := ⟨x.aC, x.aE, x.ac, x.aD⟩) (lens h)
  simp only [g0, g1, g2, g3, Option.bind_some]
  rw [hv, Option.bind_some, if_neg (by rw [show dC ⟨x.aC, x.aE, x.ac, x.aD⟩ = dC x from rfl, h]; simp)]
end So
end Go.Dw.Ft





set_option maxRecDepth 100000
set_option maxHeartbeats 4000000
namespace Go.Dw.Ft
open Go.Dw
abbrev Src := aH
abbrev Pick := ag
abbrev Sid := am
abbrev Ev := ar
abbrev Bul := ai
abbrev Alert := aL
abbrev Policy := aX

theorem mod_ok (a b : Int) (h0 : 1 ≤ b) (h1 : b ≤ 1000000000) : Ok (gE a b) (fun r => 0 ≤ r ∧ r < b) := by
  unfold gE
  have hl : a.tmod b < b := Int.tmod_lt_of_pos _ (by omega)
  have hg : -b < a.tmod b := by
    rcases Int.le_total 0 a with h | h
    · have := Int.tmod_nonneg b h; omega
    · have e : a.tmod b = -((-a).tmod b) := by rw [Int.neg_tmod]; omega
      have := Int.tmod_lt_of_pos (-a) (show 0 < b by omega)
      omega
  refine Ok.iteD (fun _ => by omega) (fun _ => ?_)
  refine Ok.bind (Ok.rem (by omega)) (fun x hx => ?_)
  subst hx
  refine Ok.iteD (fun _ => ?_) (fun _ => ?_)
  · rw [w64 (by omega) (by omega)]
    exact Ok.ret (by omega)
  · exact Ok.ret (by omega)
def du (d : Src) : Prop := 0 ≤ d.fAt ∧ d.fAt ≤ d.fL.length ∧ d.fL.length ≤ 2000
theorem raw_ok (d : Src) (hd : du d) : Ok (Src_Raw d) (fun r => du r.2) := by
  obtain ⟨h0, h1, h2⟩ := hd
  unfold Src_Raw
  refine Ok.iteD (fun _ => Ok.ret ⟨h0, h1, h2⟩) (fun h => ?_)
  rw [w64 (n := d.fAt + 1) (by omega) (by omega), w64 (by omega) (by omega)]
  refine Ok.bind (Ok.get (by omega) (by omega)) (fun x _ => ?_)
  refine Ok.ret ⟨?_, ?_, h2⟩ <;> simp only <;> omega
theorem gN (k : Int) (d : Src) (hd : du d) (h0 : 1 ≤ k) (h1 : k ≤ 1000000000) : Ok (dT k d) (fun r => 0 ≤ r.1 ∧ r.1 < k ∧ du r.2) := by
  unfold dT
  refine Ok.bind (raw_ok d hd) (fun x hx => ?_)
  refine Ok.bind (mod_ok _ _ h0 h1) (fun y hy => ?_)
  exact Ok.ret ⟨hy.1, hy.2, hx⟩
theorem fN (l : List Int) (d : Src) (hd : du d) (h0 : l ≠ []) (h1 : l.length ≤ 1000000) : Ok (dF l d) (fun r => r.1 ∈ l ∧ du r.2) := by
  unfold dF
  have := List.length_pos_iff.2 h0
  refine Ok.bind (gN _ d hd (by omega) (by omega)) (fun x hx => ?_)
  refine Ok.bind (Ok.get hx.1 hx.2.1) (fun y hy => ?_)
  exact Ok.ret ⟨hy.1, hx.2.2⟩
def stas : List (List UInt8) := [[83, 49], [83, 50], [83, 51], [83, 52], [83, 53], [83, 54]]
def IsSid (a : Sid) : Prop := So.dC a = true
theorem stas_ok : ∀ x ∈ stas, So.dC ⟨[65, 66], x, [48, 48], [66, 72, 90]⟩ = true := by decide +kernel
theorem source_ok (n : Int) : Ok (eF n) IsSid := by
  unfold eF
  refine Ok.bind (mod_ok n 6 (by omega) (by omega)) (fun x hx => ?_)
  refine Ok.bind (Ok.get hx.1 hx.2) (fun y hy => ?_)
  exact Ok.ret (stas_ok y hy.1)
theorem new_ok (l : List Int) : Ok (lc l) du := by
  unfold lc
  refine Ok.bind (Ok.cut (by omega) (by split <;> omega) (by split <;> omega)) (fun x hx => ?_)
  subst hx
  refine Ok.ret ⟨by simp, by simp, ?_⟩
  simp only [List.length_take, List.length_drop]
  split <;> omega

theorem policy_ok (d : Src) (hd : du d) : Ok (jo d) (fun r => r.1.bN.length ≤ 8 ∧ du r.2) := by
  unfold jo
  refine Ok.bind (fN _ d hd (by simp) (by simp)) (fun x1 h1 => ?_)
  refine Ok.bind (fN _ _ h1.2 (by simp) (by simp)) (fun x2 h2 => ?_)
  refine Ok.bind (gN _ _ h2.2 (by omega) (by omega)) (fun x3 h3 => ?_)
  rw [w64 (by omega) (by omega)]
  refine Ok.bind (P := fun o => du ⟨o.1, o.2.1⟩ ∧ o.2.2.length ≤ 8) (Ok.loop (fun s => 0 ≤ s.1 ∧ s.1 + s.2.2.2.length ≤ 3 ∧ du ⟨s.2.1, s.2.2.1⟩) (fun s => s.1.toNat) ?_ ⟨by simp only; omega, by simp only [List.length_nil]; omega, h3.2.2⟩) ?_
  · rintro ⟨s4, s5, s6, s7⟩ ⟨i0, i1, i2⟩
    simp only at i0 i1 i2
    unfold jT
    refine Ok.iteD (fun _ => ?_) (fun _ => ?_)
    · refine Ok.bind (gN _ _ i2 (by omega) (by omega)) (fun y1 g1 => ?_)
      refine Ok.bind (gN _ _ g1.2.2 (by omega) (by omega)) (fun y2 g2 => ?_)
      refine Ok.bind (fN _ _ g2.2.2 (by simp) (by simp)) (fun y3 g3 => ?_)
      refine Ok.bind (fN _ _ g3.2 (by simp) (by simp)) (fun y4 g4 => ?_)
      refine Ok.bind (Ok.app (by simp only [List.length_cons, List.length_nil]; omega)) (fun y5 g5 => ?_)
      subst g5
      rw [w64 (n := s4 - 1) (by omega) (by omega)]
      exact Ok.nx ⟨by simp only; omega, by simp only [List.length_append, List.length_cons, List.length_nil]; omega, g4.2⟩ (by simp only; omega)
    · exact Ok.st ⟨i2, by simp only; omega⟩
  · intro o ho
    exact Ok.ret ⟨ho.2, ho.1⟩

def dB (p : Pick) : Prop := IsSid p.ah ∧ 0 ≤ p.aJ ∧ p.aJ ≤ p.aF ∧ p.aF ≤ p.aN ∧ p.aN ≤ 18014398509481984 ∧ 0 ≤ p.au ∧ p.au ≤ 1073741823 ∧ -1 ≤ p.av ∧ p.av ≤ 1
def dA (n : Int) : Prop := -1152921504606846976 ≤ n ∧ n ≤ 1152921504606846976
def PosOk (p : aj) : Prop := dA p.fX ∧ dA p.fY ∧ dA p.fZ
structure SolOk (s : aw) : Prop where
  picks : ∀ p ∈ s.aK, dB p
  len : s.aK.length ≤ 64
  point : PosOk s.ac.aA
  low : PosOk s.ac.ap.aI
  high : PosOk s.ac.ap.az
  time : dA s.ac.aF
  misfit : dA s.ac.aO
  lower : dA s.ac.aV
  mlow : dA s.aq.aI
  mhigh : dA s.aq.az
  count : dA s.aU
structure EvOk (e : Ev) : Prop where
  name : dB e.ak
  sol : SolOk e.aa
theorem place_ok (d : Src) (hd : du d) : Ok (kx 20 d) (fun r => PosOk r.1 ∧ du r.2) := by
  unfold kx
  rw [w64 (n := 2 * 20) (by omega) (by omega), w64 (n := 2 * 20 + 1) (by omega) (by omega), w64 (n := 20 + 1) (by omega) (by omega)]
  refine Ok.bind (gN _ _ hd (by omega) (by omega)) (fun y1 g1 => ?_)
  refine Ok.bind (gN _ _ g1.2.2 (by omega) (by omega)) (fun y2 g2 => ?_)
  refine Ok.bind (gN _ _ g2.2.2 (by omega) (by omega)) (fun y3 g3 => ?_)
  rw [w64 (n := y1.1 - 20) (by omega) (by omega), w64 (n := y2.1 - 20) (by omega) (by omega)]
  refine Ok.ret ⟨⟨?_, ?_, ?_⟩, g3.2.2⟩ <;> unfold dA <;> simp only <;> omega
theorem event_ok (d : Src) (hd : du d) : Ok (kw 1 d) (fun r => (EvOk r.1 ∧ 1 ≤ r.1.aa.aK.length) ∧ du r.2) := by
  unfold kw
  refine Ok.bind (gN _ _ hd (by omega) (by omega)) (fun x1 h1 => ?_)
  have hw : IntKind.wrap .i64 ((1000 : Int) + x1.1) = 1000 + x1.1 := w64 (by omega) (by omega)
  refine Ok.bind (P := fun o => du ⟨o.1, o.2.1⟩ ∧ (1 ≤ o.2.2.length ∧ o.2.2.length ≤ 4) ∧ ∀ p ∈ o.2.2, dB p) (Ok.loop (fun s => 0 ≤ s.1 ∧ s.1 = s.2.2.2.length ∧ s.1 ≤ 4 ∧ du ⟨s.2.1, s.2.2.1⟩ ∧ ∀ p ∈ s.2.2.2, dB p) (fun s => (4 - s.1).toNat) ?_ ⟨by simp, by simp, by simp, h1.2.2, by simp⟩) ?_
  · rintro ⟨s2, s3, s4, s5⟩ ⟨i0, i1, i2, i3, i4⟩
    simp only at i0 i1 i2 i3 i4
    unfold kG
    refine Ok.bind (gN _ _ i3 (by omega) (by omega)) (fun y1 g1 => ?_)
    rw [w64 (n := 1 + y1.1) (by omega) (by omega)]
    refine Ok.iteD (fun hlt => ?_) (fun hlt => ?_)
    · refine Ok.bind (source_ok s2) (fun y2 g2 => ?_)
      refine Ok.bind (gN _ _ g1.2.2 (by omega) (by omega)) (fun y3 g3 => ?_)
      refine Ok.bind (Ok.app (by simp only [List.length_cons, List.length_nil]; omega)) (fun y5 g5 => ?_)
      subst g5
      rw [hw, w64 (n := 10 * 1) (by omega) (by omega), w64 (n := 1000 + x1.1 + 10 * 1) (by omega) (by omega), w64 (n := 1000 + x1.1 + 10 * 1 + y3.1) (by omega) (by omega), w64 (n := s2 + 1) (by omega) (by omega)]
      refine Ok.nx ⟨by simp only; omega, by simp only [List.length_append, List.length_cons, List.length_nil]; omega, by simp only; omega, g3.2.2, ?_⟩ (by simp only; omega)
      intro p hp
      rcases List.mem_append.1 hp with hp | hp
      · exact i4 p hp
      · obtain rfl := List.mem_singleton.1 hp
        refine ⟨g2, ?_⟩
        simp only
        omega
    · refine Ok.st ⟨g1.2.2, by simp only; omega, i4⟩
  · intro o ho
    obtain ⟨h2, h3, h4⟩ := ho
    refine Ok.bind (Ok.isin (by omega) (by omega)) (fun _ _ => ?_)
    refine Ok.bind (Ok.get (by omega) (by omega)) (fun x19 h19 => ?_)
    refine Ok.bind (place_ok _ h2) (fun x20 h20 => ?_)
    refine Ok.bind (gN _ _ h20.2 (by omega) (by omega)) (fun x21 h21 => ?_)
    refine Ok.bind (fN _ _ h21.2.2 (by simp) (by simp)) (fun x22 h22 => ?_)
    have hm : dA x22.1 := by
      have := h22.1
      simp only [List.mem_cons, List.not_mem_nil, or_false] at this
      unfold dA; omega
    refine Ok.bind (gN _ _ h22.2 (by omega) (by omega)) (fun x23 h23 => ?_)
    rw [hw, w64 (n := 1000 + x1.1 - x21.1) (by omega) (by omega)]
    refine Ok.iteD (fun hlt => ?_) (fun hlt => ?_)
    · refine Ok.bind (gN _ _ h23.2.2 (by omega) (by omega)) (fun x25 h25 => ?_)
      refine Ok.bind (gN _ _ h25.2.2 (by omega) (by omega)) (fun x26 h26 => ?_)
      rw [w64 (n := x25.1 + x26.1) (by omega) (by omega)]
      exact Ok.ret ⟨⟨⟨h4 _ h19.1, ⟨h4, by simp only; omega, h20.1, h20.1, h20.1, by unfold dA; simp only; omega, hm, by unfold dA; simp only; omega, by unfold dA; simp only; omega, by unfold dA; simp only; omega, by unfold dA; simp only; omega⟩⟩, h3.1⟩, h26.2.2⟩
    · exact Ok.ret ⟨⟨⟨h4 _ h19.1, ⟨h4, by simp only; omega, h20.1, h20.1, h20.1, by unfold dA; simp only; omega, hm, by unfold dA; simp only; omega, by unfold dA; simp only; omega, by unfold dA; simp only; omega, by unfold dA; simp only; omega⟩⟩, h3.1⟩, h23.2.2⟩
end Go.Dw.Ft



set_option maxRecDepth 100000
set_option maxHeartbeats 4000000
namespace Go.Dw.Ft
open Go.Dw Go.Lib
abbrev Rd := aT
abbrev Wd := List UInt8

abbrev fmt := So.fmt
theorem chk1_at {a : Sid} (h : IsSid a) : cO a = some true ∧ df a = some (fmt a, 0) ∧ cN (fmt a) = some (a, 0) ∧ (32 : UInt8) ∉ fmt a ∧ (fmt a).length ≤ 100 := by
  have hv : So.dC a = true := h
  obtain ⟨-, h2, h3⟩ := So.ln hv
  refine ⟨by rw [So.jU (So.lens hv), hv], ?_, So.parse_fmt hv, h2, Nat.le_trans h3 (by decide)⟩
  rw [So.Format_eq (So.lens hv)]
  unfold So.iE
  rw [if_pos hv]

def big (n : Int) : Prop := -9223372036854775808 ≤ n ∧ n ≤ 9223372036854775807
theorem word_read (w : Wd) (ws : List Wd) (b : Bool) (hl : ws.length ≤ 1000000000) : dK ⟨w :: ws, b⟩ = some (w, ⟨ws, b⟩) := by
  unfold dK
  have h0 : (((w :: ws).length : Int) == 0) = false := by simp; omega
  simp only [h0, Bool.false_eq_true, if_false]
  rw [getO_at (n := 0) (i := 0) rfl (by simp)]
  obtain ⟨r, h1, h2⟩ := Ok.cut (l := w :: ws) (a := 1) (b := ((w :: ws).length : Int)) (by omega) (by simp; omega) (by omega)
  rw [Option.bind_some, h1, Option.bind_some]
  subst h2
  simp
theorem bU {n : Int} (h : big n) (ws : List Wd) (hl : ws.length ≤ 1000000000) : aY ⟨itoa n :: ws, false⟩ = some (n, ⟨ws, false⟩) := by
  obtain ⟨h0, h1⟩ := h
  unfold aY
  rw [word_read _ _ _ hl, Option.bind_some]
  simp only [Bool.false_eq_true, if_false]
  rw [atoiO_itoa (by omega) (by omega), Option.bind_some]
  simp only [Bool.not_true, Bool.false_eq_true, if_false]
  rw [itoaO_at (by omega) (by omega), Option.bind_some]
  simp
def bc (p : Pick) : List Wd := fmt p.ah :: [itoa p.aF, itoa p.aJ, itoa p.aN, itoa p.au, itoa p.av]
theorem pick_read {p : Pick} (hp : dB p) (ws : List Wd) (hl : ws.length ≤ 100000000) : dH ⟨bc p ++ ws, false⟩ = some (p, ⟨ws, false⟩) := by
  obtain ⟨hs, h1, h2, h3, h4, h5, h6, h7, h8⟩ := hp
  obtain ⟨-, -, f3, -⟩ := chk1_at hs
  unfold dH bc
  simp only [List.cons_append, List.nil_append]
  rw [word_read _ _ _ (by simp only [List.length_cons]; omega), Option.bind_some]
  simp only [f3, Option.bind_some, Bool.false_eq_true, if_false]
  have e : ((0 : Int) != 0) = false := rfl
  rw [e, bU (by unfold big; omega) _ (by simp only [List.length_cons]; omega), Option.bind_some]
  rw [bU (by unfold big; omega) _ (by simp only [List.length_cons]; omega), Option.bind_some]
  rw [bU (by unfold big; omega) _ (by simp only [List.length_cons]; omega), Option.bind_some]
  rw [bU (by unfold big; omega) _ (by simp only [List.length_cons]; omega), Option.bind_some]
  rw [bU (by unfold big; omega) _ (by omega), Option.bind_some]
theorem picks_read : ∀ (l : List Pick) (ws : List Wd) (acc : List Pick), (∀ p ∈ l, dB p) → l.length ≤ 1000000 → ws.length ≤ 1000000 → acc.length + l.length ≤ 1000000 →
    loopO cU ((l.length : Int), l.flatMap bc ++ ws, false, acc) = some (ws, false, acc ++ l)
  | [], ws, acc, _, _, _, _ => by
    refine loopO_stop ?_
    simp [cU]
  | p :: l, ws, acc, hp, hl, hw, ha => by
    simp only [List.length_cons] at hl ha
    have hfl : (l.flatMap bc).length = 6 * l.length := by
      clear hp hl hw ha
      induction l with
      | nil => rfl
      | cons a l ih => rw [List.flatMap_cons, List.length_append, ih]; simp [bc]; omega
    rw [loopO_next (s' := ((l.length : Int), l.flatMap bc ++ ws, false, acc ++ [p]))]
    · rw [picks_read l ws (acc ++ [p]) (fun q hq => hp q (by simp [hq])) (by omega) hw (by simp; omega)]
      simp
    · unfold cU
      simp only
      rw [if_pos (decide_eq_true (by simp only [List.length_cons]; omega))]
      simp only [Bool.not_false, if_true]
      rw [List.flatMap_cons, List.append_assoc, pick_read (hp p (by simp)) _ (by rw [List.length_append, hfl]; omega), Option.bind_some]
      obtain ⟨r, h1, h2⟩ := Ok.app (l := acc) (m := [p]) (b := 104) (by simp only [List.length_cons, List.length_nil]; omega)
      rw [h1, Option.bind_some, h2, w64 (by simp only [List.length_cons]; omega) (by simp only [List.length_cons]; omega)]
      congr 3
      simp only [List.length_cons]; omega

def eE (p : aj) : List Int := [p.fX, p.fY, p.fZ]
def cx (s : aw) : List Int := eE s.ac.aA ++ ([s.ac.aF, s.ac.aO, s.ac.aV] ++ (eE s.ac.ap.aI ++ (eE s.ac.ap.az ++ [s.aq.aI, s.aq.az, s.aU])))
theorem grow_at {n : Int} (h0 : 0 ≤ n) (h1 : n ≤ 1000000) : dE n = some [] := by
  unfold dE
  rw [if_neg (by simp; omega), w64 (by omega) (by omega)]
  by_cases h : n = 0
  · subst h; rfl
  · rw [if_pos (by simp; omega)]
    obtain ⟨r, g1, g2⟩ := Ok.mkz (n := n - 0) (z := (0 : Int)) (b := 8) (by omega) (by omega) (by omega)
    rw [g1, Option.bind_some]
    obtain ⟨u, g3, -⟩ := Ok.sub (n := r.length) (lo := 0) (hi := 0) (by omega) (by omega) (by omega)
    rw [g3, Option.bind_some]
    simp [dc]
theorem concat_l8 : ∀ (k : Nat) (l : List (List Int)) (i : Nat) (s : Int), i + k = l.length → 0 ≤ s → (∀ x ∈ l, x.length ≤ 1000) → l.length ≤ 100 → s ≤ 1000 * i →
    ∃ o, loopO (cG l) (s, (i : Int)) = some o ∧ 0 ≤ o ∧ o ≤ 1000 * l.length := by
  intro k
  induction k with
  | zero =>
    intro l i s hi h0 hx hl hs
    refine ⟨s, loopO_stop ?_, h0, by omega⟩
    unfold cG
    simp only
    rw [if_neg (by simp; omega)]
  | succ k ih =>
    intro l i s hi h0 hx hl hs
    have hlt : i < l.length := by omega
    have hx' := hx l[i] (List.getElem_mem _)
    rw [loopO_next (s' := (s + (l[i].length : Int), ((i + 1 : Nat) : Int)))]
    · exact ih l (i + 1) _ (by omega) (by omega) hx hl (by omega)
    · unfold cG
      simp only
      rw [if_pos (by simp; omega), getO_at rfl hlt, Option.bind_some, w64 (by omega) (by omega), if_neg (by simp; omega), w64 (n := (i : Int) + 1) (by omega) (by omega)]
      simp
theorem concat_l18 : ∀ (k : Nat) (l : List (List Int)) (i : Nat) (s : List Int), i + k = l.length → (∀ x ∈ l, x.length ≤ 1000) → l.length ≤ 100 → s.length ≤ 1000 * i →
    loopO (cy l) ((i : Int), s) = some (s ++ (l.drop i).flatten) := by
  intro k
  induction k with
  | zero =>
    intro l i s hi hx hl hs
    rw [List.drop_of_length_le (by omega)]
    simp only [List.flatten_nil, List.append_nil]
    refine loopO_stop ?_
    unfold cy
    simp only
    rw [if_neg (by simp; omega)]
  | succ k ih =>
    intro l i s hi hx hl hs
    have hlt : i < l.length := by omega
    have hx' := hx l[i] (List.getElem_mem _)
    rw [List.drop_eq_getElem_cons hlt, List.flatten_cons, ← List.append_assoc]
    rw [loopO_next (s' := (((i + 1 : Nat) : Int), s ++ l[i]))]
    · exact ih l (i + 1) _ (by omega) hx hl (by rw [List.length_append]; omega)
    · unfold cy
      simp only
      obtain ⟨r, h1, h2⟩ := Ok.app (l := s) (m := l[i]) (b := 8) (by omega)
      rw [if_pos (by simp; omega), getO_at rfl hlt, Option.bind_some, h1, Option.bind_some, h2, w64 (n := (i : Int) + 1) (by omega) (by omega)]
      simp
theorem concat_at {l : List (List Int)} (hx : ∀ x ∈ l, x.length ≤ 1000) (hl : l.length ≤ 100) : cK l = some l.flatten := by
  unfold cK
  obtain ⟨o, h1, h2, h3⟩ := concat_l8 l.length l 0 0 (by omega) (by omega) hx hl (by omega)
  have h4 := concat_l18 l.length l 0 [] (by omega) hx hl (by simp)
  simp only [Int.ofNat_zero, Int.natCast_zero, List.drop_zero, List.nil_append] at h1 h4
  rw [h1, Option.bind_some, grow_at h2 (by omega), Option.bind_some, h4, Option.bind_some]
theorem fk (s : aw) : ee s = some (cx s) := by
  unfold ee dv
  simp only [Option.bind_some]
  rw [concat_at (by simp) (by simp), Option.bind_some]
  simp [cx, eE]

theorem fr {l : List Int} {d : List Wd} (h : ∀ n ∈ l, big n) (hl : l.length ≤ 1000000) (hd : d.length ≤ 1000000) : ca l d = some (d ++ l.map itoa) := by
  have key : ∀ k i : Nat, i + k = l.length → ∀ acc : List Wd, acc.length ≤ 1000000 + i → loopO (cS l) ((i : Int), acc) = some (acc ++ (l.drop i).map itoa) := by
    intro k
    induction k with
    | zero =>
      intro i hi acc ha
      rw [List.drop_of_length_le (by omega)]
      simp only [List.map_nil, List.append_nil]
      refine loopO_stop ?_
      unfold cS
      simp only
      rw [if_neg (by simp; omega)]; rfl
    | succ k ih =>
      intro i hi acc ha
      have hlt : i < l.length := by omega
      have hb := h l[i] (List.getElem_mem _)
      obtain ⟨b0, b1⟩ := hb
      rw [List.drop_eq_getElem_cons hlt, List.map_cons, loopO_next (s' := (((i + 1 : Nat) : Int), acc ++ [itoa l[i]]))]
      · rw [ih (i + 1) (by omega) _ (by simp; omega)]; simp
      · unfold cS
        simp only
        obtain ⟨r, h1, h2⟩ := Ok.app (l := acc) (m := [itoa l[i]]) (b := 16) (by simp only [List.length_cons, List.length_nil]; omega)
        rw [if_pos (by simp; omega), getO_at rfl hlt, Option.bind_some, itoaO_at (by omega) (by omega), Option.bind_some, h1, Option.bind_some, h2, w64 (by omega) (by omega)]
        simp
  have := key l.length 0 (by omega) d (by omega)
  unfold ca
  rw [show ((0 : Nat) : Int) = 0 from rfl] at this
  rw [this]; simp
theorem writer_eq (l : List Int) : dy l = ca l [] := rfl
theorem writer_at {l : List Int} (h : ∀ n ∈ l, big n) (hl : l.length ≤ 1000000) : dy l = some (l.map itoa) := by
  rw [writer_eq, fr h hl (by simp)]; simp
theorem kv {p : Pick} {d : List Wd} (hp : dB p) (hd : d.length ≤ 900000) : dj p d = some (d ++ bc p) := by
  obtain ⟨hs, h1, h2, h3, h4, h5, h6, h7, h8⟩ := hp
  obtain ⟨-, f2, -⟩ := chk1_at hs
  unfold dj
  rw [f2, Option.bind_some]
  obtain ⟨r, g1, g2⟩ := Ok.app (l := d) (m := [fmt p.ah]) (b := 16) (by simp only [List.length_cons, List.length_nil]; omega)
  rw [g1, Option.bind_some, g2, fr (by
    intro n hn
    unfold big
    simp only [List.mem_cons, List.not_mem_nil, or_false] at hn
    omega) (by simp) (by simp; omega), Option.bind_some]
  simp [bc]
end Go.Dw.Ft


set_option maxRecDepth 100000
set_option maxHeartbeats 4000000
namespace Go.Dw.Ft
open Go.Dw Go.Lib

structure fD (b : Bul) : Prop where
  num0 : 0 ≤ b.aQ
  num1 : b.aQ < 1000
  kind0 : 1 ≤ b.bh
  kind1 : b.bh ≤ 3
  id0 : 0 ≤ b.fID
  id1 : b.fID ≤ b.aQ
  iss : b.fID = b.aQ ↔ b.bh = 1
  lev0 : 0 ≤ b.aW
  lev1 : b.aW ≤ 8
  at_ : dA b.fAt
  ev : EvOk b.ae
theorem loop_all {α ω : Type} {body : Int → Option (Step1 Int ω)} (l : List α) {u : ω} (h1 : ∀ (i : Nat) (_ : i < l.length), body i = some (.next ((i + 1 : Nat) : Int)))
    (h2 : body (l.length : Nat) = some (.stop u)) : loopO body (0 : Int) = some u := by
  have : ∀ k i, i + k = l.length → loopO body (i : Int) = some u := by
    intro k
    induction k with
    | zero =>
      intro i hi
      obtain rfl : i = l.length := by omega
      exact loopO_stop h2
    | succ k ih =>
      intro i hi
      rw [loopO_next (h1 i (by omega)), ih (i + 1) (by omega)]
  exact this l.length 0 (by omega)
theorem ll {p : Pick} (hp : dB p) : bW p = some true := by
  obtain ⟨hs, h1, h2, h3, h4, h5, h6, h7, h8⟩ := hp
  unfold bW eS
  rw [(chk1_at hs).1, Option.bind_some, if_pos rfl, if_pos (by simp; omega), if_pos (by simp; omega), if_pos (by simp; omega), if_pos (by simp; omega), if_pos (by simp; omega)]
  have e1 : decide (p.au ≤ 1073741823) = true := decide_eq_true (by omega)
  have e2 : decide (p.av ≤ 1) = true := decide_eq_true (by omega)
  rw [e1, Option.bind_some, if_pos rfl, if_pos (by simp; omega), e2]
  rfl
theorem containsPick_at {l : List Pick} (h : ∀ p ∈ l, dB p) (hl : l.length ≤ 1000000) : bd l = some false := by
  unfold bd bt
  rw [loop_all l (u := .inl ())]
  · rfl
  · intro i hi
    unfold bf cA
    rw [if_pos (by simp; omega), getO_at rfl hi, Option.bind_some, ll (h _ (List.getElem_mem _)), w64 (by omega) (by omega)]
    simp
  · unfold bf
    rw [if_neg (by simp)]
theorem within_at {l : List Int} (h : ∀ n ∈ l, -1152921504606846976 ≤ n ∧ n ≤ 1152921504606846976) (hl : l.length ≤ 1000000) : cE l = some true := by
  unfold cE bJ bV
  rw [loop_all l (u := .inl ())]
  · rfl
  · intro i hi
    have hb := h l[i] (List.getElem_mem _)
    unfold bo cY
    rw [if_pos (by simp; omega), getO_at rfl hi, Option.bind_some, if_neg (by simp; omega), Option.bind_some, if_neg (by simp; omega), w64 (by omega) (by omega)]
    simp
  · unfold bo
    rw [if_neg (by simp)]
theorem gb {s : aw} (h : SolOk s) : ∀ n ∈ cx s, dA n := by
  obtain ⟨-, -, ⟨a1, a2, a3⟩, ⟨b1, b2, b3⟩, ⟨c1, c2, c3⟩, d1, d2, d3, d4, d5, d6⟩ := h
  intro n hn
  simp only [cx, eE, List.cons_append, List.nil_append, List.mem_cons, List.not_mem_nil, or_false] at hn
  rcases hn with rfl | rfl | rfl | rfl | rfl | rfl | rfl | rfl | rfl | rfl | rfl | rfl | rfl | rfl | rfl <;> assumption
theorem cH (s : aw) : (cx s).length = 15 := rfl
theorem valid_at {b : Bul} (h : fD b) : cC b = some true := by
  obtain ⟨h1, h2, h3, h4, h5, h6, h7, h8, h9, ⟨h10, h11⟩, h12⟩ := h
  have hk : (!((b.fID == b.aQ) == (b.bh == (1 : Int)))) = false := by
    by_cases e : b.fID = b.aQ
    · simp [e, h7.1 e]
    · have : b.bh ≠ 1 := fun e' => e (h7.2 e')
      rw [beq_eq_false_iff_ne.2 e, beq_eq_false_iff_ne.2 this]; rfl
  have hl := h12.sol.len
  unfold cC
  rw [if_neg (by simp; omega), if_neg (by simp; omega), if_neg (by simp; omega), if_neg (by simp; omega), if_neg (by simp; omega), if_neg (by simp; omega), if_neg (by rw [hk]; simp), if_neg (by simp; omega), if_neg (by simp; omega), if_neg (by simp; omega)]
  rw [ll h12.name, Option.bind_some, if_neg (by simp), containsPick_at h12.sol.picks (by omega), Option.bind_some, if_neg (by simp)]
  rw [within_at (by simp; omega) (by simp), Option.bind_some, if_pos rfl, fk, Option.bind_some, within_at (fun n hn => by
    have := gb h12.sol n hn
    unfold dA at this; omega) (by rw [cH]; omega)]
  rfl

def words (b : Bul) : List Wd := [b.aQ, b.bh, b.fID, b.fAt, b.aW].map itoa ++ (bc b.ae.ak ++ ([(b.ae.aa.aK.length : Int)].map itoa ++ (b.ae.aa.aK.flatMap bc ++ (cx b.ae.aa).map itoa)))
def text (b : Bul) : List UInt8 := Lib.join (words b) [32]
theorem e9 : ∀ (l : List Pick), (l.flatMap bc).length = 6 * l.length
  | [] => rfl
  | a :: l => by rw [List.flatMap_cons, List.length_append, e9 l]; simp [bc]; omega
theorem lf {p : Pick} (hp : dB p) : ∀ w ∈ bc p, (32 : UInt8) ∉ w ∧ w.length ≤ 100 := by
  obtain ⟨hs, h1, h2, h3, h4, h5, h6, h7, h8⟩ := hp
  have hc := (chk1_at hs).2.2.2
  have hi : ∀ n : Int, big n → (32 : UInt8) ∉ itoa n ∧ (itoa n).length ≤ 100 := fun n hn => ⟨itoa_no (.inl (by decide)), by have := itoa_len hn.1 hn.2; omega⟩
  intro w hw
  simp only [bc, List.mem_cons, List.not_mem_nil, or_false] at hw
  rcases hw with rfl | rfl | rfl | rfl | rfl | rfl
  · exact hc
  all_goals exact hi _ (by unfold big; omega)
theorem ks {b : Bul} (h : fD b) : ∀ w ∈ words b, (32 : UInt8) ∉ w ∧ w.length ≤ 100 := by
  obtain ⟨h1, h2, h3, h4, h5, h6, h7, h8, h9, ⟨h10, h11⟩, h12⟩ := h
  have hi : ∀ n : Int, big n → (32 : UInt8) ∉ itoa n ∧ (itoa n).length ≤ 100 := fun n hn => ⟨itoa_no (.inl (by decide)), by have := itoa_len hn.1 hn.2; omega⟩
  have hl := h12.sol.len
  intro w hw
  simp only [words, List.mem_append] at hw
  rcases hw with hw | hw | hw | hw | hw
  · simp only [List.map_cons, List.map_nil, List.mem_cons, List.not_mem_nil, or_false] at hw
    rcases hw with rfl | rfl | rfl | rfl | rfl <;> exact hi _ (by unfold big; omega)
  · exact lf h12.name w hw
  · simp only [List.map_cons, List.map_nil, List.mem_cons, List.not_mem_nil, or_false] at hw
    subst hw
    exact hi _ (by unfold big; omega)
  · obtain ⟨p, hp, hw⟩ := List.mem_flatMap.1 hw
    exact lf (h12.sol.picks p hp) w hw
  · obtain ⟨n, hn, rfl⟩ := List.mem_map.1 hw
    have := gb h12.sol n hn
    exact hi _ (by unfold dA at this; unfold big; omega)
theorem jm {b : Bul} (h : fD b) : (words b).length ≤ 500 := by
  have := h.ev.sol.len
  simp only [words, List.length_append, List.length_map, e9, cH, List.length_cons, List.length_nil, bc]
  omega
theorem encode_l13 {b : Bul} (hp : ∀ p ∈ b.ae.aa.aK, dB p) (hl : b.ae.aa.aK.length ≤ 1000) : ∀ (k i : Nat) (acc : List Wd), i + k = b.ae.aa.aK.length → acc.length ≤ 100 + 6 * i →
    loopO (cz b) ((i : Int), acc) = some (acc ++ (b.ae.aa.aK.drop i).flatMap bc) := by
  intro k
  induction k with
  | zero =>
    intro i acc hi ha
    rw [List.drop_of_length_le (by omega)]
    simp only [List.flatMap_nil, List.append_nil]
    refine loopO_stop ?_
    unfold cz
    simp only
    rw [if_neg (by simp; omega)]
  | succ k ih =>
    intro i acc hi ha
    have hlt : i < b.ae.aa.aK.length := by omega
    rw [List.drop_eq_getElem_cons hlt, List.flatMap_cons, ← List.append_assoc, loopO_next (s' := (((i + 1 : Nat) : Int), acc ++ bc b.ae.aa.aK[i]))]
    · exact ih (i + 1) _ (by omega) (by simp [bc]; omega)
    · unfold cz
      simp only
      rw [if_pos (by simp; omega), getO_at rfl hlt, Option.bind_some, kv (hp _ (List.getElem_mem _)) (by omega), Option.bind_some, w64 (by omega) (by omega)]
      simp
theorem encode_at {b : Bul} (h : fD b) : cf b = some (text b, 0) := by
  have hv := valid_at h
  have hw := ks h
  have hwl := jm h
  obtain ⟨h1, h2, h3, h4, h5, h6, h7, h8, h9, ⟨h10, h11⟩, h12⟩ := h
  have hl := h12.sol.len
  unfold cf
  rw [hv, Option.bind_some]
  simp only [Bool.not_true, Bool.false_eq_true, if_false]
  rw [writer_at (by
    intro n hn
    simp only [List.mem_cons, List.not_mem_nil, or_false] at hn
    unfold big
    omega) (by simp), Option.bind_some]
  rw [kv h12.name (by simp), Option.bind_some]
  rw [fr (by
    intro n hn
    simp only [List.mem_cons, List.not_mem_nil, or_false] at hn
    unfold big
    omega) (by simp) (by simp [bc]), Option.bind_some]
  have := encode_l13 h12.sol.picks (by omega) _ 0 ([b.aQ, b.bh, b.fID, b.fAt, b.aW].map itoa ++ bc b.ae.ak ++ [(b.ae.aa.aK.length : Int)].map itoa) (Nat.zero_add _) (by simp [bc])
  rw [show ((0 : Nat) : Int) = 0 from rfl] at this
  rw [this, Option.bind_some, fk, Option.bind_some, fr (fun n hn => by
    have := gb h12.sol n hn
    unfold dA at this; unfold big; omega) (by rw [cH]; omega) (by simp only [List.drop_zero, List.length_append, List.length_map, e9, List.length_cons, List.length_nil, bc]; omega), Option.bind_some]
  have e : [b.aQ, b.bh, b.fID, b.fAt, b.aW].map itoa ++ bc b.ae.ak ++ [(b.ae.aa.aK.length : Int)].map itoa ++ (List.drop 0 b.ae.aa.aK).flatMap bc ++ (cx b.ae.aa).map itoa = words b := by
    simp only [words, List.drop_zero, List.append_assoc]
  rw [e, joinO_ok (by simp [words]) (fun w hw' => by have := (hw w hw').2; omega) (by omega) (by simp), Option.bind_some]
  rfl

theorem numbersq_at (s : aw) (d : List Pick) : dQ s.ac.aA.fX s.ac.aA.fY s.ac.aA.fZ s.ac.aF s.ac.aO s.ac.aV s.ac.ap.aI.fX s.ac.ap.aI.fY s.ac.ap.aI.fZ
    s.ac.ap.az.fX s.ac.ap.az.fY s.ac.ap.az.fZ s.aq.aI s.aq.az s.aU d = some (cx s, d) := by
  unfold dQ dv
  simp only [Option.bind_some]
  rw [concat_at (by simp) (by simp), Option.bind_some]
  simp [cx, eE]
theorem containsq_eq (d : List Pick) : bQ d = (bd d).map (fun v => (v, d)) := by
  unfold bQ bd cb bt
  rw [loopO_map (b := bf d) (b' := bZ d) (Sum.map id (fun i => (i, d))) (fun s => by
    unfold bf bZ
    rw [inO_getO]
    split
    · cases getO d s with
      | none => rfl
      | some x =>
        simp only [Option.bind_some]
        cases cA x with
        | none => rfl
        | some v => cases v <;> rfl
    · rfl)]
  cases loopO (bf d) (0 : Int) with
  | none => rfl
  | some o => cases o <;> rfl
theorem lb {α β : Type} (c : Prop) [Decidable c] (f : α → β) (x y : Option α) : (if c then x else y).map f = if c then x.map f else y.map f := by split <;> rfl
theorem Validq_eq (b : Bul) : fu b.aQ b.bh b.fID b.fAt b.aW b.ae.ak.ah.aC b.ae.ak.ah.aE b.ae.ak.ah.ac b.ae.ak.ah.aD b.ae.ak.aF b.ae.ak.aJ b.ae.ak.aN b.ae.ak.au b.ae.ak.av
    b.ae.aa.ac.aA.fX b.ae.aa.ac.aA.fY b.ae.aa.ac.aA.fZ b.ae.aa.ac.aF b.ae.aa.ac.aO b.ae.aa.ac.aV b.ae.aa.ac.ap.aI.fX b.ae.aa.ac.ap.aI.fY b.ae.aa.ac.ap.aI.fZ
    b.ae.aa.ac.ap.az.fX b.ae.aa.ac.ap.az.fY b.ae.aa.ac.ap.az.fZ b.ae.aa.aq.aI b.ae.aa.aq.az b.ae.aa.aU b.ae.aa.aK = (cC b).map (fun v => (v, b.ae.aa.aK)) := by
  unfold fu cC
  simp only [lb, Option.map_some, Option.map_bind, Function.comp_def, containsq_eq, numbersq_at, fk, Option.bind_some, Option.bind_map]
theorem Encodeq_l15_eq (b : Bul) (v : Bool) : dW (v, b.ae.aa.aK) = cz b := by
  funext ⟨s6, s7⟩
  unfold dW cz
  simp only [inO_getO]
theorem Encodeq_eq (b : Bul) : eQ b.aQ b.bh b.fID b.fAt b.aW b.ae.ak.ah.aC b.ae.ak.ah.aE b.ae.ak.ah.ac b.ae.ak.ah.aD b.ae.ak.aF b.ae.ak.aJ b.ae.ak.aN b.ae.ak.au b.ae.ak.av
    b.ae.aa.ac.aA.fX b.ae.aa.ac.aA.fY b.ae.aa.ac.aA.fZ b.ae.aa.ac.aF b.ae.aa.ac.aO b.ae.aa.ac.aV b.ae.aa.ac.ap.aI.fX b.ae.aa.ac.ap.aI.fY b.ae.aa.ac.ap.aI.fZ
    b.ae.aa.ac.ap.az.fX b.ae.aa.ac.ap.az.fY b.ae.aa.ac.ap.az.fZ b.ae.aa.aq.aI b.ae.aa.aq.az b.ae.aa.aU b.ae.aa.aK = (cf b).map (fun r => (r.1, r.2, b.ae.aa.aK)) := by
  unfold eQ cf
  rw [Validq_eq]
  cases cC b with
  | none => rfl
  | some v =>
    simp only [Option.map_some, Option.bind_some]
    simp only [lb, Option.map_some, Option.map_bind, Function.comp_def, Encodeq_l15_eq, numbersq_at, fk, Option.bind_some]

theorem iY {p : aj} (h : PosOk p) (ws : List Wd) (hl : ws.length ≤ 1000000) : cj ⟨itoa p.fX :: itoa p.fY :: itoa p.fZ :: ws, false⟩ = some (p, ⟨ws, false⟩) := by
  obtain ⟨⟨a1, a2⟩, ⟨b1, b2⟩, ⟨c1, c2⟩⟩ := h
  unfold cj
  rw [bU (by unfold big; omega) _ (by simp only [List.length_cons]; omega), Option.bind_some]
  rw [bU (by unfold big; omega) _ (by simp only [List.length_cons]; omega), Option.bind_some]
  rw [bU (by unfold big; omega) _ (by omega), Option.bind_some]
theorem text_len {b : Bul} (h : fD b) : (text b).length ≤ 100000 := by
  have h1 := join_len (s := [32]) (fun w hw => (ks h w hw).2)
  have h2 := jm h
  have h3 : (words b).length * (100 + [(32 : UInt8)].length) ≤ 500 * 101 := Nat.mul_le_mul h2 (by simp)
  unfold text; omega
theorem jb {n : Int} (h : dA n) : big n := by unfold dA at h; unfold big; omega
theorem decode_at {b : Bul} (h : fD b) : cw (text b) = some (b, 0) := by
  have he := encode_at h
  have hw := ks h
  have hwl := jm h
  have htl := text_len h
  have hsp : splitL 32 (text b) = words b := split_join (by simp [words]) (fun w hw' => (hw w hw').1)
  obtain ⟨h1, h2, h3, h4, h5, h6, h7, h8, h9, ⟨h10, h11⟩, h12⟩ := h
  have hl := h12.sol.len
  obtain ⟨-, -, p1, p2, p3, d1, d2, d3, d4, d5, d6⟩ := h12.sol
  unfold cw
  rw [splitO_ok (by omega), Option.bind_some, hsp]
  unfold words
  simp only [List.map_cons, List.map_nil, List.cons_append, List.nil_append]
  have hA : (bc b.ae.ak ++ itoa (b.ae.aa.aK.length : Int) :: (b.ae.aa.aK.flatMap bc ++ (cx b.ae.aa).map itoa)).length ≤ 1000 := by
    simp only [List.length_append, List.length_cons, List.length_map, e9, cH, bc, List.length_nil]; omega
  rw [bU (by unfold big; omega) _ (by simp only [List.length_cons]; omega), Option.bind_some]
  rw [bU (by unfold big; omega) _ (by simp only [List.length_cons]; omega), Option.bind_some]
  rw [bU (by unfold big; omega) _ (by simp only [List.length_cons]; omega), Option.bind_some]
  rw [bU (by unfold big; omega) _ (by simp only [List.length_cons]; omega), Option.bind_some]
  rw [bU (by unfold big; omega) _ (by omega), Option.bind_some]
  rw [pick_read h12.name _ (by simp only [List.length_append, List.length_cons] at hA ⊢; omega), Option.bind_some]
  rw [bU (by unfold big; omega) _ (by simp only [List.length_append, List.length_cons] at hA ⊢; omega), Option.bind_some]
  simp only
  rw [picks_read _ _ _ h12.sol.picks (by omega) (by rw [List.length_map, cH]; omega) (by simp; omega), Option.bind_some]
  simp only [cx, eE, List.cons_append, List.nil_append, List.map_cons, List.map_nil]
  rw [iY p1 _ (by simp), Option.bind_some]
  rw [bU (jb d1) _ (by simp), Option.bind_some]
  rw [bU (jb d2) _ (by simp), Option.bind_some]
  rw [bU (jb d3) _ (by simp), Option.bind_some]
  rw [iY p2 _ (by simp), Option.bind_some]
  rw [iY p3 _ (by simp), Option.bind_some]
  rw [bU (jb d4) _ (by simp), Option.bind_some]
  rw [bU (jb d5) _ (by simp), Option.bind_some]
  rw [bU (jb d6) _ (by simp), Option.bind_some]
  simp only [Bool.false_eq_true, if_false, List.length_nil]
  rw [if_neg (by simp), Encodeq_eq, he]
  simp
theorem samePicks_self {l : List Pick} (hl : l.length ≤ 1000000) : cB l l = some true := by
  unfold cB
  rw [if_neg (by simp), loop_all l (u := .inl ())]
  · rfl
  · intro i hi
    unfold da
    rw [if_pos (by simp; omega), getO_at rfl hi, Option.bind_some, Option.bind_some, if_neg (by simp), w64 (by omega) (by omega)]
    simp
  · unfold da
    rw [if_neg (by simp)]
theorem same_self {b : Bul} (hl : b.ae.aa.aK.length ≤ 1000000) : ch b b = some true := by
  unfold ch eo iu
  simp only [beq_self_eq_true, Bool.and_self, if_true, samePicks_self hl, Option.bind_some]
end Go.Dw.Ft


set_option maxRecDepth 100000
set_option maxHeartbeats 4000000
namespace Go.Dw.Ft
open Go.Dw Go.Lib

def i6 (w : Wd) : Prop := w.length ≤ 20000
structure RdOk (r : Rd) : Prop where
  len : r.bg.length ≤ 20001
  wds : ∀ w ∈ r.bg, i6 w
structure After (r r' : Rd) : Prop where
  ok : RdOk r'
  le : r'.bg.length ≤ r.bg.length
  lt : r'.cX = false → r'.bg.length < r.bg.length
theorem After.trans {a b c : Rd} (h : After a b) (h' : After b c) : After a c := ⟨h'.ok, Nat.le_trans h'.le h.le, fun e => Nat.lt_of_lt_of_le (h'.lt e) h.le⟩
theorem After.bad {r : Rd} {ws : List Wd} {b : Bool} (h : After r ⟨ws, b⟩) : After r ⟨ws, true⟩ := ⟨⟨h.ok.len, h.ok.wds⟩, h.le, fun e => by cases e⟩
theorem word_ok (r : Rd) (h : RdOk r) : Ok (dK r) (fun x => i6 x.1 ∧ After r x.2) := by
  obtain ⟨hl, hw⟩ := h
  unfold dK
  refine Ok.iteE (fun _ => ?_) (fun hne => ?_)
  · exact Ok.ret ⟨by unfold i6; simp, ⟨hl, hw⟩, Nat.le_refl _, fun e => by cases e⟩
  · refine Ok.bind (Ok.get (by omega) (by omega)) (fun x hx => ?_)
    refine Ok.bind (Ok.cut (by omega) (by omega) (by omega)) (fun y hy => ?_)
    subst hy
    have hlen : ((r.bg.drop (1 : Int).toNat).take ((r.bg.length : Int).toNat - (1 : Int).toNat)).length = r.bg.length - 1 := by
      simp only [List.length_take, List.length_drop]; omega
    refine Ok.ret ⟨hw _ hx.1, ⟨by simp only [hlen]; omega, fun w h => hw w (List.mem_of_mem_drop (List.mem_of_mem_take h))⟩, by simp only [hlen]; omega, fun _ => by simp only [hlen]; omega⟩
theorem cd (r : Rd) (h : RdOk r) : Ok (aY r) (fun x => big x.1 ∧ After r x.2) := by
  unfold aY
  refine Ok.bind (word_ok r h) (fun x hx => ?_)
  obtain ⟨hs, ha⟩ := hx
  refine Ok.bind (atoiO_ok (by unfold i6 at hs; omega)) (fun y hy => ?_)
  refine Ok.iteB (fun _ => Ok.ret ⟨hy, ha.bad⟩) (fun hb => ?_)
  refine Ok.iteN (fun _ => Ok.ret ⟨hy, ha.bad⟩) (fun _ => ?_)
  rw [itoaO_at hy.1 hy.2]
  refine Ok.bind (P := fun _ => True) (Ok.ret trivial) (fun z _ => Ok.ret ⟨hy, ⟨ha.ok.len, ha.ok.wds⟩, ha.le, fun _ => ha.lt hb⟩)
def k9 (s : Sid) : Prop := s.aC.length ≤ 20000 ∧ s.aE.length ≤ 20000 ∧ s.ac.length ≤ 20000 ∧ s.aD.length ≤ 20000
theorem plain_ok (n : Int) : Ok (dO n) (fun _ => True) := by
  unfold dO
  repeat' (first | refine Ok.iteD (fun _ => ?_) (fun _ => ?_) | exact Ok.ret trivial)
theorem code_ok (w : Wd) (hw : w.length ≤ 20000) (lo hi : Int) : Ok (di w lo hi) (fun _ => True) := by
  unfold di
  refine Ok.bind (P := fun _ => True) (Ok.upto (w.length : Int) (by omega) (fun _ => True) trivial (fun i h0 h1 _ => ?_)) (fun o _ => ?_)
  · unfold dx
    refine Ok.iteD (fun hlt => ?_) (fun _ => Ok.st trivial)
    refine Ok.bind (Ok.byte h0 hlt) (fun x _ => ?_)
    refine Ok.bind (plain_ok x) (fun y _ => ?_)
    refine Ok.iteN (fun _ => Ok.st trivial) (fun _ => ?_)
    rw [w64 (by omega) (by omega)]
    exact Ok.nx ⟨⟨by omega, by omega⟩, trivial⟩ (by omega)
  · cases o with
    | inl y => exact Ok.iteD (fun _ => Ok.ret trivial) (fun _ => Ok.ret trivial)
    | inr y => exact Ok.ret trivial
theorem sid_ok (s : Sid) (h : k9 s) : Ok (cO s) (fun _ => True) := by
  obtain ⟨h1, h2, h3, h4⟩ := h
  unfold cO
  refine Ok.bind (code_ok _ h1 _ _) (fun x _ => Ok.iteB (fun _ => ?_) (fun _ => Ok.ret trivial))
  refine Ok.bind (code_ok _ h2 _ _) (fun x _ => Ok.iteB (fun _ => ?_) (fun _ => Ok.ret trivial))
  refine Ok.bind (code_ok _ h3 _ _) (fun x _ => Ok.iteB (fun _ => ?_) (fun _ => Ok.ret trivial))
  refine Ok.iteNe (fun _ => ?_) (fun _ => Ok.ret trivial)
  exact Ok.bind (code_ok _ h4 _ _) (fun x _ => Ok.ret trivial)
theorem sid_zero : k9 ⟨[], [], [], []⟩ := ⟨by simp, by simp, by simp, by simp⟩
theorem parse_ok (w : Wd) (h : i6 w) : Ok (cN w) (fun r => k9 r.1) := by
  unfold i6 at h
  obtain ⟨h1, h2⟩ := splitL_len' 46 w
  unfold cN
  rw [splitO_ok (by omega), Option.bind_some]
  refine Ok.iteNe (fun _ => Ok.ret sid_zero) (fun h4 => ?_)
  refine Ok.bind (Ok.get (by omega) (by omega)) (fun x0 g0 => ?_)
  refine Ok.bind (Ok.get (by omega) (by omega)) (fun x1 g1 => ?_)
  refine Ok.bind (Ok.get (by omega) (by omega)) (fun x2 g2 => ?_)
  refine Ok.bind (Ok.get (by omega) (by omega)) (fun x3 g3 => ?_)
  have hs : k9 ⟨x0, x1, x2, x3⟩ := ⟨Nat.le_trans (h2 _ g0.1) h, Nat.le_trans (h2 _ g1.1) h, Nat.le_trans (h2 _ g2.1) h, Nat.le_trans (h2 _ g3.1) h⟩
  refine Ok.bind (sid_ok _ hs) (fun y _ => ?_)
  exact Ok.iteN (fun _ => Ok.ret sid_zero) (fun _ => Ok.ret hs)
structure gj (p : Pick) : Prop where
  sid : k9 p.ah
  nums : ∀ n ∈ [p.aF, p.aJ, p.aN, p.au, p.av], big n
theorem pickr_ok (r : Rd) (h : RdOk r) : Ok (dH r) (fun x => gj x.1 ∧ After r x.2) := by
  have five : ∀ (q : Rd) (s : Sid), k9 s → After r q → Ok ((aY q).bind fun x4 => (aY x4.2).bind fun x5 => (aY x5.2).bind fun x6 => (aY x6.2).bind fun x7 => (aY x7.2).bind fun x8 => some ((ag.mk s x4.1 x5.1 x6.1 x7.1 x8.1), x8.2)) (fun x => gj x.1 ∧ After r x.2) := by
    intro q s hs hq
    refine Ok.bind (cd q hq.ok) (fun x1 h1 => ?_)
    refine Ok.bind (cd _ h1.2.ok) (fun x2 h2 => ?_)
    refine Ok.bind (cd _ h2.2.ok) (fun x3 h3 => ?_)
    refine Ok.bind (cd _ h3.2.ok) (fun x4 h4 => ?_)
    refine Ok.bind (cd _ h4.2.ok) (fun x5 h5 => ?_)
    refine Ok.ret ⟨⟨hs, ?_⟩, ((((hq.trans h1.2).trans h2.2).trans h3.2).trans h4.2).trans h5.2⟩
    intro n hn
    simp only [List.mem_cons, List.not_mem_nil, or_false] at hn
    rcases hn with rfl | rfl | rfl | rfl | rfl
    · exact h1.1
    · exact h2.1
    · exact h3.1
    · exact h4.1
    · exact h5.1
  unfold dH
  refine Ok.bind (word_ok r h) (fun x hx => ?_)
  refine Ok.bind (parse_ok _ hx.1) (fun y hy => ?_)
  refine Ok.iteB (fun _ => ?_) (fun hb => ?_)
  · exact five _ _ hy hx.2.bad
  · exact five _ _ hy ⟨⟨hx.2.ok.len, hx.2.ok.wds⟩, hx.2.le, fun _ => hx.2.lt hb⟩
def PosSm (p : aj) : Prop := ∀ n ∈ eE p, big n
theorem pos_ok (r : Rd) (h : RdOk r) : Ok (cj r) (fun x => PosSm x.1 ∧ After r x.2) := by
  unfold cj
  refine Ok.bind (cd r h) (fun x1 h1 => ?_)
  refine Ok.bind (cd _ h1.2.ok) (fun x2 h2 => ?_)
  refine Ok.bind (cd _ h2.2.ok) (fun x3 h3 => ?_)
  refine Ok.ret ⟨fun n hn => ?_, (h1.2.trans h2.2).trans h3.2⟩
  simp only [eE, List.mem_cons, List.not_mem_nil, or_false] at hn
  rcases hn with rfl | rfl | rfl
  · exact h1.1
  · exact h2.1
  · exact h3.1
theorem loop_ok (n : Int) (hn : big n) (r : Rd) (h : RdOk r) : Ok (loopO cU (n, r.bg, r.cX, [])) (fun o => RdOk ⟨o.1, o.2.1⟩ ∧ (∀ p ∈ o.2.2, gj p) ∧ o.2.2.length ≤ 20002) := by
  refine Ok.loop (fun s => big s.1 ∧ RdOk ⟨s.2.1, s.2.2.1⟩ ∧ (∀ p ∈ s.2.2.2, gj p) ∧ s.2.2.2.length + s.2.1.length ≤ 20001 + (if s.2.2.1 = true then 1 else 0)) (fun s => s.1.toNat) ?_ ⟨hn, h, by simp, ?_⟩
  · rintro ⟨k, ws, b, ps⟩ ⟨i0, i1, i2, i3⟩
    unfold big at i0
    simp only at i0 i1 i2 i3
    have hfin : RdOk ⟨ws, b⟩ ∧ (∀ p ∈ ps, gj p) ∧ ps.length ≤ 20002 := ⟨i1, i2, by split at i3 <;> omega⟩
    unfold cU
    refine Ok.iteD (fun hk => ?_) (fun _ => Ok.st hfin)
    refine Ok.iteN (fun hb => ?_) (fun _ => Ok.st hfin)
    subst hb
    simp only [Bool.false_eq_true, if_false, Nat.add_zero] at i3
    refine Ok.bind (pickr_ok _ i1) (fun x hx => ?_)
    refine Ok.bind (Ok.app (by simp only [List.length_cons, List.length_nil]; omega)) (fun y hy => ?_)
    subst hy
    rw [w64 (by omega) (by omega)]
    refine Ok.nx ⟨by unfold big; simp only; omega, hx.2.ok, ?_, ?_⟩ (by simp only; omega)
    · intro p hp
      rcases List.mem_append.1 hp with hp | hp
      · exact i2 p hp
      · obtain rfl := List.mem_singleton.1 hp
        exact hx.1
    · have h1 := hx.2.le
      have h2 := hx.2.lt
      simp only [List.length_append, List.length_cons, List.length_nil] at h1 h2 ⊢
      split
      · omega
      · rename_i hf
        have := h2 (by simpa using hf)
        omega
  · have := h.len
    simp only [List.length_nil]; omega

structure BulSm (b : Bul) : Prop where
  nums : ∀ n ∈ [b.aQ, b.bh, b.fID, b.fAt, b.aW], big n
  name : gj b.ae.ak
  picks : ∀ p ∈ b.ae.aa.aK, gj p
  len : b.ae.aa.aK.length ≤ 20002
  sol : ∀ n ∈ cx b.ae.aa, big n
theorem lm (p : Pick) (h : gj p) : Ok (bW p) (fun _ => True) := by
  have hin : ∀ a b c : Int, Ok (eS a b c) (fun _ => True) := fun a b c => by
    unfold eS
    exact Ok.iteD (fun _ => Ok.ret trivial) (fun _ => Ok.ret trivial)
  unfold bW
  refine Ok.bind (sid_ok _ h.sid) (fun x _ => Ok.iteB (fun _ => ?_) (fun _ => Ok.ret trivial))
  refine Ok.iteD (fun _ => ?_) (fun _ => Ok.ret trivial)
  refine Ok.iteD (fun _ => ?_) (fun _ => Ok.ret trivial)
  refine Ok.iteD (fun _ => ?_) (fun _ => Ok.ret trivial)
  refine Ok.iteD (fun _ => ?_) (fun _ => Ok.ret trivial)
  refine Ok.bind (hin _ _ _) (fun x _ => Ok.iteB (fun _ => ?_) (fun _ => Ok.ret trivial))
  exact Ok.bind (hin _ _ _) (fun x _ => Ok.ret trivial)
theorem contains_ok (l : List Pick) (h : ∀ p ∈ l, gj p) (hl : l.length ≤ 1000000) : Ok (bd l) (fun _ => True) := by
  unfold bd bt
  refine Ok.bind (P := fun _ => True) (Ok.bind (P := fun _ => True) (Ok.upto (l.length : Int) (by omega) (fun _ => True) trivial (fun i h0 h1 _ => ?_)) (fun o _ => ?_)) (fun x _ => Ok.ret trivial)
  · unfold bf cA
    refine Ok.iteD (fun hlt => ?_) (fun _ => Ok.st trivial)
    refine Ok.bind (Ok.get h0 hlt) (fun x hx => ?_)
    refine Ok.bind (P := fun _ => True) (Ok.bind (lm x (h x hx.1)) (fun _ _ => Ok.ret trivial)) (fun y _ => ?_)
    refine Ok.iteB (fun _ => Ok.st trivial) (fun _ => ?_)
    rw [w64 (by omega) (by omega)]
    exact Ok.nx ⟨⟨by omega, by omega⟩, trivial⟩ (by omega)
  · cases o <;> exact Ok.ret trivial
theorem within_ok (l : List Int) (hl : l.length ≤ 1000000) : Ok (cE l) (fun _ => True) := by
  unfold cE bJ bV
  refine Ok.bind (P := fun _ => True) (Ok.bind (P := fun _ => True) (Ok.bind (P := fun _ => True) (Ok.upto (l.length : Int) (by omega) (fun _ => True) trivial (fun i h0 h1 _ => ?_)) (fun o _ => ?_)) (fun x _ => Ok.ret trivial)) (fun x _ => Ok.ret trivial)
  · unfold bo cY
    refine Ok.iteD (fun hlt => ?_) (fun _ => Ok.st trivial)
    refine Ok.bind (Ok.get h0 hlt) (fun x hx => ?_)
    refine Ok.bind (P := fun _ => True) (Ok.iteD (fun _ => Ok.ret trivial) (fun _ => Ok.ret trivial)) (fun y _ => ?_)
    refine Ok.iteB (fun _ => Ok.st trivial) (fun _ => ?_)
    rw [w64 (by omega) (by omega)]
    exact Ok.nx ⟨⟨by omega, by omega⟩, trivial⟩ (by omega)
  · cases o <;> exact Ok.ret trivial
theorem valid_ok (b : Bul) (h : BulSm b) : Ok (cC b) (fun _ => True) := by
  unfold cC
  refine Ok.iteD (fun _ => Ok.ret trivial) (fun _ => ?_)
  refine Ok.iteD (fun _ => Ok.ret trivial) (fun _ => ?_)
  refine Ok.iteD (fun _ => Ok.ret trivial) (fun _ => ?_)
  refine Ok.iteD (fun _ => Ok.ret trivial) (fun _ => ?_)
  refine Ok.iteD (fun _ => Ok.ret trivial) (fun _ => ?_)
  refine Ok.iteD (fun _ => Ok.ret trivial) (fun _ => ?_)
  refine Ok.iteN (fun _ => Ok.ret trivial) (fun _ => ?_)
  refine Ok.iteD (fun _ => Ok.ret trivial) (fun _ => ?_)
  refine Ok.iteD (fun _ => Ok.ret trivial) (fun _ => ?_)
  refine Ok.iteD (fun _ => Ok.ret trivial) (fun _ => ?_)
  refine Ok.bind (lm _ h.name) (fun x _ => Ok.iteN (fun _ => Ok.ret trivial) (fun _ => ?_))
  refine Ok.bind (contains_ok _ h.picks (by have := h.len; omega)) (fun x _ => Ok.iteB (fun _ => Ok.ret trivial) (fun _ => ?_))
  refine Ok.bind (within_ok _ (by simp)) (fun x _ => Ok.iteB (fun _ => ?_) (fun _ => Ok.ret trivial))
  rw [fk, Option.bind_some]
  exact Ok.bind (within_ok _ (by rw [cH]; omega)) (fun x _ => Ok.ret trivial)
theorem format_ok (s : Sid) (h : k9 s) : Ok (df s) (fun r => r.1.length ≤ 100000) := by
  unfold df eV
  refine Ok.bind (sid_ok s h) (fun x _ => Ok.iteN (fun _ => Ok.ret (by simp)) (fun _ => ?_))
  obtain ⟨h1, h2, h3, h4⟩ := h
  have hw : ∀ w ∈ [s.aC, s.aE, s.ac, s.aD], w.length ≤ 20000 := by
    intro w hw
    simp only [List.mem_cons, List.not_mem_nil, or_false] at hw
    rcases hw with rfl | rfl | rfl | rfl <;> assumption
  rw [Option.bind_some, joinO_ok (by simp) (fun w h => by have := hw w h; omega) (by simp) (by simp), Option.bind_some]
  have := join_len (s := [46]) hw
  simp only [List.length_cons, List.length_nil] at this
  exact Ok.ret (by simp only; omega)
def WdsOk (d : List Wd) (n : Nat) : Prop := d.length = n ∧ ∀ w ∈ d, w.length ≤ 100000
theorem lp {l : List Int} (h : ∀ n ∈ l, big n) : ∀ w ∈ l.map itoa, w.length ≤ 100000 := by
  intro w hw
  obtain ⟨n, hn, rfl⟩ := List.mem_map.1 hw
  have := itoa_len (h n hn).1 (h n hn).2
  omega
theorem wds_app {d e : List Wd} {n m : Nat} (h : WdsOk d n) (he : e.length = m) (hw : ∀ w ∈ e, w.length ≤ 100000) : WdsOk (d ++ e) (n + m) := ⟨by rw [List.length_append, h.1, he], fun w hw' => (List.mem_append.1 hw').elim (h.2 w) (hw w)⟩
theorem writerp_ok (p : Pick) (h : gj p) (d : List Wd) (n : Nat) (hd : WdsOk d n) (hn : n ≤ 900000) : Ok (dj p d) (fun r => WdsOk r (n + 6)) := by
  have hl := hd.1
  unfold dj
  refine Ok.bind (format_ok _ h.sid) (fun x hx => ?_)
  refine Ok.bind (Ok.app (by simp only [List.length_cons, List.length_nil]; omega)) (fun y hy => ?_)
  subst hy
  rw [fr h.nums (by simp) (by simp; omega), Option.bind_some]
  refine Ok.ret ?_
  have h1 : WdsOk (d ++ [x.1]) (n + 1) := wds_app hd rfl (by simpa using hx)
  have h2 := wds_app h1 (m := 5) (e := [p.aF, p.aJ, p.aN, p.au, p.av].map itoa) (by simp) (lp h.nums)
  exact h2
theorem encode_ok (b : Bul) (h : BulSm b) : Ok (cf b) (fun _ => True) := by
  have hl := h.len
  unfold cf
  refine Ok.bind (valid_ok b h) (fun x _ => Ok.iteN (fun _ => Ok.ret trivial) (fun _ => ?_))
  rw [writer_at h.nums (by simp), Option.bind_some]
  have h0 : WdsOk ([b.aQ, b.bh, b.fID, b.fAt, b.aW].map itoa) 5 := ⟨by simp, lp h.nums⟩
  refine Ok.bind (writerp_ok _ h.name _ 5 h0 (by omega)) (fun y hy => ?_)
  have hlen : ∀ n ∈ [(b.ae.aa.aK.length : Int)], big n := by
    intro n hn
    obtain rfl := List.mem_singleton.1 hn
    unfold big; omega
  rw [fr hlen (by simp) (by have := hy.1; omega), Option.bind_some]
  have h1 := wds_app hy (m := 1) (e := [(b.ae.aa.aK.length : Int)].map itoa) (by simp) (lp hlen)
  refine Ok.bind (P := fun o => WdsOk o (12 + 6 * b.ae.aa.aK.length)) (Ok.loop (fun s => (0 ≤ s.1 ∧ s.1 ≤ b.ae.aa.aK.length) ∧ WdsOk s.2 (12 + 6 * s.1.toNat)) (fun s => ((b.ae.aa.aK.length : Int) - s.1).toNat) ?_ ⟨by simp only; omega, h1⟩) (fun o ho => ?_)
  · rintro ⟨i, d⟩ ⟨⟨i0, i1⟩, i2⟩
    simp only at i0 i1 i2
    unfold cz
    refine Ok.iteD (fun hlt => ?_) (fun hge => ?_)
    · refine Ok.bind (Ok.get i0 hlt) (fun p hp => ?_)
      refine Ok.bind (writerp_ok p (h.picks p hp.1) d _ i2 (by omega)) (fun z hz => ?_)
      rw [w64 (by omega) (by omega)]
      refine Ok.nx ⟨by simp only; omega, ?_⟩ (by simp only; omega)
      have e : 12 + 6 * i.toNat + 6 = 12 + 6 * (i + 1).toNat := by omega
      rw [e] at hz
      exact hz
    · have e : i.toNat = b.ae.aa.aK.length := by omega
      rw [e] at i2
      exact Ok.st i2
  · rw [fk, Option.bind_some, fr h.sol (by rw [cH]; omega) (by have := ho.1; omega), Option.bind_some]
    have h2 := wds_app ho (m := 15) (e := (cx b.ae.aa).map itoa) (by rw [List.length_map, cH]) (lp h.sol)
    have hne : o ++ (cx b.ae.aa).map itoa ≠ [] := by
      intro e
      have := h2.1
      rw [e] at this
      simp at this
    rw [joinO_ok hne (fun w hw => by have := h2.2 w hw; omega) (by have := h2.1; omega) (by simp), Option.bind_some]
    exact Ok.ret trivial

def zeroB : Bul := ai.mk 0 0 0 0 0 (ar.mk (ag.mk (am.mk [] [] [] []) 0 0 0 0 0) (aw.mk [] (aB.mk (aj.mk 0 0 0) 0 0 0 (aP.mk (aj.mk 0 0 0) (aj.mk 0 0 0))) (aG.mk 0 0) 0))
theorem decode_ok (t : List UInt8) (ht : t.length ≤ 20000) : Ok (cw t) (fun r => (r.2 = 0 ∧ BulSm r.1 ∧ cf r.1 = some (t, 0)) ∨ r = (zeroB, 3)) := by
  obtain ⟨s1, s2⟩ := splitL_len' 32 t
  unfold cw
  rw [splitO_ok (by omega), Option.bind_some]
  have hr : RdOk ⟨splitL 32 t, false⟩ := ⟨by simp only; omega, fun w hw => Nat.le_trans (s2 w hw) ht⟩
  refine Ok.bind (cd _ hr) (fun x2 h2 => ?_)
  refine Ok.bind (cd _ h2.2.ok) (fun x3 h3 => ?_)
  refine Ok.bind (cd _ h3.2.ok) (fun x4 h4 => ?_)
  refine Ok.bind (cd _ h4.2.ok) (fun x5 h5 => ?_)
  refine Ok.bind (cd _ h5.2.ok) (fun x6 h6 => ?_)
  refine Ok.bind (pickr_ok _ h6.2.ok) (fun x7 h7 => ?_)
  refine Ok.bind (cd _ h7.2.ok) (fun x8 h8 => ?_)
  refine Ok.bind (loop_ok _ h8.1 _ h8.2.ok) (fun o ho => ?_)
  refine Ok.bind (pos_ok _ ho.1) (fun x23 h23 => ?_)
  refine Ok.bind (cd _ h23.2.ok) (fun x24 h24 => ?_)
  refine Ok.bind (cd _ h24.2.ok) (fun x25 h25 => ?_)
  refine Ok.bind (cd _ h25.2.ok) (fun x26 h26 => ?_)
  refine Ok.bind (pos_ok _ h26.2.ok) (fun x27 h27 => ?_)
  refine Ok.bind (pos_ok _ h27.2.ok) (fun x28 h28 => ?_)
  refine Ok.bind (cd _ h28.2.ok) (fun x29 h29 => ?_)
  refine Ok.bind (cd _ h29.2.ok) (fun x30 h30 => ?_)
  refine Ok.bind (cd _ h30.2.ok) (fun x31 h31 => ?_)
  refine Ok.iteB (fun _ => Ok.ret (.inr rfl)) (fun _ => ?_)
  refine Ok.iteD (fun _ => Ok.ret (.inr rfl)) (fun _ => ?_)
  have hb : BulSm ⟨x2.1, x3.1, x4.1, x5.1, x6.1, ⟨x7.1, ⟨o.2.2, ⟨x23.1, x24.1, x25.1, x26.1, ⟨x27.1, x28.1⟩⟩, ⟨x29.1, x30.1⟩, x31.1⟩⟩⟩ := by
    refine ⟨?_, h7.1, ho.2.1, ho.2.2, ?_⟩
    · intro n hn
      simp only [List.mem_cons, List.not_mem_nil, or_false] at hn
      rcases hn with rfl | rfl | rfl | rfl | rfl
      · exact h2.1
      · exact h3.1
      · exact h4.1
      · exact h5.1
      · exact h6.1
    · intro n hn
      simp only [cx] at hn
      rcases List.mem_append.1 hn with hn | hn
      · exact h23.1 n hn
      rcases List.mem_append.1 hn with hn | hn
      · simp only [List.mem_cons, List.not_mem_nil, or_false] at hn
        rcases hn with rfl | rfl | rfl
        · exact h24.1
        · exact h25.1
        · exact h26.1
      rcases List.mem_append.1 hn with hn | hn
      · exact h27.1 n hn
      rcases List.mem_append.1 hn with hn | hn
      · exact h28.1 n hn
      simp only [List.mem_cons, List.not_mem_nil, or_false] at hn
      rcases hn with rfl | rfl | rfl
      · exact h29.1
      · exact h30.1
      · exact h31.1
  obtain ⟨⟨w, e⟩, he, -⟩ := encode_ok _ hb
  have hq := Encodeq_eq ⟨x2.1, x3.1, x4.1, x5.1, x6.1, ⟨x7.1, ⟨o.2.2, ⟨x23.1, x24.1, x25.1, x26.1, ⟨x27.1, x28.1⟩⟩, ⟨x29.1, x30.1⟩, x31.1⟩⟩⟩
  rw [he] at hq
  simp only [Option.map_some] at hq
  rw [hq, Option.bind_some]
  refine Ok.iteNe (fun _ => Ok.ret (.inr rfl)) (fun h0 => ?_)
  refine Ok.iteN (fun _ => Ok.ret (.inr rfl)) (fun h1 => Ok.ret (.inl ⟨rfl, hb, ?_⟩))
  simp only at h0 h1
  have h1' : w = t := by simpa using h1
  rw [← h1', ← h0]
  exact he
end Go.Dw.Ft


set_option maxRecDepth 100000
set_option maxHeartbeats 4000000
namespace Go.Dw.Ft
open Go.Dw Go.Lib

def hF (p : Pick) : Bool := So.dC p.ah && (decide (p.aJ ≥ 0) && (decide (p.aJ ≤ p.aF) && (decide (p.aF ≤ p.aN) && (decide (p.aN ≤ 18014398509481984) && ((decide (p.au ≥ 0) && decide (p.au ≤ 1073741823)) && (decide (p.av ≥ -1) && decide (p.av ≤ 1)))))))
theorem ff (c x : Bool) : (if c = true then some false else some x) = some (!c && x) := by cases c <;> rfl
theorem ft (c x : Bool) : (if c = true then some x else some false) = some (c && x) := by cases c <;> rfl
theorem fn (c x : Bool) : (if (!c) = true then some false else some x) = some (c && x) := by cases c <;> rfl
structure kO (b : Bul) : Prop where
  name : So.eX b.ae.ak.ah
  picks : ∀ p ∈ b.ae.aa.aK, So.eX p.ah
  len : b.ae.aa.aK.length ≤ 1000000
theorem vpick_eq {p : Pick} (h : So.eX p.ah) : bW p = some (hF p) := by
  unfold bW eS hF
  simp only [So.jU h, Option.bind_some, ft]
theorem rpick_eq {p : Pick} (h : So.eX p.ah) : ck p = some (hF p) := by
  unfold ck lh hF
  simp only [So.jy h, Option.bind_some, ft]
theorem loop_some {α ω : Type} {body : Int → Option (Step1 Int ω)} (l : List α) {p : α → Bool} {u : ω} {r : Int → ω} (h1 : ∀ (i : Nat) (hi : i < l.length), body i = if p l[i] = true then some (.next ((i + 1 : Nat) : Int)) else some (.stop (r i)))
    (h2 : body (l.length : Nat) = some (.stop u)) : ∃ o, loopO body (0 : Int) = some o ∧ (l.all p = true → o = u) ∧ (l.all p = false → ∃ i : Nat, o = r i) := by
  have : ∀ k i, i + k = l.length → ∃ o, loopO body (i : Int) = some o ∧ ((l.drop i).all p = true → o = u) ∧ ((l.drop i).all p = false → ∃ i : Nat, o = r i) := by
    intro k
    induction k with
    | zero =>
      intro i hi
      obtain rfl : i = l.length := by omega
      exact ⟨u, loopO_stop h2, fun _ => rfl, fun h => by simp at h⟩
    | succ k ih =>
      intro i hi
      have hlt : i < l.length := by omega
      rw [List.drop_eq_getElem_cons hlt, List.all_cons]
      by_cases hp : p l[i] = true
      · rw [loopO_next (by rw [h1 i hlt, if_pos hp]), hp, Bool.true_and]
        exact ih (i + 1) (by omega)
      · rw [loopO_stop (by rw [h1 i hlt, if_neg hp])]
        exact ⟨_, rfl, fun h => by simp [hp] at h, fun _ => ⟨i, rfl⟩⟩
  have := this l.length 0 (by omega)
  simpa using this
theorem contains_eq {l : List Pick} (h : ∀ p ∈ l, So.eX p.ah) (hl : l.length ≤ 1000000) : bd l = some (!l.all hF) := by
  unfold bd bt
  obtain ⟨o, h1, h2, h3⟩ := loop_some (body := bf l) l (p := hF) (u := .inl ()) (r := fun i => .inr i) (fun i hi => by
    unfold bf cA
    rw [if_pos (by simp; omega), getO_at rfl hi, Option.bind_some, vpick_eq (h _ (List.getElem_mem _)), w64 (by omega) (by omega)]
    cases hF l[i] <;> simp) (by unfold bf; rw [if_neg (by simp)])
  rw [h1]
  cases hb : l.all hF with
  | true => rw [h2 hb]; rfl
  | false =>
    obtain ⟨i, rfl⟩ := h3 hb
    simp
def inB (n : Int) : Bool := !decide (n < -1152921504606846976) && !decide (n > 1152921504606846976)
theorem within_eq {l : List Int} (hl : l.length ≤ 1000000) : cE l = some (l.all inB) := by
  unfold cE bJ bV
  obtain ⟨o, h1, h2, h3⟩ := loop_some (body := bo l) l (p := inB) (u := .inl ()) (r := fun i => .inr i) (fun i hi => by
    unfold bo cY inB
    rw [if_pos (by simp; omega), getO_at rfl hi, Option.bind_some, w64 (by omega) (by omega)]
    cases decide (l[i] < -1152921504606846976) <;> cases decide (l[i] > 1152921504606846976) <;> simp) (by unfold bo; rw [if_neg (by simp)])
  rw [h1]
  cases hb : l.all inB with
  | true => rw [h2 hb]; rfl
  | false =>
    obtain ⟨i, rfl⟩ := h3 hb
    simp
theorem rwithin_eq {l : List Int} (hl : l.length ≤ 1000000) : ei l = some (l.all inB) := by
  unfold ei
  rw [So.kA l (p := inB) (u := .inl ()) (r := .inr false) (fun i hi => by
    unfold gU inB
    rw [if_pos (by simp; omega), getO_at rfl hi, Option.bind_some, Option.bind_some, w64 (by omega) (by omega)]
    cases decide (l[i] < -1152921504606846976) <;> cases decide (l[i] > 1152921504606846976) <;> simp) (by unfold gU; rw [if_neg (by simp)])]
  cases l.all inB <;> rfl
def vB (b : Bul) : Bool := !decide (b.aQ < 0) && (!decide (b.aQ ≥ 1000) && (!decide (b.bh < 1) && (!decide (b.bh > 3) && (!decide (b.fID < 0) && (!decide (b.fID > b.aQ) && (((b.fID == b.aQ) == (b.bh == 1)) && (!decide (b.aW < 0) && (!decide (b.aW > 8) &&
  (!decide ((b.ae.aa.aK.length : Int) > 64) && (hF b.ae.ak && (b.ae.aa.aK.all hF && ([b.fAt].all inB && (cx b.ae.aa).all inB))))))))))))
theorem valid_eq {b : Bul} (h : kO b) : cC b = some (vB b) := by
  unfold cC vB
  simp only [vpick_eq h.name, contains_eq h.picks h.len, within_eq (l := [b.fAt]) (by simp), fk, within_eq (l := cx b.ae.aa) (by rw [cH]; omega), Option.bind_some, ff, ft, fn, Bool.not_not]
theorem rvalid_eq {b : Bul} (h : kO b) : dM b = some (vB b) := by
  have hl := h.len
  unfold dM vB
  rw [So.kA b.ae.aa.aK (p := hF) (u := .inl ()) (r := .inr false) (fun i hi => by
    unfold er
    rw [if_pos (by simp; omega), getO_at rfl hi, Option.bind_some, rpick_eq (h.picks _ (List.getElem_mem _)), Option.bind_some, w64 (by omega) (by omega)]
    cases hF b.ae.aa.aK[i] <;> simp) (by unfold er; rw [if_neg (by simp)])]
  have hw : [b.fAt, b.ae.aa.ac.aA.fX, b.ae.aa.ac.aA.fY, b.ae.aa.ac.aA.fZ, b.ae.aa.ac.aF, b.ae.aa.ac.aO, b.ae.aa.ac.aV, b.ae.aa.ac.ap.aI.fX, b.ae.aa.ac.ap.aI.fY, b.ae.aa.ac.ap.aI.fZ, b.ae.aa.ac.ap.az.fX, b.ae.aa.ac.ap.az.fY, b.ae.aa.ac.ap.az.fZ, b.ae.aa.aq.aI, b.ae.aa.aq.az, b.ae.aa.aU] = [b.fAt] ++ cx b.ae.aa := rfl
  have h64 : decide ((b.ae.aa.aK.length : Int) ≤ 64) = !decide ((b.ae.aa.aK.length : Int) > 64) := by
    rw [← decide_not]; exact decide_eq_decide.2 (by omega)
  rw [hw, rwithin_eq (by simp [cH]), rpick_eq h.name, List.all_append, h64]
  simp only [Option.bind_some, ff, ft, fn]
  cases h1 : b.ae.aa.aK.all hF <;> simp only [Bool.false_eq_true, if_true, if_false, Option.bind_some, ff, fn]
  · simp
  · cases hF b.ae.ak <;> cases decide ((b.ae.aa.aK.length : Int) > 64) <;> simp
theorem pick_ok_of {p : Pick} (h : hF p = true) : dB p := by
  unfold hF at h
  simp only [Bool.and_eq_true, decide_eq_true_eq] at h
  obtain ⟨h1, h2, h3, h4, h5, ⟨h6, h7⟩, h8, h9⟩ := h
  exact ⟨h1, h2, h3, h4, h5, h6, h7, h8, h9⟩
theorem inB_near {n : Int} (h : inB n = true) : dA n := by
  unfold inB at h
  simp only [Bool.and_eq_true, Bool.not_eq_true', decide_eq_false_iff_not] at h
  unfold dA
  omega
theorem ky {b : Bul} (h : vB b = true) : fD b := by
  unfold vB at h
  simp only [Bool.and_eq_true, Bool.not_eq_true', decide_eq_false_iff_not, List.all_eq_true, beq_iff_eq] at h
  obtain ⟨h1, h2, h3, h4, h5, h6, h7, h8, h9, h10, h11, h12, h13, h14⟩ := h
  have hn : ∀ n ∈ cx b.ae.aa, dA n := fun n hn => inB_near (h14 n hn)
  have hi : b.fID = b.aQ ↔ b.bh = 1 := by
    by_cases e : b.fID = b.aQ
    · have : (b.fID == b.aQ) = true := by simpa using e
      rw [this] at h7
      exact ⟨fun _ => by simpa using h7.symm, fun _ => e⟩
    · have : (b.fID == b.aQ) = false := by simpa using e
      rw [this] at h7
      exact ⟨fun e' => (e e').elim, fun e' => by rw [e'] at h7; cases h7⟩
  have hm : ∀ n, n ∈ cx b.ae.aa → dA n := hn
  simp only [cx, eE, List.cons_append, List.nil_append, List.mem_cons, List.not_mem_nil, or_false] at hm
  refine ⟨by omega, by omega, by omega, by omega, by omega, by omega, hi, by omega, by omega, inB_near (h13 _ (by simp)), pick_ok_of h11, ⟨fun p hp => pick_ok_of (h12 p hp), by omega, ?_, ?_, ?_, ?_, ?_, ?_, ?_, ?_, ?_⟩⟩
  · exact ⟨hm _ (by simp), hm _ (by simp), hm _ (by simp)⟩
  · exact ⟨hm _ (by simp), hm _ (by simp), hm _ (by simp)⟩
  · exact ⟨hm _ (by simp), hm _ (by simp), hm _ (by simp)⟩
  · exact hm _ (by simp)
  · exact hm _ (by simp)
  · exact hm _ (by simp)
  · exact hm _ (by simp)
  · exact hm _ (by simp)
  · exact hm _ (by simp)
theorem bul_fits {b : Bul} (h : fD b) : kO b := ⟨So.lens h.ev.name.1, fun p hp => So.lens (h.ev.sol.picks p hp).1, by have := h.ev.sol.len; omega⟩
theorem bul_vB {b : Bul} (h : fD b) : vB b = true := by
  have h1 := valid_eq (bul_fits h)
  rw [valid_at h] at h1
  exact (Option.some.inj h1).symm
theorem rvalid_at {b : Bul} (h : fD b) : dM b = some true := by rw [rvalid_eq (bul_fits h), bul_vB h]
theorem encode_eq {b : Bul} (h : kO b) : cf b = some (if vB b = true then (text b, 0) else ([], 1)) := by
  by_cases hv : vB b = true
  · rw [if_pos hv, encode_at (ky hv)]
  · rw [if_neg hv]
    unfold cf
    rw [valid_eq h, Option.bind_some, if_pos (by simpa using hv)]

theorem digit_cut {d : Int} (h0 : 0 ≤ d) (h1 : d < 10) : cutO ([48, 49, 50, 51, 52, 53, 54, 55, 56, 57] : List UInt8) d (IntKind.wrap .i64 (d + 1)) = some [UInt8.ofNat (48 + d.toNat)] := by
  rw [w64 (by omega) (by omega)]
  obtain ⟨n, rfl⟩ : ∃ n : Nat, d = n := ⟨d.toNat, by omega⟩
  have : n < 10 := by omega
  match n, this with
  | 0, _ => rfl
  | 1, _ => rfl
  | 2, _ => rfl
  | 3, _ => rfl
  | 4, _ => rfl
  | 5, _ => rfl
  | 6, _ => rfl
  | 7, _ => rfl
  | 8, _ => rfl
  | 9, _ => rfl
theorem la (u : Nat) (hu : u < 10 ^ 19) : (decDigits u).length ≤ 20 := decDigits_len 19 u hu
theorem jp : ∀ (f u : Nat), u < 10 ^ f → u ≤ 1152921504606846976 → 1 ≤ f → bX f (u : Int) = some (decDigits u)
  | 0, _, _, _, h => by omega
  | f + 1, u, hu, hb, _ => by
    unfold bX
    rw [if_neg (by simp)]
    by_cases h : u < 10
    · rw [if_pos (by simp; omega), digit_cut (by omega) (by omega), Option.bind_some, decDigits_small h]; rfl
    · rw [if_neg (by simp; omega)]
      obtain ⟨q, h1, h2⟩ := Ok.quo (k := .i64) (x := (u : Int)) (y := 10) (by omega)
      rw [h1, Option.bind_some, h2]
      have hq : IntKind.wrap .i64 ((u : Int).tdiv 10) = ((u / 10 : Nat) : Int) := by
        have : (u : Int).tdiv 10 = ((u / 10 : Nat) : Int) := by rw [Int.ofNat_tdiv]; rfl
        rw [this, w64 (by omega) (by omega)]
      have hf : 1 ≤ f := by
        cases f with
        | zero => simp at hu; omega
        | succ f => omega
      rw [hq, jp f (u / 10) (by rw [Nat.pow_succ] at hu; omega) (by omega) hf, Option.bind_some]
      obtain ⟨r, h3, h4⟩ := Ok.rem (x := (u : Int)) (y := 10) (by omega)
      have hr : (u : Int).tmod 10 = ((u % 10 : Nat) : Int) := by rw [Int.ofNat_tmod]; rfl
      rw [h3, h4, hr, Option.bind_some, Option.bind_some, digit_cut (by omega) (by omega), Option.bind_some]
      have hl := la (u / 10) (by omega)
      rw [So.eP (by simp only [List.length_cons, List.length_nil]; omega), Option.bind_some, decDigits_big h, Int.toNat_natCast]
theorem kH {n m : Nat} {x : Int} {r : List UInt8} (h : bX n x = some r) (hm : n ≤ m) : bX m x = some r := by
  induction n generalizing m x r with
  | zero => cases h
  | succ n ih =>
    obtain ⟨m, rfl⟩ : ∃ k, m = k + 1 := ⟨m - 1, by omega⟩
    unfold bX at h ⊢
    split at h
    · rename_i hc
      rw [if_pos hc]
      cases h1 : bX n (IntKind.wrap .i64 (0 - x)) with
      | none => rw [h1] at h; cases h
      | some y => rw [ih h1 (by omega)]; rw [h1] at h; exact h
    · rename_i hc
      rw [if_neg hc]
      split at h
      · rename_i hc2
        rw [if_pos hc2]; exact h
      · rename_i hc2
        rw [if_neg hc2]
        cases h0 : quoO .i64 x (10 : Int) with
        | none => rw [h0] at h; cases h
        | some q =>
          rw [h0] at h
          simp only [Option.bind_some] at h ⊢
          cases h1 : bX n q with
          | none => rw [h1] at h; cases h
          | some y => rw [ih h1 (by omega)]; rw [h1] at h; exact h
theorem decimal_at {n : Int} (h0 : -1152921504606846976 ≤ n) (h1 : n ≤ 1152921504606846976) : dS n = some (itoa n) := by
  have key : bX 21 n = some (itoa n) := by
    unfold itoa
    by_cases h : n < 0
    · rw [if_pos h]
      unfold bX
      rw [if_pos (by simpa using h), w64 (by omega) (by omega)]
      obtain ⟨k, hk⟩ : ∃ k : Nat, 0 - n = k := ⟨(0 - n).toNat, by omega⟩
      have hka : n.natAbs = k := by omega
      rw [hk, hka, jp 20 k (by omega) (by omega) (by omega), Option.bind_some]
      have hl := la k (by omega)
      rw [So.eP (by simp only [List.length_cons, List.length_nil]; omega)]; rfl
    · rw [if_neg h]
      obtain ⟨k, rfl⟩ : ∃ k : Nat, n = k := ⟨n.toNat, by omega⟩
      exact jp 21 k (by omega) (by omega) (by omega)
  unfold dS
  refine recO_of ⟨21, key⟩ fun m s hs => ?_
  rcases Nat.le_total m 21 with hm | hm
  · have := kH hs hm
    rw [key] at this; exact (Option.some.inj this).symm
  · have := kH key hm
    rw [hs] at this; exact Option.some.inj this
theorem near_dec {n : Int} (h : dA n) : dS n = some (itoa n) := decimal_at h.1 h.2
theorem gG {l : List Int} (h : ∀ n ∈ l, dA n) (hl : l.length ≤ 1000) : cm l = some (l.map itoa) := by
  have key : ∀ k i : Nat, i + k = l.length → ∀ acc : List Wd, acc.length ≤ 1000000 + i → loopO (eU l) ((i : Int), acc) = some (acc ++ (l.drop i).map itoa) := by
    intro k
    induction k with
    | zero =>
      intro i hi acc ha
      rw [List.drop_of_length_le (by omega)]
      simp only [List.map_nil, List.append_nil]
      refine loopO_stop ?_
      unfold eU
      simp only
      rw [if_neg (by simp; omega)]
    | succ k ih =>
      intro i hi acc ha
      have hlt : i < l.length := by omega
      rw [List.drop_eq_getElem_cons hlt, List.map_cons, loopO_next (s' := (((i + 1 : Nat) : Int), acc ++ [itoa l[i]]))]
      · rw [ih (i + 1) (by omega) _ (by simp; omega)]; simp
      · unfold eU
        simp only
        rw [if_pos (by simp; omega), getO_at rfl hlt, Option.bind_some, near_dec (h _ (List.getElem_mem _)), Option.bind_some, So.fF (by simp; omega), Option.bind_some, w64 (by omega) (by omega)]
        simp
  have := key l.length 0 (by omega) [] (by simp)
  unfold cm
  rw [show ((0 : Nat) : Int) = 0 from rfl] at this
  rw [this]; simp
theorem pick_near {p : Pick} (hp : dB p) : ∀ n ∈ [p.aF, p.aJ, p.aN, p.au, p.av], dA n := by
  obtain ⟨hs, h1, h2, h3, h4, h5, h6, h7, h8⟩ := hp
  intro n hn
  simp only [List.mem_cons, List.not_mem_nil, or_false] at hn
  unfold dA
  omega
theorem rpick_at {p : Pick} (hp : dB p) : fp p = some (bc p) := by
  have hv : So.dC p.ah = true := hp.1
  unfold fp
  rw [So.ref_Format_eq (So.lens hv), Option.bind_some, gG (pick_near hp) (by simp), Option.bind_some, So.fF (by simp), Option.bind_some]
  unfold So.iE
  rw [if_pos hv]
  simp [bc]
theorem rwords_l14 {b : Bul} (hp : ∀ p ∈ b.ae.aa.aK, dB p) (hl : b.ae.aa.aK.length ≤ 1000) : ∀ (k i : Nat) (acc : List Wd), i + k = b.ae.aa.aK.length → acc.length ≤ 100 + 6 * i →
    loopO (dD b) ((i : Int), acc) = some (acc ++ (b.ae.aa.aK.drop i).flatMap bc) := by
  intro k
  induction k with
  | zero =>
    intro i acc hi ha
    rw [List.drop_of_length_le (by omega)]
    simp only [List.flatMap_nil, List.append_nil]
    refine loopO_stop ?_
    unfold dD
    simp only
    rw [if_neg (by simp; omega)]
  | succ k ih =>
    intro i acc hi ha
    have hlt : i < b.ae.aa.aK.length := by omega
    rw [List.drop_eq_getElem_cons hlt, List.flatMap_cons, ← List.append_assoc, loopO_next (s' := (((i + 1 : Nat) : Int), acc ++ bc b.ae.aa.aK[i]))]
    · exact ih (i + 1) _ (by omega) (by simp [bc]; omega)
    · unfold dD
      simp only
      rw [if_pos (by simp; omega), getO_at rfl hlt, Option.bind_some, rpick_at (hp _ (List.getElem_mem _)), Option.bind_some, So.fF (by simp [bc]; omega), Option.bind_some, w64 (by omega) (by omega)]
      simp
theorem rwords_at {b : Bul} (h : fD b) : fy b = some (words b) := by
  have hl := h.ev.sol.len
  have hs := gb h.ev.sol
  simp only [cx, eE, List.cons_append, List.nil_append, List.mem_cons, List.not_mem_nil, or_false] at hs
  unfold fy
  rw [gG (by
    intro n hn
    simp only [List.mem_cons, List.not_mem_nil, or_false] at hn
    have := h.num0; have := h.num1; have := h.kind0; have := h.kind1; have := h.id0; have := h.id1; have := h.lev0; have := h.lev1
    have ⟨a1, a2⟩ := h.at_
    unfold dA
    omega) (by simp), Option.bind_some, rpick_at h.ev.name, Option.bind_some, So.fF (by simp [bc]), Option.bind_some, decimal_at (by omega) (by omega), Option.bind_some, So.fF (by simp [bc]), Option.bind_some]
  have h14 := rwords_l14 h.ev.sol.picks (by omega) _ 0 (List.map itoa [b.aQ, b.bh, b.fID, b.fAt, b.aW] ++ bc b.ae.ak ++ [itoa (b.ae.aa.aK.length : Int)]) (Nat.zero_add _) (by simp [bc])
  rw [show ((0 : Nat) : Int) = 0 from rfl] at h14
  rw [h14, Option.bind_some]
  rw [gG (fun n hn => hs n (by simp only [List.mem_cons, List.not_mem_nil, or_false] at hn; rcases hn with rfl | rfl | rfl | rfl | rfl | rfl <;> simp)) (by simp), Option.bind_some, So.fF (by simp only [List.drop_zero, List.length_append, List.length_map, List.length_cons, List.length_nil, e9, bc]; omega), Option.bind_some]
  rw [gG (fun n hn => hs n (by simp only [List.mem_cons, List.not_mem_nil, or_false] at hn; rcases hn with rfl | rfl | rfl | rfl | rfl | rfl <;> simp)) (by simp), Option.bind_some, So.fF (by simp only [List.drop_zero, List.length_append, List.length_map, List.length_cons, List.length_nil, e9, bc]; omega), Option.bind_some]
  rw [gG (fun n hn => hs n (by simp only [List.mem_cons, List.not_mem_nil, or_false] at hn; rcases hn with rfl | rfl | rfl <;> simp)) (by simp), Option.bind_some, So.fF (by simp only [List.drop_zero, List.length_append, List.length_map, List.length_cons, List.length_nil, e9, bc]; omega), Option.bind_some]
  simp [words, cx, eE]
theorem join_snoc (l : List Wd) (w : Wd) : l ≠ [] → Lib.join (l ++ [w]) [32] = Lib.join l [32] ++ [32] ++ w := by
  induction l with
  | nil => intro h; exact (h rfl).elim
  | cons a l ih =>
    intro _
    cases l with
    | nil => rw [show [a] ++ [w] = [a, w] from rfl, join_cons, join_one, join_one]
    | cons c l =>
      rw [show a :: c :: l ++ [w] = a :: c :: (l ++ [w]) from rfl, join_cons, join_cons]
      have := ih (by simp)
      rw [show c :: l ++ [w] = c :: (l ++ [w]) from rfl] at this
      rw [this]; simp
theorem rencode_l14 {ws : List Wd} (hw : ∀ w ∈ ws, w.length ≤ 100) (hl : ws.length ≤ 1000) : loopO (dt ws) ([], (0 : Int)) = some (Lib.join ws [32]) := by
  have key : ∀ k i : Nat, i + k = ws.length → loopO (dt ws) (Lib.join (ws.take i) [32], (i : Int)) = some (Lib.join ws [32]) := by
    intro k
    induction k with
    | zero =>
      intro i hi
      rw [List.take_of_length_le (by omega)]
      refine loopO_stop ?_
      unfold dt
      simp only
      rw [if_neg (by simp; omega)]
    | succ k ih =>
      intro i hi
      have hlt : i < ws.length := by omega
      have hjl := join_len (s := [32]) (l := ws.take i) (k := 100) (fun w h => hw w (List.mem_of_mem_take h))
      have hwl := hw ws[i] (List.getElem_mem _)
      have hb : (ws.take i).length * (100 + [(32 : UInt8)].length) ≤ 1000 * 101 := Nat.mul_le_mul (by simp; omega) (by simp)
      rw [loopO_next (s' := (Lib.join (ws.take (i + 1)) [32], ((i + 1 : Nat) : Int))), ih (i + 1) (by omega)]
      unfold dt
      simp only
      rw [if_pos (by simp; omega), getO_at rfl hlt, Option.bind_some, w64 (by omega) (by omega), take_succ_at hlt]
      by_cases h0 : i = 0
      · subst h0
        rw [if_neg (by simp), So.eP (by omega), Option.bind_some]
        simp [Lib.join, List.intercalate, List.intersperse]
      · rw [if_pos (by simp; omega), So.eP (by simp only [List.length_cons, List.length_nil]; omega), Option.bind_some, So.eP (by simp only [List.length_append, List.length_cons, List.length_nil]; omega), Option.bind_some]
        rw [join_snoc _ _ (by simp only [ne_eq, List.take_eq_nil_iff, not_or]; exact ⟨h0, fun e => by rw [e] at hlt; simp at hlt⟩)]
        simp
  have := key ws.length 0 (by omega)
  simpa [Lib.join, List.intercalate, List.intersperse] using this
theorem rencode_at {b : Bul} (h : fD b) : cJ b = some (text b, 0) := by
  unfold cJ
  rw [rvalid_at h, Option.bind_some, if_neg (by simp), rwords_at h, Option.bind_some, rencode_l14 (fun w hw => (ks h w hw).2) (by have := jm h; omega)]
  rfl
theorem jz {b : Bul} (h : kO b) : cJ b = some (if vB b = true then (text b, 0) else ([], 1)) := by
  by_cases hv : vB b = true
  · rw [if_pos hv, rencode_at (ky hv)]
  · rw [if_neg hv]
    unfold cJ
    rw [rvalid_eq h, Option.bind_some, if_pos (by simpa using hv)]
end Go.Dw.Ft


set_option maxRecDepth 100000
set_option maxHeartbeats 4000000
namespace Go.Dw.Ft
open Go.Dw Go.Lib
abbrev RRd := aS

theorem rword_read (w : Wd) (ws : List Wd) (hl : ws.length ≤ 1000000000) : eg ⟨w :: ws⟩ = some (w, ⟨ws⟩) := by
  unfold eg
  have h0 : (((w :: ws).length : Int) == 0) = false := by simp; omega
  simp only [h0, Bool.false_eq_true, if_false]
  rw [getO_at (n := 0) (i := 0) rfl (by simp)]
  obtain ⟨r, h1, h2⟩ := Ok.cut (l := w :: ws) (a := 1) (b := ((w :: ws).length : Int)) (by omega) (by simp; omega) (by omega)
  rw [Option.bind_some, h1, Option.bind_some]
  subst h2
  simp
theorem digits_step {x1 : Wd × RRd} {acc i d : Nat} (ha : acc ≤ 288230376151711744) (hd : d < 10) (hi : i < x1.1.length) (hl : x1.1.length ≤ 1000) (hc : x1.1[i] = UInt8.ofNat (48 + d)) :
    loopO (b7 x1) ((acc : Int), (i : Int)) = loopO (b7 x1) (((acc * 10 + d : Nat) : Int), ((i + 1 : Nat) : Int)) := by
  refine loopO_next ?_
  unfold b7
  have hb : byteO x1.1 (i : Int) = some ((48 + d : Nat) : Int) := by rw [So.ij rfl hi, hc, digit_toNat hd]
  have h8 : IntKind.wrap .u8 (((48 + d : Nat) : Int) - 48) = (d : Int) := by
    rw [show (((48 + d : Nat) : Int) - 48) = (d : Int) by omega]
    exact IntWalk.u8_in _ (by omega)
  simp only
  rw [if_pos (by simp; omega), hb, Option.bind_some, if_neg (by simp; omega), Option.bind_some, if_neg (by simp; omega), if_neg (by simp; omega), Option.bind_some, h8, w64 (n := (10 : Int) * acc) (by omega) (by omega), w64 (n := (d : Int)) (by omega) (by omega), w64 (n := (10 : Int) * acc + d) (by omega) (by omega), w64 (n := (i : Int) + 1) (by omega) (by omega)]
  congr 3
  · omega
theorem digits_loop : ∀ (u : Nat) (x1 : Wd × RRd) (pre r : List UInt8), x1.1 = pre ++ (decDigits u ++ r) → x1.1.length ≤ 1000 → u ≤ 1152921504606846976 →
    loopO (b7 x1) ((0 : Int), (pre.length : Int)) = loopO (b7 x1) ((u : Int), ((pre.length + (decDigits u).length : Nat) : Int)) := by
  intro u
  induction u using Nat.strongRecOn with
  | _ u ih =>
    intro x1 pre r hx hl hu
    by_cases h : u < 10
    · rw [decDigits_small h] at hx ⊢
      have hi : pre.length < x1.1.length := by rw [hx]; simp
      have hg : x1.1[pre.length] = UInt8.ofNat (48 + u) := by simp [hx]
      have := digits_step (x1 := x1) (acc := 0) (i := pre.length) (d := u) (by omega) h hi hl hg
      rw [show ((0 : Nat) : Int) = 0 from rfl] at this
      rw [this]
      simp
    · rw [decDigits_big h] at hx ⊢
      have h1 := ih (u / 10) (by omega) x1 pre ([UInt8.ofNat (48 + u % 10)] ++ r) (by rw [hx]; simp) hl (by omega)
      rw [h1]
      have hi : pre.length + (decDigits (u / 10)).length < x1.1.length := by rw [hx]; simp
      have hg : x1.1[pre.length + (decDigits (u / 10)).length] = UInt8.ofNat (48 + u % 10) := by
        have : x1.1[pre.length + (decDigits (u / 10)).length]? = some (UInt8.ofNat (48 + u % 10)) := by
          rw [hx, List.getElem?_append_right (by omega), List.append_assoc, List.getElem?_append_right (by omega)]
          simp
        rw [List.getElem?_eq_getElem hi] at this
        exact Option.some.inj this
      rw [digits_step (by omega) (by omega) hi hl hg]
      rw [show u / 10 * 10 + u % 10 = u by omega, List.length_append]
      rfl
theorem bI {n : Int} (h : dA n) (ws : List Wd) (hl : ws.length ≤ 1000000000) : bk ⟨itoa n :: ws⟩ = some (n, ⟨ws⟩) := by
  obtain ⟨h0, h1⟩ := h
  have hlen := itoa_len (n := n) (by omega) (by omega)
  unfold bk
  rw [rword_read _ _ hl, Option.bind_some]
  simp only
  rw [if_pos (by have := List.length_pos_iff.2 (itoa_ne n); simp; omega)]
  by_cases hn : n < 0
  · have e : itoa n = 45 :: decDigits n.natAbs := by unfold itoa; rw [if_pos hn]
    rw [So.ij (i := 0) (by omega) (by rw [e]; simp), Option.bind_some]
    have hb : ((((itoa n)[0]'(by rw [e]; simp)).toNat : Nat) : Int) = 45 := by simp [e]
    rw [hb, if_pos (by simp)]
    unfold cg
    have h2 := digits_loop n.natAbs (itoa n, (⟨ws⟩ : RRd)) [45] [] (by rw [e]; simp) (by simp only; omega) (by omega)
    rw [show (([45] : List UInt8).length : Int) = 1 from rfl] at h2
    rw [h2, loopO_stop (o := .inl ((n.natAbs : Nat) : Int)) (by
      unfold b7
      simp only
      rw [if_neg (by simp [e]; omega)])]
    simp only [Option.bind_some]
    rw [if_pos (by simp), w64 (by omega) (by omega)]
    congr 2
    omega
  · have e : itoa n = decDigits n.toNat := by unfold itoa; rw [if_neg hn]
    obtain ⟨c, r, hc⟩ := List.exists_cons_of_ne_nil (itoa_ne n)
    have hcr := itoa_chars n c (by rw [hc]; simp)
    have hd : 48 ≤ c.toNat ∧ c.toNat ≤ 57 := decDigits_chars n.toNat c (by rw [← e, hc]; simp)
    rw [So.ij (i := 0) (by omega) (by rw [hc]; simp), Option.bind_some]
    have hb : (((((itoa n)[0]'(by rw [hc]; simp)).toNat : Nat) : Int) == 45) = false := by
      simp only [hc, List.getElem_cons_zero]
      rw [beq_eq_false_iff_ne]; omega
    rw [hb, if_neg (by simp)]
    unfold cg
    have h2 := digits_loop n.toNat (itoa n, (⟨ws⟩ : RRd)) [] [] (by rw [e]; simp) (by simp only; omega) (by omega)
    rw [show (([] : List UInt8).length : Int) = 0 from rfl] at h2
    rw [h2, loopO_stop (o := .inl ((n.toNat : Nat) : Int)) (by
      unfold b7
      simp only
      rw [if_neg (by simp [e])])]
    simp only [Option.bind_some]
    rw [if_neg (by simp)]
    congr 2
    omega
theorem rparse_fmt {s : Sid} (h : IsSid s) : fw (fmt s) = some (s, 0) := by
  obtain ⟨r, h1, h2⟩ := So.Parse_eq (z := fmt s) (by have := (So.ln (show So.dC s = true from h)).2.2; show (So.fmt s).length ≤ _; omega)
  rw [h2, ← h1]
  exact So.parse_fmt h
theorem rpick_read {p : Pick} (hp : dB p) (ws : List Wd) (hl : ws.length ≤ 100000000) : ef ⟨bc p ++ ws⟩ = some (p, ⟨ws⟩) := by
  have hn := pick_near hp
  simp only [List.mem_cons, List.not_mem_nil, or_false] at hn
  unfold ef bc
  simp only [List.cons_append, List.nil_append]
  rw [rword_read _ _ (by simp only [List.length_cons]; omega), Option.bind_some]
  simp only [rparse_fmt hp.1, Option.bind_some]
  rw [bI (hn _ (by simp)) _ (by simp only [List.length_cons]; omega), Option.bind_some]
  rw [bI (hn _ (by simp)) _ (by simp only [List.length_cons]; omega), Option.bind_some]
  rw [bI (hn _ (by simp)) _ (by simp only [List.length_cons]; omega), Option.bind_some]
  rw [bI (hn _ (by simp)) _ (by simp only [List.length_cons]; omega), Option.bind_some]
  rw [bI (hn _ (by simp)) _ (by omega), Option.bind_some]
theorem rpicks_read : ∀ (l : List Pick) (ws : List Wd) (acc : List Pick), (∀ p ∈ l, dB p) → l.length ≤ 1000000 → ws.length ≤ 1000000 → acc.length + l.length ≤ 1000000 →
    loopO dq ((l.length : Int), l.flatMap bc ++ ws, acc) = some (ws, acc ++ l)
  | [], ws, acc, _, _, _, _ => by
    refine loopO_stop ?_
    simp [dq]
  | p :: l, ws, acc, hp, hl, hw, ha => by
    simp only [List.length_cons] at hl ha
    rw [loopO_next (s' := ((l.length : Int), l.flatMap bc ++ ws, acc ++ [p]))]
    · rw [rpicks_read l ws (acc ++ [p]) (fun q hq => hp q (by simp [hq])) (by omega) hw (by simp; omega)]
      simp
    · unfold dq
      simp only
      rw [if_pos (decide_eq_true (by simp only [List.length_cons]; omega))]
      rw [List.flatMap_cons, List.append_assoc, rpick_read (hp p (by simp)) _ (by rw [List.length_append, e9]; omega), Option.bind_some]
      obtain ⟨r, h1, h2⟩ := Ok.app (l := acc) (m := [p]) (b := 104) (by simp only [List.length_cons, List.length_nil]; omega)
      rw [h1, Option.bind_some, h2, w64 (by simp only [List.length_cons]; omega) (by simp only [List.length_cons]; omega)]
      congr 3
      simp only [List.length_cons]; omega
theorem kq {p : aj} (h : PosOk p) (ws : List Wd) (hl : ws.length ≤ 1000000) : dI ⟨itoa p.fX :: itoa p.fY :: itoa p.fZ :: ws⟩ = some (p, ⟨ws⟩) := by
  unfold dI
  rw [bI h.1 _ (by simp only [List.length_cons]; omega), Option.bind_some]
  rw [bI h.2.1 _ (by simp only [List.length_cons]; omega), Option.bind_some]
  rw [bI h.2.2 _ (by omega), Option.bind_some]
theorem u32 (c : UInt8) : (((c.toNat : Nat) : Int) == 32) = decide (c = 32) := by
  by_cases h : c = 32
  · subst h; rfl
  · have : c.toNat ≠ 32 := fun e => h (UInt8.toNat_inj.1 e)
    simp [h]; omega
theorem rsplit_eq {t : List UInt8} (ht : t.length ≤ 4000000000) : iO t = some (splitL 32 t) := by
  have key : Ok (loopO (gT t) ((0 : Int), (0 : Int), [])) (fun o => ∃ f : Nat, o.1 = (f : Int) ∧ f ≤ t.length ∧ o.2.length ≤ t.length ∧ o.2 ++ splitL 32 (t.drop f) = splitL 32 t ∧ (32 : UInt8) ∉ t.drop f) := by
    refine Ok.loop (fun s => ∃ f i : Nat, s.1 = (f : Int) ∧ s.2.1 = (i : Int) ∧ f ≤ i ∧ i ≤ t.length ∧ s.2.2.length ≤ f ∧ s.2.2 ++ splitL 32 (t.drop f) = splitL 32 t ∧ (32 : UInt8) ∉ (t.drop f).take (i - f)) (fun s => ((t.length : Int) - s.2.1).toNat) ?_ ⟨0, 0, rfl, rfl, by omega, by omega, by simp, by simp, by simp⟩
    rintro ⟨s1, s2, out⟩ ⟨f, i, e1, e2, hfi, hi, ho, hs, hn⟩
    simp only at e1 e2 ho hs hn
    subst e1 e2
    unfold gT
    refine Ok.iteD (fun hlt => ?_) (fun hge => ?_)
    · have hlt : i < t.length := by omega
      rw [So.ij rfl hlt, Option.bind_some, u32, w64 (n := (i : Int) + 1) (by omega) (by omega)]
      have hd : t.drop i = t[i] :: t.drop (i + 1) := List.drop_eq_getElem_cons hlt
      have hsplit : t.drop f = (t.drop f).take (i - f) ++ t.drop i := by
        conv => lhs; rw [← List.take_append_drop (i - f) (t.drop f)]
        rw [List.drop_drop, show f + (i - f) = i by omega]
      refine Ok.iteD (fun hc => ?_) (fun hc => ?_)
      · rw [So.cutO_at rfl rfl hfi (by omega), Option.bind_some, So.fF (by simp only [List.length_cons, List.length_nil]; omega), Option.bind_some]
        refine Ok.nx ⟨i + 1, i + 1, by simp only; omega, by simp only; omega, by omega, by omega, by simp only [List.length_append, List.length_cons, List.length_nil]; omega, ?_, by simp⟩ (by simp only; omega)
        simp only
        rw [← hs]
        conv => rhs; rw [hsplit, hd, hc, splitL_app _ hn]
        rw [List.append_assoc]; rfl
      · refine Ok.nx ⟨f, i + 1, rfl, by simp only; omega, by omega, by omega, ho, hs, ?_⟩ (by simp only; omega)
        rw [show i + 1 - f = (i - f) + 1 by omega, List.take_add_one, List.getElem?_drop, show f + (i - f) = i by omega, List.getElem?_eq_getElem hlt]
        intro hm
        rcases List.mem_append.1 hm with hm | hm
        · exact hn hm
        · simp at hm; exact hc hm.symm
    · have hie : i = t.length := by omega
      subst hie
      refine Ok.st ⟨f, rfl, hfi, by simp only; omega, hs, ?_⟩
      rw [List.take_of_length_le (by simp)] at hn
      exact hn
  obtain ⟨⟨o1, o2⟩, ho, f, e1, h1, h2, h3, h4⟩ := key
  simp only at e1 h2 h3
  subst e1
  unfold iO
  rw [ho, Option.bind_some]
  simp only
  rw [So.cutO_at rfl rfl h1 (Nat.le_refl _), Option.bind_some, So.fF (by simp only [List.length_cons, List.length_nil]; omega), Option.bind_some]
  rw [← h3, splitL_one h4, List.take_of_length_le (by simp)]

theorem rValidq_eq (b : Bul) : hZ b.aQ b.bh b.fID b.fAt b.aW b.ae.ak.ah.aC b.ae.ak.ah.aE b.ae.ak.ah.ac b.ae.ak.ah.aD b.ae.ak.aF b.ae.ak.aJ b.ae.ak.aN b.ae.ak.au b.ae.ak.av
    b.ae.aa.ac.aA.fX b.ae.aa.ac.aA.fY b.ae.aa.ac.aA.fZ b.ae.aa.ac.aF b.ae.aa.ac.aO b.ae.aa.ac.aV b.ae.aa.ac.ap.aI.fX b.ae.aa.ac.ap.aI.fY b.ae.aa.ac.ap.aI.fZ
    b.ae.aa.ac.ap.az.fX b.ae.aa.ac.ap.az.fY b.ae.aa.ac.ap.az.fZ b.ae.aa.aq.aI b.ae.aa.aq.az b.ae.aa.aU b.ae.aa.aK = (dM b).map (fun v => (v, b.ae.aa.aK)) := by
  have hl : loopO (gq b.ae.aa.aK) (0 : Int) = (loopO (er b) (0 : Int)).map (Sum.map id (fun v => (v, b.ae.aa.aK))) := loopO_map _ (fun s => by
    unfold gq er
    rw [inO_getO]
    split
    · cases getO b.ae.aa.aK s with
      | none => rfl
      | some x =>
        simp only [Option.bind_some]
        cases ck x with
        | none => rfl
        | some v => cases v <;> rfl
    · rfl) _
  unfold hZ dM
  simp only [lb, Option.map_some, Option.map_bind, Function.comp_def, hl, Option.bind_map]
  have hm : ∀ x : Unit ⊕ Bool, (match Sum.map id (fun v => (v, b.ae.aa.aK)) x with
      | .inl y20 => (ck (ag.mk (am.mk b.ae.ak.ah.aC b.ae.ak.ah.aE b.ae.ak.ah.ac b.ae.ak.ah.aD) b.ae.ak.aF b.ae.ak.aJ b.ae.ak.aN b.ae.ak.au b.ae.ak.av)).bind fun x22 => if x22 = true then (if (decide ((b.ae.aa.aK.length : Int) ≤ (64 : Int))) = true then ((ei [b.fAt, b.ae.aa.ac.aA.fX, b.ae.aa.ac.aA.fY, b.ae.aa.ac.aA.fZ, b.ae.aa.ac.aF, b.ae.aa.ac.aO, b.ae.aa.ac.aV, b.ae.aa.ac.ap.aI.fX, b.ae.aa.ac.ap.aI.fY, b.ae.aa.ac.ap.aI.fZ, b.ae.aa.ac.ap.az.fX, b.ae.aa.ac.ap.az.fY, b.ae.aa.ac.ap.az.fZ, b.ae.aa.aq.aI, b.ae.aa.aq.az, b.ae.aa.aU]).bind fun x25 => some (x25, b.ae.aa.aK)) else (some (false, b.ae.aa.aK))) else (some (false, b.ae.aa.aK))
      | .inr r21 => (some r21)) = Option.map (fun v => (v, b.ae.aa.aK)) (match x with
      | .inl y18 => (ck b.ae.ak).bind fun x20 => if x20 = true then (if (decide ((b.ae.aa.aK.length : Int) ≤ (64 : Int))) = true then ((ei [b.fAt, b.ae.aa.ac.aA.fX, b.ae.aa.ac.aA.fY, b.ae.aa.ac.aA.fZ, b.ae.aa.ac.aF, b.ae.aa.ac.aO, b.ae.aa.ac.aV, b.ae.aa.ac.ap.aI.fX, b.ae.aa.ac.ap.aI.fY, b.ae.aa.ac.ap.aI.fZ, b.ae.aa.ac.ap.az.fX, b.ae.aa.ac.ap.az.fY, b.ae.aa.ac.ap.az.fZ, b.ae.aa.aq.aI, b.ae.aa.aq.az, b.ae.aa.aU]).bind fun x23 => some x23) else (some false)) else (some false)
      | .inr r19 => (some r19)) := by
    intro x
    cases x with
    | inl y =>
      simp only [Sum.map_inl]
      simp only [lb, Option.map_some, Option.map_bind, Function.comp_def]
    | inr y => rfl
  repeat' (refine ite_congr rfl (fun _ => rfl) (fun _ => ?_))
  congr 1
  funext x
  exact hm x
theorem rwordsq_eq (b : Bul) : ia b.aQ b.bh b.fID b.fAt b.aW b.ae.ak.ah.aC b.ae.ak.ah.aE b.ae.ak.ah.ac b.ae.ak.ah.aD b.ae.ak.aF b.ae.ak.aJ b.ae.ak.aN b.ae.ak.au b.ae.ak.av
    b.ae.aa.ac.aA.fX b.ae.aa.ac.aA.fY b.ae.aa.ac.aA.fZ b.ae.aa.ac.aF b.ae.aa.ac.aO b.ae.aa.ac.aV b.ae.aa.ac.ap.aI.fX b.ae.aa.ac.ap.aI.fY b.ae.aa.ac.ap.aI.fZ
    b.ae.aa.ac.ap.az.fX b.ae.aa.ac.ap.az.fY b.ae.aa.ac.ap.az.fZ b.ae.aa.aq.aI b.ae.aa.aq.az b.ae.aa.aU b.ae.aa.aK = (fy b).map (fun v => (v, b.ae.aa.aK)) := by
  have hl : gt b.ae.aa.aK = dD b := by
    funext ⟨s6, s7⟩
    unfold gt dD
    simp only [inO_getO]
  unfold ia fy
  simp only [hl, Option.map_some, Option.map_bind, Function.comp_def]
theorem rEncodeq_eq (b : Bul) : gC b.aQ b.bh b.fID b.fAt b.aW b.ae.ak.ah.aC b.ae.ak.ah.aE b.ae.ak.ah.ac b.ae.ak.ah.aD b.ae.ak.aF b.ae.ak.aJ b.ae.ak.aN b.ae.ak.au b.ae.ak.av
    b.ae.aa.ac.aA.fX b.ae.aa.ac.aA.fY b.ae.aa.ac.aA.fZ b.ae.aa.ac.aF b.ae.aa.ac.aO b.ae.aa.ac.aV b.ae.aa.ac.ap.aI.fX b.ae.aa.ac.ap.aI.fY b.ae.aa.ac.ap.aI.fZ
    b.ae.aa.ac.ap.az.fX b.ae.aa.ac.ap.az.fY b.ae.aa.ac.ap.az.fZ b.ae.aa.aq.aI b.ae.aa.aq.az b.ae.aa.aU b.ae.aa.aK = (cJ b).map (fun r => (r.1, r.2, b.ae.aa.aK)) := by
  have hl : ∀ x : List Wd × List Pick, iN x = dt x.1 := fun x => by
    funext ⟨s4, s5⟩; rfl
  unfold gC cJ
  rw [rValidq_eq]
  cases dM b with
  | none => rfl
  | some v =>
    simp only [Option.map_some, Option.bind_some]
    rw [rwordsq_eq]
    simp only [lb, Option.map_some, Option.map_bind, Function.comp_def, Option.bind_map, hl]
theorem rdecode_at {b : Bul} (h : fD b) : dn (text b) = some (b, 0) := by
  have he := rencode_at h
  have hw := ks h
  have hwl := jm h
  have htl := text_len h
  have hsp : splitL 32 (text b) = words b := split_join (by simp [words]) (fun w hw' => (hw w hw').1)
  obtain ⟨h1, h2, h3, h4, h5, h6, h7, h8, h9, hat, h12⟩ := h
  have hl := h12.sol.len
  obtain ⟨-, -, p1, p2, p3, d1, d2, d3, d4, d5, d6⟩ := h12.sol
  unfold dn
  rw [rsplit_eq (by omega), Option.bind_some, hsp]
  unfold words
  simp only [List.map_cons, List.map_nil, List.cons_append, List.nil_append]
  have hA : (bc b.ae.ak ++ itoa (b.ae.aa.aK.length : Int) :: (b.ae.aa.aK.flatMap bc ++ (cx b.ae.aa).map itoa)).length ≤ 1000 := by
    simp only [List.length_append, List.length_cons, List.length_map, e9, cH, bc, List.length_nil]; omega
  rw [bI (by unfold dA; omega) _ (by simp only [List.length_cons]; omega), Option.bind_some]
  rw [bI (by unfold dA; omega) _ (by simp only [List.length_cons]; omega), Option.bind_some]
  rw [bI (by unfold dA; omega) _ (by simp only [List.length_cons]; omega), Option.bind_some]
  rw [bI hat _ (by simp only [List.length_cons]; omega), Option.bind_some]
  rw [bI (by unfold dA; omega) _ (by omega), Option.bind_some]
  rw [rpick_read h12.name _ (by simp only [List.length_append, List.length_cons] at hA ⊢; omega), Option.bind_some]
  rw [bI (by unfold dA; omega) _ (by simp only [List.length_append, List.length_cons] at hA ⊢; omega), Option.bind_some]
  simp only
  rw [if_neg (by omega), rpicks_read _ _ _ h12.sol.picks (by omega) (by rw [List.length_map, cH]; omega) (by simp; omega), Option.bind_some]
  simp only [cx, eE, List.cons_append, List.nil_append, List.map_cons, List.map_nil]
  rw [kq p1 _ (by simp), Option.bind_some]
  rw [bI d1 _ (by simp), Option.bind_some]
  rw [bI d2 _ (by simp), Option.bind_some]
  rw [bI d3 _ (by simp), Option.bind_some]
  rw [kq p2 _ (by simp), Option.bind_some]
  rw [kq p3 _ (by simp), Option.bind_some]
  rw [bI d4 _ (by simp), Option.bind_some]
  rw [bI d5 _ (by simp), Option.bind_some]
  rw [bI d6 _ (by simp), Option.bind_some]
  rw [rEncodeq_eq, he]
  simp

structure k8 (r : RRd) : Prop where
  len : r.fL.length ≤ 20001
  wds : ∀ w ∈ r.fL, i6 w
theorem rword_ok (r : RRd) (h : k8 r) : Ok (eg r) (fun x => i6 x.1 ∧ k8 x.2) := by
  obtain ⟨hl, hw⟩ := h
  unfold eg
  refine Ok.iteE (fun _ => Ok.ret ⟨by unfold i6; simp, hl, hw⟩) (fun hne => ?_)
  refine Ok.bind (Ok.get (by omega) (by omega)) (fun x hx => ?_)
  refine Ok.bind (Ok.cut (by omega) (by omega) (by omega)) (fun y hy => ?_)
  subst hy
  refine Ok.ret ⟨hw _ hx.1, ?_, fun w h => hw w (List.mem_of_mem_drop (List.mem_of_mem_take h))⟩
  simp only [List.length_take, List.length_drop]; omega
theorem bY (r : RRd) (h : k8 r) : Ok (bk r) (fun x => big x.1 ∧ k8 x.2) := by
  have k19 : ∀ (x : Wd × RRd) (j : Int), i6 x.1 → k8 x.2 → 0 ≤ j → j ≤ 1 → Ok (cg x j) (fun x => big x.1 ∧ k8 x.2) := by
    intro x j hs hr j0 j1
    unfold i6 at hs
    unfold cg
    refine Ok.bind (P := fun o : Int ⊕ (Int × RRd) => (∀ y, o = .inl y → 0 ≤ y ∧ y ≤ 2882303761517117449) ∧ ∀ y, o = .inr y → y = (0, x.2)) (Ok.loop (fun s => 0 ≤ s.2 ∧ (0 ≤ s.1 ∧ s.1 ≤ 2882303761517117449)) (fun s => ((x.1.length : Int) + 1 - s.2).toNat) ?_ ⟨j0, by simp⟩) (fun o ho => ?_)
    · rintro ⟨a, i⟩ ⟨i0, a0, a1⟩
      simp only at i0 a0 a1
      unfold b7
      have hz : ∀ y : Int × RRd, (Sum.inr (0, x.2) : Int ⊕ (Int × RRd)) = .inr y → y = (0, x.2) := fun y e => by cases e; rfl
      have hzl : ∀ y : Int, (Sum.inr (0, x.2) : Int ⊕ (Int × RRd)) = .inl y → 0 ≤ y ∧ y ≤ 2882303761517117449 := fun y e => by cases e
      refine Ok.iteD (fun hlt => ?_) (fun _ => Ok.st ⟨fun y e => by cases e; exact ⟨a0, a1⟩, fun y e => by cases e⟩)
      refine Ok.bind (Ok.byte i0 hlt) (fun c hc => Ok.iteD (fun _ => Ok.st ⟨hzl, hz⟩) (fun h48 => ?_))
      refine Ok.bind (Ok.byte i0 hlt) (fun c2 hc2 => Ok.iteD (fun _ => Ok.st ⟨hzl, hz⟩) (fun h57 => ?_))
      refine Ok.iteD (fun _ => Ok.st ⟨hzl, hz⟩) (fun hbig => ?_)
      refine Ok.bind (Ok.byte i0 hlt) (fun c3 hc3 => ?_)
      obtain ⟨b1, e1, rfl⟩ := hc
      obtain ⟨b2, e2, rfl⟩ := hc2
      obtain ⟨b3, e3, rfl⟩ := hc3
      rw [e1] at e2 e3
      cases e2; cases e3
      rw [IntWalk.u8_in _ (by omega : 0 ≤ ((b1.toNat : Nat) : Int) - 48 ∧ ((b1.toNat : Nat) : Int) - 48 ≤ 255), w64 (n := (10 : Int) * a) (by omega) (by omega), w64 (n := ((b1.toNat : Nat) : Int) - 48) (by omega) (by omega), w64 (n := (10 : Int) * a + (((b1.toNat : Nat) : Int) - 48)) (by omega) (by omega), w64 (n := i + 1) (by omega) (by omega)]
      exact Ok.nx ⟨by simp only; omega, by simp only; omega⟩ (by simp only; omega)
    · cases o with
      | inl y =>
        obtain ⟨y0, y1⟩ := ho.1 y rfl
        refine Ok.iteE (fun _ => ?_) (fun _ => Ok.ret ⟨by unfold big; simp only; omega, hr⟩)
        rw [w64 (by omega) (by omega)]
        exact Ok.ret ⟨by unfold big; simp only; omega, hr⟩
      | inr y =>
        obtain rfl := ho.2 y rfl
        exact Ok.ret ⟨by unfold big; simp, hr⟩
  unfold bk
  refine Ok.bind (rword_ok r h) (fun x hx => ?_)
  refine Ok.iteD (fun hp => ?_) (fun _ => k19 _ _ hx.1 hx.2 (by omega) (by omega))
  refine Ok.bind (Ok.byte (by omega) hp) (fun c _ => ?_)
  exact Ok.iteE (fun _ => k19 _ _ hx.1 hx.2 (by omega) (by omega)) (fun _ => k19 _ _ hx.1 hx.2 (by omega) (by omega))
theorem rparse_ok (w : Wd) (h : i6 w) : Ok (fw w) (fun r => k9 r.1) := by
  obtain ⟨r, h1, h2⟩ := So.Parse_eq (z := w) (by unfold i6 at h; omega)
  obtain ⟨r', h3, h4⟩ := parse_ok w h
  rw [h1] at h3
  cases h3
  exact ⟨r, h2, h4⟩
theorem rpickr_ok (r : RRd) (h : k8 r) : Ok (ef r) (fun x => gj x.1 ∧ k8 x.2) := by
  unfold ef
  refine Ok.bind (rword_ok r h) (fun x hx => ?_)
  refine Ok.bind (rparse_ok _ hx.1) (fun y hy => ?_)
  refine Ok.bind (bY _ hx.2) (fun x1 h1 => ?_)
  refine Ok.bind (bY _ h1.2) (fun x2 h2 => ?_)
  refine Ok.bind (bY _ h2.2) (fun x3 h3 => ?_)
  refine Ok.bind (bY _ h3.2) (fun x4 h4 => ?_)
  refine Ok.bind (bY _ h4.2) (fun x5 h5 => ?_)
  refine Ok.ret ⟨⟨hy, ?_⟩, h5.2⟩
  intro n hn
  simp only [List.mem_cons, List.not_mem_nil, or_false] at hn
  rcases hn with rfl | rfl | rfl | rfl | rfl
  · exact h1.1
  · exact h2.1
  · exact h3.1
  · exact h4.1
  · exact h5.1
theorem rpos_ok (r : RRd) (h : k8 r) : Ok (dI r) (fun x => PosSm x.1 ∧ k8 x.2) := by
  unfold dI
  refine Ok.bind (bY r h) (fun x1 h1 => ?_)
  refine Ok.bind (bY _ h1.2) (fun x2 h2 => ?_)
  refine Ok.bind (bY _ h2.2) (fun x3 h3 => ?_)
  refine Ok.ret ⟨fun n hn => ?_, h3.2⟩
  simp only [eE, List.mem_cons, List.not_mem_nil, or_false] at hn
  rcases hn with rfl | rfl | rfl
  · exact h1.1
  · exact h2.1
  · exact h3.1
theorem rloop_ok (n : Int) (hn : n ≤ 65) (r : RRd) (h : k8 r) : Ok (loopO dq (n, r.fL, [])) (fun o => k8 ⟨o.1⟩ ∧ (∀ p ∈ o.2, gj p) ∧ o.2.length ≤ 20002) := by
  refine Ok.loop (fun s => s.1 ≤ 65 ∧ k8 ⟨s.2.1⟩ ∧ (∀ p ∈ s.2.2, gj p) ∧ (s.2.2.length : Int) + (if s.1 > 0 then s.1 else 0) ≤ 65) (fun s => s.1.toNat) ?_ ⟨hn, h, by simp, by simp only [List.length_nil]; split <;> omega⟩
  rintro ⟨k, ws, ps⟩ ⟨i0, i1, i2, i3⟩
  simp only at i0 i1 i2 i3
  unfold dq
  refine Ok.iteD (fun hk => ?_) (fun _ => Ok.st ⟨i1, i2, by simp only; split at i3 <;> omega⟩)
  rw [if_pos hk] at i3
  refine Ok.bind (rpickr_ok _ i1) (fun x hx => ?_)
  refine Ok.bind (Ok.app (by simp only [List.length_cons, List.length_nil]; omega)) (fun y hy => ?_)
  subst hy
  rw [w64 (by omega) (by omega)]
  refine Ok.nx ⟨by simp only; omega, hx.2, ?_, ?_⟩ (by simp only; omega)
  · intro p hp
    rcases List.mem_append.1 hp with hp | hp
    · exact i2 p hp
    · obtain rfl := List.mem_singleton.1 hp
      exact hx.1
  · simp only [List.length_append, List.length_cons, List.length_nil]
    split <;> omega
theorem sm_fits {b : Bul} (h : BulSm b) : kO b := by
  have key : ∀ s : Sid, k9 s → So.eX s := fun s ⟨h1, h2, h3, h4⟩ => ⟨by omega, by omega, by omega, by omega⟩
  exact ⟨key _ h.name.sid, fun p hp => key _ (h.picks p hp).sid, by have := h.len; omega⟩
theorem rdecode_ok (t : List UInt8) (ht : t.length ≤ 20000) : Ok (dn t) (fun r => (r.2 = 0 ∧ BulSm r.1 ∧ cJ r.1 = some (t, 0)) ∨ r = (zeroB, 3)) := by
  obtain ⟨s1, s2⟩ := splitL_len' 32 t
  unfold dn
  rw [rsplit_eq (by omega), Option.bind_some]
  have hr : k8 ⟨splitL 32 t⟩ := ⟨by simp only; omega, fun w hw => Nat.le_trans (s2 w hw) ht⟩
  refine Ok.bind (bY _ hr) (fun x2 h2 => ?_)
  refine Ok.bind (bY _ h2.2) (fun x3 h3 => ?_)
  refine Ok.bind (bY _ h3.2) (fun x4 h4 => ?_)
  refine Ok.bind (bY _ h4.2) (fun x5 h5 => ?_)
  refine Ok.bind (bY _ h5.2) (fun x6 h6 => ?_)
  refine Ok.bind (rpickr_ok _ h6.2) (fun x7 h7 => ?_)
  refine Ok.bind (bY _ h7.2) (fun x8 h8 => ?_)
  refine Ok.bind (rloop_ok _ (by split <;> omega) _ h8.2) (fun o ho => ?_)
  refine Ok.bind (rpos_ok _ ho.1) (fun x23 h23 => ?_)
  refine Ok.bind (bY _ h23.2) (fun x24 h24 => ?_)
  refine Ok.bind (bY _ h24.2) (fun x25 h25 => ?_)
  refine Ok.bind (bY _ h25.2) (fun x26 h26 => ?_)
  refine Ok.bind (rpos_ok _ h26.2) (fun x27 h27 => ?_)
  refine Ok.bind (rpos_ok _ h27.2) (fun x28 h28 => ?_)
  refine Ok.bind (bY _ h28.2) (fun x29 h29 => ?_)
  refine Ok.bind (bY _ h29.2) (fun x30 h30 => ?_)
  refine Ok.bind (bY _ h30.2) (fun x31 h31 => ?_)
  have hb : BulSm ⟨x2.1, x3.1, x4.1, x5.1, x6.1, ⟨x7.1, ⟨o.2, ⟨x23.1, x24.1, x25.1, x26.1, ⟨x27.1, x28.1⟩⟩, ⟨x29.1, x30.1⟩, x31.1⟩⟩⟩ := by
    refine ⟨?_, h7.1, ho.2.1, ho.2.2, ?_⟩
    · intro n hn
      simp only [List.mem_cons, List.not_mem_nil, or_false] at hn
      rcases hn with rfl | rfl | rfl | rfl | rfl
      · exact h2.1
      · exact h3.1
      · exact h4.1
      · exact h5.1
      · exact h6.1
    · intro n hn
      simp only [cx] at hn
      rcases List.mem_append.1 hn with hn | hn
      · exact h23.1 n hn
      rcases List.mem_append.1 hn with hn | hn
      · simp only [List.mem_cons, List.not_mem_nil, or_false] at hn
        rcases hn with rfl | rfl | rfl
        · exact h24.1
        · exact h25.1
        · exact h26.1
      rcases List.mem_append.1 hn with hn | hn
      · exact h27.1 n hn
      rcases List.mem_append.1 hn with hn | hn
      · exact h28.1 n hn
      simp only [List.mem_cons, List.not_mem_nil, or_false] at hn
      rcases hn with rfl | rfl | rfl
      · exact h29.1
      · exact h30.1
      · exact h31.1
  have he := jz (sm_fits hb)
  have hq := rEncodeq_eq ⟨x2.1, x3.1, x4.1, x5.1, x6.1, ⟨x7.1, ⟨o.2, ⟨x23.1, x24.1, x25.1, x26.1, ⟨x27.1, x28.1⟩⟩, ⟨x29.1, x30.1⟩, x31.1⟩⟩⟩
  rw [he] at hq
  simp only [Option.map_some] at hq
  rw [hq, Option.bind_some]
  refine Ok.iteNe (fun _ => Ok.ret (.inr rfl)) (fun h0 => ?_)
  refine Ok.iteN (fun _ => Ok.ret (.inr rfl)) (fun h1 => Ok.ret (.inl ⟨rfl, hb, ?_⟩))
  simp only at h0 h1
  rw [he]
  have h1' := of_decide_eq_true (p := _ = t) (by simpa using h1)
  split at h0
  · rename_i hv
    rw [if_pos hv] at h1' ⊢
    simp only at h1'
    rw [h1']
  · cases h0
theorem decode_cases (t : List UInt8) (ht : t.length ≤ 20000) : (∃ b, fD b ∧ t = text b ∧ cw t = some (b, 0) ∧ dn t = some (b, 0)) ∨ (cw t = some (zeroB, 3) ∧ dn t = some (zeroB, 3)) := by
  have ok_of : ∀ b, BulSm b → (if vB b = true then (text b, (0 : Int)) else (([] : List UInt8), 1)) = (t, 0) → fD b ∧ t = text b := by
    intro b hb h
    split at h
    · rename_i hv
      exact ⟨ky hv, (congrArg Prod.fst h).symm⟩
    · cases (congrArg Prod.snd h)
  obtain ⟨r, h1, h2⟩ := decode_ok t ht
  obtain ⟨r', h3, h4⟩ := rdecode_ok t ht
  rcases h2 with ⟨-, h5, h6⟩ | rfl
  · rw [encode_eq (sm_fits h5)] at h6
    obtain ⟨h7, h8⟩ := ok_of _ h5 (Option.some.inj h6)
    exact .inl ⟨_, h7, h8, by rw [h8]; exact decode_at h7, by rw [h8]; exact rdecode_at h7⟩
  · rcases h4 with ⟨-, h5, h6⟩ | rfl
    · rw [jz (sm_fits h5)] at h6
      obtain ⟨h7, h8⟩ := ok_of _ h5 (Option.some.inj h6)
      exact .inl ⟨_, h7, h8, by rw [h8]; exact decode_at h7, by rw [h8]; exact rdecode_at h7⟩
    · exact .inr ⟨h1, h3⟩
end Go.Dw.Ft


set_option maxRecDepth 100000
set_option maxHeartbeats 4000000
namespace Go.Dw.Ft
open Go.Dw Go.Lib

theorem modO_at {α : Type} {l : List α} {n : Int} {x : α} {f : α → α} (h0 : 0 ≤ n) (hx : l[n.toNat]? = some x) : modO l n f = some (l.set n.toNat (f x)) := by
  unfold modO
  rw [if_pos h0, hx]
theorem set_at {α : Type} {l : List α} {i : Nat} {x y : α} (hx : l[i]? = some x) : (l.set i y)[i]? = some y := by
  obtain ⟨h, -⟩ := List.getElem?_eq_some_iff.1 hx
  rw [List.getElem?_set_self h]
theorem events_l30 {e : Ev} {d : Src} (he : e.aa.aK.length ≤ 64) (i : Int) (hi0 : 0 ≤ i) (hi1 : i ≤ 4) (es : List Ev) (hp : ∀ p ∈ e.aa.aK, dB p) :
    Ok (loopO (ii (e, d) i es) ((0 : Int), e.aa.aK)) (fun o => o.1 = i ∧ o.2.1 = es ∧ o.2.2.length = e.aa.aK.length ∧ ∀ p ∈ o.2.2, dB p) := by
  refine Ok.loop (fun s => 0 ≤ s.1 ∧ s.1 ≤ e.aa.aK.length ∧ s.2.length = e.aa.aK.length ∧ ∀ p ∈ s.2, dB p) (fun s => ((e.aa.aK.length : Int) - s.1).toNat) ?_ ⟨by simp only; omega, by simp only; omega, rfl, hp⟩
  rintro ⟨k, ps⟩ ⟨i0, i1, i2, i3⟩
  simp only at i0 i1 i2 i3
  unfold ii
  refine Ok.iteD (fun hlt => ?_) (fun _ => Ok.st ⟨rfl, rfl, i2, i3⟩)
  simp only at hlt
  refine Ok.bind (Ok.isin i0 (by omega)) (fun _ _ => ?_)
  have hlt' : k.toNat < ps.length := by omega
  have hx := List.getElem?_eq_getElem hlt'
  have hpx := i3 _ (List.getElem_mem hlt')
  rw [modO_at i0 hx, Option.bind_some, modO_at i0 (set_at hx), Option.bind_some, List.set_set, modO_at i0 (set_at hx), Option.bind_some, List.set_set, modO_at i0 (set_at hx), Option.bind_some, List.set_set]
  rw [w64 (n := 400 * i) (by omega) (by omega), w64 (n := 1000 + 400 * i) (by omega) (by omega), w64 (n := 1000 + 400 * i + k) (by omega) (by omega), w64 (n := 1000 + 400 * i + k + 2) (by omega) (by omega), w64 (n := k + 1) (by omega) (by omega)]
  refine Ok.nx ⟨by simp only; omega, by simp only; omega, by simpa using i2, ?_⟩ (by simp only; omega)
  intro p hp'
  rcases List.mem_or_eq_of_mem_set hp' with h | h
  · exact i3 p h
  · subst h
    obtain ⟨hs, h1, h2, h3, h4, h5, h6, h7, h8⟩ := hpx
    refine ⟨hs, ?_⟩
    simp only
    omega
theorem events_ok (d : Src) (hd : du d) : Ok (jn 4 d) (fun r => (r.1.length ≤ 4 ∧ ∀ e ∈ r.1, EvOk e) ∧ du r.2) := by
  unfold jn
  refine Ok.bind (P := fun o => (o.1.length ≤ 4 ∧ ∀ e ∈ o.1, EvOk e) ∧ du ⟨o.2.1, o.2.2⟩) (Ok.loop (fun s => (0 ≤ s.1 ∧ s.1 ≤ 4) ∧ du ⟨s.2.1, s.2.2.1⟩ ∧ s.2.2.2.length ≤ s.1.toNat ∧ ∀ e ∈ s.2.2.2, EvOk e) (fun s => (4 - s.1).toNat) ?_ ⟨by simp, hd, by simp, by simp⟩) (fun o ho => Ok.ret ho)
  rintro ⟨i, L, a, es⟩ ⟨⟨i0, i1⟩, i2, i3, i4⟩
  simp only at i0 i1 i2 i3 i4
  unfold jS
  refine Ok.iteD (fun hlt => ?_) (fun _ => Ok.st ⟨⟨by simp only; omega, i4⟩, i2⟩)
  refine Ok.bind (gN _ _ i2 (by omega) (by omega)) (fun x1 h1 => ?_)
  refine Ok.iteE (fun _ => ?_) (fun _ => ?_)
  · rw [w64 (by omega) (by omega)]
    exact Ok.nx ⟨by simp only; omega, h1.2.2, by simp only; omega, i4⟩ (by simp only; omega)
  · refine Ok.bind (event_ok _ h1.2.2) (fun x2 h2 => ?_)
    obtain ⟨⟨he, hl1⟩, hd2⟩ := h2
    have hl4 := he.sol.len
    refine Ok.bind (events_l30 (d := x2.2) hl4 i i0 i1 es he.sol.picks) (fun o ho => ?_)
    obtain ⟨o1, o2, o3, o4⟩ := ho
    refine Ok.bind (gN _ _ hd2 (by omega) (by omega)) (fun x3 h3 => ?_)
    rw [w64 (n := (o.2.2.length : Int) - 1) (by omega) (by omega)]
    refine Ok.bind (Ok.cut (by split <;> omega) (by split <;> omega) (by omega)) (fun x4 h4 => ?_)
    have hl5 : 1 ≤ x4.length ∧ x4.length ≤ 64 := by
      subst h4
      simp only [List.length_take, List.length_drop]
      split <;> omega
    have hm : ∀ p ∈ x4, dB p := fun p hp => by
      subst h4
      exact o4 p (List.mem_of_mem_drop (List.mem_of_mem_take hp))
    refine Ok.bind (Ok.get (by omega) (by omega)) (fun x5 h5 => ?_)
    rw [o1, o2]
    refine Ok.bind (Ok.app (by simp only [List.length_cons, List.length_nil]; omega)) (fun x6 h6 => ?_)
    subst h6
    rw [w64 (by omega) (by omega)]
    refine Ok.nx ⟨by simp only; omega, h3.2.2, by simp only [List.length_append, List.length_cons, List.length_nil]; omega, ?_⟩ (by simp only; omega)
    intro e hmem
    rcases List.mem_append.1 hmem with hmem | hmem
    · exact i4 e hmem
    · obtain rfl := List.mem_singleton.1 hmem
      obtain ⟨-, -, q1, q2, q3, q4, q5, q6, q7, q8, q9⟩ := he.sol
      exact ⟨hm _ h5.1, ⟨hm, hl5.2, q1, q2, q3, q4, q5, q6, q7, q8, q9⟩⟩

theorem jA (n : Int) : Ok (eh n) (fun _ => True) := by
  unfold eh
  exact Ok.iteD (fun _ => Ok.ret trivial) (fun _ => Ok.ret trivial)
theorem kr (p : Policy) : Ok (dZ p) (fun r => r = 0 → p.bN.length ≤ 8) := by
  unfold dZ
  refine Ok.iteD (fun _ => Ok.ret (fun e => by cases e)) (fun _ => ?_)
  refine Ok.iteD (fun _ => Ok.ret (fun e => by cases e)) (fun h8 => ?_)
  have h8' : p.bN.length ≤ 8 := by omega
  refine Ok.bind (jA _) (fun x _ => Ok.iteN (fun _ => Ok.ret (fun e => by cases e)) (fun _ => ?_))
  refine Ok.bind (jA _) (fun x _ => Ok.iteN (fun _ => Ok.ret (fun e => by cases e)) (fun _ => ?_))
  refine Ok.bind (P := fun _ => True) (Ok.upto (p.bN.length : Int) (by omega) (fun _ => True) trivial (fun i h0 h1 _ => ?_)) (fun o _ => ?_)
  · unfold iv
    refine Ok.iteD (fun hlt => ?_) (fun _ => Ok.st trivial)
    refine Ok.bind (Ok.get h0 hlt) (fun x _ => ?_)
    refine Ok.iteD (fun _ => Ok.st trivial) (fun _ => ?_)
    refine Ok.iteD (fun _ => Ok.st trivial) (fun _ => ?_)
    refine Ok.iteD (fun _ => Ok.st trivial) (fun _ => ?_)
    refine Ok.iteD (fun _ => Ok.st trivial) (fun _ => ?_)
    refine Ok.bind (jA _) (fun x _ => Ok.iteN (fun _ => Ok.st trivial) (fun _ => ?_))
    refine Ok.bind (jA _) (fun x _ => Ok.iteN (fun _ => Ok.st trivial) (fun _ => ?_))
    rw [w64 (by omega) (by omega)]
    exact Ok.nx ⟨⟨by omega, by omega⟩, trivial⟩ (by omega)
  · cases o <;> exact Ok.ret (fun _ => h8')
theorem avalid_l15 (l : List Alert) (hl : l.length ≤ 1000) (s : Int) (h0 : 0 ≤ s) (h1 : s < l.length) : Ok (loopO (gR s l) (0 : Int)) (fun o => ∀ y, o = .inl y → y = s) := by
  refine Ok.upto s h0 (fun _ => True) trivial (fun i g0 g1 _ => ?_)
  have nx : Ok (some (.next (IntKind.wrap .i64 (i + (1 : Int))))) (Ok.S (fun i => (0 ≤ i ∧ i ≤ s) ∧ True) (fun i => (s - i).toNat) (fun o : Int ⊕ Bool => ∀ y, o = .inl y → y = s) i) ∨ ¬ i < s := by
    by_cases hlt : i < s
    · left
      rw [w64 (by omega) (by omega)]
      exact Ok.nx ⟨⟨by omega, by omega⟩, trivial⟩ (by omega)
    · exact .inr hlt
  unfold gR
  refine Ok.iteD (fun hlt => ?_) (fun _ => Ok.st (fun y e => by cases e; rfl))
  have nx := nx.resolve_right (fun h => h hlt)
  refine Ok.bind (Ok.get h0 h1) (fun x _ => Ok.iteN (fun _ => ?_) (fun _ => nx))
  refine Ok.bind (Ok.get g0 (by omega)) (fun x _ => Ok.iteN (fun _ => ?_) (fun _ => nx))
  refine Ok.bind (Ok.get h0 h1) (fun x _ => ?_)
  refine Ok.bind (Ok.get g0 (by omega)) (fun y _ => ?_)
  exact Ok.iteB (fun _ => Ok.st (fun y e => by cases e)) (fun _ => nx)
theorem avalid_ok (l : List Alert) (hl : l.length ≤ 1000) : Ok (iM l) (fun _ => True) := by
  unfold iM
  refine Ok.bind (P := fun _ => True) (Ok.upto (l.length : Int) (by omega) (fun _ => True) trivial (fun i h0 h1 _ => ?_)) (fun o _ => by cases o <;> exact Ok.ret trivial)
  unfold jM
  refine Ok.iteD (fun hlt => ?_) (fun _ => Ok.st trivial)
  have k19 : Ok (ep i l) (Ok.S (fun i => (0 ≤ i ∧ i ≤ (l.length : Int)) ∧ True) (fun i => ((l.length : Int) - i).toNat) (fun _ : Unit ⊕ Bool => True) i) := by
    unfold ep
    refine Ok.bind (avalid_l15 l hl i h0 hlt) (fun o ho => ?_)
    cases o with
    | inl y =>
      obtain rfl := ho y rfl
      simp only
      rw [w64 (by omega) (by omega)]
      exact Ok.nx ⟨⟨by omega, by omega⟩, trivial⟩ (by omega)
    | inr y => exact Ok.st trivial
  refine Ok.bind (Ok.get h0 hlt) (fun x _ => Ok.iteD (fun _ => Ok.st trivial) (fun _ => ?_))
  refine Ok.bind (Ok.get h0 hlt) (fun x _ => Ok.iteD (fun _ => Ok.st trivial) (fun _ => ?_))
  refine Ok.iteD (fun hpos => ?_) (fun _ => ?_)
  · rw [w64 (by omega) (by omega)]
    refine Ok.bind (Ok.get h0 hlt) (fun x _ => ?_)
    refine Ok.bind (Ok.get (by omega) (by omega)) (fun y _ => Ok.iteD (fun _ => Ok.st trivial) (fun _ => ?_))
    refine Ok.bind (Ok.get h0 hlt) (fun x _ => Ok.iteD (fun _ => Ok.st trivial) (fun _ => ?_))
    refine Ok.bind (Ok.get h0 hlt) (fun x _ => Ok.iteD (fun _ => Ok.st trivial) (fun _ => k19))
  · refine Ok.bind (Ok.get h0 hlt) (fun x _ => Ok.iteD (fun _ => Ok.st trivial) (fun _ => ?_))
    refine Ok.bind (Ok.get h0 hlt) (fun x _ => Ok.iteD (fun _ => Ok.st trivial) (fun _ => k19))
theorem rcmp_ok (a b : List UInt8) : Ok (dR a b) (fun _ => True) := by
  unfold dR
  exact Ok.iteB (fun _ => Ok.ret trivial) (fun _ => Ok.iteN (fun _ => Ok.ret trivial) (fun _ => Ok.ret trivial))
theorem rcmp3_ok (a b : Sid) : Ok (gB a b) (fun _ => True) := by
  unfold gB
  refine Ok.bind (rcmp_ok _ _) (fun x1 _ => ?_)
  refine Ok.bind (rcmp_ok _ _) (fun x2 _ => ?_)
  refine Ok.bind (rcmp_ok _ _) (fun x3 _ => ?_)
  refine Ok.bind (rcmp_ok _ _) (fun x4 _ => ?_)
  repeat' (first | refine Ok.iteNe (fun _ => ?_) (fun _ => ?_) | exact Ok.ret trivial)
theorem rcmp23_ok (a b : Pick) : Ok (fa a b) (fun _ => True) := by
  unfold fa
  refine Ok.bind (rcmp3_ok _ _) (fun x1 _ => Ok.iteNe (fun _ => Ok.ret trivial) (fun _ => ?_))
  repeat' (first | refine Ok.iteD (fun _ => ?_) (fun _ => ?_) | exact Ok.ret trivial)
theorem rcmp34_ok (a b : Pick) : Ok (fb a b) (fun _ => True) := by
  unfold fb
  refine Ok.iteD (fun _ => Ok.ret trivial) (fun _ => Ok.iteD (fun _ => Ok.ret trivial) (fun _ => ?_))
  exact Ok.bind (rcmp23_ok _ _) (fun x _ => Ok.ret trivial)
theorem name_ok (l : List Pick) (h1 : 1 ≤ l.length) (h2 : l.length ≤ 1000) : Ok (jt l) (fun _ => True) := by
  unfold jt
  refine Ok.bind (Ok.get (by omega) (by omega)) (fun x _ => ?_)
  refine Ok.bind (P := fun _ => True) (Ok.loop (fun s => 0 ≤ s.1 ∧ s.1 ≤ (l.length : Int)) (fun s => ((l.length : Int) - s.1).toNat) ?_ ⟨by simp only; omega, by simp only; omega⟩) (fun o _ => Ok.ret trivial)
  rintro ⟨i, a1, a2, a3, a4, a5, a6, a7, a8, a9⟩ ⟨i0, i1⟩
  simp only at i0 i1
  unfold kj
  refine Ok.iteD (fun hlt => ?_) (fun _ => Ok.st trivial)
  refine Ok.bind (Ok.get i0 hlt) (fun x _ => ?_)
  refine Ok.bind (rcmp34_ok _ _) (fun y _ => ?_)
  rw [w64 (by omega) (by omega)]
  refine Ok.iteD (fun _ => ?_) (fun _ => ?_)
  · refine Ok.bind (Ok.get i0 hlt) (fun x _ => ?_)
    exact Ok.nx ⟨by simp only; omega, by simp only; omega⟩ (by simp only; omega)
  · exact Ok.nx ⟨by simp only; omega, by simp only; omega⟩ (by simp only; omega)
theorem copyL_len {α : Type} {l y : List α} {a m : Nat} (h : a + m ≤ l.length) : (copyL l a m y).length = l.length := by
  have : Nat.min y.length m ≤ m := Nat.min_le_right _ _
  have h2 : Nat.min y.length m ≤ y.length := Nat.min_le_left _ _
  simp only [copyL, List.length_append, List.length_take, List.length_drop]
  omega
theorem sort_ok (l : List Pick) (hl : l.length ≤ 1000) : Ok (jr l) (fun r => r.length ≤ 1000) := by
  unfold jr
  refine Ok.bind (P := fun o => o.length ≤ 1000) (Ok.loop (fun s => 0 ≤ s.1 ∧ s.1 ≤ (l.length : Int) ∧ s.2.length ≤ s.1.toNat) (fun s => ((l.length : Int) - s.1).toNat) ?_ ⟨by simp, by simp, by simp⟩) (fun o ho => Ok.ret ho)
  rintro ⟨i, ps⟩ ⟨i0, i1, i2⟩
  simp only at i0 i1 i2
  unfold kd
  refine Ok.iteD (fun hlt => ?_) (fun _ => Ok.st (show ps.length ≤ 1000 by omega))
  refine Ok.bind (P := fun o => o.1 = i ∧ (0 ≤ o.2.1 ∧ o.2.1 ≤ (ps.length : Int)) ∧ o.2.2 = ps) (Ok.loop (fun k : Int => 0 ≤ k ∧ k ≤ (ps.length : Int)) (fun k => k.toNat) ?_ ⟨by omega, by omega⟩) ?_
  · rintro k ⟨k0, k1⟩
    unfold kc
    refine Ok.iteD (fun hk => ?_) (fun _ => Ok.st ⟨rfl, ⟨k0, k1⟩, rfl⟩)
    rw [w64 (by omega) (by omega)]
    refine Ok.bind (Ok.isin (by omega) (by omega)) (fun _ _ => ?_)
    refine Ok.bind (Ok.get (by omega) (by omega)) (fun x _ => ?_)
    refine Ok.bind (Ok.get i0 hlt) (fun y _ => ?_)
    refine Ok.bind (rcmp23_ok _ _) (fun z _ => ?_)
    exact Ok.iteD (fun _ => Ok.nx ⟨by omega, by omega⟩ (by omega)) (fun _ => Ok.st ⟨rfl, ⟨k0, k1⟩, rfl⟩)
  · rintro ⟨o1, o2, o3⟩ ⟨e1, ⟨k0, k1⟩, e3⟩
    simp only at e1 k0 k1 e3
    subst e1 e3
    have k31 : Ok (eJ l (o1, o2, o3)) (Ok.S (fun s => 0 ≤ s.1 ∧ s.1 ≤ (l.length : Int) ∧ s.2.length ≤ s.1.toNat) (fun s => ((l.length : Int) - s.1).toNat) (fun o : List Pick => o.length ≤ 1000) (o1, o3)) := by
      unfold eJ
      simp only
      refine Ok.bind (Ok.get i0 hlt) (fun x _ => ?_)
      refine Ok.bind (Ok.app (by simp only [List.length_cons, List.length_nil]; omega)) (fun y hy => ?_)
      have hyl : y.length = o3.length + 1 := by rw [hy]; simp
      rw [w64 (n := o2 + 1) (by omega) (by omega), w64 (n := o1 + 1) (by omega) (by omega)]
      refine Ok.bind (Ok.sub (by omega) (by omega) (by omega)) (fun _ _ => ?_)
      refine Ok.bind (Ok.sub (by omega) (by omega) (by omega)) (fun _ _ => ?_)
      refine Ok.bind (Ok.view (by omega) (by omega)) (fun _ _ => ?_)
      refine Ok.bind (Ok.part (by omega) (by omega)) (fun z _ => ?_)
      refine Ok.bind (Ok.get i0 hlt) (fun x2 _ => ?_)
      have hc : (copyL y (0 + (o2 + 1).toNat) (0 + ((y.length : Int)).toNat - (0 + (o2 + 1).toNat)) z).length = y.length := copyL_len (by omega)
      refine Ok.bind (Ok.isin (by omega) (by rw [hc]; omega)) (fun _ _ => ?_)
      refine Ok.bind (Ok.set (by omega) (by rw [hc]; omega)) (fun w hw => ?_)
      have hwl : w.length = y.length := by rw [hw, List.length_set, hc]
      exact Ok.nx ⟨by simp only; omega, by simp only; omega, by simp only; omega⟩ (by simp only; omega)
    simp only
    refine Ok.iteD (fun hpos => ?_) (fun _ => k31)
    rw [w64 (n := o2 - 1) (by omega) (by omega)]
    refine Ok.bind (Ok.isin (by omega) (by omega)) (fun _ _ => ?_)
    refine Ok.bind (Ok.get (by omega) (by omega)) (fun x _ => ?_)
    refine Ok.bind (Ok.get i0 hlt) (fun y _ => ?_)
    refine Ok.iteB (fun _ => ?_) (fun _ => k31)
    rw [w64 (by omega) (by omega)]
    exact Ok.nx ⟨by simp only; omega, by simp only; omega, by simp only; omega⟩ (by simp only; omega)
theorem samePicks_ok (a b : List Pick) (hl : a.length ≤ 1000) : Ok (cB a b) (fun _ => True) := by
  unfold cB
  refine Ok.iteNe (fun _ => Ok.ret trivial) (fun he => ?_)
  refine Ok.bind (P := fun _ => True) (Ok.upto (a.length : Int) (by omega) (fun _ => True) trivial (fun i h0 h1 _ => ?_)) (fun o _ => by cases o <;> exact Ok.ret trivial)
  unfold da
  refine Ok.iteD (fun hlt => ?_) (fun _ => Ok.st trivial)
  refine Ok.bind (Ok.get h0 hlt) (fun x _ => ?_)
  refine Ok.bind (Ok.get h0 (by omega)) (fun y _ => ?_)
  refine Ok.iteN (fun _ => Ok.st trivial) (fun _ => ?_)
  rw [w64 (by omega) (by omega)]
  exact Ok.nx ⟨⟨by omega, by omega⟩, trivial⟩ (by omega)
theorem common_l11_ok (a b : List Pick) (hb : b.length ≤ 1000) (s : Int) (h0 : 0 ≤ s) (h1 : s < a.length) : Ok (loopO (gp b a s) (0 : Int)) (fun o => ∀ y, o = .inl y → y = s) := by
  refine Ok.upto (b.length : Int) (by omega) (fun _ => True) trivial (fun i g0 g1 _ => ?_)
  unfold gp
  refine Ok.iteD (fun hlt => ?_) (fun _ => Ok.st (fun y e => by cases e; rfl))
  refine Ok.bind (Ok.get h0 h1) (fun x _ => ?_)
  refine Ok.bind (Ok.get g0 hlt) (fun y _ => ?_)
  refine Ok.iteB (fun _ => Ok.st (fun y e => by cases e)) (fun _ => ?_)
  rw [w64 (by omega) (by omega)]
  exact Ok.nx ⟨⟨by omega, by omega⟩, trivial⟩ (by omega)
theorem common_ok (a b : List Pick) (ha : a.length ≤ 1000) (hb : b.length ≤ 1000) : Ok (fS a b) (fun _ => True) := by
  unfold fS
  refine Ok.bind (P := fun _ => True) (Ok.upto (a.length : Int) (by omega) (fun _ => True) trivial (fun i h0 h1 _ => ?_)) (fun o _ => by cases o <;> exact Ok.ret trivial)
  unfold je
  refine Ok.iteD (fun hlt => ?_) (fun _ => Ok.st trivial)
  refine Ok.bind (common_l11_ok a b hb i h0 hlt) (fun o ho => ?_)
  cases o with
  | inl y =>
    obtain rfl := ho y rfl
    simp only
    rw [w64 (by omega) (by omega)]
    exact Ok.nx ⟨⟨by omega, by omega⟩, trivial⟩ (by omega)
  | inr y => exact Ok.st trivial
theorem common36_eq (a b : List Pick) : jv a b = fS a b := rfl
theorem evalid_ok (l : List Ev) (hl : l.length ≤ 1000) (h : ∀ e ∈ l, e.aa.aK.length ≤ 1000) : Ok (iJ l) (fun _ => True) := by
  unfold iJ
  refine Ok.bind (P := fun _ => True) (Ok.upto (l.length : Int) (by omega) (fun _ => True) trivial (fun i h0 h1 _ => ?_)) (fun o _ => by cases o <;> exact Ok.ret trivial)
  unfold jJ
  refine Ok.iteD (fun hlt => ?_) (fun _ => Ok.st trivial)
  refine Ok.bind (Ok.get h0 hlt) (fun x hx => ?_)
  have hxl := h x hx.1
  have k16 : Ok (em i l x) (Ok.S (fun i => (0 ≤ i ∧ i ≤ (l.length : Int)) ∧ True) (fun i => ((l.length : Int) - i).toNat) (fun _ : Unit ⊕ Bool => True) i) := by
    unfold em
    refine Ok.bind (P := fun o : Int ⊕ Bool => ∀ y, o = .inl y → y = i) (Ok.upto i h0 (fun _ => True) trivial (fun k g0 g1 _ => ?_)) (fun o ho => ?_)
    · unfold jI
      refine Ok.iteD (fun hk => ?_) (fun _ => Ok.st (fun y e => by cases e; rfl))
      refine Ok.bind (Ok.get g0 (by omega)) (fun y hy => ?_)
      refine Ok.bind (common_ok _ _ hxl (h y hy.1)) (fun z _ => ?_)
      refine Ok.iteB (fun _ => Ok.st (fun y e => by cases e)) (fun _ => ?_)
      rw [w64 (by omega) (by omega)]
      exact Ok.nx ⟨⟨by omega, by omega⟩, trivial⟩ (by omega)
    · cases o with
      | inl y =>
        obtain rfl := ho y rfl
        simp only
        rw [w64 (by omega) (by omega)]
        exact Ok.nx ⟨⟨by omega, by omega⟩, trivial⟩ (by omega)
      | inr y => exact Ok.st trivial
  refine Ok.iteE (fun _ => Ok.st trivial) (fun hne => ?_)
  refine Ok.bind (Ok.get h0 hlt) (fun x2 _ => ?_)
  refine Ok.bind (name_ok _ (by omega) hxl) (fun x3 _ => ?_)
  refine Ok.iteN (fun _ => Ok.st trivial) (fun _ => ?_)
  refine Ok.bind (sort_ok _ hxl) (fun x4 _ => ?_)
  refine Ok.bind (samePicks_ok _ _ hxl) (fun x5 _ => Ok.iteN (fun _ => Ok.st trivial) (fun _ => ?_))
  refine Ok.iteD (fun hpos => ?_) (fun _ => k16)
  rw [w64 (by omega) (by omega)]
  refine Ok.bind (Ok.get (by omega) (by omega)) (fun x6 _ => ?_)
  refine Ok.bind (Ok.get h0 hlt) (fun x7 _ => ?_)
  refine Ok.bind (rcmp34_ok _ _) (fun x8 _ => ?_)
  exact Ok.iteD (fun _ => Ok.st trivial) (fun _ => k16)
theorem errors_ok (p : Policy) (l : List Alert) (n : Int) (es : List Ev) (now : Int) (hl : l.length ≤ 1000) (hel : es.length ≤ 1000) (h : ∀ e ∈ es, e.aa.aK.length ≤ 1000) : Ok (hU p l n es now) (fun r => r = 0 → p.bN.length ≤ 8) := by
  have k14 : p.bN.length ≤ 8 → Ok (d7 now l) (fun r => r = 0 → p.bN.length ≤ 8) := by
    intro h8
    unfold d7
    refine Ok.iteD (fun _ => Ok.ret (fun _ => h8)) (fun _ => Ok.iteD (fun _ => Ok.ret (fun _ => h8)) (fun _ => ?_))
    refine Ok.bind (P := fun _ => True) (Ok.upto (l.length : Int) (by omega) (fun _ => True) trivial (fun i h0 h1 _ => ?_)) (fun o _ => by cases o <;> exact Ok.ret (fun _ => h8))
    unfold jf
    refine Ok.iteD (fun hlt => ?_) (fun _ => Ok.st trivial)
    refine Ok.bind (Ok.get h0 hlt) (fun x _ => Ok.iteD (fun _ => Ok.st trivial) (fun _ => ?_))
    rw [w64 (by omega) (by omega)]
    exact Ok.nx ⟨⟨by omega, by omega⟩, trivial⟩ (by omega)
  unfold hU
  refine Ok.bind (kr p) (fun x hx => Ok.iteNe (fun _ => Ok.ret (fun e => by cases e)) (fun h0 => ?_))
  have h8 := hx h0
  refine Ok.bind (avalid_ok l hl) (fun x _ => Ok.iteN (fun _ => Ok.ret (fun _ => h8)) (fun _ => ?_))
  refine Ok.bind (evalid_ok es hel h) (fun x _ => Ok.iteN (fun _ => Ok.ret (fun _ => h8)) (fun _ => ?_))
  refine Ok.iteD (fun _ => Ok.ret (fun _ => h8)) (fun _ => Ok.iteD (fun hpos => ?_) (fun _ => k14 h8))
  rw [w64 (by omega) (by omega)]
  refine Ok.bind (Ok.get (by omega) (by omega)) (fun x _ => ?_)
  exact Ok.iteD (fun _ => Ok.ret (fun _ => h8)) (fun _ => k14 h8)
end Go.Dw.Ft


set_option maxRecDepth 100000
set_option maxHeartbeats 4000000
namespace Go.Dw.Ft
open Go.Dw Go.Lib

theorem inq_ok (a : Int) (d : List Int) (hl : d.length ≤ 1000000) : Ok (jj a d) (fun r => r.2 = d) := by
  unfold jj
  refine Ok.bind (P := fun o : Unit ⊕ (Bool × List Int) => ∀ y, o = .inr y → y.2 = d) (Ok.upto (d.length : Int) (by omega) (fun _ => True) trivial (fun i h0 h1 _ => ?_)) (fun o ho => ?_)
  · unfold lj
    refine Ok.iteD (fun hlt => ?_) (fun _ => Ok.st (fun y e => by cases e))
    refine Ok.bind (Ok.isin h0 hlt) (fun _ _ => ?_)
    refine Ok.bind (Ok.get h0 hlt) (fun x _ => ?_)
    refine Ok.iteE (fun _ => Ok.st (fun y e => by cases e; rfl)) (fun _ => ?_)
    rw [w64 (by omega) (by omega)]
    exact Ok.nx ⟨⟨by omega, by omega⟩, trivial⟩ (by omega)
  · cases o with
    | inl y => exact Ok.ret rfl
    | inr y => exact Ok.ret (ho y rfl)
theorem inqq_ok (d : List Int) (a : Int) (hl : d.length ≤ 1000000) : Ok (jx d a) (fun _ => True) := by
  unfold jx
  refine Ok.bind (P := fun _ => True) (Ok.upto (d.length : Int) (by omega) (fun _ => True) trivial (fun i h0 h1 _ => ?_)) (fun o _ => by cases o <;> exact Ok.ret trivial)
  unfold kM
  refine Ok.iteD (fun hlt => ?_) (fun _ => Ok.st trivial)
  refine Ok.bind (Ok.get h0 hlt) (fun x _ => ?_)
  refine Ok.iteE (fun _ => Ok.st trivial) (fun _ => ?_)
  rw [w64 (by omega) (by omega)]
  exact Ok.nx ⟨⟨by omega, by omega⟩, trivial⟩ (by omega)
theorem index_ok (es : List Ev) (p : Pick) (hl : es.length ≤ 1000000) : Ok (iI es p) (fun r => r < es.length) := by
  unfold iI
  refine Ok.bind (P := fun o : Unit ⊕ Int => ∀ y, o = .inr y → y < es.length) (Ok.upto (es.length : Int) (by omega) (fun _ => True) trivial (fun i h0 h1 _ => ?_)) (fun o ho => ?_)
  · unfold kg
    refine Ok.iteD (fun hlt => ?_) (fun _ => Ok.st (fun y e => by cases e))
    refine Ok.bind (Ok.get h0 hlt) (fun x _ => ?_)
    refine Ok.iteB (fun _ => Ok.st (fun y e => by cases e; exact hlt)) (fun _ => ?_)
    rw [w64 (by omega) (by omega)]
    exact Ok.nx ⟨⟨by omega, by omega⟩, trivial⟩ (by omega)
  · cases o with
    | inl y => exact Ok.ret (by omega)
    | inr y => exact Ok.ret (ho y rfl)
def kB (es : List Ev) (n : Nat) (r : List Int) : Prop := r.length = n ∧ ∀ x ∈ r, x < es.length
theorem follow_ok (l : List Alert) (es : List Ev) (hl : l.length ≤ 1000) (hel : es.length ≤ 1000) (hp : ∀ a ∈ l, a.ae.aa.aK.length ≤ 1000) (hq : ∀ e ∈ es, e.aa.aK.length ≤ 1000) : Ok (hX l es) (fun r => kB es l.length r) := by
  unfold hX
  refine Ok.bind (P := fun o => kB es l.length o) (Ok.loop (fun s => (0 ≤ s.1 ∧ s.1 ≤ (l.length : Int)) ∧ kB es s.1.toNat s.2) (fun s => ((l.length : Int) - s.1).toNat) ?_ ⟨by simp, by simp [kB]⟩) (fun o ho => ?_)
  · rintro ⟨i, d⟩ ⟨⟨i0, i1⟩, i2, i3⟩
    simp only at i0 i1 i2 i3
    unfold jg
    refine Ok.iteD (fun hlt => ?_) (fun _ => Ok.st ⟨by omega, i3⟩)
    have k11 : ∀ j : Int, j < es.length → Ok (d8 d i j) (Ok.S (fun s => (0 ≤ s.1 ∧ s.1 ≤ (l.length : Int)) ∧ kB es s.1.toNat s.2) (fun s => ((l.length : Int) - s.1).toNat) (fun o => kB es l.length o) (i, d)) := by
      intro j hj
      have go : ∀ x : Int, x < es.length → kB es (i + 1).toNat (d ++ [x]) := by
        intro x hx
        refine ⟨by simp only [List.length_append, List.length_cons, List.length_nil]; omega, fun y hy => ?_⟩
        rcases List.mem_append.1 hy with hy | hy
        · exact i3 y hy
        · obtain rfl := List.mem_singleton.1 hy; exact hx
      unfold d8
      refine Ok.bind (inq_ok _ _ (by omega)) (fun x hx => ?_)
      rw [hx, w64 (by omega) (by omega)]
      refine Ok.iteB (fun _ => ?_) (fun _ => ?_)
      · refine Ok.bind (Ok.app (by simp only [List.length_cons, List.length_nil]; omega)) (fun y hy => ?_)
        subst hy
        exact Ok.nx ⟨by simp only; omega, go (-1) (by omega)⟩ (by simp only; omega)
      · refine Ok.bind (Ok.app (by simp only [List.length_cons, List.length_nil]; omega)) (fun y hy => ?_)
        subst hy
        exact Ok.nx ⟨by simp only; omega, go j hj⟩ (by simp only; omega)
    refine Ok.bind (Ok.get i0 hlt) (fun x _ => Ok.iteN (fun _ => ?_) (fun _ => k11 _ (by omega)))
    refine Ok.bind (Ok.get i0 hlt) (fun x _ => ?_)
    exact Ok.bind (index_ok _ _ (by omega)) (fun y hy => k11 y hy)
  · refine Ok.bind (P := fun o => kB es l.length o) (Ok.loop (fun s => (0 ≤ s.1 ∧ s.1 ≤ (l.length : Int)) ∧ kB es l.length s.2) (fun s => ((l.length : Int) - s.1).toNat) ?_ ⟨by simp only; omega, ho⟩) (fun o ho => Ok.ret ho)
    rintro ⟨i, d⟩ ⟨⟨i0, i1⟩, i2⟩
    simp only at i0 i1 i2
    unfold ji
    refine Ok.iteD (fun hlt => ?_) (fun _ => Ok.st i2)
    refine Ok.bind (P := fun o => o.1 = i ∧ kB es l.length o.2) (Ok.loop (fun s => (0 ≤ s.1 ∧ s.1 ≤ (es.length : Int)) ∧ kB es l.length s.2) (fun s => ((es.length : Int) - s.1).toNat) ?_ ⟨by simp only; omega, i2⟩) (fun o ho => ?_)
    · rintro ⟨k, d⟩ ⟨⟨k0, k1⟩, k2⟩
      simp only at k0 k1 k2
      unfold jh
      refine Ok.iteD (fun hk => ?_) (fun _ => Ok.st ⟨rfl, k2⟩)
      have hdl := k2.1
      have nx : Ok (some (.next (IntKind.wrap .i64 (k + (1 : Int)), d))) (Ok.S (fun s => (0 ≤ s.1 ∧ s.1 ≤ (es.length : Int)) ∧ kB es l.length s.2) (fun s => ((es.length : Int) - s.1).toNat) (fun o : Int × List Int => o.1 = i ∧ kB es l.length o.2) (k, d)) := by
        rw [w64 (by omega) (by omega)]
        exact Ok.nx ⟨by simp only; omega, k2⟩ (by simp only; omega)
      refine Ok.bind (Ok.isin i0 (by omega)) (fun _ _ => ?_)
      refine Ok.bind (Ok.get i0 (by omega)) (fun x _ => Ok.iteD (fun _ => ?_) (fun _ => Ok.st ⟨rfl, k2⟩))
      refine Ok.bind (Ok.get i0 hlt) (fun y _ => Ok.iteN (fun _ => ?_) (fun _ => Ok.st ⟨rfl, k2⟩))
      refine Ok.bind (inq_ok _ _ (by omega)) (fun z hz => ?_)
      rw [hz]
      refine Ok.iteN (fun _ => ?_) (fun _ => nx)
      refine Ok.bind (Ok.get i0 hlt) (fun a ha => ?_)
      refine Ok.bind (Ok.get k0 hk) (fun b hb => ?_)
      rw [common36_eq]
      refine Ok.bind (common_ok _ _ (hp a ha.1) (hq b hb.1)) (fun c _ => Ok.iteB (fun _ => ?_) (fun _ => nx))
      refine Ok.bind (Ok.isin i0 (by omega)) (fun _ _ => ?_)
      refine Ok.bind (Ok.set i0 (by omega)) (fun w hw => ?_)
      subst hw
      rw [w64 (by omega) (by omega)]
      refine Ok.nx ⟨by simp only; omega, by rw [List.length_set]; exact hdl, fun x hx => ?_⟩ (by simp only; omega)
      rcases List.mem_or_eq_of_mem_set hx with h | h
      · exact k2.2 x h
      · subst h; exact hk
    · obtain ⟨o1, o2⟩ := o
      obtain ⟨rfl, ho⟩ := ho
      simp only
      rw [w64 (by omega) (by omega)]
      exact Ok.nx ⟨by simp only; omega, ho⟩ (by simp only; omega)

theorem meets_ok (r : bj) (e : Ev) : Ok (iK r e) (fun _ => True) := by
  unfold iK
  repeat' (first | refine Ok.iteD (fun _ => ?_) (fun _ => ?_) | exact Ok.ret trivial)
theorem ja (p : Policy) (e : Ev) (h8 : p.bN.length ≤ 8) : Ok (dL p e) (fun r => 0 ≤ r ∧ r ≤ p.bN.length) := by
  unfold dL
  refine Ok.bind (P := fun r : Int => 0 ≤ r ∧ r ≤ (p.bN.length : Int)) (Ok.loop (fun s : Int × Int => (0 ≤ s.2 ∧ s.2 ≤ (p.bN.length : Int)) ∧ 0 ≤ s.1 ∧ s.1 ≤ s.2) (fun s => ((p.bN.length : Int) - s.2).toNat) ?_ ⟨by simp, by simp⟩) (fun o ho => Ok.ret ho)
  rintro ⟨v, i⟩ ⟨⟨i0, i1⟩, i2, i3⟩
  simp only at i0 i1 i2 i3
  unfold jL
  have hst : Ok (some (.stop v)) (Ok.S (fun s : Int × Int => (0 ≤ s.2 ∧ s.2 ≤ (p.bN.length : Int)) ∧ 0 ≤ s.1 ∧ s.1 ≤ s.2) (fun s => ((p.bN.length : Int) - s.2).toNat) (fun r : Int => 0 ≤ r ∧ r ≤ p.bN.length) (v, i)) := Ok.st ⟨i2, by omega⟩
  refine Ok.iteD (fun hlt => ?_) (fun _ => hst)
  refine Ok.bind (kr p) (fun x _ => Ok.iteE (fun _ => ?_) (fun _ => hst))
  refine Ok.bind (Ok.get i0 hlt) (fun y _ => ?_)
  refine Ok.bind (meets_ok _ _) (fun z _ => ?_)
  rw [w64 (by omega) (by omega)]
  refine Ok.iteB (fun _ => ?_) (fun _ => ?_)
  · exact Ok.nx ⟨by simp only; omega, by simp only; omega⟩ (by simp only; omega)
  · exact Ok.nx ⟨by simp only; omega, by simp only; omega⟩ (by simp only; omega)
theorem v24_ok (p : aj) : Ok (gF p) (fun _ => True) := by
  unfold gF
  repeat' (first | refine Ok.iteD (fun _ => ?_) (fun _ => ?_) | exact Ok.ret trivial)
theorem square_ok (p q : aj) : Ok (hP p q) (fun _ => True) := by
  unfold hP fQ
  refine Ok.bind (v24_ok _) (fun x _ => Ok.iteN (fun _ => Ok.ret trivial) (fun _ => ?_))
  refine Ok.bind (v24_ok _) (fun x _ => Ok.iteN (fun _ => Ok.ret trivial) (fun _ => ?_))
  simp only [Option.bind_some]
  exact Ok.ret trivial
theorem moved_ok (p : Policy) (a b : Ev) (h8 : p.bN.length ≤ 8) : Ok (iL p a b) (fun _ => True) := by
  unfold iL fT kf
  refine Ok.bind (kr p) (fun x _ => Ok.iteNe (fun _ => Ok.ret trivial) (fun _ => ?_))
  refine Ok.bind (ja p _ h8) (fun y _ => ?_)
  refine Ok.bind (ja p _ h8) (fun z _ => Ok.iteNe (fun _ => Ok.ret trivial) (fun _ => ?_))
  refine Ok.bind (P := fun _ => True) (Ok.ret trivial) (fun w _ => Ok.iteN (fun _ => Ok.ret trivial) (fun _ => ?_))
  refine Ok.iteD (fun _ => ?_) (fun _ => Ok.ret trivial)
  exact Ok.bind (square_ok _ _) (fun v _ => Ok.iteD (fun _ => Ok.ret trivial) (fun _ => Ok.ret trivial))
theorem timely_ok (p : Policy) (e : Ev) (now : Int) (h8 : p.bN.length ≤ 8) : Ok (hT p e now) (fun _ => True) := by
  unfold hT
  refine Ok.bind (ja p e h8) (fun x hx => Ok.iteE (fun _ => Ok.ret trivial) (fun hne => ?_))
  refine Ok.iteD (fun _ => ?_) (fun _ => Ok.ret trivial)
  rw [w64 (n := x - 1) (by omega) (by omega)]
  exact Ok.bind (Ok.get (by omega) (by omega)) (fun y _ => Ok.ret trivial)

structure BulPre (b : Bul) : Prop where
  num0 : 0 ≤ b.aQ
  kind0 : 1 ≤ b.bh
  kind1 : b.bh ≤ 3
  id0 : 0 ≤ b.fID
  id1 : b.fID ≤ b.aQ
  iss : b.fID = b.aQ ↔ b.bh = 1
  lev0 : 0 ≤ b.aW
  lev1 : b.aW ≤ 8
  at_ : dA b.fAt
  ev : EvOk b.ae
theorem BulPre.ok {b : Bul} (h : BulPre b) (h1 : b.aQ < 1000) : fD b := by
  obtain ⟨a1, a2, a3, a4, a5, a6, a7, a8, a9, a10⟩ := h
  exact ⟨a1, h1, a2, a3, a4, a5, a6, a7, a8, a9, a10⟩
structure AlOk (n : Int) (a : Alert) : Prop where
  id0 : 0 ≤ a.fID
  id1 : a.fID < n
  lev0 : 0 ≤ a.aW
  lev1 : a.aW ≤ 8
  ev : EvOk a.ae
theorem AlOk.mono {n m : Int} {a : Alert} (h : AlOk n a) (hm : n ≤ m) : AlOk m a := ⟨h.id0, by have := h.id1; omega, h.lev0, h.lev1, h.ev⟩
def TlOk (n : Int) (l : List Bul) : Prop := (∀ b ∈ l, BulPre b) ∧ ∀ (k : Nat) (h : k < l.length), l[k].aQ = n + (k : Int)
theorem TlOk.app {n : Int} {l : List Bul} {b : Bul} (h : TlOk n l) (hb : BulPre b) (hn : b.aQ = n + (l.length : Int)) : TlOk n (l ++ [b]) := by
  refine ⟨fun x hx => ?_, fun k hk => ?_⟩
  · rcases List.mem_append.1 hx with hx | hx
    · exact h.1 x hx
    · obtain rfl := List.mem_singleton.1 hx; exact hb
  · by_cases hlt : k < l.length
    · rw [List.getElem_append_left hlt]; exact h.2 k hlt
    · have : k = l.length := by simp only [List.length_append, List.length_cons, List.length_nil] at hk; omega
      subst this
      simpa using hn
theorem mem_snoc {α : Type} {P : α → Prop} {l : List α} {x : α} (h : ∀ a ∈ l, P a) (hx : P x) : ∀ a ∈ l ++ [x], P a := by
  intro a ha
  rcases List.mem_append.1 ha with ha | ha
  · exact h a ha
  · obtain rfl := List.mem_singleton.1 ha; exact hx
structure Inv (L n : Int) (s : Int × List Alert × List Bul) : Prop where
  i0 : 0 ≤ s.1
  i1 : s.1 ≤ L
  al : s.2.1.length = s.1.toNat
  tl : s.2.2.length ≤ s.1.toNat
  als : ∀ a ∈ s.2.1, AlOk n a
  tls : TlOk n s.2.2
def Fin (n : Int) (o : List Alert × List Bul) : Prop := (o.1.length ≤ 200 ∧ o.2.length ≤ 200) ∧ (∀ a ∈ o.1, AlOk n a) ∧ TlOk n o.2
theorem k53_ok {Q : List Alert × List Bul → Prop} {L n now : Int} {x : Alert} {al : List Alert} {bs : List Bul} {i kind lev : Int} {wd : Bool} {e : Ev} {j12 j13 j14 j15 : List UInt8} {j16 j17 j18 j19 j20 : Int} (hI : Inv L n (i, al, bs)) (hL : L ≤ 200) (hn0 : 0 ≤ n) (hn1 : n ≤ 1000) (hi : i < L) (hx : AlOk n x) (hk : kind = 0 ∨ kind = 2 ∨ kind = 3)
    (hl0 : 0 ≤ lev) (hl1 : lev ≤ 8) (hnow0 : 0 ≤ now) (hnow1 : now ≤ 1000000) (he : EvOk e) :
    Ok (cI bs n x now al j12 j13 j14 j15 j16 j17 j18 j19 j20 i kind wd lev e.ak.ah.aC e.ak.ah.aE e.ak.ah.ac e.ak.ah.aD e.ak.aF e.ak.aJ e.ak.aN e.ak.au e.ak.av e.aa.aK e.aa.ac.aA.fX e.aa.ac.aA.fY e.aa.ac.aA.fZ
      e.aa.ac.aF e.aa.ac.aO e.aa.ac.aV e.aa.ac.ap.aI.fX e.aa.ac.ap.aI.fY e.aa.ac.ap.aI.fZ e.aa.ac.ap.az.fX e.aa.ac.ap.az.fY e.aa.ac.ap.az.fZ e.aa.aq.aI e.aa.aq.az e.aa.aU)
      (Ok.S (Inv L n) (fun s => (L - s.1).toNat) Q (i, al, bs)) := by
  obtain ⟨i0, i1, i2, i3, i4, i5⟩ := hI
  simp only at i0 i1 i2 i3 i4 i5
  have hnum : IntKind.wrap .i64 (n + (bs.length : Int)) = n + (bs.length : Int) := w64 (by omega) (by omega)
  unfold cI
  rw [hnum, w64 (n := i + 1) (by omega) (by omega)]
  refine Ok.iteD (fun hpos => ?_) (fun _ => ?_)
  · refine Ok.bind (Ok.app (by simp only [List.length_cons, List.length_nil]; omega)) (fun y hy => ?_)
    refine Ok.bind (Ok.app (by simp only [List.length_cons, List.length_nil]; omega)) (fun z hz => ?_)
    subst hy hz
    refine Ok.nx ⟨by simp only; omega, by simp only; omega, by simp only [List.length_append, List.length_cons, List.length_nil]; omega, by simp only [List.length_append, List.length_cons, List.length_nil]; omega, ?_, ?_⟩ (by simp only; omega)
    · exact mem_snoc i4 ⟨hx.id0, hx.id1, hl0, hl1, he⟩
    · have h1 := hx.id1
      refine TlOk.app i5 ⟨?_, ?_, ?_, hx.id0, ?_, ?_, hl0, hl1, ⟨by simp only; omega, by simp only; omega⟩, he⟩ rfl
      · simp only; omega
      · simp only; omega
      · simp only; omega
      · simp only; omega
      · simp only; omega
  · refine Ok.bind (Ok.app (by simp only [List.length_cons, List.length_nil]; omega)) (fun z hz => ?_)
    subst hz
    refine Ok.nx ⟨by simp only; omega, by simp only; omega, by simp only [List.length_append, List.length_cons, List.length_nil]; omega, by simp only; omega, ?_, i5⟩ (by simp only; omega)
    exact mem_snoc i4 ⟨hx.id0, hx.id1, hl0, hl1, he⟩
structure StepIn (p : Policy) (l : List Alert) (n : Int) (es : List Ev) (now : Int) : Prop where
  len : l.length ≤ 200
  als : ∀ a ∈ l, AlOk n a
  n0 : 0 ≤ n
  n1 : n ≤ 1000
  elen : es.length ≤ 4
  evs : ∀ e ∈ es, EvOk e
  now0 : 0 ≤ now
  now1 : now ≤ 1000000
theorem same_get {α : Type} {l : List α} {n : Nat} {x y : α} (h : l[n]? = some x) (h' : l[n]? = some y) : x = y := Option.some.inj (h.symm.trans h')
theorem k67_ok {Q : List Alert × List Bul → Prop} {p : Policy} {l : List Alert} {n : Int} {es : List Ev} {now : Int} {fl : List Int} (h : StepIn p l n es now) (h8 : p.bN.length ≤ 8) (hf : kB es l.length fl) {al : List Alert} {bs : List Bul} {i : Int} (hI : Inv (l.length : Int) n (i, al, bs)) (hi : i < l.length) {x : Alert} (hx : AlOk n x)
    {j12 j13 j14 j15 : List UInt8} {j16 j17 j18 j19 j20 : Int} : Ok (eM fl i x bs n now al es p j12 j13 j14 j15 j16 j17 j18 j19 j20) (Ok.S (Inv (l.length : Int) n) (fun s => ((l.length : Int) - s.1).toNat) Q (i, al, bs)) := by
  obtain ⟨a1, a2, a3, a4, a5, a6, a7, a8⟩ := h
  obtain ⟨f1, f2⟩ := hf
  have i0 : 0 ≤ i := hI.i0
  have hL : (l.length : Int) ≤ 200 := by omega
  have lv : ∀ {k : Int} {wd : Bool}, k = 0 ∨ k = 2 ∨ k = 3 → Ok _ _ := fun {k wd} hk => k53_ok (Q := Q) (kind := k) (wd := wd) (j12 := j12) (j13 := j13) (j14 := j14) (j15 := j15) (j16 := j16) (j17 := j17) (j18 := j18) (j19 := j19) (j20 := j20) hI hL a3 a4 hi hx hk hx.lev0 hx.lev1 a7 a8 hx.ev
  unfold eM
  refine Ok.bind (Ok.get i0 (by omega)) (fun y hy => ?_)
  have hye := f2 y hy.1
  refine Ok.iteB (fun _ => lv (.inl rfl)) (fun _ => ?_)
  refine Ok.iteD (fun _ => lv (.inr (.inr rfl))) (fun hneg => ?_)
  refine Ok.bind (Ok.get (by omega) hye) (fun e1 h1 => ?_)
  refine Ok.bind (ja p _ h8) (fun v hv => Ok.iteE (fun _ => lv (.inr (.inr rfl))) (fun _ => ?_))
  refine Ok.bind (Ok.get (by omega) hye) (fun e2 h2 => ?_)
  refine Ok.bind (moved_ok p _ _ h8) (fun m _ => Ok.iteB (fun _ => ?_) (fun _ => lv (.inl rfl)))
  refine Ok.iteD (fun _ => ?_) (fun _ => lv (.inl rfl))
  refine Ok.bind (Ok.get (by omega) hye) (fun e3 h3 => ?_)
  refine Ok.bind (ja p _ h8) (fun v2 hv2 => ?_)
  refine Ok.bind (Ok.get (by omega) hye) (fun e4 h4 => ?_)
  exact k53_ok hI hL a3 a4 hi hx (.inr (.inl rfl)) hv2.1 (by omega) a7 a8 (a6 _ h4.1)
theorem step_l72 {p : Policy} {l : List Alert} {n : Int} {es : List Ev} {now : Int} {fl : List Int} (h : StepIn p l n es now) (h8 : p.bN.length ≤ 8) (hf : kB es l.length fl) :
    Ok (loopO (iw l fl es n now p) ((0 : Int), [], [])) (Fin n) := by
  have hlen := h.len
  refine Ok.loop (Inv (l.length : Int) n) (fun s => ((l.length : Int) - s.1).toNat) ?_ ⟨by simp, by simp, by simp, by simp, by simp, by simp [TlOk]⟩
  rintro ⟨i, al, bs⟩ hI
  have hI' := hI
  obtain ⟨i0, i1, i2, i3, i4, i5⟩ := hI'
  simp only at i0 i1 i2 i3 i4 i5
  unfold iw
  refine Ok.iteD (fun hlt => ?_) (fun _ => Ok.st ⟨⟨show al.length ≤ 200 by omega, show bs.length ≤ 200 by omega⟩, i4, i5⟩)
  refine Ok.bind (Ok.get i0 hlt) (fun x hx => ?_)
  have hxa := h.als x hx.1
  have hfl := hf.1
  refine Ok.bind (Ok.get i0 (by omega)) (fun y hy => ?_)
  refine Ok.iteD (fun hpos => ?_) (fun _ => k67_ok h h8 hf hI hlt hxa)
  refine Ok.bind (Ok.get i0 (by omega)) (fun z hz => ?_)
  obtain rfl := same_get hy.2 hz.2
  refine Ok.bind (Ok.get hpos (hf.2 y hy.1)) (fun e _ => ?_)
  exact k67_ok h h8 hf hI hlt hxa
structure Inv2 (E n : Int) (s : Int × List Alert × List Bul) : Prop where
  i0 : 0 ≤ s.1
  i1 : s.1 ≤ E
  al : s.2.1.length ≤ 200 + s.1.toNat
  tl : s.2.2.length ≤ 200 + s.1.toNat
  als : ∀ a ∈ s.2.1, AlOk (n + (s.2.2.length : Int)) a
  tls : TlOk n s.2.2
def Fin2 (n : Int) (o : List Alert × List Bul) : Prop := (o.1.length ≤ 300 ∧ o.2.length ≤ 300) ∧ (∀ a ∈ o.1, AlOk (n + (o.2.length : Int)) a) ∧ TlOk n o.2
theorem step_l92 {p : Policy} {l : List Alert} {n : Int} {es : List Ev} {now : Int} {fl : List Int} (h : StepIn p l n es now) (h8 : p.bN.length ≤ 8) (hf : kB es l.length fl) {o : List Alert × List Bul} (ho : Fin n o) :
    Ok (loopO (ix es fl p now n) ((0 : Int), o.1, o.2)) (Fin2 n) := by
  have hlen := h.len
  have hel := h.elen
  have hn0 := h.n0
  have hn1 := h.n1
  have hfl := hf.1
  obtain ⟨⟨o1, o2⟩, o3, o4⟩ := ho
  refine Ok.loop (Inv2 (es.length : Int) n) (fun s => ((es.length : Int) - s.1).toNat) ?_ ⟨by simp, by simp only; omega, by simp only; omega, by simp only; omega, fun a ha => (o3 a ha).mono (by omega), o4⟩
  rintro ⟨i, al, bs⟩ ⟨i0, i1, i2, i3, i4, i5⟩
  simp only at i0 i1 i2 i3 i4 i5
  unfold ix
  have hw : IntKind.wrap .i64 (i + 1) = i + 1 := w64 (by omega) (by omega)
  have hnum : IntKind.wrap .i64 (n + (bs.length : Int)) = n + (bs.length : Int) := w64 (by omega) (by omega)
  dsimp only
  rw [hw, hnum]
  have nx : i < es.length → Ok (some (.next (i + 1, al, bs))) (Ok.S (Inv2 (es.length : Int) n) (fun s => ((es.length : Int) - s.1).toNat) (Fin2 n) (i, al, bs)) := fun hlt =>
    Ok.nx ⟨by simp only; omega, by simp only; omega, by simp only; omega, by simp only; omega, i4, i5⟩ (by simp only; omega)
  refine Ok.iteD (fun hlt => ?_) (fun _ => Ok.st ⟨⟨show al.length ≤ 300 by omega, show bs.length ≤ 300 by omega⟩, i4, i5⟩)
  refine Ok.bind (inqq_ok _ _ (by omega)) (fun x _ => Ok.iteB (fun _ => nx hlt) (fun _ => ?_))
  refine Ok.bind (Ok.get i0 hlt) (fun e1 h1 => ?_)
  refine Ok.bind (timely_ok p _ _ h8) (fun y _ => Ok.iteN (fun _ => nx hlt) (fun _ => ?_))
  refine Ok.bind (Ok.get i0 hlt) (fun e2 h2 => ?_)
  refine Ok.bind (Ok.get i0 hlt) (fun e3 h3 => ?_)
  refine Ok.bind (ja p _ h8) (fun v hv => ?_)
  refine Ok.bind (Ok.get i0 hlt) (fun e4 h4 => ?_)
  have he4 := h.evs e4 h4.1
  refine Ok.bind (Ok.app (by simp only [List.length_cons, List.length_nil]; omega)) (fun z hz => ?_)
  refine Ok.bind (Ok.app (by simp only [List.length_cons, List.length_nil]; omega)) (fun w hw => ?_)
  subst hz hw
  have hbl : ((bs ++ [(ai.mk (n + (bs.length : Int)) 1 (n + (bs.length : Int)) now v e4)]).length : Int) = (bs.length : Int) + 1 := by simp
  refine Ok.nx ⟨by simp only; omega, by simp only; omega, by simp only [List.length_append, List.length_cons, List.length_nil]; omega, by simp only [List.length_append, List.length_cons, List.length_nil]; omega, ?_, ?_⟩ (by simp only; omega)
  · simp only
    rw [hbl]
    exact mem_snoc (fun a ha => (i4 a ha).mono (by omega)) ⟨by simp only; omega, by simp only; omega, hv.1, by simp only; omega, he4⟩
  · exact TlOk.app i5 ⟨by simp only; omega, by simp only; omega, by simp only; omega, by simp only; omega, by simp only; omega, by simp only, hv.1, by simp only; omega, ⟨by simp only; have := h.now0; omega, by simp only; have := h.now1; omega⟩, he4⟩ rfl
theorem step_ok {p : Policy} {l : List Alert} {n : Int} {es : List Ev} {now : Int} (h : StepIn p l n es now) :
    Ok (ju p l n es now) (fun r => r.2.2 = 0 → (r.1.length ≤ 200 ∧ ∀ a ∈ r.1, AlOk (n + (r.2.1.length : Int)) a) ∧ n + (r.2.1.length : Int) ≤ 1000 ∧ TlOk n r.2.1) := by
  have hlen := h.len
  have hel := h.elen
  have hn0 := h.n0
  have hn1 := h.n1
  have hq : ∀ e ∈ es, e.aa.aK.length ≤ 1000 := fun e he => by have := (h.evs e he).sol.len; omega
  have hp : ∀ a ∈ l, a.ae.aa.aK.length ≤ 1000 := fun a ha => by have := (h.als a ha).ev.sol.len; omega
  unfold ju
  refine Ok.bind (errors_ok p l n es now (by omega) (by omega) hq) (fun x hx => Ok.iteNe (fun hne => Ok.ret (fun e => (hne e).elim)) (fun h0 => ?_))
  have h8 := hx h0
  refine Ok.bind (follow_ok l es (by omega) (by omega) hp hq) (fun fl hfl => ?_)
  refine Ok.bind (step_l72 h h8 hfl) (fun o ho => ?_)
  refine Ok.bind (step_l92 h h8 hfl ho) (fun o' ho' => ?_)
  obtain ⟨⟨b1, b2⟩, b3, b4⟩ := ho'
  refine Ok.iteD (fun _ => Ok.ret (fun e => by cases e)) (fun h200 => ?_)
  rw [w64 (by omega) (by omega)]
  refine Ok.iteD (fun hbig => ?_) (fun hsm => Ok.ret (fun _ => ⟨⟨show o'.1.length ≤ 200 by omega, b3⟩, show n + (o'.2.length : Int) ≤ 1000 by omega, b4⟩))
  refine Ok.iteD (fun _ => Ok.ret (fun e => by cases e)) (fun hz => Ok.ret (fun _ => ⟨⟨show o'.1.length ≤ 200 by omega, b3⟩, show n + (o'.2.length : Int) ≤ 1000 by omega, b4⟩))

def kN (l : List Bul) : Prop := l.length ≤ 1000 ∧ (∀ b ∈ l, fD b) ∧ ∀ (k : Nat) (h : k < l.length), l[k].aQ = (k : Int)
theorem kN.app {l m : List Bul} (h : kN l) (hm : TlOk (l.length : Int) m) (hn : (l.length : Int) + (m.length : Int) ≤ 1000) : kN (l ++ m) := by
  refine ⟨by rw [List.length_append]; omega, fun b hb => ?_, fun k hk => ?_⟩
  · rcases List.mem_append.1 hb with hb | hb
    · exact h.2.1 b hb
    · obtain ⟨k, hk, rfl⟩ := List.getElem_of_mem hb
      exact (hm.1 _ (List.getElem_mem hk)).ok (by rw [hm.2 k hk]; omega)
  · by_cases hlt : k < l.length
    · rw [List.getElem_append_left hlt]; exact h.2.2 k hlt
    · rw [List.getElem_append_right (by omega)]
      rw [List.length_append] at hk
      rw [hm.2 (k - l.length) (by omega)]; omega
theorem told_ok (k : Int) (hk0 : 0 ≤ k) (hk1 : k ≤ 100) (d : Src) (hd : du d) : Ok (jq k d) (fun r => kN r.1 ∧ du r.2) := by
  unfold jq
  refine Ok.bind (policy_ok d hd) (fun x hx => ?_)
  refine Ok.bind (P := fun o => kN o.1 ∧ du ⟨o.2.1, o.2.2⟩) (Ok.loop (fun s => (0 ≤ s.2.2.1 ∧ s.2.2.1 ≤ k) ∧ (1000 ≤ s.2.1 ∧ s.2.1 ≤ 1000 + 400 * s.2.2.1) ∧ du ⟨s.2.2.2.1, s.2.2.2.2.1⟩ ∧ (s.1.length ≤ 200 ∧ ∀ a ∈ s.1, AlOk (s.2.2.2.2.2.length : Int) a) ∧ kN s.2.2.2.2.2) (fun s => (k - s.2.2.1).toNat) ?_
    ⟨by simp only; omega, by simp, hx.2, by simp, by simp [kN]⟩) (fun o ho => Ok.ret ho)
  rintro ⟨al, now, i, L, a, bs⟩ ⟨⟨i0, i1⟩, ⟨n0, n1⟩, i2, ⟨i3, i4⟩, i5⟩
  simp only at i0 i1 n0 n1 i2 i3 i4 i5
  have hbl := i5.1
  unfold j3
  refine Ok.iteD (fun hlt => ?_) (fun _ => Ok.st ⟨i5, i2⟩)
  refine Ok.bind (gN _ _ i2 (by omega) (by omega)) (fun y hy => ?_)
  refine Ok.bind (events_ok _ hy.2.2) (fun z hz => ?_)
  rw [w64 (n := now + y.1) (by omega) (by omega), w64 (n := i + 1) (by omega) (by omega)]
  have hin : StepIn x.1 al (bs.length : Int) z.1 (now + y.1) := ⟨i3, i4, by omega, by omega, hz.1.1, hz.1.2, by omega, by omega⟩
  refine Ok.bind (step_ok hin) (fun w hw => ?_)
  refine Ok.iteE (fun he => ?_) (fun _ => ?_)
  · obtain ⟨⟨w1, w2⟩, w3, w4⟩ := hw he
    refine Ok.bind (Ok.app (by omega)) (fun v hv => ?_)
    subst hv
    refine Ok.nx ⟨by simp only; omega, by simp only; omega, hz.2, ⟨w1, ?_⟩, i5.app w4 w3⟩ (by simp only; omega)
    intro a ha
    have := w2 a ha
    simpa using this
  · exact Ok.nx ⟨by simp only; omega, by simp only; omega, hz.2, ⟨i3, i4⟩, i5⟩ (by simp only; omega)
end Go.Dw.Ft




set_option maxRecDepth 100000
set_option maxHeartbeats 4000000
namespace Go.Dw.Ft
open Go.Dw Go.Lib
theorem awake_at : ea = some true := law37_awake_le _ (by kernel_rfl)
def FitsIn (b : Bul) : Prop := So.eX b.ae.ak.ah ∧ ∀ p ∈ b.ae.aa.aK, So.eX p.ah
theorem small_ok (l : List Bul) (hl : l.length ≤ 9223372036854775807) : Ok (iF l) (fun r => r = true → l.length ≤ 20 ∧ ∀ b ∈ l, b.ae.aa.aK.length ≤ 80) := by
  unfold iF
  refine Ok.bind (P := fun o : Unit ⊕ Bool => (o = .inl () → ∀ b ∈ l, b.ae.aa.aK.length ≤ 80) ∧ ∀ y, o = .inr y → y = false) (Ok.loop (fun i => (0 ≤ i ∧ i ≤ (l.length : Int)) ∧ ∀ b ∈ l.take i.toNat, b.ae.aa.aK.length ≤ 80) (fun i => ((l.length : Int) - i).toNat) ?_ ⟨by omega, by simp⟩) (fun o ho => ?_)
  · rintro i ⟨⟨i0, i1⟩, ih⟩
    unfold jZ
    refine Ok.iteD (fun hlt => ?_) (fun hge => ?_)
    · refine Ok.bind (Ok.get i0 hlt) (fun x hx => Ok.iteD (fun _ => Ok.st ⟨(fun e => by cases e), (fun y e => by cases e; rfl)⟩) (fun h80 => ?_))
      rw [w64 (by omega) (by omega)]
      refine Ok.nx ⟨by omega, fun b hb => ?_⟩ (by omega)
      rw [show (i + 1).toNat = i.toNat + 1 by omega, List.take_add_one, hx.2] at hb
      rcases List.mem_append.1 hb with hb | hb
      · exact ih b hb
      · simp at hb; subst hb; omega
    · rw [List.take_of_length_le (by omega)] at ih
      exact Ok.st ⟨fun _ => ih, (fun y e => by cases e)⟩
  · cases o with
    | inl y => exact Ok.ret (fun e => ⟨by have := of_decide_eq_true e; omega, ho.1 rfl⟩)
    | inr y => exact Ok.ret (fun e => by rw [ho.2 y rfl] at e; cases e)
theorem bentpick_ok (p : Pick) (hp : So.eX p.ah) (d : Src) (hd : du d) : Ok (hH p d) (fun r => So.eX r.1.ah ∧ du r.2) := by
  unfold hH
  refine Ok.bind (gN _ d hd (by omega) (by omega)) (fun x hx => ?_)
  refine Ok.iteE (fun _ => Ok.ret ⟨⟨hp.1, by simp, hp.2.2.1, hp.2.2.2⟩, hx.2.2⟩) (fun _ => ?_)
  refine Ok.iteE (fun _ => Ok.ret ⟨hp, hx.2.2⟩) (fun _ => ?_)
  refine Ok.iteE (fun _ => ?_) (fun _ => ?_)
  · exact Ok.bind (fN _ _ hx.2.2 (by simp) (by simp)) (fun y hy => Ok.ret ⟨hp, hy.2⟩)
  refine Ok.iteE (fun _ => ?_) (fun _ => ?_)
  · exact Ok.bind (fN _ _ hx.2.2 (by simp) (by simp)) (fun y hy => Ok.ret ⟨hp, hy.2⟩)
  · exact Ok.bind (gN _ _ hx.2.2 (by omega) (by omega)) (fun y hy => Ok.ret ⟨hp, hy.2.2⟩)
theorem bent_ok (b : Bul) (hb : kO b) (d : Src) (hd : du d) : Ok (gm b d) (fun r => kO r.1 ∧ du r.2) := by
  unfold gm
  refine Ok.bind (fN _ d hd (by simp) (by simp)) (fun x1 h1 => ?_)
  refine Ok.bind (gN _ _ h1.2 (by omega) (by omega)) (fun x2 h2 => ?_)
  refine Ok.iteE (fun _ => ?_) (fun _ => ?_)
  · exact Ok.bind (fN _ _ h2.2.2 (by simp) (by simp)) (fun y hy => Ok.ret ⟨⟨hb.name, hb.picks, hb.len⟩, hy.2⟩)
  refine Ok.iteE (fun _ => ?_) (fun _ => ?_)
  · exact Ok.bind (gN _ _ h2.2.2 (by omega) (by omega)) (fun y hy => Ok.ret ⟨⟨hb.name, hb.picks, hb.len⟩, hy.2.2⟩)
  refine Ok.iteE (fun _ => ?_) (fun _ => ?_)
  · exact Ok.bind (gN _ _ h2.2.2 (by omega) (by omega)) (fun y hy => Ok.ret ⟨⟨hb.name, hb.picks, hb.len⟩, hy.2.2⟩)
  refine Ok.iteE (fun _ => Ok.ret ⟨⟨hb.name, hb.picks, hb.len⟩, h2.2.2⟩) (fun _ => ?_)
  refine Ok.iteE (fun _ => ?_) (fun _ => ?_)
  · exact Ok.bind (fN _ _ h2.2.2 (by simp) (by simp)) (fun y hy => Ok.ret ⟨⟨hb.name, hb.picks, hb.len⟩, hy.2⟩)
  refine Ok.iteE (fun _ => ?_) (fun _ => ?_)
  · exact Ok.bind (bentpick_ok _ hb.name _ h2.2.2) (fun y hy => Ok.ret ⟨⟨hy.1, hb.picks, hb.len⟩, hy.2⟩)
  refine Ok.iteE (fun _ => Ok.ret ⟨⟨hb.name, hb.picks, hb.len⟩, h2.2.2⟩) (fun _ => ?_)
  refine Ok.iteE (fun _ => Ok.ret ⟨⟨hb.name, hb.picks, hb.len⟩, h2.2.2⟩) (fun _ => ?_)
  refine Ok.bind (fN _ _ h2.2.2 (by simp) (by simp)) (fun y hy => ?_)
  have hy0 : 0 ≤ y.1 ∧ y.1 ≤ 2 := by
    have := hy.1
    simp only [List.mem_cons, List.not_mem_nil, or_false] at this
    omega
  refine Ok.bind (Ok.mk hy0.1 (by omega) (by omega)) (fun z hz => Ok.ret ⟨⟨hb.name, fun p hp => ?_, ?_⟩, hy.2⟩)
  · have hp : p ∈ z := hp
    rw [hz] at hp
    rw [(List.mem_replicate.1 hp).2]
    exact ⟨by simp, by simp, by simp, by simp⟩
  · show z.length ≤ 1000000
    rw [hz]; simp; omega
theorem aw_ok : Ok (ea.bind fun x => some x) (fun b => b = true) := by rw [awake_at]; exact Ok.ret rfl
def awP : Pick := ⟨⟨[65, 66], [83, 49], [48, 48], [66, 72, 90]⟩, 5, 4, 9, 0, -1⟩
def awB (a : Int) : Bul := ⟨a, 1, a, 7, 1, ⟨awP, ⟨[awP], ⟨⟨0, 0, 0⟩, 0, 0, 0, ⟨⟨0, 0, 0⟩, ⟨0, 0, 0⟩⟩⟩, ⟨0, 0⟩, 0⟩⟩⟩
theorem one_at (a : Int) : ew a = some (awB a) := by kernel_rfl
theorem aw_fits (a : Int) : kO (awB a) := ⟨⟨by simp [awB, awP], by simp [awB, awP], by simp [awB, awP], by simp [awB, awP]⟩, fun p hp => by
  obtain rfl := List.mem_singleton.1 hp
  exact ⟨by simp [awP], by simp [awP], by simp [awP], by simp [awP]⟩, by simp [awB]⟩

theorem ld {p : Pick} (hp : dB p) : ∀ w ∈ bc p, w.length ≤ 40 := by
  obtain ⟨hs, h1, h2, h3, h4, h5, h6, h7, h8⟩ := hp
  have hc := (So.ln hs).2.2
  have hi : ∀ n : Int, big n → (itoa n).length ≤ 40 := fun n hn => by have := itoa_len hn.1 hn.2; omega
  intro w hw
  simp only [bc, List.mem_cons, List.not_mem_nil, or_false] at hw
  rcases hw with rfl | rfl | rfl | rfl | rfl | rfl
  · exact Nat.le_trans hc (by decide)
  all_goals exact hi _ (by unfold big; omega)
theorem words_40 {b : Bul} (h : fD b) : ∀ w ∈ words b, w.length ≤ 40 := by
  obtain ⟨h1, h2, h3, h4, h5, h6, h7, h8, h9, ⟨h10, h11⟩, h12⟩ := h
  have hi : ∀ n : Int, big n → (itoa n).length ≤ 40 := fun n hn => by have := itoa_len hn.1 hn.2; omega
  have hl := h12.sol.len
  intro w hw
  simp only [words, List.mem_append] at hw
  rcases hw with hw | hw | hw | hw | hw
  · simp only [List.map_cons, List.map_nil, List.mem_cons, List.not_mem_nil, or_false] at hw
    rcases hw with rfl | rfl | rfl | rfl | rfl <;> exact hi _ (by unfold big; omega)
  · exact ld h12.name w hw
  · simp only [List.map_cons, List.map_nil, List.mem_cons, List.not_mem_nil, or_false] at hw
    subst hw
    exact hi _ (by unfold big; omega)
  · obtain ⟨p, hp, hw⟩ := List.mem_flatMap.1 hw
    exact ld (h12.sol.picks p hp) w hw
  · obtain ⟨n, hn, rfl⟩ := List.mem_map.1 hw
    have := gb h12.sol n hn
    exact hi _ (by unfold dA at this; unfold big; omega)
theorem text_short {b : Bul} (h : fD b) : (text b).length ≤ 17000 := by
  have h1 := join_len (s := [32]) (words_40 h)
  have h2 : (words b).length ≤ 411 := by
    have := h.ev.sol.len
    simp only [words, List.length_append, List.length_map, e9, cH, List.length_cons, List.length_nil, bc]
    omega
  have h3 : (words b).length * (40 + [(32 : UInt8)].length) ≤ 411 * 41 := Nat.mul_le_mul h2 (by simp)
  unfold text
  omega
theorem enc_short {b : Bul} (hb : kO b) : Ok (cJ b) (fun r => r.1.length ≤ 17000) := by
  rw [jz hb]
  refine Ok.ret ?_
  split
  · rename_i hv; exact text_short (ky hv)
  · simp
theorem put_ok {l : List UInt8} {i x : Int} (h0 : 0 ≤ i) (h1 : i < l.length) (h2 : 0 ≤ x) (h3 : x < 256) : Ok (putBO l i x) (fun r => r.length = l.length) := by
  unfold putBO
  rw [if_pos ⟨by omega, h2, h3⟩]
  exact Ok.ret List.length_set

theorem same_dec {x y : Bul × Int} (hl : x.1.ae.aa.aK.length ≤ 1000000) (h : x = y) : (x.2 != y.2) = false ∧ ch x.1 y.1 = some true := by
  subst h
  exact ⟨by simp, same_self hl⟩
theorem dec_both {t : List UInt8} (h : t.length ≤ 20000) : ∃ r, cw t = some r ∧ dn t = some r ∧ r.1.ae.aa.aK.length ≤ 1000000 := by
  rcases decode_cases t h with ⟨b, hb, -, h1, h2⟩ | ⟨h1, h2⟩
  · exact ⟨_, h1, h2, by have := hb.ev.sol.len; simp only; omega⟩
  · exact ⟨_, h1, h2, by simp [zeroB]⟩
theorem k78_ok (x59 : Wd × Int) (x43 : Bul × Src) (a1 j60 : Wd) (h1 : x59.1.length ≤ 17000) (h2 : j60.length ≤ 17000) (h3 : a1.length ≤ 300) (hd : du x43.2) : Ok (dl x59 x43 a1 j60) (fun b => b = true) := by
  unfold dl
  rw [So.eP (by simp; omega), Option.bind_some, w64 (by omega) (by omega)]
  refine Ok.bind (gN _ _ hd (by omega) (by omega)) (fun x62 h62 => ?_)
  refine Ok.bind (Ok.cut (by omega) h62.1 (by omega)) (fun x63 h63 => ?_)
  have hl63 : x63.length ≤ 17000 := by
    subst h63
    simp only [List.length_take, List.length_drop]
    omega
  have hall : ∀ t ∈ [a1, x59.1, j60, x59.1 ++ [32, 49], x63], t.length ≤ 20000 := by
    intro t ht
    simp only [List.mem_cons, List.not_mem_nil, or_false] at ht
    rcases ht with rfl | rfl | rfl | rfl | rfl
    · omega
    · omega
    · omega
    · simp; omega
    · omega
  refine Ok.bind (P := fun o : Unit ⊕ Bool => o = .inl ()) (Ok.loop (fun i => 0 ≤ i ∧ i ≤ 5) (fun i => (5 - i).toNat) ?_ ⟨by omega, by omega⟩) (fun o ho => ?_)
  · rintro i ⟨i0, i1⟩
    unfold hC
    refine Ok.iteD (fun hlt => ?_) (fun _ => Ok.st rfl)
    refine Ok.bind (Ok.get i0 (by simp only [List.length_cons, List.length_nil]; omega)) (fun x67 h67 => ?_)
    obtain ⟨r, e1, e2, hp⟩ := dec_both (hall _ h67.1)
    obtain ⟨g1, g2⟩ := same_dec hp rfl
    rw [e1, Option.bind_some, e2, Option.bind_some, g1, if_neg (by simp), g2, Option.bind_some, if_neg (by simp), w64 (by omega) (by omega)]
    exact Ok.nx ⟨by omega, by omega⟩ (by omega)
  · subst ho
    exact aw_ok
theorem k83_ok (a0 : Bul) (a3 a4 : Int) (a1 : Wd) (L : List Int) (A : Int) (b : Bul) (h0 : kO a0) (h40 : 0 ≤ a4) (h41 : a4 < 256) (h1 : a1.length ≤ 300) (hd : du ⟨L, A⟩) (hb : kO b) :
    Ok (dm a0 a3 a4 a1 L A b.aQ b.bh b.fID b.fAt b.aW b.ae.ak.ah.aC b.ae.ak.ah.aE b.ae.ak.ah.ac b.ae.ak.ah.aD b.ae.ak.aF b.ae.ak.aJ b.ae.ak.aN b.ae.ak.au b.ae.ak.av b.ae.aa.aK b.ae.aa.ac.aA.fX b.ae.aa.ac.aA.fY b.ae.aa.ac.aA.fZ b.ae.aa.ac.aF b.ae.aa.ac.aO b.ae.aa.ac.aV b.ae.aa.ac.ap.aI.fX b.ae.aa.ac.ap.aI.fY b.ae.aa.ac.ap.aI.fZ b.ae.aa.ac.ap.az.fX b.ae.aa.ac.ap.az.fY b.ae.aa.ac.ap.az.fZ b.ae.aa.aq.aI b.ae.aa.aq.az b.ae.aa.aU) (fun r => r = true) := by
  unfold dm
  refine Ok.bind (bent_ok b hb ⟨L, A⟩ hd) (fun x41 h41' => ?_)
  refine Ok.bind (bent_ok b hb x41.2 h41'.2) (fun x42 h42 => ?_)
  refine Ok.bind (bent_ok _ h42.1 _ h42.2) (fun x43 h43 => ?_)
  have hall : ∀ y ∈ [a0, b, x41.1, x43.1], kO y := by
    intro y hy
    simp only [List.mem_cons, List.not_mem_nil, or_false] at hy
    rcases hy with rfl | rfl | rfl | rfl
    · exact h0
    · exact hb
    · exact h41'.1
    · exact h43.1
  refine Ok.bind (P := fun o : Unit ⊕ Bool => o = .inl ()) (Ok.loop (fun i => 0 ≤ i ∧ i ≤ 4) (fun i => (4 - i).toNat) ?_ ⟨by omega, by omega⟩) (fun o ho => ?_)
  · rintro i ⟨i0, i1⟩
    unfold g9
    refine Ok.iteD (fun hlt => ?_) (fun _ => Ok.st rfl)
    refine Ok.bind (Ok.get i0 (by simp only [List.length_cons, List.length_nil]; omega)) (fun x47 h47 => ?_)
    have hf : kO x47 := hall _ h47.1
    rw [encode_eq hf, Option.bind_some, jz hf, Option.bind_some, valid_eq hf, Option.bind_some, rvalid_eq hf, Option.bind_some, if_neg (by simp), if_neg (by simp), if_neg (by simp), w64 (by omega) (by omega)]
    exact Ok.nx ⟨by omega, by omega⟩ (by omega)
  · subst ho
    refine Ok.bind (enc_short hb) (fun x59 h59 => ?_)
    refine Ok.iteD (fun hgt => ?_) (fun _ => k78_ok _ _ _ _ h59 h59 h1 h43.2)
    refine Ok.bind (mod_ok _ _ (by omega) (by omega)) (fun x80 h80 => ?_)
    refine Ok.bind (Ok.isin h80.1 h80.2) (fun _ _ => ?_)
    refine Ok.bind (put_ok h80.1 h80.2 h40 h41) (fun x82 h82 => ?_)
    exact k78_ok _ _ _ _ h59 (by omega) h1 h43.2
theorem FeedTexts_law (a0 : Bul) (a1 : Wd) (a2 : List Int) (a3 a4 : Int) (hr : FitsIn a0) (h40 : 0 ≤ a4) (h41 : a4 < 256) : fd a0 a1 a2 a3 a4 = some true := by
  refine Ok.eq ?_
  unfold fd
  refine Ok.bind (small_ok [a0] (by simp)) (fun x hx => Ok.iteN (fun _ => aw_ok) (fun hxt => ?_))
  obtain ⟨-, h80⟩ := hx hxt
  have hf : kO a0 := ⟨hr.1, hr.2, by have := h80 a0 (by simp); omega⟩
  refine Ok.iteD (fun _ => aw_ok) (fun h300 => ?_)
  refine Ok.bind (new_ok a2) (fun x6 h6 => ?_)
  refine Ok.bind (gN _ _ h6 (by omega) (by omega)) (fun x7 h7 => ?_)
  rw [one_at, Option.bind_some]
  refine Ok.bind (told_ok 4 (by omega) (by omega) _ h7.2.2) (fun x84 h84 => ?_)
  obtain ⟨⟨g1, g2, g3⟩, hd2⟩ := h84
  refine Ok.iteD (fun hpos => ?_) (fun _ => k83_ok a0 a3 a4 a1 _ _ (awB x7.1) hf h40 h41 (by omega) hd2 (aw_fits _))
  refine Ok.bind (gN _ _ hd2 (by omega) (by omega)) (fun x86 h86 => ?_)
  refine Ok.bind (Ok.get h86.1 h86.2.1) (fun x87 h87 => ?_)
  exact k83_ok a0 a3 a4 a1 _ _ x87 hf h40 h41 (by omega) h86.2.2 (bul_fits (g2 _ h87.1))
end Go.Dw.Ft
