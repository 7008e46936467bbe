
import Derived.Test.YtpeijlelfekcoaaGreatDoorFhFn
import Derived.Test.YtpeijlelfekcoaaGreatDoorDwPlain
import Derived.Test.YtpeijlelfekcoaaGreatDoorDwOk
import Derived.Test.YtpeijlelfekcoaaGreatDoorDwText




set_option maxRecDepth 100000
set_option maxHeartbeats 4000000
namespace Go.Dw.Fh
namespace So
open Go.Dw
abbrev Src := au
theorem gR {s : List UInt8} {n : Int} {i : Nat} (hn : n = i) (hi : i < s.length) : byteO s n = some ((s[i].toNat : Nat) : Int) := by
  subst hn
  unfold byteO
  rw [if_pos ⟨by omega, by omega⟩, Int.toNat_natCast, List.getD_eq_getElem?_getD, List.getElem?_eq_getElem hi]; rfl
theorem cutO_at {α : Type} {l : List α} {a b : Int} {i j : Nat} (ha : a = i) (hb : b = j) (h1 : i ≤ j) (h2 : j ≤ l.length) : cutO l a b = some ((l.drop i).take (j - i)) := by
  subst ha hb
  unfold cutO
  rw [if_pos ⟨by omega, by omega, by omega⟩, Int.toNat_natCast, Int.toNat_natCast]
theorem eH {a b : List UInt8} (h : a.length + b.length ≤ 9223372036854775807) : catO a b = some (a ++ b) := by
  unfold catO
  rw [if_pos (by omega)]
theorem dY {α : Type} {l m : List α} {b : Nat} (h : (l.length + m.length) * b ≤ 140737488355328) : appO l m b = some (l ++ m) := by
  unfold appO
  rw [if_pos h]
theorem iv {α ω : Type} {body : Int → Option (Step1 Int ω)} (l : List α) {p : α → Bool} {u r : ω} (h1 : ∀ (i : Nat) (hi : i < l.length), body i = if p l[i] = true then some (.next ((i + 1 : Nat) : Int)) else some (.stop r))
    (h2 : body (l.length : Nat) = some (.stop u)) : loopO body (0 : Int) = some (if l.all p = true then u else r) := by
  have : ∀ k i, i + k = l.length → loopO body (i : Int) = some (if (l.drop i).all p = true then u else r) := by
    intro k
    induction k with
    | zero =>
      intro i hi
      obtain rfl : i = l.length := by omega
      rw [loopO_stop h2]; simp
    | succ k ih =>
      intro i hi
      have hlt : i < l.length := by omega
      rw [List.drop_eq_getElem_cons hlt, List.all_cons]
      by_cases hp : p l[i] = true
      · rw [loopO_next (by rw [h1 i hlt, if_pos hp]), ih (i + 1) (by omega), hp, Bool.true_and]
      · rw [loopO_stop (by rw [h1 i hlt, if_neg hp])]; simp [hp]
  have := this l.length 0 (by omega)
  simpa using this

def gU (c : UInt8) : Bool := (decide (65 ≤ c.toNat) && decide (c.toNat ≤ 90)) || (decide (48 ≤ c.toNat) && decide (c.toNat ≤ 57))
theorem dec1 (n : Nat) : decide ((n : Int) ≥ 65) = decide (65 ≤ n) := decide_eq_decide.2 (by omega)
theorem dec2 (n : Nat) : decide ((n : Int) ≤ 90) = decide (n ≤ 90) := decide_eq_decide.2 (by omega)
theorem dec3 (n : Nat) : decide ((n : Int) ≥ 48) = decide (48 ≤ n) := decide_eq_decide.2 (by omega)
theorem dec4 (n : Nat) : decide ((n : Int) ≤ 57) = decide (n ≤ 57) := decide_eq_decide.2 (by omega)
theorem plain_eq (c : UInt8) : eL ((c.toNat : Nat) : Int) = some (gU c) := by
  unfold eL gU
  rw [dec1, dec2, dec3, dec4]
  cases decide (65 ≤ c.toNat) <;> cases decide (c.toNat ≤ 90) <;> cases decide (48 ≤ c.toNat) <;> simp
def er (s : List UInt8) (lo hi : Int) : Bool := s.all gU && (decide ((s.length : Int) ≥ lo) && decide ((s.length : Int) ≤ hi))
theorem code_l7 {s : List UInt8} (hs : s.length ≤ 9223372036854775807) : loopO (eD s) (0 : Int) = some (if s.all gU = true then .inl () else .inr false) := by
  refine iv s (fun i hi => ?_) ?_
  · unfold eD
    rw [if_pos (by simp; omega), gR rfl hi, w64 (by omega) (by omega)]
    simp only [Option.bind_some, plain_eq]
    cases gU s[i] <;> simp
  · unfold eD
    rw [if_neg (by simp)]
theorem code_eq {s : List UInt8} (hs : s.length ≤ 9223372036854775807) (lo hi : Int) : dF s lo hi = some (er s lo hi) := by
  unfold dF er
  rw [code_l7 hs]
  cases s.all gU with
  | true => cases decide ((s.length : Int) ≥ lo) <;> simp
  | false => rfl
theorem ref_code_l16 {s : List UInt8} (hs : s.length ≤ 9223372036854775807) : loopO (fy s) (0 : Int) = some (if s.all gU = true then .inl () else .inr false) := by
  refine iv s (fun i hi => ?_) ?_
  · unfold fy
    rw [if_pos (by simp; omega), gR rfl hi, w64 (by omega) (by omega)]
    simp only [Option.bind_some, dec1, dec2, dec3, dec4]
    unfold gU
    cases decide (65 ≤ s[i].toNat) <;> cases decide (s[i].toNat ≤ 90) <;> cases decide (48 ≤ s[i].toNat) <;> cases decide (s[i].toNat ≤ 57) <;> simp
  · unfold fy
    rw [if_neg (by simp)]
theorem ik {s : List UInt8} (hs : s.length ≤ 9223372036854775807) (lo hi : Int) : ey s lo hi = some (er s lo hi) := by
  unfold ey er
  rw [ref_code_l16 hs]
  cases s.all gU with
  | true => cases decide ((s.length : Int) ≥ lo) <;> simp
  | false => rfl

def eM (x : Src) : Prop := x.aB.length ≤ 9223372036854775807 ∧ x.aD.length ≤ 9223372036854775807 ∧ x.ac.length ≤ 9223372036854775807 ∧ x.aC.length ≤ 9223372036854775807
def dt (x : Src) : Bool := er x.aB 1 2 && (er x.aD 1 5 && (er x.ac 0 2 && (decide (x.ac.length ≠ 1) && er x.aC 3 3)))
theorem jh {x : Src} (hx : eM x) : dg x = some (dt x) := by
  obtain ⟨h1, h2, h3, h4⟩ := hx
  unfold dg dt
  simp only [code_eq h1, code_eq h2, code_eq h3, code_eq h4, Option.bind_some]
  have e : ((x.ac.length : Int) != 1) = decide (x.ac.length ≠ 1) := by
    by_cases h : x.ac.length = 1
    · simp [h]
    · simp [h]; omega
  rw [e]
  cases er x.aB 1 2 <;> cases er x.aD 1 5 <;> cases er x.ac 0 2 <;> cases decide (x.ac.length ≠ 1) <;> simp
theorem loc_eq (s : List UInt8) : (er s 0 2 && decide (s.length ≠ 1)) = (decide (s = []) || er s 2 2) := by
  unfold er
  match s with
  | [] => simp
  | [a] => simp
  | [a, b] => simp
  | a :: b :: c :: r =>
    have h1 : decide (((a :: b :: c :: r).length : Int) ≤ 2) = false := by simp; omega
    rw [h1]; simp
theorem iT {x : Src} (hx : eM x) : fj x = some (dt x) := by
  obtain ⟨h1, h2, h3, h4⟩ := hx
  unfold fj dt
  simp only [ik h1, ik h2, ik h3, ik h4, Option.bind_some]
  rw [← Bool.and_assoc (er x.ac 0 2), loc_eq]
  by_cases e : x.ac = []
  · cases er x.aB 1 2 <;> cases er x.aD 1 5 <;> simp [e]
  · cases er x.aB 1 2 <;> cases er x.aD 1 5 <;> cases er x.ac 2 2 <;> simp [e]
theorem jI {s : List UInt8} {lo : Int} {hi : Nat} (h : er s lo hi = true) : s.length ≤ hi := by
  unfold er at h
  simp only [Bool.and_eq_true, decide_eq_true_eq] at h
  omega
theorem iF {x : Src} (h : dt x = true) : x.aB.length ≤ 2 ∧ x.aD.length ≤ 5 ∧ x.ac.length ≤ 2 ∧ x.aC.length ≤ 3 := by
  unfold dt at h
  simp only [Bool.and_eq_true] at h
  exact ⟨jI (hi := 2) h.1, jI (hi := 5) h.2.1, jI (hi := 2) h.2.2.1, jI (hi := 3) h.2.2.2.2⟩

def fmt (x : Src) : List UInt8 := x.aB ++ [46] ++ x.aD ++ [46] ++ x.ac ++ [46] ++ x.aC
def hM (x : Src) : List UInt8 × Int := if dt x = true then (fmt x, 0) else ([], 1)
theorem Format_eq {x : Src} (hx : eM x) : dL x = some (hM x) := by
  unfold dL hM gK
  rw [jh hx, Option.bind_some]
  cases h : dt x with
  | false => simp
  | true =>
    obtain ⟨h1, h2, h3, h4⟩ := iF h
    have e : Lib.join [x.aB, x.aD, x.ac, x.aC] [46] = fmt x := by
      simp [Lib.join, List.intercalate, List.intersperse, fmt]
    have hl : (fmt x).length ≤ 15 := by simp [fmt]; omega
    simp only [Bool.not_true, Bool.false_eq_true, if_false, Option.bind_some, joinO, e, if_true]
    rw [if_pos ⟨by simp, by simp, by omega⟩]; rfl
theorem ref_Format_eq {x : Src} (hx : eM x) : gB x = some (hM x) := by
  unfold gB hM
  rw [iT hx, Option.bind_some]
  cases h : dt x with
  | false => simp
  | true =>
    obtain ⟨h1, h2, h3, h4⟩ := iF h
    rw [if_neg (by simp), eH (by simp; omega), Option.bind_some, eH (by simp; omega), Option.bind_some, eH (by simp; omega), Option.bind_some, eH (by simp; omega), Option.bind_some, eH (by simp; omega), Option.bind_some, eH (by simp; omega)]
    rfl
theorem splitL_ne (c : UInt8) : ∀ s, splitL c s ≠ []
  | [] => by simp [splitL]
  | x :: r => by
    unfold splitL
    split
    · simp
    · split <;> simp
theorem splitL_cons (c x : UInt8) (r : List UInt8) : ∃ q qs, splitL c r = q :: qs ∧ splitL c (x :: r) = if x = c then [] :: q :: qs else (x :: q) :: qs := by
  match h : splitL c r with
  | [] => exact (splitL_ne c r h).elim
  | q :: qs => refine ⟨q, qs, rfl, ?_⟩; rw [splitL, h]
theorem splitL_len (c : UInt8) : ∀ s, (splitL c s).length ≤ s.length + 1 ∧ ∀ p ∈ splitL c s, p.length ≤ s.length
  | [] => by simp [splitL]
  | x :: r => by
    obtain ⟨q, qs, h1, h2⟩ := splitL_cons c x r
    obtain ⟨h3, h4⟩ := splitL_len c r
    rw [h1] at h3 h4
    rw [h2]
    split
    · refine ⟨by simp at h3 ⊢; omega, fun p hp => ?_⟩
      rcases List.mem_cons.1 hp with rfl | hp
      · simp
      · have := h4 p hp; simp; omega
    · refine ⟨by simp at h3 ⊢; omega, fun p hp => ?_⟩
      rcases List.mem_cons.1 hp with rfl | hp
      · have := h4 q (by simp); simp; omega
      · have := h4 p (by simp [hp]); simp; omega
theorem u46 (c : UInt8) : (((c.toNat : Nat) : Int) == 46) = decide (c = 46) := by
  by_cases h : c = 46
  · subst h; rfl
  · have : c.toNat ≠ 46 := fun e => h (UInt8.toNat_inj.1 e)
    simp [h]; omega
theorem ref_Split_eq {s : List UInt8} (hs : s.length ≤ 4000000000) : hX s 46 = some (splitL 46 s) := by
  obtain ⟨o, h1, h2⟩ := loop_ind (body := gn s 46) (fun st : Int × List (List UInt8) => ∃ (i : Nat) (init : List (List UInt8)) (last p : List UInt8) (ps : List (List UInt8)), st = ((i : Int), init ++ [last]) ∧ i ≤ s.length ∧ init.length ≤ i ∧ last.length ≤ i ∧
      splitL 46 (s.drop i) = p :: ps ∧ splitL 46 s = init ++ (last ++ p) :: ps) (fun st => ((s.length : Int) - st.1).toNat) (fun o => o = splitL 46 s) (by
    rintro st ⟨i, init, last, p, ps, rfl, hi, hin, hla, hp, hsp⟩
    unfold gn
    simp only
    by_cases hlt : i < s.length
    · rw [if_pos (by simp; omega), gR rfl hlt, Option.bind_some, w64 (n := (i : Int) + 1) (by omega) (by omega)]
      have hd : s.drop i = s[i] :: s.drop (i + 1) := List.drop_eq_getElem_cons hlt
      obtain ⟨q, qs, g1, g2⟩ := splitL_cons 46 s[i] (s.drop (i + 1))
      rw [← hd, hp] at g2
      refine .inl ?_
      by_cases hc : s[i] = 46
      · rw [if_pos (by rw [u46]; simpa using hc), dY (by simp; omega), Option.bind_some]
        rw [if_pos hc] at g2
        obtain ⟨rfl, rfl⟩ := List.cons.inj g2
        exact ⟨_, rfl, ⟨i + 1, init ++ [last], [], q, qs, by simp, by omega, by simp; omega, by simp, g1, by rw [hsp]; simp⟩, by simp only; omega⟩
      · rw [if_neg (by rw [u46]; simpa using hc)]
        rw [if_neg hc] at g2
        obtain ⟨rfl, rfl⟩ := List.cons.inj g2
        have hlen : (init ++ [last]).length = init.length + 1 := by simp
        have hg : (init ++ [last])[init.length]'(by simp) = last := by simp
        rw [w64 (by omega) (by omega), inO_at (by omega) (by omega), getO_at (i := init.length) (by omega) (by omega), hg]
        simp only [Option.bind_some]
        rw [cutO_at (i := i) (j := i + 1) rfl (by omega) (by omega) (by omega), Option.bind_some]
        have ht : (s.drop i).take (i + 1 - i) = [s[i]] := by rw [hd, show i + 1 - i = 1 by omega]; rfl
        rw [ht, eH (by simp; omega), Option.bind_some, setO_at (i := init.length) (by omega) (by omega)]
        have hset : (init ++ [last]).set init.length (last ++ [s[i]]) = init ++ [last ++ [s[i]]] := by
          rw [List.set_append_right _ _ (Nat.le_refl _)]; simp
        rw [hset]
        exact ⟨_, rfl, ⟨i + 1, init, last ++ [s[i]], q, ps, by simp, by omega, by omega, by simp; omega, g1, by rw [hsp]; simp⟩, by simp only; omega⟩
    · rw [if_neg (by simp; omega)]
      refine .inr ⟨_, rfl, ?_⟩
      rw [hsp]
      rw [List.drop_eq_nil_of_le (by omega)] at hp
      cases hp
      simp) (0, [[]]) (by
      match h : splitL 46 s with
      | [] => exact (splitL_ne 46 s h).elim
      | p :: ps => exact ⟨0, [], [], p, ps, rfl, by omega, by simp, by simp, by simpa using h, by simp⟩)
  unfold hX
  rw [h1, h2]; rfl
theorem splitO_eq {s : List UInt8} (hs : s.length ≤ 4000000000) : splitO s [46] = some (splitL 46 s) := by
  show (if s.length < 4294967281 then some (splitL 46 s) else none) = _
  rw [if_pos (by omega)]
theorem four {α : Type} {l : List α} (h : l.length = 4) : ∃ a b c d, l = [a, b, c, d] := by
  match l, h with
  | [a, b, c, d], _ => exact ⟨a, b, c, d, rfl⟩
theorem getO4 {α : Type} (a b c d : α) : getO [a, b, c, d] 0 = some a ∧ getO [a, b, c, d] 1 = some b ∧ getO [a, b, c, d] 2 = some c ∧ getO [a, b, c, d] 3 = some d := ⟨rfl, rfl, rfl, rfl⟩
theorem inO4 {α : Type} (a b c d : α) : inO [a, b, c, d] 0 = some () ∧ inO [a, b, c, d] 1 = some () ∧ inO [a, b, c, d] 2 = some () ∧ inO [a, b, c, d] 3 = some () := ⟨rfl, rfl, rfl, rfl⟩

theorem Parse_eq {z : List UInt8} (hz : z.length ≤ 4000000000) : ∃ r, df z = some r ∧ fi z = some r := by
  unfold df fi
  rw [splitO_eq hz, ref_Split_eq hz, Option.bind_some, Option.bind_some]
  by_cases h4 : (splitL 46 z).length = 4
  · have hn : (((splitL 46 z).length : Int) != 4) = false := by rw [h4]; rfl
    rw [if_neg (by rw [hn]; simp), if_neg (by rw [hn]; simp)]
    obtain ⟨a, b, c, d, hl⟩ := four h4
    have hlen := (splitL_len 46 z).2
    rw [hl] at hlen ⊢
    have hok : eM ⟨a, b, c, d⟩ := by
      have h1 := hlen a (by simp); have h2 := hlen b (by simp); have h3 := hlen c (by simp); have h4 := hlen d (by simp)
      exact ⟨by simp only; omega, by simp only; omega, by simp only; omega, by simp only; omega⟩
    obtain ⟨g0, g1, g2, g3⟩ := getO4 a b c d
    obtain ⟨i0, i1, i2, i3⟩ := inO4 a b c d
    simp only [g0, g1, g2, g3, i0, i1, i2, i3, Option.bind_some, jh hok, iT hok]
    cases dt ⟨a, b, c, d⟩ <;> exact ⟨_, rfl, rfl⟩
  · have hn : (((splitL 46 z).length : Int) != 4) = true := by simp; omega
    rw [if_pos hn, if_pos hn]
    exact ⟨_, rfl, rfl⟩


theorem plain_no {c : UInt8} (h : gU c = true) : c ≠ 46 ∧ c ≠ 32 := by
  unfold gU at h
  simp only [Bool.or_eq_true, Bool.and_eq_true, decide_eq_true_eq] at h
  constructor <;> (rintro rfl; revert h; decide)
theorem hC {s : List UInt8} {lo hi : Int} (h : er s lo hi = true) : (46 : UInt8) ∉ s ∧ (32 : UInt8) ∉ s := by
  unfold er at h
  simp only [Bool.and_eq_true, List.all_eq_true] at h
  exact ⟨fun hm => (plain_no (h.1 _ hm)).1 rfl, fun hm => (plain_no (h.1 _ hm)).2 rfl⟩
theorem valid_no {x : Src} (h : dt x = true) : ((46 : UInt8) ∉ x.aB ∧ (46 : UInt8) ∉ x.aD ∧ (46 : UInt8) ∉ x.ac ∧ (46 : UInt8) ∉ x.aC) ∧ (32 : UInt8) ∉ fmt x ∧ (fmt x).length ≤ 15 := by
  have hl := iF h
  unfold dt at h
  simp only [Bool.and_eq_true] at h
  obtain ⟨h1, h2, h3, -, h4⟩ := h
  refine ⟨⟨(hC h1).1, (hC h2).1, (hC h3).1, (hC h4).1⟩, ?_, by simp [fmt]; omega⟩
  simp [fmt, (hC h1).2, (hC h2).2, (hC h3).2, (hC h4).2]
theorem lens {x : Src} (h : dt x = true) : eM x := by
  obtain ⟨h1, h2, h3, h4⟩ := iF h
  exact ⟨by omega, by omega, by omega, by omega⟩
theorem parse_fmt {x : Src} (h : dt x = true) : df (fmt x) = some (x, 0) := by
  obtain ⟨⟨h1, h2, h3, h4⟩, -, hl⟩ := valid_no h
  have e : fmt x = Lib.join [x.aB, x.aD, x.ac, x.aC] [46] := by simp [Lib.join, List.intercalate, List.intersperse, fmt]
  have hs : splitL 46 (fmt x) = [x.aB, x.aD, x.ac, x.aC] := by
    rw [e]
    refine split_join (by simp) (fun w hw => ?_)
    simp only [List.mem_cons, List.not_mem_nil, or_false] at hw
    rcases hw with rfl | rfl | rfl | rfl <;> assumption
  unfold df
  rw [splitO_eq (by omega), hs, Option.bind_some, if_neg (by simp)]
  obtain ⟨g0, g1, g2, g3⟩ := getO4 x.aB x.aD x.ac x.aC
  have hv := jh (x := ⟨x.aB, x.aD, x.ac, x.aC⟩) (lens h)
  simp only [g0, g1, g2, g3, Option.bind_some]
  rw [hv, Option.bind_some, if_neg (by rw [show dt ⟨x.aB, x.aD, x.ac, x.aC⟩ = dt x from rfl, h]; simp)]
end So
end Go.Dw.Fh





set_option maxRecDepth 100000
set_option maxHeartbeats 4000000
namespace Go.Dw.Fh
open Go.Dw
abbrev Src := aH
abbrev Pick := ah
abbrev Sid := au
abbrev Ev := az
abbrev Bul := ag
abbrev Alert := aN
abbrev Policy := aY

theorem mod_ok (a b : Int) (h0 : 1 ≤ b) (h1 : b ≤ 1000000000) : Ok (jl a b) (fun r => 0 ≤ r ∧ r < b) := by
  unfold jl
  have hl : a.tmod b < b := Int.tmod_lt_of_pos _ (by omega)
  have hg : -b < a.tmod b := by
    rcases Int.le_total 0 a with h | h
    · have := Int.tmod_nonneg b h; omega
    · have e : a.tmod b = -((-a).tmod b) := by rw [Int.neg_tmod]; omega
      have := Int.tmod_lt_of_pos (-a) (show 0 < b by omega)
      omega
  refine Ok.iteD (fun _ => by omega) (fun _ => ?_)
  refine Ok.bind (Ok.rem (by omega)) (fun x hx => ?_)
  subst hx
  refine Ok.iteD (fun _ => ?_) (fun _ => ?_)
  · rw [w64 (by omega) (by omega)]
    exact Ok.ret (by omega)
  · exact Ok.ret (by omega)
def dh (d : Src) : Prop := 0 ≤ d.fAt ∧ d.fAt ≤ d.fL.length ∧ d.fL.length ≤ 2000
theorem raw_ok (d : Src) (hd : dh d) : Ok (Src_Raw d) (fun r => dh r.2) := by
  obtain ⟨h0, h1, h2⟩ := hd
  unfold Src_Raw
  refine Ok.iteD (fun _ => Ok.ret ⟨h0, h1, h2⟩) (fun h => ?_)
  rw [w64 (n := d.fAt + 1) (by omega) (by omega), w64 (by omega) (by omega)]
  refine Ok.bind (Ok.get (by omega) (by omega)) (fun x _ => ?_)
  refine Ok.ret ⟨?_, ?_, h2⟩ <;> simp only <;> omega
theorem gl (k : Int) (d : Src) (hd : dh d) (h0 : 1 ≤ k) (h1 : k ≤ 1000000000) : Ok (dM k d) (fun r => 0 ≤ r.1 ∧ r.1 < k ∧ dh r.2) := by
  unfold dM
  refine Ok.bind (raw_ok d hd) (fun x hx => ?_)
  refine Ok.bind (mod_ok _ _ h0 h1) (fun y hy => ?_)
  exact Ok.ret ⟨hy.1, hy.2, hx⟩
theorem eV (l : List Int) (d : Src) (hd : dh d) (h0 : l ≠ []) (h1 : l.length ≤ 1000000) : Ok (dm l d) (fun r => r.1 ∈ l ∧ dh r.2) := by
  unfold dm
  have := List.length_pos_iff.2 h0
  refine Ok.bind (gl _ d hd (by omega) (by omega)) (fun x hx => ?_)
  refine Ok.bind (Ok.get hx.1 hx.2.1) (fun y hy => ?_)
  exact Ok.ret ⟨hy.1, hx.2.2⟩
def stas : List (List UInt8) := [[83, 49], [83, 50], [83, 51], [83, 52], [83, 53], [83, 54]]
def IsSid (a : Sid) : Prop := So.dt a = true
theorem stas_ok : ∀ x ∈ stas, So.dt ⟨[65, 66], x, [48, 48], [66, 72, 90]⟩ = true := by decide +kernel
theorem source_ok (n : Int) : Ok (gd n) IsSid := by
  unfold gd
  refine Ok.bind (mod_ok n 6 (by omega) (by omega)) (fun x hx => ?_)
  refine Ok.bind (Ok.get hx.1 hx.2) (fun y hy => ?_)
  exact Ok.ret (stas_ok y hy.1)
theorem new_ok (l : List Int) : Ok (kf l) dh := by
  unfold kf
  refine Ok.bind (Ok.cut (by omega) (by split <;> omega) (by split <;> omega)) (fun x hx => ?_)
  subst hx
  refine Ok.ret ⟨by simp, by simp, ?_⟩
  simp only [List.length_take, List.length_drop]
  split <;> omega

theorem policy_ok (d : Src) (hd : dh d) : Ok (iI d) (fun r => r.1.bv.length ≤ 8 ∧ dh r.2) := by
  unfold iI
  refine Ok.bind (eV _ d hd (by simp) (by simp)) (fun x1 h1 => ?_)
  refine Ok.bind (eV _ _ h1.2 (by simp) (by simp)) (fun x2 h2 => ?_)
  refine Ok.bind (gl _ _ h2.2 (by omega) (by omega)) (fun x3 h3 => ?_)
  rw [w64 (by omega) (by omega)]
  refine Ok.bind (P := fun o => dh ⟨o.1, o.2.1⟩ ∧ o.2.2.length ≤ 8) (Ok.loop (fun s => 0 ≤ s.1 ∧ s.1 + s.2.2.2.length ≤ 3 ∧ dh ⟨s.2.1, s.2.2.1⟩) (fun s => s.1.toNat) ?_ ⟨by simp only; omega, by simp only [List.length_nil]; omega, h3.2.2⟩) ?_
  · rintro ⟨s4, s5, s6, s7⟩ ⟨i0, i1, i2⟩
    simp only at i0 i1 i2
    unfold jg
    refine Ok.iteD (fun _ => ?_) (fun _ => ?_)
    · refine Ok.bind (gl _ _ i2 (by omega) (by omega)) (fun y1 g1 => ?_)
      refine Ok.bind (gl _ _ g1.2.2 (by omega) (by omega)) (fun y2 g2 => ?_)
      refine Ok.bind (eV _ _ g2.2.2 (by simp) (by simp)) (fun y3 g3 => ?_)
      refine Ok.bind (eV _ _ g3.2 (by simp) (by simp)) (fun y4 g4 => ?_)
      refine Ok.bind (Ok.app (by simp only [List.length_cons, List.length_nil]; omega)) (fun y5 g5 => ?_)
      subst g5
      rw [w64 (n := s4 - 1) (by omega) (by omega)]
      exact Ok.nx ⟨by simp only; omega, by simp only [List.length_append, List.length_cons, List.length_nil]; omega, g4.2⟩ (by simp only; omega)
    · exact Ok.st ⟨i2, by simp only; omega⟩
  · intro o ho
    exact Ok.ret ⟨ho.2, ho.1⟩

def dH (p : Pick) : Prop := IsSid p.ai ∧ 0 ≤ p.aL ∧ p.aL ≤ p.aF ∧ p.aF ≤ p.aP ∧ p.aP ≤ 18014398509481984 ∧ 0 ≤ p.aq ∧ p.aq ≤ 1073741823 ∧ -1 ≤ p.av ∧ p.av ≤ 1
def dq (n : Int) : Prop := -1152921504606846976 ≤ n ∧ n ≤ 1152921504606846976
def PosOk (p : ak) : Prop := dq p.fX ∧ dq p.fY ∧ dq p.fZ
structure SolOk (s : aG) : Prop where
  picks : ∀ p ∈ s.aJ, dH p
  len : s.aJ.length ≤ 64
  point : PosOk s.ac.aA
  low : PosOk s.ac.am.aI
  high : PosOk s.ac.am.aw
  time : dq s.ac.aF
  misfit : dq s.ac.aQ
  lower : dq s.ac.aW
  mlow : dq s.ap.aI
  mhigh : dq s.ap.aw
  count : dq s.aU
structure EvOk (e : Ev) : Prop where
  name : dH e.aj
  sol : SolOk e.aa
theorem place_ok (d : Src) (hd : dh d) : Ok (jH 20 d) (fun r => PosOk r.1 ∧ dh r.2) := by
  unfold jH
  rw [w64 (n := 2 * 20) (by omega) (by omega), w64 (n := 2 * 20 + 1) (by omega) (by omega), w64 (n := 20 + 1) (by omega) (by omega)]
  refine Ok.bind (gl _ _ hd (by omega) (by omega)) (fun y1 g1 => ?_)
  refine Ok.bind (gl _ _ g1.2.2 (by omega) (by omega)) (fun y2 g2 => ?_)
  refine Ok.bind (gl _ _ g2.2.2 (by omega) (by omega)) (fun y3 g3 => ?_)
  rw [w64 (n := y1.1 - 20) (by omega) (by omega), w64 (n := y2.1 - 20) (by omega) (by omega)]
  refine Ok.ret ⟨⟨?_, ?_, ?_⟩, g3.2.2⟩ <;> unfold dq <;> simp only <;> omega
theorem event_ok (d : Src) (hd : dh d) : Ok (jG 1 d) (fun r => (EvOk r.1 ∧ 1 ≤ r.1.aa.aJ.length) ∧ dh r.2) := by
  unfold jG
  refine Ok.bind (gl _ _ hd (by omega) (by omega)) (fun x1 h1 => ?_)
  have hw : IntKind.wrap .i64 ((1000 : Int) + x1.1) = 1000 + x1.1 := w64 (by omega) (by omega)
  refine Ok.bind (P := fun o => dh ⟨o.1, o.2.1⟩ ∧ (1 ≤ o.2.2.length ∧ o.2.2.length ≤ 4) ∧ ∀ p ∈ o.2.2, dH p) (Ok.loop (fun s => 0 ≤ s.1 ∧ s.1 = s.2.2.2.length ∧ s.1 ≤ 4 ∧ dh ⟨s.2.1, s.2.2.1⟩ ∧ ∀ p ∈ s.2.2.2, dH p) (fun s => (4 - s.1).toNat) ?_ ⟨by simp, by simp, by simp, h1.2.2, by simp⟩) ?_
  · rintro ⟨s2, s3, s4, s5⟩ ⟨i0, i1, i2, i3, i4⟩
    simp only at i0 i1 i2 i3 i4
    unfold jO
    refine Ok.bind (gl _ _ i3 (by omega) (by omega)) (fun y1 g1 => ?_)
    rw [w64 (n := 1 + y1.1) (by omega) (by omega)]
    refine Ok.iteD (fun hlt => ?_) (fun hlt => ?_)
    · refine Ok.bind (source_ok s2) (fun y2 g2 => ?_)
      refine Ok.bind (gl _ _ g1.2.2 (by omega) (by omega)) (fun y3 g3 => ?_)
      refine Ok.bind (Ok.app (by simp only [List.length_cons, List.length_nil]; omega)) (fun y5 g5 => ?_)
      subst g5
      rw [hw, w64 (n := 10 * 1) (by omega) (by omega), w64 (n := 1000 + x1.1 + 10 * 1) (by omega) (by omega), w64 (n := 1000 + x1.1 + 10 * 1 + y3.1) (by omega) (by omega), w64 (n := s2 + 1) (by omega) (by omega)]
      refine Ok.nx ⟨by simp only; omega, by simp only [List.length_append, List.length_cons, List.length_nil]; omega, by simp only; omega, g3.2.2, ?_⟩ (by simp only; omega)
      intro p hp
      rcases List.mem_append.1 hp with hp | hp
      · exact i4 p hp
      · obtain rfl := List.mem_singleton.1 hp
        refine ⟨g2, ?_⟩
        simp only
        omega
    · refine Ok.st ⟨g1.2.2, by simp only; omega, i4⟩
  · intro o ho
    obtain ⟨h2, h3, h4⟩ := ho
    refine Ok.bind (Ok.isin (by omega) (by omega)) (fun _ _ => ?_)
    refine Ok.bind (Ok.get (by omega) (by omega)) (fun x19 h19 => ?_)
    refine Ok.bind (place_ok _ h2) (fun x20 h20 => ?_)
    refine Ok.bind (gl _ _ h20.2 (by omega) (by omega)) (fun x21 h21 => ?_)
    refine Ok.bind (eV _ _ h21.2.2 (by simp) (by simp)) (fun x22 h22 => ?_)
    have hm : dq x22.1 := by
      have := h22.1
      simp only [List.mem_cons, List.not_mem_nil, or_false] at this
      unfold dq; omega
    refine Ok.bind (gl _ _ h22.2 (by omega) (by omega)) (fun x23 h23 => ?_)
    rw [hw, w64 (n := 1000 + x1.1 - x21.1) (by omega) (by omega)]
    refine Ok.iteD (fun hlt => ?_) (fun hlt => ?_)
    · refine Ok.bind (gl _ _ h23.2.2 (by omega) (by omega)) (fun x25 h25 => ?_)
      refine Ok.bind (gl _ _ h25.2.2 (by omega) (by omega)) (fun x26 h26 => ?_)
      rw [w64 (n := x25.1 + x26.1) (by omega) (by omega)]
      exact Ok.ret ⟨⟨⟨h4 _ h19.1, ⟨h4, by simp only; omega, h20.1, h20.1, h20.1, by unfold dq; simp only; omega, hm, by unfold dq; simp only; omega, by unfold dq; simp only; omega, by unfold dq; simp only; omega, by unfold dq; simp only; omega⟩⟩, h3.1⟩, h26.2.2⟩
    · exact Ok.ret ⟨⟨⟨h4 _ h19.1, ⟨h4, by simp only; omega, h20.1, h20.1, h20.1, by unfold dq; simp only; omega, hm, by unfold dq; simp only; omega, by unfold dq; simp only; omega, by unfold dq; simp only; omega, by unfold dq; simp only; omega⟩⟩, h3.1⟩, h23.2.2⟩
end Go.Dw.Fh



set_option maxRecDepth 100000
set_option maxHeartbeats 4000000
namespace Go.Dw.Fh
open Go.Dw Go.Lib
abbrev Rd := bg
abbrev Wd := List UInt8

abbrev fmt := So.fmt
theorem chk1_at {a : Sid} (h : IsSid a) : dg a = some true ∧ dL a = some (fmt a, 0) ∧ df (fmt a) = some (a, 0) ∧ (32 : UInt8) ∉ fmt a ∧ (fmt a).length ≤ 100 := by
  have hv : So.dt a = true := h
  obtain ⟨-, h2, h3⟩ := So.valid_no hv
  refine ⟨by rw [So.jh (So.lens hv), hv], ?_, So.parse_fmt hv, h2, Nat.le_trans h3 (by decide)⟩
  rw [So.Format_eq (So.lens hv)]
  unfold So.hM
  rw [if_pos hv]

def big (n : Int) : Prop := -9223372036854775808 ≤ n ∧ n ≤ 9223372036854775807
theorem word_read (w : Wd) (ws : List Wd) (b : Bool) (hl : ws.length ≤ 1000000000) : ex ⟨w :: ws, b⟩ = some (w, ⟨ws, b⟩) := by
  unfold ex
  have h0 : (((w :: ws).length : Int) == 0) = false := by simp; omega
  simp only [h0, Bool.false_eq_true, if_false]
  rw [getO_at (n := 0) (i := 0) rfl (by simp)]
  obtain ⟨r, h1, h2⟩ := Ok.cut (l := w :: ws) (a := 1) (b := ((w :: ws).length : Int)) (by omega) (by simp; omega) (by omega)
  rw [Option.bind_some, h1, Option.bind_some]
  subst h2
  simp
theorem bB {n : Int} (h : big n) (ws : List Wd) (hl : ws.length ≤ 1000000000) : bc ⟨itoa n :: ws, false⟩ = some (n, ⟨ws, false⟩) := by
  obtain ⟨h0, h1⟩ := h
  unfold bc
  rw [word_read _ _ _ hl, Option.bind_some]
  simp only [Bool.false_eq_true, if_false]
  rw [atoiO_itoa (by omega) (by omega), Option.bind_some]
  simp only [Bool.not_true, Bool.false_eq_true, if_false]
  rw [itoaO_at (by omega) (by omega), Option.bind_some]
  simp
def bf (p : Pick) : List Wd := fmt p.ai :: [itoa p.aF, itoa p.aL, itoa p.aP, itoa p.aq, itoa p.av]
theorem pick_read {p : Pick} (hp : dH p) (ws : List Wd) (hl : ws.length ≤ 100000000) : ew ⟨bf p ++ ws, false⟩ = some (p, ⟨ws, false⟩) := by
  obtain ⟨hs, h1, h2, h3, h4, h5, h6, h7, h8⟩ := hp
  obtain ⟨-, -, f3, -⟩ := chk1_at hs
  unfold ew bf
  simp only [List.cons_append, List.nil_append]
  rw [word_read _ _ _ (by simp only [List.length_cons]; omega), Option.bind_some]
  simp only [f3, Option.bind_some, Bool.false_eq_true, if_false]
  have e : ((0 : Int) != 0) = false := rfl
  rw [e, bB (by unfold big; omega) _ (by simp only [List.length_cons]; omega), Option.bind_some]
  rw [bB (by unfold big; omega) _ (by simp only [List.length_cons]; omega), Option.bind_some]
  rw [bB (by unfold big; omega) _ (by simp only [List.length_cons]; omega), Option.bind_some]
  rw [bB (by unfold big; omega) _ (by simp only [List.length_cons]; omega), Option.bind_some]
  rw [bB (by unfold big; omega) _ (by omega), Option.bind_some]
theorem picks_read : ∀ (l : List Pick) (ws : List Wd) (acc : List Pick), (∀ p ∈ l, dH p) → l.length ≤ 1000000 → ws.length ≤ 1000000 → acc.length + l.length ≤ 1000000 →
    loopO du ((l.length : Int), l.flatMap bf ++ ws, false, acc) = some (ws, false, acc ++ l)
  | [], ws, acc, _, _, _, _ => by
    refine loopO_stop ?_
    simp [du]
  | p :: l, ws, acc, hp, hl, hw, ha => by
    simp only [List.length_cons] at hl ha
    have hfl : (l.flatMap bf).length = 6 * l.length := by
      clear hp hl hw ha
      induction l with
      | nil => rfl
      | cons a l ih => rw [List.flatMap_cons, List.length_append, ih]; simp [bf]; omega
    rw [loopO_next (s' := ((l.length : Int), l.flatMap bf ++ ws, false, acc ++ [p]))]
    · rw [picks_read l ws (acc ++ [p]) (fun q hq => hp q (by simp [hq])) (by omega) hw (by simp; omega)]
      simp
    · unfold du
      simp only
      rw [if_pos (decide_eq_true (by simp only [List.length_cons]; omega))]
      simp only [Bool.not_false, if_true]
      rw [List.flatMap_cons, List.append_assoc, pick_read (hp p (by simp)) _ (by rw [List.length_append, hfl]; omega), Option.bind_some]
      obtain ⟨r, h1, h2⟩ := Ok.app (l := acc) (m := [p]) (b := 104) (by simp only [List.length_cons, List.length_nil]; omega)
      rw [h1, Option.bind_some, h2, w64 (by simp only [List.length_cons]; omega) (by simp only [List.length_cons]; omega)]
      congr 3
      simp only [List.length_cons]; omega

def dw (p : ak) : List Int := [p.fX, p.fY, p.fZ]
def cm (s : aG) : List Int := dw s.ac.aA ++ ([s.ac.aF, s.ac.aQ, s.ac.aW] ++ (dw s.ac.am.aI ++ (dw s.ac.am.aw ++ [s.ap.aI, s.ap.aw, s.aU])))
theorem grow_at {n : Int} (h0 : 0 ≤ n) (h1 : n ≤ 1000000) : eX n = some [] := by
  unfold eX
  rw [if_neg (by simp; omega), w64 (by omega) (by omega)]
  by_cases h : n = 0
  · subst h; rfl
  · rw [if_pos (by simp; omega)]
    obtain ⟨r, g1, g2⟩ := Ok.mkz (n := n - 0) (z := (0 : Int)) (b := 8) (by omega) (by omega) (by omega)
    rw [g1, Option.bind_some]
    obtain ⟨u, g3, -⟩ := Ok.sub (n := r.length) (lo := 0) (hi := 0) (by omega) (by omega) (by omega)
    rw [g3, Option.bind_some]
    simp [eh]
theorem concat_l8 : ∀ (k : Nat) (l : List (List Int)) (i : Nat) (s : Int), i + k = l.length → 0 ≤ s → (∀ x ∈ l, x.length ≤ 1000) → l.length ≤ 100 → s ≤ 1000 * i →
    ∃ o, loopO (dE l) (s, (i : Int)) = some o ∧ 0 ≤ o ∧ o ≤ 1000 * l.length := by
  intro k
  induction k with
  | zero =>
    intro l i s hi h0 hx hl hs
    refine ⟨s, loopO_stop ?_, h0, by omega⟩
    unfold dE
    simp only
    rw [if_neg (by simp; omega)]
  | succ k ih =>
    intro l i s hi h0 hx hl hs
    have hlt : i < l.length := by omega
    have hx' := hx l[i] (List.getElem_mem _)
    rw [loopO_next (s' := (s + (l[i].length : Int), ((i + 1 : Nat) : Int)))]
    · exact ih l (i + 1) _ (by omega) (by omega) hx hl (by omega)
    · unfold dE
      simp only
      rw [if_pos (by simp; omega), getO_at rfl hlt, Option.bind_some, w64 (by omega) (by omega), if_neg (by simp; omega), w64 (n := (i : Int) + 1) (by omega) (by omega)]
      simp
theorem concat_l18 : ∀ (k : Nat) (l : List (List Int)) (i : Nat) (s : List Int), i + k = l.length → (∀ x ∈ l, x.length ≤ 1000) → l.length ≤ 100 → s.length ≤ 1000 * i →
    loopO (dp l) ((i : Int), s) = some (s ++ (l.drop i).flatten) := by
  intro k
  induction k with
  | zero =>
    intro l i s hi hx hl hs
    rw [List.drop_of_length_le (by omega)]
    simp only [List.flatten_nil, List.append_nil]
    refine loopO_stop ?_
    unfold dp
    simp only
    rw [if_neg (by simp; omega)]
  | succ k ih =>
    intro l i s hi hx hl hs
    have hlt : i < l.length := by omega
    have hx' := hx l[i] (List.getElem_mem _)
    rw [List.drop_eq_getElem_cons hlt, List.flatten_cons, ← List.append_assoc]
    rw [loopO_next (s' := (((i + 1 : Nat) : Int), s ++ l[i]))]
    · exact ih l (i + 1) _ (by omega) hx hl (by rw [List.length_append]; omega)
    · unfold dp
      simp only
      obtain ⟨r, h1, h2⟩ := Ok.app (l := s) (m := l[i]) (b := 8) (by omega)
      rw [if_pos (by simp; omega), getO_at rfl hlt, Option.bind_some, h1, Option.bind_some, h2, w64 (n := (i : Int) + 1) (by omega) (by omega)]
      simp
theorem concat_at {l : List (List Int)} (hx : ∀ x ∈ l, x.length ≤ 1000) (hl : l.length ≤ 100) : dD l = some l.flatten := by
  unfold dD
  obtain ⟨o, h1, h2, h3⟩ := concat_l8 l.length l 0 0 (by omega) (by omega) hx hl (by omega)
  have h4 := concat_l18 l.length l 0 [] (by omega) hx hl (by simp)
  simp only [Int.ofNat_zero, Int.natCast_zero, List.drop_zero, List.nil_append] at h1 h4
  rw [h1, Option.bind_some, grow_at h2 (by omega), Option.bind_some, h4, Option.bind_some]
theorem eZ (s : aG) : fq s = some (cm s) := by
  unfold fq d8
  simp only [Option.bind_some]
  rw [concat_at (by simp) (by simp), Option.bind_some]
  simp [cm, dw]

theorem fb {l : List Int} {d : List Wd} (h : ∀ n ∈ l, big n) (hl : l.length ≤ 1000000) (hd : d.length ≤ 1000000) : cp l d = some (d ++ l.map itoa) := by
  have key : ∀ k i : Nat, i + k = l.length → ∀ acc : List Wd, acc.length ≤ 1000000 + i → loopO (dO l) ((i : Int), acc) = some (acc ++ (l.drop i).map itoa) := by
    intro k
    induction k with
    | zero =>
      intro i hi acc ha
      rw [List.drop_of_length_le (by omega)]
      simp only [List.map_nil, List.append_nil]
      refine loopO_stop ?_
      unfold dO
      simp only
      rw [if_neg (by simp; omega)]; rfl
    | succ k ih =>
      intro i hi acc ha
      have hlt : i < l.length := by omega
      have hb := h l[i] (List.getElem_mem _)
      obtain ⟨b0, b1⟩ := hb
      rw [List.drop_eq_getElem_cons hlt, List.map_cons, loopO_next (s' := (((i + 1 : Nat) : Int), acc ++ [itoa l[i]]))]
      · rw [ih (i + 1) (by omega) _ (by simp; omega)]; simp
      · unfold dO
        simp only
        obtain ⟨r, h1, h2⟩ := Ok.app (l := acc) (m := [itoa l[i]]) (b := 16) (by simp only [List.length_cons, List.length_nil]; omega)
        rw [if_pos (by simp; omega), getO_at rfl hlt, Option.bind_some, itoaO_at (by omega) (by omega), Option.bind_some, h1, Option.bind_some, h2, w64 (by omega) (by omega)]
        simp
  have := key l.length 0 (by omega) d (by omega)
  unfold cp
  rw [show ((0 : Nat) : Int) = 0 from rfl] at this
  rw [this]; simp
theorem writer_eq (l : List Int) : eE l = cp l [] := rfl
theorem writer_at {l : List Int} (h : ∀ n ∈ l, big n) (hl : l.length ≤ 1000000) : eE l = some (l.map itoa) := by
  rw [writer_eq, fb h hl (by simp)]; simp
theorem jF {p : Pick} {d : List Wd} (hp : dH p) (hd : d.length ≤ 900000) : dG p d = some (d ++ bf p) := by
  obtain ⟨hs, h1, h2, h3, h4, h5, h6, h7, h8⟩ := hp
  obtain ⟨-, f2, -⟩ := chk1_at hs
  unfold dG
  rw [f2, Option.bind_some]
  obtain ⟨r, g1, g2⟩ := Ok.app (l := d) (m := [fmt p.ai]) (b := 16) (by simp only [List.length_cons, List.length_nil]; omega)
  rw [g1, Option.bind_some, g2, fb (by
    intro n hn
    unfold big
    simp only [List.mem_cons, List.not_mem_nil, or_false] at hn
    omega) (by simp) (by simp; omega), Option.bind_some]
  simp [bf]
end Go.Dw.Fh


set_option maxRecDepth 100000
set_option maxHeartbeats 4000000
namespace Go.Dw.Fh
open Go.Dw Go.Lib

structure fc (b : Bul) : Prop where
  num0 : 0 ≤ b.aT
  num1 : b.aT < 1000
  kind0 : 1 ≤ b.ba
  kind1 : b.ba ≤ 3
  id0 : 0 ≤ b.fID
  id1 : b.fID ≤ b.aT
  iss : b.fID = b.aT ↔ b.ba = 1
  lev0 : 0 ≤ b.aX
  lev1 : b.aX ≤ 8
  at_ : dq b.fAt
  ev : EvOk b.ae
theorem kg {α ω : Type} {body : Int → Option (Step1 Int ω)} (l : List α) {u : ω} (h1 : ∀ (i : Nat) (_ : i < l.length), body i = some (.next ((i + 1 : Nat) : Int)))
    (h2 : body (l.length : Nat) = some (.stop u)) : loopO body (0 : Int) = some u := by
  have : ∀ k i, i + k = l.length → loopO body (i : Int) = some u := by
    intro k
    induction k with
    | zero =>
      intro i hi
      obtain rfl : i = l.length := by omega
      exact loopO_stop h2
    | succ k ih =>
      intro i hi
      rw [loopO_next (h1 i (by omega)), ih (i + 1) (by omega)]
  exact this l.length 0 (by omega)
theorem kr {p : Pick} (hp : dH p) : b8 p = some true := by
  obtain ⟨hs, h1, h2, h3, h4, h5, h6, h7, h8⟩ := hp
  unfold b8 fP
  rw [(chk1_at hs).1, Option.bind_some, if_pos rfl, if_pos (by simp; omega), if_pos (by simp; omega), if_pos (by simp; omega), if_pos (by simp; omega), if_pos (by simp; omega)]
  have e1 : decide (p.aq ≤ 1073741823) = true := decide_eq_true (by omega)
  have e2 : decide (p.av ≤ 1) = true := decide_eq_true (by omega)
  rw [e1, Option.bind_some, if_pos rfl, if_pos (by simp; omega), e2]
  rfl
theorem containsPick_at {l : List Pick} (h : ∀ p ∈ l, dH p) (hl : l.length ≤ 1000000) : bk l = some false := by
  unfold bk bR
  rw [kg l (u := .inl ())]
  · rfl
  · intro i hi
    unfold bn cX
    rw [if_pos (by simp; omega), getO_at rfl hi, Option.bind_some, kr (h _ (List.getElem_mem _)), w64 (by omega) (by omega)]
    simp
  · unfold bn
    rw [if_neg (by simp)]
theorem within_at {l : List Int} (h : ∀ n ∈ l, -1152921504606846976 ≤ n ∧ n ≤ 1152921504606846976) (hl : l.length ≤ 1000000) : cK l = some true := by
  unfold cK b7 cn
  rw [kg l (u := .inl ())]
  · rfl
  · intro i hi
    have hb := h l[i] (List.getElem_mem _)
    unfold bu dR
    rw [if_pos (by simp; omega), getO_at rfl hi, Option.bind_some, if_neg (by simp; omega), Option.bind_some, if_neg (by simp; omega), w64 (by omega) (by omega)]
    simp
  · unfold bu
    rw [if_neg (by simp)]
theorem gJ {s : aG} (h : SolOk s) : ∀ n ∈ cm s, dq n := by
  obtain ⟨-, -, ⟨a1, a2, a3⟩, ⟨b1, b2, b3⟩, ⟨c1, c2, c3⟩, d1, d2, d3, d4, d5, d6⟩ := h
  intro n hn
  simp only [cm, dw, List.cons_append, List.nil_append, List.mem_cons, List.not_mem_nil, or_false] at hn
  rcases hn with rfl | rfl | rfl | rfl | rfl | rfl | rfl | rfl | rfl | rfl | rfl | rfl | rfl | rfl | rfl <;> assumption
theorem cC (s : aG) : (cm s).length = 15 := rfl
theorem valid_at {b : Bul} (h : fc b) : cW b = some true := by
  obtain ⟨h1, h2, h3, h4, h5, h6, h7, h8, h9, ⟨h10, h11⟩, h12⟩ := h
  have hk : (!((b.fID == b.aT) == (b.ba == (1 : Int)))) = false := by
    by_cases e : b.fID = b.aT
    · simp [e, h7.1 e]
    · have : b.ba ≠ 1 := fun e' => e (h7.2 e')
      rw [beq_eq_false_iff_ne.2 e, beq_eq_false_iff_ne.2 this]; rfl
  have hl := h12.sol.len
  unfold cW
  rw [if_neg (by simp; omega), if_neg (by simp; omega), if_neg (by simp; omega), if_neg (by simp; omega), if_neg (by simp; omega), if_neg (by simp; omega), if_neg (by rw [hk]; simp), if_neg (by simp; omega), if_neg (by simp; omega), if_neg (by simp; omega)]
  rw [kr h12.name, Option.bind_some, if_neg (by simp), containsPick_at h12.sol.picks (by omega), Option.bind_some, if_neg (by simp)]
  rw [within_at (by simp; omega) (by simp), Option.bind_some, if_pos rfl, eZ, Option.bind_some, within_at (fun n hn => by
    have := gJ h12.sol n hn
    unfold dq at this; omega) (by rw [cC]; omega)]
  rfl

def words (b : Bul) : List Wd := [b.aT, b.ba, b.fID, b.fAt, b.aX].map itoa ++ (bf b.ae.aj ++ ([(b.ae.aa.aJ.length : Int)].map itoa ++ (b.ae.aa.aJ.flatMap bf ++ (cm b.ae.aa).map itoa)))
def text (b : Bul) : List UInt8 := Lib.join (words b) [32]
theorem fr : ∀ (l : List Pick), (l.flatMap bf).length = 6 * l.length
  | [] => rfl
  | a :: l => by rw [List.flatMap_cons, List.length_append, fr l]; simp [bf]; omega
theorem kk {p : Pick} (hp : dH p) : ∀ w ∈ bf p, (32 : UInt8) ∉ w ∧ w.length ≤ 100 := by
  obtain ⟨hs, h1, h2, h3, h4, h5, h6, h7, h8⟩ := hp
  have hc := (chk1_at hs).2.2.2
  have hi : ∀ n : Int, big n → (32 : UInt8) ∉ itoa n ∧ (itoa n).length ≤ 100 := fun n hn => ⟨itoa_no (.inl (by decide)), by have := itoa_len hn.1 hn.2; omega⟩
  intro w hw
  simp only [bf, List.mem_cons, List.not_mem_nil, or_false] at hw
  rcases hw with rfl | rfl | rfl | rfl | rfl | rfl
  · exact hc
  all_goals exact hi _ (by unfold big; omega)
theorem jE {b : Bul} (h : fc b) : ∀ w ∈ words b, (32 : UInt8) ∉ w ∧ w.length ≤ 100 := by
  obtain ⟨h1, h2, h3, h4, h5, h6, h7, h8, h9, ⟨h10, h11⟩, h12⟩ := h
  have hi : ∀ n : Int, big n → (32 : UInt8) ∉ itoa n ∧ (itoa n).length ≤ 100 := fun n hn => ⟨itoa_no (.inl (by decide)), by have := itoa_len hn.1 hn.2; omega⟩
  have hl := h12.sol.len
  intro w hw
  simp only [words, List.mem_append] at hw
  rcases hw with hw | hw | hw | hw | hw
  · simp only [List.map_cons, List.map_nil, List.mem_cons, List.not_mem_nil, or_false] at hw
    rcases hw with rfl | rfl | rfl | rfl | rfl <;> exact hi _ (by unfold big; omega)
  · exact kk h12.name w hw
  · simp only [List.map_cons, List.map_nil, List.mem_cons, List.not_mem_nil, or_false] at hw
    subst hw
    exact hi _ (by unfold big; omega)
  · obtain ⟨p, hp, hw⟩ := List.mem_flatMap.1 hw
    exact kk (h12.sol.picks p hp) w hw
  · obtain ⟨n, hn, rfl⟩ := List.mem_map.1 hw
    have := gJ h12.sol n hn
    exact hi _ (by unfold dq at this; unfold big; omega)
theorem iG {b : Bul} (h : fc b) : (words b).length ≤ 500 := by
  have := h.ev.sol.len
  simp only [words, List.length_append, List.length_map, fr, cC, List.length_cons, List.length_nil, bf]
  omega
theorem encode_l13 {b : Bul} (hp : ∀ p ∈ b.ae.aa.aJ, dH p) (hl : b.ae.aa.aJ.length ≤ 1000) : ∀ (k i : Nat) (acc : List Wd), i + k = b.ae.aa.aJ.length → acc.length ≤ 100 + 6 * i →
    loopO (cS b) ((i : Int), acc) = some (acc ++ (b.ae.aa.aJ.drop i).flatMap bf) := by
  intro k
  induction k with
  | zero =>
    intro i acc hi ha
    rw [List.drop_of_length_le (by omega)]
    simp only [List.flatMap_nil, List.append_nil]
    refine loopO_stop ?_
    unfold cS
    simp only
    rw [if_neg (by simp; omega)]
  | succ k ih =>
    intro i acc hi ha
    have hlt : i < b.ae.aa.aJ.length := by omega
    rw [List.drop_eq_getElem_cons hlt, List.flatMap_cons, ← List.append_assoc, loopO_next (s' := (((i + 1 : Nat) : Int), acc ++ bf b.ae.aa.aJ[i]))]
    · exact ih (i + 1) _ (by omega) (by simp [bf]; omega)
    · unfold cS
      simp only
      rw [if_pos (by simp; omega), getO_at rfl hlt, Option.bind_some, jF (hp _ (List.getElem_mem _)) (by omega), Option.bind_some, w64 (by omega) (by omega)]
      simp
theorem encode_at {b : Bul} (h : fc b) : co b = some (text b, 0) := by
  have hv := valid_at h
  have hw := jE h
  have hwl := iG h
  obtain ⟨h1, h2, h3, h4, h5, h6, h7, h8, h9, ⟨h10, h11⟩, h12⟩ := h
  have hl := h12.sol.len
  unfold co
  rw [hv, Option.bind_some]
  simp only [Bool.not_true, Bool.false_eq_true, if_false]
  rw [writer_at (by
    intro n hn
    simp only [List.mem_cons, List.not_mem_nil, or_false] at hn
    unfold big
    omega) (by simp), Option.bind_some]
  rw [jF h12.name (by simp), Option.bind_some]
  rw [fb (by
    intro n hn
    simp only [List.mem_cons, List.not_mem_nil, or_false] at hn
    unfold big
    omega) (by simp) (by simp [bf]), Option.bind_some]
  have := encode_l13 h12.sol.picks (by omega) _ 0 ([b.aT, b.ba, b.fID, b.fAt, b.aX].map itoa ++ bf b.ae.aj ++ [(b.ae.aa.aJ.length : Int)].map itoa) (Nat.zero_add _) (by simp [bf])
  rw [show ((0 : Nat) : Int) = 0 from rfl] at this
  rw [this, Option.bind_some, eZ, Option.bind_some, fb (fun n hn => by
    have := gJ h12.sol n hn
    unfold dq at this; unfold big; omega) (by rw [cC]; omega) (by simp only [List.drop_zero, List.length_append, List.length_map, fr, List.length_cons, List.length_nil, bf]; omega), Option.bind_some]
  have e : [b.aT, b.ba, b.fID, b.fAt, b.aX].map itoa ++ bf b.ae.aj ++ [(b.ae.aa.aJ.length : Int)].map itoa ++ (List.drop 0 b.ae.aa.aJ).flatMap bf ++ (cm b.ae.aa).map itoa = words b := by
    simp only [words, List.drop_zero, List.append_assoc]
  rw [e, joinO_ok (by simp [words]) (fun w hw' => by have := (hw w hw').2; omega) (by omega) (by simp), Option.bind_some]
  rfl

theorem numbersq_at (s : aG) (d : List Pick) : eP s.ac.aA.fX s.ac.aA.fY s.ac.aA.fZ s.ac.aF s.ac.aQ s.ac.aW s.ac.am.aI.fX s.ac.am.aI.fY s.ac.am.aI.fZ
    s.ac.am.aw.fX s.ac.am.aw.fY s.ac.am.aw.fZ s.ap.aI s.ap.aw s.aU d = some (cm s, d) := by
  unfold eP d8
  simp only [Option.bind_some]
  rw [concat_at (by simp) (by simp), Option.bind_some]
  simp [cm, dw]
theorem containsq_eq (d : List Pick) : ci d = (bk d).map (fun v => (v, d)) := by
  unfold ci bk de bR
  rw [loopO_map (b := bn d) (b' := cI d) (Sum.map id (fun i => (i, d))) (fun s => by
    unfold bn cI
    rw [inO_getO]
    split
    · cases getO d s with
      | none => rfl
      | some x =>
        simp only [Option.bind_some]
        cases cX x with
        | none => rfl
        | some v => cases v <;> rfl
    · rfl)]
  cases loopO (bn d) (0 : Int) with
  | none => rfl
  | some o => cases o <;> rfl
theorem ke {α β : Type} (c : Prop) [Decidable c] (f : α → β) (x y : Option α) : (if c then x else y).map f = if c then x.map f else y.map f := by split <;> rfl
theorem Validq_eq (b : Bul) : hJ b.aT b.ba b.fID b.fAt b.aX b.ae.aj.ai.aB b.ae.aj.ai.aD b.ae.aj.ai.ac b.ae.aj.ai.aC b.ae.aj.aF b.ae.aj.aL b.ae.aj.aP b.ae.aj.aq b.ae.aj.av
    b.ae.aa.ac.aA.fX b.ae.aa.ac.aA.fY b.ae.aa.ac.aA.fZ b.ae.aa.ac.aF b.ae.aa.ac.aQ b.ae.aa.ac.aW b.ae.aa.ac.am.aI.fX b.ae.aa.ac.am.aI.fY b.ae.aa.ac.am.aI.fZ
    b.ae.aa.ac.am.aw.fX b.ae.aa.ac.am.aw.fY b.ae.aa.ac.am.aw.fZ b.ae.aa.ap.aI b.ae.aa.ap.aw b.ae.aa.aU b.ae.aa.aJ = (cW b).map (fun v => (v, b.ae.aa.aJ)) := by
  unfold hJ cW
  simp only [ke, Option.map_some, Option.map_bind, Function.comp_def, containsq_eq, numbersq_at, eZ, Option.bind_some, Option.bind_map]
theorem Encodeq_l15_eq (b : Bul) (v : Bool) : fM (v, b.ae.aa.aJ) = cS b := by
  funext ⟨s6, s7⟩
  unfold fM cS
  simp only [inO_getO]
theorem Encodeq_eq (b : Bul) : gA b.aT b.ba b.fID b.fAt b.aX b.ae.aj.ai.aB b.ae.aj.ai.aD b.ae.aj.ai.ac b.ae.aj.ai.aC b.ae.aj.aF b.ae.aj.aL b.ae.aj.aP b.ae.aj.aq b.ae.aj.av
    b.ae.aa.ac.aA.fX b.ae.aa.ac.aA.fY b.ae.aa.ac.aA.fZ b.ae.aa.ac.aF b.ae.aa.ac.aQ b.ae.aa.ac.aW b.ae.aa.ac.am.aI.fX b.ae.aa.ac.am.aI.fY b.ae.aa.ac.am.aI.fZ
    b.ae.aa.ac.am.aw.fX b.ae.aa.ac.am.aw.fY b.ae.aa.ac.am.aw.fZ b.ae.aa.ap.aI b.ae.aa.ap.aw b.ae.aa.aU b.ae.aa.aJ = (co b).map (fun r => (r.1, r.2, b.ae.aa.aJ)) := by
  unfold gA co
  rw [Validq_eq]
  cases cW b with
  | none => rfl
  | some v =>
    simp only [Option.map_some, Option.bind_some]
    simp only [ke, Option.map_some, Option.map_bind, Function.comp_def, Encodeq_l15_eq, numbersq_at, eZ, Option.bind_some]

theorem io {p : ak} (h : PosOk p) (ws : List Wd) (hl : ws.length ≤ 1000000) : cB ⟨itoa p.fX :: itoa p.fY :: itoa p.fZ :: ws, false⟩ = some (p, ⟨ws, false⟩) := by
  obtain ⟨⟨a1, a2⟩, ⟨b1, b2⟩, ⟨c1, c2⟩⟩ := h
  unfold cB
  rw [bB (by unfold big; omega) _ (by simp only [List.length_cons]; omega), Option.bind_some]
  rw [bB (by unfold big; omega) _ (by simp only [List.length_cons]; omega), Option.bind_some]
  rw [bB (by unfold big; omega) _ (by omega), Option.bind_some]
theorem text_len {b : Bul} (h : fc b) : (text b).length ≤ 100000 := by
  have h1 := join_len (s := [32]) (fun w hw => (jE h w hw).2)
  have h2 := iG h
  have h3 : (words b).length * (100 + [(32 : UInt8)].length) ≤ 500 * 101 := Nat.mul_le_mul h2 (by simp)
  unfold text; omega
theorem iw {n : Int} (h : dq n) : big n := by unfold dq at h; unfold big; omega
theorem gL {b : Bul} (h : fc b) : ca (text b) = some (b, 0) := by
  have he := encode_at h
  have hw := jE h
  have hwl := iG h
  have htl := text_len h
  have hsp : splitL 32 (text b) = words b := split_join (by simp [words]) (fun w hw' => (hw w hw').1)
  obtain ⟨h1, h2, h3, h4, h5, h6, h7, h8, h9, ⟨h10, h11⟩, h12⟩ := h
  have hl := h12.sol.len
  obtain ⟨-, -, p1, p2, p3, d1, d2, d3, d4, d5, d6⟩ := h12.sol
  unfold ca
  rw [splitO_ok (by omega), Option.bind_some, hsp]
  unfold words
  simp only [List.map_cons, List.map_nil, List.cons_append, List.nil_append]
  have hA : (bf b.ae.aj ++ itoa (b.ae.aa.aJ.length : Int) :: (b.ae.aa.aJ.flatMap bf ++ (cm b.ae.aa).map itoa)).length ≤ 1000 := by
    simp only [List.length_append, List.length_cons, List.length_map, fr, cC, bf, List.length_nil]; omega
  rw [bB (by unfold big; omega) _ (by simp only [List.length_cons]; omega), Option.bind_some]
  rw [bB (by unfold big; omega) _ (by simp only [List.length_cons]; omega), Option.bind_some]
  rw [bB (by unfold big; omega) _ (by simp only [List.length_cons]; omega), Option.bind_some]
  rw [bB (by unfold big; omega) _ (by simp only [List.length_cons]; omega), Option.bind_some]
  rw [bB (by unfold big; omega) _ (by omega), Option.bind_some]
  rw [pick_read h12.name _ (by simp only [List.length_append, List.length_cons] at hA ⊢; omega), Option.bind_some]
  rw [bB (by unfold big; omega) _ (by simp only [List.length_append, List.length_cons] at hA ⊢; omega), Option.bind_some]
  simp only
  rw [picks_read _ _ _ h12.sol.picks (by omega) (by rw [List.length_map, cC]; omega) (by simp; omega), Option.bind_some]
  simp only [cm, dw, List.cons_append, List.nil_append, List.map_cons, List.map_nil]
  rw [io p1 _ (by simp), Option.bind_some]
  rw [bB (iw d1) _ (by simp), Option.bind_some]
  rw [bB (iw d2) _ (by simp), Option.bind_some]
  rw [bB (iw d3) _ (by simp), Option.bind_some]
  rw [io p2 _ (by simp), Option.bind_some]
  rw [io p3 _ (by simp), Option.bind_some]
  rw [bB (iw d4) _ (by simp), Option.bind_some]
  rw [bB (iw d5) _ (by simp), Option.bind_some]
  rw [bB (iw d6) _ (by simp), Option.bind_some]
  simp only [Bool.false_eq_true, if_false, List.length_nil]
  rw [if_neg (by simp), Encodeq_eq, he]
  simp
theorem samePicks_self {l : List Pick} (hl : l.length ≤ 1000000) : cY l l = some true := by
  unfold cY
  rw [if_neg (by simp), kg l (u := .inl ())]
  · rfl
  · intro i hi
    unfold eb
    rw [if_pos (by simp; omega), getO_at rfl hi, Option.bind_some, Option.bind_some, if_neg (by simp), w64 (by omega) (by omega)]
    simp
  · unfold eb
    rw [if_neg (by simp)]
theorem same_self {b : Bul} (hl : b.ae.aa.aJ.length ≤ 1000000) : cH b b = some true := by
  unfold cH gq jX
  simp only [beq_self_eq_true, Bool.and_self, if_true, samePicks_self hl, Option.bind_some]
end Go.Dw.Fh


set_option maxRecDepth 100000
set_option maxHeartbeats 4000000
namespace Go.Dw.Fh
open Go.Dw Go.Lib

def ip (w : Wd) : Prop := w.length ≤ 20000
structure RdOk (r : Rd) : Prop where
  len : r.bo.length ≤ 20001
  wds : ∀ w ∈ r.bo, ip w
structure After (r r' : Rd) : Prop where
  ok : RdOk r'
  le : r'.bo.length ≤ r.bo.length
  lt : r'.cZ = false → r'.bo.length < r.bo.length
theorem After.trans {a b c : Rd} (h : After a b) (h' : After b c) : After a c := ⟨h'.ok, Nat.le_trans h'.le h.le, fun e => Nat.lt_of_lt_of_le (h'.lt e) h.le⟩
theorem After.bad {r : Rd} {ws : List Wd} {b : Bool} (h : After r ⟨ws, b⟩) : After r ⟨ws, true⟩ := ⟨⟨h.ok.len, h.ok.wds⟩, h.le, fun e => by cases e⟩
theorem word_ok (r : Rd) (h : RdOk r) : Ok (ex r) (fun x => ip x.1 ∧ After r x.2) := by
  obtain ⟨hl, hw⟩ := h
  unfold ex
  refine Ok.iteE (fun _ => ?_) (fun hne => ?_)
  · exact Ok.ret ⟨by unfold ip; simp, ⟨hl, hw⟩, Nat.le_refl _, fun e => by cases e⟩
  · refine Ok.bind (Ok.get (by omega) (by omega)) (fun x hx => ?_)
    refine Ok.bind (Ok.cut (by omega) (by omega) (by omega)) (fun y hy => ?_)
    subst hy
    have hlen : ((r.bo.drop (1 : Int).toNat).take ((r.bo.length : Int).toNat - (1 : Int).toNat)).length = r.bo.length - 1 := by
      simp only [List.length_take, List.length_drop]; omega
    refine Ok.ret ⟨hw _ hx.1, ⟨by simp only [hlen]; omega, fun w h => hw w (List.mem_of_mem_drop (List.mem_of_mem_take h))⟩, by simp only [hlen]; omega, fun _ => by simp only [hlen]; omega⟩
theorem cb (r : Rd) (h : RdOk r) : Ok (bc r) (fun x => big x.1 ∧ After r x.2) := by
  unfold bc
  refine Ok.bind (word_ok r h) (fun x hx => ?_)
  obtain ⟨hs, ha⟩ := hx
  refine Ok.bind (atoiO_ok (by unfold ip at hs; omega)) (fun y hy => ?_)
  refine Ok.iteB (fun _ => Ok.ret ⟨hy, ha.bad⟩) (fun hb => ?_)
  refine Ok.iteN (fun _ => Ok.ret ⟨hy, ha.bad⟩) (fun _ => ?_)
  rw [itoaO_at hy.1 hy.2]
  refine Ok.bind (P := fun _ => True) (Ok.ret trivial) (fun z _ => Ok.ret ⟨hy, ⟨ha.ok.len, ha.ok.wds⟩, ha.le, fun _ => ha.lt hb⟩)
def j8 (s : Sid) : Prop := s.aB.length ≤ 20000 ∧ s.aD.length ≤ 20000 ∧ s.ac.length ≤ 20000 ∧ s.aC.length ≤ 20000
theorem plain_ok (n : Int) : Ok (eL n) (fun _ => True) := by
  unfold eL
  repeat' (first | refine Ok.iteD (fun _ => ?_) (fun _ => ?_) | exact Ok.ret trivial)
theorem code_ok (w : Wd) (hw : w.length ≤ 20000) (lo hi : Int) : Ok (dF w lo hi) (fun _ => True) := by
  unfold dF
  refine Ok.bind (P := fun _ => True) (Ok.upto (w.length : Int) (by omega) (fun _ => True) trivial (fun i h0 h1 _ => ?_)) (fun o _ => ?_)
  · unfold eD
    refine Ok.iteD (fun hlt => ?_) (fun _ => Ok.st trivial)
    refine Ok.bind (Ok.byte h0 hlt) (fun x _ => ?_)
    refine Ok.bind (plain_ok x) (fun y _ => ?_)
    refine Ok.iteN (fun _ => Ok.st trivial) (fun _ => ?_)
    rw [w64 (by omega) (by omega)]
    exact Ok.nx ⟨⟨by omega, by omega⟩, trivial⟩ (by omega)
  · cases o with
    | inl y => exact Ok.iteD (fun _ => Ok.ret trivial) (fun _ => Ok.ret trivial)
    | inr y => exact Ok.ret trivial
theorem sid_ok (s : Sid) (h : j8 s) : Ok (dg s) (fun _ => True) := by
  obtain ⟨h1, h2, h3, h4⟩ := h
  unfold dg
  refine Ok.bind (code_ok _ h1 _ _) (fun x _ => Ok.iteB (fun _ => ?_) (fun _ => Ok.ret trivial))
  refine Ok.bind (code_ok _ h2 _ _) (fun x _ => Ok.iteB (fun _ => ?_) (fun _ => Ok.ret trivial))
  refine Ok.bind (code_ok _ h3 _ _) (fun x _ => Ok.iteB (fun _ => ?_) (fun _ => Ok.ret trivial))
  refine Ok.iteNe (fun _ => ?_) (fun _ => Ok.ret trivial)
  exact Ok.bind (code_ok _ h4 _ _) (fun x _ => Ok.ret trivial)
theorem sid_zero : j8 ⟨[], [], [], []⟩ := ⟨by simp, by simp, by simp, by simp⟩
theorem parse_ok (w : Wd) (h : ip w) : Ok (df w) (fun r => j8 r.1) := by
  unfold ip at h
  obtain ⟨h1, h2⟩ := splitL_len' 46 w
  unfold df
  rw [splitO_ok (by omega), Option.bind_some]
  refine Ok.iteNe (fun _ => Ok.ret sid_zero) (fun h4 => ?_)
  refine Ok.bind (Ok.get (by omega) (by omega)) (fun x0 g0 => ?_)
  refine Ok.bind (Ok.get (by omega) (by omega)) (fun x1 g1 => ?_)
  refine Ok.bind (Ok.get (by omega) (by omega)) (fun x2 g2 => ?_)
  refine Ok.bind (Ok.get (by omega) (by omega)) (fun x3 g3 => ?_)
  have hs : j8 ⟨x0, x1, x2, x3⟩ := ⟨Nat.le_trans (h2 _ g0.1) h, Nat.le_trans (h2 _ g1.1) h, Nat.le_trans (h2 _ g2.1) h, Nat.le_trans (h2 _ g3.1) h⟩
  refine Ok.bind (sid_ok _ hs) (fun y _ => ?_)
  exact Ok.iteN (fun _ => Ok.ret sid_zero) (fun _ => Ok.ret hs)
structure fK (p : Pick) : Prop where
  sid : j8 p.ai
  nums : ∀ n ∈ [p.aF, p.aL, p.aP, p.aq, p.av], big n
theorem pickr_ok (r : Rd) (h : RdOk r) : Ok (ew r) (fun x => fK x.1 ∧ After r x.2) := by
  have five : ∀ (q : Rd) (s : Sid), j8 s → After r q → Ok ((bc q).bind fun x4 => (bc x4.2).bind fun x5 => (bc x5.2).bind fun x6 => (bc x6.2).bind fun x7 => (bc x7.2).bind fun x8 => some ((ah.mk s x4.1 x5.1 x6.1 x7.1 x8.1), x8.2)) (fun x => fK x.1 ∧ After r x.2) := by
    intro q s hs hq
    refine Ok.bind (cb q hq.ok) (fun x1 h1 => ?_)
    refine Ok.bind (cb _ h1.2.ok) (fun x2 h2 => ?_)
    refine Ok.bind (cb _ h2.2.ok) (fun x3 h3 => ?_)
    refine Ok.bind (cb _ h3.2.ok) (fun x4 h4 => ?_)
    refine Ok.bind (cb _ h4.2.ok) (fun x5 h5 => ?_)
    refine Ok.ret ⟨⟨hs, ?_⟩, ((((hq.trans h1.2).trans h2.2).trans h3.2).trans h4.2).trans h5.2⟩
    intro n hn
    simp only [List.mem_cons, List.not_mem_nil, or_false] at hn
    rcases hn with rfl | rfl | rfl | rfl | rfl
    · exact h1.1
    · exact h2.1
    · exact h3.1
    · exact h4.1
    · exact h5.1
  unfold ew
  refine Ok.bind (word_ok r h) (fun x hx => ?_)
  refine Ok.bind (parse_ok _ hx.1) (fun y hy => ?_)
  refine Ok.iteB (fun _ => ?_) (fun hb => ?_)
  · exact five _ _ hy hx.2.bad
  · exact five _ _ hy ⟨⟨hx.2.ok.len, hx.2.ok.wds⟩, hx.2.le, fun _ => hx.2.lt hb⟩
def PosSm (p : ak) : Prop := ∀ n ∈ dw p, big n
theorem pos_ok (r : Rd) (h : RdOk r) : Ok (cB r) (fun x => PosSm x.1 ∧ After r x.2) := by
  unfold cB
  refine Ok.bind (cb r h) (fun x1 h1 => ?_)
  refine Ok.bind (cb _ h1.2.ok) (fun x2 h2 => ?_)
  refine Ok.bind (cb _ h2.2.ok) (fun x3 h3 => ?_)
  refine Ok.ret ⟨fun n hn => ?_, (h1.2.trans h2.2).trans h3.2⟩
  simp only [dw, List.mem_cons, List.not_mem_nil, or_false] at hn
  rcases hn with rfl | rfl | rfl
  · exact h1.1
  · exact h2.1
  · exact h3.1
theorem loop_ok (n : Int) (hn : big n) (r : Rd) (h : RdOk r) : Ok (loopO du (n, r.bo, r.cZ, [])) (fun o => RdOk ⟨o.1, o.2.1⟩ ∧ (∀ p ∈ o.2.2, fK p) ∧ o.2.2.length ≤ 20002) := by
  refine Ok.loop (fun s => big s.1 ∧ RdOk ⟨s.2.1, s.2.2.1⟩ ∧ (∀ p ∈ s.2.2.2, fK p) ∧ s.2.2.2.length + s.2.1.length ≤ 20001 + (if s.2.2.1 = true then 1 else 0)) (fun s => s.1.toNat) ?_ ⟨hn, h, by simp, ?_⟩
  · rintro ⟨k, ws, b, ps⟩ ⟨i0, i1, i2, i3⟩
    unfold big at i0
    simp only at i0 i1 i2 i3
    have hfin : RdOk ⟨ws, b⟩ ∧ (∀ p ∈ ps, fK p) ∧ ps.length ≤ 20002 := ⟨i1, i2, by split at i3 <;> omega⟩
    unfold du
    refine Ok.iteD (fun hk => ?_) (fun _ => Ok.st hfin)
    refine Ok.iteN (fun hb => ?_) (fun _ => Ok.st hfin)
    subst hb
    simp only [Bool.false_eq_true, if_false, Nat.add_zero] at i3
    refine Ok.bind (pickr_ok _ i1) (fun x hx => ?_)
    refine Ok.bind (Ok.app (by simp only [List.length_cons, List.length_nil]; omega)) (fun y hy => ?_)
    subst hy
    rw [w64 (by omega) (by omega)]
    refine Ok.nx ⟨by unfold big; simp only; omega, hx.2.ok, ?_, ?_⟩ (by simp only; omega)
    · intro p hp
      rcases List.mem_append.1 hp with hp | hp
      · exact i2 p hp
      · obtain rfl := List.mem_singleton.1 hp
        exact hx.1
    · have h1 := hx.2.le
      have h2 := hx.2.lt
      simp only [List.length_append, List.length_cons, List.length_nil] at h1 h2 ⊢
      split
      · omega
      · rename_i hf
        have := h2 (by simpa using hf)
        omega
  · have := h.len
    simp only [List.length_nil]; omega

structure BulSm (b : Bul) : Prop where
  nums : ∀ n ∈ [b.aT, b.ba, b.fID, b.fAt, b.aX], big n
  name : fK b.ae.aj
  picks : ∀ p ∈ b.ae.aa.aJ, fK p
  len : b.ae.aa.aJ.length ≤ 20002
  sol : ∀ n ∈ cm b.ae.aa, big n
theorem ks (p : Pick) (h : fK p) : Ok (b8 p) (fun _ => True) := by
  have hin : ∀ a b c : Int, Ok (fP a b c) (fun _ => True) := fun a b c => by
    unfold fP
    exact Ok.iteD (fun _ => Ok.ret trivial) (fun _ => Ok.ret trivial)
  unfold b8
  refine Ok.bind (sid_ok _ h.sid) (fun x _ => Ok.iteB (fun _ => ?_) (fun _ => Ok.ret trivial))
  refine Ok.iteD (fun _ => ?_) (fun _ => Ok.ret trivial)
  refine Ok.iteD (fun _ => ?_) (fun _ => Ok.ret trivial)
  refine Ok.iteD (fun _ => ?_) (fun _ => Ok.ret trivial)
  refine Ok.iteD (fun _ => ?_) (fun _ => Ok.ret trivial)
  refine Ok.bind (hin _ _ _) (fun x _ => Ok.iteB (fun _ => ?_) (fun _ => Ok.ret trivial))
  exact Ok.bind (hin _ _ _) (fun x _ => Ok.ret trivial)
theorem contains_ok (l : List Pick) (h : ∀ p ∈ l, fK p) (hl : l.length ≤ 1000000) : Ok (bk l) (fun _ => True) := by
  unfold bk bR
  refine Ok.bind (P := fun _ => True) (Ok.bind (P := fun _ => True) (Ok.upto (l.length : Int) (by omega) (fun _ => True) trivial (fun i h0 h1 _ => ?_)) (fun o _ => ?_)) (fun x _ => Ok.ret trivial)
  · unfold bn cX
    refine Ok.iteD (fun hlt => ?_) (fun _ => Ok.st trivial)
    refine Ok.bind (Ok.get h0 hlt) (fun x hx => ?_)
    refine Ok.bind (P := fun _ => True) (Ok.bind (ks x (h x hx.1)) (fun _ _ => Ok.ret trivial)) (fun y _ => ?_)
    refine Ok.iteB (fun _ => Ok.st trivial) (fun _ => ?_)
    rw [w64 (by omega) (by omega)]
    exact Ok.nx ⟨⟨by omega, by omega⟩, trivial⟩ (by omega)
  · cases o <;> exact Ok.ret trivial
theorem within_ok (l : List Int) (hl : l.length ≤ 1000000) : Ok (cK l) (fun _ => True) := by
  unfold cK b7 cn
  refine Ok.bind (P := fun _ => True) (Ok.bind (P := fun _ => True) (Ok.bind (P := fun _ => True) (Ok.upto (l.length : Int) (by omega) (fun _ => True) trivial (fun i h0 h1 _ => ?_)) (fun o _ => ?_)) (fun x _ => Ok.ret trivial)) (fun x _ => Ok.ret trivial)
  · unfold bu dR
    refine Ok.iteD (fun hlt => ?_) (fun _ => Ok.st trivial)
    refine Ok.bind (Ok.get h0 hlt) (fun x hx => ?_)
    refine Ok.bind (P := fun _ => True) (Ok.iteD (fun _ => Ok.ret trivial) (fun _ => Ok.ret trivial)) (fun y _ => ?_)
    refine Ok.iteB (fun _ => Ok.st trivial) (fun _ => ?_)
    rw [w64 (by omega) (by omega)]
    exact Ok.nx ⟨⟨by omega, by omega⟩, trivial⟩ (by omega)
  · cases o <;> exact Ok.ret trivial
theorem valid_ok (b : Bul) (h : BulSm b) : Ok (cW b) (fun _ => True) := by
  unfold cW
  refine Ok.iteD (fun _ => Ok.ret trivial) (fun _ => ?_)
  refine Ok.iteD (fun _ => Ok.ret trivial) (fun _ => ?_)
  refine Ok.iteD (fun _ => Ok.ret trivial) (fun _ => ?_)
  refine Ok.iteD (fun _ => Ok.ret trivial) (fun _ => ?_)
  refine Ok.iteD (fun _ => Ok.ret trivial) (fun _ => ?_)
  refine Ok.iteD (fun _ => Ok.ret trivial) (fun _ => ?_)
  refine Ok.iteN (fun _ => Ok.ret trivial) (fun _ => ?_)
  refine Ok.iteD (fun _ => Ok.ret trivial) (fun _ => ?_)
  refine Ok.iteD (fun _ => Ok.ret trivial) (fun _ => ?_)
  refine Ok.iteD (fun _ => Ok.ret trivial) (fun _ => ?_)
  refine Ok.bind (ks _ h.name) (fun x _ => Ok.iteN (fun _ => Ok.ret trivial) (fun _ => ?_))
  refine Ok.bind (contains_ok _ h.picks (by have := h.len; omega)) (fun x _ => Ok.iteB (fun _ => Ok.ret trivial) (fun _ => ?_))
  refine Ok.bind (within_ok _ (by simp)) (fun x _ => Ok.iteB (fun _ => ?_) (fun _ => Ok.ret trivial))
  rw [eZ, Option.bind_some]
  exact Ok.bind (within_ok _ (by rw [cC]; omega)) (fun x _ => Ok.ret trivial)
theorem format_ok (s : Sid) (h : j8 s) : Ok (dL s) (fun r => r.1.length ≤ 100000) := by
  unfold dL gK
  refine Ok.bind (sid_ok s h) (fun x _ => Ok.iteN (fun _ => Ok.ret (by simp)) (fun _ => ?_))
  obtain ⟨h1, h2, h3, h4⟩ := h
  have hw : ∀ w ∈ [s.aB, s.aD, s.ac, s.aC], w.length ≤ 20000 := by
    intro w hw
    simp only [List.mem_cons, List.not_mem_nil, or_false] at hw
    rcases hw with rfl | rfl | rfl | rfl <;> assumption
  rw [Option.bind_some, joinO_ok (by simp) (fun w h => by have := hw w h; omega) (by simp) (by simp), Option.bind_some]
  have := join_len (s := [46]) hw
  simp only [List.length_cons, List.length_nil] at this
  exact Ok.ret (by simp only; omega)
def WdsOk (d : List Wd) (n : Nat) : Prop := d.length = n ∧ ∀ w ∈ d, w.length ≤ 100000
theorem ku {l : List Int} (h : ∀ n ∈ l, big n) : ∀ w ∈ l.map itoa, w.length ≤ 100000 := by
  intro w hw
  obtain ⟨n, hn, rfl⟩ := List.mem_map.1 hw
  have := itoa_len (h n hn).1 (h n hn).2
  omega
theorem wds_app {d e : List Wd} {n m : Nat} (h : WdsOk d n) (he : e.length = m) (hw : ∀ w ∈ e, w.length ≤ 100000) : WdsOk (d ++ e) (n + m) := ⟨by rw [List.length_append, h.1, he], fun w hw' => (List.mem_append.1 hw').elim (h.2 w) (hw w)⟩
theorem writerp_ok (p : Pick) (h : fK p) (d : List Wd) (n : Nat) (hd : WdsOk d n) (hn : n ≤ 900000) : Ok (dG p d) (fun r => WdsOk r (n + 6)) := by
  have hl := hd.1
  unfold dG
  refine Ok.bind (format_ok _ h.sid) (fun x hx => ?_)
  refine Ok.bind (Ok.app (by simp only [List.length_cons, List.length_nil]; omega)) (fun y hy => ?_)
  subst hy
  rw [fb h.nums (by simp) (by simp; omega), Option.bind_some]
  refine Ok.ret ?_
  have h1 : WdsOk (d ++ [x.1]) (n + 1) := wds_app hd rfl (by simpa using hx)
  have h2 := wds_app h1 (m := 5) (e := [p.aF, p.aL, p.aP, p.aq, p.av].map itoa) (by simp) (ku h.nums)
  exact h2
theorem encode_ok (b : Bul) (h : BulSm b) : Ok (co b) (fun _ => True) := by
  have hl := h.len
  unfold co
  refine Ok.bind (valid_ok b h) (fun x _ => Ok.iteN (fun _ => Ok.ret trivial) (fun _ => ?_))
  rw [writer_at h.nums (by simp), Option.bind_some]
  have h0 : WdsOk ([b.aT, b.ba, b.fID, b.fAt, b.aX].map itoa) 5 := ⟨by simp, ku h.nums⟩
  refine Ok.bind (writerp_ok _ h.name _ 5 h0 (by omega)) (fun y hy => ?_)
  have hlen : ∀ n ∈ [(b.ae.aa.aJ.length : Int)], big n := by
    intro n hn
    obtain rfl := List.mem_singleton.1 hn
    unfold big; omega
  rw [fb hlen (by simp) (by have := hy.1; omega), Option.bind_some]
  have h1 := wds_app hy (m := 1) (e := [(b.ae.aa.aJ.length : Int)].map itoa) (by simp) (ku hlen)
  refine Ok.bind (P := fun o => WdsOk o (12 + 6 * b.ae.aa.aJ.length)) (Ok.loop (fun s => (0 ≤ s.1 ∧ s.1 ≤ b.ae.aa.aJ.length) ∧ WdsOk s.2 (12 + 6 * s.1.toNat)) (fun s => ((b.ae.aa.aJ.length : Int) - s.1).toNat) ?_ ⟨by simp only; omega, h1⟩) (fun o ho => ?_)
  · rintro ⟨i, d⟩ ⟨⟨i0, i1⟩, i2⟩
    simp only at i0 i1 i2
    unfold cS
    refine Ok.iteD (fun hlt => ?_) (fun hge => ?_)
    · refine Ok.bind (Ok.get i0 hlt) (fun p hp => ?_)
      refine Ok.bind (writerp_ok p (h.picks p hp.1) d _ i2 (by omega)) (fun z hz => ?_)
      rw [w64 (by omega) (by omega)]
      refine Ok.nx ⟨by simp only; omega, ?_⟩ (by simp only; omega)
      have e : 12 + 6 * i.toNat + 6 = 12 + 6 * (i + 1).toNat := by omega
      rw [e] at hz
      exact hz
    · have e : i.toNat = b.ae.aa.aJ.length := by omega
      rw [e] at i2
      exact Ok.st i2
  · rw [eZ, Option.bind_some, fb h.sol (by rw [cC]; omega) (by have := ho.1; omega), Option.bind_some]
    have h2 := wds_app ho (m := 15) (e := (cm b.ae.aa).map itoa) (by rw [List.length_map, cC]) (ku h.sol)
    have hne : o ++ (cm b.ae.aa).map itoa ≠ [] := by
      intro e
      have := h2.1
      rw [e] at this
      simp at this
    rw [joinO_ok hne (fun w hw => by have := h2.2 w hw; omega) (by have := h2.1; omega) (by simp), Option.bind_some]
    exact Ok.ret trivial

def gY : Bul := ag.mk 0 0 0 0 0 (az.mk (ah.mk (au.mk [] [] [] []) 0 0 0 0 0) (aG.mk [] (aK.mk (ak.mk 0 0 0) 0 0 0 (aZ.mk (ak.mk 0 0 0) (ak.mk 0 0 0))) (aO.mk 0 0) 0))
theorem decode_ok (t : List UInt8) (ht : t.length ≤ 20000) : Ok (ca t) (fun r => (r.2 = 0 ∧ BulSm r.1 ∧ co r.1 = some (t, 0)) ∨ r = (gY, 3)) := by
  obtain ⟨s1, s2⟩ := splitL_len' 32 t
  unfold ca
  rw [splitO_ok (by omega), Option.bind_some]
  have hr : RdOk ⟨splitL 32 t, false⟩ := ⟨by simp only; omega, fun w hw => Nat.le_trans (s2 w hw) ht⟩
  refine Ok.bind (cb _ hr) (fun x2 h2 => ?_)
  refine Ok.bind (cb _ h2.2.ok) (fun x3 h3 => ?_)
  refine Ok.bind (cb _ h3.2.ok) (fun x4 h4 => ?_)
  refine Ok.bind (cb _ h4.2.ok) (fun x5 h5 => ?_)
  refine Ok.bind (cb _ h5.2.ok) (fun x6 h6 => ?_)
  refine Ok.bind (pickr_ok _ h6.2.ok) (fun x7 h7 => ?_)
  refine Ok.bind (cb _ h7.2.ok) (fun x8 h8 => ?_)
  refine Ok.bind (loop_ok _ h8.1 _ h8.2.ok) (fun o ho => ?_)
  refine Ok.bind (pos_ok _ ho.1) (fun x23 h23 => ?_)
  refine Ok.bind (cb _ h23.2.ok) (fun x24 h24 => ?_)
  refine Ok.bind (cb _ h24.2.ok) (fun x25 h25 => ?_)
  refine Ok.bind (cb _ h25.2.ok) (fun x26 h26 => ?_)
  refine Ok.bind (pos_ok _ h26.2.ok) (fun x27 h27 => ?_)
  refine Ok.bind (pos_ok _ h27.2.ok) (fun x28 h28 => ?_)
  refine Ok.bind (cb _ h28.2.ok) (fun x29 h29 => ?_)
  refine Ok.bind (cb _ h29.2.ok) (fun x30 h30 => ?_)
  refine Ok.bind (cb _ h30.2.ok) (fun x31 h31 => ?_)
  refine Ok.iteB (fun _ => Ok.ret (.inr rfl)) (fun _ => ?_)
  refine Ok.iteD (fun _ => Ok.ret (.inr rfl)) (fun _ => ?_)
  have hb : BulSm ⟨x2.1, x3.1, x4.1, x5.1, x6.1, ⟨x7.1, ⟨o.2.2, ⟨x23.1, x24.1, x25.1, x26.1, ⟨x27.1, x28.1⟩⟩, ⟨x29.1, x30.1⟩, x31.1⟩⟩⟩ := by
    refine ⟨?_, h7.1, ho.2.1, ho.2.2, ?_⟩
    · intro n hn
      simp only [List.mem_cons, List.not_mem_nil, or_false] at hn
      rcases hn with rfl | rfl | rfl | rfl | rfl
      · exact h2.1
      · exact h3.1
      · exact h4.1
      · exact h5.1
      · exact h6.1
    · intro n hn
      simp only [cm] at hn
      rcases List.mem_append.1 hn with hn | hn
      · exact h23.1 n hn
      rcases List.mem_append.1 hn with hn | hn
      · simp only [List.mem_cons, List.not_mem_nil, or_false] at hn
        rcases hn with rfl | rfl | rfl
        · exact h24.1
        · exact h25.1
        · exact h26.1
      rcases List.mem_append.1 hn with hn | hn
      · exact h27.1 n hn
      rcases List.mem_append.1 hn with hn | hn
      · exact h28.1 n hn
      simp only [List.mem_cons, List.not_mem_nil, or_false] at hn
      rcases hn with rfl | rfl | rfl
      · exact h29.1
      · exact h30.1
      · exact h31.1
  obtain ⟨⟨w, e⟩, he, -⟩ := encode_ok _ hb
  have hq := Encodeq_eq ⟨x2.1, x3.1, x4.1, x5.1, x6.1, ⟨x7.1, ⟨o.2.2, ⟨x23.1, x24.1, x25.1, x26.1, ⟨x27.1, x28.1⟩⟩, ⟨x29.1, x30.1⟩, x31.1⟩⟩⟩
  rw [he] at hq
  simp only [Option.map_some] at hq
  rw [hq, Option.bind_some]
  refine Ok.iteNe (fun _ => Ok.ret (.inr rfl)) (fun h0 => ?_)
  refine Ok.iteN (fun _ => Ok.ret (.inr rfl)) (fun h1 => Ok.ret (.inl ⟨rfl, hb, ?_⟩))
  simp only at h0 h1
  have h1' : w = t := by simpa using h1
  rw [← h1', ← h0]
  exact he
end Go.Dw.Fh


set_option maxRecDepth 100000
set_option maxHeartbeats 4000000
namespace Go.Dw.Fh
open Go.Dw Go.Lib

def gy (p : Pick) : Bool := So.dt p.ai && (decide (p.aL ≥ 0) && (decide (p.aL ≤ p.aF) && (decide (p.aF ≤ p.aP) && (decide (p.aP ≤ 18014398509481984) && ((decide (p.aq ≥ 0) && decide (p.aq ≤ 1073741823)) && (decide (p.av ≥ -1) && decide (p.av ≤ 1)))))))
theorem ff (c x : Bool) : (if c = true then some false else some x) = some (!c && x) := by cases c <;> rfl
theorem ft (c x : Bool) : (if c = true then some x else some false) = some (c && x) := by cases c <;> rfl
theorem fn (c x : Bool) : (if (!c) = true then some false else some x) = some (c && x) := by cases c <;> rfl
structure jK (b : Bul) : Prop where
  name : So.eM b.ae.aj.ai
  picks : ∀ p ∈ b.ae.aa.aJ, So.eM p.ai
  len : b.ae.aa.aJ.length ≤ 1000000
theorem vpick_eq {p : Pick} (h : So.eM p.ai) : b8 p = some (gy p) := by
  unfold b8 fP gy
  simp only [So.jh h, Option.bind_some, ft]
theorem rpick_eq {p : Pick} (h : So.eM p.ai) : cf p = some (gy p) := by
  unfold cf ko gy
  simp only [So.iT h, Option.bind_some, ft]
theorem loop_some {α ω : Type} {body : Int → Option (Step1 Int ω)} (l : List α) {p : α → Bool} {u : ω} {r : Int → ω} (h1 : ∀ (i : Nat) (hi : i < l.length), body i = if p l[i] = true then some (.next ((i + 1 : Nat) : Int)) else some (.stop (r i)))
    (h2 : body (l.length : Nat) = some (.stop u)) : ∃ o, loopO body (0 : Int) = some o ∧ (l.all p = true → o = u) ∧ (l.all p = false → ∃ i : Nat, o = r i) := by
  have : ∀ k i, i + k = l.length → ∃ o, loopO body (i : Int) = some o ∧ ((l.drop i).all p = true → o = u) ∧ ((l.drop i).all p = false → ∃ i : Nat, o = r i) := by
    intro k
    induction k with
    | zero =>
      intro i hi
      obtain rfl : i = l.length := by omega
      exact ⟨u, loopO_stop h2, fun _ => rfl, fun h => by simp at h⟩
    | succ k ih =>
      intro i hi
      have hlt : i < l.length := by omega
      rw [List.drop_eq_getElem_cons hlt, List.all_cons]
      by_cases hp : p l[i] = true
      · rw [loopO_next (by rw [h1 i hlt, if_pos hp]), hp, Bool.true_and]
        exact ih (i + 1) (by omega)
      · rw [loopO_stop (by rw [h1 i hlt, if_neg hp])]
        exact ⟨_, rfl, fun h => by simp [hp] at h, fun _ => ⟨i, rfl⟩⟩
  have := this l.length 0 (by omega)
  simpa using this
theorem contains_eq {l : List Pick} (h : ∀ p ∈ l, So.eM p.ai) (hl : l.length ≤ 1000000) : bk l = some (!l.all gy) := by
  unfold bk bR
  obtain ⟨o, h1, h2, h3⟩ := loop_some (body := bn l) l (p := gy) (u := .inl ()) (r := fun i => .inr i) (fun i hi => by
    unfold bn cX
    rw [if_pos (by simp; omega), getO_at rfl hi, Option.bind_some, vpick_eq (h _ (List.getElem_mem _)), w64 (by omega) (by omega)]
    cases gy l[i] <;> simp) (by unfold bn; rw [if_neg (by simp)])
  rw [h1]
  cases hb : l.all gy with
  | true => rw [h2 hb]; rfl
  | false =>
    obtain ⟨i, rfl⟩ := h3 hb
    simp
def inB (n : Int) : Bool := !decide (n < -1152921504606846976) && !decide (n > 1152921504606846976)
theorem within_eq {l : List Int} (hl : l.length ≤ 1000000) : cK l = some (l.all inB) := by
  unfold cK b7 cn
  obtain ⟨o, h1, h2, h3⟩ := loop_some (body := bu l) l (p := inB) (u := .inl ()) (r := fun i => .inr i) (fun i hi => by
    unfold bu dR inB
    rw [if_pos (by simp; omega), getO_at rfl hi, Option.bind_some, w64 (by omega) (by omega)]
    cases decide (l[i] < -1152921504606846976) <;> cases decide (l[i] > 1152921504606846976) <;> simp) (by unfold bu; rw [if_neg (by simp)])
  rw [h1]
  cases hb : l.all inB with
  | true => rw [h2 hb]; rfl
  | false =>
    obtain ⟨i, rfl⟩ := h3 hb
    simp
theorem rwithin_eq {l : List Int} (hl : l.length ≤ 1000000) : ef l = some (l.all inB) := by
  unfold ef
  rw [So.iv l (p := inB) (u := .inl ()) (r := .inr false) (fun i hi => by
    unfold gu inB
    rw [if_pos (by simp; omega), getO_at rfl hi, Option.bind_some, Option.bind_some, w64 (by omega) (by omega)]
    cases decide (l[i] < -1152921504606846976) <;> cases decide (l[i] > 1152921504606846976) <;> simp) (by unfold gu; rw [if_neg (by simp)])]
  cases l.all inB <;> rfl
def vB (b : Bul) : Bool := !decide (b.aT < 0) && (!decide (b.aT ≥ 1000) && (!decide (b.ba < 1) && (!decide (b.ba > 3) && (!decide (b.fID < 0) && (!decide (b.fID > b.aT) && (((b.fID == b.aT) == (b.ba == 1)) && (!decide (b.aX < 0) && (!decide (b.aX > 8) &&
  (!decide ((b.ae.aa.aJ.length : Int) > 64) && (gy b.ae.aj && (b.ae.aa.aJ.all gy && ([b.fAt].all inB && (cm b.ae.aa).all inB))))))))))))
theorem jC {b : Bul} (h : jK b) : cW b = some (vB b) := by
  unfold cW vB
  simp only [vpick_eq h.name, contains_eq h.picks h.len, within_eq (l := [b.fAt]) (by simp), eZ, within_eq (l := cm b.ae.aa) (by rw [cC]; omega), Option.bind_some, ff, ft, fn, Bool.not_not]
theorem rvalid_eq {b : Bul} (h : jK b) : dC b = some (vB b) := by
  have hl := h.len
  unfold dC vB
  rw [So.iv b.ae.aa.aJ (p := gy) (u := .inl ()) (r := .inr false) (fun i hi => by
    unfold em
    rw [if_pos (by simp; omega), getO_at rfl hi, Option.bind_some, rpick_eq (h.picks _ (List.getElem_mem _)), Option.bind_some, w64 (by omega) (by omega)]
    cases gy b.ae.aa.aJ[i] <;> simp) (by unfold em; rw [if_neg (by simp)])]
  have hw : [b.fAt, b.ae.aa.ac.aA.fX, b.ae.aa.ac.aA.fY, b.ae.aa.ac.aA.fZ, b.ae.aa.ac.aF, b.ae.aa.ac.aQ, b.ae.aa.ac.aW, b.ae.aa.ac.am.aI.fX, b.ae.aa.ac.am.aI.fY, b.ae.aa.ac.am.aI.fZ, b.ae.aa.ac.am.aw.fX, b.ae.aa.ac.am.aw.fY, b.ae.aa.ac.am.aw.fZ, b.ae.aa.ap.aI, b.ae.aa.ap.aw, b.ae.aa.aU] = [b.fAt] ++ cm b.ae.aa := rfl
  have h64 : decide ((b.ae.aa.aJ.length : Int) ≤ 64) = !decide ((b.ae.aa.aJ.length : Int) > 64) := by
    rw [← decide_not]; exact decide_eq_decide.2 (by omega)
  rw [hw, rwithin_eq (by simp [cC]), rpick_eq h.name, List.all_append, h64]
  simp only [Option.bind_some, ff, ft, fn]
  cases h1 : b.ae.aa.aJ.all gy <;> simp only [Bool.false_eq_true, if_true, if_false, Option.bind_some, ff, fn]
  · simp
  · cases gy b.ae.aj <;> cases decide ((b.ae.aa.aJ.length : Int) > 64) <;> simp
theorem pick_ok_of {p : Pick} (h : gy p = true) : dH p := by
  unfold gy at h
  simp only [Bool.and_eq_true, decide_eq_true_eq] at h
  obtain ⟨h1, h2, h3, h4, h5, ⟨h6, h7⟩, h8, h9⟩ := h
  exact ⟨h1, h2, h3, h4, h5, h6, h7, h8, h9⟩
theorem inB_near {n : Int} (h : inB n = true) : dq n := by
  unfold inB at h
  simp only [Bool.and_eq_true, Bool.not_eq_true', decide_eq_false_iff_not] at h
  unfold dq
  omega
theorem eF {b : Bul} (h : vB b = true) : fc b := by
  unfold vB at h
  simp only [Bool.and_eq_true, Bool.not_eq_true', decide_eq_false_iff_not, List.all_eq_true, beq_iff_eq] at h
  obtain ⟨h1, h2, h3, h4, h5, h6, h7, h8, h9, h10, h11, h12, h13, h14⟩ := h
  have hn : ∀ n ∈ cm b.ae.aa, dq n := fun n hn => inB_near (h14 n hn)
  have hi : b.fID = b.aT ↔ b.ba = 1 := by
    by_cases e : b.fID = b.aT
    · have : (b.fID == b.aT) = true := by simpa using e
      rw [this] at h7
      exact ⟨fun _ => by simpa using h7.symm, fun _ => e⟩
    · have : (b.fID == b.aT) = false := by simpa using e
      rw [this] at h7
      exact ⟨fun e' => (e e').elim, fun e' => by rw [e'] at h7; cases h7⟩
  have hm : ∀ n, n ∈ cm b.ae.aa → dq n := hn
  simp only [cm, dw, List.cons_append, List.nil_append, List.mem_cons, List.not_mem_nil, or_false] at hm
  refine ⟨by omega, by omega, by omega, by omega, by omega, by omega, hi, by omega, by omega, inB_near (h13 _ (by simp)), pick_ok_of h11, ⟨fun p hp => pick_ok_of (h12 p hp), by omega, ?_, ?_, ?_, ?_, ?_, ?_, ?_, ?_, ?_⟩⟩
  · exact ⟨hm _ (by simp), hm _ (by simp), hm _ (by simp)⟩
  · exact ⟨hm _ (by simp), hm _ (by simp), hm _ (by simp)⟩
  · exact ⟨hm _ (by simp), hm _ (by simp), hm _ (by simp)⟩
  · exact hm _ (by simp)
  · exact hm _ (by simp)
  · exact hm _ (by simp)
  · exact hm _ (by simp)
  · exact hm _ (by simp)
  · exact hm _ (by simp)
theorem j9 {b : Bul} (h : fc b) : jK b := ⟨So.lens h.ev.name.1, fun p hp => So.lens (h.ev.sol.picks p hp).1, by have := h.ev.sol.len; omega⟩
theorem bul_vB {b : Bul} (h : fc b) : vB b = true := by
  have h1 := jC (j9 h)
  rw [valid_at h] at h1
  exact (Option.some.inj h1).symm
theorem rvalid_at {b : Bul} (h : fc b) : dC b = some true := by rw [rvalid_eq (j9 h), bul_vB h]
theorem encode_eq {b : Bul} (h : jK b) : co b = some (if vB b = true then (text b, 0) else ([], 1)) := by
  by_cases hv : vB b = true
  · rw [if_pos hv, encode_at (eF hv)]
  · rw [if_neg hv]
    unfold co
    rw [jC h, Option.bind_some, if_pos (by simpa using hv)]

theorem digit_cut {d : Int} (h0 : 0 ≤ d) (h1 : d < 10) : cutO ([48, 49, 50, 51, 52, 53, 54, 55, 56, 57] : List UInt8) d (IntKind.wrap .i64 (d + 1)) = some [UInt8.ofNat (48 + d.toNat)] := by
  rw [w64 (by omega) (by omega)]
  obtain ⟨n, rfl⟩ : ∃ n : Nat, d = n := ⟨d.toNat, by omega⟩
  have : n < 10 := by omega
  match n, this with
  | 0, _ => rfl
  | 1, _ => rfl
  | 2, _ => rfl
  | 3, _ => rfl
  | 4, _ => rfl
  | 5, _ => rfl
  | 6, _ => rfl
  | 7, _ => rfl
  | 8, _ => rfl
  | 9, _ => rfl
theorem kc (u : Nat) (hu : u < 10 ^ 19) : (decDigits u).length ≤ 20 := decDigits_len 19 u hu
theorem iJ : ∀ (f u : Nat), u < 10 ^ f → u ≤ 1152921504606846976 → 1 ≤ f → bP f (u : Int) = some (decDigits u)
  | 0, _, _, _, h => by omega
  | f + 1, u, hu, hb, _ => by
    unfold bP
    rw [if_neg (by simp)]
    by_cases h : u < 10
    · rw [if_pos (by simp; omega), digit_cut (by omega) (by omega), Option.bind_some, decDigits_small h]; rfl
    · rw [if_neg (by simp; omega)]
      obtain ⟨q, h1, h2⟩ := Ok.quo (k := .i64) (x := (u : Int)) (y := 10) (by omega)
      rw [h1, Option.bind_some, h2]
      have hq : IntKind.wrap .i64 ((u : Int).tdiv 10) = ((u / 10 : Nat) : Int) := by
        have : (u : Int).tdiv 10 = ((u / 10 : Nat) : Int) := by rw [Int.ofNat_tdiv]; rfl
        rw [this, w64 (by omega) (by omega)]
      have hf : 1 ≤ f := by
        cases f with
        | zero => simp at hu; omega
        | succ f => omega
      rw [hq, iJ f (u / 10) (by rw [Nat.pow_succ] at hu; omega) (by omega) hf, Option.bind_some]
      obtain ⟨r, h3, h4⟩ := Ok.rem (x := (u : Int)) (y := 10) (by omega)
      have hr : (u : Int).tmod 10 = ((u % 10 : Nat) : Int) := by rw [Int.ofNat_tmod]; rfl
      rw [h3, h4, hr, Option.bind_some, Option.bind_some, digit_cut (by omega) (by omega), Option.bind_some]
      have hl := kc (u / 10) (by omega)
      rw [So.eH (by simp only [List.length_cons, List.length_nil]; omega), Option.bind_some, decDigits_big h, Int.toNat_natCast]
theorem jP {n m : Nat} {x : Int} {r : List UInt8} (h : bP n x = some r) (hm : n ≤ m) : bP m x = some r := by
  induction n generalizing m x r with
  | zero => cases h
  | succ n ih =>
    obtain ⟨m, rfl⟩ : ∃ k, m = k + 1 := ⟨m - 1, by omega⟩
    unfold bP at h ⊢
    split at h
    · rename_i hc
      rw [if_pos hc]
      cases h1 : bP n (IntKind.wrap .i64 (0 - x)) with
      | none => rw [h1] at h; cases h
      | some y => rw [ih h1 (by omega)]; rw [h1] at h; exact h
    · rename_i hc
      rw [if_neg hc]
      split at h
      · rename_i hc2
        rw [if_pos hc2]; exact h
      · rename_i hc2
        rw [if_neg hc2]
        cases h0 : quoO .i64 x (10 : Int) with
        | none => rw [h0] at h; cases h
        | some q =>
          rw [h0] at h
          simp only [Option.bind_some] at h ⊢
          cases h1 : bP n q with
          | none => rw [h1] at h; cases h
          | some y => rw [ih h1 (by omega)]; rw [h1] at h; exact h
theorem decimal_at {n : Int} (h0 : -1152921504606846976 ≤ n) (h1 : n ≤ 1152921504606846976) : dK n = some (itoa n) := by
  have key : bP 21 n = some (itoa n) := by
    unfold itoa
    by_cases h : n < 0
    · rw [if_pos h]
      unfold bP
      rw [if_pos (by simpa using h), w64 (by omega) (by omega)]
      obtain ⟨k, hk⟩ : ∃ k : Nat, 0 - n = k := ⟨(0 - n).toNat, by omega⟩
      have hka : n.natAbs = k := by omega
      rw [hk, hka, iJ 20 k (by omega) (by omega) (by omega), Option.bind_some]
      have hl := kc k (by omega)
      rw [So.eH (by simp only [List.length_cons, List.length_nil]; omega)]; rfl
    · rw [if_neg h]
      obtain ⟨k, rfl⟩ : ∃ k : Nat, n = k := ⟨n.toNat, by omega⟩
      exact iJ 21 k (by omega) (by omega) (by omega)
  unfold dK
  refine recO_of ⟨21, key⟩ fun m s hs => ?_
  rcases Nat.le_total m 21 with hm | hm
  · have := jP hs hm
    rw [key] at this; exact (Option.some.inj this).symm
  · have := jP key hm
    rw [hs] at this; exact Option.some.inj this
theorem near_dec {n : Int} (h : dq n) : dK n = some (itoa n) := decimal_at h.1 h.2
theorem gf {l : List Int} (h : ∀ n ∈ l, dq n) (hl : l.length ≤ 1000) : cg l = some (l.map itoa) := by
  have key : ∀ k i : Nat, i + k = l.length → ∀ acc : List Wd, acc.length ≤ 1000000 + i → loopO (eK l) ((i : Int), acc) = some (acc ++ (l.drop i).map itoa) := by
    intro k
    induction k with
    | zero =>
      intro i hi acc ha
      rw [List.drop_of_length_le (by omega)]
      simp only [List.map_nil, List.append_nil]
      refine loopO_stop ?_
      unfold eK
      simp only
      rw [if_neg (by simp; omega)]
    | succ k ih =>
      intro i hi acc ha
      have hlt : i < l.length := by omega
      rw [List.drop_eq_getElem_cons hlt, List.map_cons, loopO_next (s' := (((i + 1 : Nat) : Int), acc ++ [itoa l[i]]))]
      · rw [ih (i + 1) (by omega) _ (by simp; omega)]; simp
      · unfold eK
        simp only
        rw [if_pos (by simp; omega), getO_at rfl hlt, Option.bind_some, near_dec (h _ (List.getElem_mem _)), Option.bind_some, So.dY (by simp; omega), Option.bind_some, w64 (by omega) (by omega)]
        simp
  have := key l.length 0 (by omega) [] (by simp)
  unfold cg
  rw [show ((0 : Nat) : Int) = 0 from rfl] at this
  rw [this]; simp
theorem pick_near {p : Pick} (hp : dH p) : ∀ n ∈ [p.aF, p.aL, p.aP, p.aq, p.av], dq n := by
  obtain ⟨hs, h1, h2, h3, h4, h5, h6, h7, h8⟩ := hp
  intro n hn
  simp only [List.mem_cons, List.not_mem_nil, or_false] at hn
  unfold dq
  omega
theorem rpick_at {p : Pick} (hp : dH p) : e9 p = some (bf p) := by
  have hv : So.dt p.ai = true := hp.1
  unfold e9
  rw [So.ref_Format_eq (So.lens hv), Option.bind_some, gf (pick_near hp) (by simp), Option.bind_some, So.dY (by simp), Option.bind_some]
  unfold So.hM
  rw [if_pos hv]
  simp [bf]
theorem rwords_l14 {b : Bul} (hp : ∀ p ∈ b.ae.aa.aJ, dH p) (hl : b.ae.aa.aJ.length ≤ 1000) : ∀ (k i : Nat) (acc : List Wd), i + k = b.ae.aa.aJ.length → acc.length ≤ 100 + 6 * i →
    loopO (dv b) ((i : Int), acc) = some (acc ++ (b.ae.aa.aJ.drop i).flatMap bf) := by
  intro k
  induction k with
  | zero =>
    intro i acc hi ha
    rw [List.drop_of_length_le (by omega)]
    simp only [List.flatMap_nil, List.append_nil]
    refine loopO_stop ?_
    unfold dv
    simp only
    rw [if_neg (by simp; omega)]
  | succ k ih =>
    intro i acc hi ha
    have hlt : i < b.ae.aa.aJ.length := by omega
    rw [List.drop_eq_getElem_cons hlt, List.flatMap_cons, ← List.append_assoc, loopO_next (s' := (((i + 1 : Nat) : Int), acc ++ bf b.ae.aa.aJ[i]))]
    · exact ih (i + 1) _ (by omega) (by simp [bf]; omega)
    · unfold dv
      simp only
      rw [if_pos (by simp; omega), getO_at rfl hlt, Option.bind_some, rpick_at (hp _ (List.getElem_mem _)), Option.bind_some, So.dY (by simp [bf]; omega), Option.bind_some, w64 (by omega) (by omega)]
      simp
theorem rwords_at {b : Bul} (h : fc b) : fk b = some (words b) := by
  have hl := h.ev.sol.len
  have hs := gJ h.ev.sol
  simp only [cm, dw, List.cons_append, List.nil_append, List.mem_cons, List.not_mem_nil, or_false] at hs
  unfold fk
  rw [gf (by
    intro n hn
    simp only [List.mem_cons, List.not_mem_nil, or_false] at hn
    have := h.num0; have := h.num1; have := h.kind0; have := h.kind1; have := h.id0; have := h.id1; have := h.lev0; have := h.lev1
    have ⟨a1, a2⟩ := h.at_
    unfold dq
    omega) (by simp), Option.bind_some, rpick_at h.ev.name, Option.bind_some, So.dY (by simp [bf]), Option.bind_some, decimal_at (by omega) (by omega), Option.bind_some, So.dY (by simp [bf]), Option.bind_some]
  have h14 := rwords_l14 h.ev.sol.picks (by omega) _ 0 (List.map itoa [b.aT, b.ba, b.fID, b.fAt, b.aX] ++ bf b.ae.aj ++ [itoa (b.ae.aa.aJ.length : Int)]) (Nat.zero_add _) (by simp [bf])
  rw [show ((0 : Nat) : Int) = 0 from rfl] at h14
  rw [h14, Option.bind_some]
  rw [gf (fun n hn => hs n (by simp only [List.mem_cons, List.not_mem_nil, or_false] at hn; rcases hn with rfl | rfl | rfl | rfl | rfl | rfl <;> simp)) (by simp), Option.bind_some, So.dY (by simp only [List.drop_zero, List.length_append, List.length_map, List.length_cons, List.length_nil, fr, bf]; omega), Option.bind_some]
  rw [gf (fun n hn => hs n (by simp only [List.mem_cons, List.not_mem_nil, or_false] at hn; rcases hn with rfl | rfl | rfl | rfl | rfl | rfl <;> simp)) (by simp), Option.bind_some, So.dY (by simp only [List.drop_zero, List.length_append, List.length_map, List.length_cons, List.length_nil, fr, bf]; omega), Option.bind_some]
  rw [gf (fun n hn => hs n (by simp only [List.mem_cons, List.not_mem_nil, or_false] at hn; rcases hn with rfl | rfl | rfl <;> simp)) (by simp), Option.bind_some, So.dY (by simp only [List.drop_zero, List.length_append, List.length_map, List.length_cons, List.length_nil, fr, bf]; omega), Option.bind_some]
  simp [words, cm, dw]
theorem join_snoc (l : List Wd) (w : Wd) : l ≠ [] → Lib.join (l ++ [w]) [32] = Lib.join l [32] ++ [32] ++ w := by
  induction l with
  | nil => intro h; exact (h rfl).elim
  | cons a l ih =>
    intro _
    cases l with
    | nil => rw [show [a] ++ [w] = [a, w] from rfl, join_cons, join_one, join_one]
    | cons c l =>
      rw [show a :: c :: l ++ [w] = a :: c :: (l ++ [w]) from rfl, join_cons, join_cons]
      have := ih (by simp)
      rw [show c :: l ++ [w] = c :: (l ++ [w]) from rfl] at this
      rw [this]; simp
theorem rencode_l14 {ws : List Wd} (hw : ∀ w ∈ ws, w.length ≤ 100) (hl : ws.length ≤ 1000) : loopO (dj ws) ([], (0 : Int)) = some (Lib.join ws [32]) := by
  have key : ∀ k i : Nat, i + k = ws.length → loopO (dj ws) (Lib.join (ws.take i) [32], (i : Int)) = some (Lib.join ws [32]) := by
    intro k
    induction k with
    | zero =>
      intro i hi
      rw [List.take_of_length_le (by omega)]
      refine loopO_stop ?_
      unfold dj
      simp only
      rw [if_neg (by simp; omega)]
    | succ k ih =>
      intro i hi
      have hlt : i < ws.length := by omega
      have hjl := join_len (s := [32]) (l := ws.take i) (k := 100) (fun w h => hw w (List.mem_of_mem_take h))
      have hwl := hw ws[i] (List.getElem_mem _)
      have hb : (ws.take i).length * (100 + [(32 : UInt8)].length) ≤ 1000 * 101 := Nat.mul_le_mul (by simp; omega) (by simp)
      rw [loopO_next (s' := (Lib.join (ws.take (i + 1)) [32], ((i + 1 : Nat) : Int))), ih (i + 1) (by omega)]
      unfold dj
      simp only
      rw [if_pos (by simp; omega), getO_at rfl hlt, Option.bind_some, w64 (by omega) (by omega), take_succ_at hlt]
      by_cases h0 : i = 0
      · subst h0
        rw [if_neg (by simp), So.eH (by omega), Option.bind_some]
        simp [Lib.join, List.intercalate, List.intersperse]
      · rw [if_pos (by simp; omega), So.eH (by simp only [List.length_cons, List.length_nil]; omega), Option.bind_some, So.eH (by simp only [List.length_append, List.length_cons, List.length_nil]; omega), Option.bind_some]
        rw [join_snoc _ _ (by simp only [ne_eq, List.take_eq_nil_iff, not_or]; exact ⟨h0, fun e => by rw [e] at hlt; simp at hlt⟩)]
        simp
  have := key ws.length 0 (by omega)
  simpa [Lib.join, List.intercalate, List.intersperse] using this
theorem jZ {b : Bul} (h : fc b) : dc b = some (text b, 0) := by
  unfold dc
  rw [rvalid_at h, Option.bind_some, if_neg (by simp), rwords_at h, Option.bind_some, rencode_l14 (fun w hw => (jE h w hw).2) (by have := iG h; omega)]
  rfl
theorem rencode_eq {b : Bul} (h : jK b) : dc b = some (if vB b = true then (text b, 0) else ([], 1)) := by
  by_cases hv : vB b = true
  · rw [if_pos hv, jZ (eF hv)]
  · rw [if_neg hv]
    unfold dc
    rw [rvalid_eq h, Option.bind_some, if_pos (by simpa using hv)]
end Go.Dw.Fh


set_option maxRecDepth 100000
set_option maxHeartbeats 4000000
namespace Go.Dw.Fh
open Go.Dw Go.Lib
abbrev RRd := aV

theorem rword_read (w : Wd) (ws : List Wd) (hl : ws.length ≤ 1000000000) : ea ⟨w :: ws⟩ = some (w, ⟨ws⟩) := by
  unfold ea
  have h0 : (((w :: ws).length : Int) == 0) = false := by simp; omega
  simp only [h0, Bool.false_eq_true, if_false]
  rw [getO_at (n := 0) (i := 0) rfl (by simp)]
  obtain ⟨r, h1, h2⟩ := Ok.cut (l := w :: ws) (a := 1) (b := ((w :: ws).length : Int)) (by omega) (by simp; omega) (by omega)
  rw [Option.bind_some, h1, Option.bind_some]
  subst h2
  simp
theorem digits_step {x1 : Wd × RRd} {acc i d : Nat} (ha : acc ≤ 288230376151711744) (hd : d < 10) (hi : i < x1.1.length) (hl : x1.1.length ≤ 1000) (hc : x1.1[i] = UInt8.ofNat (48 + d)) :
    loopO (bS x1) ((acc : Int), (i : Int)) = loopO (bS x1) (((acc * 10 + d : Nat) : Int), ((i + 1 : Nat) : Int)) := by
  refine loopO_next ?_
  unfold bS
  have hb : byteO x1.1 (i : Int) = some ((48 + d : Nat) : Int) := by rw [So.gR rfl hi, hc, digit_toNat hd]
  have h8 : IntKind.wrap .u8 (((48 + d : Nat) : Int) - 48) = (d : Int) := by
    rw [show (((48 + d : Nat) : Int) - 48) = (d : Int) by omega]
    exact IntWalk.u8_in _ (by omega)
  simp only
  rw [if_pos (by simp; omega), hb, Option.bind_some, if_neg (by simp; omega), Option.bind_some, if_neg (by simp; omega), if_neg (by simp; omega), Option.bind_some, h8, w64 (n := (10 : Int) * acc) (by omega) (by omega), w64 (n := (d : Int)) (by omega) (by omega), w64 (n := (10 : Int) * acc + d) (by omega) (by omega), w64 (n := (i : Int) + 1) (by omega) (by omega)]
  congr 3
  · omega
theorem digits_loop : ∀ (u : Nat) (x1 : Wd × RRd) (pre r : List UInt8), x1.1 = pre ++ (decDigits u ++ r) → x1.1.length ≤ 1000 → u ≤ 1152921504606846976 →
    loopO (bS x1) ((0 : Int), (pre.length : Int)) = loopO (bS x1) ((u : Int), ((pre.length + (decDigits u).length : Nat) : Int)) := by
  intro u
  induction u using Nat.strongRecOn with
  | _ u ih =>
    intro x1 pre r hx hl hu
    by_cases h : u < 10
    · rw [decDigits_small h] at hx ⊢
      have hi : pre.length < x1.1.length := by rw [hx]; simp
      have hg : x1.1[pre.length] = UInt8.ofNat (48 + u) := by simp [hx]
      have := digits_step (x1 := x1) (acc := 0) (i := pre.length) (d := u) (by omega) h hi hl hg
      rw [show ((0 : Nat) : Int) = 0 from rfl] at this
      rw [this]
      simp
    · rw [decDigits_big h] at hx ⊢
      have h1 := ih (u / 10) (by omega) x1 pre ([UInt8.ofNat (48 + u % 10)] ++ r) (by rw [hx]; simp) hl (by omega)
      rw [h1]
      have hi : pre.length + (decDigits (u / 10)).length < x1.1.length := by rw [hx]; simp
      have hg : x1.1[pre.length + (decDigits (u / 10)).length] = UInt8.ofNat (48 + u % 10) := by
        have : x1.1[pre.length + (decDigits (u / 10)).length]? = some (UInt8.ofNat (48 + u % 10)) := by
          rw [hx, List.getElem?_append_right (by omega), List.append_assoc, List.getElem?_append_right (by omega)]
          simp
        rw [List.getElem?_eq_getElem hi] at this
        exact Option.some.inj this
      rw [digits_step (by omega) (by omega) hi hl hg]
      rw [show u / 10 * 10 + u % 10 = u by omega, List.length_append]
      rfl
theorem bt {n : Int} (h : dq n) (ws : List Wd) (hl : ws.length ≤ 1000000000) : bj ⟨itoa n :: ws⟩ = some (n, ⟨ws⟩) := by
  obtain ⟨h0, h1⟩ := h
  have hlen := itoa_len (n := n) (by omega) (by omega)
  unfold bj
  rw [rword_read _ _ hl, Option.bind_some]
  simp only
  rw [if_pos (by have := List.length_pos_iff.2 (itoa_ne n); simp; omega)]
  by_cases hn : n < 0
  · have e : itoa n = 45 :: decDigits n.natAbs := by unfold itoa; rw [if_pos hn]
    rw [So.gR (i := 0) (by omega) (by rw [e]; simp), Option.bind_some]
    have hb : ((((itoa n)[0]'(by rw [e]; simp)).toNat : Nat) : Int) = 45 := by simp [e]
    rw [hb, if_pos (by simp)]
    unfold ce
    have h2 := digits_loop n.natAbs (itoa n, (⟨ws⟩ : RRd)) [45] [] (by rw [e]; simp) (by simp only; omega) (by omega)
    rw [show (([45] : List UInt8).length : Int) = 1 from rfl] at h2
    rw [h2, loopO_stop (o := .inl ((n.natAbs : Nat) : Int)) (by
      unfold bS
      simp only
      rw [if_neg (by simp [e]; omega)])]
    simp only [Option.bind_some]
    rw [if_pos (by simp), w64 (by omega) (by omega)]
    congr 2
    omega
  · have e : itoa n = decDigits n.toNat := by unfold itoa; rw [if_neg hn]
    obtain ⟨c, r, hc⟩ := List.exists_cons_of_ne_nil (itoa_ne n)
    have hcr := itoa_chars n c (by rw [hc]; simp)
    have hd : 48 ≤ c.toNat ∧ c.toNat ≤ 57 := decDigits_chars n.toNat c (by rw [← e, hc]; simp)
    rw [So.gR (i := 0) (by omega) (by rw [hc]; simp), Option.bind_some]
    have hb : (((((itoa n)[0]'(by rw [hc]; simp)).toNat : Nat) : Int) == 45) = false := by
      simp only [hc, List.getElem_cons_zero]
      rw [beq_eq_false_iff_ne]; omega
    rw [hb, if_neg (by simp)]
    unfold ce
    have h2 := digits_loop n.toNat (itoa n, (⟨ws⟩ : RRd)) [] [] (by rw [e]; simp) (by simp only; omega) (by omega)
    rw [show (([] : List UInt8).length : Int) = 0 from rfl] at h2
    rw [h2, loopO_stop (o := .inl ((n.toNat : Nat) : Int)) (by
      unfold bS
      simp only
      rw [if_neg (by simp [e])])]
    simp only [Option.bind_some]
    rw [if_neg (by simp)]
    congr 2
    omega
theorem rparse_fmt {s : Sid} (h : IsSid s) : fi (fmt s) = some (s, 0) := by
  obtain ⟨r, h1, h2⟩ := So.Parse_eq (z := fmt s) (by have := (So.valid_no (show So.dt s = true from h)).2.2; show (So.fmt s).length ≤ _; omega)
  rw [h2, ← h1]
  exact So.parse_fmt h
theorem rpick_read {p : Pick} (hp : dH p) (ws : List Wd) (hl : ws.length ≤ 100000000) : d9 ⟨bf p ++ ws⟩ = some (p, ⟨ws⟩) := by
  have hn := pick_near hp
  simp only [List.mem_cons, List.not_mem_nil, or_false] at hn
  unfold d9 bf
  simp only [List.cons_append, List.nil_append]
  rw [rword_read _ _ (by simp only [List.length_cons]; omega), Option.bind_some]
  simp only [rparse_fmt hp.1, Option.bind_some]
  rw [bt (hn _ (by simp)) _ (by simp only [List.length_cons]; omega), Option.bind_some]
  rw [bt (hn _ (by simp)) _ (by simp only [List.length_cons]; omega), Option.bind_some]
  rw [bt (hn _ (by simp)) _ (by simp only [List.length_cons]; omega), Option.bind_some]
  rw [bt (hn _ (by simp)) _ (by simp only [List.length_cons]; omega), Option.bind_some]
  rw [bt (hn _ (by simp)) _ (by omega), Option.bind_some]
theorem rpicks_read : ∀ (l : List Pick) (ws : List Wd) (acc : List Pick), (∀ p ∈ l, dH p) → l.length ≤ 1000000 → ws.length ≤ 1000000 → acc.length + l.length ≤ 1000000 →
    loopO di ((l.length : Int), l.flatMap bf ++ ws, acc) = some (ws, acc ++ l)
  | [], ws, acc, _, _, _, _ => by
    refine loopO_stop ?_
    simp [di]
  | p :: l, ws, acc, hp, hl, hw, ha => by
    simp only [List.length_cons] at hl ha
    rw [loopO_next (s' := ((l.length : Int), l.flatMap bf ++ ws, acc ++ [p]))]
    · rw [rpicks_read l ws (acc ++ [p]) (fun q hq => hp q (by simp [hq])) (by omega) hw (by simp; omega)]
      simp
    · unfold di
      simp only
      rw [if_pos (decide_eq_true (by simp only [List.length_cons]; omega))]
      rw [List.flatMap_cons, List.append_assoc, rpick_read (hp p (by simp)) _ (by rw [List.length_append, fr]; omega), Option.bind_some]
      obtain ⟨r, h1, h2⟩ := Ok.app (l := acc) (m := [p]) (b := 104) (by simp only [List.length_cons, List.length_nil]; omega)
      rw [h1, Option.bind_some, h2, w64 (by simp only [List.length_cons]; omega) (by simp only [List.length_cons]; omega)]
      congr 3
      simp only [List.length_cons]; omega
theorem jB {p : ak} (h : PosOk p) (ws : List Wd) (hl : ws.length ≤ 1000000) : dx ⟨itoa p.fX :: itoa p.fY :: itoa p.fZ :: ws⟩ = some (p, ⟨ws⟩) := by
  unfold dx
  rw [bt h.1 _ (by simp only [List.length_cons]; omega), Option.bind_some]
  rw [bt h.2.1 _ (by simp only [List.length_cons]; omega), Option.bind_some]
  rw [bt h.2.2 _ (by omega), Option.bind_some]
theorem u32 (c : UInt8) : (((c.toNat : Nat) : Int) == 32) = decide (c = 32) := by
  by_cases h : c = 32
  · subst h; rfl
  · have : c.toNat ≠ 32 := fun e => h (UInt8.toNat_inj.1 e)
    simp [h]; omega
theorem rsplit_eq {t : List UInt8} (ht : t.length ≤ 4000000000) : ij t = some (splitL 32 t) := by
  have key : Ok (loopO (gt t) ((0 : Int), (0 : Int), [])) (fun o => ∃ f : Nat, o.1 = (f : Int) ∧ f ≤ t.length ∧ o.2.length ≤ t.length ∧ o.2 ++ splitL 32 (t.drop f) = splitL 32 t ∧ (32 : UInt8) ∉ t.drop f) := by
    refine Ok.loop (fun s => ∃ f i : Nat, s.1 = (f : Int) ∧ s.2.1 = (i : Int) ∧ f ≤ i ∧ i ≤ t.length ∧ s.2.2.length ≤ f ∧ s.2.2 ++ splitL 32 (t.drop f) = splitL 32 t ∧ (32 : UInt8) ∉ (t.drop f).take (i - f)) (fun s => ((t.length : Int) - s.2.1).toNat) ?_ ⟨0, 0, rfl, rfl, by omega, by omega, by simp, by simp, by simp⟩
    rintro ⟨s1, s2, out⟩ ⟨f, i, e1, e2, hfi, hi, ho, hs, hn⟩
    simp only at e1 e2 ho hs hn
    subst e1 e2
    unfold gt
    refine Ok.iteD (fun hlt => ?_) (fun hge => ?_)
    · have hlt : i < t.length := by omega
      rw [So.gR rfl hlt, Option.bind_some, u32, w64 (n := (i : Int) + 1) (by omega) (by omega)]
      have hd : t.drop i = t[i] :: t.drop (i + 1) := List.drop_eq_getElem_cons hlt
      have hsplit : t.drop f = (t.drop f).take (i - f) ++ t.drop i := by
        conv => lhs; rw [← List.take_append_drop (i - f) (t.drop f)]
        rw [List.drop_drop, show f + (i - f) = i by omega]
      refine Ok.iteD (fun hc => ?_) (fun hc => ?_)
      · rw [So.cutO_at rfl rfl hfi (by omega), Option.bind_some, So.dY (by simp only [List.length_cons, List.length_nil]; omega), Option.bind_some]
        refine Ok.nx ⟨i + 1, i + 1, by simp only; omega, by simp only; omega, by omega, by omega, by simp only [List.length_append, List.length_cons, List.length_nil]; omega, ?_, by simp⟩ (by simp only; omega)
        simp only
        rw [← hs]
        conv => rhs; rw [hsplit, hd, hc, splitL_app _ hn]
        rw [List.append_assoc]; rfl
      · refine Ok.nx ⟨f, i + 1, rfl, by simp only; omega, by omega, by omega, ho, hs, ?_⟩ (by simp only; omega)
        rw [show i + 1 - f = (i - f) + 1 by omega, List.take_add_one, List.getElem?_drop, show f + (i - f) = i by omega, List.getElem?_eq_getElem hlt]
        intro hm
        rcases List.mem_append.1 hm with hm | hm
        · exact hn hm
        · simp at hm; exact hc hm.symm
    · have hie : i = t.length := by omega
      subst hie
      refine Ok.st ⟨f, rfl, hfi, by simp only; omega, hs, ?_⟩
      rw [List.take_of_length_le (by simp)] at hn
      exact hn
  obtain ⟨⟨o1, o2⟩, ho, f, e1, h1, h2, h3, h4⟩ := key
  simp only at e1 h2 h3
  subst e1
  unfold ij
  rw [ho, Option.bind_some]
  simp only
  rw [So.cutO_at rfl rfl h1 (Nat.le_refl _), Option.bind_some, So.dY (by simp only [List.length_cons, List.length_nil]; omega), Option.bind_some]
  rw [← h3, splitL_one h4, List.take_of_length_le (by simp)]

theorem rValidq_eq (b : Bul) : gH b.aT b.ba b.fID b.fAt b.aX b.ae.aj.ai.aB b.ae.aj.ai.aD b.ae.aj.ai.ac b.ae.aj.ai.aC b.ae.aj.aF b.ae.aj.aL b.ae.aj.aP b.ae.aj.aq b.ae.aj.av
    b.ae.aa.ac.aA.fX b.ae.aa.ac.aA.fY b.ae.aa.ac.aA.fZ b.ae.aa.ac.aF b.ae.aa.ac.aQ b.ae.aa.ac.aW b.ae.aa.ac.am.aI.fX b.ae.aa.ac.am.aI.fY b.ae.aa.ac.am.aI.fZ
    b.ae.aa.ac.am.aw.fX b.ae.aa.ac.am.aw.fY b.ae.aa.ac.am.aw.fZ b.ae.aa.ap.aI b.ae.aa.ap.aw b.ae.aa.aU b.ae.aa.aJ = (dC b).map (fun v => (v, b.ae.aa.aJ)) := by
  have hl : loopO (fS b.ae.aa.aJ) (0 : Int) = (loopO (em b) (0 : Int)).map (Sum.map id (fun v => (v, b.ae.aa.aJ))) := loopO_map _ (fun s => by
    unfold fS em
    rw [inO_getO]
    split
    · cases getO b.ae.aa.aJ s with
      | none => rfl
      | some x =>
        simp only [Option.bind_some]
        cases cf x with
        | none => rfl
        | some v => cases v <;> rfl
    · rfl) _
  unfold gH dC
  simp only [ke, Option.map_some, Option.map_bind, Function.comp_def, hl, Option.bind_map]
  have hm : ∀ x : Unit ⊕ Bool, (match Sum.map id (fun v => (v, b.ae.aa.aJ)) x with
      | .inl y20 => (cf (ah.mk (au.mk b.ae.aj.ai.aB b.ae.aj.ai.aD b.ae.aj.ai.ac b.ae.aj.ai.aC) b.ae.aj.aF b.ae.aj.aL b.ae.aj.aP b.ae.aj.aq b.ae.aj.av)).bind fun x22 => if x22 = true then (if (decide ((b.ae.aa.aJ.length : Int) ≤ (64 : Int))) = true then ((ef [b.fAt, b.ae.aa.ac.aA.fX, b.ae.aa.ac.aA.fY, b.ae.aa.ac.aA.fZ, b.ae.aa.ac.aF, b.ae.aa.ac.aQ, b.ae.aa.ac.aW, b.ae.aa.ac.am.aI.fX, b.ae.aa.ac.am.aI.fY, b.ae.aa.ac.am.aI.fZ, b.ae.aa.ac.am.aw.fX, b.ae.aa.ac.am.aw.fY, b.ae.aa.ac.am.aw.fZ, b.ae.aa.ap.aI, b.ae.aa.ap.aw, b.ae.aa.aU]).bind fun x25 => some (x25, b.ae.aa.aJ)) else (some (false, b.ae.aa.aJ))) else (some (false, b.ae.aa.aJ))
      | .inr r21 => (some r21)) = Option.map (fun v => (v, b.ae.aa.aJ)) (match x with
      | .inl y18 => (cf b.ae.aj).bind fun x20 => if x20 = true then (if (decide ((b.ae.aa.aJ.length : Int) ≤ (64 : Int))) = true then ((ef [b.fAt, b.ae.aa.ac.aA.fX, b.ae.aa.ac.aA.fY, b.ae.aa.ac.aA.fZ, b.ae.aa.ac.aF, b.ae.aa.ac.aQ, b.ae.aa.ac.aW, b.ae.aa.ac.am.aI.fX, b.ae.aa.ac.am.aI.fY, b.ae.aa.ac.am.aI.fZ, b.ae.aa.ac.am.aw.fX, b.ae.aa.ac.am.aw.fY, b.ae.aa.ac.am.aw.fZ, b.ae.aa.ap.aI, b.ae.aa.ap.aw, b.ae.aa.aU]).bind fun x23 => some x23) else (some false)) else (some false)
      | .inr r19 => (some r19)) := by
    intro x
    cases x with
    | inl y =>
      simp only [Sum.map_inl]
      simp only [ke, Option.map_some, Option.map_bind, Function.comp_def]
    | inr y => rfl
  repeat' (refine ite_congr rfl (fun _ => rfl) (fun _ => ?_))
  congr 1
  funext x
  exact hm x
theorem rwordsq_eq (b : Bul) : gI b.aT b.ba b.fID b.fAt b.aX b.ae.aj.ai.aB b.ae.aj.ai.aD b.ae.aj.ai.ac b.ae.aj.ai.aC b.ae.aj.aF b.ae.aj.aL b.ae.aj.aP b.ae.aj.aq b.ae.aj.av
    b.ae.aa.ac.aA.fX b.ae.aa.ac.aA.fY b.ae.aa.ac.aA.fZ b.ae.aa.ac.aF b.ae.aa.ac.aQ b.ae.aa.ac.aW b.ae.aa.ac.am.aI.fX b.ae.aa.ac.am.aI.fY b.ae.aa.ac.am.aI.fZ
    b.ae.aa.ac.am.aw.fX b.ae.aa.ac.am.aw.fY b.ae.aa.ac.am.aw.fZ b.ae.aa.ap.aI b.ae.aa.ap.aw b.ae.aa.aU b.ae.aa.aJ = (fk b).map (fun v => (v, b.ae.aa.aJ)) := by
  have hl : fU b.ae.aa.aJ = dv b := by
    funext ⟨s6, s7⟩
    unfold fU dv
    simp only [inO_getO]
  unfold gI fk
  simp only [hl, Option.map_some, Option.map_bind, Function.comp_def]
theorem rEncodeq_eq (b : Bul) : f9 b.aT b.ba b.fID b.fAt b.aX b.ae.aj.ai.aB b.ae.aj.ai.aD b.ae.aj.ai.ac b.ae.aj.ai.aC b.ae.aj.aF b.ae.aj.aL b.ae.aj.aP b.ae.aj.aq b.ae.aj.av
    b.ae.aa.ac.aA.fX b.ae.aa.ac.aA.fY b.ae.aa.ac.aA.fZ b.ae.aa.ac.aF b.ae.aa.ac.aQ b.ae.aa.ac.aW b.ae.aa.ac.am.aI.fX b.ae.aa.ac.am.aI.fY b.ae.aa.ac.am.aI.fZ
    b.ae.aa.ac.am.aw.fX b.ae.aa.ac.am.aw.fY b.ae.aa.ac.am.aw.fZ b.ae.aa.ap.aI b.ae.aa.ap.aw b.ae.aa.aU b.ae.aa.aJ = (dc b).map (fun r => (r.1, r.2, b.ae.aa.aJ)) := by
  have hl : ∀ x : List Wd × List Pick, ig x = dj x.1 := fun x => by
    funext ⟨s4, s5⟩; rfl
  unfold f9 dc
  rw [rValidq_eq]
  cases dC b with
  | none => rfl
  | some v =>
    simp only [Option.map_some, Option.bind_some]
    rw [rwordsq_eq]
    simp only [ke, Option.map_some, Option.map_bind, Function.comp_def, Option.bind_map, hl]
theorem jW {b : Bul} (h : fc b) : db (text b) = some (b, 0) := by
  have he := jZ h
  have hw := jE h
  have hwl := iG h
  have htl := text_len h
  have hsp : splitL 32 (text b) = words b := split_join (by simp [words]) (fun w hw' => (hw w hw').1)
  obtain ⟨h1, h2, h3, h4, h5, h6, h7, h8, h9, hat, h12⟩ := h
  have hl := h12.sol.len
  obtain ⟨-, -, p1, p2, p3, d1, d2, d3, d4, d5, d6⟩ := h12.sol
  unfold db
  rw [rsplit_eq (by omega), Option.bind_some, hsp]
  unfold words
  simp only [List.map_cons, List.map_nil, List.cons_append, List.nil_append]
  have hA : (bf b.ae.aj ++ itoa (b.ae.aa.aJ.length : Int) :: (b.ae.aa.aJ.flatMap bf ++ (cm b.ae.aa).map itoa)).length ≤ 1000 := by
    simp only [List.length_append, List.length_cons, List.length_map, fr, cC, bf, List.length_nil]; omega
  rw [bt (by unfold dq; omega) _ (by simp only [List.length_cons]; omega), Option.bind_some]
  rw [bt (by unfold dq; omega) _ (by simp only [List.length_cons]; omega), Option.bind_some]
  rw [bt (by unfold dq; omega) _ (by simp only [List.length_cons]; omega), Option.bind_some]
  rw [bt hat _ (by simp only [List.length_cons]; omega), Option.bind_some]
  rw [bt (by unfold dq; omega) _ (by omega), Option.bind_some]
  rw [rpick_read h12.name _ (by simp only [List.length_append, List.length_cons] at hA ⊢; omega), Option.bind_some]
  rw [bt (by unfold dq; omega) _ (by simp only [List.length_append, List.length_cons] at hA ⊢; omega), Option.bind_some]
  simp only
  rw [if_neg (by omega), rpicks_read _ _ _ h12.sol.picks (by omega) (by rw [List.length_map, cC]; omega) (by simp; omega), Option.bind_some]
  simp only [cm, dw, List.cons_append, List.nil_append, List.map_cons, List.map_nil]
  rw [jB p1 _ (by simp), Option.bind_some]
  rw [bt d1 _ (by simp), Option.bind_some]
  rw [bt d2 _ (by simp), Option.bind_some]
  rw [bt d3 _ (by simp), Option.bind_some]
  rw [jB p2 _ (by simp), Option.bind_some]
  rw [jB p3 _ (by simp), Option.bind_some]
  rw [bt d4 _ (by simp), Option.bind_some]
  rw [bt d5 _ (by simp), Option.bind_some]
  rw [bt d6 _ (by simp), Option.bind_some]
  rw [rEncodeq_eq, he]
  simp

structure j7 (r : RRd) : Prop where
  len : r.fL.length ≤ 20001
  wds : ∀ w ∈ r.fL, ip w
theorem rword_ok (r : RRd) (h : j7 r) : Ok (ea r) (fun x => ip x.1 ∧ j7 x.2) := by
  obtain ⟨hl, hw⟩ := h
  unfold ea
  refine Ok.iteE (fun _ => Ok.ret ⟨by unfold ip; simp, hl, hw⟩) (fun hne => ?_)
  refine Ok.bind (Ok.get (by omega) (by omega)) (fun x hx => ?_)
  refine Ok.bind (Ok.cut (by omega) (by omega) (by omega)) (fun y hy => ?_)
  subst hy
  refine Ok.ret ⟨hw _ hx.1, ?_, fun w h => hw w (List.mem_of_mem_drop (List.mem_of_mem_take h))⟩
  simp only [List.length_take, List.length_drop]; omega
theorem bQ (r : RRd) (h : j7 r) : Ok (bj r) (fun x => big x.1 ∧ j7 x.2) := by
  have k19 : ∀ (x : Wd × RRd) (j : Int), ip x.1 → j7 x.2 → 0 ≤ j → j ≤ 1 → Ok (ce x j) (fun x => big x.1 ∧ j7 x.2) := by
    intro x j hs hr j0 j1
    unfold ip at hs
    unfold ce
    refine Ok.bind (P := fun o : Int ⊕ (Int × RRd) => (∀ y, o = .inl y → 0 ≤ y ∧ y ≤ 2882303761517117449) ∧ ∀ y, o = .inr y → y = (0, x.2)) (Ok.loop (fun s => 0 ≤ s.2 ∧ (0 ≤ s.1 ∧ s.1 ≤ 2882303761517117449)) (fun s => ((x.1.length : Int) + 1 - s.2).toNat) ?_ ⟨j0, by simp⟩) (fun o ho => ?_)
    · rintro ⟨a, i⟩ ⟨i0, a0, a1⟩
      simp only at i0 a0 a1
      unfold bS
      have hz : ∀ y : Int × RRd, (Sum.inr (0, x.2) : Int ⊕ (Int × RRd)) = .inr y → y = (0, x.2) := fun y e => by cases e; rfl
      have hzl : ∀ y : Int, (Sum.inr (0, x.2) : Int ⊕ (Int × RRd)) = .inl y → 0 ≤ y ∧ y ≤ 2882303761517117449 := fun y e => by cases e
      refine Ok.iteD (fun hlt => ?_) (fun _ => Ok.st ⟨fun y e => by cases e; exact ⟨a0, a1⟩, fun y e => by cases e⟩)
      refine Ok.bind (Ok.byte i0 hlt) (fun c hc => Ok.iteD (fun _ => Ok.st ⟨hzl, hz⟩) (fun h48 => ?_))
      refine Ok.bind (Ok.byte i0 hlt) (fun c2 hc2 => Ok.iteD (fun _ => Ok.st ⟨hzl, hz⟩) (fun h57 => ?_))
      refine Ok.iteD (fun _ => Ok.st ⟨hzl, hz⟩) (fun hbig => ?_)
      refine Ok.bind (Ok.byte i0 hlt) (fun c3 hc3 => ?_)
      obtain ⟨b1, e1, rfl⟩ := hc
      obtain ⟨b2, e2, rfl⟩ := hc2
      obtain ⟨b3, e3, rfl⟩ := hc3
      rw [e1] at e2 e3
      cases e2; cases e3
      rw [IntWalk.u8_in _ (by omega : 0 ≤ ((b1.toNat : Nat) : Int) - 48 ∧ ((b1.toNat : Nat) : Int) - 48 ≤ 255), w64 (n := (10 : Int) * a) (by omega) (by omega), w64 (n := ((b1.toNat : Nat) : Int) - 48) (by omega) (by omega), w64 (n := (10 : Int) * a + (((b1.toNat : Nat) : Int) - 48)) (by omega) (by omega), w64 (n := i + 1) (by omega) (by omega)]
      exact Ok.nx ⟨by simp only; omega, by simp only; omega⟩ (by simp only; omega)
    · cases o with
      | inl y =>
        obtain ⟨y0, y1⟩ := ho.1 y rfl
        refine Ok.iteE (fun _ => ?_) (fun _ => Ok.ret ⟨by unfold big; simp only; omega, hr⟩)
        rw [w64 (by omega) (by omega)]
        exact Ok.ret ⟨by unfold big; simp only; omega, hr⟩
      | inr y =>
        obtain rfl := ho.2 y rfl
        exact Ok.ret ⟨by unfold big; simp, hr⟩
  unfold bj
  refine Ok.bind (rword_ok r h) (fun x hx => ?_)
  refine Ok.iteD (fun hp => ?_) (fun _ => k19 _ _ hx.1 hx.2 (by omega) (by omega))
  refine Ok.bind (Ok.byte (by omega) hp) (fun c _ => ?_)
  exact Ok.iteE (fun _ => k19 _ _ hx.1 hx.2 (by omega) (by omega)) (fun _ => k19 _ _ hx.1 hx.2 (by omega) (by omega))
theorem rparse_ok (w : Wd) (h : ip w) : Ok (fi w) (fun r => j8 r.1) := by
  obtain ⟨r, h1, h2⟩ := So.Parse_eq (z := w) (by unfold ip at h; omega)
  obtain ⟨r', h3, h4⟩ := parse_ok w h
  rw [h1] at h3
  cases h3
  exact ⟨r, h2, h4⟩
theorem rpickr_ok (r : RRd) (h : j7 r) : Ok (d9 r) (fun x => fK x.1 ∧ j7 x.2) := by
  unfold d9
  refine Ok.bind (rword_ok r h) (fun x hx => ?_)
  refine Ok.bind (rparse_ok _ hx.1) (fun y hy => ?_)
  refine Ok.bind (bQ _ hx.2) (fun x1 h1 => ?_)
  refine Ok.bind (bQ _ h1.2) (fun x2 h2 => ?_)
  refine Ok.bind (bQ _ h2.2) (fun x3 h3 => ?_)
  refine Ok.bind (bQ _ h3.2) (fun x4 h4 => ?_)
  refine Ok.bind (bQ _ h4.2) (fun x5 h5 => ?_)
  refine Ok.ret ⟨⟨hy, ?_⟩, h5.2⟩
  intro n hn
  simp only [List.mem_cons, List.not_mem_nil, or_false] at hn
  rcases hn with rfl | rfl | rfl | rfl | rfl
  · exact h1.1
  · exact h2.1
  · exact h3.1
  · exact h4.1
  · exact h5.1
theorem rpos_ok (r : RRd) (h : j7 r) : Ok (dx r) (fun x => PosSm x.1 ∧ j7 x.2) := by
  unfold dx
  refine Ok.bind (bQ r h) (fun x1 h1 => ?_)
  refine Ok.bind (bQ _ h1.2) (fun x2 h2 => ?_)
  refine Ok.bind (bQ _ h2.2) (fun x3 h3 => ?_)
  refine Ok.ret ⟨fun n hn => ?_, h3.2⟩
  simp only [dw, List.mem_cons, List.not_mem_nil, or_false] at hn
  rcases hn with rfl | rfl | rfl
  · exact h1.1
  · exact h2.1
  · exact h3.1
theorem rloop_ok (n : Int) (hn : n ≤ 65) (r : RRd) (h : j7 r) : Ok (loopO di (n, r.fL, [])) (fun o => j7 ⟨o.1⟩ ∧ (∀ p ∈ o.2, fK p) ∧ o.2.length ≤ 20002) := by
  refine Ok.loop (fun s => s.1 ≤ 65 ∧ j7 ⟨s.2.1⟩ ∧ (∀ p ∈ s.2.2, fK p) ∧ (s.2.2.length : Int) + (if s.1 > 0 then s.1 else 0) ≤ 65) (fun s => s.1.toNat) ?_ ⟨hn, h, by simp, by simp only [List.length_nil]; split <;> omega⟩
  rintro ⟨k, ws, ps⟩ ⟨i0, i1, i2, i3⟩
  simp only at i0 i1 i2 i3
  unfold di
  refine Ok.iteD (fun hk => ?_) (fun _ => Ok.st ⟨i1, i2, by simp only; split at i3 <;> omega⟩)
  rw [if_pos hk] at i3
  refine Ok.bind (rpickr_ok _ i1) (fun x hx => ?_)
  refine Ok.bind (Ok.app (by simp only [List.length_cons, List.length_nil]; omega)) (fun y hy => ?_)
  subst hy
  rw [w64 (by omega) (by omega)]
  refine Ok.nx ⟨by simp only; omega, hx.2, ?_, ?_⟩ (by simp only; omega)
  · intro p hp
    rcases List.mem_append.1 hp with hp | hp
    · exact i2 p hp
    · obtain rfl := List.mem_singleton.1 hp
      exact hx.1
  · simp only [List.length_append, List.length_cons, List.length_nil]
    split <;> omega
theorem sm_fits {b : Bul} (h : BulSm b) : jK b := by
  have key : ∀ s : Sid, j8 s → So.eM s := fun s ⟨h1, h2, h3, h4⟩ => ⟨by omega, by omega, by omega, by omega⟩
  exact ⟨key _ h.name.sid, fun p hp => key _ (h.picks p hp).sid, by have := h.len; omega⟩
theorem rdecode_ok (t : List UInt8) (ht : t.length ≤ 20000) : Ok (db t) (fun r => (r.2 = 0 ∧ BulSm r.1 ∧ dc r.1 = some (t, 0)) ∨ r = (gY, 3)) := by
  obtain ⟨s1, s2⟩ := splitL_len' 32 t
  unfold db
  rw [rsplit_eq (by omega), Option.bind_some]
  have hr : j7 ⟨splitL 32 t⟩ := ⟨by simp only; omega, fun w hw => Nat.le_trans (s2 w hw) ht⟩
  refine Ok.bind (bQ _ hr) (fun x2 h2 => ?_)
  refine Ok.bind (bQ _ h2.2) (fun x3 h3 => ?_)
  refine Ok.bind (bQ _ h3.2) (fun x4 h4 => ?_)
  refine Ok.bind (bQ _ h4.2) (fun x5 h5 => ?_)
  refine Ok.bind (bQ _ h5.2) (fun x6 h6 => ?_)
  refine Ok.bind (rpickr_ok _ h6.2) (fun x7 h7 => ?_)
  refine Ok.bind (bQ _ h7.2) (fun x8 h8 => ?_)
  refine Ok.bind (rloop_ok _ (by split <;> omega) _ h8.2) (fun o ho => ?_)
  refine Ok.bind (rpos_ok _ ho.1) (fun x23 h23 => ?_)
  refine Ok.bind (bQ _ h23.2) (fun x24 h24 => ?_)
  refine Ok.bind (bQ _ h24.2) (fun x25 h25 => ?_)
  refine Ok.bind (bQ _ h25.2) (fun x26 h26 => ?_)
  refine Ok.bind (rpos_ok _ h26.2) (fun x27 h27 => ?_)
  refine Ok.bind (rpos_ok _ h27.2) (fun x28 h28 => ?_)
  refine Ok.bind (bQ _ h28.2) (fun x29 h29 => ?_)
  refine Ok.bind (bQ _ h29.2) (fun x30 h30 => ?_)
  refine Ok.bind (bQ _ h30.2) (fun x31 h31 => ?_)
  have hb : BulSm ⟨x2.1, x3.1, x4.1, x5.1, x6.1, ⟨x7.1, ⟨o.2, ⟨x23.1, x24.1, x25.1, x26.1, ⟨x27.1, x28.1⟩⟩, ⟨x29.1, x30.1⟩, x31.1⟩⟩⟩ := by
    refine ⟨?_, h7.1, ho.2.1, ho.2.2, ?_⟩
    · intro n hn
      simp only [List.mem_cons, List.not_mem_nil, or_false] at hn
      rcases hn with rfl | rfl | rfl | rfl | rfl
      · exact h2.1
      · exact h3.1
      · exact h4.1
      · exact h5.1
      · exact h6.1
    · intro n hn
      simp only [cm] at hn
      rcases List.mem_append.1 hn with hn | hn
      · exact h23.1 n hn
      rcases List.mem_append.1 hn with hn | hn
      · simp only [List.mem_cons, List.not_mem_nil, or_false] at hn
        rcases hn with rfl | rfl | rfl
        · exact h24.1
        · exact h25.1
        · exact h26.1
      rcases List.mem_append.1 hn with hn | hn
      · exact h27.1 n hn
      rcases List.mem_append.1 hn with hn | hn
      · exact h28.1 n hn
      simp only [List.mem_cons, List.not_mem_nil, or_false] at hn
      rcases hn with rfl | rfl | rfl
      · exact h29.1
      · exact h30.1
      · exact h31.1
  have he := rencode_eq (sm_fits hb)
  have hq := rEncodeq_eq ⟨x2.1, x3.1, x4.1, x5.1, x6.1, ⟨x7.1, ⟨o.2, ⟨x23.1, x24.1, x25.1, x26.1, ⟨x27.1, x28.1⟩⟩, ⟨x29.1, x30.1⟩, x31.1⟩⟩⟩
  rw [he] at hq
  simp only [Option.map_some] at hq
  rw [hq, Option.bind_some]
  refine Ok.iteNe (fun _ => Ok.ret (.inr rfl)) (fun h0 => ?_)
  refine Ok.iteN (fun _ => Ok.ret (.inr rfl)) (fun h1 => Ok.ret (.inl ⟨rfl, hb, ?_⟩))
  simp only at h0 h1
  rw [he]
  have h1' := of_decide_eq_true (p := _ = t) (by simpa using h1)
  split at h0
  · rename_i hv
    rw [if_pos hv] at h1' ⊢
    simp only at h1'
    rw [h1']
  · cases h0
theorem kd (t : List UInt8) (ht : t.length ≤ 20000) : (∃ b, fc b ∧ t = text b ∧ ca t = some (b, 0) ∧ db t = some (b, 0)) ∨ (ca t = some (gY, 3) ∧ db t = some (gY, 3)) := by
  have ok_of : ∀ b, BulSm b → (if vB b = true then (text b, (0 : Int)) else (([] : List UInt8), 1)) = (t, 0) → fc b ∧ t = text b := by
    intro b hb h
    split at h
    · rename_i hv
      exact ⟨eF hv, (congrArg Prod.fst h).symm⟩
    · cases (congrArg Prod.snd h)
  obtain ⟨r, h1, h2⟩ := decode_ok t ht
  obtain ⟨r', h3, h4⟩ := rdecode_ok t ht
  rcases h2 with ⟨-, h5, h6⟩ | rfl
  · rw [encode_eq (sm_fits h5)] at h6
    obtain ⟨h7, h8⟩ := ok_of _ h5 (Option.some.inj h6)
    exact .inl ⟨_, h7, h8, by rw [h8]; exact gL h7, by rw [h8]; exact jW h7⟩
  · rcases h4 with ⟨-, h5, h6⟩ | rfl
    · rw [rencode_eq (sm_fits h5)] at h6
      obtain ⟨h7, h8⟩ := ok_of _ h5 (Option.some.inj h6)
      exact .inl ⟨_, h7, h8, by rw [h8]; exact gL h7, by rw [h8]; exact jW h7⟩
    · exact .inr ⟨h1, h3⟩
end Go.Dw.Fh


set_option maxRecDepth 100000
set_option maxHeartbeats 4000000
namespace Go.Dw.Fh
open Go.Dw Go.Lib

theorem mHas_put {β : Type} (k k' : Int) (v : β) : ∀ l : List (Int × β), mHas (fun a b => a == b) k' (mPut (fun a b => a == b) k v l) = (k' == k || mHas (fun a b => a == b) k' l)
  | [] => by by_cases h : k' = k <;> simp [mPut, mHas, h]
  | e :: r => by
    have ih := mHas_put k k' v r
    by_cases h : k = e.1
    · subst h
      simp only [mPut, beq_self_eq_true, if_true, mHas]
      by_cases h2 : k' = e.1 <;> simp [h2]
    · have hb : (k == e.1) = false := by simpa using h
      simp only [mPut, hb, Bool.false_eq_true, if_false, mHas, ih]
      by_cases h2 : k' = e.1 <;> simp [h2]
theorem jp {β : Type} (k k' : Int) (v z : β) : ∀ l : List (Int × β), mGet (fun a b => a == b) k' z (mPut (fun a b => a == b) k v l) = if k' = k then v else mGet (fun a b => a == b) k' z l
  | [] => by by_cases h : k' = k <;> simp [mPut, mGet, h]
  | e :: r => by
    have ih := jp k k' v z r
    by_cases h : k = e.1
    · subst h
      simp only [mPut, beq_self_eq_true, if_true, mGet]
      by_cases h2 : k' = e.1 <;> simp [h2]
    · have hb : (k == e.1) = false := by simpa using h
      simp only [mPut, hb, Bool.false_eq_true, if_false, mGet, ih]
      by_cases h2 : k' = e.1
      · subst h2
        have : ¬ e.1 = k := fun e => h e.symm
        simp [this]
      · simp [h2]

section
variable {l : List Bul}
structure CP (l : List Bul) (j : Nat) (h : j < l.length) : Prop where
  v : fc l[j]
  num : l[j].aT = (j : Int)
  iss : l[j].ba ≠ 1 → ∃ (d : Nat) (hd : d < l.length), l[j].fID = (d : Int) ∧ l[d].ba = 1
  no3 : ∀ (k : Nat) (hk : k < j), l[k].fID = l[j].fID → l[k].ba ≠ 3
def MOk (l : List Bul) (i : Nat) (m : List (Int × Bool)) : Prop :=
  ∀ k : Int, mGet (fun a b => a == b) k false m = true ↔ ∃ (j : Nat) (_ : j < i) (hl : j < l.length), l[j].fID = k ∧ l[j].ba ≠ 3 ∧ ∀ (j' : Nat) (_ : j < j') (_ : j' < i) (hl' : j' < l.length), l[j'].fID ≠ k
theorem MOk.put {i : Nat} {m : List (Int × Bool)} (h : MOk l i m) (hi : i < l.length) : MOk l (i + 1) (mPut (fun a b => a == b) l[i].fID (l[i].ba != 3) m) := by
  intro k
  rw [jp]
  by_cases hk : k = l[i].fID
  · rw [if_pos hk]
    constructor
    · intro h3
      exact ⟨i, by omega, hi, hk.symm, by simpa using h3, fun j' h1 h2 => by omega⟩
    · rintro ⟨j, hj, hl, e1, e2, e3⟩
      by_cases hji : j = i
      · subst hji; simpa using e2
      · exact (e3 i (by omega) (by omega) hi hk.symm).elim
  · rw [if_neg hk, h k]
    constructor
    · rintro ⟨j, hj, hl, e1, e2, e3⟩
      refine ⟨j, by omega, hl, e1, e2, fun j' h1 h2 hl' => ?_⟩
      by_cases hji : j' = i
      · subst hji; exact fun e => hk e.symm
      · exact e3 j' h1 (by omega) hl'
    · rintro ⟨j, hj, hl, e1, e2, e3⟩
      have hji : j ≠ i := fun e => hk (by subst e; exact e1.symm)
      exact ⟨j, by omega, hl, e1, e2, fun j' h1 h2 hl' => e3 j' h1 (by omega) hl'⟩
theorem last_of (p : Nat → Prop) [DecidablePred p] : ∀ (i d : Nat), d < i → p d → ∃ j, j < i ∧ p j ∧ ∀ j', j < j' → j' < i → ¬ p j'
  | 0, d, h, _ => by omega
  | i + 1, d, h, hp => by
    by_cases hi : p i
    · exact ⟨i, by omega, hi, fun j' h1 h2 => by omega⟩
    · have hd : d ≠ i := fun e => hi (e ▸ hp)
      obtain ⟨j, h1, h2, h3⟩ := last_of p i d (by omega) hp
      refine ⟨j, by omega, h2, fun j' h4 h5 => ?_⟩
      by_cases he : j' = i
      · subst he; exact hi
      · exact h3 j' h4 (by omega)
theorem ask_one {i : Nat} {m : List (Int × Bool)} (hi : i < l.length) (hv : fc l[i]) (hn : l[i].aT = (i : Int)) (hk : l[i].ba ≠ 1) (hc : ∀ (j : Nat) (hj : j < i), CP l j (by omega)) (hm : MOk l i m) :
    mGet (fun a b => a == b) l[i].fID false m = true ↔ (∃ (d : Nat) (hd : d < l.length), l[i].fID = (d : Int) ∧ l[d].ba = 1) ∧ ∀ (k : Nat) (hk : k < i), l[k].fID = l[i].fID → l[k].ba ≠ 3 := by
  have hid : l[i].fID < (i : Int) := by
    have h1 := hv.id1
    have h2 : l[i].fID ≠ l[i].aT := fun e => hk (hv.iss.1 e)
    omega
  have hi0 := hv.id0
  obtain ⟨d, hd⟩ : ∃ d : Nat, l[i].fID = (d : Int) := ⟨l[i].fID.toNat, by omega⟩
  have hdl : d < l.length := by omega
  rw [hm]
  constructor
  · rintro ⟨j, hj, hl, e1, e2, e3⟩
    have cj := hc j hj
    refine ⟨⟨d, hdl, hd, ?_⟩, fun k hki hkid h3 => ?_⟩
    · by_cases hjk : l[j].ba = 1
      · have := cj.v.iss.2 hjk
        rw [cj.num, e1, hd] at this
        have hjd : j = d := by omega
        subst hjd; exact hjk
      · obtain ⟨d', hd', e4, e5⟩ := cj.iss hjk
        have : d' = d := by rw [e1, hd] at e4; omega
        subst this; exact e5
    · have hkj : k ≠ j := by rintro rfl; exact e2 h3
      have hlt : k < j := by
        rcases Nat.lt_or_gt_of_ne hkj with h | h
        · exact h
        · exact (e3 k h hki (by omega) hkid).elim
      exact cj.no3 k hlt (by rw [hkid, e1]) h3
  · rintro ⟨⟨d', hd', e1, e2⟩, h3⟩
    have : d' = d := by omega
    subst this
    have hdi : d' < i := by omega
    have cd := hc d' hdi
    have hdid : l[d'].fID = l[i].fID := by
      have := cd.v.iss.2 e2
      rw [this, cd.num, e1]
    obtain ⟨j, h4, ⟨hjl, h5⟩, h6⟩ := last_of (fun j => ∃ h : j < l.length, l[j].fID = l[i].fID) i d' hdi ⟨hdl, hdid⟩
    exact ⟨j, h4, hjl, h5, h3 j h4 h5, fun j' h7 h8 hl' e => h6 j' h7 h8 ⟨hl', e⟩⟩
theorem no3_l13 {i : Nat} (hi : i < l.length) (hl : l.length ≤ 1000000) : loopO (dB (i : Int) l) (0 : Int) = some (if (∀ (k : Nat) (hk : k < i), l[k].fID = l[i].fID → l[k].ba ≠ 3) then .inl (i : Int) else .inr false) := by
  have h1 := So.iv (body := dB (i : Int) l) (l.take i) (p := fun y => !(y.fID == l[i].fID && y.ba == 3)) (u := .inl (i : Int)) (r := .inr false) (fun k hk => by
    have hki : k < i := by simp at hk; omega
    unfold dB
    rw [if_pos (by simp; omega), getO_at (i := k) rfl (by omega), Option.bind_some, getO_at (i := i) rfl hi, Option.bind_some, Option.bind_some, w64 (by omega) (by omega)]
    have hg : (l.take i)[k] = l[k]'(by omega) := by simp
    rw [hg]
    cases l[k].fID == l[i].fID <;> cases l[k].ba == 3 <;> simp) (by
    have : ((l.take i).length : Int) = (i : Int) := by simp; omega
    unfold dB
    rw [this, if_neg (by simp)])
  rw [h1]
  congr 1
  by_cases hc : ∀ (k : Nat) (hk : k < i), l[k].fID = l[i].fID → l[k].ba ≠ 3
  · rw [if_pos hc, if_pos]
    rw [List.all_eq_true]
    intro y hy
    obtain ⟨k, hk, rfl⟩ := List.getElem_of_mem hy
    have hki : k < i := by simp at hk; omega
    have := hc k hki
    simp only [List.getElem_take, Bool.not_eq_true', Bool.and_eq_false_iff, beq_eq_false_iff_ne, ne_eq]
    by_cases e : l[k].fID = l[i].fID
    · exact .inr (this e)
    · exact .inl e
  · rw [if_neg hc, if_neg]
    intro ha
    apply hc
    intro k hk e e3
    have := List.all_eq_true.1 ha (l[k]'(by omega)) (List.mem_take_iff_getElem.2 ⟨k, by omega, rfl⟩)
    simp [e, e3] at this
theorem hist_from (hf : ∀ b ∈ l, jK b) (hl : l.length ≤ 1000000) : ∀ (k i : Nat) (m : List (Int × Bool)), i + k = l.length → (∀ (j : Nat) (hj : j < i) (h : j < l.length), CP l j h) → MOk l i m →
    ∃ o, loopO (bA l) ((i : Int), m) = some o ∧ loopO (bC l) (i : Int) = some o := by
  intro k
  induction k with
  | zero =>
    intro i m hi hc hm
    refine ⟨.inl (), loopO_stop ?_, loopO_stop ?_⟩
    · unfold bA; simp only; rw [if_neg (by simp; omega)]
    · unfold bC; rw [if_neg (by simp; omega)]
  | succ k ih =>
    intro i m hi hc hm
    have hlt : i < l.length := by omega
    have hfi := hf _ (List.getElem_mem hlt)
    have eC : bA l ((i : Int), m) = (if (!vB l[i]) = true then some (.stop (.inr false)) else if (l[i].aT != (i : Int)) = true then some (.stop (.inr false)) else if decide ((i : Int) > 0) = true then ((getO l (IntKind.wrap .i64 ((i : Int) - 1))).bind fun x13 => if (decide (l[i].fAt < x13.fAt)) = true then some (.stop (.inr false)) else cU l[i] m (i : Int)) else cU l[i] m (i : Int)) := by
      unfold bA
      simp only
      rw [if_pos (by simp; omega), getO_at rfl hlt, Option.bind_some, jC hfi, Option.bind_some]
    have eR : bC l (i : Int) = (if (!vB l[i]) = true then some (.stop (.inr false)) else if (l[i].aT != (i : Int)) = true then some (.stop (.inr false)) else if decide ((i : Int) > 0) = true then ((getO l (IntKind.wrap .i64 ((i : Int) - 1))).bind fun x13 => if (decide (l[i].fAt < x13.fAt)) = true then some (.stop (.inr false)) else cx l (i : Int)) else cx l (i : Int)) := by
      unfold bC
      rw [if_pos (by simp; omega), getO_at rfl hlt, Option.bind_some, rvalid_eq hfi, Option.bind_some, Option.bind_some, Option.bind_some]
    have both : ∀ o : Unit ⊕ Bool, bA l ((i : Int), m) = some (.stop o) → bC l (i : Int) = some (.stop o) → ∃ o, loopO (bA l) ((i : Int), m) = some o ∧ loopO (bC l) (i : Int) = some o := fun o h1 h2 => ⟨o, loopO_stop h1, loopO_stop h2⟩
    by_cases hv : vB l[i] = true
    rotate_left
    · have hv' : (!vB l[i]) = true := by simpa using hv
      exact both _ (by rw [eC, if_pos hv']) (by rw [eR, if_pos hv'])
    have hv' : ¬ (!vB l[i]) = true := by simp [hv]
    rw [if_neg hv'] at eC eR
    by_cases hn : l[i].aT = (i : Int)
    rotate_left
    · have hn' : (l[i].aT != (i : Int)) = true := by simpa using hn
      exact both _ (by rw [eC, if_pos hn']) (by rw [eR, if_pos hn'])
    have hn' : ¬ (l[i].aT != (i : Int)) = true := by simp [hn]
    rw [if_neg hn'] at eC eR
    have hb := eF hv
    have rest : (bA l ((i : Int), m) = cU l[i] m (i : Int)) → (bC l (i : Int) = cx l (i : Int)) → ∃ o, loopO (bA l) ((i : Int), m) = some o ∧ loopO (bC l) (i : Int) = some o := by
      intro e1 e2
      have hw : IntKind.wrap .i64 ((i : Int) + 1) = ((i + 1 : Nat) : Int) := by rw [w64 (by omega) (by omega)]; omega
      have k17 : dA (i : Int) l = some (if (∀ (k : Nat) (hk : k < i), l[k].fID = l[i].fID → l[k].ba ≠ 3) then .next ((i + 1 : Nat) : Int) else .stop (.inr false)) := by
        unfold dA
        rw [no3_l13 hlt hl, Option.bind_some]
        by_cases hq : ∀ (k : Nat) (hk : k < i), l[k].fID = l[i].fID → l[k].ba ≠ 3
        · rw [if_pos hq, if_pos hq]; simp only; rw [hw]
        · rw [if_neg hq, if_neg hq]
      have go : (∀ (h : i < l.length), CP l i h) → bA l ((i : Int), m) = some (.next (((i + 1 : Nat) : Int), mPut (fun a b => a == b) l[i].fID (l[i].ba != 3) m)) → bC l (i : Int) = some (.next ((i + 1 : Nat) : Int)) →
          ∃ o, loopO (bA l) ((i : Int), m) = some o ∧ loopO (bC l) (i : Int) = some o := by
        intro hcp h1 h2
        rw [loopO_next h1, loopO_next h2]
        refine ih (i + 1) _ (by omega) (fun j hj h => ?_) (hm.put hlt)
        by_cases hji : j = i
        · subst hji; exact hcp h
        · exact hc j (by omega) h
      unfold cx at e2
      rw [getO_at rfl hlt, Option.bind_some] at e2
      unfold cU at e1
      rw [hw] at e1
      by_cases hk1 : l[i].ba = 1
      · have hk1' : ¬ (l[i].ba != 1) = true := by simp [hk1]
        rw [if_neg hk1'] at e1
        rw [if_neg hk1', k17] at e2
        have hno : ∀ (k : Nat) (hk : k < i), l[k].fID = l[i].fID → l[k].ba ≠ 3 := by
          intro k hk e
          have ck := hc k hk (by omega)
          have h1 := hb.iss.2 hk1
          have h2 := ck.v.id1
          rw [ck.num] at h2
          omega
        rw [if_pos hno] at e2
        exact go (fun h => ⟨hb, hn, fun h1 => (h1 hk1).elim, hno⟩) e1 e2
      · have hk1' : (l[i].ba != 1) = true := by simpa using hk1
        rw [if_pos hk1'] at e1
        rw [if_pos hk1', Option.bind_some] at e2
        have hid : l[i].fID < (i : Int) := by
          have h1 := hb.id1
          have h2 : l[i].fID ≠ l[i].aT := fun e => hk1 (hb.iss.1 e)
          omega
        have hi0 := hb.id0
        obtain ⟨d, hd⟩ : ∃ d : Nat, l[i].fID = (d : Int) := ⟨l[i].fID.toNat, by omega⟩
        have hdl : d < l.length := by omega
        rw [hd, getO_at rfl hdl, Option.bind_some, k17] at e2
        have ask := ask_one hlt hb hn hk1 (fun j hj => hc j hj (by omega)) hm
        by_cases ha : mGet (fun a b => a == b) l[i].fID false m = true
        · obtain ⟨⟨d', hd', e4, e5⟩, h3⟩ := ask.1 ha
          have : d' = d := by omega
          subst this
          rw [if_neg (by simp [ha])] at e1
          rw [if_neg (by simp [e5]), if_pos h3] at e2
          exact go (fun h => ⟨hb, hn, fun _ => ⟨d', hd', e4, e5⟩, h3⟩) e1 e2
        · rw [if_pos (by simpa using ha)] at e1
          refine both _ e1 ?_
          rw [e2]
          by_cases h5 : l[d].ba = 1
          · rw [if_neg (by simp [h5])]
            rw [if_neg (fun h3 => ha (ask.2 ⟨⟨d, hdl, hd, h5⟩, h3⟩))]
          · rw [if_pos (by simpa using h5)]
    by_cases hpos : (i : Int) > 0
    · rw [if_pos (decide_eq_true hpos), w64 (by omega) (by omega), getO_at (i := i - 1) (by omega) (by omega), Option.bind_some] at eC eR
      by_cases hat : l[i].fAt < (l[i - 1]'(by omega)).fAt
      · rw [if_pos (decide_eq_true hat)] at eC eR
        exact both _ eC eR
      · rw [if_neg (by simpa using hat)] at eC eR
        exact rest eC eR
    · rw [if_neg (by simpa using hpos)] at eC eR
      exact rest eC eR
theorem history_eq (hf : ∀ b ∈ l, jK b) (hl : l.length ≤ 1000000) : ∃ r, dZ l = some r ∧ ga l = some r := by
  obtain ⟨o, h1, h2⟩ := hist_from hf hl l.length 0 [] (by omega) (fun j hj => by omega) (fun k => by
    constructor
    · intro h; cases h
    · rintro ⟨j, hj, _⟩; omega)
  rw [show ((0 : Nat) : Int) = 0 from rfl] at h1 h2
  unfold dZ ga
  rw [h1, h2]
  cases o with
  | inl y => exact ⟨true, rfl, rfl⟩
  | inr y => exact ⟨y, rfl, rfl⟩
end
end Go.Dw.Fh



set_option maxRecDepth 100000
set_option maxHeartbeats 4000000
namespace Go.Dw.Fh
open Go.Dw Go.Lib

section
variable {l : List Bul}
def eQ : List Bul → List Bul
  | [] => []
  | a :: r => if (r.all fun b => b.fID != a.fID) = true ∧ a.ba ≠ 3 then a :: eQ r else eQ r
theorem jJ : ∀ {l : List Bul} {b : Bul}, b ∈ eQ l → b ∈ l
  | [], _, h => h
  | a :: r, b, h => by
    unfold eQ at h
    split at h
    · rcases List.mem_cons.1 h with rfl | h
      · simp
      · exact List.mem_cons_of_mem _ (jJ h)
    · exact List.mem_cons_of_mem _ (jJ h)
theorem keepL_len : ∀ l : List Bul, (eQ l).length ≤ l.length
  | [] => Nat.le_refl _
  | a :: r => by
    have := keepL_len r
    unfold eQ
    split <;> simp only [List.length_cons] <;> omega
theorem hP : ∀ l : List Bul, (eQ l).Pairwise fun x y => x.fID ≠ y.fID
  | [] => .nil
  | a :: r => by
    unfold eQ
    split
    · rename_i h
      refine List.pairwise_cons.2 ⟨fun b hb e => ?_, hP r⟩
      have := List.all_eq_true.1 h.1 b (jJ hb)
      simp [e] at this
    · exact hP r
theorem last_all {i : Nat} (hi : i < l.length) : ((l.drop (i + 1)).all fun b => b.fID != l[i].fID) = true ↔ ∀ (k : Nat) (h1 : i < k) (h2 : k < l.length), l[k].fID ≠ l[i].fID := by
  rw [List.all_eq_true]
  constructor
  · intro h k h1 h2 e
    have := h l[k] (by rw [List.mem_drop_iff_getElem]; exact ⟨k - (i + 1), by omega, by simp only [show i + 1 + (k - (i + 1)) = k by omega]⟩)
    simp [e] at this
  · intro h b hb
    obtain ⟨k, hk, rfl⟩ := List.mem_drop_iff_getElem.1 hb
    simpa using h (i + 1 + k) (by omega) (by omega)
def LastOk (l : List Bul) (i : Nat) (m : List (Int × Int)) : Prop :=
  ∀ (j : Nat) (_ : j < i) (hl : j < l.length), ∃ (j' : Nat) (_ : j ≤ j') (_ : j' < i) (hl' : j' < l.length), mGet (fun a b => a == b) l[j].fID 0 m = (j' : Int) ∧ l[j'].fID = l[j].fID ∧ ∀ (k : Nat) (_ : j' < k) (_ : k < i) (h2 : k < l.length), l[k].fID ≠ l[j].fID
theorem last_map (hl : l.length ≤ 1000000) : Ok (loopO (gi l) ((0 : Int), [])) (LastOk l l.length) := by
  refine Ok.loop (fun s => ∃ i : Nat, s.1 = (i : Int) ∧ i ≤ l.length ∧ LastOk l i s.2) (fun s => ((l.length : Int) - s.1).toNat) ?_ ⟨0, rfl, by omega, fun j hj => by omega⟩
  rintro ⟨s1, m⟩ ⟨i, e1, hi, hm⟩
  simp only at e1 hm
  subst e1
  unfold gi
  refine Ok.iteD (fun hlt => ?_) (fun hge => ?_)
  · have hlt : i < l.length := by omega
    rw [getO_at rfl hlt, Option.bind_some, w64 (by omega) (by omega)]
    refine Ok.nx ⟨i + 1, by simp only; omega, by omega, ?_⟩ (by simp only; omega)
    intro j hj hjl
    simp only
    rw [jp]
    by_cases he : l[j].fID = l[i].fID
    · rw [if_pos he]
      exact ⟨i, by omega, by omega, hlt, rfl, he.symm, fun k h1 h2 => by omega⟩
    · rw [if_neg he]
      have hji : j ≠ i := fun e => he (by subst e; rfl)
      obtain ⟨j', g1, g2, g3, g4, g5, g6⟩ := hm j (by omega) hjl
      refine ⟨j', g1, by omega, g3, g4, g5, fun k h1 h2 h3 => ?_⟩
      by_cases hk : k = i
      · subst hk; exact fun e => he e.symm
      · exact g6 k h1 (by omega) h3
  · have : i = l.length := by omega
    subst this
    exact Ok.st hm
theorem last_iff {m : List (Int × Int)} (hm : LastOk l l.length m) {i : Nat} (hi : i < l.length) : (mGet (fun a b => a == b) l[i].fID 0 m == (i : Int)) = ((l.drop (i + 1)).all fun b => b.fID != l[i].fID) := by
  obtain ⟨j', g1, g2, g3, g4, g5, g6⟩ := hm i hi hi
  rw [Bool.eq_iff_iff, last_all hi, beq_iff_eq, g4]
  constructor
  · intro e k h1 h2
    have : j' = i := by omega
    subst this
    exact g6 k h1 h2 h2
  · intro h
    by_cases e : j' = i
    · omega
    · exact (h j' (by omega) g3 g5).elim
theorem copied_at {b : Bul} (h : b.ae.aa.aJ.length ≤ 1000000) : gc b = some b := by
  unfold gc cloneO
  rw [if_pos (by omega)]
  rfl
theorem code_l19 (hl : l.length ≤ 1000000) (hp : ∀ b ∈ l, b.ae.aa.aJ.length ≤ 1000000) {m : List (Int × Int)} (hm : LastOk l l.length m) : ∀ (k i : Nat) (acc : List Bul), i + k = l.length → acc.length ≤ i →
    loopO (dP l m) ((i : Int), acc) = some (acc ++ eQ (l.drop i)) := by
  intro k
  induction k with
  | zero =>
    intro i acc hi ha
    rw [List.drop_of_length_le (by omega)]
    refine loopO_stop ?_
    unfold dP
    simp only
    rw [if_neg (by simp; omega)]
    simp [eQ]
  | succ k ih =>
    intro i acc hi ha
    have hlt : i < l.length := by omega
    have hw : IntKind.wrap .i64 ((i : Int) + 1) = ((i + 1 : Nat) : Int) := by rw [w64 (by omega) (by omega)]; omega
    rw [List.drop_eq_getElem_cons hlt, eQ]
    have e0 : dP l m ((i : Int), acc) = (if (mGet (fun a b => a == b) l[i].fID (0 : Int) m == (i : Int)) = true then (if (l[i].ba != (3 : Int)) = true then ((gc l[i]).bind fun x17 => (appO acc [x17] 288).bind fun x18 => some (.next (((i + 1 : Nat) : Int), x18))) else some (.next (((i + 1 : Nat) : Int), acc))) else some (.next (((i + 1 : Nat) : Int), acc))) := by
      unfold dP
      simp only
      rw [if_pos (by simp; omega), getO_at rfl hlt, Option.bind_some, hw]
    rw [last_iff hm hlt] at e0
    by_cases hc : ((l.drop (i + 1)).all fun b => b.fID != l[i].fID) = true
    · rw [if_pos hc] at e0
      by_cases h3 : l[i].ba = 3
      · rw [if_neg (by simp [h3])] at e0
        rw [if_neg (fun h => h.2 h3), loopO_next e0, ih (i + 1) acc (by omega) (by omega)]
      · rw [if_pos (by simpa using h3), copied_at (hp _ (List.getElem_mem _)), Option.bind_some, So.dY (by simp only [List.length_cons, List.length_nil]; omega), Option.bind_some] at e0
        rw [if_pos ⟨hc, h3⟩, loopO_next e0, ih (i + 1) _ (by omega) (by simp; omega)]
        simp
    · rw [if_neg hc] at e0
      rw [if_neg (fun h => hc h.1), loopO_next e0, ih (i + 1) acc (by omega) (by omega)]
theorem lit1_eq (a b : Bul) : bp a b = some (cmpI a.fID b.fID) := by
  unfold bp eU eO cmpI
  simp only [Option.bind_some, bne_self_eq_false, Bool.false_eq_true, if_false]
  by_cases h1 : a.fID < b.fID
  · simp [h1]
  · by_cases h2 : a.fID > b.fID
    · simp [h1, h2]
    · simp [h1, h2]
theorem hU (a b : Bul) : lt3 bp a b = decide (a.fID < b.fID) := by
  unfold lt3
  rw [lit1_eq, Option.getD_some]
  refine decide_eq_decide.2 ?_
  unfold cmpI
  split
  · simp [*]
  · split <;> simp [*]
theorem lit1_ok : CmpOk bp := by
  refine ⟨fun x y => ⟨_, lit1_eq x y⟩, ⟨fun x => ?_, fun x y z h1 h2 => ?_, fun x y z h1 h2 => ?_⟩⟩
  · rw [hU]; simp
  · rw [hU] at *; simp only [decide_eq_true_eq] at *; omega
  · rw [hU] at *; simp only [decide_eq_false_iff_not] at *; omega
theorem keep_apart3 (l : List Bul) : Apart bp (eQ l) := by
  refine (hP l).imp fun {a b} h => ?_
  rw [hU, hU]
  simp only [decide_eq_true_eq]
  omega
theorem kb (hl : l.length ≤ 1000000) (hp : ∀ b ∈ l, b.ae.aa.aJ.length ≤ 1000000) : fp l = some ((eQ l).mergeSort fun x y => !lt3 bp y x) := by
  obtain ⟨m, h1, hm⟩ := last_map hl
  have h2 := code_l19 hl hp hm l.length 0 [] (by omega) (by simp)
  rw [show ((0 : Nat) : Int) = 0 from rfl] at h2
  have hk := keepL_len l
  unfold fp
  rw [h1, Option.bind_some, h2, Option.bind_some, List.nil_append, List.drop_zero, sortU_at lit1_ok (keep_apart3 l) (by omega)]
  rfl

theorem ref_l16 (hl : l.length ≤ 1000000) {i : Nat} (hi : i < l.length) (out : List Bul) : ∀ (k j : Nat) (q : Bool), j + k = l.length → loopO (dz l (i : Int) out) (q, (j : Int)) = some ((i : Int), (q && (l.drop j).all fun b => b.fID != l[i].fID), out) := by
  intro k
  induction k with
  | zero =>
    intro j q hj
    rw [List.drop_of_length_le (by omega)]
    refine loopO_stop ?_
    unfold dz
    simp only
    rw [if_neg (by simp; omega)]
    simp
  | succ k ih =>
    intro j q hj
    have hlt : j < l.length := by omega
    have hw : IntKind.wrap .i64 ((j : Int) + 1) = ((j + 1 : Nat) : Int) := by rw [w64 (by omega) (by omega)]; omega
    rw [List.drop_eq_getElem_cons hlt, List.all_cons]
    cases q with
    | true =>
      rw [loopO_next (s' := (l[j].fID != l[i].fID, ((j + 1 : Nat) : Int)))]
      · rw [ih (j + 1) _ (by omega)]; simp
      · unfold dz
        simp only
        rw [if_pos (by simp; omega), if_pos trivial, getO_at rfl hlt, Option.bind_some, getO_at rfl hi, Option.bind_some, hw]
    | false =>
      rw [loopO_next (s' := (false, ((j + 1 : Nat) : Int)))]
      · rw [ih (j + 1) _ (by omega)]; simp
      · unfold dz
        simp only
        rw [if_pos (by simp; omega), if_neg (by simp), hw]
theorem ref_l30 {i : Nat} (hi : i < l.length) {q : Bool} {out : List Bul} (ho : out.length ≤ 1000000) : Ok (loopO (et ((i : Int), q, out) l) (0 : Int)) (fun o => ∃ k : Nat, o = (k : Int) ∧ k ≤ out.length ∧ (∀ (j : Nat) (_ : j < k) (h : j < out.length), out[j].fID < l[i].fID) ∧ ∀ h : k < out.length, ¬ out[k].fID < l[i].fID) := by
  refine Ok.loop (fun s => ∃ k : Nat, s = (k : Int) ∧ k ≤ out.length ∧ ∀ (j : Nat) (_ : j < k) (h : j < out.length), out[j].fID < l[i].fID) (fun s => ((out.length : Int) - s).toNat) ?_ ⟨0, rfl, by omega, fun j hj => by omega⟩
  rintro s ⟨k, rfl, hk, hlt⟩
  unfold et
  refine Ok.iteD (fun h => ?_) (fun h => Ok.st ⟨k, rfl, hk, hlt, fun h2 => (h (by simp only; omega)).elim⟩)
  simp only at h
  have hko : k < out.length := by omega
  refine Ok.bind (Ok.isin (by omega) (by simp only; omega)) (fun _ _ => ?_)
  rw [getO_at rfl hko, Option.bind_some, getO_at rfl hi, Option.bind_some, w64 (by omega) (by omega)]
  refine Ok.iteD (fun h2 => ?_) (fun h2 => Ok.st ⟨k, rfl, hk, hlt, fun _ => h2⟩)
  refine Ok.nx ⟨k + 1, by omega, by omega, fun j hj hjl => ?_⟩ (by omega)
  by_cases e : j = k
  · subst e; exact h2
  · exact hlt j (by omega) hjl
theorem insert_at {α : Type} (out : List α) (z x : α) (k : Nat) (hk : k ≤ out.length) : (copyL (out ++ [z]) (k + 1) ((out ++ [z]).length - (k + 1)) ((out ++ [z]).drop k |>.take ((out ++ [z]).length - k))).set k x = out.take k ++ x :: out.drop k := by
  have hl : (out ++ [z]).length = out.length + 1 := by simp
  have e1 : ((out ++ [z]).drop k).take ((out ++ [z]).length - k) = out.drop k ++ [z] := by
    rw [List.take_of_length_le (by simp), List.drop_append_of_le_length hk]
  rw [e1]
  unfold copyL
  have e2 : Nat.min (out.drop k ++ [z]).length ((out ++ [z]).length - (k + 1)) = out.length - k := by
    show min _ _ = _
    simp only [List.length_append, List.length_drop, List.length_cons, List.length_nil]; omega
  rw [e2]
  have e3 : (out.drop k ++ [z]).take (out.length - k) = out.drop k := by
    rw [List.take_append_of_le_length (by simp)]
    exact List.take_of_length_le (by simp)
  have e4 : (out ++ [z]).drop (k + 1 + (out.length - k)) = [] := List.drop_eq_nil_of_le (by simp; omega)
  rw [e3, e4, List.append_nil]
  by_cases hlt : k < out.length
  · have e5 : (out ++ [z]).take (k + 1) = out.take k ++ [out[k]] := by
      rw [List.take_append_of_le_length (by omega), take_succ_at hlt]
    rw [e5, List.append_assoc, List.set_append_right _ _ (by simp; omega)]
    have : k - (out.take k).length = 0 := by simp; omega
    rw [this]
    simp
  · have : k = out.length := by omega
    subst this
    rw [Nat.sub_self] at *
    rw [List.take_of_length_le (l := out ++ [z]) (by simp), List.drop_length, List.append_nil, List.set_append_right _ _ (Nat.le_refl _)]
    simp
structure jT (out acc : List Bul) : Prop where
  perm : out.Perm acc
  srt : out.Pairwise fun x y => x.fID < y.fID
theorem jT.add {out acc : List Bul} {x : Bul} {k : Nat} (h : jT out acc) (hk : k ≤ out.length) (hx : ∀ y ∈ acc, y.fID ≠ x.fID) (h1 : ∀ (j : Nat) (_ : j < k) (h : j < out.length), out[j].fID < x.fID) (h2 : ∀ h : k < out.length, ¬ out[k].fID < x.fID) :
    jT (out.take k ++ x :: out.drop k) (acc ++ [x]) := by
  refine ⟨?_, ?_⟩
  · refine (List.perm_middle).trans ?_
    rw [List.take_append_drop]
    exact (List.Perm.cons x h.perm).trans (List.perm_append_singleton x acc).symm
  · have hs := h.srt
    rw [← List.take_append_drop k out] at hs
    obtain ⟨s1, s2, s3⟩ := List.pairwise_append.1 hs
    have hlo : ∀ a ∈ out.take k, a.fID < x.fID := by
      intro a ha
      obtain ⟨j, hj, rfl⟩ := List.mem_take_iff_getElem.1 ha
      exact h1 j (by omega) (by omega)
    have hhi : ∀ b ∈ out.drop k, x.fID < b.fID := by
      intro b hb
      obtain ⟨j, hj, rfl⟩ := List.mem_drop_iff_getElem.1 hb
      have hk0 := h2 (by omega)
      have hne : (out[k + j]).fID ≠ x.fID := hx _ (h.perm.mem_iff.1 (List.getElem_mem _))
      have hle : out[k].fID ≤ out[k + j].fID := by
        by_cases hj0 : j = 0
        · subst hj0; exact Int.le_refl _
        · exact Int.le_of_lt (List.pairwise_iff_getElem.1 h.srt k (k + j) (by omega) (by omega) (by omega))
      omega
    refine List.pairwise_append.2 ⟨s1, List.pairwise_cons.2 ⟨hhi, s2⟩, fun a ha b hb => ?_⟩
    rcases List.mem_cons.1 hb with rfl | hb
    · exact hlo a ha
    · exact Int.lt_trans (hlo a ha) (hhi b hb)
theorem ref_l42 (hl : l.length ≤ 1000000) : ∀ (k i : Nat) (out acc : List Bul), i + k = l.length → out.length ≤ i → acc ++ eQ (l.drop i) = eQ l → jT out acc → ∃ r, loopO (cw l) ((i : Int), out) = some r ∧ jT r (eQ l) := by
  intro k
  induction k with
  | zero =>
    intro i out acc hi ho hk hr
    rw [List.drop_of_length_le (by omega)] at hk
    refine ⟨out, loopO_stop ?_, ?_⟩
    · unfold cw
      simp only
      rw [if_neg (by simp; omega)]
    · rw [← hk]; simpa [eQ] using hr
  | succ k ih =>
    intro i out acc hi ho hk hr
    have hlt : i < l.length := by omega
    have hw : IntKind.wrap .i64 ((i : Int) + 1) = ((i + 1 : Nat) : Int) := by rw [w64 (by omega) (by omega)]; omega
    have h16 := ref_l16 hl hlt out (l.length - (i + 1)) (i + 1) true (by omega)
    rw [Bool.true_and] at h16
    have hk' := hk
    rw [List.drop_eq_getElem_cons hlt, eQ] at hk
    have next : ∀ out' acc', cw l ((i : Int), out) = some (.next (((i + 1 : Nat) : Int), out')) → out'.length ≤ i + 1 → acc' ++ eQ (l.drop (i + 1)) = eQ l → jT out' acc' → ∃ r, loopO (cw l) ((i : Int), out) = some r ∧ jT r (eQ l) := by
      intro out' acc' h1 h2 h3 h4
      obtain ⟨r, h5, h6⟩ := ih (i + 1) out' acc' (by omega) h2 h3 h4
      exact ⟨r, by rw [loopO_next h1]; exact h5, h6⟩
    have e0 : cw l ((i : Int), out) = (if (!((l.drop (i + 1)).all fun b => b.fID != l[i].fID)) = true then some (.next (((i + 1 : Nat) : Int), out)) else if (l[i].ba == (3 : Int)) = true then some (.next (((i + 1 : Nat) : Int), out)) else
        (loopO (et ((i : Int), ((l.drop (i + 1)).all fun b => b.fID != l[i].fID), out) l) (0 : Int)).bind fun o31 => (appO out [gY] 288).bind fun x32 => (subO x32.length (IntKind.wrap .i64 (o31 + (1 : Int))) (x32.length : Int)).bind fun _ => (subO x32.length o31 (x32.length : Int)).bind fun _ => (viewO x32.length (0 + ((IntKind.wrap .i64 (o31 + (1 : Int))) : Int).toNat) (0 + ((x32.length : Int) : Int).toNat)).bind fun _ => (partO x32 (0 + (o31 : Int).toNat) (0 + ((x32.length : Int) : Int).toNat)).bind fun x36 => (getO l (i : Int)).bind fun x38 => (inO (copyL x32 (0 + ((IntKind.wrap .i64 (o31 + (1 : Int))) : Int).toNat) ((0 + ((x32.length : Int) : Int).toNat) - (0 + ((IntKind.wrap .i64 (o31 + (1 : Int))) : Int).toNat)) x36) o31).bind fun _ => (setO (copyL x32 (0 + ((IntKind.wrap .i64 (o31 + (1 : Int))) : Int).toNat) ((0 + ((x32.length : Int) : Int).toNat) - (0 + ((IntKind.wrap .i64 (o31 + (1 : Int))) : Int).toNat)) x36) o31 x38).bind fun x41 => some (.next (((i + 1 : Nat) : Int), x41))) := by
      unfold cw
      simp only
      rw [if_pos (by simp; omega), hw, h16, Option.bind_some]
      simp only
      rw [getO_at rfl hlt, Option.bind_some, hw]
      rfl
    by_cases hc : ((l.drop (i + 1)).all fun b => b.fID != l[i].fID) = true
    rotate_left
    · rw [if_neg (fun h => hc h.1)] at hk
      rw [if_pos (by simpa using hc)] at e0
      exact next out acc e0 (by omega) hk hr
    rw [if_neg (by simp [hc])] at e0
    by_cases h3 : l[i].ba = 3
    · rw [if_neg (fun h => h.2 h3)] at hk
      rw [if_pos (by simp [h3])] at e0
      exact next out acc e0 (by omega) hk hr
    rw [if_pos ⟨hc, h3⟩] at hk
    rw [if_neg (by simpa using h3)] at e0
    obtain ⟨o, ho1, p, rfl, hp1, hp2, hp3⟩ := ref_l30 (q := ((l.drop (i + 1)).all fun b => b.fID != l[i].fID)) (out := out) hlt (by omega)
    have hzl : (out ++ [gY]).length = out.length + 1 := by simp
    have t1 : (0 + ((p : Int) + 1).toNat) = p + 1 := by omega
    have t2 : (0 + (((out ++ [gY]).length : Int)).toNat) = (out ++ [gY]).length := by omega
    have t3 : (0 + ((p : Int)).toNat) = p := by omega
    rw [ho1, Option.bind_some, So.dY (by simp only [List.length_cons, List.length_nil]; omega), Option.bind_some, w64 (n := (p : Int) + 1) (by omega) (by omega), subO_at (by omega) (by omega) (by omega), Option.bind_some, subO_at (by omega) (by omega) (by omega), Option.bind_some, t1, t2, t3, viewO_at (by omega) (by omega), Option.bind_some, partO_at (by omega) (by omega), Option.bind_some, getO_at rfl hlt, Option.bind_some] at e0
    have hcl : (copyL (out ++ [gY]) (p + 1) ((out ++ [gY]).length - (p + 1)) (List.take ((out ++ [gY]).length - p) (List.drop p (out ++ [gY])))).length = out.length + 1 := by
      have : ∀ {α : Type} {l y : List α} {a m : Nat}, a + m ≤ l.length → (copyL l a m y).length = l.length := by
        intro α l y a m h
        have : Nat.min y.length m ≤ m := Nat.min_le_right _ _
        have h2 : Nat.min y.length m ≤ y.length := Nat.min_le_left _ _
        simp only [copyL, List.length_append, List.length_take, List.length_drop]
        omega
      rw [this (by omega), hzl]
    rw [inO_at (by omega) (by rw [hcl]; omega), Option.bind_some, setO_at (i := p) rfl (by rw [hcl]; omega), Option.bind_some, insert_at out gY l[i] p hp1] at e0
    have hx : ∀ y ∈ acc, y.fID ≠ l[i].fID := by
      intro y hy
      have := hP l
      rw [← hk] at this
      exact (List.pairwise_append.1 this).2.2 y hy _ (by simp)
    refine next _ (acc ++ [l[i]]) e0 (by simp; omega) (by rw [List.append_assoc]; exact hk) (hr.add hp1 hx hp2 hp3)
theorem current_eq (hl : l.length ≤ 1000000) (hp : ∀ b ∈ l, b.ae.aa.aJ.length ≤ 1000000) : ∃ r, fp l = some r ∧ f8 l = some r ∧ ∀ b ∈ r, b ∈ l := by
  obtain ⟨r, h1, h2⟩ := ref_l42 hl l.length 0 [] [] (by omega) (by simp) (by simp) ⟨.nil, .nil⟩
  rw [show ((0 : Nat) : Int) = 0 from rfl] at h1
  refine ⟨r, ?_, by unfold f8; rw [h1]; rfl, fun b hb => jJ (h2.perm.mem_iff.1 hb)⟩
  rw [kb hl hp]
  congr 1
  have hO := lit1_ok.2
  have hle : ∀ a b c : Bul, (!lt3 bp b a) = true → (!lt3 bp c b) = true → (!lt3 bp c a) = true := by
    intro a b c h1 h2
    simp only [Bool.not_eq_true'] at *
    exact hO.ntrans c b a h2 h1
  have htt : ∀ a b : Bul, ((!lt3 bp b a) || (!lt3 bp a b)) = true := by
    intro a b
    rw [hU, hU]
    simp only [Bool.or_eq_true, Bool.not_eq_true', decide_eq_false_iff_not]
    omega
  symm
  refine List.Perm.eq_of_pairwise (le := fun x y => (!lt3 bp y x) = true) ?_ ?_ (List.pairwise_mergeSort hle htt _) (h2.perm.trans (List.mergeSort_perm _ _).symm)
  · intro a b ha hb h3 h4
    simp only [Bool.not_eq_true'] at h3 h4
    exact (keep_apart3 l).eq (h2.perm.mem_iff.1 ha) (List.mem_mergeSort.1 hb) h4 h3
  · refine h2.srt.imp fun {a b} h => ?_
    rw [hU]
    simp only [Bool.not_eq_true', decide_eq_false_iff_not]
    omega
end

abbrev Arr := aS
def Both (t : List UInt8) : Prop := ∃ r, ca t = some r ∧ db t = some r ∧ r.1.ae.aa.aJ.length ≤ 1000000
theorem both_short {t : List UInt8} (h : t.length ≤ 20000) : Both t := by
  rcases kd t h with ⟨b, hb, -, h1, h2⟩ | ⟨h1, h2⟩
  · exact ⟨_, h1, h2, by have := hb.ev.sol.len; simp only; omega⟩
  · exact ⟨_, h1, h2, by simp [gY]⟩
theorem both_text {b : Bul} (h : fc b) : Both (text b) := ⟨_, gL h, jW h, by have := h.ev.sol.len; simp only; omega⟩
open Classical in
noncomputable def bW (n : Int) : List Arr → Option Bul
  | [] => none
  | a :: r => if a.cq = n then (match ca a.ei with
    | some (b, e) => if e = 0 ∧ b.aT = n then some b else bW n r
    | none => bW n r) else bW n r
theorem fN (n : Int) (a : Arr) : ∀ l : List Arr, bW n (l ++ [a]) = match bW n l with | some b => some b | none => bW n [a]
  | [] => rfl
  | c :: l => by
    have ih := fN n a l
    simp only [List.cons_append, bW] at ih ⊢
    by_cases h : c.cq = n
    · rw [if_pos h, if_pos h]
      cases ca c.ei with
      | none => exact ih
      | some q =>
        simp only
        by_cases h2 : q.2 = 0 ∧ q.1.aT = n
        · rw [if_pos h2, if_pos h2]
        · rw [if_neg h2, if_neg h2]; exact ih
    · rw [if_neg h, if_neg h]; exact ih
theorem findN_seq {n : Int} : ∀ {l : List Arr} {b : Bul}, bW n l = some b → ∃ a ∈ l, a.cq = n
  | [], _, h => by cases h
  | c :: l, b, h => by
    unfold bW at h
    by_cases hc : c.cq = n
    · exact ⟨c, by simp, hc⟩
    · rw [if_neg hc] at h
      obtain ⟨a, h1, h2⟩ := findN_seq h
      exact ⟨a, by simp [h1], h2⟩
theorem jk {n : Int} : ∀ {l : List Arr} {b : Bul}, (∀ a ∈ l, Both a.ei) → bW n l = some b → b.ae.aa.aJ.length ≤ 1000000
  | [], _, _, h => by cases h
  | c :: l, b, hb, h => by
    unfold bW at h
    by_cases hc : c.cq = n
    · rw [if_pos hc] at h
      obtain ⟨r, h1, -, h3⟩ := hb c (by simp)
      rw [h1] at h
      simp only at h
      split at h
      · cases h; exact h3
      · exact jk (fun a ha => hb a (by simp [ha])) h
    · rw [if_neg hc] at h
      exact jk (fun a ha => hb a (by simp [ha])) h
def cnt (n : Int) (l : List Arr) : Nat := (l.filter fun a => decide (a.cq ≥ n)).length
theorem cnt_le (n : Int) (l : List Arr) : cnt (n + 1) l ≤ cnt n l := by
  induction l with
  | nil => exact Nat.le_refl _
  | cons a l ih =>
    unfold cnt at *
    simp only [List.filter_cons]
    by_cases h1 : a.cq ≥ n + 1
    · rw [if_pos (by simpa using h1), if_pos (by simp; omega)]; simp only [List.length_cons]; omega
    · rw [if_neg (by simpa using h1)]
      split
      · simp only [List.length_cons]; omega
      · exact ih
theorem cnt_lt {n : Int} : ∀ {l : List Arr}, (∃ a ∈ l, a.cq = n) → cnt (n + 1) l < cnt n l
  | [], h => by obtain ⟨a, h, _⟩ := h; cases h
  | c :: l, h => by
    have hle := cnt_le n l
    unfold cnt at hle
    unfold cnt
    simp only [List.filter_cons]
    by_cases hc : c.cq = n
    · rw [if_neg (by simp; omega), if_pos (by simp; omega)]; simp only [List.length_cons]; omega
    · have : ∃ a ∈ l, a.cq = n := by
        obtain ⟨a, ha, e⟩ := h
        rcases List.mem_cons.1 ha with rfl | ha
        · exact (hc e).elim
        · exact ⟨a, ha, e⟩
      have ih := cnt_lt this
      unfold cnt at ih
      by_cases h1 : c.cq ≥ n + 1
      · rw [if_pos (by simpa using h1), if_pos (by simp; omega)]; simp only [List.length_cons]; omega
      · rw [if_neg (by simpa using h1), if_neg (by simp; omega)]; exact ih
theorem cnt_len (n : Int) (l : List Arr) : cnt n l ≤ l.length := List.length_filter_le _ _
def MapFind (l : List Arr) (m : List (Int × Bul)) : Prop := ∀ n : Int, (mHas (fun a b => a == b) n m = (bW n l).isSome) ∧ ∀ (z : Bul) (b : Bul), bW n l = some b → mGet (fun a b => a == b) n z m = b
theorem code_l11 {l : List Arr} (hl : l.length ≤ 1000000) (hb : ∀ a ∈ l, Both a.ei) : Ok (loopO (gj l) ((0 : Int), [])) (MapFind l) := by
  refine Ok.loop (fun s => (0 ≤ s.1 ∧ s.1 ≤ (l.length : Int)) ∧ MapFind (l.take s.1.toNat) s.2) (fun s => ((l.length : Int) - s.1).toNat) ?_ ⟨by simp only; omega, fun n => ⟨by simp [mHas, bW], fun z b h => by simp [bW] at h⟩⟩
  rintro ⟨i, m⟩ ⟨⟨i0, i1⟩, hm⟩
  simp only at i0 i1 hm
  unfold gj
  refine Ok.iteD (fun hlt => ?_) (fun hge => ?_)
  · refine Ok.bind (Ok.get i0 hlt) (fun a ha => ?_)
    obtain ⟨r, h1, h2, -⟩ := hb a ha.1
    rw [w64 (n := i + 1) (by omega) (by omega)]
    have htk : l.take (i + 1).toNat = l.take i.toNat ++ [a] := by
      rw [show (i + 1).toNat = i.toNat + 1 by omega, List.take_add_one, ha.2]; rfl
    have stay : (∀ n : Int, bW n (l.take i.toNat) = none → bW n [a] = none) → Ok (some (.next (i + 1, m))) (Ok.S (fun s : Int × List (Int × Bul) => (0 ≤ s.1 ∧ s.1 ≤ (l.length : Int)) ∧ MapFind (l.take s.1.toNat) s.2) (fun s => ((l.length : Int) - s.1).toNat) (MapFind l) (i, m)) := by
      intro h
      refine Ok.nx ⟨by simp only; omega, ?_⟩ (by simp only; omega)
      simp only
      rw [htk]
      have e : ∀ n, bW n (l.take i.toNat ++ [a]) = bW n (l.take i.toNat) := by
        intro n
        rw [fN]
        cases hq : bW n (l.take i.toNat) with
        | some b => rfl
        | none => exact h n hq
      intro n
      rw [e]
      exact hm n
    refine Ok.iteB (fun hh => stay fun n hn => ?_) (fun hh => ?_)
    · unfold bW
      by_cases hs : a.cq = n
      · rw [hs, (hm n).1, hn] at hh; cases hh
      · rw [if_neg hs]; rfl
    · rw [h1, Option.bind_some]
      have fa : ∀ n, bW n [a] = if a.cq = n ∧ r.2 = 0 ∧ r.1.aT = n then some r.1 else none := by
        intro n
        unfold bW
        rw [h1]
        simp only [bW]
        by_cases c1 : a.cq = n <;> by_cases c2 : r.2 = 0 <;> by_cases c3 : r.1.aT = n <;> simp [c1, c2, c3]
      refine Ok.iteE (fun h0 => ?_) (fun h0 => stay fun n _ => by rw [fa, if_neg (fun h => h0 h.2.1)])
      refine Ok.iteE (fun hn => ?_) (fun hn => stay fun n _ => by rw [fa, if_neg (fun h => hn (by rw [h.2.2, h.1]))])
      refine Ok.nx ⟨by simp only; omega, ?_⟩ (by simp only; omega)
      simp only
      rw [htk]
      have hnone : bW a.cq (l.take i.toNat) = none := by
        have := (hm a.cq).1
        rw [hh] at this
        cases hq : bW a.cq (l.take i.toNat) with
        | none => rfl
        | some b => rw [hq] at this; cases this
      intro n
      rw [mHas_put]
      by_cases hs : n = a.cq
      · subst hs
        rw [fN, hnone]
        simp only
        rw [fa, if_pos ⟨rfl, h0, hn⟩]
        refine ⟨by simp, fun z b e => ?_⟩
        cases e
        rw [jp, if_pos rfl]
      · have e : bW n (l.take i.toNat ++ [a]) = bW n (l.take i.toNat) := by
          rw [fN]
          cases hq : bW n (l.take i.toNat) with
          | some b => rfl
          | none => simp only; rw [fa, if_neg (fun h => hs h.1.symm)]
        rw [e, (hm n).1]
        refine ⟨by simp [hs], fun z b h => ?_⟩
        rw [jp, if_neg hs]
        exact (hm n).2 z b h
  · have : l.take i.toNat = l := List.take_of_length_le (by omega)
    rw [this] at hm
    exact Ok.st hm
theorem ref_l17 {l : List Arr} (hl : l.length ≤ 1000000) (hb : ∀ a ∈ l, Both a.ei) (s1 : List Bul) (hs : s1.length ≤ 1000000) : Ok (loopO (fR l s1) ((0 : Int), s1)) (fun o => o.1 = (s1.length : Int) ∧ o.2 = s1 ++ (bW (s1.length : Int) l).toList) := by
  refine Ok.loop (fun s => (0 ≤ s.1 ∧ s.1 ≤ (l.length : Int)) ∧ s.2 = s1 ++ (bW (s1.length : Int) (l.take s.1.toNat)).toList) (fun s => ((l.length : Int) - s.1).toNat) ?_ ⟨by simp only; omega, by simp [bW]⟩
  rintro ⟨i, out⟩ ⟨⟨i0, i1⟩, ho⟩
  simp only at i0 i1 ho
  unfold fR
  refine Ok.iteD (fun hlt => ?_) (fun hge => ?_)
  · obtain ⟨a, ha, hal⟩ : ∃ a, getO l i = some a ∧ (a ∈ l ∧ l[i.toNat]? = some a) := Ok.get i0 hlt
    have htk : l.take (i + 1).toNat = l.take i.toNat ++ [a] := by
      rw [show (i + 1).toNat = i.toNat + 1 by omega, List.take_add_one, hal.2]; rfl
    obtain ⟨r, h1, h2, -⟩ := hb a hal.1
    refine Ok.iteE (fun hlen => ?_) (fun hlen => ?_)
    · have hnone : bW (s1.length : Int) (l.take i.toNat) = none := by
        cases hq : bW (s1.length : Int) (l.take i.toNat) with
        | none => rfl
        | some b => rw [ho, hq] at hlen; simp at hlen; omega
      have hos : out = s1 := by rw [ho, hnone]; simp
      subst hos
      have fa : bW (out.length : Int) [a] = if a.cq = (out.length : Int) ∧ r.2 = 0 ∧ r.1.aT = (out.length : Int) then some r.1 else none := by
        unfold bW
        rw [h1]
        simp only [bW]
        by_cases c1 : a.cq = (out.length : Int) <;> by_cases c2 : r.2 = 0 <;> by_cases c3 : r.1.aT = (out.length : Int) <;> simp [c1, c2, c3]
      have fs : bW (out.length : Int) (l.take (i + 1).toNat) = bW (out.length : Int) [a] := by rw [htk, fN, hnone]
      have stay : ¬ (a.cq = (out.length : Int) ∧ r.2 = 0 ∧ r.1.aT = (out.length : Int)) → Ok (some (.next (i + 1, out))) (Ok.S (fun s : Int × List Bul => (0 ≤ s.1 ∧ s.1 ≤ (l.length : Int)) ∧ s.2 = out ++ (bW (out.length : Int) (l.take s.1.toNat)).toList) (fun s => ((l.length : Int) - s.1).toNat) (fun o : Int × List Bul => o.1 = (out.length : Int) ∧ o.2 = out ++ (bW (out.length : Int) l).toList) (i, out)) := by
        intro h
        refine Ok.nx ⟨by simp only; omega, ?_⟩ (by simp only; omega)
        simp only
        rw [fs, fa, if_neg h]; simp
      rw [ha, Option.bind_some, h2, Option.bind_some, Option.bind_some, w64 (n := i + 1) (by omega) (by omega)]
      refine Ok.iteE (fun c1 => ?_) (fun c1 => stay fun h => c1 h.1)
      refine Ok.iteE (fun c2 => ?_) (fun c2 => stay fun h => c2 h.2.1)
      refine Ok.iteE (fun c3 => ?_) (fun c3 => stay fun h => c3 h.2.2)
      rw [So.dY (by simp only [List.length_cons, List.length_nil]; omega), Option.bind_some]
      refine Ok.nx ⟨by simp only; omega, ?_⟩ (by simp only; omega)
      simp only
      rw [fs, fa, if_pos ⟨c1, c2, c3⟩]; rfl
    · refine Ok.st ⟨rfl, ?_⟩
      simp only
      have hsome : ∃ b, bW (s1.length : Int) (l.take i.toNat) = some b := by
        cases hq : bW (s1.length : Int) (l.take i.toNat) with
        | some b => exact ⟨b, rfl⟩
        | none => rw [ho, hq] at hlen; simp at hlen
      obtain ⟨b, hbq⟩ := hsome
      have hmono : ∀ (q r : List Arr), bW (s1.length : Int) q = some b → bW (s1.length : Int) (q ++ r) = some b := by
        intro q r h
        induction r generalizing q with
        | nil => simpa using h
        | cons c r ih =>
          rw [show q ++ c :: r = (q ++ [c]) ++ r by simp]
          refine ih _ ?_
          rw [fN, h]
      have := hmono (l.take i.toNat) (l.drop i.toNat) hbq
      rw [List.take_append_drop] at this
      rw [ho, hbq, this]
  · have : l.take i.toNat = l := List.take_of_length_le (by omega)
    rw [this] at ho
    exact Ok.st ⟨rfl, ho⟩
theorem prefix_eq {l : List Arr} (hl : l.length ≤ 1000000) (hb : ∀ a ∈ l, Both a.ei) : ∃ r, eu l = some r ∧ gG l = some r ∧ r.length ≤ l.length ∧ ∀ b ∈ r, b.ae.aa.aJ.length ≤ 1000000 := by
  obtain ⟨m, hm1, hm⟩ := code_l11 hl hb
  have key : ∀ (c : Nat) (out : List Bul), cnt (out.length : Int) l = c → out.length + c ≤ l.length → (∀ b ∈ out, b.ae.aa.aJ.length ≤ 1000000) →
      ∃ r, loopO (cV m) ((out.length : Int), out) = some r ∧ loopO (eJ l) out = some r ∧ r.length ≤ l.length ∧ ∀ b ∈ r, b.ae.aa.aJ.length ≤ 1000000 := by
    intro c
    induction c using Nat.strongRecOn with
    | _ c ih =>
      intro out hc hlen hpk
      obtain ⟨⟨o1, o2⟩, h17, e1, e2⟩ := ref_l17 hl hb out (by omega)
      simp only at e1 e2
      subst e1 e2
      cases hq : bW (out.length : Int) l with
      | none =>
        refine ⟨out, loopO_stop ?_, loopO_stop ?_, by omega, hpk⟩
        · unfold cV
          simp only
          rw [if_pos (by rw [(hm _).1, hq]; rfl)]
        · unfold eJ
          rw [h17, hq]
          simp
      | some b =>
        have hlt := cnt_lt (findN_seq hq)
        have hl2 : ((out ++ [b]).length : Int) = (out.length : Int) + 1 := by simp
        obtain ⟨r, h1, h2, h3, h4⟩ := ih (cnt ((out.length : Int) + 1) l) (by omega) (out ++ [b]) (by rw [hl2]) (by simp; omega) (by
          intro x hx
          rcases List.mem_append.1 hx with hx | hx
          · exact hpk x hx
          · obtain rfl := List.mem_singleton.1 hx
            exact jk hb hq)
        refine ⟨r, ?_, ?_, h3, h4⟩
        · rw [loopO_next (s' := (((out ++ [b]).length : Int), out ++ [b])), h1]
          unfold cV
          simp only
          rw [if_neg (by rw [(hm _).1, hq]; simp)]
          simp only [(hm _).2 _ b hq]
          rw [So.dY (by simp only [List.length_cons, List.length_nil]; omega), Option.bind_some, w64 (by omega) (by omega), hl2]
        · rw [loopO_next (s' := out ++ [b]), h2]
          unfold eJ
          rw [h17, hq, Option.bind_some]
          have hne : (((out ++ [b]).length : Int) == (out.length : Int)) = false := by rw [beq_eq_false_iff_ne]; omega
          show (if (((out ++ [b]).length : Int) == (out.length : Int)) = true then some (Step1.stop (out ++ [b])) else some (Step1.next (out ++ [b]))) = _
          rw [hne]; rfl
  obtain ⟨r, h1, h2, h3, h4⟩ := key (cnt 0 l) [] rfl (by have := cnt_len 0 l; simp; omega) (by simp)
  rw [show (([] : List Bul).length : Int) = 0 from rfl] at h1
  refine ⟨r, ?_, ?_, h3, h4⟩
  · unfold eu
    rw [hm1, Option.bind_some, h1]; rfl
  · unfold gG
    rw [h2]; rfl
end Go.Dw.Fh


set_option maxRecDepth 100000
set_option maxHeartbeats 4000000
namespace Go.Dw.Fh
open Go.Dw Go.Lib
def awP : Pick := ⟨⟨[65, 66], [83, 49], [48, 48], [66, 72, 90]⟩, 5, 4, 9, 0, -1⟩
def awB (a : Int) : Bul := ⟨a, 1, a, 7, 1, ⟨awP, ⟨[awP], ⟨⟨0, 0, 0⟩, 0, 0, 0, ⟨⟨0, 0, 0⟩, ⟨0, 0, 0⟩⟩⟩, ⟨0, 0⟩, 0⟩⟩⟩
theorem one_at (a : Int) : fO a = some (awB a) := by kernel_rfl
theorem aw_fits (a : Int) : jK (awB a) := ⟨⟨by simp [awB, awP], by simp [awB, awP], by simp [awB, awP], by simp [awB, awP]⟩, fun p hp => by
  obtain rfl := List.mem_singleton.1 hp
  exact ⟨by simp [awP], by simp [awP], by simp [awP], by simp [awP]⟩, by simp [awB]⟩
theorem aw_v0 : vB (awB 0) = true := by decide +kernel
theorem aw_v1 : vB (awB 1) = true := by decide +kernel
theorem aw_v2 : vB (awB 2) = true := by decide +kernel
theorem text_end {b : Bul} {t : List UInt8} (h : text b = t ++ [32]) : False := by
  have hw : ∃ pre, pre ≠ [] ∧ words b = pre ++ [itoa b.ae.aa.aU] := ⟨_, by simp, show words b = ([b.aT, b.ba, b.fID, b.fAt, b.aX].map itoa ++ (bf b.ae.aj ++ ([(b.ae.aa.aJ.length : Int)].map itoa ++ (b.ae.aa.aJ.flatMap bf ++ (dw b.ae.aa.ac.aA ++ ([b.ae.aa.ac.aF, b.ae.aa.ac.aQ, b.ae.aa.ac.aW] ++ (dw b.ae.aa.ac.am.aI ++ (dw b.ae.aa.ac.am.aw ++ [b.ae.aa.ap.aI, b.ae.aa.ap.aw])))).map itoa)))) ++ [itoa b.ae.aa.aU] by simp [words, cm]⟩
  obtain ⟨pre, hp, hw⟩ := hw
  unfold text at h
  rw [hw, join_snoc pre _ hp] at h
  have hn := itoa_ne b.ae.aa.aU
  have h2 : (itoa b.ae.aa.aU).getLast hn = 32 := by
    have h3 := congrArg List.getLast? h
    rw [List.getLast?_append, List.getLast?_eq_some_getLast hn, Option.some_or, List.getLast?_concat] at h3
    exact Option.some.inj h3
  exact itoa_no (n := b.ae.aa.aU) (c := 32) (.inl (by decide)) (h2 ▸ List.getLast_mem hn)
theorem aw_hist : dZ [awB 0, awB 1] = some true := by
  unfold dZ
  rw [loopO_next (s' := (1, [(0, true)])) (by
    unfold bA
    simp only
    rw [if_pos (by decide), show getO [awB 0, awB 1] 0 = some (awB 0) from rfl, Option.bind_some, jC (aw_fits 0), aw_v0]
    kernel_rfl)]
  rw [loopO_next (s' := (2, [(0, true), (1, true)])) (by
    unfold bA
    simp only
    rw [if_pos (by decide), show getO [awB 0, awB 1] 1 = some (awB 1) from rfl, Option.bind_some, jC (aw_fits 1), aw_v1]
    kernel_rfl)]
  rw [loopO_stop (o := .inl ()) (by kernel_rfl)]
  rfl
theorem aw_pre : ∃ b, eu [⟨2, 0, text (awB 2)⟩, ⟨0, 0, text (awB 0)⟩] = some [b] := by
  have d2 : ca (text (awB 2)) = some (awB 2, 0) := gL (eF aw_v2)
  have d0 : ca (text (awB 0)) = some (awB 0, 0) := gL (eF aw_v0)
  obtain ⟨m, hm1, hm⟩ := code_l11 (l := [⟨2, 0, text (awB 2)⟩, ⟨0, 0, text (awB 0)⟩]) (by simp) (fun a ha => by
    simp only [List.mem_cons, List.not_mem_nil, or_false] at ha
    rcases ha with rfl | rfl
    · exact both_text (eF aw_v2)
    · exact both_text (eF aw_v0))
  have f0 : bW 0 [⟨2, 0, text (awB 2)⟩, ⟨0, 0, text (awB 0)⟩] = some (awB 0) := by
    unfold bW
    rw [if_neg (by decide)]
    unfold bW
    rw [if_pos rfl]
    simp only [d0]
    rw [if_pos ⟨trivial, rfl⟩]
  have f1 : bW 1 [⟨2, 0, text (awB 2)⟩, ⟨0, 0, text (awB 0)⟩] = none := by
    unfold bW
    rw [if_neg (by decide)]
    unfold bW
    rw [if_neg (by decide)]
    rfl
  unfold eu
  rw [hm1, Option.bind_some]
  have h1 : ∃ b, cV m (0, []) = some (.next (1, [b])) := by
    unfold cV
    simp only
    rw [if_neg (by rw [(hm 0).1, f0]; decide)]
    exact ⟨_, rfl⟩
  obtain ⟨b, hb⟩ := h1
  rw [loopO_next hb, loopO_stop (o := [b]) (by
    unfold cV
    simp only
    rw [if_pos (by rw [(hm 1).1, f1]; rfl)])]
  exact ⟨b, rfl⟩
theorem awake_at : dW = some true := by
  have e0 : co (awB 0) = some (text (awB 0), 0) := by rw [encode_eq (aw_fits 0), aw_v0]; rfl
  have e2 : co (awB 2) = some (text (awB 2), 0) := by rw [encode_eq (aw_fits 2), aw_v2]; rfl
  have hlen : (text (awB 0)).length ≤ 1000 := by decide +kernel
  have hd : ca (text (awB 0) ++ [32]) = some (gY, 3) := by
    rcases kd (text (awB 0) ++ [32]) (by simp; omega) with ⟨b, -, h, -⟩ | h
    · exact (text_end h.symm).elim
    · exact h.1
  obtain ⟨b, hp⟩ := aw_pre
  unfold dW
  simp only [one_at, Option.bind_some, e0, e2, gL (eF aw_v0), So.eH (show (text (awB 0)).length + [(32 : UInt8)].length ≤ 9223372036854775807 by simp; omega), hd, hp, same_self (b := awB 0) (by decide), aw_hist]
  rfl
end Go.Dw.Fh


set_option maxRecDepth 100000
set_option maxHeartbeats 4000000
namespace Go.Dw.Fh
open Go.Dw Go.Lib

theorem modO_at {α : Type} {l : List α} {n : Int} {x : α} {f : α → α} (h0 : 0 ≤ n) (hx : l[n.toNat]? = some x) : modO l n f = some (l.set n.toNat (f x)) := by
  unfold modO
  rw [if_pos h0, hx]
theorem set_at {α : Type} {l : List α} {i : Nat} {x y : α} (hx : l[i]? = some x) : (l.set i y)[i]? = some y := by
  obtain ⟨h, -⟩ := List.getElem?_eq_some_iff.1 hx
  rw [List.getElem?_set_self h]
theorem events_l30 {e : Ev} {d : Src} (he : e.aa.aJ.length ≤ 64) (i : Int) (hi0 : 0 ≤ i) (hi1 : i ≤ 4) (es : List Ev) (hp : ∀ p ∈ e.aa.aJ, dH p) :
    Ok (loopO (gQ (e, d) i es) ((0 : Int), e.aa.aJ)) (fun o => o.1 = i ∧ o.2.1 = es ∧ o.2.2.length = e.aa.aJ.length ∧ ∀ p ∈ o.2.2, dH p) := by
  refine Ok.loop (fun s => 0 ≤ s.1 ∧ s.1 ≤ e.aa.aJ.length ∧ s.2.length = e.aa.aJ.length ∧ ∀ p ∈ s.2, dH p) (fun s => ((e.aa.aJ.length : Int) - s.1).toNat) ?_ ⟨by simp only; omega, by simp only; omega, rfl, hp⟩
  rintro ⟨k, ps⟩ ⟨i0, i1, i2, i3⟩
  simp only at i0 i1 i2 i3
  unfold gQ
  refine Ok.iteD (fun hlt => ?_) (fun _ => Ok.st ⟨rfl, rfl, i2, i3⟩)
  simp only at hlt
  refine Ok.bind (Ok.isin i0 (by omega)) (fun _ _ => ?_)
  have hlt' : k.toNat < ps.length := by omega
  have hx := List.getElem?_eq_getElem hlt'
  have hpx := i3 _ (List.getElem_mem hlt')
  rw [modO_at i0 hx, Option.bind_some, modO_at i0 (set_at hx), Option.bind_some, List.set_set, modO_at i0 (set_at hx), Option.bind_some, List.set_set, modO_at i0 (set_at hx), Option.bind_some, List.set_set]
  rw [w64 (n := 400 * i) (by omega) (by omega), w64 (n := 1000 + 400 * i) (by omega) (by omega), w64 (n := 1000 + 400 * i + k) (by omega) (by omega), w64 (n := 1000 + 400 * i + k + 2) (by omega) (by omega), w64 (n := k + 1) (by omega) (by omega)]
  refine Ok.nx ⟨by simp only; omega, by simp only; omega, by simpa using i2, ?_⟩ (by simp only; omega)
  intro p hp'
  rcases List.mem_or_eq_of_mem_set hp' with h | h
  · exact i3 p h
  · subst h
    obtain ⟨hs, h1, h2, h3, h4, h5, h6, h7, h8⟩ := hpx
    refine ⟨hs, ?_⟩
    simp only
    omega
theorem events_ok (d : Src) (hd : dh d) : Ok (iH 4 d) (fun r => (r.1.length ≤ 4 ∧ ∀ e ∈ r.1, EvOk e) ∧ dh r.2) := by
  unfold iH
  refine Ok.bind (P := fun o => (o.1.length ≤ 4 ∧ ∀ e ∈ o.1, EvOk e) ∧ dh ⟨o.2.1, o.2.2⟩) (Ok.loop (fun s => (0 ≤ s.1 ∧ s.1 ≤ 4) ∧ dh ⟨s.2.1, s.2.2.1⟩ ∧ s.2.2.2.length ≤ s.1.toNat ∧ ∀ e ∈ s.2.2.2, EvOk e) (fun s => (4 - s.1).toNat) ?_ ⟨by simp, hd, by simp, by simp⟩) (fun o ho => Ok.ret ho)
  rintro ⟨i, L, a, es⟩ ⟨⟨i0, i1⟩, i2, i3, i4⟩
  simp only at i0 i1 i2 i3 i4
  unfold jf
  refine Ok.iteD (fun hlt => ?_) (fun _ => Ok.st ⟨⟨by simp only; omega, i4⟩, i2⟩)
  refine Ok.bind (gl _ _ i2 (by omega) (by omega)) (fun x1 h1 => ?_)
  refine Ok.iteE (fun _ => ?_) (fun _ => ?_)
  · rw [w64 (by omega) (by omega)]
    exact Ok.nx ⟨by simp only; omega, h1.2.2, by simp only; omega, i4⟩ (by simp only; omega)
  · refine Ok.bind (event_ok _ h1.2.2) (fun x2 h2 => ?_)
    obtain ⟨⟨he, hl1⟩, hd2⟩ := h2
    have hl4 := he.sol.len
    refine Ok.bind (events_l30 (d := x2.2) hl4 i i0 i1 es he.sol.picks) (fun o ho => ?_)
    obtain ⟨o1, o2, o3, o4⟩ := ho
    refine Ok.bind (gl _ _ hd2 (by omega) (by omega)) (fun x3 h3 => ?_)
    rw [w64 (n := (o.2.2.length : Int) - 1) (by omega) (by omega)]
    refine Ok.bind (Ok.cut (by split <;> omega) (by split <;> omega) (by omega)) (fun x4 h4 => ?_)
    have hl5 : 1 ≤ x4.length ∧ x4.length ≤ 64 := by
      subst h4
      simp only [List.length_take, List.length_drop]
      split <;> omega
    have hm : ∀ p ∈ x4, dH p := fun p hp => by
      subst h4
      exact o4 p (List.mem_of_mem_drop (List.mem_of_mem_take hp))
    refine Ok.bind (Ok.get (by omega) (by omega)) (fun x5 h5 => ?_)
    rw [o1, o2]
    refine Ok.bind (Ok.app (by simp only [List.length_cons, List.length_nil]; omega)) (fun x6 h6 => ?_)
    subst h6
    rw [w64 (by omega) (by omega)]
    refine Ok.nx ⟨by simp only; omega, h3.2.2, by simp only [List.length_append, List.length_cons, List.length_nil]; omega, ?_⟩ (by simp only; omega)
    intro e hmem
    rcases List.mem_append.1 hmem with hmem | hmem
    · exact i4 e hmem
    · obtain rfl := List.mem_singleton.1 hmem
      obtain ⟨-, -, q1, q2, q3, q4, q5, q6, q7, q8, q9⟩ := he.sol
      exact ⟨hm _ h5.1, ⟨hm, hl5.2, q1, q2, q3, q4, q5, q6, q7, q8, q9⟩⟩

theorem iU (n : Int) : Ok (ec n) (fun _ => True) := by
  unfold ec
  exact Ok.iteD (fun _ => Ok.ret trivial) (fun _ => Ok.ret trivial)
theorem jD (p : Policy) : Ok (dT p) (fun r => r = 0 → p.bv.length ≤ 8) := by
  unfold dT
  refine Ok.iteD (fun _ => Ok.ret (fun e => by cases e)) (fun _ => ?_)
  refine Ok.iteD (fun _ => Ok.ret (fun e => by cases e)) (fun h8 => ?_)
  have h8' : p.bv.length ≤ 8 := by omega
  refine Ok.bind (iU _) (fun x _ => Ok.iteN (fun _ => Ok.ret (fun e => by cases e)) (fun _ => ?_))
  refine Ok.bind (iU _) (fun x _ => Ok.iteN (fun _ => Ok.ret (fun e => by cases e)) (fun _ => ?_))
  refine Ok.bind (P := fun _ => True) (Ok.upto (p.bv.length : Int) (by omega) (fun _ => True) trivial (fun i h0 h1 _ => ?_)) (fun o _ => ?_)
  · unfold gV
    refine Ok.iteD (fun hlt => ?_) (fun _ => Ok.st trivial)
    refine Ok.bind (Ok.get h0 hlt) (fun x _ => ?_)
    refine Ok.iteD (fun _ => Ok.st trivial) (fun _ => ?_)
    refine Ok.iteD (fun _ => Ok.st trivial) (fun _ => ?_)
    refine Ok.iteD (fun _ => Ok.st trivial) (fun _ => ?_)
    refine Ok.iteD (fun _ => Ok.st trivial) (fun _ => ?_)
    refine Ok.bind (iU _) (fun x _ => Ok.iteN (fun _ => Ok.st trivial) (fun _ => ?_))
    refine Ok.bind (iU _) (fun x _ => Ok.iteN (fun _ => Ok.st trivial) (fun _ => ?_))
    rw [w64 (by omega) (by omega)]
    exact Ok.nx ⟨⟨by omega, by omega⟩, trivial⟩ (by omega)
  · cases o <;> exact Ok.ret (fun _ => h8')
theorem avalid_l15 (l : List Alert) (hl : l.length ≤ 1000) (s : Int) (h0 : 0 ≤ s) (h1 : s < l.length) : Ok (loopO (gr s l) (0 : Int)) (fun o => ∀ y, o = .inl y → y = s) := by
  refine Ok.upto s h0 (fun _ => True) trivial (fun i g0 g1 _ => ?_)
  have nx : Ok (some (.next (IntKind.wrap .i64 (i + (1 : Int))))) (Ok.S (fun i => (0 ≤ i ∧ i ≤ s) ∧ True) (fun i => (s - i).toNat) (fun o : Int ⊕ Bool => ∀ y, o = .inl y → y = s) i) ∨ ¬ i < s := by
    by_cases hlt : i < s
    · left
      rw [w64 (by omega) (by omega)]
      exact Ok.nx ⟨⟨by omega, by omega⟩, trivial⟩ (by omega)
    · exact .inr hlt
  unfold gr
  refine Ok.iteD (fun hlt => ?_) (fun _ => Ok.st (fun y e => by cases e; rfl))
  have nx := nx.resolve_right (fun h => h hlt)
  refine Ok.bind (Ok.get h0 h1) (fun x _ => Ok.iteN (fun _ => ?_) (fun _ => nx))
  refine Ok.bind (Ok.get g0 (by omega)) (fun x _ => Ok.iteN (fun _ => ?_) (fun _ => nx))
  refine Ok.bind (Ok.get h0 h1) (fun x _ => ?_)
  refine Ok.bind (Ok.get g0 (by omega)) (fun y _ => ?_)
  exact Ok.iteB (fun _ => Ok.st (fun y e => by cases e)) (fun _ => nx)
theorem avalid_ok (l : List Alert) (hl : l.length ≤ 1000) : Ok (ie l) (fun _ => True) := by
  unfold ie
  refine Ok.bind (P := fun _ => True) (Ok.upto (l.length : Int) (by omega) (fun _ => True) trivial (fun i h0 h1 _ => ?_)) (fun o _ => by cases o <;> exact Ok.ret trivial)
  unfold jb
  refine Ok.iteD (fun hlt => ?_) (fun _ => Ok.st trivial)
  have k19 : Ok (ek i l) (Ok.S (fun i => (0 ≤ i ∧ i ≤ (l.length : Int)) ∧ True) (fun i => ((l.length : Int) - i).toNat) (fun _ : Unit ⊕ Bool => True) i) := by
    unfold ek
    refine Ok.bind (avalid_l15 l hl i h0 hlt) (fun o ho => ?_)
    cases o with
    | inl y =>
      obtain rfl := ho y rfl
      simp only
      rw [w64 (by omega) (by omega)]
      exact Ok.nx ⟨⟨by omega, by omega⟩, trivial⟩ (by omega)
    | inr y => exact Ok.st trivial
  refine Ok.bind (Ok.get h0 hlt) (fun x _ => Ok.iteD (fun _ => Ok.st trivial) (fun _ => ?_))
  refine Ok.bind (Ok.get h0 hlt) (fun x _ => Ok.iteD (fun _ => Ok.st trivial) (fun _ => ?_))
  refine Ok.iteD (fun hpos => ?_) (fun _ => ?_)
  · rw [w64 (by omega) (by omega)]
    refine Ok.bind (Ok.get h0 hlt) (fun x _ => ?_)
    refine Ok.bind (Ok.get (by omega) (by omega)) (fun y _ => Ok.iteD (fun _ => Ok.st trivial) (fun _ => ?_))
    refine Ok.bind (Ok.get h0 hlt) (fun x _ => Ok.iteD (fun _ => Ok.st trivial) (fun _ => ?_))
    refine Ok.bind (Ok.get h0 hlt) (fun x _ => Ok.iteD (fun _ => Ok.st trivial) (fun _ => k19))
  · refine Ok.bind (Ok.get h0 hlt) (fun x _ => Ok.iteD (fun _ => Ok.st trivial) (fun _ => ?_))
    refine Ok.bind (Ok.get h0 hlt) (fun x _ => Ok.iteD (fun _ => Ok.st trivial) (fun _ => k19))
theorem rcmp_ok (a b : List UInt8) : Ok (dJ a b) (fun _ => True) := by
  unfold dJ
  exact Ok.iteB (fun _ => Ok.ret trivial) (fun _ => Ok.iteN (fun _ => Ok.ret trivial) (fun _ => Ok.ret trivial))
theorem rcmp3_ok (a b : Sid) : Ok (fW a b) (fun _ => True) := by
  unfold fW
  refine Ok.bind (rcmp_ok _ _) (fun x1 _ => ?_)
  refine Ok.bind (rcmp_ok _ _) (fun x2 _ => ?_)
  refine Ok.bind (rcmp_ok _ _) (fun x3 _ => ?_)
  refine Ok.bind (rcmp_ok _ _) (fun x4 _ => ?_)
  repeat' (first | refine Ok.iteNe (fun _ => ?_) (fun _ => ?_) | exact Ok.ret trivial)
theorem rcmp23_ok (a b : Pick) : Ok (eS a b) (fun _ => True) := by
  unfold eS
  refine Ok.bind (rcmp3_ok _ _) (fun x1 _ => Ok.iteNe (fun _ => Ok.ret trivial) (fun _ => ?_))
  repeat' (first | refine Ok.iteD (fun _ => ?_) (fun _ => ?_) | exact Ok.ret trivial)
theorem rcmp34_ok (a b : Pick) : Ok (eT a b) (fun _ => True) := by
  unfold eT
  refine Ok.iteD (fun _ => Ok.ret trivial) (fun _ => Ok.iteD (fun _ => Ok.ret trivial) (fun _ => ?_))
  exact Ok.bind (rcmp23_ok _ _) (fun x _ => Ok.ret trivial)
theorem name_ok (l : List Pick) (h1 : 1 ≤ l.length) (h2 : l.length ≤ 1000) : Ok (iO l) (fun _ => True) := by
  unfold iO
  refine Ok.bind (Ok.get (by omega) (by omega)) (fun x _ => ?_)
  refine Ok.bind (P := fun _ => True) (Ok.loop (fun s => 0 ≤ s.1 ∧ s.1 ≤ (l.length : Int)) (fun s => ((l.length : Int) - s.1).toNat) ?_ ⟨by simp only; omega, by simp only; omega⟩) (fun o _ => Ok.ret trivial)
  rintro ⟨i, a1, a2, a3, a4, a5, a6, a7, a8, a9⟩ ⟨i0, i1⟩
  simp only at i0 i1
  unfold jx
  refine Ok.iteD (fun hlt => ?_) (fun _ => Ok.st trivial)
  refine Ok.bind (Ok.get i0 hlt) (fun x _ => ?_)
  refine Ok.bind (rcmp34_ok _ _) (fun y _ => ?_)
  rw [w64 (by omega) (by omega)]
  refine Ok.iteD (fun _ => ?_) (fun _ => ?_)
  · refine Ok.bind (Ok.get i0 hlt) (fun x _ => ?_)
    exact Ok.nx ⟨by simp only; omega, by simp only; omega⟩ (by simp only; omega)
  · exact Ok.nx ⟨by simp only; omega, by simp only; omega⟩ (by simp only; omega)
theorem copyL_len {α : Type} {l y : List α} {a m : Nat} (h : a + m ≤ l.length) : (copyL l a m y).length = l.length := by
  have : Nat.min y.length m ≤ m := Nat.min_le_right _ _
  have h2 : Nat.min y.length m ≤ y.length := Nat.min_le_left _ _
  simp only [copyL, List.length_append, List.length_take, List.length_drop]
  omega
theorem sort_ok (l : List Pick) (hl : l.length ≤ 1000) : Ok (iN l) (fun r => r.length ≤ 1000) := by
  unfold iN
  refine Ok.bind (P := fun o => o.length ≤ 1000) (Ok.loop (fun s => 0 ≤ s.1 ∧ s.1 ≤ (l.length : Int) ∧ s.2.length ≤ s.1.toNat) (fun s => ((l.length : Int) - s.1).toNat) ?_ ⟨by simp, by simp, by simp⟩) (fun o ho => Ok.ret ho)
  rintro ⟨i, ps⟩ ⟨i0, i1, i2⟩
  simp only at i0 i1 i2
  unfold jt
  refine Ok.iteD (fun hlt => ?_) (fun _ => Ok.st (show ps.length ≤ 1000 by omega))
  refine Ok.bind (P := fun o => o.1 = i ∧ (0 ≤ o.2.1 ∧ o.2.1 ≤ (ps.length : Int)) ∧ o.2.2 = ps) (Ok.loop (fun k : Int => 0 ≤ k ∧ k ≤ (ps.length : Int)) (fun k => k.toNat) ?_ ⟨by omega, by omega⟩) ?_
  · rintro k ⟨k0, k1⟩
    unfold js
    refine Ok.iteD (fun hk => ?_) (fun _ => Ok.st ⟨rfl, ⟨k0, k1⟩, rfl⟩)
    rw [w64 (by omega) (by omega)]
    refine Ok.bind (Ok.isin (by omega) (by omega)) (fun _ _ => ?_)
    refine Ok.bind (Ok.get (by omega) (by omega)) (fun x _ => ?_)
    refine Ok.bind (Ok.get i0 hlt) (fun y _ => ?_)
    refine Ok.bind (rcmp23_ok _ _) (fun z _ => ?_)
    exact Ok.iteD (fun _ => Ok.nx ⟨by omega, by omega⟩ (by omega)) (fun _ => Ok.st ⟨rfl, ⟨k0, k1⟩, rfl⟩)
  · rintro ⟨o1, o2, o3⟩ ⟨e1, ⟨k0, k1⟩, e3⟩
    simp only at e1 k0 k1 e3
    subst e1 e3
    have k31 : Ok (ez l (o1, o2, o3)) (Ok.S (fun s => 0 ≤ s.1 ∧ s.1 ≤ (l.length : Int) ∧ s.2.length ≤ s.1.toNat) (fun s => ((l.length : Int) - s.1).toNat) (fun o : List Pick => o.length ≤ 1000) (o1, o3)) := by
      unfold ez
      simp only
      refine Ok.bind (Ok.get i0 hlt) (fun x _ => ?_)
      refine Ok.bind (Ok.app (by simp only [List.length_cons, List.length_nil]; omega)) (fun y hy => ?_)
      have hyl : y.length = o3.length + 1 := by rw [hy]; simp
      rw [w64 (n := o2 + 1) (by omega) (by omega), w64 (n := o1 + 1) (by omega) (by omega)]
      refine Ok.bind (Ok.sub (by omega) (by omega) (by omega)) (fun _ _ => ?_)
      refine Ok.bind (Ok.sub (by omega) (by omega) (by omega)) (fun _ _ => ?_)
      refine Ok.bind (Ok.view (by omega) (by omega)) (fun _ _ => ?_)
      refine Ok.bind (Ok.part (by omega) (by omega)) (fun z _ => ?_)
      refine Ok.bind (Ok.get i0 hlt) (fun x2 _ => ?_)
      have hc : (copyL y (0 + (o2 + 1).toNat) (0 + ((y.length : Int)).toNat - (0 + (o2 + 1).toNat)) z).length = y.length := copyL_len (by omega)
      refine Ok.bind (Ok.isin (by omega) (by rw [hc]; omega)) (fun _ _ => ?_)
      refine Ok.bind (Ok.set (by omega) (by rw [hc]; omega)) (fun w hw => ?_)
      have hwl : w.length = y.length := by rw [hw, List.length_set, hc]
      exact Ok.nx ⟨by simp only; omega, by simp only; omega, by simp only; omega⟩ (by simp only; omega)
    simp only
    refine Ok.iteD (fun hpos => ?_) (fun _ => k31)
    rw [w64 (n := o2 - 1) (by omega) (by omega)]
    refine Ok.bind (Ok.isin (by omega) (by omega)) (fun _ _ => ?_)
    refine Ok.bind (Ok.get (by omega) (by omega)) (fun x _ => ?_)
    refine Ok.bind (Ok.get i0 hlt) (fun y _ => ?_)
    refine Ok.iteB (fun _ => ?_) (fun _ => k31)
    rw [w64 (by omega) (by omega)]
    exact Ok.nx ⟨by simp only; omega, by simp only; omega, by simp only; omega⟩ (by simp only; omega)
theorem samePicks_ok (a b : List Pick) (hl : a.length ≤ 1000) : Ok (cY a b) (fun _ => True) := by
  unfold cY
  refine Ok.iteNe (fun _ => Ok.ret trivial) (fun he => ?_)
  refine Ok.bind (P := fun _ => True) (Ok.upto (a.length : Int) (by omega) (fun _ => True) trivial (fun i h0 h1 _ => ?_)) (fun o _ => by cases o <;> exact Ok.ret trivial)
  unfold eb
  refine Ok.iteD (fun hlt => ?_) (fun _ => Ok.st trivial)
  refine Ok.bind (Ok.get h0 hlt) (fun x _ => ?_)
  refine Ok.bind (Ok.get h0 (by omega)) (fun y _ => ?_)
  refine Ok.iteN (fun _ => Ok.st trivial) (fun _ => ?_)
  rw [w64 (by omega) (by omega)]
  exact Ok.nx ⟨⟨by omega, by omega⟩, trivial⟩ (by omega)
theorem common_l11_ok (a b : List Pick) (hb : b.length ≤ 1000) (s : Int) (h0 : 0 ≤ s) (h1 : s < a.length) : Ok (loopO (fQ b a s) (0 : Int)) (fun o => ∀ y, o = .inl y → y = s) := by
  refine Ok.upto (b.length : Int) (by omega) (fun _ => True) trivial (fun i g0 g1 _ => ?_)
  unfold fQ
  refine Ok.iteD (fun hlt => ?_) (fun _ => Ok.st (fun y e => by cases e; rfl))
  refine Ok.bind (Ok.get h0 h1) (fun x _ => ?_)
  refine Ok.bind (Ok.get g0 hlt) (fun y _ => ?_)
  refine Ok.iteB (fun _ => Ok.st (fun y e => by cases e)) (fun _ => ?_)
  rw [w64 (by omega) (by omega)]
  exact Ok.nx ⟨⟨by omega, by omega⟩, trivial⟩ (by omega)
theorem common_ok (a b : List Pick) (ha : a.length ≤ 1000) (hb : b.length ≤ 1000) : Ok (fB a b) (fun _ => True) := by
  unfold fB
  refine Ok.bind (P := fun _ => True) (Ok.upto (a.length : Int) (by omega) (fun _ => True) trivial (fun i h0 h1 _ => ?_)) (fun o _ => by cases o <;> exact Ok.ret trivial)
  unfold iz
  refine Ok.iteD (fun hlt => ?_) (fun _ => Ok.st trivial)
  refine Ok.bind (common_l11_ok a b hb i h0 hlt) (fun o ho => ?_)
  cases o with
  | inl y =>
    obtain rfl := ho y rfl
    simp only
    rw [w64 (by omega) (by omega)]
    exact Ok.nx ⟨⟨by omega, by omega⟩, trivial⟩ (by omega)
  | inr y => exact Ok.st trivial
theorem common36_eq (a b : List Pick) : iQ a b = fB a b := rfl
theorem evalid_ok (l : List Ev) (hl : l.length ≤ 1000) (h : ∀ e ∈ l, e.aa.aJ.length ≤ 1000) : Ok (ia l) (fun _ => True) := by
  unfold ia
  refine Ok.bind (P := fun _ => True) (Ok.upto (l.length : Int) (by omega) (fun _ => True) trivial (fun i h0 h1 _ => ?_)) (fun o _ => by cases o <;> exact Ok.ret trivial)
  unfold i7
  refine Ok.iteD (fun hlt => ?_) (fun _ => Ok.st trivial)
  refine Ok.bind (Ok.get h0 hlt) (fun x hx => ?_)
  have hxl := h x hx.1
  have k16 : Ok (ej i l x) (Ok.S (fun i => (0 ≤ i ∧ i ≤ (l.length : Int)) ∧ True) (fun i => ((l.length : Int) - i).toNat) (fun _ : Unit ⊕ Bool => True) i) := by
    unfold ej
    refine Ok.bind (P := fun o : Int ⊕ Bool => ∀ y, o = .inl y → y = i) (Ok.upto i h0 (fun _ => True) trivial (fun k g0 g1 _ => ?_)) (fun o ho => ?_)
    · unfold i6
      refine Ok.iteD (fun hk => ?_) (fun _ => Ok.st (fun y e => by cases e; rfl))
      refine Ok.bind (Ok.get g0 (by omega)) (fun y hy => ?_)
      refine Ok.bind (common_ok _ _ hxl (h y hy.1)) (fun z _ => ?_)
      refine Ok.iteB (fun _ => Ok.st (fun y e => by cases e)) (fun _ => ?_)
      rw [w64 (by omega) (by omega)]
      exact Ok.nx ⟨⟨by omega, by omega⟩, trivial⟩ (by omega)
    · cases o with
      | inl y =>
        obtain rfl := ho y rfl
        simp only
        rw [w64 (by omega) (by omega)]
        exact Ok.nx ⟨⟨by omega, by omega⟩, trivial⟩ (by omega)
      | inr y => exact Ok.st trivial
  refine Ok.iteE (fun _ => Ok.st trivial) (fun hne => ?_)
  refine Ok.bind (Ok.get h0 hlt) (fun x2 _ => ?_)
  refine Ok.bind (name_ok _ (by omega) hxl) (fun x3 _ => ?_)
  refine Ok.iteN (fun _ => Ok.st trivial) (fun _ => ?_)
  refine Ok.bind (sort_ok _ hxl) (fun x4 _ => ?_)
  refine Ok.bind (samePicks_ok _ _ hxl) (fun x5 _ => Ok.iteN (fun _ => Ok.st trivial) (fun _ => ?_))
  refine Ok.iteD (fun hpos => ?_) (fun _ => k16)
  rw [w64 (by omega) (by omega)]
  refine Ok.bind (Ok.get (by omega) (by omega)) (fun x6 _ => ?_)
  refine Ok.bind (Ok.get h0 hlt) (fun x7 _ => ?_)
  refine Ok.bind (rcmp34_ok _ _) (fun x8 _ => ?_)
  exact Ok.iteD (fun _ => Ok.st trivial) (fun _ => k16)
theorem errors_ok (p : Policy) (l : List Alert) (n : Int) (es : List Ev) (now : Int) (hl : l.length ≤ 1000) (hel : es.length ≤ 1000) (h : ∀ e ∈ es, e.aa.aJ.length ≤ 1000) : Ok (gE p l n es now) (fun r => r = 0 → p.bv.length ≤ 8) := by
  have k14 : p.bv.length ≤ 8 → Ok (dU now l) (fun r => r = 0 → p.bv.length ≤ 8) := by
    intro h8
    unfold dU
    refine Ok.iteD (fun _ => Ok.ret (fun _ => h8)) (fun _ => Ok.iteD (fun _ => Ok.ret (fun _ => h8)) (fun _ => ?_))
    refine Ok.bind (P := fun _ => True) (Ok.upto (l.length : Int) (by omega) (fun _ => True) trivial (fun i h0 h1 _ => ?_)) (fun o _ => by cases o <;> exact Ok.ret (fun _ => h8))
    unfold iA
    refine Ok.iteD (fun hlt => ?_) (fun _ => Ok.st trivial)
    refine Ok.bind (Ok.get h0 hlt) (fun x _ => Ok.iteD (fun _ => Ok.st trivial) (fun _ => ?_))
    rw [w64 (by omega) (by omega)]
    exact Ok.nx ⟨⟨by omega, by omega⟩, trivial⟩ (by omega)
  unfold gE
  refine Ok.bind (jD p) (fun x hx => Ok.iteNe (fun _ => Ok.ret (fun e => by cases e)) (fun h0 => ?_))
  have h8 := hx h0
  refine Ok.bind (avalid_ok l hl) (fun x _ => Ok.iteN (fun _ => Ok.ret (fun _ => h8)) (fun _ => ?_))
  refine Ok.bind (evalid_ok es hel h) (fun x _ => Ok.iteN (fun _ => Ok.ret (fun _ => h8)) (fun _ => ?_))
  refine Ok.iteD (fun _ => Ok.ret (fun _ => h8)) (fun _ => Ok.iteD (fun hpos => ?_) (fun _ => k14 h8))
  rw [w64 (by omega) (by omega)]
  refine Ok.bind (Ok.get (by omega) (by omega)) (fun x _ => ?_)
  exact Ok.iteD (fun _ => Ok.ret (fun _ => h8)) (fun _ => k14 h8)
end Go.Dw.Fh
