
import Derived.Test.YtpeijlelfekcoaaGreatDoorDwOk
import Derived.Test.YtpeijlelfekcoaaGreatDoorDwAtoi
import Derived.Test.YtpeijlelfekcoaaGreatDoorDwItoa
import Derived.Test.YtpeijlelfekcoaaGreatDoorDwSplit
import Derived.Lib.AtoiAllCases





namespace Go.Dw
open Go.Lib

theorem digit_toNat {u : Nat} (h : u < 10) : (UInt8.ofNat (48 + u)).toNat = 48 + u := by
 rw [UInt8.toNat_ofNat']
 omega
theorem decDigits_small {u : Nat} (h : u < 10) : decDigits u = [UInt8.ofNat (48 + u)] := by rw [decDigits, dif_pos h]
theorem decDigits_big {u : Nat} (h : ¬ u < 10) : decDigits u = decDigits (u / 10) ++ [UInt8.ofNat (48 + u % 10)] := by rw [decDigits, dif_neg h]
theorem decDigits_chars : ∀ (u : Nat), ∀ c ∈ decDigits u, 48 ≤ c.toNat ∧ c.toNat ≤ 57 := by
 intro u
 induction u using Nat.strongRecOn with
 | _ u ih =>
  by_cases h : u < 10
  ·rw [decDigits_small h]
   intro c hc
   obtain rfl := List.mem_singleton.1 hc
   rw [digit_toNat h]; omega
  ·rw [decDigits_big h]
   intro c hc
   rcases List.mem_append.1 hc with hc | hc
   ·exact ih _ (by omega) c hc
   ·obtain rfl := List.mem_singleton.1 hc
    rw [digit_toNat (by omega)]; omega
theorem decDigits_ne (u : Nat) : decDigits u ≠ [] := by
 by_cases h : u < 10
 ·rw [decDigits_small h]; simp
 ·rw [decDigits_big h]; simp
theorem parse_digit {acc d : Nat} (hd : d < 10) (h : acc * 10 + d < 18446744073709551616) (r : List UInt8) : parseUint10 acc (UInt8.ofNat (48 + d) :: r) = parseUint10 (acc * 10 + d) r := by
 rw [parseUint10, digit_toNat hd, if_pos (by omega), if_neg (by omega), if_neg (by omega)]
 rw [show 48 + d - 48 = d by omega]
theorem parse_dec : ∀ (u : Nat) (r : List UInt8), u < 18446744073709551616 → parseUint10 0 (decDigits u ++ r) = parseUint10 u r := by
 intro u
 induction u using Nat.strongRecOn with
 | _ u ih =>
  intro r hu
  by_cases h : u < 10
  ·rw [decDigits_small h]
   show parseUint10 0 (UInt8.ofNat (48 + u) :: r) = _
   rw [parse_digit h (by omega)]
   rw [show 0 * 10 + u = u by omega]
  ·rw [decDigits_big h, List.append_assoc, ih (u / 10) (by omega) _ (by omega)]
   show parseUint10 (u / 10) (UInt8.ofNat (48 + u % 10) :: r) = _
   rw [parse_digit (by omega) (by omega)]
   rw [show u / 10 * 10 + u % 10 = u by omega]
theorem parseMag_dec (u : Nat) (hu : u < 18446744073709551616) : parseMag (decDigits u) = .ok u := by
 unfold parseMag
 rw [if_neg (decDigits_ne u)]
 have := parse_dec u [] hu
 rw [List.append_nil] at this
 rw [this]; rfl
theorem atoi_itoa {n : Int} (h0 : -9223372036854775808 ≤ n) (h1 : n ≤ 9223372036854775807) : atoiAll (itoa n) = .ok n := by
 unfold itoa
 by_cases h : n < 0
 ·rw [if_pos h, atoiAll_minus, parseMag_dec _ (by omega)]
  simp only [signed]
  rw [if_neg (by omega)]
  congr 1; omega
 ·rw [if_neg h]
  obtain ⟨c, r, hc⟩ := List.exists_cons_of_ne_nil (decDigits_ne n.toNat)
  have hd := decDigits_chars n.toNat c (by rw [hc]; simp)
  rw [hc, atoiAll_plain c r (by omega) (by omega), ← hc, parseMag_dec _ (by omega)]
  simp only [signless]
  rw [if_neg (by omega)]
  congr 1; omega
theorem itoa_chars (n : Int) : ∀ c ∈ itoa n, c = 45 ∨ 48 ≤ c.toNat ∧ c.toNat ≤ 57 := by
 unfold itoa
 intro c hc
 split at hc
 ·rcases List.mem_cons.1 hc with rfl | hc
  ·exact .inl rfl
  ·exact .inr (decDigits_chars _ c hc)
 ·exact .inr (decDigits_chars _ c hc)
theorem itoa_no {n : Int} {c : UInt8} (hc : c.toNat < 45 ∨ c.toNat = 46 ∨ c.toNat = 47 ∨ 57 < c.toNat) : c ∉ itoa n := by
 intro h
 rcases itoa_chars n c h with rfl | h
 ·have : (45 : UInt8).toNat = 45 := rfl
  omega
 ·omega
theorem itoa_ne (n : Int) : itoa n ≠ [] := by
 unfold itoa
 split
 ·simp
 ·exact decDigits_ne _
theorem itoaO_at {n : Int} (h0 : -9223372036854775808 ≤ n) (h1 : n ≤ 9223372036854775807) : itoaO n = some (itoa n) := by unfold itoaO; rw [if_pos ⟨h0, h1⟩]
theorem decDigits_len : ∀ (k u : Nat), u < 10 ^ k → (decDigits u).length ≤ k + 1 := by
 intro k
 induction k with
 | zero => intro u hu; rw [decDigits_small (by simp at hu; omega)]; simp
 | succ k ih =>
  intro u hu
  by_cases h : u < 10
  ·rw [decDigits_small h]; simp
  ·rw [decDigits_big h, List.length_append]
   have := ih (u / 10) (by rw [Nat.pow_succ] at hu; omega)
   simp only [List.length_cons, List.length_nil]; omega
theorem itoa_len {n : Int} (h0 : -9223372036854775808 ≤ n) (h1 : n ≤ 9223372036854775807) : (itoa n).length ≤ 21 := by
 unfold itoa
 split
 ·have := decDigits_len 19 n.natAbs (by omega)
  simp only [List.length_cons]; omega
 ·have := decDigits_len 19 n.toNat (by omega)
  omega
theorem atoiO_ok {s : List UInt8} (hs : s.length ≤ 140737488355328) : Ok (atoiO s) (fun r => -9223372036854775808 ≤ r.1 ∧ r.1 ≤ 9223372036854775807) := by
 unfold atoiO
 rw [if_pos hs]
 cases h : atoiAll s with
 | ok v => exact Ok.ret (atoiAll_bounds h)
 | range => exact Ok.ret (atoiSat_bounds s)
 | _ => exact Ok.ret (by simp)
theorem atoiO_itoa {n : Int} (h0 : -9223372036854775808 ≤ n) (h1 : n ≤ 9223372036854775807) : atoiO (itoa n) = some (n, true) := by
 unfold atoiO
 rw [if_pos (by have := itoa_len h0 h1; omega), atoi_itoa h0 h1]

theorem splitL_one {c : UInt8} : ∀ {w : List UInt8}, c ∉ w → splitL c w = [w]
 | [], _ => rfl
 | x :: r, h => by
  rw [splitL, if_neg (fun e => h (by simp [e])), splitL_one (fun e => h (List.mem_cons_of_mem _ e))]
theorem splitL_app {c : UInt8} : ∀ {w : List UInt8} (r : List UInt8), c ∉ w → splitL c (w ++ c :: r) = w :: splitL c r
 | [], r, _ => by simp [splitL]
 | x :: w, r, h => by
  show splitL c (x :: (w ++ c :: r)) = _
  rw [splitL, if_neg (fun e => h (by simp [e])), splitL_app r (fun e => h (List.mem_cons_of_mem _ e))]
theorem join_one (w s : List UInt8) : Lib.join [w] s = w := by simp [Lib.join, List.intercalate, List.intersperse]
theorem join_cons (w v s : List UInt8) (l : List (List UInt8)) : Lib.join (w :: v :: l) s = w ++ s ++ Lib.join (v :: l) s := by simp [Lib.join, List.intercalate, List.intersperse]
theorem split_join {c : UInt8} : ∀ {l : List (List UInt8)}, l ≠ [] → (∀ w ∈ l, c ∉ w) → splitL c (Lib.join l [c]) = l
 | [], h, _ => (h rfl).elim
 | [w], _, h => by rw [join_one]; exact splitL_one (h w (by simp))
 | w :: v :: l, _, h => by
  rw [join_cons, List.append_assoc]
  show splitL c (w ++ c :: Lib.join (v :: l) [c]) = _
  rw [splitL_app _ (h w (by simp)), split_join (by simp) (fun x hx => h x (List.mem_cons_of_mem _ hx))]
theorem splitL_len' (c : UInt8) : ∀ s, (splitL c s).length ≤ s.length + 1 ∧ ∀ p ∈ splitL c s, p.length ≤ s.length
 | [] => by simp [splitL]
 | x :: r => by
  obtain ⟨h1, h2⟩ := splitL_len' c r
  unfold splitL
  split
  ·refine ⟨by simp only [List.length_cons]; omega, fun p hp => ?_⟩
   rcases List.mem_cons.1 hp with rfl | hp
   ·simp
   ·have := h2 p hp; simp only [List.length_cons]; omega
  ·split
   ·rename_i q qs hq
    rw [hq] at h1 h2
    refine ⟨by simp only [List.length_cons] at *; omega, fun p hp => ?_⟩
    rcases List.mem_cons.1 hp with rfl | hp
    ·have := h2 q (by simp); simp only [List.length_cons]; omega
    ·have := h2 p (by simp [hp]); simp only [List.length_cons]; omega
   ·refine ⟨by simp, fun p hp => ?_⟩
    obtain rfl := List.mem_singleton.1 hp
    simp
theorem splitO_ok {s : List UInt8} {c : UInt8} (hs : s.length ≤ 4000000000) : splitO s [c] = some (splitL c s) := by
 show (if s.length < 4294967281 then some (splitL c s) else none) = _
 rw [if_pos (by omega)]
theorem join_len {s : List UInt8} {k : Nat} : ∀ {l : List (List UInt8)}, (∀ w ∈ l, w.length ≤ k) → (Lib.join l s).length ≤ l.length * (k + s.length)
 | [], _ => by simp [Lib.join, List.intercalate, List.intersperse]
 | [w], h => by
  rw [join_one]
  have := h w (by simp)
  simp only [List.length_cons, List.length_nil]; omega
 | w :: v :: l, h => by
  rw [join_cons, List.length_append, List.length_append]
  have h1 := h w (by simp)
  have h2 := join_len (s := s) (l := v :: l) (fun x hx => h x (List.mem_cons_of_mem _ hx))
  rw [List.length_cons, Nat.add_mul]
  omega
theorem joinO_ok {l : List (List UInt8)} {s : List UInt8} (h0 : l ≠ []) (hw : ∀ w ∈ l, w.length ≤ 1000000) (hl : l.length ≤ 1000000) (hs : s.length ≤ 1000000) : joinO l s = some (Lib.join l s) := by
 unfold joinO
 have h1 := join_len (s := s) hw
 have h2 : l.length * (1000000 + s.length) ≤ 1000000 * 2000000 := Nat.mul_le_mul hl (by omega)
 rw [if_pos ⟨h0, by omega, by omega⟩]
end Go.Dw
