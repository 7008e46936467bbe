
import Derived.Test.YtjecbkklfphblaaGreatSeCo
import Derived.Test.YtjecbkklfphblaaGreatDwOk


set_option maxRecDepth 100000
set_option maxHeartbeats 4000000
namespace Go.Dw.Se
open Go.Dw Go.Proofs

abbrev Ses := ag
abbrev Tr := ac
abbrev Arv := aj
abbrev Sp := aa

theorem sane_at : cq = some true := mb _ (by kernel_rfl)

theorem inG {a b c : Int} (h : b ≤ a ∧ a ≤ c) : (if (decide (a ≥ b)) = true then (some (decide (a ≤ c))) else (some false)) = some true := by
  rw [if_pos (decide_eq_true h.1), decide_eq_true h.2]
theorem lG {a b c : Int} (h : b ≤ a ∧ a ≤ c) : aX a b c = some true := inG h
theorem din_t {a b c : Int} (h : b ≤ a ∧ a ≤ c) : eO a b c = some true := inG h
theorem lin_t {a b c : Int} (h : b ≤ a ∧ a ≤ c) : ib a b c = some true := inG h
theorem il {α : Type} {n : Nat} {l : List α} (h : l.length * n ≤ 140737488355328) : cloneO n l = some l := by
  unfold cloneO; rw [if_pos h]

theorem and255 (x : Int) : 0 ≤ andI .i64 x 255 ∧ andI .i64 x 255 < 256 := by
  unfold andI
  have h : (BitVec.ofInt IntKind.i64.bits x &&& BitVec.ofInt IntKind.i64.bits 255).toNat ≤ 255 := by
    rw [BitVec.toNat_and]
    exact Nat.le_trans Nat.and_le_right (by decide)
  rw [w64 (by omega) (by omega)]
  omega
theorem mX : tabL.length = 256 := by kernel_rfl
theorem update_ok (s : List UInt8) (hs : s.length ≤ 1000000) : Ok (et 0 s) (fun _ => True) := by
  unfold et
  rw [if_neg (by decide), if_neg (by decide), kJ, Option.bind_some]
  have h1 : lenO 256 (List.replicate 256 (0 : Int)) = some (List.replicate 256 (0 : Int)) := by unfold lenO; rw [if_pos (by simp)]
  have h2 : lenO 256 tabL = some tabL := by unfold lenO; rw [if_pos mX]
  rw [h1, Option.bind_some, h2, Option.bind_some]
  refine Ok.bind (P := fun _ => True) ?_ (fun _ _ => Ok.ret trivial)
  refine Ok.loop (fun st => 0 ≤ st.2 ∧ st.2 ≤ s.length) (fun st => ((s.length : Int) - st.2).toNat) ?_ ⟨Int.le_refl _, by simp⟩
  rintro ⟨r, i⟩ ⟨h0, h3⟩
  simp only at h0 h3
  unfold de
  dsimp only
  refine Ok.iteD (fun hlt => ?_) (fun _ => Ok.st trivial)
  refine Ok.bind (Ok.byte (by omega) (by omega)) (fun x _ => ?_)
  have := and255 (xorI .i64 r (IntKind.wrap .i64 x))
  have h4 : inA 256 (andI .i64 (xorI .i64 r (IntKind.wrap .i64 x)) 255) = some () := by unfold inA; rw [if_pos (by omega)]
  rw [h4, Option.bind_some]
  refine Ok.bind (Ok.get (by omega) (by rw [mX]; omega)) (fun y _ => ?_)
  rw [w64 (by omega) (by omega)]
  exact Ok.nx ⟨by simp only; omega, by simp only; omega⟩ (by simp only; omega)
theorem append_ok (s : List UInt8) (hs : s.length ≤ 100000) : Ok (bD s) (fun r => ∃ t, t.length = 4 ∧ r = s ++ t) := by
  unfold bD lM
  refine Ok.bind (P := fun _ => True) (Ok.bind (update_ok s (by omega)) (fun x _ => Ok.ret trivial)) (fun x _ => ?_)
  refine Ok.bind (Ok.cat (by simp [strU]; omega)) (fun y hy => ?_)
  exact Ok.ret ⟨_, by simp [strU], hy⟩
noncomputable def sumT (s : List UInt8) : List UInt8 := ((bD s).getD []).drop s.length
theorem eH {s : List UInt8} (hs : s.length ≤ 100000) : bD s = some (s ++ sumT s) := by
  obtain ⟨r, h, t, ht, rfl⟩ := append_ok s hs
  unfold sumT
  rw [h]; simp
theorem gD {s : List UInt8} (hs : s.length ≤ 100000) : (sumT s).length = 4 := by
  obtain ⟨r, h, t, ht, rfl⟩ := append_ok s hs
  unfold sumT
  rw [h]; simpa using ht
def b4 (a : Nat) : List UInt8 := [0, 0, 0, UInt8.ofNat a]
theorem all2 {n m : Nat} {p : Nat → Nat → Bool} (h : ((List.range n).all fun a => (List.range m).all fun b => p a b) = true) {a b : Nat} (ha : a < n) (hb : b < m) : p a b = true :=
  List.all_eq_true.1 (List.all_eq_true.1 h a (List.mem_range.2 ha)) b (List.mem_range.2 hb)
theorem all1 {n : Nat} {p : Nat → Bool} (h : ((List.range n).all p) = true) {a : Nat} (ha : a < n) : p a = true := List.all_eq_true.1 h a (List.mem_range.2 ha)
theorem numsC : ((List.range 26).all fun a => (List.range 26).all fun b => bH [68] [(a : Int), (b : Int)] == some (68 :: (b4 a ++ b4 b)) && bH [83] [(a : Int), (b : Int)] == some (83 :: (b4 a ++ b4 b))) = true := by kernel_rfl
theorem numsD {a b : Nat} (ha : a < 26) (hb : b < 26) : bf [68] [(a : Int), (b : Int)] = some (68 :: (b4 a ++ b4 b)) :=
  cK _ _ _ (eq_of_beq (Bool.and_eq_true_iff.1 (all2 numsC ha hb)).1)
def okS (d : List UInt8) : Prop := d = [97] ∨ d = [98]
theorem okS.len {d : List UInt8} (h : okS d) : d.length = 1 := by rcases h with rfl | rfl <;> rfl
noncomputable def mK (a b : Nat) (d : List UInt8) : List UInt8 := (68 :: (b4 a ++ b4 b ++ d)) ++ sumT (68 :: (b4 a ++ b4 b ++ d))
noncomputable def mL (a b : Nat) : List UInt8 := (83 :: (b4 a ++ b4 b ++ [])) ++ sumT (83 :: (b4 a ++ b4 b ++ []))
theorem fZ (a b : Nat) (d : List UInt8) : (b4 a ++ b4 b ++ d).length = d.length + 8 := by simp [b4]
theorem msgD_len {a b : Nat} {d : List UInt8} (hd : okS d) : (mK a b d).length = 14 := by
  have := gD (s := 68 :: (b4 a ++ b4 b ++ d)) (by rw [List.length_cons, fZ, hd.len]; omega)
  unfold mK
  rw [List.length_append, this, List.length_cons, fZ, hd.len]
theorem data_at {a b : Nat} {d : List UInt8} (ha : a < 26) (hb : b < 26) (hd : okS d) : bZ a b d = some (mK a b d, 0) := by
  have hl := msgD_len (a := a) (b := b) hd
  unfold bZ
  have hc : catO (68 :: (b4 a ++ b4 b)) d = some (68 :: (b4 a ++ b4 b ++ d)) := by
    unfold catO; rw [if_pos (by simp [b4, hd.len])]; simp
  rw [lG (by omega), Option.bind_some, if_neg (by decide), lG (by omega), Option.bind_some, if_neg (by decide), numsD ha hb, Option.bind_some, hc, Option.bind_some, eH (by rw [List.length_cons, fZ, hd.len]; omega), Option.bind_some]
  change (if decide (((mK a b d).length : Int) > 4096) = true then _ else _) = _
  rw [hl, if_neg (by decide)]; rfl
def eK (r : Nat) : List Sp := if r = 0 then [] else [⟨0, r⟩]
def rcv (r : Nat) : ai := ⟨eK r, []⟩
theorem rcvC : ((List.range 26).all fun r => decide (em (rcv r) r = some (rcv (r + 1), true, 0)) && decide (bq (rcv r) = some true) && decide (cG (rcv r) r = some ([], 0)) &&
    (List.range (r + 1)).all fun k => decide (dU (rcv r) k = some (rcv r, 0)) && decide (dL (rcv r) k 16 = some ([], 0)) && (decide (k = r) || decide (ju (eK r) k = some true))) = true := by kernel_rfl
theorem kQ {r : Nat} (hr : r < 26) : dT (rcv r) r = some (rcv (r + 1), true, 0) ∧ bF (rcv r) = some true ∧ cB (rcv r) r = some ([], 0) ∧
    ∀ k : Nat, k ≤ r → d8 (rcv r) k = some (rcv r, 0) ∧ dj (rcv r) k 16 = some ([], 0) ∧ (k < r → kE (eK r) k = some true) := by
  have h := all1 rcvC hr
  simp only [Bool.and_eq_true, decide_eq_true_eq, List.all_eq_true, Bool.or_eq_true] at h
  obtain ⟨⟨⟨h1, h2⟩, h3⟩, h4⟩ := h
  refine ⟨jn _ _ _ h1, cj _ _ h2, eX _ _ _ h3, fun k hk => ?_⟩
  obtain ⟨⟨h5, h6⟩, h7⟩ := h4 k (List.mem_range.2 (by omega))
  refine ⟨gP _ _ _ h5, iQ _ _ _ _ h6, fun hlt => ?_⟩
  rcases h7 with h7 | h7
  · omega
  · exact lH _ _ _ h7
end Go.Dw.Se


set_option maxRecDepth 100000
set_option maxHeartbeats 4000000
namespace Go.Dw.Se
open Go.Dw Go.Proofs

theorem jE {σ ω : Type} {b b' : σ → Option (Step1 σ ω)} (I : σ → Prop) (h : ∀ s, I s → b s = b' s) (hn : ∀ s s', I s → b s = some (.next s') → I s') {s : σ} (h0 : I s) : loopO b s = loopO b' s := by
  have key : ∀ n s, I s → loopN b n s = loopN b' n s := by
    intro n
    induction n with
    | zero => intros; rfl
    | succ n ih =>
      intro s hs
      simp only [loopN, ← h s hs]
      rcases hb : b s with _ | (s' | o)
      · rfl
      · exact ih s' (hn s s' hs hb)
      · rfl
  rcases hb : loopO b s with _ | o
  · rcases hb' : loopO b' s with _ | o
    · rfl
    · obtain ⟨n, e⟩ := loopO_some hb'
      rw [← key n s h0] at e
      rw [loopO_of e] at hb; cases hb
  · obtain ⟨n, e⟩ := loopO_some hb
    rw [key n s h0] at e
    rw [loopO_of e]

theorem lq {a : Nat} (h : a < 4294967296) : (BitVec.ofInt IntKind.i64.bits (a : Int)).toNat = a := by
  show (BitVec.ofInt 64 (a : Int)).toNat = a
  rw [BitVec.toNat_ofInt]
  omega
theorem xor_nat {a b : Nat} (ha : a < 4294967296) (hb : b < 4294967296) : xorI .i64 a b = ((a ^^^ b : Nat) : Int) := by
  have : a ^^^ b < 2 ^ 32 := Nat.xor_lt_two_pow ha hb
  unfold xorI
  rw [BitVec.toNat_xor, lq ha, lq hb, w64 (by omega) (by omega)]
theorem or_nat {a b : Nat} (ha : a < 4294967296) (hb : b < 4294967296) : orI .i64 a b = ((a ||| b : Nat) : Int) ∧ a ||| b < 4294967296 := by
  have : a ||| b < 2 ^ 32 := Nat.or_lt_two_pow ha hb
  unfold orI
  rw [BitVec.toNat_or, lq ha, lq hb, w64 (by omega) (by omega)]
  exact ⟨rfl, this⟩
theorem and255_nat {a : Nat} (ha : a < 4294967296) : andI .i64 a 255 = ((a % 256 : Nat) : Int) := by
  unfold andI
  rw [BitVec.toNat_and, lq ha, show (255 : Int) = ((255 : Nat) : Int) from rfl, lq (by decide), Nat.and_two_pow_sub_one_eq_mod a 8, w64 (by omega) (by omega)]
theorem and1_nat {a : Nat} (ha : a < 4294967296) : andI .i64 a 1 = ((a % 2 : Nat) : Int) := by
  unfold andI
  rw [BitVec.toNat_and, lq ha, show (1 : Int) = ((1 : Nat) : Int) from rfl, lq (by decide), Nat.and_two_pow_sub_one_eq_mod a 1, w64 (by omega) (by omega)]
theorem shr8_nat (a : Nat) : shrI .i64 a 8 = ((a / 256 : Nat) : Int) := by
  show ((a : Int)).fdiv 256 = _
  rw [Int.fdiv_eq_ediv_of_nonneg _ (by decide)]; omega
theorem shr1_nat (a : Nat) : shrI .i64 a 1 = ((a / 2 : Nat) : Int) := by
  show ((a : Int)).fdiv 2 = _
  rw [Int.fdiv_eq_ediv_of_nonneg _ (by decide)]; omega
theorem shl8_nat {a : Nat} (ha : a < 16777216) : shlI .i64 a 8 = ((a * 256 : Nat) : Int) := by
  show IntKind.wrap .i64 ((a : Int) * 256) = _
  rw [w64 (by omega) (by omega)]; omega

def stepN (x : Nat) : Nat := if x % 2 = 1 then (x / 2) ^^^ 3988292384 else x / 2
def jx : Nat → Nat → Nat
  | 0, x => x
  | k + 1, x => stepN (jx k x)
theorem stepN_lin (a b : Nat) : stepN (a ^^^ b) = stepN a ^^^ stepN b := by
  unfold stepN
  rw [Nat.xor_div_two]
  have h := @Nat.xor_mod_two_eq_one a b
  by_cases ha : a % 2 = 1 <;> by_cases hb : b % 2 = 1
  · rw [if_neg (by rw [h]; simp [ha, hb]), if_pos ha, if_pos hb]
    rw [show (a / 2 ^^^ 3988292384) ^^^ (b / 2 ^^^ 3988292384) = (a / 2 ^^^ b / 2) ^^^ (3988292384 ^^^ 3988292384) by ac_rfl, Nat.xor_self, Nat.xor_zero]
  · rw [if_pos (by rw [h]; simp [ha, hb]), if_pos ha, if_neg hb]; ac_rfl
  · rw [if_pos (by rw [h]; simp [ha, hb]), if_neg ha, if_pos hb]; ac_rfl
  · rw [if_neg (by rw [h]; simp [ha, hb]), if_neg ha, if_neg hb]
theorem stepK_lin : ∀ k a b, jx k (a ^^^ b) = jx k a ^^^ jx k b
  | 0, _, _ => rfl
  | k + 1, a, b => by rw [jx, stepK_lin k, stepN_lin]; rfl
theorem stepN_even (z : Nat) : stepN (2 * z) = z := by unfold stepN; rw [if_neg (by omega)]; omega
theorem stepK_hi (z : Nat) : jx 8 (z * 256) = z := by
  rw [show z * 256 = 2 * (2 * (2 * (2 * (2 * (2 * (2 * (2 * z))))))) by omega]
  simp only [jx, stepN_even]
theorem split8 (y : Nat) : y = (y / 256 * 256) ^^^ (y % 256) := by
  apply Nat.eq_of_testBit_eq
  intro i
  rw [show y / 256 * 256 = (y >>> 8) <<< 8 by rw [Nat.shiftLeft_eq, Nat.shiftRight_eq_div_pow], show y % 256 = y % 2 ^ 8 from rfl, Nat.testBit_xor, Nat.testBit_shiftLeft, Nat.testBit_shiftRight, Nat.testBit_mod_two_pow]
  by_cases h : 8 ≤ i
  · rw [show 8 + (i - 8) = i by omega, decide_eq_true h, decide_eq_false (show ¬ i < 8 by omega)]; simp
  · rw [decide_eq_false h, decide_eq_true (show i < 8 by omega)]; simp
theorem stepN_lt {x : Nat} (h : x < 4294967296) : stepN x < 4294967296 := by
  unfold stepN
  split
  · have := Nat.xor_lt_two_pow (n := 32) (x := x / 2) (y := 3988292384) (by omega) (by decide)
    exact this
  · omega
theorem mW : ∀ k {x : Nat}, x < 4294967296 → jx k x < 4294967296
  | 0, _, h => h
  | k + 1, _, h => stepN_lt (mW k h)
theorem tabC : ((List.range 256).all fun b => tabL.getD b 0 == ((jx 8 b : Nat) : Int)) = true := by kernel_rfl
theorem tab_at {b : Nat} (hb : b < 256) : getO tabL (b : Int) = some ((jx 8 b : Nat) : Int) := by
  have h := eq_of_beq (all1 tabC hb)
  rw [getO_at (i := b) rfl (by rw [mX]; exact hb)]
  rw [List.getD_eq_getElem?_getD, List.getElem?_eq_getElem (by rw [mX]; exact hb)] at h
  exact congrArg some h
def byteN (x : Nat) (b : UInt8) : Nat := jx 8 (x ^^^ b.toNat)
theorem byteN_tab {x : Nat} (b : UInt8) : byteN x b = (x / 256) ^^^ jx 8 ((x ^^^ b.toNat) % 256) := by
  unfold byteN
  conv => lhs; rw [split8 (x ^^^ b.toNat), stepK_lin, stepK_hi]
  have : (x ^^^ b.toNat) / 256 = x / 256 := by
    have hb : b.toNat < 256 := b.toNat_lt
    rw [show (256 : Nat) = 2 ^ 8 from rfl, ← Nat.shiftRight_eq_div_pow, ← Nat.shiftRight_eq_div_pow, Nat.shiftRight_xor_distrib, Nat.shiftRight_eq_div_pow b.toNat, Nat.div_eq_of_lt hb, Nat.xor_zero]
  rw [this]
theorem xb_lt {x : Nat} (h : x < 4294967296) (b : UInt8) : x ^^^ b.toNat < 4294967296 := by
  have hb : b.toNat < 256 := b.toNat_lt
  exact Nat.xor_lt_two_pow (n := 32) h (by omega)
theorem byteN_lt {x : Nat} (h : x < 4294967296) (b : UInt8) : byteN x b < 4294967296 := mW 8 (xb_lt h b)
def lX (s : List UInt8) : Nat := s.foldl byteN 4294967295
theorem lQ {s : List UInt8} {i : Nat} (h : i < s.length) : lX (s.take (i + 1)) = byteN (lX (s.take i)) s[i] := by
  unfold lX
  rw [take_succ_at h, List.foldl_append]; rfl
theorem update_at (s : List UInt8) (hs : s.length ≤ 1000000) : et 0 s = some (xorI .i64 (lX s) 4294967295) := by
  unfold et
  rw [if_neg (by decide), if_neg (by decide), kJ, Option.bind_some]
  have h1 : lenO 256 (List.replicate 256 (0 : Int)) = some (List.replicate 256 (0 : Int)) := by unfold lenO; rw [if_pos (by simp)]
  have h2 : lenO 256 tabL = some tabL := by unfold lenO; rw [if_pos mX]
  rw [h1, Option.bind_some, h2, Option.bind_some]
  have : Ok (loopO (de s tabL) (xorI .i64 0 4294967295, 0)) (fun r => r = (lX s : Int)) := by
    refine Ok.loop (fun st => ∃ i : Nat, st.2 = i ∧ i ≤ s.length ∧ st.1 = (lX (s.take i) : Int) ∧ lX (s.take i) < 4294967296) (fun st => ((s.length : Int) - st.2).toNat) ?_ ⟨0, rfl, Nat.zero_le _, by kernel_rfl, show (4294967295 : Nat) < 4294967296 by omega⟩
    rintro ⟨r, i⟩ ⟨k, h0, h3, h4, h5⟩
    simp only at h0 h4
    subst h0 h4
    unfold de
    dsimp only
    refine Ok.iteD (fun hlt => ?_) (fun hge => ?_)
    · have hk : k < s.length := by omega
      have hby : byteO s (k : Int) = some ((s[k].toNat : Nat) : Int) := by
        unfold byteO
        rw [if_pos ⟨by omega, by omega⟩, Int.toNat_natCast, List.getD_eq_getElem?_getD, List.getElem?_eq_getElem hk]; rfl
      have hb : s[k].toNat < 256 := s[k].toNat_lt
      have hx := xb_lt h5 s[k]
      have hi : inA 256 (((lX (s.take k) ^^^ s[k].toNat) % 256 : Nat) : Int) = some () := by unfold inA; rw [if_pos (by omega)]
      have ht := mW 8 (x := (lX (s.take k) ^^^ s[k].toNat) % 256) (by omega)
      rw [hby, Option.bind_some, w64 (n := ((s[k].toNat : Nat) : Int)) (by omega) (by omega), xor_nat h5 (by omega), and255_nat hx, hi, Option.bind_some, tab_at (by omega), Option.bind_some, shr8_nat, xor_nat (by omega) ht, ← byteN_tab, ← lQ hk, w64 (by omega) (by omega)]
      exact Ok.nx ⟨k + 1, by simp, by omega, rfl, by rw [lQ hk]; exact byteN_lt h5 _⟩ (by simp only; omega)
    · have : k = s.length := by omega
      subst this
      exact Ok.st (by rw [List.take_length])
  rw [this.eq]; rfl
theorem run_at (s : List UInt8) (hs : s.length ≤ 1000000) : lO 4294967295 s = some (lX s : Int) := by
  unfold lO
  have : Ok (loopO (jX s) (4294967295, 0)) (fun r => r = (lX s : Int)) := by
    refine Ok.loop (fun st => ∃ i : Nat, st.2 = i ∧ i ≤ s.length ∧ st.1 = (lX (s.take i) : Int) ∧ lX (s.take i) < 4294967296) (fun st => ((s.length : Int) - st.2).toNat) ?_ ⟨0, rfl, Nat.zero_le _, by kernel_rfl, show (4294967295 : Nat) < 4294967296 by omega⟩
    rintro ⟨r, i⟩ ⟨k, h0, h3, h4, h5⟩
    simp only at h0 h4
    subst h0 h4
    unfold jX
    dsimp only
    refine Ok.iteD (fun hlt => ?_) (fun hge => ?_)
    · have hk : k < s.length := by omega
      have hby : byteO s (k : Int) = some ((s[k].toNat : Nat) : Int) := by
        unfold byteO
        rw [if_pos ⟨by omega, by omega⟩, Int.toNat_natCast, List.getD_eq_getElem?_getD, List.getElem?_eq_getElem hk]; rfl
      have hb : s[k].toNat < 256 := s[k].toNat_lt
      have hx := xb_lt h5 s[k]
      have hin : Ok (loopO (jW (k : Int)) (((lX (s.take k) ^^^ s[k].toNat : Nat) : Int), 0)) (fun o => o = (((byteN (lX (s.take k)) s[k] : Nat) : Int), (k : Int))) := by
        refine Ok.loop (fun st => ∃ j : Nat, st.2 = j ∧ j ≤ 8 ∧ st.1 = ((jx j (lX (s.take k) ^^^ s[k].toNat) : Nat) : Int)) (fun st => (8 - st.2).toNat) ?_ ⟨0, rfl, by omega, rfl⟩
        rintro ⟨q, j⟩ ⟨j, g0, g1, g2⟩
        simp only at g0 g2
        subst g0 g2
        have hq := mW j hx
        unfold jW
        dsimp only
        refine Ok.iteD (fun hlt => ?_) (fun hge => ?_)
        · rw [and1_nat hq, shr1_nat, w64 (n := (j : Int) + 1) (by omega) (by omega)]
          refine Ok.iteE (fun h1 => ?_) (fun h1 => ?_)
          · refine Ok.nx ⟨j + 1, by simp, by omega, ?_⟩ (by simp only; omega)
            simp only
            rw [show (3988292384 : Int) = ((3988292384 : Nat) : Int) from rfl, xor_nat (by omega) (by decide)]
            rw [jx, stepN, if_pos (by omega)]
          · refine Ok.nx ⟨j + 1, by simp, by omega, ?_⟩ (by simp only; omega)
            simp only
            rw [jx, stepN, if_neg (by omega)]
        · have : j = 8 := by omega
          subst this
          exact Ok.st rfl
      rw [hby, Option.bind_some, w64 (n := ((s[k].toNat : Nat) : Int)) (by omega) (by omega), xor_nat h5 (by omega), hin.eq, Option.bind_some, ← lQ hk, w64 (by omega) (by omega)]
      exact Ok.nx ⟨k + 1, by simp, by omega, rfl, by rw [lQ hk]; exact byteN_lt h5 _⟩ (by simp only; omega)
    · have : k = s.length := by omega
      subst this
      exact Ok.st (by rw [List.take_length])
  rw [this.eq]; rfl
theorem jb {s : List UInt8} (hs : s.length ≤ 1000000) : cv s = bD s := by
  unfold cv ref06_Sum bD lM
  rw [run_at s hs, update_at s hs]; rfl
theorem check_eq {s : List UInt8} (hs : s.length ≤ 100000) : ∃ b, dZ s = some b ∧ io s = some b := by
  unfold dZ io
  rw [w64 (by omega) (by omega)]
  by_cases h : 4 ≤ s.length
  · rw [if_pos (decide_eq_true (by omega)), if_pos (decide_eq_true (by omega))]
    obtain ⟨t, ht, hl⟩ : ∃ t : List UInt8, cutO s 0 ((s.length : Int) - 4) = some t ∧ t.length ≤ s.length := by
      unfold cutO
      rw [if_pos ⟨by omega, by omega, by omega⟩]
      exact ⟨_, rfl, by simp; omega⟩
    rw [ht, Option.bind_some, Option.bind_some, jb (by omega), eH (by omega)]
    exact ⟨_, rfl, rfl⟩
  · rw [if_neg (by simp; omega), if_neg (by simp; omega)]
    exact ⟨_, rfl, rfl⟩
end Go.Dw.Se


set_option maxRecDepth 100000
set_option maxHeartbeats 4000000
namespace Go.Dw.Se
open Go.Dw Go.Proofs

theorem uin_eq (a b c : Int) : ex a b c = aX a b c := rfl
theorem put_loop {n : Int} {b : List Int} : loopO (dI n) (3, b) = loopO (md n) (3, b) := by
  refine jE (fun s => -1 ≤ s.1 ∧ s.1 ≤ 3) ?_ ?_ ⟨show (-1 : Int) ≤ 3 by decide, show (3 : Int) ≤ 3 by decide⟩
  · rintro ⟨k, l⟩ ⟨h0, h1⟩
    simp only at h0 h1
    have : k = -1 ∨ k = 0 ∨ k = 1 ∨ k = 2 ∨ k = 3 := by omega
    rcases this with rfl | rfl | rfl | rfl | rfl <;> rfl
  · rintro ⟨k, l⟩ ⟨k', l'⟩ ⟨h0, h1⟩ h
    simp only at h0 h1
    unfold dI at h
    dsimp only at h
    split at h
    · rename_i hk
      have hk := of_decide_eq_true hk
      rw [w64 (n := k - 1) (by omega) (by omega)] at h
      simp only [Option.bind_eq_some_iff] at h
      obtain ⟨x, -, y, -, h⟩ := h
      cases h
      exact ⟨by simp only; omega, by simp only; omega⟩
    · cases h
theorem put_ok {s : List UInt8} (n : Int) (hs : s.length ≤ 1000000) : Ok (jh s n 4) (fun r => ky s n 4 = some r ∧ r.1.length ≤ s.length + 4) := by
  have h1 : iV 4 1 7 = some true := by kernel_rfl
  have h1' : ex 4 1 7 = some true := by kernel_rfl
  have h2 : shlO .i64 1 (IntKind.wrap .i64 (8 * 4)) = some 4294967296 := by kernel_rfl
  have h2' : shlO .i64 1 (IntKind.wrap .u64 (IntKind.wrap .i64 (8 * 4))) = some 4294967296 := by kernel_rfl
  unfold jh ky
  rw [h1, Option.bind_some, if_neg (by decide), h1', Option.bind_some, if_neg (by decide), h2, Option.bind_some, h2', Option.bind_some, show IntKind.wrap .i64 (4294967296 - 1) = 4294967295 by kernel_rfl, show IntKind.wrap .i64 (4 - 1) = 3 by kernel_rfl]
  unfold iV
  by_cases h : 0 ≤ n
  rotate_left
  · rw [if_neg (by simp; omega), Option.bind_some, if_pos (by decide), if_pos (decide_eq_true (by omega))]
    exact Ok.ret ⟨rfl, by simp⟩
  rw [if_pos (decide_eq_true (by omega)), Option.bind_some, if_neg (show ¬ decide (n < 0) = true by simp; omega)]
  by_cases h' : n ≤ 4294967295
  rotate_left
  · rw [if_pos (by simp; omega), if_pos (decide_eq_true (by omega))]
    exact Ok.ret ⟨rfl, by simp⟩
  rw [if_neg (by simp; omega), if_neg (show ¬ decide (n ≥ 4294967296) = true by simp; omega)]
  have hb : bytO s = some (s.map fun b => (b.toNat : Int)) := by unfold bytO; rw [if_pos (by omega)]
  rw [hb, Option.bind_some, Option.bind_some, ← put_loop]
  have : Ok (loopO (dI n) (3, s.map fun b => (b.toNat : Int))) (fun r => r.length = s.length + 4) := by
    refine Ok.loop (fun st => -1 ≤ st.1 ∧ st.1 ≤ 3 ∧ (st.2.length : Int) = s.length + 3 - st.1) (fun st => (st.1 + 1).toNat) ?_ ⟨show (-1 : Int) ≤ 3 by decide, show (3 : Int) ≤ 3 by decide, by simp⟩
    rintro ⟨k, l⟩ ⟨i0, i1, i2⟩
    simp only at i0 i1 i2
    unfold dI
    dsimp only
    refine Ok.iteD (fun hk => ?_) (fun hk => Ok.st (by omega))
    rw [w64 (n := 8 * k) (by omega) (by omega), w64 (n := k - 1) (by omega) (by omega)]
    have hsh : shrO .i64 n (8 * k) = some (shrI .i64 n (8 * k)) := by unfold shrO; rw [if_neg (by omega)]
    rw [hsh, Option.bind_some]
    refine Ok.bind (Ok.app (by simp only [List.length_cons, List.length_nil]; omega)) (fun x hx => ?_)
    subst hx
    exact Ok.nx ⟨by simp only; omega, by simp only; omega, by simp only [List.length_append, List.length_cons, List.length_nil]; omega⟩ (by simp only; omega)
  obtain ⟨r, e, hr⟩ := this
  rw [e]
  exact Ok.ret ⟨rfl, by simp [strU, hr]⟩
theorem put_eq {s : List UInt8} (n : Int) (hs : s.length ≤ 1000000) : ky s n 4 = jh s n 4 := by
  obtain ⟨r, e, h, -⟩ := put_ok n hs
  rw [e, h]
theorem jm {s : List UInt8} {l : List Int} (hs : s.length ≤ 100000) (hl : l.length ≤ 100) : Ok (bf s l) (fun r => jd s l = some r ∧ r.length ≤ s.length + 4 * l.length) := by
  have hlo : Ok (loopO (bd l) (s, 0)) (fun r => r.length ≤ s.length + 4 * l.length) := by
    refine Ok.loop (fun st => ∃ i : Nat, st.2 = i ∧ i ≤ l.length ∧ st.1.length ≤ s.length + 4 * i) (fun st => ((l.length : Int) - st.2).toNat) ?_ ⟨0, rfl, Nat.zero_le _, by simp⟩
    rintro ⟨q, k⟩ ⟨i, i0, i1, i2⟩
    simp only at i0 i2
    subst i0
    unfold bd
    dsimp only
    refine Ok.iteD (fun hlt => ?_) (fun hge => Ok.st (by omega))
    refine Ok.bind (Ok.get (by omega) (by omega)) (fun x _ => ?_)
    refine Ok.bind (put_ok x (by omega)) (fun y hy => ?_)
    rw [w64 (by omega) (by omega)]
    exact Ok.nx ⟨i + 1, by simp, by omega, by simp only; omega⟩ (by simp only; omega)
  have he : loopO (bd l) (s, 0) = loopO (kW l) (s, 0) := by
    refine jE (fun st : List UInt8 × Int => ∃ i : Nat, st.2 = (i : Int) ∧ i ≤ l.length ∧ st.1.length ≤ s.length + 4 * i) ?_ ?_ ⟨0, rfl, Nat.zero_le _, by simp⟩
    · rintro ⟨q, k⟩ ⟨i, i0, i1, i2⟩
      simp only at i0 i2
      subst i0
      unfold bd kW
      dsimp only
      rcases hg : getO l (i : Int) with _ | x
      · rfl
      · rw [Option.bind_some, Option.bind_some, put_eq x (by omega)]
    · rintro ⟨q, k⟩ ⟨q', k'⟩ ⟨i, i0, i1, i2⟩ h
      simp only at i0 i2
      subst i0
      unfold bd at h
      dsimp only at h
      split at h
      · rename_i hk
        have hk := of_decide_eq_true hk
        rw [w64 (n := (i : Int) + 1) (by omega) (by omega)] at h
        simp only [Option.bind_eq_some_iff] at h
        obtain ⟨x, -, y, hy, h⟩ := h
        cases h
        obtain ⟨y', e, -, hl'⟩ := put_ok (s := q) x (by omega)
        rw [e] at hy; cases hy
        exact ⟨i + 1, by simp, by omega, by simp only; omega⟩
      · cases h
  obtain ⟨r, e, hr⟩ := hlo
  unfold bf jd
  rw [← he, e]
  exact Ok.ret ⟨rfl, hr⟩
def gI (b0 b1 b2 b3 : Nat) : Int := orI .i64 (shlI .i64 (orI .i64 (shlI .i64 (orI .i64 (shlI .i64 (orI .i64 (shlI .i64 0 8) b0) 8) b1) 8) b2) 8) b3
theorem or1 {a b : Nat} (ha : a < 16777216) (hb : b < 256) : ∃ c : Nat, orI .i64 (shlI .i64 a 8) b = c ∧ c < 4294967296 ∧ (a < 65536 → c < 16777216) ∧ (a < 256 → c < 65536) ∧ (a = 0 → c < 256) := by
  obtain ⟨h1, h2⟩ := or_nat (a := a * 256) (b := b) (by omega) (by omega)
  refine ⟨a * 256 ||| b, by rw [shl8_nat ha, h1], h2, fun h => ?_, fun h => ?_, fun h => ?_⟩
  · exact Nat.or_lt_two_pow (n := 24) (by omega) (by omega)
  · exact Nat.or_lt_two_pow (n := 16) (by omega) (by omega)
  · exact Nat.or_lt_two_pow (n := 8) (by omega) (by omega)
theorem gI_nn {b0 b1 b2 b3 : Nat} (h0 : b0 < 256) (h1 : b1 < 256) (h2 : b2 < 256) (h3 : b3 < 256) : 0 ≤ gI b0 b1 b2 b3 := by
  obtain ⟨c0, e0, -, -, -, g0⟩ := or1 (a := 0) (by omega) h0
  obtain ⟨c1, e1, -, -, g1, -⟩ := or1 (a := c0) (by have := g0 rfl; omega) h1
  obtain ⟨c2, e2, -, g2, -, -⟩ := or1 (a := c1) (by have := g0 rfl; have := g1 this; omega) h2
  obtain ⟨c3, e3, -, -, -, -⟩ := or1 (a := c2) (by have := g0 rfl; have := g1 this; have := g2 this; omega) h3
  unfold gI
  rw [show (0 : Int) = ((0 : Nat) : Int) from rfl, e0, e1, e2, e3]
  omega
theorem get_val {a : List UInt8} {k : Nat} (hk : k + 4 ≤ a.length) (ha : a.length ≤ 1000000) : jf a (k : Int) 4 = some (gI a[k].toNat a[k + 1].toNat a[k + 2].toNat a[k + 3].toNat, 0) := by
  have hby : ∀ j (hj : j < a.length), byteO a (j : Int) = some ((a[j].toNat : Nat) : Int) := fun j hj => by
    unfold byteO
    rw [if_pos ⟨by omega, by omega⟩, Int.toNat_natCast, List.getD_eq_getElem?_getD, List.getElem?_eq_getElem hj]; rfl
  have hst : ∀ (acc : Int) (j : Nat) (hj : j < 4), cU 4 a (k : Int) (acc, (j : Int)) = some (.next (orI .i64 (shlI .i64 acc 8) (a[k + j]'(by omega)).toNat, ((j + 1 : Nat) : Int))) := fun acc j hj => by
    unfold cU
    dsimp only
    have hb : (a[k + j]'(by omega)).toNat < 256 := (a[k + j]'(by omega)).toNat_lt
    rw [if_pos (decide_eq_true (by omega)), w64 (n := (k : Int) + j) (by omega) (by omega), show (k : Int) + j = ((k + j : Nat) : Int) by omega, hby _ (by omega), Option.bind_some, w64 (n := (j : Int) + 1) (by omega) (by omega), w64 (by omega) (by omega)]
    rfl
  have hlo : loopO (cU 4 a (k : Int)) (0, 0) = some (gI a[k].toNat a[k + 1].toNat a[k + 2].toNat a[k + 3].toNat) := loopO_of (n := 5) (by
    have e0 := hst 0 0 (by omega)
    have e4 : ∀ acc, cU 4 a (k : Int) (acc, ((4 : Nat) : Int)) = some (.stop acc) := fun acc => by
      unfold cU
      dsimp only
      rw [if_neg (by decide)]
    simp only [loopN]
    rw [show ((0 : Int), (0 : Int)) = (0, ((0 : Nat) : Int)) from rfl, e0]
    dsimp only
    rw [hst _ 1 (by omega)]
    dsimp only
    rw [hst _ 2 (by omega)]
    dsimp only
    rw [hst _ 3 (by omega)]
    dsimp only
    rw [e4]
    rfl)
  unfold jf
  rw [show iV 4 1 7 = some true by kernel_rfl, Option.bind_some, if_neg (by decide), if_neg (by simp), w64 (by omega) (by omega), if_neg (by simp; omega), hlo]; rfl
theorem get_same (a : List UInt8) (k w : Int) : ref04_Get a k w = jf a k w := rfl
noncomputable def chk (m : List UInt8) : Bool := (dZ m).getD false
theorem chk_at {m : List UInt8} (h : m.length ≤ 100000) : dZ m = some (chk m) ∧ io m = some (chk m) := by
  obtain ⟨b, h1, h2⟩ := check_eq h
  unfold chk
  rw [h1, h2]; exact ⟨rfl, rfl⟩
def body (m : List UInt8) : List UInt8 := (m.drop 1).take (m.length - 5)
theorem lp {m : List UInt8} (h : 5 ≤ m.length) : (body m).length = m.length - 5 := by unfold body; simp; omega
theorem body_le (m : List UInt8) : (body m).length ≤ m.length - 5 := by unfold body; simp; omega
theorem body_get {m : List UInt8} {k : Nat} (h : k < (body m).length) (h' : k + 1 < m.length) : (body m)[k] = m[k + 1] := by
  have e : (body m)[k]? = m[k + 1]? := by
    unfold body
    rw [List.getElem?_take_of_lt (by rw [lp (by have := body_le m; omega)] at h; exact h), List.getElem?_drop, Nat.add_comm]
  rw [List.getElem?_eq_getElem h, List.getElem?_eq_getElem h'] at e
  exact Option.some.inj e
theorem open_gen {m : List UInt8} {x : UInt8} {least : Nat} (h5 : 5 ≤ least) (hm : m.length ≤ 100000) :
    b9 m [x] least = if m.length < least then some ([], 4) else if chk m = false then some ([], 5) else if m.head? = some x then some (body m, 0) else some ([], 3) := by
  unfold b9
  by_cases hl : m.length < least
  · rw [if_pos (decide_eq_true (by omega)), if_pos hl]
  rw [if_neg (by simp; omega), if_neg hl, (chk_at hm).1, Option.bind_some]
  cases hc : chk m with
  | false => rw [if_pos (by decide), if_pos rfl]
  | true =>
    rw [if_neg (by decide), if_neg (by decide)]
    match m, h5, hl with
    | [], h5, hl => simp at hl; omega
    | c :: q, h5, hl =>
      have e1 : cutO (c :: q) 0 1 = some [c] := by
        unfold cutO
        rw [if_pos ⟨Int.le_refl _, by decide, by simp; omega⟩]; rfl
      have hlen : ¬ q.length + 1 < least := by simpa using hl
      have e2 : cutO (c :: q) 1 (IntKind.wrap .i64 (((c :: q).length : Int) - 4)) = some (body (c :: q)) := by
        rw [w64 (by omega) (by omega)]
        unfold cutO body
        rw [if_pos ⟨by omega, by simp only [List.length_cons]; omega, by omega⟩]
        rw [show ((((c :: q).length : Nat) : Int) - 4).toNat - Int.toNat 1 = (c :: q).length - 5 by simp only [List.length_cons]; omega]
        rfl
      rw [e1, Option.bind_some, e2]
      by_cases hx : c = x
      · subst hx; rw [if_neg (by simp), Option.bind_some]; simp
      · rw [if_pos (by simpa using hx), if_neg (by simpa using hx)]
theorem plain_gen {m : List UInt8} {least : Nat} (hm : m.length ≤ 100000) : fS m least = if m.length < least then some 4 else if chk m = false then some 5 else some 0 := by
  unfold fS
  by_cases hl : m.length < least
  · rw [if_pos (decide_eq_true (by omega)), if_pos hl]
  rw [if_neg (by simp; omega), if_neg hl, (chk_at hm).2, Option.bind_some]
  cases hc : chk m with
  | false => rw [if_pos (by decide), if_pos rfl]
  | true => rw [if_neg (by decide), if_neg (by decide)]
theorem num_at {m : List UInt8} {i : Nat} (h : 4 * i + 4 ≤ m.length - 5) (hm : m.length ≤ 100000) : ∃ v : Int, 0 ≤ v ∧ aI (body m) (i : Int) = some v ∧ bT m ((1 + 4 * i : Nat) : Int) = some v := by
  have hb := lp (m := m) (by omega)
  have g1 := get_val (a := body m) (k := 4 * i) (by omega) (by omega)
  have g2 := get_val (a := m) (k := 1 + 4 * i) (by omega) (by omega)
  have e : ∀ j, j < 4 → ∀ (h1 : 4 * i + j < (body m).length) (h2 : 1 + 4 * i + j < m.length), (body m)[4 * i + j] = m[1 + 4 * i + j] := fun j hj h1 h2 => by
    rw [body_get h1 (by omega)]; congr 1; omega
  have e0 : (body m)[4 * i]'(by omega) = m[1 + 4 * i]'(by omega) := e 0 (by omega) (by omega) (by omega)
  rw [e0, e 1 (by omega) (by omega) (by omega), e 2 (by omega) (by omega) (by omega), e 3 (by omega) (by omega) (by omega)] at g1
  refine ⟨gI m[1 + 4 * i].toNat m[1 + 4 * i + 1].toNat m[1 + 4 * i + 2].toNat m[1 + 4 * i + 3].toNat, ?_, ?_, ?_⟩
  rotate_left
  · unfold aI
    rw [w64 (by omega) (by omega), show ((i : Int) * 4) = ((4 * i : Nat) : Int) by omega, g1]; rfl
  · unfold bT
    rw [get_same, g2]; rfl
  · exact gI_nn (UInt8.toNat_lt _) (UInt8.toNat_lt _) (UInt8.toNat_lt _) (UInt8.toNat_lt _)
theorem byte0 {m : List UInt8} (h : 5 ≤ m.length) : ∃ c, m.head? = some c ∧ byteO m 0 = some ((c.toNat : Nat) : Int) := by
  match m, h with
  | c :: q, _ => exact ⟨c, rfl, by unfold byteO; rw [if_pos ⟨Int.le_refl _, by simp⟩]; rfl⟩
theorem u8_ne {c x : UInt8} (h : c ≠ x) : ((c.toNat : Nat) : Int) ≠ ((x.toNat : Nat) : Int) := fun e => h (UInt8.toNat_inj.1 (by omega))
theorem parseD_ok {m : List UInt8} (hm : m.length ≤ 100000) : Ok (aV m) (fun r => fq m = some r) := by
  unfold aV fq
  rw [show (13 : Int) = ((13 : Nat) : Int) from rfl, open_gen (by omega) hm, plain_gen hm]
  by_cases hl : m.length < 13
  · rw [if_pos hl, if_pos hl]; exact Ok.ret rfl
  rw [if_neg hl, if_neg hl]
  cases hc : chk m with
  | false => rw [if_pos rfl, if_pos rfl]; exact Ok.ret rfl
  | true =>
    obtain ⟨c, h1, h2⟩ := byte0 (m := m) (by omega)
    obtain ⟨v0, n0, p0, q0⟩ := num_at (m := m) (i := 0) (by omega) hm
    obtain ⟨v1, n1, p1, q1⟩ := num_at (m := m) (i := 1) (by omega) hm
    replace p0 : aI (body m) 0 = some v0 := p0
    replace p1 : aI (body m) 1 = some v1 := p1
    replace q0 : bT m 1 = some v0 := q0
    replace q1 : bT m 5 = some v1 := q1
    have hb := lp (m := m) (by omega)
    rw [if_neg (show ¬ true = false by decide), if_neg (show ¬ true = false by decide), h1, Option.bind_some, if_neg (show ¬ ((0 : Int) != 0) = true by decide), q0, Option.bind_some, q1, Option.bind_some, h2, Option.bind_some]
    by_cases hx : c = 68
    · subst hx
      rw [if_pos rfl, Option.bind_some, if_neg (by simp)]
      dsimp only
      rw [p0, Option.bind_some, p1, Option.bind_some, if_neg (show ¬ ((((68 : UInt8).toNat : Nat) : Int) != 68) = true by decide)]
      have e1 : cutO (body m) 8 ((body m).length : Int) = some ((body m).drop 8) := by
        unfold cutO
        rw [if_pos ⟨by omega, by omega, Int.le_refl _⟩, List.take_of_length_le (by simp)]; rfl
      have e2 : cutO m 9 (IntKind.wrap .i64 ((m.length : Int) - 4)) = some ((body m).drop 8) := by
        rw [w64 (by omega) (by omega)]
        unfold cutO body
        rw [if_pos ⟨by omega, by omega, by omega⟩, List.drop_take, List.drop_drop]
        rw [show ((m.length : Int) - 4).toNat - Int.toNat 9 = m.length - 5 - 8 by omega]
        rfl
      rw [e1, e2]
      by_cases hv : v0 > 1073741824 <;> by_cases hv' : v1 > 1073741825 <;> simp only [hv, hv', decide_true, decide_false, if_true, if_false, Bool.false_eq_true] <;> exact Ok.ret rfl
    · rw [if_neg (by simpa using hx), Option.bind_some, if_pos (by decide), if_pos (by simpa using u8_ne hx)]
      exact Ok.ret rfl
theorem parseS_ok {m : List UInt8} (hm : m.length ≤ 100000) : Ok (aP m) (fun r => eo m = some r) := by
  unfold aP eo
  rw [show (13 : Int) = ((13 : Nat) : Int) from rfl, open_gen (by omega) hm, plain_gen hm]
  by_cases hl : m.length < 13
  · rw [if_pos hl, if_pos hl]; exact Ok.ret rfl
  rw [if_neg hl, if_neg hl]
  cases hc : chk m with
  | false => rw [if_pos rfl, if_pos rfl]; exact Ok.ret rfl
  | true =>
    obtain ⟨c, h1, h2⟩ := byte0 (m := m) (by omega)
    obtain ⟨v0, n0, p0, q0⟩ := num_at (m := m) (i := 0) (by omega) hm
    obtain ⟨v1, n1, p1, q1⟩ := num_at (m := m) (i := 1) (by omega) hm
    replace p0 : aI (body m) 0 = some v0 := p0
    replace p1 : aI (body m) 1 = some v1 := p1
    replace q0 : bT m 1 = some v0 := q0
    replace q1 : bT m 5 = some v1 := q1
    have hb := lp (m := m) (by omega)
    rw [if_neg (show ¬ true = false by decide), if_neg (show ¬ true = false by decide), h1, Option.bind_some, if_neg (show ¬ ((0 : Int) != 0) = true by decide), q0, Option.bind_some, q1, Option.bind_some, h2, Option.bind_some]
    by_cases hx : c = 83
    · subst hx
      rw [if_pos rfl, Option.bind_some, if_neg (by simp)]
      dsimp only
      rw [p0, Option.bind_some, p1, Option.bind_some, if_neg (show ¬ ((((83 : UInt8).toNat : Nat) : Int) != 83) = true by decide)]
      have hbl : ((((body m).length : Nat) : Int) != 8) = ((m.length : Int) != 13) := by
        rw [hb]
        by_cases hlen : m.length = 13
        · rw [hlen]; rfl
        · rw [bne_iff_ne.2 (show ((m.length : Int)) ≠ 13 by omega), bne_iff_ne.2 (show (((m.length - 5 : Nat) : Int)) ≠ 8 by omega)]
      rw [hbl, show (((13 : Nat) : Int)) = 13 from rfl]
      cases hl13 : ((m.length : Int) != 13) <;> by_cases hv : v0 > v1 <;> by_cases hv' : v1 > 1073741825 <;> simp only [hv, hv', decide_true, decide_false, if_true, if_false, Bool.false_eq_true] <;> exact Ok.ret rfl
    · rw [if_neg (by simpa using hx), Option.bind_some, if_pos (by decide), if_pos (by simpa using u8_ne hx)]
      exact Ok.ret rfl
end Go.Dw.Se


set_option maxRecDepth 100000
set_option maxHeartbeats 4000000
namespace Go.Dw.Se
open Go.Dw Go.Proofs

theorem kP {ω : Type} {body : Int → Option (Step1 Int ω)} (n : Nat) {p : Nat → Bool} {u r : ω} (h1 : ∀ i, i < n → body (i : Int) = if p i = true then some (.next ((i + 1 : Nat) : Int)) else some (.stop r)) (h2 : body (n : Int) = some (.stop u)) :
    loopO body (0 : Int) = some (if (List.range n).all p = true then u else r) := by
  have : ∀ k i, i + k = n → ((List.range i).all p = true) → loopO body (i : Int) = some (if (List.range n).all p = true then u else r) := by
    intro k
    induction k with
    | zero =>
      intro i hi hp
      obtain rfl : i = n := by omega
      rw [loopO_stop h2, if_pos hp]
    | succ k ih =>
      intro i hi hp
      cases hc : p i with
      | true =>
        rw [loopO_next (by rw [h1 i (by omega), if_pos hc])]
        refine ih (i + 1) (by omega) ?_
        rw [List.range_succ, List.all_append, hp]; simp [hc]
      | false =>
        rw [loopO_stop (by rw [h1 i (by omega), if_neg (by simp [hc])]), if_neg]
        intro ha
        have := List.all_eq_true.1 ha i (List.mem_range.2 (by omega))
        rw [hc] at this; cases this
  exact this n 0 (by omega) rfl
def okAt (l : List Sp) (i : Nat) : Bool := decide ((l.getD i ⟨0, 0⟩).az < (l.getD i ⟨0, 0⟩).fTo) && (decide (i = 0) || decide ((l.getD (i - 1) ⟨0, 0⟩).fTo < (l.getD i ⟨0, 0⟩).az))
def gE (l : List Sp) : Bool := (List.range l.length).all (okAt l)
theorem getD_at {l : List Sp} {i : Nat} (h : i < l.length) : l.getD i ⟨0, 0⟩ = l[i] := by rw [List.getD_eq_getElem?_getD, List.getElem?_eq_getElem h]; rfl
theorem okAt_at {l : List Sp} {i : Nat} (h : i < l.length) : okAt l i = (decide (l[i].az < l[i].fTo) && (decide (i = 0) || decide ((l[i - 1]'(by omega)).fTo < l[i].az))) := by
  unfold okAt
  rw [getD_at h, getD_at (show i - 1 < l.length by omega)]
theorem sv_step {ω : Type} {l : List Sp} {i : Nat} (h : i < l.length) (hl : l.length ≤ 1000000) (nx st : Option (Step1 Int ω)) (hn : nx = some (.next ((i + 1 : Nat) : Int))) :
    (if (!decide (l[i].az < l[i].fTo)) = true then st else (if (decide ((i : Int) > 0)) = true then ((getO l (IntKind.wrap .i64 ((i : Int) - 1))).bind fun x8 => if (decide (l[i].az ≤ x8.fTo)) = true then st else nx) else nx)) = if okAt l i = true then nx else st := by
  rw [okAt_at h]
  by_cases h1 : l[i].az < l[i].fTo
  rotate_left
  · simp [h1]
  rw [decide_eq_true h1, if_neg (by decide), Bool.true_and]
  by_cases h0 : i = 0
  · subst h0
    rw [if_neg (by decide), decide_eq_true rfl, Bool.true_or, if_pos rfl]
  rw [if_pos (decide_eq_true (by omega)), w64 (by omega) (by omega), getO_at (i := i - 1) (by omega) (by omega), Option.bind_some, decide_eq_false h0, Bool.false_or]
  by_cases h2 : l[i].az ≤ (l[i - 1]'(by omega)).fTo
  · rw [if_pos (decide_eq_true h2), if_neg (by simp; omega)]
  · rw [if_neg (by simpa using h2), if_pos (decide_eq_true (by omega))]
theorem span_valid_at {l : List Sp} (hl : l.length ≤ 1000000) : fN l = some (gE l) := by
  unfold fN
  have : loopO (dD l) 0 = some (if gE l = true then .inl () else .inr false) := by
    refine kP l.length (fun i hi => ?_) ?_
    · unfold dD eS
      rw [if_pos (decide_eq_true (by omega)), getO_at rfl hi, Option.bind_some, Option.bind_some, w64 (n := (i : Int) + 1) (by omega) (by omega)]
      rw [sv_step hi hl _ _ (by rfl)]; rfl
    · unfold dD
      rw [if_neg (by simp)]
  rw [this, Option.bind_some]
  cases gE l <;> rfl
theorem span_validq_at {l : List Sp} (hl : l.length ≤ 1000000) : fU l = some (gE l, l) := by
  unfold fU
  have : loopO (cS l) 0 = some (if gE l = true then .inl () else .inr (false, l)) := by
    refine kP l.length (fun i hi => ?_) ?_
    · unfold cS eS
      rw [if_pos (decide_eq_true (by omega)), inO_at (by omega) (by omega), Option.bind_some, getO_at rfl hi, Option.bind_some, Option.bind_some, w64 (n := (i : Int) + 1) (by omega) (by omega)]
      simp only [inO_getO]
      rw [sv_step hi hl _ _ (by rfl)]; rfl
    · unfold cS
      rw [if_neg (by simp)]
  rw [this, Option.bind_some]
  cases gE l <;> rfl
theorem ge_dec (a b : Int) : decide (a ≥ b) = (!decide (a < b)) := by
  by_cases h : a < b
  · rw [decide_eq_true h, decide_eq_false (by omega)]; rfl
  · rw [decide_eq_false h, decide_eq_true (by omega)]; rfl
theorem ref_valid_at {l : List Sp} (hl : l.length ≤ 1000000) : jF l = some (gE l) := by
  unfold jF
  have : loopO (fp l) 0 = some (if gE l = true then .inl () else .inr false) := by
    refine kP l.length (fun i hi => ?_) ?_
    · unfold fp
      rw [if_pos (decide_eq_true (by omega))]
      simp only [getO_at (n := (i : Int)) rfl hi, Option.bind_some, w64 (n := (i : Int) + 1) (by omega) (by omega), ge_dec l[i].az l[i].fTo]
      rw [sv_step hi hl _ _ (by rfl)]; rfl
    · unfold fp
      rw [if_neg (by simp)]
  rw [this, Option.bind_some]
  cases gE l <;> rfl
theorem ref_validq_at {l : List Sp} (hl : l.length ≤ 1000000) : iZ l = some (gE l, l) := by
  unfold iZ
  have : loopO (eM l) 0 = some (if gE l = true then .inl () else .inr (false, l)) := by
    refine kP l.length (fun i hi => ?_) ?_
    · unfold eM
      rw [if_pos (decide_eq_true (by omega))]
      simp only [inO_getO]
      simp only [getO_at (n := (i : Int)) rfl hi, Option.bind_some, w64 (n := (i : Int) + 1) (by omega) (by omega), ge_dec l[i].az l[i].fTo]
      rw [sv_step hi hl _ _ (by rfl)]; rfl
    · unfold eM
      rw [if_neg (by simp)]
  rw [this, Option.bind_some]
  cases gE l <;> rfl
theorem requests_ok (k : Int) {l : List Sp} (hl : l.length ≤ 1000) : Ok (bU k l) (fun r => gg k l = some r ∧ r.1.length ≤ 5000) := by
  unfold bU gg dY
  rw [uin_eq]
  obtain ⟨b, hb⟩ : ∃ b, aX k 0 1073741825 = some b := by
    unfold aX; split <;> exact ⟨_, rfl⟩
  rw [hb, Option.bind_some, Option.bind_some, span_valid_at (by omega), ref_valid_at (by omega), Option.bind_some, Option.bind_some]
  cases b with
  | false => exact Ok.ret ⟨rfl, by simp⟩
  | true =>
  cases hv : gE l with
  | false => exact Ok.ret ⟨rfl, by simp⟩
  | true =>
  simp only [Bool.not_true, Bool.false_eq_true, if_false, if_true]
  have hrest : Ok (if (decide ((l.length : Int) > (16 : Int))) = true then (some (([] : (List UInt8)), (8 : Int))) else ((loopO (aW l) ([82], (0 : Int))).bind fun o14 => (bD o14).bind fun x15 => some (x15, (0 : Int))))
      (fun r => cH l = some r ∧ r.1.length ≤ 5000) := by
    unfold cH
    refine Ok.iteD (fun h => ?_) (fun h => ?_)
    · rw [if_pos (decide_eq_true h)]; exact Ok.ret ⟨rfl, by simp⟩
    rw [if_neg (by simpa using h)]
    have hlo : Ok (loopO (aW l) ([82], (0 : Int))) (fun r => r.length ≤ 1 + 8 * l.length) := by
      refine Ok.loop (fun st => ∃ i : Nat, st.2 = i ∧ i ≤ l.length ∧ st.1.length ≤ 1 + 8 * i) (fun st => ((l.length : Int) - st.2).toNat) ?_ ⟨0, rfl, Nat.zero_le _, by simp⟩
      rintro ⟨q, j⟩ ⟨i, i0, i1, i2⟩
      simp only at i0 i2
      subst i0
      unfold aW
      dsimp only
      refine Ok.iteD (fun hlt => ?_) (fun hge => Ok.st (by omega))
      refine Ok.bind (Ok.get (by omega) (by omega)) (fun x _ => ?_)
      refine Ok.bind (jm (by omega) (by simp)) (fun y hy => ?_)
      have := hy.2
      simp only [List.length_cons, List.length_nil] at this
      rw [w64 (by omega) (by omega)]
      exact Ok.nx ⟨i + 1, by simp, by omega, by simp only; omega⟩ (by simp only; omega)
    have he : loopO (aW l) ([82], (0 : Int)) = loopO (fB l) ([82], (0 : Int)) := by
      refine jE (fun st : List UInt8 × Int => ∃ i : Nat, st.2 = (i : Int) ∧ i ≤ l.length ∧ st.1.length ≤ 1 + 8 * i) ?_ ?_ ⟨0, rfl, Nat.zero_le _, by simp⟩
      · rintro ⟨q, j⟩ ⟨i, i0, i1, i2⟩
        simp only at i0 i2
        subst i0
        unfold aW fB
        dsimp only
        rcases hg : getO l (i : Int) with _ | x
        · rfl
        · rw [Option.bind_some, Option.bind_some, Option.bind_some]
          obtain ⟨y, e, hy, -⟩ := jm (s := q) (l := [x.az, x.fTo]) (by omega) (by simp)
          rw [e, hy]
      · rintro ⟨q, j⟩ ⟨q', j'⟩ ⟨i, i0, i1, i2⟩ h'
        simp only at i0 i2
        subst i0
        unfold aW at h'
        dsimp only at h'
        split at h'
        · rename_i hk
          have hk := of_decide_eq_true hk
          rw [w64 (n := (i : Int) + 1) (by omega) (by omega)] at h'
          simp only [Option.bind_eq_some_iff] at h'
          obtain ⟨x, -, y, hy, h'⟩ := h'
          cases h'
          obtain ⟨y', e, -, hl'⟩ := jm (s := q) (l := [x.az, x.fTo]) (by omega) (by simp)
          rw [e] at hy; cases hy
          simp only [List.length_cons, List.length_nil] at hl'
          exact ⟨i + 1, by simp, by omega, by simp only; omega⟩
        · cases h'
    obtain ⟨o, e, ho⟩ := hlo
    rw [← he, e, Option.bind_some, Option.bind_some, jb (by omega), eH (by omega)]
    refine Ok.ret ⟨rfl, ?_⟩
    have := gD (s := o) (by omega)
    simp only [List.length_append]; omega
  by_cases h0 : l.length = 0
  · rw [if_pos (by simp [h0]), Option.bind_some, if_neg (by decide), if_neg (show ¬ decide ((l.length : Int) > 0) = true by rw [h0]; decide)]
    exact hrest
  have hg0 : getO l 0 = some l[0] := getO_at (i := 0) rfl (by omega)
  have hgl : getO l (IntKind.wrap .i64 ((l.length : Int) - 1)) = some (l[l.length - 1]'(by omega)) := by
    rw [w64 (by omega) (by omega)]
    exact getO_at (i := l.length - 1) (by omega) (by omega)
  rw [if_neg (show ¬ ((l.length : Int) == 0) = true by rw [beq_iff_eq]; omega), if_pos (show decide ((l.length : Int) > 0) = true from decide_eq_true (by omega)), hg0, Option.bind_some, Option.bind_some, hgl, Option.bind_some, Option.bind_some]
  by_cases h1 : l[0].az < 0
  · rw [if_neg (show ¬ decide (l[0].az ≥ 0) = true by simpa using h1), Option.bind_some, if_pos (by decide), if_pos (decide_eq_true h1)]
    exact Ok.ret ⟨rfl, by simp⟩
  rw [if_pos (show decide (l[0].az ≥ 0) = true from decide_eq_true (by omega)), Option.bind_some, if_neg (show ¬ decide (l[0].az < 0) = true by simpa using h1)]
  by_cases h2 : (l[l.length - 1]'(by omega)).fTo ≤ k
  · rw [decide_eq_true h2, if_neg (by decide), if_neg (show ¬ decide ((l[l.length - 1]'(by omega)).fTo > k) = true by simpa using h2)]
    exact hrest
  · rw [decide_eq_false h2, if_pos (by decide), if_pos (decide_eq_true (by omega))]
    exact Ok.ret ⟨rfl, by simp⟩
theorem parseR_ok {m : List UInt8} (hm : m.length ≤ 100000) : Ok (a7 m) (fun r => db m = some r ∧ r.1.length ≤ 100000) := by
  unfold a7 db
  rw [show (5 : Int) = ((5 : Nat) : Int) from rfl, open_gen (by omega) hm, plain_gen hm]
  by_cases hl : m.length < 5
  · rw [if_pos hl, if_pos hl]; exact Ok.ret ⟨rfl, by simp⟩
  rw [if_neg hl, if_neg hl]
  cases hc : chk m with
  | false => rw [if_pos rfl, if_pos rfl]; exact Ok.ret ⟨rfl, by simp⟩
  | true =>
    obtain ⟨c, h1, h2⟩ := byte0 (m := m) (by omega)
    have hb := lp (m := m) (by omega)
    have hq : quoO .i64 ((m.length : Int) - 5) 8 = some (((m.length - 5) / 8 : Nat) : Int) := by
      unfold quoO
      rw [if_neg (by decide), show ((m.length : Int) - 5) = ((m.length - 5 : Nat) : Int) by omega, show ((m.length - 5 : Nat) : Int).tdiv 8 = (((m.length - 5) / 8 : Nat) : Int) from rfl, w64 (by omega) (by omega)]
    have hr : remO ((m.length : Int) - 5) 8 = some (((m.length - 5) % 8 : Nat) : Int) := by
      unfold remO
      rw [if_neg (by decide), show ((m.length : Int) - 5) = ((m.length - 5 : Nat) : Int) by omega, show ((m.length - 5 : Nat) : Int).tmod 8 = (((m.length - 5) % 8 : Nat) : Int) from rfl]
    rw [if_neg (show ¬ true = false by decide), if_neg (show ¬ true = false by decide), h1, Option.bind_some, if_neg (show ¬ ((0 : Int) != 0) = true by decide), show (((5 : Nat) : Int)) = 5 from rfl, w64 (n := (m.length : Int) - 5) (by omega) (by omega), hq, Option.bind_some, h2, Option.bind_some]
    by_cases hx : c = 82
    rotate_left
    · rw [if_neg (by simpa using hx), Option.bind_some, if_pos (by decide), if_pos (by simpa using u8_ne hx)]
      exact Ok.ret ⟨rfl, by simp⟩
    subst hx
    rw [if_pos rfl, Option.bind_some, if_neg (by simp), if_neg (show ¬ ((((82 : UInt8).toNat : Nat) : Int) != 82) = true by decide)]
    dsimp only
    rw [show (((body m).length : Nat) : Int) = (m.length : Int) - 5 by omega, hq, hr, Option.bind_some, Option.bind_some, Option.bind_some]
    by_cases hmod : (m.length - 5) % 8 = 0
    rotate_left
    · rw [if_pos (by simp; omega), if_pos (by simp; omega)]; exact Ok.ret ⟨rfl, by simp⟩
    have hm0 : ¬ ((((m.length - 5) % 8 : Nat) : Int) != 0) = true := by simp; omega
    rw [if_neg hm0, if_neg hm0]
    refine Ok.iteD (fun h16 => ?_) (fun h16 => ?_)
    · rw [if_pos (decide_eq_true h16)]; exact Ok.ret ⟨rfl, by simp⟩
    rw [if_neg (by simpa using h16)]
    generalize hn : (m.length - 5) / 8 = n
    rw [hn] at h16
    have hn8 : m.length - 5 = 8 * n := by omega
    have hpair : ∀ i, i < n → ∃ v w : Int, 0 ≤ v ∧ aI (body m) (IntKind.wrap .i64 (2 * (i : Int))) = some v ∧ aI (body m) (IntKind.wrap .i64 ((IntKind.wrap .i64 (2 * (i : Int))) + 1)) = some w ∧
        bT m (IntKind.wrap .i64 (1 + (IntKind.wrap .i64 (8 * (i : Int))))) = some v ∧ bT m (IntKind.wrap .i64 (5 + (IntKind.wrap .i64 (8 * (i : Int))))) = some w := by
      intro i hi
      obtain ⟨v, v0, v1, v2⟩ := num_at (m := m) (i := 2 * i) (by omega) hm
      obtain ⟨w, w0, w1, w2⟩ := num_at (m := m) (i := 2 * i + 1) (by omega) hm
      rw [w64 (n := 2 * (i : Int)) (by omega) (by omega), w64 (n := 2 * (i : Int) + 1) (by omega) (by omega), w64 (n := 8 * (i : Int)) (by omega) (by omega), w64 (by omega) (by omega), w64 (by omega) (by omega)]
      refine ⟨v, w, v0, ?_, ?_, ?_, ?_⟩
      · rw [← v1]; congr 1
      · rw [← w1]; congr 1
      · rw [← v2]; congr 1; omega
      · rw [← w2]; congr 1; omega
    have hlo : Ok (loopO (aO (n : Int) (body m, 0)) ((0 : Int), ([] : List Sp))) (fun r => r.length = n ∧ ∀ s ∈ r, 0 ≤ s.az) := by
      refine Ok.loop (fun st => ∃ i : Nat, st.1 = i ∧ i ≤ n ∧ st.2.length = i ∧ ∀ s ∈ st.2, 0 ≤ s.az) (fun st => ((n : Int) - st.1).toNat) ?_ ⟨0, rfl, Nat.zero_le _, rfl, by simp⟩
      rintro ⟨j, q⟩ ⟨i, i0, i1, i2, i3⟩
      simp only at i0 i2 i3
      subst i0
      unfold aO
      dsimp only
      refine Ok.iteD (fun hlt => ?_) (fun hge => Ok.st ⟨by omega, i3⟩)
      obtain ⟨v, w, v0, v1, v2, -, -⟩ := hpair i (by omega)
      rw [v1, Option.bind_some, v2, Option.bind_some, w64 (n := (i : Int) + 1) (by omega) (by omega)]
      refine Ok.bind (Ok.app (by simp; omega)) (fun x hx => ?_)
      subst hx
      refine Ok.nx ⟨i + 1, by simp, by omega, by simp [i2], fun s hs => ?_⟩ (by simp only; omega)
      rcases List.mem_append.1 hs with hs | hs
      · exact i3 s hs
      · rw [List.mem_singleton.1 hs]; exact v0
    have he : loopO (aO (n : Int) (body m, 0)) ((0 : Int), ([] : List Sp)) = loopO (dn (n : Int) m) ((0 : Int), ([] : List Sp)) := by
      refine jE (fun st : Int × List Sp => ∃ i : Nat, st.1 = (i : Int) ∧ i ≤ n) ?_ ?_ ⟨0, rfl, Nat.zero_le _⟩
      · rintro ⟨j, q⟩ ⟨i, i0, i1⟩
        simp only at i0
        subst i0
        unfold aO dn
        dsimp only
        by_cases hlt : i < n
        · obtain ⟨v, w, v0, v1, v2, v3, v4⟩ := hpair i hlt
          rw [v1, Option.bind_some, v2, Option.bind_some, v3, Option.bind_some, v4, Option.bind_some]
        · rw [if_neg (by simpa using hlt), if_neg (by simpa using hlt)]
      · rintro ⟨j, q⟩ ⟨j', q'⟩ ⟨i, i0, i1⟩ h'
        simp only at i0
        subst i0
        unfold aO at h'
        dsimp only at h'
        split at h'
        · rename_i hk
          have hk := of_decide_eq_true hk
          rw [w64 (n := (i : Int) + 1) (by omega) (by omega)] at h'
          simp only [Option.bind_eq_some_iff] at h'
          obtain ⟨x, -, y, -, z, -, h'⟩ := h'
          cases h'
          exact ⟨i + 1, by simp, by omega⟩
        · cases h'
    obtain ⟨o, e, ho, hpos⟩ := hlo
    rw [← he, e, Option.bind_some, Option.bind_some, ref_validq_at (by omega), Option.bind_some]
    unfold eE
    rw [span_validq_at (by omega), Option.bind_some]
    dsimp only
    cases hv : gE o with
    | false => exact Ok.ret ⟨rfl, by simp⟩
    | true =>
    rw [if_pos rfl, if_neg (show ¬ (!true) = true by decide)]
    by_cases h0 : n = 0
    · rw [if_pos (show ((o.length : Int) == 0) = true by rw [beq_iff_eq]; omega), Option.bind_some, if_neg (by simp), if_neg (show ¬ decide ((n : Int) > 0) = true by rw [h0]; decide)]
      exact Ok.ret ⟨rfl, by simp only; omega⟩
    have hg0 : getO o 0 = some (o[0]'(by omega)) := getO_at (i := 0) rfl (by omega)
    rw [if_neg (show ¬ ((o.length : Int) == 0) = true by rw [beq_iff_eq]; omega), inO_at (by omega) (by omega), Option.bind_some, hg0, Option.bind_some, if_pos (decide_eq_true (hpos _ (List.getElem_mem _))), if_pos (show decide ((n : Int) > 0) = true from decide_eq_true (by omega)), ho, w64 (n := (n : Int) - 1) (by omega) (by omega),
      inO_at (by omega) (by omega), Option.bind_some, Option.bind_some, getO_at (i := n - 1) (by omega) (by omega), Option.bind_some, Option.bind_some, Option.bind_some]
    by_cases h3 : (o[n - 1]'(by omega)).fTo ≤ 1073741825
    · rw [decide_eq_true h3, if_neg (by simp), if_neg (show ¬ decide ((o[n - 1]'(by omega)).fTo > 1073741825) = true by simpa using h3)]
      exact Ok.ret ⟨rfl, by simp only; omega⟩
    · rw [decide_eq_false h3, if_pos (by simp), if_pos (decide_eq_true (by omega))]
      exact Ok.ret ⟨rfl, by simp⟩
end Go.Dw.Se


set_option maxRecDepth 100000
set_option maxHeartbeats 4000000
namespace Go.Dw.Se
open Go.Dw Go.Proofs

structure WOk (i o : Nat) (its : List Tr) : Prop where
  hi : i ≤ 100
  ho : o ≤ 1000
  hl : its.length ≤ o
  hm : ∀ t ∈ its, t.aB.length ≤ 100 ∧ t.fAt = (i : Int) + 1 ∧ 0 ≤ t.aq ∧ t.aq < o
  hp : its.Pairwise fun a b => a.aq < b.aq
theorem or_at (d : Int) : gL [0, d] = some d := by
  unfold gL
  by_cases h : d = 0
  · subst h
    have : loopO (cy [0, 0]) 0 = some (.inl ()) := loopO_of (n := 4) (by kernel_rfl)
    rw [this]; rfl
  · have : loopO (cy [0, d]) 0 = some (.inr d) := loopO_of (n := 4) (by
      have h1 : cy [0, d] 0 = some (.next 1) := by kernel_rfl
      have h2 : cy [0, d] 1 = some (.stop (.inr d)) := by
        unfold cy
        rw [if_pos (by simp)]
        change (some d).bind _ = _
        rw [Option.bind_some, if_pos (by simpa using h)]
      simp only [loopN, h1, h2])
    rw [this]; rfl
theorem order_at {x y : Tr} (h : x.fAt = y.fAt) (h1 : 0 ≤ x.aq ∧ x.aq ≤ 1000) (h2 : 0 ≤ y.aq ∧ y.aq ≤ 1000) : ew x y = some (x.aq - y.aq) := by
  unfold ew
  rw [h, Int.sub_self, show IntKind.wrap .i64 0 = 0 from rfl, w64 (by omega) (by omega), or_at]; rfl
theorem WOk.valid {i o : Nat} {its : List Tr} (h : WOk i o its) : cE ⟨i, o, its⟩ = some true := by
  obtain ⟨hi, ho, hl, hm, hp⟩ := h
  have hpw := List.pairwise_iff_getElem.1 hp
  have : Ok (loopO (ev ⟨i, o, its⟩) 0) (fun r => r = .inl ()) := by
    refine Ok.loop (fun k => 0 ≤ k ∧ k ≤ its.length) (fun k => ((its.length : Int) - k).toNat) ?_ ⟨Int.le_refl _, by simp⟩
    intro k ⟨h0, h1⟩
    unfold ev
    dsimp only
    refine Ok.iteD (fun hlt => ?_) (fun _ => Ok.st rfl)
    obtain ⟨j, rfl⟩ : ∃ j : Nat, k = j := ⟨k.toNat, by omega⟩
    have hj : j < its.length := by omega
    obtain ⟨m1, m2, m3, m4⟩ := hm _ (List.getElem_mem hj)
    rw [getO_at rfl hj, Option.bind_some, if_neg (by simp; omega), w64 (n := (i : Int) + 1) (by omega) (by omega), lin_t (by omega), Option.bind_some, if_neg (by decide), w64 (n := (o : Int) - 1) (by omega) (by omega), lin_t (by omega), Option.bind_some,
      if_neg (by decide), w64 (n := (j : Int) + 1) (by omega) (by omega)]
    refine Ok.iteD (fun hpos => ?_) (fun _ => Ok.nx ⟨by omega, by omega⟩ (by omega))
    have hj' : j - 1 < its.length := by omega
    obtain ⟨n1, n2, n3, n4⟩ := hm _ (List.getElem_mem hj')
    have h3 := hpw (j - 1) j hj' hj (by omega)
    rw [w64 (by omega) (by omega), getO_at (i := j - 1) (by omega) hj', Option.bind_some, order_at (by rw [m2, n2]) (by omega) (by omega), Option.bind_some, if_neg (by simp; omega)]
    exact Ok.nx ⟨by omega, by omega⟩ (by omega)
  unfold cE
  rw [lin_t (by simp only; omega), Option.bind_some, if_neg (by decide), lin_t (by simp only; omega), Option.bind_some, if_neg (by decide), if_neg (by simp; omega), this.eq]; rfl
theorem WOk.snoc {i o : Nat} {its : List Tr} (h : WOk i o its) (ho : o < 1000) {m : List UInt8} (hml : m.length ≤ 100) : WOk i (o + 1) (its ++ [⟨(i : Int) + 1, o, m⟩]) := by
  obtain ⟨h1, h2, h3, h4, h5⟩ := h
  refine ⟨h1, by omega, by simp; omega, fun t ht => ?_, List.pairwise_append.2 ⟨h5, by simp, fun a ha b hb => ?_⟩⟩
  · rcases List.mem_append.1 ht with ht | ht
    · have := h4 t ht; omega
    · rw [List.mem_singleton.1 ht]; exact ⟨hml, rfl, by simp only; omega, by simp only; omega⟩
  · rw [List.mem_singleton.1 hb]; exact (h4 a ha).2.2.2
theorem bs_at {i o : Nat} {its : List Tr} (h : WOk i o its) (m : List UInt8) : aH ⟨(i : Int) + 1, o, m⟩ its = some ((its.length : Int), false, its) := by
  obtain ⟨h1, h2, h3, h4, h5⟩ := h
  have : Ok (loopO (aJ its ⟨(i : Int) + 1, o, m⟩) (0, (its.length : Int))) (fun r => r = (its.length : Int)) := by
    refine Ok.loop (fun s => 0 ≤ s.1 ∧ s.1 ≤ s.2 ∧ s.2 = its.length) (fun s => ((its.length : Int) - s.1).toNat) ?_ ⟨Int.le_refl _, by simp, rfl⟩
    rintro ⟨a, b⟩ ⟨i0, i1, i2⟩
    simp only at i0 i1 i2
    subst i2
    unfold aJ
    dsimp only
    refine Ok.iteD (fun hlt => ?_) (fun hge => Ok.st (by omega))
    obtain ⟨x, hx, hx0, hx1⟩ : ∃ x : Nat, IntKind.wrap .i64 (shrI .u64 (IntKind.wrap .u64 (IntKind.wrap .i64 (a + its.length))) 1) = x ∧ a ≤ x ∧ x < its.length := by
      rw [w64 (n := a + its.length) (by omega) (by omega)]
      obtain ⟨y, hy⟩ : ∃ y : Nat, a + its.length = y := ⟨(a + its.length).toNat, by omega⟩
      rw [hy]
      have hyb : y ≤ 2000 := by omega
      have hsh : ∀ y, y < 2001 → IntKind.wrap .i64 (shrI .u64 (IntKind.wrap .u64 (y : Nat)) 1) = ((y / 2 : Nat) : Int) := by
        intro y hy
        have hC : ((List.range 2001).all fun y => decide (IntKind.wrap .i64 (shrI .u64 (IntKind.wrap .u64 (y : Nat)) 1) = ((y / 2 : Nat) : Int))) = true := by kernel_rfl
        exact of_decide_eq_true (all1 hC hy)
      refine ⟨y / 2, hsh y (by omega), by omega, by omega⟩
    rw [hx, inO_at (by omega) (by omega), Option.bind_some, getO_at (i := x) rfl (by omega), Option.bind_some]
    obtain ⟨m1, m2, m3, m4⟩ := h4 _ (List.getElem_mem (show x < its.length by omega))
    rw [order_at (by rw [m2]) (by omega) (by simp only; omega), Option.bind_some, if_pos (decide_eq_true (by simp only; omega)), w64 (by omega) (by omega)]
    exact Ok.nx ⟨by simp only; omega, by simp only; omega, rfl⟩ (by simp only; omega)
  unfold aH
  rw [this.eq, Option.bind_some, if_neg (by simp)]
theorem WOk.send {i o : Nat} {its : List Tr} (h : WOk i o its) (ho : o < 900) {m : List UInt8} (hml : m.length ≤ 100) : fP ⟨i, o, its⟩ m ⟨false, 0, 0⟩ = some (⟨i, ((o + 1 : Nat) : Int), its ++ [⟨(i : Int) + 1, o, m⟩]⟩, 0) := by
  have hv := h.valid
  have hb := bs_at h m
  obtain ⟨h1, h2, h3, h4, h5⟩ := h
  unfold fP
  have hf : bM ⟨false, 0, 0⟩ = some true := by kernel_rfl
  rw [hv, Option.bind_some, if_neg (by decide), hf, Option.bind_some, if_neg (by decide), if_neg (by simp)]
  unfold d7
  have hw : IntKind.wrap .i64 ((1 : Int) + (⟨false, 0, 0⟩ : ae).cV) = 1 := by rfl
  rw [hw]
  dsimp only
  rw [if_neg (by simp; omega), if_neg (by simp; omega), w64 (n := (its.length : Int) + 1) (by omega) (by omega), if_neg (by simp; omega), il (by omega), Option.bind_some]
  have hl : loopO (cz 1 ⟨i, o, its⟩ ⟨false, 0, 0⟩ m) (0, its) = some (its ++ [⟨(i : Int) + 1, o, m⟩]) := loopO_of (n := 3) (by
    have e1 : cz 1 ⟨i, o, its⟩ ⟨false, 0, 0⟩ m (0, its) = some (.next (1, its ++ [⟨(i : Int) + 1, o, m⟩])) := by
      unfold cz
      dsimp only
      have hat : IntKind.wrap .i64 ((IntKind.wrap .i64 ((IntKind.wrap .i64 ((i : Int) + 1)) + 0)) + 0) = (i : Int) + 1 := by
        simp only [Int.add_zero, w64 (n := (i : Int) + 1) (by omega) (by omega)]
      rw [if_pos (by decide), hat, hb, Option.bind_some]
      unfold bS
      dsimp only
      rw [subO_at (by omega) (by omega) (by omega), Option.bind_some, if_neg (by simp), if_pos (by simp)]
      unfold appO
      rw [if_pos (by simp; omega)]; rfl
    have e2 : cz 1 ⟨i, o, its⟩ ⟨false, 0, 0⟩ m (1, its ++ [⟨(i : Int) + 1, o, m⟩]) = some (.stop (its ++ [⟨(i : Int) + 1, o, m⟩])) := by
      unfold cz
      dsimp only
      rw [if_neg (by decide)]
    simp only [loopN, e1, e2])
  rw [hl, Option.bind_some, w64 (by omega) (by omega)]; rfl
end Go.Dw.Se


set_option maxRecDepth 100000
set_option maxHeartbeats 4000000
namespace Go.Dw.Se
open Go.Dw Go.Proofs

structure Del (i r : Nat) (dl : List Arv) : Prop where
  len : dl.length = r
  seq : ∀ j (h : j < dl.length), dl[j].kK = j
  at_ : ∀ a ∈ dl, 0 ≤ a.fAt ∧ a.fAt ≤ i
  ord : dl.Pairwise fun a b => a.fAt ≤ b.fAt
theorem Del.snoc {i r : Nat} {dl : List Arv} (h : Del i r dl) (d : List UInt8) : Del i (r + 1) (dl ++ [⟨(r : Int), i, d⟩]) := by
  obtain ⟨h1, h2, h3, h4⟩ := h
  refine ⟨by simp [h1], fun j hj => ?_, fun a ha => ?_, List.pairwise_append.2 ⟨h4, by simp, fun a ha b hb => ?_⟩⟩
  · by_cases hlt : j < dl.length
    · rw [List.getElem_append_left hlt]; exact h2 j hlt
    · have : j = dl.length := by simp at hj; omega
      subst this
      simp [h1]
  · rcases List.mem_append.1 ha with ha | ha
    · exact h3 a ha
    · rw [List.mem_singleton.1 ha]; simp only; omega
  · rw [List.mem_singleton.1 hb]; exact (h3 a ha).2
abbrev ses (Sz I i r o : Nat) (K F : Nat) (D : List (List UInt8)) (its : List Tr) (dl : List Arv) : Ses := ⟨i, I, K, ⟨Sz, F, D⟩, rcv r, ⟨i, o, its⟩, ⟨i, 0, []⟩, dl⟩
structure SOk (Sz I i n r o : Nat) (K F : Nat) (D : List (List UInt8)) (its : List Tr) (dl : List Arv) : Prop where
  hw : WOk i o its
  hn : n ≤ 24
  hr : r ≤ n
  hK : K ≤ n
  hF : F + D.length = n
  hD : D.length ≤ Sz
  hS : 1 ≤ Sz ∧ Sz ≤ 5
  hI : 1 ≤ I ∧ I ≤ 3
  hd : ∀ d ∈ D, okS d
  hi : i ≤ 12
  del : Del i r dl
theorem cont_at {D : List (List UInt8)} (hd : ∀ d ∈ D, okS d) (hl : D.length ≤ 1000) : aK D = some false := by
  have : Ok (loopO (aL D) 0) (fun r => r = .inl ()) := by
    refine Ok.loop (fun k => 0 ≤ k ∧ k ≤ D.length) (fun k => ((D.length : Int) - k).toNat) ?_ ⟨Int.le_refl _, by simp⟩
    intro k ⟨h0, h1⟩
    unfold aL
    refine Ok.iteD (fun hlt => ?_) (fun _ => Ok.st rfl)
    refine Ok.bind (Ok.get (by omega) (by omega)) (fun x hx => ?_)
    have := (hd x hx.1).len
    unfold ck
    rw [Option.bind_some, this, if_neg (by decide), w64 (by omega) (by omega)]
    exact Ok.nx ⟨by omega, by omega⟩ (by omega)
  unfold aK aU
  rw [this.eq]; rfl
theorem lN {Sz F n : Nat} {D : List (List UInt8)} (h : F + D.length = n) (hn : n ≤ 100) : aZ ⟨Sz, F, D⟩ = some (n : Int) := by
  unfold aZ
  dsimp only
  rw [w64 (by omega) (by omega)]
  exact congrArg some (by omega)
theorem sval_at {Sz F n : Nat} {D : List (List UInt8)} (h : F + D.length = n) (hn : n ≤ 24) (hS : 1 ≤ Sz ∧ Sz ≤ 5) (hD : D.length ≤ Sz) (hd : ∀ d ∈ D, okS d) : bj ⟨Sz, F, D⟩ = some true := by
  unfold bj
  rw [din_t (by simp only; omega), Option.bind_some, if_neg (by decide), din_t (by simp only; omega), Option.bind_some, if_neg (by decide), if_neg (by simp; omega), lN h (by omega), Option.bind_some, if_neg (by simp; omega),
    cont_at hd (by omega)]
  rfl
theorem mGet_no {k : Int} {z : Bool} : ∀ {l : List (Int × Bool)}, (∀ e ∈ l, e.1 ≠ k) → mGet (fun a b => a == b) k z l = z
  | [], _ => rfl
  | e :: l, h => by
    unfold mGet
    rw [if_neg (by have := h e (by simp); simpa using fun he : k = e.1 => this he.symm)]
    exact mGet_no fun x hx => h x (by simp [hx])
theorem mPut_mem {k : Int} {v : Bool} : ∀ {l : List (Int × Bool)} {e : Int × Bool}, e ∈ mPut (fun a b => a == b) k v l → e.1 = k ∨ e ∈ l
  | [], e, h => by
    unfold mPut at h
    rw [List.mem_singleton.1 h]; exact .inl rfl
  | x :: l, e, h => by
    unfold mPut at h
    split at h
    · rcases List.mem_cons.1 h with rfl | h
      · exact .inl rfl
      · exact .inr (by simp [h])
    · rcases List.mem_cons.1 h with rfl | h
      · exact .inr (by simp)
      · rcases mPut_mem h with h | h
        · exact .inl h
        · exact .inr (by simp [h])
theorem del_at {Sz I i n r o K F : Nat} {D : List (List UInt8)} {its : List Tr} {dl : List Arv} (h : SOk Sz I i n r o K F D its dl) : cm (ses Sz I i r o K F D its dl) = some true := by
  have hr := h.hr; have hn := h.hn; have hi := h.hi
  obtain ⟨d1, d2, d3, d4⟩ := h.del
  have hp := List.pairwise_iff_getElem.1 d4
  have hrc := (kQ (r := r) (by omega)).2.2.2
  unfold cm
  have : Ok (loopO (bR (ses Sz I i r o K F D its dl)) (0, 0, ([] : List (Int × Bool)))) (fun r => r = .inl ()) := by
    refine Ok.loop (fun s => ∃ j : Nat, s.2.1 = j ∧ j ≤ dl.length ∧ 0 ≤ s.1 ∧ (∀ k (hk : k < dl.length), j ≤ k → s.1 ≤ dl[k].fAt) ∧ ∀ e ∈ s.2.2, e.1 < j) (fun s => ((dl.length : Int) - s.2.1).toNat) ?_
      ⟨0, rfl, Nat.zero_le _, Int.le_refl _, fun k hk _ => (d3 _ (List.getElem_mem hk)).1, fun e he => by cases he⟩
    rintro ⟨a, k, s⟩ ⟨j, i0, i1, i2, i3, i4⟩
    simp only at i0 i2 i3 i4
    subst i0
    unfold bR ses
    dsimp only
    refine Ok.iteD (fun hlt => ?_) (fun _ => Ok.st rfl)
    have hj : j < dl.length := by omega
    have e1 := d2 j hj
    have e2 := d3 _ (List.getElem_mem hj)
    have e3 := i3 j hj (Nat.le_refl _)
    rw [getO_at rfl hj, Option.bind_some, e1, mGet_no (fun e he => by have := i4 e he; omega), if_neg (by decide), lG (by omega), Option.bind_some, if_neg (by decide), show (rcv r).aN = eK r from rfl, (hrc j (by omega)).2.2 (by omega),
      Option.bind_some, if_neg (by decide), lG (by omega), Option.bind_some, if_neg (by decide), w64 (by omega) (by omega)]
    refine Ok.nx ⟨j + 1, by simp, by omega, e2.1, fun k hk hjk => hp j k hj hk (by omega), fun e he => ?_⟩ (by simp only; omega)
    rcases mPut_mem he with h | h
    · rw [h]; omega
    · have := i4 e h; omega
  rw [this.eq, Option.bind_some]
  dsimp only
  exact congrArg some (decide_eq_true (by omega))
theorem SOk.valid {Sz I i n r o K F : Nat} {D : List (List UInt8)} {its : List Tr} {dl : List Arv} (h : SOk Sz I i n r o K F D its dl) : b8 (ses Sz I i r o K F D its dl) = some true := by
  have hd := del_at h
  have hup : cE ⟨i, 0, []⟩ = some true := WOk.valid (o := 0) ⟨by have := h.hi; omega, by omega, by simp, by simp, by simp⟩
  obtain ⟨hw, hn, hr, hK, hF, hD, hS, hI, hdd, hi, hdel⟩ := h
  unfold b8
  simp only [ses] at hd ⊢
  rw [lG (by omega), Option.bind_some, if_pos rfl, lG (by omega), Option.bind_some, if_pos rfl, sval_at hF hn hS hD hdd, Option.bind_some, if_pos rfl, lN hF (by omega), Option.bind_some, lG (by omega), Option.bind_some, if_pos rfl,
    (kQ (r := r) (by omega)).2.1, Option.bind_some, if_pos rfl, hw.valid, Option.bind_some, if_pos rfl]
  have hup' : cE { aA := (i : Int), aq := 0, av := [] } = some true := hup
  rw [hup', Option.bind_some, if_pos rfl, if_pos (by simp), if_pos (by simp), hd]; rfl
theorem SOk.copied {Sz I i n r o K F : Nat} {D : List (List UInt8)} {its : List Tr} {dl : List Arv} (h : SOk Sz I i n r o K F D its dl) : cd (ses Sz I i r o K F D its dl) = some (ses Sz I i r o K F D its dl) := by
  have h1 := h.hw.hl; have h2 := h.hw.ho; have h3 := h.hD; have h4 := h.hS; have h5 := h.del.len; have h6 := h.hr; have h7 := h.hn
  have hg : (eK r).length ≤ 1 := by unfold eK; split <;> simp
  unfold cd ses rcv
  dsimp only
  rw [il (by omega), Option.bind_some, il (by omega), Option.bind_some, il (by simp), Option.bind_some, il (by omega), Option.bind_some, il (by simp), Option.bind_some, il (by omega), Option.bind_some]
theorem SOk.push {Sz I i n r o K F : Nat} {D : List (List UInt8)} {its : List Tr} {dl : List Arv} (h : SOk Sz I i n r o K F D its dl) (hn' : n < 24) (ho : o < 800) {d : List UInt8} (hd : okS d) :
    ∃ F' D', F' ≤ n ∧ b7 (ses Sz I i r o K F D its dl) d ⟨false, 0, 0⟩ = some (ses Sz I i r (o + 1) K F' D' (its ++ [⟨(i : Int) + 1, o, mK n F' d⟩]) dl, (n : Int), 0) ∧ SOk Sz I i (n + 1) r (o + 1) K F' D' (its ++ [⟨(i : Int) + 1, o, mK n F' d⟩]) dl := by
  have hv := h.valid
  have hc := h.copied
  obtain ⟨hw, hn, hr, hK, hF, hD, hS, hI, hdd, hi, hdel⟩ := h
  obtain ⟨F', D', h1, h2, h3, h4, h5⟩ : ∃ F' D', F' ≤ n ∧ fT ⟨Sz, F, D⟩ d = some (⟨Sz, F', D'⟩, (n : Int), 0) ∧ F' + D'.length = n + 1 ∧ D'.length ≤ Sz ∧ ∀ d ∈ D', okS d := by
    have hall : ∀ x ∈ D ++ [d], okS x := fun x hx => by
      rcases List.mem_append.1 hx with hx | hx
      · exact hdd x hx
      · rw [List.mem_singleton.1 hx]; exact hd
    have ha : appO D [d] 16 = some (D ++ [d]) := by unfold appO; rw [if_pos (by simp; omega)]
    unfold fT
    rw [sval_at hF hn hS hD hdd, Option.bind_some, if_neg (by decide), lN hF (by omega), Option.bind_some, hd.len, if_neg (by decide), if_neg (by simp; omega)]
    dsimp only
    rw [ha, Option.bind_some]
    by_cases hk : D.length = Sz
    · refine ⟨F + 1, (D ++ [d]).drop 1, by omega, ?_, by simp; omega, by simp; omega, fun x hx => hall x (List.mem_of_mem_drop hx)⟩
      have hcu : cutO (D ++ [d]) 1 ((D ++ [d]).length : Int) = some ((D ++ [d]).drop 1) := by
        unfold cutO
        rw [if_pos ⟨by omega, by simp; omega, Int.le_refl _⟩]
        rw [show Int.toNat 1 = 1 from rfl, List.take_of_length_le (by simp)]
      rw [if_pos (by simp; omega), hcu, Option.bind_some, w64 (by omega) (by omega)]; rfl
    · exact ⟨F, D ++ [d], by omega, by rw [if_neg (by simpa using fun he : (D.length : Int) = Sz => hk (by omega))], by simp; omega, by simp; omega, hall⟩
  have hm := msgD_len (a := n) (b := F') hd
  refine ⟨F', D', h1, ?_, ⟨hw.snoc (by omega) (by omega), by omega, by omega, by omega, h3, h4, hS, hI, h5, hi, hdel⟩⟩
  unfold b7
  have hf : bM ⟨false, 0, 0⟩ = some true := by kernel_rfl
  rw [hv, Option.bind_some, if_neg (by decide), hf, Option.bind_some, if_neg (by decide), hc, Option.bind_some]
  simp only [ses]
  rw [h2, Option.bind_some]
  dsimp only
  rw [if_neg (by decide), data_at (by omega) (by omega) hd, Option.bind_some]
  dsimp only
  rw [hw.send (by omega) (by omega), Option.bind_some]
  dsimp only
  rw [if_neg (by decide)]
end Go.Dw.Se


set_option maxRecDepth 100000
set_option maxHeartbeats 4000000
namespace Go.Dw.Se
open Go.Dw Go.Proofs

inductive Ch (n : Nat) : Nat → List Tr → Prop
  | nil : Ch n n []
  | stat {r : Nat} {t : Tr} {l : List Tr} (a b : Nat) (h1 : a ≤ r) (h2 : a ≤ b) (h3 : b ≤ n) (h : t.aB = mL a b) (hl : Ch n r l) : Ch n r (t :: l)
  | data {r : Nat} {t : Tr} {l : List Tr} (f : Nat) (d : List UInt8) (h1 : f ≤ r) (hd : okS d) (h : t.aB = mK r f d) (hl : Ch n (r + 1) l) : Ch n r (t :: l)
theorem Ch.le {n r : Nat} {l : List Tr} (h : Ch n r l) : r ≤ n := by
  induction h with
  | nil => exact Nat.le_refl _
  | stat => assumption
  | data => omega
theorem Ch.snoc {n r : Nat} {l : List Tr} (h : Ch n r l) {f : Nat} {d : List UInt8} (hf : f ≤ n) (hd : okS d) {t : Tr} (ht : t.aB = mK n f d) : Ch (n + 1) r (l ++ [t]) := by
  induction h with
  | nil => exact .data f d hf hd ht .nil
  | stat a b h1 h2 h3 h hl ih => exact .stat a b h1 h2 (by omega) h ih
  | data f' d' h1 hd' h hl ih => exact .data f' d' h1 hd' h ih
def New (r0 i : Nat) (dl : List Arv) : Prop := ∀ j (h : j < dl.length), r0 ≤ j → dl[j].fAt = i
theorem New.snoc {r0 i : Nat} {dl : List Arv} (h : New r0 i dl) (x : Int) (d : List UInt8) : New r0 i (dl ++ [⟨x, i, d⟩]) := fun j hj hr => by
  by_cases hlt : j < dl.length
  · rw [List.getElem_append_left hlt]; exact h j hlt hr
  · have : j = dl.length := by simp at hj; omega
    subst this
    simp
end Go.Dw.Se


set_option maxRecDepth 100000
set_option maxHeartbeats 4000000
namespace Go.Dw.Se
open Go.Dw Go.Proofs

def co (l : List Int) (a : Int) : Prop := 0 ≤ a ∧ a ≤ l.length ∧ l.length ≤ 500
theorem ek (k : Int) {l : List Int} {a : Int} (hd : co l a) (h0 : 1 ≤ k) (h1 : k ≤ 1000000) : Ok (bp k ⟨l, a⟩) (fun r => 0 ≤ r.1 ∧ r.1 < k ∧ co r.2.fL r.2.fAt) := by
  obtain ⟨i0, i1, i2⟩ := hd
  unfold bp
  dsimp only
  refine Ok.iteD (fun _ => Ok.ret ⟨Int.le_refl _, by omega, i0, i1, i2⟩) (fun hlt => ?_)
  refine Ok.iteD (fun _ => by omega) (fun _ => ?_)
  refine Ok.bind (Ok.get (by omega) (by omega)) (fun x _ => ?_)
  refine Ok.bind (Ok.rem (by omega)) (fun y hy => ?_)
  subst hy
  have hl : x.tmod k < k := Int.tmod_lt_of_pos _ (by omega)
  have hg : -k < x.tmod k := by
    rcases Int.le_total 0 x with h | h
    · have := Int.tmod_nonneg k h; omega
    · have e : x.tmod k = -((-x).tmod k) := by rw [Int.neg_tmod]; omega
      have := Int.tmod_lt_of_pos (-x) (show 0 < k by omega)
      omega
  rw [w64 (n := a + 1) (by omega) (by omega)]
  refine Ok.iteD (fun _ => ?_) (fun _ => Ok.ret ⟨by simp only; omega, by simp only; omega, ?_, ?_, i2⟩)
  · rw [w64 (by omega) (by omega)]
    exact Ok.ret ⟨by simp only; omega, by simp only; omega, by simp only; omega, by simp only; omega, i2⟩
  · simp only; omega
  · simp only; omega
theorem pick_ok (q : List Int) {l : List Int} {a : Int} (hd : co l a) (h0 : q ≠ []) (h1 : q.length ≤ 1000) : Ok (ja q ⟨l, a⟩) (fun r => r.1 ∈ q ∧ co r.2.fL r.2.fAt) := by
  unfold ja
  have := List.length_pos_iff.2 h0
  refine Ok.bind (ek _ hd (by omega) (by omega)) (fun x hx => ?_)
  refine Ok.bind (Ok.get hx.1 hx.2.1) (fun y hy => ?_)
  exact Ok.ret ⟨hy.1, hx.2.2⟩
end Go.Dw.Se



set_option maxRecDepth 100000
set_option maxHeartbeats 4000000
namespace Go.Dw.Se
open Go.Dw Go.Proofs

theorem data_ok (a b : Int) {d : List UInt8} (hd : d.length ≤ 1000) : Ok (bZ a b d) (fun r => kT a b d = some r ∧ r.1.length ≤ 5000) := by
  unfold bZ kT
  rw [uin_eq, uin_eq]
  obtain ⟨p, hp⟩ : ∃ p, aX a 0 1073741824 = some p := by unfold aX; split <;> exact ⟨_, rfl⟩
  obtain ⟨q, hq⟩ : ∃ q, aX b 0 1073741825 = some q := by unfold aX; split <;> exact ⟨_, rfl⟩
  rw [hp, hq, Option.bind_some, Option.bind_some, Option.bind_some, Option.bind_some]
  cases p with
  | false => exact Ok.ret ⟨rfl, by simp⟩
  | true =>
  cases q with
  | false => exact Ok.ret ⟨rfl, by simp⟩
  | true =>
  simp only [Bool.not_true, Bool.false_eq_true, if_false]
  obtain ⟨x, e1, e2, hx⟩ := jm (s := [68]) (l := [a, b]) (by simp) (by simp)
  simp only [List.length_cons, List.length_nil] at hx
  have hc : catO x d = some (x ++ d) := by unfold catO; rw [if_pos (by omega)]
  have hl : (x ++ d).length ≤ 2000 := by simp only [List.length_append]; omega
  have h4 := gD (s := x ++ d) (by omega)
  rw [e1, e2, Option.bind_some, Option.bind_some, hc, Option.bind_some, Option.bind_some, jb (by omega), eH (by omega), Option.bind_some]
  refine Ok.iteD (fun h => ?_) (fun h => ?_)
  · rw [if_pos (decide_eq_true h)]; exact Ok.ret ⟨rfl, by simp⟩
  · rw [if_neg (by simpa using h)]
    exact Ok.ret ⟨rfl, by simp only [List.length_append] at hl ⊢; omega⟩
structure SnOk (s : ah) : Prop where
  sz : 1 ≤ s.aF ∧ s.aF ≤ 256
  fi : 0 ≤ s.aw ∧ s.aw ≤ 100
  le : (s.aB.length : Int) ≤ s.aF
  da : ∀ d ∈ s.aB, d.length ≤ 4000
theorem SnOk.ref {s : ah} (h : SnOk s) : ip s = some true := by
  obtain ⟨h1, h2, h3, h4⟩ := h
  unfold ip
  have : Ok (loopO (iD s) 0) (fun r => r = .inl ()) := by
    refine Ok.loop (fun k => 0 ≤ k ∧ k ≤ s.aB.length) (fun k => ((s.aB.length : Int) - k).toNat) ?_ ⟨Int.le_refl _, by simp⟩
    intro k ⟨i0, i1⟩
    unfold iD
    refine Ok.iteD (fun hlt => ?_) (fun _ => Ok.st rfl)
    refine Ok.bind (Ok.get (by omega) (by omega)) (fun x hx => ?_)
    have := h4 x hx.1
    rw [if_neg (by simp; omega), w64 (by omega) (by omega)]
    exact Ok.nx ⟨by omega, by omega⟩ (by omega)
  rw [uin_eq, uin_eq, lG (by omega), Option.bind_some, if_neg (by decide), lG (by omega), Option.bind_some, if_neg (by decide), if_neg (by simp; omega), w64 (by omega) (by omega), if_neg (by simp; omega), this.eq]; rfl
theorem SnOk.code {s : ah} (h : SnOk s) : bj s = some true := by
  obtain ⟨h1, h2, h3, h4⟩ := h
  have : Ok (loopO (aL s.aB) 0) (fun r => r = .inl ()) := by
    refine Ok.loop (fun k => 0 ≤ k ∧ k ≤ s.aB.length) (fun k => ((s.aB.length : Int) - k).toNat) ?_ ⟨Int.le_refl _, by simp⟩
    intro k ⟨i0, i1⟩
    unfold aL
    refine Ok.iteD (fun hlt => ?_) (fun _ => Ok.st rfl)
    refine Ok.bind (Ok.get (by omega) (by omega)) (fun x hx => ?_)
    have := h4 x hx.1
    unfold ck
    rw [Option.bind_some, if_neg (by simp; omega), w64 (by omega) (by omega)]
    exact Ok.nx ⟨by omega, by omega⟩ (by omega)
  unfold bj
  have hn : aZ s = some (s.aw + s.aB.length) := by unfold aZ; rw [w64 (by omega) (by omega)]
  rw [din_t (by omega), Option.bind_some, if_neg (by decide), din_t (by omega), Option.bind_some, if_neg (by decide), if_neg (by simp; omega), hn, Option.bind_some, if_neg (by simp; omega)]
  unfold aK aU
  rw [this.eq]; rfl
theorem status_ok {s : ah} (h : SnOk s) : Ok (bG s) (fun r => i5 s = some r ∧ r.1.length ≤ 5000) := by
  have hc := h.code
  have hr := h.ref
  obtain ⟨h1, h2, h3, h4⟩ := h
  unfold bG i5
  have hn : aZ s = some (s.aw + s.aB.length) := by unfold aZ; rw [w64 (by omega) (by omega)]
  have hn' : cr s = some (s.aw + s.aB.length) := by unfold cr; rw [w64 (by omega) (by omega)]
  obtain ⟨x, e1, e2, hx⟩ := jm (s := [83]) (l := [s.aw, s.aw + s.aB.length]) (by simp) (by simp)
  simp only [List.length_cons, List.length_nil] at hx
  have h4 := gD (s := x) (by omega)
  rw [hc, hr, Option.bind_some, Option.bind_some, if_neg (by decide), if_neg (by decide), hn, hn', Option.bind_some, Option.bind_some, e1, e2, Option.bind_some, Option.bind_some, jb (by omega), eH (by omega)]
  exact Ok.ret ⟨rfl, by simp only [List.length_append]; omega⟩
theorem rpush_ok {s : ah} (h : SnOk s) (hf : s.aw ≤ 99) {d : List UInt8} (hd : d.length ≤ 4000) : Ok (kS s d) (fun r => SnOk r.1 ∧ r.1.aw ≤ s.aw + 1) := by
  have hr := h.ref
  obtain ⟨h1, h2, h3, h4⟩ := h
  have hn' : cr s = some (s.aw + s.aB.length) := by unfold cr; rw [w64 (by omega) (by omega)]
  unfold kS
  rw [hr, Option.bind_some, if_neg (by decide), if_neg (by simp; omega), hn', Option.bind_some, if_neg (by simp; omega)]
  refine Ok.bind (Ok.app (by simp; omega)) (fun x hx => ?_)
  subst hx
  refine Ok.bind (Ok.app (by simp; omega)) (fun x hx => ?_)
  subst hx
  have hall : ∀ x ∈ [] ++ s.aB ++ [d], x.length ≤ 4000 := fun x hx => by
    rcases List.mem_append.1 hx with hx | hx
    · exact h4 x (by simpa using hx)
    · rw [List.mem_singleton.1 hx]; exact hd
  refine Ok.iteD (fun hg => ?_) (fun hg => ?_)
  · refine Ok.bind (Ok.cut (by omega) (by simp; omega) (by omega)) (fun y hy => ?_)
    rw [Option.bind_some, w64 (by omega) (by omega)]
    have hyl : y.length ≤ s.aB.length := by subst hy; simp
    have hym : ∀ d ∈ y, d.length ≤ 4000 := by
      subst hy
      exact fun d hd => hall d (List.mem_of_mem_drop (List.mem_of_mem_take hd))
    refine Ok.ret ⟨⟨h1, ?_, ?_, hym⟩, ?_⟩
    · simp only; omega
    · simp only; omega
    · simp only; omega
  · rw [Option.bind_some]
    refine Ok.ret ⟨⟨h1, h2, ?_, hall⟩, ?_⟩
    · simp only [List.nil_append, List.length_append, List.length_cons, List.length_nil] at hg ⊢; omega
    · simp only; omega
theorem dsender_ok {l : List Int} {a : Int} (hd : co l a) : Ok (jz ⟨l, a⟩) (fun r => SnOk r.1 ∧ co r.2.fL r.2.fAt) := by
  unfold jz
  refine Ok.bind (pick_ok [1, 2, 4, 8] hd (by simp) (by simp)) (fun x1 h1 => ?_)
  have hx1 := h1.1
  simp only [List.mem_cons, List.not_mem_nil, or_false] at hx1
  have hnew : lP x1.1 = some (⟨x1.1, 0, []⟩, 0) := by
    unfold lP
    rw [uin_eq, lG (by omega), Option.bind_some, if_neg (by decide)]
  rw [hnew, Option.bind_some]
  refine Ok.bind (ek 9 h1.2 (by omega) (by omega)) (fun x3 h3 => ?_)
  refine Ok.bind (P := fun o => SnOk ⟨o.1, o.2.1, o.2.2.1⟩ ∧ co o.2.2.2.1 o.2.2.2.2) ?_ (fun o ho => Ok.ret ho)
  refine Ok.loop (fun s => 0 ≤ s.1 ∧ s.1 ≤ 9 ∧ SnOk ⟨s.2.2.2.1, s.2.2.2.2.1, s.2.2.2.2.2⟩ ∧ s.2.2.2.2.1 + s.1 ≤ 9 ∧ co s.2.1 s.2.2.1) (fun s => s.1.toNat) ?_ ⟨h3.1, by simp only; omega, ⟨by simp only; omega, by simp only; omega, by simp; omega, by simp⟩, by simp only; omega, h3.2.2⟩
  rintro ⟨s4, s5, s6, s7, s8, s9⟩ ⟨i0, i1, i2, i3, i4⟩
  simp only at i0 i1 i2 i3 i4
  unfold la
  dsimp only
  refine Ok.iteD (fun hp => ?_) (fun _ => Ok.st ⟨i2, i4⟩)
  refine Ok.bind (ek 4 i4 (by omega) (by omega)) (fun x hx => ?_)
  refine Ok.bind (P := fun y => y.length ≤ 4000) ?_ (fun y hy => ?_)
  · refine (Ok.get (l := [[97], [98, 99], [], [120, 121, 122]]) hx.1 (by simpa using hx.2.1)).mono fun y hy => ?_
    have := hy.1
    simp only [List.mem_cons, List.not_mem_nil, or_false] at this
    rcases this with rfl | rfl | rfl | rfl <;> simp
  have hfi := i2.fi
  simp only at hfi
  refine Ok.bind (rpush_ok i2 (by simp only; omega) hy) (fun z hz => ?_)
  have hz2 := hz.2
  simp only at hz2
  rw [w64 (by omega) (by omega)]
  exact Ok.nx ⟨by simp only; omega, by simp only; omega, hz.1, by simp only; omega, hx.2.2⟩ (by simp only; omega)
theorem dspans_ok {l : List Int} {a : Int} (hd : co l a) : Ok (je ⟨l, a⟩) (fun r => r.1.length ≤ 10 ∧ co r.2.fL r.2.fAt) := by
  unfold je
  refine Ok.bind (ek 6 hd (by omega) (by omega)) (fun x1 h1 => ?_)
  refine Ok.bind (P := fun o => o.1.length ≤ 10 ∧ co o.2.1 o.2.2) ?_ (fun o ho => Ok.ret ho)
  refine Ok.loop (fun s => 0 ≤ s.1 ∧ (s.2.2.2.length : Int) + s.1 ≤ 6 ∧ co s.2.1 s.2.2.1) (fun s => s.1.toNat) ?_ ⟨h1.1, by simp; omega, h1.2.2⟩
  rintro ⟨s2, s3, s4, s5⟩ ⟨i0, i1, i2⟩
  simp only at i0 i1 i2
  unfold lm
  dsimp only
  refine Ok.iteD (fun hp => ?_) (fun _ => Ok.st ⟨by simp only; omega, i2⟩)
  refine Ok.bind (ek 30 i2 (by omega) (by omega)) (fun x hx => ?_)
  refine Ok.bind (ek 8 hx.2.2 (by omega) (by omega)) (fun y hy => ?_)
  refine Ok.bind (Ok.app (by simp; omega)) (fun z hz => ?_)
  subst hz
  rw [w64 (n := s2 - 1) (by omega) (by omega)]
  exact Ok.nx ⟨by simp only; omega, by simp only [List.length_append, List.length_cons, List.length_nil]; omega, hy.2.2⟩ (by simp only; omega)
theorem rnormal_ok {l : List Sp} (hl : l.length ≤ 1000) : Ok (iY l) (fun r => r.length ≤ l.length) := by
  unfold iY
  refine Ok.bind (P := fun o => o.length ≤ l.length) ?_ (fun o ho => ?_)
  · refine Ok.loop (fun s => 0 ≤ s.1 ∧ s.1 ≤ l.length ∧ (s.2.length : Int) ≤ s.1) (fun s => ((l.length : Int) - s.1).toNat) ?_ ⟨Int.le_refl _, by simp, by simp⟩
    rintro ⟨s1, s2⟩ ⟨i0, i1, i2⟩
    simp only at i0 i1 i2
    unfold kA
    dsimp only
    refine Ok.iteD (fun hlt => ?_) (fun _ => Ok.st (by omega))
    obtain ⟨x, hx, -⟩ := Ok.get (l := l) (n := s1) (by omega) (by omega)
    rw [hx, Option.bind_some, Option.bind_some]
    refine Ok.iteD (fun _ => ?_) (fun _ => ?_)
    · rw [w64 (by omega) (by omega)]
      exact Ok.nx ⟨by simp only; omega, by simp only; omega, by simp only; omega⟩ (by simp only; omega)
    refine Ok.bind (P := fun o : Int × Int × List Sp => o.1 = s1 ∧ 0 ≤ o.2.1 ∧ o.2.1 ≤ (s2.length : Int) ∧ o.2.2 = s2) ?_ (fun o ho => ?_)
    · refine Ok.loop (fun k : Int => 0 ≤ k ∧ k ≤ (s2.length : Int)) (fun k => k.toNat) ?_ ⟨by omega, Int.le_refl _⟩
      intro k ⟨j0, j1⟩
      unfold kz
      refine Ok.iteD (fun hk => ?_) (fun _ => Ok.st ⟨rfl, j0, j1, rfl⟩)
      rw [w64 (n := k - 1) (by omega) (by omega)]
      refine Ok.bind (Ok.isin (by omega) (by omega)) (fun _ _ => ?_)
      refine Ok.bind (Ok.get (by omega) (by omega)) (fun y _ => ?_)
      rw [hx, Option.bind_some]
      refine Ok.iteD (fun _ => Ok.nx ⟨by omega, by omega⟩ (by omega)) (fun _ => Ok.st ⟨rfl, j0, j1, rfl⟩)
    obtain ⟨o1, o2, o3⟩ := o
    obtain ⟨rfl, g1, g2, rfl⟩ := ho
    simp only at g1 g2 i2
    obtain ⟨a, rfl⟩ : ∃ a : Nat, o2 = a := ⟨o2.toNat, by omega⟩
    dsimp only
    rw [hx, Option.bind_some]
    refine Ok.bind (Ok.app (by simp; omega)) (fun z hz => ?_)
    have hzl : z.length = o3.length + 1 := by rw [hz]; simp
    rw [w64 (n := (a : Int) + 1) (by omega) (by omega)]
    refine Ok.bind (Ok.sub (by omega) (by omega) (by omega)) (fun _ _ => ?_)
    refine Ok.bind (Ok.sub (by omega) (by omega) (by omega)) (fun _ _ => ?_)
    refine Ok.bind (Ok.view (by omega) (by omega)) (fun _ _ => ?_)
    refine Ok.bind (Ok.part (by omega) (by omega)) (fun w hw => ?_)
    rw [Option.bind_some]
    have hclen : (copyL z (0 + ((a : Int) + 1).toNat) ((0 + ((z.length : Int)).toNat) - (0 + ((a : Int) + 1).toNat)) w).length = z.length := by
      have hw2 : w.length = z.length - a := by
        rw [hw, List.length_take, List.length_drop]; omega
      rw [show 0 + ((a : Int) + 1).toNat = a + 1 by omega, show 0 + ((z.length : Int)).toNat = z.length by omega]
      unfold copyL
      have hm : Nat.min (z.length - a) (z.length - (a + 1)) = z.length - (a + 1) := by
        show min _ _ = _; omega
      rw [List.length_append, List.length_append, List.length_take, List.length_take, List.length_drop, hw2, hm]
      omega
    generalize copyL z (0 + ((a : Int) + 1).toNat) ((0 + ((z.length : Int)).toNat) - (0 + ((a : Int) + 1).toNat)) w = c at hclen ⊢
    refine Ok.bind (Ok.isin (by omega) (by omega)) (fun _ _ => ?_)
    refine Ok.bind (Ok.set (by omega) (by omega)) (fun v hv => ?_)
    rw [w64 (by omega) (by omega)]
    have hvl : v.length = z.length := by rw [hv, List.length_set, hclen]
    exact Ok.nx ⟨by simp only; omega, by simp only; omega, by simp only; omega⟩ (by simp only; omega)
  · refine Ok.bind (P := fun r => r.length ≤ l.length) ?_ (fun r hr => Ok.ret hr)
    refine Ok.loop (fun s => 0 ≤ s.1 ∧ s.1 ≤ o.length ∧ (s.2.length : Int) ≤ s.1) (fun s => ((o.length : Int) - s.1).toNat) ?_ ⟨Int.le_refl _, by simp, by simp⟩
    rintro ⟨s1, s2⟩ ⟨i0, i1, i2⟩
    simp only at i0 i1 i2
    unfold kB
    dsimp only
    refine Ok.iteD (fun hlt => ?_) (fun _ => Ok.st (by omega))
    simp only [inO_getO]
    obtain ⟨x, hx, -⟩ := Ok.get (l := o) (n := s1) (by omega) (by omega)
    have happ : Ok (((appO s2 [x] 16).bind fun x61 => some (Step1.next (ω := List Sp) ((IntKind.wrap .i64 (s1 + (1 : Int))), x61)))) (Ok.S (fun s : Int × List Sp => 0 ≤ s.1 ∧ s.1 ≤ o.length ∧ (s.2.length : Int) ≤ s.1) (fun s => ((o.length : Int) - s.1).toNat) (fun r => r.length ≤ l.length) (s1, s2)) := by
      refine Ok.bind (Ok.app (by simp; omega)) (fun z hz => ?_)
      subst hz
      rw [w64 (by omega) (by omega)]
      exact Ok.nx ⟨by simp only; omega, by simp only; omega, by simp only [List.length_append, List.length_cons, List.length_nil]; omega⟩ (by simp only; omega)
    refine Ok.iteD (fun hp => ?_) (fun _ => ?_)
    · rw [w64 (n := (s2.length : Int) - 1) (by omega) (by omega), hx, Option.bind_some]
      obtain ⟨y, hy, -⟩ := Ok.get (l := s2) (n := (s2.length : Int) - 1) (by omega) (by omega)
      simp only [hy, hx, Option.bind_some]
      refine Ok.iteD (fun _ => ?_) (fun _ => happ)
      refine Ok.bind (Ok.isin (by omega) (by omega)) (fun _ _ => ?_)
      refine Ok.bind (Ok.mod (by omega) (by omega)) (fun z hz => ?_)
      obtain ⟨q, -, rfl⟩ := hz
      rw [w64 (by omega) (by omega)]
      exact Ok.nx ⟨by simp only; omega, by simp only; omega, by simp only [List.length_set]; omega⟩ (by simp only; omega)
    · rw [hx, Option.bind_some]; exact happ
theorem dset_ok {l : List Int} {a : Int} (hd : co l a) : Ok (mz ⟨l, a⟩) (fun r => r.1.length ≤ 10 ∧ co r.2.fL r.2.fAt) := by
  unfold mz
  refine Ok.bind (dspans_ok hd) (fun x hx => ?_)
  refine Ok.bind (rnormal_ok (by omega)) (fun y hy => ?_)
  exact Ok.ret ⟨by simp only; omega, hx.2⟩
theorem same_at {l : List Sp} (hl : l.length ≤ 1000000) : kR l l = some true := by
  unfold kR
  rw [if_neg (by simp)]
  have : Ok (loopO (jY l l) 0) (fun r => r = .inl ()) := by
    refine Ok.loop (fun k => 0 ≤ k ∧ k ≤ l.length) (fun k => ((l.length : Int) - k).toNat) ?_ ⟨Int.le_refl _, by simp⟩
    intro k ⟨i0, i1⟩
    unfold jY
    refine Ok.iteD (fun hlt => ?_) (fun _ => Ok.st rfl)
    obtain ⟨x, hx, -⟩ := Ok.get (l := l) (n := k) (by omega) (by omega)
    rw [hx, Option.bind_some, Option.bind_some, if_neg (by simp), w64 (by omega) (by omega)]
    exact Ok.nx ⟨by omega, by omega⟩ (by omega)
  rw [this.eq]; rfl
theorem read_ok {m : List UInt8} (hm : m.length ≤ 100000) (k : Int) (l : List Int) (a : Int) : aT k m l a = some (.next ((IntKind.wrap .i64 (k + 1)), l, a)) := by
  obtain ⟨x, e1, h1⟩ := parseD_ok hm
  obtain ⟨y, e2, h2⟩ := parseS_ok hm
  obtain ⟨z, e3, h3, h4⟩ := parseR_ok hm
  unfold aT
  rw [e1, h1, e2, h2, e3, h3]
  simp only [Option.bind_some, bne_self_eq_false, beq_self_eq_true, Bool.not_true, Bool.false_eq_true, if_false]
  rw [same_at (by omega), Option.bind_some, if_neg (by decide)]
abbrev LsOk (n : Nat) (l : List (List UInt8)) : Prop := l.length ≤ n ∧ ∀ x ∈ l, x.length ≤ 5000
theorem LsOk.snoc {n : Nat} {l : List (List UInt8)} (h : LsOk n l) {x : List UInt8} (hx : x.length ≤ 5000) : LsOk (n + 1) (l ++ [x]) := by
  refine ⟨by have := h.1; simp; omega, fun y hy => ?_⟩
  rcases List.mem_append.1 hy with hy | hy
  · exact h.2 y hy
  · rw [List.mem_singleton.1 hy]; exact hx
theorem lT (t : List Int) (raw : List UInt8) (a b c : Int) (l : List Sp) : ed t raw a b c l = some true := by
  unfold ed jl
  rw [Option.bind_some]
  refine Ok.eq ?_
  have hsane : Ok (cq.bind fun x3 => some x3) (fun b => b = true) := Ok.of (a := true) (by rw [sane_at]; rfl) rfl
  refine Ok.iteND (fun _ => hsane) (fun ht => ?_)
  refine Ok.iteD (fun _ => hsane) (fun hraw => ?_)
  refine Ok.iteD (fun _ => hsane) (fun hl => ?_)
  unfold kw
  rw [Option.bind_some]
  have hd0 : co t 0 := ⟨Int.le_refl _, by omega, by omega⟩
  have h4 := gD (s := raw) (by omega)
  rw [jb (by omega), eH (by omega), Option.bind_some]
  refine Ok.bind (ek 20 hd0 (by omega) (by omega)) (fun x10 h10 => ?_)
  refine Ok.bind (ek 20 h10.2.2 (by omega) (by omega)) (fun x11 h11 => ?_)
  refine Ok.bind (P := fun o => ∃ q, o = .inl q ∧ LsOk 5 q) ?_ (fun o ho => ?_)
  · refine Ok.loop (fun s => 0 ≤ s.1 ∧ s.1 ≤ 3 ∧ LsOk (2 + s.1.toNat) s.2) (fun s => (3 - s.1).toNat) ?_ ⟨Int.le_refl _, show (0 : Int) ≤ 3 by decide, by simp, fun x hx => ?_⟩
    · rintro ⟨i, q⟩ ⟨i0, i1, i2⟩
      simp only at i0 i1 i2
      unfold eT
      dsimp only
      refine Ok.iteD (fun hlt => ?_) (fun _ => Ok.st ⟨q, rfl, by have := i2.1; omega, i2.2⟩)
      refine Ok.bind (Ok.get (by omega) (by simp; omega)) (fun x _ => ?_)
      obtain ⟨y, e1, e2, hy⟩ := data_ok x.a0 x.a1 (d := raw) (by omega)
      rw [e1, e2]
      simp only [Option.bind_some, bne_self_eq_false, beq_self_eq_true, Bool.not_true, Bool.false_eq_true, if_false]
      have := i2.1
      refine Ok.bind (Ok.app (by simp; omega)) (fun z hz => ?_)
      subst hz
      rw [w64 (by omega) (by omega)]
      refine Ok.nx ⟨by simp only; omega, by simp only; omega, ?_⟩ (by simp only; omega)
      have := i2.snoc hy
      rw [show 2 + (i + 1).toNat = 2 + i.toNat + 1 by omega]
      exact this
    · simp only [List.mem_cons, List.not_mem_nil, or_false] at hx
      rcases hx with rfl | rfl
      · omega
      · simp only [List.length_append]; omega
  obtain ⟨q, rfl, hq⟩ := ho
  dsimp only
  refine Ok.bind (dsender_ok h11.2.2) (fun x27 h27 => ?_)
  obtain ⟨y, e1, e2, hy⟩ := status_ok h27.1
  rw [e1, e2]
  simp only [Option.bind_some, bne_self_eq_false, beq_self_eq_true, Bool.not_true, Bool.false_eq_true, if_false]
  have hq1 := hq.1
  refine Ok.bind (Ok.app (by simp; omega)) (fun x32 h32 => ?_)
  subst h32
  have hq6 := hq.snoc hy
  refine Ok.bind (dset_ok h27.2) (fun x33 h33 => ?_)
  refine Ok.bind (dspans_ok h33.2) (fun x34 h34 => ?_)
  refine Ok.bind (P := fun o => ∃ (fl : List Int) (fa : Int) (q : List (List UInt8)), o = .inl (fl, fa, q) ∧ LsOk 15 q ∧ co fl fa) ?_ (fun o ho => ?_)
  · refine Ok.loop (fun s => 0 ≤ s.1 ∧ s.1 ≤ 3 ∧ LsOk (6 + 3 * s.1.toNat) s.2.2.2 ∧ co s.2.1 s.2.2.1) (fun s => (3 - s.1).toNat) ?_ ⟨Int.le_refl _, by simp only; omega, hq6, h34.2⟩
    rintro ⟨i, fl, fa, q⟩ ⟨i0, i1, i2, i3⟩
    simp only at i0 i1 i2 i3
    unfold eV
    dsimp only
    refine Ok.iteD (fun hlt => ?_) (fun _ => Ok.st ⟨fl, fa, q, rfl, ⟨by have := i2.1; omega, i2.2⟩, i3⟩)
    refine Ok.bind (P := fun x : List Sp => x.length ≤ 100) ?_ (fun x44 h44 => ?_)
    · refine (Ok.get (by omega) (by simp; omega)).mono fun x hx => ?_
      have := hx.1
      simp only [List.mem_cons, List.not_mem_nil, or_false] at this
      rcases this with rfl | rfl | rfl
      · omega
      · have := h33.1; omega
      · have := h34.1; omega
    refine Ok.bind (ek 40 i3 (by omega) (by omega)) (fun x45 h45 => ?_)
    refine Ok.bind (P := fun o => ∃ q, o = .inl (i, q) ∧ LsOk (9 + 3 * i.toNat) q) ?_ (fun o ho => ?_)
    · refine Ok.loop (fun s => 0 ≤ s.1 ∧ s.1 ≤ 3 ∧ LsOk (6 + 3 * i.toNat + s.1.toNat) s.2) (fun s => (3 - s.1).toNat) ?_ ⟨Int.le_refl _, by simp only; omega, i2⟩
      rintro ⟨j, q⟩ ⟨j0, j1, j2⟩
      simp only at j0 j1 j2
      unfold eU
      dsimp only
      refine Ok.iteD (fun hlt => ?_) (fun _ => Ok.st ⟨q, rfl, by have := j2.1; omega, j2.2⟩)
      refine Ok.bind (Ok.get (by omega) (by simp; omega)) (fun x _ => ?_)
      obtain ⟨y, e1, e2, hy⟩ := requests_ok x (l := x44) (by omega)
      rw [e1, e2]
      simp only [Option.bind_some, bne_self_eq_false, beq_self_eq_true, Bool.not_true, Bool.false_eq_true, if_false]
      have := j2.1
      refine Ok.bind (Ok.app (by simp; omega)) (fun z hz => ?_)
      subst hz
      rw [w64 (by omega) (by omega)]
      refine Ok.nx ⟨by simp only; omega, by simp only; omega, ?_⟩ (by simp only; omega)
      have := j2.snoc hy
      rw [show 6 + 3 * i.toNat + (j + 1).toNat = 6 + 3 * i.toNat + j.toNat + 1 by omega]
      exact this
    obtain ⟨q, rfl, hq⟩ := ho
    dsimp only
    rw [w64 (by omega) (by omega)]
    refine Ok.nx ⟨by simp only; omega, by simp only; omega, ?_, h45.2.2⟩ (by simp only; omega)
    simp only
    rw [show 6 + 3 * (i + 1).toNat = 9 + 3 * i.toNat by omega]
    exact hq
  obtain ⟨fl, fa, q, rfl, hq, hfd⟩ := ho
  dsimp only
  refine Ok.bind (P := fun o => o = .inl ()) ?_ (fun o ho => by subst ho; exact hsane)
  have hq15 := hq.1
  refine Ok.loop (fun s => 0 ≤ s.1 ∧ s.1 ≤ q.length ∧ co s.2.1 s.2.2) (fun s => ((q.length : Int) - s.1).toNat) ?_ ⟨Int.le_refl _, by simp, hfd⟩
  rintro ⟨i, l1, a1⟩ ⟨i0, i1, i2⟩
  simp only at i0 i1 i2
  unfold eu
  dsimp only
  refine Ok.iteD (fun hlt => ?_) (fun _ => Ok.st rfl)
  refine Ok.bind (Ok.isin (by omega) (by omega)) (fun _ _ => ?_)
  refine Ok.bind (Ok.get (by omega) (by omega)) (fun x hx => ?_)
  have hxl := hq.2 x hx.1
  refine Ok.bind (ek 3 i2 (by omega) (by omega)) (fun x94 h94 => ?_)
  have hgo : ∀ (m : List UInt8) (l2 : List Int) (a2 : Int), m.length ≤ 100000 → co l2 a2 → Ok (aT i m l2 a2) (Ok.S (fun s : Int × List Int × Int => 0 ≤ s.1 ∧ s.1 ≤ q.length ∧ co s.2.1 s.2.2) (fun s => ((q.length : Int) - s.1).toNat) (fun o => o = Sum.inl ()) (i, l1, a1)) := by
    intro m l2 a2 hm hd
    rw [read_ok hm, w64 (by omega) (by omega)]
    exact Ok.nx ⟨by simp only; omega, by simp only; omega, hd⟩ (by simp only; omega)
  refine Ok.iteE (fun _ => ?_) (fun _ => hgo x _ _ (by omega) h94.2.2)
  refine Ok.iteD (fun h5 => ?_) (fun _ => hgo x _ _ (by omega) h94.2.2)
  rw [w64 (n := (x.length : Int) - 5) (by omega) (by omega)]
  refine Ok.bind (ek _ h94.2.2 (by omega) (by omega)) (fun x97 h97 => ?_)
  obtain ⟨g0, g1, g2⟩ := h97
  rw [w64 (n := 1 + x97.1) (by omega) (by omega), w64 (n := 1 + x97.1 + 1) (by omega) (by omega), w64 (n := (x.length : Int) - 4) (by omega) (by omega)]
  refine Ok.bind (Ok.cut (by omega) (by omega) (by omega)) (fun x98 h98 => ?_)
  have hl98 : x98.length ≤ 5000 := by subst h98; simp; omega
  refine Ok.bind (ek 256 g2 (by omega) (by omega)) (fun x99 h99 => ?_)
  refine Ok.bind (Ok.cat (by simp [strU]; omega)) (fun x100 h100 => ?_)
  have hl100 : x100.length ≤ 5001 := by subst h100; simp [strU]; omega
  refine Ok.bind (Ok.cut (by omega) (by omega) (by omega)) (fun x101 h101 => ?_)
  have hl101 : x101.length ≤ 5000 := by subst h101; simp; omega
  refine Ok.bind (Ok.cat (by omega)) (fun x102 h102 => ?_)
  have hl102 : x102.length ≤ 10001 := by subst h102; simp; omega
  have h5 := gD (s := x102) (by omega)
  rw [jb (by omega), eH (by omega), Option.bind_some]
  exact hgo _ _ _ (by simp only [List.length_append]; omega) h99.2.2
end Go.Dw.Se
