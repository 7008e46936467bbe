
import Derived.Test.YtjecbkklfphblaaGreatSlFn
import Derived.Test.YtjecbkklfphblaaGreatDwSortC
import Derived.Test.YtjecbkklfphblaaGreatDwOk



set_option maxRecDepth 100000
set_option maxHeartbeats 4000000
namespace Go.Dw.Sl
open Go.Dw Go.Proofs
def tabL : List Int := [0, 1996959894, 3993919788, 2567524794, 124634137, 1886057615, 3915621685, 2657392035, 249268274, 2044508324, 3772115230, 2547177864, 162941995, 2125561021, 3887607047, 2428444049, 498536548, 1789927666, 4089016648, 2227061214, 450548861, 1843258603, 4107580753, 2211677639, 325883990, 1684777152, 4251122042, 2321926636, 335633487, 1661365465, 4195302755, 2366115317, 997073096, 1281953886, 3579855332, 2724688242, 1006888145, 1258607687, 3524101629, 2768942443, 901097722, 1119000684, 3686517206, 2898065728, 853044451, 1172266101, 3705015759, 2882616665, 651767980, 1373503546, 3369554304, 3218104598, 565507253, 1454621731, 3485111705, 3099436303, 671266974, 1594198024, 3322730930, 2970347812, 795835527, 1483230225, 3244367275, 3060149565, 1994146192, 31158534, 2563907772, 4023717930, 1907459465, 112637215, 2680153253, 3904427059, 2013776290, 251722036, 2517215374, 3775830040, 2137656763, 141376813, 2439277719, 3865271297, 1802195444, 476864866, 2238001368, 4066508878, 1812370925, 453092731, 2181625025, 4111451223, 1706088902, 314042704, 2344532202, 4240017532, 1658658271, 366619977, 2362670323, 4224994405, 1303535960, 984961486, 2747007092, 3569037538, 1256170817, 1037604311, 2765210733, 3554079995, 1131014506, 879679996, 2909243462, 3663771856, 1141124467, 855842277, 2852801631, 3708648649, 1342533948, 654459306, 3188396048, 3373015174, 1466479909, 544179635, 3110523913, 3462522015, 1591671054, 702138776, 2966460450, 3352799412, 1504918807, 783551873, 3082640443, 3233442989, 3988292384, 2596254646, 62317068, 1957810842, 3939845945, 2647816111, 81470997, 1943803523, 3814918930, 2489596804, 225274430, 2053790376, 3826175755, 2466906013, 167816743, 2097651377, 4027552580, 2265490386, 503444072, 1762050814, 4150417245, 2154129355, 426522225, 1852507879, 4275313526, 2312317920, 282753626, 1742555852, 4189708143, 2394877945, 397917763, 1622183637, 3604390888, 2714866558, 953729732, 1340076626, 3518719985, 2797360999, 1068828381, 1219638859, 3624741850, 2936675148, 906185462, 1090812512, 3747672003, 2825379669, 829329135, 1181335161, 3412177804, 3160834842, 628085408, 1382605366, 3423369109, 3138078467, 570562233, 1426400815, 3317316542, 2998733608, 733239954, 1555261956, 3268935591, 3050360625, 752459403, 1541320221, 2607071920, 3965973030, 1969922972, 40735498, 2617837225, 3943577151, 1913087877, 83908371, 2512341634, 3803740692, 2075208622, 213261112, 2463272603, 3855990285, 2094854071, 198958881, 2262029012, 4057260610, 1759359992, 534414190, 2176718541, 4139329115, 1873836001, 414664567, 2282248934, 4279200368, 1711684554, 285281116, 2405801727, 4167216745, 1634467795, 376229701, 2685067896, 3608007406, 1308918612, 956543938, 2808555105, 3495958263, 1231636301, 1047427035, 2932959818, 3654703836, 1088359270, 936918000, 2847714899, 3736837829, 1202900863, 817233897, 3183342108, 3401237130, 1404277552, 615818150, 3134207493, 3453421203, 1423857449, 601450431, 3009837614, 3294710456, 1567103746, 711928724, 3020668471, 3272380065, 1510334235, 755167117]
theorem ku : iy = some tabL := by
  have h : loopO jQ ((0 : Int), (List.replicate 256 (0 : Int))) = some tabL := loopO_of (n := 300) (by kernel_rfl)
  unfold iy
  rw [h]
  change _ = _
  kernel_rfl
theorem cmp_int (a b : Int) : bN a b = some (cmpI a b) := by
  unfold bN ci cmpI
  simp only [bne_self_eq_false, Option.bind_some, Bool.false_eq_true, if_false, decide_eq_true_eq]
  split
  · rfl
  · split <;> rfl
theorem lit2_eq (a b : aa) : aK a b = some (cmpI a.aA b.aA) := by
  unfold aK
  rw [cmp_int]; rfl
theorem lt3N : lt3 aK = fun x y => decide (cmpI x.aA y.aA < 0) := by
  funext x y
  unfold lt3
  rw [lit2_eq]; rfl
theorem lit2_ok : CmpOk aK := ⟨fun x y => ⟨_, lit2_eq x y⟩, by rw [lt3N]; exact (cmpI_tot.map fun x : aa => x.aA).swo⟩
theorem all1 {n : Nat} {p : Nat → Bool} (h : ((List.range n).all p) = true) {a : Nat} (ha : a < n) : p a = true := List.all_eq_true.1 h a (List.mem_range.2 ha)
theorem tab_len : tabL.length = 256 := by kernel_rfl
theorem jf {a : Nat} (h : a < 4294967296) : (BitVec.ofInt IntKind.i64.bits (a : Int)).toNat = a := by
  show (BitVec.ofInt 64 (a : Int)).toNat = a
  rw [BitVec.toNat_ofInt]
  omega
theorem xor_nat {a b : Nat} (ha : a < 4294967296) (hb : b < 4294967296) : xorI .i64 a b = ((a ^^^ b : Nat) : Int) := by
  have : a ^^^ b < 2 ^ 32 := Nat.xor_lt_two_pow ha hb
  unfold xorI
  rw [BitVec.toNat_xor, jf ha, jf hb, w64 (by omega) (by omega)]
theorem and255_nat {a : Nat} (ha : a < 4294967296) : andI .i64 a 255 = ((a % 256 : Nat) : Int) := by
  unfold andI
  rw [BitVec.toNat_and, jf ha, show (255 : Int) = ((255 : Nat) : Int) from rfl, jf (by decide), Nat.and_two_pow_sub_one_eq_mod a 8, w64 (by omega) (by omega)]
theorem shr8_nat (a : Nat) : shrI .i64 a 8 = ((a / 256 : Nat) : Int) := by
  show ((a : Int)).fdiv 256 = _
  rw [Int.fdiv_eq_ediv_of_nonneg _ (by decide)]; omega
def stepN (x : Nat) : Nat := if x % 2 = 1 then (x / 2) ^^^ 3988292384 else x / 2
def ja : Nat → Nat → Nat
  | 0, x => x
  | k + 1, x => stepN (ja k x)
theorem stepN_lin (a b : Nat) : stepN (a ^^^ b) = stepN a ^^^ stepN b := by
  unfold stepN
  rw [Nat.xor_div_two]
  have h := @Nat.xor_mod_two_eq_one a b
  by_cases ha : a % 2 = 1 <;> by_cases hb : b % 2 = 1
  · rw [if_neg (by rw [h]; simp [ha, hb]), if_pos ha, if_pos hb]
    rw [show (a / 2 ^^^ 3988292384) ^^^ (b / 2 ^^^ 3988292384) = (a / 2 ^^^ b / 2) ^^^ (3988292384 ^^^ 3988292384) by ac_rfl, Nat.xor_self, Nat.xor_zero]
  · rw [if_pos (by rw [h]; simp [ha, hb]), if_pos ha, if_neg hb]; ac_rfl
  · rw [if_pos (by rw [h]; simp [ha, hb]), if_neg ha, if_pos hb]; ac_rfl
  · rw [if_neg (by rw [h]; simp [ha, hb]), if_neg ha, if_neg hb]
theorem stepK_lin : ∀ k a b, ja k (a ^^^ b) = ja k a ^^^ ja k b
  | 0, _, _ => rfl
  | k + 1, a, b => by rw [ja, stepK_lin k, stepN_lin]; rfl
theorem stepN_even (z : Nat) : stepN (2 * z) = z := by unfold stepN; rw [if_neg (by omega)]; omega
theorem stepK_hi (z : Nat) : ja 8 (z * 256) = z := by
  rw [show z * 256 = 2 * (2 * (2 * (2 * (2 * (2 * (2 * (2 * z))))))) by omega]
  simp only [ja, stepN_even]
theorem split8 (y : Nat) : y = (y / 256 * 256) ^^^ (y % 256) := by
  apply Nat.eq_of_testBit_eq
  intro i
  rw [show y / 256 * 256 = (y >>> 8) <<< 8 by rw [Nat.shiftLeft_eq, Nat.shiftRight_eq_div_pow], show y % 256 = y % 2 ^ 8 from rfl, Nat.testBit_xor, Nat.testBit_shiftLeft, Nat.testBit_shiftRight, Nat.testBit_mod_two_pow]
  by_cases h : 8 ≤ i
  · rw [show 8 + (i - 8) = i by omega, decide_eq_true h, decide_eq_false (show ¬ i < 8 by omega)]; simp
  · rw [decide_eq_false h, decide_eq_true (show i < 8 by omega)]; simp
theorem stepN_lt {x : Nat} (h : x < 4294967296) : stepN x < 4294967296 := by
  unfold stepN
  split
  · have := Nat.xor_lt_two_pow (n := 32) (x := x / 2) (y := 3988292384) (by omega) (by decide)
    exact this
  · omega
theorem stepK_lt : ∀ k {x : Nat}, x < 4294967296 → ja k x < 4294967296
  | 0, _, h => h
  | k + 1, _, h => stepN_lt (stepK_lt k h)
theorem tabC : ((List.range 256).all fun b => tabL.getD b 0 == ((ja 8 b : Nat) : Int)) = true := by kernel_rfl
theorem tab_at {b : Nat} (hb : b < 256) : getO tabL (b : Int) = some ((ja 8 b : Nat) : Int) := by
  have h := eq_of_beq (all1 tabC hb)
  rw [getO_at (i := b) rfl (by rw [tab_len]; exact hb)]
  rw [List.getD_eq_getElem?_getD, List.getElem?_eq_getElem (by rw [tab_len]; exact hb)] at h
  exact congrArg some h
def byteN (x : Nat) (b : UInt8) : Nat := ja 8 (x ^^^ b.toNat)
theorem byteN_tab {x : Nat} (b : UInt8) : byteN x b = (x / 256) ^^^ ja 8 ((x ^^^ b.toNat) % 256) := by
  unfold byteN
  conv => lhs; rw [split8 (x ^^^ b.toNat), stepK_lin, stepK_hi]
  have : (x ^^^ b.toNat) / 256 = x / 256 := by
    have hb : b.toNat < 256 := b.toNat_lt
    rw [show (256 : Nat) = 2 ^ 8 from rfl, ← Nat.shiftRight_eq_div_pow, ← Nat.shiftRight_eq_div_pow, Nat.shiftRight_xor_distrib, Nat.shiftRight_eq_div_pow b.toNat, Nat.div_eq_of_lt hb, Nat.xor_zero]
  rw [this]
theorem xb_lt {x : Nat} (h : x < 4294967296) (b : UInt8) : x ^^^ b.toNat < 4294967296 := by
  have hb : b.toNat < 256 := b.toNat_lt
  exact Nat.xor_lt_two_pow (n := 32) h (by omega)
theorem byteN_lt {x : Nat} (h : x < 4294967296) (b : UInt8) : byteN x b < 4294967296 := stepK_lt 8 (xb_lt h b)
def regN (s : List UInt8) : Nat := s.foldl byteN 4294967295
theorem regN_take {s : List UInt8} {i : Nat} (h : i < s.length) : regN (s.take (i + 1)) = byteN (regN (s.take i)) s[i] := by
  unfold regN
  rw [take_succ_at h, List.foldl_append]; rfl
theorem update_at (s : List UInt8) (hs : s.length ≤ 1000000) : gA 0 s = some (xorI .i64 (regN s) 4294967295) := by
  unfold gA
  rw [if_neg (by decide), if_neg (by decide), ku, Option.bind_some]
  have h1 : lenO 256 (List.replicate 256 (0 : Int)) = some (List.replicate 256 (0 : Int)) := by unfold lenO; rw [if_pos (by simp)]
  have h2 : lenO 256 tabL = some tabL := by unfold lenO; rw [if_pos tab_len]
  rw [h1, Option.bind_some, h2, Option.bind_some]
  have : Ok (loopO (gB s tabL) (xorI .i64 0 4294967295, 0)) (fun r => r = (regN s : Int)) := by
    refine Ok.loop (fun st => ∃ i : Nat, st.2 = i ∧ i ≤ s.length ∧ st.1 = (regN (s.take i) : Int) ∧ regN (s.take i) < 4294967296) (fun st => ((s.length : Int) - st.2).toNat) ?_ ⟨0, rfl, Nat.zero_le _, by kernel_rfl, show (4294967295 : Nat) < 4294967296 by omega⟩
    rintro ⟨r, i⟩ ⟨k, h0, h3, h4, h5⟩
    simp only at h0 h4
    subst h0 h4
    unfold gB
    dsimp only
    refine Ok.iteD (fun hlt => ?_) (fun hge => ?_)
    · have hk : k < s.length := by omega
      have hby : byteO s (k : Int) = some ((s[k].toNat : Nat) : Int) := by
        unfold byteO
        rw [if_pos ⟨by omega, by omega⟩, Int.toNat_natCast, List.getD_eq_getElem?_getD, List.getElem?_eq_getElem hk]; rfl
      have hb : s[k].toNat < 256 := s[k].toNat_lt
      have hx := xb_lt h5 s[k]
      have hi : inA 256 (((regN (s.take k) ^^^ s[k].toNat) % 256 : Nat) : Int) = some () := by unfold inA; rw [if_pos (by omega)]
      have ht := stepK_lt 8 (x := (regN (s.take k) ^^^ s[k].toNat) % 256) (by omega)
      rw [hby, Option.bind_some, w64 (n := ((s[k].toNat : Nat) : Int)) (by omega) (by omega), xor_nat h5 (by omega), and255_nat hx, hi, Option.bind_some, tab_at (by omega), Option.bind_some, shr8_nat, xor_nat (by omega) ht, ← byteN_tab, ← regN_take hk, w64 (by omega) (by omega)]
      exact Ok.nx ⟨k + 1, by simp, by omega, rfl, by rw [regN_take hk]; exact byteN_lt h5 _⟩ (by simp only; omega)
    · have : k = s.length := by omega
      subst this
      exact Ok.st (by rw [List.take_length])
  rw [this.eq]; rfl
def iK (a : Int) (s : List UInt8) : Option Int := if (decide (a = 0) && decide (s.length ≤ 100000)) = true then some ((regN s ^^^ 4294967295 : Nat) : Int) else none
theorem regN_lt (s : List UInt8) : regN s < 4294967296 := by
  have : ∀ (l : List UInt8) (x : Nat), x < 4294967296 → l.foldl byteN x < 4294967296 := by
    intro l
    induction l with
    | nil => intro x h; exact h
    | cons b l ih => intro x h; exact ih _ (byteN_lt h b)
  exact this s _ (by omega)
theorem crc_Update_le (a : Int) (s : List UInt8) : Le (iK a s) (gA a s) := fun r h => by
  unfold iK at h
  split at h
  · rename_i hc
    simp only [Bool.and_eq_true, decide_eq_true_eq] at hc
    obtain ⟨rfl, hl⟩ := hc
    rw [update_at s (by omega), show (4294967295 : Int) = ((4294967295 : Nat) : Int) from rfl, xor_nat (regN_lt s) (by decide)]
    exact h
  · cases h
end Go.Dw.Sl
