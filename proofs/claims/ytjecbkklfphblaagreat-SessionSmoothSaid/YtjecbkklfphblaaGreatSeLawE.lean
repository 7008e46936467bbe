
import Derived.Test.YtjecbkklfphblaaGreatSeCo
import Derived.Test.YtjecbkklfphblaaGreatDwOk


set_option maxRecDepth 100000
set_option maxHeartbeats 4000000
namespace Go.Dw.Se
open Go.Dw Go.Proofs

abbrev Ses := ag
abbrev Tr := ac
abbrev Arv := aj
abbrev Sp := aa

theorem sane_at : cp = some true := lc _ (by kernel_rfl)

theorem inG {a b c : Int} (h : b ≤ a ∧ a ≤ c) : (if (decide (a ≥ b)) = true then (some (decide (a ≤ c))) else (some false)) = some true := by
  rw [if_pos (decide_eq_true h.1), decide_eq_true h.2]
theorem sin_t {a b c : Int} (h : b ≤ a ∧ a ≤ c) : bu a b c = some true := inG h
theorem din_t {a b c : Int} (h : b ≤ a ∧ a ≤ c) : ek a b c = some true := inG h
theorem lin_t {a b c : Int} (h : b ≤ a ∧ a ≤ c) : gC a b c = some true := inG h
theorem gI {α : Type} {n : Nat} {l : List α} (h : l.length * n ≤ 140737488355328) : cloneO n l = some l := by
  unfold cloneO; rw [if_pos h]

theorem and255 (x : Int) : 0 ≤ andI .i64 x 255 ∧ andI .i64 x 255 < 256 := by
  unfold andI
  have h : (BitVec.ofInt IntKind.i64.bits x &&& BitVec.ofInt IntKind.i64.bits 255).toNat ≤ 255 := by
    rw [BitVec.toNat_and]
    exact Nat.le_trans Nat.and_le_right (by decide)
  rw [w64 (by omega) (by omega)]
  omega
theorem tab_len : tabL.length = 256 := by kernel_rfl
theorem update_ok (s : List UInt8) (hs : s.length ≤ 1000000) : Ok (f8 0 s) (fun _ => True) := by
  unfold f8
  rw [if_neg (by decide), if_neg (by decide), lH, Option.bind_some]
  have h1 : lenO 256 (List.replicate 256 (0 : Int)) = some (List.replicate 256 (0 : Int)) := by unfold lenO; rw [if_pos (by simp)]
  have h2 : lenO 256 tabL = some tabL := by unfold lenO; rw [if_pos tab_len]
  rw [h1, Option.bind_some, h2, Option.bind_some]
  refine Ok.bind (P := fun _ => True) ?_ (fun _ _ => Ok.ret trivial)
  refine Ok.loop (fun st => 0 ≤ st.2 ∧ st.2 ≤ s.length) (fun st => ((s.length : Int) - st.2).toNat) ?_ ⟨Int.le_refl _, by simp⟩
  rintro ⟨r, i⟩ ⟨h0, h3⟩
  simp only at h0 h3
  unfold fp
  dsimp only
  refine Ok.iteD (fun hlt => ?_) (fun _ => Ok.st trivial)
  refine Ok.bind (Ok.byte (by omega) (by omega)) (fun x _ => ?_)
  have := and255 (xorI .i64 r (IntKind.wrap .i64 x))
  have h4 : inA 256 (andI .i64 (xorI .i64 r (IntKind.wrap .i64 x)) 255) = some () := by unfold inA; rw [if_pos (by omega)]
  rw [h4, Option.bind_some]
  refine Ok.bind (Ok.get (by omega) (by rw [tab_len]; omega)) (fun y _ => ?_)
  rw [w64 (by omega) (by omega)]
  exact Ok.nx ⟨by simp only; omega, by simp only; omega⟩ (by simp only; omega)
theorem append_ok (s : List UInt8) (hs : s.length ≤ 100000) : Ok (cn s) (fun r => ∃ t, t.length = 4 ∧ r = s ++ t) := by
  unfold cn lF
  refine Ok.bind (P := fun _ => True) (Ok.bind (update_ok s (by omega)) (fun x _ => Ok.ret trivial)) (fun x _ => ?_)
  refine Ok.bind (Ok.cat (by simp [strU]; omega)) (fun y hy => ?_)
  exact Ok.ret ⟨_, by simp [strU], hy⟩
noncomputable def sumT (s : List UInt8) : List UInt8 := ((cn s).getD []).drop s.length
theorem append_at {s : List UInt8} (hs : s.length ≤ 100000) : cn s = some (s ++ sumT s) := by
  obtain ⟨r, h, t, ht, rfl⟩ := append_ok s hs
  unfold sumT
  rw [h]; simp
theorem l8 {s : List UInt8} (hs : s.length ≤ 100000) : (sumT s).length = 4 := by
  obtain ⟨r, h, t, ht, rfl⟩ := append_ok s hs
  unfold sumT
  rw [h]; simpa using ht
theorem check_at {s : List UInt8} (hs : s.length ≤ 100000) : iu (s ++ sumT s) = some true := by
  have hl := l8 hs
  unfold iu
  have h1 : ((s ++ sumT s).length : Int) = s.length + 4 := by simp [hl]
  rw [h1, w64 (by omega) (by omega), if_pos (decide_eq_true (by omega))]
  have h2 : cutO (s ++ sumT s) 0 ((s.length : Int) + 4 - 4) = some s := by
    unfold cutO
    rw [if_pos ⟨Int.le_refl _, by omega, by omega⟩]
    simp only [Int.toNat_zero, List.drop_zero, Nat.sub_zero]
    rw [show ((s.length : Int) + 4 - 4).toNat = s.length by omega, List.take_left]
  rw [h2, Option.bind_some, append_at hs, Option.bind_some, beq_self_eq_true]
theorem open_at {c x : UInt8} {s : List UInt8} {least : Int} (hs : s.length ≤ 10000) (hl : least ≤ s.length + 5) : cM ((c :: s) ++ sumT (c :: s)) [x] least = if c = x then some (s, 0) else some ([], 3) := by
  have h4 := l8 (s := c :: s) (by simp; omega)
  have hc := check_at (s := c :: s) (by simp; omega)
  have hlen : (((c :: s) ++ sumT (c :: s)).length : Int) = s.length + 5 := by simp only [List.length_append, List.length_cons, h4]; omega
  unfold cM
  rw [hlen, if_neg (by simp; omega), hc, Option.bind_some, if_neg (by decide)]
  have h2 : cutO ((c :: s) ++ sumT (c :: s)) 0 1 = some [c] := by
    unfold cutO
    rw [if_pos ⟨Int.le_refl _, by omega, by omega⟩]; rfl
  have h3 : cutO ((c :: s) ++ sumT (c :: s)) 1 (IntKind.wrap .i64 ((s.length : Int) + 5 - 4)) = some s := by
    rw [w64 (by omega) (by omega)]
    unfold cutO
    rw [if_pos ⟨by omega, by omega, by omega⟩]
    rw [show ((s.length : Int) + 5 - 4).toNat - Int.toNat 1 = s.length by omega]
    simp
  rw [h2, Option.bind_some, h3]
  by_cases h : c = x
  · subst h; rw [if_pos rfl, if_neg (by simp)]; rfl
  · rw [if_neg h, if_pos (by simpa using h)]

def b4 (a : Nat) : List UInt8 := [0, 0, 0, UInt8.ofNat a]
theorem all2 {n m : Nat} {p : Nat → Nat → Bool} (h : ((List.range n).all fun a => (List.range m).all fun b => p a b) = true) {a b : Nat} (ha : a < n) (hb : b < m) : p a b = true :=
  List.all_eq_true.1 (List.all_eq_true.1 h a (List.mem_range.2 ha)) b (List.mem_range.2 hb)
theorem all1 {n : Nat} {p : Nat → Bool} (h : ((List.range n).all p) = true) {a : Nat} (ha : a < n) : p a = true := List.all_eq_true.1 h a (List.mem_range.2 ha)
theorem numsC : ((List.range 26).all fun a => (List.range 26).all fun b => bv [68] [(a : Int), (b : Int)] == some (68 :: (b4 a ++ b4 b)) && bv [83] [(a : Int), (b : Int)] == some (83 :: (b4 a ++ b4 b))) = true := by kernel_rfl
theorem numsD {a b : Nat} (ha : a < 26) (hb : b < 26) : bD [68] [(a : Int), (b : Int)] = some (68 :: (b4 a ++ b4 b)) :=
  cv _ _ _ (eq_of_beq (Bool.and_eq_true_iff.1 (all2 numsC ha hb)).1)
theorem numsS {a b : Nat} (ha : a < 26) (hb : b < 26) : bD [83] [(a : Int), (b : Int)] = some (83 :: (b4 a ++ b4 b)) :=
  cv _ _ _ (eq_of_beq (Bool.and_eq_true_iff.1 (all2 numsC ha hb)).2)
def okS (d : List UInt8) : Prop := d = [97] ∨ d = [98]
theorem okS.len {d : List UInt8} (h : okS d) : d.length = 1 := by rcases h with rfl | rfl <;> rfl
theorem getC : ((List.range 26).all fun a => (List.range 26).all fun b => [[], [97], [98]].all fun d => aT (b4 a ++ b4 b ++ d) 0 == some (a : Int) && aT (b4 a ++ b4 b ++ d) 1 == some (b : Int)) = true := by kernel_rfl
theorem get_at {a b : Nat} {d : List UInt8} (ha : a < 26) (hb : b < 26) (hd : d ∈ [[], [97], [98]]) : aY (b4 a ++ b4 b ++ d) 0 = some (a : Int) ∧ aY (b4 a ++ b4 b ++ d) 1 = some (b : Int) := by
  have := Bool.and_eq_true_iff.1 (List.all_eq_true.1 (all2 getC ha hb) d hd)
  exact ⟨cL _ _ _ (eq_of_beq this.1), cL _ _ _ (eq_of_beq this.2)⟩
noncomputable def lQ (a b : Nat) (d : List UInt8) : List UInt8 := (68 :: (b4 a ++ b4 b ++ d)) ++ sumT (68 :: (b4 a ++ b4 b ++ d))
noncomputable def lR (a b : Nat) : List UInt8 := (83 :: (b4 a ++ b4 b ++ [])) ++ sumT (83 :: (b4 a ++ b4 b ++ []))
theorem fm (a b : Nat) (d : List UInt8) : (b4 a ++ b4 b ++ d).length = d.length + 8 := by simp [b4]
theorem msgD_len {a b : Nat} {d : List UInt8} (hd : okS d) : (lQ a b d).length = 14 := by
  have := l8 (s := 68 :: (b4 a ++ b4 b ++ d)) (by rw [List.length_cons, fm, hd.len]; omega)
  unfold lQ
  rw [List.length_append, this, List.length_cons, fm, hd.len]
theorem msgS_len (a b : Nat) : (lR a b).length = 13 := by
  have := l8 (s := 83 :: (b4 a ++ b4 b ++ [])) (by rw [List.length_cons, fm]; simp)
  unfold lR
  rw [List.length_append, this, List.length_cons, fm]; rfl
theorem data_at {a b : Nat} {d : List UInt8} (ha : a < 26) (hb : b < 26) (hd : okS d) : cK a b d = some (lQ a b d, 0) := by
  have hl := msgD_len (a := a) (b := b) hd
  unfold cK
  have hc : catO (68 :: (b4 a ++ b4 b)) d = some (68 :: (b4 a ++ b4 b ++ d)) := by
    unfold catO; rw [if_pos (by simp [b4, hd.len])]; simp
  rw [sin_t (by omega), Option.bind_some, if_neg (by decide), sin_t (by omega), Option.bind_some, if_neg (by decide), numsD ha hb, Option.bind_some, hc, Option.bind_some, append_at (by rw [List.length_cons, fm, hd.len]; omega), Option.bind_some]
  change (if decide (((lQ a b d).length : Int) > 4096) = true then _ else _) = _
  rw [hl, if_neg (by decide)]; rfl
theorem parseD_at {a b : Nat} {d : List UInt8} (ha : a < 26) (hb : b < 26) (hd : okS d) : aV (lQ a b d) = some ((a : Int), (b : Int), d, 0) := by
  have hg := get_at ha hb (d := d) (by rcases hd with rfl | rfl <;> simp)
  unfold aV lQ
  rw [open_at (by rw [fm, hd.len]; omega) (by rw [fm, hd.len]; omega), if_pos rfl, Option.bind_some, if_neg (by simp)]
  dsimp only
  rw [hg.1, Option.bind_some, hg.2, Option.bind_some, if_neg (by simp; omega), if_neg (by simp; omega)]
  have hc : cutO (b4 a ++ b4 b ++ d) 8 ((b4 a ++ b4 b ++ d).length : Int) = some d := by
    rcases hd with rfl | rfl <;> rfl
  rw [hc]; rfl
theorem parseDS_at {a b : Nat} : aV (lR a b) = some (0, 0, [], 3) := by
  unfold aV lR
  rw [open_at (by rw [fm]; simp) (by rw [fm]; simp), if_neg (by decide), Option.bind_some, if_pos (by decide)]
theorem parseSD_at {a b : Nat} {d : List UInt8} (hd : okS d) : aP (lQ a b d) = some (0, 0, 3) := by
  unfold aP lQ
  rw [open_at (by rw [fm, hd.len]; omega) (by rw [fm, hd.len]; omega), if_neg (by decide), Option.bind_some, if_pos (by decide)]
theorem parseS_at {a b : Nat} (ha : a < 26) (hb : b < 26) (hab : a ≤ b) : aP (lR a b) = some ((a : Int), (b : Int), 0) := by
  have hg := get_at ha hb (d := []) (by simp)
  unfold aP lR
  rw [open_at (by rw [fm]; simp) (by rw [fm]; simp), if_pos rfl, Option.bind_some, if_neg (by simp)]
  dsimp only
  rw [hg.1, Option.bind_some, hg.2, Option.bind_some, fm, if_neg (by decide), if_neg (by simp; omega), if_neg (by simp; omega)]

def eh (r : Nat) : List Sp := if r = 0 then [] else [⟨0, r⟩]
def rcv (r : Nat) : ai := ⟨eh r, []⟩
theorem rcvC : ((List.range 26).all fun r => decide (dU (rcv r) r = some (rcv (r + 1), true, 0)) && decide (bd (rcv r) = some true) && decide (cr (rcv r) r = some ([], 0)) &&
    (List.range (r + 1)).all fun k => decide (dG (rcv r) k = some (rcv r, 0)) && decide (dw (rcv r) k 16 = some ([], 0)) && (decide (k = r) || decide (iI (eh r) k = some true))) = true := by kernel_rfl
theorem jR {r : Nat} (hr : r < 26) : dF (rcv r) r = some (rcv (r + 1), true, 0) ∧ bt (rcv r) = some true ∧ cm (rcv r) r = some ([], 0) ∧
    ∀ k : Nat, k ≤ r → dL (rcv r) k = some (rcv r, 0) ∧ cZ (rcv r) k 16 = some ([], 0) ∧ (k < r → jC (eh r) k = some true) := by
  have h := all1 rcvC hr
  simp only [Bool.and_eq_true, decide_eq_true_eq, List.all_eq_true, Bool.or_eq_true] at h
  obtain ⟨⟨⟨h1, h2⟩, h3⟩, h4⟩ := h
  refine ⟨iB _ _ _ h1, b9 _ _ h2, et _ _ _ h3, fun k hk => ?_⟩
  obtain ⟨⟨h5, h6⟩, h7⟩ := h4 k (List.mem_range.2 (by omega))
  refine ⟨gc _ _ _ h5, ib _ _ _ _ h6, fun hlt => ?_⟩
  rcases h7 with h7 | h7
  · omega
  · exact kI _ _ _ h7
end Go.Dw.Se


set_option maxRecDepth 100000
set_option maxHeartbeats 4000000
namespace Go.Dw.Se
open Go.Dw Go.Proofs

structure WOk (i o : Nat) (its : List Tr) : Prop where
  hi : i ≤ 100
  ho : o ≤ 1000
  hl : its.length ≤ o
  hm : ∀ t ∈ its, t.aC.length ≤ 100 ∧ t.fAt = (i : Int) + 1 ∧ 0 ≤ t.aq ∧ t.aq < o
  hp : its.Pairwise fun a b => a.aq < b.aq
theorem or_at (d : Int) : f7 [0, d] = some d := by
  unfold f7
  by_cases h : d = 0
  · subst h
    have : loopO (ci [0, 0]) 0 = some (.inl ()) := loopO_of (n := 4) (by kernel_rfl)
    rw [this]; rfl
  · have : loopO (ci [0, d]) 0 = some (.inr d) := loopO_of (n := 4) (by
      have h1 : ci [0, d] 0 = some (.next 1) := by kernel_rfl
      have h2 : ci [0, d] 1 = some (.stop (.inr d)) := by
        unfold ci
        rw [if_pos (by simp)]
        change (some d).bind _ = _
        rw [Option.bind_some, if_pos (by simpa using h)]
      simp only [loopN, h1, h2])
    rw [this]; rfl
theorem order_at {x y : Tr} (h : x.fAt = y.fAt) (h1 : 0 ≤ x.aq ∧ x.aq ≤ 1000) (h2 : 0 ≤ y.aq ∧ y.aq ≤ 1000) : dY x y = some (x.aq - y.aq) := by
  unfold dY
  rw [h, Int.sub_self, show IntKind.wrap .i64 0 = 0 from rfl, w64 (by omega) (by omega), or_at]; rfl
theorem WOk.valid {i o : Nat} {its : List Tr} (h : WOk i o its) : cq ⟨i, o, its⟩ = some true := by
  obtain ⟨hi, ho, hl, hm, hp⟩ := h
  have hpw := List.pairwise_iff_getElem.1 hp
  have : Ok (loopO (dX ⟨i, o, its⟩) 0) (fun r => r = .inl ()) := by
    refine Ok.loop (fun k => 0 ≤ k ∧ k ≤ its.length) (fun k => ((its.length : Int) - k).toNat) ?_ ⟨Int.le_refl _, by simp⟩
    intro k ⟨h0, h1⟩
    unfold dX
    dsimp only
    refine Ok.iteD (fun hlt => ?_) (fun _ => Ok.st rfl)
    obtain ⟨j, rfl⟩ : ∃ j : Nat, k = j := ⟨k.toNat, by omega⟩
    have hj : j < its.length := by omega
    obtain ⟨m1, m2, m3, m4⟩ := hm _ (List.getElem_mem hj)
    rw [getO_at rfl hj, Option.bind_some, if_neg (by simp; omega), w64 (n := (i : Int) + 1) (by omega) (by omega), lin_t (by omega), Option.bind_some, if_neg (by decide), w64 (n := (o : Int) - 1) (by omega) (by omega), lin_t (by omega), Option.bind_some,
      if_neg (by decide), w64 (n := (j : Int) + 1) (by omega) (by omega)]
    refine Ok.iteD (fun hpos => ?_) (fun _ => Ok.nx ⟨by omega, by omega⟩ (by omega))
    have hj' : j - 1 < its.length := by omega
    obtain ⟨n1, n2, n3, n4⟩ := hm _ (List.getElem_mem hj')
    have h3 := hpw (j - 1) j hj' hj (by omega)
    rw [w64 (by omega) (by omega), getO_at (i := j - 1) (by omega) hj', Option.bind_some, order_at (by rw [m2, n2]) (by omega) (by omega), Option.bind_some, if_neg (by simp; omega)]
    exact Ok.nx ⟨by omega, by omega⟩ (by omega)
  unfold cq
  rw [lin_t (by simp only; omega), Option.bind_some, if_neg (by decide), lin_t (by simp only; omega), Option.bind_some, if_neg (by decide), if_neg (by simp; omega), this.eq]; rfl
theorem WOk.snoc {i o : Nat} {its : List Tr} (h : WOk i o its) (ho : o < 1000) {m : List UInt8} (hml : m.length ≤ 100) : WOk i (o + 1) (its ++ [⟨(i : Int) + 1, o, m⟩]) := by
  obtain ⟨h1, h2, h3, h4, h5⟩ := h
  refine ⟨h1, by omega, by simp; omega, fun t ht => ?_, List.pairwise_append.2 ⟨h5, by simp, fun a ha b hb => ?_⟩⟩
  · rcases List.mem_append.1 ht with ht | ht
    · have := h4 t ht; omega
    · rw [List.mem_singleton.1 ht]; exact ⟨hml, rfl, by simp only; omega, by simp only; omega⟩
  · rw [List.mem_singleton.1 hb]; exact (h4 a ha).2.2.2
theorem bs_at {i o : Nat} {its : List Tr} (h : WOk i o its) (m : List UInt8) : aH ⟨(i : Int) + 1, o, m⟩ its = some ((its.length : Int), false, its) := by
  obtain ⟨h1, h2, h3, h4, h5⟩ := h
  have : Ok (loopO (aI its ⟨(i : Int) + 1, o, m⟩) (0, (its.length : Int))) (fun r => r = (its.length : Int)) := by
    refine Ok.loop (fun s => 0 ≤ s.1 ∧ s.1 ≤ s.2 ∧ s.2 = its.length) (fun s => ((its.length : Int) - s.1).toNat) ?_ ⟨Int.le_refl _, by simp, rfl⟩
    rintro ⟨a, b⟩ ⟨i0, i1, i2⟩
    simp only at i0 i1 i2
    subst i2
    unfold aI
    dsimp only
    refine Ok.iteD (fun hlt => ?_) (fun hge => Ok.st (by omega))
    obtain ⟨x, hx, hx0, hx1⟩ : ∃ x : Nat, IntKind.wrap .i64 (shrI .u64 (IntKind.wrap .u64 (IntKind.wrap .i64 (a + its.length))) 1) = x ∧ a ≤ x ∧ x < its.length := by
      rw [w64 (n := a + its.length) (by omega) (by omega)]
      obtain ⟨y, hy⟩ : ∃ y : Nat, a + its.length = y := ⟨(a + its.length).toNat, by omega⟩
      rw [hy]
      have hyb : y ≤ 2000 := by omega
      have hsh : ∀ y, y < 2001 → IntKind.wrap .i64 (shrI .u64 (IntKind.wrap .u64 (y : Nat)) 1) = ((y / 2 : Nat) : Int) := by
        intro y hy
        have hC : ((List.range 2001).all fun y => decide (IntKind.wrap .i64 (shrI .u64 (IntKind.wrap .u64 (y : Nat)) 1) = ((y / 2 : Nat) : Int))) = true := by kernel_rfl
        exact of_decide_eq_true (all1 hC hy)
      refine ⟨y / 2, hsh y (by omega), by omega, by omega⟩
    rw [hx, inO_at (by omega) (by omega), Option.bind_some, getO_at (i := x) rfl (by omega), Option.bind_some]
    obtain ⟨m1, m2, m3, m4⟩ := h4 _ (List.getElem_mem (show x < its.length by omega))
    rw [order_at (by rw [m2]) (by omega) (by simp only; omega), Option.bind_some, if_pos (decide_eq_true (by simp only; omega)), w64 (by omega) (by omega)]
    exact Ok.nx ⟨by simp only; omega, by simp only; omega, rfl⟩ (by simp only; omega)
  unfold aH
  rw [this.eq, Option.bind_some, if_neg (by simp)]
theorem WOk.send {i o : Nat} {its : List Tr} (h : WOk i o its) (ho : o < 900) {m : List UInt8} (hml : m.length ≤ 100) : fd ⟨i, o, its⟩ m ⟨false, 0, 0⟩ = some (⟨i, ((o + 1 : Nat) : Int), its ++ [⟨(i : Int) + 1, o, m⟩]⟩, 0) := by
  have hv := h.valid
  have hb := bs_at h m
  obtain ⟨h1, h2, h3, h4, h5⟩ := h
  unfold fd
  have hf : bC ⟨false, 0, 0⟩ = some true := by kernel_rfl
  rw [hv, Option.bind_some, if_neg (by decide), hf, Option.bind_some, if_neg (by decide), if_neg (by simp)]
  unfold dK
  have hw : IntKind.wrap .i64 ((1 : Int) + (⟨false, 0, 0⟩ : ae).cE) = 1 := by rfl
  rw [hw]
  dsimp only
  rw [if_neg (by simp; omega), if_neg (by simp; omega), w64 (n := (its.length : Int) + 1) (by omega) (by omega), if_neg (by simp; omega), gI (by omega), Option.bind_some]
  have hl : loopO (cj 1 ⟨i, o, its⟩ ⟨false, 0, 0⟩ m) (0, its) = some (its ++ [⟨(i : Int) + 1, o, m⟩]) := loopO_of (n := 3) (by
    have e1 : cj 1 ⟨i, o, its⟩ ⟨false, 0, 0⟩ m (0, its) = some (.next (1, its ++ [⟨(i : Int) + 1, o, m⟩])) := by
      unfold cj
      dsimp only
      have hat : IntKind.wrap .i64 ((IntKind.wrap .i64 ((IntKind.wrap .i64 ((i : Int) + 1)) + 0)) + 0) = (i : Int) + 1 := by
        simp only [Int.add_zero, w64 (n := (i : Int) + 1) (by omega) (by omega)]
      rw [if_pos (by decide), hat, hb, Option.bind_some]
      unfold bM
      dsimp only
      rw [subO_at (by omega) (by omega) (by omega), Option.bind_some, if_neg (by simp), if_pos (by simp)]
      unfold appO
      rw [if_pos (by simp; omega)]; rfl
    have e2 : cj 1 ⟨i, o, its⟩ ⟨false, 0, 0⟩ m (1, its ++ [⟨(i : Int) + 1, o, m⟩]) = some (.stop (its ++ [⟨(i : Int) + 1, o, m⟩])) := by
      unfold cj
      dsimp only
      rw [if_neg (by decide)]
    simp only [loopN, e1, e2])
  rw [hl, Option.bind_some, w64 (by omega) (by omega)]; rfl
theorem WOk.tick {i o : Nat} {its : List Tr} (h : WOk i o its) : fe ⟨i, o, its⟩ = some (⟨((i + 1 : Nat) : Int), o, []⟩, its.map (·.aC), 0) := by
  have hv := h.valid
  obtain ⟨h1, h2, h3, h4, h5⟩ := h
  unfold fe
  dsimp only
  rw [hv, Option.bind_some, if_neg (by decide), if_neg (by simp; omega)]
  have : Ok (loopO (eB ⟨i, o, its⟩) (0, ([] : List (List UInt8)))) (fun r => r = ((its.length : Int), its.map (·.aC))) := by
    refine Ok.loop (fun s => ∃ j : Nat, s.1 = j ∧ j ≤ its.length ∧ s.2 = (its.take j).map (·.aC)) (fun s => ((its.length : Int) - s.1).toNat) ?_ ⟨0, rfl, Nat.zero_le _, by simp⟩
    rintro ⟨a, b⟩ ⟨j, i0, i1, i2⟩
    simp only at i0 i2
    subst i0 i2
    unfold eB
    dsimp only
    refine Ok.iteD (fun hlt => ?_) (fun hge => ?_)
    · have hj : j < its.length := by omega
      obtain ⟨m1, m2, m3, m4⟩ := h4 _ (List.getElem_mem hj)
      rw [getO_at rfl hj, Option.bind_some, w64 (n := (i : Int) + 1) (by omega) (by omega), if_pos (by rw [m2]; simp), Option.bind_some, w64 (by omega) (by omega)]
      refine Ok.bind (Ok.app (by simp; omega)) (fun x hx => ?_)
      subst hx
      refine Ok.nx ⟨j + 1, by simp, by omega, ?_⟩ (by simp only; omega)
      simp only
      rw [take_succ_at hj, List.map_append]; rfl
    · have : j = its.length := by omega
      subst this
      exact Ok.st (by simp)
  rw [this.eq, Option.bind_some]
  dsimp only
  have hc : cutO its (its.length : Int) (its.length : Int) = some [] := by
    unfold cutO
    rw [if_pos ⟨by omega, by omega, by omega⟩]; simp
  rw [hc, Option.bind_some, gI (by simp), Option.bind_some, w64 (by omega) (by omega)]; rfl
end Go.Dw.Se


set_option maxRecDepth 100000
set_option maxHeartbeats 4000000
namespace Go.Dw.Se
open Go.Dw Go.Proofs

structure Del (i r : Nat) (dl : List Arv) : Prop where
  len : dl.length = r
  seq : ∀ j (h : j < dl.length), dl[j].jK = j
  at_ : ∀ a ∈ dl, 0 ≤ a.fAt ∧ a.fAt ≤ i
  ord : dl.Pairwise fun a b => a.fAt ≤ b.fAt
theorem Del.snoc {i r : Nat} {dl : List Arv} (h : Del i r dl) (d : List UInt8) : Del i (r + 1) (dl ++ [⟨(r : Int), i, d⟩]) := by
  obtain ⟨h1, h2, h3, h4⟩ := h
  refine ⟨by simp [h1], fun j hj => ?_, fun a ha => ?_, List.pairwise_append.2 ⟨h4, by simp, fun a ha b hb => ?_⟩⟩
  · by_cases hlt : j < dl.length
    · rw [List.getElem_append_left hlt]; exact h2 j hlt
    · have : j = dl.length := by simp at hj; omega
      subst this
      simp [h1]
  · rcases List.mem_append.1 ha with ha | ha
    · exact h3 a ha
    · rw [List.mem_singleton.1 ha]; simp only; omega
  · rw [List.mem_singleton.1 hb]; exact (h3 a ha).2
theorem Del.up {i i' r : Nat} {dl : List Arv} (h : Del i r dl) (hi : i ≤ i') : Del i' r dl := ⟨h.len, h.seq, fun a ha => by have := h.at_ a ha; omega, h.ord⟩

abbrev ses (Sz I i r o : Nat) (K F : Nat) (D : List (List UInt8)) (its : List Tr) (dl : List Arv) : Ses := ⟨i, I, K, ⟨Sz, F, D⟩, rcv r, ⟨i, o, its⟩, ⟨i, 0, []⟩, dl⟩
structure SOk (Sz I i n r o : Nat) (K F : Nat) (D : List (List UInt8)) (its : List Tr) (dl : List Arv) : Prop where
  hw : WOk i o its
  hn : n ≤ 24
  hr : r ≤ n
  hK : K ≤ n
  hF : F + D.length = n
  hD : D.length ≤ Sz
  hS : 1 ≤ Sz ∧ Sz ≤ 5
  hI : 1 ≤ I ∧ I ≤ 3
  hd : ∀ d ∈ D, okS d
  hi : i ≤ 12
  del : Del i r dl
theorem cont_at {D : List (List UInt8)} (hd : ∀ d ∈ D, okS d) (hl : D.length ≤ 1000) : aL D = some false := by
  have : Ok (loopO (aO D) 0) (fun r => r = .inl ()) := by
    refine Ok.loop (fun k => 0 ≤ k ∧ k ≤ D.length) (fun k => ((D.length : Int) - k).toNat) ?_ ⟨Int.le_refl _, by simp⟩
    intro k ⟨h0, h1⟩
    unfold aO
    refine Ok.iteD (fun hlt => ?_) (fun _ => Ok.st rfl)
    refine Ok.bind (Ok.get (by omega) (by omega)) (fun x hx => ?_)
    have := (hd x hx.1).len
    unfold cJ
    rw [Option.bind_some, this, if_neg (by decide), w64 (by omega) (by omega)]
    exact Ok.nx ⟨by omega, by omega⟩ (by omega)
  unfold aL aS
  rw [this.eq]; rfl
theorem kP {Sz F n : Nat} {D : List (List UInt8)} (h : F + D.length = n) (hn : n ≤ 100) : bf ⟨Sz, F, D⟩ = some (n : Int) := by
  unfold bf
  dsimp only
  rw [w64 (by omega) (by omega)]
  exact congrArg some (by omega)
theorem sval_at {Sz F n : Nat} {D : List (List UInt8)} (h : F + D.length = n) (hn : n ≤ 24) (hS : 1 ≤ Sz ∧ Sz ≤ 5) (hD : D.length ≤ Sz) (hd : ∀ d ∈ D, okS d) : bR ⟨Sz, F, D⟩ = some true := by
  unfold bR
  rw [din_t (by simp only; omega), Option.bind_some, if_neg (by decide), din_t (by simp only; omega), Option.bind_some, if_neg (by decide), if_neg (by simp; omega), kP h (by omega), Option.bind_some, if_neg (by simp; omega),
    cont_at hd (by omega)]
  rfl
theorem mGet_no {k : Int} {z : Bool} : ∀ {l : List (Int × Bool)}, (∀ e ∈ l, e.1 ≠ k) → mGet (fun a b => a == b) k z l = z
  | [], _ => rfl
  | e :: l, h => by
    unfold mGet
    rw [if_neg (by have := h e (by simp); simpa using fun he : k = e.1 => this he.symm)]
    exact mGet_no fun x hx => h x (by simp [hx])
theorem mPut_mem {k : Int} {v : Bool} : ∀ {l : List (Int × Bool)} {e : Int × Bool}, e ∈ mPut (fun a b => a == b) k v l → e.1 = k ∨ e ∈ l
  | [], e, h => by
    unfold mPut at h
    rw [List.mem_singleton.1 h]; exact .inl rfl
  | x :: l, e, h => by
    unfold mPut at h
    split at h
    · rcases List.mem_cons.1 h with rfl | h
      · exact .inl rfl
      · exact .inr (by simp [h])
    · rcases List.mem_cons.1 h with rfl | h
      · exact .inr (by simp)
      · rcases mPut_mem h with h | h
        · exact .inl h
        · exact .inr (by simp [h])
theorem del_at {Sz I i n r o K F : Nat} {D : List (List UInt8)} {its : List Tr} {dl : List Arv} (h : SOk Sz I i n r o K F D its dl) : ca (ses Sz I i r o K F D its dl) = some true := by
  have hr := h.hr; have hn := h.hn; have hi := h.hi
  obtain ⟨d1, d2, d3, d4⟩ := h.del
  have hp := List.pairwise_iff_getElem.1 d4
  have hrc := (jR (r := r) (by omega)).2.2.2
  unfold ca
  have : Ok (loopO (bL (ses Sz I i r o K F D its dl)) (0, 0, ([] : List (Int × Bool)))) (fun r => r = .inl ()) := by
    refine Ok.loop (fun s => ∃ j : Nat, s.2.1 = j ∧ j ≤ dl.length ∧ 0 ≤ s.1 ∧ (∀ k (hk : k < dl.length), j ≤ k → s.1 ≤ dl[k].fAt) ∧ ∀ e ∈ s.2.2, e.1 < j) (fun s => ((dl.length : Int) - s.2.1).toNat) ?_
      ⟨0, rfl, Nat.zero_le _, Int.le_refl _, fun k hk _ => (d3 _ (List.getElem_mem hk)).1, fun e he => by cases he⟩
    rintro ⟨a, k, s⟩ ⟨j, i0, i1, i2, i3, i4⟩
    simp only at i0 i2 i3 i4
    subst i0
    unfold bL ses
    dsimp only
    refine Ok.iteD (fun hlt => ?_) (fun _ => Ok.st rfl)
    have hj : j < dl.length := by omega
    have e1 := d2 j hj
    have e2 := d3 _ (List.getElem_mem hj)
    have e3 := i3 j hj (Nat.le_refl _)
    rw [getO_at rfl hj, Option.bind_some, e1, mGet_no (fun e he => by have := i4 e he; omega), if_neg (by decide), sin_t (by omega), Option.bind_some, if_neg (by decide), show (rcv r).aK = eh r from rfl, (hrc j (by omega)).2.2 (by omega),
      Option.bind_some, if_neg (by decide), sin_t (by omega), Option.bind_some, if_neg (by decide), w64 (by omega) (by omega)]
    refine Ok.nx ⟨j + 1, by simp, by omega, e2.1, fun k hk hjk => hp j k hj hk (by omega), fun e he => ?_⟩ (by simp only; omega)
    rcases mPut_mem he with h | h
    · rw [h]; omega
    · have := i4 e h; omega
  rw [this.eq, Option.bind_some]
  dsimp only
  exact congrArg some (decide_eq_true (by omega))
theorem SOk.valid {Sz I i n r o K F : Nat} {D : List (List UInt8)} {its : List Tr} {dl : List Arv} (h : SOk Sz I i n r o K F D its dl) : bT (ses Sz I i r o K F D its dl) = some true := by
  have hd := del_at h
  have hup : cq ⟨i, 0, []⟩ = some true := WOk.valid (o := 0) ⟨by have := h.hi; omega, by omega, by simp, by simp, by simp⟩
  obtain ⟨hw, hn, hr, hK, hF, hD, hS, hI, hdd, hi, hdel⟩ := h
  unfold bT
  simp only [ses] at hd ⊢
  rw [sin_t (by omega), Option.bind_some, if_pos rfl, sin_t (by omega), Option.bind_some, if_pos rfl, sval_at hF hn hS hD hdd, Option.bind_some, if_pos rfl, kP hF (by omega), Option.bind_some, sin_t (by omega), Option.bind_some, if_pos rfl,
    (jR (r := r) (by omega)).2.1, Option.bind_some, if_pos rfl, hw.valid, Option.bind_some, if_pos rfl]
  have hup' : cq { az := (i : Int), aq := 0, av := [] } = some true := hup
  rw [hup', Option.bind_some, if_pos rfl, if_pos (by simp), if_pos (by simp), hd]; rfl
theorem SOk.copied {Sz I i n r o K F : Nat} {D : List (List UInt8)} {its : List Tr} {dl : List Arv} (h : SOk Sz I i n r o K F D its dl) : bW (ses Sz I i r o K F D its dl) = some (ses Sz I i r o K F D its dl) := by
  have h1 := h.hw.hl; have h2 := h.hw.ho; have h3 := h.hD; have h4 := h.hS; have h5 := h.del.len; have h6 := h.hr; have h7 := h.hn
  have hg : (eh r).length ≤ 1 := by unfold eh; split <;> simp
  unfold bW ses rcv
  dsimp only
  rw [gI (by omega), Option.bind_some, gI (by omega), Option.bind_some, gI (by simp), Option.bind_some, gI (by omega), Option.bind_some, gI (by simp), Option.bind_some, gI (by omega), Option.bind_some]
theorem SOk.push {Sz I i n r o K F : Nat} {D : List (List UInt8)} {its : List Tr} {dl : List Arv} (h : SOk Sz I i n r o K F D its dl) (hn' : n < 24) (ho : o < 800) {d : List UInt8} (hd : okS d) :
    ∃ F' D', F' ≤ n ∧ bS (ses Sz I i r o K F D its dl) d ⟨false, 0, 0⟩ = some (ses Sz I i r (o + 1) K F' D' (its ++ [⟨(i : Int) + 1, o, lQ n F' d⟩]) dl, (n : Int), 0) ∧ SOk Sz I i (n + 1) r (o + 1) K F' D' (its ++ [⟨(i : Int) + 1, o, lQ n F' d⟩]) dl := by
  have hv := h.valid
  have hc := h.copied
  obtain ⟨hw, hn, hr, hK, hF, hD, hS, hI, hdd, hi, hdel⟩ := h
  obtain ⟨F', D', h1, h2, h3, h4, h5⟩ : ∃ F' D', F' ≤ n ∧ fg ⟨Sz, F, D⟩ d = some (⟨Sz, F', D'⟩, (n : Int), 0) ∧ F' + D'.length = n + 1 ∧ D'.length ≤ Sz ∧ ∀ d ∈ D', okS d := by
    have hall : ∀ x ∈ D ++ [d], okS x := fun x hx => by
      rcases List.mem_append.1 hx with hx | hx
      · exact hdd x hx
      · rw [List.mem_singleton.1 hx]; exact hd
    have ha : appO D [d] 16 = some (D ++ [d]) := by unfold appO; rw [if_pos (by simp; omega)]
    unfold fg
    rw [sval_at hF hn hS hD hdd, Option.bind_some, if_neg (by decide), kP hF (by omega), Option.bind_some, hd.len, if_neg (by decide), if_neg (by simp; omega)]
    dsimp only
    rw [ha, Option.bind_some]
    by_cases hk : D.length = Sz
    · refine ⟨F + 1, (D ++ [d]).drop 1, by omega, ?_, by simp; omega, by simp; omega, fun x hx => hall x (List.mem_of_mem_drop hx)⟩
      have hcu : cutO (D ++ [d]) 1 ((D ++ [d]).length : Int) = some ((D ++ [d]).drop 1) := by
        unfold cutO
        rw [if_pos ⟨by omega, by simp; omega, Int.le_refl _⟩]
        rw [show Int.toNat 1 = 1 from rfl, List.take_of_length_le (by simp)]
      rw [if_pos (by simp; omega), hcu, Option.bind_some, w64 (by omega) (by omega)]; rfl
    · exact ⟨F, D ++ [d], by omega, by rw [if_neg (by simpa using fun he : (D.length : Int) = Sz => hk (by omega))], by simp; omega, by simp; omega, hall⟩
  have hm := msgD_len (a := n) (b := F') hd
  refine ⟨F', D', h1, ?_, ⟨hw.snoc (by omega) (by omega), by omega, by omega, by omega, h3, h4, hS, hI, h5, hi, hdel⟩⟩
  unfold bS
  have hf : bC ⟨false, 0, 0⟩ = some true := by kernel_rfl
  rw [hv, Option.bind_some, if_neg (by decide), hf, Option.bind_some, if_neg (by decide), hc, Option.bind_some]
  simp only [ses]
  rw [h2, Option.bind_some]
  dsimp only
  rw [if_neg (by decide), data_at (by omega) (by omega) hd, Option.bind_some]
  dsimp only
  rw [hw.send (by omega) (by omega), Option.bind_some]
  dsimp only
  rw [if_neg (by decide)]
end Go.Dw.Se


set_option maxRecDepth 100000
set_option maxHeartbeats 4000000
namespace Go.Dw.Se
open Go.Dw Go.Proofs

inductive Ch (n : Nat) : Nat → List Tr → Prop
  | nil : Ch n n []
  | stat {r : Nat} {t : Tr} {l : List Tr} (a b : Nat) (h1 : a ≤ r) (h2 : a ≤ b) (h3 : b ≤ n) (h : t.aC = lR a b) (hl : Ch n r l) : Ch n r (t :: l)
  | data {r : Nat} {t : Tr} {l : List Tr} (f : Nat) (d : List UInt8) (h1 : f ≤ r) (hd : okS d) (h : t.aC = lQ r f d) (hl : Ch n (r + 1) l) : Ch n r (t :: l)
theorem Ch.le {n r : Nat} {l : List Tr} (h : Ch n r l) : r ≤ n := by
  induction h with
  | nil => exact Nat.le_refl _
  | stat => assumption
  | data => omega
theorem Ch.snoc {n r : Nat} {l : List Tr} (h : Ch n r l) {f : Nat} {d : List UInt8} (hf : f ≤ n) (hd : okS d) {t : Tr} (ht : t.aC = lQ n f d) : Ch (n + 1) r (l ++ [t]) := by
  induction h with
  | nil => exact .data f d hf hd ht .nil
  | stat a b h1 h2 h3 h hl ih => exact .stat a b h1 h2 (by omega) h ih
  | data f' d' h1 hd' h hl ih => exact .data f' d' h1 hd' h ih
def New (r0 i : Nat) (dl : List Arv) : Prop := ∀ j (h : j < dl.length), r0 ≤ j → dl[j].fAt = i
theorem New.snoc {r0 i : Nat} {dl : List Arv} (h : New r0 i dl) (x : Int) (d : List UInt8) : New r0 i (dl ++ [⟨x, i, d⟩]) := fun j hj hr => by
  by_cases hlt : j < dl.length
  · rw [List.getElem_append_left hlt]; exact h j hlt hr
  · have : j = dl.length := by simp at hj; omega
    subst this
    simp
abbrev Ends := Int × Int × Int × Int × Int × List (List UInt8) × List Sp × List Sp × Int × Int × List Tr × Int × Int × List Tr × List ae × List ae
abbrev ends (Sz I i r : Nat) (K F : Nat) (D : List (List UInt8)) (o : Nat) (its : List Tr) : Ends := ((i : Int), (I : Int), (K : Int), (Sz : Int), (F : Int), D, eh r, [], (i : Int), (o : Int), its, (i : Int), 0, [], [], [])
abbrev endsA (Sz I i r : Nat) (K F : Nat) (D : List (List UInt8)) (o : Nat) (j : Nat) : Int × Int × Int × Int × Int × List (List UInt8) × List Sp × List Sp × Int × Int × List Tr × Int × Int × List Tr × List ae × List ae := ((i : Int), (I : Int), (K : Int), (Sz : Int), (F : Int), D, eh r, [], (i : Int), (o : Int), [], (j : Int), 0, [], [], [])
theorem learn_at {a : Int} {Sz I i r j n K F o : Nat} {D : List (List UInt8)} {dl : List Arv} (hK : K ≤ n) (h0 : 0 ≤ a) (hF : F + D.length = n) (hn : n ≤ 24) : ∃ K' : Nat, K' ≤ n ∧
    eL a (i : Int) (I : Int) (K : Int) (Sz : Int) (F : Int) D (eh r) [] (i : Int) (o : Int) [] (j : Int) 0 [] [] [] dl = some (endsA Sz I i r K' F D o j) := by
  unfold eL
  rw [kP hF (by omega), Option.bind_some]
  obtain ⟨a, rfl⟩ : ∃ b : Nat, a = b := ⟨a.toNat, by omega⟩
  refine ⟨min (max a K) n, by omega, ?_⟩
  have : (if (n : Int) < (if (a : Int) > K then (a : Int) else K) then (n : Int) else (if (a : Int) > K then (a : Int) else K)) = ((min (max a K) n : Nat) : Int) := by
    split <;> split <;> omega
  rw [this]
theorem ends_data_D {Sz I i r n K F o j f : Nat} {D : List (List UInt8)} {dl : List Arv} {d : List UInt8} (hr : r < n) (hn : n ≤ 24) (hK : K ≤ n) (hF : F + D.length = n) (hf : f ≤ r) (hd : okS d) (hl : dl.length = r) : ∃ K' : Nat, K' ≤ n ∧
    fc (lQ r f d) (i : Int) (I : Int) (K : Int) (Sz : Int) (F : Int) D (eh r) [] (i : Int) (o : Int) [] (j : Int) 0 [] [] [] dl = some ((i : Int), (I : Int), (K' : Int), (Sz : Int), (F : Int), D, eh (r + 1), [], (i : Int), (o : Int), [], (j : Int), 0, [], [], [], dl ++ [⟨(r : Int), (i : Int), d⟩]) := by
  obtain ⟨h1, -, -, -⟩ := jR (r := r) (by omega)
  have h2 := ((jR (r := r + 1) (by omega)).2.2.2 f (by omega)).1
  obtain ⟨K', hK', h3⟩ := learn_at (a := (r : Int) + 1) (Sz := Sz) (I := I) (i := i) (r := r + 1) (j := j) (o := o) (dl := dl) hK (by omega) hF hn
  refine ⟨K', hK', ?_⟩
  unfold fc
  rw [parseD_at (by omega) (by omega) hd, Option.bind_some]
  dsimp only
  rw [if_neg (by decide), show (⟨eh r, []⟩ : ai) = rcv r from rfl, h1, Option.bind_some]
  dsimp only
  rw [if_neg (by decide), h2, Option.bind_some]
  dsimp only
  rw [if_neg (by decide), w64 (by omega) (by omega), show (rcv (r + 1)).aK = eh (r + 1) from rfl, show (rcv (r + 1)).aF = [] from rfl, h3, Option.bind_some, if_pos rfl, if_pos (decide_eq_true (by omega))]
  have ha : appO dl [(⟨(r : Int), (i : Int), d⟩ : Arv)] 32 = some (dl ++ [⟨(r : Int), (i : Int), d⟩]) := by unfold appO; rw [if_pos (by simp; omega)]
  rw [ha]; rfl
theorem ends_data_S {Sz I i r K F o j a b : Nat} {D : List (List UInt8)} {dl : List Arv} :
    fc (lR a b) (i : Int) (I : Int) (K : Int) (Sz : Int) (F : Int) D (eh r) [] (i : Int) (o : Int) [] (j : Int) 0 [] [] [] dl = some ((i : Int), (I : Int), (K : Int), (Sz : Int), (F : Int), D, eh r, [], (i : Int), (o : Int), [], (j : Int), 0, [], [], [], dl) := by
  unfold fc
  rw [parseDS_at, Option.bind_some, if_pos (by decide)]
theorem ends_status_D {Sz I i r q f K F o j : Nat} {D : List (List UInt8)} {dl : List Arv} {d : List UInt8} (hd : okS d) :
    dn (lQ q f d) (i : Int) (I : Int) (K : Int) (Sz : Int) (F : Int) D (eh r) [] (i : Int) (o : Int) [] (j : Int) 0 [] [] [] dl = some (endsA Sz I i r K F D o j) := by
  unfold dn
  rw [parseSD_at hd, Option.bind_some, if_pos (by decide)]
theorem ends_status_S {Sz I i r n K F o j a b : Nat} {D : List (List UInt8)} {dl : List Arv} (hr : r ≤ n) (hn : n ≤ 24) (hK : K ≤ n) (hF : F + D.length = n) (ha : a ≤ r) (hab : a ≤ b) (hb : b ≤ n) : ∃ K' : Nat, K' ≤ n ∧
    dn (lR a b) (i : Int) (I : Int) (K : Int) (Sz : Int) (F : Int) D (eh r) [] (i : Int) (o : Int) [] (j : Int) 0 [] [] [] dl = some (endsA Sz I i r K' F D o j) := by
  have h2 := ((jR (r := r) (by omega)).2.2.2 a (by omega)).1
  obtain ⟨K', hK', h3⟩ := learn_at (a := (b : Int)) (Sz := Sz) (I := I) (i := i) (r := r) (j := j) (o := o) (dl := dl) hK (by omega) hF hn
  refine ⟨K', hK', ?_⟩
  unfold dn
  rw [parseS_at (by omega) (by omega) hab, Option.bind_some]
  dsimp only
  rw [if_neg (by decide), show (⟨eh r, []⟩ : ai) = rcv r from rfl, h2, Option.bind_some]
  dsimp only
  rw [if_pos (by decide), show (rcv r).aK = eh r from rfl, show (rcv r).aF = [] from rfl, h3]; rfl
theorem hear_at {Sz I i n K F o j r0 : Nat} {D : List (List UInt8)} (hn : n ≤ 24) (hF : F + D.length = n) {w : ak} {e : Int} {its : List Tr} (hits : its.length ≤ 2000) {dl : List Arv} {r : Nat} (hch : Ch n r its) (hK : K ≤ n) (hdel : Del i r dl) (hnew : New r0 i dl) :
    Ok (loopO (da (w, its.map (·.aC), e)) ((0 : Int), (i : Int), (I : Int), (K : Int), (Sz : Int), (F : Int), D, eh r, [], (i : Int), (o : Int), [], (j : Int), 0, [], [], [], dl))
      (fun s => ∃ (K' : Nat) (dl' : List Arv), K' ≤ n ∧ Del i n dl' ∧ New r0 i dl' ∧ s = ((i : Int), (I : Int), (K' : Int), (Sz : Int), (F : Int), D, eh n, [], (i : Int), (o : Int), [], (j : Int), 0, [], [], [], dl')) := by
  refine Ok.loop (fun s => ∃ (k r K' : Nat) (dl' : List Arv), k ≤ its.length ∧ Ch n r (its.drop k) ∧ K' ≤ n ∧ Del i r dl' ∧ New r0 i dl' ∧ s = ((k : Int), (i : Int), (I : Int), (K' : Int), (Sz : Int), (F : Int), D, eh r, [], (i : Int), (o : Int), [], (j : Int), 0, [], [], [], dl'))
    (fun s => ((its.length : Int) - s.1).toNat) ?_ ⟨0, r, K, dl, Nat.zero_le _, hch, hK, hdel, hnew, rfl⟩
  rintro s ⟨k, r, K', dl', h1, h2, h3, h4, h5, rfl⟩
  unfold da
  dsimp only
  have hle := h2.le
  refine Ok.iteD (fun hlt => ?_) (fun hge => ?_)
  · have hk : k < its.length := by simpa using hlt
    rw [getO_at rfl (by simpa using hk), Option.bind_some, List.getElem_map, w64 (by omega) (by omega)]
    have hd := List.drop_eq_getElem_cons hk
    rw [hd] at h2
    cases h2 with
    | stat a b g1 g2 g3 g hl =>
      rw [g, ends_data_S, Option.bind_some]
      dsimp only
      obtain ⟨K2, q1, q2⟩ := ends_status_S (Sz := Sz) (I := I) (i := i) (o := o) (j := j) (dl := dl') hle hn h3 hF g1 g2 g3
      rw [q2, Option.bind_some]
      exact Ok.nx ⟨k + 1, r, K2, dl', by omega, hl, q1, h4, h5, by simp⟩ (by simp only; omega)
    | data f d g1 gd g hl =>
      obtain ⟨K2, q1, q2⟩ := ends_data_D (Sz := Sz) (I := I) (i := i) (o := o) (j := j) (dl := dl') (n := n) (r := r) (by have := hl.le; omega) hn h3 hF g1 gd h4.len
      rw [g, q2, Option.bind_some]
      dsimp only
      rw [ends_status_D gd, Option.bind_some]
      exact Ok.nx ⟨k + 1, r + 1, K2, _, by omega, hl, q1, h4.snoc d, h5.snoc _ d, by simp⟩ (by simp only; omega)
  · have : k = its.length := by simp at hge; omega
    subst this
    rw [List.drop_length] at h2
    cases h2
    exact Ok.st ⟨K', dl', h3, h4, h5, rfl⟩
theorem request_at {Sz I i n K F o : Nat} {D : List (List UInt8)} {dl : List Arv} (hn : n ≤ 24) (hF : F + D.length = n) (hS : 1 ≤ Sz ∧ Sz ≤ 5) (hD : D.length ≤ Sz) (hd : ∀ d ∈ D, okS d) (hK : K ≤ n) (hi : i ≤ 12) (ho : o < 800) :
    ef (i : Int) (I : Int) (K : Int) (Sz : Int) (F : Int) D (eh n) [] (i : Int) (o : Int) [] (i : Int) 0 [] [] [] dl = some (ends Sz I i n K F D (o + 1) [⟨(i : Int) + 1, o, lR F n⟩]) := by
  have hst : cu ⟨Sz, F, D⟩ = some (lR F n, 0) := by
    unfold cu
    rw [sval_at hF hn hS hD hd, Option.bind_some, if_neg (by decide), kP hF (by omega), Option.bind_some]
    dsimp only
    rw [numsS (by omega) (by omega), Option.bind_some, append_at (by simp [b4]), Option.bind_some]
    unfold lR
    rw [List.append_nil]
  have hw : WOk i o [] := ⟨by omega, by omega, by simp, by simp, by simp⟩
  have hm := msgS_len F n
  unfold ef
  rw [hst, Option.bind_some]
  unfold iv
  have hnx : eo [] = some (⟨false, 0, 0⟩, []) := by kernel_rfl
  rw [hnx, Option.bind_some]
  dsimp only
  rw [hw.send (by omega) (by omega), Option.bind_some]
  dsimp only
  rw [if_pos (by decide), Option.bind_some]
  dsimp only
  have hq := ((jR (r := n) (by omega)).2.2.2 K hK).2.1
  rw [show (⟨eh n, []⟩ : ai) = rcv n from rfl, hq, Option.bind_some]
  dsimp only
  rw [if_neg (by decide), if_pos (by decide)]
  rfl
theorem SOk.tick {Sz I i n r o K F : Nat} {D : List (List UInt8)} {its : List Tr} {dl : List Arv} (h : SOk Sz I i n r o K F D its dl) (hch : Ch n r its) (hi : i < 12) (ho : o < 790) :
    ∃ o' K' its' dl', o' ≤ o + 1 ∧ Ch n n its' ∧ New r (i + 1) dl' ∧ ch (ses Sz I i r o K F D its dl) [] [] = some (ses Sz I (i + 1) n o' K' F D its' dl', 0) ∧ SOk Sz I (i + 1) n n o' K' F D its' dl' := by
  have hv := h.valid
  have hc := h.copied
  obtain ⟨hw, hn, hr, hK, hF, hD, hS, hI, hdd, -, hdel⟩ := h
  have hit := hw.hl
  obtain ⟨s, hs, K1, dl1, hK1, hdel1, hnew1, rfl⟩ := hear_at (Sz := Sz) (I := I) (i := i + 1) (o := o) (j := i) (F := F) (r0 := r) (w := ⟨((i + 1 : Nat) : Int), o, []⟩) (e := 0) hn hF (by omega) hch hK (hdel.up (Nat.le_succ i)) (fun j hj hr => by have := hdel.len; omega)
  have hup : WOk i 0 [] := ⟨by omega, by omega, by simp, by simp, by simp⟩
  have hc1 : aM [] = some false := cy _ _ (by kernel_rfl)
  have h90 : ∀ w o51 s, loopO (db (w, [], 0) o51) (0, s) = some s := fun w o51 s => loopO_of (n := 1) (by
    unfold loopN db
    obtain ⟨s1, s2, s3, s4, s5, s6, s7, s8, s9, s10, s11, s12, s13, s14, s15, s16⟩ := s
    dsimp only
    rw [if_neg (by simp)])
  have hgo : ch (ses Sz I i r o K F D its dl) [] [] = (remO ((i + 1 : Nat) : Int) (I : Int)).bind fun x92 => if (x92 == (0 : Int)) = true then some (ses Sz I (i + 1) n (o + 1) K1 F D [⟨((i + 1 : Nat) : Int) + 1, o, lR F n⟩] dl1, 0) else some (ses Sz I (i + 1) n o K1 F D [] dl1, 0) := by
    have hrq := request_at (Sz := Sz) (I := I) (i := i + 1) (K := K1) (o := o) (dl := dl1) hn hF hS hD hdd hK1 (by omega) (by omega)
    unfold ch
    rw [hv, Option.bind_some, if_neg (by decide), hc1, Option.bind_some, if_neg (by decide), Option.bind_some, if_neg (by decide), if_neg (by simp; omega), hc, Option.bind_some]
    dsimp only
    rw [hw.tick, Option.bind_some]
    dsimp only
    rw [w64 (n := (i : Int) + 1) (by omega) (by omega)]
    rw [show (i : Int) + 1 = ((i + 1 : Nat) : Int) by omega, show (rcv r).aK = eh r from rfl, show (rcv r).aF = [] from rfl, hs, Option.bind_some]
    dsimp only
    have hup' : fe ⟨(i : Int), 0, []⟩ = some (⟨((i + 1 : Nat) : Int), 0, []⟩, [], 0) := hup.tick
    rw [hup', Option.bind_some]
    dsimp only
    rw [h90, Option.bind_some]
    dsimp only
    rw [hrq]
    rfl
  have hI0 : (I : Int) ≠ 0 := by omega
  by_cases hm : (((i + 1 : Nat) : Int).tmod I == 0) = true
  · refine ⟨o + 1, K1, [⟨((i + 1 : Nat) : Int) + 1, o, lR F n⟩], dl1, Nat.le_refl _, ?_, hnew1, ?_, ⟨?_, hn, Nat.le_refl _, hK1, hF, hD, hS, hI, hdd, by omega, hdel1⟩⟩
    rotate_left
    · rw [hgo]
      unfold remO
      rw [if_neg hI0, Option.bind_some, if_pos hm]
    · have : WOk (i + 1) o [] := ⟨by omega, by omega, by simp, by simp, by simp⟩
      exact this.snoc (by omega) (by rw [msgS_len]; omega)
    · exact .stat F n (by omega) (by omega) (Nat.le_refl _) rfl .nil
  · refine ⟨o, K1, [], dl1, by omega, .nil, hnew1, ?_, ⟨⟨by omega, by omega, by simp, by simp, by simp⟩, hn, Nat.le_refl _, hK1, hF, hD, hS, hI, hdd, by omega, hdel1⟩⟩
    rw [hgo]
    unfold remO
    rw [if_neg hI0, Option.bind_some, if_neg hm]
theorem SOk.quiet {Sz I i n o K F : Nat} {D : List (List UInt8)} {its : List Tr} {dl : List Arv} (h : SOk Sz I i n n o K F D its dl) : br (ses Sz I i n o K F D its dl) = some true := by
  have hn := h.hn
  unfold br
  dsimp only
  rw [kP h.hF (by omega), Option.bind_some, (jR (r := n) (by omega)).2.2.1, Option.bind_some, h.valid, Option.bind_some, if_pos rfl, if_pos (by decide)]
  rfl
end Go.Dw.Se


set_option maxRecDepth 100000
set_option maxHeartbeats 4000000
namespace Go.Dw.Se
open Go.Dw Go.Proofs

abbrev Dice := am
def jE (l : List Int) (a : Int) : Prop := 0 ≤ a ∧ a ≤ l.length ∧ l.length ≤ 500
theorem next_ok (k : Int) {l : List Int} {a : Int} (hd : jE l a) (h0 : 1 ≤ k) (h1 : k ≤ 1000000) : Ok (bc k ⟨l, a⟩) (fun r => 0 ≤ r.1 ∧ r.1 < k ∧ jE r.2.fL r.2.fAt) := by
  obtain ⟨i0, i1, i2⟩ := hd
  unfold bc
  dsimp only
  refine Ok.iteD (fun _ => Ok.ret ⟨Int.le_refl _, by omega, i0, i1, i2⟩) (fun hlt => ?_)
  refine Ok.iteD (fun _ => by omega) (fun _ => ?_)
  refine Ok.bind (Ok.get (by omega) (by omega)) (fun x _ => ?_)
  refine Ok.bind (Ok.rem (by omega)) (fun y hy => ?_)
  subst hy
  have hl : x.tmod k < k := Int.tmod_lt_of_pos _ (by omega)
  have hg : -k < x.tmod k := by
    rcases Int.le_total 0 x with h | h
    · have := Int.tmod_nonneg k h; omega
    · have e : x.tmod k = -((-x).tmod k) := by rw [Int.neg_tmod]; omega
      have := Int.tmod_lt_of_pos (-x) (show 0 < k by omega)
      omega
  rw [w64 (n := a + 1) (by omega) (by omega)]
  refine Ok.iteD (fun _ => ?_) (fun _ => Ok.ret ⟨by simp only; omega, by simp only; omega, ?_, ?_, i2⟩)
  · rw [w64 (by omega) (by omega)]
    exact Ok.ret ⟨by simp only; omega, by simp only; omega, by simp only; omega, by simp only; omega, i2⟩
  · simp only; omega
  · simp only; omega
theorem pick_ok (q : List Int) {l : List Int} {a : Int} (hd : jE l a) (h0 : q ≠ []) (h1 : q.length ≤ 1000) : Ok (ir q ⟨l, a⟩) (fun r => r.1 ∈ q ∧ jE r.2.fL r.2.fAt) := by
  unfold ir
  have := List.length_pos_iff.2 h0
  refine Ok.bind (next_ok _ hd (by omega) (by omega)) (fun x hx => ?_)
  refine Ok.bind (Ok.get hx.1 hx.2.1) (fun y hy => ?_)
  exact Ok.ret ⟨hy.1, hx.2.2⟩
theorem pushes_ok {Sz I i n0 r o0 K F0 : Nat} {D0 : List (List UInt8)} {its0 : List Tr} {dl : List Arv} (h : SOk Sz I i n0 r o0 K F0 D0 its0 dl) (hch : Ch n0 r its0) (hn : n0 ≤ 22) (ho : o0 ≤ 700) {k : Nat} (hk : k ≤ 2) (d : Dice) {fl : List Int} {fa : Int} (hd : jE fl fa) :
    Ok (loopO (cW ((k : Int), d) (n0 : Int) (i : Int)) ((0 : Int), fl, fa, (i : Int), (I : Int), (K : Int), (Sz : Int), (F0 : Int), D0, eh r, [], (i : Int), (o0 : Int), its0, (i : Int), 0, [], dl))
      (fun q => ∃ (F : Nat) (D : List (List UInt8)) (its : List Tr) (fl' : List Int) (fa' : Int), SOk Sz I i (n0 + k) r (o0 + k) K F D its dl ∧ Ch (n0 + k) r its ∧ jE fl' fa' ∧
        q = .inl ((n0 : Int), (i : Int), fl', fa', (i : Int), (I : Int), (K : Int), (Sz : Int), (F : Int), D, eh r, [], (i : Int), ((o0 + k : Nat) : Int), its, (i : Int), 0, [], dl)) := by
  refine Ok.loop (fun s => ∃ (j F : Nat) (D : List (List UInt8)) (its : List Tr) (fl' : List Int) (fa' : Int), j ≤ k ∧ SOk Sz I i (n0 + j) r (o0 + j) K F D its dl ∧ Ch (n0 + j) r its ∧ jE fl' fa' ∧
      s = ((j : Int), fl', fa', (i : Int), (I : Int), (K : Int), (Sz : Int), (F : Int), D, eh r, [], (i : Int), ((o0 + j : Nat) : Int), its, (i : Int), 0, [], dl)) (fun s => ((k : Int) - s.1).toNat) ?_ ⟨0, F0, D0, its0, fl, fa, Nat.zero_le _, h, hch, hd, rfl⟩
  rintro s ⟨j, F, D, its, fl', fa', h1, h2, h3, h4, rfl⟩
  unfold cW
  dsimp only
  refine Ok.iteD (fun hlt => ?_) (fun hge => ?_)
  · refine Ok.bind (next_ok 2 h4 (by omega) (by omega)) (fun x hx => ?_)
    refine Ok.bind (P := fun y => okS y) ?_ (fun y hy => ?_)
    · obtain ⟨g0, g1, -⟩ := hx
      refine (Ok.get (l := [[97], [98]]) g0 (by simpa using g1)).mono fun y hy => ?_
      have := hy.1
      simpa [okS] using this
    obtain ⟨F', D', g1, g2, g3⟩ := h2.push (by omega) (by omega) hy
    have g2' : bS ⟨(i : Int), (I : Int), (K : Int), ⟨(Sz : Int), (F : Int), D⟩, ⟨eh r, []⟩, ⟨(i : Int), ((o0 + j : Nat) : Int), its⟩, ⟨(i : Int), 0, []⟩, dl⟩ y ⟨false, 0, 0⟩ = _ := g2
    rw [g2', Option.bind_some]
    dsimp only
    rw [if_neg (by decide), w64 (by omega) (by omega)]
    exact Ok.nx ⟨j + 1, F', D', _, _, _, by omega, g3, h3.snoc g1 hy rfl, hx.2.2, by simp [rcv]; omega⟩ (by simp only; omega)
  · have : j = k := by omega
    subst this
    exact Ok.st ⟨F, D, its, fl', fa', h2, h3, h4, rfl⟩
theorem look_ok {dl : List Arv} {n0 k i : Nat} (hl : dl.length = n0 + k) (hs : ∀ j (h : j < dl.length), dl[j].jK = j) (hnew : New n0 (i + 1) dl) (hi : i ≤ 100) (hn : n0 + k ≤ 100)
    {y : Int × Int × (List Int) × Int × Int × Int × Int × Int × Int × (List (List UInt8)) × (List aa) × (List aa) × Int × Int × (List ac) × Int × Int × (List ac) × (List aj)} (hy : y.1 = n0) (hy2 : y.2.1 = i)
    {d : Dice} {x : Ses × Int} (hx : x.1.au = dl) :
    loopO (cP y ((k : Int), d) x) y.1 = some (.inl ()) := by
  refine Ok.eq (Ok.loop (fun s => ∃ j : Nat, s = j ∧ n0 ≤ j ∧ j ≤ n0 + k) (fun s => ((n0 : Int) + k - s).toNat) ?_ ⟨n0, hy, Nat.le_refl _, by omega⟩)
  rintro s ⟨j, rfl, h1, h2⟩
  unfold cP
  rw [hy, hy2, hx]
  dsimp only
  rw [w64 (n := (n0 : Int) + k) (by omega) (by omega)]
  refine Ok.iteD (fun hlt => ?_) (fun _ => Ok.st rfl)
  have hj : j < dl.length := by omega
  have e1 := hs j hj
  have e2 := hnew j hj h1
  rw [getO_at rfl hj, Option.bind_some, e1, if_neg (by simp), e2, w64 (n := (i : Int) + 1) (by omega) (by omega), if_neg (by simp), w64 (by omega) (by omega)]
  exact Ok.nx ⟨j + 1, by simp, by omega, by omega⟩ (by omega)
theorem lM (t : List Int) : er t = some true := by
  unfold er jQ
  rw [Option.bind_some]
  refine Ok.eq ?_
  refine Ok.iteND (fun _ => Ok.of (a := true) (by rw [sane_at]; rfl) rfl) (fun ht => ?_)
  unfold kO
  rw [Option.bind_some]
  have hd0 : jE t 0 := ⟨Int.le_refl _, by omega, by omega⟩
  refine Ok.bind (pick_ok [1, 2, 5] hd0 (by simp) (by simp)) (fun x5 h5 => ?_)
  refine Ok.bind (pick_ok [1, 2, 3] h5.2 (by simp) (by simp)) (fun x6 h6 => ?_)
  obtain ⟨Sz, hSz, hS⟩ : ∃ Sz : Nat, x5.1 = Sz ∧ 1 ≤ Sz ∧ Sz ≤ 5 := by
    have := h5.1
    simp only [List.mem_cons, List.not_mem_nil, or_false] at this
    exact ⟨x5.1.toNat, by omega, by omega, by omega⟩
  obtain ⟨I, hIe, hI⟩ : ∃ I : Nat, x6.1 = I ∧ 1 ≤ I ∧ I ≤ 3 := by
    have := h6.1
    simp only [List.mem_cons, List.not_mem_nil, or_false] at this
    exact ⟨x6.1.toNat, by omega, by omega, by omega⟩
  have hnew : dt x5.1 x6.1 = some (ses Sz I 0 0 0 0 0 [] [] [], 0) := by
    rw [hSz, hIe]
    unfold dt iE
    rw [din_t (by omega), Option.bind_some, if_neg (by decide), Option.bind_some, if_neg (by simp), sin_t (by omega), Option.bind_some, if_neg (by decide)]
    rfl
  rw [hnew, Option.bind_some]
  dsimp only
  rw [if_neg (by decide)]
  refine Ok.bind (P := fun q => ∃ (Sz I i n o K F : Nat) (D : List (List UInt8)) (its : List Tr) (dl : List Arv), SOk Sz I i n n o K F D its dl ∧ q = .inl ((n : Int), (i : Int), (I : Int), (K : Int), (Sz : Int), (F : Int), D, eh n, [], (i : Int), (o : Int), its, (i : Int), 0, [], dl)) ?_ (fun q hq => ?_)
  rotate_left
  · obtain ⟨Sz, I, i, n, o, K, F, D, its, dl, h, rfl⟩ := hq
    dsimp only
    have hq : br ⟨(i : Int), (I : Int), (K : Int), ⟨(Sz : Int), (F : Int), D⟩, ⟨eh n, []⟩, ⟨(i : Int), (o : Int), its⟩, ⟨(i : Int), 0, []⟩, dl⟩ = some true := h.quiet
    have hn := h.hn; have hF := h.hF
    have hx : dZ ⟨(Sz : Int), (F : Int), D⟩ = some (n : Int) := by
      unfold dZ
      dsimp only
      rw [w64 (by omega) (by omega)]
      exact congrArg some (by omega)
    rw [hq, Option.bind_some, if_pos rfl, hx, Option.bind_some, if_pos (by simp), sane_at]
    exact Ok.ret rfl
  refine Ok.loop (fun s => ∃ (i n o K F : Nat) (D : List (List UInt8)) (its : List Tr) (dl : List Arv) (fl : List Int) (fa : Int), i ≤ 12 ∧ n ≤ 2 * i ∧ o ≤ 3 * i ∧ SOk Sz I i n n o K F D its dl ∧ Ch n n its ∧ jE fl fa ∧
      s = ((n : Int), (i : Int), fl, fa, (i : Int), (I : Int), (K : Int), (Sz : Int), (F : Int), D, eh n, [], (i : Int), (o : Int), its, (i : Int), 0, [], dl)) (fun s => (12 - s.2.1).toNat) ?_
    ⟨0, 0, 0, 0, 0, [], [], [], _, _, by omega, by omega, by omega, ⟨⟨by omega, by omega, by simp, by simp, by simp⟩, by omega, by omega, by omega, by simp, by simp, hS, hI, by simp, by omega, ⟨rfl, by simp, by simp, by simp⟩⟩, .nil, h6.2, rfl⟩
  rintro s ⟨i, n, o, K, F, D, its, dl, fl, fa, h1, h2, h3, h4, h5, h6, rfl⟩
  unfold eA
  dsimp only
  refine Ok.iteD (fun hlt => ?_) (fun _ => Ok.st ⟨Sz, I, i, n, o, K, F, D, its, dl, h4, rfl⟩)
  refine Ok.bind (next_ok 3 h6 (by omega) (by omega)) (fun x hx => ?_)
  obtain ⟨x1, dd⟩ := x
  obtain ⟨g0, g1, g2⟩ := hx
  simp only at g0 g1 g2
  obtain ⟨k, rfl⟩ : ∃ k : Nat, x1 = k := ⟨x1.toNat, by omega⟩
  dsimp only
  refine Ok.bind (pushes_ok h4 h5 (by omega) (by omega) (by omega) dd g2) (fun q hq => ?_)
  obtain ⟨F', D', its', fl', fa', q1, q2, q3, rfl⟩ := hq
  dsimp only
  obtain ⟨o', K', its2, dl', r1, r2, r3, r4, r5⟩ := q1.tick q2 (by omega) (by omega)
  have r4' : ch ⟨(i : Int), (I : Int), (K : Int), ⟨(Sz : Int), (F' : Int), D'⟩, ⟨eh n, []⟩, ⟨(i : Int), ((o + k : Nat) : Int), its'⟩, ⟨(i : Int), 0, []⟩, dl⟩ [] [] = _ := r4
  rw [r4', Option.bind_some]
  dsimp only
  have hl := r5.del.len
  have hlk := look_ok (dl := dl') (n0 := n) (k := k) (i := i) hl r5.del.seq r3 (by omega) (by omega) (y := ((n : Int), (i : Int), fl', fa', (i : Int), (I : Int), (K : Int), (Sz : Int), (F' : Int), D', eh n, [], (i : Int), ((o + k : Nat) : Int), its', (i : Int), 0, [], dl)) rfl rfl (d := dd)
    (x := (ses Sz I (i + 1) (n + k) o' K' F' D' its2 dl', 0)) rfl
  rw [if_neg (by decide), w64 (n := (n : Int) + k) (by omega) (by omega), if_neg (by simp; omega), if_neg (by decide), show (rcv (n + k)).aF = [] from rfl, if_neg (by decide)]
  simp only at hlk
  rw [hlk, Option.bind_some]
  dsimp only
  rw [w64 (n := (i : Int) + 1) (by omega) (by omega)]
  refine Ok.nx ⟨i + 1, n + k, o', K', F', D', its2, dl', fl', fa', by omega, by omega, by omega, r5, r2, q3, ?_⟩ (by simp only; omega)
  simp [rcv]
end Go.Dw.Se
