
import Derived.Test.YtoplbomkhkbklaaGreatSoFn
import Derived.Test.YtoplbomkhkbklaaGreatDwPlain
import Derived.Test.YtoplbomkhkbklaaGreatDwOk
import Derived.Test.YtoplbomkhkbklaaGreatSoCo
import Derived.KernelRfl



set_option maxRecDepth 100000
set_option maxHeartbeats 4000000
namespace Go.Dw.So
namespace Sq
open Go.Dw
abbrev Src := aJ
theorem byteO_at {s : List UInt8} {n : Int} {i : Nat} (hn : n = i) (hi : i < s.length) : sn s n = some ((s[i].toNat : Nat) : Int) := by
 subst hn
 unfold sn
 rw [if_pos ⟨za, za⟩, Int.toNat_natCast, List.getD_eq_getElem?_getD, zd hi]; rfl
theorem ol {α : Type} {l m : List α} {b : Nat} (h : (l.length + m.length) * b ≤ 140737488355328) : pS l m b = some (l ++ m) := by
 unfold pS
 rw [if_pos h]
theorem loop_list {α ω : Type} {body : Int → Option (oP Int ω)} (l : List α) {p : α → Bool} {u r : ω} (h1 : ∀ (i : Nat) (hi : i < l.length), body i = if p l[i] = true then some (.next ((i + 1 : Nat) : Int)) else some (.stop r))
  (h2 : body (l.length : Nat) = some (.stop u)) : e8 body (0 : Int) = some (if l.all p = true then u else r) := by
 have : ∀ k i, i + k = l.length → e8 body (i : Int) = some (if (l.drop i).all p = true then u else r) := by
  intro k
  induction k with
  | zero =>
   intro i hi
   obtain rfl : i = l.length := by omega
   rw [pK h2]; simp
  | succ k ih =>
   intro i hi
   have hlt : i < l.length := by omega
   rw [List.drop_eq_getElem_cons hlt, List.all_cons]
   by_cases hp : p l[i] = true
   ·rw [qj (by rw [h1 i hlt, if_pos hp]), ih (i + 1) za, hp, Bool.true_and]
   ·rw [pK (by rw [h1 i hlt, if_neg hp])]; simp [hp]
 have := this l.length 0 za
 simpa using this

def plainB (c : UInt8) : Bool := (decide (65 ≤ c.toNat) && decide (c.toNat ≤ 90)) || (decide (48 ≤ c.toNat) && decide (c.toNat ≤ 57))
theorem dec1 (n : Nat) : decide ((n : Int) ≥ 65) = decide (65 ≤ n) := decide_eq_decide.2 za
theorem dec2 (n : Nat) : decide ((n : Int) ≤ 90) = decide (n ≤ 90) := decide_eq_decide.2 za
theorem dec3 (n : Nat) : decide ((n : Int) ≥ 48) = decide (48 ≤ n) := decide_eq_decide.2 za
theorem dec4 (n : Nat) : decide ((n : Int) ≤ 57) = decide (n ≤ 57) := decide_eq_decide.2 za
theorem plain_eq (c : UInt8) : gz ((c.toNat : Nat) : Int) = some (plainB c) := by
 unfold gz plainB
 rw [dec1, dec2, dec3, dec4]
 cases decide (65 ≤ c.toNat) <;> cases decide (c.toNat ≤ 90) <;> cases decide (48 ≤ c.toNat) <;> simp
def mA (s : List UInt8) (lo hi : Int) : Bool := s.all plainB && (decide ((s.length : Int) ≥ lo) && decide ((s.length : Int) ≤ hi))
theorem code_l7 {s : List UInt8} (hs : s.length ≤ 9223372036854775807) : e8 (fg s) (0 : Int) = some (if s.all plainB = true then .inl () else .inr false) := by
 refine loop_list s (fun i hi => ?_) ?_
 ·unfold fg
  rw [if_pos so, byteO_at rfl hi, w64 za za]
  simp only [zc, plain_eq]
  cases plainB s[i] <;> simp
 ·unfold fg
  rw [if_neg sm]
theorem code_eq {s : List UInt8} (hs : s.length ≤ 9223372036854775807) (lo hi : Int) : eN s lo hi = some (mA s lo hi) := by
 unfold eN mA
 rw [code_l7 hs]
 cases s.all plainB with
 | true => cases decide ((s.length : Int) ≥ lo) <;> simp
 | false => rfl
def SidLen (x : Src) : Prop := x.aV.length ≤ 9223372036854775807 ∧ x.aL.length ≤ 9223372036854775807 ∧ x.ar.length ≤ 9223372036854775807 ∧ x.aX.length ≤ 9223372036854775807
def m5 (x : Src) : Bool := mA x.aV 1 2 && (mA x.aL 1 5 && (mA x.ar 0 2 && (decide (x.ar.length ≠ 1) && mA x.aX 3 3)))
theorem Valid_eq {x : Src} (hx : SidLen x) : fB x = some (m5 x) := by
 obtain ⟨h1, h2, h3, h4⟩ := hx
 unfold fB m5
 simp only [code_eq h1, code_eq h2, code_eq h3, code_eq h4, zc]
 have e : ((x.ar.length : Int) != 1) = decide (x.ar.length ≠ 1) := by
  by_cases h : x.ar.length = 1
  ·simp [h]
  ·simp [h]; omega
 rw [e]
 cases mA x.aV 1 2 <;> cases mA x.aL 1 5 <;> cases mA x.ar 0 2 <;> cases decide (x.ar.length ≠ 1) <;> simp
theorem m9 {s : List UInt8} {lo : Int} {hi : Nat} (h : mA s lo hi = true) : s.length ≤ hi := by
 unfold mA at h
 simp only [Bool.and_eq_true, decide_eq_true_eq] at h
 omega
theorem valid_len {x : Src} (h : m5 x = true) : x.aV.length ≤ 2 ∧ x.aL.length ≤ 5 ∧ x.ar.length ≤ 2 ∧ x.aX.length ≤ 3 := by
 unfold m5 at h
 simp only [Bool.and_eq_true] at h
 exact ⟨m9 (hi := 2) h.1, m9 (hi := 5) h.2.1, m9 (hi := 2) h.2.2.1, m9 (hi := 3) h.2.2.2.2⟩

end Sq
end Go.Dw.So


set_option maxRecDepth 100000
set_option maxHeartbeats 4000000
namespace Go.Dw.So
open Go.Dw
abbrev Src := aj
abbrev Pick := aq
abbrev Sid := aJ

theorem mod_ok (a b : Int) (h0 : 1 ≤ b) (h1 : b ≤ 1000000000) : Ok (jt a b) (fun r => 0 ≤ r ∧ r < b) := by
 unfold jt
 have hl : a.tmod b < b := Int.tmod_lt_of_pos _ za
 have hg : -b < a.tmod b := by
  rcases Int.le_total 0 a with h | h
  ·have := Int.tmod_nonneg b h; omega
  ·have e : a.tmod b = -((-a).tmod b) := by rw [Int.neg_tmod]; omega
   have := Int.tmod_lt_of_pos (-a) (show 0 < b by omega)
   omega
 refine Ok.oV (fun _ => za) (fun _ => ?_)
 refine Ok.bind (Ok.rem za) (fun x hx => ?_)
 subst hx
 refine Ok.oV (fun _ => ?_) (fun _ => ?_)
 ·rw [w64 za za]
  exact Ok.ret za
 ·exact Ok.ret za
def bN (d : Src) : Prop := 0 ≤ d.fAt ∧ d.fAt ≤ d.fL.length ∧ d.fL.length ≤ 2000
theorem raw_ok (d : Src) (hd : bN d) : Ok (m7 d) (fun r => bN r.2) := by
 obtain ⟨h0, h1, h2⟩ := hd
 unfold m7
 refine Ok.oV (fun _ => Ok.ret ⟨h0, h1, h2⟩) (fun h => ?_)
 rw [w64 (n := d.fAt + 1) za za, w64 za za]
 refine Ok.bind (Ok.get za za) (fun x _ => ?_)
 refine Ok.ret ⟨?_, ?_, h2⟩ <;> simp only <;> omega
theorem c8 (k : Int) (d : Src) (hd : bN d) (h0 : 1 ≤ k) (h1 : k ≤ 1000000000) : Ok (cr k d) (fun r => 0 ≤ r.1 ∧ r.1 < k ∧ bN r.2) := by
 unfold cr
 refine Ok.bind (raw_ok d hd) (fun x hx => ?_)
 refine Ok.bind (mod_ok _ _ h0 h1) (fun y hy => ?_)
 exact Ok.ret ⟨hy.1, hy.2, hx⟩
theorem dn (l : List Int) (d : Src) (hd : bN d) (h0 : l ≠ []) (h1 : l.length ≤ 1000000) : Ok (dJ l d) (fun r => r.1 ∈ l ∧ bN r.2) := by
 unfold dJ
 have := List.length_pos_iff.2 h0
 refine Ok.bind (c8 _ d hd za za) (fun x hx => ?_)
 refine Ok.bind (Ok.get hx.1 hx.2.1) (fun y hy => ?_)
 exact Ok.ret ⟨hy.1, hx.2.2⟩
def stas : List (List UInt8) := [[83, 49], [83, 50], [83, 51], [83, 52], [83, 53], [83, 54]]
def IsSid (a : Sid) : Prop := Sq.m5 a = true
theorem stas_ok : ∀ x ∈ stas, Sq.m5 ⟨[65, 66], x, [48, 48], [66, 72, 90]⟩ = true := by decide +kernel
theorem source_ok (n : Int) : Ok (dw n) IsSid := by
 unfold dw
 refine Ok.bind (mod_ok n 6 za za) (fun x hx => ?_)
 refine Ok.bind (Ok.get hx.1 hx.2) (fun y hy => ?_)
 exact Ok.ret (stas_ok y hy.1)
theorem new_ok (l : List Int) : Ok (iz l) bN := by
 unfold iz
 refine Ok.bind (Ok.cut za (by split <;> omega) (by split <;> omega)) (fun x hx => ?_)
 subst hx
 refine Ok.ret ⟨sm, sm, ?_⟩
 simp only [List.length_take, List.length_drop]
 split <;> omega


def d8 (m : Int) (p : aa) : Prop := (-m ≤ p.fX ∧ p.fX ≤ m) ∧ (-m ≤ p.fY ∧ p.fY ≤ m) ∧ (-m ≤ p.fZ ∧ p.fZ ≤ m)
theorem kI (m : Int) (h0 : 0 ≤ m) (h1 : m ≤ 1000) (d : Src) (hd : bN d) : Ok (gj m d) (fun r => d8 m r.1 ∧ bN r.2) := by
 unfold gj
 rw [w64 (n := 2 * m) za za, w64 (n := 2 * m + 1) za za, w64 (n := m + 1) za za]
 refine Ok.bind (c8 _ _ hd za za) (fun y1 g1 => ?_)
 refine Ok.bind (c8 _ _ g1.2.2 za za) (fun y2 g2 => ?_)
 refine Ok.bind (c8 _ _ g2.2.2 za za) (fun y3 g3 => ?_)
 rw [w64 (n := y1.1 - m) za za, w64 (n := y2.1 - m) za za]
 exact Ok.ret ⟨⟨zb, zb, zb⟩, g3.2.2⟩
def f5 (b : ai) : Prop := d8 40 b.ak ∧ (0 ≤ b.ae.fX - b.ak.fX ∧ b.ae.fX - b.ak.fX ≤ 3) ∧ (0 ≤ b.ae.fY - b.ak.fY ∧ b.ae.fY - b.ak.fY ≤ 3) ∧ (0 ≤ b.ae.fZ - b.ak.fZ ∧ b.ae.fZ - b.ak.fZ ≤ 3)
theorem box_ok (m side : Int) (h0 : 0 ≤ m) (h1 : m ≤ 40) (h2 : 0 ≤ side) (h3 : side ≤ 3) (d : Src) (hd : bN d) : Ok (kT m side d) (fun r => f5 r.1 ∧ bN r.2) := by
 unfold kT
 rw [w64 (n := side + 1) za za]
 refine Ok.bind (kI m h0 za d hd) (fun y0 g0 => ?_)
 refine Ok.bind (c8 _ _ g0.2 za za) (fun y1 g1 => ?_)
 refine Ok.bind (c8 _ _ g1.2.2 za za) (fun y2 g2 => ?_)
 refine Ok.bind (c8 _ _ g2.2.2 za za) (fun y3 g3 => ?_)
 obtain ⟨⟨p1, p2, p3⟩, -⟩ := g0
 rw [w64 (n := y0.1.fX + y1.1) za za, w64 (n := y0.1.fY + y2.1) za za, w64 (n := y0.1.fZ + y3.1) za za]
 refine Ok.ret ⟨⟨⟨zb, zb, zb⟩, zb, zb, zb⟩, g3.2.2⟩

structure TabOk (t : aK) : Prop where
 step : t.aU = 20 ∨ t.aU = 25 ∨ t.aU = 40 ∨ t.aU = 100
 len : 1 ≤ t.ak.length ∧ t.ak.length ≤ 30
 same : t.ae.length = t.ak.length
 low : ∀ x ∈ t.ak, 0 ≤ x ∧ x ≤ 3000
 high : ∀ x ∈ t.ae, 0 ≤ x ∧ x ≤ 5000
theorem table_ok (d : Src) (hd : bN d) : Ok (gl d) (fun r => TabOk r.1 ∧ bN r.2) := by
 unfold gl
 refine Ok.bind (dn _ d hd sm sm) (fun x1 h1 => ?_)
 obtain ⟨hst, h1⟩ := h1
 have hst : x1.1 = 20 ∨ x1.1 = 25 ∨ x1.1 = 40 ∨ x1.1 = 100 := by simpa using hst
 refine Ok.bind (c8 _ _ h1 za za) (fun x2 h2 => ?_)
 have hq : ∃ q, IntKind.wrap .i64 ((400 : Int).tdiv x1.1) = q ∧ 4 ≤ q ∧ q ≤ 20 := by
  rcases hst with e | e | e | e <;> rw [e] <;> exact ⟨_, rfl, by decide, by decide⟩
 have hp : ∃ q, IntKind.wrap .i64 (x1.1.tdiv 4) = q ∧ 0 ≤ q ∧ q ≤ 25 := by
  rcases hst with e | e | e | e <;> rw [e] <;> exact ⟨_, rfl, by decide, by decide⟩
 obtain ⟨q, hq, q0, q1⟩ := hq
 obtain ⟨p, hp, p0, p1⟩ := hp
 refine Ok.bind (P := fun o => bN ⟨o.1, o.2.1⟩ ∧ (1 ≤ o.2.2.1.length ∧ o.2.2.1.length ≤ 30) ∧ o.2.2.2.length = o.2.2.1.length ∧ (∀ x ∈ o.2.2.1, 0 ≤ x ∧ x ≤ 3000) ∧ (∀ x ∈ o.2.2.2, 0 ≤ x ∧ x ≤ 5000))
  (Ok.loop (fun s => (0 ≤ s.2.2.1 ∧ s.2.2.1 ≤ 23) ∧ s.2.2.2.2.2.1.length = s.2.2.1.toNat ∧ s.2.2.2.2.2.2.length = s.2.2.1.toNat ∧ (0 ≤ s.1 ∧ s.1 ≤ 60 * s.2.2.1) ∧ (0 ≤ s.2.1 ∧ s.2.1 ≤ 100 * s.2.2.1 + 2) ∧ bN ⟨s.2.2.2.1, s.2.2.2.2.1⟩ ∧ (∀ x ∈ s.2.2.2.2.2.1, 0 ≤ x ∧ x ≤ 3000) ∧ (∀ x ∈ s.2.2.2.2.2.2, 0 ≤ x ∧ x ≤ 5000))
   (fun s => (23 - s.2.2.1).toNat) ?_ ⟨⟨sm, sm⟩, rfl, rfl, ⟨sm, sm⟩, ⟨zb, zb⟩, h2.2.2, sm, sm⟩) ?_
 ·rintro ⟨s3, s4, s5, s6, s7, s8, s9⟩ ⟨i0, i1, i2, i3, i4, i5, i6, i7⟩
  simp only at i0 i1 i2 i3 i4 i5 i6 i7
  unfold fJ
  refine Ok.bind (Ok.quo za) (fun y1 g1 => ?_)
  rw [hq] at g1; subst g1
  refine Ok.bind (c8 _ _ i5 za za) (fun y2 g2 => ?_)
  rw [w64 (n := y1 + y2.1) za za]
  refine Ok.oV (fun hle => ?_) (fun hgt => ?_)
  ·refine Ok.bind (Ok.app (by simp only [List.length_cons, List.length_nil]; omega)) (fun y3 g3 => ?_)
   refine Ok.bind (Ok.app (by simp only [List.length_cons, List.length_nil]; omega)) (fun y4 g4 => ?_)
   refine Ok.bind (dn _ _ g2.2.2 sm sm) (fun y5 g5 => ?_)
   refine Ok.bind (Ok.quo za) (fun y6 g6 => ?_)
   rw [hp] at g6; subst g6
   refine Ok.bind (dn _ _ g5.2 sm sm) (fun y7 g7 => ?_)
   have a1 : 0 ≤ y5.1 ∧ y5.1 ≤ 35 := by have := g5.1; simp at this; omega
   have a2 : 0 ≤ y7.1 ∧ y7.1 ≤ 30 := by have := g7.1; simp at this; omega
   rw [w64 (n := y5.1 + y6) za za, w64 (n := s3 + (y5.1 + y6)) za za, w64 (n := s5 + 1) za za, w64 (by split <;> omega) (by split <;> omega)]
   subst g3 g4
   refine Ok.nx ⟨⟨zb, zb⟩, ?_, ?_, ⟨zb, zb⟩, ⟨by simp only; split <;> omega, by simp only; split <;> omega⟩, g7.2, ?_, ?_⟩ zb
   ·simp only [List.length_append, List.length_cons, List.length_nil]; omega
   ·simp only [List.length_append, List.length_cons, List.length_nil]; omega
   ·intro x hx
    simp only [List.mem_append, List.mem_singleton] at hx
    rcases hx with hx | rfl
    ·exact i6 x hx
    ·omega
   ·intro x hx
    simp only [List.mem_append, List.mem_singleton] at hx
    rcases hx with hx | rfl
    ·exact i7 x hx
    ·omega
  ·exact Ok.st ⟨g2.2.2, ⟨zb, zb⟩, zb, i6, i7⟩
 ·intro o ho
  exact Ok.ret ⟨⟨hst, ho.2.1, ho.2.2.1, ho.2.2.2.1, ho.2.2.2.2⟩, ho.1⟩
theorem association_ok (d : Src) (hd : bN d) : Ok (c9 3 d) (fun r => (f5 r.1.ac ∧ TabOk r.1.az) ∧ bN r.2) := by
 unfold c9
 refine Ok.bind (box_ok 20 3 za za za za d hd) (fun x1 h1 => ?_)
 refine Ok.bind (table_ok _ h1.2) (fun x2 h2 => ?_)
 refine Ok.bind (dn _ _ h2.2 sm sm) (fun x3 h3 => ?_)
 refine Ok.bind (dn _ _ h3.2 sm sm) (fun x4 h4 => ?_)
 refine Ok.bind (dn _ _ h4.2 sm sm) (fun x5 h5 => ?_)
 refine Ok.bind (dn _ _ h5.2 sm sm) (fun x6 h6 => ?_)
 refine Ok.bind (c8 _ _ h6.2 za za) (fun x7 h7 => ?_)
 exact Ok.ret ⟨⟨h1.1, h2.1⟩, h7.2.2⟩
theorem scale_ok (d : Src) (hd : bN d) : Ok (ia d) (fun r => bN r.2) := by
 unfold ia
 refine Ok.bind (table_ok _ hd) (fun x1 h1 => ?_)
 refine Ok.bind (c8 _ _ h1.2 za za) (fun x2 h2 => ?_)
 refine Ok.bind (c8 _ _ h2.2.2 za za) (fun x3 h3 => ?_)
 have hl := h1.1.len; have hs := h1.1.same
 refine Ok.bind (P := fun _ => True) (Ok.loop (fun s => 0 ≤ s.1 ∧ s.2.1.length = x1.1.ak.length ∧ s.2.2.length = x1.1.ak.length) (fun s => ((x1.1.ak.length : Int) - s.1).toNat) ?_ ⟨Int.le_refl _, rfl, hs⟩) (fun o _ => Ok.ret h3.2.2)
 rintro ⟨s4, s5, s6⟩ ⟨i0, i1, i2⟩
 simp only at i0 i1 i2
 unfold gF
 refine Ok.oV (fun hlt => ?_) (fun _ => Ok.st trivial)
 refine Ok.bind (Ok.qH za za) (fun _ _ => ?_)
 refine Ok.bind (Ok.get za za) (fun y1 g1 => ?_)
 refine Ok.bind (Ok.quo za) (fun y2 g2 => ?_)
 refine Ok.bind (Ok.qH za za) (fun _ _ => ?_)
 refine Ok.bind (Ok.get za za) (fun y3 g3 => ?_)
 refine Ok.bind (Ok.quo za) (fun y4 g4 => ?_)
 refine Ok.bind (Ok.qH za za) (fun _ _ => ?_)
 refine Ok.bind (Ok.set za za) (fun y5 g5 => ?_)
 refine Ok.bind (Ok.qH za za) (fun _ _ => ?_)
 refine Ok.bind (Ok.set za za) (fun y6 g6 => ?_)
 subst g5 g6
 rw [w64 za za]
 exact Ok.nx ⟨zb, by simpa using i1, by simpa using i2⟩ zb
theorem settings_ok (d : Src) (hd : bN d) : Ok (cK 3 d) (fun r => (f5 r.1.ag.ac ∧ TabOk r.1.ag.az) ∧ bN r.2) := by
 unfold cK
 refine Ok.bind (association_ok d hd) (fun x1 h1 => ?_)
 refine Ok.bind (scale_ok _ h1.2) (fun x2 h2 => ?_)
 refine Ok.bind (dn _ _ h2 sm sm) (fun x3 h3 => ?_)
 exact Ok.ret ⟨h1.1, h3.2⟩

def ChanOk (c : ap) : Prop := c.ba.length ≤ 3 ∧ ∀ e ∈ c.ba, d8 60 e.aS
def InvOk (v : aC) : Prop := v.aO.length ≤ 6 ∧ ∀ c ∈ v.aO, ChanOk c
theorem range_ok (a b : Int) (h0 : -1000 ≤ a) (h1 : a ≤ 1000) (h2 : 0 ≤ b - a) (h3 : b - a ≤ 1000) (d : Src) (hd : bN d) : Ok (kc a b d) (fun r => (a ≤ r.1 ∧ r.1 ≤ b) ∧ bN r.2) := by
 unfold kc
 rw [w64 (n := b - a) za za, w64 (n := b - a + 1) za za]
 refine Ok.bind (c8 _ _ hd za za) (fun y1 g1 => ?_)
 rw [w64 (n := a + y1.1) za za]
 exact Ok.ret ⟨⟨zb, zb⟩, g1.2.2⟩
theorem point_ok (b : ai) (hb : f5 b) (d : Src) (hd : bN d) : Ok (lx b d) (fun r => d8 60 r.1 ∧ bN r.2) := by
 obtain ⟨⟨p1, p2, p3⟩, q1, q2, q3⟩ := hb
 unfold lx
 refine Ok.bind (range_ok _ _ za za za za d hd) (fun y1 g1 => ?_)
 refine Ok.bind (range_ok _ _ za za za za _ g1.2) (fun y2 g2 => ?_)
 refine Ok.bind (range_ok _ _ za za za za _ g2.2) (fun y3 g3 => ?_)
 exact Ok.ret ⟨⟨zb, zb, zb⟩, g3.2⟩
theorem kplace_ok (v : aC) (hv : InvOk v) (x : Sid) (t : Int) : Ok (lT v x t) (fun r => d8 60 r.1) := by
 unfold lT
 have h0 : d8 60 ⟨0, 0, 0⟩ := ⟨sm, sm, sm⟩
 refine Ok.bind (P := fun o => match o with | .inl _ => True | .inr r => d8 60 r.1) (Ok.upto v.aO.length za (fun _ => True) trivial ?_) ?_
 ·intro i h1 h2 _
  unfold mL
  refine Ok.oV (fun hlt => ?_) (fun _ => Ok.st trivial)
  refine Ok.bind (Ok.get za za) (fun c hc => ?_)
  have hck := hv.2 c hc.1
  have hlen := hv.1
  refine Ok.bind (P := fun o => match o with | .inl y => y = i | .inr r => d8 60 r.1) (Ok.upto c.ba.length za (fun _ => True) trivial ?_) ?_
  ·intro j h3 h4 _
   unfold mK
   have hcl := hck.1
   refine Ok.oV (fun hlt => ?_) (fun _ => Ok.st rfl)
   refine Ok.bind (Ok.get za za) (fun e he => ?_)
   rw [w64 (n := j + 1) za za]
   refine Ok.wX (fun _ => ?_) (fun _ => Ok.nx ⟨⟨za, za⟩, trivial⟩ za)
   refine Ok.oV (fun _ => ?_) (fun _ => Ok.nx ⟨⟨za, za⟩, trivial⟩ za)
   refine Ok.oV (fun _ => ?_) (fun _ => Ok.nx ⟨⟨za, za⟩, trivial⟩ za)
   exact Ok.st (hck.2 e he.1)
  ·rintro (y | r) ho
   ·simp only at ho ⊢
    subst ho
    rw [w64 (n := y + 1) za za]
    exact Ok.nx ⟨⟨za, za⟩, trivial⟩ za
   ·exact Ok.st ho
 ·rintro (y | r) ho
  ·exact Ok.ret h0
  ·exact Ok.ret ho
def iO (p : Pick) : Prop := IsSid p.aH ∧ 0 ≤ p.bw ∧ p.bw ≤ p.a8 ∧ p.a8 ≤ p.bO ∧ p.bO ≤ 60000 ∧ 0 ≤ p.bp ∧ p.bp ≤ 1073741823 ∧ -1 ≤ p.bI ∧ p.bI ≤ 1
def PI (n : Nat) (s : Int × Int × List Int × Int × List Pick × Int × Int × Int) : Prop :=
 (0 ≤ s.2.1 ∧ s.2.1 + s.2.2.2.2.1.length ≤ n) ∧ (0 ≤ s.1 ∧ s.1 ≤ 2000 + 1000 * s.2.2.2.2.1.length) ∧ bN ⟨s.2.2.1, s.2.2.2.1⟩ ∧ d8 60 ⟨s.2.2.2.2.2.1, s.2.2.2.2.2.2.1, s.2.2.2.2.2.2.2⟩ ∧ ∀ p ∈ s.2.2.2.2.1, iO p
theorem k34_ok {n : Nat} (hn : n ≤ 20) {Q : List Pick × List Int × Int → Prop} {s : Int × Int × List Int × Int × List Pick × Int × Int × Int} {sid : Sid} (hs : IsSid sid) (am : Int × Src) (ha : 0 ≤ am.1 ∧ am.1 ≤ 1048576) (po : Int × Src) (hp : 0 ≤ po.1 ∧ po.1 < 3) (t k : Int) (l : List Int) (at_ : Int) (out : List Pick) (x y z e : Int)
  (hk : 1 ≤ k ∧ k + out.length ≤ n) (hks : k = s.2.1) (ht : 0 ≤ t ∧ t ≤ 2000 + 1000 * (out.length + 1)) (hd : bN ⟨l, at_⟩) (hpos : d8 60 ⟨x, y, z⟩) (hout : ∀ p ∈ out, iO p) (he : 0 ≤ e ∧ e ≤ 30000) :
  Ok (eP sid am po t k l at_ out x y z e) (Ok.S (PI n) (fun s => s.2.1.toNat) Q s) := by
 unfold eP
 refine Ok.bind (c8 _ _ hd za za) (fun y1 g1 => ?_)
 refine Ok.bind (c8 _ _ g1.2.2 za za) (fun y2 g2 => ?_)
 refine Ok.bind (Ok.app (by simp only [List.length_cons, List.length_nil]; omega)) (fun y3 g3 => ?_)
 subst g3
 rw [w64 (n := e + y1.1) za za, w64 (n := e + y1.1 + y2.1) za za, w64 (n := po.1 - 1) za za, w64 (n := k - 1) za za]
 refine Ok.nx ⟨⟨zb, by simp only [List.length_append, List.length_cons, List.length_nil]; omega⟩, ⟨ht.1, by simp only [List.length_append, List.length_cons, List.length_nil]; omega⟩, g2.2.2, hpos, fun p hpm => ?_⟩ zb
 simp only [List.mem_append, List.mem_singleton] at hpm
 rcases hpm with hpm | rfl
 ·exact hout p hpm
 ·exact ⟨hs, zb, zb, zb, zb, zb, zb, zb, zb⟩
theorem l55_ok (pl : aa × Bool) (hpl : d8 60 pl.1) (x y z t k : Int) (out : List Pick) (hx : d8 60 ⟨x, y, z⟩) : Ok (e8 (lk pl x y z t k out) (0 : Int)) (fun o => o.1 = t ∧ o.2.1 = k ∧ (0 ≤ o.2.2.1 ∧ o.2.2.1 ≤ 300) ∧ o.2.2.2.1 = out ∧ o.2.2.2.2.1 = x ∧ o.2.2.2.2.2.1 = y ∧ o.2.2.2.2.2.2 = z) := by
 obtain ⟨a1, a2, a3⟩ := hpl
 obtain ⟨b1, b2, b3⟩ := hx
 simp only at b1 b2 b3
 have hsq : ∀ (u v : Int), -60 ≤ u → u ≤ 60 → -60 ≤ v → v ≤ 60 → ∃ q, ng (IntKind.wrap .i64 (u - v)) = some q ∧ 0 ≤ q ∧ q ≤ 14400 := by
  intro u v h1 h2 h3 h4
  have h5 : -120 ≤ u - v ∧ u - v ≤ 120 := by omega
  rw [w64 za za]
  have h6 : 0 ≤ (u - v) * (u - v) ∧ (u - v) * (u - v) ≤ 14400 := by
   constructor
   ·rcases Int.le_total 0 (u - v) with h | h
    ·exact Int.mul_nonneg h h
    ·exact Int.mul_nonneg_of_nonpos_of_nonpos h h
   ·rcases Int.le_total 0 (u - v) with h | h
    ·calc (u - v) * (u - v) ≤ 120 * 120 := Int.mul_le_mul h5.2 h5.2 h za
      _ = 14400 := by decide
    ·have : (u - v) * (u - v) = (v - u) * (v - u) := by
      rw [← Int.neg_mul_neg]; congr 1 <;> omega
     rw [this]
     calc (v - u) * (v - u) ≤ 120 * 120 := Int.mul_le_mul za za za za
      _ = 14400 := by decide
  refine ⟨_, by unfold ng; rw [w64 za za], h6.1, h6.2⟩
 obtain ⟨q1, e1, l1, u1⟩ := hsq pl.1.fX x a1.1 a1.2 b1.1 b1.2
 obtain ⟨q2, e2, l2, u2⟩ := hsq pl.1.fY y a2.1 a2.2 b2.1 b2.2
 obtain ⟨q3, e3, l3, u3⟩ := hsq pl.1.fZ z a3.1 a3.2 b3.1 b3.2
 refine Ok.loop (fun s => 0 ≤ s ∧ s ≤ 300) (fun s => (300 - s).toNat) (fun s hs => ?_) ⟨Int.le_refl _, za⟩
 unfold lk
 rw [e1, e2, e3]
 simp only [zc]
 rw [w64 (n := q1 + q2) za za, w64 (n := q1 + q2 + q3) za za]
 have hss : 0 ≤ s * s ∧ s * s ≤ 90000 := ⟨Int.mul_nonneg hs.1 hs.1, by
  calc s * s ≤ 300 * 300 := Int.mul_le_mul hs.2 hs.2 hs.1 za
   _ = 90000 := by decide⟩
 rw [w64 (n := s * s) za za]
 refine Ok.oV (fun hlt => ?_) (fun _ => Ok.st ⟨rfl, rfl, hs, rfl, rfl, rfl, rfl⟩)
 have h299 : s ≤ 299 := by
  rcases Int.lt_or_le 299 s with h | h
  ·exfalso
   have : s = 300 := by omega
   subst this
   omega
  ·exact h
 rw [w64 (n := s + 1) za za]
 exact Ok.nx ⟨za, za⟩ za
theorem picks_ok (a : aG) (ha : f5 a.ag.ac ∧ TabOk a.ag.az) (v : aC) (hv : InvOk v) (n : Nat) (hn : n ≤ 20) (d : Src) (hd : bN d) :
  Ok (lw a v n d) (fun r => (r.1.length ≤ n ∧ ∀ p ∈ r.1, iO p) ∧ bN r.2) := by
 unfold lw
 refine Ok.bind (point_ok _ ha.1 d hd) (fun x1 h1 => ?_)
 refine Ok.bind (c8 _ _ h1.2 za za) (fun x2 h2 => ?_)
 rw [w64 (n := (n : Int) + 1) za za]
 refine Ok.bind (c8 _ _ h2.2.2 za za) (fun x3 h3 => ?_)
 rw [w64 (n := 1000 + x2.1) za za]
 refine Ok.bind (P := fun o => (o.1.length ≤ n ∧ ∀ p ∈ o.1, iO p) ∧ bN ⟨o.2.1, o.2.2⟩) (Ok.loop (PI n) (fun s => s.2.1.toNat) ?_ ⟨⟨zb, by simp only [List.length_nil]; omega⟩, ⟨zb, by simp only [List.length_nil]; omega⟩, h3.2.2, h1.1, sm⟩) (fun o ho => Ok.ret ⟨ho.1, ho.2⟩)
 rintro ⟨s4, s5, s6, s7, s8, s9, s10, s11⟩ ⟨i0, i1, i2, i3, i4⟩
 simp only at i0 i1 i2 i3 i4
 unfold nH
 refine Ok.oV (fun hgt => ?_) (fun _ => Ok.st ⟨⟨zb, i4⟩, i2⟩)
 refine Ok.bind (c8 _ _ i2 za za) (fun y1 g1 => ?_)
 refine Ok.bind (source_ok _) (fun y2 g2 => ?_)
 refine Ok.bind (dn _ _ g1.2.2 sm sm) (fun y3 g3 => ?_)
 have hy3 : 0 ≤ y3.1 ∧ y3.1 ≤ 1048576 := by have := g3.1; simp at this; omega
 refine Ok.bind (c8 _ _ g3.2 za za) (fun y4 g4 => ?_)
 refine Ok.bind (c8 _ _ g4.2.2 za za) (fun y5 g5 => ?_)
 refine Ok.bind (c8 _ _ g5.2.2 za za) (fun y6 g6 => ?_)
 rw [w64 (n := 1000 + y5.1) za za]
 refine Ok.sl (fun _ => ?_) (fun _ => Ok.sl (fun _ => ?_) (fun _ => ?_))
 ·refine Ok.bind (point_ok _ ha.1 _ g6.2.2) (fun y7 g7 => ?_)
  refine Ok.bind (c8 _ _ g7.2 za za) (fun y8 g8 => ?_)
  rw [w64 (n := s4 + y8.1) za za]
  exact k34_ok za g2 y3 hy3 y4 ⟨g4.1, g4.2.1⟩ _ _ _ _ _ _ _ _ _ za rfl za g8.2.2 g7.1 i4 za
 ·exact k34_ok za g2 y3 hy3 y4 ⟨g4.1, g4.2.1⟩ _ _ _ _ _ _ _ _ _ za rfl za g6.2.2 i3 i4 za
 ·refine Ok.bind (kplace_ok v hv _ _) (fun y7 g7 => ?_)
  refine Ok.wX (fun _ => ?_) (fun _ => ?_)
  ·refine Ok.bind (l55_ok y7 g7 _ _ _ _ _ _ i3) (fun o ho => ?_)
   obtain ⟨o1, o2, o3, o4, o5, o6, o7⟩ := ho
   have htab := ha.2
   have hl := htab.len
   have hst := htab.step
   refine Ok.bind (Ok.quo za) (fun y8 g8 => ?_)
   have hq : 0 ≤ o.2.2.1.tdiv a.ag.az.aU ∧ o.2.2.1.tdiv a.ag.az.aU ≤ 300 := by
    refine ⟨Int.tdiv_nonneg o3.1 za, ?_⟩
    have := Int.tdiv_le_self (b := a.ag.az.aU) o3.1
    omega
   rw [w64 za za] at g8
   subst g8
   rw [w64 (n := (a.ag.az.ak.length : Int) - 1) za za]
   refine Ok.bind (Ok.get (by split <;> omega) (by split <;> omega)) (fun y9 g9 => ?_)
   have hb := htab.low y9 g9.1
   refine Ok.bind (c8 _ _ g6.2.2 za za) (fun y10 g10 => ?_)
   rw [o1, o2, o4, o5, o6, o7, w64 (n := s4 + y9) za za, w64 (n := s4 + y9 + y10.1) za za]
   exact k34_ok za g2 y3 hy3 y4 ⟨g4.1, g4.2.1⟩ _ _ _ _ _ _ _ _ _ za rfl za g10.2.2 i3 i4 za
  ·exact k34_ok za g2 y3 hy3 y4 ⟨g4.1, g4.2.1⟩ _ _ _ _ _ _ _ _ _ za rfl za g6.2.2 i3 i4 za
end Go.Dw.So


set_option maxRecDepth 100000
set_option maxHeartbeats 4000000
namespace Go.Dw.So
open Go.Dw
theorem ol {α : Type} {l m : List α} {b : Nat} (h : (l.length + m.length) * b ≤ 140737488355328) : pS l m b = some (l ++ m) := by
 unfold pS
 rw [if_pos h]
namespace Sd
abbrev Src := aJ
theorem eq_src (a b : Src) : ((a.aV == b.aV) && ((a.aL == b.aL) && ((a.ar == b.ar) && ((a.aX == b.aX) && true)))) = decide (a = b) := by
 obtain ⟨n, t, l, c⟩ := a
 obtain ⟨n', t', l', c'⟩ := b
 simp only [aJ.mk.injEq]
 by_cases e1 : n = n' <;> by_cases e2 : t = t' <;> by_cases e3 : l = l' <;> by_cases e4 : c = c' <;> simp [e1, e2, e3, e4]
theorem cmp_str (a b : List UInt8) : bR a b = some (tB a b) := by
 unfold bR db
 simp only [beq_self_eq_true, Bool.not_true, zc, Bool.false_eq_true, if_false]
 unfold tB
 cases h : Op.bytesLess a b with
 | true => simp
 | false => by_cases e : a = b <;> simp [e]
theorem oE {l : List Int} {i j : Nat} (hj : j = i + 1) (hi : i < l.length) (hl : l.length < 1000) (h0 : l[i] = 0) : ct l i = some (.next (j : Int)) := by
 subst hj
 unfold ct
 rw [if_pos so, pM rfl hi]
 simp only [zc, h0, w64 (n := (i : Int) + 1) za za]
 rfl
theorem oF {l : List Int} {i : Nat} (hi : i < l.length) (h0 : l[i] ≠ 0) : ct l i = some (.stop (.inr l[i])) := by
 unfold ct
 rw [if_pos so, pM rfl hi]
 simp only [zc]
 rw [if_pos (by simpa using h0)]
theorem or_end {l : List Int} {n : Nat} (hn : n = l.length) : ct l n = some (.stop (.inl ())) := by
 subst hn
 unfold ct
 rw [if_neg sm]
theorem or4 (a b c d : Int) : cL [a, b, c, d] = some (if a ≠ 0 then a else if b ≠ 0 then b else if c ≠ 0 then c else d) := by
 show ((e8 (ct [a, b, c, d]) ((0 : Nat) : Int)).bind _) = _
 by_cases ha : a = 0
 ·rw [qj (oE (i := 0) (j := 1) rfl sm sm (by simpa using ha)), if_neg (by simpa using ha)]
  by_cases hb : b = 0
  ·rw [qj (oE (i := 1) (j := 2) rfl sm sm (by simpa using hb)), if_neg (by simpa using hb)]
   by_cases hc : c = 0
   ·rw [qj (oE (i := 2) (j := 3) rfl sm sm (by simpa using hc)), if_neg (by simpa using hc)]
    by_cases hd : d = 0
    ·rw [qj (oE (i := 3) (j := 4) rfl sm sm (by simpa using hd)), pK (or_end (n := 4) rfl)]
     rw [hd]; rfl
    ·rw [pK (oF (i := 3) sm (by simpa using hd))]; rfl
   ·rw [pK (oF (i := 2) sm (by simpa using hc)), if_pos hc]; rfl
  ·rw [pK (oF (i := 1) sm (by simpa using hb)), if_pos hb]; rfl
 ·rw [pK (oF (i := 0) sm (by simpa using ha)), if_pos (by simpa using ha)]; rfl

def my (a b : Src) : Int := if tB a.aV b.aV ≠ 0 then tB a.aV b.aV else if tB a.aL b.aL ≠ 0 then tB a.aL b.aL else if tB a.ar b.ar ≠ 0 then tB a.ar b.ar else tB a.aX b.aX
theorem kk (a b : Src) : dG a b = some (my a b) := by
 unfold dG
 simp only [cmp_str, zc, or4]
 rfl
theorem ko : Tot my := (vI.map fun x : Src => x.aV).or ((vI.map fun x : Src => x.aL).or ((vI.map fun x : Src => x.ar).or (vI.map fun x : Src => x.aX)))
theorem iR {a b : Src} (h : my a b = 0) : a = b := by
 unfold my at h
 obtain ⟨n, t, l, c⟩ := a
 obtain ⟨n', t', l', c'⟩ := b
 simp only at h
 by_cases h1 : tB n n' = 0
 ·rw [if_neg (by simpa using h1)] at h
  by_cases h2 : tB t t' = 0
  ·rw [if_neg (by simpa using h2)] at h
   by_cases h3 : tB l l' = 0
   ·rw [if_neg (by simpa using h3)] at h
    rw [we] at h h1 h2 h3
    subst h h1 h2 h3; rfl
   ·rw [if_pos h3] at h; exact (h3 h).elim
  ·rw [if_pos h2] at h; exact (h2 h).elim
 ·rw [if_pos h1] at h; exact (h1 h).elim
instance : DecidableEq Src := fun a b => decidable_of_iff (a.aV = b.aV ∧ a.aL = b.aL ∧ a.ar = b.ar ∧ a.aX = b.aX) (by
 obtain ⟨n, t, l, c⟩ := a
 obtain ⟨n', t', l', c'⟩ := b
 simp)
theorem eqs (a b : Src) : ((a.aV == b.aV) && ((a.aL == b.aL) && ((a.ar == b.ar) && ((a.aX == b.aX) && true)))) = decide (a = b) := by
 rw [eq_src]
 exact decide_eq_decide.2 Iff.rfl

theorem m8 (a b : Int) : bF a b = some (tl a b) := by
 unfold bF dX tl
 simp only [bne_self_eq_false, zc, Bool.false_eq_true, if_false]
 by_cases h1 : a < b
 ·rw [if_pos (decide_eq_true h1), if_pos h1]
 ·rw [if_neg (by simpa using h1), if_neg h1]
  by_cases h2 : a > b
  ·rw [if_pos (decide_eq_true h2), if_pos h2]
  ·rw [if_neg (by simpa using h2), if_neg h2]
theorem or_go {l : List Int} {n : Nat} {r : List Int} (hl : l.length < 1000) (hn : n ≤ l.length) (hr : l.drop n = r) : e8 (ct l) (n : Int) = some (match r.find? (fun x => decide (x ≠ 0)) with | some x => .inr x | none => .inl ()) := by
 induction r generalizing n with
 | nil =>
  have : n = l.length := by
   have := congrArg List.length hr
   simp at this; omega
  rw [pK (or_end this)]; rfl
 | cons a r ih =>
  have hlt : n < l.length := by
   have := congrArg List.length hr
   simp at this; omega
  have ha : l[n] = a := by
   rw [List.drop_eq_getElem_cons hlt] at hr
   exact (List.cons.inj hr).1
  have hr' : l.drop (n + 1) = r := by
   rw [List.drop_eq_getElem_cons hlt] at hr
   exact (List.cons.inj hr).2
  by_cases h0 : a = 0
  ·rw [qj (oE (i := n) (j := n + 1) rfl hlt hl (by rw [ha, h0])), ih za hr']
   simp [List.find?, h0]
  ·rw [pK (oF hlt (by rw [ha]; exact h0)), ha]
   simp [List.find?, h0]
theorem or6 (a b c d e f : Int) : cL [a, b, c, d, e, f] = some (if a ≠ 0 then a else if b ≠ 0 then b else if c ≠ 0 then c else if d ≠ 0 then d else if e ≠ 0 then e else f) := by
 unfold cL
 have := or_go (l := [a, b, c, d, e, f]) (n := 0) (r := [a, b, c, d, e, f]) sm sm rfl
 rw [show ((0 : Int)) = ((0 : Nat) : Int) from rfl, this]
 by_cases ha : a = 0 <;> by_cases hb : b = 0 <;> by_cases hc : c = 0 <;> by_cases hd : d = 0 <;> by_cases he : e = 0 <;> by_cases hf : f = 0 <;> simp [List.find?, ha, hb, hc, hd, he, hf]
end Sd
open Sd (my ko iR)
def cmpP (a b : Pick) : Int := if my a.aH b.aH ≠ 0 then my a.aH b.aH else if tl a.a8 b.a8 ≠ 0 then tl a.a8 b.a8 else if tl a.bw b.bw ≠ 0 then tl a.bw b.bw else if tl a.bO b.bO ≠ 0 then tl a.bO b.bO else if tl a.bp b.bp ≠ 0 then tl a.bp b.bp else tl a.bI b.bI
theorem kk (a b : Pick) : bX a b = some (cmpP a b) := by
 unfold bX
 simp only [Sd.kk, Sd.m8, zc, Sd.or6]
 rfl
theorem f8 : Tot cmpP := (ko.map fun x : Pick => x.aH).or ((um.map fun x : Pick => x.a8).or ((um.map fun x : Pick => x.bw).or ((um.map fun x : Pick => x.bO).or ((um.map fun x : Pick => x.bp).or (um.map fun x : Pick => x.bI)))))
theorem mG {a b : Int} (h : (if a ≠ 0 then a else b) = 0) : a = 0 ∧ b = 0 := by
 by_cases h1 : a = 0
 ·rw [if_neg (by simpa using h1)] at h; exact ⟨h1, h⟩
 ·rw [if_pos h1] at h; exact (h1 h).elim
theorem cmpP_zero {a b : Pick} (h : cmpP a b = 0) : a = b := by
 unfold cmpP at h
 obtain ⟨h1, h⟩ := mG h
 obtain ⟨h2, h⟩ := mG h
 obtain ⟨h3, h⟩ := mG h
 obtain ⟨h4, h⟩ := mG h
 obtain ⟨h5, h6⟩ := mG h
 rw [A1] at h2 h3 h4 h5 h6
 have := iR h1
 obtain ⟨a1, a2, a3, a4, a5, a6⟩ := a
 obtain ⟨b1, b2, b3, b4, b5, b6⟩ := b
 simp only at *
 subst this h2 h3 h4 h5 h6
 rfl
theorem lt3_eq : lt3 bX = fun x y => decide (cmpP x y < 0) := by
 funext x y
 unfold lt3
 rw [kk]; rfl
theorem Compare_ok : CmpOk bX := ⟨fun x y => ⟨_, kk x y⟩, by rw [lt3_eq]; exact f8.swo⟩
instance : DecidableEq Pick := fun a b => decidable_of_iff (a.aH = b.aH ∧ a.a8 = b.a8 ∧ a.bw = b.bw ∧ a.bO = b.bO ∧ a.bp = b.bp ∧ a.bI = b.bI) (by
 obtain ⟨a1, a2, a3, a4, a5, a6⟩ := a
 obtain ⟨b1, b2, b3, b4, b5, b6⟩ := b
 simp)
def eqF (a b : Pick) : Bool := ((a.aH.aV == b.aH.aV) && ((a.aH.aL == b.aH.aL) && ((a.aH.ar == b.aH.ar) && ((a.aH.aX == b.aH.aX) && true)))) && ((a.a8 == b.a8) && ((a.bw == b.bw) && ((a.bO == b.bO) && ((a.bp == b.bp) && ((a.bI == b.bI) && true)))))
theorem eqs (a b : Pick) : eqF a b = decide (a = b) := by
 obtain ⟨a1, a2, a3, a4, a5, a6⟩ := a
 obtain ⟨b1, b2, b3, b4, b5, b6⟩ := b
 unfold eqF
 simp only [Sd.eqs, aq.mk.injEq]
 by_cases e1 : a1 = b1 <;> by_cases e2 : a2 = b2 <;> by_cases e3 : a3 = b3 <;> by_cases e4 : a4 = b4 <;> by_cases e5 : a5 = b5 <;> by_cases e6 : a6 = b6 <;> simp [e1, e2, e3, e4, e5, e6]
theorem Compact_eq (l : List Pick) : dP l = vJ eqF ⟨⟨[], [], [], []⟩, 0, 0, 0, 0, 0⟩ l := by
 have h1 : fe = rU eqF := by funext s d ⟨a, b, c⟩; rfl
 have h2 : ff = rm eqF ⟨⟨[], [], [], []⟩, 0, 0, 0, 0, 0⟩ := by
  funext d s
  unfold ff rm
  rw [h1]
  rfl
 unfold dP vJ
 rw [h2]
 refine ite_congr rfl (fun _ => rfl) fun _ => ?_
 refine congrArg _ (funext fun o => ?_)
 rcases o with _ | _ <;> rfl
theorem sort_at {l : List Pick} (hl : l.length ≤ 1000) : ∃ m, uT bX l = some m ∧ m.Perm l ∧ m.Pairwise (fun x y => cmpP x y ≤ 0) := by
 have h2 := w3 Compare_ok (fun x y h h' => by
  rw [lt3_eq] at h h'
  simp only [decide_eq_false_iff_not] at h h'
  have := f8.sW x y
  exact cmpP_zero za) l za
 generalize hm : (l.mergeSort fun x y => !lt3 bX y x) = m at h2
 refine ⟨m, h2, AB h2, ?_⟩
 rw [← hm]
 refine (List.pairwise_mergeSort ?_ ?_ l).imp ?_
 ·intro a b c h h'
  rw [lt3_eq] at *
  simp only [Bool.not_eq_true', decide_eq_false_iff_not] at *
  have := f8.tr a b c (by have := f8.sW a b; omega) (by have := f8.sW b c; omega)
  have := f8.sW a c; omega
 ·intro a b
  rw [lt3_eq]
  have := f8.sW a b
  by_cases h : cmpP b a < 0
  ·have : ¬ cmpP a b < 0 := by omega
   simp [this]
  ·simp [h]
 ·intro a b h
  rw [lt3_eq] at h
  simp only [Bool.not_eq_true', decide_eq_false_iff_not] at h
  have := f8.sW a b; omega
theorem oc {l : List Pick} (hl : l.length ≤ 1000) :
  ∃ r, eJ l = some r ∧ r.Pairwise (fun x y => cmpP x y < 0) ∧ (∀ x, x ∈ r ↔ x ∈ l) ∧ r.length ≤ l.length := by
 have h1 : p9 104 l = some l := by
  unfold p9
  rw [if_pos za]
 obtain ⟨m, h2, hp, hs⟩ := sort_at hl
 have hml : m.length = l.length := hp.length_eq
 have h3 : dP m = some (cpt m) := by
  rw [Compact_eq]
  exact Ad (fun x y => eqs x y) za
 refine ⟨cpt m, ?_, tC f8 (fun x y => cmpP_zero) hs, fun x => w6.trans hp.mem_iff, by have := xu m; omega⟩
 unfold eJ
 rw [h1, zc, h2, zc, h3]; rfl
theorem lv : ∀ {r s : List Pick}, r.Pairwise (fun x y => cmpP x y < 0) → s.Pairwise (fun x y => cmpP x y < 0) → (∀ x, x ∈ r ↔ x ∈ s) → r = s
 | [], [], _, _, _ => rfl
 | [], b :: s, _, _, h => by have := (h b).2 sm; cases this
 | a :: r, [], _, _, h => by have := (h a).1 sm; cases this
 | a :: r, b :: s, h1, h2, h => by
  obtain ⟨ha, hr⟩ := List.pairwise_cons.1 h1
  obtain ⟨hb, hs⟩ := List.pairwise_cons.1 h2
  have hab : a = b := by
   rcases List.mem_cons.1 ((h a).1 sm) with e | hm
   ·exact e
   ·rcases List.mem_cons.1 ((h b).2 sm) with e | hm'
    ·exact e.symm
    ·have h3 := hb a hm
     have h4 := ha b hm'
     have := f8.sW a b
     omega
  subst hab
  have hn : ∀ {t : List Pick}, (∀ y ∈ t, cmpP a y < 0) → a ∉ t := fun h ht => by have := h a ht; have := f8.refl a; omega
  have : r = s := lv hr hs fun x => by
   have := h x
   simp only [List.mem_cons] at this
   constructor
   ·intro hx
    rcases this.1 (.inr hx) with e | h5
    ·subst e; exact (hn ha hx).elim
    ·exact h5
   ·intro hx
    rcases this.2 (.inr hx) with e | h5
    ·subst e; exact (hn hb hx).elim
    ·exact h5
  rw [this]

end Go.Dw.So


set_option maxRecDepth 100000
set_option maxHeartbeats 4000000
namespace Go.Dw.So
open Go.Dw Go.Proofs
open Sd (my ko iR)

theorem sid_len {x : Sid} (h : Sq.m5 x = true) : Sq.SidLen x := by
 obtain ⟨h1, h2, h3, h4⟩ := Sq.valid_len h
 exact ⟨za, za, za, za⟩
theorem valid_pick {p : Pick} (h : iO p) : d6 p = some true := by
 obtain ⟨h0, h1, h2, h3, h4, h5, h6, h7, h8⟩ := h
 unfold d6
 rw [Sq.Valid_eq (sid_len h0), h0, zc, if_pos rfl, if_pos (by simpa using h1), if_pos (by simpa using h2), if_pos (by simpa using h3), if_pos so]
 have e1 : gy p.bp 0 1073741823 = some true := by unfold gy; rw [if_pos (by simpa using h5)]; simpa using h6
 have e2 : gy p.bI (-1) 1 = some true := by unfold gy; rw [if_pos (by simpa using h7)]; simpa using h8
 rw [e1, zc, if_pos rfl, e2]; rfl
theorem same_refl {l : List Pick} (hl : l.length ≤ 1000) : gT l l = some true := by
 unfold gT
 rw [if_neg sm]
 have : Ok (e8 (hM l l) (0 : Int)) (fun o => o = .inl ()) := by
  refine Ok.upto l.length za (fun _ => True) trivial (fun i h0 h1 _ => ?_)
  unfold hM
  refine Ok.oV (fun hlt => ?_) (fun _ => Ok.st rfl)
  obtain ⟨p, hp, -⟩ := Ok.get (l := l) h0 za
  rw [hp, zc, zc, if_neg sm, w64 za za]
  exact Ok.nx ⟨⟨za, za⟩, trivial⟩ za
 rw [this.eq]; rfl
def P (t : Int) : Pick := ⟨⟨[65, 66], [83, 49], [48, 48], [66, 72, 90]⟩, t, t, t, 0, 0⟩
def S1 : Sid := ⟨[65, 66], [83, 49], [48, 48], [66, 72, 90]⟩
theorem loop_first {α ω : Type} {body : Int → Option (oP Int (Unit ⊕ ω))} (l : List α) {p : α → Bool} {f : Nat → α → ω}
  (h1 : ∀ (i : Nat) (hi : i < l.length), body i = if p l[i] = true then some (.stop (.inr (f i l[i]))) else some (.next ((i + 1 : Nat) : Int)))
  (h2 : body (l.length : Nat) = some (.stop (.inl ()))) :
  (e8 body (0 : Int) = some (.inl ()) ∧ ∀ x ∈ l, p x = false) ∨
  ∃ (i : Nat) (hi : i < l.length), e8 body (0 : Int) = some (.inr (f i l[i])) ∧ p l[i] = true ∧ ∀ x ∈ l.take i, p x = false := by
 have : ∀ k i, i + k = l.length → (∀ x ∈ l.take i, p x = false) → (e8 body (i : Int) = some (.inl ()) ∧ ∀ x ∈ l, p x = false) ∨
   ∃ (j : Nat) (hj : j < l.length), e8 body (i : Int) = some (.inr (f j l[j])) ∧ p l[j] = true ∧ ∀ x ∈ l.take j, p x = false := by
  intro k
  induction k with
  | zero =>
   intro i hi ha
   obtain rfl : i = l.length := by omega
   exact .inl ⟨pK h2, by simpa using ha⟩
  | succ k ih =>
   intro i hi ha
   have hlt : i < l.length := by omega
   cases hp : p l[i] with
   | true => exact .inr ⟨i, hlt, pK (by rw [h1 i hlt, if_pos hp]), hp, ha⟩
   | false =>
    have e := qj (ω := Unit ⊕ ω) (body := body) (s := (i : Int)) (s' := ((i + 1 : Nat) : Int)) (by rw [h1 i hlt, if_neg (by simp [hp])])
    rw [e]
    refine ih (i + 1) za fun x hx => ?_
    rw [p8 hlt] at hx
    rcases List.mem_append.1 hx with hx | hx
    ·exact ha x hx
    ·rw [List.mem_singleton] at hx; rw [hx]; exact hp
 have := this l.length 0 za sm
 simpa using this
theorem loop_find {α ω : Type} {body : Int → Option (oP Int (Unit ⊕ ω))} (l : List α) {p : α → Bool} {f : α → ω}
  (h1 : ∀ (i : Nat) (hi : i < l.length), body i = if p l[i] = true then some (.stop (.inr (f l[i]))) else some (.next ((i + 1 : Nat) : Int)))
  (h2 : body (l.length : Nat) = some (.stop (.inl ()))) : e8 body (0 : Int) = some (match l.find? p with | none => .inl () | some x => .inr (f x)) := by
 rcases loop_first l (f := fun _ x => f x) h1 h2 with ⟨e, h⟩ | ⟨i, hi, e, hp, h⟩
 ·rw [e, List.find?_eq_none.2 fun x hx => by simp [h x hx]]
 ·rw [e]
  have : l.find? p = some l[i] := by
   refine List.find?_eq_some_iff_append.2 ⟨hp, l.take i, l.drop (i + 1), ?_, fun x hx => by simp [h x hx]⟩
   rw [← List.drop_eq_getElem_cons hi, List.take_append_drop]
  rw [this]
theorem lD {ω : Type} {body : Int → Option (oP Int (Unit ⊕ ω))} (n : Nat) (h1 : ∀ i : Nat, i < n → body i = some (.next ((i + 1 : Nat) : Int))) (h2 : body (n : Nat) = some (.stop (.inl ()))) : e8 body (0 : Int) = some (.inl ()) := by
 have : ∀ k i : Nat, i + k = n → e8 body (i : Int) = some (.inl ()) := by
  intro k
  induction k with
  | zero =>
   intro i hi
   obtain rfl : i = n := by omega
   exact pK h2
  | succ k ih => intro i hi; rw [qj (h1 i za)]; exact ih (i + 1) za
 simpa using this n 0 za

theorem terms_ok {l : List Int} (hl : l.length ≤ 1000) (h : ∀ x ∈ l, -1048576 ≤ x ∧ x ≤ 1048576) : bS l = some true := by
 unfold bS bY cn
 rw [lD l.length (fun i hi => ?_) ?_]
 ·rfl
 ·unfold bZ
  rw [if_neg sm]
 ·unfold bZ
  have hx := h l[i] (List.getElem_mem hi)
  rw [if_pos so, pM rfl hi, zc]
  unfold dO bK
  rw [if_pos (by simpa using hx.1), zc, zc, if_neg (by simpa using hx.2), w64 za za]
  simp
def jX (x : aB) : Prop := ca x = some true ∧ (x.ep = 2 → x.co = 1) ∧ x.cN.length ≤ 3 ∧ 0 ≤ x.cM ∧ (-1048576 ≤ x.bj.a0 ∧ x.bj.a0 ≤ 1048576) ∧ (-1048576 ≤ x.bh.a0 ∧ x.bh.a0 ≤ 1048576)
theorem gain_ok {a b : Int} (ha : 1 ≤ a ∧ a ≤ 1048576) (hb : 1 ≤ b ∧ b ≤ 1048576) : jX ⟨0, ⟨a, 0, 0⟩, ⟨b, 0, 0⟩, [], 0, 0⟩ := by
 refine ⟨?_, sm, sm, sm, zb, zb⟩
 unfold ca bK
 simp [ha.1, ha.2, hb.1, hb.2]
theorem section_ok {a b c d e f : Int} (ha : -10 ≤ a ∧ a ≤ 10) (hb : -10 ≤ b ∧ b ≤ 10) (hc : -10 ≤ c ∧ c ≤ 10) (hd : 1 ≤ d ∧ d ≤ 10) (he : -10 ≤ e ∧ e ≤ 10) (hf : -10 ≤ f ∧ f ≤ 10) : jX ⟨1, ⟨a, b, c⟩, ⟨d, e, f⟩, [], 0, 0⟩ := by
 refine ⟨?_, sm, sm, sm, zb, zb⟩
 have h1 : bS [a, b, c] = some true := terms_ok sm so
 have h2 : bS [d, e, f] = some true := terms_ok sm so
 have h3 : d ≠ 0 := by omega
 unfold ca
 simp [h1, h2, h3]
theorem filter_ok {a s : Int} (ha : 1 ≤ a ∧ a ≤ 3) (hs : 0 ≤ s ∧ s ≤ 3) : jX ⟨2, ⟨0, 0, 0⟩, ⟨0, 0, 0⟩, [a, 2, 1], 1, s⟩ := by
 have h1 : a = 1 ∨ a = 2 ∨ a = 3 := by omega
 have h2 : s = 0 ∨ s = 1 ∨ s = 2 ∨ s = 3 := by omega
 refine ⟨?_, sm, sm, hs.1, sm, sm⟩
 have ht : bS [a, 2, 1] = some true := terms_ok sm so
 have hsum : cQ [a, 2, 1] = some (a + 3) := by
  unfold cQ
  rcases h1 with rfl | rfl | rfl
  ·rw [qO (n := 4) (o := 4) (by kernel_rfl)]; rfl
  ·rw [qO (n := 4) (o := 5) (by kernel_rfl)]; rfl
  ·rw [qO (n := 4) (o := 6) (by kernel_rfl)]; rfl
 have h3 : a + 3 ≠ 0 := by omega
 have h4 : 0 ≤ s ∧ s ≤ 3 := by omega
 unfold ca bK
 rw [ht, hsum]
 simp [h3, h4.1]
 omega
def lj (r : aM) : Prop := r.bo.length ≤ 3 ∧ ∀ x ∈ r.bo, jX x
theorem responseV (d : Src) (hd : bN d) : Ok (dj d) (fun r => lj r.1 ∧ bN r.2) := by
 unfold dj
 refine Ok.bind (c8 _ _ hd za za) (fun x1 h1 => ?_)
 refine Ok.bind (P := fun o : List Int × Int × List aB => bN ⟨o.1, o.2.1⟩ ∧ (o.2.2.length ≤ 3 ∧ ∀ x ∈ o.2.2, jX x)) (Ok.loop (fun s => 0 ≤ s.1 ∧ s.1 + s.2.2.2.length ≤ 3 ∧ (∀ x ∈ s.2.2.2, jX x) ∧ bN ⟨s.2.1, s.2.2.1⟩) (fun s => s.1.toNat) ?_ ⟨zb, by simp only [List.length_nil]; omega, sm, h1.2.2⟩) (fun o ho => Ok.ret (Q := fun r : aM × Src => lj r.1 ∧ bN r.2) ⟨ho.2, ho.1⟩)
 rintro ⟨s2, s3, s4, s5⟩ ⟨i0, i1, i2, i3⟩
 simp only at i0 i1 i2 i3
 unfold eV
 have happ : ∀ (x : aB), Ok (pS s5 [x] 96) (fun r => r = s5 ++ [x]) := fun x => Ok.app (by simp only [List.length_cons, List.length_nil]; omega)
 have hnext : ∀ {x : aB}, jX x → ∀ c ∈ s5 ++ [x], jX c := fun hx c hc => by
  simp only [List.mem_append, List.mem_singleton] at hc
  rcases hc with hc | rfl
  ·exact i2 c hc
  ·exact hx
 refine Ok.oV (fun hgt => ?_) (fun _ => Ok.st ⟨i3, zb, i2⟩)
 refine Ok.bind (c8 _ _ i3 za za) (fun y1 g1 => ?_)
 refine Ok.sl (fun hk => ?_) (fun _ => Ok.sl (fun hk => ?_) (fun _ => ?_))
 ·refine Ok.bind (dn _ _ g1.2.2 sm sm) (fun y2 g2 => ?_)
  refine Ok.bind (dn _ _ g2.2 sm sm) (fun y3 g3 => ?_)
  refine Ok.bind (happ _) (fun y4 g4 => ?_)
  subst g4
  have b1 : 0 ≤ y2.1 ∧ y2.1 ≤ 1048575 := by have := g2.1; simp at this; omega
  have b2 : 0 ≤ y3.1 ∧ y3.1 ≤ 999 := by have := g3.1; simp at this; omega
  rw [w64 (n := s2 - 1) za za, w64 (n := 1 + y2.1) za za, w64 (n := 1 + y3.1) za za, hk]
  exact Ok.nx ⟨zb, by simp only [List.length_append, List.length_cons, List.length_nil]; omega, hnext (gain_ok za za), g3.2⟩ zb
 ·refine Ok.bind (c8 _ _ g1.2.2 za za) (fun y2 g2 => ?_)
  refine Ok.bind (c8 _ _ g2.2.2 za za) (fun y3 g3 => ?_)
  refine Ok.bind (c8 _ _ g3.2.2 za za) (fun y4 g4 => ?_)
  refine Ok.bind (c8 _ _ g4.2.2 za za) (fun y5 g5 => ?_)
  refine Ok.bind (c8 _ _ g5.2.2 za za) (fun y6 g6 => ?_)
  refine Ok.bind (c8 _ _ g6.2.2 za za) (fun y7 g7 => ?_)
  refine Ok.bind (happ _) (fun y8 g8 => ?_)
  subst g8
  rw [w64 (n := s2 - 1) za za, w64 (n := y3.1 - 3) za za, w64 (n := y4.1 - 1) za za, w64 (n := 1 + y5.1) za za, hk]
  exact Ok.nx ⟨zb, by simp only [List.length_append, List.length_cons, List.length_nil]; omega, hnext (section_ok za za za za za za), g7.2.2⟩ zb
 ·refine Ok.bind (c8 _ _ g1.2.2 za za) (fun y2 g2 => ?_)
  refine Ok.bind (c8 _ _ g2.2.2 za za) (fun y3 g3 => ?_)
  refine Ok.bind (happ _) (fun y8 g8 => ?_)
  subst g8
  rw [w64 (n := s2 - 1) za za, w64 (n := 1 + y2.1) za za, show y1.1 = 2 by omega]
  exact Ok.nx ⟨zb, by simp only [List.length_append, List.length_cons, List.length_nil]; omega, hnext (filter_ok za za), g3.2.2⟩ zb
theorem resp_valid {r : aM} (h : lj r) : ed r = some true := by
 obtain ⟨hl, hs⟩ := h
 unfold ed
 rw [if_neg so]
 have e1 : bM r.bo = some false := by
  unfold bM cb
  rw [lD r.bo.length (fun i hi => ?_) ?_]
  ·rfl
  ·unfold bT
   rw [if_neg sm]
  ·unfold bT dN
   rw [if_pos so, pM rfl hi, zc, (hs _ (List.getElem_mem hi)).1, zc, zc, if_neg sm, w64 za za]
   simp
 have e2 : ex r.bo = some 1 := by
  unfold ex
  have : Ok (e8 (ef r.bo) ((1 : Int), (0 : Int))) (fun o => o = .inl 1) := by
   refine Ok.loop (fun s => s.1 = 1 ∧ 0 ≤ s.2 ∧ s.2 ≤ r.bo.length) (fun s => ((r.bo.length : Int) - s.2).toNat) ?_ ⟨rfl, Int.le_refl _, sm⟩
   rintro ⟨s1, s2⟩ ⟨i0, i1, i2⟩
   simp only at i0 i1 i2
   subst i0
   unfold ef
   dsimp only
   refine Ok.oV (fun hlt => ?_) (fun _ => Ok.st rfl)
   refine Ok.bind (Ok.get za za) (fun x hx => ?_)
   rw [w64 (n := s2 + 1) za za]
   refine Ok.qv (fun _ => Ok.nx ⟨rfl, zb, zb⟩ zb) (fun hk => ?_)
   rw [(hs x hx.1).2.1 hk]
   refine Ok.oV (fun hc => absurd hc (by decide)) (fun _ => ?_)
   rw [w64 (n := 1 * 1) za za]
   exact Ok.nx ⟨rfl, zb, zb⟩ zb
  rw [this.eq]; rfl
 rw [e1, zc, if_neg sm, e2]; rfl

def RateOk (r : bg) : Prop := r.bh = 1 ∧ (r.bj = 100 ∨ r.bj = 50 ∨ r.bj = 51)
theorem rate_valid {r : bg} (h : RateOk r) : ja r = some true := by
 obtain ⟨n, d⟩ := r
 obtain ⟨h1, h2⟩ := h
 simp only at h1 h2
 subst h1
 unfold ja mV nj
 rcases h2 with rfl | rfl | rfl
 ·rw [qO (n := 4) (o := (1 : Int)) (by kernel_rfl)]; rfl
 ·rw [qO (n := 4) (o := (1 : Int)) (by kernel_rfl)]; rfl
 ·rw [qO (n := 4) (o := (1 : Int)) (by kernel_rfl)]; rfl
structure EpOk (e : al) : Prop where
 lo : 0 ≤ e.bB
 lt : e.bB < e.fTo
 hi : e.fTo ≤ 10000000
 from_ : e.bB ≤ 100000
 rate : RateOk e.cf
 resp : lj e.bi
 pos : d8 60 e.aS
theorem ep_valid {e : al} (h : EpOk e) : cH e = some true := by
 obtain ⟨h1, h2, h3, -, h4, h5, ⟨p1, p2⟩, ⟨p3, p4⟩, p5, p6⟩ := h
 have hin : ∀ {x a b : Int}, a ≤ x → x ≤ b → dm x a b = some true := fun h h' => by
  unfold dm; rw [if_pos (by simpa using h)]; simpa using h'
 unfold cH
 rw [if_pos (by simpa using h1), if_pos (by simpa using h2), if_pos so, rate_valid h4, zc, if_pos rfl, resp_valid h5, zc, if_pos rfl,
  hin za za, zc, if_pos rfl, hin za za, zc, if_pos rfl, hin za za]
 rfl
structure EpsOk (l : List al) : Prop where
 ne : l ≠ []
 len : l.length ≤ 3
 all : ∀ e ∈ l, EpOk e
 ord : (l.map fun e => (e.bB, e.fTo)).Pairwise (fun a b => a.2 ≤ b.1)
 last : ∀ e, l.getLast? = some e → e.fTo = 100000
theorem epochs_valid {l : List al} (h : EpsOk l) : d5 l = some true := by
 have hlen := h.len
 have hne := List.length_pos_iff.2 h.ne
 unfold d5
 rw [lD l.length (fun i hi => ?_) ?_, zc]
 ·dsimp only
  unfold dm
  rw [if_pos so, zc]
  simp; omega
 ·unfold dv
  rw [if_neg sm]
 ·unfold dv
  rw [if_pos so, pM rfl hi, zc, ep_valid (h.all _ (List.getElem_mem hi)), zc, if_neg sm, w64 (n := (i : Int) + 1) za za]
  by_cases h0 : i = 0
  ·subst h0; rfl
  ·rw [if_pos so, w64 za za, pM (i := i - 1) za za, zc]
   have := List.pairwise_iff_getElem.1 h.ord (i - 1) i so (by simpa using hi) za
   simp only [List.getElem_map] at this
   rw [if_neg (by simpa using this)]
   simp
def ChOk (c : ap) : Prop := IsSid c.aH ∧ EpsOk c.ba
structure lH (v : aC) : Prop where
 len : v.aO.length ≤ 6
 all : ∀ c ∈ v.aO, ChOk c
 ord : (v.aO.map (·.aH)).Pairwise (fun a b => my a b < 0)
 net : ∀ c ∈ v.aO, c.aH.aV = [65, 66]
theorem lH.inv {v : aC} (h : lH v) : InvOk v := ⟨h.len, fun c hc => ⟨(h.all c hc).2.len, fun e he => ((h.all c hc).2.all e he).pos⟩⟩
theorem inv_valid {v : aC} (h : lH v) : da v = some true := by
 have hlen := h.len
 unfold da
 rw [lD v.aO.length (fun i hi => ?_) ?_, zc]
 ·simp; omega
 ·unfold dM
  rw [if_neg sm]
 ·unfold dM
  obtain ⟨c1, c2⟩ := h.all _ (List.getElem_mem hi)
  rw [if_pos so, pM rfl hi, zc, Sq.Valid_eq (sid_len c1), c1, zc, if_neg sm, epochs_valid c2, zc, if_neg sm, w64 (n := (i : Int) + 1) za za]
  by_cases h0 : i = 0
  ·subst h0; rfl
  ·rw [if_pos so, w64 za za, pM (i := i - 1) za za, zc, Sd.kk, zc]
   have := List.pairwise_iff_getElem.1 h.ord (i - 1) i so (by simpa using hi) za
   simp only [List.getElem_map] at this
   rw [if_neg (by simpa using this)]
   simp

def sid (i : Nat) : Sid := ⟨[65, 66], stas.getD i [], [48, 48], [66, 72, 90]⟩
theorem source_at {n : Int} {i : Nat} (hn : n = i) (hi : i < 6) : dw n = some (sid i) := by
 subst hn
 have : i = 0 ∨ i = 1 ∨ i = 2 ∨ i = 3 ∨ i = 4 ∨ i = 5 := by omega
 rcases this with rfl | rfl | rfl | rfl | rfl | rfl <;> (show dw _ = some _; kernel_rfl)
theorem sid_ok {i : Nat} (hi : i < 6) : IsSid (sid i) := by
 have : i = 0 ∨ i = 1 ∨ i = 2 ∨ i = 3 ∨ i = 4 ∨ i = 5 := by omega
 rcases this with rfl | rfl | rfl | rfl | rfl | rfl <;> (show Sq.m5 _ = true; decide +kernel)
theorem sid_lt {i j : Nat} (h : i < j) (hj : j < 6) : my (sid i) (sid j) < 0 := by
 have h1 : i = 0 ∨ i = 1 ∨ i = 2 ∨ i = 3 ∨ i = 4 := by omega
 have h2 : j = 1 ∨ j = 2 ∨ j = 3 ∨ j = 4 ∨ j = 5 := by omega
 rcases h1 with rfl | rfl | rfl | rfl | rfl <;> rcases h2 with rfl | rfl | rfl | rfl | rfl <;> first | omega | decide +kernel
theorem eps1 {e : al} (h : EpOk e) (ht : e.fTo = 100000) : EpsOk [e] := ⟨sm, sm, by simpa using h, sm, by simpa using ht⟩
theorem eps2 {e f : al} (h : EpOk e) (h' : EpOk f) (ho : e.fTo ≤ f.bB) (ht : f.fTo = 100000) : EpsOk [e, f] := ⟨sm, sm, by simp; exact ⟨h, h'⟩, by simpa using ho, by simpa using ht⟩
def SitesI (s : Int × List Int × Int × List ap) : Prop := ∃ i : Nat, s.1 = i ∧ i ≤ 6 ∧ s.2.2.2.map (·.aH) = (List.range i).map sid ∧ (∀ c ∈ s.2.2.2, EpsOk c.ba ∧ c.ba.length ≤ 2) ∧ bN ⟨s.2.1, s.2.2.1⟩
theorem sitesV {n : Int} (d : Src) (hd : bN d) : Ok (eW n d) (fun r => (lH r.1 ∧ ∀ c ∈ r.1.aO, c.ba.length ≤ 2) ∧ bN r.2) := by
 unfold eW
 refine Ok.bind (P := fun o => bN ⟨o.1, o.2.1⟩ ∧ lH ⟨o.2.2⟩ ∧ ∀ c ∈ o.2.2, c.ba.length ≤ 2) (Ok.loop SitesI (fun s => (6 - s.1).toNat) ?_ ⟨0, rfl, za, rfl, sm, hd⟩) (fun o ho => Ok.ret ⟨ho.2, ho.1⟩)
 rintro ⟨s1, s2, s3, s4⟩ ⟨i, i0, i1, i2, i3, i4⟩
 simp only at i0 i1 i2 i3 i4
 subst i0
 have hlen : s4.length = i := by have := congrArg List.length i2; simpa using this
 unfold gG
 have happ : ∀ (x : ap), Ok (pS s4 [x] 88) (fun r => r = s4 ++ [x]) := fun x => Ok.app (by simp only [List.length_cons, List.length_nil]; omega)
 have hend : lH ⟨s4⟩ := by
  refine ⟨zb, fun c hc => ⟨?_, (i3 c hc).1⟩, ?_, fun c hc => ?_⟩
  ·have : c.aH ∈ s4.map (·.aH) := List.mem_map.2 ⟨c, hc, rfl⟩
   rw [i2] at this
   obtain ⟨j, hj, e⟩ := List.mem_map.1 this
   rw [← e]
   exact sid_ok (by have := List.mem_range.1 hj; omega)
  ·simp only
   rw [i2, List.pairwise_map]
   exact List.pairwise_lt_range.imp_of_mem fun ha hb hab => sid_lt hab (by have := List.mem_range.1 hb; omega)
  ·have : c.aH ∈ s4.map (·.aH) := List.mem_map.2 ⟨c, hc, rfl⟩
   rw [i2] at this
   obtain ⟨j, hj, e⟩ := List.mem_map.1 this
   rw [← e]; rfl
 have hnext : ∀ {l : List al} {t : Src}, i < 6 → EpsOk l ∧ l.length ≤ 2 → bN t → Ok (some (.next ((i : Int) + 1, t.fL, t.fAt, s4 ++ [⟨sid i, l⟩]))) (Ok.S SitesI (fun s => (6 - s.1).toNat) (fun o : List Int × Int × List ap => bN ⟨o.1, o.2.1⟩ ∧ lH ⟨o.2.2⟩ ∧ ∀ c ∈ o.2.2, c.ba.length ≤ 2) ((i : Int), s2, s3, s4)) := fun {l t} hi hl ht => by
  refine Ok.nx ⟨i + 1, sm, za, ?_, fun c hc => ?_, ht⟩ zb
  ·simp [List.range_succ, i2]
  ·simp only [List.mem_append, List.mem_singleton] at hc
   rcases hc with hc | rfl
   ·exact i3 c hc
   ·exact hl
 refine Ok.oV (fun hlt => ?_) (fun _ => Ok.st ⟨i4, hend, fun c hc => (i3 c hc).2⟩)
 refine Ok.oV (fun _ => ?_) (fun _ => Ok.st ⟨i4, hend, fun c hc => (i3 c hc).2⟩)
 have hi : i < 6 := by omega
 refine Ok.bind (kI 60 za za _ i4) (fun y1 g1 => ?_)
 refine Ok.bind (responseV _ g1.2) (fun y2 g2 => ?_)
 rw [source_at rfl hi, zc]
 refine Ok.bind (c8 _ _ g2.2 za za) (fun y4 g4 => ?_)
 rw [w64 (n := (i : Int) + 1) za za]
 have hr : RateOk ⟨100, 1⟩ := ⟨rfl, .inl rfl⟩
 refine Ok.sl (fun _ => ?_) (fun _ => Ok.sl (fun _ => ?_) (fun _ => ?_))
 ·refine Ok.bind (c8 _ _ g4.2.2 za za) (fun y5 g5 => ?_)
  refine Ok.bind (kI 60 za za _ g5.2.2) (fun y6 g6 => ?_)
  refine Ok.bind (responseV _ g6.2) (fun y7 g7 => ?_)
  refine Ok.bind (Ok.qH za sm) (fun _ _ => ?_)
  refine Ok.bind (Ok.mod za sm) (fun y8 g8 => ?_)
  obtain ⟨x, hx, rfl⟩ := g8
  simp at hx
  subst hx
  refine Ok.bind (Ok.app sm) (fun y9 g9 => ?_)
  subst g9
  refine Ok.bind (happ _) (fun y10 g10 => ?_)
  subst g10
  rw [w64 (n := 1500 + y5.1) za za]
  exact hnext hi ⟨eps2 ⟨sm, zb, zb, sm, hr, g2.1, g1.1⟩ ⟨zb, zb, sm, zb, hr, g7.1, g6.1⟩ sm sm, sm⟩ g7.2
 ·refine Ok.bind (c8 _ _ g4.2.2 za za) (fun y5 g5 => ?_)
  refine Ok.bind (Ok.qH za sm) (fun _ _ => ?_)
  refine Ok.bind (Ok.mod za sm) (fun y8 g8 => ?_)
  obtain ⟨x, hx, rfl⟩ := g8
  simp at hx
  subst hx
  refine Ok.bind (happ _) (fun y10 g10 => ?_)
  subst g10
  exact hnext hi ⟨eps1 ⟨g5.1, zb, sm, zb, hr, g2.1, g1.1⟩ sm, sm⟩ g5.2.2
 ·refine Ok.bind (happ _) (fun y10 g10 => ?_)
  subst g10
  exact hnext hi ⟨eps1 ⟨sm, sm, sm, sm, hr, g2.1, g1.1⟩ sm, sm⟩ g4.2.2

end Go.Dw.So


set_option maxRecDepth 100000
set_option maxHeartbeats 4000000
namespace Go.Dw.So
open Go.Dw Go.Proofs
open Sd (my ko iR)

theorem clone_at {α : Type} {n : Nat} {l : List α} (h : l.length * n ≤ 140737488355328) : p9 n l = some l := by
 unfold p9; rw [if_pos h]
def RespLen (r : aM) : Prop := r.bo.length ≤ 1000 ∧ ∀ x ∈ r.bo, x.cN.length ≤ 1000
theorem copyEpoch_at {e : al} (h : RespLen e.bi) : c7 e = some e := by
 obtain ⟨h1, h2⟩ := h
 unfold c7
 rw [clone_at za, zc]
 have : Ok (e8 (cG e.bi.bo) ((0 : Int), e.bi.bo)) (fun o => o = e.bi.bo) := by
  refine Ok.loop (fun s => 0 ≤ s.1 ∧ s.1 ≤ e.bi.bo.length ∧ s.2 = e.bi.bo) (fun s => ((e.bi.bo.length : Int) - s.1).toNat) ?_ ⟨Int.le_refl _, sm, rfl⟩
  rintro ⟨s2, s3⟩ ⟨i0, i1, i2⟩
  simp only at i0 i1 i2
  subst i2
  unfold cG
  dsimp only
  refine Ok.oV (fun hlt => ?_) (fun _ => Ok.st rfl)
  refine Ok.bind (Ok.qH za za) (fun _ _ => ?_)
  refine Ok.bind (Ok.get za za) (fun x hx => ?_)
  have := h2 x hx.1
  rw [clone_at za, zc]
  refine Ok.bind (Ok.qH za za) (fun _ _ => ?_)
  refine Ok.bind (Ok.mod za za) (fun y hy => ?_)
  obtain ⟨z, hz, rfl⟩ := hy
  obtain rfl : x = z := by rw [hx.2] at hz; exact Option.some.inj hz
  rw [w64 za za]
  refine Ok.nx ⟨zb, zb, ?_⟩ zb
  obtain ⟨hk, e⟩ := List.getElem?_eq_some_iff.1 hx.2
  simp only
  conv => lhs; rw [← e]
  exact List.set_getElem_self hk
 rw [this.eq]; rfl
def ChLen (c : ap) : Prop := c.ba.length ≤ 1000 ∧ ∀ e ∈ c.ba, RespLen e.bi
theorem copied_at {c : ap} (h : ChLen c) : d4 c = some c := by
 obtain ⟨h1, h2⟩ := h
 unfold d4
 rw [clone_at za, zc]
 have : Ok (e8 (du c.ba) ((0 : Int), c.ba)) (fun o => o = c.ba) := by
  refine Ok.loop (fun s => 0 ≤ s.1 ∧ s.1 ≤ c.ba.length ∧ s.2 = c.ba) (fun s => ((c.ba.length : Int) - s.1).toNat) ?_ ⟨Int.le_refl _, sm, rfl⟩
  rintro ⟨s2, s3⟩ ⟨i0, i1, i2⟩
  simp only at i0 i1 i2
  subst i2
  unfold du
  dsimp only
  refine Ok.oV (fun hlt => ?_) (fun _ => Ok.st rfl)
  refine Ok.bind (Ok.qH za za) (fun _ _ => ?_)
  refine Ok.bind (Ok.get za za) (fun x hx => ?_)
  rw [copyEpoch_at (h2 x hx.1), zc]
  refine Ok.bind (Ok.qH za za) (fun _ _ => ?_)
  refine Ok.bind (Ok.set za za) (fun y hy => ?_)
  subst hy
  rw [w64 za za]
  refine Ok.nx ⟨zb, zb, ?_⟩ zb
  obtain ⟨hk, e⟩ := List.getElem?_eq_some_iff.1 hx.2
  simp only
  conv => lhs; rw [← e]
  exact List.set_getElem_self hk
 rw [this.eq]; rfl
structure InvLen (v : aC) : Prop where
 len : v.aO.length ≤ 1000
 all : ∀ c ∈ v.aO, ChLen c
theorem lH.lens {v : aC} (h : lH v) : InvLen v := by
 refine ⟨by have := h.len; omega, fun c hc => ?_⟩
 have hE := (h.all c hc).2
 refine ⟨by have := hE.len; omega, fun e he => ?_⟩
 have hR := (hE.all e he).resp
 exact ⟨by have := hR.1; omega, fun x hx => by have := (hR.2 x hx).2.2.1; omega⟩

def zCh : ap := ⟨⟨[], [], [], []⟩, []⟩
def zEp : al := ⟨0, 0, ⟨0, 0⟩, ⟨0, 0, 0⟩, ⟨[]⟩⟩
def chan (v : aC) (s : Sid) : Option ap := v.aO.find? fun c => decide (c.aH = s)
def epIn (l : List al) (t : Int) : Option al := l.find? fun e => decide (e.bB ≤ t ∧ t < e.fTo)
def nM (v : aC) (s : Sid) (t : Int) : Option al := (chan v s).bind fun c => epIn c.ba t
theorem Find_eq {v : aC} (hv : InvLen v) (s : Sid) : eZ v s = some (match chan v s with | none => (zCh, false) | some c => (c, true)) := by
 have hl := hv.len
 unfold eZ
 rw [loop_find v.aO (p := fun c => decide (c.aH = s)) (f := fun c => (c, true)) (fun i hi => ?_) ?_, zc]
 ·unfold chan
  cases v.aO.find? fun c => decide (c.aH = s) <;> rfl
 ·unfold eE
  rw [if_neg sm]
 ·unfold eE
  rw [if_pos so, pM rfl hi, zc, Sd.eqs, copied_at (hv.all _ (List.getElem_mem hi)), zc, w64 za za]
  simp
theorem at_eq {c : ap} (hc : c.ba.length ≤ 1000) (t : Int) : gt c t = some (match epIn c.ba t with | none => (zEp, false) | some e => (e, true)) := by
 unfold gt
 rw [loop_find c.ba (p := fun e => decide (e.bB ≤ t ∧ t < e.fTo)) (f := fun e => (e, true)) (fun i hi => ?_) ?_, zc]
 ·unfold epIn
  cases c.ba.find? fun e => decide (e.bB ≤ t ∧ t < e.fTo) <;> rfl
 ·unfold fE
  rw [if_neg sm]
 ·unfold fE
  rw [if_pos so, pM rfl hi, zc, w64 za za]
  by_cases h1 : c.ba[i].bB ≤ t <;> by_cases h2 : t < c.ba[i].fTo <;> simp [h1, h2]
theorem chan_mem {v : aC} {s : Sid} {c : ap} (h : chan v s = some c) : c ∈ v.aO ∧ c.aH = s := by
 unfold chan at h
 exact ⟨List.mem_of_find?_eq_some h, by simpa using List.find?_some h⟩
theorem epIn_mem {l : List al} {t : Int} {e : al} (h : epIn l t = some e) : e ∈ l ∧ e.bB ≤ t ∧ t < e.fTo := by
 unfold epIn at h
 have := List.find?_some h
 simp only [decide_eq_true_eq] at this
 exact ⟨List.mem_of_find?_eq_some h, this⟩
theorem At_eq {v : aC} (hv : InvLen v) (hV : da v = some true) (s : Sid) (t : Int) : gr v s t = some (match nM v s t with | none => (zEp, 6) | some e => (e, 0)) := by
 unfold gr
 rw [hV, zc, if_neg sm, Find_eq hv, zc]
 unfold nM
 cases hc : chan v s with
 | none =>
  dsimp only
  rw [at_eq (by simp [zCh])]
  rfl
 | some c =>
  dsimp only
  rw [at_eq (hv.all c (chan_mem hc).1).1, zc, zc]
  cases epIn c.ba t <;> rfl

end Go.Dw.So




set_option maxRecDepth 100000
set_option maxHeartbeats 4000000
namespace Go.Dw.So
open Go.Dw Go.Proofs

def bitsL : List Int := [1, 2, 4, 8, 16, 32, 64, 128]
theorem or_at : ∀ b ∈ bitsL, ∀ m : Nat, m < 128 → 2 * b * m + 2 * b ≤ 256 → orI .i64 (2 * b * m) b = 2 * b * m + b := by decide +kernel
theorem half_bit : ∀ b ∈ bitsL, (b = 1 ∧ pe .i64 b 1 = 0) ∨ (pe .i64 b 1 ∈ bitsL ∧ 2 * pe .i64 b 1 = b) := by decide +kernel
theorem bit_pos : ∀ b ∈ bitsL, 1 ≤ b ∧ b ≤ 128 := by decide
theorem sq_lt {x n : Int} (hx : 0 < x) (hn : 0 ≤ n) : x ≤ n.tdiv x ↔ x * x ≤ n := by
 rw [Int.tdiv_eq_ediv_of_nonneg hn, Int.le_ediv_iff_mul_le hx]
def FI (n : Int) (s : Int × Int) : Prop :=
 (s.2 = 0 ∧ (0 ≤ s.1 ∧ s.1 ≤ 255) ∧ s.1 * s.1 ≤ n ∧ n < (s.1 + 1) * (s.1 + 1)) ∨
 (s.2 ∈ bitsL ∧ ∃ m : Nat, s.1 = 2 * s.2 * m ∧ m < 128 ∧ s.1 + 2 * s.2 ≤ 256 ∧ s.1 * s.1 ≤ n ∧ n < (s.1 + 2 * s.2) * (s.1 + 2 * s.2))
theorem floor_loop (n : Int) (h0 : 0 < n) (h1 : n ≤ 65535) (s : Int × Int) (hs : FI n s) : Ok (e8 (ea n) s) (fun r => (0 ≤ r ∧ r ≤ 255) ∧ r * r ≤ n ∧ n < (r + 1) * (r + 1)) := by
 refine Ok.loop (FI n) (fun s => s.2.toNat) ?_ hs
 rintro ⟨r, b⟩ h
 unfold ea
 dsimp only
 rcases h with ⟨e, h2, h3, h4⟩ | ⟨hb, m, hr, hm, h2, h3, h4⟩
 ·simp only at e h2 h3 h4
  subst e
  rw [if_neg sm]
  exact Ok.st ⟨h2, h3, h4⟩
 ·simp only at hb hr h2 h3 h4
  have hbp := bit_pos b hb
  have hbm : 0 ≤ 2 * b * m := Int.mul_nonneg za za
  have hor : orI .i64 r b = r + b := by rw [hr]; exact or_at b hb m hm za
  have hm2 : 2 * b * m ≤ 256 - 2 * b := by omega
  have hmb : b * m ≤ 127 := by
   rw [Int.mul_assoc] at hm2; omega
  rw [if_pos so, hor]
  refine Ok.bind (Ok.quo za) (fun q hq => ?_)
  have hq0 : 0 ≤ n.tdiv (r + b) := Int.tdiv_nonneg za za
  have hq1 : n.tdiv (r + b) ≤ n := Int.tdiv_le_self _ za
  rw [w64 za za] at hq
  subst hq
  have hfin : ∀ (x : Int) (k : Nat), (x = 2 * b * m ∧ k = 2 * m) ∨ (x = 2 * b * m + b ∧ k = 2 * m + 1) → x * x ≤ n → n < (x + b) * (x + b) → Ok (some (oP.next (x, pe .i64 b 1))) (Ok.S (FI n) (fun s => s.2.toNat) (fun r : Int => (0 ≤ r ∧ r ≤ 255) ∧ r * r ≤ n ∧ n < (r + 1) * (r + 1)) (r, b)) := fun x k hx g1 g2 => by
   rcases half_bit b hb with ⟨e1, e2⟩ | ⟨e1, e2⟩
   ·rw [e2]
    subst e1
    refine Ok.nx (.inl ⟨rfl, ⟨zb, zb⟩, g1, g2⟩) zb
   ·have hbp' := bit_pos _ e1
    generalize pe .i64 b 1 = b' at *
    subst e2
    refine Ok.nx (.inr ⟨e1, k, ?_, ?_, zb, g1, g2⟩) zb
    ·simp only
     rcases hx with ⟨rfl, rfl⟩ | ⟨rfl, rfl⟩
     ·rw [Int.natCast_mul]
      simp only [Int.mul_assoc, Int.mul_left_comm]
      rfl
     ·rw [Int.natCast_add, Int.natCast_mul, Int.mul_add]
      have : 2 * b' * ((2 : Nat) * (m : Int)) = 2 * (2 * b') * m := by
       simp only [Int.mul_assoc, Int.mul_left_comm]; rfl
      rw [this]; simp
    ·have : 2 * b' * m ≤ 127 := hmb
     have h5 : (m : Int) ≤ b' * m := by
      have := Int.mul_le_mul_of_nonneg_right (show (1 : Int) ≤ b' by omega) (show (0 : Int) ≤ (m : Int) by omega)
      omega
     rw [Int.mul_assoc] at this
     omega
  refine Ok.oV (fun hle => ?_) (fun hgt => ?_)
  ·rw [sq_lt za za] at hle
   exact hfin _ (2 * m + 1) (.inr ⟨by rw [hr], rfl⟩) hle (by rw [show r + b + b = r + 2 * b by omega]; exact h4)
  ·rw [sq_lt za za] at hgt
   exact hfin _ (2 * m) (.inl ⟨hr, rfl⟩) h3 (Int.not_le.1 hgt)
theorem len_lo : (List.range 256).all (fun n => decide (n = 0) || match gX (n : Int) with | some L => decide (1 ≤ L ∧ L ≤ 16) && decide ((n : Int) < 2 ^ L.toNat) | none => false) = true := by kernel_rfl
theorem len_hi : (List.range 256).all (fun n => decide (n = 0) || match gX ((n * 256 : Nat) : Int) with | some L => decide (1 ≤ L ∧ L ≤ 16) && decide (((n * 256 + 255 : Nat) : Int) < 2 ^ L.toNat) | none => false) = true := by kernel_rfl
theorem shr8 {n : Int} (h0 : 0 ≤ n) : pe .u64 n 8 = n / 256 := by
 show n.fdiv (2 ^ (min (8 : Int).toNat 64)) = n / 256
 rw [Int.fdiv_eq_ediv_of_nonneg _ (by decide)]
 rfl
theorem len_same {n : Int} (h0 : 256 ≤ n) (h1 : n ≤ 65535) : fD n = fD (n / 256 * 256) := by
 unfold fD iP dq dW
 rw [if_neg so, if_neg so, if_pos so, if_neg so, if_neg so, if_pos so, shr8 za, shr8 za]
 rw [show n / 256 * 256 / 256 = n / 256 by omega]
theorem len_ok {n : Int} (h0 : 1 ≤ n) (h1 : n ≤ 65535) : Ok (fD n) (fun L => (1 ≤ L ∧ L ≤ 16) ∧ n < 2 ^ L.toNat) := by
 obtain ⟨n, rfl⟩ : ∃ k : Nat, n = k := ⟨n.toNat, za⟩
 by_cases h : n < 256
 ·have := List.all_eq_true.1 len_lo n (List.mem_range.2 h)
  simp only [Bool.or_eq_true, decide_eq_true_eq] at this
  rcases this with h | h
  ·omega
  ·cases e : gX (n : Int) with
   | none => rw [e] at h; cases h
   | some L =>
    rw [e] at h
    simp only [Bool.and_eq_true, decide_eq_true_eq] at h
    exact ⟨L, mw _ _ e, h.1, h.2⟩
 ·have hm : n / 256 < 256 := by omega
  have := List.all_eq_true.1 len_hi (n / 256) (List.mem_range.2 hm)
  simp only [Bool.or_eq_true, decide_eq_true_eq] at this
  rcases this with h' | h'
  ·omega
  ·cases e : gX ((n / 256 * 256 : Nat) : Int) with
   | none => rw [e] at h'; cases h'
   | some L =>
    rw [e] at h'
    simp only [Bool.and_eq_true, decide_eq_true_eq] at h'
    refine ⟨L, ?_, h'.1, ?_⟩
    ·rw [len_same za h1]
     have : ((n : Int) / 256 * 256) = ((n / 256 * 256 : Nat) : Int) := by omega
     rw [this]
     exact mw _ _ e
    ·have := h'.2
     have h5 : (n : Int) ≤ ((n / 256 * 256 + 255 : Nat) : Int) := by omega
     exact Int.lt_of_le_of_lt h5 this
theorem start_at : ∀ L : Nat, L < 17 → 1 ≤ L → ∃ q b, qd .i64 (IntKind.wrap .i64 ((L : Int) - 1)) 2 = some q ∧ vW .i64 1 q = some b ∧ b ∈ bitsL ∧ (2 : Int) ^ L ≤ (0 + 2 * b) * (0 + 2 * b) := by
 intro L h1 h2
 have : L = 1 ∨ L = 2 ∨ L = 3 ∨ L = 4 ∨ L = 5 ∨ L = 6 ∨ L = 7 ∨ L = 8 ∨ L = 9 ∨ L = 10 ∨ L = 11 ∨ L = 12 ∨ L = 13 ∨ L = 14 ∨ L = 15 ∨ L = 16 := by omega
 have hs : ∀ (q b : Int), 0 ≤ q → shlI .i64 1 q = b → vW .i64 1 q = some b := fun q b h e => by unfold vW; rw [if_neg za, e]
 have hq : ∀ (x q : Int), IntKind.wrap .i64 ((IntKind.wrap .i64 x).tdiv 2) = q → qd .i64 (IntKind.wrap .i64 x) 2 = some q := fun x q e => by unfold qd; rw [if_neg za, e]
 rcases this with rfl | rfl | rfl | rfl | rfl | rfl | rfl | rfl | rfl | rfl | rfl | rfl | rfl | rfl | rfl | rfl
 ·exact ⟨0, 1, hq _ _ (by decide), hs _ _ (by decide) (by decide), by decide, by decide⟩
 ·exact ⟨0, 1, hq _ _ (by decide), hs _ _ (by decide) (by decide), by decide, by decide⟩
 ·exact ⟨1, 2, hq _ _ (by decide), hs _ _ (by decide) (by decide), by decide, by decide⟩
 ·exact ⟨1, 2, hq _ _ (by decide), hs _ _ (by decide) (by decide), by decide, by decide⟩
 ·exact ⟨2, 4, hq _ _ (by decide), hs _ _ (by decide) (by decide), by decide, by decide⟩
 ·exact ⟨2, 4, hq _ _ (by decide), hs _ _ (by decide) (by decide), by decide, by decide⟩
 ·exact ⟨3, 8, hq _ _ (by decide), hs _ _ (by decide) (by decide), by decide, by decide⟩
 ·exact ⟨3, 8, hq _ _ (by decide), hs _ _ (by decide) (by decide), by decide, by decide⟩
 ·exact ⟨4, 16, hq _ _ (by decide), hs _ _ (by decide) (by decide), by decide, by decide⟩
 ·exact ⟨4, 16, hq _ _ (by decide), hs _ _ (by decide) (by decide), by decide, by decide⟩
 ·exact ⟨5, 32, hq _ _ (by decide), hs _ _ (by decide) (by decide), by decide, by decide⟩
 ·exact ⟨5, 32, hq _ _ (by decide), hs _ _ (by decide) (by decide), by decide, by decide⟩
 ·exact ⟨6, 64, hq _ _ (by decide), hs _ _ (by decide) (by decide), by decide, by decide⟩
 ·exact ⟨6, 64, hq _ _ (by decide), hs _ _ (by decide) (by decide), by decide, by decide⟩
 ·exact ⟨7, 128, hq _ _ (by decide), hs _ _ (by decide) (by decide), by decide, by decide⟩
 ·exact ⟨7, 128, hq _ _ (by decide), hs _ _ (by decide) (by decide), by decide, by decide⟩
theorem floor_ok (n : Int) (h1 : n ≤ 65535) : Ok (d9 n) (fun r => (0 ≤ r ∧ r ≤ 255) ∧ (0 ≤ n → r * r ≤ n) ∧ n < (r + 1) * (r + 1)) := by
 unfold d9
 refine Ok.oV (fun h => Ok.ret ⟨⟨za, za⟩, fun h' => za, so⟩) (fun h => ?_)
 have hw : IntKind.wrap .u64 n = n := IntWalk.u64_in _ za
 rw [hw]
 refine Ok.bind (len_ok za h1) (fun L hL => ?_)
 obtain ⟨⟨l0, l1⟩, l2⟩ := hL
 obtain ⟨L, rfl⟩ : ∃ k : Nat, L = k := ⟨L.toNat, za⟩
 obtain ⟨q, b, e1, e2, e3, e4⟩ := start_at L za za
 rw [e1, zc, e2, zc]
 have hb := bit_pos b e3
 refine Ok.bind (floor_loop n za h1 (0, b) (.inr ⟨e3, 0, sm, za, zb, zb, ?_⟩)) (fun r hr => Ok.ret ⟨hr.1, fun _ => hr.2.1, hr.2.2⟩)
 simp only
 rw [Int.toNat_natCast] at l2
 exact Int.lt_of_lt_of_le l2 e4
theorem lt_of_sq {x s : Int} (hs : 0 ≤ s) (h : x * x < s * s) : x < s := by
 apply Classical.byContradiction
 intro hn
 have : s * s ≤ x * x := Int.mul_le_mul za za hs za
 omega
theorem ceil_ok (n : Int) (h0 : 0 ≤ n) (h1 : n ≤ 65535) : Ok (fK n) (fun r => (0 ≤ r ∧ r ≤ 256) ∧ n ≤ r * r ∧ ∀ s, 0 ≤ s → n ≤ s * s → r ≤ s) := by
 unfold fK
 refine Ok.bind (floor_ok n h1) (fun x hx => ?_)
 obtain ⟨⟨a0, a1⟩, a2, a3⟩ := hx
 have := a2 h0
 have hxx : 0 ≤ x * x := Int.mul_nonneg a0 a0
 rw [w64 (n := x * x) za za, w64 (n := x + 1) za za]
 refine Ok.oV (fun hlt => Ok.ret ⟨⟨za, za⟩, Int.le_of_lt a3, fun s hs hns => ?_⟩) (fun hge => Ok.ret ⟨⟨za, za⟩, za, fun s hs hns => ?_⟩)
 ·have := lt_of_sq (x := x) hs za; omega
 ·apply Classical.byContradiction
  intro hc
  have := lt_of_sq (x := s) a0 (by
   have h2 : s * s ≤ (x - 1) * (x - 1) := Int.mul_le_mul za za hs za
   have h3 : (x - 1) * (x - 1) = x * x - 2 * x + 1 := by rw [Int.sub_mul, Int.mul_sub]; omega
   omega)
  have h2 : s * s ≤ (x - 1) * (x - 1) := Int.mul_le_mul za za hs za
  have h3 : (x - 1) * (x - 1) = x * x - 2 * x + 1 := by rw [Int.sub_mul, Int.mul_sub]; omega
  omega
end Go.Dw.So


set_option maxRecDepth 100000
set_option maxHeartbeats 4000000
namespace Go.Dw.So
open Go.Dw Go.Proofs

theorem get1 {α : Type} (A : List α) (y : α) (T : List α) {n : Int} (hn : n = A.length) : oT (A ++ y :: T) n = some y := by
 rw [pM (i := A.length) hn sm]
 simp
theorem set1 {α : Type} (A : List α) (y z : α) (T : List α) {n : Int} (hn : n = A.length) : tg (A ++ y :: T) n z = some (A ++ z :: T) := by
 rw [AW (i := A.length) hn sm]
 simp
structure oj (t : aK) : Prop where
 step : 1 ≤ t.aU ∧ t.aU ≤ 100
 len : 2 ≤ t.ak.length ∧ t.ak.length ≤ 30
 same : t.ae.length = t.ak.length
 low : t.ak.Pairwise (· ≤ ·)
 high : t.ae.Pairwise (· ≤ ·)
 lows : ∀ x ∈ t.ak, 0 ≤ x
 highs : ∀ x ∈ t.ae, 0 ≤ x ∧ x ≤ 5000
 lh : ∀ (i : Nat) (h : i < t.ak.length) (h' : i < t.ae.length), t.ak[i] ≤ t.ae[i]
theorem jh {t : aK} (h : oj t) : b7 t = some 0 := by
 obtain ⟨h1, h2, h3, h4, h5, h6, h7, h8⟩ := h
 refine Ok.eq ?_
 unfold b7
 refine Ok.oV (fun _ => za) (fun _ => Ok.oV (fun _ => za) (fun _ => Ok.qv (fun h => za) (fun _ => Ok.oV (fun _ => za) (fun _ => Ok.oV (fun _ => za) (fun _ => ?_)))))
 refine Ok.bind (P := fun o => o = .inl ()) (Ok.loop (fun s => ∃ i : Nat, s.2.2 = i ∧ i ≤ t.ak.length ∧ (∀ (j : Nat) (hj : j < t.ak.length), i ≤ j → s.1 ≤ t.ak[j]) ∧ (∀ (j : Nat) (hj : j < t.ae.length), i ≤ j → s.2.1 ≤ t.ae[j])) (fun s => ((t.ak.length : Int) - s.2.2).toNat) ?_ ⟨0, rfl, Nat.zero_le _, fun j hj _ => h6 _ (List.getElem_mem hj), fun j hj _ => (h7 _ (List.getElem_mem hj)).1⟩) (fun o ho => by subst ho; exact Ok.ret rfl)
 rintro ⟨s1, s2, s3⟩ ⟨i, i0, i1, i2, i3⟩
 simp only at i0 i2 i3
 subst i0
 unfold eU
 dsimp only
 refine Ok.oV (fun hlt => ?_) (fun _ => Ok.st rfl)
 have hi : i < t.ak.length := by omega
 have hi' : i < t.ae.length := by omega
 have := i2 i hi (Nat.le_refl _)
 have := i3 i hi' (Nat.le_refl _)
 have := h8 i hi hi'
 have := (h7 _ (List.getElem_mem hi')).2
 simp only [pM (i := i) rfl hi, pM (i := i) rfl hi', zc]
 refine Ok.oV (fun _ => za) (fun _ => Ok.oV (fun _ => za) (fun _ => Ok.oV (fun _ => za) (fun _ => Ok.oV (fun _ => za) (fun _ => ?_))))
 rw [w64 za za]
 refine Ok.nx ⟨i + 1, sm, za, fun j hj h => ?_, fun j hj h => ?_⟩ zb
 ·exact List.pairwise_iff_getElem.1 h4 i j hi hj za
 ·exact List.pairwise_iff_getElem.1 h5 i j hi' hj za
theorem snoc_le {l : List Int} {x : Int} (h : l.Pairwise (· ≤ ·)) (hx : ∀ y ∈ l, y ≤ x) : (l ++ [x]).Pairwise (· ≤ ·) :=
 List.pairwise_append.2 ⟨h, sm, fun a ha b hb => by rw [List.mem_singleton.1 hb]; exact hx a ha⟩
structure TI (d : Src) (lo hi k : Int) (L H : List Int) : Prop where
 ck : 0 ≤ k ∧ k ≤ 23
 ll : L.length = k.toNat
 hl : H.length = k.toNat
 clo : 0 ≤ lo ∧ lo ≤ 60 * k
 chi : 0 ≤ hi ∧ hi ≤ 100 * k + 2
 cd : bN d
 pl : L.Pairwise (· ≤ ·)
 ph : H.Pairwise (· ≤ ·)
 ls : ∀ x ∈ L, 0 ≤ x ∧ x ≤ lo
 hs : ∀ x ∈ H, 0 ≤ x ∧ x ≤ hi
 lh : lo ≤ hi
 le : ∀ (i : Nat) (h : i < L.length) (h' : i < H.length), L[i] ≤ H[i]
theorem tableV (d : Src) (hd : bN d) : Ok (gl d) (fun r => oj r.1 ∧ bN r.2) := by
 unfold gl
 refine Ok.bind (dn _ d hd sm sm) (fun x1 h1 => ?_)
 obtain ⟨hst, h1⟩ := h1
 have hst : x1.1 = 20 ∨ x1.1 = 25 ∨ x1.1 = 40 ∨ x1.1 = 100 := by simpa using hst
 refine Ok.bind (c8 _ _ h1 za za) (fun x2 h2 => ?_)
 have hq : ∃ q, IntKind.wrap .i64 ((400 : Int).tdiv x1.1) = q ∧ 4 ≤ q ∧ q ≤ 20 := by
  rcases hst with e | e | e | e <;> rw [e] <;> exact ⟨_, rfl, by decide, by decide⟩
 have hp : ∃ q, IntKind.wrap .i64 (x1.1.tdiv 4) = q ∧ 0 ≤ q ∧ q ≤ 25 := by
  rcases hst with e | e | e | e <;> rw [e] <;> exact ⟨_, rfl, by decide, by decide⟩
 obtain ⟨q, hq, q0, q1⟩ := hq
 obtain ⟨p, hp, p0, p1⟩ := hp
 refine Ok.bind (P := fun o => bN ⟨o.1, o.2.1⟩ ∧ oj ⟨x1.1, o.2.2.1, o.2.2.2⟩)
  (Ok.loop (fun s => TI ⟨s.2.2.2.1, s.2.2.2.2.1⟩ s.1 s.2.1 s.2.2.1 s.2.2.2.2.2.1 s.2.2.2.2.2.2) (fun s => (23 - s.2.2.1).toNat) ?_ ⟨⟨sm, sm⟩, rfl, rfl, ⟨sm, sm⟩, ⟨zb, zb⟩, h2.2.2, sm, sm, sm, sm, zb, sm⟩) ?_
 ·rintro ⟨s3, s4, s5, s6, s7, s8, s9⟩ hI
  simp only at hI
  obtain ⟨i0, i1, i2, i3, i4, i5, i6, i7, i8, i9, i10, i11⟩ := hI
  unfold fJ
  refine Ok.bind (Ok.quo za) (fun y1 g1 => ?_)
  rw [hq] at g1; subst g1
  refine Ok.bind (c8 _ _ i5 za za) (fun y2 g2 => ?_)
  rw [w64 (n := y1 + y2.1) za za]
  refine Ok.oV (fun hle => ?_) (fun hgt => ?_)
  ·refine Ok.bind (Ok.app (by simp only [List.length_cons, List.length_nil]; omega)) (fun y3 g3 => ?_)
   refine Ok.bind (Ok.app (by simp only [List.length_cons, List.length_nil]; omega)) (fun y4 g4 => ?_)
   refine Ok.bind (dn _ _ g2.2.2 sm sm) (fun y5 g5 => ?_)
   refine Ok.bind (Ok.quo za) (fun y6 g6 => ?_)
   rw [hp] at g6; subst g6
   refine Ok.bind (dn _ _ g5.2 sm sm) (fun y7 g7 => ?_)
   have a1 : 0 ≤ y5.1 ∧ y5.1 ≤ 35 := by have := g5.1; simp at this; omega
   have a2 : 0 ≤ y7.1 ∧ y7.1 ≤ 30 := by have := g7.1; simp at this; omega
   rw [w64 (n := y5.1 + y6) za za, w64 (n := s3 + (y5.1 + y6)) za za, w64 (n := s5 + 1) za za, w64 (by split <;> omega) (by split <;> omega)]
   subst g3 g4
   refine Ok.nx ⟨⟨zb, zb⟩, ?_, ?_, ⟨zb, zb⟩, ⟨by simp only; split <;> omega, by simp only; split <;> omega⟩, g7.2, snoc_le i6 fun y hy => (i8 y hy).2, snoc_le i7 fun y hy => (i9 y hy).2, ?_, ?_, by simp only; split <;> omega, ?_⟩ zb
   ·simp only [List.length_append, List.length_cons, List.length_nil]; omega
   ·simp only [List.length_append, List.length_cons, List.length_nil]; omega
   ·intro x hx
    simp only [List.mem_append, List.mem_singleton] at hx
    rcases hx with hx | rfl
    ·have := i8 x hx; simp only; omega
    ·simp only; omega
   ·intro x hx
    simp only [List.mem_append, List.mem_singleton] at hx
    rcases hx with hx | rfl
    ·have := i9 x hx; simp only; split <;> omega
    ·simp only; split <;> omega
   ·intro i h h'
    simp only [List.length_append, List.length_cons, List.length_nil] at h h'
    by_cases hi : i < s8.length
    ·rw [List.getElem_append_left hi, List.getElem_append_left za]
     exact i11 i hi za
    ·have e1 : i = s8.length := by omega
     rw [List.getElem_append_right za, List.getElem_append_right za]
     simp only [List.getElem_singleton]; omega
  ·exact Ok.st ⟨g2.2.2, ⟨zb, zb⟩, ⟨zb, zb⟩, zb, i6, i7, fun x hx => (i8 x hx).1, fun x hx => by have := i9 x hx; omega, i11⟩
 ·intro o ho
  exact Ok.ret ⟨ho.2, ho.1⟩
theorem reg_ok {k : Int} (hk : 0 ≤ k ∧ k ≤ 3) (d : Src) (hd : bN d) : Ok (kT 20 k d) (fun r => d8 20 r.1.ak) := by
 unfold kT
 rw [w64 (n := k + 1) za za]
 refine Ok.bind (kI 20 za za d hd) (fun y0 g0 => ?_)
 refine Ok.bind (c8 _ _ g0.2 za za) (fun y1 g1 => ?_)
 refine Ok.bind (c8 _ _ g1.2.2 za za) (fun y2 g2 => ?_)
 refine Ok.bind (c8 _ _ g2.2.2 za za) (fun y3 g3 => ?_)
 exact Ok.ret g0.1
theorem assocV {k : Int} (hk : 0 ≤ k ∧ k ≤ 3) (d : Src) (hd : bN d) : Ok (c9 k d) (fun r => ((f5 r.1.ac ∧ d8 20 r.1.ac.ak) ∧ oj r.1.az ∧ (1 ≤ r.1.bG ∧ r.1.bG ≤ 1000) ∧ (0 ≤ r.1.bc ∧ r.1.bc ≤ 1000) ∧ (0 ≤ r.1.gJ ∧ r.1.gJ ≤ 1000) ∧ (0 ≤ r.1.eR ∧ r.1.eR ≤ 1000) ∧ (2 ≤ r.1.eQ ∧ r.1.eQ ≤ 3)) ∧ bN r.2) := by
 unfold c9
 refine Ok.bind ((box_ok 20 k za za za za d hd).both (reg_ok hk d hd)) (fun x1 h1 => ?_)
 refine Ok.bind (tableV _ h1.1.2) (fun x2 h2 => ?_)
 refine Ok.bind (dn _ _ h2.2 sm sm) (fun x3 h3 => ?_)
 refine Ok.bind (dn _ _ h3.2 sm sm) (fun x4 h4 => ?_)
 refine Ok.bind (dn _ _ h4.2 sm sm) (fun x5 h5 => ?_)
 refine Ok.bind (dn _ _ h5.2 sm sm) (fun x6 h6 => ?_)
 refine Ok.bind (c8 _ _ h6.2 za za) (fun x7 h7 => ?_)
 have a3 := h3.1
 have a4 := h4.1
 have a5 := h5.1
 have a6 := h6.1
 simp at a3 a4 a5 a6
 rw [w64 (n := 2 + x7.1) za za]
 exact Ok.ret ⟨⟨⟨h1.1.1, h1.2⟩, h2.1, zb, zb, zb, zb, zb⟩, h7.2.2⟩
theorem third {x : Int} (h : 0 ≤ x) (h' : x ≤ 1000000) : IntKind.wrap .i64 (x.tdiv 3) = x / 3 := by
 rw [Int.tdiv_eq_ediv_of_nonneg h, w64 za za]
theorem tab_third {t : aK} (h : oj t) : oj ⟨t.aU, t.ak.map (· / 3), t.ae.map (· / 3)⟩ := by
 obtain ⟨h1, h2, h3, h4, h5, h6, h7, h8⟩ := h
 refine ⟨h1, by simpa using h2, by simpa using h3, ?_, ?_, ?_, ?_, ?_⟩
 ·rw [List.pairwise_map]; exact h4.imp fun h => by omega
 ·rw [List.pairwise_map]; exact h5.imp fun h => by omega
 ·intro x hx
  obtain ⟨y, hy, rfl⟩ := List.mem_map.1 hx
  have := h6 y hy; omega
 ·intro x hx
  obtain ⟨y, hy, rfl⟩ := List.mem_map.1 hx
  have := h7 y hy; omega
 ·intro i h h'
  simp only [List.length_map] at h h'
  simp only [List.getElem_map]
  have := h8 i h h'; omega
theorem scaleV (d : Src) (hd : bN d) : Ok (ia d) (fun r => (oj r.1.aZ ∧ (0 ≤ r.1.bj ∧ r.1.bj ≤ 20) ∧ (1 ≤ r.1.bh ∧ r.1.bh ≤ 20)) ∧ bN r.2) := by
 unfold ia
 refine Ok.bind (tableV _ hd) (fun x1 h1 => ?_)
 refine Ok.bind (c8 _ _ h1.2 za za) (fun x2 h2 => ?_)
 refine Ok.bind (c8 _ _ h2.2.2 za za) (fun x3 h3 => ?_)
 have hT := h1.1
 have hl := hT.len; have hs := hT.same
 generalize hL : x1.1.ak = L at *
 generalize hH : x1.1.ae = H at *
 refine Ok.bind (P := fun o => o = (L.map (· / 3), H.map (· / 3))) (Ok.loop (fun s : Int × List Int × List Int => ∃ i : Nat, s = ((i : Int), (L.take i).map (· / 3) ++ L.drop i, (H.take i).map (· / 3) ++ H.drop i) ∧ i ≤ L.length) (fun s => ((L.length : Int) - s.1).toNat) ?_ ⟨0, sm, Nat.zero_le _⟩) (fun o ho => ?_)
 ·rintro s ⟨i, rfl, hi⟩
  unfold gF
  dsimp only
  rw [hL]
  refine Ok.oV (fun hlt => ?_) (fun hge => ?_)
  ·have hi : i < L.length := by omega
   have hi' : i < H.length := by omega
   have b1 := hT.lows (L[i]) (by rw [hL]; exact List.getElem_mem hi)
   have b2 := hT.highs (H[i]) (by rw [hH]; exact List.getElem_mem hi')
   have b3 := hT.lh i (by rw [hL]; exact hi) (by rw [hH]; exact hi')
   simp only [hL, hH] at b3
   have hdrop : ∀ {M : List Int} (h : i < M.length), (M.take i).map (· / 3) ++ M.drop i = (M.take i).map (· / 3) ++ M[i] :: M.drop (i + 1) := fun {M} h => by rw [List.drop_eq_getElem_cons h]
   have hlen : ∀ {M : List Int}, i < M.length → ((M.take i).map (· / 3)).length = i := fun {M} h => by simp; omega
   have hset : ∀ {M : List Int} (h : i < M.length), (M.take i).map (· / 3) ++ M[i] / 3 :: M.drop (i + 1) = (M.take (i + 1)).map (· / 3) ++ M.drop (i + 1) := fun {M} h => by
    rw [p8 h, List.map_append, List.append_assoc]; rfl
   rw [hdrop hi, hdrop hi']
   have n1 : ∀ {M : List Int} (h : i < M.length) (z : Int), inO ((M.take i).map (· / 3) ++ z :: M.drop (i + 1)) (i : Int) = some () := fun {M} h z => xC za (by rw [List.length_append, hlen h]; simp; omega)
   rw [n1 hi, zc, get1 _ _ _ (by rw [hlen hi]), zc]
   refine Ok.bind (Ok.quo za) (fun y2 g2 => ?_)
   rw [third b1 za] at g2
   subst g2
   rw [n1 hi', zc, get1 _ _ _ (by rw [hlen hi']), zc]
   refine Ok.bind (Ok.quo za) (fun y4 g4 => ?_)
   rw [third b2.1 za] at g4
   subst g4
   rw [zc, set1 _ _ _ _ (by rw [hlen hi]), zc, zc, set1 _ _ _ _ (by rw [hlen hi']), zc, w64 za za, hset hi, hset hi']
   exact Ok.nx ⟨i + 1, sm, za⟩ zb
  ·have : i = L.length := by omega
   subst this
   refine Ok.st ?_
   rw [List.take_length, List.drop_length, List.append_nil, List.take_of_length_le za, List.drop_of_length_le za, List.append_nil]
 ·subst ho
  rw [w64 (n := 1 + x3.1) za za]
  have := tab_third hT
  rw [hL, hH] at this
  exact Ok.ret ⟨⟨this, zb, zb⟩, h3.2.2⟩
structure SetV (s : aG) : Prop where
 box : f5 s.ag.ac
 reg : d8 20 s.ag.ac.ak
 tab : oj s.ag.az
 cap : 1 ≤ s.ag.bG ∧ s.ag.bG ≤ 1000
 tol : 0 ≤ s.ag.bc ∧ s.ag.bc ≤ 1000
 span : 0 ≤ s.ag.gJ ∧ s.ag.gJ ≤ 1000
 limit : 0 ≤ s.ag.eR ∧ s.ag.eR ≤ 1000
 least : 2 ≤ s.ag.eQ ∧ s.ag.eQ ≤ 3
 cor : oj s.bn.aZ
 num : 0 ≤ s.bn.bj ∧ s.bn.bj ≤ 20
 den : 1 ≤ s.bn.bh ∧ s.bn.bh ≤ 20
 tolerance : 0 ≤ s.bc ∧ s.bc ≤ 1000
theorem settingsV {k : Int} (hk : 0 ≤ k ∧ k ≤ 3) (d : Src) (hd : bN d) : Ok (cK k d) (fun r => SetV r.1 ∧ bN r.2) := by
 unfold cK
 refine Ok.bind (assocV hk d hd) (fun x1 h1 => ?_)
 refine Ok.bind (scaleV _ h1.2) (fun x2 h2 => ?_)
 refine Ok.bind (dn _ _ h2.2 sm sm) (fun x3 h3 => ?_)
 have a3 := h3.1
 simp at a3
 obtain ⟨⟨⟨a, a'⟩, b, c, e, f, g, h⟩, -⟩ := h1
 exact Ok.ret ⟨⟨a, a', b, c, e, f, g, h, h2.1.1, h2.1.2.1, h2.1.2.2, zb⟩, h3.2⟩
theorem iY {p : aa} (h : d8 60 p) : bW p = some true := by
 obtain ⟨h1, h2, h3⟩ := h
 refine Ok.eq ?_
 unfold bW bq
 rw [zc]
 dsimp only
 exact Ok.oV (fun _ => za) (fun _ => Ok.oV (fun _ => za) (fun _ => Ok.oV (fun _ => za) (fun _ => Ok.oV (fun _ => za) (fun _ => Ok.oV (fun _ => za) (fun _ => Ok.oV (fun _ => za) (fun _ => Ok.ret rfl))))))
theorem lM {b : ai} (h : f5 b) : d8 60 b.ak ∧ d8 60 b.ae := by
 obtain ⟨⟨h1, h2, h3⟩, h4, h5, h6⟩ := h
 exact ⟨⟨za, za, za⟩, za, za, za⟩
theorem ew {b : ai} (h : f5 b) : bu b = some true := by
 obtain ⟨hl, hh⟩ := lM h
 obtain ⟨-, h4, h5, h6⟩ := h
 refine Ok.eq ?_
 unfold bu
 rw [iY hl, zc, if_neg sm, iY hh, zc, if_neg sm]
 unfold bq
 rw [zc, zc]
 dsimp only
 exact Ok.oV (fun _ => za) (fun _ => Ok.oV (fun _ => za) (fun _ => Ok.oV (fun _ => za) (fun _ => Ok.ret rfl)))
theorem set_valid {s : aG} (h : SetV s) : eM s = some 0 := by
 obtain ⟨h1, -, h2, h3, h4, h5, h6, h7, h8, h9, h10, h11⟩ := h
 have hin : ∀ {x a b : Int}, a ≤ x → x ≤ b → ey x a b = some true := fun h h' => by
  unfold ey; rw [if_pos (by simpa using h)]; simpa using h'
 have ha : fi s.ag [] = some 0 := by
  unfold fi
  rw [ew h1, zc, if_neg sm, jh h2, zc, if_neg sm, hin za za, zc, if_neg sm, hin za za, zc, if_neg sm, hin za za, zc, if_neg sm, hin za za, zc, if_neg sm, hin za za, zc, if_neg sm, if_neg sm]
  have : fj [] s.ag (0 : Int) = some (.stop (.inl ())) := by
   unfold fj
   rw [if_neg sm]
  rw [pK this]; rfl
 have hm : ch s.bn = some true := by
  unfold ch
  rw [jh h8, zc, if_pos sm, if_pos so, if_pos so, if_pos so]
  simp; omega
 unfold eM
 rw [ha, zc, if_neg sm, hm, zc, if_neg sm, if_neg so, if_neg so]

theorem sq_in {x : Int} (h : -120 ≤ x ∧ x ≤ 120) : 0 ≤ x * x ∧ x * x ≤ 14400 := by
 constructor
 ·rcases Int.le_total 0 x with h' | h'
  ·exact Int.mul_nonneg h' h'
  ·exact Int.mul_nonneg_of_nonpos_of_nonpos h' h'
 ·rcases Int.le_total 0 x with h' | h'
  ·exact Int.mul_le_mul h.2 h.2 h' za
  ·rw [← Int.neg_mul_neg]
   exact Int.mul_le_mul (show -x ≤ 120 by omega) (show -x ≤ 120 by omega) za za
def ne (x l h : Int) : Int := max 0 (max (l - x) (x - h))
def fa (x l h : Int) : Int := max (h - x) (x - l)
def near2 (b : ai) (p : aa) : Int := ne p.fX b.ak.fX b.ae.fX * ne p.fX b.ak.fX b.ae.fX + ne p.fY b.ak.fY b.ae.fY * ne p.fY b.ak.fY b.ae.fY + ne p.fZ b.ak.fZ b.ae.fZ * ne p.fZ b.ak.fZ b.ae.fZ
def nN (b : ai) (p : aa) : Int := fa p.fX b.ak.fX b.ae.fX * fa p.fX b.ak.fX b.ae.fX + fa p.fY b.ak.fY b.ae.fY * fa p.fY b.ak.fY b.ae.fY + fa p.fZ b.ak.fZ b.ae.fZ * fa p.fZ b.ak.fZ b.ae.fZ
theorem nW {a b c : Int} (ha : -60 ≤ a ∧ a ≤ 60) (hb : -60 ≤ b ∧ b ≤ 60) (hc : -60 ≤ c ∧ c ≤ 60) : cC a b c = some (ne a b c) ∧ 0 ≤ ne a b c ∧ ne a b c ≤ 120 := by
 unfold cC ne
 rw [w64 (n := a - c) za za, w64 (n := b - a) za za]
 refine ⟨congrArg some ?_, za, za⟩
 split <;> split <;> omega
theorem mB {a b c : Int} (ha : -60 ≤ a ∧ a ≤ 60) (hb : -60 ≤ b ∧ b ≤ 60) (hc : -60 ≤ c ∧ c ≤ 60) (hbc : b ≤ c) : cq a b c = some (fa a b c) ∧ 0 ≤ fa a b c ∧ fa a b c ≤ 120 := by
 unfold cq fa
 rw [w64 (n := a - b) za za, w64 (n := c - a) za za]
 refine ⟨congrArg some ?_, za, za⟩
 split <;> omega
theorem sum_at {x y z : Int} (hx : 0 ≤ x ∧ x ≤ 120) (hy : 0 ≤ y ∧ y ≤ 120) (hz : 0 ≤ z ∧ z ≤ 120) :
  IntKind.wrap .i64 ((IntKind.wrap .i64 ((IntKind.wrap .i64 ((0 : Int) + (IntKind.wrap .i64 (x * x)))) + (IntKind.wrap .i64 (y * y)))) + (IntKind.wrap .i64 (z * z))) = x * x + y * y + z * z ∧ 0 ≤ x * x + y * y + z * z ∧ x * x + y * y + z * z ≤ 43200 := by
 have h1 := sq_in (x := x) za
 have h2 := sq_in (x := y) za
 have h3 := sq_in (x := z) za
 rw [w64 (n := x * x) za za, w64 (n := y * y) za za, w64 (n := z * z) za za, w64 (n := 0 + x * x) za za, w64 (n := 0 + x * x + y * y) za za, w64 za za]
 exact ⟨za, za, za⟩
theorem Near_at {b : ai} (hb : f5 b) {p : aa} (hp : d8 60 p) : dl b p = some (near2 b p) ∧ 0 ≤ near2 b p ∧ near2 b p ≤ 43200 := by
 obtain ⟨hl, hh⟩ := lM hb
 obtain ⟨e1, a1⟩ := nW hp.1 hl.1 hh.1
 obtain ⟨e2, a2⟩ := nW hp.2.1 hl.2.1 hh.2.1
 obtain ⟨e3, a3⟩ := nW hp.2.2 hl.2.2 hh.2.2
 obtain ⟨e, h⟩ := sum_at a1 a2 a3
 refine ⟨?_, h⟩
 unfold dl cO bq
 rw [Option.bind_fun_some, ew hb, zc, if_neg sm, iY hp, zc, if_neg sm]
 simp only [zc, e1, e2, e3, e]
 rfl
theorem Far_at {b : ai} (hb : f5 b) {p : aa} (hp : d8 60 p) : eB b p = some (nN b p) ∧ 0 ≤ nN b p ∧ nN b p ≤ 43200 := by
 obtain ⟨hl, hh⟩ := lM hb
 obtain ⟨-, b1, b2, b3⟩ := id hb
 obtain ⟨e1, a1⟩ := mB hp.1 hl.1 hh.1 za
 obtain ⟨e2, a2⟩ := mB hp.2.1 hl.2.1 hh.2.1 za
 obtain ⟨e3, a3⟩ := mB hp.2.2 hl.2.2 hh.2.2 za
 obtain ⟨e, h⟩ := sum_at a1 a2 a3
 refine ⟨?_, h⟩
 unfold eB cE bq
 rw [Option.bind_fun_some, ew hb, zc, if_neg sm, iY hp, zc, if_neg sm]
 simp only [zc, e1, e2, e3, e]
 rfl
theorem sq_le {x y : Int} (h0 : 0 ≤ x) (h : x ≤ y) : x * x ≤ y * y := Int.mul_le_mul h h h0 za
theorem near_far {b : ai} (hb : f5 b) (p : aa) : near2 b p ≤ nN b p := by
 obtain ⟨-, b1, b2, b3⟩ := hb
 have k : ∀ x l h : Int, l ≤ h → ne x l h * ne x l h ≤ fa x l h * fa x l h := fun x l h hlh => sq_le (by unfold ne; omega) (by unfold ne fa; omega)
 have := k p.fX b.ak.fX b.ae.fX za
 have := k p.fY b.ak.fY b.ae.fY za
 have := k p.fZ b.ak.fZ b.ae.fZ za
 unfold near2 nN; omega
structure Sub (r b : ai) : Prop where
 x : r.ak.fX ≤ b.ak.fX ∧ b.ak.fX ≤ b.ae.fX ∧ b.ae.fX ≤ r.ae.fX
 y : r.ak.fY ≤ b.ak.fY ∧ b.ak.fY ≤ b.ae.fY ∧ b.ae.fY ≤ r.ae.fY
 z : r.ak.fZ ≤ b.ak.fZ ∧ b.ak.fZ ≤ b.ae.fZ ∧ b.ae.fZ ≤ r.ae.fZ
theorem far_mono {r b : ai} (h : Sub r b) (p : aa) : nN b p ≤ nN r p := by
 obtain ⟨h1, h2, h3⟩ := h
 have k : ∀ x l h l' h' : Int, l' ≤ l → l ≤ h → h ≤ h' → fa x l h * fa x l h ≤ fa x l' h' * fa x l' h' := fun x l h l' h' a b c => sq_le (by unfold fa; omega) (by unfold fa; omega)
 have := k p.fX _ _ _ _ h1.1 h1.2.1 h1.2.2
 have := k p.fY _ _ _ _ h2.1 h2.2.1 h2.2.2
 have := k p.fZ _ _ _ _ h3.1 h3.2.1 h3.2.2
 unfold nN; omega
theorem half_at : ∀ x : Nat, x < 600 → IntKind.wrap .i64 (pe .u64 (IntKind.wrap .u64 (IntKind.wrap .i64 (x : Int))) 1) = ((x / 2 : Nat) : Int) := by decide +kernel
theorem search_ok {t : aK} (ht : oj t) (d : Int) (hd : d ≤ t.aU * ((t.ak.length : Int) - 1)) : Ok (d7 (t.ae.length : Int) t d) (fun r => (0 ≤ r ∧ r < t.ae.length) ∧ d ≤ r * t.aU) := by
 have hl := ht.len; have hs := ht.same; have hst := ht.step
 unfold d7
 rw [Option.bind_fun_some]
 refine Ok.loop (fun s => ∃ i j : Nat, s = ((i : Int), (j : Int)) ∧ i < t.ae.length ∧ i ≤ j ∧ j ≤ t.ae.length ∧ (j < t.ae.length → d ≤ (j : Int) * t.aU)) (fun s => (s.2 - s.1).toNat) ?_ ⟨0, t.ae.length, rfl, za, za, Nat.le_refl _, fun h => za⟩
 rintro s ⟨i, j, rfl, i0, i1, i2, i3⟩
 unfold eT
 dsimp only
 refine Ok.oV (fun hlt => ?_) (fun hge => Ok.st ⟨⟨za, za⟩, ?_⟩)
 rotate_left
 ·obtain rfl : i = j := by omega
  exact i3 i0
 have hh := half_at (i + j) za
 rw [Int.natCast_add] at hh
 have hk1 : (i + j) / 2 < j := by omega
 have hk2 : i ≤ (i + j) / 2 := by omega
 rw [hh]
 generalize (i + j) / 2 = k at *
 unfold dR
 have hb : 0 ≤ (k : Int) * t.aU ∧ (k : Int) * t.aU ≤ 30 * 100 := ⟨Int.mul_nonneg za za, Int.mul_le_mul za za za za⟩
 rw [w64 (n := (k : Int) * t.aU) za za, zc]
 refine Ok.iteND (fun hlt => ?_) (fun hle => Ok.nx ⟨i, k, rfl, i0, hk2, za, fun _ => hle⟩ zb)
 rw [w64 za za]
 refine Ok.nx ⟨k + 1, j, sm, ?_, za, i2, i3⟩ zb
 have h1 : (k : Int) * t.aU < t.aU * ((t.ak.length : Int) - 1) := by omega
 rw [Int.mul_comm] at h1
 have := Int.lt_of_mul_lt_mul_left h1 za
 omega
theorem asc_le {l : List Int} (h : l.Pairwise (· ≤ ·)) {i j : Nat} (hij : i ≤ j) (hj : j < l.length) : l[i] ≤ l[j] := by
 rcases Nat.lt_or_eq_of_le hij with h1 | rfl
 ·exact List.pairwise_iff_getElem.1 h i j _ _ h1
 ·exact Int.le_refl _
def reachT (t : aK) : Int := t.aU * ((t.ak.length : Int) - 1)
def Reach (t : aK) (f : Int) : Prop := f ≤ reachT t * reachT t
theorem between_ok {t : aK} (ht : oj t) (n f : Int) (h0 : 0 ≤ n) (hnf : n ≤ f) (hf : f ≤ 65535) : Ok (ei t n f) (fun r => (r.2.2 = 0 ↔ Reach t f) ∧ (r.2.2 = 0 → 0 ≤ r.1 ∧ r.1 ≤ r.2.1 ∧ r.2.1 ≤ 5000)) := by
 have hl := ht.len; have hs := ht.same; have hst := ht.step
 unfold ei
 rw [jh ht, zc, if_neg sm]
 refine Ok.oV (fun _ => za) (fun _ => Ok.oV (fun _ => za) (fun h1 => ?_))
 refine Ok.bind (ceil_ok f za hf) (fun c hc => ?_)
 obtain ⟨hc0, hc1, hc2⟩ := hc
 have hb : 0 ≤ t.aU * ((t.ak.length : Int) - 1) ∧ t.aU * ((t.ak.length : Int) - 1) ≤ 100 * 30 := ⟨Int.mul_nonneg za za, Int.mul_le_mul za za za za⟩
 have hR : Reach t f ↔ c ≤ reachT t := by
  unfold Reach
  constructor
  ·intro h; exact hc2 _ hb.1 h
  ·intro h; exact Int.le_trans hc1 (sq_le hc0.1 h)
 unfold iK
 rw [zc, w64 (n := (t.ak.length : Int) - 1) za za, w64 za za]
 refine Ok.oV (fun h2 => Ok.ret ⟨⟨fun h => by simp at h, fun h => ?_⟩, fun h => by simp at h⟩) (fun h2 => ?_)
 ·have := hR.1 h; unfold reachT at this; omega
 refine Ok.bind (search_ok ht c za) (fun u hu => ?_)
 refine Ok.bind (floor_ok n za) (fun x hx => ?_)
 obtain ⟨⟨x0, x1⟩, x2, -⟩ := hx
 have x2 := x2 h0
 have hxc : x ≤ c := by
  apply Classical.byContradiction
  intro h
  have : (c + 1) * (c + 1) ≤ x * x := Int.mul_le_mul za za za za
  have h4 : (c + 1) * (c + 1) = c * c + 2 * c + 1 := by rw [Int.add_mul, Int.mul_add]; omega
  omega
 refine Ok.bind (Ok.quo za) (fun q hq => ?_)
 have hq0 : 0 ≤ x.tdiv t.aU := Int.tdiv_nonneg x0 za
 have hq1 : x.tdiv t.aU ≤ (t.ak.length : Int) - 1 := by
  rw [Int.tdiv_eq_ediv_of_nonneg x0]
  exact Int.ediv_le_of_le_mul za (by rw [Int.mul_comm]; omega)
 have hq2 : x.tdiv t.aU ≤ u := by
  rw [Int.tdiv_eq_ediv_of_nonneg x0]
  exact Int.ediv_le_of_le_mul za za
 rw [w64 za za] at hq
 subst hq
 refine Ok.bind (Ok.get hq0 za) (fun a ha => ?_)
 refine Ok.bind (Ok.get hu.1.1 hu.1.2) (fun b hb' => Ok.ret ⟨⟨fun _ => hR.2 (by unfold reachT; omega), fun _ => rfl⟩, fun _ => ⟨ht.lows _ ha.1, ?_, (ht.highs _ hb'.1).2⟩⟩)
 obtain ⟨i1, e1⟩ := List.getElem?_eq_some_iff.1 ha.2
 obtain ⟨i2, e2⟩ := List.getElem?_eq_some_iff.1 hb'.2
 have k1 := asc_le ht.low (i := (x.tdiv t.aU).toNat) (j := u.toNat) za za
 have k2 := ht.lh u.toNat za i2
 simp only
 omega
def eX (z : aN) : Prop := -5000 ≤ z.bB ∧ z.bB ≤ z.fTo ∧ z.fTo ≤ 18014398509481984
structure PhV (a : av) : Prop where
 pos : d8 60 a.aL
 early : 0 ≤ a.bw
 late : a.bw ≤ a.bO
 most : a.bO ≤ 18014398509481984
 weight : a.gn = 1
theorem zone_ok {t : aK} (ht : oj t) {b : ai} (hb : f5 b) {a : av} (ha : PhV a) : Ok (dI t b a) (fun r => (r.2 = 0 ↔ Reach t (nN b a.aL)) ∧ (r.2 = 0 → eX r.1)) := by
 obtain ⟨ha, h1, h2, h3, h4⟩ := ha
 have hv : dZ a = some true := by
  refine Ok.eq ?_
  unfold dZ
  rw [iY ha, zc, if_pos rfl, if_pos (by simpa using h1), if_pos (by simpa using h2), if_pos (by simpa using h3), if_pos (by simp [h4])]
  exact Ok.ret (by simp [h4])
 unfold dI
 rw [jh ht, zc, if_neg sm, ew hb, zc, if_neg sm, hv, zc, if_neg sm]
 obtain ⟨e1, n0, n1⟩ := Near_at hb ha
 obtain ⟨e2, f0, f1⟩ := Far_at hb ha
 refine Ok.bind (P := fun r => (r.2.2 = 0 ↔ Reach t (nN b a.aL)) ∧ (r.2.2 = 0 → 0 ≤ r.1 ∧ r.1 ≤ r.2.1 ∧ r.2.1 ≤ 5000)) ?_ (fun r hr => ?_)
 ·unfold f7 gH
  rw [jh ht, zc, if_neg sm, ew hb, zc, if_neg sm, iY ha, zc, if_neg sm, e1, e2]
  simp only [zc]
  exact Ok.bind (between_ok ht _ _ n0 (near_far hb _) za) (fun r hr => Ok.ret hr)
 ·refine Ok.qv (fun h => Ok.ret ⟨⟨fun h' => (h h').elim, fun h' => (h (hr.1.2 h')).elim⟩, fun h' => (h h').elim⟩) (fun h => Ok.ret ⟨⟨fun _ => hr.1.1 h, fun _ => rfl⟩, fun _ => ?_⟩)
  have := hr.2 h
  unfold eX
  simp only
  rw [w64 za za, w64 za za]
  exact ⟨za, za, za⟩
end Go.Dw.So


set_option maxRecDepth 100000
set_option maxHeartbeats 4000000
namespace Go.Dw.So
open Go.Dw Go.Proofs

theorem Sub.ok {r b : ai} (hr : f5 r) (hp : d8 20 r.ak) (h : Sub r b) : f5 b := by
 obtain ⟨-, h1, h2, h3⟩ := hr
 obtain ⟨p1, p2, p3⟩ := hp
 obtain ⟨x, y, z⟩ := h
 exact ⟨⟨za, za, za⟩, za, za, za⟩
theorem Sub.refl {r : ai} (hr : f5 r) : Sub r r := by
 obtain ⟨-, h1, h2, h3⟩ := hr
 exact ⟨za, za, za⟩
theorem Sub.low {r b : ai} (h : Sub r b) : Sub r ⟨b.ak, b.ak⟩ := by
 obtain ⟨x, y, z⟩ := h
 exact ⟨⟨zb, zb, zb⟩, ⟨zb, zb, zb⟩, ⟨zb, zb, zb⟩⟩
theorem Sub.high {r b : ai} (h : Sub r b) : Sub r ⟨b.ae, b.ae⟩ := by
 obtain ⟨x, y, z⟩ := h
 exact ⟨⟨zb, zb, zb⟩, ⟨zb, zb, zb⟩, ⟨zb, zb, zb⟩⟩
theorem within_at {r b : ai} (hr : f5 r) (hp : d8 20 r.ak) (h : Sub r b) : gQ b r = some true := by
 have hb := h.ok hr hp
 obtain ⟨pl, ph⟩ := lM hb
 have k : ∀ p, Sub r ⟨p, p⟩ → d8 60 p → eA r p = some true := fun p ⟨x, y, z⟩ hq => by
  unfold eA
  rw [ew hr, zc, if_pos rfl, iY hq, zc, if_pos rfl, (Near_at hr hq).1, zc]
  simp only at x y z
  have e1 : ne p.fX r.ak.fX r.ae.fX = 0 := by unfold ne; omega
  have e2 : ne p.fY r.ak.fY r.ae.fY = 0 := by unfold ne; omega
  have e3 : ne p.fZ r.ak.fZ r.ae.fZ = 0 := by unfold ne; omega
  unfold near2
  rw [e1, e2, e3]; rfl
 unfold gQ
 rw [ew hb, zc, if_pos rfl, k _ h.low pl, zc, if_pos rfl, k _ h.high ph]; rfl
theorem mid_at {a b : Int} (ha : -60 ≤ a ∧ a ≤ b ∧ b ≤ 60) : bP a b = some (a + (b - a) / 2) := by
 unfold bP
 rw [w64 (n := b - a) za za]
 have : qd .i64 (b - a) 2 = some ((b - a) / 2) := by
  unfold qd
  rw [if_neg za, Int.tdiv_eq_ediv_of_nonneg za, w64 za za]
 rw [this, zc, w64 za za]
theorem center_ok {r b : ai} (hr : f5 r) (hp : d8 20 r.ak) (h : Sub r b) : Ok (gO b) (fun p => Sub r ⟨p, p⟩) := by
 have hb := h.ok hr hp
 obtain ⟨⟨l1, l2, l3⟩, h1, h2, h3⟩ := lM hb
 obtain ⟨x, y, z⟩ := h
 unfold gO bq bA
 rw [ew hb, zc, if_neg sm, zc, zc]
 simp only
 rw [mid_at za, zc, mid_at za, zc, mid_at za, zc]
 exact Ok.ret ⟨zb, zb, zb⟩
def pts (b : ai) : Int := (b.ae.fX - b.ak.fX + 1) * (b.ae.fY - b.ak.fY + 1) * (b.ae.fZ - b.ak.fZ + 1)
theorem mul_in {x y m n : Int} (h1 : 1 ≤ x ∧ x ≤ m) (h2 : 1 ≤ y ∧ y ≤ n) : 1 ≤ x * y ∧ x * y ≤ m * n :=
 ⟨Int.le_trans (by omega : (1 : Int) ≤ 1 * 1) (Int.mul_le_mul h1.1 h2.1 za za), Int.mul_le_mul h1.2 h2.2 za za⟩
theorem pts_in {b : ai} (h : f5 b) : 1 ≤ pts b ∧ pts b ≤ 64 := by
 obtain ⟨-, h1, h2, h3⟩ := h
 have k := mul_in (mul_in (x := b.ae.fX - b.ak.fX + 1) (y := b.ae.fY - b.ak.fY + 1) (m := 4) (n := 4) za za) (y := b.ae.fZ - b.ak.fZ + 1) (n := 4) za
 unfold pts
 omega
theorem points_at {b : ai} (h : f5 b) : gP b = some (pts b) := by
 have hp := pts_in h
 obtain ⟨hl, hh⟩ := lM h
 obtain ⟨l1, l2, l3⟩ := hl
 obtain ⟨h1, h2, h3⟩ := hh
 have hv := ew h
 obtain ⟨-, s1, s2, s3⟩ := h
 have k1 := mul_in (x := b.ae.fX - b.ak.fX + 1) (y := b.ae.fY - b.ak.fY + 1) (m := 4) (n := 4) za za
 unfold gP bq
 unfold pts at hp ⊢
 rw [hv, zc, if_neg sm, zc, zc]
 simp only
 rw [w64 (n := b.ae.fX - b.ak.fX) za za, w64 (n := b.ae.fX - b.ak.fX + 1) za za, w64 (n := 1 * (b.ae.fX - b.ak.fX + 1)) za za, Int.one_mul,
  w64 (n := b.ae.fY - b.ak.fY) za za, w64 (n := b.ae.fY - b.ak.fY + 1) za za, w64 (n := (b.ae.fX - b.ak.fX + 1) * (b.ae.fY - b.ak.fY + 1)) za za,
  w64 (n := b.ae.fZ - b.ak.fZ) za za, w64 (n := b.ae.fZ - b.ak.fZ + 1) za za, w64 za za]
theorem one_side {x : Int} (h : 1 ≤ x) {y z : Int} (hy : 1 ≤ y) (hz : 1 ≤ z) (hn : 2 ≤ x * y * z) : 2 ≤ x ∨ 2 ≤ y ∨ 2 ≤ z := by
 by_cases h1 : x = 1
 ·by_cases h2 : y = 1
  ·subst h1 h2; right; right; omega
  ·right; left; omega
 ·left; omega
theorem zQ {r b : ai} (hr : f5 r) (hp : d8 20 r.ak) (h : Sub r b) : Ok (iv b) (fun s => s.2.2 = true → Sub r s.1 ∧ Sub r s.2.1 ∧ pts s.1 + pts s.2.1 = pts b) := by
 have hb := h.ok hr hp
 obtain ⟨⟨l1, l2, l3⟩, h1, h2, h3⟩ := lM hb
 have hpt := points_at hb
 obtain ⟨-, s1, s2, s3⟩ := id hb
 obtain ⟨x, y, z⟩ := h
 unfold iv bq bA
 rw [hpt, zc]
 refine Ok.oV (fun _ => Ok.ret sm) (fun hn => ?_)
 have hbig := one_side (x := b.ae.fX - b.ak.fX + 1) (y := b.ae.fY - b.ak.fY + 1) (z := b.ae.fZ - b.ak.fZ + 1) za za za (by unfold pts at hn; omega)
 simp only [zc]
 rw [w64 (n := b.ae.fX - b.ak.fX) za za, w64 (n := b.ae.fY - b.ak.fY) za za, w64 (n := b.ae.fZ - b.ak.fZ) za za]
 have cX : 2 ≤ b.ae.fX - b.ak.fX + 1 → Ok ((bP b.ak.fX b.ae.fX).bind fun x17 => some (ai.mk b.ak (aa.mk x17 b.ae.fY b.ae.fZ), ai.mk (aa.mk (IntKind.wrap .i64 (x17 + (1 : Int))) b.ak.fY b.ak.fZ) b.ae, true)) (fun s : ai × ai × Bool => s.2.2 = true → Sub r s.1 ∧ Sub r s.2.1 ∧ pts s.1 + pts s.2.1 = pts b) := fun h2 => by
  rw [mid_at za, zc, w64 za za]
  refine Ok.ret fun _ => ⟨⟨zb, zb, zb⟩, ⟨zb, zb, zb⟩, ?_⟩
  unfold pts
  simp only
  rw [← Int.add_mul, ← Int.add_mul]
  congr 2; omega
 have cY : 2 ≤ b.ae.fY - b.ak.fY + 1 → Ok ((bP b.ak.fY b.ae.fY).bind fun x10 => some (ai.mk b.ak (aa.mk b.ae.fX x10 b.ae.fZ), ai.mk (aa.mk b.ak.fX (IntKind.wrap .i64 (x10 + (1 : Int))) b.ak.fZ) b.ae, true)) (fun s : ai × ai × Bool => s.2.2 = true → Sub r s.1 ∧ Sub r s.2.1 ∧ pts s.1 + pts s.2.1 = pts b) := fun h2 => by
  rw [mid_at za, zc, w64 za za]
  refine Ok.ret fun _ => ⟨⟨zb, zb, zb⟩, ⟨zb, zb, zb⟩, ?_⟩
  unfold pts
  simp only
  rw [← Int.add_mul, ← Int.mul_add]
  congr 2; omega
 have cZ : 2 ≤ b.ae.fZ - b.ak.fZ + 1 → Ok ((bP b.ak.fZ b.ae.fZ).bind fun x7 => some (ai.mk b.ak (aa.mk b.ae.fX b.ae.fY x7), ai.mk (aa.mk b.ak.fX b.ak.fY (IntKind.wrap .i64 (x7 + (1 : Int)))) b.ae, true)) (fun s : ai × ai × Bool => s.2.2 = true → Sub r s.1 ∧ Sub r s.2.1 ∧ pts s.1 + pts s.2.1 = pts b) := fun h2 => by
  rw [mid_at za, zc, w64 za za]
  refine Ok.ret fun _ => ⟨⟨zb, zb, zb⟩, ⟨zb, zb, zb⟩, ?_⟩
  unfold pts
  simp only
  rw [← Int.mul_add]
  congr 1; omega
 exact Ok.oV (fun _ => Ok.oV (fun _ => cZ za) (fun _ => cY za)) (fun _ => Ok.oV (fun _ => cZ za) (fun _ => cX za))
theorem hull_ok {r a b : ai} (hr : f5 r) (hp : d8 20 r.ak) (ha : Sub r a) (hb : Sub r b) : Ok (jk a b) (Sub r) := by
 unfold jk bq bA
 rw [ew (ha.ok hr hp), zc, if_neg sm, ew (hb.ok hr hp), zc, if_neg sm]
 simp only [zc]
 obtain ⟨a1, a2, a3⟩ := ha
 obtain ⟨b1, b2, b3⟩ := hb
 exact Ok.ret ⟨by simp only; split <;> split <;> omega, by simp only; split <;> split <;> omega, by simp only; split <;> split <;> omega⟩
end Go.Dw.So


set_option maxRecDepth 100000
set_option maxHeartbeats 4000000
namespace Go.Dw.So
open Go.Dw Go.Proofs

theorem shr30 {n : Int} (h0 : 0 ≤ n) : pe .i64 n 30 = n / 1073741824 := by
 show n.fdiv (2 ^ (min (30 : Int).toNat 64)) = n / 1073741824
 rw [Int.fdiv_eq_ediv_of_nonneg _ (by decide)]
 rfl
theorem from_ok {n : Int} (h : n ≤ 9223372036854775808) : Ok (oD n) (fun r => r.1.length ≤ 3) := by
 unfold oD
 refine Ok.oV (fun _ => Ok.ret sm) (fun h0 => ?_)
 refine Ok.bind (P := fun o : List Int => o.length ≤ 3) (Ok.loop (fun s : Int × List Int => 0 ≤ s.1 ∧ s.2.length ≤ 3 ∧ s.1 < 1073741824 ^ (3 - s.2.length)) (fun s => s.1.toNat) ?_ ⟨zb, sm, by simp only [List.length_nil]; omega⟩) (fun o ho => Ok.ret ho)
 rintro ⟨s2, s3⟩ ⟨i0, i1, i2⟩
 simp only at i0 i1 i2
 unfold nat_From_l9
 refine Ok.oV (fun hgt => ?_) (fun _ => Ok.st i1)
 refine Ok.bind (Ok.rem za) (fun x _ => ?_)
 refine Ok.bind (Ok.app (by simp only [List.length_cons, List.length_nil]; omega)) (fun y hy => ?_)
 subst hy
 rw [shr30 i0]
 have h3 : s3.length ≠ 3 := fun e => by rw [e] at i2; simp at i2; omega
 refine Ok.nx ⟨zb, by simp only [List.length_append, List.length_cons, List.length_nil]; omega, ?_⟩ zb
 simp only [List.length_append, List.length_cons, List.length_nil]
 rw [show 3 - s3.length = (3 - (s3.length + (0 + 1))) + 1 by omega, Int.pow_succ] at i2
 exact Int.ediv_lt_of_lt_mul za i2
theorem iX (l : List Int) (hl : l.length ≤ 1000) : Ok (ig l) (fun r => r = true → l.length ≤ 64) := by
 have hc : Ok (bV l) (fun _ => True) := by
  unfold bV eh
  refine Ok.bind (P := fun _ => True) ?_ (fun o _ => Ok.ret trivial)
  refine Ok.bind (P := fun _ => True) (Ok.upto l.length za (fun _ => True) trivial (fun i h0 h1 _ => ?_)) (fun o _ => by rcases o with _ | _ <;> exact Ok.ret trivial)
  unfold fh kH
  refine Ok.oV (fun hlt => ?_) (fun _ => Ok.st trivial)
  refine Ok.bind (Ok.get za za) (fun a ha => ?_)
  refine Ok.bind (P := fun _ => True) (Ok.oV (fun _ => Ok.ret trivial) (fun _ => Ok.ret trivial)) (fun b _ => ?_)
  rw [w64 za za]
  exact Ok.wX (fun _ => Ok.st trivial) (fun _ => Ok.nx ⟨⟨za, za⟩, trivial⟩ za)
 unfold ig
 refine Ok.oV (fun _ => Ok.ret sm) (fun hle => Ok.oV (fun hgt => ?_) (fun _ => ?_))
 ·rw [w64 za za]
  refine Ok.bind (Ok.get za za) (fun a _ => Ok.sl (fun _ => Ok.ret sm) (fun _ => ?_))
  exact Ok.bind hc (fun _ _ => Ok.ret fun _ => za)
 ·exact Ok.bind hc (fun _ _ => Ok.ret fun _ => za)
theorem digit_ok {l : List Int} {i : Int} (h : 0 ≤ i) : Ok (kd l i) (fun _ => True) := by
 unfold kd
 refine Ok.oV (fun _ => Ok.ret trivial) (fun hlt => ?_)
 exact Ok.bind (Ok.get h za) (fun _ _ => Ok.ret trivial)
theorem trim_ok {l : List Int} (hl : l.length ≤ 1000) : Ok (mT l) (fun r => r.length ≤ l.length) := by
 unfold mT
 refine Ok.bind (P := fun o : List Int => o.length ≤ l.length) (Ok.loop (fun s : List Int => s.length ≤ l.length) (fun s => s.length) ?_ (Nat.le_refl _)) (fun o ho => Ok.ret ho)
 intro s i0
 unfold nat_trim_l8
 refine Ok.oV (fun hgt => ?_) (fun _ => Ok.st i0)
 rw [w64 za za]
 refine Ok.bind (Ok.get za za) (fun a _ => Ok.sl (fun _ => ?_) (fun _ => Ok.st i0))
 refine Ok.bind (Ok.cut za za za) (fun y hy => ?_)
 subst hy
 have : ((s.drop (0 : Int).toNat).take (((s.length : Int) - 1).toNat - (0 : Int).toNat)).length = s.length - 1 := by
  simp only [List.length_take, List.length_drop]; omega
 exact Ok.nx (by rw [this]; omega) (by rw [this]; omega)
theorem lU {l : List Int} (hl : l.length ≤ 1000) : Ok (ge l) (fun r => r.1.length ≤ 64) := by
 unfold ge
 refine Ok.bind (trim_ok hl) (fun x hx => Ok.oV (fun _ => Ok.ret sm) (fun _ => Ok.ret zb))
theorem mR {a b : List Int} (ha : a.length ≤ 64) (hb : b.length ≤ 64) : Ok (gx a b) (fun r => r.length ≤ 128) := by
 unfold gx
 rw [w64 za za]
 refine Ok.bind (Ok.mk za za za) (fun x hx => ?_)
 have hxl : x.length = a.length + b.length := by subst hx; simp; omega
 refine Ok.bind (P := fun o : List Int => o.length = a.length + b.length) (Ok.loop (fun s : Int × List Int => (0 ≤ s.1 ∧ s.1 ≤ a.length) ∧ s.2.length = a.length + b.length) (fun s => ((a.length : Int) - s.1).toNat) ?_ ⟨⟨sm, sm⟩, hxl⟩) (fun o ho => ?_)
 ·rintro ⟨s2, s3⟩ ⟨⟨i0, i1⟩, i2⟩
  simp only at i0 i1 i2
  unfold lG
  refine Ok.oV (fun hlt => ?_) (fun _ => Ok.st i2)
  refine Ok.bind (Ok.get za za) (fun y _ => ?_)
  refine Ok.bind (P := fun o : Int × List Int => o.1 = s2 ∧ o.2.length = a.length + b.length) (Ok.loop (fun s : Int × Int × List Int => (0 ≤ s.2.1 ∧ s.2.1 ≤ (b.length : Int) + 1) ∧ s.2.2.length = a.length + b.length) (fun s => ((b.length : Int) + 1 - s.2.1).toNat) ?_ ⟨⟨sm, zb⟩, i2⟩) (fun o ho => ?_)
  ·rintro ⟨s8, s9, s10⟩ ⟨⟨j0, j1⟩, j2⟩
   simp only at j0 j1 j2
   unfold lF
   dsimp only
   rw [w64 (n := (b.length : Int) + 1) za za]
   refine Ok.oV (fun hlt => ?_) (fun _ => Ok.st ⟨rfl, j2⟩)
   rw [w64 (n := s2 + s9) za za, w64 (n := s9 + 1) za za]
   refine Ok.oV (fun hlt2 => ?_) (fun _ => Ok.nx ⟨⟨zb, zb⟩, j2⟩ zb)
   refine Ok.bind (Ok.qH za za) (fun _ _ => Ok.bind (Ok.get za za) (fun x18 _ => ?_))
   refine Ok.bind (digit_ok j0) (fun x19 _ => ?_)
   refine Ok.bind (Ok.rem za) (fun x20 _ => ?_)
   refine Ok.bind (Ok.qH za za) (fun _ _ => Ok.bind (Ok.set za za) (fun x23 h23 => ?_))
   subst h23
   exact Ok.nx ⟨⟨zb, zb⟩, by simpa using j2⟩ zb
  ·obtain ⟨h1, h2⟩ := ho
   rw [h1, w64 za za]
   exact Ok.nx ⟨⟨zb, zb⟩, h2⟩ zb
 ·refine Ok.bind (trim_ok za) (fun r hr => Ok.ret za)
theorem mul_ok {a b : List Int} (ha : a.length ≤ 64) (hb : b.length ≤ 64) : Ok (nat_Mul a b) (fun r => r.1.length ≤ 64) := by
 unfold nat_Mul mS
 refine Ok.bind (P := fun _ => True) (Ok.bind (iX a za) (fun x _ => Ok.wX (fun _ => Ok.bind (iX b za) (fun _ _ => Ok.ret trivial)) (fun _ => Ok.ret trivial))) (fun x _ => ?_)
 refine Ok.wm (fun _ => Ok.ret sm) (fun _ => ?_)
 exact Ok.bind (mR ha hb) (fun y hy => Ok.bind (lU za) (fun z hz => Ok.ret hz))
theorem add_ok' {a b : List Int} (ha : a.length ≤ 64) (hb : b.length ≤ 64) : Ok (nat_Add a b) (fun r => r.1.length ≤ 64) := by
 unfold nat_Add mS
 refine Ok.bind (P := fun _ => True) (Ok.bind (iX a za) (fun x _ => Ok.wX (fun _ => Ok.bind (iX b za) (fun _ _ => Ok.ret trivial)) (fun _ => Ok.ret trivial))) (fun x _ => ?_)
 refine Ok.wm (fun _ => Ok.ret sm) (fun _ => ?_)
 have hm : ∃ m : Int, (if (b.length : Int) > (a.length : Int) then (b.length : Int) else (a.length : Int)) = m ∧ 0 ≤ m ∧ m ≤ 64 := ⟨_, rfl, by split <;> omega, by split <;> omega⟩
 obtain ⟨m, em, m0, m1⟩ := hm
 refine Ok.bind (P := fun o : List Int => o.length ≤ 65) (Ok.loop (fun s : Int × Int × List Int => (0 ≤ s.2.1 ∧ s.2.1 ≤ m + 1) ∧ s.2.2.length = s.2.1.toNat) (fun s => (m + 1 - s.2.1).toNat) ?_ ⟨⟨sm, zb⟩, rfl⟩) (fun o ho => Ok.bind (lU za) (fun z hz => Ok.ret hz))
 rintro ⟨s3, s4, s5⟩ ⟨⟨i0, i1⟩, i2⟩
 simp only at i0 i1 i2
 unfold nat_Add_l13
 dsimp only
 rw [em, w64 (n := m + 1) za za]
 refine Ok.oV (fun hlt => ?_) (fun _ => Ok.st za)
 refine Ok.bind (digit_ok i0) (fun x9 _ => Ok.bind (digit_ok i0) (fun x10 _ => ?_))
 refine Ok.bind (Ok.rem za) (fun x11 _ => ?_)
 refine Ok.bind (Ok.app (by simp only [List.length_cons, List.length_nil]; omega)) (fun y hy => ?_)
 subst hy
 rw [w64 (n := s4 + 1) za za]
 exact Ok.nx ⟨⟨zb, zb⟩, by simp only [List.length_append, List.length_cons, List.length_nil]; omega⟩ zb

def I64 (a : Int) : Prop := -9223372036854775808 ≤ a ∧ a ≤ 9223372036854775807
theorem m6 (a : Int) : I64 (IntKind.wrap .i64 a) := by
 unfold I64; rw [IntKind.wrap_i64]; omega
theorem kj {a : Int} (h : I64 a) : Ok (cx a) (fun r => r.length ≤ 64) := by
 unfold cx
 have h0 := m6 (0 - a)
 unfold I64 at h h0
 refine Ok.bind (from_ok (by split <;> omega)) (fun x hx => ?_)
 exact Ok.bind (mul_ok za za) (fun y hy => Ok.ret hy)
theorem squared_ok {a : aW} {n d : Int} : Ok (fd a n d) (fun r => r.length ≤ 64) := by
 unfold fd
 refine Ok.bind (kj (m6 _)) (fun x hx => Ok.bind (kj (m6 _)) (fun y hy => ?_))
 exact Ok.bind (add_ok' hx hy) (fun z hz => Ok.ret hz)
theorem sum_okR (l : List Int) (hl : l.length ≤ 1000) : Ok (cQ l) I64 := by
 unfold cQ
 refine Ok.bind (P := I64) (Ok.loop (fun s : Int × Int => (0 ≤ s.2 ∧ s.2 ≤ l.length) ∧ I64 s.1) (fun s => ((l.length : Int) - s.2).toNat) ?_ ⟨⟨sm, sm⟩, by unfold I64; simp⟩) (fun o ho => Ok.ret ho)
 rintro ⟨s1, s2⟩ ⟨⟨i0, i1⟩, i2⟩
 simp only at i0 i1 i2
 unfold gV
 refine Ok.oV (fun hlt => ?_) (fun _ => Ok.st i2)
 refine Ok.bind (Ok.get za za) (fun a _ => ?_)
 rw [w64 (n := s2 + 1) za za]
 exact Ok.nx ⟨⟨zb, zb⟩, m6 _⟩ zb
structure StN (x : aB) : Prop where
 num : I64 x.bj.a0
 den : I64 x.bh.a0
 taps : x.cN.length ≤ 3
 shift : 0 ≤ x.cM
theorem valid_N {x : aB} (h : jX x) : StN x := by
 obtain ⟨-, -, h1, h2, h3, h4⟩ := h
 exact ⟨by unfold I64; omega, by unfold I64; omega, h1, h2⟩
theorem gain_okN {x : aB} (h : StN x) (n d : Int) : Ok (jn x n d) (fun r => r.1.bj.length ≤ 64 ∧ r.1.bh.length ≤ 64) := by
 unfold jn
 refine Ok.sl (fun _ => Ok.bind (kj h.num) (fun a ha => Ok.bind (kj h.den) (fun b hb => Ok.ret ⟨ha, hb⟩))) (fun _ => ?_)
 refine Ok.sl (fun _ => Ok.bind squared_ok (fun a ha => Ok.bind squared_ok (fun b hb => Ok.ret ⟨ha, hb⟩))) (fun _ => ?_)
 refine Ok.bind (sum_okR _ (by have := h.taps; omega)) (fun a ha => Ok.bind (kj ha) (fun b hb => ?_))
 have hs := h.shift
 have e : vW .i64 1 x.cM = some (shlI .i64 1 x.cM) := by unfold vW; rw [if_neg za]
 rw [e, zc]
 exact Ok.bind (kj (m6 _)) (fun c hc => Ok.ret ⟨hb, hc⟩)
theorem times_ok {a b : aP} (h1 : a.bj.length ≤ 64) (h2 : a.bh.length ≤ 64) (h3 : b.bj.length ≤ 64) (h4 : b.bh.length ≤ 64) : Ok (ni a b) (fun r => r.1.bj.length ≤ 64 ∧ r.1.bh.length ≤ 64) := by
 have hv : ∀ f : aP, f.bj.length ≤ 64 → f.bh.length ≤ 64 → Ok (eI f) (fun _ => True) := fun f a b => by
  unfold eI
  exact Ok.bind (iX _ za) (fun _ _ => Ok.wX (fun _ => Ok.bind (iX _ za) (fun _ _ => Ok.wX (fun _ => Ok.ret trivial) (fun _ => Ok.ret trivial))) (fun _ => Ok.ret trivial))
 unfold ni
 refine Ok.bind (hv a h1 h2) (fun _ _ => Ok.wm (fun _ => Ok.ret sm) (fun _ => Ok.bind (hv b h3 h4) (fun _ _ => Ok.wm (fun _ => Ok.ret sm) (fun _ => ?_))))
 refine Ok.bind (mR h1 h3) (fun x hx => Ok.bind (lU za) (fun y hy => ?_))
 refine Ok.bind (mR h2 h4) (fun z hz => Ok.bind (lU za) (fun w hw => ?_))
 exact Ok.qv (fun _ => Ok.ret sm) (fun _ => Ok.qv (fun _ => Ok.ret sm) (fun _ => Ok.ret ⟨hy, hw⟩))
theorem Gain_ok {r : aM} (h : lj r) (n d : Int) : Ok (jm r n d) (fun x => x.1.bj.length ≤ 64 ∧ x.1.bh.length ≤ 64) := by
 have hin : ∀ a b c : Int, Ok (bK a b c) (fun _ => True) := fun a b c => by
  unfold bK; exact Ok.oV (fun _ => Ok.ret trivial) (fun _ => Ok.ret trivial)
 have hl := h.1
 unfold jm
 rw [resp_valid h, zc, if_neg sm]
 refine Ok.bind (hin _ _ _) (fun _ _ => Ok.wm (fun _ => Ok.ret sm) (fun _ => Ok.bind (hin _ _ _) (fun _ _ => Ok.wm (fun _ => Ok.ret sm) (fun _ => ?_))))
 refine Ok.bind (P := fun o => match o with | .inl y => y.1.length ≤ 64 ∧ y.2.length ≤ 64 | .inr y => y.1.bj.length ≤ 64 ∧ y.1.bh.length ≤ 64) (Ok.loop (fun s : Int × List Int × List Int => (0 ≤ s.1 ∧ s.1 ≤ r.bo.length) ∧ s.2.1.length ≤ 64 ∧ s.2.2.length ≤ 64) (fun s => ((r.bo.length : Int) - s.1).toNat) ?_ ⟨⟨sm, sm⟩, sm, sm⟩) (fun o ho => by rcases o with y | y <;> exact Ok.ret ho)
 rintro ⟨s1, s2, s3⟩ ⟨⟨i0, i1⟩, i2, i3⟩
 simp only at i0 i1 i2 i3
 unfold la
 refine Ok.oV (fun hlt => ?_) (fun _ => Ok.st ⟨i2, i3⟩)
 refine Ok.bind (Ok.get za za) (fun x hx => ?_)
 refine Ok.bind (gain_okN (valid_N (h.2 x hx.1)) n d) (fun y hy => Ok.wm (fun _ => Ok.st sm) (fun _ => ?_))
 refine Ok.bind (times_ok i2 i3 hy.1 hy.2) (fun z hz => Ok.qv (fun _ => Ok.st sm) (fun _ => ?_))
 rw [w64 za za]
 exact Ok.nx ⟨⟨zb, zb⟩, hz⟩ zb

theorem byte8 (s : List UInt8) (h : s.all (fun b => decide (b.toNat ≤ 8)) = true) {n : Int} (h0 : 0 ≤ n) (h1 : n < s.length) : Ok (sn s n) (fun c => 0 ≤ c ∧ c ≤ 8) := by
 refine (Ok.byte h0 h1).mono fun c ⟨b, hb, hc⟩ => ?_
 have := List.all_eq_true.1 h b (List.mem_of_getElem? hb)
 simp only [decide_eq_true_eq] at this
 omega
theorem shr16 {n : Int} (h0 : 0 ≤ n) : pe .u64 n 16 = n / 65536 := by
 show n.fdiv (2 ^ (min (16 : Int).toNat 64)) = n / 65536
 rw [Int.fdiv_eq_ediv_of_nonneg _ (by decide)]
 rfl
theorem shr32 {n : Int} (h0 : 0 ≤ n) : pe .u64 n 32 = n / 4294967296 := by
 show n.fdiv (2 ^ (min (32 : Int).toNat 64)) = n / 4294967296
 rw [Int.fdiv_eq_ediv_of_nonneg _ (by decide)]
 rfl
theorem wU8 {n : Int} (h : 0 ≤ n ∧ n < 256) : IntKind.wrap .u8 n = n := IntWalk.u8_in _ za
theorem len8_ok {n m : Int} (hn : 0 ≤ n ∧ n < 65536) (hm : 0 ≤ m ∧ m ≤ 48) : Ok (dW n m) (fun r => 0 ≤ r ∧ r ≤ m + 16) := by
 unfold dW
 refine Ok.oV (fun h => ?_) (fun h => ?_)
 ·rw [shr8 hn.1, wU8 za]
  refine Ok.bind (byte8 _ (by decide +kernel) za so) (fun c hc => ?_)
  rw [w64 (n := m + 8) za za, w64 (n := c) za za, w64 za za]
  exact Ok.ret ⟨za, za⟩
 ·rw [wU8 za]
  refine Ok.bind (byte8 _ (by decide +kernel) za so) (fun c hc => ?_)
  rw [w64 (n := c) za za, w64 za za]
  exact Ok.ret ⟨za, za⟩
theorem bits_ok {n : Int} (h : 0 ≤ n ∧ n < 18446744073709551616) : Ok (fD n) (fun r => 0 ≤ r ∧ r ≤ 64) := by
 have k10 : ∀ {n m : Int}, 0 ≤ n ∧ n < 4294967296 → 0 ≤ m ∧ m ≤ 32 → Ok (dq n m) (fun r => 0 ≤ r ∧ r ≤ m + 32) := fun {n m} hn hm => by
  unfold dq
  refine Ok.oV (fun h => ?_) (fun h => ?_)
  ·rw [shr16 hn.1, w64 za za]
   exact (len8_ok za za).mono fun r hr => by omega
  ·exact (len8_ok za za).mono fun r hr => by omega
 unfold fD iP
 refine Ok.bind (P := fun r => 0 ≤ r ∧ r ≤ 64) (Ok.oV (fun h => ?_) (fun h => ?_)) (fun r hr => Ok.ret hr)
 ·rw [shr32 za]
  exact (k10 za za).mono fun r hr => by omega
 ·exact (k10 za za).mono fun r hr => by omega
theorem u64_range (n : Int) : 0 ≤ IntKind.wrap .u64 n ∧ IntKind.wrap .u64 n < 18446744073709551616 := by
 simp [IntKind.wrap, IntKind.bits, IntKind.signed]; omega
theorem dig17 {c m d : Int} (hc : -1 ≤ c ∧ c ≤ 63) (hd : 0 ≤ d ∧ d ≤ 255) : Ok (dx c m d) (fun r => -256 ≤ r ∧ r ≤ 16400) := by
 unfold dx
 rw [w64 (n := 256 * c) za za, w64 za za]
 exact Ok.ret ⟨za, za⟩
theorem dig20 {c m d : Int} (hc : -1 ≤ c ∧ c ≤ 63) (hd : 0 ≤ d ∧ d ≤ 127) : Ok (dy c m d) (fun r => -256 ≤ r ∧ r ≤ 16400) := by
 unfold dy
 rw [w64 (n := d * 2) za za, w64 (n := d * 2 + 1) za za]
 exact Ok.oV (fun _ => Ok.bind (Ok.quo za) (fun _ _ => dig17 hc za)) (fun _ => dig17 hc za)
theorem dig23 {c m d : Int} (hc : -1 ≤ c ∧ c ≤ 63) (hd : 0 ≤ d ∧ d ≤ 63) : Ok (dz c m d) (fun r => -256 ≤ r ∧ r ≤ 16400) := by
 unfold dz
 rw [w64 (n := d * 2) za za, w64 (n := d * 2 + 1) za za]
 exact Ok.oV (fun _ => Ok.bind (Ok.quo za) (fun _ _ => dig20 hc za)) (fun _ => dig20 hc za)
theorem dig26 {c m d : Int} (hc : -1 ≤ c ∧ c ≤ 63) (hd : 0 ≤ d ∧ d ≤ 31) : Ok (dA c m d) (fun r => -256 ≤ r ∧ r ≤ 16400) := by
 unfold dA
 rw [w64 (n := d * 2) za za, w64 (n := d * 2 + 1) za za]
 exact Ok.oV (fun _ => Ok.bind (Ok.quo za) (fun _ _ => dig23 hc za)) (fun _ => dig23 hc za)
theorem dig29 {c m d : Int} (hc : -1 ≤ c ∧ c ≤ 63) (hd : 0 ≤ d ∧ d ≤ 15) : Ok (dB c m d) (fun r => -256 ≤ r ∧ r ≤ 16400) := by
 unfold dB
 rw [w64 (n := d * 2) za za, w64 (n := d * 2 + 1) za za]
 exact Ok.oV (fun _ => Ok.bind (Ok.quo za) (fun _ _ => dig26 hc za)) (fun _ => dig26 hc za)
theorem dig32 {c m d : Int} (hc : -1 ≤ c ∧ c ≤ 63) (hd : 0 ≤ d ∧ d ≤ 7) : Ok (dC c m d) (fun r => -256 ≤ r ∧ r ≤ 16400) := by
 unfold dC
 rw [w64 (n := d * 2) za za, w64 (n := d * 2 + 1) za za]
 exact Ok.oV (fun _ => Ok.bind (Ok.quo za) (fun _ _ => dig29 hc za)) (fun _ => dig29 hc za)
theorem dig35 {c m d : Int} (hc : -1 ≤ c ∧ c ≤ 63) (hd : 0 ≤ d ∧ d ≤ 3) : Ok (dD c m d) (fun r => -256 ≤ r ∧ r ≤ 16400) := by
 unfold dD
 rw [w64 (n := d * 2) za za, w64 (n := d * 2 + 1) za za]
 exact Ok.oV (fun _ => Ok.bind (Ok.quo za) (fun _ _ => dig32 hc za)) (fun _ => dig32 hc za)
theorem dig38 {c m d : Int} (hc : -1 ≤ c ∧ c ≤ 63) (hd : 0 ≤ d ∧ d ≤ 1) : Ok (dE c m d) (fun r => -256 ≤ r ∧ r ≤ 16400) := by
 unfold dE
 rw [w64 (n := d * 2) za za, w64 (n := d * 2 + 1) za za]
 exact Ok.oV (fun _ => Ok.bind (Ok.quo za) (fun _ _ => dig35 hc za)) (fun _ => dig35 hc za)
theorem digits_ok {c m : Int} (hc : -1 ≤ c ∧ c ≤ 63) : Ok (fc c m) (fun r => -256 ≤ r ∧ r ≤ 16400) := by
 unfold fc
 exact Ok.oV (fun _ => Ok.bind (Ok.quo za) (fun _ _ => dig38 hc za)) (fun _ => dig38 hc za)
theorem log_ok (n : Int) : Ok (fN n) (fun r => -256 ≤ r.1 ∧ r.1 ≤ 16400) := by
 unfold fN
 refine Ok.oV (fun _ => Ok.ret ⟨sm, sm⟩) (fun _ => ?_)
 refine Ok.bind (bits_ok (u64_range n)) (fun L hL => ?_)
 rw [w64 (n := L - 1) za za]
 refine Ok.oV (fun h => ?_) (fun h => ?_)
 ·rw [w64 za za]
  have e : vW .i64 n (30 - (L - 1)) = some (shlI .i64 n (30 - (L - 1))) := by unfold vW; rw [if_neg za]
  rw [e, zc]
  exact Ok.bind (digits_ok za) (fun r hr => Ok.ret hr)
 ·rw [w64 za za]
  have e : shrO .i64 n (L - 1 - 30) = some (pe .i64 n (L - 1 - 30)) := by unfold shrO; rw [if_neg za]
  rw [e, zc]
  exact Ok.bind (digits_ok za) (fun r hr => Ok.ret hr)
theorem logNat_ok {l : List Int} (hl : l.length ≤ 64) : Ok (fb l) (fun r => -1000 ≤ r.1 ∧ r.1 ≤ 600000) := by
 unfold fb
 refine Ok.bind (iX l za) (fun v _ => Ok.wm (fun _ => Ok.ret ⟨sm, sm⟩) (fun _ => ?_))
 rw [w64 (n := (l.length : Int) - 1) za za]
 refine Ok.oV (fun _ => Ok.ret ⟨sm, sm⟩) (fun h0 => Ok.sl (fun h1 => ?_) (fun h1 => ?_))
 ·refine Ok.bind (Ok.get za za) (fun a _ => Ok.bind (log_ok a) (fun r hr => Ok.ret ⟨zb, zb⟩))
 ·rw [w64 (n := (l.length : Int) - 1 - 1) za za, w64 (n := 7680 * ((l.length : Int) - 1 - 1)) za za]
  refine Ok.bind (Ok.get za za) (fun a _ => Ok.bind (Ok.get za za) (fun b _ => Ok.bind (log_ok _) (fun r hr => ?_)))
  rw [w64 za za]
  exact Ok.ret ⟨zb, zb⟩
theorem ground_ok {s : bt} {r : aM} (h : lj r) (a : Int) : Ok (gu s r a) (fun x => -700000 ≤ x.1 ∧ x.1 ≤ 700000) := by
 unfold gu
 refine Ok.bind (Gain_ok h _ _) (fun g hg => Ok.qv (fun _ => Ok.ret ⟨sm, sm⟩) (fun _ => ?_))
 refine Ok.bind (logNat_ok hg.1) (fun x hx => Ok.qv (fun _ => Ok.ret ⟨sm, sm⟩) (fun _ => ?_))
 refine Ok.bind (logNat_ok hg.2) (fun y hy => Ok.qv (fun _ => Ok.ret ⟨sm, sm⟩) (fun _ => ?_))
 refine Ok.bind (log_ok a) (fun z hz => ?_)
 rw [w64 (n := 2 * z.1) za za, w64 (n := 2 * z.1 + y.1) za za, w64 za za]
 exact Ok.ret ⟨zb, zb⟩
theorem floorL_at {l : Int} (h : -1000000 ≤ l ∧ l ≤ 1000000) : fF l = some (l * 30103 / 256000) := by
 unfold fF iW
 rw [if_pos so, zc]
 dsimp only
 rw [if_neg so, w64 (n := l * 30103) za za]
 have hb : -30103000000 ≤ l * 30103 ∧ l * 30103 ≤ 30103000000 := by omega
 generalize l * 30103 = n at *
 have e1 : qd .i64 n 256000 = some (IntKind.wrap .i64 (n.tdiv 256000)) := by unfold qd; rw [if_neg za]
 have e2 : vj n 256000 = some (n.tmod 256000) := by unfold vj; rw [if_neg za]
 rw [e1, e2, zc, zc]
 rcases Int.le_total 0 n with h0 | h0
 ·rw [Int.tdiv_eq_ediv_of_nonneg h0, Int.tmod_eq_emod_of_nonneg h0, if_neg so, w64 za za]
 ·obtain ⟨m, rfl⟩ : ∃ m, n = -m := ⟨-n, za⟩
  rw [Int.neg_tdiv, Int.neg_tmod, Int.tdiv_eq_ediv_of_nonneg za, Int.tmod_eq_emod_of_nonneg za, w64 (n := -(m / 256000)) za za, w64 za za]
  by_cases hm : m % 256000 = 0
  ·rw [if_neg so]; congr 1; omega
  ·rw [if_pos so]; congr 1; omega
theorem ceilL_at {l : Int} (h : -1000000 ≤ l ∧ l ≤ 1000000) : iA l = some (-(-l * 30103 / 256000)) := by
 unfold iA
 rw [w64 (n := 0 - l) za za, floorL_at za, zc, w64 za za]
 congr 1
 rw [show 0 - l = -l by omega]; omega
theorem half_at' {n : Int} : gd n = some (n / 2) := by
 unfold gd
 show some (n.fdiv (2 ^ (min (1 : Int).toNat 64))) = _
 rw [Int.fdiv_eq_ediv_of_nonneg _ (by decide)]
 rfl
theorem scale_valid {s : aG} (h : SetV s) : ch s.bn = some true := by
 have h1 := h.num; have h2 := h.den
 refine Ok.eq ?_
 unfold ch
 rw [jh h.cor, zc, if_pos sm]
 exact Ok.oV (fun _ => Ok.oV (fun _ => Ok.oV (fun _ => Ok.ret so) (fun _ => za)) (fun _ => za)) (fun _ => za)
theorem station_ok {s : aG} (hs : SetV s) {r : aM} (hr : lj r) (a : Int) {n f : Int} (h0 : 0 ≤ n) (hnf : n ≤ f) (hf : f ≤ 65535) : Ok (eH s.bn r a n f) (fun x => x.2 = 0 → x.1.ak ≤ x.1.ae) := by
 unfold eH
 rw [scale_valid hs, zc, if_neg sm]
 refine Ok.oV (fun _ => Ok.ret sm) (fun _ => Ok.oV (fun _ => Ok.ret sm) (fun _ => ?_))
 refine Ok.bind (ground_ok hr a) (fun x hx => Ok.qv (fun h => Ok.ret sm) (fun _ => ?_))
 refine Ok.bind (between_ok hs.cor n f h0 hnf hf) (fun y hy => Ok.qv (fun h => Ok.ret sm) (fun h => ?_))
 obtain ⟨y0, y1, y2⟩ := hy.2 h
 rw [w64 (n := x.1 - 2) za za, w64 (n := 0 - x.1) za za, w64 (n := 0 - x.1 - 6) za za]
 rw [half_at', zc, floorL_at za, zc, half_at', zc, w64 (n := 0 - (0 - x.1 - 6) / 2) za za, ceilL_at za, zc]
 refine Ok.ret fun _ => ?_
 simp only
 rw [w64 za za, w64 za za]
 omega
end Go.Dw.So


set_option maxRecDepth 100000
set_option maxHeartbeats 4000000
namespace Go.Dw.So
open Go.Dw Go.Proofs
theorem or_some (l : List Int) (hl : l.length < 1000) : ∃ r, cL l = some r := by
 unfold cL
 have := Sd.or_go (l := l) (n := 0) (r := l) hl za sm
 rw [show ((0 : Int)) = ((0 : Nat) : Int) from rfl, this]
 cases l.find? fun x => decide (x ≠ 0) <;> exact ⟨_, rfl⟩

structure PV (q : aw) : Prop where
 box : f5 q.ac
 reg : d8 20 q.ac.ak
 tab : oj q.az
 len : 1 ≤ q.aY.length ∧ q.aY.length ≤ 64
 cap : 1 ≤ q.bG ∧ q.bG ≤ 1000
 ph : ∀ a ∈ q.aY, PhV a ∧ Reach q.az (nN q.ac a.aL)
theorem sub_zone {q : aw} (hq : PV q) {b : ai} (h : Sub q.ac b) {a : av} (ha : a ∈ q.aY) : Ok (dI q.az b a) (fun r => r.2 = 0 ∧ eX r.1) := by
 obtain ⟨hv, hr⟩ := hq.ph a ha
 refine (zone_ok hq.tab (h.ok hq.box hq.reg) hv).mono fun r hr' => ?_
 have : r.2 = 0 := hr'.1.2 (Int.le_trans (far_mono h _) hr)
 exact ⟨this, hr'.2 this⟩
theorem validate_at {q : aw} (hq : PV q) : fG q = some 0 := by
 have hl := hq.len; have hc := hq.cap
 refine Ok.eq ?_
 unfold fG
 rw [ew hq.box, zc, if_neg sm, jh hq.tab, zc, if_neg sm]
 refine Ok.sl (fun h => za) (fun _ => Ok.oV (fun h => za) (fun _ => Ok.oV (fun h => za) (fun _ => Ok.oV (fun h => za) (fun _ => ?_))))
 refine Ok.bind (P := fun o => o = .inl ()) (Ok.upto q.aY.length za (fun _ => True) trivial (fun i h0 h1 _ => ?_)) (fun o ho => by subst ho; exact Ok.ret rfl)
 unfold jU
 refine Ok.oV (fun hlt => ?_) (fun _ => Ok.st rfl)
 refine Ok.bind (Ok.get za za) (fun a ha => ?_)
 refine Ok.bind (sub_zone hq (Sub.refl hq.box) ha.1) (fun z hz => ?_)
 refine Ok.qv (fun h => (h hz.1).elim) (fun _ => ?_)
 rw [w64 za za]
 exact Ok.nx ⟨⟨za, za⟩, trivial⟩ za
theorem zones_ok {q : aw} (hq : PV q) {b : ai} (h : Sub q.ac b) : Ok (iC q b) (fun r => r.2 = 0 ∧ r.1.length = q.aY.length ∧ ∀ z ∈ r.1, eX z) := by
 have hl := hq.len
 unfold iC
 rw [validate_at hq, zc, if_neg sm, within_at hq.box hq.reg h, zc, if_neg sm]
 refine Ok.bind ?_ (fun r hr => Ok.ret hr)
 unfold lV
 refine Ok.bind (Ok.mkC za za za za) (fun x hx => ?_)
 subst hx
 refine Ok.bind (P := fun o => ∃ l, o = .inl l ∧ l.length = q.aY.length ∧ ∀ z ∈ l, eX z) (Ok.loop (fun s : Int × List aN => (0 ≤ s.1 ∧ s.1 ≤ q.aY.length) ∧ s.2.length = s.1.toNat ∧ ∀ z ∈ s.2, eX z) (fun s => ((q.aY.length : Int) - s.1).toNat) ?_ ⟨⟨sm, sm⟩, sm, sm⟩) (fun o ⟨l, ho, h1, h2⟩ => by subst ho; exact Ok.ret ⟨rfl, h1, h2⟩)
 rintro ⟨s2, s3⟩ ⟨⟨i0, i1⟩, i2, i3⟩
 simp only at i0 i1 i2 i3
 unfold lE
 refine Ok.oV (fun hlt => ?_) (fun _ => Ok.st ⟨s3, rfl, za, i3⟩)
 refine Ok.bind (Ok.get za za) (fun a ha => ?_)
 refine Ok.bind (sub_zone hq h ha.1) (fun z hz => ?_)
 refine Ok.qv (fun h => (h hz.1).elim) (fun _ => ?_)
 refine Ok.bind (Ok.app (by simp only [List.length_cons, List.length_nil]; omega)) (fun y hy => ?_)
 subst hy
 rw [w64 za za]
 refine Ok.nx ⟨⟨zb, zb⟩, by simp only [List.length_append, List.length_cons, List.length_nil]; omega, fun z' hz' => ?_⟩ zb
 rcases List.mem_append.1 hz' with h | h
 ·exact i3 z' h
 ·rw [List.mem_singleton.1 h]; exact hz.2
theorem cost_ok {q : aw} (hq : PV q) (l : List aN) (t : Int) : Ok (jv q l t) (fun r => (∀ z ∈ l, eX z ∧ z.bB ≤ t ∧ t ≤ z.fTo) → r = 0) := by
 have hl := hq.len; have hc := hq.cap
 unfold jv
 refine Ok.bind (P := fun o => (∀ z ∈ l, eX z ∧ z.bB ≤ t ∧ t ≤ z.fTo) → o = 0) (Ok.loop (fun s : Int × Int => (0 ≤ s.2 ∧ s.2 ≤ q.aY.length) ∧ ((∀ z ∈ l, eX z ∧ z.bB ≤ t ∧ t ≤ z.fTo) → s.1 = 0)) (fun s => ((q.aY.length : Int) - s.2).toNat) ?_ ⟨⟨sm, sm⟩, fun _ => rfl⟩) (fun o ho => Ok.ret ho)
 rintro ⟨s1, s2⟩ ⟨⟨i0, i1⟩, i2⟩
 simp only at i0 i1 i2
 unfold mg
 refine Ok.oV (fun hlt => ?_) (fun _ => Ok.st i2)
 refine Ok.bind (Ok.get za za) (fun a ha => ?_)
 refine Ok.oV (fun hlz => ?_) (fun _ => ?_)
 ·refine Ok.bind (Ok.get za za) (fun z hz => ?_)
  unfold jK
  rw [zc, w64 (n := s2 + 1) za za]
  refine Ok.nx ⟨⟨zb, zb⟩, fun hall => ?_⟩ zb
  obtain ⟨⟨z1, z2, z3⟩, z4, z5⟩ := hall z hz.1
  have i2 := i2 hall
  simp only
  rw [w64 (n := t - z.fTo) za za, w64 (n := z.bB - t) za za]
  have e : (if (0 : Int) > (if t - z.fTo > z.bB - t then t - z.fTo else z.bB - t) then (0 : Int) else (if t - z.fTo > z.bB - t then t - z.fTo else z.bB - t)) = 0 := by
   split <;> split <;> omega
  rw [e, if_pos za, i2]
  simp [w64]
 ·rw [w64 za za]
  exact Ok.nx ⟨⟨zb, zb⟩, i2⟩ zb
theorem best_ok {q : aw} (hq : PV q) {l : List aN} (hl : 1 ≤ l.length ∧ l.length ≤ 64) : Ok (ju q l) (fun r => (∃ z, l = [z] ∧ eX z) → r.2 = 0) := by
 have hzero : ∀ t, (∃ z ∈ l, t = z.bB ∨ t = z.fTo) → (∃ z, l = [z] ∧ eX z) → ∀ z ∈ l, eX z ∧ z.bB ≤ t ∧ t ≤ z.fTo := by
  rintro t ⟨y, hy, ht⟩ ⟨z, rfl, hz⟩ x hx
  rw [List.mem_singleton] at hx hy
  subst hx hy
  obtain ⟨z1, z2, z3⟩ := hz
  exact ⟨⟨z1, z2, z3⟩, za, za⟩
 unfold ju
 rw [w64 (n := 2 * (l.length : Int)) za za]
 refine Ok.bind (Ok.mkC za za za za) (fun x hx => ?_)
 subst hx
 refine Ok.bind (P := fun o : List Int => o.length = 2 * l.length ∧ ∀ t ∈ o, ∃ z ∈ l, t = z.bB ∨ t = z.fTo) (Ok.loop (fun s : Int × List Int => (0 ≤ s.1 ∧ s.1 ≤ l.length) ∧ s.2.length = 2 * s.1.toNat ∧ ∀ t ∈ s.2, ∃ z ∈ l, t = z.bB ∨ t = z.fTo) (fun s => ((l.length : Int) - s.1).toNat) ?_ ⟨⟨sm, sm⟩, sm, sm⟩) (fun o ho => ?_)
 ·rintro ⟨s2, s3⟩ ⟨⟨i0, i1⟩, i2, i3⟩
  simp only at i0 i1 i2 i3
  unfold mP
  refine Ok.oV (fun hlt => ?_) (fun _ => Ok.st ⟨za, i3⟩)
  refine Ok.bind (Ok.get za za) (fun z hz => ?_)
  refine Ok.bind (Ok.app (by simp only [List.length_cons, List.length_nil]; omega)) (fun y hy => ?_)
  subst hy
  rw [w64 za za]
  refine Ok.nx ⟨⟨zb, zb⟩, by simp only [List.length_append, List.length_cons, List.length_nil]; omega, fun t ht => ?_⟩ zb
  rcases List.mem_append.1 ht with h | h
  ·exact i3 t h
  ·simp only [List.mem_cons, List.not_mem_nil, or_false] at h
   exact ⟨z, hz.1, h⟩
 ·obtain ⟨h1, h2⟩ := ho
  refine Ok.sl (fun h => za) (fun _ => ?_)
  refine Ok.bind (Ok.qH za za) (fun _ _ => Ok.bind (Ok.get za za) (fun x14 g14 => ?_))
  refine Ok.bind (Ok.qH za za) (fun _ _ => Ok.bind (Ok.get za za) (fun x17 g17 => ?_))
  refine Ok.bind (cost_ok hq l x17) (fun c hc => ?_)
  refine Ok.bind (Ok.sub za za za) (fun _ _ => ?_)
  refine Ok.bind (Ok.lenv za za) (fun n hn => ?_)
  refine Ok.bind (P := fun o => (∃ z, l = [z] ∧ eX z) → o.2 = 0) (Ok.loop (fun s : Int × Int × Int => (0 ≤ s.2.2 ∧ s.2.2 ≤ n) ∧ ((∃ z, l = [z] ∧ eX z) → s.2.1 = 0)) (fun s => (n - s.2.2).toNat) ?_ ⟨⟨sm, zb⟩, fun h => hc (hzero _ (h2 _ g17.1) h)⟩) (fun o ho => Ok.ret ho)
  rintro ⟨s1, s2, s3⟩ ⟨⟨i0, i1⟩, i2⟩
  simp only at i0 i1 i2
  unfold me
  refine Ok.oV (fun hlt => ?_) (fun _ => Ok.st i2)
  refine Ok.bind (Ok.inv za za za) (fun _ _ => ?_)
  refine Ok.bind (Ok.get za za) (fun x29 g29 => ?_)
  refine Ok.bind (cost_ok hq l x29) (fun c' hc' => ?_)
  rw [w64 za za]
  have hz : (∃ z, l = [z] ∧ eX z) → c' = 0 := fun h => hc' (hzero _ (h2 _ g29.1) h)
  have A : ∀ (u v : Int), ((∃ z, l = [z] ∧ eX z) → v = 0) → Ok (some (.next (u, v, s3 + 1)) : Option (oP (Int × Int × Int) (Int × Int))) (Ok.S (fun s : Int × Int × Int => (0 ≤ s.2.2 ∧ s.2.2 ≤ n) ∧ ((∃ z, l = [z] ∧ eX z) → s.2.1 = 0)) (fun s => (n - s.2.2).toNat) (fun o => (∃ z, l = [z] ∧ eX z) → o.2 = 0) (s1, s2, s3)) := fun u v h => Ok.nx ⟨⟨zb, zb⟩, h⟩ zb
  exact Ok.oV (fun _ => A _ _ hz) (fun _ => Ok.sl (fun _ => Ok.oV (fun _ => A _ _ hz) (fun _ => A _ _ i2)) (fun _ => A _ _ i2))
def Single (q : aw) : Prop := q.aY.length = 1
theorem single_zone {q : aw} (h : Single q) {l : List aN} (hl : l.length = q.aY.length) (hz : ∀ z ∈ l, eX z) : ∃ z, l = [z] ∧ eX z := by
 rw [h] at hl
 match l, hl with
 | [z], _ => exact ⟨z, rfl, hz z sm⟩
theorem bound_ok {q : aw} (hq : PV q) {b : ai} (h : Sub q.ac b) : Ok (iB q b) (fun r => r.2 = 0) := by
 unfold iB
 refine Ok.bind (zones_ok hq h) (fun r hr => ?_)
 refine Ok.qv (fun h => (h hr.1).elim) (fun _ => ?_)
 exact Ok.bind (best_ok hq (by rw [hr.2.1]; exact hq.len)) (fun _ _ => Ok.ret rfl)
theorem at_ok {q : aw} (hq : PV q) {p : aa} (h : Sub q.ac ⟨p, p⟩) : Ok (nh q p) (fun r => r.2.2 = 0 ∧ (Single q → r.2.1 = 0)) := by
 unfold nh
 refine Ok.bind (zones_ok hq h) (fun r hr => ?_)
 refine Ok.qv (fun h => (h hr.1).elim) (fun _ => ?_)
 exact Ok.bind (best_ok hq (by rw [hr.2.1]; exact hq.len)) (fun s hs => Ok.ret ⟨rfl, fun h1 => hs (single_zone h1 hr.2.1 hr.2.2)⟩)
theorem compare_ok (a b : aa) : Ok (gp a b) (fun _ => True) := by
 unfold gp
 rw [Sd.m8, zc, Sd.m8, zc, Sd.m8, zc]
 obtain ⟨r, e⟩ := or_some [tl a.fX b.fX, tl a.fY b.fY, tl a.fZ b.fZ] sm
 rw [e]
 exact Ok.ret trivial
end Go.Dw.So



set_option maxRecDepth 100000
set_option maxHeartbeats 4000000
namespace Go.Dw.So
open Go.Dw Go.Proofs
abbrev Est := aA

theorem inner_ok {d : List Int} {a i : Int} (ha : 0 ≤ a) (hi : a ≤ i ∧ i < d.length) (hd : d.length ≤ 1000) : Ok (e8 (cv a i) (i, d)) (fun o => o.1 = i ∧ o.2.length = d.length) := by
 refine Ok.loop (fun s : Int × List Int => (a ≤ s.1 ∧ s.1 ≤ i) ∧ s.2.length = d.length) (fun s => s.1.toNat) ?_ ⟨⟨hi.1, Int.le_refl _⟩, rfl⟩
 rintro ⟨s5, s6⟩ ⟨⟨i0, i1⟩, i2⟩
 simp only at i0 i1 i2
 unfold cv
 refine Ok.oV (fun hgt => ?_) (fun _ => Ok.st ⟨rfl, i2⟩)
 rw [w64 (n := s5 - 1) za za]
 refine Ok.bind (Ok.qH za za) (fun _ _ => Ok.bind (Ok.get za za) (fun x _ => ?_))
 refine Ok.bind (Ok.qH za za) (fun _ _ => Ok.bind (Ok.get za za) (fun y _ => ?_))
 have hc : Ok (jY x y) (fun _ => True) := by
  unfold jY dX
  rw [zc]
  exact Ok.wX (fun _ => Ok.wX (fun _ => Ok.ret trivial) (fun _ => Ok.ret trivial)) (fun _ => Ok.ret trivial)
 refine Ok.bind hc (fun c _ => Ok.wX (fun _ => ?_) (fun _ => Ok.st ⟨rfl, i2⟩))
 refine Ok.bind (Ok.qH za za) (fun _ _ => Ok.bind (Ok.get za za) (fun x' _ => ?_))
 refine Ok.bind (Ok.qH za za) (fun _ _ => Ok.bind (Ok.get za za) (fun y' _ => ?_))
 refine Ok.bind (Ok.qH za za) (fun _ _ => Ok.bind (Ok.set za za) (fun e he => ?_))
 subst he
 refine Ok.bind (Ok.qH za so) (fun _ _ => Ok.bind (Ok.set za so) (fun e he => ?_))
 subst he
 exact Ok.nx ⟨⟨zb, zb⟩, by simpa using i2⟩ zb
theorem sort_okI {d : List Int} (hd : d.length ≤ 12) : Ok (fH d) (fun r => r.length = d.length) := by
 have hins : Ok (ce 0 d.length d) (fun r => r.length = d.length) := by
  unfold ce
  rw [w64 za za]
  refine Ok.bind (P := fun r : List Int => r.length = d.length) (Ok.loop (fun s : Int × List Int => 1 ≤ s.1 ∧ s.2.length = d.length) (fun s => ((d.length : Int) - s.1).toNat) ?_ ⟨sm, rfl⟩) (fun r hr => Ok.ret hr)
  rintro ⟨s1, s2⟩ ⟨i0, i1⟩
  simp only at i0 i1
  unfold dY
  refine Ok.oV (fun hlt => ?_) (fun _ => by rw [zc]; exact Ok.st i1)
  refine Ok.bind (inner_ok (a := 0) (i := s1) (d := s2) za za za) (fun o ho => ?_)
  rw [ho.1, w64 za za]
  exact Ok.nx ⟨zb, zb⟩ zb
 unfold fH
 refine Ok.bind (bits_ok (u64_range _)) (fun b _ => ?_)
 refine Ok.bind (P := fun r : List Int => r.length = d.length) ?_ (fun r hr => Ok.ret hr)
 have h1 : Ok ((e8 (cy d.length 0 d b) ()).bind fun o6 => some o6) (fun r => r.length = d.length) := by
  refine Ok.bind (P := fun r : List Int => r.length = d.length) (Ok.loop (fun _ => True) (fun _ => 0) (fun _ _ => ?_) trivial) (fun r hr => Ok.ret hr)
  unfold cy
  rw [w64 (n := (d.length : Int) - 0) za za]
  exact Ok.oV (fun _ => Ok.bind hins (fun r hr => Ok.st hr)) (fun h => za)
 obtain ⟨r, e, hr⟩ := h1
 refine ⟨r, ?_, hr⟩
 unfold ev
 refine AV ⟨1, e⟩ fun n s hs => ?_
 cases n with
 | zero => cases hs
 | succ n =>
  have hs' : ((e8 (cy d.length 0 d b) ()).bind fun o6 => some o6) = some s := hs
  rw [e] at hs'
  exact (Option.some.inj hs').symm
theorem half_len {l : List Int} (h0 : 1 ≤ l.length) (h1 : l.length ≤ 12) : Ok ((qd .i64 (IntKind.wrap .i64 ((l.length : Int) - (1 : Int))) (2 : Int)).bind fun x12 => (inO l x12).bind fun _ => (oT l x12).bind fun x15 => some x15) (fun _ => True) := by
 rw [w64 za za]
 refine Ok.bind (Ok.quo za) (fun q hq => ?_)
 rw [Int.tdiv_eq_ediv_of_nonneg za, w64 za za] at hq
 exact Ok.bind (Ok.qH za za) (fun _ _ => Ok.bind (Ok.get za za) (fun _ _ => Ok.ret trivial))
theorem med2_ok {l : List Est} (h0 : 1 ≤ l.length) (h1 : l.length ≤ 12) : Ok (ek l) (fun _ => True) := by
 unfold ek
 refine Ok.bind (P := fun o : List Int => o.length = l.length) (Ok.loop (fun s : Int × List Int => (0 ≤ s.1 ∧ s.1 ≤ l.length) ∧ s.2.length = s.1.toNat) (fun s => ((l.length : Int) - s.1).toNat) ?_ ⟨⟨sm, sm⟩, rfl⟩) (fun o ho => ?_)
 ·rintro ⟨s1, s2⟩ ⟨⟨i0, i1⟩, i2⟩
  simp only at i0 i1 i2
  unfold gL fx
  refine Ok.oV (fun hlt => ?_) (fun _ => Ok.st za)
  refine Ok.bind (Ok.get za za) (fun x _ => ?_)
  rw [zc]
  refine Ok.bind (Ok.app (by simp only [List.length_cons, List.length_nil]; omega)) (fun y hy => ?_)
  subst hy
  rw [w64 za za]
  exact Ok.nx ⟨⟨zb, zb⟩, by simp only [List.length_append, List.length_cons, List.length_nil]; omega⟩ zb
 ·exact Ok.bind (sort_okI za) (fun r hr => half_len za za)
theorem med3_ok {l : List Est} (h0 : 1 ≤ l.length) (h1 : l.length ≤ 12) : Ok (eo l) (fun _ => True) := by
 unfold eo
 refine Ok.bind (P := fun o : List Int => o.length = l.length) (Ok.loop (fun s : Int × List Int => (0 ≤ s.1 ∧ s.1 ≤ l.length) ∧ s.2.length = s.1.toNat) (fun s => ((l.length : Int) - s.1).toNat) ?_ ⟨⟨sm, sm⟩, rfl⟩) (fun o ho => ?_)
 ·rintro ⟨s1, s2⟩ ⟨⟨i0, i1⟩, i2⟩
  simp only at i0 i1 i2
  unfold gM fy
  refine Ok.oV (fun hlt => ?_) (fun _ => Ok.st za)
  refine Ok.bind (Ok.get za za) (fun x _ => ?_)
  rw [zc]
  refine Ok.bind (Ok.app (by simp only [List.length_cons, List.length_nil]; omega)) (fun y hy => ?_)
  subst hy
  rw [w64 za za]
  exact Ok.nx ⟨⟨zb, zb⟩, by simp only [List.length_append, List.length_cons, List.length_nil]; omega⟩ zb
 ·exact Ok.bind (sort_okI za) (fun r hr => half_len za za)
theorem network_ok {l : List Est} (h0 : 1 ≤ l.length) (h1 : l.length ≤ 12) (hl : ∀ x ∈ l, x.ak ≤ x.ae) : Ok (eF l) (fun r => r.2 = 0) := by
 unfold eF
 refine Ok.sl (fun h => za) (fun _ => ?_)
 have e : b9 l = some false := by
  unfold b9 dg
  rw [lD l.length (fun i hi => ?_) ?_]
  ·rfl
  ·unfold cJ
   rw [if_neg sm]
  ·unfold cJ fw
   have := hl _ (List.getElem_mem hi)
   rw [if_pos so, pM rfl hi, zc, zc, if_neg so, w64 za za]
   simp
 rw [e, zc, if_neg sm]
 exact Ok.bind (med2_ok h0 h1) (fun a _ => Ok.bind (med3_ok h0 h1) (fun b _ => Ok.ret rfl))

structure MatV (m : a7) : Prop where
 len : m.b8.length = m.cg.length ∧ m.ez.length = m.cg.length
 few : m.cg.length ≤ 12
 pos : ∀ a ∈ m.b8, d8 60 a.aL
 resp : ∀ e ∈ m.ez, lj e.bi
theorem estimates_ok {s : aG} (hs : SetV s) {m : a7} (hm : MatV m) {b : ai} (hb : f5 b) : Ok (ci m s b) (fun r => r.length ≤ 12 ∧ ∀ x ∈ r, x.ak ≤ x.ae) := by
 obtain ⟨⟨l1, l2⟩, l3, hp, hr⟩ := hm
 unfold ci
 refine Ok.bind (P := fun r : List Est => r.length ≤ 12 ∧ ∀ x ∈ r, x.ak ≤ x.ae) (Ok.loop (fun u : Int × List Est => (0 ≤ u.1 ∧ u.1 ≤ m.b8.length) ∧ u.2.length ≤ u.1.toNat ∧ ∀ x ∈ u.2, x.ak ≤ x.ae) (fun u => ((m.b8.length : Int) - u.1).toNat) ?_ ⟨⟨sm, sm⟩, sm, sm⟩) (fun r hr => Ok.ret hr)
 rintro ⟨s1, s2⟩ ⟨⟨i0, i1⟩, i2, i3⟩
 simp only at i0 i1 i2 i3
 unfold cP
 refine Ok.oV (fun hlt => ?_) (fun _ => Ok.st ⟨za, i3⟩)
 refine Ok.bind (Ok.get za za) (fun x6 g6 => Ok.bind (Ok.get za za) (fun x7 g7 => Ok.bind (Ok.get za za) (fun x8 g8 => ?_)))
 obtain ⟨e1, n0, n1⟩ := Near_at hb (hp _ g6.1)
 obtain ⟨e2, f0, f1⟩ := Far_at hb (hp _ g6.1)
 rw [e1, zc, e2, zc, w64 za za]
 refine Ok.bind (station_ok hs (hr _ g7.1) x8.bp n0 (near_far hb _) za) (fun y hy => ?_)
 refine Ok.sl (fun h => ?_) (fun _ => Ok.nx ⟨⟨zb, zb⟩, zb, i3⟩ zb)
 refine Ok.bind (Ok.app (by simp only [List.length_cons, List.length_nil]; omega)) (fun z hz => ?_)
 subst hz
 refine Ok.nx ⟨⟨zb, zb⟩, by simp only [List.length_append, List.length_cons, List.length_nil]; omega, fun x hx => ?_⟩ zb
 rcases List.mem_append.1 hx with h' | h'
 ·exact i3 x h'
 ·rw [List.mem_singleton.1 h']; exact hy h
theorem estimates_eq {m : a7} {e : List al} (h : e.map (·.bi) = m.ez.map (·.bi)) (s : aG) (b : ai) : ci ⟨m.cg, m.b8, e⟩ s b = ci m s b := by
 unfold ci
 have : cP ⟨m.cg, m.b8, e⟩ b s = cP m b s := by
  funext u
  unfold cP
  have hl : e.length = m.ez.length := by simpa using congrArg List.length h
  have hk : ∀ {β : Type} (n : Int) (k : aM → Option β), ((oT e n).bind fun x => k x.bi) = ((oT m.ez n).bind fun x => k x.bi) := fun n k => by
   unfold oT
   split
   ·have := congrArg (fun l => l[n.toNat]?) h
    simp only [List.getElem?_map] at this
    cases h1 : e[n.toNat]? <;> cases h2 : m.ez[n.toNat]? <;> rw [h1, h2] at this <;> simp at this
    all_goals first | rfl | simp only [zc, this]
   ·rfl
  refine ite_congr rfl (fun _ => congrArg _ (funext fun x6 => ?_)) (fun _ => rfl)
  exact hk u.1 fun q => (oT m.cg u.1).bind fun x8 => (dl b x6.aL).bind fun x9 => (eB b x6.aL).bind fun x10 => (eH s.bn q x8.bp x9 x10).bind fun x11 => if (x11.2 == (0 : Int)) = true then ((pS u.2 [x11.1] 16).bind fun x13 => (some (.next ((IntKind.wrap .i64 (u.1 + (1 : Int))), x13)) : Option (oP (Int × List Est) (List Est)))) else (some (.next ((IntKind.wrap .i64 (u.1 + (1 : Int))), u.2)))
 rw [this]
end Go.Dw.So


set_option maxRecDepth 100000
set_option maxHeartbeats 4000000
namespace Go.Dw.So
open Go.Dw Go.Proofs
abbrev Item := ah

theorem less_ok {d : List Item} {i j : Int} (hi : 0 ≤ i ∧ i < d.length) (hj : 0 ≤ j ∧ j < d.length) : Ok (ij i j d) (fun r => r.2 = d) := by
 unfold ij
 refine Ok.bind (Ok.qH hi.1 hi.2) (fun _ _ => Ok.bind (Ok.get hi.1 hi.2) (fun a _ => ?_))
 refine Ok.bind (Ok.qH hj.1 hj.2) (fun _ _ => Ok.bind (Ok.get hj.1 hj.2) (fun b _ => ?_))
 rw [Sd.m8, zc]
 refine Ok.bind (Ok.qH hi.1 hi.2) (fun _ _ => Ok.bind (Ok.get hi.1 hi.2) (fun a' _ => ?_))
 refine Ok.bind (Ok.qH hj.1 hj.2) (fun _ _ => Ok.bind (Ok.get hj.1 hj.2) (fun b' _ => ?_))
 rw [Sd.m8, zc]
 obtain ⟨r, e⟩ := or_some [tl a.dt b.dt, tl a'.fo b'.fo] sm
 rw [e]
 exact Ok.ret rfl
theorem swap_ok {d : List Item} {i j : Int} (hi : 0 ≤ i ∧ i < d.length) (hj : 0 ≤ j ∧ j < d.length) :
  Ok (iZ i j d) (fun r => r.Perm d ∧ (r[j.toNat]? = d[i.toNat]?) ∧ ∀ k : Nat, k ≠ i.toNat → k ≠ j.toNat → r[k]? = d[k]?) := by
 unfold iZ
 refine Ok.bind (Ok.qH hj.1 hj.2) (fun _ _ => Ok.bind (Ok.get hj.1 hj.2) (fun a ga => ?_))
 refine Ok.bind (Ok.qH hi.1 hi.2) (fun _ _ => Ok.bind (Ok.get hi.1 hi.2) (fun b gb => ?_))
 refine Ok.bind (Ok.qH hi.1 hi.2) (fun _ _ => Ok.bind (Ok.set hi.1 hi.2) (fun e he => ?_))
 subst he
 refine Ok.bind (Ok.qH hj.1 (by simpa using hj.2)) (fun _ _ => Ok.bind (Ok.set hj.1 (by simpa using hj.2)) (fun e he => ?_))
 subst he
 have h1 : i.toNat < d.length := by omega
 have h2 : j.toNat < d.length := by omega
 obtain ⟨_, rfl⟩ := List.getElem?_eq_some_iff.1 ga.2
 obtain ⟨_, rfl⟩ := List.getElem?_eq_some_iff.1 gb.2
 refine Ok.ret ⟨List.set_set_perm h1 h2, ?_, fun k k1 k2 => ?_⟩
 ·rw [List.getElem?_set_self (by simpa using h2), zd h1]
 ·rw [List.getElem?_set_ne (Ne.symm k2), List.getElem?_set_ne (Ne.symm k1)]
theorem up_ok {q : aw} {a b : Int} {f : Bool} {l : aF} {d : List Item} {j : Int} (hj : 0 ≤ j ∧ j < d.length) (hd : d.length ≤ 1000) : Ok (oz j q a b f l d) (fun r => r.Perm d) := by
 unfold oz
 refine Ok.bind (P := fun o : List Item => o.Perm d) (Ok.loop (fun s : Int × List Item => (0 ≤ s.1 ∧ s.1 < d.length) ∧ s.2.Perm d) (fun s => s.1.toNat) ?_ ⟨hj, List.Perm.refl _⟩) (fun o ho => Ok.ret ho)
 rintro ⟨s1, s2⟩ ⟨⟨i0, i1⟩, i2⟩
 simp only at i0 i1 i2
 have hlen : s2.length = d.length := i2.length_eq
 unfold mE
 dsimp only
 rw [w64 (n := s1 - 1) za za]
 have e : qd .i64 (s1 - 1) 2 = some (if s1 = 0 then 0 else (s1 - 1) / 2) := by
  unfold qd
  rw [if_neg za]
  split
  ·rename_i h; subst h; rfl
  ·rw [Int.tdiv_eq_ediv_of_nonneg za, w64 za za]
 rw [e, zc]
 refine Ok.sl (fun _ => by rw [zc]; exact Ok.st i2) (fun hne => ?_)
 have hp : s1 ≠ 0 := fun h => hne (by rw [if_pos h, h])
 rw [if_neg hp]
 refine Ok.bind (less_ok za za) (fun x hx => ?_)
 rw [hx]
 refine Ok.wm (fun _ => by rw [zc]; exact Ok.st i2) (fun _ => ?_)
 exact Ok.bind (swap_ok za za) (fun y hy => Ok.nx ⟨⟨zb, zb⟩, hy.1.trans i2⟩ zb)
theorem down_ok {q : aw} {a b : Int} {f : Bool} {l : aF} {d : List Item} {n : Int} (hn : 0 ≤ n ∧ n < d.length) (hd : d.length ≤ 1000) : Ok (nf 0 n q a b f l d) (fun r => r.2.Perm d ∧ r.2[n.toNat]? = d[n.toNat]?) := by
 unfold nf
 refine Ok.bind (P := fun o : Int × List Item => o.2.Perm d ∧ o.2[n.toNat]? = d[n.toNat]?) (Ok.loop (fun s : Int × List Item => (0 ≤ s.1 ∧ s.1 ≤ n) ∧ s.2.Perm d ∧ s.2[n.toNat]? = d[n.toNat]?) (fun s => (n - s.1).toNat) ?_ ⟨⟨sm, hn.1⟩, List.Perm.refl _, rfl⟩) (fun o ho => Ok.ret ho)
 rintro ⟨s1, s2⟩ ⟨⟨i0, i1⟩, i2, i3⟩
 simp only at i0 i1 i2 i3
 have hlen : s2.length = d.length := i2.length_eq
 unfold nI
 dsimp only
 rw [w64 (n := 2 * s1) za za, w64 (n := 2 * s1 + 1) za za, w64 (n := 2 * s1 + 1 + 1) za za]
 refine Ok.oV (fun _ => Ok.st ⟨i2, i3⟩) (fun h1 => Ok.oV (fun _ => Ok.st ⟨i2, i3⟩) (fun _ => ?_))
 have K : ∀ j, s1 < j → j < n → Ok (fM s1 j s2) (Ok.S (fun s : Int × List Item => (0 ≤ s.1 ∧ s.1 ≤ n) ∧ s.2.Perm d ∧ s.2[n.toNat]? = d[n.toNat]?) (fun s => (n - s.1).toNat) (fun o : Int × List Item => o.2.Perm d ∧ o.2[n.toNat]? = d[n.toNat]?) (s1, s2)) := fun j j0 j1 => by
  unfold fM
  refine Ok.bind (less_ok za za) (fun x hx => ?_)
  rw [hx]
  refine Ok.wm (fun _ => Ok.st ⟨i2, i3⟩) (fun _ => ?_)
  exact Ok.bind (swap_ok za za) (fun y hy => Ok.nx ⟨⟨zb, zb⟩, hy.1.trans i2, by rw [← i3]; exact hy.2.2 _ za za⟩ zb)
 refine Ok.oV (fun h2 => ?_) (fun _ => K _ za za)
 refine Ok.bind (less_ok za za) (fun x hx => ?_)
 rw [hx]
 exact Ok.wX (fun _ => K _ za za) (fun _ => K _ za za)
theorem pop_ok {q : aw} {a b : Int} {f : Bool} {l : aF} {x : Item} {d : List Item} (hd : (x :: d).length ≤ 1000) : Ok (ow q a b f l (x :: d)) (fun r => r.2.Perm d) := by
 have hlen : ((x :: d).length : Int) = d.length + 1 := by simp
 simp only [List.length_cons] at hd
 unfold ow hJ
 rw [zc]
 dsimp only
 rw [hlen, w64 (n := (d.length : Int) + 1 - 1) za za]
 refine Ok.bind (swap_ok za za) (fun y ⟨p1, p2, _⟩ => ?_)
 have hy : y.length = d.length + 1 := by have := p1.length_eq; simpa using this
 refine Ok.bind (down_ok za za) (fun z ⟨z1, z2⟩ => ?_)
 have hz : z.2.length = d.length + 1 := by rw [z1.length_eq, hy]
 unfold queue_Pop
 rw [hz, w64 (n := ((d.length + 1 : Nat) : Int) - 1) za za]
 refine Ok.bind (P := fun r : Item × List Item => r.2.Perm d) ?_ (fun r hr => Ok.ret hr)
 refine Ok.bind (Ok.qH za za) (fun _ _ => Ok.bind (Ok.get za za) (fun w _ => ?_))
 refine Ok.bind (Ok.sub za za za) (fun _ _ => Ok.ret ?_)
 simp only
 rw [show (((d.length + 1 : Nat) : Int) - 1).toNat = d.length by omega]
 have e : z.2[d.length]? = some x := by
  rw [show ((d.length : Int) + 1 - 1).toNat = d.length by omega] at z2 p2
  rw [z2, p2]; rfl
 obtain ⟨hh, e⟩ := List.getElem?_eq_some_iff.1 e
 have h3 : z.2 = z.2.take d.length ++ [x] := by
  conv => lhs; rw [← List.take_append_drop d.length z.2]
  rw [List.drop_eq_getElem_cons hh, e, List.drop_of_length_le za]
 have h4 : (z.2.take d.length ++ [x]).Perm (x :: d) := by rw [← h3]; exact z1.trans p1
 have h5 : (x :: z.2.take d.length).Perm (x :: d) := (List.perm_append_comm (l₁ := [x])).trans h4
 exact (List.perm_cons x).1 h5
theorem push_ok {q : aw} {a b : Int} {f : Bool} {l : aF} {x : Item} {d : List Item} (hd : d.length ≤ 500) : Ok (lO x q a b f l d) (fun r => r.Perm (x :: d)) := by
 unfold lO mU hJ
 refine Ok.bind (P := fun r => r = d ++ [x]) (Ok.bind (Ok.app (by simp only [List.length_cons, List.length_nil]; omega)) (fun r hr => Ok.ret hr)) (fun y hy => ?_)
 subst hy
 rw [zc]
 dsimp only
 have hl : ((d ++ [x]).length : Int) = d.length + 1 := by simp
 rw [hl, w64 za za]
 exact Ok.bind (up_ok za so) (fun r hr => Ok.ret (hr.trans (List.perm_append_comm (l₂ := [x]))))
theorem push1_ok {q : aw} {a b : Int} {f : Bool} {l : aF} {x : Item} : Ok (nd x q a b f l) (fun r => r.Perm [x]) := by
 unfold nd nY hJ
 refine Ok.bind (P := fun r => r = [x]) (Ok.bind (Ok.app sm) (fun r hr => Ok.ret hr)) (fun y hy => ?_)
 subst hy
 rw [zc]
 dsimp only
 rw [w64 sm sm]
 exact Ok.bind (up_ok sm sm) (fun r hr => Ok.ret hr)

def cnt : List Item → Int
 | [] => 0
 | x :: l => (2 * pts x.jZ - 1) + cnt l
theorem ot {l m : List Item} (h : l.Perm m) : cnt l = cnt m := by
 induction h with
 | nil => rfl
 | cons x _ ih => simp only [cnt, ih]
 | swap x y l => simp only [cnt]; omega
 | trans _ _ h1 h2 => rw [h1, h2]
def kS (r : ai) (l : List Item) : Prop := ∀ x ∈ l, Sub r x.jZ
theorem kS.perm {r : ai} {l m : List Item} (h : kS r m) (hp : l.Perm m) : kS r l := fun x hx => h x (hp.mem_iff.1 hx)
theorem cnt_len {q : aw} (hq : PV q) {l : List Item} (h : kS q.ac l) : (l.length : Int) ≤ cnt l := by
 induction l with
 | nil => simp [cnt]
 | cons x l ih =>
  have h1 := ih fun y hy => h y (List.mem_cons_of_mem _ hy)
  have h2 := (pts_in ((h x sm).ok hq.box hq.reg)).1
  simp only [cnt, List.length_cons]; omega
def Good (q : aw) (l : aF) : Prop := Sub q.ac ⟨l.aD, l.aD⟩ ∧ (Single q → l.aT = 0)
theorem add_ok {q : aw} (hq : PV q) {b : ai} (hb : Sub q.ac b) {n k : Int} {f : Bool} {l : aF} {d : List Item} (hd : d.length ≤ 500) : Ok (jx b q n k f l d) (fun r => r.1 = 0 ∧ ∃ x : Item, x.jZ = b ∧ r.2.2.Perm (x :: d)) := by
 unfold jx iI
 refine Ok.bind (bound_ok hq hb) (fun x hx => ?_)
 refine Ok.sl (fun _ => ?_) (fun h => (h hx).elim)
 exact Ok.bind (push_ok hd) (fun r hr => Ok.ret ⟨hx, _, rfl, hr⟩)
theorem add1_ok {q : aw} (hq : PV q) {b : ai} (hb : Sub q.ac b) {n k : Int} {f : Bool} {l : aF} : Ok (l6 b q n k f l) (fun r => r.1 = 0 ∧ ∃ x : Item, x.jZ = b ∧ r.2.1.Perm [x]) := by
 unfold l6 jo
 refine Ok.bind (bound_ok hq hb) (fun x hx => ?_)
 refine Ok.sl (fun _ => ?_) (fun h => (h hx).elim)
 exact Ok.bind push1_ok (fun r hr => Ok.ret ⟨hx, _, rfl, hr⟩)
theorem look_ok {q : aw} (hq : PV q) {b : ai} (hb : Sub q.ac b) {n k : Int} {f : Bool} {l : aF} {d : List Item} (hf : f = true → Good q l) : Ok (lc b q n k f l d) (fun r => r.1 = 0 ∧ r.2.1 = true ∧ Good q r.2.2) := by
 unfold lc
 refine Ok.bind (center_ok hq.box hq.reg hb) (fun p hp => ?_)
 refine Ok.bind (at_ok hq hp) (fun x hx => ?_)
 refine Ok.qv (fun h => (h hx.1).elim) (fun _ => ?_)
 have hg : Good q (aF.mk p x.1 x.2.1 0 (ai.mk (aa.mk 0 0 0) (aa.mk 0 0 0))) := ⟨hp, hx.2⟩
 refine Ok.wm (fun _ => Ok.ret ⟨rfl, rfl, hg⟩) (fun hft => ?_)
 refine Ok.oV (fun _ => Ok.ret ⟨rfl, rfl, hg⟩) (fun _ => Ok.sl (fun _ => ?_) (fun _ => Ok.ret ⟨rfl, hft, hf hft⟩))
 exact Ok.bind (compare_ok _ _) (fun c _ => Ok.oV (fun _ => Ok.ret ⟨rfl, rfl, hg⟩) (fun _ => Ok.ret ⟨rfl, hft, hf hft⟩))
theorem ended_ok {t : Int} {q : aw} {n k : Int} {f : Bool} {l : aF} {d : List Item} : Ok (kb t q n k f l d) (fun r => (r = false → d ≠ []) ∧ (r = true → d = [] ∨ f = true)) := by
 unfold kb
 refine Ok.sl (fun h => Ok.ret ⟨fun h => by simp at h, fun _ => .inl (List.length_eq_zero_iff.1 za)⟩) (fun h => ?_)
 have hd : d ≠ [] := fun e => h (by rw [e]; rfl)
 have := List.length_pos_iff.2 hd
 refine Ok.wX (fun hf => ?_) (fun _ => Ok.ret ⟨fun _ => hd, fun h => by simp at h⟩)
 exact Ok.bind (Ok.qH za za) (fun _ _ => Ok.bind (Ok.get za za) (fun _ _ => Ok.ret ⟨fun _ => hd, fun _ => .inr hf⟩))
theorem step_ok {q : aw} (hq : PV q) {n k : Int} {f : Bool} {l : aF} {d : List Item} (hd : d ≠ []) (ho : kS q.ac d) (hk : 0 ≤ k ∧ k + cnt d ≤ 200) (hf : f = true → Good q l) :
  Ok (ld q n k f l d) (fun r => r.1 = 0 ∧ r.2.2.1 = k + 1 ∧ r.2.2.2.1 = true ∧ Good q r.2.2.2.2.1 ∧ kS q.ac r.2.2.2.2.2 ∧ r.2.2.2.2.2.length ≤ d.length + 1 ∧ k + 1 + cnt r.2.2.2.2.2 ≤ k + cnt d) := by
 match d, hd with
 | x :: d, _ =>
  have hlen := cnt_len hq ho
  have hx := ho x sm
  have ho' : kS q.ac d := fun y hy => ho y (List.mem_cons_of_mem _ hy)
  have hpx := pts_in (hx.ok hq.box hq.reg)
  simp only [List.length_cons] at hlen
  unfold ld
  refine Ok.sl (fun h => za) (fun _ => ?_)
  refine Ok.bind (Ok.qH za sm) (fun _ _ => ?_)
  rw [show oT (x :: d) (0 : Int) = some x from rfl, zc]
  refine Ok.bind (pop_ok (by simp only [List.length_cons]; omega)) (fun y hy => ?_)
  have hyl : y.2.length = d.length := hy.length_eq
  have hyo : kS q.ac y.2 := ho'.perm hy
  have hyc : cnt y.2 = cnt d := ot hy
  have hcx : cnt (x :: d) = (2 * pts x.jZ - 1) + cnt d := rfl
  rw [w64 za za]
  refine Ok.bind (look_ok hq hx hf) (fun z hz => ?_)
  refine Ok.qv (fun h => (h hz.1).elim) (fun _ => ?_)
  refine Ok.bind (zQ hq.box hq.reg hx) (fun s hs => ?_)
  refine Ok.wm (fun _ => Ok.ret ⟨rfl, rfl, hz.2.1, hz.2.2, hyo, so, zb⟩) (fun hst => ?_)
  obtain ⟨s1, s2, s3⟩ := hs hst
  refine Ok.bind (add_ok hq s1 za) (fun u ⟨u1, a, ua, up⟩ => ?_)
  refine Ok.qv (fun h => (h u1).elim) (fun _ => ?_)
  have hul : u.2.2.length = d.length + 1 := by rw [up.length_eq]; simp [hyl]
  refine Ok.bind (add_ok hq s2 za) (fun v ⟨v1, b, vb, vp⟩ => Ok.ret ⟨v1, rfl, hz.2.1, hz.2.2, ?_, ?_, ?_⟩)
  ·refine kS.perm (fun w hw => ?_) vp
   rcases List.mem_cons.1 hw with rfl | hw
   ·rw [vb]; exact s2
   ·rcases List.mem_cons.1 (up.mem_iff.1 hw) with rfl | hw
    ·rw [ua]; exact s1
    ·exact hyo w hw
  ·simp only
   rw [vp.length_eq]; simp only [List.length_cons]; omega
  ·simp only
   rw [ot vp, hcx]
   simp only [cnt]
   rw [ot up]
   simp only [cnt]
   rw [ua, vb]; omega
theorem run_ok {q : aw} (hq : PV q) {t : Int} (ht : 0 ≤ t) : Ok (iU q t) (fun r => r.2 = 0 ∧ ∃ s, r.1 = some s ∧ Good q s.br ∧ kS q.ac s.mC ∧ s.mC.length ≤ 200) := by
 have hpr := pts_in hq.box
 unfold iU
 rw [validate_at hq, zc, if_neg sm, if_neg so]
 refine Ok.bind (add1_ok hq (Sub.refl hq.box)) (fun x ⟨x1, a, xa, xp⟩ => ?_)
 refine Ok.qv (fun h => (h x1).elim) (fun _ => ?_)
 have hxc : cnt x.2.1 = 2 * pts q.ac - 1 := by rw [ot xp]; simp only [cnt]; rw [xa]; omega
 have hxo : kS q.ac x.2.1 := kS.perm (fun w hw => by rw [List.mem_singleton.1 hw, xa]; exact Sub.refl hq.box) xp
 refine Ok.bind (P := fun o => ∃ y, o = .inl y ∧ Good q y.2.2.2.2 ∧ kS q.ac y.1 ∧ y.1.length ≤ 200) (Ok.loop (fun s : Int × Int × Bool × aF × List Item => (0 ≤ s.2.1 ∧ s.2.1 + cnt s.2.2.2.2 ≤ 200) ∧ kS q.ac s.2.2.2.2 ∧ (s.2.2.1 = true → Good q s.2.2.2.1) ∧ (s.2.2.2.2 = [] → s.2.2.1 = true)) (fun s => (200 - s.2.1).toNat) ?_ ⟨⟨sm, zb⟩, hxo, sm, fun h => ?_⟩) (fun o ⟨y, ho, h1, h2, h3⟩ => by subst ho; exact Ok.ret ⟨rfl, _, rfl, h1, h2, h3⟩)
 ·rintro ⟨s6, s7, s8, s9, s10⟩ ⟨⟨i0, i1⟩, i2, i3, i4⟩
  simp only at i0 i1 i2 i3 i4
  have hl := cnt_len hq i2
  unfold kE
  dsimp only
  refine Ok.bind ended_ok (fun e he => ?_)
  refine Ok.wm (fun hef => ?_) (fun het => Ok.st ⟨_, rfl, ?_, i2, zb⟩)
  ·have hne := he.1 hef
   have := List.length_pos_iff.2 hne
   refine Ok.bind (step_ok hq hne i2 ⟨i0, i1⟩ i3) (fun r ⟨r1, r2, r3, r4, r5, r6, r7⟩ => ?_)
   refine Ok.qv (fun h => (h r1).elim) (fun _ => ?_)
   exact Ok.nx ⟨⟨zb, zb⟩, r5, fun _ => r4, fun _ => r3⟩ zb
  ·refine i3 ?_
   rcases he.2 het with h | h
   ·exact i4 h
   ·exact h
 ·simp only at h
  rw [h] at hxc
  simp only [cnt] at hxc; omega
theorem locate_ok {q : aw} (hq : PV q) {t : Int} (ht : 0 ≤ t) : Ok (gK q t) (fun r => r.2 = 0 ∧ Sub q.ac r.1.au ∧ (Single q → r.1.aT = 0)) := by
 unfold gK
 refine Ok.bind (run_ok hq ht) (fun x ⟨x1, s, xs, ⟨g1, g2⟩, ho, hs⟩ => ?_)
 rw [xs]
 show Ok (if (x.2 != (0 : Int)) = true then _ else _) _
 refine Ok.qv (fun h => (h x1).elim) (fun _ => ?_)
 refine Ok.bind (P := fun o : Int × ai => Sub q.ac o.2) (Ok.loop (fun u : Int × Int × ai => (0 ≤ u.1 ∧ u.1 ≤ s.mC.length) ∧ Sub q.ac u.2.2) (fun u => ((s.mC.length : Int) - u.1).toNat) ?_ ⟨⟨sm, sm⟩, g1⟩) (fun o ho => Ok.ret ⟨rfl, ho, g2⟩)
 rintro ⟨u1, u2, u3⟩ ⟨⟨i0, i1⟩, i2⟩
 simp only at i0 i1 i2
 unfold kY
 refine Ok.oV (fun hlt => ?_) (fun _ => Ok.st i2)
 refine Ok.bind (Ok.get za za) (fun y hy => ?_)
 rw [w64 za za]
 refine Ok.oV (fun _ => ?_) (fun _ => Ok.nx ⟨⟨zb, zb⟩, i2⟩ zb)
 exact Ok.bind (hull_ok hq.box hq.reg i2 (ho y hy.1)) (fun z hz => Ok.nx ⟨⟨zb, zb⟩, hz⟩ zb)
end Go.Dw.So



set_option maxRecDepth 100000
set_option maxHeartbeats 4000000
namespace Go.Dw.So
open Go.Dw Go.Proofs
open Sd (my ko iR)

structure UsV (a : aG) (r : av × al × Bool) : Prop where
 ph : PhV r.1
 reach : Reach a.ag.az (nN a.ag.ac r.1.aL)
 resp : lj r.2.1.bi
noncomputable def used (a : aG) (v : aC) (p : Pick) : av × al × Bool := (cw a v p).getD (⟨⟨0, 0, 0⟩, 0, 0, 0⟩, zEp, false)
theorem epAt_ok {v : aC} (hv : lH v) {s : Sid} {t : Int} {e : al} (h : nM v s t = some e) : EpOk e := by
 unfold nM at h
 cases hc : chan v s with
 | none => rw [hc] at h; cases h
 | some c =>
  rw [hc] at h
  exact (hv.all c (chan_mem hc).1).2.all e (epIn_mem h).1
theorem phase_ok {e : al} (he : EpOk e) {p : Pick} (hp : iO p) : PhV ⟨e.aS, p.bw, p.bO, 1⟩ := by
 obtain ⟨h0, h1, h2, h3, h4, h5⟩ := hp
 exact ⟨he.pos, h1, zb, zb, rfl⟩
theorem oO {a : aG} (ha : SetV a) {v : aC} (hv : lH v) {p : Pick} (hp : iO p) : cw a v p = some (used a v p) ∧ ((used a v p).2.2 = true → UsV a (used a v p)) := by
 have h : Ok (cw a v p) (fun r => r.2.2 = true → UsV a r) := by
  unfold cw
  rw [valid_pick hp, zc, if_neg sm, At_eq hv.lens (inv_valid hv), zc]
  cases h : nM v p.aH p.a8 with
  | none =>
   dsimp only
   rw [if_pos sm]
   exact Ok.ret sm
  | some e =>
   dsimp only
   rw [if_neg sm]
   have he := epAt_ok hv h
   refine Ok.bind (zone_ok ha.tab ha.box (a := ⟨e.aS, p.bw, p.bO, 1⟩) (phase_ok he hp)) (fun z hz => ?_)
   exact Ok.qv (fun _ => Ok.ret sm) (fun h0 => Ok.ret fun _ => ⟨phase_ok he hp, hz.1.1 h0, he.resp⟩)
 obtain ⟨r, e, hr⟩ := h
 have : used a v p = r := by unfold used; rw [e]; rfl
 rw [this]
 exact ⟨e, hr⟩
noncomputable def cW (a : aG) (v : aC) (L : List Pick) : List Pick := L.filter fun p => (used a v p).2.2
noncomputable def mat (a : aG) (v : aC) (U : List Pick) : a7 := ⟨U, U.map fun p => (used a v p).1, U.map fun p => (used a v p).2.1⟩
theorem na {a : aG} (ha : SetV a) {v : aC} (hv : lH v) {l L : List Pick} (hL : eJ l = some L) (hl : L.length ≤ 20) (hp : ∀ p ∈ L, iO p) : fI a v l = some (mat a v (cW a v L), 0) := by
 unfold fI
 rw [set_valid ha, zc, if_neg sm, inv_valid hv, zc, if_neg sm, hL, zc]
 have : Ok (e8 (gD L a v) ((0 : Int), ([] : List aq), ([] : List av), ([] : List al))) (fun o => o = ((mat a v (cW a v L)).cg, (mat a v (cW a v L)).b8, (mat a v (cW a v L)).ez)) := by
  refine Ok.loop (fun s : Int × List Pick × List av × List al => ∃ i : Nat, i ≤ L.length ∧ s = ((i : Int), (mat a v (cW a v (L.take i))).cg, (mat a v (cW a v (L.take i))).b8, (mat a v (cW a v (L.take i))).ez)) (fun s => ((L.length : Int) - s.1).toNat) ?_ ⟨0, Nat.zero_le _, rfl⟩
  rintro s ⟨i, i0, rfl⟩
  unfold gD
  dsimp only
  refine Ok.oV (fun hlt => ?_) (fun hge => Ok.st ?_)
  rotate_left
  ·obtain rfl : i = L.length := by omega
   rw [List.take_length]
  have hi : i < L.length := by omega
  have hlu : (cW a v (L.take i)).length ≤ 20 := by
   have := List.length_filter_le (fun p => (used a v p).2.2) (L.take i)
   have h2 : (L.take i).length ≤ L.length := by rw [List.length_take]; omega
   unfold cW; omega
  rw [pM rfl hi, zc, (oO ha hv (hp _ (List.getElem_mem hi))).1, zc, w64 za za]
  have ht : cW a v (L.take (i + 1)) = cW a v (L.take i) ++ (if (used a v L[i]).2.2 = true then [L[i]] else []) := by
   unfold cW
   rw [p8 hi, List.filter_append]
   congr 1
   by_cases h : (used a v L[i]).2.2 = true <;> simp [h]
  by_cases hu : (used a v L[i]).2.2 = true
  ·rw [if_pos hu] at ht ⊢
   rw [ol (by simp only [mat, List.length_cons, List.length_nil]; omega), zc, ol (by simp only [mat, List.length_map, List.length_cons, List.length_nil]; omega), zc, ol (by simp only [mat, List.length_map, List.length_cons, List.length_nil]; omega), zc]
   refine Ok.nx ⟨i + 1, hi, ?_⟩ zb
   rw [ht]
   simp [mat]
  ·rw [if_neg hu] at ht ⊢
   refine Ok.nx ⟨i + 1, hi, ?_⟩ zb
   rw [ht]
   simp
 rw [this.eq, zc]

noncomputable def mZ (m : a7) (a : aG) : Option (aQ × Int) :=
 (gw m a).bind fun x3 => if (x3.2 != (0 : Int)) = true then (some ((aQ.mk [] (aF.mk (aa.mk 0 0 0) 0 0 0 (ai.mk (aa.mk 0 0 0) (aa.mk 0 0 0))) (aA.mk 0 0) 0), x3.2)) else ((gK x3.1 a.bc).bind fun x5 => if (x5.2 != (0 : Int)) = true then (some ((aQ.mk [] (aF.mk (aa.mk 0 0 0) 0 0 0 (ai.mk (aa.mk 0 0 0) (aa.mk 0 0 0))) (aA.mk 0 0) 0), x5.2)) else ((ci m a x5.1.au).bind fun x7 => if (decide ((x7.length : Int) > (0 : Int))) = true then ((eF x7).bind fun x9 => if (x9.2 != (0 : Int)) = true then (some ((aQ.mk [] (aF.mk (aa.mk 0 0 0) 0 0 0 (ai.mk (aa.mk 0 0 0) (aa.mk 0 0 0))) (aA.mk 0 0) 0), x9.2)) else (some ((aQ.mk m.cg x5.1 x9.1 (x7.length : Int)), (0 : Int)))) else (some ((aQ.mk m.cg x5.1 (aA.mk 0 0) 0), (0 : Int)))))
theorem oK {a : aG} {v : aC} {l : List Pick} {m : a7} (h : fI a v l = some (m, 0)) : cj a v l = mZ m a := by
 unfold cj
 rw [h, zc, if_neg sm]
 rfl
structure MatP (a : aG) (m : a7) : Prop where
 mat : MatV m
 ph : ∀ b ∈ m.b8, PhV b ∧ Reach a.ag.az (nN a.ag.ac b.aL)
theorem mat_ok {a : aG} (ha : SetV a) {v : aC} (hv : lH v) {U : List Pick} (hl : U.length ≤ 12) (hp : ∀ p ∈ U, iO p ∧ (used a v p).2.2 = true) : MatP a (mat a v U) := by
 refine ⟨⟨⟨by simp [mat], by simp [mat]⟩, hl, fun b hb => ?_, fun e he => ?_⟩, fun b hb => ?_⟩
 ·obtain ⟨p, h, rfl⟩ := List.mem_map.1 hb
  exact ((oO ha hv (hp p h).1).2 (hp p h).2).ph.pos
 ·obtain ⟨p, h, rfl⟩ := List.mem_map.1 he
  exact ((oO ha hv (hp p h).1).2 (hp p h).2).resp
 ·obtain ⟨p, h, rfl⟩ := List.mem_map.1 hb
  have := (oO ha hv (hp p h).1).2 (hp p h).2
  exact ⟨this.ph, this.reach⟩
theorem clone_at' {l : List Int} (h : l.length ≤ 1000) : p9 8 l = some l := by
 unfold p9
 rw [if_pos za]
theorem solve_ok {a : aG} (ha : SetV a) {m : a7} (hm : MatP a m) : Ok (mZ m a) (fun r => (m.cg = [] → r.2 = 24) ∧ (m.cg ≠ [] → r.2 = 0 ∧ r.1.fm = m.cg ∧ (m.cg.length = 1 → r.1.ar.aT = 0)) ∧ r.1.fm.length ≤ 12) := by
 obtain ⟨hm, hph⟩ := hm
 obtain ⟨⟨l1, l2⟩, l3, -, -⟩ := id hm
 have hl := ha.tab.len; have hs := ha.tab.same
 unfold mZ gw
 by_cases h0 : m.cg = []
 ·rw [if_pos (by simp [l1, h0]), zc, if_pos sm]
  exact Ok.ret ⟨fun _ => rfl, fun h => (h h0).elim, sm⟩
 have hpos := List.length_pos_iff.2 h0
 rw [if_neg (by simp; intro e; rw [e] at l1; simp at l1; omega), if_neg so, clone_at' za, zc, clone_at' za, zc, zc, if_neg sm]
 have hq : PV ⟨a.ag.ac, ⟨a.ag.az.aU, a.ag.az.ak, a.ag.az.ae⟩, m.b8, a.ag.bG⟩ := ⟨ha.box, ha.reg, ha.tab, ⟨zb, zb⟩, ha.cap, hph⟩
 refine Ok.bind (locate_ok hq ha.tolerance.1) (fun x ⟨x1, x2, x3⟩ => ?_)
 refine Ok.qv (fun h => (h x1).elim) (fun _ => ?_)
 refine Ok.bind (estimates_ok ha hm (x2.ok ha.box ha.reg)) (fun y hy => ?_)
 have hmis : m.cg.length = 1 → x.1.aT = 0 := fun h => x3 (by show m.b8.length = 1; omega)
 refine Ok.oV (fun hgt => ?_) (fun _ => Ok.ret ⟨fun h => (h0 h).elim, fun _ => ⟨rfl, rfl, hmis⟩, l3⟩)
 refine Ok.bind (network_ok za hy.1 hy.2) (fun z hz => ?_)
 exact Ok.qv (fun h => (h hz).elim) (fun _ => Ok.ret ⟨fun h => (h0 h).elim, fun _ => ⟨rfl, rfl, hmis⟩, l3⟩)
theorem solve_resp {m : a7} {e : List al} (h : e.map (·.bi) = m.ez.map (·.bi)) (a : aG) : mZ ⟨m.cg, m.b8, e⟩ a = mZ m a := by
 unfold mZ
 simp only [estimates_eq h]
 rfl
theorem same_self {s : aQ} (h : s.fm.length ≤ 1000) : jb s s = some true := by
 unfold jb
 rw [same_refl h]
 simp
end Go.Dw.So



set_option maxRecDepth 100000
set_option maxHeartbeats 4000000
namespace Go.Dw.So
open Go.Dw Go.Proofs
open Sd (my ko iR)
def ex1 (s : Sid) : Pick := ⟨s, 2500, 2500, 2500, 10, 0⟩
theorem ex_used : ((nT []).bind fun x1 => (kl 2 x1).bind fun x2 => (mr 3 x2.2).bind fun x3 => (jl 1).bind fun x5 => (jP x2.1 x3.1 (ex1 x5)).bind fun r => some r.2.2) = some true := by kernel_rfl
theorem ex_used' : ((iz []).bind fun x1 => (cK 2 x1).bind fun x2 => (eW 3 x2.2).bind fun x3 => (dw 1).bind fun x5 => (cw x2.1 x3.1 (ex1 x5)).bind fun r => some r.2.2) = some true :=
 (Le.bind (keep_New_le _) fun _ => Le.bind (Src_Settings_le _ _) fun _ => Le.bind (Src_Sites_le _ _) fun _ => Le.bind (mJ _) fun _ => Le.bind (solution_used_le _ _ _) fun _ => Le.refl _) _ ex_used
theorem ex_ok {s : Sid} (h : IsSid s) : iO (ex1 s) := ⟨h, by simp [ex1], by simp [ex1], by simp [ex1], by simp [ex1], by simp [ex1], by simp [ex1], by simp [ex1], by simp [ex1]⟩
theorem sort_nil : eJ [] = some [] := by
 obtain ⟨L, e, -, m, -⟩ := oc (l := []) sm
 have hL : L = [] := List.eq_nil_iff_forall_not_mem.2 fun p hp => by have := (m p).1 hp; cases this
 rw [e, hL]
theorem sort_one (p : Pick) : eJ [p] = some [p] := by
 obtain ⟨L, e, s, m, -⟩ := oc (l := [p]) sm
 rw [e, lv s (List.pairwise_singleton _ p) m]
theorem awake_at : ic = some true := by
 refine Ok.eq ?_
 have hc := ex_used'
 unfold ic
 obtain ⟨d0, e0, h0⟩ := new_ok []
 rw [e0, zc] at hc ⊢
 obtain ⟨x2, e2, ha, h2⟩ := settingsV (k := 2) za d0 h0
 rw [e2, zc] at hc ⊢
 obtain ⟨x3, e3, ⟨hv, -⟩, -⟩ := sitesV (n := 3) x2.2 h2
 rw [e3, zc] at hc ⊢
 obtain ⟨x5, e5, h5⟩ := source_ok 1
 rw [e5, zc] at hc
 have hp := ex_ok h5
 obtain ⟨u1, u2⟩ := oO ha hv hp
 rw [u1, zc] at hc
 have hu := Option.some.inj hc
 have g0 := na ha hv sort_nil sm sm
 have g1 := na ha hv (sort_one (ex1 x5)) sm (by simpa using hp)
 have hU : cW x2.1 x3.1 [ex1 x5] = [ex1 x5] := by unfold cW; simp [hu]
 have hN : cW x2.1 x3.1 [] = [] := rfl
 rw [hU] at g1
 rw [hN] at g0
 rw [oK g0]
 refine Ok.bind (solve_ok ha (mat_ok ha hv sm sm)) (fun x4 h4 => ?_)
 rw [e5, zc]
 show Ok ((cj x2.1 x3.1 [ex1 x5]).bind _) _
 rw [oK g1]
 refine Ok.bind (solve_ok ha (mat_ok ha hv sm (by simpa using ⟨hp, hu⟩))) (fun x6 h6 => ?_)
 obtain ⟨r1, r2, r3⟩ := h6.2.1 (by simp [mat])
 have r3 := r3 (by simp [mat])
 have r2 : x6.1.fm = [ex1 x5] := r2
 have r4 := h4.1 rfl
 rw [if_pos (by simpa using r4), if_pos (by simpa using r1), r2, if_pos sm, show oT [ex1 x5] (0 : Int) = some (ex1 x5) from rfl, zc, if_pos (by simp [ex1]), if_pos (by simpa using r3), set_valid ha]
 exact Ok.ret rfl
end Go.Dw.So
