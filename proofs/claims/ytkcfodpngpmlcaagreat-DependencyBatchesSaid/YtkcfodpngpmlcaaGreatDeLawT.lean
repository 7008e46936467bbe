
import Derived.Test.YtkcfodpngpmlcaaGreatDeFn
import Derived.Test.YtkcfodpngpmlcaaGreatDwPlain
import Derived.Test.YtkcfodpngpmlcaaGreatDwOk
import Derived.Test.YtkcfodpngpmlcaaGreatDeCo
import Derived.KernelRfl



set_option maxRecDepth 100000
set_option maxHeartbeats 4000000
namespace Go.Dw.De
namespace So
open Go.Dw
abbrev Src := ag
theorem byteO_at {s : List UInt8} {n : Int} {i : Nat} (hn : n = i) (hi : i < s.length) : mo s n = some ((s[i].toNat : Nat) : Int) := by
 subst hn
 unfold mo
 rw [if_pos ⟨om, om⟩, Int.toNat_natCast, List.getD_eq_getElem?_getD, ge hi]; rfl
theorem cutO_at {α : Type} {l : List α} {a b : Int} {i j : Nat} (ha : a = i) (hb : b = j) (h1 : i ≤ j) (h2 : j ≤ l.length) : cutO l a b = some ((l.drop i).take (j - i)) := by
 subst ha hb
 unfold cutO
 rw [if_pos ⟨om, om, om⟩, Int.toNat_natCast, Int.toNat_natCast]
theorem cg {α : Type} {l m : List α} {b : Nat} (h : (l.length + m.length) * b ≤ 140737488355328) : dJ l m b = some (l ++ m) := by
 unfold dJ
 rw [if_pos h]
theorem loop_list {α ω : Type} {body : Int → Option (cb Int ω)} (l : List α) {p : α → Bool} {u r : ω} (h1 : ∀ (i : Nat) (hi : i < l.length), body i = if p l[i] = true then some (.next ((i + 1 : Nat) : Int)) else some (.stop r))
  (h2 : body (l.length : Nat) = some (.stop u)) : bF body (0 : Int) = some (if l.all p = true then u else r) := by
 have : ∀ k i, i + k = l.length → bF body (i : Int) = some (if (l.drop i).all p = true then u else r) := by
  intro k
  induction k with
  | zero =>
   intro i hi
   obtain rfl : i = l.length := by omega
   rw [cZ h2]; simp
  | succ k ih =>
   intro i hi
   have hlt : i < l.length := by omega
   rw [List.drop_eq_getElem_cons hlt, List.all_cons]
   by_cases hp : p l[i] = true
   ·rw [eb (by rw [h1 i hlt, if_pos hp]), ih (i + 1) om, hp, Bool.true_and]
   ·rw [cZ (by rw [h1 i hlt, if_neg hp])]; simp [hp]
 have := this l.length 0 om
 simpa using this

def uC (c : UInt8) : Bool := (decide (65 ≤ c.toNat) && decide (c.toNat ≤ 90)) || (decide (48 ≤ c.toNat) && decide (c.toNat ≤ 57))
theorem dec1 (n : Nat) : decide ((n : Int) ≥ 65) = decide (65 ≤ n) := decide_eq_decide.2 om
theorem dec2 (n : Nat) : decide ((n : Int) ≤ 90) = decide (n ≤ 90) := decide_eq_decide.2 om
theorem dec3 (n : Nat) : decide ((n : Int) ≥ 48) = decide (48 ≤ n) := decide_eq_decide.2 om
theorem dec4 (n : Nat) : decide ((n : Int) ≤ 57) = decide (n ≤ 57) := decide_eq_decide.2 om
theorem plain_eq (c : UInt8) : lY ((c.toNat : Nat) : Int) = some (uC c) := by
 unfold lY uC
 rw [dec1, dec2, dec3, dec4]
 cases decide (65 ≤ c.toNat) <;> cases decide (c.toNat ≤ 90) <;> cases decide (48 ≤ c.toNat) <;> simp
def lZ (s : List UInt8) (lo hi : Int) : Bool := s.all uC && (decide ((s.length : Int) ≥ lo) && decide ((s.length : Int) ≤ hi))
theorem code_l7 {s : List UInt8} (hs : s.length ≤ 9223372036854775807) : bF (jL s) (0 : Int) = some (if s.all uC = true then .inl () else .inr false) := by
 refine loop_list s (fun i hi => ?_) ?_
 ·unfold jL
  rw [if_pos so, byteO_at rfl hi, w64 om om]
  simp only [zb, plain_eq]
  cases uC s[i] <;> simp
 ·unfold jL
  rw [if_neg sm]
theorem code_eq {s : List UInt8} (hs : s.length ≤ 9223372036854775807) (lo hi : Int) : je s lo hi = some (lZ s lo hi) := by
 unfold je lZ
 rw [code_l7 hs]
 cases s.all uC with
 | true => cases decide ((s.length : Int) ≥ lo) <;> simp
 | false => rfl
def SidLen (x : Src) : Prop := x.aC.length ≤ 9223372036854775807 ∧ x.aA.length ≤ 9223372036854775807 ∧ x.av.length ≤ 9223372036854775807 ∧ x.aD.length ≤ 9223372036854775807
def jt (x : Src) : Bool := lZ x.aC 1 2 && (lZ x.aA 1 5 && (lZ x.av 0 2 && (decide (x.av.length ≠ 1) && lZ x.aD 3 3)))
theorem vV {x : Src} (hx : SidLen x) : jd x = some (jt x) := by
 obtain ⟨h1, h2, h3, h4⟩ := hx
 unfold jd jt
 simp only [code_eq h1, code_eq h2, code_eq h3, code_eq h4, zb]
 have e : ((x.av.length : Int) != 1) = decide (x.av.length ≠ 1) := by
  by_cases h : x.av.length = 1
  ·simp [h]
  ·simp [h]; omega
 rw [e]
 cases lZ x.aC 1 2 <;> cases lZ x.aA 1 5 <;> cases lZ x.av 0 2 <;> cases decide (x.av.length ≠ 1) <;> simp
theorem wI {s : List UInt8} {lo : Int} {hi : Nat} (h : lZ s lo hi = true) : s.length ≤ hi := by
 unfold lZ at h
 simp only [Bool.and_eq_true, decide_eq_true_eq] at h
 omega
theorem valid_len {x : Src} (h : jt x = true) : x.aC.length ≤ 2 ∧ x.aA.length ≤ 5 ∧ x.av.length ≤ 2 ∧ x.aD.length ≤ 3 := by
 unfold jt at h
 simp only [Bool.and_eq_true] at h
 exact ⟨wI (hi := 2) h.1, wI (hi := 5) h.2.1, wI (hi := 2) h.2.2.1, wI (hi := 3) h.2.2.2.2⟩

end So
end Go.Dw.De


set_option maxRecDepth 100000
set_option maxHeartbeats 4000000
namespace Go.Dw.De
open Go.Dw
abbrev Src := ah
abbrev Pick := aa
abbrev Sid := ag

theorem mod_ok (a b : Int) (h0 : 1 ≤ b) (h1 : b ≤ 1000000000) : Ok (sa a b) (fun r => 0 ≤ r ∧ r < b) := by
 unfold sa
 have hl : a.tmod b < b := Int.tmod_lt_of_pos _ om
 have hg : -b < a.tmod b := by
  rcases Int.le_total 0 a with h | h
  ·have := Int.tmod_nonneg b h; omega
  ·have e : a.tmod b = -((-a).tmod b) := by rw [Int.neg_tmod]; omega
   have := Int.tmod_lt_of_pos (-a) (show 0 < b by omega)
   omega
 refine Ok.ea (fun _ => om) (fun _ => ?_)
 refine Ok.bind (Ok.rem om) (fun x hx => ?_)
 subst hx
 refine Ok.ea (fun _ => ?_) (fun _ => ?_)
 ·rw [w64 om om]
  exact Ok.ret om
 ·exact Ok.ret om
def b7 (d : Src) : Prop := 0 ≤ d.fAt ∧ d.fAt ≤ d.fL.length ∧ d.fL.length ≤ 2000
theorem raw_ok (d : Src) (hd : b7 d) : Ok (wG d) (fun r => b7 r.2) := by
 obtain ⟨h0, h1, h2⟩ := hd
 unfold wG
 refine Ok.ea (fun _ => Ok.ret ⟨h0, h1, h2⟩) (fun h => ?_)
 rw [w64 (n := d.fAt + 1) om om, w64 om om]
 refine Ok.bind (Ok.get om om) (fun x _ => ?_)
 refine Ok.ret ⟨?_, ?_, h2⟩ <;> simp only <;> omega
theorem eQ (k : Int) (d : Src) (hd : b7 d) (h0 : 1 ≤ k) (h1 : k ≤ 1000000000) : Ok (cV k d) (fun r => 0 ≤ r.1 ∧ r.1 < k ∧ b7 r.2) := by
 unfold cV
 refine Ok.bind (raw_ok d hd) (fun x hx => ?_)
 refine Ok.bind (mod_ok _ _ h0 h1) (fun y hy => ?_)
 exact Ok.ret ⟨hy.1, hy.2, hx⟩
theorem gE (l : List Int) (d : Src) (hd : b7 d) (h0 : l ≠ []) (h1 : l.length ≤ 1000000) : Ok (di l d) (fun r => r.1 ∈ l ∧ b7 r.2) := by
 unfold di
 have := List.length_pos_iff.2 h0
 refine Ok.bind (eQ _ d hd om om) (fun x hx => ?_)
 refine Ok.bind (Ok.get hx.1 hx.2.1) (fun y hy => ?_)
 exact Ok.ret ⟨hy.1, hx.2.2⟩
def stas : List (List UInt8) := [[83, 49], [83, 50], [83, 51], [83, 52], [83, 53], [83, 54]]
def IsSid (a : Sid) : Prop := So.jt a = true
theorem stas_ok : ∀ x ∈ stas, So.jt ⟨[65, 66], x, [48, 48], [66, 72, 90]⟩ = true := by decide +kernel
theorem source_ok (n : Int) : Ok (dF n) IsSid := by
 unfold dF
 refine Ok.bind (mod_ok n 6 om om) (fun x hx => ?_)
 refine Ok.bind (Ok.get hx.1 hx.2) (fun y hy => ?_)
 exact Ok.ret (stas_ok y hy.1)
theorem new_ok (l : List Int) : Ok (mI l) b7 := by
 unfold mI
 refine Ok.bind (Ok.cut om (by split <;> omega) (by split <;> omega)) (fun x hx => ?_)
 subst hx
 refine Ok.ret ⟨sm, sm, ?_⟩
 simp only [List.length_take, List.length_drop]
 split <;> omega


def tN (m : Int) (p : ap) : Prop := (-m ≤ p.fX ∧ p.fX ≤ m) ∧ (-m ≤ p.fY ∧ p.fY ≤ m) ∧ (-m ≤ p.fZ ∧ p.fZ ≤ m)
theorem t8 (m : Int) (h0 : 0 ≤ m) (h1 : m ≤ 1000) (d : Src) (hd : b7 d) : Ok (lH m d) (fun r => tN m r.1 ∧ b7 r.2) := by
 unfold lH
 rw [w64 (n := 2 * m) om om, w64 (n := 2 * m + 1) om om, w64 (n := m + 1) om om]
 refine Ok.bind (eQ _ _ hd om om) (fun y1 g1 => ?_)
 refine Ok.bind (eQ _ _ g1.2.2 om om) (fun y2 g2 => ?_)
 refine Ok.bind (eQ _ _ g2.2.2 om om) (fun y3 g3 => ?_)
 rw [w64 (n := y1.1 - m) om om, w64 (n := y2.1 - m) om om]
 exact Ok.ret ⟨⟨za, za, za⟩, g3.2.2⟩
def BoxOk (b : aP) : Prop := tN 40 b.bd ∧ (0 ≤ b.aZ.fX - b.bd.fX ∧ b.aZ.fX - b.bd.fX ≤ 20) ∧ (0 ≤ b.aZ.fY - b.bd.fY ∧ b.aZ.fY - b.bd.fY ≤ 20) ∧ (0 ≤ b.aZ.fZ - b.bd.fZ ∧ b.aZ.fZ - b.bd.fZ ≤ 20)
theorem box_ok (m side : Int) (h0 : 0 ≤ m) (h1 : m ≤ 40) (h2 : 0 ≤ side) (h3 : side ≤ 20) (d : Src) (hd : b7 d) : Ok (wF m side d) (fun r => BoxOk r.1 ∧ b7 r.2) := by
 unfold wF
 rw [w64 (n := side + 1) om om]
 refine Ok.bind (t8 m h0 om d hd) (fun y0 g0 => ?_)
 refine Ok.bind (eQ _ _ g0.2 om om) (fun y1 g1 => ?_)
 refine Ok.bind (eQ _ _ g1.2.2 om om) (fun y2 g2 => ?_)
 refine Ok.bind (eQ _ _ g2.2.2 om om) (fun y3 g3 => ?_)
 obtain ⟨⟨p1, p2, p3⟩, -⟩ := g0
 rw [w64 (n := y0.1.fX + y1.1) om om, w64 (n := y0.1.fY + y2.1) om om, w64 (n := y0.1.fZ + y3.1) om om]
 refine Ok.ret ⟨⟨⟨za, za, za⟩, za, za, za⟩, g3.2.2⟩

structure TabOk (t : aO) : Prop where
 step : t.bJ = 20 ∨ t.bJ = 25 ∨ t.bJ = 40 ∨ t.bJ = 100
 len : 1 ≤ t.bd.length ∧ t.bd.length ≤ 30
 same : t.aZ.length = t.bd.length
 low : ∀ x ∈ t.bd, 0 ≤ x ∧ x ≤ 3000
 high : ∀ x ∈ t.aZ, 0 ≤ x ∧ x ≤ 5000
theorem table_ok (d : Src) (hd : b7 d) : Ok (oV d) (fun r => TabOk r.1 ∧ b7 r.2) := by
 unfold oV
 refine Ok.bind (gE _ d hd sm sm) (fun x1 h1 => ?_)
 obtain ⟨hst, h1⟩ := h1
 have hst : x1.1 = 20 ∨ x1.1 = 25 ∨ x1.1 = 40 ∨ x1.1 = 100 := by simpa using hst
 refine Ok.bind (eQ _ _ h1 om om) (fun x2 h2 => ?_)
 have hq : ∃ q, IntKind.wrap .i64 ((400 : Int).tdiv x1.1) = q ∧ 4 ≤ q ∧ q ≤ 20 := by
  rcases hst with e | e | e | e <;> rw [e] <;> exact ⟨_, rfl, by decide, by decide⟩
 have hp : ∃ q, IntKind.wrap .i64 (x1.1.tdiv 4) = q ∧ 0 ≤ q ∧ q ≤ 25 := by
  rcases hst with e | e | e | e <;> rw [e] <;> exact ⟨_, rfl, by decide, by decide⟩
 obtain ⟨q, hq, q0, q1⟩ := hq
 obtain ⟨p, hp, p0, p1⟩ := hp
 refine Ok.bind (P := fun o => b7 ⟨o.1, o.2.1⟩ ∧ (1 ≤ o.2.2.1.length ∧ o.2.2.1.length ≤ 30) ∧ o.2.2.2.length = o.2.2.1.length ∧ (∀ x ∈ o.2.2.1, 0 ≤ x ∧ x ≤ 3000) ∧ (∀ x ∈ o.2.2.2, 0 ≤ x ∧ x ≤ 5000))
  (Ok.loop (fun s => (0 ≤ s.2.2.1 ∧ s.2.2.1 ≤ 23) ∧ s.2.2.2.2.2.1.length = s.2.2.1.toNat ∧ s.2.2.2.2.2.2.length = s.2.2.1.toNat ∧ (0 ≤ s.1 ∧ s.1 ≤ 60 * s.2.2.1) ∧ (0 ≤ s.2.1 ∧ s.2.1 ≤ 100 * s.2.2.1 + 2) ∧ b7 ⟨s.2.2.2.1, s.2.2.2.2.1⟩ ∧ (∀ x ∈ s.2.2.2.2.2.1, 0 ≤ x ∧ x ≤ 3000) ∧ (∀ x ∈ s.2.2.2.2.2.2, 0 ≤ x ∧ x ≤ 5000))
   (fun s => (23 - s.2.2.1).toNat) ?_ ⟨⟨sm, sm⟩, rfl, rfl, ⟨sm, sm⟩, ⟨za, za⟩, h2.2.2, sm, sm⟩) ?_
 ·rintro ⟨s3, s4, s5, s6, s7, s8, s9⟩ ⟨i0, i1, i2, i3, i4, i5, i6, i7⟩
  simp only at i0 i1 i2 i3 i4 i5 i6 i7
  unfold pT
  refine Ok.bind (Ok.quo om) (fun y1 g1 => ?_)
  rw [hq] at g1; subst g1
  refine Ok.bind (eQ _ _ i5 om om) (fun y2 g2 => ?_)
  rw [w64 (n := y1 + y2.1) om om]
  refine Ok.ea (fun hle => ?_) (fun hgt => ?_)
  ·refine Ok.bind (Ok.app (by simp only [List.length_cons, List.length_nil]; omega)) (fun y3 g3 => ?_)
   refine Ok.bind (Ok.app (by simp only [List.length_cons, List.length_nil]; omega)) (fun y4 g4 => ?_)
   refine Ok.bind (gE _ _ g2.2.2 sm sm) (fun y5 g5 => ?_)
   refine Ok.bind (Ok.quo om) (fun y6 g6 => ?_)
   rw [hp] at g6; subst g6
   refine Ok.bind (gE _ _ g5.2 sm sm) (fun y7 g7 => ?_)
   have a1 : 0 ≤ y5.1 ∧ y5.1 ≤ 35 := by have := g5.1; simp at this; omega
   have a2 : 0 ≤ y7.1 ∧ y7.1 ≤ 30 := by have := g7.1; simp at this; omega
   rw [w64 (n := y5.1 + y6) om om, w64 (n := s3 + (y5.1 + y6)) om om, w64 (n := s5 + 1) om om, w64 (by split <;> omega) (by split <;> omega)]
   subst g3 g4
   refine Ok.nx ⟨⟨za, za⟩, ?_, ?_, ⟨za, za⟩, ⟨by simp only; split <;> omega, by simp only; split <;> omega⟩, g7.2, ?_, ?_⟩ za
   ·simp only [List.length_append, List.length_cons, List.length_nil]; omega
   ·simp only [List.length_append, List.length_cons, List.length_nil]; omega
   ·intro x hx
    simp only [List.mem_append, List.mem_singleton] at hx
    rcases hx with hx | rfl
    ·exact i6 x hx
    ·omega
   ·intro x hx
    simp only [List.mem_append, List.mem_singleton] at hx
    rcases hx with hx | rfl
    ·exact i7 x hx
    ·omega
  ·exact Ok.st ⟨g2.2.2, ⟨za, za⟩, za, i6, i7⟩
 ·intro o ho
  exact Ok.ret ⟨⟨hst, ho.2.1, ho.2.2.1, ho.2.2.2.1, ho.2.2.2.2⟩, ho.1⟩
theorem association_ok (d : Src) (hd : b7 d) : Ok (iE 3 d) (fun r => (BoxOk r.1.aW ∧ TabOk r.1.bp) ∧ b7 r.2) := by
 unfold iE
 refine Ok.bind (box_ok 20 3 om om om om d hd) (fun x1 h1 => ?_)
 refine Ok.bind (table_ok _ h1.2) (fun x2 h2 => ?_)
 refine Ok.bind (gE _ _ h2.2 sm sm) (fun x3 h3 => ?_)
 refine Ok.bind (gE _ _ h3.2 sm sm) (fun x4 h4 => ?_)
 refine Ok.bind (gE _ _ h4.2 sm sm) (fun x5 h5 => ?_)
 refine Ok.bind (gE _ _ h5.2 sm sm) (fun x6 h6 => ?_)
 refine Ok.bind (eQ _ _ h6.2 om om) (fun x7 h7 => ?_)
 exact Ok.ret ⟨⟨h1.1, h2.1⟩, h7.2.2⟩
theorem scale_ok (d : Src) (hd : b7 d) : Ok (rD d) (fun r => b7 r.2) := by
 unfold rD
 refine Ok.bind (table_ok _ hd) (fun x1 h1 => ?_)
 refine Ok.bind (eQ _ _ h1.2 om om) (fun x2 h2 => ?_)
 refine Ok.bind (eQ _ _ h2.2.2 om om) (fun x3 h3 => ?_)
 have hl := h1.1.len; have hs := h1.1.same
 refine Ok.bind (P := fun _ => True) (Ok.loop (fun s => 0 ≤ s.1 ∧ s.2.1.length = x1.1.bd.length ∧ s.2.2.length = x1.1.bd.length) (fun s => ((x1.1.bd.length : Int) - s.1).toNat) ?_ ⟨Int.le_refl _, rfl, hs⟩) (fun o _ => Ok.ret h3.2.2)
 rintro ⟨s4, s5, s6⟩ ⟨i0, i1, i2⟩
 simp only at i0 i1 i2
 unfold pS
 refine Ok.ea (fun hlt => ?_) (fun _ => Ok.st trivial)
 refine Ok.bind (Ok.mA om om) (fun _ _ => ?_)
 refine Ok.bind (Ok.get om om) (fun y1 g1 => ?_)
 refine Ok.bind (Ok.quo om) (fun y2 g2 => ?_)
 refine Ok.bind (Ok.mA om om) (fun _ _ => ?_)
 refine Ok.bind (Ok.get om om) (fun y3 g3 => ?_)
 refine Ok.bind (Ok.quo om) (fun y4 g4 => ?_)
 refine Ok.bind (Ok.mA om om) (fun _ _ => ?_)
 refine Ok.bind (Ok.set om om) (fun y5 g5 => ?_)
 refine Ok.bind (Ok.mA om om) (fun _ _ => ?_)
 refine Ok.bind (Ok.set om om) (fun y6 g6 => ?_)
 subst g5 g6
 rw [w64 om om]
 exact Ok.nx ⟨za, by simpa using i1, by simpa using i2⟩ za
theorem wx (d : Src) (hd : b7 d) : Ok (fr 3 d) (fun r => (BoxOk r.1.au.aW ∧ TabOk r.1.au.bp) ∧ b7 r.2) := by
 unfold fr
 refine Ok.bind (association_ok d hd) (fun x1 h1 => ?_)
 refine Ok.bind (scale_ok _ h1.2) (fun x2 h2 => ?_)
 refine Ok.bind (gE _ _ h2 sm sm) (fun x3 h3 => ?_)
 exact Ok.ret ⟨h1.1, h3.2⟩

def ChanOk (c : ae) : Prop := c.aM.length ≤ 2 ∧ ∀ e ∈ c.aM, tN 60 e.aF
def InvOk (v : ac) : Prop := v.al.length ≤ 6 ∧ ∀ c ∈ v.al, ChanOk c
theorem range_ok (a b : Int) (h0 : -1000 ≤ a) (h1 : a ≤ 1000) (h2 : 0 ≤ b - a) (h3 : b - a ≤ 1000) (d : Src) (hd : b7 d) : Ok (ny a b d) (fun r => (a ≤ r.1 ∧ r.1 ≤ b) ∧ b7 r.2) := by
 unfold ny
 rw [w64 (n := b - a) om om, w64 (n := b - a + 1) om om]
 refine Ok.bind (eQ _ _ hd om om) (fun y1 g1 => ?_)
 rw [w64 (n := a + y1.1) om om]
 exact Ok.ret ⟨⟨za, za⟩, g1.2.2⟩
theorem point_ok (b : aP) (hb : BoxOk b) (d : Src) (hd : b7 d) : Ok (oU b d) (fun r => tN 60 r.1 ∧ b7 r.2) := by
 obtain ⟨⟨p1, p2, p3⟩, q1, q2, q3⟩ := hb
 unfold oU
 refine Ok.bind (range_ok _ _ om om om om d hd) (fun y1 g1 => ?_)
 refine Ok.bind (range_ok _ _ om om om om _ g1.2) (fun y2 g2 => ?_)
 refine Ok.bind (range_ok _ _ om om om om _ g2.2) (fun y3 g3 => ?_)
 exact Ok.ret ⟨⟨za, za, za⟩, g3.2⟩
theorem kplace_ok (v : ac) (hv : InvOk v) (x : Sid) (t : Int) : Ok (oZ v x t) (fun r => tN 60 r.1) := by
 unfold oZ
 have h0 : tN 60 ⟨0, 0, 0⟩ := ⟨sm, sm, sm⟩
 refine Ok.bind (P := fun o => match o with | .inl _ => True | .inr r => tN 60 r.1) (Ok.upto v.al.length om (fun _ => True) trivial ?_) ?_
 ·intro i h1 h2 _
  unfold oc
  refine Ok.ea (fun hlt => ?_) (fun _ => Ok.st trivial)
  refine Ok.bind (Ok.get om om) (fun c hc => ?_)
  have hck := hv.2 c hc.1
  have hlen := hv.1
  refine Ok.bind (P := fun o => match o with | .inl y => y = i | .inr r => tN 60 r.1) (Ok.upto c.aM.length om (fun _ => True) trivial ?_) ?_
  ·intro j h3 h4 _
   unfold oa
   have hcl := hck.1
   refine Ok.ea (fun hlt => ?_) (fun _ => Ok.st rfl)
   refine Ok.bind (Ok.get om om) (fun e he => ?_)
   rw [w64 (n := j + 1) om om]
   refine Ok.iteB (fun _ => ?_) (fun _ => Ok.nx ⟨⟨om, om⟩, trivial⟩ om)
   refine Ok.ea (fun _ => ?_) (fun _ => Ok.nx ⟨⟨om, om⟩, trivial⟩ om)
   refine Ok.ea (fun _ => ?_) (fun _ => Ok.nx ⟨⟨om, om⟩, trivial⟩ om)
   exact Ok.st (hck.2 e he.1)
  ·rintro (y | r) ho
   ·simp only at ho ⊢
    subst ho
    rw [w64 (n := y + 1) om om]
    exact Ok.nx ⟨⟨om, om⟩, trivial⟩ om
   ·exact Ok.st ho
 ·rintro (y | r) ho
  ·exact Ok.ret h0
  ·exact Ok.ret ho
def fB (p : Pick) : Prop := IsSid p.ak ∧ 0 ≤ p.aG ∧ p.aG ≤ p.aN ∧ p.aN ≤ p.aY ∧ p.aY ≤ 18014398509481984 ∧ 0 ≤ p.aH ∧ p.aH ≤ 1073741823 ∧ -1 ≤ p.aK ∧ p.aK ≤ 1
def PI (n : Nat) (s : Int × Int × List Int × Int × List Pick × Int × Int × Int) : Prop :=
 (0 ≤ s.2.1 ∧ s.2.1 + s.2.2.2.2.1.length ≤ n) ∧ (0 ≤ s.1 ∧ s.1 ≤ 1000000 + 1000 * s.2.2.2.2.1.length) ∧ b7 ⟨s.2.2.1, s.2.2.2.1⟩ ∧ tN 60 ⟨s.2.2.2.2.2.1, s.2.2.2.2.2.2.1, s.2.2.2.2.2.2.2⟩ ∧ ∀ p ∈ s.2.2.2.2.1, fB p
theorem k34_ok {n : Nat} (hn : n ≤ 1000) {Q : List Pick × List Int × Int → Prop} {s : Int × Int × List Int × Int × List Pick × Int × Int × Int} {sid : Sid} (hs : IsSid sid) (am : Int × Src) (ha : 0 ≤ am.1 ∧ am.1 ≤ 1048576) (po : Int × Src) (hp : 0 ≤ po.1 ∧ po.1 < 3) (t k : Int) (l : List Int) (at_ : Int) (out : List Pick) (x y z e : Int)
  (hk : 1 ≤ k ∧ k + out.length ≤ n) (hks : k = s.2.1) (ht : 0 ≤ t ∧ t ≤ 1000000 + 1000 * (out.length + 1)) (hd : b7 ⟨l, at_⟩) (hpos : tN 60 ⟨x, y, z⟩) (hout : ∀ p ∈ out, fB p) (he : 0 ≤ e ∧ e ≤ 10000000) :
  Ok (fp sid am po t k l at_ out x y z e) (Ok.S (PI n) (fun s => s.2.1.toNat) Q s) := by
 unfold fp
 refine Ok.bind (eQ _ _ hd om om) (fun y1 g1 => ?_)
 refine Ok.bind (eQ _ _ g1.2.2 om om) (fun y2 g2 => ?_)
 refine Ok.bind (Ok.app (by simp only [List.length_cons, List.length_nil]; omega)) (fun y3 g3 => ?_)
 subst g3
 rw [w64 (n := e + y1.1) om om, w64 (n := e + y1.1 + y2.1) om om, w64 (n := po.1 - 1) om om, w64 (n := k - 1) om om]
 refine Ok.nx ⟨⟨za, by simp only [List.length_append, List.length_cons, List.length_nil]; omega⟩, ⟨ht.1, by simp only [List.length_append, List.length_cons, List.length_nil]; omega⟩, g2.2.2, hpos, fun p hpm => ?_⟩ za
 simp only [List.mem_append, List.mem_singleton] at hpm
 rcases hpm with hpm | rfl
 ·exact hout p hpm
 ·exact ⟨hs, za, za, za, za, za, za, za, za⟩
theorem l55_ok (pl : ap × Bool) (hpl : tN 60 pl.1) (x y z t k : Int) (out : List Pick) (hx : tN 60 ⟨x, y, z⟩) : Ok (bF (mB pl x y z t k out) (0 : Int)) (fun o => o.1 = t ∧ o.2.1 = k ∧ (0 ≤ o.2.2.1 ∧ o.2.2.1 ≤ 300) ∧ o.2.2.2.1 = out ∧ o.2.2.2.2.1 = x ∧ o.2.2.2.2.2.1 = y ∧ o.2.2.2.2.2.2 = z) := by
 obtain ⟨a1, a2, a3⟩ := hpl
 obtain ⟨b1, b2, b3⟩ := hx
 simp only at b1 b2 b3
 have hsq : ∀ (u v : Int), -60 ≤ u → u ≤ 60 → -60 ≤ v → v ≤ 60 → ∃ q, tl (IntKind.wrap .i64 (u - v)) = some q ∧ 0 ≤ q ∧ q ≤ 14400 := by
  intro u v h1 h2 h3 h4
  have h5 : -120 ≤ u - v ∧ u - v ≤ 120 := by omega
  rw [w64 om om]
  have h6 : 0 ≤ (u - v) * (u - v) ∧ (u - v) * (u - v) ≤ 14400 := by
   constructor
   ·rcases Int.le_total 0 (u - v) with h | h
    ·exact Int.mul_nonneg h h
    ·exact Int.mul_nonneg_of_nonpos_of_nonpos h h
   ·rcases Int.le_total 0 (u - v) with h | h
    ·calc (u - v) * (u - v) ≤ 120 * 120 := Int.mul_le_mul h5.2 h5.2 h om
      _ = 14400 := by decide
    ·have : (u - v) * (u - v) = (v - u) * (v - u) := by
      rw [← Int.neg_mul_neg]; congr 1 <;> omega
     rw [this]
     calc (v - u) * (v - u) ≤ 120 * 120 := Int.mul_le_mul om om om om
      _ = 14400 := by decide
  refine ⟨_, by unfold tl; rw [w64 om om], h6.1, h6.2⟩
 obtain ⟨q1, e1, l1, u1⟩ := hsq pl.1.fX x a1.1 a1.2 b1.1 b1.2
 obtain ⟨q2, e2, l2, u2⟩ := hsq pl.1.fY y a2.1 a2.2 b2.1 b2.2
 obtain ⟨q3, e3, l3, u3⟩ := hsq pl.1.fZ z a3.1 a3.2 b3.1 b3.2
 refine Ok.loop (fun s => 0 ≤ s ∧ s ≤ 300) (fun s => (300 - s).toNat) (fun s hs => ?_) ⟨Int.le_refl _, om⟩
 unfold mB
 rw [e1, e2, e3]
 simp only [zb]
 rw [w64 (n := q1 + q2) om om, w64 (n := q1 + q2 + q3) om om]
 have hss : 0 ≤ s * s ∧ s * s ≤ 90000 := ⟨Int.mul_nonneg hs.1 hs.1, by
  calc s * s ≤ 300 * 300 := Int.mul_le_mul hs.2 hs.2 hs.1 om
   _ = 90000 := by decide⟩
 rw [w64 (n := s * s) om om]
 refine Ok.ea (fun hlt => ?_) (fun _ => Ok.st ⟨rfl, rfl, hs, rfl, rfl, rfl, rfl⟩)
 have h299 : s ≤ 299 := by
  rcases Int.lt_or_le 299 s with h | h
  ·exfalso
   have : s = 300 := by omega
   subst this
   omega
  ·exact h
 rw [w64 (n := s + 1) om om]
 exact Ok.nx ⟨om, om⟩ om
theorem wh (a : aI) (ha : BoxOk a.au.aW ∧ TabOk a.au.bp) (v : ac) (hv : InvOk v) (n : Nat) (hn : n ≤ 100) (d : Src) (hd : b7 d) :
  Ok (iF a v n d) (fun r => (r.1.length ≤ n ∧ ∀ p ∈ r.1, fB p) ∧ b7 r.2) := by
 unfold iF
 refine Ok.bind (point_ok _ ha.1 d hd) (fun x1 h1 => ?_)
 refine Ok.bind (eQ _ _ h1.2 om om) (fun x2 h2 => ?_)
 rw [w64 (n := (n : Int) + 1) om om]
 refine Ok.bind (eQ _ _ h2.2.2 om om) (fun x3 h3 => ?_)
 rw [w64 (n := 1000 + x2.1) om om]
 refine Ok.bind (P := fun o => (o.1.length ≤ n ∧ ∀ p ∈ o.1, fB p) ∧ b7 ⟨o.2.1, o.2.2⟩) (Ok.loop (PI n) (fun s => s.2.1.toNat) ?_ ⟨⟨za, by simp only [List.length_nil]; omega⟩, ⟨za, by simp only [List.length_nil]; omega⟩, h3.2.2, h1.1, sm⟩) (fun o ho => Ok.ret ⟨ho.1, ho.2⟩)
 rintro ⟨s4, s5, s6, s7, s8, s9, s10, s11⟩ ⟨i0, i1, i2, i3, i4⟩
 simp only at i0 i1 i2 i3 i4
 unfold pR
 refine Ok.ea (fun hgt => ?_) (fun _ => Ok.st ⟨⟨za, i4⟩, i2⟩)
 refine Ok.bind (eQ _ _ i2 om om) (fun y1 g1 => ?_)
 refine Ok.bind (source_ok _) (fun y2 g2 => ?_)
 refine Ok.bind (gE _ _ g1.2.2 sm sm) (fun y3 g3 => ?_)
 have hy3 : 0 ≤ y3.1 ∧ y3.1 ≤ 1048576 := by have := g3.1; simp at this; omega
 refine Ok.bind (eQ _ _ g3.2 om om) (fun y4 g4 => ?_)
 refine Ok.bind (eQ _ _ g4.2.2 om om) (fun y5 g5 => ?_)
 refine Ok.bind (eQ _ _ g5.2.2 om om) (fun y6 g6 => ?_)
 rw [w64 (n := 1000 + y5.1) om om]
 refine Ok.kY (fun _ => ?_) (fun _ => Ok.kY (fun _ => ?_) (fun _ => ?_))
 ·refine Ok.bind (point_ok _ ha.1 _ g6.2.2) (fun y7 g7 => ?_)
  refine Ok.bind (eQ _ _ g7.2 om om) (fun y8 g8 => ?_)
  rw [w64 (n := s4 + y8.1) om om]
  exact k34_ok om g2 y3 hy3 y4 ⟨g4.1, g4.2.1⟩ _ _ _ _ _ _ _ _ _ om rfl om g8.2.2 g7.1 i4 om
 ·exact k34_ok om g2 y3 hy3 y4 ⟨g4.1, g4.2.1⟩ _ _ _ _ _ _ _ _ _ om rfl om g6.2.2 i3 i4 om
 ·refine Ok.bind (kplace_ok v hv _ _) (fun y7 g7 => ?_)
  refine Ok.iteB (fun _ => ?_) (fun _ => ?_)
  ·refine Ok.bind (l55_ok y7 g7 _ _ _ _ _ _ i3) (fun o ho => ?_)
   obtain ⟨o1, o2, o3, o4, o5, o6, o7⟩ := ho
   have htab := ha.2
   have hl := htab.len
   have hst := htab.step
   refine Ok.bind (Ok.quo om) (fun y8 g8 => ?_)
   have hq : 0 ≤ o.2.2.1.tdiv a.au.bp.bJ ∧ o.2.2.1.tdiv a.au.bp.bJ ≤ 300 := by
    refine ⟨Int.tdiv_nonneg o3.1 om, ?_⟩
    have := Int.tdiv_le_self (b := a.au.bp.bJ) o3.1
    omega
   rw [w64 om om] at g8
   subst g8
   rw [w64 (n := (a.au.bp.bd.length : Int) - 1) om om]
   refine Ok.bind (Ok.get (by split <;> omega) (by split <;> omega)) (fun y9 g9 => ?_)
   have hb := htab.low y9 g9.1
   refine Ok.bind (eQ _ _ g6.2.2 om om) (fun y10 g10 => ?_)
   rw [o1, o2, o4, o5, o6, o7, w64 (n := s4 + y9) om om, w64 (n := s4 + y9 + y10.1) om om]
   exact k34_ok om g2 y3 hy3 y4 ⟨g4.1, g4.2.1⟩ _ _ _ _ _ _ _ _ _ om rfl om g10.2.2 i3 i4 om
  ·exact k34_ok om g2 y3 hy3 y4 ⟨g4.1, g4.2.1⟩ _ _ _ _ _ _ _ _ _ om rfl om g6.2.2 i3 i4 om
end Go.Dw.De


set_option maxRecDepth 100000
set_option maxHeartbeats 4000000
namespace Go.Dw.De
open Go.Dw
theorem cg {α : Type} {l m : List α} {b : Nat} (h : (l.length + m.length) * b ≤ 140737488355328) : dJ l m b = some (l ++ m) := by
 unfold dJ
 rw [if_pos h]
namespace Sd
abbrev Src := ag
theorem eq_src (a b : Src) : ((a.aC == b.aC) && ((a.aA == b.aA) && ((a.av == b.av) && ((a.aD == b.aD) && true)))) = decide (a = b) := by
 obtain ⟨n, t, l, c⟩ := a
 obtain ⟨n', t', l', c'⟩ := b
 simp only [ag.mk.injEq]
 by_cases e1 : n = n' <;> by_cases e2 : t = t' <;> by_cases e3 : l = l' <;> by_cases e4 : c = c' <;> simp [e1, e2, e3, e4]
theorem cmp_str (a b : List UInt8) : cw a b = some (iU a b) := by
 unfold cw fd
 simp only [beq_self_eq_true, Bool.not_true, zb, Bool.false_eq_true, if_false]
 unfold iU
 cases h : Op.bytesLess a b with
 | true => simp
 | false => by_cases e : a = b <;> simp [e]
theorem yt {l : List Int} {i j : Nat} (hj : j = i + 1) (hi : i < l.length) (hl : l.length < 1000) (h0 : l[i] = 0) : dK l i = some (.next (j : Int)) := by
 subst hj
 unfold dK
 rw [if_pos so, bW rfl hi]
 simp only [zb, h0, w64 (n := (i : Int) + 1) om om]
 rfl
theorem yu {l : List Int} {i : Nat} (hi : i < l.length) (h0 : l[i] ≠ 0) : dK l i = some (.stop (.inr l[i])) := by
 unfold dK
 rw [if_pos so, bW rfl hi]
 simp only [zb]
 rw [if_pos (by simpa using h0)]
theorem or_end {l : List Int} {n : Nat} (hn : n = l.length) : dK l n = some (.stop (.inl ())) := by
 subst hn
 unfold dK
 rw [if_neg sm]
theorem or4 (a b c d : Int) : gW [a, b, c, d] = some (if a ≠ 0 then a else if b ≠ 0 then b else if c ≠ 0 then c else d) := by
 show ((bF (dK [a, b, c, d]) ((0 : Nat) : Int)).bind _) = _
 by_cases ha : a = 0
 ·rw [eb (yt (i := 0) (j := 1) rfl sm sm (by simpa using ha)), if_neg (by simpa using ha)]
  by_cases hb : b = 0
  ·rw [eb (yt (i := 1) (j := 2) rfl sm sm (by simpa using hb)), if_neg (by simpa using hb)]
   by_cases hc : c = 0
   ·rw [eb (yt (i := 2) (j := 3) rfl sm sm (by simpa using hc)), if_neg (by simpa using hc)]
    by_cases hd : d = 0
    ·rw [eb (yt (i := 3) (j := 4) rfl sm sm (by simpa using hd)), cZ (or_end (n := 4) rfl)]
     rw [hd]; rfl
    ·rw [cZ (yu (i := 3) sm (by simpa using hd))]; rfl
   ·rw [cZ (yu (i := 2) sm (by simpa using hc)), if_pos hc]; rfl
  ·rw [cZ (yu (i := 1) sm (by simpa using hb)), if_pos hb]; rfl
 ·rw [cZ (yu (i := 0) sm (by simpa using ha)), if_pos (by simpa using ha)]; rfl

def ef (a b : Src) : Int := if iU a.aC b.aC ≠ 0 then iU a.aC b.aC else if iU a.aA b.aA ≠ 0 then iU a.aA b.aA else if iU a.av b.av ≠ 0 then iU a.av b.av else iU a.aD b.aD
theorem jT (a b : Src) : bY a b = some (ef a b) := by
 unfold bY
 simp only [cmp_str, zb, or4]
 rfl
theorem dj : Tot ef := (oG.map fun x : Src => x.aC).or ((oG.map fun x : Src => x.aA).or ((oG.map fun x : Src => x.av).or (oG.map fun x : Src => x.aD)))
theorem eI {a b : Src} (h : ef a b = 0) : a = b := by
 unfold ef at h
 obtain ⟨n, t, l, c⟩ := a
 obtain ⟨n', t', l', c'⟩ := b
 simp only at h
 by_cases h1 : iU n n' = 0
 ·rw [if_neg (by simpa using h1)] at h
  by_cases h2 : iU t t' = 0
  ·rw [if_neg (by simpa using h2)] at h
   by_cases h3 : iU l l' = 0
   ·rw [if_neg (by simpa using h3)] at h
    rw [pC] at h h1 h2 h3
    subst h h1 h2 h3; rfl
   ·rw [if_pos h3] at h; exact (h3 h).elim
  ·rw [if_pos h2] at h; exact (h2 h).elim
 ·rw [if_pos h1] at h; exact (h1 h).elim
theorem cmpS_range (a b : Src) : -1 ≤ ef a b ∧ ef a b ≤ 1 := by
 unfold ef
 repeat' split
 all_goals exact wY _ _
instance : DecidableEq Src := fun a b => decidable_of_iff (a.aC = b.aC ∧ a.aA = b.aA ∧ a.av = b.av ∧ a.aD = b.aD) (by
 obtain ⟨n, t, l, c⟩ := a
 obtain ⟨n', t', l', c'⟩ := b
 simp)
theorem eqs (a b : Src) : ((a.aC == b.aC) && ((a.aA == b.aA) && ((a.av == b.av) && ((a.aD == b.aD) && true)))) = decide (a = b) := by
 rw [eq_src]
 exact decide_eq_decide.2 Iff.rfl

theorem ref_cmp (a b : List UInt8) : fw a b = some (iU a b) := by
 unfold fw iU
 cases h : Op.bytesLess a b with
 | true => simp
 | false => by_cases e : a = b <;> simp [e]
theorem lz (a b : Src) : gL a b = some (ef a b) := by
 unfold gL ef
 simp only [ref_cmp, zb, bne_iff_ne, ne_eq]
 by_cases h1 : iU a.aC b.aC = 0 <;> by_cases h2 : iU a.aA b.aA = 0 <;> by_cases h3 : iU a.av b.av = 0 <;> by_cases h4 : iU a.aD b.aD = 0 <;> simp [h1, h2, h3, h4]
theorem cmp_int (a b : Int) : bu a b = some (gN a b) := by
 unfold bu jg gN
 simp only [bne_self_eq_false, zb, Bool.false_eq_true, if_false]
 by_cases h1 : a < b
 ·rw [if_pos (decide_eq_true h1), if_pos h1]
 ·rw [if_neg (by simpa using h1), if_neg h1]
  by_cases h2 : a > b
  ·rw [if_pos (decide_eq_true h2), if_pos h2]
  ·rw [if_neg (by simpa using h2), if_neg h2]
theorem or_go {l : List Int} {n : Nat} {r : List Int} (hl : l.length < 1000) (hn : n ≤ l.length) (hr : l.drop n = r) : bF (dK l) (n : Int) = some (match r.find? (fun x => decide (x ≠ 0)) with | some x => .inr x | none => .inl ()) := by
 induction r generalizing n with
 | nil =>
  have : n = l.length := by
   have := congrArg List.length hr
   simp at this; omega
  rw [cZ (or_end this)]; rfl
 | cons a r ih =>
  have hlt : n < l.length := by
   have := congrArg List.length hr
   simp at this; omega
  have ha : l[n] = a := by
   rw [List.drop_eq_getElem_cons hlt] at hr
   exact (List.cons.inj hr).1
  have hr' : l.drop (n + 1) = r := by
   rw [List.drop_eq_getElem_cons hlt] at hr
   exact (List.cons.inj hr).2
  by_cases h0 : a = 0
  ·rw [eb (yt (i := n) (j := n + 1) rfl hlt hl (by rw [ha, h0])), ih om hr']
   simp [List.find?, h0]
  ·rw [cZ (yu hlt (by rw [ha]; exact h0)), ha]
   simp [List.find?, h0]
theorem or6 (a b c d e f : Int) : gW [a, b, c, d, e, f] = some (if a ≠ 0 then a else if b ≠ 0 then b else if c ≠ 0 then c else if d ≠ 0 then d else if e ≠ 0 then e else f) := by
 unfold gW
 have := or_go (l := [a, b, c, d, e, f]) (n := 0) (r := [a, b, c, d, e, f]) sm sm rfl
 rw [show ((0 : Int)) = ((0 : Nat) : Int) from rfl, this]
 by_cases ha : a = 0 <;> by_cases hb : b = 0 <;> by_cases hc : c = 0 <;> by_cases hd : d = 0 <;> by_cases he : e = 0 <;> by_cases hf : f = 0 <;> simp [List.find?, ha, hb, hc, hd, he, hf]
end Sd
open Sd (ef dj eI)
def ec (a b : Pick) : Int := if ef a.ak b.ak ≠ 0 then ef a.ak b.ak else if gN a.aN b.aN ≠ 0 then gN a.aN b.aN else if gN a.aG b.aG ≠ 0 then gN a.aG b.aG else if gN a.aY b.aY ≠ 0 then gN a.aY b.aY else if gN a.aH b.aH ≠ 0 then gN a.aH b.aH else gN a.aK b.aK
theorem jT (a b : Pick) : bf a b = some (ec a b) := by
 unfold bf
 simp only [Sd.jT, Sd.cmp_int, zb, Sd.or6]
 rfl
theorem ed : Tot ec := (dj.map fun x : Pick => x.ak).or ((j9.map fun x : Pick => x.aN).or ((j9.map fun x : Pick => x.aG).or ((j9.map fun x : Pick => x.aY).or ((j9.map fun x : Pick => x.aH).or (j9.map fun x : Pick => x.aK)))))
theorem wd {a b : Int} (h : (if a ≠ 0 then a else b) = 0) : a = 0 ∧ b = 0 := by
 by_cases h1 : a = 0
 ·rw [if_neg (by simpa using h1)] at h; exact ⟨h1, h⟩
 ·rw [if_pos h1] at h; exact (h1 h).elim
theorem wH {a b : Pick} (h : ec a b = 0) : a = b := by
 unfold ec at h
 obtain ⟨h1, h⟩ := wd h
 obtain ⟨h2, h⟩ := wd h
 obtain ⟨h3, h⟩ := wd h
 obtain ⟨h4, h⟩ := wd h
 obtain ⟨h5, h6⟩ := wd h
 rw [ng] at h2 h3 h4 h5 h6
 have := eI h1
 obtain ⟨a1, a2, a3, a4, a5, a6⟩ := a
 obtain ⟨b1, b2, b3, b4, b5, b6⟩ := b
 simp only at *
 subst this h2 h3 h4 h5 h6
 rfl
theorem lt3_eq : lt3 bf = fun x y => decide (ec x y < 0) := by
 funext x y
 unfold lt3
 rw [jT]; rfl
theorem Compare_ok : rC bf := ⟨fun x y => ⟨_, jT x y⟩, by rw [lt3_eq]; exact ed.swo⟩
theorem step_int {β : Type} (a b : Int) (k : Option Int) : (if (decide (a < b)) = true then (some (-1 : Int)) else (if (decide (a > b)) = true then (some (1 : Int)) else k)) = (if gN a b ≠ 0 then some (gN a b) else k) := by
 unfold gN
 by_cases h1 : a < b
 ·rw [if_pos (decide_eq_true h1)]; simp [h1]
 ·rw [if_neg (by simpa using h1)]
  by_cases h2 : a > b
  ·rw [if_pos (decide_eq_true h2)]; simp [h1, h2]
  ·rw [if_neg (by simpa using h2)]; simp [h1, h2]
theorem some_ite {c : Prop} [Decidable c] (a b : Int) : (if c then some a else some b) = some (if c then a else b) := by split <;> rfl
theorem lz (a b : Pick) : ky a b = some (ec a b) := by
 unfold ky ec
 rw [Sd.lz, zb]
 have e1 : ((ef a.ak b.ak != (0 : Int)) = true) = (ef a.ak b.ak ≠ 0) := by simp
 simp only [step_int (β := Unit), e1]
 have hp : (if gN a.aK b.aK ≠ 0 then some (gN a.aK b.aK) else some 0) = some (gN a.aK b.aK) := by
  by_cases h : gN a.aK b.aK = 0 <;> simp [h]
 rw [hp]
 simp only [some_ite]

instance : DecidableEq Pick := fun a b => decidable_of_iff (a.ak = b.ak ∧ a.aN = b.aN ∧ a.aG = b.aG ∧ a.aY = b.aY ∧ a.aH = b.aH ∧ a.aK = b.aK) (by
 obtain ⟨a1, a2, a3, a4, a5, a6⟩ := a
 obtain ⟨b1, b2, b3, b4, b5, b6⟩ := b
 simp)
def eqF (a b : Pick) : Bool := ((a.ak.aC == b.ak.aC) && ((a.ak.aA == b.ak.aA) && ((a.ak.av == b.ak.av) && ((a.ak.aD == b.ak.aD) && true)))) && ((a.aN == b.aN) && ((a.aG == b.aG) && ((a.aY == b.aY) && ((a.aH == b.aH) && ((a.aK == b.aK) && true)))))
theorem eqs (a b : Pick) : eqF a b = decide (a = b) := by
 obtain ⟨a1, a2, a3, a4, a5, a6⟩ := a
 obtain ⟨b1, b2, b3, b4, b5, b6⟩ := b
 unfold eqF
 simp only [Sd.eqs, aa.mk.injEq]
 by_cases e1 : a1 = b1 <;> by_cases e2 : a2 = b2 <;> by_cases e3 : a3 = b3 <;> by_cases e4 : a4 = b4 <;> by_cases e5 : a5 = b5 <;> by_cases e6 : a6 = b6 <;> simp [e1, e2, e3, e4, e5, e6]
theorem sub_take {α σ ω : Type} (l : List α) (k : Int) : ((jz l.length 0 k).bind fun _ => some (cb.stop (Sum.inr (l.take k.toNat)) : cb σ (ω ⊕ List α))) = ((jz l.length 0 k).bind fun _ => (kK l (0 + Int.toNat 0) (0 + k.toNat)).bind fun x => some (cb.stop (Sum.inr x))) := by
 unfold jz
 split
 ·rename_i h
  rw [zb, zb, lC om om]
  simp
 ·rfl
theorem Compact_eq (l : List Pick) : cX l = lg eqF ⟨⟨[], [], [], []⟩, 0, 0, 0, 0, 0⟩ l := by
 have h1 : ga = iy eqF := by funext s d ⟨a, b, c⟩; rfl
 have h2 : dZ = fS eqF ⟨⟨[], [], [], []⟩, 0, 0, 0, 0, 0⟩ := by
  funext d s
  unfold dZ fS
  rw [h1]
  simp only [sub_take]
  rfl
 unfold cX lg
 rw [h2]
 refine ite_congr rfl (fun _ => rfl) fun _ => ?_
 refine congrArg _ (funext fun o => ?_)
 rcases o with _ | _ <;> rfl
theorem sort_at {l : List Pick} (hl : l.length ≤ 1000) : ∃ m, gH bf l = some m ∧ m.Perm l ∧ m.Pairwise (fun x y => ec x y ≤ 0) := by
 have h2 := qZ Compare_ok (fun x y h h' => by
  rw [lt3_eq] at h h'
  simp only [decide_eq_false_iff_not] at h h'
  have := ed.jf x y
  exact wH om) l om
 generalize hm : (l.mergeSort fun x y => !lt3 bf y x) = m at h2
 refine ⟨m, h2, tk h2, ?_⟩
 rw [← hm]
 refine (List.pairwise_mergeSort ?_ ?_ l).imp ?_
 ·intro a b c h h'
  rw [lt3_eq] at *
  simp only [Bool.not_eq_true', decide_eq_false_iff_not] at *
  have := ed.tr a b c (by have := ed.jf a b; omega) (by have := ed.jf b c; omega)
  have := ed.jf a c; omega
 ·intro a b
  rw [lt3_eq]
  have := ed.jf a b
  by_cases h : ec b a < 0
  ·have : ¬ ec a b < 0 := by omega
   simp [this]
  ·simp [h]
 ·intro a b h
  rw [lt3_eq] at h
  simp only [Bool.not_eq_true', decide_eq_false_iff_not] at h
  have := ed.jf a b; omega
theorem Sort_eq {l : List Pick} (hl : l.length ≤ 1000) :
  ∃ r, gK l = some r ∧ r.Pairwise (fun x y => ec x y < 0) ∧ (∀ x, x ∈ r ↔ x ∈ l) ∧ r.length ≤ l.length := by
 have h1 : gh 104 l = some l := by
  unfold gh
  rw [if_pos om]
 obtain ⟨m, h2, hp, hs⟩ := sort_at hl
 have hml : m.length = l.length := hp.length_eq
 have h3 : cX m = some (cpt m) := by
  rw [Compact_eq]
  exact sd (fun x y => eqs x y) om
 refine ⟨cpt m, ?_, jX ed (fun x y => wH) hs, fun x => oH.trans hp.mem_iff, by have := nQ m; omega⟩
 unfold gK
 rw [h1, zb, h2, zb, h3]; rfl
theorem p9 : ∀ {r s : List Pick}, r.Pairwise (fun x y => ec x y < 0) → s.Pairwise (fun x y => ec x y < 0) → (∀ x, x ∈ r ↔ x ∈ s) → r = s
 | [], [], _, _, _ => rfl
 | [], b :: s, _, _, h => by have := (h b).2 sm; cases this
 | a :: r, [], _, _, h => by have := (h a).1 sm; cases this
 | a :: r, b :: s, h1, h2, h => by
  obtain ⟨ha, hr⟩ := List.pairwise_cons.1 h1
  obtain ⟨hb, hs⟩ := List.pairwise_cons.1 h2
  have hab : a = b := by
   rcases List.mem_cons.1 ((h a).1 sm) with e | hm
   ·exact e
   ·rcases List.mem_cons.1 ((h b).2 sm) with e | hm'
    ·exact e.symm
    ·have h3 := hb a hm
     have h4 := ha b hm'
     have := ed.jf a b
     omega
  subst hab
  have hn : ∀ {t : List Pick}, (∀ y ∈ t, ec a y < 0) → a ∉ t := fun h ht => by have := h a ht; have := ed.refl a; omega
  have : r = s := p9 hr hs fun x => by
   have := h x
   simp only [List.mem_cons] at this
   constructor
   ·intro hx
    rcases this.1 (.inr hx) with e | h5
    ·subst e; exact (hn ha hx).elim
    ·exact h5
   ·intro hx
    rcases this.2 (.inr hx) with e | h5
    ·subst e; exact (hn hb hx).elim
    ·exact h5
  rw [this]

theorem find_l18 {l out : List Pick} {i : Nat} (hi : i < l.length) (ho : out.length ≤ 1000) :
  ∃ k : Nat, bF (jG out l (i : Int)) (out.length : Int) = some ((i : Int), (k : Int), out) ∧ k ≤ out.length ∧ (∀ j, (h : k ≤ j) → (h' : j < out.length) → 0 < ec out[j] l[i]) ∧ (∀ h : 0 < k, ∀ h' : k - 1 < out.length, ¬ 0 < ec (out[k - 1]) l[i]) := by
 obtain ⟨o, h1, k, rfl, h2⟩ := gb (body := jG out l (i : Int)) (fun s : Int => ∃ k : Nat, s = (k : Int) ∧ k ≤ out.length ∧ ∀ j, (h : k ≤ j) → (h' : j < out.length) → 0 < ec out[j] l[i]) (fun s => s.toNat)
  (fun o => ∃ k : Nat, o = ((i : Int), (k : Int), out) ∧ k ≤ out.length ∧ (∀ j, (h : k ≤ j) → (h' : j < out.length) → 0 < ec out[j] l[i]) ∧ (∀ h : 0 < k, ∀ h' : k - 1 < out.length, ¬ 0 < ec (out[k - 1]) l[i])) (by
  rintro s ⟨k, rfl, hk, hlt⟩
  unfold jG
  by_cases h : 0 < k
  ·rw [if_pos so, w64 (n := (k : Int) - 1) om om, eB om om, bW (i := k - 1) om om, bW (i := i) rfl hi]
   simp only [zb, lz]
   by_cases hc : ec (out[k - 1]'om) l[i] > 0
   ·rw [if_pos (by simpa using hc)]
    refine .inl ⟨_, rfl, ⟨k - 1, om, om, fun j hj hj' => ?_⟩, om⟩
    by_cases e : j = k - 1
    ·subst e; exact hc
    ·exact hlt j om hj'
   ·rw [if_neg (by simpa using hc)]
    exact .inr ⟨_, rfl, k, rfl, hk, hlt, fun _ _ => hc⟩
  ·rw [if_neg so]
   exact .inr ⟨_, rfl, k, rfl, hk, hlt, fun h' => (h h').elim⟩) (out.length : Int) ⟨out.length, rfl, Nat.le_refl _, fun j hj hj' => om⟩
 exact ⟨k, h1, h2⟩
theorem shift_eq {out : List Pick} {x : Pick} {k : Nat} (hk : k ≤ out.length) :
  (jH (out ++ [x]) (k + 1) (out.length + 1 - (k + 1)) (((out ++ [x]).drop k).take (out.length + 1 - k))).set k x = out.take k ++ x :: out.drop k := by
 have hd : (out ++ [x]).drop k = out.drop k ++ [x] := List.drop_append_of_le_length hk
 have hys : ((out ++ [x]).drop k).take (out.length + 1 - k) = out.drop k ++ [x] := by
  rw [hd]; exact List.take_of_length_le so
 unfold jH
 rw [hys]
 have hmin : Nat.min (out.drop k ++ [x]).length (out.length + 1 - (k + 1)) = out.length - k := by
  show min _ _ = _
  simp
 rw [hmin]
 have ht : (out.drop k ++ [x]).take (out.length - k) = out.drop k := by
  rw [List.take_append_of_le_length sm]
  exact List.take_of_length_le sm
 have hz : (out ++ [x]).drop (k + 1 + (out.length - k)) = [] := List.drop_eq_nil_of_le so
 rw [ht, hz, List.append_nil]
 have hA : (out ++ [x]).take (k + 1) = out.take k ++ [(out ++ [x])[k]'so] := by
  rw [cn so, List.take_append_of_le_length hk]
 rw [hA, List.append_assoc, List.set_append_right _ _ so]
 simp [Nat.min_eq_left hk]

theorem k31_eq {l out : List Pick} {i k : Nat} (hi : i < l.length) (hl : l.length ≤ 1000) (ho : out.length ≤ 1000) (hk : k ≤ out.length) :
  fM l ((i : Int), (k : Int), out) = some (.next (((i + 1 : Nat) : Int), out.take k ++ l[i] :: out.drop k)) := by
 unfold fM
 simp only
 rw [bW (i := i) rfl hi, zb, cg so, zb]
 have hlen : (out ++ [l[i]]).length = out.length + 1 := by simp
 rw [w64 (n := (k : Int) + 1) om om, w64 (n := (i : Int) + 1) om om, hlen]
 rw [ic om om om, zb, ic om om om, zb]
 have t1 : (0 + ((k : Int) + 1).toNat) = k + 1 := by omega
 have t2 : (0 + (((out.length + 1 : Nat) : Int)).toNat) = out.length + 1 := by omega
 have t3 : (0 + ((k : Int)).toNat) = k := by omega
 rw [t1, t2, t3, lP om om, zb, lC om om, zb, zb]
 have hcl : (jH (out ++ [l[i]]) (k + 1) (out.length + 1 - (k + 1)) (((out ++ [l[i]]).drop k).take (out.length + 1 - k))).length = out.length + 1 := by
  have := congrArg List.length (shift_eq (x := l[i]) hk)
  rw [List.length_set] at this
  rw [this]
  simp
  omega
 rw [eB om om, zb, np (i := k) rfl om, zb, shift_eq hk]
 rfl
theorem xx {out : List Pick} {x : Pick} {k : Nat} (ho : out.Pairwise (fun x y => ec x y < 0)) (hk : k ≤ out.length) (h1 : ∀ j, (h : k ≤ j) → (h' : j < out.length) → 0 < ec out[j] x)
  (h2 : ∀ h : 0 < k, ∀ h' : k - 1 < out.length, ¬ 0 < ec (out[k - 1]) x ∧ out[k - 1] ≠ x) : (out.take k ++ x :: out.drop k).Pairwise (fun x y => ec x y < 0) := by
 have hsplit : (out.take k ++ out.drop k).Pairwise (fun x y => ec x y < 0) := by rwa [List.take_append_drop]
 obtain ⟨p1, p2, p3⟩ := List.pairwise_append.1 hsplit
 have hgt : ∀ y ∈ out.drop k, ec x y < 0 := fun y hy => by
  obtain ⟨j, hj, rfl⟩ := List.getElem_of_mem hy
  simp only [List.length_drop] at hj
  rw [List.getElem_drop]
  have := h1 (k + j) om om
  have := ed.jf x out[k + j]
  omega
 have hlt : ∀ y ∈ out.take k, ec y x < 0 := fun y hy => by
  obtain ⟨j, hj, rfl⟩ := List.getElem_of_mem hy
  simp only [List.length_take] at hj
  rw [List.getElem_take]
  obtain ⟨g1, g2⟩ := h2 om om
  have hx : ec (out[k - 1]'om) x < 0 := by
   have := ed.jf (out[k - 1]'om) x
   by_cases hz : ec (out[k - 1]'om) x = 0
   ·exact (g2 (wH hz)).elim
   ·omega
  by_cases e : j = k - 1
  ·subst e; exact hx
  ·have := List.pairwise_iff_getElem.1 ho j (k - 1) om om om
   exact ed.lt this om
 refine List.pairwise_append.2 ⟨p1, List.pairwise_cons.2 ⟨hgt, p2⟩, fun a ha b hb => ?_⟩
 rcases List.mem_cons.1 hb with rfl | hb
 ·exact hlt a ha
 ·exact p3 a ha b hb
theorem tq {l : List Pick} (hl : l.length ≤ 1000) : ∃ r, gi l = some r ∧ r.Pairwise (fun x y => ec x y < 0) ∧ (∀ x, x ∈ r ↔ x ∈ l) := by
 obtain ⟨o, h1, h2, h3⟩ := gb (body := lw l) (fun st : Int × List Pick => ∃ (i : Nat) (out : List Pick), st = ((i : Int), out) ∧ i ≤ l.length ∧ out.length ≤ i ∧ out.Pairwise (fun x y => ec x y < 0) ∧ ∀ x, x ∈ out ↔ x ∈ l.take i) (fun st => ((l.length : Int) - st.1).toNat)
  (fun o => o.Pairwise (fun x y => ec x y < 0) ∧ ∀ x, x ∈ o ↔ x ∈ l) (by
  rintro st ⟨i, out, rfl, hi, ho, hs, hm⟩
  unfold lw
  simp only
  by_cases hlt : i < l.length
  ·rw [if_pos so]
   obtain ⟨k, e1, hk, hlo, hhi⟩ := find_l18 (l := l) (out := out) hlt om
   rw [e1, zb]
   refine .inl ?_
   have hins : (∀ h : 0 < k, ∀ h' : k - 1 < out.length, out[k - 1] ≠ l[i]) → ∃ s', fM l ((i : Int), (k : Int), out) = some (.next s') ∧ (∃ (i : Nat) (out : List Pick), s' = ((i : Int), out) ∧ i ≤ l.length ∧ out.length ≤ i ∧ out.Pairwise (fun x y => ec x y < 0) ∧ ∀ x, x ∈ out ↔ x ∈ l.take i) ∧ ((l.length : Int) - s'.1).toNat < ((l.length : Int) - (i : Int)).toNat := fun hne => by
    refine ⟨_, k31_eq hlt hl om hk, ⟨i + 1, _, rfl, om, so, xx hs hk hlo (fun h h' => ⟨hhi h h', hne h h'⟩), fun x => ?_⟩, za⟩
    rw [cn hlt, List.mem_append, List.mem_cons, List.mem_append, ← hm x]
    have : x ∈ out ↔ x ∈ out.take k ∨ x ∈ out.drop k := by rw [← List.mem_append, List.take_append_drop]
    rw [this]
    simp only [List.mem_singleton]
    constructor
    ·rintro (h | h | h)
     ·exact .inl (.inl h)
     ·exact .inr h
     ·exact .inl (.inr h)
    ·rintro ((h | h) | h)
     ·exact .inl h
     ·exact .inr (.inr h)
     ·exact .inr (.inl h)
   dsimp only
   by_cases hkl : 0 < k
   ·rw [if_pos so, w64 (n := (k : Int) - 1) om om, eB om om, bW (i := k - 1) om om, bW (i := i) rfl hlt]
    simp only [zb]
    rw [show (_ && _) = eqF (out[k - 1]'om) l[i] from rfl, eqs]
    by_cases he : out[k - 1]'om = l[i]
    ·rw [if_pos (by simpa using he), w64 om om]
     refine ⟨_, rfl, ⟨i + 1, out, sm, om, om, hs, fun x => ?_⟩, za⟩
     rw [cn hlt, List.mem_append, ← hm x, List.mem_singleton]
     refine ⟨.inl, fun h => h.elim id fun h => ?_⟩
     subst h
     rw [← he]
     exact List.getElem_mem _
    ·rw [if_neg (by simpa using he)]
     exact hins fun _ _ => he
   ·rw [if_neg so]
    exact hins fun h => (hkl h).elim
  ·rw [if_neg so]
   refine .inr ⟨_, rfl, hs, fun x => ?_⟩
   rw [hm x, List.take_of_length_le om]) (0, []) ⟨0, [], rfl, Nat.zero_le _, Nat.le_refl _, .nil, fun x => sm⟩
 refine ⟨o, ?_, h2, h3⟩
 unfold gi
 rw [h1]; rfl
theorem Sorts_eq {l : List Pick} (hl : l.length ≤ 1000) : ∃ r, gK l = some r ∧ gi l = some r ∧ r.length ≤ l.length ∧ r.Pairwise (fun x y => ec x y < 0) ∧ ∀ x, x ∈ r ↔ x ∈ l := by
 obtain ⟨r, h1, h2, h3, h4⟩ := Sort_eq hl
 obtain ⟨r', h5, h6, h7⟩ := tq hl
 have : r = r' := p9 h2 h6 fun x => (h3 x).trans (h7 x).symm
 subst this
 exact ⟨r, h1, h5, h4, h2, h3⟩
end Go.Dw.De


set_option maxRecDepth 100000
set_option maxHeartbeats 4000000
namespace Go.Dw.De
open Go.Dw

theorem get1 {α : Type} (A : List α) (y : α) (T : List α) {n : Int} (hn : n = A.length) : cA (A ++ y :: T) n = some y := by
 rw [bW (i := A.length) hn sm]
 simp
theorem get2 {α : Type} (A : List α) (y x : α) (T : List α) {n : Int} (hn : n = A.length + 1) : cA (A ++ y :: x :: T) n = some x := by
 have := get1 (A ++ [y]) x T (n := n) so
 simpa using this
theorem set1 {α : Type} (A : List α) (y z : α) (T : List α) {n : Int} (hn : n = A.length) : kC (A ++ y :: T) n z = some (A ++ z :: T) := by
 rw [np (i := A.length) hn sm]
 simp
theorem set2 {α : Type} (A : List α) (y x z : α) (T : List α) {n : Int} (hn : n = A.length + 1) : kC (A ++ y :: x :: T) n z = some (A ++ y :: z :: T) := by
 have := set1 (A ++ [y]) x z T (n := n) so
 simpa using this

def le1 (x y : Pick) : Prop := x.aG ≤ y.aG
theorem lit1_eq (a b : Pick) : dh a b = some (gN a.aG b.aG) := by
 unfold dh
 rw [Sd.cmp_int]; rfl
theorem yg {a b : Int} : gN a b < 0 ↔ a < b := by
 unfold gN
 by_cases h1 : a < b
 ·simp [h1]
 ·by_cases h2 : a > b <;> simp [h1, h2]
theorem lF {α : Type} {c : α → α → Int} (hc : Tot c) : ∀ {r s : List α}, r.Pairwise (fun x y => c x y < 0) → s.Pairwise (fun x y => c x y < 0) → (∀ x, x ∈ r ↔ x ∈ s) → r = s
 | [], [], _, _, _ => rfl
 | [], b :: s, _, _, h => by have := (h b).2 sm; cases this
 | a :: r, [], _, _, h => by have := (h a).1 sm; cases this
 | a :: r, b :: s, h1, h2, h => by
  obtain ⟨ha, hr⟩ := List.pairwise_cons.1 h1
  obtain ⟨hb, hs⟩ := List.pairwise_cons.1 h2
  have hab : a = b := by
   rcases List.mem_cons.1 ((h a).1 sm) with e | hm
   ·exact e
   ·rcases List.mem_cons.1 ((h b).2 sm) with e | hm'
    ·exact e.symm
    ·have h3 := hb a hm
     have h4 := ha b hm'
     have := hc.jf a b
     omega
  subst hab
  have hn : ∀ {t : List α}, (∀ y ∈ t, c a y < 0) → a ∉ t := fun h ht => by have := h a ht; have := hc.refl a; omega
  have : r = s := lF hc hr hs fun x => by
   have := h x
   simp only [List.mem_cons] at this
   constructor
   ·intro hx
    rcases this.1 (.inr hx) with e | h5
    ·subst e; exact (hn ha hx).elim
    ·exact h5
   ·intro hx
    rcases this.2 (.inr hx) with e | h5
    ·subst e; exact (hn hb hx).elim
    ·exact h5
  rw [this]
def cE (a b : Pick) : Int := if gN a.aG b.aG ≠ 0 then gN a.aG b.aG else ec a b
theorem cE_tot : Tot cE := (j9.map fun x : Pick => x.aG).or ed
def lx (a b : Pick) : Prop := cE a b < 0
theorem lx_lt {a b : Pick} (h : a.aG < b.aG) : lx a b := by
 unfold lx cE gN; simp [h]
theorem lx_le {a b : Pick} (h : a.aG ≤ b.aG) (h' : ec a b < 0) : lx a b := by
 by_cases e : a.aG < b.aG
 ·exact lx_lt e
 ·have : a.aG = b.aG := by omega
  unfold lx cE
  rw [if_neg (by rw [this]; simp [ng.2])]
  exact h'
theorem lx_early {a b : Pick} (h : lx a b) : a.aG ≤ b.aG := by
 unfold lx cE at h
 by_cases e : gN a.aG b.aG = 0
 ·rw [ng] at e; omega
 ·rw [if_pos e, yg] at h; omega
theorem sinner_ok (i : Nat) (L C : List Pick) (x : Pick) (hL : L.Pairwise lx) (hl : L.length ≤ 1000) (hx : ∀ a ∈ L, ec a x < 0) :
  Ok (bF (bL 0 (i : Int)) ((L.length : Int), L ++ x :: C)) (fun o => o.1 = i ∧ ∃ D, o.2 = D ++ C ∧ D.Perm (x :: L) ∧ D.Pairwise lx) := by
 refine Ok.loop (fun s => ∃ A B : List Pick, s = ((A.length : Int), A ++ x :: (B ++ C)) ∧ A ++ B = L ∧ ∀ b ∈ B, lx x b) (fun s => s.1.toNat) ?_ ⟨L, [], sm, sm, sm⟩
 rintro s ⟨A, B, rfl, hAB, hB⟩
 have hAl : A.length ≤ 1000 := by have := congrArg List.length hAB; simp at this; omega
 have hdone : (∀ a ∈ A, lx a x) → Ok (some (cb.stop ((i : Int), A ++ x :: (B ++ C)))) (Ok.S (fun s => ∃ A B : List Pick, s = ((A.length : Int), A ++ x :: (B ++ C)) ∧ A ++ B = L ∧ ∀ b ∈ B, lx x b) (fun s => s.1.toNat) (fun o : Int × List Pick => o.1 = i ∧ ∃ D, o.2 = D ++ C ∧ D.Perm (x :: L) ∧ D.Pairwise lx) ((A.length : Int), A ++ x :: (B ++ C))) := by
  intro hA
  refine Ok.st ⟨rfl, A ++ x :: B, sm, ?_, ?_⟩
  ·rw [← hAB]; exact List.perm_middle
  ·rw [← hAB] at hL
   obtain ⟨p1, p2, p3⟩ := List.pairwise_append.1 hL
   refine List.pairwise_append.2 ⟨p1, List.pairwise_cons.2 ⟨hB, p2⟩, fun a ha b hb => ?_⟩
   rcases List.mem_cons.1 hb with rfl | hb
   ·exact hA a ha
   ·exact p3 a ha b hb
 unfold bL
 dsimp only
 refine Ok.ea (fun hgt => ?_) (fun hle => ?_)
 rotate_left
 ·have : A = [] := List.eq_nil_of_length_eq_zero om
  subst this
  exact hdone sm
 rcases List.eq_nil_or_concat A with rfl | ⟨A', y, rfl⟩
 ·simp at hgt
 simp only [List.length_append, List.length_cons, List.length_nil, List.append_assoc, List.cons_append, List.nil_append, List.concat_eq_append] at hAl hgt hdone ⊢
 have hw : IntKind.wrap .i64 (((A'.length + (0 + 1) : Nat) : Int) - 1) = (A'.length : Int) := by rw [w64 om om]; omega
 rw [hw]
 have hin : inO (A' ++ y :: x :: (B ++ C)) ((A'.length + (0 + 1) : Nat) : Int) = some () := eB om so
 have hin2 : ∀ z, inO (A' ++ y :: z :: (B ++ C)) (A'.length : Int) = some () := fun z => eB om so
 rw [hin, zb, get2 A' y x (B ++ C) om, zb, hin2, zb, get1 A' y _ rfl, zb, lit1_eq, zb]
 refine Ok.ea (fun hlt => ?_) (fun hge => ?_)
 ·rw [zb, zb, zb, zb, zb, set2 A' y x y (B ++ C) om, zb, hin2, zb, set1 A' y x _ rfl, zb]
  rw [yg] at hlt
  refine Ok.nx ⟨A', y :: B, rfl, by simpa using hAB, fun b hb => ?_⟩ za
  rcases List.mem_cons.1 hb with rfl | hb
  ·exact lx_lt hlt
  ·exact hB b hb
 ·refine hdone fun a ha => ?_
  rw [yg] at hge
  have hy : y.aG ≤ x.aG := Int.not_lt.1 hge
  have hmem : ∀ a ∈ A' ++ [y], a ∈ L := fun a ha => by
   rw [← hAB]
   simp only [List.concat_eq_append]
   exact List.mem_append.2 (.inl ha)
  refine lx_le ?_ (hx a (hmem a ha))
  rw [List.mem_append, List.mem_singleton] at ha
  rcases ha with ha | rfl
  ·have : (A' ++ (y :: B)).Pairwise lx := by
    have := hL
    rw [← hAB] at this
    simpa using this
   have := lx_early ((List.pairwise_append.1 this).2.2 a ha y sm)
   exact Int.le_trans this hy
  ·exact hy
theorem xh (d : List Pick) (hd : d.length ≤ 1000) (hs : d.Pairwise (fun a b => ec a b < 0)) : Ok (a8 0 (d.length : Int) d) (fun r => r.Perm d ∧ r.Pairwise lx) := by
 unfold a8
 rw [w64 (n := 0 + 1) om om]
 refine Ok.bind (P := fun r => r.Perm d ∧ r.Pairwise lx) (Ok.loop (fun s => ∃ (D C : List Pick), s = (((if d = [] then 1 else D.length : Nat) : Int), D ++ C) ∧ (∃ T, T ++ C = d ∧ D.Perm T) ∧ D.Pairwise lx ∧ (d ≠ [] → 1 ≤ D.length)) (fun s => ((d.length : Int) - s.1).toNat) ?_ ?_) (fun o ho => Ok.ret ho)
 ·rintro s ⟨D, C, rfl, ⟨T, hT, hp⟩, hsD, h1⟩
  unfold bn
  dsimp only
  have hpl : D.length + C.length = d.length := by have := hp.length_eq; have := congrArg List.length hT; rw [List.length_append] at this; omega
  refine Ok.ea (fun hlt => ?_) (fun hge => ?_)
  ·have hne : d ≠ [] := fun e => by subst e; simp at hlt
   rw [if_neg hne] at hlt ⊢
   rcases C with _ | ⟨x, C⟩
   ·simp at hpl; omega
   have hord := hs
   rw [← hT] at hord
   obtain ⟨q1, q2, q3⟩ := List.pairwise_append.1 hord
   refine Ok.bind (sinner_ok D.length D C x hsD om fun a ha => q3 a (hp.mem_iff.1 ha) x sm) (fun o ho => ?_)
   obtain ⟨o1, D', o2, o3, o4⟩ := ho
   rw [o1, o2, w64 om om]
   have hl' : D'.length = D.length + 1 := by have := o3.length_eq; simpa using this
   refine Ok.nx ⟨D', C, ?_, ⟨T ++ [x], by simpa using hT, ?_⟩, o4, fun _ => om⟩ za
   ·rw [if_neg hne, hl']; simp
   ·exact o3.trans (((List.Perm.cons x hp)).trans (List.perm_append_singleton x T).symm)
  ·rw [zb]
   have hperm : (D ++ C).Perm d := by rw [← hT]; exact hp.append_right C
   refine Ok.st ⟨hperm, ?_⟩
   by_cases hne : d = []
   ·subst hne
    have : D ++ C = [] := List.eq_nil_of_length_eq_zero (by simpa using hperm.length_eq)
    rw [this]; exact .nil
   ·rw [if_neg hne] at hge
    have : C = [] := List.eq_nil_of_length_eq_zero om
    subst this
    simpa using hsD
 ·by_cases hne : d = []
  ·subst hne
   exact ⟨[], [], sm, ⟨[], rfl, .refl _⟩, .nil, fun h => (h rfl).elim⟩
  ·refine ⟨d.take 1, d.drop 1, ?_, ⟨d.take 1, List.take_append_drop 1 d, .refl _⟩, ?_, fun _ => ?_⟩
   ·rw [if_neg hne, List.take_append_drop]
    have := List.length_pos_iff.2 hne
    simp; omega
   ·rcases d with _ | ⟨a, d⟩
    ·exact (hne rfl).elim
    ·simp
   ·have := List.length_pos_iff.2 hne
    simp; omega
theorem insertion_end (n : Nat) (hn : n ≤ 1000) (d : List Pick) : a8 (n : Int) (n : Int) d = some d := by
 unfold a8
 rw [w64 om om]
 have : bn (n : Int) (n : Int) ((n : Int) + 1, d) = some (.stop d) := by
  unfold bn
  dsimp only
  rw [if_neg so]; rfl
 rw [cZ this]; rfl
theorem xV (d : List Pick) (hd : d.length ≤ 20) (hs : d.Pairwise (fun a b => ec a b < 0)) : Ok (bt d) (fun r => r.Perm d ∧ r.Pairwise lx) := by
 unfold bt
 refine Ok.bind (P := fun r => r.Perm d ∧ r.Pairwise lx) ?_ (fun o ho => Ok.ret ho)
 unfold cH
 have hend : ∀ r : List Pick, bF (cf (d.length : Int) r) (20 : Int) = some r := fun r => by
  refine cZ ?_
  unfold cf
  rw [if_neg so]; rfl
 by_cases h20 : d.length = 20
 ·have e1 : bh (d.length : Int) ((0 : Int), (20 : Int), d) = (a8 0 (d.length : Int) d).bind fun x8 => some (.next ((20 : Int), (40 : Int), x8)) := by
   unfold bh
   dsimp only
   rw [if_pos so, w64 om om]
   rw [h20]; rfl
  obtain ⟨r, e2, hr⟩ := xh d om hs
  rw [e2, zb] at e1
  have e3 : bh (d.length : Int) ((20 : Int), (40 : Int), r) = some (.stop ((20 : Int), r)) := by
   unfold bh
   dsimp only
   rw [if_neg so]
  rw [eb e1, cZ e3, zb]
  dsimp only
  have e4 := insertion_end 20 om r
  rw [h20] at hend ⊢
  rw [show ((20 : Nat) : Int) = 20 from rfl] at e4 hend ⊢
  rw [e4, zb, hend]
  exact Ok.ret hr
 ·have e3 : bh (d.length : Int) ((0 : Int), (20 : Int), d) = some (.stop ((0 : Int), d)) := by
   unfold bh
   dsimp only
   rw [if_neg so]
  rw [cZ e3, zb]
  dsimp only
  refine Ok.bind (xh d om hs) (fun r hr => ?_)
  rw [hend]
  exact Ok.ret hr

theorem lastO_snoc {α : Type} (O : List α) (g : α) : mu (O ++ [g]) = some g := by
 unfold mu
 simp
theorem wQ (O : List (List Pick)) (g : List Pick) (p : Pick) (i : Int) (hO : O.length ≤ 1000) (hg : g.length ≤ 1000) :
  ((mu (O ++ [g])).bind fun x13 => (inO (O ++ [g]) (IntKind.wrap .i64 (((O ++ [g]).length : Int) - (1 : Int)))).bind fun x14 => (atO (IntKind.wrap .i64 (((O ++ [g]).length : Int) - (1 : Int))) ((O ++ [g]).length - 1)).bind fun x15 => (dJ x13 [p] 104).bind fun x16 => (inO (O ++ [g]) (IntKind.wrap .i64 (((O ++ [g]).length : Int) - (1 : Int)))).bind fun x17 => (stO (O ++ [g]).length (IntKind.wrap .i64 (((O ++ [g]).length : Int) - (1 : Int))) ((O ++ [g]).length - 1)).bind fun x18 => some (cb.next (IntKind.wrap .i64 (i + (1 : Int)), (O ++ [g]).set ((O ++ [g]).length - 1) x16) : cb (Int × List (List Pick)) (List (List Pick))))
   = some (.next (IntKind.wrap .i64 (i + 1), O ++ [g ++ [p]])) := by
 have hl : (O ++ [g]).length = O.length + 1 := by simp
 have hw : IntKind.wrap .i64 (((O ++ [g]).length : Int) - 1) = (O.length : Int) := by rw [hl, w64 om om]; omega
 rw [hw, lastO_snoc, zb, eB om (by rw [hl]; omega), zb, hl]
 have ha : atO (O.length : Int) (O.length + 1 - 1) = some () := by unfold atO; rw [if_pos sm]
 have hs : stO (O.length + 1) (O.length : Int) (O.length + 1 - 1) = some () := by unfold stO; rw [if_pos sm]
 rw [ha, zb, cg (by simp only [List.length_cons, List.length_nil]; omega), zb, zb, hs, zb]
 simp
def Gap (far : Int) (g h : List Pick) : Prop := ∀ b ∈ g, ∀ a ∈ h, far < a.aG - b.aG
structure BI (far : Int) (all : List Pick) (i : Nat) (out : List (List Pick)) : Prop where
 flat : out.flatten = all.take i
 ne : ∀ g ∈ out, g ≠ []
 gap : out.Pairwise (Gap far)
 pos : 0 < i → out ≠ []
theorem len_le {out : List (List Pick)} (h : ∀ g ∈ out, g ≠ []) : out.length ≤ out.flatten.length := by
 induction out with
 | nil => simp
 | cons g out ih =>
  have := List.length_pos_iff.2 (h g sm)
  have := ih fun g hg => h g (by simp [hg])
  rw [List.flatten_cons, List.length_append, List.length_cons]; omega
theorem l36_ok (far : Int) (all : List Pick) (hl : all.length ≤ 1000) (hs : all.Pairwise le1) (hr : ∀ p ∈ all, 0 ≤ p.aG ∧ p.aG ≤ 18014398509481984) :
  Ok (bF (bZ all far) ((0 : Int), [])) (BI far all all.length) := by
 refine Ok.loop (fun s => ∃ i : Nat, s.1 = i ∧ i ≤ all.length ∧ BI far all i s.2) (fun s => ((all.length : Int) - s.1).toNat) ?_ ⟨0, rfl, Nat.zero_le _, ⟨sm, sm, .nil, fun h => om⟩⟩
 rintro ⟨s3, out⟩ ⟨i, rfl, hi, hB⟩
 unfold bZ
 dsimp only
 refine Ok.ea (fun hlt => ?_) (fun hge => ?_)
 rotate_left
 ·have : i = all.length := by omega
  subst this
  exact Ok.st hB
 have hlt : i < all.length := by omega
 have hol : out.length ≤ 1000 := by have := len_le hB.ne; rw [hB.flat] at this; simp at this; omega
 have hgl : ∀ g ∈ out, g.length ≤ 1000 := fun g hg => by
  have h1 := (List.sublist_flatten_of_mem hg).length_le
  rw [hB.flat] at h1; simp at h1; omega
 have htake : all.take (i + 1) = all.take i ++ [all[i]] := cn hlt
 have hmem : ∀ g ∈ out, ∀ b ∈ g, ∃ j, ∃ h : j < i, all[j]'om = b := fun g hg b hb => by
  have : b ∈ all.take i := by rw [← hB.flat]; exact List.mem_flatten.2 ⟨g, hg, hb⟩
  obtain ⟨j, hj, e⟩ := List.getElem_of_mem this
  simp only [List.length_take] at hj
  rw [List.getElem_take] at e
  exact ⟨j, om, e⟩
 have hord : ∀ {j k : Nat} (hk : k < all.length) (hjk : j ≤ k), (all[j]'om).aG ≤ all[k].aG := fun {j k} hk hjk => by
  by_cases e : j = k
  ·subst e; exact Int.le_refl _
  ·exact List.pairwise_iff_getElem.1 hs j k om hk om
 have hnew : (0 < i → ∃ h : i - 1 < all.length, far < all[i].aG - (all[i - 1]'h).aG) → BI far all (i + 1) (out ++ [[all[i]]]) := fun hg => by
  refine ⟨by rw [List.flatten_append, hB.flat, htake]; simp, fun g hg' => ?_, List.pairwise_append.2 ⟨hB.gap, List.pairwise_singleton _ _, fun g hg' h hh => ?_⟩, fun _ => sm⟩
  ·rcases List.mem_append.1 hg' with hg' | hg'
   ·exact hB.ne g hg'
   ·rw [List.mem_singleton] at hg'; subst hg'; simp
  ·rw [List.mem_singleton] at hh
   subst hh
   intro b hb a ha
   rw [List.mem_singleton] at ha
   subst ha
   obtain ⟨j, hj, rfl⟩ := hmem g hg' b hb
   obtain ⟨h1, h2⟩ := hg om
   have := hord (j := j) (k := i - 1) h1 om
   omega
 rw [eB om om, zb, bW (i := i) rfl hlt, zb]
 have happ : dJ out [[]] 24 = some (out ++ [[]]) := cg (by simp only [List.length_cons, List.length_nil]; omega)
 refine Ok.kY (fun h0 => ?_) (fun h0 => ?_)
 ·have h0 : i = 0 := by omega
  rw [happ, zb, wQ out [] all[i] i hol sm, w64 om om]
  refine Ok.nx ⟨i + 1, sm, om, ?_⟩ za
  simpa using hnew fun h => by omega
 ·have h0 : 0 < i := by omega
  have hi1 : i - 1 < all.length := by omega
  rw [w64 (n := (i : Int) - 1) om om, eB om om, zb, bW (i := i - 1) om hi1, zb]
  have r1 := hr _ (List.getElem_mem hlt)
  have r2 := hr _ (List.getElem_mem hi1)
  rw [w64 (n := all[i].aG - (all[i - 1]'hi1).aG) om om]
  refine Ok.ea (fun hfar => ?_) (fun hnear => ?_)
  ·rw [happ, zb, wQ out [] all[i] i hol sm, w64 om om]
   refine Ok.nx ⟨i + 1, sm, om, ?_⟩ za
   simpa using hnew fun _ => ⟨hi1, om⟩
  ·rcases List.eq_nil_or_concat out with rfl | ⟨O, g, rfl⟩
   ·exact (hB.pos h0 rfl).elim
   rw [List.concat_eq_append] at hB hol hgl hmem ⊢
   have hgne := hB.ne g sm
   rw [wQ O g all[i] i (by simp at hol; omega) (hgl g sm), w64 om om]
   refine Ok.nx ⟨i + 1, sm, om, ?_⟩ za
   obtain ⟨p1, p2, p3⟩ := List.pairwise_append.1 hB.gap
   refine ⟨?_, fun g' hg' => ?_, List.pairwise_append.2 ⟨p1, List.pairwise_singleton _ _, fun u hu h hh => ?_⟩, fun _ => sm⟩
   ·have := hB.flat
    simp only [List.flatten_append, List.flatten_cons, List.flatten_nil, List.append_nil] at this ⊢
    rw [htake, ← this, List.append_assoc]
   ·rcases List.mem_append.1 hg' with hg' | hg'
    ·exact hB.ne g' (by simp [hg'])
    ·rw [List.mem_singleton] at hg'; subst hg'; simp
   ·rw [List.mem_singleton] at hh
    subst hh
    intro b hb a ha
    rcases List.mem_append.1 ha with ha | ha
    ·exact p3 u hu g sm b hb a ha
    ·rw [List.mem_singleton] at ha
     subst ha
     rcases g with _ | ⟨c, g⟩
     ·exact (hgne rfl).elim
     have h1 := p3 u hu (c :: g) sm b hb c sm
     obtain ⟨j, hj, e⟩ := hmem (c :: g) sm c sm
     have := hord (j := j) (k := i) hlt om
     rw [e] at this
     omega
theorem l47_ok (out : List (List Pick)) (hl : out.length ≤ 1000) (hg : ∀ g ∈ out, g.length ≤ 1000) :
  Ok (bF (bH out) ((0 : Int), out)) (fun x => x.length = out.length ∧ ∀ (j : Nat) (h : j < x.length) (h' : j < out.length), x[j].Perm out[j] ∧ x[j].Pairwise (fun a b => ec a b ≤ 0)) := by
 refine Ok.loop (fun s => ∃ i : Nat, s.1 = i ∧ i ≤ out.length ∧ s.2.length = out.length ∧ ∀ (j : Nat) (h : j < s.2.length) (h' : j < out.length), s.2[j].Perm out[j] ∧ (j < i → s.2[j].Pairwise (fun a b => ec a b ≤ 0))) (fun s => ((out.length : Int) - s.1).toNat) ?_ ⟨0, rfl, Nat.zero_le _, rfl, fun j h h' => ⟨.refl _, fun h => om⟩⟩
 rintro ⟨s1, cur⟩ ⟨i, rfl, hi, hlen, hc⟩
 unfold bH
 dsimp only at hlen hc ⊢
 refine Ok.ea (fun hlt => ?_) (fun hge => ?_)
 rotate_left
 ·exact Ok.st ⟨hlen, fun j h h' => ⟨(hc j h h').1, (hc j h h').2 om⟩⟩
 have hlt : i < out.length := by omega
 have hic : i < cur.length := by omega
 have hat : atO (i : Int) (Int.toNat (i : Int)) = some () := by unfold atO; rw [if_pos rfl]
 obtain ⟨hp, -⟩ := hc i hic hlt
 have hcl : cur[i].length ≤ 1000 := by rw [hp.length_eq]; exact hg _ (List.getElem_mem hlt)
 obtain ⟨m, e1, e2, e3⟩ := sort_at hcl
 rw [bW (i := i) rfl hic, zb, eB om om, zb, hat, zb, e1, zb, w64 om om]
 refine Ok.nx ⟨i + 1, sm, om, by simpa using hlen, fun j h h' => ?_⟩ za
 simp only [Int.toNat_natCast, List.length_set] at h ⊢
 rw [List.getElem_set]
 by_cases hij : i = j
 ·subst hij
  rw [if_pos rfl]
  exact ⟨e2.trans hp, fun _ => e3⟩
 ·rw [if_neg hij]
  exact ⟨(hc j h h').1, fun hj => (hc j h h').2 om⟩
theorem yl : ∀ {x y : List (List Pick)}, x.length = y.length → (∀ (j : Nat) (h : j < x.length) (h' : j < y.length), x[j].Perm y[j]) → x.flatten.Perm y.flatten
 | [], [], _, _ => .refl _
 | [], _ :: _, h, _ => by simp at h
 | _ :: _, [], h, _ => by simp at h
 | g :: x, k :: y, h, hp => by
  have h0 := hp 0 sm sm
  have := yl (x := x) (y := y) (by simpa using h) fun j h1 h2 => hp (j + 1) so so
  simpa using h0.append this
structure ug (far : Int) (l : List Pick) (x : List (List Pick)) : Prop where
 flat : ∃ s : List Pick, gK l = some s ∧ s.length ≤ l.length ∧ s.Pairwise (fun a b => ec a b < 0) ∧ (∀ p, p ∈ s ↔ p ∈ l) ∧ x.flatten.Perm s
 ne : ∀ g ∈ x, g ≠ []
 gap : x.Pairwise (Gap far)
 sorted : ∀ g ∈ x, g.Pairwise (fun a b => ec a b < 0)
theorem um (far : Int) (l : List Pick) (hl : l.length ≤ 20) (hr : ∀ p ∈ l, fB p) : Ok (bG far l) (ug far l) := by
 unfold bG
 obtain ⟨s, e1, e2, e3, e4⟩ := Sort_eq (l := l) om
 rw [e1, zb]
 refine Ok.bind (xV s om e2) (fun all ha => ?_)
 have hal : all.length = s.length := ha.1.length_eq
 refine Ok.bind (l36_ok far all om (ha.2.imp fun h => lx_early h) fun p hp => ?_) (fun out hB => ?_)
 ·have := hr p ((e3 p).1 (ha.1.mem_iff.1 hp))
  exact ⟨this.2.1, by have := this.2.2; omega⟩
 have hflat : out.flatten = all := by rw [hB.flat]; simp
 have hol : out.length ≤ 1000 := by have := len_le hB.ne; rw [hflat] at this; omega
 refine Ok.bind (l47_ok out hol fun g hg => ?_) (fun x hx => ?_)
 ·have h1 := (List.sublist_flatten_of_mem hg).length_le
  rw [hflat] at h1; omega
 obtain ⟨hxl, hxp⟩ := hx
 have hperm : x.flatten.Perm s := (yl hxl fun j h h' => (hxp j h h').1).trans (by rw [hflat]; exact ha.1)
 have hnd : s.Nodup := e2.imp fun {a b} h e => by
  subst e
  have := ed.refl a
  omega
 refine Ok.ret ⟨⟨s, e1, om, e2, e3, hperm⟩, fun g hg => ?_, ?_, fun g hg => ?_⟩
 ·obtain ⟨j, hj, rfl⟩ := List.getElem_of_mem hg
  have h1 := (hxp j hj om).1
  intro e
  rw [e] at h1
  exact hB.ne _ (List.getElem_mem om) h1.nil_eq.symm
 ·rw [List.pairwise_iff_getElem]
  intro j k hj hk hjk b hb a ha'
  have h1 := List.pairwise_iff_getElem.1 hB.gap j k om om hjk
  exact h1 b ((hxp j hj om).1.mem_iff.1 hb) a ((hxp k hk om).1.mem_iff.1 ha')
 ·obtain ⟨j, hj, rfl⟩ := List.getElem_of_mem hg
  have h1 := (hxp j hj om).2
  have hn : x[j].Nodup := (hperm.nodup_iff.2 hnd).sublist (List.sublist_flatten_of_mem (List.getElem_mem hj))
  refine (h1.and hn).imp fun {a b} h => ?_
  obtain ⟨h2, h3⟩ := h
  rcases Int.lt_or_eq_of_le h2 with h4 | h4
  ·exact h4
  ·exact (h3 (wH h4)).elim
end Go.Dw.De




set_option maxRecDepth 100000
set_option maxHeartbeats 4000000
namespace Go.Dw.De
open Go.Dw Go.Proofs

theorem wO {x : Sid} (h : So.jt x = true) : So.SidLen x := by
 obtain ⟨h1, h2, h3, h4⟩ := So.valid_len h
 exact ⟨om, om, om, om⟩
theorem valid_pick {p : Pick} (h : fB p) : cC p = some true := by
 obtain ⟨h0, h1, h2, h3, h4, h5, h6, h7, h8⟩ := h
 unfold cC
 rw [So.vV (wO h0), h0, zb, if_pos rfl, if_pos (by simpa using h1), if_pos (by simpa using h2), if_pos (by simpa using h3), if_pos (by simpa using h4)]
 have e1 : iI p.aH 0 1073741823 = some true := by unfold iI; rw [if_pos (by simpa using h5)]; simpa using h6
 have e2 : iI p.aK (-1) 1 = some true := by unfold iI; rw [if_pos (by simpa using h7)]; simpa using h8
 rw [e1, zb, if_pos rfl, e2]; rfl
theorem uf {l : List Pick} (hl : l.length ≤ 1000) (h : ∀ p ∈ l, fB p) : cB l = some true := by
 unfold cB cj cG
 have : Ok (bF (bq l) (0 : Int)) (fun o => o = .inl ()) := by
  refine Ok.upto l.length om (fun _ => True) trivial (fun i h0 h1 _ => ?_)
  unfold bq
  refine Ok.ea (fun hlt => ?_) (fun _ => Ok.st rfl)
  refine Ok.bind (Ok.get om om) (fun p hp => ?_)
  unfold dI
  rw [valid_pick (h p hp.1), zb, zb, if_neg sm, w64 om om]
  exact Ok.nx ⟨⟨om, om⟩, trivial⟩ om
 rw [this.eq]; rfl
theorem same_refl {l : List Pick} (hl : l.length ≤ 1000) : dm l l = some true := by
 unfold dm
 rw [if_neg sm]
 have : Ok (bF (cP l l) (0 : Int)) (fun o => o = .inl ()) := by
  refine Ok.upto l.length om (fun _ => True) trivial (fun i h0 h1 _ => ?_)
  unfold cP
  refine Ok.ea (fun hlt => ?_) (fun _ => Ok.st rfl)
  obtain ⟨p, hp, -⟩ := Ok.get (l := l) h0 om
  rw [hp, zb, zb, if_neg sm, w64 om om]
  exact Ok.nx ⟨⟨om, om⟩, trivial⟩ om
 rw [this.eq]; rfl
def P (t : Int) : Pick := ⟨⟨[65, 66], [83, 49], [48, 48], [66, 72, 90]⟩, t, t, t, 0, 0⟩
def S1 : Sid := ⟨[65, 66], [83, 49], [48, 48], [66, 72, 90]⟩
theorem pick_at (t : Int) : ff t = some (P t) := by
 have : dF (0 : Int) = some S1 := by kernel_rfl
 unfold ff
 rw [this]; rfl
theorem sortP {a : Pick} {l r : List Pick} (hl : (a :: l).length < 4611686018427387904)
  (h : (haveI : Inhabited Pick := ⟨a⟩; (Sort.pdq (fun x y => decide (ec x y < 0)) (a :: l).toArray 0 (a :: l).length (Lib.bitLen (a :: l).length) true true).toList) = r) : gH bf (a :: l) = some r := by
 rw [jx, if_pos ⟨Compare_ok, hl⟩, lt3_eq, ← h]
theorem lt3S : lt3 bY = fun x y => decide (Sd.ef x y < 0) := by
 funext x y
 unfold lt3
 rw [Sd.jT]; rfl
theorem lit2_eq (a b : aj) : bS a b = some (gN a.aJ b.aJ) := by
 unfold bS
 rw [Sd.cmp_int]; rfl
theorem lt3N : lt3 bS = fun x y => decide (gN x.aJ y.aJ < 0) := by
 funext x y
 unfold lt3
 rw [lit2_eq]; rfl
end Go.Dw.De


set_option maxRecDepth 100000
set_option maxHeartbeats 4000000
namespace Go.Dw.De
open Go.Dw Go.Proofs
open Sd (ef dj eI)

theorem ln {α ω : Type} {body : Int → Option (cb Int (Unit ⊕ ω))} (l : List α) {p : α → Bool} {f : Nat → α → ω}
  (h1 : ∀ (i : Nat) (hi : i < l.length), body i = if p l[i] = true then some (.stop (.inr (f i l[i]))) else some (.next ((i + 1 : Nat) : Int)))
  (h2 : body (l.length : Nat) = some (.stop (.inl ()))) :
  (bF body (0 : Int) = some (.inl ()) ∧ ∀ x ∈ l, p x = false) ∨
  ∃ (i : Nat) (hi : i < l.length), bF body (0 : Int) = some (.inr (f i l[i])) ∧ p l[i] = true ∧ ∀ x ∈ l.take i, p x = false := by
 have : ∀ k i, i + k = l.length → (∀ x ∈ l.take i, p x = false) → (bF body (i : Int) = some (.inl ()) ∧ ∀ x ∈ l, p x = false) ∨
   ∃ (j : Nat) (hj : j < l.length), bF body (i : Int) = some (.inr (f j l[j])) ∧ p l[j] = true ∧ ∀ x ∈ l.take j, p x = false := by
  intro k
  induction k with
  | zero =>
   intro i hi ha
   obtain rfl : i = l.length := by omega
   exact .inl ⟨cZ h2, by simpa using ha⟩
  | succ k ih =>
   intro i hi ha
   have hlt : i < l.length := by omega
   cases hp : p l[i] with
   | true => exact .inr ⟨i, hlt, cZ (by rw [h1 i hlt, if_pos hp]), hp, ha⟩
   | false =>
    have e := eb (ω := Unit ⊕ ω) (body := body) (s := (i : Int)) (s' := ((i + 1 : Nat) : Int)) (by rw [h1 i hlt, if_neg (by simp [hp])])
    rw [e]
    refine ih (i + 1) om fun x hx => ?_
    rw [cn hlt] at hx
    rcases List.mem_append.1 hx with hx | hx
    ·exact ha x hx
    ·rw [List.mem_singleton] at hx; rw [hx]; exact hp
 have := this l.length 0 om sm
 simpa using this
theorem tY {α ω : Type} {body : Int → Option (cb Int (Unit ⊕ ω))} (l : List α) {p : α → Bool} {f : α → ω}
  (h1 : ∀ (i : Nat) (hi : i < l.length), body i = if p l[i] = true then some (.stop (.inr (f l[i]))) else some (.next ((i + 1 : Nat) : Int)))
  (h2 : body (l.length : Nat) = some (.stop (.inl ()))) : bF body (0 : Int) = some (match l.find? p with | none => .inl () | some x => .inr (f x)) := by
 rcases ln l (f := fun _ x => f x) h1 h2 with ⟨e, h⟩ | ⟨i, hi, e, hp, h⟩
 ·rw [e, List.find?_eq_none.2 fun x hx => by simp [h x hx]]
 ·rw [e]
  have : l.find? p = some l[i] := by
   refine List.find?_eq_some_iff_append.2 ⟨hp, l.take i, l.drop (i + 1), ?_, fun x hx => by simp [h x hx]⟩
   rw [← List.drop_eq_getElem_cons hi, List.take_append_drop]
  rw [this]
theorem rF {ω : Type} {body : Int → Option (cb Int (Unit ⊕ ω))} (n : Nat) (h1 : ∀ i : Nat, i < n → body i = some (.next ((i + 1 : Nat) : Int))) (h2 : body (n : Nat) = some (.stop (.inl ()))) : bF body (0 : Int) = some (.inl ()) := by
 have : ∀ k i : Nat, i + k = n → bF body (i : Int) = some (.inl ()) := by
  intro k
  induction k with
  | zero =>
   intro i hi
   obtain rfl : i = n := by omega
   exact cZ h2
  | succ k ih => intro i hi; rw [eb (h1 i om)]; exact ih (i + 1) om
 simpa using this n 0 om

theorem terms_ok {l : List Int} (hl : l.length ≤ 1000) (h : ∀ x ∈ l, -1048576 ≤ x ∧ x ≤ 1048576) : ce l = some true := by
 unfold ce cq cO
 rw [rF l.length (fun i hi => ?_) ?_]
 ·rfl
 ·unfold bK
  rw [if_neg sm]
 ·unfold bK
  have hx := h l[i] (List.getElem_mem hi)
  rw [if_pos so, bW rfl hi, zb]
  unfold eN ct
  rw [if_pos (by simpa using hx.1), zb, zb, if_neg (by simpa using hx.2), w64 om om]
  simp
def tf (x : aq) : Prop := cm x = some true ∧ (x.br = 2 → x.aX = 1) ∧ x.bc.length ≤ 3
theorem gain_ok {a b : Int} (ha : 1 ≤ a ∧ a ≤ 1048576) (hb : 1 ≤ b ∧ b ≤ 1048576) : tf ⟨0, ⟨a, 0, 0⟩, ⟨b, 0, 0⟩, [], 0, 0⟩ := by
 refine ⟨?_, sm, sm⟩
 unfold cm ct
 simp [ha.1, ha.2, hb.1, hb.2]
theorem section_ok {a b c d e f : Int} (ha : -10 ≤ a ∧ a ≤ 10) (hb : -10 ≤ b ∧ b ≤ 10) (hc : -10 ≤ c ∧ c ≤ 10) (hd : 1 ≤ d ∧ d ≤ 10) (he : -10 ≤ e ∧ e ≤ 10) (hf : -10 ≤ f ∧ f ≤ 10) : tf ⟨1, ⟨a, b, c⟩, ⟨d, e, f⟩, [], 0, 0⟩ := by
 refine ⟨?_, sm, sm⟩
 have h1 : ce [a, b, c] = some true := terms_ok sm so
 have h2 : ce [d, e, f] = some true := terms_ok sm so
 have h3 : d ≠ 0 := by omega
 unfold cm
 simp [h1, h2, h3]
theorem filter_ok {a s : Int} (ha : 1 ≤ a ∧ a ≤ 3) (hs : 0 ≤ s ∧ s ≤ 3) : tf ⟨2, ⟨0, 0, 0⟩, ⟨0, 0, 0⟩, [a, 2, 1], 1, s⟩ := by
 have h1 : a = 1 ∨ a = 2 ∨ a = 3 := by omega
 have h2 : s = 0 ∨ s = 1 ∨ s = 2 ∨ s = 3 := by omega
 refine ⟨?_, sm, sm⟩
 have ht : ce [a, 2, 1] = some true := terms_ok sm so
 have hsum : dP [a, 2, 1] = some (a + 3) := by
  unfold dP
  rcases h1 with rfl | rfl | rfl
  ·rw [ke (n := 4) (o := 4) (by kernel_rfl)]; rfl
  ·rw [ke (n := 4) (o := 5) (by kernel_rfl)]; rfl
  ·rw [ke (n := 4) (o := 6) (by kernel_rfl)]; rfl
 have h3 : a + 3 ≠ 0 := by omega
 have h4 : 0 ≤ s ∧ s ≤ 3 := by omega
 unfold cm ct
 rw [ht, hsum]
 simp [h3, h4.1]
 omega
def RespOk (r : aB) : Prop := r.aL.length ≤ 3 ∧ ∀ x ∈ r.aL, tf x
theorem responseV (d : Src) (hd : b7 d) : Ok (fq d) (fun r => RespOk r.1 ∧ b7 r.2) := by
 unfold fq
 refine Ok.bind (eQ _ _ hd om om) (fun x1 h1 => ?_)
 refine Ok.bind (P := fun o : List Int × Int × List aq => b7 ⟨o.1, o.2.1⟩ ∧ (o.2.2.length ≤ 3 ∧ ∀ x ∈ o.2.2, tf x)) (Ok.loop (fun s => 0 ≤ s.1 ∧ s.1 + s.2.2.2.length ≤ 3 ∧ (∀ x ∈ s.2.2.2, tf x) ∧ b7 ⟨s.2.1, s.2.2.1⟩) (fun s => s.1.toNat) ?_ ⟨za, by simp only [List.length_nil]; omega, sm, h1.2.2⟩) (fun o ho => Ok.ret (Q := fun r : aB × Src => RespOk r.1 ∧ b7 r.2) ⟨ho.2, ho.1⟩)
 rintro ⟨s2, s3, s4, s5⟩ ⟨i0, i1, i2, i3⟩
 simp only at i0 i1 i2 i3
 unfold jy
 have happ : ∀ (x : aq), Ok (dJ s5 [x] 96) (fun r => r = s5 ++ [x]) := fun x => Ok.app (by simp only [List.length_cons, List.length_nil]; omega)
 have hnext : ∀ {x : aq}, tf x → ∀ c ∈ s5 ++ [x], tf c := fun hx c hc => by
  simp only [List.mem_append, List.mem_singleton] at hc
  rcases hc with hc | rfl
  ·exact i2 c hc
  ·exact hx
 refine Ok.ea (fun hgt => ?_) (fun _ => Ok.st ⟨i3, za, i2⟩)
 refine Ok.bind (eQ _ _ i3 om om) (fun y1 g1 => ?_)
 refine Ok.kY (fun hk => ?_) (fun _ => Ok.kY (fun hk => ?_) (fun _ => ?_))
 ·refine Ok.bind (gE _ _ g1.2.2 sm sm) (fun y2 g2 => ?_)
  refine Ok.bind (gE _ _ g2.2 sm sm) (fun y3 g3 => ?_)
  refine Ok.bind (happ _) (fun y4 g4 => ?_)
  subst g4
  have b1 : 0 ≤ y2.1 ∧ y2.1 ≤ 1048575 := by have := g2.1; simp at this; omega
  have b2 : 0 ≤ y3.1 ∧ y3.1 ≤ 999 := by have := g3.1; simp at this; omega
  rw [w64 (n := s2 - 1) om om, w64 (n := 1 + y2.1) om om, w64 (n := 1 + y3.1) om om, hk]
  exact Ok.nx ⟨za, by simp only [List.length_append, List.length_cons, List.length_nil]; omega, hnext (gain_ok om om), g3.2⟩ za
 ·refine Ok.bind (eQ _ _ g1.2.2 om om) (fun y2 g2 => ?_)
  refine Ok.bind (eQ _ _ g2.2.2 om om) (fun y3 g3 => ?_)
  refine Ok.bind (eQ _ _ g3.2.2 om om) (fun y4 g4 => ?_)
  refine Ok.bind (eQ _ _ g4.2.2 om om) (fun y5 g5 => ?_)
  refine Ok.bind (eQ _ _ g5.2.2 om om) (fun y6 g6 => ?_)
  refine Ok.bind (eQ _ _ g6.2.2 om om) (fun y7 g7 => ?_)
  refine Ok.bind (happ _) (fun y8 g8 => ?_)
  subst g8
  rw [w64 (n := s2 - 1) om om, w64 (n := y3.1 - 3) om om, w64 (n := y4.1 - 1) om om, w64 (n := 1 + y5.1) om om, hk]
  exact Ok.nx ⟨za, by simp only [List.length_append, List.length_cons, List.length_nil]; omega, hnext (section_ok om om om om om om), g7.2.2⟩ za
 ·refine Ok.bind (eQ _ _ g1.2.2 om om) (fun y2 g2 => ?_)
  refine Ok.bind (eQ _ _ g2.2.2 om om) (fun y3 g3 => ?_)
  refine Ok.bind (happ _) (fun y8 g8 => ?_)
  subst g8
  rw [w64 (n := s2 - 1) om om, w64 (n := 1 + y2.1) om om, show y1.1 = 2 by omega]
  exact Ok.nx ⟨za, by simp only [List.length_append, List.length_cons, List.length_nil]; omega, hnext (filter_ok om om), g3.2.2⟩ za
def RateOk (r : aT) : Prop := r.aS = 1 ∧ (r.aU = 100 ∨ r.aU = 50 ∨ r.aU = 51)
structure EpOk (e : ai) : Prop where
 lo : 0 ≤ e.aJ
 lt : e.aJ < e.fTo
 hi : e.fTo ≤ 10000000
 from_ : e.aJ ≤ 2000
 rate : RateOk e.bI
 resp : RespOk e.aQ
 pos : tN 60 e.aF
structure tc (l : List ai) : Prop where
 ne : l ≠ []
 len : l.length ≤ 2
 all : ∀ e ∈ l, EpOk e
 ord : (l.map fun e => (e.aJ, e.fTo)).Pairwise (fun a b => a.2 ≤ b.1)
def ChOk (c : ae) : Prop := IsSid c.ak ∧ tc c.aM
structure tC (v : ac) : Prop where
 len : v.al.length ≤ 6
 all : ∀ c ∈ v.al, ChOk c
 ord : (v.al.map (·.ak)).Pairwise (fun a b => ef a b < 0)
theorem tC.inv {v : ac} (h : tC v) : InvOk v := ⟨h.len, fun c hc => ⟨(h.all c hc).2.len, fun e he => ((h.all c hc).2.all e he).pos⟩⟩
def sid (i : Nat) : Sid := ⟨[65, 66], stas.getD i [], [48, 48], [66, 72, 90]⟩
theorem source_at {n : Int} {i : Nat} (hn : n = i) (hi : i < 6) : dF n = some (sid i) := by
 subst hn
 have : i = 0 ∨ i = 1 ∨ i = 2 ∨ i = 3 ∨ i = 4 ∨ i = 5 := by omega
 rcases this with rfl | rfl | rfl | rfl | rfl | rfl <;> (show dF _ = some _; kernel_rfl)
theorem sid_ok {i : Nat} (hi : i < 6) : IsSid (sid i) := by
 have : i = 0 ∨ i = 1 ∨ i = 2 ∨ i = 3 ∨ i = 4 ∨ i = 5 := by omega
 rcases this with rfl | rfl | rfl | rfl | rfl | rfl <;> (show So.jt _ = true; decide +kernel)
theorem sid_lt {i j : Nat} (h : i < j) (hj : j < 6) : ef (sid i) (sid j) < 0 := by
 have h1 : i = 0 ∨ i = 1 ∨ i = 2 ∨ i = 3 ∨ i = 4 := by omega
 have h2 : j = 1 ∨ j = 2 ∨ j = 3 ∨ j = 4 ∨ j = 5 := by omega
 rcases h1 with rfl | rfl | rfl | rfl | rfl <;> rcases h2 with rfl | rfl | rfl | rfl | rfl <;> first | omega | decide +kernel
theorem eps1 {e : ai} (h : EpOk e) : tc [e] := ⟨sm, sm, by simpa using h, sm⟩
theorem eps2 {e f : ai} (h : EpOk e) (h' : EpOk f) (ho : e.fTo ≤ f.aJ) : tc [e, f] := ⟨sm, sm, by simp; exact ⟨h, h'⟩, by simpa using ho⟩
def SitesI (s : Int × List Int × Int × List ae) : Prop := ∃ i : Nat, s.1 = i ∧ i ≤ 6 ∧ s.2.2.2.map (·.ak) = (List.range i).map sid ∧ (∀ c ∈ s.2.2.2, tc c.aM) ∧ b7 ⟨s.2.1, s.2.2.1⟩
theorem sitesV (d : Src) (hd : b7 d) : Ok (iH 6 d) (fun r => tC r.1 ∧ b7 r.2) := by
 unfold iH
 refine Ok.bind (P := fun o => b7 ⟨o.1, o.2.1⟩ ∧ tC ⟨o.2.2⟩) (Ok.loop SitesI (fun s => (6 - s.1).toNat) ?_ ⟨0, rfl, om, rfl, sm, hd⟩) (fun o ho => Ok.ret ⟨ho.2, ho.1⟩)
 rintro ⟨s1, s2, s3, s4⟩ ⟨i, i0, i1, i2, i3, i4⟩
 simp only at i0 i1 i2 i3 i4
 subst i0
 have hlen : s4.length = i := by have := congrArg List.length i2; simpa using this
 unfold mC
 have happ : ∀ (x : ae), Ok (dJ s4 [x] 88) (fun r => r = s4 ++ [x]) := fun x => Ok.app (by simp only [List.length_cons, List.length_nil]; omega)
 have hend : tC ⟨s4⟩ := by
  refine ⟨za, fun c hc => ⟨?_, i3 c hc⟩, ?_⟩
  ·have : c.ak ∈ s4.map (·.ak) := List.mem_map.2 ⟨c, hc, rfl⟩
   rw [i2] at this
   obtain ⟨j, hj, e⟩ := List.mem_map.1 this
   rw [← e]
   exact sid_ok (by have := List.mem_range.1 hj; omega)
  ·simp only
   rw [i2, List.pairwise_map]
   exact List.pairwise_lt_range.imp_of_mem fun ha hb hab => sid_lt hab (by have := List.mem_range.1 hb; omega)
 have hnext : ∀ {l : List ai} {t : Src}, i < 6 → tc l → b7 t → Ok (some (.next ((i : Int) + 1, t.fL, t.fAt, s4 ++ [⟨sid i, l⟩]))) (Ok.S SitesI (fun s => (6 - s.1).toNat) (fun o : List Int × Int × List ae => b7 ⟨o.1, o.2.1⟩ ∧ tC ⟨o.2.2⟩) ((i : Int), s2, s3, s4)) := fun {l t} hi hl ht => by
  refine Ok.nx ⟨i + 1, sm, om, ?_, fun c hc => ?_, ht⟩ za
  ·simp [List.range_succ, i2]
  ·simp only [List.mem_append, List.mem_singleton] at hc
   rcases hc with hc | rfl
   ·exact i3 c hc
   ·exact hl
 refine Ok.ea (fun hlt => ?_) (fun _ => Ok.st ⟨i4, hend⟩)
 refine Ok.ea (fun _ => ?_) (fun _ => Ok.st ⟨i4, hend⟩)
 have hi : i < 6 := by omega
 refine Ok.bind (t8 60 om om _ i4) (fun y1 g1 => ?_)
 refine Ok.bind (responseV _ g1.2) (fun y2 g2 => ?_)
 rw [source_at rfl hi, zb]
 refine Ok.bind (eQ _ _ g2.2 om om) (fun y4 g4 => ?_)
 rw [w64 (n := (i : Int) + 1) om om]
 have hr : RateOk ⟨100, 1⟩ := ⟨rfl, .inl rfl⟩
 refine Ok.kY (fun _ => ?_) (fun _ => Ok.kY (fun _ => ?_) (fun _ => ?_))
 ·refine Ok.bind (eQ _ _ g4.2.2 om om) (fun y5 g5 => ?_)
  refine Ok.bind (t8 60 om om _ g5.2.2) (fun y6 g6 => ?_)
  refine Ok.bind (responseV _ g6.2) (fun y7 g7 => ?_)
  refine Ok.bind (Ok.mA om sm) (fun _ _ => ?_)
  refine Ok.bind (Ok.mod om sm) (fun y8 g8 => ?_)
  obtain ⟨x, hx, rfl⟩ := g8
  simp at hx
  subst hx
  refine Ok.bind (Ok.app sm) (fun y9 g9 => ?_)
  subst g9
  refine Ok.bind (happ _) (fun y10 g10 => ?_)
  subst g10
  rw [w64 (n := 1500 + y5.1) om om]
  exact hnext hi (eps2 ⟨sm, za, za, sm, hr, g2.1, g1.1⟩ ⟨za, za, sm, za, hr, g7.1, g6.1⟩ sm) g7.2
 ·refine Ok.bind (eQ _ _ g4.2.2 om om) (fun y5 g5 => ?_)
  refine Ok.bind (Ok.mA om sm) (fun _ _ => ?_)
  refine Ok.bind (Ok.mod om sm) (fun y8 g8 => ?_)
  obtain ⟨x, hx, rfl⟩ := g8
  simp at hx
  subst hx
  refine Ok.bind (happ _) (fun y10 g10 => ?_)
  subst g10
  exact hnext hi (eps1 ⟨g5.1, za, sm, za, hr, g2.1, g1.1⟩) g5.2.2
 ·refine Ok.bind (happ _) (fun y10 g10 => ?_)
  subst g10
  exact hnext hi (eps1 ⟨sm, sm, sm, sm, hr, g2.1, g1.1⟩) g4.2.2

theorem tc.set {l : List ai} (h : tc l) {k : Nat} {x y : ai} (hx : l[k]? = some x) (h1 : y.aJ = x.aJ) (h2 : y.fTo = x.fTo) (hy : EpOk y) : tc (l.set k y) := by
 obtain ⟨hk, hxe⟩ := List.getElem?_eq_some_iff.1 hx
 refine ⟨fun e => h.ne (by simpa using e), by simpa using h.len, fun e he => ?_, ?_⟩
 ·rcases List.mem_or_eq_of_mem_set he with h3 | rfl
  ·exact h.all e h3
  ·exact hy
 ·have : (l.set k y).map (fun e => (e.aJ, e.fTo)) = l.map (fun e => (e.aJ, e.fTo)) := by
   apply List.ext_getElem? 
   intro j
   simp only [List.getElem?_map, List.getElem?_set]
   by_cases e : k = j
   ·subst e
    rw [if_pos rfl, if_pos hk, hx]; simp [h1, h2]
   ·rw [if_neg e]
  rw [this]; exact h.ord
theorem tc.last {l : List ai} (h : tc l) {x y : ai} (hx : l[l.length - 1]? = some x) (h1 : y.aJ = x.aJ) (hy : EpOk y) : tc (l.set (l.length - 1) y) := by
 obtain ⟨a1, a2, a3, a4⟩ := h
 rcases l with _ | ⟨a, _ | ⟨b, _ | ⟨c, l⟩⟩⟩
 ·exact (a1 rfl).elim
 ·exact eps1 hy
 ·simp at hx
  subst hx
  exact eps2 (a3 a sm) hy (by rw [h1]; simpa using a4)
 ·simp at a2
def CorrI (v : ac) (s : Int × List Int × Int × List ae) : Prop := ∃ i : Nat, s.1 = i ∧ i ≤ v.al.length ∧ (s.2.2.2.map (·.ak)).Sublist ((v.al.take i).map (·.ak)) ∧ (∀ c ∈ s.2.2.2, tc c.aM) ∧ b7 ⟨s.2.1, s.2.2.1⟩
theorem xr (v : ac) (hv : tC v) (d : Src) (hd : b7 d) : Ok (gI v d) (fun r => tC r.1 ∧ b7 r.2) := by
 have hvl := hv.len
 unfold gI
 refine Ok.bind (P := fun o => b7 ⟨o.1, o.2.1⟩ ∧ tC ⟨o.2.2⟩) (Ok.loop (CorrI v) (fun s => ((v.al.length : Int) - s.1).toNat) ?_ ⟨0, rfl, om, sm, sm, hd⟩) (fun o ho => Ok.ret ⟨ho.2, ho.1⟩)
 rintro ⟨s1, s2, s3, s4⟩ ⟨i, i0, i1, i2, i3, i4⟩
 simp only at i0 i1 i2 i3 i4
 subst i0
 have hlen : s4.length ≤ i := by have := i2.length_le; simp at this; omega
 unfold kU
 have happ : ∀ (x : ae), Ok (dJ s4 [x] 88) (fun r => r = s4 ++ [x]) := fun x => Ok.app (by simp only [List.length_cons, List.length_nil]; omega)
 have hend : tC ⟨s4⟩ := by
  refine ⟨za, fun c hc => ⟨?_, i3 c hc⟩, ?_⟩
  ·have : c.ak ∈ s4.map (·.ak) := List.mem_map.2 ⟨c, hc, rfl⟩
   obtain ⟨c', hc', e⟩ := List.mem_map.1 (i2.subset this)
   rw [← e]
   exact (hv.all c' (List.mem_of_mem_take hc')).1
  ·exact ((hv.ord.sublist (List.Sublist.map _ (List.take_sublist i _)))).sublist i2
 refine Ok.ea (fun hlt => ?_) (fun _ => Ok.st ⟨i4, hend⟩)
 have hi : i < v.al.length := by omega
 have htk : (v.al.take (i + 1)).map (·.ak) = (v.al.take i).map (·.ak) ++ [v.al[i].ak] := by
  rw [cn hi, List.map_append]; rfl
 have hnext : ∀ {l : List ai} {t : Src}, tc l → b7 t → Ok (some (.next ((i : Int) + 1, t.fL, t.fAt, s4 ++ [⟨v.al[i].ak, l⟩]))) (Ok.S (CorrI v) (fun s => ((v.al.length : Int) - s.1).toNat) (fun o : List Int × Int × List ae => b7 ⟨o.1, o.2.1⟩ ∧ tC ⟨o.2.2⟩) ((i : Int), s2, s3, s4)) := fun {l t} hl ht => by
  refine Ok.nx ⟨i + 1, sm, om, ?_, fun c hc => ?_, ht⟩ za
  ·rw [htk, List.map_append]
   exact List.Sublist.append i2 (List.Sublist.refl _)
  ·simp only [List.mem_append, List.mem_singleton] at hc
   rcases hc with hc | rfl
   ·exact i3 c hc
   ·exact hl
 rw [bW rfl hi, zb]
 have hE := (hv.all _ (List.getElem_mem hi)).2
 generalize v.al[i] = c at *
 have hEl := hE.len
 have hEn := List.length_pos_iff.2 hE.ne
 refine Ok.bind (Ok.app (by simp only [List.length_nil]; omega)) (fun y1 g1 => ?_)
 rw [List.nil_append] at g1
 subst g1
 refine Ok.bind (eQ _ _ i4 om om) (fun y2 g2 => ?_)
 refine Ok.bind (eQ _ _ g2.2.2 om om) (fun y3 g3 => ?_)
 rw [w64 (n := (i : Int) + 1) om om]
 have hget : ∀ {k : Int} {x : ai}, c.aM[k.toNat]? = some x → EpOk x := fun h => hE.all _ (List.mem_of_getElem? h)
 refine Ok.kY (fun _ => ?_) (fun _ => Ok.kY (fun _ => ?_) (fun _ => Ok.kY (fun _ => ?_) (fun _ => Ok.kY (fun _ => ?_) (fun _ => Ok.kY (fun _ => ?_) (fun _ => ?_)))))
 ·refine Ok.bind (t8 60 om om _ g3.2.2) (fun y4 g4 => ?_)
  refine Ok.bind (Ok.mA om om) (fun _ _ => ?_)
  refine Ok.bind (Ok.mod om om) (fun y5 g5 => ?_)
  obtain ⟨x, hx, rfl⟩ := g5
  have hx' := hget hx
  refine Ok.bind (happ _) (fun y6 g6 => ?_)
  subst g6
  exact hnext (hE.set hx rfl rfl ⟨hx'.lo, hx'.lt, hx'.hi, hx'.from_, hx'.rate, hx'.resp, g4.1⟩) g4.2
 ·refine Ok.bind (responseV _ g3.2.2) (fun y4 g4 => ?_)
  refine Ok.bind (Ok.mA om om) (fun _ _ => ?_)
  refine Ok.bind (Ok.mod om om) (fun y5 g5 => ?_)
  obtain ⟨x, hx, rfl⟩ := g5
  have hx' := hget hx
  refine Ok.bind (happ _) (fun y6 g6 => ?_)
  subst g6
  exact hnext (hE.set hx rfl rfl ⟨hx'.lo, hx'.lt, hx'.hi, hx'.from_, hx'.rate, g4.1, hx'.pos⟩) g4.2
 ·rw [w64 (n := (c.aM.length : Int) - 1) om om]
  refine Ok.bind (Ok.mA om om) (fun _ _ => ?_)
  refine Ok.bind (Ok.get om om) (fun x hx => ?_)
  refine Ok.bind (eQ _ _ g3.2.2 om om) (fun y4 g4 => ?_)
  refine Ok.bind (gE _ _ g4.2.2 sm sm) (fun y5 g5 => ?_)
  refine Ok.bind (Ok.mA om om) (fun _ _ => ?_)
  refine Ok.bind (Ok.mod om om) (fun y6 g6 => ?_)
  obtain ⟨x', hx', rfl⟩ := g6
  obtain rfl : x' = x := by rw [hx.2] at hx'; exact (Option.some.inj hx').symm
  have hb : ∃ q, y4.1 * y5.1 = q ∧ 0 ≤ q ∧ q ≤ 3999000 := by
   have := g5.1
   simp at this
   rcases this with e | e <;> rw [e] <;> exact ⟨_, rfl, om, om⟩
  obtain ⟨q, hq, q0, q1⟩ := hb
  have hxo := hget hx.2
  have hxlt := hxo.lt
  have hxlo := hxo.lo
  have hxhi := hxo.hi
  rw [hq, w64 (n := q) om om, w64 (n := x'.aJ + 1) om om, w64 (n := x'.aJ + 1 + q) om om]
  refine Ok.bind (happ _) (fun y7 g7 => ?_)
  subst g7
  have hxf := hxo.from_
  have hk : ((c.aM.length : Int) - 1).toNat = c.aM.length - 1 := by omega
  rw [hk] at hx' ⊢
  exact hnext (hE.last hx' rfl ⟨hxlo, za, za, hxf, hxo.rate, hxo.resp, hxo.pos⟩) g5.2
 ·exact Ok.nx ⟨i + 1, sm, om, i2.trans (by rw [htk]; exact List.sublist_append_left _ _), i3, g3.2.2⟩ za
 ·refine Ok.bind (eQ _ _ g3.2.2 om om) (fun y4 g4 => ?_)
  refine Ok.bind (Ok.mA om om) (fun _ _ => ?_)
  refine Ok.bind (Ok.mod om om) (fun y5 g5 => ?_)
  obtain ⟨x, hx, rfl⟩ := g5
  have hx' := hget hx
  refine Ok.bind (Ok.mA om so) (fun _ _ => ?_)
  refine Ok.bind (Ok.mod om so) (fun y6 g6 => ?_)
  obtain ⟨z, hz, rfl⟩ := g6
  have hk : y2.1.toNat < c.aM.length := by omega
  rw [List.getElem?_set_self hk] at hz
  cases hz
  rw [List.set_set]
  refine Ok.bind (happ _) (fun y7 g7 => ?_)
  subst g7
  rw [w64 (n := 50 + y4.1) om om]
  exact hnext (hE.set hx rfl rfl ⟨hx'.lo, hx'.lt, hx'.hi, hx'.from_, ⟨rfl, za⟩, hx'.resp, hx'.pos⟩) g4.2.2
 ·refine Ok.bind (happ _) (fun y6 g6 => ?_)
  subst g6
  exact hnext hE g3.2.2
end Go.Dw.De


set_option maxRecDepth 100000
set_option maxHeartbeats 4000000
namespace Go.Dw.De
open Go.Dw Go.Proofs
open Sd (ef dj eI)

theorem v6 {α : Type} {n : Nat} {l : List α} (h : l.length * n ≤ 140737488355328) : gh n l = some l := by
 unfold gh; rw [if_pos h]
def kT (r : aB) : Prop := r.aL.length ≤ 1000 ∧ ∀ x ∈ r.aL, x.bc.length ≤ 1000
theorem copyEpoch_at {e : ai} (h : kT e.aQ) : eK e = some e := by
 obtain ⟨h1, h2⟩ := h
 unfold eK
 rw [v6 om, zb]
 have : Ok (bF (dX e.aQ.aL) ((0 : Int), e.aQ.aL)) (fun o => o = e.aQ.aL) := by
  refine Ok.loop (fun s => 0 ≤ s.1 ∧ s.1 ≤ e.aQ.aL.length ∧ s.2 = e.aQ.aL) (fun s => ((e.aQ.aL.length : Int) - s.1).toNat) ?_ ⟨Int.le_refl _, sm, rfl⟩
  rintro ⟨s2, s3⟩ ⟨i0, i1, i2⟩
  simp only at i0 i1 i2
  subst i2
  unfold dX
  dsimp only
  refine Ok.ea (fun hlt => ?_) (fun _ => Ok.st rfl)
  refine Ok.bind (Ok.mA om om) (fun _ _ => ?_)
  refine Ok.bind (Ok.get om om) (fun x hx => ?_)
  have := h2 x hx.1
  rw [v6 om, zb]
  refine Ok.bind (Ok.mA om om) (fun _ _ => ?_)
  refine Ok.bind (Ok.mod om om) (fun y hy => ?_)
  obtain ⟨z, hz, rfl⟩ := hy
  obtain rfl : x = z := by rw [hx.2] at hz; exact Option.some.inj hz
  rw [w64 om om]
  refine Ok.nx ⟨za, za, ?_⟩ za
  obtain ⟨hk, e⟩ := List.getElem?_eq_some_iff.1 hx.2
  simp only
  conv => lhs; rw [← e]
  exact List.set_getElem_self hk
 rw [this.eq]; rfl
def ChLen (c : ae) : Prop := c.aM.length ≤ 1000 ∧ ∀ e ∈ c.aM, kT e.aQ
theorem copied_at {c : ae} (h : ChLen c) : gO c = some c := by
 obtain ⟨h1, h2⟩ := h
 unfold gO
 rw [v6 om, zb]
 have : Ok (bF (fJ c.aM) ((0 : Int), c.aM)) (fun o => o = c.aM) := by
  refine Ok.loop (fun s => 0 ≤ s.1 ∧ s.1 ≤ c.aM.length ∧ s.2 = c.aM) (fun s => ((c.aM.length : Int) - s.1).toNat) ?_ ⟨Int.le_refl _, sm, rfl⟩
  rintro ⟨s2, s3⟩ ⟨i0, i1, i2⟩
  simp only at i0 i1 i2
  subst i2
  unfold fJ
  dsimp only
  refine Ok.ea (fun hlt => ?_) (fun _ => Ok.st rfl)
  refine Ok.bind (Ok.mA om om) (fun _ _ => ?_)
  refine Ok.bind (Ok.get om om) (fun x hx => ?_)
  rw [copyEpoch_at (h2 x hx.1), zb]
  refine Ok.bind (Ok.mA om om) (fun _ _ => ?_)
  refine Ok.bind (Ok.set om om) (fun y hy => ?_)
  subst hy
  rw [w64 om om]
  refine Ok.nx ⟨za, za, ?_⟩ za
  obtain ⟨hk, e⟩ := List.getElem?_eq_some_iff.1 hx.2
  simp only
  conv => lhs; rw [← e]
  exact List.set_getElem_self hk
 rw [this.eq]; rfl
structure ui (v : ac) : Prop where
 len : v.al.length ≤ 1000
 all : ∀ c ∈ v.al, ChLen c
theorem tC.lens {v : ac} (h : tC v) : ui v := by
 refine ⟨by have := h.len; omega, fun c hc => ?_⟩
 have hE := (h.all c hc).2
 refine ⟨by have := hE.len; omega, fun e he => ?_⟩
 have hR := (hE.all e he).resp
 exact ⟨by have := hR.1; omega, fun x hx => by have := (hR.2 x hx).2.2; omega⟩

def zCh : ae := ⟨⟨[], [], [], []⟩, []⟩
def zEp : ai := ⟨0, 0, ⟨0, 0⟩, ⟨0, 0, 0⟩, ⟨[]⟩⟩
def xq (v : ac) (s : Sid) : Option ae := v.al.find? fun c => decide (c.ak = s)
def v8 (l : List ai) (t : Int) : Option ai := l.find? fun e => decide (e.aJ ≤ t ∧ t < e.fTo)
def qc (v : ac) (s : Sid) (t : Int) : Option ai := (xq v s).bind fun c => v8 c.aM t
theorem Find_eq {v : ac} (hv : ui v) (s : Sid) : ep v s = some (match xq v s with | none => (zCh, false) | some c => (c, true)) := by
 have hl := hv.len
 unfold ep
 rw [tY v.al (p := fun c => decide (c.ak = s)) (f := fun c => (c, true)) (fun i hi => ?_) ?_, zb]
 ·unfold xq
  cases v.al.find? fun c => decide (c.ak = s) <;> rfl
 ·unfold iT
  rw [if_neg sm]
 ·unfold iT
  rw [if_pos so, bW rfl hi, zb, Sd.eqs, copied_at (hv.all _ (List.getElem_mem hi)), zb, w64 om om]
  simp
theorem at_eq {c : ae} (hc : c.aM.length ≤ 1000) (t : Int) : lO c t = some (match v8 c.aM t with | none => (zEp, false) | some e => (e, true)) := by
 unfold lO
 rw [tY c.aM (p := fun e => decide (e.aJ ≤ t ∧ t < e.fTo)) (f := fun e => (e, true)) (fun i hi => ?_) ?_, zb]
 ·unfold v8
  cases c.aM.find? fun e => decide (e.aJ ≤ t ∧ t < e.fTo) <;> rfl
 ·unfold kk
  rw [if_neg sm]
 ·unfold kk
  rw [if_pos so, bW rfl hi, zb, w64 om om]
  by_cases h1 : c.aM[i].aJ ≤ t <;> by_cases h2 : t < c.aM[i].fTo <;> simp [h1, h2]
theorem vZ {v : ac} {s : Sid} {c : ae} (h : xq v s = some c) : c ∈ v.al ∧ c.ak = s := by
 unfold xq at h
 exact ⟨List.mem_of_find?_eq_some h, by simpa using List.find?_some h⟩
theorem yi {l : List ai} {t : Int} {e : ai} (h : v8 l t = some e) : e ∈ l ∧ e.aJ ≤ t ∧ t < e.fTo := by
 unfold v8 at h
 have := List.find?_some h
 simp only [decide_eq_true_eq] at this
 exact ⟨List.mem_of_find?_eq_some h, this⟩
theorem At_eq {v : ac} (hv : ui v) (hV : bv v = some true) (s : Sid) (t : Int) : fu v s t = some (match qc v s t with | none => (zEp, 6) | some e => (e, 0)) := by
 unfold fu
 rw [hV, zb, if_neg sm, Find_eq hv, zb]
 unfold qc
 cases hc : xq v s with
 | none =>
  dsimp only
  rw [at_eq (by simp [zCh])]
  rfl
 | some c =>
  dsimp only
  rw [at_eq (hv.all c (vZ hc).1).1, zb, zb]
  cases v8 c.aM t <;> rfl

theorem yr {α : Type} {body : Int → Option (cb Int (Unit ⊕ Bool))} (a b : List α) (hl : a.length = b.length)
  (h1 : ∀ (i : Nat) (hi : i < a.length) (hi' : i < b.length), (a[i] = b[i] ∧ body i = some (.next ((i + 1 : Nat) : Int))) ∨ (a[i] ≠ b[i] ∧ body i = some (.stop (.inr false))))
  (h2 : body (a.length : Nat) = some (.stop (.inl ()))) : (bF body (0 : Int) = some (.inl ()) ∧ a = b) ∨ (bF body (0 : Int) = some (.inr false) ∧ a ≠ b) := by
 have : ∀ k i, i + k = a.length → a.take i = b.take i → (bF body (i : Int) = some (.inl ()) ∧ a = b) ∨ (bF body (i : Int) = some (.inr false) ∧ a ≠ b) := by
  intro k
  induction k with
  | zero =>
   intro i hi ht
   obtain rfl : i = a.length := by omega
   refine .inl ⟨cZ h2, ?_⟩
   rw [List.take_length, hl, List.take_length] at ht
   exact ht
  | succ k ih =>
   intro i hi ht
   have hlt : i < a.length := by omega
   rcases h1 i hlt om with ⟨e, hn⟩ | ⟨e, hn⟩
   ·rw [eb hn]
    exact ih (i + 1) om (by rw [cn hlt, cn om, ht, e])
   ·exact .inr ⟨cZ hn, fun hab => e (by subst hab; rfl)⟩
 have := this a.length 0 om sm
 simpa using this
theorem Equal_eq {a b : List Int} (h : a.length ≤ 1000) : gR a b = some (decide (a = b)) := by
 unfold gR
 by_cases hl : a.length = b.length
 ·rw [if_neg (by simp [hl])]
  have key : (bF (dB a b) (0 : Int) = some (.inl ()) ∧ a = b) ∨ (bF (dB a b) (0 : Int) = some (.inr false) ∧ a ≠ b) := by
   refine yr a b hl (fun i hi hi' => ?_) ?_
   ·unfold dB
    rw [if_pos so, bW rfl hi, bW rfl hi', zb, zb, w64 om om]
    by_cases e : a[i] = b[i] <;> simp [e]
   ·unfold dB
    rw [if_neg sm]
  rcases key with ⟨e, hab⟩ | ⟨e, hab⟩
  ·rw [e]; simp [hab]
  ·rw [e]; simp [hab]
 ·rw [if_pos (by simpa using fun e : (a.length : Int) = b.length => hl om)]
  simp [show a ≠ b from fun e => hl (by rw [e])]
theorem arr_eq (a b : aV) : ((a.a0 == b.a0) && ((a.a1 == b.a1) && ((a.a2 == b.a2) && true))) = decide (a = b) := by
 obtain ⟨x, y, z⟩ := a
 obtain ⟨x', y', z'⟩ := b
 simp only [aV.mk.injEq]
 by_cases e1 : x = x' <;> by_cases e2 : y = y' <;> by_cases e3 : z = z' <;> simp [e1, e2, e3]
theorem pos_eq (a b : ap) : ((a.fX == b.fX) && ((a.fY == b.fY) && ((a.fZ == b.fZ) && true))) = decide (a = b) := by
 obtain ⟨x, y, z⟩ := a
 obtain ⟨x', y', z'⟩ := b
 simp only [ap.mk.injEq]
 by_cases e1 : x = x' <;> by_cases e2 : y = y' <;> by_cases e3 : z = z' <;> simp [e1, e2, e3]
theorem Stage_eq {a b : aq} (h : a.bc.length ≤ 1000) : fg a b = some (decide (a = b)) := by
 unfold fg
 rw [arr_eq, arr_eq, Equal_eq h]
 obtain ⟨k, n, d, t, f, s⟩ := a
 obtain ⟨k', n', d', t', f', s'⟩ := b
 simp only [aq.mk.injEq]
 by_cases e1 : k = k'
 rotate_left
 ·simp [e1]
 by_cases e2 : n = n'
 rotate_left
 ·simp [e1, e2]
 by_cases e3 : d = d'
 rotate_left
 ·simp [e1, e2, e3]
 by_cases e4 : t = t'
 rotate_left
 ·simp [e1, e2, e3, e4]
 by_cases e5 : f = f' <;> by_cases e6 : s = s' <;> simp [e1, e2, e3, e4, e5, e6]
theorem Same_eq {a b : aB} (h : kT a) : jq a b = some (decide (a = b)) := by
 obtain ⟨h1, h2⟩ := h
 obtain ⟨a⟩ := a
 obtain ⟨b⟩ := b
 simp only at h1 h2
 unfold jq df
 simp only [aB.mk.injEq]
 by_cases hl : a.length = b.length
 ·rw [if_neg (by simp [hl])]
  have key : (bF (bP a b) (0 : Int) = some (.inl ()) ∧ a = b) ∨ (bF (bP a b) (0 : Int) = some (.inr false) ∧ a ≠ b) := by
   refine yr a b hl (fun i hi hi' => ?_) ?_
   ·unfold bP
    rw [if_pos so, bW rfl hi, bW rfl hi', zb, zb, Stage_eq (h2 _ (List.getElem_mem hi)), zb, w64 om om]
    by_cases e : a[i] = b[i] <;> simp [e]
   ·unfold bP
    rw [if_neg sm]
  rcases key with ⟨e, hab⟩ | ⟨e, hab⟩
  ·rw [e]; simp [hab]
  ·rw [e]; simp [hab]
 ·rw [if_pos (by simpa using fun e : (a.length : Int) = b.length => hl om)]
  simp [show a ≠ b from fun e => hl (by rw [e])]

def ry (e : ai) : ap × aB := (e.aF, e.aQ)
def Chg (a b : ac) (p : Pick) : Prop := (qc a p.ak p.aN).map ry ≠ (qc b p.ak p.aN).map ry
instance (a b : ac) (p : Pick) : Decidable (Chg a b p) := inferInstanceAs (Decidable (_ ≠ _))
theorem epAt_len {v : ac} (hv : ui v) {s : Sid} {t : Int} {e : ai} (h : qc v s t = some e) : kT e.aQ := by
 unfold qc at h
 cases hc : xq v s with
 | none => rw [hc] at h; cases h
 | some c =>
  rw [hc] at h
  exact (hv.all c (vZ hc).1).2 e (yi h).1
theorem uh {a b : ac} (ha : ui a) (hb : ui b) (hA : bv a = some true) (hB : bv b = some true) (p : Pick) : bT a b p = some (decide (Chg a b p)) := by
 unfold bT
 rw [At_eq ha hA, At_eq hb hB, zb, zb]
 show _ = some (decide ((qc a p.ak p.aN).map ry ≠ (qc b p.ak p.aN).map ry))
 generalize hx : qc a p.ak p.aN = ox
 generalize qc b p.ak p.aN = oy
 cases ox with
 | none => cases oy <;> simp
 | some x =>
  cases oy with
  | none => simp
  | some y =>
   dsimp only
   rw [if_neg sm, if_neg sm, pos_eq, Same_eq (epAt_len ha hx), zb]
   simp only [Option.map_some, ne_eq, Option.some.injEq, ry, Prod.mk.injEq]
   by_cases e1 : x.aF = y.aF <;> by_cases e2 : x.aQ = y.aQ <;> simp [e1, e2]
end Go.Dw.De


set_option maxRecDepth 100000
set_option maxHeartbeats 4000000
namespace Go.Dw.De
namespace Iv
open Go.Dw
abbrev Src := ag
open So
open Sd (ef dj eI cmpS_range)
theorem loop_upto {ω : Type} {body : Int → Option (cb Int ω)} (n : Nat) {q : Nat → Bool} {u : ω} {r : Nat → ω} (h1 : ∀ i, i < n → body i = if q i = true then some (.next ((i + 1 : Nat) : Int)) else some (.stop (r i)))
  (h2 : body (n : Nat) = some (.stop u)) : (bF body (0 : Int) = some u ∧ ∀ i, i < n → q i = true) ∨ ∃ i, i < n ∧ bF body (0 : Int) = some (r i) ∧ q i = false ∧ ∀ j, j < i → q j = true := by
 have : ∀ k i, i + k = n → (∀ j, j < i → q j = true) → (bF body (i : Int) = some u ∧ ∀ i, i < n → q i = true) ∨ ∃ m, m < n ∧ bF body (i : Int) = some (r m) ∧ q m = false ∧ ∀ j, j < m → q j = true := by
  intro k
  induction k with
  | zero =>
   intro i hi hj
   obtain rfl : i = n := by omega
   exact .inl ⟨cZ h2, hj⟩
  | succ k ih =>
   intro i hi hj
   by_cases hp : q i = true
   ·rw [eb (by rw [h1 i om, if_pos hp])]
    exact ih (i + 1) om fun j hj' => by
     by_cases e : j = i
     ·subst e; exact hp
     ·exact hj j om
   ·exact .inr ⟨i, om, cZ (by rw [h1 i om, if_neg hp]), by simpa using hp, hj⟩
 exact this n 0 om fun j hj => by omega
theorem yq {ω : Type} {body : Int → Option (cb Int ω)} (n : Nat) {q : Nat → Bool} {u r : ω} (h1 : ∀ i, i < n → body i = if q i = true then some (.next ((i + 1 : Nat) : Int)) else some (.stop r))
  (h2 : body (n : Nat) = some (.stop u)) : bF body (0 : Int) = some (if (List.range n).all q = true then u else r) := by
 rcases loop_upto n h1 h2 with ⟨h, h'⟩ | ⟨i, hi, h, h', -⟩
 ·rw [h, if_pos (List.all_eq_true.2 fun i hi => h' i (List.mem_range.1 hi))]
 ·rw [h, if_neg (fun ha => by have := List.all_eq_true.1 ha i (List.mem_range.2 hi); rw [h'] at this; cases this)]
theorem mT (b c : Bool) : (if b = true then some c else some false) = some (b && c) := by cases b <;> rfl
theorem qe (b : Bool) {α : Type} (x y : α) : (if (!b) = true then x else y) = if b = true then y else x := by cases b <;> rfl

theorem ref_code_l16 {s : List UInt8} (hs : s.length ≤ 9223372036854775807) : bF (jE s) (0 : Int) = some (if s.all uC = true then .inl () else .inr false) := by
 refine loop_list s (fun i hi => ?_) ?_
 ·unfold jE
  rw [if_pos so, byteO_at rfl hi, w64 om om]
  simp only [zb, dec1, dec2, dec3, dec4]
  unfold uC
  cases decide (65 ≤ s[i].toNat) <;> cases decide (s[i].toNat ≤ 90) <;> cases decide (48 ≤ s[i].toNat) <;> cases decide (s[i].toNat ≤ 57) <;> simp
 ·unfold jE
  rw [if_neg sm]
theorem tt {s : List UInt8} (hs : s.length ≤ 9223372036854775807) (lo hi : Int) : jj s lo hi = some (lZ s lo hi) := by
 unfold jj lZ
 rw [ref_code_l16 hs]
 cases s.all uC with
 | true => cases decide ((s.length : Int) ≥ lo) <;> simp
 | false => rfl

abbrev b7 := So.SidLen
theorem loc_eq (s : List UInt8) : (lZ s 0 2 && decide (s.length ≠ 1)) = (decide (s = []) || lZ s 2 2) := by
 unfold lZ
 match s with
 | [] => simp
 | [a] => simp
 | [a, b] => simp
 | a :: b :: c :: r =>
  have h1 : decide (((a :: b :: c :: r).length : Int) ≤ 2) = false := by simp; omega
  rw [h1]; simp
theorem yJ {x : Src} (hx : b7 x) : jR x = some (jt x) := by
 obtain ⟨h1, h2, h3, h4⟩ := hx
 unfold jR jt
 simp only [tt h1, tt h2, tt h3, tt h4, zb]
 rw [← Bool.and_assoc (lZ x.av 0 2), loc_eq]
 by_cases e : x.av = []
 ·cases lZ x.aC 1 2 <;> cases lZ x.aA 1 5 <;> simp [e]
 ·cases lZ x.aC 1 2 <;> cases lZ x.aA 1 5 <;> cases lZ x.av 2 2 <;> simp [e]
abbrev Stage := aq
abbrev Resp := aB
abbrev Epoch := ai
abbrev Chan := ae
def inB (a lo hi : Int) : Bool := decide (a ≥ lo) && decide (a ≤ hi)
theorem rin_eq (a b c : Int) : tp a b c = some (inB a b c) := by unfold tp inB; rw [mT]
theorem pin_eq (a b c : Int) : ct a b c = some (inB a b c) := rin_eq a b c
theorem iin_eq (a b c : Int) : et a b c = some (inB a b c) := rin_eq a b c
theorem In_eq (a b c : Int) : cN a b c = some (inB a b c) := rin_eq a b c

theorem gcd_ok (a b : Int) : ∃ g, qj a b = some g := by
 obtain ⟨o, h, -⟩ := gb (body := qk) (fun _ => True) (fun s => s.2.natAbs) (fun _ => True) (by
  rintro ⟨x, y⟩ -
  unfold qk
  by_cases hy : y = 0
  ·exact .inr ⟨x, by simp [hy], trivial⟩
  ·refine .inl ⟨(y, x.tmod y), ?_, trivial, ?_⟩
   ·have : (y != 0) = true := by simpa using hy
    simp only [this, if_true]
    unfold remO
    rw [if_neg hy]; rfl
   ·simp only [Int.natAbs_tmod]
    exact Nat.mod_lt _ om) (a, b) trivial
 exact ⟨o, by unfold qj; rw [h]; rfl⟩
noncomputable def vR (r : aT) : Bool := inB r.aU 1 4096 && (inB r.aS 1 4096 && ((qj r.aU r.aS).getD 0 == 1))
theorem vR_eq (r : aT) : lp r = some (vR r) := by
 obtain ⟨g, hg⟩ := gcd_ok r.aU r.aS
 unfold lp vR
 simp only [rin_eq, zb, hg, mT, Option.getD_some]
theorem ref_vR_eq (r : aT) : ql r = some (vR r) := vR_eq r

def wE (l : List Int) : Bool := l.all fun x => inB x (-1048576) 1048576
theorem terms_eq {l : List Int} (hl : l.length ≤ 4000000000) : ce l = some (wE l) := by
 unfold ce cq cO
 have := loop_upto (body := bK l) l.length (q := fun i => inB (l.getD i 0) (-1048576) 1048576) (u := .inl ()) (r := fun i => .inr (i : Int)) (fun i hi => by
  unfold bK eN
  rw [if_pos so, bW rfl hi, w64 om om]
  simp only [zb, pin_eq, List.getD_eq_getElem?_getD, ge hi, Option.getD_some, qe]
  rfl) (by
  unfold bK
  rw [if_neg sm])
 rcases this with ⟨h, h'⟩ | ⟨i, hi, h, h', -⟩
 ·rw [h]
  have : wE l = true := List.all_eq_true.2 fun x hx => by
   obtain ⟨i, hi, rfl⟩ := List.getElem_of_mem hx
   have := h' i hi
   simpa [List.getD_eq_getElem?_getD, ge hi] using this
  rw [this]; rfl
 ·rw [h]
  have : wE l = false := List.all_eq_false.2 ⟨l[i], List.getElem_mem hi, by
   simpa [List.getD_eq_getElem?_getD, ge hi] using h'⟩
  rw [this]
  simp only [zb]
  rw [show decide ((i : Int) ≥ 0) = true by simp]; rfl
theorem uM {l : List Int} (hl : l.length ≤ 4000000000) : gM l = some (wE l) := by
 unfold gM
 rw [loop_list (body := jF l) l (p := fun x => inB x (-1048576) 1048576) (u := .inl ()) (r := .inr false) (fun i hi => by
  unfold jF
  rw [if_pos so, bW rfl hi, w64 om om]
  simp only [zb, In_eq, qe]
  rfl) (by
  unfold jF
  rw [if_neg sm])]
 unfold wE
 cases l.all fun x => inB x (-1048576) 1048576 <;> rfl
theorem sum_ok {l : List Int} (hl : l.length ≤ 4000000000) : ∃ g, dP l = some g := by
 obtain ⟨o, h, -⟩ := gb (body := ku l) (fun s => ∃ i : Nat, s.2 = (i : Int) ∧ i ≤ l.length) (fun s => ((l.length : Int) - s.2).toNat) (fun _ => True) (by
  rintro ⟨x, y⟩ ⟨i, hy, hi⟩
  simp only at hy
  subst hy
  unfold ku
  by_cases hlt : i < l.length
  ·refine .inl ⟨(IntKind.wrap .i64 (x + l[i]), ((i + 1 : Nat) : Int)), ?_, ⟨i + 1, rfl, om⟩, za⟩
   simp only
   rw [if_pos so, bW rfl hlt, w64 (n := (i : Int) + 1) om om]; rfl
  ·exact .inr ⟨x, by simp only; rw [if_neg so], trivial⟩) (0, 0) ⟨0, rfl, Nat.zero_le _⟩
 exact ⟨o, by unfold dP; rw [h]; rfl⟩
noncomputable def sumB (l : List Int) : Int := (dP l).getD 0
theorem sum_eq {l : List Int} (hl : l.length ≤ 4000000000) : dP l = some (sumB l) := by
 obtain ⟨g, hg⟩ := sum_ok hl
 unfold sumB; rw [hg]; rfl
theorem ref_sum_eq {l : List Int} (hl : l.length ≤ 4000000000) : lv l = some (sumB l) := sum_eq hl
noncomputable def vS (s : Stage) : Bool :=
 if s.br = 0 then decide (s.bc = []) && (s.aX == 0) && (s.bi == 0) && inB s.aU.a0 1 1048576 && inB s.aS.a0 1 1048576 && (s.aU.a1 == 0) && (s.aU.a2 == 0) && (s.aS.a1 == 0) && (s.aS.a2 == 0)
 else if s.br = 1 then decide (s.bc = []) && (s.aX == 0) && (s.bi == 0) && wE [s.aU.a0, s.aU.a1, s.aU.a2] && wE [s.aS.a0, s.aS.a1, s.aS.a2] && (s.aS.a0 != 0)
 else if s.br = 2 then (s.aU.a0 == 0) && (s.aU.a1 == 0) && (s.aU.a2 == 0) && (s.aS.a0 == 0) && (s.aS.a1 == 0) && (s.aS.a2 == 0) && inB s.bc.length 1 128 && wE s.bc && (sumB s.bc != 0) && inB s.aX 1 64 && inB s.bi 0 40
 else false
theorem len0 {α : Type} [DecidableEq α] (l : List α) : ((l.length : Int) == 0) = decide (l = []) := by
 cases l with
 | nil => rfl
 | cons a l => simp; omega
theorem vS_eq {s : Stage} (hl : s.bc.length ≤ 4000000000) : cm s = some (vS s) := by
 unfold cm vS
 simp only [pin_eq, terms_eq hl, terms_eq (l := [s.aU.a0, s.aU.a1, s.aU.a2]) sm, terms_eq (l := [s.aS.a0, s.aS.a1, s.aS.a2]) sm, sum_eq hl, zb, mT, len0]
 by_cases h0 : s.br = 0
 ·rw [if_pos h0]
  simp only [h0, beq_self_eq_true, if_true, mT]
  cases decide (s.bc = []) <;> cases s.aX == 0 <;> simp <;> cases s.bi == 0 <;> simp [Bool.and_assoc, Bool.and_comm, Bool.and_left_comm]
 rw [if_neg h0]
 have e0 : (s.br == 0) = false := by simpa using h0
 by_cases h1 : s.br = 1
 ·rw [if_pos h1]
  simp only [h1, beq_self_eq_true, if_true, mT]
  cases decide (s.bc = []) <;> cases s.aX == 0 <;> simp [Bool.and_assoc]
 rw [if_neg h1]
 have e1 : (s.br == 1) = false := by simpa using h1
 by_cases h2 : s.br = 2
 ·rw [if_pos h2]
  simp only [h2, beq_self_eq_true, if_true, mT]
  cases decide (s.bc = []) <;> cases s.aX == 0 <;> simp [Bool.and_assoc]
 rw [if_neg h2]
 have e2 : (s.br == 2) = false := by simpa using h2
 simp only [e0, e1, e2]
 cases decide (s.bc = []) <;> cases s.aX == 0 <;> simp
theorem ref_vS_eq {s : Stage} (hl : s.bc.length ≤ 4000000000) : gP s = some (vS s) := by
 unfold gP vS
 simp only [In_eq, uM hl, uM (l := [s.aU.a0, s.aU.a1, s.aU.a2]) sm, uM (l := [s.aS.a0, s.aS.a1, s.aS.a2]) sm, ref_sum_eq hl, zb, mT, len0]
 by_cases h0 : s.br = 0
 ·rw [if_pos h0]
  simp only [h0, beq_self_eq_true, if_true, mT]
  cases decide (s.bc = []) <;> cases s.aX == 0 <;> simp [Bool.and_assoc]
 rw [if_neg h0]
 have e0 : (s.br == 0) = false := by simpa using h0
 by_cases h1 : s.br = 1
 ·rw [if_pos h1]
  simp only [h1, beq_self_eq_true, if_true, mT]
  cases decide (s.bc = []) <;> cases s.aX == 0 <;> simp [Bool.and_assoc]
 rw [if_neg h1]
 have e1 : (s.br == 1) = false := by simpa using h1
 by_cases h2 : s.br = 2
 ·rw [if_pos h2]
  simp only [h2, beq_self_eq_true, if_true, mT]
  cases decide (s.bc = []) <;> cases s.aX == 0 <;> simp [Bool.and_assoc]
 rw [if_neg h2]
 have e2 : (s.br == 2) = false := by simpa using h2
 simp only [e0, e1, e2]
 cases decide (s.bc = []) <;> cases s.aX == 0 <;> simp

def nj : Int → List Stage → Bool
 | _, [] => true
 | p, s :: r => if s.br = 2 then decide (p * s.aX ≤ 64) && nj (p * s.aX) r else nj p r
theorem prodOk_cons (p : Int) (s : Stage) (r : List Stage) : nj p (s :: r) = if s.br = 2 then decide (p * s.aX ≤ 64) && nj (p * s.aX) r else nj p r := rfl
noncomputable def vP (r : Resp) : Bool := decide (r.aL.length ≤ 8) && (r.aL.all vS && nj 1 r.aL)
def ROk (r : Resp) : Prop := r.aL.length ≤ 4000000000 ∧ ∀ s ∈ r.aL, s.bc.length ≤ 4000000000
theorem vS_factor {s : Stage} (h : vS s = true) (hk : s.br = 2) : 1 ≤ s.aX ∧ s.aX ≤ 64 := by
 unfold vS at h
 rw [if_neg om, if_neg om, if_pos hk] at h
 simp only [Bool.and_eq_true, inB, decide_eq_true_eq] at h
 omega
theorem allv_eq {r : Resp} (hr : ROk r) : bA r.aL = some (!(r.aL.all vS)) := by
 obtain ⟨hl, ht⟩ := hr
 generalize r.aL = l at *
 unfold bA cx
 have := loop_upto (body := bB l) l.length (q := fun i => match l[i]? with | some s => vS s | none => true) (u := .inl ()) (r := fun i => .inr (i : Int)) (fun i hi => by
  unfold bB eM
  rw [if_pos so, bW rfl hi, w64 om om]
  simp only [zb, vS_eq (ht _ (List.getElem_mem hi)), ge hi, qe]
  rfl) (by
  unfold bB
  rw [if_neg sm])
 rcases this with ⟨h, h'⟩ | ⟨i, hi, h, h', -⟩
 ·rw [h]
  have : l.all vS = true := List.all_eq_true.2 fun x hx => by
   obtain ⟨i, hi, rfl⟩ := List.getElem_of_mem hx
   have := h' i hi
   simpa [ge hi] using this
  rw [this]; rfl
 ·rw [h]
  have : l.all vS = false := List.all_eq_false.2 ⟨l[i], List.getElem_mem hi, by
   simpa [ge hi] using h'⟩
  rw [this]
  simp only [zb]
  rw [show decide ((i : Int) ≥ 0) = true by simp]; rfl
theorem factor_eq {r : Resp} (hr : ROk r) (hv : r.aL.all vS = true) : ∃ p, eT r.aL = some p ∧ (decide (p > 0) = nj 1 r.aL) := by
 obtain ⟨hl, ht⟩ := hr
 generalize r.aL = l at *
 obtain ⟨o, h, hq⟩ := gb (body := dR l) (fun s => ∃ i : Nat, s.2 = (i : Int) ∧ i ≤ l.length ∧ 1 ≤ s.1 ∧ s.1 ≤ 64 ∧ nj 1 l = nj s.1 (l.drop i)) (fun s => ((l.length : Int) - s.2).toNat)
  (fun o => match o with | .inl y => 0 < y ∧ nj 1 l = true | .inr y => y = 0 ∧ nj 1 l = false) (by
  rintro ⟨x, y⟩ ⟨i, hy, hi, h1, h2, h3⟩
  simp only at hy h1 h2 h3
  subst hy
  unfold dR
  simp only
  by_cases hlt : i < l.length
  ·rw [if_pos so, bW rfl hlt, zb, w64 (n := (i : Int) + 1) om om]
   rw [List.drop_eq_getElem_cons hlt, prodOk_cons] at h3
   have hvi : vS l[i] = true := List.all_eq_true.1 hv _ (List.getElem_mem hlt)
   by_cases hk : l[i].br = 2
   ·rw [if_neg (by simpa using hk)]
    rw [if_pos hk] at h3
    obtain ⟨f1, f2⟩ := vS_factor hvi hk
    have m1 : 1 ≤ x * l[i].aX := by have := Int.mul_le_mul h1 f1 om om; omega
    have m2 : x * l[i].aX ≤ 64 * 64 := Int.mul_le_mul h2 f2 om om
    rw [w64 (n := x * l[i].aX) om om]
    by_cases hp : x * l[i].aX ≤ 64
    ·rw [if_neg so]
     refine .inl ⟨_, rfl, ⟨i + 1, rfl, om, m1, hp, ?_⟩, za⟩
     rw [h3]; simp [hp]
    ·rw [if_pos so]
     refine .inr ⟨_, rfl, rfl, ?_⟩
     rw [h3]; simp [hp]
   ·rw [if_pos (by simpa using hk)]
    rw [if_neg hk] at h3
    exact .inl ⟨_, rfl, ⟨i + 1, rfl, om, h1, h2, h3⟩, za⟩
  ·rw [if_neg so]
   refine .inr ⟨_, rfl, om, ?_⟩
   rw [h3, List.drop_eq_nil_of_le om]; rfl) (1, 0) ⟨0, rfl, Nat.zero_le _, za, za, rfl⟩
 unfold eT
 rw [h]
 rcases o with y | y
 ·exact ⟨y, rfl, by rw [hq.2]; simpa using hq.1⟩
 ·exact ⟨y, rfl, by rw [hq.2, hq.1]; rfl⟩
theorem vP_eq {r : Resp} (hr : ROk r) : fN r = some (vP r) := by
 unfold fN vP
 by_cases h8 : r.aL.length ≤ 8
 ·rw [if_neg so, allv_eq hr, zb]
  cases hv : r.aL.all vS with
  | false => simp
  | true =>
   obtain ⟨p, h1, h2⟩ := factor_eq hr hv
   rw [if_neg sm, h1, zb, h2]; simp [h8]
 ·rw [if_pos so]; simp [h8]
theorem ref_vP_eq {r : Resp} (hr : ROk r) : nB r = some (vP r) := by
 obtain ⟨hl, ht⟩ := hr
 obtain ⟨o, h, hq⟩ := gb (body := kq r) (fun s => ∃ i : Nat, s.2 = (i : Int) ∧ i ≤ r.aL.length ∧ 1 ≤ s.1 ∧ s.1 ≤ 64 ∧ (r.aL.all vS && nj 1 r.aL) = ((r.aL.drop i).all vS && nj s.1 (r.aL.drop i))) (fun s => ((r.aL.length : Int) - s.2).toNat)
  (fun o => match o with | .inl _ => (r.aL.all vS && nj 1 r.aL) = true | .inr y => y = false ∧ (r.aL.all vS && nj 1 r.aL) = false) (by
  rintro ⟨x, y⟩ ⟨i, hy, hi, h1, h2, h3⟩
  simp only at hy h1 h2 h3
  subst hy
  unfold kq
  simp only
  by_cases hlt : i < r.aL.length
  ·rw [if_pos so, bW rfl hlt, w64 (n := (i : Int) + 1) om om]
   simp only [zb, ref_vS_eq (ht _ (List.getElem_mem hlt)), qe]
   rw [List.drop_eq_getElem_cons hlt, List.all_cons, prodOk_cons] at h3
   cases hvi : vS r.aL[i] with
   | false => rw [hvi] at h3; exact .inr ⟨.inr false, sm, rfl, by rw [h3]; rfl⟩
   | true =>
   rw [hvi, Bool.true_and] at h3
   simp only [if_true]
   by_cases hk : r.aL[i].br = 2
   ·rw [if_pos (by simpa using hk)]
    rw [if_pos hk] at h3
    obtain ⟨f1, f2⟩ := vS_factor hvi hk
    have m1 : 1 ≤ x * r.aL[i].aX := by have := Int.mul_le_mul h1 f1 om om; omega
    have m2 : x * r.aL[i].aX ≤ 64 * 64 := Int.mul_le_mul h2 f2 om om
    rw [w64 (n := x * r.aL[i].aX) om om]
    by_cases hp : x * r.aL[i].aX ≤ 64
    ·rw [if_neg so]
     refine .inl ⟨_, rfl, ⟨i + 1, rfl, om, m1, hp, ?_⟩, za⟩
     rw [h3]; simp [hp]
    ·rw [if_pos so]
     refine .inr ⟨_, rfl, rfl, ?_⟩
     rw [h3]; simp [hp]
   ·rw [if_neg (by simpa using hk)]
    rw [if_neg hk] at h3
    exact .inl ⟨_, rfl, ⟨i + 1, rfl, om, h1, h2, h3⟩, za⟩
  ·rw [if_neg so]
   refine .inr ⟨_, rfl, ?_⟩
   simp only
   rw [h3, List.drop_eq_nil_of_le om]; rfl) (1, 0) ⟨0, rfl, Nat.zero_le _, za, za, rfl⟩
 unfold nB vP
 rw [h, zb]
 have e : decide ((r.aL.length : Int) ≤ 8) = decide (r.aL.length ≤ 8) := decide_eq_decide.2 om
 rcases o with y | y
 ·simp only at hq
  rw [hq, e, Bool.and_true]
 ·rw [hq.2, hq.1]; simp

noncomputable def vE (e : Epoch) : Bool := decide (e.aJ ≥ 0) && (decide (e.aJ < e.fTo) && (decide (e.fTo ≤ 9007199254740992) && (vR e.bI && (vP e.aQ && (inB e.aF.fX (-1048576) 1048576 && (inB e.aF.fY (-1048576) 1048576 && inB e.aF.fZ (-16384) 1048576))))))
theorem vE_eq {e : Epoch} (he : ROk e.aQ) : cL e = some (vE e) := by
 unfold cL vE
 simp only [vR_eq, vP_eq he, iin_eq, zb, mT]
theorem ref_vE_eq {e : Epoch} (he : ROk e.aQ) : gQ e = some (vE e) := by
 unfold gQ vE
 simp only [ref_vR_eq, ref_vP_eq he, In_eq, zb, mT]
def EOk (l : List Epoch) : Prop := l.length ≤ 4000000000 ∧ ∀ e ∈ l, ROk e.aQ
noncomputable def wD (l : List Epoch) (i : Nat) : Bool := match l[i]? with
 | some e => vE e && (decide (i = 0) || match l[i - 1]? with | some p => decide (p.fTo ≤ e.aJ) | none => true)
 | none => true
noncomputable def vEs (l : List Epoch) : Bool := (List.range l.length).all (wD l) && inB l.length 1 32
theorem stepE_0 {l : List Epoch} (h : 0 < l.length) : wD l 0 = vE l[0] := by
 unfold wD; rw [ge h]; simp
theorem stepE_s {l : List Epoch} {i : Nat} (h : i + 1 < l.length) : wD l (i + 1) = (vE l[i + 1] && decide (l[i].fTo ≤ l[i + 1].aJ)) := by
 unfold wD; rw [ge h]
 simp only [Nat.add_sub_cancel, ge (show i < l.length by omega)]
 simp
theorem epochs_loop {l : List Epoch} (hl : EOk l) : bF (cM l) (0 : Int) = some (if (List.range l.length).all (wD l) = true then .inl () else .inr false) := by
 obtain ⟨hl, ht⟩ := hl
 refine yq l.length (fun i hi => ?_) ?_
 ·unfold cM
  rw [if_pos so, bW rfl hi, w64 (n := (i : Int) + 1) om om]
  simp only [zb, vE_eq (ht _ (List.getElem_mem hi)), qe]
  match i, hi with
  | 0, hi =>
   rw [stepE_0 hi, if_neg (c := decide (((0 : Nat) : Int) > 0) = true) sm]; rfl
  | i + 1, hi =>
   rw [stepE_s hi, if_pos (c := decide (((i + 1 : Nat) : Int) > 0) = true) (decide_eq_true om), w64 om om, bW (i := i) om om, zb]
   cases vE l[i + 1] with
   | false => simp
   | true =>
    by_cases h : l[i].fTo ≤ l[i + 1].aJ
    ·rw [if_neg (c := decide (l[i + 1].aJ < l[i].fTo) = true) so]; simp [h]
    ·rw [if_pos (c := decide (l[i + 1].aJ < l[i].fTo) = true) so]; simp [h]
 ·unfold cM
  rw [if_neg sm]
theorem epochs_eq {l : List Epoch} (hl : EOk l) : dY l = some (vEs l) := by
 unfold dY vEs
 rw [epochs_loop hl, zb]
 cases (List.range l.length).all (wD l) with
 | true => simp only [if_true, iin_eq, zb, Bool.true_and]
 | false => rfl
theorem ref_epochs_loop {c : Chan} (hl : EOk c.aM) (s : Int) : bF (iN c s) (0 : Int) = some (if (List.range c.aM.length).all (wD c.aM) = true then .inl s else .inr false) := by
 obtain ⟨hl, ht⟩ := hl
 refine yq c.aM.length (fun i hi => ?_) ?_
 ·unfold iN
  rw [if_pos so, bW rfl hi, w64 (n := (i : Int) + 1) om om]
  simp only [zb, ref_vE_eq (ht _ (List.getElem_mem hi)), qe]
  match i, hi with
  | 0, hi =>
   rw [stepE_0 hi, if_neg (c := decide (((0 : Nat) : Int) > 0) = true) sm]; rfl
  | i + 1, hi =>
   rw [stepE_s hi, if_pos (c := decide (((i + 1 : Nat) : Int) > 0) = true) (decide_eq_true om), w64 om om, bW (i := i) om om, zb]
   cases vE c.aM[i + 1] with
   | false => simp
   | true =>
    by_cases h : c.aM[i].fTo ≤ c.aM[i + 1].aJ
    ·rw [if_neg (c := decide (c.aM[i + 1].aJ < c.aM[i].fTo) = true) so]; simp [h]
    ·rw [if_pos (c := decide (c.aM[i + 1].aJ < c.aM[i].fTo) = true) so]; simp [h]
 ·unfold iN
  rw [if_neg sm]

def COk (c : Chan) : Prop := b7 c.ak ∧ EOk c.aM
def IOk (l : List Chan) : Prop := l.length ≤ 4000000000 ∧ ∀ c ∈ l, COk c
noncomputable def yU (l : List Chan) (i : Nat) : Bool := match l[i]? with
 | some c => jt c.ak && vEs c.aM && (decide (i = 0) || match l[i - 1]? with | some p => decide (ef p.ak c.ak < 0) | none => true)
 | none => true
noncomputable def vI (l : List Chan) : Bool := (List.range l.length).all (yU l) && decide (l.length ≤ 128)
theorem stepI_0 {l : List Chan} (h : 0 < l.length) : yU l 0 = (jt l[0].ak && vEs l[0].aM) := by
 unfold yU; rw [ge h]; simp
theorem stepI_s {l : List Chan} {i : Nat} (h : i + 1 < l.length) : yU l (i + 1) = (jt l[i + 1].ak && vEs l[i + 1].aM && decide (ef l[i].ak l[i + 1].ak < 0)) := by
 unfold yU; rw [ge h]
 simp only [Nat.add_sub_cancel, ge (show i < l.length by omega)]
 simp
theorem vI_eq {l : List Chan} (hl : IOk l) : bv ⟨l⟩ = some (vI l) := by
 obtain ⟨hl, hc⟩ := hl
 unfold bv vI
 rw [yq (body := cW ⟨l⟩) l.length (q := yU l) (u := .inl ()) (r := .inr false) (fun i hi => by
  unfold cW
  simp only
  rw [if_pos so, bW rfl hi, w64 (n := (i : Int) + 1) om om]
  simp only [zb, vV (hc _ (List.getElem_mem hi)).1, epochs_eq (hc _ (List.getElem_mem hi)).2, Sd.jT, qe]
  match i, hi with
  | 0, hi =>
   rw [stepI_0 hi, if_neg (c := decide (((0 : Nat) : Int) > 0) = true) sm]
   cases jt l[0].ak <;> cases vEs l[0].aM <;> simp
  | i + 1, hi =>
   rw [stepI_s hi, if_pos (c := decide (((i + 1 : Nat) : Int) > 0) = true) (decide_eq_true om), w64 om om, bW (i := i) om om]
   simp only [zb]
   cases jt l[i + 1].ak with
   | false => simp
   | true =>
    cases vEs l[i + 1].aM with
    | false => simp
    | true =>
     by_cases h : ef l[i].ak l[i + 1].ak < 0
     ·rw [if_neg (c := decide (ef l[i].ak l[i + 1].ak ≥ 0) = true) so]; simp [h]
     ·rw [if_pos (c := decide (ef l[i].ak l[i + 1].ak ≥ 0) = true) so]; simp [h]) (by
  unfold cW
  rw [if_neg sm]), zb]
 have e : decide ((l.length : Int) ≤ 128) = decide (l.length ≤ 128) := decide_eq_decide.2 om
 cases (List.range l.length).all (yU l) with
 | true => simp [e]
 | false => rfl
theorem ref_vI_eq {l : List Chan} (hl : IOk l) : iV ⟨l⟩ = some (vI l) := by
 obtain ⟨hl, hc⟩ := hl
 unfold iV vI
 rw [yq (body := iO ⟨l⟩) l.length (q := yU l) (u := .inl ()) (r := .inr false) (fun i hi => by
  unfold iO iM
  simp only
  rw [if_pos so, bW rfl hi]
  simp only [zb, yJ (hc _ (List.getElem_mem hi)).1, ref_epochs_loop (hc _ (List.getElem_mem hi)).2, Sd.lz, In_eq, qe]
  have he : ∀ c : Chan, vEs c.aM = ((List.range c.aM.length).all (wD c.aM) && inB c.aM.length 1 32) := fun _ => rfl
  match i, hi with
  | 0, hi =>
   rw [stepI_0 hi, if_neg (c := decide (((0 : Nat) : Int) > 0) = true) sm, he]
   cases jt l[0].ak <;> cases inB l[0].aM.length 1 32 <;> cases (List.range l[0].aM.length).all (wD l[0].aM) <;> simp <;> rfl
  | i + 1, hi =>
   rw [stepI_s hi, if_pos (c := decide (((i + 1 : Nat) : Int) > 0) = true) (decide_eq_true om), w64 (n := ((i + 1 : Nat) : Int) - 1) om om, bW (i := i) om om, he]
   have hw : ∀ j : Int, j = ((i + 1 : Nat) : Int) → IntKind.wrap .i64 (j + 1) = ((i + 1 + 1 : Nat) : Int) := fun j hj => by subst hj; exact w64 om om
   simp only [zb]
   by_cases h : ef l[i].ak l[i + 1].ak < 0
   ·rw [if_neg (c := decide (ef l[i].ak l[i + 1].ak ≥ 0) = true) so]
    cases jt l[i + 1].ak <;> cases inB l[i + 1].aM.length 1 32 <;> cases (List.range l[i + 1].aM.length).all (wD l[i + 1].aM) <;> simp only [Bool.true_and, Bool.and_true, Bool.false_and, Bool.and_false, if_true, Bool.false_eq_true, if_false, h, decide_true, hw _ rfl]
   ·rw [if_pos (c := decide (ef l[i].ak l[i + 1].ak ≥ 0) = true) so]
    cases jt l[i + 1].ak <;> simp [h]) (by
  unfold iO
  rw [if_neg sm]), zb]
 have e : decide ((l.length : Int) ≤ 128) = decide (l.length ≤ 128) := decide_eq_decide.2 om
 cases (List.range l.length).all (yU l) with
 | true => simp [e]
 | false => rfl
theorem loop_run {σ ω : Type} {body : σ → Option (cb σ ω)} (n : Nat) (st : Nat → σ) {r : ω} (h1 : ∀ i, i < n → body (st i) = some (.next (st (i + 1)))) (h2 : body (st n) = some (.stop r)) : bF body (st 0) = some r := by
 have : ∀ k i, i + k = n → bF body (st i) = some r := by
  intro k
  induction k with
  | zero =>
   intro i hi
   obtain rfl : i = n := by omega
   exact cZ h2
  | succ k ih => intro i hi; rw [eb (h1 i om)]; exact ih (i + 1) om
 exact this n 0 om
theorem modO_at {α : Type} {l : List α} {n : Int} {i : Nat} {f : α → α} (hn : n = i) (hi : i < l.length) : lB l n f = some (l.set i (f l[i])) := by
 subst hn
 unfold lB
 rw [if_pos om, Int.toNat_natCast, ge hi]

theorem copy18 {r : Resp} (hr : ROk r) : pj r = some r := by
 obtain ⟨hl, ht⟩ := hr
 have : bF (jk r) ((0 : Int), ([] : List Stage)) = some r.aL := loop_run (body := jk r) r.aL.length (fun i => ((i : Int), r.aL.take i)) (fun i hi => by
  have hti := ht _ (List.getElem_mem hi)
  unfold jk
  simp only
  rw [if_pos (decide_eq_true om), bW rfl hi, zb, cg so, zb, cg so, zb, w64 om om, cn hi]
  rfl) (by
  unfold jk
  simp only
  rw [if_neg sm, List.take_length])
 unfold pj
 rw [this]; rfl
theorem copyE {e : Epoch} (he : ROk e.aQ) : iL e = some e := by
 unfold iL
 rw [copy18 he]; rfl
theorem copyC {l : List Chan} (hl : IOk l) {k : Nat} (hk : k < l.length) (s2 : List Chan) : bF (hM ⟨l⟩ (k : Int) s2) ((0 : Int), ([] : List Epoch)) = some ((k : Int), s2, l[k].aM) := by
 obtain ⟨he, hr⟩ := (hl.2 _ (List.getElem_mem hk)).2
 exact loop_run (body := hM ⟨l⟩ (k : Int) s2) l[k].aM.length (fun i => ((i : Int), l[k].aM.take i)) (fun i hi => by
  unfold hM
  simp only
  rw [bW rfl hk]
  simp only [zb]
  rw [if_pos (decide_eq_true om), bW rfl hi, zb, copyE (hr _ (List.getElem_mem hi)), zb, cg so, zb, w64 om om, cn hi]
  rfl) (by
  unfold hM
  simp only
  rw [bW rfl hk]
  simp only [zb]
  rw [if_neg sm, List.take_length])
theorem copyI {l : List Chan} (hl : IOk l) : nl ⟨l⟩ = some ⟨l⟩ := by
 have hn := hl.1
 have : bF (hP ⟨l⟩) ((0 : Int), ([] : List Chan)) = some l := loop_run (body := hP ⟨l⟩) l.length (fun i => ((i : Int), l.take i)) (fun i hi => by
  unfold hP
  simp only
  rw [if_pos (decide_eq_true om), bW rfl hi, zb, copyC hl hi, zb]
  simp only
  rw [cg so, zb, w64 om om, cn hi]
  rfl) (by
  unfold hP
  simp only
  rw [if_neg sm, List.take_length])
 unfold nl
 rw [this]; rfl


end Iv
end Go.Dw.De


set_option maxRecDepth 100000
set_option maxHeartbeats 4000000
namespace Go.Dw.De
open Go.Dw Go.Proofs
open Sd (ef dj eI)

theorem eqK_eq (a b : Pick) : oM a b = decide (a = b) := eqs a b
theorem we {κ β : Type} [DecidableEq κ] {eq : κ → κ → Bool} (he : ∀ a b, eq a b = decide (a = b)) (k : κ) (v z : β) (k' : κ) : ∀ m : List (κ × β), gl eq k' z (mD eq k v m) = if k' = k then v else gl eq k' z m
 | [] => by simp [mD, gl, he]
 | e :: r => by
  have ih := we he k v z k' r
  unfold mD
  rw [he]
  by_cases h : k = e.1
  ·rw [if_pos (by simpa using h)]
   unfold gl
   rw [he, he]
   by_cases h' : k' = k
   ·rw [if_pos (by simpa using h'), if_pos h']
   ·rw [if_neg (by simpa using h'), if_neg h', if_neg (by rw [← h]; simpa using h')]
  ·rw [if_neg (by simpa using h)]
   unfold gl
   rw [he, ih]
   by_cases h' : k' = e.1 <;> by_cases h2 : k' = k <;> simp_all
abbrev home (p : Pick) (m : List (Pick × Int)) : Int := gl oM p (0 : Int) m
structure Home (X : List (List Pick)) (m : List (Pick × Int)) : Prop where
 at_ : ∀ (j : Nat) (h : j < X.length) (p : Pick), p ∈ X[j] → home p m = j + 1
 no : ∀ p, p ∉ X.flatten → home p m = 0
theorem l25_ok (g : List Pick) (hg : g.length ≤ 1000) (i : Int) (hi : 0 ≤ i ∧ i ≤ 1000) (m : List (Pick × Int)) :
  Ok (bF (fC g i) ((0 : Int), m)) (fun o => o.1 = i ∧ ∀ p, home p o.2 = if p ∈ g then i + 1 else home p m) := by
 refine Ok.loop (fun s => ∃ k : Nat, s.1 = k ∧ k ≤ g.length ∧ ∀ p, home p s.2 = if p ∈ g.take k then i + 1 else home p m) (fun s => ((g.length : Int) - s.1).toNat) ?_ ⟨0, rfl, Nat.zero_le _, sm⟩
 rintro ⟨s1, s2⟩ ⟨k, i0, i1, i2⟩
 simp only at i0 i1 i2
 subst i0
 unfold fC
 dsimp only
 refine Ok.ea (fun hlt => ?_) (fun hge => ?_)
 ·have hk : k < g.length := by omega
  rw [bW rfl hk, zb, w64 (n := i + 1) om om, w64 om om]
  refine Ok.nx ⟨k + 1, sm, om, fun p => ?_⟩ za
  simp only
  unfold home at i2 ⊢
  rw [we eqK_eq, i2 p, cn hk]
  simp only [List.mem_append, List.mem_singleton]
  by_cases e : p = g[k] <;> by_cases e' : p ∈ g.take k <;> simp [e, e']
 ·have : k = g.length := by omega
  subst this
  exact Ok.st ⟨rfl, by simpa using i2⟩
theorem l27_ok (X : List (List Pick)) (hX : X.length ≤ 1000) (hg : ∀ g ∈ X, g.length ≤ 1000) (hn : X.flatten.Nodup) : Ok (bF (fD X) ((0 : Int), [])) (Home X) := by
 obtain ⟨-, hd⟩ := List.pairwise_flatten.1 hn
 refine Ok.loop (fun s => ∃ i : Nat, s.1 = i ∧ i ≤ X.length ∧ (∀ (j : Nat) (h : j < X.length) (p : Pick), j < i → p ∈ X[j] → home p s.2 = j + 1) ∧ ∀ p, p ∉ (X.take i).flatten → home p s.2 = 0) (fun s => ((X.length : Int) - s.1).toNat) ?_ ⟨0, rfl, Nat.zero_le _, fun j h p hj => om, fun p _ => rfl⟩
 rintro ⟨s1, s2⟩ ⟨i, i0, i1, i2, i3⟩
 simp only at i0 i1 i2 i3
 subst i0
 unfold fD
 dsimp only
 refine Ok.ea (fun hlt => ?_) (fun hge => ?_)
 ·have hk : i < X.length := by omega
  rw [bW rfl hk, zb]
  refine Ok.bind (l25_ok X[i] (hg _ (List.getElem_mem hk)) i ⟨om, om⟩ s2) (fun o ho => ?_)
  obtain ⟨o1, o2⟩ := ho
  rw [o1, w64 om om]
  refine Ok.nx ⟨i + 1, sm, om, fun j h p hj hp => ?_, fun p hp => ?_⟩ za
  ·simp only
   rw [o2]
   by_cases e : j = i
   ·subst e
    rw [if_pos hp]
   ·have hji : j < i := by omega
    have := List.pairwise_iff_getElem.1 hd j i h hk hji
    rw [if_neg (fun h' => this p hp p h' rfl), i2 j h p hji hp]
  ·simp only
   rw [cn hk, List.flatten_append, List.mem_append] at hp
   have h1 : p ∉ X[i] := fun h => hp (.inr (by simpa using h))
   rw [o2, if_neg h1]
   exact i3 p fun h => hp (.inl h)
 ·have : i = X.length := by omega
  subst this
  exact Ok.st ⟨fun j h p hp => i2 j h p h hp, by simpa using i3⟩

def anyB (m : List (Pick × Int)) (a b : ac) (k : Int) (g : List Pick) : Bool := g.any fun p => decide (home p m ≠ k) || decide (Chg a b p)
def frB (X : List (List Pick)) (m : List (Pick × Int)) (a b : ac) (g : List Pick) : Bool :=
 decide (home (g.headD ⟨⟨[], [], [], []⟩, 0, 0, 0, 0, 0⟩) m ≠ 0) && (decide ((X.getD (home (g.headD ⟨⟨[], [], [], []⟩, 0, 0, 0, 0, 0⟩) m - 1).toNat []).length = g.length) && !anyB m a b (home (g.headD ⟨⟨[], [], [], []⟩, 0, 0, 0, 0, 0⟩) m) g)
def gp (X : List (List Pick)) (m : List (Pick × Int)) (a b : ac) (Y : List (List Pick)) (n : Nat) : List Int := ((List.range n).filter fun j => !frB X m a b (Y.getD j [])).map fun j : Nat => (j : Int)
structure IV (v : ac) : Prop where
 len : ui v
 val : bv v = some true
theorem contains_eq (g : List Pick) (hg : g.length ≤ 1000) (k : Int) {a b : ac} (ha : IV a) (hb : IV b) (m : List (Pick × Int)) : ca g k a b m = some (anyB m a b k g) := by
 unfold ca dg
 have h1 : ∀ (i : Nat) (hi : i < g.length), bQ g k a b m (i : Int) = if (decide (home g[i] m ≠ k) || decide (Chg a b g[i])) = true then some (.stop (.inr (i : Int))) else some (.next ((i + 1 : Nat) : Int)) := by
  intro i hi
  unfold bQ
  rw [if_pos so, bW rfl hi, zb, w64 om om]
  unfold fa
  rw [uh ha.len hb.len ha.val hb.val]
  by_cases e1 : home g[i] m = k
  ·rw [if_neg (by simpa using e1)]
   by_cases e2 : Chg a b g[i] <;> simp [e1, e2]
  ·rw [if_pos (by simpa using e1)]
   simp [e1]
 have h2 : bQ g k a b m (g.length : Nat) = some (.stop (.inl ())) := by
  unfold bQ
  rw [if_neg sm]
 rcases ln g (p := fun x => decide (home x m ≠ k) || decide (Chg a b x)) (f := fun i _ => (i : Int)) h1 h2 with ⟨e, h⟩ | ⟨i, hi, e, hp, h⟩
 ·rw [e]
  have : anyB m a b k g = false := by
   unfold anyB
   rw [List.any_eq_false]
   intro x hx
   rw [h x hx]; simp
  rw [this]; rfl
 ·rw [e]
  have : anyB m a b k g = true := by
   unfold anyB
   rw [List.any_eq_true]
   exact ⟨g[i], List.getElem_mem hi, hp⟩
  rw [this]
  simp
theorem l45_ok (X Y : List (List Pick)) (m : List (Pick × Int)) {a b : ac} (ha : IV a) (hb : IV b) (hX : X.length ≤ 1000) (hXg : ∀ g ∈ X, g.length ≤ 1000) (hm : Home X m) (hY : Y.length ≤ 1000) (hg : ∀ g ∈ Y, g ≠ [] ∧ g.length ≤ 1000) :
  bF (fE Y m X a b) ((0 : Int), []) = some (gp X m a b Y Y.length) := by
 refine Ok.eq (Ok.loop (fun s => ∃ i : Nat, s = ((i : Int), gp X m a b Y i) ∧ i ≤ Y.length) (fun s => ((Y.length : Int) - s.1).toNat) ?_ ⟨0, rfl, Nat.zero_le _⟩)
 rintro s ⟨i, rfl, hi⟩
 unfold fE
 dsimp only
 refine Ok.ea (fun hlt => ?_) (fun hge => ?_)
 rotate_left
 ·have : i = Y.length := by omega
  subst this
  exact Ok.st rfl
 have hk : i < Y.length := by omega
 obtain ⟨hne, hgl⟩ := hg _ (List.getElem_mem hk)
 have hsl : (gp X m a b Y i).length ≤ 1000 := by
  unfold gp
  have := List.length_filter_le (fun j => !frB X m a b (Y.getD j [])) (List.range i)
  rw [List.length_range] at this
  rw [List.length_map]; omega
 have hsucc : gp X m a b Y (i + 1) = gp X m a b Y i ++ if frB X m a b Y[i] = true then [] else [(i : Int)] := by
  unfold gp
  rw [List.range_succ, List.filter_append, List.map_append]
  congr 1
  have : Y.getD i [] = Y[i] := by rw [List.getD_eq_getElem?_getD, ge hk]; rfl
  simp only [List.filter_cons, List.filter_nil, this]
  cases frB X m a b Y[i] <;> simp
 have hyes : frB X m a b Y[i] = false → Ok ((dJ (gp X m a b Y i) [(i : Int)] 8).bind fun x38 => some (.next ((IntKind.wrap .i64 ((i : Int) + (1 : Int))), x38))) (Ok.S (fun s => ∃ i : Nat, s = ((i : Int), gp X m a b Y i) ∧ i ≤ Y.length) (fun s => ((Y.length : Int) - s.1).toNat) (fun o => o = gp X m a b Y Y.length) ((i : Int), gp X m a b Y i)) := fun h => by
  rw [cg (by simp only [List.length_cons, List.length_nil]; omega), zb, w64 om om]
  exact Ok.nx ⟨i + 1, by rw [hsucc, h]; simp, om⟩ za
 rw [bW rfl hk, zb]
 have hfr : frB X m a b Y[i] = (decide (home (Y[i].headD ⟨⟨[], [], [], []⟩, 0, 0, 0, 0, 0⟩) m ≠ 0) && (decide ((X.getD (home (Y[i].headD ⟨⟨[], [], [], []⟩, 0, 0, 0, 0, 0⟩) m - 1).toNat []).length = Y[i].length) && !anyB m a b (home (Y[i].headD ⟨⟨[], [], [], []⟩, 0, 0, 0, 0, 0⟩) m) Y[i])) := rfl
 generalize Y[i] = g at *
 rcases g with _ | ⟨p0, g'⟩
 ·exact (hne rfl).elim
 rw [show cA (p0 :: g') (0 : Int) = some p0 from rfl, zb]
 rw [List.headD_cons] at hfr
 generalize hg' : p0 :: g' = g at *
 show Ok (if (home p0 m == (0 : Int)) = true then _ else _) _
 refine Ok.kY (fun h0 => hyes (by rw [hfr]; simp [h0])) (fun h0 => ?_)
 have hin : p0 ∈ X.flatten := by
  apply Classical.byContradiction
  intro h
  exact h0 (hm.no p0 h)
 obtain ⟨x, hx, hpx⟩ := List.mem_flatten.1 hin
 obtain ⟨j, hj, rfl⟩ := List.getElem_of_mem hx
 have hj1 := hm.at_ j hj p0 hpx
 have hxl := hXg _ hx
 show Ok ((cA X (IntKind.wrap .i64 (home p0 m - 1))).bind _) _
 have hgd : X.getD (home p0 m - 1).toNat [] = X[j] := by
  rw [hj1, show ((j : Int) + 1 - 1).toNat = j by omega, List.getD_eq_getElem?_getD, ge hj]; rfl
 rw [hgd] at hfr
 rw [w64 om om, bW (i := j) om hj, zb]
 refine Ok.iteNe (fun h1 => hyes ?_) (fun h1 => ?_)
 ·rw [hfr, decide_eq_false (show ¬ X[j].length = g.length by omega)]; simp
 rw [show gl oM p0 (0 : Int) m = home p0 m from rfl, contains_eq g hgl _ ha hb, zb]
 refine Ok.iteB (fun h2 => hyes ?_) (fun h2 => ?_)
 ·rw [hfr, h2]; simp
 ·rw [w64 om om]
  refine Ok.nx ⟨i + 1, ?_, om⟩ za
  have : frB X m a b g = true := by
   rw [hfr, h2, decide_eq_true (show home p0 m ≠ 0 from h0), decide_eq_true (show X[j].length = g.length by omega)]; rfl
  rw [hsucc, this]; simp
theorem ug.facts {n : Int} {l : List Pick} {X : List (List Pick)} (h : ug n l X) (hl : l.length ≤ 1000) : X.length ≤ 1000 ∧ (∀ g ∈ X, g ≠ [] ∧ g.length ≤ 1000) ∧ X.flatten.Nodup ∧ ∀ p, p ∈ X.flatten ↔ p ∈ l := by
 obtain ⟨s, e1, e2, e3, e4, e5⟩ := h.flat
 have hfl : X.flatten.length = s.length := e5.length_eq
 refine ⟨by have := len_le h.ne; omega, fun g hg => ⟨h.ne g hg, by have := (List.sublist_flatten_of_mem hg).length_le; omega⟩, ?_, fun p => e5.mem_iff.trans (e4 p)⟩
 refine e5.nodup_iff.2 (e3.imp fun {a b} h e => ?_)
 subst e
 have := ed.refl a
 omega
theorem Stale_ok (n : Int) (h0 : 0 ≤ n) (h1 : n ≤ 1099511627776) (l q : List Pick) (hl : l.length ≤ 20) (hr : ∀ p ∈ l, fB p) (hl' : q.length ≤ 20) (hr' : ∀ p ∈ q, fB p) {a b : ac} (ha : IV a) (hb : IV b) :
  Ok (cp n l q a b) (fun r => r.2 = 0 ∧ ∃ X Y m, bG n l = some X ∧ bG n q = some Y ∧ ug n l X ∧ ug n q Y ∧ Home X m ∧ r.1 = gp X m a b Y Y.length) := by
 unfold cp
 refine Ok.ea (fun _ => om) (fun _ => Ok.ea (fun _ => om) (fun _ => ?_))
 rw [uf om hr, zb, if_neg sm, uf om hr', zb, if_neg sm, ha.val, zb, if_neg sm, hb.val, zb, if_neg sm]
 refine Ok.bind (um n l hl hr).name fun X hX => ?_
 obtain ⟨x1, x2, x3, x4⟩ := hX.2.facts om
 refine Ok.bind (l27_ok X x1 (fun g hg => (x2 g hg).2) x3) fun m hm => ?_
 refine Ok.bind (um n q hl' hr').name fun Y hY => ?_
 obtain ⟨y1, y2, y3, y4⟩ := hY.2.facts om
 rw [l45_ok X Y m ha hb x1 (fun g hg => (x2 g hg).2) hm y1 y2, zb]
 exact Ok.ret ⟨rfl, X, Y, m, hX.1, hY.1, hX.2, hY.2, hm, rfl⟩
theorem replaced_ok (l o : List Pick) (hl : l.length ≤ 100) (ho : o.length ≤ 100) (h1 : ∀ p ∈ l, fB p) (h2 : ∀ p ∈ o, fB p) (d : Src) (hd : b7 d) :
  Ok (jV l o d) (fun r => (r.1.length ≤ l.length + 1 ∧ ∀ p ∈ r.1, fB p) ∧ b7 r.2) := by
 unfold jV
 refine Ok.bind (P := fun x : List Int × Int × List Pick => b7 ⟨x.1, x.2.1⟩ ∧ x.2.2.length ≤ l.length ∧ ∀ p ∈ x.2.2, fB p) (Ok.loop (fun s : Int × List Int × Int × List Pick => (0 ≤ s.1 ∧ s.1 ≤ l.length) ∧ b7 ⟨s.2.1, s.2.2.1⟩ ∧ s.2.2.2.length ≤ s.1.toNat ∧ ∀ p ∈ s.2.2.2, fB p) (fun s => ((l.length : Int) - s.1).toNat) ?_ ⟨⟨Int.le_refl _, sm⟩, hd, sm, sm⟩) ?_
 ·rintro ⟨s1, s2, s3, s4⟩ ⟨⟨i0, i1⟩, i2, i3, i4⟩
  simp only at i0 i1 i2 i3 i4
  unfold lI
  dsimp only
  refine Ok.ea (fun hlt => ?_) (fun _ => Ok.st ⟨i2, za, i4⟩)
  refine Ok.bind (eQ _ _ i2 om om) (fun y1 g1 => ?_)
  rw [w64 om om]
  refine Ok.ea (fun _ => ?_) (fun _ => Ok.nx ⟨⟨za, za⟩, g1.2.2, za, i4⟩ za)
  refine Ok.bind (Ok.get i0 om) (fun x hx => ?_)
  refine Ok.bind (Ok.app (by simp only [List.length_cons, List.length_nil]; omega)) (fun y hy => ?_)
  subst hy
  refine Ok.nx ⟨⟨za, za⟩, g1.2.2, by simp only [List.length_append, List.length_cons, List.length_nil]; omega, fun p hp => ?_⟩ za
  simp only [List.mem_append, List.mem_singleton] at hp
  rcases hp with hp | rfl
  ·exact i4 p hp
  ·exact h1 _ hx.1
 ·rintro ⟨x1, x2, x3⟩ ⟨e1, e2, e3⟩
  simp only at e1 e2 e3
  refine Ok.bind (eQ _ _ e1 om om) (fun y1 g1 => ?_)
  refine Ok.kY (fun _ => ?_) (fun _ => Ok.ret ⟨⟨za, e3⟩, g1.2.2⟩)
  refine Ok.ea (fun hlt => ?_) (fun _ => Ok.ret ⟨⟨za, e3⟩, g1.2.2⟩)
  refine Ok.bind (eQ _ _ g1.2.2 om om) (fun y2 g2 => ?_)
  refine Ok.bind (Ok.get g2.1 g2.2.1) (fun x hx => ?_)
  refine Ok.bind (Ok.app (by simp only [List.length_cons, List.length_nil]; omega)) (fun y hy => ?_)
  subst hy
  refine Ok.ret ⟨⟨by simp only [List.length_append, List.length_cons, List.length_nil]; omega, fun p hp => ?_⟩, g2.2.2⟩
  simp only [List.mem_append, List.mem_singleton] at hp
  rcases hp with hp | rfl
  ·exact e3 p hp
  ·exact h2 _ hx.1
end Go.Dw.De
