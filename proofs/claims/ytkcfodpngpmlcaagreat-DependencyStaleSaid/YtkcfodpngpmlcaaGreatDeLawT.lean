
import Derived.Test.YtkcfodpngpmlcaaGreatDeFn
import Derived.Test.YtkcfodpngpmlcaaGreatDwPlain
import Derived.Test.YtkcfodpngpmlcaaGreatDwOk
import Derived.Test.YtkcfodpngpmlcaaGreatDeCo
import Derived.KernelRfl



set_option maxRecDepth 100000
set_option maxHeartbeats 4000000
namespace Go.Dw.De
namespace So
open Go.Dw
abbrev Src := ag
theorem byteO_at {s : List UInt8} {n : Int} {i : Nat} (hn : n = i) (hi : i < s.length) : byteO s n = some ((s[i].toNat : Nat) : Int) := by
  subst hn
  unfold byteO
  rw [if_pos ⟨by omega, by omega⟩, Int.toNat_natCast, List.getD_eq_getElem?_getD, List.getElem?_eq_getElem hi]; rfl
theorem yp {α : Type} {l m : List α} {b : Nat} (h : (l.length + m.length) * b ≤ 140737488355328) : appO l m b = some (l ++ m) := by
  unfold appO
  rw [if_pos h]
theorem loop_list {α ω : Type} {body : Int → Option (Step1 Int ω)} (l : List α) {p : α → Bool} {u r : ω} (h1 : ∀ (i : Nat) (hi : i < l.length), body i = if p l[i] = true then some (.next ((i + 1 : Nat) : Int)) else some (.stop r))
    (h2 : body (l.length : Nat) = some (.stop u)) : loopO body (0 : Int) = some (if l.all p = true then u else r) := by
  have : ∀ k i, i + k = l.length → loopO body (i : Int) = some (if (l.drop i).all p = true then u else r) := by
    intro k
    induction k with
    | zero =>
      intro i hi
      obtain rfl : i = l.length := by omega
      rw [loopO_stop h2]; simp
    | succ k ih =>
      intro i hi
      have hlt : i < l.length := by omega
      rw [List.drop_eq_getElem_cons hlt, List.all_cons]
      by_cases hp : p l[i] = true
      · rw [loopO_next (by rw [h1 i hlt, if_pos hp]), ih (i + 1) (by omega), hp, Bool.true_and]
      · rw [loopO_stop (by rw [h1 i hlt, if_neg hp])]; simp [hp]
  have := this l.length 0 (by omega)
  simpa using this

def plainB (c : UInt8) : Bool := (decide (65 ≤ c.toNat) && decide (c.toNat ≤ 90)) || (decide (48 ≤ c.toNat) && decide (c.toNat ≤ 57))
theorem dec1 (n : Nat) : decide ((n : Int) ≥ 65) = decide (65 ≤ n) := decide_eq_decide.2 (by omega)
theorem dec2 (n : Nat) : decide ((n : Int) ≤ 90) = decide (n ≤ 90) := decide_eq_decide.2 (by omega)
theorem dec3 (n : Nat) : decide ((n : Int) ≥ 48) = decide (48 ≤ n) := decide_eq_decide.2 (by omega)
theorem dec4 (n : Nat) : decide ((n : Int) ≤ 57) = decide (n ≤ 57) := decide_eq_decide.2 (by omega)
theorem plain_eq (c : UInt8) : l8 ((c.toNat : Nat) : Int) = some (plainB c) := by
  unfold l8 plainB
  rw [dec1, dec2, dec3, dec4]
  cases decide (65 ≤ c.toNat) <;> cases decide (c.toNat ≤ 90) <;> cases decide (48 ≤ c.toNat) <;> simp
def wu (s : List UInt8) (lo hi : Int) : Bool := s.all plainB && (decide ((s.length : Int) ≥ lo) && decide ((s.length : Int) ≤ hi))
theorem code_l7 {s : List UInt8} (hs : s.length ≤ 9223372036854775807) : loopO (jx s) (0 : Int) = some (if s.all plainB = true then .inl () else .inr false) := by
  refine loop_list s (fun i hi => ?_) ?_
  · unfold jx
    rw [if_pos (by simp; omega), byteO_at rfl hi, w64 (by omega) (by omega)]
    simp only [Option.bind_some, plain_eq]
    cases plainB s[i] <;> simp
  · unfold jx
    rw [if_neg (by simp)]
theorem code_eq {s : List UInt8} (hs : s.length ≤ 9223372036854775807) (lo hi : Int) : iW s lo hi = some (wu s lo hi) := by
  unfold iW wu
  rw [code_l7 hs]
  cases s.all plainB with
  | true => cases decide ((s.length : Int) ≥ lo) <;> simp
  | false => rfl
def SidLen (x : Src) : Prop := x.aB.length ≤ 9223372036854775807 ∧ x.aA.length ≤ 9223372036854775807 ∧ x.aw.length ≤ 9223372036854775807 ∧ x.aC.length ≤ 9223372036854775807
def wT (x : Src) : Bool := wu x.aB 1 2 && (wu x.aA 1 5 && (wu x.aw 0 2 && (decide (x.aw.length ≠ 1) && wu x.aC 3 3)))
theorem Valid_eq {x : Src} (hx : SidLen x) : jZ x = some (wT x) := by
  obtain ⟨h1, h2, h3, h4⟩ := hx
  unfold jZ wT
  simp only [code_eq h1, code_eq h2, code_eq h3, code_eq h4, Option.bind_some]
  have e : ((x.aw.length : Int) != 1) = decide (x.aw.length ≠ 1) := by
    by_cases h : x.aw.length = 1
    · simp [h]
    · simp [h]; omega
  rw [e]
  cases wu x.aB 1 2 <;> cases wu x.aA 1 5 <;> cases wu x.aw 0 2 <;> cases decide (x.aw.length ≠ 1) <;> simp
theorem wY {s : List UInt8} {lo : Int} {hi : Nat} (h : wu s lo hi = true) : s.length ≤ hi := by
  unfold wu at h
  simp only [Bool.and_eq_true, decide_eq_true_eq] at h
  omega
theorem valid_len {x : Src} (h : wT x = true) : x.aB.length ≤ 2 ∧ x.aA.length ≤ 5 ∧ x.aw.length ≤ 2 ∧ x.aC.length ≤ 3 := by
  unfold wT at h
  simp only [Bool.and_eq_true] at h
  exact ⟨wY (hi := 2) h.1, wY (hi := 5) h.2.1, wY (hi := 2) h.2.2.1, wY (hi := 3) h.2.2.2.2⟩

end So
end Go.Dw.De


set_option maxRecDepth 100000
set_option maxHeartbeats 4000000
namespace Go.Dw.De
open Go.Dw
abbrev Src := ah
abbrev Pick := aa
abbrev Sid := ag

theorem mod_ok (a b : Int) (h0 : 1 ≤ b) (h1 : b ≤ 1000000000) : Ok (sr a b) (fun r => 0 ≤ r ∧ r < b) := by
  unfold sr
  have hl : a.tmod b < b := Int.tmod_lt_of_pos _ (by omega)
  have hg : -b < a.tmod b := by
    rcases Int.le_total 0 a with h | h
    · have := Int.tmod_nonneg b h; omega
    · have e : a.tmod b = -((-a).tmod b) := by rw [Int.neg_tmod]; omega
      have := Int.tmod_lt_of_pos (-a) (show 0 < b by omega)
      omega
  refine Ok.iteD (fun _ => by omega) (fun _ => ?_)
  refine Ok.bind (Ok.rem (by omega)) (fun x hx => ?_)
  subst hx
  refine Ok.iteD (fun _ => ?_) (fun _ => ?_)
  · rw [w64 (by omega) (by omega)]
    exact Ok.ret (by omega)
  · exact Ok.ret (by omega)
def cm (d : Src) : Prop := 0 ≤ d.fAt ∧ d.fAt ≤ d.fL.length ∧ d.fL.length ≤ 2000
theorem raw_ok (d : Src) (hd : cm d) : Ok (wW d) (fun r => cm r.2) := by
  obtain ⟨h0, h1, h2⟩ := hd
  unfold wW
  refine Ok.iteD (fun _ => Ok.ret ⟨h0, h1, h2⟩) (fun h => ?_)
  rw [w64 (n := d.fAt + 1) (by omega) (by omega), w64 (by omega) (by omega)]
  refine Ok.bind (Ok.get (by omega) (by omega)) (fun x _ => ?_)
  refine Ok.ret ⟨?_, ?_, h2⟩ <;> simp only <;> omega
theorem fo (k : Int) (d : Src) (hd : cm d) (h0 : 1 ≤ k) (h1 : k ≤ 1000000000) : Ok (cN k d) (fun r => 0 ≤ r.1 ∧ r.1 < k ∧ cm r.2) := by
  unfold cN
  refine Ok.bind (raw_ok d hd) (fun x hx => ?_)
  refine Ok.bind (mod_ok _ _ h0 h1) (fun y hy => ?_)
  exact Ok.ret ⟨hy.1, hy.2, hx⟩
theorem jS (l : List Int) (d : Src) (hd : cm d) (h0 : l ≠ []) (h1 : l.length ≤ 1000000) : Ok (c7 l d) (fun r => r.1 ∈ l ∧ cm r.2) := by
  unfold c7
  have := List.length_pos_iff.2 h0
  refine Ok.bind (fo _ d hd (by omega) (by omega)) (fun x hx => ?_)
  refine Ok.bind (Ok.get hx.1 hx.2.1) (fun y hy => ?_)
  exact Ok.ret ⟨hy.1, hx.2.2⟩
def stas : List (List UInt8) := [[83, 49], [83, 50], [83, 51], [83, 52], [83, 53], [83, 54]]
def IsSid (a : Sid) : Prop := So.wT a = true
theorem stas_ok : ∀ x ∈ stas, So.wT ⟨[65, 66], x, [48, 48], [66, 72, 90]⟩ = true := by decide +kernel
theorem source_ok (n : Int) : Ok (eZ n) IsSid := by
  unfold eZ
  refine Ok.bind (mod_ok n 6 (by omega) (by omega)) (fun x hx => ?_)
  refine Ok.bind (Ok.get hx.1 hx.2) (fun y hy => ?_)
  exact Ok.ret (stas_ok y hy.1)
theorem new_ok (l : List Int) : Ok (mS l) cm := by
  unfold mS
  refine Ok.bind (Ok.cut (by omega) (by split <;> omega) (by split <;> omega)) (fun x hx => ?_)
  subst hx
  refine Ok.ret ⟨by simp, by simp, ?_⟩
  simp only [List.length_take, List.length_drop]
  split <;> omega


def uq (m : Int) (p : ap) : Prop := (-m ≤ p.fX ∧ p.fX ≤ m) ∧ (-m ≤ p.fY ∧ p.fY ≤ m) ∧ (-m ≤ p.fZ ∧ p.fZ ≤ m)
theorem uH (m : Int) (h0 : 0 ≤ m) (h1 : m ≤ 1000) (d : Src) (hd : cm d) : Ok (lJ m d) (fun r => uq m r.1 ∧ cm r.2) := by
  unfold lJ
  rw [w64 (n := 2 * m) (by omega) (by omega), w64 (n := 2 * m + 1) (by omega) (by omega), w64 (n := m + 1) (by omega) (by omega)]
  refine Ok.bind (fo _ _ hd (by omega) (by omega)) (fun y1 g1 => ?_)
  refine Ok.bind (fo _ _ g1.2.2 (by omega) (by omega)) (fun y2 g2 => ?_)
  refine Ok.bind (fo _ _ g2.2.2 (by omega) (by omega)) (fun y3 g3 => ?_)
  rw [w64 (n := y1.1 - m) (by omega) (by omega), w64 (n := y2.1 - m) (by omega) (by omega)]
  exact Ok.ret ⟨⟨by simp only; omega, by simp only; omega, by simp only; omega⟩, g3.2.2⟩
def BoxOk (b : aM) : Prop := uq 40 b.bf ∧ (0 ≤ b.aY.fX - b.bf.fX ∧ b.aY.fX - b.bf.fX ≤ 20) ∧ (0 ≤ b.aY.fY - b.bf.fY ∧ b.aY.fY - b.bf.fY ≤ 20) ∧ (0 ≤ b.aY.fZ - b.bf.fZ ∧ b.aY.fZ - b.bf.fZ ≤ 20)
theorem box_ok (m side : Int) (h0 : 0 ≤ m) (h1 : m ≤ 40) (h2 : 0 ≤ side) (h3 : side ≤ 20) (d : Src) (hd : cm d) : Ok (wV m side d) (fun r => BoxOk r.1 ∧ cm r.2) := by
  unfold wV
  rw [w64 (n := side + 1) (by omega) (by omega)]
  refine Ok.bind (uH m h0 (by omega) d hd) (fun y0 g0 => ?_)
  refine Ok.bind (fo _ _ g0.2 (by omega) (by omega)) (fun y1 g1 => ?_)
  refine Ok.bind (fo _ _ g1.2.2 (by omega) (by omega)) (fun y2 g2 => ?_)
  refine Ok.bind (fo _ _ g2.2.2 (by omega) (by omega)) (fun y3 g3 => ?_)
  obtain ⟨⟨p1, p2, p3⟩, -⟩ := g0
  rw [w64 (n := y0.1.fX + y1.1) (by omega) (by omega), w64 (n := y0.1.fY + y2.1) (by omega) (by omega), w64 (n := y0.1.fZ + y3.1) (by omega) (by omega)]
  refine Ok.ret ⟨⟨⟨by simp only; omega, by simp only; omega, by simp only; omega⟩, by simp only; omega, by simp only; omega, by simp only; omega⟩, g3.2.2⟩

structure TabOk (t : aK) : Prop where
  step : t.bH = 20 ∨ t.bH = 25 ∨ t.bH = 40 ∨ t.bH = 100
  len : 1 ≤ t.bf.length ∧ t.bf.length ≤ 30
  same : t.aY.length = t.bf.length
  low : ∀ x ∈ t.bf, 0 ≤ x ∧ x ≤ 3000
  high : ∀ x ∈ t.aY, 0 ≤ x ∧ x ≤ 5000
theorem table_ok (d : Src) (hd : cm d) : Ok (px d) (fun r => TabOk r.1 ∧ cm r.2) := by
  unfold px
  refine Ok.bind (jS _ d hd (by simp) (by simp)) (fun x1 h1 => ?_)
  obtain ⟨hst, h1⟩ := h1
  have hst : x1.1 = 20 ∨ x1.1 = 25 ∨ x1.1 = 40 ∨ x1.1 = 100 := by simpa using hst
  refine Ok.bind (fo _ _ h1 (by omega) (by omega)) (fun x2 h2 => ?_)
  have hq : ∃ q, IntKind.wrap .i64 ((400 : Int).tdiv x1.1) = q ∧ 4 ≤ q ∧ q ≤ 20 := by
    rcases hst with e | e | e | e <;> rw [e] <;> exact ⟨_, rfl, by decide, by decide⟩
  have hp : ∃ q, IntKind.wrap .i64 (x1.1.tdiv 4) = q ∧ 0 ≤ q ∧ q ≤ 25 := by
    rcases hst with e | e | e | e <;> rw [e] <;> exact ⟨_, rfl, by decide, by decide⟩
  obtain ⟨q, hq, q0, q1⟩ := hq
  obtain ⟨p, hp, p0, p1⟩ := hp
  refine Ok.bind (P := fun o => cm ⟨o.1, o.2.1⟩ ∧ (1 ≤ o.2.2.1.length ∧ o.2.2.1.length ≤ 30) ∧ o.2.2.2.length = o.2.2.1.length ∧ (∀ x ∈ o.2.2.1, 0 ≤ x ∧ x ≤ 3000) ∧ (∀ x ∈ o.2.2.2, 0 ≤ x ∧ x ≤ 5000))
    (Ok.loop (fun s => (0 ≤ s.2.2.1 ∧ s.2.2.1 ≤ 23) ∧ s.2.2.2.2.2.1.length = s.2.2.1.toNat ∧ s.2.2.2.2.2.2.length = s.2.2.1.toNat ∧ (0 ≤ s.1 ∧ s.1 ≤ 60 * s.2.2.1) ∧ (0 ≤ s.2.1 ∧ s.2.1 ≤ 100 * s.2.2.1 + 2) ∧ cm ⟨s.2.2.2.1, s.2.2.2.2.1⟩ ∧ (∀ x ∈ s.2.2.2.2.2.1, 0 ≤ x ∧ x ≤ 3000) ∧ (∀ x ∈ s.2.2.2.2.2.2, 0 ≤ x ∧ x ≤ 5000))
      (fun s => (23 - s.2.2.1).toNat) ?_ ⟨⟨by simp, by simp⟩, rfl, rfl, ⟨by simp, by simp⟩, ⟨by simp only; omega, by simp only; omega⟩, h2.2.2, by simp, by simp⟩) ?_
  · rintro ⟨s3, s4, s5, s6, s7, s8, s9⟩ ⟨i0, i1, i2, i3, i4, i5, i6, i7⟩
    simp only at i0 i1 i2 i3 i4 i5 i6 i7
    unfold qi
    refine Ok.bind (Ok.quo (by omega)) (fun y1 g1 => ?_)
    rw [hq] at g1; subst g1
    refine Ok.bind (fo _ _ i5 (by omega) (by omega)) (fun y2 g2 => ?_)
    rw [w64 (n := y1 + y2.1) (by omega) (by omega)]
    refine Ok.iteD (fun hle => ?_) (fun hgt => ?_)
    · refine Ok.bind (Ok.app (by simp only [List.length_cons, List.length_nil]; omega)) (fun y3 g3 => ?_)
      refine Ok.bind (Ok.app (by simp only [List.length_cons, List.length_nil]; omega)) (fun y4 g4 => ?_)
      refine Ok.bind (jS _ _ g2.2.2 (by simp) (by simp)) (fun y5 g5 => ?_)
      refine Ok.bind (Ok.quo (by omega)) (fun y6 g6 => ?_)
      rw [hp] at g6; subst g6
      refine Ok.bind (jS _ _ g5.2 (by simp) (by simp)) (fun y7 g7 => ?_)
      have a1 : 0 ≤ y5.1 ∧ y5.1 ≤ 35 := by have := g5.1; simp at this; omega
      have a2 : 0 ≤ y7.1 ∧ y7.1 ≤ 30 := by have := g7.1; simp at this; omega
      rw [w64 (n := y5.1 + y6) (by omega) (by omega), w64 (n := s3 + (y5.1 + y6)) (by omega) (by omega), w64 (n := s5 + 1) (by omega) (by omega), w64 (by split <;> omega) (by split <;> omega)]
      subst g3 g4
      refine Ok.nx ⟨⟨by simp only; omega, by simp only; omega⟩, ?_, ?_, ⟨by simp only; omega, by simp only; omega⟩, ⟨by simp only; split <;> omega, by simp only; split <;> omega⟩, g7.2, ?_, ?_⟩ (by simp only; omega)
      · simp only [List.length_append, List.length_cons, List.length_nil]; omega
      · simp only [List.length_append, List.length_cons, List.length_nil]; omega
      · intro x hx
        simp only [List.mem_append, List.mem_singleton] at hx
        rcases hx with hx | rfl
        · exact i6 x hx
        · omega
      · intro x hx
        simp only [List.mem_append, List.mem_singleton] at hx
        rcases hx with hx | rfl
        · exact i7 x hx
        · omega
    · exact Ok.st ⟨g2.2.2, ⟨by simp only; omega, by simp only; omega⟩, by simp only; omega, i6, i7⟩
  · intro o ho
    exact Ok.ret ⟨⟨hst, ho.2.1, ho.2.2.1, ho.2.2.2.1, ho.2.2.2.2⟩, ho.1⟩
theorem association_ok (d : Src) (hd : cm d) : Ok (iF 3 d) (fun r => (BoxOk r.1.aS ∧ TabOk r.1.bw) ∧ cm r.2) := by
  unfold iF
  refine Ok.bind (box_ok 20 3 (by omega) (by omega) (by omega) (by omega) d hd) (fun x1 h1 => ?_)
  refine Ok.bind (table_ok _ h1.2) (fun x2 h2 => ?_)
  refine Ok.bind (jS _ _ h2.2 (by simp) (by simp)) (fun x3 h3 => ?_)
  refine Ok.bind (jS _ _ h3.2 (by simp) (by simp)) (fun x4 h4 => ?_)
  refine Ok.bind (jS _ _ h4.2 (by simp) (by simp)) (fun x5 h5 => ?_)
  refine Ok.bind (jS _ _ h5.2 (by simp) (by simp)) (fun x6 h6 => ?_)
  refine Ok.bind (fo _ _ h6.2 (by omega) (by omega)) (fun x7 h7 => ?_)
  exact Ok.ret ⟨⟨h1.1, h2.1⟩, h7.2.2⟩
theorem scale_ok (d : Src) (hd : cm d) : Ok (sd d) (fun r => cm r.2) := by
  unfold sd
  refine Ok.bind (table_ok _ hd) (fun x1 h1 => ?_)
  refine Ok.bind (fo _ _ h1.2 (by omega) (by omega)) (fun x2 h2 => ?_)
  refine Ok.bind (fo _ _ h2.2.2 (by omega) (by omega)) (fun x3 h3 => ?_)
  have hl := h1.1.len; have hs := h1.1.same
  refine Ok.bind (P := fun _ => True) (Ok.loop (fun s => 0 ≤ s.1 ∧ s.2.1.length = x1.1.bf.length ∧ s.2.2.length = x1.1.bf.length) (fun s => ((x1.1.bf.length : Int) - s.1).toNat) ?_ ⟨Int.le_refl _, rfl, hs⟩) (fun o _ => Ok.ret h3.2.2)
  rintro ⟨s4, s5, s6⟩ ⟨i0, i1, i2⟩
  simp only at i0 i1 i2
  unfold qh
  refine Ok.iteD (fun hlt => ?_) (fun _ => Ok.st trivial)
  refine Ok.bind (Ok.isin (by omega) (by omega)) (fun _ _ => ?_)
  refine Ok.bind (Ok.get (by omega) (by omega)) (fun y1 g1 => ?_)
  refine Ok.bind (Ok.quo (by omega)) (fun y2 g2 => ?_)
  refine Ok.bind (Ok.isin (by omega) (by omega)) (fun _ _ => ?_)
  refine Ok.bind (Ok.get (by omega) (by omega)) (fun y3 g3 => ?_)
  refine Ok.bind (Ok.quo (by omega)) (fun y4 g4 => ?_)
  refine Ok.bind (Ok.isin (by omega) (by omega)) (fun _ _ => ?_)
  refine Ok.bind (Ok.set (by omega) (by omega)) (fun y5 g5 => ?_)
  refine Ok.bind (Ok.isin (by omega) (by omega)) (fun _ _ => ?_)
  refine Ok.bind (Ok.set (by omega) (by omega)) (fun y6 g6 => ?_)
  subst g5 g6
  rw [w64 (by omega) (by omega)]
  exact Ok.nx ⟨by simp only; omega, by simpa using i1, by simpa using i2⟩ (by simp only; omega)
theorem settings_ok (d : Src) (hd : cm d) : Ok (fG 3 d) (fun r => (BoxOk r.1.av.aS ∧ TabOk r.1.av.bw) ∧ cm r.2) := by
  unfold fG
  refine Ok.bind (association_ok d hd) (fun x1 h1 => ?_)
  refine Ok.bind (scale_ok _ h1.2) (fun x2 h2 => ?_)
  refine Ok.bind (jS _ _ h2 (by simp) (by simp)) (fun x3 h3 => ?_)
  exact Ok.ret ⟨h1.1, h3.2⟩

def ChanOk (c : ac) : Prop := c.aP.length ≤ 2 ∧ ∀ e ∈ c.aP, uq 60 e.aF
def InvOk (v : ae) : Prop := v.aq.length ≤ 6 ∧ ∀ c ∈ v.aq, ChanOk c
theorem range_ok (a b : Int) (h0 : -1000 ≤ a) (h1 : a ≤ 1000) (h2 : 0 ≤ b - a) (h3 : b - a ≤ 1000) (d : Src) (hd : cm d) : Ok (nK a b d) (fun r => (a ≤ r.1 ∧ r.1 ≤ b) ∧ cm r.2) := by
  unfold nK
  rw [w64 (n := b - a) (by omega) (by omega), w64 (n := b - a + 1) (by omega) (by omega)]
  refine Ok.bind (fo _ _ hd (by omega) (by omega)) (fun y1 g1 => ?_)
  rw [w64 (n := a + y1.1) (by omega) (by omega)]
  exact Ok.ret ⟨⟨by simp only; omega, by simp only; omega⟩, g1.2.2⟩
theorem point_ok (b : aM) (hb : BoxOk b) (d : Src) (hd : cm d) : Ok (pw b d) (fun r => uq 60 r.1 ∧ cm r.2) := by
  obtain ⟨⟨p1, p2, p3⟩, q1, q2, q3⟩ := hb
  unfold pw
  refine Ok.bind (range_ok _ _ (by omega) (by omega) (by omega) (by omega) d hd) (fun y1 g1 => ?_)
  refine Ok.bind (range_ok _ _ (by omega) (by omega) (by omega) (by omega) _ g1.2) (fun y2 g2 => ?_)
  refine Ok.bind (range_ok _ _ (by omega) (by omega) (by omega) (by omega) _ g2.2) (fun y3 g3 => ?_)
  exact Ok.ret ⟨⟨by simp only; omega, by simp only; omega, by simp only; omega⟩, g3.2⟩
theorem kplace_ok (v : ae) (hv : InvOk v) (x : Sid) (t : Int) : Ok (pC v x t) (fun r => uq 60 r.1) := by
  unfold pC
  have h0 : uq 60 ⟨0, 0, 0⟩ := ⟨by simp, by simp, by simp⟩
  refine Ok.bind (P := fun o => match o with | .inl _ => True | .inr r => uq 60 r.1) (Ok.upto v.aq.length (by omega) (fun _ => True) trivial ?_) ?_
  · intro i h1 h2 _
    unfold ot
    refine Ok.iteD (fun hlt => ?_) (fun _ => Ok.st trivial)
    refine Ok.bind (Ok.get (by omega) (by omega)) (fun c hc => ?_)
    have hck := hv.2 c hc.1
    have hlen := hv.1
    refine Ok.bind (P := fun o => match o with | .inl y => y = i | .inr r => uq 60 r.1) (Ok.upto c.aP.length (by omega) (fun _ => True) trivial ?_) ?_
    · intro j h3 h4 _
      unfold oq
      have hcl := hck.1
      refine Ok.iteD (fun hlt => ?_) (fun _ => Ok.st rfl)
      refine Ok.bind (Ok.get (by omega) (by omega)) (fun e he => ?_)
      rw [w64 (n := j + 1) (by omega) (by omega)]
      refine Ok.iteB (fun _ => ?_) (fun _ => Ok.nx ⟨⟨by omega, by omega⟩, trivial⟩ (by omega))
      refine Ok.iteD (fun _ => ?_) (fun _ => Ok.nx ⟨⟨by omega, by omega⟩, trivial⟩ (by omega))
      refine Ok.iteD (fun _ => ?_) (fun _ => Ok.nx ⟨⟨by omega, by omega⟩, trivial⟩ (by omega))
      exact Ok.st (hck.2 e he.1)
    · rintro (y | r) ho
      · simp only at ho ⊢
        subst ho
        rw [w64 (n := y + 1) (by omega) (by omega)]
        exact Ok.nx ⟨⟨by omega, by omega⟩, trivial⟩ (by omega)
      · exact Ok.st ho
  · rintro (y | r) ho
    · exact Ok.ret h0
    · exact Ok.ret ho
def nk (p : Pick) : Prop := IsSid p.al ∧ 0 ≤ p.aI ∧ p.aI ≤ p.aN ∧ p.aN ≤ p.aX ∧ p.aX ≤ 18014398509481984 ∧ 0 ≤ p.aH ∧ p.aH ≤ 1073741823 ∧ -1 ≤ p.aJ ∧ p.aJ ≤ 1
def PI (n : Nat) (s : Int × Int × List Int × Int × List Pick × Int × Int × Int) : Prop :=
  (0 ≤ s.2.1 ∧ s.2.1 + s.2.2.2.2.1.length ≤ n) ∧ (0 ≤ s.1 ∧ s.1 ≤ 1000000 + 1000 * s.2.2.2.2.1.length) ∧ cm ⟨s.2.2.1, s.2.2.2.1⟩ ∧ uq 60 ⟨s.2.2.2.2.2.1, s.2.2.2.2.2.2.1, s.2.2.2.2.2.2.2⟩ ∧ ∀ p ∈ s.2.2.2.2.1, nk p
theorem k34_ok {n : Nat} (hn : n ≤ 1000) {Q : List Pick × List Int × Int → Prop} {s : Int × Int × List Int × Int × List Pick × Int × Int × Int} {sid : Sid} (hs : IsSid sid) (am : Int × Src) (ha : 0 ≤ am.1 ∧ am.1 ≤ 1048576) (po : Int × Src) (hp : 0 ≤ po.1 ∧ po.1 < 3) (t k : Int) (l : List Int) (at_ : Int) (out : List Pick) (x y z e : Int)
    (hk : 1 ≤ k ∧ k + out.length ≤ n) (hks : k = s.2.1) (ht : 0 ≤ t ∧ t ≤ 1000000 + 1000 * (out.length + 1)) (hd : cm ⟨l, at_⟩) (hpos : uq 60 ⟨x, y, z⟩) (hout : ∀ p ∈ out, nk p) (he : 0 ≤ e ∧ e ≤ 10000000) :
    Ok (fE sid am po t k l at_ out x y z e) (Ok.S (PI n) (fun s => s.2.1.toNat) Q s) := by
  unfold fE
  refine Ok.bind (fo _ _ hd (by omega) (by omega)) (fun y1 g1 => ?_)
  refine Ok.bind (fo _ _ g1.2.2 (by omega) (by omega)) (fun y2 g2 => ?_)
  refine Ok.bind (Ok.app (by simp only [List.length_cons, List.length_nil]; omega)) (fun y3 g3 => ?_)
  subst g3
  rw [w64 (n := e + y1.1) (by omega) (by omega), w64 (n := e + y1.1 + y2.1) (by omega) (by omega), w64 (n := po.1 - 1) (by omega) (by omega), w64 (n := k - 1) (by omega) (by omega)]
  refine Ok.nx ⟨⟨by simp only; omega, by simp only [List.length_append, List.length_cons, List.length_nil]; omega⟩, ⟨ht.1, by simp only [List.length_append, List.length_cons, List.length_nil]; omega⟩, g2.2.2, hpos, fun p hpm => ?_⟩ (by simp only; omega)
  simp only [List.mem_append, List.mem_singleton] at hpm
  rcases hpm with hpm | rfl
  · exact hout p hpm
  · exact ⟨hs, by simp only; omega, by simp only; omega, by simp only; omega, by simp only; omega, by simp only; omega, by simp only; omega, by simp only; omega, by simp only; omega⟩
theorem l55_ok (pl : ap × Bool) (hpl : uq 60 pl.1) (x y z t k : Int) (out : List Pick) (hx : uq 60 ⟨x, y, z⟩) : Ok (loopO (mL pl x y z t k out) (0 : Int)) (fun o => o.1 = t ∧ o.2.1 = k ∧ (0 ≤ o.2.2.1 ∧ o.2.2.1 ≤ 300) ∧ o.2.2.2.1 = out ∧ o.2.2.2.2.1 = x ∧ o.2.2.2.2.2.1 = y ∧ o.2.2.2.2.2.2 = z) := by
  obtain ⟨a1, a2, a3⟩ := hpl
  obtain ⟨b1, b2, b3⟩ := hx
  simp only at b1 b2 b3
  have hsq : ∀ (u v : Int), -60 ≤ u → u ≤ 60 → -60 ≤ v → v ≤ 60 → ∃ q, tO (IntKind.wrap .i64 (u - v)) = some q ∧ 0 ≤ q ∧ q ≤ 14400 := by
    intro u v h1 h2 h3 h4
    have h5 : -120 ≤ u - v ∧ u - v ≤ 120 := by omega
    rw [w64 (by omega) (by omega)]
    have h6 : 0 ≤ (u - v) * (u - v) ∧ (u - v) * (u - v) ≤ 14400 := by
      constructor
      · rcases Int.le_total 0 (u - v) with h | h
        · exact Int.mul_nonneg h h
        · exact Int.mul_nonneg_of_nonpos_of_nonpos h h
      · rcases Int.le_total 0 (u - v) with h | h
        · calc (u - v) * (u - v) ≤ 120 * 120 := Int.mul_le_mul h5.2 h5.2 h (by omega)
            _ = 14400 := by decide
        · have : (u - v) * (u - v) = (v - u) * (v - u) := by
            rw [← Int.neg_mul_neg]; congr 1 <;> omega
          rw [this]
          calc (v - u) * (v - u) ≤ 120 * 120 := Int.mul_le_mul (by omega) (by omega) (by omega) (by omega)
            _ = 14400 := by decide
    refine ⟨_, by unfold tO; rw [w64 (by omega) (by omega)], h6.1, h6.2⟩
  obtain ⟨q1, e1, l1, u1⟩ := hsq pl.1.fX x a1.1 a1.2 b1.1 b1.2
  obtain ⟨q2, e2, l2, u2⟩ := hsq pl.1.fY y a2.1 a2.2 b2.1 b2.2
  obtain ⟨q3, e3, l3, u3⟩ := hsq pl.1.fZ z a3.1 a3.2 b3.1 b3.2
  refine Ok.loop (fun s => 0 ≤ s ∧ s ≤ 300) (fun s => (300 - s).toNat) (fun s hs => ?_) ⟨Int.le_refl _, by omega⟩
  unfold mL
  rw [e1, e2, e3]
  simp only [Option.bind_some]
  rw [w64 (n := q1 + q2) (by omega) (by omega), w64 (n := q1 + q2 + q3) (by omega) (by omega)]
  have hss : 0 ≤ s * s ∧ s * s ≤ 90000 := ⟨Int.mul_nonneg hs.1 hs.1, by
    calc s * s ≤ 300 * 300 := Int.mul_le_mul hs.2 hs.2 hs.1 (by omega)
      _ = 90000 := by decide⟩
  rw [w64 (n := s * s) (by omega) (by omega)]
  refine Ok.iteD (fun hlt => ?_) (fun _ => Ok.st ⟨rfl, rfl, hs, rfl, rfl, rfl, rfl⟩)
  have h299 : s ≤ 299 := by
    rcases Int.lt_or_le 299 s with h | h
    · exfalso
      have : s = 300 := by omega
      subst this
      omega
    · exact h
  rw [w64 (n := s + 1) (by omega) (by omega)]
  exact Ok.nx ⟨by omega, by omega⟩ (by omega)
theorem picks_ok (a : aG) (ha : BoxOk a.av.aS ∧ TabOk a.av.bw) (v : ae) (hv : InvOk v) (n : Nat) (hn : n ≤ 100) (d : Src) (hd : cm d) :
    Ok (iG a v n d) (fun r => (r.1.length ≤ n ∧ ∀ p ∈ r.1, nk p) ∧ cm r.2) := by
  unfold iG
  refine Ok.bind (point_ok _ ha.1 d hd) (fun x1 h1 => ?_)
  refine Ok.bind (fo _ _ h1.2 (by omega) (by omega)) (fun x2 h2 => ?_)
  rw [w64 (n := (n : Int) + 1) (by omega) (by omega)]
  refine Ok.bind (fo _ _ h2.2.2 (by omega) (by omega)) (fun x3 h3 => ?_)
  rw [w64 (n := 1000 + x2.1) (by omega) (by omega)]
  refine Ok.bind (P := fun o => (o.1.length ≤ n ∧ ∀ p ∈ o.1, nk p) ∧ cm ⟨o.2.1, o.2.2⟩) (Ok.loop (PI n) (fun s => s.2.1.toNat) ?_ ⟨⟨by simp only; omega, by simp only [List.length_nil]; omega⟩, ⟨by simp only; omega, by simp only [List.length_nil]; omega⟩, h3.2.2, h1.1, by simp⟩) (fun o ho => Ok.ret ⟨ho.1, ho.2⟩)
  rintro ⟨s4, s5, s6, s7, s8, s9, s10, s11⟩ ⟨i0, i1, i2, i3, i4⟩
  simp only at i0 i1 i2 i3 i4
  unfold qg
  refine Ok.iteD (fun hgt => ?_) (fun _ => Ok.st ⟨⟨by simp only; omega, i4⟩, i2⟩)
  refine Ok.bind (fo _ _ i2 (by omega) (by omega)) (fun y1 g1 => ?_)
  refine Ok.bind (source_ok _) (fun y2 g2 => ?_)
  refine Ok.bind (jS _ _ g1.2.2 (by simp) (by simp)) (fun y3 g3 => ?_)
  have hy3 : 0 ≤ y3.1 ∧ y3.1 ≤ 1048576 := by have := g3.1; simp at this; omega
  refine Ok.bind (fo _ _ g3.2 (by omega) (by omega)) (fun y4 g4 => ?_)
  refine Ok.bind (fo _ _ g4.2.2 (by omega) (by omega)) (fun y5 g5 => ?_)
  refine Ok.bind (fo _ _ g5.2.2 (by omega) (by omega)) (fun y6 g6 => ?_)
  rw [w64 (n := 1000 + y5.1) (by omega) (by omega)]
  refine Ok.iteE (fun _ => ?_) (fun _ => Ok.iteE (fun _ => ?_) (fun _ => ?_))
  · refine Ok.bind (point_ok _ ha.1 _ g6.2.2) (fun y7 g7 => ?_)
    refine Ok.bind (fo _ _ g7.2 (by omega) (by omega)) (fun y8 g8 => ?_)
    rw [w64 (n := s4 + y8.1) (by omega) (by omega)]
    exact k34_ok (by omega) g2 y3 hy3 y4 ⟨g4.1, g4.2.1⟩ _ _ _ _ _ _ _ _ _ (by omega) rfl (by omega) g8.2.2 g7.1 i4 (by omega)
  · exact k34_ok (by omega) g2 y3 hy3 y4 ⟨g4.1, g4.2.1⟩ _ _ _ _ _ _ _ _ _ (by omega) rfl (by omega) g6.2.2 i3 i4 (by omega)
  · refine Ok.bind (kplace_ok v hv _ _) (fun y7 g7 => ?_)
    refine Ok.iteB (fun _ => ?_) (fun _ => ?_)
    · refine Ok.bind (l55_ok y7 g7 _ _ _ _ _ _ i3) (fun o ho => ?_)
      obtain ⟨o1, o2, o3, o4, o5, o6, o7⟩ := ho
      have htab := ha.2
      have hl := htab.len
      have hst := htab.step
      refine Ok.bind (Ok.quo (by omega)) (fun y8 g8 => ?_)
      have hq : 0 ≤ o.2.2.1.tdiv a.av.bw.bH ∧ o.2.2.1.tdiv a.av.bw.bH ≤ 300 := by
        refine ⟨Int.tdiv_nonneg o3.1 (by omega), ?_⟩
        have := Int.tdiv_le_self (b := a.av.bw.bH) o3.1
        omega
      rw [w64 (by omega) (by omega)] at g8
      subst g8
      rw [w64 (n := (a.av.bw.bf.length : Int) - 1) (by omega) (by omega)]
      refine Ok.bind (Ok.get (by split <;> omega) (by split <;> omega)) (fun y9 g9 => ?_)
      have hb := htab.low y9 g9.1
      refine Ok.bind (fo _ _ g6.2.2 (by omega) (by omega)) (fun y10 g10 => ?_)
      rw [o1, o2, o4, o5, o6, o7, w64 (n := s4 + y9) (by omega) (by omega), w64 (n := s4 + y9 + y10.1) (by omega) (by omega)]
      exact k34_ok (by omega) g2 y3 hy3 y4 ⟨g4.1, g4.2.1⟩ _ _ _ _ _ _ _ _ _ (by omega) rfl (by omega) g10.2.2 i3 i4 (by omega)
    · exact k34_ok (by omega) g2 y3 hy3 y4 ⟨g4.1, g4.2.1⟩ _ _ _ _ _ _ _ _ _ (by omega) rfl (by omega) g6.2.2 i3 i4 (by omega)
end Go.Dw.De


set_option maxRecDepth 100000
set_option maxHeartbeats 4000000
namespace Go.Dw.De
open Go.Dw
theorem yp {α : Type} {l m : List α} {b : Nat} (h : (l.length + m.length) * b ≤ 140737488355328) : appO l m b = some (l ++ m) := by
  unfold appO
  rw [if_pos h]
namespace Sd
abbrev Src := ag
theorem eq_src (a b : Src) : ((a.aB == b.aB) && ((a.aA == b.aA) && ((a.aw == b.aw) && ((a.aC == b.aC) && true)))) = decide (a = b) := by
  obtain ⟨n, t, l, c⟩ := a
  obtain ⟨n', t', l', c'⟩ := b
  simp only [ag.mk.injEq]
  by_cases e1 : n = n' <;> by_cases e2 : t = t' <;> by_cases e3 : l = l' <;> by_cases e4 : c = c' <;> simp [e1, e2, e3, e4]
theorem cmp_str (a b : List UInt8) : cq a b = some (cmpB a b) := by
  unfold cq fr
  simp only [beq_self_eq_true, Bool.not_true, Option.bind_some, Bool.false_eq_true, if_false]
  unfold cmpB
  cases h : Op.bytesLess a b with
  | true => simp
  | false => by_cases e : a = b <;> simp [e]
theorem yD {l : List Int} {i j : Nat} (hj : j = i + 1) (hi : i < l.length) (hl : l.length < 1000) (h0 : l[i] = 0) : dT l i = some (.next (j : Int)) := by
  subst hj
  unfold dT
  rw [if_pos (by simp; omega), getO_at rfl hi]
  simp only [Option.bind_some, h0, w64 (n := (i : Int) + 1) (by omega) (by omega)]
  rfl
theorem yE {l : List Int} {i : Nat} (hi : i < l.length) (h0 : l[i] ≠ 0) : dT l i = some (.stop (.inr l[i])) := by
  unfold dT
  rw [if_pos (by simp; omega), getO_at rfl hi]
  simp only [Option.bind_some]
  rw [if_pos (by simpa using h0)]
theorem or_end {l : List Int} {n : Nat} (hn : n = l.length) : dT l n = some (.stop (.inl ())) := by
  subst hn
  unfold dT
  rw [if_neg (by simp)]
theorem or4 (a b c d : Int) : hF [a, b, c, d] = some (if a ≠ 0 then a else if b ≠ 0 then b else if c ≠ 0 then c else d) := by
  show ((loopO (dT [a, b, c, d]) ((0 : Nat) : Int)).bind _) = _
  by_cases ha : a = 0
  · rw [loopO_next (yD (i := 0) (j := 1) rfl (by simp) (by simp) (by simpa using ha)), if_neg (by simpa using ha)]
    by_cases hb : b = 0
    · rw [loopO_next (yD (i := 1) (j := 2) rfl (by simp) (by simp) (by simpa using hb)), if_neg (by simpa using hb)]
      by_cases hc : c = 0
      · rw [loopO_next (yD (i := 2) (j := 3) rfl (by simp) (by simp) (by simpa using hc)), if_neg (by simpa using hc)]
        by_cases hd : d = 0
        · rw [loopO_next (yD (i := 3) (j := 4) rfl (by simp) (by simp) (by simpa using hd)), loopO_stop (or_end (n := 4) rfl)]
          rw [hd]; rfl
        · rw [loopO_stop (yE (i := 3) (by simp) (by simpa using hd))]; rfl
      · rw [loopO_stop (yE (i := 2) (by simp) (by simpa using hc)), if_pos hc]; rfl
    · rw [loopO_stop (yE (i := 1) (by simp) (by simpa using hb)), if_pos hb]; rfl
  · rw [loopO_stop (yE (i := 0) (by simp) (by simpa using ha)), if_pos (by simpa using ha)]; rfl

def t7 (a b : Src) : Int := if cmpB a.aB b.aB ≠ 0 then cmpB a.aB b.aB else if cmpB a.aA b.aA ≠ 0 then cmpB a.aA b.aA else if cmpB a.aw b.aw ≠ 0 then cmpB a.aw b.aw else cmpB a.aC b.aC
theorem nj (a b : Src) : ci a b = some (t7 a b) := by
  unfold ci
  simp only [cmp_str, Option.bind_some, or4]
  rfl
theorem ur : Tot t7 := (cmpB_tot.map fun x : Src => x.aB).or ((cmpB_tot.map fun x : Src => x.aA).or ((cmpB_tot.map fun x : Src => x.aw).or (cmpB_tot.map fun x : Src => x.aC)))
theorem ut {a b : Src} (h : t7 a b = 0) : a = b := by
  unfold t7 at h
  obtain ⟨n, t, l, c⟩ := a
  obtain ⟨n', t', l', c'⟩ := b
  simp only at h
  by_cases h1 : cmpB n n' = 0
  · rw [if_neg (by simpa using h1)] at h
    by_cases h2 : cmpB t t' = 0
    · rw [if_neg (by simpa using h2)] at h
      by_cases h3 : cmpB l l' = 0
      · rw [if_neg (by simpa using h3)] at h
        rw [cmpB_zero] at h h1 h2 h3
        subst h h1 h2 h3; rfl
      · rw [if_pos h3] at h; exact (h3 h).elim
    · rw [if_pos h2] at h; exact (h2 h).elim
  · rw [if_pos h1] at h; exact (h1 h).elim
instance : DecidableEq Src := fun a b => decidable_of_iff (a.aB = b.aB ∧ a.aA = b.aA ∧ a.aw = b.aw ∧ a.aC = b.aC) (by
  obtain ⟨n, t, l, c⟩ := a
  obtain ⟨n', t', l', c'⟩ := b
  simp)
theorem eqs (a b : Src) : ((a.aB == b.aB) && ((a.aA == b.aA) && ((a.aw == b.aw) && ((a.aC == b.aC) && true)))) = decide (a = b) := by
  rw [eq_src]
  exact decide_eq_decide.2 Iff.rfl

theorem cmp_int (a b : Int) : bA a b = some (cmpI a b) := by
  unfold bA iZ cmpI
  simp only [bne_self_eq_false, Option.bind_some, Bool.false_eq_true, if_false]
  by_cases h1 : a < b
  · rw [if_pos (decide_eq_true h1), if_pos h1]
  · rw [if_neg (by simpa using h1), if_neg h1]
    by_cases h2 : a > b
    · rw [if_pos (decide_eq_true h2), if_pos h2]
    · rw [if_neg (by simpa using h2), if_neg h2]
theorem or_go {l : List Int} {n : Nat} {r : List Int} (hl : l.length < 1000) (hn : n ≤ l.length) (hr : l.drop n = r) : loopO (dT l) (n : Int) = some (match r.find? (fun x => decide (x ≠ 0)) with | some x => .inr x | none => .inl ()) := by
  induction r generalizing n with
  | nil =>
    have : n = l.length := by
      have := congrArg List.length hr
      simp at this; omega
    rw [loopO_stop (or_end this)]; rfl
  | cons a r ih =>
    have hlt : n < l.length := by
      have := congrArg List.length hr
      simp at this; omega
    have ha : l[n] = a := by
      rw [List.drop_eq_getElem_cons hlt] at hr
      exact (List.cons.inj hr).1
    have hr' : l.drop (n + 1) = r := by
      rw [List.drop_eq_getElem_cons hlt] at hr
      exact (List.cons.inj hr).2
    by_cases h0 : a = 0
    · rw [loopO_next (yD (i := n) (j := n + 1) rfl hlt hl (by rw [ha, h0])), ih (by omega) hr']
      simp [List.find?, h0]
    · rw [loopO_stop (yE hlt (by rw [ha]; exact h0)), ha]
      simp [List.find?, h0]
theorem or6 (a b c d e f : Int) : hF [a, b, c, d, e, f] = some (if a ≠ 0 then a else if b ≠ 0 then b else if c ≠ 0 then c else if d ≠ 0 then d else if e ≠ 0 then e else f) := by
  unfold hF
  have := or_go (l := [a, b, c, d, e, f]) (n := 0) (r := [a, b, c, d, e, f]) (by simp) (by simp) rfl
  rw [show ((0 : Int)) = ((0 : Nat) : Int) from rfl, this]
  by_cases ha : a = 0 <;> by_cases hb : b = 0 <;> by_cases hc : c = 0 <;> by_cases hd : d = 0 <;> by_cases he : e = 0 <;> by_cases hf : f = 0 <;> simp [List.find?, ha, hb, hc, hd, he, hf]
end Sd
open Sd (t7 ur ut)
def jK (a b : Pick) : Int := if t7 a.al b.al ≠ 0 then t7 a.al b.al else if cmpI a.aN b.aN ≠ 0 then cmpI a.aN b.aN else if cmpI a.aI b.aI ≠ 0 then cmpI a.aI b.aI else if cmpI a.aX b.aX ≠ 0 then cmpI a.aX b.aX else if cmpI a.aH b.aH ≠ 0 then cmpI a.aH b.aH else cmpI a.aJ b.aJ
theorem nj (a b : Pick) : bu a b = some (jK a b) := by
  unfold bu
  simp only [Sd.nj, Sd.cmp_int, Option.bind_some, Sd.or6]
  rfl
theorem gn : Tot jK := (ur.map fun x : Pick => x.al).or ((cmpI_tot.map fun x : Pick => x.aN).or ((cmpI_tot.map fun x : Pick => x.aI).or ((cmpI_tot.map fun x : Pick => x.aX).or ((cmpI_tot.map fun x : Pick => x.aH).or (cmpI_tot.map fun x : Pick => x.aJ)))))
theorem wy {a b : Int} (h : (if a ≠ 0 then a else b) = 0) : a = 0 ∧ b = 0 := by
  by_cases h1 : a = 0
  · rw [if_neg (by simpa using h1)] at h; exact ⟨h1, h⟩
  · rw [if_pos h1] at h; exact (h1 h).elim
theorem wX {a b : Pick} (h : jK a b = 0) : a = b := by
  unfold jK at h
  obtain ⟨h1, h⟩ := wy h
  obtain ⟨h2, h⟩ := wy h
  obtain ⟨h3, h⟩ := wy h
  obtain ⟨h4, h⟩ := wy h
  obtain ⟨h5, h6⟩ := wy h
  rw [cmpI_zero] at h2 h3 h4 h5 h6
  have := ut h1
  obtain ⟨a1, a2, a3, a4, a5, a6⟩ := a
  obtain ⟨b1, b2, b3, b4, b5, b6⟩ := b
  simp only at *
  subst this h2 h3 h4 h5 h6
  rfl
theorem lt3_eq : lt3 bu = fun x y => decide (jK x y < 0) := by
  funext x y
  unfold lt3
  rw [nj]; rfl
theorem Compare_ok : CmpOk bu := ⟨fun x y => ⟨_, nj x y⟩, by rw [lt3_eq]; exact gn.swo⟩
instance : DecidableEq Pick := fun a b => decidable_of_iff (a.al = b.al ∧ a.aN = b.aN ∧ a.aI = b.aI ∧ a.aX = b.aX ∧ a.aH = b.aH ∧ a.aJ = b.aJ) (by
  obtain ⟨a1, a2, a3, a4, a5, a6⟩ := a
  obtain ⟨b1, b2, b3, b4, b5, b6⟩ := b
  simp)
def eqF (a b : Pick) : Bool := ((a.al.aB == b.al.aB) && ((a.al.aA == b.al.aA) && ((a.al.aw == b.al.aw) && ((a.al.aC == b.al.aC) && true)))) && ((a.aN == b.aN) && ((a.aI == b.aI) && ((a.aX == b.aX) && ((a.aH == b.aH) && ((a.aJ == b.aJ) && true)))))
theorem eqs (a b : Pick) : eqF a b = decide (a = b) := by
  obtain ⟨a1, a2, a3, a4, a5, a6⟩ := a
  obtain ⟨b1, b2, b3, b4, b5, b6⟩ := b
  unfold eqF
  simp only [Sd.eqs, aa.mk.injEq]
  by_cases e1 : a1 = b1 <;> by_cases e2 : a2 = b2 <;> by_cases e3 : a3 = b3 <;> by_cases e4 : a4 = b4 <;> by_cases e5 : a5 = b5 <;> by_cases e6 : a6 = b6 <;> simp [e1, e2, e3, e4, e5, e6]
theorem sub_take {α σ ω : Type} (l : List α) (k : Int) : ((subO l.length 0 k).bind fun _ => some (Step1.stop (Sum.inr (l.take k.toNat)) : Step1 σ (ω ⊕ List α))) = ((subO l.length 0 k).bind fun _ => (partO l (0 + Int.toNat 0) (0 + k.toNat)).bind fun x => some (Step1.stop (Sum.inr x))) := by
  unfold subO
  split
  · rename_i h
    rw [Option.bind_some, Option.bind_some, partO_at (by omega) (by omega)]
    simp
  · rfl
theorem Compact_eq (l : List Pick) : cO l = compactG eqF ⟨⟨[], [], [], []⟩, 0, 0, 0, 0, 0⟩ l := by
  have h1 : gf = compactG_l31 eqF := by funext s d ⟨a, b, c⟩; rfl
  have h2 : eu = compactG_l38 eqF ⟨⟨[], [], [], []⟩, 0, 0, 0, 0, 0⟩ := by
    funext d s
    unfold eu compactG_l38
    rw [h1]
    simp only [sub_take]
    rfl
  unfold cO compactG
  rw [h2]
  refine ite_congr rfl (fun _ => rfl) fun _ => ?_
  refine congrArg _ (funext fun o => ?_)
  rcases o with _ | _ <;> rfl
theorem sort_at {l : List Pick} (hl : l.length ≤ 1000) : ∃ m, sortO bu l = some m ∧ m.Perm l ∧ m.Pairwise (fun x y => jK x y ≤ 0) := by
  have h2 := sortO_mergeSort Compare_ok (fun x y h h' => by
    rw [lt3_eq] at h h'
    simp only [decide_eq_false_iff_not] at h h'
    have := gn.anti x y
    exact wX (by omega)) l (by omega)
  generalize hm : (l.mergeSort fun x y => !lt3 bu y x) = m at h2
  refine ⟨m, h2, sortO_perm h2, ?_⟩
  rw [← hm]
  refine (List.pairwise_mergeSort ?_ ?_ l).imp ?_
  · intro a b c h h'
    rw [lt3_eq] at *
    simp only [Bool.not_eq_true', decide_eq_false_iff_not] at *
    have := gn.tr a b c (by have := gn.anti a b; omega) (by have := gn.anti b c; omega)
    have := gn.anti a c; omega
  · intro a b
    rw [lt3_eq]
    have := gn.anti a b
    by_cases h : jK b a < 0
    · have : ¬ jK a b < 0 := by omega
      simp [this]
    · simp [h]
  · intro a b h
    rw [lt3_eq] at h
    simp only [Bool.not_eq_true', decide_eq_false_iff_not] at h
    have := gn.anti a b; omega
theorem Sort_eq {l : List Pick} (hl : l.length ≤ 1000) :
    ∃ r, iS l = some r ∧ r.Pairwise (fun x y => jK x y < 0) ∧ (∀ x, x ∈ r ↔ x ∈ l) ∧ r.length ≤ l.length := by
  have h1 : cloneO 104 l = some l := by
    unfold cloneO
    rw [if_pos (by omega)]
  obtain ⟨m, h2, hp, hs⟩ := sort_at hl
  have hml : m.length = l.length := hp.length_eq
  have h3 : cO m = some (cpt m) := by
    rw [Compact_eq]
    exact compact_at (fun x y => eqs x y) (by omega)
  refine ⟨cpt m, ?_, cpt_pairwise gn (fun x y => wX) hs, fun x => cpt_mem.trans hp.mem_iff, by have := cpt_length m; omega⟩
  unfold iS
  rw [h1, Option.bind_some, h2, Option.bind_some, h3]; rfl
end Go.Dw.De


set_option maxRecDepth 100000
set_option maxHeartbeats 4000000
namespace Go.Dw.De
open Go.Dw

theorem get1 {α : Type} (A : List α) (y : α) (T : List α) {n : Int} (hn : n = A.length) : getO (A ++ y :: T) n = some y := by
  rw [getO_at (i := A.length) hn (by simp)]
  simp
theorem get2 {α : Type} (A : List α) (y x : α) (T : List α) {n : Int} (hn : n = A.length + 1) : getO (A ++ y :: x :: T) n = some x := by
  have := get1 (A ++ [y]) x T (n := n) (by simp; omega)
  simpa using this
theorem set1 {α : Type} (A : List α) (y z : α) (T : List α) {n : Int} (hn : n = A.length) : setO (A ++ y :: T) n z = some (A ++ z :: T) := by
  rw [setO_at (i := A.length) hn (by simp)]
  simp
theorem set2 {α : Type} (A : List α) (y x z : α) (T : List α) {n : Int} (hn : n = A.length + 1) : setO (A ++ y :: x :: T) n z = some (A ++ y :: z :: T) := by
  have := set1 (A ++ [y]) x z T (n := n) (by simp; omega)
  simpa using this

def le1 (x y : Pick) : Prop := x.aI ≤ y.aI
theorem lit1_eq (a b : Pick) : bS a b = some (cmpI a.aI b.aI) := by
  unfold bS
  rw [Sd.cmp_int]; rfl
theorem cmpI_neg {a b : Int} : cmpI a b < 0 ↔ a < b := by
  unfold cmpI
  by_cases h1 : a < b
  · simp [h1]
  · by_cases h2 : a > b <;> simp [h1, h2]
theorem inner_ok (i : Nat) (L C : List Pick) (x : Pick) (hL : L.Pairwise le1) (hl : L.length ≤ 1000) :
    Ok (loopO (bI 0 (i : Int)) ((L.length : Int), L ++ x :: C)) (fun o => o.1 = i ∧ ∃ D, o.2 = D ++ C ∧ D.Perm (x :: L) ∧ D.Pairwise le1) := by
  refine Ok.loop (fun s => ∃ A B : List Pick, s = ((A.length : Int), A ++ x :: (B ++ C)) ∧ A ++ B = L ∧ ∀ b ∈ B, le1 x b) (fun s => s.1.toNat) ?_ ⟨L, [], by simp, by simp, by simp⟩
  rintro s ⟨A, B, rfl, hAB, hB⟩
  have hAl : A.length ≤ 1000 := by have := congrArg List.length hAB; simp at this; omega
  have hdone : (∀ a ∈ A, le1 a x) → Ok (some (Step1.stop ((i : Int), A ++ x :: (B ++ C)))) (Ok.S (fun s => ∃ A B : List Pick, s = ((A.length : Int), A ++ x :: (B ++ C)) ∧ A ++ B = L ∧ ∀ b ∈ B, le1 x b) (fun s => s.1.toNat) (fun o : Int × List Pick => o.1 = i ∧ ∃ D, o.2 = D ++ C ∧ D.Perm (x :: L) ∧ D.Pairwise le1) ((A.length : Int), A ++ x :: (B ++ C))) := by
    intro hA
    refine Ok.st ⟨rfl, A ++ x :: B, by simp, ?_, ?_⟩
    · rw [← hAB]; exact List.perm_middle
    · rw [← hAB] at hL
      obtain ⟨p1, p2, p3⟩ := List.pairwise_append.1 hL
      refine List.pairwise_append.2 ⟨p1, List.pairwise_cons.2 ⟨hB, p2⟩, fun a ha b hb => ?_⟩
      rcases List.mem_cons.1 hb with rfl | hb
      · exact hA a ha
      · exact p3 a ha b hb
  unfold bI
  dsimp only
  refine Ok.iteD (fun hgt => ?_) (fun hle => ?_)
  rotate_left
  · have : A = [] := List.eq_nil_of_length_eq_zero (by omega)
    subst this
    exact hdone (by simp)
  rcases List.eq_nil_or_concat A with rfl | ⟨A', y, rfl⟩
  · simp at hgt
  simp only [List.length_append, List.length_cons, List.length_nil, List.append_assoc, List.cons_append, List.nil_append, List.concat_eq_append] at hAl hgt hdone ⊢
  have hw : IntKind.wrap .i64 (((A'.length + (0 + 1) : Nat) : Int) - 1) = (A'.length : Int) := by rw [w64 (by omega) (by omega)]; omega
  rw [hw]
  have hin : inO (A' ++ y :: x :: (B ++ C)) ((A'.length + (0 + 1) : Nat) : Int) = some () := inO_at (by omega) (by simp; omega)
  have hin2 : ∀ z, inO (A' ++ y :: z :: (B ++ C)) (A'.length : Int) = some () := fun z => inO_at (by omega) (by simp; omega)
  rw [hin, Option.bind_some, get2 A' y x (B ++ C) (by omega), Option.bind_some, hin2, Option.bind_some, get1 A' y _ rfl, Option.bind_some, lit1_eq, Option.bind_some]
  refine Ok.iteD (fun hlt => ?_) (fun hge => ?_)
  · rw [Option.bind_some, Option.bind_some, Option.bind_some, Option.bind_some, Option.bind_some, set2 A' y x y (B ++ C) (by omega), Option.bind_some, hin2, Option.bind_some, set1 A' y x _ rfl, Option.bind_some]
    rw [cmpI_neg] at hlt
    refine Ok.nx ⟨A', y :: B, rfl, by simpa using hAB, fun b hb => ?_⟩ (by simp only; omega)
    rcases List.mem_cons.1 hb with rfl | hb
    · exact Int.le_of_lt hlt
    · exact hB b hb
  · refine hdone fun a ha => ?_
    rw [cmpI_neg] at hge
    have hy : le1 y x := Int.not_lt.1 hge
    rw [List.mem_append, List.mem_singleton] at ha
    rcases ha with ha | rfl
    · have : (A' ++ (y :: B)).Pairwise le1 := by
        have := hL
        rw [← hAB] at this
        simpa using this
      have := (List.pairwise_append.1 this).2.2 a ha y (by simp)
      exact Int.le_trans this hy
    · exact hy
theorem yy (d : List Pick) (hd : d.length ≤ 1000) : Ok (ba 0 (d.length : Int) d) (fun r => r.Perm d ∧ r.Pairwise le1) := by
  unfold ba
  rw [w64 (n := 0 + 1) (by omega) (by omega)]
  refine Ok.bind (P := fun r => r.Perm d ∧ r.Pairwise le1) (Ok.loop (fun s => ∃ (D C : List Pick), s = (((if d = [] then 1 else D.length : Nat) : Int), D ++ C) ∧ (D ++ C).Perm d ∧ D.Pairwise le1 ∧ (d ≠ [] → 1 ≤ D.length)) (fun s => ((d.length : Int) - s.1).toNat) ?_ ?_) (fun o ho => Ok.ret ho)
  · rintro s ⟨D, C, rfl, hp, hs, h1⟩
    unfold bv
    dsimp only
    have hpl : D.length + C.length = d.length := by have := hp.length_eq; simpa using this
    refine Ok.iteD (fun hlt => ?_) (fun hge => ?_)
    · have hne : d ≠ [] := fun e => by subst e; simp at hlt
      rw [if_neg hne] at hlt ⊢
      rcases C with _ | ⟨x, C⟩
      · simp at hpl; omega
      refine Ok.bind (inner_ok D.length D C x hs (by omega)) (fun o ho => ?_)
      obtain ⟨o1, D', o2, o3, o4⟩ := ho
      rw [o1, o2, w64 (by omega) (by omega)]
      have hl' : D'.length = D.length + 1 := by have := o3.length_eq; simpa using this
      refine Ok.nx ⟨D', C, ?_, ?_, o4, fun _ => by omega⟩ (by simp only; omega)
      · rw [if_neg hne, hl']; simp
      · exact ((o3.append_right C).trans (by simpa using List.perm_middle.symm)).trans hp
    · rw [Option.bind_some]
      refine Ok.st ⟨hp, ?_⟩
      by_cases hne : d = []
      · subst hne
        have := hp.length_eq
        have : D ++ C = [] := List.eq_nil_of_length_eq_zero (by simpa using this)
        rw [this]; exact .nil
      · rw [if_neg hne] at hge
        have : C = [] := List.eq_nil_of_length_eq_zero (by omega)
        subst this
        simpa using hs
  · by_cases hne : d = []
    · subst hne
      exact ⟨[], [], by simp, .refl _, .nil, fun h => (h rfl).elim⟩
    · refine ⟨d.take 1, d.drop 1, ?_, by rw [List.take_append_drop], ?_, fun _ => ?_⟩
      · rw [if_neg hne, List.take_append_drop]
        have := List.length_pos_iff.2 hne
        simp; omega
      · rcases d with _ | ⟨a, d⟩
        · exact (hne rfl).elim
        · simp
      · have := List.length_pos_iff.2 hne
        simp; omega
theorem insertion_end (n : Nat) (hn : n ≤ 1000) (d : List Pick) : ba (n : Int) (n : Int) d = some d := by
  unfold ba
  rw [w64 (by omega) (by omega)]
  have : bv (n : Int) (n : Int) ((n : Int) + 1, d) = some (.stop d) := by
    unfold bv
    dsimp only
    rw [if_neg (by simp; omega)]; rfl
  rw [loopO_stop this]; rfl
theorem stable_ok (d : List Pick) (hd : d.length ≤ 20) : Ok (bJ d) (fun r => r.Perm d ∧ r.Pairwise le1) := by
  unfold bJ
  refine Ok.bind (P := fun r => r.Perm d ∧ r.Pairwise le1) ?_ (fun o ho => Ok.ret ho)
  unfold cw
  have hend : ∀ r : List Pick, loopO (cf (d.length : Int)) ((20 : Int), r) = some r := fun r => by
    refine loopO_stop ?_
    unfold cf
    dsimp only
    rw [if_neg (by simp; omega)]; rfl
  by_cases h20 : d.length = 20
  · have e1 : bp (d.length : Int) ((0 : Int), (20 : Int), d) = (ba 0 (d.length : Int) d).bind fun x8 => some (.next ((20 : Int), (40 : Int), x8)) := by
      unfold bp
      dsimp only
      rw [if_pos (by simp; omega), w64 (by omega) (by omega)]
      rw [h20]; rfl
    obtain ⟨r, e2, hr⟩ := yy d (by omega)
    rw [e2, Option.bind_some] at e1
    have e3 : bp (d.length : Int) ((20 : Int), (40 : Int), r) = some (.stop ((20 : Int), r)) := by
      unfold bp
      dsimp only
      rw [if_neg (by simp; omega)]
    rw [loopO_next e1, loopO_stop e3, Option.bind_some]
    dsimp only
    have e4 := insertion_end 20 (by omega) r
    rw [h20] at hend ⊢
    rw [show ((20 : Nat) : Int) = 20 from rfl] at e4 hend ⊢
    rw [e4, Option.bind_some, hend]
    exact Ok.ret hr
  · have e3 : bp (d.length : Int) ((0 : Int), (20 : Int), d) = some (.stop ((0 : Int), d)) := by
      unfold bp
      dsimp only
      rw [if_neg (by simp; omega)]
    rw [loopO_stop e3, Option.bind_some]
    dsimp only
    refine Ok.bind (yy d (by omega)) (fun r hr => ?_)
    rw [hend]
    exact Ok.ret hr

theorem lastO_snoc {α : Type} (O : List α) (g : α) : lastO (O ++ [g]) = some g := by
  unfold lastO
  simp
theorem tail_eq (O : List (List Pick)) (g : List Pick) (p : Pick) (i : Int) (hO : O.length ≤ 1000) (hg : g.length ≤ 1000) :
    ((lastO (O ++ [g])).bind fun x13 => (inO (O ++ [g]) (IntKind.wrap .i64 (((O ++ [g]).length : Int) - (1 : Int)))).bind fun x14 => (atO (IntKind.wrap .i64 (((O ++ [g]).length : Int) - (1 : Int))) ((O ++ [g]).length - 1)).bind fun x15 => (appO x13 [p] 104).bind fun x16 => (inO (O ++ [g]) (IntKind.wrap .i64 (((O ++ [g]).length : Int) - (1 : Int)))).bind fun x17 => (stO (O ++ [g]).length (IntKind.wrap .i64 (((O ++ [g]).length : Int) - (1 : Int))) ((O ++ [g]).length - 1)).bind fun x18 => some (Step1.next (IntKind.wrap .i64 (i + (1 : Int)), (O ++ [g]).set ((O ++ [g]).length - 1) x16) : Step1 (Int × List (List Pick)) (List (List Pick))))
      = some (.next (IntKind.wrap .i64 (i + 1), O ++ [g ++ [p]])) := by
  have hl : (O ++ [g]).length = O.length + 1 := by simp
  have hw : IntKind.wrap .i64 (((O ++ [g]).length : Int) - 1) = (O.length : Int) := by rw [hl, w64 (by omega) (by omega)]; omega
  rw [hw, lastO_snoc, Option.bind_some, inO_at (by omega) (by rw [hl]; omega), Option.bind_some, hl]
  have ha : atO (O.length : Int) (O.length + 1 - 1) = some () := by unfold atO; rw [if_pos (by simp)]
  have hs : stO (O.length + 1) (O.length : Int) (O.length + 1 - 1) = some () := by unfold stO; rw [if_pos (by simp)]
  rw [ha, Option.bind_some, yp (by simp only [List.length_cons, List.length_nil]; omega), Option.bind_some, Option.bind_some, hs, Option.bind_some]
  simp
def Gap (far : Int) (g h : List Pick) : Prop := ∀ b ∈ g, ∀ a ∈ h, far < a.aI - b.aI
structure BI (far : Int) (all : List Pick) (i : Nat) (out : List (List Pick)) : Prop where
  flat : out.flatten = all.take i
  ne : ∀ g ∈ out, g ≠ []
  gap : out.Pairwise (Gap far)
  pos : 0 < i → out ≠ []
theorem len_le {out : List (List Pick)} (h : ∀ g ∈ out, g ≠ []) : out.length ≤ out.flatten.length := by
  induction out with
  | nil => simp
  | cons g out ih =>
    have := List.length_pos_iff.2 (h g (by simp))
    have := ih fun g hg => h g (by simp [hg])
    rw [List.flatten_cons, List.length_append, List.length_cons]; omega
theorem l36_ok (far : Int) (all : List Pick) (hl : all.length ≤ 1000) (hs : all.Pairwise le1) (hr : ∀ p ∈ all, 0 ≤ p.aI ∧ p.aI ≤ 18014398509481984) :
    Ok (loopO (dj all far) ((0 : Int), [])) (BI far all all.length) := by
  refine Ok.loop (fun s => ∃ i : Nat, s.1 = i ∧ i ≤ all.length ∧ BI far all i s.2) (fun s => ((all.length : Int) - s.1).toNat) ?_ ⟨0, rfl, Nat.zero_le _, ⟨by simp, by simp, .nil, fun h => by omega⟩⟩
  rintro ⟨s3, out⟩ ⟨i, rfl, hi, hB⟩
  unfold dj
  dsimp only
  refine Ok.iteD (fun hlt => ?_) (fun hge => ?_)
  rotate_left
  · have : i = all.length := by omega
    subst this
    exact Ok.st hB
  have hlt : i < all.length := by omega
  have hol : out.length ≤ 1000 := by have := len_le hB.ne; rw [hB.flat] at this; simp at this; omega
  have hgl : ∀ g ∈ out, g.length ≤ 1000 := fun g hg => by
    have h1 := (List.sublist_flatten_of_mem hg).length_le
    rw [hB.flat] at h1; simp at h1; omega
  have htake : all.take (i + 1) = all.take i ++ [all[i]] := take_succ_at hlt
  have hmem : ∀ g ∈ out, ∀ b ∈ g, ∃ j, ∃ h : j < i, all[j]'(by omega) = b := fun g hg b hb => by
    have : b ∈ all.take i := by rw [← hB.flat]; exact List.mem_flatten.2 ⟨g, hg, hb⟩
    obtain ⟨j, hj, e⟩ := List.getElem_of_mem this
    simp only [List.length_take] at hj
    rw [List.getElem_take] at e
    exact ⟨j, by omega, e⟩
  have hord : ∀ {j k : Nat} (hk : k < all.length) (hjk : j ≤ k), (all[j]'(by omega)).aI ≤ all[k].aI := fun {j k} hk hjk => by
    by_cases e : j = k
    · subst e; exact Int.le_refl _
    · exact List.pairwise_iff_getElem.1 hs j k (by omega) hk (by omega)
  have hnew : (0 < i → ∃ h : i - 1 < all.length, far < all[i].aI - (all[i - 1]'h).aI) → BI far all (i + 1) (out ++ [[all[i]]]) := fun hg => by
    refine ⟨by rw [List.flatten_append, hB.flat, htake]; simp, fun g hg' => ?_, List.pairwise_append.2 ⟨hB.gap, List.pairwise_singleton _ _, fun g hg' h hh => ?_⟩, fun _ => by simp⟩
    · rcases List.mem_append.1 hg' with hg' | hg'
      · exact hB.ne g hg'
      · rw [List.mem_singleton] at hg'; subst hg'; simp
    · rw [List.mem_singleton] at hh
      subst hh
      intro b hb a ha
      rw [List.mem_singleton] at ha
      subst ha
      obtain ⟨j, hj, rfl⟩ := hmem g hg' b hb
      obtain ⟨h1, h2⟩ := hg (by omega)
      have := hord (j := j) (k := i - 1) h1 (by omega)
      omega
  rw [inO_at (by omega) (by omega), Option.bind_some, getO_at (i := i) rfl hlt, Option.bind_some]
  have happ : appO out [[]] 24 = some (out ++ [[]]) := yp (by simp only [List.length_cons, List.length_nil]; omega)
  refine Ok.iteE (fun h0 => ?_) (fun h0 => ?_)
  · have h0 : i = 0 := by omega
    rw [happ, Option.bind_some, tail_eq out [] all[i] i hol (by simp), w64 (by omega) (by omega)]
    refine Ok.nx ⟨i + 1, by simp, by omega, ?_⟩ (by simp only; omega)
    simpa using hnew fun h => by omega
  · have h0 : 0 < i := by omega
    have hi1 : i - 1 < all.length := by omega
    rw [w64 (n := (i : Int) - 1) (by omega) (by omega), inO_at (by omega) (by omega), Option.bind_some, getO_at (i := i - 1) (by omega) hi1, Option.bind_some]
    have r1 := hr _ (List.getElem_mem hlt)
    have r2 := hr _ (List.getElem_mem hi1)
    rw [w64 (n := all[i].aI - (all[i - 1]'hi1).aI) (by omega) (by omega)]
    refine Ok.iteD (fun hfar => ?_) (fun hnear => ?_)
    · rw [happ, Option.bind_some, tail_eq out [] all[i] i hol (by simp), w64 (by omega) (by omega)]
      refine Ok.nx ⟨i + 1, by simp, by omega, ?_⟩ (by simp only; omega)
      simpa using hnew fun _ => ⟨hi1, by omega⟩
    · rcases List.eq_nil_or_concat out with rfl | ⟨O, g, rfl⟩
      · exact (hB.pos h0 rfl).elim
      rw [List.concat_eq_append] at hB hol hgl hmem ⊢
      have hgne := hB.ne g (by simp)
      rw [tail_eq O g all[i] i (by simp at hol; omega) (hgl g (by simp)), w64 (by omega) (by omega)]
      refine Ok.nx ⟨i + 1, by simp, by omega, ?_⟩ (by simp only; omega)
      obtain ⟨p1, p2, p3⟩ := List.pairwise_append.1 hB.gap
      refine ⟨?_, fun g' hg' => ?_, List.pairwise_append.2 ⟨p1, List.pairwise_singleton _ _, fun u hu h hh => ?_⟩, fun _ => by simp⟩
      · have := hB.flat
        simp only [List.flatten_append, List.flatten_cons, List.flatten_nil, List.append_nil] at this ⊢
        rw [htake, ← this, List.append_assoc]
      · rcases List.mem_append.1 hg' with hg' | hg'
        · exact hB.ne g' (by simp [hg'])
        · rw [List.mem_singleton] at hg'; subst hg'; simp
      · rw [List.mem_singleton] at hh
        subst hh
        intro b hb a ha
        rcases List.mem_append.1 ha with ha | ha
        · exact p3 u hu g (by simp) b hb a ha
        · rw [List.mem_singleton] at ha
          subst ha
          rcases g with _ | ⟨c, g⟩
          · exact (hgne rfl).elim
          have h1 := p3 u hu (c :: g) (by simp) b hb c (by simp)
          obtain ⟨j, hj, e⟩ := hmem (c :: g) (by simp) c (by simp)
          have := hord (j := j) (k := i) hlt (by omega)
          rw [e] at this
          omega
theorem l47_ok (out : List (List Pick)) (hl : out.length ≤ 1000) (hg : ∀ g ∈ out, g.length ≤ 1000) :
    Ok (loopO (cG out) ((0 : Int), out)) (fun x => x.length = out.length ∧ ∀ (j : Nat) (h : j < x.length) (h' : j < out.length), x[j].Perm out[j] ∧ x[j].Pairwise (fun a b => jK a b ≤ 0)) := by
  refine Ok.loop (fun s => ∃ i : Nat, s.1 = i ∧ i ≤ out.length ∧ s.2.length = out.length ∧ ∀ (j : Nat) (h : j < s.2.length) (h' : j < out.length), s.2[j].Perm out[j] ∧ (j < i → s.2[j].Pairwise (fun a b => jK a b ≤ 0))) (fun s => ((out.length : Int) - s.1).toNat) ?_ ⟨0, rfl, Nat.zero_le _, rfl, fun j h h' => ⟨.refl _, fun h => by omega⟩⟩
  rintro ⟨s1, cur⟩ ⟨i, rfl, hi, hlen, hc⟩
  unfold cG
  dsimp only at hlen hc ⊢
  refine Ok.iteD (fun hlt => ?_) (fun hge => ?_)
  rotate_left
  · exact Ok.st ⟨hlen, fun j h h' => ⟨(hc j h h').1, (hc j h h').2 (by omega)⟩⟩
  have hlt : i < out.length := by omega
  have hic : i < cur.length := by omega
  have hat : atO (i : Int) (Int.toNat (i : Int)) = some () := by unfold atO; rw [if_pos rfl]
  obtain ⟨hp, -⟩ := hc i hic hlt
  have hcl : cur[i].length ≤ 1000 := by rw [hp.length_eq]; exact hg _ (List.getElem_mem hlt)
  obtain ⟨m, e1, e2, e3⟩ := sort_at hcl
  rw [getO_at (i := i) rfl hic, Option.bind_some, inO_at (by omega) (by omega), Option.bind_some, hat, Option.bind_some, e1, Option.bind_some, w64 (by omega) (by omega)]
  refine Ok.nx ⟨i + 1, by simp, by omega, by simpa using hlen, fun j h h' => ?_⟩ (by simp only; omega)
  simp only [Int.toNat_natCast, List.length_set] at h ⊢
  rw [List.getElem_set]
  by_cases hij : i = j
  · subst hij
    rw [if_pos rfl]
    exact ⟨e2.trans hp, fun _ => e3⟩
  · rw [if_neg hij]
    exact ⟨(hc j h h').1, fun hj => (hc j h h').2 (by omega)⟩
theorem yx : ∀ {x y : List (List Pick)}, x.length = y.length → (∀ (j : Nat) (h : j < x.length) (h' : j < y.length), x[j].Perm y[j]) → x.flatten.Perm y.flatten
  | [], [], _, _ => .refl _
  | [], _ :: _, h, _ => by simp at h
  | _ :: _, [], h, _ => by simp at h
  | g :: x, k :: y, h, hp => by
    have h0 := hp 0 (by simp) (by simp)
    have := yx (x := x) (y := y) (by simpa using h) fun j h1 h2 => hp (j + 1) (by simp; omega) (by simp; omega)
    simpa using h0.append this
structure wU (far : Int) (l : List Pick) (x : List (List Pick)) : Prop where
  flat : ∃ s : List Pick, iS l = some s ∧ s.length ≤ l.length ∧ s.Pairwise (fun a b => jK a b < 0) ∧ (∀ p, p ∈ s ↔ p ∈ l) ∧ x.flatten.Perm s
  ne : ∀ g ∈ x, g ≠ []
  gap : x.Pairwise (Gap far)
  sorted : ∀ g ∈ x, g.Pairwise (fun a b => jK a b < 0)
theorem xJ (far : Int) (l : List Pick) (hl : l.length ≤ 20) (hr : ∀ p ∈ l, nk p) : Ok (ct far l) (wU far l) := by
  unfold ct
  obtain ⟨s, e1, e2, e3, e4⟩ := Sort_eq (l := l) (by omega)
  rw [e1, Option.bind_some]
  refine Ok.bind (stable_ok s (by omega)) (fun all ha => ?_)
  have hal : all.length = s.length := ha.1.length_eq
  refine Ok.bind (l36_ok far all (by omega) ha.2 fun p hp => ?_) (fun out hB => ?_)
  · have := hr p ((e3 p).1 (ha.1.mem_iff.1 hp))
    exact ⟨this.2.1, by have := this.2.2; omega⟩
  have hflat : out.flatten = all := by rw [hB.flat]; simp
  have hol : out.length ≤ 1000 := by have := len_le hB.ne; rw [hflat] at this; omega
  refine Ok.bind (l47_ok out hol fun g hg => ?_) (fun x hx => ?_)
  · have h1 := (List.sublist_flatten_of_mem hg).length_le
    rw [hflat] at h1; omega
  obtain ⟨hxl, hxp⟩ := hx
  have hperm : x.flatten.Perm s := (yx hxl fun j h h' => (hxp j h h').1).trans (by rw [hflat]; exact ha.1)
  have hnd : s.Nodup := e2.imp fun {a b} h e => by
    subst e
    have := gn.refl a
    omega
  refine Ok.ret ⟨⟨s, e1, by omega, e2, e3, hperm⟩, fun g hg => ?_, ?_, fun g hg => ?_⟩
  · obtain ⟨j, hj, rfl⟩ := List.getElem_of_mem hg
    have h1 := (hxp j hj (by omega)).1
    intro e
    rw [e] at h1
    exact hB.ne _ (List.getElem_mem (by omega)) h1.nil_eq.symm
  · rw [List.pairwise_iff_getElem]
    intro j k hj hk hjk b hb a ha'
    have h1 := List.pairwise_iff_getElem.1 hB.gap j k (by omega) (by omega) hjk
    exact h1 b ((hxp j hj (by omega)).1.mem_iff.1 hb) a ((hxp k hk (by omega)).1.mem_iff.1 ha')
  · obtain ⟨j, hj, rfl⟩ := List.getElem_of_mem hg
    have h1 := (hxp j hj (by omega)).2
    have hn : x[j].Nodup := (hperm.nodup_iff.2 hnd).sublist (List.sublist_flatten_of_mem (List.getElem_mem hj))
    refine (h1.and hn).imp fun {a b} h => ?_
    obtain ⟨h2, h3⟩ := h
    rcases Int.lt_or_eq_of_le h2 with h4 | h4
    · exact h4
    · exact (h3 (wX h4)).elim
end Go.Dw.De




set_option maxRecDepth 100000
set_option maxHeartbeats 4000000
namespace Go.Dw.De
open Go.Dw Go.Proofs

theorem sid_len {x : Sid} (h : So.wT x = true) : So.SidLen x := by
  obtain ⟨h1, h2, h3, h4⟩ := So.valid_len h
  exact ⟨by omega, by omega, by omega, by omega⟩
theorem valid_pick {p : Pick} (h : nk p) : et p = some true := by
  obtain ⟨h0, h1, h2, h3, h4, h5, h6, h7, h8⟩ := h
  unfold et
  rw [So.Valid_eq (sid_len h0), h0, Option.bind_some, if_pos rfl, if_pos (by simpa using h1), if_pos (by simpa using h2), if_pos (by simpa using h3), if_pos (by simpa using h4)]
  have e1 : lR p.aH 0 1073741823 = some true := by unfold lR; rw [if_pos (by simpa using h5)]; simpa using h6
  have e2 : lR p.aJ (-1) 1 = some true := by unfold lR; rw [if_pos (by simpa using h7)]; simpa using h8
  rw [e1, Option.bind_some, if_pos rfl, e2]; rfl
theorem w6 {l : List Pick} (hl : l.length ≤ 1000) (h : ∀ p ∈ l, nk p) : dl l = some true := by
  unfold dl cB da
  have : Ok (loopO (cC l) (0 : Int)) (fun o => o = .inl ()) := by
    refine Ok.upto l.length (by omega) (fun _ => True) trivial (fun i h0 h1 _ => ?_)
    unfold cC
    refine Ok.iteD (fun hlt => ?_) (fun _ => Ok.st rfl)
    refine Ok.bind (Ok.get (by omega) (by omega)) (fun p hp => ?_)
    unfold fm
    rw [valid_pick (h p hp.1), Option.bind_some, Option.bind_some, if_neg (by simp), w64 (by omega) (by omega)]
    exact Ok.nx ⟨⟨by omega, by omega⟩, trivial⟩ (by omega)
  rw [this.eq]; rfl
theorem Batches_ok (n : Int) (h0 : 0 ≤ n) (h1 : n ≤ 1099511627776) (l : List Pick) (hl : l.length ≤ 20) (hr : ∀ p ∈ l, nk p) : Ok (bW n l) (fun r => r.2 = 0 ∧ wU n l r.1) := by
  unfold bW
  refine Ok.iteD (fun _ => by omega) (fun _ => Ok.iteD (fun _ => by omega) (fun _ => ?_))
  rw [w6 (by omega) hr, Option.bind_some, if_neg (by simp)]
  exact Ok.bind (xJ n l hl hr) fun x hx => Ok.ret ⟨rfl, hx⟩

def P (t : Int) : Pick := ⟨⟨[65, 66], [83, 49], [48, 48], [66, 72, 90]⟩, t, t, t, 0, 0⟩
def S1 : Sid := ⟨[65, 66], [83, 49], [48, 48], [66, 72, 90]⟩
theorem pick_at (t : Int) : fw t = some (P t) := by
  have : eZ (0 : Int) = some S1 := by kernel_rfl
  unfold fw
  rw [this]; rfl
theorem sortP {a : Pick} {l r : List Pick} (hl : (a :: l).length < 4611686018427387904)
    (h : (haveI : Inhabited Pick := ⟨a⟩; (Sort.pdq (fun x y => decide (jK x y < 0)) (a :: l).toArray 0 (a :: l).length (Lib.bitLen (a :: l).length) true true).toList) = r) : sortO bu (a :: l) = some r := by
  rw [sortO_cons, if_pos ⟨Compare_ok, hl⟩, lt3_eq, ← h]
theorem lt3S : lt3 ci = fun x y => decide (Sd.t7 x y < 0) := by
  funext x y
  unfold lt3
  rw [Sd.nj]; rfl
theorem sortS {a : Sid} {l r : List Sid} (hl : (a :: l).length < 4611686018427387904)
    (h : (haveI : Inhabited Sid := ⟨a⟩; (Sort.pdq (fun x y => decide (Sd.t7 x y < 0)) (a :: l).toArray 0 (a :: l).length (Lib.bitLen (a :: l).length) true true).toList) = r) : sortO ci (a :: l) = some r := by
  rw [sortO_cons, if_pos ⟨⟨fun x y => ⟨_, Sd.nj x y⟩, by rw [lt3S]; exact Sd.ur.swo⟩, hl⟩, lt3S, ← h]
theorem lit2_eq (a b : aj) : cd a b = some (cmpI a.aL b.aL) := by
  unfold cd
  rw [Sd.cmp_int]; rfl
theorem lt3N : lt3 cd = fun x y => decide (cmpI x.aL y.aL < 0) := by
  funext x y
  unfold lt3
  rw [lit2_eq]; rfl
theorem sortN {a : aj} {l r : List aj} (hl : (a :: l).length < 4611686018427387904)
    (h : (haveI : Inhabited aj := ⟨a⟩; (Sort.pdq (fun x y => decide (cmpI x.aL y.aL < 0)) (a :: l).toArray 0 (a :: l).length (Lib.bitLen (a :: l).length) true true).toList) = r) : sortO cd (a :: l) = some r := by
  rw [sortO_cons, if_pos ⟨⟨fun x y => ⟨_, lit2_eq x y⟩, by rw [lt3N]; exact (cmpI_tot.map fun x : aj => x.aL).swo⟩, hl⟩, lt3N, ← h]
theorem awake_batches : bW 10 [P 16, P 0, P 40, P 8] = some ([[P 0, P 8, P 16], [P 40]], 0) := by
  have e0 : dl [P 16, P 0, P 40, P 8] = some true := xe _ _ (by kernel_rfl)
  have e1 : sortO bu [P 16, P 0, P 40, P 8] = some [P 0, P 8, P 16, P 40] := sortP (by simp) (by kernel_rfl)
  have e2 : iS [P 16, P 0, P 40, P 8] = some [P 0, P 8, P 16, P 40] := by
    unfold iS
    have c1 : cloneO 104 [P 16, P 0, P 40, P 8] = some [P 16, P 0, P 40, P 8] := by kernel_rfl
    have c2 : cO [P 0, P 8, P 16, P 40] = some [P 0, P 8, P 16, P 40] := vF _ _ (by kernel_rfl)
    rw [c1, Option.bind_some, e1, Option.bind_some, c2]; rfl
  have e3 : bJ [P 0, P 8, P 16, P 40] = some [P 0, P 8, P 16, P 40] := nH _ _ (by kernel_rfl)
  have e4 : loopO (dj [P 0, P 8, P 16, P 40] 10) ((0 : Int), []) = some [[P 0, P 8, P 16], [P 40]] := (Le.loop (fun s => tz _ _ s) bd _) _ (by kernel_rfl)
  have s1 : sortO bu [P 0, P 8, P 16] = some [P 0, P 8, P 16] := sortP (by simp) (by kernel_rfl)
  have s2 : sortO bu [P 40] = some [P 40] := sortP (by simp) (by kernel_rfl)
  have e5 : loopO (cG [[P 0, P 8, P 16], [P 40]]) ((0 : Int), [[P 0, P 8, P 16], [P 40]]) = some [[P 0, P 8, P 16], [P 40]] := by
    have n0 : cG [[P 0, P 8, P 16], [P 40]] ((0 : Int), [[P 0, P 8, P 16], [P 40]]) = some (.next ((1 : Int), [[P 0, P 8, P 16], [P 40]])) := by
      show (sortO bu [P 0, P 8, P 16]).bind _ = _
      rw [s1]; kernel_rfl
    have n1 : cG [[P 0, P 8, P 16], [P 40]] ((1 : Int), [[P 0, P 8, P 16], [P 40]]) = some (.next ((2 : Int), [[P 0, P 8, P 16], [P 40]])) := by
      show (sortO bu [P 40]).bind _ = _
      rw [s2]; kernel_rfl
    have n2 : cG [[P 0, P 8, P 16], [P 40]] ((2 : Int), [[P 0, P 8, P 16], [P 40]]) = some (.stop [[P 0, P 8, P 16], [P 40]]) := by kernel_rfl
    rw [loopO_next n0, loopO_next n1, loopO_stop n2]
  have e6 : ct 10 [P 16, P 0, P 40, P 8] = some [[P 0, P 8, P 16], [P 40]] := by
    unfold ct
    rw [e2, Option.bind_some, e3, Option.bind_some, e4, Option.bind_some, e5]; rfl
  unfold bW
  rw [e0, e6]; rfl
theorem awake_depends : fu [P 4, P 5, P 9] = some [⟨S1, [⟨4, 6⟩, ⟨9, 10⟩]⟩] := by
  have d1 : loopO (gx [P 4, P 5, P 9]) ((0 : Int), [], []) = some ([(S1, [⟨4, 5⟩, ⟨5, 6⟩, ⟨9, 10⟩])], [S1, S1, S1]) := (Le.loop (fun s => tw _ s) bd _) _ (by kernel_rfl)
  have d2 : sortO ci [S1, S1, S1] = some [S1, S1, S1] := sortS (by simp) (by kernel_rfl)
  have d3 : qN [S1, S1, S1] = some [S1] := by
    unfold qN
    have c1 : cloneO 64 [S1, S1, S1] = some [S1, S1, S1] := by kernel_rfl
    have c2 : ev [S1, S1, S1] = some [S1] := tj _ _ (by kernel_rfl)
    rw [c1, Option.bind_some, d2, Option.bind_some, c2]; rfl
  have d4 : iX [⟨4, 5⟩, ⟨5, 6⟩, ⟨9, 10⟩] = some [⟨4, 6⟩, ⟨9, 10⟩] := by
    unfold iX
    have c1 : cloneO 16 ([⟨4, 5⟩, ⟨5, 6⟩, ⟨9, 10⟩] : List aj) = some [⟨4, 5⟩, ⟨5, 6⟩, ⟨9, 10⟩] := by kernel_rfl
    have c2 : cU [⟨4, 5⟩, ⟨5, 6⟩, ⟨9, 10⟩] = some [⟨4, 5⟩, ⟨5, 6⟩, ⟨9, 10⟩] := pZ _ _ (by kernel_rfl)
    have c3 : sortO cd [⟨4, 5⟩, ⟨5, 6⟩, ⟨9, 10⟩] = some [⟨4, 5⟩, ⟨5, 6⟩, ⟨9, 10⟩] := sortN (by simp) (by kernel_rfl)
    have c4 : loopO (ni [⟨4, 5⟩, ⟨5, 6⟩, ⟨9, 10⟩]) ((0 : Int), []) = some [⟨4, 6⟩, ⟨9, 10⟩] := (Le.loop (fun s => yk _ s) bd _) _ (by kernel_rfl)
    rw [c1, Option.bind_some, c2, Option.bind_some, c3, Option.bind_some, c4]; rfl
  have d5 : loopO (gy [S1] ([(S1, [⟨4, 5⟩, ⟨5, 6⟩, ⟨9, 10⟩])], [S1, S1, S1])) ((0 : Int), []) = some [⟨S1, [⟨4, 6⟩, ⟨9, 10⟩]⟩] := by
    have n0 : gy [S1] ([(S1, [⟨4, 5⟩, ⟨5, 6⟩, ⟨9, 10⟩])], [S1, S1, S1]) ((0 : Int), []) = some (.next ((1 : Int), [⟨S1, [⟨4, 6⟩, ⟨9, 10⟩]⟩])) := by
      show (iX (mGet xA S1 [] [(S1, [⟨4, 5⟩, ⟨5, 6⟩, ⟨9, 10⟩])])).bind _ = _
      have : mGet xA S1 [] [(S1, ([⟨4, 5⟩, ⟨5, 6⟩, ⟨9, 10⟩] : List aj))] = [⟨4, 5⟩, ⟨5, 6⟩, ⟨9, 10⟩] := by kernel_rfl
      rw [this, d4]; rfl
    have n1 : gy [S1] ([(S1, [⟨4, 5⟩, ⟨5, 6⟩, ⟨9, 10⟩])], [S1, S1, S1]) ((1 : Int), [⟨S1, [⟨4, 6⟩, ⟨9, 10⟩]⟩]) = some (.stop [⟨S1, [⟨4, 6⟩, ⟨9, 10⟩]⟩]) := by kernel_rfl
    rw [loopO_next n0, loopO_stop n1]
  unfold fu
  rw [d1, Option.bind_some]
  dsimp only
  rw [d3, Option.bind_some, d5]; rfl
theorem awake_at : e7 = some true := by
  unfold e7
  have h1 : eZ (0 : Int) = some S1 := by kernel_rfl
  have h2 : ed [⟨S1, [⟨4, 6⟩, ⟨9, 10⟩]⟩] [⟨S1, [⟨4, 6⟩, ⟨9, 10⟩]⟩] = some true := wd _ _ _ (by kernel_rfl)
  simp only [pick_at, Option.bind_some, awake_batches, awake_depends, h1]
  rw [show ((0 : Int) == 0) = true from rfl, if_pos rfl]
  show (ed _ _).bind _ = _
  rw [h2]; rfl

end Go.Dw.De


set_option maxRecDepth 100000
set_option maxHeartbeats 4000000
namespace Go.Dw.De
open Go.Dw Go.Proofs
open Sd (t7 ur ut)

theorem loop_first {α ω : Type} {body : Int → Option (Step1 Int (Unit ⊕ ω))} (l : List α) {p : α → Bool} {f : Nat → α → ω}
    (h1 : ∀ (i : Nat) (hi : i < l.length), body i = if p l[i] = true then some (.stop (.inr (f i l[i]))) else some (.next ((i + 1 : Nat) : Int)))
    (h2 : body (l.length : Nat) = some (.stop (.inl ()))) :
    (loopO body (0 : Int) = some (.inl ()) ∧ ∀ x ∈ l, p x = false) ∨
    ∃ (i : Nat) (hi : i < l.length), loopO body (0 : Int) = some (.inr (f i l[i])) ∧ p l[i] = true ∧ ∀ x ∈ l.take i, p x = false := by
  have : ∀ k i, i + k = l.length → (∀ x ∈ l.take i, p x = false) → (loopO body (i : Int) = some (.inl ()) ∧ ∀ x ∈ l, p x = false) ∨
      ∃ (j : Nat) (hj : j < l.length), loopO body (i : Int) = some (.inr (f j l[j])) ∧ p l[j] = true ∧ ∀ x ∈ l.take j, p x = false := by
    intro k
    induction k with
    | zero =>
      intro i hi ha
      obtain rfl : i = l.length := by omega
      exact .inl ⟨loopO_stop h2, by simpa using ha⟩
    | succ k ih =>
      intro i hi ha
      have hlt : i < l.length := by omega
      cases hp : p l[i] with
      | true => exact .inr ⟨i, hlt, loopO_stop (by rw [h1 i hlt, if_pos hp]), hp, ha⟩
      | false =>
        have e := loopO_next (ω := Unit ⊕ ω) (body := body) (s := (i : Int)) (s' := ((i + 1 : Nat) : Int)) (by rw [h1 i hlt, if_neg (by simp [hp])])
        rw [e]
        refine ih (i + 1) (by omega) fun x hx => ?_
        rw [take_succ_at hlt] at hx
        rcases List.mem_append.1 hx with hx | hx
        · exact ha x hx
        · rw [List.mem_singleton] at hx; rw [hx]; exact hp
  have := this l.length 0 (by omega) (by simp)
  simpa using this
theorem loop_find {α ω : Type} {body : Int → Option (Step1 Int (Unit ⊕ ω))} (l : List α) {p : α → Bool} {f : α → ω}
    (h1 : ∀ (i : Nat) (hi : i < l.length), body i = if p l[i] = true then some (.stop (.inr (f l[i]))) else some (.next ((i + 1 : Nat) : Int)))
    (h2 : body (l.length : Nat) = some (.stop (.inl ()))) : loopO body (0 : Int) = some (match l.find? p with | none => .inl () | some x => .inr (f x)) := by
  rcases loop_first l (f := fun _ x => f x) h1 h2 with ⟨e, h⟩ | ⟨i, hi, e, hp, h⟩
  · rw [e, List.find?_eq_none.2 fun x hx => by simp [h x hx]]
  · rw [e]
    have : l.find? p = some l[i] := by
      refine List.find?_eq_some_iff_append.2 ⟨hp, l.take i, l.drop (i + 1), ?_, fun x hx => by simp [h x hx]⟩
      rw [← List.drop_eq_getElem_cons hi, List.take_append_drop]
    rw [this]
theorem w3 {ω : Type} {body : Int → Option (Step1 Int (Unit ⊕ ω))} (n : Nat) (h1 : ∀ i : Nat, i < n → body i = some (.next ((i + 1 : Nat) : Int))) (h2 : body (n : Nat) = some (.stop (.inl ()))) : loopO body (0 : Int) = some (.inl ()) := by
  have : ∀ k i : Nat, i + k = n → loopO body (i : Int) = some (.inl ()) := by
    intro k
    induction k with
    | zero => intro i hi; obtain rfl : i = n := by omega
              exact loopO_stop h2
    | succ k ih => intro i hi; rw [loopO_next (h1 i (by omega))]; exact ih (i + 1) (by omega)
  simpa using this n 0 (by omega)

theorem terms_ok {l : List Int} (hl : l.length ≤ 1000) (h : ∀ x ∈ l, -1048576 ≤ x ∧ x ≤ 1048576) : cK l = some true := by
  unfold cK cL dA
  rw [w3 l.length (fun i hi => ?_) ?_]
  · rfl
  · unfold cM
    rw [if_neg (by simp)]
  · unfold cM
    have hx := h l[i] (List.getElem_mem hi)
    rw [if_pos (by simp; omega), getO_at rfl hi, Option.bind_some]
    unfold gt cA
    rw [if_pos (by simpa using hx.1), Option.bind_some, Option.bind_some, if_neg (by simpa using hx.2), w64 (by omega) (by omega)]
    simp
def tJ (x : ar) : Prop := dD x = some true ∧ (x.bZ = 2 → x.bg = 1) ∧ x.br.length ≤ 3
theorem gain_ok {a b : Int} (ha : 1 ≤ a ∧ a ≤ 1048576) (hb : 1 ≤ b ∧ b ≤ 1048576) : tJ ⟨0, ⟨a, 0, 0⟩, ⟨b, 0, 0⟩, [], 0, 0⟩ := by
  refine ⟨?_, by simp, by simp⟩
  unfold dD cA
  simp [ha.1, ha.2, hb.1, hb.2]
theorem section_ok {a b c d e f : Int} (ha : -10 ≤ a ∧ a ≤ 10) (hb : -10 ≤ b ∧ b ≤ 10) (hc : -10 ≤ c ∧ c ≤ 10) (hd : 1 ≤ d ∧ d ≤ 10) (he : -10 ≤ e ∧ e ≤ 10) (hf : -10 ≤ f ∧ f ≤ 10) : tJ ⟨1, ⟨a, b, c⟩, ⟨d, e, f⟩, [], 0, 0⟩ := by
  refine ⟨?_, by simp, by simp⟩
  have h1 : cK [a, b, c] = some true := terms_ok (by simp) (by simp; omega)
  have h2 : cK [d, e, f] = some true := terms_ok (by simp) (by simp; omega)
  have h3 : d ≠ 0 := by omega
  unfold dD
  simp [h1, h2, h3]
theorem filter_ok {a s : Int} (ha : 1 ≤ a ∧ a ≤ 3) (hs : 0 ≤ s ∧ s ≤ 3) : tJ ⟨2, ⟨0, 0, 0⟩, ⟨0, 0, 0⟩, [a, 2, 1], 1, s⟩ := by
  have h1 : a = 1 ∨ a = 2 ∨ a = 3 := by omega
  have h2 : s = 0 ∨ s = 1 ∨ s = 2 ∨ s = 3 := by omega
  refine ⟨?_, by simp, by simp⟩
  rcases h1 with rfl | rfl | rfl <;> rcases h2 with rfl | rfl | rfl | rfl <;> exact oM _ _ (by kernel_rfl)
def RespOk (r : aD) : Prop := r.aO.length ≤ 3 ∧ ∀ x ∈ r.aO, tJ x
theorem responseV (d : Src) (hd : cm d) : Ok (fF d) (fun r => RespOk r.1 ∧ cm r.2) := by
  unfold fF
  refine Ok.bind (fo _ _ hd (by omega) (by omega)) (fun x1 h1 => ?_)
  refine Ok.bind (P := fun o : List Int × Int × List ar => cm ⟨o.1, o.2.1⟩ ∧ (o.2.2.length ≤ 3 ∧ ∀ x ∈ o.2.2, tJ x)) (Ok.loop (fun s => 0 ≤ s.1 ∧ s.1 + s.2.2.2.length ≤ 3 ∧ (∀ x ∈ s.2.2.2, tJ x) ∧ cm ⟨s.2.1, s.2.2.1⟩) (fun s => s.1.toNat) ?_ ⟨by simp only; omega, by simp only [List.length_nil]; omega, by simp, h1.2.2⟩) (fun o ho => Ok.ret (Q := fun r : aD × Src => RespOk r.1 ∧ cm r.2) ⟨ho.2, ho.1⟩)
  rintro ⟨s2, s3, s4, s5⟩ ⟨i0, i1, i2, i3⟩
  simp only at i0 i1 i2 i3
  unfold jk
  have happ : ∀ (x : ar), Ok (appO s5 [x] 96) (fun r => r = s5 ++ [x]) := fun x => Ok.app (by simp only [List.length_cons, List.length_nil]; omega)
  have hnext : ∀ {x : ar}, tJ x → ∀ c ∈ s5 ++ [x], tJ c := fun hx c hc => by
    simp only [List.mem_append, List.mem_singleton] at hc
    rcases hc with hc | rfl
    · exact i2 c hc
    · exact hx
  refine Ok.iteD (fun hgt => ?_) (fun _ => Ok.st ⟨i3, by simp only; omega, i2⟩)
  refine Ok.bind (fo _ _ i3 (by omega) (by omega)) (fun y1 g1 => ?_)
  refine Ok.iteE (fun hk => ?_) (fun _ => Ok.iteE (fun hk => ?_) (fun _ => ?_))
  · refine Ok.bind (jS _ _ g1.2.2 (by simp) (by simp)) (fun y2 g2 => ?_)
    refine Ok.bind (jS _ _ g2.2 (by simp) (by simp)) (fun y3 g3 => ?_)
    refine Ok.bind (happ _) (fun y4 g4 => ?_)
    subst g4
    have b1 : 0 ≤ y2.1 ∧ y2.1 ≤ 1048575 := by have := g2.1; simp at this; omega
    have b2 : 0 ≤ y3.1 ∧ y3.1 ≤ 999 := by have := g3.1; simp at this; omega
    rw [w64 (n := s2 - 1) (by omega) (by omega), w64 (n := 1 + y2.1) (by omega) (by omega), w64 (n := 1 + y3.1) (by omega) (by omega), hk]
    exact Ok.nx ⟨by simp only; omega, by simp only [List.length_append, List.length_cons, List.length_nil]; omega, hnext (gain_ok (by omega) (by omega)), g3.2⟩ (by simp only; omega)
  · refine Ok.bind (fo _ _ g1.2.2 (by omega) (by omega)) (fun y2 g2 => ?_)
    refine Ok.bind (fo _ _ g2.2.2 (by omega) (by omega)) (fun y3 g3 => ?_)
    refine Ok.bind (fo _ _ g3.2.2 (by omega) (by omega)) (fun y4 g4 => ?_)
    refine Ok.bind (fo _ _ g4.2.2 (by omega) (by omega)) (fun y5 g5 => ?_)
    refine Ok.bind (fo _ _ g5.2.2 (by omega) (by omega)) (fun y6 g6 => ?_)
    refine Ok.bind (fo _ _ g6.2.2 (by omega) (by omega)) (fun y7 g7 => ?_)
    refine Ok.bind (happ _) (fun y8 g8 => ?_)
    subst g8
    rw [w64 (n := s2 - 1) (by omega) (by omega), w64 (n := y3.1 - 3) (by omega) (by omega), w64 (n := y4.1 - 1) (by omega) (by omega), w64 (n := 1 + y5.1) (by omega) (by omega), hk]
    exact Ok.nx ⟨by simp only; omega, by simp only [List.length_append, List.length_cons, List.length_nil]; omega, hnext (section_ok (by omega) (by omega) (by omega) (by omega) (by omega) (by omega)), g7.2.2⟩ (by simp only; omega)
  · refine Ok.bind (fo _ _ g1.2.2 (by omega) (by omega)) (fun y2 g2 => ?_)
    refine Ok.bind (fo _ _ g2.2.2 (by omega) (by omega)) (fun y3 g3 => ?_)
    refine Ok.bind (happ _) (fun y8 g8 => ?_)
    subst g8
    rw [w64 (n := s2 - 1) (by omega) (by omega), w64 (n := 1 + y2.1) (by omega) (by omega), show y1.1 = 2 by omega]
    exact Ok.nx ⟨by simp only; omega, by simp only [List.length_append, List.length_cons, List.length_nil]; omega, hnext (filter_ok (by omega) (by omega)), g3.2.2⟩ (by simp only; omega)
theorem resp_valid {r : aD} (h : RespOk r) : js r = some true := by
  obtain ⟨hl, hs⟩ := h
  unfold js
  rw [if_neg (by simp; omega)]
  have e1 : cb r.aO = some false := by
    unfold cb cX
    rw [w3 r.aO.length (fun i hi => ?_) ?_]
    · rfl
    · unfold cv
      rw [if_neg (by simp)]
    · unfold cv gr
      rw [if_pos (by simp; omega), getO_at rfl hi, Option.bind_some, (hs _ (List.getElem_mem hi)).1, Option.bind_some, Option.bind_some, if_neg (by simp), w64 (by omega) (by omega)]
      simp
  have e2 : iL r.aO = some 1 := by
    unfold iL
    have : Ok (loopO (ib r.aO) ((1 : Int), (0 : Int))) (fun o => o = .inl 1) := by
      refine Ok.loop (fun s => s.1 = 1 ∧ 0 ≤ s.2 ∧ s.2 ≤ r.aO.length) (fun s => ((r.aO.length : Int) - s.2).toNat) ?_ ⟨rfl, Int.le_refl _, by simp⟩
      rintro ⟨s1, s2⟩ ⟨i0, i1, i2⟩
      simp only at i0 i1 i2
      subst i0
      unfold ib
      dsimp only
      refine Ok.iteD (fun hlt => ?_) (fun _ => Ok.st rfl)
      refine Ok.bind (Ok.get (by omega) (by omega)) (fun x hx => ?_)
      rw [w64 (n := s2 + 1) (by omega) (by omega)]
      refine Ok.iteNe (fun _ => Ok.nx ⟨rfl, by simp only; omega, by simp only; omega⟩ (by simp only; omega)) (fun hk => ?_)
      rw [(hs x hx.1).2.1 hk]
      refine Ok.iteD (fun hc => absurd hc (by decide)) (fun _ => ?_)
      rw [w64 (n := 1 * 1) (by omega) (by omega)]
      exact Ok.nx ⟨rfl, by simp only; omega, by simp only; omega⟩ (by simp only; omega)
    rw [this.eq]; rfl
  rw [e1, Option.bind_some, if_neg (by simp), e2]; rfl

def RateOk (r : aT) : Prop := r.aQ = 1 ∧ (r.aW = 100 ∨ r.aW = 50 ∨ r.aW = 51)
theorem rate_valid {r : aT} (h : RateOk r) : sw r = some true := by
  obtain ⟨n, d⟩ := r
  obtain ⟨h1, h2⟩ := h
  simp only at h1 h2
  subst h1
  rcases h2 with rfl | rfl | rfl <;> exact xB _ _ (by kernel_rfl)
structure EpOk (e : ai) : Prop where
  lo : 0 ≤ e.aL
  lt : e.aL < e.fTo
  hi : e.fTo ≤ 10000000
  from_ : e.aL ≤ 2000
  rate : RateOk e.bN
  resp : RespOk e.aV
  pos : uq 60 e.aF
theorem ep_valid {e : ai} (h : EpOk e) : er e = some true := by
  obtain ⟨h1, h2, h3, -, h4, h5, ⟨p1, p2⟩, ⟨p3, p4⟩, p5, p6⟩ := h
  have hin : ∀ {x a b : Int}, a ≤ x → x ≤ b → fH x a b = some true := fun h h' => by
    unfold fH; rw [if_pos (by simpa using h)]; simpa using h'
  unfold er
  rw [if_pos (by simpa using h1), if_pos (by simpa using h2), if_pos (by simp; omega), rate_valid h4, Option.bind_some, if_pos rfl, resp_valid h5, Option.bind_some, if_pos rfl,
    hin (by omega) (by omega), Option.bind_some, if_pos rfl, hin (by omega) (by omega), Option.bind_some, if_pos rfl, hin (by omega) (by omega)]
  rfl
structure tG (l : List ai) : Prop where
  ne : l ≠ []
  len : l.length ≤ 2
  all : ∀ e ∈ l, EpOk e
  ord : (l.map fun e => (e.aL, e.fTo)).Pairwise (fun a b => a.2 ≤ b.1)
theorem epochs_valid {l : List ai} (h : tG l) : gX l = some true := by
  have hlen := h.len
  have hne := List.length_pos_iff.2 h.ne
  unfold gX
  rw [w3 l.length (fun i hi => ?_) ?_, Option.bind_some]
  · dsimp only
    unfold fH
    rw [if_pos (by simp; omega), Option.bind_some]
    simp; omega
  · unfold fS
    rw [if_neg (by simp)]
  · unfold fS
    rw [if_pos (by simp; omega), getO_at rfl hi, Option.bind_some, ep_valid (h.all _ (List.getElem_mem hi)), Option.bind_some, if_neg (by simp), w64 (n := (i : Int) + 1) (by omega) (by omega)]
    by_cases h0 : i = 0
    · subst h0; rfl
    · rw [if_pos (by simp; omega), w64 (by omega) (by omega), getO_at (i := i - 1) (by omega) (by omega), Option.bind_some]
      have := List.pairwise_iff_getElem.1 h.ord (i - 1) i (by simp; omega) (by simpa using hi) (by omega)
      simp only [List.getElem_map] at this
      rw [if_neg (by simpa using this)]
      simp
def ChOk (c : ac) : Prop := IsSid c.al ∧ tG c.aP
structure w8 (v : ae) : Prop where
  len : v.aq.length ≤ 6
  all : ∀ c ∈ v.aq, ChOk c
  ord : (v.aq.map (·.al)).Pairwise (fun a b => t7 a b < 0)
theorem w8.inv {v : ae} (h : w8 v) : InvOk v := ⟨h.len, fun c hc => ⟨(h.all c hc).2.len, fun e he => ((h.all c hc).2.all e he).pos⟩⟩
theorem inv_valid {v : ae} (h : w8 v) : bO v = some true := by
  have hlen := h.len
  unfold bO
  rw [w3 v.aq.length (fun i hi => ?_) ?_, Option.bind_some]
  · simp; omega
  · unfold gq
    rw [if_neg (by simp)]
  · unfold gq
    obtain ⟨c1, c2⟩ := h.all _ (List.getElem_mem hi)
    rw [if_pos (by simp; omega), getO_at rfl hi, Option.bind_some, So.Valid_eq (sid_len c1), c1, Option.bind_some, if_neg (by simp), epochs_valid c2, Option.bind_some, if_neg (by simp), w64 (n := (i : Int) + 1) (by omega) (by omega)]
    by_cases h0 : i = 0
    · subst h0; rfl
    · rw [if_pos (by simp; omega), w64 (by omega) (by omega), getO_at (i := i - 1) (by omega) (by omega), Option.bind_some, Sd.nj, Option.bind_some]
      have := List.pairwise_iff_getElem.1 h.ord (i - 1) i (by simp; omega) (by simpa using hi) (by omega)
      simp only [List.getElem_map] at this
      rw [if_neg (by simpa using this)]
      simp

def sid (i : Nat) : Sid := ⟨[65, 66], stas.getD i [], [48, 48], [66, 72, 90]⟩
theorem source_at {n : Int} {i : Nat} (hn : n = i) (hi : i < 6) : eZ n = some (sid i) := by
  subst hn
  have : i = 0 ∨ i = 1 ∨ i = 2 ∨ i = 3 ∨ i = 4 ∨ i = 5 := by omega
  rcases this with rfl | rfl | rfl | rfl | rfl | rfl <;> exact oo _ _ (by kernel_rfl)
theorem sid_ok {i : Nat} (hi : i < 6) : IsSid (sid i) := by
  have : i = 0 ∨ i = 1 ∨ i = 2 ∨ i = 3 ∨ i = 4 ∨ i = 5 := by omega
  rcases this with rfl | rfl | rfl | rfl | rfl | rfl <;> (show So.wT _ = true; decide +kernel)
theorem sid_lt {i j : Nat} (h : i < j) (hj : j < 6) : t7 (sid i) (sid j) < 0 := by
  have h1 : i = 0 ∨ i = 1 ∨ i = 2 ∨ i = 3 ∨ i = 4 := by omega
  have h2 : j = 1 ∨ j = 2 ∨ j = 3 ∨ j = 4 ∨ j = 5 := by omega
  rcases h1 with rfl | rfl | rfl | rfl | rfl <;> rcases h2 with rfl | rfl | rfl | rfl | rfl <;> first | omega | decide +kernel
theorem eps1 {e : ai} (h : EpOk e) : tG [e] := ⟨by simp, by simp, by simpa using h, by simp⟩
theorem eps2 {e f : ai} (h : EpOk e) (h' : EpOk f) (ho : e.fTo ≤ f.aL) : tG [e, f] := ⟨by simp, by simp, by simp; exact ⟨h, h'⟩, by simpa using ho⟩
def SitesI (s : Int × List Int × Int × List ac) : Prop := ∃ i : Nat, s.1 = i ∧ i ≤ 6 ∧ s.2.2.2.map (·.al) = (List.range i).map sid ∧ (∀ c ∈ s.2.2.2, tG c.aP) ∧ cm ⟨s.2.1, s.2.2.1⟩
theorem sitesV (d : Src) (hd : cm d) : Ok (iI 6 d) (fun r => w8 r.1 ∧ cm r.2) := by
  unfold iI
  refine Ok.bind (P := fun o => cm ⟨o.1, o.2.1⟩ ∧ w8 ⟨o.2.2⟩) (Ok.loop SitesI (fun s => (6 - s.1).toNat) ?_ ⟨0, rfl, by omega, rfl, by simp, hd⟩) (fun o ho => Ok.ret ⟨ho.2, ho.1⟩)
  rintro ⟨s1, s2, s3, s4⟩ ⟨i, i0, i1, i2, i3, i4⟩
  simp only at i0 i1 i2 i3 i4
  subst i0
  have hlen : s4.length = i := by have := congrArg List.length i2; simpa using this
  unfold mM
  have happ : ∀ (x : ac), Ok (appO s4 [x] 88) (fun r => r = s4 ++ [x]) := fun x => Ok.app (by simp only [List.length_cons, List.length_nil]; omega)
  have hend : w8 ⟨s4⟩ := by
    refine ⟨by simp only; omega, fun c hc => ⟨?_, i3 c hc⟩, ?_⟩
    · have : c.al ∈ s4.map (·.al) := List.mem_map.2 ⟨c, hc, rfl⟩
      rw [i2] at this
      obtain ⟨j, hj, e⟩ := List.mem_map.1 this
      rw [← e]
      exact sid_ok (by have := List.mem_range.1 hj; omega)
    · simp only
      rw [i2, List.pairwise_map]
      exact List.pairwise_lt_range.imp_of_mem fun ha hb hab => sid_lt hab (by have := List.mem_range.1 hb; omega)
  have hnext : ∀ {l : List ai} {t : Src}, i < 6 → tG l → cm t → Ok (some (.next ((i : Int) + 1, t.fL, t.fAt, s4 ++ [⟨sid i, l⟩]))) (Ok.S SitesI (fun s => (6 - s.1).toNat) (fun o : List Int × Int × List ac => cm ⟨o.1, o.2.1⟩ ∧ w8 ⟨o.2.2⟩) ((i : Int), s2, s3, s4)) := fun {l t} hi hl ht => by
    refine Ok.nx ⟨i + 1, by simp, by omega, ?_, fun c hc => ?_, ht⟩ (by simp only; omega)
    · simp [List.range_succ, i2]
    · simp only [List.mem_append, List.mem_singleton] at hc
      rcases hc with hc | rfl
      · exact i3 c hc
      · exact hl
  refine Ok.iteD (fun hlt => ?_) (fun _ => Ok.st ⟨i4, hend⟩)
  refine Ok.iteD (fun _ => ?_) (fun _ => Ok.st ⟨i4, hend⟩)
  have hi : i < 6 := by omega
  refine Ok.bind (uH 60 (by omega) (by omega) _ i4) (fun y1 g1 => ?_)
  refine Ok.bind (responseV _ g1.2) (fun y2 g2 => ?_)
  rw [source_at rfl hi, Option.bind_some]
  refine Ok.bind (fo _ _ g2.2 (by omega) (by omega)) (fun y4 g4 => ?_)
  rw [w64 (n := (i : Int) + 1) (by omega) (by omega)]
  have hr : RateOk ⟨100, 1⟩ := ⟨rfl, .inl rfl⟩
  refine Ok.iteE (fun _ => ?_) (fun _ => Ok.iteE (fun _ => ?_) (fun _ => ?_))
  · refine Ok.bind (fo _ _ g4.2.2 (by omega) (by omega)) (fun y5 g5 => ?_)
    refine Ok.bind (uH 60 (by omega) (by omega) _ g5.2.2) (fun y6 g6 => ?_)
    refine Ok.bind (responseV _ g6.2) (fun y7 g7 => ?_)
    refine Ok.bind (Ok.isin (by omega) (by simp)) (fun _ _ => ?_)
    refine Ok.bind (Ok.mod (by omega) (by simp)) (fun y8 g8 => ?_)
    obtain ⟨x, hx, rfl⟩ := g8
    simp at hx
    subst hx
    refine Ok.bind (Ok.app (by simp)) (fun y9 g9 => ?_)
    subst g9
    refine Ok.bind (happ _) (fun y10 g10 => ?_)
    subst g10
    rw [w64 (n := 1500 + y5.1) (by omega) (by omega)]
    exact hnext hi (eps2 ⟨by simp, by simp only; omega, by simp only; omega, by simp, hr, g2.1, g1.1⟩ ⟨by simp only; omega, by simp only; omega, by simp, by simp only; omega, hr, g7.1, g6.1⟩ (by simp)) g7.2
  · refine Ok.bind (fo _ _ g4.2.2 (by omega) (by omega)) (fun y5 g5 => ?_)
    refine Ok.bind (Ok.isin (by omega) (by simp)) (fun _ _ => ?_)
    refine Ok.bind (Ok.mod (by omega) (by simp)) (fun y8 g8 => ?_)
    obtain ⟨x, hx, rfl⟩ := g8
    simp at hx
    subst hx
    refine Ok.bind (happ _) (fun y10 g10 => ?_)
    subst g10
    exact hnext hi (eps1 ⟨g5.1, by simp only; omega, by simp, by simp only; omega, hr, g2.1, g1.1⟩) g5.2.2
  · refine Ok.bind (happ _) (fun y10 g10 => ?_)
    subst g10
    exact hnext hi (eps1 ⟨by simp, by simp, by simp, by simp, hr, g2.1, g1.1⟩) g4.2.2

theorem tG.set {l : List ai} (h : tG l) {k : Nat} {x y : ai} (hx : l[k]? = some x) (h1 : y.aL = x.aL) (h2 : y.fTo = x.fTo) (hy : EpOk y) : tG (l.set k y) := by
  obtain ⟨hk, hxe⟩ := List.getElem?_eq_some_iff.1 hx
  refine ⟨fun e => h.ne (by simpa using e), by simpa using h.len, fun e he => ?_, ?_⟩
  · rcases List.mem_or_eq_of_mem_set he with h3 | rfl
    · exact h.all e h3
    · exact hy
  · have : (l.set k y).map (fun e => (e.aL, e.fTo)) = l.map (fun e => (e.aL, e.fTo)) := by
      apply List.ext_getElem? 
      intro j
      simp only [List.getElem?_map, List.getElem?_set]
      by_cases e : k = j
      · subst e
        rw [if_pos rfl, if_pos hk, hx]; simp [h1, h2]
      · rw [if_neg e]
    rw [this]; exact h.ord
theorem tG.last {l : List ai} (h : tG l) {x y : ai} (hx : l[l.length - 1]? = some x) (h1 : y.aL = x.aL) (hy : EpOk y) : tG (l.set (l.length - 1) y) := by
  obtain ⟨a1, a2, a3, a4⟩ := h
  rcases l with _ | ⟨a, _ | ⟨b, _ | ⟨c, l⟩⟩⟩
  · exact (a1 rfl).elim
  · exact eps1 hy
  · simp at hx
    subst hx
    exact eps2 (a3 a (by simp)) hy (by rw [h1]; simpa using a4)
  · simp at a2
def CorrI (v : ae) (s : Int × List Int × Int × List ac) : Prop := ∃ i : Nat, s.1 = i ∧ i ≤ v.aq.length ∧ (s.2.2.2.map (·.al)).Sublist ((v.aq.take i).map (·.al)) ∧ (∀ c ∈ s.2.2.2, tG c.aP) ∧ cm ⟨s.2.1, s.2.2.1⟩
theorem correctedV (v : ae) (hv : w8 v) (d : Src) (hd : cm d) : Ok (gN v d) (fun r => w8 r.1 ∧ cm r.2) := by
  have hvl := hv.len
  unfold gN
  refine Ok.bind (P := fun o => cm ⟨o.1, o.2.1⟩ ∧ w8 ⟨o.2.2⟩) (Ok.loop (CorrI v) (fun s => ((v.aq.length : Int) - s.1).toNat) ?_ ⟨0, rfl, by omega, by simp, by simp, hd⟩) (fun o ho => Ok.ret ⟨ho.2, ho.1⟩)
  rintro ⟨s1, s2, s3, s4⟩ ⟨i, i0, i1, i2, i3, i4⟩
  simp only at i0 i1 i2 i3 i4
  subst i0
  have hlen : s4.length ≤ i := by have := i2.length_le; simp at this; omega
  unfold kS
  have happ : ∀ (x : ac), Ok (appO s4 [x] 88) (fun r => r = s4 ++ [x]) := fun x => Ok.app (by simp only [List.length_cons, List.length_nil]; omega)
  have hend : w8 ⟨s4⟩ := by
    refine ⟨by simp only; omega, fun c hc => ⟨?_, i3 c hc⟩, ?_⟩
    · have : c.al ∈ s4.map (·.al) := List.mem_map.2 ⟨c, hc, rfl⟩
      obtain ⟨c', hc', e⟩ := List.mem_map.1 (i2.subset this)
      rw [← e]
      exact (hv.all c' (List.mem_of_mem_take hc')).1
    · exact ((hv.ord.sublist (List.Sublist.map _ (List.take_sublist i _)))).sublist i2
  refine Ok.iteD (fun hlt => ?_) (fun _ => Ok.st ⟨i4, hend⟩)
  have hi : i < v.aq.length := by omega
  have htk : (v.aq.take (i + 1)).map (·.al) = (v.aq.take i).map (·.al) ++ [v.aq[i].al] := by
    rw [take_succ_at hi, List.map_append]; rfl
  have hnext : ∀ {l : List ai} {t : Src}, tG l → cm t → Ok (some (.next ((i : Int) + 1, t.fL, t.fAt, s4 ++ [⟨v.aq[i].al, l⟩]))) (Ok.S (CorrI v) (fun s => ((v.aq.length : Int) - s.1).toNat) (fun o : List Int × Int × List ac => cm ⟨o.1, o.2.1⟩ ∧ w8 ⟨o.2.2⟩) ((i : Int), s2, s3, s4)) := fun {l t} hl ht => by
    refine Ok.nx ⟨i + 1, by simp, by omega, ?_, fun c hc => ?_, ht⟩ (by simp only; omega)
    · rw [htk, List.map_append]
      exact List.Sublist.append i2 (List.Sublist.refl _)
    · simp only [List.mem_append, List.mem_singleton] at hc
      rcases hc with hc | rfl
      · exact i3 c hc
      · exact hl
  rw [getO_at rfl hi, Option.bind_some]
  have hE := (hv.all _ (List.getElem_mem hi)).2
  generalize v.aq[i] = c at *
  have hEl := hE.len
  have hEn := List.length_pos_iff.2 hE.ne
  refine Ok.bind (Ok.app (by simp only [List.length_nil]; omega)) (fun y1 g1 => ?_)
  rw [List.nil_append] at g1
  subst g1
  refine Ok.bind (fo _ _ i4 (by omega) (by omega)) (fun y2 g2 => ?_)
  refine Ok.bind (fo _ _ g2.2.2 (by omega) (by omega)) (fun y3 g3 => ?_)
  rw [w64 (n := (i : Int) + 1) (by omega) (by omega)]
  have hget : ∀ {k : Int} {x : ai}, c.aP[k.toNat]? = some x → EpOk x := fun h => hE.all _ (List.mem_of_getElem? h)
  refine Ok.iteE (fun _ => ?_) (fun _ => Ok.iteE (fun _ => ?_) (fun _ => Ok.iteE (fun _ => ?_) (fun _ => Ok.iteE (fun _ => ?_) (fun _ => Ok.iteE (fun _ => ?_) (fun _ => ?_)))))
  · refine Ok.bind (uH 60 (by omega) (by omega) _ g3.2.2) (fun y4 g4 => ?_)
    refine Ok.bind (Ok.isin (by omega) (by omega)) (fun _ _ => ?_)
    refine Ok.bind (Ok.mod (by omega) (by omega)) (fun y5 g5 => ?_)
    obtain ⟨x, hx, rfl⟩ := g5
    have hx' := hget hx
    refine Ok.bind (happ _) (fun y6 g6 => ?_)
    subst g6
    exact hnext (hE.set hx rfl rfl ⟨hx'.lo, hx'.lt, hx'.hi, hx'.from_, hx'.rate, hx'.resp, g4.1⟩) g4.2
  · refine Ok.bind (responseV _ g3.2.2) (fun y4 g4 => ?_)
    refine Ok.bind (Ok.isin (by omega) (by omega)) (fun _ _ => ?_)
    refine Ok.bind (Ok.mod (by omega) (by omega)) (fun y5 g5 => ?_)
    obtain ⟨x, hx, rfl⟩ := g5
    have hx' := hget hx
    refine Ok.bind (happ _) (fun y6 g6 => ?_)
    subst g6
    exact hnext (hE.set hx rfl rfl ⟨hx'.lo, hx'.lt, hx'.hi, hx'.from_, hx'.rate, g4.1, hx'.pos⟩) g4.2
  · rw [w64 (n := (c.aP.length : Int) - 1) (by omega) (by omega)]
    refine Ok.bind (Ok.isin (by omega) (by omega)) (fun _ _ => ?_)
    refine Ok.bind (Ok.get (by omega) (by omega)) (fun x hx => ?_)
    refine Ok.bind (fo _ _ g3.2.2 (by omega) (by omega)) (fun y4 g4 => ?_)
    refine Ok.bind (jS _ _ g4.2.2 (by simp) (by simp)) (fun y5 g5 => ?_)
    refine Ok.bind (Ok.isin (by omega) (by omega)) (fun _ _ => ?_)
    refine Ok.bind (Ok.mod (by omega) (by omega)) (fun y6 g6 => ?_)
    obtain ⟨x', hx', rfl⟩ := g6
    obtain rfl : x' = x := by rw [hx.2] at hx'; exact (Option.some.inj hx').symm
    have hb : ∃ q, y4.1 * y5.1 = q ∧ 0 ≤ q ∧ q ≤ 3999000 := by
      have := g5.1
      simp at this
      rcases this with e | e <;> rw [e] <;> exact ⟨_, rfl, by omega, by omega⟩
    obtain ⟨q, hq, q0, q1⟩ := hb
    have hxo := hget hx.2
    have hxlt := hxo.lt
    have hxlo := hxo.lo
    have hxhi := hxo.hi
    rw [hq, w64 (n := q) (by omega) (by omega), w64 (n := x'.aL + 1) (by omega) (by omega), w64 (n := x'.aL + 1 + q) (by omega) (by omega)]
    refine Ok.bind (happ _) (fun y7 g7 => ?_)
    subst g7
    have hxf := hxo.from_
    have hk : ((c.aP.length : Int) - 1).toNat = c.aP.length - 1 := by omega
    rw [hk] at hx' ⊢
    exact hnext (hE.last hx' rfl ⟨hxlo, by simp only; omega, by simp only; omega, hxf, hxo.rate, hxo.resp, hxo.pos⟩) g5.2
  · exact Ok.nx ⟨i + 1, by simp, by omega, i2.trans (by rw [htk]; exact List.sublist_append_left _ _), i3, g3.2.2⟩ (by simp only; omega)
  · refine Ok.bind (fo _ _ g3.2.2 (by omega) (by omega)) (fun y4 g4 => ?_)
    refine Ok.bind (Ok.isin (by omega) (by omega)) (fun _ _ => ?_)
    refine Ok.bind (Ok.mod (by omega) (by omega)) (fun y5 g5 => ?_)
    obtain ⟨x, hx, rfl⟩ := g5
    have hx' := hget hx
    refine Ok.bind (Ok.isin (by omega) (by simp; omega)) (fun _ _ => ?_)
    refine Ok.bind (Ok.mod (by omega) (by simp; omega)) (fun y6 g6 => ?_)
    obtain ⟨z, hz, rfl⟩ := g6
    have hk : y2.1.toNat < c.aP.length := by omega
    rw [List.getElem?_set_self hk] at hz
    cases hz
    rw [List.set_set]
    refine Ok.bind (happ _) (fun y7 g7 => ?_)
    subst g7
    rw [w64 (n := 50 + y4.1) (by omega) (by omega)]
    exact hnext (hE.set hx rfl rfl ⟨hx'.lo, hx'.lt, hx'.hi, hx'.from_, ⟨rfl, by simp only; omega⟩, hx'.resp, hx'.pos⟩) g4.2.2
  · refine Ok.bind (happ _) (fun y6 g6 => ?_)
    subst g6
    exact hnext hE g3.2.2
end Go.Dw.De


set_option maxRecDepth 100000
set_option maxHeartbeats 4000000
namespace Go.Dw.De
open Go.Dw Go.Proofs
open Sd (t7 ur ut)

theorem clone_at {α : Type} {n : Nat} {l : List α} (h : l.length * n ≤ 140737488355328) : cloneO n l = some l := by
  unfold cloneO; rw [if_pos h]
def RespLen (r : aD) : Prop := r.aO.length ≤ 1000 ∧ ∀ x ∈ r.aO, x.br.length ≤ 1000
theorem copyEpoch_at {e : ai} (h : RespLen e.aV) : eX e = some e := by
  obtain ⟨h1, h2⟩ := h
  unfold eX
  rw [clone_at (by omega), Option.bind_some]
  have : Ok (loopO (ep e.aV.aO) ((0 : Int), e.aV.aO)) (fun o => o = e.aV.aO) := by
    refine Ok.loop (fun s => 0 ≤ s.1 ∧ s.1 ≤ e.aV.aO.length ∧ s.2 = e.aV.aO) (fun s => ((e.aV.aO.length : Int) - s.1).toNat) ?_ ⟨Int.le_refl _, by simp, rfl⟩
    rintro ⟨s2, s3⟩ ⟨i0, i1, i2⟩
    simp only at i0 i1 i2
    subst i2
    unfold ep
    dsimp only
    refine Ok.iteD (fun hlt => ?_) (fun _ => Ok.st rfl)
    refine Ok.bind (Ok.isin (by omega) (by omega)) (fun _ _ => ?_)
    refine Ok.bind (Ok.get (by omega) (by omega)) (fun x hx => ?_)
    have := h2 x hx.1
    rw [clone_at (by omega), Option.bind_some]
    refine Ok.bind (Ok.isin (by omega) (by omega)) (fun _ _ => ?_)
    refine Ok.bind (Ok.mod (by omega) (by omega)) (fun y hy => ?_)
    obtain ⟨z, hz, rfl⟩ := hy
    obtain rfl : x = z := by rw [hx.2] at hz; exact Option.some.inj hz
    rw [w64 (by omega) (by omega)]
    refine Ok.nx ⟨by simp only; omega, by simp only; omega, ?_⟩ (by simp only; omega)
    obtain ⟨hk, e⟩ := List.getElem?_eq_some_iff.1 hx.2
    simp only
    conv => lhs; rw [← e]
    exact List.set_getElem_self hk
  rw [this.eq]; rfl
def ChLen (c : ac) : Prop := c.aP.length ≤ 1000 ∧ ∀ e ∈ c.aP, RespLen e.aV
theorem copied_at {c : ac} (h : ChLen c) : gW c = some c := by
  obtain ⟨h1, h2⟩ := h
  unfold gW
  rw [clone_at (by omega), Option.bind_some]
  have : Ok (loopO (fR c.aP) ((0 : Int), c.aP)) (fun o => o = c.aP) := by
    refine Ok.loop (fun s => 0 ≤ s.1 ∧ s.1 ≤ c.aP.length ∧ s.2 = c.aP) (fun s => ((c.aP.length : Int) - s.1).toNat) ?_ ⟨Int.le_refl _, by simp, rfl⟩
    rintro ⟨s2, s3⟩ ⟨i0, i1, i2⟩
    simp only at i0 i1 i2
    subst i2
    unfold fR
    dsimp only
    refine Ok.iteD (fun hlt => ?_) (fun _ => Ok.st rfl)
    refine Ok.bind (Ok.isin (by omega) (by omega)) (fun _ _ => ?_)
    refine Ok.bind (Ok.get (by omega) (by omega)) (fun x hx => ?_)
    rw [copyEpoch_at (h2 x hx.1), Option.bind_some]
    refine Ok.bind (Ok.isin (by omega) (by omega)) (fun _ _ => ?_)
    refine Ok.bind (Ok.set (by omega) (by omega)) (fun y hy => ?_)
    subst hy
    rw [w64 (by omega) (by omega)]
    refine Ok.nx ⟨by simp only; omega, by simp only; omega, ?_⟩ (by simp only; omega)
    obtain ⟨hk, e⟩ := List.getElem?_eq_some_iff.1 hx.2
    simp only
    conv => lhs; rw [← e]
    exact List.set_getElem_self hk
  rw [this.eq]; rfl
structure xE (v : ae) : Prop where
  len : v.aq.length ≤ 1000
  all : ∀ c ∈ v.aq, ChLen c
theorem w8.lens {v : ae} (h : w8 v) : xE v := by
  refine ⟨by have := h.len; omega, fun c hc => ?_⟩
  have hE := (h.all c hc).2
  refine ⟨by have := hE.len; omega, fun e he => ?_⟩
  have hR := (hE.all e he).resp
  exact ⟨by have := hR.1; omega, fun x hx => by have := (hR.2 x hx).2.2; omega⟩

def zCh : ac := ⟨⟨[], [], [], []⟩, []⟩
def zEp : ai := ⟨0, 0, ⟨0, 0⟩, ⟨0, 0, 0⟩, ⟨[]⟩⟩
def chan (v : ae) (s : Sid) : Option ac := v.aq.find? fun c => decide (c.al = s)
def epIn (l : List ai) (t : Int) : Option ai := l.find? fun e => decide (e.aL ≤ t ∧ t < e.fTo)
def epAt (v : ae) (s : Sid) (t : Int) : Option ai := (chan v s).bind fun c => epIn c.aP t
theorem Find_eq {v : ae} (hv : xE v) (s : Sid) : fQ v s = some (match chan v s with | none => (zCh, false) | some c => (c, true)) := by
  have hl := hv.len
  unfold fQ
  rw [loop_find v.aq (p := fun c => decide (c.al = s)) (f := fun c => (c, true)) (fun i hi => ?_) ?_, Option.bind_some]
  · unfold chan
    cases v.aq.find? fun c => decide (c.al = s) <;> rfl
  · unfold iQ
    rw [if_neg (by simp)]
  · unfold iQ
    rw [if_pos (by simp; omega), getO_at rfl hi, Option.bind_some, Sd.eqs, copied_at (hv.all _ (List.getElem_mem hi)), Option.bind_some, w64 (by omega) (by omega)]
    simp
theorem at_eq {c : ac} (hc : c.aP.length ≤ 1000) (t : Int) : lQ c t = some (match epIn c.aP t with | none => (zEp, false) | some e => (e, true)) := by
  unfold lQ
  rw [loop_find c.aP (p := fun e => decide (e.aL ≤ t ∧ t < e.fTo)) (f := fun e => (e, true)) (fun i hi => ?_) ?_, Option.bind_some]
  · unfold epIn
    cases c.aP.find? fun e => decide (e.aL ≤ t ∧ t < e.fTo) <;> rfl
  · unfold j7
    rw [if_neg (by simp)]
  · unfold j7
    rw [if_pos (by simp; omega), getO_at rfl hi, Option.bind_some, w64 (by omega) (by omega)]
    by_cases h1 : c.aP[i].aL ≤ t <;> by_cases h2 : t < c.aP[i].fTo <;> simp [h1, h2]
theorem chan_mem {v : ae} {s : Sid} {c : ac} (h : chan v s = some c) : c ∈ v.aq ∧ c.al = s := by
  unfold chan at h
  exact ⟨List.mem_of_find?_eq_some h, by simpa using List.find?_some h⟩
theorem epIn_mem {l : List ai} {t : Int} {e : ai} (h : epIn l t = some e) : e ∈ l ∧ e.aL ≤ t ∧ t < e.fTo := by
  unfold epIn at h
  have := List.find?_some h
  simp only [decide_eq_true_eq] at this
  exact ⟨List.mem_of_find?_eq_some h, this⟩
theorem At_eq {v : ae} (hv : xE v) (hV : bO v = some true) (s : Sid) (t : Int) : iP v s t = some (match epAt v s t with | none => (zEp, 6) | some e => (e, 0)) := by
  unfold iP
  rw [hV, Option.bind_some, if_neg (by simp), Find_eq hv, Option.bind_some]
  unfold epAt
  cases hc : chan v s with
  | none =>
    dsimp only
    rw [at_eq (by simp [zCh])]
    rfl
  | some c =>
    dsimp only
    rw [at_eq (hv.all c (chan_mem hc).1).1, Option.bind_some, Option.bind_some]
    cases epIn c.aP t <;> rfl

theorem loop_eq {α : Type} {body : Int → Option (Step1 Int (Unit ⊕ Bool))} (a b : List α) (hl : a.length = b.length)
    (h1 : ∀ (i : Nat) (hi : i < a.length) (hi' : i < b.length), (a[i] = b[i] ∧ body i = some (.next ((i + 1 : Nat) : Int))) ∨ (a[i] ≠ b[i] ∧ body i = some (.stop (.inr false))))
    (h2 : body (a.length : Nat) = some (.stop (.inl ()))) : (loopO body (0 : Int) = some (.inl ()) ∧ a = b) ∨ (loopO body (0 : Int) = some (.inr false) ∧ a ≠ b) := by
  have : ∀ k i, i + k = a.length → a.take i = b.take i → (loopO body (i : Int) = some (.inl ()) ∧ a = b) ∨ (loopO body (i : Int) = some (.inr false) ∧ a ≠ b) := by
    intro k
    induction k with
    | zero =>
      intro i hi ht
      obtain rfl : i = a.length := by omega
      refine .inl ⟨loopO_stop h2, ?_⟩
      rw [List.take_length, hl, List.take_length] at ht
      exact ht
    | succ k ih =>
      intro i hi ht
      have hlt : i < a.length := by omega
      rcases h1 i hlt (by omega) with ⟨e, hn⟩ | ⟨e, hn⟩
      · rw [loopO_next hn]
        exact ih (i + 1) (by omega) (by rw [take_succ_at hlt, take_succ_at (by omega), ht, e])
      · exact .inr ⟨loopO_stop hn, fun hab => e (by subst hab; rfl)⟩
  have := this a.length 0 (by omega) (by simp)
  simpa using this
theorem Equal_eq {a b : List Int} (h : a.length ≤ 1000) : gY a b = some (decide (a = b)) := by
  unfold gY
  by_cases hl : a.length = b.length
  · rw [if_neg (by simp [hl])]
    have key : (loopO (dE a b) (0 : Int) = some (.inl ()) ∧ a = b) ∨ (loopO (dE a b) (0 : Int) = some (.inr false) ∧ a ≠ b) := by
      refine loop_eq a b hl (fun i hi hi' => ?_) ?_
      · unfold dE
        rw [if_pos (by simp; omega), getO_at rfl hi, getO_at rfl hi', Option.bind_some, Option.bind_some, w64 (by omega) (by omega)]
        by_cases e : a[i] = b[i] <;> simp [e]
      · unfold dE
        rw [if_neg (by simp)]
    rcases key with ⟨e, hab⟩ | ⟨e, hab⟩
    · rw [e]; simp [hab]
    · rw [e]; simp [hab]
  · rw [if_pos (by simpa using fun e : (a.length : Int) = b.length => hl (by omega))]
    simp [show a ≠ b from fun e => hl (by rw [e])]
theorem arr_eq (a b : aU) : ((a.a0 == b.a0) && ((a.a1 == b.a1) && ((a.a2 == b.a2) && true))) = decide (a = b) := by
  obtain ⟨x, y, z⟩ := a
  obtain ⟨x', y', z'⟩ := b
  simp only [aU.mk.injEq]
  by_cases e1 : x = x' <;> by_cases e2 : y = y' <;> by_cases e3 : z = z' <;> simp [e1, e2, e3]
theorem pos_eq (a b : ap) : ((a.fX == b.fX) && ((a.fY == b.fY) && ((a.fZ == b.fZ) && true))) = decide (a = b) := by
  obtain ⟨x, y, z⟩ := a
  obtain ⟨x', y', z'⟩ := b
  simp only [ap.mk.injEq]
  by_cases e1 : x = x' <;> by_cases e2 : y = y' <;> by_cases e3 : z = z' <;> simp [e1, e2, e3]
theorem Stage_eq {a b : ar} (h : a.br.length ≤ 1000) : fx a b = some (decide (a = b)) := by
  unfold fx
  rw [arr_eq, arr_eq, Equal_eq h]
  obtain ⟨k, n, d, t, f, s⟩ := a
  obtain ⟨k', n', d', t', f', s'⟩ := b
  simp only [ar.mk.injEq]
  by_cases e1 : k = k'
  rotate_left
  · simp [e1]
  by_cases e2 : n = n'
  rotate_left
  · simp [e1, e2]
  by_cases e3 : d = d'
  rotate_left
  · simp [e1, e2, e3]
  by_cases e4 : t = t'
  rotate_left
  · simp [e1, e2, e3, e4]
  by_cases e5 : f = f' <;> by_cases e6 : s = s' <;> simp [e1, e2, e3, e4, e5, e6]
theorem Same_eq {a b : aD} (h : RespLen a) : jd a b = some (decide (a = b)) := by
  obtain ⟨h1, h2⟩ := h
  obtain ⟨a⟩ := a
  obtain ⟨b⟩ := b
  simp only at h1 h2
  unfold jd cV
  simp only [aD.mk.injEq]
  by_cases hl : a.length = b.length
  · rw [if_neg (by simp [hl])]
    have key : (loopO (bL a b) (0 : Int) = some (.inl ()) ∧ a = b) ∨ (loopO (bL a b) (0 : Int) = some (.inr false) ∧ a ≠ b) := by
      refine loop_eq a b hl (fun i hi hi' => ?_) ?_
      · unfold bL
        rw [if_pos (by simp; omega), getO_at rfl hi, getO_at rfl hi', Option.bind_some, Option.bind_some, Stage_eq (h2 _ (List.getElem_mem hi)), Option.bind_some, w64 (by omega) (by omega)]
        by_cases e : a[i] = b[i] <;> simp [e]
      · unfold bL
        rw [if_neg (by simp)]
    rcases key with ⟨e, hab⟩ | ⟨e, hab⟩
    · rw [e]; simp [hab]
    · rw [e]; simp [hab]
  · rw [if_pos (by simpa using fun e : (a.length : Int) = b.length => hl (by omega))]
    simp [show a ≠ b from fun e => hl (by rw [e])]

def epPR (e : ai) : ap × aD := (e.aF, e.aV)
def Chg (a b : ae) (p : Pick) : Prop := (epAt a p.al p.aN).map epPR ≠ (epAt b p.al p.aN).map epPR
instance (a b : ae) (p : Pick) : Decidable (Chg a b p) := inferInstanceAs (Decidable (_ ≠ _))
theorem epAt_len {v : ae} (hv : xE v) {s : Sid} {t : Int} {e : ai} (h : epAt v s t = some e) : RespLen e.aV := by
  unfold epAt at h
  cases hc : chan v s with
  | none => rw [hc] at h; cases h
  | some c =>
    rw [hc] at h
    exact (hv.all c (chan_mem hc).1).2 e (epIn_mem h).1
theorem Changed_eq {a b : ae} (ha : xE a) (hb : xE b) (hA : bO a = some true) (hB : bO b = some true) (p : Pick) : cr a b p = some (decide (Chg a b p)) := by
  unfold cr
  rw [At_eq ha hA, At_eq hb hB, Option.bind_some, Option.bind_some]
  show _ = some (decide ((epAt a p.al p.aN).map epPR ≠ (epAt b p.al p.aN).map epPR))
  generalize hx : epAt a p.al p.aN = ox
  generalize epAt b p.al p.aN = oy
  cases ox with
  | none => cases oy <;> simp
  | some x =>
    cases oy with
    | none => simp
    | some y =>
      dsimp only
      rw [if_neg (by simp), if_neg (by simp), pos_eq, Same_eq (epAt_len ha hx), Option.bind_some]
      simp only [Option.map_some, ne_eq, Option.some.injEq, epPR, Prod.mk.injEq]
      by_cases e1 : x.aF = y.aF <;> by_cases e2 : x.aV = y.aV <;> simp [e1, e2]
end Go.Dw.De


set_option maxRecDepth 100000
set_option maxHeartbeats 4000000
namespace Go.Dw.De
open Go.Dw Go.Proofs
open Sd (t7 ur ut)

theorem eqK_eq (a b : Pick) : pg a b = decide (a = b) := eqs a b
theorem mGet_put {κ β : Type} [DecidableEq κ] {eq : κ → κ → Bool} (he : ∀ a b, eq a b = decide (a = b)) (k : κ) (v z : β) (k' : κ) : ∀ m : List (κ × β), mGet eq k' z (mPut eq k v m) = if k' = k then v else mGet eq k' z m
  | [] => by simp [mPut, mGet, he]
  | e :: r => by
    have ih := mGet_put he k v z k' r
    unfold mPut
    rw [he]
    by_cases h : k = e.1
    · rw [if_pos (by simpa using h)]
      unfold mGet
      rw [he, he]
      by_cases h' : k' = k
      · rw [if_pos (by simpa using h'), if_pos h']
      · rw [if_neg (by simpa using h'), if_neg h', if_neg (by rw [← h]; simpa using h')]
    · rw [if_neg (by simpa using h)]
      unfold mGet
      rw [he, ih]
      by_cases h' : k' = e.1 <;> by_cases h2 : k' = k <;> simp_all
abbrev home (p : Pick) (m : List (Pick × Int)) : Int := mGet pg p (0 : Int) m
structure Home (X : List (List Pick)) (m : List (Pick × Int)) : Prop where
  at_ : ∀ (j : Nat) (h : j < X.length) (p : Pick), p ∈ X[j] → home p m = j + 1
  no : ∀ p, p ∉ X.flatten → home p m = 0
theorem l25_ok (g : List Pick) (hg : g.length ≤ 1000) (i : Int) (hi : 0 ≤ i ∧ i ≤ 1000) (m : List (Pick × Int)) :
    Ok (loopO (fK g i) ((0 : Int), m)) (fun o => o.1 = i ∧ ∀ p, home p o.2 = if p ∈ g then i + 1 else home p m) := by
  refine Ok.loop (fun s => ∃ k : Nat, s.1 = k ∧ k ≤ g.length ∧ ∀ p, home p s.2 = if p ∈ g.take k then i + 1 else home p m) (fun s => ((g.length : Int) - s.1).toNat) ?_ ⟨0, rfl, Nat.zero_le _, by simp⟩
  rintro ⟨s1, s2⟩ ⟨k, i0, i1, i2⟩
  simp only at i0 i1 i2
  subst i0
  unfold fK
  dsimp only
  refine Ok.iteD (fun hlt => ?_) (fun hge => ?_)
  · have hk : k < g.length := by omega
    rw [getO_at rfl hk, Option.bind_some, w64 (n := i + 1) (by omega) (by omega), w64 (by omega) (by omega)]
    refine Ok.nx ⟨k + 1, by simp, by omega, fun p => ?_⟩ (by simp only; omega)
    simp only
    unfold home at i2 ⊢
    rw [mGet_put eqK_eq, i2 p, take_succ_at hk]
    simp only [List.mem_append, List.mem_singleton]
    by_cases e : p = g[k] <;> by_cases e' : p ∈ g.take k <;> simp [e, e']
  · have : k = g.length := by omega
    subst this
    exact Ok.st ⟨rfl, by simpa using i2⟩
theorem l27_ok (X : List (List Pick)) (hX : X.length ≤ 1000) (hg : ∀ g ∈ X, g.length ≤ 1000) (hn : X.flatten.Nodup) : Ok (loopO (fM X) ((0 : Int), [])) (Home X) := by
  obtain ⟨-, hd⟩ := List.pairwise_flatten.1 hn
  refine Ok.loop (fun s => ∃ i : Nat, s.1 = i ∧ i ≤ X.length ∧ (∀ (j : Nat) (h : j < X.length) (p : Pick), j < i → p ∈ X[j] → home p s.2 = j + 1) ∧ ∀ p, p ∉ (X.take i).flatten → home p s.2 = 0) (fun s => ((X.length : Int) - s.1).toNat) ?_ ⟨0, rfl, Nat.zero_le _, fun j h p hj => by omega, fun p _ => rfl⟩
  rintro ⟨s1, s2⟩ ⟨i, i0, i1, i2, i3⟩
  simp only at i0 i1 i2 i3
  subst i0
  unfold fM
  dsimp only
  refine Ok.iteD (fun hlt => ?_) (fun hge => ?_)
  · have hk : i < X.length := by omega
    rw [getO_at rfl hk, Option.bind_some]
    refine Ok.bind (l25_ok X[i] (hg _ (List.getElem_mem hk)) i ⟨by omega, by omega⟩ s2) (fun o ho => ?_)
    obtain ⟨o1, o2⟩ := ho
    rw [o1, w64 (by omega) (by omega)]
    refine Ok.nx ⟨i + 1, by simp, by omega, fun j h p hj hp => ?_, fun p hp => ?_⟩ (by simp only; omega)
    · simp only
      rw [o2]
      by_cases e : j = i
      · subst e
        rw [if_pos hp]
      · have hji : j < i := by omega
        have := List.pairwise_iff_getElem.1 hd j i h hk hji
        rw [if_neg (fun h' => this p hp p h' rfl), i2 j h p hji hp]
    · simp only
      rw [take_succ_at hk, List.flatten_append, List.mem_append] at hp
      have h1 : p ∉ X[i] := fun h => hp (.inr (by simpa using h))
      rw [o2, if_neg h1]
      exact i3 p fun h => hp (.inl h)
  · have : i = X.length := by omega
    subst this
    exact Ok.st ⟨fun j h p hp => i2 j h p h hp, by simpa using i3⟩

def anyB (m : List (Pick × Int)) (a b : ae) (k : Int) (g : List Pick) : Bool := g.any fun p => decide (home p m ≠ k) || decide (Chg a b p)
def frB (X : List (List Pick)) (m : List (Pick × Int)) (a b : ae) (g : List Pick) : Bool :=
  decide (home (g.headD ⟨⟨[], [], [], []⟩, 0, 0, 0, 0, 0⟩) m ≠ 0) && (decide ((X.getD (home (g.headD ⟨⟨[], [], [], []⟩, 0, 0, 0, 0, 0⟩) m - 1).toNat []).length = g.length) && !anyB m a b (home (g.headD ⟨⟨[], [], [], []⟩, 0, 0, 0, 0, 0⟩) m) g)
def lI (X : List (List Pick)) (m : List (Pick × Int)) (a b : ae) (Y : List (List Pick)) (n : Nat) : List Int := ((List.range n).filter fun j => !frB X m a b (Y.getD j [])).map fun j : Nat => (j : Int)
structure IV (v : ae) : Prop where
  len : xE v
  val : bO v = some true
theorem w8.iv {v : ae} (h : w8 v) : IV v := ⟨h.lens, inv_valid h⟩
theorem contains_eq (g : List Pick) (hg : g.length ≤ 1000) (k : Int) {a b : ae} (ha : IV a) (hb : IV b) (m : List (Pick × Int)) : ca g k a b m = some (anyB m a b k g) := by
  unfold ca cW
  have h1 : ∀ (i : Nat) (hi : i < g.length), bM g k a b m (i : Int) = if (decide (home g[i] m ≠ k) || decide (Chg a b g[i])) = true then some (.stop (.inr (i : Int))) else some (.next ((i + 1 : Nat) : Int)) := by
    intro i hi
    unfold bM
    rw [if_pos (by simp; omega), getO_at rfl hi, Option.bind_some, w64 (by omega) (by omega)]
    unfold fk
    rw [Changed_eq ha.len hb.len ha.val hb.val]
    by_cases e1 : home g[i] m = k
    · rw [if_neg (by simpa using e1)]
      by_cases e2 : Chg a b g[i] <;> simp [e1, e2]
    · rw [if_pos (by simpa using e1)]
      simp [e1]
  have h2 : bM g k a b m (g.length : Nat) = some (.stop (.inl ())) := by
    unfold bM
    rw [if_neg (by simp)]
  rcases loop_first g (p := fun x => decide (home x m ≠ k) || decide (Chg a b x)) (f := fun i _ => (i : Int)) h1 h2 with ⟨e, h⟩ | ⟨i, hi, e, hp, h⟩
  · rw [e]
    have : anyB m a b k g = false := by
      unfold anyB
      rw [List.any_eq_false]
      intro x hx
      rw [h x hx]; simp
    rw [this]; rfl
  · rw [e]
    have : anyB m a b k g = true := by
      unfold anyB
      rw [List.any_eq_true]
      exact ⟨g[i], List.getElem_mem hi, hp⟩
    rw [this]
    simp
theorem l45_ok (X Y : List (List Pick)) (m : List (Pick × Int)) {a b : ae} (ha : IV a) (hb : IV b) (hX : X.length ≤ 1000) (hXg : ∀ g ∈ X, g.length ≤ 1000) (hm : Home X m) (hY : Y.length ≤ 1000) (hg : ∀ g ∈ Y, g ≠ [] ∧ g.length ≤ 1000) :
    loopO (fN Y m X a b) ((0 : Int), []) = some (lI X m a b Y Y.length) := by
  refine Ok.eq (Ok.loop (fun s => ∃ i : Nat, s = ((i : Int), lI X m a b Y i) ∧ i ≤ Y.length) (fun s => ((Y.length : Int) - s.1).toNat) ?_ ⟨0, rfl, Nat.zero_le _⟩)
  rintro s ⟨i, rfl, hi⟩
  unfold fN
  dsimp only
  refine Ok.iteD (fun hlt => ?_) (fun hge => ?_)
  rotate_left
  · have : i = Y.length := by omega
    subst this
    exact Ok.st rfl
  have hk : i < Y.length := by omega
  obtain ⟨hne, hgl⟩ := hg _ (List.getElem_mem hk)
  have hsl : (lI X m a b Y i).length ≤ 1000 := by
    unfold lI
    have := List.length_filter_le (fun j => !frB X m a b (Y.getD j [])) (List.range i)
    rw [List.length_range] at this
    rw [List.length_map]; omega
  have hsucc : lI X m a b Y (i + 1) = lI X m a b Y i ++ if frB X m a b Y[i] = true then [] else [(i : Int)] := by
    unfold lI
    rw [List.range_succ, List.filter_append, List.map_append]
    congr 1
    have : Y.getD i [] = Y[i] := by rw [List.getD_eq_getElem?_getD, List.getElem?_eq_getElem hk]; rfl
    simp only [List.filter_cons, List.filter_nil, this]
    cases frB X m a b Y[i] <;> simp
  have hyes : frB X m a b Y[i] = false → Ok ((appO (lI X m a b Y i) [(i : Int)] 8).bind fun x38 => some (.next ((IntKind.wrap .i64 ((i : Int) + (1 : Int))), x38))) (Ok.S (fun s => ∃ i : Nat, s = ((i : Int), lI X m a b Y i) ∧ i ≤ Y.length) (fun s => ((Y.length : Int) - s.1).toNat) (fun o => o = lI X m a b Y Y.length) ((i : Int), lI X m a b Y i)) := fun h => by
    rw [yp (by simp only [List.length_cons, List.length_nil]; omega), Option.bind_some, w64 (by omega) (by omega)]
    exact Ok.nx ⟨i + 1, by rw [hsucc, h]; simp, by omega⟩ (by simp only; omega)
  rw [getO_at rfl hk, Option.bind_some]
  have hfr : frB X m a b Y[i] = (decide (home (Y[i].headD ⟨⟨[], [], [], []⟩, 0, 0, 0, 0, 0⟩) m ≠ 0) && (decide ((X.getD (home (Y[i].headD ⟨⟨[], [], [], []⟩, 0, 0, 0, 0, 0⟩) m - 1).toNat []).length = Y[i].length) && !anyB m a b (home (Y[i].headD ⟨⟨[], [], [], []⟩, 0, 0, 0, 0, 0⟩) m) Y[i])) := rfl
  generalize Y[i] = g at *
  rcases g with _ | ⟨p0, g'⟩
  · exact (hne rfl).elim
  rw [show getO (p0 :: g') (0 : Int) = some p0 from rfl, Option.bind_some]
  rw [List.headD_cons] at hfr
  generalize hg' : p0 :: g' = g at *
  show Ok (if (home p0 m == (0 : Int)) = true then _ else _) _
  refine Ok.iteE (fun h0 => hyes (by rw [hfr]; simp [h0])) (fun h0 => ?_)
  have hin : p0 ∈ X.flatten := by
    apply Classical.byContradiction
    intro h
    exact h0 (hm.no p0 h)
  obtain ⟨x, hx, hpx⟩ := List.mem_flatten.1 hin
  obtain ⟨j, hj, rfl⟩ := List.getElem_of_mem hx
  have hj1 := hm.at_ j hj p0 hpx
  have hxl := hXg _ hx
  show Ok ((getO X (IntKind.wrap .i64 (home p0 m - 1))).bind _) _
  have hgd : X.getD (home p0 m - 1).toNat [] = X[j] := by
    rw [hj1, show ((j : Int) + 1 - 1).toNat = j by omega, List.getD_eq_getElem?_getD, List.getElem?_eq_getElem hj]; rfl
  rw [hgd] at hfr
  rw [w64 (by omega) (by omega), getO_at (i := j) (by omega) hj, Option.bind_some]
  refine Ok.iteNe (fun h1 => hyes ?_) (fun h1 => ?_)
  · rw [hfr, decide_eq_false (show ¬ X[j].length = g.length by omega)]; simp
  rw [show mGet pg p0 (0 : Int) m = home p0 m from rfl, contains_eq g hgl _ ha hb, Option.bind_some]
  refine Ok.iteB (fun h2 => hyes ?_) (fun h2 => ?_)
  · rw [hfr, h2]; simp
  · rw [w64 (by omega) (by omega)]
    refine Ok.nx ⟨i + 1, ?_, by omega⟩ (by simp only; omega)
    have : frB X m a b g = true := by
      rw [hfr, h2, decide_eq_true (show home p0 m ≠ 0 from h0), decide_eq_true (show X[j].length = g.length by omega)]; rfl
    rw [hsucc, this]; simp
theorem wU.facts {n : Int} {l : List Pick} {X : List (List Pick)} (h : wU n l X) (hl : l.length ≤ 1000) : X.length ≤ 1000 ∧ (∀ g ∈ X, g ≠ [] ∧ g.length ≤ 1000) ∧ X.flatten.Nodup ∧ ∀ p, p ∈ X.flatten ↔ p ∈ l := by
  obtain ⟨s, e1, e2, e3, e4, e5⟩ := h.flat
  have hfl : X.flatten.length = s.length := e5.length_eq
  refine ⟨by have := len_le h.ne; omega, fun g hg => ⟨h.ne g hg, by have := (List.sublist_flatten_of_mem hg).length_le; omega⟩, ?_, fun p => e5.mem_iff.trans (e4 p)⟩
  refine e5.nodup_iff.2 (e3.imp fun {a b} h e => ?_)
  subst e
  have := gn.refl a
  omega
theorem Stale_ok (n : Int) (h0 : 0 ≤ n) (h1 : n ≤ 1099511627776) (l q : List Pick) (hl : l.length ≤ 20) (hr : ∀ p ∈ l, nk p) (hl' : q.length ≤ 20) (hr' : ∀ p ∈ q, nk p) {a b : ae} (ha : IV a) (hb : IV b) :
    Ok (gU n l q a b) (fun r => r.2 = 0 ∧ ∃ X Y m, ct n l = some X ∧ ct n q = some Y ∧ wU n l X ∧ wU n q Y ∧ Home X m ∧ r.1 = lI X m a b Y Y.length) := by
  unfold gU
  refine Ok.iteD (fun _ => by omega) (fun _ => Ok.iteD (fun _ => by omega) (fun _ => ?_))
  rw [w6 (by omega) hr, Option.bind_some, if_neg (by simp), w6 (by omega) hr', Option.bind_some, if_neg (by simp), ha.val, Option.bind_some, if_neg (by simp), hb.val, Option.bind_some, if_neg (by simp)]
  refine Ok.bind (xJ n l hl hr).name fun X hX => ?_
  obtain ⟨x1, x2, x3, x4⟩ := hX.2.facts (by omega)
  refine Ok.bind (l27_ok X x1 (fun g hg => (x2 g hg).2) x3) fun m hm => ?_
  refine Ok.bind (xJ n q hl' hr').name fun Y hY => ?_
  obtain ⟨y1, y2, y3, y4⟩ := hY.2.facts (by omega)
  rw [l45_ok X Y m ha hb x1 (fun g hg => (x2 g hg).2) hm y1 y2, Option.bind_some]
  exact Ok.ret ⟨rfl, X, Y, m, hX.1, hY.1, hX.2, hY.2, hm, rfl⟩
theorem mem_staleL {X Y : List (List Pick)} {m : List (Pick × Int)} {a b : ae} {i : Nat} (hi : i < Y.length) (h : frB X m a b Y[i] = false) : (i : Int) ∈ lI X m a b Y Y.length := by
  unfold lI
  refine List.mem_map.2 ⟨i, List.mem_filter.2 ⟨List.mem_range.2 hi, ?_⟩, rfl⟩
  have : Y.getD i [] = Y[i] := by rw [List.getD_eq_getElem?_getD, List.getElem?_eq_getElem hi]; rfl
  rw [this, h]; rfl
theorem staleL_nil {X Y : List (List Pick)} {m : List (Pick × Int)} {a b : ae} (h : ∀ (i : Nat) (hi : i < Y.length), frB X m a b Y[i] = true) : lI X m a b Y Y.length = [] := by
  unfold lI
  rw [List.filter_eq_nil_iff.2]
  · rfl
  · intro j hj
    have hj := List.mem_range.1 hj
    have : Y.getD j [] = Y[j] := by rw [List.getD_eq_getElem?_getD, List.getElem?_eq_getElem hj]; rfl
    rw [this, h j hj]; simp
theorem same_fresh {X : List (List Pick)} {m : List (Pick × Int)} {a : ae} (hm : Home X m) (hne : ∀ g ∈ X, g ≠ []) (i : Nat) (hi : i < X.length) : frB X m a a X[i] = true := by
  have hne := hne _ (List.getElem_mem hi)
  have hat := hm.at_ i hi
  unfold frB
  obtain ⟨p0, g', hg⟩ := List.exists_cons_of_ne_nil hne
  have h0 : X[i].headD ⟨⟨[], [], [], []⟩, 0, 0, 0, 0, 0⟩ = p0 := by rw [hg]; rfl
  rw [h0, hat p0 (by rw [hg]; simp), show ((i : Int) + 1 - 1).toNat = i by omega, List.getD_eq_getElem?_getD, List.getElem?_eq_getElem hi, Option.getD_some]
  have : anyB m a a ((i : Int) + 1) X[i] = false := by
    unfold anyB
    rw [List.any_eq_false]
    intro p hp
    rw [hat p hp]
    have : ¬ Chg a a p := fun h => h rfl
    simp [this]
  rw [this, decide_eq_true rfl, decide_eq_true (show ((i : Int) + 1) ≠ 0 by omega)]; rfl
theorem must_stale {X : List (List Pick)} {m : List (Pick × Int)} {a b : ae} (hm : Home X m) {g : List Pick} {l : List Pick} (hl : ∀ p, p ∈ X.flatten ↔ p ∈ l) (h : ∃ y ∈ g, y ∉ l ∨ Chg a b y) : frB X m a b g = false := by
  obtain ⟨y, hy, h⟩ := h
  unfold frB
  generalize g.headD ⟨⟨[], [], [], []⟩, 0, 0, 0, 0, 0⟩ = p0
  by_cases h0 : home p0 m = 0
  · simp [h0]
  have : anyB m a b (home p0 m) g = true := by
    unfold anyB
    rw [List.any_eq_true]
    refine ⟨y, hy, ?_⟩
    rcases h with h | h
    · rw [hm.no y fun e => h ((hl y).1 e)]
      have : (0 : Int) ≠ home p0 m := fun e => h0 e.symm
      simp [this]
    · simp [h]
  rw [this]; simp

theorem replaced_ok (l o : List Pick) (hl : l.length ≤ 100) (ho : o.length ≤ 100) (h1 : ∀ p ∈ l, nk p) (h2 : ∀ p ∈ o, nk p) (d : Src) (hd : cm d) :
    Ok (jH l o d) (fun r => (r.1.length ≤ l.length + 1 ∧ ∀ p ∈ r.1, nk p) ∧ cm r.2) := by
  unfold jH
  refine Ok.bind (P := fun x : List Int × Int × List Pick => cm ⟨x.1, x.2.1⟩ ∧ x.2.2.length ≤ l.length ∧ ∀ p ∈ x.2.2, nk p) (Ok.loop (fun s : Int × List Int × Int × List Pick => (0 ≤ s.1 ∧ s.1 ≤ l.length) ∧ cm ⟨s.2.1, s.2.2.1⟩ ∧ s.2.2.2.length ≤ s.1.toNat ∧ ∀ p ∈ s.2.2.2, nk p) (fun s => ((l.length : Int) - s.1).toNat) ?_ ⟨⟨Int.le_refl _, by simp⟩, hd, by simp, by simp⟩) ?_
  · rintro ⟨s1, s2, s3, s4⟩ ⟨⟨i0, i1⟩, i2, i3, i4⟩
    simp only at i0 i1 i2 i3 i4
    unfold lK
    dsimp only
    refine Ok.iteD (fun hlt => ?_) (fun _ => Ok.st ⟨i2, by simp only; omega, i4⟩)
    refine Ok.bind (fo _ _ i2 (by omega) (by omega)) (fun y1 g1 => ?_)
    rw [w64 (by omega) (by omega)]
    refine Ok.iteD (fun _ => ?_) (fun _ => Ok.nx ⟨⟨by simp only; omega, by simp only; omega⟩, g1.2.2, by simp only; omega, i4⟩ (by simp only; omega))
    refine Ok.bind (Ok.get i0 (by omega)) (fun x hx => ?_)
    refine Ok.bind (Ok.app (by simp only [List.length_cons, List.length_nil]; omega)) (fun y hy => ?_)
    subst hy
    refine Ok.nx ⟨⟨by simp only; omega, by simp only; omega⟩, g1.2.2, by simp only [List.length_append, List.length_cons, List.length_nil]; omega, fun p hp => ?_⟩ (by simp only; omega)
    simp only [List.mem_append, List.mem_singleton] at hp
    rcases hp with hp | rfl
    · exact i4 p hp
    · exact h1 _ hx.1
  · rintro ⟨x1, x2, x3⟩ ⟨e1, e2, e3⟩
    simp only at e1 e2 e3
    refine Ok.bind (fo _ _ e1 (by omega) (by omega)) (fun y1 g1 => ?_)
    refine Ok.iteE (fun _ => ?_) (fun _ => Ok.ret ⟨⟨by simp only; omega, e3⟩, g1.2.2⟩)
    refine Ok.iteD (fun hlt => ?_) (fun _ => Ok.ret ⟨⟨by simp only; omega, e3⟩, g1.2.2⟩)
    refine Ok.bind (fo _ _ g1.2.2 (by omega) (by omega)) (fun y2 g2 => ?_)
    refine Ok.bind (Ok.get g2.1 g2.2.1) (fun x hx => ?_)
    refine Ok.bind (Ok.app (by simp only [List.length_cons, List.length_nil]; omega)) (fun y hy => ?_)
    subst hy
    refine Ok.ret ⟨⟨by simp only [List.length_append, List.length_cons, List.length_nil]; omega, fun p hp => ?_⟩, g2.2.2⟩
    simp only [List.mem_append, List.mem_singleton] at hp
    rcases hp with hp | rfl
    · exact e3 p hp
    · exact h2 _ hx.1
theorem in_ok {l : List Int} (hl : l.length ≤ 1000) {x : Int} (hx : x ∈ l) : wZ l x = some true := by
  unfold wZ
  have h1 : ∀ (i : Nat) (hi : i < l.length), nz l x (i : Int) = if decide (l[i] = x) = true then some (.stop (.inr true)) else some (.next ((i + 1 : Nat) : Int)) := by
    intro i hi
    unfold nz
    rw [if_pos (by simp; omega), getO_at rfl hi, Option.bind_some, w64 (by omega) (by omega)]
    by_cases e : l[i] = x <;> simp [e]
  have h2 : nz l x (l.length : Nat) = some (.stop (.inl ())) := by
    unfold nz
    rw [if_neg (by simp)]
  have e := loop_find l (p := fun y => decide (y = x)) (f := fun _ => true) h1 h2
  rw [e]
  cases h : l.find? (fun y => decide (y = x)) with
  | none => exact absurd (List.find?_eq_none.1 h x hx) (by simp)
  | some y => rfl
theorem l41_ok (x4 : List Pick × Src) (y : Pick) (i : Int) (mu : Bool) (i' k : Int) (hl : x4.1.length ≤ 1000) : loopO (dx x4 y i mu i' k) (false, (0 : Int)) = some (i, mu, decide (y ∈ x4.1), i', k) := by
  refine Ok.eq (Ok.loop (fun s => ∃ j : Nat, s = (decide (y ∈ x4.1.take j), (j : Int)) ∧ j ≤ x4.1.length) (fun s => ((x4.1.length : Int) - s.2).toNat) ?_ ⟨0, by simp, Nat.zero_le _⟩)
  rintro s ⟨j, rfl, hj⟩
  unfold dx
  dsimp only
  refine Ok.iteD (fun hlt => ?_) (fun hge => ?_)
  · have hk : j < x4.1.length := by omega
    have hs : decide (y ∈ x4.1.take (j + 1)) = (decide (y ∈ x4.1.take j) || decide (y = x4.1[j])) := by
      have : y ∈ x4.1.take (j + 1) ↔ y ∈ x4.1.take j ∨ y = x4.1[j] := by rw [take_succ_at hk, List.mem_append, List.mem_singleton]
      rw [decide_eq_decide.2 this, Bool.decide_or]
    rw [getO_at rfl hk, Option.bind_some, w64 (by omega) (by omega)]
    refine Ok.iteB (fun h => Ok.nx ⟨j + 1, by rw [hs, h]; simp, by omega⟩ (by simp only; omega)) (fun h => ?_)
    have he := eqs y x4.1[j]
    unfold eqF at he
    rw [he]
    exact Ok.nx ⟨j + 1, by rw [hs, h]; simp, by omega⟩ (by simp only; omega)
  · have : j = x4.1.length := by omega
    subst this
    exact Ok.st (by rw [List.take_length])
theorem l46_ok (g : List Pick) (x4 : List Pick × Src) (x3 x8 : ae × Src) (i : Int) (hg : g.length ≤ 1000) (hl : x4.1.length ≤ 1000) (ha : IV x3.1) (hb : IV x8.1) :
    Ok (loopO (dy g x4 x3 x8) (i, false, i, (0 : Int))) (fun o => o.1 = i ∧ o.2.2 = i ∧ (o.2.1 = true → ∃ y ∈ g, y ∉ x4.1 ∨ Chg x3.1 x8.1 y)) := by
  refine Ok.loop (fun s => s.1 = i ∧ s.2.2.1 = i ∧ (0 ≤ s.2.2.2 ∧ s.2.2.2 ≤ g.length) ∧ (s.2.1 = true → ∃ y ∈ g, y ∉ x4.1 ∨ Chg x3.1 x8.1 y)) (fun s => ((g.length : Int) - s.2.2.2).toNat) ?_ ⟨rfl, rfl, ⟨Int.le_refl _, by simp⟩, by simp⟩
  rintro ⟨s1, s2, s3, s4⟩ ⟨i0, i1, ⟨i2, i3⟩, i4⟩
  simp only at i0 i1 i2 i3 i4
  subst i0
  unfold dy
  dsimp only
  refine Ok.iteD (fun hlt => ?_) (fun _ => Ok.st ⟨rfl, i1, i4⟩)
  refine Ok.bind (Ok.get i2 (by omega)) (fun y hy => ?_)
  rw [l41_ok x4 y s1 s2 s3 s4 hl, Option.bind_some]
  dsimp only
  rw [w64 (by omega) (by omega)]
  refine Ok.iteB (fun h => Ok.nx ⟨rfl, i1, ⟨by simp only; omega, by simp only; omega⟩, fun _ => i4 h⟩ (by simp only; omega)) (fun _ => ?_)
  refine Ok.iteND (fun h => Ok.nx ⟨rfl, i1, ⟨by simp only; omega, by simp only; omega⟩, fun _ => ⟨y, hy.1, .inl h⟩⟩ (by simp only; omega)) (fun _ => ?_)
  rw [Changed_eq ha.len hb.len ha.val hb.val, Option.bind_some]
  exact Ok.nx ⟨rfl, i1, ⟨by simp only; omega, by simp only; omega⟩, fun h => ⟨y, hy.1, .inr (by simpa using h)⟩⟩ (by simp only; omega)
theorem w7 (l : List Int) : kz l = some true := by
  refine Ok.eq ?_
  unfold kz
  refine Ok.bind (new_ok l) (fun x1 h1 => ?_)
  refine Ok.bind (settings_ok x1 h1) (fun x2 h2 => ?_)
  refine Ok.bind (sitesV _ h2.2) (fun x3 h3 => ?_)
  refine Ok.bind (picks_ok x2.1 h2.1 x3.1 h3.1.inv 9 (by omega) _ h3.2) (fun x4 h4 => ?_)
  obtain ⟨⟨hlen, hpk⟩, h4⟩ := h4
  refine Ok.bind (jS _ _ h4 (by simp) (by simp)) (fun x5 h5 => ?_)
  have hn : 0 ≤ x5.1 ∧ x5.1 ≤ 400 := by have := h5.1; simp at this; omega
  refine Ok.bind (picks_ok x2.1 h2.1 x3.1 h3.1.inv 3 (by omega) _ h5.2) (fun x6 h6 => ?_)
  refine Ok.bind (replaced_ok x4.1 x6.1 (by omega) (by have := h6.1.1; omega) hpk h6.1.2 _ h6.2) (fun x7 h7 => ?_)
  refine Ok.bind (correctedV x3.1 h3.1 _ h7.2) (fun x8 h8 => ?_)
  have ha := h3.1.iv
  have hb := h8.1.iv
  refine Ok.bind (Stale_ok x5.1 hn.1 (by omega) x4.1 x4.1 (by omega) hpk (by omega) hpk ha ha) (fun x9 h9 => ?_)
  refine Ok.bind (Stale_ok x5.1 hn.1 (by omega) x4.1 x7.1 (by omega) hpk (by have := h7.1.1; omega) h7.1.2 ha hb) (fun x10 h10 => ?_)
  refine Ok.bind (Batches_ok x5.1 hn.1 (by omega) x7.1 (by have := h7.1.1; omega) h7.1.2).name (fun x11 h11 => ?_)
  obtain ⟨c9, X, X', m, e1, e2, b1, b2, hm, e3⟩ := h9
  obtain ⟨c10, Z, Y, m', f1, f2, d1, d2, hm', f3⟩ := h10
  obtain ⟨g0, c11, g1⟩ := h11
  rw [c9, c10, c11, if_neg (by simp), if_neg (by simp), if_neg (by simp)]
  have hXX : X = X' := by rw [e1] at e2; exact Option.some.inj e2
  subst hXX
  have h9n : x9.1 = [] := by rw [e3]; exact staleL_nil fun i hi => same_fresh hm b1.ne i hi
  rw [h9n, if_neg (by simp)]
  have hYx : x11.1 = Y := by
    have : bW x5.1 x7.1 = some (Y, 0) := by
      unfold bW
      rw [if_neg (by simp; omega), if_neg (by simp; omega), w6 (by have := h7.1.1; omega) h7.1.2, Option.bind_some, if_neg (by simp), f2]; rfl
    rw [this] at g0
    rw [← Option.some.inj g0]
  obtain ⟨y1, y2, y3, y4⟩ := d2.facts (by have := h7.1.1; omega)
  obtain ⟨z1, z2, z3, z4⟩ := d1.facts (by omega)
  have hst : x10.1.length ≤ 1000 := by
    rw [f3]
    unfold lI
    have := List.length_filter_le (fun j => !frB Z m' x3.1 x8.1 (Y.getD j [])) (List.range Y.length)
    rw [List.length_range] at this
    rw [List.length_map]; omega
  have hloop : loopO (dz x11 x4 x3 x8 x10) (0 : Int) = some (.inl ()) := by
    refine Ok.eq (Ok.upto Y.length (by omega) (fun _ => True) trivial (fun i i0 i1 _ => ?_))
    unfold dz
    rw [hYx]
    refine Ok.iteD (fun hlt => ?_) (fun _ => Ok.st rfl)
    obtain ⟨i, rfl⟩ : ∃ k : Nat, i = k := ⟨i.toNat, by omega⟩
    have hi : i < Y.length := by omega
    rw [getO_at rfl hi, Option.bind_some]
    refine Ok.bind (l46_ok Y[i] x4 x3 x8 i (y2 _ (List.getElem_mem hi)).2 (by omega) ha hb) (fun o ho => ?_)
    obtain ⟨o1, o2, o3⟩ := ho
    rw [o1, o2, w64 (by omega) (by omega)]
    refine Ok.iteB (fun hmust => ?_) (fun _ => Ok.nx ⟨⟨by omega, by omega⟩, trivial⟩ (by omega))
    have : (i : Int) ∈ x10.1 := by
      rw [f3]
      exact mem_staleL hi (must_stale hm' z4 (o3 hmust))
    rw [in_ok hst this, Option.bind_some, if_neg (by simp)]
    exact Ok.nx ⟨⟨by omega, by omega⟩, trivial⟩ (by omega)
  rw [hloop, Option.bind_some]
  dsimp only
  rw [awake_at]
  exact Ok.ret rfl
end Go.Dw.De
