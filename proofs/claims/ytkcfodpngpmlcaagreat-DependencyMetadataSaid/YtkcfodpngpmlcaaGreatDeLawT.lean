
import Derived.Test.YtkcfodpngpmlcaaGreatDeFn
import Derived.Test.YtkcfodpngpmlcaaGreatDwPlain
import Derived.Test.YtkcfodpngpmlcaaGreatDwOk
import Derived.Test.YtkcfodpngpmlcaaGreatDeCo
import Derived.KernelRfl



set_option maxRecDepth 100000
set_option maxHeartbeats 4000000
namespace Go.Dw.De
namespace So
open Go.Dw
abbrev Src := ag
theorem byteO_at {s : List UInt8} {n : Int} {i : Nat} (hn : n = i) (hi : i < s.length) : byteO s n = some ((s[i].toNat : Nat) : Int) := by
  subst hn
  unfold byteO
  rw [if_pos ⟨by omega, by omega⟩, Int.toNat_natCast, List.getD_eq_getElem?_getD, List.getElem?_eq_getElem hi]; rfl
theorem gx {α : Type} {l m : List α} {b : Nat} (h : (l.length + m.length) * b ≤ 140737488355328) : appO l m b = some (l ++ m) := by
  unfold appO
  rw [if_pos h]
theorem loop_list {α ω : Type} {body : Int → Option (Step1 Int ω)} (l : List α) {p : α → Bool} {u r : ω} (h1 : ∀ (i : Nat) (hi : i < l.length), body i = if p l[i] = true then some (.next ((i + 1 : Nat) : Int)) else some (.stop r))
    (h2 : body (l.length : Nat) = some (.stop u)) : loopO body (0 : Int) = some (if l.all p = true then u else r) := by
  have : ∀ k i, i + k = l.length → loopO body (i : Int) = some (if (l.drop i).all p = true then u else r) := by
    intro k
    induction k with
    | zero =>
      intro i hi
      obtain rfl : i = l.length := by omega
      rw [loopO_stop h2]; simp
    | succ k ih =>
      intro i hi
      have hlt : i < l.length := by omega
      rw [List.drop_eq_getElem_cons hlt, List.all_cons]
      by_cases hp : p l[i] = true
      · rw [loopO_next (by rw [h1 i hlt, if_pos hp]), ih (i + 1) (by omega), hp, Bool.true_and]
      · rw [loopO_stop (by rw [h1 i hlt, if_neg hp])]; simp [hp]
  have := this l.length 0 (by omega)
  simpa using this

def plainB (c : UInt8) : Bool := (decide (65 ≤ c.toNat) && decide (c.toNat ≤ 90)) || (decide (48 ≤ c.toNat) && decide (c.toNat ≤ 57))
theorem dec1 (n : Nat) : decide ((n : Int) ≥ 65) = decide (65 ≤ n) := decide_eq_decide.2 (by omega)
theorem dec2 (n : Nat) : decide ((n : Int) ≤ 90) = decide (n ≤ 90) := decide_eq_decide.2 (by omega)
theorem dec3 (n : Nat) : decide ((n : Int) ≥ 48) = decide (48 ≤ n) := decide_eq_decide.2 (by omega)
theorem dec4 (n : Nat) : decide ((n : Int) ≤ 57) = decide (n ≤ 57) := decide_eq_decide.2 (by omega)
theorem plain_eq (c : UInt8) : mD ((c.toNat : Nat) : Int) = some (plainB c) := by
  unfold mD plainB
  rw [dec1, dec2, dec3, dec4]
  cases decide (65 ≤ c.toNat) <;> cases decide (c.toNat ≤ 90) <;> cases decide (48 ≤ c.toNat) <;> simp
def wL (s : List UInt8) (lo hi : Int) : Bool := s.all plainB && (decide ((s.length : Int) ≥ lo) && decide ((s.length : Int) ≤ hi))
theorem code_l7 {s : List UInt8} (hs : s.length ≤ 9223372036854775807) : loopO (jQ s) (0 : Int) = some (if s.all plainB = true then .inl () else .inr false) := by
  refine loop_list s (fun i hi => ?_) ?_
  · unfold jQ
    rw [if_pos (by simp; omega), byteO_at rfl hi, w64 (by omega) (by omega)]
    simp only [Option.bind_some, plain_eq]
    cases plainB s[i] <;> simp
  · unfold jQ
    rw [if_neg (by simp)]
theorem code_eq {s : List UInt8} (hs : s.length ≤ 9223372036854775807) (lo hi : Int) : jo s lo hi = some (wL s lo hi) := by
  unfold jo wL
  rw [code_l7 hs]
  cases s.all plainB with
  | true => cases decide ((s.length : Int) ≥ lo) <;> simp
  | false => rfl
def SidLen (x : Src) : Prop := x.aB.length ≤ 9223372036854775807 ∧ x.aA.length ≤ 9223372036854775807 ∧ x.aw.length ≤ 9223372036854775807 ∧ x.aC.length ≤ 9223372036854775807
def xc (x : Src) : Bool := wL x.aB 1 2 && (wL x.aA 1 5 && (wL x.aw 0 2 && (decide (x.aw.length ≠ 1) && wL x.aC 3 3)))
theorem Valid_eq {x : Src} (hx : SidLen x) : ks x = some (xc x) := by
  obtain ⟨h1, h2, h3, h4⟩ := hx
  unfold ks xc
  simp only [code_eq h1, code_eq h2, code_eq h3, code_eq h4, Option.bind_some]
  have e : ((x.aw.length : Int) != 1) = decide (x.aw.length ≠ 1) := by
    by_cases h : x.aw.length = 1
    · simp [h]
    · simp [h]; omega
  rw [e]
  cases wL x.aB 1 2 <;> cases wL x.aA 1 5 <;> cases wL x.aw 0 2 <;> cases decide (x.aw.length ≠ 1) <;> simp
theorem xi {s : List UInt8} {lo : Int} {hi : Nat} (h : wL s lo hi = true) : s.length ≤ hi := by
  unfold wL at h
  simp only [Bool.and_eq_true, decide_eq_true_eq] at h
  omega
theorem valid_len {x : Src} (h : xc x = true) : x.aB.length ≤ 2 ∧ x.aA.length ≤ 5 ∧ x.aw.length ≤ 2 ∧ x.aC.length ≤ 3 := by
  unfold xc at h
  simp only [Bool.and_eq_true] at h
  exact ⟨xi (hi := 2) h.1, xi (hi := 5) h.2.1, xi (hi := 2) h.2.2.1, xi (hi := 3) h.2.2.2.2⟩

end So
end Go.Dw.De


set_option maxRecDepth 100000
set_option maxHeartbeats 4000000
namespace Go.Dw.De
open Go.Dw
abbrev Src := ah
abbrev Pick := aa
abbrev Sid := ag

theorem mod_ok (a b : Int) (h0 : 1 ≤ b) (h1 : b ≤ 1000000000) : Ok (tg a b) (fun r => 0 ≤ r ∧ r < b) := by
  unfold tg
  have hl : a.tmod b < b := Int.tmod_lt_of_pos _ (by omega)
  have hg : -b < a.tmod b := by
    rcases Int.le_total 0 a with h | h
    · have := Int.tmod_nonneg b h; omega
    · have e : a.tmod b = -((-a).tmod b) := by rw [Int.neg_tmod]; omega
      have := Int.tmod_lt_of_pos (-a) (show 0 < b by omega)
      omega
  refine Ok.iteD (fun _ => by omega) (fun _ => ?_)
  refine Ok.bind (Ok.rem (by omega)) (fun x hx => ?_)
  subst hx
  refine Ok.iteD (fun _ => ?_) (fun _ => ?_)
  · rw [w64 (by omega) (by omega)]
    exact Ok.ret (by omega)
  · exact Ok.ret (by omega)
def cv (d : Src) : Prop := 0 ≤ d.fAt ∧ d.fAt ≤ d.fL.length ∧ d.fL.length ≤ 2000
theorem raw_ok (d : Src) (hd : cv d) : Ok (xg d) (fun r => cv r.2) := by
  obtain ⟨h0, h1, h2⟩ := hd
  unfold xg
  refine Ok.iteD (fun _ => Ok.ret ⟨h0, h1, h2⟩) (fun h => ?_)
  rw [w64 (n := d.fAt + 1) (by omega) (by omega), w64 (by omega) (by omega)]
  refine Ok.bind (Ok.get (by omega) (by omega)) (fun x _ => ?_)
  refine Ok.ret ⟨?_, ?_, h2⟩ <;> simp only <;> omega
theorem fN (k : Int) (d : Src) (hd : cv d) (h0 : 1 ≤ k) (h1 : k ≤ 1000000000) : Ok (c6 k d) (fun r => 0 ≤ r.1 ∧ r.1 < k ∧ cv r.2) := by
  unfold c6
  refine Ok.bind (raw_ok d hd) (fun x hx => ?_)
  refine Ok.bind (mod_ok _ _ h0 h1) (fun y hy => ?_)
  exact Ok.ret ⟨hy.1, hy.2, hx⟩
theorem kg (l : List Int) (d : Src) (hd : cv d) (h0 : l ≠ []) (h1 : l.length ≤ 1000000) : Ok (dm l d) (fun r => r.1 ∈ l ∧ cv r.2) := by
  unfold dm
  have := List.length_pos_iff.2 h0
  refine Ok.bind (fN _ d hd (by omega) (by omega)) (fun x hx => ?_)
  refine Ok.bind (Ok.get hx.1 hx.2.1) (fun y hy => ?_)
  exact Ok.ret ⟨hy.1, hx.2.2⟩
def stas : List (List UInt8) := [[83, 49], [83, 50], [83, 51], [83, 52], [83, 53], [83, 54]]
def IsSid (a : Sid) : Prop := So.xc a = true
theorem stas_ok : ∀ x ∈ stas, So.xc ⟨[65, 66], x, [48, 48], [66, 72, 90]⟩ = true := by decide +kernel
theorem source_ok (n : Int) : Ok (fw n) IsSid := by
  unfold fw
  refine Ok.bind (mod_ok n 6 (by omega) (by omega)) (fun x hx => ?_)
  refine Ok.bind (Ok.get hx.1 hx.2) (fun y hy => ?_)
  exact Ok.ret (stas_ok y hy.1)
theorem new_ok (l : List Int) : Ok (nn l) cv := by
  unfold nn
  refine Ok.bind (Ok.cut (by omega) (by split <;> omega) (by split <;> omega)) (fun x hx => ?_)
  subst hx
  refine Ok.ret ⟨by simp, by simp, ?_⟩
  simp only [List.length_take, List.length_drop]
  split <;> omega


def uI (m : Int) (p : aq) : Prop := (-m ≤ p.fX ∧ p.fX ≤ m) ∧ (-m ≤ p.fY ∧ p.fY ≤ m) ∧ (-m ≤ p.fZ ∧ p.fZ ≤ m)
theorem uV (m : Int) (h0 : 0 ≤ m) (h1 : m ≤ 1000) (d : Src) (hd : cv d) : Ok (mb m d) (fun r => uI m r.1 ∧ cv r.2) := by
  unfold mb
  rw [w64 (n := 2 * m) (by omega) (by omega), w64 (n := 2 * m + 1) (by omega) (by omega), w64 (n := m + 1) (by omega) (by omega)]
  refine Ok.bind (fN _ _ hd (by omega) (by omega)) (fun y1 g1 => ?_)
  refine Ok.bind (fN _ _ g1.2.2 (by omega) (by omega)) (fun y2 g2 => ?_)
  refine Ok.bind (fN _ _ g2.2.2 (by omega) (by omega)) (fun y3 g3 => ?_)
  rw [w64 (n := y1.1 - m) (by omega) (by omega), w64 (n := y2.1 - m) (by omega) (by omega)]
  exact Ok.ret ⟨⟨by simp only; omega, by simp only; omega, by simp only; omega⟩, g3.2.2⟩
def BoxOk (b : aN) : Prop := uI 40 b.bf ∧ (0 ≤ b.aY.fX - b.bf.fX ∧ b.aY.fX - b.bf.fX ≤ 20) ∧ (0 ≤ b.aY.fY - b.bf.fY ∧ b.aY.fY - b.bf.fY ≤ 20) ∧ (0 ≤ b.aY.fZ - b.bf.fZ ∧ b.aY.fZ - b.bf.fZ ≤ 20)
theorem box_ok (m side : Int) (h0 : 0 ≤ m) (h1 : m ≤ 40) (h2 : 0 ≤ side) (h3 : side ≤ 20) (d : Src) (hd : cv d) : Ok (xf m side d) (fun r => BoxOk r.1 ∧ cv r.2) := by
  unfold xf
  rw [w64 (n := side + 1) (by omega) (by omega)]
  refine Ok.bind (uV m h0 (by omega) d hd) (fun y0 g0 => ?_)
  refine Ok.bind (fN _ _ g0.2 (by omega) (by omega)) (fun y1 g1 => ?_)
  refine Ok.bind (fN _ _ g1.2.2 (by omega) (by omega)) (fun y2 g2 => ?_)
  refine Ok.bind (fN _ _ g2.2.2 (by omega) (by omega)) (fun y3 g3 => ?_)
  obtain ⟨⟨p1, p2, p3⟩, -⟩ := g0
  rw [w64 (n := y0.1.fX + y1.1) (by omega) (by omega), w64 (n := y0.1.fY + y2.1) (by omega) (by omega), w64 (n := y0.1.fZ + y3.1) (by omega) (by omega)]
  refine Ok.ret ⟨⟨⟨by simp only; omega, by simp only; omega, by simp only; omega⟩, by simp only; omega, by simp only; omega, by simp only; omega⟩, g3.2.2⟩

structure TabOk (t : aL) : Prop where
  step : t.bH = 20 ∨ t.bH = 25 ∨ t.bH = 40 ∨ t.bH = 100
  len : 1 ≤ t.bf.length ∧ t.bf.length ≤ 30
  same : t.aY.length = t.bf.length
  low : ∀ x ∈ t.bf, 0 ≤ x ∧ x ≤ 3000
  high : ∀ x ∈ t.aY, 0 ≤ x ∧ x ≤ 5000
theorem table_ok (d : Src) (hd : cv d) : Ok (pS d) (fun r => TabOk r.1 ∧ cv r.2) := by
  unfold pS
  refine Ok.bind (kg _ d hd (by simp) (by simp)) (fun x1 h1 => ?_)
  obtain ⟨hst, h1⟩ := h1
  have hst : x1.1 = 20 ∨ x1.1 = 25 ∨ x1.1 = 40 ∨ x1.1 = 100 := by simpa using hst
  refine Ok.bind (fN _ _ h1 (by omega) (by omega)) (fun x2 h2 => ?_)
  have hq : ∃ q, IntKind.wrap .i64 ((400 : Int).tdiv x1.1) = q ∧ 4 ≤ q ∧ q ≤ 20 := by
    rcases hst with e | e | e | e <;> rw [e] <;> exact ⟨_, rfl, by decide, by decide⟩
  have hp : ∃ q, IntKind.wrap .i64 (x1.1.tdiv 4) = q ∧ 0 ≤ q ∧ q ≤ 25 := by
    rcases hst with e | e | e | e <;> rw [e] <;> exact ⟨_, rfl, by decide, by decide⟩
  obtain ⟨q, hq, q0, q1⟩ := hq
  obtain ⟨p, hp, p0, p1⟩ := hp
  refine Ok.bind (P := fun o => cv ⟨o.1, o.2.1⟩ ∧ (1 ≤ o.2.2.1.length ∧ o.2.2.1.length ≤ 30) ∧ o.2.2.2.length = o.2.2.1.length ∧ (∀ x ∈ o.2.2.1, 0 ≤ x ∧ x ≤ 3000) ∧ (∀ x ∈ o.2.2.2, 0 ≤ x ∧ x ≤ 5000))
    (Ok.loop (fun s => (0 ≤ s.2.2.1 ∧ s.2.2.1 ≤ 23) ∧ s.2.2.2.2.2.1.length = s.2.2.1.toNat ∧ s.2.2.2.2.2.2.length = s.2.2.1.toNat ∧ (0 ≤ s.1 ∧ s.1 ≤ 60 * s.2.2.1) ∧ (0 ≤ s.2.1 ∧ s.2.1 ≤ 100 * s.2.2.1 + 2) ∧ cv ⟨s.2.2.2.1, s.2.2.2.2.1⟩ ∧ (∀ x ∈ s.2.2.2.2.2.1, 0 ≤ x ∧ x ≤ 3000) ∧ (∀ x ∈ s.2.2.2.2.2.2, 0 ≤ x ∧ x ≤ 5000))
      (fun s => (23 - s.2.2.1).toNat) ?_ ⟨⟨by simp, by simp⟩, rfl, rfl, ⟨by simp, by simp⟩, ⟨by simp only; omega, by simp only; omega⟩, h2.2.2, by simp, by simp⟩) ?_
  · rintro ⟨s3, s4, s5, s6, s7, s8, s9⟩ ⟨i0, i1, i2, i3, i4, i5, i6, i7⟩
    simp only at i0 i1 i2 i3 i4 i5 i6 i7
    unfold qF
    refine Ok.bind (Ok.quo (by omega)) (fun y1 g1 => ?_)
    rw [hq] at g1; subst g1
    refine Ok.bind (fN _ _ i5 (by omega) (by omega)) (fun y2 g2 => ?_)
    rw [w64 (n := y1 + y2.1) (by omega) (by omega)]
    refine Ok.iteD (fun hle => ?_) (fun hgt => ?_)
    · refine Ok.bind (Ok.app (by simp only [List.length_cons, List.length_nil]; omega)) (fun y3 g3 => ?_)
      refine Ok.bind (Ok.app (by simp only [List.length_cons, List.length_nil]; omega)) (fun y4 g4 => ?_)
      refine Ok.bind (kg _ _ g2.2.2 (by simp) (by simp)) (fun y5 g5 => ?_)
      refine Ok.bind (Ok.quo (by omega)) (fun y6 g6 => ?_)
      rw [hp] at g6; subst g6
      refine Ok.bind (kg _ _ g5.2 (by simp) (by simp)) (fun y7 g7 => ?_)
      have a1 : 0 ≤ y5.1 ∧ y5.1 ≤ 35 := by have := g5.1; simp at this; omega
      have a2 : 0 ≤ y7.1 ∧ y7.1 ≤ 30 := by have := g7.1; simp at this; omega
      rw [w64 (n := y5.1 + y6) (by omega) (by omega), w64 (n := s3 + (y5.1 + y6)) (by omega) (by omega), w64 (n := s5 + 1) (by omega) (by omega), w64 (by split <;> omega) (by split <;> omega)]
      subst g3 g4
      refine Ok.nx ⟨⟨by simp only; omega, by simp only; omega⟩, ?_, ?_, ⟨by simp only; omega, by simp only; omega⟩, ⟨by simp only; split <;> omega, by simp only; split <;> omega⟩, g7.2, ?_, ?_⟩ (by simp only; omega)
      · simp only [List.length_append, List.length_cons, List.length_nil]; omega
      · simp only [List.length_append, List.length_cons, List.length_nil]; omega
      · intro x hx
        simp only [List.mem_append, List.mem_singleton] at hx
        rcases hx with hx | rfl
        · exact i6 x hx
        · omega
      · intro x hx
        simp only [List.mem_append, List.mem_singleton] at hx
        rcases hx with hx | rfl
        · exact i7 x hx
        · omega
    · exact Ok.st ⟨g2.2.2, ⟨by simp only; omega, by simp only; omega⟩, by simp only; omega, i6, i7⟩
  · intro o ho
    exact Ok.ret ⟨⟨hst, ho.2.1, ho.2.2.1, ho.2.2.2.1, ho.2.2.2.2⟩, ho.1⟩
theorem association_ok (d : Src) (hd : cv d) : Ok (iY 3 d) (fun r => (BoxOk r.1.aT ∧ TabOk r.1.bw) ∧ cv r.2) := by
  unfold iY
  refine Ok.bind (box_ok 20 3 (by omega) (by omega) (by omega) (by omega) d hd) (fun x1 h1 => ?_)
  refine Ok.bind (table_ok _ h1.2) (fun x2 h2 => ?_)
  refine Ok.bind (kg _ _ h2.2 (by simp) (by simp)) (fun x3 h3 => ?_)
  refine Ok.bind (kg _ _ h3.2 (by simp) (by simp)) (fun x4 h4 => ?_)
  refine Ok.bind (kg _ _ h4.2 (by simp) (by simp)) (fun x5 h5 => ?_)
  refine Ok.bind (kg _ _ h5.2 (by simp) (by simp)) (fun x6 h6 => ?_)
  refine Ok.bind (fN _ _ h6.2 (by omega) (by omega)) (fun x7 h7 => ?_)
  exact Ok.ret ⟨⟨h1.1, h2.1⟩, h7.2.2⟩
theorem scale_ok (d : Src) (hd : cv d) : Ok (sJ d) (fun r => cv r.2) := by
  unfold sJ
  refine Ok.bind (table_ok _ hd) (fun x1 h1 => ?_)
  refine Ok.bind (fN _ _ h1.2 (by omega) (by omega)) (fun x2 h2 => ?_)
  refine Ok.bind (fN _ _ h2.2.2 (by omega) (by omega)) (fun x3 h3 => ?_)
  have hl := h1.1.len; have hs := h1.1.same
  refine Ok.bind (P := fun _ => True) (Ok.loop (fun s => 0 ≤ s.1 ∧ s.2.1.length = x1.1.bf.length ∧ s.2.2.length = x1.1.bf.length) (fun s => ((x1.1.bf.length : Int) - s.1).toNat) ?_ ⟨Int.le_refl _, rfl, hs⟩) (fun o _ => Ok.ret h3.2.2)
  rintro ⟨s4, s5, s6⟩ ⟨i0, i1, i2⟩
  simp only at i0 i1 i2
  unfold qC
  refine Ok.iteD (fun hlt => ?_) (fun _ => Ok.st trivial)
  refine Ok.bind (Ok.isin (by omega) (by omega)) (fun _ _ => ?_)
  refine Ok.bind (Ok.get (by omega) (by omega)) (fun y1 g1 => ?_)
  refine Ok.bind (Ok.quo (by omega)) (fun y2 g2 => ?_)
  refine Ok.bind (Ok.isin (by omega) (by omega)) (fun _ _ => ?_)
  refine Ok.bind (Ok.get (by omega) (by omega)) (fun y3 g3 => ?_)
  refine Ok.bind (Ok.quo (by omega)) (fun y4 g4 => ?_)
  refine Ok.bind (Ok.isin (by omega) (by omega)) (fun _ _ => ?_)
  refine Ok.bind (Ok.set (by omega) (by omega)) (fun y5 g5 => ?_)
  refine Ok.bind (Ok.isin (by omega) (by omega)) (fun _ _ => ?_)
  refine Ok.bind (Ok.set (by omega) (by omega)) (fun y6 g6 => ?_)
  subst g5 g6
  rw [w64 (by omega) (by omega)]
  exact Ok.nx ⟨by simp only; omega, by simpa using i1, by simpa using i2⟩ (by simp only; omega)
theorem settings_ok (d : Src) (hd : cv d) : Ok (gb 3 d) (fun r => (BoxOk r.1.av.aT ∧ TabOk r.1.av.bw) ∧ cv r.2) := by
  unfold gb
  refine Ok.bind (association_ok d hd) (fun x1 h1 => ?_)
  refine Ok.bind (scale_ok _ h1.2) (fun x2 h2 => ?_)
  refine Ok.bind (kg _ _ h2 (by simp) (by simp)) (fun x3 h3 => ?_)
  exact Ok.ret ⟨h1.1, h3.2⟩

def ChanOk (c : ac) : Prop := c.aP.length ≤ 2 ∧ ∀ e ∈ c.aP, uI 60 e.aF
def InvOk (v : ae) : Prop := v.ap.length ≤ 6 ∧ ∀ c ∈ v.ap, ChanOk c
theorem range_ok (a b : Int) (h0 : -1000 ≤ a) (h1 : a ≤ 1000) (h2 : 0 ≤ b - a) (h3 : b - a ≤ 1000) (d : Src) (hd : cv d) : Ok (n9 a b d) (fun r => (a ≤ r.1 ∧ r.1 ≤ b) ∧ cv r.2) := by
  unfold n9
  rw [w64 (n := b - a) (by omega) (by omega), w64 (n := b - a + 1) (by omega) (by omega)]
  refine Ok.bind (fN _ _ hd (by omega) (by omega)) (fun y1 g1 => ?_)
  rw [w64 (n := a + y1.1) (by omega) (by omega)]
  exact Ok.ret ⟨⟨by simp only; omega, by simp only; omega⟩, g1.2.2⟩
theorem point_ok (b : aN) (hb : BoxOk b) (d : Src) (hd : cv d) : Ok (pR b d) (fun r => uI 60 r.1 ∧ cv r.2) := by
  obtain ⟨⟨p1, p2, p3⟩, q1, q2, q3⟩ := hb
  unfold pR
  refine Ok.bind (range_ok _ _ (by omega) (by omega) (by omega) (by omega) d hd) (fun y1 g1 => ?_)
  refine Ok.bind (range_ok _ _ (by omega) (by omega) (by omega) (by omega) _ g1.2) (fun y2 g2 => ?_)
  refine Ok.bind (range_ok _ _ (by omega) (by omega) (by omega) (by omega) _ g2.2) (fun y3 g3 => ?_)
  exact Ok.ret ⟨⟨by simp only; omega, by simp only; omega, by simp only; omega⟩, g3.2⟩
theorem kplace_ok (v : ae) (hv : InvOk v) (x : Sid) (t : Int) : Ok (pW v x t) (fun r => uI 60 r.1) := by
  unfold pW
  have h0 : uI 60 ⟨0, 0, 0⟩ := ⟨by simp, by simp, by simp⟩
  refine Ok.bind (P := fun o => match o with | .inl _ => True | .inr r => uI 60 r.1) (Ok.upto v.ap.length (by omega) (fun _ => True) trivial ?_) ?_
  · intro i h1 h2 _
    unfold oP
    refine Ok.iteD (fun hlt => ?_) (fun _ => Ok.st trivial)
    refine Ok.bind (Ok.get (by omega) (by omega)) (fun c hc => ?_)
    have hck := hv.2 c hc.1
    have hlen := hv.1
    refine Ok.bind (P := fun o => match o with | .inl y => y = i | .inr r => uI 60 r.1) (Ok.upto c.aP.length (by omega) (fun _ => True) trivial ?_) ?_
    · intro j h3 h4 _
      unfold oO
      have hcl := hck.1
      refine Ok.iteD (fun hlt => ?_) (fun _ => Ok.st rfl)
      refine Ok.bind (Ok.get (by omega) (by omega)) (fun e he => ?_)
      rw [w64 (n := j + 1) (by omega) (by omega)]
      refine Ok.iteB (fun _ => ?_) (fun _ => Ok.nx ⟨⟨by omega, by omega⟩, trivial⟩ (by omega))
      refine Ok.iteD (fun _ => ?_) (fun _ => Ok.nx ⟨⟨by omega, by omega⟩, trivial⟩ (by omega))
      refine Ok.iteD (fun _ => ?_) (fun _ => Ok.nx ⟨⟨by omega, by omega⟩, trivial⟩ (by omega))
      exact Ok.st (hck.2 e he.1)
    · rintro (y | r) ho
      · simp only at ho ⊢
        subst ho
        rw [w64 (n := y + 1) (by omega) (by omega)]
        exact Ok.nx ⟨⟨by omega, by omega⟩, trivial⟩ (by omega)
      · exact Ok.st ho
  · rintro (y | r) ho
    · exact Ok.ret h0
    · exact Ok.ret ho
def lG (p : Pick) : Prop := IsSid p.ak ∧ 0 ≤ p.aI ∧ p.aI ≤ p.aM ∧ p.aM ≤ p.aX ∧ p.aX ≤ 18014398509481984 ∧ 0 ≤ p.aH ∧ p.aH ≤ 1073741823 ∧ -1 ≤ p.aJ ∧ p.aJ ≤ 1
def PI (n : Nat) (s : Int × Int × List Int × Int × List Pick × Int × Int × Int) : Prop :=
  (0 ≤ s.2.1 ∧ s.2.1 + s.2.2.2.2.1.length ≤ n) ∧ (0 ≤ s.1 ∧ s.1 ≤ 1000000 + 1000 * s.2.2.2.2.1.length) ∧ cv ⟨s.2.2.1, s.2.2.2.1⟩ ∧ uI 60 ⟨s.2.2.2.2.2.1, s.2.2.2.2.2.2.1, s.2.2.2.2.2.2.2⟩ ∧ ∀ p ∈ s.2.2.2.2.1, lG p
theorem k34_ok {n : Nat} (hn : n ≤ 1000) {Q : List Pick × List Int × Int → Prop} {s : Int × Int × List Int × Int × List Pick × Int × Int × Int} {sid : Sid} (hs : IsSid sid) (am : Int × Src) (ha : 0 ≤ am.1 ∧ am.1 ≤ 1048576) (po : Int × Src) (hp : 0 ≤ po.1 ∧ po.1 < 3) (t k : Int) (l : List Int) (at_ : Int) (out : List Pick) (x y z e : Int)
    (hk : 1 ≤ k ∧ k + out.length ≤ n) (hks : k = s.2.1) (ht : 0 ≤ t ∧ t ≤ 1000000 + 1000 * (out.length + 1)) (hd : cv ⟨l, at_⟩) (hpos : uI 60 ⟨x, y, z⟩) (hout : ∀ p ∈ out, lG p) (he : 0 ≤ e ∧ e ≤ 10000000) :
    Ok (f9 sid am po t k l at_ out x y z e) (Ok.S (PI n) (fun s => s.2.1.toNat) Q s) := by
  unfold f9
  refine Ok.bind (fN _ _ hd (by omega) (by omega)) (fun y1 g1 => ?_)
  refine Ok.bind (fN _ _ g1.2.2 (by omega) (by omega)) (fun y2 g2 => ?_)
  refine Ok.bind (Ok.app (by simp only [List.length_cons, List.length_nil]; omega)) (fun y3 g3 => ?_)
  subst g3
  rw [w64 (n := e + y1.1) (by omega) (by omega), w64 (n := e + y1.1 + y2.1) (by omega) (by omega), w64 (n := po.1 - 1) (by omega) (by omega), w64 (n := k - 1) (by omega) (by omega)]
  refine Ok.nx ⟨⟨by simp only; omega, by simp only [List.length_append, List.length_cons, List.length_nil]; omega⟩, ⟨ht.1, by simp only [List.length_append, List.length_cons, List.length_nil]; omega⟩, g2.2.2, hpos, fun p hpm => ?_⟩ (by simp only; omega)
  simp only [List.mem_append, List.mem_singleton] at hpm
  rcases hpm with hpm | rfl
  · exact hout p hpm
  · exact ⟨hs, by simp only; omega, by simp only; omega, by simp only; omega, by simp only; omega, by simp only; omega, by simp only; omega, by simp only; omega, by simp only; omega⟩
theorem l55_ok (pl : aq × Bool) (hpl : uI 60 pl.1) (x y z t k : Int) (out : List Pick) (hx : uI 60 ⟨x, y, z⟩) : Ok (loopO (ng pl x y z t k out) (0 : Int)) (fun o => o.1 = t ∧ o.2.1 = k ∧ (0 ≤ o.2.2.1 ∧ o.2.2.1 ≤ 300) ∧ o.2.2.2.1 = out ∧ o.2.2.2.2.1 = x ∧ o.2.2.2.2.2.1 = y ∧ o.2.2.2.2.2.2 = z) := by
  obtain ⟨a1, a2, a3⟩ := hpl
  obtain ⟨b1, b2, b3⟩ := hx
  simp only at b1 b2 b3
  have hsq : ∀ (u v : Int), -60 ≤ u → u ≤ 60 → -60 ≤ v → v ≤ 60 → ∃ q, uf (IntKind.wrap .i64 (u - v)) = some q ∧ 0 ≤ q ∧ q ≤ 14400 := by
    intro u v h1 h2 h3 h4
    have h5 : -120 ≤ u - v ∧ u - v ≤ 120 := by omega
    rw [w64 (by omega) (by omega)]
    have h6 : 0 ≤ (u - v) * (u - v) ∧ (u - v) * (u - v) ≤ 14400 := by
      constructor
      · rcases Int.le_total 0 (u - v) with h | h
        · exact Int.mul_nonneg h h
        · exact Int.mul_nonneg_of_nonpos_of_nonpos h h
      · rcases Int.le_total 0 (u - v) with h | h
        · calc (u - v) * (u - v) ≤ 120 * 120 := Int.mul_le_mul h5.2 h5.2 h (by omega)
            _ = 14400 := by decide
        · have : (u - v) * (u - v) = (v - u) * (v - u) := by
            rw [← Int.neg_mul_neg]; congr 1 <;> omega
          rw [this]
          calc (v - u) * (v - u) ≤ 120 * 120 := Int.mul_le_mul (by omega) (by omega) (by omega) (by omega)
            _ = 14400 := by decide
    refine ⟨_, by unfold uf; rw [w64 (by omega) (by omega)], h6.1, h6.2⟩
  obtain ⟨q1, e1, l1, u1⟩ := hsq pl.1.fX x a1.1 a1.2 b1.1 b1.2
  obtain ⟨q2, e2, l2, u2⟩ := hsq pl.1.fY y a2.1 a2.2 b2.1 b2.2
  obtain ⟨q3, e3, l3, u3⟩ := hsq pl.1.fZ z a3.1 a3.2 b3.1 b3.2
  refine Ok.loop (fun s => 0 ≤ s ∧ s ≤ 300) (fun s => (300 - s).toNat) (fun s hs => ?_) ⟨Int.le_refl _, by omega⟩
  unfold ng
  rw [e1, e2, e3]
  simp only [Option.bind_some]
  rw [w64 (n := q1 + q2) (by omega) (by omega), w64 (n := q1 + q2 + q3) (by omega) (by omega)]
  have hss : 0 ≤ s * s ∧ s * s ≤ 90000 := ⟨Int.mul_nonneg hs.1 hs.1, by
    calc s * s ≤ 300 * 300 := Int.mul_le_mul hs.2 hs.2 hs.1 (by omega)
      _ = 90000 := by decide⟩
  rw [w64 (n := s * s) (by omega) (by omega)]
  refine Ok.iteD (fun hlt => ?_) (fun _ => Ok.st ⟨rfl, rfl, hs, rfl, rfl, rfl, rfl⟩)
  have h299 : s ≤ 299 := by
    rcases Int.lt_or_le 299 s with h | h
    · exfalso
      have : s = 300 := by omega
      subst this
      omega
    · exact h
  rw [w64 (n := s + 1) (by omega) (by omega)]
  exact Ok.nx ⟨by omega, by omega⟩ (by omega)
theorem picks_ok (a : aG) (ha : BoxOk a.av.aT ∧ TabOk a.av.bw) (v : ae) (hv : InvOk v) (n : Nat) (hn : n ≤ 100) (d : Src) (hd : cv d) :
    Ok (iZ a v n d) (fun r => (r.1.length ≤ n ∧ ∀ p ∈ r.1, lG p) ∧ cv r.2) := by
  unfold iZ
  refine Ok.bind (point_ok _ ha.1 d hd) (fun x1 h1 => ?_)
  refine Ok.bind (fN _ _ h1.2 (by omega) (by omega)) (fun x2 h2 => ?_)
  rw [w64 (n := (n : Int) + 1) (by omega) (by omega)]
  refine Ok.bind (fN _ _ h2.2.2 (by omega) (by omega)) (fun x3 h3 => ?_)
  rw [w64 (n := 1000 + x2.1) (by omega) (by omega)]
  refine Ok.bind (P := fun o => (o.1.length ≤ n ∧ ∀ p ∈ o.1, lG p) ∧ cv ⟨o.2.1, o.2.2⟩) (Ok.loop (PI n) (fun s => s.2.1.toNat) ?_ ⟨⟨by simp only; omega, by simp only [List.length_nil]; omega⟩, ⟨by simp only; omega, by simp only [List.length_nil]; omega⟩, h3.2.2, h1.1, by simp⟩) (fun o ho => Ok.ret ⟨ho.1, ho.2⟩)
  rintro ⟨s4, s5, s6, s7, s8, s9, s10, s11⟩ ⟨i0, i1, i2, i3, i4⟩
  simp only at i0 i1 i2 i3 i4
  unfold qA
  refine Ok.iteD (fun hgt => ?_) (fun _ => Ok.st ⟨⟨by simp only; omega, i4⟩, i2⟩)
  refine Ok.bind (fN _ _ i2 (by omega) (by omega)) (fun y1 g1 => ?_)
  refine Ok.bind (source_ok _) (fun y2 g2 => ?_)
  refine Ok.bind (kg _ _ g1.2.2 (by simp) (by simp)) (fun y3 g3 => ?_)
  have hy3 : 0 ≤ y3.1 ∧ y3.1 ≤ 1048576 := by have := g3.1; simp at this; omega
  refine Ok.bind (fN _ _ g3.2 (by omega) (by omega)) (fun y4 g4 => ?_)
  refine Ok.bind (fN _ _ g4.2.2 (by omega) (by omega)) (fun y5 g5 => ?_)
  refine Ok.bind (fN _ _ g5.2.2 (by omega) (by omega)) (fun y6 g6 => ?_)
  rw [w64 (n := 1000 + y5.1) (by omega) (by omega)]
  refine Ok.iteE (fun _ => ?_) (fun _ => Ok.iteE (fun _ => ?_) (fun _ => ?_))
  · refine Ok.bind (point_ok _ ha.1 _ g6.2.2) (fun y7 g7 => ?_)
    refine Ok.bind (fN _ _ g7.2 (by omega) (by omega)) (fun y8 g8 => ?_)
    rw [w64 (n := s4 + y8.1) (by omega) (by omega)]
    exact k34_ok (by omega) g2 y3 hy3 y4 ⟨g4.1, g4.2.1⟩ _ _ _ _ _ _ _ _ _ (by omega) rfl (by omega) g8.2.2 g7.1 i4 (by omega)
  · exact k34_ok (by omega) g2 y3 hy3 y4 ⟨g4.1, g4.2.1⟩ _ _ _ _ _ _ _ _ _ (by omega) rfl (by omega) g6.2.2 i3 i4 (by omega)
  · refine Ok.bind (kplace_ok v hv _ _) (fun y7 g7 => ?_)
    refine Ok.iteB (fun _ => ?_) (fun _ => ?_)
    · refine Ok.bind (l55_ok y7 g7 _ _ _ _ _ _ i3) (fun o ho => ?_)
      obtain ⟨o1, o2, o3, o4, o5, o6, o7⟩ := ho
      have htab := ha.2
      have hl := htab.len
      have hst := htab.step
      refine Ok.bind (Ok.quo (by omega)) (fun y8 g8 => ?_)
      have hq : 0 ≤ o.2.2.1.tdiv a.av.bw.bH ∧ o.2.2.1.tdiv a.av.bw.bH ≤ 300 := by
        refine ⟨Int.tdiv_nonneg o3.1 (by omega), ?_⟩
        have := Int.tdiv_le_self (b := a.av.bw.bH) o3.1
        omega
      rw [w64 (by omega) (by omega)] at g8
      subst g8
      rw [w64 (n := (a.av.bw.bf.length : Int) - 1) (by omega) (by omega)]
      refine Ok.bind (Ok.get (by split <;> omega) (by split <;> omega)) (fun y9 g9 => ?_)
      have hb := htab.low y9 g9.1
      refine Ok.bind (fN _ _ g6.2.2 (by omega) (by omega)) (fun y10 g10 => ?_)
      rw [o1, o2, o4, o5, o6, o7, w64 (n := s4 + y9) (by omega) (by omega), w64 (n := s4 + y9 + y10.1) (by omega) (by omega)]
      exact k34_ok (by omega) g2 y3 hy3 y4 ⟨g4.1, g4.2.1⟩ _ _ _ _ _ _ _ _ _ (by omega) rfl (by omega) g10.2.2 i3 i4 (by omega)
    · exact k34_ok (by omega) g2 y3 hy3 y4 ⟨g4.1, g4.2.1⟩ _ _ _ _ _ _ _ _ _ (by omega) rfl (by omega) g6.2.2 i3 i4 (by omega)
end Go.Dw.De


set_option maxRecDepth 100000
set_option maxHeartbeats 4000000
namespace Go.Dw.De
open Go.Dw
theorem gx {α : Type} {l m : List α} {b : Nat} (h : (l.length + m.length) * b ≤ 140737488355328) : appO l m b = some (l ++ m) := by
  unfold appO
  rw [if_pos h]
namespace Sd
abbrev Src := ag
theorem eq_src (a b : Src) : ((a.aB == b.aB) && ((a.aA == b.aA) && ((a.aw == b.aw) && ((a.aC == b.aC) && true)))) = decide (a = b) := by
  obtain ⟨n, t, l, c⟩ := a
  obtain ⟨n', t', l', c'⟩ := b
  simp only [ag.mk.injEq]
  by_cases e1 : n = n' <;> by_cases e2 : t = t' <;> by_cases e3 : l = l' <;> by_cases e4 : c = c' <;> simp [e1, e2, e3, e4]
theorem cmp_str (a b : List UInt8) : cA a b = some (cmpB a b) := by
  unfold cA fQ
  simp only [beq_self_eq_true, Bool.not_true, Option.bind_some, Bool.false_eq_true, if_false]
  unfold cmpB
  cases h : Op.bytesLess a b with
  | true => simp
  | false => by_cases e : a = b <;> simp [e]
theorem yY {l : List Int} {i j : Nat} (hj : j = i + 1) (hi : i < l.length) (hl : l.length < 1000) (h0 : l[i] = 0) : eh l i = some (.next (j : Int)) := by
  subst hj
  unfold eh
  rw [if_pos (by simp; omega), getO_at rfl hi]
  simp only [Option.bind_some, h0, w64 (n := (i : Int) + 1) (by omega) (by omega)]
  rfl
theorem yZ {l : List Int} {i : Nat} (hi : i < l.length) (h0 : l[i] ≠ 0) : eh l i = some (.stop (.inr l[i])) := by
  unfold eh
  rw [if_pos (by simp; omega), getO_at rfl hi]
  simp only [Option.bind_some]
  rw [if_pos (by simpa using h0)]
theorem or_end {l : List Int} {n : Nat} (hn : n = l.length) : eh l n = some (.stop (.inl ())) := by
  subst hn
  unfold eh
  rw [if_neg (by simp)]
theorem or4 (a b c d : Int) : iw [a, b, c, d] = some (if a ≠ 0 then a else if b ≠ 0 then b else if c ≠ 0 then c else d) := by
  show ((loopO (eh [a, b, c, d]) ((0 : Nat) : Int)).bind _) = _
  by_cases ha : a = 0
  · rw [loopO_next (yY (i := 0) (j := 1) rfl (by simp) (by simp) (by simpa using ha)), if_neg (by simpa using ha)]
    by_cases hb : b = 0
    · rw [loopO_next (yY (i := 1) (j := 2) rfl (by simp) (by simp) (by simpa using hb)), if_neg (by simpa using hb)]
      by_cases hc : c = 0
      · rw [loopO_next (yY (i := 2) (j := 3) rfl (by simp) (by simp) (by simpa using hc)), if_neg (by simpa using hc)]
        by_cases hd : d = 0
        · rw [loopO_next (yY (i := 3) (j := 4) rfl (by simp) (by simp) (by simpa using hd)), loopO_stop (or_end (n := 4) rfl)]
          rw [hd]; rfl
        · rw [loopO_stop (yZ (i := 3) (by simp) (by simpa using hd))]; rfl
      · rw [loopO_stop (yZ (i := 2) (by simp) (by simpa using hc)), if_pos hc]; rfl
    · rw [loopO_stop (yZ (i := 1) (by simp) (by simpa using hb)), if_pos hb]; rfl
  · rw [loopO_stop (yZ (i := 0) (by simp) (by simpa using ha)), if_pos (by simpa using ha)]; rfl

def rD (a b : Src) : Int := if cmpB a.aB b.aB ≠ 0 then cmpB a.aB b.aB else if cmpB a.aA b.aA ≠ 0 then cmpB a.aA b.aA else if cmpB a.aw b.aw ≠ 0 then cmpB a.aw b.aw else cmpB a.aC b.aC
theorem lF (a b : Src) : ca a b = some (rD a b) := by
  unfold ca
  simp only [cmp_str, Option.bind_some, or4]
  rfl
theorem ky : Tot rD := (cmpB_tot.map fun x : Src => x.aB).or ((cmpB_tot.map fun x : Src => x.aA).or ((cmpB_tot.map fun x : Src => x.aw).or (cmpB_tot.map fun x : Src => x.aC)))
theorem mf {a b : Src} (h : rD a b = 0) : a = b := by
  unfold rD at h
  obtain ⟨n, t, l, c⟩ := a
  obtain ⟨n', t', l', c'⟩ := b
  simp only at h
  by_cases h1 : cmpB n n' = 0
  · rw [if_neg (by simpa using h1)] at h
    by_cases h2 : cmpB t t' = 0
    · rw [if_neg (by simpa using h2)] at h
      by_cases h3 : cmpB l l' = 0
      · rw [if_neg (by simpa using h3)] at h
        rw [cmpB_zero] at h h1 h2 h3
        subst h h1 h2 h3; rfl
      · rw [if_pos h3] at h; exact (h3 h).elim
    · rw [if_pos h2] at h; exact (h2 h).elim
  · rw [if_pos h1] at h; exact (h1 h).elim
instance : DecidableEq Src := fun a b => decidable_of_iff (a.aB = b.aB ∧ a.aA = b.aA ∧ a.aw = b.aw ∧ a.aC = b.aC) (by
  obtain ⟨n, t, l, c⟩ := a
  obtain ⟨n', t', l', c'⟩ := b
  simp)
theorem eqs (a b : Src) : ((a.aB == b.aB) && ((a.aA == b.aA) && ((a.aw == b.aw) && ((a.aC == b.aC) && true)))) = decide (a = b) := by
  rw [eq_src]
  exact decide_eq_decide.2 Iff.rfl

theorem cmp_int (a b : Int) : bA a b = some (cmpI a b) := by
  unfold bA jq cmpI
  simp only [bne_self_eq_false, Option.bind_some, Bool.false_eq_true, if_false]
  by_cases h1 : a < b
  · rw [if_pos (decide_eq_true h1), if_pos h1]
  · rw [if_neg (by simpa using h1), if_neg h1]
    by_cases h2 : a > b
    · rw [if_pos (decide_eq_true h2), if_pos h2]
    · rw [if_neg (by simpa using h2), if_neg h2]
theorem or_go {l : List Int} {n : Nat} {r : List Int} (hl : l.length < 1000) (hn : n ≤ l.length) (hr : l.drop n = r) : loopO (eh l) (n : Int) = some (match r.find? (fun x => decide (x ≠ 0)) with | some x => .inr x | none => .inl ()) := by
  induction r generalizing n with
  | nil =>
    have : n = l.length := by
      have := congrArg List.length hr
      simp at this; omega
    rw [loopO_stop (or_end this)]; rfl
  | cons a r ih =>
    have hlt : n < l.length := by
      have := congrArg List.length hr
      simp at this; omega
    have ha : l[n] = a := by
      rw [List.drop_eq_getElem_cons hlt] at hr
      exact (List.cons.inj hr).1
    have hr' : l.drop (n + 1) = r := by
      rw [List.drop_eq_getElem_cons hlt] at hr
      exact (List.cons.inj hr).2
    by_cases h0 : a = 0
    · rw [loopO_next (yY (i := n) (j := n + 1) rfl hlt hl (by rw [ha, h0])), ih (by omega) hr']
      simp [List.find?, h0]
    · rw [loopO_stop (yZ hlt (by rw [ha]; exact h0)), ha]
      simp [List.find?, h0]
theorem or6 (a b c d e f : Int) : iw [a, b, c, d, e, f] = some (if a ≠ 0 then a else if b ≠ 0 then b else if c ≠ 0 then c else if d ≠ 0 then d else if e ≠ 0 then e else f) := by
  unfold iw
  have := or_go (l := [a, b, c, d, e, f]) (n := 0) (r := [a, b, c, d, e, f]) (by simp) (by simp) rfl
  rw [show ((0 : Int)) = ((0 : Nat) : Int) from rfl, this]
  by_cases ha : a = 0 <;> by_cases hb : b = 0 <;> by_cases hc : c = 0 <;> by_cases hd : d = 0 <;> by_cases he : e = 0 <;> by_cases hf : f = 0 <;> simp [List.find?, ha, hb, hc, hd, he, hf]
end Sd
open Sd (rD ky mf)
def j7 (a b : Pick) : Int := if rD a.ak b.ak ≠ 0 then rD a.ak b.ak else if cmpI a.aM b.aM ≠ 0 then cmpI a.aM b.aM else if cmpI a.aI b.aI ≠ 0 then cmpI a.aI b.aI else if cmpI a.aX b.aX ≠ 0 then cmpI a.aX b.aX else if cmpI a.aH b.aH ≠ 0 then cmpI a.aH b.aH else cmpI a.aJ b.aJ
theorem lF (a b : Pick) : bu a b = some (j7 a b) := by
  unfold bu
  simp only [Sd.lF, Sd.cmp_int, Option.bind_some, Sd.or6]
  rfl
theorem gO : Tot j7 := (ky.map fun x : Pick => x.ak).or ((cmpI_tot.map fun x : Pick => x.aM).or ((cmpI_tot.map fun x : Pick => x.aI).or ((cmpI_tot.map fun x : Pick => x.aX).or ((cmpI_tot.map fun x : Pick => x.aH).or (cmpI_tot.map fun x : Pick => x.aJ)))))
theorem lt3_eq : lt3 bu = fun x y => decide (j7 x y < 0) := by
  funext x y
  unfold lt3
  rw [lF]; rfl
theorem Compare_ok : CmpOk bu := ⟨fun x y => ⟨_, lF x y⟩, by rw [lt3_eq]; exact gO.swo⟩
instance : DecidableEq Pick := fun a b => decidable_of_iff (a.ak = b.ak ∧ a.aM = b.aM ∧ a.aI = b.aI ∧ a.aX = b.aX ∧ a.aH = b.aH ∧ a.aJ = b.aJ) (by
  obtain ⟨a1, a2, a3, a4, a5, a6⟩ := a
  obtain ⟨b1, b2, b3, b4, b5, b6⟩ := b
  simp)
def eqF (a b : Pick) : Bool := ((a.ak.aB == b.ak.aB) && ((a.ak.aA == b.ak.aA) && ((a.ak.aw == b.ak.aw) && ((a.ak.aC == b.ak.aC) && true)))) && ((a.aM == b.aM) && ((a.aI == b.aI) && ((a.aX == b.aX) && ((a.aH == b.aH) && ((a.aJ == b.aJ) && true)))))
theorem eqs (a b : Pick) : eqF a b = decide (a = b) := by
  obtain ⟨a1, a2, a3, a4, a5, a6⟩ := a
  obtain ⟨b1, b2, b3, b4, b5, b6⟩ := b
  unfold eqF
  simp only [Sd.eqs, aa.mk.injEq]
  by_cases e1 : a1 = b1 <;> by_cases e2 : a2 = b2 <;> by_cases e3 : a3 = b3 <;> by_cases e4 : a4 = b4 <;> by_cases e5 : a5 = b5 <;> by_cases e6 : a6 = b6 <;> simp [e1, e2, e3, e4, e5, e6]
end Go.Dw.De


set_option maxRecDepth 100000
set_option maxHeartbeats 4000000
namespace Go.Dw.De
open Go.Dw

theorem set1 {α : Type} (A : List α) (y z : α) (T : List α) {n : Int} (hn : n = A.length) : setO (A ++ y :: T) n z = some (A ++ z :: T) := by
  rw [setO_at (i := A.length) hn (by simp)]
  simp
def Gap (far : Int) (g h : List Pick) : Prop := ∀ b ∈ g, ∀ a ∈ h, far < a.aI - b.aI
structure BI (far : Int) (all : List Pick) (i : Nat) (out : List (List Pick)) : Prop where
  flat : out.flatten = all.take i
  ne : ∀ g ∈ out, g ≠ []
  gap : out.Pairwise (Gap far)
  pos : 0 < i → out ≠ []
structure xd (far : Int) (l : List Pick) (x : List (List Pick)) : Prop where
  flat : ∃ s : List Pick, jk l = some s ∧ s.length ≤ l.length ∧ s.Pairwise (fun a b => j7 a b < 0) ∧ (∀ p, p ∈ s ↔ p ∈ l) ∧ x.flatten.Perm s
  ne : ∀ g ∈ x, g ≠ []
  gap : x.Pairwise (Gap far)
  sorted : ∀ g ∈ x, g.Pairwise (fun a b => j7 a b < 0)
end Go.Dw.De




set_option maxRecDepth 100000
set_option maxHeartbeats 4000000
namespace Go.Dw.De
open Go.Dw Go.Proofs

theorem sid_len {x : Sid} (h : So.xc x = true) : So.SidLen x := by
  obtain ⟨h1, h2, h3, h4⟩ := So.valid_len h
  exact ⟨by omega, by omega, by omega, by omega⟩
theorem valid_pick {p : Pick} (h : lG p) : eL p = some true := by
  obtain ⟨h0, h1, h2, h3, h4, h5, h6, h7, h8⟩ := h
  unfold eL
  rw [So.Valid_eq (sid_len h0), h0, Option.bind_some, if_pos rfl, if_pos (by simpa using h1), if_pos (by simpa using h2), if_pos (by simpa using h3), if_pos (by simpa using h4)]
  have e1 : ml p.aH 0 1073741823 = some true := by unfold ml; rw [if_pos (by simpa using h5)]; simpa using h6
  have e2 : ml p.aJ (-1) 1 = some true := by unfold ml; rw [if_pos (by simpa using h7)]; simpa using h8
  rw [e1, Option.bind_some, if_pos rfl, e2]; rfl
def P (t : Int) : Pick := ⟨⟨[65, 66], [83, 49], [48, 48], [66, 72, 90]⟩, t, t, t, 0, 0⟩
def S1 : Sid := ⟨[65, 66], [83, 49], [48, 48], [66, 72, 90]⟩
theorem pick_at (t : Int) : fR t = some (P t) := by
  have : fw (0 : Int) = some S1 := by kernel_rfl
  unfold fR
  rw [this]; rfl
theorem sortP {a : Pick} {l r : List Pick} (hl : (a :: l).length < 4611686018427387904)
    (h : (haveI : Inhabited Pick := ⟨a⟩; (Sort.pdq (fun x y => decide (j7 x y < 0)) (a :: l).toArray 0 (a :: l).length (Lib.bitLen (a :: l).length) true true).toList) = r) : sortO bu (a :: l) = some r := by
  rw [sortO_cons, if_pos ⟨Compare_ok, hl⟩, lt3_eq, ← h]
theorem lt3S : lt3 ca = fun x y => decide (Sd.rD x y < 0) := by
  funext x y
  unfold lt3
  rw [Sd.lF]; rfl
theorem sortS {a : Sid} {l r : List Sid} (hl : (a :: l).length < 4611686018427387904)
    (h : (haveI : Inhabited Sid := ⟨a⟩; (Sort.pdq (fun x y => decide (Sd.rD x y < 0)) (a :: l).toArray 0 (a :: l).length (Lib.bitLen (a :: l).length) true true).toList) = r) : sortO ca (a :: l) = some r := by
  rw [sortO_cons, if_pos ⟨⟨fun x y => ⟨_, Sd.lF x y⟩, by rw [lt3S]; exact Sd.ky.swo⟩, hl⟩, lt3S, ← h]
theorem lit2_eq (a b : aj) : bY a b = some (cmpI a.aK b.aK) := by
  unfold bY
  rw [Sd.cmp_int]; rfl
theorem lt3N : lt3 bY = fun x y => decide (cmpI x.aK y.aK < 0) := by
  funext x y
  unfold lt3
  rw [lit2_eq]; rfl
theorem sortN {a : aj} {l r : List aj} (hl : (a :: l).length < 4611686018427387904)
    (h : (haveI : Inhabited aj := ⟨a⟩; (Sort.pdq (fun x y => decide (cmpI x.aK y.aK < 0)) (a :: l).toArray 0 (a :: l).length (Lib.bitLen (a :: l).length) true true).toList) = r) : sortO bY (a :: l) = some r := by
  rw [sortO_cons, if_pos ⟨⟨fun x y => ⟨_, lit2_eq x y⟩, by rw [lt3N]; exact (cmpI_tot.map fun x : aj => x.aK).swo⟩, hl⟩, lt3N, ← h]
theorem awake_batches : bZ 10 [P 16, P 0, P 40, P 8] = some ([[P 0, P 8, P 16], [P 40]], 0) := by
  have e0 : dC [P 16, P 0, P 40, P 8] = some true := xA _ _ (by kernel_rfl)
  have e1 : sortO bu [P 16, P 0, P 40, P 8] = some [P 0, P 8, P 16, P 40] := sortP (by simp) (by kernel_rfl)
  have e2 : jk [P 16, P 0, P 40, P 8] = some [P 0, P 8, P 16, P 40] := by
    unfold jk
    have c1 : cloneO 104 [P 16, P 0, P 40, P 8] = some [P 16, P 0, P 40, P 8] := by kernel_rfl
    have c2 : c7 [P 0, P 8, P 16, P 40] = some [P 0, P 8, P 16, P 40] := vV _ _ (by kernel_rfl)
    rw [c1, Option.bind_some, e1, Option.bind_some, c2]; rfl
  have e3 : bK [P 0, P 8, P 16, P 40] = some [P 0, P 8, P 16, P 40] := n5 _ _ (by kernel_rfl)
  have e4 : loopO (dB [P 0, P 8, P 16, P 40] 10) ((0 : Int), []) = some [[P 0, P 8, P 16], [P 40]] := (Le.loop (fun s => tS _ _ s) bd _) _ (by kernel_rfl)
  have s1 : sortO bu [P 0, P 8, P 16] = some [P 0, P 8, P 16] := sortP (by simp) (by kernel_rfl)
  have s2 : sortO bu [P 40] = some [P 40] := sortP (by simp) (by kernel_rfl)
  have e5 : loopO (cS [[P 0, P 8, P 16], [P 40]]) ((0 : Int), [[P 0, P 8, P 16], [P 40]]) = some [[P 0, P 8, P 16], [P 40]] := by
    have n0 : cS [[P 0, P 8, P 16], [P 40]] ((0 : Int), [[P 0, P 8, P 16], [P 40]]) = some (.next ((1 : Int), [[P 0, P 8, P 16], [P 40]])) := by
      show (sortO bu [P 0, P 8, P 16]).bind _ = _
      rw [s1]; kernel_rfl
    have n1 : cS [[P 0, P 8, P 16], [P 40]] ((1 : Int), [[P 0, P 8, P 16], [P 40]]) = some (.next ((2 : Int), [[P 0, P 8, P 16], [P 40]])) := by
      show (sortO bu [P 40]).bind _ = _
      rw [s2]; kernel_rfl
    have n2 : cS [[P 0, P 8, P 16], [P 40]] ((2 : Int), [[P 0, P 8, P 16], [P 40]]) = some (.stop [[P 0, P 8, P 16], [P 40]]) := by kernel_rfl
    rw [loopO_next n0, loopO_next n1, loopO_stop n2]
  have e6 : cC 10 [P 16, P 0, P 40, P 8] = some [[P 0, P 8, P 16], [P 40]] := by
    unfold cC
    rw [e2, Option.bind_some, e3, Option.bind_some, e4, Option.bind_some, e5]; rfl
  unfold bZ
  rw [e0, e6]; rfl
theorem awake_depends : dp [P 4, P 5, P 9] = some [⟨S1, [⟨4, 6⟩, ⟨9, 10⟩]⟩] := by
  have d1 : loopO (eV [P 4, P 5, P 9]) ((0 : Int), [], []) = some ([(S1, [⟨4, 5⟩, ⟨5, 6⟩, ⟨9, 10⟩])], [S1, S1, S1]) := (Le.loop (fun s => tR _ s) bd _) _ (by kernel_rfl)
  have d2 : sortO ca [S1, S1, S1] = some [S1, S1, S1] := sortS (by simp) (by kernel_rfl)
  have d3 : l7 [S1, S1, S1] = some [S1] := by
    unfold l7
    have c1 : cloneO 64 [S1, S1, S1] = some [S1, S1, S1] := by kernel_rfl
    have c2 : cp [S1, S1, S1] = some [S1] := tK _ _ (by kernel_rfl)
    rw [c1, Option.bind_some, d2, Option.bind_some, c2]; rfl
  have d4 : gw [⟨4, 5⟩, ⟨5, 6⟩, ⟨9, 10⟩] = some [⟨4, 6⟩, ⟨9, 10⟩] := by
    unfold gw
    have c1 : cloneO 16 ([⟨4, 5⟩, ⟨5, 6⟩, ⟨9, 10⟩] : List aj) = some [⟨4, 5⟩, ⟨5, 6⟩, ⟨9, 10⟩] := by kernel_rfl
    have c2 : bL [⟨4, 5⟩, ⟨5, 6⟩, ⟨9, 10⟩] = some [⟨4, 5⟩, ⟨5, 6⟩, ⟨9, 10⟩] := qp _ _ (by kernel_rfl)
    have c3 : sortO bY [⟨4, 5⟩, ⟨5, 6⟩, ⟨9, 10⟩] = some [⟨4, 5⟩, ⟨5, 6⟩, ⟨9, 10⟩] := sortN (by simp) (by kernel_rfl)
    have c4 : loopO (gN [⟨4, 5⟩, ⟨5, 6⟩, ⟨9, 10⟩]) ((0 : Int), []) = some [⟨4, 6⟩, ⟨9, 10⟩] := (Le.loop (fun s => yC _ s) bd _) _ (by kernel_rfl)
    rw [c1, Option.bind_some, c2, Option.bind_some, c3, Option.bind_some, c4]; rfl
  have d5 : loopO (eW [S1] ([(S1, [⟨4, 5⟩, ⟨5, 6⟩, ⟨9, 10⟩])], [S1, S1, S1])) ((0 : Int), []) = some [⟨S1, [⟨4, 6⟩, ⟨9, 10⟩]⟩] := by
    have n0 : eW [S1] ([(S1, [⟨4, 5⟩, ⟨5, 6⟩, ⟨9, 10⟩])], [S1, S1, S1]) ((0 : Int), []) = some (.next ((1 : Int), [⟨S1, [⟨4, 6⟩, ⟨9, 10⟩]⟩])) := by
      show (gw (mGet si S1 [] [(S1, [⟨4, 5⟩, ⟨5, 6⟩, ⟨9, 10⟩])])).bind _ = _
      have : mGet si S1 [] [(S1, ([⟨4, 5⟩, ⟨5, 6⟩, ⟨9, 10⟩] : List aj))] = [⟨4, 5⟩, ⟨5, 6⟩, ⟨9, 10⟩] := by kernel_rfl
      rw [this, d4]; rfl
    have n1 : eW [S1] ([(S1, [⟨4, 5⟩, ⟨5, 6⟩, ⟨9, 10⟩])], [S1, S1, S1]) ((1 : Int), [⟨S1, [⟨4, 6⟩, ⟨9, 10⟩]⟩]) = some (.stop [⟨S1, [⟨4, 6⟩, ⟨9, 10⟩]⟩]) := by kernel_rfl
    rw [loopO_next n0, loopO_stop n1]
  unfold dp
  rw [d1, Option.bind_some]
  dsimp only
  rw [d3, Option.bind_some, d5]; rfl
theorem awake_at : fx = some true := by
  unfold fx
  have h1 : fw (0 : Int) = some S1 := by kernel_rfl
  have h2 : eA [⟨S1, [⟨4, 6⟩, ⟨9, 10⟩]⟩] [⟨S1, [⟨4, 6⟩, ⟨9, 10⟩]⟩] = some true := wx _ _ _ (by kernel_rfl)
  simp only [pick_at, Option.bind_some, awake_batches, awake_depends, h1]
  rw [show ((0 : Int) == 0) = true from rfl, if_pos rfl]
  show (eA _ _).bind _ = _
  rw [h2]; rfl

end Go.Dw.De


set_option maxRecDepth 100000
set_option maxHeartbeats 4000000
namespace Go.Dw.De
open Go.Dw Go.Proofs
open Sd (rD ky mf)

theorem vA {α ω : Type} {body : Int → Option (Step1 Int (Unit ⊕ ω))} (l : List α) {p : α → Bool} {f : Nat → α → ω}
    (h1 : ∀ (i : Nat) (hi : i < l.length), body i = if p l[i] = true then some (.stop (.inr (f i l[i]))) else some (.next ((i + 1 : Nat) : Int)))
    (h2 : body (l.length : Nat) = some (.stop (.inl ()))) :
    (loopO body (0 : Int) = some (.inl ()) ∧ ∀ x ∈ l, p x = false) ∨
    ∃ (i : Nat) (hi : i < l.length), loopO body (0 : Int) = some (.inr (f i l[i])) ∧ p l[i] = true ∧ ∀ x ∈ l.take i, p x = false := by
  have : ∀ k i, i + k = l.length → (∀ x ∈ l.take i, p x = false) → (loopO body (i : Int) = some (.inl ()) ∧ ∀ x ∈ l, p x = false) ∨
      ∃ (j : Nat) (hj : j < l.length), loopO body (i : Int) = some (.inr (f j l[j])) ∧ p l[j] = true ∧ ∀ x ∈ l.take j, p x = false := by
    intro k
    induction k with
    | zero =>
      intro i hi ha
      obtain rfl : i = l.length := by omega
      exact .inl ⟨loopO_stop h2, by simpa using ha⟩
    | succ k ih =>
      intro i hi ha
      have hlt : i < l.length := by omega
      cases hp : p l[i] with
      | true => exact .inr ⟨i, hlt, loopO_stop (by rw [h1 i hlt, if_pos hp]), hp, ha⟩
      | false =>
        have e := loopO_next (ω := Unit ⊕ ω) (body := body) (s := (i : Int)) (s' := ((i + 1 : Nat) : Int)) (by rw [h1 i hlt, if_neg (by simp [hp])])
        rw [e]
        refine ih (i + 1) (by omega) fun x hx => ?_
        rw [take_succ_at hlt] at hx
        rcases List.mem_append.1 hx with hx | hx
        · exact ha x hx
        · rw [List.mem_singleton] at hx; rw [hx]; exact hp
  have := this l.length 0 (by omega) (by simp)
  simpa using this
theorem loop_find {α ω : Type} {body : Int → Option (Step1 Int (Unit ⊕ ω))} (l : List α) {p : α → Bool} {f : α → ω}
    (h1 : ∀ (i : Nat) (hi : i < l.length), body i = if p l[i] = true then some (.stop (.inr (f l[i]))) else some (.next ((i + 1 : Nat) : Int)))
    (h2 : body (l.length : Nat) = some (.stop (.inl ()))) : loopO body (0 : Int) = some (match l.find? p with | none => .inl () | some x => .inr (f x)) := by
  rcases vA l (f := fun _ x => f x) h1 h2 with ⟨e, h⟩ | ⟨i, hi, e, hp, h⟩
  · rw [e, List.find?_eq_none.2 fun x hx => by simp [h x hx]]
  · rw [e]
    have : l.find? p = some l[i] := by
      refine List.find?_eq_some_iff_append.2 ⟨hp, l.take i, l.drop (i + 1), ?_, fun x hx => by simp [h x hx]⟩
      rw [← List.drop_eq_getElem_cons hi, List.take_append_drop]
    rw [this]
theorem xo {ω : Type} {body : Int → Option (Step1 Int (Unit ⊕ ω))} (n : Nat) (h1 : ∀ i : Nat, i < n → body i = some (.next ((i + 1 : Nat) : Int))) (h2 : body (n : Nat) = some (.stop (.inl ()))) : loopO body (0 : Int) = some (.inl ()) := by
  have : ∀ k i : Nat, i + k = n → loopO body (i : Int) = some (.inl ()) := by
    intro k
    induction k with
    | zero => intro i hi; obtain rfl : i = n := by omega
              exact loopO_stop h2
    | succ k ih => intro i hi; rw [loopO_next (h1 i (by omega))]; exact ih (i + 1) (by omega)
  simpa using this n 0 (by omega)

theorem terms_ok {l : List Int} (hl : l.length ≤ 1000) (h : ∀ x ∈ l, -1048576 ≤ x ∧ x ≤ 1048576) : cX l = some true := by
  unfold cX cY dP
  rw [xo l.length (fun i hi => ?_) ?_]
  · rfl
  · unfold cZ
    rw [if_neg (by simp)]
  · unfold cZ
    have hx := h l[i] (List.getElem_mem hi)
    rw [if_pos (by simp; omega), getO_at rfl hi, Option.bind_some]
    unfold gT cN
    rw [if_pos (by simpa using hx.1), Option.bind_some, Option.bind_some, if_neg (by simpa using hx.2), w64 (by omega) (by omega)]
    simp
def ua (x : ar) : Prop := dS x = some true ∧ (x.cb = 2 → x.bg = 1) ∧ x.br.length ≤ 3
theorem gain_ok {a b : Int} (ha : 1 ≤ a ∧ a ≤ 1048576) (hb : 1 ≤ b ∧ b ≤ 1048576) : ua ⟨0, ⟨a, 0, 0⟩, ⟨b, 0, 0⟩, [], 0, 0⟩ := by
  refine ⟨?_, by simp, by simp⟩
  unfold dS cN
  simp [ha.1, ha.2, hb.1, hb.2]
theorem section_ok {a b c d e f : Int} (ha : -10 ≤ a ∧ a ≤ 10) (hb : -10 ≤ b ∧ b ≤ 10) (hc : -10 ≤ c ∧ c ≤ 10) (hd : 1 ≤ d ∧ d ≤ 10) (he : -10 ≤ e ∧ e ≤ 10) (hf : -10 ≤ f ∧ f ≤ 10) : ua ⟨1, ⟨a, b, c⟩, ⟨d, e, f⟩, [], 0, 0⟩ := by
  refine ⟨?_, by simp, by simp⟩
  have h1 : cX [a, b, c] = some true := terms_ok (by simp) (by simp; omega)
  have h2 : cX [d, e, f] = some true := terms_ok (by simp) (by simp; omega)
  have h3 : d ≠ 0 := by omega
  unfold dS
  simp [h1, h2, h3]
theorem filter_ok {a s : Int} (ha : 1 ≤ a ∧ a ≤ 3) (hs : 0 ≤ s ∧ s ≤ 3) : ua ⟨2, ⟨0, 0, 0⟩, ⟨0, 0, 0⟩, [a, 2, 1], 1, s⟩ := by
  have h1 : a = 1 ∨ a = 2 ∨ a = 3 := by omega
  have h2 : s = 0 ∨ s = 1 ∨ s = 2 ∨ s = 3 := by omega
  refine ⟨?_, by simp, by simp⟩
  rcases h1 with rfl | rfl | rfl <;> rcases h2 with rfl | rfl | rfl | rfl <;> exact pf _ _ (by kernel_rfl)
def RespOk (r : aD) : Prop := r.aO.length ≤ 3 ∧ ∀ x ∈ r.aO, ua x
theorem responseV (d : Src) (hd : cv d) : Ok (ga d) (fun r => RespOk r.1 ∧ cv r.2) := by
  unfold ga
  refine Ok.bind (fN _ _ hd (by omega) (by omega)) (fun x1 h1 => ?_)
  refine Ok.bind (P := fun o : List Int × Int × List ar => cv ⟨o.1, o.2.1⟩ ∧ (o.2.2.length ≤ 3 ∧ ∀ x ∈ o.2.2, ua x)) (Ok.loop (fun s => 0 ≤ s.1 ∧ s.1 + s.2.2.2.length ≤ 3 ∧ (∀ x ∈ s.2.2.2, ua x) ∧ cv ⟨s.2.1, s.2.2.1⟩) (fun s => s.1.toNat) ?_ ⟨by simp only; omega, by simp only [List.length_nil]; omega, by simp, h1.2.2⟩) (fun o ho => Ok.ret (Q := fun r : aD × Src => RespOk r.1 ∧ cv r.2) ⟨ho.2, ho.1⟩)
  rintro ⟨s2, s3, s4, s5⟩ ⟨i0, i1, i2, i3⟩
  simp only at i0 i1 i2 i3
  unfold jD
  have happ : ∀ (x : ar), Ok (appO s5 [x] 96) (fun r => r = s5 ++ [x]) := fun x => Ok.app (by simp only [List.length_cons, List.length_nil]; omega)
  have hnext : ∀ {x : ar}, ua x → ∀ c ∈ s5 ++ [x], ua c := fun hx c hc => by
    simp only [List.mem_append, List.mem_singleton] at hc
    rcases hc with hc | rfl
    · exact i2 c hc
    · exact hx
  refine Ok.iteD (fun hgt => ?_) (fun _ => Ok.st ⟨i3, by simp only; omega, i2⟩)
  refine Ok.bind (fN _ _ i3 (by omega) (by omega)) (fun y1 g1 => ?_)
  refine Ok.iteE (fun hk => ?_) (fun _ => Ok.iteE (fun hk => ?_) (fun _ => ?_))
  · refine Ok.bind (kg _ _ g1.2.2 (by simp) (by simp)) (fun y2 g2 => ?_)
    refine Ok.bind (kg _ _ g2.2 (by simp) (by simp)) (fun y3 g3 => ?_)
    refine Ok.bind (happ _) (fun y4 g4 => ?_)
    subst g4
    have b1 : 0 ≤ y2.1 ∧ y2.1 ≤ 1048575 := by have := g2.1; simp at this; omega
    have b2 : 0 ≤ y3.1 ∧ y3.1 ≤ 999 := by have := g3.1; simp at this; omega
    rw [w64 (n := s2 - 1) (by omega) (by omega), w64 (n := 1 + y2.1) (by omega) (by omega), w64 (n := 1 + y3.1) (by omega) (by omega), hk]
    exact Ok.nx ⟨by simp only; omega, by simp only [List.length_append, List.length_cons, List.length_nil]; omega, hnext (gain_ok (by omega) (by omega)), g3.2⟩ (by simp only; omega)
  · refine Ok.bind (fN _ _ g1.2.2 (by omega) (by omega)) (fun y2 g2 => ?_)
    refine Ok.bind (fN _ _ g2.2.2 (by omega) (by omega)) (fun y3 g3 => ?_)
    refine Ok.bind (fN _ _ g3.2.2 (by omega) (by omega)) (fun y4 g4 => ?_)
    refine Ok.bind (fN _ _ g4.2.2 (by omega) (by omega)) (fun y5 g5 => ?_)
    refine Ok.bind (fN _ _ g5.2.2 (by omega) (by omega)) (fun y6 g6 => ?_)
    refine Ok.bind (fN _ _ g6.2.2 (by omega) (by omega)) (fun y7 g7 => ?_)
    refine Ok.bind (happ _) (fun y8 g8 => ?_)
    subst g8
    rw [w64 (n := s2 - 1) (by omega) (by omega), w64 (n := y3.1 - 3) (by omega) (by omega), w64 (n := y4.1 - 1) (by omega) (by omega), w64 (n := 1 + y5.1) (by omega) (by omega), hk]
    exact Ok.nx ⟨by simp only; omega, by simp only [List.length_append, List.length_cons, List.length_nil]; omega, hnext (section_ok (by omega) (by omega) (by omega) (by omega) (by omega) (by omega)), g7.2.2⟩ (by simp only; omega)
  · refine Ok.bind (fN _ _ g1.2.2 (by omega) (by omega)) (fun y2 g2 => ?_)
    refine Ok.bind (fN _ _ g2.2.2 (by omega) (by omega)) (fun y3 g3 => ?_)
    refine Ok.bind (happ _) (fun y8 g8 => ?_)
    subst g8
    rw [w64 (n := s2 - 1) (by omega) (by omega), w64 (n := 1 + y2.1) (by omega) (by omega), show y1.1 = 2 by omega]
    exact Ok.nx ⟨by simp only; omega, by simp only [List.length_append, List.length_cons, List.length_nil]; omega, hnext (filter_ok (by omega) (by omega)), g3.2.2⟩ (by simp only; omega)
theorem resp_valid {r : aD} (h : RespOk r) : jL r = some true := by
  obtain ⟨hl, hs⟩ := h
  unfold jL
  rw [if_neg (by simp; omega)]
  have e1 : ci r.aO = some false := by
    unfold ci dh
    rw [xo r.aO.length (fun i hi => ?_) ?_]
    · rfl
    · unfold cI
      rw [if_neg (by simp)]
    · unfold cI gR
      rw [if_pos (by simp; omega), getO_at rfl hi, Option.bind_some, (hs _ (List.getElem_mem hi)).1, Option.bind_some, Option.bind_some, if_neg (by simp), w64 (by omega) (by omega)]
      simp
  have e2 : jd r.aO = some 1 := by
    unfold jd
    have : Ok (loopO (iE r.aO) ((1 : Int), (0 : Int))) (fun o => o = .inl 1) := by
      refine Ok.loop (fun s => s.1 = 1 ∧ 0 ≤ s.2 ∧ s.2 ≤ r.aO.length) (fun s => ((r.aO.length : Int) - s.2).toNat) ?_ ⟨rfl, Int.le_refl _, by simp⟩
      rintro ⟨s1, s2⟩ ⟨i0, i1, i2⟩
      simp only at i0 i1 i2
      subst i0
      unfold iE
      dsimp only
      refine Ok.iteD (fun hlt => ?_) (fun _ => Ok.st rfl)
      refine Ok.bind (Ok.get (by omega) (by omega)) (fun x hx => ?_)
      rw [w64 (n := s2 + 1) (by omega) (by omega)]
      refine Ok.iteNe (fun _ => Ok.nx ⟨rfl, by simp only; omega, by simp only; omega⟩ (by simp only; omega)) (fun hk => ?_)
      rw [(hs x hx.1).2.1 hk]
      refine Ok.iteD (fun hc => absurd hc (by decide)) (fun _ => ?_)
      rw [w64 (n := 1 * 1) (by omega) (by omega)]
      exact Ok.nx ⟨rfl, by simp only; omega, by simp only; omega⟩ (by simp only; omega)
    rw [this.eq]; rfl
  rw [e1, Option.bind_some, if_neg (by simp), e2]; rfl

def RateOk (r : aU) : Prop := r.aQ = 1 ∧ (r.aW = 100 ∨ r.aW = 50 ∨ r.aW = 51)
theorem rate_valid {r : aU} (h : RateOk r) : tk r = some true := by
  obtain ⟨n, d⟩ := r
  obtain ⟨h1, h2⟩ := h
  simp only at h1 h2
  subst h1
  rcases h2 with rfl | rfl | rfl <;> exact xS _ _ (by kernel_rfl)
structure EpOk (e : ai) : Prop where
  lo : 0 ≤ e.aK
  lt : e.aK < e.fTo
  hi : e.fTo ≤ 10000000
  from_ : e.aK ≤ 2000
  rate : RateOk e.bI
  resp : RespOk e.aS
  pos : uI 60 e.aF
theorem ep_valid {e : ai} (h : EpOk e) : eK e = some true := by
  obtain ⟨h1, h2, h3, -, h4, h5, ⟨p1, p2⟩, ⟨p3, p4⟩, p5, p6⟩ := h
  have hin : ∀ {x a b : Int}, a ≤ x → x ≤ b → gc x a b = some true := fun h h' => by
    unfold gc; rw [if_pos (by simpa using h)]; simpa using h'
  unfold eK
  rw [if_pos (by simpa using h1), if_pos (by simpa using h2), if_pos (by simp; omega), rate_valid h4, Option.bind_some, if_pos rfl, resp_valid h5, Option.bind_some, if_pos rfl,
    hin (by omega) (by omega), Option.bind_some, if_pos rfl, hin (by omega) (by omega), Option.bind_some, if_pos rfl, hin (by omega) (by omega)]
  rfl
structure t6 (l : List ai) : Prop where
  ne : l ≠ []
  len : l.length ≤ 2
  all : ∀ e ∈ l, EpOk e
  ord : (l.map fun e => (e.aK, e.fTo)).Pairwise (fun a b => a.2 ≤ b.1)
theorem epochs_valid {l : List ai} (h : t6 l) : io l = some true := by
  have hlen := h.len
  have hne := List.length_pos_iff.2 h.ne
  unfold io
  rw [xo l.length (fun i hi => ?_) ?_, Option.bind_some]
  · dsimp only
    unfold gc
    rw [if_pos (by simp; omega), Option.bind_some]
    simp; omega
  · unfold gm
    rw [if_neg (by simp)]
  · unfold gm
    rw [if_pos (by simp; omega), getO_at rfl hi, Option.bind_some, ep_valid (h.all _ (List.getElem_mem hi)), Option.bind_some, if_neg (by simp), w64 (n := (i : Int) + 1) (by omega) (by omega)]
    by_cases h0 : i = 0
    · subst h0; rfl
    · rw [if_pos (by simp; omega), w64 (by omega) (by omega), getO_at (i := i - 1) (by omega) (by omega), Option.bind_some]
      have := List.pairwise_iff_getElem.1 h.ord (i - 1) i (by simp; omega) (by simpa using hi) (by omega)
      simp only [List.getElem_map] at this
      rw [if_neg (by simpa using this)]
      simp
def ChOk (c : ac) : Prop := IsSid c.ak ∧ t6 c.aP
structure u6 (v : ae) : Prop where
  len : v.ap.length ≤ 6
  all : ∀ c ∈ v.ap, ChOk c
  ord : (v.ap.map (·.ak)).Pairwise (fun a b => rD a b < 0)
theorem u6.inv {v : ae} (h : u6 v) : InvOk v := ⟨h.len, fun c hc => ⟨(h.all c hc).2.len, fun e he => ((h.all c hc).2.all e he).pos⟩⟩
theorem inv_valid {v : ae} (h : u6 v) : bP v = some true := by
  have hlen := h.len
  unfold bP
  rw [xo v.ap.length (fun i hi => ?_) ?_, Option.bind_some]
  · simp; omega
  · unfold gQ
    rw [if_neg (by simp)]
  · unfold gQ
    obtain ⟨c1, c2⟩ := h.all _ (List.getElem_mem hi)
    rw [if_pos (by simp; omega), getO_at rfl hi, Option.bind_some, So.Valid_eq (sid_len c1), c1, Option.bind_some, if_neg (by simp), epochs_valid c2, Option.bind_some, if_neg (by simp), w64 (n := (i : Int) + 1) (by omega) (by omega)]
    by_cases h0 : i = 0
    · subst h0; rfl
    · rw [if_pos (by simp; omega), w64 (by omega) (by omega), getO_at (i := i - 1) (by omega) (by omega), Option.bind_some, Sd.lF, Option.bind_some]
      have := List.pairwise_iff_getElem.1 h.ord (i - 1) i (by simp; omega) (by simpa using hi) (by omega)
      simp only [List.getElem_map] at this
      rw [if_neg (by simpa using this)]
      simp

def sid (i : Nat) : Sid := ⟨[65, 66], stas.getD i [], [48, 48], [66, 72, 90]⟩
theorem source_at {n : Int} {i : Nat} (hn : n = i) (hi : i < 6) : fw n = some (sid i) := by
  subst hn
  have : i = 0 ∨ i = 1 ∨ i = 2 ∨ i = 3 ∨ i = 4 ∨ i = 5 := by omega
  rcases this with rfl | rfl | rfl | rfl | rfl | rfl <;> exact oN _ _ (by kernel_rfl)
theorem sid_ok {i : Nat} (hi : i < 6) : IsSid (sid i) := by
  have : i = 0 ∨ i = 1 ∨ i = 2 ∨ i = 3 ∨ i = 4 ∨ i = 5 := by omega
  rcases this with rfl | rfl | rfl | rfl | rfl | rfl <;> (show So.xc _ = true; decide +kernel)
theorem sid_lt {i j : Nat} (h : i < j) (hj : j < 6) : rD (sid i) (sid j) < 0 := by
  have h1 : i = 0 ∨ i = 1 ∨ i = 2 ∨ i = 3 ∨ i = 4 := by omega
  have h2 : j = 1 ∨ j = 2 ∨ j = 3 ∨ j = 4 ∨ j = 5 := by omega
  rcases h1 with rfl | rfl | rfl | rfl | rfl <;> rcases h2 with rfl | rfl | rfl | rfl | rfl <;> first | omega | decide +kernel
theorem eps1 {e : ai} (h : EpOk e) : t6 [e] := ⟨by simp, by simp, by simpa using h, by simp⟩
theorem eps2 {e f : ai} (h : EpOk e) (h' : EpOk f) (ho : e.fTo ≤ f.aK) : t6 [e, f] := ⟨by simp, by simp, by simp; exact ⟨h, h'⟩, by simpa using ho⟩
def SitesI (s : Int × List Int × Int × List ac) : Prop := ∃ i : Nat, s.1 = i ∧ i ≤ 6 ∧ s.2.2.2.map (·.ak) = (List.range i).map sid ∧ (∀ c ∈ s.2.2.2, t6 c.aP) ∧ cv ⟨s.2.1, s.2.2.1⟩
theorem sitesV (d : Src) (hd : cv d) : Ok (ja 6 d) (fun r => u6 r.1 ∧ cv r.2) := by
  unfold ja
  refine Ok.bind (P := fun o => cv ⟨o.1, o.2.1⟩ ∧ u6 ⟨o.2.2⟩) (Ok.loop SitesI (fun s => (6 - s.1).toNat) ?_ ⟨0, rfl, by omega, rfl, by simp, hd⟩) (fun o ho => Ok.ret ⟨ho.2, ho.1⟩)
  rintro ⟨s1, s2, s3, s4⟩ ⟨i, i0, i1, i2, i3, i4⟩
  simp only at i0 i1 i2 i3 i4
  subst i0
  have hlen : s4.length = i := by have := congrArg List.length i2; simpa using this
  unfold nh
  have happ : ∀ (x : ac), Ok (appO s4 [x] 88) (fun r => r = s4 ++ [x]) := fun x => Ok.app (by simp only [List.length_cons, List.length_nil]; omega)
  have hend : u6 ⟨s4⟩ := by
    refine ⟨by simp only; omega, fun c hc => ⟨?_, i3 c hc⟩, ?_⟩
    · have : c.ak ∈ s4.map (·.ak) := List.mem_map.2 ⟨c, hc, rfl⟩
      rw [i2] at this
      obtain ⟨j, hj, e⟩ := List.mem_map.1 this
      rw [← e]
      exact sid_ok (by have := List.mem_range.1 hj; omega)
    · simp only
      rw [i2, List.pairwise_map]
      exact List.pairwise_lt_range.imp_of_mem fun ha hb hab => sid_lt hab (by have := List.mem_range.1 hb; omega)
  have hnext : ∀ {l : List ai} {t : Src}, i < 6 → t6 l → cv t → Ok (some (.next ((i : Int) + 1, t.fL, t.fAt, s4 ++ [⟨sid i, l⟩]))) (Ok.S SitesI (fun s => (6 - s.1).toNat) (fun o : List Int × Int × List ac => cv ⟨o.1, o.2.1⟩ ∧ u6 ⟨o.2.2⟩) ((i : Int), s2, s3, s4)) := fun {l t} hi hl ht => by
    refine Ok.nx ⟨i + 1, by simp, by omega, ?_, fun c hc => ?_, ht⟩ (by simp only; omega)
    · simp [List.range_succ, i2]
    · simp only [List.mem_append, List.mem_singleton] at hc
      rcases hc with hc | rfl
      · exact i3 c hc
      · exact hl
  refine Ok.iteD (fun hlt => ?_) (fun _ => Ok.st ⟨i4, hend⟩)
  refine Ok.iteD (fun _ => ?_) (fun _ => Ok.st ⟨i4, hend⟩)
  have hi : i < 6 := by omega
  refine Ok.bind (uV 60 (by omega) (by omega) _ i4) (fun y1 g1 => ?_)
  refine Ok.bind (responseV _ g1.2) (fun y2 g2 => ?_)
  rw [source_at rfl hi, Option.bind_some]
  refine Ok.bind (fN _ _ g2.2 (by omega) (by omega)) (fun y4 g4 => ?_)
  rw [w64 (n := (i : Int) + 1) (by omega) (by omega)]
  have hr : RateOk ⟨100, 1⟩ := ⟨rfl, .inl rfl⟩
  refine Ok.iteE (fun _ => ?_) (fun _ => Ok.iteE (fun _ => ?_) (fun _ => ?_))
  · refine Ok.bind (fN _ _ g4.2.2 (by omega) (by omega)) (fun y5 g5 => ?_)
    refine Ok.bind (uV 60 (by omega) (by omega) _ g5.2.2) (fun y6 g6 => ?_)
    refine Ok.bind (responseV _ g6.2) (fun y7 g7 => ?_)
    refine Ok.bind (Ok.isin (by omega) (by simp)) (fun _ _ => ?_)
    refine Ok.bind (Ok.mod (by omega) (by simp)) (fun y8 g8 => ?_)
    obtain ⟨x, hx, rfl⟩ := g8
    simp at hx
    subst hx
    refine Ok.bind (Ok.app (by simp)) (fun y9 g9 => ?_)
    subst g9
    refine Ok.bind (happ _) (fun y10 g10 => ?_)
    subst g10
    rw [w64 (n := 1500 + y5.1) (by omega) (by omega)]
    exact hnext hi (eps2 ⟨by simp, by simp only; omega, by simp only; omega, by simp, hr, g2.1, g1.1⟩ ⟨by simp only; omega, by simp only; omega, by simp, by simp only; omega, hr, g7.1, g6.1⟩ (by simp)) g7.2
  · refine Ok.bind (fN _ _ g4.2.2 (by omega) (by omega)) (fun y5 g5 => ?_)
    refine Ok.bind (Ok.isin (by omega) (by simp)) (fun _ _ => ?_)
    refine Ok.bind (Ok.mod (by omega) (by simp)) (fun y8 g8 => ?_)
    obtain ⟨x, hx, rfl⟩ := g8
    simp at hx
    subst hx
    refine Ok.bind (happ _) (fun y10 g10 => ?_)
    subst g10
    exact hnext hi (eps1 ⟨g5.1, by simp only; omega, by simp, by simp only; omega, hr, g2.1, g1.1⟩) g5.2.2
  · refine Ok.bind (happ _) (fun y10 g10 => ?_)
    subst g10
    exact hnext hi (eps1 ⟨by simp, by simp, by simp, by simp, hr, g2.1, g1.1⟩) g4.2.2

theorem t6.set {l : List ai} (h : t6 l) {k : Nat} {x y : ai} (hx : l[k]? = some x) (h1 : y.aK = x.aK) (h2 : y.fTo = x.fTo) (hy : EpOk y) : t6 (l.set k y) := by
  obtain ⟨hk, hxe⟩ := List.getElem?_eq_some_iff.1 hx
  refine ⟨fun e => h.ne (by simpa using e), by simpa using h.len, fun e he => ?_, ?_⟩
  · rcases List.mem_or_eq_of_mem_set he with h3 | rfl
    · exact h.all e h3
    · exact hy
  · have : (l.set k y).map (fun e => (e.aK, e.fTo)) = l.map (fun e => (e.aK, e.fTo)) := by
      apply List.ext_getElem? 
      intro j
      simp only [List.getElem?_map, List.getElem?_set]
      by_cases e : k = j
      · subst e
        rw [if_pos rfl, if_pos hk, hx]; simp [h1, h2]
      · rw [if_neg e]
    rw [this]; exact h.ord
theorem t6.last {l : List ai} (h : t6 l) {x y : ai} (hx : l[l.length - 1]? = some x) (h1 : y.aK = x.aK) (hy : EpOk y) : t6 (l.set (l.length - 1) y) := by
  obtain ⟨a1, a2, a3, a4⟩ := h
  rcases l with _ | ⟨a, _ | ⟨b, _ | ⟨c, l⟩⟩⟩
  · exact (a1 rfl).elim
  · exact eps1 hy
  · simp at hx
    subst hx
    exact eps2 (a3 a (by simp)) hy (by rw [h1]; simpa using a4)
  · simp at a2
def CorrI (v : ae) (s : Int × List Int × Int × List ac) : Prop := ∃ i : Nat, s.1 = i ∧ i ≤ v.ap.length ∧ (s.2.2.2.map (·.ak)).Sublist ((v.ap.take i).map (·.ak)) ∧ (∀ c ∈ s.2.2.2, t6 c.aP) ∧ cv ⟨s.2.1, s.2.2.1⟩
theorem correctedV (v : ae) (hv : u6 v) (d : Src) (hd : cv d) : Ok (ia v d) (fun r => u6 r.1 ∧ cv r.2) := by
  have hvl := hv.len
  unfold ia
  refine Ok.bind (P := fun o => cv ⟨o.1, o.2.1⟩ ∧ u6 ⟨o.2.2⟩) (Ok.loop (CorrI v) (fun s => ((v.ap.length : Int) - s.1).toNat) ?_ ⟨0, rfl, by omega, by simp, by simp, hd⟩) (fun o ho => Ok.ret ⟨ho.2, ho.1⟩)
  rintro ⟨s1, s2, s3, s4⟩ ⟨i, i0, i1, i2, i3, i4⟩
  simp only at i0 i1 i2 i3 i4
  subst i0
  have hlen : s4.length ≤ i := by have := i2.length_le; simp at this; omega
  unfold lk
  have happ : ∀ (x : ac), Ok (appO s4 [x] 88) (fun r => r = s4 ++ [x]) := fun x => Ok.app (by simp only [List.length_cons, List.length_nil]; omega)
  have hend : u6 ⟨s4⟩ := by
    refine ⟨by simp only; omega, fun c hc => ⟨?_, i3 c hc⟩, ?_⟩
    · have : c.ak ∈ s4.map (·.ak) := List.mem_map.2 ⟨c, hc, rfl⟩
      obtain ⟨c', hc', e⟩ := List.mem_map.1 (i2.subset this)
      rw [← e]
      exact (hv.all c' (List.mem_of_mem_take hc')).1
    · exact ((hv.ord.sublist (List.Sublist.map _ (List.take_sublist i _)))).sublist i2
  refine Ok.iteD (fun hlt => ?_) (fun _ => Ok.st ⟨i4, hend⟩)
  have hi : i < v.ap.length := by omega
  have htk : (v.ap.take (i + 1)).map (·.ak) = (v.ap.take i).map (·.ak) ++ [v.ap[i].ak] := by
    rw [take_succ_at hi, List.map_append]; rfl
  have hnext : ∀ {l : List ai} {t : Src}, t6 l → cv t → Ok (some (.next ((i : Int) + 1, t.fL, t.fAt, s4 ++ [⟨v.ap[i].ak, l⟩]))) (Ok.S (CorrI v) (fun s => ((v.ap.length : Int) - s.1).toNat) (fun o : List Int × Int × List ac => cv ⟨o.1, o.2.1⟩ ∧ u6 ⟨o.2.2⟩) ((i : Int), s2, s3, s4)) := fun {l t} hl ht => by
    refine Ok.nx ⟨i + 1, by simp, by omega, ?_, fun c hc => ?_, ht⟩ (by simp only; omega)
    · rw [htk, List.map_append]
      exact List.Sublist.append i2 (List.Sublist.refl _)
    · simp only [List.mem_append, List.mem_singleton] at hc
      rcases hc with hc | rfl
      · exact i3 c hc
      · exact hl
  rw [getO_at rfl hi, Option.bind_some]
  have hE := (hv.all _ (List.getElem_mem hi)).2
  generalize v.ap[i] = c at *
  have hEl := hE.len
  have hEn := List.length_pos_iff.2 hE.ne
  refine Ok.bind (Ok.app (by simp only [List.length_nil]; omega)) (fun y1 g1 => ?_)
  rw [List.nil_append] at g1
  subst g1
  refine Ok.bind (fN _ _ i4 (by omega) (by omega)) (fun y2 g2 => ?_)
  refine Ok.bind (fN _ _ g2.2.2 (by omega) (by omega)) (fun y3 g3 => ?_)
  rw [w64 (n := (i : Int) + 1) (by omega) (by omega)]
  have hget : ∀ {k : Int} {x : ai}, c.aP[k.toNat]? = some x → EpOk x := fun h => hE.all _ (List.mem_of_getElem? h)
  refine Ok.iteE (fun _ => ?_) (fun _ => Ok.iteE (fun _ => ?_) (fun _ => Ok.iteE (fun _ => ?_) (fun _ => Ok.iteE (fun _ => ?_) (fun _ => Ok.iteE (fun _ => ?_) (fun _ => ?_)))))
  · refine Ok.bind (uV 60 (by omega) (by omega) _ g3.2.2) (fun y4 g4 => ?_)
    refine Ok.bind (Ok.isin (by omega) (by omega)) (fun _ _ => ?_)
    refine Ok.bind (Ok.mod (by omega) (by omega)) (fun y5 g5 => ?_)
    obtain ⟨x, hx, rfl⟩ := g5
    have hx' := hget hx
    refine Ok.bind (happ _) (fun y6 g6 => ?_)
    subst g6
    exact hnext (hE.set hx rfl rfl ⟨hx'.lo, hx'.lt, hx'.hi, hx'.from_, hx'.rate, hx'.resp, g4.1⟩) g4.2
  · refine Ok.bind (responseV _ g3.2.2) (fun y4 g4 => ?_)
    refine Ok.bind (Ok.isin (by omega) (by omega)) (fun _ _ => ?_)
    refine Ok.bind (Ok.mod (by omega) (by omega)) (fun y5 g5 => ?_)
    obtain ⟨x, hx, rfl⟩ := g5
    have hx' := hget hx
    refine Ok.bind (happ _) (fun y6 g6 => ?_)
    subst g6
    exact hnext (hE.set hx rfl rfl ⟨hx'.lo, hx'.lt, hx'.hi, hx'.from_, hx'.rate, g4.1, hx'.pos⟩) g4.2
  · rw [w64 (n := (c.aP.length : Int) - 1) (by omega) (by omega)]
    refine Ok.bind (Ok.isin (by omega) (by omega)) (fun _ _ => ?_)
    refine Ok.bind (Ok.get (by omega) (by omega)) (fun x hx => ?_)
    refine Ok.bind (fN _ _ g3.2.2 (by omega) (by omega)) (fun y4 g4 => ?_)
    refine Ok.bind (kg _ _ g4.2.2 (by simp) (by simp)) (fun y5 g5 => ?_)
    refine Ok.bind (Ok.isin (by omega) (by omega)) (fun _ _ => ?_)
    refine Ok.bind (Ok.mod (by omega) (by omega)) (fun y6 g6 => ?_)
    obtain ⟨x', hx', rfl⟩ := g6
    obtain rfl : x' = x := by rw [hx.2] at hx'; exact (Option.some.inj hx').symm
    have hb : ∃ q, y4.1 * y5.1 = q ∧ 0 ≤ q ∧ q ≤ 3999000 := by
      have := g5.1
      simp at this
      rcases this with e | e <;> rw [e] <;> exact ⟨_, rfl, by omega, by omega⟩
    obtain ⟨q, hq, q0, q1⟩ := hb
    have hxo := hget hx.2
    have hxlt := hxo.lt
    have hxlo := hxo.lo
    have hxhi := hxo.hi
    rw [hq, w64 (n := q) (by omega) (by omega), w64 (n := x'.aK + 1) (by omega) (by omega), w64 (n := x'.aK + 1 + q) (by omega) (by omega)]
    refine Ok.bind (happ _) (fun y7 g7 => ?_)
    subst g7
    have hxf := hxo.from_
    have hk : ((c.aP.length : Int) - 1).toNat = c.aP.length - 1 := by omega
    rw [hk] at hx' ⊢
    exact hnext (hE.last hx' rfl ⟨hxlo, by simp only; omega, by simp only; omega, hxf, hxo.rate, hxo.resp, hxo.pos⟩) g5.2
  · exact Ok.nx ⟨i + 1, by simp, by omega, i2.trans (by rw [htk]; exact List.sublist_append_left _ _), i3, g3.2.2⟩ (by simp only; omega)
  · refine Ok.bind (fN _ _ g3.2.2 (by omega) (by omega)) (fun y4 g4 => ?_)
    refine Ok.bind (Ok.isin (by omega) (by omega)) (fun _ _ => ?_)
    refine Ok.bind (Ok.mod (by omega) (by omega)) (fun y5 g5 => ?_)
    obtain ⟨x, hx, rfl⟩ := g5
    have hx' := hget hx
    refine Ok.bind (Ok.isin (by omega) (by simp; omega)) (fun _ _ => ?_)
    refine Ok.bind (Ok.mod (by omega) (by simp; omega)) (fun y6 g6 => ?_)
    obtain ⟨z, hz, rfl⟩ := g6
    have hk : y2.1.toNat < c.aP.length := by omega
    rw [List.getElem?_set_self hk] at hz
    cases hz
    rw [List.set_set]
    refine Ok.bind (happ _) (fun y7 g7 => ?_)
    subst g7
    rw [w64 (n := 50 + y4.1) (by omega) (by omega)]
    exact hnext (hE.set hx rfl rfl ⟨hx'.lo, hx'.lt, hx'.hi, hx'.from_, ⟨rfl, by simp only; omega⟩, hx'.resp, hx'.pos⟩) g4.2.2
  · refine Ok.bind (happ _) (fun y6 g6 => ?_)
    subst g6
    exact hnext hE g3.2.2
end Go.Dw.De


set_option maxRecDepth 100000
set_option maxHeartbeats 4000000
namespace Go.Dw.De
open Go.Dw Go.Proofs
open Sd (rD ky mf)

theorem wJ {α : Type} {n : Nat} {l : List α} (h : l.length * n ≤ 140737488355328) : cloneO n l = some l := by
  unfold cloneO; rw [if_pos h]
def xe (r : aD) : Prop := r.aO.length ≤ 1000 ∧ ∀ x ∈ r.aO, x.br.length ≤ 1000
theorem copyEpoch_at {e : ai} (h : xe e.aS) : fp e = some e := by
  obtain ⟨h1, h2⟩ := h
  unfold fp
  rw [wJ (by omega), Option.bind_some]
  have : Ok (loopO (eJ e.aS.aO) ((0 : Int), e.aS.aO)) (fun o => o = e.aS.aO) := by
    refine Ok.loop (fun s => 0 ≤ s.1 ∧ s.1 ≤ e.aS.aO.length ∧ s.2 = e.aS.aO) (fun s => ((e.aS.aO.length : Int) - s.1).toNat) ?_ ⟨Int.le_refl _, by simp, rfl⟩
    rintro ⟨s2, s3⟩ ⟨i0, i1, i2⟩
    simp only at i0 i1 i2
    subst i2
    unfold eJ
    dsimp only
    refine Ok.iteD (fun hlt => ?_) (fun _ => Ok.st rfl)
    refine Ok.bind (Ok.isin (by omega) (by omega)) (fun _ _ => ?_)
    refine Ok.bind (Ok.get (by omega) (by omega)) (fun x hx => ?_)
    have := h2 x hx.1
    rw [wJ (by omega), Option.bind_some]
    refine Ok.bind (Ok.isin (by omega) (by omega)) (fun _ _ => ?_)
    refine Ok.bind (Ok.mod (by omega) (by omega)) (fun y hy => ?_)
    obtain ⟨z, hz, rfl⟩ := hy
    obtain rfl : x = z := by rw [hx.2] at hz; exact Option.some.inj hz
    rw [w64 (by omega) (by omega)]
    refine Ok.nx ⟨by simp only; omega, by simp only; omega, ?_⟩ (by simp only; omega)
    obtain ⟨hk, e⟩ := List.getElem?_eq_some_iff.1 hx.2
    simp only
    conv => lhs; rw [← e]
    exact List.set_getElem_self hk
  rw [this.eq]; rfl
def ChLen (c : ac) : Prop := c.aP.length ≤ 1000 ∧ ∀ e ∈ c.aP, xe e.aS
theorem copied_at {c : ac} (h : ChLen c) : im c = some c := by
  obtain ⟨h1, h2⟩ := h
  unfold im
  rw [wJ (by omega), Option.bind_some]
  have : Ok (loopO (gl c.aP) ((0 : Int), c.aP)) (fun o => o = c.aP) := by
    refine Ok.loop (fun s => 0 ≤ s.1 ∧ s.1 ≤ c.aP.length ∧ s.2 = c.aP) (fun s => ((c.aP.length : Int) - s.1).toNat) ?_ ⟨Int.le_refl _, by simp, rfl⟩
    rintro ⟨s2, s3⟩ ⟨i0, i1, i2⟩
    simp only at i0 i1 i2
    subst i2
    unfold gl
    dsimp only
    refine Ok.iteD (fun hlt => ?_) (fun _ => Ok.st rfl)
    refine Ok.bind (Ok.isin (by omega) (by omega)) (fun _ _ => ?_)
    refine Ok.bind (Ok.get (by omega) (by omega)) (fun x hx => ?_)
    rw [copyEpoch_at (h2 x hx.1), Option.bind_some]
    refine Ok.bind (Ok.isin (by omega) (by omega)) (fun _ _ => ?_)
    refine Ok.bind (Ok.set (by omega) (by omega)) (fun y hy => ?_)
    subst hy
    rw [w64 (by omega) (by omega)]
    refine Ok.nx ⟨by simp only; omega, by simp only; omega, ?_⟩ (by simp only; omega)
    obtain ⟨hk, e⟩ := List.getElem?_eq_some_iff.1 hx.2
    simp only
    conv => lhs; rw [← e]
    exact List.set_getElem_self hk
  rw [this.eq]; rfl
structure wB (v : ae) : Prop where
  len : v.ap.length ≤ 1000
  all : ∀ c ∈ v.ap, ChLen c
theorem u6.lens {v : ae} (h : u6 v) : wB v := by
  refine ⟨by have := h.len; omega, fun c hc => ?_⟩
  have hE := (h.all c hc).2
  refine ⟨by have := hE.len; omega, fun e he => ?_⟩
  have hR := (hE.all e he).resp
  exact ⟨by have := hR.1; omega, fun x hx => by have := (hR.2 x hx).2.2; omega⟩

def zCh : ac := ⟨⟨[], [], [], []⟩, []⟩
def zEp : ai := ⟨0, 0, ⟨0, 0⟩, ⟨0, 0, 0⟩, ⟨[]⟩⟩
def chan (v : ae) (s : Sid) : Option ac := v.ap.find? fun c => decide (c.ak = s)
def yN (l : List ai) (t : Int) : Option ai := l.find? fun e => decide (e.aK ≤ t ∧ t < e.fTo)
def tT (v : ae) (s : Sid) (t : Int) : Option ai := (chan v s).bind fun c => yN c.aP t
theorem Find_eq {v : ae} (hv : wB v) (s : Sid) : e9 v s = some (match chan v s with | none => (zCh, false) | some c => (c, true)) := by
  have hl := hv.len
  unfold e9
  rw [loop_find v.ap (p := fun c => decide (c.ak = s)) (f := fun c => (c, true)) (fun i hi => ?_) ?_, Option.bind_some]
  · unfold chan
    cases v.ap.find? fun c => decide (c.ak = s) <;> rfl
  · unfold ji
    rw [if_neg (by simp)]
  · unfold ji
    rw [if_pos (by simp; omega), getO_at rfl hi, Option.bind_some, Sd.eqs, copied_at (hv.all _ (List.getElem_mem hi)), Option.bind_some, w64 (by omega) (by omega)]
    simp
theorem at_eq {c : ac} (hc : c.aP.length ≤ 1000) (t : Int) : mj c t = some (match yN c.aP t with | none => (zEp, false) | some e => (e, true)) := by
  unfold mj
  rw [loop_find c.aP (p := fun e => decide (e.aK ≤ t ∧ t < e.fTo)) (f := fun e => (e, true)) (fun i hi => ?_) ?_, Option.bind_some]
  · unfold yN
    cases c.aP.find? fun e => decide (e.aK ≤ t ∧ t < e.fTo) <;> rfl
  · unfold kA
    rw [if_neg (by simp)]
  · unfold kA
    rw [if_pos (by simp; omega), getO_at rfl hi, Option.bind_some, w64 (by omega) (by omega)]
    by_cases h1 : c.aP[i].aK ≤ t <;> by_cases h2 : t < c.aP[i].fTo <;> simp [h1, h2]
theorem yL {v : ae} {s : Sid} {c : ac} (h : chan v s = some c) : c ∈ v.ap ∧ c.ak = s := by
  unfold chan at h
  exact ⟨List.mem_of_find?_eq_some h, by simpa using List.find?_some h⟩
theorem yO {l : List ai} {t : Int} {e : ai} (h : yN l t = some e) : e ∈ l ∧ e.aK ≤ t ∧ t < e.fTo := by
  unfold yN at h
  have := List.find?_some h
  simp only [decide_eq_true_eq] at this
  exact ⟨List.mem_of_find?_eq_some h, this⟩
theorem At_eq {v : ae} (hv : wB v) (hV : bP v = some true) (s : Sid) (t : Int) : jh v s t = some (match tT v s t with | none => (zEp, 6) | some e => (e, 0)) := by
  unfold jh
  rw [hV, Option.bind_some, if_neg (by simp), Find_eq hv, Option.bind_some]
  unfold tT
  cases hc : chan v s with
  | none =>
    dsimp only
    rw [at_eq (by simp [zCh])]
    rfl
  | some c =>
    dsimp only
    rw [at_eq (hv.all c (yL hc).1).1, Option.bind_some, Option.bind_some]
    cases yN c.aP t <;> rfl

theorem loop_eq {α : Type} {body : Int → Option (Step1 Int (Unit ⊕ Bool))} (a b : List α) (hl : a.length = b.length)
    (h1 : ∀ (i : Nat) (hi : i < a.length) (hi' : i < b.length), (a[i] = b[i] ∧ body i = some (.next ((i + 1 : Nat) : Int))) ∨ (a[i] ≠ b[i] ∧ body i = some (.stop (.inr false))))
    (h2 : body (a.length : Nat) = some (.stop (.inl ()))) : (loopO body (0 : Int) = some (.inl ()) ∧ a = b) ∨ (loopO body (0 : Int) = some (.inr false) ∧ a ≠ b) := by
  have : ∀ k i, i + k = a.length → a.take i = b.take i → (loopO body (i : Int) = some (.inl ()) ∧ a = b) ∨ (loopO body (i : Int) = some (.inr false) ∧ a ≠ b) := by
    intro k
    induction k with
    | zero =>
      intro i hi ht
      obtain rfl : i = a.length := by omega
      refine .inl ⟨loopO_stop h2, ?_⟩
      rw [List.take_length, hl, List.take_length] at ht
      exact ht
    | succ k ih =>
      intro i hi ht
      have hlt : i < a.length := by omega
      rcases h1 i hlt (by omega) with ⟨e, hn⟩ | ⟨e, hn⟩
      · rw [loopO_next hn]
        exact ih (i + 1) (by omega) (by rw [take_succ_at hlt, take_succ_at (by omega), ht, e])
      · exact .inr ⟨loopO_stop hn, fun hab => e (by subst hab; rfl)⟩
  have := this a.length 0 (by omega) (by simp)
  simpa using this
theorem Equal_eq {a b : List Int} (h : a.length ≤ 1000) : ip a b = some (decide (a = b)) := by
  unfold ip
  by_cases hl : a.length = b.length
  · rw [if_neg (by simp [hl])]
    have key : (loopO (dT a b) (0 : Int) = some (.inl ()) ∧ a = b) ∨ (loopO (dT a b) (0 : Int) = some (.inr false) ∧ a ≠ b) := by
      refine loop_eq a b hl (fun i hi hi' => ?_) ?_
      · unfold dT
        rw [if_pos (by simp; omega), getO_at rfl hi, getO_at rfl hi', Option.bind_some, Option.bind_some, w64 (by omega) (by omega)]
        by_cases e : a[i] = b[i] <;> simp [e]
      · unfold dT
        rw [if_neg (by simp)]
    rcases key with ⟨e, hab⟩ | ⟨e, hab⟩
    · rw [e]; simp [hab]
    · rw [e]; simp [hab]
  · rw [if_pos (by simpa using fun e : (a.length : Int) = b.length => hl (by omega))]
    simp [show a ≠ b from fun e => hl (by rw [e])]
theorem arr_eq (a b : aV) : ((a.a0 == b.a0) && ((a.a1 == b.a1) && ((a.a2 == b.a2) && true))) = decide (a = b) := by
  obtain ⟨x, y, z⟩ := a
  obtain ⟨x', y', z'⟩ := b
  simp only [aV.mk.injEq]
  by_cases e1 : x = x' <;> by_cases e2 : y = y' <;> by_cases e3 : z = z' <;> simp [e1, e2, e3]
theorem pos_eq (a b : aq) : ((a.fX == b.fX) && ((a.fY == b.fY) && ((a.fZ == b.fZ) && true))) = decide (a = b) := by
  obtain ⟨x, y, z⟩ := a
  obtain ⟨x', y', z'⟩ := b
  simp only [aq.mk.injEq]
  by_cases e1 : x = x' <;> by_cases e2 : y = y' <;> by_cases e3 : z = z' <;> simp [e1, e2, e3]
theorem Stage_eq {a b : ar} (h : a.br.length ≤ 1000) : fS a b = some (decide (a = b)) := by
  unfold fS
  rw [arr_eq, arr_eq, Equal_eq h]
  obtain ⟨k, n, d, t, f, s⟩ := a
  obtain ⟨k', n', d', t', f', s'⟩ := b
  simp only [ar.mk.injEq]
  by_cases e1 : k = k'
  rotate_left
  · simp [e1]
  by_cases e2 : n = n'
  rotate_left
  · simp [e1, e2]
  by_cases e3 : d = d'
  rotate_left
  · simp [e1, e2, e3]
  by_cases e4 : t = t'
  rotate_left
  · simp [e1, e2, e3, e4]
  by_cases e5 : f = f' <;> by_cases e6 : s = s' <;> simp [e1, e2, e3, e4, e5, e6]
theorem Same_eq {a b : aD} (h : xe a) : jw a b = some (decide (a = b)) := by
  obtain ⟨h1, h2⟩ := h
  obtain ⟨a⟩ := a
  obtain ⟨b⟩ := b
  simp only at h1 h2
  unfold jw df
  simp only [aD.mk.injEq]
  by_cases hl : a.length = b.length
  · rw [if_neg (by simp [hl])]
    have key : (loopO (bN a b) (0 : Int) = some (.inl ()) ∧ a = b) ∨ (loopO (bN a b) (0 : Int) = some (.inr false) ∧ a ≠ b) := by
      refine loop_eq a b hl (fun i hi hi' => ?_) ?_
      · unfold bN
        rw [if_pos (by simp; omega), getO_at rfl hi, getO_at rfl hi', Option.bind_some, Option.bind_some, Stage_eq (h2 _ (List.getElem_mem hi)), Option.bind_some, w64 (by omega) (by omega)]
        by_cases e : a[i] = b[i] <;> simp [e]
      · unfold bN
        rw [if_neg (by simp)]
    rcases key with ⟨e, hab⟩ | ⟨e, hab⟩
    · rw [e]; simp [hab]
    · rw [e]; simp [hab]
  · rw [if_pos (by simpa using fun e : (a.length : Int) = b.length => hl (by omega))]
    simp [show a ≠ b from fun e => hl (by rw [e])]

def sq (e : ai) : aq × aD := (e.aF, e.aS)
def Chg (a b : ae) (p : Pick) : Prop := (tT a p.ak p.aM).map sq ≠ (tT b p.ak p.aM).map sq
instance (a b : ae) (p : Pick) : Decidable (Chg a b p) := inferInstanceAs (Decidable (_ ≠ _))
theorem epAt_len {v : ae} (hv : wB v) {s : Sid} {t : Int} {e : ai} (h : tT v s t = some e) : xe e.aS := by
  unfold tT at h
  cases hc : chan v s with
  | none => rw [hc] at h; cases h
  | some c =>
    rw [hc] at h
    exact (hv.all c (yL hc).1).2 e (yO h).1
theorem xV {a b : ae} (ha : wB a) (hb : wB b) (hA : bP a = some true) (hB : bP b = some true) (p : Pick) : cB a b p = some (decide (Chg a b p)) := by
  unfold cB
  rw [At_eq ha hA, At_eq hb hB, Option.bind_some, Option.bind_some]
  show _ = some (decide ((tT a p.ak p.aM).map sq ≠ (tT b p.ak p.aM).map sq))
  generalize hx : tT a p.ak p.aM = ox
  generalize tT b p.ak p.aM = oy
  cases ox with
  | none => cases oy <;> simp
  | some x =>
    cases oy with
    | none => simp
    | some y =>
      dsimp only
      rw [if_neg (by simp), if_neg (by simp), pos_eq, Same_eq (epAt_len ha hx), Option.bind_some]
      simp only [Option.map_some, ne_eq, Option.some.injEq, sq, Prod.mk.injEq]
      by_cases e1 : x.aF = y.aF <;> by_cases e2 : x.aS = y.aS <;> simp [e1, e2]
end Go.Dw.De


set_option maxRecDepth 100000
set_option maxHeartbeats 4000000
namespace Go.Dw.De
open Go.Dw Go.Proofs
open Sd (rD ky mf)

theorem modO_at {α : Type} {l : List α} {n : Int} {i : Nat} {f : α → α} (hn : n = i) (hi : i < l.length) : modO l n f = some (l.set i (f l[i])) := by
  subst hn
  unfold modO
  rw [if_pos (by omega), Int.toNat_natCast, List.getElem?_eq_getElem hi]
theorem zw {α : Type} {cmp : α → α → Option Int} (hc : CmpOk cmp) (l : List α) (hl : l.length < 4611686018427387904) : ∃ r, sortO cmp l = some r ∧ r.Perm l ∧ r.Pairwise (fun x y => lt3 cmp y x = false) := by
  cases l with
  | nil => exact ⟨[], rfl, .nil, .nil⟩
  | cons a l =>
    have h : ∃ r, sortO cmp (a :: l) = some r := ⟨_, by rw [sortO_cons, if_pos ⟨hc, hl⟩]⟩
    obtain ⟨r, hr⟩ := h
    refine ⟨r, hr, sortO_perm hr, ?_⟩
    rw [sortO_cons, if_pos ⟨hc, hl⟩] at hr
    letI : Inhabited α := ⟨a⟩
    have := Sort.pdq_sorts (lt3 cmp) hc.2 (a :: l).toArray 0 (a :: l).length (Lib.bitLen (a :: l).length) true true (Nat.zero_le _) (by simp) (.inl rfl)
    obtain ⟨⟨hs, -, -⟩, hso⟩ := this
    have hr := Option.some.inj hr
    rw [List.pairwise_iff_getElem]
    intro i j hi hj hij
    subst hr
    have hsz : (Sort.pdq (lt3 cmp) (a :: l).toArray 0 (a :: l).length (Lib.bitLen (a :: l).length) true true).size = (a :: l).length := by simpa using hs
    have hi' : i < (Sort.pdq (lt3 cmp) (a :: l).toArray 0 (a :: l).length (Lib.bitLen (a :: l).length) true true).size := by simpa using hi
    have hj' : j < (Sort.pdq (lt3 cmp) (a :: l).toArray 0 (a :: l).length (Lib.bitLen (a :: l).length) true true).size := by simpa using hj
    have h1 := hso i j (Nat.zero_le _) hij (by omega)
    rw [getElem!_pos _ i hi', getElem!_pos _ j hj'] at h1
    simpa using h1

abbrev Span := aj
def Nrm (l : List Span) : Prop := (∀ s ∈ l, s.aK < s.fTo) ∧ l.Pairwise (fun a b => a.fTo < b.aK)
theorem Nrm.snoc {l : List Span} (h : Nrm l) {x : Span} (hx : x.aK < x.fTo) (hl : ∀ s ∈ l, s.fTo < x.aK) : Nrm (l ++ [x]) := by
  refine ⟨fun s hs => ?_, List.pairwise_append.2 ⟨h.2, by simp, fun a ha b hb => ?_⟩⟩
  · rcases List.mem_append.1 hs with hs | hs
    · exact h.1 s hs
    · rw [List.mem_singleton.1 hs]; exact hx
  · rw [List.mem_singleton.1 hb]; exact hl a ha
theorem Nrm.last {l : List Span} {x y : Span} (h : Nrm (l ++ [x])) (hf : y.aK = x.aK) (hy : y.aK < y.fTo) : Nrm (l ++ [y]) := by
  obtain ⟨h1, h2⟩ := h
  obtain ⟨p1, -, p3⟩ := List.pairwise_append.1 h2
  exact Nrm.snoc ⟨fun s hs => h1 s (by simp [hs]), p1⟩ hy fun s hs => by rw [hf]; exact p3 s hs x (by simp)
def db (l : List Span) (y : Int) : Prop := ∃ s, s ∈ l ∧ s.aK ≤ y ∧ y < s.fTo
theorem kz (l m : List Span) (y : Int) : db (l ++ m) y ↔ db l y ∨ db m y := by
  unfold db
  constructor
  · rintro ⟨s, hs, h⟩
    rcases List.mem_append.1 hs with hs | hs
    · exact .inl ⟨s, hs, h⟩
    · exact .inr ⟨s, hs, h⟩
  · rintro (⟨s, hs, h⟩ | ⟨s, hs, h⟩)
    · exact ⟨s, by simp [hs], h⟩
    · exact ⟨s, by simp [hs], h⟩
theorem lN (s : Span) (y : Int) : db [s] y ↔ s.aK ≤ y ∧ y < s.fTo := by
  unfold db
  constructor
  · rintro ⟨t, ht, h⟩; rw [List.mem_singleton.1 ht] at h; exact h
  · intro h; exact ⟨s, by simp, h⟩
theorem merge_ok {m : List Span} (hl : m.length ≤ 4000000000) (hv : ∀ s ∈ m, s.aK < s.fTo) (hs : m.Pairwise (fun x y => x.aK ≤ y.aK)) :
    ∃ out, loopO (gN m) ((0 : Int), ([] : List Span)) = some out ∧ out.length ≤ m.length ∧ Nrm out ∧ ∀ y, db out y ↔ db m y := by
  have hp := List.pairwise_iff_getElem.1 hs
  obtain ⟨o, h, hq⟩ := loop_ind (body := gN m) (fun st : Int × List Span => ∃ i : Nat, st.1 = (i : Int) ∧ i ≤ m.length ∧ st.2.length ≤ i ∧ Nrm st.2 ∧ (∀ y, db st.2 y ↔ db (m.take i) y) ∧ (∀ s : Span, s ∈ st.2 → ∃ j, ∃ hj : j < m.length, j < i ∧ s.aK = m[j].aK)) (fun s => ((m.length : Int) - s.1).toNat)
    (fun o => o.length ≤ m.length ∧ Nrm o ∧ ∀ y, db o y ↔ db m y) (by
    rintro ⟨s, out⟩ ⟨i, hi0, hi, ho, hN, hc, hf⟩
    simp only at hi0 ho hN hc hf
    subst hi0
    unfold gN
    simp only
    by_cases hlt : i < m.length
    · have happ : appO out [m[i]] 16 = some (out ++ [m[i]]) := gx (by simp; omega)
      rw [if_pos (decide_eq_true (by omega)), inO_at (by omega) (by omega), getO_at rfl hlt, w64 (n := (i : Int) + 1) (by omega) (by omega)]
      simp only [Option.bind_some, happ]
      have htk : ∀ y, db (m.take (i + 1)) y ↔ db (m.take i) y ∨ (m[i].aK ≤ y ∧ y < m[i].fTo) := fun y => by rw [take_succ_at hlt, kz, lN]
      have hvi := hv _ (List.getElem_mem hlt)
      have hfull : Nrm (out ++ [m[i]]) → (∃ i' : Nat, ((i + 1 : Nat) : Int) = (i' : Int) ∧ i' ≤ m.length ∧ (out ++ [m[i]]).length ≤ i' ∧ Nrm (out ++ [m[i]]) ∧ (∀ y, db (out ++ [m[i]]) y ↔ db (m.take i') y) ∧ (∀ s ∈ out ++ [m[i]], ∃ j, ∃ hj : j < m.length, j < i' ∧ s.aK = m[j].aK)) := fun hN' => by
        refine ⟨i + 1, rfl, by omega, by simp; omega, hN', fun y => by rw [kz, lN, htk, hc], fun s hs => ?_⟩
        rcases List.mem_append.1 hs with hs | hs
        · obtain ⟨j, hj, h1, h2⟩ := hf s hs
          exact ⟨j, hj, by omega, h2⟩
        · rw [List.mem_singleton.1 hs]; exact ⟨i, hlt, by omega, rfl⟩
      have hoc : out = [] ∨ ∃ init last, out = init ++ [last] := by
        rcases List.eq_nil_or_concat out with h | ⟨init, last, h⟩
        · exact .inl h
        · exact .inr ⟨init, last, by rw [h]; simp⟩
      rcases hoc with rfl | ⟨init, last, rfl⟩
      · rw [if_neg (by simp)]
        exact .inl ⟨_, rfl, hfull ⟨by simpa using hvi, by simp⟩, by simp only; omega⟩
      · have hlen : (init ++ [last]).length = init.length + 1 := by simp
        rw [if_pos (decide_eq_true (by omega)), hlen]
        have hw : IntKind.wrap .i64 (((init.length + 1 : Nat) : Int) - 1) = (init.length : Int) := by rw [w64 (by omega) (by omega)]; omega
        have hg : (init ++ [last])[init.length]'(by simp) = last := by simp
        rw [hw, inO_at (by omega) (by omega), getO_at (i := init.length) rfl (by omega), hg]
        simp only [Option.bind_some]
        by_cases hm : m[i].aK ≤ last.fTo
        · rw [if_pos (decide_eq_true hm), modO_at (i := init.length) rfl (by omega), hg, Option.bind_some]
          have hset : ∀ v : Span, (init ++ [last]).set init.length v = init ++ [v] := fun v => by simp
          rw [hset]
          obtain ⟨j, hj, h1, h2⟩ := hf last (by simp)
          have hle : last.aK ≤ m[i].aK := by rw [h2]; exact hp j i hj hlt h1
          refine .inl ⟨_, rfl, ⟨i + 1, rfl, by omega, by simp at ho ⊢; omega, hN.last rfl (by have := hN.1 last (by simp); simp only; split <;> omega), fun y => ?_, fun s hs => ?_⟩, by simp only; omega⟩
          · rw [htk, ← hc, kz, kz, lN, lN]
            simp only
            split
            · constructor
              · rintro (h | h)
                · exact .inl (.inl h)
                · by_cases hy : y < last.fTo
                  · exact .inl (.inr ⟨h.1, hy⟩)
                  · exact .inr ⟨by omega, h.2⟩
              · rintro ((h | h) | h)
                · exact .inl h
                · exact .inr ⟨h.1, by omega⟩
                · exact .inr ⟨by omega, h.2⟩
            · constructor
              · rintro (h | h)
                · exact .inl (.inl h)
                · exact .inl (.inr h)
              · rintro ((h | h) | h)
                · exact .inl h
                · exact .inr h
                · exact .inr ⟨by omega, by omega⟩
          · rcases List.mem_append.1 hs with hs | hs
            · obtain ⟨j', hj', h1', h2'⟩ := hf s (by simp [hs])
              exact ⟨j', hj', by omega, h2'⟩
            · rw [List.mem_singleton.1 hs]; exact ⟨j, hj, by omega, h2⟩
        · rw [if_neg (by simpa using hm)]
          refine .inl ⟨_, rfl, hfull (hN.snoc hvi fun s hs => ?_), by simp only; omega⟩
          rcases List.mem_append.1 hs with hs | hs
          · have h1 := (List.pairwise_append.1 hN.2).2.2 s hs last (by simp)
            have h2 := hN.1 last (by simp)
            omega
          · rw [List.mem_singleton.1 hs]; omega
    · rw [if_neg (by simp; omega)]
      refine .inr ⟨_, rfl, by omega, hN, fun y => ?_⟩
      rw [hc, List.take_of_length_le (by omega)]) (0, []) ⟨0, rfl, Nat.zero_le _, by simp, ⟨by simp, by simp⟩, fun y => by simp, by simp⟩
  exact ⟨o, h, hq⟩
theorem lit2_ok : CmpOk bY := ⟨fun x y => ⟨_, lit2_eq x y⟩, by rw [lt3N]; exact (cmpI_tot.map fun x : Span => x.aK).swo⟩
theorem lit1_at (s : Span) : iq s = some (!decide (s.aK < s.fTo)) := rfl
theorem del_ok {l : List Span} (hl : l.length ≤ 1000000) : bL l = some (l.filter fun s => decide (s.aK < s.fTo)) := by
  have h1 : ∀ (i : Nat) (hi : i < l.length), bR l (i : Int) = if (!decide (l[i].aK < l[i].fTo)) = true then some (.stop (.inr ((i : Int), l))) else some (.next ((i + 1 : Nat) : Int)) := by
    intro i hi
    unfold bR
    rw [if_pos (by simp; omega), inO_at (by omega) (by omega), Option.bind_some, getO_at rfl hi, Option.bind_some, lit1_at, Option.bind_some, w64 (by omega) (by omega)]
    simp
  have h2 : bR l (l.length : Nat) = some (.stop (.inl ())) := by
    unfold bR
    rw [if_neg (by simp)]
  unfold bL dt
  rcases vA l (p := fun s => !decide (s.aK < s.fTo)) (f := fun i _ => ((i : Int), l)) h1 h2 with ⟨e, h⟩ | ⟨i, hi, e, hp, h⟩
  · rw [e]
    have : l.filter (fun s => decide (s.aK < s.fTo)) = l := List.filter_eq_self.2 fun s hs => by simpa using h s hs
    rw [this]; rfl
  · rw [e, Option.bind_some]
    dsimp only
    rw [Option.bind_some, if_neg (by simp), w64 (by omega) (by omega)]
    have hpre : (l.take i).filter (fun s => decide (s.aK < s.fTo)) = l.take i := List.filter_eq_self.2 fun s hs => by simpa using h s hs
    have hli : (l.take (i + 1)).filter (fun s => decide (s.aK < s.fTo)) = l.take i := by
      rw [take_succ_at hi, List.filter_append, hpre]
      have : ¬ l[i].aK < l[i].fTo := by simpa using hp
      simp [this]
    have key : Ok (loopO cE ((i : Int), (i : Int) + 1, l)) (fun o => ∃ k : Nat, o.1 = k ∧ k ≤ l.length ∧ o.2.length = l.length ∧ o.2.take k = l.filter (fun s => decide (s.aK < s.fTo))) := by
      refine Ok.loop (fun s => ∃ k j : Nat, s.1 = k ∧ s.2.1 = j ∧ k < j ∧ j ≤ l.length ∧ s.2.2.length = l.length ∧ s.2.2.take k = (l.take j).filter (fun s => decide (s.aK < s.fTo)) ∧ s.2.2.drop j = l.drop j) (fun s => ((l.length : Int) - s.2.1).toNat) ?_ ⟨i, i + 1, rfl, by simp, by omega, by omega, rfl, hli.symm, rfl⟩
      rintro ⟨s3, s4, s5⟩ ⟨k, j, i0, i1, i2, i3, i4, i5, i6⟩
      simp only at i0 i1 i4 i5 i6
      subst i0 i1
      unfold cE
      dsimp only
      refine Ok.iteD (fun hlt => ?_) (fun hge => ?_)
      · have hj : j < l.length := by omega
        have hx : s5[j]'(by omega) = l[j] := by
          rw [List.drop_eq_getElem_cons (by omega), List.drop_eq_getElem_cons hj] at i6
          exact (List.cons.inj i6).1
        have hd : s5.drop (j + 1) = l.drop (j + 1) := by
          rw [List.drop_eq_getElem_cons (by omega), List.drop_eq_getElem_cons hj] at i6
          exact (List.cons.inj i6).2
        rw [inO_at (by omega) (by omega), Option.bind_some, getO_at (i := j) rfl (by omega), Option.bind_some, hx, lit1_at, Option.bind_some, Bool.not_not, w64 (n := (j : Int) + 1) (by omega) (by omega)]
        refine Ok.iteD (fun hs => ?_) (fun hs => ?_)
        · rw [inO_at (by omega) (by omega), Option.bind_some, setO_at (i := k) rfl (by omega), Option.bind_some, w64 (by omega) (by omega)]
          refine Ok.nx ⟨k + 1, j + 1, by simp, by simp, by omega, by omega, by simpa using i4, ?_, ?_⟩ (by simp only; omega)
          · simp only
            rw [List.take_succ_eq_append_getElem (by rw [List.length_set]; omega), List.getElem_set_self, List.take_set_of_le (Nat.le_refl _), i5, take_succ_at hj, List.filter_append]
            simp [hs]
          · simp only
            rw [List.drop_set_of_lt (by omega), hd]
        · refine Ok.nx ⟨k, j + 1, rfl, by simp, by omega, by omega, i4, ?_, hd⟩ (by simp only; omega)
          simp only
          rw [i5, take_succ_at hj, List.filter_append]
          simp [hs]
      · have : j = l.length := by omega
        subst this
        exact Ok.st ⟨k, rfl, by omega, i4, by rw [i5, List.take_length]⟩
    obtain ⟨⟨o1, o2⟩, eo, k, hk, hkl, hol, hot⟩ := key
    simp only at hk hol hot
    subst hk
    rw [eo, Option.bind_some]
    dsimp only
    have t1 : (0 + ((k : Int)).toNat) = k := by omega
    have t2 : (0 + ((o2.length : Int)).toNat) = o2.length := by omega
    have t4 : ((k : Int)).toNat = k := by omega
    have hcl : (clearL o2 k (o2.length - k) ⟨0, 0⟩).length = o2.length := by
      unfold clearL; simp; omega
    rw [t1, t2, t4, subO_at (by omega) (by omega) (by omega), Option.bind_some, viewO_at (by omega) (by omega), Option.bind_some, subO_at (by omega) (by omega) (by rw [hcl]; omega), Option.bind_some, ← hot]
    unfold clearL
    rw [List.append_assoc, List.take_append_of_le_length (by simp; omega), List.take_take, Nat.min_self]
theorem uT {l : List Span} (hl : l.length ≤ 1000000) : Ok (gw l) (fun out => out.length ≤ l.length ∧ Nrm out ∧ ∀ y, db out y ↔ db l y) := by
  obtain ⟨f, hf, hfl, hfm⟩ : ∃ f : List Span, bL l = some f ∧ f.length ≤ l.length ∧ ∀ s, s ∈ f ↔ s ∈ l ∧ s.aK < s.fTo :=
    ⟨_, del_ok hl, List.length_filter_le _ _, fun s => by rw [List.mem_filter, decide_eq_true_eq]⟩
  obtain ⟨m, e1, hp, hs⟩ := zw lit2_ok f (by omega)
  have hml := hp.length_eq
  have hmem : ∀ s, s ∈ m ↔ s ∈ l ∧ s.aK < s.fTo := fun s => by rw [hp.mem_iff, hfm]
  obtain ⟨out, e2, h1, hN, h2⟩ := merge_ok (m := m) (by omega) (fun s h => ((hmem s).1 h).2) (hs.imp fun {a b} h => by
    rw [lt3N] at h
    simp only [decide_eq_false_iff_not] at h
    unfold cmpI at h
    by_cases h' : b.aK < a.aK
    · rw [if_pos h'] at h; omega
    · omega)
  refine ⟨out, ?_, by omega, hN, fun y => (h2 y).trans ?_⟩
  · unfold gw
    rw [wJ (by omega), Option.bind_some, hf, Option.bind_some, e1, Option.bind_some, e2]; rfl
  · unfold db
    constructor
    · rintro ⟨s, hs, h⟩; exact ⟨s, ((hmem s).1 hs).1, h⟩
    · rintro ⟨s, hs, h⟩; exact ⟨s, (hmem s).2 ⟨hs, by omega⟩, h⟩

theorem Nrm.before {l : List Span} (h : Nrm l) {i j : Nat} (hij : i < j) (hj : j < l.length) : (l[i]'(by omega)).fTo < l[j].aK := List.pairwise_iff_getElem.1 h.2 i j (by omega) hj hij
theorem xj {l : List Span} {i : Nat} (hi : i < l.length) {t : Int} (h : db (l.drop i) t) : (l[i].aK ≤ t ∧ t < l[i].fTo) ∨ db (l.drop (i + 1)) t := by
  rw [List.drop_eq_getElem_cons hi] at h
  obtain ⟨s, hs, h⟩ := h
  rcases List.mem_cons.1 hs with rfl | hs
  · exact .inl h
  · exact .inr ⟨s, hs, h⟩
theorem hasS_later {l : List Span} (hN : Nrm l) {i : Nat} (hi : i < l.length) {t : Int} (h : db (l.drop (i + 1)) t) : l[i].fTo < t := by
  obtain ⟨s, hs, h1, h2⟩ := h
  obtain ⟨j, hj, rfl⟩ := List.getElem_of_mem hs
  rw [List.getElem_drop] at h1
  rw [List.length_drop] at hj
  have := hN.before (i := i) (j := i + 1 + j) (by omega) (by omega)
  omega
theorem meet_ok {a b : List Span} (ha : a.length ≤ 100000) (hb : b.length ≤ 100000) : Ok (xr a b) (fun r => (∃ t, db a t ∧ db b t) → r ≠ []) := by
  unfold xr
  refine Ok.bind (uT (by omega)) (fun x hx => ?_)
  refine Ok.bind (uT (by omega)) (fun y hy => ?_)
  obtain ⟨hxl, hxN, hx⟩ := hx
  obtain ⟨hyl, hyN, hy⟩ := hy
  refine Ok.bind (P := fun r => (∃ t, db x t ∧ db y t) → r ≠ []) ?_ (fun o ho => Ok.ret fun ⟨t, h1, h2⟩ => ho ⟨t, (hx t).2 h1, (hy t).2 h2⟩)
  refine Ok.loop (fun s => ∃ i k : Nat, s.1 = i ∧ s.2.1 = k ∧ i ≤ x.length ∧ k ≤ y.length ∧ s.2.2.length ≤ i + k ∧ (s.2.2 = [] → ∀ t, db x t → db y t → db (x.drop i) t ∧ db (y.drop k) t)) (fun s => (((x.length : Int) - s.1) + ((y.length : Int) - s.2.1)).toNat) ?_ ⟨0, 0, rfl, rfl, Nat.zero_le _, Nat.zero_le _, by simp, fun _ t h1 h2 => ⟨by simpa using h1, by simpa using h2⟩⟩
  rintro ⟨s3, s4, s5⟩ ⟨i, k, i0, i1, i2, i3, i4, i5⟩
  simp only at i0 i1 i4 i5
  subst i0 i1
  unfold qT
  dsimp only
  have hend : (i = x.length ∨ k = y.length) → Ok (some (.stop s5)) (Ok.S (fun s : Int × Int × List Span => ∃ i k : Nat, s.1 = i ∧ s.2.1 = k ∧ i ≤ x.length ∧ k ≤ y.length ∧ s.2.2.length ≤ i + k ∧ (s.2.2 = [] → ∀ t, db x t → db y t → db (x.drop i) t ∧ db (y.drop k) t)) (fun s => (((x.length : Int) - s.1) + ((y.length : Int) - s.2.1)).toNat) (fun r => (∃ t, db x t ∧ db y t) → r ≠ []) ((i : Int), (k : Int), s5)) := fun h => by
    refine Ok.st fun ⟨t, h1, h2⟩ e => ?_
    obtain ⟨g1, g2⟩ := i5 e t h1 h2
    rcases h with rfl | rfl
    · obtain ⟨s, hs, -⟩ := g1
      simp at hs
    · obtain ⟨s, hs, -⟩ := g2
      simp at hs
  refine Ok.iteD (fun hi => Ok.iteD (fun hk => ?_) (fun hk => hend (.inr (by omega)))) (fun hi => hend (.inl (by omega)))
  have hi : i < x.length := by omega
  have hk : k < y.length := by omega
  rw [getO_at rfl hi, Option.bind_some, getO_at rfl hk, Option.bind_some, Option.bind_some, Option.bind_some]
  have hgo : ∀ (r : List Span), r.length ≤ i + k + 1 → (r = [] → s5 = [] ∧ ∀ t, ¬ ((x[i].aK ≤ t ∧ t < x[i].fTo) ∧ (y[k].aK ≤ t ∧ t < y[k].fTo))) → Ok (jy x (i : Int) y (k : Int) r) (Ok.S (fun s : Int × Int × List Span => ∃ i k : Nat, s.1 = i ∧ s.2.1 = k ∧ i ≤ x.length ∧ k ≤ y.length ∧ s.2.2.length ≤ i + k ∧ (s.2.2 = [] → ∀ t, db x t → db y t → db (x.drop i) t ∧ db (y.drop k) t)) (fun s => (((x.length : Int) - s.1) + ((y.length : Int) - s.2.1)).toNat) (fun r => (∃ t, db x t ∧ db y t) → r ≠ []) ((i : Int), (k : Int), s5)) := fun r hr hno => by
    unfold jy
    rw [getO_at rfl hi, Option.bind_some, getO_at rfl hk, Option.bind_some, w64 (n := (i : Int) + 1) (by omega) (by omega), w64 (n := (k : Int) + 1) (by omega) (by omega)]
    refine Ok.iteD (fun hlt => ?_) (fun hge => ?_)
    · refine Ok.nx ⟨i + 1, k, by simp, rfl, by omega, i3, by simp only; omega, fun e t h1 h2 => ?_⟩ (by simp only; omega)
      obtain ⟨e5, hn⟩ := hno e
      obtain ⟨g1, g2⟩ := i5 e5 t h1 h2
      refine ⟨?_, g2⟩
      rcases xj hi g1 with g | g
      · rcases xj hk g2 with g' | g'
        · exact (hn t ⟨g, g'⟩).elim
        · have := hasS_later hyN hk g'; omega
      · exact g
    · refine Ok.nx ⟨i, k + 1, rfl, by simp, i2, by omega, by simp only; omega, fun e t h1 h2 => ?_⟩ (by simp only; omega)
      obtain ⟨e5, hn⟩ := hno e
      obtain ⟨g1, g2⟩ := i5 e5 t h1 h2
      refine ⟨g1, ?_⟩
      rcases xj hk g2 with g | g
      · rcases xj hi g1 with g' | g'
        · exact (hn t ⟨g', g⟩).elim
        · have := hasS_later hxN hi g'; omega
      · exact g
  unfold sP
  rw [Option.bind_some]
  refine Ok.iteD (fun hs => ?_) (fun hs => ?_)
  · rw [gx (by simp only [List.length_cons, List.length_nil]; omega), Option.bind_some]
    exact hgo _ (by simp; omega) (fun e => by simp at e)
  · refine hgo _ (by omega) fun e => ⟨e, fun t h => hs ?_⟩
    simp only
    split <;> split <;> omega
theorem minus_ok {a b : List Span} (ha : a.length ≤ 100) (hb : b.length ≤ 100) : Ok (v7 a b) (fun r => r.length ≤ 10100 ∧ ∀ t, db a t → ¬ db b t → db r t) := by
  unfold v7
  refine Ok.bind (uT (by omega)) (fun y hy => ?_)
  refine Ok.bind (uT (by omega)) (fun x hx => ?_)
  obtain ⟨hxl, hxN, hx⟩ := hx
  obtain ⟨hyl, hyN, hy⟩ := hy
  refine Ok.bind (P := fun r => r.length ≤ 10100 ∧ ∀ t, db x t → ¬ db y t → db r t) ?_ (fun o ho => Ok.ret ⟨ho.1, fun t h1 h2 => ho.2 t ((hx t).2 h1) fun h => h2 ((hy t).1 h)⟩)
  refine Ok.loop (fun s => ∃ i : Nat, s.1 = i ∧ i ≤ x.length ∧ s.2.length ≤ i * 101 ∧ ∀ t, db (x.take i) t → ¬ db y t → db s.2 t) (fun s => ((x.length : Int) - s.1).toNat) ?_ ⟨0, rfl, Nat.zero_le _, by simp, fun t h => by obtain ⟨s, hs, -⟩ := h; simp at hs⟩
  rintro ⟨s3, s4⟩ ⟨i, i0, i1, i2, i3⟩
  simp only at i0 i2 i3
  subst i0
  unfold pE
  dsimp only
  refine Ok.iteD (fun hlt => ?_) (fun hge => ?_)
  rotate_left
  · have : i = x.length := by omega
    subst this
    exact Ok.st ⟨by omega, by simpa using i3⟩
  have hi : i < x.length := by omega
  rw [getO_at rfl hi, Option.bind_some]
  refine Ok.bind (P := fun o => o.2.1 = (i : Int) ∧ o.2.2.length ≤ s4.length + y.length ∧ (∀ t, db s4 t → db o.2.2 t) ∧ ∀ t, x[i].aK ≤ t → t < x[i].fTo → ¬ db y t → db o.2.2 t ∨ o.1 ≤ t)
    (Ok.loop (fun s => ∃ j : Nat, s.2.1 = j ∧ j ≤ y.length ∧ s.2.2.length ≤ s4.length + j ∧ (∀ t, db s4 t → db s.2.2 t) ∧ ∀ t, x[i].aK ≤ t → t < x[i].fTo → ¬ db y t → db s.2.2 t ∨ s.1 ≤ t) (fun s => ((y.length : Int) - s.2.1).toNat) ?_ ⟨0, rfl, Nat.zero_le _, by simp, fun _ h => h, fun t h _ _ => .inr h⟩) ?_
  · rintro ⟨s9, s10, s11⟩ ⟨j, j0, j1, j2, j3, j4⟩
    simp only at j0 j2 j3 j4
    subst j0
    unfold pD
    dsimp only
    refine Ok.iteD (fun hlt => ?_) (fun _ => Ok.st ⟨rfl, by simp only; omega, j3, j4⟩)
    have hj : j < y.length := by omega
    rw [getO_at rfl hj, Option.bind_some, w64 (n := (j : Int) + 1) (by omega) (by omega)]
    have hno : ∀ t, ¬ db y t → ¬ (y[j].aK ≤ t ∧ t < y[j].fTo) := fun t h h' => h ⟨y[j], List.getElem_mem hj, h'⟩
    refine Ok.iteD (fun _ => Ok.nx ⟨j + 1, by simp, by omega, by simp only; omega, j3, j4⟩ (by simp only; omega)) (fun h1 => ?_)
    refine Ok.iteD (fun _ => Ok.nx ⟨j + 1, by simp, by omega, by simp only; omega, j3, j4⟩ (by simp only; omega)) (fun h2 => ?_)
    refine Ok.iteD (fun h3 => ?_) (fun h3 => ?_)
    · rw [gx (by simp only [List.length_cons, List.length_nil]; omega), Option.bind_some]
      refine Ok.nx ⟨j + 1, by simp, by omega, by simp only [List.length_append, List.length_cons, List.length_nil]; omega, fun t h => (kz _ _ _).2 (.inl (j3 t h)), fun t g1 g2 g3 => ?_⟩ (by simp only; omega)
      simp only [kz, lN]
      rcases j4 t g1 g2 g3 with h | h
      · exact .inl (.inl h)
      · have := hno t g3
        by_cases h4 : t < y[j].aK
        · exact .inl (.inr ⟨h, h4⟩)
        · refine .inr ?_
          split <;> omega
    · refine Ok.nx ⟨j + 1, by simp, by omega, by simp only; omega, j3, fun t g1 g2 g3 => ?_⟩ (by simp only; omega)
      rcases j4 t g1 g2 g3 with h | h
      · exact .inl h
      · have := hno t g3
        refine .inr ?_
        simp only
        split <;> omega
  · rintro ⟨o1, o2, o3⟩ ⟨e1, e2, e3, e4⟩
    simp only at e1 e2 e3 e4
    subst e1
    dsimp only
    rw [w64 (n := (i : Int) + 1) (by omega) (by omega)]
    have htk : ∀ {t}, db (x.take (i + 1)) t → db (x.take i) t ∨ (x[i].aK ≤ t ∧ t < x[i].fTo) := fun {t} h => by
      rw [take_succ_at hi, kz, lN] at h; exact h
    refine Ok.iteD (fun h1 => ?_) (fun h1 => ?_)
    · rw [gx (by simp only [List.length_cons, List.length_nil]; omega), Option.bind_some]
      refine Ok.nx ⟨i + 1, by simp, by omega, by simp only [List.length_append, List.length_cons, List.length_nil]; omega, fun t h hn => ?_⟩ (by simp only; omega)
      simp only [kz, lN]
      rcases htk h with h | h
      · exact .inl (e3 t (i3 t h hn))
      · rcases e4 t h.1 h.2 hn with h' | h'
        · exact .inl h'
        · exact .inr ⟨h', h.2⟩
    · refine Ok.nx ⟨i + 1, by simp, by omega, by simp only; omega, fun t h hn => ?_⟩ (by simp only; omega)
      rcases htk h with h | h
      · exact e3 t (i3 t h hn)
      · rcases e4 t h.1 h.2 hn with h' | h'
        · exact h'
        · omega
end Go.Dw.De


set_option maxRecDepth 100000
set_option maxHeartbeats 4000000
namespace Go.Dw.De
open Go.Dw Go.Proofs
open Sd (rD ky mf)

theorem growE_at {n : Int} (h0 : 0 ≤ n) (h1 : n ≤ 1000000) : gD n = some [] := by
  unfold gD eN
  rw [if_neg (by simp; omega), w64 (by omega) (by omega)]
  refine Ok.eq (Ok.iteD (fun h => ?_) (fun _ => Ok.ret rfl))
  refine Ok.bind (Ok.mkz (by omega) (by omega) (by omega)) (fun x hx => ?_)
  refine Ok.bind (Ok.sub (by omega) (by omega) (by omega)) (fun _ _ => Ok.ret (by simp))
theorem concatE_at {a b : List ai} (ha : a.length ≤ 1000) (hb : b.length ≤ 1000) : fq [a, b] = some (a ++ b) := by
  have n0 : cx [a, b] ((0 : Int), (0 : Int)) = some (.next ((a.length : Int), (1 : Int))) := by
    unfold cx
    dsimp only
    rw [if_pos (by simp), show getO [a, b] (0 : Int) = some a from rfl, Option.bind_some, w64 (by omega) (by omega), if_neg (by simp)]
    rw [Int.zero_add]; rfl
  have n1 : cx [a, b] ((a.length : Int), (1 : Int)) = some (.next ((a.length : Int) + b.length, (2 : Int))) := by
    unfold cx
    dsimp only
    rw [if_pos (by simp), show getO [a, b] (1 : Int) = some b from rfl, Option.bind_some, w64 (by omega) (by omega), if_neg (by simp; omega)]
    rfl
  have n2 : cx [a, b] ((a.length : Int) + b.length, (2 : Int)) = some (.stop ((a.length : Int) + b.length)) := rfl
  have m0 : cq [a, b] ((0 : Int), []) = some (.next ((1 : Int), a)) := by
    unfold cq
    dsimp only
    rw [if_pos (by simp), show getO [a, b] (0 : Int) = some a from rfl, Option.bind_some, gx (by simp; omega), Option.bind_some]
    rfl
  have m1 : cq [a, b] ((1 : Int), a) = some (.next ((2 : Int), a ++ b)) := by
    unfold cq
    dsimp only
    rw [if_pos (by simp), show getO [a, b] (1 : Int) = some b from rfl, Option.bind_some, gx (by omega), Option.bind_some]
    rfl
  have m2 : cq [a, b] ((2 : Int), a ++ b) = some (.stop (a ++ b)) := rfl
  unfold fq
  rw [loopO_next n0, loopO_next n1, loopO_stop n2, Option.bind_some, growE_at (by omega) (by omega), Option.bind_some, loopO_next m0, loopO_next m1, loopO_stop m2]
  rfl
theorem growC_at {n : Int} (h0 : 0 ≤ n) (h1 : n ≤ 1000000) : fr n = some [] := by
  unfold fr dD
  rw [if_neg (by simp; omega), w64 (by omega) (by omega)]
  refine Ok.eq (Ok.iteD (fun h => ?_) (fun _ => Ok.ret rfl))
  refine Ok.bind (Ok.mkz (by omega) (by omega) (by omega)) (fun x hx => ?_)
  refine Ok.bind (Ok.sub (by omega) (by omega) (by omega)) (fun _ _ => Ok.ret (by simp))
theorem concatC_at {a b : List ac} (ha : a.length ≤ 1000) (hb : b.length ≤ 1000) : ef [a, b] = some (a ++ b) := by
  have n0 : cd [a, b] ((0 : Int), (0 : Int)) = some (.next ((a.length : Int), (1 : Int))) := by
    unfold cd
    dsimp only
    rw [if_pos (by simp), show getO [a, b] (0 : Int) = some a from rfl, Option.bind_some, w64 (by omega) (by omega), if_neg (by simp)]
    rw [Int.zero_add]; rfl
  have n1 : cd [a, b] ((a.length : Int), (1 : Int)) = some (.next ((a.length : Int) + b.length, (2 : Int))) := by
    unfold cd
    dsimp only
    rw [if_pos (by simp), show getO [a, b] (1 : Int) = some b from rfl, Option.bind_some, w64 (by omega) (by omega), if_neg (by simp; omega)]
    rfl
  have n2 : cd [a, b] ((a.length : Int) + b.length, (2 : Int)) = some (.stop ((a.length : Int) + b.length)) := rfl
  have m0 : b8 [a, b] ((0 : Int), []) = some (.next ((1 : Int), a)) := by
    unfold b8
    dsimp only
    rw [if_pos (by simp), show getO [a, b] (0 : Int) = some a from rfl, Option.bind_some, gx (by simp; omega), Option.bind_some]
    rfl
  have m1 : b8 [a, b] ((1 : Int), a) = some (.next ((2 : Int), a ++ b)) := by
    unfold b8
    dsimp only
    rw [if_pos (by simp), show getO [a, b] (1 : Int) = some b from rfl, Option.bind_some, gx (by omega), Option.bind_some]
    rfl
  have m2 : b8 [a, b] ((2 : Int), a ++ b) = some (.stop (a ++ b)) := rfl
  unfold ef
  rw [loopO_next n0, loopO_next n1, loopO_stop n2, Option.bind_some, growC_at (by omega) (by omega), Option.bind_some, loopO_next m0, loopO_next m1, loopO_stop m2]
  rfl

def eqSF (a b : Sid) : Bool := (a.aB == b.aB) && ((a.aA == b.aA) && ((a.aw == b.aw) && ((a.aC == b.aC) && true)))
theorem CompactS_eq (l : List Sid) : cp l = compactG eqSF ⟨[], [], [], []⟩ l := by
  have h1 : eO = compactG_l31 eqSF := by funext s d ⟨a, b, c⟩; rfl
  have h2 : de = compactG_l38 eqSF ⟨[], [], [], []⟩ := by
    funext d s
    unfold de compactG_l38
    rw [h1]
    rfl
  unfold cp compactG
  rw [h2]
  refine ite_congr rfl (fun _ => rfl) fun _ => ?_
  refine congrArg _ (funext fun o => ?_)
  rcases o with _ | _ <;> rfl
theorem sids_ok : CmpOk ca := ⟨fun x y => ⟨_, Sd.lF x y⟩, by rw [lt3S]; exact ky.swo⟩
theorem SSort_ok {l : List Sid} (hl : l.length ≤ 1000) : Ok (l7 l) (fun r => r.length ≤ l.length ∧ r.Pairwise (fun x y => rD x y < 0) ∧ ∀ x, x ∈ r ↔ x ∈ l) := by
  obtain ⟨m, h2, hp, hs⟩ := zw sids_ok l (by omega)
  have hml : m.length = l.length := hp.length_eq
  have h3 : cp m = some (cpt m) := by
    rw [CompactS_eq]
    exact compact_at (fun x y => Sd.eqs x y) (by omega)
  refine ⟨cpt m, ?_, by have := cpt_length m; omega, cpt_pairwise ky (fun x y => mf) (hs.imp fun {a b} h => ?_), fun x => cpt_mem.trans hp.mem_iff⟩
  · unfold l7
    rw [wJ (by omega), Option.bind_some, h2, Option.bind_some, h3]; rfl
  · rw [lt3S] at h
    simp only [decide_eq_false_iff_not] at h
    have := ky.anti a b; omega

theorem epIn_one {l : List ai} (hp : (l.map fun e => (e.aK, e.fTo)).Pairwise (fun a b => a.2 ≤ b.1)) {t : Int} {e : ai} (he : e ∈ l) (h1 : e.aK ≤ t) (h2 : t < e.fTo) : yN l t = some e := by
  cases h : yN l t with
  | none =>
    unfold yN at h
    have := List.find?_eq_none.1 h e he
    simp at this
    omega
  | some e' =>
    obtain ⟨g0, g1, g2⟩ := yO h
    obtain ⟨i, hi, rfl⟩ := List.getElem_of_mem he
    obtain ⟨j, hj, rfl⟩ := List.getElem_of_mem g0
    rw [List.pairwise_map] at hp
    have hp := List.pairwise_iff_getElem.1 hp
    by_cases h : i < j
    · have := hp i j hi hj h; simp only at this; omega
    by_cases h' : j < i
    · have := hp j i hj hi h'; simp only at this; omega
    obtain rfl : i = j := by omega
    rfl
structure EL (l : List ai) : Prop where
  len : l.length ≤ 10
  ord : (l.map fun e => (e.aK, e.fTo)).Pairwise (fun a b => a.2 ≤ b.1)
  resp : ∀ e ∈ l, xe e.aS
theorem alike_eq {x y : ai} (hx : xe x.aS) : ∃ b, jN x y = some b ∧ (b = true → sq x = sq y) := by
  unfold jN
  rw [pos_eq, Same_eq hx]
  by_cases h1 : ((x.bI.aW == y.bI.aW) && ((x.bI.aQ == y.bI.aQ) && true)) = true
  · rw [if_pos h1]
    by_cases h2 : x.aF = y.aF
    · rw [if_pos (by simpa using h2)]
      exact ⟨_, rfl, fun h => by unfold sq; rw [h2, of_decide_eq_true h]⟩
    · rw [if_neg (by simpa using h2)]
      exact ⟨_, rfl, by simp⟩
  · rw [if_neg h1]
    exact ⟨_, rfl, by simp⟩
theorem differ_ok {a b : List ai} (ha : EL a) (hb : EL b) : Ok (nH a b) (fun r => r.length ≤ 10100 ∧ ∀ t, (yN a t).map sq ≠ (yN b t).map sq → db r t) := by
  have hal := ha.len
  have hbl := hb.len
  unfold nH
  rw [concatE_at (by omega) (by omega), Option.bind_some]
  have hab : (a ++ b).length = a.length + b.length := List.length_append
  refine Ok.bind (P := fun o => o.length ≤ 20 ∧ ∀ e ∈ a ++ b, ∀ t, e.aK ≤ t → t < e.fTo → db o t) (Ok.loop (fun s : Int × List Span => ∃ i : Nat, s.1 = i ∧ i ≤ (a ++ b).length ∧ s.2.length = i ∧ ∀ e ∈ (a ++ b).take i, ∀ t, e.aK ≤ t → t < e.fTo → db s.2 t) (fun s => (((a ++ b).length : Int) - s.1).toNat) ?_ ⟨0, rfl, Nat.zero_le _, rfl, by simp⟩) (fun o ho => ?_)
  · rintro ⟨s1, s2⟩ ⟨i, i0, i1, i2, i3⟩
    simp only at i0 i2 i3
    subst i0
    unfold kr
    dsimp only
    refine Ok.iteD (fun hlt => ?_) (fun hge => ?_)
    · have hi : i < (a ++ b).length := by omega
      rw [getO_at rfl hi, Option.bind_some, gx (by simp only [List.length_cons, List.length_nil]; omega), Option.bind_some, w64 (by omega) (by omega)]
      refine Ok.nx ⟨i + 1, by simp, by omega, by simp; omega, fun e he t h1 h2 => ?_⟩ (by simp only; omega)
      simp only [kz, lN]
      rw [take_succ_at hi] at he
      rcases List.mem_append.1 he with he | he
      · exact .inl (i3 e he t h1 h2)
      · rw [List.mem_singleton.1 he] at h1 h2
        exact .inr ⟨h1, h2⟩
    · have : i = (a ++ b).length := by omega
      subst this
      exact Ok.st ⟨by omega, by rw [List.take_length] at i3; exact i3⟩
  obtain ⟨ho1, ho2⟩ := ho
  refine Ok.bind (P := fun o' => o'.length ≤ 100 ∧ ∀ t, db o' t → ∃ x ∈ a, ∃ y ∈ b, sq x = sq y ∧ (x.aK ≤ t ∧ t < x.fTo) ∧ (y.aK ≤ t ∧ t < y.fTo)) (Ok.loop (fun s : Int × List Span => ∃ i : Nat, s.1 = i ∧ i ≤ a.length ∧ s.2.length ≤ i * 10 ∧ ∀ t, db s.2 t → ∃ x ∈ a, ∃ y ∈ b, sq x = sq y ∧ (x.aK ≤ t ∧ t < x.fTo) ∧ (y.aK ≤ t ∧ t < y.fTo)) (fun s => ((a.length : Int) - s.1).toNat) ?_ ⟨0, rfl, Nat.zero_le _, by simp, fun t h => by obtain ⟨s, hs, -⟩ := h; simp at hs⟩) (fun o' ho' => ?_)
  · rintro ⟨s1, s2⟩ ⟨i, i0, i1, i2, i3⟩
    simp only at i0 i2 i3
    subst i0
    unfold jB
    dsimp only
    refine Ok.iteD (fun hlt => ?_) (fun _ => Ok.st ⟨by omega, i3⟩)
    have hi : i < a.length := by omega
    rw [getO_at rfl hi, Option.bind_some]
    refine Ok.bind (P := fun o => o.1 = (i : Int) ∧ o.2.length ≤ s2.length + 10 ∧ ∀ t, db o.2 t → ∃ x ∈ a, ∃ y ∈ b, sq x = sq y ∧ (x.aK ≤ t ∧ t < x.fTo) ∧ (y.aK ≤ t ∧ t < y.fTo)) (Ok.loop (fun s : Int × List Span => ∃ j : Nat, s.1 = j ∧ j ≤ b.length ∧ s.2.length ≤ s2.length + j ∧ ∀ t, db s.2 t → ∃ x ∈ a, ∃ y ∈ b, sq x = sq y ∧ (x.aK ≤ t ∧ t < x.fTo) ∧ (y.aK ≤ t ∧ t < y.fTo)) (fun s => ((b.length : Int) - s.1).toNat) ?_ ⟨0, rfl, Nat.zero_le _, by simp, i3⟩) (fun o ho => ?_)
    · rintro ⟨s3, s4⟩ ⟨j, j0, j1, j2, j3⟩
      simp only at j0 j2 j3
      subst j0
      unfold jA
      dsimp only
      refine Ok.iteD (fun hlt => ?_) (fun _ => Ok.st ⟨rfl, by simp only; omega, j3⟩)
      have hj : j < b.length := by omega
      rw [getO_at rfl hj, Option.bind_some]
      obtain ⟨r, e1, e2⟩ := alike_eq (x := a[i]) (y := b[j]) (ha.resp _ (List.getElem_mem hi))
      rw [e1, Option.bind_some, w64 (by omega) (by omega)]
      refine Ok.iteB (fun hr => ?_) (fun _ => Ok.nx ⟨j + 1, by simp, by omega, by simp only; omega, j3⟩ (by simp only; omega))
      rw [gx (by simp only [List.length_cons, List.length_nil]; omega), Option.bind_some]
      refine Ok.nx ⟨j + 1, by simp, by omega, by simp only [List.length_append, List.length_cons, List.length_nil]; omega, fun t ht => ?_⟩ (by simp only; omega)
      simp only [kz, lN] at ht
      rcases ht with ht | ⟨t1, t2⟩
      · exact j3 t ht
      · refine ⟨a[i], List.getElem_mem hi, b[j], List.getElem_mem hj, e2 hr, ?_⟩
        split at t1 <;> split at t2 <;> omega
    · obtain ⟨o1, o2, o3⟩ := ho
      rw [o1, w64 (by omega) (by omega)]
      exact Ok.nx ⟨i + 1, by simp, by omega, by simp only; omega, o3⟩ (by simp only; omega)
  obtain ⟨hp1, hp2⟩ := ho'
  refine Ok.bind (minus_ok (by omega) (by omega)) (fun r hr => Ok.ret ⟨hr.1, fun t ht => hr.2 t ?_ ?_⟩)
  · cases hx : yN a t with
    | some x =>
      obtain ⟨g0, g1, g2⟩ := yO hx
      exact ho2 x (by simp [g0]) t g1 g2
    | none =>
      cases hy : yN b t with
      | some y =>
        obtain ⟨g0, g1, g2⟩ := yO hy
        exact ho2 y (by simp [g0]) t g1 g2
      | none => rw [hx, hy] at ht; exact (ht rfl).elim
  · intro h
    obtain ⟨x, hx, y, hy, e, h1, h2⟩ := hp2 t h
    rw [epIn_one ha.ord hx h1.1 h1.2, epIn_one hb.ord hy h2.1 h2.2] at ht
    exact ht (by simp [e])

def epsOf (v : ae) (s : Sid) : List ai := match chan v s with | none => [] | some c => c.aP
theorem epsOf_EL {v : ae} (hv : u6 v) (s : Sid) : EL (epsOf v s) := by
  unfold epsOf
  cases h : chan v s with
  | none => exact ⟨by simp, by simp, by simp⟩
  | some c =>
    have hc := (yL h).1
    have hE := (hv.all c hc).2
    exact ⟨by have := hE.len; simp only; omega, hE.ord, fun e he => (hv.lens.all c hc).2 e he⟩
theorem yM (v : ae) (s : Sid) (t : Int) : tT v s t = yN (epsOf v s) t := by
  unfold tT epsOf
  cases chan v s <;> rfl
theorem find_eps {v : ae} (hv : wB v) (s : Sid) : ∃ r, e9 v s = some r ∧ r.1.aP = epsOf v s := by
  rw [Find_eq hv]
  unfold epsOf
  cases chan v s <;> exact ⟨_, rfl, rfl⟩
structure AffOk (l : List az) : Prop where
  len : l.length ≤ 1000
  spans : ∀ x ∈ l, x.cj.length ≤ 10100
def hasA (l : List az) (s : Sid) (t : Int) : Prop := ∃ x ∈ l, x.ak = s ∧ db x.cj t
theorem affected_ok {a b : ae} (ha : u6 a) (hb : u6 b) : Ok (lu a b) (fun r => AffOk r ∧ ∀ s t, (tT a s t).map sq ≠ (tT b s t).map sq → hasA r s t) := by
  have hal := ha.len
  have hbl := hb.len
  unfold lu
  rw [inv_valid ha, Option.bind_some, if_neg (by simp), inv_valid hb, Option.bind_some, if_neg (by simp), concatC_at (by omega) (by omega), Option.bind_some]
  have hab : (a.ap ++ b.ap).length = a.ap.length + b.ap.length := List.length_append
  refine Ok.bind (P := fun o => o = (a.ap ++ b.ap).map (·.ak)) (Ok.loop (fun s : Int × List Sid => ∃ i : Nat, s = ((i : Int), ((a.ap ++ b.ap).take i).map (·.ak)) ∧ i ≤ (a.ap ++ b.ap).length) (fun s => (((a.ap ++ b.ap).length : Int) - s.1).toNat) ?_ ⟨0, rfl, Nat.zero_le _⟩) (fun o ho => ?_)
  · rintro s ⟨i, rfl, i1⟩
    unfold iL
    dsimp only
    refine Ok.iteD (fun hlt => ?_) (fun hge => ?_)
    · have hi : i < (a.ap ++ b.ap).length := by omega
      rw [getO_at rfl hi, Option.bind_some, gx (by simp only [List.length_map, List.length_take, List.length_cons, List.length_nil]; omega), Option.bind_some, w64 (by omega) (by omega)]
      exact Ok.nx ⟨i + 1, by rw [take_succ_at hi, List.map_append]; simp, by omega⟩ (by simp only; omega)
    · have : i = (a.ap ++ b.ap).length := by omega
      subst this
      exact Ok.st (by rw [List.take_length])
  subst ho
  refine Ok.bind (SSort_ok (by rw [List.length_map]; omega)) (fun L hL => ?_)
  obtain ⟨hL1, -, hL2⟩ := hL
  rw [List.length_map] at hL1
  refine Ok.bind (P := fun o => AffOk o ∧ ∀ s ∈ L, ∀ t, (tT a s t).map sq ≠ (tT b s t).map sq → hasA o s t) (Ok.loop (fun s : Int × List az => ∃ i : Nat, s.1 = i ∧ i ≤ L.length ∧ s.2.length ≤ i ∧ (∀ x ∈ s.2, x.cj.length ≤ 10100) ∧ ∀ q ∈ L.take i, ∀ t, (tT a q t).map sq ≠ (tT b q t).map sq → hasA s.2 q t) (fun s => ((L.length : Int) - s.1).toNat) ?_ ⟨0, rfl, Nat.zero_le _, by simp, by simp, by simp⟩) (fun o ho => ?_)
  · rintro ⟨s1, s2⟩ ⟨i, i0, i1, i2, i3, i4⟩
    simp only at i0 i2 i3 i4
    subst i0
    unfold pM
    dsimp only
    refine Ok.iteD (fun hlt => ?_) (fun hge => ?_)
    rotate_left
    · have : i = L.length := by omega
      subst this
      exact Ok.st ⟨⟨by omega, i3⟩, by simpa using i4⟩
    have hi : i < L.length := by omega
    obtain ⟨r1, e1, e2⟩ := find_eps ha.lens L[i]
    obtain ⟨r2, e3, e4⟩ := find_eps hb.lens L[i]
    rw [getO_at rfl hi, Option.bind_some, e1, Option.bind_some, e3, Option.bind_some, e2, e4]
    refine Ok.bind (differ_ok (epsOf_EL ha _) (epsOf_EL hb _)) (fun d hd => ?_)
    obtain ⟨hd1, hd2⟩ := hd
    rw [w64 (by omega) (by omega)]
    refine Ok.iteD (fun hne => ?_) (fun hno => ?_)
    · rw [gx (by simp only [List.length_cons, List.length_nil]; omega), Option.bind_some]
      refine Ok.nx ⟨i + 1, by simp, by omega, by simp; omega, fun x hx => ?_, fun q hq t ht => ?_⟩ (by simp only; omega)
      · rcases List.mem_append.1 hx with hx | hx
        · exact i3 x hx
        · rw [List.mem_singleton.1 hx]; exact hd1
      · rw [take_succ_at hi] at hq
        rcases List.mem_append.1 hq with hq | hq
        · obtain ⟨x, hx, h1, h2⟩ := i4 q hq t ht
          exact ⟨x, by simp [hx], h1, h2⟩
        · have hq := List.mem_singleton.1 hq
          subst hq
          exact ⟨⟨L[i], d⟩, by simp, rfl, hd2 t (by rw [← yM, ← yM]; exact ht)⟩
    · refine Ok.nx ⟨i + 1, by simp, by omega, by simp only; omega, i3, fun q hq t ht => ?_⟩ (by simp only; omega)
      rw [take_succ_at hi] at hq
      rcases List.mem_append.1 hq with hq | hq
      · exact i4 q hq t ht
      · have hq := List.mem_singleton.1 hq
        subst hq
        obtain ⟨s, hs, -⟩ := hd2 t (by rw [← yM, ← yM]; exact ht)
        have := List.length_pos_of_mem hs
        omega
  refine Ok.ret ⟨ho.1, fun s t ht => ho.2 s ?_ t ht⟩
  rw [hL2]
  have hin : ∀ {v : ae}, tT v s t ≠ none → ∃ c ∈ v.ap, c.ak = s := fun {v} h => by
    unfold tT at h
    cases hc : chan v s with
    | none => rw [hc] at h; exact (h rfl).elim
    | some c => exact ⟨c, yL hc⟩
  by_cases h1 : tT a s t = none
  · have h2 : tT b s t ≠ none := fun h2 => ht (by rw [h1, h2])
    obtain ⟨c, hc, e⟩ := hin h2
    exact List.mem_map.2 ⟨c, by simp [hc], e⟩
  · obtain ⟨c, hc, e⟩ := hin h1
    exact List.mem_map.2 ⟨c, by simp [hc], e⟩
end Go.Dw.De


set_option maxRecDepth 100000
set_option maxHeartbeats 4000000
namespace Go.Dw.De
open Go.Dw Go.Proofs
open Sd (rD ky mf)

theorem yX {κ β : Type} [DecidableEq κ] {eq : κ → κ → Bool} (he : ∀ a b, eq a b = decide (a = b)) (k : κ) (v z : β) (k' : κ) : ∀ m : List (κ × β), mGet eq k' z (mPut eq k v m) = if k' = k then v else mGet eq k' z m
  | [] => by simp [mPut, mGet, he]
  | e :: r => by
    have ih := yX he k v z k' r
    unfold mPut
    rw [he]
    by_cases h : k = e.1
    · rw [if_pos (by simpa using h)]
      unfold mGet
      rw [he, he]
      by_cases h' : k' = k
      · rw [if_pos (by simpa using h'), if_pos h']
      · rw [if_neg (by simpa using h'), if_neg h', if_neg (by rw [← h]; simpa using h')]
    · rw [if_neg (by simpa using h)]
      unfold mGet
      rw [he, ih]
      by_cases h' : k' = e.1 <;> by_cases h2 : k' = k <;> simp_all
abbrev home (p : Pick) (m : List (Pick × Int)) : Int := mGet pJ p (0 : Int) m
structure Home (X : List (List Pick)) (m : List (Pick × Int)) : Prop where
  at_ : ∀ (j : Nat) (h : j < X.length) (p : Pick), p ∈ X[j] → home p m = j + 1
  no : ∀ p, p ∉ X.flatten → home p m = 0
structure IV (v : ae) : Prop where
  len : wB v
  val : bP v = some true
theorem u6.iv {v : ae} (h : u6 v) : IV v := ⟨h.lens, inv_valid h⟩
end Go.Dw.De
