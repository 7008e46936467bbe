
import Derived.Test.YtkcfodpngpmlcaaGreatDeFn
import Derived.Test.YtkcfodpngpmlcaaGreatDwPlain
import Derived.Test.YtkcfodpngpmlcaaGreatDwOk
import Derived.Test.YtkcfodpngpmlcaaGreatDeCo
import Derived.KernelRfl



set_option maxRecDepth 100000
set_option maxHeartbeats 4000000
namespace Go.Dw.De
namespace So
open Go.Dw
abbrev Src := ag
theorem byteO_at {s : List UInt8} {n : Int} {i : Nat} (hn : n = i) (hi : i < s.length) : byteO s n = some ((s[i].toNat : Nat) : Int) := by
  subst hn
  unfold byteO
  rw [if_pos ⟨by omega, by omega⟩, Int.toNat_natCast, List.getD_eq_getElem?_getD, List.getElem?_eq_getElem hi]; rfl
theorem sq {α : Type} {l m : List α} {b : Nat} (h : (l.length + m.length) * b ≤ 140737488355328) : appO l m b = some (l ++ m) := by
  unfold appO
  rw [if_pos h]
theorem loop_list {α ω : Type} {body : Int → Option (Step1 Int ω)} (l : List α) {p : α → Bool} {u r : ω} (h1 : ∀ (i : Nat) (hi : i < l.length), body i = if p l[i] = true then some (.next ((i + 1 : Nat) : Int)) else some (.stop r))
    (h2 : body (l.length : Nat) = some (.stop u)) : loopO body (0 : Int) = some (if l.all p = true then u else r) := by
  have : ∀ k i, i + k = l.length → loopO body (i : Int) = some (if (l.drop i).all p = true then u else r) := by
    intro k
    induction k with
    | zero =>
      intro i hi
      obtain rfl : i = l.length := by omega
      rw [loopO_stop h2]; simp
    | succ k ih =>
      intro i hi
      have hlt : i < l.length := by omega
      rw [List.drop_eq_getElem_cons hlt, List.all_cons]
      by_cases hp : p l[i] = true
      · rw [loopO_next (by rw [h1 i hlt, if_pos hp]), ih (i + 1) (by omega), hp, Bool.true_and]
      · rw [loopO_stop (by rw [h1 i hlt, if_neg hp])]; simp [hp]
  have := this l.length 0 (by omega)
  simpa using this

def plainB (c : UInt8) : Bool := (decide (65 ≤ c.toNat) && decide (c.toNat ≤ 90)) || (decide (48 ≤ c.toNat) && decide (c.toNat ≤ 57))
theorem dec1 (n : Nat) : decide ((n : Int) ≥ 65) = decide (65 ≤ n) := decide_eq_decide.2 (by omega)
theorem dec2 (n : Nat) : decide ((n : Int) ≤ 90) = decide (n ≤ 90) := decide_eq_decide.2 (by omega)
theorem dec3 (n : Nat) : decide ((n : Int) ≥ 48) = decide (48 ≤ n) := decide_eq_decide.2 (by omega)
theorem dec4 (n : Nat) : decide ((n : Int) ≤ 57) = decide (n ≤ 57) := decide_eq_decide.2 (by omega)
theorem plain_eq (c : UInt8) : mI ((c.toNat : Nat) : Int) = some (plainB c) := by
  unfold mI plainB
  rw [dec1, dec2, dec3, dec4]
  cases decide (65 ≤ c.toNat) <;> cases decide (c.toNat ≤ 90) <;> cases decide (48 ≤ c.toNat) <;> simp
def wT (s : List UInt8) (lo hi : Int) : Bool := s.all plainB && (decide ((s.length : Int) ≥ lo) && decide ((s.length : Int) ≤ hi))
theorem code_l7 {s : List UInt8} (hs : s.length ≤ 9223372036854775807) : loopO (jV s) (0 : Int) = some (if s.all plainB = true then .inl () else .inr false) := by
  refine loop_list s (fun i hi => ?_) ?_
  · unfold jV
    rw [if_pos (by simp; omega), byteO_at rfl hi, w64 (by omega) (by omega)]
    simp only [Option.bind_some, plain_eq]
    cases plainB s[i] <;> simp
  · unfold jV
    rw [if_neg (by simp)]
theorem code_eq {s : List UInt8} (hs : s.length ≤ 9223372036854775807) (lo hi : Int) : jo s lo hi = some (wT s lo hi) := by
  unfold jo wT
  rw [code_l7 hs]
  cases s.all plainB with
  | true => cases decide ((s.length : Int) ≥ lo) <;> simp
  | false => rfl
def SidLen (x : Src) : Prop := x.aB.length ≤ 9223372036854775807 ∧ x.aA.length ≤ 9223372036854775807 ∧ x.aw.length ≤ 9223372036854775807 ∧ x.aC.length ≤ 9223372036854775807
def xl (x : Src) : Bool := wT x.aB 1 2 && (wT x.aA 1 5 && (wT x.aw 0 2 && (decide (x.aw.length ≠ 1) && wT x.aC 3 3)))
theorem Valid_eq {x : Src} (hx : SidLen x) : kB x = some (xl x) := by
  obtain ⟨h1, h2, h3, h4⟩ := hx
  unfold kB xl
  simp only [code_eq h1, code_eq h2, code_eq h3, code_eq h4, Option.bind_some]
  have e : ((x.aw.length : Int) != 1) = decide (x.aw.length ≠ 1) := by
    by_cases h : x.aw.length = 1
    · simp [h]
    · simp [h]; omega
  rw [e]
  cases wT x.aB 1 2 <;> cases wT x.aA 1 5 <;> cases wT x.aw 0 2 <;> cases decide (x.aw.length ≠ 1) <;> simp
theorem xr {s : List UInt8} {lo : Int} {hi : Nat} (h : wT s lo hi = true) : s.length ≤ hi := by
  unfold wT at h
  simp only [Bool.and_eq_true, decide_eq_true_eq] at h
  omega
theorem valid_len {x : Src} (h : xl x = true) : x.aB.length ≤ 2 ∧ x.aA.length ≤ 5 ∧ x.aw.length ≤ 2 ∧ x.aC.length ≤ 3 := by
  unfold xl at h
  simp only [Bool.and_eq_true] at h
  exact ⟨xr (hi := 2) h.1, xr (hi := 5) h.2.1, xr (hi := 2) h.2.2.1, xr (hi := 3) h.2.2.2.2⟩

end So
end Go.Dw.De


set_option maxRecDepth 100000
set_option maxHeartbeats 4000000
namespace Go.Dw.De
open Go.Dw
abbrev Src := ah
abbrev Pick := aa
abbrev Sid := ag

theorem mod_ok (a b : Int) (h0 : 1 ≤ b) (h1 : b ≤ 1000000000) : Ok (th a b) (fun r => 0 ≤ r ∧ r < b) := by
  unfold th
  have hl : a.tmod b < b := Int.tmod_lt_of_pos _ (by omega)
  have hg : -b < a.tmod b := by
    rcases Int.le_total 0 a with h | h
    · have := Int.tmod_nonneg b h; omega
    · have e : a.tmod b = -((-a).tmod b) := by rw [Int.neg_tmod]; omega
      have := Int.tmod_lt_of_pos (-a) (show 0 < b by omega)
      omega
  refine Ok.iteD (fun _ => by omega) (fun _ => ?_)
  refine Ok.bind (Ok.rem (by omega)) (fun x hx => ?_)
  subst hx
  refine Ok.iteD (fun _ => ?_) (fun _ => ?_)
  · rw [w64 (by omega) (by omega)]
    exact Ok.ret (by omega)
  · exact Ok.ret (by omega)
def bV (d : Src) : Prop := 0 ≤ d.fAt ∧ d.fAt ≤ d.fL.length ∧ d.fL.length ≤ 2000
theorem raw_ok (d : Src) (hd : bV d) : Ok (xp d) (fun r => bV r.2) := by
  obtain ⟨h0, h1, h2⟩ := hd
  unfold xp
  refine Ok.iteD (fun _ => Ok.ret ⟨h0, h1, h2⟩) (fun h => ?_)
  rw [w64 (n := d.fAt + 1) (by omega) (by omega), w64 (by omega) (by omega)]
  refine Ok.bind (Ok.get (by omega) (by omega)) (fun x _ => ?_)
  refine Ok.ret ⟨?_, ?_, h2⟩ <;> simp only <;> omega
theorem eQ (k : Int) (d : Src) (hd : bV d) (h0 : 1 ≤ k) (h1 : k ≤ 1000000000) : Ok (c6 k d) (fun r => 0 ≤ r.1 ∧ r.1 < k ∧ bV r.2) := by
  unfold c6
  refine Ok.bind (raw_ok d hd) (fun x hx => ?_)
  refine Ok.bind (mod_ok _ _ h0 h1) (fun y hy => ?_)
  exact Ok.ret ⟨hy.1, hy.2, hx⟩
theorem e9 (l : List Int) (d : Src) (hd : bV d) (h0 : l ≠ []) (h1 : l.length ≤ 1000000) : Ok (dj l d) (fun r => r.1 ∈ l ∧ bV r.2) := by
  unfold dj
  have := List.length_pos_iff.2 h0
  refine Ok.bind (eQ _ d hd (by omega) (by omega)) (fun x hx => ?_)
  refine Ok.bind (Ok.get hx.1 hx.2.1) (fun y hy => ?_)
  exact Ok.ret ⟨hy.1, hx.2.2⟩
def stas : List (List UInt8) := [[83, 49], [83, 50], [83, 51], [83, 52], [83, 53], [83, 54]]
def IsSid (a : Sid) : Prop := So.xl a = true
theorem stas_ok : ∀ x ∈ stas, So.xl ⟨[65, 66], x, [48, 48], [66, 72, 90]⟩ = true := by decide +kernel
theorem source_ok (n : Int) : Ok (fu n) IsSid := by
  unfold fu
  refine Ok.bind (mod_ok n 6 (by omega) (by omega)) (fun x hx => ?_)
  refine Ok.bind (Ok.get hx.1 hx.2) (fun y hy => ?_)
  exact Ok.ret (stas_ok y hy.1)
theorem new_ok (l : List Int) : Ok (nu l) bV := by
  unfold nu
  refine Ok.bind (Ok.cut (by omega) (by split <;> omega) (by split <;> omega)) (fun x hx => ?_)
  subst hx
  refine Ok.ret ⟨by simp, by simp, ?_⟩
  simp only [List.length_take, List.length_drop]
  split <;> omega


def oJ (m : Int) (p : ap) : Prop := (-m ≤ p.fX ∧ p.fX ≤ m) ∧ (-m ≤ p.fY ∧ p.fY ≤ m) ∧ (-m ≤ p.fZ ∧ p.fZ ≤ m)
theorem u6 (m : Int) (h0 : 0 ≤ m) (h1 : m ≤ 1000) (d : Src) (hd : bV d) : Ok (mh m d) (fun r => oJ m r.1 ∧ bV r.2) := by
  unfold mh
  rw [w64 (n := 2 * m) (by omega) (by omega), w64 (n := 2 * m + 1) (by omega) (by omega), w64 (n := m + 1) (by omega) (by omega)]
  refine Ok.bind (eQ _ _ hd (by omega) (by omega)) (fun y1 g1 => ?_)
  refine Ok.bind (eQ _ _ g1.2.2 (by omega) (by omega)) (fun y2 g2 => ?_)
  refine Ok.bind (eQ _ _ g2.2.2 (by omega) (by omega)) (fun y3 g3 => ?_)
  rw [w64 (n := y1.1 - m) (by omega) (by omega), w64 (n := y2.1 - m) (by omega) (by omega)]
  exact Ok.ret ⟨⟨by simp only; omega, by simp only; omega, by simp only; omega⟩, g3.2.2⟩
def wI (b : aL) : Prop := oJ 40 b.a8 ∧ (0 ≤ b.aU.fX - b.a8.fX ∧ b.aU.fX - b.a8.fX ≤ 20) ∧ (0 ≤ b.aU.fY - b.a8.fY ∧ b.aU.fY - b.a8.fY ≤ 20) ∧ (0 ≤ b.aU.fZ - b.a8.fZ ∧ b.aU.fZ - b.a8.fZ ≤ 20)
theorem box_ok (m side : Int) (h0 : 0 ≤ m) (h1 : m ≤ 40) (h2 : 0 ≤ side) (h3 : side ≤ 20) (d : Src) (hd : bV d) : Ok (xo m side d) (fun r => wI r.1 ∧ bV r.2) := by
  unfold xo
  rw [w64 (n := side + 1) (by omega) (by omega)]
  refine Ok.bind (u6 m h0 (by omega) d hd) (fun y0 g0 => ?_)
  refine Ok.bind (eQ _ _ g0.2 (by omega) (by omega)) (fun y1 g1 => ?_)
  refine Ok.bind (eQ _ _ g1.2.2 (by omega) (by omega)) (fun y2 g2 => ?_)
  refine Ok.bind (eQ _ _ g2.2.2 (by omega) (by omega)) (fun y3 g3 => ?_)
  obtain ⟨⟨p1, p2, p3⟩, -⟩ := g0
  rw [w64 (n := y0.1.fX + y1.1) (by omega) (by omega), w64 (n := y0.1.fY + y2.1) (by omega) (by omega), w64 (n := y0.1.fZ + y3.1) (by omega) (by omega)]
  refine Ok.ret ⟨⟨⟨by simp only; omega, by simp only; omega, by simp only; omega⟩, by simp only; omega, by simp only; omega, by simp only; omega⟩, g3.2.2⟩

structure TabOk (t : aK) : Prop where
  step : t.bt = 20 ∨ t.bt = 25 ∨ t.bt = 40 ∨ t.bt = 100
  len : 1 ≤ t.a8.length ∧ t.a8.length ≤ 30
  same : t.aU.length = t.a8.length
  low : ∀ x ∈ t.a8, 0 ≤ x ∧ x ≤ 3000
  high : ∀ x ∈ t.aU, 0 ≤ x ∧ x ≤ 5000
theorem table_ok (d : Src) (hd : bV d) : Ok (mj d) (fun r => TabOk r.1 ∧ bV r.2) := by
  unfold mj
  refine Ok.bind (e9 _ d hd (by simp) (by simp)) (fun x1 h1 => ?_)
  obtain ⟨hst, h1⟩ := h1
  have hst : x1.1 = 20 ∨ x1.1 = 25 ∨ x1.1 = 40 ∨ x1.1 = 100 := by simpa using hst
  refine Ok.bind (eQ _ _ h1 (by omega) (by omega)) (fun x2 h2 => ?_)
  have hq : ∃ q, IntKind.wrap .i64 ((400 : Int).tdiv x1.1) = q ∧ 4 ≤ q ∧ q ≤ 20 := by
    rcases hst with e | e | e | e <;> rw [e] <;> exact ⟨_, rfl, by decide, by decide⟩
  have hp : ∃ q, IntKind.wrap .i64 (x1.1.tdiv 4) = q ∧ 0 ≤ q ∧ q ≤ 25 := by
    rcases hst with e | e | e | e <;> rw [e] <;> exact ⟨_, rfl, by decide, by decide⟩
  obtain ⟨q, hq, q0, q1⟩ := hq
  obtain ⟨p, hp, p0, p1⟩ := hp
  refine Ok.bind (P := fun o => bV ⟨o.1, o.2.1⟩ ∧ (1 ≤ o.2.2.1.length ∧ o.2.2.1.length ≤ 30) ∧ o.2.2.2.length = o.2.2.1.length ∧ (∀ x ∈ o.2.2.1, 0 ≤ x ∧ x ≤ 3000) ∧ (∀ x ∈ o.2.2.2, 0 ≤ x ∧ x ≤ 5000))
    (Ok.loop (fun s => (0 ≤ s.2.2.1 ∧ s.2.2.1 ≤ 23) ∧ s.2.2.2.2.2.1.length = s.2.2.1.toNat ∧ s.2.2.2.2.2.2.length = s.2.2.1.toNat ∧ (0 ≤ s.1 ∧ s.1 ≤ 60 * s.2.2.1) ∧ (0 ≤ s.2.1 ∧ s.2.1 ≤ 100 * s.2.2.1 + 2) ∧ bV ⟨s.2.2.2.1, s.2.2.2.2.1⟩ ∧ (∀ x ∈ s.2.2.2.2.2.1, 0 ≤ x ∧ x ≤ 3000) ∧ (∀ x ∈ s.2.2.2.2.2.2, 0 ≤ x ∧ x ≤ 5000))
      (fun s => (23 - s.2.2.1).toNat) ?_ ⟨⟨by simp, by simp⟩, rfl, rfl, ⟨by simp, by simp⟩, ⟨by simp only; omega, by simp only; omega⟩, h2.2.2, by simp, by simp⟩) ?_
  · rintro ⟨s3, s4, s5, s6, s7, s8, s9⟩ ⟨i0, i1, i2, i3, i4, i5, i6, i7⟩
    simp only at i0 i1 i2 i3 i4 i5 i6 i7
    unfold nm
    refine Ok.bind (Ok.quo (by omega)) (fun y1 g1 => ?_)
    rw [hq] at g1; subst g1
    refine Ok.bind (eQ _ _ i5 (by omega) (by omega)) (fun y2 g2 => ?_)
    rw [w64 (n := y1 + y2.1) (by omega) (by omega)]
    refine Ok.iteD (fun hle => ?_) (fun hgt => ?_)
    · refine Ok.bind (Ok.app (by simp only [List.length_cons, List.length_nil]; omega)) (fun y3 g3 => ?_)
      refine Ok.bind (Ok.app (by simp only [List.length_cons, List.length_nil]; omega)) (fun y4 g4 => ?_)
      refine Ok.bind (e9 _ _ g2.2.2 (by simp) (by simp)) (fun y5 g5 => ?_)
      refine Ok.bind (Ok.quo (by omega)) (fun y6 g6 => ?_)
      rw [hp] at g6; subst g6
      refine Ok.bind (e9 _ _ g5.2 (by simp) (by simp)) (fun y7 g7 => ?_)
      have a1 : 0 ≤ y5.1 ∧ y5.1 ≤ 35 := by have := g5.1; simp at this; omega
      have a2 : 0 ≤ y7.1 ∧ y7.1 ≤ 30 := by have := g7.1; simp at this; omega
      rw [w64 (n := y5.1 + y6) (by omega) (by omega), w64 (n := s3 + (y5.1 + y6)) (by omega) (by omega), w64 (n := s5 + 1) (by omega) (by omega), w64 (by split <;> omega) (by split <;> omega)]
      subst g3 g4
      refine Ok.nx ⟨⟨by simp only; omega, by simp only; omega⟩, ?_, ?_, ⟨by simp only; omega, by simp only; omega⟩, ⟨by simp only; split <;> omega, by simp only; split <;> omega⟩, g7.2, ?_, ?_⟩ (by simp only; omega)
      · simp only [List.length_append, List.length_cons, List.length_nil]; omega
      · simp only [List.length_append, List.length_cons, List.length_nil]; omega
      · intro x hx
        simp only [List.mem_append, List.mem_singleton] at hx
        rcases hx with hx | rfl
        · exact i6 x hx
        · omega
      · intro x hx
        simp only [List.mem_append, List.mem_singleton] at hx
        rcases hx with hx | rfl
        · exact i7 x hx
        · omega
    · exact Ok.st ⟨g2.2.2, ⟨by simp only; omega, by simp only; omega⟩, by simp only; omega, i6, i7⟩
  · intro o ho
    exact Ok.ret ⟨⟨hst, ho.2.1, ho.2.2.1, ho.2.2.2.1, ho.2.2.2.2⟩, ho.1⟩
theorem association_ok (d : Src) (hd : bV d) : Ok (fr 3 d) (fun r => (wI r.1.aS ∧ TabOk r.1.bv) ∧ bV r.2) := by
  unfold fr
  refine Ok.bind (box_ok 20 3 (by omega) (by omega) (by omega) (by omega) d hd) (fun x1 h1 => ?_)
  refine Ok.bind (table_ok _ h1.2) (fun x2 h2 => ?_)
  refine Ok.bind (e9 _ _ h2.2 (by simp) (by simp)) (fun x3 h3 => ?_)
  refine Ok.bind (e9 _ _ h3.2 (by simp) (by simp)) (fun x4 h4 => ?_)
  refine Ok.bind (e9 _ _ h4.2 (by simp) (by simp)) (fun x5 h5 => ?_)
  refine Ok.bind (e9 _ _ h5.2 (by simp) (by simp)) (fun x6 h6 => ?_)
  refine Ok.bind (eQ _ _ h6.2 (by omega) (by omega)) (fun x7 h7 => ?_)
  exact Ok.ret ⟨⟨h1.1, h2.1⟩, h7.2.2⟩
theorem scale_ok (d : Src) (hd : bV d) : Ok (og d) (fun r => bV r.2) := by
  unfold og
  refine Ok.bind (table_ok _ hd) (fun x1 h1 => ?_)
  refine Ok.bind (eQ _ _ h1.2 (by omega) (by omega)) (fun x2 h2 => ?_)
  refine Ok.bind (eQ _ _ h2.2.2 (by omega) (by omega)) (fun x3 h3 => ?_)
  have hl := h1.1.len; have hs := h1.1.same
  refine Ok.bind (P := fun _ => True) (Ok.loop (fun s => 0 ≤ s.1 ∧ s.2.1.length = x1.1.a8.length ∧ s.2.2.length = x1.1.a8.length) (fun s => ((x1.1.a8.length : Int) - s.1).toNat) ?_ ⟨Int.le_refl _, rfl, hs⟩) (fun o _ => Ok.ret h3.2.2)
  rintro ⟨s4, s5, s6⟩ ⟨i0, i1, i2⟩
  simp only at i0 i1 i2
  unfold nk
  refine Ok.iteD (fun hlt => ?_) (fun _ => Ok.st trivial)
  refine Ok.bind (Ok.isin (by omega) (by omega)) (fun _ _ => ?_)
  refine Ok.bind (Ok.get (by omega) (by omega)) (fun y1 g1 => ?_)
  refine Ok.bind (Ok.quo (by omega)) (fun y2 g2 => ?_)
  refine Ok.bind (Ok.isin (by omega) (by omega)) (fun _ _ => ?_)
  refine Ok.bind (Ok.get (by omega) (by omega)) (fun y3 g3 => ?_)
  refine Ok.bind (Ok.quo (by omega)) (fun y4 g4 => ?_)
  refine Ok.bind (Ok.isin (by omega) (by omega)) (fun _ _ => ?_)
  refine Ok.bind (Ok.set (by omega) (by omega)) (fun y5 g5 => ?_)
  refine Ok.bind (Ok.isin (by omega) (by omega)) (fun _ _ => ?_)
  refine Ok.bind (Ok.set (by omega) (by omega)) (fun y6 g6 => ?_)
  subst g5 g6
  rw [w64 (by omega) (by omega)]
  exact Ok.nx ⟨by simp only; omega, by simpa using i1, by simpa using i2⟩ (by simp only; omega)
theorem settings_ok (d : Src) (hd : bV d) : Ok (ew 3 d) (fun r => (wI r.1.au.aS ∧ TabOk r.1.au.bv) ∧ bV r.2) := by
  unfold ew
  refine Ok.bind (association_ok d hd) (fun x1 h1 => ?_)
  refine Ok.bind (scale_ok _ h1.2) (fun x2 h2 => ?_)
  refine Ok.bind (e9 _ _ h2 (by simp) (by simp)) (fun x3 h3 => ?_)
  exact Ok.ret ⟨h1.1, h3.2⟩

def ChanOk (c : ac) : Prop := c.aQ.length ≤ 2 ∧ ∀ e ∈ c.aQ, oJ 60 e.aF
def InvOk (v : ae) : Prop := v.aq.length ≤ 6 ∧ ∀ c ∈ v.aq, ChanOk c
theorem range_ok (a b : Int) (h0 : -1000 ≤ a) (h1 : a ≤ 1000) (h2 : 0 ≤ b - a) (h3 : b - a ≤ 1000) (d : Src) (hd : bV d) : Ok (oe a b d) (fun r => (a ≤ r.1 ∧ r.1 ≤ b) ∧ bV r.2) := by
  unfold oe
  rw [w64 (n := b - a) (by omega) (by omega), w64 (n := b - a + 1) (by omega) (by omega)]
  refine Ok.bind (eQ _ _ hd (by omega) (by omega)) (fun y1 g1 => ?_)
  rw [w64 (n := a + y1.1) (by omega) (by omega)]
  exact Ok.ret ⟨⟨by simp only; omega, by simp only; omega⟩, g1.2.2⟩
theorem point_ok (b : aL) (hb : wI b) (d : Src) (hd : bV d) : Ok (pX b d) (fun r => oJ 60 r.1 ∧ bV r.2) := by
  obtain ⟨⟨p1, p2, p3⟩, q1, q2, q3⟩ := hb
  unfold pX
  refine Ok.bind (range_ok _ _ (by omega) (by omega) (by omega) (by omega) d hd) (fun y1 g1 => ?_)
  refine Ok.bind (range_ok _ _ (by omega) (by omega) (by omega) (by omega) _ g1.2) (fun y2 g2 => ?_)
  refine Ok.bind (range_ok _ _ (by omega) (by omega) (by omega) (by omega) _ g2.2) (fun y3 g3 => ?_)
  exact Ok.ret ⟨⟨by simp only; omega, by simp only; omega, by simp only; omega⟩, g3.2⟩
theorem kplace_ok (v : ae) (hv : InvOk v) (x : Sid) (t : Int) : Ok (p7 v x t) (fun r => oJ 60 r.1) := by
  unfold p7
  have h0 : oJ 60 ⟨0, 0, 0⟩ := ⟨by simp, by simp, by simp⟩
  refine Ok.bind (P := fun o => match o with | .inl _ => True | .inr r => oJ 60 r.1) (Ok.upto v.aq.length (by omega) (fun _ => True) trivial ?_) ?_
  · intro i h1 h2 _
    unfold oV
    refine Ok.iteD (fun hlt => ?_) (fun _ => Ok.st trivial)
    refine Ok.bind (Ok.get (by omega) (by omega)) (fun c hc => ?_)
    have hck := hv.2 c hc.1
    have hlen := hv.1
    refine Ok.bind (P := fun o => match o with | .inl y => y = i | .inr r => oJ 60 r.1) (Ok.upto c.aQ.length (by omega) (fun _ => True) trivial ?_) ?_
    · intro j h3 h4 _
      unfold oU
      have hcl := hck.1
      refine Ok.iteD (fun hlt => ?_) (fun _ => Ok.st rfl)
      refine Ok.bind (Ok.get (by omega) (by omega)) (fun e he => ?_)
      rw [w64 (n := j + 1) (by omega) (by omega)]
      refine Ok.iteB (fun _ => ?_) (fun _ => Ok.nx ⟨⟨by omega, by omega⟩, trivial⟩ (by omega))
      refine Ok.iteD (fun _ => ?_) (fun _ => Ok.nx ⟨⟨by omega, by omega⟩, trivial⟩ (by omega))
      refine Ok.iteD (fun _ => ?_) (fun _ => Ok.nx ⟨⟨by omega, by omega⟩, trivial⟩ (by omega))
      exact Ok.st (hck.2 e he.1)
    · rintro (y | r) ho
      · simp only at ho ⊢
        subst ho
        rw [w64 (n := y + 1) (by omega) (by omega)]
        exact Ok.nx ⟨⟨by omega, by omega⟩, trivial⟩ (by omega)
      · exact Ok.st ho
  · rintro (y | r) ho
    · exact Ok.ret h0
    · exact Ok.ret ho
def j9 (p : Pick) : Prop := IsSid p.al ∧ 0 ≤ p.aH ∧ p.aH ≤ p.aN ∧ p.aN ≤ p.aY ∧ p.aY ≤ 18014398509481984 ∧ 0 ≤ p.aI ∧ p.aI ≤ 1073741823 ∧ -1 ≤ p.aJ ∧ p.aJ ≤ 1
def PI (n : Nat) (s : Int × Int × List Int × Int × List Pick × Int × Int × Int) : Prop :=
  (0 ≤ s.2.1 ∧ s.2.1 + s.2.2.2.2.1.length ≤ n) ∧ (0 ≤ s.1 ∧ s.1 ≤ 1000000 + 1000 * s.2.2.2.2.1.length) ∧ bV ⟨s.2.2.1, s.2.2.2.1⟩ ∧ oJ 60 ⟨s.2.2.2.2.2.1, s.2.2.2.2.2.2.1, s.2.2.2.2.2.2.2⟩ ∧ ∀ p ∈ s.2.2.2.2.1, j9 p
theorem k34_ok {n : Nat} (hn : n ≤ 1000) {Q : List Pick × List Int × Int → Prop} {s : Int × Int × List Int × Int × List Pick × Int × Int × Int} {sid : Sid} (hs : IsSid sid) (am : Int × Src) (ha : 0 ≤ am.1 ∧ am.1 ≤ 1048576) (po : Int × Src) (hp : 0 ≤ po.1 ∧ po.1 < 3) (t k : Int) (l : List Int) (at_ : Int) (out : List Pick) (x y z e : Int)
    (hk : 1 ≤ k ∧ k + out.length ≤ n) (hks : k = s.2.1) (ht : 0 ≤ t ∧ t ≤ 1000000 + 1000 * (out.length + 1)) (hd : bV ⟨l, at_⟩) (hpos : oJ 60 ⟨x, y, z⟩) (hout : ∀ p ∈ out, j9 p) (he : 0 ≤ e ∧ e ≤ 10000000) :
    Ok (f9 sid am po t k l at_ out x y z e) (Ok.S (PI n) (fun s => s.2.1.toNat) Q s) := by
  unfold f9
  refine Ok.bind (eQ _ _ hd (by omega) (by omega)) (fun y1 g1 => ?_)
  refine Ok.bind (eQ _ _ g1.2.2 (by omega) (by omega)) (fun y2 g2 => ?_)
  refine Ok.bind (Ok.app (by simp only [List.length_cons, List.length_nil]; omega)) (fun y3 g3 => ?_)
  subst g3
  rw [w64 (n := e + y1.1) (by omega) (by omega), w64 (n := e + y1.1 + y2.1) (by omega) (by omega), w64 (n := po.1 - 1) (by omega) (by omega), w64 (n := k - 1) (by omega) (by omega)]
  refine Ok.nx ⟨⟨by simp only; omega, by simp only [List.length_append, List.length_cons, List.length_nil]; omega⟩, ⟨ht.1, by simp only [List.length_append, List.length_cons, List.length_nil]; omega⟩, g2.2.2, hpos, fun p hpm => ?_⟩ (by simp only; omega)
  simp only [List.mem_append, List.mem_singleton] at hpm
  rcases hpm with hpm | rfl
  · exact hout p hpm
  · exact ⟨hs, by simp only; omega, by simp only; omega, by simp only; omega, by simp only; omega, by simp only; omega, by simp only; omega, by simp only; omega, by simp only; omega⟩
theorem l55_ok (pl : ap × Bool) (hpl : oJ 60 pl.1) (x y z t k : Int) (out : List Pick) (hx : oJ 60 ⟨x, y, z⟩) : Ok (loopO (nj pl x y z t k out) (0 : Int)) (fun o => o.1 = t ∧ o.2.1 = k ∧ (0 ≤ o.2.2.1 ∧ o.2.2.1 ≤ 300) ∧ o.2.2.2.1 = out ∧ o.2.2.2.2.1 = x ∧ o.2.2.2.2.2.1 = y ∧ o.2.2.2.2.2.2 = z) := by
  obtain ⟨a1, a2, a3⟩ := hpl
  obtain ⟨b1, b2, b3⟩ := hx
  simp only at b1 b2 b3
  have hsq : ∀ (u v : Int), -60 ≤ u → u ≤ 60 → -60 ≤ v → v ≤ 60 → ∃ q, uj (IntKind.wrap .i64 (u - v)) = some q ∧ 0 ≤ q ∧ q ≤ 14400 := by
    intro u v h1 h2 h3 h4
    have h5 : -120 ≤ u - v ∧ u - v ≤ 120 := by omega
    rw [w64 (by omega) (by omega)]
    have h6 : 0 ≤ (u - v) * (u - v) ∧ (u - v) * (u - v) ≤ 14400 := by
      constructor
      · rcases Int.le_total 0 (u - v) with h | h
        · exact Int.mul_nonneg h h
        · exact Int.mul_nonneg_of_nonpos_of_nonpos h h
      · rcases Int.le_total 0 (u - v) with h | h
        · calc (u - v) * (u - v) ≤ 120 * 120 := Int.mul_le_mul h5.2 h5.2 h (by omega)
            _ = 14400 := by decide
        · have : (u - v) * (u - v) = (v - u) * (v - u) := by
            rw [← Int.neg_mul_neg]; congr 1 <;> omega
          rw [this]
          calc (v - u) * (v - u) ≤ 120 * 120 := Int.mul_le_mul (by omega) (by omega) (by omega) (by omega)
            _ = 14400 := by decide
    refine ⟨_, by unfold uj; rw [w64 (by omega) (by omega)], h6.1, h6.2⟩
  obtain ⟨q1, e1, l1, u1⟩ := hsq pl.1.fX x a1.1 a1.2 b1.1 b1.2
  obtain ⟨q2, e2, l2, u2⟩ := hsq pl.1.fY y a2.1 a2.2 b2.1 b2.2
  obtain ⟨q3, e3, l3, u3⟩ := hsq pl.1.fZ z a3.1 a3.2 b3.1 b3.2
  refine Ok.loop (fun s => 0 ≤ s ∧ s ≤ 300) (fun s => (300 - s).toNat) (fun s hs => ?_) ⟨Int.le_refl _, by omega⟩
  unfold nj
  rw [e1, e2, e3]
  simp only [Option.bind_some]
  rw [w64 (n := q1 + q2) (by omega) (by omega), w64 (n := q1 + q2 + q3) (by omega) (by omega)]
  have hss : 0 ≤ s * s ∧ s * s ≤ 90000 := ⟨Int.mul_nonneg hs.1 hs.1, by
    calc s * s ≤ 300 * 300 := Int.mul_le_mul hs.2 hs.2 hs.1 (by omega)
      _ = 90000 := by decide⟩
  rw [w64 (n := s * s) (by omega) (by omega)]
  refine Ok.iteD (fun hlt => ?_) (fun _ => Ok.st ⟨rfl, rfl, hs, rfl, rfl, rfl, rfl⟩)
  have h299 : s ≤ 299 := by
    rcases Int.lt_or_le 299 s with h | h
    · exfalso
      have : s = 300 := by omega
      subst this
      omega
    · exact h
  rw [w64 (n := s + 1) (by omega) (by omega)]
  exact Ok.nx ⟨by omega, by omega⟩ (by omega)
theorem picks_ok (a : aG) (ha : wI a.au.aS ∧ TabOk a.au.bv) (v : ae) (hv : InvOk v) (n : Nat) (hn : n ≤ 100) (d : Src) (hd : bV d) :
    Ok (iZ a v n d) (fun r => (r.1.length ≤ n ∧ ∀ p ∈ r.1, j9 p) ∧ bV r.2) := by
  unfold iZ
  refine Ok.bind (point_ok _ ha.1 d hd) (fun x1 h1 => ?_)
  refine Ok.bind (eQ _ _ h1.2 (by omega) (by omega)) (fun x2 h2 => ?_)
  rw [w64 (n := (n : Int) + 1) (by omega) (by omega)]
  refine Ok.bind (eQ _ _ h2.2.2 (by omega) (by omega)) (fun x3 h3 => ?_)
  rw [w64 (n := 1000 + x2.1) (by omega) (by omega)]
  refine Ok.bind (P := fun o => (o.1.length ≤ n ∧ ∀ p ∈ o.1, j9 p) ∧ bV ⟨o.2.1, o.2.2⟩) (Ok.loop (PI n) (fun s => s.2.1.toNat) ?_ ⟨⟨by simp only; omega, by simp only [List.length_nil]; omega⟩, ⟨by simp only; omega, by simp only [List.length_nil]; omega⟩, h3.2.2, h1.1, by simp⟩) (fun o ho => Ok.ret ⟨ho.1, ho.2⟩)
  rintro ⟨s4, s5, s6, s7, s8, s9, s10, s11⟩ ⟨i0, i1, i2, i3, i4⟩
  simp only at i0 i1 i2 i3 i4
  unfold qJ
  refine Ok.iteD (fun hgt => ?_) (fun _ => Ok.st ⟨⟨by simp only; omega, i4⟩, i2⟩)
  refine Ok.bind (eQ _ _ i2 (by omega) (by omega)) (fun y1 g1 => ?_)
  refine Ok.bind (source_ok _) (fun y2 g2 => ?_)
  refine Ok.bind (e9 _ _ g1.2.2 (by simp) (by simp)) (fun y3 g3 => ?_)
  have hy3 : 0 ≤ y3.1 ∧ y3.1 ≤ 1048576 := by have := g3.1; simp at this; omega
  refine Ok.bind (eQ _ _ g3.2 (by omega) (by omega)) (fun y4 g4 => ?_)
  refine Ok.bind (eQ _ _ g4.2.2 (by omega) (by omega)) (fun y5 g5 => ?_)
  refine Ok.bind (eQ _ _ g5.2.2 (by omega) (by omega)) (fun y6 g6 => ?_)
  rw [w64 (n := 1000 + y5.1) (by omega) (by omega)]
  refine Ok.iteE (fun _ => ?_) (fun _ => Ok.iteE (fun _ => ?_) (fun _ => ?_))
  · refine Ok.bind (point_ok _ ha.1 _ g6.2.2) (fun y7 g7 => ?_)
    refine Ok.bind (eQ _ _ g7.2 (by omega) (by omega)) (fun y8 g8 => ?_)
    rw [w64 (n := s4 + y8.1) (by omega) (by omega)]
    exact k34_ok (by omega) g2 y3 hy3 y4 ⟨g4.1, g4.2.1⟩ _ _ _ _ _ _ _ _ _ (by omega) rfl (by omega) g8.2.2 g7.1 i4 (by omega)
  · exact k34_ok (by omega) g2 y3 hy3 y4 ⟨g4.1, g4.2.1⟩ _ _ _ _ _ _ _ _ _ (by omega) rfl (by omega) g6.2.2 i3 i4 (by omega)
  · refine Ok.bind (kplace_ok v hv _ _) (fun y7 g7 => ?_)
    refine Ok.iteB (fun _ => ?_) (fun _ => ?_)
    · refine Ok.bind (l55_ok y7 g7 _ _ _ _ _ _ i3) (fun o ho => ?_)
      obtain ⟨o1, o2, o3, o4, o5, o6, o7⟩ := ho
      have htab := ha.2
      have hl := htab.len
      have hst := htab.step
      refine Ok.bind (Ok.quo (by omega)) (fun y8 g8 => ?_)
      have hq : 0 ≤ o.2.2.1.tdiv a.au.bv.bt ∧ o.2.2.1.tdiv a.au.bv.bt ≤ 300 := by
        refine ⟨Int.tdiv_nonneg o3.1 (by omega), ?_⟩
        have := Int.tdiv_le_self (b := a.au.bv.bt) o3.1
        omega
      rw [w64 (by omega) (by omega)] at g8
      subst g8
      rw [w64 (n := (a.au.bv.a8.length : Int) - 1) (by omega) (by omega)]
      refine Ok.bind (Ok.get (by split <;> omega) (by split <;> omega)) (fun y9 g9 => ?_)
      have hb := htab.low y9 g9.1
      refine Ok.bind (eQ _ _ g6.2.2 (by omega) (by omega)) (fun y10 g10 => ?_)
      rw [o1, o2, o4, o5, o6, o7, w64 (n := s4 + y9) (by omega) (by omega), w64 (n := s4 + y9 + y10.1) (by omega) (by omega)]
      exact k34_ok (by omega) g2 y3 hy3 y4 ⟨g4.1, g4.2.1⟩ _ _ _ _ _ _ _ _ _ (by omega) rfl (by omega) g10.2.2 i3 i4 (by omega)
    · exact k34_ok (by omega) g2 y3 hy3 y4 ⟨g4.1, g4.2.1⟩ _ _ _ _ _ _ _ _ _ (by omega) rfl (by omega) g6.2.2 i3 i4 (by omega)
end Go.Dw.De


set_option maxRecDepth 100000
set_option maxHeartbeats 4000000
namespace Go.Dw.De
open Go.Dw
theorem sq {α : Type} {l m : List α} {b : Nat} (h : (l.length + m.length) * b ≤ 140737488355328) : appO l m b = some (l ++ m) := by
  unfold appO
  rw [if_pos h]
namespace Sd
abbrev Src := ag
theorem eq_src (a b : Src) : ((a.aB == b.aB) && ((a.aA == b.aA) && ((a.aw == b.aw) && ((a.aC == b.aC) && true)))) = decide (a = b) := by
  obtain ⟨n, t, l, c⟩ := a
  obtain ⟨n', t', l', c'⟩ := b
  simp only [ag.mk.injEq]
  by_cases e1 : n = n' <;> by_cases e2 : t = t' <;> by_cases e3 : l = l' <;> by_cases e4 : c = c' <;> simp [e1, e2, e3, e4]
theorem cmp_str (a b : List UInt8) : cA a b = some (cmpB a b) := by
  unfold cA fQ
  simp only [beq_self_eq_true, Bool.not_true, Option.bind_some, Bool.false_eq_true, if_false]
  unfold cmpB
  cases h : Op.bytesLess a b with
  | true => simp
  | false => by_cases e : a = b <;> simp [e]
theorem yV {l : List Int} {i j : Nat} (hj : j = i + 1) (hi : i < l.length) (hl : l.length < 1000) (h0 : l[i] = 0) : eb l i = some (.next (j : Int)) := by
  subst hj
  unfold eb
  rw [if_pos (by simp; omega), getO_at rfl hi]
  simp only [Option.bind_some, h0, w64 (n := (i : Int) + 1) (by omega) (by omega)]
  rfl
theorem yW {l : List Int} {i : Nat} (hi : i < l.length) (h0 : l[i] ≠ 0) : eb l i = some (.stop (.inr l[i])) := by
  unfold eb
  rw [if_pos (by simp; omega), getO_at rfl hi]
  simp only [Option.bind_some]
  rw [if_pos (by simpa using h0)]
theorem or_end {l : List Int} {n : Nat} (hn : n = l.length) : eb l n = some (.stop (.inl ())) := by
  subst hn
  unfold eb
  rw [if_neg (by simp)]
theorem or4 (a b c d : Int) : fP [a, b, c, d] = some (if a ≠ 0 then a else if b ≠ 0 then b else if c ≠ 0 then c else d) := by
  show ((loopO (eb [a, b, c, d]) ((0 : Nat) : Int)).bind _) = _
  by_cases ha : a = 0
  · rw [loopO_next (yV (i := 0) (j := 1) rfl (by simp) (by simp) (by simpa using ha)), if_neg (by simpa using ha)]
    by_cases hb : b = 0
    · rw [loopO_next (yV (i := 1) (j := 2) rfl (by simp) (by simp) (by simpa using hb)), if_neg (by simpa using hb)]
      by_cases hc : c = 0
      · rw [loopO_next (yV (i := 2) (j := 3) rfl (by simp) (by simp) (by simpa using hc)), if_neg (by simpa using hc)]
        by_cases hd : d = 0
        · rw [loopO_next (yV (i := 3) (j := 4) rfl (by simp) (by simp) (by simpa using hd)), loopO_stop (or_end (n := 4) rfl)]
          rw [hd]; rfl
        · rw [loopO_stop (yW (i := 3) (by simp) (by simpa using hd))]; rfl
      · rw [loopO_stop (yW (i := 2) (by simp) (by simpa using hc)), if_pos hc]; rfl
    · rw [loopO_stop (yW (i := 1) (by simp) (by simpa using hb)), if_pos hb]; rfl
  · rw [loopO_stop (yW (i := 0) (by simp) (by simpa using ha)), if_pos (by simpa using ha)]; rfl

def tU (a b : Src) : Int := if cmpB a.aB b.aB ≠ 0 then cmpB a.aB b.aB else if cmpB a.aA b.aA ≠ 0 then cmpB a.aA b.aA else if cmpB a.aw b.aw ≠ 0 then cmpB a.aw b.aw else cmpB a.aC b.aC
theorem nO (a b : Src) : co a b = some (tU a b) := by
  unfold co
  simp only [cmp_str, Option.bind_some, or4]
  rfl
theorem sQ : Tot tU := (cmpB_tot.map fun x : Src => x.aB).or ((cmpB_tot.map fun x : Src => x.aA).or ((cmpB_tot.map fun x : Src => x.aw).or (cmpB_tot.map fun x : Src => x.aC)))
theorem sI {a b : Src} (h : tU a b = 0) : a = b := by
  unfold tU at h
  obtain ⟨n, t, l, c⟩ := a
  obtain ⟨n', t', l', c'⟩ := b
  simp only at h
  by_cases h1 : cmpB n n' = 0
  · rw [if_neg (by simpa using h1)] at h
    by_cases h2 : cmpB t t' = 0
    · rw [if_neg (by simpa using h2)] at h
      by_cases h3 : cmpB l l' = 0
      · rw [if_neg (by simpa using h3)] at h
        rw [cmpB_zero] at h h1 h2 h3
        subst h h1 h2 h3; rfl
      · rw [if_pos h3] at h; exact (h3 h).elim
    · rw [if_pos h2] at h; exact (h2 h).elim
  · rw [if_pos h1] at h; exact (h1 h).elim
instance : DecidableEq Src := fun a b => decidable_of_iff (a.aB = b.aB ∧ a.aA = b.aA ∧ a.aw = b.aw ∧ a.aC = b.aC) (by
  obtain ⟨n, t, l, c⟩ := a
  obtain ⟨n', t', l', c'⟩ := b
  simp)
theorem eqs (a b : Src) : ((a.aB == b.aB) && ((a.aA == b.aA) && ((a.aw == b.aw) && ((a.aC == b.aC) && true)))) = decide (a = b) := by
  rw [eq_src]
  exact decide_eq_decide.2 Iff.rfl

theorem cmp_int (a b : Int) : bD a b = some (cmpI a b) := by
  unfold bD jr cmpI
  simp only [bne_self_eq_false, Option.bind_some, Bool.false_eq_true, if_false]
  by_cases h1 : a < b
  · rw [if_pos (decide_eq_true h1), if_pos h1]
  · rw [if_neg (by simpa using h1), if_neg h1]
    by_cases h2 : a > b
    · rw [if_pos (decide_eq_true h2), if_pos h2]
    · rw [if_neg (by simpa using h2), if_neg h2]
theorem or_go {l : List Int} {n : Nat} {r : List Int} (hl : l.length < 1000) (hn : n ≤ l.length) (hr : l.drop n = r) : loopO (eb l) (n : Int) = some (match r.find? (fun x => decide (x ≠ 0)) with | some x => .inr x | none => .inl ()) := by
  induction r generalizing n with
  | nil =>
    have : n = l.length := by
      have := congrArg List.length hr
      simp at this; omega
    rw [loopO_stop (or_end this)]; rfl
  | cons a r ih =>
    have hlt : n < l.length := by
      have := congrArg List.length hr
      simp at this; omega
    have ha : l[n] = a := by
      rw [List.drop_eq_getElem_cons hlt] at hr
      exact (List.cons.inj hr).1
    have hr' : l.drop (n + 1) = r := by
      rw [List.drop_eq_getElem_cons hlt] at hr
      exact (List.cons.inj hr).2
    by_cases h0 : a = 0
    · rw [loopO_next (yV (i := n) (j := n + 1) rfl hlt hl (by rw [ha, h0])), ih (by omega) hr']
      simp [List.find?, h0]
    · rw [loopO_stop (yW hlt (by rw [ha]; exact h0)), ha]
      simp [List.find?, h0]
theorem or6 (a b c d e f : Int) : fP [a, b, c, d, e, f] = some (if a ≠ 0 then a else if b ≠ 0 then b else if c ≠ 0 then c else if d ≠ 0 then d else if e ≠ 0 then e else f) := by
  unfold fP
  have := or_go (l := [a, b, c, d, e, f]) (n := 0) (r := [a, b, c, d, e, f]) (by simp) (by simp) rfl
  rw [show ((0 : Int)) = ((0 : Nat) : Int) from rfl, this]
  by_cases ha : a = 0 <;> by_cases hb : b = 0 <;> by_cases hc : c = 0 <;> by_cases hd : d = 0 <;> by_cases he : e = 0 <;> by_cases hf : f = 0 <;> simp [List.find?, ha, hb, hc, hd, he, hf]
end Sd
open Sd (tU sQ sI)
def kd (a b : Pick) : Int := if tU a.al b.al ≠ 0 then tU a.al b.al else if cmpI a.aN b.aN ≠ 0 then cmpI a.aN b.aN else if cmpI a.aH b.aH ≠ 0 then cmpI a.aH b.aH else if cmpI a.aY b.aY ≠ 0 then cmpI a.aY b.aY else if cmpI a.aI b.aI ≠ 0 then cmpI a.aI b.aI else cmpI a.aJ b.aJ
theorem nO (a b : Pick) : bz a b = some (kd a b) := by
  unfold bz
  simp only [Sd.nO, Sd.cmp_int, Option.bind_some, Sd.or6]
  rfl
theorem gJ : Tot kd := (sQ.map fun x : Pick => x.al).or ((cmpI_tot.map fun x : Pick => x.aN).or ((cmpI_tot.map fun x : Pick => x.aH).or ((cmpI_tot.map fun x : Pick => x.aY).or ((cmpI_tot.map fun x : Pick => x.aI).or (cmpI_tot.map fun x : Pick => x.aJ)))))
theorem wX {a b : Int} (h : (if a ≠ 0 then a else b) = 0) : a = 0 ∧ b = 0 := by
  by_cases h1 : a = 0
  · rw [if_neg (by simpa using h1)] at h; exact ⟨h1, h⟩
  · rw [if_pos h1] at h; exact (h1 h).elim
theorem xq {a b : Pick} (h : kd a b = 0) : a = b := by
  unfold kd at h
  obtain ⟨h1, h⟩ := wX h
  obtain ⟨h2, h⟩ := wX h
  obtain ⟨h3, h⟩ := wX h
  obtain ⟨h4, h⟩ := wX h
  obtain ⟨h5, h6⟩ := wX h
  rw [cmpI_zero] at h2 h3 h4 h5 h6
  have := sI h1
  obtain ⟨a1, a2, a3, a4, a5, a6⟩ := a
  obtain ⟨b1, b2, b3, b4, b5, b6⟩ := b
  simp only at *
  subst this h2 h3 h4 h5 h6
  rfl
theorem lt3_eq : lt3 bz = fun x y => decide (kd x y < 0) := by
  funext x y
  unfold lt3
  rw [nO]; rfl
theorem Compare_ok : CmpOk bz := ⟨fun x y => ⟨_, nO x y⟩, by rw [lt3_eq]; exact gJ.swo⟩
instance : DecidableEq Pick := fun a b => decidable_of_iff (a.al = b.al ∧ a.aN = b.aN ∧ a.aH = b.aH ∧ a.aY = b.aY ∧ a.aI = b.aI ∧ a.aJ = b.aJ) (by
  obtain ⟨a1, a2, a3, a4, a5, a6⟩ := a
  obtain ⟨b1, b2, b3, b4, b5, b6⟩ := b
  simp)
def eqF (a b : Pick) : Bool := ((a.al.aB == b.al.aB) && ((a.al.aA == b.al.aA) && ((a.al.aw == b.al.aw) && ((a.al.aC == b.al.aC) && true)))) && ((a.aN == b.aN) && ((a.aH == b.aH) && ((a.aY == b.aY) && ((a.aI == b.aI) && ((a.aJ == b.aJ) && true)))))
theorem eqs (a b : Pick) : eqF a b = decide (a = b) := by
  obtain ⟨a1, a2, a3, a4, a5, a6⟩ := a
  obtain ⟨b1, b2, b3, b4, b5, b6⟩ := b
  unfold eqF
  simp only [Sd.eqs, aa.mk.injEq]
  by_cases e1 : a1 = b1 <;> by_cases e2 : a2 = b2 <;> by_cases e3 : a3 = b3 <;> by_cases e4 : a4 = b4 <;> by_cases e5 : a5 = b5 <;> by_cases e6 : a6 = b6 <;> simp [e1, e2, e3, e4, e5, e6]
theorem sub_take {α σ ω : Type} (l : List α) (k : Int) : ((subO l.length 0 k).bind fun _ => some (Step1.stop (Sum.inr (l.take k.toNat)) : Step1 σ (ω ⊕ List α))) = ((subO l.length 0 k).bind fun _ => (partO l (0 + Int.toNat 0) (0 + k.toNat)).bind fun x => some (Step1.stop (Sum.inr x))) := by
  unfold subO
  split
  · rename_i h
    rw [Option.bind_some, Option.bind_some, partO_at (by omega) (by omega)]
    simp
  · rfl
theorem Compact_eq (l : List Pick) : c8 l = compactG eqF ⟨⟨[], [], [], []⟩, 0, 0, 0, 0, 0⟩ l := by
  have h1 : gC = compactG_l31 eqF := by funext s d ⟨a, b, c⟩; rfl
  have h2 : eN = compactG_l38 eqF ⟨⟨[], [], [], []⟩, 0, 0, 0, 0, 0⟩ := by
    funext d s
    unfold eN compactG_l38
    rw [h1]
    simp only [sub_take]
    rfl
  unfold c8 compactG
  rw [h2]
  refine ite_congr rfl (fun _ => rfl) fun _ => ?_
  refine congrArg _ (funext fun o => ?_)
  rcases o with _ | _ <;> rfl
theorem sort_at {l : List Pick} (hl : l.length ≤ 1000) : ∃ m, sortO bz l = some m ∧ m.Perm l ∧ m.Pairwise (fun x y => kd x y ≤ 0) := by
  have h2 := sortO_mergeSort Compare_ok (fun x y h h' => by
    rw [lt3_eq] at h h'
    simp only [decide_eq_false_iff_not] at h h'
    have := gJ.anti x y
    exact xq (by omega)) l (by omega)
  generalize hm : (l.mergeSort fun x y => !lt3 bz y x) = m at h2
  refine ⟨m, h2, sortO_perm h2, ?_⟩
  rw [← hm]
  refine (List.pairwise_mergeSort ?_ ?_ l).imp ?_
  · intro a b c h h'
    rw [lt3_eq] at *
    simp only [Bool.not_eq_true', decide_eq_false_iff_not] at *
    have := gJ.tr a b c (by have := gJ.anti a b; omega) (by have := gJ.anti b c; omega)
    have := gJ.anti a c; omega
  · intro a b
    rw [lt3_eq]
    have := gJ.anti a b
    by_cases h : kd b a < 0
    · have : ¬ kd a b < 0 := by omega
      simp [this]
    · simp [h]
  · intro a b h
    rw [lt3_eq] at h
    simp only [Bool.not_eq_true', decide_eq_false_iff_not] at h
    have := gJ.anti a b; omega
theorem Sort_eq {l : List Pick} (hl : l.length ≤ 1000) :
    ∃ r, jl l = some r ∧ r.Pairwise (fun x y => kd x y < 0) ∧ (∀ x, x ∈ r ↔ x ∈ l) ∧ r.length ≤ l.length := by
  have h1 : cloneO 104 l = some l := by
    unfold cloneO
    rw [if_pos (by omega)]
  obtain ⟨m, h2, hp, hs⟩ := sort_at hl
  have hml : m.length = l.length := hp.length_eq
  have h3 : c8 m = some (cpt m) := by
    rw [Compact_eq]
    exact compact_at (fun x y => eqs x y) (by omega)
  refine ⟨cpt m, ?_, cpt_pairwise gJ (fun x y => xq) hs, fun x => cpt_mem.trans hp.mem_iff, by have := cpt_length m; omega⟩
  unfold jl
  rw [h1, Option.bind_some, h2, Option.bind_some, h3]; rfl
end Go.Dw.De


set_option maxRecDepth 100000
set_option maxHeartbeats 4000000
namespace Go.Dw.De
open Go.Dw

theorem get1 {α : Type} (A : List α) (y : α) (T : List α) {n : Int} (hn : n = A.length) : getO (A ++ y :: T) n = some y := by
  rw [getO_at (i := A.length) hn (by simp)]
  simp
theorem get2 {α : Type} (A : List α) (y x : α) (T : List α) {n : Int} (hn : n = A.length + 1) : getO (A ++ y :: x :: T) n = some x := by
  have := get1 (A ++ [y]) x T (n := n) (by simp; omega)
  simpa using this
theorem set1 {α : Type} (A : List α) (y z : α) (T : List α) {n : Int} (hn : n = A.length) : setO (A ++ y :: T) n z = some (A ++ z :: T) := by
  rw [setO_at (i := A.length) hn (by simp)]
  simp
theorem set2 {α : Type} (A : List α) (y x z : α) (T : List α) {n : Int} (hn : n = A.length + 1) : setO (A ++ y :: x :: T) n z = some (A ++ y :: z :: T) := by
  have := set1 (A ++ [y]) x z T (n := n) (by simp; omega)
  simpa using this

def le1 (x y : Pick) : Prop := x.aH ≤ y.aH
theorem lit1_eq (a b : Pick) : bW a b = some (cmpI a.aH b.aH) := by
  unfold bW
  rw [Sd.cmp_int]; rfl
theorem cmpI_neg {a b : Int} : cmpI a b < 0 ↔ a < b := by
  unfold cmpI
  by_cases h1 : a < b
  · simp [h1]
  · by_cases h2 : a > b <;> simp [h1, h2]
theorem inner_ok (i : Nat) (L C : List Pick) (x : Pick) (hL : L.Pairwise le1) (hl : L.length ≤ 1000) :
    Ok (loopO (bJ 0 (i : Int)) ((L.length : Int), L ++ x :: C)) (fun o => o.1 = i ∧ ∃ D, o.2 = D ++ C ∧ D.Perm (x :: L) ∧ D.Pairwise le1) := by
  refine Ok.loop (fun s => ∃ A B : List Pick, s = ((A.length : Int), A ++ x :: (B ++ C)) ∧ A ++ B = L ∧ ∀ b ∈ B, le1 x b) (fun s => s.1.toNat) ?_ ⟨L, [], by simp, by simp, by simp⟩
  rintro s ⟨A, B, rfl, hAB, hB⟩
  have hAl : A.length ≤ 1000 := by have := congrArg List.length hAB; simp at this; omega
  have hdone : (∀ a ∈ A, le1 a x) → Ok (some (Step1.stop ((i : Int), A ++ x :: (B ++ C)))) (Ok.S (fun s => ∃ A B : List Pick, s = ((A.length : Int), A ++ x :: (B ++ C)) ∧ A ++ B = L ∧ ∀ b ∈ B, le1 x b) (fun s => s.1.toNat) (fun o : Int × List Pick => o.1 = i ∧ ∃ D, o.2 = D ++ C ∧ D.Perm (x :: L) ∧ D.Pairwise le1) ((A.length : Int), A ++ x :: (B ++ C))) := by
    intro hA
    refine Ok.st ⟨rfl, A ++ x :: B, by simp, ?_, ?_⟩
    · rw [← hAB]; exact List.perm_middle
    · rw [← hAB] at hL
      obtain ⟨p1, p2, p3⟩ := List.pairwise_append.1 hL
      refine List.pairwise_append.2 ⟨p1, List.pairwise_cons.2 ⟨hB, p2⟩, fun a ha b hb => ?_⟩
      rcases List.mem_cons.1 hb with rfl | hb
      · exact hA a ha
      · exact p3 a ha b hb
  unfold bJ
  dsimp only
  refine Ok.iteD (fun hgt => ?_) (fun hle => ?_)
  rotate_left
  · have : A = [] := List.eq_nil_of_length_eq_zero (by omega)
    subst this
    exact hdone (by simp)
  rcases List.eq_nil_or_concat A with rfl | ⟨A', y, rfl⟩
  · simp at hgt
  simp only [List.length_append, List.length_cons, List.length_nil, List.append_assoc, List.cons_append, List.nil_append, List.concat_eq_append] at hAl hgt hdone ⊢
  have hw : IntKind.wrap .i64 (((A'.length + (0 + 1) : Nat) : Int) - 1) = (A'.length : Int) := by rw [w64 (by omega) (by omega)]; omega
  rw [hw]
  have hin : inO (A' ++ y :: x :: (B ++ C)) ((A'.length + (0 + 1) : Nat) : Int) = some () := inO_at (by omega) (by simp; omega)
  have hin2 : ∀ z, inO (A' ++ y :: z :: (B ++ C)) (A'.length : Int) = some () := fun z => inO_at (by omega) (by simp; omega)
  rw [hin, Option.bind_some, get2 A' y x (B ++ C) (by omega), Option.bind_some, hin2, Option.bind_some, get1 A' y _ rfl, Option.bind_some, lit1_eq, Option.bind_some]
  refine Ok.iteD (fun hlt => ?_) (fun hge => ?_)
  · rw [Option.bind_some, Option.bind_some, Option.bind_some, Option.bind_some, Option.bind_some, set2 A' y x y (B ++ C) (by omega), Option.bind_some, hin2, Option.bind_some, set1 A' y x _ rfl, Option.bind_some]
    rw [cmpI_neg] at hlt
    refine Ok.nx ⟨A', y :: B, rfl, by simpa using hAB, fun b hb => ?_⟩ (by simp only; omega)
    rcases List.mem_cons.1 hb with rfl | hb
    · exact Int.le_of_lt hlt
    · exact hB b hb
  · refine hdone fun a ha => ?_
    rw [cmpI_neg] at hge
    have hy : le1 y x := Int.not_lt.1 hge
    rw [List.mem_append, List.mem_singleton] at ha
    rcases ha with ha | rfl
    · have : (A' ++ (y :: B)).Pairwise le1 := by
        have := hL
        rw [← hAB] at this
        simpa using this
      have := (List.pairwise_append.1 this).2.2 a ha y (by simp)
      exact Int.le_trans this hy
    · exact hy
theorem yQ (d : List Pick) (hd : d.length ≤ 1000) : Ok (bc 0 (d.length : Int) d) (fun r => r.Perm d ∧ r.Pairwise le1) := by
  unfold bc
  rw [w64 (n := 0 + 1) (by omega) (by omega)]
  refine Ok.bind (P := fun r => r.Perm d ∧ r.Pairwise le1) (Ok.loop (fun s => ∃ (D C : List Pick), s = (((if d = [] then 1 else D.length : Nat) : Int), D ++ C) ∧ (D ++ C).Perm d ∧ D.Pairwise le1 ∧ (d ≠ [] → 1 ≤ D.length)) (fun s => ((d.length : Int) - s.1).toNat) ?_ ?_) (fun o ho => Ok.ret ho)
  · rintro s ⟨D, C, rfl, hp, hs, h1⟩
    unfold bA
    dsimp only
    have hpl : D.length + C.length = d.length := by have := hp.length_eq; simpa using this
    refine Ok.iteD (fun hlt => ?_) (fun hge => ?_)
    · have hne : d ≠ [] := fun e => by subst e; simp at hlt
      rw [if_neg hne] at hlt ⊢
      rcases C with _ | ⟨x, C⟩
      · simp at hpl; omega
      refine Ok.bind (inner_ok D.length D C x hs (by omega)) (fun o ho => ?_)
      obtain ⟨o1, D', o2, o3, o4⟩ := ho
      rw [o1, o2, w64 (by omega) (by omega)]
      have hl' : D'.length = D.length + 1 := by have := o3.length_eq; simpa using this
      refine Ok.nx ⟨D', C, ?_, ?_, o4, fun _ => by omega⟩ (by simp only; omega)
      · rw [if_neg hne, hl']; simp
      · exact ((o3.append_right C).trans (by simpa using List.perm_middle.symm)).trans hp
    · rw [Option.bind_some]
      refine Ok.st ⟨hp, ?_⟩
      by_cases hne : d = []
      · subst hne
        have := hp.length_eq
        have : D ++ C = [] := List.eq_nil_of_length_eq_zero (by simpa using this)
        rw [this]; exact .nil
      · rw [if_neg hne] at hge
        have : C = [] := List.eq_nil_of_length_eq_zero (by omega)
        subst this
        simpa using hs
  · by_cases hne : d = []
    · subst hne
      exact ⟨[], [], by simp, .refl _, .nil, fun h => (h rfl).elim⟩
    · refine ⟨d.take 1, d.drop 1, ?_, by rw [List.take_append_drop], ?_, fun _ => ?_⟩
      · rw [if_neg hne, List.take_append_drop]
        have := List.length_pos_iff.2 hne
        simp; omega
      · rcases d with _ | ⟨a, d⟩
        · exact (hne rfl).elim
        · simp
      · have := List.length_pos_iff.2 hne
        simp; omega
theorem insertion_end (n : Nat) (hn : n ≤ 1000) (d : List Pick) : bc (n : Int) (n : Int) d = some d := by
  unfold bc
  rw [w64 (by omega) (by omega)]
  have : bA (n : Int) (n : Int) ((n : Int) + 1, d) = some (.stop d) := by
    unfold bA
    dsimp only
    rw [if_neg (by simp; omega)]; rfl
  rw [loopO_stop this]; rfl
theorem stable_ok (d : List Pick) (hd : d.length ≤ 20) : Ok (bK d) (fun r => r.Perm d ∧ r.Pairwise le1) := by
  unfold bK
  refine Ok.bind (P := fun r => r.Perm d ∧ r.Pairwise le1) ?_ (fun o ho => Ok.ret ho)
  unfold cI
  have hend : ∀ r : List Pick, loopO (cj (d.length : Int)) ((20 : Int), r) = some r := fun r => by
    refine loopO_stop ?_
    unfold cj
    dsimp only
    rw [if_neg (by simp; omega)]; rfl
  by_cases h20 : d.length = 20
  · have e1 : bp (d.length : Int) ((0 : Int), (20 : Int), d) = (bc 0 (d.length : Int) d).bind fun x8 => some (.next ((20 : Int), (40 : Int), x8)) := by
      unfold bp
      dsimp only
      rw [if_pos (by simp; omega), w64 (by omega) (by omega)]
      rw [h20]; rfl
    obtain ⟨r, e2, hr⟩ := yQ d (by omega)
    rw [e2, Option.bind_some] at e1
    have e3 : bp (d.length : Int) ((20 : Int), (40 : Int), r) = some (.stop ((20 : Int), r)) := by
      unfold bp
      dsimp only
      rw [if_neg (by simp; omega)]
    rw [loopO_next e1, loopO_stop e3, Option.bind_some]
    dsimp only
    have e4 := insertion_end 20 (by omega) r
    rw [h20] at hend ⊢
    rw [show ((20 : Nat) : Int) = 20 from rfl] at e4 hend ⊢
    rw [e4, Option.bind_some, hend]
    exact Ok.ret hr
  · have e3 : bp (d.length : Int) ((0 : Int), (20 : Int), d) = some (.stop ((0 : Int), d)) := by
      unfold bp
      dsimp only
      rw [if_neg (by simp; omega)]
    rw [loopO_stop e3, Option.bind_some]
    dsimp only
    refine Ok.bind (yQ d (by omega)) (fun r hr => ?_)
    rw [hend]
    exact Ok.ret hr

theorem lastO_snoc {α : Type} (O : List α) (g : α) : lastO (O ++ [g]) = some g := by
  unfold lastO
  simp
theorem tail_eq (O : List (List Pick)) (g : List Pick) (p : Pick) (i : Int) (hO : O.length ≤ 1000) (hg : g.length ≤ 1000) :
    ((lastO (O ++ [g])).bind fun x13 => (inO (O ++ [g]) (IntKind.wrap .i64 (((O ++ [g]).length : Int) - (1 : Int)))).bind fun x14 => (atO (IntKind.wrap .i64 (((O ++ [g]).length : Int) - (1 : Int))) ((O ++ [g]).length - 1)).bind fun x15 => (appO x13 [p] 104).bind fun x16 => (inO (O ++ [g]) (IntKind.wrap .i64 (((O ++ [g]).length : Int) - (1 : Int)))).bind fun x17 => (stO (O ++ [g]).length (IntKind.wrap .i64 (((O ++ [g]).length : Int) - (1 : Int))) ((O ++ [g]).length - 1)).bind fun x18 => some (Step1.next (IntKind.wrap .i64 (i + (1 : Int)), (O ++ [g]).set ((O ++ [g]).length - 1) x16) : Step1 (Int × List (List Pick)) (List (List Pick))))
      = some (.next (IntKind.wrap .i64 (i + 1), O ++ [g ++ [p]])) := by
  have hl : (O ++ [g]).length = O.length + 1 := by simp
  have hw : IntKind.wrap .i64 (((O ++ [g]).length : Int) - 1) = (O.length : Int) := by rw [hl, w64 (by omega) (by omega)]; omega
  rw [hw, lastO_snoc, Option.bind_some, inO_at (by omega) (by rw [hl]; omega), Option.bind_some, hl]
  have ha : atO (O.length : Int) (O.length + 1 - 1) = some () := by unfold atO; rw [if_pos (by simp)]
  have hs : stO (O.length + 1) (O.length : Int) (O.length + 1 - 1) = some () := by unfold stO; rw [if_pos (by simp)]
  rw [ha, Option.bind_some, sq (by simp only [List.length_cons, List.length_nil]; omega), Option.bind_some, Option.bind_some, hs, Option.bind_some]
  simp
def Gap (far : Int) (g h : List Pick) : Prop := ∀ b ∈ g, ∀ a ∈ h, far < a.aH - b.aH
structure BI (far : Int) (all : List Pick) (i : Nat) (out : List (List Pick)) : Prop where
  flat : out.flatten = all.take i
  ne : ∀ g ∈ out, g ≠ []
  gap : out.Pairwise (Gap far)
  pos : 0 < i → out ≠ []
theorem len_le {out : List (List Pick)} (h : ∀ g ∈ out, g ≠ []) : out.length ≤ out.flatten.length := by
  induction out with
  | nil => simp
  | cons g out ih =>
    have := List.length_pos_iff.2 (h g (by simp))
    have := ih fun g hg => h g (by simp [hg])
    rw [List.flatten_cons, List.length_append, List.length_cons]; omega
theorem l36_ok (far : Int) (all : List Pick) (hl : all.length ≤ 1000) (hs : all.Pairwise le1) (hr : ∀ p ∈ all, 0 ≤ p.aH ∧ p.aH ≤ 18014398509481984) :
    Ok (loopO (dB all far) ((0 : Int), [])) (BI far all all.length) := by
  refine Ok.loop (fun s => ∃ i : Nat, s.1 = i ∧ i ≤ all.length ∧ BI far all i s.2) (fun s => ((all.length : Int) - s.1).toNat) ?_ ⟨0, rfl, Nat.zero_le _, ⟨by simp, by simp, .nil, fun h => by omega⟩⟩
  rintro ⟨s3, out⟩ ⟨i, rfl, hi, hB⟩
  unfold dB
  dsimp only
  refine Ok.iteD (fun hlt => ?_) (fun hge => ?_)
  rotate_left
  · have : i = all.length := by omega
    subst this
    exact Ok.st hB
  have hlt : i < all.length := by omega
  have hol : out.length ≤ 1000 := by have := len_le hB.ne; rw [hB.flat] at this; simp at this; omega
  have hgl : ∀ g ∈ out, g.length ≤ 1000 := fun g hg => by
    have h1 := (List.sublist_flatten_of_mem hg).length_le
    rw [hB.flat] at h1; simp at h1; omega
  have htake : all.take (i + 1) = all.take i ++ [all[i]] := take_succ_at hlt
  have hmem : ∀ g ∈ out, ∀ b ∈ g, ∃ j, ∃ h : j < i, all[j]'(by omega) = b := fun g hg b hb => by
    have : b ∈ all.take i := by rw [← hB.flat]; exact List.mem_flatten.2 ⟨g, hg, hb⟩
    obtain ⟨j, hj, e⟩ := List.getElem_of_mem this
    simp only [List.length_take] at hj
    rw [List.getElem_take] at e
    exact ⟨j, by omega, e⟩
  have hord : ∀ {j k : Nat} (hk : k < all.length) (hjk : j ≤ k), (all[j]'(by omega)).aH ≤ all[k].aH := fun {j k} hk hjk => by
    by_cases e : j = k
    · subst e; exact Int.le_refl _
    · exact List.pairwise_iff_getElem.1 hs j k (by omega) hk (by omega)
  have hnew : (0 < i → ∃ h : i - 1 < all.length, far < all[i].aH - (all[i - 1]'h).aH) → BI far all (i + 1) (out ++ [[all[i]]]) := fun hg => by
    refine ⟨by rw [List.flatten_append, hB.flat, htake]; simp, fun g hg' => ?_, List.pairwise_append.2 ⟨hB.gap, List.pairwise_singleton _ _, fun g hg' h hh => ?_⟩, fun _ => by simp⟩
    · rcases List.mem_append.1 hg' with hg' | hg'
      · exact hB.ne g hg'
      · rw [List.mem_singleton] at hg'; subst hg'; simp
    · rw [List.mem_singleton] at hh
      subst hh
      intro b hb a ha
      rw [List.mem_singleton] at ha
      subst ha
      obtain ⟨j, hj, rfl⟩ := hmem g hg' b hb
      obtain ⟨h1, h2⟩ := hg (by omega)
      have := hord (j := j) (k := i - 1) h1 (by omega)
      omega
  rw [inO_at (by omega) (by omega), Option.bind_some, getO_at (i := i) rfl hlt, Option.bind_some]
  have happ : appO out [[]] 24 = some (out ++ [[]]) := sq (by simp only [List.length_cons, List.length_nil]; omega)
  refine Ok.iteE (fun h0 => ?_) (fun h0 => ?_)
  · have h0 : i = 0 := by omega
    rw [happ, Option.bind_some, tail_eq out [] all[i] i hol (by simp), w64 (by omega) (by omega)]
    refine Ok.nx ⟨i + 1, by simp, by omega, ?_⟩ (by simp only; omega)
    simpa using hnew fun h => by omega
  · have h0 : 0 < i := by omega
    have hi1 : i - 1 < all.length := by omega
    rw [w64 (n := (i : Int) - 1) (by omega) (by omega), inO_at (by omega) (by omega), Option.bind_some, getO_at (i := i - 1) (by omega) hi1, Option.bind_some]
    have r1 := hr _ (List.getElem_mem hlt)
    have r2 := hr _ (List.getElem_mem hi1)
    rw [w64 (n := all[i].aH - (all[i - 1]'hi1).aH) (by omega) (by omega)]
    refine Ok.iteD (fun hfar => ?_) (fun hnear => ?_)
    · rw [happ, Option.bind_some, tail_eq out [] all[i] i hol (by simp), w64 (by omega) (by omega)]
      refine Ok.nx ⟨i + 1, by simp, by omega, ?_⟩ (by simp only; omega)
      simpa using hnew fun _ => ⟨hi1, by omega⟩
    · rcases List.eq_nil_or_concat out with rfl | ⟨O, g, rfl⟩
      · exact (hB.pos h0 rfl).elim
      rw [List.concat_eq_append] at hB hol hgl hmem ⊢
      have hgne := hB.ne g (by simp)
      rw [tail_eq O g all[i] i (by simp at hol; omega) (hgl g (by simp)), w64 (by omega) (by omega)]
      refine Ok.nx ⟨i + 1, by simp, by omega, ?_⟩ (by simp only; omega)
      obtain ⟨p1, p2, p3⟩ := List.pairwise_append.1 hB.gap
      refine ⟨?_, fun g' hg' => ?_, List.pairwise_append.2 ⟨p1, List.pairwise_singleton _ _, fun u hu h hh => ?_⟩, fun _ => by simp⟩
      · have := hB.flat
        simp only [List.flatten_append, List.flatten_cons, List.flatten_nil, List.append_nil] at this ⊢
        rw [htake, ← this, List.append_assoc]
      · rcases List.mem_append.1 hg' with hg' | hg'
        · exact hB.ne g' (by simp [hg'])
        · rw [List.mem_singleton] at hg'; subst hg'; simp
      · rw [List.mem_singleton] at hh
        subst hh
        intro b hb a ha
        rcases List.mem_append.1 ha with ha | ha
        · exact p3 u hu g (by simp) b hb a ha
        · rw [List.mem_singleton] at ha
          subst ha
          rcases g with _ | ⟨c, g⟩
          · exact (hgne rfl).elim
          have h1 := p3 u hu (c :: g) (by simp) b hb c (by simp)
          obtain ⟨j, hj, e⟩ := hmem (c :: g) (by simp) c (by simp)
          have := hord (j := j) (k := i) hlt (by omega)
          rw [e] at this
          omega
theorem l47_ok (out : List (List Pick)) (hl : out.length ≤ 1000) (hg : ∀ g ∈ out, g.length ≤ 1000) :
    Ok (loopO (cw out) ((0 : Int), out)) (fun x => x.length = out.length ∧ ∀ (j : Nat) (h : j < x.length) (h' : j < out.length), x[j].Perm out[j] ∧ x[j].Pairwise (fun a b => kd a b ≤ 0)) := by
  refine Ok.loop (fun s => ∃ i : Nat, s.1 = i ∧ i ≤ out.length ∧ s.2.length = out.length ∧ ∀ (j : Nat) (h : j < s.2.length) (h' : j < out.length), s.2[j].Perm out[j] ∧ (j < i → s.2[j].Pairwise (fun a b => kd a b ≤ 0))) (fun s => ((out.length : Int) - s.1).toNat) ?_ ⟨0, rfl, Nat.zero_le _, rfl, fun j h h' => ⟨.refl _, fun h => by omega⟩⟩
  rintro ⟨s1, cur⟩ ⟨i, rfl, hi, hlen, hc⟩
  unfold cw
  dsimp only at hlen hc ⊢
  refine Ok.iteD (fun hlt => ?_) (fun hge => ?_)
  rotate_left
  · exact Ok.st ⟨hlen, fun j h h' => ⟨(hc j h h').1, (hc j h h').2 (by omega)⟩⟩
  have hlt : i < out.length := by omega
  have hic : i < cur.length := by omega
  have hat : atO (i : Int) (Int.toNat (i : Int)) = some () := by unfold atO; rw [if_pos rfl]
  obtain ⟨hp, -⟩ := hc i hic hlt
  have hcl : cur[i].length ≤ 1000 := by rw [hp.length_eq]; exact hg _ (List.getElem_mem hlt)
  obtain ⟨m, e1, e2, e3⟩ := sort_at hcl
  rw [getO_at (i := i) rfl hic, Option.bind_some, inO_at (by omega) (by omega), Option.bind_some, hat, Option.bind_some, e1, Option.bind_some, w64 (by omega) (by omega)]
  refine Ok.nx ⟨i + 1, by simp, by omega, by simpa using hlen, fun j h h' => ?_⟩ (by simp only; omega)
  simp only [Int.toNat_natCast, List.length_set] at h ⊢
  rw [List.getElem_set]
  by_cases hij : i = j
  · subst hij
    rw [if_pos rfl]
    exact ⟨e2.trans hp, fun _ => e3⟩
  · rw [if_neg hij]
    exact ⟨(hc j h h').1, fun hj => (hc j h h').2 (by omega)⟩
theorem yP : ∀ {x y : List (List Pick)}, x.length = y.length → (∀ (j : Nat) (h : j < x.length) (h' : j < y.length), x[j].Perm y[j]) → x.flatten.Perm y.flatten
  | [], [], _, _ => .refl _
  | [], _ :: _, h, _ => by simp at h
  | _ :: _, [], h, _ => by simp at h
  | g :: x, k :: y, h, hp => by
    have h0 := hp 0 (by simp) (by simp)
    have := yP (x := x) (y := y) (by simpa using h) fun j h1 h2 => hp (j + 1) (by simp; omega) (by simp; omega)
    simpa using h0.append this
structure xm (far : Int) (l : List Pick) (x : List (List Pick)) : Prop where
  flat : ∃ s : List Pick, jl l = some s ∧ s.length ≤ l.length ∧ s.Pairwise (fun a b => kd a b < 0) ∧ (∀ p, p ∈ s ↔ p ∈ l) ∧ x.flatten.Perm s
  ne : ∀ g ∈ x, g ≠ []
  gap : x.Pairwise (Gap far)
  sorted : ∀ g ∈ x, g.Pairwise (fun a b => kd a b < 0)
theorem yg (far : Int) (l : List Pick) (hl : l.length ≤ 20) (hr : ∀ p ∈ l, j9 p) : Ok (cC far l) (xm far l) := by
  unfold cC
  obtain ⟨s, e1, e2, e3, e4⟩ := Sort_eq (l := l) (by omega)
  rw [e1, Option.bind_some]
  refine Ok.bind (stable_ok s (by omega)) (fun all ha => ?_)
  have hal : all.length = s.length := ha.1.length_eq
  refine Ok.bind (l36_ok far all (by omega) ha.2 fun p hp => ?_) (fun out hB => ?_)
  · have := hr p ((e3 p).1 (ha.1.mem_iff.1 hp))
    exact ⟨this.2.1, by have := this.2.2; omega⟩
  have hflat : out.flatten = all := by rw [hB.flat]; simp
  have hol : out.length ≤ 1000 := by have := len_le hB.ne; rw [hflat] at this; omega
  refine Ok.bind (l47_ok out hol fun g hg => ?_) (fun x hx => ?_)
  · have h1 := (List.sublist_flatten_of_mem hg).length_le
    rw [hflat] at h1; omega
  obtain ⟨hxl, hxp⟩ := hx
  have hperm : x.flatten.Perm s := (yP hxl fun j h h' => (hxp j h h').1).trans (by rw [hflat]; exact ha.1)
  have hnd : s.Nodup := e2.imp fun {a b} h e => by
    subst e
    have := gJ.refl a
    omega
  refine Ok.ret ⟨⟨s, e1, by omega, e2, e3, hperm⟩, fun g hg => ?_, ?_, fun g hg => ?_⟩
  · obtain ⟨j, hj, rfl⟩ := List.getElem_of_mem hg
    have h1 := (hxp j hj (by omega)).1
    intro e
    rw [e] at h1
    exact hB.ne _ (List.getElem_mem (by omega)) h1.nil_eq.symm
  · rw [List.pairwise_iff_getElem]
    intro j k hj hk hjk b hb a ha'
    have h1 := List.pairwise_iff_getElem.1 hB.gap j k (by omega) (by omega) hjk
    exact h1 b ((hxp j hj (by omega)).1.mem_iff.1 hb) a ((hxp k hk (by omega)).1.mem_iff.1 ha')
  · obtain ⟨j, hj, rfl⟩ := List.getElem_of_mem hg
    have h1 := (hxp j hj (by omega)).2
    have hn : x[j].Nodup := (hperm.nodup_iff.2 hnd).sublist (List.sublist_flatten_of_mem (List.getElem_mem hj))
    refine (h1.and hn).imp fun {a b} h => ?_
    obtain ⟨h2, h3⟩ := h
    rcases Int.lt_or_eq_of_le h2 with h4 | h4
    · exact h4
    · exact (h3 (xq h4)).elim
end Go.Dw.De




set_option maxRecDepth 100000
set_option maxHeartbeats 4000000
namespace Go.Dw.De
open Go.Dw Go.Proofs

theorem sid_len {x : Sid} (h : So.xl x = true) : So.SidLen x := by
  obtain ⟨h1, h2, h3, h4⟩ := So.valid_len h
  exact ⟨by omega, by omega, by omega, by omega⟩
theorem valid_pick {p : Pick} (h : j9 p) : eM p = some true := by
  obtain ⟨h0, h1, h2, h3, h4, h5, h6, h7, h8⟩ := h
  unfold eM
  rw [So.Valid_eq (sid_len h0), h0, Option.bind_some, if_pos rfl, if_pos (by simpa using h1), if_pos (by simpa using h2), if_pos (by simpa using h3), if_pos (by simpa using h4)]
  have e1 : mr p.aI 0 1073741823 = some true := by unfold mr; rw [if_pos (by simpa using h5)]; simpa using h6
  have e2 : mr p.aJ (-1) 1 = some true := by unfold mr; rw [if_pos (by simpa using h7)]; simpa using h8
  rw [e1, Option.bind_some, if_pos rfl, e2]; rfl
theorem xz {l : List Pick} (hl : l.length ≤ 1000) (h : ∀ p ∈ l, j9 p) : dC l = some true := by
  unfold dC cO dq
  have : Ok (loopO (cP l) (0 : Int)) (fun o => o = .inl ()) := by
    refine Ok.upto l.length (by omega) (fun _ => True) trivial (fun i h0 h1 _ => ?_)
    unfold cP
    refine Ok.iteD (fun hlt => ?_) (fun _ => Ok.st rfl)
    refine Ok.bind (Ok.get (by omega) (by omega)) (fun p hp => ?_)
    unfold fK
    rw [valid_pick (h p hp.1), Option.bind_some, Option.bind_some, if_neg (by simp), w64 (by omega) (by omega)]
    exact Ok.nx ⟨⟨by omega, by omega⟩, trivial⟩ (by omega)
  rw [this.eq]; rfl
theorem Batches_ok (n : Int) (h0 : 0 ≤ n) (h1 : n ≤ 1099511627776) (l : List Pick) (hl : l.length ≤ 20) (hr : ∀ p ∈ l, j9 p) : Ok (b7 n l) (fun r => r.2 = 0 ∧ xm n l r.1) := by
  unfold b7
  refine Ok.iteD (fun _ => by omega) (fun _ => Ok.iteD (fun _ => by omega) (fun _ => ?_))
  rw [xz (by omega) hr, Option.bind_some, if_neg (by simp)]
  exact Ok.bind (yg n l hl hr) fun x hx => Ok.ret ⟨rfl, hx⟩

def P (t : Int) : Pick := ⟨⟨[65, 66], [83, 49], [48, 48], [66, 72, 90]⟩, t, t, t, 0, 0⟩
def S1 : Sid := ⟨[65, 66], [83, 49], [48, 48], [66, 72, 90]⟩
theorem pick_at (t : Int) : fS t = some (P t) := by
  have : fu (0 : Int) = some S1 := by kernel_rfl
  unfold fS
  rw [this]; rfl
theorem sortP {a : Pick} {l r : List Pick} (hl : (a :: l).length < 4611686018427387904)
    (h : (haveI : Inhabited Pick := ⟨a⟩; (Sort.pdq (fun x y => decide (kd x y < 0)) (a :: l).toArray 0 (a :: l).length (Lib.bitLen (a :: l).length) true true).toList) = r) : sortO bz (a :: l) = some r := by
  rw [sortO_cons, if_pos ⟨Compare_ok, hl⟩, lt3_eq, ← h]
theorem lt3S : lt3 co = fun x y => decide (Sd.tU x y < 0) := by
  funext x y
  unfold lt3
  rw [Sd.nO]; rfl
theorem sortS {a : Sid} {l r : List Sid} (hl : (a :: l).length < 4611686018427387904)
    (h : (haveI : Inhabited Sid := ⟨a⟩; (Sort.pdq (fun x y => decide (Sd.tU x y < 0)) (a :: l).toArray 0 (a :: l).length (Lib.bitLen (a :: l).length) true true).toList) = r) : sortO co (a :: l) = some r := by
  rw [sortO_cons, if_pos ⟨⟨fun x y => ⟨_, Sd.nO x y⟩, by rw [lt3S]; exact Sd.sQ.swo⟩, hl⟩, lt3S, ← h]
theorem lit2_eq (a b : aj) : ch a b = some (cmpI a.aM b.aM) := by
  unfold ch
  rw [Sd.cmp_int]; rfl
theorem lt3N : lt3 ch = fun x y => decide (cmpI x.aM y.aM < 0) := by
  funext x y
  unfold lt3
  rw [lit2_eq]; rfl
theorem sortN {a : aj} {l r : List aj} (hl : (a :: l).length < 4611686018427387904)
    (h : (haveI : Inhabited aj := ⟨a⟩; (Sort.pdq (fun x y => decide (cmpI x.aM y.aM < 0)) (a :: l).toArray 0 (a :: l).length (Lib.bitLen (a :: l).length) true true).toList) = r) : sortO ch (a :: l) = some r := by
  rw [sortO_cons, if_pos ⟨⟨fun x y => ⟨_, lit2_eq x y⟩, by rw [lt3N]; exact (cmpI_tot.map fun x : aj => x.aM).swo⟩, hl⟩, lt3N, ← h]
theorem awake_batches : b7 10 [P 16, P 0, P 40, P 8] = some ([[P 0, P 8, P 16], [P 40]], 0) := by
  have e0 : dC [P 16, P 0, P 40, P 8] = some true := xF _ _ (by kernel_rfl)
  have e1 : sortO bz [P 16, P 0, P 40, P 8] = some [P 0, P 8, P 16, P 40] := sortP (by simp) (by kernel_rfl)
  have e2 : jl [P 16, P 0, P 40, P 8] = some [P 0, P 8, P 16, P 40] := by
    unfold jl
    have c1 : cloneO 104 [P 16, P 0, P 40, P 8] = some [P 16, P 0, P 40, P 8] := by kernel_rfl
    have c2 : c8 [P 0, P 8, P 16, P 40] = some [P 0, P 8, P 16, P 40] := v7 _ _ (by kernel_rfl)
    rw [c1, Option.bind_some, e1, Option.bind_some, c2]; rfl
  have e3 : bK [P 0, P 8, P 16, P 40] = some [P 0, P 8, P 16, P 40] := oa _ _ (by kernel_rfl)
  have e4 : loopO (dB [P 0, P 8, P 16, P 40] 10) ((0 : Int), []) = some [[P 0, P 8, P 16], [P 40]] := (Le.loop (fun s => tW _ _ s) bf _) _ (by kernel_rfl)
  have s1 : sortO bz [P 0, P 8, P 16] = some [P 0, P 8, P 16] := sortP (by simp) (by kernel_rfl)
  have s2 : sortO bz [P 40] = some [P 40] := sortP (by simp) (by kernel_rfl)
  have e5 : loopO (cw [[P 0, P 8, P 16], [P 40]]) ((0 : Int), [[P 0, P 8, P 16], [P 40]]) = some [[P 0, P 8, P 16], [P 40]] := by
    have n0 : cw [[P 0, P 8, P 16], [P 40]] ((0 : Int), [[P 0, P 8, P 16], [P 40]]) = some (.next ((1 : Int), [[P 0, P 8, P 16], [P 40]])) := by
      show (sortO bz [P 0, P 8, P 16]).bind _ = _
      rw [s1]; kernel_rfl
    have n1 : cw [[P 0, P 8, P 16], [P 40]] ((1 : Int), [[P 0, P 8, P 16], [P 40]]) = some (.next ((2 : Int), [[P 0, P 8, P 16], [P 40]])) := by
      show (sortO bz [P 40]).bind _ = _
      rw [s2]; kernel_rfl
    have n2 : cw [[P 0, P 8, P 16], [P 40]] ((2 : Int), [[P 0, P 8, P 16], [P 40]]) = some (.stop [[P 0, P 8, P 16], [P 40]]) := by kernel_rfl
    rw [loopO_next n0, loopO_next n1, loopO_stop n2]
  have e6 : cC 10 [P 16, P 0, P 40, P 8] = some [[P 0, P 8, P 16], [P 40]] := by
    unfold cC
    rw [e2, Option.bind_some, e3, Option.bind_some, e4, Option.bind_some, e5]; rfl
  unfold b7
  rw [e0, e6]; rfl
theorem awake_depends : fR [P 4, P 5, P 9] = some [⟨S1, [⟨4, 6⟩, ⟨9, 10⟩]⟩] := by
  have d1 : loopO (gR [P 4, P 5, P 9]) ((0 : Int), [], []) = some ([(S1, [⟨4, 5⟩, ⟨5, 6⟩, ⟨9, 10⟩])], [S1, S1, S1]) := (Le.loop (fun s => tV _ s) bf _) _ (by kernel_rfl)
  have d2 : sortO co [S1, S1, S1] = some [S1, S1, S1] := sortS (by simp) (by kernel_rfl)
  have d3 : rr [S1, S1, S1] = some [S1] := by
    unfold rr
    have c1 : cloneO 64 [S1, S1, S1] = some [S1, S1, S1] := by kernel_rfl
    have c2 : eO [S1, S1, S1] = some [S1] := tL _ _ (by kernel_rfl)
    rw [c1, Option.bind_some, d2, Option.bind_some, c2]; rfl
  have d4 : jp [⟨4, 5⟩, ⟨5, 6⟩, ⟨9, 10⟩] = some [⟨4, 6⟩, ⟨9, 10⟩] := by
    unfold jp
    have c1 : cloneO 16 ([⟨4, 5⟩, ⟨5, 6⟩, ⟨9, 10⟩] : List aj) = some [⟨4, 5⟩, ⟨5, 6⟩, ⟨9, 10⟩] := by kernel_rfl
    have c2 : db [⟨4, 5⟩, ⟨5, 6⟩, ⟨9, 10⟩] = some [⟨4, 5⟩, ⟨5, 6⟩, ⟨9, 10⟩] := qv _ _ (by kernel_rfl)
    have c3 : sortO ch [⟨4, 5⟩, ⟨5, 6⟩, ⟨9, 10⟩] = some [⟨4, 5⟩, ⟨5, 6⟩, ⟨9, 10⟩] := sortN (by simp) (by kernel_rfl)
    have c4 : loopO (nN [⟨4, 5⟩, ⟨5, 6⟩, ⟨9, 10⟩]) ((0 : Int), []) = some [⟨4, 6⟩, ⟨9, 10⟩] := (Le.loop (fun s => yG _ s) bf _) _ (by kernel_rfl)
    rw [c1, Option.bind_some, c2, Option.bind_some, c3, Option.bind_some, c4]; rfl
  have d5 : loopO (gT [S1] ([(S1, [⟨4, 5⟩, ⟨5, 6⟩, ⟨9, 10⟩])], [S1, S1, S1])) ((0 : Int), []) = some [⟨S1, [⟨4, 6⟩, ⟨9, 10⟩]⟩] := by
    have n0 : gT [S1] ([(S1, [⟨4, 5⟩, ⟨5, 6⟩, ⟨9, 10⟩])], [S1, S1, S1]) ((0 : Int), []) = some (.next ((1 : Int), [⟨S1, [⟨4, 6⟩, ⟨9, 10⟩]⟩])) := by
      show (jp (mGet xX S1 [] [(S1, [⟨4, 5⟩, ⟨5, 6⟩, ⟨9, 10⟩])])).bind _ = _
      have : mGet xX S1 [] [(S1, ([⟨4, 5⟩, ⟨5, 6⟩, ⟨9, 10⟩] : List aj))] = [⟨4, 5⟩, ⟨5, 6⟩, ⟨9, 10⟩] := by kernel_rfl
      rw [this, d4]; rfl
    have n1 : gT [S1] ([(S1, [⟨4, 5⟩, ⟨5, 6⟩, ⟨9, 10⟩])], [S1, S1, S1]) ((1 : Int), [⟨S1, [⟨4, 6⟩, ⟨9, 10⟩]⟩]) = some (.stop [⟨S1, [⟨4, 6⟩, ⟨9, 10⟩]⟩]) := by kernel_rfl
    rw [loopO_next n0, loopO_stop n1]
  unfold fR
  rw [d1, Option.bind_some]
  dsimp only
  rw [d3, Option.bind_some, d5]; rfl
theorem awake_at : fw = some true := by
  unfold fw
  have h1 : fu (0 : Int) = some S1 := by kernel_rfl
  have h2 : ey [⟨S1, [⟨4, 6⟩, ⟨9, 10⟩]⟩] [⟨S1, [⟨4, 6⟩, ⟨9, 10⟩]⟩] = some true := wD _ _ _ (by kernel_rfl)
  simp only [pick_at, Option.bind_some, awake_batches, awake_depends, h1]
  rw [show ((0 : Int) == 0) = true from rfl, if_pos rfl]
  show (ey _ _).bind _ = _
  rw [h2]; rfl

end Go.Dw.De


set_option maxRecDepth 100000
set_option maxHeartbeats 4000000
namespace Go.Dw.De
open Go.Dw Go.Proofs
open Sd (tU sQ sI)

theorem loop_first {α ω : Type} {body : Int → Option (Step1 Int (Unit ⊕ ω))} (l : List α) {p : α → Bool} {f : Nat → α → ω}
    (h1 : ∀ (i : Nat) (hi : i < l.length), body i = if p l[i] = true then some (.stop (.inr (f i l[i]))) else some (.next ((i + 1 : Nat) : Int)))
    (h2 : body (l.length : Nat) = some (.stop (.inl ()))) :
    (loopO body (0 : Int) = some (.inl ()) ∧ ∀ x ∈ l, p x = false) ∨
    ∃ (i : Nat) (hi : i < l.length), loopO body (0 : Int) = some (.inr (f i l[i])) ∧ p l[i] = true ∧ ∀ x ∈ l.take i, p x = false := by
  have : ∀ k i, i + k = l.length → (∀ x ∈ l.take i, p x = false) → (loopO body (i : Int) = some (.inl ()) ∧ ∀ x ∈ l, p x = false) ∨
      ∃ (j : Nat) (hj : j < l.length), loopO body (i : Int) = some (.inr (f j l[j])) ∧ p l[j] = true ∧ ∀ x ∈ l.take j, p x = false := by
    intro k
    induction k with
    | zero =>
      intro i hi ha
      obtain rfl : i = l.length := by omega
      exact .inl ⟨loopO_stop h2, by simpa using ha⟩
    | succ k ih =>
      intro i hi ha
      have hlt : i < l.length := by omega
      cases hp : p l[i] with
      | true => exact .inr ⟨i, hlt, loopO_stop (by rw [h1 i hlt, if_pos hp]), hp, ha⟩
      | false =>
        have e := loopO_next (ω := Unit ⊕ ω) (body := body) (s := (i : Int)) (s' := ((i + 1 : Nat) : Int)) (by rw [h1 i hlt, if_neg (by simp [hp])])
        rw [e]
        refine ih (i + 1) (by omega) fun x hx => ?_
        rw [take_succ_at hlt] at hx
        rcases List.mem_append.1 hx with hx | hx
        · exact ha x hx
        · rw [List.mem_singleton] at hx; rw [hx]; exact hp
  have := this l.length 0 (by omega) (by simp)
  simpa using this
theorem loop_find {α ω : Type} {body : Int → Option (Step1 Int (Unit ⊕ ω))} (l : List α) {p : α → Bool} {f : α → ω}
    (h1 : ∀ (i : Nat) (hi : i < l.length), body i = if p l[i] = true then some (.stop (.inr (f l[i]))) else some (.next ((i + 1 : Nat) : Int)))
    (h2 : body (l.length : Nat) = some (.stop (.inl ()))) : loopO body (0 : Int) = some (match l.find? p with | none => .inl () | some x => .inr (f x)) := by
  rcases loop_first l (f := fun _ x => f x) h1 h2 with ⟨e, h⟩ | ⟨i, hi, e, hp, h⟩
  · rw [e, List.find?_eq_none.2 fun x hx => by simp [h x hx]]
  · rw [e]
    have : l.find? p = some l[i] := by
      refine List.find?_eq_some_iff_append.2 ⟨hp, l.take i, l.drop (i + 1), ?_, fun x hx => by simp [h x hx]⟩
      rw [← List.drop_eq_getElem_cons hi, List.take_append_drop]
    rw [this]
theorem uY {ω : Type} {body : Int → Option (Step1 Int (Unit ⊕ ω))} (n : Nat) (h1 : ∀ i : Nat, i < n → body i = some (.next ((i + 1 : Nat) : Int))) (h2 : body (n : Nat) = some (.stop (.inl ()))) : loopO body (0 : Int) = some (.inl ()) := by
  have : ∀ k i : Nat, i + k = n → loopO body (i : Int) = some (.inl ()) := by
    intro k
    induction k with
    | zero => intro i hi; obtain rfl : i = n := by omega
              exact loopO_stop h2
    | succ k ih => intro i hi; rw [loopO_next (h1 i (by omega))]; exact ih (i + 1) (by omega)
  simpa using this n 0 (by omega)

theorem terms_ok {l : List Int} (hl : l.length ≤ 1000) (h : ∀ x ∈ l, -1048576 ≤ x ∧ x ≤ 1048576) : cX l = some true := by
  unfold cX cY dN
  rw [uY l.length (fun i hi => ?_) ?_]
  · rfl
  · unfold cZ
    rw [if_neg (by simp)]
  · unfold cZ
    have hx := h l[i] (List.getElem_mem hi)
    rw [if_pos (by simp; omega), getO_at rfl hi, Option.bind_some]
    unfold gN cN
    rw [if_pos (by simpa using hx.1), Option.bind_some, Option.bind_some, if_neg (by simpa using hx.2), w64 (by omega) (by omega)]
    simp
def ue (x : ar) : Prop := dQ x = some true ∧ (x.b9 = 2 → x.bg = 1) ∧ x.bu.length ≤ 3
theorem gain_ok {a b : Int} (ha : 1 ≤ a ∧ a ≤ 1048576) (hb : 1 ≤ b ∧ b ≤ 1048576) : ue ⟨0, ⟨a, 0, 0⟩, ⟨b, 0, 0⟩, [], 0, 0⟩ := by
  refine ⟨?_, by simp, by simp⟩
  unfold dQ cN
  simp [ha.1, ha.2, hb.1, hb.2]
theorem section_ok {a b c d e f : Int} (ha : -10 ≤ a ∧ a ≤ 10) (hb : -10 ≤ b ∧ b ≤ 10) (hc : -10 ≤ c ∧ c ≤ 10) (hd : 1 ≤ d ∧ d ≤ 10) (he : -10 ≤ e ∧ e ≤ 10) (hf : -10 ≤ f ∧ f ≤ 10) : ue ⟨1, ⟨a, b, c⟩, ⟨d, e, f⟩, [], 0, 0⟩ := by
  refine ⟨?_, by simp, by simp⟩
  have h1 : cX [a, b, c] = some true := terms_ok (by simp) (by simp; omega)
  have h2 : cX [d, e, f] = some true := terms_ok (by simp) (by simp; omega)
  have h3 : d ≠ 0 := by omega
  unfold dQ
  simp [h1, h2, h3]
theorem filter_ok {a s : Int} (ha : 1 ≤ a ∧ a ≤ 3) (hs : 0 ≤ s ∧ s ≤ 3) : ue ⟨2, ⟨0, 0, 0⟩, ⟨0, 0, 0⟩, [a, 2, 1], 1, s⟩ := by
  have h1 : a = 1 ∨ a = 2 ∨ a = 3 := by omega
  have h2 : s = 0 ∨ s = 1 ∨ s = 2 ∨ s = 3 := by omega
  refine ⟨?_, by simp, by simp⟩
  rcases h1 with rfl | rfl | rfl <;> rcases h2 with rfl | rfl | rfl | rfl <;> exact pr _ _ (by kernel_rfl)
def RespOk (r : aD) : Prop := r.aO.length ≤ 3 ∧ ∀ x ∈ r.aO, ue x
theorem responseV (d : Src) (hd : bV d) : Ok (ga d) (fun r => RespOk r.1 ∧ bV r.2) := by
  unfold ga
  refine Ok.bind (eQ _ _ hd (by omega) (by omega)) (fun x1 h1 => ?_)
  refine Ok.bind (P := fun o : List Int × Int × List ar => bV ⟨o.1, o.2.1⟩ ∧ (o.2.2.length ≤ 3 ∧ ∀ x ∈ o.2.2, ue x)) (Ok.loop (fun s => 0 ≤ s.1 ∧ s.1 + s.2.2.2.length ≤ 3 ∧ (∀ x ∈ s.2.2.2, ue x) ∧ bV ⟨s.2.1, s.2.2.1⟩) (fun s => s.1.toNat) ?_ ⟨by simp only; omega, by simp only [List.length_nil]; omega, by simp, h1.2.2⟩) (fun o ho => Ok.ret (Q := fun r : aD × Src => RespOk r.1 ∧ bV r.2) ⟨ho.2, ho.1⟩)
  rintro ⟨s2, s3, s4, s5⟩ ⟨i0, i1, i2, i3⟩
  simp only at i0 i1 i2 i3
  unfold jF
  have happ : ∀ (x : ar), Ok (appO s5 [x] 96) (fun r => r = s5 ++ [x]) := fun x => Ok.app (by simp only [List.length_cons, List.length_nil]; omega)
  have hnext : ∀ {x : ar}, ue x → ∀ c ∈ s5 ++ [x], ue c := fun hx c hc => by
    simp only [List.mem_append, List.mem_singleton] at hc
    rcases hc with hc | rfl
    · exact i2 c hc
    · exact hx
  refine Ok.iteD (fun hgt => ?_) (fun _ => Ok.st ⟨i3, by simp only; omega, i2⟩)
  refine Ok.bind (eQ _ _ i3 (by omega) (by omega)) (fun y1 g1 => ?_)
  refine Ok.iteE (fun hk => ?_) (fun _ => Ok.iteE (fun hk => ?_) (fun _ => ?_))
  · refine Ok.bind (e9 _ _ g1.2.2 (by simp) (by simp)) (fun y2 g2 => ?_)
    refine Ok.bind (e9 _ _ g2.2 (by simp) (by simp)) (fun y3 g3 => ?_)
    refine Ok.bind (happ _) (fun y4 g4 => ?_)
    subst g4
    have b1 : 0 ≤ y2.1 ∧ y2.1 ≤ 1048575 := by have := g2.1; simp at this; omega
    have b2 : 0 ≤ y3.1 ∧ y3.1 ≤ 999 := by have := g3.1; simp at this; omega
    rw [w64 (n := s2 - 1) (by omega) (by omega), w64 (n := 1 + y2.1) (by omega) (by omega), w64 (n := 1 + y3.1) (by omega) (by omega), hk]
    exact Ok.nx ⟨by simp only; omega, by simp only [List.length_append, List.length_cons, List.length_nil]; omega, hnext (gain_ok (by omega) (by omega)), g3.2⟩ (by simp only; omega)
  · refine Ok.bind (eQ _ _ g1.2.2 (by omega) (by omega)) (fun y2 g2 => ?_)
    refine Ok.bind (eQ _ _ g2.2.2 (by omega) (by omega)) (fun y3 g3 => ?_)
    refine Ok.bind (eQ _ _ g3.2.2 (by omega) (by omega)) (fun y4 g4 => ?_)
    refine Ok.bind (eQ _ _ g4.2.2 (by omega) (by omega)) (fun y5 g5 => ?_)
    refine Ok.bind (eQ _ _ g5.2.2 (by omega) (by omega)) (fun y6 g6 => ?_)
    refine Ok.bind (eQ _ _ g6.2.2 (by omega) (by omega)) (fun y7 g7 => ?_)
    refine Ok.bind (happ _) (fun y8 g8 => ?_)
    subst g8
    rw [w64 (n := s2 - 1) (by omega) (by omega), w64 (n := y3.1 - 3) (by omega) (by omega), w64 (n := y4.1 - 1) (by omega) (by omega), w64 (n := 1 + y5.1) (by omega) (by omega), hk]
    exact Ok.nx ⟨by simp only; omega, by simp only [List.length_append, List.length_cons, List.length_nil]; omega, hnext (section_ok (by omega) (by omega) (by omega) (by omega) (by omega) (by omega)), g7.2.2⟩ (by simp only; omega)
  · refine Ok.bind (eQ _ _ g1.2.2 (by omega) (by omega)) (fun y2 g2 => ?_)
    refine Ok.bind (eQ _ _ g2.2.2 (by omega) (by omega)) (fun y3 g3 => ?_)
    refine Ok.bind (happ _) (fun y8 g8 => ?_)
    subst g8
    rw [w64 (n := s2 - 1) (by omega) (by omega), w64 (n := 1 + y2.1) (by omega) (by omega), show y1.1 = 2 by omega]
    exact Ok.nx ⟨by simp only; omega, by simp only [List.length_append, List.length_cons, List.length_nil]; omega, hnext (filter_ok (by omega) (by omega)), g3.2.2⟩ (by simp only; omega)
theorem resp_valid {r : aD} (h : RespOk r) : jQ r = some true := by
  obtain ⟨hl, hs⟩ := h
  unfold jQ
  rw [if_neg (by simp; omega)]
  have e1 : cf r.aO = some false := by
    unfold cf df
    rw [uY r.aO.length (fun i hi => ?_) ?_]
    · rfl
    · unfold cH
      rw [if_neg (by simp)]
    · unfold cH gM
      rw [if_pos (by simp; omega), getO_at rfl hi, Option.bind_some, (hs _ (List.getElem_mem hi)).1, Option.bind_some, Option.bind_some, if_neg (by simp), w64 (by omega) (by omega)]
      simp
  have e2 : jf r.aO = some 1 := by
    unfold jf
    have : Ok (loopO (iD r.aO) ((1 : Int), (0 : Int))) (fun o => o = .inl 1) := by
      refine Ok.loop (fun s => s.1 = 1 ∧ 0 ≤ s.2 ∧ s.2 ≤ r.aO.length) (fun s => ((r.aO.length : Int) - s.2).toNat) ?_ ⟨rfl, Int.le_refl _, by simp⟩
      rintro ⟨s1, s2⟩ ⟨i0, i1, i2⟩
      simp only at i0 i1 i2
      subst i0
      unfold iD
      dsimp only
      refine Ok.iteD (fun hlt => ?_) (fun _ => Ok.st rfl)
      refine Ok.bind (Ok.get (by omega) (by omega)) (fun x hx => ?_)
      rw [w64 (n := s2 + 1) (by omega) (by omega)]
      refine Ok.iteNe (fun _ => Ok.nx ⟨rfl, by simp only; omega, by simp only; omega⟩ (by simp only; omega)) (fun hk => ?_)
      rw [(hs x hx.1).2.1 hk]
      refine Ok.iteD (fun hc => absurd hc (by decide)) (fun _ => ?_)
      rw [w64 (n := 1 * 1) (by omega) (by omega)]
      exact Ok.nx ⟨rfl, by simp only; omega, by simp only; omega⟩ (by simp only; omega)
    rw [this.eq]; rfl
  rw [e1, Option.bind_some, if_neg (by simp), e2]; rfl

def RateOk (r : aT) : Prop := r.aP = 1 ∧ (r.aX = 100 ∨ r.aX = 50 ∨ r.aX = 51)
theorem rate_valid {r : aT} (h : RateOk r) : tl r = some true := by
  obtain ⟨n, d⟩ := r
  obtain ⟨h1, h2⟩ := h
  simp only at h1 h2
  subst h1
  rcases h2 with rfl | rfl | rfl <;> exact xY _ _ (by kernel_rfl)
structure EpOk (e : ai) : Prop where
  lo : 0 ≤ e.aM
  lt : e.aM < e.fTo
  hi : e.fTo ≤ 10000000
  from_ : e.aM ≤ 2000
  rate : RateOk e.bP
  resp : RespOk e.aW
  pos : oJ 60 e.aF
theorem ep_valid {e : ai} (h : EpOk e) : eK e = some true := by
  obtain ⟨h1, h2, h3, -, h4, h5, ⟨p1, p2⟩, ⟨p3, p4⟩, p5, p6⟩ := h
  have hin : ∀ {x a b : Int}, a ≤ x → x ≤ b → gc x a b = some true := fun h h' => by
    unfold gc; rw [if_pos (by simpa using h)]; simpa using h'
  unfold eK
  rw [if_pos (by simpa using h1), if_pos (by simpa using h2), if_pos (by simp; omega), rate_valid h4, Option.bind_some, if_pos rfl, resp_valid h5, Option.bind_some, if_pos rfl,
    hin (by omega) (by omega), Option.bind_some, if_pos rfl, hin (by omega) (by omega), Option.bind_some, if_pos rfl, hin (by omega) (by omega)]
  rfl
structure ub (l : List ai) : Prop where
  ne : l ≠ []
  len : l.length ≤ 2
  all : ∀ e ∈ l, EpOk e
  ord : (l.map fun e => (e.aM, e.fTo)).Pairwise (fun a b => a.2 ≤ b.1)
theorem epochs_valid {l : List ai} (h : ub l) : ip l = some true := by
  have hlen := h.len
  have hne := List.length_pos_iff.2 h.ne
  unfold ip
  rw [uY l.length (fun i hi => ?_) ?_, Option.bind_some]
  · dsimp only
    unfold gc
    rw [if_pos (by simp; omega), Option.bind_some]
    simp; omega
  · unfold gn
    rw [if_neg (by simp)]
  · unfold gn
    rw [if_pos (by simp; omega), getO_at rfl hi, Option.bind_some, ep_valid (h.all _ (List.getElem_mem hi)), Option.bind_some, if_neg (by simp), w64 (n := (i : Int) + 1) (by omega) (by omega)]
    by_cases h0 : i = 0
    · subst h0; rfl
    · rw [if_pos (by simp; omega), w64 (by omega) (by omega), getO_at (i := i - 1) (by omega) (by omega), Option.bind_some]
      have := List.pairwise_iff_getElem.1 h.ord (i - 1) i (by simp; omega) (by simpa using hi) (by omega)
      simp only [List.getElem_map] at this
      rw [if_neg (by simpa using this)]
      simp
def ChOk (c : ac) : Prop := IsSid c.al ∧ ub c.aQ
structure vp (v : ae) : Prop where
  len : v.aq.length ≤ 6
  all : ∀ c ∈ v.aq, ChOk c
  ord : (v.aq.map (·.al)).Pairwise (fun a b => tU a b < 0)
theorem vp.inv {v : ae} (h : vp v) : InvOk v := ⟨h.len, fun c hc => ⟨(h.all c hc).2.len, fun e he => ((h.all c hc).2.all e he).pos⟩⟩
theorem xt {v : ae} (h : vp v) : bQ v = some true := by
  have hlen := h.len
  unfold bQ
  rw [uY v.aq.length (fun i hi => ?_) ?_, Option.bind_some]
  · simp; omega
  · unfold gL
    rw [if_neg (by simp)]
  · unfold gL
    obtain ⟨c1, c2⟩ := h.all _ (List.getElem_mem hi)
    rw [if_pos (by simp; omega), getO_at rfl hi, Option.bind_some, So.Valid_eq (sid_len c1), c1, Option.bind_some, if_neg (by simp), epochs_valid c2, Option.bind_some, if_neg (by simp), w64 (n := (i : Int) + 1) (by omega) (by omega)]
    by_cases h0 : i = 0
    · subst h0; rfl
    · rw [if_pos (by simp; omega), w64 (by omega) (by omega), getO_at (i := i - 1) (by omega) (by omega), Option.bind_some, Sd.nO, Option.bind_some]
      have := List.pairwise_iff_getElem.1 h.ord (i - 1) i (by simp; omega) (by simpa using hi) (by omega)
      simp only [List.getElem_map] at this
      rw [if_neg (by simpa using this)]
      simp

def sid (i : Nat) : Sid := ⟨[65, 66], stas.getD i [], [48, 48], [66, 72, 90]⟩
theorem source_at {n : Int} {i : Nat} (hn : n = i) (hi : i < 6) : fu n = some (sid i) := by
  subst hn
  have : i = 0 ∨ i = 1 ∨ i = 2 ∨ i = 3 ∨ i = 4 ∨ i = 5 := by omega
  rcases this with rfl | rfl | rfl | rfl | rfl | rfl <;> exact oT _ _ (by kernel_rfl)
theorem sid_ok {i : Nat} (hi : i < 6) : IsSid (sid i) := by
  have : i = 0 ∨ i = 1 ∨ i = 2 ∨ i = 3 ∨ i = 4 ∨ i = 5 := by omega
  rcases this with rfl | rfl | rfl | rfl | rfl | rfl <;> (show So.xl _ = true; decide +kernel)
theorem sid_lt {i j : Nat} (h : i < j) (hj : j < 6) : tU (sid i) (sid j) < 0 := by
  have h1 : i = 0 ∨ i = 1 ∨ i = 2 ∨ i = 3 ∨ i = 4 := by omega
  have h2 : j = 1 ∨ j = 2 ∨ j = 3 ∨ j = 4 ∨ j = 5 := by omega
  rcases h1 with rfl | rfl | rfl | rfl | rfl <;> rcases h2 with rfl | rfl | rfl | rfl | rfl <;> first | omega | decide +kernel
theorem eps1 {e : ai} (h : EpOk e) : ub [e] := ⟨by simp, by simp, by simpa using h, by simp⟩
theorem eps2 {e f : ai} (h : EpOk e) (h' : EpOk f) (ho : e.fTo ≤ f.aM) : ub [e, f] := ⟨by simp, by simp, by simp; exact ⟨h, h'⟩, by simpa using ho⟩
def SitesI (s : Int × List Int × Int × List ac) : Prop := ∃ i : Nat, s.1 = i ∧ i ≤ 6 ∧ s.2.2.2.map (·.al) = (List.range i).map sid ∧ (∀ c ∈ s.2.2.2, ub c.aQ) ∧ bV ⟨s.2.1, s.2.2.1⟩
theorem sitesV (d : Src) (hd : bV d) : Ok (jb 6 d) (fun r => vp r.1 ∧ bV r.2) := by
  unfold jb
  refine Ok.bind (P := fun o => bV ⟨o.1, o.2.1⟩ ∧ vp ⟨o.2.2⟩) (Ok.loop SitesI (fun s => (6 - s.1).toNat) ?_ ⟨0, rfl, by omega, rfl, by simp, hd⟩) (fun o ho => Ok.ret ⟨ho.2, ho.1⟩)
  rintro ⟨s1, s2, s3, s4⟩ ⟨i, i0, i1, i2, i3, i4⟩
  simp only at i0 i1 i2 i3 i4
  subst i0
  have hlen : s4.length = i := by have := congrArg List.length i2; simpa using this
  unfold nl
  have happ : ∀ (x : ac), Ok (appO s4 [x] 88) (fun r => r = s4 ++ [x]) := fun x => Ok.app (by simp only [List.length_cons, List.length_nil]; omega)
  have hend : vp ⟨s4⟩ := by
    refine ⟨by simp only; omega, fun c hc => ⟨?_, i3 c hc⟩, ?_⟩
    · have : c.al ∈ s4.map (·.al) := List.mem_map.2 ⟨c, hc, rfl⟩
      rw [i2] at this
      obtain ⟨j, hj, e⟩ := List.mem_map.1 this
      rw [← e]
      exact sid_ok (by have := List.mem_range.1 hj; omega)
    · simp only
      rw [i2, List.pairwise_map]
      exact List.pairwise_lt_range.imp_of_mem fun ha hb hab => sid_lt hab (by have := List.mem_range.1 hb; omega)
  have hnext : ∀ {l : List ai} {t : Src}, i < 6 → ub l → bV t → Ok (some (.next ((i : Int) + 1, t.fL, t.fAt, s4 ++ [⟨sid i, l⟩]))) (Ok.S SitesI (fun s => (6 - s.1).toNat) (fun o : List Int × Int × List ac => bV ⟨o.1, o.2.1⟩ ∧ vp ⟨o.2.2⟩) ((i : Int), s2, s3, s4)) := fun {l t} hi hl ht => by
    refine Ok.nx ⟨i + 1, by simp, by omega, ?_, fun c hc => ?_, ht⟩ (by simp only; omega)
    · simp [List.range_succ, i2]
    · simp only [List.mem_append, List.mem_singleton] at hc
      rcases hc with hc | rfl
      · exact i3 c hc
      · exact hl
  refine Ok.iteD (fun hlt => ?_) (fun _ => Ok.st ⟨i4, hend⟩)
  refine Ok.iteD (fun _ => ?_) (fun _ => Ok.st ⟨i4, hend⟩)
  have hi : i < 6 := by omega
  refine Ok.bind (u6 60 (by omega) (by omega) _ i4) (fun y1 g1 => ?_)
  refine Ok.bind (responseV _ g1.2) (fun y2 g2 => ?_)
  rw [source_at rfl hi, Option.bind_some]
  refine Ok.bind (eQ _ _ g2.2 (by omega) (by omega)) (fun y4 g4 => ?_)
  rw [w64 (n := (i : Int) + 1) (by omega) (by omega)]
  have hr : RateOk ⟨100, 1⟩ := ⟨rfl, .inl rfl⟩
  refine Ok.iteE (fun _ => ?_) (fun _ => Ok.iteE (fun _ => ?_) (fun _ => ?_))
  · refine Ok.bind (eQ _ _ g4.2.2 (by omega) (by omega)) (fun y5 g5 => ?_)
    refine Ok.bind (u6 60 (by omega) (by omega) _ g5.2.2) (fun y6 g6 => ?_)
    refine Ok.bind (responseV _ g6.2) (fun y7 g7 => ?_)
    refine Ok.bind (Ok.isin (by omega) (by simp)) (fun _ _ => ?_)
    refine Ok.bind (Ok.mod (by omega) (by simp)) (fun y8 g8 => ?_)
    obtain ⟨x, hx, rfl⟩ := g8
    simp at hx
    subst hx
    refine Ok.bind (Ok.app (by simp)) (fun y9 g9 => ?_)
    subst g9
    refine Ok.bind (happ _) (fun y10 g10 => ?_)
    subst g10
    rw [w64 (n := 1500 + y5.1) (by omega) (by omega)]
    exact hnext hi (eps2 ⟨by simp, by simp only; omega, by simp only; omega, by simp, hr, g2.1, g1.1⟩ ⟨by simp only; omega, by simp only; omega, by simp, by simp only; omega, hr, g7.1, g6.1⟩ (by simp)) g7.2
  · refine Ok.bind (eQ _ _ g4.2.2 (by omega) (by omega)) (fun y5 g5 => ?_)
    refine Ok.bind (Ok.isin (by omega) (by simp)) (fun _ _ => ?_)
    refine Ok.bind (Ok.mod (by omega) (by simp)) (fun y8 g8 => ?_)
    obtain ⟨x, hx, rfl⟩ := g8
    simp at hx
    subst hx
    refine Ok.bind (happ _) (fun y10 g10 => ?_)
    subst g10
    exact hnext hi (eps1 ⟨g5.1, by simp only; omega, by simp, by simp only; omega, hr, g2.1, g1.1⟩) g5.2.2
  · refine Ok.bind (happ _) (fun y10 g10 => ?_)
    subst g10
    exact hnext hi (eps1 ⟨by simp, by simp, by simp, by simp, hr, g2.1, g1.1⟩) g4.2.2

theorem ub.set {l : List ai} (h : ub l) {k : Nat} {x y : ai} (hx : l[k]? = some x) (h1 : y.aM = x.aM) (h2 : y.fTo = x.fTo) (hy : EpOk y) : ub (l.set k y) := by
  obtain ⟨hk, hxe⟩ := List.getElem?_eq_some_iff.1 hx
  refine ⟨fun e => h.ne (by simpa using e), by simpa using h.len, fun e he => ?_, ?_⟩
  · rcases List.mem_or_eq_of_mem_set he with h3 | rfl
    · exact h.all e h3
    · exact hy
  · have : (l.set k y).map (fun e => (e.aM, e.fTo)) = l.map (fun e => (e.aM, e.fTo)) := by
      apply List.ext_getElem? 
      intro j
      simp only [List.getElem?_map, List.getElem?_set]
      by_cases e : k = j
      · subst e
        rw [if_pos rfl, if_pos hk, hx]; simp [h1, h2]
      · rw [if_neg e]
    rw [this]; exact h.ord
theorem ub.last {l : List ai} (h : ub l) {x y : ai} (hx : l[l.length - 1]? = some x) (h1 : y.aM = x.aM) (hy : EpOk y) : ub (l.set (l.length - 1) y) := by
  obtain ⟨a1, a2, a3, a4⟩ := h
  rcases l with _ | ⟨a, _ | ⟨b, _ | ⟨c, l⟩⟩⟩
  · exact (a1 rfl).elim
  · exact eps1 hy
  · simp at hx
    subst hx
    exact eps2 (a3 a (by simp)) hy (by rw [h1]; simpa using a4)
  · simp at a2
end Go.Dw.De


set_option maxRecDepth 100000
set_option maxHeartbeats 4000000
namespace Go.Dw.De
open Go.Dw Go.Proofs
open Sd (tU sQ sI)

theorem clone_at {α : Type} {n : Nat} {l : List α} (h : l.length * n ≤ 140737488355328) : cloneO n l = some l := by
  unfold cloneO; rw [if_pos h]
def RespLen (r : aD) : Prop := r.aO.length ≤ 1000 ∧ ∀ x ∈ r.aO, x.bu.length ≤ 1000
theorem copyEpoch_at {e : ai} (h : RespLen e.aW) : fq e = some e := by
  obtain ⟨h1, h2⟩ := h
  unfold fq
  rw [clone_at (by omega), Option.bind_some]
  have : Ok (loopO (eJ e.aW.aO) ((0 : Int), e.aW.aO)) (fun o => o = e.aW.aO) := by
    refine Ok.loop (fun s => 0 ≤ s.1 ∧ s.1 ≤ e.aW.aO.length ∧ s.2 = e.aW.aO) (fun s => ((e.aW.aO.length : Int) - s.1).toNat) ?_ ⟨Int.le_refl _, by simp, rfl⟩
    rintro ⟨s2, s3⟩ ⟨i0, i1, i2⟩
    simp only at i0 i1 i2
    subst i2
    unfold eJ
    dsimp only
    refine Ok.iteD (fun hlt => ?_) (fun _ => Ok.st rfl)
    refine Ok.bind (Ok.isin (by omega) (by omega)) (fun _ _ => ?_)
    refine Ok.bind (Ok.get (by omega) (by omega)) (fun x hx => ?_)
    have := h2 x hx.1
    rw [clone_at (by omega), Option.bind_some]
    refine Ok.bind (Ok.isin (by omega) (by omega)) (fun _ _ => ?_)
    refine Ok.bind (Ok.mod (by omega) (by omega)) (fun y hy => ?_)
    obtain ⟨z, hz, rfl⟩ := hy
    obtain rfl : x = z := by rw [hx.2] at hz; exact Option.some.inj hz
    rw [w64 (by omega) (by omega)]
    refine Ok.nx ⟨by simp only; omega, by simp only; omega, ?_⟩ (by simp only; omega)
    obtain ⟨hk, e⟩ := List.getElem?_eq_some_iff.1 hx.2
    simp only
    conv => lhs; rw [← e]
    exact List.set_getElem_self hk
  rw [this.eq]; rfl
def ChLen (c : ac) : Prop := c.aQ.length ≤ 1000 ∧ ∀ e ∈ c.aQ, RespLen e.aW
theorem copied_at {c : ac} (h : ChLen c) : io c = some c := by
  obtain ⟨h1, h2⟩ := h
  unfold io
  rw [clone_at (by omega), Option.bind_some]
  have : Ok (loopO (gm c.aQ) ((0 : Int), c.aQ)) (fun o => o = c.aQ) := by
    refine Ok.loop (fun s => 0 ≤ s.1 ∧ s.1 ≤ c.aQ.length ∧ s.2 = c.aQ) (fun s => ((c.aQ.length : Int) - s.1).toNat) ?_ ⟨Int.le_refl _, by simp, rfl⟩
    rintro ⟨s2, s3⟩ ⟨i0, i1, i2⟩
    simp only at i0 i1 i2
    subst i2
    unfold gm
    dsimp only
    refine Ok.iteD (fun hlt => ?_) (fun _ => Ok.st rfl)
    refine Ok.bind (Ok.isin (by omega) (by omega)) (fun _ _ => ?_)
    refine Ok.bind (Ok.get (by omega) (by omega)) (fun x hx => ?_)
    rw [copyEpoch_at (h2 x hx.1), Option.bind_some]
    refine Ok.bind (Ok.isin (by omega) (by omega)) (fun _ _ => ?_)
    refine Ok.bind (Ok.set (by omega) (by omega)) (fun y hy => ?_)
    subst hy
    rw [w64 (by omega) (by omega)]
    refine Ok.nx ⟨by simp only; omega, by simp only; omega, ?_⟩ (by simp only; omega)
    obtain ⟨hk, e⟩ := List.getElem?_eq_some_iff.1 hx.2
    simp only
    conv => lhs; rw [← e]
    exact List.set_getElem_self hk
  rw [this.eq]; rfl
structure yb (v : ae) : Prop where
  len : v.aq.length ≤ 1000
  all : ∀ c ∈ v.aq, ChLen c
theorem vp.lens {v : ae} (h : vp v) : yb v := by
  refine ⟨by have := h.len; omega, fun c hc => ?_⟩
  have hE := (h.all c hc).2
  refine ⟨by have := hE.len; omega, fun e he => ?_⟩
  have hR := (hE.all e he).resp
  exact ⟨by have := hR.1; omega, fun x hx => by have := (hR.2 x hx).2.2; omega⟩

def zCh : ac := ⟨⟨[], [], [], []⟩, []⟩
def zEp : ai := ⟨0, 0, ⟨0, 0⟩, ⟨0, 0, 0⟩, ⟨[]⟩⟩
def chan (v : ae) (s : Sid) : Option ac := v.aq.find? fun c => decide (c.al = s)
def epIn (l : List ai) (t : Int) : Option ai := l.find? fun e => decide (e.aM ≤ t ∧ t < e.fTo)
def epAt (v : ae) (s : Sid) (t : Int) : Option ai := (chan v s).bind fun c => epIn c.aQ t
theorem Find_eq {v : ae} (hv : yb v) (s : Sid) : gl v s = some (match chan v s with | none => (zCh, false) | some c => (c, true)) := by
  have hl := hv.len
  unfold gl
  rw [loop_find v.aq (p := fun c => decide (c.al = s)) (f := fun c => (c, true)) (fun i hi => ?_) ?_, Option.bind_some]
  · unfold chan
    cases v.aq.find? fun c => decide (c.al = s) <;> rfl
  · unfold jk
    rw [if_neg (by simp)]
  · unfold jk
    rw [if_pos (by simp; omega), getO_at rfl hi, Option.bind_some, Sd.eqs, copied_at (hv.all _ (List.getElem_mem hi)), Option.bind_some, w64 (by omega) (by omega)]
    simp
theorem at_eq {c : ac} (hc : c.aQ.length ≤ 1000) (t : Int) : mq c t = some (match epIn c.aQ t with | none => (zEp, false) | some e => (e, true)) := by
  unfold mq
  rw [loop_find c.aQ (p := fun e => decide (e.aM ≤ t ∧ t < e.fTo)) (f := fun e => (e, true)) (fun i hi => ?_) ?_, Option.bind_some]
  · unfold epIn
    cases c.aQ.find? fun e => decide (e.aM ≤ t ∧ t < e.fTo) <;> rfl
  · unfold kF
    rw [if_neg (by simp)]
  · unfold kF
    rw [if_pos (by simp; omega), getO_at rfl hi, Option.bind_some, w64 (by omega) (by omega)]
    by_cases h1 : c.aQ[i].aM ≤ t <;> by_cases h2 : t < c.aQ[i].fTo <;> simp [h1, h2]
theorem chan_mem {v : ae} {s : Sid} {c : ac} (h : chan v s = some c) : c ∈ v.aq ∧ c.al = s := by
  unfold chan at h
  exact ⟨List.mem_of_find?_eq_some h, by simpa using List.find?_some h⟩
theorem epIn_mem {l : List ai} {t : Int} {e : ai} (h : epIn l t = some e) : e ∈ l ∧ e.aM ≤ t ∧ t < e.fTo := by
  unfold epIn at h
  have := List.find?_some h
  simp only [decide_eq_true_eq] at this
  exact ⟨List.mem_of_find?_eq_some h, this⟩
theorem At_eq {v : ae} (hv : yb v) (hV : bQ v = some true) (s : Sid) (t : Int) : jj v s t = some (match epAt v s t with | none => (zEp, 6) | some e => (e, 0)) := by
  unfold jj
  rw [hV, Option.bind_some, if_neg (by simp), Find_eq hv, Option.bind_some]
  unfold epAt
  cases hc : chan v s with
  | none =>
    dsimp only
    rw [at_eq (by simp [zCh])]
    rfl
  | some c =>
    dsimp only
    rw [at_eq (hv.all c (chan_mem hc).1).1, Option.bind_some, Option.bind_some]
    cases epIn c.aQ t <;> rfl

def epPR (e : ai) : ap × aD := (e.aF, e.aW)
def Chg (a b : ae) (p : Pick) : Prop := (epAt a p.al p.aN).map epPR ≠ (epAt b p.al p.aN).map epPR
instance (a b : ae) (p : Pick) : Decidable (Chg a b p) := inferInstanceAs (Decidable (_ ≠ _))
end Go.Dw.De


set_option maxRecDepth 100000
set_option maxHeartbeats 4000000
namespace Go.Dw.De
open Go.Dw Go.Proofs

def bitsL : List Int := [1, 2, 4, 8, 16, 32, 64, 128]
theorem or_at : ∀ b ∈ bitsL, ∀ m : Nat, m < 128 → 2 * b * m + 2 * b ≤ 256 → orI .i64 (2 * b * m) b = 2 * b * m + b := by decide +kernel
theorem half_bit : ∀ b ∈ bitsL, (b = 1 ∧ shrI .i64 b 1 = 0) ∨ (shrI .i64 b 1 ∈ bitsL ∧ 2 * shrI .i64 b 1 = b) := by decide +kernel
theorem bit_pos : ∀ b ∈ bitsL, 1 ≤ b ∧ b ≤ 128 := by decide
theorem sq_lt {x n : Int} (hx : 0 < x) (hn : 0 ≤ n) : x ≤ n.tdiv x ↔ x * x ≤ n := by
  rw [Int.tdiv_eq_ediv_of_nonneg hn, Int.le_ediv_iff_mul_le hx]
def FI (n : Int) (s : Int × Int) : Prop :=
  (s.2 = 0 ∧ (0 ≤ s.1 ∧ s.1 ≤ 255) ∧ s.1 * s.1 ≤ n ∧ n < (s.1 + 1) * (s.1 + 1)) ∨
  (s.2 ∈ bitsL ∧ ∃ m : Nat, s.1 = 2 * s.2 * m ∧ m < 128 ∧ s.1 + 2 * s.2 ≤ 256 ∧ s.1 * s.1 ≤ n ∧ n < (s.1 + 2 * s.2) * (s.1 + 2 * s.2))
theorem floor_loop (n : Int) (h0 : 0 < n) (h1 : n ≤ 65535) (s : Int × Int) (hs : FI n s) : Ok (loopO (iz n) s) (fun r => (0 ≤ r ∧ r ≤ 255) ∧ r * r ≤ n ∧ n < (r + 1) * (r + 1)) := by
  refine Ok.loop (FI n) (fun s => s.2.toNat) ?_ hs
  rintro ⟨r, b⟩ h
  unfold iz
  dsimp only
  rcases h with ⟨e, h2, h3, h4⟩ | ⟨hb, m, hr, hm, h2, h3, h4⟩
  · simp only at e h2 h3 h4
    subst e
    rw [if_neg (by simp)]
    exact Ok.st ⟨h2, h3, h4⟩
  · simp only at hb hr h2 h3 h4
    have hbp := bit_pos b hb
    have hbm : 0 ≤ 2 * b * m := Int.mul_nonneg (by omega) (by omega)
    have hor : orI .i64 r b = r + b := by rw [hr]; exact or_at b hb m hm (by omega)
    have hm2 : 2 * b * m ≤ 256 - 2 * b := by omega
    have hmb : b * m ≤ 127 := by
      rw [Int.mul_assoc] at hm2; omega
    rw [if_pos (by simp; omega), hor]
    refine Ok.bind (Ok.quo (by omega)) (fun q hq => ?_)
    have hq0 : 0 ≤ n.tdiv (r + b) := Int.tdiv_nonneg (by omega) (by omega)
    have hq1 : n.tdiv (r + b) ≤ n := Int.tdiv_le_self _ (by omega)
    rw [w64 (by omega) (by omega)] at hq
    subst hq
    have hfin : ∀ (x : Int) (k : Nat), (x = 2 * b * m ∧ k = 2 * m) ∨ (x = 2 * b * m + b ∧ k = 2 * m + 1) → x * x ≤ n → n < (x + b) * (x + b) → Ok (some (Step1.next (x, shrI .i64 b 1))) (Ok.S (FI n) (fun s => s.2.toNat) (fun r : Int => (0 ≤ r ∧ r ≤ 255) ∧ r * r ≤ n ∧ n < (r + 1) * (r + 1)) (r, b)) := fun x k hx g1 g2 => by
      rcases half_bit b hb with ⟨e1, e2⟩ | ⟨e1, e2⟩
      · rw [e2]
        subst e1
        refine Ok.nx (.inl ⟨rfl, ⟨by simp only; omega, by simp only; omega⟩, g1, g2⟩) (by simp only; omega)
      · have hbp' := bit_pos _ e1
        generalize shrI .i64 b 1 = b' at *
        subst e2
        refine Ok.nx (.inr ⟨e1, k, ?_, ?_, by simp only; omega, g1, g2⟩) (by simp only; omega)
        · simp only
          rcases hx with ⟨rfl, rfl⟩ | ⟨rfl, rfl⟩
          · rw [Int.natCast_mul]
            simp only [Int.mul_assoc, Int.mul_left_comm]
            rfl
          · rw [Int.natCast_add, Int.natCast_mul, Int.mul_add]
            have : 2 * b' * ((2 : Nat) * (m : Int)) = 2 * (2 * b') * m := by
              simp only [Int.mul_assoc, Int.mul_left_comm]; rfl
            rw [this]; simp
        · have : 2 * b' * m ≤ 127 := hmb
          have h5 : (m : Int) ≤ b' * m := by
            have := Int.mul_le_mul_of_nonneg_right (show (1 : Int) ≤ b' by omega) (show (0 : Int) ≤ (m : Int) by omega)
            omega
          rw [Int.mul_assoc] at this
          omega
    refine Ok.iteD (fun hle => ?_) (fun hgt => ?_)
    · rw [sq_lt (by omega) (by omega)] at hle
      exact hfin _ (2 * m + 1) (.inr ⟨by rw [hr], rfl⟩) hle (by rw [show r + b + b = r + 2 * b by omega]; exact h4)
    · rw [sq_lt (by omega) (by omega)] at hgt
      exact hfin _ (2 * m) (.inl ⟨hr, rfl⟩) h3 (Int.not_le.1 hgt)
theorem len_lo : (List.range 256).all (fun n => decide (n = 0) || match nR (n : Int) with | some L => decide (1 ≤ L ∧ L ≤ 16) && decide ((n : Int) < 2 ^ L.toNat) | none => false) = true := by kernel_rfl
theorem len_hi : (List.range 256).all (fun n => decide (n = 0) || match nR ((n * 256 : Nat) : Int) with | some L => decide (1 ≤ L ∧ L ≤ 16) && decide (((n * 256 + 255 : Nat) : Int) < 2 ^ L.toNat) | none => false) = true := by kernel_rfl
theorem shr8 {n : Int} (h0 : 0 ≤ n) : shrI .u64 n 8 = n / 256 := by
  show n.fdiv (2 ^ (min (8 : Int).toNat 64)) = n / 256
  rw [Int.fdiv_eq_ediv_of_nonneg _ (by decide)]
  rfl
theorem len_same {n : Int} (h0 : 256 ≤ n) (h1 : n ≤ 65535) : qT n = qT (n / 256 * 256) := by
  unfold qT sP jG kM
  rw [if_neg (by simp; omega), if_neg (by simp; omega), if_pos (by simp; omega), if_neg (by simp; omega), if_neg (by simp; omega), if_pos (by simp; omega), shr8 (by omega), shr8 (by omega)]
  rw [show n / 256 * 256 / 256 = n / 256 by omega]
theorem len_ok {n : Int} (h0 : 1 ≤ n) (h1 : n ≤ 65535) : Ok (qT n) (fun L => (1 ≤ L ∧ L ≤ 16) ∧ n < 2 ^ L.toNat) := by
  obtain ⟨n, rfl⟩ : ∃ k : Nat, n = k := ⟨n.toNat, by omega⟩
  by_cases h : n < 256
  · have := List.all_eq_true.1 len_lo n (List.mem_range.2 h)
    simp only [Bool.or_eq_true, decide_eq_true_eq] at this
    rcases this with h | h
    · omega
    · cases e : nR (n : Int) with
      | none => rw [e] at h; cases h
      | some L =>
        rw [e] at h
        simp only [Bool.and_eq_true, decide_eq_true_eq] at h
        exact ⟨L, wR _ _ e, h.1, h.2⟩
  · have hm : n / 256 < 256 := by omega
    have := List.all_eq_true.1 len_hi (n / 256) (List.mem_range.2 hm)
    simp only [Bool.or_eq_true, decide_eq_true_eq] at this
    rcases this with h' | h'
    · omega
    · cases e : nR ((n / 256 * 256 : Nat) : Int) with
      | none => rw [e] at h'; cases h'
      | some L =>
        rw [e] at h'
        simp only [Bool.and_eq_true, decide_eq_true_eq] at h'
        refine ⟨L, ?_, h'.1, ?_⟩
        · rw [len_same (by omega) h1]
          have : ((n : Int) / 256 * 256) = ((n / 256 * 256 : Nat) : Int) := by omega
          rw [this]
          exact wR _ _ e
        · have := h'.2
          have h5 : (n : Int) ≤ ((n / 256 * 256 + 255 : Nat) : Int) := by omega
          exact Int.lt_of_le_of_lt h5 this
theorem start_at : ∀ L : Nat, L < 17 → 1 ≤ L → ∃ q b, quoO .i64 (IntKind.wrap .i64 ((L : Int) - 1)) 2 = some q ∧ shlO .i64 1 q = some b ∧ b ∈ bitsL ∧ (2 : Int) ^ L ≤ (0 + 2 * b) * (0 + 2 * b) := by
  intro L h1 h2
  have : L = 1 ∨ L = 2 ∨ L = 3 ∨ L = 4 ∨ L = 5 ∨ L = 6 ∨ L = 7 ∨ L = 8 ∨ L = 9 ∨ L = 10 ∨ L = 11 ∨ L = 12 ∨ L = 13 ∨ L = 14 ∨ L = 15 ∨ L = 16 := by omega
  have hs : ∀ (q b : Int), 0 ≤ q → shlI .i64 1 q = b → shlO .i64 1 q = some b := fun q b h e => by unfold shlO; rw [if_neg (by omega), e]
  have hq : ∀ (x q : Int), IntKind.wrap .i64 ((IntKind.wrap .i64 x).tdiv 2) = q → quoO .i64 (IntKind.wrap .i64 x) 2 = some q := fun x q e => by unfold quoO; rw [if_neg (by omega), e]
  rcases this with rfl | rfl | rfl | rfl | rfl | rfl | rfl | rfl | rfl | rfl | rfl | rfl | rfl | rfl | rfl | rfl
  · exact ⟨0, 1, hq _ _ (by decide), hs _ _ (by decide) (by decide), by decide, by decide⟩
  · exact ⟨0, 1, hq _ _ (by decide), hs _ _ (by decide) (by decide), by decide, by decide⟩
  · exact ⟨1, 2, hq _ _ (by decide), hs _ _ (by decide) (by decide), by decide, by decide⟩
  · exact ⟨1, 2, hq _ _ (by decide), hs _ _ (by decide) (by decide), by decide, by decide⟩
  · exact ⟨2, 4, hq _ _ (by decide), hs _ _ (by decide) (by decide), by decide, by decide⟩
  · exact ⟨2, 4, hq _ _ (by decide), hs _ _ (by decide) (by decide), by decide, by decide⟩
  · exact ⟨3, 8, hq _ _ (by decide), hs _ _ (by decide) (by decide), by decide, by decide⟩
  · exact ⟨3, 8, hq _ _ (by decide), hs _ _ (by decide) (by decide), by decide, by decide⟩
  · exact ⟨4, 16, hq _ _ (by decide), hs _ _ (by decide) (by decide), by decide, by decide⟩
  · exact ⟨4, 16, hq _ _ (by decide), hs _ _ (by decide) (by decide), by decide, by decide⟩
  · exact ⟨5, 32, hq _ _ (by decide), hs _ _ (by decide) (by decide), by decide, by decide⟩
  · exact ⟨5, 32, hq _ _ (by decide), hs _ _ (by decide) (by decide), by decide, by decide⟩
  · exact ⟨6, 64, hq _ _ (by decide), hs _ _ (by decide) (by decide), by decide, by decide⟩
  · exact ⟨6, 64, hq _ _ (by decide), hs _ _ (by decide) (by decide), by decide, by decide⟩
  · exact ⟨7, 128, hq _ _ (by decide), hs _ _ (by decide) (by decide), by decide, by decide⟩
  · exact ⟨7, 128, hq _ _ (by decide), hs _ _ (by decide) (by decide), by decide, by decide⟩
theorem floor_ok (n : Int) (h1 : n ≤ 65535) : Ok (iy n) (fun r => (0 ≤ r ∧ r ≤ 255) ∧ (0 ≤ n → r * r ≤ n) ∧ n < (r + 1) * (r + 1)) := by
  unfold iy
  refine Ok.iteD (fun h => Ok.ret ⟨⟨by omega, by omega⟩, fun h' => by omega, by simp; omega⟩) (fun h => ?_)
  have hw : IntKind.wrap .u64 n = n := IntWalk.u64_in _ (by omega)
  rw [hw]
  refine Ok.bind (len_ok (by omega) h1) (fun L hL => ?_)
  obtain ⟨⟨l0, l1⟩, l2⟩ := hL
  obtain ⟨L, rfl⟩ : ∃ k : Nat, L = k := ⟨L.toNat, by omega⟩
  obtain ⟨q, b, e1, e2, e3, e4⟩ := start_at L (by omega) (by omega)
  rw [e1, Option.bind_some, e2, Option.bind_some]
  have hb := bit_pos b e3
  refine Ok.bind (floor_loop n (by omega) h1 (0, b) (.inr ⟨e3, 0, by simp, by omega, by simp only; omega, by simp only; omega, ?_⟩)) (fun r hr => Ok.ret ⟨hr.1, fun _ => hr.2.1, hr.2.2⟩)
  simp only
  rw [Int.toNat_natCast] at l2
  exact Int.lt_of_lt_of_le l2 e4
theorem ceil_ok (n : Int) (h0 : 0 ≤ n) (h1 : n ≤ 65535) : Ok (kO n) (fun r => (0 ≤ r ∧ r ≤ 256) ∧ n ≤ r * r) := by
  unfold kO
  refine Ok.bind (floor_ok n h1) (fun x hx => ?_)
  obtain ⟨⟨a0, a1⟩, a2, a3⟩ := hx
  have := a2 h0
  have hxx : 0 ≤ x * x := Int.mul_nonneg a0 a0
  rw [w64 (n := x * x) (by omega) (by omega), w64 (n := x + 1) (by omega) (by omega)]
  exact Ok.iteD (fun _ => Ok.ret ⟨⟨by omega, by omega⟩, Int.le_of_lt a3⟩) (fun _ => Ok.ret ⟨⟨by omega, by omega⟩, by omega⟩)
end Go.Dw.De


set_option maxRecDepth 100000
set_option maxHeartbeats 4000000
namespace Go.Dw.De
open Go.Dw Go.Proofs

structure TabV (t : aK) : Prop where
  step : 1 ≤ t.bt ∧ t.bt ≤ 100
  len : 2 ≤ t.a8.length ∧ t.a8.length ≤ 30
  same : t.aU.length = t.a8.length
  low : t.a8.Pairwise (· ≤ ·)
  high : t.aU.Pairwise (· ≤ ·)
  lows : ∀ x ∈ t.a8, 0 ≤ x
  highs : ∀ x ∈ t.aU, 0 ≤ x ∧ x ≤ 5000
  lh : ∀ (i : Nat) (h : i < t.a8.length) (h' : i < t.aU.length), t.a8[i] ≤ t.aU[i]
theorem vo {t : aK} (h : TabV t) : dz t = some 0 := by
  obtain ⟨h1, h2, h3, h4, h5, h6, h7, h8⟩ := h
  refine Ok.eq ?_
  unfold dz
  refine Ok.iteD (fun _ => by omega) (fun _ => Ok.iteD (fun _ => by omega) (fun _ => Ok.iteNe (fun h => by omega) (fun _ => Ok.iteD (fun _ => by omega) (fun _ => Ok.iteD (fun _ => by omega) (fun _ => ?_)))))
  refine Ok.bind (P := fun o => o = .inl ()) (Ok.loop (fun s => ∃ i : Nat, s.2.2 = i ∧ i ≤ t.a8.length ∧ (∀ (j : Nat) (hj : j < t.a8.length), i ≤ j → s.1 ≤ t.a8[j]) ∧ (∀ (j : Nat) (hj : j < t.aU.length), i ≤ j → s.2.1 ≤ t.aU[j])) (fun s => ((t.a8.length : Int) - s.2.2).toNat) ?_ ⟨0, rfl, Nat.zero_le _, fun j hj _ => h6 _ (List.getElem_mem hj), fun j hj _ => (h7 _ (List.getElem_mem hj)).1⟩) (fun o ho => by subst ho; exact Ok.ret rfl)
  rintro ⟨s1, s2, s3⟩ ⟨i, i0, i1, i2, i3⟩
  simp only at i0 i2 i3
  subst i0
  unfold jE
  dsimp only
  refine Ok.iteD (fun hlt => ?_) (fun _ => Ok.st rfl)
  have hi : i < t.a8.length := by omega
  have hi' : i < t.aU.length := by omega
  have := i2 i hi (Nat.le_refl _)
  have := i3 i hi' (Nat.le_refl _)
  have := h8 i hi hi'
  have := (h7 _ (List.getElem_mem hi')).2
  simp only [getO_at (i := i) rfl hi, getO_at (i := i) rfl hi', Option.bind_some]
  refine Ok.iteD (fun _ => by omega) (fun _ => Ok.iteD (fun _ => by omega) (fun _ => Ok.iteD (fun _ => by omega) (fun _ => Ok.iteD (fun _ => by omega) (fun _ => ?_))))
  rw [w64 (by omega) (by omega)]
  refine Ok.nx ⟨i + 1, by simp, by omega, fun j hj h => ?_, fun j hj h => ?_⟩ (by simp only; omega)
  · exact List.pairwise_iff_getElem.1 h4 i j hi hj (by omega)
  · exact List.pairwise_iff_getElem.1 h5 i j hi' hj (by omega)
theorem snoc_le {l : List Int} {x : Int} (h : l.Pairwise (· ≤ ·)) (hx : ∀ y ∈ l, y ≤ x) : (l ++ [x]).Pairwise (· ≤ ·) :=
  List.pairwise_append.2 ⟨h, by simp, fun a ha b hb => by rw [List.mem_singleton.1 hb]; exact hx a ha⟩
structure TI (d : Src) (lo hi k : Int) (L H : List Int) : Prop where
  ck : 0 ≤ k ∧ k ≤ 23
  ll : L.length = k.toNat
  hl : H.length = k.toNat
  clo : 0 ≤ lo ∧ lo ≤ 60 * k
  chi : 0 ≤ hi ∧ hi ≤ 100 * k + 2
  cd : bV d
  pl : L.Pairwise (· ≤ ·)
  ph : H.Pairwise (· ≤ ·)
  ls : ∀ x ∈ L, 0 ≤ x ∧ x ≤ lo
  hs : ∀ x ∈ H, 0 ≤ x ∧ x ≤ hi
  lh : lo ≤ hi
  le : ∀ (i : Nat) (h : i < L.length) (h' : i < H.length), L[i] ≤ H[i]
theorem tableV (d : Src) (hd : bV d) : Ok (mj d) (fun r => TabV r.1 ∧ bV r.2) := by
  unfold mj
  refine Ok.bind (e9 _ d hd (by simp) (by simp)) (fun x1 h1 => ?_)
  obtain ⟨hst, h1⟩ := h1
  have hst : x1.1 = 20 ∨ x1.1 = 25 ∨ x1.1 = 40 ∨ x1.1 = 100 := by simpa using hst
  refine Ok.bind (eQ _ _ h1 (by omega) (by omega)) (fun x2 h2 => ?_)
  have hq : ∃ q, IntKind.wrap .i64 ((400 : Int).tdiv x1.1) = q ∧ 4 ≤ q ∧ q ≤ 20 := by
    rcases hst with e | e | e | e <;> rw [e] <;> exact ⟨_, rfl, by decide, by decide⟩
  have hp : ∃ q, IntKind.wrap .i64 (x1.1.tdiv 4) = q ∧ 0 ≤ q ∧ q ≤ 25 := by
    rcases hst with e | e | e | e <;> rw [e] <;> exact ⟨_, rfl, by decide, by decide⟩
  obtain ⟨q, hq, q0, q1⟩ := hq
  obtain ⟨p, hp, p0, p1⟩ := hp
  refine Ok.bind (P := fun o => bV ⟨o.1, o.2.1⟩ ∧ TabV ⟨x1.1, o.2.2.1, o.2.2.2⟩)
    (Ok.loop (fun s => TI ⟨s.2.2.2.1, s.2.2.2.2.1⟩ s.1 s.2.1 s.2.2.1 s.2.2.2.2.2.1 s.2.2.2.2.2.2) (fun s => (23 - s.2.2.1).toNat) ?_ ⟨⟨by simp, by simp⟩, rfl, rfl, ⟨by simp, by simp⟩, ⟨by simp only; omega, by simp only; omega⟩, h2.2.2, by simp, by simp, by simp, by simp, by simp only; omega, by simp⟩) ?_
  · rintro ⟨s3, s4, s5, s6, s7, s8, s9⟩ hI
    simp only at hI
    obtain ⟨i0, i1, i2, i3, i4, i5, i6, i7, i8, i9, i10, i11⟩ := hI
    unfold nm
    refine Ok.bind (Ok.quo (by omega)) (fun y1 g1 => ?_)
    rw [hq] at g1; subst g1
    refine Ok.bind (eQ _ _ i5 (by omega) (by omega)) (fun y2 g2 => ?_)
    rw [w64 (n := y1 + y2.1) (by omega) (by omega)]
    refine Ok.iteD (fun hle => ?_) (fun hgt => ?_)
    · refine Ok.bind (Ok.app (by simp only [List.length_cons, List.length_nil]; omega)) (fun y3 g3 => ?_)
      refine Ok.bind (Ok.app (by simp only [List.length_cons, List.length_nil]; omega)) (fun y4 g4 => ?_)
      refine Ok.bind (e9 _ _ g2.2.2 (by simp) (by simp)) (fun y5 g5 => ?_)
      refine Ok.bind (Ok.quo (by omega)) (fun y6 g6 => ?_)
      rw [hp] at g6; subst g6
      refine Ok.bind (e9 _ _ g5.2 (by simp) (by simp)) (fun y7 g7 => ?_)
      have a1 : 0 ≤ y5.1 ∧ y5.1 ≤ 35 := by have := g5.1; simp at this; omega
      have a2 : 0 ≤ y7.1 ∧ y7.1 ≤ 30 := by have := g7.1; simp at this; omega
      rw [w64 (n := y5.1 + y6) (by omega) (by omega), w64 (n := s3 + (y5.1 + y6)) (by omega) (by omega), w64 (n := s5 + 1) (by omega) (by omega), w64 (by split <;> omega) (by split <;> omega)]
      subst g3 g4
      refine Ok.nx ⟨⟨by simp only; omega, by simp only; omega⟩, ?_, ?_, ⟨by simp only; omega, by simp only; omega⟩, ⟨by simp only; split <;> omega, by simp only; split <;> omega⟩, g7.2, snoc_le i6 fun y hy => (i8 y hy).2, snoc_le i7 fun y hy => (i9 y hy).2, ?_, ?_, by simp only; split <;> omega, ?_⟩ (by simp only; omega)
      · simp only [List.length_append, List.length_cons, List.length_nil]; omega
      · simp only [List.length_append, List.length_cons, List.length_nil]; omega
      · intro x hx
        simp only [List.mem_append, List.mem_singleton] at hx
        rcases hx with hx | rfl
        · have := i8 x hx; simp only; omega
        · simp only; omega
      · intro x hx
        simp only [List.mem_append, List.mem_singleton] at hx
        rcases hx with hx | rfl
        · have := i9 x hx; simp only; split <;> omega
        · simp only; split <;> omega
      · intro i h h'
        simp only [List.length_append, List.length_cons, List.length_nil] at h h'
        by_cases hi : i < s8.length
        · rw [List.getElem_append_left hi, List.getElem_append_left (by omega)]
          exact i11 i hi (by omega)
        · have e1 : i = s8.length := by omega
          rw [List.getElem_append_right (by omega), List.getElem_append_right (by omega)]
          simp only [List.getElem_singleton]; omega
    · exact Ok.st ⟨g2.2.2, ⟨by simp only; omega, by simp only; omega⟩, ⟨by simp only; omega, by simp only; omega⟩, by simp only; omega, i6, i7, fun x hx => (i8 x hx).1, fun x hx => by have := i9 x hx; omega, i11⟩
  · intro o ho
    exact Ok.ret ⟨ho.2, ho.1⟩
theorem assocV (d : Src) (hd : bV d) : Ok (fr 3 d) (fun r => (wI r.1.aS ∧ TabV r.1.bv ∧ (1 ≤ r.1.vw ∧ r.1.vw ≤ 1000) ∧ (0 ≤ r.1.br ∧ r.1.br ≤ 1000) ∧ (0 ≤ r.1.jJ ∧ r.1.jJ ≤ 1000) ∧ (0 ≤ r.1.kj ∧ r.1.kj ≤ 1000) ∧ (2 ≤ r.1.kg ∧ r.1.kg ≤ 3)) ∧ bV r.2) := by
  unfold fr
  refine Ok.bind (box_ok 20 3 (by omega) (by omega) (by omega) (by omega) d hd) (fun x1 h1 => ?_)
  refine Ok.bind (tableV _ h1.2) (fun x2 h2 => ?_)
  refine Ok.bind (e9 _ _ h2.2 (by simp) (by simp)) (fun x3 h3 => ?_)
  refine Ok.bind (e9 _ _ h3.2 (by simp) (by simp)) (fun x4 h4 => ?_)
  refine Ok.bind (e9 _ _ h4.2 (by simp) (by simp)) (fun x5 h5 => ?_)
  refine Ok.bind (e9 _ _ h5.2 (by simp) (by simp)) (fun x6 h6 => ?_)
  refine Ok.bind (eQ _ _ h6.2 (by omega) (by omega)) (fun x7 h7 => ?_)
  have a3 := h3.1
  have a4 := h4.1
  have a5 := h5.1
  have a6 := h6.1
  simp at a3 a4 a5 a6
  rw [w64 (n := 2 + x7.1) (by omega) (by omega)]
  exact Ok.ret ⟨⟨h1.1, h2.1, by simp only; omega, by simp only; omega, by simp only; omega, by simp only; omega, by simp only; omega⟩, h7.2.2⟩
theorem third {x : Int} (h : 0 ≤ x) (h' : x ≤ 1000000) : IntKind.wrap .i64 (x.tdiv 3) = x / 3 := by
  rw [Int.tdiv_eq_ediv_of_nonneg h, w64 (by omega) (by omega)]
theorem tab_third {t : aK} (h : TabV t) : TabV ⟨t.bt, t.a8.map (· / 3), t.aU.map (· / 3)⟩ := by
  obtain ⟨h1, h2, h3, h4, h5, h6, h7, h8⟩ := h
  refine ⟨h1, by simpa using h2, by simpa using h3, ?_, ?_, ?_, ?_, ?_⟩
  · rw [List.pairwise_map]; exact h4.imp fun h => by omega
  · rw [List.pairwise_map]; exact h5.imp fun h => by omega
  · intro x hx
    obtain ⟨y, hy, rfl⟩ := List.mem_map.1 hx
    have := h6 y hy; omega
  · intro x hx
    obtain ⟨y, hy, rfl⟩ := List.mem_map.1 hx
    have := h7 y hy; omega
  · intro i h h'
    simp only [List.length_map] at h h'
    simp only [List.getElem_map]
    have := h8 i h h'; omega
theorem scaleV (d : Src) (hd : bV d) : Ok (og d) (fun r => (TabV r.1.aZ ∧ (0 ≤ r.1.aX ∧ r.1.aX ≤ 20) ∧ (1 ≤ r.1.aP ∧ r.1.aP ≤ 20)) ∧ bV r.2) := by
  unfold og
  refine Ok.bind (tableV _ hd) (fun x1 h1 => ?_)
  refine Ok.bind (eQ _ _ h1.2 (by omega) (by omega)) (fun x2 h2 => ?_)
  refine Ok.bind (eQ _ _ h2.2.2 (by omega) (by omega)) (fun x3 h3 => ?_)
  have hT := h1.1
  have hl := hT.len; have hs := hT.same
  generalize hL : x1.1.a8 = L at *
  generalize hH : x1.1.aU = H at *
  refine Ok.bind (P := fun o => o = (L.map (· / 3), H.map (· / 3))) (Ok.loop (fun s : Int × List Int × List Int => ∃ i : Nat, s = ((i : Int), (L.take i).map (· / 3) ++ L.drop i, (H.take i).map (· / 3) ++ H.drop i) ∧ i ≤ L.length) (fun s => ((L.length : Int) - s.1).toNat) ?_ ⟨0, by simp, Nat.zero_le _⟩) (fun o ho => ?_)
  · rintro s ⟨i, rfl, hi⟩
    unfold nk
    dsimp only
    rw [hL]
    refine Ok.iteD (fun hlt => ?_) (fun hge => ?_)
    · have hi : i < L.length := by omega
      have hi' : i < H.length := by omega
      have b1 := hT.lows (L[i]) (by rw [hL]; exact List.getElem_mem hi)
      have b2 := hT.highs (H[i]) (by rw [hH]; exact List.getElem_mem hi')
      have b3 := hT.lh i (by rw [hL]; exact hi) (by rw [hH]; exact hi')
      simp only [hL, hH] at b3
      have hdrop : ∀ {M : List Int} (h : i < M.length), (M.take i).map (· / 3) ++ M.drop i = (M.take i).map (· / 3) ++ M[i] :: M.drop (i + 1) := fun {M} h => by rw [List.drop_eq_getElem_cons h]
      have hlen : ∀ {M : List Int}, i < M.length → ((M.take i).map (· / 3)).length = i := fun {M} h => by simp; omega
      have hset : ∀ {M : List Int} (h : i < M.length), (M.take i).map (· / 3) ++ M[i] / 3 :: M.drop (i + 1) = (M.take (i + 1)).map (· / 3) ++ M.drop (i + 1) := fun {M} h => by
        rw [take_succ_at h, List.map_append, List.append_assoc]; rfl
      rw [hdrop hi, hdrop hi']
      have n1 : ∀ {M : List Int} (h : i < M.length) (z : Int), inO ((M.take i).map (· / 3) ++ z :: M.drop (i + 1)) (i : Int) = some () := fun {M} h z => inO_at (by omega) (by rw [List.length_append, hlen h]; simp; omega)
      rw [n1 hi, Option.bind_some, get1 _ _ _ (by rw [hlen hi]), Option.bind_some]
      refine Ok.bind (Ok.quo (by omega)) (fun y2 g2 => ?_)
      rw [third b1 (by omega)] at g2
      subst g2
      rw [n1 hi', Option.bind_some, get1 _ _ _ (by rw [hlen hi']), Option.bind_some]
      refine Ok.bind (Ok.quo (by omega)) (fun y4 g4 => ?_)
      rw [third b2.1 (by omega)] at g4
      subst g4
      rw [Option.bind_some, set1 _ _ _ _ (by rw [hlen hi]), Option.bind_some, Option.bind_some, set1 _ _ _ _ (by rw [hlen hi']), Option.bind_some, w64 (by omega) (by omega), hset hi, hset hi']
      exact Ok.nx ⟨i + 1, by simp, by omega⟩ (by simp only; omega)
    · have : i = L.length := by omega
      subst this
      refine Ok.st ?_
      rw [List.take_length, List.drop_length, List.append_nil, List.take_of_length_le (by omega), List.drop_of_length_le (by omega), List.append_nil]
  · subst ho
    rw [w64 (n := 1 + x3.1) (by omega) (by omega)]
    have := tab_third hT
    rw [hL, hH] at this
    exact Ok.ret ⟨⟨this, by simp only; omega, by simp only; omega⟩, h3.2.2⟩
structure SetV (s : aG) : Prop where
  box : wI s.au.aS
  tab : TabV s.au.bv
  cap : 1 ≤ s.au.vw ∧ s.au.vw ≤ 1000
  tol : 0 ≤ s.au.br ∧ s.au.br ≤ 1000
  span : 0 ≤ s.au.jJ ∧ s.au.jJ ≤ 1000
  limit : 0 ≤ s.au.kj ∧ s.au.kj ≤ 1000
  least : 2 ≤ s.au.kg ∧ s.au.kg ≤ 3
  cor : TabV s.bR.aZ
  num : 0 ≤ s.bR.aX ∧ s.bR.aX ≤ 20
  den : 1 ≤ s.bR.aP ∧ s.bR.aP ≤ 20
  tolerance : 0 ≤ s.br ∧ s.br ≤ 1000
theorem settingsV (d : Src) (hd : bV d) : Ok (ew 3 d) (fun r => SetV r.1 ∧ bV r.2) := by
  unfold ew
  refine Ok.bind (assocV d hd) (fun x1 h1 => ?_)
  refine Ok.bind (scaleV _ h1.2) (fun x2 h2 => ?_)
  refine Ok.bind (e9 _ _ h2.2 (by simp) (by simp)) (fun x3 h3 => ?_)
  have a3 := h3.1
  simp at a3
  obtain ⟨⟨a, b, c, e, f, g, h⟩, -⟩ := h1
  exact Ok.ret ⟨⟨a, b, c, e, f, g, h, h2.1.1, h2.1.2.1, h2.1.2.2, by simp only; omega⟩, h3.2⟩
theorem sJ {p : ap} (h : oJ 60 p) : dl p = some true := by
  obtain ⟨h1, h2, h3⟩ := h
  refine Ok.eq ?_
  unfold dl c7
  rw [Option.bind_some]
  dsimp only
  exact Ok.iteD (fun _ => by omega) (fun _ => Ok.iteD (fun _ => by omega) (fun _ => Ok.iteD (fun _ => by omega) (fun _ => Ok.iteD (fun _ => by omega) (fun _ => Ok.iteD (fun _ => by omega) (fun _ => Ok.iteD (fun _ => by omega) (fun _ => Ok.ret rfl))))))
theorem box_pos {b : aL} (h : wI b) : oJ 60 b.a8 ∧ oJ 60 b.aU := by
  obtain ⟨⟨h1, h2, h3⟩, h4, h5, h6⟩ := h
  exact ⟨⟨by omega, by omega, by omega⟩, by omega, by omega, by omega⟩
theorem uP {b : aL} (h : wI b) : cJ b = some true := by
  obtain ⟨hl, hh⟩ := box_pos h
  obtain ⟨-, h4, h5, h6⟩ := h
  refine Ok.eq ?_
  unfold cJ
  rw [sJ hl, Option.bind_some, if_neg (by simp), sJ hh, Option.bind_some, if_neg (by simp)]
  unfold c7
  rw [Option.bind_some, Option.bind_some]
  dsimp only
  exact Ok.iteD (fun _ => by omega) (fun _ => Ok.iteD (fun _ => by omega) (fun _ => Ok.iteD (fun _ => by omega) (fun _ => Ok.ret rfl)))
theorem set_valid {s : aG} (h : SetV s) : fk s = some 0 := by
  obtain ⟨h1, h2, h3, h4, h5, h6, h7, h8, h9, h10, h11⟩ := h
  have hin : ∀ {x a b : Int}, a ≤ x → x ≤ b → gb x a b = some true := fun h h' => by
    unfold gb; rw [if_pos (by simpa using h)]; simpa using h'
  have ha : fO s.au [] = some 0 := by
    unfold fO
    rw [uP h1, Option.bind_some, if_neg (by simp), vo h2, Option.bind_some, if_neg (by simp), hin (by omega) (by omega), Option.bind_some, if_neg (by simp), hin (by omega) (by omega), Option.bind_some, if_neg (by simp), hin (by omega) (by omega), Option.bind_some, if_neg (by simp), hin (by omega) (by omega), Option.bind_some, if_neg (by simp), hin (by omega) (by omega), Option.bind_some, if_neg (by simp), if_neg (by simp)]
    have : eV [] s.au (0 : Int) = some (.stop (.inl ())) := by
      unfold eV
      rw [if_neg (by simp)]
    rw [loopO_stop this]; rfl
  have hm : eL s.bR = some true := by
    unfold eL
    rw [vo h8, Option.bind_some, if_pos (by simp), if_pos (by simp; omega), if_pos (by simp; omega), if_pos (by simp; omega)]
    simp; omega
  unfold fk
  rw [ha, Option.bind_some, if_neg (by simp), hm, Option.bind_some, if_neg (by simp), if_neg (by simp; omega), if_neg (by simp; omega)]

theorem sq_in {x : Int} (h : -120 ≤ x ∧ x ≤ 120) : 0 ≤ x * x ∧ x * x ≤ 14400 := by
  constructor
  · rcases Int.le_total 0 x with h' | h'
    · exact Int.mul_nonneg h' h'
    · exact Int.mul_nonneg_of_nonpos_of_nonpos h' h'
  · rcases Int.le_total 0 x with h' | h'
    · exact Int.mul_le_mul h.2 h.2 h' (by omega)
    · rw [← Int.neg_mul_neg]
      exact Int.mul_le_mul (show -x ≤ 120 by omega) (show -x ≤ 120 by omega) (by omega) (by omega)
theorem yk {a b c : Int} (ha : -60 ≤ a ∧ a ≤ 60) (hb : -60 ≤ b ∧ b ≤ 60) (hc : -60 ≤ c ∧ c ≤ 60) : Ok (eH a b c) (fun r => -120 ≤ r ∧ r ≤ 120) := by
  unfold eH
  rw [w64 (n := a - c) (by omega) (by omega), w64 (n := b - a) (by omega) (by omega)]
  refine Ok.ret ?_
  split <;> split <;> omega
theorem wU {a b c : Int} (ha : -60 ≤ a ∧ a ≤ 60) (hb : -60 ≤ b ∧ b ≤ 60) (hc : -60 ≤ c ∧ c ≤ 60) : Ok (d9 a b c) (fun r => -120 ≤ r ∧ r ≤ 120) := by
  unfold d9
  rw [w64 (n := a - b) (by omega) (by omega), w64 (n := c - a) (by omega) (by omega)]
  refine Ok.ret ?_
  split <;> omega
theorem sum_ok {x y z : Int} (hx : -120 ≤ x ∧ x ≤ 120) (hy : -120 ≤ y ∧ y ≤ 120) (hz : -120 ≤ z ∧ z ≤ 120) :
    ∃ r, IntKind.wrap .i64 ((IntKind.wrap .i64 ((IntKind.wrap .i64 ((0 : Int) + (IntKind.wrap .i64 (x * x)))) + (IntKind.wrap .i64 (y * y)))) + (IntKind.wrap .i64 (z * z))) = r ∧ 0 ≤ r ∧ r ≤ 43200 := by
  have h1 := sq_in hx
  have h2 := sq_in hy
  have h3 := sq_in hz
  rw [w64 (n := x * x) (by omega) (by omega), w64 (n := y * y) (by omega) (by omega), w64 (n := z * z) (by omega) (by omega), w64 (n := 0 + x * x) (by omega) (by omega), w64 (n := 0 + x * x + y * y) (by omega) (by omega), w64 (by omega) (by omega)]
  exact ⟨_, rfl, by omega, by omega⟩
theorem squares_ok {t : aK} {b : aL} (hb : wI b) {p : ap} (hp : oJ 60 p) : Ok (kN t b p) (fun r => r.1 = t ∧ (0 ≤ r.2.1 ∧ r.2.1 ≤ 43200) ∧ (0 ≤ r.2.2 ∧ r.2.2 ≤ 43200)) := by
  obtain ⟨hl, hh⟩ := box_pos hb
  have h1 : Ok (kP b p) (fun r => 0 ≤ r ∧ r ≤ 43200) := by
    unfold kP e7
    rw [Option.bind_fun_some, uP hb, Option.bind_some, if_neg (by simp), sJ hp, Option.bind_some, if_neg (by simp)]
    unfold c7
    rw [Option.bind_some, Option.bind_some, Option.bind_some]
    dsimp only
    refine Ok.bind (yk hp.1 hl.1 hh.1) (fun x hx => ?_)
    refine Ok.bind (yk hp.2.1 hl.2.1 hh.2.1) (fun y hy => ?_)
    refine Ok.bind (yk hp.2.2 hl.2.2 hh.2.2) (fun z hz => ?_)
    obtain ⟨r, e, hr⟩ := sum_ok hx hy hz
    rw [e]
    exact Ok.ret hr
  have h2 : Ok (mo b p) (fun r => 0 ≤ r ∧ r ≤ 43200) := by
    unfold mo eI
    rw [Option.bind_fun_some, uP hb, Option.bind_some, if_neg (by simp), sJ hp, Option.bind_some, if_neg (by simp)]
    unfold c7
    rw [Option.bind_some, Option.bind_some, Option.bind_some]
    dsimp only
    refine Ok.bind (wU hp.1 hl.1 hh.1) (fun x hx => ?_)
    refine Ok.bind (wU hp.2.1 hl.2.1 hh.2.1) (fun y hy => ?_)
    refine Ok.bind (wU hp.2.2 hl.2.2 hh.2.2) (fun z hz => ?_)
    obtain ⟨r, e, hr⟩ := sum_ok hx hy hz
    rw [e]
    exact Ok.ret hr
  unfold kN
  refine Ok.bind h1 (fun x hx => Ok.bind h2 (fun y hy => Ok.ret ⟨rfl, hx, hy⟩))
theorem half_at : ∀ x : Nat, x < 600 → IntKind.wrap .i64 (shrI .u64 (IntKind.wrap .u64 (IntKind.wrap .i64 (x : Int))) 1) = ((x / 2 : Nat) : Int) := by decide +kernel
theorem search_ok {t : aK} (ht : TabV t) (d : Int) (hd : d ≤ t.bt * ((t.a8.length : Int) - 1)) : Ok (ir (t.aU.length : Int) t d) (fun r => 0 ≤ r ∧ r < t.aU.length) := by
  have hl := ht.len; have hs := ht.same; have hst := ht.step
  unfold ir
  rw [Option.bind_fun_some]
  refine Ok.loop (fun s => ∃ i j : Nat, s = ((i : Int), (j : Int)) ∧ i < t.aU.length ∧ i ≤ j ∧ j ≤ t.aU.length) (fun s => (s.2 - s.1).toNat) ?_ ⟨0, t.aU.length, rfl, by omega, by omega, Nat.le_refl _⟩
  rintro s ⟨i, j, rfl, i0, i1, i2⟩
  unfold jD
  dsimp only
  refine Ok.iteD (fun hlt => ?_) (fun _ => Ok.st ⟨by omega, by omega⟩)
  have hh := half_at (i + j) (by omega)
  rw [Int.natCast_add] at hh
  have hk1 : (i + j) / 2 < j := by omega
  have hk2 : i ≤ (i + j) / 2 := by omega
  rw [hh]
  generalize (i + j) / 2 = k at *
  unfold gP
  have hb : 0 ≤ (k : Int) * t.bt ∧ (k : Int) * t.bt ≤ 30 * 100 := ⟨Int.mul_nonneg (by omega) (by omega), Int.mul_le_mul (by omega) (by omega) (by omega) (by omega)⟩
  rw [w64 (n := (k : Int) * t.bt) (by omega) (by omega), Option.bind_some]
  refine Ok.iteND (fun hlt => ?_) (fun _ => Ok.nx ⟨i, k, rfl, i0, hk2, by omega⟩ (by simp only; omega))
  rw [w64 (by omega) (by omega)]
  refine Ok.nx ⟨k + 1, j, by simp, ?_, by omega, i2⟩ (by simp only; omega)
  have h1 : (k : Int) * t.bt < t.bt * ((t.a8.length : Int) - 1) := by omega
  rw [Int.mul_comm] at h1
  have := Int.lt_of_mul_lt_mul_left h1 (by omega)
  omega
theorem between_ok {t : aK} (ht : TabV t) (n f : Int) (hn : n ≤ 65535) (hf : f ≤ 65535) : Ok (jX t n f) (fun _ => True) := by
  have hl := ht.len; have hs := ht.same; have hst := ht.step
  unfold jX
  rw [vo ht, Option.bind_some, if_neg (by simp)]
  refine Ok.iteD (fun _ => Ok.ret trivial) (fun h0 => Ok.iteD (fun _ => Ok.ret trivial) (fun h1 => ?_))
  refine Ok.bind (ceil_ok f (by omega) hf) (fun c hc => ?_)
  have hb : 0 ≤ t.bt * ((t.a8.length : Int) - 1) ∧ t.bt * ((t.a8.length : Int) - 1) ≤ 100 * 30 := ⟨Int.mul_nonneg (by omega) (by omega), Int.mul_le_mul (by omega) (by omega) (by omega) (by omega)⟩
  unfold pL
  rw [Option.bind_some, w64 (n := (t.a8.length : Int) - 1) (by omega) (by omega), w64 (by omega) (by omega)]
  refine Ok.iteD (fun _ => Ok.ret trivial) (fun h2 => ?_)
  refine Ok.bind (search_ok ht c (by omega)) (fun u hu => ?_)
  refine Ok.bind (floor_ok n hn) (fun x hx => ?_)
  obtain ⟨⟨x0, x1⟩, x2, -⟩ := hx
  have x2 := x2 (by omega)
  have hxc : x ≤ c := by
    apply Classical.byContradiction
    intro h
    have : (c + 1) * (c + 1) ≤ x * x := Int.mul_le_mul (by omega) (by omega) (by omega) (by omega)
    have h4 : (c + 1) * (c + 1) = c * c + 2 * c + 1 := by rw [Int.add_mul, Int.mul_add]; omega
    omega
  refine Ok.bind (Ok.quo (by omega)) (fun q hq => ?_)
  have hq0 : 0 ≤ x.tdiv t.bt := Int.tdiv_nonneg x0 (by omega)
  have hq1 : x.tdiv t.bt ≤ (t.a8.length : Int) - 1 := by
    rw [Int.tdiv_eq_ediv_of_nonneg x0]
    exact Int.ediv_le_of_le_mul (by omega) (by rw [Int.mul_comm]; omega)
  rw [w64 (by omega) (by omega)] at hq
  subst hq
  refine Ok.bind (Ok.get hq0 (by omega)) (fun _ _ => ?_)
  exact Ok.bind (Ok.get hu.1 hu.2) (fun _ _ => Ok.ret trivial)
theorem zone_ok {t : aK} (ht : TabV t) {b : aL} (hb : wI b) {a : ak} (ha : oJ 60 a.aA) : Ok (nT t b a) (fun _ => True) := by
  unfold nT
  rw [vo ht, Option.bind_some, if_neg (by simp), uP hb, Option.bind_some, if_neg (by simp)]
  have hv : Ok (il a) (fun _ => True) := by
    unfold il
    rw [sJ ha, Option.bind_some, if_pos rfl]
    exact Ok.iteD (fun _ => Ok.iteD (fun _ => Ok.iteD (fun _ => Ok.iteD (fun _ => Ok.ret trivial) (fun _ => Ok.ret trivial)) (fun _ => Ok.ret trivial)) (fun _ => Ok.ret trivial)) (fun _ => Ok.ret trivial)
  refine Ok.bind hv (fun v _ => Ok.iteN (fun _ => Ok.ret trivial) (fun _ => ?_))
  refine Ok.bind (P := fun _ => True) ?_ (fun r _ => Ok.iteNe (fun _ => Ok.ret trivial) (fun _ => Ok.ret trivial))
  unfold lS
  rw [vo ht, Option.bind_some, if_neg (by simp), uP hb, Option.bind_some, if_neg (by simp), sJ ha, Option.bind_some, if_neg (by simp)]
  refine Ok.bind (squares_ok hb ha) (fun r hr => ?_)
  obtain ⟨rfl, h1, h2⟩ := hr
  exact Ok.bind (between_ok ht _ _ (by omega) (by omega)) (fun _ _ => Ok.ret trivial)
end Go.Dw.De


set_option maxRecDepth 100000
set_option maxHeartbeats 4000000
namespace Go.Dw.De
open Go.Dw Go.Proofs
open Sd (tU sQ sI)

abbrev home (p : Pick) (m : List (Pick × Int)) : Int := mGet pP p (0 : Int) m
structure Home (X : List (List Pick)) (m : List (Pick × Int)) : Prop where
  at_ : ∀ (j : Nat) (h : j < X.length) (p : Pick), p ∈ X[j] → home p m = j + 1
  no : ∀ p, p ∉ X.flatten → home p m = 0
structure IV (v : ae) : Prop where
  len : yb v
  val : bQ v = some true
theorem xm.facts {n : Int} {l : List Pick} {X : List (List Pick)} (h : xm n l X) (hl : l.length ≤ 1000) : X.length ≤ 1000 ∧ (∀ g ∈ X, g ≠ [] ∧ g.length ≤ 1000) ∧ X.flatten.Nodup ∧ ∀ p, p ∈ X.flatten ↔ p ∈ l := by
  obtain ⟨s, e1, e2, e3, e4, e5⟩ := h.flat
  have hfl : X.flatten.length = s.length := e5.length_eq
  refine ⟨by have := len_le h.ne; omega, fun g hg => ⟨h.ne g hg, by have := (List.sublist_flatten_of_mem hg).length_le; omega⟩, ?_, fun p => e5.mem_iff.trans (e4 p)⟩
  refine e5.nodup_iff.2 (e3.imp fun {a b} h e => ?_)
  subst e
  have := gJ.refl a
  omega
end Go.Dw.De
