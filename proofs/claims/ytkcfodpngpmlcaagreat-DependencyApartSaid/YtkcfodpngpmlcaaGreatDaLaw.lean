
import Derived.Test.YtkcfodpngpmlcaaGreatDaFn
import Derived.Test.YtkcfodpngpmlcaaGreatDwPlain
import Derived.Test.YtkcfodpngpmlcaaGreatDwOk
import Derived.Test.YtkcfodpngpmlcaaGreatDaCo
import Derived.KernelRfl



set_option maxRecDepth 100000
set_option maxHeartbeats 4000000
namespace Go.Dw.Da
namespace So
open Go.Dw
abbrev Src := ae
theorem byteO_at {s : List UInt8} {n : Int} {i : Nat} (hn : n = i) (hi : i < s.length) : byteO s n = some ((s[i].toNat : Nat) : Int) := by
  subst hn
  unfold byteO
  rw [if_pos ⟨by omega, by omega⟩, Int.toNat_natCast, List.getD_eq_getElem?_getD, List.getElem?_eq_getElem hi]; rfl
theorem jj {α : Type} {l m : List α} {b : Nat} (h : (l.length + m.length) * b ≤ 140737488355328) : appO l m b = some (l ++ m) := by
  unfold appO
  rw [if_pos h]
theorem loop_list {α ω : Type} {body : Int → Option (Step1 Int ω)} (l : List α) {p : α → Bool} {u r : ω} (h1 : ∀ (i : Nat) (hi : i < l.length), body i = if p l[i] = true then some (.next ((i + 1 : Nat) : Int)) else some (.stop r))
    (h2 : body (l.length : Nat) = some (.stop u)) : loopO body (0 : Int) = some (if l.all p = true then u else r) := by
  have : ∀ k i, i + k = l.length → loopO body (i : Int) = some (if (l.drop i).all p = true then u else r) := by
    intro k
    induction k with
    | zero =>
      intro i hi
      obtain rfl : i = l.length := by omega
      rw [loopO_stop h2]; simp
    | succ k ih =>
      intro i hi
      have hlt : i < l.length := by omega
      rw [List.drop_eq_getElem_cons hlt, List.all_cons]
      by_cases hp : p l[i] = true
      · rw [loopO_next (by rw [h1 i hlt, if_pos hp]), ih (i + 1) (by omega), hp, Bool.true_and]
      · rw [loopO_stop (by rw [h1 i hlt, if_neg hp])]; simp [hp]
  have := this l.length 0 (by omega)
  simpa using this

def plainB (c : UInt8) : Bool := (decide (65 ≤ c.toNat) && decide (c.toNat ≤ 90)) || (decide (48 ≤ c.toNat) && decide (c.toNat ≤ 57))
theorem dec1 (n : Nat) : decide ((n : Int) ≥ 65) = decide (65 ≤ n) := decide_eq_decide.2 (by omega)
theorem dec2 (n : Nat) : decide ((n : Int) ≤ 90) = decide (n ≤ 90) := decide_eq_decide.2 (by omega)
theorem dec3 (n : Nat) : decide ((n : Int) ≥ 48) = decide (48 ≤ n) := decide_eq_decide.2 (by omega)
theorem dec4 (n : Nat) : decide ((n : Int) ≤ 57) = decide (n ≤ 57) := decide_eq_decide.2 (by omega)
theorem plain_eq (c : UInt8) : eR ((c.toNat : Nat) : Int) = some (plainB c) := by
  unfold eR plainB
  rw [dec1, dec2, dec3, dec4]
  cases decide (65 ≤ c.toNat) <;> cases decide (c.toNat ≤ 90) <;> cases decide (48 ≤ c.toNat) <;> simp
def iF (s : List UInt8) (lo hi : Int) : Bool := s.all plainB && (decide ((s.length : Int) ≥ lo) && decide ((s.length : Int) ≤ hi))
theorem code_l7 {s : List UInt8} (hs : s.length ≤ 9223372036854775807) : loopO (dV s) (0 : Int) = some (if s.all plainB = true then .inl () else .inr false) := by
  refine loop_list s (fun i hi => ?_) ?_
  · unfold dV
    rw [if_pos (by simp; omega), byteO_at rfl hi, w64 (by omega) (by omega)]
    simp only [Option.bind_some, plain_eq]
    cases plainB s[i] <;> simp
  · unfold dV
    rw [if_neg (by simp)]
theorem code_eq {s : List UInt8} (hs : s.length ≤ 9223372036854775807) (lo hi : Int) : dN s lo hi = some (iF s lo hi) := by
  unfold dN iF
  rw [code_l7 hs]
  cases s.all plainB with
  | true => cases decide ((s.length : Int) ≥ lo) <;> simp
  | false => rfl
def SidLen (x : Src) : Prop := x.aj.length ≤ 9223372036854775807 ∧ x.ak.length ≤ 9223372036854775807 ∧ x.ai.length ≤ 9223372036854775807 ∧ x.ap.length ≤ 9223372036854775807
def jd (x : Src) : Bool := iF x.aj 1 2 && (iF x.ak 1 5 && (iF x.ai 0 2 && (decide (x.ai.length ≠ 1) && iF x.ap 3 3)))
theorem Valid_eq {x : Src} (hx : SidLen x) : eQ x = some (jd x) := by
  obtain ⟨h1, h2, h3, h4⟩ := hx
  unfold eQ jd
  simp only [code_eq h1, code_eq h2, code_eq h3, code_eq h4, Option.bind_some]
  have e : ((x.ai.length : Int) != 1) = decide (x.ai.length ≠ 1) := by
    by_cases h : x.ai.length = 1
    · simp [h]
    · simp [h]; omega
  rw [e]
  cases iF x.aj 1 2 <;> cases iF x.ak 1 5 <;> cases iF x.ai 0 2 <;> cases decide (x.ai.length ≠ 1) <;> simp
theorem iM {s : List UInt8} {lo : Int} {hi : Nat} (h : iF s lo hi = true) : s.length ≤ hi := by
  unfold iF at h
  simp only [Bool.and_eq_true, decide_eq_true_eq] at h
  omega
theorem valid_len {x : Src} (h : jd x = true) : x.aj.length ≤ 2 ∧ x.ak.length ≤ 5 ∧ x.ai.length ≤ 2 ∧ x.ap.length ≤ 3 := by
  unfold jd at h
  simp only [Bool.and_eq_true] at h
  exact ⟨iM (hi := 2) h.1, iM (hi := 5) h.2.1, iM (hi := 2) h.2.2.1, iM (hi := 3) h.2.2.2.2⟩

end So
end Go.Dw.Da


set_option maxRecDepth 100000
set_option maxHeartbeats 4000000
namespace Go.Dw.Da
open Go.Dw
abbrev Src := ac
abbrev Pick := aa
abbrev Sid := ae

theorem mod_ok (a b : Int) (h0 : 1 ≤ b) (h1 : b ≤ 1000000000) : Ok (gF a b) (fun r => 0 ≤ r ∧ r < b) := by
  unfold gF
  have hl : a.tmod b < b := Int.tmod_lt_of_pos _ (by omega)
  have hg : -b < a.tmod b := by
    rcases Int.le_total 0 a with h | h
    · have := Int.tmod_nonneg b h; omega
    · have e : a.tmod b = -((-a).tmod b) := by rw [Int.neg_tmod]; omega
      have := Int.tmod_lt_of_pos (-a) (show 0 < b by omega)
      omega
  refine Ok.iteD (fun _ => by omega) (fun _ => ?_)
  refine Ok.bind (Ok.rem (by omega)) (fun x hx => ?_)
  subst hx
  refine Ok.iteD (fun _ => ?_) (fun _ => ?_)
  · rw [w64 (by omega) (by omega)]
    exact Ok.ret (by omega)
  · exact Ok.ret (by omega)
def cI (d : Src) : Prop := 0 ≤ d.fAt ∧ d.fAt ≤ d.fL.length ∧ d.fL.length ≤ 2000
theorem raw_ok (d : Src) (hd : cI d) : Ok (iK d) (fun r => cI r.2) := by
  obtain ⟨h0, h1, h2⟩ := hd
  unfold iK
  refine Ok.iteD (fun _ => Ok.ret ⟨h0, h1, h2⟩) (fun h => ?_)
  rw [w64 (n := d.fAt + 1) (by omega) (by omega), w64 (by omega) (by omega)]
  refine Ok.bind (Ok.get (by omega) (by omega)) (fun x _ => ?_)
  refine Ok.ret ⟨?_, ?_, h2⟩ <;> simp only <;> omega
theorem ex (k : Int) (d : Src) (hd : cI d) (h0 : 1 ≤ k) (h1 : k ≤ 1000000000) : Ok (cr k d) (fun r => 0 ≤ r.1 ∧ r.1 < k ∧ cI r.2) := by
  unfold cr
  refine Ok.bind (raw_ok d hd) (fun x hx => ?_)
  refine Ok.bind (mod_ok _ _ h0 h1) (fun y hy => ?_)
  exact Ok.ret ⟨hy.1, hy.2, hx⟩
theorem fc (l : List Int) (d : Src) (hd : cI d) (h0 : l ≠ []) (h1 : l.length ≤ 1000000) : Ok (c9 l d) (fun r => r.1 ∈ l ∧ cI r.2) := by
  unfold c9
  have := List.length_pos_iff.2 h0
  refine Ok.bind (ex _ d hd (by omega) (by omega)) (fun x hx => ?_)
  refine Ok.bind (Ok.get hx.1 hx.2.1) (fun y hy => ?_)
  exact Ok.ret ⟨hy.1, hx.2.2⟩
def stas : List (List UInt8) := [[83, 49], [83, 50], [83, 51], [83, 52], [83, 53], [83, 54]]
def IsSid (a : Sid) : Prop := So.jd a = true
theorem stas_ok : ∀ x ∈ stas, So.jd ⟨[65, 66], x, [48, 48], [66, 72, 90]⟩ = true := by decide +kernel
theorem source_ok (n : Int) : Ok (da n) IsSid := by
  unfold da
  refine Ok.bind (mod_ok n 6 (by omega) (by omega)) (fun x hx => ?_)
  refine Ok.bind (Ok.get hx.1 hx.2) (fun y hy => ?_)
  exact Ok.ret (stas_ok y hy.1)
theorem new_ok (l : List Int) : Ok (ic l) cI := by
  unfold ic
  refine Ok.bind (Ok.cut (by omega) (by split <;> omega) (by split <;> omega)) (fun x hx => ?_)
  subst hx
  refine Ok.ret ⟨by simp, by simp, ?_⟩
  simp only [List.length_take, List.length_drop]
  split <;> omega


def iq (m : Int) (p : al) : Prop := (-m ≤ p.fX ∧ p.fX ≤ m) ∧ (-m ≤ p.fY ∧ p.fY ≤ m) ∧ (-m ≤ p.fZ ∧ p.fZ ≤ m)
theorem place_ok (m : Int) (h0 : 0 ≤ m) (h1 : m ≤ 1000) (d : Src) (hd : cI d) : Ok (fk m d) (fun r => iq m r.1 ∧ cI r.2) := by
  unfold fk
  rw [w64 (n := 2 * m) (by omega) (by omega), w64 (n := 2 * m + 1) (by omega) (by omega), w64 (n := m + 1) (by omega) (by omega)]
  refine Ok.bind (ex _ _ hd (by omega) (by omega)) (fun y1 g1 => ?_)
  refine Ok.bind (ex _ _ g1.2.2 (by omega) (by omega)) (fun y2 g2 => ?_)
  refine Ok.bind (ex _ _ g2.2.2 (by omega) (by omega)) (fun y3 g3 => ?_)
  rw [w64 (n := y1.1 - m) (by omega) (by omega), w64 (n := y2.1 - m) (by omega) (by omega)]
  exact Ok.ret ⟨⟨by simp only; omega, by simp only; omega, by simp only; omega⟩, g3.2.2⟩
def BoxOk (b : bo) : Prop := iq 40 b.bB ∧ (0 ≤ b.bj.fX - b.bB.fX ∧ b.bj.fX - b.bB.fX ≤ 20) ∧ (0 ≤ b.bj.fY - b.bB.fY ∧ b.bj.fY - b.bB.fY ≤ 20) ∧ (0 ≤ b.bj.fZ - b.bB.fZ ∧ b.bj.fZ - b.bB.fZ ≤ 20)
theorem box_ok (m side : Int) (h0 : 0 ≤ m) (h1 : m ≤ 40) (h2 : 0 ≤ side) (h3 : side ≤ 20) (d : Src) (hd : cI d) : Ok (iJ m side d) (fun r => BoxOk r.1 ∧ cI r.2) := by
  unfold iJ
  rw [w64 (n := side + 1) (by omega) (by omega)]
  refine Ok.bind (place_ok m h0 (by omega) d hd) (fun y0 g0 => ?_)
  refine Ok.bind (ex _ _ g0.2 (by omega) (by omega)) (fun y1 g1 => ?_)
  refine Ok.bind (ex _ _ g1.2.2 (by omega) (by omega)) (fun y2 g2 => ?_)
  refine Ok.bind (ex _ _ g2.2.2 (by omega) (by omega)) (fun y3 g3 => ?_)
  obtain ⟨⟨p1, p2, p3⟩, -⟩ := g0
  rw [w64 (n := y0.1.fX + y1.1) (by omega) (by omega), w64 (n := y0.1.fY + y2.1) (by omega) (by omega), w64 (n := y0.1.fZ + y3.1) (by omega) (by omega)]
  refine Ok.ret ⟨⟨⟨by simp only; omega, by simp only; omega, by simp only; omega⟩, by simp only; omega, by simp only; omega, by simp only; omega⟩, g3.2.2⟩

structure TabOk (t : bK) : Prop where
  step : t.dj = 20 ∨ t.dj = 25 ∨ t.dj = 40 ∨ t.dj = 100
  len : 1 ≤ t.bB.length ∧ t.bB.length ≤ 30
  same : t.bj.length = t.bB.length
  low : ∀ x ∈ t.bB, 0 ≤ x ∧ x ≤ 3000
  high : ∀ x ∈ t.bj, 0 ≤ x ∧ x ≤ 5000
theorem table_ok (d : Src) (hd : cI d) : Ok (fJ d) (fun r => TabOk r.1 ∧ cI r.2) := by
  unfold fJ
  refine Ok.bind (fc _ d hd (by simp) (by simp)) (fun x1 h1 => ?_)
  obtain ⟨hst, h1⟩ := h1
  have hst : x1.1 = 20 ∨ x1.1 = 25 ∨ x1.1 = 40 ∨ x1.1 = 100 := by simpa using hst
  refine Ok.bind (ex _ _ h1 (by omega) (by omega)) (fun x2 h2 => ?_)
  have hq : ∃ q, IntKind.wrap .i64 ((400 : Int).tdiv x1.1) = q ∧ 4 ≤ q ∧ q ≤ 20 := by
    rcases hst with e | e | e | e <;> rw [e] <;> exact ⟨_, rfl, by decide, by decide⟩
  have hp : ∃ q, IntKind.wrap .i64 (x1.1.tdiv 4) = q ∧ 0 ≤ q ∧ q ≤ 25 := by
    rcases hst with e | e | e | e <;> rw [e] <;> exact ⟨_, rfl, by decide, by decide⟩
  obtain ⟨q, hq, q0, q1⟩ := hq
  obtain ⟨p, hp, p0, p1⟩ := hp
  refine Ok.bind (P := fun o => cI ⟨o.1, o.2.1⟩ ∧ (1 ≤ o.2.2.1.length ∧ o.2.2.1.length ≤ 30) ∧ o.2.2.2.length = o.2.2.1.length ∧ (∀ x ∈ o.2.2.1, 0 ≤ x ∧ x ≤ 3000) ∧ (∀ x ∈ o.2.2.2, 0 ≤ x ∧ x ≤ 5000))
    (Ok.loop (fun s => (0 ≤ s.2.2.1 ∧ s.2.2.1 ≤ 23) ∧ s.2.2.2.2.2.1.length = s.2.2.1.toNat ∧ s.2.2.2.2.2.2.length = s.2.2.1.toNat ∧ (0 ≤ s.1 ∧ s.1 ≤ 60 * s.2.2.1) ∧ (0 ≤ s.2.1 ∧ s.2.1 ≤ 100 * s.2.2.1 + 2) ∧ cI ⟨s.2.2.2.1, s.2.2.2.2.1⟩ ∧ (∀ x ∈ s.2.2.2.2.2.1, 0 ≤ x ∧ x ≤ 3000) ∧ (∀ x ∈ s.2.2.2.2.2.2, 0 ≤ x ∧ x ≤ 5000))
      (fun s => (23 - s.2.2.1).toNat) ?_ ⟨⟨by simp, by simp⟩, rfl, rfl, ⟨by simp, by simp⟩, ⟨by simp only; omega, by simp only; omega⟩, h2.2.2, by simp, by simp⟩) ?_
  · rintro ⟨s3, s4, s5, s6, s7, s8, s9⟩ ⟨i0, i1, i2, i3, i4, i5, i6, i7⟩
    simp only at i0 i1 i2 i3 i4 i5 i6 i7
    unfold f5
    refine Ok.bind (Ok.quo (by omega)) (fun y1 g1 => ?_)
    rw [hq] at g1; subst g1
    refine Ok.bind (ex _ _ i5 (by omega) (by omega)) (fun y2 g2 => ?_)
    rw [w64 (n := y1 + y2.1) (by omega) (by omega)]
    refine Ok.iteD (fun hle => ?_) (fun hgt => ?_)
    · refine Ok.bind (Ok.app (by simp only [List.length_cons, List.length_nil]; omega)) (fun y3 g3 => ?_)
      refine Ok.bind (Ok.app (by simp only [List.length_cons, List.length_nil]; omega)) (fun y4 g4 => ?_)
      refine Ok.bind (fc _ _ g2.2.2 (by simp) (by simp)) (fun y5 g5 => ?_)
      refine Ok.bind (Ok.quo (by omega)) (fun y6 g6 => ?_)
      rw [hp] at g6; subst g6
      refine Ok.bind (fc _ _ g5.2 (by simp) (by simp)) (fun y7 g7 => ?_)
      have a1 : 0 ≤ y5.1 ∧ y5.1 ≤ 35 := by have := g5.1; simp at this; omega
      have a2 : 0 ≤ y7.1 ∧ y7.1 ≤ 30 := by have := g7.1; simp at this; omega
      rw [w64 (n := y5.1 + y6) (by omega) (by omega), w64 (n := s3 + (y5.1 + y6)) (by omega) (by omega), w64 (n := s5 + 1) (by omega) (by omega), w64 (by split <;> omega) (by split <;> omega)]
      subst g3 g4
      refine Ok.nx ⟨⟨by simp only; omega, by simp only; omega⟩, ?_, ?_, ⟨by simp only; omega, by simp only; omega⟩, ⟨by simp only; split <;> omega, by simp only; split <;> omega⟩, g7.2, ?_, ?_⟩ (by simp only; omega)
      · simp only [List.length_append, List.length_cons, List.length_nil]; omega
      · simp only [List.length_append, List.length_cons, List.length_nil]; omega
      · intro x hx
        simp only [List.mem_append, List.mem_singleton] at hx
        rcases hx with hx | rfl
        · exact i6 x hx
        · omega
      · intro x hx
        simp only [List.mem_append, List.mem_singleton] at hx
        rcases hx with hx | rfl
        · exact i7 x hx
        · omega
    · exact Ok.st ⟨g2.2.2, ⟨by simp only; omega, by simp only; omega⟩, by simp only; omega, i6, i7⟩
  · intro o ho
    exact Ok.ret ⟨⟨hst, ho.2.1, ho.2.2.1, ho.2.2.2.1, ho.2.2.2.2⟩, ho.1⟩
theorem association_ok (d : Src) (hd : cI d) : Ok (dI 3 d) (fun r => (BoxOk r.1.aZ ∧ TabOk r.1.bT) ∧ cI r.2) := by
  unfold dI
  refine Ok.bind (box_ok 20 3 (by omega) (by omega) (by omega) (by omega) d hd) (fun x1 h1 => ?_)
  refine Ok.bind (table_ok _ h1.2) (fun x2 h2 => ?_)
  refine Ok.bind (fc _ _ h2.2 (by simp) (by simp)) (fun x3 h3 => ?_)
  refine Ok.bind (fc _ _ h3.2 (by simp) (by simp)) (fun x4 h4 => ?_)
  refine Ok.bind (fc _ _ h4.2 (by simp) (by simp)) (fun x5 h5 => ?_)
  refine Ok.bind (fc _ _ h5.2 (by simp) (by simp)) (fun x6 h6 => ?_)
  refine Ok.bind (ex _ _ h6.2 (by omega) (by omega)) (fun x7 h7 => ?_)
  exact Ok.ret ⟨⟨h1.1, h2.1⟩, h7.2.2⟩
theorem scale_ok (d : Src) (hd : cI d) : Ok (gB d) (fun r => cI r.2) := by
  unfold gB
  refine Ok.bind (table_ok _ hd) (fun x1 h1 => ?_)
  refine Ok.bind (ex _ _ h1.2 (by omega) (by omega)) (fun x2 h2 => ?_)
  refine Ok.bind (ex _ _ h2.2.2 (by omega) (by omega)) (fun x3 h3 => ?_)
  have hl := h1.1.len; have hs := h1.1.same
  refine Ok.bind (P := fun _ => True) (Ok.loop (fun s => 0 ≤ s.1 ∧ s.2.1.length = x1.1.bB.length ∧ s.2.2.length = x1.1.bB.length) (fun s => ((x1.1.bB.length : Int) - s.1).toNat) ?_ ⟨Int.le_refl _, rfl, hs⟩) (fun o _ => Ok.ret h3.2.2)
  rintro ⟨s4, s5, s6⟩ ⟨i0, i1, i2⟩
  simp only at i0 i1 i2
  unfold f0
  refine Ok.iteD (fun hlt => ?_) (fun _ => Ok.st trivial)
  refine Ok.bind (Ok.isin (by omega) (by omega)) (fun _ _ => ?_)
  refine Ok.bind (Ok.get (by omega) (by omega)) (fun y1 g1 => ?_)
  refine Ok.bind (Ok.quo (by omega)) (fun y2 g2 => ?_)
  refine Ok.bind (Ok.isin (by omega) (by omega)) (fun _ _ => ?_)
  refine Ok.bind (Ok.get (by omega) (by omega)) (fun y3 g3 => ?_)
  refine Ok.bind (Ok.quo (by omega)) (fun y4 g4 => ?_)
  refine Ok.bind (Ok.isin (by omega) (by omega)) (fun _ _ => ?_)
  refine Ok.bind (Ok.set (by omega) (by omega)) (fun y5 g5 => ?_)
  refine Ok.bind (Ok.isin (by omega) (by omega)) (fun _ _ => ?_)
  refine Ok.bind (Ok.set (by omega) (by omega)) (fun y6 g6 => ?_)
  subst g5 g6
  rw [w64 (by omega) (by omega)]
  exact Ok.nx ⟨by simp only; omega, by simpa using i1, by simpa using i2⟩ (by simp only; omega)
theorem settings_ok (d : Src) (hd : cI d) : Ok (eJ 3 d) (fun r => (BoxOk r.1.av.aZ ∧ TabOk r.1.av.bT) ∧ cI r.2) := by
  unfold eJ
  refine Ok.bind (association_ok d hd) (fun x1 h1 => ?_)
  refine Ok.bind (scale_ok _ h1.2) (fun x2 h2 => ?_)
  refine Ok.bind (fc _ _ h2 (by simp) (by simp)) (fun x3 h3 => ?_)
  exact Ok.ret ⟨h1.1, h3.2⟩

theorem response_ok (d : Src) (hd : cI d) : Ok (dZ d) (fun r => cI r.2) := by
  unfold dZ
  refine Ok.bind (ex _ _ hd (by omega) (by omega)) (fun x1 h1 => ?_)
  refine Ok.bind (P := fun o => cI ⟨o.1, o.2.1⟩) (Ok.loop (fun s => 0 ≤ s.1 ∧ s.1 + s.2.2.2.length ≤ 4 ∧ cI ⟨s.2.1, s.2.2.1⟩) (fun s => s.1.toNat) ?_ ⟨by simp only; omega, by simp only [List.length_nil]; omega, h1.2.2⟩) (fun o ho => Ok.ret ho)
  rintro ⟨s2, s3, s4, s5⟩ ⟨i0, i1, i2⟩
  simp only at i0 i1 i2
  unfold eI
  have happ : ∀ (x : aF), Ok (appO s5 [x] 96) (fun r => r = s5 ++ [x]) := fun x => Ok.app (by simp only [List.length_cons, List.length_nil]; omega)
  refine Ok.iteD (fun hgt => ?_) (fun _ => Ok.st i2)
  refine Ok.bind (ex _ _ i2 (by omega) (by omega)) (fun y1 g1 => ?_)
  refine Ok.iteE (fun _ => ?_) (fun _ => Ok.iteE (fun _ => ?_) (fun _ => ?_))
  · refine Ok.bind (fc _ _ g1.2.2 (by simp) (by simp)) (fun y2 g2 => ?_)
    refine Ok.bind (fc _ _ g2.2 (by simp) (by simp)) (fun y3 g3 => ?_)
    refine Ok.bind (happ _) (fun y4 g4 => ?_)
    subst g4
    rw [w64 (n := s2 - 1) (by omega) (by omega)]
    exact Ok.nx ⟨by simp only; omega, by simp only [List.length_append, List.length_cons, List.length_nil]; omega, g3.2⟩ (by simp only; omega)
  · refine Ok.bind (ex _ _ g1.2.2 (by omega) (by omega)) (fun y2 g2 => ?_)
    refine Ok.bind (ex _ _ g2.2.2 (by omega) (by omega)) (fun y3 g3 => ?_)
    refine Ok.bind (ex _ _ g3.2.2 (by omega) (by omega)) (fun y4 g4 => ?_)
    refine Ok.bind (ex _ _ g4.2.2 (by omega) (by omega)) (fun y5 g5 => ?_)
    refine Ok.bind (ex _ _ g5.2.2 (by omega) (by omega)) (fun y6 g6 => ?_)
    refine Ok.bind (ex _ _ g6.2.2 (by omega) (by omega)) (fun y7 g7 => ?_)
    refine Ok.bind (happ _) (fun y8 g8 => ?_)
    subst g8
    rw [w64 (n := s2 - 1) (by omega) (by omega)]
    exact Ok.nx ⟨by simp only; omega, by simp only [List.length_append, List.length_cons, List.length_nil]; omega, g7.2.2⟩ (by simp only; omega)
  · refine Ok.bind (ex _ _ g1.2.2 (by omega) (by omega)) (fun y2 g2 => ?_)
    refine Ok.bind (ex _ _ g2.2.2 (by omega) (by omega)) (fun y3 g3 => ?_)
    refine Ok.bind (happ _) (fun y8 g8 => ?_)
    subst g8
    rw [w64 (n := s2 - 1) (by omega) (by omega)]
    exact Ok.nx ⟨by simp only; omega, by simp only [List.length_append, List.length_cons, List.length_nil]; omega, g3.2.2⟩ (by simp only; omega)
def ChanOk (c : az) : Prop := c.fa.length ≤ 2 ∧ ∀ e ∈ c.fa, iq 60 e.cu
def InvOk (v : aC) : Prop := v.bC.length ≤ 6 ∧ ∀ c ∈ v.bC, ChanOk c
theorem sites_ok (d : Src) (hd : cI d) : Ok (gC 6 d) (fun r => InvOk r.1 ∧ cI r.2) := by
  unfold gC
  refine Ok.bind (P := fun o => cI ⟨o.1, o.2.1⟩ ∧ (o.2.2.length ≤ 6 ∧ ∀ c ∈ o.2.2, ChanOk c)) (Ok.loop (fun s => (0 ≤ s.1 ∧ s.1 ≤ 6) ∧ s.2.2.2.length ≤ s.1.toNat ∧ (∀ c ∈ s.2.2.2, ChanOk c) ∧ cI ⟨s.2.1, s.2.2.1⟩) (fun s => (6 - s.1).toNat) ?_ ⟨⟨by simp, by simp⟩, by simp, by simp, hd⟩) (fun o ho => Ok.ret ⟨ho.2, ho.1⟩)
  rintro ⟨s1, s2, s3, s4⟩ ⟨i0, i1, i2, i3⟩
  simp only at i0 i1 i2 i3
  unfold f4
  have happ : ∀ (x : az), Ok (appO s4 [x] 88) (fun r => r = s4 ++ [x]) := fun x => Ok.app (by simp only [List.length_cons, List.length_nil]; omega)
  have hnext : ∀ {x : az}, ChanOk x → ∀ c ∈ s4 ++ [x], ChanOk c := fun hx c hc => by
    simp only [List.mem_append, List.mem_singleton] at hc
    rcases hc with hc | rfl
    · exact i2 c hc
    · exact hx
  refine Ok.iteD (fun hlt => ?_) (fun _ => Ok.st ⟨i3, by simp only; omega, i2⟩)
  refine Ok.iteD (fun _ => ?_) (fun _ => Ok.st ⟨i3, by simp only; omega, i2⟩)
  refine Ok.bind (place_ok 60 (by omega) (by omega) _ i3) (fun y1 g1 => ?_)
  refine Ok.bind (response_ok _ g1.2) (fun y2 g2 => ?_)
  refine Ok.bind (source_ok _) (fun y3 g3 => ?_)
  refine Ok.bind (ex _ _ g2 (by omega) (by omega)) (fun y4 g4 => ?_)
  rw [w64 (n := s1 + 1) (by omega) (by omega)]
  refine Ok.iteE (fun _ => ?_) (fun _ => Ok.iteE (fun _ => ?_) (fun _ => ?_))
  · refine Ok.bind (ex _ _ g4.2.2 (by omega) (by omega)) (fun y5 g5 => ?_)
    refine Ok.bind (place_ok 60 (by omega) (by omega) _ g5.2.2) (fun y6 g6 => ?_)
    refine Ok.bind (response_ok _ g6.2) (fun y7 g7 => ?_)
    refine Ok.bind (Ok.isin (by omega) (by simp)) (fun _ _ => ?_)
    refine Ok.bind (Ok.mod (by omega) (by simp)) (fun y8 g8 => ?_)
    obtain ⟨x, hx, rfl⟩ := g8
    simp at hx
    subst hx
    refine Ok.bind (Ok.app (by simp)) (fun y9 g9 => ?_)
    subst g9
    refine Ok.bind (happ _) (fun y10 g10 => ?_)
    subst g10
    refine Ok.nx ⟨⟨by simp only; omega, by simp only; omega⟩, by simp only [List.length_append, List.length_cons, List.length_nil]; omega, hnext ⟨by simp, fun e he => ?_⟩, g7⟩ (by simp only; omega)
    simp at he
    rcases he with rfl | rfl
    · exact g1.1
    · exact g6.1
  · refine Ok.bind (ex _ _ g4.2.2 (by omega) (by omega)) (fun y5 g5 => ?_)
    refine Ok.bind (Ok.isin (by omega) (by simp)) (fun _ _ => ?_)
    refine Ok.bind (Ok.mod (by omega) (by simp)) (fun y8 g8 => ?_)
    obtain ⟨x, hx, rfl⟩ := g8
    simp at hx
    subst hx
    refine Ok.bind (happ _) (fun y10 g10 => ?_)
    subst g10
    refine Ok.nx ⟨⟨by simp only; omega, by simp only; omega⟩, by simp only [List.length_append, List.length_cons, List.length_nil]; omega, hnext ⟨by simp, fun e he => ?_⟩, g5.2.2⟩ (by simp only; omega)
    simp at he
    subst he
    exact g1.1
  · refine Ok.bind (happ _) (fun y10 g10 => ?_)
    subst g10
    refine Ok.nx ⟨⟨by simp only; omega, by simp only; omega⟩, by simp only [List.length_append, List.length_cons, List.length_nil]; omega, hnext ⟨by simp, fun e he => ?_⟩, g4.2.2⟩ (by simp only; omega)
    simp at he
    subst he
    exact g1.1

theorem range_ok (a b : Int) (h0 : -1000 ≤ a) (h1 : a ≤ 1000) (h2 : 0 ≤ b - a) (h3 : b - a ≤ 1000) (d : Src) (hd : cI d) : Ok (fm a b d) (fun r => (a ≤ r.1 ∧ r.1 ≤ b) ∧ cI r.2) := by
  unfold fm
  rw [w64 (n := b - a) (by omega) (by omega), w64 (n := b - a + 1) (by omega) (by omega)]
  refine Ok.bind (ex _ _ hd (by omega) (by omega)) (fun y1 g1 => ?_)
  rw [w64 (n := a + y1.1) (by omega) (by omega)]
  exact Ok.ret ⟨⟨by simp only; omega, by simp only; omega⟩, g1.2.2⟩
theorem point_ok (b : bo) (hb : BoxOk b) (d : Src) (hd : cI d) : Ok (fI b d) (fun r => iq 60 r.1 ∧ cI r.2) := by
  obtain ⟨⟨p1, p2, p3⟩, q1, q2, q3⟩ := hb
  unfold fI
  refine Ok.bind (range_ok _ _ (by omega) (by omega) (by omega) (by omega) d hd) (fun y1 g1 => ?_)
  refine Ok.bind (range_ok _ _ (by omega) (by omega) (by omega) (by omega) _ g1.2) (fun y2 g2 => ?_)
  refine Ok.bind (range_ok _ _ (by omega) (by omega) (by omega) (by omega) _ g2.2) (fun y3 g3 => ?_)
  exact Ok.ret ⟨⟨by simp only; omega, by simp only; omega, by simp only; omega⟩, g3.2⟩
theorem kplace_ok (v : aC) (hv : InvOk v) (x : Sid) (t : Int) : Ok (fK v x t) (fun r => iq 60 r.1) := by
  unfold fK
  have h0 : iq 60 ⟨0, 0, 0⟩ := ⟨by simp, by simp, by simp⟩
  refine Ok.bind (P := fun o => match o with | .inl _ => True | .inr r => iq 60 r.1) (Ok.upto v.bC.length (by omega) (fun _ => True) trivial ?_) ?_
  · intro i h1 h2 _
    unfold fA
    refine Ok.iteD (fun hlt => ?_) (fun _ => Ok.st trivial)
    refine Ok.bind (Ok.get (by omega) (by omega)) (fun c hc => ?_)
    have hck := hv.2 c hc.1
    have hlen := hv.1
    refine Ok.bind (P := fun o => match o with | .inl y => y = i | .inr r => iq 60 r.1) (Ok.upto c.fa.length (by omega) (fun _ => True) trivial ?_) ?_
    · intro j h3 h4 _
      unfold fy
      have hcl := hck.1
      refine Ok.iteD (fun hlt => ?_) (fun _ => Ok.st rfl)
      refine Ok.bind (Ok.get (by omega) (by omega)) (fun e he => ?_)
      rw [w64 (n := j + 1) (by omega) (by omega)]
      refine Ok.iteB (fun _ => ?_) (fun _ => Ok.nx ⟨⟨by omega, by omega⟩, trivial⟩ (by omega))
      refine Ok.iteD (fun _ => ?_) (fun _ => Ok.nx ⟨⟨by omega, by omega⟩, trivial⟩ (by omega))
      refine Ok.iteD (fun _ => ?_) (fun _ => Ok.nx ⟨⟨by omega, by omega⟩, trivial⟩ (by omega))
      exact Ok.st (hck.2 e he.1)
    · rintro (y | r) ho
      · simp only at ho ⊢
        subst ho
        rw [w64 (n := y + 1) (by omega) (by omega)]
        exact Ok.nx ⟨⟨by omega, by omega⟩, trivial⟩ (by omega)
      · exact Ok.st ho
  · rintro (y | r) ho
    · exact Ok.ret h0
    · exact Ok.ret ho
def iB (p : Pick) : Prop := IsSid p.ah ∧ 0 ≤ p.aA ∧ p.aA ≤ p.aP ∧ p.aP ≤ p.aU ∧ p.aU ≤ 18014398509481984 ∧ 0 ≤ p.aq ∧ p.aq ≤ 1073741823 ∧ -1 ≤ p.aw ∧ p.aw ≤ 1
def PI (n : Nat) (s : Int × Int × List Int × Int × List Pick × Int × Int × Int) : Prop :=
  (0 ≤ s.2.1 ∧ s.2.1 + s.2.2.2.2.1.length ≤ n) ∧ (0 ≤ s.1 ∧ s.1 ≤ 1000000 + 1000 * s.2.2.2.2.1.length) ∧ cI ⟨s.2.2.1, s.2.2.2.1⟩ ∧ iq 60 ⟨s.2.2.2.2.2.1, s.2.2.2.2.2.2.1, s.2.2.2.2.2.2.2⟩ ∧ ∀ p ∈ s.2.2.2.2.1, iB p
theorem k34_ok {n : Nat} (hn : n ≤ 1000) {Q : List Pick × List Int × Int → Prop} {s : Int × Int × List Int × Int × List Pick × Int × Int × Int} {sid : Sid} (hs : IsSid sid) (am : Int × Src) (ha : 0 ≤ am.1 ∧ am.1 ≤ 1048576) (po : Int × Src) (hp : 0 ≤ po.1 ∧ po.1 < 3) (t k : Int) (l : List Int) (at_ : Int) (out : List Pick) (x y z e : Int)
    (hk : 1 ≤ k ∧ k + out.length ≤ n) (hks : k = s.2.1) (ht : 0 ≤ t ∧ t ≤ 1000000 + 1000 * (out.length + 1)) (hd : cI ⟨l, at_⟩) (hpos : iq 60 ⟨x, y, z⟩) (hout : ∀ p ∈ out, iB p) (he : 0 ≤ e ∧ e ≤ 10000000) :
    Ok (c6 sid am po t k l at_ out x y z e) (Ok.S (PI n) (fun s => s.2.1.toNat) Q s) := by
  unfold c6
  refine Ok.bind (ex _ _ hd (by omega) (by omega)) (fun y1 g1 => ?_)
  refine Ok.bind (ex _ _ g1.2.2 (by omega) (by omega)) (fun y2 g2 => ?_)
  refine Ok.bind (Ok.app (by simp only [List.length_cons, List.length_nil]; omega)) (fun y3 g3 => ?_)
  subst g3
  rw [w64 (n := e + y1.1) (by omega) (by omega), w64 (n := e + y1.1 + y2.1) (by omega) (by omega), w64 (n := po.1 - 1) (by omega) (by omega), w64 (n := k - 1) (by omega) (by omega)]
  refine Ok.nx ⟨⟨by simp only; omega, by simp only [List.length_append, List.length_cons, List.length_nil]; omega⟩, ⟨ht.1, by simp only [List.length_append, List.length_cons, List.length_nil]; omega⟩, g2.2.2, hpos, fun p hpm => ?_⟩ (by simp only; omega)
  simp only [List.mem_append, List.mem_singleton] at hpm
  rcases hpm with hpm | rfl
  · exact hout p hpm
  · exact ⟨hs, by simp only; omega, by simp only; omega, by simp only; omega, by simp only; omega, by simp only; omega, by simp only; omega, by simp only; omega, by simp only; omega⟩
theorem l55_ok (pl : al × Bool) (hpl : iq 60 pl.1) (x y z t k : Int) (out : List Pick) (hx : iq 60 ⟨x, y, z⟩) : Ok (loopO (eX pl x y z t k out) (0 : Int)) (fun o => o.1 = t ∧ o.2.1 = k ∧ (0 ≤ o.2.2.1 ∧ o.2.2.1 ≤ 300) ∧ o.2.2.2.1 = out ∧ o.2.2.2.2.1 = x ∧ o.2.2.2.2.2.1 = y ∧ o.2.2.2.2.2.2 = z) := by
  obtain ⟨a1, a2, a3⟩ := hpl
  obtain ⟨b1, b2, b3⟩ := hx
  simp only at b1 b2 b3
  have hsq : ∀ (u v : Int), -60 ≤ u → u ≤ 60 → -60 ≤ v → v ≤ 60 → ∃ q, gY (IntKind.wrap .i64 (u - v)) = some q ∧ 0 ≤ q ∧ q ≤ 14400 := by
    intro u v h1 h2 h3 h4
    have h5 : -120 ≤ u - v ∧ u - v ≤ 120 := by omega
    rw [w64 (by omega) (by omega)]
    have h6 : 0 ≤ (u - v) * (u - v) ∧ (u - v) * (u - v) ≤ 14400 := by
      constructor
      · rcases Int.le_total 0 (u - v) with h | h
        · exact Int.mul_nonneg h h
        · exact Int.mul_nonneg_of_nonpos_of_nonpos h h
      · rcases Int.le_total 0 (u - v) with h | h
        · calc (u - v) * (u - v) ≤ 120 * 120 := Int.mul_le_mul h5.2 h5.2 h (by omega)
            _ = 14400 := by decide
        · have : (u - v) * (u - v) = (v - u) * (v - u) := by
            rw [← Int.neg_mul_neg]; congr 1 <;> omega
          rw [this]
          calc (v - u) * (v - u) ≤ 120 * 120 := Int.mul_le_mul (by omega) (by omega) (by omega) (by omega)
            _ = 14400 := by decide
    refine ⟨_, by unfold gY; rw [w64 (by omega) (by omega)], h6.1, h6.2⟩
  obtain ⟨q1, e1, l1, u1⟩ := hsq pl.1.fX x a1.1 a1.2 b1.1 b1.2
  obtain ⟨q2, e2, l2, u2⟩ := hsq pl.1.fY y a2.1 a2.2 b2.1 b2.2
  obtain ⟨q3, e3, l3, u3⟩ := hsq pl.1.fZ z a3.1 a3.2 b3.1 b3.2
  refine Ok.loop (fun s => 0 ≤ s ∧ s ≤ 300) (fun s => (300 - s).toNat) (fun s hs => ?_) ⟨Int.le_refl _, by omega⟩
  unfold eX
  rw [e1, e2, e3]
  simp only [Option.bind_some]
  rw [w64 (n := q1 + q2) (by omega) (by omega), w64 (n := q1 + q2 + q3) (by omega) (by omega)]
  have hss : 0 ≤ s * s ∧ s * s ≤ 90000 := ⟨Int.mul_nonneg hs.1 hs.1, by
    calc s * s ≤ 300 * 300 := Int.mul_le_mul hs.2 hs.2 hs.1 (by omega)
      _ = 90000 := by decide⟩
  rw [w64 (n := s * s) (by omega) (by omega)]
  refine Ok.iteD (fun hlt => ?_) (fun _ => Ok.st ⟨rfl, rfl, hs, rfl, rfl, rfl, rfl⟩)
  have h299 : s ≤ 299 := by
    rcases Int.lt_or_le 299 s with h | h
    · exfalso
      have : s = 300 := by omega
      subst this
      omega
    · exact h
  rw [w64 (n := s + 1) (by omega) (by omega)]
  exact Ok.nx ⟨by omega, by omega⟩ (by omega)
theorem picks_ok (a : aK) (ha : BoxOk a.av.aZ ∧ TabOk a.av.bT) (v : aC) (hv : InvOk v) (n : Nat) (hn : n ≤ 100) (d : Src) (hd : cI d) :
    Ok (gA a v n d) (fun r => (r.1.length ≤ n ∧ ∀ p ∈ r.1, iB p) ∧ cI r.2) := by
  unfold gA
  refine Ok.bind (point_ok _ ha.1 d hd) (fun x1 h1 => ?_)
  refine Ok.bind (ex _ _ h1.2 (by omega) (by omega)) (fun x2 h2 => ?_)
  rw [w64 (n := (n : Int) + 1) (by omega) (by omega)]
  refine Ok.bind (ex _ _ h2.2.2 (by omega) (by omega)) (fun x3 h3 => ?_)
  rw [w64 (n := 1000 + x2.1) (by omega) (by omega)]
  refine Ok.bind (P := fun o => (o.1.length ≤ n ∧ ∀ p ∈ o.1, iB p) ∧ cI ⟨o.2.1, o.2.2⟩) (Ok.loop (PI n) (fun s => s.2.1.toNat) ?_ ⟨⟨by simp only; omega, by simp only [List.length_nil]; omega⟩, ⟨by simp only; omega, by simp only [List.length_nil]; omega⟩, h3.2.2, h1.1, by simp⟩) (fun o ho => Ok.ret ⟨ho.1, ho.2⟩)
  rintro ⟨s4, s5, s6, s7, s8, s9, s10, s11⟩ ⟨i0, i1, i2, i3, i4⟩
  simp only at i0 i1 i2 i3 i4
  unfold fW
  refine Ok.iteD (fun hgt => ?_) (fun _ => Ok.st ⟨⟨by simp only; omega, i4⟩, i2⟩)
  refine Ok.bind (ex _ _ i2 (by omega) (by omega)) (fun y1 g1 => ?_)
  refine Ok.bind (source_ok _) (fun y2 g2 => ?_)
  refine Ok.bind (fc _ _ g1.2.2 (by simp) (by simp)) (fun y3 g3 => ?_)
  have hy3 : 0 ≤ y3.1 ∧ y3.1 ≤ 1048576 := by have := g3.1; simp at this; omega
  refine Ok.bind (ex _ _ g3.2 (by omega) (by omega)) (fun y4 g4 => ?_)
  refine Ok.bind (ex _ _ g4.2.2 (by omega) (by omega)) (fun y5 g5 => ?_)
  refine Ok.bind (ex _ _ g5.2.2 (by omega) (by omega)) (fun y6 g6 => ?_)
  rw [w64 (n := 1000 + y5.1) (by omega) (by omega)]
  refine Ok.iteE (fun _ => ?_) (fun _ => Ok.iteE (fun _ => ?_) (fun _ => ?_))
  · refine Ok.bind (point_ok _ ha.1 _ g6.2.2) (fun y7 g7 => ?_)
    refine Ok.bind (ex _ _ g7.2 (by omega) (by omega)) (fun y8 g8 => ?_)
    rw [w64 (n := s4 + y8.1) (by omega) (by omega)]
    exact k34_ok (by omega) g2 y3 hy3 y4 ⟨g4.1, g4.2.1⟩ _ _ _ _ _ _ _ _ _ (by omega) rfl (by omega) g8.2.2 g7.1 i4 (by omega)
  · exact k34_ok (by omega) g2 y3 hy3 y4 ⟨g4.1, g4.2.1⟩ _ _ _ _ _ _ _ _ _ (by omega) rfl (by omega) g6.2.2 i3 i4 (by omega)
  · refine Ok.bind (kplace_ok v hv _ _) (fun y7 g7 => ?_)
    refine Ok.iteB (fun _ => ?_) (fun _ => ?_)
    · refine Ok.bind (l55_ok y7 g7 _ _ _ _ _ _ i3) (fun o ho => ?_)
      obtain ⟨o1, o2, o3, o4, o5, o6, o7⟩ := ho
      have htab := ha.2
      have hl := htab.len
      have hst := htab.step
      refine Ok.bind (Ok.quo (by omega)) (fun y8 g8 => ?_)
      have hq : 0 ≤ o.2.2.1.tdiv a.av.bT.dj ∧ o.2.2.1.tdiv a.av.bT.dj ≤ 300 := by
        refine ⟨Int.tdiv_nonneg o3.1 (by omega), ?_⟩
        have := Int.tdiv_le_self (b := a.av.bT.dj) o3.1
        omega
      rw [w64 (by omega) (by omega)] at g8
      subst g8
      rw [w64 (n := (a.av.bT.bB.length : Int) - 1) (by omega) (by omega)]
      refine Ok.bind (Ok.get (by split <;> omega) (by split <;> omega)) (fun y9 g9 => ?_)
      have hb := htab.low y9 g9.1
      refine Ok.bind (ex _ _ g6.2.2 (by omega) (by omega)) (fun y10 g10 => ?_)
      rw [o1, o2, o4, o5, o6, o7, w64 (n := s4 + y9) (by omega) (by omega), w64 (n := s4 + y9 + y10.1) (by omega) (by omega)]
      exact k34_ok (by omega) g2 y3 hy3 y4 ⟨g4.1, g4.2.1⟩ _ _ _ _ _ _ _ _ _ (by omega) rfl (by omega) g10.2.2 i3 i4 (by omega)
    · exact k34_ok (by omega) g2 y3 hy3 y4 ⟨g4.1, g4.2.1⟩ _ _ _ _ _ _ _ _ _ (by omega) rfl (by omega) g6.2.2 i3 i4 (by omega)
end Go.Dw.Da


set_option maxRecDepth 100000
set_option maxHeartbeats 4000000
namespace Go.Dw.Da
open Go.Dw
theorem jj {α : Type} {l m : List α} {b : Nat} (h : (l.length + m.length) * b ≤ 140737488355328) : appO l m b = some (l ++ m) := by
  unfold appO
  rw [if_pos h]
namespace Sd
abbrev Src := ae
theorem eq_src (a b : Src) : ((a.aj == b.aj) && ((a.ak == b.ak) && ((a.ai == b.ai) && ((a.ap == b.ap) && true)))) = decide (a = b) := by
  obtain ⟨n, t, l, c⟩ := a
  obtain ⟨n', t', l', c'⟩ := b
  simp only [ae.mk.injEq]
  by_cases e1 : n = n' <;> by_cases e2 : t = t' <;> by_cases e3 : l = l' <;> by_cases e4 : c = c' <;> simp [e1, e2, e3, e4]
theorem cmp_str (a b : List UInt8) : bn a b = some (cmpB a b) := by
  unfold bn cU
  simp only [beq_self_eq_true, Bool.not_true, Option.bind_some, Bool.false_eq_true, if_false]
  unfold cmpB
  cases h : Op.bytesLess a b with
  | true => simp
  | false => by_cases e : a = b <;> simp [e]
theorem jp {l : List Int} {i j : Nat} (hj : j = i + 1) (hi : i < l.length) (hl : l.length < 1000) (h0 : l[i] = 0) : ci l i = some (.next (j : Int)) := by
  subst hj
  unfold ci
  rw [if_pos (by simp; omega), getO_at rfl hi]
  simp only [Option.bind_some, h0, w64 (n := (i : Int) + 1) (by omega) (by omega)]
  rfl
theorem jq {l : List Int} {i : Nat} (hi : i < l.length) (h0 : l[i] ≠ 0) : ci l i = some (.stop (.inr l[i])) := by
  unfold ci
  rw [if_pos (by simp; omega), getO_at rfl hi]
  simp only [Option.bind_some]
  rw [if_pos (by simpa using h0)]
theorem or_end {l : List Int} {n : Nat} (hn : n = l.length) : ci l n = some (.stop (.inl ())) := by
  subst hn
  unfold ci
  rw [if_neg (by simp)]
theorem or4 (a b c d : Int) : d7 [a, b, c, d] = some (if a ≠ 0 then a else if b ≠ 0 then b else if c ≠ 0 then c else d) := by
  show ((loopO (ci [a, b, c, d]) ((0 : Nat) : Int)).bind _) = _
  by_cases ha : a = 0
  · rw [loopO_next (jp (i := 0) (j := 1) rfl (by simp) (by simp) (by simpa using ha)), if_neg (by simpa using ha)]
    by_cases hb : b = 0
    · rw [loopO_next (jp (i := 1) (j := 2) rfl (by simp) (by simp) (by simpa using hb)), if_neg (by simpa using hb)]
      by_cases hc : c = 0
      · rw [loopO_next (jp (i := 2) (j := 3) rfl (by simp) (by simp) (by simpa using hc)), if_neg (by simpa using hc)]
        by_cases hd : d = 0
        · rw [loopO_next (jp (i := 3) (j := 4) rfl (by simp) (by simp) (by simpa using hd)), loopO_stop (or_end (n := 4) rfl)]
          rw [hd]; rfl
        · rw [loopO_stop (jq (i := 3) (by simp) (by simpa using hd))]; rfl
      · rw [loopO_stop (jq (i := 2) (by simp) (by simpa using hc)), if_pos hc]; rfl
    · rw [loopO_stop (jq (i := 1) (by simp) (by simpa using hb)), if_pos hb]; rfl
  · rw [loopO_stop (jq (i := 0) (by simp) (by simpa using ha)), if_pos (by simpa using ha)]; rfl

def iQ (a b : Src) : Int := if cmpB a.aj b.aj ≠ 0 then cmpB a.aj b.aj else if cmpB a.ak b.ak ≠ 0 then cmpB a.ak b.ak else if cmpB a.ai b.ai ≠ 0 then cmpB a.ai b.ai else cmpB a.ap b.ap
theorem fH (a b : Src) : bi a b = some (iQ a b) := by
  unfold bi
  simp only [cmp_str, Option.bind_some, or4]
  rfl
theorem cmpS_tot : Tot iQ := (cmpB_tot.map fun x : Src => x.aj).or ((cmpB_tot.map fun x : Src => x.ak).or ((cmpB_tot.map fun x : Src => x.ai).or (cmpB_tot.map fun x : Src => x.ap)))
theorem cmpS_zero {a b : Src} (h : iQ a b = 0) : a = b := by
  unfold iQ at h
  obtain ⟨n, t, l, c⟩ := a
  obtain ⟨n', t', l', c'⟩ := b
  simp only at h
  by_cases h1 : cmpB n n' = 0
  · rw [if_neg (by simpa using h1)] at h
    by_cases h2 : cmpB t t' = 0
    · rw [if_neg (by simpa using h2)] at h
      by_cases h3 : cmpB l l' = 0
      · rw [if_neg (by simpa using h3)] at h
        rw [cmpB_zero] at h h1 h2 h3
        subst h h1 h2 h3; rfl
      · rw [if_pos h3] at h; exact (h3 h).elim
    · rw [if_pos h2] at h; exact (h2 h).elim
  · rw [if_pos h1] at h; exact (h1 h).elim
instance : DecidableEq Src := fun a b => decidable_of_iff (a.aj = b.aj ∧ a.ak = b.ak ∧ a.ai = b.ai ∧ a.ap = b.ap) (by
  obtain ⟨n, t, l, c⟩ := a
  obtain ⟨n', t', l', c'⟩ := b
  simp)
theorem eqs (a b : Src) : ((a.aj == b.aj) && ((a.ak == b.ak) && ((a.ai == b.ai) && ((a.ap == b.ap) && true)))) = decide (a = b) := by
  rw [eq_src]
  exact decide_eq_decide.2 Iff.rfl

theorem ref_cmp (a b : List UInt8) : c7 a b = some (cmpB a b) := by
  unfold c7 cmpB
  cases h : Op.bytesLess a b with
  | true => simp
  | false => by_cases e : a = b <;> simp [e]
theorem gH (a b : Src) : ej a b = some (iQ a b) := by
  unfold ej iQ
  simp only [ref_cmp, Option.bind_some, bne_iff_ne, ne_eq]
  by_cases h1 : cmpB a.aj b.aj = 0 <;> by_cases h2 : cmpB a.ak b.ak = 0 <;> by_cases h3 : cmpB a.ai b.ai = 0 <;> by_cases h4 : cmpB a.ap b.ap = 0 <;> simp [h1, h2, h3, h4]
theorem cmp_int (a b : Int) : bh a b = some (cmpI a b) := by
  unfold bh dO cmpI
  simp only [bne_self_eq_false, Option.bind_some, Bool.false_eq_true, if_false]
  by_cases h1 : a < b
  · rw [if_pos (decide_eq_true h1), if_pos h1]
  · rw [if_neg (by simpa using h1), if_neg h1]
    by_cases h2 : a > b
    · rw [if_pos (decide_eq_true h2), if_pos h2]
    · rw [if_neg (by simpa using h2), if_neg h2]
theorem or_go {l : List Int} {n : Nat} {r : List Int} (hl : l.length < 1000) (hn : n ≤ l.length) (hr : l.drop n = r) : loopO (ci l) (n : Int) = some (match r.find? (fun x => decide (x ≠ 0)) with | some x => .inr x | none => .inl ()) := by
  induction r generalizing n with
  | nil =>
    have : n = l.length := by
      have := congrArg List.length hr
      simp at this; omega
    rw [loopO_stop (or_end this)]; rfl
  | cons a r ih =>
    have hlt : n < l.length := by
      have := congrArg List.length hr
      simp at this; omega
    have ha : l[n] = a := by
      rw [List.drop_eq_getElem_cons hlt] at hr
      exact (List.cons.inj hr).1
    have hr' : l.drop (n + 1) = r := by
      rw [List.drop_eq_getElem_cons hlt] at hr
      exact (List.cons.inj hr).2
    by_cases h0 : a = 0
    · rw [loopO_next (jp (i := n) (j := n + 1) rfl hlt hl (by rw [ha, h0])), ih (by omega) hr']
      simp [List.find?, h0]
    · rw [loopO_stop (jq hlt (by rw [ha]; exact h0)), ha]
      simp [List.find?, h0]
theorem or6 (a b c d e f : Int) : d7 [a, b, c, d, e, f] = some (if a ≠ 0 then a else if b ≠ 0 then b else if c ≠ 0 then c else if d ≠ 0 then d else if e ≠ 0 then e else f) := by
  unfold d7
  have := or_go (l := [a, b, c, d, e, f]) (n := 0) (r := [a, b, c, d, e, f]) (by simp) (by simp) rfl
  rw [show ((0 : Int)) = ((0 : Nat) : Int) from rfl, this]
  by_cases ha : a = 0 <;> by_cases hb : b = 0 <;> by_cases hc : c = 0 <;> by_cases hd : d = 0 <;> by_cases he : e = 0 <;> by_cases hf : f = 0 <;> simp [List.find?, ha, hb, hc, hd, he, hf]
end Sd
open Sd (iQ cmpS_tot cmpS_zero)
def d6 (a b : Pick) : Int := if iQ a.ah b.ah ≠ 0 then iQ a.ah b.ah else if cmpI a.aP b.aP ≠ 0 then cmpI a.aP b.aP else if cmpI a.aA b.aA ≠ 0 then cmpI a.aA b.aA else if cmpI a.aU b.aU ≠ 0 then cmpI a.aU b.aU else if cmpI a.aq b.aq ≠ 0 then cmpI a.aq b.aq else cmpI a.aw b.aw
theorem fH (a b : Pick) : aN a b = some (d6 a b) := by
  unfold aN
  simp only [Sd.fH, Sd.cmp_int, Option.bind_some, Sd.or6]
  rfl
theorem dB : Tot d6 := (cmpS_tot.map fun x : Pick => x.ah).or ((cmpI_tot.map fun x : Pick => x.aP).or ((cmpI_tot.map fun x : Pick => x.aA).or ((cmpI_tot.map fun x : Pick => x.aU).or ((cmpI_tot.map fun x : Pick => x.aq).or (cmpI_tot.map fun x : Pick => x.aw)))))
theorem iG {a b : Int} (h : (if a ≠ 0 then a else b) = 0) : a = 0 ∧ b = 0 := by
  by_cases h1 : a = 0
  · rw [if_neg (by simpa using h1)] at h; exact ⟨h1, h⟩
  · rw [if_pos h1] at h; exact (h1 h).elim
theorem iL {a b : Pick} (h : d6 a b = 0) : a = b := by
  unfold d6 at h
  obtain ⟨h1, h⟩ := iG h
  obtain ⟨h2, h⟩ := iG h
  obtain ⟨h3, h⟩ := iG h
  obtain ⟨h4, h⟩ := iG h
  obtain ⟨h5, h6⟩ := iG h
  rw [cmpI_zero] at h2 h3 h4 h5 h6
  have := cmpS_zero h1
  obtain ⟨a1, a2, a3, a4, a5, a6⟩ := a
  obtain ⟨b1, b2, b3, b4, b5, b6⟩ := b
  simp only at *
  subst this h2 h3 h4 h5 h6
  rfl
theorem lt3_eq : lt3 aN = fun x y => decide (d6 x y < 0) := by
  funext x y
  unfold lt3
  rw [fH]; rfl
theorem Compare_ok : CmpOk aN := ⟨fun x y => ⟨_, fH x y⟩, by rw [lt3_eq]; exact dB.swo⟩
theorem step_int {β : Type} (a b : Int) (k : Option Int) : (if (decide (a < b)) = true then (some (-1 : Int)) else (if (decide (a > b)) = true then (some (1 : Int)) else k)) = (if cmpI a b ≠ 0 then some (cmpI a b) else k) := by
  unfold cmpI
  by_cases h1 : a < b
  · rw [if_pos (decide_eq_true h1)]; simp [h1]
  · rw [if_neg (by simpa using h1)]
    by_cases h2 : a > b
    · rw [if_pos (decide_eq_true h2)]; simp [h1, h2]
    · rw [if_neg (by simpa using h2)]; simp [h1, h2]
theorem some_ite {c : Prop} [Decidable c] (a b : Int) : (if c then some a else some b) = some (if c then a else b) := by split <;> rfl
theorem gH (a b : Pick) : ek a b = some (d6 a b) := by
  unfold ek d6
  rw [Sd.gH, Option.bind_some]
  have e1 : ((iQ a.ah b.ah != (0 : Int)) = true) = (iQ a.ah b.ah ≠ 0) := by simp
  simp only [step_int (β := Unit), e1]
  have hp : (if cmpI a.aw b.aw ≠ 0 then some (cmpI a.aw b.aw) else some 0) = some (cmpI a.aw b.aw) := by
    by_cases h : cmpI a.aw b.aw = 0 <;> simp [h]
  rw [hp]
  simp only [some_ite]

instance : DecidableEq Pick := fun a b => decidable_of_iff (a.ah = b.ah ∧ a.aP = b.aP ∧ a.aA = b.aA ∧ a.aU = b.aU ∧ a.aq = b.aq ∧ a.aw = b.aw) (by
  obtain ⟨a1, a2, a3, a4, a5, a6⟩ := a
  obtain ⟨b1, b2, b3, b4, b5, b6⟩ := b
  simp)
def eqF (a b : Pick) : Bool := ((a.ah.aj == b.ah.aj) && ((a.ah.ak == b.ah.ak) && ((a.ah.ai == b.ah.ai) && ((a.ah.ap == b.ah.ap) && true)))) && ((a.aP == b.aP) && ((a.aA == b.aA) && ((a.aU == b.aU) && ((a.aq == b.aq) && ((a.aw == b.aw) && true)))))
theorem eqs (a b : Pick) : eqF a b = decide (a = b) := by
  obtain ⟨a1, a2, a3, a4, a5, a6⟩ := a
  obtain ⟨b1, b2, b3, b4, b5, b6⟩ := b
  unfold eqF
  simp only [Sd.eqs, aa.mk.injEq]
  by_cases e1 : a1 = b1 <;> by_cases e2 : a2 = b2 <;> by_cases e3 : a3 = b3 <;> by_cases e4 : a4 = b4 <;> by_cases e5 : a5 = b5 <;> by_cases e6 : a6 = b6 <;> simp [e1, e2, e3, e4, e5, e6]
theorem sub_take {α σ ω : Type} (l : List α) (k : Int) : ((subO l.length 0 k).bind fun _ => some (Step1.stop (Sum.inr (l.take k.toNat)) : Step1 σ (ω ⊕ List α))) = ((subO l.length 0 k).bind fun _ => (partO l (0 + Int.toNat 0) (0 + k.toNat)).bind fun x => some (Step1.stop (Sum.inr x))) := by
  unfold subO
  split
  · rename_i h
    rw [Option.bind_some, Option.bind_some, partO_at (by omega) (by omega)]
    simp
  · rfl
theorem Compact_eq (l : List Pick) : bD l = compactG eqF ⟨⟨[], [], [], []⟩, 0, 0, 0, 0, 0⟩ l := by
  have h1 : dg = compactG_l31 eqF := by funext s d ⟨a, b, c⟩; rfl
  have h2 : cw = compactG_l38 eqF ⟨⟨[], [], [], []⟩, 0, 0, 0, 0, 0⟩ := by
    funext d s
    unfold cw compactG_l38
    rw [h1]
    simp only [sub_take]
    rfl
  unfold bD compactG
  rw [h2]
  refine ite_congr rfl (fun _ => rfl) fun _ => ?_
  refine congrArg _ (funext fun o => ?_)
  rcases o with _ | _ <;> rfl
theorem sort_at {l : List Pick} (hl : l.length ≤ 1000) : ∃ m, sortO aN l = some m ∧ m.Perm l ∧ m.Pairwise (fun x y => d6 x y ≤ 0) := by
  have h2 := sortO_mergeSort Compare_ok (fun x y h h' => by
    rw [lt3_eq] at h h'
    simp only [decide_eq_false_iff_not] at h h'
    have := dB.anti x y
    exact iL (by omega)) l (by omega)
  generalize hm : (l.mergeSort fun x y => !lt3 aN y x) = m at h2
  refine ⟨m, h2, sortO_perm h2, ?_⟩
  rw [← hm]
  refine (List.pairwise_mergeSort ?_ ?_ l).imp ?_
  · intro a b c h h'
    rw [lt3_eq] at *
    simp only [Bool.not_eq_true', decide_eq_false_iff_not] at *
    have := dB.tr a b c (by have := dB.anti a b; omega) (by have := dB.anti b c; omega)
    have := dB.anti a c; omega
  · intro a b
    rw [lt3_eq]
    have := dB.anti a b
    by_cases h : d6 b a < 0
    · have : ¬ d6 a b < 0 := by omega
      simp [this]
    · simp [h]
  · intro a b h
    rw [lt3_eq] at h
    simp only [Bool.not_eq_true', decide_eq_false_iff_not] at h
    have := dB.anti a b; omega
theorem Sort_eq {l : List Pick} (hl : l.length ≤ 1000) :
    ∃ r, dX l = some r ∧ r.Pairwise (fun x y => d6 x y < 0) ∧ (∀ x, x ∈ r ↔ x ∈ l) ∧ r.length ≤ l.length := by
  have h1 : cloneO 104 l = some l := by
    unfold cloneO
    rw [if_pos (by omega)]
  obtain ⟨m, h2, hp, hs⟩ := sort_at hl
  have hml : m.length = l.length := hp.length_eq
  have h3 : bD m = some (cpt m) := by
    rw [Compact_eq]
    exact compact_at (fun x y => eqs x y) (by omega)
  refine ⟨cpt m, ?_, cpt_pairwise dB (fun x y => iL) hs, fun x => cpt_mem.trans hp.mem_iff, by have := cpt_length m; omega⟩
  unfold dX
  rw [h1, Option.bind_some, h2, Option.bind_some, h3]; rfl
theorem ia : ∀ {r s : List Pick}, r.Pairwise (fun x y => d6 x y < 0) → s.Pairwise (fun x y => d6 x y < 0) → (∀ x, x ∈ r ↔ x ∈ s) → r = s
  | [], [], _, _, _ => rfl
  | [], b :: s, _, _, h => by have := (h b).2 (by simp); cases this
  | a :: r, [], _, _, h => by have := (h a).1 (by simp); cases this
  | a :: r, b :: s, h1, h2, h => by
    obtain ⟨ha, hr⟩ := List.pairwise_cons.1 h1
    obtain ⟨hb, hs⟩ := List.pairwise_cons.1 h2
    have hab : a = b := by
      rcases List.mem_cons.1 ((h a).1 (by simp)) with e | hm
      · exact e
      · rcases List.mem_cons.1 ((h b).2 (by simp)) with e | hm'
        · exact e.symm
        · have h3 := hb a hm
          have h4 := ha b hm'
          have := dB.anti a b
          omega
    subst hab
    have hn : ∀ {t : List Pick}, (∀ y ∈ t, d6 a y < 0) → a ∉ t := fun h ht => by have := h a ht; have := dB.refl a; omega
    have : r = s := ia hr hs fun x => by
      have := h x
      simp only [List.mem_cons] at this
      constructor
      · intro hx
        rcases this.1 (.inr hx) with e | h5
        · subst e; exact (hn ha hx).elim
        · exact h5
      · intro hx
        rcases this.2 (.inr hx) with e | h5
        · subst e; exact (hn hb hx).elim
        · exact h5
    rw [this]

theorem find_l18 {l out : List Pick} {i : Nat} (hi : i < l.length) (ho : out.length ≤ 1000) :
    ∃ k : Nat, loopO (dS out l (i : Int)) (out.length : Int) = some ((i : Int), (k : Int), out) ∧ k ≤ out.length ∧ (∀ j, (h : k ≤ j) → (h' : j < out.length) → 0 < d6 out[j] l[i]) ∧ (∀ h : 0 < k, ∀ h' : k - 1 < out.length, ¬ 0 < d6 (out[k - 1]) l[i]) := by
  obtain ⟨o, h1, k, rfl, h2⟩ := loop_ind (body := dS out l (i : Int)) (fun s : Int => ∃ k : Nat, s = (k : Int) ∧ k ≤ out.length ∧ ∀ j, (h : k ≤ j) → (h' : j < out.length) → 0 < d6 out[j] l[i]) (fun s => s.toNat)
    (fun o => ∃ k : Nat, o = ((i : Int), (k : Int), out) ∧ k ≤ out.length ∧ (∀ j, (h : k ≤ j) → (h' : j < out.length) → 0 < d6 out[j] l[i]) ∧ (∀ h : 0 < k, ∀ h' : k - 1 < out.length, ¬ 0 < d6 (out[k - 1]) l[i])) (by
    rintro s ⟨k, rfl, hk, hlt⟩
    unfold dS
    by_cases h : 0 < k
    · rw [if_pos (by simp; omega), w64 (n := (k : Int) - 1) (by omega) (by omega), inO_at (by omega) (by omega), getO_at (i := k - 1) (by omega) (by omega), getO_at (i := i) rfl hi]
      simp only [Option.bind_some, gH]
      by_cases hc : d6 (out[k - 1]'(by omega)) l[i] > 0
      · rw [if_pos (by simpa using hc)]
        refine .inl ⟨_, rfl, ⟨k - 1, by omega, by omega, fun j hj hj' => ?_⟩, by omega⟩
        by_cases e : j = k - 1
        · subst e; exact hc
        · exact hlt j (by omega) hj'
      · rw [if_neg (by simpa using hc)]
        exact .inr ⟨_, rfl, k, rfl, hk, hlt, fun _ _ => hc⟩
    · rw [if_neg (by simp; omega)]
      exact .inr ⟨_, rfl, k, rfl, hk, hlt, fun h' => (h h').elim⟩) (out.length : Int) ⟨out.length, rfl, Nat.le_refl _, fun j hj hj' => by omega⟩
  exact ⟨k, h1, h2⟩
theorem shift_eq {out : List Pick} {x : Pick} {k : Nat} (hk : k ≤ out.length) :
    (copyL (out ++ [x]) (k + 1) (out.length + 1 - (k + 1)) (((out ++ [x]).drop k).take (out.length + 1 - k))).set k x = out.take k ++ x :: out.drop k := by
  have hd : (out ++ [x]).drop k = out.drop k ++ [x] := List.drop_append_of_le_length hk
  have hys : ((out ++ [x]).drop k).take (out.length + 1 - k) = out.drop k ++ [x] := by
    rw [hd]; exact List.take_of_length_le (by simp; omega)
  unfold copyL
  rw [hys]
  have hmin : Nat.min (out.drop k ++ [x]).length (out.length + 1 - (k + 1)) = out.length - k := by
    show min _ _ = _
    simp
  rw [hmin]
  have ht : (out.drop k ++ [x]).take (out.length - k) = out.drop k := by
    rw [List.take_append_of_le_length (by simp)]
    exact List.take_of_length_le (by simp)
  have hz : (out ++ [x]).drop (k + 1 + (out.length - k)) = [] := List.drop_eq_nil_of_le (by simp; omega)
  rw [ht, hz, List.append_nil]
  have hA : (out ++ [x]).take (k + 1) = out.take k ++ [(out ++ [x])[k]'(by simp; omega)] := by
    rw [take_succ_at (by simp; omega), List.take_append_of_le_length hk]
  rw [hA, List.append_assoc, List.set_append_right _ _ (by simp; omega)]
  simp [Nat.min_eq_left hk]

theorem k31_eq {l out : List Pick} {i k : Nat} (hi : i < l.length) (hl : l.length ≤ 1000) (ho : out.length ≤ 1000) (hk : k ≤ out.length) :
    db l ((i : Int), (k : Int), out) = some (.next (((i + 1 : Nat) : Int), out.take k ++ l[i] :: out.drop k)) := by
  unfold db
  simp only
  rw [getO_at (i := i) rfl hi, Option.bind_some, jj (by simp; omega), Option.bind_some]
  have hlen : (out ++ [l[i]]).length = out.length + 1 := by simp
  rw [w64 (n := (k : Int) + 1) (by omega) (by omega), w64 (n := (i : Int) + 1) (by omega) (by omega), hlen]
  rw [subO_at (by omega) (by omega) (by omega), Option.bind_some, subO_at (by omega) (by omega) (by omega), Option.bind_some]
  have t1 : (0 + ((k : Int) + 1).toNat) = k + 1 := by omega
  have t2 : (0 + (((out.length + 1 : Nat) : Int)).toNat) = out.length + 1 := by omega
  have t3 : (0 + ((k : Int)).toNat) = k := by omega
  rw [t1, t2, t3, viewO_at (by omega) (by omega), Option.bind_some, partO_at (by omega) (by omega), Option.bind_some, Option.bind_some]
  have hcl : (copyL (out ++ [l[i]]) (k + 1) (out.length + 1 - (k + 1)) (((out ++ [l[i]]).drop k).take (out.length + 1 - k))).length = out.length + 1 := by
    have := congrArg List.length (shift_eq (x := l[i]) hk)
    rw [List.length_set] at this
    rw [this]
    simp
    omega
  rw [inO_at (by omega) (by omega), Option.bind_some, setO_at (i := k) rfl (by omega), Option.bind_some, shift_eq hk]
  rfl
theorem ins_sorted {out : List Pick} {x : Pick} {k : Nat} (ho : out.Pairwise (fun x y => d6 x y < 0)) (hk : k ≤ out.length) (h1 : ∀ j, (h : k ≤ j) → (h' : j < out.length) → 0 < d6 out[j] x)
    (h2 : ∀ h : 0 < k, ∀ h' : k - 1 < out.length, ¬ 0 < d6 (out[k - 1]) x ∧ out[k - 1] ≠ x) : (out.take k ++ x :: out.drop k).Pairwise (fun x y => d6 x y < 0) := by
  have hsplit : (out.take k ++ out.drop k).Pairwise (fun x y => d6 x y < 0) := by rwa [List.take_append_drop]
  obtain ⟨p1, p2, p3⟩ := List.pairwise_append.1 hsplit
  have hgt : ∀ y ∈ out.drop k, d6 x y < 0 := fun y hy => by
    obtain ⟨j, hj, rfl⟩ := List.getElem_of_mem hy
    simp only [List.length_drop] at hj
    rw [List.getElem_drop]
    have := h1 (k + j) (by omega) (by omega)
    have := dB.anti x out[k + j]
    omega
  have hlt : ∀ y ∈ out.take k, d6 y x < 0 := fun y hy => by
    obtain ⟨j, hj, rfl⟩ := List.getElem_of_mem hy
    simp only [List.length_take] at hj
    rw [List.getElem_take]
    obtain ⟨g1, g2⟩ := h2 (by omega) (by omega)
    have hx : d6 (out[k - 1]'(by omega)) x < 0 := by
      have := dB.anti (out[k - 1]'(by omega)) x
      by_cases hz : d6 (out[k - 1]'(by omega)) x = 0
      · exact (g2 (iL hz)).elim
      · omega
    by_cases e : j = k - 1
    · subst e; exact hx
    · have := List.pairwise_iff_getElem.1 ho j (k - 1) (by omega) (by omega) (by omega)
      exact dB.lt this (by omega)
  refine List.pairwise_append.2 ⟨p1, List.pairwise_cons.2 ⟨hgt, p2⟩, fun a ha b hb => ?_⟩
  rcases List.mem_cons.1 hb with rfl | hb
  · exact hlt a ha
  · exact p3 a ha b hb
theorem ref_Sort_eq {l : List Pick} (hl : l.length ≤ 1000) : ∃ r, eb l = some r ∧ r.Pairwise (fun x y => d6 x y < 0) ∧ (∀ x, x ∈ r ↔ x ∈ l) := by
  obtain ⟨o, h1, h2, h3⟩ := loop_ind (body := eE l) (fun st : Int × List Pick => ∃ (i : Nat) (out : List Pick), st = ((i : Int), out) ∧ i ≤ l.length ∧ out.length ≤ i ∧ out.Pairwise (fun x y => d6 x y < 0) ∧ ∀ x, x ∈ out ↔ x ∈ l.take i) (fun st => ((l.length : Int) - st.1).toNat)
    (fun o => o.Pairwise (fun x y => d6 x y < 0) ∧ ∀ x, x ∈ o ↔ x ∈ l) (by
    rintro st ⟨i, out, rfl, hi, ho, hs, hm⟩
    unfold eE
    simp only
    by_cases hlt : i < l.length
    · rw [if_pos (by simp; omega)]
      obtain ⟨k, e1, hk, hlo, hhi⟩ := find_l18 (l := l) (out := out) hlt (by omega)
      rw [e1, Option.bind_some]
      refine .inl ?_
      have hins : (∀ h : 0 < k, ∀ h' : k - 1 < out.length, out[k - 1] ≠ l[i]) → ∃ s', db l ((i : Int), (k : Int), out) = some (.next s') ∧ (∃ (i : Nat) (out : List Pick), s' = ((i : Int), out) ∧ i ≤ l.length ∧ out.length ≤ i ∧ out.Pairwise (fun x y => d6 x y < 0) ∧ ∀ x, x ∈ out ↔ x ∈ l.take i) ∧ ((l.length : Int) - s'.1).toNat < ((l.length : Int) - (i : Int)).toNat := fun hne => by
        refine ⟨_, k31_eq hlt hl (by omega) hk, ⟨i + 1, _, rfl, by omega, by simp; omega, ins_sorted hs hk hlo (fun h h' => ⟨hhi h h', hne h h'⟩), fun x => ?_⟩, by simp only; omega⟩
        rw [take_succ_at hlt, List.mem_append, List.mem_cons, List.mem_append, ← hm x]
        have : x ∈ out ↔ x ∈ out.take k ∨ x ∈ out.drop k := by rw [← List.mem_append, List.take_append_drop]
        rw [this]
        simp only [List.mem_singleton]
        constructor
        · rintro (h | h | h)
          · exact .inl (.inl h)
          · exact .inr h
          · exact .inl (.inr h)
        · rintro ((h | h) | h)
          · exact .inl h
          · exact .inr (.inr h)
          · exact .inr (.inl h)
      dsimp only
      by_cases hkl : 0 < k
      · rw [if_pos (by simp; omega), w64 (n := (k : Int) - 1) (by omega) (by omega), inO_at (by omega) (by omega), getO_at (i := k - 1) (by omega) (by omega), getO_at (i := i) rfl hlt]
        simp only [Option.bind_some]
        rw [show (_ && _) = eqF (out[k - 1]'(by omega)) l[i] from rfl, eqs]
        by_cases he : out[k - 1]'(by omega) = l[i]
        · rw [if_pos (by simpa using he), w64 (by omega) (by omega)]
          refine ⟨_, rfl, ⟨i + 1, out, by simp, by omega, by omega, hs, fun x => ?_⟩, by simp only; omega⟩
          rw [take_succ_at hlt, List.mem_append, ← hm x, List.mem_singleton]
          refine ⟨.inl, fun h => h.elim id fun h => ?_⟩
          subst h
          rw [← he]
          exact List.getElem_mem _
        · rw [if_neg (by simpa using he)]
          exact hins fun _ _ => he
      · rw [if_neg (by simp; omega)]
        exact hins fun h => (hkl h).elim
    · rw [if_neg (by simp; omega)]
      refine .inr ⟨_, rfl, hs, fun x => ?_⟩
      rw [hm x, List.take_of_length_le (by omega)]) (0, []) ⟨0, [], rfl, Nat.zero_le _, Nat.le_refl _, .nil, fun x => by simp⟩
  refine ⟨o, ?_, h2, h3⟩
  unfold eb
  rw [h1]; rfl
theorem Sorts_eq {l : List Pick} (hl : l.length ≤ 1000) : ∃ r, dX l = some r ∧ eb l = some r ∧ r.length ≤ l.length ∧ r.Pairwise (fun x y => d6 x y < 0) ∧ ∀ x, x ∈ r ↔ x ∈ l := by
  obtain ⟨r, h1, h2, h3, h4⟩ := Sort_eq hl
  obtain ⟨r', h5, h6, h7⟩ := ref_Sort_eq hl
  have : r = r' := ia h2 h6 fun x => (h3 x).trans (h7 x).symm
  subst this
  exact ⟨r, h1, h5, h4, h2, h3⟩
end Go.Dw.Da


set_option maxRecDepth 100000
set_option maxHeartbeats 4000000
namespace Go.Dw.Da
open Go.Dw

theorem get1 {α : Type} (A : List α) (y : α) (T : List α) {n : Int} (hn : n = A.length) : getO (A ++ y :: T) n = some y := by
  rw [getO_at (i := A.length) hn (by simp)]
  simp
theorem get2 {α : Type} (A : List α) (y x : α) (T : List α) {n : Int} (hn : n = A.length + 1) : getO (A ++ y :: x :: T) n = some x := by
  have := get1 (A ++ [y]) x T (n := n) (by simp; omega)
  simpa using this
theorem set1 {α : Type} (A : List α) (y z : α) (T : List α) {n : Int} (hn : n = A.length) : setO (A ++ y :: T) n z = some (A ++ z :: T) := by
  rw [setO_at (i := A.length) hn (by simp)]
  simp
theorem set2 {α : Type} (A : List α) (y x z : α) (T : List α) {n : Int} (hn : n = A.length + 1) : setO (A ++ y :: x :: T) n z = some (A ++ y :: z :: T) := by
  have := set1 (A ++ [y]) x z T (n := n) (by simp; omega)
  simpa using this

def le1 (x y : Pick) : Prop := x.aA ≤ y.aA
theorem lit1_eq (a b : Pick) : aY a b = some (cmpI a.aA b.aA) := by
  unfold aY
  rw [Sd.cmp_int]; rfl
theorem cmpI_neg {a b : Int} : cmpI a b < 0 ↔ a < b := by
  unfold cmpI
  by_cases h1 : a < b
  · simp [h1]
  · by_cases h2 : a > b <;> simp [h1, h2]
theorem inner_ok (i : Nat) (L C : List Pick) (x : Pick) (hL : L.Pairwise le1) (hl : L.length ≤ 1000) :
    Ok (loopO (aQ 0 (i : Int)) ((L.length : Int), L ++ x :: C)) (fun o => o.1 = i ∧ ∃ D, o.2 = D ++ C ∧ D.Perm (x :: L) ∧ D.Pairwise le1) := by
  refine Ok.loop (fun s => ∃ A B : List Pick, s = ((A.length : Int), A ++ x :: (B ++ C)) ∧ A ++ B = L ∧ ∀ b ∈ B, le1 x b) (fun s => s.1.toNat) ?_ ⟨L, [], by simp, by simp, by simp⟩
  rintro s ⟨A, B, rfl, hAB, hB⟩
  have hAl : A.length ≤ 1000 := by have := congrArg List.length hAB; simp at this; omega
  have hdone : (∀ a ∈ A, le1 a x) → Ok (some (Step1.stop ((i : Int), A ++ x :: (B ++ C)))) (Ok.S (fun s => ∃ A B : List Pick, s = ((A.length : Int), A ++ x :: (B ++ C)) ∧ A ++ B = L ∧ ∀ b ∈ B, le1 x b) (fun s => s.1.toNat) (fun o : Int × List Pick => o.1 = i ∧ ∃ D, o.2 = D ++ C ∧ D.Perm (x :: L) ∧ D.Pairwise le1) ((A.length : Int), A ++ x :: (B ++ C))) := by
    intro hA
    refine Ok.st ⟨rfl, A ++ x :: B, by simp, ?_, ?_⟩
    · rw [← hAB]; exact List.perm_middle
    · rw [← hAB] at hL
      obtain ⟨p1, p2, p3⟩ := List.pairwise_append.1 hL
      refine List.pairwise_append.2 ⟨p1, List.pairwise_cons.2 ⟨hB, p2⟩, fun a ha b hb => ?_⟩
      rcases List.mem_cons.1 hb with rfl | hb
      · exact hA a ha
      · exact p3 a ha b hb
  unfold aQ
  dsimp only
  refine Ok.iteD (fun hgt => ?_) (fun hle => ?_)
  rotate_left
  · have : A = [] := List.eq_nil_of_length_eq_zero (by omega)
    subst this
    exact hdone (by simp)
  rcases List.eq_nil_or_concat A with rfl | ⟨A', y, rfl⟩
  · simp at hgt
  simp only [List.length_append, List.length_cons, List.length_nil, List.append_assoc, List.cons_append, List.nil_append, List.concat_eq_append] at hAl hgt hdone ⊢
  have hw : IntKind.wrap .i64 (((A'.length + (0 + 1) : Nat) : Int) - 1) = (A'.length : Int) := by rw [w64 (by omega) (by omega)]; omega
  rw [hw]
  have hin : inO (A' ++ y :: x :: (B ++ C)) ((A'.length + (0 + 1) : Nat) : Int) = some () := inO_at (by omega) (by simp; omega)
  have hin2 : ∀ z, inO (A' ++ y :: z :: (B ++ C)) (A'.length : Int) = some () := fun z => inO_at (by omega) (by simp; omega)
  rw [hin, Option.bind_some, get2 A' y x (B ++ C) (by omega), Option.bind_some, hin2, Option.bind_some, get1 A' y _ rfl, Option.bind_some, lit1_eq, Option.bind_some]
  refine Ok.iteD (fun hlt => ?_) (fun hge => ?_)
  · rw [Option.bind_some, Option.bind_some, Option.bind_some, Option.bind_some, Option.bind_some, set2 A' y x y (B ++ C) (by omega), Option.bind_some, hin2, Option.bind_some, set1 A' y x _ rfl, Option.bind_some]
    rw [cmpI_neg] at hlt
    refine Ok.nx ⟨A', y :: B, rfl, by simpa using hAB, fun b hb => ?_⟩ (by simp only; omega)
    rcases List.mem_cons.1 hb with rfl | hb
    · exact Int.le_of_lt hlt
    · exact hB b hb
  · refine hdone fun a ha => ?_
    rw [cmpI_neg] at hge
    have hy : le1 y x := Int.not_lt.1 hge
    rw [List.mem_append, List.mem_singleton] at ha
    rcases ha with ha | rfl
    · have : (A' ++ (y :: B)).Pairwise le1 := by
        have := hL
        rw [← hAB] at this
        simpa using this
      have := (List.pairwise_append.1 this).2.2 a ha y (by simp)
      exact Int.le_trans this hy
    · exact hy
theorem jl (d : List Pick) (hd : d.length ≤ 1000) : Ok (aD 0 (d.length : Int) d) (fun r => r.Perm d ∧ r.Pairwise le1) := by
  unfold aD
  rw [w64 (n := 0 + 1) (by omega) (by omega)]
  refine Ok.bind (P := fun r => r.Perm d ∧ r.Pairwise le1) (Ok.loop (fun s => ∃ (D C : List Pick), s = (((if d = [] then 1 else D.length : Nat) : Int), D ++ C) ∧ (D ++ C).Perm d ∧ D.Pairwise le1 ∧ (d ≠ [] → 1 ≤ D.length)) (fun s => ((d.length : Int) - s.1).toNat) ?_ ?_) (fun o ho => Ok.ret ho)
  · rintro s ⟨D, C, rfl, hp, hs, h1⟩
    unfold aM
    dsimp only
    have hpl : D.length + C.length = d.length := by have := hp.length_eq; simpa using this
    refine Ok.iteD (fun hlt => ?_) (fun hge => ?_)
    · have hne : d ≠ [] := fun e => by subst e; simp at hlt
      rw [if_neg hne] at hlt ⊢
      rcases C with _ | ⟨x, C⟩
      · simp at hpl; omega
      refine Ok.bind (inner_ok D.length D C x hs (by omega)) (fun o ho => ?_)
      obtain ⟨o1, D', o2, o3, o4⟩ := ho
      rw [o1, o2, w64 (by omega) (by omega)]
      have hl' : D'.length = D.length + 1 := by have := o3.length_eq; simpa using this
      refine Ok.nx ⟨D', C, ?_, ?_, o4, fun _ => by omega⟩ (by simp only; omega)
      · rw [if_neg hne, hl']; simp
      · exact ((o3.append_right C).trans (by simpa using List.perm_middle.symm)).trans hp
    · rw [Option.bind_some]
      refine Ok.st ⟨hp, ?_⟩
      by_cases hne : d = []
      · subst hne
        have := hp.length_eq
        have : D ++ C = [] := List.eq_nil_of_length_eq_zero (by simpa using this)
        rw [this]; exact .nil
      · rw [if_neg hne] at hge
        have : C = [] := List.eq_nil_of_length_eq_zero (by omega)
        subst this
        simpa using hs
  · by_cases hne : d = []
    · subst hne
      exact ⟨[], [], by simp, .refl _, .nil, fun h => (h rfl).elim⟩
    · refine ⟨d.take 1, d.drop 1, ?_, by rw [List.take_append_drop], ?_, fun _ => ?_⟩
      · rw [if_neg hne, List.take_append_drop]
        have := List.length_pos_iff.2 hne
        simp; omega
      · rcases d with _ | ⟨a, d⟩
        · exact (hne rfl).elim
        · simp
      · have := List.length_pos_iff.2 hne
        simp; omega
theorem insertion_end (n : Nat) (hn : n ≤ 1000) (d : List Pick) : aD (n : Int) (n : Int) d = some d := by
  unfold aD
  rw [w64 (by omega) (by omega)]
  have : aM (n : Int) (n : Int) ((n : Int) + 1, d) = some (.stop d) := by
    unfold aM
    dsimp only
    rw [if_neg (by simp; omega)]; rfl
  rw [loopO_stop this]; rfl
theorem stable_ok (d : List Pick) (hd : d.length ≤ 20) : Ok (aS d) (fun r => r.Perm d ∧ r.Pairwise le1) := by
  unfold aS
  refine Ok.bind (P := fun r => r.Perm d ∧ r.Pairwise le1) ?_ (fun o ho => Ok.ret ho)
  unfold bq
  have hend : ∀ r : List Pick, loopO (bd (d.length : Int)) ((20 : Int), r) = some r := fun r => by
    refine loopO_stop ?_
    unfold bd
    dsimp only
    rw [if_neg (by simp; omega)]; rfl
  by_cases h20 : d.length = 20
  · have e1 : aL (d.length : Int) ((0 : Int), (20 : Int), d) = (aD 0 (d.length : Int) d).bind fun x8 => some (.next ((20 : Int), (40 : Int), x8)) := by
      unfold aL
      dsimp only
      rw [if_pos (by simp; omega), w64 (by omega) (by omega)]
      rw [h20]; rfl
    obtain ⟨r, e2, hr⟩ := jl d (by omega)
    rw [e2, Option.bind_some] at e1
    have e3 : aL (d.length : Int) ((20 : Int), (40 : Int), r) = some (.stop ((20 : Int), r)) := by
      unfold aL
      dsimp only
      rw [if_neg (by simp; omega)]
    rw [loopO_next e1, loopO_stop e3, Option.bind_some]
    dsimp only
    have e4 := insertion_end 20 (by omega) r
    rw [h20] at hend ⊢
    rw [show ((20 : Nat) : Int) = 20 from rfl] at e4 hend ⊢
    rw [e4, Option.bind_some, hend]
    exact Ok.ret hr
  · have e3 : aL (d.length : Int) ((0 : Int), (20 : Int), d) = some (.stop ((0 : Int), d)) := by
      unfold aL
      dsimp only
      rw [if_neg (by simp; omega)]
    rw [loopO_stop e3, Option.bind_some]
    dsimp only
    refine Ok.bind (jl d (by omega)) (fun r hr => ?_)
    rw [hend]
    exact Ok.ret hr

theorem lastO_snoc {α : Type} (O : List α) (g : α) : lastO (O ++ [g]) = some g := by
  unfold lastO
  simp
theorem tail_eq (O : List (List Pick)) (g : List Pick) (p : Pick) (i : Int) (hO : O.length ≤ 1000) (hg : g.length ≤ 1000) :
    ((lastO (O ++ [g])).bind fun x13 => (inO (O ++ [g]) (IntKind.wrap .i64 (((O ++ [g]).length : Int) - (1 : Int)))).bind fun x14 => (atO (IntKind.wrap .i64 (((O ++ [g]).length : Int) - (1 : Int))) ((O ++ [g]).length - 1)).bind fun x15 => (appO x13 [p] 104).bind fun x16 => (inO (O ++ [g]) (IntKind.wrap .i64 (((O ++ [g]).length : Int) - (1 : Int)))).bind fun x17 => (stO (O ++ [g]).length (IntKind.wrap .i64 (((O ++ [g]).length : Int) - (1 : Int))) ((O ++ [g]).length - 1)).bind fun x18 => some (Step1.next (IntKind.wrap .i64 (i + (1 : Int)), (O ++ [g]).set ((O ++ [g]).length - 1) x16) : Step1 (Int × List (List Pick)) (List (List Pick))))
      = some (.next (IntKind.wrap .i64 (i + 1), O ++ [g ++ [p]])) := by
  have hl : (O ++ [g]).length = O.length + 1 := by simp
  have hw : IntKind.wrap .i64 (((O ++ [g]).length : Int) - 1) = (O.length : Int) := by rw [hl, w64 (by omega) (by omega)]; omega
  rw [hw, lastO_snoc, Option.bind_some, inO_at (by omega) (by rw [hl]; omega), Option.bind_some, hl]
  have ha : atO (O.length : Int) (O.length + 1 - 1) = some () := by unfold atO; rw [if_pos (by simp)]
  have hs : stO (O.length + 1) (O.length : Int) (O.length + 1 - 1) = some () := by unfold stO; rw [if_pos (by simp)]
  rw [ha, Option.bind_some, jj (by simp only [List.length_cons, List.length_nil]; omega), Option.bind_some, Option.bind_some, hs, Option.bind_some]
  simp
def Gap (far : Int) (g h : List Pick) : Prop := ∀ b ∈ g, ∀ a ∈ h, far < a.aA - b.aA
structure BI (far : Int) (all : List Pick) (i : Nat) (out : List (List Pick)) : Prop where
  flat : out.flatten = all.take i
  ne : ∀ g ∈ out, g ≠ []
  gap : out.Pairwise (Gap far)
  pos : 0 < i → out ≠ []
theorem len_le {out : List (List Pick)} (h : ∀ g ∈ out, g ≠ []) : out.length ≤ out.flatten.length := by
  induction out with
  | nil => simp
  | cons g out ih =>
    have := List.length_pos_iff.2 (h g (by simp))
    have := ih fun g hg => h g (by simp [hg])
    rw [List.flatten_cons, List.length_append, List.length_cons]; omega
theorem l36_ok (far : Int) (all : List Pick) (hl : all.length ≤ 1000) (hs : all.Pairwise le1) (hr : ∀ p ∈ all, 0 ≤ p.aA ∧ p.aA ≤ 18014398509481984) :
    Ok (loopO (bS all far) ((0 : Int), [])) (BI far all all.length) := by
  refine Ok.loop (fun s => ∃ i : Nat, s.1 = i ∧ i ≤ all.length ∧ BI far all i s.2) (fun s => ((all.length : Int) - s.1).toNat) ?_ ⟨0, rfl, Nat.zero_le _, ⟨by simp, by simp, .nil, fun h => by omega⟩⟩
  rintro ⟨s3, out⟩ ⟨i, rfl, hi, hB⟩
  unfold bS
  dsimp only
  refine Ok.iteD (fun hlt => ?_) (fun hge => ?_)
  rotate_left
  · have : i = all.length := by omega
    subst this
    exact Ok.st hB
  have hlt : i < all.length := by omega
  have hol : out.length ≤ 1000 := by have := len_le hB.ne; rw [hB.flat] at this; simp at this; omega
  have hgl : ∀ g ∈ out, g.length ≤ 1000 := fun g hg => by
    have h1 := (List.sublist_flatten_of_mem hg).length_le
    rw [hB.flat] at h1; simp at h1; omega
  have htake : all.take (i + 1) = all.take i ++ [all[i]] := take_succ_at hlt
  have hmem : ∀ g ∈ out, ∀ b ∈ g, ∃ j, ∃ h : j < i, all[j]'(by omega) = b := fun g hg b hb => by
    have : b ∈ all.take i := by rw [← hB.flat]; exact List.mem_flatten.2 ⟨g, hg, hb⟩
    obtain ⟨j, hj, e⟩ := List.getElem_of_mem this
    simp only [List.length_take] at hj
    rw [List.getElem_take] at e
    exact ⟨j, by omega, e⟩
  have hord : ∀ {j k : Nat} (hk : k < all.length) (hjk : j ≤ k), (all[j]'(by omega)).aA ≤ all[k].aA := fun {j k} hk hjk => by
    by_cases e : j = k
    · subst e; exact Int.le_refl _
    · exact List.pairwise_iff_getElem.1 hs j k (by omega) hk (by omega)
  have hnew : (0 < i → ∃ h : i - 1 < all.length, far < all[i].aA - (all[i - 1]'h).aA) → BI far all (i + 1) (out ++ [[all[i]]]) := fun hg => by
    refine ⟨by rw [List.flatten_append, hB.flat, htake]; simp, fun g hg' => ?_, List.pairwise_append.2 ⟨hB.gap, List.pairwise_singleton _ _, fun g hg' h hh => ?_⟩, fun _ => by simp⟩
    · rcases List.mem_append.1 hg' with hg' | hg'
      · exact hB.ne g hg'
      · rw [List.mem_singleton] at hg'; subst hg'; simp
    · rw [List.mem_singleton] at hh
      subst hh
      intro b hb a ha
      rw [List.mem_singleton] at ha
      subst ha
      obtain ⟨j, hj, rfl⟩ := hmem g hg' b hb
      obtain ⟨h1, h2⟩ := hg (by omega)
      have := hord (j := j) (k := i - 1) h1 (by omega)
      omega
  rw [inO_at (by omega) (by omega), Option.bind_some, getO_at (i := i) rfl hlt, Option.bind_some]
  have happ : appO out [[]] 24 = some (out ++ [[]]) := jj (by simp only [List.length_cons, List.length_nil]; omega)
  refine Ok.iteE (fun h0 => ?_) (fun h0 => ?_)
  · have h0 : i = 0 := by omega
    rw [happ, Option.bind_some, tail_eq out [] all[i] i hol (by simp), w64 (by omega) (by omega)]
    refine Ok.nx ⟨i + 1, by simp, by omega, ?_⟩ (by simp only; omega)
    simpa using hnew fun h => by omega
  · have h0 : 0 < i := by omega
    have hi1 : i - 1 < all.length := by omega
    rw [w64 (n := (i : Int) - 1) (by omega) (by omega), inO_at (by omega) (by omega), Option.bind_some, getO_at (i := i - 1) (by omega) hi1, Option.bind_some]
    have r1 := hr _ (List.getElem_mem hlt)
    have r2 := hr _ (List.getElem_mem hi1)
    rw [w64 (n := all[i].aA - (all[i - 1]'hi1).aA) (by omega) (by omega)]
    refine Ok.iteD (fun hfar => ?_) (fun hnear => ?_)
    · rw [happ, Option.bind_some, tail_eq out [] all[i] i hol (by simp), w64 (by omega) (by omega)]
      refine Ok.nx ⟨i + 1, by simp, by omega, ?_⟩ (by simp only; omega)
      simpa using hnew fun _ => ⟨hi1, by omega⟩
    · rcases List.eq_nil_or_concat out with rfl | ⟨O, g, rfl⟩
      · exact (hB.pos h0 rfl).elim
      rw [List.concat_eq_append] at hB hol hgl hmem ⊢
      have hgne := hB.ne g (by simp)
      rw [tail_eq O g all[i] i (by simp at hol; omega) (hgl g (by simp)), w64 (by omega) (by omega)]
      refine Ok.nx ⟨i + 1, by simp, by omega, ?_⟩ (by simp only; omega)
      obtain ⟨p1, p2, p3⟩ := List.pairwise_append.1 hB.gap
      refine ⟨?_, fun g' hg' => ?_, List.pairwise_append.2 ⟨p1, List.pairwise_singleton _ _, fun u hu h hh => ?_⟩, fun _ => by simp⟩
      · have := hB.flat
        simp only [List.flatten_append, List.flatten_cons, List.flatten_nil, List.append_nil] at this ⊢
        rw [htake, ← this, List.append_assoc]
      · rcases List.mem_append.1 hg' with hg' | hg'
        · exact hB.ne g' (by simp [hg'])
        · rw [List.mem_singleton] at hg'; subst hg'; simp
      · rw [List.mem_singleton] at hh
        subst hh
        intro b hb a ha
        rcases List.mem_append.1 ha with ha | ha
        · exact p3 u hu g (by simp) b hb a ha
        · rw [List.mem_singleton] at ha
          subst ha
          rcases g with _ | ⟨c, g⟩
          · exact (hgne rfl).elim
          have h1 := p3 u hu (c :: g) (by simp) b hb c (by simp)
          obtain ⟨j, hj, e⟩ := hmem (c :: g) (by simp) c (by simp)
          have := hord (j := j) (k := i) hlt (by omega)
          rw [e] at this
          omega
theorem l47_ok (out : List (List Pick)) (hl : out.length ≤ 1000) (hg : ∀ g ∈ out, g.length ≤ 1000) :
    Ok (loopO (bA out) ((0 : Int), out)) (fun x => x.length = out.length ∧ ∀ (j : Nat) (h : j < x.length) (h' : j < out.length), x[j].Perm out[j] ∧ x[j].Pairwise (fun a b => d6 a b ≤ 0)) := by
  refine Ok.loop (fun s => ∃ i : Nat, s.1 = i ∧ i ≤ out.length ∧ s.2.length = out.length ∧ ∀ (j : Nat) (h : j < s.2.length) (h' : j < out.length), s.2[j].Perm out[j] ∧ (j < i → s.2[j].Pairwise (fun a b => d6 a b ≤ 0))) (fun s => ((out.length : Int) - s.1).toNat) ?_ ⟨0, rfl, Nat.zero_le _, rfl, fun j h h' => ⟨.refl _, fun h => by omega⟩⟩
  rintro ⟨s1, cur⟩ ⟨i, rfl, hi, hlen, hc⟩
  unfold bA
  dsimp only at hlen hc ⊢
  refine Ok.iteD (fun hlt => ?_) (fun hge => ?_)
  rotate_left
  · exact Ok.st ⟨hlen, fun j h h' => ⟨(hc j h h').1, (hc j h h').2 (by omega)⟩⟩
  have hlt : i < out.length := by omega
  have hic : i < cur.length := by omega
  have hat : atO (i : Int) (Int.toNat (i : Int)) = some () := by unfold atO; rw [if_pos rfl]
  obtain ⟨hp, -⟩ := hc i hic hlt
  have hcl : cur[i].length ≤ 1000 := by rw [hp.length_eq]; exact hg _ (List.getElem_mem hlt)
  obtain ⟨m, e1, e2, e3⟩ := sort_at hcl
  rw [getO_at (i := i) rfl hic, Option.bind_some, inO_at (by omega) (by omega), Option.bind_some, hat, Option.bind_some, e1, Option.bind_some, w64 (by omega) (by omega)]
  refine Ok.nx ⟨i + 1, by simp, by omega, by simpa using hlen, fun j h h' => ?_⟩ (by simp only; omega)
  simp only [Int.toNat_natCast, List.length_set] at h ⊢
  rw [List.getElem_set]
  by_cases hij : i = j
  · subst hij
    rw [if_pos rfl]
    exact ⟨e2.trans hp, fun _ => e3⟩
  · rw [if_neg hij]
    exact ⟨(hc j h h').1, fun hj => (hc j h h').2 (by omega)⟩
theorem jk : ∀ {x y : List (List Pick)}, x.length = y.length → (∀ (j : Nat) (h : j < x.length) (h' : j < y.length), x[j].Perm y[j]) → x.flatten.Perm y.flatten
  | [], [], _, _ => .refl _
  | [], _ :: _, h, _ => by simp at h
  | _ :: _, [], h, _ => by simp at h
  | g :: x, k :: y, h, hp => by
    have h0 := hp 0 (by simp) (by simp)
    have := jk (x := x) (y := y) (by simpa using h) fun j h1 h2 => hp (j + 1) (by simp; omega) (by simp; omega)
    simpa using h0.append this
structure Batched (far : Int) (l : List Pick) (x : List (List Pick)) : Prop where
  flat : ∃ s : List Pick, dX l = some s ∧ s.length ≤ l.length ∧ s.Pairwise (fun a b => d6 a b < 0) ∧ (∀ p, p ∈ s ↔ p ∈ l) ∧ x.flatten.Perm s
  ne : ∀ g ∈ x, g ≠ []
  gap : x.Pairwise (Gap far)
  sorted : ∀ g ∈ x, g.Pairwise (fun a b => d6 a b < 0)
theorem batches_ok (far : Int) (l : List Pick) (hl : l.length ≤ 20) (hr : ∀ p ∈ l, iB p) : Ok (cV far l) (Batched far l) := by
  unfold cV
  obtain ⟨s, e1, e2, e3, e4⟩ := Sort_eq (l := l) (by omega)
  rw [e1, Option.bind_some]
  refine Ok.bind (stable_ok s (by omega)) (fun all ha => ?_)
  have hal : all.length = s.length := ha.1.length_eq
  refine Ok.bind (l36_ok far all (by omega) ha.2 fun p hp => ?_) (fun out hB => ?_)
  · have := hr p ((e3 p).1 (ha.1.mem_iff.1 hp))
    exact ⟨this.2.1, by have := this.2.2; omega⟩
  have hflat : out.flatten = all := by rw [hB.flat]; simp
  have hol : out.length ≤ 1000 := by have := len_le hB.ne; rw [hflat] at this; omega
  refine Ok.bind (l47_ok out hol fun g hg => ?_) (fun x hx => ?_)
  · have h1 := (List.sublist_flatten_of_mem hg).length_le
    rw [hflat] at h1; omega
  obtain ⟨hxl, hxp⟩ := hx
  have hperm : x.flatten.Perm s := (jk hxl fun j h h' => (hxp j h h').1).trans (by rw [hflat]; exact ha.1)
  have hnd : s.Nodup := e2.imp fun {a b} h e => by
    subst e
    have := dB.refl a
    omega
  refine Ok.ret ⟨⟨s, e1, by omega, e2, e3, hperm⟩, fun g hg => ?_, ?_, fun g hg => ?_⟩
  · obtain ⟨j, hj, rfl⟩ := List.getElem_of_mem hg
    have h1 := (hxp j hj (by omega)).1
    intro e
    rw [e] at h1
    exact hB.ne _ (List.getElem_mem (by omega)) h1.nil_eq.symm
  · rw [List.pairwise_iff_getElem]
    intro j k hj hk hjk b hb a ha'
    have h1 := List.pairwise_iff_getElem.1 hB.gap j k (by omega) (by omega) hjk
    exact h1 b ((hxp j hj (by omega)).1.mem_iff.1 hb) a ((hxp k hk (by omega)).1.mem_iff.1 ha')
  · obtain ⟨j, hj, rfl⟩ := List.getElem_of_mem hg
    have h1 := (hxp j hj (by omega)).2
    have hn : x[j].Nodup := (hperm.nodup_iff.2 hnd).sublist (List.sublist_flatten_of_mem (List.getElem_mem hj))
    refine (h1.and hn).imp fun {a b} h => ?_
    obtain ⟨h2, h3⟩ := h
    rcases Int.lt_or_eq_of_le h2 with h4 | h4
    · exact h4
    · exact (h3 (iL h4)).elim
end Go.Dw.Da




set_option maxRecDepth 100000
set_option maxHeartbeats 4000000
namespace Go.Dw.Da
open Go.Dw Go.Proofs

theorem sid_len {x : Sid} (h : So.jd x = true) : So.SidLen x := by
  obtain ⟨h1, h2, h3, h4⟩ := So.valid_len h
  exact ⟨by omega, by omega, by omega, by omega⟩
theorem valid_pick {p : Pick} (h : iB p) : cY p = some true := by
  obtain ⟨h0, h1, h2, h3, h4, h5, h6, h7, h8⟩ := h
  unfold cY
  rw [So.Valid_eq (sid_len h0), h0, Option.bind_some, if_pos rfl, if_pos (by simpa using h1), if_pos (by simpa using h2), if_pos (by simpa using h3), if_pos (by simpa using h4)]
  have e1 : eK p.aq 0 1073741823 = some true := by unfold eK; rw [if_pos (by simpa using h5)]; simpa using h6
  have e2 : eK p.aw (-1) 1 = some true := by unfold eK; rw [if_pos (by simpa using h7)]; simpa using h8
  rw [e1, Option.bind_some, if_pos rfl, e2]; rfl
theorem valid_all {l : List Pick} (hl : l.length ≤ 1000) (h : ∀ p ∈ l, iB p) : cW l = some true := by
  unfold cW bv bM
  have : Ok (loopO (bw l) (0 : Int)) (fun o => o = .inl ()) := by
    refine Ok.upto l.length (by omega) (fun _ => True) trivial (fun i h0 h1 _ => ?_)
    unfold bw
    refine Ok.iteD (fun hlt => ?_) (fun _ => Ok.st rfl)
    refine Ok.bind (Ok.get (by omega) (by omega)) (fun p hp => ?_)
    unfold cO
    rw [valid_pick (h p hp.1), Option.bind_some, Option.bind_some, if_neg (by simp), w64 (by omega) (by omega)]
    exact Ok.nx ⟨⟨by omega, by omega⟩, trivial⟩ (by omega)
  rw [this.eq]; rfl
theorem Batches_ok (n : Int) (h0 : 0 ≤ n) (h1 : n ≤ 1099511627776) (l : List Pick) (hl : l.length ≤ 20) (hr : ∀ p ∈ l, iB p) : Ok (cn n l) (fun r => r.2 = 0 ∧ Batched n l r.1) := by
  unfold cn
  refine Ok.iteD (fun _ => by omega) (fun _ => Ok.iteD (fun _ => by omega) (fun _ => ?_))
  rw [valid_all (by omega) hr, Option.bind_some, if_neg (by simp)]
  exact Ok.bind (batches_ok n l hl hr) fun x hx => Ok.ret ⟨rfl, hx⟩

theorem same_refl {l : List Pick} (hl : l.length ≤ 1000) : dL l l = some true := by
  unfold dL
  rw [if_neg (by simp)]
  have : Ok (loopO (dD l l) (0 : Int)) (fun o => o = .inl ()) := by
    refine Ok.upto l.length (by omega) (fun _ => True) trivial (fun i h0 h1 _ => ?_)
    unfold dD
    refine Ok.iteD (fun hlt => ?_) (fun _ => Ok.st rfl)
    obtain ⟨p, hp, -⟩ := Ok.get (l := l) h0 (by omega)
    rw [hp, Option.bind_some, Option.bind_some, if_neg (by simp), w64 (by omega) (by omega)]
    exact Ok.nx ⟨⟨by omega, by omega⟩, trivial⟩ (by omega)
  rw [this.eq]; rfl
def Early (p : Pick) : Prop := 0 ≤ p.aA ∧ p.aA ≤ 18014398509481984
theorem l48_ok (g : List Pick) (a : Pick) (x5 : Int × Src) (i k m j : Int) (all : List Pick) (hg : g.length ≤ 1000) (ha : Early a) (hb : ∀ b ∈ g, Early b ∧ x5.1 < a.aA - b.aA) :
    loopO (bW g a x5 i k m j all) (0 : Int) = some (.inl (i, k, m, j, all)) := by
  refine Ok.eq (Ok.upto g.length (by omega) (fun _ => True) trivial (fun q h0 h1 _ => ?_))
  unfold bW
  refine Ok.iteD (fun hlt => ?_) (fun _ => Ok.st rfl)
  refine Ok.bind (Ok.get h0 (by omega)) (fun b hb' => ?_)
  obtain ⟨e1, e2⟩ := hb b hb'.1
  obtain ⟨a0, a1⟩ := ha
  obtain ⟨b0, b1⟩ := e1
  rw [w64 (n := a.aA - b.aA) (by omega) (by omega)]
  refine Ok.iteD (fun _ => by omega) (fun _ => ?_)
  rw [w64 (by omega) (by omega)]
  exact Ok.nx ⟨⟨by omega, by omega⟩, trivial⟩ (by omega)
theorem l52_ok (h : List Pick) (X : List (List Pick)) (c : Int) (x5 : Int × Src) (i k m : Int) (all g : List Pick) (hk : getO X k = some g) (hh : h.length ≤ 1000) (hg : g.length ≤ 1000) (hgap : Gap x5.1 g h) (e1 : ∀ a ∈ h, Early a) (e2 : ∀ b ∈ g, Early b) :
    loopO (bX h (X, c) x5) (i, k, m, (0 : Int), all) = some (.inl (i, k, m, all)) := by
  refine Ok.eq (Ok.loop (fun s => ∃ j : Int, s = (i, k, m, j, all) ∧ 0 ≤ j ∧ j ≤ h.length) (fun s => ((h.length : Int) - s.2.2.2.1).toNat) ?_ ⟨0, rfl, Int.le_refl _, by omega⟩)
  rintro s ⟨j, rfl, h0, h1⟩
  unfold bX
  dsimp only
  refine Ok.iteD (fun hlt => ?_) (fun _ => Ok.st rfl)
  refine Ok.bind (Ok.get h0 (by omega)) (fun a ha => ?_)
  rw [hk, Option.bind_some, l48_ok g a x5 i k m j all hg (e1 a ha.1) fun b hb => ⟨e2 b hb, hgap b hb a ha.1⟩, Option.bind_some]
  dsimp only
  rw [w64 (by omega) (by omega)]
  exact Ok.nx ⟨j + 1, rfl, by omega, by omega⟩ (by simp only; omega)
structure XOk (n : Int) (X : List (List Pick)) : Prop where
  len : X.length ≤ 1000
  ne : ∀ g ∈ X, g ≠ []
  glen : X.flatten.length ≤ 1000
  gap : X.Pairwise (Gap n)
  early : ∀ g ∈ X, ∀ b ∈ g, Early b
theorem XOk.le {n : Int} {X : List (List Pick)} (h : XOk n X) {g : List Pick} (hg : g ∈ X) : g.length ≤ 1000 := by
  have := (List.sublist_flatten_of_mem hg).length_le
  have := h.glen
  omega
theorem l56_ok (X : List (List Pick)) (c : Int) (x5 : Int × Src) (hX : XOk x5.1 X) (i : Nat) (hi : i < X.length) (m : Int) (all : List Pick) :
    loopO (bY (X, c) x5) ((i : Int), (0 : Int), m, all) = some (.inl ((i : Int), m, all)) := by
  have hlen := hX.len
  refine Ok.eq (Ok.loop (fun s => ∃ k : Nat, s = ((i : Int), (k : Int), m, all) ∧ k ≤ i) (fun s => ((i : Int) - s.2.1).toNat) ?_ ⟨0, rfl, Nat.zero_le _⟩)
  rintro s ⟨k, rfl, hk⟩
  unfold bY
  dsimp only
  refine Ok.iteD (fun hlt => ?_) (fun _ => Ok.st rfl)
  have hkX : k < X.length := by omega
  rw [getO_at (i := i) rfl hi, Option.bind_some, l52_ok X[i] X c x5 i k m all X[k] (getO_at (i := k) rfl hkX) (hX.le (List.getElem_mem hi)) (hX.le (List.getElem_mem hkX))
    (List.pairwise_iff_getElem.1 hX.gap k i hkX hi (by omega)) (hX.early _ (List.getElem_mem hi)) (hX.early _ (List.getElem_mem hkX)), Option.bind_some]
  dsimp only
  rw [w64 (by omega) (by omega)]
  exact Ok.nx ⟨k + 1, by simp, by omega⟩ (by simp only; omega)
theorem l62_ok (X : List (List Pick)) (c : Int) (x5 : Int × Src) (hX : XOk x5.1 X) : loopO (bZ (X, c) x5) ((0 : Int), []) = some (.inl X.flatten) := by
  have hlen := hX.len
  refine Ok.eq (Ok.loop (fun s => ∃ i : Nat, s = ((i : Int), (X.take i).flatten) ∧ i ≤ X.length) (fun s => ((X.length : Int) - s.1).toNat) ?_ ⟨0, by simp, Nat.zero_le _⟩)
  rintro s ⟨i, rfl, hi⟩
  unfold bZ
  dsimp only
  refine Ok.iteD (fun hlt => ?_) (fun hge => ?_)
  rotate_left
  · have : i = X.length := by omega
    subst this
    exact Ok.st (by simp)
  have hiX : i < X.length := by omega
  have hne := List.length_pos_iff.2 (hX.ne _ (List.getElem_mem hiX))
  rw [getO_at (i := i) rfl hiX, Option.bind_some, if_neg (by simpa using (show ¬ X[i] = [] from hX.ne _ (List.getElem_mem hiX))), l56_ok X c x5 hX i hiX, Option.bind_some]
  dsimp only
  have h1 : (X.take i).flatten.length ≤ 1000 := by
    have h2 : ((X.take i).flatten).Sublist X.flatten := by
      have : X.flatten = (X.take i).flatten ++ (X.drop i).flatten := by rw [← List.flatten_append, List.take_append_drop]
      rw [this]; exact List.sublist_append_left _ _
    have := h2.length_le
    have := hX.glen
    omega
  have h2 := hX.le (List.getElem_mem hiX)
  rw [getO_at (i := i) rfl hiX, Option.bind_some, jj (by omega), Option.bind_some, w64 (by omega) (by omega)]
  refine Ok.nx ⟨i + 1, ?_, by omega⟩ (by simp only; omega)
  rw [take_succ_at hiX, List.flatten_append]
  simp [-List.flatten_append]

def P (t : Int) : Pick := ⟨⟨[65, 66], [83, 49], [48, 48], [66, 72, 90]⟩, t, t, t, 0, 0⟩
def S1 : Sid := ⟨[65, 66], [83, 49], [48, 48], [66, 72, 90]⟩
theorem pick_at (t : Int) : cX t = some (P t) := by
  have : da (0 : Int) = some S1 := by kernel_rfl
  unfold cX
  rw [this]; rfl
theorem sortP {a : Pick} {l r : List Pick} (hl : (a :: l).length < 4611686018427387904)
    (h : (haveI : Inhabited Pick := ⟨a⟩; (Sort.pdq (fun x y => decide (d6 x y < 0)) (a :: l).toArray 0 (a :: l).length (Lib.bitLen (a :: l).length) true true).toList) = r) : sortO aN (a :: l) = some r := by
  rw [sortO_cons, if_pos ⟨Compare_ok, hl⟩, lt3_eq, ← h]
theorem lt3S : lt3 bi = fun x y => decide (Sd.iQ x y < 0) := by
  funext x y
  unfold lt3
  rw [Sd.fH]; rfl
theorem sortS {a : Sid} {l r : List Sid} (hl : (a :: l).length < 4611686018427387904)
    (h : (haveI : Inhabited Sid := ⟨a⟩; (Sort.pdq (fun x y => decide (Sd.iQ x y < 0)) (a :: l).toArray 0 (a :: l).length (Lib.bitLen (a :: l).length) true true).toList) = r) : sortO bi (a :: l) = some r := by
  rw [sortO_cons, if_pos ⟨⟨fun x y => ⟨_, Sd.fH x y⟩, by rw [lt3S]; exact Sd.cmpS_tot.swo⟩, hl⟩, lt3S, ← h]
theorem lit2_eq (a b : ag) : ba a b = some (cmpI a.ck b.ck) := by
  unfold ba
  rw [Sd.cmp_int]; rfl
theorem lt3N : lt3 ba = fun x y => decide (cmpI x.ck y.ck < 0) := by
  funext x y
  unfold lt3
  rw [lit2_eq]; rfl
theorem sortN {a : ag} {l r : List ag} (hl : (a :: l).length < 4611686018427387904)
    (h : (haveI : Inhabited ag := ⟨a⟩; (Sort.pdq (fun x y => decide (cmpI x.ck y.ck < 0)) (a :: l).toArray 0 (a :: l).length (Lib.bitLen (a :: l).length) true true).toList) = r) : sortO ba (a :: l) = some r := by
  rw [sortO_cons, if_pos ⟨⟨fun x y => ⟨_, lit2_eq x y⟩, by rw [lt3N]; exact (cmpI_tot.map fun x : ag => x.ck).swo⟩, hl⟩, lt3N, ← h]
theorem awake_batches : cn 10 [P 16, P 0, P 40, P 8] = some ([[P 0, P 8, P 16], [P 40]], 0) := by
  have e0 : cW [P 16, P 0, P 40, P 8] = some true := iT _ _ (by kernel_rfl)
  have e1 : sortO aN [P 16, P 0, P 40, P 8] = some [P 0, P 8, P 16, P 40] := sortP (by simp) (by kernel_rfl)
  have e2 : dX [P 16, P 0, P 40, P 8] = some [P 0, P 8, P 16, P 40] := by
    unfold dX
    have c1 : cloneO 104 [P 16, P 0, P 40, P 8] = some [P 16, P 0, P 40, P 8] := by kernel_rfl
    have c2 : bD [P 0, P 8, P 16, P 40] = some [P 0, P 8, P 16, P 40] := ip _ _ (by kernel_rfl)
    rw [c1, Option.bind_some, e1, Option.bind_some, c2]; rfl
  have e3 : aS [P 0, P 8, P 16, P 40] = some [P 0, P 8, P 16, P 40] := fi _ _ (by kernel_rfl)
  have e4 : loopO (bS [P 0, P 8, P 16, P 40] 10) ((0 : Int), []) = some [[P 0, P 8, P 16], [P 40]] := (Le.loop (fun s => gR _ _ s) cv _) _ (by kernel_rfl)
  have s1 : sortO aN [P 0, P 8, P 16] = some [P 0, P 8, P 16] := sortP (by simp) (by kernel_rfl)
  have s2 : sortO aN [P 40] = some [P 40] := sortP (by simp) (by kernel_rfl)
  have e5 : loopO (bA [[P 0, P 8, P 16], [P 40]]) ((0 : Int), [[P 0, P 8, P 16], [P 40]]) = some [[P 0, P 8, P 16], [P 40]] := by
    have n0 : bA [[P 0, P 8, P 16], [P 40]] ((0 : Int), [[P 0, P 8, P 16], [P 40]]) = some (.next ((1 : Int), [[P 0, P 8, P 16], [P 40]])) := by
      show (sortO aN [P 0, P 8, P 16]).bind _ = _
      rw [s1]; kernel_rfl
    have n1 : bA [[P 0, P 8, P 16], [P 40]] ((1 : Int), [[P 0, P 8, P 16], [P 40]]) = some (.next ((2 : Int), [[P 0, P 8, P 16], [P 40]])) := by
      show (sortO aN [P 40]).bind _ = _
      rw [s2]; kernel_rfl
    have n2 : bA [[P 0, P 8, P 16], [P 40]] ((2 : Int), [[P 0, P 8, P 16], [P 40]]) = some (.stop [[P 0, P 8, P 16], [P 40]]) := by kernel_rfl
    rw [loopO_next n0, loopO_next n1, loopO_stop n2]
  have e6 : cV 10 [P 16, P 0, P 40, P 8] = some [[P 0, P 8, P 16], [P 40]] := by
    unfold cV
    rw [e2, Option.bind_some, e3, Option.bind_some, e4, Option.bind_some, e5]; rfl
  unfold cn
  rw [e0, e6]; rfl
theorem awake_depends : d9 [P 4, P 5, P 9] = some [⟨S1, [⟨4, 6⟩, ⟨9, 10⟩]⟩] := by
  have d1 : loopO (dn [P 4, P 5, P 9]) ((0 : Int), [], []) = some ([(S1, [⟨4, 5⟩, ⟨5, 6⟩, ⟨9, 10⟩])], [S1, S1, S1]) := (Le.loop (fun s => gQ _ s) cv _) _ (by kernel_rfl)
  have d2 : sortO bi [S1, S1, S1] = some [S1, S1, S1] := sortS (by simp) (by kernel_rfl)
  have d3 : hJ [S1, S1, S1] = some [S1] := by
    unfold hJ
    have c1 : cloneO 64 [S1, S1, S1] = some [S1, S1, S1] := by kernel_rfl
    have c2 : cx [S1, S1, S1] = some [S1] := gL _ _ (by kernel_rfl)
    rw [c1, Option.bind_some, d2, Option.bind_some, c2]; rfl
  have d4 : gf [⟨4, 5⟩, ⟨5, 6⟩, ⟨9, 10⟩] = some [⟨4, 6⟩, ⟨9, 10⟩] := by
    unfold gf
    have c1 : cloneO 16 ([⟨4, 5⟩, ⟨5, 6⟩, ⟨9, 10⟩] : List ag) = some [⟨4, 5⟩, ⟨5, 6⟩, ⟨9, 10⟩] := by kernel_rfl
    have c2 : bG [⟨4, 5⟩, ⟨5, 6⟩, ⟨9, 10⟩] = some [⟨4, 5⟩, ⟨5, 6⟩, ⟨9, 10⟩] := fT _ _ (by kernel_rfl)
    have c3 : sortO ba [⟨4, 5⟩, ⟨5, 6⟩, ⟨9, 10⟩] = some [⟨4, 5⟩, ⟨5, 6⟩, ⟨9, 10⟩] := sortN (by simp) (by kernel_rfl)
    have c4 : loopO (fd [⟨4, 5⟩, ⟨5, 6⟩, ⟨9, 10⟩]) ((0 : Int), []) = some [⟨4, 6⟩, ⟨9, 10⟩] := (Le.loop (fun s => jc _ s) cv _) _ (by kernel_rfl)
    rw [c1, Option.bind_some, c2, Option.bind_some, c3, Option.bind_some, c4]; rfl
  have d5 : loopO (dp [S1] ([(S1, [⟨4, 5⟩, ⟨5, 6⟩, ⟨9, 10⟩])], [S1, S1, S1])) ((0 : Int), []) = some [⟨S1, [⟨4, 6⟩, ⟨9, 10⟩]⟩] := by
    have n0 : dp [S1] ([(S1, [⟨4, 5⟩, ⟨5, 6⟩, ⟨9, 10⟩])], [S1, S1, S1]) ((0 : Int), []) = some (.next ((1 : Int), [⟨S1, [⟨4, 6⟩, ⟨9, 10⟩]⟩])) := by
      show (gf (mGet iW S1 [] [(S1, [⟨4, 5⟩, ⟨5, 6⟩, ⟨9, 10⟩])])).bind _ = _
      have : mGet iW S1 [] [(S1, ([⟨4, 5⟩, ⟨5, 6⟩, ⟨9, 10⟩] : List ag))] = [⟨4, 5⟩, ⟨5, 6⟩, ⟨9, 10⟩] := by kernel_rfl
      rw [this, d4]; rfl
    have n1 : dp [S1] ([(S1, [⟨4, 5⟩, ⟨5, 6⟩, ⟨9, 10⟩])], [S1, S1, S1]) ((1 : Int), [⟨S1, [⟨4, 6⟩, ⟨9, 10⟩]⟩]) = some (.stop [⟨S1, [⟨4, 6⟩, ⟨9, 10⟩]⟩]) := by kernel_rfl
    rw [loopO_next n0, loopO_stop n1]
  unfold d9
  rw [d1, Option.bind_some]
  dsimp only
  rw [d3, Option.bind_some, d5]; rfl
theorem awake_at : gZ = some true := by
  unfold gZ
  have h1 : da (0 : Int) = some S1 := by kernel_rfl
  have h2 : cZ [⟨S1, [⟨4, 6⟩, ⟨9, 10⟩]⟩] [⟨S1, [⟨4, 6⟩, ⟨9, 10⟩]⟩] = some true := iA _ _ _ (by kernel_rfl)
  simp only [pick_at, Option.bind_some, awake_batches, awake_depends, h1]
  rw [show ((0 : Int) == 0) = true from rfl, if_pos rfl]
  show (cZ _ _).bind _ = _
  rw [h2]; rfl

theorem iO (l : List Int) : eo l = some true := by
  refine Ok.eq ?_
  unfold eo
  refine Ok.bind (new_ok l) (fun x1 h1 => ?_)
  refine Ok.bind (settings_ok x1 h1) (fun x2 h2 => ?_)
  refine Ok.bind (sites_ok _ h2.2) (fun x3 h3 => ?_)
  refine Ok.bind (picks_ok x2.1 h2.1 x3.1 h3.1 14 (by omega) _ h3.2) (fun x4 h4 => ?_)
  obtain ⟨⟨hlen, hpk⟩, h4⟩ := h4
  refine Ok.bind (fc _ _ h4 (by simp) (by simp)) (fun x5 h5 => ?_)
  have hn : 0 ≤ x5.1 ∧ x5.1 ≤ 400 := by have := h5.1; simp at this; omega
  refine Ok.bind (Batches_ok x5.1 hn.1 (by omega) x4.1 (by omega) hpk) (fun x6 h6 => ?_)
  obtain ⟨X, c⟩ := x6
  obtain ⟨hc, hB⟩ := h6
  dsimp only at hc hB
  subst hc
  rw [if_neg (by simp)]
  obtain ⟨s, e1, e2, e3, e4, e5⟩ := hB.flat
  have hfl : X.flatten.length = s.length := e5.length_eq
  have hX : XOk x5.1 X := ⟨by have := len_le hB.ne; omega, hB.ne, by omega, hB.gap, fun g hg b hb => by
    have := hpk b ((e4 b).1 (e5.mem_iff.1 (List.mem_flatten.2 ⟨g, hg, hb⟩)))
    exact ⟨this.2.1, by have := this.2.2; omega⟩⟩
  rw [l62_ok X 0 x5 hX, Option.bind_some]
  dsimp only
  obtain ⟨r, g1, g2, g3, g4, g5⟩ := Sorts_eq (l := x4.1) (by omega)
  have hrs : r = s := by rw [e1] at g1; exact (Option.some.inj g1).symm
  subst hrs
  obtain ⟨r2, k1, k2, k3, k4, k5⟩ := Sorts_eq (l := X.flatten) (by omega)
  have hr2 : r2 = r := ia k4 e3 fun x => (k5 x).trans e5.mem_iff
  subst hr2
  rw [g2, Option.bind_some, if_pos (by rw [hfl]; simp), k2, Option.bind_some, Option.bind_some, same_refl (by omega), Option.bind_some, if_pos rfl, awake_at]
  exact Ok.ret rfl
end Go.Dw.Da
