
import Derived.Test.YtkcfodpngpmlcaaGreatDeLawT


set_option maxRecDepth 100000
set_option maxHeartbeats 4000000
namespace Go.Dw.De
open Go.Dw Go.Proofs
open Sd (rD ky mf)

theorem lit_ok {x : az} (hx : x.cj.length ≤ 10100) (s : Sid) (f u : Int) : Ok (cH x s f u) (fun r => x.ak = s → (∃ t, f ≤ t ∧ t < u ∧ db x.cj t) → r = true) := by
  unfold cH
  rw [Sd.eqs]
  refine Ok.iteD (fun he => ?_) (fun he => Ok.ret fun h => (he h).elim)
  unfold span_Cut
  rw [Option.bind_fun_some]
  refine Ok.bind (meet_ok (by omega) (by simp)) (fun r hr => Ok.ret fun _ ⟨t, h1, h2, h3⟩ => ?_)
  have := List.length_pos_iff.2 (hr ⟨t, h3, (lN _ _).2 ⟨h1, h2⟩⟩)
  simpa using this
theorem touches_ok {l : List az} (hl : AffOk l) (s : Sid) (f u : Int) : Ok (jM l s f u) (fun r => (∃ t, f ≤ t ∧ t < u ∧ hasA l s t) → r = true) := by
  have hlen := hl.len
  have hp : ∀ x ∈ l, cH x s f u = some ((cH x s f u).getD false) := fun x hx => by
    obtain ⟨r, e, -⟩ := lit_ok (hl.spans x hx) s f u
    rw [e]; rfl
  have h1 : ∀ (i : Nat) (hi : i < l.length), cr l s f u (i : Int) = if ((cH l[i] s f u).getD false) = true then some (.stop (.inr (i : Int))) else some (.next ((i + 1 : Nat) : Int)) := by
    intro i hi
    unfold cr
    rw [if_pos (by simp; omega), getO_at rfl hi, Option.bind_some, hp _ (List.getElem_mem hi), Option.bind_some, w64 (by omega) (by omega)]
    simp
  have h2 : cr l s f u (l.length : Nat) = some (.stop (.inl ())) := by
    unfold cr
    rw [if_neg (by simp)]
  unfold jM eP fV
  rcases vA l (p := fun x => (cH x s f u).getD false) (f := fun i _ => (i : Int)) h1 h2 with ⟨e, h⟩ | ⟨i, hi, e, -, -⟩
  · rw [e]
    refine ⟨false, rfl, fun ⟨t, t1, t2, x, hx, hs, ht⟩ => ?_⟩
    have := (lit_ok (hl.spans x hx) s f u).val (hp x hx) hs ⟨t, t1, t2, ht⟩
    rw [h x hx] at this
    cases this
  · rw [e]
    exact ⟨true, by simp, fun _ => rfl⟩

theorem eqS_eq (a b : Sid) : si a b = decide (a = b) := Sd.eqs a b
structure DepOk (p : List Pick) (r : List az) : Prop where
  len : r.length ≤ 1000
  spans : ∀ x ∈ r, x.cj.length ≤ 1000
  has : ∀ q ∈ p, hasA r q.ak q.aM
theorem depends_ok (p : List Pick) (hl : p.length ≤ 100) (hp : ∀ q ∈ p, lG q) : Ok (dp p) (DepOk p) := by
  unfold dp
  refine Ok.bind (P := fun o => o.2.length ≤ 100 ∧ (∀ k, (mGet si k ([] : List Span) o.1).length ≤ 100) ∧ ∀ q ∈ p, q.ak ∈ o.2 ∧ db (mGet si q.ak ([] : List Span) o.1) q.aM)
    (Ok.loop (fun s : Int × List (Sid × List Span) × List Sid => ∃ i : Nat, s.1 = i ∧ i ≤ p.length ∧ s.2.2.length ≤ i ∧ (∀ k, (mGet si k ([] : List Span) s.2.1).length ≤ i) ∧ ∀ q ∈ p.take i, q.ak ∈ s.2.2 ∧ db (mGet si q.ak ([] : List Span) s.2.1) q.aM) (fun s => ((p.length : Int) - s.1).toNat) ?_ ⟨0, rfl, Nat.zero_le _, by simp, fun k => by simp [mGet], by simp⟩) (fun o ho => ?_)
  · rintro ⟨s1, s2, s3⟩ ⟨i, i0, i1, i2, i3, i4⟩
    simp only at i0 i2 i3 i4
    subst i0
    unfold eV
    dsimp only
    refine Ok.iteD (fun hlt => ?_) (fun hge => ?_)
    rotate_left
    · have : i = p.length := by omega
      subst this
      exact Ok.st ⟨by simp only; omega, fun k => by have := i3 k; simp only; omega, by rw [List.take_length] at i4; exact i4⟩
    have hi : i < p.length := by omega
    have hv := hp _ (List.getElem_mem hi)
    have hvt : 0 ≤ p[i].aM ∧ p[i].aM ≤ 18014398509481984 := ⟨by have := hv.2.1; have := hv.2.2.1; omega, by have := hv.2.2.2.1; have := hv.2.2.2.2.1; omega⟩
    have i3' := i3 p[i].ak
    rw [getO_at rfl hi, Option.bind_some, valid_pick hv, Option.bind_some, if_neg (by simp), gx (by simp only [List.length_cons, List.length_nil]; omega), Option.bind_some, gx (by simp only [List.length_cons, List.length_nil]; omega), Option.bind_some, w64 (n := (i : Int) + 1) (by omega) (by omega), w64 (n := p[i].aM + 1) (by omega) (by omega)]
    refine Ok.nx ⟨i + 1, by simp, by omega, by simp; omega, fun k => ?_, fun q hq => ?_⟩ (by simp only; omega)
    · simp only
      rw [yX eqS_eq]
      split
      · simp only [List.length_append, List.length_cons, List.length_nil]; omega
      · have := i3 k; omega
    · simp only
      rw [yX eqS_eq]
      rw [take_succ_at hi] at hq
      rcases List.mem_append.1 hq with hq | hq
      · obtain ⟨h1, h2⟩ := i4 q hq
        refine ⟨by simp [h1], ?_⟩
        split
        · rename_i h
          rw [kz, ← h]
          exact .inl h2
        · exact h2
      · have hq := List.mem_singleton.1 hq
        subst hq
        refine ⟨by simp, ?_⟩
        rw [if_pos rfl, kz, lN]
        exact .inr ⟨Int.le_refl _, by simp only; omega⟩
  obtain ⟨m, srcs⟩ := o
  obtain ⟨o1, o2, o3⟩ := ho
  simp only at o1 o2 o3
  refine Ok.bind (SSort_ok (by simp only; omega)) (fun L hL => ?_)
  obtain ⟨hL1, -, hL2⟩ := hL
  simp only at hL1 hL2
  refine Ok.bind (P := DepOk p) (Ok.loop (fun s : Int × List az => ∃ i : Nat, s.1 = i ∧ i ≤ L.length ∧ s.2.length ≤ i ∧ (∀ x ∈ s.2, x.cj.length ≤ 1000) ∧ ∀ k ∈ L.take i, ∀ y, db (mGet si k ([] : List Span) m) y → hasA s.2 k y) (fun s => ((L.length : Int) - s.1).toNat) ?_ ⟨0, rfl, Nat.zero_le _, by simp, by simp, by simp⟩) (fun r hr => Ok.ret hr)
  rintro ⟨s1, s2⟩ ⟨i, i0, i1, i2, i3, i4⟩
  simp only at i0 i2 i3 i4
  subst i0
  unfold eW
  dsimp only
  refine Ok.iteD (fun hlt => ?_) (fun hge => ?_)
  rotate_left
  · have : i = L.length := by omega
    subst this
    rw [List.take_length] at i4
    exact Ok.st ⟨by omega, i3, fun q hq => i4 q.ak ((hL2 _).2 (o3 q hq).1) q.aM (o3 q hq).2⟩
  have hi : i < L.length := by omega
  have o2' := o2 L[i]
  rw [getO_at rfl hi, Option.bind_some]
  refine Ok.bind (uT (by omega)) (fun d hd => ?_)
  obtain ⟨d1, -, d2⟩ := hd
  rw [gx (by simp only [List.length_cons, List.length_nil]; omega), Option.bind_some, w64 (by omega) (by omega)]
  refine Ok.nx ⟨i + 1, by simp, by omega, by simp; omega, fun x hx => ?_, fun k hk y hy => ?_⟩ (by simp only; omega)
  · rcases List.mem_append.1 hx with hx | hx
    · exact i3 x hx
    · rw [List.mem_singleton.1 hx]; simp only; omega
  · rw [take_succ_at hi] at hk
    rcases List.mem_append.1 hk with hk | hk
    · obtain ⟨x, hx, h1, h2⟩ := i4 k hk y hy
      exact ⟨x, by simp [hx], h1, h2⟩
    · have hk := List.mem_singleton.1 hk
      subst hk
      exact ⟨⟨L[i], d⟩, by simp, rfl, (d2 y).2 hy⟩

def Hit (l : List az) (d : az) (x : Span) : Prop := ∃ t, x.aK ≤ t ∧ t < x.fTo ∧ hasA l d.ak t
theorem m23_ok (d : az) (l : List az) (hl : AffOk l) (hd : d.cj.length ≤ 1000) (i : Int) (b : Bool) :
    Ok (loopO (gH d l i) (b, (0 : Int))) (fun o => o.2 = i ∧ (o.1 = true ∨ (b = false ∧ ∀ x ∈ d.cj, ¬ Hit l d x))) := by
  refine Ok.loop (fun s => ∃ k : Nat, s.2 = k ∧ k ≤ d.cj.length ∧ (s.1 = true ∨ (b = false ∧ ∀ x ∈ d.cj.take k, ¬ Hit l d x))) (fun s => ((d.cj.length : Int) - s.2).toNat) ?_ ⟨0, rfl, Nat.zero_le _, by cases b <;> simp⟩
  rintro ⟨s1, s2⟩ ⟨k, k0, k1, k2⟩
  simp only at k0 k2
  subst k0
  unfold gH
  dsimp only
  refine Ok.iteD (fun hlt => ?_) (fun hge => ?_)
  rotate_left
  · have : k = d.cj.length := by omega
    subst this
    rw [List.take_length] at k2
    exact Ok.st ⟨rfl, k2⟩
  have hk : k < d.cj.length := by omega
  rw [getO_at rfl hk, Option.bind_some, w64 (by omega) (by omega)]
  refine Ok.iteB (fun _ => Ok.nx ⟨k + 1, by simp, by omega, .inl rfl⟩ (by simp only; omega)) (fun hb => ?_)
  refine Ok.bind (touches_ok hl _ _ _) (fun r hr => Ok.nx ⟨k + 1, by simp, by omega, ?_⟩ (by simp only; omega))
  simp only
  cases r with
  | true => exact .inl rfl
  | false =>
    refine .inr ?_
    rcases k2 with h | ⟨h1, h2⟩
    · rw [hb] at h; cases h
    · refine ⟨h1, fun x hx => ?_⟩
      rw [take_succ_at hk] at hx
      rcases List.mem_append.1 hx with hx | hx
      · exact h2 x hx
      · rw [List.mem_singleton.1 hx]
        intro h
        cases hr h
theorem m25_ok (D l : List az) (hl : AffOk l) (hD : D.length ≤ 1000) (hd : ∀ d ∈ D, d.cj.length ≤ 1000) :
    Ok (loopO (gI D l) (false, (0 : Int))) (fun o => o = true ∨ ∀ d ∈ D, ∀ x ∈ d.cj, ¬ Hit l d x) := by
  refine Ok.loop (fun s => ∃ k : Nat, s.2 = k ∧ k ≤ D.length ∧ (s.1 = true ∨ ∀ d ∈ D.take k, ∀ x ∈ d.cj, ¬ Hit l d x)) (fun s => ((D.length : Int) - s.2).toNat) ?_ ⟨0, rfl, Nat.zero_le _, .inr (by simp)⟩
  rintro ⟨s1, s2⟩ ⟨k, k0, k1, k2⟩
  simp only at k0 k2
  subst k0
  unfold gI
  dsimp only
  refine Ok.iteD (fun hlt => ?_) (fun hge => ?_)
  rotate_left
  · have : k = D.length := by omega
    subst this
    rw [List.take_length] at k2
    exact Ok.st k2
  have hk : k < D.length := by omega
  rw [getO_at rfl hk, Option.bind_some]
  refine Ok.bind (m23_ok D[k] l hl (hd _ (List.getElem_mem hk)) k s1) (fun o ho => ?_)
  obtain ⟨o1, o2⟩ := ho
  rw [o1, w64 (by omega) (by omega)]
  refine Ok.nx ⟨k + 1, by simp, by omega, ?_⟩ (by simp only; omega)
  rcases o2 with h | ⟨h1, h2⟩
  · exact .inl h
  · rcases k2 with h | h
    · rw [h1] at h; cases h
    · refine .inr fun d hd => ?_
      rw [take_succ_at hk] at hd
      rcases List.mem_append.1 hd with hd | hd
      · exact h d hd
      · rw [List.mem_singleton.1 hd]; exact h2
theorem m39_ok (x4 : List Pick × Src) (x3 x5 : ae × Src) (l : List az) (hl : AffOk l) (hp : x4.1.length ≤ 1000) (ht : ∀ q ∈ x4.1, lG q) (ha : IV x3.1) (hb : IV x5.1)
    (hA : ∀ q, Chg x3.1 x5.1 q → hasA l q.ak q.aM) : Ok (loopO (gJ x4 x3 x5 l) (false, (0 : Int))) (fun o => ∃ b, o = .inl b ∧ (b = true → ∃ q ∈ x4.1, Chg x3.1 x5.1 q)) := by
  refine Ok.loop (fun s => ∃ k : Nat, s.2 = k ∧ k ≤ x4.1.length ∧ (s.1 = true → ∃ q ∈ x4.1, Chg x3.1 x5.1 q)) (fun s => ((x4.1.length : Int) - s.2).toNat) ?_ ⟨0, rfl, Nat.zero_le _, by simp⟩
  rintro ⟨s1, s2⟩ ⟨k, k0, k1, k2⟩
  simp only at k0 k2
  subst k0
  unfold gJ
  dsimp only
  refine Ok.iteD (fun hlt => ?_) (fun _ => Ok.st ⟨s1, rfl, k2⟩)
  have hk : k < x4.1.length := by omega
  have hv := ht _ (List.getElem_mem hk)
  have hvt : 0 ≤ x4.1[k].aM ∧ x4.1[k].aM ≤ 18014398509481984 := ⟨by have := hv.2.1; have := hv.2.2.1; omega, by have := hv.2.2.2.1; have := hv.2.2.2.2.1; omega⟩
  rw [getO_at rfl hk, Option.bind_some, xV ha.len hb.len ha.val hb.val, Option.bind_some, w64 (n := (k : Int) + 1) (by omega) (by omega)]
  refine Ok.iteD (fun hc => ?_) (fun hc => ?_)
  · have hq : ∃ q ∈ x4.1, Chg x3.1 x5.1 q := ⟨_, List.getElem_mem hk, hc⟩
    rw [w64 (by omega) (by omega)]
    refine Ok.bind (touches_ok hl _ _ _) (fun r hr => ?_)
    rw [hr ⟨x4.1[k].aM, Int.le_refl _, by omega, hA _ hc⟩, if_neg (by simp)]
    exact Ok.iteB (fun _ => Ok.nx ⟨k + 1, by simp, by omega, fun _ => hq⟩ (by simp only; omega)) (fun _ => Ok.nx ⟨k + 1, by simp, by omega, fun _ => hq⟩ (by simp only; omega))
  · refine Ok.iteB (fun h => Ok.nx ⟨k + 1, by simp, by omega, fun _ => k2 h⟩ (by simp only; omega)) (fun _ => Ok.nx ⟨k + 1, by simp, by omega, fun h => (hc (by simpa using h)).elim⟩ (by simp only; omega))
theorem u5 (l : List Int) : js l = some true := by
  refine Ok.eq ?_
  unfold js
  refine Ok.bind (new_ok l) (fun x1 h1 => ?_)
  refine Ok.bind (settings_ok x1 h1) (fun x2 h2 => ?_)
  refine Ok.bind (sitesV _ h2.2) (fun x3 h3 => ?_)
  refine Ok.bind (picks_ok x2.1 h2.1 x3.1 h3.1.inv 8 (by omega) _ h3.2) (fun x4 h4 => ?_)
  obtain ⟨⟨hlen, hpk⟩, h4⟩ := h4
  refine Ok.bind (correctedV x3.1 h3.1 _ h4) (fun x5 h5 => ?_)
  refine Ok.bind (affected_ok h3.1 h5.1) (fun x6 h6 => ?_)
  refine Ok.bind (depends_ok x4.1 (by omega) hpk) (fun x7 h7 => ?_)
  refine Ok.bind (m25_ok x7 x6 h6.1 h7.len h7.spans) (fun o26 ho => ?_)
  refine Ok.bind (m39_ok x4 x3 x5 x6 h6.1 (by omega) hpk h3.1.iv h5.1.iv (fun q hq => h6.2 _ _ hq)) (fun o40 ho40 => ?_)
  obtain ⟨b, rfl, hb⟩ := ho40
  dsimp only
  rw [awake_at]
  refine Ok.iteN (fun _ => Ok.ret rfl) (fun hbt => ?_)
  obtain ⟨q, hq, hc⟩ := hb hbt
  have : o26 = true := by
    rcases ho with h | h
    · exact h
    · obtain ⟨d, hd, e, s, hs, s1, s2⟩ := h7.has q hq
      exact (h d hd s hs ⟨q.aM, s1, s2, by rw [e]; exact h6.2 _ _ hc⟩).elim
  rw [this, if_pos rfl]
  exact Ok.ret rfl
end Go.Dw.De
