
import Derived.Test.YtkcfodpngpmlcaaGreatDeLawT


set_option maxRecDepth 100000
set_option maxHeartbeats 4000000
namespace Go.Dw.De
open Go.Dw Go.Proofs
open Sd (tU sQ sI)

theorem solUsable_ok {s : aG} (hs : SetV s) {v : ae} (hv : vp v) {p : Pick} (hp : j9 p) : Ok (jg s v p) (fun r => r.2 = true → r.1.aH = p.aH) := by
  unfold jg
  rw [set_valid hs, Option.bind_some, if_neg (by simp), xt hv, Option.bind_some, if_neg (by simp)]
  refine Ok.bind (P := fun r => r.2.2 = true → r.1.aH = p.aH) ?_ (fun r hr => Ok.ret hr)
  unfold nD
  rw [valid_pick hp, Option.bind_some, if_neg (by simp), At_eq hv.lens (xt hv), Option.bind_some]
  cases h : epAt v p.al p.aN with
  | none =>
    dsimp only
    rw [if_pos (by simp)]
    exact Ok.ret (by simp)
  | some e =>
    dsimp only
    rw [if_neg (by simp)]
    have he : oJ 60 e.aF := by
      unfold epAt at h
      cases hc : chan v p.al with
      | none => rw [hc] at h; cases h
      | some c =>
        rw [hc] at h
        exact ((hv.all c (chan_mem hc).1).2.all e (epIn_mem h).1).pos
    refine Ok.bind (zone_ok hs.tab hs.box (a := ⟨e.aF, p.aH, p.aY, 1⟩) he) (fun z _ => ?_)
    exact Ok.iteNe (fun _ => Ok.ret (by simp)) (fun _ => Ok.ret (fun _ => rfl))
theorem usable_ok {s : aG} (hs : SetV s) {v : ae} (hv : vp v) (l : List Pick) (hl : l.length ≤ 20) (hp : ∀ p ∈ l, j9 p) :
    Ok (ss s v l) (fun r => r.2.2 = 0 ∧ r.2.1.map (·.aH) = r.1.map (·.aH) ∧ r.1.length ≤ l.length ∧ ∀ p ∈ r.1, p ∈ l) := by
  unfold ss
  rw [set_valid hs, Option.bind_some, if_neg (by simp), xt hv, Option.bind_some, if_neg (by simp)]
  obtain ⟨L, e1, -, e3, e4⟩ := Sort_eq (l := l) (by omega)
  rw [e1, Option.bind_some]
  refine Ok.bind (P := fun o => o.2.map (·.aH) = o.1.map (·.aH) ∧ o.1.length ≤ l.length ∧ ∀ p ∈ o.1, p ∈ l) (Ok.loop (fun s : Int × List Pick × List ak => ∃ i : Nat, s.1 = i ∧ i ≤ L.length ∧ s.2.2.map (·.aH) = s.2.1.map (·.aH) ∧ s.2.1.length ≤ i ∧ ∀ p ∈ s.2.1, p ∈ l) (fun s => ((L.length : Int) - s.1).toNat) ?_ ⟨0, rfl, Nat.zero_le _, rfl, by simp, by simp⟩) (fun o ho => ?_)
  · rintro ⟨s6, s7, s8⟩ ⟨i, i0, i1, i2, i3, i4⟩
    simp only at i0 i2 i3 i4
    subst i0
    have i5 : s8.length = s7.length := by have := congrArg List.length i2; simpa using this
    unfold mn
    dsimp only
    refine Ok.iteD (fun hlt => ?_) (fun _ => Ok.st ⟨i2, by simp only; omega, i4⟩)
    have hi : i < L.length := by omega
    have hm := (e3 L[i]).1 (List.getElem_mem hi)
    rw [inO_at (by omega) (by omega), Option.bind_some, getO_at rfl hi, Option.bind_some, w64 (by omega) (by omega)]
    refine Ok.bind (solUsable_ok hs hv (hp _ hm)) (fun r hr => ?_)
    refine Ok.iteB (fun hb => ?_) (fun _ => Ok.nx ⟨i + 1, by simp, by omega, i2, by simp only; omega, i4⟩ (by simp only; omega))
    rw [sq (by simp only [List.length_cons, List.length_nil]; omega), Option.bind_some, sq (by simp only [List.length_cons, List.length_nil]; omega), Option.bind_some]
    refine Ok.nx ⟨i + 1, by simp, by omega, ?_, by simp; omega, fun p hp => ?_⟩ (by simp only; omega)
    · simp only [List.map_append, List.map_cons, List.map_nil]
      rw [i2, hr hb]
    · rcases List.mem_append.1 hp with hp | hp
      · exact i4 p hp
      · rw [List.mem_singleton.1 hp]; exact hm
  · obtain ⟨h1, h2, h3⟩ := ho
    refine Ok.iteD (fun h => by omega) (fun _ => Ok.ret ⟨rfl, h1, h2, h3⟩)

theorem or_some (l : List Int) (hl : l.length < 1000) : ∃ r, fP l = some r := by
  unfold fP
  have := Sd.or_go (l := l) (n := 0) (r := l) hl (by omega) (by simp)
  rw [show ((0 : Int)) = ((0 : Nat) : Int) from rfl, this]
  cases l.find? fun x => decide (x ≠ 0) <;> exact ⟨_, rfl⟩
theorem comp_ok (a b : ak) : ∃ r, gB a b = some r ∧ (r < 0 → a.aH ≤ b.aH) ∧ (¬ r < 0 → b.aH ≤ a.aH) := by
  unfold gB jK
  simp only [Sd.cmp_int, Option.bind_some]
  obtain ⟨g, eg⟩ := or_some [cmpI a.aA.fX b.aA.fX, cmpI a.aA.fY b.aA.fY, cmpI a.aA.fZ b.aA.fZ] (by simp)
  rw [eg, Option.bind_some, Option.bind_some, Sd.or4]
  refine ⟨_, rfl, ?_⟩
  by_cases h : cmpI a.aH b.aH = 0
  · have := cmpI_zero.1 h
    exact ⟨fun _ => by omega, fun _ => by omega⟩
  · rw [if_pos h]
    unfold cmpI at h ⊢
    by_cases h1 : a.aH < b.aH
    · simp [h1]; omega
    · by_cases h2 : a.aH > b.aH
      · simp [h1, h2]; omega
      · simp [h1, h2] at h
def zPh : ak := ⟨⟨0, 0, 0⟩, 0, 0, 0⟩
def InR (ph : List ak) (x : Int) : Prop := 0 ≤ x ∧ x < ph.length
def eAt (ph : List ak) (x : Int) : Int := (ph.getD x.toNat zPh).aH
def leE (ph : List ak) (x y : Int) : Prop := eAt ph x ≤ eAt ph y
theorem get_ph {ph : List ak} {x : Int} (hx : InR ph x) : getO ph x = some (ph.getD x.toNat zPh) := by
  obtain ⟨h0, h1⟩ := hx
  rw [getO_at (i := x.toNat) (by omega) (by omega), List.getD_eq_getElem?_getD, List.getElem?_eq_getElem (by omega)]; rfl
theorem olit_ok {ph : List ak} {x y : Int} (hx : InR ph x) (hy : InR ph y) : ∃ r, cv x y ph = some r ∧ (r < 0 → leE ph x y) ∧ (¬ r < 0 → leE ph y x) := by
  unfold cv
  rw [get_ph hx, Option.bind_some, get_ph hy, Option.bind_some]
  obtain ⟨r, e, h⟩ := comp_ok (ph.getD x.toNat zPh) (ph.getD y.toNat zPh)
  rw [e]
  exact ⟨r, rfl, h⟩
theorem oinner_ok (ph : List ak) (i : Nat) (L C : List Int) (x : Int) (hL : L.Pairwise (leE ph)) (hl : L.length ≤ 1000) (hR : ∀ z ∈ L, InR ph z) (hx : InR ph x) :
    Ok (loopO (bL 0 ph (i : Int)) ((L.length : Int), L ++ x :: C)) (fun o => o.1 = i ∧ ∃ D, o.2 = D ++ C ∧ D.Perm (x :: L) ∧ D.Pairwise (leE ph)) := by
  refine Ok.loop (fun s => ∃ A B : List Int, s = ((A.length : Int), A ++ x :: (B ++ C)) ∧ A ++ B = L ∧ ∀ b ∈ B, leE ph x b) (fun s => s.1.toNat) ?_ ⟨L, [], by simp, by simp, by simp⟩
  rintro s ⟨A, B, rfl, hAB, hB⟩
  have hAl : A.length ≤ 1000 := by have := congrArg List.length hAB; simp at this; omega
  have hdone : (∀ a ∈ A, leE ph a x) → Ok (some (Step1.stop ((i : Int), A ++ x :: (B ++ C)))) (Ok.S (fun s => ∃ A B : List Int, s = ((A.length : Int), A ++ x :: (B ++ C)) ∧ A ++ B = L ∧ ∀ b ∈ B, leE ph x b) (fun s => s.1.toNat) (fun o : Int × List Int => o.1 = i ∧ ∃ D, o.2 = D ++ C ∧ D.Perm (x :: L) ∧ D.Pairwise (leE ph)) ((A.length : Int), A ++ x :: (B ++ C))) := by
    intro hA
    refine Ok.st ⟨rfl, A ++ x :: B, by simp, ?_, ?_⟩
    · rw [← hAB]; exact List.perm_middle
    · rw [← hAB] at hL
      obtain ⟨p1, p2, p3⟩ := List.pairwise_append.1 hL
      refine List.pairwise_append.2 ⟨p1, List.pairwise_cons.2 ⟨hB, p2⟩, fun a ha b hb => ?_⟩
      rcases List.mem_cons.1 hb with rfl | hb
      · exact hA a ha
      · exact p3 a ha b hb
  unfold bL
  dsimp only
  refine Ok.iteD (fun hgt => ?_) (fun hle => ?_)
  rotate_left
  · have : A = [] := List.eq_nil_of_length_eq_zero (by omega)
    subst this
    exact hdone (by simp)
  rcases List.eq_nil_or_concat A with rfl | ⟨A', y, rfl⟩
  · simp at hgt
  simp only [List.length_append, List.length_cons, List.length_nil, List.append_assoc, List.cons_append, List.nil_append, List.concat_eq_append] at hAl hgt hdone ⊢
  have hw : IntKind.wrap .i64 (((A'.length + (0 + 1) : Nat) : Int) - 1) = (A'.length : Int) := by rw [w64 (by omega) (by omega)]; omega
  rw [hw]
  have hin : inO (A' ++ y :: x :: (B ++ C)) ((A'.length + (0 + 1) : Nat) : Int) = some () := inO_at (by omega) (by simp; omega)
  have hin2 : ∀ z, inO (A' ++ y :: z :: (B ++ C)) (A'.length : Int) = some () := fun z => inO_at (by omega) (by simp; omega)
  rw [hin, Option.bind_some, get2 A' y x (B ++ C) (by omega), Option.bind_some, hin2, Option.bind_some, get1 A' y _ rfl, Option.bind_some]
  obtain ⟨r, er, r1, r2⟩ := olit_ok hx (hR y (by rw [← hAB]; simp))
  rw [er, Option.bind_some]
  refine Ok.iteD (fun hlt => ?_) (fun hge => ?_)
  · rw [Option.bind_some, Option.bind_some, Option.bind_some, Option.bind_some, Option.bind_some, set2 A' y x y (B ++ C) (by omega), Option.bind_some, hin2, Option.bind_some, set1 A' y x _ rfl, Option.bind_some]
    refine Ok.nx ⟨A', y :: B, rfl, by simpa using hAB, fun b hb => ?_⟩ (by simp only; omega)
    rcases List.mem_cons.1 hb with rfl | hb
    · exact r1 hlt
    · exact hB b hb
  · refine hdone fun a ha => ?_
    have hy : leE ph y x := r2 hge
    rw [List.mem_append, List.mem_singleton] at ha
    rcases ha with ha | rfl
    · have : (A' ++ (y :: B)).Pairwise (leE ph) := by
        have := hL
        rw [← hAB] at this
        simpa using this
      have := (List.pairwise_append.1 this).2.2 a ha y (by simp)
      exact Int.le_trans this hy
    · exact hy
theorem oinsertion_ok (ph : List ak) (d : List Int) (hd : d.length ≤ 1000) (hR : ∀ z ∈ d, InR ph z) : Ok (bB 0 (d.length : Int) d ph) (fun r => r.Perm d ∧ r.Pairwise (leE ph)) := by
  unfold bB
  rw [w64 (n := 0 + 1) (by omega) (by omega)]
  refine Ok.bind (P := fun r => r.Perm d ∧ r.Pairwise (leE ph)) (Ok.loop (fun s => ∃ (D C : List Int), s = (((if d = [] then 1 else D.length : Nat) : Int), D ++ C) ∧ (D ++ C).Perm d ∧ D.Pairwise (leE ph) ∧ (d ≠ [] → 1 ≤ D.length)) (fun s => ((d.length : Int) - s.1).toNat) ?_ ?_) (fun o ho => Ok.ret ho)
  · rintro s ⟨D, C, rfl, hp, hs, h1⟩
    unfold cp
    dsimp only
    have hpl : D.length + C.length = d.length := by have := hp.length_eq; simpa using this
    refine Ok.iteD (fun hlt => ?_) (fun hge => ?_)
    · have hne : d ≠ [] := fun e => by subst e; simp at hlt
      rw [if_neg hne] at hlt ⊢
      rcases C with _ | ⟨x, C⟩
      · simp at hpl; omega
      refine Ok.bind (oinner_ok ph D.length D C x hs (by omega) (fun z hz => hR z (hp.mem_iff.1 (by simp [hz]))) (hR x (hp.mem_iff.1 (by simp)))) (fun o ho => ?_)
      obtain ⟨o1, D', o2, o3, o4⟩ := ho
      rw [o1, o2, w64 (by omega) (by omega)]
      have hl' : D'.length = D.length + 1 := by have := o3.length_eq; simpa using this
      refine Ok.nx ⟨D', C, ?_, ?_, o4, fun _ => by omega⟩ (by simp only; omega)
      · rw [if_neg hne, hl']; simp
      · exact ((o3.append_right C).trans (by simpa using List.perm_middle.symm)).trans hp
    · rw [Option.bind_some]
      refine Ok.st ⟨hp, ?_⟩
      by_cases hne : d = []
      · subst hne
        have := hp.length_eq
        have : D ++ C = [] := List.eq_nil_of_length_eq_zero (by simpa using this)
        rw [this]; exact .nil
      · rw [if_neg hne] at hge
        have : C = [] := List.eq_nil_of_length_eq_zero (by omega)
        subst this
        simpa using hs
  · by_cases hne : d = []
    · subst hne
      exact ⟨[], [], by simp, .refl _, .nil, fun h => (h rfl).elim⟩
    · refine ⟨d.take 1, d.drop 1, ?_, by rw [List.take_append_drop], ?_, fun _ => ?_⟩
      · rw [if_neg hne, List.take_append_drop]
        have := List.length_pos_iff.2 hne
        simp; omega
      · rcases d with _ | ⟨a, d⟩
        · exact (hne rfl).elim
        · simp
      · have := List.length_pos_iff.2 hne
        simp; omega
theorem ostable_ok (ph : List ak) (d : List Int) (hd : d.length < 20) (hR : ∀ z ∈ d, InR ph z) : Ok (cg d ph) (fun r => r.1.Perm d ∧ r.1.Pairwise (leE ph)) := by
  unfold cg
  refine Ok.bind (P := fun r => r.1.Perm d ∧ r.1.Pairwise (leE ph)) ?_ (fun o ho => Ok.ret ho)
  unfold cQ
  have e3 : cy (d.length : Int) ph ((0 : Int), (20 : Int), d) = some (.stop ((0 : Int), d)) := by
    unfold cy
    dsimp only
    rw [if_neg (by simp; omega)]
  rw [loopO_stop e3, Option.bind_some]
  dsimp only
  refine Ok.bind (oinsertion_ok ph d (by omega) hR) (fun r hr => ?_)
  have e4 : cq (d.length : Int) ((20 : Int), r, ph) = some (.stop (r, ph)) := by
    unfold cq
    dsimp only
    rw [if_neg (by simp; omega)]; rfl
  rw [loopO_stop e4]
  exact Ok.ret hr
theorem order_ok (ph : List ak) (hl : ph.length < 20) : Ok (jc ph) (fun o => o.length = ph.length ∧ (∀ z ∈ o, InR ph z) ∧ o.Pairwise (leE ph)) := by
  unfold jc
  refine Ok.bind (Ok.mk (by omega) (by omega) (by omega)) (fun d hd => ?_)
  rw [Int.toNat_natCast] at hd
  have hdl : d.length = ph.length := by rw [hd]; simp
  refine Ok.bind (P := fun o => o.length = ph.length ∧ ∀ z ∈ o, InR ph z) (Ok.loop (fun s : Int × List Int => ∃ i : Nat, s.1 = i ∧ i ≤ d.length ∧ s.2.length = d.length ∧ ∀ z ∈ s.2, 0 ≤ z ∧ z ≤ 0 ∨ InR ph z) (fun s => ((d.length : Int) - s.1).toNat) ?_ ⟨0, rfl, Nat.zero_le _, rfl, fun z hz => by subst hd; exact .inl (by rw [(List.mem_replicate.1 hz).2]; simp)⟩) (fun o ho => ?_)
  · rintro ⟨s1, s2⟩ ⟨i, i0, i1, i2, i3⟩
    simp only at i0 i2 i3
    subst i0
    unfold jz
    dsimp only
    refine Ok.iteD (fun hlt => ?_) (fun _ => Ok.st ⟨by omega, fun z hz => ?_⟩)
    · rw [inO_at (by omega) (by omega), Option.bind_some, setO_at (i := i) rfl (by omega), Option.bind_some, w64 (by omega) (by omega)]
      refine Ok.nx ⟨i + 1, by simp, by omega, by simpa using i2, fun z hz => ?_⟩ (by simp only; omega)
      rcases List.mem_or_eq_of_mem_set hz with h | rfl
      · exact i3 z h
      · exact .inr ⟨by omega, by omega⟩
    · have := List.length_pos_of_mem hz
      rcases i3 z hz with h | h
      · exact ⟨by omega, by omega⟩
      · exact h
  · refine Ok.bind (ostable_ok ph o (by omega) ho.2) (fun r hr => Ok.ret ⟨by rw [hr.1.length_eq]; exact ho.1, fun z hz => ho.2 z (hr.1.mem_iff.1 hz), hr.2⟩)

theorem tailC_eq (O : List (List Pick)) (g : List Pick) (p : Pick) (e i : Int) (hO : O.length ≤ 1000) (hg : g.length ≤ 1000) {pk : List Pick} {x : Int} (hx : getO pk x = some p) :
    ((lastO (O ++ [g])).bind fun x13 => (inO (O ++ [g]) (IntKind.wrap .i64 (((O ++ [g]).length : Int) - (1 : Int)))).bind fun _ => (atO (IntKind.wrap .i64 (((O ++ [g]).length : Int) - (1 : Int))) ((O ++ [g]).length - 1)).bind fun _ => (getO pk x).bind fun x17 => (appO x13 [x17] 104).bind fun x16 => (inO (O ++ [g]) (IntKind.wrap .i64 (((O ++ [g]).length : Int) - (1 : Int)))).bind fun _ => (stO (O ++ [g]).length (IntKind.wrap .i64 (((O ++ [g]).length : Int) - (1 : Int))) ((O ++ [g]).length - 1)).bind fun _ => some (Step1.next (e, IntKind.wrap .i64 (i + (1 : Int)), (O ++ [g]).set ((O ++ [g]).length - 1) x16) : Step1 (Int × Int × List (List Pick)) (List (List Pick))))
      = some (.next (e, IntKind.wrap .i64 (i + 1), O ++ [g ++ [p]])) := by
  have hl : (O ++ [g]).length = O.length + 1 := by simp
  have hw : IntKind.wrap .i64 (((O ++ [g]).length : Int) - 1) = (O.length : Int) := by rw [hl, w64 (by omega) (by omega)]; omega
  rw [hw, lastO_snoc, Option.bind_some, inO_at (by omega) (by rw [hl]; omega), Option.bind_some, hl]
  have ha : atO (O.length : Int) (O.length + 1 - 1) = some () := by unfold atO; rw [if_pos (by simp)]
  have hs : stO (O.length + 1) (O.length : Int) (O.length + 1 - 1) = some () := by unfold stO; rw [if_pos (by simp)]
  rw [ha, Option.bind_some, hx, Option.bind_some, sq (by simp only [List.length_cons, List.length_nil]; omega), Option.bind_some, Option.bind_some, hs, Option.bind_some]
  simp
theorem same_batch {n : Int} (h0 : 0 ≤ n) {X : List (List Pick)} (hg : X.Pairwise (Gap n)) {j : Nat} (hj : j < X.length) {p q : Pick} (hp : p ∈ X[j]) (hq : q ∈ X.flatten) (h1 : p.aH ≤ q.aH) (h2 : q.aH - p.aH ≤ n) : q ∈ X[j] := by
  obtain ⟨g, hgX, hqg⟩ := List.mem_flatten.1 hq
  obtain ⟨k, hk, rfl⟩ := List.getElem_of_mem hgX
  have hp' := List.pairwise_iff_getElem.1 hg
  by_cases h : j < k
  · have := hp' j k hj hk h p hp q hqg; omega
  by_cases h' : k < j
  · have := hp' k j hk hj h' q hqg p hp; omega
  obtain rfl : j = k := by omega
  exact hqg
def zPk : Pick := ⟨⟨[], [], [], []⟩, 0, 0, 0, 0, 0⟩
structure CI (X : List (List Pick)) (pk : List Pick) (ord : List Int) (i : Nat) (last : Int) (out : List (List Pick)) : Prop where
  len : out.length ≤ i
  ok : ∀ g ∈ out, g ≠ [] ∧ g.length ≤ i ∧ ∃ (j : Nat) (h : j < X.length), ∀ p ∈ g, p ∈ X[j]
  tail : 0 < i → ∃ O g, out = O ++ [g] ∧ pk.getD (ord.getD (i - 1) 0).toNat zPk ∈ g ∧ last = (pk.getD (ord.getD (i - 1) 0).toNat zPk).aH
theorem clusters_loop (X : List (List Pick)) (x1 : List Pick × List ak × Int) (ord : List Int) (s : aG) (hs : 0 ≤ s.au.jJ) (hE : x1.2.1.map (·.aH) = x1.1.map (·.aH)) (hl : ord.length ≤ 100)
    (hR : ∀ z ∈ ord, InR x1.2.1 z) (hO : ord.Pairwise (leE x1.2.1)) (hp : ∀ p ∈ x1.1, j9 p ∧ p ∈ X.flatten) (hg : X.Pairwise (Gap s.au.jJ)) :
    Ok (loopO (ix ord x1 s) ((0 : Int), (0 : Int), [])) (fun o => o.length ≤ 100 ∧ ∀ g ∈ o, g ≠ [] ∧ g.length ≤ 100 ∧ ∃ (j : Nat) (h : j < X.length), ∀ p ∈ g, p ∈ X[j]) := by
  refine Ok.loop (fun s => ∃ i : Nat, s.2.1 = i ∧ i ≤ ord.length ∧ CI X x1.1 ord i s.1 s.2.2) (fun s => ((ord.length : Int) - s.2.1).toNat) ?_ ⟨0, rfl, Nat.zero_le _, ⟨by simp, by simp, fun h => by omega⟩⟩
  rintro ⟨last, s5, out⟩ ⟨i, i0, i1, hC⟩
  simp only at i0 hC
  subst i0
  unfold ix
  dsimp only
  refine Ok.iteD (fun hlt => ?_) (fun _ => Ok.st ⟨by have := hC.len; omega, fun g hg => ?_⟩)
  rotate_left
  · obtain ⟨a, b, c⟩ := hC.ok g hg
    exact ⟨a, by omega, c⟩
  have hi : i < ord.length := by omega
  have hxR := hR _ (List.getElem_mem hi)
  have hlen : x1.2.1.length = x1.1.length := by have := congrArg List.length hE; simpa using this
  have hpk : ∀ {z : Int}, InR x1.2.1 z → getO x1.1 z = some (x1.1.getD z.toNat zPk) ∧ x1.1.getD z.toNat zPk ∈ x1.1 ∧ (x1.2.1.getD z.toNat zPh).aH = (x1.1.getD z.toNat zPk).aH := fun {z} hz => by
    have hz1 : z.toNat < x1.1.length := by have := hz.1; have := hz.2; omega
    have e1 : x1.1.getD z.toNat zPk = x1.1[z.toNat] := by rw [List.getD_eq_getElem?_getD, List.getElem?_eq_getElem hz1]; rfl
    have e2 : x1.2.1.getD z.toNat zPh = x1.2.1[z.toNat]'(by omega) := by rw [List.getD_eq_getElem?_getD, List.getElem?_eq_getElem (by omega)]; rfl
    refine ⟨by rw [getO_at (i := z.toNat) (by have := hz.1; omega) hz1, e1], by rw [e1]; exact List.getElem_mem hz1, ?_⟩
    have : (x1.2.1.map (·.aH))[z.toNat]'(by simp; omega) = (x1.1.map (·.aH))[z.toNat]'(by simp; omega) := by simp only [hE]
    rw [e1, e2]
    simpa using this
  obtain ⟨a1, a2, a3⟩ := hpk hxR
  have hordi : ord.getD i 0 = ord[i] := by rw [List.getD_eq_getElem?_getD, List.getElem?_eq_getElem hi]; rfl
  obtain ⟨hv, hxX⟩ := hp _ a2
  have hCl := hC.len
  have hnew : ∀ e : Int, e = (x1.1.getD (ord[i]).toNat zPk).aH → CI X x1.1 ord (i + 1) e (out ++ [[x1.1.getD (ord[i]).toNat zPk]]) := fun e he => by
    refine ⟨by simp; omega, fun g hg => ?_, fun _ => ⟨out, _, rfl, ?_, ?_⟩⟩
    · rcases List.mem_append.1 hg with hg | hg
      · obtain ⟨b1, b2, b3⟩ := hC.ok g hg
        exact ⟨b1, by omega, b3⟩
      · rw [List.mem_singleton] at hg
        subst hg
        obtain ⟨g, hgX, hqg⟩ := List.mem_flatten.1 hxX
        obtain ⟨j, hj, rfl⟩ := List.getElem_of_mem hgX
        exact ⟨by simp, by simp, j, hj, fun p hp => by rw [List.mem_singleton.1 hp]; exact hqg⟩
    · rw [Nat.add_sub_cancel, hordi]; simp
    · rw [Nat.add_sub_cancel, hordi]; exact he
  have happ : appO out [[]] 24 = some (out ++ [[]]) := sq (by simp only [List.length_cons, List.length_nil]; omega)
  rw [getO_at (i := i) rfl hi, Option.bind_some]
  refine Ok.iteE (fun h0 => ?_) (fun h0 => ?_)
  · rw [happ, Option.bind_some, get_ph hxR, Option.bind_some, tailC_eq out [] _ _ _ (by omega) (by simp) a1, w64 (by omega) (by omega)]
    exact Ok.nx ⟨i + 1, by simp, by omega, by simpa using hnew _ a3⟩ (by simp only; omega)
  · have h0 : 0 < i := by omega
    obtain ⟨O, g, eo, hm, hlast⟩ := hC.tail h0
    have hi1 : i - 1 < ord.length := by omega
    have hord1 : ord.getD (i - 1) 0 = ord[i - 1] := by rw [List.getD_eq_getElem?_getD, List.getElem?_eq_getElem hi1]; rfl
    obtain ⟨b1, b2, b3⟩ := hpk (hR _ (List.getElem_mem hi1))
    rw [hord1] at hm hlast
    obtain ⟨hv1, -⟩ := hp _ b2
    have hle : (x1.1.getD (ord[i - 1]).toNat zPk).aH ≤ (x1.1.getD (ord[i]).toNat zPk).aH := by
      have := List.pairwise_iff_getElem.1 hO (i - 1) i hi1 hi (by omega)
      unfold leE eAt at this
      rw [b3, a3] at this
      exact this
    have r1 := hv.2.1
    have r2 : (x1.1.getD (ord[i]).toNat zPk).aH ≤ 18014398509481984 := by have := hv.2.2; omega
    have r3 := hv1.2.1
    rw [get_ph hxR, Option.bind_some, a3, w64 (n := (x1.1.getD (ord[i]).toNat zPk).aH - last) (by omega) (by omega)]
    refine Ok.iteD (fun hfar => ?_) (fun hnear => ?_)
    · rw [happ, Option.bind_some, Option.bind_some, a3, tailC_eq out [] _ _ _ (by omega) (by simp) a1, w64 (by omega) (by omega)]
      exact Ok.nx ⟨i + 1, by simp, by omega, by simpa using hnew _ rfl⟩ (by simp only; omega)
    · subst eo
      obtain ⟨c1, c2, j, hj, c3⟩ := hC.ok g (by simp)
      have hOl : O.length ≤ 1000 := by simp at hCl; omega
      rw [Option.bind_some, a3, tailC_eq O g _ _ _ hOl (by omega) a1, w64 (by omega) (by omega)]
      refine Ok.nx ⟨i + 1, by simp, by omega, ?_⟩ (by simp only; omega)
      refine ⟨by simp at hCl ⊢; omega, fun g' hg' => ?_, fun _ => ⟨O, _, rfl, ?_, ?_⟩⟩
      · rcases List.mem_append.1 hg' with hg' | hg'
        · obtain ⟨d1, d2, d3⟩ := hC.ok g' (by simp [hg'])
          exact ⟨d1, by omega, d3⟩
        · rw [List.mem_singleton] at hg'
          subst hg'
          refine ⟨by simp, by simp; omega, j, hj, fun p hp => ?_⟩
          rcases List.mem_append.1 hp with hp | hp
          · exact c3 p hp
          · rw [List.mem_singleton.1 hp]
            exact same_batch hs hg hj (c3 _ hm) hxX hle (by omega)
      · rw [Nat.add_sub_cancel, hordi]; simp
      · rw [Nat.add_sub_cancel, hordi]
theorem l51_eq : sX = cw := by
  funext o ⟨a, b⟩; rfl
theorem clusters_ok {s : aG} (hs : SetV s) {v : ae} (hv : vp v) (l : List Pick) (hl : l.length < 20) (hp : ∀ p ∈ l, j9 p) (X : List (List Pick)) (hX : ∀ p, p ∈ X.flatten ↔ p ∈ l) (hg : X.Pairwise (Gap s.au.jJ)) :
    Ok (oO s v l) (fun r => r.2 = 0 ∧ r.1.length ≤ 100 ∧ ∀ g ∈ r.1, g ≠ [] ∧ g.length ≤ 100 ∧ ∃ (j : Nat) (h : j < X.length), ∀ p ∈ g, p ∈ X[j]) := by
  unfold oO
  refine Ok.bind (usable_ok hs hv l (by omega) hp) (fun x1 h1 => ?_)
  obtain ⟨u0, u1, u2, u3⟩ := h1
  have hlen : x1.2.1.length = x1.1.length := by have := congrArg List.length u1; simpa using this
  rw [u0, if_neg (by simp)]
  refine Ok.bind (order_ok x1.2.1 (by omega)) (fun ord ho => ?_)
  refine Ok.bind (clusters_loop X x1 ord s hs.span.1 u1 (by omega) ho.2.1 ho.2.2 (fun p hpm => ⟨hp p (u3 p hpm), (hX p).2 (u3 p hpm)⟩) hg) (fun out hout => ?_)
  rw [l51_eq]
  refine Ok.bind (l47_ok out (by omega) fun g hg => by have := (hout.2 g hg).2.1; omega) (fun y hy => ?_)
  obtain ⟨y1, y2⟩ := hy
  refine Ok.ret ⟨rfl, by simp only; omega, fun g hg => ?_⟩
  obtain ⟨k, hk, rfl⟩ := List.getElem_of_mem hg
  have hk2 : k < y.length := hk
  have hk' : k < out.length := by omega
  obtain ⟨p1, p2⟩ := y2 k hk hk'
  obtain ⟨c1, c2, j, hj, c3⟩ := hout.2 _ (List.getElem_mem hk')
  exact ⟨fun e => c1 (by simp only at e; rw [e] at p1; exact p1.nil_eq.symm), by rw [p1.length_eq]; exact c2, j, hj, fun p hp => c3 p (p1.mem_iff.1 hp)⟩

theorem q44_ok (b : List Pick) (hb : b.length ≤ 1000) (p : Pick) (w : Bool) (a1 a2 a3 n : Int) (hn : 0 ≤ n ∧ n ≤ 100000000) : loopO (dm b p w a1 a2 a3) (n, (0 : Int)) = some (w, n + ((b.filter fun q => decide (p = q)).length : Nat), a1, a2, a3) := by
  refine Ok.eq (Ok.loop (fun s => ∃ i : Nat, s = (n + (((b.take i).filter fun q => decide (p = q)).length : Nat), (i : Int)) ∧ i ≤ b.length) (fun s => ((b.length : Int) - s.2).toNat) ?_ ⟨0, by simp, Nat.zero_le _⟩)
  rintro s ⟨i, rfl, hi⟩
  have hfl : ((b.take i).filter fun q => decide (p = q)).length ≤ (b.take i).length := List.length_filter_le _ _
  rw [List.length_take] at hfl
  unfold dm
  dsimp only
  refine Ok.iteD (fun hlt => ?_) (fun hge => ?_)
  · have hi : i < b.length := by omega
    rw [getO_at rfl hi, Option.bind_some]
    have he := eqs p b[i]
    unfold eqF at he
    rw [he, w64 (n := (i : Int) + 1) (by omega) (by omega)]
    have hst : (((b.take (i + 1)).filter fun q => decide (p = q)).length : Nat) = ((b.take i).filter fun q => decide (p = q)).length + if p = b[i] then 1 else 0 := by
      rw [take_succ_at hi, List.filter_append, List.length_append]
      by_cases e : p = b[i] <;> simp [e]
    refine Ok.iteD (fun e => ?_) (fun e => ?_)
    · rw [if_pos e] at hst
      rw [w64 (by omega) (by omega)]
      exact Ok.nx ⟨i + 1, by rw [hst]; simp; omega, by omega⟩ (by simp only; omega)
    · rw [if_neg e] at hst
      exact Ok.nx ⟨i + 1, by rw [hst]; simp, by omega⟩ (by simp only; omega)
  · have : i = b.length := by omega
    subst this
    exact Ok.st (by rw [List.take_length])
theorem count_one {b : List Pick} (hn : b.Nodup) {p : Pick} (hp : p ∈ b) : (b.filter fun q => decide (p = q)).length = 1 := by
  induction b with
  | nil => cases hp
  | cons a b ih =>
    obtain ⟨h1, h2⟩ := List.pairwise_cons.1 hn
    rcases List.mem_cons.1 hp with rfl | hp
    · have : b.filter (fun q => decide (p = q)) = [] := List.filter_eq_nil_iff.2 fun q hq => by simpa using h1 q hq
      simp [List.filter_cons, this]
    · have : p ≠ a := fun e => h1 p hp e.symm
      simp [List.filter_cons, this, ih h2 hp]
theorem q46_ok (c b : List Pick) (hc : c.length ≤ 1000) (hb : b.length ≤ 1000) (w : Bool) (a1 a2 : Int) :
    Ok (loopO (dn c b) (w, (0 : Int), a1, a2, (0 : Int))) (fun o => o.1 = w ∧ o.2.2.1 = a1 ∧ o.2.2.2 = a2 ∧ (b.Nodup → (∀ p ∈ c, p ∈ b) → o.2.1 = c.length)) := by
  refine Ok.loop (fun s => ∃ i : Nat, s.2.2.2.2 = i ∧ i ≤ c.length ∧ s.1 = w ∧ s.2.2.1 = a1 ∧ s.2.2.2.1 = a2 ∧ (0 ≤ s.2.1 ∧ s.2.1 ≤ 1000 * i) ∧ (b.Nodup → (∀ p ∈ c, p ∈ b) → s.2.1 = i)) (fun s => ((c.length : Int) - s.2.2.2.2).toNat) ?_ ⟨0, rfl, Nat.zero_le _, rfl, rfl, rfl, by simp, fun _ _ => rfl⟩
  rintro ⟨s1, s2, s3, s4, s5⟩ ⟨i, i0, i1, i2, i3, i4, i5, i6⟩
  simp only at i0 i2 i3 i4 i5 i6
  subst i0 i2 i3 i4
  unfold dn
  dsimp only
  refine Ok.iteD (fun hlt => ?_) (fun hge => ?_)
  · have hi : i < c.length := by omega
    have hfl : (b.filter fun q => decide (c[i] = q)).length ≤ b.length := List.length_filter_le _ _
    rw [getO_at rfl hi, Option.bind_some, q44_ok b hb _ _ _ _ _ _ (by omega), Option.bind_some]
    dsimp only
    rw [w64 (by omega) (by omega)]
    refine Ok.nx ⟨i + 1, by simp, by omega, rfl, rfl, rfl, ⟨by simp only; omega, by simp only; omega⟩, fun hn hm => ?_⟩ (by simp only; omega)
    simp only
    rw [i6 hn hm, count_one hn (hm _ (List.getElem_mem hi))]
    simp
  · have : i = c.length := by omega
    subst this
    exact Ok.st ⟨rfl, rfl, rfl, i6⟩
theorem q49_ok (x5 : List (List Pick) × Int) (hX : x5.1.length ≤ 1000) (hXg : ∀ g ∈ x5.1, g.length ≤ 1000 ∧ g.Nodup) (c : List Pick) (hc : c.length ≤ 1000) (a : Int) (hin : ∃ (j : Nat) (h : j < x5.1.length), ∀ p ∈ c, p ∈ x5.1[j]) :
    Ok (loopO (dp x5 c) (false, a, (0 : Int))) (fun o => o = (true, a)) := by
  obtain ⟨j, hj, hin⟩ := hin
  refine Ok.loop (fun s => ∃ i : Nat, s.2.2 = i ∧ i ≤ x5.1.length ∧ s.2.1 = a ∧ (j < i → s.1 = true)) (fun s => ((x5.1.length : Int) - s.2.2).toNat) ?_ ⟨0, rfl, Nat.zero_le _, rfl, fun h => by omega⟩
  rintro ⟨s1, s2, s3⟩ ⟨i, i0, i1, i2, i3⟩
  simp only at i0 i2 i3
  subst i0 i2
  unfold dp
  dsimp only
  refine Ok.iteD (fun hlt => ?_) (fun hge => Ok.st (by rw [i3 (by omega)]))
  have hi : i < x5.1.length := by omega
  obtain ⟨g1, g2⟩ := hXg _ (List.getElem_mem hi)
  rw [getO_at rfl hi, Option.bind_some]
  refine Ok.bind (q46_ok c x5.1[i] hc g1 s1 s2 i) (fun o ho => ?_)
  obtain ⟨o1, o2, o3, o4⟩ := ho
  rw [o2, o3, w64 (by omega) (by omega)]
  refine Ok.iteB (fun _ => Ok.nx ⟨i + 1, by simp, by omega, rfl, fun _ => rfl⟩ (by simp only; omega)) (fun hf => ?_)
  refine Ok.nx ⟨i + 1, by simp, by omega, rfl, fun h => ?_⟩ (by simp only; omega)
  by_cases e : j = i
  · subst e
    simp only
    rw [o4 g2 hin]; simp
  · have := i3 (by omega)
    rw [o1, this] at hf
    cases hf
theorem wJ (l : List Int) : kr l = some true := by
  refine Ok.eq ?_
  unfold kr
  refine Ok.bind (new_ok l) (fun x1 h1 => ?_)
  refine Ok.bind ((settings_ok x1 h1).both (settingsV x1 h1)) (fun x2 h2 => ?_)
  obtain ⟨h2, h2'⟩ := h2
  refine Ok.bind (sitesV _ h2.2) (fun x3 h3 => ?_)
  refine Ok.bind (picks_ok x2.1 h2.1 x3.1 h3.1.inv 12 (by omega) _ h3.2) (fun x4 h4 => ?_)
  obtain ⟨⟨hlen, hpk⟩, h4⟩ := h4
  have hS := h2'.1
  refine Ok.bind (Batches_ok x2.1.au.jJ hS.span.1 (by have := hS.span.2; omega) x4.1 (by omega) hpk) (fun x5 h5 => ?_)
  obtain ⟨b1, b2, b3, b4⟩ := h5.2.facts (by omega)
  refine Ok.bind (clusters_ok hS h3.1 x4.1 (by omega) hpk x5.1 b4 h5.2.gap) (fun x6 h6 => ?_)
  rw [h5.1, h6.1, if_neg (by simp), if_neg (by simp)]
  have hnd := (List.pairwise_flatten.1 b3).1
  have hloop : loopO (cG x6 x5) (0 : Int) = some (.inl ()) := by
    refine uY x6.1.length (fun i hi => ?_) ?_
    · unfold cG
      obtain ⟨c1, c2, c3⟩ := h6.2.2 _ (List.getElem_mem hi)
      have h6l := h6.2.1
      rw [if_pos (by simp; omega), getO_at rfl hi, Option.bind_some, (q49_ok x5 b1 (fun g hg => ⟨(b2 g hg).2, hnd g hg⟩) x6.1[i] (by omega) i c3).eq, Option.bind_some]
      dsimp only
      have := List.length_pos_iff.2 c1
      rw [if_neg (by simp), if_neg (by simp; omega), w64 (by omega) (by omega)]
      simp
    · unfold cG
      rw [if_neg (by simp)]
  rw [hloop, Option.bind_some]
  dsimp only
  rw [awake_at]
  exact Ok.ret rfl
end Go.Dw.De
