
import Derived.Test.YtoplbomkhkbklaaGreatSoLawK

set_option maxRecDepth 100000
set_option maxHeartbeats 4000000
namespace Go.Dw.So
open Go.Dw Go.Proofs
open Sd (mm kg iO)
def zz : Pick := ⟨⟨[90, 90], [78, 79], [48, 48], [66, 72, 90]⟩, 1500, 1500, 1500, 0, 0⟩
theorem zz_ok : gx zz := ⟨by show Sq.l4 _ = true; decide +kernel, by simp [zz], by simp [zz], by simp [zz], by simp [zz], by simp [zz], by simp [zz], by simp [zz], by simp [zz]⟩
theorem zz_not {a : aG} {v : aD} (hv : nz v) : (used a v zz).2.2 = false := by
 have h : epAt v zz.aJ zz.a8 = none := by
  unfold epAt
  have : chan v zz.aJ = none := by
   unfold chan
   rw [List.find?_eq_none]
   intro c hc
   have := hv.net c hc
   simp only [decide_eq_true_eq]
   intro e
   rw [e] at this
   simp [zz] at this
  rw [this]; rfl
 have e : cw a v zz = some (⟨⟨0, 0, 0⟩, 0, 0, 0⟩, zEp, false) := by
  unfold cw
  rw [valid_pick zz_ok, zc, if_neg sm, At_eq hv.lens (inv_valid hv), zc, h]
  dsimp only
  rw [if_pos sm]
  rfl
 unfold used
 rw [e]; rfl
theorem turned_ok {l : List Pick} (hl : l.length ≤ 100) (o : List Int) : Ok (hY (eZ l o) ((0 : Int), l)) (fun r => r.Perm l) := by
 refine Ok.loop (fun s : Int × List Pick => (0 ≤ s.1 ∧ s.1 ≤ l.length) ∧ s.2.Perm l) (fun s => ((l.length : Int) - s.1).toNat) ?_ ⟨⟨sm, sm⟩, List.Perm.refl _⟩
 rintro ⟨s6, s7⟩ ⟨⟨i0, i1⟩, i2⟩
 simp only at i0 i1 i2
 have hlen : s7.length = l.length := i2.length_eq
 unfold eZ
 dsimp only
 refine Ok.oJ (fun hlt => ?_) (fun _ => Ok.st i2)
 rw [w64 (n := s6 + 1) za za]
 refine Ok.oJ (fun ho => ?_) (fun _ => Ok.nx ⟨⟨zb, zb⟩, i2⟩ zb)
 refine Ok.bind (Ok.get za za) (fun x _ => ?_)
 refine Ok.bind (mod_ok x s7.length za za) (fun j hj => ?_)
 refine Ok.bind (Ok.qh za za) (fun _ _ => Ok.bind (Ok.get za za) (fun a ga => ?_))
 refine Ok.bind (Ok.qh za za) (fun _ _ => Ok.bind (Ok.get za za) (fun b gb => ?_))
 refine Ok.bind (Ok.qh za za) (fun _ _ => Ok.bind (Ok.set za za) (fun e he => ?_))
 subst he
 refine Ok.bind (Ok.qh za so) (fun _ _ => Ok.bind (Ok.set za so) (fun e he => ?_))
 subst he
 obtain ⟨h1, rfl⟩ := List.getElem?_eq_some_iff.1 ga.2
 obtain ⟨h2, rfl⟩ := List.getElem?_eq_some_iff.1 gb.2
 exact Ok.nx ⟨⟨zb, zb⟩, (List.set_set_perm h2 h1).trans i2⟩ zb
theorem k43_ok {x2 : aG × ah} {x3 : aD × ah} {x4 : List Pick × ah} {j : List Pick} (ha : SetV x2.1) (hv : nz x3.1) (hl : x4.1.length ≤ 7) (hp : ∀ p ∈ x4.1, gx p) (hj : j.length ≤ 8) (hm : ∀ p, p ∈ j ↔ p ∈ x4.1) : Ok (cJ x2 x3 x4 j) (fun r => r = true) := by
 unfold cJ
 rw [n8 (by simp only [List.length_cons, List.length_nil]; omega), zc]
 have hq : ∀ p ∈ j ++ [zz], gx p := fun p h => by
  rcases List.mem_append.1 h with h | h
  ·exact hp p ((hm p).1 h)
  ·rw [List.mem_singleton.1 h]; exact zz_ok
 obtain ⟨L, L', e1, e2, e3, n1, n2, m1, m2⟩ := sort_usable (a := x2.1) (v := x3.1) (l := x4.1) (l' := j ++ [zz]) za so (fun p hu => by
  rw [List.mem_append, List.mem_singleton, hm]
  refine ⟨fun h => .inl h, fun h => ?_⟩
  rcases h with h | rfl
  ·exact h
  ·rw [zz_not hv] at hu; cases hu)
 have hL : ∀ p ∈ L, gx p := fun p h => hp p ((m1 p).1 h)
 have hL' : ∀ p ∈ L', gx p := fun p h => hq p ((m2 p).1 h)
 have g1 := lj ha hv e1 za hL
 have g2 := lj ha hv e2 (by simp at n2; omega) hL'
 rw [← e3] at g2
 have hU : ∀ p ∈ dH x2.1 x3.1 L, gx p ∧ (used x2.1 x3.1 p).2.2 = true := fun p h => by
  have := List.mem_filter.1 h
  exact ⟨hL p this.1, this.2⟩
 have hUl : (dH x2.1 x3.1 L).length ≤ 7 := by
  have := List.length_filter_le (fun p => (used x2.1 x3.1 p).2.2) L
  unfold dH; omega
 obtain ⟨r, er, r1, r2, r3⟩ := solve_ok ha (mat_ok ha hv za hU)
 show Ok ((bR x2.1 x3.1 x4.1).bind fun x30 => (bR x2.1 x3.1 (j ++ [zz])).bind _) _
 rw [mR g1, er, zc, mR g2, er, zc, if_neg sm, same_self za, zc, if_neg sm]
 by_cases h0 : dH x2.1 x3.1 L = []
 ·have := r1 (by simpa [mat] using h0)
  rw [if_pos (by simp [this]), if_pos (by simp [this]), awake_at]
  exact Ok.ret rfl
 ·obtain ⟨q1, q2, -⟩ := r2 (by simpa [mat] using h0)
  rw [if_neg (by simp [q1]), q2]
  obtain ⟨L2, L2', f1, f2, f3, n3, n4, m3, m4⟩ := sort_usable (a := x2.1) (v := x3.1) (l := dH x2.1 x3.1 L) (l' := x4.1) za za (fun p hu => by
   unfold dH
   rw [List.mem_filter, m1]
   exact ⟨fun h => h.1, fun h => ⟨h, hu⟩⟩)
  rw [e1] at f2
  cases f2
  have g3 := lj ha hv f1 za (fun p h => (hU p ((m3 p).1 h)).1)
  rw [f3] at g3
  show Ok ((bR x2.1 x3.1 (dH x2.1 x3.1 L)).bind _) _
  rw [mR g3, er, zc, if_pos (by simp [q1]), same_self za, zc, if_pos rfl, awake_at]
  exact Ok.ret rfl
theorem nV (l o : List Int) : gA l o = some true := by
 refine Ok.eq ?_
 unfold gA
 refine Ok.bind (new_ok l) (fun x1 h1 => ?_)
 refine Ok.bind ((settingsV (k := 3) za x1 h1).both (settings_ok x1 h1)) (fun x2 ⟨h2, hset, _⟩ => ?_)
 refine Ok.bind (sitesV x2.2 h2.2) (fun x3 ⟨⟨h3, _⟩, h3'⟩ => ?_)
 refine Ok.bind (picks_ok x2.1 hset x3.1 h3.inv 7 za x3.2 h3') (fun x4 ⟨⟨h4, h5⟩, h6⟩ => ?_)
 refine Ok.bind (Ok.app (by simp only [List.length_nil]; omega)) (fun x5 e5 => ?_)
 rw [List.nil_append] at e5
 subst e5
 refine Ok.bind (turned_ok za o) (fun y hy => ?_)
 have hyl := hy.length_eq
 refine Ok.oJ (fun hgt => ?_) (fun _ => k43_ok h2.1 h3 za h5 za (fun p => hy.mem_iff))
 refine Ok.bind (c8 _ _ h6 za za) (fun n hn => ?_)
 refine Ok.bind (Ok.get hn.1 hn.2.1) (fun p hp => ?_)
 refine Ok.bind (Ok.app (by simp only [List.length_cons, List.length_nil]; omega)) (fun z hz => ?_)
 subst hz
 refine k43_ok h2.1 h3 za h5 so (fun q => ?_)
 rw [List.mem_append, List.mem_singleton, hy.mem_iff]
 exact ⟨fun h => h.elim id fun e => e ▸ hp.1, fun h => .inl h⟩
end Go.Dw.So
