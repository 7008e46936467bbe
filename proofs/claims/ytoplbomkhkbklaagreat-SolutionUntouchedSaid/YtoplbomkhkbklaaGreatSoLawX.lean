
import Derived.Test.YtoplbomkhkbklaaGreatSoLawK

set_option maxRecDepth 100000
set_option maxHeartbeats 4000000
namespace Go.Dw.So
open Go.Dw Go.Proofs
open Sd (my ko iR)
def ou (e : al) : aa × aM := (e.aS, e.bi)
structure Like (late : Int) (c d : ap) : Prop where
 src : d.aH = c.aH
 eps : EpsOk d.ba
 at_ : ∀ t, t ≤ late → (epIn d.ba t).map ou = (epIn c.ba t).map ou
inductive Lk (late : Int) : List ap → List ap → Prop
 | nil : Lk late [] []
 | cons {c d l m} : Like late c d → Lk late l m → Lk late (c :: l) (d :: m)
theorem Lk.snoc {late : Int} {l m : List ap} (h : Lk late l m) {c d : ap} (hc : Like late c d) : Lk late (l ++ [c]) (m ++ [d]) := by
 induction h with
 | nil => exact .cons hc .nil
 | cons h _ ih => exact .cons h ih
theorem Lk.len {late : Int} {l m : List ap} (h : Lk late l m) : m.length = l.length := by
 induction h with
 | nil => rfl
 | cons _ _ ih => simp [ih]
theorem Lk.srcs {late : Int} {l m : List ap} (h : Lk late l m) : m.map (·.aH) = l.map (·.aH) := by
 induction h with
 | nil => rfl
 | cons h _ ih => simp [ih, h.src]
theorem Lk.mem {late : Int} {l m : List ap} (h : Lk late l m) : ∀ d ∈ m, ∃ c ∈ l, Like late c d := by
 induction h with
 | nil => simp
 | @cons c d l m h _ ih =>
  intro x hx
  rcases List.mem_cons.1 hx with rfl | hx
  ·exact ⟨c, sm, h⟩
  ·obtain ⟨y, hy, e⟩ := ih x hx
   exact ⟨y, by simp [hy], e⟩
theorem Lk.inv {late : Int} {v : aC} (hv : lH v) {m : List ap} (h : Lk late v.aO m) : lH ⟨m⟩ := by
 refine ⟨by have := h.len; have := hv.len; simp only; omega, fun d hd => ?_, by simp only; rw [h.srcs]; exact hv.ord, fun d hd => ?_⟩
 ·obtain ⟨c, hc, e⟩ := h.mem d hd
  exact ⟨by rw [e.src]; exact (hv.all c hc).1, e.eps⟩
 ·obtain ⟨c, hc, e⟩ := h.mem d hd
  rw [e.src]; exact hv.net c hc
theorem Lk.at_ {late : Int} {l m : List ap} (h : Lk late l m) {s : Sid} {t : Int} (ht : t ≤ late) : (nM ⟨m⟩ s t).map ou = (nM ⟨l⟩ s t).map ou := by
 unfold nM chan
 simp only
 induction h with
 | nil => rfl
 | @cons c d l m h _ ih =>
  rw [List.find?_cons, List.find?_cons, h.src]
  by_cases e : c.aH = s
  ·simp only [e, decide_true]
   exact h.at_ t ht
  ·simp only [e, decide_false]
   exact ih
theorem used_alike {a : aG} {v w : aC} (hv : lH v) (hw : lH w) {p : Pick} (hp : iO p) (h : (nM w p.aH p.a8).map ou = (nM v p.aH p.a8).map ou) :
  (used a w p).1 = (used a v p).1 ∧ (used a w p).2.2 = (used a v p).2.2 ∧ (used a w p).2.1.bi = (used a v p).2.1.bi := by
 have key : ∀ {u : aC}, lH u → cw a u p = match nM u p.aH p.a8 with
   | none => some (⟨⟨0, 0, 0⟩, 0, 0, 0⟩, zEp, false)
   | some e => (dI a.ag.az a.ag.ac ⟨e.aS, p.bw, p.bO, 1⟩).bind fun z => if (z.2 != (0 : Int)) = true then some (⟨⟨0, 0, 0⟩, 0, 0, 0⟩, zEp, false) else some (⟨e.aS, p.bw, p.bO, 1⟩, e, true) := by
  intro u hu
  unfold cw
  rw [valid_pick hp, zc, if_neg sm, At_eq hu.lens (inv_valid hu), zc]
  cases nM u p.aH p.a8 with
  | none =>
   dsimp only
   rw [if_pos sm]
   rfl
  | some e =>
   dsimp only
   rw [if_neg sm]
   rfl
 have kv := key hv
 have kw := key hw
 unfold used
 rw [kv, kw]
 cases hx : nM v p.aH p.a8 with
 | none =>
  cases hy : nM w p.aH p.a8 with
  | none => exact ⟨rfl, rfl, rfl⟩
  | some f => rw [hx, hy] at h; cases h
 | some e =>
  cases hy : nM w p.aH p.a8 with
  | none => rw [hx, hy] at h; cases h
  | some f =>
   rw [hx, hy] at h
   have h := Option.some.inj h
   have h1 : f.aS = e.aS := congrArg Prod.fst h
   have h2 : f.bi = e.bi := congrArg Prod.snd h
   dsimp only
   rw [h1]
   cases dI a.ag.az a.ag.ac ⟨e.aS, p.bw, p.bO, 1⟩ with
   | none => exact ⟨rfl, rfl, rfl⟩
   | some z =>
    rw [zc, zc]
    by_cases hz : (z.2 != (0 : Int)) = true
    ·rw [if_pos hz, if_pos hz]
     exact ⟨rfl, rfl, rfl⟩
    ·rw [if_neg hz, if_neg hz]
     exact ⟨rfl, rfl, h2⟩
theorem like_new {late k : Int} (hl : 0 ≤ late ∧ late ≤ 60000) (hk : 0 ≤ k ∧ k < 5) {c : ap} (hc : EpsOk c.ba) (h2 : c.ba.length ≤ 2) {e : al} (he : c.ba.getLast? = some e) (hf : e.bB ≤ late) {p : aa} (hp : d8 60 p) {r : aM} (hr : lj r) :
  Like late c ⟨c.aH, c.ba.set (c.ba.length - 1) ⟨e.bB, late + 1, e.cf, e.aS, e.bi⟩ ++ [⟨late + 1 + k, e.fTo, e.cf, p, r⟩]⟩ := by
 obtain ⟨s, l⟩ := c
 simp only at hc h2 he ⊢
 have hto := hc.last e he
 have hall := hc.all
 have hord := hc.ord
 have hne := hc.ne
 have hmem : e ∈ l := List.mem_of_getLast? he
 have ke := hall e hmem
 obtain ⟨k1, k2, k3, k4, k5, k6, k7⟩ := ke
 have kf : EpOk ⟨late + 1 + k, e.fTo, e.cf, p, r⟩ := ⟨zb, zb, zb, zb, k5, hr, hp⟩
 have kg : EpOk ⟨e.bB, late + 1, e.cf, e.aS, e.bi⟩ := ⟨k1, zb, zb, k4, k5, k6, k7⟩
 match l, h2, hne, he with
 | [x], _, _, he =>
  simp at he
  subst he
  refine ⟨rfl, ⟨sm, sm, by simp; exact ⟨kg, kf⟩, so, by simp [hto]⟩, fun t ht => ?_⟩
  simp only [List.length_cons, List.length_nil, List.set_cons_zero, List.cons_append, List.nil_append, epIn, List.find?_cons, List.find?_nil]
  by_cases h : x.bB ≤ t
  ·have a1 : t < late + 1 := by omega
   have a2 : t < x.fTo := by omega
   simp [h, a1, a2, ou]
  ·have a1 : ¬ (late + 1 + k ≤ t) := by omega
   simp [h, a1]
 | [y, x], _, _, he =>
  simp at he
  subst he
  have ky := hall y sm
  simp at hord
  refine ⟨rfl, ⟨sm, sm, by simp; exact ⟨ky, kg, kf⟩, so, by simp [hto]⟩, fun t ht => ?_⟩
  simp only [List.length_cons, List.length_nil, List.set_cons_zero, List.set_cons_succ, List.cons_append, List.nil_append, epIn, List.find?_cons, List.find?_nil]
  by_cases h0 : y.bB ≤ t ∧ t < y.fTo
  ·simp [h0, ou]
  ·simp only [h0, decide_false]
   by_cases h : x.bB ≤ t
   ·have a1 : t < late + 1 := by omega
    have a2 : t < x.fTo := by omega
    simp [h, a1, a2, ou]
   ·have a1 : ¬ (late + 1 + k ≤ t) := by omega
    simp [h, a1]
theorem late_ok {x : List Pick × Src} (hl : x.1.length ≤ 7) (hp : ∀ p ∈ x.1, iO p) : Ok (e8 (dT x) ((0 : Int), (0 : Int))) (fun o => (0 ≤ o ∧ o ≤ 60000) ∧ ∀ p ∈ x.1, p.a8 ≤ o) := by
 refine Ok.loop (fun s : Int × Int => (0 ≤ s.1 ∧ s.1 ≤ 60000) ∧ ∃ i : Nat, s.2 = i ∧ i ≤ x.1.length ∧ ∀ p ∈ x.1.take i, p.a8 ≤ s.1) (fun s => ((x.1.length : Int) - s.2).toNat) ?_ ⟨sm, 0, rfl, Nat.zero_le _, sm⟩
 rintro ⟨s5, s6⟩ ⟨i0, i, i1, i2, i3⟩
 simp only at i0 i1 i2 i3
 subst i1
 unfold dT
 refine Ok.oV (fun hlt => ?_) (fun hge => Ok.st ⟨i0, ?_⟩)
 ·have hi : i < x.1.length := by omega
  obtain ⟨q0, q1, q2, q3, q4, -⟩ := hp _ (List.getElem_mem hi)
  rw [pM rfl hi, zc, w64 za za]
  have hmax : s5 ≤ (if x.1[i].a8 > s5 then x.1[i].a8 else s5) ∧ x.1[i].a8 ≤ (if x.1[i].a8 > s5 then x.1[i].a8 else s5) ∧ (if x.1[i].a8 > s5 then x.1[i].a8 else s5) ≤ 60000 := by split <;> omega
  refine Ok.nx ⟨zb, i + 1, sm, za, fun p h => ?_⟩ zb
  rw [p8 hi] at h
  rcases List.mem_append.1 h with h | h
  ·have := i3 p h; simp only; omega
  ·rw [List.mem_singleton] at h; subst h; exact hmax.2.1
 ·obtain rfl : i = x.1.length := by omega
  rw [List.take_length] at i3
  exact i3
theorem other_ok {x : aC × Src} (hv : lH x.1) (h2 : ∀ c ∈ x.1.aO, c.ba.length ≤ 2) {late : Int} (hl : 0 ≤ late ∧ late ≤ 60000) (d : Src) (hd : bN d) : Ok (e8 (dU x late) ((0 : Int), d.fL, d.fAt, ([] : List ap))) (fun o => Lk late x.1.aO o) := by
 have hlen := hv.len
 refine Ok.loop (fun s : Int × List Int × Int × List ap => ∃ i : Nat, s.1 = i ∧ i ≤ x.1.aO.length ∧ Lk late (x.1.aO.take i) s.2.2.2 ∧ bN ⟨s.2.1, s.2.2.1⟩) (fun s => ((x.1.aO.length : Int) - s.1).toNat) ?_ ⟨0, rfl, Nat.zero_le _, .nil, hd⟩
 rintro ⟨s13, s14, s15, s16⟩ ⟨i, i1, i2, i3, i4⟩
 simp only at i1 i2 i3 i4
 subst i1
 unfold dU
 refine Ok.oV (fun hlt => ?_) (fun hge => Ok.st ?_)
 rotate_left
 ·obtain rfl : i = x.1.aO.length := by omega
  rw [List.take_length] at i3
  exact i3
 have hi : i < x.1.aO.length := by omega
 have hm := List.getElem_mem hi
 have hsl : s16.length = i := by rw [i3.len, List.length_take]; omega
 rw [pM rfl hi, zc]
 generalize hc : x.1.aO[i] = c at hm ⊢
 have ec := (hv.all c hm).2
 have e2 := h2 c hm
 have hpos := List.length_pos_iff.2 ec.ne
 have hnext : ∀ {c' : ap} {t : Src}, Like late c c' → bN t → Ok (some (.next ((IntKind.wrap .i64 ((i : Int) + 1)), t.fL, t.fAt, s16 ++ [c']))) (Ok.S (fun s : Int × List Int × Int × List ap => ∃ i : Nat, s.1 = i ∧ i ≤ x.1.aO.length ∧ Lk late (x.1.aO.take i) s.2.2.2 ∧ bN ⟨s.2.1, s.2.2.1⟩) (fun s => ((x.1.aO.length : Int) - s.1).toNat) (fun o => Lk late x.1.aO o) ((i : Int), s14, s15, s16)) := fun {c' t} hL ht => by
  rw [w64 za za]
  refine Ok.nx ⟨i + 1, sm, za, ?_, ht⟩ zb
  rw [p8 hi, hc]
  exact i3.snoc hL
 have happ : ∀ (y : ap), Ok (pS s16 [y] 88) (fun r => r = s16 ++ [y]) := fun y => Ok.app (by simp only [List.length_cons, List.length_nil]; omega)
 rw [ol (by simp only [List.length_nil]; omega), zc, List.nil_append, w64 (n := (c.ba.length : Int) - 1) za za]
 have hn : ((c.ba.length : Int) - 1) = ((c.ba.length - 1 : Nat) : Int) := by omega
 have hL : c.ba.length - 1 < c.ba.length := by omega
 have hlast : c.ba.getLast? = some c.ba[c.ba.length - 1] := by rw [List.getLast?_eq_getElem?, zd hL]
 refine Ok.bind (Ok.qH za za) (fun _ _ => ?_)
 rw [hn, pM rfl hL, zc]
 refine Ok.oV (fun hf => ?_) (fun _ => ?_)
 ·refine Ok.bind (Ok.qH za za) (fun _ _ => ?_)
  refine Ok.bind (Ok.mod za za) (fun y g => ?_)
  obtain ⟨z, hz, rfl⟩ := g
  have hz' : z = c.ba[c.ba.length - 1] := by
   have := hz
   simpa [hL] using this.symm
  subst hz'
  refine Ok.bind (c8 _ _ i4 za za) (fun y1 g1 => ?_)
  refine Ok.bind (kI 60 za za _ g1.2.2) (fun y2 g2 => ?_)
  refine Ok.bind (responseV _ g2.2) (fun y3 g3 => ?_)
  refine Ok.bind (Ok.app (by simp only [List.length_set, List.length_cons, List.length_nil]; omega)) (fun y4 g4 => ?_)
  subst g4
  refine Ok.bind (happ _) (fun y5 g5 => ?_)
  subst g5
  rw [w64 (n := late + 1) za za, w64 (n := late + 1 + y1.1) za za]
  exact hnext (like_new hl ⟨g1.1, g1.2.1⟩ ec e2 hlast hf g2.1 g3.1) g3.2
 ·refine Ok.bind (happ _) (fun y5 g5 => ?_)
  subst g5
  exact hnext ⟨rfl, ec, fun _ _ => rfl⟩ i4
theorem mj (l : List Int) : e9 l = some true := by
 refine Ok.eq ?_
 unfold e9
 refine Ok.bind (new_ok l) (fun x1 h1 => ?_)
 refine Ok.bind ((settingsV (k := 3) za x1 h1).both (settings_ok x1 h1)) (fun x2 ⟨h2, hset, _⟩ => ?_)
 refine Ok.bind (sitesV x2.2 h2.2) (fun x3 ⟨⟨h3, hep⟩, h3'⟩ => ?_)
 refine Ok.bind (picks_ok x2.1 hset x3.1 h3.inv 7 za x3.2 h3') (fun x4 ⟨⟨h4, h5⟩, h6⟩ => ?_)
 refine Ok.bind (late_ok h4 h5) (fun late ⟨hl, ht⟩ => ?_)
 refine Ok.bind (other_ok h3 hep hl x4.2 h6) (fun o ho => ?_)
 have hw := ho.inv h3
 have ha := h2.1
 obtain ⟨L, e1, -, m1, n1⟩ := oc (l := x4.1) za
 have hL : ∀ p ∈ L, iO p ∧ p.a8 ≤ late := fun p h => ⟨h5 p ((m1 p).1 h), ht p ((m1 p).1 h)⟩
 have g1 := na ha h3 e1 za (fun p h => (hL p h).1)
 have g2 := na ha hw e1 za (fun p h => (hL p h).1)
 have hal : ∀ p ∈ L, _ := fun p h => used_alike (a := x2.1) h3 hw (hL p h).1 (ho.at_ (s := p.aH) (hL p h).2)
 have hus : cW x2.1 ⟨o⟩ L = cW x2.1 x3.1 L := by
  unfold cW
  exact List.filter_congr fun p h => by rw [(hal p h).2.1]
 have hU : ∀ p ∈ cW x2.1 x3.1 L, p ∈ L ∧ (used x2.1 x3.1 p).2.2 = true := fun p h => List.mem_filter.1 h
 have hUl : (cW x2.1 x3.1 L).length ≤ 7 := by
  have := List.length_filter_le (fun p => (used x2.1 x3.1 p).2.2) L
  unfold cW; omega
 have hm : mZ (mat x2.1 ⟨o⟩ (cW x2.1 x3.1 L)) x2.1 = mZ (mat x2.1 x3.1 (cW x2.1 x3.1 L)) x2.1 := by
  rw [← solve_resp (m := mat x2.1 x3.1 (cW x2.1 x3.1 L)) (e := (cW x2.1 x3.1 L).map fun p => (used x2.1 ⟨o⟩ p).2.1)]
  ·unfold mat
   simp only
   rw [List.map_congr_left (f := fun p => (used x2.1 ⟨o⟩ p).1) (g := fun p => (used x2.1 x3.1 p).1) fun p h => (hal p (hU p h).1).1]
  ·simp only [mat, List.map_map]
   exact List.map_congr_left fun p h => (hal p (hU p h).1).2.2
 rw [hus] at g2
 obtain ⟨r, er, r1, r2, r3⟩ := solve_ok ha (mat_ok ha h3 za fun p h => ⟨(hL p (hU p h).1).1, (hU p h).2⟩)
 rw [oK g1, er, zc, oK g2, hm, er, zc, if_pos sm, same_self za, zc, if_pos rfl, awake_at]
 exact Ok.ret rfl
end Go.Dw.So
