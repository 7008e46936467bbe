
import Derived.Test.YtkcfodpngpmlcaaGreatDeLawT


set_option maxRecDepth 100000
set_option maxHeartbeats 4000000
namespace Go.Dw.De
open Go.Dw Go.Proofs
open Sd (ef dj eI)

def vM (p : Pick) : Prop := So.SidLen p.ak
def vPk (p : Pick) : Bool := So.jt p.ak && (decide (0 ≤ p.aG) && (decide (p.aG ≤ p.aN) && (decide (p.aN ≤ p.aY) && (decide (p.aY ≤ 18014398509481984) && ((decide (0 ≤ p.aH) && decide (p.aH ≤ 1073741823)) && (decide (-1 ≤ p.aK) && decide (p.aK ≤ 1)))))))
theorem tB {p : Pick} : vPk p = true ↔ fB p := by
 unfold vPk fB IsSid
 simp only [Bool.and_eq_true, decide_eq_true_eq, and_assoc]
theorem in_eq (a b c : Int) : iI a b c = some (decide (b ≤ a) && decide (a ≤ c)) := by
 unfold iI
 by_cases h : b ≤ a
 ·rw [if_pos (by simpa using h), decide_eq_true h]; rfl
 ·rw [if_neg (by simpa using h), decide_eq_false h]; rfl
theorem vp_eq {p : Pick} (h : vM p) : cC p = some (vPk p) := by
 unfold cC vPk
 rw [So.vV h, zb, in_eq, in_eq]
 by_cases h0 : So.jt p.ak = true
 rotate_left
 ·simp [h0]
 by_cases h1 : 0 ≤ p.aG
 rotate_left
 ·simp [h0, h1]
 by_cases h2 : p.aG ≤ p.aN
 rotate_left
 ·simp [h0, h1, h2]
 by_cases h3 : p.aN ≤ p.aY
 rotate_left
 ·simp [h0, h1, h2, h3]
 by_cases h4 : p.aY ≤ 18014398509481984
 rotate_left
 ·simp [h0, h1, h2, h3, h4]
 by_cases h5 : 0 ≤ p.aH <;> by_cases h6 : p.aH ≤ 1073741823 <;> simp [h0, h1, h2, h3, h4, h5, h6]
theorem ref_vp_eq {p : Pick} (h : vM p) : eS p = some (vPk p) := by
 rw [← vp_eq h]
 have e1 : jR p.ak = jd p.ak := by rw [Iv.yJ h, So.vV h]
 have e2 : ∀ a b c, cN a b c = iI a b c := fun a b c => rfl
 unfold eS cC
 rw [e1]
 simp only [e2]
theorem qw {l : List Pick} (hl : l.length ≤ 1000) (h : ∀ p ∈ l, vM p) : cB l = some (l.all vPk) := by
 unfold cB cj cG
 have h1 : ∀ (i : Nat) (hi : i < l.length), bq l (i : Int) = if (!vPk l[i]) = true then some (.stop (.inr (i : Int))) else some (.next ((i + 1 : Nat) : Int)) := by
  intro i hi
  unfold bq dI
  rw [if_pos so, bW rfl hi, zb, vp_eq (h _ (List.getElem_mem hi)), zb, zb, w64 om om]
  simp
 have h2 : bq l (l.length : Nat) = some (.stop (.inl ())) := by
  unfold bq
  rw [if_neg sm]
 rcases ln l (p := fun x => !vPk x) (f := fun i _ => (i : Int)) h1 h2 with ⟨e, h⟩ | ⟨i, hi, e, hp, h⟩
 ·rw [e]
  have : l.all vPk = true := List.all_eq_true.2 fun x hx => by simpa using h x hx
  rw [this]; rfl
 ·rw [e]
  have : l.all vPk = false := by
   rw [List.all_eq_false]
   exact ⟨l[i], List.getElem_mem hi, by simpa using hp⟩
  rw [this]; simp
theorem yK {l : List Pick} (hl : l.length ≤ 1000) (h : ∀ p ∈ l, vM p) : nE l = some (l.all vPk) := by
 unfold nE
 have h1 : ∀ (i : Nat) (hi : i < l.length), hZ l (i : Int) = if (!vPk l[i]) = true then some (.stop (.inr false)) else some (.next ((i + 1 : Nat) : Int)) := by
  intro i hi
  unfold hZ
  rw [if_pos so, bW rfl hi, zb, ref_vp_eq (h _ (List.getElem_mem hi)), zb, w64 om om]
  simp
 have h2 : hZ l (l.length : Nat) = some (.stop (.inl ())) := by
  unfold hZ
  rw [if_neg sm]
 rcases ln l (p := fun x => !vPk x) (f := fun _ _ => false) h1 h2 with ⟨e, h⟩ | ⟨i, hi, e, hp, h⟩
 ·rw [e]
  have : l.all vPk = true := List.all_eq_true.2 fun x hx => by simpa using h x hx
  rw [this]; rfl
 ·rw [e]
  have : l.all vPk = false := by
   rw [List.all_eq_false]
   exact ⟨l[i], List.getElem_mem hi, by simpa using hp⟩
  rw [this]; rfl

theorem wN {α : Type} {out : List α} {x z : α} {k : Nat} (hk : k ≤ out.length) :
  (jH (out ++ [z]) (k + 1) (out.length + 1 - (k + 1)) (((out ++ [z]).drop k).take (out.length + 1 - k))).set k x = out.take k ++ x :: out.drop k := by
 have hd : (out ++ [z]).drop k = out.drop k ++ [z] := List.drop_append_of_le_length hk
 have hys : ((out ++ [z]).drop k).take (out.length + 1 - k) = out.drop k ++ [z] := by
  rw [hd]; exact List.take_of_length_le so
 unfold jH
 rw [hys]
 have hmin : Nat.min (out.drop k ++ [z]).length (out.length + 1 - (k + 1)) = out.length - k := by
  show min _ _ = _
  simp
 rw [hmin]
 have ht : (out.drop k ++ [z]).take (out.length - k) = out.drop k := by
  rw [List.take_append_of_le_length sm]
  exact List.take_of_length_le sm
 have hz : (out ++ [z]).drop (k + 1 + (out.length - k)) = [] := List.drop_eq_nil_of_le so
 rw [ht, hz, List.append_nil]
 have hA : (out ++ [z]).take (k + 1) = out.take k ++ [(out ++ [z])[k]'so] := by
  rw [cn so, List.take_append_of_le_length hk]
 rw [hA, List.append_assoc, List.set_append_right _ _ so]
 simp [Nat.min_eq_left hk]
theorem byEarly_ok (d : List Pick) (hd : d.length ≤ 1000) (hs : d.Pairwise (fun a b => ec a b < 0)) : Ok (kA d) (fun r => r.Perm d ∧ r.Pairwise lx) := by
 unfold kA
 rw [Option.bind_fun_some]
 refine Ok.loop (fun s => ∃ i : Nat, s.1 = i ∧ i ≤ d.length ∧ s.2.Perm (d.take i) ∧ s.2.Pairwise lx) (fun s => ((d.length : Int) - s.1).toNat) ?_ ⟨0, rfl, Nat.zero_le _, sm, .nil⟩
 rintro ⟨s1, out⟩ ⟨i, i0, i1, i2, i3⟩
 simp only at i0 i2 i3
 subst i0
 unfold la
 dsimp only
 refine Ok.ea (fun hlt => ?_) (fun hge => ?_)
 rotate_left
 ·have : i = d.length := by omega
  subst this
  rw [List.take_length] at i2
  exact Ok.st ⟨i2, i3⟩
 have hi : i < d.length := by omega
 have hol : out.length = i := by have := i2.length_eq; rw [List.length_take] at this; omega
 refine Ok.bind (P := fun o => ∃ k : Nat, o = ((i : Int), (k : Int), out) ∧ k ≤ out.length ∧ (∀ a ∈ out.take k, a.aG ≤ d[i].aG) ∧ ∀ b ∈ out.drop k, d[i].aG < b.aG)
  (Ok.loop (fun s : Int => ∃ k : Nat, s = k ∧ k ≤ out.length ∧ ∀ a ∈ out.take k, a.aG ≤ d[i].aG) (fun s => ((out.length : Int) - s).toNat) ?_ ⟨0, rfl, Nat.zero_le _, sm⟩) ?_
 ·rintro s ⟨k, rfl, hk, hA⟩
  unfold k9
  refine Ok.ea (fun hlt => ?_) (fun hge => Ok.st ⟨k, rfl, hk, hA, fun b hb => ?_⟩)
  ·have hk : k < out.length := by omega
   rw [eB om om, zb, bW rfl hk, zb, bW rfl hi, zb]
   refine Ok.ea (fun hle => ?_) (fun hgt => Ok.st ⟨k, rfl, om, hA, fun b hb => ?_⟩)
   ·rw [w64 om om]
    refine Ok.nx ⟨k + 1, sm, om, fun a ha => ?_⟩ om
    rw [cn hk] at ha
    rcases List.mem_append.1 ha with ha | ha
    ·exact hA a ha
    ·rw [List.mem_singleton.1 ha]; exact hle
   ·obtain ⟨j, hj, rfl⟩ := List.getElem_of_mem hb
    rw [List.length_drop] at hj
    rw [List.getElem_drop]
    by_cases e : j = 0
    ·subst e; simp only [Nat.add_zero]; omega
    ·have := lx_early (List.pairwise_iff_getElem.1 i3 k (k + j) hk om om)
     omega
  ·have : k = out.length := by omega
   subst this
   simp at hb
 ·rintro o ⟨k, rfl, hk, hA, hB⟩
  dsimp only
  rw [cg (by simp only [List.length_cons, List.length_nil]; omega), zb]
  generalize (⟨⟨[], [], [], []⟩, 0, 0, 0, 0, 0⟩ : Pick) = z
  have hlen : (out ++ [z]).length = out.length + 1 := by simp
  rw [w64 (n := (k : Int) + 1) om om, w64 (n := (i : Int) + 1) om om, hlen]
  rw [ic om om om, zb, ic om om om, zb]
  have t1 : (0 + ((k : Int) + 1).toNat) = k + 1 := by omega
  have t2 : (0 + (((out.length + 1 : Nat) : Int)).toNat) = out.length + 1 := by omega
  have t3 : (0 + ((k : Int)).toNat) = k := by omega
  rw [t1, t2, t3, lP om om, zb, lC om om, zb, bW rfl hi, zb]
  have hcl : (jH (out ++ [z]) (k + 1) (out.length + 1 - (k + 1)) (((out ++ [z]).drop k).take (out.length + 1 - k))).length = out.length + 1 := by
   have := congrArg List.length (wN (x := z) (z := z) hk)
   rw [List.length_set] at this
   rw [this]
   simp
   omega
  rw [eB om om, zb, np (i := k) rfl om, zb, wN hk]
  have hsplit : (out.take k ++ out.drop k).Pairwise lx := by rwa [List.take_append_drop]
  obtain ⟨p1, p2, p3⟩ := List.pairwise_append.1 hsplit
  have hbef : ∀ a ∈ out, ec a d[i] < 0 := fun a ha => by
   have ha := i2.mem_iff.1 ha
   obtain ⟨j, hj, rfl⟩ := List.getElem_of_mem ha
   rw [List.length_take] at hj
   rw [List.getElem_take]
   exact List.pairwise_iff_getElem.1 hs j i om hi om
  refine Ok.nx ⟨i + 1, sm, om, ?_, List.pairwise_append.2 ⟨p1, List.pairwise_cons.2 ⟨fun b hb => lx_lt (hB b hb), p2⟩, fun a ha b hb => ?_⟩⟩ za
  ·simp only
   refine List.perm_middle.trans ?_
   rw [List.take_append_drop, cn hi]
   exact (List.Perm.cons _ i2).trans (List.perm_append_singleton _ _).symm
  ·rcases List.mem_cons.1 hb with rfl | hb
   ·exact lx_le (hA a ha) (hbef a (List.mem_of_mem_take ha))
   ·exact p3 a ha b hb

def zP : Pick := ⟨⟨[], [], [], []⟩, 0, 0, 0, 0, 0⟩
def lk (far : Int) (all : List Pick) : Nat → List (List Pick)
 | 0 => []
 | i + 1 => if i = 0 ∨ far < (all.getD i zP).aG - (all.getD (i - 1) zP).aG then lk far all i ++ [[all.getD i zP]] else (lk far all i).dropLast ++ [(lk far all i).getLastD [] ++ [all.getD i zP]]
theorem grpN_ne (far : Int) (all : List Pick) : ∀ i, 0 < i → lk far all i ≠ []
 | 0, h => by omega
 | i + 1, _ => by unfold lk; split <;> simp
theorem tS (far : Int) (all : List Pick) : ∀ i, i ≤ all.length → (lk far all i).flatten = all.take i
 | 0, _ => rfl
 | i + 1, h => by
  have ih := tS far all i om
  have hg : all.getD i zP = all[i] := by rw [List.getD_eq_getElem?_getD, ge om]; rfl
  unfold lk
  rw [cn om, ← ih, hg]
  split
  ·simp
  ·rename_i h0
   have hne := grpN_ne far all i om
   rcases List.eq_nil_or_concat (lk far all i) with e | ⟨O, g, e⟩
   ·exact (hne e).elim
   ·rw [e]; simp
theorem grpN_in (far : Int) (all : List Pick) : ∀ i, ∀ g ∈ lk far all i, g ≠ []
 | 0, g, h => by cases h
 | i + 1, g, h => by
  have ih := grpN_in far all i
  unfold lk at h
  split at h
  ·rcases List.mem_append.1 h with h | h
   ·exact ih g h
   ·rw [List.mem_singleton.1 h]; simp
  ·rcases List.mem_append.1 h with h | h
   ·exact ih g ((List.dropLast_sublist _).subset h)
   ·rw [List.mem_singleton.1 h]; simp
theorem grpN_len (far : Int) (all : List Pick) (i : Nat) (hi : i ≤ all.length) : (lk far all i).length ≤ i := by
 have := len_le (grpN_in far all i)
 rw [tS far all i hi, List.length_take] at this
 omega
theorem getE {l : List Pick} {i : Nat} (h : i < l.length) : l.getD i zP = l[i] := by rw [List.getD_eq_getElem?_getD, ge h]; rfl
def EB (l : List Pick) : Prop := ∀ p ∈ l, 0 ≤ p.aG ∧ p.aG ≤ 18014398509481984
theorem g36_eq (far : Int) (all : List Pick) (hl : all.length ≤ 1000) (hr : EB all) : bF (bZ all far) ((0 : Int), []) = some (lk far all all.length) := by
 refine Ok.eq (Ok.loop (fun s => ∃ i : Nat, s = ((i : Int), lk far all i) ∧ i ≤ all.length) (fun s => ((all.length : Int) - s.1).toNat) ?_ ⟨0, rfl, Nat.zero_le _⟩)
 rintro s ⟨i, rfl, hi⟩
 unfold bZ
 dsimp only
 refine Ok.ea (fun hlt => ?_) (fun hge => ?_)
 rotate_left
 ·have : i = all.length := by omega
  subst this
  exact Ok.st rfl
 have hlt : i < all.length := by omega
 have hol := grpN_len far all i om
 have hgl : ∀ g ∈ lk far all i, g.length ≤ 1000 := fun g hg => by
  have h1 := (List.sublist_flatten_of_mem hg).length_le
  rw [tS far all i om, List.length_take] at h1; omega
 have hsucc : lk far all (i + 1) = if i = 0 ∨ far < all[i].aG - (all.getD (i - 1) zP).aG then lk far all i ++ [[all[i]]] else (lk far all i).dropLast ++ [(lk far all i).getLastD [] ++ [all[i]]] := by
  rw [← getE hlt]; rfl
 rw [eB om om, zb, bW (i := i) rfl hlt, zb]
 have happ : dJ (lk far all i) [[]] 24 = some (lk far all i ++ [[]]) := cg (by simp only [List.length_cons, List.length_nil]; omega)
 refine Ok.kY (fun h0 => ?_) (fun h0 => ?_)
 ·rw [happ, zb, wQ _ [] all[i] i om sm, w64 om om]
  exact Ok.nx ⟨i + 1, by rw [hsucc, if_pos (.inl om)]; simp, om⟩ za
 ·have h0 : 0 < i := by omega
  have hi1 : i - 1 < all.length := by omega
  rw [w64 (n := (i : Int) - 1) om om, eB om om, zb, bW (i := i - 1) om hi1, zb]
  have r1 := hr _ (List.getElem_mem hlt)
  have r2 := hr _ (List.getElem_mem hi1)
  rw [getE hi1] at hsucc
  rw [w64 (n := all[i].aG - (all[i - 1]'hi1).aG) om om]
  refine Ok.ea (fun hfar => ?_) (fun hnear => ?_)
  ·rw [happ, zb, wQ _ [] all[i] i om sm, w64 om om]
   exact Ok.nx ⟨i + 1, by rw [hsucc, if_pos (.inr om)]; simp, om⟩ za
  ·rw [if_neg om] at hsucc
   rcases List.eq_nil_or_concat (lk far all i) with e | ⟨O, g, e⟩
   ·exact (grpN_ne far all i h0 e).elim
   rw [List.concat_eq_append] at e
   rw [e] at hol hgl hsucc ⊢
   rw [wQ O g all[i] i (by simp at hol; omega) (hgl g sm), w64 om om]
   exact Ok.nx ⟨i + 1, by rw [hsucc]; simp, om⟩ za
theorem tailR_eq (O : List (List Pick)) (g : List Pick) (x6 : List Pick) (i : Nat) (hi : i < x6.length) (hO : O.length ≤ 1000) (hg : g.length ≤ 1000) :
  ((mu (O ++ [g])).bind fun x14 => (inO (O ++ [g]) (IntKind.wrap .i64 (((O ++ [g]).length : Int) - (1 : Int)))).bind fun _ => (atO (IntKind.wrap .i64 (((O ++ [g]).length : Int) - (1 : Int))) ((O ++ [g]).length - 1)).bind fun _ => (cA x6 (i : Int)).bind fun x17 => (dJ x14 [x17] 104).bind fun x18 => (inO (O ++ [g]) (IntKind.wrap .i64 (((O ++ [g]).length : Int) - (1 : Int)))).bind fun _ => (stO (O ++ [g]).length (IntKind.wrap .i64 (((O ++ [g]).length : Int) - (1 : Int))) ((O ++ [g]).length - 1)).bind fun _ => some (cb.next (IntKind.wrap .i64 ((i : Int) + (1 : Int)), (O ++ [g]).set ((O ++ [g]).length - 1) x18) : cb (Int × List (List Pick)) (List (List Pick))))
   = some (.next (IntKind.wrap .i64 ((i : Int) + 1), O ++ [g ++ [x6[i]]])) := by
 have hl : (O ++ [g]).length = O.length + 1 := by simp
 have hw : IntKind.wrap .i64 (((O ++ [g]).length : Int) - 1) = (O.length : Int) := by rw [hl, w64 om om]; omega
 rw [hw, lastO_snoc, zb, eB om (by rw [hl]; omega), zb, hl]
 have ha : atO (O.length : Int) (O.length + 1 - 1) = some () := by unfold atO; rw [if_pos sm]
 have hs : stO (O.length + 1) (O.length : Int) (O.length + 1 - 1) = some () := by unfold stO; rw [if_pos sm]
 rw [ha, zb, bW rfl hi, zb, cg (by simp only [List.length_cons, List.length_nil]; omega), zb, zb, hs, zb]
 simp
theorem r39_eq (far : Int) (all : List Pick) (hl : all.length ≤ 1000) (hr : EB all) : bF (iX all far) ((0 : Int), []) = some (lk far all all.length) := by
 refine Ok.eq (Ok.loop (fun s => ∃ i : Nat, s = ((i : Int), lk far all i) ∧ i ≤ all.length) (fun s => ((all.length : Int) - s.1).toNat) ?_ ⟨0, rfl, Nat.zero_le _⟩)
 rintro s ⟨i, rfl, hi⟩
 unfold iX
 dsimp only
 refine Ok.ea (fun hlt => ?_) (fun hge => ?_)
 rotate_left
 ·have : i = all.length := by omega
  subst this
  exact Ok.st rfl
 have hlt : i < all.length := by omega
 have hol := grpN_len far all i om
 have hgl : ∀ g ∈ lk far all i, g.length ≤ 1000 := fun g hg => by
  have h1 := (List.sublist_flatten_of_mem hg).length_le
  rw [tS far all i om, List.length_take] at h1; omega
 have hsucc : lk far all (i + 1) = if i = 0 ∨ far < all[i].aG - (all.getD (i - 1) zP).aG then lk far all i ++ [[all[i]]] else (lk far all i).dropLast ++ [(lk far all i).getLastD [] ++ [all[i]]] := by
  rw [← getE hlt]; rfl
 have happ : dJ (lk far all i) [[]] 24 = some (lk far all i ++ [[]]) := cg (by simp only [List.length_cons, List.length_nil]; omega)
 refine Ok.kY (fun h0 => ?_) (fun h0 => ?_)
 ·rw [happ, zb, tailR_eq _ [] all i hlt om sm, w64 om om]
  exact Ok.nx ⟨i + 1, by rw [hsucc, if_pos (.inl om)]; simp, om⟩ za
 ·have h0 : 0 < i := by omega
  have hi1 : i - 1 < all.length := by omega
  rw [w64 (n := (i : Int) - 1) om om, bW (i := i) rfl hlt, zb, bW (i := i - 1) om hi1, zb]
  have r1 := hr _ (List.getElem_mem hlt)
  have r2 := hr _ (List.getElem_mem hi1)
  rw [getE hi1] at hsucc
  rw [w64 (n := all[i].aG - (all[i - 1]'hi1).aG) om om, ← bW (i := i) (n := (i : Int)) rfl hlt]
  refine Ok.ea (fun hfar => ?_) (fun hnear => ?_)
  ·rw [happ, zb, tailR_eq _ [] all i hlt om sm, w64 om om]
   exact Ok.nx ⟨i + 1, by rw [hsucc, if_pos (.inr om)]; simp, om⟩ za
  ·rw [if_neg om] at hsucc
   rcases List.eq_nil_or_concat (lk far all i) with e | ⟨O, g, e⟩
   ·exact (grpN_ne far all i h0 e).elim
   rw [List.concat_eq_append] at e
   rw [e] at hol hgl hsucc ⊢
   rw [tailR_eq O g all i hlt (by simp at hol; omega) (hgl g sm), w64 om om]
   exact Ok.nx ⟨i + 1, by rw [hsucc]; simp, om⟩ za
theorem r52_ok (out : List (List Pick)) (hl : out.length ≤ 1000) (hg : ∀ g ∈ out, g.length ≤ 1000) :
  Ok (bF iY ((0 : Int), out)) (fun x => x.length = out.length ∧ ∀ (j : Nat) (h : j < x.length) (h' : j < out.length), (∀ p, p ∈ x[j] ↔ p ∈ out[j]) ∧ x[j].Pairwise (fun a b => ec a b < 0)) := by
 refine Ok.loop (fun s => ∃ i : Nat, s.1 = i ∧ i ≤ out.length ∧ s.2.length = out.length ∧ ∀ (j : Nat) (h : j < s.2.length) (h' : j < out.length), (i ≤ j → s.2[j] = out[j]) ∧ (j < i → (∀ p, p ∈ s.2[j] ↔ p ∈ out[j]) ∧ s.2[j].Pairwise (fun a b => ec a b < 0))) (fun s => ((out.length : Int) - s.1).toNat) ?_ ⟨0, rfl, Nat.zero_le _, rfl, fun j h h' => ⟨fun _ => rfl, fun h => om⟩⟩
 rintro ⟨s1, cur⟩ ⟨i, rfl, hi, hlen, hc⟩
 unfold iY
 dsimp only at hlen hc ⊢
 refine Ok.ea (fun hlt => ?_) (fun hge => ?_)
 rotate_left
 ·exact Ok.st ⟨hlen, fun j h h' => (hc j h h').2 om⟩
 have hlt : i < out.length := by omega
 have hic : i < cur.length := by omega
 have hat : atO (i : Int) (Int.toNat (i : Int)) = some () := by unfold atO; rw [if_pos rfl]
 have hst : stO cur.length (i : Int) (Int.toNat (i : Int)) = some () := by unfold stO; rw [if_pos so]
 have hp := (hc i hic hlt).1 (Nat.le_refl _)
 have hcl : cur[i].length ≤ 1000 := by rw [hp]; exact hg _ (List.getElem_mem hlt)
 obtain ⟨m, e1, e2, e3⟩ := tq hcl
 rw [bW (i := i) rfl hic, zb, eB om om, zb, hat, zb, e1, zb, zb, hst, zb, w64 om om]
 refine Ok.nx ⟨i + 1, sm, om, by simpa using hlen, fun j h h' => ?_⟩ za
 simp only [Int.toNat_natCast, List.length_set] at h ⊢
 rw [List.getElem_set]
 by_cases hij : i = j
 ·subst hij
  rw [if_pos rfl]
  exact ⟨fun h => om, fun _ => ⟨fun p => by rw [e3, hp], e2⟩⟩
 ·rw [if_neg hij]
  exact ⟨fun h1 => (hc j h h').1 om, fun hj => (hc j h h').2 om⟩
theorem both_batches (far : Int) (h0 : 0 ≤ far) (h1 : far ≤ 1099511627776) (l : List Pick) (hl : l.length ≤ 20) (hr : ∀ p ∈ l, fB p) :
  ∃ X, bG far l = some X ∧ ug far l X ∧ dn far l = some (X, 0) := by
 obtain ⟨X, e0, hB⟩ := um far l hl hr
 refine ⟨X, e0, hB, ?_⟩
 obtain ⟨s, g1, g2, g3, g4, g5⟩ := Sorts_eq (l := l) om
 obtain ⟨a1, b1, b2, b3⟩ := xV s om g4
 obtain ⟨a2, c1, c2, c3⟩ := byEarly_ok s om g4
 have ha : a1 = a2 := lF cE_tot b3 c3 fun x => by rw [b2.mem_iff, c2.mem_iff]
 subst ha
 have hlen : a1.length = s.length := b2.length_eq
 have hE : EB a1 := fun p hp => by
  have := hr p ((g5 p).1 (b2.mem_iff.1 hp))
  exact ⟨this.2.1, by have := this.2.2; omega⟩
 have hgl := grpN_len far a1 a1.length (Nat.le_refl _)
 have hgg : ∀ g ∈ lk far a1 a1.length, g.length ≤ 1000 := fun g hg => by
  have h1 := (List.sublist_flatten_of_mem hg).length_le
  rw [tS far a1 _ (Nat.le_refl _), List.length_take] at h1; omega
 have e0' := e0
 unfold bG at e0'
 rw [g1, zb, b1, zb, g36_eq far a1 om hE, zb, Option.bind_fun_some] at e0'
 obtain ⟨x1, x2⟩ := (l47_ok (lk far a1 a1.length) om hgg).val e0'
 obtain ⟨Y, f1, f2, f3⟩ := r52_ok (lk far a1 a1.length) om hgg
 have hXY : X = Y := by
  apply List.ext_getElem om
  intro j h h'
  have hj : j < (lk far a1 a1.length).length := by omega
  obtain ⟨p1, -⟩ := x2 j h hj
  obtain ⟨p2, p3⟩ := f3 j h' hj
  exact p9 (hB.sorted _ (List.getElem_mem h)) p3 fun p => by rw [p1.mem_iff, p2]
 unfold dn
 have hall : l.all vPk = true := List.all_eq_true.2 fun p hp => tB.2 (hr p hp)
 rw [if_neg so, if_neg so, yK om fun p hp => wO (hr p hp).1, hall, zb, if_neg sm, g2, zb, c1, zb, r39_eq far a1 om hE, zb, f1, hXY]
 rfl
end Go.Dw.De


set_option maxRecDepth 100000
set_option maxHeartbeats 4000000
namespace Go.Dw.De
open Go.Dw Go.Proofs
open Sd (ef dj eI)

theorem modO_at {α : Type} {l : List α} {n : Int} {i : Nat} {f : α → α} (hn : n = i) (hi : i < l.length) : lB l n f = some (l.set i (f l[i])) := by
 subst hn
 unfold lB
 rw [if_pos om, Int.toNat_natCast, ge hi]
theorem yQ {α : Type} {cmp : α → α → Option Int} (hc : rC cmp) (l : List α) (hl : l.length < 4611686018427387904) : ∃ r, gH cmp l = some r ∧ r.Perm l ∧ r.Pairwise (fun x y => lt3 cmp y x = false) := by
 cases l with
 | nil => exact ⟨[], rfl, .nil, .nil⟩
 | cons a l =>
  have h : ∃ r, gH cmp (a :: l) = some r := ⟨_, by rw [jx, if_pos ⟨hc, hl⟩]⟩
  obtain ⟨r, hr⟩ := h
  refine ⟨r, hr, tk hr, ?_⟩
  rw [jx, if_pos ⟨hc, hl⟩] at hr
  letI : Inhabited α := ⟨a⟩
  have := Sort.pdq_sorts (lt3 cmp) hc.2 (a :: l).toArray 0 (a :: l).length (Lib.bitLen (a :: l).length) true true (Nat.zero_le _) sm (.inl rfl)
  obtain ⟨⟨hs, -, -⟩, hso⟩ := this
  have hr := Option.some.inj hr
  rw [List.pairwise_iff_getElem]
  intro i j hi hj hij
  subst hr
  have hsz : (Sort.pdq (lt3 cmp) (a :: l).toArray 0 (a :: l).length (Lib.bitLen (a :: l).length) true true).size = (a :: l).length := by simpa using hs
  have hi' : i < (Sort.pdq (lt3 cmp) (a :: l).toArray 0 (a :: l).length (Lib.bitLen (a :: l).length) true true).size := by simpa using hi
  have hj' : j < (Sort.pdq (lt3 cmp) (a :: l).toArray 0 (a :: l).length (Lib.bitLen (a :: l).length) true true).size := by simpa using hj
  have h1 := hso i j (Nat.zero_le _) hij om
  rw [getElem!_pos _ i hi', getElem!_pos _ j hj'] at h1
  simpa using h1

abbrev Span := aj
def Nrm (l : List Span) : Prop := (∀ s ∈ l, s.aJ < s.fTo) ∧ l.Pairwise (fun a b => a.fTo < b.aJ)
theorem Nrm.snoc {l : List Span} (h : Nrm l) {x : Span} (hx : x.aJ < x.fTo) (hl : ∀ s ∈ l, s.fTo < x.aJ) : Nrm (l ++ [x]) := by
 refine ⟨fun s hs => ?_, List.pairwise_append.2 ⟨h.2, sm, fun a ha b hb => ?_⟩⟩
 ·rcases List.mem_append.1 hs with hs | hs
  ·exact h.1 s hs
  ·rw [List.mem_singleton.1 hs]; exact hx
 ·rw [List.mem_singleton.1 hb]; exact hl a ha
theorem Nrm.last {l : List Span} {x y : Span} (h : Nrm (l ++ [x])) (hf : y.aJ = x.aJ) (hy : y.aJ < y.fTo) : Nrm (l ++ [y]) := by
 obtain ⟨h1, h2⟩ := h
 obtain ⟨p1, -, p3⟩ := List.pairwise_append.1 h2
 exact Nrm.snoc ⟨fun s hs => h1 s (by simp [hs]), p1⟩ hy fun s hs => by rw [hf]; exact p3 s hs x sm
def ck (l : List Span) (y : Int) : Prop := ∃ s, s ∈ l ∧ s.aJ ≤ y ∧ y < s.fTo
theorem fH (l m : List Span) (y : Int) : ck (l ++ m) y ↔ ck l y ∨ ck m y := by
 unfold ck
 constructor
 ·rintro ⟨s, hs, h⟩
  rcases List.mem_append.1 hs with hs | hs
  ·exact .inl ⟨s, hs, h⟩
  ·exact .inr ⟨s, hs, h⟩
 ·rintro (⟨s, hs, h⟩ | ⟨s, hs, h⟩)
  ·exact ⟨s, by simp [hs], h⟩
  ·exact ⟨s, by simp [hs], h⟩
theorem fI (s : Span) (y : Int) : ck [s] y ↔ s.aJ ≤ y ∧ y < s.fTo := by
 unfold ck
 constructor
 ·rintro ⟨t, ht, h⟩; rw [List.mem_singleton.1 ht] at h; exact h
 ·intro h; exact ⟨s, sm, h⟩
theorem merge_ok {m : List Span} (hl : m.length ≤ 4000000000) (hv : ∀ s ∈ m, s.aJ < s.fTo) (hs : m.Pairwise (fun x y => x.aJ ≤ y.aJ)) :
  ∃ out, bF (gn m) ((0 : Int), ([] : List Span)) = some out ∧ out.length ≤ m.length ∧ Nrm out ∧ ∀ y, ck out y ↔ ck m y := by
 have hp := List.pairwise_iff_getElem.1 hs
 obtain ⟨o, h, hq⟩ := gb (body := gn m) (fun st : Int × List Span => ∃ i : Nat, st.1 = (i : Int) ∧ i ≤ m.length ∧ st.2.length ≤ i ∧ Nrm st.2 ∧ (∀ y, ck st.2 y ↔ ck (m.take i) y) ∧ (∀ s : Span, s ∈ st.2 → ∃ j, ∃ hj : j < m.length, j < i ∧ s.aJ = m[j].aJ)) (fun s => ((m.length : Int) - s.1).toNat)
  (fun o => o.length ≤ m.length ∧ Nrm o ∧ ∀ y, ck o y ↔ ck m y) (by
  rintro ⟨s, out⟩ ⟨i, hi0, hi, ho, hN, hc, hf⟩
  simp only at hi0 ho hN hc hf
  subst hi0
  unfold gn
  simp only
  by_cases hlt : i < m.length
  ·have happ : dJ out [m[i]] 16 = some (out ++ [m[i]]) := cg so
   rw [if_pos (decide_eq_true om), eB om om, bW rfl hlt, w64 (n := (i : Int) + 1) om om]
   simp only [zb, happ]
   have htk : ∀ y, ck (m.take (i + 1)) y ↔ ck (m.take i) y ∨ (m[i].aJ ≤ y ∧ y < m[i].fTo) := fun y => by rw [cn hlt, fH, fI]
   have hvi := hv _ (List.getElem_mem hlt)
   have hfull : Nrm (out ++ [m[i]]) → (∃ i' : Nat, ((i + 1 : Nat) : Int) = (i' : Int) ∧ i' ≤ m.length ∧ (out ++ [m[i]]).length ≤ i' ∧ Nrm (out ++ [m[i]]) ∧ (∀ y, ck (out ++ [m[i]]) y ↔ ck (m.take i') y) ∧ (∀ s ∈ out ++ [m[i]], ∃ j, ∃ hj : j < m.length, j < i' ∧ s.aJ = m[j].aJ)) := fun hN' => by
    refine ⟨i + 1, rfl, om, so, hN', fun y => by rw [fH, fI, htk, hc], fun s hs => ?_⟩
    rcases List.mem_append.1 hs with hs | hs
    ·obtain ⟨j, hj, h1, h2⟩ := hf s hs
     exact ⟨j, hj, om, h2⟩
    ·rw [List.mem_singleton.1 hs]; exact ⟨i, hlt, om, rfl⟩
   have hoc : out = [] ∨ ∃ init last, out = init ++ [last] := by
    rcases List.eq_nil_or_concat out with h | ⟨init, last, h⟩
    ·exact .inl h
    ·exact .inr ⟨init, last, by rw [h]; simp⟩
   rcases hoc with rfl | ⟨init, last, rfl⟩
   ·rw [if_neg sm]
    exact .inl ⟨_, rfl, hfull ⟨by simpa using hvi, sm⟩, za⟩
   ·have hlen : (init ++ [last]).length = init.length + 1 := by simp
    rw [if_pos (decide_eq_true om), hlen]
    have hw : IntKind.wrap .i64 (((init.length + 1 : Nat) : Int) - 1) = (init.length : Int) := by rw [w64 om om]; omega
    have hg : (init ++ [last])[init.length]'sm = last := by simp
    rw [hw, eB om om, bW (i := init.length) rfl om, hg]
    simp only [zb]
    by_cases hm : m[i].aJ ≤ last.fTo
    ·rw [if_pos (decide_eq_true hm), modO_at (i := init.length) rfl om, hg, zb]
     have hset : ∀ v : Span, (init ++ [last]).set init.length v = init ++ [v] := fun v => by simp
     rw [hset]
     obtain ⟨j, hj, h1, h2⟩ := hf last sm
     have hle : last.aJ ≤ m[i].aJ := by rw [h2]; exact hp j i hj hlt h1
     refine .inl ⟨_, rfl, ⟨i + 1, rfl, om, by simp at ho ⊢; omega, hN.last rfl (by have := hN.1 last sm; simp only; split <;> omega), fun y => ?_, fun s hs => ?_⟩, za⟩
     ·rw [htk, ← hc, fH, fH, fI, fI]
      simp only
      split
      ·constructor
       ·rintro (h | h)
        ·exact .inl (.inl h)
        ·by_cases hy : y < last.fTo
         ·exact .inl (.inr ⟨h.1, hy⟩)
         ·exact .inr ⟨om, h.2⟩
       ·rintro ((h | h) | h)
        ·exact .inl h
        ·exact .inr ⟨h.1, om⟩
        ·exact .inr ⟨om, h.2⟩
      ·constructor
       ·rintro (h | h)
        ·exact .inl (.inl h)
        ·exact .inl (.inr h)
       ·rintro ((h | h) | h)
        ·exact .inl h
        ·exact .inr h
        ·exact .inr ⟨om, om⟩
     ·rcases List.mem_append.1 hs with hs | hs
      ·obtain ⟨j', hj', h1', h2'⟩ := hf s (by simp [hs])
       exact ⟨j', hj', om, h2'⟩
      ·rw [List.mem_singleton.1 hs]; exact ⟨j, hj, om, h2⟩
    ·rw [if_neg (by simpa using hm)]
     refine .inl ⟨_, rfl, hfull (hN.snoc hvi fun s hs => ?_), za⟩
     rcases List.mem_append.1 hs with hs | hs
     ·have h1 := (List.pairwise_append.1 hN.2).2.2 s hs last sm
      have h2 := hN.1 last sm
      omega
     ·rw [List.mem_singleton.1 hs]; omega
  ·rw [if_neg so]
   refine .inr ⟨_, rfl, om, hN, fun y => ?_⟩
   rw [hc, List.take_of_length_le om]) (0, []) ⟨0, rfl, Nat.zero_le _, sm, ⟨sm, sm⟩, fun y => sm, sm⟩
 exact ⟨o, h, hq⟩
theorem lit2_ok : rC bS := ⟨fun x y => ⟨_, lit2_eq x y⟩, by rw [lt3N]; exact (j9.map fun x : Span => x.aJ).swo⟩
theorem lit1_at (s : Span) : gT s = some (!decide (s.aJ < s.fTo)) := rfl
theorem del_ok {l : List Span} (hl : l.length ≤ 1000000) : bN l = some (l.filter fun s => decide (s.aJ < s.fTo)) := by
 have h1 : ∀ (i : Nat) (hi : i < l.length), bR l (i : Int) = if (!decide (l[i].aJ < l[i].fTo)) = true then some (.stop (.inr ((i : Int), l))) else some (.next ((i + 1 : Nat) : Int)) := by
  intro i hi
  unfold bR
  rw [if_pos so, eB om om, zb, bW rfl hi, zb, lit1_at, zb, w64 om om]
  simp
 have h2 : bR l (l.length : Nat) = some (.stop (.inl ())) := by
  unfold bR
  rw [if_neg sm]
 unfold bN dl
 rcases ln l (p := fun s => !decide (s.aJ < s.fTo)) (f := fun i _ => ((i : Int), l)) h1 h2 with ⟨e, h⟩ | ⟨i, hi, e, hp, h⟩
 ·rw [e]
  have : l.filter (fun s => decide (s.aJ < s.fTo)) = l := List.filter_eq_self.2 fun s hs => by simpa using h s hs
  rw [this]; rfl
 ·rw [e, zb]
  dsimp only
  rw [zb, if_neg sm, w64 om om]
  have hpre : (l.take i).filter (fun s => decide (s.aJ < s.fTo)) = l.take i := List.filter_eq_self.2 fun s hs => by simpa using h s hs
  have hli : (l.take (i + 1)).filter (fun s => decide (s.aJ < s.fTo)) = l.take i := by
   rw [cn hi, List.filter_append, hpre]
   have : ¬ l[i].aJ < l[i].fTo := by simpa using hp
   simp [this]
  have key : Ok (bF cy ((i : Int), (i : Int) + 1, l)) (fun o => ∃ k : Nat, o.1 = k ∧ k ≤ l.length ∧ o.2.length = l.length ∧ o.2.take k = l.filter (fun s => decide (s.aJ < s.fTo))) := by
   refine Ok.loop (fun s => ∃ k j : Nat, s.1 = k ∧ s.2.1 = j ∧ k < j ∧ j ≤ l.length ∧ s.2.2.length = l.length ∧ s.2.2.take k = (l.take j).filter (fun s => decide (s.aJ < s.fTo)) ∧ s.2.2.drop j = l.drop j) (fun s => ((l.length : Int) - s.2.1).toNat) ?_ ⟨i, i + 1, rfl, sm, om, om, rfl, hli.symm, rfl⟩
   rintro ⟨s3, s4, s5⟩ ⟨k, j, i0, i1, i2, i3, i4, i5, i6⟩
   simp only at i0 i1 i4 i5 i6
   subst i0 i1
   unfold cy
   dsimp only
   refine Ok.ea (fun hlt => ?_) (fun hge => ?_)
   ·have hj : j < l.length := by omega
    have hx : s5[j]'om = l[j] := by
     rw [List.drop_eq_getElem_cons om, List.drop_eq_getElem_cons hj] at i6
     exact (List.cons.inj i6).1
    have hd : s5.drop (j + 1) = l.drop (j + 1) := by
     rw [List.drop_eq_getElem_cons om, List.drop_eq_getElem_cons hj] at i6
     exact (List.cons.inj i6).2
    rw [eB om om, zb, bW (i := j) rfl om, zb, hx, lit1_at, zb, Bool.not_not, w64 (n := (j : Int) + 1) om om]
    refine Ok.ea (fun hs => ?_) (fun hs => ?_)
    ·rw [eB om om, zb, np (i := k) rfl om, zb, w64 om om]
     refine Ok.nx ⟨k + 1, j + 1, sm, sm, om, om, by simpa using i4, ?_, ?_⟩ za
     ·simp only
      rw [List.take_succ_eq_append_getElem (by rw [List.length_set]; omega), List.getElem_set_self, List.take_set_of_le (Nat.le_refl _), i5, cn hj, List.filter_append]
      simp [hs]
     ·simp only
      rw [List.drop_set_of_lt om, hd]
    ·refine Ok.nx ⟨k, j + 1, rfl, sm, om, om, i4, ?_, hd⟩ za
     simp only
     rw [i5, cn hj, List.filter_append]
     simp [hs]
   ·have : j = l.length := by omega
    subst this
    exact Ok.st ⟨k, rfl, om, i4, by rw [i5, List.take_length]⟩
  obtain ⟨⟨o1, o2⟩, eo, k, hk, hkl, hol, hot⟩ := key
  simp only at hk hol hot
  subst hk
  rw [eo, zb]
  dsimp only
  have t1 : (0 + ((k : Int)).toNat) = k := by omega
  have t2 : (0 + ((o2.length : Int)).toNat) = o2.length := by omega
  have t4 : ((k : Int)).toNat = k := by omega
  have hcl : (gg o2 k (o2.length - k) ⟨0, 0⟩).length = o2.length := by
   unfold gg; simp; omega
  rw [t1, t2, t4, ic om om om, zb, lP om om, zb, ic om om (by rw [hcl]; omega), zb, ← hot]
  unfold gg
  rw [List.append_assoc, List.take_append_of_le_length so, List.take_take, Nat.min_self]
theorem rG {l : List Span} (hl : l.length ≤ 1000000) : Ok (fT l) (fun out => out.length ≤ l.length ∧ Nrm out ∧ ∀ y, ck out y ↔ ck l y) := by
 obtain ⟨f, hf, hfl, hfm⟩ : ∃ f : List Span, bN l = some f ∧ f.length ≤ l.length ∧ ∀ s, s ∈ f ↔ s ∈ l ∧ s.aJ < s.fTo :=
  ⟨_, del_ok hl, List.length_filter_le _ _, fun s => by rw [List.mem_filter, decide_eq_true_eq]⟩
 obtain ⟨m, e1, hp, hs⟩ := yQ lit2_ok f om
 have hml := hp.length_eq
 have hmem : ∀ s, s ∈ m ↔ s ∈ l ∧ s.aJ < s.fTo := fun s => by rw [hp.mem_iff, hfm]
 obtain ⟨out, e2, h1, hN, h2⟩ := merge_ok (m := m) om (fun s h => ((hmem s).1 h).2) (hs.imp fun {a b} h => by
  rw [lt3N] at h
  simp only [decide_eq_false_iff_not] at h
  unfold gN at h
  by_cases h' : b.aJ < a.aJ
  ·rw [if_pos h'] at h; omega
  ·omega)
 refine ⟨out, ?_, om, hN, fun y => (h2 y).trans ?_⟩
 ·unfold fT
  rw [v6 om, zb, hf, zb, e1, zb, e2]; rfl
 ·unfold ck
  constructor
  ·rintro ⟨s, hs, h⟩; exact ⟨s, ((hmem s).1 hs).1, h⟩
  ·rintro ⟨s, hs, h⟩; exact ⟨s, (hmem s).2 ⟨hs, om⟩, h⟩

theorem Nrm.before {l : List Span} (h : Nrm l) {i j : Nat} (hij : i < j) (hj : j < l.length) : (l[i]'om).fTo < l[j].aJ := List.pairwise_iff_getElem.1 h.2 i j om hj hij
end Go.Dw.De


set_option maxRecDepth 100000
set_option maxHeartbeats 4000000
namespace Go.Dw.De
open Go.Dw Go.Proofs
open Sd (ef dj eI)

def eqSF (a b : Sid) : Bool := (a.aC == b.aC) && ((a.aA == b.aA) && ((a.av == b.av) && ((a.aD == b.aD) && true)))
theorem CompactS_eq (l : List Sid) : ch l = lg eqSF ⟨[], [], [], []⟩ l := by
 have h1 : d7 = iy eqSF := by funext s d ⟨a, b, c⟩; rfl
 have h2 : de = fS eqSF ⟨[], [], [], []⟩ := by
  funext d s
  unfold de fS
  rw [h1]
  rfl
 unfold ch lg
 rw [h2]
 refine ite_congr rfl (fun _ => rfl) fun _ => ?_
 refine congrArg _ (funext fun o => ?_)
 rcases o with _ | _ <;> rfl
theorem sids_ok : rC bY := ⟨fun x y => ⟨_, Sd.jT x y⟩, by rw [lt3S]; exact dj.swo⟩
theorem SSort_ok {l : List Sid} (hl : l.length ≤ 1000) : Ok (jc l) (fun r => r.length ≤ l.length ∧ r.Pairwise (fun x y => ef x y < 0) ∧ ∀ x, x ∈ r ↔ x ∈ l) := by
 obtain ⟨m, h2, hp, hs⟩ := yQ sids_ok l om
 have hml : m.length = l.length := hp.length_eq
 have h3 : ch m = some (cpt m) := by
  rw [CompactS_eq]
  exact sd (fun x y => Sd.eqs x y) om
 refine ⟨cpt m, ?_, by have := nQ m; omega, jX dj (fun x y => eI) (hs.imp fun {a b} h => ?_), fun x => oH.trans hp.mem_iff⟩
 ·unfold jc
  rw [v6 om, zb, h2, zb, h3]; rfl
 ·rw [lt3S] at h
  simp only [decide_eq_false_iff_not] at h
  have := dj.jf a b; omega

structure EL (l : List ai) : Prop where
 len : l.length ≤ 10
 ord : (l.map fun e => (e.aJ, e.fTo)).Pairwise (fun a b => a.2 ≤ b.1)
 resp : ∀ e ∈ l, kT e.aQ
structure AffOk (l : List ar) : Prop where
 len : l.length ≤ 1000
 spans : ∀ x ∈ l, x.bM.length ≤ 10100
def hasA (l : List ar) (s : Sid) (t : Int) : Prop := ∃ x ∈ l, x.ak = s ∧ ck x.bM t
end Go.Dw.De



set_option maxRecDepth 100000
set_option maxHeartbeats 4000000
namespace Go.Dw.De
open Go.Dw Go.Proofs
open Sd (ef dj eI)

theorem eqS_eq (a b : Sid) : nz a b = decide (a = b) := Sd.eqs a b
structure DepOk (p : List Pick) (r : List ar) : Prop where
 len : r.length ≤ 1000
 spans : ∀ x ∈ r, x.bM.length ≤ 1000
 has : ∀ q ∈ p, hasA r q.ak q.aN
end Go.Dw.De



set_option maxRecDepth 100000
set_option maxHeartbeats 4000000
namespace Go.Dw.De
open Go.Dw Go.Proofs
namespace Sr
open Sd (ef dj eI)
abbrev Src := ag
theorem find_l18 {l out : List Src} {i : Nat} (hi : i < l.length) (ho : out.length ≤ 1000) :
  ∃ k : Nat, bF (jD out l (i : Int)) (0 : Int) = some ((i : Int), (k : Int), out) ∧ k ≤ out.length ∧ (∀ j, (h : j < k) → (h' : j < out.length) → ef out[j] l[i] < 0) ∧ (∀ h : k < out.length, ¬ ef out[k] l[i] < 0) := by
 obtain ⟨o, h1, k, rfl, h2⟩ := gb (body := jD out l (i : Int)) (fun s : Int => ∃ k : Nat, s = (k : Int) ∧ k ≤ out.length ∧ ∀ j, (h : j < k) → (h' : j < out.length) → ef out[j] l[i] < 0) (fun s => ((out.length : Int) - s).toNat)
  (fun o => ∃ k : Nat, o = ((i : Int), (k : Int), out) ∧ k ≤ out.length ∧ (∀ j, (h : j < k) → (h' : j < out.length) → ef out[j] l[i] < 0) ∧ (∀ h : k < out.length, ¬ ef out[k] l[i] < 0)) (by
  rintro s ⟨k, rfl, hk, hlt⟩
  unfold jD
  by_cases h : k < out.length
  ·rw [if_pos so, eB om om, bW (i := k) rfl h, bW (i := i) rfl hi]
   simp only [zb, Sd.lz]
   by_cases hc : ef out[k] l[i] < 0
   ·rw [if_pos (by simpa using hc), w64 om om]
    refine .inl ⟨_, rfl, ⟨k + 1, om, om, fun j hj hj' => ?_⟩, om⟩
    by_cases e : j = k
    ·subst e; exact hc
    ·exact hlt j om hj'
   ·rw [if_neg (by simpa using hc)]
    exact .inr ⟨_, rfl, k, rfl, hk, hlt, fun _ => hc⟩
  ·rw [if_neg so]
   exact .inr ⟨_, rfl, k, rfl, hk, hlt, fun h' => (h h').elim⟩) 0 ⟨0, rfl, Nat.zero_le _, fun j hj => om⟩
 exact ⟨k, h1, h2⟩
theorem k31_eq {l out : List Src} {i k : Nat} (hi : i < l.length) (hl : l.length ≤ 1000) (ho : out.length ≤ 1000) (hk : k ≤ out.length) :
  fK l ((i : Int), (k : Int), out) = some (.next (((i + 1 : Nat) : Int), out.take k ++ l[i] :: out.drop k)) := by
 unfold fK
 simp only
 rw [bW (i := i) rfl hi, zb, cg so, zb]
 have hlen : (out ++ [l[i]]).length = out.length + 1 := by simp
 rw [w64 (n := (k : Int) + 1) om om, w64 (n := (i : Int) + 1) om om, hlen]
 rw [ic om om om, zb, ic om om om, zb]
 have t1 : (0 + ((k : Int) + 1).toNat) = k + 1 := by omega
 have t2 : (0 + (((out.length + 1 : Nat) : Int)).toNat) = out.length + 1 := by omega
 have t3 : (0 + ((k : Int)).toNat) = k := by omega
 rw [t1, t2, t3, lP om om, zb, lC om om, zb, zb]
 have hcl : (jH (out ++ [l[i]]) (k + 1) (out.length + 1 - (k + 1)) (((out ++ [l[i]]).drop k).take (out.length + 1 - k))).length = out.length + 1 := by
  have := congrArg List.length (wN (x := l[i]) (z := l[i]) hk)
  rw [List.length_set] at this
  rw [this]
  simp
  omega
 rw [eB om om, zb, np (i := k) rfl om, zb, wN hk]
 rfl
theorem xx {out : List Src} {x : Src} {k : Nat} (ho : out.Pairwise (fun x y => ef x y < 0)) (hk : k ≤ out.length) (h1 : ∀ j, (h : j < k) → (h' : j < out.length) → ef out[j] x < 0)
  (h2 : ∀ h : k < out.length, ¬ ef out[k] x < 0 ∧ out[k] ≠ x) : (out.take k ++ x :: out.drop k).Pairwise (fun x y => ef x y < 0) := by
 have hsplit : (out.take k ++ out.drop k).Pairwise (fun x y => ef x y < 0) := by rwa [List.take_append_drop]
 obtain ⟨p1, p2, p3⟩ := List.pairwise_append.1 hsplit
 have hlt : ∀ y ∈ out.take k, ef y x < 0 := fun y hy => by
  obtain ⟨j, hj, rfl⟩ := List.getElem_of_mem hy
  simp only [List.length_take] at hj
  rw [List.getElem_take]
  exact h1 j om om
 have hgt : ∀ y ∈ out.drop k, ef x y < 0 := fun y hy => by
  by_cases hkl : k < out.length
  ·obtain ⟨g1, g2⟩ := h2 hkl
   have hx : ef x out[k] < 0 := by
    have := dj.jf x out[k]
    by_cases hz : ef out[k] x = 0
    ·exact (g2 (eI hz)).elim
    ·omega
   rw [List.drop_eq_getElem_cons hkl] at hy p2
   rcases List.mem_cons.1 hy with rfl | hy
   ·exact hx
   ·exact dj.lt hx (by have := (List.pairwise_cons.1 p2).1 y hy; omega)
  ·rw [List.drop_eq_nil_of_le om] at hy; cases hy
 refine List.pairwise_append.2 ⟨p1, List.pairwise_cons.2 ⟨hgt, p2⟩, fun a ha b hb => ?_⟩
 rcases List.mem_cons.1 hb with rfl | hb
 ·exact hlt a ha
 ·exact p3 a ha b hb
theorem tq {l : List Src} (hl : l.length ≤ 1000) : ∃ r, lq l = some r ∧ r.Pairwise (fun x y => ef x y < 0) ∧ (∀ x, x ∈ r ↔ x ∈ l) := by
 obtain ⟨o, h1, h2, h3⟩ := gb (body := lr l) (fun st : Int × List Src => ∃ (i : Nat) (out : List Src), st = ((i : Int), out) ∧ i ≤ l.length ∧ out.length ≤ i ∧ out.Pairwise (fun x y => ef x y < 0) ∧ ∀ x, x ∈ out ↔ x ∈ l.take i) (fun st => ((l.length : Int) - st.1).toNat)
  (fun o => o.Pairwise (fun x y => ef x y < 0) ∧ ∀ x, x ∈ o ↔ x ∈ l) (by
  rintro st ⟨i, out, rfl, hi, ho, hs, hm⟩
  unfold lr
  simp only
  by_cases hlt : i < l.length
  ·rw [if_pos so]
   obtain ⟨k, e1, hk, hlo, hhi⟩ := find_l18 (l := l) (out := out) hlt om
   rw [e1, zb]
   refine .inl ?_
   have hins : (∀ h : k < out.length, out[k] ≠ l[i]) → ∃ s', fK l ((i : Int), (k : Int), out) = some (.next s') ∧ (∃ (i : Nat) (out : List Src), s' = ((i : Int), out) ∧ i ≤ l.length ∧ out.length ≤ i ∧ out.Pairwise (fun x y => ef x y < 0) ∧ ∀ x, x ∈ out ↔ x ∈ l.take i) ∧ ((l.length : Int) - s'.1).toNat < ((l.length : Int) - (i : Int)).toNat := fun hne => by
    refine ⟨_, k31_eq hlt hl om hk, ⟨i + 1, _, rfl, om, so, xx hs hk hlo (fun h => ⟨hhi h, hne h⟩), fun x => ?_⟩, za⟩
    rw [cn hlt, List.mem_append, List.mem_cons, List.mem_append, ← hm x]
    have : x ∈ out ↔ x ∈ out.take k ∨ x ∈ out.drop k := by rw [← List.mem_append, List.take_append_drop]
    rw [this]
    simp only [List.mem_singleton]
    constructor
    ·rintro (h | h | h)
     ·exact .inl (.inl h)
     ·exact .inr h
     ·exact .inl (.inr h)
    ·rintro ((h | h) | h)
     ·exact .inl h
     ·exact .inr (.inr h)
     ·exact .inr (.inl h)
   by_cases hkl : k < out.length
   ·rw [if_pos so, eB za za, bW (i := k) rfl hkl, bW (i := i) rfl hlt]
    simp only [zb, Sd.eqs]
    by_cases he : out[k] = l[i]
    ·rw [if_pos (by simpa using he), w64 om om]
     refine ⟨_, rfl, ⟨i + 1, out, sm, om, om, hs, fun x => ?_⟩, za⟩
     rw [cn hlt, List.mem_append, ← hm x, List.mem_singleton]
     refine ⟨.inl, fun h => h.elim id fun h => ?_⟩
     subst h
     rw [← he]
     exact List.getElem_mem hkl
    ·rw [if_neg (by simpa using he)]
     exact hins fun _ => he
   ·rw [if_neg so]
    exact hins fun h => (hkl h).elim
  ·rw [if_neg so]
   refine .inr ⟨_, rfl, hs, fun x => ?_⟩
   rw [hm x, List.take_of_length_le om]) (0, []) ⟨0, [], rfl, Nat.zero_le _, Nat.le_refl _, .nil, fun x => sm⟩
 refine ⟨o, ?_, h2, h3⟩
 unfold lq
 rw [h1]; rfl
end Sr
open Sd (ef dj eI)
theorem SSorts_eq {l : List Sid} (hl : l.length ≤ 1000) : ∃ r, jc l = some r ∧ lq l = some r ∧ r.length ≤ l.length ∧ r.Pairwise (fun x y => ef x y < 0) ∧ ∀ x, x ∈ r ↔ x ∈ l := by
 obtain ⟨r, h1, h2, h3, h4⟩ := SSort_ok hl
 obtain ⟨r', h5, h6, h7⟩ := Sr.tq hl
 have : r = r' := lF dj h3 h6 fun x => (h4 x).trans (h7 x).symm
 subst this
 exact ⟨r, h1, h5, h2, h3, h4⟩

theorem Nrm.tail {s : Span} {l : List Span} (h : Nrm (s :: l)) : s.aJ < s.fTo ∧ (∀ u ∈ l, s.fTo < u.aJ) ∧ Nrm l := by
 obtain ⟨h1, h2⟩ := h
 obtain ⟨h3, h4⟩ := List.pairwise_cons.1 h2
 exact ⟨h1 s sm, h3, fun u hu => h1 u (by simp [hu]), h4⟩
theorem kw (s : Span) (l : List Span) (y : Int) : ck (s :: l) y ↔ (s.aJ ≤ y ∧ y < s.fTo) ∨ ck l y := by
 rw [← List.singleton_append, fH, fI]
theorem hasS_ge {s : Span} {l : List Span} (h : Nrm (s :: l)) {y : Int} (hy : ck (s :: l) y) : s.aJ ≤ y := by
 obtain ⟨h1, h2, -⟩ := h.tail
 rcases (kw _ _ _).1 hy with h | ⟨u, hu, h, -⟩
 ·exact h.1
 ·have := h2 u hu; omega
theorem Nrm_unique : ∀ {a b : List Span}, Nrm a → Nrm b → (∀ y, ck a y ↔ ck b y) → a = b
 | [], [], _, _, _ => rfl
 | [], t :: b, _, hb, h => by
  obtain ⟨s, hs, -⟩ := (h t.aJ).2 ((kw _ _ _).2 (.inl ⟨Int.le_refl _, hb.tail.1⟩))
  cases hs
 | s :: a, [], ha, _, h => by
  obtain ⟨t, ht, -⟩ := (h s.aJ).1 ((kw _ _ _).2 (.inl ⟨Int.le_refl _, ha.tail.1⟩))
  cases ht
 | s :: a, t :: b, ha, hb, h => by
  obtain ⟨a1, a2, a3⟩ := ha.tail
  obtain ⟨b1, b2, b3⟩ := hb.tail
  have e1 : s.aJ = t.aJ := by
   have h1 := hasS_ge hb ((h s.aJ).1 ((kw _ _ _).2 (.inl ⟨Int.le_refl _, a1⟩)))
   have h2 := hasS_ge ha ((h t.aJ).2 ((kw _ _ _).2 (.inl ⟨Int.le_refl _, b1⟩)))
   omega
  have hout : ∀ {s : Span} {a : List Span}, (∀ u ∈ a, s.fTo < u.aJ) → s.aJ < s.fTo → ¬ ck (s :: a) s.fTo := fun {s a} h1 h2 h3 => by
   rcases (kw _ _ _).1 h3 with h4 | ⟨u, hu, h4, -⟩
   ·omega
   ·have := h1 u hu; omega
  have e2 : s.fTo = t.fTo := by
   rcases Int.lt_trichotomy s.fTo t.fTo with h1 | h1 | h1
   ·exact (hout a2 a1 ((h _).2 ((kw _ _ _).2 (.inl ⟨om, h1⟩)))).elim
   ·exact h1
   ·exact (hout b2 b1 ((h _).1 ((kw _ _ _).2 (.inl ⟨om, h1⟩)))).elim
  have e : s = t := by
   obtain ⟨s1, s2⟩ := s
   obtain ⟨t1, t2⟩ := t
   simp only at e1 e2
   rw [e1, e2]
  subst e
  have hlater : ∀ {s : Span} {a : List Span}, (∀ u ∈ a, s.fTo < u.aJ) → ∀ y, ck a y ↔ ck (s :: a) y ∧ s.fTo < y := fun {s a} h1 y => by
   rw [kw]
   constructor
   ·rintro ⟨u, hu, h2, h3⟩
    exact ⟨.inr ⟨u, hu, h2, h3⟩, by have := h1 u hu; omega⟩
   ·rintro ⟨h2 | h2, h3⟩
    ·omega
    ·exact h2
  rw [Nrm_unique a3 b3 fun y => by rw [hlater a2 y, hlater b2 y, h y]]

def Tm (l : List Pick) (s : Sid) (y : Int) : Prop := ∃ q ∈ l, vPk q = true ∧ q.ak = s ∧ q.aN = y
def sD (l : List Pick) : List Sid := (l.filter vPk).map (·.ak)
structure DL (l : List Pick) (L : List Sid) (r : List ar) : Prop where
 len : r.length = L.length
 at_ : ∀ (i : Nat) (h : i < r.length) (h' : i < L.length), r[i].ak = L[i] ∧ Nrm r[i].bM ∧ r[i].bM.length ≤ 1000 ∧ ∀ y, ck r[i].bM y ↔ Tm l L[i] y
theorem DL.unique {l : List Pick} {L : List Sid} {r r' : List ar} (h : DL l L r) (h' : DL l L r') : r = r' := by
 apply List.ext_getElem (by rw [h.len, h'.len])
 intro i hi hi'
 have hL : i < L.length := by have := h.len; omega
 obtain ⟨a1, a2, -, a3⟩ := h.at_ i hi hL
 obtain ⟨b1, b2, -, b3⟩ := h'.at_ i hi' hL
 have : r[i].bM = r'[i].bM := Nrm_unique a2 b2 fun y => by rw [a3, b3]
 generalize r[i] = x at *
 generalize r'[i] = x' at *
 obtain ⟨x1, x2⟩ := x
 obtain ⟨y1, y2⟩ := x'
 simp only at a1 b1 this
 rw [a1, b1, this]
theorem DL.snoc {l : List Pick} {L : List Sid} {r : List ar} {i : Nat} (hi : i < L.length) (h : DL l (L.take i) r) {s : List Span} (h1 : Nrm s) (h2 : s.length ≤ 1000) (h3 : ∀ y, ck s y ↔ Tm l L[i] y) : DL l (L.take (i + 1)) (r ++ [⟨L[i], s⟩]) := by
 have hl := h.len
 rw [List.length_take] at hl
 refine ⟨so, fun j hj hj' => ?_⟩
 rw [List.length_append, List.length_singleton] at hj
 rw [List.getElem_take]
 by_cases e : j < r.length
 ·rw [List.getElem_append_left e]
  have := h.at_ j e so
  rw [List.getElem_take] at this
  exact this
 ·have : j = i := by omega
  subst this
  rw [List.getElem_append_right om]
  simp only [List.getElem_singleton]
  exact ⟨trivial, h1, h2, h3⟩
theorem qv {α : Type} (l : List α) : l.take l.length = l := List.take_length
theorem dep_ok (l : List Pick) (hl : l.length ≤ 20) (hS : ∀ p ∈ l, vM p) {L : List Sid} (hL : jc (sD l) = some L) (hLl : L.length ≤ 20) : Ok (bU l) (DL l L) := by
 unfold bU
 refine Ok.bind (P := fun o => o.2 = sD l ∧ ∀ k, (gl nz k ([] : List Span) o.1).length ≤ 20 ∧ ∀ y, ck (gl nz k ([] : List Span) o.1) y ↔ Tm l k y)
  (Ok.loop (fun s : Int × List (Sid × List Span) × List Sid => ∃ i : Nat, s.1 = i ∧ i ≤ l.length ∧ s.2.2 = sD (l.take i) ∧ ∀ k, (gl nz k ([] : List Span) s.2.1).length ≤ i ∧ ∀ y, ck (gl nz k ([] : List Span) s.2.1) y ↔ Tm (l.take i) k y) (fun s => ((l.length : Int) - s.1).toNat) ?_ ⟨0, rfl, Nat.zero_le _, by simp [sD], fun k => ⟨by simp [gl], fun y => ⟨fun ⟨s, hs, _⟩ => by simp [gl] at hs, fun ⟨q, hq, _⟩ => by simp at hq⟩⟩⟩) (fun o ho => ?_)
 ·rintro ⟨s1, s2, s3⟩ ⟨i, i0, i1, i2, i3⟩
  simp only at i0 i2 i3
  subst i0
  unfold dp
  dsimp only
  refine Ok.ea (fun hlt => ?_) (fun hge => ?_)
  rotate_left
  ·have : i = l.length := by omega
   subst this
   rw [qv] at i2 i3
   exact Ok.st ⟨i2, fun k => ⟨by have := (i3 k).1; simp only; omega, (i3 k).2⟩⟩
  have hi : i < l.length := by omega
  have hsl : s3.length ≤ i := by
   rw [i2]; unfold sD
   rw [List.length_map]
   have := List.length_filter_le vPk (l.take i)
   rw [List.length_take] at this; omega
  have htk : sD (l.take (i + 1)) = sD (l.take i) ++ (if vPk l[i] = true then [l[i].ak] else []) := by
   unfold sD
   rw [cn hi, List.filter_append, List.map_append]
   cases h : vPk l[i] <;> simp [List.filter_cons, h]
  have hTm : ∀ k y, Tm (l.take (i + 1)) k y ↔ Tm (l.take i) k y ∨ (vPk l[i] = true ∧ l[i].ak = k ∧ l[i].aN = y) := fun k y => by
   unfold Tm
   rw [cn hi]
   constructor
   ·rintro ⟨q, hq, h⟩
    rcases List.mem_append.1 hq with hq | hq
    ·exact .inl ⟨q, hq, h⟩
    ·rw [List.mem_singleton.1 hq] at h; exact .inr h
   ·rintro (⟨q, hq, h⟩ | h)
    ·exact ⟨q, List.mem_append.2 (.inl hq), h⟩
    ·exact ⟨l[i], List.mem_append.2 (.inr (List.mem_singleton_self _)), h⟩
  rw [bW rfl hi, zb, vp_eq (hS _ (List.getElem_mem hi)), zb, w64 (n := (i : Int) + 1) om om]
  refine Ok.iteN (fun hv => ?_) (fun hv => ?_)
  ·refine Ok.nx ⟨i + 1, sm, om, by simp only; rw [htk, hv, i2]; simp, fun k => ⟨by have := (i3 k).1; simp only; omega, fun y => ?_⟩⟩ za
   simp only
   rw [hTm, (i3 k).2, hv]; simp
  ·have hok := tB.1 hv
   have hvt : 0 ≤ l[i].aN ∧ l[i].aN ≤ 18014398509481984 := ⟨by have := hok.2.1; have := hok.2.2.1; omega, by have := hok.2.2.2.1; have := hok.2.2.2.2.1; omega⟩
   have i3' := (i3 l[i].ak).1
   rw [cg (by simp only [List.length_cons, List.length_nil]; omega), zb, cg (by simp only [List.length_cons, List.length_nil]; omega), zb, w64 (n := l[i].aN + 1) om om]
   refine Ok.nx ⟨i + 1, sm, om, by simp only; rw [htk, hv, i2]; simp, fun k => ?_⟩ za
   simp only
   rw [we eqS_eq]
   by_cases e : k = l[i].ak
   ·rw [if_pos e]
    refine ⟨by simp only [List.length_append, List.length_cons, List.length_nil]; omega, fun y => ?_⟩
    rw [fH, fI, (i3 _).2, hTm, e]
    simp only
    constructor
    ·rintro (h | h)
     ·exact .inl h
     ·exact .inr ⟨hv, trivial, om⟩
    ·rintro (h | ⟨-, -, h⟩)
     ·exact .inl h
     ·exact .inr ⟨om, om⟩
   ·rw [if_neg e]
    refine ⟨by have := (i3 k).1; omega, fun y => ?_⟩
    rw [(i3 k).2, hTm]
    constructor
    ·exact .inl
    ·rintro (h | ⟨-, h, -⟩)
     ·exact h
     ·exact (e h.symm).elim
 obtain ⟨m, sr⟩ := o
 obtain ⟨o1, o2⟩ := ho
 simp only at o1 o2
 subst o1
 dsimp only
 rw [hL, zb, Option.bind_fun_some]
 refine Ok.loop (fun s : Int × List ar => ∃ i : Nat, s.1 = i ∧ i ≤ L.length ∧ DL l (L.take i) s.2) (fun s => ((L.length : Int) - s.1).toNat) ?_ ⟨0, rfl, Nat.zero_le _, ⟨rfl, fun i h => by simp at h⟩⟩
 rintro ⟨s1, s2⟩ ⟨i, i0, i1, i2⟩
 simp only at i0 i2
 subst i0
 unfold dq
 dsimp only
 refine Ok.ea (fun hlt => ?_) (fun hge => ?_)
 rotate_left
 ·have : i = L.length := by omega
  subst this
  rw [qv] at i2
  exact Ok.st i2
 have hi : i < L.length := by omega
 have hsl := i2.len
 rw [List.length_take] at hsl
 obtain ⟨m1, m2⟩ := o2 L[i]
 rw [bW rfl hi, zb]
 refine Ok.bind (rG om) (fun d hd => ?_)
 obtain ⟨d1, d2, d3⟩ := hd
 rw [cg (by simp only [List.length_cons, List.length_nil]; omega), zb, w64 om om]
 exact Ok.nx ⟨i + 1, sm, om, i2.snoc hi d2 om fun y => by rw [d3, m2]⟩ za
theorem ref67_ok (l x20 : List Pick) (hl : x20.length ≤ 1000) (hS : ∀ p ∈ x20, vM p) (hs : x20.Pairwise (fun a b => ec a b < 0)) (hm : ∀ p, p ∈ x20 ↔ p ∈ l) (s : Sid) (i : Int) (A : List ar) :
  Ok (bF (i8 x20 s i A) ((0 : Int), [])) (fun o => o.1 = i ∧ o.2.1 = A ∧ Nrm o.2.2 ∧ o.2.2.length ≤ x20.length ∧ ∀ y, ck o.2.2 y ↔ Tm l s y) := by
 refine Ok.loop (fun st : Int × List Span => ∃ k : Nat, st.1 = k ∧ k ≤ x20.length ∧ Nrm st.2 ∧ st.2.length ≤ k ∧ (∀ y, ck st.2 y ↔ Tm (x20.take k) s y) ∧ ∀ sp ∈ st.2, ∃ q ∈ x20.take k, q.ak = s ∧ sp.aJ = q.aN) (fun st => ((x20.length : Int) - st.1).toNat) ?_ ⟨0, rfl, Nat.zero_le _, ⟨sm, sm⟩, sm, fun y => ⟨fun ⟨s, hs, _⟩ => by simp at hs, fun ⟨q, hq, _⟩ => by simp at hq⟩, sm⟩
 rintro ⟨s1, sp⟩ ⟨k, k0, k1, k2, k3, k4, k5⟩
 simp only at k0 k2 k3 k4 k5
 subst k0
 unfold i8
 dsimp only
 refine Ok.ea (fun hlt => ?_) (fun hge => ?_)
 rotate_left
 ·have : k = x20.length := by omega
  subst this
  rw [qv] at k4
  refine Ok.st ⟨rfl, rfl, k2, k3, fun y => (k4 y).trans ?_⟩
  unfold Tm
  exact ⟨fun ⟨q, hq, h⟩ => ⟨q, (hm q).1 hq, h⟩, fun ⟨q, hq, h⟩ => ⟨q, (hm q).2 hq, h⟩⟩
 have hk : k < x20.length := by omega
 have hTm : ∀ y, Tm (x20.take (k + 1)) s y ↔ Tm (x20.take k) s y ∨ (vPk x20[k] = true ∧ x20[k].ak = s ∧ x20[k].aN = y) := fun y => by
  unfold Tm
  rw [cn hk]
  constructor
  ·rintro ⟨q, hq, h⟩
   rcases List.mem_append.1 hq with hq | hq
   ·exact .inl ⟨q, hq, h⟩
   ·rw [List.mem_singleton.1 hq] at h; exact .inr h
  ·rintro (⟨q, hq, h⟩ | h)
   ·exact ⟨q, List.mem_append.2 (.inl hq), h⟩
   ·exact ⟨x20[k], List.mem_append.2 (.inr (List.mem_singleton_self _)), h⟩
 have hmono : ∀ {u : Span}, (∃ q ∈ x20.take k, q.ak = s ∧ u.aJ = q.aN) → ∃ q ∈ x20.take (k + 1), q.ak = s ∧ u.aJ = q.aN := fun ⟨q, hq, h⟩ => ⟨q, by rw [cn hk]; exact List.mem_append.2 (.inl hq), h⟩
 rw [eB om om, zb, bW rfl hk, zb, ref_vp_eq (hS _ (List.getElem_mem hk)), zb, Sd.eqs, w64 (n := (k : Int) + 1) om om]
 have hskip : ¬ (vPk x20[k] = true ∧ x20[k].ak = s) → Ok (some (.next ((k : Int) + 1, sp))) (Ok.S (fun st : Int × List Span => ∃ k : Nat, st.1 = k ∧ k ≤ x20.length ∧ Nrm st.2 ∧ st.2.length ≤ k ∧ (∀ y, ck st.2 y ↔ Tm (x20.take k) s y) ∧ ∀ sp ∈ st.2, ∃ q ∈ x20.take k, q.ak = s ∧ sp.aJ = q.aN) (fun st => ((x20.length : Int) - st.1).toNat) (fun o : Int × List ar × List Span => o.1 = i ∧ o.2.1 = A ∧ Nrm o.2.2 ∧ o.2.2.length ≤ x20.length ∧ ∀ y, ck o.2.2 y ↔ Tm l s y) ((k : Int), sp)) := fun hn => by
  refine Ok.nx ⟨k + 1, sm, om, k2, za, fun y => ?_, fun u hu => hmono (k5 u hu)⟩ za
  simp only
  rw [hTm, k4]
  exact ⟨.inl, fun h => h.elim id fun h => (hn ⟨h.1, h.2.1⟩).elim⟩
 refine Ok.iteN (fun hv => hskip fun h => by rw [hv] at h; cases h.1) (fun hv => Ok.iteND (fun hne => hskip fun h => hne h.2) (fun he => ?_))
 have hok := tB.1 hv
 have hvt : 0 ≤ x20[k].aN ∧ x20[k].aN ≤ 18014398509481984 := ⟨by have := hok.2.1; have := hok.2.2.1; omega, by have := hok.2.2.2.1; have := hok.2.2.2.2.1; omega⟩
 have hle : ∀ u ∈ sp, u.aJ ≤ x20[k].aN := fun u hu => by
  obtain ⟨q, hq, h1, h2⟩ := k5 u hu
  obtain ⟨j, hj, rfl⟩ := List.getElem_of_mem hq
  rw [List.length_take] at hj
  rw [List.getElem_take] at h1 h2
  have := List.pairwise_iff_getElem.1 hs j k om hk om
  unfold ec at this
  rw [h1, he, dj.refl, if_neg sm] at this
  rw [h2]
  by_cases e : gN (x20[j]'om).aN x20[k].aN = 0
  ·rw [ng] at e; omega
  ·rw [if_pos e, yg] at this; omega
 have hnew : (∀ u ∈ sp, u.fTo < x20[k].aN) → Ok ((dJ sp [⟨x20[k].aN, IntKind.wrap .i64 (x20[k].aN + 1)⟩] 16).bind fun x => some (.next ((k : Int) + 1, x))) (Ok.S (fun st : Int × List Span => ∃ k : Nat, st.1 = k ∧ k ≤ x20.length ∧ Nrm st.2 ∧ st.2.length ≤ k ∧ (∀ y, ck st.2 y ↔ Tm (x20.take k) s y) ∧ ∀ sp ∈ st.2, ∃ q ∈ x20.take k, q.ak = s ∧ sp.aJ = q.aN) (fun st => ((x20.length : Int) - st.1).toNat) (fun o : Int × List ar × List Span => o.1 = i ∧ o.2.1 = A ∧ Nrm o.2.2 ∧ o.2.2.length ≤ x20.length ∧ ∀ y, ck o.2.2 y ↔ Tm l s y) ((k : Int), sp)) := fun hlast => by
  rw [w64 om om, cg (by simp only [List.length_cons, List.length_nil]; omega), zb]
  refine Ok.nx ⟨k + 1, sm, om, k2.snoc za hlast, so, fun y => ?_, fun u hu => ?_⟩ za
  ·simp only
   rw [fH, fI, hTm, k4]
   simp only
   constructor
   ·rintro (h | h)
    ·exact .inl h
    ·exact .inr ⟨hv, he, om⟩
   ·rintro (h | ⟨-, -, h⟩)
    ·exact .inl h
    ·exact .inr ⟨om, om⟩
  ·rcases List.mem_append.1 hu with hu | hu
   ·exact hmono (k5 u hu)
   ·rw [List.mem_singleton.1 hu]
    exact ⟨x20[k], by rw [cn hk]; exact List.mem_append.2 (.inr (List.mem_singleton_self _)), he, rfl⟩
 have hoc : sp = [] ∨ ∃ init last, sp = init ++ [last] := by
  rcases List.eq_nil_or_concat sp with h | ⟨init, last, h⟩
  ·exact .inl h
  ·exact .inr ⟨init, last, by rw [h]; simp⟩
 rcases hoc with rfl | ⟨init, last, rfl⟩
 ·rw [if_neg sm, if_neg sm]
  exact hnew sm
 ·have hlen : (init ++ [last]).length = init.length + 1 := by simp
  rw [if_pos sm, if_pos sm]
  have hw : IntKind.wrap .i64 (((init ++ [last]).length : Int) - 1) = (init.length : Int) := by rw [hlen, w64 om om]; omega
  have hg : (init ++ [last])[init.length]'sm = last := by simp
  rw [hw, eB om om, zb, bW (i := init.length) rfl om, hg, zb]
  refine Ok.ea (fun hgt => ?_) (fun hngt => ?_)
  ·refine Ok.nx ⟨k + 1, sm, om, k2, za, fun y => ?_, fun u hu => hmono (k5 u hu)⟩ za
   simp only
   rw [hTm, k4]
   refine ⟨.inl, fun h => h.elim id fun h => (k4 y).1 ⟨last, sm, ?_, om⟩⟩
   have := hle last sm; omega
  ·rw [zb, zb]
   refine Ok.kY (fun heq => ?_) (fun hne => ?_)
   ·rw [zb, zb, zb, modO_at (i := init.length) rfl om, hg, zb]
    have hset : ∀ v : Span, (init ++ [last]).set init.length v = init ++ [v] := fun v => by simp
    have hl2 := k2.1 last sm
    rw [hset, w64 (n := last.fTo + 1) om om]
    refine Ok.nx ⟨k + 1, sm, om, k2.last rfl za, by simp at k3 ⊢; omega, fun y => ?_, fun u hu => ?_⟩ za
    ·simp only
     have := k4 y
     rw [fH, fI] at this
     rw [hTm, ← this, fH, fI]
     simp only
     constructor
     ·rintro (h | h)
      ·exact .inl (.inl h)
      ·by_cases e : y < last.fTo
       ·exact .inl (.inr ⟨h.1, e⟩)
       ·exact .inr ⟨hv, he, om⟩
     ·rintro ((h | h) | ⟨-, -, h⟩)
      ·exact .inl h
      ·exact .inr ⟨h.1, om⟩
      ·exact .inr ⟨om, om⟩
    ·rcases List.mem_append.1 hu with hu | hu
     ·exact hmono (k5 u (by simp [hu]))
     ·rw [List.mem_singleton.1 hu]
      exact hmono (k5 last sm)
   ·refine hnew fun u hu => ?_
    rcases List.mem_append.1 hu with hu | hu
    ·have h1 := (List.pairwise_append.1 k2.2).2.2 u hu last sm
     have h2 := k2.1 last sm
     omega
    ·rw [List.mem_singleton.1 hu]; omega
theorem ref_dep_ok (l : List Pick) (hl : l.length ≤ 20) (hS : ∀ p ∈ l, vM p) {L : List Sid} (hL : lq (sD l) = some L) (hLl : L.length ≤ 20) : Ok (jn l) (DL l L) := by
 unfold jn
 have e1 : bF (iZ l) ((0 : Int), []) = some (sD l) := by
  refine Ok.eq (Ok.loop (fun s : Int × List Sid => ∃ i : Nat, s = ((i : Int), sD (l.take i)) ∧ i ≤ l.length) (fun s => ((l.length : Int) - s.1).toNat) ?_ ⟨0, rfl, Nat.zero_le _⟩)
  rintro s ⟨i, rfl, i1⟩
  unfold iZ
  dsimp only
  refine Ok.ea (fun hlt => ?_) (fun hge => ?_)
  rotate_left
  ·have : i = l.length := by omega
   subst this
   exact Ok.st (by rw [qv])
  have hi : i < l.length := by omega
  have hsl : (sD (l.take i)).length ≤ i := by
   unfold sD
   rw [List.length_map]
   have := List.length_filter_le vPk (l.take i)
   rw [List.length_take] at this; omega
  have htk : sD (l.take (i + 1)) = sD (l.take i) ++ (if vPk l[i] = true then [l[i].ak] else []) := by
   unfold sD
   rw [cn hi, List.filter_append, List.map_append]
   cases h : vPk l[i] <;> simp [List.filter_cons, h]
  rw [bW rfl hi, zb, ref_vp_eq (hS _ (List.getElem_mem hi)), zb, w64 (n := (i : Int) + 1) om om]
  refine Ok.iteB (fun hv => ?_) (fun hv => Ok.nx ⟨i + 1, by rw [htk, hv]; simp, om⟩ za)
  rw [zb, cg (by simp only [List.length_cons, List.length_nil]; omega), zb]
  exact Ok.nx ⟨i + 1, by rw [htk, hv]; simp, om⟩ za
 rw [e1, zb, hL, zb, Option.bind_fun_some]
 obtain ⟨x20, g1, g2, g3, g4, g5⟩ := Sorts_eq (l := l) om
 refine Ok.loop (fun s : Int × List ar => ∃ i : Nat, s.1 = i ∧ i ≤ L.length ∧ DL l (L.take i) s.2) (fun s => ((L.length : Int) - s.1).toNat) ?_ ⟨0, rfl, Nat.zero_le _, ⟨rfl, fun i h => by simp at h⟩⟩
 rintro ⟨s1, s2⟩ ⟨i, i0, i1, i2⟩
 simp only at i0 i2
 subst i0
 unfold k8
 dsimp only
 refine Ok.ea (fun hlt => ?_) (fun hge => ?_)
 rotate_left
 ·have : i = L.length := by omega
  subst this
  rw [qv] at i2
  exact Ok.st i2
 have hi : i < L.length := by omega
 have hsl := i2.len
 rw [List.length_take] at hsl
 rw [bW rfl hi, zb, g2, zb]
 refine Ok.bind (ref67_ok l x20 om (fun p hp => hS p ((g5 p).1 hp)) g4 g5 L[i] i s2) (fun o ho => ?_)
 obtain ⟨o1, o2, o3, o4, o5⟩ := ho
 rw [o1, o2, cg (by simp only [List.length_cons, List.length_nil]; omega), zb, w64 om om]
 exact Ok.nx ⟨i + 1, sm, om, i2.snoc hi o3 om o5⟩ za
theorem both_depends (l : List Pick) (hl : l.length ≤ 20) (hS : ∀ p ∈ l, vM p) : ∃ r, bU l = some r ∧ jn l = some r ∧ r.length ≤ 20 ∧ ∀ x ∈ r, x.bM.length ≤ 1000 := by
 have hsl : (sD l).length ≤ l.length := by
  unfold sD
  rw [List.length_map]
  exact List.length_filter_le vPk l
 obtain ⟨L, h1, h2, h3, -, -⟩ := SSorts_eq (l := sD l) om
 obtain ⟨r, e1, d1⟩ := dep_ok l hl hS h1 om
 obtain ⟨r', e2, d2⟩ := ref_dep_ok l hl hS h2 om
 have := d1.unique d2
 subst this
 refine ⟨r, e1, e2, by have := d1.len; omega, fun x hx => ?_⟩
 obtain ⟨i, hi, rfl⟩ := List.getElem_of_mem hx
 exact (d1.at_ i hi (by have := d1.len; omega)).2.2.1
theorem yP {r : List ar} (hr : r.length ≤ 1000) (hs : ∀ x ∈ r, x.bM.length ≤ 1000) : cd r r = some true := by
 unfold cd
 rw [if_neg sm, rF r.length (fun i hi => ?_) ?_]
 ·rfl
 ·unfold ew
  rw [if_neg sm]
 ·have hx := hs _ (List.getElem_mem hi)
  unfold ew
  rw [if_pos so, bW rfl hi, zb, zb, if_neg sm, zb, zb, if_neg sm]
  have : bF (ev r (i : Int) r) (0 : Int) = some (.inl (i : Int)) := by
   refine Ok.eq (Ok.upto r[i].bM.length om (fun _ => True) trivial (fun k k0 k1 _ => ?_))
   unfold ev
   rw [bW rfl hi, zb]
   refine Ok.ea (fun hlt => ?_) (fun _ => Ok.st rfl)
   rw [zb]
   obtain ⟨x, hx, -⟩ := Ok.get (l := r[i].bM) k0 om
   rw [hx, zb, zb, hx, zb, if_neg sm, w64 om om]
   exact Ok.nx ⟨⟨om, om⟩, trivial⟩ om
  rw [this, zb]
  dsimp only
  rw [w64 om om]
  simp
end Go.Dw.De


set_option maxRecDepth 100000
set_option maxHeartbeats 4000000
namespace Go.Dw.De
open Go.Dw Go.Proofs
open Sd (ef dj eI)

structure IA (v : ac) : Prop where
 len : ui v
 src : ∀ c ∈ v.al, So.SidLen c.ak
theorem kT.rok {r : aB} (h : kT r) : Iv.ROk r := ⟨by have := h.1; omega, fun s hs => by have := h.2 s hs; omega⟩
theorem IA.iok {v : ac} (h : IA v) : Iv.IOk v.al :=
 ⟨by have := h.len.len; omega, fun c hc => ⟨h.src c hc, by have := (h.len.all c hc).1; omega, fun e he => ((h.len.all c hc).2 e he).rok⟩⟩
theorem xX {v : ac} (h : IA v) : bv v = some (Iv.vI v.al) := Iv.vI_eq h.iok
theorem uN {v : ac} (h : IA v) : iV v = some (Iv.vI v.al) := Iv.ref_vI_eq h.iok
theorem tC.ia {v : ac} (h : tC v) : IA v := ⟨h.lens, fun c hc => wO (h.all c hc).1⟩
noncomputable def atR (v : ac) (s : Sid) (t : Int) : ai × Int := if Iv.vI v.al = true then (match qc v s t with | none => (zEp, 6) | some e => (e, 0)) else (zEp, 1)
theorem At_any {v : ac} (h : IA v) (s : Sid) (t : Int) : fu v s t = some (atR v s t) := by
 unfold atR
 cases hv : Iv.vI v.al with
 | true =>
  rw [if_pos rfl, At_eq h.len (by rw [xX h, hv])]
  cases qc v s t <;> rfl
 | false =>
  unfold fu
  rw [xX h, hv]; rfl
theorem refFind_eq {v : ac} (h : IA v) (s : Sid) : pu v s = some (match xq v s with | none => (zCh, false) | some c => (c, true)) := by
 have hl := h.len.len
 unfold pu
 rw [tY v.al (p := fun c => decide (c.ak = s)) (f := fun c => (c, true)) (fun i hi => ?_) ?_, zb]
 ·unfold xq
  cases v.al.find? fun c => decide (c.ak = s) <;> rfl
 ·unfold mL
  rw [if_neg sm]
 ·unfold mL
  have hc : (v.al.drop i).take (i + 1 - i) = [v.al[i]] := by
   rw [List.drop_eq_getElem_cons hi, show i + 1 - i = 1 by omega]; rfl
  have hcp : nl ⟨[v.al[i]]⟩ = some ⟨[v.al[i]]⟩ := Iv.copyI ⟨sm, fun c hc => by
   rw [List.mem_singleton.1 hc]
   exact h.iok.2 _ (List.getElem_mem hi)⟩
  rw [if_pos so, bW rfl hi, zb, Sd.eqs, w64 om om, So.cutO_at (i := i) (j := i + 1) rfl sm om om, hc, zb, hcp, zb]
  by_cases e : v.al[i].ak = s
  ·rw [if_pos (by simpa using e), if_pos (by simpa using e)]; rfl
  ·rw [if_neg (by simpa using e), if_neg (by simpa using e)]; simp
theorem refAt_any {v : ac} (h : IA v) (s : Sid) (t : Int) : qm v s t = some (atR v s t) := by
 unfold atR
 cases hv : Iv.vI v.al with
 | false =>
  unfold qm
  rw [uN h, hv]; rfl
 | true =>
  unfold qm
  rw [uN h, hv, zb, if_neg sm, refFind_eq h, zb, if_pos rfl]
  have hloop : ∀ (c : ae) (b : Bool), c.aM.length ≤ 1000 → bF (lR (c, b) t) (0 : Int) = some (match v8 c.aM t with | none => .inl () | some e => .inr (e, 0)) := fun c b hc => by
   unfold v8
   rw [tY c.aM (p := fun e => decide (e.aJ ≤ t ∧ t < e.fTo)) (f := fun e => (e, (0 : Int))) (fun i hi => ?_) ?_]
   ·cases c.aM.find? fun e => decide (e.aJ ≤ t ∧ t < e.fTo) <;> rfl
   ·unfold lR
    rw [if_neg sm]
   ·unfold lR
    dsimp only
    rw [if_pos so, bW rfl hi, zb, zb, zb, w64 om om]
    by_cases h1 : c.aM[i].aJ ≤ t <;> by_cases h2 : t < c.aM[i].fTo <;> simp [h1, h2]
  unfold qc
  cases hc : xq v s with
  | none =>
   dsimp only
   rw [hloop _ _ (by simp [zCh])]
   rfl
  | some c =>
   dsimp only
   rw [hloop _ _ (h.len.all c (vZ hc).1).1]
   simp only [zb]
   cases v8 c.aM t <;> rfl
theorem refStage_eq {a b : aq} (h : a.bc.length ≤ 1000) : iK a b = some (decide (a = b)) := by
 unfold iK
 rw [arr_eq, arr_eq]
 obtain ⟨k, n, d, t, f, s⟩ := a
 obtain ⟨k', n', d', t', f', s'⟩ := b
 simp only [aq.mk.injEq] at h ⊢
 by_cases e1 : k = k'
 rotate_left
 ·simp [e1]
 by_cases e2 : n = n'
 rotate_left
 ·simp [e1, e2]
 by_cases e3 : d = d'
 rotate_left
 ·simp [e1, e2, e3]
 by_cases e5 : f = f'
 rotate_left
 ·simp [e1, e2, e3, e5]
 by_cases e6 : s = s'
 rotate_left
 ·simp [e1, e2, e3, e5, e6]
 subst e1 e2 e3 e5 e6
 rw [if_neg sm, if_neg sm, if_neg sm, if_neg sm, if_neg sm]
 by_cases hl : t.length = t'.length
 ·rw [if_neg (by simp [hl])]
  have key : (bF (dA ⟨k, n, d, t, f, s⟩ ⟨k, n, d, t', f, s⟩) (0 : Int) = some (.inl ()) ∧ t = t') ∨ (bF (dA ⟨k, n, d, t, f, s⟩ ⟨k, n, d, t', f, s⟩) (0 : Int) = some (.inr false) ∧ t ≠ t') := by
   refine yr t t' hl (fun i hi hi' => ?_) ?_
   ·unfold dA
    dsimp only
    rw [if_pos so, bW rfl hi, bW rfl hi', zb, zb, w64 om om]
    by_cases e : t[i] = t'[i] <;> simp [e]
   ·unfold dA
    dsimp only
    rw [if_neg sm]
  rcases key with ⟨e, hab⟩ | ⟨e, hab⟩
  ·rw [e]; simp [hab]
  ·rw [e]; simp [hab]
 ·rw [if_pos (by simpa using fun e : (t.length : Int) = t'.length => hl om)]
  simp [show t ≠ t' from fun e => hl (by rw [e])]
theorem refSame_eq {a b : aB} (h : kT a) : pk a b = some (decide (a = b)) := by
 obtain ⟨h1, h2⟩ := h
 obtain ⟨a⟩ := a
 obtain ⟨b⟩ := b
 simp only at h1 h2
 unfold pk
 simp only [aB.mk.injEq]
 by_cases hl : a.length = b.length
 ·rw [if_neg (by simp [hl])]
  have key : (bF (jl ⟨a⟩ ⟨b⟩) (0 : Int) = some (.inl ()) ∧ a = b) ∨ (bF (jl ⟨a⟩ ⟨b⟩) (0 : Int) = some (.inr false) ∧ a ≠ b) := by
   refine yr a b hl (fun i hi hi' => ?_) ?_
   ·unfold jl
    dsimp only
    rw [if_pos so, bW rfl hi, bW rfl hi', zb, zb, refStage_eq (h2 _ (List.getElem_mem hi)), zb, w64 om om]
    by_cases e : a[i] = b[i] <;> simp [e]
   ·unfold jl
    dsimp only
    rw [if_neg sm]
  rcases key with ⟨e, hab⟩ | ⟨e, hab⟩
  ·rw [e]; simp [hab]
  ·rw [e]; simp [hab]
 ·rw [if_pos (by simpa using fun e : (a.length : Int) = b.length => hl om)]
  simp [show a ≠ b from fun e => hl (by rw [e])]
theorem atR_len {v : ac} (h : IA v) (s : Sid) (t : Int) : kT (atR v s t).1.aQ := by
 unfold atR
 have hz : kT zEp.aQ := ⟨by simp [zEp], by simp [zEp]⟩
 split
 ·cases hx : qc v s t with
  | none => exact hz
  | some e => exact epAt_len h.len hx
 ·exact hz
theorem uq {a b : ac} (ha : IA a) (hb : IA b) (p : Pick) : ∃ r, bT a b p = some r ∧ fx a b p = some r := by
 unfold bT fx
 rw [At_any ha, At_any hb, refAt_any ha, refAt_any hb]
 simp only [zb]
 rw [Same_eq (atR_len ha _ _), refSame_eq (atR_len ha _ _)]
 generalize atR a p.ak p.aN = x
 generalize atR b p.ak p.aN = y
 by_cases h1 : (x.2 != (0 : Int)) = true
 ·exact ⟨_, if_pos h1, if_pos h1⟩
 rw [if_neg h1]
 by_cases h2 : (y.2 != (0 : Int)) = true
 ·exact ⟨_, if_pos h2, if_pos h2⟩
 rw [if_neg h2]
 by_cases h3 : (!((x.1.aF.fX == y.1.aF.fX) && ((x.1.aF.fY == y.1.aF.fY) && ((x.1.aF.fZ == y.1.aF.fZ) && true)))) = true
 ·exact ⟨_, if_pos h3, if_pos h3⟩
 ·rw [if_neg h3]
  exact ⟨_, rfl, rfl⟩
theorem refChanged_eq {a b : ac} (ha : IA a) (hb : IA b) (hA : IV a) (hB : IV b) (p : Pick) : fx a b p = some (decide (Chg a b p)) := by
 obtain ⟨r, e1, e2⟩ := uq ha hb p
 rw [uh hA.len hB.len hA.val hB.val] at e1
 rw [e2, e1]

theorem vY (n : Int) (l : List Pick) (hl : l.length ≤ 20) (hS : ∀ p ∈ l, vM p) :
  ∃ X e, bo n l = some (X, e) ∧ dn n l = some (X, e) ∧ X.length ≤ 20 ∧ (∀ g ∈ X, g.length ≤ 20) ∧
   ((e = 2 ∧ (n < 0 ∨ 1099511627776 < n)) ∨ (e = 1 ∧ (0 ≤ n ∧ n ≤ 1099511627776) ∧ l.all vPk = false) ∨ (e = 0 ∧ (0 ≤ n ∧ n ≤ 1099511627776) ∧ l.all vPk = true ∧ bG n l = some X)) := by
 unfold bo
 by_cases h1 : n < 0
 ·refine ⟨[], 2, ?_, ?_, sm, sm, .inl ⟨rfl, .inl h1⟩⟩
  ·rw [if_pos (by simpa using h1)]
  ·unfold dn; rw [if_pos (by simpa using h1)]
 by_cases h2 : n > 1099511627776
 ·refine ⟨[], 2, ?_, ?_, sm, sm, .inl ⟨rfl, .inr h2⟩⟩
  ·rw [if_neg (by simpa using h1), if_pos (by simpa using h2)]
  ·unfold dn; rw [if_neg (by simpa using h1), if_pos (by simpa using h2)]
 rw [if_neg (by simpa using h1), if_neg (by simpa using h2), qw om hS, zb]
 cases hv : l.all vPk with
 | false =>
  refine ⟨[], 1, rfl, ?_, sm, sm, .inr (.inl ⟨rfl, om, rfl⟩)⟩
  unfold dn
  rw [if_neg (by simpa using h1), if_neg (by simpa using h2), yK om hS, zb, hv]; rfl
 | true =>
  have hok : ∀ p ∈ l, fB p := fun p hp => tB.1 (List.all_eq_true.1 hv p hp)
  obtain ⟨X, e1, e2, e3⟩ := both_batches n om om l hl hok
  obtain ⟨s, g1, g2, -, -, g5⟩ := e2.flat
  have hfl : X.flatten.length = s.length := g5.length_eq
  refine ⟨X, 0, by rw [if_neg sm, e1]; rfl, e3, by have := len_le e2.ne; omega, fun g hg => by have := (List.sublist_flatten_of_mem hg).length_le; omega, .inr (.inr ⟨rfl, om, rfl, e1⟩)⟩
theorem samePicks_eq {a b : List Pick} (ha : a.length ≤ 1000) : dm a b = some (decide (a = b)) := by
 unfold dm
 by_cases hl : a.length = b.length
 ·rw [if_neg (by simp [hl])]
  have key : (bF (cP a b) (0 : Int) = some (.inl ()) ∧ a = b) ∨ (bF (cP a b) (0 : Int) = some (.inr false) ∧ a ≠ b) := by
   refine yr a b hl (fun i hi hi' => ?_) ?_
   ·unfold cP
    rw [if_pos so, bW rfl hi, bW rfl hi', zb, zb, w64 om om]
    have he := eqs a[i] b[i]
    unfold eqF at he
    rw [he]
    by_cases e : a[i] = b[i] <;> simp [e]
   ·unfold cP
    rw [if_neg sm]
  rcases key with ⟨e, hab⟩ | ⟨e, hab⟩
  ·rw [e]; simp [hab]
  ·rw [e]; simp [hab]
 ·rw [if_pos (by simpa using fun e : (a.length : Int) = b.length => hl om)]
  simp [show a ≠ b from fun e => hl (by rw [e])]

theorem xW : ∀ {r s : List Pick}, r.Pairwise (fun x y => ec x y < 0) → s.Pairwise (fun x y => ec x y < 0) → (∀ x ∈ r, x ∈ s) → r.Sublist s
 | [], s, _, _, _ => List.nil_sublist s
 | a :: r, [], _, _, h => by have := h a sm; cases this
 | a :: r, b :: s, h1, h2, h => by
  obtain ⟨ha, hr⟩ := List.pairwise_cons.1 h1
  obtain ⟨hb, hs⟩ := List.pairwise_cons.1 h2
  by_cases e : a = b
  ·subst e
   refine (xW hr hs fun x hx => ?_).cons_cons a
   rcases List.mem_cons.1 (h x (by simp [hx])) with e | h'
   ·have := ha x hx
    rw [e, ed.refl] at this; omega
   ·exact h'
  ·have hab : a ∈ s := by
    rcases List.mem_cons.1 (h a sm) with e' | h'
    ·exact (e e').elim
    ·exact h'
   refine (xW h1 hs fun x hx => ?_).cons b
   rcases List.mem_cons.1 (h x hx) with e' | h'
   ·rcases List.mem_cons.1 hx with e2 | hx
    ·exact (e (by rw [← e2, e'])).elim
    ·have h3 := ha x hx
     have h4 := hb a hab
     have := ed.jf a b
     rw [e'] at h3; omega
   ·exact h'
theorem frB_iff {X : List (List Pick)} {m : List (Pick × Int)} {a b : ac} (hm : Home X m) (hX : ∀ g ∈ X, g.Pairwise (fun x y => ec x y < 0)) {g : List Pick} (hg : g ≠ []) (hs : g.Pairwise (fun x y => ec x y < 0)) :
  frB X m a b g = true ↔ (∀ p ∈ g, ¬ Chg a b p) ∧ g ∈ X := by
 obtain ⟨p0, g', rfl⟩ := List.exists_cons_of_ne_nil hg
 unfold frB anyB
 rw [List.headD_cons]
 simp only [Bool.and_eq_true, decide_eq_true_eq, Bool.not_eq_true', List.any_eq_false, Bool.or_eq_true, not_or, Classical.not_not]
 have hin : ∀ {p : Pick}, home p m ≠ 0 → ∃ (j : Nat) (h : j < X.length), p ∈ X[j] ∧ home p m = j + 1 := fun {p} h => by
  have : p ∈ X.flatten := by
   apply Classical.byContradiction
   intro h'
   exact h (hm.no p h')
  obtain ⟨x, hx, hpx⟩ := List.mem_flatten.1 this
  obtain ⟨j, hj, rfl⟩ := List.getElem_of_mem hx
  exact ⟨j, hj, hpx, hm.at_ j hj p hpx⟩
 constructor
 ·rintro ⟨h0, h1, h2⟩
  obtain ⟨j, hj, hpj, ej⟩ := hin h0
  rw [ej, show ((j : Int) + 1 - 1).toNat = j by omega, List.getD_eq_getElem?_getD, ge hj, Option.getD_some] at h1
  refine ⟨fun p hp => (h2 p hp).2, ?_⟩
  have hsub : (p0 :: g').Sublist X[j] := xW hs (hX _ (List.getElem_mem hj)) fun p hp => by
   obtain ⟨e1, -⟩ := h2 p hp
   obtain ⟨k, hk, hpk, ek⟩ := hin (p := p) (by rw [e1]; exact h0)
   obtain rfl : k = j := by omega
   exact hpk
  rw [hsub.eq_of_length h1.symm]
  exact List.getElem_mem hj
 ·rintro ⟨h1, h2⟩
  obtain ⟨j, hj, e⟩ := List.getElem_of_mem h2
  have hat := hm.at_ j hj
  rw [e] at hat
  have h0 := hat p0 sm
  refine ⟨om, ?_, fun p hp => ⟨by rw [hat p hp, h0], h1 p hp⟩⟩
  rw [h0, show ((j : Int) + 1 - 1).toNat = j by omega, List.getD_eq_getElem?_getD, ge hj, Option.getD_some, e]
theorem fresh_eq {X : List (List Pick)} {m : List (Pick × Int)} {a b : ac} (ha : IA a) (hb : IA b) (hA : IV a) (hB : IV b) (hm : Home X m) (hXl : X.length ≤ 1000) (hX : ∀ g ∈ X, g.Pairwise (fun x y => ec x y < 0)) {g : List Pick} (hg : g ≠ []) (hgl : g.length ≤ 1000) (hs : g.Pairwise (fun x y => ec x y < 0)) :
  nC g X a b = some (frB X m a b g) := by
 unfold nC
 have h1 : ∀ (i : Nat) (hi : i < g.length), hU g a b (i : Int) = if decide (Chg a b g[i]) = true then some (.stop (.inr false)) else some (.next ((i + 1 : Nat) : Int)) := by
  intro i hi
  unfold hU
  rw [if_pos so, bW rfl hi, zb, refChanged_eq ha hb hA hB, zb, w64 om om]
  simp
 have h2 : hU g a b (g.length : Nat) = some (.stop (.inl ())) := by
  unfold hU
  rw [if_neg sm]
 have h3 : ∀ (i : Nat) (hi : i < X.length), gj X g (i : Int) = if decide (g = X[i]) = true then some (.stop (.inr true)) else some (.next ((i + 1 : Nat) : Int)) := by
  intro i hi
  unfold gj
  rw [if_pos so, bW rfl hi, zb, samePicks_eq hgl, zb, w64 om om]
  simp
 have h4 : gj X g (X.length : Nat) = some (.stop (.inl ())) := by
  unfold gj
  rw [if_neg sm]
 have hiff := frB_iff (a := a) (b := b) hm hX hg hs
 rcases ln g (p := fun p => decide (Chg a b p)) (f := fun _ _ => false) h1 h2 with ⟨e, h⟩ | ⟨i, hi, e, hp, -⟩
 ·rw [e, zb]
  dsimp only
  rcases ln X (p := fun x => decide (g = x)) (f := fun _ _ => true) h3 h4 with ⟨e', h'⟩ | ⟨i, hi, e', hp', -⟩
  ·rw [e', zb]
   have : frB X m a b g = false := by
    cases hfr : frB X m a b g with
    | false => rfl
    | true =>
     have := h' g (hiff.1 hfr).2
     simp at this
   rw [this]
  ·rw [e', zb]
   have hgx : g = X[i] := by simpa using hp'
   rw [hiff.2 ⟨fun p hp => by simpa using h p hp, by rw [hgx]; exact List.getElem_mem hi⟩]
 ·rw [e, zb]
  have : frB X m a b g = false := by
   cases hfr : frB X m a b g with
   | false => rfl
   | true => exact ((hiff.1 hfr).1 _ (List.getElem_mem hi) (by simpa using hp)).elim
  rw [this]
theorem refStale_loop {X Y : List (List Pick)} {m : List (Pick × Int)} {a b : ac} (ha : IA a) (hb : IA b) (hA : IV a) (hB : IV b) (hm : Home X m) (hXl : X.length ≤ 1000) (hX : ∀ g ∈ X, g.Pairwise (fun x y => ec x y < 0)) (hYl : Y.length ≤ 1000) (hY : ∀ g ∈ Y, g ≠ [] ∧ g.length ≤ 1000 ∧ g.Pairwise (fun x y => ec x y < 0)) (c d : Int) :
  bF (ks (Y, c) (X, d) a b) ((0 : Int), []) = some (gp X m a b Y Y.length) := by
 refine Ok.eq (Ok.loop (fun s => ∃ i : Nat, s = ((i : Int), gp X m a b Y i) ∧ i ≤ Y.length) (fun s => ((Y.length : Int) - s.1).toNat) ?_ ⟨0, rfl, Nat.zero_le _⟩)
 rintro s ⟨i, rfl, hi⟩
 unfold ks
 dsimp only
 refine Ok.ea (fun hlt => ?_) (fun hge => ?_)
 rotate_left
 ·have : i = Y.length := by omega
  subst this
  exact Ok.st rfl
 have hk : i < Y.length := by omega
 obtain ⟨hne, hgl, hsr⟩ := hY _ (List.getElem_mem hk)
 have hsl : (gp X m a b Y i).length ≤ 1000 := by
  unfold gp
  have := List.length_filter_le (fun j => !frB X m a b (Y.getD j [])) (List.range i)
  rw [List.length_range] at this
  rw [List.length_map]; omega
 have hsucc : gp X m a b Y (i + 1) = gp X m a b Y i ++ if frB X m a b Y[i] = true then [] else [(i : Int)] := by
  unfold gp
  rw [List.range_succ, List.filter_append, List.map_append]
  congr 1
  have : Y.getD i [] = Y[i] := by rw [List.getD_eq_getElem?_getD, ge hk]; rfl
  simp only [List.filter_cons, List.filter_nil, this]
  cases frB X m a b Y[i] <;> simp
 rw [bW rfl hk, zb, fresh_eq ha hb hA hB hm hXl hX hne hgl hsr, zb, w64 om om]
 refine Ok.iteN (fun h => ?_) (fun h => Ok.nx ⟨i + 1, by rw [hsucc, h]; simp, om⟩ za)
 rw [cg (by simp only [List.length_cons, List.length_nil]; omega), zb]
 exact Ok.nx ⟨i + 1, by rw [hsucc, h]; simp, om⟩ za
theorem both_stale (n : Int) (x y : List Pick) (hx : x.length ≤ 20) (hxS : ∀ p ∈ x, vM p) (hy : y.length ≤ 20) (hyS : ∀ p ∈ y, vM p) {a b : ac} (ha : IA a) (hb : IA b) :
  ∃ r, cp n x y a b = some r ∧ nD n x y a b = some r ∧ r.1.length ≤ 1000 := by
 obtain ⟨X, e, -, g2, g3, g4, g5⟩ := vY n x hx hxS
 obtain ⟨Y, e', -, k2, k3, k4, k5⟩ := vY n y hy hyS
 unfold nD
 rw [g2, zb, k2, zb]
 dsimp only
 rcases g5 with ⟨rfl, h⟩ | ⟨rfl, h, hv⟩ | ⟨rfl, h, hv, hX⟩
 ·refine ⟨([], 2), ?_, rfl, sm⟩
  unfold cp
  rcases h with h | h
  ·rw [if_pos (by simpa using h)]
  ·rw [if_neg so, if_pos (by simpa using h)]
 ·refine ⟨([], 1), ?_, rfl, sm⟩
  unfold cp
  rw [if_neg so, if_neg so, qw om hxS, hv]; rfl
 rw [if_neg sm, if_neg sm]
 rcases k5 with ⟨rfl, h'⟩ | ⟨rfl, h', hv'⟩ | ⟨rfl, h', hv', hY⟩
 ·omega
 ·refine ⟨([], 1), ?_, rfl, sm⟩
  unfold cp
  rw [if_neg so, if_neg so, qw om hxS, hv, zb, if_neg sm, qw om hyS, hv']; rfl
 rw [if_neg sm, uN ha, zb]
 cases hA : Iv.vI a.al with
 | false =>
  refine ⟨([], 1), ?_, rfl, sm⟩
  unfold cp
  rw [if_neg so, if_neg so, qw om hxS, hv, zb, if_neg sm, qw om hyS, hv', zb, if_neg sm, xX ha, hA]; rfl
 | true =>
 rw [if_neg sm, uN hb, zb]
 cases hB : Iv.vI b.al with
 | false =>
  refine ⟨([], 1), ?_, rfl, sm⟩
  unfold cp
  rw [if_neg so, if_neg so, qw om hxS, hv, zb, if_neg sm, qw om hyS, hv', zb, if_neg sm, xX ha, hA, zb, if_neg sm, xX hb, hB]; rfl
 | true =>
  have iA : IV a := ⟨ha.len, by rw [xX ha, hA]⟩
  have iB : IV b := ⟨hb.len, by rw [xX hb, hB]⟩
  have okx : ∀ p ∈ x, fB p := fun p hp => tB.1 (List.all_eq_true.1 hv p hp)
  have oky : ∀ p ∈ y, fB p := fun p hp => tB.1 (List.all_eq_true.1 hv' p hp)
  obtain ⟨⟨r1, r2⟩, er, hr, X', Y', m, f1, f2, b1, b2, hm, f3⟩ := Stale_ok n om om x y hx okx hy oky iA iB
  simp only at hr f3
  subst hr
  obtain rfl : X = X' := by rw [f1] at hX; exact (Option.some.inj hX).symm
  obtain rfl : Y = Y' := by rw [f2] at hY; exact (Option.some.inj hY).symm
  obtain ⟨x1, x2, x3, x4⟩ := b1.facts om
  obtain ⟨y1, y2, y3, y4⟩ := b2.facts om
  refine ⟨(r1, 0), er, ?_, ?_⟩
  ·rw [if_neg sm, refStale_loop ha hb iA iB hm x1 b1.sorted y1 fun g hg => ⟨(y2 g hg).1, (y2 g hg).2, b2.sorted g hg⟩, f3]
   rfl
  ·simp only
   rw [f3]
   unfold gp
   have := List.length_filter_le (fun j => !frB X m a b (Y.getD j [])) (List.range Y.length)
   rw [List.length_range] at this
   rw [List.length_map]; omega
end Go.Dw.De


set_option maxRecDepth 100000
set_option maxHeartbeats 4000000
namespace Go.Dw.De
open Go.Dw Go.Proofs
open Sd (ef dj eI)

theorem pk_P {t : Int} (h : 0 ≤ t) (h' : t ≤ 100) : fB (P t) := by
 refine ⟨by show So.jt ⟨[65, 66], [83, 49], [48, 48], [66, 72, 90]⟩ = true; decide +kernel, h, Int.le_refl _, Int.le_refl _, ?_, ?_⟩
 ·show t ≤ _; omega
 ·simp [P]
theorem awake_batches2 : bo 10 [P 16, P 0, P 40, P 8] = some ([[P 0, P 8, P 16], [P 40]], 0) := by
 have hok : ∀ p ∈ [P 16, P 0, P 40, P 8], fB p := fun p hp => by
  simp only [List.mem_cons, List.not_mem_nil, or_false] at hp
  rcases hp with rfl | rfl | rfl | rfl <;> exact pk_P om om
 have hs : [P 0, P 8, P 16, P 40].Pairwise (fun x y => ec x y < 0) := by decide +kernel
 have e2 : gK [P 16, P 0, P 40, P 8] = some [P 0, P 8, P 16, P 40] := by
  obtain ⟨r, g1, g2, g3, -⟩ := Sort_eq (l := [P 16, P 0, P 40, P 8]) sm
  rw [g1, p9 g2 hs fun x => by rw [g3]; simp only [List.mem_cons, List.not_mem_nil, or_false]; constructor <;> (rintro (h | h | h | h) <;> simp [h])]
 have e3 : bt [P 0, P 8, P 16, P 40] = some [P 0, P 8, P 16, P 40] := by
  obtain ⟨r, g1, g2, g3⟩ := xV [P 0, P 8, P 16, P 40] sm hs
  have hx : [P 0, P 8, P 16, P 40].Pairwise lx := by unfold lx; decide +kernel
  rw [g1, lF cE_tot g3 hx fun x => g2.mem_iff]
 have e4 : bF (bZ [P 0, P 8, P 16, P 40] 10) ((0 : Int), []) = some [[P 0, P 8, P 16], [P 40]] := by
  rw [g36_eq 10 _ sm (by unfold EB; decide +kernel)]
  kernel_rfl
 have s1 : gH bf [P 0, P 8, P 16] = some [P 0, P 8, P 16] := sortP sm (by kernel_rfl)
 have s2 : gH bf [P 40] = some [P 40] := sortP sm (by kernel_rfl)
 have e5 : bF (bH [[P 0, P 8, P 16], [P 40]]) ((0 : Int), [[P 0, P 8, P 16], [P 40]]) = some [[P 0, P 8, P 16], [P 40]] := by
  have n0 : bH [[P 0, P 8, P 16], [P 40]] ((0 : Int), [[P 0, P 8, P 16], [P 40]]) = some (.next ((1 : Int), [[P 0, P 8, P 16], [P 40]])) := by
   show (gH bf [P 0, P 8, P 16]).bind _ = _
   rw [s1]; kernel_rfl
  have n1 : bH [[P 0, P 8, P 16], [P 40]] ((1 : Int), [[P 0, P 8, P 16], [P 40]]) = some (.next ((2 : Int), [[P 0, P 8, P 16], [P 40]])) := by
   show (gH bf [P 40]).bind _ = _
   rw [s2]; kernel_rfl
  have n2 : bH [[P 0, P 8, P 16], [P 40]] ((2 : Int), [[P 0, P 8, P 16], [P 40]]) = some (.stop [[P 0, P 8, P 16], [P 40]]) := by kernel_rfl
  rw [eb n0, eb n1, cZ n2]
 unfold bo bG
 rw [if_neg sm, if_neg sm, uf sm hok, zb, if_neg sm, e2, zb, e3, zb, e4, zb, e5]; rfl
theorem awake_depends2 : bU [P 4, P 5, P 9] = some [⟨S1, [⟨4, 6⟩, ⟨9, 10⟩]⟩] := by
 have hv : ∀ p ∈ [P 4, P 5, P 9], vPk p = true := fun p hp => by
  simp only [List.mem_cons, List.not_mem_nil, or_false] at hp
  rcases hp with rfl | rfl | rfl <;> exact tB.2 (pk_P om om)
 have hsr : sD [P 4, P 5, P 9] = [S1, S1, S1] := by
  unfold sD
  rw [List.filter_eq_self.2 hv]; rfl
 obtain ⟨L, h1, -, -, h4, h5⟩ := SSorts_eq (l := sD [P 4, P 5, P 9]) (by rw [hsr]; simp)
 have hL : L = [S1] := lF dj h4 (List.pairwise_singleton _ _) fun x => by rw [h5, hsr]; simp
 subst hL
 obtain ⟨r, e, hr⟩ := dep_ok [P 4, P 5, P 9] sm (fun p hp => wO (tB.1 (hv p hp)).1) h1 sm
 rw [e, hr.unique (r' := [⟨S1, [⟨4, 6⟩, ⟨9, 10⟩]⟩]) ⟨rfl, fun i h h' => ?_⟩]
 have hi : i = 0 := by simp at h; omega
 subst hi
 refine ⟨rfl, ⟨sm, sm⟩, sm, fun y => ?_⟩
 show ck [⟨4, 6⟩, ⟨9, 10⟩] y ↔ Tm _ S1 y
 rw [kw, fI]
 unfold Tm
 constructor
 ·intro h
  have : y = 4 ∨ y = 5 ∨ y = 9 := by simp only at h; omega
  rcases this with rfl | rfl | rfl
  ·exact ⟨P 4, sm, hv _ sm, rfl, rfl⟩
  ·exact ⟨P 5, sm, hv _ sm, rfl, rfl⟩
  ·exact ⟨P 9, sm, hv _ sm, rfl, rfl⟩
 ·rintro ⟨q, hq, -, -, h⟩
  simp only [List.mem_cons, List.not_mem_nil, or_false] at hq
  rcases hq with rfl | rfl | rfl <;> (simp only [P] at h; simp only; omega)
theorem awake_at2 : dG = some true := by
 unfold dG
 have h1 : dF (0 : Int) = some S1 := by kernel_rfl
 have h2 : cd [⟨S1, [⟨4, 6⟩, ⟨9, 10⟩]⟩] [⟨S1, [⟨4, 6⟩, ⟨9, 10⟩]⟩] = some true := yP sm sm
 simp only [pick_at, zb, awake_batches2, awake_depends2, h1]
 rw [show ((0 : Int) == 0) = true from rfl, if_pos rfl]
 show (cd _ _).bind _ = _
 rw [h2]; rfl

theorem smallR (r : aB) (h : r.aL.length ≤ 9223372036854775807) : Ok (fe r) (fun b => b = true → kT r) := by
 unfold fe
 refine Ok.bind (P := fun o => o = .inr false ∨ (o = .inl () ∧ ∀ x ∈ r.aL, x.bc.length ≤ 200)) (Ok.loop (fun s : Int => ∃ i : Nat, s = i ∧ i ≤ r.aL.length ∧ ∀ x ∈ r.aL.take i, x.bc.length ≤ 200) (fun s => ((r.aL.length : Int) - s).toNat) ?_ ⟨0, rfl, Nat.zero_le _, sm⟩) (fun o ho => ?_)
 ·rintro s ⟨i, rfl, i1, i2⟩
  unfold ij
  refine Ok.ea (fun hlt => ?_) (fun hge => ?_)
  ·have hi : i < r.aL.length := by omega
   rw [bW rfl hi, zb, w64 om om]
   refine Ok.ea (fun _ => Ok.st (.inl rfl)) (fun hle => Ok.nx ⟨i + 1, sm, om, fun x hx => ?_⟩ om)
   rw [cn hi] at hx
   rcases List.mem_append.1 hx with hx | hx
   ·exact i2 x hx
   ·rw [List.mem_singleton.1 hx]; omega
  ·have : i = r.aL.length := by omega
   subst this
   exact Ok.st (.inr ⟨rfl, by rw [qv] at i2; exact i2⟩)
 ·rcases ho with rfl | ⟨rfl, ht⟩
  ·exact Ok.ret sm
  ·refine Ok.ret fun h => ⟨?_, fun x hx => by have := ht x hx; omega⟩
   have : (r.aL.length : Int) ≤ 12 := by simpa using h
   omega
structure ArgI (v : ac) : Prop where
 len : v.al.length ≤ 9223372036854775807
 src : ∀ c ∈ v.al, So.SidLen c.ak
 eps : ∀ c ∈ v.al, ∀ e ∈ c.aM, e.aQ.aL.length ≤ 9223372036854775807
theorem smallI (v : ac) (h : ArgI v) : Ok (eL v) (fun b => b = true → IA v) := by
 have hl := h.len
 unfold eL
 refine Ok.bind (P := fun o => o = .inr false ∨ (o = .inl () ∧ ∀ x ∈ v.al, ChLen x)) (Ok.loop (fun s : Int => ∃ i : Nat, s = i ∧ i ≤ v.al.length ∧ ∀ x ∈ v.al.take i, ChLen x) (fun s => ((v.al.length : Int) - s).toNat) ?_ ⟨0, rfl, Nat.zero_le _, sm⟩) (fun o ho => ?_)
 ·rintro s ⟨i, rfl, i1, i2⟩
  unfold f8
  refine Ok.ea (fun hlt => ?_) (fun hge => ?_)
  rotate_left
  ·have : i = v.al.length := by omega
   subst this
   exact Ok.st (.inr ⟨rfl, by rw [qv] at i2; exact i2⟩)
  have hi : i < v.al.length := by omega
  have hE := h.eps _ (List.getElem_mem hi)
  rw [bW rfl hi, zb]
  refine Ok.ea (fun _ => Ok.st (.inl rfl)) (fun hle => ?_)
  rw [zb]
  refine Ok.bind (P := fun o => o = .inr false ∨ (o = .inl (i : Int) ∧ ∀ e ∈ v.al[i].aM, kT e.aQ)) (Ok.loop (fun s : Int => ∃ k : Nat, s = k ∧ k ≤ v.al[i].aM.length ∧ ∀ e ∈ v.al[i].aM.take k, kT e.aQ) (fun s => ((v.al[i].aM.length : Int) - s).toNat) ?_ ⟨0, rfl, Nat.zero_le _, sm⟩) (fun o ho => ?_)
  ·rintro s ⟨k, rfl, k1, k2⟩
   unfold fW
   refine Ok.ea (fun hlt => ?_) (fun hge => ?_)
   ·have hk : k < v.al[i].aM.length := by omega
    rw [bW rfl hi, zb, bW rfl hk, zb, w64 om om]
    refine Ok.bind (smallR _ (hE _ (List.getElem_mem hk))) (fun b hb => ?_)
    refine Ok.iteN (fun _ => Ok.st (.inl rfl)) (fun hbt => Ok.nx ⟨k + 1, sm, om, fun x hx => ?_⟩ om)
    rw [cn hk] at hx
    rcases List.mem_append.1 hx with hx | hx
    ·exact k2 x hx
    ·rw [List.mem_singleton.1 hx]; exact hb hbt
   ·have : k = v.al[i].aM.length := by omega
    subst this
    exact Ok.st (.inr ⟨rfl, by rw [qv] at k2; exact k2⟩)
  ·rcases ho with rfl | ⟨rfl, hr⟩
   ·exact Ok.st (.inl rfl)
   ·dsimp only
    rw [w64 om om]
    refine Ok.nx ⟨i + 1, sm, om, fun x hx => ?_⟩ om
    rw [cn hi] at hx
    rcases List.mem_append.1 hx with hx | hx
    ·exact i2 x hx
    ·rw [List.mem_singleton.1 hx]; exact ⟨om, hr⟩
 ·rcases ho with rfl | ⟨rfl, ht⟩
  ·exact Ok.ret sm
  ·refine Ok.ret fun hb => ⟨⟨?_, ht⟩, h.src⟩
   have : (v.al.length : Int) ≤ 10 := by simpa using hb
   omega

theorem ints_refl {l : List Int} (hl : l.length ≤ 1000) : rE l l = some true := by
 unfold rE
 rw [if_neg sm, rF l.length (fun i hi => ?_) ?_]
 ·rfl
 ·unfold n8
  rw [if_neg sm]
 ·unfold n8
  rw [if_pos so, bW rfl hi, zb, zb, if_neg sm, w64 om om]
  simp
structure LS (l : List Pick) : Prop where
 len : l.length ≤ 20
 s : ∀ p ∈ l, vM p
theorem ls_of {l : List Pick} (h : l.length ≤ 20) (h' : ∀ p ∈ l, fB p) : LS l := ⟨h, fun p hp => wO (h' p hp).1⟩
theorem x66_ok (x14 : ac × Src) (a3 : ac) (n : Int) (x y : List Pick) (x10 : ac × Src) (s : Int) (hx : LS x) (hy : LS y) (h10 : IA x10.1) (h14 : IA x14.1) (h3 : IA a3) :
  bF (gy x14 a3 n x y x10 s) (0 : Int) = some (.inl s) := by
 refine Ok.eq (Ok.upto 2 om (fun _ => True) trivial (fun i i0 i1 _ => ?_))
 unfold gy
 refine Ok.ea (fun hlt => ?_) (fun _ => Ok.st rfl)
 refine Ok.bind (Ok.get i0 so) (fun z hz => ?_)
 have hz : IA z := by
  have := hz.1
  simp only [List.mem_cons, List.not_mem_nil, or_false] at this
  rcases this with rfl | rfl
  ·exact h14
  ·exact h3
 obtain ⟨r, e1, e2, e3⟩ := both_stale n x y hx.len hx.s hy.len hy.s h10 hz
 rw [e1, zb, e2, zb, if_neg sm, ints_refl e3, zb, if_neg sm, w64 om om]
 exact Ok.nx ⟨⟨om, om⟩, trivial⟩ om
theorem x70_ok (x13 : List Pick × Src) (a2 : List Pick) (x14 : ac × Src) (a3 : ac) (n : Int) (x : List Pick) (x10 : ac × Src) (hx : LS x) (h13 : LS x13.1) (h2 : LS a2) (h10 : IA x10.1) (h14 : IA x14.1) (h3 : IA a3) :
  bF (gz x13 a2 x14 a3 n x x10) (0 : Int) = some (.inl ()) := by
 refine Ok.eq (Ok.upto 2 om (fun _ => True) trivial (fun i i0 i1 _ => ?_))
 unfold gz
 refine Ok.ea (fun hlt => ?_) (fun _ => Ok.st rfl)
 refine Ok.bind (Ok.get i0 so) (fun y hy => ?_)
 have hy : LS y := by
  have := hy.1
  simp only [List.mem_cons, List.not_mem_nil, or_false] at this
  rcases this with rfl | rfl
  ·exact h13
  ·exact h2
 rw [x66_ok x14 a3 n x y x10 i hx hy h10 h14 h3, zb]
 dsimp only
 rw [w64 om om]
 exact Ok.nx ⟨⟨om, om⟩, trivial⟩ om
theorem x84_ok (x : List Pick) (x10 x14 : ac × Src) (a3 : ac) (hx : LS x) (h10 : IA x10.1) (h14 : IA x14.1) (h3 : IA a3) : bF (dc x x10 x14 a3) (0 : Int) = some (.inl ()) := by
 have hl := hx.len
 refine Ok.eq (Ok.upto x.length om (fun _ => True) trivial (fun i i0 i1 _ => ?_))
 unfold dc
 refine Ok.ea (fun hlt => ?_) (fun _ => Ok.st rfl)
 refine Ok.bind (Ok.get i0 om) (fun p _ => ?_)
 obtain ⟨r, e1, e2⟩ := uq h10 h14 p
 obtain ⟨r', e3, e4⟩ := uq h3 h10 p
 rw [e1, zb, e2, zb, if_neg sm, e3, zb, e4, zb, if_neg sm, w64 om om]
 exact Ok.nx ⟨⟨om, om⟩, trivial⟩ om
theorem x88_ok (x11 : List Pick × Src) (a1 j16 : List Pick) (n : Int) (x13 : List Pick × Src) (a2 : List Pick) (x14 : ac × Src) (a3 : ac) (x10 : ac × Src) (s : Int)
  (h11 : LS x11.1) (h1 : LS a1) (h16 : LS j16) (h13 : LS x13.1) (h2 : LS a2) (h10 : IA x10.1) (h14 : IA x14.1) (h3 : IA a3) :
  bF (gA x11 a1 j16 n x13 a2 x14 a3 x10) (s, (0 : Int)) = some (.inl s) := by
 refine Ok.eq (Ok.loop (fun st : Int × Int => st.1 = s ∧ 0 ≤ st.2 ∧ st.2 ≤ 3) (fun st => (3 - st.2).toNat) ?_ ⟨rfl, Int.le_refl _, sm⟩)
 rintro ⟨s', i⟩ ⟨e, i0, i1⟩
 simp only at e i0 i1
 subst e
 unfold gA
 dsimp only
 refine Ok.ea (fun hlt => ?_) (fun _ => Ok.st rfl)
 refine Ok.bind (Ok.get i0 so) (fun x hx => ?_)
 have hx : LS x := by
  have := hx.1
  simp only [List.mem_cons, List.not_mem_nil, or_false] at this
  rcases this with rfl | rfl | rfl
  ·exact h11
  ·exact h1
  ·exact h16
 obtain ⟨X, e, b1, b2, b3, b4, -⟩ := vY n x hx.len hx.s
 obtain ⟨r, d1, d2, d3, d4⟩ := both_depends x hx.len hx.s
 rw [b1, zb, b2, zb, if_neg sm, if_neg sm, d1, zb, d2, zb, yP om d4, zb, if_neg sm]
 have h48 : bF (db (X, e) (X, e) s' i) (0 : Int) = some (.inl (s', i)) := by
  refine Ok.eq (Ok.upto X.length om (fun _ => True) trivial (fun k k0 k1 _ => ?_))
  unfold db
  dsimp only
  refine Ok.ea (fun hlt => ?_) (fun _ => Ok.st rfl)
  obtain ⟨g, hg, hm, -⟩ := Ok.get (l := X) k0 om
  rw [hg, zb, zb, same_refl (by have := b4 g hm; omega), zb, if_neg sm, w64 om om]
  exact Ok.nx ⟨⟨om, om⟩, trivial⟩ om
 rw [h48, zb]
 dsimp only
 rw [x70_ok x13 a2 x14 a3 n x x10 hx h13 h2 h10 h14 h3, zb]
 dsimp only
 rw [x84_ok x x10 x14 a3 hx h10 h14 h3, zb]
 dsimp only
 rw [w64 om om]
 exact Ok.nx ⟨rfl, za, za⟩ za
theorem x97_ok (a0 : Int) (x11 : List Pick × Src) (a1 : List Pick) (x13 : List Pick × Src) (a2 : List Pick) (x14 : ac × Src) (a3 : ac) (x10 : ac × Src) (j16 : List Pick) (d : Src)
  (h11 : LS x11.1) (h1 : LS a1) (h16 : LS j16) (h13 : LS x13.1) (h2 : LS a2) (h10 : IA x10.1) (h14 : IA x14.1) (h3 : IA a3) (hd : b7 d) :
  Ok (da a0 x11 a1 x13 a2 x14 a3 x10 j16 d.fL d.fAt) (fun r => r = true) := by
 unfold da
 refine Ok.bind (gE _ _ hd sm sm) (fun y1 g1 => ?_)
 refine Ok.bind (gE _ _ g1.2 sm sm) (fun y2 _ => ?_)
 have h92 : bF (gB a0 y1 y2 x11 a1 j16 x13 a2 x14 a3 x10) (0 : Int) = some (.inl ()) := by
  refine Ok.eq (Ok.upto 3 om (fun _ => True) trivial (fun i i0 i1 _ => ?_))
  unfold gB
  refine Ok.ea (fun hlt => ?_) (fun _ => Ok.st rfl)
  refine Ok.bind (Ok.get i0 so) (fun n _ => ?_)
  rw [x88_ok x11 a1 j16 n x13 a2 x14 a3 x10 i h11 h1 h16 h13 h2 h10 h14 h3, zb]
  dsimp only
  rw [w64 om om]
  exact Ok.nx ⟨⟨om, om⟩, trivial⟩ om
 rw [h92, zb]
 dsimp only
 rw [awake_at2]
 exact Ok.ret rfl
theorem bent_ok (p : Pick) (hp : vM p) (d : Src) (hd : b7 d) : Ok (lG p d) (fun r => vM r.1 ∧ b7 r.2) := by
 obtain ⟨l1, l2, l3, l4⟩ := hp
 unfold lG
 refine Ok.bind (eQ _ _ hd om om) (fun y1 g1 => ?_)
 refine Ok.kY (fun _ => Ok.ret ⟨⟨l1, sm, l3, l4⟩, g1.2.2⟩) (fun _ => Ok.kY (fun _ => Ok.ret ⟨⟨l1, l2, l3, l4⟩, g1.2.2⟩) (fun _ => Ok.kY (fun _ => ?_) (fun _ => Ok.kY (fun _ => ?_) (fun _ => ?_))))
 ·exact Ok.bind (gE _ _ g1.2.2 sm sm) (fun y2 g2 => Ok.ret ⟨⟨l1, l2, l3, l4⟩, g2.2⟩)
 ·exact Ok.bind (gE _ _ g1.2.2 sm sm) (fun y2 g2 => Ok.ret ⟨⟨l1, l2, l3, l4⟩, g2.2⟩)
 ·exact Ok.bind (eQ _ _ g1.2.2 om om) (fun y2 g2 => Ok.ret ⟨⟨l1, l2, l3, l4⟩, g2.2.2⟩)
theorem vu (a0 : Int) (a1 a2 : List Pick) (a3 : ac) (l : List Int) (h1 : ∀ p ∈ a1, vM p) (h2 : ∀ p ∈ a2, vM p) (h3 : ArgI a3) : f9 a0 a1 a2 a3 l = some true := by
 refine Ok.eq ?_
 unfold f9
 rw [awake_at2]
 refine Ok.ea (fun _ => Ok.ret rfl) (fun n1 => Ok.ea (fun _ => Ok.ret rfl) (fun n2 => ?_))
 refine Ok.bind (smallI a3 h3) (fun b hb => Ok.iteN (fun _ => Ok.ret rfl) (fun hbt => ?_))
 have i3 := hb hbt
 refine Ok.bind (new_ok l) (fun x8 g8 => ?_)
 refine Ok.bind (wx x8 g8) (fun x9 g9 => ?_)
 refine Ok.bind (sitesV _ g9.2) (fun x10 g10 => ?_)
 refine Ok.bind (wh x9.1 g9.1 x10.1 g10.1.inv 10 om _ g10.2) (fun x11 g11 => ?_)
 refine Ok.bind (wh x9.1 g9.1 x10.1 g10.1.inv 3 om _ g11.2) (fun x12 g12 => ?_)
 have l11 := g11.1.1
 have l12 := g12.1.1
 refine Ok.bind (replaced_ok x11.1 x12.1 om om g11.1.2 g12.1.2 _ g12.2) (fun x13 g13 => ?_)
 have l13 := g13.1.1
 refine Ok.bind (xr x10.1 g10.1 _ g13.2) (fun x14 g14 => ?_)
 rw [cg so, zb, List.nil_append]
 have s11 := ls_of om g11.1.2
 have s13 := ls_of om g13.1.2
 refine Ok.ea (fun hpos => ?_) (fun _ => ?_)
 ·refine Ok.bind (Ok.mA om om) (fun _ _ => ?_)
  refine Ok.bind (Ok.get om om) (fun p hp => ?_)
  refine Ok.bind (bent_ok p (s11.s p hp.1) _ g14.2) (fun x102 g => ?_)
  refine Ok.bind (Ok.mA om om) (fun _ _ => ?_)
  refine Ok.bind (Ok.set om om) (fun y hy => ?_)
  subst hy
  refine x97_ok a0 x11 a1 x13 a2 x14 a3 x10 _ x102.2 s11 ⟨om, h1⟩ ⟨by rw [List.length_set]; omega, fun q hq => ?_⟩ s13 ⟨om, h2⟩ g10.1.ia g14.1.ia i3 g.2
  rcases List.mem_or_eq_of_mem_set hq with h | rfl
  ·exact s11.s q h
  ·exact g.1
 ·exact x97_ok a0 x11 a1 x13 a2 x14 a3 x10 _ x14.2 s11 ⟨om, h1⟩ s11 s13 ⟨om, h2⟩ g10.1.ia g14.1.ia i3 g14.2
end Go.Dw.De
