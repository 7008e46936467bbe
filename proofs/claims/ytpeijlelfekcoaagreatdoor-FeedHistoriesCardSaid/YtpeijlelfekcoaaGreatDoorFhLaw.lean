
import Derived.Test.YtpeijlelfekcoaaGreatDoorFhLawE

set_option maxRecDepth 100000
set_option maxHeartbeats 4000000
namespace Go.Dw.Fh
open Go.Dw Go.Lib

theorem inq_ok (a : Int) (d : List Int) (hl : d.length ≤ 1000000) : Ok (iE a d) (fun r => r.2 = d) := by
  unfold iE
  refine Ok.bind (P := fun o : Unit ⊕ (Bool × List Int) => ∀ y, o = .inr y → y.2 = d) (Ok.upto (d.length : Int) (by omega) (fun _ => True) trivial (fun i h0 h1 _ => ?_)) (fun o ho => ?_)
  · unfold kq
    refine Ok.iteD (fun hlt => ?_) (fun _ => Ok.st (fun y e => by cases e))
    refine Ok.bind (Ok.isin h0 hlt) (fun _ _ => ?_)
    refine Ok.bind (Ok.get h0 hlt) (fun x _ => ?_)
    refine Ok.iteE (fun _ => Ok.st (fun y e => by cases e; rfl)) (fun _ => ?_)
    rw [w64 (by omega) (by omega)]
    exact Ok.nx ⟨⟨by omega, by omega⟩, trivial⟩ (by omega)
  · cases o with
    | inl y => exact Ok.ret rfl
    | inr y => exact Ok.ret (ho y rfl)
theorem inqq_ok (d : List Int) (a : Int) (hl : d.length ≤ 1000000) : Ok (iS d a) (fun _ => True) := by
  unfold iS
  refine Ok.bind (P := fun _ => True) (Ok.upto (d.length : Int) (by omega) (fun _ => True) trivial (fun i h0 h1 _ => ?_)) (fun o _ => by cases o <;> exact Ok.ret trivial)
  unfold jS
  refine Ok.iteD (fun hlt => ?_) (fun _ => Ok.st trivial)
  refine Ok.bind (Ok.get h0 hlt) (fun x _ => ?_)
  refine Ok.iteE (fun _ => Ok.st trivial) (fun _ => ?_)
  rw [w64 (by omega) (by omega)]
  exact Ok.nx ⟨⟨by omega, by omega⟩, trivial⟩ (by omega)
theorem index_ok (es : List Ev) (p : Pick) (hl : es.length ≤ 1000000) : Ok (hZ es p) (fun r => r < es.length) := by
  unfold hZ
  refine Ok.bind (P := fun o : Unit ⊕ Int => ∀ y, o = .inr y → y < es.length) (Ok.upto (es.length : Int) (by omega) (fun _ => True) trivial (fun i h0 h1 _ => ?_)) (fun o ho => ?_)
  · unfold jw
    refine Ok.iteD (fun hlt => ?_) (fun _ => Ok.st (fun y e => by cases e))
    refine Ok.bind (Ok.get h0 hlt) (fun x _ => ?_)
    refine Ok.iteB (fun _ => Ok.st (fun y e => by cases e; exact hlt)) (fun _ => ?_)
    rw [w64 (by omega) (by omega)]
    exact Ok.nx ⟨⟨by omega, by omega⟩, trivial⟩ (by omega)
  · cases o with
    | inl y => exact Ok.ret (by omega)
    | inr y => exact Ok.ret (ho y rfl)
def jL (es : List Ev) (n : Nat) (r : List Int) : Prop := r.length = n ∧ ∀ x ∈ r, x < es.length
theorem follow_ok (l : List Alert) (es : List Ev) (hl : l.length ≤ 1000) (hel : es.length ≤ 1000) (hp : ∀ a ∈ l, a.ae.aa.aJ.length ≤ 1000) (hq : ∀ e ∈ es, e.aa.aJ.length ≤ 1000) : Ok (gF l es) (fun r => jL es l.length r) := by
  unfold gF
  refine Ok.bind (P := fun o => jL es l.length o) (Ok.loop (fun s => (0 ≤ s.1 ∧ s.1 ≤ (l.length : Int)) ∧ jL es s.1.toNat s.2) (fun s => ((l.length : Int) - s.1).toNat) ?_ ⟨by simp, by simp [jL]⟩) (fun o ho => ?_)
  · rintro ⟨i, d⟩ ⟨⟨i0, i1⟩, i2, i3⟩
    simp only at i0 i1 i2 i3
    unfold iB
    refine Ok.iteD (fun hlt => ?_) (fun _ => Ok.st ⟨by omega, i3⟩)
    have k11 : ∀ j : Int, j < es.length → Ok (dV d i j) (Ok.S (fun s => (0 ≤ s.1 ∧ s.1 ≤ (l.length : Int)) ∧ jL es s.1.toNat s.2) (fun s => ((l.length : Int) - s.1).toNat) (fun o => jL es l.length o) (i, d)) := by
      intro j hj
      have go : ∀ x : Int, x < es.length → jL es (i + 1).toNat (d ++ [x]) := by
        intro x hx
        refine ⟨by simp only [List.length_append, List.length_cons, List.length_nil]; omega, fun y hy => ?_⟩
        rcases List.mem_append.1 hy with hy | hy
        · exact i3 y hy
        · obtain rfl := List.mem_singleton.1 hy; exact hx
      unfold dV
      refine Ok.bind (inq_ok _ _ (by omega)) (fun x hx => ?_)
      rw [hx, w64 (by omega) (by omega)]
      refine Ok.iteB (fun _ => ?_) (fun _ => ?_)
      · refine Ok.bind (Ok.app (by simp only [List.length_cons, List.length_nil]; omega)) (fun y hy => ?_)
        subst hy
        exact Ok.nx ⟨by simp only; omega, go (-1) (by omega)⟩ (by simp only; omega)
      · refine Ok.bind (Ok.app (by simp only [List.length_cons, List.length_nil]; omega)) (fun y hy => ?_)
        subst hy
        exact Ok.nx ⟨by simp only; omega, go j hj⟩ (by simp only; omega)
    refine Ok.bind (Ok.get i0 hlt) (fun x _ => Ok.iteN (fun _ => ?_) (fun _ => k11 _ (by omega)))
    refine Ok.bind (Ok.get i0 hlt) (fun x _ => ?_)
    exact Ok.bind (index_ok _ _ (by omega)) (fun y hy => k11 y hy)
  · refine Ok.bind (P := fun o => jL es l.length o) (Ok.loop (fun s => (0 ≤ s.1 ∧ s.1 ≤ (l.length : Int)) ∧ jL es l.length s.2) (fun s => ((l.length : Int) - s.1).toNat) ?_ ⟨by simp only; omega, ho⟩) (fun o ho => Ok.ret ho)
    rintro ⟨i, d⟩ ⟨⟨i0, i1⟩, i2⟩
    simp only at i0 i1 i2
    unfold iD
    refine Ok.iteD (fun hlt => ?_) (fun _ => Ok.st i2)
    refine Ok.bind (P := fun o => o.1 = i ∧ jL es l.length o.2) (Ok.loop (fun s => (0 ≤ s.1 ∧ s.1 ≤ (es.length : Int)) ∧ jL es l.length s.2) (fun s => ((es.length : Int) - s.1).toNat) ?_ ⟨by simp only; omega, i2⟩) (fun o ho => ?_)
    · rintro ⟨k, d⟩ ⟨⟨k0, k1⟩, k2⟩
      simp only at k0 k1 k2
      unfold iC
      refine Ok.iteD (fun hk => ?_) (fun _ => Ok.st ⟨rfl, k2⟩)
      have hdl := k2.1
      have nx : Ok (some (.next (IntKind.wrap .i64 (k + (1 : Int)), d))) (Ok.S (fun s => (0 ≤ s.1 ∧ s.1 ≤ (es.length : Int)) ∧ jL es l.length s.2) (fun s => ((es.length : Int) - s.1).toNat) (fun o : Int × List Int => o.1 = i ∧ jL es l.length o.2) (k, d)) := by
        rw [w64 (by omega) (by omega)]
        exact Ok.nx ⟨by simp only; omega, k2⟩ (by simp only; omega)
      refine Ok.bind (Ok.isin i0 (by omega)) (fun _ _ => ?_)
      refine Ok.bind (Ok.get i0 (by omega)) (fun x _ => Ok.iteD (fun _ => ?_) (fun _ => Ok.st ⟨rfl, k2⟩))
      refine Ok.bind (Ok.get i0 hlt) (fun y _ => Ok.iteN (fun _ => ?_) (fun _ => Ok.st ⟨rfl, k2⟩))
      refine Ok.bind (inq_ok _ _ (by omega)) (fun z hz => ?_)
      rw [hz]
      refine Ok.iteN (fun _ => ?_) (fun _ => nx)
      refine Ok.bind (Ok.get i0 hlt) (fun a ha => ?_)
      refine Ok.bind (Ok.get k0 hk) (fun b hb => ?_)
      rw [common36_eq]
      refine Ok.bind (common_ok _ _ (hp a ha.1) (hq b hb.1)) (fun c _ => Ok.iteB (fun _ => ?_) (fun _ => nx))
      refine Ok.bind (Ok.isin i0 (by omega)) (fun _ _ => ?_)
      refine Ok.bind (Ok.set i0 (by omega)) (fun w hw => ?_)
      subst hw
      rw [w64 (by omega) (by omega)]
      refine Ok.nx ⟨by simp only; omega, by rw [List.length_set]; exact hdl, fun x hx => ?_⟩ (by simp only; omega)
      rcases List.mem_or_eq_of_mem_set hx with h | h
      · exact k2.2 x h
      · subst h; exact hk
    · obtain ⟨o1, o2⟩ := o
      obtain ⟨rfl, ho⟩ := ho
      simp only
      rw [w64 (by omega) (by omega)]
      exact Ok.nx ⟨by simp only; omega, ho⟩ (by simp only; omega)

theorem meets_ok (r : bi) (e : Ev) : Ok (ib r e) (fun _ => True) := by
  unfold ib
  repeat' (first | refine Ok.iteD (fun _ => ?_) (fun _ => ?_) | exact Ok.ret trivial)
theorem iu (p : Policy) (e : Ev) (h8 : p.bv.length ≤ 8) : Ok (dy p e) (fun r => 0 ≤ r ∧ r ≤ p.bv.length) := by
  unfold dy
  refine Ok.bind (P := fun r : Int => 0 ≤ r ∧ r ≤ (p.bv.length : Int)) (Ok.loop (fun s : Int × Int => (0 ≤ s.2 ∧ s.2 ≤ (p.bv.length : Int)) ∧ 0 ≤ s.1 ∧ s.1 ≤ s.2) (fun s => ((p.bv.length : Int) - s.2).toNat) ?_ ⟨by simp, by simp⟩) (fun o ho => Ok.ret ho)
  rintro ⟨v, i⟩ ⟨⟨i0, i1⟩, i2, i3⟩
  simp only at i0 i1 i2 i3
  unfold ja
  have hst : Ok (some (.stop v)) (Ok.S (fun s : Int × Int => (0 ≤ s.2 ∧ s.2 ≤ (p.bv.length : Int)) ∧ 0 ≤ s.1 ∧ s.1 ≤ s.2) (fun s => ((p.bv.length : Int) - s.2).toNat) (fun r : Int => 0 ≤ r ∧ r ≤ p.bv.length) (v, i)) := Ok.st ⟨i2, by omega⟩
  refine Ok.iteD (fun hlt => ?_) (fun _ => hst)
  refine Ok.bind (jD p) (fun x _ => Ok.iteE (fun _ => ?_) (fun _ => hst))
  refine Ok.bind (Ok.get i0 hlt) (fun y _ => ?_)
  refine Ok.bind (meets_ok _ _) (fun z _ => ?_)
  rw [w64 (by omega) (by omega)]
  refine Ok.iteB (fun _ => ?_) (fun _ => ?_)
  · exact Ok.nx ⟨by simp only; omega, by simp only; omega⟩ (by simp only; omega)
  · exact Ok.nx ⟨by simp only; omega, by simp only; omega⟩ (by simp only; omega)
theorem v24_ok (p : ak) : Ok (ge p) (fun _ => True) := by
  unfold ge
  repeat' (first | refine Ok.iteD (fun _ => ?_) (fun _ => ?_) | exact Ok.ret trivial)
theorem square_ok (p q : ak) : Ok (gC p q) (fun _ => True) := by
  unfold gC fA
  refine Ok.bind (v24_ok _) (fun x _ => Ok.iteN (fun _ => Ok.ret trivial) (fun _ => ?_))
  refine Ok.bind (v24_ok _) (fun x _ => Ok.iteN (fun _ => Ok.ret trivial) (fun _ => ?_))
  simp only [Option.bind_some]
  exact Ok.ret trivial
theorem moved_ok (p : Policy) (a b : Ev) (h8 : p.bv.length ≤ 8) : Ok (ic p a b) (fun _ => True) := by
  unfold ic fC jv
  refine Ok.bind (jD p) (fun x _ => Ok.iteNe (fun _ => Ok.ret trivial) (fun _ => ?_))
  refine Ok.bind (iu p _ h8) (fun y _ => ?_)
  refine Ok.bind (iu p _ h8) (fun z _ => Ok.iteNe (fun _ => Ok.ret trivial) (fun _ => ?_))
  refine Ok.bind (P := fun _ => True) (Ok.ret trivial) (fun w _ => Ok.iteN (fun _ => Ok.ret trivial) (fun _ => ?_))
  refine Ok.iteD (fun _ => ?_) (fun _ => Ok.ret trivial)
  exact Ok.bind (square_ok _ _) (fun v _ => Ok.iteD (fun _ => Ok.ret trivial) (fun _ => Ok.ret trivial))
theorem timely_ok (p : Policy) (e : Ev) (now : Int) (h8 : p.bv.length ≤ 8) : Ok (gD p e now) (fun _ => True) := by
  unfold gD
  refine Ok.bind (iu p e h8) (fun x hx => Ok.iteE (fun _ => Ok.ret trivial) (fun hne => ?_))
  refine Ok.iteD (fun _ => ?_) (fun _ => Ok.ret trivial)
  rw [w64 (n := x - 1) (by omega) (by omega)]
  exact Ok.bind (Ok.get (by omega) (by omega)) (fun y _ => Ok.ret trivial)

structure BulPre (b : Bul) : Prop where
  num0 : 0 ≤ b.aT
  kind0 : 1 ≤ b.ba
  kind1 : b.ba ≤ 3
  id0 : 0 ≤ b.fID
  id1 : b.fID ≤ b.aT
  iss : b.fID = b.aT ↔ b.ba = 1
  lev0 : 0 ≤ b.aX
  lev1 : b.aX ≤ 8
  at_ : dq b.fAt
  ev : EvOk b.ae
theorem BulPre.ok {b : Bul} (h : BulPre b) (h1 : b.aT < 1000) : fc b := by
  obtain ⟨a1, a2, a3, a4, a5, a6, a7, a8, a9, a10⟩ := h
  exact ⟨a1, h1, a2, a3, a4, a5, a6, a7, a8, a9, a10⟩
structure AlOk (n : Int) (a : Alert) : Prop where
  id0 : 0 ≤ a.fID
  id1 : a.fID < n
  lev0 : 0 ≤ a.aX
  lev1 : a.aX ≤ 8
  ev : EvOk a.ae
theorem AlOk.mono {n m : Int} {a : Alert} (h : AlOk n a) (hm : n ≤ m) : AlOk m a := ⟨h.id0, by have := h.id1; omega, h.lev0, h.lev1, h.ev⟩
def TlOk (n : Int) (l : List Bul) : Prop := (∀ b ∈ l, BulPre b) ∧ ∀ (k : Nat) (h : k < l.length), l[k].aT = n + (k : Int)
theorem TlOk.app {n : Int} {l : List Bul} {b : Bul} (h : TlOk n l) (hb : BulPre b) (hn : b.aT = n + (l.length : Int)) : TlOk n (l ++ [b]) := by
  refine ⟨fun x hx => ?_, fun k hk => ?_⟩
  · rcases List.mem_append.1 hx with hx | hx
    · exact h.1 x hx
    · obtain rfl := List.mem_singleton.1 hx; exact hb
  · by_cases hlt : k < l.length
    · rw [List.getElem_append_left hlt]; exact h.2 k hlt
    · have : k = l.length := by simp only [List.length_append, List.length_cons, List.length_nil] at hk; omega
      subst this
      simpa using hn
theorem kj {α : Type} {P : α → Prop} {l : List α} {x : α} (h : ∀ a ∈ l, P a) (hx : P x) : ∀ a ∈ l ++ [x], P a := by
  intro a ha
  rcases List.mem_append.1 ha with ha | ha
  · exact h a ha
  · obtain rfl := List.mem_singleton.1 ha; exact hx
structure Inv (L n : Int) (s : Int × List Alert × List Bul) : Prop where
  i0 : 0 ≤ s.1
  i1 : s.1 ≤ L
  al : s.2.1.length = s.1.toNat
  tl : s.2.2.length ≤ s.1.toNat
  als : ∀ a ∈ s.2.1, AlOk n a
  tls : TlOk n s.2.2
def Fin (n : Int) (o : List Alert × List Bul) : Prop := (o.1.length ≤ 200 ∧ o.2.length ≤ 200) ∧ (∀ a ∈ o.1, AlOk n a) ∧ TlOk n o.2
theorem k53_ok {Q : List Alert × List Bul → Prop} {L n now : Int} {x : Alert} {al : List Alert} {bs : List Bul} {i kind lev : Int} {wd : Bool} {e : Ev} {j12 j13 j14 j15 : List UInt8} {j16 j17 j18 j19 j20 : Int} (hI : Inv L n (i, al, bs)) (hL : L ≤ 200) (hn0 : 0 ≤ n) (hn1 : n ≤ 1000) (hi : i < L) (hx : AlOk n x) (hk : kind = 0 ∨ kind = 2 ∨ kind = 3)
    (hl0 : 0 ≤ lev) (hl1 : lev ≤ 8) (hnow0 : 0 ≤ now) (hnow1 : now ≤ 1000000) (he : EvOk e) :
    Ok (cv bs n x now al j12 j13 j14 j15 j16 j17 j18 j19 j20 i kind wd lev e.aj.ai.aB e.aj.ai.aD e.aj.ai.ac e.aj.ai.aC e.aj.aF e.aj.aL e.aj.aP e.aj.aq e.aj.av e.aa.aJ e.aa.ac.aA.fX e.aa.ac.aA.fY e.aa.ac.aA.fZ
      e.aa.ac.aF e.aa.ac.aQ e.aa.ac.aW e.aa.ac.am.aI.fX e.aa.ac.am.aI.fY e.aa.ac.am.aI.fZ e.aa.ac.am.aw.fX e.aa.ac.am.aw.fY e.aa.ac.am.aw.fZ e.aa.ap.aI e.aa.ap.aw e.aa.aU)
      (Ok.S (Inv L n) (fun s => (L - s.1).toNat) Q (i, al, bs)) := by
  obtain ⟨i0, i1, i2, i3, i4, i5⟩ := hI
  simp only at i0 i1 i2 i3 i4 i5
  have hnum : IntKind.wrap .i64 (n + (bs.length : Int)) = n + (bs.length : Int) := w64 (by omega) (by omega)
  unfold cv
  rw [hnum, w64 (n := i + 1) (by omega) (by omega)]
  refine Ok.iteD (fun hpos => ?_) (fun _ => ?_)
  · refine Ok.bind (Ok.app (by simp only [List.length_cons, List.length_nil]; omega)) (fun y hy => ?_)
    refine Ok.bind (Ok.app (by simp only [List.length_cons, List.length_nil]; omega)) (fun z hz => ?_)
    subst hy hz
    refine Ok.nx ⟨by simp only; omega, by simp only; omega, by simp only [List.length_append, List.length_cons, List.length_nil]; omega, by simp only [List.length_append, List.length_cons, List.length_nil]; omega, ?_, ?_⟩ (by simp only; omega)
    · exact kj i4 ⟨hx.id0, hx.id1, hl0, hl1, he⟩
    · have h1 := hx.id1
      refine TlOk.app i5 ⟨?_, ?_, ?_, hx.id0, ?_, ?_, hl0, hl1, ⟨by simp only; omega, by simp only; omega⟩, he⟩ rfl
      · simp only; omega
      · simp only; omega
      · simp only; omega
      · simp only; omega
      · simp only; omega
  · refine Ok.bind (Ok.app (by simp only [List.length_cons, List.length_nil]; omega)) (fun z hz => ?_)
    subst hz
    refine Ok.nx ⟨by simp only; omega, by simp only; omega, by simp only [List.length_append, List.length_cons, List.length_nil]; omega, by simp only; omega, ?_, i5⟩ (by simp only; omega)
    exact kj i4 ⟨hx.id0, hx.id1, hl0, hl1, he⟩
structure StepIn (p : Policy) (l : List Alert) (n : Int) (es : List Ev) (now : Int) : Prop where
  len : l.length ≤ 200
  als : ∀ a ∈ l, AlOk n a
  n0 : 0 ≤ n
  n1 : n ≤ 1000
  elen : es.length ≤ 4
  evs : ∀ e ∈ es, EvOk e
  now0 : 0 ≤ now
  now1 : now ≤ 1000000
theorem same_get {α : Type} {l : List α} {n : Nat} {x y : α} (h : l[n]? = some x) (h' : l[n]? = some y) : x = y := Option.some.inj (h.symm.trans h')
theorem k67_ok {Q : List Alert × List Bul → Prop} {p : Policy} {l : List Alert} {n : Int} {es : List Ev} {now : Int} {fl : List Int} (h : StepIn p l n es now) (h8 : p.bv.length ≤ 8) (hf : jL es l.length fl) {al : List Alert} {bs : List Bul} {i : Int} (hI : Inv (l.length : Int) n (i, al, bs)) (hi : i < l.length) {x : Alert} (hx : AlOk n x)
    {j12 j13 j14 j15 : List UInt8} {j16 j17 j18 j19 j20 : Int} : Ok (eA fl i x bs n now al es p j12 j13 j14 j15 j16 j17 j18 j19 j20) (Ok.S (Inv (l.length : Int) n) (fun s => ((l.length : Int) - s.1).toNat) Q (i, al, bs)) := by
  obtain ⟨a1, a2, a3, a4, a5, a6, a7, a8⟩ := h
  obtain ⟨f1, f2⟩ := hf
  have i0 : 0 ≤ i := hI.i0
  have hL : (l.length : Int) ≤ 200 := by omega
  have lv : ∀ {k : Int} {wd : Bool}, k = 0 ∨ k = 2 ∨ k = 3 → Ok _ _ := fun {k wd} hk => k53_ok (Q := Q) (kind := k) (wd := wd) (j12 := j12) (j13 := j13) (j14 := j14) (j15 := j15) (j16 := j16) (j17 := j17) (j18 := j18) (j19 := j19) (j20 := j20) hI hL a3 a4 hi hx hk hx.lev0 hx.lev1 a7 a8 hx.ev
  unfold eA
  refine Ok.bind (Ok.get i0 (by omega)) (fun y hy => ?_)
  have hye := f2 y hy.1
  refine Ok.iteB (fun _ => lv (.inl rfl)) (fun _ => ?_)
  refine Ok.iteD (fun _ => lv (.inr (.inr rfl))) (fun hneg => ?_)
  refine Ok.bind (Ok.get (by omega) hye) (fun e1 h1 => ?_)
  refine Ok.bind (iu p _ h8) (fun v hv => Ok.iteE (fun _ => lv (.inr (.inr rfl))) (fun _ => ?_))
  refine Ok.bind (Ok.get (by omega) hye) (fun e2 h2 => ?_)
  refine Ok.bind (moved_ok p _ _ h8) (fun m _ => Ok.iteB (fun _ => ?_) (fun _ => lv (.inl rfl)))
  refine Ok.iteD (fun _ => ?_) (fun _ => lv (.inl rfl))
  refine Ok.bind (Ok.get (by omega) hye) (fun e3 h3 => ?_)
  refine Ok.bind (iu p _ h8) (fun v2 hv2 => ?_)
  refine Ok.bind (Ok.get (by omega) hye) (fun e4 h4 => ?_)
  exact k53_ok hI hL a3 a4 hi hx (.inr (.inl rfl)) hv2.1 (by omega) a7 a8 (a6 _ h4.1)
theorem step_l72 {p : Policy} {l : List Alert} {n : Int} {es : List Ev} {now : Int} {fl : List Int} (h : StepIn p l n es now) (h8 : p.bv.length ≤ 8) (hf : jL es l.length fl) :
    Ok (loopO (gW l fl es n now p) ((0 : Int), [], [])) (Fin n) := by
  have hlen := h.len
  refine Ok.loop (Inv (l.length : Int) n) (fun s => ((l.length : Int) - s.1).toNat) ?_ ⟨by simp, by simp, by simp, by simp, by simp, by simp [TlOk]⟩
  rintro ⟨i, al, bs⟩ hI
  have hI' := hI
  obtain ⟨i0, i1, i2, i3, i4, i5⟩ := hI'
  simp only at i0 i1 i2 i3 i4 i5
  unfold gW
  refine Ok.iteD (fun hlt => ?_) (fun _ => Ok.st ⟨⟨show al.length ≤ 200 by omega, show bs.length ≤ 200 by omega⟩, i4, i5⟩)
  refine Ok.bind (Ok.get i0 hlt) (fun x hx => ?_)
  have hxa := h.als x hx.1
  have hfl := hf.1
  refine Ok.bind (Ok.get i0 (by omega)) (fun y hy => ?_)
  refine Ok.iteD (fun hpos => ?_) (fun _ => k67_ok h h8 hf hI hlt hxa)
  refine Ok.bind (Ok.get i0 (by omega)) (fun z hz => ?_)
  obtain rfl := same_get hy.2 hz.2
  refine Ok.bind (Ok.get hpos (hf.2 y hy.1)) (fun e _ => ?_)
  exact k67_ok h h8 hf hI hlt hxa
structure Inv2 (E n : Int) (s : Int × List Alert × List Bul) : Prop where
  i0 : 0 ≤ s.1
  i1 : s.1 ≤ E
  al : s.2.1.length ≤ 200 + s.1.toNat
  tl : s.2.2.length ≤ 200 + s.1.toNat
  als : ∀ a ∈ s.2.1, AlOk (n + (s.2.2.length : Int)) a
  tls : TlOk n s.2.2
def Fin2 (n : Int) (o : List Alert × List Bul) : Prop := (o.1.length ≤ 300 ∧ o.2.length ≤ 300) ∧ (∀ a ∈ o.1, AlOk (n + (o.2.length : Int)) a) ∧ TlOk n o.2
theorem step_l92 {p : Policy} {l : List Alert} {n : Int} {es : List Ev} {now : Int} {fl : List Int} (h : StepIn p l n es now) (h8 : p.bv.length ≤ 8) (hf : jL es l.length fl) {o : List Alert × List Bul} (ho : Fin n o) :
    Ok (loopO (gX es fl p now n) ((0 : Int), o.1, o.2)) (Fin2 n) := by
  have hlen := h.len
  have hel := h.elen
  have hn0 := h.n0
  have hn1 := h.n1
  have hfl := hf.1
  obtain ⟨⟨o1, o2⟩, o3, o4⟩ := ho
  refine Ok.loop (Inv2 (es.length : Int) n) (fun s => ((es.length : Int) - s.1).toNat) ?_ ⟨by simp, by simp only; omega, by simp only; omega, by simp only; omega, fun a ha => (o3 a ha).mono (by omega), o4⟩
  rintro ⟨i, al, bs⟩ ⟨i0, i1, i2, i3, i4, i5⟩
  simp only at i0 i1 i2 i3 i4 i5
  unfold gX
  have hw : IntKind.wrap .i64 (i + 1) = i + 1 := w64 (by omega) (by omega)
  have hnum : IntKind.wrap .i64 (n + (bs.length : Int)) = n + (bs.length : Int) := w64 (by omega) (by omega)
  dsimp only
  rw [hw, hnum]
  have nx : i < es.length → Ok (some (.next (i + 1, al, bs))) (Ok.S (Inv2 (es.length : Int) n) (fun s => ((es.length : Int) - s.1).toNat) (Fin2 n) (i, al, bs)) := fun hlt =>
    Ok.nx ⟨by simp only; omega, by simp only; omega, by simp only; omega, by simp only; omega, i4, i5⟩ (by simp only; omega)
  refine Ok.iteD (fun hlt => ?_) (fun _ => Ok.st ⟨⟨show al.length ≤ 300 by omega, show bs.length ≤ 300 by omega⟩, i4, i5⟩)
  refine Ok.bind (inqq_ok _ _ (by omega)) (fun x _ => Ok.iteB (fun _ => nx hlt) (fun _ => ?_))
  refine Ok.bind (Ok.get i0 hlt) (fun e1 h1 => ?_)
  refine Ok.bind (timely_ok p _ _ h8) (fun y _ => Ok.iteN (fun _ => nx hlt) (fun _ => ?_))
  refine Ok.bind (Ok.get i0 hlt) (fun e2 h2 => ?_)
  refine Ok.bind (Ok.get i0 hlt) (fun e3 h3 => ?_)
  refine Ok.bind (iu p _ h8) (fun v hv => ?_)
  refine Ok.bind (Ok.get i0 hlt) (fun e4 h4 => ?_)
  have he4 := h.evs e4 h4.1
  refine Ok.bind (Ok.app (by simp only [List.length_cons, List.length_nil]; omega)) (fun z hz => ?_)
  refine Ok.bind (Ok.app (by simp only [List.length_cons, List.length_nil]; omega)) (fun w hw => ?_)
  subst hz hw
  have hbl : ((bs ++ [(ag.mk (n + (bs.length : Int)) 1 (n + (bs.length : Int)) now v e4)]).length : Int) = (bs.length : Int) + 1 := by simp
  refine Ok.nx ⟨by simp only; omega, by simp only; omega, by simp only [List.length_append, List.length_cons, List.length_nil]; omega, by simp only [List.length_append, List.length_cons, List.length_nil]; omega, ?_, ?_⟩ (by simp only; omega)
  · simp only
    rw [hbl]
    exact kj (fun a ha => (i4 a ha).mono (by omega)) ⟨by simp only; omega, by simp only; omega, hv.1, by simp only; omega, he4⟩
  · exact TlOk.app i5 ⟨by simp only; omega, by simp only; omega, by simp only; omega, by simp only; omega, by simp only; omega, by simp only, hv.1, by simp only; omega, ⟨by simp only; have := h.now0; omega, by simp only; have := h.now1; omega⟩, he4⟩ rfl
theorem step_ok {p : Policy} {l : List Alert} {n : Int} {es : List Ev} {now : Int} (h : StepIn p l n es now) :
    Ok (iP p l n es now) (fun r => r.2.2 = 0 → (r.1.length ≤ 200 ∧ ∀ a ∈ r.1, AlOk (n + (r.2.1.length : Int)) a) ∧ n + (r.2.1.length : Int) ≤ 1000 ∧ TlOk n r.2.1) := by
  have hlen := h.len
  have hel := h.elen
  have hn0 := h.n0
  have hn1 := h.n1
  have hq : ∀ e ∈ es, e.aa.aJ.length ≤ 1000 := fun e he => by have := (h.evs e he).sol.len; omega
  have hp : ∀ a ∈ l, a.ae.aa.aJ.length ≤ 1000 := fun a ha => by have := (h.als a ha).ev.sol.len; omega
  unfold iP
  refine Ok.bind (errors_ok p l n es now (by omega) (by omega) hq) (fun x hx => Ok.iteNe (fun hne => Ok.ret (fun e => (hne e).elim)) (fun h0 => ?_))
  have h8 := hx h0
  refine Ok.bind (follow_ok l es (by omega) (by omega) hp hq) (fun fl hfl => ?_)
  refine Ok.bind (step_l72 h h8 hfl) (fun o ho => ?_)
  refine Ok.bind (step_l92 h h8 hfl ho) (fun o' ho' => ?_)
  obtain ⟨⟨b1, b2⟩, b3, b4⟩ := ho'
  refine Ok.iteD (fun _ => Ok.ret (fun e => by cases e)) (fun h200 => ?_)
  rw [w64 (by omega) (by omega)]
  refine Ok.iteD (fun hbig => ?_) (fun hsm => Ok.ret (fun _ => ⟨⟨show o'.1.length ≤ 200 by omega, b3⟩, show n + (o'.2.length : Int) ≤ 1000 by omega, b4⟩))
  refine Ok.iteD (fun _ => Ok.ret (fun e => by cases e)) (fun hz => Ok.ret (fun _ => ⟨⟨show o'.1.length ≤ 200 by omega, b3⟩, show n + (o'.2.length : Int) ≤ 1000 by omega, b4⟩))

def je (l : List Bul) : Prop := l.length ≤ 1000 ∧ (∀ b ∈ l, fc b) ∧ ∀ (k : Nat) (h : k < l.length), l[k].aT = (k : Int)
theorem je.app {l m : List Bul} (h : je l) (hm : TlOk (l.length : Int) m) (hn : (l.length : Int) + (m.length : Int) ≤ 1000) : je (l ++ m) := by
  refine ⟨by rw [List.length_append]; omega, fun b hb => ?_, fun k hk => ?_⟩
  · rcases List.mem_append.1 hb with hb | hb
    · exact h.2.1 b hb
    · obtain ⟨k, hk, rfl⟩ := List.getElem_of_mem hb
      exact (hm.1 _ (List.getElem_mem hk)).ok (by rw [hm.2 k hk]; omega)
  · by_cases hlt : k < l.length
    · rw [List.getElem_append_left hlt]; exact h.2.2 k hlt
    · rw [List.getElem_append_right (by omega)]
      rw [List.length_append] at hk
      rw [hm.2 (k - l.length) (by omega)]; omega
theorem told_ok (k : Int) (hk0 : 0 ≤ k) (hk1 : k ≤ 100) (d : Src) (hd : dh d) : Ok (iM k d) (fun r => je r.1 ∧ dh r.2) := by
  unfold iM
  refine Ok.bind (policy_ok d hd) (fun x hx => ?_)
  refine Ok.bind (P := fun o => je o.1 ∧ dh ⟨o.2.1, o.2.2⟩) (Ok.loop (fun s => (0 ≤ s.2.2.1 ∧ s.2.2.1 ≤ k) ∧ (1000 ≤ s.2.1 ∧ s.2.1 ≤ 1000 + 400 * s.2.2.1) ∧ dh ⟨s.2.2.2.1, s.2.2.2.2.1⟩ ∧ (s.1.length ≤ 200 ∧ ∀ a ∈ s.1, AlOk (s.2.2.2.2.2.length : Int) a) ∧ je s.2.2.2.2.2) (fun s => (k - s.2.2.1).toNat) ?_
    ⟨by simp only; omega, by simp, hx.2, by simp, by simp [je]⟩) (fun o ho => Ok.ret ho)
  rintro ⟨al, now, i, L, a, bs⟩ ⟨⟨i0, i1⟩, ⟨n0, n1⟩, i2, ⟨i3, i4⟩, i5⟩
  simp only at i0 i1 n0 n1 i2 i3 i4 i5
  have hbl := i5.1
  unfold jo
  refine Ok.iteD (fun hlt => ?_) (fun _ => Ok.st ⟨i5, i2⟩)
  refine Ok.bind (gl _ _ i2 (by omega) (by omega)) (fun y hy => ?_)
  refine Ok.bind (events_ok _ hy.2.2) (fun z hz => ?_)
  rw [w64 (n := now + y.1) (by omega) (by omega), w64 (n := i + 1) (by omega) (by omega)]
  have hin : StepIn x.1 al (bs.length : Int) z.1 (now + y.1) := ⟨i3, i4, by omega, by omega, hz.1.1, hz.1.2, by omega, by omega⟩
  refine Ok.bind (step_ok hin) (fun w hw => ?_)
  refine Ok.iteE (fun he => ?_) (fun _ => ?_)
  · obtain ⟨⟨w1, w2⟩, w3, w4⟩ := hw he
    refine Ok.bind (Ok.app (by omega)) (fun v hv => ?_)
    subst hv
    refine Ok.nx ⟨by simp only; omega, by simp only; omega, hz.2, ⟨w1, ?_⟩, i5.app w4 w3⟩ (by simp only; omega)
    intro a ha
    have := w2 a ha
    simpa using this
  · exact Ok.nx ⟨by simp only; omega, by simp only; omega, hz.2, ⟨i3, i4⟩, i5⟩ (by simp only; omega)
end Go.Dw.Fh



set_option maxRecDepth 100000
set_option maxHeartbeats 4000000
namespace Go.Dw.Fh
open Go.Dw Go.Lib

def FitsIn (b : Bul) : Prop := So.eM b.ae.aj.ai ∧ ∀ p ∈ b.ae.aa.aJ, So.eM p.ai
theorem small_ok (l : List Bul) (hl : l.length ≤ 9223372036854775807) : Ok (hT l) (fun r => r = true → l.length ≤ 20 ∧ ∀ b ∈ l, b.ae.aa.aJ.length ≤ 80) := by
  unfold hT
  refine Ok.bind (P := fun o : Unit ⊕ Bool => (o = .inl () → ∀ b ∈ l, b.ae.aa.aJ.length ≤ 80) ∧ ∀ y, o = .inr y → y = false) (Ok.loop (fun i => (0 ≤ i ∧ i ≤ (l.length : Int)) ∧ ∀ b ∈ l.take i.toNat, b.ae.aa.aJ.length ≤ 80) (fun i => ((l.length : Int) - i).toNat) ?_ ⟨by omega, by simp⟩) (fun o ho => ?_)
  · rintro i ⟨⟨i0, i1⟩, ih⟩
    unfold jn
    refine Ok.iteD (fun hlt => ?_) (fun hge => ?_)
    · refine Ok.bind (Ok.get i0 hlt) (fun x hx => Ok.iteD (fun _ => Ok.st ⟨(fun e => by cases e), (fun y e => by cases e; rfl)⟩) (fun h80 => ?_))
      rw [w64 (by omega) (by omega)]
      refine Ok.nx ⟨by omega, fun b hb => ?_⟩ (by omega)
      rw [show (i + 1).toNat = i.toNat + 1 by omega, List.take_add_one, hx.2] at hb
      rcases List.mem_append.1 hb with hb | hb
      · exact ih b hb
      · simp at hb; subst hb; omega
    · rw [List.take_of_length_le (by omega)] at ih
      exact Ok.st ⟨fun _ => ih, (fun y e => by cases e)⟩
  · cases o with
    | inl y => exact Ok.ret (fun e => ⟨by have := of_decide_eq_true e; omega, ho.1 rfl⟩)
    | inr y => exact Ok.ret (fun e => by rw [ho.2 y rfl] at e; cases e)
theorem bentpick_ok (p : Pick) (hp : So.eM p.ai) (d : Src) (hd : dh d) : Ok (gz p d) (fun r => So.eM r.1.ai ∧ dh r.2) := by
  unfold gz
  refine Ok.bind (gl _ d hd (by omega) (by omega)) (fun x hx => ?_)
  refine Ok.iteE (fun _ => Ok.ret ⟨⟨hp.1, by simp, hp.2.2.1, hp.2.2.2⟩, hx.2.2⟩) (fun _ => ?_)
  refine Ok.iteE (fun _ => Ok.ret ⟨hp, hx.2.2⟩) (fun _ => ?_)
  refine Ok.iteE (fun _ => ?_) (fun _ => ?_)
  · exact Ok.bind (eV _ _ hx.2.2 (by simp) (by simp)) (fun y hy => Ok.ret ⟨hp, hy.2⟩)
  refine Ok.iteE (fun _ => ?_) (fun _ => ?_)
  · exact Ok.bind (eV _ _ hx.2.2 (by simp) (by simp)) (fun y hy => Ok.ret ⟨hp, hy.2⟩)
  · exact Ok.bind (gl _ _ hx.2.2 (by omega) (by omega)) (fun y hy => Ok.ret ⟨hp, hy.2.2⟩)
theorem bent_ok (b : Bul) (hb : jK b) (d : Src) (hd : dh d) : Ok (iL b d) (fun r => jK r.1 ∧ dh r.2) := by
  unfold iL
  refine Ok.bind (eV _ d hd (by simp) (by simp)) (fun x1 h1 => ?_)
  refine Ok.bind (gl _ _ h1.2 (by omega) (by omega)) (fun x2 h2 => ?_)
  refine Ok.iteE (fun _ => ?_) (fun _ => ?_)
  · exact Ok.bind (eV _ _ h2.2.2 (by simp) (by simp)) (fun y hy => Ok.ret ⟨⟨hb.name, hb.picks, hb.len⟩, hy.2⟩)
  refine Ok.iteE (fun _ => ?_) (fun _ => ?_)
  · exact Ok.bind (gl _ _ h2.2.2 (by omega) (by omega)) (fun y hy => Ok.ret ⟨⟨hb.name, hb.picks, hb.len⟩, hy.2.2⟩)
  refine Ok.iteE (fun _ => ?_) (fun _ => ?_)
  · exact Ok.bind (gl _ _ h2.2.2 (by omega) (by omega)) (fun y hy => Ok.ret ⟨⟨hb.name, hb.picks, hb.len⟩, hy.2.2⟩)
  refine Ok.iteE (fun _ => Ok.ret ⟨⟨hb.name, hb.picks, hb.len⟩, h2.2.2⟩) (fun _ => ?_)
  refine Ok.iteE (fun _ => ?_) (fun _ => ?_)
  · exact Ok.bind (eV _ _ h2.2.2 (by simp) (by simp)) (fun y hy => Ok.ret ⟨⟨hb.name, hb.picks, hb.len⟩, hy.2⟩)
  refine Ok.iteE (fun _ => ?_) (fun _ => ?_)
  · exact Ok.bind (bentpick_ok _ hb.name _ h2.2.2) (fun y hy => Ok.ret ⟨⟨hy.1, hb.picks, hb.len⟩, hy.2⟩)
  refine Ok.iteE (fun _ => Ok.ret ⟨⟨hb.name, hb.picks, hb.len⟩, h2.2.2⟩) (fun _ => ?_)
  refine Ok.iteE (fun _ => Ok.ret ⟨⟨hb.name, hb.picks, hb.len⟩, h2.2.2⟩) (fun _ => ?_)
  refine Ok.bind (eV _ _ h2.2.2 (by simp) (by simp)) (fun y hy => ?_)
  have hy0 : 0 ≤ y.1 ∧ y.1 ≤ 2 := by
    have := hy.1
    simp only [List.mem_cons, List.not_mem_nil, or_false] at this
    omega
  refine Ok.bind (Ok.mk hy0.1 (by omega) (by omega)) (fun z hz => Ok.ret ⟨⟨hb.name, fun p hp => ?_, ?_⟩, hy.2⟩)
  · have hp : p ∈ z := hp
    rw [hz] at hp
    rw [(List.mem_replicate.1 hp).2]
    exact ⟨by simp, by simp, by simp, by simp⟩
  · show z.length ≤ 1000000
    rw [hz]; simp; omega
theorem sames_self {l : List Bul} (hl : l.length ≤ 1000000) (h : ∀ b ∈ l, b.ae.aa.aJ.length ≤ 1000000) : da l l = some true := by
  unfold da
  rw [if_neg (by simp), kg l (u := .inl ())]
  · rfl
  · intro i hi
    unfold ed
    rw [if_pos (by simp; omega), getO_at rfl hi, Option.bind_some, Option.bind_some, same_self (h _ (List.getElem_mem hi)), Option.bind_some, if_neg (by simp), w64 (by omega) (by omega)]
    simp
  · unfold ed
    rw [if_neg (by simp)]
theorem aw_ok : Ok (dW.bind fun x => some x) (fun b => b = true) := by rw [awake_at]; exact Ok.ret rfl
theorem hk67_ok (raw good odd : List Bul) (d : Src) (list : List Arr) (L : List Int) (A : Int) (hraw : ∀ b ∈ raw, jK b) (hrl : raw.length ≤ 1000) (hgood : je good) (hodd : ∀ b ∈ odd, jK b) (hol : odd.length ≤ 1000) (hd : dh ⟨L, A⟩) (hlist : ∀ a ∈ list, a.ei.length ≤ 300) (hll : list.length ≤ 20) :
    Ok (cr raw (good, d) list L A odd) (fun b => b = true) := by
  obtain ⟨g1, g2, g3⟩ := hgood
  unfold cr
  refine Ok.bind (P := fun o => o = .inl ()) (Ok.upto 3 (by omega) (fun _ => True) trivial (fun i h0 h1 _ => ?_)) (fun o ho => ?_)
  · unfold fe
    refine Ok.iteD (fun hlt => ?_) (fun _ => Ok.st rfl)
    refine Ok.bind (Ok.get h0 (by simp only [List.length_cons, List.length_nil]; omega)) (fun x hx => ?_)
    have hx1 : (∀ b ∈ x, jK b) ∧ x.length ≤ 1000 := by
      have := hx.1
      simp only [List.mem_cons, List.not_mem_nil, or_false] at this
      rcases this with rfl | rfl | rfl
      · exact ⟨hraw, hrl⟩
      · exact ⟨fun b hb => j9 (g2 b hb), g1⟩
      · exact ⟨hodd, hol⟩
    obtain ⟨hf, hl⟩ := hx1
    obtain ⟨r, e1, e2⟩ := history_eq hf (by omega)
    rw [e1, Option.bind_some, e2, Option.bind_some]
    refine Ok.iteN (fun h => by simp at h) (fun _ => ?_)
    obtain ⟨c, e3, e4, e5⟩ := current_eq (l := x) (by omega) (fun b hb => (hf b hb).len)
    have hcl : c.length ≤ 1000000 := by
      have h2 := kb (l := x) (by omega) (fun b hb => (hf b hb).len)
      rw [e3] at h2
      have := keepL_len x
      rw [Option.some.inj h2, List.length_mergeSort]; omega
    rw [e3, Option.bind_some, e4, Option.bind_some, sames_self hcl (fun b hb => (hf b (e5 b hb)).len), Option.bind_some]
    refine Ok.iteN (fun h => by cases h) (fun _ => ?_)
    rw [w64 (by omega) (by omega)]
    exact Ok.nx ⟨⟨by omega, by omega⟩, trivial⟩ (by omega)
  · subst ho
    simp only
    refine Ok.bind (gl _ _ hd (by omega) (by omega)) (fun x37 h37 => ?_)
    refine Ok.bind (P := fun o : List Arr => (∀ a ∈ o, Both a.ei) ∧ o.length ≤ 12) (Ok.loop (fun s => (0 ≤ s.1 ∧ s.1 + (s.2.2.2.length : Int) ≤ 12) ∧ dh ⟨s.2.1, s.2.2.1⟩ ∧ ∀ a ∈ s.2.2.2, Both a.ei) (fun s => s.1.toNat) ?_ ⟨by simp only [List.length_nil]; omega, h37.2.2, by simp⟩) (fun o ho => ?_)
    · rintro ⟨k, L', A', out⟩ ⟨⟨k0, k1⟩, k2, k3⟩
      simp only at k0 k1 k2 k3
      have fin : Ok (some (.stop out)) (Ok.S (fun s : Int × List Int × Int × List Arr => (0 ≤ s.1 ∧ s.1 + (s.2.2.2.length : Int) ≤ 12) ∧ dh ⟨s.2.1, s.2.2.1⟩ ∧ ∀ a ∈ s.2.2.2, Both a.ei) (fun s => s.1.toNat) (fun o : List Arr => (∀ a ∈ o, Both a.ei) ∧ o.length ≤ 12) (k, L', A', out)) := Ok.st ⟨k3, by omega⟩
      unfold fg
      refine Ok.iteD (fun hk => ?_) (fun _ => fin)
      refine Ok.iteD (fun hg => ?_) (fun _ => fin)
      simp only at hg
      refine Ok.bind (gl _ _ k2 (by simp only; split <;> omega) (by simp only; split <;> omega)) (fun x46 h46 => ?_)
      simp only at h46
      refine Ok.bind (Ok.get (l := good) h46.1 (by have := h46.2.1; split at this <;> omega)) (fun x47 h47 => ?_)
      rw [jZ (g2 x47 h47.1), Option.bind_some]
      refine Ok.bind (eV _ _ h46.2.2 (by simp) (by simp)) (fun x49 h49 => ?_)
      refine Ok.bind (Ok.app (by simp only [List.length_cons, List.length_nil]; omega)) (fun x50 h50 => ?_)
      subst h50
      rw [w64 (n := k - 1) (by omega) (by omega)]
      refine Ok.nx ⟨by simp only [List.length_append, List.length_cons, List.length_nil]; omega, h49.2, ?_⟩ (by simp only; omega)
      exact kj k3 (both_text (g2 x47 h47.1))
    · obtain ⟨ho1, ho2⟩ := ho
      refine Ok.bind (Ok.app (by omega)) (fun x53 h53 => ?_)
      have hb53 : (∀ a ∈ x53, Both a.ei) ∧ x53.length ≤ 100 := by
        subst h53
        refine ⟨fun a ha => ?_, by simp; omega⟩
        rcases List.mem_append.1 ha with ha | ha
        · exact ho1 a ha
        · exact both_short (by have := hlist a ha; omega)
      refine Ok.bind (P := fun o => o = .inl ()) (Ok.upto 3 (by omega) (fun _ => True) trivial (fun i h0 h1 _ => ?_)) (fun o' ho' => ?_)
      · unfold fh
        refine Ok.iteD (fun hlt => ?_) (fun _ => Ok.st rfl)
        refine Ok.bind (Ok.get h0 (by simp only [List.length_cons, List.length_nil]; omega)) (fun x hx => ?_)
        have hx1 : (∀ a ∈ x, Both a.ei) ∧ x.length ≤ 100 := by
          have := hx.1
          simp only [List.mem_cons, List.not_mem_nil, or_false] at this
          rcases this with rfl | rfl | rfl
          · exact ⟨fun a ha => both_short (by have := hlist a ha; omega), by omega⟩
          · exact ⟨ho1, by omega⟩
          · exact hb53
        obtain ⟨r, e1, e2, e3, e4⟩ := prefix_eq (l := x) (by omega) hx1.1
        rw [e1, Option.bind_some, e2, Option.bind_some, sames_self (by omega) e4, Option.bind_some]
        refine Ok.iteN (fun h => by cases h) (fun _ => ?_)
        rw [w64 (by omega) (by omega)]
        exact Ok.nx ⟨⟨by omega, by omega⟩, trivial⟩ (by omega)
      · subst ho'
        exact aw_ok
theorem j5 (raw : List Bul) (list : List Arr) (l : List Int) (hr : ∀ b ∈ raw, FitsIn b) (hrl : raw.length ≤ 9223372036854775807) : dN raw list l = some true := by
  refine Ok.eq ?_
  unfold dN
  refine Ok.bind (small_ok raw hrl) (fun x hx => Ok.iteN (fun _ => aw_ok) (fun hxt => ?_))
  obtain ⟨h20, h80⟩ := hx hxt
  refine Ok.iteD (fun _ => aw_ok) (fun hll => ?_)
  refine Ok.bind (P := fun o : Unit ⊕ Bool => (o = .inl () → ∀ a ∈ list, a.ei.length ≤ 300) ∧ ∀ y, o = .inr y → y = true) (Ok.loop (fun i => (0 ≤ i ∧ i ≤ (list.length : Int)) ∧ ∀ a ∈ list.take i.toNat, a.ei.length ≤ 300) (fun i => ((list.length : Int) - i).toNat) ?_ ⟨by omega, by simp⟩) (fun o ho => ?_)
  · rintro i ⟨⟨i0, i1⟩, ih⟩
    unfold fd
    refine Ok.iteD (fun hlt => ?_) (fun hge => ?_)
    · refine Ok.bind (Ok.get i0 hlt) (fun x hx => Ok.iteD (fun _ => ?_) (fun h300 => ?_))
      · rw [awake_at, Option.bind_some]
        exact Ok.st ⟨(fun e => by cases e), (fun y e => by cases e; rfl)⟩
      rw [w64 (by omega) (by omega)]
      refine Ok.nx ⟨by omega, fun b hb => ?_⟩ (by omega)
      rw [show (i + 1).toNat = i.toNat + 1 by omega, List.take_add_one, hx.2] at hb
      rcases List.mem_append.1 hb with hb | hb
      · exact ih b hb
      · simp at hb; subst hb; omega
    · rw [List.take_of_length_le (by omega)] at ih
      exact Ok.st ⟨fun _ => ih, (fun y e => by cases e)⟩
  · cases o with
    | inr y => rw [ho.2 y rfl]; exact Ok.ret rfl
    | inl y =>
      have hlist := ho.1 rfl
      simp only
      refine Ok.bind (new_ok l) (fun d hd => ?_)
      refine Ok.bind (told_ok 6 (by omega) (by omega) d hd) (fun x17 h17 => ?_)
      obtain ⟨hgood, hd2⟩ := h17
      obtain ⟨good, d2⟩ := x17
      obtain ⟨g1, g2, g3⟩ := id hgood
      simp only at g1 g2 hd2 ⊢
      have hraw : ∀ b ∈ raw, jK b := fun b hb => ⟨(hr b hb).1, (hr b hb).2, by have := h80 b hb; omega⟩
      have hgf : ∀ b ∈ good, jK b := fun b hb => j9 (g2 b hb)
      refine Ok.bind (Ok.app (by simp only [List.length_nil]; omega)) (fun x18 h18 => ?_)
      rw [List.nil_append] at h18
      subst h18
      refine Ok.iteD (fun hpos => ?_) (fun _ => ?_)
      · refine Ok.bind (gl _ _ hd2 (by omega) (by omega)) (fun x69 h69 => ?_)
        refine Ok.bind (Ok.isin h69.1 h69.2.1) (fun _ _ => ?_)
        refine Ok.bind (Ok.get h69.1 h69.2.1) (fun x72 h72 => ?_)
        refine Ok.bind (bent_ok x72 (hgf _ h72.1) _ h69.2.2) (fun x73 h73 => ?_)
        refine Ok.bind (Ok.isin h69.1 h69.2.1) (fun _ _ => ?_)
        refine Ok.bind (Ok.set h69.1 h69.2.1) (fun x76 h76 => ?_)
        refine hk67_ok raw x18 x76 d2 list _ _ hraw (by omega) hgood ?_ ?_ h73.2 hlist (by omega)
        · subst h76
          intro b hb
          rcases List.mem_or_eq_of_mem_set hb with h | h
          · exact hgf b h
          · subst h; exact h73.1
        · subst h76
          rw [List.length_set]; exact g1
      · exact hk67_ok raw x18 x18 d2 list _ _ hraw (by omega) hgood hgf g1 hd2 hlist (by omega)
end Go.Dw.Fh
