
import Derived.Test.YtoplbomkhkbklaaGreatDwOp

namespace Go.Dw

def Lc {α : Type} (m : M α) : Prop := ∀ b b' a r c, m b = some (a, r, c) → (∀ id ∈ r, b' id = b id) → m b' = some (a, r, c)
theorem Lc.pure {α : Type} (a : α) : Lc (M.pure a) := fun _ _ _ _ _ h _ => h
theorem Lc.oY {α : Type} (k : Bool) (a : α) : Lc (M.oY k a) := fun _ _ _ _ _ h _ => h
theorem Lc.fail {α : Type} : Lc (M.fail : M α) := fun _ _ _ _ _ h _ => h
theorem Lc.get (id : Nat) : Lc (M.get id) := by
 intro b b' a r c h hb
 obtain ⟨h1, h2, h3⟩ := M.get_some h
 subst h2; subst h3
 simp [M.get, hb id sm, h1]
theorem Lc.pk (id : Nat) : Lc (M.pk id) := by
 intro b b' a r c h hb
 obtain ⟨h1, h2, h3⟩ := M.pI h
 subst h2; subst h3
 simp [M.pk, hb id sm, h1]
theorem Lc.bind {α β : Type} {m : M α} {f : α → M β} (hm : Lc m) (hf : ∀ a, Lc (f a)) : Lc (M.bind m f) := by
 intro b b' x r c h hb
 unfold M.bind at h ⊢
 rcases h1 : m b with _ | ⟨a, r1, c1⟩
 ·simp [h1] at h
 simp only [h1] at h
 rcases h2 : f a b with _ | ⟨y, r2, c2⟩
 ·simp [h2] at h
 simp only [h2, Option.some.injEq, Prod.mk.injEq] at h
 obtain ⟨rfl, rfl, rfl⟩ := h
 rw [hm b b' a r1 c1 h1 (fun id hid => hb id (List.mem_append.2 (.inl hid)))]
 simp only [hf a b b' y r2 c2 h2 (fun id hid => hb id (List.mem_append.2 (.inr hid)))]
theorem Lc.pU (v : RV) : Lc (pU v) := Lc.pure _
theorem Lc.pE (k : Bool) (v : RV) : Lc (pE k v) := Lc.oY _ _
theorem Lc.ud (o : Option (PD × Bool)) : Lc (ud o) := by unfold Dw.ud; split <;> first | exact Lc.oY _ _ | exact Lc.fail

theorem Lc.uU (v : RV) : Lc (uU v) := by
 unfold Dw.uU
 split <;> first | exact Lc.pure _ | exact Lc.fail | skip
 all_goals refine Lc.bind (Lc.get _) fun bx => ?_
 all_goals (split <;> first | exact Lc.fail | skip)
 all_goals (split <;> first | exact Lc.pure _ | exact Lc.oY _ _ | exact Lc.fail)
theorem Lc.sJ : ∀ (cs : List RV), Lc (sJ cs)
 | [] => Lc.pure _
 | c :: cs => Lc.bind (Lc.uU c) fun _ => Lc.bind (Lc.sJ cs) fun _ => Lc.pure _
theorem Lc.ry (v : RV) : Lc (ry v) := by
 unfold Dw.ry
 split
 ·exact Lc.bind (Lc.sJ _) fun _ => Lc.pure _
 ·exact Lc.uU _
section
variable (P : Program)
theorem Lc.rQ (t : TypeId) (cs : List PD) : Lc (rQ P t cs) := by
 unfold Dw.rQ
 split <;> first | exact Lc.fail | exact Lc.pE _ _ | skip
 split <;> first | exact Lc.fail | exact Lc.pU _
theorem Lc.rp (t : TypeId) (cs : List RV) (o : Nat) : Lc (rp P t cs o) := by
 unfold Dw.rp
 split <;> first | exact Lc.fail | exact Lc.pE _ _ | skip
 split <;> first | exact Lc.fail | exact Lc.pU _
theorem Lc.sh (t : TypeId) (a : RV) : Lc (sh P t a) := by
 unfold Dw.sh
 split
 ·exact Lc.rQ P t _
 ·refine Lc.bind (Lc.get _) fun bx => ?_
  split <;> first | exact Lc.rp P t _ _ | exact Lc.fail
 ·refine Lc.bind (Lc.get _) fun bx => ?_
  split <;> first | exact Lc.fail | skip
  ·split <;> first | exact Lc.fail | skip
   split <;> first | exact Lc.fail | exact Lc.rQ P t _
  ·split <;> first | exact Lc.fail | skip
   split <;> first | exact Lc.fail | exact Lc.pU _
 ·exact Lc.fail
theorem Lc.tU (t : TypeId) (a v : RV) : Lc (tU P t a v) := by
 unfold Dw.tU
 split <;> first | exact Lc.fail | skip
 split
 ·refine Lc.bind (Lc.get _) fun bx => ?_
  split <;> first | exact Lc.oY _ _ | exact Lc.fail | skip
 ·refine Lc.bind (Lc.get _) fun bx => ?_
  split <;> first | exact Lc.fail | skip
  ·split <;> first | exact Lc.fail | skip
   refine Lc.bind (Lc.ry _) fun p => ?_
   obtain ⟨p, u⟩ := p
   dsimp only
   split <;> first | exact Lc.fail | skip
   split <;> first | exact Lc.fail | exact Lc.oY _ _
  ·exact iteInduction (motive := Lc) (fun _ => Lc.oY _ _) (fun _ => Lc.fail)
 ·exact Lc.fail
theorem Lc.uS (off : Nat) (x : RV) : Lc (uS off x) := by
 unfold Dw.uS
 split
 ·refine Lc.bind (Lc.get _) fun bx => ?_
  split <;> first | exact Lc.pU _ | exact Lc.fail
 ·refine Lc.bind (Lc.get _) fun bx => ?_
  split <;> first | exact Lc.fail | skip
  split <;> first | exact Lc.pU _ | exact Lc.fail
 ·exact Lc.pU _
 ·exact Lc.fail
theorem Lc.qW (t : TypeId) (x : RV) (f : Nat) : Lc (qW P t x f) := by
 unfold Dw.qW
 split <;> first | exact Lc.fail | skip
 split <;> first | exact Lc.fail | exact Lc.uS _ _
theorem Lc.u4 (t : TypeId) (x : RV) (f : Nat) : Lc (u4 P t x f) := by
 unfold Dw.u4
 split <;> first | exact Lc.fail | exact Lc.rp P _ _ _
theorem Lc.u6 (x i : RV) : Lc (u6 x i) := by
 unfold Dw.u6
 repeat' split
 all_goals first | exact Lc.pE _ _ | exact Lc.fail
theorem Lc.wi (len : Nat) (e : TypeId) (x i : RV) : Lc (wi P len e x i) := by
 unfold Dw.wi
 repeat' split
 all_goals first | exact Lc.bind (Lc.oY _ _) fun _ => Lc.rp _ _ _ _ | exact Lc.fail
theorem Lc.uo (t : TypeId) (x i : RV) : Lc (uo P t x i) := by
 unfold Dw.uo
 repeat' split
 all_goals first | exact Lc.u6 _ _ | exact Lc.wi _ _ _ _ _ | exact Lc.fail
theorem Lc.qc (t : TypeId) (x i : RV) : Lc (qc P t x i) := by
 unfold Dw.qc
 split
 ·split <;> first | exact Lc.fail | skip
  split <;> first | exact Lc.fail | exact Lc.pE _ _ | skip
  all_goals refine Lc.bind (Lc.get _) fun bx => ?_
  all_goals (split <;> first | exact Lc.fail | exact Lc.pE _ _ | skip)
  all_goals (split <;> first | exact Lc.fail | exact Lc.pE _ _)
 ·split <;> first | exact Lc.fail | skip
  exact Lc.bind (Lc.oY _ _) fun _ => Lc.uS _ _
 ·exact Lc.fail
theorem Lc.sliceB (e : TypeId) (id ver a b : Nat) (lo hi : Option RV) : Lc (sliceB P e id ver a b lo hi) := by
 unfold Dw.sliceB
 split <;> first | exact Lc.fail | skip
 refine Lc.bind (Lc.get _) fun bx => ?_
 split <;> first | exact Lc.fail | skip
 split <;> first | exact Lc.fail | exact Lc.pE _ _
theorem Lc.wA (nid : Nat) (e : TypeId) (n : Nat) (lo hi mx : Option RV) : Lc (wA P nid e n lo hi mx) := by
 unfold Dw.wA
 split <;> first | exact Lc.fail | skip
 split <;> first | exact Lc.fail | exact Lc.bind (Lc.pk _) fun _ => Lc.oY _ _
theorem Lc.vq (id : Nat) (a : TypeId) : Lc (vq P id a) := by
 unfold Dw.vq
 split <;> first | exact Lc.fail | skip
 split <;> first | exact Lc.fail | skip
 refine Lc.bind (Lc.get _) fun bx => ?_
 split <;> first | exact Lc.fail | skip
 split <;> first | exact Lc.fail | skip
 split <;> first | exact Lc.fail | exact Lc.oY _ _
theorem Lc.vu (e : TypeId) (id ver : Nat) (lo hi : Option RV) (mx : RV) : Lc (vu P e id ver lo hi mx) := by
 unfold Dw.vu
 split <;> first | exact Lc.fail | skip
 split <;> first | exact Lc.fail | skip
 refine Lc.bind (Lc.get _) fun bx => ?_
 split <;> first | exact Lc.fail | skip
 split <;> first | exact Lc.fail | exact Lc.oY _ _
theorem Lc.vr (a : TypeId) (cs : List PD) : Lc (vr P a cs) := by
 unfold Dw.vr
 split <;> first | exact Lc.fail | skip
 split <;> first | exact Lc.fail | skip
 split <;> first | exact Lc.fail | exact Lc.oY _ _
theorem Lc.xB (e : TypeId) (es : List PD) (h m : Int) : Lc (xB P e es h m) := by
 unfold Dw.xB
 split <;> first | exact Lc.fail | skip
 split <;> first | exact Lc.fail | exact Lc.oY _ _
theorem Lc.wT (t : TypeId) (x : RV) (lo hi mx : Option RV) : Lc (wT P t x lo hi mx) := by
 unfold Dw.wT
 split <;> first | exact Lc.fail | exact Lc.xB P _ _ _ _ | skip
 split <;> first | exact Lc.fail | skip
 refine Lc.bind (Lc.get _) fun bx => ?_
 split <;> first | exact Lc.fail | skip
 split <;> first | exact Lc.fail | exact Lc.oY _ _
theorem Lc.ql (nid : Nat) (t : TypeId) (x : RV) (lo hi mx : Option RV) : Lc (ql P nid t x lo hi mx) := by
 unfold Dw.ql
 split
 ·refine Lc.bind (Lc.get _) fun bx => ?_
  split <;> first | exact Lc.fail | exact Lc.sliceB P _ _ _ _ _ _ _
 ·exact Lc.sliceB P _ _ _ _ _ _ _
 ·split <;> first | exact Lc.fail | exact Lc.vq P _ _
 ·split <;> first | exact Lc.fail | exact Lc.vr P _ _
 ·split <;> first | exact Lc.fail | (split <;> first | exact Lc.pure _ | exact Lc.fail)
 ·exact Lc.wA P _ _ _ _ _ _
 ·exact Lc.vu P _ _ _ _ _ _
 all_goals first | exact Lc.fail | (split <;> first | exact Lc.fail | exact Lc.pE _ _)
theorem Lc.uZ (t : TypeId) (l : List (Nat × RV)) : Lc (uZ P t l) := by
 unfold Dw.uZ
 split
 ·split <;> first | exact Lc.fail | skip
  split <;> first | exact Lc.fail | exact Lc.pE _ _
 ·split <;> first | exact Lc.fail | skip
  split <;> first | exact Lc.fail | exact Lc.pE _ _
 ·exact Lc.fail
theorem Lc.u7 (mt : Bool) (cs : List RV) : Lc (u7 mt cs) := by
 unfold Dw.u7
 split
 ·exact Lc.pure _
 ·exact Lc.sJ _
theorem Lc.qw (mt : Bool) (id : Nat) (t : TypeId) (len : Nat) (l : List (Nat × RV)) : Lc (qw P mt id t len l) := by
 unfold Dw.qw
 split <;> first | exact Lc.fail | skip
 split <;> first | exact Lc.fail | skip
 split <;> first | exact Lc.fail | skip
 split <;> first | exact Lc.fail | skip
 refine Lc.bind (Lc.u7 _ _) fun p => ?_
 obtain ⟨ps, u⟩ := p
 dsimp only
 split
 ·exact Lc.bind (Lc.pk _) fun _ => Lc.oY _ _
 ·exact Lc.oY _ _
theorem Lc.uW (id : Nat) (t : TypeId) : Lc (uW P id t) := by
 unfold Dw.uW
 split <;> first | exact Lc.fail | exact Lc.bind (Lc.pk _) fun _ => Lc.pure _
theorem Lc.boxD (id : Nat) (v : RV) : Lc (boxD id v) := Lc.bind (Lc.pk _) fun _ => Lc.oY _ _
theorem Lc.xD (t : TypeId) (x : RV) : Lc (xD P t x) := by
 unfold Dw.xD
 split <;> first | exact Lc.fail | exact Lc.pU _ | skip
 all_goals refine Lc.bind (Lc.get _) fun bx => ?_
 all_goals (split <;> first | exact Lc.fail | exact Lc.pU _ | skip)
 all_goals (split <;> first | exact Lc.fail | exact Lc.pU _ | exact Lc.pE _ _)
theorem Lc.qM (x : RV) : Lc (qM x) := by
 unfold Dw.qM
 split <;> first | exact Lc.fail | exact Lc.pure _ | skip
 all_goals refine Lc.bind (Lc.get _) fun bx => ?_
 all_goals (split <;> first | exact Lc.fail | skip)
 all_goals (split <;> first | exact Lc.fail | exact Lc.pure _ | exact Lc.oY _ _)
theorem Lc.qF (id : Nat) (t t' : TypeId) (s x : RV) : Lc (qF P id t t' s x) := by
 unfold Dw.qF
 split <;> first | exact Lc.fail | skip
 split <;> first | exact Lc.fail | skip
 split <;> first | exact Lc.fail | skip
 refine Lc.bind (Lc.qM _) fun xs => ?_
 split
 ·exact Lc.bind (Lc.pk _) fun _ => Lc.oY _ _
 ·refine Lc.bind (Lc.get _) fun bx => ?_
  split <;> first | exact Lc.fail | skip
  all_goals (split <;> first | exact Lc.fail | exact Lc.oY _ _)
 ·refine Lc.bind (Lc.get _) fun bx => ?_
  split <;> first | exact Lc.fail | skip
  split <;> first | exact Lc.fail | exact Lc.oY _ _
 ·exact Lc.oY _ _
 ·exact Lc.fail
theorem Lc.wV (x : RV) : Lc (wV x) := by
 unfold Dw.wV
 split <;> first | exact Lc.fail | skip
 all_goals refine Lc.bind (Lc.get _) fun bx => ?_
 all_goals (split <;> first | exact Lc.fail | skip)
 all_goals (split <;> first | exact Lc.fail | exact Lc.pure _ | exact Lc.oY _ _)
theorem Lc.wE (t : TypeId) (x y : RV) : Lc (wE P t x y) := by
 unfold Dw.wE
 split <;> first | exact Lc.fail | skip
 split <;> first | exact Lc.fail | skip
 exact Lc.bind (Lc.wV _) fun _ => Lc.bind (Lc.qM _) fun _ => Lc.oY _ _
theorem Lc.sZ (t : TypeId) (x : RV) : Lc (sZ P t x) := by
 unfold Dw.sZ
 split <;> first | exact Lc.fail | skip
 split <;> first | exact Lc.fail | skip
 exact Lc.bind (Lc.wV _) fun _ => Lc.oY _ _
theorem Lc.minD (l : List RV) : Lc (minD l) := by
 unfold Dw.minD
 split <;> first | exact Lc.fail | skip
 split <;> first | exact Lc.fail | exact Lc.pure _
theorem Lc.maxD (l : List RV) : Lc (maxD l) := by
 unfold Dw.maxD
 split <;> first | exact Lc.fail | skip
 split <;> first | exact Lc.fail | exact Lc.pure _
theorem Lc.argD (by_ : Bool) (v : RV) : Lc (argD by_ v) := by
 unfold Dw.argD
 split <;> first | exact Lc.pure _ | exact Lc.bind (Lc.ry _) fun _ => Lc.oY _ _ | (split <;> first | exact Lc.pure _ | exact Lc.bind (Lc.ry _) fun _ => Lc.pure _ | exact Lc.bind (Lc.ry _) fun _ => Lc.oY _ _)
theorem Lc.uh (by_ : Nat → Bool) : ∀ (i : Nat) (l : List RV), Lc (uh by_ i l)
 | _, [] => Lc.pure _
 | i, v :: r => Lc.bind (Lc.argD _ v) fun _ => Lc.bind (Lc.uh by_ (i + 1) r) fun _ => Lc.pure _
theorem Lc.rq : ∀ (n : Nat) (done todo : List Nat), Lc (rq n done todo)
 | 0, _, _ => Lc.fail
 | _ + 1, _, [] => Lc.pure _
 | n + 1, done, i :: todo => by
  unfold Dw.rq
  split
  ·exact Lc.rq n _ _
  ·exact Lc.bind (Lc.get _) fun _ => Lc.rq n _ _
theorem Lc.uc : ∀ (l : List Nat), Lc (uc l)
 | [] => Lc.pure _
 | _ :: r => Lc.bind (Lc.get _) fun _ => Lc.bind (Lc.uc r) fun _ => Lc.pure _
theorem Lc.qT : ∀ (l : List Nat), Lc (qT l)
 | [] => Lc.pure _
 | _ :: r => Lc.bind (Lc.pk _) fun _ => Lc.qT r
theorem Lc.rk (by_ : FuncId → Nat → Bool) (call : pw) (f : FuncId) (base : Nat) (l : List RV) : Lc (rk by_ call f base l) := by
 unfold Dw.rk
 refine Lc.bind (Lc.uh _ _ _) fun x => Lc.bind (Lc.rq _ _ _) fun ids => Lc.bind (Lc.uc _) fun bxs => ?_
 split <;> first | exact Lc.fail | skip
 split <;> first | exact Lc.fail | exact Lc.bind (Lc.qT _) fun _ => Lc.pure _
theorem Lc.ub (id : Nat) (src dst : TypeId) (x : RV) : Lc (ub P id src dst x) := by
 unfold Dw.ub
 split
 ·split <;> first | exact Lc.fail | exact Lc.bind (Lc.pk _) fun _ => Lc.oY _ _
 ·split <;> first | exact Lc.fail | skip
  refine Lc.bind (Lc.get _) fun bx => ?_
  split <;> first | exact Lc.fail | skip
  refine iteInduction (motive := Lc) (fun _ => ?_) (fun _ => Lc.fail)
  split <;> first | exact Lc.fail | exact Lc.pU _
 ·split <;> first | exact Lc.fail | skip
  split <;> first | exact Lc.fail | exact Lc.pU _
 ·exact Lc.ud _
theorem Lc.rM (id : Nat) (t : TypeId) : Lc (rM P id t) := by
 unfold Dw.rM
 split <;> first | exact Lc.fail | exact Lc.bind (Lc.pk _) fun _ => Lc.pure _
theorem Lc.si (id : Nat) (t : TypeId) : Lc (si P id t) := by
 unfold Dw.si
 split <;> first | exact Lc.fail | skip
 split <;> first | exact Lc.fail | exact Lc.bind (Lc.pk _) fun _ => Lc.pure _
theorem Lc.rD (nid : Nat) (t : TypeId) (x k : RV) : Lc (rD P nid t x k) := by
 unfold Dw.rD
 split <;> first | exact Lc.fail | skip
 refine Lc.bind (Lc.get _) fun bx => ?_
 split <;> first | exact Lc.fail | skip
 refine iteInduction (motive := Lc) (fun _ => ?_) (fun _ => Lc.fail)
 refine Lc.bind (Lc.pk _) fun _ => ?_
 split
 ·exact Lc.oY _ _
 ·exact iteInduction (motive := Lc) (fun _ => Lc.pure _) (fun _ => Lc.fail)
 ·exact Lc.fail
theorem Lc.qx (x n v : RV) : Lc (qx x n v) := by
 unfold Dw.qx
 split <;> first | exact Lc.fail | skip
 refine Lc.bind (Lc.get _) fun bx => ?_
 split <;> first | exact Lc.fail | skip
 refine Lc.bind (Lc.get _) fun bx => ?_
 split <;> first | exact Lc.fail | skip
 refine iteInduction (motive := Lc) (fun _ => ?_) (fun _ => Lc.fail)
 split <;> first | exact Lc.fail | exact Lc.pure _
theorem Lc.rX (t : TypeId) (x k : RV) (ok : Bool) : Lc (rX P t x k ok) := by
 unfold Dw.rX
 split <;> first | exact Lc.fail | skip
 refine Lc.bind (Lc.get _) fun bx => ?_
 split <;> first | exact Lc.fail | skip
 split <;> first | exact Lc.fail | skip
 split <;> first | exact Lc.fail | (split <;> exact Lc.pU _)
theorem Lc.tP (t : TypeId) (x k v : RV) : Lc (tP P t x k v) := by
 unfold Dw.tP
 split <;> first | exact Lc.fail | skip
 refine Lc.bind (Lc.get _) fun bx => ?_
 split <;> first | exact Lc.fail | skip
 split <;> first | exact Lc.fail | skip
 refine Lc.bind (Lc.ry _) fun p => ?_
 obtain ⟨p, u⟩ := p
 dsimp only
 split <;> first | exact Lc.fail | (split <;> first | exact Lc.fail | exact Lc.oY _ _ | exact Lc.pure _)
theorem Lc.qk (id : Nat) (t : TypeId) (l c : RV) : Lc (qk P id t l c) := by
 unfold Dw.qk
 split <;> first | exact Lc.fail | skip
 split <;> first | exact Lc.fail | exact Lc.bind (Lc.pk _) fun _ => Lc.oY _ _
theorem Lc.wD (id : Nat) (t t' : TypeId) (a x : RV) : Lc (wD P id t t' a x) := by
 unfold Dw.wD
 split <;> first | exact Lc.fail | skip
 split <;> first | exact Lc.fail | exact Lc.bind (Lc.pk _) fun _ => Lc.oY _ _
theorem Lc.capD (t : TypeId) (x : RV) : Lc (capD P t x) := by
 unfold Dw.capD
 split <;> first | exact Lc.fail | exact Lc.pU _
theorem Lc.ifcD (t : TypeId) (x : RV) : Lc (ifcD P t x) := by
 unfold Dw.ifcD
 split <;> first | exact Lc.fail | exact Lc.pU _
theorem Lc.tA (x : RV) (t : TypeId) (ok : Bool) : Lc (tA P x t ok) := by
 unfold Dw.tA
 split <;> first | exact Lc.fail | skip
 exact iteInduction (motive := Lc) (fun _ => Lc.pU _) (fun _ => Lc.fail)
theorem Lc.tK (mt : Hf) (call : pw) (base : Nat) (x : RV) (name : String) (as : List RV) : Lc (tK P mt call base x name as) := by
 unfold Dw.tK
 split <;> first | exact Lc.fail | skip
 split <;> first | exact Lc.fail | exact Lc.rk _ _ _ _ _ | skip
 exact Lc.bind (Lc.sh P _ _) fun _ => Lc.rk _ _ _ _ _
theorem Lc.pA (mt : Hf) (call : pw) (s : St) (o : Oper) : Lc (pA P mt call s o) := by
 unfold Dw.pA
 split
 all_goals (try exact Lc.fail)
 all_goals (try exact Lc.uW P _ _)
 all_goals (split <;> first | exact Lc.fail | exact Lc.pU _ | exact Lc.ifcD P _ _ | exact Lc.tA P _ _ _ | exact Lc.boxD _ _ | exact Lc.uZ P _ _ | exact Lc.qw P _ _ _ _ _ | exact Lc.sh P _ _ | exact Lc.tU P _ _ _ | exact Lc.uS _ _ | exact Lc.ud _ | exact Lc.ql P _ _ _ _ _ _ | exact Lc.qW P _ _ _ | exact Lc.u4 P _ _ _ | exact Lc.qc P _ _ _ | exact Lc.uo P _ _ _ | exact Lc.minD _ | exact Lc.maxD _ | exact Lc.rX P _ _ _ _ | exact Lc.tP P _ _ _ _ | exact Lc.rM P _ _ | exact iteInduction (motive := Lc) (fun _ => Lc.si P _ _) (fun _ => Lc.rM P _ _) | exact Lc.rD P _ _ _ _ | exact Lc.qx _ _ _ | exact Lc.qk P _ _ _ _ | exact Lc.ub P _ _ _ _ | skip)
 all_goals (split <;> first | exact Lc.fail | exact Lc.pU _ | exact Lc.tK P _ _ _ _ _ _ | exact Lc.xD P _ _ | exact Lc.capD P _ _ | exact Lc.qF P _ _ _ _ _ | exact Lc.wE P _ _ _ | exact Lc.sZ P _ _ | exact Lc.wT P _ _ _ _ _ | exact Lc.ql P _ _ _ _ _ _ | exact Lc.rk _ _ _ _ _ | (split <;> first | exact Lc.qF P _ _ _ _ _ | exact Lc.wD P _ _ _ _ _))
end

theorem ve {s s' : St} : ∀ {xs : List Operand}, (∀ x ∈ xs, s.opd x = s'.opd x) → rE s xs = rE s' xs
 | [], _ => rfl
 | x :: xs, h => by simp only [rE]; rw [h x sm, ve fun y hy => h y (by simp [hy])]
theorem sj {s s' : St} : ∀ {xs : List (Nat × Operand)}, (∀ x ∈ xs.map (·.2), s.opd x = s'.opd x) → qp s xs = qp s' xs
 | [], _ => rfl
 | (i, x) :: xs, h => by simp only [qp]; rw [h x sm, sj fun y hy => h y (by simp only [List.map_cons, List.mem_cons]; exact .inr hy)]
theorem rY {s s' : St} {x : Option Operand} (h : ∀ y ∈ x.toArray, s.opd y = s'.opd y) : pV s x = pV s' x := by
 cases x with
 | none => rfl
 | some y => simp only [pV]; rw [h y sm]
theorem Ai {P : Program} {mt : Hf} {call : pw} {s s' : St} (o : Oper) (h : ∀ x ∈ o.op.operands, s.opd x = s'.opd x) : pA P mt call s o = pA P mt call s' o := by
 unfold pA
 rcases hop : o.op with x | x | ⟨c, x, y⟩ | t | ⟨t, x⟩ | ⟨t, parts⟩ | ⟨t, len, parts⟩ | ⟨t, m, k, x⟩ | ⟨t, x⟩ | ⟨t, x, y⟩ | g | g | x | ⟨op, t, x, y, t2⟩ | ⟨op, t, x⟩ | ⟨t, t2, x⟩ | ⟨t, x⟩ | ⟨t, x⟩ | ⟨fn, x, y⟩ | ⟨t, x⟩ | ⟨t, x⟩ | ⟨t, x, y⟩ | ⟨t, x, lo, hi, mx⟩ | ⟨t, x, f⟩ | ⟨t, x, f⟩ | ⟨t, x, y⟩ | ⟨t, x, y⟩ | ⟨t, x, y, c⟩ | ⟨t, x, y, c⟩ | ⟨t, x, y⟩ | ⟨t, x, y, c⟩ | ⟨t, x⟩ | ⟨x, b⟩ | x | ⟨x, t, t2, b⟩ | ⟨x, i⟩ | c | c | c | x | ⟨x, y⟩ | ⟨t, x, b⟩ | ⟨cs, b⟩
 all_goals (simp only [hop, Op.operands] at h)
 all_goals (try simp only)
 all_goals (try rw [h x sm])
 all_goals (try rw [h y sm])
 ·rw [h c sm]
 ·rw [sj fun x hx => h x (by simpa using hx)]
 ·rw [sj fun x hx => h x (by simpa using hx)]
 ·cases op <;> (try simp only) <;> rw [h x sm]
 ·rw [ve (s := s) (s' := s') (xs := y.toList) fun x hx => h x (by simp only [Array.mem_append]; exact .inr (by simpa using hx))]
 ·rw [rY (x := x) fun y hy => h y (by simpa using hy)]
 ·rw [rY (x := lo) fun y hy => h y (by simp only [Array.mem_append]; exact .inl (.inl (.inr hy))), rY (x := hi) fun y hy => h y (by simp only [Array.mem_append]; exact .inl (.inr hy)), rY (x := mx) fun y hy => h y (by simp only [Array.mem_append]; exact .inr hy)]
 ·rw [h c sm]
 ·rw [h c sm]
 ·have ha : rE s c.args.toList = rE s' c.args.toList := ve fun x hx => h x (by simp only [Call.operands, Array.mem_append]; exact .inr (by simpa using hx))
  rw [ha]
  cases hc : c.callee with
  | value f =>
   have hf : s.opd f = s'.opd f := h f (by simp [Call.operands, hc])
   cases rE s' c.args.toList with
   | none => rfl
   | some l => simp only [hf]
  | invoke rc m =>
   have hf : s.opd rc = s'.opd rc := h rc (by simp [Call.operands, hc])
   cases rE s' c.args.toList with
   | none => rfl
   | some l => simp only [hf]
  | builtin b =>
   cases rE s' c.args.toList with
   | none => cases b <;> rfl
   | some l => rcases l with _ | ⟨x, _ | ⟨y, _ | ⟨z, l⟩⟩⟩ <;> cases b <;> rfl
end Go.Dw


namespace Go.Dw

theorem AF : ∀ (u : Ups) (s s' : St) (id : Nat), id ∈ u.map (·.1) → (s.ups u).boxes id = (s'.ups u).boxes id
 | [], _, _, _, h => by simp at h
 | (i, b) :: r, s, s', id, h => by
  rw [qA, qA]
  by_cases hr : id ∈ r.map (·.1)
  ·exact AF r _ _ id hr
  ·rw [qq _ _ _ hr, qq _ _ _ hr]
   have : id = i := by simpa [hr] using h
   subst this
   show upd s.boxes id b id = upd s'.boxes id b id
   rw [oS, oS]
theorem re (s : St) (d : Option Nat) (v : RV) : (s.put d v).boxes = s.boxes := by cases d <;> rfl
theorem St.ext' {s s' : St} (h1 : s.pj = s'.pj) (h2 : s.boxes = s'.boxes) : s = s' := by
 obtain ⟨a, b⟩ := s
 obtain ⟨c, d⟩ := s'
 simp only at h1 h2
 subst h1; subst h2
 rfl
theorem xQ {s : St} {u1 u2 : Ups} {d1 d2 : Option Nat} {v1 v2 : RV} (hu : disj (u1.map (·.1)) (u2.map (·.1)) = true) (hd : ∀ d, d1 = some d → d2 ≠ some d) :
  ((((s.ups u1).put d1 v1).ups u2).put d2 v2) = ((((s.ups u2).put d2 v2).ups u1).put d1 v1) := by
 have hu := uD hu
 refine St.ext' ?_ ?_
 ·cases d1 with
  | none =>
   cases d2 with
   | none => simp only [St.put, qQ]
   | some e => simp only [St.put, qQ]
  | some d =>
   cases d2 with
   | none => simp only [St.put, qQ]
   | some e =>
    have hne : d ≠ e := fun he => hd d rfl (he ▸ rfl)
    simp only [St.put, qQ]
    funext t
    by_cases h1 : t = d
    ·subst h1; simp [hne]
    ·by_cases h2 : t = e
     ·subst h2; simp [h1]
     ·simp [h1, h2]
 ·rw [re, re]
  funext id
  by_cases h1 : id ∈ u1.map (·.1)
  ·have h2 : id ∉ u2.map (·.1) := hu id h1
   rw [qq _ _ _ h2, re]
   rw [AF u1 _ ((s.ups u2).put d2 v2) id h1]
  ·by_cases h2 : id ∈ u2.map (·.1)
   ·rw [qq u1 _ _ h1, re]
    rw [AF u2 _ s id h2]
   ·rw [qq _ _ _ h2, re, qq _ _ _ h1, qq _ _ _ h1, re, qq _ _ _ h2]

section
variable {P : Program} {mt : Hf} {call : pw} {ops : Array Oper}

theorem sI {o : Oper} {s s' : St} {t : Tr} (h : qP P mt call ops o s = some (s', t)) :
  (oX ops s o = some true ∧ ∃ v u, pA P mt call s o s.boxes = some ((v, u), t.rd, true) ∧ s' = (s.ups u).put o.dst v ∧ t.wr = u.map (·.1)) ∨
  (oX ops s o = some false ∧ s' = s.put o.dst .undef ∧ t.rd = [] ∧ t.wr = []) := by
 unfold qP at h
 rcases hw : oX ops s o with _ | w
 ·simp [hw] at h
 simp only [hw] at h
 cases w with
 | true =>
  simp only [if_true] at h
  rcases he : pA P mt call s o s.boxes with _ | ⟨⟨v, u⟩, rd, c⟩
  ·simp [he] at h
  simp only [he] at h
  cases c with
  | true =>
   simp only [if_true, Option.some.injEq, Prod.mk.injEq] at h
   obtain ⟨rfl, rfl⟩ := h
   exact .inl ⟨rfl, v, u, rfl, rfl, rfl⟩
  | false => simp at h
 | false =>
  simp only [Bool.false_eq_true, if_false, Option.some.injEq, Prod.mk.injEq] at h
  obtain ⟨rfl, rfl⟩ := h
  exact .inr ⟨rfl, rfl, rfl, rfl⟩
theorem vX {o : Oper} {s : St} {v : RV} {u : Ups} {rd : List Nat} (hw : oX ops s o = some true) (he : pA P mt call s o s.boxes = some ((v, u), rd, true)) :
  qP P mt call ops o s = some ((s.ups u).put o.dst v, ⟨rd, u.map (·.1)⟩) := by
 unfold qP; simp [hw, he]
theorem vw {o : Oper} {s : St} (hw : oX ops s o = some false) : qP P mt call ops o s = some (s.put o.dst .undef, ⟨[], []⟩) := by
 unfold qP; simp [hw]

theorem sP {o : Oper} {s s' : St} (h : ∀ t ∈ o.looksAt ops, s.pj t = s'.pj t) : oX ops s o = oX ops s' o := by
 unfold oX
 cases hg : o.guard with
 | none => rfl
 | some g =>
  obtain ⟨j, want⟩ := g
  simp only
  cases ht : (ops[j]?).bind (·.dst) with
  | none => rfl
  | some t =>
   simp only
   rw [h t (by simp [Oper.looksAt, hg, ht])]
theorem xy {o : Oper} {s s' : St} (h : ∀ t ∈ o.looksAt ops, s.pj t = s'.pj t) : pA P mt call s o = pA P mt call s' o := by
 refine Ai o fun x hx => ?_
 cases x with
 | tmp t => exact h t (List.mem_append_left _ (List.mem_filterMap.2 ⟨.tmp t, by simpa using hx, rfl⟩))
 | const v => rfl
 | global g => rfl
 | func f => rfl

theorem zR {o : Oper} {s s1 s' : St} {t : Tr} {d : Option Nat} {u : Ups} {v : RV} (h : qP P mt call ops o s1 = some (s', t)) (hs : s1 = (s.ups u).put d v)
  (hd : ∀ e, d = some e → e ∉ o.looksAt ops) (hu : disj (u.map (·.1)) t.rd = true) :
  ∃ v' u', t.wr = u'.map (·.1) ∧ s' = (s1.ups u').put o.dst v' ∧ qP P mt call ops o s = some ((s.ups u').put o.dst v', t) := by
 have hregs : ∀ t ∈ o.looksAt ops, s1.pj t = s.pj t := by
  intro t ht
  subst hs
  cases d with
  | none => simp only [St.put, qQ]
  | some e =>
   have : t ≠ e := fun he => hd e rfl (he ▸ ht)
   simp only [St.put, qQ, this, if_false]
 have hu := uD hu
 rcases sI h with ⟨hw, v', u', he, h1, h2⟩ | ⟨hw, h1, h2, h3⟩
 ·have hw' : oX ops s o = some true := by rw [← sP hregs]; exact hw
  have he' : pA P mt call s o s.boxes = some ((v', u'), t.rd, true) := by
   rw [← xy (P := P) (mt := mt) (call := call) hregs]
   refine Lc.pA P mt call s1 o _ _ _ _ _ he fun id hid => ?_
   subst hs
   rw [re, qq _ _ _ (fun hm => hu id hm hid)]
  refine ⟨v', u', h2, h1, ?_⟩
  rw [vX hw' he']
  obtain ⟨rd, wr⟩ := t
  simp only at h2
  rw [h2]
 ·have hw' : oX ops s o = some false := by rw [← sP hregs]; exact hw
  refine ⟨.undef, [], by rw [h3]; rfl, h1, ?_⟩
  rw [vw hw']
  obtain ⟨rd, wr⟩ := t
  simp only at h2 h3
  rw [h2, h3]
  rfl

theorem commute {x y : Oper} {s s1 s2 : St} {tx ty : Tr} (h1 : qP P mt call ops x s = some (s1, tx)) (h2 : qP P mt call ops y s1 = some (s2, ty)) (hp : wx ops (x, tx) (y, ty) = true) :
  ∃ s3, qP P mt call ops y s = some (s3, ty) ∧ qP P mt call ops x s3 = some (s2, tx) := by
 simp only [wx, Bool.and_eq_true] at hp
 obtain ⟨⟨⟨hap, hd1⟩, hd2⟩, hd3⟩ := hp
 obtain ⟨a1, a2, a3⟩ := Oper.apart_spec hap
 have hx : ∃ v u, s1 = (s.ups u).put x.dst v ∧ tx.wr = u.map (·.1) := by
  rcases sI h1 with ⟨_, v, u, _, h3, h4⟩ | ⟨_, h3, _, h4⟩
  ·exact ⟨v, u, h3, h4⟩
  ·exact ⟨.undef, [], h3, by rw [h4]; rfl⟩
 obtain ⟨vx, ux, hs1, hwx⟩ := hx
 obtain ⟨vy, uy, hwy, hs2, hy⟩ := zR h2 hs1 a1 (by rw [← hwx]; exact hd1)
 refine ⟨_, hy, ?_⟩
 have hregs : ∀ t ∈ x.looksAt ops, ((s.ups uy).put y.dst vy).pj t = s.pj t := by
  intro t ht
  cases hdy : y.dst with
  | none => simp only [St.put, qQ]
  | some e =>
   have : t ≠ e := fun he => a3 e hdy (he ▸ ht)
   simp only [St.put, qQ, this, if_false]
 have hd2 := uD hd2
 rcases sI h1 with ⟨hw, v, u, he, h3, h4⟩ | ⟨hw, h3, h4, h5⟩
 ·have hw' : oX ops ((s.ups uy).put y.dst vy) x = some true := by rw [sP hregs]; exact hw
  have he' : pA P mt call ((s.ups uy).put y.dst vy) x ((s.ups uy).put y.dst vy).boxes = some ((v, u), tx.rd, true) := by
   rw [xy (P := P) (mt := mt) (call := call) hregs]
   refine Lc.pA P mt call s x _ _ _ _ _ he fun id hid => ?_
   rw [re, qq _ _ _ (fun hm => hd2 id (by rw [hwy]; exact hm) hid)]
  rw [vX hw' he', hs2, h3]
  rw [xQ (by rw [← h4, ← hwy]; exact hd3) a2]
  obtain ⟨rd, wr⟩ := tx
  simp only at h4
  rw [h4]
 ·have hw' : oX ops ((s.ups uy).put y.dst vy) x = some false := by rw [sP hregs]; exact hw
  rw [vw hw', hs2, h3]
  have := xQ (s := s) (u1 := []) (u2 := uy) (d1 := x.dst) (d2 := y.dst) (v1 := .undef) (v2 := vy) (by rfl) a2
  simp only [St.ups] at this
  rw [this]
  obtain ⟨rd, wr⟩ := tx
  simp only at h4 h5
  rw [h4, h5]

theorem tE {o : Oper} {r : List Oper} {s sF : St} {ts : List Tr} (h : qu P mt call ops (o :: r) s = some (sF, ts)) :
  ∃ s1 t ts', qP P mt call ops o s = some (s1, t) ∧ qu P mt call ops r s1 = some (sF, ts') ∧ ts = t :: ts' := by
 unfold qu at h
 rcases h1 : qP P mt call ops o s with _ | ⟨s1, t⟩
 ·simp [h1] at h
 simp only [h1] at h
 rcases h2 : qu P mt call ops r s1 with _ | ⟨s2, ts'⟩
 ·simp [h2] at h
 simp only [h2, Option.some.injEq, Prod.mk.injEq] at h
 exact ⟨s1, t, ts', rfl, by rw [h2, h.1], h.2.symm⟩
theorem evOps_mk {o : Oper} {r : List Oper} {s s1 sF : St} {t : Tr} {ts : List Tr} (h1 : qP P mt call ops o s = some (s1, t)) (h2 : qu P mt call ops r s1 = some (sF, ts)) :
  qu P mt call ops (o :: r) s = some (sF, t :: ts) := by
 unfold qu; simp [h1, h2]

theorem wL : ∀ (l1 : List (Oper × Tr)) {o : Oper} {t : Tr} {l2 : List (Oper × Tr)} {s sF : St},
  qu P mt call ops ((l1 ++ (o, t) :: l2).map (·.1)) s = some (sF, (l1 ++ (o, t) :: l2).map (·.2)) → (∀ x ∈ l1, wx ops x (o, t) = true) →
  ∃ s1, qP P mt call ops o s = some (s1, t) ∧ qu P mt call ops ((l1 ++ l2).map (·.1)) s1 = some (sF, (l1 ++ l2).map (·.2))
 | [], o, t, l2, s, sF, h, _ => by
  simp only [List.nil_append, List.map_cons] at h
  obtain ⟨s1, t', ts', h1, h2, h3⟩ := tE h
  cases h3
  exact ⟨s1, h1, h2⟩
 | (x, tx) :: l1, o, t, l2, s, sF, h, hp => by
  simp only [List.cons_append, List.map_cons] at h
  obtain ⟨s1, t', ts', h1, h2, h3⟩ := tE h
  cases h3
  obtain ⟨s2, h4, h5⟩ := wL l1 h2 (fun y hy => hp y (by simp [hy]))
  obtain ⟨s3, h6, h7⟩ := commute h1 h4 (hp (x, tx) sm)
  exact ⟨s3, h6, by simp only [List.cons_append, List.map_cons]; exact evOps_mk h7 h5⟩

theorem xg : ∀ (l : List Oper) (acc : List Nat) (i : Nat), i < acc.length → (xf l acc).getD i 0 = acc.getD i 0
 | [], acc, i, _ => rfl
 | o :: r, acc, i, h => by
  rw [xf, xg r _ i so]
  simp only [List.getD_eq_getElem?_getD]
  rw [List.getElem?_append_left h]

theorem xA (acc : List Nat) : ∀ (es : List Edge) (b j : Nat), (es.foldl (fun b e => if Region.binds .any e then b ||| (2 ^ e.on ||| acc.getD e.on 0) else b) b).testBit j = true →
  b.testBit j = true ∨ ∃ e ∈ es, Region.binds .any e = true ∧ (e.on = j ∨ (acc.getD e.on 0).testBit j = true)
 | [], b, j, h => .inl h
 | e :: es, b, j, h => by
  simp only [List.foldl_cons] at h
  rcases xA acc es _ j h with h1 | ⟨e', h1, h2, h3⟩
  ·by_cases hb : Region.binds .any e = true
   ·simp only [hb, if_true, Nat.testBit_or, Bool.or_eq_true, Nat.testBit_two_pow, decide_eq_true_eq] at h1
    rcases h1 with h1 | h1 | h1
    ·exact .inl h1
    ·exact .inr ⟨e, sm, hb, .inl h1⟩
    ·exact .inr ⟨e, sm, hb, .inr h1⟩
   ·simp only [hb] at h1; exact .inl h1
  ·exact .inr ⟨e', by simp [h1], h2, h3⟩

theorem wc : ∀ (l : List Oper) (acc : List Nat) (i : Nat) (o : Oper), l[i]? = some o → ∀ j, ((xf l acc).getD (acc.length + i) 0).testBit j = true →
  ∃ e ∈ o.after, Region.binds .any e = true ∧ (e.on = j ∨ (e.on < acc.length + i ∧ ((xf l acc).getD e.on 0).testBit j = true))
 | [], acc, i, o, h, _, _ => by simp at h
 | x :: r, acc, 0, o, h, j, hj => by
  simp only [List.getElem?_cons_zero, Option.some.injEq] at h
  subst h
  rw [xf, Nat.add_zero, xg r _ acc.length sm] at hj
  simp only [List.getD_eq_getElem?_getD, List.getElem?_concat_length, Option.getD_some] at hj
  rcases xA acc x.after.toList 0 j hj with h1 | ⟨e, h1, h2, h3⟩
  ·simp at h1
  ·refine ⟨e, by simpa using h1, h2, ?_⟩
   rcases h3 with h3 | h3
   ·exact .inl h3
   ·by_cases hlt : e.on < acc.length
    ·refine .inr ⟨za, ?_⟩
     rw [xf, xg r _ e.on so]
     simp only [List.getD_eq_getElem?_getD] at h3 ⊢
     rw [List.getElem?_append_left hlt]
     exact h3
    ·rw [List.getD_eq_getElem?_getD, List.getElem?_eq_none za] at h3
     simp at h3
 | x :: r, acc, i + 1, o, h, j, hj => by
  simp only [List.getElem?_cons_succ] at h
  rw [xf] at hj ⊢
  have := wc r (acc ++ [x.after.toList.foldl (fun b e => if Region.binds .any e then b ||| (2 ^ e.on ||| acc.getD e.on 0) else b) 0]) i o h j (by
   simp only [List.length_append, List.length_singleton]
   rw [show acc.length + 1 + i = acc.length + (i + 1) by omega]
   exact hj)
  simp only [List.length_append, List.length_singleton] at this
  rw [show acc.length + 1 + i = acc.length + (i + 1) by omega] at this
  exact this

theorem zV {listed : Array Bool} (hclosed : ∀ (i : Nat) o, ops[i]? = some o → listed.getD i false = true → ∀ e ∈ o.after, Region.binds .any e = true → listed.getD e.on false = true) (hsz : listed.size = ops.size) :
  ∀ (n i : Nat) (o : Oper), i ≤ n → ops[i]? = some o → (∀ e ∈ o.after, Region.binds .any e = true → listed.getD e.on false = true) → ∀ j, ((xf ops.toList []).getD i 0).testBit j = true → listed.getD j false = true := by
 intro n
 induction n with
 | zero =>
  intro i o hi ho he j hj
  have h0 : i = 0 := by omega
  subst h0
  obtain ⟨e, h1, h2, h3⟩ := wc ops.toList [] 0 o (by simpa using ho) j (by simpa using hj)
  rcases h3 with rfl | ⟨h3, _⟩
  ·exact he e h1 h2
  ·simp at h3
 | succ n ih =>
  intro i o hi ho he j hj
  obtain ⟨e, h1, h2, h3⟩ := wc ops.toList [] i o (by simpa using ho) j (by simpa using hj)
  rcases h3 with rfl | ⟨h3, h4⟩
  ·exact he e h1 h2
  ·simp only [List.length_nil, Nat.zero_add] at h3
   have hl := he e h1 h2
   have hlt : e.on < ops.size := by
    rcases Nat.lt_or_ge e.on listed.size with h | h
    ·omega
    ·simp [Array.getElem?_eq_none h] at hl
   have ho2 : ops[e.on]? = some ops[e.on] := Array.getElem?_eq_getElem hlt
   exact ih e.on _ za ho2 (hclosed e.on _ ho2 hl) j h4
end
end Go.Dw
