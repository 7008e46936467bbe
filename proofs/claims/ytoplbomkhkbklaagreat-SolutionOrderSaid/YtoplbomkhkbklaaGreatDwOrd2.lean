
import Derived.Test.YtoplbomkhkbklaaGreatDwOp

namespace Go.Dw

def Lc {α : Type} (m : M α) : Prop := ∀ b b' a r c, m b = some (a, r, c) → (∀ id ∈ r, b' id = b id) → m b' = some (a, r, c)
theorem Lc.pure {α : Type} (a : α) : Lc (M.pure a) := fun _ _ _ _ _ h _ => h
theorem Lc.oM {α : Type} (k : Bool) (a : α) : Lc (M.oM k a) := fun _ _ _ _ _ h _ => h
theorem Lc.fail {α : Type} : Lc (M.fail : M α) := fun _ _ _ _ _ h _ => h
theorem Lc.get (id : Nat) : Lc (M.get id) := by
 intro b b' a r c h hb
 obtain ⟨h1, h2, h3⟩ := M.get_some h
 subst h2; subst h3
 simp [M.get, hb id sm, h1]
theorem Lc.oW (id : Nat) : Lc (M.oW id) := by
 intro b b' a r c h hb
 obtain ⟨h1, h2, h3⟩ := M.pw h
 subst h2; subst h3
 simp [M.oW, hb id sm, h1]
theorem Lc.bind {α β : Type} {m : M α} {f : α → M β} (hm : Lc m) (hf : ∀ a, Lc (f a)) : Lc (M.bind m f) := by
 intro b b' x r c h hb
 unfold M.bind at h ⊢
 rcases h1 : m b with _ | ⟨a, r1, c1⟩
 ·simp [h1] at h
 simp only [h1] at h
 rcases h2 : f a b with _ | ⟨y, r2, c2⟩
 ·simp [h2] at h
 simp only [h2, Option.some.injEq, Prod.mk.injEq] at h
 obtain ⟨rfl, rfl, rfl⟩ := h
 rw [hm b b' a r1 c1 h1 (fun id hid => hb id (List.mem_append.2 (.inl hid)))]
 simp only [hf a b b' y r2 c2 h2 (fun id hid => hb id (List.mem_append.2 (.inr hid)))]
theorem Lc.pH (v : RV) : Lc (pH v) := Lc.pure _
theorem Lc.pk (k : Bool) (v : RV) : Lc (pk k v) := Lc.oM _ _
theorem Lc.tQ (o : Option (PD × Bool)) : Lc (tQ o) := by unfold Dw.tQ; split <;> first | exact Lc.oM _ _ | exact Lc.fail

theorem Lc.uJ (v : RV) : Lc (uJ v) := by
 unfold Dw.uJ
 split <;> first | exact Lc.pure _ | exact Lc.fail | skip
 all_goals refine Lc.bind (Lc.get _) fun bx => ?_
 all_goals (split <;> first | exact Lc.fail | skip)
 all_goals (split <;> first | exact Lc.pure _ | exact Lc.oM _ _ | exact Lc.fail)
theorem Lc.sn : ∀ (cs : List RV), Lc (sn cs)
 | [] => Lc.pure _
 | c :: cs => Lc.bind (Lc.uJ c) fun _ => Lc.bind (Lc.sn cs) fun _ => Lc.pure _
theorem Lc.q6 (v : RV) : Lc (q6 v) := by
 unfold Dw.q6
 split
 ·exact Lc.bind (Lc.sn _) fun _ => Lc.pure _
 ·exact Lc.uJ _
section
variable (P : Program)
theorem Lc.rD (t : TypeId) (cs : List PD) : Lc (rD P t cs) := by
 unfold Dw.rD
 split <;> first | exact Lc.fail | exact Lc.pk _ _ | skip
 split <;> first | exact Lc.fail | exact Lc.pH _
theorem Lc.qV (t : TypeId) (cs : List RV) (o : Nat) : Lc (qV P t cs o) := by
 unfold Dw.qV
 split <;> first | exact Lc.fail | exact Lc.pk _ _ | skip
 split <;> first | exact Lc.fail | exact Lc.pH _
theorem Lc.rU (t : TypeId) (a : RV) : Lc (rU P t a) := by
 unfold Dw.rU
 split
 ·exact Lc.rD P t _
 ·refine Lc.bind (Lc.get _) fun bx => ?_
  split <;> first | exact Lc.qV P t _ _ | exact Lc.fail
 ·refine Lc.bind (Lc.get _) fun bx => ?_
  split <;> first | exact Lc.fail | skip
  ·split <;> first | exact Lc.fail | skip
   split <;> first | exact Lc.fail | exact Lc.rD P t _
  ·split <;> first | exact Lc.fail | skip
   split <;> first | exact Lc.fail | exact Lc.pH _
 ·exact Lc.fail
theorem Lc.tJ (t : TypeId) (a v : RV) : Lc (tJ P t a v) := by
 unfold Dw.tJ
 split <;> first | exact Lc.fail | skip
 split
 ·refine Lc.bind (Lc.get _) fun bx => ?_
  split <;> first | exact Lc.oM _ _ | exact Lc.fail | skip
 ·refine Lc.bind (Lc.get _) fun bx => ?_
  split <;> first | exact Lc.fail | skip
  ·split <;> first | exact Lc.fail | skip
   refine Lc.bind (Lc.q6 _) fun p => ?_
   obtain ⟨p, u⟩ := p
   dsimp only
   split <;> first | exact Lc.fail | skip
   split <;> first | exact Lc.fail | exact Lc.oM _ _
  ·exact iteInduction (motive := Lc) (fun _ => Lc.oM _ _) (fun _ => Lc.fail)
 ·exact Lc.fail
theorem Lc.uH (off : Nat) (x : RV) : Lc (uH off x) := by
 unfold Dw.uH
 split
 ·refine Lc.bind (Lc.get _) fun bx => ?_
  split <;> first | exact Lc.pH _ | exact Lc.fail
 ·refine Lc.bind (Lc.get _) fun bx => ?_
  split <;> first | exact Lc.fail | skip
  split <;> first | exact Lc.pH _ | exact Lc.fail
 ·exact Lc.pH _
 ·exact Lc.fail
theorem Lc.qH (t : TypeId) (x : RV) (f : Nat) : Lc (qH P t x f) := by
 unfold Dw.qH
 split <;> first | exact Lc.fail | skip
 split <;> first | exact Lc.fail | exact Lc.uH _ _
theorem Lc.uP (t : TypeId) (x : RV) (f : Nat) : Lc (uP P t x f) := by
 unfold Dw.uP
 split <;> first | exact Lc.fail | exact Lc.qV P _ _ _
theorem Lc.uR (x i : RV) : Lc (uR x i) := by
 unfold Dw.uR
 repeat' split
 all_goals first | exact Lc.pk _ _ | exact Lc.fail
theorem Lc.vW (len : Nat) (e : TypeId) (x i : RV) : Lc (vW P len e x i) := by
 unfold Dw.vW
 repeat' split
 all_goals first | exact Lc.bind (Lc.oM _ _) fun _ => Lc.qV _ _ _ _ | exact Lc.fail
theorem Lc.tZ (t : TypeId) (x i : RV) : Lc (tZ P t x i) := by
 unfold Dw.tZ
 repeat' split
 all_goals first | exact Lc.uR _ _ | exact Lc.vW _ _ _ _ _ | exact Lc.fail
theorem Lc.pS (t : TypeId) (x i : RV) : Lc (pS P t x i) := by
 unfold Dw.pS
 split
 ·split <;> first | exact Lc.fail | skip
  split <;> first | exact Lc.fail | exact Lc.pk _ _ | skip
  all_goals refine Lc.bind (Lc.get _) fun bx => ?_
  all_goals (split <;> first | exact Lc.fail | exact Lc.pk _ _ | skip)
  all_goals (split <;> first | exact Lc.fail | exact Lc.pk _ _)
 ·split <;> first | exact Lc.fail | skip
  exact Lc.bind (Lc.oM _ _) fun _ => Lc.uH _ _
 ·exact Lc.fail
theorem Lc.sliceB (e : TypeId) (id ver a b : Nat) (lo hi : Option RV) : Lc (sliceB P e id ver a b lo hi) := by
 unfold Dw.sliceB
 split <;> first | exact Lc.fail | skip
 refine Lc.bind (Lc.get _) fun bx => ?_
 split <;> first | exact Lc.fail | skip
 split <;> first | exact Lc.fail | exact Lc.pk _ _
theorem Lc.wh (nid : Nat) (e : TypeId) (n : Nat) (lo hi mx : Option RV) : Lc (wh P nid e n lo hi mx) := by
 unfold Dw.wh
 split <;> first | exact Lc.fail | skip
 split <;> first | exact Lc.fail | exact Lc.bind (Lc.oW _) fun _ => Lc.oM _ _
theorem Lc.uZ (id : Nat) (a : TypeId) : Lc (uZ P id a) := by
 unfold Dw.uZ
 split <;> first | exact Lc.fail | skip
 split <;> first | exact Lc.fail | skip
 refine Lc.bind (Lc.get _) fun bx => ?_
 split <;> first | exact Lc.fail | skip
 split <;> first | exact Lc.fail | skip
 split <;> first | exact Lc.fail | exact Lc.oM _ _
theorem Lc.u5 (e : TypeId) (id ver : Nat) (lo hi : Option RV) (mx : RV) : Lc (u5 P e id ver lo hi mx) := by
 unfold Dw.u5
 split <;> first | exact Lc.fail | skip
 split <;> first | exact Lc.fail | skip
 refine Lc.bind (Lc.get _) fun bx => ?_
 split <;> first | exact Lc.fail | skip
 split <;> first | exact Lc.fail | exact Lc.oM _ _
theorem Lc.u4 (a : TypeId) (cs : List PD) : Lc (u4 P a cs) := by
 unfold Dw.u4
 split <;> first | exact Lc.fail | skip
 split <;> first | exact Lc.fail | skip
 split <;> first | exact Lc.fail | exact Lc.oM _ _
theorem Lc.xl (e : TypeId) (es : List PD) (h m : Int) : Lc (xl P e es h m) := by
 unfold Dw.xl
 split <;> first | exact Lc.fail | skip
 split <;> first | exact Lc.fail | exact Lc.oM _ _
theorem Lc.wH (t : TypeId) (x : RV) (lo hi mx : Option RV) : Lc (wH P t x lo hi mx) := by
 unfold Dw.wH
 split <;> first | exact Lc.fail | exact Lc.xl P _ _ _ _ | skip
 split <;> first | exact Lc.fail | skip
 refine Lc.bind (Lc.get _) fun bx => ?_
 split <;> first | exact Lc.fail | skip
 split <;> first | exact Lc.fail | exact Lc.oM _ _
theorem Lc.p9 (nid : Nat) (t : TypeId) (x : RV) (lo hi mx : Option RV) : Lc (p9 P nid t x lo hi mx) := by
 unfold Dw.p9
 split
 ·refine Lc.bind (Lc.get _) fun bx => ?_
  split <;> first | exact Lc.fail | exact Lc.sliceB P _ _ _ _ _ _ _
 ·exact Lc.sliceB P _ _ _ _ _ _ _
 ·split <;> first | exact Lc.fail | exact Lc.uZ P _ _
 ·split <;> first | exact Lc.fail | exact Lc.u4 P _ _
 ·split <;> first | exact Lc.fail | (split <;> first | exact Lc.pure _ | exact Lc.fail)
 ·exact Lc.wh P _ _ _ _ _ _
 ·exact Lc.u5 P _ _ _ _ _ _
 all_goals first | exact Lc.fail | (split <;> first | exact Lc.fail | exact Lc.pk _ _)
theorem Lc.uO (t : TypeId) (l : List (Nat × RV)) : Lc (uO P t l) := by
 unfold Dw.uO
 split
 ·split <;> first | exact Lc.fail | skip
  split <;> first | exact Lc.fail | exact Lc.pk _ _
 ·split <;> first | exact Lc.fail | skip
  split <;> first | exact Lc.fail | exact Lc.pk _ _
 ·exact Lc.fail
theorem Lc.uS (mt : Bool) (cs : List RV) : Lc (uS mt cs) := by
 unfold Dw.uS
 split
 ·exact Lc.pure _
 ·exact Lc.sn _
theorem Lc.qi (mt : Bool) (id : Nat) (t : TypeId) (len : Nat) (l : List (Nat × RV)) : Lc (qi P mt id t len l) := by
 unfold Dw.qi
 split <;> first | exact Lc.fail | skip
 split <;> first | exact Lc.fail | skip
 split <;> first | exact Lc.fail | skip
 split <;> first | exact Lc.fail | skip
 refine Lc.bind (Lc.uS _ _) fun p => ?_
 obtain ⟨ps, u⟩ := p
 dsimp only
 split
 ·exact Lc.bind (Lc.oW _) fun _ => Lc.oM _ _
 ·exact Lc.oM _ _
theorem Lc.uL (id : Nat) (t : TypeId) : Lc (uL P id t) := by
 unfold Dw.uL
 split <;> first | exact Lc.fail | exact Lc.bind (Lc.oW _) fun _ => Lc.pure _
theorem Lc.boxD (id : Nat) (v : RV) : Lc (boxD id v) := Lc.bind (Lc.oW _) fun _ => Lc.oM _ _
theorem Lc.xn (t : TypeId) (x : RV) : Lc (xn P t x) := by
 unfold Dw.xn
 split <;> first | exact Lc.fail | exact Lc.pH _ | skip
 all_goals refine Lc.bind (Lc.get _) fun bx => ?_
 all_goals (split <;> first | exact Lc.fail | exact Lc.pH _ | skip)
 all_goals (split <;> first | exact Lc.fail | exact Lc.pH _ | exact Lc.pk _ _)
theorem Lc.qv (x : RV) : Lc (qv x) := by
 unfold Dw.qv
 split <;> first | exact Lc.fail | exact Lc.pure _ | skip
 all_goals refine Lc.bind (Lc.get _) fun bx => ?_
 all_goals (split <;> first | exact Lc.fail | skip)
 all_goals (split <;> first | exact Lc.fail | exact Lc.pure _ | exact Lc.oM _ _)
theorem Lc.qo (id : Nat) (t t' : TypeId) (s x : RV) : Lc (qo P id t t' s x) := by
 unfold Dw.qo
 split <;> first | exact Lc.fail | skip
 split <;> first | exact Lc.fail | skip
 split <;> first | exact Lc.fail | skip
 refine Lc.bind (Lc.qv _) fun xs => ?_
 split
 ·exact Lc.bind (Lc.oW _) fun _ => Lc.oM _ _
 ·refine Lc.bind (Lc.get _) fun bx => ?_
  split <;> first | exact Lc.fail | skip
  all_goals (split <;> first | exact Lc.fail | exact Lc.oM _ _)
 ·refine Lc.bind (Lc.get _) fun bx => ?_
  split <;> first | exact Lc.fail | skip
  split <;> first | exact Lc.fail | exact Lc.oM _ _
 ·exact Lc.oM _ _
 ·exact Lc.fail
theorem Lc.wJ (x : RV) : Lc (wJ x) := by
 unfold Dw.wJ
 split <;> first | exact Lc.fail | skip
 all_goals refine Lc.bind (Lc.get _) fun bx => ?_
 all_goals (split <;> first | exact Lc.fail | skip)
 all_goals (split <;> first | exact Lc.fail | exact Lc.pure _ | exact Lc.oM _ _)
theorem Lc.wm (t : TypeId) (x y : RV) : Lc (wm P t x y) := by
 unfold Dw.wm
 split <;> first | exact Lc.fail | skip
 split <;> first | exact Lc.fail | skip
 exact Lc.bind (Lc.wJ _) fun _ => Lc.bind (Lc.qv _) fun _ => Lc.oM _ _
theorem Lc.sy (t : TypeId) (x : RV) : Lc (sy P t x) := by
 unfold Dw.sy
 split <;> first | exact Lc.fail | skip
 split <;> first | exact Lc.fail | skip
 exact Lc.bind (Lc.wJ _) fun _ => Lc.oM _ _
theorem Lc.minD (l : List RV) : Lc (minD l) := by
 unfold Dw.minD
 split <;> first | exact Lc.fail | skip
 split <;> first | exact Lc.fail | exact Lc.pure _
theorem Lc.maxD (l : List RV) : Lc (maxD l) := by
 unfold Dw.maxD
 split <;> first | exact Lc.fail | skip
 split <;> first | exact Lc.fail | exact Lc.pure _
theorem Lc.argD (by_ : Bool) (v : RV) : Lc (argD by_ v) := by
 unfold Dw.argD
 split <;> first | exact Lc.pure _ | exact Lc.bind (Lc.q6 _) fun _ => Lc.oM _ _ | (split <;> first | exact Lc.pure _ | exact Lc.bind (Lc.q6 _) fun _ => Lc.pure _ | exact Lc.bind (Lc.q6 _) fun _ => Lc.oM _ _)
theorem Lc.tU (by_ : Nat → Bool) : ∀ (i : Nat) (l : List RV), Lc (tU by_ i l)
 | _, [] => Lc.pure _
 | i, v :: r => Lc.bind (Lc.argD _ v) fun _ => Lc.bind (Lc.tU by_ (i + 1) r) fun _ => Lc.pure _
theorem Lc.qW : ∀ (n : Nat) (done todo : List Nat), Lc (qW n done todo)
 | 0, _, _ => Lc.fail
 | _ + 1, _, [] => Lc.pure _
 | n + 1, done, i :: todo => by
  unfold Dw.qW
  split
  ·exact Lc.qW n _ _
  ·exact Lc.bind (Lc.get _) fun _ => Lc.qW n _ _
theorem Lc.tP : ∀ (l : List Nat), Lc (tP l)
 | [] => Lc.pure _
 | _ :: r => Lc.bind (Lc.get _) fun _ => Lc.bind (Lc.tP r) fun _ => Lc.pure _
theorem Lc.qA : ∀ (l : List Nat), Lc (qA l)
 | [] => Lc.pure _
 | _ :: r => Lc.bind (Lc.oW _) fun _ => Lc.qA r
theorem Lc.qQ (by_ : FuncId → Nat → Bool) (call : o0) (f : FuncId) (base : Nat) (l : List RV) : Lc (qQ by_ call f base l) := by
 unfold Dw.qQ
 refine Lc.bind (Lc.tU _ _ _) fun x => Lc.bind (Lc.qW _ _ _) fun ids => Lc.bind (Lc.tP _) fun bxs => ?_
 split <;> first | exact Lc.fail | skip
 split <;> first | exact Lc.fail | exact Lc.bind (Lc.qA _) fun _ => Lc.pure _
theorem Lc.tO (id : Nat) (src dst : TypeId) (x : RV) : Lc (tO P id src dst x) := by
 unfold Dw.tO
 split
 ·split <;> first | exact Lc.fail | exact Lc.bind (Lc.oW _) fun _ => Lc.oM _ _
 ·split <;> first | exact Lc.fail | skip
  refine Lc.bind (Lc.get _) fun bx => ?_
  split <;> first | exact Lc.fail | skip
  refine iteInduction (motive := Lc) (fun _ => ?_) (fun _ => Lc.fail)
  split <;> first | exact Lc.fail | exact Lc.pH _
 ·split <;> first | exact Lc.fail | skip
  split <;> first | exact Lc.fail | exact Lc.pH _
 ·exact Lc.tQ _
theorem Lc.ry (id : Nat) (t : TypeId) : Lc (ry P id t) := by
 unfold Dw.ry
 split <;> first | exact Lc.fail | exact Lc.bind (Lc.oW _) fun _ => Lc.pure _
theorem Lc.rV (id : Nat) (t : TypeId) : Lc (rV P id t) := by
 unfold Dw.rV
 split <;> first | exact Lc.fail | skip
 split <;> first | exact Lc.fail | exact Lc.bind (Lc.oW _) fun _ => Lc.pure _
theorem Lc.rj (nid : Nat) (t : TypeId) (x k : RV) : Lc (rj P nid t x k) := by
 unfold Dw.rj
 split <;> first | exact Lc.fail | skip
 refine Lc.bind (Lc.get _) fun bx => ?_
 split <;> first | exact Lc.fail | skip
 refine iteInduction (motive := Lc) (fun _ => ?_) (fun _ => Lc.fail)
 refine Lc.bind (Lc.oW _) fun _ => ?_
 split
 ·exact Lc.oM _ _
 ·exact iteInduction (motive := Lc) (fun _ => Lc.pure _) (fun _ => Lc.fail)
 ·exact Lc.fail
theorem Lc.qj (x n v : RV) : Lc (qj x n v) := by
 unfold Dw.qj
 split <;> first | exact Lc.fail | skip
 refine Lc.bind (Lc.get _) fun bx => ?_
 split <;> first | exact Lc.fail | skip
 refine Lc.bind (Lc.get _) fun bx => ?_
 split <;> first | exact Lc.fail | skip
 refine iteInduction (motive := Lc) (fun _ => ?_) (fun _ => Lc.fail)
 split <;> first | exact Lc.fail | exact Lc.pure _
theorem Lc.rJ (t : TypeId) (x k : RV) (ok : Bool) : Lc (rJ P t x k ok) := by
 unfold Dw.rJ
 split <;> first | exact Lc.fail | skip
 refine Lc.bind (Lc.get _) fun bx => ?_
 split <;> first | exact Lc.fail | skip
 split <;> first | exact Lc.fail | skip
 split <;> first | exact Lc.fail | (split <;> exact Lc.pH _)
theorem Lc.tE (t : TypeId) (x k v : RV) : Lc (tE P t x k v) := by
 unfold Dw.tE
 split <;> first | exact Lc.fail | skip
 refine Lc.bind (Lc.get _) fun bx => ?_
 split <;> first | exact Lc.fail | skip
 split <;> first | exact Lc.fail | skip
 refine Lc.bind (Lc.q6 _) fun p => ?_
 obtain ⟨p, u⟩ := p
 dsimp only
 split <;> first | exact Lc.fail | (split <;> first | exact Lc.fail | exact Lc.oM _ _ | exact Lc.pure _)
theorem Lc.p8 (id : Nat) (t : TypeId) (l c : RV) : Lc (p8 P id t l c) := by
 unfold Dw.p8
 split <;> first | exact Lc.fail | skip
 split <;> first | exact Lc.fail | exact Lc.bind (Lc.oW _) fun _ => Lc.oM _ _
theorem Lc.wk (id : Nat) (t t' : TypeId) (a x : RV) : Lc (wk P id t t' a x) := by
 unfold Dw.wk
 split <;> first | exact Lc.fail | skip
 split <;> first | exact Lc.fail | exact Lc.bind (Lc.oW _) fun _ => Lc.oM _ _
theorem Lc.capD (t : TypeId) (x : RV) : Lc (capD P t x) := by
 unfold Dw.capD
 split <;> first | exact Lc.fail | exact Lc.pH _
theorem Lc.ifcD (t : TypeId) (x : RV) : Lc (ifcD P t x) := by
 unfold Dw.ifcD
 split <;> first | exact Lc.fail | exact Lc.pH _
theorem Lc.th (x : RV) (t : TypeId) (ok : Bool) : Lc (th P x t ok) := by
 unfold Dw.th
 split <;> first | exact Lc.fail | skip
 exact iteInduction (motive := Lc) (fun _ => Lc.pH _) (fun _ => Lc.fail)
theorem Lc.tz (mt : Hf) (call : o0) (base : Nat) (x : RV) (name : String) (as : List RV) : Lc (tz P mt call base x name as) := by
 unfold Dw.tz
 split <;> first | exact Lc.fail | skip
 split <;> first | exact Lc.fail | exact Lc.qQ _ _ _ _ _ | skip
 exact Lc.bind (Lc.rU P _ _) fun _ => Lc.qQ _ _ _ _ _
theorem Lc.pe (mt : Hf) (call : o0) (s : St) (o : Oper) : Lc (pe P mt call s o) := by
 unfold Dw.pe
 split
 all_goals (try exact Lc.fail)
 all_goals (try exact Lc.uL P _ _)
 all_goals (split <;> first | exact Lc.fail | exact Lc.pH _ | exact Lc.ifcD P _ _ | exact Lc.th P _ _ _ | exact Lc.boxD _ _ | exact Lc.uO P _ _ | exact Lc.qi P _ _ _ _ _ | exact Lc.rU P _ _ | exact Lc.tJ P _ _ _ | exact Lc.uH _ _ | exact Lc.tQ _ | exact Lc.p9 P _ _ _ _ _ _ | exact Lc.qH P _ _ _ | exact Lc.uP P _ _ _ | exact Lc.pS P _ _ _ | exact Lc.tZ P _ _ _ | exact Lc.minD _ | exact Lc.maxD _ | exact Lc.rJ P _ _ _ _ | exact Lc.tE P _ _ _ _ | exact Lc.ry P _ _ | exact iteInduction (motive := Lc) (fun _ => Lc.rV P _ _) (fun _ => Lc.ry P _ _) | exact Lc.rj P _ _ _ _ | exact Lc.qj _ _ _ | exact Lc.p8 P _ _ _ _ | exact Lc.tO P _ _ _ _ | skip)
 all_goals (split <;> first | exact Lc.fail | exact Lc.pH _ | exact Lc.tz P _ _ _ _ _ _ | exact Lc.xn P _ _ | exact Lc.capD P _ _ | exact Lc.qo P _ _ _ _ _ | exact Lc.wm P _ _ _ | exact Lc.sy P _ _ | exact Lc.wH P _ _ _ _ _ | exact Lc.p9 P _ _ _ _ _ _ | exact Lc.qQ _ _ _ _ _ | (split <;> first | exact Lc.qo P _ _ _ _ _ | exact Lc.wk P _ _ _ _ _))
end

theorem uV {s s' : St} : ∀ {xs : List Operand}, (∀ x ∈ xs, s.opd x = s'.opd x) → rk s xs = rk s' xs
 | [], _ => rfl
 | x :: xs, h => by simp only [rk]; rw [h x sm, uV fun y hy => h y (by simp [hy])]
theorem rX {s s' : St} : ∀ {xs : List (Nat × Operand)}, (∀ x ∈ xs.map (·.2), s.opd x = s'.opd x) → qc s xs = qc s' xs
 | [], _ => rfl
 | (i, x) :: xs, h => by simp only [qc]; rw [h x sm, rX fun y hy => h y (by simp only [List.map_cons, List.mem_cons]; exact .inr hy)]
theorem rK {s s' : St} {x : Option Operand} (h : ∀ y ∈ x.toArray, s.opd y = s'.opd y) : pI s x = pI s' x := by
 cases x with
 | none => rfl
 | some y => simp only [pI]; rw [h y sm]
theorem zW {P : Program} {mt : Hf} {call : o0} {s s' : St} (o : Oper) (h : ∀ x ∈ o.op.operands, s.opd x = s'.opd x) : pe P mt call s o = pe P mt call s' o := by
 unfold pe
 rcases hop : o.op with x | x | ⟨c, x, y⟩ | t | ⟨t, x⟩ | ⟨t, parts⟩ | ⟨t, len, parts⟩ | ⟨t, m, k, x⟩ | ⟨t, x⟩ | ⟨t, x, y⟩ | g | g | x | ⟨op, t, x, y, t2⟩ | ⟨op, t, x⟩ | ⟨t, t2, x⟩ | ⟨t, x⟩ | ⟨t, x⟩ | ⟨fn, x, y⟩ | ⟨t, x⟩ | ⟨t, x⟩ | ⟨t, x, y⟩ | ⟨t, x, lo, hi, mx⟩ | ⟨t, x, f⟩ | ⟨t, x, f⟩ | ⟨t, x, y⟩ | ⟨t, x, y⟩ | ⟨t, x, y, c⟩ | ⟨t, x, y, c⟩ | ⟨t, x, y⟩ | ⟨t, x, y, c⟩ | ⟨t, x⟩ | ⟨x, b⟩ | x | ⟨x, t, t2, b⟩ | ⟨x, i⟩ | c | c | c | x | ⟨x, y⟩ | ⟨t, x, b⟩ | ⟨cs, b⟩
 all_goals (simp only [hop, Op.operands] at h)
 all_goals (try simp only)
 all_goals (try rw [h x sm])
 all_goals (try rw [h y sm])
 ·rw [h c sm]
 ·rw [rX fun x hx => h x (by simpa using hx)]
 ·rw [rX fun x hx => h x (by simpa using hx)]
 ·cases op <;> (try simp only) <;> rw [h x sm]
 ·rw [uV (s := s) (s' := s') (xs := y.toList) fun x hx => h x (by simp only [Array.mem_append]; exact .inr (by simpa using hx))]
 ·rw [rK (x := x) fun y hy => h y (by simpa using hy)]
 ·rw [rK (x := lo) fun y hy => h y (by simp only [Array.mem_append]; exact .inl (.inl (.inr hy))), rK (x := hi) fun y hy => h y (by simp only [Array.mem_append]; exact .inl (.inr hy)), rK (x := mx) fun y hy => h y (by simp only [Array.mem_append]; exact .inr hy)]
 ·rw [h c sm]
 ·rw [h c sm]
 ·have ha : rk s c.args.toList = rk s' c.args.toList := uV fun x hx => h x (by simp only [Call.operands, Array.mem_append]; exact .inr (by simpa using hx))
  rw [ha]
  cases hc : c.callee with
  | value f =>
   have hf : s.opd f = s'.opd f := h f (by simp [Call.operands, hc])
   cases rk s' c.args.toList with
   | none => rfl
   | some l => simp only [hf]
  | invoke rc m =>
   have hf : s.opd rc = s'.opd rc := h rc (by simp [Call.operands, hc])
   cases rk s' c.args.toList with
   | none => rfl
   | some l => simp only [hf]
  | builtin b =>
   cases rk s' c.args.toList with
   | none => cases b <;> rfl
   | some l => rcases l with _ | ⟨x, _ | ⟨y, _ | ⟨z, l⟩⟩⟩ <;> cases b <;> rfl
end Go.Dw


namespace Go.Dw

theorem As : ∀ (u : Ups) (s s' : St) (id : Nat), id ∈ u.map (·.1) → (s.ups u).boxes id = (s'.ups u).boxes id
 | [], _, _, _, h => by simp at h
 | (i, b) :: r, s, s', id, h => by
  rw [qm, qm]
  by_cases hr : id ∈ r.map (·.1)
  ·exact As r _ _ id hr
  ·rw [qd _ _ _ hr, qd _ _ _ hr]
   have : id = i := by simpa [hr] using h
   subst this
   show upd s.boxes id b id = upd s'.boxes id b id
   rw [oF, oF]
theorem qN (s : St) (d : Option Nat) (v : RV) : (s.put d v).boxes = s.boxes := by cases d <;> rfl
theorem St.ext' {s s' : St} (h1 : s.oV = s'.oV) (h2 : s.boxes = s'.boxes) : s = s' := by
 obtain ⟨a, b⟩ := s
 obtain ⟨c, d⟩ := s'
 simp only at h1 h2
 subst h1; subst h2
 rfl
theorem xE {s : St} {u1 u2 : Ups} {d1 d2 : Option Nat} {v1 v2 : RV} (hu : disj (u1.map (·.1)) (u2.map (·.1)) = true) (hd : ∀ d, d1 = some d → d2 ≠ some d) :
  ((((s.ups u1).put d1 v1).ups u2).put d2 v2) = ((((s.ups u2).put d2 v2).ups u1).put d1 v1) := by
 have hu := uk hu
 refine St.ext' ?_ ?_
 ·cases d1 with
  | none =>
   cases d2 with
   | none => simp only [St.put, qz]
   | some e => simp only [St.put, qz]
  | some d =>
   cases d2 with
   | none => simp only [St.put, qz]
   | some e =>
    have hne : d ≠ e := fun he => hd d rfl (he ▸ rfl)
    simp only [St.put, qz]
    funext t
    by_cases h1 : t = d
    ·subst h1; simp [hne]
    ·by_cases h2 : t = e
     ·subst h2; simp [h1]
     ·simp [h1, h2]
 ·rw [qN, qN]
  funext id
  by_cases h1 : id ∈ u1.map (·.1)
  ·have h2 : id ∉ u2.map (·.1) := hu id h1
   rw [qd _ _ _ h2, qN]
   rw [As u1 _ ((s.ups u2).put d2 v2) id h1]
  ·by_cases h2 : id ∈ u2.map (·.1)
   ·rw [qd u1 _ _ h1, qN]
    rw [As u2 _ s id h2]
   ·rw [qd _ _ _ h2, qN, qd _ _ _ h1, qd _ _ _ h1, qN, qd _ _ _ h2]

section
variable {P : Program} {mt : Hf} {call : o0} {ops : Array Oper}

theorem sl {o : Oper} {s s' : St} {t : Tr} (h : qy P mt call ops o s = some (s', t)) :
  (oK ops s o = some true ∧ ∃ v u, pe P mt call s o s.boxes = some ((v, u), t.rd, true) ∧ s' = (s.ups u).put o.dst v ∧ t.wr = u.map (·.1)) ∨
  (oK ops s o = some false ∧ s' = s.put o.dst .undef ∧ t.rd = [] ∧ t.wr = []) := by
 unfold qy at h
 rcases hw : oK ops s o with _ | w
 ·simp [hw] at h
 simp only [hw] at h
 cases w with
 | true =>
  simp only [if_true] at h
  rcases he : pe P mt call s o s.boxes with _ | ⟨⟨v, u⟩, rd, c⟩
  ·simp [he] at h
  simp only [he] at h
  cases c with
  | true =>
   simp only [if_true, Option.some.injEq, Prod.mk.injEq] at h
   obtain ⟨rfl, rfl⟩ := h
   exact .inl ⟨rfl, v, u, rfl, rfl, rfl⟩
  | false => simp at h
 | false =>
  simp only [Bool.false_eq_true, if_false, Option.some.injEq, Prod.mk.injEq] at h
  obtain ⟨rfl, rfl⟩ := h
  exact .inr ⟨rfl, rfl, rfl, rfl⟩
theorem vL {o : Oper} {s : St} {v : RV} {u : Ups} {rd : List Nat} (hw : oK ops s o = some true) (he : pe P mt call s o s.boxes = some ((v, u), rd, true)) :
  qy P mt call ops o s = some ((s.ups u).put o.dst v, ⟨rd, u.map (·.1)⟩) := by
 unfold qy; simp [hw, he]
theorem u7 {o : Oper} {s : St} (hw : oK ops s o = some false) : qy P mt call ops o s = some (s.put o.dst .undef, ⟨[], []⟩) := by
 unfold qy; simp [hw]

theorem sq {o : Oper} {s s' : St} (h : ∀ t ∈ o.looksAt ops, s.oV t = s'.oV t) : oK ops s o = oK ops s' o := by
 unfold oK
 cases hg : o.guard with
 | none => rfl
 | some g =>
  obtain ⟨j, want⟩ := g
  simp only
  cases ht : (ops[j]?).bind (·.dst) with
  | none => rfl
  | some t =>
   simp only
   rw [h t (by simp [Oper.looksAt, hg, ht])]
theorem xi {o : Oper} {s s' : St} (h : ∀ t ∈ o.looksAt ops, s.oV t = s'.oV t) : pe P mt call s o = pe P mt call s' o := by
 refine zW o fun x hx => ?_
 cases x with
 | tmp t => exact h t (List.mem_append_left _ (List.mem_filterMap.2 ⟨.tmp t, by simpa using hx, rfl⟩))
 | const v => rfl
 | global g => rfl
 | func f => rfl

theorem zF {o : Oper} {s s1 s' : St} {t : Tr} {d : Option Nat} {u : Ups} {v : RV} (h : qy P mt call ops o s1 = some (s', t)) (hs : s1 = (s.ups u).put d v)
  (hd : ∀ e, d = some e → e ∉ o.looksAt ops) (hu : disj (u.map (·.1)) t.rd = true) :
  ∃ v' u', t.wr = u'.map (·.1) ∧ s' = (s1.ups u').put o.dst v' ∧ qy P mt call ops o s = some ((s.ups u').put o.dst v', t) := by
 have hregs : ∀ t ∈ o.looksAt ops, s1.oV t = s.oV t := by
  intro t ht
  subst hs
  cases d with
  | none => simp only [St.put, qz]
  | some e =>
   have : t ≠ e := fun he => hd e rfl (he ▸ ht)
   simp only [St.put, qz, this, if_false]
 have hu := uk hu
 rcases sl h with ⟨hw, v', u', he, h1, h2⟩ | ⟨hw, h1, h2, h3⟩
 ·have hw' : oK ops s o = some true := by rw [← sq hregs]; exact hw
  have he' : pe P mt call s o s.boxes = some ((v', u'), t.rd, true) := by
   rw [← xi (P := P) (mt := mt) (call := call) hregs]
   refine Lc.pe P mt call s1 o _ _ _ _ _ he fun id hid => ?_
   subst hs
   rw [qN, qd _ _ _ (fun hm => hu id hm hid)]
  refine ⟨v', u', h2, h1, ?_⟩
  rw [vL hw' he']
  obtain ⟨rd, wr⟩ := t
  simp only at h2
  rw [h2]
 ·have hw' : oK ops s o = some false := by rw [← sq hregs]; exact hw
  refine ⟨.undef, [], by rw [h3]; rfl, h1, ?_⟩
  rw [u7 hw']
  obtain ⟨rd, wr⟩ := t
  simp only at h2 h3
  rw [h2, h3]
  rfl

theorem commute {x y : Oper} {s s1 s2 : St} {tx ty : Tr} (h1 : qy P mt call ops x s = some (s1, tx)) (h2 : qy P mt call ops y s1 = some (s2, ty)) (hp : wc ops (x, tx) (y, ty) = true) :
  ∃ s3, qy P mt call ops y s = some (s3, ty) ∧ qy P mt call ops x s3 = some (s2, tx) := by
 simp only [wc, Bool.and_eq_true] at hp
 obtain ⟨⟨⟨hap, hd1⟩, hd2⟩, hd3⟩ := hp
 obtain ⟨a1, a2, a3⟩ := Oper.apart_spec hap
 have hx : ∃ v u, s1 = (s.ups u).put x.dst v ∧ tx.wr = u.map (·.1) := by
  rcases sl h1 with ⟨_, v, u, _, h3, h4⟩ | ⟨_, h3, _, h4⟩
  ·exact ⟨v, u, h3, h4⟩
  ·exact ⟨.undef, [], h3, by rw [h4]; rfl⟩
 obtain ⟨vx, ux, hs1, hwx⟩ := hx
 obtain ⟨vy, uy, hwy, hs2, hy⟩ := zF h2 hs1 a1 (by rw [← hwx]; exact hd1)
 refine ⟨_, hy, ?_⟩
 have hregs : ∀ t ∈ x.looksAt ops, ((s.ups uy).put y.dst vy).oV t = s.oV t := by
  intro t ht
  cases hdy : y.dst with
  | none => simp only [St.put, qz]
  | some e =>
   have : t ≠ e := fun he => a3 e hdy (he ▸ ht)
   simp only [St.put, qz, this, if_false]
 have hd2 := uk hd2
 rcases sl h1 with ⟨hw, v, u, he, h3, h4⟩ | ⟨hw, h3, h4, h5⟩
 ·have hw' : oK ops ((s.ups uy).put y.dst vy) x = some true := by rw [sq hregs]; exact hw
  have he' : pe P mt call ((s.ups uy).put y.dst vy) x ((s.ups uy).put y.dst vy).boxes = some ((v, u), tx.rd, true) := by
   rw [xi (P := P) (mt := mt) (call := call) hregs]
   refine Lc.pe P mt call s x _ _ _ _ _ he fun id hid => ?_
   rw [qN, qd _ _ _ (fun hm => hd2 id (by rw [hwy]; exact hm) hid)]
  rw [vL hw' he', hs2, h3]
  rw [xE (by rw [← h4, ← hwy]; exact hd3) a2]
  obtain ⟨rd, wr⟩ := tx
  simp only at h4
  rw [h4]
 ·have hw' : oK ops ((s.ups uy).put y.dst vy) x = some false := by rw [sq hregs]; exact hw
  rw [u7 hw', hs2, h3]
  have := xE (s := s) (u1 := []) (u2 := uy) (d1 := x.dst) (d2 := y.dst) (v1 := .undef) (v2 := vy) (by rfl) a2
  simp only [St.ups] at this
  rw [this]
  obtain ⟨rd, wr⟩ := tx
  simp only at h4 h5
  rw [h4, h5]

theorem tn {o : Oper} {r : List Oper} {s sF : St} {ts : List Tr} (h : qf P mt call ops (o :: r) s = some (sF, ts)) :
  ∃ s1 t ts', qy P mt call ops o s = some (s1, t) ∧ qf P mt call ops r s1 = some (sF, ts') ∧ ts = t :: ts' := by
 unfold qf at h
 rcases h1 : qy P mt call ops o s with _ | ⟨s1, t⟩
 ·simp [h1] at h
 simp only [h1] at h
 rcases h2 : qf P mt call ops r s1 with _ | ⟨s2, ts'⟩
 ·simp [h2] at h
 simp only [h2, Option.some.injEq, Prod.mk.injEq] at h
 exact ⟨s1, t, ts', rfl, by rw [h2, h.1], h.2.symm⟩
theorem evOps_mk {o : Oper} {r : List Oper} {s s1 sF : St} {t : Tr} {ts : List Tr} (h1 : qy P mt call ops o s = some (s1, t)) (h2 : qf P mt call ops r s1 = some (sF, ts)) :
  qf P mt call ops (o :: r) s = some (sF, t :: ts) := by
 unfold qf; simp [h1, h2]

theorem wz : ∀ (l1 : List (Oper × Tr)) {o : Oper} {t : Tr} {l2 : List (Oper × Tr)} {s sF : St},
  qf P mt call ops ((l1 ++ (o, t) :: l2).map (·.1)) s = some (sF, (l1 ++ (o, t) :: l2).map (·.2)) → (∀ x ∈ l1, wc ops x (o, t) = true) →
  ∃ s1, qy P mt call ops o s = some (s1, t) ∧ qf P mt call ops ((l1 ++ l2).map (·.1)) s1 = some (sF, (l1 ++ l2).map (·.2))
 | [], o, t, l2, s, sF, h, _ => by
  simp only [List.nil_append, List.map_cons] at h
  obtain ⟨s1, t', ts', h1, h2, h3⟩ := tn h
  cases h3
  exact ⟨s1, h1, h2⟩
 | (x, tx) :: l1, o, t, l2, s, sF, h, hp => by
  simp only [List.cons_append, List.map_cons] at h
  obtain ⟨s1, t', ts', h1, h2, h3⟩ := tn h
  cases h3
  obtain ⟨s2, h4, h5⟩ := wz l1 h2 (fun y hy => hp y (by simp [hy]))
  obtain ⟨s3, h6, h7⟩ := commute h1 h4 (hp (x, tx) sm)
  exact ⟨s3, h6, by simp only [List.cons_append, List.map_cons]; exact evOps_mk h7 h5⟩

theorem w2 : ∀ (l : List Oper) (acc : List Nat) (i : Nat), i < acc.length → (wZ l acc).getD i 0 = acc.getD i 0
 | [], acc, i, _ => rfl
 | o :: r, acc, i, h => by
  rw [wZ, w2 r _ i so]
  simp only [List.getD_eq_getElem?_getD]
  rw [List.getElem?_append_left h]

theorem xk (acc : List Nat) : ∀ (es : List Edge) (b j : Nat), (es.foldl (fun b e => if Region.binds .any e then b ||| (2 ^ e.on ||| acc.getD e.on 0) else b) b).testBit j = true →
  b.testBit j = true ∨ ∃ e ∈ es, Region.binds .any e = true ∧ (e.on = j ∨ (acc.getD e.on 0).testBit j = true)
 | [], b, j, h => .inl h
 | e :: es, b, j, h => by
  simp only [List.foldl_cons] at h
  rcases xk acc es _ j h with h1 | ⟨e', h1, h2, h3⟩
  ·by_cases hb : Region.binds .any e = true
   ·simp only [hb, if_true, Nat.testBit_or, Bool.or_eq_true, Nat.testBit_two_pow, decide_eq_true_eq] at h1
    rcases h1 with h1 | h1 | h1
    ·exact .inl h1
    ·exact .inr ⟨e, sm, hb, .inl h1⟩
    ·exact .inr ⟨e, sm, hb, .inr h1⟩
   ·simp only [hb] at h1; exact .inl h1
  ·exact .inr ⟨e', by simp [h1], h2, h3⟩

theorem vS : ∀ (l : List Oper) (acc : List Nat) (i : Nat) (o : Oper), l[i]? = some o → ∀ j, ((wZ l acc).getD (acc.length + i) 0).testBit j = true →
  ∃ e ∈ o.after, Region.binds .any e = true ∧ (e.on = j ∨ (e.on < acc.length + i ∧ ((wZ l acc).getD e.on 0).testBit j = true))
 | [], acc, i, o, h, _, _ => by simp at h
 | x :: r, acc, 0, o, h, j, hj => by
  simp only [List.getElem?_cons_zero, Option.some.injEq] at h
  subst h
  rw [wZ, Nat.add_zero, w2 r _ acc.length sm] at hj
  simp only [List.getD_eq_getElem?_getD, List.getElem?_concat_length, Option.getD_some] at hj
  rcases xk acc x.after.toList 0 j hj with h1 | ⟨e, h1, h2, h3⟩
  ·simp at h1
  ·refine ⟨e, by simpa using h1, h2, ?_⟩
   rcases h3 with h3 | h3
   ·exact .inl h3
   ·by_cases hlt : e.on < acc.length
    ·refine .inr ⟨za, ?_⟩
     rw [wZ, w2 r _ e.on so]
     simp only [List.getD_eq_getElem?_getD] at h3 ⊢
     rw [List.getElem?_append_left hlt]
     exact h3
    ·rw [List.getD_eq_getElem?_getD, List.getElem?_eq_none za] at h3
     simp at h3
 | x :: r, acc, i + 1, o, h, j, hj => by
  simp only [List.getElem?_cons_succ] at h
  rw [wZ] at hj ⊢
  have := vS r (acc ++ [x.after.toList.foldl (fun b e => if Region.binds .any e then b ||| (2 ^ e.on ||| acc.getD e.on 0) else b) 0]) i o h j (by
   simp only [List.length_append, List.length_singleton]
   rw [show acc.length + 1 + i = acc.length + (i + 1) by omega]
   exact hj)
  simp only [List.length_append, List.length_singleton] at this
  rw [show acc.length + 1 + i = acc.length + (i + 1) by omega] at this
  exact this

theorem zJ {listed : Array Bool} (hclosed : ∀ (i : Nat) o, ops[i]? = some o → listed.getD i false = true → ∀ e ∈ o.after, Region.binds .any e = true → listed.getD e.on false = true) (hsz : listed.size = ops.size) :
  ∀ (n i : Nat) (o : Oper), i ≤ n → ops[i]? = some o → (∀ e ∈ o.after, Region.binds .any e = true → listed.getD e.on false = true) → ∀ j, ((wZ ops.toList []).getD i 0).testBit j = true → listed.getD j false = true := by
 intro n
 induction n with
 | zero =>
  intro i o hi ho he j hj
  have h0 : i = 0 := by omega
  subst h0
  obtain ⟨e, h1, h2, h3⟩ := vS ops.toList [] 0 o (by simpa using ho) j (by simpa using hj)
  rcases h3 with rfl | ⟨h3, _⟩
  ·exact he e h1 h2
  ·simp at h3
 | succ n ih =>
  intro i o hi ho he j hj
  obtain ⟨e, h1, h2, h3⟩ := vS ops.toList [] i o (by simpa using ho) j (by simpa using hj)
  rcases h3 with rfl | ⟨h3, h4⟩
  ·exact he e h1 h2
  ·simp only [List.length_nil, Nat.zero_add] at h3
   have hl := he e h1 h2
   have hlt : e.on < ops.size := by
    rcases Nat.lt_or_ge e.on listed.size with h | h
    ·omega
    ·simp [Array.getElem?_eq_none h] at hl
   have ho2 : ops[e.on]? = some ops[e.on] := Array.getElem?_eq_getElem hlt
   exact ih e.on _ za ho2 (hclosed e.on _ ho2 hl) j h4
end
end Go.Dw
