
import Derived.Test.YtkcfodpngpmlcaaGreatDwOp

namespace Go.Dw

def Lc {α : Type} (m : M α) : Prop := ∀ b b' a r c, m b = some (a, r, c) → (∀ id ∈ r, b' id = b id) → m b' = some (a, r, c)
theorem Lc.pure {α : Type} (a : α) : Lc (M.pure a) := fun _ _ _ _ _ h _ => h
theorem Lc.cS {α : Type} (k : Bool) (a : α) : Lc (M.cS k a) := fun _ _ _ _ _ h _ => h
theorem Lc.fail {α : Type} : Lc (M.fail : M α) := fun _ _ _ _ _ h _ => h
theorem Lc.get (id : Nat) : Lc (M.get id) := by
 intro b b' a r c h hb
 obtain ⟨h1, h2, h3⟩ := M.get_some h
 subst h2; subst h3
 simp [M.get, hb id sm, h1]
theorem Lc.dC (id : Nat) : Lc (M.dC id) := by
 intro b b' a r c h hb
 obtain ⟨h1, h2, h3⟩ := M.eA h
 subst h2; subst h3
 simp [M.dC, hb id sm, h1]
theorem Lc.bind {α β : Type} {m : M α} {f : α → M β} (hm : Lc m) (hf : ∀ a, Lc (f a)) : Lc (M.bind m f) := by
 intro b b' x r c h hb
 unfold M.bind at h ⊢
 rcases h1 : m b with _ | ⟨a, r1, c1⟩
 ·simp [h1] at h
 simp only [h1] at h
 rcases h2 : f a b with _ | ⟨y, r2, c2⟩
 ·simp [h2] at h
 simp only [h2, Option.some.injEq, Prod.mk.injEq] at h
 obtain ⟨rfl, rfl, rfl⟩ := h
 rw [hm b b' a r1 c1 h1 (fun id hid => hb id (List.mem_append.2 (.inl hid)))]
 simp only [hf a b b' y r2 c2 h2 (fun id hid => hb id (List.mem_append.2 (.inr hid)))]
theorem Lc.fi (v : RV) : Lc (fi v) := Lc.pure _
theorem Lc.dU (k : Bool) (v : RV) : Lc (dU k v) := Lc.cS _ _
theorem Lc.mw (o : Option (PD × Bool)) : Lc (mw o) := by unfold Dw.mw; split <;> first | exact Lc.cS _ _ | exact Lc.fail

theorem Lc.nK (v : RV) : Lc (nK v) := by
 unfold Dw.nK
 split <;> first | exact Lc.pure _ | exact Lc.fail | skip
 all_goals refine Lc.bind (Lc.get _) fun bx => ?_
 all_goals (split <;> first | exact Lc.fail | skip)
 all_goals (split <;> first | exact Lc.pure _ | exact Lc.cS _ _ | exact Lc.fail)
theorem Lc.kN : ∀ (cs : List RV), Lc (kN cs)
 | [] => Lc.pure _
 | c :: cs => Lc.bind (Lc.nK c) fun _ => Lc.bind (Lc.kN cs) fun _ => Lc.pure _
theorem Lc.iP (v : RV) : Lc (iP v) := by
 unfold Dw.iP
 split
 ·exact Lc.bind (Lc.kN _) fun _ => Lc.pure _
 ·exact Lc.nK _
section
variable (P : Program)
theorem Lc.jN (t : TypeId) (cs : List PD) : Lc (jN P t cs) := by
 unfold Dw.jN
 split <;> first | exact Lc.fail | exact Lc.dU _ _ | skip
 split <;> first | exact Lc.fail | exact Lc.fi _
theorem Lc.iC (t : TypeId) (cs : List RV) (o : Nat) : Lc (iC P t cs o) := by
 unfold Dw.iC
 split <;> first | exact Lc.fail | exact Lc.dU _ _ | skip
 split <;> first | exact Lc.fail | exact Lc.fi _
theorem Lc.mQ (t : TypeId) (a : RV) : Lc (mQ P t a) := by
 unfold Dw.mQ
 split
 ·exact Lc.jN P t _
 ·refine Lc.bind (Lc.get _) fun bx => ?_
  split <;> first | exact Lc.iC P t _ _ | exact Lc.fail
 ·refine Lc.bind (Lc.get _) fun bx => ?_
  split <;> first | exact Lc.fail | skip
  ·split <;> first | exact Lc.fail | skip
   split <;> first | exact Lc.fail | exact Lc.jN P t _
  ·split <;> first | exact Lc.fail | skip
   split <;> first | exact Lc.fail | exact Lc.fi _
 ·exact Lc.fail
theorem Lc.k6 (t : TypeId) (a v : RV) : Lc (k6 P t a v) := by
 unfold Dw.k6
 split <;> first | exact Lc.fail | skip
 split
 ·refine Lc.bind (Lc.get _) fun bx => ?_
  split <;> first | exact Lc.cS _ _ | exact Lc.fail | skip
  split <;> first | exact Lc.cS _ _ | exact Lc.fail
 ·refine Lc.bind (Lc.get _) fun bx => ?_
  split <;> first | exact Lc.fail | skip
  ·split <;> first | exact Lc.fail | skip
   refine Lc.bind (Lc.iP _) fun p => ?_
   obtain ⟨p, u⟩ := p
   dsimp only
   split <;> first | exact Lc.fail | skip
   split <;> first | exact Lc.fail | exact Lc.cS _ _
  ·exact iteInduction (motive := Lc) (fun _ => Lc.cS _ _) (fun _ => Lc.fail)
 ·exact Lc.fail
theorem Lc.nI (off : Nat) (x : RV) : Lc (nI off x) := by
 unfold Dw.nI
 split
 ·refine Lc.bind (Lc.get _) fun bx => ?_
  split <;> first | exact Lc.fi _ | exact Lc.fail
 ·refine Lc.bind (Lc.get _) fun bx => ?_
  split <;> first | exact Lc.fail | skip
  split <;> first | exact Lc.fi _ | exact Lc.fail
 ·exact Lc.fi _
 ·exact Lc.fail
theorem Lc.il (t : TypeId) (x : RV) (f : Nat) : Lc (il P t x f) := by
 unfold Dw.il
 split <;> first | exact Lc.fail | skip
 split <;> first | exact Lc.fail | exact Lc.nI _ _
theorem Lc.nU (t : TypeId) (x : RV) (f : Nat) : Lc (nU P t x f) := by
 unfold Dw.nU
 split <;> first | exact Lc.fail | exact Lc.iC P _ _ _
theorem Lc.nX (x i : RV) : Lc (nX x i) := by
 unfold Dw.nX
 repeat' split
 all_goals first | exact Lc.dU _ _ | exact Lc.fail
theorem Lc.pH (len : Nat) (e : TypeId) (x i : RV) : Lc (pH P len e x i) := by
 unfold Dw.pH
 repeat' split
 all_goals first | exact Lc.bind (Lc.cS _ _) fun _ => Lc.iC _ _ _ _ | exact Lc.fail
theorem Lc.mO (t : TypeId) (x i : RV) : Lc (mO P t x i) := by
 unfold Dw.mO
 repeat' split
 all_goals first | exact Lc.nX _ _ | exact Lc.pH _ _ _ _ _ | exact Lc.fail
theorem Lc.fc (t : TypeId) (x i : RV) : Lc (fc P t x i) := by
 unfold Dw.fc
 split
 ·split <;> first | exact Lc.fail | skip
  split <;> first | exact Lc.fail | exact Lc.dU _ _ | skip
  all_goals refine Lc.bind (Lc.get _) fun bx => ?_
  all_goals (split <;> first | exact Lc.fail | exact Lc.dU _ _ | skip)
  all_goals (split <;> first | exact Lc.fail | exact Lc.dU _ _)
 ·split <;> first | exact Lc.fail | skip
  exact Lc.bind (Lc.cS _ _) fun _ => Lc.nI _ _
 ·exact Lc.fail
theorem Lc.sliceB (e : TypeId) (id ver a b : Nat) (lo hi : Option RV) : Lc (sliceB P e id ver a b lo hi) := by
 unfold Dw.sliceB
 split <;> first | exact Lc.fail | skip
 refine Lc.bind (Lc.get _) fun bx => ?_
 split <;> first | exact Lc.fail | skip
 split <;> first | exact Lc.fail | exact Lc.dU _ _
theorem Lc.pY (nid : Nat) (e : TypeId) (n : Nat) (lo hi mx : Option RV) : Lc (pY P nid e n lo hi mx) := by
 unfold Dw.pY
 split <;> first | exact Lc.fail | skip
 split <;> first | exact Lc.fail | exact Lc.bind (Lc.dC _) fun _ => Lc.cS _ _
theorem Lc.oq (id : Nat) (a : TypeId) : Lc (oq P id a) := by
 unfold Dw.oq
 split <;> first | exact Lc.fail | skip
 split <;> first | exact Lc.fail | skip
 refine Lc.bind (Lc.get _) fun bx => ?_
 split <;> first | exact Lc.fail | skip
 split <;> first | exact Lc.fail | skip
 split <;> first | exact Lc.fail | exact Lc.cS _ _
theorem Lc.ow (e : TypeId) (id ver : Nat) (lo hi : Option RV) (mx : RV) : Lc (ow P e id ver lo hi mx) := by
 unfold Dw.ow
 split <;> first | exact Lc.fail | skip
 split <;> first | exact Lc.fail | skip
 refine Lc.bind (Lc.get _) fun bx => ?_
 split <;> first | exact Lc.fail | skip
 split <;> first | exact Lc.fail | exact Lc.cS _ _
theorem Lc.ot (a : TypeId) (cs : List PD) : Lc (ot P a cs) := by
 unfold Dw.ot
 split <;> first | exact Lc.fail | skip
 split <;> first | exact Lc.fail | skip
 split <;> first | exact Lc.fail | exact Lc.cS _ _
theorem Lc.sx (e : TypeId) (es : List PD) (h m : Int) : Lc (sx P e es h m) := by
 unfold Dw.sx
 split <;> first | exact Lc.fail | skip
 split <;> first | exact Lc.fail | exact Lc.cS _ _
theorem Lc.qP (t : TypeId) (x : RV) (lo hi mx : Option RV) : Lc (qP P t x lo hi mx) := by
 unfold Dw.qP
 split <;> first | exact Lc.fail | exact Lc.sx P _ _ _ _ | skip
 split <;> first | exact Lc.fail | skip
 refine Lc.bind (Lc.get _) fun bx => ?_
 split <;> first | exact Lc.fail | skip
 split <;> first | exact Lc.fail | exact Lc.cS _ _
theorem Lc.fU (nid : Nat) (t : TypeId) (x : RV) (lo hi mx : Option RV) : Lc (fU P nid t x lo hi mx) := by
 unfold Dw.fU
 split
 ·refine Lc.bind (Lc.get _) fun bx => ?_
  split <;> first | exact Lc.fail | exact Lc.sliceB P _ _ _ _ _ _ _
 ·exact Lc.sliceB P _ _ _ _ _ _ _
 ·split <;> first | exact Lc.fail | exact Lc.oq P _ _
 ·split <;> first | exact Lc.fail | exact Lc.ot P _ _
 ·split <;> first | exact Lc.fail | (split <;> first | exact Lc.pure _ | exact Lc.fail)
 ·exact Lc.pY P _ _ _ _ _ _
 ·exact Lc.ow P _ _ _ _ _ _
 all_goals first | exact Lc.fail | (split <;> first | exact Lc.fail | exact Lc.dU _ _)
theorem Lc.nP (t : TypeId) (l : List (Nat × RV)) : Lc (nP P t l) := by
 unfold Dw.nP
 split
 ·split <;> first | exact Lc.fail | skip
  split <;> first | exact Lc.fail | exact Lc.dU _ _
 ·split <;> first | exact Lc.fail | skip
  split <;> first | exact Lc.fail | exact Lc.dU _ _
 ·exact Lc.fail
theorem Lc.nY (mt : Bool) (cs : List RV) : Lc (nY mt cs) := by
 unfold Dw.nY
 split
 ·exact Lc.pure _
 ·exact Lc.kN _
theorem Lc.gw (mt : Bool) (id : Nat) (t : TypeId) (len : Nat) (l : List (Nat × RV)) : Lc (gw P mt id t len l) := by
 unfold Dw.gw
 split <;> first | exact Lc.fail | skip
 split <;> first | exact Lc.fail | skip
 split <;> first | exact Lc.fail | skip
 split <;> first | exact Lc.fail | skip
 refine Lc.bind (Lc.nY _ _) fun p => ?_
 obtain ⟨ps, u⟩ := p
 dsimp only
 split
 ·exact Lc.bind (Lc.dC _) fun _ => Lc.cS _ _
 ·exact Lc.cS _ _
theorem Lc.nM (id : Nat) (t : TypeId) : Lc (nM P id t) := by
 unfold Dw.nM
 split <;> first | exact Lc.fail | exact Lc.bind (Lc.dC _) fun _ => Lc.pure _
theorem Lc.boxD (id : Nat) (v : RV) : Lc (boxD id v) := Lc.bind (Lc.dC _) fun _ => Lc.cS _ _
theorem Lc.pN (t : TypeId) (x : RV) : Lc (pN P t x) := by
 unfold Dw.pN
 split <;> first | exact Lc.fail | exact Lc.fi _ | skip
 all_goals refine Lc.bind (Lc.get _) fun bx => ?_
 all_goals (split <;> first | exact Lc.fail | exact Lc.fi _ | skip)
 all_goals (split <;> first | exact Lc.fail | exact Lc.fi _ | exact Lc.dU _ _)
theorem Lc.eW (x : RV) : Lc (eW x) := by
 unfold Dw.eW
 split <;> first | exact Lc.fail | exact Lc.pure _ | skip
 all_goals refine Lc.bind (Lc.get _) fun bx => ?_
 all_goals (split <;> first | exact Lc.fail | skip)
 all_goals (split <;> first | exact Lc.fail | exact Lc.pure _ | exact Lc.cS _ _)
theorem Lc.fR (id : Nat) (t t' : TypeId) (s x : RV) : Lc (fR P id t t' s x) := by
 unfold Dw.fR
 split <;> first | exact Lc.fail | skip
 split <;> first | exact Lc.fail | skip
 split <;> first | exact Lc.fail | skip
 refine Lc.bind (Lc.eW _) fun xs => ?_
 split
 ·exact Lc.bind (Lc.dC _) fun _ => Lc.cS _ _
 ·refine Lc.bind (Lc.get _) fun bx => ?_
  split <;> first | exact Lc.fail | skip
  all_goals (split <;> first | exact Lc.fail | exact Lc.cS _ _)
 ·refine Lc.bind (Lc.get _) fun bx => ?_
  split <;> first | exact Lc.fail | skip
  split <;> first | exact Lc.fail | exact Lc.cS _ _
 ·exact Lc.cS _ _
 ·exact Lc.fail
theorem Lc.oK (x : RV) : Lc (oK x) := by
 unfold Dw.oK
 split <;> first | exact Lc.fail | skip
 all_goals refine Lc.bind (Lc.get _) fun bx => ?_
 all_goals (split <;> first | exact Lc.fail | skip)
 all_goals (split <;> first | exact Lc.fail | exact Lc.pure _ | exact Lc.cS _ _)
theorem Lc.nw (t : TypeId) (x y : RV) : Lc (nw P t x y) := by
 unfold Dw.nw
 split <;> first | exact Lc.fail | skip
 split <;> first | exact Lc.fail | skip
 exact Lc.bind (Lc.oK _) fun _ => Lc.bind (Lc.eW _) fun _ => Lc.cS _ _
theorem Lc.kS (t : TypeId) (x : RV) : Lc (kS P t x) := by
 unfold Dw.kS
 split <;> first | exact Lc.fail | skip
 split <;> first | exact Lc.fail | skip
 exact Lc.bind (Lc.oK _) fun _ => Lc.cS _ _
theorem Lc.minD (l : List RV) : Lc (minD l) := by
 unfold Dw.minD
 split <;> first | exact Lc.fail | skip
 split <;> first | exact Lc.fail | exact Lc.pure _
theorem Lc.maxD (l : List RV) : Lc (maxD l) := by
 unfold Dw.maxD
 split <;> first | exact Lc.fail | skip
 split <;> first | exact Lc.fail | exact Lc.pure _
theorem Lc.argD (by_ : Bool) (v : RV) : Lc (argD by_ v) := by
 unfold Dw.argD
 split <;> first | exact Lc.pure _ | exact Lc.bind (Lc.iP _) fun _ => Lc.cS _ _ | (split <;> first | exact Lc.pure _ | exact Lc.bind (Lc.iP _) fun _ => Lc.pure _ | exact Lc.bind (Lc.iP _) fun _ => Lc.cS _ _)
theorem Lc.nv (by_ : Nat → Bool) : ∀ (i : Nat) (l : List RV), Lc (nv by_ i l)
 | _, [] => Lc.pure _
 | i, v :: r => Lc.bind (Lc.argD _ v) fun _ => Lc.bind (Lc.nv by_ (i + 1) r) fun _ => Lc.pure _
theorem Lc.jr : ∀ (n : Nat) (done todo : List Nat), Lc (jr n done todo)
 | 0, _, _ => Lc.fail
 | _ + 1, _, [] => Lc.pure _
 | n + 1, done, i :: todo => by
  unfold Dw.jr
  split
  ·exact Lc.jr n _ _
  ·exact Lc.bind (Lc.get _) fun _ => Lc.jr n _ _
theorem Lc.mN : ∀ (l : List Nat), Lc (mN l)
 | [] => Lc.pure _
 | _ :: r => Lc.bind (Lc.get _) fun _ => Lc.bind (Lc.mN r) fun _ => Lc.pure _
theorem Lc.iQ : ∀ (l : List Nat), Lc (iQ l)
 | [] => Lc.pure _
 | _ :: r => Lc.bind (Lc.dC _) fun _ => Lc.iQ r
theorem Lc.mM (by_ : FuncId → Nat → Bool) (call : dW) (f : FuncId) (base : Nat) (l : List RV) : Lc (mM by_ call f base l) := by
 unfold Dw.mM
 refine Lc.bind (Lc.nv _ _ _) fun x => Lc.bind (Lc.jr _ _ _) fun ids => Lc.bind (Lc.mN _) fun bxs => ?_
 split <;> first | exact Lc.fail | skip
 split <;> first | exact Lc.fail | exact Lc.bind (Lc.iQ _) fun _ => Lc.pure _
theorem Lc.mq (id : Nat) (src dst : TypeId) (x : RV) : Lc (mq P id src dst x) := by
 unfold Dw.mq
 split
 ·split <;> first | exact Lc.fail | exact Lc.bind (Lc.dC _) fun _ => Lc.pure _
 ·split <;> first | exact Lc.fail | skip
  refine Lc.bind (Lc.get _) fun bx => ?_
  split <;> first | exact Lc.fail | exact Lc.fi _
 ·split <;> first | exact Lc.fail | skip
  split <;> first | exact Lc.fail | exact Lc.fi _
 ·exact Lc.mw _
theorem Lc.jI (id : Nat) (t : TypeId) : Lc (jI P id t) := by
 unfold Dw.jI
 split <;> first | exact Lc.fail | exact Lc.bind (Lc.dC _) fun _ => Lc.pure _
theorem Lc.kf (id : Nat) (t : TypeId) : Lc (kf P id t) := by
 unfold Dw.kf
 split <;> first | exact Lc.fail | skip
 split <;> first | exact Lc.fail | exact Lc.bind (Lc.dC _) fun _ => Lc.pure _
theorem Lc.gG (nid : Nat) (t : TypeId) (x k : RV) : Lc (gG P nid t x k) := by
 unfold Dw.gG
 split <;> first | exact Lc.fail | skip
 refine Lc.bind (Lc.get _) fun bx => ?_
 split <;> first | exact Lc.fail | skip
 refine iteInduction (motive := Lc) (fun _ => ?_) (fun _ => Lc.fail)
 refine Lc.bind (Lc.dC _) fun _ => ?_
 split
 ·exact Lc.cS _ _
 ·exact iteInduction (motive := Lc) (fun _ => Lc.pure _) (fun _ => Lc.fail)
 ·exact Lc.fail
theorem Lc.fP (x n v : RV) : Lc (fP x n v) := by
 unfold Dw.fP
 split <;> first | exact Lc.fail | skip
 refine Lc.bind (Lc.get _) fun bx => ?_
 split <;> first | exact Lc.fail | skip
 refine Lc.bind (Lc.get _) fun bx => ?_
 split <;> first | exact Lc.fail | skip
 refine iteInduction (motive := Lc) (fun _ => ?_) (fun _ => Lc.fail)
 split <;> first | exact Lc.fail | exact Lc.pure _
theorem Lc.jZ (t : TypeId) (x k : RV) (ok : Bool) : Lc (jZ P t x k ok) := by
 unfold Dw.jZ
 split <;> first | exact Lc.fail | skip
 refine Lc.bind (Lc.get _) fun bx => ?_
 split <;> first | exact Lc.fail | skip
 split <;> first | exact Lc.fail | skip
 split <;> first | exact Lc.fail | (split <;> exact Lc.fi _)
theorem Lc.j0 (t : TypeId) (x k v : RV) : Lc (j0 P t x k v) := by
 unfold Dw.j0
 split <;> first | exact Lc.fail | skip
 refine Lc.bind (Lc.get _) fun bx => ?_
 split <;> first | exact Lc.fail | skip
 split <;> first | exact Lc.fail | skip
 refine Lc.bind (Lc.iP _) fun p => ?_
 obtain ⟨p, u⟩ := p
 dsimp only
 split <;> first | exact Lc.fail | (split <;> first | exact Lc.fail | exact Lc.cS _ _ | exact Lc.pure _)
theorem Lc.im (id : Nat) (t : TypeId) (l c : RV) : Lc (im P id t l c) := by
 unfold Dw.im
 split <;> first | exact Lc.fail | skip
 split <;> first | exact Lc.fail | exact Lc.bind (Lc.dC _) fun _ => Lc.cS _ _
theorem Lc.qa (id : Nat) (t t' : TypeId) (a x : RV) : Lc (qa P id t t' a x) := by
 unfold Dw.qa
 split <;> first | exact Lc.fail | skip
 split <;> first | exact Lc.fail | exact Lc.bind (Lc.dC _) fun _ => Lc.cS _ _
theorem Lc.capD (t : TypeId) (x : RV) : Lc (capD P t x) := by
 unfold Dw.capD
 split <;> first | exact Lc.fail | exact Lc.fi _
theorem Lc.dL (mt : Hf) (call : dW) (s : St) (o : Oper) : Lc (dL P mt call s o) := by
 unfold Dw.dL
 split
 all_goals (try exact Lc.fail)
 all_goals (try exact Lc.nM P _ _)
 all_goals (split <;> first | exact Lc.fail | exact Lc.fi _ | exact Lc.boxD _ _ | exact Lc.nP P _ _ | exact Lc.gw P _ _ _ _ _ | exact Lc.mQ P _ _ | exact Lc.k6 P _ _ _ | exact Lc.nI _ _ | exact Lc.mw _ | exact Lc.fU P _ _ _ _ _ _ | exact Lc.il P _ _ _ | exact Lc.nU P _ _ _ | exact Lc.fc P _ _ _ | exact Lc.mO P _ _ _ | exact Lc.minD _ | exact Lc.maxD _ | exact Lc.jZ P _ _ _ _ | exact Lc.j0 P _ _ _ _ | exact Lc.jI P _ _ | exact iteInduction (motive := Lc) (fun _ => Lc.kf P _ _) (fun _ => Lc.jI P _ _) | exact Lc.gG P _ _ _ _ | exact Lc.fP _ _ _ | exact Lc.im P _ _ _ _ | exact Lc.mq P _ _ _ _ | skip)
 all_goals (split <;> first | exact Lc.fail | exact Lc.fi _ | exact Lc.pN P _ _ | exact Lc.capD P _ _ | exact Lc.fR P _ _ _ _ _ | exact Lc.nw P _ _ _ | exact Lc.kS P _ _ | exact Lc.qP P _ _ _ _ _ | exact Lc.fU P _ _ _ _ _ _ | exact Lc.mM _ _ _ _ _ | (split <;> first | exact Lc.fR P _ _ _ _ _ | exact Lc.qa P _ _ _ _ _))
end

theorem oi {s s' : St} : ∀ {xs : List Operand}, (∀ x ∈ xs, s.opd x = s'.opd x) → gX s xs = gX s' xs
 | [], _ => rfl
 | x :: xs, h => by simp only [gX]; rw [h x sm, oi fun y hy => h y (by simp [hy])]
theorem kl {s s' : St} : ∀ {xs : List (Nat × Operand)}, (∀ x ∈ xs.map (·.2), s.opd x = s'.opd x) → gd s xs = gd s' xs
 | [], _ => rfl
 | (i, x) :: xs, h => by simp only [gd]; rw [h x sm, kl fun y hy => h y (by simp only [List.map_cons, List.mem_cons]; exact .inr hy)]
theorem j3 {s s' : St} {x : Option Operand} (h : ∀ y ∈ x.toArray, s.opd y = s'.opd y) : eV s x = eV s' x := by
 cases x with
 | none => rfl
 | some y => simp only [eV]; rw [h y sm]
theorem w9 {P : Program} {mt : Hf} {call : dW} {s s' : St} (o : Oper) (h : ∀ x ∈ o.op.operands, s.opd x = s'.opd x) : dL P mt call s o = dL P mt call s' o := by
 unfold dL
 rcases hop : o.op with x | x | ⟨c, x, y⟩ | t | ⟨t, x⟩ | ⟨t, parts⟩ | ⟨t, len, parts⟩ | ⟨t, m, k, x⟩ | ⟨t, x⟩ | ⟨t, x, y⟩ | g | g | x | ⟨op, t, x, y, t2⟩ | ⟨op, t, x⟩ | ⟨t, t2, x⟩ | ⟨t, x⟩ | ⟨t, x⟩ | ⟨fn, x, y⟩ | ⟨t, x⟩ | ⟨t, x⟩ | ⟨t, x, y⟩ | ⟨t, x, lo, hi, mx⟩ | ⟨t, x, f⟩ | ⟨t, x, f⟩ | ⟨t, x, y⟩ | ⟨t, x, y⟩ | ⟨t, x, y, c⟩ | ⟨t, x, y, c⟩ | ⟨t, x, y⟩ | ⟨t, x, y, c⟩ | ⟨t, x⟩ | ⟨x, b⟩ | x | ⟨x, t, t2, b⟩ | ⟨x, i⟩ | c | c | c | x | ⟨x, y⟩ | ⟨t, x, b⟩ | ⟨cs, b⟩
 all_goals (simp only [hop, Op.operands] at h)
 all_goals (try simp only)
 all_goals (try rw [h x sm])
 all_goals (try rw [h y sm])
 ·rw [h c sm]
 ·rw [kl fun x hx => h x (by simpa using hx)]
 ·rw [kl fun x hx => h x (by simpa using hx)]
 ·cases op <;> (try simp only) <;> rw [h x sm]
 ·rw [oi (s := s) (s' := s') (xs := y.toList) fun x hx => h x (by simp only [Array.mem_append]; exact .inr (by simpa using hx))]
 ·rw [j3 (x := x) fun y hy => h y (by simpa using hy)]
 ·rw [j3 (x := lo) fun y hy => h y (by simp only [Array.mem_append]; exact .inl (.inl (.inr hy))), j3 (x := hi) fun y hy => h y (by simp only [Array.mem_append]; exact .inl (.inr hy)), j3 (x := mx) fun y hy => h y (by simp only [Array.mem_append]; exact .inr hy)]
 ·rw [h c sm]
 ·rw [h c sm]
 ·have ha : gX s c.args.toList = gX s' c.args.toList := oi fun x hx => h x (by simp only [Call.operands, Array.mem_append]; exact .inr (by simpa using hx))
  rw [ha]
  cases hc : c.callee with
  | value f =>
   have hf : s.opd f = s'.opd f := h f (by simp [Call.operands, hc])
   cases gX s' c.args.toList with
   | none => rfl
   | some l => simp only [hf]
  | invoke r m => cases gX s' c.args.toList <;> rfl
  | builtin b =>
   cases gX s' c.args.toList with
   | none => cases b <;> rfl
   | some l => rcases l with _ | ⟨x, _ | ⟨y, _ | ⟨z, l⟩⟩⟩ <;> cases b <;> rfl
end Go.Dw


namespace Go.Dw

theorem xM : ∀ (u : Ups) (s s' : St) (id : Nat), id ∈ u.map (·.1) → (s.ups u).boxes id = (s'.ups u).boxes id
 | [], _, _, _, h => by simp at h
 | (i, b) :: r, s, s', id, h => by
  rw [gD, gD]
  by_cases hr : id ∈ r.map (·.1)
  ·exact xM r _ _ id hr
  ·rw [gm _ _ _ hr, gm _ _ _ hr]
   have : id = i := by simpa [hr] using h
   subst this
   show upd s.boxes id b id = upd s'.boxes id b id
   rw [cJ, cJ]
theorem iv (s : St) (d : Option Nat) (v : RV) : (s.put d v).boxes = s.boxes := by cases d <;> rfl
theorem St.ext' {s s' : St} (h1 : s.dD = s'.dD) (h2 : s.boxes = s'.boxes) : s = s' := by
 obtain ⟨a, b⟩ := s
 obtain ⟨c, d⟩ := s'
 simp only at h1 h2
 subst h1; subst h2
 rfl
theorem tu {s : St} {u1 u2 : Ups} {d1 d2 : Option Nat} {v1 v2 : RV} (hu : disj (u1.map (·.1)) (u2.map (·.1)) = true) (hd : ∀ d, d1 = some d → d2 ≠ some d) :
  ((((s.ups u1).put d1 v1).ups u2).put d2 v2) = ((((s.ups u2).put d2 v2).ups u1).put d1 v1) := by
 have hu := nh hu
 refine St.ext' ?_ ?_
 ·cases d1 with
  | none =>
   cases d2 with
   | none => simp only [St.put, hJ]
   | some e => simp only [St.put, hJ]
  | some d =>
   cases d2 with
   | none => simp only [St.put, hJ]
   | some e =>
    have hne : d ≠ e := fun he => hd d rfl (he ▸ rfl)
    simp only [St.put, hJ]
    funext t
    by_cases h1 : t = d
    ·subst h1; simp [hne]
    ·by_cases h2 : t = e
     ·subst h2; simp [h1]
     ·simp [h1, h2]
 ·rw [iv, iv]
  funext id
  by_cases h1 : id ∈ u1.map (·.1)
  ·have h2 : id ∉ u2.map (·.1) := hu id h1
   rw [gm _ _ _ h2, iv]
   rw [xM u1 _ ((s.ups u2).put d2 v2) id h1]
  ·by_cases h2 : id ∈ u2.map (·.1)
   ·rw [gm u1 _ _ h1, iv]
    rw [xM u2 _ s id h2]
   ·rw [gm _ _ _ h2, iv, gm _ _ _ h1, gm _ _ _ h1, iv, gm _ _ _ h2]

section
variable {P : Program} {mt : Hf} {call : dW} {ops : Array Oper}

theorem kM {o : Oper} {s s' : St} {t : Tr} (h : hF P mt call ops o s = some (s', t)) :
  (cQ ops s o = some true ∧ ∃ v u, dL P mt call s o s.boxes = some ((v, u), t.rd, true) ∧ s' = (s.ups u).put o.dst v ∧ t.wr = u.map (·.1)) ∨
  (cQ ops s o = some false ∧ s' = s.put o.dst .undef ∧ t.rd = [] ∧ t.wr = []) := by
 unfold hF at h
 rcases hw : cQ ops s o with _ | w
 ·simp [hw] at h
 simp only [hw] at h
 cases w with
 | true =>
  simp only [if_true] at h
  rcases he : dL P mt call s o s.boxes with _ | ⟨⟨v, u⟩, rd, c⟩
  ·simp [he] at h
  simp only [he] at h
  cases c with
  | true =>
   simp only [if_true, Option.some.injEq, Prod.mk.injEq] at h
   obtain ⟨rfl, rfl⟩ := h
   exact .inl ⟨rfl, v, u, rfl, rfl, rfl⟩
  | false => simp at h
 | false =>
  simp only [Bool.false_eq_true, if_false, Option.some.injEq, Prod.mk.injEq] at h
  obtain ⟨rfl, rfl⟩ := h
  exact .inr ⟨rfl, rfl, rfl, rfl⟩
theorem pg {o : Oper} {s : St} {v : RV} {u : Ups} {rd : List Nat} (hw : cQ ops s o = some true) (he : dL P mt call s o s.boxes = some ((v, u), rd, true)) :
  hF P mt call ops o s = some ((s.ups u).put o.dst v, ⟨rd, u.map (·.1)⟩) := by
 unfold hF; simp [hw, he]
theorem oz {o : Oper} {s : St} (hw : cQ ops s o = some false) : hF P mt call ops o s = some (s.put o.dst .undef, ⟨[], []⟩) := by
 unfold hF; simp [hw]

theorem kO {o : Oper} {s s' : St} (h : ∀ t ∈ o.looksAt ops, s.dD t = s'.dD t) : cQ ops s o = cQ ops s' o := by
 unfold cQ
 cases hg : o.guard with
 | none => rfl
 | some g =>
  obtain ⟨j, want⟩ := g
  simp only
  cases ht : (ops[j]?).bind (·.dst) with
  | none => rfl
  | some t =>
   simp only
   rw [h t (by simp [Oper.looksAt, hg, ht])]
theorem sn {o : Oper} {s s' : St} (h : ∀ t ∈ o.looksAt ops, s.dD t = s'.dD t) : dL P mt call s o = dL P mt call s' o := by
 refine w9 o fun x hx => ?_
 cases x with
 | tmp t => exact h t (List.mem_append_left _ (List.mem_filterMap.2 ⟨.tmp t, by simpa using hx, rfl⟩))
 | const v => rfl
 | global g => rfl
 | func f => rfl

theorem wz {o : Oper} {s s1 s' : St} {t : Tr} {d : Option Nat} {u : Ups} {v : RV} (h : hF P mt call ops o s1 = some (s', t)) (hs : s1 = (s.ups u).put d v)
  (hd : ∀ e, d = some e → e ∉ o.looksAt ops) (hu : disj (u.map (·.1)) t.rd = true) :
  ∃ v' u', t.wr = u'.map (·.1) ∧ s' = (s1.ups u').put o.dst v' ∧ hF P mt call ops o s = some ((s.ups u').put o.dst v', t) := by
 have hregs : ∀ t ∈ o.looksAt ops, s1.dD t = s.dD t := by
  intro t ht
  subst hs
  cases d with
  | none => simp only [St.put, hJ]
  | some e =>
   have : t ≠ e := fun he => hd e rfl (he ▸ ht)
   simp only [St.put, hJ, this, if_false]
 have hu := nh hu
 rcases kM h with ⟨hw, v', u', he, h1, h2⟩ | ⟨hw, h1, h2, h3⟩
 ·have hw' : cQ ops s o = some true := by rw [← kO hregs]; exact hw
  have he' : dL P mt call s o s.boxes = some ((v', u'), t.rd, true) := by
   rw [← sn (P := P) (mt := mt) (call := call) hregs]
   refine Lc.dL P mt call s1 o _ _ _ _ _ he fun id hid => ?_
   subst hs
   rw [iv, gm _ _ _ (fun hm => hu id hm hid)]
  refine ⟨v', u', h2, h1, ?_⟩
  rw [pg hw' he']
  obtain ⟨rd, wr⟩ := t
  simp only at h2
  rw [h2]
 ·have hw' : cQ ops s o = some false := by rw [← kO hregs]; exact hw
  refine ⟨.undef, [], by rw [h3]; rfl, h1, ?_⟩
  rw [oz hw']
  obtain ⟨rd, wr⟩ := t
  simp only at h2 h3
  rw [h2, h3]
  rfl

theorem commute {x y : Oper} {s s1 s2 : St} {tx ty : Tr} (h1 : hF P mt call ops x s = some (s1, tx)) (h2 : hF P mt call ops y s1 = some (s2, ty)) (hp : pU ops (x, tx) (y, ty) = true) :
  ∃ s3, hF P mt call ops y s = some (s3, ty) ∧ hF P mt call ops x s3 = some (s2, tx) := by
 simp only [pU, Bool.and_eq_true] at hp
 obtain ⟨⟨⟨hap, hd1⟩, hd2⟩, hd3⟩ := hp
 obtain ⟨a1, a2, a3⟩ := Oper.apart_spec hap
 have hx : ∃ v u, s1 = (s.ups u).put x.dst v ∧ tx.wr = u.map (·.1) := by
  rcases kM h1 with ⟨_, v, u, _, h3, h4⟩ | ⟨_, h3, _, h4⟩
  ·exact ⟨v, u, h3, h4⟩
  ·exact ⟨.undef, [], h3, by rw [h4]; rfl⟩
 obtain ⟨vx, ux, hs1, hwx⟩ := hx
 obtain ⟨vy, uy, hwy, hs2, hy⟩ := wz h2 hs1 a1 (by rw [← hwx]; exact hd1)
 refine ⟨_, hy, ?_⟩
 have hregs : ∀ t ∈ x.looksAt ops, ((s.ups uy).put y.dst vy).dD t = s.dD t := by
  intro t ht
  cases hdy : y.dst with
  | none => simp only [St.put, hJ]
  | some e =>
   have : t ≠ e := fun he => a3 e hdy (he ▸ ht)
   simp only [St.put, hJ, this, if_false]
 have hd2 := nh hd2
 rcases kM h1 with ⟨hw, v, u, he, h3, h4⟩ | ⟨hw, h3, h4, h5⟩
 ·have hw' : cQ ops ((s.ups uy).put y.dst vy) x = some true := by rw [kO hregs]; exact hw
  have he' : dL P mt call ((s.ups uy).put y.dst vy) x ((s.ups uy).put y.dst vy).boxes = some ((v, u), tx.rd, true) := by
   rw [sn (P := P) (mt := mt) (call := call) hregs]
   refine Lc.dL P mt call s x _ _ _ _ _ he fun id hid => ?_
   rw [iv, gm _ _ _ (fun hm => hd2 id (by rw [hwy]; exact hm) hid)]
  rw [pg hw' he', hs2, h3]
  rw [tu (by rw [← h4, ← hwy]; exact hd3) a2]
  obtain ⟨rd, wr⟩ := tx
  simp only at h4
  rw [h4]
 ·have hw' : cQ ops ((s.ups uy).put y.dst vy) x = some false := by rw [kO hregs]; exact hw
  rw [oz hw', hs2, h3]
  have := tu (s := s) (u1 := []) (u2 := uy) (d1 := x.dst) (d2 := y.dst) (v1 := .undef) (v2 := vy) (by rfl) a2
  simp only [St.ups] at this
  rw [this]
  obtain ⟨rd, wr⟩ := tx
  simp only at h4 h5
  rw [h4, h5]

theorem lW {o : Oper} {r : List Oper} {s sF : St} {ts : List Tr} (h : gq P mt call ops (o :: r) s = some (sF, ts)) :
  ∃ s1 t ts', hF P mt call ops o s = some (s1, t) ∧ gq P mt call ops r s1 = some (sF, ts') ∧ ts = t :: ts' := by
 unfold gq at h
 rcases h1 : hF P mt call ops o s with _ | ⟨s1, t⟩
 ·simp [h1] at h
 simp only [h1] at h
 rcases h2 : gq P mt call ops r s1 with _ | ⟨s2, ts'⟩
 ·simp [h2] at h
 simp only [h2, Option.some.injEq, Prod.mk.injEq] at h
 exact ⟨s1, t, ts', rfl, by rw [h2, h.1], h.2.symm⟩
theorem evOps_mk {o : Oper} {r : List Oper} {s s1 sF : St} {t : Tr} {ts : List Tr} (h1 : hF P mt call ops o s = some (s1, t)) (h2 : gq P mt call ops r s1 = some (sF, ts)) :
  gq P mt call ops (o :: r) s = some (sF, t :: ts) := by
 unfold gq; simp [h1, h2]

theorem qq : ∀ (l1 : List (Oper × Tr)) {o : Oper} {t : Tr} {l2 : List (Oper × Tr)} {s sF : St},
  gq P mt call ops ((l1 ++ (o, t) :: l2).map (·.1)) s = some (sF, (l1 ++ (o, t) :: l2).map (·.2)) → (∀ x ∈ l1, pU ops x (o, t) = true) →
  ∃ s1, hF P mt call ops o s = some (s1, t) ∧ gq P mt call ops ((l1 ++ l2).map (·.1)) s1 = some (sF, (l1 ++ l2).map (·.2))
 | [], o, t, l2, s, sF, h, _ => by
  simp only [List.nil_append, List.map_cons] at h
  obtain ⟨s1, t', ts', h1, h2, h3⟩ := lW h
  cases h3
  exact ⟨s1, h1, h2⟩
 | (x, tx) :: l1, o, t, l2, s, sF, h, hp => by
  simp only [List.cons_append, List.map_cons] at h
  obtain ⟨s1, t', ts', h1, h2, h3⟩ := lW h
  cases h3
  obtain ⟨s2, h4, h5⟩ := qq l1 h2 (fun y hy => hp y (by simp [hy]))
  obtain ⟨s3, h6, h7⟩ := commute h1 h4 (hp (x, tx) sm)
  exact ⟨s3, h6, by simp only [List.cons_append, List.map_cons]; exact evOps_mk h7 h5⟩

theorem rO : ∀ (l : List Oper) (acc : List Nat) (i : Nat), i < acc.length → (rN l acc).getD i 0 = acc.getD i 0
 | [], acc, i, _ => rfl
 | o :: r, acc, i, h => by
  rw [rN, rO r _ i so]
  simp only [List.getD_eq_getElem?_getD]
  rw [List.getElem?_append_left h]

theorem su (acc : List Nat) : ∀ (es : List Edge) (b j : Nat), (es.foldl (fun b e => if Region.binds .any e then b ||| (2 ^ e.on ||| acc.getD e.on 0) else b) b).testBit j = true →
  b.testBit j = true ∨ ∃ e ∈ es, Region.binds .any e = true ∧ (e.on = j ∨ (acc.getD e.on 0).testBit j = true)
 | [], b, j, h => .inl h
 | e :: es, b, j, h => by
  simp only [List.foldl_cons] at h
  rcases su acc es _ j h with h1 | ⟨e', h1, h2, h3⟩
  ·by_cases hb : Region.binds .any e = true
   ·simp only [hb, if_true, Nat.testBit_or, Bool.or_eq_true, Nat.testBit_two_pow, decide_eq_true_eq] at h1
    rcases h1 with h1 | h1 | h1
    ·exact .inl h1
    ·exact .inr ⟨e, sm, hb, .inl h1⟩
    ·exact .inr ⟨e, sm, hb, .inr h1⟩
   ·simp only [hb] at h1; exact .inl h1
  ·exact .inr ⟨e', by simp [h1], h2, h3⟩

theorem py : ∀ (l : List Oper) (acc : List Nat) (i : Nat) (o : Oper), l[i]? = some o → ∀ j, ((rN l acc).getD (acc.length + i) 0).testBit j = true →
  ∃ e ∈ o.after, Region.binds .any e = true ∧ (e.on = j ∨ (e.on < acc.length + i ∧ ((rN l acc).getD e.on 0).testBit j = true))
 | [], acc, i, o, h, _, _ => by simp at h
 | x :: r, acc, 0, o, h, j, hj => by
  simp only [List.getElem?_cons_zero, Option.some.injEq] at h
  subst h
  rw [rN, Nat.add_zero, rO r _ acc.length sm] at hj
  simp only [List.getD_eq_getElem?_getD, List.getElem?_concat_length, Option.getD_some] at hj
  rcases su acc x.after.toList 0 j hj with h1 | ⟨e, h1, h2, h3⟩
  ·simp at h1
  ·refine ⟨e, by simpa using h1, h2, ?_⟩
   rcases h3 with h3 | h3
   ·exact .inl h3
   ·by_cases hlt : e.on < acc.length
    ·refine .inr ⟨om, ?_⟩
     rw [rN, rO r _ e.on so]
     simp only [List.getD_eq_getElem?_getD] at h3 ⊢
     rw [List.getElem?_append_left hlt]
     exact h3
    ·rw [List.getD_eq_getElem?_getD, List.getElem?_eq_none om] at h3
     simp at h3
 | x :: r, acc, i + 1, o, h, j, hj => by
  simp only [List.getElem?_cons_succ] at h
  rw [rN] at hj ⊢
  have := py r (acc ++ [x.after.toList.foldl (fun b e => if Region.binds .any e then b ||| (2 ^ e.on ||| acc.getD e.on 0) else b) 0]) i o h j (by
   simp only [List.length_append, List.length_singleton]
   rw [show acc.length + 1 + i = acc.length + (i + 1) by omega]
   exact hj)
  simp only [List.length_append, List.length_singleton] at this
  rw [show acc.length + 1 + i = acc.length + (i + 1) by omega] at this
  exact this

theorem wL {listed : Array Bool} (hclosed : ∀ (i : Nat) o, ops[i]? = some o → listed.getD i false = true → ∀ e ∈ o.after, Region.binds .any e = true → listed.getD e.on false = true) (hsz : listed.size = ops.size) :
  ∀ (n i : Nat) (o : Oper), i ≤ n → ops[i]? = some o → (∀ e ∈ o.after, Region.binds .any e = true → listed.getD e.on false = true) → ∀ j, ((rN ops.toList []).getD i 0).testBit j = true → listed.getD j false = true := by
 intro n
 induction n with
 | zero =>
  intro i o hi ho he j hj
  have h0 : i = 0 := by omega
  subst h0
  obtain ⟨e, h1, h2, h3⟩ := py ops.toList [] 0 o (by simpa using ho) j (by simpa using hj)
  rcases h3 with rfl | ⟨h3, _⟩
  ·exact he e h1 h2
  ·simp at h3
 | succ n ih =>
  intro i o hi ho he j hj
  obtain ⟨e, h1, h2, h3⟩ := py ops.toList [] i o (by simpa using ho) j (by simpa using hj)
  rcases h3 with rfl | ⟨h3, h4⟩
  ·exact he e h1 h2
  ·simp only [List.length_nil, Nat.zero_add] at h3
   have hl := he e h1 h2
   have hlt : e.on < ops.size := by
    rcases Nat.lt_or_ge e.on listed.size with h | h
    ·omega
    ·simp [Array.getElem?_eq_none h] at hl
   have ho2 : ops[e.on]? = some ops[e.on] := Array.getElem?_eq_getElem hlt
   exact ih e.on _ om ho2 (hclosed e.on _ ho2 hl) j h4
end
end Go.Dw
