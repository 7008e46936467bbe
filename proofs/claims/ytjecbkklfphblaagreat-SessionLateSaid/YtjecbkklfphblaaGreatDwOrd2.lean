
import Derived.Test.YtjecbkklfphblaaGreatDwOp

namespace Go.Dw

def Lc {α : Type} (m : M α) : Prop := ∀ b b' a r c, m b = some (a, r, c) → (∀ id ∈ r, b' id = b id) → m b' = some (a, r, c)
theorem Lc.pure {α : Type} (a : α) : Lc (M.pure a) := fun _ _ _ _ _ h _ => h
theorem Lc.need {α : Type} (k : Bool) (a : α) : Lc (M.need k a) := fun _ _ _ _ _ h _ => h
theorem Lc.fail {α : Type} : Lc (M.fail : M α) := fun _ _ _ _ _ h _ => h
theorem Lc.get (id : Nat) : Lc (M.get id) := by
 intro b b' a r c h hb
 obtain ⟨h1, h2, h3⟩ := M.get_some h
 subst h2; subst h3
 simp [M.get, hb id (by simp), h1]
theorem Lc.vacant (id : Nat) : Lc (M.vacant id) := by
 intro b b' a r c h hb
 obtain ⟨h1, h2, h3⟩ := M.vacant_some h
 subst h2; subst h3
 simp [M.vacant, hb id (by simp), h1]
theorem Lc.bind {α β : Type} {m : M α} {f : α → M β} (hm : Lc m) (hf : ∀ a, Lc (f a)) : Lc (M.bind m f) := by
 intro b b' x r c h hb
 unfold M.bind at h ⊢
 rcases h1 : m b with _ | ⟨a, r1, c1⟩
 ·simp [h1] at h
 simp only [h1] at h
 rcases h2 : f a b with _ | ⟨y, r2, c2⟩
 ·simp [h2] at h
 simp only [h2, Option.some.injEq, Prod.mk.injEq] at h
 obtain ⟨rfl, rfl, rfl⟩ := h
 rw [hm b b' a r1 c1 h1 (fun id hid => hb id (List.mem_append.2 (.inl hid)))]
 simp only [hf a b b' y r2 c2 h2 (fun id hid => hb id (List.mem_append.2 (.inr hid)))]
theorem Lc.ofRV (v : RV) : Lc (ofRV v) := Lc.pure _
theorem Lc.needRV (k : Bool) (v : RV) : Lc (needRV k v) := Lc.need _ _
theorem Lc.ofOpt (o : Option (PD × Bool)) : Lc (ofOpt o) := by unfold Dw.ofOpt; split <;> first | exact Lc.need _ _ | exact Lc.fail

theorem Lc.toPD1 (v : RV) : Lc (toPD1 v) := by
 unfold Dw.toPD1
 split <;> first | exact Lc.pure _ | exact Lc.fail | skip
 all_goals refine Lc.bind (Lc.get _) fun bx => ?_
 all_goals (split <;> first | exact Lc.fail | skip)
 all_goals (split <;> first | exact Lc.pure _ | exact Lc.need _ _ | exact Lc.fail)
theorem Lc.toPDs : ∀ (cs : List RV), Lc (toPDs cs)
 | [] => Lc.pure _
 | c :: cs => Lc.bind (Lc.toPD1 c) fun _ => Lc.bind (Lc.toPDs cs) fun _ => Lc.pure _
theorem Lc.toPD (v : RV) : Lc (toPD v) := by
 unfold Dw.toPD
 split
 ·exact Lc.bind (Lc.toPDs _) fun _ => Lc.pure _
 ·exact Lc.toPD1 _
section
variable (P : Program)
theorem Lc.partPD (t : TypeId) (cs : List PD) : Lc (partPD P t cs) := by
 unfold Dw.partPD
 split <;> first | exact Lc.fail | exact Lc.needRV _ _ | skip
 split <;> first | exact Lc.fail | exact Lc.ofRV _
theorem Lc.partRV (t : TypeId) (cs : List RV) (o : Nat) : Lc (partRV P t cs o) := by
 unfold Dw.partRV
 split <;> first | exact Lc.fail | exact Lc.needRV _ _ | skip
 split <;> first | exact Lc.fail | exact Lc.ofRV _
theorem Lc.loadD (t : TypeId) (a : RV) : Lc (loadD P t a) := by
 unfold Dw.loadD
 split
 ·exact Lc.partPD P t _
 ·refine Lc.bind (Lc.get _) fun bx => ?_
  split <;> first | exact Lc.partRV P t _ _ | exact Lc.fail
 ·refine Lc.bind (Lc.get _) fun bx => ?_
  split <;> first | exact Lc.fail | skip
  ·split <;> first | exact Lc.fail | skip
   split <;> first | exact Lc.fail | exact Lc.partPD P t _
  ·split <;> first | exact Lc.fail | skip
   split <;> first | exact Lc.fail | exact Lc.ofRV _
 ·exact Lc.fail
theorem Lc.storeD (t : TypeId) (a v : RV) : Lc (storeD P t a v) := by
 unfold Dw.storeD
 split <;> first | exact Lc.fail | skip
 split
 ·refine Lc.bind (Lc.get _) fun bx => ?_
  split <;> first | exact Lc.need _ _ | exact Lc.fail | skip
 ·refine Lc.bind (Lc.get _) fun bx => ?_
  split <;> first | exact Lc.fail | skip
  ·split <;> first | exact Lc.fail | skip
   refine Lc.bind (Lc.toPD _) fun p => ?_
   obtain ⟨p, u⟩ := p
   dsimp only
   split <;> first | exact Lc.fail | skip
   split <;> first | exact Lc.fail | exact Lc.need _ _
  ·exact iteInduction (motive := Lc) (fun _ => Lc.need _ _) (fun _ => Lc.fail)
 ·exact Lc.fail
theorem Lc.moveP (off : Nat) (x : RV) : Lc (moveP off x) := by
 unfold Dw.moveP
 split
 ·refine Lc.bind (Lc.get _) fun bx => ?_
  split <;> first | exact Lc.ofRV _ | exact Lc.fail
 ·refine Lc.bind (Lc.get _) fun bx => ?_
  split <;> first | exact Lc.fail | skip
  split <;> first | exact Lc.ofRV _ | exact Lc.fail
 ·exact Lc.ofRV _
 ·exact Lc.fail
theorem Lc.fieldAddrD (t : TypeId) (x : RV) (f : Nat) : Lc (fieldAddrD P t x f) := by
 unfold Dw.fieldAddrD
 split <;> first | exact Lc.fail | skip
 split <;> first | exact Lc.fail | exact Lc.moveP _ _
theorem Lc.fieldD (t : TypeId) (x : RV) (f : Nat) : Lc (fieldD P t x f) := by
 unfold Dw.fieldD
 split <;> first | exact Lc.fail | exact Lc.partRV P _ _ _
theorem Lc.indexS (x i : RV) : Lc (indexS x i) := by
 unfold Dw.indexS
 repeat' split
 all_goals first | exact Lc.needRV _ _ | exact Lc.fail
theorem Lc.indexA (len : Nat) (e : TypeId) (x i : RV) : Lc (indexA P len e x i) := by
 unfold Dw.indexA
 repeat' split
 all_goals first | exact Lc.bind (Lc.need _ _) fun _ => Lc.partRV _ _ _ _ | exact Lc.fail
theorem Lc.indexD (t : TypeId) (x i : RV) : Lc (indexD P t x i) := by
 unfold Dw.indexD
 repeat' split
 all_goals first | exact Lc.indexS _ _ | exact Lc.indexA _ _ _ _ _ | exact Lc.fail
theorem Lc.indexAddrD (t : TypeId) (x i : RV) : Lc (indexAddrD P t x i) := by
 unfold Dw.indexAddrD
 split
 ·split <;> first | exact Lc.fail | skip
  split <;> first | exact Lc.fail | exact Lc.needRV _ _ | skip
  all_goals refine Lc.bind (Lc.get _) fun bx => ?_
  all_goals (split <;> first | exact Lc.fail | exact Lc.needRV _ _ | skip)
  all_goals (split <;> first | exact Lc.fail | exact Lc.needRV _ _)
 ·split <;> first | exact Lc.fail | skip
  exact Lc.bind (Lc.need _ _) fun _ => Lc.moveP _ _
 ·exact Lc.fail
theorem Lc.sliceB (e : TypeId) (id ver a b : Nat) (lo hi : Option RV) : Lc (sliceB P e id ver a b lo hi) := by
 unfold Dw.sliceB
 split <;> first | exact Lc.fail | skip
 refine Lc.bind (Lc.get _) fun bx => ?_
 split <;> first | exact Lc.fail | skip
 split <;> first | exact Lc.fail | exact Lc.needRV _ _
theorem Lc.sliceZ (nid : Nat) (e : TypeId) (n : Nat) (lo hi mx : Option RV) : Lc (sliceZ P nid e n lo hi mx) := by
 unfold Dw.sliceZ
 split <;> first | exact Lc.fail | skip
 split <;> first | exact Lc.fail | exact Lc.bind (Lc.vacant _) fun _ => Lc.need _ _
theorem Lc.sliceA (id : Nat) (a : TypeId) : Lc (sliceA P id a) := by
 unfold Dw.sliceA
 split <;> first | exact Lc.fail | skip
 split <;> first | exact Lc.fail | skip
 refine Lc.bind (Lc.get _) fun bx => ?_
 split <;> first | exact Lc.fail | skip
 split <;> first | exact Lc.fail | skip
 split <;> first | exact Lc.fail | exact Lc.need _ _
theorem Lc.sliceF (e : TypeId) (id ver : Nat) (lo hi : Option RV) (mx : RV) : Lc (sliceF P e id ver lo hi mx) := by
 unfold Dw.sliceF
 split <;> first | exact Lc.fail | skip
 split <;> first | exact Lc.fail | skip
 refine Lc.bind (Lc.get _) fun bx => ?_
 split <;> first | exact Lc.fail | skip
 split <;> first | exact Lc.fail | exact Lc.need _ _
theorem Lc.sliceC (a : TypeId) (cs : List PD) : Lc (sliceC P a cs) := by
 unfold Dw.sliceC
 split <;> first | exact Lc.fail | skip
 split <;> first | exact Lc.fail | skip
 split <;> first | exact Lc.fail | exact Lc.need _ _
theorem Lc.fullD (e : TypeId) (es : List PD) (h m : Int) : Lc (fullD P e es h m) := by
 unfold Dw.fullD
 split <;> first | exact Lc.fail | skip
 split <;> first | exact Lc.fail | exact Lc.need _ _
theorem Lc.reslD (t : TypeId) (x : RV) (lo hi mx : Option RV) : Lc (reslD P t x lo hi mx) := by
 unfold Dw.reslD
 split <;> first | exact Lc.fail | exact Lc.fullD P _ _ _ _ | skip
 split <;> first | exact Lc.fail | skip
 refine Lc.bind (Lc.get _) fun bx => ?_
 split <;> first | exact Lc.fail | skip
 split <;> first | exact Lc.fail | exact Lc.need _ _
theorem Lc.sliceD (nid : Nat) (t : TypeId) (x : RV) (lo hi mx : Option RV) : Lc (sliceD P nid t x lo hi mx) := by
 unfold Dw.sliceD
 split
 ·refine Lc.bind (Lc.get _) fun bx => ?_
  split <;> first | exact Lc.fail | exact Lc.sliceB P _ _ _ _ _ _ _
 ·exact Lc.sliceB P _ _ _ _ _ _ _
 ·split <;> first | exact Lc.fail | exact Lc.sliceA P _ _
 ·split <;> first | exact Lc.fail | exact Lc.sliceC P _ _
 ·split <;> first | exact Lc.fail | (split <;> first | exact Lc.pure _ | exact Lc.fail)
 ·exact Lc.sliceZ P _ _ _ _ _ _
 ·exact Lc.sliceF P _ _ _ _ _ _
 all_goals first | exact Lc.fail | (split <;> first | exact Lc.fail | exact Lc.needRV _ _)
theorem Lc.buildD (t : TypeId) (l : List (Nat × RV)) : Lc (buildD P t l) := by
 unfold Dw.buildD
 split
 ·split <;> first | exact Lc.fail | skip
  split <;> first | exact Lc.fail | exact Lc.needRV _ _
 ·split <;> first | exact Lc.fail | skip
  split <;> first | exact Lc.fail | exact Lc.needRV _ _
 ·exact Lc.fail
theorem Lc.litPDs (mt : Bool) (cs : List RV) : Lc (litPDs mt cs) := by
 unfold Dw.litPDs
 split
 ·exact Lc.pure _
 ·exact Lc.toPDs _
theorem Lc.buildSliceD (mt : Bool) (id : Nat) (t : TypeId) (len : Nat) (l : List (Nat × RV)) : Lc (buildSliceD P mt id t len l) := by
 unfold Dw.buildSliceD
 split <;> first | exact Lc.fail | skip
 split <;> first | exact Lc.fail | skip
 split <;> first | exact Lc.fail | skip
 split <;> first | exact Lc.fail | skip
 refine Lc.bind (Lc.litPDs _ _) fun p => ?_
 obtain ⟨ps, u⟩ := p
 dsimp only
 split
 ·exact Lc.bind (Lc.vacant _) fun _ => Lc.need _ _
 ·exact Lc.need _ _
theorem Lc.allocD (id : Nat) (t : TypeId) : Lc (allocD P id t) := by
 unfold Dw.allocD
 split <;> first | exact Lc.fail | exact Lc.bind (Lc.vacant _) fun _ => Lc.pure _
theorem Lc.boxD (id : Nat) (v : RV) : Lc (boxD id v) := Lc.bind (Lc.vacant _) fun _ => Lc.need _ _
theorem Lc.lenD (t : TypeId) (x : RV) : Lc (lenD P t x) := by
 unfold Dw.lenD
 split <;> first | exact Lc.fail | exact Lc.ofRV _ | skip
 all_goals refine Lc.bind (Lc.get _) fun bx => ?_
 all_goals (split <;> first | exact Lc.fail | exact Lc.ofRV _ | skip)
 all_goals (split <;> first | exact Lc.fail | exact Lc.ofRV _ | exact Lc.needRV _ _)
theorem Lc.appendee (x : RV) : Lc (appendee x) := by
 unfold Dw.appendee
 split <;> first | exact Lc.fail | exact Lc.pure _ | skip
 all_goals refine Lc.bind (Lc.get _) fun bx => ?_
 all_goals (split <;> first | exact Lc.fail | skip)
 all_goals (split <;> first | exact Lc.fail | exact Lc.pure _ | exact Lc.need _ _)
theorem Lc.appendD (id : Nat) (t t' : TypeId) (s x : RV) : Lc (appendD P id t t' s x) := by
 unfold Dw.appendD
 split <;> first | exact Lc.fail | skip
 split <;> first | exact Lc.fail | skip
 split <;> first | exact Lc.fail | skip
 refine Lc.bind (Lc.appendee _) fun xs => ?_
 split
 ·exact Lc.bind (Lc.vacant _) fun _ => Lc.need _ _
 ·refine Lc.bind (Lc.get _) fun bx => ?_
  split <;> first | exact Lc.fail | skip
  all_goals (split <;> first | exact Lc.fail | exact Lc.need _ _)
 ·refine Lc.bind (Lc.get _) fun bx => ?_
  split <;> first | exact Lc.fail | skip
  split <;> first | exact Lc.fail | exact Lc.need _ _
 ·exact Lc.need _ _
 ·exact Lc.fail
theorem Lc.dstM (x : RV) : Lc (dstM x) := by
 unfold Dw.dstM
 split <;> first | exact Lc.fail | skip
 all_goals refine Lc.bind (Lc.get _) fun bx => ?_
 all_goals (split <;> first | exact Lc.fail | skip)
 all_goals (split <;> first | exact Lc.fail | exact Lc.pure _ | exact Lc.need _ _)
theorem Lc.copyD (t : TypeId) (x y : RV) : Lc (copyD P t x y) := by
 unfold Dw.copyD
 split <;> first | exact Lc.fail | skip
 split <;> first | exact Lc.fail | skip
 exact Lc.bind (Lc.dstM _) fun _ => Lc.bind (Lc.appendee _) fun _ => Lc.need _ _
theorem Lc.clearD (t : TypeId) (x : RV) : Lc (clearD P t x) := by
 unfold Dw.clearD
 split <;> first | exact Lc.fail | skip
 split <;> first | exact Lc.fail | skip
 exact Lc.bind (Lc.dstM _) fun _ => Lc.need _ _
theorem Lc.minD (l : List RV) : Lc (minD l) := by
 unfold Dw.minD
 split <;> first | exact Lc.fail | skip
 split <;> first | exact Lc.fail | exact Lc.pure _
theorem Lc.maxD (l : List RV) : Lc (maxD l) := by
 unfold Dw.maxD
 split <;> first | exact Lc.fail | skip
 split <;> first | exact Lc.fail | exact Lc.pure _
theorem Lc.argD (by_ : Bool) (v : RV) : Lc (argD by_ v) := by
 unfold Dw.argD
 split <;> first | exact Lc.pure _ | exact Lc.bind (Lc.toPD _) fun _ => Lc.need _ _ | (split <;> first | exact Lc.pure _ | exact Lc.bind (Lc.toPD _) fun _ => Lc.pure _ | exact Lc.bind (Lc.toPD _) fun _ => Lc.need _ _)
theorem Lc.argsD (by_ : Nat → Bool) : ∀ (i : Nat) (l : List RV), Lc (argsD by_ i l)
 | _, [] => Lc.pure _
 | i, v :: r => Lc.bind (Lc.argD _ v) fun _ => Lc.bind (Lc.argsD by_ (i + 1) r) fun _ => Lc.pure _
theorem Lc.reachM : ∀ (n : Nat) (done todo : List Nat), Lc (reachM n done todo)
 | 0, _, _ => Lc.fail
 | _ + 1, _, [] => Lc.pure _
 | n + 1, done, i :: todo => by
  unfold Dw.reachM
  split
  ·exact Lc.reachM n _ _
  ·exact Lc.bind (Lc.get _) fun _ => Lc.reachM n _ _
theorem Lc.getsM : ∀ (l : List Nat), Lc (getsM l)
 | [] => Lc.pure _
 | _ :: r => Lc.bind (Lc.get _) fun _ => Lc.bind (Lc.getsM r) fun _ => Lc.pure _
theorem Lc.vacantsM : ∀ (l : List Nat), Lc (vacantsM l)
 | [] => Lc.pure _
 | _ :: r => Lc.bind (Lc.vacant _) fun _ => Lc.vacantsM r
theorem Lc.callD (by_ : FuncId → Nat → Bool) (call : CallD) (f : FuncId) (base : Nat) (l : List RV) : Lc (callD by_ call f base l) := by
 unfold Dw.callD
 refine Lc.bind (Lc.argsD _ _ _) fun x => Lc.bind (Lc.reachM _ _ _) fun ids => Lc.bind (Lc.getsM _) fun bxs => ?_
 split <;> first | exact Lc.fail | skip
 split <;> first | exact Lc.fail | exact Lc.bind (Lc.vacantsM _) fun _ => Lc.pure _
theorem Lc.convB (id : Nat) (src dst : TypeId) (x : RV) : Lc (convB P id src dst x) := by
 unfold Dw.convB
 split
 ·split <;> first | exact Lc.fail | exact Lc.bind (Lc.vacant _) fun _ => Lc.need _ _
 ·split <;> first | exact Lc.fail | skip
  refine Lc.bind (Lc.get _) fun bx => ?_
  split <;> first | exact Lc.fail | skip
  refine iteInduction (motive := Lc) (fun _ => ?_) (fun _ => Lc.fail)
  split <;> first | exact Lc.fail | exact Lc.ofRV _
 ·split <;> first | exact Lc.fail | skip
  split <;> first | exact Lc.fail | exact Lc.ofRV _
 ·exact Lc.ofOpt _
theorem Lc.makeMapD (id : Nat) (t : TypeId) : Lc (makeMapD P id t) := by
 unfold Dw.makeMapD
 split <;> first | exact Lc.fail | exact Lc.bind (Lc.vacant _) fun _ => Lc.pure _
theorem Lc.makeMapN (id : Nat) (t : TypeId) : Lc (makeMapN P id t) := by
 unfold Dw.makeMapN
 split <;> first | exact Lc.fail | skip
 split <;> first | exact Lc.fail | exact Lc.bind (Lc.vacant _) fun _ => Lc.pure _
theorem Lc.mapEntryD (nid : Nat) (t : TypeId) (x k : RV) : Lc (mapEntryD P nid t x k) := by
 unfold Dw.mapEntryD
 split <;> first | exact Lc.fail | skip
 refine Lc.bind (Lc.get _) fun bx => ?_
 split <;> first | exact Lc.fail | skip
 refine iteInduction (motive := Lc) (fun _ => ?_) (fun _ => Lc.fail)
 refine Lc.bind (Lc.vacant _) fun _ => ?_
 split
 ·exact Lc.need _ _
 ·exact iteInduction (motive := Lc) (fun _ => Lc.pure _) (fun _ => Lc.fail)
 ·exact Lc.fail
theorem Lc.entryStoreD (x n v : RV) : Lc (entryStoreD x n v) := by
 unfold Dw.entryStoreD
 split <;> first | exact Lc.fail | skip
 refine Lc.bind (Lc.get _) fun bx => ?_
 split <;> first | exact Lc.fail | skip
 refine Lc.bind (Lc.get _) fun bx => ?_
 split <;> first | exact Lc.fail | skip
 refine iteInduction (motive := Lc) (fun _ => ?_) (fun _ => Lc.fail)
 split <;> first | exact Lc.fail | exact Lc.pure _
theorem Lc.lookupD (t : TypeId) (x k : RV) (ok : Bool) : Lc (lookupD P t x k ok) := by
 unfold Dw.lookupD
 split <;> first | exact Lc.fail | skip
 refine Lc.bind (Lc.get _) fun bx => ?_
 split <;> first | exact Lc.fail | skip
 split <;> first | exact Lc.fail | skip
 split <;> first | exact Lc.fail | (split <;> exact Lc.ofRV _)
theorem Lc.mapUpdD (t : TypeId) (x k v : RV) : Lc (mapUpdD P t x k v) := by
 unfold Dw.mapUpdD
 split <;> first | exact Lc.fail | skip
 refine Lc.bind (Lc.get _) fun bx => ?_
 split <;> first | exact Lc.fail | skip
 split <;> first | exact Lc.fail | skip
 refine Lc.bind (Lc.toPD _) fun p => ?_
 obtain ⟨p, u⟩ := p
 dsimp only
 split <;> first | exact Lc.fail | (split <;> first | exact Lc.fail | exact Lc.need _ _ | exact Lc.pure _)
theorem Lc.makeSliceD (id : Nat) (t : TypeId) (l c : RV) : Lc (makeSliceD P id t l c) := by
 unfold Dw.makeSliceD
 split <;> first | exact Lc.fail | skip
 split <;> first | exact Lc.fail | exact Lc.bind (Lc.vacant _) fun _ => Lc.need _ _
theorem Lc.appZD (id : Nat) (t t' : TypeId) (a x : RV) : Lc (appZD P id t t' a x) := by
 unfold Dw.appZD
 split <;> first | exact Lc.fail | skip
 split <;> first | exact Lc.fail | exact Lc.bind (Lc.vacant _) fun _ => Lc.need _ _
theorem Lc.capD (t : TypeId) (x : RV) : Lc (capD P t x) := by
 unfold Dw.capD
 split <;> first | exact Lc.fail | exact Lc.ofRV _
theorem Lc.evOp (mt : Hf) (call : CallD) (s : St) (o : Oper) : Lc (evOp P mt call s o) := by
 unfold Dw.evOp
 split
 all_goals (try exact Lc.fail)
 all_goals (try exact Lc.allocD P _ _)
 all_goals (split <;> first | exact Lc.fail | exact Lc.ofRV _ | exact Lc.boxD _ _ | exact Lc.buildD P _ _ | exact Lc.buildSliceD P _ _ _ _ _ | exact Lc.loadD P _ _ | exact Lc.storeD P _ _ _ | exact Lc.moveP _ _ | exact Lc.ofOpt _ | exact Lc.sliceD P _ _ _ _ _ _ | exact Lc.fieldAddrD P _ _ _ | exact Lc.fieldD P _ _ _ | exact Lc.indexAddrD P _ _ _ | exact Lc.indexD P _ _ _ | exact Lc.minD _ | exact Lc.maxD _ | exact Lc.lookupD P _ _ _ _ | exact Lc.mapUpdD P _ _ _ _ | exact Lc.makeMapD P _ _ | exact iteInduction (motive := Lc) (fun _ => Lc.makeMapN P _ _) (fun _ => Lc.makeMapD P _ _) | exact Lc.mapEntryD P _ _ _ _ | exact Lc.entryStoreD _ _ _ | exact Lc.makeSliceD P _ _ _ _ | exact Lc.convB P _ _ _ _ | skip)
 all_goals (split <;> first | exact Lc.fail | exact Lc.ofRV _ | exact Lc.lenD P _ _ | exact Lc.capD P _ _ | exact Lc.appendD P _ _ _ _ _ | exact Lc.copyD P _ _ _ | exact Lc.clearD P _ _ | exact Lc.reslD P _ _ _ _ _ | exact Lc.sliceD P _ _ _ _ _ _ | exact Lc.callD _ _ _ _ _ | (split <;> first | exact Lc.appendD P _ _ _ _ _ | exact Lc.appZD P _ _ _ _ _))
end

theorem opds_congr {s s' : St} : ∀ {xs : List Operand}, (∀ x ∈ xs, s.opd x = s'.opd x) → opds s xs = opds s' xs
 | [], _ => rfl
 | x :: xs, h => by simp only [opds]; rw [h x (by simp), opds_congr fun y hy => h y (by simp [hy])]
theorem opdParts_congr {s s' : St} : ∀ {xs : List (Nat × Operand)}, (∀ x ∈ xs.map (·.2), s.opd x = s'.opd x) → opdParts s xs = opdParts s' xs
 | [], _ => rfl
 | (i, x) :: xs, h => by simp only [opdParts]; rw [h x (by simp), opdParts_congr fun y hy => h y (by simp only [List.map_cons, List.mem_cons]; exact .inr hy)]
theorem opdOpt_congr {s s' : St} {x : Option Operand} (h : ∀ y ∈ x.toArray, s.opd y = s'.opd y) : opdOpt s x = opdOpt s' x := by
 cases x with
 | none => rfl
 | some y => simp only [opdOpt]; rw [h y (by simp)]
theorem evOp_congr {P : Program} {mt : Hf} {call : CallD} {s s' : St} (o : Oper) (h : ∀ x ∈ o.op.operands, s.opd x = s'.opd x) : evOp P mt call s o = evOp P mt call s' o := by
 unfold evOp
 rcases hop : o.op with x | x | ⟨c, x, y⟩ | t | ⟨t, x⟩ | ⟨t, parts⟩ | ⟨t, len, parts⟩ | ⟨t, m, k, x⟩ | ⟨t, x⟩ | ⟨t, x, y⟩ | g | g | x | ⟨op, t, x, y, t2⟩ | ⟨op, t, x⟩ | ⟨t, t2, x⟩ | ⟨t, x⟩ | ⟨t, x⟩ | ⟨fn, x, y⟩ | ⟨t, x⟩ | ⟨t, x⟩ | ⟨t, x, y⟩ | ⟨t, x, lo, hi, mx⟩ | ⟨t, x, f⟩ | ⟨t, x, f⟩ | ⟨t, x, y⟩ | ⟨t, x, y⟩ | ⟨t, x, y, c⟩ | ⟨t, x, y, c⟩ | ⟨t, x, y⟩ | ⟨t, x, y, c⟩ | ⟨t, x⟩ | ⟨x, b⟩ | x | ⟨x, t, t2, b⟩ | ⟨x, i⟩ | c | c | c | x | ⟨x, y⟩ | ⟨t, x, b⟩ | ⟨cs, b⟩
 all_goals (simp only [hop, Op.operands] at h)
 all_goals (try simp only)
 all_goals (try rw [h x (by simp)])
 all_goals (try rw [h y (by simp)])
 ·rw [h c (by simp)]
 ·rw [opdParts_congr fun x hx => h x (by simpa using hx)]
 ·rw [opdParts_congr fun x hx => h x (by simpa using hx)]
 ·cases op <;> (try simp only) <;> rw [h x (by simp)]
 ·rw [opds_congr (s := s) (s' := s') (xs := y.toList) fun x hx => h x (by simp only [Array.mem_append]; exact .inr (by simpa using hx))]
 ·rw [opdOpt_congr (x := x) fun y hy => h y (by simpa using hy)]
 ·rw [opdOpt_congr (x := lo) fun y hy => h y (by simp only [Array.mem_append]; exact .inl (.inl (.inr hy))), opdOpt_congr (x := hi) fun y hy => h y (by simp only [Array.mem_append]; exact .inl (.inr hy)), opdOpt_congr (x := mx) fun y hy => h y (by simp only [Array.mem_append]; exact .inr hy)]
 ·rw [h c (by simp)]
 ·rw [h c (by simp)]
 ·have ha : opds s c.args.toList = opds s' c.args.toList := opds_congr fun x hx => h x (by simp only [Call.operands, Array.mem_append]; exact .inr (by simpa using hx))
  rw [ha]
  cases hc : c.callee with
  | value f =>
   have hf : s.opd f = s'.opd f := h f (by simp [Call.operands, hc])
   cases opds s' c.args.toList with
   | none => rfl
   | some l => simp only [hf]
  | invoke r m => cases opds s' c.args.toList <;> rfl
  | builtin b =>
   cases opds s' c.args.toList with
   | none => cases b <;> rfl
   | some l => rcases l with _ | ⟨x, _ | ⟨y, _ | ⟨z, l⟩⟩⟩ <;> cases b <;> rfl
end Go.Dw


namespace Go.Dw

theorem ups_in : ∀ (u : Ups) (s s' : St) (id : Nat), id ∈ u.map (·.1) → (s.ups u).boxes id = (s'.ups u).boxes id
 | [], _, _, _, h => by simp at h
 | (i, b) :: r, s, s', id, h => by
  rw [ups_cons, ups_cons]
  by_cases hr : id ∈ r.map (·.1)
  ·exact ups_in r _ _ id hr
  ·rw [ups_at _ _ _ hr, ups_at _ _ _ hr]
   have : id = i := by simpa [hr] using h
   subst this
   show upd s.boxes id b id = upd s'.boxes id b id
   rw [upd_same, upd_same]
theorem put_boxes (s : St) (d : Option Nat) (v : RV) : (s.put d v).boxes = s.boxes := by cases d <;> rfl
theorem St.ext' {s s' : St} (h1 : s.regs = s'.regs) (h2 : s.boxes = s'.boxes) : s = s' := by
 obtain ⟨a, b⟩ := s
 obtain ⟨c, d⟩ := s'
 simp only at h1 h2
 subst h1; subst h2
 rfl
theorem swap_state {s : St} {u1 u2 : Ups} {d1 d2 : Option Nat} {v1 v2 : RV} (hu : disj (u1.map (·.1)) (u2.map (·.1)) = true) (hd : ∀ d, d1 = some d → d2 ≠ some d) :
  ((((s.ups u1).put d1 v1).ups u2).put d2 v2) = ((((s.ups u2).put d2 v2).ups u1).put d1 v1) := by
 have hu := disj_spec hu
 refine St.ext' ?_ ?_
 ·cases d1 with
  | none =>
   cases d2 with
   | none => simp only [St.put, ups_regs]
   | some e => simp only [St.put, ups_regs]
  | some d =>
   cases d2 with
   | none => simp only [St.put, ups_regs]
   | some e =>
    have hne : d ≠ e := fun he => hd d rfl (he ▸ rfl)
    simp only [St.put, ups_regs]
    funext t
    by_cases h1 : t = d
    ·subst h1; simp [hne]
    ·by_cases h2 : t = e
     ·subst h2; simp [h1]
     ·simp [h1, h2]
 ·rw [put_boxes, put_boxes]
  funext id
  by_cases h1 : id ∈ u1.map (·.1)
  ·have h2 : id ∉ u2.map (·.1) := hu id h1
   rw [ups_at _ _ _ h2, put_boxes]
   rw [ups_in u1 _ ((s.ups u2).put d2 v2) id h1]
  ·by_cases h2 : id ∈ u2.map (·.1)
   ·rw [ups_at u1 _ _ h1, put_boxes]
    rw [ups_in u2 _ s id h2]
   ·rw [ups_at _ _ _ h2, put_boxes, ups_at _ _ _ h1, ups_at _ _ _ h1, put_boxes, ups_at _ _ _ h2]

section
variable {P : Program} {mt : Hf} {call : CallD} {ops : Array Oper}

theorem step1_cases {o : Oper} {s s' : St} {t : Tr} (h : step1 P mt call ops o s = some (s', t)) :
  (wantD ops s o = some true ∧ ∃ v u, evOp P mt call s o s.boxes = some ((v, u), t.rd, true) ∧ s' = (s.ups u).put o.dst v ∧ t.wr = u.map (·.1)) ∨
  (wantD ops s o = some false ∧ s' = s.put o.dst .undef ∧ t.rd = [] ∧ t.wr = []) := by
 unfold step1 at h
 rcases hw : wantD ops s o with _ | w
 ·simp [hw] at h
 simp only [hw] at h
 cases w with
 | true =>
  simp only [if_true] at h
  rcases he : evOp P mt call s o s.boxes with _ | ⟨⟨v, u⟩, rd, c⟩
  ·simp [he] at h
  simp only [he] at h
  cases c with
  | true =>
   simp only [if_true, Option.some.injEq, Prod.mk.injEq] at h
   obtain ⟨rfl, rfl⟩ := h
   exact .inl ⟨rfl, v, u, rfl, rfl, rfl⟩
  | false => simp at h
 | false =>
  simp only [Bool.false_eq_true, if_false, Option.some.injEq, Prod.mk.injEq] at h
  obtain ⟨rfl, rfl⟩ := h
  exact .inr ⟨rfl, rfl, rfl, rfl⟩
theorem step1_do {o : Oper} {s : St} {v : RV} {u : Ups} {rd : List Nat} (hw : wantD ops s o = some true) (he : evOp P mt call s o s.boxes = some ((v, u), rd, true)) :
  step1 P mt call ops o s = some ((s.ups u).put o.dst v, ⟨rd, u.map (·.1)⟩) := by
 unfold step1; simp [hw, he]
theorem step1_skip {o : Oper} {s : St} (hw : wantD ops s o = some false) : step1 P mt call ops o s = some (s.put o.dst .undef, ⟨[], []⟩) := by
 unfold step1; simp [hw]

theorem wantD_congr {o : Oper} {s s' : St} (h : ∀ t ∈ o.looksAt ops, s.regs t = s'.regs t) : wantD ops s o = wantD ops s' o := by
 unfold wantD
 cases hg : o.guard with
 | none => rfl
 | some g =>
  obtain ⟨j, want⟩ := g
  simp only
  cases ht : (ops[j]?).bind (·.dst) with
  | none => rfl
  | some t =>
   simp only
   rw [h t (by simp [Oper.looksAt, hg, ht])]
theorem evOp_looks {o : Oper} {s s' : St} (h : ∀ t ∈ o.looksAt ops, s.regs t = s'.regs t) : evOp P mt call s o = evOp P mt call s' o := by
 refine evOp_congr o fun x hx => ?_
 cases x with
 | tmp t => exact h t (List.mem_append_left _ (List.mem_filterMap.2 ⟨.tmp t, by simpa using hx, rfl⟩))
 | const v => rfl
 | global g => rfl
 | func f => rfl

theorem step1_frame {o : Oper} {s s1 s' : St} {t : Tr} {d : Option Nat} {u : Ups} {v : RV} (h : step1 P mt call ops o s1 = some (s', t)) (hs : s1 = (s.ups u).put d v)
  (hd : ∀ e, d = some e → e ∉ o.looksAt ops) (hu : disj (u.map (·.1)) t.rd = true) :
  ∃ v' u', t.wr = u'.map (·.1) ∧ s' = (s1.ups u').put o.dst v' ∧ step1 P mt call ops o s = some ((s.ups u').put o.dst v', t) := by
 have hregs : ∀ t ∈ o.looksAt ops, s1.regs t = s.regs t := by
  intro t ht
  subst hs
  cases d with
  | none => simp only [St.put, ups_regs]
  | some e =>
   have : t ≠ e := fun he => hd e rfl (he ▸ ht)
   simp only [St.put, ups_regs, this, if_false]
 have hu := disj_spec hu
 rcases step1_cases h with ⟨hw, v', u', he, h1, h2⟩ | ⟨hw, h1, h2, h3⟩
 ·have hw' : wantD ops s o = some true := by rw [← wantD_congr hregs]; exact hw
  have he' : evOp P mt call s o s.boxes = some ((v', u'), t.rd, true) := by
   rw [← evOp_looks (P := P) (mt := mt) (call := call) hregs]
   refine Lc.evOp P mt call s1 o _ _ _ _ _ he fun id hid => ?_
   subst hs
   rw [put_boxes, ups_at _ _ _ (fun hm => hu id hm hid)]
  refine ⟨v', u', h2, h1, ?_⟩
  rw [step1_do hw' he']
  obtain ⟨rd, wr⟩ := t
  simp only at h2
  rw [h2]
 ·have hw' : wantD ops s o = some false := by rw [← wantD_congr hregs]; exact hw
  refine ⟨.undef, [], by rw [h3]; rfl, h1, ?_⟩
  rw [step1_skip hw']
  obtain ⟨rd, wr⟩ := t
  simp only at h2 h3
  rw [h2, h3]
  rfl

theorem commute {x y : Oper} {s s1 s2 : St} {tx ty : Tr} (h1 : step1 P mt call ops x s = some (s1, tx)) (h2 : step1 P mt call ops y s1 = some (s2, ty)) (hp : pairOk ops (x, tx) (y, ty) = true) :
  ∃ s3, step1 P mt call ops y s = some (s3, ty) ∧ step1 P mt call ops x s3 = some (s2, tx) := by
 simp only [pairOk, Bool.and_eq_true] at hp
 obtain ⟨⟨⟨hap, hd1⟩, hd2⟩, hd3⟩ := hp
 obtain ⟨a1, a2, a3⟩ := Oper.apart_spec hap
 have hx : ∃ v u, s1 = (s.ups u).put x.dst v ∧ tx.wr = u.map (·.1) := by
  rcases step1_cases h1 with ⟨_, v, u, _, h3, h4⟩ | ⟨_, h3, _, h4⟩
  ·exact ⟨v, u, h3, h4⟩
  ·exact ⟨.undef, [], h3, by rw [h4]; rfl⟩
 obtain ⟨vx, ux, hs1, hwx⟩ := hx
 obtain ⟨vy, uy, hwy, hs2, hy⟩ := step1_frame h2 hs1 a1 (by rw [← hwx]; exact hd1)
 refine ⟨_, hy, ?_⟩
 have hregs : ∀ t ∈ x.looksAt ops, ((s.ups uy).put y.dst vy).regs t = s.regs t := by
  intro t ht
  cases hdy : y.dst with
  | none => simp only [St.put, ups_regs]
  | some e =>
   have : t ≠ e := fun he => a3 e hdy (he ▸ ht)
   simp only [St.put, ups_regs, this, if_false]
 have hd2 := disj_spec hd2
 rcases step1_cases h1 with ⟨hw, v, u, he, h3, h4⟩ | ⟨hw, h3, h4, h5⟩
 ·have hw' : wantD ops ((s.ups uy).put y.dst vy) x = some true := by rw [wantD_congr hregs]; exact hw
  have he' : evOp P mt call ((s.ups uy).put y.dst vy) x ((s.ups uy).put y.dst vy).boxes = some ((v, u), tx.rd, true) := by
   rw [evOp_looks (P := P) (mt := mt) (call := call) hregs]
   refine Lc.evOp P mt call s x _ _ _ _ _ he fun id hid => ?_
   rw [put_boxes, ups_at _ _ _ (fun hm => hd2 id (by rw [hwy]; exact hm) hid)]
  rw [step1_do hw' he', hs2, h3]
  rw [swap_state (by rw [← h4, ← hwy]; exact hd3) a2]
  obtain ⟨rd, wr⟩ := tx
  simp only at h4
  rw [h4]
 ·have hw' : wantD ops ((s.ups uy).put y.dst vy) x = some false := by rw [wantD_congr hregs]; exact hw
  rw [step1_skip hw', hs2, h3]
  have := swap_state (s := s) (u1 := []) (u2 := uy) (d1 := x.dst) (d2 := y.dst) (v1 := .undef) (v2 := vy) (by rfl) a2
  simp only [St.ups] at this
  rw [this]
  obtain ⟨rd, wr⟩ := tx
  simp only at h4 h5
  rw [h4, h5]

theorem evOps_cons {o : Oper} {r : List Oper} {s sF : St} {ts : List Tr} (h : evOps P mt call ops (o :: r) s = some (sF, ts)) :
  ∃ s1 t ts', step1 P mt call ops o s = some (s1, t) ∧ evOps P mt call ops r s1 = some (sF, ts') ∧ ts = t :: ts' := by
 unfold evOps at h
 rcases h1 : step1 P mt call ops o s with _ | ⟨s1, t⟩
 ·simp [h1] at h
 simp only [h1] at h
 rcases h2 : evOps P mt call ops r s1 with _ | ⟨s2, ts'⟩
 ·simp [h2] at h
 simp only [h2, Option.some.injEq, Prod.mk.injEq] at h
 exact ⟨s1, t, ts', rfl, by rw [h2, h.1], h.2.symm⟩
theorem evOps_mk {o : Oper} {r : List Oper} {s s1 sF : St} {t : Tr} {ts : List Tr} (h1 : step1 P mt call ops o s = some (s1, t)) (h2 : evOps P mt call ops r s1 = some (sF, ts)) :
  evOps P mt call ops (o :: r) s = some (sF, t :: ts) := by
 unfold evOps; simp [h1, h2]

theorem evOps_front : ∀ (l1 : List (Oper × Tr)) {o : Oper} {t : Tr} {l2 : List (Oper × Tr)} {s sF : St},
  evOps P mt call ops ((l1 ++ (o, t) :: l2).map (·.1)) s = some (sF, (l1 ++ (o, t) :: l2).map (·.2)) → (∀ x ∈ l1, pairOk ops x (o, t) = true) →
  ∃ s1, step1 P mt call ops o s = some (s1, t) ∧ evOps P mt call ops ((l1 ++ l2).map (·.1)) s1 = some (sF, (l1 ++ l2).map (·.2))
 | [], o, t, l2, s, sF, h, _ => by
  simp only [List.nil_append, List.map_cons] at h
  obtain ⟨s1, t', ts', h1, h2, h3⟩ := evOps_cons h
  cases h3
  exact ⟨s1, h1, h2⟩
 | (x, tx) :: l1, o, t, l2, s, sF, h, hp => by
  simp only [List.cons_append, List.map_cons] at h
  obtain ⟨s1, t', ts', h1, h2, h3⟩ := evOps_cons h
  cases h3
  obtain ⟨s2, h4, h5⟩ := evOps_front l1 h2 (fun y hy => hp y (by simp [hy]))
  obtain ⟨s3, h6, h7⟩ := commute h1 h4 (hp (x, tx) (by simp))
  exact ⟨s3, h6, by simp only [List.cons_append, List.map_cons]; exact evOps_mk h7 h5⟩

theorem ancs_get : ∀ (l : List Oper) (acc : List Nat) (i : Nat), i < acc.length → (ancs l acc).getD i 0 = acc.getD i 0
 | [], acc, i, _ => rfl
 | o :: r, acc, i, h => by
  rw [ancs, ancs_get r _ i (by simp; omega)]
  simp only [List.getD_eq_getElem?_getD]
  rw [List.getElem?_append_left h]

theorem foldl_bits (acc : List Nat) : ∀ (es : List Edge) (b j : Nat), (es.foldl (fun b e => if Region.binds .any e then b ||| (2 ^ e.on ||| acc.getD e.on 0) else b) b).testBit j = true →
  b.testBit j = true ∨ ∃ e ∈ es, Region.binds .any e = true ∧ (e.on = j ∨ (acc.getD e.on 0).testBit j = true)
 | [], b, j, h => .inl h
 | e :: es, b, j, h => by
  simp only [List.foldl_cons] at h
  rcases foldl_bits acc es _ j h with h1 | ⟨e', h1, h2, h3⟩
  ·by_cases hb : Region.binds .any e = true
   ·simp only [hb, if_true, Nat.testBit_or, Bool.or_eq_true, Nat.testBit_two_pow, decide_eq_true_eq] at h1
    rcases h1 with h1 | h1 | h1
    ·exact .inl h1
    ·exact .inr ⟨e, by simp, hb, .inl h1⟩
    ·exact .inr ⟨e, by simp, hb, .inr h1⟩
   ·simp only [hb] at h1; exact .inl h1
  ·exact .inr ⟨e', by simp [h1], h2, h3⟩

theorem ancs_spec : ∀ (l : List Oper) (acc : List Nat) (i : Nat) (o : Oper), l[i]? = some o → ∀ j, ((ancs l acc).getD (acc.length + i) 0).testBit j = true →
  ∃ e ∈ o.after, Region.binds .any e = true ∧ (e.on = j ∨ (e.on < acc.length + i ∧ ((ancs l acc).getD e.on 0).testBit j = true))
 | [], acc, i, o, h, _, _ => by simp at h
 | x :: r, acc, 0, o, h, j, hj => by
  simp only [List.getElem?_cons_zero, Option.some.injEq] at h
  subst h
  rw [ancs, Nat.add_zero, ancs_get r _ acc.length (by simp)] at hj
  simp only [List.getD_eq_getElem?_getD, List.getElem?_concat_length, Option.getD_some] at hj
  rcases foldl_bits acc x.after.toList 0 j hj with h1 | ⟨e, h1, h2, h3⟩
  ·simp at h1
  ·refine ⟨e, by simpa using h1, h2, ?_⟩
   rcases h3 with h3 | h3
   ·exact .inl h3
   ·by_cases hlt : e.on < acc.length
    ·refine .inr ⟨by omega, ?_⟩
     rw [ancs, ancs_get r _ e.on (by simp; omega)]
     simp only [List.getD_eq_getElem?_getD] at h3 ⊢
     rw [List.getElem?_append_left hlt]
     exact h3
    ·rw [List.getD_eq_getElem?_getD, List.getElem?_eq_none (by omega)] at h3
     simp at h3
 | x :: r, acc, i + 1, o, h, j, hj => by
  simp only [List.getElem?_cons_succ] at h
  rw [ancs] at hj ⊢
  have := ancs_spec r (acc ++ [x.after.toList.foldl (fun b e => if Region.binds .any e then b ||| (2 ^ e.on ||| acc.getD e.on 0) else b) 0]) i o h j (by
   simp only [List.length_append, List.length_singleton]
   rw [show acc.length + 1 + i = acc.length + (i + 1) by omega]
   exact hj)
  simp only [List.length_append, List.length_singleton] at this
  rw [show acc.length + 1 + i = acc.length + (i + 1) by omega] at this
  exact this

theorem anc_listed {listed : Array Bool} (hclosed : ∀ (i : Nat) o, ops[i]? = some o → listed.getD i false = true → ∀ e ∈ o.after, Region.binds .any e = true → listed.getD e.on false = true) (hsz : listed.size = ops.size) :
  ∀ (n i : Nat) (o : Oper), i ≤ n → ops[i]? = some o → (∀ e ∈ o.after, Region.binds .any e = true → listed.getD e.on false = true) → ∀ j, ((ancs ops.toList []).getD i 0).testBit j = true → listed.getD j false = true := by
 intro n
 induction n with
 | zero =>
  intro i o hi ho he j hj
  have h0 : i = 0 := by omega
  subst h0
  obtain ⟨e, h1, h2, h3⟩ := ancs_spec ops.toList [] 0 o (by simpa using ho) j (by simpa using hj)
  rcases h3 with rfl | ⟨h3, _⟩
  ·exact he e h1 h2
  ·simp at h3
 | succ n ih =>
  intro i o hi ho he j hj
  obtain ⟨e, h1, h2, h3⟩ := ancs_spec ops.toList [] i o (by simpa using ho) j (by simpa using hj)
  rcases h3 with rfl | ⟨h3, h4⟩
  ·exact he e h1 h2
  ·simp only [List.length_nil, Nat.zero_add] at h3
   have hl := he e h1 h2
   have hlt : e.on < ops.size := by
    rcases Nat.lt_or_ge e.on listed.size with h | h
    ·omega
    ·simp [Array.getElem?_eq_none h] at hl
   have ho2 : ops[e.on]? = some ops[e.on] := Array.getElem?_eq_getElem hlt
   exact ih e.on _ (by omega) ho2 (hclosed e.on _ ho2 hl) j h4
end
end Go.Dw
