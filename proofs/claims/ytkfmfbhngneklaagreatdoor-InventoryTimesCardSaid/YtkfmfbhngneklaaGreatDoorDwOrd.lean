/- DwOrd: whatever order the edges allow comes to the same. -/
import Derived.Test.YtkfmfbhngneklaaGreatDoorDwOp
namespace Go.Dw

/-! ### What an operation reads -/
def Lc {α : Type} (m : M α) : Prop := ∀ b b' a r c, m b = some (a, r, c) → (∀ id ∈ r, b' id = b id) → m b' = some (a, r, c)
theorem Lc.pure {α : Type} (a : α) : Lc (M.pure a) := fun _ _ _ _ _ h _ => h
theorem Lc.need {α : Type} (k : Bool) (a : α) : Lc (M.need k a) := fun _ _ _ _ _ h _ => h
theorem Lc.fail {α : Type} : Lc (M.fail : M α) := fun _ _ _ _ _ h _ => h
theorem Lc.get (id : Nat) : Lc (M.get id) := by
  intro b b' a r c h hb
  obtain ⟨h1, h2, h3⟩ := M.get_some h
  subst h2; subst h3
  simp [M.get, hb id (by simp), h1]
theorem Lc.vacant (id : Nat) : Lc (M.vacant id) := by
  intro b b' a r c h hb
  obtain ⟨h1, h2, h3⟩ := M.vacant_some h
  subst h2; subst h3
  simp [M.vacant, hb id (by simp), h1]
theorem Lc.bind {α β : Type} {m : M α} {f : α → M β} (hm : Lc m) (hf : ∀ a, Lc (f a)) : Lc (M.bind m f) := by
  intro b b' x r c h hb
  unfold M.bind at h ⊢
  rcases h1 : m b with _ | ⟨a, r1, c1⟩
  · simp [h1] at h
  simp only [h1] at h
  rcases h2 : f a b with _ | ⟨y, r2, c2⟩
  · simp [h2] at h
  simp only [h2, Option.some.injEq, Prod.mk.injEq] at h
  obtain ⟨rfl, rfl, rfl⟩ := h
  rw [hm b b' a r1 c1 h1 (fun id hid => hb id (List.mem_append.2 (.inl hid)))]
  simp only [hf a b b' y r2 c2 h2 (fun id hid => hb id (List.mem_append.2 (.inr hid)))]
theorem Lc.ofRV (v : RV) : Lc (ofRV v) := Lc.pure _
theorem Lc.needRV (k : Bool) (v : RV) : Lc (needRV k v) := Lc.need _ _
theorem Lc.ofOpt (o : Option (PD × Bool)) : Lc (ofOpt o) := by unfold Dw.ofOpt; split <;> first | exact Lc.need _ _ | exact Lc.fail

theorem Lc.toPD1 (v : RV) : Lc (toPD1 v) := by
  unfold Dw.toPD1
  split <;> first | exact Lc.pure _ | exact Lc.fail | skip
  all_goals refine Lc.bind (Lc.get _) fun bx => ?_
  all_goals (split <;> first | exact Lc.fail | skip)
  all_goals (split <;> first | exact Lc.pure _ | exact Lc.need _ _ | exact Lc.fail)
theorem Lc.toPDs : ∀ (cs : List RV), Lc (toPDs cs)
  | [] => Lc.pure _
  | c :: cs => Lc.bind (Lc.toPD1 c) fun _ => Lc.bind (Lc.toPDs cs) fun _ => Lc.pure _
theorem Lc.toPD (v : RV) : Lc (toPD v) := by
  unfold Dw.toPD
  split
  · exact Lc.bind (Lc.toPDs _) fun _ => Lc.pure _
  · exact Lc.toPD1 _
section
variable (P : Program)
theorem Lc.partPD (t : TypeId) (cs : List PD) : Lc (partPD P t cs) := by
  unfold Dw.partPD
  split <;> first | exact Lc.fail | exact Lc.needRV _ _ | skip
  split <;> first | exact Lc.fail | exact Lc.ofRV _
theorem Lc.partRV (t : TypeId) (cs : List RV) (o : Nat) : Lc (partRV P t cs o) := by
  unfold Dw.partRV
  split <;> first | exact Lc.fail | exact Lc.needRV _ _ | skip
  split <;> first | exact Lc.fail | exact Lc.ofRV _
theorem Lc.loadD (t : TypeId) (a : RV) : Lc (loadD P t a) := by
  unfold Dw.loadD
  split
  · exact Lc.partPD P t _
  · refine Lc.bind (Lc.get _) fun bx => ?_
    split <;> first | exact Lc.partRV P t _ _ | exact Lc.fail
  · refine Lc.bind (Lc.get _) fun bx => ?_
    split <;> first | exact Lc.fail | skip
    split <;> first | exact Lc.fail | skip
    split <;> first | exact Lc.fail | exact Lc.partPD P t _
  · exact Lc.fail
theorem Lc.storeD (t : TypeId) (a v : RV) : Lc (storeD P t a v) := by
  unfold Dw.storeD
  split <;> first | exact Lc.fail | skip
  split
  · refine Lc.bind (Lc.get _) fun bx => ?_
    split <;> first | exact Lc.need _ _ | exact Lc.fail
  · refine Lc.bind (Lc.get _) fun bx => ?_
    split <;> first | exact Lc.fail | skip
    split <;> first | exact Lc.fail | skip
    refine Lc.bind (Lc.toPD _) fun p => ?_
    obtain ⟨p, u⟩ := p
    dsimp only
    split <;> first | exact Lc.fail | skip
    split <;> first | exact Lc.fail | exact Lc.need _ _
  · exact Lc.fail
theorem Lc.moveP (off : Nat) (x : RV) : Lc (moveP off x) := by
  unfold Dw.moveP
  split
  · refine Lc.bind (Lc.get _) fun bx => ?_
    split <;> first | exact Lc.ofRV _ | exact Lc.fail
  · refine Lc.bind (Lc.get _) fun bx => ?_
    split <;> first | exact Lc.fail | skip
    split <;> first | exact Lc.ofRV _ | exact Lc.fail
  · exact Lc.ofRV _
  · exact Lc.fail
theorem Lc.fieldAddrD (t : TypeId) (x : RV) (f : Nat) : Lc (fieldAddrD P t x f) := by
  unfold Dw.fieldAddrD
  split <;> first | exact Lc.fail | skip
  split <;> first | exact Lc.fail | exact Lc.moveP _ _
theorem Lc.fieldD (t : TypeId) (x : RV) (f : Nat) : Lc (fieldD P t x f) := by
  unfold Dw.fieldD
  split <;> first | exact Lc.fail | exact Lc.partRV P _ _ _
theorem Lc.indexS (x i : RV) : Lc (indexS x i) := by
  unfold Dw.indexS
  repeat' split
  all_goals first | exact Lc.needRV _ _ | exact Lc.fail
theorem Lc.indexA (len : Nat) (e : TypeId) (x i : RV) : Lc (indexA P len e x i) := by
  unfold Dw.indexA
  repeat' split
  all_goals first | exact Lc.bind (Lc.need _ _) fun _ => Lc.partRV _ _ _ _ | exact Lc.fail
theorem Lc.indexD (t : TypeId) (x i : RV) : Lc (indexD P t x i) := by
  unfold Dw.indexD
  repeat' split
  all_goals first | exact Lc.indexS _ _ | exact Lc.indexA _ _ _ _ _ | exact Lc.fail
theorem Lc.indexAddrD (t : TypeId) (x i : RV) : Lc (indexAddrD P t x i) := by
  unfold Dw.indexAddrD
  split
  · split <;> first | exact Lc.fail | skip
    split <;> first | exact Lc.fail | exact Lc.needRV _ _ | skip
    all_goals refine Lc.bind (Lc.get _) fun bx => ?_
    all_goals (split <;> first | exact Lc.fail | skip)
    all_goals (split <;> first | exact Lc.fail | exact Lc.needRV _ _)
  · split <;> first | exact Lc.fail | skip
    exact Lc.bind (Lc.need _ _) fun _ => Lc.moveP _ _
  · exact Lc.fail
theorem Lc.sliceB (e : TypeId) (id ver a b : Nat) (lo hi : Option RV) : Lc (sliceB P e id ver a b lo hi) := by
  unfold Dw.sliceB
  split <;> first | exact Lc.fail | skip
  refine Lc.bind (Lc.get _) fun bx => ?_
  split <;> first | exact Lc.fail | skip
  split <;> first | exact Lc.fail | exact Lc.needRV _ _
theorem Lc.sliceZ (nid : Nat) (e : TypeId) (n : Nat) (lo hi mx : Option RV) : Lc (sliceZ P nid e n lo hi mx) := by
  unfold Dw.sliceZ
  split <;> first | exact Lc.fail | skip
  split <;> first | exact Lc.fail | exact Lc.bind (Lc.vacant _) fun _ => Lc.need _ _
theorem Lc.sliceA (id : Nat) (a : TypeId) : Lc (sliceA P id a) := by
  unfold Dw.sliceA
  split <;> first | exact Lc.fail | skip
  split <;> first | exact Lc.fail | skip
  refine Lc.bind (Lc.get _) fun bx => ?_
  split <;> first | exact Lc.fail | skip
  split <;> first | exact Lc.fail | skip
  split <;> first | exact Lc.fail | exact Lc.need _ _
theorem Lc.sliceF (e : TypeId) (id ver : Nat) (lo hi : Option RV) (mx : RV) : Lc (sliceF P e id ver lo hi mx) := by
  unfold Dw.sliceF
  split <;> first | exact Lc.fail | skip
  split <;> first | exact Lc.fail | skip
  refine Lc.bind (Lc.get _) fun bx => ?_
  split <;> first | exact Lc.fail | skip
  split <;> first | exact Lc.fail | exact Lc.need _ _
theorem Lc.sliceC (a : TypeId) (cs : List PD) : Lc (sliceC P a cs) := by
  unfold Dw.sliceC
  split <;> first | exact Lc.fail | skip
  split <;> first | exact Lc.fail | skip
  split <;> first | exact Lc.fail | exact Lc.need _ _
theorem Lc.reslD (t : TypeId) (x : RV) (lo hi mx : Option RV) : Lc (reslD P t x lo hi mx) := by
  unfold Dw.reslD
  split <;> first | exact Lc.fail | skip
  split <;> first | exact Lc.fail | skip
  refine Lc.bind (Lc.get _) fun bx => ?_
  split <;> first | exact Lc.fail | skip
  split <;> first | exact Lc.fail | exact Lc.need _ _
theorem Lc.sliceD (nid : Nat) (t : TypeId) (x : RV) (lo hi mx : Option RV) : Lc (sliceD P nid t x lo hi mx) := by
  unfold Dw.sliceD
  split
  · refine Lc.bind (Lc.get _) fun bx => ?_
    split <;> first | exact Lc.fail | exact Lc.sliceB P _ _ _ _ _ _ _
  · exact Lc.sliceB P _ _ _ _ _ _ _
  · split <;> first | exact Lc.fail | exact Lc.sliceA P _ _
  · split <;> first | exact Lc.fail | exact Lc.sliceC P _ _
  · exact Lc.sliceZ P _ _ _ _ _ _
  · exact Lc.sliceF P _ _ _ _ _ _
  all_goals first | exact Lc.fail | (split <;> first | exact Lc.fail | exact Lc.needRV _ _)
theorem Lc.buildD (t : TypeId) (l : List (Nat × RV)) : Lc (buildD P t l) := by
  unfold Dw.buildD
  split
  · split <;> first | exact Lc.fail | skip
    split <;> first | exact Lc.fail | exact Lc.needRV _ _
  · split <;> first | exact Lc.fail | skip
    split <;> first | exact Lc.fail | exact Lc.needRV _ _
  · exact Lc.fail
theorem Lc.buildSliceD (mt : Bool) (id : Nat) (t : TypeId) (len : Nat) (l : List (Nat × RV)) : Lc (buildSliceD P mt id t len l) := by
  unfold Dw.buildSliceD
  split <;> first | exact Lc.fail | skip
  split <;> first | exact Lc.fail | skip
  split <;> first | exact Lc.fail | skip
  split <;> first | exact Lc.fail | skip
  refine Lc.bind (Lc.toPDs _) fun p => ?_
  obtain ⟨ps, u⟩ := p
  dsimp only
  split
  · exact Lc.bind (Lc.vacant _) fun _ => Lc.need _ _
  · exact Lc.need _ _
theorem Lc.allocD (id : Nat) (t : TypeId) : Lc (allocD P id t) := by
  unfold Dw.allocD
  split <;> first | exact Lc.fail | exact Lc.bind (Lc.vacant _) fun _ => Lc.pure _
theorem Lc.boxD (id : Nat) (v : RV) : Lc (boxD id v) := Lc.bind (Lc.vacant _) fun _ => Lc.need _ _
theorem Lc.lenD (t : TypeId) (x : RV) : Lc (lenD P t x) := by
  unfold Dw.lenD
  split <;> first | exact Lc.fail | exact Lc.ofRV _ | skip
  all_goals refine Lc.bind (Lc.get _) fun bx => ?_
  all_goals (split <;> first | exact Lc.fail | skip)
  all_goals (split <;> first | exact Lc.fail | exact Lc.ofRV _ | exact Lc.needRV _ _)
theorem Lc.appendee (x : RV) : Lc (appendee x) := by
  unfold Dw.appendee
  split <;> first | exact Lc.fail | exact Lc.pure _ | skip
  all_goals refine Lc.bind (Lc.get _) fun bx => ?_
  all_goals (split <;> first | exact Lc.fail | skip)
  all_goals (split <;> first | exact Lc.fail | exact Lc.pure _ | exact Lc.need _ _)
theorem Lc.appendD (id : Nat) (t t' : TypeId) (s x : RV) : Lc (appendD P id t t' s x) := by
  unfold Dw.appendD
  split <;> first | exact Lc.fail | skip
  split <;> first | exact Lc.fail | skip
  split <;> first | exact Lc.fail | skip
  refine Lc.bind (Lc.appendee _) fun xs => ?_
  split
  · exact Lc.bind (Lc.vacant _) fun _ => Lc.need _ _
  · refine Lc.bind (Lc.get _) fun bx => ?_
    split <;> first | exact Lc.fail | skip
    split <;> first | exact Lc.fail | exact Lc.need _ _
  · refine Lc.bind (Lc.get _) fun bx => ?_
    split <;> first | exact Lc.fail | skip
    split <;> first | exact Lc.fail | exact Lc.need _ _
  · exact Lc.fail
theorem Lc.dstM (x : RV) : Lc (dstM x) := by
  unfold Dw.dstM
  split <;> first | exact Lc.fail | skip
  all_goals refine Lc.bind (Lc.get _) fun bx => ?_
  all_goals (split <;> first | exact Lc.fail | skip)
  all_goals (split <;> first | exact Lc.fail | exact Lc.pure _ | exact Lc.need _ _)
theorem Lc.copyD (t : TypeId) (x y : RV) : Lc (copyD P t x y) := by
  unfold Dw.copyD
  split <;> first | exact Lc.fail | skip
  split <;> first | exact Lc.fail | skip
  exact Lc.bind (Lc.dstM _) fun _ => Lc.bind (Lc.appendee _) fun _ => Lc.need _ _
theorem Lc.clearD (t : TypeId) (x : RV) : Lc (clearD P t x) := by
  unfold Dw.clearD
  split <;> first | exact Lc.fail | skip
  split <;> first | exact Lc.fail | skip
  exact Lc.bind (Lc.dstM _) fun _ => Lc.need _ _
theorem Lc.minD (l : List RV) : Lc (minD l) := by
  unfold Dw.minD
  split <;> first | exact Lc.fail | skip
  split <;> first | exact Lc.fail | exact Lc.pure _
theorem Lc.maxD (l : List RV) : Lc (maxD l) := by
  unfold Dw.maxD
  split <;> first | exact Lc.fail | skip
  split <;> first | exact Lc.fail | exact Lc.pure _
theorem Lc.argD (by_ : Bool) (v : RV) : Lc (argD by_ v) := by
  unfold Dw.argD
  split <;> first | exact Lc.pure _ | exact Lc.bind (Lc.toPD _) fun _ => Lc.need _ _ | (split <;> first | exact Lc.pure _ | exact Lc.bind (Lc.toPD _) fun _ => Lc.pure _ | exact Lc.bind (Lc.toPD _) fun _ => Lc.need _ _)
theorem Lc.argsD (by_ : Nat → Bool) : ∀ (i : Nat) (l : List RV), Lc (argsD by_ i l)
  | _, [] => Lc.pure _
  | i, v :: r => Lc.bind (Lc.argD _ v) fun _ => Lc.bind (Lc.argsD by_ (i + 1) r) fun _ => Lc.pure _
theorem Lc.reachM : ∀ (n : Nat) (done todo : List Nat), Lc (reachM n done todo)
  | 0, _, _ => Lc.fail
  | _ + 1, _, [] => Lc.pure _
  | n + 1, done, i :: todo => by
    unfold Dw.reachM
    split
    · exact Lc.reachM n _ _
    · exact Lc.bind (Lc.get _) fun _ => Lc.reachM n _ _
theorem Lc.getsM : ∀ (l : List Nat), Lc (getsM l)
  | [] => Lc.pure _
  | _ :: r => Lc.bind (Lc.get _) fun _ => Lc.bind (Lc.getsM r) fun _ => Lc.pure _
theorem Lc.vacantsM : ∀ (l : List Nat), Lc (vacantsM l)
  | [] => Lc.pure _
  | _ :: r => Lc.bind (Lc.vacant _) fun _ => Lc.vacantsM r
theorem Lc.callD (by_ : FuncId → Nat → Bool) (call : CallD) (f : FuncId) (base : Nat) (l : List RV) : Lc (callD by_ call f base l) := by
  unfold Dw.callD
  refine Lc.bind (Lc.argsD _ _ _) fun x => Lc.bind (Lc.reachM _ _ _) fun ids => Lc.bind (Lc.getsM _) fun bxs => ?_
  split <;> first | exact Lc.fail | skip
  split <;> first | exact Lc.fail | exact Lc.bind (Lc.vacantsM _) fun _ => Lc.pure _
theorem Lc.evOp (mt : Hf) (call : CallD) (s : St) (o : Oper) : Lc (evOp P mt call s o) := by
  unfold Dw.evOp
  split
  all_goals (try exact Lc.fail)
  all_goals (try exact Lc.allocD P _ _)
  all_goals (split <;> first | exact Lc.fail | exact Lc.ofRV _ | exact Lc.boxD _ _ | exact Lc.buildD P _ _ | exact Lc.buildSliceD P _ _ _ _ _ | exact Lc.loadD P _ _ | exact Lc.storeD P _ _ _ | exact Lc.moveP _ _ | exact Lc.ofOpt _ | exact Lc.sliceD P _ _ _ _ _ _ | exact Lc.fieldAddrD P _ _ _ | exact Lc.fieldD P _ _ _ | exact Lc.indexAddrD P _ _ _ | exact Lc.indexD P _ _ _ | exact Lc.minD _ | exact Lc.maxD _ | skip)
  all_goals (split <;> first | exact Lc.fail | exact Lc.ofRV _ | exact Lc.lenD P _ _ | exact Lc.appendD P _ _ _ _ _ | exact Lc.copyD P _ _ _ | exact Lc.clearD P _ _ | exact Lc.reslD P _ _ _ _ _ | exact Lc.sliceD P _ _ _ _ _ _ | exact Lc.callD _ _ _ _ _)
end

/-! ### Which registers it reads -/
theorem opds_congr {s s' : St} : ∀ {xs : List Operand}, (∀ x ∈ xs, s.opd x = s'.opd x) → opds s xs = opds s' xs
  | [], _ => rfl
  | x :: xs, h => by simp only [opds]; rw [h x (by simp), opds_congr fun y hy => h y (by simp [hy])]
theorem opdParts_congr {s s' : St} : ∀ {xs : List (Nat × Operand)}, (∀ x ∈ xs.map (·.2), s.opd x = s'.opd x) → opdParts s xs = opdParts s' xs
  | [], _ => rfl
  | (i, x) :: xs, h => by simp only [opdParts]; rw [h x (by simp), opdParts_congr fun y hy => h y (by simp only [List.map_cons, List.mem_cons]; exact .inr hy)]
theorem opdOpt_congr {s s' : St} {x : Option Operand} (h : ∀ y ∈ x.toArray, s.opd y = s'.opd y) : opdOpt s x = opdOpt s' x := by
  cases x with
  | none => rfl
  | some y => simp only [opdOpt]; rw [h y (by simp)]
theorem evOp_congr {P : Program} {mt : Hf} {call : CallD} {s s' : St} (o : Oper) (h : ∀ x ∈ o.op.operands, s.opd x = s'.opd x) : evOp P mt call s o = evOp P mt call s' o := by
  unfold evOp
  rcases hop : o.op with x | x | ⟨c, x, y⟩ | t | ⟨t, x⟩ | ⟨t, parts⟩ | ⟨t, len, parts⟩ | ⟨t, m, k, x⟩ | ⟨t, x⟩ | ⟨t, x, y⟩ | g | g | x | ⟨op, t, x, y, t2⟩ | ⟨op, t, x⟩ | ⟨t, t2, x⟩ | ⟨t, x⟩ | ⟨t, x⟩ | ⟨fn, x, y⟩ | ⟨t, x⟩ | ⟨t, x⟩ | ⟨t, x, y⟩ | ⟨t, x, lo, hi, mx⟩ | ⟨t, x, f⟩ | ⟨t, x, f⟩ | ⟨t, x, y⟩ | ⟨t, x, y⟩ | ⟨t, x, y, c⟩ | ⟨t, x, y, c⟩ | ⟨t, x, y⟩ | ⟨t, x, y, c⟩ | ⟨t, x⟩ | ⟨x, b⟩ | x | ⟨x, t, t2, b⟩ | ⟨x, i⟩ | c | c | c | x | ⟨x, y⟩ | ⟨t, x, b⟩ | ⟨cs, b⟩
  all_goals (simp only [hop, Op.operands] at h)
  all_goals (try simp only)
  all_goals (try rw [h x (by simp)])
  all_goals (try rw [h y (by simp)])
  · rw [h c (by simp)]
  · rw [opdParts_congr fun x hx => h x (by simpa using hx)]
  · rw [opdParts_congr fun x hx => h x (by simpa using hx)]
  · cases op <;> (try simp only) <;> rw [h x (by simp)]
  · rw [opds_congr (s := s) (s' := s') (xs := y.toList) fun x hx => h x (by simp only [Array.mem_append]; exact .inr (by simpa using hx))]
  · rw [opdOpt_congr (x := lo) fun y hy => h y (by simp only [Array.mem_append]; exact .inl (.inl (.inr hy))), opdOpt_congr (x := hi) fun y hy => h y (by simp only [Array.mem_append]; exact .inl (.inr hy)), opdOpt_congr (x := mx) fun y hy => h y (by simp only [Array.mem_append]; exact .inr hy)]
  · have ha : opds s c.args.toList = opds s' c.args.toList := opds_congr fun x hx => h x (by simp only [Call.operands, Array.mem_append]; exact .inr (by simpa using hx))
    rw [ha]
    cases hc : c.callee with
    | value f =>
      have hf : s.opd f = s'.opd f := h f (by simp [Call.operands, hc])
      cases opds s' c.args.toList with
      | none => rfl
      | some l => simp only [hf]
    | invoke r m => cases opds s' c.args.toList <;> rfl
    | builtin b =>
      cases opds s' c.args.toList with
      | none => cases b <;> rfl
      | some l => rcases l with _ | ⟨x, _ | ⟨y, _ | ⟨z, l⟩⟩⟩ <;> cases b <;> rfl
end Go.Dw
