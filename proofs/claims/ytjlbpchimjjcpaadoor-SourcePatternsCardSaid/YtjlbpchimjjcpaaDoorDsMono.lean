/- DsMono: more fuel, the same answer. -/
import Derived.Test.YtjlbpchimjjcpaaDoorDsWp
namespace Go.Ds

def Le (c c' : CallD) : Prop := ∀ f as bs r, c f as bs = some r → c' f as bs = some r

section
variable {P : Program} {H : Hints} {call call' : CallD}

theorem callD_mono (h : Le call call') {f : FuncId} {id : Nat} {args : List RV} {b : Boxes} {x : (RV × Ups) × List Nat × Bool} (hx : callD call f id args b = some x) : callD call' f id args b = some x := by
  unfold callD at hx ⊢
  simp only [M.bind] at hx ⊢
  rcases h1 : argsD args 0 b with _ | ⟨⟨as, ids, u0⟩, ra, ca⟩
  · rw [h1] at hx; cases hx
  rw [h1] at hx
  simp only at hx ⊢
  rcases h2 : getVars ids b with _ | ⟨bs, rg, cg⟩
  · rw [h2] at hx; cases hx
  rw [h2] at hx
  simp only at hx ⊢
  rcases h3 : call f as bs with _ | ⟨r, bs'⟩
  · rw [h3] at hx; cases hx
  rw [h3] at hx
  rw [h _ _ _ _ h3]
  exact hx

theorem evOp_mono (h : Le call call') {mt : Nat → Bool} {s : St} {o : Oper} {b : Boxes} {x : (RV × Ups) × List Nat × Bool} (hx : evOp P mt call s o b = some x) : evOp P mt call' s o b = some x := by
  unfold evOp at hx ⊢
  cases ho : o.op <;> simp only [ho] at hx ⊢ <;> try exact hx
  case unOp op _ _ => cases op <;> exact hx
  case call c =>
    obtain ⟨callee, args, argTypes⟩ := c
    simp only at hx ⊢
    rcases h2 : opds s args.toList with _ | l
    · rw [h2] at hx; cases callee with
      | value f => exact (M.fail_some (b := b) hx).elim
      | invoke r m => exact (M.fail_some (b := b) hx).elim
      | builtin bi => cases bi <;> exact (M.fail_some (b := b) hx).elim
    rw [h2] at hx
    cases callee with
    | invoke r m => exact (M.fail_some (b := b) hx).elim
    | builtin bi => rcases l with _ | ⟨x0, _ | ⟨x1, _ | ⟨x2, l⟩⟩⟩ <;> cases bi <;> exact hx
    | value f =>
      rcases h3 : s.opd f with _ | v1
      · simp only [h3] at hx; exact (M.fail_some (b := b) hx).elim
      simp only [h3] at hx ⊢
      rcases v1 with p | _ | _ | _ | _ | _ | _ | _ | _ | _ | _ | _ <;> first | exact (M.fail_some (b := b) hx).elim | skip
      cases p <;> first | exact (M.fail_some (b := b) hx).elim | skip
      rename_i fv
      cases fv <;> first | exact (M.fail_some (b := b) hx).elim | skip
      rename_i fn first captured
      cases fn <;> first | exact (M.fail_some (b := b) hx).elim | skip
      rename_i g
      obtain ⟨fl⟩ := first
      obtain ⟨cl⟩ := captured
      cases fl <;> first | exact (M.fail_some (b := b) hx).elim | skip
      cases cl <;> first | exact (M.fail_some (b := b) hx).elim | skip
      exact callD_mono h hx

theorem evOps_mono (h : Le call call') {mt : Nat → Bool} {ops : Array Oper} : ∀ {l : List Oper} {s : St} {x : St × List Tr}, evOps P mt call ops l s = some x → evOps P mt call' ops l s = some x
  | [], s, x, hx => hx
  | o :: l, s, x, hx => by
    simp only [evOps] at hx ⊢
    rcases h1 : step1 P mt call ops o s with _ | ⟨s', t⟩
    · rw [h1] at hx; cases hx
    have h2 : step1 P mt call' ops o s = some (s', t) := by
      unfold step1 at h1 ⊢
      rcases hw : wantD ops s o with _ | w
      · rw [hw] at h1; cases h1
      rw [hw] at h1
      simp only at h1 ⊢
      cases w with
      | false => exact h1
      | true =>
        simp only [if_true] at h1 ⊢
        rcases he : evOp P mt call s o s.boxes with _ | y
        · rw [he] at h1; cases h1
        rw [he] at h1
        rw [evOp_mono h he]
        exact h1
    rw [h1] at hx
    rw [h2]
    simp only at hx ⊢
    rcases h3 : evOps P mt call ops l s' with _ | y
    · rw [h3] at hx; cases hx
    rw [h3] at hx
    rw [evOps_mono h h3]
    exact hx

theorem evLoop_mono {b b' : St → Option (Ex × St)} (h : ∀ s x, b s = some x → b' s = some x) : ∀ {n m : Nat} {s : St} {x : Ex × St}, n ≤ m → evLoop b n s = some x → evLoop b' m s = some x
  | 0, _, _, _, _, hx => by cases hx
  | n + 1, 0, _, _, hn, _ => by omega
  | n + 1, m + 1, s, x, hn, hx => by
    simp only [evLoop] at hx ⊢
    rcases h1 : b s with _ | ⟨e, s'⟩
    · rw [h1] at hx; cases hx
    rw [h1] at hx
    rw [h _ _ h1]
    cases e with
    | normal => exact evLoop_mono h (by omega) hx
    | exit id => exact hx
    | ret => exact hx

theorem evCode_mono (h : Le call call') {f : FuncId} {nb n m : Nat} (hn : n ≤ m) : ∀ {c : Code} {s : St} {x : Ex × St}, evCode P H f nb call n c s = some x → evCode P H f nb call' m c s = some x := by
  intro c
  induction c with
  | region id ops dr =>
    intro s x hx
    simp only [evCode, evRegion] at hx ⊢
    rcases h1 : ghosts P nb s (H.at_ f id) with _ | s0
    · rw [h1] at hx; cases hx
    rw [h1] at hx
    simp only at hx ⊢
    rcases h2 : evOps P (H.mt f) call ops ops.toList s0 with _ | y
    · rw [h2] at hx; cases hx
    rw [h2] at hx
    rw [evOps_mono h h2]
    exact hx
  | seq a b iha ihb =>
    intro s x hx
    simp only [evCode] at hx ⊢
    rcases h1 : evCode P H f nb call n a s with _ | ⟨e, s'⟩
    · rw [h1] at hx; cases hx
    rw [h1] at hx
    rw [iha h1]
    cases e with
    | normal => exact ihb hx
    | exit id => exact hx
    | ret => exact hx
  | cond c a b iha ihb =>
    intro s x hx
    simp only [evCode] at hx ⊢
    split at hx
    · rename_i t ht
      cases t with
      | true => simp only [if_true] at hx ⊢; exact iha hx
      | false => simp only [Bool.false_eq_true, if_false] at hx ⊢; exact ihb hx
    · cases hx
  | block id b ih =>
    intro s x hx
    simp only [evCode] at hx ⊢
    rcases h1 : evCode P H f nb call n b s with _ | ⟨e, s'⟩
    · rw [h1] at hx; cases hx
    rw [h1] at hx
    rw [ih h1]
    exact hx
  | loop b ih =>
    intro s x hx
    simp only [evCode] at hx ⊢
    exact evLoop_mono (fun s x => ih) hn hx
  | _ => intro s x hx; exact hx

theorem evFun_mono {ext : FuncId → Option CallD} : ∀ {n m : Nat}, n ≤ m → Le (evFun P H ext n) (evFun P H ext m)
  | 0, _, _ => fun f as bs r hr => by cases hr
  | n + 1, 0, h => by omega
  | n + 1, m + 1, hn => fun f as bs r hr => by
    simp only [evFun] at hr ⊢
    split at hr
    · exact hr
    split at hr
    · rename_i hx fn hf
      split at hr
      · rename_i c hc
        split at hr
        · rename_i hd
          rcases h1 : evCode P H f bs.length (evFun P H ext n) n c { regs := look as, boxes := look bs } with _ | ⟨e, s⟩
          · rw [h1] at hr; cases hr
          rw [h1] at hr
          rw [if_pos hd, evCode_mono (evFun_mono (by omega)) (by omega) h1]
          exact hr
        · cases hr
      · cases hr
    · cases hr
/-- A closed answer. -/
theorem Ev.of {ext : FuncId → Option CallD} {n : Nat} {f : FuncId} {args : List RV} {bs bs' : List Box} {r : RV} (h : evFun P H ext n f args bs = some (r, bs')) : Ev P H ext f args bs r bs' :=
  ⟨n, fun _ hm => evFun_mono hm f args bs _ h⟩
end
end Go.Ds
