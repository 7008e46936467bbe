
import Derived.Test.YtmmgjlgoggielaaGreatDwLift4

namespace Go.Dw
def Le{α:Type}(m m':Option α):Prop:=∀r,m=some r->m'=some r
theorem Le.refl{α:Type}(m:Option α):Le m m:=fun _ h=>h
theorem Le.none{α:Type}(m:Option α):Le none m:=fun _ h=>by cases h
theorem Le.trans{α:Type}{a b c:Option α}(h:Le a b)(h':Le b c):Le a c:=fun r hr=>h' r (h r hr)
theorem Le.bind{α β:Type}{m m':Option α}{k k':α->Option β}(h:Le m m')(hk:∀x,Le (k x) (k' x)):Le (m.bind k) (m'.bind k'):=fun r hr=>by
 rcases m with _|x
 ·cases hr
 ·rw [h x rfl];exact hk x r hr
theorem Le.ite{α:Type}{c:Bool}{a a' b b':Option α}(h:Le a a')(h':Le b b'):Le (if c=true then a else b) (if c=true then a' else b'):=by cases c<;>assumption
theorem Le.sy{σ ω:Type}{body body':σ->Option (py σ ω)}(h:∀s,Le (body s) (body' s)):∀(n:Nat)(s:σ),Le (sy body n s) (sy body' n s)
 |0,_=>Le.none _
 |n+1,s=>fun r hr=>by
  simp only [Dw.sy]at hr⊢
  rcases hb:body s with _|(s'|o)
  ·simp [hb]at hr
  ·rw [h s _ hb];simp only [hb]at hr;exact Le.sy h n s' r hr
  ·rw [h s _ hb];simp only [hb]at hr;exact hr
theorem Le.loop{σ ω:Type}{body body':σ->Option (py σ ω)}(h:∀s,Le (body s) (body' s))(n:Nat)(s:σ):Le (Dw.sy body n s) (oC body' s):=fun _ hr=>rZ (Le.sy h n s _ hr)
theorem Le.oC{σ ω:Type}{body body':σ->Option (py σ ω)}(h:∀s,Le (body s) (body' s))(s:σ):Le (Dw.oC body s) (Dw.oC body' s):=fun _ hr=>by
 obtain⟨n,hn⟩:=uV hr
 exact Le.loop h n s _ hn
theorem Le.up{β:Type}{g:Nat->Option β}(h:∀n,Le (g n) (g (n+1))){n m:Nat}(hn:n<=m):Le (g n) (g m):=by
 induction hn with
 |refl=>exact Le.refl _
 |step _ ih=>exact ih.trans (h _)
theorem Le.recO{β:Type}{g:Nat->Option β}(h:∀n,Le (g n) (g (n+1)))(n:Nat):Le (g n) (recO g):=fun r hr=>by
 refine BP ⟨n,hr⟩ fun m s hs=>?_
 rcases Nat.le_total n m with hm|hm
 ·have:=Le.up h hm r hr;rw [hs]at this;exact Option.some.inj this
 ·have:=Le.up h hm s hs;rw [hr]at this;exact(Option.some.inj this).symm
class LeC {α:Type} (a b:Option α):Prop where
 le:Le a b
theorem leAuto {α : Type} {a b : Option α} (h : Le a b := by
 repeat' (first|with_reducible exact Le.refl _|with_reducible exact LeC.le|with_reducible refine Le.bind ?_ (fun _=>?_)|with_reducible refine Le.ite ?_ ?_|with_reducible refine Le.loop (fun _=>?_) _ _|with_reducible refine Le.oC (fun _=>?_) _|(split<;>dsimp only))):Le a b:=h
end Go.Dw
