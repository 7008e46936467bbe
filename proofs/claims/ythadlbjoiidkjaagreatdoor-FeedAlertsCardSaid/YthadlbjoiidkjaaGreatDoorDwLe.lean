
import Derived.Test.YthadlbjoiidkjaaGreatDoorDwLift4

namespace Go.Dw
def Le{α:Type}(m m':Option α):Prop:=∀r,m=some r->m'=some r
theorem Le.refl{α:Type}(m:Option α):Le m m:=fun _ h=>h
theorem Le.none{α:Type}(m:Option α):Le none m:=fun _ h=>by cases h
theorem Le.trans{α:Type}{a b c:Option α}(h:Le a b)(h':Le b c):Le a c:=fun r hr=>h' r (h r hr)
theorem Le.bind{α β:Type}{m m':Option α}{k k':α->Option β}(h:Le m m')(hk:∀x,Le (k x) (k' x)):Le (m.bind k) (m'.bind k'):=fun r hr=>by
 rcases m with _|x
 ·cases hr
 ·rw [h x rfl];exact hk x r hr
theorem Le.ite{α:Type}{c:Bool}{a a' b b':Option α}(h:Le a a')(h':Le b b'):Le (if c=true then a else b) (if c=true then a' else b'):=by cases c<;>assumption
theorem Le.jC{σ ω:Type}{body body':σ->Option (iN σ ω)}(h:∀s,Le (body s) (body' s)):∀(n:Nat)(s:σ),Le (jC body n s) (jC body' n s)
 |0,_=>Le.none _
 |n+1,s=>fun r hr=>by
  simp only [Dw.jC]at hr⊢
  rcases hb:body s with _|(s'|o)
  ·simp [hb]at hr
  ·rw [h s _ hb];simp only [hb]at hr;exact Le.jC h n s' r hr
  ·rw [h s _ hb];simp only [hb]at hr;exact hr
theorem Le.loop{σ ω:Type}{body body':σ->Option (iN σ ω)}(h:∀s,Le (body s) (body' s))(n:Nat)(s:σ):Le (Dw.jC body n s) (fq body' s):=fun _ hr=>oh (Le.jC h n s _ hr)
theorem Le.fq{σ ω:Type}{body body':σ->Option (iN σ ω)}(h:∀s,Le (body s) (body' s))(s:σ):Le (Dw.fq body s) (Dw.fq body' s):=fun _ hr=>by
 obtain⟨n,hn⟩:=mq hr
 exact Le.loop h n s _ hn
class LeC {α:Type} (a b:Option α):Prop where
 le:Le a b
theorem jf {α : Type} {a b : Option α} (h : Le a b := by
 repeat' (first|with_reducible exact Le.refl _|with_reducible exact LeC.le|with_reducible refine Le.bind ?_ (fun _=>?_)|with_reducible refine Le.ite ?_ ?_|with_reducible refine Le.loop (fun _=>?_) _ _|with_reducible refine Le.fq (fun _=>?_) _|(split<;>dsimp only))):Le a b:=h
end Go.Dw
