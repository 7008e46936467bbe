
import Derived.Test.YthadlbjoiidkjaaGreatDoorDwLift4

namespace Go.Dw
def Le{α:Type}(m m':Option α):Prop:=∀r,m=some r->m'=some r
theorem Le.refl{α:Type}(m:Option α):Le m m:=fun _ h=>h
theorem Le.none{α:Type}(m:Option α):Le none m:=fun _ h=>by cases h
theorem Le.trans{α:Type}{a b c:Option α}(h:Le a b)(h':Le b c):Le a c:=fun r hr=>h' r (h r hr)
theorem Le.bind{α β:Type}{m m':Option α}{k k':α->Option β}(h:Le m m')(hk:∀x,Le (k x) (k' x)):Le (m.bind k) (m'.bind k'):=fun r hr=>by
 rcases m with _|x
 ·cases hr
 ·rw [h x rfl];exact hk x r hr
theorem Le.ite{α:Type}{c:Bool}{a a' b b':Option α}(h:Le a a')(h':Le b b'):Le (if c=true then a else b) (if c=true then a' else b'):=by cases c<;>assumption
theorem Le.qb{σ ω:Type}{body body':σ->Option (oJ σ ω)}(h:∀s,Le (body s) (body' s)):∀(n:Nat)(s:σ),Le (qb body n s) (qb body' n s)
 |0,_=>Le.none _
 |n+1,s=>fun r hr=>by
  simp only [Dw.qb]at hr⊢
  rcases hb:body s with _|(s'|o)
  ·simp [hb]at hr
  ·rw [h s _ hb];simp only [hb]at hr;exact Le.qb h n s' r hr
  ·rw [h s _ hb];simp only [hb]at hr;exact hr
theorem Le.loop{σ ω:Type}{body body':σ->Option (oJ σ ω)}(h:∀s,Le (body s) (body' s))(n:Nat)(s:σ):Le (Dw.qb body n s) (kG body' s):=fun _ hr=>qO (Le.qb h n s _ hr)
theorem Le.kG{σ ω:Type}{body body':σ->Option (oJ σ ω)}(h:∀s,Le (body s) (body' s))(s:σ):Le (Dw.kG body s) (Dw.kG body' s):=fun _ hr=>by
 obtain⟨n,hn⟩:=sr hr
 exact Le.loop h n s _ hn
theorem Le.up{β:Type}{g:Nat->Option β}(h:∀n,Le (g n) (g (n+1))){n m:Nat}(hn:n<=m):Le (g n) (g m):=by
 induction hn with
 |refl=>exact Le.refl _
 |step _ ih=>exact ih.trans (h _)
class LeC {α:Type} (a b:Option α):Prop where
 le:Le a b
end Go.Dw
