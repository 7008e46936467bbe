
import Derived.Test.YtfmoipelhfkdkaaGreatDoorDwLift4

namespace Go.Dw
def Le{α:Type}(m f:Option α):Prop:=∀r,m=some r->f=some r
theorem Le.refl{α:Type}(m:Option α):Le m m:=fun _ h=>h
theorem Le.none{α:Type}(m:Option α):Le none m:=fun _ h=>by cases h
theorem Le.trans{α:Type}{a b c:Option α}(h:Le a b)(f:Le b c):Le a c:=fun r g=>f r (h r g)
theorem Le.bind{α β:Type}{m g:Option α}{k k':α->Option β}(h:Le m g)(hk:∀x,Le (k x) (k' x)):Le (m.bind k) (g.bind k'):=fun r f=>by
 rcases m with _|x
 ·cases f
 ·rw [h x rfl];exact hk x r f
theorem Le.ite{α:Type}{c:Bool}{a f b b':Option α}(h:Le a f)(g:Le b b'):Le (if c=true then a else b) (if c=true then f else b'):=by cases c<;>assumption
theorem Le.uh{σ ω:Type}{body f:σ->Option (gB σ ω)}(h:∀s,Le (body s) (f s)):∀(n:Nat)(s:σ),Le (uh body n s) (uh f n s)
 |0,_=>Le.none _
 |n+1,s=>fun r g=>by
  simp only [Dw.uh]at g⊢
  rcases j:body s with _|(s'|o)
  ·simp [j]at g
  ·rw [h s _ j];simp only [j]at g;exact Le.uh h n s' r g
  ·rw [h s _ j];simp only [j]at g;exact g
theorem Le.loop{σ ω:Type}{body f:σ->Option (gB σ ω)}(h:∀s,Le (body s) (f s))(n:Nat)(s:σ):Le (Dw.uh body n s) (cI f s):=fun _ g=>ui (Le.uh h n s _ g)
theorem Le.cI{σ ω:Type}{body f:σ->Option (gB σ ω)}(h:∀s,Le (body s) (f s))(s:σ):Le (Dw.cI body s) (Dw.cI f s):=fun _ j=>by
 obtain⟨n,g⟩:=wM j
 exact Le.loop h n s _ g
theorem Le.up{β:Type}{g:Nat->Option β}(h:∀n,Le (g n) (g (n+1))){n m:Nat}(f:n<=m):Le (g n) (g m):=by
 induction f with
 |refl=>exact Le.refl _
 |step _ j=>exact j.trans (h _)
theorem Le.recO{β:Type}{g:Nat->Option β}(h:∀n,Le (g n) (g (n+1)))(n:Nat):Le (g n) (recO g):=fun r f=>by
 refine Bz ⟨n,f⟩ fun m s hs=>?_
 rcases Nat.le_total n m with hm|hm
 ·have:=Le.up h hm r f;rw [hs]at this;exact Option.some.inj this
 ·have:=Le.up h hm s hs;rw [f]at this;exact(Option.some.inj this).symm
class LeC {α:Type} (a b:Option α):Prop where
 le:Le a b
theorem yV {α : Type} {a b : Option α} (h : Le a b := by
 repeat' (first|with_reducible exact Le.refl _|with_reducible exact LeC.le|with_reducible refine Le.bind ?_ (fun _=>?_)|with_reducible refine Le.ite ?_ ?_|with_reducible refine Le.loop (fun _=>?_) _ _|with_reducible refine Le.cI (fun _=>?_) _|(split<;>dsimp only))):Le a b:=h
end Go.Dw
