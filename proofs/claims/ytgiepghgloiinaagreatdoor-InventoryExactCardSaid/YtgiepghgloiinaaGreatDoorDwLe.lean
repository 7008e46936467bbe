
import Derived.Test.YtgiepghgloiinaaGreatDoorDwLift4

namespace Go.Dw
def Le{α:Type}(m a:Option α):Prop:=∀r,m=some r->a=some r
theorem Le.refl{α:Type}(m:Option α):Le m m:=fun _ h=>h
theorem Le.none{α:Type}(m:Option α):Le none m:=fun _ h=>by cases h
theorem Le.trans{α:Type}{a b c:Option α}(h:Le a b)(e:Le b c):Le a c:=fun r f=>e r (h r f)
theorem Le.bind{α β:Type}{m b:Option α}{k k':α->Option β}(h:Le m b)(hk:∀x,Le (k x) (k' x)):Le (m.bind k) (b.bind k'):=fun r a=>by
 rcases m with _|x
 ·cases a
 ·rw [h x rfl];exact hk x r a
theorem Le.ite{α:Type}{c:Bool}{a e b b':Option α}(h:Le a e)(f:Le b b'):Le (if c=true then a else b) (if c=true then e else b'):=by cases c<;>assumption
theorem Le.lv{σ ω:Type}{body a:σ->Option (jY σ ω)}(h:∀s,Le (body s) (a s)):∀(n:Nat)(s:σ),Le (lv body n s) (lv a n s)
 |0,_=>Le.none _
 |n+1,s=>fun r b=>by
  simp only [Dw.lv]at b⊢
  rcases hb:body s with _|(s'|o)
  ·simp [hb]at b
  ·rw [h s _ hb];simp only [hb]at b;exact Le.lv h n s' r b
  ·rw [h s _ hb];simp only [hb]at b;exact b
theorem Le.loop{σ ω:Type}{body a:σ->Option (jY σ ω)}(h:∀s,Le (body s) (a s))(n:Nat)(s:σ):Le (Dw.lv body n s) (cI a s):=fun _ b=>qu (Le.lv h n s _ b)
theorem Le.cI{σ ω:Type}{body a:σ->Option (jY σ ω)}(h:∀s,Le (body s) (a s))(s:σ):Le (Dw.cI body s) (Dw.cI a s):=fun _ c=>by
 obtain⟨n,b⟩:=oA c
 exact Le.loop h n s _ b
theorem Le.up{β:Type}{g:Nat->Option β}(h:∀n,Le (g n) (g (n+1))){n m:Nat}(a:n<=m):Le (g n) (g m):=by
 induction a with
 |refl=>exact Le.refl _
 |step _ b=>exact b.trans (h _)
theorem Le.tw{β:Type}{g:Nat->Option β}(h:∀n,Le (g n) (g (n+1)))(n:Nat):Le (g n) (tw g):=fun r a=>by
 refine recO_of ⟨n,a⟩ fun m s b=>?_
 rcases Nat.le_total n m with hm|hm
 ·have:=Le.up h hm r a;rw [b]at this;exact Option.some.inj this
 ·have:=Le.up h hm s b;rw [a]at this;exact(Option.some.inj this).symm
class LeC {α:Type} (a b:Option α):Prop where
 le:Le a b
theorem lb {α : Type} {a b : Option α} (h : Le a b := by
 repeat' (first|with_reducible exact Le.refl _|with_reducible exact LeC.le|with_reducible refine Le.bind ?_ (fun _=>?_)|with_reducible refine Le.ite ?_ ?_|with_reducible refine Le.loop (fun _=>?_) _ _|with_reducible refine Le.cI (fun _=>?_) _|(split<;>dsimp only))):Le a b:=h
end Go.Dw
