
import Derived.Test.YtgdhcacjeppglaaGreatDwLift4
import Derived.IntWalk
import Derived.Sort.Walk0
import Derived.Sort.AssemblyPlain

namespace Go.Dw
theorem loop_ind{σ ω:Type}{body:σ->Option (dK σ ω)}(I:σ->Prop)(m:σ->Nat)(Q:ω->Prop)
  (step:∀s,I s->(∃s',body s=some (.next s')∧I s'∧m s'<m s)∨(∃o,body s=some (.stop o)∧Q o)):∀s,I s->∃o,dk body s=some o∧Q o:=by
 intro s
 generalize i:m s=n
 induction n using Nat.strongRecOn generalizing s with
 |_ n f=>
  intro e
  rcases step s e with⟨s',h1,a,g⟩|⟨o,h1,a⟩
  ·obtain⟨o,b,c⟩:=f (m s') om s' rfl a
   exact⟨o,by rw [gm h1];exact b,c⟩
  ·exact⟨o,fp h1,a⟩
theorem inO_at{α:Type}{l:List α}{n:Int}(a:0<=n)(h1:n<l.length):inO l n=some ():=by unfold inO;rw [if_pos ⟨a,h1⟩]
theorem subO_at{n:Nat}{b a:Int}(c:0<=b)(h1:b<=a)(e:a<=n):subO n b a=some ():=by unfold subO;rw [if_pos ⟨c,h1,e⟩]
theorem viewO_at{n b a:Nat}(h1:b<=a)(c:a<=n):viewO n b a=some ():=by unfold viewO;rw [if_pos ⟨h1,c⟩]
theorem partO_at{α:Type}{l:List α}{b a:Nat}(h1:b<=a)(c:a<=l.length):partO l b a=some ((l.drop b).take (a-b)):=by unfold partO;rw [if_pos ⟨h1,c⟩]
theorem w64{n:Int}(a: -9223372036854775808<=n)(h1:n<=9223372036854775807):IntKind.wrap .i64 n=n:=IntWalk.i64_in _ om
structure Tot{α:Type}(c:α->α->Int):Prop where
 anti:∀x y,c y x= -c x y
 tr:∀x y z,c x y<=0->c y z<=0->c x z<=0
theorem Tot.refl{α:Type}{c:α->α->Int}(h:Tot c)(x:α):c x x=0:=by have:=h.anti x x;omega
theorem Tot.or{α:Type}{c d:α->α->Int}(hc:Tot c)(hd:Tot d):Tot (fun x y=>if c x y≠0 then c x y else d x y):=by
 refine⟨fun x y=>?_,fun x y z h1 a=>?_⟩
 ·have:=hc.anti x y;have:=hd.anti x y
  by_cases h:c x y=0
  ·rw [if_neg om,if_neg om];omega
  ·rw [if_pos om,if_pos h];omega
 ·have b:c x y<=0:=by split at h1<;>omega
  have a2:c y z<=0:=by split at a<;>omega
  have a3:=hc.tr x y z b a2
  by_cases h:c x z=0
  ·rw [if_neg om]
   have e:=hc.tr z x y (by have:=hc.anti x z;omega) b
   have f:=hc.tr y z x a2 (by have:=hc.anti x z;omega)
   have g:=hc.anti x y;have e2:=hc.anti y z
   rw [if_neg om]at h1;rw [if_neg om]at a
   exact hd.tr x y z h1 a
  ·rw [if_pos h];exact a3
theorem Tot.map{α β:Type}{c:β->β->Int}(h:Tot c)(f:α->β):Tot (fun x y=>c (f x) (f y)):=⟨fun x y=>h.anti _ _,fun x y z=>h.tr _ _ _⟩
theorem Tot.lt{α:Type}{c:α->α->Int}(h:Tot c){x y z:α}(h1:c x y<0)(e:c y z<=0):c x z<0:=by
 have a:=h.tr x y z om e
 by_cases f:c x z=0
 ·have b:=h.tr y z x e (by have:=h.anti x z;omega)
  have:=h.anti x y;omega
 ·omega
section
variable {α:Type} [DecidableEq α]
end
section
variable {α:Type} [DecidableEq α] {eq:α->α->Bool}(heq:∀x y,eq x y=decide (x=y))
include heq
end
end Go.Dw
