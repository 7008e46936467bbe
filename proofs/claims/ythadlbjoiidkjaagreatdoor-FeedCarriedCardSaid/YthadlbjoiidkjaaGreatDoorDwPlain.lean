
import Derived.Test.YthadlbjoiidkjaaGreatDoorDwLift4
import Derived.IntWalk
import Derived.Sort.Walk0
import Derived.Sort.AssemblyPlain

namespace Go.Dw
theorem Ao{σ ω:Type}{body:σ->Option (oJ σ ω)}(I:σ->Prop)(m:σ->Nat)(Q:ω->Prop)
  (step:∀s,I s->(∃s',body s=some (.next s')∧I s'∧m s'<m s)∨(∃o,body s=some (.stop o)∧Q o)):∀s,I s->∃o,kG body s=some o∧Q o:=by
 intro s
 generalize hn:m s=n
 induction n using Nat.strongRecOn generalizing s with
 |_ n ih=>
  intro hs
  rcases step s hs with⟨s',h1,h2,h3⟩|⟨o,h1,h2⟩
  ·obtain⟨o,h4,h5⟩:=ih (m s') za s' rfl h2
   exact⟨o,by rw [rq h1];exact h4,h5⟩
  ·exact⟨o,qx h1,h2⟩
theorem p7{α:Type}{l:List α}{n:Int}{i:Nat}(hn:n=i)(hi:i<l.length):pH l n=some l[i]:=by
 subst hn
 unfold pH
 rw [if_pos za,Int.toNat_natCast,zd hi]
theorem u5{α:Type}{l:List α}{n:Int}(h0:0<=n)(h1:n<l.length):inO l n=some ():=by unfold inO;rw [if_pos ⟨h0,h1⟩]
theorem zM{n:Nat}{lo hi:Int}(h0:0<=lo)(h1:lo<=hi)(h2:hi<=n):wN n lo hi=some ():=by unfold wN;rw [if_pos ⟨h0,h1,h2⟩]
theorem AF{n lo hi:Nat}(h1:lo<=hi)(h2:hi<=n):yG n lo hi=some ():=by unfold yG;rw [if_pos ⟨h1,h2⟩]
theorem partO_at{α:Type}{l:List α}{lo hi:Nat}(h1:lo<=hi)(h2:hi<=l.length):y6 l lo hi=some ((l.drop lo).take (hi-lo)):=by unfold y6;rw [if_pos ⟨h1,h2⟩]
theorem setO_at{α:Type}{l:List α}{n:Int}{i:Nat}{y:α}(hn:n=i)(hi:i<l.length):xI l n y=some (l.set i y):=by
 subst hn
 unfold xI
 rw [if_pos ⟨za,za⟩,Int.toNat_natCast]
theorem w64{n:Int}(h0: -9223372036854775808<=n)(h1:n<=9223372036854775807):IntKind.wrap .i64 n=n:=IntWalk.i64_in _ za
structure Tot{α:Type}(c:α->α->Int):Prop where
 wV:∀x y,c y x= -c x y
 tr:∀x y z,c x y<=0->c y z<=0->c x z<=0
theorem Tot.refl{α:Type}{c:α->α->Int}(h:Tot c)(x:α):c x x=0:=by have:=h.wV x x;omega
theorem Tot.or{α:Type}{c d:α->α->Int}(hc:Tot c)(hd:Tot d):Tot (fun x y=>if c x y≠0 then c x y else d x y):=by
 refine⟨fun x y=>?_,fun x y z h1 h2=>?_⟩
 ·have:=hc.wV x y;have:=hd.wV x y
  by_cases h:c x y=0
  ·rw [if_neg za,if_neg za];omega
  ·rw [if_pos za,if_pos h];omega
 ·have a1:c x y<=0:=by split at h1<;>omega
  have a2:c y z<=0:=by split at h2<;>omega
  have a3:=hc.tr x y z a1 a2
  by_cases h:c x z=0
  ·rw [if_neg za]
   have b1:=hc.tr z x y (by have:=hc.wV x z;omega) a1
   have b2:=hc.tr y z x a2 (by have:=hc.wV x z;omega)
   have e1:=hc.wV x y;have e2:=hc.wV y z
   rw [if_neg za]at h1;rw [if_neg za]at h2
   exact hd.tr x y z h1 h2
  ·rw [if_pos h];exact a3
theorem Tot.map{α β:Type}{c:β->β->Int}(h:Tot c)(f:α->β):Tot (fun x y=>c (f x) (f y)):=⟨fun x y=>h.wV _ _,fun x y z=>h.tr _ _ _⟩
theorem Tot.lt{α:Type}{c:α->α->Int}(h:Tot c){x y z:α}(h1:c x y<0)(h2:c y z<=0):c x z<0:=by
 have a:=h.tr x y z za h2
 by_cases hz:c x z=0
 ·have b:=h.tr y z x h2 (by have:=h.wV x z;omega)
  have:=h.wV x y;omega
 ·omega
theorem Tot.swo{α:Type}{c:α->α->Int}(h:Tot c):Sort.SWO (fun x y=>decide (c x y<0)):=by
 refine⟨fun x=>?_,fun x y z h1 h2=>?_,fun x y z h1 h2=>?_⟩
 ·have:=h.refl x;simp;omega
 ·simp only [decide_eq_true_eq]at*
  exact h.lt h1 za
 ·simp only [decide_eq_false_iff_not]at*
  have:=h.tr z y x (by have:=h.wV y z;omega) (by have:=h.wV x y;omega)
  have:=h.wV x z;omega
def cmpI(a b:Int):Int:=if a<b then-1 else if a>b then 1 else 0
theorem cmpI_tot:Tot cmpI:=by
 refine⟨fun x y=>?_,fun x y z h1 h2=>?_⟩<;>unfold cmpI at* <;>(repeat' split at*)<;>omega
section
variable {α:Type} [DecidableEq α]
end
theorem qF{α:Type}{l:List α}{n:Nat}(h:n<l.length):l.take (n+1)=l.take n++[l[n]]:=by
 rw [List.take_add_one,zd h];rfl
section
variable {α:Type} [DecidableEq α] {eq:α->α->Bool}(heq:∀x y,eq x y=decide (x=y))
include heq
end
end Go.Dw
