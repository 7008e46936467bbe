
import Derived.Test.YthadlbjoiidkjaaGreatDoorDwPlain
import Derived.Test.YthadlbjoiidkjaaGreatDoorDwLift4
import Derived.Lib.BitFns

namespace Go.Dw
open Go.Proofs
section
variable {α:Type}
def lt3(cmp:α->α->Option Int)(x y:α):Bool:=decide ((cmp x y).getD 0<0)
def CmpOk(cmp:α->α->Option Int):Prop:=(∀x y,∃c,cmp x y=some c)∧Sort.SWO (lt3 cmp)
open Classical in
open Classical in
def qu(cmp:α->α->Option Int)(l:List α):Prop:=l.Pairwise fun x y=>lt3 cmp x y=true∨lt3 cmp y x=true
theorem qu.eq{cmp:α->α->Option Int}{l:List α}(h:qu cmp l){a b:α}(ha:a∈l)(hb:b∈l)(h1:lt3 cmp a b=false)(h2:lt3 cmp b a=false):a=b:=by
 have h':l.Pairwise fun x y=>x=y∨lt3 cmp x y=true∨lt3 cmp y x=true:=h.imp fun h=>.inr h
 have key:∀x∈l,∀y∈l,x=y∨lt3 cmp x y=true∨lt3 cmp y x=true:=by
  clear h1 h2 ha hb h
  induction l with
  |nil=>intro x hx;cases hx
  |cons c l ih=>
   obtain⟨hc,hl⟩:=List.pairwise_cons.1 h'
   intro x hx y hy
   rcases List.mem_cons.1 hx with hx'|hx'<;>rcases List.mem_cons.1 hy with hy'|hy'
   ·exact .inl (hx'.trans hy'.symm)
   ·subst hx';exact hc y hy'
   ·subst hy'
    rcases hc x hx' with h|h|h
    ·exact .inl h.symm
    ·exact .inr (.inr h)
    ·exact .inr (.inl h)
   ·exact ih hl x hx' y hy'
 rcases key a ha b hb with h|h|h
 ·exact h
 ·rw [h]at h1;cases h1
 ·rw [h]at h2;cases h2
open Classical in
noncomputable def oo (cmp:α->α->Option Int) (l:List α):Option (List α):=
 if CmpOk cmp∧qu cmp l∧l.length<4611686018427387904 then some (l.mergeSort fun x y=> !lt3 cmp y x)else none
theorem sortU_at{cmp:α->α->Option Int}{l:List α}(h1:CmpOk cmp)(h2:qu cmp l)(h3:l.length<4611686018427387904):oo cmp l=some (l.mergeSort fun x y=> !lt3 cmp y x):=by
 unfold oo
 rw [if_pos ⟨h1,h2,h3⟩]
theorem tR{cmp:α->α->Option Int}{l r:List α}(h:oo cmp l=some r):CmpOk cmp∧qu cmp l∧l.length<4611686018427387904∧r=l.mergeSort fun x y=> !lt3 cmp y x:=by
 unfold oo at h
 split at h
 ·rename_i hc
  exact⟨hc.1,hc.2.1,hc.2.2,(Option.some.inj h).symm⟩
 ·cases h
end
end Go.Dw
