
import Derived.Test.YtgdhcacjeppglaaGreatDwPlain
import Derived.Test.YtgdhcacjeppglaaGreatDwLift4
import Derived.Lib.BitFns
import Derived.Test.YtgdhcacjeppglaaGreatDwSame
import Derived.Shelf.SlSortCmp.WholeK

namespace Go.Dw
open Go.Proofs
section
variable {α:Type}
def lt3(cmp:α->α->Option Int)(x y:α):Bool:=decide ((cmp x y).getD 0<0)
open Classical in
open Classical in
def Apart(cmp:α->α->Option Int)(l:List α):Prop:=l.Pairwise fun x y=>lt3 cmp x y=true∨lt3 cmp y x=true
theorem Apart.eq{cmp:α->α->Option Int}{l:List α}(h:Apart cmp l){a b:α}(j:a∈l)(hb:b∈l)(h1:lt3 cmp a b=false)(g:lt3 cmp b a=false):a=b:=by
 have m:l.Pairwise fun x y=>x=y∨lt3 cmp x y=true∨lt3 cmp y x=true:=h.imp fun h=>.inr h
 have key:∀x∈l,∀y∈l,x=y∨lt3 cmp x y=true∨lt3 cmp y x=true:=by
  clear h1 g j hb h
  induction l with
  |nil=>intro x i;cases i
  |cons c l o=>
   obtain⟨hc,hl⟩:=List.pairwise_cons.1 m
   intro x i y n
   rcases List.mem_cons.1 i with e|e<;>rcases List.mem_cons.1 n with f|f
   ·exact .inl (e.trans f.symm)
   ·subst e;exact hc y f
   ·subst f
    rcases hc x e with h|h|h
    ·exact .inl h.symm
    ·exact .inr (.inr h)
    ·exact .inr (.inl h)
   ·exact o hl x e y f
 rcases key a j b hb with h|h|h
 ·exact h
 ·rw [h]at h1;cases h1
 ·rw [h]at g;cases g
open Classical in
end
end Go.Dw
namespace Go.Dw
open Go.Proofs Go.Shelf Go.RowKit
section
variable {α:Type}
open Classical in
end
section
variable {P:Program}{S:cp}{α:Type}{pd:α->PD}{k:Nat}
variable [Inhabited α]
end
section
variable {P:Program}{α:Type}{pd:α->PD}{k:Nat}
end
end Go.Dw
