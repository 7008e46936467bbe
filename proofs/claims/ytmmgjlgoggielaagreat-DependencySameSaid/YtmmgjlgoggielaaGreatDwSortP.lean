
import Derived.Test.YtmmgjlgoggielaaGreatDwPlain
import Derived.Test.YtmmgjlgoggielaaGreatDwLift4
import Derived.Lib.BitFns

namespace Go.Dw
open Go.Proofs
section
variable {α:Type}
def lt3(cmp:α->α->Option Int)(x y:α):Bool:=decide ((cmp x y).getD 0<0)
def CmpOk(cmp:α->α->Option Int):Prop:=(∀x y,∃c,cmp x y=some c)∧Sort.SWO (lt3 cmp)
open Classical in
noncomputable def vN (cmp:α->α->Option Int):List α->Option (List α)
 | []=>some []
 |a::l=>if CmpOk cmp∧(a::l).length<4611686018427387904 then
   haveI:Inhabited α:=⟨a⟩
   some (Sort.pdq (lt3 cmp) (a::l).toArray 0 (a::l).length (Lib.bitLen (a::l).length) true true).toList
  else none
open Classical in
theorem wI(cmp:α->α->Option Int)(a:α)(l:List α):vN cmp (a::l)=if CmpOk cmp∧(a::l).length<4611686018427387904 then
   haveI:Inhabited α:=⟨a⟩
   some (Sort.pdq (lt3 cmp) (a::l).toArray 0 (a::l).length (Lib.bitLen (a::l).length) true true).toList
  else none:=rfl
theorem Bv{cmp:α->α->Option Int}{l r:List α}(h:vN cmp l=some r):r.Perm l:=by
 cases l with
 |nil=>cases h;exact .nil
 |cons a l=>
  rw [wI]at h
  split at h
  ·rename_i hc
   cases h
   letI:Inhabited α:=⟨a⟩
   have:=Sort.pdq_sorts (lt3 cmp) hc.1.2 (a::l).toArray 0 (a::l).length (Lib.bitLen (a::l).length) true true (Nat.zero_le _) sm (.inl rfl)
   obtain⟨hs, -,hp⟩:=this.1
   have e1:∀d:Array α,d.size=(a::l).length->d.extract 0 (a::l).length=d:=fun d hd=>by rw [<-hd];simp
   rw [e1 _ (by simpa using hs),e1 _ sm]at hp
   exact hp
  ·cases h
theorem yc{cmp:α->α->Option Int}(hc:CmpOk cmp)(he:∀x y,lt3 cmp x y=false->lt3 cmp y x=false->x=y)(l:List α)(hl:l.length<4611686018427387904):
  vN cmp l=some (l.mergeSort fun x y=> !lt3 cmp y x):=by
 cases l with
 |nil=>simp [vN]
 |cons a l=>
  rw [wI,if_pos ⟨hc,hl⟩]
  letI:Inhabited α:=⟨a⟩
  have:=Sort.pdq_sorts (lt3 cmp) hc.2 (a::l).toArray 0 (a::l).length (Lib.bitLen (a::l).length) true true (Nat.zero_le _) sm (.inl rfl)
  have hu:=Sort.sorted_unique_holds hc.2 he (a::l).toArray _ this.1 this.2
  exact congrArg some hu
def Apart(cmp:α->α->Option Int)(l:List α):Prop:=l.Pairwise fun x y=>lt3 cmp x y=true∨lt3 cmp y x=true
theorem Apart.eq{cmp:α->α->Option Int}{l:List α}(h:Apart cmp l){a b:α}(ha:a∈l)(hb:b∈l)(h1:lt3 cmp a b=false)(h2:lt3 cmp b a=false):a=b:=by
 have h':l.Pairwise fun x y=>x=y∨lt3 cmp x y=true∨lt3 cmp y x=true:=h.imp fun h=>.inr h
 have key:∀x∈l,∀y∈l,x=y∨lt3 cmp x y=true∨lt3 cmp y x=true:=by
  clear h1 h2 ha hb h
  induction l with
  |nil=>intro x hx;cases hx
  |cons c l ih=>
   obtain⟨hc,hl⟩:=List.pairwise_cons.1 h'
   intro x hx y hy
   rcases List.mem_cons.1 hx with hx'|hx'<;>rcases List.mem_cons.1 hy with hy'|hy'
   ·exact .inl (hx'.trans hy'.symm)
   ·subst hx';exact hc y hy'
   ·subst hy'
    rcases hc x hx' with h|h|h
    ·exact .inl h.symm
    ·exact .inr (.inr h)
    ·exact .inr (.inl h)
   ·exact ih hl x hx' y hy'
 rcases key a ha b hb with h|h|h
 ·exact h
 ·rw [h]at h1;cases h1
 ·rw [h]at h2;cases h2
open Classical in
end
end Go.Dw
