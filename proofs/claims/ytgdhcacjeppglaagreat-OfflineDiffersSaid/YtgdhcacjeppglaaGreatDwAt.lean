
import Derived.Test.YtgdhcacjeppglaaGreatDwCall2
open Bool renaming and_eq_true->Ac

namespace Go.Dw
def mO(f:PD->PD->Bool):List PD->List PD->Bool
 | [],[]=>true
 |a::l,b::m=>f a b&&mO f l m
 |_,_=>false
theorem mP{f:PD->PD->Bool}(hf:∀a b,f a b=true->a=b):∀l m,mO f l m=true->l=m
 | [],[],_=>rfl
 |a::l,b::m,h=>by
  simp only [mO,Ac]at h
  rw [hf a b h.1,mP hf l m h.2]
 | [],_::_,h=>by cases h
 |_::_,[],h=>by cases h
def mQ:Nat->PD->PD->Bool
 |_+1,.bool a,.bool b=>a==b
 |_+1,.int k a,.int k' b=>decide (k=k')&&decide (a=b)
 |_+1,.str a,.str b=>decide (a=b)
 |n+1,.lst a,.lst b=>mO (mQ n) a b
 |n+1,.agg a,.agg b=>mO (mQ n) a b
 |_,_,_=>false
theorem sameP_eq:∀n a b,mQ n a b=true->a=b:=by
 intro n
 induction n with
 |zero=>intro a b h;cases h
 |succ n c=>
  intro a b h
  cases a<;>cases b<;>simp only [mQ,beq_iff_eq,Ac,decide_eq_true_eq]at h<;>first|(rw [mP c _ _ h];done)|(rw [h.1,h.2];done)|(rw [h];done)|cases h
def sameA:List RV->List PD->Bool
 | [],[]=>true
 | .d p::l,q::m=>mQ 20 p q&&sameA l m
 |_,_=>false
theorem mN:∀l m,sameA l m=true->l=m.map RV.d
 | [],[],_=>rfl
 | .d p::l,q::m,h=>by
  simp only [sameA,Ac]at h
  rw [sameP_eq 20 p q h.1,mN l m h.2];rfl
def atD(l:List (List PD×RV)):cB:=fun _ args bs=>match bs with
 | []=>(l.find? fun x=>sameA args x.1).map fun x=>(x.2,[])
 |_=>none
theorem at_ok{P:Program}{base:iZ}{g:FuncId}{l:List (List PD×RV)}(h:∀x∈l,fJ P base g (x.1.map RV.d) [] x.2 []):∀args bs r a,atD l g args bs=some (r,a)->fJ P base g args bs r a:=by
 intro args bs r a c
 cases bs with
 |cons b bs=>cases c
 |nil=>
  simp only [atD,Option.map_eq_some_iff,Prod.mk.injEq]at c
  obtain⟨x,e,rfl,rfl⟩:=c
  have h1:=List.find?_some e
  rw [mN _ _ h1]
  exact h x (List.mem_of_find?_eq_some e)
end Go.Dw
