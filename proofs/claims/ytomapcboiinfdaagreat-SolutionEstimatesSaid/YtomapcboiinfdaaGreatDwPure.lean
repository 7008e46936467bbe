
import Derived.Test.YtomapcboiinfdaaGreatDwNc
import Derived.Laws.Concat
import Derived.Laws.Cover1
import Derived.Lib.Strings
open Option.some renaming injEq->AD
open Prod.mk renaming injEq->AF

namespace Go.Dw
section
variable {P:Program}{S:mW}{loc:nB}{w:World}
theorem R.np{k:IntKind}{n:Int}{v:Value}(h:R S loc (.d (.int k n)) v):v= .int k n:=by
 cases h with|d h=>cases h;rfl
theorem R.pA{b:Bool}{v:Value}(h:R S loc (.d (.bool b)) v):v= .bool b:=by
 cases h with|d h=>cases h;rfl
theorem R.rC{s:List UInt8}{v:Value}(h:R S loc (.d (.str s)) v):v= .string ⟨s.toArray⟩:=by
 cases h with|d h=>cases h;rfl
theorem R.raw_inv{u v:Value}(h:R S loc (.d (.raw u)) v):v=u:=by
 cases h with|d h=>cases h;rfl
theorem R.zD{v:Value}(h:R S loc .undef v):v=Go.undef:=by cases h;rfl
theorem R.rp{es:List PD}{v:Value}(h:R S loc (.d (.lst es)) v):V S (.lst es) v:=by
 cases h with|d h=>exact h
theorem uX(l:List UInt8):(ByteArray.mk l.toArray).size=l.length:=by simp [ByteArray.size]
theorem uG(op:BinOp)(t:TypeId)(x y:Operand)(k k':IntKind)(a b:Int):eqGuard op t x y (.int k a) (.int k' b)=pure ():=by
 cases op<;>rfl
theorem xF(op:BinOp)(t:TypeId)(x y:Operand)(a b:ByteArray):eqGuard op t x y (.string a) (.string b)=pure ():=by
 cases op<;>rfl
theorem w3{op:BinOp}{k:IntKind}{a b:Int}{p:PD}(f:op≠ .shl∧op≠ .shr)(t:TypeId)(h:ui op k a b=some (p,true)):
  ∃v,(binOp op t (.int k a) (.int k b)).run P w= .ok v w∧V S p v:=by
 cases op<;>simp only [ui,AD,AF,reduceCtorEq,and_true]at h
 case quo=>
  obtain⟨rfl,e⟩:=h
  have c:b≠0:=by simpa using e
  exact⟨.int k (k.wrap (a.tdiv b)),by simp [binOp,Op.intDiv,c],.int _ _⟩
 case rem=>
  obtain⟨rfl,e⟩:=h
  have c:b≠0:=by simpa using e
  exact⟨.int k (a.tmod b),by simp [binOp,Op.intDiv,c],.int _ _⟩
 case add=>subst h;exact⟨.int k (k.wrap (a+b)),by simp [binOp,Op.intArith],.int _ _⟩
 case sub=>subst h;exact⟨.int k (k.wrap (a-b)),by simp [binOp,Op.intArith],.int _ _⟩
 case mul=>subst h;exact⟨.int k (k.wrap (a*b)),by simp [binOp,Op.intArith],.int _ _⟩
 case and=>subst h;exact⟨.int k (andI k a b),by simp [binOp,Op.intBits,andI],.int _ _⟩
 case or=>subst h;exact⟨.int k (orI k a b),by simp [binOp,Op.intBits,orI],.int _ _⟩
 case xor=>subst h;exact⟨.int k (xorI k a b),by simp [binOp,Op.intBits,xorI],.int _ _⟩
 case andNot=>subst h;exact⟨.int k (wP k a b),by simp [binOp,Op.intBits,wP],.int _ _⟩
 all_goals (subst h;refine⟨.bool _,?_,.bool _⟩;simp [binOp,Op.intCmp])
theorem xX{op:BinOp}{k k':IntKind}{a b:Int}(t:TypeId)(f:0<=b)(c:op= .shl∨op= .shr):
  (binOp op t (.int k a) (.int k' b)).run P w= .ok (.int k (if op= .shl then pI k a b else mT k a b)) w:=by
 have e:¬b<0:=by omega
 rcases c with rfl|rfl<;>simp [binOp,Op.shift,e,pI,mT]
theorem xg{op:BinOp}{a b:List UInt8}{p:PD}(t:TypeId)(h:yM op a b=some (p,true)):
  ∃v,(binOp op t (.string ⟨a.toArray⟩) (.string ⟨b.toArray⟩)).run P w= .ok v w∧V S p v:=by
 cases op<;>simp only [yM,AD,AF,reduceCtorEq,and_true]at h
 case add=>
  obtain⟨rfl,e⟩:=h
  have c:a.length+b.length<=9223372036854775807:=by
   have:IntKind.i64.max=9223372036854775807:=by decide
   rw [this]at e
   have:=of_decide_eq_true e
   omega
  refine⟨.string ⟨(a++b).toArray⟩,?_,.str _⟩
  rw [binOp_string_add,run_string_add_sum (P:=P) w ⟨a.toArray⟩ ⟨b.toArray⟩ (by simpa [uX]using c),ByteArray.mk_append_mk]
 all_goals (subst h;refine⟨.bool _,?_,.bool _⟩;simp [binOp,Op.stringOp])
theorem xn{op:BinOp}{x y:RV}{p:PD}(t:TypeId)(m n:Operand){v1 v2:Value}(h:vg op x y=some (p,true))(h1:R S loc x v1)(i:R S loc y v2):
  ∃v,(do eqGuard op t m n v1 v2;binOp op t v1 v2:Sem Value).run P w= .ok v w∧V S p v:=by
 unfold vg at h
 split at h
 ·rename_i k a k' b
  have f:=h1.np
  have e2:=i.np
  subst f;subst e2
  by_cases c:op= .shl∨op= .shr
  ·rw [uG]
   simp only [pure_bind]
   have j:0<=b:=by
    rcases c with rfl|rfl<;>simp only [AD,AF]at h<;>exact of_decide_eq_true h.2
   have l:=xX (P:=P) (w:=w) (k:=k) (k':=k') (a:=a) t j c
   refine⟨_,l,?_⟩
   rcases c with rfl|rfl
   ·simp only [AD,AF]at h
    rw [<-h.1];exact .int _ _
   ·simp only [AD,AF]at h
    rw [<-h.1,if_neg sm];exact .int _ _
  have g:op≠ .shl∧op≠ .shr:=⟨fun e=>c (.inl e),fun e=>c (.inr e)⟩
  have hk:k=k'∧ui op k a b=some (p,true):=by
   cases op<;>simp_all
  obtain⟨rfl,hi⟩:=hk
  rw [uG]
  simp only [pure_bind]
  exact w3 g t hi
 ·rename_i a b
  have f:=h1.rC
  have e2:=i.rC
  subst f;subst e2
  rw [xF]
  simp only [pure_bind]
  exact xg t h
 ·cases h
theorem rr{o:Option (PD×Bool)}{b:nn}{x:RV×Ups}{r:List Nat}(h:rJ o b=some (x,r,true)):∃p,o=some (p,true)∧x=(.d p,[])∧r=[]:=by
 unfold rJ at h
 cases o with
 |none=>exact fE _ h
 |some t=>
  obtain⟨p,c⟩:=t
  obtain⟨rfl,rfl,rfl⟩:=M.mP h
  exact⟨p,rfl,rfl,rfl⟩
theorem mQ{v:RV}{b:nn}{x:RV×Ups}{r:List Nat}{c:Bool}(h:nG v b=some (x,r,c)):x=(v,[])∧r=[]∧c=true:=M.mJ h
theorem nk{v:RV}{b:nn}{x:RV×Ups}{r:List Nat}{k c:Bool}(h:nr k v b=some (x,r,c)):x=(v,[])∧r=[]∧c=k:=M.mP h
theorem R.si{cs:List RV}{v:Value}(h:R S loc (.agg cs) v):∃vs,v= .agg vs∧vs.size=cs.length∧∀(i:Nat)c u,cs[i]? =some c->vs[i]? =some u->R S loc c u:=by
 cases h with|agg cs vs a h=>exact⟨vs,rfl,a,h⟩
theorem R.vq{cs:List PD}{v:Value}(h:R S loc (.d (.agg cs)) v):∃vs,v= .agg vs∧vs.size=cs.length∧∀(i:Nat)c u,(cs.map RV.d)[i]? =some c->vs[i]? =some u->R S loc c u:=by
 cases h with
 |d h=>
  cases h with
  |agg cs vs e h=>
   refine⟨vs,rfl,e,fun i c u h1 b=>?_⟩
   rw [List.getElem?_map]at h1
   cases a:cs[i]? with
   |none=>simp [a]at h1
   |some p=>simp only [a,Option.map_some,AD]at h1;subst h1;exact .d (h i p u a b)
theorem rN{x:RV}{cs:List RV}{v:Value}(a:qF x=some cs)(h:R S loc x v):
  ∃vs,v= .agg vs∧vs.size=cs.length∧∀(i:Nat)c u,cs[i]? =some c->vs[i]? =some u->R S loc c u:=by
 unfold qF at a
 split at a<;>simp only [AD,reduceCtorEq]at a
 ·subst a;exact h.si
 ·subst a
  obtain⟨vs,h1,b,e⟩:=h.vq
  exact⟨vs,h1,by simpa using b,e⟩
theorem qV:∀{cs:List RV}{a:List PD},rO cs=some a->cs=a.map .d
 | [],a,h=>by simp only [rO,AD]at h;subst h;rfl
 | .d p::r,a,h=>by
  simp only [rO]at h
  cases b:rO r with
  |none=>simp [b]at h
  |some l=>
   simp only [b,AD]at h
   subst h
   rw [qV b];rfl
 | .undef::_,_,h| .junk::_,_,h| .cI::_,_,h| .agg _::_,_,h| .tup _::_,_,h| .ref _ _::_,_,h| .ptr _ _::_,_,h
 | .elt _ _ _ _::_,_,h| .cptr _::_,_,h| .view _ _ _ _::_,_,h| .clo _ _::_,_,h| .fview _ _ _::_,_,h=>by simp [rO]at h
theorem ql{cs:List RV}{vs:Array Value}(a:vs.size=cs.length)(h:∀(i:Nat)c u,cs[i]? =some c->vs[i]? =some u->R S loc c u):R S loc (xP cs) (.agg vs):=by
 unfold xP
 split
 ·rename_i f e
  have:=qV e
  subst this
  refine .d (.agg f vs (by simpa using a) fun i p v h1 b=>?_)
  have:=h i (.d p) v (by simp [h1]) b
  cases this with|d h=>exact h
 ·exact .agg cs vs a h
theorem pn(t:TypeId){d:TypeDesc}(a:P.underlying t=some d):(isAgg t).run P w= .ok (nv P t) w:=by
 simp only [isAgg,Sem.run_bind,run_underlying a,Result.andThen_ok,nv,a]
 cases d<;>rfl
theorem sg{t:TypeId}{n:Nat}(h:szT P t=some n):∃i,P.info? t=some i∧i.size=n:=by
 unfold szT at h
 cases hi:P.info? t with
 |none=>simp [hi]at h
 |some i=>simp only [hi,Option.map_some,AD]at h;exact⟨i,rfl,h⟩
theorem mV{t:TypeId}{n:Nat}(h:szT P t=some n):(sizeOf t).run P w= .ok n w:=by
 obtain⟨i,hi,rfl⟩:=sg h
 simp [sizeOf,typeInfo,hi]
end
end Go.Dw
