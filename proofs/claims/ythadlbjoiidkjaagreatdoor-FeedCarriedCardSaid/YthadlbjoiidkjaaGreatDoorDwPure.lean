
import Derived.Test.YthadlbjoiidkjaaGreatDoorDwNc
import Derived.Laws.Concat
import Derived.Laws.Cover1
import Derived.Lib.Strings

namespace Go.Dw
section
variable {P:Program}{S:pR}{loc:qe}{w:World}
theorem R.p9{k:IntKind}{n:Int}{v:Value}(h:R S loc (.d (.int k n)) v):v= .int k n:=by
 cases h with|d h=>cases h;rfl
theorem R.sW{b:Bool}{v:Value}(h:R S loc (.d (.bool b)) v):v= .bool b:=by
 cases h with|d h=>cases h;rfl
theorem R.uM{s:List UInt8}{v:Value}(h:R S loc (.d (.str s)) v):v= .string ⟨s.toArray⟩:=by
 cases h with|d h=>cases h;rfl
theorem R.raw_inv{u v:Value}(h:R S loc (.d (.raw u)) v):v=u:=by
 cases h with|d h=>cases h;rfl
theorem R.BS{v:Value}(h:R S loc .undef v):v=Go.undef:=by cases h;rfl
theorem R.uG{es:List PD}{v:Value}(h:R S loc (.d (.lst es)) v):V S (.lst es) v:=by
 cases h with|d h=>exact h
theorem xO(l:List UInt8):(ByteArray.mk l.toArray).size=l.length:=by simp [ByteArray.size]
theorem xp(op:BinOp)(t:TypeId)(x y:Operand)(k k':IntKind)(a b:Int):eqGuard op t x y (.int k a) (.int k' b)=pure ():=by
 cases op<;>rfl
theorem Ad(op:BinOp)(t:TypeId)(x y:Operand)(a b:ByteArray):eqGuard op t x y (.string a) (.string b)=pure ():=by
 cases op<;>rfl
theorem zu{op:BinOp}{k:IntKind}{a b:Int}{p:PD}(hop:op≠ .shl∧op≠ .shr)(t:TypeId)(h:w6 op k a b=some (p,true)):
  ∃v,(binOp op t (.int k a) (.int k b)).run P w= .ok v w∧V S p v:=by
 cases op<;>simp only [w6,Option.some.injEq,Prod.mk.injEq,reduceCtorEq,and_true]at h
 case quo=>
  obtain⟨rfl,hb⟩:=h
  have hb':b≠0:=by simpa using hb
  exact⟨.int k (k.wrap (a.tdiv b)),by simp [binOp,Op.intDiv,hb'],.int _ _⟩
 case rem=>
  obtain⟨rfl,hb⟩:=h
  have hb':b≠0:=by simpa using hb
  exact⟨.int k (a.tmod b),by simp [binOp,Op.intDiv,hb'],.int _ _⟩
 case add=>subst h;exact⟨.int k (k.wrap (a+b)),by simp [binOp,Op.intArith],.int _ _⟩
 case sub=>subst h;exact⟨.int k (k.wrap (a-b)),by simp [binOp,Op.intArith],.int _ _⟩
 case mul=>subst h;exact⟨.int k (k.wrap (a*b)),by simp [binOp,Op.intArith],.int _ _⟩
 case and=>subst h;exact⟨.int k (sQ k a b),by simp [binOp,Op.intBits,sQ],.int _ _⟩
 case or=>subst h;exact⟨.int k (orI k a b),by simp [binOp,Op.intBits,orI],.int _ _⟩
 case xor=>subst h;exact⟨.int k (qV k a b),by simp [binOp,Op.intBits,qV],.int _ _⟩
 case andNot=>subst h;exact⟨.int k (zj k a b),by simp [binOp,Op.intBits,zj],.int _ _⟩
 all_goals (subst h;refine⟨.bool _,?_,.bool _⟩;simp [binOp,Op.intCmp])
theorem Aw{op:BinOp}{k k':IntKind}{a b:Int}(t:TypeId)(h0:0<=b)(hop:op= .shl∨op= .shr):
  (binOp op t (.int k a) (.int k' b)).run P w= .ok (.int k (if op= .shl then xJ k a b else pY k a b)) w:=by
 have hb:¬b<0:=by omega
 rcases hop with rfl|rfl<;>simp [binOp,Op.shift,hb,xJ,pY]
theorem zL{op:BinOp}{a b:List UInt8}{p:PD}(t:TypeId)(h:zK op a b=some (p,true)):
  ∃v,(binOp op t (.string ⟨a.toArray⟩) (.string ⟨b.toArray⟩)).run P w= .ok v w∧V S p v:=by
 cases op<;>simp only [zK,Option.some.injEq,Prod.mk.injEq,reduceCtorEq,and_true]at h
 case add=>
  obtain⟨rfl,hb⟩:=h
  have hb':a.length+b.length<=9223372036854775807:=by
   have:IntKind.i64.max=9223372036854775807:=by decide
   rw [this]at hb
   have:=of_decide_eq_true hb
   omega
  refine⟨.string ⟨(a++b).toArray⟩,?_,.str _⟩
  rw [binOp_string_add,run_string_add_sum (P:=P) w ⟨a.toArray⟩ ⟨b.toArray⟩ (by simpa [xO]using hb'),ByteArray.mk_append_mk]
 all_goals (subst h;refine⟨.bool _,?_,.bool _⟩;simp [binOp,Op.stringOp])
theorem zV{op:BinOp}{x y:RV}{p:PD}(t:TypeId)(ox oy:Operand){v1 v2:Value}(h:xm op x y=some (p,true))(h1:R S loc x v1)(h2:R S loc y v2):
  ∃v,(do eqGuard op t ox oy v1 v2;binOp op t v1 v2:Sem Value).run P w= .ok v w∧V S p v:=by
 unfold xm at h
 split at h
 ·rename_i k a k' b
  have e1:=h1.p9
  have e2:=h2.p9
  subst e1;subst e2
  by_cases hsh:op= .shl∨op= .shr
  ·rw [xp]
   simp only [pure_bind]
   have h0:0<=b:=by
    rcases hsh with rfl|rfl<;>simp only [Option.some.injEq,Prod.mk.injEq]at h<;>exact of_decide_eq_true h.2
   have hr:=Aw (P:=P) (w:=w) (k:=k) (k':=k') (a:=a) t h0 hsh
   refine⟨_,hr,?_⟩
   rcases hsh with rfl|rfl
   ·simp only [Option.some.injEq,Prod.mk.injEq]at h
    rw [<-h.1];exact .int _ _
   ·simp only [Option.some.injEq,Prod.mk.injEq]at h
    rw [<-h.1,if_neg sm];exact .int _ _
  have hop:op≠ .shl∧op≠ .shr:=⟨fun e=>hsh (.inl e),fun e=>hsh (.inr e)⟩
  have hk:k=k'∧w6 op k a b=some (p,true):=by
   cases op<;>simp_all
  obtain⟨rfl,hi⟩:=hk
  rw [xp]
  simp only [pure_bind]
  exact zu hop t hi
 ·rename_i a b
  have e1:=h1.uM
  have e2:=h2.uM
  subst e1;subst e2
  rw [Ad]
  simp only [pure_bind]
  exact zL t h
 ·cases h
theorem uI{o:Option (PD×Bool)}{b:p8}{x:RV×Ups}{r:List Nat}(h:uQ o b=some (x,r,true)):∃p,o=some (p,true)∧x=(.d p,[])∧r=[]:=by
 unfold uQ at h
 cases o with
 |none=>exact fE _ h
 |some t=>
  obtain⟨p,c⟩:=t
  obtain⟨rfl,rfl,rfl⟩:=M.pN h
  exact⟨p,rfl,rfl,rfl⟩
theorem pQ{v:RV}{b:p8}{x:RV×Ups}{r:List Nat}{c:Bool}(h:qu v b=some (x,r,c)):x=(v,[])∧r=[]∧c=true:=M.pK h
theorem qi{v:RV}{b:p8}{x:RV×Ups}{r:List Nat}{k c:Bool}(h:qj k v b=some (x,r,c)):x=(v,[])∧r=[]∧c=k:=M.pN h
theorem R.vr{cs:List RV}{v:Value}(h:R S loc (.agg cs) v):∃vs,v= .agg vs∧vs.size=cs.length∧∀(i:Nat)c u,cs[i]? =some c->vs[i]? =some u->R S loc c u:=by
 cases h with|agg cs vs hl h=>exact⟨vs,rfl,hl,h⟩
theorem R.yb{cs:List PD}{v:Value}(h:R S loc (.d (.agg cs)) v):∃vs,v= .agg vs∧vs.size=cs.length∧∀(i:Nat)c u,(cs.map RV.d)[i]? =some c->vs[i]? =some u->R S loc c u:=by
 cases h with
 |d h=>
  cases h with
  |agg cs vs hl h=>
   refine⟨vs,rfl,hl,fun i c u h1 h2=>?_⟩
   rw [List.getElem?_map]at h1
   cases hc:cs[i]? with
   |none=>simp [hc]at h1
   |some p=>simp only [hc,Option.map_some,Option.some.injEq]at h1;subst h1;exact .d (h i p u hc h2)
theorem uW{x:RV}{cs:List RV}{v:Value}(hx:ug x=some cs)(h:R S loc x v):
  ∃vs,v= .agg vs∧vs.size=cs.length∧∀(i:Nat)c u,cs[i]? =some c->vs[i]? =some u->R S loc c u:=by
 unfold ug at hx
 split at hx<;>simp only [Option.some.injEq,reduceCtorEq]at hx
 ·subst hx;exact h.vr
 ·subst hx
  obtain⟨vs,h1,h2,h3⟩:=h.yb
  exact⟨vs,h1,by simpa using h2,h3⟩
theorem uq:∀{cs:List RV}{ps:List PD},uh cs=some ps->cs=ps.map .d
 | [],ps,h=>by simp only [uh,Option.some.injEq]at h;subst h;rfl
 | .d p::r,ps,h=>by
  simp only [uh]at h
  cases hl:uh r with
  |none=>simp [hl]at h
  |some l=>
   simp only [hl,Option.some.injEq]at h
   subst h
   rw [uq hl];rfl
 | .undef::_,_,h| .junk::_,_,h| .mo::_,_,h| .agg _::_,_,h| .tup _::_,_,h| .ref _ _::_,_,h| .ptr _ _::_,_,h
 | .elt _ _ _ _::_,_,h| .cptr _::_,_,h| .view _ _ _ _::_,_,h| .clo _ _::_,_,h| .fview _ _ _::_,_,h=>by simp [uh]at h
theorem tP{cs:List RV}{vs:Array Value}(hl:vs.size=cs.length)(h:∀(i:Nat)c u,cs[i]? =some c->vs[i]? =some u->R S loc c u):R S loc (yY cs) (.agg vs):=by
 unfold yY
 split
 ·rename_i ps hp
  have:=uq hp
  subst this
  refine .d (.agg ps vs (by simpa using hl) fun i p v h1 h2=>?_)
  have:=h i (.d p) v (by simp [h1]) h2
  cases this with|d h=>exact h
 ·exact .agg cs vs hl h
theorem sq(t:TypeId){d:TypeDesc}(hd:P.underlying t=some d):(isAgg t).run P w= .ok (qg P t) w:=by
 simp only [isAgg,Sem.run_bind,run_underlying hd,Result.andThen_ok,qg,hd]
 cases d<;>rfl
theorem vp{t:TypeId}{n:Nat}(h:szT P t=some n):∃i,P.info? t=some i∧i.size=n:=by
 unfold szT at h
 cases hi:P.info? t with
 |none=>simp [hi]at h
 |some i=>simp only [hi,Option.map_some,Option.some.injEq]at h;exact⟨i,rfl,h⟩
theorem pS{t:TypeId}{n:Nat}(h:szT P t=some n):(sizeOf t).run P w= .ok n w:=by
 obtain⟨i,hi,rfl⟩:=vp h
 simp [sizeOf,typeInfo,hi]
end
end Go.Dw
