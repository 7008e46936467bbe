
import Derived.Test.YtfmoipelhfkdkaaGreatDoorDwRel
import Derived.Laws.Concat
import Derived.Laws.Cover1
import Derived.Lib.Strings
open List renaming append_assoc->DK
open Option.some renaming injEq->DJ
open Prod.mk renaming injEq->DL

namespace Go.Dw
section
variable {P:Program}{S:rP}{loc:ss}{w:World}
theorem NCR.one{c:NC}{v:Value}{b:List Nat}(h:NCR P S loc w c v b):v.oneCell'=true:=by
 cases h with
 |val rv v h h1=>exact h1
 |row e es sz v xs f how hf=>obtain⟨a,c,rfl,_⟩:=how.hdr;rfl
theorem NCR.lt{c:NC}{v:Value}{bs:List Nat}(h:NCR P S loc w c v bs){b:Nat}(f:b∈bs):b<w.heap.size:=by
 cases h with
 |val rv v h h1=>cases f
 |row e es sz v xs g how hf=>exact how.lt (by simpa using f)
theorem NCR.dE{S':rP}{loc':ss}{w':World}{c:NC}{v:Value}{bs:List Nat}(h:NCR P S loc w c v bs)(hs:Sub S S')(hl:rT loc loc')(j:∀b∈bs,w'.heap[b]? =w.heap[b]?):NCR P S' loc' w' c v bs:=by
 cases h with
 |val rv v h h1=>exact .val rv v (h.mono hs hl) h1
 |row e es sz v xs g how hf=>exact .row e es sz v xs g (how.dE fun b f=>j b (by simpa using f)) (hf.mono hs)
theorem NCs.len{cs:List NC}{vs:List Value}{bs:List Nat}(h:NCs P S loc w cs vs bs):cs.length=vs.length:=by
 induction h with
 |nil=>rfl
 |cons _ _ f=>simp [f]
theorem NCs.one{cs:List NC}{vs:List Value}{bs:List Nat}(h:NCs P S loc w cs vs bs):∀v∈vs,v.oneCell'=true:=by
 induction h with
 |nil=>intro v f;cases f
 |cons h _ g=>
  intro v f
  rcases List.mem_cons.1 f with rfl|f
  ·exact h.one
  ·exact g v f
theorem NCs.lt{cs:List NC}{vs:List Value}{bs:List Nat}(h:NCs P S loc w cs vs bs):∀b∈bs,b<w.heap.size:=by
 induction h with
 |nil=>intro b f;cases f
 |cons h _ g=>
  intro b f
  rcases List.mem_append.1 f with f|f
  ·exact h.lt f
  ·exact g b f
theorem NCs.dE{S':rP}{loc':ss}{w':World}{cs:List NC}{vs:List Value}{bs:List Nat}(h:NCs P S loc w cs vs bs)(hs:Sub S S')(hl:rT loc loc')(g:∀b∈bs,w'.heap[b]? =w.heap[b]?):NCs P S' loc' w' cs vs bs:=by
 induction h with
 |nil=>exact .nil
 |cons h _ j=>exact .cons (h.dE hs hl fun b f=>g b (List.mem_append.2 (.inl f))) (j fun b f=>g b (List.mem_append.2 (.inr f)))
theorem NCs.append{cs g:List NC}{vs j:List Value}{bs f:List Nat}(h:NCs P S loc w cs vs bs)(k:NCs P S loc w g j f):NCs P S loc w (cs++g) (vs++j) (bs++f):=by
 induction h with
 |nil=>exact k
 |cons h _ q=>rw [DK];exact .cons h q
theorem NCs.split{cs:List NC}{vs:List Value}{bs:List Nat}(h:NCs P S loc w cs vs bs):∀{i:Nat}{c:NC},cs[i]? =some c->
  ∃v b f bs2,bs=f++(b++bs2)∧vs[i]? =some v∧NCR P S loc w c v b∧∀g v' b',NCR P S loc w g v' b'->NCs P S loc w (cs.set i g) (vs.set i v') (f++(b'++bs2)):=by
 induction h with
 |nil=>intro i c hc;simp at hc
 | @cons G v0 u j k r h t F=>
  intro i c hc
  cases i with
  |zero=>
   simp only [List.getElem?_cons_zero,DJ]at hc
   subst hc
   exact⟨v0,u,[],j,rfl,rfl,h,fun g v' b' q=>(NCs.cons q t:NCs P S loc w (g::k) (v'::r) (b'++j))⟩
  |succ i=>
   obtain⟨v,b,f,bs2,h1,C,D,E⟩:=F (i:=i) (by simpa using hc)
   refine⟨v,b,u++f,bs2,by rw [h1,DK],by simpa using C,D,fun g v' b' q=>?_⟩
   rw [DK]
   exact .cons h (E g v' b' q)
theorem xy{α:Type}{l:List α}{i:Nat}{x:α}(h:l[i]? =some x):l.set i x=l:=by
 apply List.ext_getElem?
 intro j
 rw [List.getElem?_set]
 by_cases f:i=j
 ·subst f
  rw [if_pos rfl,h,if_pos (List.getElem?_eq_some_iff.1 h).1]
 ·rw [if_neg f]
theorem ncs_none{e2:TypeId}{ess:List (List PD)}{i:Nat}{es:List PD}(h:ess[i]? =some es):(ncs e2 ess none)[i]? =some (.row e2 es):=by simp [ncs,h]
theorem AH{e2:TypeId}{ess:List (List PD)}{i:Nat}{rv:RV}(h:i<ess.length):(ncs e2 ess (some (i,rv)))[i]? =some (.val rv):=by
 simp [ncs,h]
theorem AG(e2:TypeId)(ess:List (List PD))(h:Option (Nat×RV)):(ncs e2 ess h).length=ess.length:=by
 rcases h with _|⟨i,rv⟩<;>simp [ncs]
theorem xq(e2:TypeId)(ess:List (List PD))(h:Option (Nat×RV))(i:Nat)(rv:RV)(f:∀j r,h=some (j,r)->i=j):(ncs e2 ess h).set i (.val rv)=ncs e2 ess (some (i,rv)):=by
 rcases h with _|⟨j,r⟩
 ·rfl
 ·obtain rfl:=f j r rfl
  simp [ncs]
theorem Cg(e2:TypeId)(ess:List (List PD))(i:Nat)(rv:RV)(es:List PD):(ncs e2 ess (some (i,rv))).set i (.row e2 es)=ncs e2 (ess.set i es) none:=by
 simp [ncs,List.map_set]
theorem NCs.reval{e2:TypeId}{ess:List (List PD)}{j:Nat}{rv f:RV}{xs:List Value}{bs:List Nat}{v:Value}(h:NCs P S loc w (ncs e2 ess (some (j,rv))) xs bs)(C:j<ess.length)(k:xs[j]? =some v)(D:R S loc f v)(h1:v.oneCell'=true):
  NCs P S loc w (ncs e2 ess (some (j,f))) xs bs:=by
 obtain⟨v0,b,q,bs2,rfl,g,r,u⟩:=h.split (AH (e2:=e2) (rv:=rv) C)
 rw [k]at g
 cases g
 cases r with
 |val _ _ _ _=>
  have:=u (.val f) v [] (.val f v D h1)
  rw [xq e2 ess _ j f (fun _ _ e=>by cases e;rfl),xy k]at this
  exact this
end
end Go.Dw
namespace Go.Dw
section
variable {P:Program}{S:rP}{loc:ss}{w:World}
theorem R.sk{k:IntKind}{n:Int}{v:Value}(h:R S loc (.d (.int k n)) v):v= .int k n:=by
 cases h with|d h=>cases h;rfl
theorem R.uX{b:Bool}{v:Value}(h:R S loc (.d (.bool b)) v):v= .bool b:=by
 cases h with|d h=>cases h;rfl
theorem R.wU{s:List UInt8}{v:Value}(h:R S loc (.d (.str s)) v):v= .string ⟨s.toArray⟩:=by
 cases h with|d h=>cases h;rfl
theorem R.raw_inv{u v:Value}(h:R S loc (.d (.raw u)) v):v=u:=by
 cases h with|d h=>cases h;rfl
theorem R.DH{v:Value}(h:R S loc .undef v):v=Go.undef:=by cases h;rfl
theorem R.wN{es:List PD}{v:Value}(h:R S loc (.d (.lst es)) v):V S (.lst es) v:=by
 cases h with|d h=>exact h
theorem zQ(l:List UInt8):(ByteArray.mk l.toArray).size=l.length:=by simp [ByteArray.size]
theorem zr(op:BinOp)(t:TypeId)(x y:Operand)(k k':IntKind)(a b:Int):eqGuard op t x y (.int k a) (.int k' b)=pure ():=by
 cases op<;>rfl
theorem B7(op:BinOp)(t:TypeId)(x y:Operand)(a b:ByteArray):eqGuard op t x y (.string a) (.string b)=pure ():=by
 cases op<;>rfl
theorem Bv{op:BinOp}{k:IntKind}{a b:Int}{p:PD}(j:op≠ .shl∧op≠ .shr)(t:TypeId)(h:yU op k a b=some (p,true)):
  ∃v,(binOp op t (.int k a) (.int k b)).run P w= .ok v w∧V S p v:=by
 cases op<;>simp only [yU,DJ,DL,reduceCtorEq,and_true]at h
 case quo=>
  obtain⟨rfl,g⟩:=h
  have f:b≠0:=by simpa using g
  exact⟨.int k (k.wrap (a.tdiv b)),by simp [binOp,Op.intDiv,f],.int _ _⟩
 case rem=>
  obtain⟨rfl,g⟩:=h
  have f:b≠0:=by simpa using g
  exact⟨.int k (a.tmod b),by simp [binOp,Op.intDiv,f],.int _ _⟩
 case add=>subst h;exact⟨.int k (k.wrap (a+b)),by simp [binOp,Op.intArith],.int _ _⟩
 case sub=>subst h;exact⟨.int k (k.wrap (a-b)),by simp [binOp,Op.intArith],.int _ _⟩
 case mul=>subst h;exact⟨.int k (k.wrap (a*b)),by simp [binOp,Op.intArith],.int _ _⟩
 case and=>subst h;exact⟨.int k (andI k a b),by simp [binOp,Op.intBits,andI],.int _ _⟩
 case or=>subst h;exact⟨.int k (orI k a b),by simp [binOp,Op.intBits,orI],.int _ _⟩
 case xor=>subst h;exact⟨.int k (xorI k a b),by simp [binOp,Op.intBits,xorI],.int _ _⟩
 case andNot=>subst h;exact⟨.int k (Bj k a b),by simp [binOp,Op.intBits,Bj],.int _ _⟩
 all_goals (subst h;refine⟨.bool _,?_,.bool _⟩;simp [binOp,Op.intCmp])
theorem Cn{op:BinOp}{k k':IntKind}{a b:Int}(t:TypeId)(j:0<=b)(f:op= .shl∨op= .shr):
  (binOp op t (.int k a) (.int k' b)).run P w= .ok (.int k (if op= .shl then shlI k a b else sl k a b)) w:=by
 have g:¬b<0:=by omega
 rcases f with rfl|rfl<;>simp [binOp,Op.shift,g,shlI,sl]
theorem BH{op:BinOp}{a b:List UInt8}{p:PD}(t:TypeId)(h:BG op a b=some (p,true)):
  ∃v,(binOp op t (.string ⟨a.toArray⟩) (.string ⟨b.toArray⟩)).run P w= .ok v w∧V S p v:=by
 cases op<;>simp only [BG,DJ,DL,reduceCtorEq,and_true]at h
 case add=>
  obtain⟨rfl,g⟩:=h
  have f:a.length+b.length<=9223372036854775807:=by
   have:IntKind.i64.max=9223372036854775807:=by decide
   rw [this]at g
   have:=of_decide_eq_true g
   omega
  refine⟨.string ⟨(a++b).toArray⟩,?_,.str _⟩
  rw [binOp_string_add,run_string_add_sum (P:=P) w ⟨a.toArray⟩ ⟨b.toArray⟩ (by simpa [zQ]using f),ByteArray.mk_append_mk]
 all_goals (subst h;refine⟨.bool _,?_,.bool _⟩;simp [binOp,Op.stringOp])
theorem BP{op:BinOp}{x y:RV}{p:PD}(t:TypeId)(C D:Operand){v1 v2:Value}(h:yo op x y=some (p,true))(h1:R S loc x v1)(q:R S loc y v2):
  ∃v,(do eqGuard op t C D v1 v2;binOp op t v1 v2:Sem Value).run P w= .ok v w∧V S p v:=by
 unfold yo at h
 split at h
 ·rename_i k a k' b
  have g:=h1.sk
  have e2:=q.sk
  subst g;subst e2
  by_cases f:op= .shl∨op= .shr
  ·rw [zr]
   simp only [pure_bind]
   have r:0<=b:=by
    rcases f with rfl|rfl<;>simp only [DJ,DL]at h<;>exact of_decide_eq_true h.2
   have u:=Cn (P:=P) (w:=w) (k:=k) (k':=k') (a:=a) t r f
   refine⟨_,u,?_⟩
   rcases f with rfl|rfl
   ·simp only [DJ,DL]at h
    rw [<-h.1];exact .int _ _
   ·simp only [DJ,DL]at h
    rw [<-h.1,if_neg zc];exact .int _ _
  have j:op≠ .shl∧op≠ .shr:=⟨fun e=>f (.inl e),fun e=>f (.inr e)⟩
  have hk:k=k'∧yU op k a b=some (p,true):=by
   cases op<;>simp_all
  obtain⟨rfl,hi⟩:=hk
  rw [zr]
  simp only [pure_bind]
  exact Bv j t hi
 ·rename_i a b
  have g:=h1.wU
  have e2:=q.wU
  subst g;subst e2
  rw [B7]
  simp only [pure_bind]
  exact BH t h
 ·cases h
theorem wO{o:Option (PD×Bool)}{b:sj}{x:RV×Ups}{r:List Nat}(h:wZ o b=some (x,r,true)):∃p,o=some (p,true)∧x=(.d p,[])∧r=[]:=by
 unfold wZ at h
 cases o with
 |none=>exact fE _ h
 |some t=>
  obtain⟨p,c⟩:=t
  obtain⟨rfl,rfl,rfl⟩:=M.rE h
  exact⟨p,rfl,rfl,rfl⟩
theorem rH{v:RV}{b:sj}{x:RV×Ups}{r:List Nat}{c:Bool}(h:sQ v b=some (x,r,c)):x=(v,[])∧r=[]∧c=true:=M.pZ h
theorem sd{v:RV}{b:sj}{x:RV×Ups}{r:List Nat}{k c:Bool}(h:se k v b=some (x,r,c)):x=(v,[])∧r=[]∧c=k:=M.rE h
theorem R.xB{cs:List RV}{v:Value}(h:R S loc (.agg cs) v):∃vs,v= .agg vs∧vs.size=cs.length∧∀(i:Nat)c u,cs[i]? =some c->vs[i]? =some u->R S loc c u:=by
 cases h with|agg cs vs hl h=>exact⟨vs,rfl,hl,h⟩
theorem R.Ag{cs:List PD}{v:Value}(h:R S loc (.d (.agg cs)) v):∃vs,v= .agg vs∧vs.size=cs.length∧∀(i:Nat)c u,(cs.map RV.d)[i]? =some c->vs[i]? =some u->R S loc c u:=by
 cases h with
 |d h=>
  cases h with
  |agg cs vs hl h=>
   refine⟨vs,rfl,hl,fun i c u h1 f=>?_⟩
   rw [List.getElem?_map]at h1
   cases hc:cs[i]? with
   |none=>simp [hc]at h1
   |some p=>simp only [hc,Option.map_some,DJ]at h1;subst h1;exact .d (h i p u hc f)
theorem w8{x:RV}{cs:List RV}{v:Value}(f:wg x=some cs)(h:R S loc x v):
  ∃vs,v= .agg vs∧vs.size=cs.length∧∀(i:Nat)c u,cs[i]? =some c->vs[i]? =some u->R S loc c u:=by
 unfold wg at f
 split at f<;>simp only [DJ,reduceCtorEq]at f
 ·subst f;exact h.xB
 ·subst f
  obtain⟨vs,h1,g,j⟩:=h.Ag
  exact⟨vs,h1,by simpa using g,j⟩
theorem wy:∀{cs:List RV}{ps:List PD},w9 cs=some ps->cs=ps.map .d
 | [],ps,h=>by simp only [w9,DJ]at h;subst h;rfl
 | .d p::r,ps,h=>by
  simp only [w9]at h
  cases hl:w9 r with
  |none=>simp [hl]at h
  |some l=>
   simp only [hl,DJ]at h
   subst h
   rw [wy hl];rfl
 | .undef::_,_,h| .junk::_,_,h| .rm::_,_,h| .agg _::_,_,h| .tup _::_,_,h| .ref _ _::_,_,h| .ptr _ _::_,_,h
 | .elt _ _ _ _::_,_,h| .cptr _::_,_,h| .view _ _ _ _::_,_,h| .clo _ _::_,_,h| .fview _ _ _::_,_,h=>by simp [w9]at h
theorem vR{cs:List RV}{vs:Array Value}(hl:vs.size=cs.length)(h:∀(i:Nat)c u,cs[i]? =some c->vs[i]? =some u->R S loc c u):R S loc (A9 cs) (.agg vs):=by
 unfold A9
 split
 ·rename_i ps hp
  have:=wy hp
  subst this
  refine .d (.agg ps vs (by simpa using hl) fun i p v h1 f=>?_)
  have:=h i (.d p) v (by simp [h1]) f
  cases this with|d h=>exact h
 ·exact .agg cs vs hl h
theorem uP(t:TypeId){d:TypeDesc}(f:P.underlying t=some d):(isAgg t).run P w= .ok (sw P t) w:=by
 simp only [isAgg,Sem.run_bind,run_underlying f,Result.andThen_ok,sw,f]
 cases d<;>rfl
theorem xz{t:TypeId}{n:Nat}(h:szT P t=some n):∃i,P.info? t=some i∧i.size=n:=by
 unfold szT at h
 cases hi:P.info? t with
 |none=>simp [hi]at h
 |some i=>simp only [hi,Option.map_some,DJ]at h;exact⟨i,rfl,h⟩
theorem rQ{t:TypeId}{n:Nat}(h:szT P t=some n):(sizeOf t).run P w= .ok n w:=by
 obtain⟨i,hi,rfl⟩:=xz h
 simp [sizeOf,typeInfo,hi]
end
end Go.Dw
