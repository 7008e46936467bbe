
import Derived.Test.YthkfkgoddhehcaaGreatDwRel
import Derived.Laws.Concat
import Derived.Laws.Cover1
import Derived.Lib.Strings
open List renaming append_assoc->ED
open Option.some renaming injEq->EC
open Prod.mk renaming injEq->EE

namespace Go.Dw
section
variable {P:Program}{S:tG}{loc:ui}{w:World}
theorem NCR.one{c:NC}{v:Value}{b:List Nat}(h:NCR P S loc w c v b):v.oneCell'=true:=by
 cases h with
 |val rv v h h1=>exact h1
 |row e es sz v xs f how hf=>obtain⟨a,c,rfl,_⟩:=how.hdr;rfl
theorem NCR.lt{c:NC}{v:Value}{bs:List Nat}(h:NCR P S loc w c v bs){b:Nat}(a:b∈bs):b<w.heap.size:=by
 cases h with
 |val rv v h h1=>cases a
 |row e es sz v xs f how hf=>exact how.lt (by simpa using a)
theorem NCR.j0{S':tG}{loc':ui}{w':World}{c:NC}{v:Value}{bs:List Nat}(h:NCR P S loc w c v bs)(hs:Sub S S')(j:tO loc loc')(g:∀b∈bs,w'.heap[b]? =w.heap[b]?):NCR P S' loc' w' c v bs:=by
 cases h with
 |val rv v h h1=>exact .val rv v (h.mono hs j) h1
 |row e es sz v xs f how hf=>exact .row e es sz v xs f (how.j0 λb a=>g b (by simpa using a)) (hf.mono hs)
theorem NCs.len{cs:List NC}{vs:List Value}{bs:List Nat}(h:NCs P S loc w cs vs bs):cs.length=vs.length:=by
 induction h with
 |nil=>rfl
 |cons _ _ a=>simp [a]
theorem NCs.one{cs:List NC}{vs:List Value}{bs:List Nat}(h:NCs P S loc w cs vs bs):∀v∈vs,v.oneCell'=true:=by
 induction h with
 |nil=>intro v a;cases a
 |cons h _ c=>
  intro v a
  rcases List.mem_cons.1 a with rfl|a
  ·exact h.one
  ·exact c v a
theorem NCs.lt{cs:List NC}{vs:List Value}{bs:List Nat}(h:NCs P S loc w cs vs bs):∀b∈bs,b<w.heap.size:=by
 induction h with
 |nil=>intro b a;cases a
 |cons h _ c=>
  intro b a
  rcases List.mem_append.1 a with a|a
  ·exact h.lt a
  ·exact c b a
theorem NCs.j0{S':tG}{loc':ui}{w':World}{cs:List NC}{vs:List Value}{bs:List Nat}(h:NCs P S loc w cs vs bs)(hs:Sub S S')(f:tO loc loc')(c:∀b∈bs,w'.heap[b]? =w.heap[b]?):NCs P S' loc' w' cs vs bs:=by
 induction h with
 |nil=>exact .nil
 |cons h _ g=>exact .cons (h.j0 hs f λb a=>c b (List.mem_append.2 (.inl a))) (g λb a=>c b (List.mem_append.2 (.inr a)))
theorem NCs.append{cs c:List NC}{vs f:List Value}{bs a:List Nat}(h:NCs P S loc w cs vs bs)(g:NCs P S loc w c f a):NCs P S loc w (cs++c) (vs++f) (bs++a):=by
 induction h with
 |nil=>exact g
 |cons h _ j=>rw [ED];exact .cons h j
theorem NCs.split{cs:List NC}{vs:List Value}{bs:List Nat}(h:NCs P S loc w cs vs bs):∀{i:Nat}{c:NC},cs[i]? =some c->
  ∃v b a bs2,bs=a++(b++bs2)∧vs[i]? =some v∧NCR P S loc w c v b∧∀f v' b',NCR P S loc w f v' b'->NCs P S loc w (cs.set i f) (vs.set i v') (a++(b'++bs2)):=by
 induction h with
 |nil=>intro i c hc;simp at hc
 | @cons y v0 p g j l h t x=>
  intro i c hc
  cases i with
  |zero=>
   simp only [List.getElem?_cons_zero,EC]at hc
   subst hc
   exact⟨v0,p,[],g,rfl,rfl,h,λf v' b' k=>(NCs.cons k t:NCs P S loc w (f::j) (v'::l) (b'++g))⟩
  |succ i=>
   obtain⟨v,b,a,bs2,h1,q,r,u⟩:=x (i:=i) (by simpa using hc)
   refine⟨v,b,p++a,bs2,by rw [h1,ED],by simpa using q,r,λf v' b' k=>?_⟩
   rw [ED]
   exact .cons h (u f v' b' k)
theorem yH{α:Type}{l:List α}{i:Nat}{x:α}(h:l[i]? =some x):l.set i x=l:=by
 apply List.ext_getElem?
 intro j
 rw [List.getElem?_set]
 by_cases a:i=j
 ·subst a
  rw [if_pos rfl,h,if_pos (List.getElem?_eq_some_iff.1 h).1]
 ·rw [if_neg a]
theorem ncs_none{e2:TypeId}{ess:List (List PD)}{i:Nat}{es:List PD}(h:ess[i]? =some es):(ncs e2 ess none)[i]? =some (.row e2 es):=by simp [ncs,h]
theorem Bw{e2:TypeId}{ess:List (List PD)}{i:Nat}{rv:RV}(h:i<ess.length):(ncs e2 ess (some (i,rv)))[i]? =some (.val rv):=by
 simp [ncs,h]
theorem Bv(e2:TypeId)(ess:List (List PD))(h:Option (Nat×RV)):(ncs e2 ess h).length=ess.length:=by
 rcases h with _|⟨i,rv⟩<;>simp [ncs]
theorem yA(e2:TypeId)(ess:List (List PD))(h:Option (Nat×RV))(i:Nat)(rv:RV)(a:∀j r,h=some (j,r)->i=j):(ncs e2 ess h).set i (.val rv)=ncs e2 ess (some (i,rv)):=by
 rcases h with _|⟨j,r⟩
 ·rfl
 ·obtain rfl:=a j r rfl
  simp [ncs]
theorem CX(e2:TypeId)(ess:List (List PD))(i:Nat)(rv:RV)(es:List PD):(ncs e2 ess (some (i,rv))).set i (.row e2 es)=ncs e2 (ess.set i es) none:=by
 simp [ncs,List.map_set]
theorem NCs.reval{e2:TypeId}{ess:List (List PD)}{j:Nat}{rv a:RV}{xs:List Value}{bs:List Nat}{v:Value}(h:NCs P S loc w (ncs e2 ess (some (j,rv))) xs bs)(p:j<ess.length)(f:xs[j]? =some v)(q:R S loc a v)(h1:v.oneCell'=true):
  NCs P S loc w (ncs e2 ess (some (j,a))) xs bs:=by
 obtain⟨v0,b,g,bs2,rfl,c,k,l⟩:=h.split (Bw (e2:=e2) (rv:=rv) p)
 rw [f]at c
 cases c
 cases k with
 |val _ _ _ _=>
  have:=l (.val a) v [] (.val a v q h1)
  rw [yA e2 ess _ j a (λ_ _ e=>by cases e;rfl),yH f]at this
  exact this
end
end Go.Dw
namespace Go.Dw
section
variable {P:Program}{S:tG}{loc:ui}{w:World}
theorem R.uo{k:IntKind}{n:Int}{v:Value}(h:R S loc (.d (.int k n)) v):v= .int k n:=by
 cases h with|d h=>cases h;rfl
theorem R.wI{b:Bool}{v:Value}(h:R S loc (.d (.bool b)) v):v= .bool b:=by
 cases h with|d h=>cases h;rfl
theorem R.xZ{s:List UInt8}{v:Value}(h:R S loc (.d (.str s)) v):v= .string ⟨s.toArray⟩:=by
 cases h with|d h=>cases h;rfl
theorem R.raw_inv{u v:Value}(h:R S loc (.d (.raw u)) v):v=u:=by
 cases h with|d h=>cases h;rfl
theorem R.Ew{v:Value}(h:R S loc .undef v):v=Go.undef:=by cases h;rfl
theorem R.xT{es:List PD}{v:Value}(h:R S loc (.d (.lst es)) v):V S (.lst es) v:=by
 cases h with|d h=>exact h
theorem A2(l:List UInt8):(ByteArray.mk l.toArray).size=l.length:=by simp [ByteArray.size]
theorem AH(op:BinOp)(t:TypeId)(x y:Operand)(k k':IntKind)(a b:Int):eqGuard op t x y (.int k a) (.int k' b)=pure ():=by
 cases op<;>rfl
theorem CR(op:BinOp)(t:TypeId)(x y:Operand)(a b:ByteArray):eqGuard op t x y (.string a) (.string b)=pure ():=by
 cases op<;>rfl
theorem Ck{op:BinOp}{k:IntKind}{a b:Int}{p:PD}(g:op≠ .shl∧op≠ .shr)(t:TypeId)(h:Aq op k a b=some (p,true)):
  ∃v,(binOp op t (.int k a) (.int k b)).run P w= .ok v w∧V S p v:=by
 cases op<;>simp only [Aq,EC,EE,reduceCtorEq,and_true]at h
 case quo=>
  obtain⟨rfl,f⟩:=h
  have c:b≠0:=by simpa using f
  exact⟨.int k (k.wrap (a.tdiv b)),by simp [binOp,Op.intDiv,c],.int _ _⟩
 case rem=>
  obtain⟨rfl,f⟩:=h
  have c:b≠0:=by simpa using f
  exact⟨.int k (a.tmod b),by simp [binOp,Op.intDiv,c],.int _ _⟩
 case add=>subst h;exact⟨.int k (k.wrap (a+b)),by simp [binOp,Op.intArith],.int _ _⟩
 case sub=>subst h;exact⟨.int k (k.wrap (a-b)),by simp [binOp,Op.intArith],.int _ _⟩
 case mul=>subst h;exact⟨.int k (k.wrap (a*b)),by simp [binOp,Op.intArith],.int _ _⟩
 case and=>subst h;exact⟨.int k (andI k a b),by simp [binOp,Op.intBits,andI],.int _ _⟩
 case or=>subst h;exact⟨.int k (orI k a b),by simp [binOp,Op.intBits,orI],.int _ _⟩
 case xor=>subst h;exact⟨.int k (xorI k a b),by simp [binOp,Op.intBits,xorI],.int _ _⟩
 case andNot=>subst h;exact⟨.int k (B6 k a b),by simp [binOp,Op.intBits,B6],.int _ _⟩
 all_goals (subst h;refine⟨.bool _,?_,.bool _⟩;simp [binOp,Op.intCmp])
theorem C8{op:BinOp}{k k':IntKind}{a b:Int}(t:TypeId)(g:0<=b)(c:op= .shl∨op= .shr):
  (binOp op t (.int k a) (.int k' b)).run P w= .ok (.int k (if op= .shl then xG k a b else tU k a b)) w:=by
 have f:¬b<0:=by omega
 rcases c with rfl|rfl<;>simp [binOp,Op.shift,f,xG,tU]
theorem Cw{op:BinOp}{a b:List UInt8}{p:PD}(t:TypeId)(h:DQ op a b=some (p,true)):
  ∃v,(binOp op t (.string ⟨a.toArray⟩) (.string ⟨b.toArray⟩)).run P w= .ok v w∧V S p v:=by
 cases op<;>simp only [DQ,EC,EE,reduceCtorEq,and_true]at h
 case add=>
  obtain⟨rfl,f⟩:=h
  have c:a.length+b.length<=9223372036854775807:=by
   have:IntKind.i64.max=9223372036854775807:=by decide
   rw [this]at f
   have:=of_decide_eq_true f
   omega
  refine⟨.string ⟨(a++b).toArray⟩,?_,.str _⟩
  rw [binOp_string_add,run_string_add_sum (P:=P) w ⟨a.toArray⟩ ⟨b.toArray⟩ (by simpa [A2]using c),ByteArray.mk_append_mk]
 all_goals (subst h;refine⟨.bool _,?_,.bool _⟩;simp [binOp,Op.stringOp])
theorem CC{op:BinOp}{x y:RV}{p:PD}(t:TypeId)(r u:Operand){v1 v2:Value}(h:AF op x y=some (p,true))(h1:R S loc x v1)(j:R S loc y v2):
  ∃v,(do eqGuard op t r u v1 v2;binOp op t v1 v2:Sem Value).run P w= .ok v w∧V S p v:=by
 unfold AF at h
 split at h
 ·rename_i k a k' b
  have f:=h1.uo
  have e2:=j.uo
  subst f;subst e2
  by_cases c:op= .shl∨op= .shr
  ·rw [AH]
   simp only [pure_bind]
   have l:0<=b:=by
    rcases c with rfl|rfl<;>simp only [EC,EE]at h<;>exact of_decide_eq_true h.2
   have q:=C8 (P:=P) (w:=w) (k:=k) (k':=k') (a:=a) t l c
   refine⟨_,q,?_⟩
   rcases c with rfl|rfl
   ·simp only [EC,EE]at h
    rw [<-h.1];exact .int _ _
   ·simp only [EC,EE]at h
    rw [<-h.1,if_neg zb];exact .int _ _
  have g:op≠ .shl∧op≠ .shr:=⟨λe=>c (.inl e),λe=>c (.inr e)⟩
  have hk:k=k'∧Aq op k a b=some (p,true):=by
   cases op<;>simp_all
  obtain⟨rfl,hi⟩:=hk
  rw [AH]
  simp only [pure_bind]
  exact Ck g t hi
 ·rename_i a b
  have f:=h1.xZ
  have e2:=j.xZ
  subst f;subst e2
  rw [CR]
  simp only [pure_bind]
  exact Cw t h
 ·cases h
theorem xU{o:Option (PD×Bool)}{b:tY}{x:RV×Ups}{r:List Nat}(h:yg o b=some (x,r,true)):∃p,o=some (p,true)∧x=(.d p,[])∧r=[]:=by
 unfold yg at h
 cases o with
 |none=>exact fE _ h
 |some t=>
  obtain⟨p,c⟩:=t
  obtain⟨rfl,rfl,rfl⟩:=M.tK h
  exact⟨p,rfl,rfl,rfl⟩
theorem tR{v:RV}{b:tY}{x:RV×Ups}{r:List Nat}{c:Bool}(h:uB v b=some (x,r,c)):x=(v,[])∧r=[]∧c=true:=M.tB h
theorem ua{v:RV}{b:tY}{x:RV×Ups}{r:List Nat}{k c:Bool}(h:tZ k v b=some (x,r,c)):x=(v,[])∧r=[]∧c=k:=M.tK h
theorem R.yN{cs:List RV}{v:Value}(h:R S loc (.agg cs) v):∃vs,v= .agg vs∧vs.size=cs.length∧∀(i:Nat)c u,cs[i]? =some c->vs[i]? =some u->R S loc c u:=by
 cases h with|agg cs vs a h=>exact⟨vs,rfl,a,h⟩
theorem R.Bf{cs:List PD}{v:Value}(h:R S loc (.d (.agg cs)) v):∃vs,v= .agg vs∧vs.size=cs.length∧∀(i:Nat)c u,(cs.map RV.d)[i]? =some c->vs[i]? =some u->R S loc c u:=by
 cases h with
 |d h=>
  cases h with
  |agg cs vs f h=>
   refine⟨vs,rfl,f,λi c u h1 a=>?_⟩
   rw [List.getElem?_map]at h1
   cases hc:cs[i]? with
   |none=>simp [hc]at h1
   |some p=>simp only [hc,Option.map_some,EC]at h1;subst h1;exact .d (h i p u hc a)
theorem ym{x:RV}{cs:List RV}{v:Value}(a:xw x=some cs)(h:R S loc x v):
  ∃vs,v= .agg vs∧vs.size=cs.length∧∀(i:Nat)c u,cs[i]? =some c->vs[i]? =some u->R S loc c u:=by
 unfold xw at a
 split at a<;>simp only [EC,reduceCtorEq]at a
 ·subst a;exact h.yN
 ·subst a
  obtain⟨vs,h1,f,g⟩:=h.Bf
  exact⟨vs,h1,by simpa using f,g⟩
theorem xJ:∀{cs:List RV}{a:List PD},yn cs=some a->cs=a.map .d
 | [],a,h=>by simp only [yn,EC]at h;subst h;rfl
 | .d p::r,a,h=>by
  simp only [yn]at h
  cases c:yn r with
  |none=>simp [c]at h
  |some l=>
   simp only [c,EC]at h
   subst h
   rw [xJ c];rfl
 | .undef::_,_,h| .junk::_,_,h| .tC::_,_,h| .agg _::_,_,h| .tup _::_,_,h| .ref _ _::_,_,h| .ptr _ _::_,_,h
 | .elt _ _ _ _::_,_,h| .cptr _::_,_,h| .view _ _ _ _::_,_,h| .clo _ _::_,_,h=>by simp [yn]at h
theorem xe{cs:List RV}{vs:Array Value}(a:vs.size=cs.length)(h:∀(i:Nat)c u,cs[i]? =some c->vs[i]? =some u->R S loc c u):R S loc (BT cs) (.agg vs):=by
 unfold BT
 split
 ·rename_i g hp
  have:=xJ hp
  subst this
  refine .d (.agg g vs (by simpa using a) λi p v h1 f=>?_)
  have:=h i (.d p) v (by simp [h1]) f
  cases this with|d h=>exact h
 ·exact .agg cs vs a h
theorem wB(t:TypeId){d:TypeDesc}(a:P.underlying t=some d):(isAgg t).run P w= .ok (ue P t) w:=by
 simp only [isAgg,Sem.run_bind,run_underlying a,Result.andThen_ok,ue,a]
 cases d<;>rfl
theorem yJ{t:TypeId}{n:Nat}(h:szT P t=some n):∃i,P.info? t=some i∧i.size=n:=by
 unfold szT at h
 cases hi:P.info? t with
 |none=>simp [hi]at h
 |some i=>simp only [hi,Option.map_some,EC]at h;exact⟨i,rfl,h⟩
theorem tQ{t:TypeId}{n:Nat}(h:szT P t=some n):(sizeOf t).run P w= .ok n w:=by
 obtain⟨i,hi,rfl⟩:=yJ h
 simp [sizeOf,typeInfo,hi]
end
end Go.Dw
