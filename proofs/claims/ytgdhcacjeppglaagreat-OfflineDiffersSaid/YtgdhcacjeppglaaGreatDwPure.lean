
import Derived.Test.YtgdhcacjeppglaaGreatDwRel
import Derived.Laws.Concat
import Derived.Laws.Cover1
import Derived.Lib.Strings
open List renaming append_assoc->AE
open Option.some renaming injEq->AD
open Prod.mk renaming injEq->AF

namespace Go.Dw
section
variable {P:Program}{S:cp}{loc:cJ}{w:World}
theorem NCR.one{c:NC}{v:Value}{b:List Nat}(h:NCR P S loc w c v b):v.oneCell'=true:=by
 cases h with
 |val rv v h h1=>exact h1
 |row e es sz v xs hsz how hf=>obtain⟨a,c,rfl,_⟩:=how.hdr;rfl
theorem NCR.lt{c:NC}{v:Value}{bs:List Nat}(h:NCR P S loc w c v bs){b:Nat}(hb:b∈bs):b<w.heap.size:=by
 cases h with
 |val rv v h h1=>cases hb
 |row e es sz v xs hsz how hf=>exact how.lt (by simpa using hb)
theorem NCR.aE{S':cp}{loc':cJ}{w':World}{c:NC}{v:Value}{bs:List Nat}(h:NCR P S loc w c v bs)(f:Sub S S')(hl:cm loc loc')(hb:∀b∈bs,w'.heap[b]? =w.heap[b]?):NCR P S' loc' w' c v bs:=by
 cases h with
 |val rv v h h1=>exact .val rv v (h.mono f hl) h1
 |row e es sz v xs hsz how hf=>exact .row e es sz v xs hsz (how.aE fun b a=>hb b (by simpa using a)) (hf.mono f)
theorem NCs.len{cs:List NC}{vs:List Value}{bs:List Nat}(h:NCs P S loc w cs vs bs):cs.length=vs.length:=by
 induction h with
 |nil=>rfl
 |cons _ _ a=>simp [a]
theorem NCs.one{cs:List NC}{vs:List Value}{bs:List Nat}(h:NCs P S loc w cs vs bs):∀v∈vs,v.oneCell'=true:=by
 induction h with
 |nil=>intro v a;cases a
 |cons h _ b=>
  intro v a
  rcases List.mem_cons.1 a with rfl|a
  ·exact h.one
  ·exact b v a
theorem NCs.lt{cs:List NC}{vs:List Value}{bs:List Nat}(h:NCs P S loc w cs vs bs):∀b∈bs,b<w.heap.size:=by
 induction h with
 |nil=>intro b hb;cases hb
 |cons h _ a=>
  intro b hb
  rcases List.mem_append.1 hb with hb|hb
  ·exact h.lt hb
  ·exact a b hb
theorem NCs.aE{S':cp}{loc':cJ}{w':World}{cs:List NC}{vs:List Value}{bs:List Nat}(h:NCs P S loc w cs vs bs)(c:Sub S S')(hl:cm loc loc')(hb:∀b∈bs,w'.heap[b]? =w.heap[b]?):NCs P S' loc' w' cs vs bs:=by
 induction h with
 |nil=>exact .nil
 |cons h _ f=>exact .cons (h.aE c hl fun b a=>hb b (List.mem_append.2 (.inl a))) (f fun b a=>hb b (List.mem_append.2 (.inr a)))
theorem NCs.append{cs b:List NC}{vs c:List Value}{bs a:List Nat}(h:NCs P S loc w cs vs bs)(f:NCs P S loc w b c a):NCs P S loc w (cs++b) (vs++c) (bs++a):=by
 induction h with
 |nil=>exact f
 |cons h _ g=>rw [AE];exact .cons h g
theorem NCs.split{cs:List NC}{vs:List Value}{bs:List Nat}(h:NCs P S loc w cs vs bs):∀{i:Nat}{c:NC},cs[i]? =some c->
  ∃v b a bs2,bs=a++(b++bs2)∧vs[i]? =some v∧NCR P S loc w c v b∧∀f v' b',NCR P S loc w f v' b'->NCs P S loc w (cs.set i f) (vs.set i v') (a++(b'++bs2)):=by
 induction h with
 |nil=>intro i c hc;simp at hc
 | @cons s v0 m g j l h t r=>
  intro i c hc
  cases i with
  |zero=>
   simp only [List.getElem?_cons_zero,AD]at hc
   subst hc
   exact⟨v0,m,[],g,rfl,rfl,h,fun f v' b' k=>(NCs.cons k t:NCs P S loc w (f::j) (v'::l) (b'++g))⟩
  |succ i=>
   obtain⟨v,b,a,bs2,h1,n,p,q⟩:=r (i:=i) (by simpa using hc)
   refine⟨v,b,m++a,bs2,by rw [h1,AE],by simpa using n,p,fun f v' b' k=>?_⟩
   rw [AE]
   exact .cons h (q f v' b' k)
theorem fV{α:Type}{l:List α}{i:Nat}{x:α}(h:l[i]? =some x):l.set i x=l:=by
 apply List.ext_getElem?
 intro j
 rw [List.getElem?_set]
 by_cases a:i=j
 ·subst a
  rw [if_pos rfl,h,if_pos (List.getElem?_eq_some_iff.1 h).1]
 ·rw [if_neg a]
theorem mE{e2:TypeId}{ess:List (List PD)}{i:Nat}{es:List PD}(h:ess[i]? =some es):(ncs e2 ess none)[i]? =some (.row e2 es):=by simp [ncs,h]
theorem iQ{e2:TypeId}{ess:List (List PD)}{i:Nat}{rv:RV}(h:i<ess.length):(ncs e2 ess (some (i,rv)))[i]? =some (.val rv):=by
 simp [ncs,h]
theorem kx(e2:TypeId)(ess:List (List PD))(h:Option (Nat×RV)):(ncs e2 ess h).length=ess.length:=by
 rcases h with _|⟨i,rv⟩<;>simp [ncs]
theorem fD(e2:TypeId)(ess:List (List PD))(h:Option (Nat×RV))(i:Nat)(rv:RV)(a:∀j r,h=some (j,r)->i=j):(ncs e2 ess h).set i (.val rv)=ncs e2 ess (some (i,rv)):=by
 rcases h with _|⟨j,r⟩
 ·rfl
 ·obtain rfl:=a j r rfl
  simp [ncs]
theorem jJ(e2:TypeId)(ess:List (List PD))(i:Nat)(rv:RV)(es:List PD):(ncs e2 ess (some (i,rv))).set i (.row e2 es)=ncs e2 (ess.set i es) none:=by
 simp [ncs,List.map_set]
theorem NCs.reval{e2:TypeId}{ess:List (List PD)}{j:Nat}{rv a:RV}{xs:List Value}{bs:List Nat}{v:Value}(h:NCs P S loc w (ncs e2 ess (some (j,rv))) xs bs)(l:j<ess.length)(f:xs[j]? =some v)(m:R S loc a v)(h1:v.oneCell'=true):
  NCs P S loc w (ncs e2 ess (some (j,a))) xs bs:=by
 obtain⟨v0,b,g,bs2,rfl,c,i,k⟩:=h.split (iQ (e2:=e2) (rv:=rv) l)
 rw [f]at c
 cases c
 cases i with
 |val _ _ _ _=>
  have:=k (.val a) v [] (.val a v m h1)
  rw [fD e2 ess _ j a (fun _ _ e=>by cases e;rfl),fV f]at this
  exact this
end
theorem ColR.imp{Q a:List PD->Value->List Nat->Prop}{sz o:Nat}{es:List PD}{xs:List Value}{g h:Option Nat}{bl:Nat->List Nat}(hc:ColR Q sz o es xs g bl h)
  (j:∀k row u,k<es.length->Q row u (bl k)->a row u (bl k)):ColR a sz o es xs g bl h:=
 ⟨fun k e h1 b=>let⟨row,u,c,f,i⟩:=hc.cell k e h1 b;⟨row,u,c,f,j k row u (List.getElem?_eq_some_iff.1 h1).1 i⟩,hc.eR,hc.apart,hc.hdr⟩
theorem dM.lt{P:Program}{S:cp}{w:World}:∀{ts:List (Nat×TypeId)}{e:TypeId}{es:List PD}{v:Value}{bs:List Nat},dM P S w ts e es v bs->∀b∈bs,b<w.heap.size
 | [],_,_,_,_,⟨_,_,_,how,_,rfl⟩,b,hb=>how.lt (by simpa using hb)
 |(_,_)::ts,_,_,_,_,⟨sz,xs,bl,_,_,how,_,hc,c⟩,b,hb=>by
  rcases(c b).1 hb with h|⟨k,hk,a⟩
  ·exact how.lt h
  ·obtain⟨row,u,_,_,f⟩:=hc.cell k _ (zc hk) nofun
   exact dM.lt f b a
theorem dM.aE{P:Program}{S S':cp}{w w':World}(c:Sub S S'):∀{ts:List (Nat×TypeId)}{e:TypeId}{es:List PD}{v:Value}{bs:List Nat},dM P S w ts e es v bs->(∀b∈bs,w'.heap[b]? =w.heap[b]?)->dM P S' w' ts e es v bs
 | [],_,_,_,_,⟨sz,xs,hsz,how,hf,he⟩,hb=>⟨sz,xs,hsz,how.aE fun b h=>hb b (by subst he;simpa using h),hf.mono c,he⟩
 |(_,_)::ts,_,es,_,_,⟨sz,xs,bl,hsz,ho,how,hf,hc,a⟩,hb=>
  ⟨sz,xs,bl,hsz,ho,how.aE fun b h=>hb b ((a b).2 (.inl h)),hf.mono c,hc.imp fun k row u hk f=>f.aE c fun b h=>hb b ((a b).2 (.inr ⟨k,hk,h⟩)),a⟩
section
variable {P:Program}{S S':cp}{loc loc':cJ}{w w':World}{e e2:TypeId}{es:List PD}{o sz:Nat}{ts:List (Nat×TypeId)}{h:Option (Nat×RV)}{hdr:Value}{xs:List Value}{bs:List Nat}{bl:Nat->List Nat}
theorem fO.lt(hd:fO P S loc w e es o e2 ts h sz hdr xs bs bl){b:Nat}(hb:b∈(cA hdr).toList++bs):b<w.heap.size:=by
 rcases List.mem_append.1 hb with hb|hb
 ·exact hd.how.lt (by simpa using hb)
 ·obtain⟨k,hk,a⟩:=(hd.hb b).1 hb
  by_cases hl:h.map (·.1)=some k
  ·rw [hd.hc.eR k hl]at a;cases a
  ·obtain⟨row,u,_,_,c⟩:=hd.hc.cell k _ (zc hk) hl
   exact c.lt b a
theorem fO.aE(hd:fO P S loc w e es o e2 ts h sz hdr xs bs bl)(c:Sub S S')(hl:cm loc loc')(hb:∀b∈(cA hdr).toList++bs,w'.heap[b]? =w.heap[b]?):fO P S' loc' w' e es o e2 ts h sz hdr xs bs bl:=
 ⟨hd.hsz, hd.ho, hd.how.aE fun b a => hb b (List.mem_append.2 (.inl (by simpa using a))), hd.hf.mono c,
  hd.hc.imp fun k row u hk j=>j.aE c fun b a=>hb b (List.mem_append.2 (.inr ((hd.hb b).2 ⟨k,hk,a⟩))),hd.hb,fun i rv he=>let⟨h1,u,f,g⟩:=hd.hl i rv he;⟨h1,u,f,g.mono c hl⟩,hd.ht⟩
end
end Go.Dw
namespace Go.Dw
section
variable {P:Program}{S:cp}{loc:cJ}{w:World}
theorem R.cC{k:IntKind}{n:Int}{v:Value}(h:R S loc (.d (.int k n)) v):v= .int k n:=by
 cases h with|d h=>cases h;rfl
theorem R.eP{b:Bool}{v:Value}(h:R S loc (.d (.bool b)) v):v= .bool b:=by
 cases h with|d h=>cases h;rfl
theorem R.gy{s:List UInt8}{v:Value}(h:R S loc (.d (.str s)) v):v= .string ⟨s.toArray⟩:=by
 cases h with|d h=>cases h;rfl
theorem R.raw_inv{u v:Value}(h:R S loc (.d (.raw u)) v):v=u:=by
 cases h with|d h=>cases h;rfl
theorem R.oz{v:Value}(h:R S loc .undef v):v=Go.undef:=by cases h;rfl
theorem R.gn{es:List PD}{v:Value}(h:R S loc (.d (.lst es)) v):V S (.lst es) v:=by
 cases h with|d h=>exact h
theorem jR(l:List UInt8):(ByteArray.mk l.toArray).size=l.length:=by simp [ByteArray.size]
theorem jB(op:BinOp)(t:TypeId)(x y:Operand)(k k':IntKind)(a b:Int):eqGuard op t x y (.int k a) (.int k' b)=pure ():=by
 cases op<;>rfl
theorem mr(op:BinOp)(t:TypeId)(x y:Operand)(a b:ByteArray):eqGuard op t x y (.string a) (.string b)=pure ():=by
 cases op<;>rfl
theorem lM{op:BinOp}{k:IntKind}{a b:Int}{p:PD}(f:op≠ .shl∧op≠ .shr)(t:TypeId)(h:kk op k a b=some (p,true)):
  ∃v,(binOp op t (.int k a) (.int k b)).run P w= .ok v w∧V S p v:=by
 cases op<;>simp only [kk,AD,AF,reduceCtorEq,and_true]at h
 case quo=>
  obtain⟨rfl,hb⟩:=h
  have c:b≠0:=by simpa using hb
  exact⟨.int k (k.wrap (a.tdiv b)),by simp [binOp,Op.intDiv,c],.int _ _⟩
 case rem=>
  obtain⟨rfl,hb⟩:=h
  have c:b≠0:=by simpa using hb
  exact⟨.int k (a.tmod b),by simp [binOp,Op.intDiv,c],.int _ _⟩
 case add=>subst h;exact⟨.int k (k.wrap (a+b)),by simp [binOp,Op.intArith],.int _ _⟩
 case sub=>subst h;exact⟨.int k (k.wrap (a-b)),by simp [binOp,Op.intArith],.int _ _⟩
 case mul=>subst h;exact⟨.int k (k.wrap (a*b)),by simp [binOp,Op.intArith],.int _ _⟩
 case and=>subst h;exact⟨.int k (andI k a b),by simp [binOp,Op.intBits,andI],.int _ _⟩
 case or=>subst h;exact⟨.int k (orI k a b),by simp [binOp,Op.intBits,orI],.int _ _⟩
 case xor=>subst h;exact⟨.int k (xorI k a b),by simp [binOp,Op.intBits,xorI],.int _ _⟩
 case andNot=>subst h;exact⟨.int k (lu k a b),by simp [binOp,Op.intBits,lu],.int _ _⟩
 all_goals (subst h;refine⟨.bool _,?_,.bool _⟩;simp [binOp,Op.intCmp])
theorem mR{op:BinOp}{k k':IntKind}{a b:Int}(t:TypeId)(f:0<=b)(c:op= .shl∨op= .shr):
  (binOp op t (.int k a) (.int k' b)).run P w= .ok (.int k (if op= .shl then shlI k a b else shrI k a b)) w:=by
 have hb:¬b<0:=by omega
 rcases c with rfl|rfl<;>simp [binOp,Op.shift,hb,shlI,shrI]
theorem l6{op:BinOp}{a b:List UInt8}{p:PD}(t:TypeId)(h:nL op a b=some (p,true)):
  ∃v,(binOp op t (.string ⟨a.toArray⟩) (.string ⟨b.toArray⟩)).run P w= .ok v w∧V S p v:=by
 cases op<;>simp only [nL,AD,AF,reduceCtorEq,and_true]at h
 case add=>
  obtain⟨rfl,hb⟩:=h
  have c:a.length+b.length<=9223372036854775807:=by
   have:IntKind.i64.max=9223372036854775807:=by decide
   rw [this]at hb
   have:=of_decide_eq_true hb
   omega
  refine⟨.string ⟨(a++b).toArray⟩,?_,.str _⟩
  rw [binOp_string_add,run_string_add_sum (P:=P) w ⟨a.toArray⟩ ⟨b.toArray⟩ (by simpa [jR]using c),ByteArray.mk_append_mk]
 all_goals (subst h;refine⟨.bool _,?_,.bool _⟩;simp [binOp,Op.stringOp])
theorem me{op:BinOp}{x y:RV}{p:PD}(t:TypeId)(n q:Operand){v1 v2:Value}(h:binPD op x y=some (p,true))(h1:R S loc x v1)(i:R S loc y v2):
  ∃v,(do eqGuard op t n q v1 v2;binOp op t v1 v2:Sem Value).run P w= .ok v w∧V S p v:=by
 unfold binPD at h
 split at h
 ·rename_i k a k' b
  have f:=h1.cC
  have e2:=i.cC
  subst f;subst e2
  by_cases c:op= .shl∨op= .shr
  ·rw [jB]
   simp only [pure_bind]
   have j:0<=b:=by
    rcases c with rfl|rfl<;>simp only [AD,AF]at h<;>exact of_decide_eq_true h.2
   have m:=mR (P:=P) (w:=w) (k:=k) (k':=k') (a:=a) t j c
   refine⟨_,m,?_⟩
   rcases c with rfl|rfl
   ·simp only [AD,AF]at h
    rw [<-h.1];exact .int _ _
   ·simp only [AD,AF]at h
    rw [<-h.1,if_neg sm];exact .int _ _
  have g:op≠ .shl∧op≠ .shr:=⟨fun e=>c (.inl e),fun e=>c (.inr e)⟩
  have hk:k=k'∧kk op k a b=some (p,true):=by
   cases op<;>simp_all
  obtain⟨rfl,l⟩:=hk
  rw [jB]
  simp only [pure_bind]
  exact lM g t l
 ·rename_i a b
  have f:=h1.gy
  have e2:=i.gy
  subst f;subst e2
  rw [mr]
  simp only [pure_bind]
  exact l6 t h
 ·cases h
theorem gr{o:Option (PD×Bool)}{b:cI}{x:RV×Ups}{r:List Nat}(h:gD o b=some (x,r,true)):∃p,o=some (p,true)∧x=(.d p,[])∧r=[]:=by
 unfold gD at h
 cases o with
 |none=>exact fE _ h
 |some t=>
  obtain⟨p,c⟩:=t
  obtain⟨rfl,rfl,rfl⟩:=M.cg h
  exact⟨p,rfl,rfl,rfl⟩
theorem ch{v:RV}{b:cI}{x:RV×Ups}{r:List Nat}{c:Bool}(h:cQ v b=some (x,r,c)):x=(v,[])∧r=[]∧c=true:=M.cd h
theorem cy{v:RV}{b:cI}{x:RV×Ups}{r:List Nat}{k c:Bool}(h:cK k v b=some (x,r,c)):x=(v,[])∧r=[]∧c=k:=M.cg h
theorem R.gV{cs:List RV}{v:Value}(h:R S loc (.agg cs) v):∃vs,v= .agg vs∧vs.size=cs.length∧∀(i:Nat)c u,cs[i]? =some c->vs[i]? =some u->R S loc c u:=by
 cases h with|agg cs vs hl h=>exact⟨vs,rfl,hl,h⟩
theorem R.j7{cs:List PD}{v:Value}(h:R S loc (.d (.agg cs)) v):∃vs,v= .agg vs∧vs.size=cs.length∧∀(i:Nat)c u,(cs.map RV.d)[i]? =some c->vs[i]? =some u->R S loc c u:=by
 cases h with
 |d h=>
  cases h with
  |agg cs vs hl h=>
   refine⟨vs,rfl,hl,fun i c u h1 a=>?_⟩
   rw [List.getElem?_map]at h1
   cases hc:cs[i]? with
   |none=>simp [hc]at h1
   |some p=>simp only [hc,Option.map_some,AD]at h1;subst h1;exact .d (h i p u hc a)
theorem gH{x:RV}{cs:List RV}{v:Value}(a:fP x=some cs)(h:R S loc x v):
  ∃vs,v= .agg vs∧vs.size=cs.length∧∀(i:Nat)c u,cs[i]? =some c->vs[i]? =some u->R S loc c u:=by
 unfold fP at a
 split at a<;>simp only [AD,reduceCtorEq]at a
 ·subst a;exact h.gV
 ·subst a
  obtain⟨vs,h1,b,f⟩:=h.j7
  exact⟨vs,h1,by simpa using b,f⟩
theorem fi:∀{cs:List RV}{a:List PD},fQ cs=some a->cs=a.map .d
 | [],a,h=>by simp only [fQ,AD]at h;subst h;rfl
 | .d p::r,a,h=>by
  simp only [fQ]at h
  cases hl:fQ r with
  |none=>simp [hl]at h
  |some l=>
   simp only [hl,AD]at h
   subst h
   rw [fi hl];rfl
 | .undef::_,_,h| .junk::_,_,h| .cL::_,_,h| .agg _::_,_,h| .tup _::_,_,h| .ref _ _::_,_,h| .ptr _ _::_,_,h
 | .elt _ _ _ _::_,_,h| .cptr _::_,_,h| .view _ _ _ _::_,_,h| .clo _ _::_,_,h| .fview _ _ _::_,_,h=>by simp [fQ]at h
theorem fC{cs:List RV}{vs:Array Value}(hl:vs.size=cs.length)(h:∀(i:Nat)c u,cs[i]? =some c->vs[i]? =some u->R S loc c u):R S loc (mD cs) (.agg vs):=by
 unfold mD
 split
 ·rename_i f b
  have:=fi b
  subst this
  refine .d (.agg f vs (by simpa using hl) fun i p v h1 a=>?_)
  have:=h i (.d p) v (by simp [h1]) a
  cases this with|d h=>exact h
 ·exact .agg cs vs hl h
theorem eC(t:TypeId){d:TypeDesc}(hd:P.underlying t=some d):(isAgg t).run P w= .ok (cM P t) w:=by
 simp only [isAgg,Sem.run_bind,run_underlying hd,Result.andThen_ok,cM,hd]
 cases d<;>rfl
theorem fx{t:TypeId}{n:Nat}(h:szT P t=some n):∃i,P.info? t=some i∧i.size=n:=by
 unfold szT at h
 cases a:P.info? t with
 |none=>simp [a]at h
 |some i=>simp only [a,Option.map_some,AD]at h;exact⟨i,rfl,h⟩
theorem ct{t:TypeId}{n:Nat}(h:szT P t=some n):(sizeOf t).run P w= .ok n w:=by
 obtain⟨i,a,rfl⟩:=fx h
 simp [sizeOf,typeInfo,a]
end
end Go.Dw
