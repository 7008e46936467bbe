
import Derived.Test.YtomapcboiinfdaaGreatDwRel
open List renaming append_assoc->AE

namespace Go.Dw
section
variable {P:Program}{S:mW}{loc:nB}{w:World}
theorem NCR.one{c:NC}{v:Value}{b:List Nat}(h:NCR P S loc w c v b):v.oneCell'=true:=by
 cases h with
 |val rv v h h1=>exact h1
 |row e es sz v xs f how hf=>obtain⟨a,c,rfl,_⟩:=how.hdr;rfl
theorem NCR.lt{c:NC}{v:Value}{bs:List Nat}(h:NCR P S loc w c v bs){b:Nat}(a:b∈bs):b<w.heap.size:=by
 cases h with
 |val rv v h h1=>cases a
 |row e es sz v xs f how hf=>exact how.lt (by simpa using a)
theorem NCR.dw{S':mW}{loc':nB}{w':World}{c:NC}{v:Value}{bs:List Nat}(h:NCR P S loc w c v bs)(g:Sub S S')(j:mZ loc loc')(i:∀b∈bs,w'.heap[b]? =w.heap[b]?):NCR P S' loc' w' c v bs:=by
 cases h with
 |val rv v h h1=>exact .val rv v (h.mono g j) h1
 |row e es sz v xs f how hf=>exact .row e es sz v xs f (how.dw fun b a=>i b (by simpa using a)) (hf.mono g)
theorem NCs.len{cs:List NC}{vs:List Value}{bs:List Nat}(h:NCs P S loc w cs vs bs):cs.length=vs.length:=by
 induction h with
 |nil=>rfl
 |cons _ _ a=>simp [a]
theorem NCs.one{cs:List NC}{vs:List Value}{bs:List Nat}(h:NCs P S loc w cs vs bs):∀v∈vs,v.oneCell'=true:=by
 induction h with
 |nil=>intro v a;cases a
 |cons h _ b=>
  intro v a
  rcases List.mem_cons.1 a with rfl|a
  ·exact h.one
  ·exact b v a
theorem NCs.lt{cs:List NC}{vs:List Value}{bs:List Nat}(h:NCs P S loc w cs vs bs):∀b∈bs,b<w.heap.size:=by
 induction h with
 |nil=>intro b a;cases a
 |cons h _ c=>
  intro b a
  rcases List.mem_append.1 a with a|a
  ·exact h.lt a
  ·exact c b a
theorem NCs.dw{S':mW}{loc':nB}{w':World}{cs:List NC}{vs:List Value}{bs:List Nat}(h:NCs P S loc w cs vs bs)(f:Sub S S')(e:mZ loc loc')(c:∀b∈bs,w'.heap[b]? =w.heap[b]?):NCs P S' loc' w' cs vs bs:=by
 induction h with
 |nil=>exact .nil
 |cons h _ g=>exact .cons (h.dw f e fun b a=>c b (List.mem_append.2 (.inl a))) (g fun b a=>c b (List.mem_append.2 (.inr a)))
theorem NCs.append{cs b:List NC}{vs c:List Value}{bs a:List Nat}(h:NCs P S loc w cs vs bs)(e:NCs P S loc w b c a):NCs P S loc w (cs++b) (vs++c) (bs++a):=by
 induction h with
 |nil=>exact e
 |cons h _ f=>rw [AE];exact .cons h f
theorem NCs.split{cs:List NC}{vs:List Value}{bs:List Nat}(h:NCs P S loc w cs vs bs):∀{i:Nat}{c:NC},cs[i]? =some c->
  ∃v b a bs2,bs=a++(b++bs2)∧vs[i]? =some v∧NCR P S loc w c v b∧∀e v' b',NCR P S loc w e v' b'->NCs P S loc w (cs.set i e) (vs.set i v') (a++(b'++bs2)):=by
 induction h with
 |nil=>intro i c g;simp at g
 | @cons r v0 m f j l h t q=>
  intro i c g
  cases i with
  |zero=>
   simp only [List.getElem?_cons_zero,Option.some.injEq]at g
   subst g
   exact⟨v0,m,[],f,rfl,rfl,h,fun e v' b' k=>(NCs.cons k t:NCs P S loc w (e::j) (v'::l) (b'++f))⟩
  |succ i=>
   obtain⟨v,b,a,bs2,h1,n,o,p⟩:=q (i:=i) (by simpa using g)
   refine⟨v,b,m++a,bs2,by rw [h1,AE],by simpa using n,o,fun e v' b' k=>?_⟩
   rw [AE]
   exact .cons h (p e v' b' k)
theorem sf{α:Type}{l:List α}{i:Nat}{x:α}(h:l[i]? =some x):l.set i x=l:=by
 apply List.ext_getElem?
 intro j
 rw [List.getElem?_set]
 by_cases a:i=j
 ·subst a
  rw [if_pos rfl,h,if_pos (List.getElem?_eq_some_iff.1 h).1]
 ·rw [if_neg a]
theorem ncs_none{e2:TypeId}{ess:List (List PD)}{i:Nat}{es:List PD}(h:ess[i]? =some es):(ncs e2 ess none)[i]? =some (.row e2 es):=by simp [ncs,h]
theorem vU{e2:TypeId}{ess:List (List PD)}{i:Nat}{rv:RV}(h:i<ess.length):(ncs e2 ess (some (i,rv)))[i]? =some (.val rv):=by
 simp [ncs,h]
theorem vT(e2:TypeId)(ess:List (List PD))(h:Option (Nat×RV)):(ncs e2 ess h).length=ess.length:=by
 rcases h with _|⟨i,rv⟩<;>simp [ncs]
theorem sa(e2:TypeId)(ess:List (List PD))(h:Option (Nat×RV))(i:Nat)(rv:RV)(a:∀j r,h=some (j,r)->i=j):(ncs e2 ess h).set i (.val rv)=ncs e2 ess (some (i,rv)):=by
 rcases h with _|⟨j,r⟩
 ·rfl
 ·obtain rfl:=a j r rfl
  simp [ncs]
theorem xQ(e2:TypeId)(ess:List (List PD))(i:Nat)(rv:RV)(es:List PD):(ncs e2 ess (some (i,rv))).set i (.row e2 es)=ncs e2 (ess.set i es) none:=by
 simp [ncs,List.map_set]
theorem NCs.reval{e2:TypeId}{ess:List (List PD)}{j:Nat}{rv a:RV}{xs:List Value}{bs:List Nat}{v:Value}(h:NCs P S loc w (ncs e2 ess (some (j,rv))) xs bs)(l:j<ess.length)(f:xs[j]? =some v)(m:R S loc a v)(h1:v.oneCell'=true):
  NCs P S loc w (ncs e2 ess (some (j,a))) xs bs:=by
 obtain⟨v0,b,g,bs2,rfl,c,i,k⟩:=h.split (vU (e2:=e2) (rv:=rv) l)
 rw [f]at c
 cases c
 cases i with
 |val _ _ _ _=>
  have:=k (.val a) v [] (.val a v m h1)
  rw [sa e2 ess _ j a (fun _ _ e=>by cases e;rfl),sf f]at this
  exact this
end
end Go.Dw
