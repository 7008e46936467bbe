
import Derived.Test.YtmmgjlgoggielaaGreatDwRel

namespace Go.Dw
section
variable {P:Program}{S:pT}{loc:qp}{w:World}
theorem NCR.one{c:NC}{v:Value}{b:List Nat}(h:NCR P S loc w c v b):v.oneCell'=true:=by
 cases h with
 |val rv v h h1=>exact h1
 |row e es sz v xs hsz how hf=>obtain⟨a,c,rfl,_⟩:=how.hdr;rfl
theorem NCR.lt{c:NC}{v:Value}{bs:List Nat}(h:NCR P S loc w c v bs){b:Nat}(hb:b∈bs):b<w.heap.size:=by
 cases h with
 |val rv v h h1=>cases hb
 |row e es sz v xs hsz how hf=>exact how.lt (by simpa using hb)
theorem NCR.nZ{S':pT}{loc':qp}{w':World}{c:NC}{v:Value}{bs:List Nat}(h:NCR P S loc w c v bs)(hs:Sub S S')(hl:pS loc loc')(hb:∀b∈bs,w'.heap[b]? =w.heap[b]?):NCR P S' loc' w' c v bs:=by
 cases h with
 |val rv v h h1=>exact .val rv v (h.mono hs hl) h1
 |row e es sz v xs hsz how hf=>exact .row e es sz v xs hsz (how.nZ fun b hbv=>hb b (by simpa using hbv)) (hf.mono hs)
theorem NCs.len{cs:List NC}{vs:List Value}{bs:List Nat}(h:NCs P S loc w cs vs bs):cs.length=vs.length:=by
 induction h with
 |nil=>rfl
 |cons _ _ ih=>simp [ih]
theorem NCs.one{cs:List NC}{vs:List Value}{bs:List Nat}(h:NCs P S loc w cs vs bs):∀v∈vs,v.oneCell'=true:=by
 induction h with
 |nil=>intro v hv;cases hv
 |cons h _ ih=>
  intro v hv
  rcases List.mem_cons.1 hv with rfl|hv
  ·exact h.one
  ·exact ih v hv
theorem NCs.lt{cs:List NC}{vs:List Value}{bs:List Nat}(h:NCs P S loc w cs vs bs):∀b∈bs,b<w.heap.size:=by
 induction h with
 |nil=>intro b hb;cases hb
 |cons h _ ih=>
  intro b hb
  rcases List.mem_append.1 hb with hb|hb
  ·exact h.lt hb
  ·exact ih b hb
theorem NCs.nZ{S':pT}{loc':qp}{w':World}{cs:List NC}{vs:List Value}{bs:List Nat}(h:NCs P S loc w cs vs bs)(hs:Sub S S')(hl:pS loc loc')(hb:∀b∈bs,w'.heap[b]? =w.heap[b]?):NCs P S' loc' w' cs vs bs:=by
 induction h with
 |nil=>exact .nil
 |cons h _ ih=>exact .cons (h.nZ hs hl fun b hbb=>hb b (List.mem_append.2 (.inl hbb))) (ih fun b hbb=>hb b (List.mem_append.2 (.inr hbb)))
theorem NCs.append{cs cs':List NC}{vs vs':List Value}{bs bs':List Nat}(h:NCs P S loc w cs vs bs)(h':NCs P S loc w cs' vs' bs'):NCs P S loc w (cs++cs') (vs++vs') (bs++bs'):=by
 induction h with
 |nil=>exact h'
 |cons h _ ih=>rw [List.append_assoc];exact .cons h ih
theorem NCs.split{cs:List NC}{vs:List Value}{bs:List Nat}(h:NCs P S loc w cs vs bs):∀{i:Nat}{c:NC},cs[i]? =some c->
  ∃v b bs1 bs2,bs=bs1++(b++bs2)∧vs[i]? =some v∧NCR P S loc w c v b∧∀c' v' b',NCR P S loc w c' v' b'->NCs P S loc w (cs.set i c') (vs.set i v') (bs1++(b'++bs2)):=by
 induction h with
 |nil=>intro i c hc;simp at hc
 | @cons c0 v0 b0 bs0 cs0 vs0 h t ih=>
  intro i c hc
  cases i with
  |zero=>
   simp only [List.getElem?_cons_zero,Option.some.injEq]at hc
   subst hc
   exact⟨v0,b0,[],bs0,rfl,rfl,h,fun c' v' b' h'=>(NCs.cons h' t:NCs P S loc w (c'::cs0) (v'::vs0) (b'++bs0))⟩
  |succ i=>
   obtain⟨v,b,bs1,bs2,h1,h2,h3,h4⟩:=ih (i:=i) (by simpa using hc)
   refine⟨v,b,b0++bs1,bs2,by rw [h1,List.append_assoc],by simpa using h2,h3,fun c' v' b' h'=>?_⟩
   rw [List.append_assoc]
   exact .cons h (h4 c' v' b' h')
theorem uE{α:Type}{l:List α}{i:Nat}{x:α}(h:l[i]? =some x):l.set i x=l:=by
 apply List.ext_getElem?
 intro j
 rw [List.getElem?_set]
 by_cases hij:i=j
 ·subst hij
  rw [if_pos rfl,h,if_pos (List.getElem?_eq_some_iff.1 h).1]
 ·rw [if_neg hij]
theorem AM{e2:TypeId}{ess:List (List PD)}{i:Nat}{es:List PD}(h:ess[i]? =some es):(ncs e2 ess none)[i]? =some (.row e2 es):=by simp [ncs,h]
theorem w4{e2:TypeId}{ess:List (List PD)}{i:Nat}{rv:RV}(h:i<ess.length):(ncs e2 ess (some (i,rv)))[i]? =some (.val rv):=by
 simp [ncs,h]
theorem yQ(e2:TypeId)(ess:List (List PD))(h:Option (Nat×RV)):(ncs e2 ess h).length=ess.length:=by
 rcases h with _|⟨i,rv⟩<;>simp [ncs]
theorem tY(e2:TypeId)(ess:List (List PD))(h:Option (Nat×RV))(i:Nat)(rv:RV)(hh:∀j r,h=some (j,r)->i=j):(ncs e2 ess h).set i (.val rv)=ncs e2 ess (some (i,rv)):=by
 rcases h with _|⟨j,r⟩
 ·rfl
 ·obtain rfl:=hh j r rfl
  simp [ncs]
theorem xU(e2:TypeId)(ess:List (List PD))(i:Nat)(rv:RV)(es:List PD):(ncs e2 ess (some (i,rv))).set i (.row e2 es)=ncs e2 (ess.set i es) none:=by
 simp [ncs,List.map_set]
theorem NCs.reval{e2:TypeId}{ess:List (List PD)}{j:Nat}{rv rv':RV}{xs:List Value}{bs:List Nat}{v:Value}(h:NCs P S loc w (ncs e2 ess (some (j,rv))) xs bs)(hj:j<ess.length)(hx:xs[j]? =some v)(hr:R S loc rv' v)(h1:v.oneCell'=true):
  NCs P S loc w (ncs e2 ess (some (j,rv'))) xs bs:=by
 obtain⟨v0,b,bs1,bs2,rfl,h2,h3,h4⟩:=h.split (w4 (e2:=e2) (rv:=rv) hj)
 rw [hx]at h2
 cases h2
 cases h3 with
 |val _ _ _ _=>
  have:=h4 (.val rv') v [] (.val rv' v hr h1)
  rw [tY e2 ess _ j rv' (fun _ _ e=>by cases e;rfl),uE hx]at this
  exact this
end
end Go.Dw
