
import Derived.Test.YthadlbjoiidkjaaGreatDoorDwRel

namespace Go.Dw
section
variable {P:Program}{S:pR}{loc:qe}{w:World}
theorem NCR.one{c:NC}{v:Value}{b:List Nat}(h:NCR P S loc w c v b):v.oneCell'=true:=by
 cases h with
 |val rv v h h1=>exact h1
 |row e es sz v xs hsz how hf=>obtain⟨a,c,rfl,_⟩:=how.hdr;rfl
theorem NCR.lt{c:NC}{v:Value}{bs:List Nat}(h:NCR P S loc w c v bs){b:Nat}(hb:b∈bs):b<w.heap.size:=by
 cases h with
 |val rv v h h1=>cases hb
 |row e es sz v xs hsz how hf=>exact how.lt (by simpa using hb)
theorem NCR.py{S':pR}{loc':qe}{w':World}{c:NC}{v:Value}{bs:List Nat}(h:NCR P S loc w c v bs)(hs:Sub S S')(hl:qa loc loc')(hb:∀b∈bs,w'.heap[b]? =w.heap[b]?):NCR P S' loc' w' c v bs:=by
 cases h with
 |val rv v h h1=>exact .val rv v (h.mono hs hl) h1
 |row e es sz v xs hsz how hf=>exact .row e es sz v xs hsz (how.py fun b hbv=>hb b (by simpa using hbv)) (hf.mono hs)
theorem NCs.len{cs:List NC}{vs:List Value}{bs:List Nat}(h:NCs P S loc w cs vs bs):cs.length=vs.length:=by
 induction h with
 |nil=>rfl
 |cons _ _ ih=>simp [ih]
theorem NCs.one{cs:List NC}{vs:List Value}{bs:List Nat}(h:NCs P S loc w cs vs bs):∀v∈vs,v.oneCell'=true:=by
 induction h with
 |nil=>intro v hv;cases hv
 |cons h _ ih=>
  intro v hv
  rcases List.mem_cons.1 hv with rfl|hv
  ·exact h.one
  ·exact ih v hv
theorem NCs.lt{cs:List NC}{vs:List Value}{bs:List Nat}(h:NCs P S loc w cs vs bs):∀b∈bs,b<w.heap.size:=by
 induction h with
 |nil=>intro b hb;cases hb
 |cons h _ ih=>
  intro b hb
  rcases List.mem_append.1 hb with hb|hb
  ·exact h.lt hb
  ·exact ih b hb
theorem NCs.py{S':pR}{loc':qe}{w':World}{cs:List NC}{vs:List Value}{bs:List Nat}(h:NCs P S loc w cs vs bs)(hs:Sub S S')(hl:qa loc loc')(hb:∀b∈bs,w'.heap[b]? =w.heap[b]?):NCs P S' loc' w' cs vs bs:=by
 induction h with
 |nil=>exact .nil
 |cons h _ ih=>exact .cons (h.py hs hl fun b hbb=>hb b (List.mem_append.2 (.inl hbb))) (ih fun b hbb=>hb b (List.mem_append.2 (.inr hbb)))
theorem NCs.append{cs cs':List NC}{vs vs':List Value}{bs bs':List Nat}(h:NCs P S loc w cs vs bs)(h':NCs P S loc w cs' vs' bs'):NCs P S loc w (cs++cs') (vs++vs') (bs++bs'):=by
 induction h with
 |nil=>exact h'
 |cons h _ ih=>rw [List.append_assoc];exact .cons h ih
theorem NCs.split{cs:List NC}{vs:List Value}{bs:List Nat}(h:NCs P S loc w cs vs bs):∀{i:Nat}{c:NC},cs[i]? =some c->
  ∃v b bs1 bs2,bs=bs1++(b++bs2)∧vs[i]? =some v∧NCR P S loc w c v b∧∀c' v' b',NCR P S loc w c' v' b'->NCs P S loc w (cs.set i c') (vs.set i v') (bs1++(b'++bs2)):=by
 induction h with
 |nil=>intro i c hc;simp at hc
 | @cons c0 v0 b0 bs0 cs0 vs0 h t ih=>
  intro i c hc
  cases i with
  |zero=>
   simp only [List.getElem?_cons_zero,Option.some.injEq]at hc
   subst hc
   exact⟨v0,b0,[],bs0,rfl,rfl,h,fun c' v' b' h'=>(NCs.cons h' t:NCs P S loc w (c'::cs0) (v'::vs0) (b'++bs0))⟩
  |succ i=>
   obtain⟨v,b,bs1,bs2,h1,h2,h3,h4⟩:=ih (i:=i) (by simpa using hc)
   refine⟨v,b,b0++bs1,bs2,by rw [h1,List.append_assoc],by simpa using h2,h3,fun c' v' b' h'=>?_⟩
   rw [List.append_assoc]
   exact .cons h (h4 c' v' b' h')
end
end Go.Dw
