
import Derived.Test.YtikangmionpjfaaGreatDwEval
import Derived.Laws.AppendOwn
import Derived.Laws.Strings
import Derived.Laws.Strings2
import Derived.LoopN
open Nat renaming le_refl->B6
open Option.some renaming injEq->B7

namespace Go.Dw
abbrev pr:=Addr->Option Value
def Bi:Value->Bool
 | .func (.func _) ⟨[]⟩ ⟨[]⟩=>true
 | .func (.func _) ⟨[.agg ⟨[]⟩]⟩ ⟨[]⟩=>true
 | .nilFunc| .nilIface| .pointer none| .map none| .slice none 0 0=>true
 |_=>false
inductive V(S:pr):PD->Value->Prop
 |bool (b:Bool):V S (.bool b) (.bool b)
 |int (k:IntKind) (n:Int):V S (.int k n) (.int k n)
 |str (s:List UInt8):V S (.str s) (.string ⟨s.toArray⟩)
 |raw (v:Value) (h:Bi v=true):V S (.raw v) v
 |agg (cs:List PD) (vs:Array Value) (hl:vs.size=cs.length)
   (h:∀(i:Nat)p v,cs[i]? =some p->vs[i]? =some v->V S p v):V S (.agg cs) (.agg vs)
 |nil (a:Option Addr) (c:Nat):V S (.lst []) (.slice a 0 c)
 |lst (es:List PD) (b o c sz:Nat) (f:Nat->Nat->Value) (hc:es.length<=c) (hsz:∀e∈es,e.cells.length=sz)
   (hS:∀(i:Nat)e(j:Nat)x,es[i]? =some e->e.cells[j]? =some x->S ⟨b,o+i*sz+j,none⟩=some (f i j))
   (hV:∀(i:Nat)e(j:Nat)x,es[i]? =some e->e.cells[j]? =some x->V S x (f i j)):
   V S (.lst es) (.slice (some ⟨b,o,none⟩) es.length c)
def Sub(S S':pr):Prop:=∀a v,S a=some v->S' a=some v
theorem Sub.refl(S:pr):Sub S S:=fun _ _ h=>h
theorem Sub.trans{S S' c:pr}(h:Sub S S')(f:Sub S' c):Sub S c:=fun a v g=>f a v (h a v g)
theorem V.mono{S S':pr}(hs:Sub S S'){p:PD}{v:Value}(h:V S p v):V S' p v:=by
 induction h with
 |bool b=>exact .bool b
 |int k n=>exact .int k n
 |str s=>exact .str s
 |raw v h=>exact .raw v h
 |agg cs vs r _ l=>exact .agg cs vs r l
 |nil a c=>exact .nil a c
 |lst es b o c sz f hc g hS _ l=>exact .lst es b o c sz f hc g (fun i e j x h1 q=>hs _ _ (hS i e j x h1 q)) l
def pB:Value->Option Nat
 | .slice (some a) _ (_+1)=>some a.block
 |_=>none
def FzOk(c:Nat×Nat)(cap sz:Nat):Prop:=c=(0,0)∨(c.1=cap∧sz=1)
def qM(w:World)(e:TypeId)(sz:Nat)(v:Value)(n:Nat)(xs:List Value):Prop:=
 xs.length = n * sz ∧ ((v = .slice none 0 0 ∧ n = 0) ∨
  ∃g cap cur c,v= .slice (some ⟨g,0,none⟩) n cap∧FzOk c cap sz∧w.heap[g]? =some (.cells cur e c)∧n<=cap∧cap<=maxLen∧cur.size=cap*sz∧cur.toList.take (n*sz)=xs)
theorem qM.of{w:World}{e:TypeId}{base sz n:Nat}{v:Value}{xs:List Value}(h:w.ownsRow base e sz v n xs):qM w e sz v n xs:=
 ⟨h.1,h.2.imp id fun⟨g,cap,cur,h1,_,c⟩=>⟨g,cap,cur,(0,0),h1,.inl rfl,c⟩⟩
theorem qM.rz{w:World}{e:TypeId}{sz n:Nat}{v:Value}{xs:List Value}(h:qM w e sz v n xs)(h1:sz≠1):w.ownsRow 0 e sz v n xs:=
 ⟨h.1, h.2.imp id fun ⟨g, cap, cur, _, f, c, j⟩ => by
  rcases c with rfl|⟨_,c⟩
  ·exact⟨g,cap,cur,f,Nat.zero_le _,j⟩
  ·exact(h1 c).elim⟩
theorem qM.cells{w:World}{e:TypeId}{sz n g m c:Nat}{v:Value}{xs:List Value}(h:qM w e sz v n xs)(p:v= .slice (some ⟨g,0,none⟩) m c):
  ∀(j:Nat)u,xs[j]? =some u->w.cell? ((⟨g,0,none⟩:Addr).add j)=some u:=by
 intro j u l
 rcases h.2 with⟨he,_⟩|⟨B,cap,cur,z,he,t,x,y,q,r,f⟩
 ·rw [p]at he;cases he
 rw [p]at he
 cases he
 have k:(⟨g,0,none⟩:Addr).add j=⟨g,j,none⟩:=by unfold Addr.add;split<;>simp_all
 rw [k]
 simp only [World.cell?,x]
 rw [<-f,List.getElem?_take]at l
 split at l
 ·simpa using l
 ·cases l
theorem qM.lt{w:World}{e:TypeId}{sz n:Nat}{v:Value}{xs:List Value}(h:qM w e sz v n xs){b:Nat}(c:v.ownBlock=some b):b<w.heap.size:=by
 rcases h.2 with⟨rfl,_⟩|⟨g,cap,cur,j,rfl,_,f,_⟩
 ·cases c
 ·cases c
  exact(Array.getElem?_eq_some_iff.1 f).1
def rowAt(w:World)(e:TypeId)(sz:Nat)(v:Value)(n:Nat)(xs:List Value):Prop:=
 qM w e sz v n xs∨(n=0∧xs=[]∧∃a,v= .slice a 0 0)
theorem rowAt.rz{w:World}{e:TypeId}{sz n:Nat}{v:Value}{xs:List Value}(h:rowAt w e sz v n xs)(c:0<n):qM w e sz v n xs:=by
 rcases h with h|⟨h,_⟩
 ·exact h
 ·omega
theorem rowAt.len{w:World}{e:TypeId}{sz n:Nat}{v:Value}{xs:List Value}(h:rowAt w e sz v n xs):xs.length=n*sz:=by
 rcases h with h|⟨rfl,rfl,_⟩
 ·exact h.1
 ·simp
theorem tp{v:Value}{b:Nat}(h:pB v=some b):v.ownBlock=some b:=by
 unfold pB at h
 split at h
 ·exact h
 ·cases h
theorem rowAt.hdr{w:World}{e:TypeId}{sz n:Nat}{v:Value}{xs:List Value}(h:rowAt w e sz v n xs):∃a c,v= .slice a n c∧n<=c:=by
 rcases h with⟨_,⟨rfl,rfl⟩|⟨g,cap,cur,f,rfl,_,_,h,_⟩⟩|⟨rfl,_,a,rfl⟩
 ·exact⟨none,0,rfl,B6 _⟩
 ·exact⟨_,_,rfl,h⟩
 ·exact⟨a,0,rfl,B6 _⟩
theorem rowAt.lt{w:World}{e:TypeId}{sz n:Nat}{v:Value}{xs:List Value}(h:rowAt w e sz v n xs){b:Nat}(c:pB v=some b):b<w.heap.size:=by
 rcases h with h|⟨_,_,a,rfl⟩
 ·exact h.lt (tp c)
 ·cases a<;>cases c
theorem rowAt.cI{w w':World}{e:TypeId}{sz n:Nat}{v:Value}{xs:List Value}(h:rowAt w e sz v n xs)(k:∀b,pB v=some b->w'.heap[b]? =w.heap[b]?):rowAt w' e sz v n xs:=by
 rcases h with⟨h1,j⟩|h
 ·rcases j with p|⟨g,cap,cur,f,rfl,c,l,q,r,t⟩
  ·exact .inl ⟨h1,.inl p⟩
  ·cases cap with
   |zero=>
    obtain rfl:n=0:=by omega
    exact .inr ⟨rfl,List.eq_nil_of_length_eq_zero (by simpa using h1),_,rfl⟩
   |succ cap=>exact .inl ⟨h1,.inr ⟨g,_,cur,f,rfl,c,by rw [k g rfl];exact l,q,r,t⟩⟩
 ·exact .inr h
inductive Loc where
 |var (b:Nat)
 |arr (ver:Nat) (e:TypeId) (sz:Nat) (hdr:Value)
 |dead
 |map (b:Nat)
 |nest (ver:Nat) (e:TypeId) (sz:Nat) (hdr:Value) (bs:List Nat)
def Loc.block:Loc->Option Nat
 | .var b=>some b
 | .arr _ _ _ hdr=>pB hdr
 | .dead=>none
 | .map b=>some b
 | .nest _ _ _ hdr _=>pB hdr
def Loc.has:Loc->Nat->Prop
 | .nest _ _ _ hdr bs,b=>b∈(pB hdr).toList++bs
 | .var c,b=>some c=some b
 | .arr _ _ _ hdr,b=>pB hdr=some b
 | .dead,b=>(none:Option Nat)=some b
 | .map c,b=>some c=some b
inductive Loc.Row:Loc->Nat->TypeId->Nat->Value->Prop
 |arr {ver:Nat} {e:TypeId} {sz:Nat} {hdr:Value}:Loc.Row (.arr ver e sz hdr) ver e sz hdr
 |nest {ver:Nat} {e:TypeId} {sz:Nat} {hdr:Value} {bs:List Nat}:Loc.Row (.nest ver e sz hdr bs) ver e sz hdr
inductive Loc.Map:Loc->Nat->Prop
 |map {b:Nat}:Loc.Map (.map b) b
inductive tq:Loc->Loc->Prop
 |same (L:Loc):tq L L
 |dead (L:Loc):tq L .dead
 |arr {ver ver':Nat} {e e':TypeId} {sz sz':Nat} {hdr hdr':Value} (h:ver<ver'):tq (.arr ver e sz hdr) (.arr ver' e' sz' hdr')
 |nest {ver ver':Nat} {e e':TypeId} {sz sz':Nat} {hdr hdr':Value} {bs bs':List Nat} (h:ver<ver'):tq (.nest ver e sz hdr bs) (.nest ver' e' sz' hdr' bs')
 |held {ver:Nat} {e:TypeId} {sz:Nat} {hdr:Value} {bs bs':List Nat}:tq (.nest ver e sz hdr bs) (.nest ver e sz hdr bs')
theorem tq.trans{a b c:Loc}(h:tq a b)(f:tq b c):tq a c:=by
 cases h with
 |same=>exact f
 |dead=>cases f<;>exact .dead _
 |arr h1=>cases f with
  |same=>exact .arr h1
  |dead=>exact .dead _
  |arr g=>exact .arr za
 |nest h1=>cases f with
  |same=>exact .nest h1
  |dead=>exact .dead _
  |nest g=>exact .nest za
  |held=>exact .nest h1
 |held=>cases f with
  |same=>exact .held
  |dead=>exact .dead _
  |nest g=>exact .nest g
  |held=>exact .held
abbrev pY:=Nat->Option Loc
inductive R(S:pr)(loc:pY):RV->Value->Prop
 |d {p:PD} {v:Value} (h:V S p v):R S loc (.d p) v
 |undef:R S loc .undef Go.undef
 |junk (v:Value):R S loc .junk v
 |px:R S loc .px (.slice none 0 0)
 |agg (cs:List RV) (vs:Array Value) (hl:vs.size=cs.length)
   (h:∀(i:Nat)c v,cs[i]? =some c->vs[i]? =some v->R S loc c v):R S loc (.agg cs) (.agg vs)
 |tup (cs:List RV) (vs:Array Value) (hl:vs.size=cs.length)
   (h:∀(i:Nat)c v,cs[i]? =some c->vs[i]? =some v->R S loc c v):R S loc (.tup cs) (.tuple vs)
 |ref (id ver:Nat) (v:Value) (L:Loc) (ho:v.oneCell'=true) (hL:loc id=some L) (h:∀ver' e sz hdr,L.Row ver' e sz hdr->ver<=ver'∧(ver=ver'->v=hdr)):R S loc (.ref id ver) v
 |ptr (id off:Nat) (v:Value) (L:Loc) (ho:v.oneCell'=true) (hL:loc id=some L) (h:∀b,(L= .var b->v= .pointer (some ⟨b,off,none⟩))∧(L.Map b->v= .map (some b))):R S loc (.ptr id off) v
 |elt (id ver i o:Nat) (v:Value) (L:Loc) (ho:v.oneCell'=true) (hL:loc id=some L)
   (h:∀ver' e sz hdr,L.Row ver' e sz hdr->ver<=ver'∧(ver=ver'->∃g n c,hdr= .slice (some ⟨g,0,none⟩) n c∧v= .pointer (some ⟨g,i*sz+o,none⟩))):R S loc (.elt id ver i o) v
 |view (id ver lo hi:Nat) (v:Value) (L:Loc) (ho:v.oneCell'=true) (hL:loc id=some L)
   (h:∀ver' e sz hdr,L= .arr ver' e sz hdr->ver<=ver'∧(ver=ver'->(lo=hi∧∃a,v= .slice a 0 0)∨∃g n c,hdr= .slice (some ⟨g,0,none⟩) n c∧lo<=hi∧hi<=c∧v= .slice (some ⟨g,lo*sz,none⟩) (hi-lo) (c-lo))):R S loc (.view id ver lo hi) v
 |fview (id ver hi:Nat) (v:Value) (L:Loc) (ho:v.oneCell'=true) (hL:loc id=some L)
   (h:∀ver' e sz hdr,L= .arr ver' e sz hdr->ver<=ver'∧(ver=ver'->∃a n c,hdr= .slice a n c∧hi<=n∧v= .slice a hi hi)):R S loc (.fview id ver hi) v
 |clo (f:FuncId) (cs:List RV) (vs:Array Value) (hl:vs.size=cs.length)
   (h:∀(i:Nat)c v,cs[i]? =some c->vs[i]? =some v->R S loc c v):R S loc (.clo f cs) (.func (.func f) #[] vs)
 |err (t:TypeId) (x:Value):R S loc (.err false) (.iface t x)
 |noerr:R S loc (.err true) .nilIface
 |dfull (es:List PD) (a:Option Addr) (h:V S (.lst es) (.slice a es.length es.length)):R S loc (.dfull es) (.slice a es.length es.length)
 |ifc (t:TypeId) (c:RV) (v:Value) (h:R S loc c v):R S loc (.ifc t c) (.iface t v)
 |cptr (cs:List PD) (b o:Nat) (f:Nat->Value) (hS:∀(j:Nat)c,cs[j]? =some c->S ⟨b,o+j,none⟩=some (f j))
   (hV:∀(j:Nat)c,cs[j]? =some c->V S c (f j)):R S loc (.cptr cs) (.pointer (some ⟨b,o,none⟩))
 |plit (cs:List RV) (b o c:Nat) (f:Nat->Value) (hc:cs.length<=c) (hS:∀(j:Nat)x,cs[j]? =some x->S ⟨b,o+j,none⟩=some (f j))
   (hV:∀(j:Nat)x,cs[j]? =some x->R S loc x (f j)):R S loc (.plit cs) (.slice (some ⟨b,o,none⟩) cs.length c)
 |pcp (c:RV) (b o:Nat) (u:Value) (hS:S ⟨b,o,none⟩=some u) (hV:R S loc c u):R S loc (.pcp c) (.pointer (some ⟨b,o,none⟩))
def pD(loc loc':pY):Prop:=
 ∀id L,loc id=some L->∃c,loc' id=some c∧tq L c
theorem pD.refl(loc:pY):pD loc loc:=fun _ L h=>⟨L,h,.same L⟩
theorem R.mono{S S':pr}{loc loc':pY}(hs:Sub S S')(y:pD loc loc'){rv:RV}{v:Value}(h:R S loc rv v):R S' loc' rv v:=by
 induction h with
 |d h=>exact .d (h.mono hs)
 |undef=>exact .undef
 |junk v=>exact .junk v
 |px=>exact .px
 |agg cs vs hlen _ p=>exact .agg cs vs hlen p
 |tup cs vs hlen _ p=>exact .tup cs vs hlen p
 |ref id ver v L ho r h=>
  obtain⟨q,k,hc⟩:=y id L r
  refine .ref id ver v q ho k ?_
  intro g e sz hdr he
  cases hc with
  |same=>exact h g e sz hdr he
  |dead=>cases he
  |arr l=>
   cases he
   have:=(h _ _ _ _ .arr).1
   exact⟨za,fun heq=>za⟩
  |nest l=>
   cases he
   have:=(h _ _ _ _ .nest).1
   exact⟨za,fun heq=>za⟩
  |held=>cases he;exact h _ _ _ _ .nest
 |ptr id off v L ho r h=>
  obtain⟨q,k,hc⟩:=y id L r
  refine .ptr id off v q ho k ?_
  intro b
  cases hc with
  |same=>exact h b
  |dead=>exact⟨(fun he=>by cases he),(fun he=>by cases he)⟩
  |arr l=>exact⟨(fun he=>by cases he),(fun he=>by cases he)⟩
  |nest l=>exact⟨(fun he=>by cases he),(fun he=>by cases he)⟩
  |held=>exact⟨(fun he=>by cases he),(fun he=>by cases he)⟩
 |elt id ver i o v L ho r h=>
  obtain⟨q,k,hc⟩:=y id L r
  refine .elt id ver i o v q ho k ?_
  intro g e sz hdr he
  cases hc with
  |same=>exact h g e sz hdr he
  |dead=>cases he
  |arr l=>
   cases he
   have:=(h _ _ _ _ .arr).1
   exact⟨za,fun heq=>za⟩
  |nest l=>
   cases he
   have:=(h _ _ _ _ .nest).1
   exact⟨za,fun heq=>za⟩
  |held=>cases he;exact h _ _ _ _ .nest
 |view id ver lo hi v L ho r h=>
  obtain⟨q,k,hc⟩:=y id L r
  refine .view id ver lo hi v q ho k ?_
  intro g e sz hdr he
  cases hc with
  |same=>exact h g e sz hdr he
  |dead=>cases he
  |arr l=>
   cases he
   have:=(h _ _ _ _ rfl).1
   exact⟨za,fun heq=>za⟩
  |nest l=>cases he
  |held=>cases he
 |fview id ver hi v L ho r h=>
  obtain⟨q,k,hc⟩:=y id L r
  refine .fview id ver hi v q ho k ?_
  intro g e sz hdr he
  cases hc with
  |same=>exact h g e sz hdr he
  |dead=>cases he
  |arr l=>
   cases he
   have:=(h _ _ _ _ rfl).1
   exact⟨za,fun heq=>za⟩
  |nest l=>cases he
  |held=>cases he
 |clo f cs vs hlen _ p=>exact .clo f cs vs hlen p
 |err t x=>exact .err t x
 |noerr=>exact .noerr
 |dfull es a h=>exact .dfull es a (h.mono hs)
 |ifc t c v _ p=>exact .ifc t c v p
 |cptr cs b o f hS hV=>exact .cptr cs b o f (fun j c h=>hs _ _ (hS j c h)) (fun j c h=>(hV j c h).mono hs)
 |plit cs b o c f hc hS _ p=>exact .plit cs b o c f hc (fun j x h=>hs _ _ (hS j x h)) p
 |pcp c b o u hS _ p=>exact .pcp c b o u (hs _ _ hS) p
structure Flat(S:pr)(sz:Nat)(es:List PD)(xs:List Value):Prop where
 len:∀e∈es,e.cells.length=sz
 one:∀u∈xs,u.oneCell'=true
 cell:∀(i:Nat)e(j:Nat)x,es[i]? =some e->e.cells[j]? =some x->∃u,xs[i*sz+j]? =some u∧V S x u
theorem Flat.mono{S S':pr}(hs:Sub S S'){sz:Nat}{es:List PD}{xs:List Value}(h:Flat S sz es xs):Flat S' sz es xs:=
 ⟨h.len,h.one,fun i e j x h1 c=>let⟨u,f,g⟩:=h.cell i e j x h1 c;⟨u,f,g.mono hs⟩⟩
structure xl(S:pr)(sz:Nat)(es:List PD)(xs:List Value)(i o:Nat):Prop where
 len:∀e∈es,e.cells.length=sz
 one:∀u∈xs,u.oneCell'=true
 cell:∀(k:Nat)e(j:Nat)x,es[k]? =some e->e.cells[j]? =some x->¬(k=i∧j=o)->∃u,xs[k*sz+j]? =some u∧V S x u
theorem xl.mono{S S':pr}(hs:Sub S S'){sz:Nat}{es:List PD}{xs:List Value}{i o:Nat}(h:xl S sz es xs i o):xl S' sz es xs i o:=
 ⟨h.len,h.one,fun k e j x h1 c f=>let⟨u,g,l⟩:=h.cell k e j x h1 c f;⟨u,g,l.mono hs⟩⟩
inductive NCR(P:Program)(S:pr)(loc:pY)(w:World):NC->Value->List Nat->Prop
 |val (rv:RV) (v:Value) (h:R S loc rv v) (h1:v.oneCell'=true):NCR P S loc w (.val rv) v []
 |row (e:TypeId) (es:List PD) (sz:Nat) (v:Value) (xs:List Value) (hsz:szT P e=some sz) (how:rowAt w e sz v es.length xs) (hf:Flat S sz es xs):
   NCR P S loc w (.row e es) v (pB v).toList
inductive NCs(P:Program)(S:pr)(loc:pY)(w:World):List NC->List Value->List Nat->Prop
 |nil:NCs P S loc w [] [] []
 |cons {c:NC} {v:Value} {b bs:List Nat} {cs:List NC} {vs:List Value} (h:NCR P S loc w c v b) (t:NCs P S loc w cs vs bs):NCs P S loc w (c::cs) (v::vs) (b++bs)
inductive ta(P:Program)(S:pr)(loc:pY)(w:World):Box->Loc->Prop
 |var (cs:List RV) (b:Nat) (t:TypeId) (vs:Array Value) (hw:w.heap[b]? =some (.cells vs t (0,0))) (hl:vs.size=cs.length)
   (h:∀(i:Nat)c v,cs[i]? =some c->vs[i]? =some v->R S loc c v):ta P S loc w (.var cs) (.var b)
 |arr (ver:Nat) (e:TypeId) (es:List PD) (sz:Nat) (hdr:Value) (xs:List Value) (hsz:szT P e=some sz)
   (how:rowAt w e sz hdr es.length xs) (hf:Flat S sz es xs):ta P S loc w (.arr ver e es) (.arr ver e sz hdr)
 |dead (L:Loc) (hL:L= .dead):ta P S loc w .dead L
 |map (kt vt:TypeId) (es:List (PD×PD)) (b clock:Nat) (ents:Array MapEntry) (hw:w.heap[b]? =some (.map ents clock)) (hl:ents.size=es.length)
   (h:∀(i:Nat)k x en,es[i]? =some (k,x)->ents[i]? =some en->V S k en.key∧V S x en.val):ta P S loc w (.map kt vt es) (.map b)
 |nest (ver:Nat) (e e2:TypeId) (ess:List (List PD)) (h:Option (Nat×RV)) (hdr:Value) (xs:List Value) (bs:List Nat) (hsz:szT P e=some 1) (hs2:∃k,szT P e2=some (k+1))
   (how:rowAt w e 1 hdr ess.length xs) (hc:NCs P S loc w (ncs e2 ess h) xs bs) (hnd:((pB hdr).toList++bs).Nodup) (hi:∀i rv,h=some (i,rv)->i<ess.length):ta P S loc w (.nest ver e e2 ess h) (.nest ver e 1 hdr bs)
 |hole (ver:Nat) (e:TypeId) (es:List PD) (i o:Nat) (rv:RV) (sz:Nat) (hdr:Value) (xs:List Value) (u:Value) (hsz:szT P e=some sz)
   (how:rowAt w e sz hdr es.length xs) (hf:xl S sz es xs i o) (hi:i<es.length) (ho:o<sz) (hu:xs[i*sz+o]? =some u) (hr:R S loc rv u):ta P S loc w (.hole ver e es i o rv) (.arr ver e sz hdr)
structure tR where
 snap:pr
 mono:Prop
 objs:List (Nat×Obj)
structure Frame(E:Prop)(B0:List Nat)(w0 w:World):Prop where
 os:w.os=w0.os
 tape:w.tape=w0.tape
 output:w.output=w0.output
 size:w0.heap.size<=w.heap.size
 block:∀b,b<w0.heap.size->b∉B0->w.heap[b]? =w0.heap[b]?
 drawn:E->w0.drawn<=w.drawn
theorem Frame.refl(E:Prop)(B0:List Nat)(w:World):Frame E B0 w w:=⟨rfl,rfl,rfl,B6 _,fun _ _ _=>rfl,fun _=>B6 _⟩
structure Ctx where
 w0:World
 B0:List Nat
 S0:pr
 par:Nat->Option Loc
 nt:Nat
 base:tR
structure Sim(P:Program)(X:Ctx)(S:pr)(loc:pY)(s:St)(tm:Array Value)(w:World):Prop where
 nt:tm.size=X.nt
 pI:∀t rv,s.pI t=some rv->∃v,tm[t]? =some v∧R S loc rv v
 boxes:∀id bx,s.boxes id=some bx->∃L,loc id=some L∧ta P S loc w bx L
 dom:∀id L,loc id=some L->∃bx,s.boxes id=some bx
 imm:∀ad v,S ad=some v->w.cell? ad=some v
 ti:∀ad v,S ad=some v->v.oneCell'=true
 rK:∀id L b,loc id=some L->L.has b->∀o,S ⟨b,o,none⟩=none
 inj:∀id id' L L' b,loc id=some L->loc id'=some L'->L.has b->L'.has b->id=id'
 own:∀id L b,loc id=some L->L.has b->b∈X.B0∨X.w0.heap.size<=b
 frame:Frame X.base.mono X.B0 X.w0 w
 s0:Sub X.S0 S
 par:∀k L0,X.par k=some L0->∃L,loc k=some L∧tq L0 L
 uY:∀ad v,S ad=some v->X.S0 ad=some v∨X.w0.heap.size<=ad.block∨ad.block∈X.B0
 bs:Sub X.base.snap S
 ob:∀x∈X.base.objs,w.heap[x.1]? =some x.2∧∃o v,X.base.snap ⟨x.1,o,none⟩=some v
def tS(P:Program)(X:Ctx)(s:St)(a:Act)(w:World):Prop:=a.defers=[]∧∃S loc,Sim P X S loc s a.tmps w
theorem M.bind_some{α β:Type}{m:M α}{f:α->M β}{b:pP}{x:β}{r:List Nat}(h:M.bind m f b=some (x,r,true)):
  ∃a c g,m b=some (a,c,true)∧f a b=some (x,g,true)∧r=c++g:=by
 unfold M.bind at h
 cases hm:m b with
 |none=>simp [hm]at h
 |some t=>
  obtain⟨a,c,j⟩:=t
  simp only [hm]at h
  cases hf:f a b with
  |none=>simp [hf]at h
  |some t2=>
   obtain⟨y,g,k⟩:=t2
   simp only [hf,B7,Prod.mk.injEq,Bool.and_eq_true]at h
   obtain⟨rfl,rfl,rfl,rfl⟩:=h
   exact⟨a,c,g,rfl,hf,rfl⟩
theorem M.get_some{id:Nat}{b:pP}{x:Box}{r:List Nat}{c:Bool}(h:M.get id b=some (x,r,c)):b id=some x∧r=[id]∧c=true:=by
 unfold M.get at h
 cases f:b id<;>simp [f]at h
 obtain⟨rfl,rfl,rfl⟩:=h
 exact⟨rfl,rfl,rfl⟩
theorem M.qj{id:Nat}{b:pP}{x:Unit}{r:List Nat}{c:Bool}(h:M.pS id b=some (x,r,c)):b id=none∧r=[id]∧c=true:=by
 unfold M.pS at h
 cases f:b id<;>simp [f]at h
 exact⟨rfl,h.1.symm,h.2⟩
theorem M.pj{α:Type}{a x:α}{b:pP}{r:List Nat}{c:Bool}(h:M.pure a b=some (x,r,c)):x=a∧r=[]∧c=true:=by
 simp only [M.pure,B7,Prod.mk.injEq]at h
 exact⟨h.1.symm,h.2.1.symm,h.2.2.symm⟩
theorem M.pq{α:Type}{a x:α}{b:pP}{r:List Nat}{k c:Bool}(h:M.py k a b=some (x,r,c)):x=a∧r=[]∧c=k:=by
 simp only [M.py,B7,Prod.mk.injEq]at h
 exact⟨h.1.symm,h.2.1.symm,h.2.2.symm⟩
theorem M.BK{α:Type}{x:α}{b:pP}{r:List Nat}{c:Bool}(h:(M.fail:M α) b=some (x,r,c)):False:=by
 simp [M.fail]at h
theorem fE{α:Type}{x:α}(b:pP){r:List Nat}{c:Bool}{C:Prop}(h:(M.fail:M α) b=some (x,r,c)):C:=(M.BK h).elim
theorem R.rE(S:pr)(loc:pY)(v:Value):R S loc (rE v) v:=by
 unfold Dw.rE
 split<;>first
  |exact .junk _
  |exact .px
  |exact .d (.bool _)
  |exact .d (.int _ _)
  |exact .d (.raw _ rfl)
  |exact .d (.str _)
theorem R.pX(S:pr)(loc:pY)(v:Value):R S loc (pX v) v:=by
 unfold Dw.pX
 split
 ·rename_i cs
  refine .agg _ cs sm ?_
  intro i c v h1 f
  simp only [List.getElem?_map,Array.getElem?_toList,f,Option.map_some,B7]at h1
  subst h1
  exact R.rE S loc v
 ·exact R.rE S loc _
section
variable {P:Program}{X:Ctx}{S:pr}{loc:pY}{s:St}{a:Act}{w:World}
theorem Sim.opd(h:Sim P X S loc s a.tmps w){x:Operand}{rv:RV}(c:s.opd x=some rv):R S loc rv (a.eval x):=by
 cases x with
 |tmp t=>
  obtain⟨v,k,j⟩:=h.pI t rv c
  simp only [Act.eval,Array.getD_eq_getD_getElem?,k,Option.getD_some]
  exact j
 |const v=>simp only [St.opd,B7]at c;subst c;exact R.pX S loc v
 |global g=>simp [St.opd]at c
 |func f=>simp only [St.opd,B7]at c;subst c;exact .d (.raw _ rfl)
theorem Sim.put(h:Sim P X S loc s a.tmps w){rv:RV}{v:Value}(q:R S loc rv v)(dst:Option Nat)(p:∀d,dst=some d->d<X.nt):
  Sim P X S loc (s.put dst rv) (a.put dst v).tmps w:=by
 cases dst with
 |none=>exact h
 |some d=>
  refine⟨?_,?_,h.boxes,h.dom,h.imm,h.ti,h.rK,h.inj,h.own,h.frame,h.s0,h.par,h.uY,h.bs,h.ob⟩
  ·simp [Act.put,h.nt]
  ·intro t l f
   have g:d<a.tmps.size:=by rw [h.nt];exact p d rfl
   simp only [St.put]at f
   by_cases c:t=d
   ·subst c
    simp only [if_true,B7]at f
    subst f
    exact⟨v,by simp [Act.put,g],q⟩
   ·simp only [c,if_false]at f
    obtain⟨v',k,j⟩:=h.pI t l f
    exact⟨v',by simp [Act.put,Array.getElem?_setIfInBounds_ne (Ne.symm c),k],j⟩
theorem tS.put(h:tS P X s a w)(dst:Option Nat)(f:∀d,dst=some d->d<X.nt){rv:RV}{v:Value}(g:∀S loc,Sim P X S loc s a.tmps w->R S loc rv v):
  tS P X (s.put dst rv) (a.put dst v) w:=by
 obtain⟨c,S,loc,h⟩:=h
 exact⟨by cases dst<;>exact c,S,loc,h.put (g S loc h) dst f⟩
end
end Go.Dw
