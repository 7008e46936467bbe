
import Derived.Test.YthkfkgoddhehcaaGreatDwEval
import Derived.Laws.AppendOwn
import Derived.Laws.Strings
import Derived.Laws.Strings2
import Derived.LoopN
open Nat renaming le_refl->EB
open Option.some renaming injEq->EC

namespace Go.Dw
abbrev tG:=Addr->Option Value
def DK:Value->Bool
 | .func (.func _) ⟨[]⟩ ⟨[]⟩=>true
 | .func (.func _) ⟨[.agg ⟨[]⟩]⟩ ⟨[]⟩=>true
 | .nilFunc| .nilIface| .pointer none| .map none| .slice none 0 0=>true
 |_=>false
inductive V(S:tG):PD->Value->Prop
 |bool (b:Bool):V S (.bool b) (.bool b)
 |int (k:IntKind) (n:Int):V S (.int k n) (.int k n)
 |str (s:List UInt8):V S (.str s) (.string ⟨s.toArray⟩)
 |raw (v:Value) (h:DK v=true):V S (.raw v) v
 |agg (cs:List PD) (vs:Array Value) (hl:vs.size=cs.length)
   (h:∀(i:Nat)p v,cs[i]? =some p->vs[i]? =some v->V S p v):V S (.agg cs) (.agg vs)
 |nil (a:Option Addr) (c:Nat):V S (.lst []) (.slice a 0 c)
 |lst (es:List PD) (b o c sz:Nat) (f:Nat->Nat->Value) (hc:es.length<=c) (hsz:∀e∈es,e.cells.length=sz)
   (hS:∀(i:Nat)e(j:Nat)x,es[i]? =some e->e.cells[j]? =some x->S ⟨b,o+i*sz+j,none⟩=some (f i j))
   (hV:∀(i:Nat)e(j:Nat)x,es[i]? =some e->e.cells[j]? =some x->V S x (f i j)):
   V S (.lst es) (.slice (some ⟨b,o,none⟩) es.length c)
def Sub(S S':tG):Prop:=∀a v,S a=some v->S' a=some v
theorem Sub.refl(S:tG):Sub S S:=λ_ _ h=>h
theorem Sub.trans{S S' c:tG}(h:Sub S S')(f:Sub S' c):Sub S c:=λa v g=>f a v (h a v g)
theorem V.mono{S S':tG}(hs:Sub S S'){p:PD}{v:Value}(h:V S p v):V S' p v:=by
 induction h with
 |bool b=>exact .bool b
 |int k n=>exact .int k n
 |str s=>exact .str s
 |raw v h=>exact .raw v h
 |agg cs vs r _ l=>exact .agg cs vs r l
 |nil a c=>exact .nil a c
 |lst es b o c sz f hc g hS _ l=>exact .lst es b o c sz f hc g (λi e j x h1 q=>hs _ _ (hS i e j x h1 q)) l
def tM:Value->Option Nat
 | .slice (some a) _ (_+1)=>some a.block
 |_=>none
def FzOk(c:Nat×Nat)(cap sz:Nat):Prop:=c=(0,0)∨(c.1=cap∧sz=1)
def uY(w:World)(e:TypeId)(sz:Nat)(v:Value)(n:Nat)(xs:List Value):Prop:=
 xs.length = n * sz ∧ ((v = .slice none 0 0 ∧ n = 0) ∨
  ∃g cap cur c,v= .slice (some ⟨g,0,none⟩) n cap∧FzOk c cap sz∧w.heap[g]? =some (.cells cur e c)∧n<=cap∧cap<=maxLen∧cur.size=cap*sz∧cur.toList.take (n*sz)=xs)
theorem uY.of{w:World}{e:TypeId}{base sz n:Nat}{v:Value}{xs:List Value}(h:w.ownsRow base e sz v n xs):uY w e sz v n xs:=
 ⟨h.1,h.2.imp id fun⟨g,cap,cur,h1,_,c⟩=>⟨g,cap,cur,(0,0),h1,.inl rfl,c⟩⟩
theorem uY.wj{w:World}{e:TypeId}{sz n:Nat}{v:Value}{xs:List Value}(h:uY w e sz v n xs)(h1:sz≠1):w.ownsRow 0 e sz v n xs:=
 ⟨h.1, h.2.imp id λ⟨g, cap, cur, _, f, c, j⟩ => by
  rcases c with rfl|⟨_,c⟩
  ·exact⟨g,cap,cur,f,Nat.zero_le _,j⟩
  ·exact(h1 c).elim⟩
theorem uY.cells{w:World}{e:TypeId}{sz n g m c:Nat}{v:Value}{xs:List Value}(h:uY w e sz v n xs)(p:v= .slice (some ⟨g,0,none⟩) m c):
  ∀(j:Nat)u,xs[j]? =some u->w.cell? ((⟨g,0,none⟩:Addr).add j)=some u:=by
 intro j u l
 rcases h.2 with⟨he,_⟩|⟨B,cap,cur,z,he,t,x,y,q,r,f⟩
 ·rw [p]at he;cases he
 rw [p]at he
 cases he
 have k:(⟨g,0,none⟩:Addr).add j=⟨g,j,none⟩:=by unfold Addr.add;split<;>simp_all
 rw [k]
 simp only [World.cell?,x]
 rw [<-f,List.getElem?_take]at l
 split at l
 ·simpa using l
 ·cases l
theorem uY.lt{w:World}{e:TypeId}{sz n:Nat}{v:Value}{xs:List Value}(h:uY w e sz v n xs){b:Nat}(c:v.ownBlock=some b):b<w.heap.size:=by
 rcases h.2 with⟨rfl,_⟩|⟨g,cap,cur,j,rfl,_,f,_⟩
 ·cases c
 ·cases c
  exact(Array.getElem?_eq_some_iff.1 f).1
def rowAt(w:World)(e:TypeId)(sz:Nat)(v:Value)(n:Nat)(xs:List Value):Prop:=
 uY w e sz v n xs∨(n=0∧xs=[]∧∃a,v= .slice a 0 0)
theorem rowAt.wj{w:World}{e:TypeId}{sz n:Nat}{v:Value}{xs:List Value}(h:rowAt w e sz v n xs)(c:0<n):uY w e sz v n xs:=by
 rcases h with h|⟨h,_⟩
 ·exact h
 ·omega
theorem rowAt.len{w:World}{e:TypeId}{sz n:Nat}{v:Value}{xs:List Value}(h:rowAt w e sz v n xs):xs.length=n*sz:=by
 rcases h with h|⟨rfl,rfl,_⟩
 ·exact h.1
 ·simp
theorem wW{v:Value}{b:Nat}(h:tM v=some b):v.ownBlock=some b:=by
 unfold tM at h
 split at h
 ·exact h
 ·cases h
theorem rowAt.hdr{w:World}{e:TypeId}{sz n:Nat}{v:Value}{xs:List Value}(h:rowAt w e sz v n xs):∃a c,v= .slice a n c∧n<=c:=by
 rcases h with⟨_,⟨rfl,rfl⟩|⟨g,cap,cur,f,rfl,_,_,h,_⟩⟩|⟨rfl,_,a,rfl⟩
 ·exact⟨none,0,rfl,EB _⟩
 ·exact⟨_,_,rfl,h⟩
 ·exact⟨a,0,rfl,EB _⟩
theorem rowAt.lt{w:World}{e:TypeId}{sz n:Nat}{v:Value}{xs:List Value}(h:rowAt w e sz v n xs){b:Nat}(c:tM v=some b):b<w.heap.size:=by
 rcases h with h|⟨_,_,a,rfl⟩
 ·exact h.lt (wW c)
 ·cases a<;>cases c
theorem rowAt.j0{w w':World}{e:TypeId}{sz n:Nat}{v:Value}{xs:List Value}(h:rowAt w e sz v n xs)(k:∀b,tM v=some b->w'.heap[b]? =w.heap[b]?):rowAt w' e sz v n xs:=by
 rcases h with⟨h1,j⟩|h
 ·rcases j with p|⟨g,cap,cur,f,rfl,c,l,q,r,t⟩
  ·exact .inl ⟨h1,.inl p⟩
  ·cases cap with
   |zero=>
    obtain rfl:n=0:=by omega
    exact .inr ⟨rfl,List.eq_nil_of_length_eq_zero (by simpa using h1),_,rfl⟩
   |succ cap=>exact .inl ⟨h1,.inr ⟨g,_,cur,f,rfl,c,by rw [k g rfl];exact l,q,r,t⟩⟩
 ·exact .inr h
inductive Loc where
 |var (b:Nat)
 |arr (ver:Nat) (e:TypeId) (sz:Nat) (hdr:Value)
 |dead
 |nest (ver:Nat) (e:TypeId) (sz:Nat) (hdr:Value) (bs:List Nat)
def Loc.block:Loc->Option Nat
 | .var b=>some b
 | .arr _ _ _ hdr=>tM hdr
 | .dead=>none
 | .nest _ _ _ hdr _=>tM hdr
def Loc.has:Loc->Nat->Prop
 | .nest _ _ _ hdr bs,b=>b∈(tM hdr).toList++bs
 | .var c,b=>some c=some b
 | .arr _ _ _ hdr,b=>tM hdr=some b
 | .dead,b=>(none:Option Nat)=some b
inductive Loc.Row:Loc->Nat->TypeId->Nat->Value->Prop
 |arr {ver:Nat} {e:TypeId} {sz:Nat} {hdr:Value}:Loc.Row (.arr ver e sz hdr) ver e sz hdr
 |nest {ver:Nat} {e:TypeId} {sz:Nat} {hdr:Value} {bs:List Nat}:Loc.Row (.nest ver e sz hdr bs) ver e sz hdr
inductive Loc.Map:Loc->Nat->Prop
inductive wY:Loc->Loc->Prop
 |same (L:Loc):wY L L
 |dead (L:Loc):wY L .dead
 |arr {ver ver':Nat} {e e':TypeId} {sz sz':Nat} {hdr hdr':Value} (h:ver<ver'):wY (.arr ver e sz hdr) (.arr ver' e' sz' hdr')
 |nest {ver ver':Nat} {e e':TypeId} {sz sz':Nat} {hdr hdr':Value} {bs bs':List Nat} (h:ver<ver'):wY (.nest ver e sz hdr bs) (.nest ver' e' sz' hdr' bs')
 |held {ver:Nat} {e:TypeId} {sz:Nat} {hdr:Value} {bs bs':List Nat}:wY (.nest ver e sz hdr bs) (.nest ver e sz hdr bs')
theorem wY.trans{a b c:Loc}(h:wY a b)(f:wY b c):wY a c:=by
 cases h with
 |same=>exact f
 |dead=>cases f<;>exact .dead _
 |arr h1=>cases f with
  |same=>exact .arr h1
  |dead=>exact .dead _
  |arr g=>exact .arr za
 |nest h1=>cases f with
  |same=>exact .nest h1
  |dead=>exact .dead _
  |nest g=>exact .nest za
  |held=>exact .nest h1
 |held=>cases f with
  |same=>exact .held
  |dead=>exact .dead _
  |nest g=>exact .nest g
  |held=>exact .held
abbrev ui:=Nat->Option Loc
inductive R(S:tG)(loc:ui):RV->Value->Prop
 |d {p:PD} {v:Value} (h:V S p v):R S loc (.d p) v
 |undef:R S loc .undef Go.undef
 |junk (v:Value):R S loc .junk v
 |tC:R S loc .tC (.slice none 0 0)
 |agg (cs:List RV) (vs:Array Value) (hl:vs.size=cs.length)
   (h:∀(i:Nat)c v,cs[i]? =some c->vs[i]? =some v->R S loc c v):R S loc (.agg cs) (.agg vs)
 |tup (cs:List RV) (vs:Array Value) (hl:vs.size=cs.length)
   (h:∀(i:Nat)c v,cs[i]? =some c->vs[i]? =some v->R S loc c v):R S loc (.tup cs) (.tuple vs)
 |ref (id ver:Nat) (v:Value) (L:Loc) (ho:v.oneCell'=true) (hL:loc id=some L) (h:∀ver' e sz hdr,L.Row ver' e sz hdr->ver<=ver'∧(ver=ver'->v=hdr)):R S loc (.ref id ver) v
 |ptr (id off:Nat) (v:Value) (L:Loc) (ho:v.oneCell'=true) (hL:loc id=some L) (h:∀b,(L= .var b->v= .pointer (some ⟨b,off,none⟩))∧(L.Map b->v= .map (some b))):R S loc (.ptr id off) v
 |elt (id ver i o:Nat) (v:Value) (L:Loc) (ho:v.oneCell'=true) (hL:loc id=some L)
   (h:∀ver' e sz hdr,L.Row ver' e sz hdr->ver<=ver'∧(ver=ver'->∃g n c,hdr= .slice (some ⟨g,0,none⟩) n c∧v= .pointer (some ⟨g,i*sz+o,none⟩))):R S loc (.elt id ver i o) v
 |view (id ver lo hi:Nat) (v:Value) (L:Loc) (ho:v.oneCell'=true) (hL:loc id=some L)
   (h:∀ver' e sz hdr,L= .arr ver' e sz hdr->ver<=ver'∧(ver=ver'->(lo=hi∧∃a,v= .slice a 0 0)∨∃g n c,hdr= .slice (some ⟨g,0,none⟩) n c∧lo<=hi∧hi<=c∧v= .slice (some ⟨g,lo*sz,none⟩) (hi-lo) (c-lo))):R S loc (.view id ver lo hi) v
 |clo (f:FuncId) (cs:List RV) (vs:Array Value) (hl:vs.size=cs.length)
   (h:∀(i:Nat)c v,cs[i]? =some c->vs[i]? =some v->R S loc c v):R S loc (.clo f cs) (.func (.func f) #[] vs)
 |err (t:TypeId) (x:Value):R S loc (.err false) (.iface t x)
 |noerr:R S loc (.err true) .nilIface
 |ifc (t:TypeId) (c:RV) (v:Value) (h:R S loc c v):R S loc (.ifc t c) (.iface t v)
 |cptr (cs:List PD) (b o:Nat) (f:Nat->Value) (hS:∀(j:Nat)c,cs[j]? =some c->S ⟨b,o+j,none⟩=some (f j))
   (hV:∀(j:Nat)c,cs[j]? =some c->V S c (f j)):R S loc (.cptr cs) (.pointer (some ⟨b,o,none⟩))
 |plit (cs:List RV) (b o c:Nat) (f:Nat->Value) (hc:cs.length<=c) (hS:∀(j:Nat)x,cs[j]? =some x->S ⟨b,o+j,none⟩=some (f j))
   (hV:∀(j:Nat)x,cs[j]? =some x->R S loc x (f j)):R S loc (.plit cs) (.slice (some ⟨b,o,none⟩) cs.length c)
 |pcp (c:RV) (b o:Nat) (u:Value) (hS:S ⟨b,o,none⟩=some u) (hV:R S loc c u):R S loc (.pcp c) (.pointer (some ⟨b,o,none⟩))
def tO(loc loc':ui):Prop:=
 ∀id L,loc id=some L->∃c,loc' id=some c∧wY L c
theorem tO.refl(loc:ui):tO loc loc:=λ_ L h=>⟨L,h,.same L⟩
theorem R.mono{S S':tG}{loc loc':ui}(hs:Sub S S')(y:tO loc loc'){rv:RV}{v:Value}(h:R S loc rv v):R S' loc' rv v:=by
 induction h with
 |d h=>exact .d (h.mono hs)
 |undef=>exact .undef
 |junk v=>exact .junk v
 |tC=>exact .tC
 |agg cs vs hlen _ p=>exact .agg cs vs hlen p
 |tup cs vs hlen _ p=>exact .tup cs vs hlen p
 |ref id ver v L ho r h=>
  obtain⟨q,k,hc⟩:=y id L r
  refine .ref id ver v q ho k ?_
  intro g e sz hdr he
  cases hc with
  |same=>exact h g e sz hdr he
  |dead=>cases he
  |arr l=>
   cases he
   have:=(h _ _ _ _ .arr).1
   exact⟨za,λheq=>za⟩
  |nest l=>
   cases he
   have:=(h _ _ _ _ .nest).1
   exact⟨za,λheq=>za⟩
  |held=>cases he;exact h _ _ _ _ .nest
 |ptr id off v L ho r h=>
  obtain⟨q,k,hc⟩:=y id L r
  refine .ptr id off v q ho k ?_
  intro b
  cases hc with
  |same=>exact h b
  |dead=>exact⟨(λhe=>by cases he),(λhe=>by cases he)⟩
  |arr l=>exact⟨(λhe=>by cases he),(λhe=>by cases he)⟩
  |nest l=>exact⟨(λhe=>by cases he),(λhe=>by cases he)⟩
  |held=>exact⟨(λhe=>by cases he),(λhe=>by cases he)⟩
 |elt id ver i o v L ho r h=>
  obtain⟨q,k,hc⟩:=y id L r
  refine .elt id ver i o v q ho k ?_
  intro g e sz hdr he
  cases hc with
  |same=>exact h g e sz hdr he
  |dead=>cases he
  |arr l=>
   cases he
   have:=(h _ _ _ _ .arr).1
   exact⟨za,λheq=>za⟩
  |nest l=>
   cases he
   have:=(h _ _ _ _ .nest).1
   exact⟨za,λheq=>za⟩
  |held=>cases he;exact h _ _ _ _ .nest
 |view id ver lo hi v L ho r h=>
  obtain⟨q,k,hc⟩:=y id L r
  refine .view id ver lo hi v q ho k ?_
  intro g e sz hdr he
  cases hc with
  |same=>exact h g e sz hdr he
  |dead=>cases he
  |arr l=>
   cases he
   have:=(h _ _ _ _ rfl).1
   exact⟨za,λheq=>za⟩
  |nest l=>cases he
  |held=>cases he
 |clo f cs vs hlen _ p=>exact .clo f cs vs hlen p
 |err t x=>exact .err t x
 |noerr=>exact .noerr
 |ifc t c v _ p=>exact .ifc t c v p
 |cptr cs b o f hS hV=>exact .cptr cs b o f (λj c h=>hs _ _ (hS j c h)) (λj c h=>(hV j c h).mono hs)
 |plit cs b o c f hc hS _ p=>exact .plit cs b o c f hc (λj x h=>hs _ _ (hS j x h)) p
 |pcp c b o u hS _ p=>exact .pcp c b o u (hs _ _ hS) p
structure Flat(S:tG)(sz:Nat)(es:List PD)(xs:List Value):Prop where
 len:∀e∈es,e.cells.length=sz
 one:∀u∈xs,u.oneCell'=true
 cell:∀(i:Nat)e(j:Nat)x,es[i]? =some e->e.cells[j]? =some x->∃u,xs[i*sz+j]? =some u∧V S x u
theorem Flat.mono{S S':tG}(hs:Sub S S'){sz:Nat}{es:List PD}{xs:List Value}(h:Flat S sz es xs):Flat S' sz es xs:=
 ⟨h.len,h.one,λi e j x h1 c=>let⟨u,f,g⟩:=h.cell i e j x h1 c;⟨u,f,g.mono hs⟩⟩
structure FlatH(S:tG)(sz:Nat)(es:List PD)(xs:List Value)(i o:Nat):Prop where
 len:∀e∈es,e.cells.length=sz
 one:∀u∈xs,u.oneCell'=true
 cell:∀(k:Nat)e(j:Nat)x,es[k]? =some e->e.cells[j]? =some x->¬(k=i∧j=o)->∃u,xs[k*sz+j]? =some u∧V S x u
theorem FlatH.mono{S S':tG}(hs:Sub S S'){sz:Nat}{es:List PD}{xs:List Value}{i o:Nat}(h:FlatH S sz es xs i o):FlatH S' sz es xs i o:=
 ⟨h.len,h.one,λk e j x h1 c f=>let⟨u,g,l⟩:=h.cell k e j x h1 c f;⟨u,g,l.mono hs⟩⟩
inductive NCR(P:Program)(S:tG)(loc:ui)(w:World):NC->Value->List Nat->Prop
 |val (rv:RV) (v:Value) (h:R S loc rv v) (h1:v.oneCell'=true):NCR P S loc w (.val rv) v []
 |row (e:TypeId) (es:List PD) (sz:Nat) (v:Value) (xs:List Value) (hsz:szT P e=some sz) (how:rowAt w e sz v es.length xs) (hf:Flat S sz es xs):
   NCR P S loc w (.row e es) v (tM v).toList
inductive NCs(P:Program)(S:tG)(loc:ui)(w:World):List NC->List Value->List Nat->Prop
 |nil:NCs P S loc w [] [] []
 |cons {c:NC} {v:Value} {b bs:List Nat} {cs:List NC} {vs:List Value} (h:NCR P S loc w c v b) (t:NCs P S loc w cs vs bs):NCs P S loc w (c::cs) (v::vs) (b++bs)
inductive xa(P:Program)(S:tG)(loc:ui)(w:World):Box->Loc->Prop
 |var (cs:List RV) (b:Nat) (t:TypeId) (vs:Array Value) (hw:w.heap[b]? =some (.cells vs t (0,0))) (hl:vs.size=cs.length)
   (h:∀(i:Nat)c v,cs[i]? =some c->vs[i]? =some v->R S loc c v):xa P S loc w (.var cs) (.var b)
 |arr (ver:Nat) (e:TypeId) (es:List PD) (sz:Nat) (hdr:Value) (xs:List Value) (hsz:szT P e=some sz)
   (how:rowAt w e sz hdr es.length xs) (hf:Flat S sz es xs):xa P S loc w (.arr ver e es) (.arr ver e sz hdr)
 |dead (L:Loc) (hL:L= .dead):xa P S loc w .dead L
 |nest (ver:Nat) (e e2:TypeId) (ess:List (List PD)) (h:Option (Nat×RV)) (hdr:Value) (xs:List Value) (bs:List Nat) (hsz:szT P e=some 1) (hs2:∃k,szT P e2=some (k+1))
   (how:rowAt w e 1 hdr ess.length xs) (hc:NCs P S loc w (ncs e2 ess h) xs bs) (hnd:((tM hdr).toList++bs).Nodup) (hi:∀i rv,h=some (i,rv)->i<ess.length):xa P S loc w (.nest ver e e2 ess h) (.nest ver e 1 hdr bs)
structure wX where
 snap:tG
 mono:Prop
 objs:List (Nat×Obj)
structure Frame(E:Prop)(B0:List Nat)(w0 w:World):Prop where
 os:w.os=w0.os
 tape:w.tape=w0.tape
 output:w.output=w0.output
 size:w0.heap.size<=w.heap.size
 block:∀b,b<w0.heap.size->b∉B0->w.heap[b]? =w0.heap[b]?
 drawn:E->w0.drawn<=w.drawn
theorem Frame.refl(E:Prop)(B0:List Nat)(w:World):Frame E B0 w w:=⟨rfl,rfl,rfl,EB _,λ_ _ _=>rfl,λ_=>EB _⟩
structure Ctx where
 w0:World
 B0:List Nat
 S0:tG
 par:Nat->Option Loc
 nt:Nat
 base:wX
structure Sim(P:Program)(X:Ctx)(S:tG)(loc:ui)(s:St)(tm:Array Value)(w:World):Prop where
 nt:tm.size=X.nt
 tT:∀t rv,s.tT t=some rv->∃v,tm[t]? =some v∧R S loc rv v
 boxes:∀id bx,s.boxes id=some bx->∃L,loc id=some L∧xa P S loc w bx L
 dom:∀id L,loc id=some L->∃bx,s.boxes id=some bx
 imm:∀ad v,S ad=some v->w.cell? ad=some v
 wU:∀ad v,S ad=some v->v.oneCell'=true
 vV:∀id L b,loc id=some L->L.has b->∀o,S ⟨b,o,none⟩=none
 inj:∀id id' L L' b,loc id=some L->loc id'=some L'->L.has b->L'.has b->id=id'
 own:∀id L b,loc id=some L->L.has b->b∈X.B0∨X.w0.heap.size<=b
 frame:Frame X.base.mono X.B0 X.w0 w
 s0:Sub X.S0 S
 par:∀k L0,X.par k=some L0->∃L,loc k=some L∧wY L0 L
 yi:∀ad v,S ad=some v->X.S0 ad=some v∨X.w0.heap.size<=ad.block∨ad.block∈X.B0
 bs:Sub X.base.snap S
 ob:∀x∈X.base.objs,w.heap[x.1]? =some x.2∧∃o v,X.base.snap ⟨x.1,o,none⟩=some v
def xm(P:Program)(X:Ctx)(s:St)(a:Act)(w:World):Prop:=a.defers=[]∧∃S loc,Sim P X S loc s a.tmps w
theorem M.bind_some{α β:Type}{m:M α}{f:α->M β}{b:tY}{x:β}{r:List Nat}(h:M.bind m f b=some (x,r,true)):
  ∃a c g,m b=some (a,c,true)∧f a b=some (x,g,true)∧r=c++g:=by
 unfold M.bind at h
 cases hm:m b with
 |none=>simp [hm]at h
 |some t=>
  obtain⟨a,c,j⟩:=t
  simp only [hm]at h
  cases hf:f a b with
  |none=>simp [hf]at h
  |some t2=>
   obtain⟨y,g,k⟩:=t2
   simp only [hf,EC,Prod.mk.injEq,Bool.and_eq_true]at h
   obtain⟨rfl,rfl,rfl,rfl⟩:=h
   exact⟨a,c,g,rfl,hf,rfl⟩
theorem M.get_some{id:Nat}{b:tY}{x:Box}{r:List Nat}{c:Bool}(h:M.get id b=some (x,r,c)):b id=some x∧r=[id]∧c=true:=by
 unfold M.get at h
 cases f:b id<;>simp [f]at h
 obtain⟨rfl,rfl,rfl⟩:=h
 exact⟨rfl,rfl,rfl⟩
theorem M.uD{id:Nat}{b:tY}{x:Unit}{r:List Nat}{c:Bool}(h:M.uj id b=some (x,r,c)):b id=none∧r=[id]∧c=true:=by
 unfold M.uj at h
 cases f:b id<;>simp [f]at h
 exact⟨rfl,h.1.symm,h.2⟩
theorem M.tB{α:Type}{a x:α}{b:tY}{r:List Nat}{c:Bool}(h:M.pure a b=some (x,r,c)):x=a∧r=[]∧c=true:=by
 simp only [M.pure,EC,Prod.mk.injEq]at h
 exact⟨h.1.symm,h.2.1.symm,h.2.2.symm⟩
theorem M.tK{α:Type}{a x:α}{b:tY}{r:List Nat}{k c:Bool}(h:M.tL k a b=some (x,r,c)):x=a∧r=[]∧c=k:=by
 simp only [M.tL,EC,Prod.mk.injEq]at h
 exact⟨h.1.symm,h.2.1.symm,h.2.2.symm⟩
theorem M.Ed{α:Type}{x:α}{b:tY}{r:List Nat}{c:Bool}(h:(M.fail:M α) b=some (x,r,c)):False:=by
 simp [M.fail]at h
theorem fE{α:Type}{x:α}(b:tY){r:List Nat}{c:Bool}{C:Prop}(h:(M.fail:M α) b=some (x,r,c)):C:=(M.Ed h).elim
theorem R.vO(S:tG)(loc:ui)(v:Value):R S loc (vO v) v:=by
 unfold Dw.vO
 split<;>first
  |exact .junk _
  |exact .tC
  |exact .d (.bool _)
  |exact .d (.int _ _)
  |exact .d (.raw _ rfl)
  |exact .d (.str _)
theorem R.uh(S:tG)(loc:ui)(v:Value):R S loc (uh v) v:=by
 unfold Dw.uh
 split
 ·rename_i cs
  refine .agg _ cs zb ?_
  intro i c v h1 f
  simp only [List.getElem?_map,Array.getElem?_toList,f,Option.map_some,EC]at h1
  subst h1
  exact R.vO S loc v
 ·exact R.vO S loc _
section
variable {P:Program}{X:Ctx}{S:tG}{loc:ui}{s:St}{a:Act}{w:World}
theorem Sim.opd(h:Sim P X S loc s a.tmps w){x:Operand}{rv:RV}(c:s.opd x=some rv):R S loc rv (a.eval x):=by
 cases x with
 |tmp t=>
  obtain⟨v,k,j⟩:=h.tT t rv c
  simp only [Act.eval,Array.getD_eq_getD_getElem?,k,Option.getD_some]
  exact j
 |const v=>simp only [St.opd,EC]at c;subst c;exact R.uh S loc v
 |global g=>simp [St.opd]at c
 |func f=>simp only [St.opd,EC]at c;subst c;exact .d (.raw _ rfl)
theorem Sim.put(h:Sim P X S loc s a.tmps w){rv:RV}{v:Value}(q:R S loc rv v)(dst:Option Nat)(p:∀d,dst=some d->d<X.nt):
  Sim P X S loc (s.put dst rv) (a.put dst v).tmps w:=by
 cases dst with
 |none=>exact h
 |some d=>
  refine⟨?_,?_,h.boxes,h.dom,h.imm,h.wU,h.vV,h.inj,h.own,h.frame,h.s0,h.par,h.yi,h.bs,h.ob⟩
  ·simp [Act.put,h.nt]
  ·intro t l f
   have g:d<a.tmps.size:=by rw [h.nt];exact p d rfl
   simp only [St.put]at f
   by_cases c:t=d
   ·subst c
    simp only [if_true,EC]at f
    subst f
    exact⟨v,by simp [Act.put,g],q⟩
   ·simp only [c,if_false]at f
    obtain⟨v',k,j⟩:=h.tT t l f
    exact⟨v',by simp [Act.put,Array.getElem?_setIfInBounds_ne (Ne.symm c),k],j⟩
theorem xm.put(h:xm P X s a w)(dst:Option Nat)(f:∀d,dst=some d->d<X.nt){rv:RV}{v:Value}(g:∀S loc,Sim P X S loc s a.tmps w->R S loc rv v):
  xm P X (s.put dst rv) (a.put dst v) w:=by
 obtain⟨c,S,loc,h⟩:=h
 exact⟨by cases dst<;>exact c,S,loc,h.put (g S loc h) dst f⟩
end
end Go.Dw
