
import Derived.Test.YtfmoipelhfkdkaaGreatDoorDwEval
import Derived.Laws.AppendOwn
import Derived.Laws.Strings
import Derived.Laws.Strings2
import Derived.LoopN
open Nat renaming le_refl->DI
open Option.some renaming injEq->DJ

namespace Go.Dw
abbrev rP:=Addr->Option Value
def CX:Value->Bool
 | .func (.func _) ⟨[]⟩ ⟨[]⟩=>true
 | .func (.func _) ⟨[.agg ⟨[]⟩]⟩ ⟨[]⟩=>true
 | .nilFunc| .nilIface| .pointer none| .map none| .slice none 0 0=>true
 |_=>false
inductive V(S:rP):PD->Value->Prop
 |bool (b:Bool):V S (.bool b) (.bool b)
 |int (k:IntKind) (n:Int):V S (.int k n) (.int k n)
 |str (s:List UInt8):V S (.str s) (.string ⟨s.toArray⟩)
 |raw (v:Value) (h:CX v=true):V S (.raw v) v
 |agg (cs:List PD) (vs:Array Value) (hl:vs.size=cs.length)
   (h:∀(i:Nat)p v,cs[i]? =some p->vs[i]? =some v->V S p v):V S (.agg cs) (.agg vs)
 |nil (a:Option Addr) (c:Nat):V S (.lst []) (.slice a 0 c)
 |lst (es:List PD) (b o c sz:Nat) (f:Nat->Nat->Value) (hc:es.length<=c) (hsz:∀e∈es,e.cells.length=sz)
   (hS:∀(i:Nat)e(j:Nat)x,es[i]? =some e->e.cells[j]? =some x->S ⟨b,o+i*sz+j,none⟩=some (f i j))
   (hV:∀(i:Nat)e(j:Nat)x,es[i]? =some e->e.cells[j]? =some x->V S x (f i j)):
   V S (.lst es) (.slice (some ⟨b,o,none⟩) es.length c)
def Sub(S S':rP):Prop:=∀a v,S a=some v->S' a=some v
theorem Sub.refl(S:rP):Sub S S:=fun _ _ h=>h
theorem Sub.trans{S S' f:rP}(h:Sub S S')(g:Sub S' f):Sub S f:=fun a v j=>g a v (h a v j)
theorem V.mono{S S':rP}(hs:Sub S S'){p:PD}{v:Value}(h:V S p v):V S' p v:=by
 induction h with
 |bool b=>exact .bool b
 |int k n=>exact .int k n
 |str s=>exact .str s
 |raw v h=>exact .raw v h
 |agg cs vs hl _ q=>exact .agg cs vs hl q
 |nil a c=>exact .nil a c
 |lst es b o c sz f hc g hS _ q=>exact .lst es b o c sz f hc g (fun i e j x h1 r=>hs _ _ (hS i e j x h1 r)) q
def tp:Value->Option Nat
 | .slice (some a) _ (_+1)=>some a.block
 |_=>none
def FzOk(fz:Nat×Nat)(cap sz:Nat):Prop:=fz=(0,0)∨(fz.1=cap∧sz=1)
def ub(w:World)(e:TypeId)(sz:Nat)(v:Value)(n:Nat)(xs:List Value):Prop:=
 xs.length = n * sz ∧ ((v = .slice none 0 0 ∧ n = 0) ∨
  ∃g cap cur fz,v= .slice (some ⟨g,0,none⟩) n cap∧FzOk fz cap sz∧w.heap[g]? =some (.cells cur e fz)∧n<=cap∧cap<=maxLen∧cur.size=cap*sz∧cur.toList.take (n*sz)=xs)
theorem ub.of{w:World}{e:TypeId}{base sz n:Nat}{v:Value}{xs:List Value}(h:w.ownsRow base e sz v n xs):ub w e sz v n xs:=
 ⟨h.1,h.2.imp id fun⟨g,cap,cur,h1,_,f⟩=>⟨g,cap,cur,(0,0),h1,.inl rfl,f⟩⟩
theorem ub.v8{w:World}{e:TypeId}{sz n:Nat}{v:Value}{xs:List Value}(h:ub w e sz v n xs)(h1:sz≠1):w.ownsRow 0 e sz v n xs:=
 ⟨h.1, h.2.imp id fun ⟨g, cap, cur, _, j, f, k⟩ => by
  rcases f with rfl|⟨_,f⟩
  ·exact⟨g,cap,cur,j,Nat.zero_le _,k⟩
  ·exact(h1 f).elim⟩
theorem ub.cells{w:World}{e:TypeId}{sz n g m c:Nat}{v:Value}{xs:List Value}(h:ub w e sz v n xs)(r:v= .slice (some ⟨g,0,none⟩) m c):
  ∀(j:Nat)u,xs[j]? =some u->w.cell? ((⟨g,0,none⟩:Addr).add j)=some u:=by
 intro j u q
 rcases h.2 with⟨he,_⟩|⟨H,cap,cur,fz,he,E,F,G,C,D,f⟩
 ·rw [r]at he;cases he
 rw [r]at he
 cases he
 have k:(⟨g,0,none⟩:Addr).add j=⟨g,j,none⟩:=by unfold Addr.add;split<;>simp_all
 rw [k]
 simp only [World.cell?,F]
 rw [<-f,List.getElem?_take]at q
 split at q
 ·simpa using q
 ·cases q
theorem ub.lt{w:World}{e:TypeId}{sz n:Nat}{v:Value}{xs:List Value}(h:ub w e sz v n xs){b:Nat}(f:v.ownBlock=some b):b<w.heap.size:=by
 rcases h.2 with⟨rfl,_⟩|⟨g,cap,cur,fz,rfl,_,j,_⟩
 ·cases f
 ·cases f
  exact(Array.getElem?_eq_some_iff.1 j).1
def rowAt(w:World)(e:TypeId)(sz:Nat)(v:Value)(n:Nat)(xs:List Value):Prop:=
 ub w e sz v n xs∨(n=0∧xs=[]∧∃a,v= .slice a 0 0)
theorem rowAt.v8{w:World}{e:TypeId}{sz n:Nat}{v:Value}{xs:List Value}(h:rowAt w e sz v n xs)(f:0<n):ub w e sz v n xs:=by
 rcases h with h|⟨h,_⟩
 ·exact h
 ·omega
theorem rowAt.len{w:World}{e:TypeId}{sz n:Nat}{v:Value}{xs:List Value}(h:rowAt w e sz v n xs):xs.length=n*sz:=by
 rcases h with h|⟨rfl,rfl,_⟩
 ·exact h.1
 ·simp
theorem vC{v:Value}{b:Nat}(h:tp v=some b):v.ownBlock=some b:=by
 unfold tp at h
 split at h
 ·exact h
 ·cases h
theorem rowAt.hdr{w:World}{e:TypeId}{sz n:Nat}{v:Value}{xs:List Value}(h:rowAt w e sz v n xs):∃a c,v= .slice a n c∧n<=c:=by
 rcases h with⟨_,⟨rfl,rfl⟩|⟨g,cap,cur,fz,rfl,_,_,h,_⟩⟩|⟨rfl,_,a,rfl⟩
 ·exact⟨none,0,rfl,DI _⟩
 ·exact⟨_,_,rfl,h⟩
 ·exact⟨a,0,rfl,DI _⟩
theorem rowAt.lt{w:World}{e:TypeId}{sz n:Nat}{v:Value}{xs:List Value}(h:rowAt w e sz v n xs){b:Nat}(f:tp v=some b):b<w.heap.size:=by
 rcases h with h|⟨_,_,a,rfl⟩
 ·exact h.lt (vC f)
 ·cases a<;>cases f
theorem rowAt.dE{w w':World}{e:TypeId}{sz n:Nat}{v:Value}{xs:List Value}(h:rowAt w e sz v n xs)(k:∀b,tp v=some b->w'.heap[b]? =w.heap[b]?):rowAt w' e sz v n xs:=by
 rcases h with⟨h1,j⟩|h
 ·rcases j with r|⟨g,cap,cur,fz,rfl,f,q,u,C,D⟩
  ·exact .inl ⟨h1,.inl r⟩
  ·cases cap with
   |zero=>
    obtain rfl:n=0:=by omega
    exact .inr ⟨rfl,List.eq_nil_of_length_eq_zero (by simpa using h1),_,rfl⟩
   |succ cap=>exact .inl ⟨h1,.inr ⟨g,_,cur,fz,rfl,f,by rw [k g rfl];exact q,u,C,D⟩⟩
 ·exact .inr h
inductive Loc where
 |var (b:Nat)
 |arr (ver:Nat) (e:TypeId) (sz:Nat) (hdr:Value)
 |dead
 |map (b:Nat)
 |nest (ver:Nat) (e:TypeId) (sz:Nat) (hdr:Value) (bs:List Nat)
def Loc.block:Loc->Option Nat
 | .var b=>some b
 | .arr _ _ _ hdr=>tp hdr
 | .dead=>none
 | .map b=>some b
 | .nest _ _ _ hdr _=>tp hdr
def Loc.has:Loc->Nat->Prop
 | .nest _ _ _ hdr bs,b=>b∈(tp hdr).toList++bs
 | .var c,b=>some c=some b
 | .arr _ _ _ hdr,b=>tp hdr=some b
 | .dead,b=>(none:Option Nat)=some b
 | .map c,b=>some c=some b
inductive Loc.Row:Loc->Nat->TypeId->Nat->Value->Prop
 |arr {ver:Nat} {e:TypeId} {sz:Nat} {hdr:Value}:Loc.Row (.arr ver e sz hdr) ver e sz hdr
 |nest {ver:Nat} {e:TypeId} {sz:Nat} {hdr:Value} {bs:List Nat}:Loc.Row (.nest ver e sz hdr bs) ver e sz hdr
inductive Loc.Map:Loc->Nat->Prop
 |map {b:Nat}:Loc.Map (.map b) b
inductive vE:Loc->Loc->Prop
 |same (L:Loc):vE L L
 |dead (L:Loc):vE L .dead
 |arr {ver ver':Nat} {e e':TypeId} {sz sz':Nat} {hdr hdr':Value} (h:ver<ver'):vE (.arr ver e sz hdr) (.arr ver' e' sz' hdr')
 |nest {ver ver':Nat} {e e':TypeId} {sz sz':Nat} {hdr hdr':Value} {bs bs':List Nat} (h:ver<ver'):vE (.nest ver e sz hdr bs) (.nest ver' e' sz' hdr' bs')
 |held {ver:Nat} {e:TypeId} {sz:Nat} {hdr:Value} {bs bs':List Nat}:vE (.nest ver e sz hdr bs) (.nest ver e sz hdr bs')
theorem vE.trans{a b c:Loc}(h:vE a b)(f:vE b c):vE a c:=by
 cases h with
 |same=>exact f
 |dead=>cases f<;>exact .dead _
 |arr h1=>cases f with
  |same=>exact .arr h1
  |dead=>exact .dead _
  |arr g=>exact .arr za
 |nest h1=>cases f with
  |same=>exact .nest h1
  |dead=>exact .dead _
  |nest g=>exact .nest za
  |held=>exact .nest h1
 |held=>cases f with
  |same=>exact .held
  |dead=>exact .dead _
  |nest g=>exact .nest g
  |held=>exact .held
abbrev ss:=Nat->Option Loc
inductive R(S:rP)(loc:ss):RV->Value->Prop
 |d {p:PD} {v:Value} (h:V S p v):R S loc (.d p) v
 |undef:R S loc .undef Go.undef
 |junk (v:Value):R S loc .junk v
 |rm:R S loc .rm (.slice none 0 0)
 |agg (cs:List RV) (vs:Array Value) (hl:vs.size=cs.length)
   (h:∀(i:Nat)c v,cs[i]? =some c->vs[i]? =some v->R S loc c v):R S loc (.agg cs) (.agg vs)
 |tup (cs:List RV) (vs:Array Value) (hl:vs.size=cs.length)
   (h:∀(i:Nat)c v,cs[i]? =some c->vs[i]? =some v->R S loc c v):R S loc (.tup cs) (.tuple vs)
 |ref (id ver:Nat) (v:Value) (L:Loc) (ho:v.oneCell'=true) (hL:loc id=some L) (h:∀ver' e sz hdr,L.Row ver' e sz hdr->ver<=ver'∧(ver=ver'->v=hdr)):R S loc (.ref id ver) v
 |ptr (id off:Nat) (v:Value) (L:Loc) (ho:v.oneCell'=true) (hL:loc id=some L) (h:∀b,(L= .var b->v= .pointer (some ⟨b,off,none⟩))∧(L.Map b->v= .map (some b))):R S loc (.ptr id off) v
 |elt (id ver i o:Nat) (v:Value) (L:Loc) (ho:v.oneCell'=true) (hL:loc id=some L)
   (h:∀ver' e sz hdr,L.Row ver' e sz hdr->ver<=ver'∧(ver=ver'->∃g n c,hdr= .slice (some ⟨g,0,none⟩) n c∧v= .pointer (some ⟨g,i*sz+o,none⟩))):R S loc (.elt id ver i o) v
 |view (id ver lo hi:Nat) (v:Value) (L:Loc) (ho:v.oneCell'=true) (hL:loc id=some L)
   (h:∀ver' e sz hdr,L= .arr ver' e sz hdr->ver<=ver'∧(ver=ver'->(lo=hi∧∃a,v= .slice a 0 0)∨∃g n c,hdr= .slice (some ⟨g,0,none⟩) n c∧lo<=hi∧hi<=c∧v= .slice (some ⟨g,lo*sz,none⟩) (hi-lo) (c-lo))):R S loc (.view id ver lo hi) v
 |fview (id ver hi:Nat) (v:Value) (L:Loc) (ho:v.oneCell'=true) (hL:loc id=some L)
   (h:∀ver' e sz hdr,L= .arr ver' e sz hdr->ver<=ver'∧(ver=ver'->∃a n c,hdr= .slice a n c∧hi<=n∧v= .slice a hi hi)):R S loc (.fview id ver hi) v
 |clo (f:FuncId) (cs:List RV) (vs:Array Value) (hl:vs.size=cs.length)
   (h:∀(i:Nat)c v,cs[i]? =some c->vs[i]? =some v->R S loc c v):R S loc (.clo f cs) (.func (.func f) #[] vs)
 |err (t:TypeId) (x:Value):R S loc (.err false) (.iface t x)
 |noerr:R S loc (.err true) .nilIface
 |dfull (es:List PD) (a:Option Addr) (h:V S (.lst es) (.slice a es.length es.length)):R S loc (.dfull es) (.slice a es.length es.length)
 |ifc (t:TypeId) (c:RV) (v:Value) (h:R S loc c v):R S loc (.ifc t c) (.iface t v)
 |cptr (cs:List PD) (b o:Nat) (f:Nat->Value) (hS:∀(j:Nat)c,cs[j]? =some c->S ⟨b,o+j,none⟩=some (f j))
   (hV:∀(j:Nat)c,cs[j]? =some c->V S c (f j)):R S loc (.cptr cs) (.pointer (some ⟨b,o,none⟩))
 |plit (cs:List RV) (b o c:Nat) (f:Nat->Value) (hc:cs.length<=c) (hS:∀(j:Nat)x,cs[j]? =some x->S ⟨b,o+j,none⟩=some (f j))
   (hV:∀(j:Nat)x,cs[j]? =some x->R S loc x (f j)):R S loc (.plit cs) (.slice (some ⟨b,o,none⟩) cs.length c)
 |pcp (c:RV) (b o:Nat) (u:Value) (hS:S ⟨b,o,none⟩=some u) (hV:R S loc c u):R S loc (.pcp c) (.pointer (some ⟨b,o,none⟩))
def rT(loc loc':ss):Prop:=
 ∀id L,loc id=some L->∃f,loc' id=some f∧vE L f
theorem rT.refl(loc:ss):rT loc loc:=fun _ L h=>⟨L,h,.same L⟩
theorem R.mono{S S':rP}{loc loc':ss}(hs:Sub S S')(hl:rT loc loc'){rv:RV}{v:Value}(h:R S loc rv v):R S' loc' rv v:=by
 induction h with
 |d h=>exact .d (h.mono hs)
 |undef=>exact .undef
 |junk v=>exact .junk v
 |rm=>exact .rm
 |agg cs vs hlen _ r=>exact .agg cs vs hlen r
 |tup cs vs hlen _ r=>exact .tup cs vs hlen r
 |ref id ver v L ho D h=>
  obtain⟨C,k,hc⟩:=hl id L D
  refine .ref id ver v C ho k ?_
  intro g e sz hdr he
  cases hc with
  |same=>exact h g e sz hdr he
  |dead=>cases he
  |arr q=>
   cases he
   have:=(h _ _ _ _ .arr).1
   exact⟨za,fun heq=>za⟩
  |nest q=>
   cases he
   have:=(h _ _ _ _ .nest).1
   exact⟨za,fun heq=>za⟩
  |held=>cases he;exact h _ _ _ _ .nest
 |ptr id off v L ho D h=>
  obtain⟨C,k,hc⟩:=hl id L D
  refine .ptr id off v C ho k ?_
  intro b
  cases hc with
  |same=>exact h b
  |dead=>exact⟨(fun he=>by cases he),(fun he=>by cases he)⟩
  |arr q=>exact⟨(fun he=>by cases he),(fun he=>by cases he)⟩
  |nest q=>exact⟨(fun he=>by cases he),(fun he=>by cases he)⟩
  |held=>exact⟨(fun he=>by cases he),(fun he=>by cases he)⟩
 |elt id ver i o v L ho D h=>
  obtain⟨C,k,hc⟩:=hl id L D
  refine .elt id ver i o v C ho k ?_
  intro g e sz hdr he
  cases hc with
  |same=>exact h g e sz hdr he
  |dead=>cases he
  |arr q=>
   cases he
   have:=(h _ _ _ _ .arr).1
   exact⟨za,fun heq=>za⟩
  |nest q=>
   cases he
   have:=(h _ _ _ _ .nest).1
   exact⟨za,fun heq=>za⟩
  |held=>cases he;exact h _ _ _ _ .nest
 |view id ver lo hi v L ho D h=>
  obtain⟨C,k,hc⟩:=hl id L D
  refine .view id ver lo hi v C ho k ?_
  intro g e sz hdr he
  cases hc with
  |same=>exact h g e sz hdr he
  |dead=>cases he
  |arr q=>
   cases he
   have:=(h _ _ _ _ rfl).1
   exact⟨za,fun heq=>za⟩
  |nest q=>cases he
  |held=>cases he
 |fview id ver hi v L ho D h=>
  obtain⟨C,k,hc⟩:=hl id L D
  refine .fview id ver hi v C ho k ?_
  intro g e sz hdr he
  cases hc with
  |same=>exact h g e sz hdr he
  |dead=>cases he
  |arr q=>
   cases he
   have:=(h _ _ _ _ rfl).1
   exact⟨za,fun heq=>za⟩
  |nest q=>cases he
  |held=>cases he
 |clo f cs vs hlen _ r=>exact .clo f cs vs hlen r
 |err t x=>exact .err t x
 |noerr=>exact .noerr
 |dfull es a h=>exact .dfull es a (h.mono hs)
 |ifc t c v _ r=>exact .ifc t c v r
 |cptr cs b o f hS hV=>exact .cptr cs b o f (fun j c h=>hs _ _ (hS j c h)) (fun j c h=>(hV j c h).mono hs)
 |plit cs b o c f hc hS _ r=>exact .plit cs b o c f hc (fun j x h=>hs _ _ (hS j x h)) r
 |pcp c b o u hS _ r=>exact .pcp c b o u (hs _ _ hS) r
structure Flat(S:rP)(sz:Nat)(es:List PD)(xs:List Value):Prop where
 len:∀e∈es,e.cells.length=sz
 one:∀u∈xs,u.oneCell'=true
 cell:∀(i:Nat)e(j:Nat)x,es[i]? =some e->e.cells[j]? =some x->∃u,xs[i*sz+j]? =some u∧V S x u
theorem Flat.mono{S S':rP}(hs:Sub S S'){sz:Nat}{es:List PD}{xs:List Value}(h:Flat S sz es xs):Flat S' sz es xs:=
 ⟨h.len,h.one,fun i e j x h1 f=>let⟨u,g,k⟩:=h.cell i e j x h1 f;⟨u,g,k.mono hs⟩⟩
structure zo(S:rP)(sz:Nat)(es:List PD)(xs:List Value)(i o:Nat):Prop where
 len:∀e∈es,e.cells.length=sz
 one:∀u∈xs,u.oneCell'=true
 cell:∀(k:Nat)e(j:Nat)x,es[k]? =some e->e.cells[j]? =some x->¬(k=i∧j=o)->∃u,xs[k*sz+j]? =some u∧V S x u
theorem zo.mono{S S':rP}(hs:Sub S S'){sz:Nat}{es:List PD}{xs:List Value}{i o:Nat}(h:zo S sz es xs i o):zo S' sz es xs i o:=
 ⟨h.len,h.one,fun k e j x h1 f g=>let⟨u,q,r⟩:=h.cell k e j x h1 f g;⟨u,q,r.mono hs⟩⟩
inductive NCR(P:Program)(S:rP)(loc:ss)(w:World):NC->Value->List Nat->Prop
 |val (rv:RV) (v:Value) (h:R S loc rv v) (h1:v.oneCell'=true):NCR P S loc w (.val rv) v []
 |row (e:TypeId) (es:List PD) (sz:Nat) (v:Value) (xs:List Value) (hsz:szT P e=some sz) (how:rowAt w e sz v es.length xs) (hf:Flat S sz es xs):
   NCR P S loc w (.row e es) v (tp v).toList
inductive NCs(P:Program)(S:rP)(loc:ss)(w:World):List NC->List Value->List Nat->Prop
 |nil:NCs P S loc w [] [] []
 |cons {c:NC} {v:Value} {b bs:List Nat} {cs:List NC} {vs:List Value} (h:NCR P S loc w c v b) (t:NCs P S loc w cs vs bs):NCs P S loc w (c::cs) (v::vs) (b++bs)
inductive vD(P:Program)(S:rP)(loc:ss)(w:World):Box->Loc->Prop
 |var (cs:List RV) (b:Nat) (t:TypeId) (vs:Array Value) (hw:w.heap[b]? =some (.cells vs t (0,0))) (hl:vs.size=cs.length)
   (h:∀(i:Nat)c v,cs[i]? =some c->vs[i]? =some v->R S loc c v):vD P S loc w (.var cs) (.var b)
 |arr (ver:Nat) (e:TypeId) (es:List PD) (sz:Nat) (hdr:Value) (xs:List Value) (hsz:szT P e=some sz)
   (how:rowAt w e sz hdr es.length xs) (hf:Flat S sz es xs):vD P S loc w (.arr ver e es) (.arr ver e sz hdr)
 |dead (L:Loc) (hL:L= .dead):vD P S loc w .dead L
 |map (kt vt:TypeId) (es:List (PD×PD)) (b clock:Nat) (ents:Array MapEntry) (hw:w.heap[b]? =some (.map ents clock)) (hl:ents.size=es.length)
   (h:∀(i:Nat)k x en,es[i]? =some (k,x)->ents[i]? =some en->V S k en.key∧V S x en.val):vD P S loc w (.map kt vt es) (.map b)
 |nest (ver:Nat) (e e2:TypeId) (ess:List (List PD)) (h:Option (Nat×RV)) (hdr:Value) (xs:List Value) (bs:List Nat) (hsz:szT P e=some 1) (hs2:∃k,szT P e2=some (k+1))
   (how:rowAt w e 1 hdr ess.length xs) (hc:NCs P S loc w (ncs e2 ess h) xs bs) (hnd:((tp hdr).toList++bs).Nodup) (hi:∀i rv,h=some (i,rv)->i<ess.length):vD P S loc w (.nest ver e e2 ess h) (.nest ver e 1 hdr bs)
 |hole (ver:Nat) (e:TypeId) (es:List PD) (i o:Nat) (rv:RV) (sz:Nat) (hdr:Value) (xs:List Value) (u:Value) (hsz:szT P e=some sz)
   (how:rowAt w e sz hdr es.length xs) (hf:zo S sz es xs i o) (hi:i<es.length) (ho:o<sz) (hu:xs[i*sz+o]? =some u) (hr:R S loc rv u):vD P S loc w (.hole ver e es i o rv) (.arr ver e sz hdr)
structure xT where
 snap:rP
 mono:Prop
 objs:List (Nat×Obj)
structure Frame(E:Prop)(B0:List Nat)(w0 w:World):Prop where
 os:w.os=w0.os
 tape:w.tape=w0.tape
 output:w.output=w0.output
 size:w0.heap.size<=w.heap.size
 block:∀b,b<w0.heap.size->b∉B0->w.heap[b]? =w0.heap[b]?
 drawn:E->w0.drawn<=w.drawn
theorem Frame.refl(E:Prop)(B0:List Nat)(w:World):Frame E B0 w w:=⟨rfl,rfl,rfl,DI _,fun _ _ _=>rfl,fun _=>DI _⟩
structure Ctx where
 w0:World
 B0:List Nat
 S0:rP
 par:Nat->Option Loc
 nt:Nat
 base:xT
structure Sim(P:Program)(X:Ctx)(S:rP)(loc:ss)(s:St)(tm:Array Value)(w:World):Prop where
 nt:tm.size=X.nt
 rX:∀t rv,s.rX t=some rv->∃v,tm[t]? =some v∧R S loc rv v
 boxes:∀id bx,s.boxes id=some bx->∃L,loc id=some L∧vD P S loc w bx L
 dom:∀id L,loc id=some L->∃bx,s.boxes id=some bx
 imm:∀ad v,S ad=some v->w.cell? ad=some v
 vN:∀ad v,S ad=some v->v.oneCell'=true
 uM:∀id L b,loc id=some L->L.has b->∀o,S ⟨b,o,none⟩=none
 inj:∀id id' L L' b,loc id=some L->loc id'=some L'->L.has b->L'.has b->id=id'
 own:∀id L b,loc id=some L->L.has b->b∈X.B0∨X.w0.heap.size<=b
 frame:Frame X.base.mono X.B0 X.w0 w
 s0:Sub X.S0 S
 par:∀k L0,X.par k=some L0->∃L,loc k=some L∧vE L0 L
 xM:∀ad v,S ad=some v->X.S0 ad=some v∨X.w0.heap.size<=ad.block∨ad.block∈X.B0
 bs:Sub X.base.snap S
 ob:∀x∈X.base.objs,w.heap[x.1]? =some x.2∧∃o v,X.base.snap ⟨x.1,o,none⟩=some v
def vW(P:Program)(X:Ctx)(s:St)(a:Act)(w:World):Prop:=a.defers=[]∧∃S loc,Sim P X S loc s a.tmps w
theorem M.bind_some{α β:Type}{m:M α}{f:α->M β}{b:sj}{x:β}{r:List Nat}(h:M.bind m f b=some (x,r,true)):
  ∃a g j,m b=some (a,g,true)∧f a b=some (x,j,true)∧r=g++j:=by
 unfold M.bind at h
 cases hm:m b with
 |none=>simp [hm]at h
 |some t=>
  obtain⟨a,g,k⟩:=t
  simp only [hm]at h
  cases hf:f a b with
  |none=>simp [hf]at h
  |some t2=>
   obtain⟨y,j,q⟩:=t2
   simp only [hf,DJ,Prod.mk.injEq,Bool.and_eq_true]at h
   obtain⟨rfl,rfl,rfl,rfl⟩:=h
   exact⟨a,g,j,rfl,hf,rfl⟩
theorem M.get_some{id:Nat}{b:sj}{x:Box}{r:List Nat}{c:Bool}(h:M.get id b=some (x,r,c)):b id=some x∧r=[id]∧c=true:=by
 unfold M.get at h
 cases f:b id<;>simp [f]at h
 obtain⟨rfl,rfl,rfl⟩:=h
 exact⟨rfl,rfl,rfl⟩
theorem M.sZ{id:Nat}{b:sj}{x:Unit}{r:List Nat}{c:Bool}(h:M.si id b=some (x,r,c)):b id=none∧r=[id]∧c=true:=by
 unfold M.si at h
 cases f:b id<;>simp [f]at h
 exact⟨rfl,h.1.symm,h.2⟩
theorem M.pZ{α:Type}{a x:α}{b:sj}{r:List Nat}{c:Bool}(h:M.pure a b=some (x,r,c)):x=a∧r=[]∧c=true:=by
 simp only [M.pure,DJ,Prod.mk.injEq]at h
 exact⟨h.1.symm,h.2.1.symm,h.2.2.symm⟩
theorem M.rE{α:Type}{a x:α}{b:sj}{r:List Nat}{k c:Bool}(h:M.rG k a b=some (x,r,c)):x=a∧r=[]∧c=k:=by
 simp only [M.rG,DJ,Prod.mk.injEq]at h
 exact⟨h.1.symm,h.2.1.symm,h.2.2.symm⟩
theorem M.Ds{α:Type}{x:α}{b:sj}{r:List Nat}{c:Bool}(h:(M.fail:M α) b=some (x,r,c)):False:=by
 simp [M.fail]at h
theorem fE{α:Type}{x:α}(b:sj){r:List Nat}{c:Bool}{C:Prop}(h:(M.fail:M α) b=some (x,r,c)):C:=(M.Ds h).elim
theorem R.um(S:rP)(loc:ss)(v:Value):R S loc (um v) v:=by
 unfold Dw.um
 split<;>first
  |exact .junk _
  |exact .rm
  |exact .d (.bool _)
  |exact .d (.int _ _)
  |exact .d (.raw _ rfl)
  |exact .d (.str _)
theorem R.sn(S:rP)(loc:ss)(v:Value):R S loc (sn v) v:=by
 unfold Dw.sn
 split
 ·rename_i cs
  refine .agg _ cs zc ?_
  intro i c v h1 f
  simp only [List.getElem?_map,Array.getElem?_toList,f,Option.map_some,DJ]at h1
  subst h1
  exact R.um S loc v
 ·exact R.um S loc _
section
variable {P:Program}{X:Ctx}{S:rP}{loc:ss}{s:St}{a:Act}{w:World}
theorem Sim.opd(h:Sim P X S loc s a.tmps w){x:Operand}{rv:RV}(j:s.opd x=some rv):R S loc rv (a.eval x):=by
 cases x with
 |tmp t=>
  obtain⟨v,q,k⟩:=h.rX t rv j
  simp only [Act.eval,Array.getD_eq_getD_getElem?,q,Option.getD_some]
  exact k
 |const v=>simp only [St.opd,DJ]at j;subst j;exact R.sn S loc v
 |global g=>simp [St.opd]at j
 |func f=>simp only [St.opd,DJ]at j;subst j;exact .d (.raw _ rfl)
theorem Sim.put(h:Sim P X S loc s a.tmps w){rv:RV}{v:Value}(C:R S loc rv v)(dst:Option Nat)(u:∀d,dst=some d->d<X.nt):
  Sim P X S loc (s.put dst rv) (a.put dst v).tmps w:=by
 cases dst with
 |none=>exact h
 |some d=>
  refine⟨?_,?_,h.boxes,h.dom,h.imm,h.vN,h.uM,h.inj,h.own,h.frame,h.s0,h.par,h.xM,h.bs,h.ob⟩
  ·simp [Act.put,h.nt]
  ·intro t r g
   have j:d<a.tmps.size:=by rw [h.nt];exact u d rfl
   simp only [St.put]at g
   by_cases f:t=d
   ·subst f
    simp only [if_true,DJ]at g
    subst g
    exact⟨v,by simp [Act.put,j],C⟩
   ·simp only [f,if_false]at g
    obtain⟨v',q,k⟩:=h.rX t r g
    exact⟨v',by simp [Act.put,Array.getElem?_setIfInBounds_ne (Ne.symm f),q],k⟩
theorem vW.put(h:vW P X s a w)(dst:Option Nat)(g:∀d,dst=some d->d<X.nt){rv:RV}{v:Value}(j:∀S loc,Sim P X S loc s a.tmps w->R S loc rv v):
  vW P X (s.put dst rv) (a.put dst v) w:=by
 obtain⟨f,S,loc,h⟩:=h
 exact⟨by cases dst<;>exact f,S,loc,h.put (j S loc h) dst g⟩
end
end Go.Dw
