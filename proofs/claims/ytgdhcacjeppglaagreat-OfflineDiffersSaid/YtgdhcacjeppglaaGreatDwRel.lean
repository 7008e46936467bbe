
import Derived.Test.YtgdhcacjeppglaaGreatDwEval
import Derived.Laws.AppendOwn
import Derived.Laws.Strings
import Derived.Laws.Strings2
import Derived.LoopN
set_option linter.unusedVariables false
set_option linter.unusedSimpArgs false
open Nat renaming le_refl->AB
open Option.some renaming injEq->AD

namespace Go.Dw
abbrev cp:=Addr->Option Value
def nG:Value->Bool
 | .func (.func _) ⟨[]⟩ ⟨[]⟩=>true
 | .func (.func _) ⟨[.agg ⟨[]⟩]⟩ ⟨[]⟩=>true
 | .nilFunc| .nilIface| .pointer none| .map none| .slice none 0 0=>true
 |_=>false
inductive V(S:cp):PD->Value->Prop
 |bool (b:Bool):V S (.bool b) (.bool b)
 |int (k:IntKind) (n:Int):V S (.int k n) (.int k n)
 |str (s:List UInt8):V S (.str s) (.string ⟨s.toArray⟩)
 |raw (v:Value) (h:nG v=true):V S (.raw v) v
 |agg (cs:List PD) (vs:Array Value) (hl:vs.size=cs.length)
   (h:∀(i:Nat)p v,cs[i]? =some p->vs[i]? =some v->V S p v):V S (.agg cs) (.agg vs)
 |nil (a:Option Addr) (c:Nat):V S (.lst []) (.slice a 0 c)
 |lst (es:List PD) (b o c sz:Nat) (f:Nat->Nat->Value) (hc:es.length<=c) (hsz:∀e∈es,e.cells.length=sz)
   (hS:∀(i:Nat)e(j:Nat)x,es[i]? =some e->e.cells[j]? =some x->S ⟨b,o+i*sz+j,none⟩=some (f i j))
   (hV:∀(i:Nat)e(j:Nat)x,es[i]? =some e->e.cells[j]? =some x->V S x (f i j)):
   V S (.lst es) (.slice (some ⟨b,o,none⟩) es.length c)
def Sub(S S':cp):Prop:=∀a v,S a=some v->S' a=some v
theorem Sub.refl(S:cp):Sub S S:=fun _ _ h=>h
theorem Sub.trans{S S' b:cp}(h:Sub S S')(c:Sub S' b):Sub S b:=fun a v e=>c a v (h a v e)
theorem V.mono{S S':cp}(m:Sub S S'){p:PD}{v:Value}(h:V S p v):V S' p v:=by
 induction h with
 |bool b=>exact .bool b
 |int k n=>exact .int k n
 |str s=>exact .str s
 |raw v h=>exact .raw v h
 |agg cs vs hl _ g=>exact .agg cs vs hl g
 |nil a c=>exact .nil a c
 |lst es b o c sz f hc hsz hS _ g=>exact .lst es b o c sz f hc hsz (fun i e j x h1 l=>m _ _ (hS i e j x h1 l)) g
def cA:Value->Option Nat
 | .slice (some a) _ (_+1)=>some a.block
 |_=>none
def FzOk(b:Nat×Nat)(cap sz:Nat):Prop:=b=(0,0)∨(b.1=cap∧sz=1)
def dJ(w:World)(e:TypeId)(sz:Nat)(v:Value)(n:Nat)(xs:List Value):Prop:=
 xs.length = n * sz ∧ ((v = .slice none 0 0 ∧ n = 0) ∨
  ∃g cap cur b,v= .slice (some ⟨g,0,none⟩) n cap∧FzOk b cap sz∧w.heap[g]? =some (.cells cur e b)∧n<=cap∧cap<=maxLen∧cur.size=cap*sz∧cur.toList.take (n*sz)=xs)
theorem dJ.of{w:World}{e:TypeId}{base sz n:Nat}{v:Value}{xs:List Value}(h:w.ownsRow base e sz v n xs):dJ w e sz v n xs:=
 ⟨h.1,h.2.imp id fun⟨g,cap,cur,h1,_,b⟩=>⟨g,cap,cur,(0,0),h1,.inl rfl,b⟩⟩
theorem dJ.fw{w:World}{e:TypeId}{sz n:Nat}{v:Value}{xs:List Value}(h:dJ w e sz v n xs)(h1:sz≠1):w.ownsRow 0 e sz v n xs:=
 ⟨h.1, h.2.imp id fun ⟨g, cap, cur, _, c, b, f⟩ => by
  rcases b with rfl|⟨_,b⟩
  ·exact⟨g,cap,cur,c,Nat.zero_le _,f⟩
  ·exact(h1 b).elim⟩
theorem dJ.cells{w:World}{e:TypeId}{sz n g m c:Nat}{v:Value}{xs:List Value}(h:dJ w e sz v n xs)(k:v= .slice (some ⟨g,0,none⟩) m c):
  ∀(j:Nat)u,xs[j]? =some u->w.cell? ((⟨g,0,none⟩:Addr).add j)=some u:=by
 intro j u i
 rcases h.2 with⟨he,_⟩|⟨x,cap,cur,t,he,p,q,r,l,o,b⟩
 ·rw [k]at he;cases he
 rw [k]at he
 cases he
 have f:(⟨g,0,none⟩:Addr).add j=⟨g,j,none⟩:=by unfold Addr.add;split<;>simp_all
 rw [f]
 simp only [World.cell?,q]
 rw [<-b,List.getElem?_take]at i
 split at i
 ·simpa using i
 ·cases i
theorem dJ.lt{w:World}{e:TypeId}{sz n:Nat}{v:Value}{xs:List Value}(h:dJ w e sz v n xs){b:Nat}(hb:v.ownBlock=some b):b<w.heap.size:=by
 rcases h.2 with⟨rfl,_⟩|⟨g,cap,cur,f,rfl,_,c,_⟩
 ·cases hb
 ·cases hb
  exact(Array.getElem?_eq_some_iff.1 c).1
def rowAt(w:World)(e:TypeId)(sz:Nat)(v:Value)(n:Nat)(xs:List Value):Prop:=
 dJ w e sz v n xs∨(n=0∧xs=[]∧∃a,v= .slice a 0 0)
theorem rowAt.fw{w:World}{e:TypeId}{sz n:Nat}{v:Value}{xs:List Value}(h:rowAt w e sz v n xs)(b:0<n):dJ w e sz v n xs:=by
 rcases h with h|⟨h,_⟩
 ·exact h
 ·omega
theorem rowAt.len{w:World}{e:TypeId}{sz n:Nat}{v:Value}{xs:List Value}(h:rowAt w e sz v n xs):xs.length=n*sz:=by
 rcases h with h|⟨rfl,rfl,_⟩
 ·exact h.1
 ·simp
theorem fh{v:Value}{b:Nat}(h:cA v=some b):v.ownBlock=some b:=by
 unfold cA at h
 split at h
 ·exact h
 ·cases h
theorem rowAt.hdr{w:World}{e:TypeId}{sz n:Nat}{v:Value}{xs:List Value}(h:rowAt w e sz v n xs):∃a c,v= .slice a n c∧n<=c:=by
 rcases h with⟨_,⟨rfl,rfl⟩|⟨g,cap,cur,b,rfl,_,_,h,_⟩⟩|⟨rfl,_,a,rfl⟩
 ·exact⟨none,0,rfl,AB _⟩
 ·exact⟨_,_,rfl,h⟩
 ·exact⟨a,0,rfl,AB _⟩
theorem rowAt.lt{w:World}{e:TypeId}{sz n:Nat}{v:Value}{xs:List Value}(h:rowAt w e sz v n xs){b:Nat}(hb:cA v=some b):b<w.heap.size:=by
 rcases h with h|⟨_,_,a,rfl⟩
 ·exact h.lt (fh hb)
 ·cases a<;>cases hb
theorem rowAt.aE{w w':World}{e:TypeId}{sz n:Nat}{v:Value}{xs:List Value}(h:rowAt w e sz v n xs)(hb:∀b,cA v=some b->w'.heap[b]? =w.heap[b]?):rowAt w' e sz v n xs:=by
 rcases h with⟨h1,i⟩|h
 ·rcases i with k|⟨g,cap,cur,f,rfl,c,j,l,m,o⟩
  ·exact .inl ⟨h1,.inl k⟩
  ·cases cap with
   |zero=>
    obtain rfl:n=0:=by omega
    exact .inr ⟨rfl,List.eq_nil_of_length_eq_zero (by simpa using h1),_,rfl⟩
   |succ cap=>exact .inl ⟨h1,.inr ⟨g,_,cur,f,rfl,c,by rw [hb g rfl];exact j,l,m,o⟩⟩
 ·exact .inr h
inductive Loc where
 |var (b:Nat)
 |arr (ver:Nat) (e:TypeId) (sz:Nat) (hdr:Value)
 |dead
 |map (b:Nat)
 |nest (ver:Nat) (e:TypeId) (sz:Nat) (hdr:Value) (bs:List Nat)
 |mapn (b:Nat) (bs:List Nat)
def Loc.block:Loc->Option Nat
 | .var b=>some b
 | .arr _ _ _ hdr=>cA hdr
 | .dead=>none
 | .map b=>some b
 | .nest _ _ _ hdr _=>cA hdr
 | .mapn b _=>some b
def Loc.has:Loc->Nat->Prop
 | .nest _ _ _ hdr bs,b=>b∈(cA hdr).toList++bs
 | .var c,b=>some c=some b
 | .arr _ _ _ hdr,b=>cA hdr=some b
 | .dead,b=>(none:Option Nat)=some b
 | .map c,b=>some c=some b
 | .mapn c bs,b=>b∈c::bs
inductive Loc.Row:Loc->Nat->TypeId->Nat->Value->Prop
 |arr {ver:Nat} {e:TypeId} {sz:Nat} {hdr:Value}:Loc.Row (.arr ver e sz hdr) ver e sz hdr
 |nest {ver:Nat} {e:TypeId} {sz:Nat} {hdr:Value} {bs:List Nat}:Loc.Row (.nest ver e sz hdr bs) ver e sz hdr
inductive Loc.Map:Loc->Nat->Prop
 |map {b:Nat}:Loc.Map (.map b) b
 |mapn {b:Nat} {bs:List Nat}:Loc.Map (.mapn b bs) b
inductive ei:Loc->Loc->Prop
 |same (L:Loc):ei L L
 |dead (L:Loc):ei L .dead
 |arr {ver ver':Nat} {e e':TypeId} {sz sz':Nat} {hdr hdr':Value} (h:ver<ver'):ei (.arr ver e sz hdr) (.arr ver' e' sz' hdr')
 |nest {ver ver':Nat} {e e':TypeId} {sz sz':Nat} {hdr hdr':Value} {bs bs':List Nat} (h:ver<ver'):ei (.nest ver e sz hdr bs) (.nest ver' e' sz' hdr' bs')
 |held {ver:Nat} {e:TypeId} {sz:Nat} {hdr:Value} {bs bs':List Nat}:ei (.nest ver e sz hdr bs) (.nest ver e sz hdr bs')
 |heldm {b:Nat} {bs bs':List Nat}:ei (.mapn b bs) (.mapn b bs')
 |frozen {b:Nat} {bs:List Nat}:ei (.mapn b bs) (.map b)
 |flat {ver ver':Nat} {e e':TypeId} {sz sz':Nat} {hdr hdr':Value} {bs:List Nat} (h:ver<ver'∨(ver=ver'∧e=e'∧sz=sz'∧hdr=hdr')):ei (.nest ver e sz hdr bs) (.arr ver' e' sz' hdr')
theorem ei.trans{a b c:Loc}(h:ei a b)(e:ei b c):ei a c:=by
 cases h with
 |same=>exact e
 |dead=>cases e<;>exact .dead _
 |arr h1=>cases e with
  |same=>exact .arr h1
  |dead=>exact .dead _
  |arr f=>exact .arr om
 |nest h1=>cases e with
  |same=>exact .nest h1
  |dead=>exact .dead _
  |nest f=>exact .nest om
  |held=>exact .nest h1
  |flat f=>exact .flat (.inl om)
 |held=>cases e with
  |same=>exact .held
  |dead=>exact .dead _
  |nest f=>exact .nest f
  |held=>exact .held
  |flat f=>exact .flat f
 |heldm=>cases e with
  |same=>exact .heldm
  |dead=>exact .dead _
  |heldm=>exact .heldm
  |frozen=>exact .frozen
 |frozen=>cases e with
  |same=>exact .frozen
  |dead=>exact .dead _
 |flat h1=>cases e with
  |same=>exact .flat h1
  |dead=>exact .dead _
  |arr f=>exact .flat (.inl om)
abbrev cJ:=Nat->Option Loc
inductive R(S:cp)(loc:cJ):RV->Value->Prop
 |d {p:PD} {v:Value} (h:V S p v):R S loc (.d p) v
 |undef:R S loc .undef Go.undef
 |junk (v:Value):R S loc .junk v
 |cL:R S loc .cL (.slice none 0 0)
 |agg (cs:List RV) (vs:Array Value) (hl:vs.size=cs.length)
   (h:∀(i:Nat)c v,cs[i]? =some c->vs[i]? =some v->R S loc c v):R S loc (.agg cs) (.agg vs)
 |tup (cs:List RV) (vs:Array Value) (hl:vs.size=cs.length)
   (h:∀(i:Nat)c v,cs[i]? =some c->vs[i]? =some v->R S loc c v):R S loc (.tup cs) (.tuple vs)
 |ref (id ver:Nat) (v:Value) (L:Loc) (ho:v.oneCell'=true) (hL:loc id=some L) (h:∀ver' e sz hdr,L.Row ver' e sz hdr->ver<=ver'∧(ver=ver'->v=hdr)):R S loc (.ref id ver) v
 |ptr (id off:Nat) (v:Value) (L:Loc) (ho:v.oneCell'=true) (hL:loc id=some L) (h:∀b,(L= .var b->v= .pointer (some ⟨b,off,none⟩))∧(L.Map b->v= .map (some b))):R S loc (.ptr id off) v
 |elt (id ver i o:Nat) (v:Value) (L:Loc) (ho:v.oneCell'=true) (hL:loc id=some L)
   (h:∀ver' e sz hdr,L.Row ver' e sz hdr->ver<=ver'∧(ver=ver'->∃g n c,hdr= .slice (some ⟨g,0,none⟩) n c∧v= .pointer (some ⟨g,i*sz+o,none⟩))):R S loc (.elt id ver i o) v
 |view (id ver lo hi:Nat) (v:Value) (L:Loc) (ho:v.oneCell'=true) (hL:loc id=some L)
   (h:∀ver' e sz hdr,L.Row ver' e sz hdr->ver<=ver'∧(ver=ver'->(lo=hi∧∃a,v= .slice a 0 0)∨∃g n c,hdr= .slice (some ⟨g,0,none⟩) n c∧lo<=hi∧hi<=c∧v= .slice (some ⟨g,lo*sz,none⟩) (hi-lo) (c-lo))):R S loc (.view id ver lo hi) v
 |fview (id ver hi:Nat) (v:Value) (L:Loc) (ho:v.oneCell'=true) (hL:loc id=some L)
   (h:∀ver' e sz hdr,L.Row ver' e sz hdr->ver<=ver'∧(ver=ver'->∃a n c,hdr= .slice a n c∧hi<=n∧v= .slice a hi hi)):R S loc (.fview id ver hi) v
 |clo (f:FuncId) (cs:List RV) (vs:Array Value) (hl:vs.size=cs.length)
   (h:∀(i:Nat)c v,cs[i]? =some c->vs[i]? =some v->R S loc c v):R S loc (.clo f cs) (.func (.func f) #[] vs)
 |err (t:TypeId) (x:Value):R S loc (.err false) (.iface t x)
 |noerr:R S loc (.err true) .nilIface
 |dfull (es:List PD) (a:Option Addr) (h:V S (.lst es) (.slice a es.length es.length)):R S loc (.dfull es) (.slice a es.length es.length)
 |ifc (t:TypeId) (c:RV) (v:Value) (h:R S loc c v):R S loc (.ifc t c) (.iface t v)
 |cptr (cs:List PD) (b o:Nat) (f:Nat->Value) (hS:∀(j:Nat)c,cs[j]? =some c->S ⟨b,o+j,none⟩=some (f j))
   (hV:∀(j:Nat)c,cs[j]? =some c->V S c (f j)):R S loc (.cptr cs) (.pointer (some ⟨b,o,none⟩))
 |plit (cs:List RV) (b o c:Nat) (f:Nat->Value) (hc:cs.length<=c) (hS:∀(j:Nat)x,cs[j]? =some x->S ⟨b,o+j,none⟩=some (f j))
   (hV:∀(j:Nat)x,cs[j]? =some x->R S loc x (f j)):R S loc (.plit cs) (.slice (some ⟨b,o,none⟩) cs.length c)
 |rlit (cs:List RV) (b o c:Nat) (f:Nat->Value) (hc:1<=c) (hS:∀(j:Nat)x,cs[j]? =some x->S ⟨b,o+j,none⟩=some (f j))
   (hV:∀(j:Nat)x,cs[j]? =some x->R S loc x (f j)):R S loc (.rlit cs) (.slice (some ⟨b,o,none⟩) 1 c)
 |pcp (c:RV) (b o:Nat) (u:Value) (hS:S ⟨b,o,none⟩=some u) (hV:R S loc c u):R S loc (.pcp c) (.pointer (some ⟨b,o,none⟩))
 |bnd (f:FuncId) (c:RV) (v:Value) (h:R S loc c v):R S loc (.bnd f c) (.func (.func f) #[v] #[])
 |rfn (id ver n:Nat) (a:Option Addr) (c:Nat) (h:R S loc (.ref id ver) (.slice a n c)):R S loc (.rfn id ver n) (.slice a n c)
def cm(loc loc':cJ):Prop:=
 ∀id L,loc id=some L->∃b,loc' id=some b∧ei L b
theorem cm.refl(loc:cJ):cm loc loc:=fun _ L h=>⟨L,h,.same L⟩
theorem R.mono{S S':cp}{loc loc':cJ}(r:Sub S S')(hl:cm loc loc'){rv:RV}{v:Value}(h:R S loc rv v):R S' loc' rv v:=by
 induction h with
 |d h=>exact .d (h.mono r)
 |undef=>exact .undef
 |junk v=>exact .junk v
 |cL=>exact .cL
 |agg cs vs hlen _ m=>exact .agg cs vs hlen m
 |tup cs vs hlen _ m=>exact .tup cs vs hlen m
 |ref id ver v L ho q h=>
  obtain⟨p,l,hc⟩:=hl id L q
  refine .ref id ver v p ho l ?_
  intro k e sz hdr he
  cases hc with
  |same=>exact h k e sz hdr he
  |dead=>cases he
  |arr g=>
   cases he
   have:=(h _ _ _ _ .arr).1
   exact⟨om,fun heq=>om⟩
  |nest g=>
   cases he
   have:=(h _ _ _ _ .nest).1
   exact⟨om,fun heq=>om⟩
  |held=>cases he;exact h _ _ _ _ .nest
  |heldm=>cases he
  |frozen=>cases he
  |flat g=>
   cases he
   have:=h _ _ _ _ .nest
   rcases g with g|⟨rfl,rfl,rfl,rfl⟩
   ·exact⟨om,fun heq=>om⟩
   ·exact this
 |ptr id off v L ho q h=>
  obtain⟨p,l,hc⟩:=hl id L q
  refine .ptr id off v p ho l ?_
  intro b
  cases hc with
  |same=>exact h b
  |dead=>exact⟨(fun he=>by cases he),(fun he=>by cases he)⟩
  |arr g=>exact⟨(fun he=>by cases he),(fun he=>by cases he)⟩
  |nest g=>exact⟨(fun he=>by cases he),(fun he=>by cases he)⟩
  |held=>exact⟨(fun he=>by cases he),(fun he=>by cases he)⟩
  |heldm=>exact⟨(fun he=>by cases he),(fun he=>by cases he;exact(h _).2 .mapn)⟩
  |frozen=>exact⟨(fun he=>by cases he),(fun he=>by cases he;exact(h _).2 .mapn)⟩
  |flat g=>exact⟨(fun he=>by cases he),(fun he=>by cases he)⟩
 |elt id ver i o v L ho q h=>
  obtain⟨p,l,hc⟩:=hl id L q
  refine .elt id ver i o v p ho l ?_
  intro k e sz hdr he
  cases hc with
  |same=>exact h k e sz hdr he
  |dead=>cases he
  |arr g=>
   cases he
   have:=(h _ _ _ _ .arr).1
   exact⟨om,fun heq=>om⟩
  |nest g=>
   cases he
   have:=(h _ _ _ _ .nest).1
   exact⟨om,fun heq=>om⟩
  |held=>cases he;exact h _ _ _ _ .nest
  |heldm=>cases he
  |frozen=>cases he
  |flat g=>
   cases he
   have:=h _ _ _ _ .nest
   rcases g with g|⟨rfl,rfl,rfl,rfl⟩
   ·exact⟨om,fun heq=>om⟩
   ·exact this
 |view id ver z y v L ho q h=>
  obtain⟨p,l,hc⟩:=hl id L q
  refine .view id ver z y v p ho l ?_
  intro k e sz hdr he
  cases hc with
  |same=>exact h k e sz hdr he
  |dead=>cases he
  |arr g=>
   cases he
   have:=(h _ _ _ _ .arr).1
   exact⟨om,fun heq=>om⟩
  |nest g=>
   cases he
   have:=(h _ _ _ _ .nest).1
   exact⟨om,fun heq=>om⟩
  |held=>cases he;exact h _ _ _ _ .nest
  |heldm=>cases he
  |frozen=>cases he
  |flat g=>
   cases he
   have:=h _ _ _ _ .nest
   rcases g with g|⟨rfl,rfl,rfl,rfl⟩
   ·exact⟨om,fun heq=>om⟩
   ·exact this
 |fview id ver y v L ho q h=>
  obtain⟨p,l,hc⟩:=hl id L q
  refine .fview id ver y v p ho l ?_
  intro k e sz hdr he
  cases hc with
  |same=>exact h k e sz hdr he
  |dead=>cases he
  |arr g=>
   cases he
   have:=(h _ _ _ _ .arr).1
   exact⟨om,fun heq=>om⟩
  |nest g=>
   cases he
   have:=(h _ _ _ _ .nest).1
   exact⟨om,fun heq=>om⟩
  |held=>cases he;exact h _ _ _ _ .nest
  |heldm=>cases he
  |frozen=>cases he
  |flat g=>
   cases he
   have:=h _ _ _ _ .nest
   rcases g with g|⟨rfl,rfl,rfl,rfl⟩
   ·exact⟨om,fun heq=>om⟩
   ·exact this
 |clo f cs vs hlen _ m=>exact .clo f cs vs hlen m
 |err t x=>exact .err t x
 |noerr=>exact .noerr
 |dfull es a h=>exact .dfull es a (h.mono r)
 |ifc t c v _ m=>exact .ifc t c v m
 |cptr cs b o f hS hV=>exact .cptr cs b o f (fun j c h=>r _ _ (hS j c h)) (fun j c h=>(hV j c h).mono r)
 |plit cs b o c f hc hS _ m=>exact .plit cs b o c f hc (fun j x h=>r _ _ (hS j x h)) m
 |rlit cs b o c f hc hS _ m=>exact .rlit cs b o c f hc (fun j x h=>r _ _ (hS j x h)) m
 |pcp c b o u hS _ m=>exact .pcp c b o u (r _ _ hS) m
 |bnd f c v _ m=>exact .bnd f c v m
 |rfn id ver n a c _ m=>exact .rfn id ver n a c m
structure Flat(S:cp)(sz:Nat)(es:List PD)(xs:List Value):Prop where
 len:∀e∈es,e.cells.length=sz
 one:∀u∈xs,u.oneCell'=true
 cell:∀(i:Nat)e(j:Nat)x,es[i]? =some e->e.cells[j]? =some x->∃u,xs[i*sz+j]? =some u∧V S x u
theorem Flat.mono{S S':cp}(g:Sub S S'){sz:Nat}{es:List PD}{xs:List Value}(h:Flat S sz es xs):Flat S' sz es xs:=
 ⟨h.len,h.one,fun i e j x h1 b=>let⟨u,c,f⟩:=h.cell i e j x h1 b;⟨u,c,f.mono g⟩⟩
structure jt(S:cp)(sz:Nat)(es:List PD)(xs:List Value)(i o:Nat):Prop where
 len:∀e∈es,e.cells.length=sz
 one:∀u∈xs,u.oneCell'=true
 cell:∀(k:Nat)e(j:Nat)x,es[k]? =some e->e.cells[j]? =some x->¬(k=i∧j=o)->∃u,xs[k*sz+j]? =some u∧V S x u
theorem jt.mono{S S':cp}(l:Sub S S'){sz:Nat}{es:List PD}{xs:List Value}{i o:Nat}(h:jt S sz es xs i o):jt S' sz es xs i o:=
 ⟨h.len,h.one,fun k e j x h1 b c=>let⟨u,f,g⟩:=h.cell k e j x h1 b c;⟨u,f,g.mono l⟩⟩
inductive NCR(P:Program)(S:cp)(loc:cJ)(w:World):NC->Value->List Nat->Prop
 |val (rv:RV) (v:Value) (h:R S loc rv v) (h1:v.oneCell'=true):NCR P S loc w (.val rv) v []
 |row (e:TypeId) (es:List PD) (sz:Nat) (v:Value) (xs:List Value) (hsz:szT P e=some sz) (how:rowAt w e sz v es.length xs) (hf:Flat S sz es xs):
   NCR P S loc w (.row e es) v (cA v).toList
inductive NCs(P:Program)(S:cp)(loc:cJ)(w:World):List NC->List Value->List Nat->Prop
 |nil:NCs P S loc w [] [] []
 |cons {c:NC} {v:Value} {b bs:List Nat} {cs:List NC} {vs:List Value} (h:NCR P S loc w c v b) (t:NCs P S loc w cs vs bs):NCs P S loc w (c::cs) (v::vs) (b++bs)
structure js(S:cp)(sz:Nat)(es:List PD)(xs:List Value)(o:Nat):Prop where
 len:∀e∈es,e.cells.length=sz
 one:∀u∈xs,u.oneCell'=true
 cell:∀(k:Nat)e(j:Nat)x,es[k]? =some e->e.cells[j]? =some x->j≠o->∃u,xs[k*sz+j]? =some u∧V S x u
theorem js.mono{S S':cp}(i:Sub S S'){sz:Nat}{es:List PD}{xs:List Value}{o:Nat}(h:js S sz es xs o):js S' sz es xs o:=
 ⟨h.len,h.one,fun k e j x h1 b c=>let⟨u,f,g⟩:=h.cell k e j x h1 b c;⟨u,f,g.mono i⟩⟩
structure ColR(Q:List PD->Value->List Nat->Prop)(sz o:Nat)(es:List PD)(xs:List Value)(g:Option Nat)(bl:Nat->List Nat)(h:Option Nat):Prop where
 cell:∀(k:Nat)e,es[k]? =some e->h≠some k->∃row u,e.cells[o]? =some (.lst row)∧xs[k*sz+o]? =some u∧Q row u (bl k)
 eR:∀k,h=some k->bl k=[]
 apart:∀k k' b,k<es.length->k'<es.length->b∈bl k->b∈bl k'->k=k'
 hdr:∀k b,k<es.length->b∈bl k->g≠some b
def dM(P:Program)(S:cp)(w:World):List (Nat×TypeId)->TypeId->List PD->Value->List Nat->Prop
 | [],e,es,v,bs=>∃sz xs,szT P e=some sz∧rowAt w e sz v es.length xs∧Flat S sz es xs∧bs=(cA v).toList
 |(o,e2)::ts,e,es,v,bs=>∃sz xs c,szT P e=some sz∧o<sz∧rowAt w e sz v es.length xs∧js S sz es xs o∧ColR (dM P S w ts e2) sz o es xs (cA v) c none∧
   ∀b,b∈bs↔cA v=some b∨∃k,k<es.length∧b∈c k
structure fO(P:Program)(S:cp)(loc:cJ)(w:World)(e:TypeId)(es:List PD)(o:Nat)(e2:TypeId)(ts:List (Nat×TypeId))(h:Option (Nat×RV))(sz:Nat)(hdr:Value)(xs:List Value)(bs:List Nat)(bl:Nat->List Nat):Prop where
 hsz:szT P e=some sz
 ho:o<sz
 how:rowAt w e sz hdr es.length xs
 hf:js S sz es xs o
 hc:ColR (dM P S w ts e2) sz o es xs (cA hdr) bl (h.map (·.1))
 hb:∀b,b∈bs↔∃k,k<es.length∧b∈bl k
 hl:∀i rv,h=some (i,rv)->i<es.length∧∃u,xs[i*sz+o]? =some u∧R S loc rv u
 ht:eZ P e o e2 ts=true
inductive eh(P:Program)(S:cp)(loc:cJ)(w:World):Box->Loc->Prop
 |var (cs:List RV) (b:Nat) (t:TypeId) (vs:Array Value) (hw:w.heap[b]? =some (.cells vs t (0,0))) (hl:vs.size=cs.length)
   (h:∀(i:Nat)c v,cs[i]? =some c->vs[i]? =some v->R S loc c v):eh P S loc w (.var cs) (.var b)
 |arr (ver:Nat) (e:TypeId) (es:List PD) (sz:Nat) (hdr:Value) (xs:List Value) (hsz:szT P e=some sz)
   (how:rowAt w e sz hdr es.length xs) (hf:Flat S sz es xs):eh P S loc w (.arr ver e es) (.arr ver e sz hdr)
 |dead (L:Loc) (hL:L= .dead):eh P S loc w .dead L
 |map (kt vt:TypeId) (es:List (PD×PD)) (b clock:Nat) (ents:Array MapEntry) (hw:w.heap[b]? =some (.map ents clock)) (hl:ents.size=es.length)
   (h:∀(i:Nat)k x en,es[i]? =some (k,x)->ents[i]? =some en->V S k en.key∧V S x en.val):eh P S loc w (.map kt vt es) (.map b)
 |nest (ver:Nat) (e e2:TypeId) (ess:List (List PD)) (h:Option (Nat×RV)) (hdr:Value) (xs:List Value) (bs:List Nat) (hsz:szT P e=some 1) (hs2:∃k,szT P e2=some (k+1))
   (how:rowAt w e 1 hdr ess.length xs) (hc:NCs P S loc w (ncs e2 ess h) xs bs) (hnd:((cA hdr).toList++bs).Nodup) (hi:∀i rv,h=some (i,rv)->i<ess.length):eh P S loc w (.nest ver e e2 ess h) (.nest ver e 1 hdr bs)
 |mapn (kt vt e2:TypeId) (es:List (PD×List PD)) (eR:Option Nat) (b:Nat) (ents:Array MapEntry) (bs:List Nat) (hs2:∃k,szT P e2=some (k+1)) (hw:w.heap[b]? =some (.map ents ents.size)) (hl:ents.size=es.length)
   (hk:∀(i:Nat)k x en,es[i]? =some (k,x)->ents[i]? =some en->V S k en.key∧en.born=i)
   (hc:NCs P S loc w (ncs e2 (es.map (·.2)) (eR.map fun i=>(i,.junk))) (ents.toList.map (·.val)) bs) (hnd:(b::bs).Nodup) (hi:∀i,eR=some i->i<es.length):
   eh P S loc w (.mapn kt vt e2 es eR) (.mapn b bs)
 |hole (ver:Nat) (e:TypeId) (es:List PD) (i o:Nat) (rv:RV) (sz:Nat) (hdr:Value) (xs:List Value) (u:Value) (hsz:szT P e=some sz)
   (how:rowAt w e sz hdr es.length xs) (hf:jt S sz es xs i o) (hi:i<es.length) (ho:o<sz) (hu:xs[i*sz+o]? =some u) (hr:R S loc rv u):eh P S loc w (.hole ver e es i o rv) (.arr ver e sz hdr)
 |deep (ver:Nat) (e:TypeId) (es:List PD) (o:Nat) (e2:TypeId) (ts:List (Nat×TypeId)) (h:Option (Nat×RV)) (sz:Nat) (hdr:Value) (xs:List Value) (bs:List Nat) (bl:Nat->List Nat)
   (hd:fO P S loc w e es o e2 ts h sz hdr xs bs bl):eh P S loc w (.deep ver e es o e2 ts h) (.nest ver e sz hdr bs)
structure iZ where
 snap:cp
 mono:Prop
 objs:List (Nat×Obj)
structure Frame(E:Prop)(B0:List Nat)(w0 w:World):Prop where
 os:w.os=w0.os
 tape:w.tape=w0.tape
 output:w.output=w0.output
 size:w0.heap.size<=w.heap.size
 block:∀b,b<w0.heap.size->b∉B0->w.heap[b]? =w0.heap[b]?
 drawn:E->w0.drawn<=w.drawn
theorem Frame.refl(E:Prop)(B0:List Nat)(w:World):Frame E B0 w w:=⟨rfl,rfl,rfl,AB _,fun _ _ _=>rfl,fun _=>AB _⟩
structure Ctx where
 w0:World
 B0:List Nat
 S0:cp
 par:Nat->Option Loc
 nt:Nat
 base:iZ
structure Sim(P:Program)(X:Ctx)(S:cp)(loc:cJ)(s:St)(tm:Array Value)(w:World):Prop where
 nt:tm.size=X.nt
 cv:∀t rv,s.cv t=some rv->∃v,tm[t]? =some v∧R S loc rv v
 boxes:∀id bx,s.boxes id=some bx->∃L,loc id=some L∧eh P S loc w bx L
 dom:∀id L,loc id=some L->∃bx,s.boxes id=some bx
 imm:∀ad v,S ad=some v->w.cell? ad=some v
 fy:∀ad v,S ad=some v->v.oneCell'=true
 eA:∀id L b,loc id=some L->L.has b->∀o,S ⟨b,o,none⟩=none
 inj:∀id id' L L' b,loc id=some L->loc id'=some L'->L.has b->L'.has b->id=id'
 own:∀id L b,loc id=some L->L.has b->b∈X.B0∨X.w0.heap.size<=b
 frame:Frame X.base.mono X.B0 X.w0 w
 s0:Sub X.S0 S
 par:∀k L0,X.par k=some L0->∃L,loc k=some L∧ei L0 L
 gE:∀ad v,S ad=some v->X.S0 ad=some v∨X.w0.heap.size<=ad.block∨ad.block∈X.B0
 bs:Sub X.base.snap S
 ob:∀x∈X.base.objs,w.heap[x.1]? =some x.2∧∃o v,X.base.snap ⟨x.1,o,none⟩=some v
def eN(P:Program)(X:Ctx)(s:St)(a:Act)(w:World):Prop:=a.defers=[]∧∃S loc,Sim P X S loc s a.tmps w
theorem M.bind_some{α β:Type}{m:M α}{f:α->M β}{b:cI}{x:β}{r:List Nat}(h:M.bind m f b=some (x,r,true)):
  ∃a c e,m b=some (a,c,true)∧f a b=some (x,e,true)∧r=c++e:=by
 unfold M.bind at h
 cases hm:m b with
 |none=>simp [hm]at h
 |some t=>
  obtain⟨a,c,g⟩:=t
  simp only [hm]at h
  cases hf:f a b with
  |none=>simp [hf]at h
  |some t2=>
   obtain⟨y,e,i⟩:=t2
   simp only [hf,AD,Prod.mk.injEq,Bool.and_eq_true]at h
   obtain⟨rfl,rfl,rfl,rfl⟩:=h
   exact⟨a,c,e,rfl,hf,rfl⟩
theorem M.get_some{id:Nat}{b:cI}{x:Box}{r:List Nat}{c:Bool}(h:M.get id b=some (x,r,c)):b id=some x∧r=[id]∧c=true:=by
 unfold M.get at h
 cases hb:b id<;>simp [hb]at h
 obtain⟨rfl,rfl,rfl⟩:=h
 exact⟨rfl,rfl,rfl⟩
theorem M.cU{id:Nat}{b:cI}{x:Unit}{r:List Nat}{c:Bool}(h:M.cE id b=some (x,r,c)):b id=none∧r=[id]∧c=true:=by
 unfold M.cE at h
 cases hb:b id<;>simp [hb]at h
 exact⟨rfl,h.1.symm,h.2⟩
theorem M.cd{α:Type}{a x:α}{b:cI}{r:List Nat}{c:Bool}(h:M.pure a b=some (x,r,c)):x=a∧r=[]∧c=true:=by
 simp only [M.pure,AD,Prod.mk.injEq]at h
 exact⟨h.1.symm,h.2.1.symm,h.2.2.symm⟩
theorem M.cg{α:Type}{a x:α}{b:cI}{r:List Nat}{k c:Bool}(h:M.cr k a b=some (x,r,c)):x=a∧r=[]∧c=k:=by
 simp only [M.cr,AD,Prod.mk.injEq]at h
 exact⟨h.1.symm,h.2.1.symm,h.2.2.symm⟩
theorem M.oe{α:Type}{x:α}{b:cI}{r:List Nat}{c:Bool}(h:(M.fail:M α) b=some (x,r,c)):False:=by
 simp [M.fail]at h
theorem fE{α:Type}{x:α}(b:cI){r:List Nat}{c:Bool}{C:Prop}(h:(M.fail:M α) b=some (x,r,c)):C:=(M.oe h).elim
theorem R.dW(S:cp)(loc:cJ)(v:Value):R S loc (dW v) v:=by
 unfold Dw.dW
 split<;>first
  |exact .junk _
  |exact .cL
  |exact .d (.bool _)
  |exact .d (.int _ _)
  |exact .d (.raw _ rfl)
  |exact .d (.str _)
theorem R.cH(S:cp)(loc:cJ)(v:Value):R S loc (cH v) v:=by
 unfold Dw.cH
 split
 ·rename_i cs
  refine .agg _ cs sm ?_
  intro i c v h1 b
  simp only [List.getElem?_map,Array.getElem?_toList,b,Option.map_some,AD]at h1
  subst h1
  exact R.dW S loc v
 ·exact R.dW S loc _
section
variable {P:Program}{X:Ctx}{S:cp}{loc:cJ}{s:St}{a:Act}{w:World}
theorem Sim.opd(h:Sim P X S loc s a.tmps w){x:Operand}{rv:RV}(b:s.opd x=some rv):R S loc rv (a.eval x):=by
 cases x with
 |tmp t=>
  obtain⟨v,e,c⟩:=h.cv t rv b
  simp only [Act.eval,Array.getD_eq_getD_getElem?,e,Option.getD_some]
  exact c
 |const v=>simp only [St.opd,AD]at b;subst b;exact R.cH S loc v
 |global g=>simp [St.opd]at b
 |func f=>simp only [St.opd,AD]at b;subst b;exact .d (.raw _ rfl)
theorem Sim.put(h:Sim P X S loc s a.tmps w){rv:RV}{v:Value}(i:R S loc rv v)(dst:Option Nat)(hd:∀d,dst=some d->d<X.nt):
  Sim P X S loc (s.put dst rv) (a.put dst v).tmps w:=by
 cases dst with
 |none=>exact h
 |some d=>
  refine⟨?_,?_,h.boxes,h.dom,h.imm,h.fy,h.eA,h.inj,h.own,h.frame,h.s0,h.par,h.gE,h.bs,h.ob⟩
  ·simp [Act.put,h.nt]
  ·intro t g ht
   have c:d<a.tmps.size:=by rw [h.nt];exact hd d rfl
   simp only [St.put]at ht
   by_cases b:t=d
   ·subst b
    simp only [if_true,AD]at ht
    subst ht
    exact⟨v,by simp [Act.put,c],i⟩
   ·simp only [b,if_false]at ht
    obtain⟨v',f,e⟩:=h.cv t g ht
    exact⟨v',by simp [Act.put,Array.getElem?_setIfInBounds_ne (Ne.symm b),f],e⟩
theorem eN.put(h:eN P X s a w)(dst:Option Nat)(hd:∀d,dst=some d->d<X.nt){rv:RV}{v:Value}(c:∀S loc,Sim P X S loc s a.tmps w->R S loc rv v):
  eN P X (s.put dst rv) (a.put dst v) w:=by
 obtain⟨b,S,loc,h⟩:=h
 exact⟨by cases dst<;>exact b,S,loc,h.put (c S loc h) dst hd⟩
end
end Go.Dw
