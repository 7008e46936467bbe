
import Derived.Test.YthadlbjoiidkjaaGreatDoorDwEval
import Derived.Laws.AppendOwn
import Derived.Laws.Strings
import Derived.Laws.Strings2
import Derived.LoopN

namespace Go.Dw
abbrev pR:=Addr->Option Value
def A9:Value->Bool
 | .func (.func _) ⟨[]⟩ ⟨[]⟩=>true
 | .func (.func _) ⟨[.agg ⟨[]⟩]⟩ ⟨[]⟩=>true
 | .nilFunc| .nilIface| .pointer none| .map none| .slice none 0 0=>true
 |_=>false
inductive V(S:pR):PD->Value->Prop
 |bool (b:Bool):V S (.bool b) (.bool b)
 |int (k:IntKind) (n:Int):V S (.int k n) (.int k n)
 |str (s:List UInt8):V S (.str s) (.string ⟨s.toArray⟩)
 |raw (v:Value) (h:A9 v=true):V S (.raw v) v
 |agg (cs:List PD) (vs:Array Value) (hl:vs.size=cs.length)
   (h:∀(i:Nat)p v,cs[i]? =some p->vs[i]? =some v->V S p v):V S (.agg cs) (.agg vs)
 |nil (a:Option Addr) (c:Nat):V S (.lst []) (.slice a 0 c)
 |lst (es:List PD) (b o c sz:Nat) (f:Nat->Nat->Value) (hc:es.length<=c) (hsz:∀e∈es,e.cells.length=sz)
   (hS:∀(i:Nat)e(j:Nat)x,es[i]? =some e->e.cells[j]? =some x->S ⟨b,o+i*sz+j,none⟩=some (f i j))
   (hV:∀(i:Nat)e(j:Nat)x,es[i]? =some e->e.cells[j]? =some x->V S x (f i j)):
   V S (.lst es) (.slice (some ⟨b,o,none⟩) es.length c)
def Sub(S S':pR):Prop:=∀a v,S a=some v->S' a=some v
theorem Sub.refl(S:pR):Sub S S:=fun _ _ h=>h
theorem Sub.trans{S S' S'':pR}(h:Sub S S')(h':Sub S' S''):Sub S S'':=fun a v hv=>h' a v (h a v hv)
theorem V.mono{S S':pR}(hs:Sub S S'){p:PD}{v:Value}(h:V S p v):V S' p v:=by
 induction h with
 |bool b=>exact .bool b
 |int k n=>exact .int k n
 |str s=>exact .str s
 |raw v h=>exact .raw v h
 |agg cs vs hl _ ih=>exact .agg cs vs hl ih
 |nil a c=>exact .nil a c
 |lst es b o c sz f hc hsz hS _ ih=>exact .lst es b o c sz f hc hsz (fun i e j x h1 h2=>hs _ _ (hS i e j x h1 h2)) ih
def rk:Value->Option Nat
 | .slice (some a) _ (_+1)=>some a.block
 |_=>none
def FzOk(fz:Nat×Nat)(cap sz:Nat):Prop:=fz=(0,0)∨(fz.1=cap∧sz=1)
def rA(w:World)(e:TypeId)(sz:Nat)(v:Value)(n:Nat)(xs:List Value):Prop:=
 xs.length = n * sz ∧ ((v = .slice none 0 0 ∧ n = 0) ∨
  ∃g cap cur fz,v= .slice (some ⟨g,0,none⟩) n cap∧FzOk fz cap sz∧w.heap[g]? =some (.cells cur e fz)∧n<=cap∧cap<=maxLen∧cur.size=cap*sz∧cur.toList.take (n*sz)=xs)
theorem rA.of{w:World}{e:TypeId}{base sz n:Nat}{v:Value}{xs:List Value}(h:w.ownsRow base e sz v n xs):rA w e sz v n xs:=
 ⟨h.1,h.2.imp id fun⟨g,cap,cur,h1,_,h2⟩=>⟨g,cap,cur,(0,0),h1,.inl rfl,h2⟩⟩
theorem rA.xc{w:World}{e:TypeId}{sz n:Nat}{v:Value}{xs:List Value}(h:rA w e sz v n xs)(h1:sz≠1):w.ownsRow 0 e sz v n xs:=
 ⟨h.1, h.2.imp id fun ⟨g, cap, cur, _, h2, h3, h4⟩ => by
  rcases h3 with rfl|⟨_,h3⟩
  ·exact⟨g,cap,cur,h2,Nat.zero_le _,h4⟩
  ·exact(h1 h3).elim⟩
theorem rA.cells{w:World}{e:TypeId}{sz n g m c:Nat}{v:Value}{xs:List Value}(h:rA w e sz v n xs)(hv:v= .slice (some ⟨g,0,none⟩) m c):
  ∀(j:Nat)u,xs[j]? =some u->w.cell? ((⟨g,0,none⟩:Addr).add j)=some u:=by
 intro j u hj
 rcases h.2 with⟨he,_⟩|⟨g',cap,cur,fz,he,hfz,hg,hnc,hcm,hcs,htake⟩
 ·rw [hv]at he;cases he
 rw [hv]at he
 cases he
 have hadd:(⟨g,0,none⟩:Addr).add j=⟨g,j,none⟩:=by unfold Addr.add;split<;>simp_all
 rw [hadd]
 simp only [World.cell?,hg]
 rw [<-htake,List.getElem?_take]at hj
 split at hj
 ·simpa using hj
 ·cases hj
theorem rA.lt{w:World}{e:TypeId}{sz n:Nat}{v:Value}{xs:List Value}(h:rA w e sz v n xs){b:Nat}(hb:v.ownBlock=some b):b<w.heap.size:=by
 rcases h.2 with⟨rfl,_⟩|⟨g,cap,cur,fz,rfl,_,hg,_⟩
 ·cases hb
 ·cases hb
  exact(Array.getElem?_eq_some_iff.1 hg).1
def rowAt(w:World)(e:TypeId)(sz:Nat)(v:Value)(n:Nat)(xs:List Value):Prop:=
 rA w e sz v n xs∨(n=0∧xs=[]∧∃a,v= .slice a 0 0)
theorem rowAt.xc{w:World}{e:TypeId}{sz n:Nat}{v:Value}{xs:List Value}(h:rowAt w e sz v n xs)(hn:0<n):rA w e sz v n xs:=by
 rcases h with h|⟨h,_⟩
 ·exact h
 ·omega
theorem rowAt.len{w:World}{e:TypeId}{sz n:Nat}{v:Value}{xs:List Value}(h:rowAt w e sz v n xs):xs.length=n*sz:=by
 rcases h with h|⟨rfl,rfl,_⟩
 ·exact h.1
 ·simp
theorem rT{v:Value}{b:Nat}(h:rk v=some b):v.ownBlock=some b:=by
 unfold rk at h
 split at h
 ·exact h
 ·cases h
theorem rowAt.hdr{w:World}{e:TypeId}{sz n:Nat}{v:Value}{xs:List Value}(h:rowAt w e sz v n xs):∃a c,v= .slice a n c∧n<=c:=by
 rcases h with⟨_,⟨rfl,rfl⟩|⟨g,cap,cur,fz,rfl,_,_,h,_⟩⟩|⟨rfl,_,a,rfl⟩
 ·exact⟨none,0,rfl,Nat.le_refl _⟩
 ·exact⟨_,_,rfl,h⟩
 ·exact⟨a,0,rfl,Nat.le_refl _⟩
theorem rowAt.lt{w:World}{e:TypeId}{sz n:Nat}{v:Value}{xs:List Value}(h:rowAt w e sz v n xs){b:Nat}(hb:rk v=some b):b<w.heap.size:=by
 rcases h with h|⟨_,_,a,rfl⟩
 ·exact h.lt (rT hb)
 ·cases a<;>cases hb
theorem rowAt.py{w w':World}{e:TypeId}{sz n:Nat}{v:Value}{xs:List Value}(h:rowAt w e sz v n xs)(hb:∀b,rk v=some b->w'.heap[b]? =w.heap[b]?):rowAt w' e sz v n xs:=by
 rcases h with⟨h1,h2⟩|h
 ·rcases h2 with hn|⟨g,cap,cur,fz,rfl,hfz,hg,r1,r2,r3⟩
  ·exact .inl ⟨h1,.inl hn⟩
  ·cases cap with
   |zero=>
    obtain rfl:n=0:=by omega
    exact .inr ⟨rfl,List.eq_nil_of_length_eq_zero (by simpa using h1),_,rfl⟩
   |succ cap=>exact .inl ⟨h1,.inr ⟨g,_,cur,fz,rfl,hfz,by rw [hb g rfl];exact hg,r1,r2,r3⟩⟩
 ·exact .inr h
inductive Loc where
 |var (b:Nat)
 |arr (ver:Nat) (e:TypeId) (sz:Nat) (hdr:Value)
 |dead
 |map (b:Nat)
def Loc.block:Loc->Option Nat
 | .var b=>some b
 | .arr _ _ _ hdr=>rk hdr
 | .dead=>none
 | .map b=>some b
def Loc.has:Loc->Nat->Prop
 | .var c,b=>some c=some b
 | .arr _ _ _ hdr,b=>rk hdr=some b
 | .dead,b=>(none:Option Nat)=some b
 | .map c,b=>some c=some b
inductive Loc.Row:Loc->Nat->TypeId->Nat->Value->Prop
 |arr {ver:Nat} {e:TypeId} {sz:Nat} {hdr:Value}:Loc.Row (.arr ver e sz hdr) ver e sz hdr
inductive Loc.Map:Loc->Nat->Prop
 |map {b:Nat}:Loc.Map (.map b) b
inductive ud:Loc->Loc->Prop
 |same (L:Loc):ud L L
 |dead (L:Loc):ud L .dead
 |arr {ver ver':Nat} {e e':TypeId} {sz sz':Nat} {hdr hdr':Value} (h:ver<ver'):ud (.arr ver e sz hdr) (.arr ver' e' sz' hdr')
theorem ud.trans{a b c:Loc}(h:ud a b)(h':ud b c):ud a c:=by
 cases h with
 |same=>exact h'
 |dead=>cases h'<;>exact .dead _
 |arr h1=>cases h' with
  |same=>exact .arr h1
  |dead=>exact .dead _
  |arr h2=>exact .arr za
abbrev qe:=Nat->Option Loc
inductive R(S:pR)(loc:qe):RV->Value->Prop
 |d {p:PD} {v:Value} (h:V S p v):R S loc (.d p) v
 |undef:R S loc .undef Go.undef
 |junk (v:Value):R S loc .junk v
 |mo:R S loc .mo (.slice none 0 0)
 |agg (cs:List RV) (vs:Array Value) (hl:vs.size=cs.length)
   (h:∀(i:Nat)c v,cs[i]? =some c->vs[i]? =some v->R S loc c v):R S loc (.agg cs) (.agg vs)
 |tup (cs:List RV) (vs:Array Value) (hl:vs.size=cs.length)
   (h:∀(i:Nat)c v,cs[i]? =some c->vs[i]? =some v->R S loc c v):R S loc (.tup cs) (.tuple vs)
 |ref (id ver:Nat) (v:Value) (L:Loc) (ho:v.oneCell'=true) (hL:loc id=some L) (h:∀ver' e sz hdr,L.Row ver' e sz hdr->ver<=ver'∧(ver=ver'->v=hdr)):R S loc (.ref id ver) v
 |ptr (id off:Nat) (v:Value) (L:Loc) (ho:v.oneCell'=true) (hL:loc id=some L) (h:∀b,(L= .var b->v= .pointer (some ⟨b,off,none⟩))∧(L.Map b->v= .map (some b))):R S loc (.ptr id off) v
 |elt (id ver i o:Nat) (v:Value) (L:Loc) (ho:v.oneCell'=true) (hL:loc id=some L)
   (h:∀ver' e sz hdr,L.Row ver' e sz hdr->ver<=ver'∧(ver=ver'->∃g n c,hdr= .slice (some ⟨g,0,none⟩) n c∧v= .pointer (some ⟨g,i*sz+o,none⟩))):R S loc (.elt id ver i o) v
 |view (id ver lo hi:Nat) (v:Value) (L:Loc) (ho:v.oneCell'=true) (hL:loc id=some L)
   (h:∀ver' e sz hdr,L= .arr ver' e sz hdr->ver<=ver'∧(ver=ver'->(lo=hi∧∃a,v= .slice a 0 0)∨∃g n c,hdr= .slice (some ⟨g,0,none⟩) n c∧lo<=hi∧hi<=c∧v= .slice (some ⟨g,lo*sz,none⟩) (hi-lo) (c-lo))):R S loc (.view id ver lo hi) v
 |fview (id ver hi:Nat) (v:Value) (L:Loc) (ho:v.oneCell'=true) (hL:loc id=some L)
   (h:∀ver' e sz hdr,L= .arr ver' e sz hdr->ver<=ver'∧(ver=ver'->∃a n c,hdr= .slice a n c∧hi<=n∧v= .slice a hi hi)):R S loc (.fview id ver hi) v
 |clo (f:FuncId) (cs:List RV) (vs:Array Value) (hl:vs.size=cs.length)
   (h:∀(i:Nat)c v,cs[i]? =some c->vs[i]? =some v->R S loc c v):R S loc (.clo f cs) (.func (.func f) #[] vs)
 |err (t:TypeId) (x:Value):R S loc (.err false) (.iface t x)
 |noerr:R S loc (.err true) .nilIface
 |dfull (es:List PD) (a:Option Addr) (h:V S (.lst es) (.slice a es.length es.length)):R S loc (.dfull es) (.slice a es.length es.length)
 |ifc (t:TypeId) (c:RV) (v:Value) (h:R S loc c v):R S loc (.ifc t c) (.iface t v)
 |cptr (cs:List PD) (b o:Nat) (f:Nat->Value) (hS:∀(j:Nat)c,cs[j]? =some c->S ⟨b,o+j,none⟩=some (f j))
   (hV:∀(j:Nat)c,cs[j]? =some c->V S c (f j)):R S loc (.cptr cs) (.pointer (some ⟨b,o,none⟩))
def qa(loc loc':qe):Prop:=
 ∀id L,loc id=some L->∃L',loc' id=some L'∧ud L L'
theorem qa.refl(loc:qe):qa loc loc:=fun _ L h=>⟨L,h,.same L⟩
theorem R.mono{S S':pR}{loc loc':qe}(hs:Sub S S')(hl:qa loc loc'){rv:RV}{v:Value}(h:R S loc rv v):R S' loc' rv v:=by
 induction h with
 |d h=>exact .d (h.mono hs)
 |undef=>exact .undef
 |junk v=>exact .junk v
 |mo=>exact .mo
 |agg cs vs hlen _ ih=>exact .agg cs vs hlen ih
 |tup cs vs hlen _ ih=>exact .tup cs vs hlen ih
 |ref id ver v L ho hL h=>
  obtain⟨L',hL',hc⟩:=hl id L hL
  refine .ref id ver v L' ho hL' ?_
  intro ver' e sz hdr he
  cases hc with
  |same=>exact h ver' e sz hdr he
  |dead=>cases he
  |arr hlt=>
   cases he
   have:=(h _ _ _ _ .arr).1
   exact⟨za,fun heq=>za⟩
 |ptr id off v L ho hL h=>
  obtain⟨L',hL',hc⟩:=hl id L hL
  refine .ptr id off v L' ho hL' ?_
  intro b
  cases hc with
  |same=>exact h b
  |dead=>exact⟨(fun he=>by cases he),(fun he=>by cases he)⟩
  |arr hlt=>exact⟨(fun he=>by cases he),(fun he=>by cases he)⟩
 |elt id ver i o v L ho hL h=>
  obtain⟨L',hL',hc⟩:=hl id L hL
  refine .elt id ver i o v L' ho hL' ?_
  intro ver' e sz hdr he
  cases hc with
  |same=>exact h ver' e sz hdr he
  |dead=>cases he
  |arr hlt=>
   cases he
   have:=(h _ _ _ _ .arr).1
   exact⟨za,fun heq=>za⟩
 |view id ver lo hi v L ho hL h=>
  obtain⟨L',hL',hc⟩:=hl id L hL
  refine .view id ver lo hi v L' ho hL' ?_
  intro ver' e sz hdr he
  cases hc with
  |same=>exact h ver' e sz hdr he
  |dead=>cases he
  |arr hlt=>
   cases he
   have:=(h _ _ _ _ rfl).1
   exact⟨za,fun heq=>za⟩
 |fview id ver hi v L ho hL h=>
  obtain⟨L',hL',hc⟩:=hl id L hL
  refine .fview id ver hi v L' ho hL' ?_
  intro ver' e sz hdr he
  cases hc with
  |same=>exact h ver' e sz hdr he
  |dead=>cases he
  |arr hlt=>
   cases he
   have:=(h _ _ _ _ rfl).1
   exact⟨za,fun heq=>za⟩
 |clo f cs vs hlen _ ih=>exact .clo f cs vs hlen ih
 |err t x=>exact .err t x
 |noerr=>exact .noerr
 |dfull es a h=>exact .dfull es a (h.mono hs)
 |ifc t c v _ ih=>exact .ifc t c v ih
 |cptr cs b o f hS hV=>exact .cptr cs b o f (fun j c h=>hs _ _ (hS j c h)) (fun j c h=>(hV j c h).mono hs)
structure Flat(S:pR)(sz:Nat)(es:List PD)(xs:List Value):Prop where
 len:∀e∈es,e.cells.length=sz
 one:∀u∈xs,u.oneCell'=true
 cell:∀(i:Nat)e(j:Nat)x,es[i]? =some e->e.cells[j]? =some x->∃u,xs[i*sz+j]? =some u∧V S x u
theorem Flat.mono{S S':pR}(hs:Sub S S'){sz:Nat}{es:List PD}{xs:List Value}(h:Flat S sz es xs):Flat S' sz es xs:=
 ⟨h.len,h.one,fun i e j x h1 h2=>let⟨u,h3,h4⟩:=h.cell i e j x h1 h2;⟨u,h3,h4.mono hs⟩⟩
inductive NCR(P:Program)(S:pR)(loc:qe)(w:World):NC->Value->List Nat->Prop
 |val (rv:RV) (v:Value) (h:R S loc rv v) (h1:v.oneCell'=true):NCR P S loc w (.val rv) v []
 |row (e:TypeId) (es:List PD) (sz:Nat) (v:Value) (xs:List Value) (hsz:szT P e=some sz) (how:rowAt w e sz v es.length xs) (hf:Flat S sz es xs):
   NCR P S loc w (.row e es) v (rk v).toList
inductive NCs(P:Program)(S:pR)(loc:qe)(w:World):List NC->List Value->List Nat->Prop
 |nil:NCs P S loc w [] [] []
 |cons {c:NC} {v:Value} {b bs:List Nat} {cs:List NC} {vs:List Value} (h:NCR P S loc w c v b) (t:NCs P S loc w cs vs bs):NCs P S loc w (c::cs) (v::vs) (b++bs)
inductive tU(P:Program)(S:pR)(loc:qe)(w:World):Box->Loc->Prop
 |var (cs:List RV) (b:Nat) (t:TypeId) (vs:Array Value) (hw:w.heap[b]? =some (.cells vs t (0,0))) (hl:vs.size=cs.length)
   (h:∀(i:Nat)c v,cs[i]? =some c->vs[i]? =some v->R S loc c v):tU P S loc w (.var cs) (.var b)
 |arr (ver:Nat) (e:TypeId) (es:List PD) (sz:Nat) (hdr:Value) (xs:List Value) (hsz:szT P e=some sz)
   (how:rowAt w e sz hdr es.length xs) (hf:Flat S sz es xs):tU P S loc w (.arr ver e es) (.arr ver e sz hdr)
 |dead (L:Loc) (hL:L= .dead):tU P S loc w .dead L
 |map (kt vt:TypeId) (es:List (PD×PD)) (b clock:Nat) (ents:Array MapEntry) (hw:w.heap[b]? =some (.map ents clock)) (hl:ents.size=es.length)
   (h:∀(i:Nat)k x en,es[i]? =some (k,x)->ents[i]? =some en->V S k en.key∧V S x en.val):tU P S loc w (.map kt vt es) (.map b)
structure uT where
 snap:pR
 mono:Prop
 objs:List (Nat×Obj)
structure Frame(E:Prop)(B0:List Nat)(w0 w:World):Prop where
 os:w.os=w0.os
 tape:w.tape=w0.tape
 output:w.output=w0.output
 size:w0.heap.size<=w.heap.size
 block:∀b,b<w0.heap.size->b∉B0->w.heap[b]? =w0.heap[b]?
 drawn:E->w0.drawn<=w.drawn
theorem Frame.refl(E:Prop)(B0:List Nat)(w:World):Frame E B0 w w:=⟨rfl,rfl,rfl,Nat.le_refl _,fun _ _ _=>rfl,fun _=>Nat.le_refl _⟩
structure Ctx where
 w0:World
 B0:List Nat
 S0:pR
 par:Nat->Option Loc
 nt:Nat
 base:uT
structure Sim(P:Program)(X:Ctx)(S:pR)(loc:qe)(s:St)(tm:Array Value)(w:World):Prop where
 nt:tm.size=X.nt
 pU:∀t rv,s.pU t=some rv->∃v,tm[t]? =some v∧R S loc rv v
 boxes:∀id bx,s.boxes id=some bx->∃L,loc id=some L∧tU P S loc w bx L
 dom:∀id L,loc id=some L->∃bx,s.boxes id=some bx
 imm:∀ad v,S ad=some v->w.cell? ad=some v
 tJ:∀ad v,S ad=some v->v.oneCell'=true
 ss:∀id L b,loc id=some L->L.has b->∀o,S ⟨b,o,none⟩=none
 inj:∀id id' L L' b,loc id=some L->loc id'=some L'->L.has b->L'.has b->id=id'
 own:∀id L b,loc id=some L->L.has b->b∈X.B0∨X.w0.heap.size<=b
 frame:Frame X.base.mono X.B0 X.w0 w
 s0:Sub X.S0 S
 par:∀k L0,X.par k=some L0->∃L,loc k=some L∧ud L0 L
 vG:∀ad v,S ad=some v->X.S0 ad=some v∨X.w0.heap.size<=ad.block∨ad.block∈X.B0
 bs:Sub X.base.snap S
 ob:∀x∈X.base.objs,w.heap[x.1]? =some x.2∧∃o v,X.base.snap ⟨x.1,o,none⟩=some v
def tV(P:Program)(X:Ctx)(s:St)(a:Act)(w:World):Prop:=a.defers=[]∧∃S loc,Sim P X S loc s a.tmps w
theorem M.bind_some{α β:Type}{m:M α}{f:α->M β}{b:p8}{x:β}{r:List Nat}(h:M.bind m f b=some (x,r,true)):
  ∃a r1 r2,m b=some (a,r1,true)∧f a b=some (x,r2,true)∧r=r1++r2:=by
 unfold M.bind at h
 cases hm:m b with
 |none=>simp [hm]at h
 |some t=>
  obtain⟨a,r1,c1⟩:=t
  simp only [hm]at h
  cases hf:f a b with
  |none=>simp [hf]at h
  |some t2=>
   obtain⟨y,r2,c2⟩:=t2
   simp only [hf,Option.some.injEq,Prod.mk.injEq,Bool.and_eq_true]at h
   obtain⟨rfl,rfl,rfl,rfl⟩:=h
   exact⟨a,r1,r2,rfl,hf,rfl⟩
theorem M.get_some{id:Nat}{b:p8}{x:Box}{r:List Nat}{c:Bool}(h:M.get id b=some (x,r,c)):b id=some x∧r=[id]∧c=true:=by
 unfold M.get at h
 cases hb:b id<;>simp [hb]at h
 obtain⟨rfl,rfl,rfl⟩:=h
 exact⟨rfl,rfl,rfl⟩
theorem M.qo{id:Nat}{b:p8}{x:Unit}{r:List Nat}{c:Bool}(h:M.qf id b=some (x,r,c)):b id=none∧r=[id]∧c=true:=by
 unfold M.qf at h
 cases hb:b id<;>simp [hb]at h
 exact⟨rfl,h.1.symm,h.2⟩
theorem M.pK{α:Type}{a x:α}{b:p8}{r:List Nat}{c:Bool}(h:M.pure a b=some (x,r,c)):x=a∧r=[]∧c=true:=by
 simp only [M.pure,Option.some.injEq,Prod.mk.injEq]at h
 exact⟨h.1.symm,h.2.1.symm,h.2.2.symm⟩
theorem M.pN{α:Type}{a x:α}{b:p8}{r:List Nat}{k c:Bool}(h:M.pO k a b=some (x,r,c)):x=a∧r=[]∧c=k:=by
 simp only [M.pO,Option.some.injEq,Prod.mk.injEq]at h
 exact⟨h.1.symm,h.2.1.symm,h.2.2.symm⟩
theorem M.BB{α:Type}{x:α}{b:p8}{r:List Nat}{c:Bool}(h:(M.fail:M α) b=some (x,r,c)):False:=by
 simp [M.fail]at h
theorem fE{α:Type}{x:α}(b:p8){r:List Nat}{c:Bool}{C:Prop}(h:(M.fail:M α) b=some (x,r,c)):C:=(M.BB h).elim
theorem R.rJ(S:pR)(loc:qe)(v:Value):R S loc (rJ v) v:=by
 unfold Dw.rJ
 split<;>first
  |exact .junk _
  |exact .mo
  |exact .d (.bool _)
  |exact .d (.int _ _)
  |exact .d (.raw _ rfl)
  |exact .d (.str _)
theorem R.qm(S:pR)(loc:qe)(v:Value):R S loc (qm v) v:=by
 unfold Dw.qm
 split
 ·rename_i cs
  refine .agg _ cs sm ?_
  intro i c v h1 h2
  simp only [List.getElem?_map,Array.getElem?_toList,h2,Option.map_some,Option.some.injEq]at h1
  subst h1
  exact R.rJ S loc v
 ·exact R.rJ S loc _
section
variable {P:Program}{X:Ctx}{S:pR}{loc:qe}{s:St}{a:Act}{w:World}
theorem Sim.opd(h:Sim P X S loc s a.tmps w){x:Operand}{rv:RV}(hx:s.opd x=some rv):R S loc rv (a.eval x):=by
 cases x with
 |tmp t=>
  obtain⟨v,hv,hr⟩:=h.pU t rv hx
  simp only [Act.eval,Array.getD_eq_getD_getElem?,hv,Option.getD_some]
  exact hr
 |const v=>simp only [St.opd,Option.some.injEq]at hx;subst hx;exact R.qm S loc v
 |global g=>simp [St.opd]at hx
 |func f=>simp only [St.opd,Option.some.injEq]at hx;subst hx;exact .d (.raw _ rfl)
theorem Sim.put(h:Sim P X S loc s a.tmps w){rv:RV}{v:Value}(hr:R S loc rv v)(dst:Option Nat)(hd:∀d,dst=some d->d<X.nt):
  Sim P X S loc (s.put dst rv) (a.put dst v).tmps w:=by
 cases dst with
 |none=>exact h
 |some d=>
  refine⟨?_,?_,h.boxes,h.dom,h.imm,h.tJ,h.ss,h.inj,h.own,h.frame,h.s0,h.par,h.vG,h.bs,h.ob⟩
  ·simp [Act.put,h.nt]
  ·intro t rv' ht
   have hlt:d<a.tmps.size:=by rw [h.nt];exact hd d rfl
   simp only [St.put]at ht
   by_cases htd:t=d
   ·subst htd
    simp only [if_true,Option.some.injEq]at ht
    subst ht
    exact⟨v,by simp [Act.put,hlt],hr⟩
   ·simp only [htd,if_false]at ht
    obtain⟨v',hv',hr'⟩:=h.pU t rv' ht
    exact⟨v',by simp [Act.put,Array.getElem?_setIfInBounds_ne (Ne.symm htd),hv'],hr'⟩
theorem tV.put(h:tV P X s a w)(dst:Option Nat)(hd:∀d,dst=some d->d<X.nt){rv:RV}{v:Value}(hr:∀S loc,Sim P X S loc s a.tmps w->R S loc rv v):
  tV P X (s.put dst rv) (a.put dst v) w:=by
 obtain⟨hdf,S,loc,h⟩:=h
 exact⟨by cases dst<;>exact hdf,S,loc,h.put (hr S loc h) dst hd⟩
end
end Go.Dw
