
import Derived.Test.YtomapcboiinfdaaGreatDwAddr
open Nat renaming le_refl->AB, le_trans->AO, lt_of_lt_of_le->AP

namespace Go.Dw
theorem mZ.trans{a b c:nB}(h:mZ a b)(g:mZ b c):mZ a c:=by
 intro id L l
 obtain⟨f,h1,i⟩:=h id L l
 obtain⟨e,j,k⟩:=g id f h1
 exact⟨e,j,i.trans k⟩
def upd{α:Type}(f:Nat->Option α)(id:Nat)(x:α):Nat->Option α:=fun i=>if i=id then some x else f i
theorem mU{α:Type}(f:Nat->Option α)(id:Nat)(x:α):upd f id x id=some x:=by simp [upd]
theorem nE{α:Type}(f:Nat->Option α){id i:Nat}(x:α)(h:i≠id):upd f id x i=f i:=by simp [upd,h]
def ni(o:Option Loc)(a:Loc):Prop:=
 match o with
 |none=>True
 |some L=>pZ L a
theorem ni.trans{a b c:Loc}(h:ni (some a) b)(e:ni (some b) c):ni (some a) c:=pZ.trans h e
theorem mZ.upd{loc:nB}{id:Nat}{a:Loc}(h:ni (loc id) a):mZ loc (upd loc id a):=by
 intro i L b
 by_cases hi:i=id
 ·subst hi
  rw [b]at h
  exact⟨a,mU _ _ _,h⟩
 ·exact⟨L,by rw [nE _ _ hi];exact b,.same L⟩
structure Step(chg:Option Nat)(w w':World):Prop where
 os:w'.os=w.os
 tape:w'.tape=w.tape
 output:w'.output=w.output
 size:w.heap.size<=w'.heap.size
 block:∀b,b<w.heap.size->some b≠chg->w'.heap[b]? =w.heap[b]?
 drawn:w.drawn<=w'.drawn
theorem Step.refl(a:Option Nat)(w:World):Step a w w:=⟨rfl,rfl,rfl,AB _,fun _ _ _=>rfl,AB _⟩
theorem Step.alloc(w:World)(o:Obj):Step none w (w.alloc o):=⟨rfl,rfl,rfl,sm,fun b a _=>heap_alloc_old w o b a,AB _⟩
theorem Step.trans{e:Option Nat}{a b c:World}(h:Step e a b)(f:Step e b c):Step e a c:=
 ⟨f.os.trans h.os, f.tape.trans h.tape, f.output.trans h.output, AO h.size f.size,
  fun x i g=>(f.block x (AP i h.size) g).trans (h.block x i g),AO h.drawn f.drawn⟩
theorem Step.drew(w:World):Step none w w.drew:=⟨rfl,rfl,rfl,AB _,fun _ _ _=>rfl,Nat.le_succ _⟩
theorem Step.setRow(w:World)(g:Nat)(cs:Array Value):Step (some g) w (w.setRow g cs):=
 ⟨rfl,rfl,rfl,sm,fun b _ a=>setRow_other w g b cs (fun e=>a (by rw [e])),AB _⟩
theorem Step.mono{a:Option Nat}{w w':World}(h:Step none w w'):Step a w w':=⟨h.os,h.tape,h.output,h.size,fun b c _=>h.block b c sm,h.drawn⟩
theorem Frame.step{E:Prop}{B0:List Nat}{w0 w w':World}{c:Option Nat}(h:Frame E B0 w0 w)(a:Step c w w')(g:∀b,c=some b->b∈B0∨w0.heap.size<=b):Frame E B0 w0 w':=
 ⟨a.os.trans h.os, a.tape.trans h.tape, a.output.trans h.output, AO h.size a.size, fun b e f => by
  rw [a.block b (AP e h.size) ?_]
  ·exact h.block b e f
  ·intro he
   rcases g b he.symm with h1|h1
   ·exact f h1
   ·omega,fun he=>AO (h.drawn he) a.drawn⟩
section
variable {P:Program}{X:Ctx}{S:mW}{loc:nB}{s:St}{tm:Array Value}{w:World}
theorem pY.pz{g:Box}{L:Loc}{b:Nat}(h:pY P S loc w g L)(a:L.has b):b<w.heap.size:=by
 cases h with
 |var cs b' t vs hw k f=>cases a;exact(Array.getElem?_eq_some_iff.1 hw).1
 |arr ver e es sz hdr xs c how hf=>exact how.lt a
 |dead L j=>subst j;cases a
 |map r v es b' clock ents hw k f=>cases a;exact(Array.getElem?_eq_some_iff.1 hw).1
 |nest ver e e2 ess n hdr xs bs c m how f l hi=>
  rcases List.mem_append.1 a with a|a
  ·exact how.lt (by simpa using a)
  ·exact f.lt b a
 |hole ver e es i o rv sz hdr xs u c how hf hi p hu q=>exact how.lt a
theorem pY.dw{S S':mW}{loc':nB}{w':World}{r:Box}{L:Loc}(h:pY P S loc w r L)(g:Sub S S')(n:mZ loc loc')(j:∀b,L.has b->w'.heap[b]? =w.heap[b]?):
  pY P S' loc' w' r L:=by
 cases h with
 |var cs b t vs hw hlen l=>exact .var cs b t vs (by rw [j b rfl];exact hw) hlen (fun i c v h1 m=>(l i c v h1 m).mono g n)
 |arr ver e es sz hdr xs a how hf=>exact .arr ver e es sz hdr xs a (how.dw j) (hf.mono g)
 |dead L z=>exact .dead L z
 |map E F es b clock ents hw hlen l=>exact .map E F es b clock ents (by rw [j b rfl];exact hw) hlen (fun i k x y h1 m=>⟨(l i k x y h1 m).1.mono g,(l i k x y h1 m).2.mono g⟩)
 |nest ver e e2 ess B hdr xs bs a q how l p hi=>
  exact .nest ver e e2 ess B hdr xs bs a q (how.dw fun b f=>j b (List.mem_append.2 (.inl (by simpa using f)))) (l.dw g n fun b f=>j b (List.mem_append.2 (.inr f))) p hi
 |hole ver e es i o rv sz hdr xs u a how hf hi C hu D=>exact .hole ver e es i o rv sz hdr xs u a (how.dw j) (hf.mono g) hi C hu (D.mono g n)
theorem px{w w':World}{ad:Addr}(h:w'.heap[ad.block]? =w.heap[ad.block]?):w'.cell? ad=w.cell? ad:=by simp [World.cell?,h]
theorem Sim.nH(h:Sim P X S loc s tm w){w':World}{F:Option Nat}(H:Step F w w')(id:Nat)(r:Box)(p:Loc)
  (g:∀b,F=some b->∃L,loc id=some L∧L.has b)
  (G:pY P S (upd loc id p) w' r p)
  (hblk:∀b,p.has b->(∃L,loc id=some L∧L.has b)∨w.heap.size<=b∨((∀i L,loc i=some L->¬L.has b)∧(∀o,S ⟨b,o,none⟩=none)∧(b∈X.B0∨X.w0.heap.size<=b)))
  (C:ni (loc id) p):
  Sim P X S (upd loc id p) { s with boxes:=upd s.boxes id r } tm w':=by
 have hle:mZ loc (upd loc id p):=mZ.upd C
 have z:∀n L,n≠id->loc n=some L->∀b,L.has b->w'.heap[b]? =w.heap[b]? :=by
  intro n L J a b e
  obtain⟨E,y⟩:=h.dom n L a
  refine H.block b ((h.ot y a).pz e) ?_
  intro m
  obtain⟨q,h1,f⟩:=g b m.symm
  exact J (h.inj n id L q b a h1 e f)
 refine⟨h.nt,?_,?_,?_,?_,h.qT,?_,?_,?_,?_,h.s0,?_,h.sJ,h.bs,fun x Y=>?_⟩
 rotate_right
 ·obtain⟨h1,o,v,f⟩:=h.ob x Y
  refine⟨?_,o,v,f⟩
  rw [<-h1]
  refine H.block _ (Array.getElem?_eq_some_iff.1 h1).1 fun m=>?_
  obtain⟨L,Q,T⟩:=g _ m.symm
  have K:=h.pH id L x.1 Q T o
  rw [h.bs _ _ f]at K
  cases K
 ·intro t rv W
  obtain⟨v,h1,f⟩:=h.nd t rv W
  exact⟨v,h1,f.mono (Sub.refl S) hle⟩
 ·intro i E e
  by_cases hi:i=id
  ·subst hi
   simp only [mU,Option.some.injEq]at e
   subst e
   exact⟨p,mU _ _ _,G⟩
  ·simp only [nE _ _ hi]at e
   obtain⟨L,h1,f⟩:=h.boxes i E e
   exact⟨L,by rw [nE _ _ hi];exact h1,f.dw (Sub.refl S) hle (z i L hi h1)⟩
 ·intro i L a
  by_cases hi:i=id
  ·subst hi;exact⟨r,mU _ _ _⟩
  ·rw [nE _ _ hi]at a
   obtain⟨E,e⟩:=h.dom i L a
   exact⟨E,by simp only [nE _ _ hi];exact e⟩
 ·intro ad v N
  have m:=h.imm ad v N
  rw [<-m]
  refine px (H.block ad.block (World.block_lt_of_cell? w ad m) ?_)
  intro he
  obtain⟨L,h1,f⟩:=g _ he.symm
  have B:ad.spot=none:=by
   unfold World.cell? at m
   split at m
   ·split at m
    ·cases m
    ·rename_i B;simpa using B
   ·cases m
  have:=h.pH id L ad.block h1 f ad.off
  rw [<-B]at this
  rw [N]at this
  cases this
 ·intro i L b a e o
  by_cases hi:i=id
  ·subst hi
   rw [mU]at a
   cases a
   rcases hblk b e with⟨q,h1,f⟩|c|⟨_,c,_⟩
   ·exact h.pH i q b h1 f o
   rotate_left
   ·exact c o
   ·cases hS:S ⟨b,o,none⟩with
    |none=>rfl
    |some v=>
     have:=World.block_lt_of_cell? w _ (h.imm _ v hS)
     simp at this
     omega
  ·rw [nE _ _ hi]at a
   exact h.pH i L b a e o
 ·intro i j L q b a l e u
  have key:∀i L,i≠id->loc i=some L->L.has b->p.has b->False:=by
   intro i L hi a e I
   obtain⟨E,y⟩:=h.dom i L a
   rcases hblk b I with⟨O,h1,f⟩|c|⟨c,_,_⟩
   ·exact hi (h.inj i id L O b a h1 e f)
   rotate_left
   ·exact c i L a e
   ·have:=(h.ot y a).pz e
    omega
  by_cases hi:i=id
  ·by_cases D:j=id
   ·rw [hi,D]
   ·subst hi
    rw [mU]at a
    cases a
    rw [nE _ _ D]at l
    exact(key j q D l u e).elim
  ·by_cases D:j=id
   ·subst D
    rw [mU]at l
    cases l
    rw [nE _ _ hi]at a
    exact(key i L hi a e u).elim
   ·rw [nE _ _ hi]at a
    rw [nE _ _ D]at l
    exact h.inj i j L q b a l e u
 ·intro i L b a e
  by_cases hi:i=id
  ·subst hi
   rw [mU]at a
   cases a
   rcases hblk b e with⟨q,h1,f⟩|c|⟨_,_,c⟩
   ·exact h.own i q b h1 f
   ·exact .inr (AO h.frame.size c)
   ·exact c
  ·rw [nE _ _ hi]at a
   exact h.own i L b a e
 ·refine h.frame.step H fun b e=>?_
  obtain⟨L,h1,f⟩:=g b e
  exact h.own id L b h1 f
 ·intro k b hk
  by_cases hi:k=id
  ·subst hi
   refine⟨p,mU _ _ _,?_⟩
   obtain⟨L,a,h1⟩:=h.par k b hk
   rw [a]at C
   exact ni.trans h1 C
  ·rw [nE _ _ hi];exact h.par k b hk
theorem Sim.stepW(h:Sim P X S loc s tm w){w':World}(c:Step none w w'):Sim P X S loc s tm w':=by
 refine⟨h.nt,h.nd,?_,h.dom,?_,h.qT,h.pH,h.inj,h.own,h.frame.step c (fun b a=>by cases a),h.s0,h.par,h.sJ,h.bs,fun x e=>⟨by rw [<-(h.ob x e).1];exact c.block _ (Array.getElem?_eq_some_iff.1 (h.ob x e).1).1 sm,(h.ob x e).2⟩⟩
 ·intro i j a
  obtain⟨L,h1,f⟩:=h.boxes i j a
  exact⟨L,h1,f.dw (Sub.refl S) (mZ.refl loc) (fun b a=>c.block b (f.pz a) sm)⟩
 ·intro ad v k
  have g:=h.imm ad v k
  rw [<-g]
  exact px (c.block ad.block (World.block_lt_of_cell? w ad g) sm)
theorem Sim.grow(h:Sim P X S loc s tm w){S':mW}(e:Sub S S')(hi:∀ad v,S' ad=some v->S ad=some v∨(w.cell? ad=some v∧v.oneCell'=true∧(∀id L,loc id=some L->¬L.has ad.block)∧(X.w0.heap.size<=ad.block∨ad.block∈X.B0))):
  Sim P X S' loc s tm w:=by
 refine⟨h.nt,fun t rv k=>let⟨v,h1,f⟩:=h.nd t rv k;⟨v,h1,f.mono e (mZ.refl loc)⟩,?_,h.dom,?_,?_,?_,h.inj,h.own,h.frame,h.s0.trans e,h.par,?_,h.bs.trans e,h.ob⟩
 ·intro i j c
  obtain⟨L,h1,f⟩:=h.boxes i j c
  exact⟨L,h1,f.dw e (mZ.refl loc) (fun _ _=>rfl)⟩
 ·intro ad v a
  rcases hi ad v a with h1|⟨h1,_,_⟩
  ·exact h.imm ad v h1
  ·exact h1
 ·intro ad v a
  rcases hi ad v a with h1|⟨_,h1,_⟩
  ·exact h.qT ad v h1
  ·exact h1
 ·intro id L b g c o
  cases hS:S' ⟨b,o,none⟩with
  |none=>rfl
  |some v=>
   rcases hi _ v hS with h1|⟨_,_,h1,_⟩
   ·have:=h.pH id L b g c o
    rw [h1]at this
    cases this
   ·exact(h1 id L g c).elim
 ·intro ad v a
  rcases hi ad v a with h1|⟨_,_,_,h1⟩
  ·exact h.sJ ad v h1
  ·exact .inr h1
noncomputable def n5 (S:mW) (g:Nat) (xs:List Value):mW:=fun ad=>
 match S ad with
 |some v=>some v
 |none=>if ad.block=g∧ad.spot=none then xs[ad.off]? else none
theorem oK(S:mW)(g:Nat)(xs:List Value):Sub S (n5 S g xs):=fun ad v h=>by simp [n5,h]
theorem qC{S:mW}{g:Nat}{xs:List Value}(hS:∀o,S ⟨g,o,none⟩=none){j:Nat}{v:Value}(h:xs[j]? =some v):n5 S g xs ⟨g,j,none⟩=some v:=by
 simp [n5,hS,h]
theorem Sim.rj(h:Sim P X S loc s tm w)(g:Nat)(xs:List Value)(f:∀j v,xs[j]? =some v->w.cell? ⟨g,j,none⟩=some v)(h1:∀v∈xs,v.oneCell'=true)(k:∀id L,loc id=some L->¬L.has g)(i:X.w0.heap.size<=g∨g∈X.B0):
  Sim P X (n5 S g xs) loc s tm w:=by
 refine h.grow (oK S g xs) fun ad v a=>?_
 unfold n5 at a
 split at a
 ·rename_i v' e
  exact .inl (by rw [e];exact a)
 ·split at a
  ·rename_i b
   obtain⟨b,c⟩:=b
   refine .inr ⟨?_,h1 v (List.mem_of_getElem? a),?_,by rw [b];exact i⟩
   ·have:=f ad.off v a
    rw [<-b, <-c]at this
    exact this
   ·rw [b];exact k
  ·cases a
def Frz(b:nn)(S:mW)(loc:nB)(S':mW)(id:Nat):Prop:=
 ∀ver e es,b id=some (.arr ver e es)->(∀v,R S loc (.ref id ver) v->V S' (.lst es) v)∧
  ∀lo hi v,lo<=hi->hi<=es.length->R S loc (.view id ver lo hi) v->V S' (.lst ((es.drop lo).take (hi-lo))) v
theorem Frz.mono{b:nn}{S S' a:mW}{loc:nB}{id:Nat}(h:Frz b S loc S' id)(g:Sub S' a):Frz b S loc a id:=
 fun ver e es f=>⟨fun v c=>((h ver e es f).1 v c).mono g,fun lo hi v h1 i c=>((h ver e es f).2 lo hi v h1 i c).mono g⟩
theorem Sim.tR(h:Sim P X S loc s tm w){id ver:Nat}{e:TypeId}{es:List PD}(T:s.boxes id=some (.arr ver e es)):
  ∃S',Sim P X S' (upd loc id .dead) { s with boxes:=upd s.boxes id .dead } tm w∧Sub S S'∧mZ loc (upd loc id .dead)∧Frz s.boxes S loc S' id:=by
 obtain⟨L,E,W⟩:=h.boxes id _ T
 have D:ni (loc id) .dead:=by rw [E];exact .dead _
 have h1:=h.nH (Step.refl none w) id .dead .dead (fun b Y=>by cases Y) (.dead _ rfl) (fun b Y=>by cases Y) D
 cases W with
 |arr _ _ _ sz hdr xs b4 how hf=>
  have p:∀{lo hi v},R S loc (.view id ver lo hi) v->((lo=hi∧∃a,v= .slice a 0 0)∨∃g n c,hdr= .slice (some ⟨g,0,none⟩) n c∧lo<=hi∧hi<=c∧v= .slice (some ⟨g,lo*sz,none⟩) (hi-lo) (c-lo)):=by
   intro lo hi v m
   cases m with
   |view _ _ _ _ _ L _ f N=>
    rw [E]at f
    cases f
    exact(N ver e sz _ rfl).2 rfl
  have t:∀{v},R S loc (.ref id ver) v->v=hdr:=by
   intro v m
   cases m with
   |ref _ _ _ L _ f N=>
    rw [E]at f
    cases f
    exact(N ver e sz _ .arr).2 rfl
  by_cases I:es=[]
  ·subst I
   refine⟨S,h1,Sub.refl S,mZ.upd D,fun O e' Q k=>?_⟩
   rw [T]at k
   cases k
   refine⟨fun v m=>?_,fun lo hi v h2 q m=>?_⟩
   ·obtain⟨a,c,rfl,_⟩:=how.hdr
    rw [t m]
    exact .nil _ _
   ·simp only [List.length_nil,Nat.le_zero]at q
    subst q
    have:lo=0:=by omega
    subst this
    rcases p m with⟨_,a,rfl⟩|⟨g,n,c,rfl,_,_,rfl⟩
    ·exact .nil _ _
    ·exact .nil _ _
  have K:0<es.length:=by cases es with|nil=>exact(I rfl).elim|cons=>simp
  have J:=how.qN K
  have how:=J
  rcases how.2 with⟨rfl,h0⟩|⟨g,cap,cur,fz,rfl,b0,hg,b3,a8,a9,a7⟩
  ·omega
  ·have z:=how.cells (g:=g) rfl
   have l:nT (.slice (some ⟨g,0,none⟩) es.length cap)=some g:=by cases cap with|zero=>omega|succ c=>rfl
   have a6:∀i L,upd loc id Loc.dead i=some L->¬L.has g:=by
    intro i L hi H
    by_cases C:i=id
    ·subst C;rw [mU]at hi;cases hi;cases H
    ·rw [nE _ _ C]at hi
     exact C (h.inj i id L _ g hi E H l)
   have a5:X.w0.heap.size<=g∨g∈X.B0:=(h.own id _ g E l).symm
   have h2:=h1.rj g xs (fun j v hj=>by have:=z j v hj;rw [nO]at this;simpa using this) hf.one a6 a5
   have B:∀o,S ⟨g,o,none⟩=none:=fun o=>h.pH id _ g E l o
   have y:∀lo hi,lo<=hi->hi<=es.length->V (n5 S g xs) (.lst ((es.drop lo).take (hi-lo))) (.slice (some ⟨g,lo*sz,none⟩) (hi-lo) (cap-lo)):=by
    intro lo hi b2 b1
    have hlen:((es.drop lo).take (hi-lo)).length=hi-lo:=by rw [List.length_take,List.length_drop];omega
    have r:∀(i:Nat)x,((es.drop lo).take (hi-lo))[i]? =some x->es[lo+i]? =some x:=by
     intro i x F
     rw [List.getElem?_take]at F
     split at F
     ·rwa [List.getElem?_drop]at F
     ·cases F
    have:=V.lst (S:=n5 S g xs) ((es.drop lo).take (hi-lo)) g (lo*sz) (cap-lo) sz (fun i j=>xs.getD ((lo+i)*sz+j) default) om
     (fun x F=>hf.len x (List.mem_of_mem_drop (List.mem_of_mem_take F)))
     (fun i e j x q G => by
      obtain⟨u,hu,_⟩:=hf.cell (lo+i) e j x (r i e q) G
      have ha:lo*sz+i*sz+j=(lo+i)*sz+j:=by rw [Nat.add_mul]
      rw [ha,qC B hu]
      simp [hu])
     (fun i e j x q G => by
      obtain⟨u,hu,N⟩:=hf.cell (lo+i) e j x (r i e q) G
      simpa [hu]using N.mono (oK S g xs))
    rw [hlen]at this
    exact this
   refine⟨_,h2,oK S g xs,mZ.upd D,fun O e' Q k=>?_⟩
   rw [T]at k
   cases k
   refine⟨fun v m=>?_,fun lo hi v q G m=>?_⟩
   ·rw [t m]
    have:=y 0 es.length (Nat.zero_le _) (AB _)
    simpa using this
   ·rcases p m with⟨rfl,a,rfl⟩|⟨g',n,c,he,_,_,rfl⟩
    ·rw [Nat.sub_self];exact .nil _ _
    ·cases he
     exact y lo hi q G
def pM(u:Ups):Prop:=∀x∈u,x.2= .dead
theorem oz(s:St)(id:Nat)(b:Box)(r:Ups):s.ups ((id,b)::r)=({ s with boxes:=upd s.boxes id b }:St).ups r:=rfl
theorem qg:∀(u a:Ups)(s:St),s.ups (u++a)=(s.ups u).ups a
 | [],_,_=>rfl
 |(id,b)::r,a,s=>by rw [List.cons_append,oz,oz,qg r a]
theorem oJ:∀(u:Ups)(s:St),(s.ups u).nd=s.nd
 | [],_=>rfl
 |(id,b)::r,s=>by rw [oz,oJ r]
theorem Sim.re:∀(u:Ups){S:mW}{loc:nB}{s:St},Sim P X S loc s tm w->pM u->(∀x∈u,(∃ver e es,s.boxes x.1=some (.arr ver e es))∨s.boxes x.1=some .dead)->
  ∃S' loc',Sim P X S' loc' (s.ups u) tm w∧Sub S S'∧mZ loc loc'∧
   ∀x∈u,Frz s.boxes S loc S' x.1
 | [],S,loc,s,h,_,_=>⟨S,loc,h,Sub.refl S,mZ.refl loc,fun x c=>by cases c⟩
 |(id,b)::r,S,loc,s,h,F,z=>by
  have B:b= .dead:=F (id,b) sm
  subst B
  have hdr:pM r:=fun x c=>F x (by simp [c])
  rw [oz]
  rcases z (id,.dead) sm with⟨ver,e,es,g⟩|g
  ·obtain⟨S1,h1,o,m,D⟩:=h.tR g
   obtain ⟨t, j, y, k, n, p⟩ := Sim.re r h1 hdr (fun x c => by
    by_cases f:x.1=id
    ·right;simp only [f,mU]
    ·simp only [nE _ _ f];exact z x (by simp [c]))
   refine⟨t,j,y,o.trans k,m.trans n,?_⟩
   intro x c
   by_cases f:x.1=id
   ·rw [f]
    exact D.mono k
   ·rcases List.mem_cons.1 c with rfl|c
    ·exact(f rfl).elim
    ·intro l E q a
     have:=p x c l E q (by simp only [nE _ _ f];exact a)
     exact⟨fun v C=>this.1 v (C.mono o m),fun lo hi v G H C=>this.2 lo hi v G H (C.mono o m)⟩
  ·have heq:({ s with boxes:=upd s.boxes id .dead }:St)=s:=by
    have:upd s.boxes id .dead=s.boxes:=by
     funext i
     by_cases hi:i=id
     ·subst hi;rw [mU];exact g.symm
     ·rw [nE _ _ hi]
    rw [this]
   rw [heq]
   obtain⟨t,j,y,k,n,p⟩:=Sim.re r h hdr (fun x c=>z x (by simp [c]))
   refine⟨t,j,y,k,n,?_⟩
   intro x c
   rcases List.mem_cons.1 c with rfl|c
   ·intro l E q a
    simp only at g a
    rw [g]at a
    cases a
   ·exact p x c
theorem nm{rv:RV}{b:nn}{p:PD}{u:Ups}{r:List Nat}(h:sZ rv b=some ((p,u),r,true)):
  pM u∧(∀x∈u,∃ver e es,b x.1=some (.arr ver e es))∧
  ∀S loc S' v,R S loc rv v->Sub S S'->(∀x∈u,Frz b S loc S' x.1)->V S' p v:=by
 cases rv with
 |d q=>
  obtain⟨h1, -, -⟩:=M.mJ (b:=b) h
  cases h1
  refine⟨(fun x j=>by cases j),(fun x j=>by cases j),fun S loc S' v l n _=>?_⟩
  cases l with|d h=>exact h.mono n
 |cI=>
  obtain⟨h1, -, -⟩:=M.mJ (b:=b) h
  cases h1
  refine⟨(fun x j=>by cases j),(fun x j=>by cases j),fun S loc S' v l n _=>?_⟩
  cases l with|cI=>exact .nil none 0
 |ref id ver=>
  obtain⟨o,C,D,h1,i,_⟩:=M.bind_some h
  obtain⟨m,_,_⟩:=M.get_some h1
  cases o with
  |arr k e es=>
   by_cases g:ver=k
   rotate_left
   ·simp only [g,if_false]at i;exact fE b i
   simp only [g,if_true]at i
   subst g
   obtain⟨t, -, -⟩:=M.mJ i
   cases t
   refine⟨(fun x j=>by simp at j;rw [j]),(fun x j=>by simp at j;subst j;exact⟨ver,e,es,m⟩),fun S loc S' v l n y=>?_⟩
   exact(y (id,.dead) sm ver e es m).1 v l
  |var _=>exact fE b i
  |dead=>exact fE b i
  |map _ _ _=>exact fE b i
  |nest _ _ _ _ _=>exact fE b i
  |hole _ _ _ _ _ _=>exact fE b i
 |undef=>exact fE b h
 |junk=>exact fE b h
 |agg cs=>exact fE b h
 |tup cs=>exact fE b h
 |ptr a c=>exact fE b h
 |elt a c d f=>exact fE b h
 |cptr a=>exact fE b h
 |view id ver lo hi=>
  obtain⟨o,C,D,h1,i,_⟩:=M.bind_some h
  obtain⟨m,_,_⟩:=M.get_some h1
  cases o with
  |arr k e es=>
   by_cases g:ver=k
   rotate_left
   ·simp only [g,if_false]at i;exact fE b i
   simp only [g,if_true]at i
   subst g
   obtain⟨t, -,B⟩:=M.mP i
   cases t
   have z:lo<=hi∧hi<=es.length:=of_decide_eq_true B.symm
   refine⟨(fun x j=>by simp at j;rw [j]),(fun x j=>by simp at j;subst j;exact⟨ver,e,es,m⟩),fun S loc S' v l n y=>?_⟩
   exact(y (id,.dead) sm ver e es m).2 lo hi v z.1 z.2 l
  |var _=>exact fE b i
  |dead=>exact fE b i
  |map _ _ _=>exact fE b i
  |nest _ _ _ _ _=>exact fE b i
  |hole _ _ _ _ _ _=>exact fE b i
 |clo a c=>exact fE b h
 |fview _ _ _=>exact fE b h
 |err _=>exact fE b h
 |dfull _=>exact fE b h
 |ifc _ _=>exact fE b h
 |plit _=>exact fE b h
 |pcp _=>exact fE b h
theorem tC:∀{cs:List RV}{b:nn}{f:List PD}{u:Ups}{r:List Nat},qp cs b=some ((f,u),r,true)->
  pM u∧(∀x∈u,∃ver e es,b x.1=some (.arr ver e es))∧f.length=cs.length∧
  ∀S loc S',Sub S S'->(∀x∈u,Frz b S loc S' x.1)->
   ∀(i:Nat)c p v,cs[i]? =some c->f[i]? =some p->R S loc c v->V S' p v
 | [],b,f,u,r,h=>by
  obtain⟨h1, -, -⟩:=M.mJ h
  cases h1
  exact⟨(fun x a=>by cases a),(fun x a=>by cases a),rfl,fun S loc S' _ _ i c p v h1=>by simp at h1⟩
 |c::cs,b,f,u,r,h=>by
  obtain⟨⟨p,u1⟩,G,H,h1,z,_⟩:=M.bind_some h
  obtain⟨⟨F,u2⟩,I,J,B,C,_⟩:=M.bind_some z
  obtain⟨D, -, -⟩:=M.mJ C
  cases D
  obtain⟨a1,a2,a3⟩:=nm h1
  obtain⟨n,o,q,t⟩:=tC B
  refine⟨fun x a=>?_,fun x a=>?_,by simp [q],?_⟩
  ·rcases List.mem_append.1 a with a|a
   ·exact a1 x a
   ·exact n x a
  ·rcases List.mem_append.1 a with a|a
   ·exact a2 x a
   ·exact o x a
  ·intro S loc S' l m i y E v g j k
   cases i with
   |zero=>
    simp only [List.getElem?_cons_zero,Option.some.injEq]at g j
    subst g;subst j
    exact a3 S loc S' v k l fun x a=>m x (List.mem_append.2 (.inl a))
   |succ i=>
    simp only [List.getElem?_cons_succ]at g j
    exact t S loc S' l (fun x a=>m x (List.mem_append.2 (.inr a))) i y E v g j k
theorem yz{v:RV}(h:isNils v=true):v= .cI:=by cases v<;>first|rfl|cases h
theorem xN{mt:Bool}{cs:List RV}{b:nn}{f:List PD}{u:Ups}{r:List Nat}(h:tk mt cs b=some ((f,u),r,true)):
  pM u∧(∀x∈u,∃ver e es,b x.1=some (.arr ver e es))∧f.length=cs.length∧
  ∀S loc S',Sub S S'->(∀x∈u,Frz b S loc S' x.1)->
   ∀(i:Nat)c p v,cs[i]? =some c->f[i]? =some p->R S loc c v->V S' p v:=by
 unfold tk at h
 split at h
 ·rename_i j
  simp only [uT,Bool.and_eq_true]at j
  obtain⟨h1, -, -⟩:=M.mJ h
  cases h1
  refine⟨(fun x a=>by cases a),(fun x a=>by cases a),sm,fun S loc S' _ _ i c p v h1 g k=>?_⟩
  have:=yz (List.all_eq_true.1 j.2.2 c (List.mem_of_getElem? h1))
  subst this
  rw [List.getElem?_map,h1]at g
  cases g
  cases k
  exact .raw _ rfl
 ·exact tC h
theorem qU{rv:RV}{b:nn}{p:PD}{u:Ups}{r:List Nat}(h:pf rv b=some ((p,u),r,true)):
  pM u∧(∀x∈u,∃ver e es,b x.1=some (.arr ver e es))∧
  ∀S loc S' v,R S loc rv v->Sub S S'->(∀x∈u,Frz b S loc S' x.1)->V S' p v:=by
 cases rv with
 |agg cs=>
  unfold pf at h
  obtain⟨⟨y,u1⟩,z,B,h1,k,_⟩:=M.bind_some h
  obtain⟨l, -, -⟩:=M.mJ k
  cases l
  obtain⟨a1,a2,a3,a4⟩:=tC h1
  refine⟨a1,a2,fun S loc S' v n o t=>?_⟩
  obtain⟨vs,rfl,hlen,m⟩:=n.si
  refine .agg y vs (by rw [hlen,a3]) fun i p v j g=>?_
  have hi:i<cs.length:=by rw [<-a3];exact(List.getElem?_eq_some_iff.1 j).1
  exact a4 S loc S' o t i cs[i] p v (zc hi) j (m i _ v (zc hi) g)
 |d q=>exact nm h
 |cI=>exact nm h
 |ref id ver=>exact nm h
 |undef=>exact nm h
 |junk=>exact nm h
 |tup cs=>exact nm h
 |ptr a c=>exact nm h
 |elt a c d f=>exact nm h
 |cptr a=>exact nm h
 |view a c d f=>exact nm h
 |clo a c=>exact nm h
 |fview _ _ _=>exact nm h
 |err _=>exact nm h
 |dfull _=>exact nm h
 |ifc _ _=>exact nm h
 |plit _=>exact nm h
 |pcp _=>exact nm h
end
end Go.Dw
