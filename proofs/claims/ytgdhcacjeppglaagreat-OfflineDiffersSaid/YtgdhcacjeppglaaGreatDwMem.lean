
import Derived.Test.YtgdhcacjeppglaaGreatDwAddr
open Nat renaming le_refl->AB, le_trans->AO, lt_of_lt_of_le->AP

namespace Go.Dw
theorem cm.trans{a b c:cJ}(h:cm a b)(g:cm b c):cm a c:=by
 intro id L l
 obtain⟨f,h1,i⟩:=h id L l
 obtain⟨e,j,k⟩:=g id f h1
 exact⟨e,j,i.trans k⟩
def upd{α:Type}(f:Nat->Option α)(id:Nat)(x:α):Nat->Option α:=fun i=>if i=id then some x else f i
theorem cf{α:Type}(f:Nat->Option α)(id:Nat)(x:α):upd f id x id=some x:=by simp [upd]
theorem ck{α:Type}(f:Nat->Option α){id i:Nat}(x:α)(h:i≠id):upd f id x i=f i:=by simp [upd,h]
def cj(o:Option Loc)(a:Loc):Prop:=
 match o with
 |none=>True
 |some L=>ei L a
theorem cj.trans{a b c:Loc}(h:cj (some a) b)(e:cj (some b) c):cj (some a) c:=ei.trans h e
theorem cm.upd{loc:cJ}{id:Nat}{a:Loc}(h:cj (loc id) a):cm loc (upd loc id a):=by
 intro i L b
 by_cases c:i=id
 ·subst c
  rw [b]at h
  exact⟨a,cf _ _ _,h⟩
 ·exact⟨L,by rw [ck _ _ c];exact b,.same L⟩
structure Step(chg:Option Nat)(w w':World):Prop where
 os:w'.os=w.os
 tape:w'.tape=w.tape
 output:w'.output=w.output
 size:w.heap.size<=w'.heap.size
 block:∀b,b<w.heap.size->some b≠chg->w'.heap[b]? =w.heap[b]?
 drawn:w.drawn<=w'.drawn
theorem Step.refl(a:Option Nat)(w:World):Step a w w:=⟨rfl,rfl,rfl,AB _,fun _ _ _=>rfl,AB _⟩
theorem Step.alloc(w:World)(o:Obj):Step none w (w.alloc o):=⟨rfl,rfl,rfl,sm,fun b hb _=>heap_alloc_old w o b hb,AB _⟩
theorem Step.trans{e:Option Nat}{a b c:World}(h:Step e a b)(f:Step e b c):Step e a c:=
 ⟨f.os.trans h.os, f.tape.trans h.tape, f.output.trans h.output, AO h.size f.size,
  fun x i g=>(f.block x (AP i h.size) g).trans (h.block x i g),AO h.drawn f.drawn⟩
theorem Step.drew(w:World):Step none w w.drew:=⟨rfl,rfl,rfl,AB _,fun _ _ _=>rfl,Nat.le_succ _⟩
theorem Step.setRow(w:World)(g:Nat)(cs:Array Value):Step (some g) w (w.setRow g cs):=
 ⟨rfl,rfl,rfl,sm,fun b _ a=>setRow_other w g b cs (fun e=>a (by rw [e])),AB _⟩
theorem Step.mono{a:Option Nat}{w w':World}(h:Step none w w'):Step a w w':=⟨h.os,h.tape,h.output,h.size,fun b hb _=>h.block b hb sm,h.drawn⟩
theorem Frame.step{E:Prop}{B0:List Nat}{w0 w w':World}{c:Option Nat}(h:Frame E B0 w0 w)(a:Step c w w')(hc:∀b,c=some b->b∈B0∨w0.heap.size<=b):Frame E B0 w0 w':=
 ⟨a.os.trans h.os, a.tape.trans h.tape, a.output.trans h.output, AO h.size a.size, fun b hb e => by
  rw [a.block b (AP hb h.size) ?_]
  ·exact h.block b hb e
  ·intro he
   rcases hc b he.symm with h1|h1
   ·exact e h1
   ·omega,fun he=>AO (h.drawn he) a.drawn⟩
section
variable {P:Program}{X:Ctx}{S:cp}{loc:cJ}{s:St}{tm:Array Value}{w:World}
theorem eh.eO{g:Box}{L:Loc}{b:Nat}(h:eh P S loc w g L)(hb:L.has b):b<w.heap.size:=by
 cases h with
 |var cs b' t vs hw hl hc=>cases hb;exact(Array.getElem?_eq_some_iff.1 hw).1
 |arr ver e es sz hdr xs hsz how hf=>exact how.lt hb
 |dead L j=>subst j;cases hb
 |map k l es b' clock ents hw hl hc=>cases hb;exact(Array.getElem?_eq_some_iff.1 hw).1
 |nest ver e e2 ess m hdr xs bs hsz c how hc a f=>
  rcases List.mem_append.1 hb with hb|hb
  ·exact how.lt (by simpa using hb)
  ·exact hc.lt b hb
 |mapn k l e2 es eR b' ents bs c hw hl hk hc a f=>
  rcases List.mem_cons.1 hb with rfl|hb
  ·exact(Array.getElem?_eq_some_iff.1 hw).1
  ·exact hc.lt b hb
 |hole ver e es i o rv sz hdr xs u hsz how hf f ho hu n=>exact how.lt hb
 |deep _ _ _ _ _ _ _ _ _ _ _ _ hd=>exact hd.lt hb
theorem eh.aE{S S':cp}{loc':cJ}{w':World}{y:Box}{L:Loc}(h:eh P S loc w y L)(a:Sub S S')(hl:cm loc loc')(hb:∀b,L.has b->w'.heap[b]? =w.heap[b]?):
  eh P S' loc' w' y L:=by
 cases h with
 |var cs b t vs hw hlen hc=>exact .var cs b t vs (by rw [hb b rfl];exact hw) hlen (fun i c v h1 f=>(hc i c v h1 f).mono a hl)
 |arr ver e es sz hdr xs hsz how hf=>exact .arr ver e es sz hdr xs hsz (how.aE hb) (hf.mono a)
 |dead L z=>exact .dead L z
 |map q r es b clock ents hw hlen hc=>exact .map q r es b clock ents (by rw [hb b rfl];exact hw) hlen (fun i k x m h1 f=>⟨(hc i k x m h1 f).1.mono a,(hc i k x m h1 f).2.mono a⟩)
 |nest ver e e2 ess B hdr xs bs hsz l how hc j n=>
  exact .nest ver e e2 ess B hdr xs bs hsz l (how.aE fun b g=>hb b (List.mem_append.2 (.inl (by simpa using g)))) (hc.aE a hl fun b g=>hb b (List.mem_append.2 (.inr g))) j n
 |mapn q r e2 es eR b ents bs l hw hlen hk hc j n=>
  exact .mapn q r e2 es eR b ents bs l (by rw [hb b (List.mem_cons_self ..)];exact hw) hlen (fun i k x m h1 f=>⟨(hk i k x m h1 f).1.mono a,(hk i k x m h1 f).2⟩) (hc.aE a hl fun c p=>hb c (List.mem_cons.2 (.inr p))) j n
 |hole ver e es i o rv sz hdr xs u hsz how hf n ho hu C=>exact .hole ver e es i o rv sz hdr xs u hsz (how.aE hb) (hf.mono a) n ho hu (C.mono a hl)
 |deep _ _ _ _ _ _ _ _ _ _ _ _ hd=>exact .deep _ _ _ _ _ _ _ _ _ _ _ _ (hd.aE a hl hb)
theorem fK{w w':World}{ad:Addr}(h:w'.heap[ad.block]? =w.heap[ad.block]?):w'.cell? ad=w.cell? ad:=by simp [World.cell?,h]
theorem Sim.cw(h:Sim P X S loc s tm w){w':World}{E:Option Nat}(G:Step E w w')(id:Nat)(q:Box)(n:Loc)
  (g:∀b,E=some b->∃L,loc id=some L∧L.has b)
  (F:eh P S (upd loc id n) w' q n)
  (hblk:∀b,n.has b->(∃L,loc id=some L∧L.has b)∨w.heap.size<=b∨((∀i L,loc i=some L->¬L.has b)∧(∀o,S ⟨b,o,none⟩=none)∧(b∈X.B0∨X.w0.heap.size<=b)))
  (B:cj (loc id) n):
  Sim P X S (upd loc id n) { s with boxes:=upd s.boxes id q } tm w':=by
 have hle:cm loc (upd loc id n):=cm.upd B
 have y:∀m L,m≠id->loc m=some L->∀b,L.has b->w'.heap[b]? =w.heap[b]? :=by
  intro m L I a b hb
  obtain⟨D,u⟩:=h.dom m L a
  refine G.block b ((h.dq u a).eO hb) ?_
  intro hc
  obtain⟨p,h1,f⟩:=g b hc.symm
  exact I (h.inj m id L p b a h1 hb f)
 refine⟨h.nt,?_,?_,?_,?_,h.fy,?_,?_,?_,?_,h.s0,?_,h.gE,h.bs,fun x T=>?_⟩
 rotate_right
 ·obtain⟨h1,o,v,f⟩:=h.ob x T
  refine⟨?_,o,v,f⟩
  rw [<-h1]
  refine G.block _ (Array.getElem?_eq_some_iff.1 h1).1 fun hc=>?_
  obtain⟨L,O,Q⟩:=g _ hc.symm
  have J:=h.eA id L x.1 O Q o
  rw [h.bs _ _ f]at J
  cases J
 ·intro t rv ht
  obtain⟨v,h1,f⟩:=h.cv t rv ht
  exact⟨v,h1,f.mono (Sub.refl S) hle⟩
 ·intro i D hb
  by_cases e:i=id
  ·subst e
   simp only [cf,Option.some.injEq]at hb
   subst hb
   exact⟨n,cf _ _ _,F⟩
  ·simp only [ck _ _ e]at hb
   obtain⟨L,h1,f⟩:=h.boxes i D hb
   exact⟨L,by rw [ck _ _ e];exact h1,f.aE (Sub.refl S) hle (y i L e h1)⟩
 ·intro i L a
  by_cases e:i=id
  ·subst e;exact⟨q,cf _ _ _⟩
  ·rw [ck _ _ e]at a
   obtain⟨D,hb⟩:=h.dom i L a
   exact⟨D,by simp only [ck _ _ e];exact hb⟩
 ·intro ad v K
  have hc:=h.imm ad v K
  rw [<-hc]
  refine fK (G.block ad.block (World.block_lt_of_cell? w ad hc) ?_)
  intro he
  obtain⟨L,h1,f⟩:=g _ he.symm
  have z:ad.spot=none:=by
   unfold World.cell? at hc
   split at hc
   ·split at hc
    ·cases hc
    ·rename_i z;simpa using z
   ·cases hc
  have:=h.eA id L ad.block h1 f ad.off
  rw [<-z]at this
  rw [K]at this
  cases this
 ·intro i L b a hb o
  by_cases e:i=id
  ·subst e
   rw [cf]at a
   cases a
   rcases hblk b hb with⟨p,h1,f⟩|c|⟨_,c,_⟩
   ·exact h.eA i p b h1 f o
   rotate_left
   ·exact c o
   ·cases hS:S ⟨b,o,none⟩with
    |none=>rfl
    |some v=>
     have:=World.block_lt_of_cell? w _ (h.imm _ v hS)
     simp at this
     omega
  ·rw [ck _ _ e]at a
   exact h.eA i L b a hb o
 ·intro i j L p b a l hb r
  have key:∀i L,i≠id->loc i=some L->L.has b->n.has b->False:=by
   intro i L e a hb H
   obtain⟨D,u⟩:=h.dom i L a
   rcases hblk b H with⟨N,h1,f⟩|c|⟨c,_,_⟩
   ·exact e (h.inj i id L N b a h1 hb f)
   rotate_left
   ·exact c i L a hb
   ·have:=(h.dq u a).eO hb
    omega
  by_cases e:i=id
  ·by_cases C:j=id
   ·rw [e,C]
   ·subst e
    rw [cf]at a
    cases a
    rw [ck _ _ C]at l
    exact(key j p C l r hb).elim
  ·by_cases C:j=id
   ·subst C
    rw [cf]at l
    cases l
    rw [ck _ _ e]at a
    exact(key i L e a hb r).elim
   ·rw [ck _ _ e]at a
    rw [ck _ _ C]at l
    exact h.inj i j L p b a l hb r
 ·intro i L b a hb
  by_cases e:i=id
  ·subst e
   rw [cf]at a
   cases a
   rcases hblk b hb with⟨p,h1,f⟩|c|⟨_,_,c⟩
   ·exact h.own i p b h1 f
   ·exact .inr (AO h.frame.size c)
   ·exact c
  ·rw [ck _ _ e]at a
   exact h.own i L b a hb
 ·refine h.frame.step G fun b hb=>?_
  obtain⟨L,h1,f⟩:=g b hb
  exact h.own id L b h1 f
 ·intro k b hk
  by_cases e:k=id
  ·subst e
   refine⟨n,cf _ _ _,?_⟩
   obtain⟨L,a,h1⟩:=h.par k b hk
   rw [a]at B
   exact cj.trans h1 B
  ·rw [ck _ _ e];exact h.par k b hk
theorem Sim.stepW(h:Sim P X S loc s tm w){w':World}(a:Step none w w'):Sim P X S loc s tm w':=by
 refine⟨h.nt,h.cv,?_,h.dom,?_,h.fy,h.eA,h.inj,h.own,h.frame.step a (fun b hb=>by cases hb),h.s0,h.par,h.gE,h.bs,fun x c=>⟨by rw [<-(h.ob x c).1];exact a.block _ (Array.getElem?_eq_some_iff.1 (h.ob x c).1).1 sm,(h.ob x c).2⟩⟩
 ·intro i f hb
  obtain⟨L,h1,e⟩:=h.boxes i f hb
  exact⟨L,h1,e.aE (Sub.refl S) (cm.refl loc) (fun b hb=>a.block b (e.eO hb) sm)⟩
 ·intro ad v g
  have hc:=h.imm ad v g
  rw [<-hc]
  exact fK (a.block ad.block (World.block_lt_of_cell? w ad hc) sm)
theorem Sim.grow(h:Sim P X S loc s tm w){S':cp}(e:Sub S S')(c:∀ad v,S' ad=some v->S ad=some v∨(w.cell? ad=some v∧v.oneCell'=true∧(∀id L,loc id=some L->¬L.has ad.block)∧(X.w0.heap.size<=ad.block∨ad.block∈X.B0))):
  Sim P X S' loc s tm w:=by
 refine⟨h.nt,fun t rv ht=>let⟨v,h1,f⟩:=h.cv t rv ht;⟨v,h1,f.mono e (cm.refl loc)⟩,?_,h.dom,?_,?_,?_,h.inj,h.own,h.frame,h.s0.trans e,h.par,?_,h.bs.trans e,h.ob⟩
 ·intro i j hb
  obtain⟨L,h1,f⟩:=h.boxes i j hb
  exact⟨L,h1,f.aE e (cm.refl loc) (fun _ _=>rfl)⟩
 ·intro ad v a
  rcases c ad v a with h1|⟨h1,_,_⟩
  ·exact h.imm ad v h1
  ·exact h1
 ·intro ad v a
  rcases c ad v a with h1|⟨_,h1,_⟩
  ·exact h.fy ad v h1
  ·exact h1
 ·intro id L b g hb o
  cases hS:S' ⟨b,o,none⟩with
  |none=>rfl
  |some v=>
   rcases c _ v hS with h1|⟨_,_,h1,_⟩
   ·have:=h.eA id L b g hb o
    rw [h1]at this
    cases this
   ·exact(h1 id L g hb).elim
 ·intro ad v a
  rcases c ad v a with h1|⟨_,_,_,h1⟩
  ·exact h.gE ad v h1
  ·exact .inr h1
noncomputable def dg (S:cp) (g:Nat) (xs:List Value):cp:=fun ad=>
 match S ad with
 |some v=>some v
 |none=>if ad.block=g∧ad.spot=none then xs[ad.off]? else none
theorem dA(S:cp)(g:Nat)(xs:List Value):Sub S (dg S g xs):=fun ad v h=>by simp [dg,h]
theorem fg{S:cp}{g:Nat}{xs:List Value}(hS:∀o,S ⟨g,o,none⟩=none){j:Nat}{v:Value}(h:xs[j]? =some v):dg S g xs ⟨g,j,none⟩=some v:=by
 simp [dg,hS,h]
theorem Sim.fB(h:Sim P X S loc s tm w)(g:Nat)(xs:List Value)(hc:∀j v,xs[j]? =some v->w.cell? ⟨g,j,none⟩=some v)(h1:∀v∈xs,v.oneCell'=true)(f:∀id L,loc id=some L->¬L.has g)(e:X.w0.heap.size<=g∨g∈X.B0):
  Sim P X (dg S g xs) loc s tm w:=by
 refine h.grow (dA S g xs) fun ad v a=>?_
 unfold dg at a
 split at a
 ·rename_i v' c
  exact .inl (by rw [c];exact a)
 ·split at a
  ·rename_i hb
   obtain⟨hb,b⟩:=hb
   refine .inr ⟨?_,h1 v (List.mem_of_getElem? a),?_,by rw [hb];exact e⟩
   ·have:=hc ad.off v a
    rw [<-hb, <-b]at this
    exact this
   ·rw [hb];exact f
  ·cases a
def Frz(b:cI)(S:cp)(loc:cJ)(S':cp)(id:Nat):Prop:=
 ∀ver e es,b id=some (.arr ver e es)->(∀v,R S loc (.ref id ver) v->V S' (.lst es) v)∧
  ∀c a v,c<=a->a<=es.length->R S loc (.view id ver c a) v->V S' (.lst ((es.drop c).take (a-c))) v
theorem Frz.mono{b:cI}{S S' a:cp}{loc:cJ}{id:Nat}(h:Frz b S loc S' id)(f:Sub S' a):Frz b S loc a id:=
 fun ver e es hb=>⟨fun v c=>((h ver e es hb).1 v c).mono f,fun j i v h1 g c=>((h ver e es hb).2 j i v h1 g c).mono f⟩
theorem Sim.iL(h:Sim P X S loc s tm w){id ver:Nat}{e:TypeId}{es:List PD}(hb:s.boxes id=some (.arr ver e es)):
  ∃S',Sim P X S' (upd loc id .dead) { s with boxes:=upd s.boxes id .dead } tm w∧Sub S S'∧cm loc (upd loc id .dead)∧Frz s.boxes S loc S' id:=by
 obtain⟨L,G,W⟩:=h.boxes id _ hb
 have F:cj (loc id) .dead:=by rw [G];exact .dead _
 have h1:=h.cw (Step.refl none w) id .dead .dead (fun b hc=>by cases hc) (.dead _ rfl) (fun b hc=>by cases hc) F
 cases W with
 |arr _ _ _ sz hdr xs hsz how hf=>
  have r:∀{f k v},R S loc (.view id ver f k) v->((f=k∧∃a,v= .slice a 0 0)∨∃g n c,hdr= .slice (some ⟨g,0,none⟩) n c∧f<=k∧k<=c∧v= .slice (some ⟨g,f*sz,none⟩) (k-f) (c-f)):=by
   intro f k v q
   cases q with
   |view _ _ _ _ _ L _ l Q=>
    rw [G]at l
    cases l
    exact(Q ver e sz _ .arr).2 rfl
  have z:∀{v},R S loc (.ref id ver) v->v=hdr:=by
   intro v q
   cases q with
   |ref _ _ _ L _ l Q=>
    rw [G]at l
    cases l
    exact(Q ver e sz _ .arr).2 rfl
  by_cases K:es=[]
  ·subst K
   refine⟨S,h1,Sub.refl S,cm.upd F,fun T e' U m=>?_⟩
   rw [hb]at m
   cases m
   refine⟨fun v q=>?_,fun f k v h2 t q=>?_⟩
   ·obtain⟨a,c,rfl,_⟩:=how.hdr
    rw [z q]
    exact .nil _ _
   ·simp only [List.length_nil,Nat.le_zero]at t
    subst t
    have:f=0:=by omega
    subst this
    rcases r q with⟨_,a,rfl⟩|⟨g,n,c,rfl,_,_,rfl⟩
    ·exact .nil _ _
    ·exact .nil _ _
  have O:0<es.length:=by cases es with|nil=>exact(K rfl).elim|cons=>simp
  have N:=how.fw O
  have how:=N
  rcases how.2 with⟨rfl,h0⟩|⟨g,cap,cur,fz,rfl,a4,hg,a7,a2,a3,a1⟩
  ·omega
  ·have C:=how.cells (g:=g) rfl
   have p:cA (.slice (some ⟨g,0,none⟩) es.length cap)=some g:=by cases cap with|zero=>omega|succ c=>rfl
   have a0:∀i L,upd loc id Loc.dead i=some L->¬L.has g:=by
    intro i L k J
    by_cases E:i=id
    ·subst E;rw [cf]at k;cases k;cases J
    ·rw [ck _ _ E]at k
     exact E (h.inj i id L _ g k G J p)
   have Y:X.w0.heap.size<=g∨g∈X.B0:=(h.own id _ g G p).symm
   have h2:=h1.fB g xs (fun j v hj=>by have:=C j v hj;rw [cV]at this;simpa using this) hf.one a0 Y
   have D:∀o,S ⟨g,o,none⟩=none:=fun o=>h.eA id _ g G p o
   have B:∀f k,f<=k->k<=es.length->V (dg S g xs) (.lst ((es.drop f).take (k-f))) (.slice (some ⟨g,f*sz,none⟩) (k-f) (cap-f)):=by
    intro f k a6 a5
    have hlen:((es.drop f).take (k-f)).length=k-f:=by rw [List.length_take,List.length_drop];omega
    have y:∀(i:Nat)x,((es.drop f).take (k-f))[i]? =some x->es[f+i]? =some x:=by
     intro i x H
     rw [List.getElem?_take]at H
     split at H
     ·rwa [List.getElem?_drop]at H
     ·cases H
    have:=V.lst (S:=dg S g xs) ((es.drop f).take (k-f)) g (f*sz) (cap-f) sz (fun i j=>xs.getD ((f+i)*sz+j) default) om
     (fun x H=>hf.len x (List.mem_of_mem_drop (List.mem_of_mem_take H)))
     (fun i e j x t I => by
      obtain⟨u,hu,_⟩:=hf.cell (f+i) e j x (y i e t) I
      have ha:f*sz+i*sz+j=(f+i)*sz+j:=by rw [Nat.add_mul]
      rw [ha,fg D hu]
      simp [hu])
     (fun i e j x t I => by
      obtain⟨u,hu,Q⟩:=hf.cell (f+i) e j x (y i e t) I
      simpa [hu]using Q.mono (dA S g xs))
    rw [hlen]at this
    exact this
   refine⟨_,h2,dA S g xs,cm.upd F,fun T e' U m=>?_⟩
   rw [hb]at m
   cases m
   refine⟨fun v q=>?_,fun f k v t I q=>?_⟩
   ·rw [z q]
    have:=B 0 es.length (Nat.zero_le _) (AB _)
    simpa using this
   ·rcases r q with⟨rfl,a,rfl⟩|⟨g',n,c,he,_,_,rfl⟩
    ·rw [Nat.sub_self];exact .nil _ _
    ·cases he
     exact B f k t I
def eY(u:Ups):Prop:=∀x∈u,x.2= .dead
theorem du(s:St)(id:Nat)(b:Box)(r:Ups):s.ups ((id,b)::r)=({ s with boxes:=upd s.boxes id b }:St).ups r:=rfl
theorem eL:∀(u a:Ups)(s:St),s.ups (u++a)=(s.ups u).ups a
 | [],_,_=>rfl
 |(id,b)::r,a,s=>by rw [List.cons_append,du,du,eL r a]
theorem dT:∀(u:Ups)(s:St),(s.ups u).cv=s.cv
 | [],_=>rfl
 |(id,b)::r,s=>by rw [du,dT r]
theorem Sim.gf:∀(u:Ups){S:cp}{loc:cJ}{s:St},Sim P X S loc s tm w->eY u->(∀x∈u,(∃ver e es,s.boxes x.1=some (.arr ver e es))∨s.boxes x.1=some .dead)->
  ∃S' loc',Sim P X S' loc' (s.ups u) tm w∧Sub S S'∧cm loc loc'∧
   ∀x∈u,Frz s.boxes S loc S' x.1
 | [],S,loc,s,h,_,_=>⟨S,loc,h,Sub.refl S,cm.refl loc,fun x c=>by cases c⟩
 |(id,b)::r,S,loc,s,h,hd,hb=>by
  have B:b= .dead:=hd (id,b) sm
  subst B
  have hdr:eY r:=fun x c=>hd x (by simp [c])
  rw [du]
  rcases hb (id,.dead) sm with⟨ver,e,es,g⟩|g
  ·obtain⟨I,h1,o,m,D⟩:=h.iL g
   obtain ⟨y, j, z, k, n, p⟩ := Sim.gf r h1 hdr (fun x c => by
    by_cases f:x.1=id
    ·right;simp only [f,cf]
    ·simp only [ck _ _ f];exact hb x (by simp [c]))
   refine⟨y,j,z,o.trans k,m.trans n,?_⟩
   intro x c
   by_cases f:x.1=id
   ·rw [f]
    exact D.mono k
   ·rcases List.mem_cons.1 c with rfl|c
    ·exact(f rfl).elim
    ·intro l E q a
     have:=p x c l E q (by simp only [ck _ _ f];exact a)
     exact⟨fun v C=>this.1 v (C.mono o m),fun H t v F G C=>this.2 H t v F G (C.mono o m)⟩
  ·have heq:({ s with boxes:=upd s.boxes id .dead }:St)=s:=by
    have:upd s.boxes id .dead=s.boxes:=by
     funext i
     by_cases t:i=id
     ·subst t;rw [cf];exact g.symm
     ·rw [ck _ _ t]
    rw [this]
   rw [heq]
   obtain⟨y,j,z,k,n,p⟩:=Sim.gf r h hdr (fun x c=>hb x (by simp [c]))
   refine⟨y,j,z,k,n,?_⟩
   intro x c
   rcases List.mem_cons.1 c with rfl|c
   ·intro l E q a
    simp only at g a
    rw [g]at a
    cases a
   ·exact p x c
theorem cx{rv:RV}{b:cI}{p:PD}{u:Ups}{r:List Nat}(h:iU rv b=some ((p,u),r,true)):
  eY u∧(∀x∈u,∃ver e es,b x.1=some (.arr ver e es))∧
  ∀S loc S' v,R S loc rv v->Sub S S'->(∀x∈u,Frz b S loc S' x.1)->V S' p v:=by
 cases rv with
 |d q=>
  obtain⟨h1, -, -⟩:=M.cd (b:=b) h
  cases h1
  refine⟨(fun x j=>by cases j),(fun x j=>by cases j),fun S loc S' v l m _=>?_⟩
  cases l with|d h=>exact h.mono m
 |cL=>
  obtain⟨h1, -, -⟩:=M.cd (b:=b) h
  cases h1
  refine⟨(fun x j=>by cases j),(fun x j=>by cases j),fun S loc S' v l m _=>?_⟩
  cases l with|cL=>exact .nil none 0
 |ref id ver=>
  obtain⟨n,D,E,h1,g,_⟩:=M.bind_some h
  obtain⟨hb,_,_⟩:=M.get_some h1
  cases n with
  |arr k e es=>
   by_cases i:ver=k
   rotate_left
   ·simp only [i,if_false]at g;exact fE b g
   simp only [i,if_true]at g
   subst i
   obtain⟨o, -, -⟩:=M.cd g
   cases o
   refine⟨(fun x j=>by simp at j;rw [j]),(fun x j=>by simp at j;subst j;exact⟨ver,e,es,hb⟩),fun S loc S' v l m y=>?_⟩
   exact(y (id,.dead) sm ver e es hb).1 v l
  |var _=>exact fE b g
  |dead=>exact fE b g
  |map _ _ _=>exact fE b g
  |nest _ _ _ _ _=>exact fE b g
  |mapn _ _ _ _ _=>exact fE b g
  |hole _ _ _ _ _ _=>exact fE b g
  |deep _ _ _ _ _ _ _=>exact fE b g
 |undef=>exact fE b h
 |junk=>exact fE b h
 |agg cs=>exact fE b h
 |tup cs=>exact fE b h
 |ptr a c=>exact fE b h
 |elt a c d f=>exact fE b h
 |cptr a=>exact fE b h
 |view id ver B t=>
  obtain⟨n,D,E,h1,g,_⟩:=M.bind_some h
  obtain⟨hb,_,_⟩:=M.get_some h1
  cases n with
  |arr k e es=>
   by_cases i:ver=k
   rotate_left
   ·simp only [i,if_false]at g;exact fE b g
   simp only [i,if_true]at g
   subst i
   obtain⟨o, -,C⟩:=M.cg g
   cases o
   have z:B<=t∧t<=es.length:=of_decide_eq_true C.symm
   refine⟨(fun x j=>by simp at j;rw [j]),(fun x j=>by simp at j;subst j;exact⟨ver,e,es,hb⟩),fun S loc S' v l m y=>?_⟩
   exact(y (id,.dead) sm ver e es hb).2 B t v z.1 z.2 l
  |var _=>exact fE b g
  |dead=>exact fE b g
  |map _ _ _=>exact fE b g
  |nest _ _ _ _ _=>exact fE b g
  |mapn _ _ _ _ _=>exact fE b g
  |hole _ _ _ _ _ _=>exact fE b g
  |deep _ _ _ _ _ _ _=>exact fE b g
 |clo a c=>exact fE b h
 |fview _ _ _=>exact fE b h
 |err _=>exact fE b h
 |dfull _=>exact fE b h
 |ifc _ _=>exact fE b h
 |plit _=>exact fE b h
 |rlit _=>exact fE b h
 |pcp _=>exact fE b h
 |bnd _ _=>exact fE b h
 |rfn _ _ _=>exact fE b h
theorem iD:∀{cs:List RV}{b:cI}{f:List PD}{u:Ups}{r:List Nat},fH cs b=some ((f,u),r,true)->
  eY u∧(∀x∈u,∃ver e es,b x.1=some (.arr ver e es))∧f.length=cs.length∧
  ∀S loc S',Sub S S'->(∀x∈u,Frz b S loc S' x.1)->
   ∀(i:Nat)c p v,cs[i]? =some c->f[i]? =some p->R S loc c v->V S' p v
 | [],b,f,u,r,h=>by
  obtain⟨h1, -, -⟩:=M.cd h
  cases h1
  exact⟨(fun x a=>by cases a),(fun x a=>by cases a),rfl,fun S loc S' _ _ i c p v h1=>by simp at h1⟩
 |c::cs,b,f,u,r,h=>by
  obtain⟨⟨p,u1⟩,G,H,h1,z,_⟩:=M.bind_some h
  obtain⟨⟨F,u2⟩,I,J,B,C,_⟩:=M.bind_some z
  obtain⟨D, -, -⟩:=M.cd C
  cases D
  obtain⟨m,a2,a3⟩:=cx h1
  obtain⟨n,o,q,t⟩:=iD B
  refine⟨fun x a=>?_,fun x a=>?_,by simp [q],?_⟩
  ·rcases List.mem_append.1 a with a|a
   ·exact m x a
   ·exact n x a
  ·rcases List.mem_append.1 a with a|a
   ·exact a2 x a
   ·exact o x a
  ·intro S loc S' k l i y E v hc g j
   cases i with
   |zero=>
    simp only [List.getElem?_cons_zero,Option.some.injEq]at hc g
    subst hc;subst g
    exact a3 S loc S' v j k fun x a=>l x (List.mem_append.2 (.inl a))
   |succ i=>
    simp only [List.getElem?_cons_succ]at hc g
    exact t S loc S' k (fun x a=>l x (List.mem_append.2 (.inr a))) i y E v hc g j
theorem ny{v:RV}(h:isNils v=true):v= .cL:=by cases v<;>first|rfl|cases h
theorem mA{mt:Bool}{cs:List RV}{b:cI}{f:List PD}{u:Ups}{r:List Nat}(h:iq mt cs b=some ((f,u),r,true)):
  eY u∧(∀x∈u,∃ver e es,b x.1=some (.arr ver e es))∧f.length=cs.length∧
  ∀S loc S',Sub S S'->(∀x∈u,Frz b S loc S' x.1)->
   ∀(i:Nat)c p v,cs[i]? =some c->f[i]? =some p->R S loc c v->V S' p v:=by
 unfold iq at h
 split at h
 ·rename_i hc
  simp only [jQ,Bool.and_eq_true]at hc
  obtain⟨h1, -, -⟩:=M.cd h
  cases h1
  refine⟨(fun x a=>by cases a),(fun x a=>by cases a),sm,fun S loc S' _ _ i c p v h1 g j=>?_⟩
  have:=ny (List.all_eq_true.1 hc.2.2 c (List.mem_of_getElem? h1))
  subst this
  rw [List.getElem?_map,h1]at g
  cases g
  cases j
  exact .raw _ rfl
 ·exact iD h
theorem fW{rv:RV}{b:cI}{p:PD}{u:Ups}{r:List Nat}(h:eX rv b=some ((p,u),r,true)):
  eY u∧(∀x∈u,∃ver e es,b x.1=some (.arr ver e es))∧
  ∀S loc S' v,R S loc rv v->Sub S S'->(∀x∈u,Frz b S loc S' x.1)->V S' p v:=by
 cases rv with
 |agg cs=>
  unfold eX at h
  obtain⟨⟨z,u1⟩,B,C,h1,m,_⟩:=M.bind_some h
  obtain⟨n, -, -⟩:=M.cd m
  cases n
  obtain⟨l,a2,a3,a4⟩:=iD h1
  refine⟨l,a2,fun S loc S' v o t y=>?_⟩
  obtain⟨vs,rfl,hlen,hc⟩:=o.gV
  refine .agg z vs (by rw [hlen,a3]) fun i p v k g=>?_
  have j:i<cs.length:=by rw [<-a3];exact(List.getElem?_eq_some_iff.1 k).1
  exact a4 S loc S' t y i cs[i] p v (zc j) k (hc i _ v (zc j) g)
 |d q=>exact cx h
 |cL=>exact cx h
 |ref id ver=>exact cx h
 |undef=>exact cx h
 |junk=>exact cx h
 |tup cs=>exact cx h
 |ptr a c=>exact cx h
 |elt a c d f=>exact cx h
 |cptr a=>exact cx h
 |view a c d f=>exact cx h
 |clo a c=>exact cx h
 |fview _ _ _=>exact cx h
 |err _=>exact cx h
 |dfull _=>exact cx h
 |ifc _ _=>exact cx h
 |plit _=>exact cx h
 |rlit _=>exact cx h
 |pcp _=>exact cx h
 |bnd _ _=>exact cx h
 |rfn _ _ _=>exact cx h
end
end Go.Dw
