
import Derived.Test.YtikangmionpjfaaGreatDwAddr
open Nat renaming le_refl->B6, le_trans->CJ, lt_of_lt_of_le->CK

namespace Go.Dw
theorem pD.trans{a b c:pY}(h:pD a b)(j:pD b c):pD a c:=by
 intro id L q
 obtain⟨g,h1,k⟩:=h id L q
 obtain⟨f,l,p⟩:=j id g h1
 exact⟨f,l,k.trans p⟩
def upd{α:Type}(f:Nat->Option α)(id:Nat)(x:α):Nat->Option α:=fun i=>if i=id then some x else f i
theorem pz{α:Type}(f:Nat->Option α)(id:Nat)(x:α):upd f id x id=some x:=by simp [upd]
theorem p6{α:Type}(f:Nat->Option α){id i:Nat}(x:α)(h:i≠id):upd f id x i=f i:=by simp [upd,h]
def pN(o:Option Loc)(a:Loc):Prop:=
 match o with
 |none=>True
 |some L=>tq L a
theorem pN.trans{a c f:Loc}(h:pN (some a) c)(g:pN (some c) f):pN (some a) f:=tq.trans h g
theorem pD.upd{loc:pY}{id:Nat}{a:Loc}(h:pN (loc id) a):pD loc (upd loc id a):=by
 intro i L c
 by_cases hi:i=id
 ·subst hi
  rw [c]at h
  exact⟨a,pz _ _ _,h⟩
 ·exact⟨L,by rw [p6 _ _ hi];exact c,.same L⟩
structure Step(chg:Option Nat)(w w':World):Prop where
 os:w'.os=w.os
 tape:w'.tape=w.tape
 output:w'.output=w.output
 size:w.heap.size<=w'.heap.size
 block:∀b,b<w.heap.size->some b≠chg->w'.heap[b]? =w.heap[b]?
 drawn:w.drawn<=w'.drawn
theorem Step.refl(a:Option Nat)(w:World):Step a w w:=⟨rfl,rfl,rfl,B6 _,fun _ _ _=>rfl,B6 _⟩
theorem Step.alloc(w:World)(o:Obj):Step none w (w.alloc o):=⟨rfl,rfl,rfl,sm,fun b a _=>heap_alloc_old w o b a,B6 _⟩
theorem Step.trans{f:Option Nat}{a b c:World}(h:Step f a b)(g:Step f b c):Step f a c:=
 ⟨g.os.trans h.os, g.tape.trans h.tape, g.output.trans h.output, CJ h.size g.size,
  fun x k j=>(g.block x (CK k h.size) j).trans (h.block x k j),CJ h.drawn g.drawn⟩
theorem Step.drew(w:World):Step none w w.drew:=⟨rfl,rfl,rfl,B6 _,fun _ _ _=>rfl,Nat.le_succ _⟩
theorem Step.setRow(w:World)(g:Nat)(cs:Array Value):Step (some g) w (w.setRow g cs):=
 ⟨rfl,rfl,rfl,sm,fun b _ a=>setRow_other w g b cs (fun e=>a (by rw [e])),B6 _⟩
theorem Step.mono{a:Option Nat}{w w':World}(h:Step none w w'):Step a w w':=⟨h.os,h.tape,h.output,h.size,fun b c _=>h.block b c sm,h.drawn⟩
theorem Frame.step{E:Prop}{B0:List Nat}{w0 w w':World}{a:Option Nat}(h:Frame E B0 w0 w)(hs:Step a w w')(hc:∀b,a=some b->b∈B0∨w0.heap.size<=b):Frame E B0 w0 w':=
 ⟨hs.os.trans h.os, hs.tape.trans h.tape, hs.output.trans h.output, CJ h.size hs.size, fun b c f => by
  rw [hs.block b (CK c h.size) ?_]
  ·exact h.block b c f
  ·intro he
   rcases hc b he.symm with h1|h1
   ·exact f h1
   ·omega,fun he=>CJ (h.drawn he) hs.drawn⟩
section
variable {P:Program}{X:Ctx}{S:pr}{loc:pY}{s:St}{tm:Array Value}{w:World}
theorem ta.rq{f:Box}{L:Loc}{b:Nat}(h:ta P S loc w f L)(a:L.has b):b<w.heap.size:=by
 cases h with
 |var cs b' t vs hw j hc=>cases a;exact(Array.getElem?_eq_some_iff.1 hw).1
 |arr ver e es sz hdr xs c how hf=>exact how.lt a
 |dead L g=>subst g;cases a
 |map r x es b' clock ents hw j hc=>cases a;exact(Array.getElem?_eq_some_iff.1 hw).1
 |nest ver e e2 ess p hdr xs bs c l how hc k hi=>
  rcases List.mem_append.1 a with a|a
  ·exact how.lt (by simpa using a)
  ·exact hc.lt b a
 |hole ver e es i o rv sz hdr xs u c how hf hi ho hu q=>exact how.lt a
theorem ta.cI{S S':pr}{loc':pY}{w':World}{r:Box}{L:Loc}(h:ta P S loc w r L)(hs:Sub S S')(l:pD loc loc')(g:∀b,L.has b->w'.heap[b]? =w.heap[b]?):
  ta P S' loc' w' r L:=by
 cases h with
 |var cs b t vs hw hlen hc=>exact .var cs b t vs (by rw [g b rfl];exact hw) hlen (fun i c v h1 j=>(hc i c v h1 j).mono hs l)
 |arr ver e es sz hdr xs a how hf=>exact .arr ver e es sz hdr xs a (how.cI g) (hf.mono hs)
 |dead L z=>exact .dead L z
 |map D E es b clock ents hw hlen hc=>exact .map D E es b clock ents (by rw [g b rfl];exact hw) hlen (fun i k x y h1 j=>⟨(hc i k x y h1 j).1.mono hs,(hc i k x y h1 j).2.mono hs⟩)
 |nest ver e e2 ess B hdr xs bs a q how hc p hi=>
  exact .nest ver e e2 ess B hdr xs bs a q (how.cI fun b f=>g b (List.mem_append.2 (.inl (by simpa using f)))) (hc.cI hs l fun b f=>g b (List.mem_append.2 (.inr f))) p hi
 |hole ver e es i o rv sz hdr xs u a how hf hi ho hu C=>exact .hole ver e es i o rv sz hdr xs u a (how.cI g) (hf.mono hs) hi ho hu (C.mono hs l)
theorem rr{w w':World}{ad:Addr}(h:w'.heap[ad.block]? =w.heap[ad.block]?):w'.cell? ad=w.cell? ad:=by simp [World.cell?,h]
theorem Sim.qh(h:Sim P X S loc s tm w){w':World}{H:Option Nat}(hs:Step H w w')(id:Nat)(y:Box)(r:Loc)
  (l:∀b,H=some b->∃L,loc id=some L∧L.has b)
  (I:ta P S (upd loc id r) w' y r)
  (hblk:∀b,r.has b->(∃L,loc id=some L∧L.has b)∨w.heap.size<=b∨((∀i L,loc i=some L->¬L.has b)∧(∀o,S ⟨b,o,none⟩=none)∧(b∈X.B0∨X.w0.heap.size<=b)))
  (E:pN (loc id) r):
  Sim P X S (upd loc id r) { s with boxes:=upd s.boxes id y } tm w':=by
 have hle:pD loc (upd loc id r):=pD.upd E
 have C:∀q L,q≠id->loc q=some L->∀b,L.has b->w'.heap[b]? =w.heap[b]? :=by
  intro q L K a b f
  obtain⟨G,B⟩:=h.dom q L a
  refine hs.block b ((h.qW B a).rq f) ?_
  intro hc
  obtain⟨u,h1,g⟩:=l b hc.symm
  exact K (h.inj q id L u b a h1 f g)
 refine⟨h.nt,?_,?_,?_,?_,h.ti,?_,?_,?_,?_,h.s0,?_,h.uY,h.bs,fun x hx=>?_⟩
 rotate_right
 ·obtain⟨h1,o,v,g⟩:=h.ob x hx
  refine⟨?_,o,v,g⟩
  rw [<-h1]
  refine hs.block _ (Array.getElem?_eq_some_iff.1 h1).1 fun hc=>?_
  obtain⟨L,T,W⟩:=l _ hc.symm
  have N:=h.rK id L x.1 T W o
  rw [h.bs _ _ g]at N
  cases N
 ·intro t rv Y
  obtain⟨v,h1,g⟩:=h.pI t rv Y
  exact⟨v,h1,g.mono (Sub.refl S) hle⟩
 ·intro i G f
  by_cases hi:i=id
  ·subst hi
   simp only [pz,Option.some.injEq]at f
   subst f
   exact⟨r,pz _ _ _,I⟩
  ·simp only [p6 _ _ hi]at f
   obtain⟨L,h1,g⟩:=h.boxes i G f
   exact⟨L,by rw [p6 _ _ hi];exact h1,g.cI (Sub.refl S) hle (C i L hi h1)⟩
 ·intro i L a
  by_cases hi:i=id
  ·subst hi;exact⟨y,pz _ _ _⟩
  ·rw [p6 _ _ hi]at a
   obtain⟨G,f⟩:=h.dom i L a
   exact⟨G,by simp only [p6 _ _ hi];exact f⟩
 ·intro ad v O
  have hc:=h.imm ad v O
  rw [<-hc]
  refine rr (hs.block ad.block (World.block_lt_of_cell? w ad hc) ?_)
  intro he
  obtain⟨L,h1,g⟩:=l _ he.symm
  have D:ad.spot=none:=by
   unfold World.cell? at hc
   split at hc
   ·split at hc
    ·cases hc
    ·rename_i D;simpa using D
   ·cases hc
  have:=h.rK id L ad.block h1 g ad.off
  rw [<-D]at this
  rw [O]at this
  cases this
 ·intro i L b a f o
  by_cases hi:i=id
  ·subst hi
   rw [pz]at a
   cases a
   rcases hblk b f with⟨u,h1,g⟩|c|⟨_,c,_⟩
   ·exact h.rK i u b h1 g o
   rotate_left
   ·exact c o
   ·cases hS:S ⟨b,o,none⟩with
    |none=>rfl
    |some v=>
     have:=World.block_lt_of_cell? w _ (h.imm _ v hS)
     simp at this
     omega
  ·rw [p6 _ _ hi]at a
   exact h.rK i L b a f o
 ·intro i j L u b a p f z
  have key:∀i L,i≠id->loc i=some L->L.has b->r.has b->False:=by
   intro i L hi a f J
   obtain⟨G,B⟩:=h.dom i L a
   rcases hblk b J with⟨Q,h1,g⟩|c|⟨c,_,_⟩
   ·exact hi (h.inj i id L Q b a h1 f g)
   rotate_left
   ·exact c i L a f
   ·have:=(h.qW B a).rq f
    omega
  by_cases hi:i=id
  ·by_cases F:j=id
   ·rw [hi,F]
   ·subst hi
    rw [pz]at a
    cases a
    rw [p6 _ _ F]at p
    exact(key j u F p z f).elim
  ·by_cases F:j=id
   ·subst F
    rw [pz]at p
    cases p
    rw [p6 _ _ hi]at a
    exact(key i L hi a f z).elim
   ·rw [p6 _ _ hi]at a
    rw [p6 _ _ F]at p
    exact h.inj i j L u b a p f z
 ·intro i L b a f
  by_cases hi:i=id
  ·subst hi
   rw [pz]at a
   cases a
   rcases hblk b f with⟨u,h1,g⟩|c|⟨_,_,c⟩
   ·exact h.own i u b h1 g
   ·exact .inr (CJ h.frame.size c)
   ·exact c
  ·rw [p6 _ _ hi]at a
   exact h.own i L b a f
 ·refine h.frame.step hs fun b f=>?_
  obtain⟨L,h1,g⟩:=l b f
  exact h.own id L b h1 g
 ·intro k b hk
  by_cases hi:k=id
  ·subst hi
   refine⟨r,pz _ _ _,?_⟩
   obtain⟨L,a,h1⟩:=h.par k b hk
   rw [a]at E
   exact pN.trans h1 E
  ·rw [p6 _ _ hi];exact h.par k b hk
theorem Sim.stepW(h:Sim P X S loc s tm w){w':World}(hs:Step none w w'):Sim P X S loc s tm w':=by
 refine⟨h.nt,h.pI,?_,h.dom,?_,h.ti,h.rK,h.inj,h.own,h.frame.step hs (fun b a=>by cases a),h.s0,h.par,h.uY,h.bs,fun x c=>⟨by rw [<-(h.ob x c).1];exact hs.block _ (Array.getElem?_eq_some_iff.1 (h.ob x c).1).1 sm,(h.ob x c).2⟩⟩
 ·intro i g a
  obtain⟨L,h1,f⟩:=h.boxes i g a
  exact⟨L,h1,f.cI (Sub.refl S) (pD.refl loc) (fun b a=>hs.block b (f.rq a) sm)⟩
 ·intro ad v j
  have hc:=h.imm ad v j
  rw [<-hc]
  exact rr (hs.block ad.block (World.block_lt_of_cell? w ad hc) sm)
theorem Sim.grow(h:Sim P X S loc s tm w){S':pr}(hs:Sub S S')(hi:∀ad v,S' ad=some v->S ad=some v∨(w.cell? ad=some v∧v.oneCell'=true∧(∀id L,loc id=some L->¬L.has ad.block)∧(X.w0.heap.size<=ad.block∨ad.block∈X.B0))):
  Sim P X S' loc s tm w:=by
 refine⟨h.nt,fun t rv k=>let⟨v,h1,f⟩:=h.pI t rv k;⟨v,h1,f.mono hs (pD.refl loc)⟩,?_,h.dom,?_,?_,?_,h.inj,h.own,h.frame,h.s0.trans hs,h.par,?_,h.bs.trans hs,h.ob⟩
 ·intro i j c
  obtain⟨L,h1,f⟩:=h.boxes i j c
  exact⟨L,h1,f.cI hs (pD.refl loc) (fun _ _=>rfl)⟩
 ·intro ad v a
  rcases hi ad v a with h1|⟨h1,_,_⟩
  ·exact h.imm ad v h1
  ·exact h1
 ·intro ad v a
  rcases hi ad v a with h1|⟨_,h1,_⟩
  ·exact h.ti ad v h1
  ·exact h1
 ·intro id L b g c o
  cases hS:S' ⟨b,o,none⟩with
  |none=>rfl
  |some v=>
   rcases hi _ v hS with h1|⟨_,_,h1,_⟩
   ·have:=h.rK id L b g c o
    rw [h1]at this
    cases this
   ·exact(h1 id L g c).elim
 ·intro ad v a
  rcases hi ad v a with h1|⟨_,_,_,h1⟩
  ·exact h.uY ad v h1
  ·exact .inr h1
noncomputable def qJ (S:pr) (g:Nat) (xs:List Value):pr:=fun ad=>
 match S ad with
 |some v=>some v
 |none=>if ad.block=g∧ad.spot=none then xs[ad.off]? else none
theorem rD(S:pr)(g:Nat)(xs:List Value):Sub S (qJ S g xs):=fun ad v h=>by simp [qJ,h]
theorem ua{S:pr}{g:Nat}{xs:List Value}(hS:∀o,S ⟨g,o,none⟩=none){j:Nat}{v:Value}(h:xs[j]? =some v):qJ S g xs ⟨g,j,none⟩=some v:=by
 simp [qJ,hS,h]
theorem Sim.uD(h:Sim P X S loc s tm w)(g:Nat)(xs:List Value)(hc:∀j v,xs[j]? =some v->w.cell? ⟨g,j,none⟩=some v)(h1:∀v∈xs,v.oneCell'=true)(p:∀id L,loc id=some L->¬L.has g)(l:X.w0.heap.size<=g∨g∈X.B0):
  Sim P X (qJ S g xs) loc s tm w:=by
 refine h.grow (rD S g xs) fun ad v a=>?_
 unfold qJ at a
 split at a
 ·rename_i v' k
  exact .inl (by rw [k];exact a)
 ·split at a
  ·rename_i c
   obtain⟨c,f⟩:=c
   refine .inr ⟨?_,h1 v (List.mem_of_getElem? a),?_,by rw [c];exact l⟩
   ·have:=hc ad.off v a
    rw [<-c, <-f]at this
    exact this
   ·rw [c];exact p
  ·cases a
def Frz(b:pP)(S:pr)(loc:pY)(S':pr)(id:Nat):Prop:=
 ∀ver e es,b id=some (.arr ver e es)->(∀v,R S loc (.ref id ver) v->V S' (.lst es) v)∧
  ∀lo hi v,lo<=hi->hi<=es.length->R S loc (.view id ver lo hi) v->V S' (.lst ((es.drop lo).take (hi-lo))) v
theorem Frz.mono{b:pP}{S S' a:pr}{loc:pY}{id:Nat}(h:Frz b S loc S' id)(hs:Sub S' a):Frz b S loc a id:=
 fun ver e es f=>⟨fun v c=>((h ver e es f).1 v c).mono hs,fun lo hi v h1 g c=>((h ver e es f).2 lo hi v h1 g c).mono hs⟩
theorem Sim.wM(h:Sim P X S loc s tm w){id ver:Nat}{e:TypeId}{es:List PD}(W:s.boxes id=some (.arr ver e es)):
  ∃S',Sim P X S' (upd loc id .dead) { s with boxes:=upd s.boxes id .dead } tm w∧Sub S S'∧pD loc (upd loc id .dead)∧Frz s.boxes S loc S' id:=by
 obtain⟨L,F,Y⟩:=h.boxes id _ W
 have E:pN (loc id) .dead:=by rw [F];exact .dead _
 have h1:=h.qh (Step.refl none w) id .dead .dead (fun b hc=>by cases hc) (.dead _ rfl) (fun b hc=>by cases hc) E
 cases Y with
 |arr _ _ _ sz hdr xs b6 how hf=>
  have q:∀{lo hi v},R S loc (.view id ver lo hi) v->((lo=hi∧∃a,v= .slice a 0 0)∨∃g n c,hdr= .slice (some ⟨g,0,none⟩) n c∧lo<=hi∧hi<=c∧v= .slice (some ⟨g,lo*sz,none⟩) (hi-lo) (c-lo)):=by
   intro lo hi v p
   cases p with
   |view _ _ _ _ _ L _ f O=>
    rw [F]at f
    cases f
    exact(O ver e sz _ rfl).2 rfl
  have y:∀{v},R S loc (.ref id ver) v->v=hdr:=by
   intro v p
   cases p with
   |ref _ _ _ L _ f O=>
    rw [F]at f
    cases f
    exact(O ver e sz _ .arr).2 rfl
  by_cases J:es=[]
  ·subst J
   refine⟨S,h1,Sub.refl S,pD.upd E,fun Q e' T k=>?_⟩
   rw [W]at k
   cases k
   refine⟨fun v p=>?_,fun lo hi v h2 r p=>?_⟩
   ·obtain⟨a,c,rfl,_⟩:=how.hdr
    rw [y p]
    exact .nil _ _
   ·simp only [List.length_nil,Nat.le_zero]at r
    subst r
    have:lo=0:=by omega
    subst this
    rcases q p with⟨_,a,rfl⟩|⟨g,n,c,rfl,_,_,rfl⟩
    ·exact .nil _ _
    ·exact .nil _ _
  have N:0<es.length:=by cases es with|nil=>exact(J rfl).elim|cons=>simp
  have K:=how.rz N
  have how:=K
  rcases how.2 with⟨rfl,h0⟩|⟨g,cap,cur,fz,rfl,b0,hg,b5,a8,a9,a7⟩
  ·omega
  ·have B:=how.cells (g:=g) rfl
   have l:pB (.slice (some ⟨g,0,none⟩) es.length cap)=some g:=by cases cap with|zero=>omega|succ c=>rfl
   have a6:∀i L,upd loc id Loc.dead i=some L->¬L.has g:=by
    intro i L hi I
    by_cases D:i=id
    ·subst D;rw [pz]at hi;cases hi;cases I
    ·rw [p6 _ _ D]at hi
     exact D (h.inj i id L _ g hi F I l)
   have a5:X.w0.heap.size<=g∨g∈X.B0:=(h.own id _ g F l).symm
   have h2:=h1.uD g xs (fun j v hj=>by have:=B j v hj;rw [qg]at this;simpa using this) hf.one a6 a5
   have C:∀o,S ⟨g,o,none⟩=none:=fun o=>h.rK id _ g F l o
   have z:∀lo hi,lo<=hi->hi<=es.length->V (qJ S g xs) (.lst ((es.drop lo).take (hi-lo))) (.slice (some ⟨g,lo*sz,none⟩) (hi-lo) (cap-lo)):=by
    intro lo hi b4 b3
    have hlen:((es.drop lo).take (hi-lo)).length=hi-lo:=by rw [List.length_take,List.length_drop];omega
    have t:∀(i:Nat)x,((es.drop lo).take (hi-lo))[i]? =some x->es[lo+i]? =some x:=by
     intro i x G
     rw [List.getElem?_take]at G
     split at G
     ·rwa [List.getElem?_drop]at G
     ·cases G
    have:=V.lst (S:=qJ S g xs) ((es.drop lo).take (hi-lo)) g (lo*sz) (cap-lo) sz (fun i j=>xs.getD ((lo+i)*sz+j) default) za
     (fun x G=>hf.len x (List.mem_of_mem_drop (List.mem_of_mem_take G)))
     (fun i e j x r H => by
      obtain⟨u,hu,_⟩:=hf.cell (lo+i) e j x (t i e r) H
      have ha:lo*sz+i*sz+j=(lo+i)*sz+j:=by rw [Nat.add_mul]
      rw [ha,ua C hu]
      simp [hu])
     (fun i e j x r H => by
      obtain⟨u,hu,O⟩:=hf.cell (lo+i) e j x (t i e r) H
      simpa [hu]using O.mono (rD S g xs))
    rw [hlen]at this
    exact this
   refine⟨_,h2,rD S g xs,pD.upd E,fun Q e' T k=>?_⟩
   rw [W]at k
   cases k
   refine⟨fun v p=>?_,fun lo hi v r H p=>?_⟩
   ·rw [y p]
    have:=z 0 es.length (Nat.zero_le _) (B6 _)
    simpa using this
   ·rcases q p with⟨rfl,a,rfl⟩|⟨g',n,c,he,_,_,rfl⟩
    ·rw [Nat.sub_self];exact .nil _ _
    ·cases he
     exact z lo hi r H
def sZ(u:Ups):Prop:=∀x∈u,x.2= .dead
theorem rf(s:St)(id:Nat)(b:Box)(r:Ups):s.ups ((id,b)::r)=({ s with boxes:=upd s.boxes id b }:St).ups r:=rfl
theorem tG:∀(u a:Ups)(s:St),s.ups (u++a)=(s.ups u).ups a
 | [],_,_=>rfl
 |(id,b)::r,a,s=>by rw [List.cons_append,rf,rf,tG r a]
theorem rC:∀(u:Ups)(s:St),(s.ups u).pI=s.pI
 | [],_=>rfl
 |(id,b)::r,s=>by rw [rf,rC r]
theorem Sim.uB:∀(u:Ups){S:pr}{loc:pY}{s:St},Sim P X S loc s tm w->sZ u->(∀x∈u,(∃ver e es,s.boxes x.1=some (.arr ver e es))∨s.boxes x.1=some .dead)->
  ∃S' loc',Sim P X S' loc' (s.ups u) tm w∧Sub S S'∧pD loc loc'∧
   ∀x∈u,Frz s.boxes S loc S' x.1
 | [],S,loc,s,h,_,_=>⟨S,loc,h,Sub.refl S,pD.refl loc,fun x c=>by cases c⟩
 |(id,b)::r,S,loc,s,h,I,D=>by
  have E:b= .dead:=I (id,b) sm
  subst E
  have hdr:sZ r:=fun x c=>I x (by simp [c])
  rw [rf]
  rcases D (id,.dead) sm with⟨ver,e,es,g⟩|g
  ·obtain⟨S1,h1,t,p,G⟩:=h.wM g
   obtain ⟨B, j, C, k, q, y⟩ := Sim.uB r h1 hdr (fun x c => by
    by_cases f:x.1=id
    ·right;simp only [f,pz]
    ·simp only [p6 _ _ f];exact D x (by simp [c]))
   refine⟨B,j,C,t.trans k,p.trans q,?_⟩
   intro x c
   by_cases f:x.1=id
   ·rw [f]
    exact G.mono k
   ·rcases List.mem_cons.1 c with rfl|c
    ·exact(f rfl).elim
    ·intro l H z a
     have:=y x c l H z (by simp only [p6 _ _ f];exact a)
     exact⟨fun v F=>this.1 v (F.mono t p),fun lo hi v J K F=>this.2 lo hi v J K (F.mono t p)⟩
  ·have heq:({ s with boxes:=upd s.boxes id .dead }:St)=s:=by
    have:upd s.boxes id .dead=s.boxes:=by
     funext i
     by_cases hi:i=id
     ·subst hi;rw [pz];exact g.symm
     ·rw [p6 _ _ hi]
    rw [this]
   rw [heq]
   obtain⟨B,j,C,k,q,y⟩:=Sim.uB r h hdr (fun x c=>D x (by simp [c]))
   refine⟨B,j,C,k,q,?_⟩
   intro x c
   rcases List.mem_cons.1 c with rfl|c
   ·intro l H z a
    simp only at g a
    rw [g]at a
    cases a
   ·exact y x c
theorem pR{rv:RV}{b:pP}{p:PD}{u:Ups}{r:List Nat}(h:vZ rv b=some ((p,u),r,true)):
  sZ u∧(∀x∈u,∃ver e es,b x.1=some (.arr ver e es))∧
  ∀S loc S' v,R S loc rv v->Sub S S'->(∀x∈u,Frz b S loc S' x.1)->V S' p v:=by
 cases rv with
 |d q=>
  obtain⟨h1, -, -⟩:=M.pj (b:=b) h
  cases h1
  refine⟨(fun x k=>by cases k),(fun x k=>by cases k),fun S loc S' v t hs _=>?_⟩
  cases t with|d h=>exact h.mono hs
 |px=>
  obtain⟨h1, -, -⟩:=M.pj (b:=b) h
  cases h1
  refine⟨(fun x k=>by cases k),(fun x k=>by cases k),fun S loc S' v t hs _=>?_⟩
  cases t with|px=>exact .nil none 0
 |ref id ver=>
  obtain⟨z,F,G,h1,j,_⟩:=M.bind_some h
  obtain⟨y,_,_⟩:=M.get_some h1
  cases z with
  |arr l e es=>
   by_cases g:ver=l
   rotate_left
   ·simp only [g,if_false]at j;exact fE b j
   simp only [g,if_true]at j
   subst g
   obtain⟨B, -, -⟩:=M.pj j
   cases B
   refine⟨(fun x k=>by simp at k;rw [k]),(fun x k=>by simp at k;subst k;exact⟨ver,e,es,y⟩),fun S loc S' v t hs C=>?_⟩
   exact(C (id,.dead) sm ver e es y).1 v t
  |var _=>exact fE b j
  |dead=>exact fE b j
  |map _ _ _=>exact fE b j
  |nest _ _ _ _ _=>exact fE b j
  |hole _ _ _ _ _ _=>exact fE b j
 |undef=>exact fE b h
 |junk=>exact fE b h
 |agg cs=>exact fE b h
 |tup cs=>exact fE b h
 |ptr a c=>exact fE b h
 |elt a c d f=>exact fE b h
 |cptr a=>exact fE b h
 |view id ver lo hi=>
  obtain⟨z,F,G,h1,j,_⟩:=M.bind_some h
  obtain⟨y,_,_⟩:=M.get_some h1
  cases z with
  |arr l e es=>
   by_cases g:ver=l
   rotate_left
   ·simp only [g,if_false]at j;exact fE b j
   simp only [g,if_true]at j
   subst g
   obtain⟨B, -,E⟩:=M.pq j
   cases B
   have D:lo<=hi∧hi<=es.length:=of_decide_eq_true E.symm
   refine⟨(fun x k=>by simp at k;rw [k]),(fun x k=>by simp at k;subst k;exact⟨ver,e,es,y⟩),fun S loc S' v t hs C=>?_⟩
   exact(C (id,.dead) sm ver e es y).2 lo hi v D.1 D.2 t
  |var _=>exact fE b j
  |dead=>exact fE b j
  |map _ _ _=>exact fE b j
  |nest _ _ _ _ _=>exact fE b j
  |hole _ _ _ _ _ _=>exact fE b j
 |clo a c=>exact fE b h
 |fview _ _ _=>exact fE b h
 |err _=>exact fE b h
 |dfull _=>exact fE b h
 |ifc _ _=>exact fE b h
 |plit _=>exact fE b h
 |pcp _=>exact fE b h
theorem wz:∀{cs:List RV}{b:pP}{f:List PD}{u:Ups}{r:List Nat},tP cs b=some ((f,u),r,true)->
  sZ u∧(∀x∈u,∃ver e es,b x.1=some (.arr ver e es))∧f.length=cs.length∧
  ∀S loc S',Sub S S'->(∀x∈u,Frz b S loc S' x.1)->
   ∀(i:Nat)c p v,cs[i]? =some c->f[i]? =some p->R S loc c v->V S' p v
 | [],b,f,u,r,h=>by
  obtain⟨h1, -, -⟩:=M.pj h
  cases h1
  exact⟨(fun x a=>by cases a),(fun x a=>by cases a),rfl,fun S loc S' _ _ i c p v h1=>by simp at h1⟩
 |c::cs,b,f,u,r,h=>by
  obtain⟨⟨p,u1⟩,E,F,h1,t,_⟩:=M.bind_some h
  obtain⟨⟨D,u2⟩,G,H,y,z,_⟩:=M.bind_some t
  obtain⟨B, -, -⟩:=M.pj z
  cases B
  obtain⟨a1,a2,a3⟩:=pR h1
  obtain⟨b1,b2,k,l⟩:=wz y
  refine⟨fun x a=>?_,fun x a=>?_,by simp [k],?_⟩
  ·rcases List.mem_append.1 a with a|a
   ·exact a1 x a
   ·exact b1 x a
  ·rcases List.mem_append.1 a with a|a
   ·exact a2 x a
   ·exact b2 x a
  ·intro S loc S' hs j i q C v hc hp g
   cases i with
   |zero=>
    simp only [List.getElem?_cons_zero,Option.some.injEq]at hc hp
    subst hc;subst hp
    exact a3 S loc S' v g hs fun x a=>j x (List.mem_append.2 (.inl a))
   |succ i=>
    simp only [List.getElem?_cons_succ]at hc hp
    exact l S loc S' hs (fun x a=>j x (List.mem_append.2 (.inr a))) i q C v hc hp g
theorem Bb{v:RV}(h:isNils v=true):v= .px:=by cases v<;>first|rfl|cases h
theorem Az{mt:Bool}{cs:List RV}{b:pP}{f:List PD}{u:Ups}{r:List Nat}(h:wh mt cs b=some ((f,u),r,true)):
  sZ u∧(∀x∈u,∃ver e es,b x.1=some (.arr ver e es))∧f.length=cs.length∧
  ∀S loc S',Sub S S'->(∀x∈u,Frz b S loc S' x.1)->
   ∀(i:Nat)c p v,cs[i]? =some c->f[i]? =some p->R S loc c v->V S' p v:=by
 unfold wh at h
 split at h
 ·rename_i hc
  simp only [xJ,Bool.and_eq_true]at hc
  obtain⟨h1, -, -⟩:=M.pj h
  cases h1
  refine⟨(fun x a=>by cases a),(fun x a=>by cases a),sm,fun S loc S' _ _ i c p v h1 g j=>?_⟩
  have:=Bb (List.all_eq_true.1 hc.2.2 c (List.mem_of_getElem? h1))
  subst this
  rw [List.getElem?_map,h1]at g
  cases g
  cases j
  exact .raw _ rfl
 ·exact wz h
theorem ur{rv:RV}{b:pP}{p:PD}{u:Ups}{r:List Nat}(h:rQ rv b=some ((p,u),r,true)):
  sZ u∧(∀x∈u,∃ver e es,b x.1=some (.arr ver e es))∧
  ∀S loc S' v,R S loc rv v->Sub S S'->(∀x∈u,Frz b S loc S' x.1)->V S' p v:=by
 cases rv with
 |agg cs=>
  unfold rQ at h
  obtain⟨⟨y,u1⟩,z,B,h1,j,_⟩:=M.bind_some h
  obtain⟨k, -, -⟩:=M.pj j
  cases k
  obtain⟨a1,a2,a3,a4⟩:=wz h1
  refine⟨a1,a2,fun S loc S' v l hs t=>?_⟩
  obtain⟨vs,rfl,hlen,hc⟩:=l.vH
  refine .agg y vs (by rw [hlen,a3]) fun i p v hp g=>?_
  have hi:i<cs.length:=by rw [<-a3];exact(List.getElem?_eq_some_iff.1 hp).1
  exact a4 S loc S' hs t i cs[i] p v (zd hi) hp (hc i _ v (zd hi) g)
 |d q=>exact pR h
 |px=>exact pR h
 |ref id ver=>exact pR h
 |undef=>exact pR h
 |junk=>exact pR h
 |tup cs=>exact pR h
 |ptr a c=>exact pR h
 |elt a c d f=>exact pR h
 |cptr a=>exact pR h
 |view a c d f=>exact pR h
 |clo a c=>exact pR h
 |fview _ _ _=>exact pR h
 |err _=>exact pR h
 |dfull _=>exact pR h
 |ifc _ _=>exact pR h
 |plit _=>exact pR h
 |pcp _=>exact pR h
end
end Go.Dw
