
import Derived.Test.YthkfkgoddhehcaaGreatDwAddr
open Nat renaming le_refl->EB, le_trans->EO, lt_of_lt_of_le->EP

namespace Go.Dw
theorem tO.trans{a b c:ui}(h:tO a b)(j:tO b c):tO a c:=by
 intro id L q
 obtain⟨g,h1,k⟩:=h id L q
 obtain⟨f,l,p⟩:=j id g h1
 exact⟨f,l,k.trans p⟩
def upd{α:Type}(f:Nat->Option α)(id:Nat)(x:α):Nat->Option α:=λi=>if i=id then some x else f i
theorem tJ{α:Type}(f:Nat->Option α)(id:Nat)(x:α):upd f id x id=some x:=by simp [upd]
theorem uq{α:Type}(f:Nat->Option α){id i:Nat}(x:α)(h:i≠id):upd f id x i=f i:=by simp [upd,h]
def uc(o:Option Loc)(a:Loc):Prop:=
 match o with
 |none=>True
 |some L=>wY L a
theorem uc.trans{a c f:Loc}(h:uc (some a) c)(g:uc (some c) f):uc (some a) f:=wY.trans h g
theorem tO.upd{loc:ui}{id:Nat}{a:Loc}(h:uc (loc id) a):tO loc (upd loc id a):=by
 intro i L c
 by_cases hi:i=id
 ·subst hi
  rw [c]at h
  exact⟨a,tJ _ _ _,h⟩
 ·exact⟨L,by rw [uq _ _ hi];exact c,.same L⟩
structure Step(chg:Option Nat)(w w':World):Prop where
 os:w'.os=w.os
 tape:w'.tape=w.tape
 output:w'.output=w.output
 size:w.heap.size<=w'.heap.size
 block:∀b,b<w.heap.size->some b≠chg->w'.heap[b]? =w.heap[b]?
 drawn:w.drawn<=w'.drawn
theorem Step.refl(a:Option Nat)(w:World):Step a w w:=⟨rfl,rfl,rfl,EB _,λ_ _ _=>rfl,EB _⟩
theorem Step.alloc(w:World)(o:Obj):Step none w (w.alloc o):=⟨rfl,rfl,rfl,zb,λb a _=>heap_alloc_old w o b a,EB _⟩
theorem Step.trans{f:Option Nat}{a b c:World}(h:Step f a b)(g:Step f b c):Step f a c:=
 ⟨g.os.trans h.os, g.tape.trans h.tape, g.output.trans h.output, EO h.size g.size,
  λx k j=>(g.block x (EP k h.size) j).trans (h.block x k j),EO h.drawn g.drawn⟩
theorem Step.drew(w:World):Step none w w.drew:=⟨rfl,rfl,rfl,EB _,λ_ _ _=>rfl,Nat.le_succ _⟩
theorem Step.setRow(w:World)(g:Nat)(cs:Array Value):Step (some g) w (w.setRow g cs):=
 ⟨rfl,rfl,rfl,zb,λb _ a=>setRow_other w g b cs (λe=>a (by rw [e])),EB _⟩
theorem Step.mono{a:Option Nat}{w w':World}(h:Step none w w'):Step a w w':=⟨h.os,h.tape,h.output,h.size,λb c _=>h.block b c zb,h.drawn⟩
theorem Frame.step{E:Prop}{B0:List Nat}{w0 w w':World}{a:Option Nat}(h:Frame E B0 w0 w)(hs:Step a w w')(hc:∀b,a=some b->b∈B0∨w0.heap.size<=b):Frame E B0 w0 w':=
 ⟨hs.os.trans h.os, hs.tape.trans h.tape, hs.output.trans h.output, EO h.size hs.size, λb c f => by
  rw [hs.block b (EP c h.size) ?_]
  ·exact h.block b c f
  ·intro he
   rcases hc b he.symm with h1|h1
   ·exact f h1
   ·omega,λhe=>EO (h.drawn he) hs.drawn⟩
section
variable {P:Program}{X:Ctx}{S:tG}{loc:ui}{s:St}{tm:Array Value}{w:World}
theorem xa.wH{f:Box}{L:Loc}{b:Nat}(h:xa P S loc w f L)(a:L.has b):b<w.heap.size:=by
 cases h with
 |var cs b' t vs hw p hc=>cases a;exact(Array.getElem?_eq_some_iff.1 hw).1
 |arr ver e es sz hdr xs c how hf=>exact how.lt a
 |dead L g=>subst g;cases a
 |nest ver e e2 ess l hdr xs bs c k how hc j hi=>
  rcases List.mem_append.1 a with a|a
  ·exact how.lt (by simpa using a)
  ·exact hc.lt b a
theorem xa.j0{S S':tG}{loc':ui}{w':World}{l:Box}{L:Loc}(h:xa P S loc w l L)(hs:Sub S S')(p:tO loc loc')(g:∀b,L.has b->w'.heap[b]? =w.heap[b]?):
  xa P S' loc' w' l L:=by
 cases h with
 |var cs b t vs hw hlen hc=>exact .var cs b t vs (by rw [g b rfl];exact hw) hlen (λi c v h1 q=>(hc i c v h1 q).mono hs p)
 |arr ver e es sz hdr xs f how hf=>exact .arr ver e es sz hdr xs f (how.j0 g) (hf.mono hs)
 |dead L r=>exact .dead L r
 |nest ver e e2 ess u hdr xs bs f k how hc j hi=>
  exact .nest ver e e2 ess u hdr xs bs f k (how.j0 λb a=>g b (List.mem_append.2 (.inl (by simpa using a)))) (hc.j0 hs p λb a=>g b (List.mem_append.2 (.inr a))) j hi
theorem vC{w w':World}{ad:Addr}(h:w'.heap[ad.block]? =w.heap[ad.block]?):w'.cell? ad=w.cell? ad:=by simp [World.cell?,h]
theorem Sim.uO(h:Sim P X S loc s tm w){w':World}{H:Option Nat}(hs:Step H w w')(id:Nat)(y:Box)(r:Loc)
  (l:∀b,H=some b->∃L,loc id=some L∧L.has b)
  (I:xa P S (upd loc id r) w' y r)
  (hblk:∀b,r.has b->(∃L,loc id=some L∧L.has b)∨w.heap.size<=b∨((∀i L,loc i=some L->¬L.has b)∧(∀o,S ⟨b,o,none⟩=none)∧(b∈X.B0∨X.w0.heap.size<=b)))
  (E:uc (loc id) r):
  Sim P X S (upd loc id r) { s with boxes:=upd s.boxes id y } tm w':=by
 have hle:tO loc (upd loc id r):=tO.upd E
 have C:∀q L,q≠id->loc q=some L->∀b,L.has b->w'.heap[b]? =w.heap[b]? :=by
  intro q L K a b f
  obtain⟨G,B⟩:=h.dom q L a
  refine hs.block b ((h.wh B a).wH f) ?_
  intro hc
  obtain⟨u,h1,g⟩:=l b hc.symm
  exact K (h.inj q id L u b a h1 f g)
 refine⟨h.nt,?_,?_,?_,?_,h.wU,?_,?_,?_,?_,h.s0,?_,h.yi,h.bs,λx hx=>?_⟩
 rotate_right
 ·obtain⟨h1,o,v,g⟩:=h.ob x hx
  refine⟨?_,o,v,g⟩
  rw [<-h1]
  refine hs.block _ (Array.getElem?_eq_some_iff.1 h1).1 λhc=>?_
  obtain⟨L,T,W⟩:=l _ hc.symm
  have N:=h.vV id L x.1 T W o
  rw [h.bs _ _ g]at N
  cases N
 ·intro t rv Y
  obtain⟨v,h1,g⟩:=h.tT t rv Y
  exact⟨v,h1,g.mono (Sub.refl S) hle⟩
 ·intro i G f
  by_cases hi:i=id
  ·subst hi
   simp only [tJ,Option.some.injEq]at f
   subst f
   exact⟨r,tJ _ _ _,I⟩
  ·simp only [uq _ _ hi]at f
   obtain⟨L,h1,g⟩:=h.boxes i G f
   exact⟨L,by rw [uq _ _ hi];exact h1,g.j0 (Sub.refl S) hle (C i L hi h1)⟩
 ·intro i L a
  by_cases hi:i=id
  ·subst hi;exact⟨y,tJ _ _ _⟩
  ·rw [uq _ _ hi]at a
   obtain⟨G,f⟩:=h.dom i L a
   exact⟨G,by simp only [uq _ _ hi];exact f⟩
 ·intro ad v O
  have hc:=h.imm ad v O
  rw [<-hc]
  refine vC (hs.block ad.block (World.block_lt_of_cell? w ad hc) ?_)
  intro he
  obtain⟨L,h1,g⟩:=l _ he.symm
  have D:ad.spot=none:=by
   unfold World.cell? at hc
   split at hc
   ·split at hc
    ·cases hc
    ·rename_i D;simpa using D
   ·cases hc
  have:=h.vV id L ad.block h1 g ad.off
  rw [<-D]at this
  rw [O]at this
  cases this
 ·intro i L b a f o
  by_cases hi:i=id
  ·subst hi
   rw [tJ]at a
   cases a
   rcases hblk b f with⟨u,h1,g⟩|c|⟨_,c,_⟩
   ·exact h.vV i u b h1 g o
   rotate_left
   ·exact c o
   ·cases hS:S ⟨b,o,none⟩with
    |none=>rfl
    |some v=>
     have:=World.block_lt_of_cell? w _ (h.imm _ v hS)
     simp at this
     omega
  ·rw [uq _ _ hi]at a
   exact h.vV i L b a f o
 ·intro i j L u b a p f z
  have key:∀i L,i≠id->loc i=some L->L.has b->r.has b->False:=by
   intro i L hi a f J
   obtain⟨G,B⟩:=h.dom i L a
   rcases hblk b J with⟨Q,h1,g⟩|c|⟨c,_,_⟩
   ·exact hi (h.inj i id L Q b a h1 f g)
   rotate_left
   ·exact c i L a f
   ·have:=(h.wh B a).wH f
    omega
  by_cases hi:i=id
  ·by_cases F:j=id
   ·rw [hi,F]
   ·subst hi
    rw [tJ]at a
    cases a
    rw [uq _ _ F]at p
    exact(key j u F p z f).elim
  ·by_cases F:j=id
   ·subst F
    rw [tJ]at p
    cases p
    rw [uq _ _ hi]at a
    exact(key i L hi a f z).elim
   ·rw [uq _ _ hi]at a
    rw [uq _ _ F]at p
    exact h.inj i j L u b a p f z
 ·intro i L b a f
  by_cases hi:i=id
  ·subst hi
   rw [tJ]at a
   cases a
   rcases hblk b f with⟨u,h1,g⟩|c|⟨_,_,c⟩
   ·exact h.own i u b h1 g
   ·exact .inr (EO h.frame.size c)
   ·exact c
  ·rw [uq _ _ hi]at a
   exact h.own i L b a f
 ·refine h.frame.step hs λb f=>?_
  obtain⟨L,h1,g⟩:=l b f
  exact h.own id L b h1 g
 ·intro k b hk
  by_cases hi:k=id
  ·subst hi
   refine⟨r,tJ _ _ _,?_⟩
   obtain⟨L,a,h1⟩:=h.par k b hk
   rw [a]at E
   exact uc.trans h1 E
  ·rw [uq _ _ hi];exact h.par k b hk
theorem Sim.stepW(h:Sim P X S loc s tm w){w':World}(hs:Step none w w'):Sim P X S loc s tm w':=by
 refine⟨h.nt,h.tT,?_,h.dom,?_,h.wU,h.vV,h.inj,h.own,h.frame.step hs (λb a=>by cases a),h.s0,h.par,h.yi,h.bs,λx c=>⟨by rw [<-(h.ob x c).1];exact hs.block _ (Array.getElem?_eq_some_iff.1 (h.ob x c).1).1 zb,(h.ob x c).2⟩⟩
 ·intro i g a
  obtain⟨L,h1,f⟩:=h.boxes i g a
  exact⟨L,h1,f.j0 (Sub.refl S) (tO.refl loc) (λb a=>hs.block b (f.wH a) zb)⟩
 ·intro ad v j
  have hc:=h.imm ad v j
  rw [<-hc]
  exact vC (hs.block ad.block (World.block_lt_of_cell? w ad hc) zb)
theorem Sim.grow(h:Sim P X S loc s tm w){S':tG}(hs:Sub S S')(hi:∀ad v,S' ad=some v->S ad=some v∨(w.cell? ad=some v∧v.oneCell'=true∧(∀id L,loc id=some L->¬L.has ad.block)∧(X.w0.heap.size<=ad.block∨ad.block∈X.B0))):
  Sim P X S' loc s tm w:=by
 refine⟨h.nt,λt rv k=>let⟨v,h1,f⟩:=h.tT t rv k;⟨v,h1,f.mono hs (tO.refl loc)⟩,?_,h.dom,?_,?_,?_,h.inj,h.own,h.frame,h.s0.trans hs,h.par,?_,h.bs.trans hs,h.ob⟩
 ·intro i j c
  obtain⟨L,h1,f⟩:=h.boxes i j c
  exact⟨L,h1,f.j0 hs (tO.refl loc) (λ_ _=>rfl)⟩
 ·intro ad v a
  rcases hi ad v a with h1|⟨h1,_,_⟩
  ·exact h.imm ad v h1
  ·exact h1
 ·intro ad v a
  rcases hi ad v a with h1|⟨_,h1,_⟩
  ·exact h.wU ad v h1
  ·exact h1
 ·intro id L b g c o
  cases hS:S' ⟨b,o,none⟩with
  |none=>rfl
  |some v=>
   rcases hi _ v hS with h1|⟨_,_,h1,_⟩
   ·have:=h.vV id L b g c o
    rw [h1]at this
    cases this
   ·exact(h1 id L g c).elim
 ·intro ad v a
  rcases hi ad v a with h1|⟨_,_,_,h1⟩
  ·exact h.yi ad v h1
  ·exact .inr h1
noncomputable def uU (S:tG) (g:Nat) (xs:List Value):tG:=λad=>
 match S ad with
 |some v=>some v
 |none=>if ad.block=g∧ad.spot=none then xs[ad.off]? else none
theorem vL(S:tG)(g:Nat)(xs:List Value):Sub S (uU S g xs):=λad v h=>by simp [uU,h]
theorem xv{S:tG}{g:Nat}{xs:List Value}(hS:∀o,S ⟨g,o,none⟩=none){j:Nat}{v:Value}(h:xs[j]? =some v):uU S g xs ⟨g,j,none⟩=some v:=by
 simp [uU,hS,h]
theorem Sim.zX(h:Sim P X S loc s tm w)(g:Nat)(xs:List Value)(hc:∀j v,xs[j]? =some v->w.cell? ⟨g,j,none⟩=some v)(h1:∀v∈xs,v.oneCell'=true)(p:∀id L,loc id=some L->¬L.has g)(l:X.w0.heap.size<=g∨g∈X.B0):
  Sim P X (uU S g xs) loc s tm w:=by
 refine h.grow (vL S g xs) λad v a=>?_
 unfold uU at a
 split at a
 ·rename_i v' k
  exact .inl (by rw [k];exact a)
 ·split at a
  ·rename_i c
   obtain⟨c,f⟩:=c
   refine .inr ⟨?_,h1 v (List.mem_of_getElem? a),?_,by rw [c];exact l⟩
   ·have:=hc ad.off v a
    rw [<-c, <-f]at this
    exact this
   ·rw [c];exact p
  ·cases a
def Frz(b:tY)(S:tG)(loc:ui)(S':tG)(id:Nat):Prop:=
 ∀ver e es,b id=some (.arr ver e es)->(∀v,R S loc (.ref id ver) v->V S' (.lst es) v)∧
  ∀lo hi v,lo<=hi->hi<=es.length->R S loc (.view id ver lo hi) v->V S' (.lst ((es.drop lo).take (hi-lo))) v
theorem Frz.mono{b:tY}{S S' a:tG}{loc:ui}{id:Nat}(h:Frz b S loc S' id)(hs:Sub S' a):Frz b S loc a id:=
 λver e es f=>⟨λv c=>((h ver e es f).1 v c).mono hs,λlo hi v h1 g c=>((h ver e es f).2 lo hi v h1 g c).mono hs⟩
theorem Sim.Ce(h:Sim P X S loc s tm w){id ver:Nat}{e:TypeId}{es:List PD}(W:s.boxes id=some (.arr ver e es)):
  ∃S',Sim P X S' (upd loc id .dead) { s with boxes:=upd s.boxes id .dead } tm w∧Sub S S'∧tO loc (upd loc id .dead)∧Frz s.boxes S loc S' id:=by
 obtain⟨L,F,Y⟩:=h.boxes id _ W
 have E:uc (loc id) .dead:=by rw [F];exact .dead _
 have h1:=h.uO (Step.refl none w) id .dead .dead (λb hc=>by cases hc) (.dead _ rfl) (λb hc=>by cases hc) E
 cases Y with
 |arr _ _ _ sz hdr xs b6 how hf=>
  have q:∀{lo hi v},R S loc (.view id ver lo hi) v->((lo=hi∧∃a,v= .slice a 0 0)∨∃g n c,hdr= .slice (some ⟨g,0,none⟩) n c∧lo<=hi∧hi<=c∧v= .slice (some ⟨g,lo*sz,none⟩) (hi-lo) (c-lo)):=by
   intro lo hi v p
   cases p with
   |view _ _ _ _ _ L _ f O=>
    rw [F]at f
    cases f
    exact(O ver e sz _ rfl).2 rfl
  have y:∀{v},R S loc (.ref id ver) v->v=hdr:=by
   intro v p
   cases p with
   |ref _ _ _ L _ f O=>
    rw [F]at f
    cases f
    exact(O ver e sz _ .arr).2 rfl
  by_cases J:es=[]
  ·subst J
   refine⟨S,h1,Sub.refl S,tO.upd E,λQ e' T k=>?_⟩
   rw [W]at k
   cases k
   refine⟨λv p=>?_,λlo hi v h2 r p=>?_⟩
   ·obtain⟨a,c,rfl,_⟩:=how.hdr
    rw [y p]
    exact .nil _ _
   ·simp only [List.length_nil,Nat.le_zero]at r
    subst r
    have:lo=0:=by omega
    subst this
    rcases q p with⟨_,a,rfl⟩|⟨g,n,c,rfl,_,_,rfl⟩
    ·exact .nil _ _
    ·exact .nil _ _
  have N:0<es.length:=by cases es with|nil=>exact(J rfl).elim|cons=>simp
  have K:=how.wj N
  have how:=K
  rcases how.2 with⟨rfl,h0⟩|⟨g,cap,cur,fz,rfl,b0,hg,b5,a8,a9,a7⟩
  ·omega
  ·have B:=how.cells (g:=g) rfl
   have l:tM (.slice (some ⟨g,0,none⟩) es.length cap)=some g:=by cases cap with|zero=>omega|succ c=>rfl
   have a6:∀i L,upd loc id Loc.dead i=some L->¬L.has g:=by
    intro i L hi I
    by_cases D:i=id
    ·subst D;rw [tJ]at hi;cases hi;cases I
    ·rw [uq _ _ D]at hi
     exact D (h.inj i id L _ g hi F I l)
   have a5:X.w0.heap.size<=g∨g∈X.B0:=(h.own id _ g F l).symm
   have h2:=h1.zX g xs (λj v hj=>by have:=B j v hj;rw [uC]at this;simpa using this) hf.one a6 a5
   have C:∀o,S ⟨g,o,none⟩=none:=λo=>h.vV id _ g F l o
   have z:∀lo hi,lo<=hi->hi<=es.length->V (uU S g xs) (.lst ((es.drop lo).take (hi-lo))) (.slice (some ⟨g,lo*sz,none⟩) (hi-lo) (cap-lo)):=by
    intro lo hi b4 b3
    have hlen:((es.drop lo).take (hi-lo)).length=hi-lo:=by rw [List.length_take,List.length_drop];omega
    have t:∀(i:Nat)x,((es.drop lo).take (hi-lo))[i]? =some x->es[lo+i]? =some x:=by
     intro i x G
     rw [List.getElem?_take]at G
     split at G
     ·rwa [List.getElem?_drop]at G
     ·cases G
    have:=V.lst (S:=uU S g xs) ((es.drop lo).take (hi-lo)) g (lo*sz) (cap-lo) sz (λi j=>xs.getD ((lo+i)*sz+j) default) za
     (λx G=>hf.len x (List.mem_of_mem_drop (List.mem_of_mem_take G)))
     (λi e j x r H => by
      obtain⟨u,hu,_⟩:=hf.cell (lo+i) e j x (t i e r) H
      have ha:lo*sz+i*sz+j=(lo+i)*sz+j:=by rw [Nat.add_mul]
      rw [ha,xv C hu]
      simp [hu])
     (λi e j x r H => by
      obtain⟨u,hu,O⟩:=hf.cell (lo+i) e j x (t i e r) H
      simpa [hu]using O.mono (vL S g xs))
    rw [hlen]at this
    exact this
   refine⟨_,h2,vL S g xs,tO.upd E,λQ e' T k=>?_⟩
   rw [W]at k
   cases k
   refine⟨λv p=>?_,λlo hi v r H p=>?_⟩
   ·rw [y p]
    have:=z 0 es.length (Nat.zero_le _) (EB _)
    simpa using this
   ·rcases q p with⟨rfl,a,rfl⟩|⟨g',n,c,he,_,_,rfl⟩
    ·rw [Nat.sub_self];exact .nil _ _
    ·cases he
     exact z lo hi r H
def wR(u:Ups):Prop:=∀x∈u,x.2= .dead
theorem vJ(s:St)(id:Nat)(b:Box)(r:Ups):s.ups ((id,b)::r)=({ s with boxes:=upd s.boxes id b }:St).ups r:=rfl
theorem yb:∀(u a:Ups)(s:St),s.ups (u++a)=(s.ups u).ups a
 | [],_,_=>rfl
 |(id,b)::r,a,s=>by rw [List.cons_append,vJ,vJ,yb r a]
theorem vK:∀(u:Ups)(s:St),(s.ups u).tT=s.tT
 | [],_=>rfl
 |(id,b)::r,s=>by rw [vJ,vK r]
theorem Sim.yQ:∀(u:Ups){S:tG}{loc:ui}{s:St},Sim P X S loc s tm w->wR u->(∀x∈u,(∃ver e es,s.boxes x.1=some (.arr ver e es))∨s.boxes x.1=some .dead)->
  ∃S' loc',Sim P X S' loc' (s.ups u) tm w∧Sub S S'∧tO loc loc'∧
   ∀x∈u,Frz s.boxes S loc S' x.1
 | [],S,loc,s,h,_,_=>⟨S,loc,h,Sub.refl S,tO.refl loc,λx c=>by cases c⟩
 |(id,b)::r,S,loc,s,h,I,D=>by
  have E:b= .dead:=I (id,b) zb
  subst E
  have hdr:wR r:=λx c=>I x (by simp [c])
  rw [vJ]
  rcases D (id,.dead) zb with⟨ver,e,es,g⟩|g
  ·obtain⟨S1,h1,t,p,G⟩:=h.Ce g
   obtain ⟨B, j, C, k, q, y⟩ := Sim.yQ r h1 hdr (λx c => by
    by_cases f:x.1=id
    ·right;simp only [f,tJ]
    ·simp only [uq _ _ f];exact D x (by simp [c]))
   refine⟨B,j,C,t.trans k,p.trans q,?_⟩
   intro x c
   by_cases f:x.1=id
   ·rw [f]
    exact G.mono k
   ·rcases List.mem_cons.1 c with rfl|c
    ·exact(f rfl).elim
    ·intro l H z a
     have:=y x c l H z (by simp only [uq _ _ f];exact a)
     exact⟨λv F=>this.1 v (F.mono t p),λlo hi v J K F=>this.2 lo hi v J K (F.mono t p)⟩
  ·have heq:({ s with boxes:=upd s.boxes id .dead }:St)=s:=by
    have:upd s.boxes id .dead=s.boxes:=by
     funext i
     by_cases hi:i=id
     ·subst hi;rw [tJ];exact g.symm
     ·rw [uq _ _ hi]
    rw [this]
   rw [heq]
   obtain⟨B,j,C,k,q,y⟩:=Sim.yQ r h hdr (λx c=>D x (by simp [c]))
   refine⟨B,j,C,k,q,?_⟩
   intro x c
   rcases List.mem_cons.1 c with rfl|c
   ·intro l H z a
    simp only at g a
    rw [g]at a
    cases a
   ·exact y x c
theorem ug{rv:RV}{b:tY}{p:PD}{u:Ups}{r:List Nat}(h:zf rv b=some ((p,u),r,true)):
  wR u∧(∀x∈u,∃ver e es,b x.1=some (.arr ver e es))∧
  ∀S loc S' v,R S loc rv v->Sub S S'->(∀x∈u,Frz b S loc S' x.1)->V S' p v:=by
 cases rv with
 |d q=>
  obtain⟨h1, -, -⟩:=M.tB (b:=b) h
  cases h1
  refine⟨(λx j=>by cases j),(λx j=>by cases j),λS loc S' v t hs _=>?_⟩
  cases t with|d h=>exact h.mono hs
 |tC=>
  obtain⟨h1, -, -⟩:=M.tB (b:=b) h
  cases h1
  refine⟨(λx j=>by cases j),(λx j=>by cases j),λS loc S' v t hs _=>?_⟩
  cases t with|tC=>exact .nil none 0
 |ref id ver=>
  obtain⟨z,F,G,h1,k,_⟩:=M.bind_some h
  obtain⟨y,_,_⟩:=M.get_some h1
  cases z with
  |arr l e es=>
   by_cases g:ver=l
   rotate_left
   ·simp only [g,if_false]at k;exact fE b k
   simp only [g,if_true]at k
   subst g
   obtain⟨B, -, -⟩:=M.tB k
   cases B
   refine⟨(λx j=>by simp at j;rw [j]),(λx j=>by simp at j;subst j;exact⟨ver,e,es,y⟩),λS loc S' v t hs C=>?_⟩
   exact(C (id,.dead) zb ver e es y).1 v t
  |var _=>exact fE b k
  |dead=>exact fE b k
  |nest _ _ _ _ _=>exact fE b k
 |undef=>exact fE b h
 |junk=>exact fE b h
 |agg cs=>exact fE b h
 |tup cs=>exact fE b h
 |ptr a c=>exact fE b h
 |elt a c d f=>exact fE b h
 |cptr a=>exact fE b h
 |view id ver lo hi=>
  obtain⟨z,F,G,h1,k,_⟩:=M.bind_some h
  obtain⟨y,_,_⟩:=M.get_some h1
  cases z with
  |arr l e es=>
   by_cases g:ver=l
   rotate_left
   ·simp only [g,if_false]at k;exact fE b k
   simp only [g,if_true]at k
   subst g
   obtain⟨B, -,E⟩:=M.tK k
   cases B
   have D:lo<=hi∧hi<=es.length:=of_decide_eq_true E.symm
   refine⟨(λx j=>by simp at j;rw [j]),(λx j=>by simp at j;subst j;exact⟨ver,e,es,y⟩),λS loc S' v t hs C=>?_⟩
   exact(C (id,.dead) zb ver e es y).2 lo hi v D.1 D.2 t
  |var _=>exact fE b k
  |dead=>exact fE b k
  |nest _ _ _ _ _=>exact fE b k
 |clo a c=>exact fE b h
 |err _=>exact fE b h
 |ifc _ _=>exact fE b h
 |plit _=>exact fE b h
 |pcp _=>exact fE b h
theorem zG:∀{cs:List RV}{b:tY}{f:List PD}{u:Ups}{r:List Nat},xj cs b=some ((f,u),r,true)->
  wR u∧(∀x∈u,∃ver e es,b x.1=some (.arr ver e es))∧f.length=cs.length∧
  ∀S loc S',Sub S S'->(∀x∈u,Frz b S loc S' x.1)->
   ∀(i:Nat)c p v,cs[i]? =some c->f[i]? =some p->R S loc c v->V S' p v
 | [],b,f,u,r,h=>by
  obtain⟨h1, -, -⟩:=M.tB h
  cases h1
  exact⟨(λx a=>by cases a),(λx a=>by cases a),rfl,λS loc S' _ _ i c p v h1=>by simp at h1⟩
 |c::cs,b,f,u,r,h=>by
  obtain⟨⟨p,u1⟩,E,F,h1,t,_⟩:=M.bind_some h
  obtain⟨⟨D,u2⟩,G,H,y,z,_⟩:=M.bind_some t
  obtain⟨B, -, -⟩:=M.tB z
  cases B
  obtain⟨a1,a2,a3⟩:=ug h1
  obtain⟨b1,b2,k,l⟩:=zG y
  refine⟨λx a=>?_,λx a=>?_,by simp [k],?_⟩
  ·rcases List.mem_append.1 a with a|a
   ·exact a1 x a
   ·exact b1 x a
  ·rcases List.mem_append.1 a with a|a
   ·exact a2 x a
   ·exact b2 x a
  ·intro S loc S' hs j i q C v hc hp g
   cases i with
   |zero=>
    simp only [List.getElem?_cons_zero,Option.some.injEq]at hc hp
    subst hc;subst hp
    exact a3 S loc S' v g hs λx a=>j x (List.mem_append.2 (.inl a))
   |succ i=>
    simp only [List.getElem?_cons_succ]at hc hp
    exact l S loc S' hs (λx a=>j x (List.mem_append.2 (.inr a))) i q C v hc hp g
theorem DD{v:RV}(h:isNils v=true):v= .tC:=by cases v<;>first|rfl|cases h
theorem CU{mt:Bool}{cs:List RV}{b:tY}{f:List PD}{u:Ups}{r:List Nat}(h:zo mt cs b=some ((f,u),r,true)):
  wR u∧(∀x∈u,∃ver e es,b x.1=some (.arr ver e es))∧f.length=cs.length∧
  ∀S loc S',Sub S S'->(∀x∈u,Frz b S loc S' x.1)->
   ∀(i:Nat)c p v,cs[i]? =some c->f[i]? =some p->R S loc c v->V S' p v:=by
 unfold zo at h
 split at h
 ·rename_i hc
  simp only [AZ,Bool.and_eq_true]at hc
  obtain⟨h1, -, -⟩:=M.tB h
  cases h1
  refine⟨(λx a=>by cases a),(λx a=>by cases a),zb,λS loc S' _ _ i c p v h1 g j=>?_⟩
  have:=DD (List.all_eq_true.1 hc.2.2 c (List.mem_of_getElem? h1))
  subst this
  rw [List.getElem?_map,h1]at g
  cases g
  cases j
  exact .raw _ rfl
 ·exact zG h
theorem yU{rv:RV}{b:tY}{p:PD}{u:Ups}{r:List Nat}(h:wv rv b=some ((p,u),r,true)):
  wR u∧(∀x∈u,∃ver e es,b x.1=some (.arr ver e es))∧
  ∀S loc S' v,R S loc rv v->Sub S S'->(∀x∈u,Frz b S loc S' x.1)->V S' p v:=by
 cases rv with
 |agg cs=>
  unfold wv at h
  obtain⟨⟨y,u1⟩,z,B,h1,j,_⟩:=M.bind_some h
  obtain⟨k, -, -⟩:=M.tB j
  cases k
  obtain⟨a1,a2,a3,a4⟩:=zG h1
  refine⟨a1,a2,λS loc S' v l hs t=>?_⟩
  obtain⟨vs,rfl,hlen,hc⟩:=l.yN
  refine .agg y vs (by rw [hlen,a3]) λi p v hp g=>?_
  have hi:i<cs.length:=by rw [<-a3];exact(List.getElem?_eq_some_iff.1 hp).1
  exact a4 S loc S' hs t i cs[i] p v (ze hi) hp (hc i _ v (ze hi) g)
 |d q=>exact ug h
 |tC=>exact ug h
 |ref id ver=>exact ug h
 |undef=>exact ug h
 |junk=>exact ug h
 |tup cs=>exact ug h
 |ptr a c=>exact ug h
 |elt a c d f=>exact ug h
 |cptr a=>exact ug h
 |view a c d f=>exact ug h
 |clo a c=>exact ug h
 |err _=>exact ug h
 |ifc _ _=>exact ug h
 |plit _=>exact ug h
 |pcp _=>exact ug h
end
end Go.Dw
