
import Derived.Test.YtgiepghgloiinaaGreatDoorDwAddr
open Nat renaming le_refl->AB, le_trans->AO, lt_of_lt_of_le->AP

namespace Go.Dw
theorem kb.trans{a b c:kH}(h:kb a b)(g:kb b c):kb a c:=by
 intro id L l
 obtain⟨f,h1,i⟩:=h id L l
 obtain⟨e,j,k⟩:=g id f h1
 exact⟨e,j,i.trans k⟩
def upd{α:Type}(f:Nat->Option α)(id:Nat)(x:α):Nat->Option α:=fun i=>if i=id then some x else f i
theorem jQ{α:Type}(f:Nat->Option α)(id:Nat)(x:α):upd f id x id=some x:=by simp [upd]
theorem j8{α:Type}(f:Nat->Option α){id i:Nat}(x:α)(h:i≠id):upd f id x i=f i:=by simp [upd,h]
def j3(o:Option Loc)(a:Loc):Prop:=
 match o with
 |none=>True
 |some L=>mw L a
theorem j3.trans{a b c:Loc}(h:j3 (some a) b)(e:j3 (some b) c):j3 (some a) c:=mw.trans h e
theorem kb.upd{loc:kH}{id:Nat}{a:Loc}(h:j3 (loc id) a):kb loc (upd loc id a):=by
 intro i L b
 by_cases hi:i=id
 ·subst hi
  rw [b]at h
  exact⟨a,jQ _ _ _,h⟩
 ·exact⟨L,by rw [j8 _ _ hi];exact b,.same L⟩
structure Step(chg:Option Nat)(w w':World):Prop where
 os:w'.os=w.os
 tape:w'.tape=w.tape
 output:w'.output=w.output
 size:w.heap.size<=w'.heap.size
 block:∀b,b<w.heap.size->some b≠chg->w'.heap[b]? =w.heap[b]?
 drawn:w.drawn<=w'.drawn
theorem Step.refl(a:Option Nat)(w:World):Step a w w:=⟨rfl,rfl,rfl,AB _,fun _ _ _=>rfl,AB _⟩
theorem Step.alloc(w:World)(o:Obj):Step none w (w.alloc o):=⟨rfl,rfl,rfl,sm,fun b hb _=>heap_alloc_old w o b hb,AB _⟩
theorem Step.trans{e:Option Nat}{a b c:World}(h:Step e a b)(f:Step e b c):Step e a c:=
 ⟨f.os.trans h.os, f.tape.trans h.tape, f.output.trans h.output, AO h.size f.size,
  fun x i g=>(f.block x (AP i h.size) g).trans (h.block x i g),AO h.drawn f.drawn⟩
theorem Step.drew(w:World):Step none w w.drew:=⟨rfl,rfl,rfl,AB _,fun _ _ _=>rfl,Nat.le_succ _⟩
theorem Step.setRow(w:World)(g:Nat)(cs:Array Value):Step (some g) w (w.setRow g cs):=
 ⟨rfl,rfl,rfl,sm,fun b _ a=>setRow_other w g b cs (fun e=>a (by rw [e])),AB _⟩
theorem Step.mono{a:Option Nat}{w w':World}(h:Step none w w'):Step a w w':=⟨h.os,h.tape,h.output,h.size,fun b hb _=>h.block b hb sm,h.drawn⟩
theorem Frame.step{E:Prop}{B0:List Nat}{w0 w w':World}{c:Option Nat}(h:Frame E B0 w0 w)(a:Step c w w')(hc:∀b,c=some b->b∈B0∨w0.heap.size<=b):Frame E B0 w0 w':=
 ⟨a.os.trans h.os, a.tape.trans h.tape, a.output.trans h.output, AO h.size a.size, fun b hb e => by
  rw [a.block b (AP hb h.size) ?_]
  ·exact h.block b hb e
  ·intro he
   rcases hc b he.symm with h1|h1
   ·exact e h1
   ·omega,fun he=>AO (h.drawn he) a.drawn⟩
section
variable {P:Program}{X:Ctx}{S:kd}{loc:kH}{s:St}{tm:Array Value}{w:World}
theorem mu.mY{f:Box}{L:Loc}{b:Nat}(h:mu P S loc w f L)(hb:L.has b):b<w.heap.size:=by
 cases h with
 |var cs b' t vs hw hl hc=>cases hb;exact(Array.getElem?_eq_some_iff.1 hw).1
 |arr ver e es sz hdr xs hsz how hf=>exact how.lt hb
 |dead L g=>subst g;cases hb
 |map j k es b' clock ents hw hl hc=>cases hb;exact(Array.getElem?_eq_some_iff.1 hw).1
 |nest ver e e2 ess l hdr xs bs hsz c how hc a hi=>
  rcases List.mem_append.1 hb with hb|hb
  ·exact how.lt (by simpa using hb)
  ·exact hc.lt b hb
 |mapn j k e2 es nf b' ents bs c hw hl hk hc a hi=>
  rcases List.mem_cons.1 hb with rfl|hb
  ·exact(Array.getElem?_eq_some_iff.1 hw).1
  ·exact hc.lt b hb
 |hole ver e es i o rv sz hdr xs u hsz how hf hi ho hu m=>exact how.lt hb
 |deep _ _ _ _ _ _ _ _ _ _ _ _ hd=>exact hd.lt hb
theorem mu.fN{S S':kd}{loc':kH}{w':World}{r:Box}{L:Loc}(h:mu P S loc w r L)(a:Sub S S')(hl:kb loc loc')(hb:∀b,L.has b->w'.heap[b]? =w.heap[b]?):
  mu P S' loc' w' r L:=by
 cases h with
 |var cs b t vs hw hlen hc=>exact .var cs b t vs (by rw [hb b rfl];exact hw) hlen (fun i c v h1 f=>(hc i c v h1 f).mono a hl)
 |arr ver e es sz hdr xs hsz how hf=>exact .arr ver e es sz hdr xs hsz (how.fN hb) (hf.mono a)
 |dead L y=>exact .dead L y
 |map p q es b clock ents hw hlen hc=>exact .map p q es b clock ents (by rw [hb b rfl];exact hw) hlen (fun i k x m h1 f=>⟨(hc i k x m h1 f).1.mono a,(hc i k x m h1 f).2.mono a⟩)
 |nest ver e e2 ess z hdr xs bs hsz l how hc j hi=>
  exact .nest ver e e2 ess z hdr xs bs hsz l (how.fN fun b g=>hb b (List.mem_append.2 (.inl (by simpa using g)))) (hc.fN a hl fun b g=>hb b (List.mem_append.2 (.inr g))) j hi
 |mapn p q e2 es nf b ents bs l hw hlen hk hc j hi=>
  exact .mapn p q e2 es nf b ents bs l (by rw [hb b (List.mem_cons_self ..)];exact hw) hlen (fun i k x m h1 f=>⟨(hk i k x m h1 f).1.mono a,(hk i k x m h1 f).2⟩) (hc.fN a hl fun c n=>hb c (List.mem_cons.2 (.inr n))) j hi
 |hole ver e es i o rv sz hdr xs u hsz how hf hi ho hu B=>exact .hole ver e es i o rv sz hdr xs u hsz (how.fN hb) (hf.mono a) hi ho hu (B.mono a hl)
 |deep _ _ _ _ _ _ _ _ _ _ _ _ hd=>exact .deep _ _ _ _ _ _ _ _ _ _ _ _ (hd.fN a hl hb)
theorem mV{w w':World}{ad:Addr}(h:w'.heap[ad.block]? =w.heap[ad.block]?):w'.cell? ad=w.cell? ad:=by simp [World.cell?,h]
theorem Sim.kl(h:Sim P X S loc s tm w){w':World}{D:Option Nat}(F:Step D w w')(id:Nat)(p:Box)(m:Loc)
  (f:∀b,D=some b->∃L,loc id=some L∧L.has b)
  (E:mu P S (upd loc id m) w' p m)
  (hblk:∀b,m.has b->(∃L,loc id=some L∧L.has b)∨w.heap.size<=b∨((∀i L,loc i=some L->¬L.has b)∧(∀o,S ⟨b,o,none⟩=none)∧(b∈X.B0∨X.w0.heap.size<=b)))
  (z:j3 (loc id) m):
  Sim P X S (upd loc id m) { s with boxes:=upd s.boxes id p } tm w':=by
 have hle:kb loc (upd loc id m):=kb.upd z
 have u:∀l L,l≠id->loc l=some L->∀b,L.has b->w'.heap[b]? =w.heap[b]? :=by
  intro l L H a b hb
  obtain⟨C,r⟩:=h.dom l L a
  refine F.block b ((h.lE r a).mY hb) ?_
  intro hc
  obtain⟨n,h1,e⟩:=f b hc.symm
  exact H (h.inj l id L n b a h1 hb e)
 refine⟨h.nt,?_,?_,?_,?_,h.nA,?_,?_,?_,?_,h.s0,?_,h.oU,h.bs,fun x Q=>?_⟩
 rotate_right
 ·obtain⟨h1,o,v,e⟩:=h.ob x Q
  refine⟨?_,o,v,e⟩
  rw [<-h1]
  refine F.block _ (Array.getElem?_eq_some_iff.1 h1).1 fun hc=>?_
  obtain⟨L,N,O⟩:=f _ hc.symm
  have I:=h.mr id L x.1 N O o
  rw [h.bs _ _ e]at I
  cases I
 ·intro t rv ht
  obtain⟨v,h1,e⟩:=h.kr t rv ht
  exact⟨v,h1,e.mono (Sub.refl S) hle⟩
 ·intro i C hb
  by_cases hi:i=id
  ·subst hi
   simp only [jQ,Option.some.injEq]at hb
   subst hb
   exact⟨m,jQ _ _ _,E⟩
  ·simp only [j8 _ _ hi]at hb
   obtain⟨L,h1,e⟩:=h.boxes i C hb
   exact⟨L,by rw [j8 _ _ hi];exact h1,e.fN (Sub.refl S) hle (u i L hi h1)⟩
 ·intro i L a
  by_cases hi:i=id
  ·subst hi;exact⟨p,jQ _ _ _⟩
  ·rw [j8 _ _ hi]at a
   obtain⟨C,hb⟩:=h.dom i L a
   exact⟨C,by simp only [j8 _ _ hi];exact hb⟩
 ·intro ad v J
  have hc:=h.imm ad v J
  rw [<-hc]
  refine mV (F.block ad.block (World.block_lt_of_cell? w ad hc) ?_)
  intro he
  obtain⟨L,h1,e⟩:=f _ he.symm
  have y:ad.spot=none:=by
   unfold World.cell? at hc
   split at hc
   ·split at hc
    ·cases hc
    ·rename_i y;simpa using y
   ·cases hc
  have:=h.mr id L ad.block h1 e ad.off
  rw [<-y]at this
  rw [J]at this
  cases this
 ·intro i L b a hb o
  by_cases hi:i=id
  ·subst hi
   rw [jQ]at a
   cases a
   rcases hblk b hb with⟨n,h1,e⟩|c|⟨_,c,_⟩
   ·exact h.mr i n b h1 e o
   rotate_left
   ·exact c o
   ·cases hS:S ⟨b,o,none⟩with
    |none=>rfl
    |some v=>
     have:=World.block_lt_of_cell? w _ (h.imm _ v hS)
     simp at this
     omega
  ·rw [j8 _ _ hi]at a
   exact h.mr i L b a hb o
 ·intro i j L n b a g hb q
  have key:∀i L,i≠id->loc i=some L->L.has b->m.has b->False:=by
   intro i L hi a hb G
   obtain⟨C,r⟩:=h.dom i L a
   rcases hblk b G with⟨K,h1,e⟩|c|⟨c,_,_⟩
   ·exact hi (h.inj i id L K b a h1 hb e)
   rotate_left
   ·exact c i L a hb
   ·have:=(h.lE r a).mY hb
    omega
  by_cases hi:i=id
  ·by_cases B:j=id
   ·rw [hi,B]
   ·subst hi
    rw [jQ]at a
    cases a
    rw [j8 _ _ B]at g
    exact(key j n B g q hb).elim
  ·by_cases B:j=id
   ·subst B
    rw [jQ]at g
    cases g
    rw [j8 _ _ hi]at a
    exact(key i L hi a hb q).elim
   ·rw [j8 _ _ hi]at a
    rw [j8 _ _ B]at g
    exact h.inj i j L n b a g hb q
 ·intro i L b a hb
  by_cases hi:i=id
  ·subst hi
   rw [jQ]at a
   cases a
   rcases hblk b hb with⟨n,h1,e⟩|c|⟨_,_,c⟩
   ·exact h.own i n b h1 e
   ·exact .inr (AO h.frame.size c)
   ·exact c
  ·rw [j8 _ _ hi]at a
   exact h.own i L b a hb
 ·refine h.frame.step F fun b hb=>?_
  obtain⟨L,h1,e⟩:=f b hb
  exact h.own id L b h1 e
 ·intro k b hk
  by_cases hi:k=id
  ·subst hi
   refine⟨m,jQ _ _ _,?_⟩
   obtain⟨L,a,h1⟩:=h.par k b hk
   rw [a]at z
   exact j3.trans h1 z
  ·rw [j8 _ _ hi];exact h.par k b hk
theorem Sim.stepW(h:Sim P X S loc s tm w){w':World}(a:Step none w w'):Sim P X S loc s tm w':=by
 refine⟨h.nt,h.kr,?_,h.dom,?_,h.nA,h.mr,h.inj,h.own,h.frame.step a (fun b hb=>by cases hb),h.s0,h.par,h.oU,h.bs,fun x c=>⟨by rw [<-(h.ob x c).1];exact a.block _ (Array.getElem?_eq_some_iff.1 (h.ob x c).1).1 sm,(h.ob x c).2⟩⟩
 ·intro i f hb
  obtain⟨L,h1,e⟩:=h.boxes i f hb
  exact⟨L,h1,e.fN (Sub.refl S) (kb.refl loc) (fun b hb=>a.block b (e.mY hb) sm)⟩
 ·intro ad v g
  have hc:=h.imm ad v g
  rw [<-hc]
  exact mV (a.block ad.block (World.block_lt_of_cell? w ad hc) sm)
theorem Sim.grow(h:Sim P X S loc s tm w){S':kd}(c:Sub S S')(hi:∀ad v,S' ad=some v->S ad=some v∨(w.cell? ad=some v∧v.oneCell'=true∧(∀id L,loc id=some L->¬L.has ad.block)∧(X.w0.heap.size<=ad.block∨ad.block∈X.B0))):
  Sim P X S' loc s tm w:=by
 refine⟨h.nt,fun t rv ht=>let⟨v,h1,e⟩:=h.kr t rv ht;⟨v,h1,e.mono c (kb.refl loc)⟩,?_,h.dom,?_,?_,?_,h.inj,h.own,h.frame,h.s0.trans c,h.par,?_,h.bs.trans c,h.ob⟩
 ·intro i g hb
  obtain⟨L,h1,e⟩:=h.boxes i g hb
  exact⟨L,h1,e.fN c (kb.refl loc) (fun _ _=>rfl)⟩
 ·intro ad v a
  rcases hi ad v a with h1|⟨h1,_,_⟩
  ·exact h.imm ad v h1
  ·exact h1
 ·intro ad v a
  rcases hi ad v a with h1|⟨_,h1,_⟩
  ·exact h.nA ad v h1
  ·exact h1
 ·intro id L b f hb o
  cases hS:S' ⟨b,o,none⟩with
  |none=>rfl
  |some v=>
   rcases hi _ v hS with h1|⟨_,_,h1,_⟩
   ·have:=h.mr id L b f hb o
    rw [h1]at this
    cases this
   ·exact(h1 id L f hb).elim
 ·intro ad v a
  rcases hi ad v a with h1|⟨_,_,_,h1⟩
  ·exact h.oU ad v h1
  ·exact .inr h1
noncomputable def k7 (S:kd) (g:Nat) (xs:List Value):kd:=fun ad=>
 match S ad with
 |some v=>some v
 |none=>if ad.block=g∧ad.spot=none then xs[ad.off]? else none
theorem lx(S:kd)(g:Nat)(xs:List Value):Sub S (k7 S g xs):=fun ad v h=>by simp [k7,h]
theorem mL{S:kd}{g:Nat}{xs:List Value}(hS:∀o,S ⟨g,o,none⟩=none){j:Nat}{v:Value}(h:xs[j]? =some v):k7 S g xs ⟨g,j,none⟩=some v:=by
 simp [k7,hS,h]
theorem Sim.nO(h:Sim P X S loc s tm w)(g:Nat)(xs:List Value)(hc:∀j v,xs[j]? =some v->w.cell? ⟨g,j,none⟩=some v)(h1:∀v∈xs,v.oneCell'=true)(f:∀id L,loc id=some L->¬L.has g)(e:X.w0.heap.size<=g∨g∈X.B0):
  Sim P X (k7 S g xs) loc s tm w:=by
 refine h.grow (lx S g xs) fun ad v a=>?_
 unfold k7 at a
 split at a
 ·rename_i v' c
  exact .inl (by rw [c];exact a)
 ·split at a
  ·rename_i hb
   obtain⟨hb,b⟩:=hb
   refine .inr ⟨?_,h1 v (List.mem_of_getElem? a),?_,by rw [hb];exact e⟩
   ·have:=hc ad.off v a
    rw [<-hb, <-b]at this
    exact this
   ·rw [hb];exact f
  ·cases a
def Frz(b:kE)(S:kd)(loc:kH)(S':kd)(id:Nat):Prop:=
 ∀ver e es,b id=some (.arr ver e es)->(∀v,R S loc (.ref id ver) v->V S' (.lst es) v)∧
  ∀a hi v,a<=hi->hi<=es.length->R S loc (.view id ver a hi) v->V S' (.lst ((es.drop a).take (hi-a))) v
theorem Frz.mono{b:kE}{S S' a:kd}{loc:kH}{id:Nat}(h:Frz b S loc S' id)(f:Sub S' a):Frz b S loc a id:=
 fun ver e es hb=>⟨fun v c=>((h ver e es hb).1 v c).mono f,fun i hi v h1 g c=>((h ver e es hb).2 i hi v h1 g c).mono f⟩
theorem Sim.qo(h:Sim P X S loc s tm w){id ver:Nat}{e:TypeId}{es:List PD}(hb:s.boxes id=some (.arr ver e es)):
  ∃S',Sim P X S' (upd loc id .dead) { s with boxes:=upd s.boxes id .dead } tm w∧Sub S S'∧kb loc (upd loc id .dead)∧Frz s.boxes S loc S' id:=by
 obtain⟨L,E,T⟩:=h.boxes id _ hb
 have D:j3 (loc id) .dead:=by rw [E];exact .dead _
 have h1:=h.kl (Step.refl none w) id .dead .dead (fun b hc=>by cases hc) (.dead _ rfl) (fun b hc=>by cases hc) D
 cases T with
 |arr _ _ _ sz hdr xs hsz how hf=>
  have q:∀{f hi v},R S loc (.view id ver f hi) v->((f=hi∧∃a,v= .slice a 0 0)∨∃g n c,hdr= .slice (some ⟨g,0,none⟩) n c∧f<=hi∧hi<=c∧v= .slice (some ⟨g,f*sz,none⟩) (hi-f) (c-f)):=by
   intro f hi v p
   cases p with
   |view _ _ _ _ _ L _ k N=>
    rw [E]at k
    cases k
    exact(N ver e sz _ .arr).2 rfl
  have y:∀{v},R S loc (.ref id ver) v->v=hdr:=by
   intro v p
   cases p with
   |ref _ _ _ L _ k N=>
    rw [E]at k
    cases k
    exact(N ver e sz _ .arr).2 rfl
  by_cases I:es=[]
  ·subst I
   refine⟨S,h1,Sub.refl S,kb.upd D,fun O e' Q l=>?_⟩
   rw [hb]at l
   cases l
   refine⟨fun v p=>?_,fun f hi v h2 r p=>?_⟩
   ·obtain⟨a,c,rfl,_⟩:=how.hdr
    rw [y p]
    exact .nil _ _
   ·simp only [List.length_nil,Nat.le_zero]at r
    subst r
    have:f=0:=by omega
    subst this
    rcases q p with⟨_,a,rfl⟩|⟨g,n,c,rfl,_,_,rfl⟩
    ·exact .nil _ _
    ·exact .nil _ _
  have K:0<es.length:=by cases es with|nil=>exact(I rfl).elim|cons=>simp
  have J:=how.nm K
  have how:=J
  rcases how.2 with⟨rfl,h0⟩|⟨g,cap,cur,fz,rfl,a9,hg,b2,a4,a5,Y⟩
  ·omega
  ·have B:=how.cells (g:=g) rfl
   have m:ku (.slice (some ⟨g,0,none⟩) es.length cap)=some g:=by cases cap with|zero=>omega|succ c=>rfl
   have W:∀i L,upd loc id Loc.dead i=some L->¬L.has g:=by
    intro i L hi H
    by_cases hid:i=id
    ·subst hid;rw [jQ]at hi;cases hi;cases H
    ·rw [j8 _ _ hid]at hi
     exact hid (h.inj i id L _ g hi E H m)
   have U:X.w0.heap.size<=g∨g∈X.B0:=(h.own id _ g E m).symm
   have h2:=h1.nO g xs (fun j v hj=>by have:=B j v hj;rw [kS]at this;simpa using this) hf.one W U
   have C:∀o,S ⟨g,o,none⟩=none:=fun o=>h.mr id _ g E m o
   have z:∀f hi,f<=hi->hi<=es.length->V (k7 S g xs) (.lst ((es.drop f).take (hi-f))) (.slice (some ⟨g,f*sz,none⟩) (hi-f) (cap-f)):=by
    intro f hi b1 b0
    have hlen:((es.drop f).take (hi-f)).length=hi-f:=by rw [List.length_take,List.length_drop];omega
    have t:∀(i:Nat)x,((es.drop f).take (hi-f))[i]? =some x->es[f+i]? =some x:=by
     intro i x F
     rw [List.getElem?_take]at F
     split at F
     ·rwa [List.getElem?_drop]at F
     ·cases F
    have:=V.lst (S:=k7 S g xs) ((es.drop f).take (hi-f)) g (f*sz) (cap-f) sz (fun i j=>xs.getD ((f+i)*sz+j) default) om
     (fun x F=>hf.len x (List.mem_of_mem_drop (List.mem_of_mem_take F)))
     (fun i e j x r G => by
      obtain⟨u,hu,_⟩:=hf.cell (f+i) e j x (t i e r) G
      have ha:f*sz+i*sz+j=(f+i)*sz+j:=by rw [Nat.add_mul]
      rw [ha,mL C hu]
      simp [hu])
     (fun i e j x r G => by
      obtain⟨u,hu,N⟩:=hf.cell (f+i) e j x (t i e r) G
      simpa [hu]using N.mono (lx S g xs))
    rw [hlen]at this
    exact this
   refine⟨_,h2,lx S g xs,kb.upd D,fun O e' Q l=>?_⟩
   rw [hb]at l
   cases l
   refine⟨fun v p=>?_,fun f hi v r G p=>?_⟩
   ·rw [y p]
    have:=z 0 es.length (Nat.zero_le _) (AB _)
    simpa using this
   ·rcases q p with⟨rfl,a,rfl⟩|⟨g',n,c,he,_,_,rfl⟩
    ·rw [Nat.sub_self];exact .nil _ _
    ·cases he
     exact z f hi r G
def nq(u:Ups):Prop:=∀x∈u,x.2= .dead
theorem lI(s:St)(id:Nat)(b:Box)(r:Ups):s.ups ((id,b)::r)=({ s with boxes:=upd s.boxes id b }:St).ups r:=rfl
theorem mU:∀(u a:Ups)(s:St),s.ups (u++a)=(s.ups u).ups a
 | [],_,_=>rfl
 |(id,b)::r,a,s=>by rw [List.cons_append,lI,lI,mU r a]
theorem me:∀(u:Ups)(s:St),(s.ups u).kr=s.kr
 | [],_=>rfl
 |(id,b)::r,s=>by rw [lI,me r]
theorem Sim.oq:∀(u:Ups){S:kd}{loc:kH}{s:St},Sim P X S loc s tm w->nq u->(∀x∈u,(∃ver e es,s.boxes x.1=some (.arr ver e es))∨s.boxes x.1=some .dead)->
  ∃S' loc',Sim P X S' loc' (s.ups u) tm w∧Sub S S'∧kb loc loc'∧
   ∀x∈u,Frz s.boxes S loc S' x.1
 | [],S,loc,s,h,_,_=>⟨S,loc,h,Sub.refl S,kb.refl loc,fun x c=>by cases c⟩
 |(id,b)::r,S,loc,s,h,hd,hb=>by
  have z:b= .dead:=hd (id,b) sm
  subst z
  have hdr:nq r:=fun x c=>hd x (by simp [c])
  rw [lI]
  rcases hb (id,.dead) sm with⟨ver,e,es,g⟩|g
  ·obtain⟨H,h1,o,m,C⟩:=h.qo g
   obtain ⟨t, j, y, k, n, p⟩ := Sim.oq r h1 hdr (fun x c => by
    by_cases f:x.1=id
    ·right;simp only [f,jQ]
    ·simp only [j8 _ _ f];exact hb x (by simp [c]))
   refine⟨t,j,y,o.trans k,m.trans n,?_⟩
   intro x c
   by_cases f:x.1=id
   ·rw [f]
    exact C.mono k
   ·rcases List.mem_cons.1 c with rfl|c
    ·exact(f rfl).elim
    ·intro l D q a
     have:=p x c l D q (by simp only [j8 _ _ f];exact a)
     exact⟨fun v B=>this.1 v (B.mono o m),fun G hi v E F B=>this.2 G hi v E F (B.mono o m)⟩
  ·have heq:({ s with boxes:=upd s.boxes id .dead }:St)=s:=by
    have:upd s.boxes id .dead=s.boxes:=by
     funext i
     by_cases hi:i=id
     ·subst hi;rw [jQ];exact g.symm
     ·rw [j8 _ _ hi]
    rw [this]
   rw [heq]
   obtain⟨t,j,y,k,n,p⟩:=Sim.oq r h hdr (fun x c=>hb x (by simp [c]))
   refine⟨t,j,y,k,n,?_⟩
   intro x c
   rcases List.mem_cons.1 c with rfl|c
   ·intro l D q a
    simp only at g a
    rw [g]at a
    cases a
   ·exact p x c
theorem kA{rv:RV}{b:kE}{p:PD}{u:Ups}{r:List Nat}(h:qA rv b=some ((p,u),r,true)):
  nq u∧(∀x∈u,∃ver e es,b x.1=some (.arr ver e es))∧
  ∀S loc S' v,R S loc rv v->Sub S S'->(∀x∈u,Frz b S loc S' x.1)->V S' p v:=by
 cases rv with
 |d q=>
  obtain⟨h1, -, -⟩:=M.jv (b:=b) h
  cases h1
  refine⟨(fun x j=>by cases j),(fun x j=>by cases j),fun S loc S' v l m _=>?_⟩
  cases l with|d h=>exact h.mono m
 |jt=>
  obtain⟨h1, -, -⟩:=M.jv (b:=b) h
  cases h1
  refine⟨(fun x j=>by cases j),(fun x j=>by cases j),fun S loc S' v l m _=>?_⟩
  cases l with|jt=>exact .nil none 0
 |ref id ver=>
  obtain⟨n,C,D,h1,g,_⟩:=M.bind_some h
  obtain⟨hb,_,_⟩:=M.get_some h1
  cases n with
  |arr k e es=>
   by_cases i:ver=k
   rotate_left
   ·simp only [i,if_false]at g;exact fE b g
   simp only [i,if_true]at g
   subst i
   obtain⟨o, -, -⟩:=M.jv g
   cases o
   refine⟨(fun x j=>by simp at j;rw [j]),(fun x j=>by simp at j;subst j;exact⟨ver,e,es,hb⟩),fun S loc S' v l m t=>?_⟩
   exact(t (id,.dead) sm ver e es hb).1 v l
  |var _=>exact fE b g
  |dead=>exact fE b g
  |map _ _ _=>exact fE b g
  |nest _ _ _ _ _=>exact fE b g
  |mapn _ _ _ _ _=>exact fE b g
  |hole _ _ _ _ _ _=>exact fE b g
  |deep _ _ _ _ _ _ _=>exact fE b g
 |undef=>exact fE b h
 |junk=>exact fE b h
 |agg cs=>exact fE b h
 |tup cs=>exact fE b h
 |ptr a c=>exact fE b h
 |elt a c d f=>exact fE b h
 |cptr a=>exact fE b h
 |view id ver z hi=>
  obtain⟨n,C,D,h1,g,_⟩:=M.bind_some h
  obtain⟨hb,_,_⟩:=M.get_some h1
  cases n with
  |arr k e es=>
   by_cases i:ver=k
   rotate_left
   ·simp only [i,if_false]at g;exact fE b g
   simp only [i,if_true]at g
   subst i
   obtain⟨o, -,B⟩:=M.j0 g
   cases o
   have y:z<=hi∧hi<=es.length:=of_decide_eq_true B.symm
   refine⟨(fun x j=>by simp at j;rw [j]),(fun x j=>by simp at j;subst j;exact⟨ver,e,es,hb⟩),fun S loc S' v l m t=>?_⟩
   exact(t (id,.dead) sm ver e es hb).2 z hi v y.1 y.2 l
  |var _=>exact fE b g
  |dead=>exact fE b g
  |map _ _ _=>exact fE b g
  |nest _ _ _ _ _=>exact fE b g
  |mapn _ _ _ _ _=>exact fE b g
  |hole _ _ _ _ _ _=>exact fE b g
  |deep _ _ _ _ _ _ _=>exact fE b g
 |clo a c=>exact fE b h
 |fview _ _ _=>exact fE b h
 |err _=>exact fE b h
 |dfull _=>exact fE b h
 |ifc _ _=>exact fE b h
 |plit _=>exact fE b h
 |rlit _=>exact fE b h
 |pcp _=>exact fE b h
theorem qa:∀{cs:List RV}{b:kE}{f:List PD}{u:Ups}{r:List Nat},nT cs b=some ((f,u),r,true)->
  nq u∧(∀x∈u,∃ver e es,b x.1=some (.arr ver e es))∧f.length=cs.length∧
  ∀S loc S',Sub S S'->(∀x∈u,Frz b S loc S' x.1)->
   ∀(i:Nat)c p v,cs[i]? =some c->f[i]? =some p->R S loc c v->V S' p v
 | [],b,f,u,r,h=>by
  obtain⟨h1, -, -⟩:=M.jv h
  cases h1
  exact⟨(fun x a=>by cases a),(fun x a=>by cases a),rfl,fun S loc S' _ _ i c p v h1=>by simp at h1⟩
 |c::cs,b,f,u,r,h=>by
  obtain⟨⟨p,u1⟩,F,G,h1,y,_⟩:=M.bind_some h
  obtain⟨⟨E,u2⟩,H,I,z,B,_⟩:=M.bind_some y
  obtain⟨C, -, -⟩:=M.jv B
  cases C
  obtain⟨a1,a2,a3⟩:=kA h1
  obtain⟨m,n,o,q⟩:=qa z
  refine⟨fun x a=>?_,fun x a=>?_,by simp [o],?_⟩
  ·rcases List.mem_append.1 a with a|a
   ·exact a1 x a
   ·exact m x a
  ·rcases List.mem_append.1 a with a|a
   ·exact a2 x a
   ·exact n x a
  ·intro S loc S' k l i t D v hc g j
   cases i with
   |zero=>
    simp only [List.getElem?_cons_zero,Option.some.injEq]at hc g
    subst hc;subst g
    exact a3 S loc S' v j k fun x a=>l x (List.mem_append.2 (.inl a))
   |succ i=>
    simp only [List.getElem?_cons_succ]at hc g
    exact q S loc S' k (fun x a=>l x (List.mem_append.2 (.inr a))) i t D v hc g j
theorem wT{v:RV}(h:isNils v=true):v= .jt:=by cases v<;>first|rfl|cases h
theorem vV{mt:Bool}{cs:List RV}{b:kE}{f:List PD}{u:Ups}{r:List Nat}(h:pT mt cs b=some ((f,u),r,true)):
  nq u∧(∀x∈u,∃ver e es,b x.1=some (.arr ver e es))∧f.length=cs.length∧
  ∀S loc S',Sub S S'->(∀x∈u,Frz b S loc S' x.1)->
   ∀(i:Nat)c p v,cs[i]? =some c->f[i]? =some p->R S loc c v->V S' p v:=by
 unfold pT at h
 split at h
 ·rename_i hc
  simp only [sd,Bool.and_eq_true]at hc
  obtain⟨h1, -, -⟩:=M.jv h
  cases h1
  refine⟨(fun x a=>by cases a),(fun x a=>by cases a),sm,fun S loc S' _ _ i c p v h1 g j=>?_⟩
  have:=wT (List.all_eq_true.1 hc.2.2 c (List.mem_of_getElem? h1))
  subst this
  rw [List.getElem?_map,h1]at g
  cases g
  cases j
  exact .raw _ rfl
 ·exact qa h
theorem oh{rv:RV}{b:kE}{p:PD}{u:Ups}{r:List Nat}(h:ni rv b=some ((p,u),r,true)):
  nq u∧(∀x∈u,∃ver e es,b x.1=some (.arr ver e es))∧
  ∀S loc S' v,R S loc rv v->Sub S S'->(∀x∈u,Frz b S loc S' x.1)->V S' p v:=by
 cases rv with
 |agg cs=>
  unfold ni at h
  obtain⟨⟨t,u1⟩,y,z,h1,k,_⟩:=M.bind_some h
  obtain⟨l, -, -⟩:=M.jv k
  cases l
  obtain⟨a1,a2,a3,a4⟩:=qa h1
  refine⟨a1,a2,fun S loc S' v m n o=>?_⟩
  obtain⟨vs,rfl,hlen,hc⟩:=m.pj
  refine .agg t vs (by rw [hlen,a3]) fun i p v j g=>?_
  have hi:i<cs.length:=by rw [<-a3];exact(List.getElem?_eq_some_iff.1 j).1
  exact a4 S loc S' n o i cs[i] p v (zc hi) j (hc i _ v (zc hi) g)
 |d q=>exact kA h
 |jt=>exact kA h
 |ref id ver=>exact kA h
 |undef=>exact kA h
 |junk=>exact kA h
 |tup cs=>exact kA h
 |ptr a c=>exact kA h
 |elt a c d f=>exact kA h
 |cptr a=>exact kA h
 |view a c d f=>exact kA h
 |clo a c=>exact kA h
 |fview _ _ _=>exact kA h
 |err _=>exact kA h
 |dfull _=>exact kA h
 |ifc _ _=>exact kA h
 |plit _=>exact kA h
 |rlit _=>exact kA h
 |pcp _=>exact kA h
end
end Go.Dw
