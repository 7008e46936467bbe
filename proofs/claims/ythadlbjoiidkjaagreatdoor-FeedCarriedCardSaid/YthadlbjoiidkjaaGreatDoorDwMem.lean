
import Derived.Test.YthadlbjoiidkjaaGreatDoorDwAddr

namespace Go.Dw
theorem qa.trans{a b c:qe}(h:qa a b)(h':qa b c):qa a c:=by
 intro id L hL
 obtain⟨L',h1,h2⟩:=h id L hL
 obtain⟨L'',h3,h4⟩:=h' id L' h1
 exact⟨L'',h3,h2.trans h4⟩
def upd{α:Type}(f:Nat->Option α)(id:Nat)(x:α):Nat->Option α:=fun i=>if i=id then some x else f i
theorem pW{α:Type}(f:Nat->Option α)(id:Nat)(x:α):upd f id x id=some x:=by simp [upd]
theorem qJ{α:Type}(f:Nat->Option α){id i:Nat}(x:α)(h:i≠id):upd f id x i=f i:=by simp [upd,h]
def qp(o:Option Loc)(L':Loc):Prop:=
 match o with
 |none=>True
 |some L=>ud L L'
theorem qp.trans{L0 L1 L2:Loc}(h:qp (some L0) L1)(h':qp (some L1) L2):qp (some L0) L2:=ud.trans h h'
theorem qa.upd{loc:qe}{id:Nat}{L':Loc}(h:qp (loc id) L'):qa loc (upd loc id L'):=by
 intro i L hL
 by_cases hi:i=id
 ·subst hi
  rw [hL]at h
  exact⟨L',pW _ _ _,h⟩
 ·exact⟨L,by rw [qJ _ _ hi];exact hL,.same L⟩
structure Step(chg:Option Nat)(w w':World):Prop where
 os:w'.os=w.os
 tape:w'.tape=w.tape
 output:w'.output=w.output
 size:w.heap.size<=w'.heap.size
 block:∀b,b<w.heap.size->some b≠chg->w'.heap[b]? =w.heap[b]?
 drawn:w.drawn<=w'.drawn
theorem Step.refl(chg:Option Nat)(w:World):Step chg w w:=⟨rfl,rfl,rfl,Nat.le_refl _,fun _ _ _=>rfl,Nat.le_refl _⟩
theorem Step.alloc(w:World)(o:Obj):Step none w (w.alloc o):=⟨rfl,rfl,rfl,sm,fun b hb _=>heap_alloc_old w o b hb,Nat.le_refl _⟩
theorem Step.trans{chg:Option Nat}{a b c:World}(h:Step chg a b)(h':Step chg b c):Step chg a c:=
 ⟨h'.os.trans h.os, h'.tape.trans h.tape, h'.output.trans h.output, Nat.le_trans h.size h'.size,
  fun x hx hn=>(h'.block x (Nat.lt_of_lt_of_le hx h.size) hn).trans (h.block x hx hn),Nat.le_trans h.drawn h'.drawn⟩
theorem Step.drew(w:World):Step none w w.drew:=⟨rfl,rfl,rfl,Nat.le_refl _,fun _ _ _=>rfl,Nat.le_succ _⟩
theorem Step.setRow(w:World)(g:Nat)(cs:Array Value):Step (some g) w (w.setRow g cs):=
 ⟨rfl,rfl,rfl,sm,fun b _ hn=>setRow_other w g b cs (fun e=>hn (by rw [e])),Nat.le_refl _⟩
theorem Step.mono{chg:Option Nat}{w w':World}(h:Step none w w'):Step chg w w':=⟨h.os,h.tape,h.output,h.size,fun b hb _=>h.block b hb sm,h.drawn⟩
theorem Frame.step{E:Prop}{B0:List Nat}{w0 w w':World}{chg:Option Nat}(h:Frame E B0 w0 w)(hs:Step chg w w')(hc:∀b,chg=some b->b∈B0∨w0.heap.size<=b):Frame E B0 w0 w':=
 ⟨hs.os.trans h.os, hs.tape.trans h.tape, hs.output.trans h.output, Nat.le_trans h.size hs.size, fun b hb hn => by
  rw [hs.block b (Nat.lt_of_lt_of_le hb h.size) ?_]
  ·exact h.block b hb hn
  ·intro he
   rcases hc b he.symm with h1|h1
   ·exact hn h1
   ·omega,fun he=>Nat.le_trans (h.drawn he) hs.drawn⟩
section
variable {P:Program}{X:Ctx}{S:pR}{loc:qe}{s:St}{tm:Array Value}{w:World}
theorem tU.sR{bx:Box}{L:Loc}{b:Nat}(h:tU P S loc w bx L)(hb:L.has b):b<w.heap.size:=by
 cases h with
 |var cs b' t vs hw hl hc=>cases hb;exact(Array.getElem?_eq_some_iff.1 hw).1
 |arr ver e es sz hdr xs hsz how hf=>exact how.lt hb
 |dead L hL=>subst hL;cases hb
 |map kt vt es b' clock ents hw hl hc=>cases hb;exact(Array.getElem?_eq_some_iff.1 hw).1
theorem tU.py{S S':pR}{loc':qe}{w':World}{bx:Box}{L:Loc}(h:tU P S loc w bx L)(hs:Sub S S')(hl:qa loc loc')(hb:∀b,L.has b->w'.heap[b]? =w.heap[b]?):
  tU P S' loc' w' bx L:=by
 cases h with
 |var cs b t vs hw hlen hc=>exact .var cs b t vs (by rw [hb b rfl];exact hw) hlen (fun i c v h1 h2=>(hc i c v h1 h2).mono hs hl)
 |arr ver e es sz hdr xs hsz how hf=>exact .arr ver e es sz hdr xs hsz (how.py hb) (hf.mono hs)
 |dead L hL=>exact .dead L hL
 |map kt vt es b clock ents hw hlen hc=>exact .map kt vt es b clock ents (by rw [hb b rfl];exact hw) hlen (fun i k x en h1 h2=>⟨(hc i k x en h1 h2).1.mono hs,(hc i k x en h1 h2).2.mono hs⟩)
theorem sI{w w':World}{ad:Addr}(h:w'.heap[ad.block]? =w.heap[ad.block]?):w'.cell? ad=w.cell? ad:=by simp [World.cell?,h]
theorem Sim.sf(h:Sim P X S loc s tm w){w':World}{chg:Option Nat}(hs:Step chg w w')(id:Nat)(bx':Box)(L':Loc)
  (hchg:∀b,chg=some b->∃L,loc id=some L∧L.has b)
  (hbox:tU P S (upd loc id L') w' bx' L')
  (hblk:∀b,L'.has b->(∃L,loc id=some L∧L.has b)∨w.heap.size<=b∨((∀i L,loc i=some L->¬L.has b)∧(∀o,S ⟨b,o,none⟩=none)∧(b∈X.B0∨X.w0.heap.size<=b)))
  (hst:qp (loc id) L'):
  Sim P X S (upd loc id L') { s with boxes:=upd s.boxes id bx' } tm w':=by
 have hle:qa loc (upd loc id L'):=qa.upd hst
 have hkeep:∀id' L,id'≠id->loc id'=some L->∀b,L.has b->w'.heap[b]? =w.heap[b]? :=by
  intro id' L hne hL b hb
  obtain⟨bx,hbx⟩:=h.dom id' L hL
  refine hs.block b ((h.rO hbx hL).sR hb) ?_
  intro hc
  obtain⟨L2,h1,h2⟩:=hchg b hc.symm
  exact hne (h.inj id' id L L2 b hL h1 hb h2)
 refine⟨h.nt,?_,?_,?_,?_,h.tJ,?_,?_,?_,?_,h.s0,?_,h.vG,h.bs,fun x hx=>?_⟩
 rotate_right
 ·obtain⟨h1,o,v,h2⟩:=h.ob x hx
  refine⟨?_,o,v,h2⟩
  rw [<-h1]
  refine hs.block _ (Array.getElem?_eq_some_iff.1 h1).1 fun hc=>?_
  obtain⟨L,h3,h4⟩:=hchg _ hc.symm
  have h5:=h.ss id L x.1 h3 h4 o
  rw [h.bs _ _ h2]at h5
  cases h5
 ·intro t rv ht
  obtain⟨v,h1,h2⟩:=h.pU t rv ht
  exact⟨v,h1,h2.mono (Sub.refl S) hle⟩
 ·intro i bx hb
  by_cases hi:i=id
  ·subst hi
   simp only [pW,Option.some.injEq]at hb
   subst hb
   exact⟨L',pW _ _ _,hbox⟩
  ·simp only [qJ _ _ hi]at hb
   obtain⟨L,h1,h2⟩:=h.boxes i bx hb
   exact⟨L,by rw [qJ _ _ hi];exact h1,h2.py (Sub.refl S) hle (hkeep i L hi h1)⟩
 ·intro i L hL
  by_cases hi:i=id
  ·subst hi;exact⟨bx',pW _ _ _⟩
  ·rw [qJ _ _ hi]at hL
   obtain⟨bx,hb⟩:=h.dom i L hL
   exact⟨bx,by simp only [qJ _ _ hi];exact hb⟩
 ·intro ad v hv
  have hc:=h.imm ad v hv
  rw [<-hc]
  refine sI (hs.block ad.block (World.block_lt_of_cell? w ad hc) ?_)
  intro he
  obtain⟨L,h1,h2⟩:=hchg _ he.symm
  have hsp:ad.spot=none:=by
   unfold World.cell? at hc
   split at hc
   ·split at hc
    ·cases hc
    ·rename_i hsp;simpa using hsp
   ·cases hc
  have:=h.ss id L ad.block h1 h2 ad.off
  rw [<-hsp]at this
  rw [hv]at this
  cases this
 ·intro i L b hL hb o
  by_cases hi:i=id
  ·subst hi
   rw [pW]at hL
   cases hL
   rcases hblk b hb with⟨L2,h1,h2⟩|hnew|⟨_,hnew,_⟩
   ·exact h.ss i L2 b h1 h2 o
   rotate_left
   ·exact hnew o
   ·cases hS:S ⟨b,o,none⟩with
    |none=>rfl
    |some v=>
     have:=World.block_lt_of_cell? w _ (h.imm _ v hS)
     simp at this
     omega
  ·rw [qJ _ _ hi]at hL
   exact h.ss i L b hL hb o
 ·intro i j L L2 b hL hL2 hb hb2
  have key:∀i L,i≠id->loc i=some L->L.has b->L'.has b->False:=by
   intro i L hi hL hb hb'
   obtain⟨bx,hbx⟩:=h.dom i L hL
   rcases hblk b hb' with⟨L3,h1,h2⟩|hnew|⟨hnew,_,_⟩
   ·exact hi (h.inj i id L L3 b hL h1 hb h2)
   rotate_left
   ·exact hnew i L hL hb
   ·have:=(h.rO hbx hL).sR hb
    omega
  by_cases hi:i=id
  ·by_cases hj:j=id
   ·rw [hi,hj]
   ·subst hi
    rw [pW]at hL
    cases hL
    rw [qJ _ _ hj]at hL2
    exact(key j L2 hj hL2 hb2 hb).elim
  ·by_cases hj:j=id
   ·subst hj
    rw [pW]at hL2
    cases hL2
    rw [qJ _ _ hi]at hL
    exact(key i L hi hL hb hb2).elim
   ·rw [qJ _ _ hi]at hL
    rw [qJ _ _ hj]at hL2
    exact h.inj i j L L2 b hL hL2 hb hb2
 ·intro i L b hL hb
  by_cases hi:i=id
  ·subst hi
   rw [pW]at hL
   cases hL
   rcases hblk b hb with⟨L2,h1,h2⟩|hnew|⟨_,_,hnew⟩
   ·exact h.own i L2 b h1 h2
   ·exact .inr (Nat.le_trans h.frame.size hnew)
   ·exact hnew
  ·rw [qJ _ _ hi]at hL
   exact h.own i L b hL hb
 ·refine h.frame.step hs fun b hb=>?_
  obtain⟨L,h1,h2⟩:=hchg b hb
  exact h.own id L b h1 h2
 ·intro k b hk
  by_cases hi:k=id
  ·subst hi
   refine⟨L',pW _ _ _,?_⟩
   obtain⟨L,hL,h1⟩:=h.par k b hk
   rw [hL]at hst
   exact qp.trans h1 hst
  ·rw [qJ _ _ hi];exact h.par k b hk
theorem Sim.stepW(h:Sim P X S loc s tm w){w':World}(hs:Step none w w'):Sim P X S loc s tm w':=by
 refine⟨h.nt,h.pU,?_,h.dom,?_,h.tJ,h.ss,h.inj,h.own,h.frame.step hs (fun b hb=>by cases hb),h.s0,h.par,h.vG,h.bs,fun x hx=>⟨by rw [<-(h.ob x hx).1];exact hs.block _ (Array.getElem?_eq_some_iff.1 (h.ob x hx).1).1 sm,(h.ob x hx).2⟩⟩
 ·intro i bx hb
  obtain⟨L,h1,h2⟩:=h.boxes i bx hb
  exact⟨L,h1,h2.py (Sub.refl S) (qa.refl loc) (fun b hb=>hs.block b (h2.sR hb) sm)⟩
 ·intro ad v hv
  have hc:=h.imm ad v hv
  rw [<-hc]
  exact sI (hs.block ad.block (World.block_lt_of_cell? w ad hc) sm)
theorem Sim.grow(h:Sim P X S loc s tm w){S':pR}(hs:Sub S S')(hi:∀ad v,S' ad=some v->S ad=some v∨(w.cell? ad=some v∧v.oneCell'=true∧(∀id L,loc id=some L->¬L.has ad.block)∧(X.w0.heap.size<=ad.block∨ad.block∈X.B0))):
  Sim P X S' loc s tm w:=by
 refine⟨h.nt,fun t rv ht=>let⟨v,h1,h2⟩:=h.pU t rv ht;⟨v,h1,h2.mono hs (qa.refl loc)⟩,?_,h.dom,?_,?_,?_,h.inj,h.own,h.frame,h.s0.trans hs,h.par,?_,h.bs.trans hs,h.ob⟩
 ·intro i bx hb
  obtain⟨L,h1,h2⟩:=h.boxes i bx hb
  exact⟨L,h1,h2.py hs (qa.refl loc) (fun _ _=>rfl)⟩
 ·intro ad v hv
  rcases hi ad v hv with h1|⟨h1,_,_⟩
  ·exact h.imm ad v h1
  ·exact h1
 ·intro ad v hv
  rcases hi ad v hv with h1|⟨_,h1,_⟩
  ·exact h.tJ ad v h1
  ·exact h1
 ·intro id L b hL hb o
  cases hS:S' ⟨b,o,none⟩with
  |none=>rfl
  |some v=>
   rcases hi _ v hS with h1|⟨_,_,h1,_⟩
   ·have:=h.ss id L b hL hb o
    rw [h1]at this
    cases this
   ·exact(h1 id L hL hb).elim
 ·intro ad v hv
  rcases hi ad v hv with h1|⟨_,_,_,h1⟩
  ·exact h.vG ad v h1
  ·exact .inr h1
noncomputable def qL (S:pR) (g:Nat) (xs:List Value):pR:=fun ad=>
 match S ad with
 |some v=>some v
 |none=>if ad.block=g∧ad.spot=none then xs[ad.off]? else none
theorem rn(S:pR)(g:Nat)(xs:List Value):Sub S (qL S g xs):=fun ad v h=>by simp [qL,h]
theorem uf{S:pR}{g:Nat}{xs:List Value}(hS:∀o,S ⟨g,o,none⟩=none){j:Nat}{v:Value}(h:xs[j]? =some v):qL S g xs ⟨g,j,none⟩=some v:=by
 simp [qL,hS,h]
theorem Sim.wD(h:Sim P X S loc s tm w)(g:Nat)(xs:List Value)(hc:∀j v,xs[j]? =some v->w.cell? ⟨g,j,none⟩=some v)(h1:∀v∈xs,v.oneCell'=true)(hn:∀id L,loc id=some L->¬L.has g)(hg:X.w0.heap.size<=g∨g∈X.B0):
  Sim P X (qL S g xs) loc s tm w:=by
 refine h.grow (rn S g xs) fun ad v hv=>?_
 unfold qL at hv
 split at hv
 ·rename_i v' hv'
  exact .inl (by rw [hv'];exact hv)
 ·split at hv
  ·rename_i hb
   obtain⟨hb,hsp⟩:=hb
   refine .inr ⟨?_,h1 v (List.mem_of_getElem? hv),?_,by rw [hb];exact hg⟩
   ·have:=hc ad.off v hv
    rw [<-hb, <-hsp]at this
    exact this
   ·rw [hb];exact hn
  ·cases hv
def Frz(b:p8)(S:pR)(loc:qe)(S':pR)(id:Nat):Prop:=
 ∀ver e es,b id=some (.arr ver e es)->(∀v,R S loc (.ref id ver) v->V S' (.lst es) v)∧
  ∀lo hi v,lo<=hi->hi<=es.length->R S loc (.view id ver lo hi) v->V S' (.lst ((es.drop lo).take (hi-lo))) v
theorem Frz.mono{b:p8}{S S' S'':pR}{loc:qe}{id:Nat}(h:Frz b S loc S' id)(hs:Sub S' S''):Frz b S loc S'' id:=
 fun ver e es hb=>⟨fun v hr=>((h ver e es hb).1 v hr).mono hs,fun lo hi v h1 h2 hr=>((h ver e es hb).2 lo hi v h1 h2 hr).mono hs⟩
theorem Sim.xM(h:Sim P X S loc s tm w){id ver:Nat}{e:TypeId}{es:List PD}(hb:s.boxes id=some (.arr ver e es)):
  ∃S',Sim P X S' (upd loc id .dead) { s with boxes:=upd s.boxes id .dead } tm w∧Sub S S'∧qa loc (upd loc id .dead)∧Frz s.boxes S loc S' id:=by
 obtain⟨L,hL,hbx⟩:=h.boxes id _ hb
 have hst:qp (loc id) .dead:=by rw [hL];exact .dead _
 have h1:=h.sf (Step.refl none w) id .dead .dead (fun b hc=>by cases hc) (.dead _ rfl) (fun b hc=>by cases hc) hst
 cases hbx with
 |arr _ _ _ sz hdr xs hsz how hf=>
  have hview:∀{lo hi v},R S loc (.view id ver lo hi) v->((lo=hi∧∃a,v= .slice a 0 0)∨∃g n c,hdr= .slice (some ⟨g,0,none⟩) n c∧lo<=hi∧hi<=c∧v= .slice (some ⟨g,lo*sz,none⟩) (hi-lo) (c-lo)):=by
   intro lo hi v hr
   cases hr with
   |view _ _ _ _ _ L _ hL' hv=>
    rw [hL]at hL'
    cases hL'
    exact(hv ver e sz _ rfl).2 rfl
  have href:∀{v},R S loc (.ref id ver) v->v=hdr:=by
   intro v hr
   cases hr with
   |ref _ _ _ L _ hL' hv=>
    rw [hL]at hL'
    cases hL'
    exact(hv ver e sz _ .arr).2 rfl
  by_cases hes:es=[]
  ·subst hes
   refine⟨S,h1,Sub.refl S,qa.upd hst,fun ver' e' es' hb'=>?_⟩
   rw [hb]at hb'
   cases hb'
   refine⟨fun v hr=>?_,fun lo hi v h2 h3 hr=>?_⟩
   ·obtain⟨a,c,rfl,_⟩:=how.hdr
    rw [href hr]
    exact .nil _ _
   ·simp only [List.length_nil,Nat.le_zero]at h3
    subst h3
    have:lo=0:=by omega
    subst this
    rcases hview hr with⟨_,a,rfl⟩|⟨g,n,c,rfl,_,_,rfl⟩
    ·exact .nil _ _
    ·exact .nil _ _
  have hpos:0<es.length:=by cases es with|nil=>exact(hes rfl).elim|cons=>simp
  have how':=how.xc hpos
  have how:=how'
  rcases how.2 with⟨rfl,h0⟩|⟨g,cap,cur,fz,rfl,hfz,hg,hnc,hcm,hcs,htake⟩
  ·omega
  ·have hcell:=how.cells (g:=g) rfl
   have hown:rk (.slice (some ⟨g,0,none⟩) es.length cap)=some g:=by cases cap with|zero=>omega|succ c=>rfl
   have hnb:∀i L,upd loc id Loc.dead i=some L->¬L.has g:=by
    intro i L hi hLg
    by_cases hid:i=id
    ·subst hid;rw [pW]at hi;cases hi;cases hLg
    ·rw [qJ _ _ hid]at hi
     exact hid (h.inj i id L _ g hi hL hLg hown)
   have hge:X.w0.heap.size<=g∨g∈X.B0:=(h.own id _ g hL hown).symm
   have h2:=h1.wD g xs (fun j v hj=>by have:=hcell j v hj;rw [rH]at this;simpa using this) hf.one hnb hge
   have hdisj:∀o,S ⟨g,o,none⟩=none:=fun o=>h.ss id _ g hL hown o
   have hsub:∀lo hi,lo<=hi->hi<=es.length->V (qL S g xs) (.lst ((es.drop lo).take (hi-lo))) (.slice (some ⟨g,lo*sz,none⟩) (hi-lo) (cap-lo)):=by
    intro lo hi hlo hhi
    have hlen:((es.drop lo).take (hi-lo)).length=hi-lo:=by rw [List.length_take,List.length_drop];omega
    have hget:∀(i:Nat)x,((es.drop lo).take (hi-lo))[i]? =some x->es[lo+i]? =some x:=by
     intro i x hx
     rw [List.getElem?_take]at hx
     split at hx
     ·rwa [List.getElem?_drop]at hx
     ·cases hx
    have:=V.lst (S:=qL S g xs) ((es.drop lo).take (hi-lo)) g (lo*sz) (cap-lo) sz (fun i j=>xs.getD ((lo+i)*sz+j) default) za
     (fun x hx=>hf.len x (List.mem_of_mem_drop (List.mem_of_mem_take hx)))
     (fun i e j x h3 h4 => by
      obtain⟨u,hu,_⟩:=hf.cell (lo+i) e j x (hget i e h3) h4
      have ha:lo*sz+i*sz+j=(lo+i)*sz+j:=by rw [Nat.add_mul]
      rw [ha,uf hdisj hu]
      simp [hu])
     (fun i e j x h3 h4 => by
      obtain⟨u,hu,hv⟩:=hf.cell (lo+i) e j x (hget i e h3) h4
      simpa [hu]using hv.mono (rn S g xs))
    rw [hlen]at this
    exact this
   refine⟨_,h2,rn S g xs,qa.upd hst,fun ver' e' es' hb'=>?_⟩
   rw [hb]at hb'
   cases hb'
   refine⟨fun v hr=>?_,fun lo hi v h3 h4 hr=>?_⟩
   ·rw [href hr]
    have:=hsub 0 es.length (Nat.zero_le _) (Nat.le_refl _)
    simpa using this
   ·rcases hview hr with⟨rfl,a,rfl⟩|⟨g',n,c,he,_,_,rfl⟩
    ·rw [Nat.sub_self];exact .nil _ _
    ·cases he
     exact hsub lo hi h3 h4
def tn(u:Ups):Prop:=∀x∈u,x.2= .dead
theorem rr(s:St)(id:Nat)(b:Box)(r:Ups):s.ups ((id,b)::r)=({ s with boxes:=upd s.boxes id b }:St).ups r:=rfl
theorem tL:∀(u u':Ups)(s:St),s.ups (u++u')=(s.ups u).ups u'
 | [],_,_=>rfl
 |(id,b)::r,u',s=>by rw [List.cons_append,rr,rr,tL r u']
theorem rF:∀(u:Ups)(s:St),(s.ups u).pU=s.pU
 | [],_=>rfl
 |(id,b)::r,s=>by rw [rr,rF r]
theorem Sim.uA:∀(u:Ups){S:pR}{loc:qe}{s:St},Sim P X S loc s tm w->tn u->(∀x∈u,(∃ver e es,s.boxes x.1=some (.arr ver e es))∨s.boxes x.1=some .dead)->
  ∃S' loc',Sim P X S' loc' (s.ups u) tm w∧Sub S S'∧qa loc loc'∧
   ∀x∈u,Frz s.boxes S loc S' x.1
 | [],S,loc,s,h,_,_=>⟨S,loc,h,Sub.refl S,qa.refl loc,fun x hx=>by cases hx⟩
 |(id,b)::r,S,loc,s,h,hd,hb=>by
  have hbd:b= .dead:=hd (id,b) sm
  subst hbd
  have hdr:tn r:=fun x hx=>hd x (by simp [hx])
  rw [rr]
  rcases hb (id,.dead) sm with⟨ver,e,es,hbx⟩|hbx
  ·obtain⟨S1,h1,hs1,hl1,hv1⟩:=h.xM hbx
   obtain ⟨S2, loc2, h2, hs2, hl2, hv2⟩ := Sim.uA r h1 hdr (fun x hx => by
    by_cases hxi:x.1=id
    ·right;simp only [hxi,pW]
    ·simp only [qJ _ _ hxi];exact hb x (by simp [hx]))
   refine⟨S2,loc2,h2,hs1.trans hs2,hl1.trans hl2,?_⟩
   intro x hx
   by_cases hxi:x.1=id
   ·rw [hxi]
    exact hv1.mono hs2
   ·rcases List.mem_cons.1 hx with rfl|hx
    ·exact(hxi rfl).elim
    ·intro ver' e' es' hbx'
     have:=hv2 x hx ver' e' es' (by simp only [qJ _ _ hxi];exact hbx')
     exact⟨fun v hr=>this.1 v (hr.mono hs1 hl1),fun lo hi v h3 h4 hr=>this.2 lo hi v h3 h4 (hr.mono hs1 hl1)⟩
  ·have heq:({ s with boxes:=upd s.boxes id .dead }:St)=s:=by
    have:upd s.boxes id .dead=s.boxes:=by
     funext i
     by_cases hi:i=id
     ·subst hi;rw [pW];exact hbx.symm
     ·rw [qJ _ _ hi]
    rw [this]
   rw [heq]
   obtain⟨S2,loc2,h2,hs2,hl2,hv2⟩:=Sim.uA r h hdr (fun x hx=>hb x (by simp [hx]))
   refine⟨S2,loc2,h2,hs2,hl2,?_⟩
   intro x hx
   rcases List.mem_cons.1 hx with rfl|hx
   ·intro ver' e' es' hbx'
    simp only at hbx hbx'
    rw [hbx]at hbx'
    cases hbx'
   ·exact hv2 x hx
theorem qd{rv:RV}{b:p8}{p:PD}{u:Ups}{r:List Nat}(h:wO rv b=some ((p,u),r,true)):
  tn u∧(∀x∈u,∃ver e es,b x.1=some (.arr ver e es))∧
  ∀S loc S' v,R S loc rv v->Sub S S'->(∀x∈u,Frz b S loc S' x.1)->V S' p v:=by
 cases rv with
 |d q=>
  obtain⟨h1, -, -⟩:=M.pK (b:=b) h
  cases h1
  refine⟨(fun x hx=>by cases hx),(fun x hx=>by cases hx),fun S loc S' v hr hs _=>?_⟩
  cases hr with|d h=>exact h.mono hs
 |mo=>
  obtain⟨h1, -, -⟩:=M.pK (b:=b) h
  cases h1
  refine⟨(fun x hx=>by cases hx),(fun x hx=>by cases hx),fun S loc S' v hr hs _=>?_⟩
  cases hr with|mo=>exact .nil none 0
 |ref id ver=>
  obtain⟨bx,r1,r2,h1,h2,_⟩:=M.bind_some h
  obtain⟨hb,_,_⟩:=M.get_some h1
  cases bx with
  |arr ver' e es=>
   by_cases hver:ver=ver'
   rotate_left
   ·simp only [hver,if_false]at h2;exact fE b h2
   simp only [hver,if_true]at h2
   subst hver
   obtain⟨h3, -, -⟩:=M.pK h2
   cases h3
   refine⟨(fun x hx=>by simp at hx;rw [hx]),(fun x hx=>by simp at hx;subst hx;exact⟨ver,e,es,hb⟩),fun S loc S' v hr hs hv=>?_⟩
   exact(hv (id,.dead) sm ver e es hb).1 v hr
  |var _=>exact fE b h2
  |dead=>exact fE b h2
  |map _ _ _=>exact fE b h2
 |undef=>exact fE b h
 |junk=>exact fE b h
 |agg cs=>exact fE b h
 |tup cs=>exact fE b h
 |ptr a c=>exact fE b h
 |elt a c d f=>exact fE b h
 |cptr a=>exact fE b h
 |view id ver lo hi=>
  obtain⟨bx,r1,r2,h1,h2,_⟩:=M.bind_some h
  obtain⟨hb,_,_⟩:=M.get_some h1
  cases bx with
  |arr ver' e es=>
   by_cases hver:ver=ver'
   rotate_left
   ·simp only [hver,if_false]at h2;exact fE b h2
   simp only [hver,if_true]at h2
   subst hver
   obtain⟨h3, -,h4⟩:=M.pN h2
   cases h3
   have hn:lo<=hi∧hi<=es.length:=of_decide_eq_true h4.symm
   refine⟨(fun x hx=>by simp at hx;rw [hx]),(fun x hx=>by simp at hx;subst hx;exact⟨ver,e,es,hb⟩),fun S loc S' v hr hs hv=>?_⟩
   exact(hv (id,.dead) sm ver e es hb).2 lo hi v hn.1 hn.2 hr
  |var _=>exact fE b h2
  |dead=>exact fE b h2
  |map _ _ _=>exact fE b h2
 |clo a c=>exact fE b h
 |fview _ _ _=>exact fE b h
 |err _=>exact fE b h
 |dfull _=>exact fE b h
 |ifc _ _=>exact fE b h
theorem wj:∀{cs:List RV}{b:p8}{ps:List PD}{u:Ups}{r:List Nat},tS cs b=some ((ps,u),r,true)->
  tn u∧(∀x∈u,∃ver e es,b x.1=some (.arr ver e es))∧ps.length=cs.length∧
  ∀S loc S',Sub S S'->(∀x∈u,Frz b S loc S' x.1)->
   ∀(i:Nat)c p v,cs[i]? =some c->ps[i]? =some p->R S loc c v->V S' p v
 | [],b,ps,u,r,h=>by
  obtain⟨h1, -, -⟩:=M.pK h
  cases h1
  exact⟨(fun x hx=>by cases hx),(fun x hx=>by cases hx),rfl,fun S loc S' _ _ i c p v h1=>by simp at h1⟩
 |c::cs,b,ps,u,r,h=>by
  obtain⟨⟨p,u1⟩,r1,r2,h1,h2,_⟩:=M.bind_some h
  obtain⟨⟨qs,u2⟩,r3,r4,h3,h4,_⟩:=M.bind_some h2
  obtain⟨h5, -, -⟩:=M.pK h4
  cases h5
  obtain⟨a1,a2,a3⟩:=qd h1
  obtain⟨b1,b2,b3,b4⟩:=wj h3
  refine⟨fun x hx=>?_,fun x hx=>?_,by simp [b3],?_⟩
  ·rcases List.mem_append.1 hx with hx|hx
   ·exact a1 x hx
   ·exact b1 x hx
  ·rcases List.mem_append.1 hx with hx|hx
   ·exact a2 x hx
   ·exact b2 x hx
  ·intro S loc S' hs hv i c' p' v hc hp hr
   cases i with
   |zero=>
    simp only [List.getElem?_cons_zero,Option.some.injEq]at hc hp
    subst hc;subst hp
    exact a3 S loc S' v hr hs fun x hx=>hv x (List.mem_append.2 (.inl hx))
   |succ i=>
    simp only [List.getElem?_cons_succ]at hc hp
    exact b4 S loc S' hs (fun x hx=>hv x (List.mem_append.2 (.inr hx))) i c' p' v hc hp hr
theorem A2{v:RV}(h:isNils v=true):v= .mo:=by cases v<;>first|rfl|cases h
theorem An{mt:Bool}{cs:List RV}{b:p8}{ps:List PD}{u:Ups}{r:List Nat}(h:vY mt cs b=some ((ps,u),r,true)):
  tn u∧(∀x∈u,∃ver e es,b x.1=some (.arr ver e es))∧ps.length=cs.length∧
  ∀S loc S',Sub S S'->(∀x∈u,Frz b S loc S' x.1)->
   ∀(i:Nat)c p v,cs[i]? =some c->ps[i]? =some p->R S loc c v->V S' p v:=by
 unfold vY at h
 split at h
 ·rename_i hc
  simp only [xL,Bool.and_eq_true]at hc
  obtain⟨h1, -, -⟩:=M.pK h
  cases h1
  refine⟨(fun x hx=>by cases hx),(fun x hx=>by cases hx),sm,fun S loc S' _ _ i c p v h1 h2 h3=>?_⟩
  have:=A2 (List.all_eq_true.1 hc.2.2 c (List.mem_of_getElem? h1))
  subst this
  rw [List.getElem?_map,h1]at h2
  cases h2
  cases h3
  exact .raw _ rfl
 ·exact wj h
theorem uo{rv:RV}{b:p8}{p:PD}{u:Ups}{r:List Nat}(h:sD rv b=some ((p,u),r,true)):
  tn u∧(∀x∈u,∃ver e es,b x.1=some (.arr ver e es))∧
  ∀S loc S' v,R S loc rv v->Sub S S'->(∀x∈u,Frz b S loc S' x.1)->V S' p v:=by
 cases rv with
 |agg cs=>
  unfold sD at h
  obtain⟨⟨ps,u1⟩,r1,r2,h1,h2,_⟩:=M.bind_some h
  obtain⟨h3, -, -⟩:=M.pK h2
  cases h3
  obtain⟨a1,a2,a3,a4⟩:=wj h1
  refine⟨a1,a2,fun S loc S' v hr hs hv=>?_⟩
  obtain⟨vs,rfl,hlen,hc⟩:=hr.vr
  refine .agg ps vs (by rw [hlen,a3]) fun i p v hp hvi=>?_
  have hi:i<cs.length:=by rw [<-a3];exact(List.getElem?_eq_some_iff.1 hp).1
  exact a4 S loc S' hs hv i cs[i] p v (zd hi) hp (hc i _ v (zd hi) hvi)
 |d q=>exact qd h
 |mo=>exact qd h
 |ref id ver=>exact qd h
 |undef=>exact qd h
 |junk=>exact qd h
 |tup cs=>exact qd h
 |ptr a c=>exact qd h
 |elt a c d f=>exact qd h
 |cptr a=>exact qd h
 |view a c d f=>exact qd h
 |clo a c=>exact qd h
 |fview _ _ _=>exact qd h
 |err _=>exact qd h
 |dfull _=>exact qd h
 |ifc _ _=>exact qd h
end
end Go.Dw
