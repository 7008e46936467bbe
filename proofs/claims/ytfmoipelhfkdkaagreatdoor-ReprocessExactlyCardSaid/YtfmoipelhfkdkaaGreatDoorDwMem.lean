
import Derived.Test.YtfmoipelhfkdkaaGreatDoorDwAddr
open Nat renaming le_refl->DA, le_trans->DM, lt_of_lt_of_le->DN

namespace Go.Dw
theorem rF.trans{a b c:sf}(h:rF a b)(j:rF b c):rF a c:=by
 intro id L u
 obtain⟨g,h1,k⟩:=h id L u
 obtain⟨f,q,r⟩:=j id g h1
 exact⟨f,q,k.trans r⟩
def upd{α:Type}(f:Nat->Option α)(id:Nat)(x:α):Nat->Option α:=fun i=>if i=id then some x else f i
theorem ru{α:Type}(f:Nat->Option α)(id:Nat)(x:α):upd f id x id=some x:=by simp [upd]
theorem si{α:Type}(f:Nat->Option α){id i:Nat}(x:α)(h:i≠id):upd f id x i=f i:=by simp [upd,h]
def rP(o:Option Loc)(f:Loc):Prop:=
 match o with
 |none=>True
 |some L=>vd L f
theorem rP.trans{f g j:Loc}(h:rP (some f) g)(k:rP (some g) j):rP (some f) j:=vd.trans h k
theorem rF.upd{loc:sf}{id:Nat}{f:Loc}(h:rP (loc id) f):rF loc (upd loc id f):=by
 intro i L g
 by_cases hi:i=id
 ·subst hi
  rw [g]at h
  exact⟨f,ru _ _ _,h⟩
 ·exact⟨L,by rw [si _ _ hi];exact g,.same L⟩
structure Step(chg:Option Nat)(w w':World):Prop where
 os:w'.os=w.os
 tape:w'.tape=w.tape
 output:w'.output=w.output
 size:w.heap.size<=w'.heap.size
 block:∀b,b<w.heap.size->some b≠chg->w'.heap[b]? =w.heap[b]?
 drawn:w.drawn<=w'.drawn
theorem Step.refl(f:Option Nat)(w:World):Step f w w:=⟨rfl,rfl,rfl,DA _,fun _ _ _=>rfl,DA _⟩
theorem Step.alloc(w:World)(o:Obj):Step none w (w.alloc o):=⟨rfl,rfl,rfl,zc,fun b f _=>heap_alloc_old w o b f,DA _⟩
theorem Step.trans{f:Option Nat}{a b c:World}(h:Step f a b)(g:Step f b c):Step f a c:=
 ⟨g.os.trans h.os, g.tape.trans h.tape, g.output.trans h.output, DM h.size g.size,
  fun x k j=>(g.block x (DN k h.size) j).trans (h.block x k j),DM h.drawn g.drawn⟩
theorem Step.drew(w:World):Step none w w.drew:=⟨rfl,rfl,rfl,DA _,fun _ _ _=>rfl,Nat.le_succ _⟩
theorem Step.setRow(w:World)(g:Nat)(cs:Array Value):Step (some g) w (w.setRow g cs):=
 ⟨rfl,rfl,rfl,zc,fun b _ f=>setRow_other w g b cs (fun e=>f (by rw [e])),DA _⟩
theorem Step.mono{f:Option Nat}{w w':World}(h:Step none w w'):Step f w w':=⟨h.os,h.tape,h.output,h.size,fun b g _=>h.block b g zc,h.drawn⟩
theorem Frame.step{E:Prop}{B0:List Nat}{w0 w w':World}{f:Option Nat}(h:Frame E B0 w0 w)(hs:Step f w w')(hc:∀b,f=some b->b∈B0∨w0.heap.size<=b):Frame E B0 w0 w':=
 ⟨hs.os.trans h.os, hs.tape.trans h.tape, hs.output.trans h.output, DM h.size hs.size, fun b g j => by
  rw [hs.block b (DN g h.size) ?_]
  ·exact h.block b g j
  ·intro he
   rcases hc b he.symm with h1|h1
   ·exact j h1
   ·omega,fun he=>DM (h.drawn he) hs.drawn⟩
section
variable {P:Program}{X:Ctx}{S:rC}{loc:sf}{s:St}{tm:Array Value}{w:World}
theorem u9.uL{j:Box}{L:Loc}{b:Nat}(h:u9 P S loc w j L)(f:L.has b):b<w.heap.size:=by
 cases h with
 |var cs b' t vs hw hl hc=>cases f;exact(Array.getElem?_eq_some_iff.1 hw).1
 |arr ver e es sz hdr xs g how hf=>exact how.lt f
 |dead L k=>subst k;cases f
 |map D E es b' clock ents hw hl hc=>cases f;exact(Array.getElem?_eq_some_iff.1 hw).1
 |nest ver e e2 ess B hdr xs bs g r how hc q hi=>
  rcases List.mem_append.1 f with f|f
  ·exact how.lt (by simpa using f)
  ·exact hc.lt b f
 |hole ver e es i o rv sz hdr xs u g how hf hi ho hu C=>exact how.lt f
theorem u9.dE{S S':rC}{loc':sf}{w':World}{C:Box}{L:Loc}(h:u9 P S loc w C L)(hs:Sub S S')(hl:rF loc loc')(j:∀b,L.has b->w'.heap[b]? =w.heap[b]?):
  u9 P S' loc' w' C L:=by
 cases h with
 |var cs b t vs hw hlen hc=>exact .var cs b t vs (by rw [j b rfl];exact hw) hlen (fun i c v h1 q=>(hc i c v h1 q).mono hs hl)
 |arr ver e es sz hdr xs f how hf=>exact .arr ver e es sz hdr xs f (how.dE j) (hf.mono hs)
 |dead L E=>exact .dead L E
 |map H I es b clock ents hw hlen hc=>exact .map H I es b clock ents (by rw [j b rfl];exact hw) hlen (fun i k x D h1 q=>⟨(hc i k x D h1 q).1.mono hs,(hc i k x D h1 q).2.mono hs⟩)
 |nest ver e e2 ess F hdr xs bs f B how hc r hi=>
  exact .nest ver e e2 ess F hdr xs bs f B (how.dE fun b g=>j b (List.mem_append.2 (.inl (by simpa using g)))) (hc.dE hs hl fun b g=>j b (List.mem_append.2 (.inr g))) r hi
 |hole ver e es i o rv sz hdr xs u f how hf hi ho hu G=>exact .hole ver e es i o rv sz hdr xs u f (how.dE j) (hf.mono hs) hi ho hu (G.mono hs hl)
theorem tS{w w':World}{ad:Addr}(h:w'.heap[ad.block]? =w.heap[ad.block]?):w'.cell? ad=w.cell? ad:=by simp [World.cell?,h]
theorem Sim.sq(h:Sim P X S loc s tm w){w':World}{Q:Option Nat}(hs:Step Q w w')(id:Nat)(F:Box)(D:Loc)
  (u:∀b,Q=some b->∃L,loc id=some L∧L.has b)
  (T:u9 P S (upd loc id D) w' F D)
  (hblk:∀b,D.has b->(∃L,loc id=some L∧L.has b)∨w.heap.size<=b∨((∀i L,loc i=some L->¬L.has b)∧(∀o,S ⟨b,o,none⟩=none)∧(b∈X.B0∨X.w0.heap.size<=b)))
  (K:rP (loc id) D):
  Sim P X S (upd loc id D) { s with boxes:=upd s.boxes id F } tm w':=by
 have hle:rF loc (upd loc id D):=rF.upd K
 have I:∀C L,C≠id->loc C=some L->∀b,L.has b->w'.heap[b]? =w.heap[b]? :=by
  intro C L W f b q
  obtain⟨O,H⟩:=h.dom C L f
  refine hs.block b ((h.tA H f).uL q) ?_
  intro hc
  obtain⟨E,h1,r⟩:=u b hc.symm
  exact W (h.inj C id L E b f h1 q r)
 refine⟨h.nt,?_,?_,?_,?_,h.vA,?_,?_,?_,?_,h.s0,?_,h.xz,h.bs,fun x hx=>?_⟩
 rotate_right
 ·obtain⟨h1,o,v,r⟩:=h.ob x hx
  refine⟨?_,o,v,r⟩
  rw [<-h1]
  refine hs.block _ (Array.getElem?_eq_some_iff.1 h1).1 fun hc=>?_
  obtain⟨L,h3,h4⟩:=u _ hc.symm
  have Y:=h.uC id L x.1 h3 h4 o
  rw [h.bs _ _ r]at Y
  cases Y
 ·intro t rv ht
  obtain⟨v,h1,r⟩:=h.rJ t rv ht
  exact⟨v,h1,r.mono (Sub.refl S) hle⟩
 ·intro i O q
  by_cases hi:i=id
  ·subst hi
   simp only [ru,Option.some.injEq]at q
   subst q
   exact⟨D,ru _ _ _,T⟩
  ·simp only [si _ _ hi]at q
   obtain⟨L,h1,r⟩:=h.boxes i O q
   exact⟨L,by rw [si _ _ hi];exact h1,r.dE (Sub.refl S) hle (I i L hi h1)⟩
 ·intro i L f
  by_cases hi:i=id
  ·subst hi;exact⟨F,ru _ _ _⟩
  ·rw [si _ _ hi]at f
   obtain⟨O,q⟩:=h.dom i L f
   exact⟨O,by simp only [si _ _ hi];exact q⟩
 ·intro ad v hv
  have hc:=h.imm ad v hv
  rw [<-hc]
  refine tS (hs.block ad.block (World.block_lt_of_cell? w ad hc) ?_)
  intro he
  obtain⟨L,h1,r⟩:=u _ he.symm
  have J:ad.spot=none:=by
   unfold World.cell? at hc
   split at hc
   ·split at hc
    ·cases hc
    ·rename_i J;simpa using J
   ·cases hc
  have:=h.uC id L ad.block h1 r ad.off
  rw [<-J]at this
  rw [hv]at this
  cases this
 ·intro i L b f q o
  by_cases hi:i=id
  ·subst hi
   rw [ru]at f
   cases f
   rcases hblk b q with⟨E,h1,r⟩|g|⟨_,g,_⟩
   ·exact h.uC i E b h1 r o
   rotate_left
   ·exact g o
   ·cases hS:S ⟨b,o,none⟩with
    |none=>rfl
    |some v=>
     have:=World.block_lt_of_cell? w _ (h.imm _ v hS)
     simp at this
     omega
  ·rw [si _ _ hi]at f
   exact h.uC i L b f q o
 ·intro i j L E b f B q G
  have key:∀i L,i≠id->loc i=some L->L.has b->D.has b->False:=by
   intro i L hi f q U
   obtain⟨O,H⟩:=h.dom i L f
   rcases hblk b U with⟨L3,h1,r⟩|g|⟨g,_,_⟩
   ·exact hi (h.inj i id L L3 b f h1 q r)
   rotate_left
   ·exact g i L f q
   ·have:=(h.tA H f).uL q
    omega
  by_cases hi:i=id
  ·by_cases N:j=id
   ·rw [hi,N]
   ·subst hi
    rw [ru]at f
    cases f
    rw [si _ _ N]at B
    exact(key j E N B G q).elim
  ·by_cases N:j=id
   ·subst N
    rw [ru]at B
    cases B
    rw [si _ _ hi]at f
    exact(key i L hi f q G).elim
   ·rw [si _ _ hi]at f
    rw [si _ _ N]at B
    exact h.inj i j L E b f B q G
 ·intro i L b f q
  by_cases hi:i=id
  ·subst hi
   rw [ru]at f
   cases f
   rcases hblk b q with⟨E,h1,r⟩|g|⟨_,_,g⟩
   ·exact h.own i E b h1 r
   ·exact .inr (DM h.frame.size g)
   ·exact g
  ·rw [si _ _ hi]at f
   exact h.own i L b f q
 ·refine h.frame.step hs fun b q=>?_
  obtain⟨L,h1,r⟩:=u b q
  exact h.own id L b h1 r
 ·intro k b hk
  by_cases hi:k=id
  ·subst hi
   refine⟨D,ru _ _ _,?_⟩
   obtain⟨L,f,h1⟩:=h.par k b hk
   rw [f]at K
   exact rP.trans h1 K
  ·rw [si _ _ hi];exact h.par k b hk
theorem Sim.stepW(h:Sim P X S loc s tm w){w':World}(hs:Step none w w'):Sim P X S loc s tm w':=by
 refine⟨h.nt,h.rJ,?_,h.dom,?_,h.vA,h.uC,h.inj,h.own,h.frame.step hs (fun b f=>by cases f),h.s0,h.par,h.xz,h.bs,fun x g=>⟨by rw [<-(h.ob x g).1];exact hs.block _ (Array.getElem?_eq_some_iff.1 (h.ob x g).1).1 zc,(h.ob x g).2⟩⟩
 ·intro i k f
  obtain⟨L,h1,j⟩:=h.boxes i k f
  exact⟨L,h1,j.dE (Sub.refl S) (rF.refl loc) (fun b f=>hs.block b (j.uL f) zc)⟩
 ·intro ad v q
  have hc:=h.imm ad v q
  rw [<-hc]
  exact tS (hs.block ad.block (World.block_lt_of_cell? w ad hc) zc)
theorem Sim.grow(h:Sim P X S loc s tm w){S':rC}(hs:Sub S S')(hi:∀ad v,S' ad=some v->S ad=some v∨(w.cell? ad=some v∧v.oneCell'=true∧(∀id L,loc id=some L->¬L.has ad.block)∧(X.w0.heap.size<=ad.block∨ad.block∈X.B0))):
  Sim P X S' loc s tm w:=by
 refine⟨h.nt,fun t rv r=>let⟨v,h1,j⟩:=h.rJ t rv r;⟨v,h1,j.mono hs (rF.refl loc)⟩,?_,h.dom,?_,?_,?_,h.inj,h.own,h.frame,h.s0.trans hs,h.par,?_,h.bs.trans hs,h.ob⟩
 ·intro i q g
  obtain⟨L,h1,j⟩:=h.boxes i q g
  exact⟨L,h1,j.dE hs (rF.refl loc) (fun _ _=>rfl)⟩
 ·intro ad v f
  rcases hi ad v f with h1|⟨h1,_,_⟩
  ·exact h.imm ad v h1
  ·exact h1
 ·intro ad v f
  rcases hi ad v f with h1|⟨_,h1,_⟩
  ·exact h.vA ad v h1
  ·exact h1
 ·intro id L b k g o
  cases hS:S' ⟨b,o,none⟩with
  |none=>rfl
  |some v=>
   rcases hi _ v hS with h1|⟨_,_,h1,_⟩
   ·have:=h.uC id L b k g o
    rw [h1]at this
    cases this
   ·exact(h1 id L k g).elim
 ·intro ad v f
  rcases hi ad v f with h1|⟨_,_,_,h1⟩
  ·exact h.xz ad v h1
  ·exact .inr h1
noncomputable def tn (S:rC) (g:Nat) (xs:List Value):rC:=fun ad=>
 match S ad with
 |some v=>some v
 |none=>if ad.block=g∧ad.spot=none then xs[ad.off]? else none
theorem tZ(S:rC)(g:Nat)(xs:List Value):Sub S (tn S g xs):=fun ad v h=>by simp [tn,h]
theorem vR{S:rC}{g:Nat}{xs:List Value}(hS:∀o,S ⟨g,o,none⟩=none){j:Nat}{v:Value}(h:xs[j]? =some v):tn S g xs ⟨g,j,none⟩=some v:=by
 simp [tn,hS,h]
theorem Sim.wx(h:Sim P X S loc s tm w)(g:Nat)(xs:List Value)(hc:∀j v,xs[j]? =some v->w.cell? ⟨g,j,none⟩=some v)(h1:∀v∈xs,v.oneCell'=true)(B:∀id L,loc id=some L->¬L.has g)(u:X.w0.heap.size<=g∨g∈X.B0):
  Sim P X (tn S g xs) loc s tm w:=by
 refine h.grow (tZ S g xs) fun ad v f=>?_
 unfold tn at f
 split at f
 ·rename_i v' r
  exact .inl (by rw [r];exact f)
 ·split at f
  ·rename_i k
   obtain⟨k,q⟩:=k
   refine .inr ⟨?_,h1 v (List.mem_of_getElem? f),?_,by rw [k];exact u⟩
   ·have:=hc ad.off v f
    rw [<-k, <-q]at this
    exact this
   ·rw [k];exact B
  ·cases f
def Frz(b:rY)(S:rC)(loc:sf)(S':rC)(id:Nat):Prop:=
 ∀ver e es,b id=some (.arr ver e es)->(∀v,R S loc (.ref id ver) v->V S' (.lst es) v)∧
  ∀lo hi v,lo<=hi->hi<=es.length->R S loc (.view id ver lo hi) v->V S' (.lst ((es.drop lo).take (hi-lo))) v
theorem Frz.mono{b:rY}{S S' f:rC}{loc:sf}{id:Nat}(h:Frz b S loc S' id)(hs:Sub S' f):Frz b S loc f id:=
 fun ver e es j=>⟨fun v g=>((h ver e es j).1 v g).mono hs,fun lo hi v h1 k g=>((h ver e es j).2 lo hi v h1 k g).mono hs⟩
theorem Sim.yj(h:Sim P X S loc s tm w){id ver:Nat}{e:TypeId}{es:List PD}(hb:s.boxes id=some (.arr ver e es)):
  ∃S',Sim P X S' (upd loc id .dead) { s with boxes:=upd s.boxes id .dead } tm w∧Sub S S'∧rF loc (upd loc id .dead)∧Frz s.boxes S loc S' id:=by
 obtain⟨L,J,a6⟩:=h.boxes id _ hb
 have I:rP (loc id) .dead:=by rw [J];exact .dead _
 have h1:=h.sq (Step.refl none w) id .dead .dead (fun b hc=>by cases hc) (.dead _ rfl) (fun b hc=>by cases hc) I
 cases a6 with
 |arr _ _ _ sz hdr xs c1 how hf=>
  have B:∀{lo hi v},R S loc (.view id ver lo hi) v->((lo=hi∧∃a,v= .slice a 0 0)∨∃g n c,hdr= .slice (some ⟨g,0,none⟩) n c∧lo<=hi∧hi<=c∧v= .slice (some ⟨g,lo*sz,none⟩) (hi-lo) (c-lo)):=by
   intro lo hi v r
   cases r with
   |view _ _ _ _ _ L _ f W=>
    rw [J]at f
    cases f
    exact(W ver e sz _ rfl).2 rfl
  have E:∀{v},R S loc (.ref id ver) v->v=hdr:=by
   intro v r
   cases r with
   |ref _ _ _ L _ f W=>
    rw [J]at f
    cases f
    exact(W ver e sz _ .arr).2 rfl
  by_cases Q:es=[]
  ·subst Q
   refine⟨S,h1,Sub.refl S,rF.upd I,fun Y e' a5 k=>?_⟩
   rw [hb]at k
   cases k
   refine⟨fun v r=>?_,fun lo hi v h2 C r=>?_⟩
   ·obtain⟨a,c,rfl,_⟩:=how.hdr
    rw [E r]
    exact .nil _ _
   ·simp only [List.length_nil,Nat.le_zero]at C
    subst C
    have:lo=0:=by omega
    subst this
    rcases B r with⟨_,a,rfl⟩|⟨g,n,c,rfl,_,_,rfl⟩
    ·exact .nil _ _
    ·exact .nil _ _
  have U:0<es.length:=by cases es with|nil=>exact(Q rfl).elim|cons=>simp
  have T:=how.vP U
  have how:=T
  rcases how.2 with⟨rfl,h0⟩|⟨g,cap,cur,fz,rfl,b4,hg,c0,b2,b3,b1⟩
  ·omega
  ·have G:=how.cells (g:=g) rfl
   have q:sX (.slice (some ⟨g,0,none⟩) es.length cap)=some g:=by cases cap with|zero=>omega|succ c=>rfl
   have b0:∀i L,upd loc id Loc.dead i=some L->¬L.has g:=by
    intro i L hi O
    by_cases hid:i=id
    ·subst hid;rw [ru]at hi;cases hi;cases O
    ·rw [si _ _ hid]at hi
     exact hid (h.inj i id L _ g hi J O q)
   have a9:X.w0.heap.size<=g∨g∈X.B0:=(h.own id _ g J q).symm
   have h2:=h1.wx g xs (fun j v hj=>by have:=G j v hj;rw [sJ]at this;simpa using this) hf.one b0 a9
   have H:∀o,S ⟨g,o,none⟩=none:=fun o=>h.uC id _ g J q o
   have F:∀lo hi,lo<=hi->hi<=es.length->V (tn S g xs) (.lst ((es.drop lo).take (hi-lo))) (.slice (some ⟨g,lo*sz,none⟩) (hi-lo) (cap-lo)):=by
    intro lo hi b6 b5
    have hlen:((es.drop lo).take (hi-lo)).length=hi-lo:=by rw [List.length_take,List.length_drop];omega
    have D:∀(i:Nat)x,((es.drop lo).take (hi-lo))[i]? =some x->es[lo+i]? =some x:=by
     intro i x K
     rw [List.getElem?_take]at K
     split at K
     ·rwa [List.getElem?_drop]at K
     ·cases K
    have:=V.lst (S:=tn S g xs) ((es.drop lo).take (hi-lo)) g (lo*sz) (cap-lo) sz (fun i j=>xs.getD ((lo+i)*sz+j) default) za
     (fun x K=>hf.len x (List.mem_of_mem_drop (List.mem_of_mem_take K)))
     (fun i e j x C N => by
      obtain⟨u,hu,_⟩:=hf.cell (lo+i) e j x (D i e C) N
      have ha:lo*sz+i*sz+j=(lo+i)*sz+j:=by rw [Nat.add_mul]
      rw [ha,vR H hu]
      simp [hu])
     (fun i e j x C N => by
      obtain⟨u,hu,W⟩:=hf.cell (lo+i) e j x (D i e C) N
      simpa [hu]using W.mono (tZ S g xs))
    rw [hlen]at this
    exact this
   refine⟨_,h2,tZ S g xs,rF.upd I,fun Y e' a5 k=>?_⟩
   rw [hb]at k
   cases k
   refine⟨fun v r=>?_,fun lo hi v C N r=>?_⟩
   ·rw [E r]
    have:=F 0 es.length (Nat.zero_le _) (DA _)
    simpa using this
   ·rcases B r with⟨rfl,a,rfl⟩|⟨g',n,c,he,_,_,rfl⟩
    ·rw [Nat.sub_self];exact .nil _ _
    ·cases he
     exact F lo hi C N
def uV(u:Ups):Prop:=∀x∈u,x.2= .dead
theorem tL(s:St)(id:Nat)(b:Box)(r:Ups):s.ups ((id,b)::r)=({ s with boxes:=upd s.boxes id b }:St).ups r:=rfl
theorem vz:∀(u f:Ups)(s:St),s.ups (u++f)=(s.ups u).ups f
 | [],_,_=>rfl
 |(id,b)::r,f,s=>by rw [List.cons_append,tL,tL,vz r f]
theorem tY:∀(u:Ups)(s:St),(s.ups u).rJ=s.rJ
 | [],_=>rfl
 |(id,b)::r,s=>by rw [tL,tY r]
theorem Sim.wo:∀(u:Ups){S:rC}{loc:sf}{s:St},Sim P X S loc s tm w->uV u->(∀x∈u,(∃ver e es,s.boxes x.1=some (.arr ver e es))∨s.boxes x.1=some .dead)->
  ∃S' loc',Sim P X S' loc' (s.ups u) tm w∧Sub S S'∧rF loc loc'∧
   ∀x∈u,Frz s.boxes S loc S' x.1
 | [],S,loc,s,h,_,_=>⟨S,loc,h,Sub.refl S,rF.refl loc,fun x g=>by cases g⟩
 |(id,b)::r,S,loc,s,h,T,K=>by
  have L:b= .dead:=T (id,b) zc
  subst L
  have hdr:uV r:=fun x g=>T x (by simp [g])
  rw [tL]
  rcases K (id,.dead) zc with⟨ver,e,es,k⟩|k
  ·obtain⟨S1,h1,F,D,O⟩:=h.yj k
   obtain ⟨I, q, J, B, E, G⟩ := Sim.wo r h1 hdr (fun x g => by
    by_cases j:x.1=id
    ·right;simp only [j,ru]
    ·simp only [si _ _ j];exact K x (by simp [g]))
   refine⟨I,q,J,F.trans B,D.trans E,?_⟩
   intro x g
   by_cases j:x.1=id
   ·rw [j]
    exact O.mono B
   ·rcases List.mem_cons.1 g with rfl|g
    ·exact(j rfl).elim
    ·intro C Q H f
     have:=G x g C Q H (by simp only [si _ _ j];exact f)
     exact⟨fun v N=>this.1 v (N.mono F D),fun lo hi v U W N=>this.2 lo hi v U W (N.mono F D)⟩
  ·have heq:({ s with boxes:=upd s.boxes id .dead }:St)=s:=by
    have:upd s.boxes id .dead=s.boxes:=by
     funext i
     by_cases hi:i=id
     ·subst hi;rw [ru];exact k.symm
     ·rw [si _ _ hi]
    rw [this]
   rw [heq]
   obtain⟨I,q,J,B,E,G⟩:=Sim.wo r h hdr (fun x g=>K x (by simp [g]))
   refine⟨I,q,J,B,E,?_⟩
   intro x g
   rcases List.mem_cons.1 g with rfl|g
   ·intro C Q H f
    simp only at k f
    rw [k]at f
    cases f
   ·exact G x g
theorem rU{rv:RV}{b:rY}{p:PD}{u:Ups}{r:List Nat}(h:yp rv b=some ((p,u),r,true)):
  uV u∧(∀x∈u,∃ver e es,b x.1=some (.arr ver e es))∧
  ∀S loc S' v,R S loc rv v->Sub S S'->(∀x∈u,Frz b S loc S' x.1)->V S' p v:=by
 cases rv with
 |d q=>
  obtain⟨h1, -, -⟩:=M.qw (b:=b) h
  cases h1
  refine⟨(fun x k=>by cases k),(fun x k=>by cases k),fun S loc S' v C hs _=>?_⟩
  cases C with|d h=>exact h.mono hs
 |pY=>
  obtain⟨h1, -, -⟩:=M.qw (b:=b) h
  cases h1
  refine⟨(fun x k=>by cases k),(fun x k=>by cases k),fun S loc S' v C hs _=>?_⟩
  cases C with|pY=>exact .nil none 0
 |ref id ver=>
  obtain⟨E,J,K,h1,j,_⟩:=M.bind_some h
  obtain⟨D,_,_⟩:=M.get_some h1
  cases E with
  |arr B e es=>
   by_cases g:ver=B
   rotate_left
   ·simp only [g,if_false]at j;exact fE b j
   simp only [g,if_true]at j
   subst g
   obtain⟨F, -, -⟩:=M.qw j
   cases F
   refine⟨(fun x k=>by simp at k;rw [k]),(fun x k=>by simp at k;subst k;exact⟨ver,e,es,D⟩),fun S loc S' v C hs G=>?_⟩
   exact(G (id,.dead) zc ver e es D).1 v C
  |var _=>exact fE b j
  |dead=>exact fE b j
  |map _ _ _=>exact fE b j
  |nest _ _ _ _ _=>exact fE b j
  |hole _ _ _ _ _ _=>exact fE b j
 |undef=>exact fE b h
 |junk=>exact fE b h
 |agg cs=>exact fE b h
 |tup cs=>exact fE b h
 |ptr a c=>exact fE b h
 |elt a c d f=>exact fE b h
 |cptr a=>exact fE b h
 |view id ver lo hi=>
  obtain⟨E,J,K,h1,j,_⟩:=M.bind_some h
  obtain⟨D,_,_⟩:=M.get_some h1
  cases E with
  |arr B e es=>
   by_cases g:ver=B
   rotate_left
   ·simp only [g,if_false]at j;exact fE b j
   simp only [g,if_true]at j
   subst g
   obtain⟨F, -,I⟩:=M.rm j
   cases F
   have H:lo<=hi∧hi<=es.length:=of_decide_eq_true I.symm
   refine⟨(fun x k=>by simp at k;rw [k]),(fun x k=>by simp at k;subst k;exact⟨ver,e,es,D⟩),fun S loc S' v C hs G=>?_⟩
   exact(G (id,.dead) zc ver e es D).2 lo hi v H.1 H.2 C
  |var _=>exact fE b j
  |dead=>exact fE b j
  |map _ _ _=>exact fE b j
  |nest _ _ _ _ _=>exact fE b j
  |hole _ _ _ _ _ _=>exact fE b j
 |clo a c=>exact fE b h
 |fview _ _ _=>exact fE b h
 |err _=>exact fE b h
 |dfull _=>exact fE b h
 |ifc _ _=>exact fE b h
 |plit _=>exact fE b h
 |pcp _=>exact fE b h
theorem xY:∀{cs:List RV}{b:rY}{ps:List PD}{u:Ups}{r:List Nat},vI cs b=some ((ps,u),r,true)->
  uV u∧(∀x∈u,∃ver e es,b x.1=some (.arr ver e es))∧ps.length=cs.length∧
  ∀S loc S',Sub S S'->(∀x∈u,Frz b S loc S' x.1)->
   ∀(i:Nat)c p v,cs[i]? =some c->ps[i]? =some p->R S loc c v->V S' p v
 | [],b,ps,u,r,h=>by
  obtain⟨h1, -, -⟩:=M.qw h
  cases h1
  exact⟨(fun x f=>by cases f),(fun x f=>by cases f),rfl,fun S loc S' _ _ i c p v h1=>by simp at h1⟩
 |c::cs,b,ps,u,r,h=>by
  obtain⟨⟨p,u1⟩,K,L,h1,E,_⟩:=M.bind_some h
  obtain⟨⟨J,u2⟩,N,O,F,G,_⟩:=M.bind_some E
  obtain⟨H, -, -⟩:=M.qw G
  cases H
  obtain⟨a1,a2,a3⟩:=rU h1
  obtain⟨k,q,B,C⟩:=xY F
  refine⟨fun x f=>?_,fun x f=>?_,by simp [B],?_⟩
  ·rcases List.mem_append.1 f with f|f
   ·exact a1 x f
   ·exact k x f
  ·rcases List.mem_append.1 f with f|f
   ·exact a2 x f
   ·exact q x f
  ·intro S loc S' hs j i D I v hc hp g
   cases i with
   |zero=>
    simp only [List.getElem?_cons_zero,Option.some.injEq]at hc hp
    subst hc;subst hp
    exact a3 S loc S' v g hs fun x f=>j x (List.mem_append.2 (.inl f))
   |succ i=>
    simp only [List.getElem?_cons_succ]at hc hp
    exact C S loc S' hs (fun x f=>j x (List.mem_append.2 (.inr f))) i D I v hc hp g
theorem Cw{v:RV}(h:isNils v=true):v= .pY:=by cases v<;>first|rfl|cases h
theorem BS{mt:Bool}{cs:List RV}{b:rY}{ps:List PD}{u:Ups}{r:List Nat}(h:xN mt cs b=some ((ps,u),r,true)):
  uV u∧(∀x∈u,∃ver e es,b x.1=some (.arr ver e es))∧ps.length=cs.length∧
  ∀S loc S',Sub S S'->(∀x∈u,Frz b S loc S' x.1)->
   ∀(i:Nat)c p v,cs[i]? =some c->ps[i]? =some p->R S loc c v->V S' p v:=by
 unfold xN at h
 split at h
 ·rename_i hc
  simp only [zt,Bool.and_eq_true]at hc
  obtain⟨h1, -, -⟩:=M.qw h
  cases h1
  refine⟨(fun x f=>by cases f),(fun x f=>by cases f),zc,fun S loc S' _ _ i c p v h1 g j=>?_⟩
  have:=Cw (List.all_eq_true.1 hc.2.2 c (List.mem_of_getElem? h1))
  subst this
  rw [List.getElem?_map,h1]at g
  cases g
  cases j
  exact .raw _ rfl
 ·exact xY h
theorem v8{rv:RV}{b:rY}{p:PD}{u:Ups}{r:List Nat}(h:uB rv b=some ((p,u),r,true)):
  uV u∧(∀x∈u,∃ver e es,b x.1=some (.arr ver e es))∧
  ∀S loc S' v,R S loc rv v->Sub S S'->(∀x∈u,Frz b S loc S' x.1)->V S' p v:=by
 cases rv with
 |agg cs=>
  unfold uB at h
  obtain⟨⟨ps,u1⟩,D,E,h1,j,_⟩:=M.bind_some h
  obtain⟨k, -, -⟩:=M.qw j
  cases k
  obtain⟨a1,a2,a3,a4⟩:=xY h1
  refine⟨a1,a2,fun S loc S' v B hs C=>?_⟩
  obtain⟨vs,rfl,hlen,hc⟩:=B.xi
  refine .agg ps vs (by rw [hlen,a3]) fun i p v hp g=>?_
  have hi:i<cs.length:=by rw [<-a3];exact(List.getElem?_eq_some_iff.1 hp).1
  exact a4 S loc S' hs C i cs[i] p v (zf hi) hp (hc i _ v (zf hi) g)
 |d q=>exact rU h
 |pY=>exact rU h
 |ref id ver=>exact rU h
 |undef=>exact rU h
 |junk=>exact rU h
 |tup cs=>exact rU h
 |ptr a c=>exact rU h
 |elt a c d f=>exact rU h
 |cptr a=>exact rU h
 |view a c d f=>exact rU h
 |clo a c=>exact rU h
 |fview _ _ _=>exact rU h
 |err _=>exact rU h
 |dfull _=>exact rU h
 |ifc _ _=>exact rU h
 |plit _=>exact rU h
 |pcp _=>exact rU h
end
end Go.Dw
