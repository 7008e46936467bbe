
import Derived.Test.YtfmoipelhfkdkaaGreatDoorDwAddr
open Nat renaming le_refl->DI, le_trans->DU, lt_of_lt_of_le->DV

namespace Go.Dw
theorem rT.trans{a b c:ss}(h:rT a b)(j:rT b c):rT a c:=by
 intro id L u
 obtain⟨g,h1,k⟩:=h id L u
 obtain⟨f,q,r⟩:=j id g h1
 exact⟨f,q,k.trans r⟩
def upd{α:Type}(f:Nat->Option α)(id:Nat)(x:α):Nat->Option α:=fun i=>if i=id then some x else f i
theorem rK{α:Type}(f:Nat->Option α)(id:Nat)(x:α):upd f id x id=some x:=by simp [upd]
theorem sy{α:Type}(f:Nat->Option α){id i:Nat}(x:α)(h:i≠id):upd f id x i=f i:=by simp [upd,h]
def sb(o:Option Loc)(f:Loc):Prop:=
 match o with
 |none=>True
 |some L=>vE L f
theorem sb.trans{f g j:Loc}(h:sb (some f) g)(k:sb (some g) j):sb (some f) j:=vE.trans h k
theorem rT.upd{loc:ss}{id:Nat}{f:Loc}(h:sb (loc id) f):rT loc (upd loc id f):=by
 intro i L g
 by_cases hi:i=id
 ·subst hi
  rw [g]at h
  exact⟨f,rK _ _ _,h⟩
 ·exact⟨L,by rw [sy _ _ hi];exact g,.same L⟩
structure Step(chg:Option Nat)(w w':World):Prop where
 os:w'.os=w.os
 tape:w'.tape=w.tape
 output:w'.output=w.output
 size:w.heap.size<=w'.heap.size
 block:∀b,b<w.heap.size->some b≠chg->w'.heap[b]? =w.heap[b]?
 drawn:w.drawn<=w'.drawn
theorem Step.refl(f:Option Nat)(w:World):Step f w w:=⟨rfl,rfl,rfl,DI _,fun _ _ _=>rfl,DI _⟩
theorem Step.alloc(w:World)(o:Obj):Step none w (w.alloc o):=⟨rfl,rfl,rfl,zc,fun b f _=>heap_alloc_old w o b f,DI _⟩
theorem Step.trans{f:Option Nat}{a b c:World}(h:Step f a b)(g:Step f b c):Step f a c:=
 ⟨g.os.trans h.os, g.tape.trans h.tape, g.output.trans h.output, DU h.size g.size,
  fun x k j=>(g.block x (DV k h.size) j).trans (h.block x k j),DU h.drawn g.drawn⟩
theorem Step.drew(w:World):Step none w w.drew:=⟨rfl,rfl,rfl,DI _,fun _ _ _=>rfl,Nat.le_succ _⟩
theorem Step.setRow(w:World)(g:Nat)(cs:Array Value):Step (some g) w (w.setRow g cs):=
 ⟨rfl,rfl,rfl,zc,fun b _ f=>setRow_other w g b cs (fun e=>f (by rw [e])),DI _⟩
theorem Step.mono{f:Option Nat}{w w':World}(h:Step none w w'):Step f w w':=⟨h.os,h.tape,h.output,h.size,fun b g _=>h.block b g zc,h.drawn⟩
theorem Frame.step{E:Prop}{B0:List Nat}{w0 w w':World}{f:Option Nat}(h:Frame E B0 w0 w)(hs:Step f w w')(hc:∀b,f=some b->b∈B0∨w0.heap.size<=b):Frame E B0 w0 w':=
 ⟨hs.os.trans h.os, hs.tape.trans h.tape, hs.output.trans h.output, DU h.size hs.size, fun b g j => by
  rw [hs.block b (DV g h.size) ?_]
  ·exact h.block b g j
  ·intro he
   rcases hc b he.symm with h1|h1
   ·exact j h1
   ·omega,fun he=>DU (h.drawn he) hs.drawn⟩
section
variable {P:Program}{X:Ctx}{S:rP}{loc:ss}{s:St}{tm:Array Value}{w:World}
theorem vD.uW{j:Box}{L:Loc}{b:Nat}(h:vD P S loc w j L)(f:L.has b):b<w.heap.size:=by
 cases h with
 |var cs b' t vs hw hl hc=>cases f;exact(Array.getElem?_eq_some_iff.1 hw).1
 |arr ver e es sz hdr xs g how hf=>exact how.lt f
 |dead L k=>subst k;cases f
 |map E F es b' clock ents hw hl hc=>cases f;exact(Array.getElem?_eq_some_iff.1 hw).1
 |nest ver e e2 ess C hdr xs bs g r how hc q hi=>
  rcases List.mem_append.1 f with f|f
  ·exact how.lt (by simpa using f)
  ·exact hc.lt b f
 |hole ver e es i o rv sz hdr xs u g how hf hi ho hu D=>exact how.lt f
theorem vD.dE{S S':rP}{loc':ss}{w':World}{D:Box}{L:Loc}(h:vD P S loc w D L)(hs:Sub S S')(hl:rT loc loc')(j:∀b,L.has b->w'.heap[b]? =w.heap[b]?):
  vD P S' loc' w' D L:=by
 cases h with
 |var cs b t vs hw hlen hc=>exact .var cs b t vs (by rw [j b rfl];exact hw) hlen (fun i c v h1 q=>(hc i c v h1 q).mono hs hl)
 |arr ver e es sz hdr xs f how hf=>exact .arr ver e es sz hdr xs f (how.dE j) (hf.mono hs)
 |dead L F=>exact .dead L F
 |map I J es b clock ents hw hlen hc=>exact .map I J es b clock ents (by rw [j b rfl];exact hw) hlen (fun i k x E h1 q=>⟨(hc i k x E h1 q).1.mono hs,(hc i k x E h1 q).2.mono hs⟩)
 |nest ver e e2 ess G hdr xs bs f C how hc r hi=>
  exact .nest ver e e2 ess G hdr xs bs f C (how.dE fun b g=>j b (List.mem_append.2 (.inl (by simpa using g)))) (hc.dE hs hl fun b g=>j b (List.mem_append.2 (.inr g))) r hi
 |hole ver e es i o rv sz hdr xs u f how hf hi ho hu H=>exact .hole ver e es i o rv sz hdr xs u f (how.dE j) (hf.mono hs) hi ho hu (H.mono hs hl)
theorem ue{w w':World}{ad:Addr}(h:w'.heap[ad.block]? =w.heap[ad.block]?):w'.cell? ad=w.cell? ad:=by simp [World.cell?,h]
theorem Sim.sW(h:Sim P X S loc s tm w){w':World}{T:Option Nat}(hs:Step T w w')(id:Nat)(G:Box)(E:Loc)
  (u:∀b,T=some b->∃L,loc id=some L∧L.has b)
  (U:vD P S (upd loc id E) w' G E)
  (hblk:∀b,E.has b->(∃L,loc id=some L∧L.has b)∨w.heap.size<=b∨((∀i L,loc i=some L->¬L.has b)∧(∀o,S ⟨b,o,none⟩=none)∧(b∈X.B0∨X.w0.heap.size<=b)))
  (N:sb (loc id) E):
  Sim P X S (upd loc id E) { s with boxes:=upd s.boxes id G } tm w':=by
 have hle:rT loc (upd loc id E):=rT.upd N
 have J:∀D L,D≠id->loc D=some L->∀b,L.has b->w'.heap[b]? =w.heap[b]? :=by
  intro D L Y f b q
  obtain⟨Q,I⟩:=h.dom D L f
  refine hs.block b ((h.tN I f).uW q) ?_
  intro hc
  obtain⟨F,h1,r⟩:=u b hc.symm
  exact Y (h.inj D id L F b f h1 q r)
 refine⟨h.nt,?_,?_,?_,?_,h.vN,?_,?_,?_,?_,h.s0,?_,h.xM,h.bs,fun x hx=>?_⟩
 rotate_right
 ·obtain⟨h1,o,v,r⟩:=h.ob x hx
  refine⟨?_,o,v,r⟩
  rw [<-h1]
  refine hs.block _ (Array.getElem?_eq_some_iff.1 h1).1 fun hc=>?_
  obtain⟨L,h3,h4⟩:=u _ hc.symm
  have h5:=h.uM id L x.1 h3 h4 o
  rw [h.bs _ _ r]at h5
  cases h5
 ·intro t rv ht
  obtain⟨v,h1,r⟩:=h.rX t rv ht
  exact⟨v,h1,r.mono (Sub.refl S) hle⟩
 ·intro i Q q
  by_cases hi:i=id
  ·subst hi
   simp only [rK,Option.some.injEq]at q
   subst q
   exact⟨E,rK _ _ _,U⟩
  ·simp only [sy _ _ hi]at q
   obtain⟨L,h1,r⟩:=h.boxes i Q q
   exact⟨L,by rw [sy _ _ hi];exact h1,r.dE (Sub.refl S) hle (J i L hi h1)⟩
 ·intro i L f
  by_cases hi:i=id
  ·subst hi;exact⟨G,rK _ _ _⟩
  ·rw [sy _ _ hi]at f
   obtain⟨Q,q⟩:=h.dom i L f
   exact⟨Q,by simp only [sy _ _ hi];exact q⟩
 ·intro ad v hv
  have hc:=h.imm ad v hv
  rw [<-hc]
  refine ue (hs.block ad.block (World.block_lt_of_cell? w ad hc) ?_)
  intro he
  obtain⟨L,h1,r⟩:=u _ he.symm
  have K:ad.spot=none:=by
   unfold World.cell? at hc
   split at hc
   ·split at hc
    ·cases hc
    ·rename_i K;simpa using K
   ·cases hc
  have:=h.uM id L ad.block h1 r ad.off
  rw [<-K]at this
  rw [hv]at this
  cases this
 ·intro i L b f q o
  by_cases hi:i=id
  ·subst hi
   rw [rK]at f
   cases f
   rcases hblk b q with⟨F,h1,r⟩|g|⟨_,g,_⟩
   ·exact h.uM i F b h1 r o
   rotate_left
   ·exact g o
   ·cases hS:S ⟨b,o,none⟩with
    |none=>rfl
    |some v=>
     have:=World.block_lt_of_cell? w _ (h.imm _ v hS)
     simp at this
     omega
  ·rw [sy _ _ hi]at f
   exact h.uM i L b f q o
 ·intro i j L F b f C q H
  have key:∀i L,i≠id->loc i=some L->L.has b->E.has b->False:=by
   intro i L hi f q W
   obtain⟨Q,I⟩:=h.dom i L f
   rcases hblk b W with⟨L3,h1,r⟩|g|⟨g,_,_⟩
   ·exact hi (h.inj i id L L3 b f h1 q r)
   rotate_left
   ·exact g i L f q
   ·have:=(h.tN I f).uW q
    omega
  by_cases hi:i=id
  ·by_cases O:j=id
   ·rw [hi,O]
   ·subst hi
    rw [rK]at f
    cases f
    rw [sy _ _ O]at C
    exact(key j F O C H q).elim
  ·by_cases O:j=id
   ·subst O
    rw [rK]at C
    cases C
    rw [sy _ _ hi]at f
    exact(key i L hi f q H).elim
   ·rw [sy _ _ hi]at f
    rw [sy _ _ O]at C
    exact h.inj i j L F b f C q H
 ·intro i L b f q
  by_cases hi:i=id
  ·subst hi
   rw [rK]at f
   cases f
   rcases hblk b q with⟨F,h1,r⟩|g|⟨_,_,g⟩
   ·exact h.own i F b h1 r
   ·exact .inr (DU h.frame.size g)
   ·exact g
  ·rw [sy _ _ hi]at f
   exact h.own i L b f q
 ·refine h.frame.step hs fun b q=>?_
  obtain⟨L,h1,r⟩:=u b q
  exact h.own id L b h1 r
 ·intro k b hk
  by_cases hi:k=id
  ·subst hi
   refine⟨E,rK _ _ _,?_⟩
   obtain⟨L,f,h1⟩:=h.par k b hk
   rw [f]at N
   exact sb.trans h1 N
  ·rw [sy _ _ hi];exact h.par k b hk
theorem Sim.stepW(h:Sim P X S loc s tm w){w':World}(hs:Step none w w'):Sim P X S loc s tm w':=by
 refine⟨h.nt,h.rX,?_,h.dom,?_,h.vN,h.uM,h.inj,h.own,h.frame.step hs (fun b f=>by cases f),h.s0,h.par,h.xM,h.bs,fun x g=>⟨by rw [<-(h.ob x g).1];exact hs.block _ (Array.getElem?_eq_some_iff.1 (h.ob x g).1).1 zc,(h.ob x g).2⟩⟩
 ·intro i k f
  obtain⟨L,h1,j⟩:=h.boxes i k f
  exact⟨L,h1,j.dE (Sub.refl S) (rT.refl loc) (fun b f=>hs.block b (j.uW f) zc)⟩
 ·intro ad v q
  have hc:=h.imm ad v q
  rw [<-hc]
  exact ue (hs.block ad.block (World.block_lt_of_cell? w ad hc) zc)
theorem Sim.grow(h:Sim P X S loc s tm w){S':rP}(hs:Sub S S')(hi:∀ad v,S' ad=some v->S ad=some v∨(w.cell? ad=some v∧v.oneCell'=true∧(∀id L,loc id=some L->¬L.has ad.block)∧(X.w0.heap.size<=ad.block∨ad.block∈X.B0))):
  Sim P X S' loc s tm w:=by
 refine⟨h.nt,fun t rv r=>let⟨v,h1,j⟩:=h.rX t rv r;⟨v,h1,j.mono hs (rT.refl loc)⟩,?_,h.dom,?_,?_,?_,h.inj,h.own,h.frame,h.s0.trans hs,h.par,?_,h.bs.trans hs,h.ob⟩
 ·intro i q g
  obtain⟨L,h1,j⟩:=h.boxes i q g
  exact⟨L,h1,j.dE hs (rT.refl loc) (fun _ _=>rfl)⟩
 ·intro ad v f
  rcases hi ad v f with h1|⟨h1,_,_⟩
  ·exact h.imm ad v h1
  ·exact h1
 ·intro ad v f
  rcases hi ad v f with h1|⟨_,h1,_⟩
  ·exact h.vN ad v h1
  ·exact h1
 ·intro id L b k g o
  cases hS:S' ⟨b,o,none⟩with
  |none=>rfl
  |some v=>
   rcases hi _ v hS with h1|⟨_,_,h1,_⟩
   ·have:=h.uM id L b k g o
    rw [h1]at this
    cases this
   ·exact(h1 id L k g).elim
 ·intro ad v f
  rcases hi ad v f with h1|⟨_,_,_,h1⟩
  ·exact h.xM ad v h1
  ·exact .inr h1
noncomputable def tE (S:rP) (g:Nat) (xs:List Value):rP:=fun ad=>
 match S ad with
 |some v=>some v
 |none=>if ad.block=g∧ad.spot=none then xs[ad.off]? else none
theorem uk(S:rP)(g:Nat)(xs:List Value):Sub S (tE S g xs):=fun ad v h=>by simp [tE,h]
theorem we{S:rP}{g:Nat}{xs:List Value}(hS:∀o,S ⟨g,o,none⟩=none){j:Nat}{v:Value}(h:xs[j]? =some v):tE S g xs ⟨g,j,none⟩=some v:=by
 simp [tE,hS,h]
theorem Sim.wI(h:Sim P X S loc s tm w)(g:Nat)(xs:List Value)(hc:∀j v,xs[j]? =some v->w.cell? ⟨g,j,none⟩=some v)(h1:∀v∈xs,v.oneCell'=true)(C:∀id L,loc id=some L->¬L.has g)(u:X.w0.heap.size<=g∨g∈X.B0):
  Sim P X (tE S g xs) loc s tm w:=by
 refine h.grow (uk S g xs) fun ad v f=>?_
 unfold tE at f
 split at f
 ·rename_i v' r
  exact .inl (by rw [r];exact f)
 ·split at f
  ·rename_i k
   obtain⟨k,q⟩:=k
   refine .inr ⟨?_,h1 v (List.mem_of_getElem? f),?_,by rw [k];exact u⟩
   ·have:=hc ad.off v f
    rw [<-k, <-q]at this
    exact this
   ·rw [k];exact C
  ·cases f
def Frz(b:sj)(S:rP)(loc:ss)(S':rP)(id:Nat):Prop:=
 ∀ver e es,b id=some (.arr ver e es)->(∀v,R S loc (.ref id ver) v->V S' (.lst es) v)∧
  ∀lo hi v,lo<=hi->hi<=es.length->R S loc (.view id ver lo hi) v->V S' (.lst ((es.drop lo).take (hi-lo))) v
theorem Frz.mono{b:sj}{S S' f:rP}{loc:ss}{id:Nat}(h:Frz b S loc S' id)(hs:Sub S' f):Frz b S loc f id:=
 fun ver e es j=>⟨fun v g=>((h ver e es j).1 v g).mono hs,fun lo hi v h1 k g=>((h ver e es j).2 lo hi v h1 k g).mono hs⟩
theorem Sim.yA(h:Sim P X S loc s tm w){id ver:Nat}{e:TypeId}{es:List PD}(hb:s.boxes id=some (.arr ver e es)):
  ∃S',Sim P X S' (upd loc id .dead) { s with boxes:=upd s.boxes id .dead } tm w∧Sub S S'∧rT loc (upd loc id .dead)∧Frz s.boxes S loc S' id:=by
 obtain⟨L,K,a9⟩:=h.boxes id _ hb
 have J:sb (loc id) .dead:=by rw [K];exact .dead _
 have h1:=h.sW (Step.refl none w) id .dead .dead (fun b hc=>by cases hc) (.dead _ rfl) (fun b hc=>by cases hc) J
 cases a9 with
 |arr _ _ _ sz hdr xs c2 how hf=>
  have C:∀{lo hi v},R S loc (.view id ver lo hi) v->((lo=hi∧∃a,v= .slice a 0 0)∨∃g n c,hdr= .slice (some ⟨g,0,none⟩) n c∧lo<=hi∧hi<=c∧v= .slice (some ⟨g,lo*sz,none⟩) (hi-lo) (c-lo)):=by
   intro lo hi v r
   cases r with
   |view _ _ _ _ _ L _ f Y=>
    rw [K]at f
    cases f
    exact(Y ver e sz _ rfl).2 rfl
  have F:∀{v},R S loc (.ref id ver) v->v=hdr:=by
   intro v r
   cases r with
   |ref _ _ _ L _ f Y=>
    rw [K]at f
    cases f
    exact(Y ver e sz _ .arr).2 rfl
  by_cases T:es=[]
  ·subst T
   refine⟨S,h1,Sub.refl S,rT.upd J,fun a5 e' a6 k=>?_⟩
   rw [hb]at k
   cases k
   refine⟨fun v r=>?_,fun lo hi v h2 D r=>?_⟩
   ·obtain⟨a,c,rfl,_⟩:=how.hdr
    rw [F r]
    exact .nil _ _
   ·simp only [List.length_nil,Nat.le_zero]at D
    subst D
    have:lo=0:=by omega
    subst this
    rcases C r with⟨_,a,rfl⟩|⟨g,n,c,rfl,_,_,rfl⟩
    ·exact .nil _ _
    ·exact .nil _ _
  have W:0<es.length:=by cases es with|nil=>exact(T rfl).elim|cons=>simp
  have U:=how.v8 W
  have how:=U
  rcases how.2 with⟨rfl,h0⟩|⟨g,cap,cur,fz,rfl,b5,hg,c1,b3,b4,b2⟩
  ·omega
  ·have H:=how.cells (g:=g) rfl
   have q:tp (.slice (some ⟨g,0,none⟩) es.length cap)=some g:=by cases cap with|zero=>omega|succ c=>rfl
   have b1:∀i L,upd loc id Loc.dead i=some L->¬L.has g:=by
    intro i L hi Q
    by_cases hid:i=id
    ·subst hid;rw [rK]at hi;cases hi;cases Q
    ·rw [sy _ _ hid]at hi
     exact hid (h.inj i id L _ g hi K Q q)
   have b0:X.w0.heap.size<=g∨g∈X.B0:=(h.own id _ g K q).symm
   have h2:=h1.wI g xs (fun j v hj=>by have:=H j v hj;rw [th]at this;simpa using this) hf.one b1 b0
   have I:∀o,S ⟨g,o,none⟩=none:=fun o=>h.uM id _ g K q o
   have G:∀lo hi,lo<=hi->hi<=es.length->V (tE S g xs) (.lst ((es.drop lo).take (hi-lo))) (.slice (some ⟨g,lo*sz,none⟩) (hi-lo) (cap-lo)):=by
    intro lo hi c0 b6
    have hlen:((es.drop lo).take (hi-lo)).length=hi-lo:=by rw [List.length_take,List.length_drop];omega
    have E:∀(i:Nat)x,((es.drop lo).take (hi-lo))[i]? =some x->es[lo+i]? =some x:=by
     intro i x N
     rw [List.getElem?_take]at N
     split at N
     ·rwa [List.getElem?_drop]at N
     ·cases N
    have:=V.lst (S:=tE S g xs) ((es.drop lo).take (hi-lo)) g (lo*sz) (cap-lo) sz (fun i j=>xs.getD ((lo+i)*sz+j) default) za
     (fun x N=>hf.len x (List.mem_of_mem_drop (List.mem_of_mem_take N)))
     (fun i e j x D O => by
      obtain⟨u,hu,_⟩:=hf.cell (lo+i) e j x (E i e D) O
      have ha:lo*sz+i*sz+j=(lo+i)*sz+j:=by rw [Nat.add_mul]
      rw [ha,we I hu]
      simp [hu])
     (fun i e j x D O => by
      obtain⟨u,hu,Y⟩:=hf.cell (lo+i) e j x (E i e D) O
      simpa [hu]using Y.mono (uk S g xs))
    rw [hlen]at this
    exact this
   refine⟨_,h2,uk S g xs,rT.upd J,fun a5 e' a6 k=>?_⟩
   rw [hb]at k
   cases k
   refine⟨fun v r=>?_,fun lo hi v D O r=>?_⟩
   ·rw [F r]
    have:=G 0 es.length (Nat.zero_le _) (DI _)
    simpa using this
   ·rcases C r with⟨rfl,a,rfl⟩|⟨g',n,c,he,_,_,rfl⟩
    ·rw [Nat.sub_self];exact .nil _ _
    ·cases he
     exact G lo hi D O
def vn(u:Ups):Prop:=∀x∈u,x.2= .dead
theorem tW(s:St)(id:Nat)(b:Box)(r:Ups):s.ups ((id,b)::r)=({ s with boxes:=upd s.boxes id b }:St).ups r:=rfl
theorem vM:∀(u f:Ups)(s:St),s.ups (u++f)=(s.ups u).ups f
 | [],_,_=>rfl
 |(id,b)::r,f,s=>by rw [List.cons_append,tW,tW,vM r f]
theorem uj:∀(u:Ups)(s:St),(s.ups u).rX=s.rX
 | [],_=>rfl
 |(id,b)::r,s=>by rw [tW,uj r]
theorem Sim.wF:∀(u:Ups){S:rP}{loc:ss}{s:St},Sim P X S loc s tm w->vn u->(∀x∈u,(∃ver e es,s.boxes x.1=some (.arr ver e es))∨s.boxes x.1=some .dead)->
  ∃S' loc',Sim P X S' loc' (s.ups u) tm w∧Sub S S'∧rT loc loc'∧
   ∀x∈u,Frz s.boxes S loc S' x.1
 | [],S,loc,s,h,_,_=>⟨S,loc,h,Sub.refl S,rT.refl loc,fun x g=>by cases g⟩
 |(id,b)::r,S,loc,s,h,U,L=>by
  have N:b= .dead:=U (id,b) zc
  subst N
  have hdr:vn r:=fun x g=>U x (by simp [g])
  rw [tW]
  rcases L (id,.dead) zc with⟨ver,e,es,k⟩|k
  ·obtain⟨S1,h1,G,E,Q⟩:=h.yA k
   obtain ⟨J, q, K, C, F, H⟩ := Sim.wF r h1 hdr (fun x g => by
    by_cases j:x.1=id
    ·right;simp only [j,rK]
    ·simp only [sy _ _ j];exact L x (by simp [g]))
   refine⟨J,q,K,G.trans C,E.trans F,?_⟩
   intro x g
   by_cases j:x.1=id
   ·rw [j]
    exact Q.mono C
   ·rcases List.mem_cons.1 g with rfl|g
    ·exact(j rfl).elim
    ·intro D T I f
     have:=H x g D T I (by simp only [sy _ _ j];exact f)
     exact⟨fun v O=>this.1 v (O.mono G E),fun lo hi v W Y O=>this.2 lo hi v W Y (O.mono G E)⟩
  ·have heq:({ s with boxes:=upd s.boxes id .dead }:St)=s:=by
    have:upd s.boxes id .dead=s.boxes:=by
     funext i
     by_cases hi:i=id
     ·subst hi;rw [rK];exact k.symm
     ·rw [sy _ _ hi]
    rw [this]
   rw [heq]
   obtain⟨J,q,K,C,F,H⟩:=Sim.wF r h hdr (fun x g=>L x (by simp [g]))
   refine⟨J,q,K,C,F,?_⟩
   intro x g
   rcases List.mem_cons.1 g with rfl|g
   ·intro D T I f
    simp only at k f
    rw [k]at f
    cases f
   ·exact H x g
theorem sf{rv:RV}{b:sj}{p:PD}{u:Ups}{r:List Nat}(h:yH rv b=some ((p,u),r,true)):
  vn u∧(∀x∈u,∃ver e es,b x.1=some (.arr ver e es))∧
  ∀S loc S' v,R S loc rv v->Sub S S'->(∀x∈u,Frz b S loc S' x.1)->V S' p v:=by
 cases rv with
 |d q=>
  obtain⟨h1, -, -⟩:=M.pZ (b:=b) h
  cases h1
  refine⟨(fun x k=>by cases k),(fun x k=>by cases k),fun S loc S' v D hs _=>?_⟩
  cases D with|d h=>exact h.mono hs
 |rm=>
  obtain⟨h1, -, -⟩:=M.pZ (b:=b) h
  cases h1
  refine⟨(fun x k=>by cases k),(fun x k=>by cases k),fun S loc S' v D hs _=>?_⟩
  cases D with|rm=>exact .nil none 0
 |ref id ver=>
  obtain⟨F,K,L,h1,j,_⟩:=M.bind_some h
  obtain⟨E,_,_⟩:=M.get_some h1
  cases F with
  |arr C e es=>
   by_cases g:ver=C
   rotate_left
   ·simp only [g,if_false]at j;exact fE b j
   simp only [g,if_true]at j
   subst g
   obtain⟨G, -, -⟩:=M.pZ j
   cases G
   refine⟨(fun x k=>by simp at k;rw [k]),(fun x k=>by simp at k;subst k;exact⟨ver,e,es,E⟩),fun S loc S' v D hs H=>?_⟩
   exact(H (id,.dead) zc ver e es E).1 v D
  |var _=>exact fE b j
  |dead=>exact fE b j
  |map _ _ _=>exact fE b j
  |nest _ _ _ _ _=>exact fE b j
  |hole _ _ _ _ _ _=>exact fE b j
 |undef=>exact fE b h
 |junk=>exact fE b h
 |agg cs=>exact fE b h
 |tup cs=>exact fE b h
 |ptr a c=>exact fE b h
 |elt a c d f=>exact fE b h
 |cptr a=>exact fE b h
 |view id ver lo hi=>
  obtain⟨F,K,L,h1,j,_⟩:=M.bind_some h
  obtain⟨E,_,_⟩:=M.get_some h1
  cases F with
  |arr C e es=>
   by_cases g:ver=C
   rotate_left
   ·simp only [g,if_false]at j;exact fE b j
   simp only [g,if_true]at j
   subst g
   obtain⟨G, -,J⟩:=M.rE j
   cases G
   have I:lo<=hi∧hi<=es.length:=of_decide_eq_true J.symm
   refine⟨(fun x k=>by simp at k;rw [k]),(fun x k=>by simp at k;subst k;exact⟨ver,e,es,E⟩),fun S loc S' v D hs H=>?_⟩
   exact(H (id,.dead) zc ver e es E).2 lo hi v I.1 I.2 D
  |var _=>exact fE b j
  |dead=>exact fE b j
  |map _ _ _=>exact fE b j
  |nest _ _ _ _ _=>exact fE b j
  |hole _ _ _ _ _ _=>exact fE b j
 |clo a c=>exact fE b h
 |fview _ _ _=>exact fE b h
 |err _=>exact fE b h
 |dfull _=>exact fE b h
 |ifc _ _=>exact fE b h
 |plit _=>exact fE b h
 |pcp _=>exact fE b h
theorem ym:∀{cs:List RV}{b:sj}{ps:List PD}{u:Ups}{r:List Nat},vU cs b=some ((ps,u),r,true)->
  vn u∧(∀x∈u,∃ver e es,b x.1=some (.arr ver e es))∧ps.length=cs.length∧
  ∀S loc S',Sub S S'->(∀x∈u,Frz b S loc S' x.1)->
   ∀(i:Nat)c p v,cs[i]? =some c->ps[i]? =some p->R S loc c v->V S' p v
 | [],b,ps,u,r,h=>by
  obtain⟨h1, -, -⟩:=M.pZ h
  cases h1
  exact⟨(fun x f=>by cases f),(fun x f=>by cases f),rfl,fun S loc S' _ _ i c p v h1=>by simp at h1⟩
 |c::cs,b,ps,u,r,h=>by
  obtain⟨⟨p,u1⟩,L,N,h1,F,_⟩:=M.bind_some h
  obtain⟨⟨K,u2⟩,O,Q,G,H,_⟩:=M.bind_some F
  obtain⟨I, -, -⟩:=M.pZ H
  cases I
  obtain⟨a1,a2,a3⟩:=sf h1
  obtain⟨k,q,C,D⟩:=ym G
  refine⟨fun x f=>?_,fun x f=>?_,by simp [C],?_⟩
  ·rcases List.mem_append.1 f with f|f
   ·exact a1 x f
   ·exact k x f
  ·rcases List.mem_append.1 f with f|f
   ·exact a2 x f
   ·exact q x f
  ·intro S loc S' hs j i E J v hc hp g
   cases i with
   |zero=>
    simp only [List.getElem?_cons_zero,Option.some.injEq]at hc hp
    subst hc;subst hp
    exact a3 S loc S' v g hs fun x f=>j x (List.mem_append.2 (.inl f))
   |succ i=>
    simp only [List.getElem?_cons_succ]at hc hp
    exact D S loc S' hs (fun x f=>j x (List.mem_append.2 (.inr f))) i E J v hc hp g
theorem CQ{v:RV}(h:isNils v=true):v= .rm:=by cases v<;>first|rfl|cases h
theorem Ce{mt:Bool}{cs:List RV}{b:sj}{ps:List PD}{u:Ups}{r:List Nat}(h:yb mt cs b=some ((ps,u),r,true)):
  vn u∧(∀x∈u,∃ver e es,b x.1=some (.arr ver e es))∧ps.length=cs.length∧
  ∀S loc S',Sub S S'->(∀x∈u,Frz b S loc S' x.1)->
   ∀(i:Nat)c p v,cs[i]? =some c->ps[i]? =some p->R S loc c v->V S' p v:=by
 unfold yb at h
 split at h
 ·rename_i hc
  simp only [zN,Bool.and_eq_true]at hc
  obtain⟨h1, -, -⟩:=M.pZ h
  cases h1
  refine⟨(fun x f=>by cases f),(fun x f=>by cases f),zc,fun S loc S' _ _ i c p v h1 g j=>?_⟩
  have:=CQ (List.all_eq_true.1 hc.2.2 c (List.mem_of_getElem? h1))
  subst this
  rw [List.getElem?_map,h1]at g
  cases g
  cases j
  exact .raw _ rfl
 ·exact ym h
theorem wx{rv:RV}{b:sj}{p:PD}{u:Ups}{r:List Nat}(h:uL rv b=some ((p,u),r,true)):
  vn u∧(∀x∈u,∃ver e es,b x.1=some (.arr ver e es))∧
  ∀S loc S' v,R S loc rv v->Sub S S'->(∀x∈u,Frz b S loc S' x.1)->V S' p v:=by
 cases rv with
 |agg cs=>
  unfold uL at h
  obtain⟨⟨ps,u1⟩,E,F,h1,j,_⟩:=M.bind_some h
  obtain⟨k, -, -⟩:=M.pZ j
  cases k
  obtain⟨a1,a2,a3,a4⟩:=ym h1
  refine⟨a1,a2,fun S loc S' v C hs D=>?_⟩
  obtain⟨vs,rfl,hlen,hc⟩:=C.xB
  refine .agg ps vs (by rw [hlen,a3]) fun i p v hp g=>?_
  have hi:i<cs.length:=by rw [<-a3];exact(List.getElem?_eq_some_iff.1 hp).1
  exact a4 S loc S' hs D i cs[i] p v (zf hi) hp (hc i _ v (zf hi) g)
 |d q=>exact sf h
 |rm=>exact sf h
 |ref id ver=>exact sf h
 |undef=>exact sf h
 |junk=>exact sf h
 |tup cs=>exact sf h
 |ptr a c=>exact sf h
 |elt a c d f=>exact sf h
 |cptr a=>exact sf h
 |view a c d f=>exact sf h
 |clo a c=>exact sf h
 |fview _ _ _=>exact sf h
 |err _=>exact sf h
 |dfull _=>exact sf h
 |ifc _ _=>exact sf h
 |plit _=>exact sf h
 |pcp _=>exact sf h
end
end Go.Dw
