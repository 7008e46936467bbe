
import Derived.Test.YtfmoipelhfkdkaaGreatDoorDwRegion
import Derived.Scope
set_option linter.unusedVariables false
set_option linter.unusedSimpArgs false
open Option.some renaming inj->Ew, injEq->DJ
open List renaming getElem?_cons_zero->D0, getElem?_set->D1, getElem_mem->EJ, length_set->FU, map_cons->FC, mem_append->FV, mem_singleton->FW, nil_append->D8, nodup_append->FX
open Nat renaming le_refl->DI, zero_min->FY
open Option renaming map_eq_some_iff->FZ, map_some->E4, toList_some->F0
open Array renaming getElem?_eq_getElem->EM
open Prod.mk renaming injEq->DL
open Bool renaming and_eq_true->EE, false_eq_true->EL

namespace Go.Dw
theorem yQ{α:Type}{f:Nat->Option α}:∀{ts:List Nat}{l:List (Nat×α)},gets f ts=some l->(∀x∈l,f x.1=some x.2∧x.1∈ts)∧∀t∈ts,∃v,(t,v)∈l
 | [],l,h=>by
  simp only [gets,DJ]at h
  subst h
  exact⟨(fun x g=>by cases g),(fun t j=>by cases j)⟩
 |t::ts,l,h=>by
  simp only [gets]at h
  rcases h1:f t with _|v
  ·simp [h1]at h
  rcases k:gets f ts with _|r
  ·simp [h1,k]at h
  simp only [h1,k,DJ]at h
  subst h
  obtain⟨g1,g2⟩:=yQ k
  refine⟨fun x g=>?_,fun t' j=>?_⟩
  ·rcases List.mem_cons.1 g with rfl|g
   ·exact⟨h1,zc⟩
   ·exact⟨(g1 x g).1,by simp [(g1 x g).2]⟩
  ·rcases List.mem_cons.1 j with rfl|j
   ·exact⟨v,zc⟩
   ·obtain⟨v',q⟩:=g2 t' j
    exact⟨v',by simp [q]⟩
theorem A2{α:Type}(g:α->α):∀{l:List (Nat×α)}{t:Nat}{v:α},assoc (l.map fun x=>(x.1,g x.2)) t=some v->∃v0,(t,v0)∈l∧v=g v0
 | [],t,v,h=>by simp [assoc]at h
 |(k,a)::r,t,v,h=>by
  simp only [FC,assoc]at h
  by_cases hk:t=k
  ·subst hk
   simp only [if_true,DJ]at h
   exact⟨a,zc,h.symm⟩
  ·simp only [hk,if_false]at h
   obtain⟨v0,h1,j⟩:=A2 g h
   exact⟨v0,by simp [h1],j⟩
theorem zX{α:Type}(g:Nat->α->α):∀{l:List (Nat×α)}{t:Nat}{v:α},assoc (l.map fun x=>(x.1,g x.1 x.2)) t=some v->∃v0,(t,v0)∈l∧v=g t v0
 | [],t,v,h=>by simp [assoc]at h
 |(k,a)::r,t,v,h=>by
  simp only [FC,assoc]at h
  by_cases hk:t=k
  ·subst hk
   simp only [if_true,DJ]at h
   exact⟨a,zc,h.symm⟩
  ·simp only [hk,if_false]at h
   obtain⟨v0,h1,j⟩:=zX g h
   exact⟨v0,by simp [h1],j⟩
theorem zY{α:Type}(g:Nat->α->α):∀{l:List (Nat×α)}{t:Nat}{v:α},(t,v)∈l->∃v',assoc (l.map fun x=>(x.1,g x.1 x.2)) t=some v'
 | [],t,v,h=>by cases h
 |(k,a)::r,t,v,h=>by
  simp only [FC,assoc]
  by_cases hk:t=k
  ·exact⟨g k a,by simp [hk]⟩
  ·simp only [hk,if_false]
   rcases List.mem_cons.1 h with h|h
   ·cases h;exact(hk rfl).elim
   ·exact zY g h
section
variable {P:Program}{X:Ctx}{S:rP}{loc:ss}{s:St}{tm:Array Value}{w:World}
theorem Sim.wS(h:Sim P X S loc s tm w)(g:Nat->Option RV)(j:∀t rv,g t=some rv->∃v,tm[t]? =some v∧R S loc rv v):Sim P X S loc { s with rX:=g } tm w:=
 ⟨h.nt,j,h.boxes,h.dom,h.imm,h.vN,h.uM,h.inj,h.own,h.frame,h.s0,h.par,h.xM,h.bs,h.ob⟩
theorem DF(L:Loc){f:Nat->Nat}(hf:∀v,f v=v):rY f L=L:=by cases L<;>simp [rY,hf]
theorem R.Af{cs:List RV}{vs:Array Value}{S:rP}{loc:ss}(hc:∀(i:Nat)c v,cs[i]? =some c->vs[i]? =some v->R S loc c v){off:Nat}{x:RV}(j:∀v,vs[off]? =some v->R S loc x v):
  ∀(i:Nat)c v,(cs.set off x)[i]? =some c->vs[i]? =some v->R S loc c v:=by
 intro i c v h1 g
 by_cases hi:off=i
 ·subst hi
  rw [D1]at h1
  simp only [if_true]at h1
  split at h1
  ·cases h1;exact j v g
  ·cases h1
 ·rw [List.getElem?_set_ne hi]at h1
  exact hc i c v h1 g
theorem Sim.uO(h:Sim P X S loc s tm w){p:Pl}{rv x:RV}(hp:uI s p=some rv)(E:∀v,R S loc rv v->R S loc x v):Sim P X S loc (Dw.uO s x p) tm w:=by
 cases p with
 |reg t=>
  refine h.wS _ fun y D u=>?_
  split at u
  ·rename_i C
   subst C
   cases u
   obtain⟨v,r,G⟩:=h.rX y _ hp
   exact⟨v,r,E v G⟩
  ·exact h.rX y D u
 |cell id off=>
  simp only [uI]at hp
  rcases j:s.boxes id with _|g
  ·simp [j]at hp
  rw [j]at hp
  cases g with
  |arr _ _ _=>cases hp
  |dead=>cases hp
  |map _ _ _=>cases hp
  |nest _ _ _ _ _=>cases hp
  |hole _ _ _ _ _ _=>cases hp
  |var cs=>
   simp only at hp
   simp only [Dw.uO,j]
   refine⟨h.nt,h.rX,fun i g hi=>?_,fun i L k=>?_,h.imm,h.vN,h.uM,h.inj,h.own,h.frame,h.s0,h.par,h.xM,h.bs,h.ob⟩
   ·simp only at hi
    split at hi
    ·rename_i hid
     subst hid
     cases hi
     obtain⟨L,k,F⟩:=h.boxes i _ j
     refine⟨L,k,?_⟩
     cases F with
     |var _ b t vs hw hl hc=>
      exact .var _ b t vs hw (by simpa using hl) (R.Af hc fun v r=>E v (hc off rv v hp r))
    ·exact h.boxes i g hi
   ·obtain⟨g,q⟩:=h.dom i L k
    by_cases hid:i=id
    ·subst hid;exact⟨_,if_pos rfl⟩
    ·exact⟨g,by simp only [hid,if_false];exact q⟩
theorem wv{id:Nat}{g:Box}{rv:RV}:∀{p:Pl},uI s p=some rv->(∀off,p≠ .cell id off)->uI { s with boxes:=fun i=>if i=id then some g else s.boxes i } p=some rv
 | .reg t,h,_=>h
 | .cell i off,h,j=>by
  have:i≠id:=fun e=>j off (by rw [e])
  simp only [uI,this,if_false]at h⊢
  exact h
theorem Dk{nb k:Nat}(g:k<nb){q L:Loc}(j:∀ver e sz hdr,q.Row ver e sz hdr->ver=0)(h:vE q L):vE q (rY (su nb k) L):=by
 cases h with
 |same=>
  cases q with
  |arr ver e sz hdr=>
   have:=j ver e sz hdr .arr
   subst this
   simp only [rY,su,g,if_true,FY]
   exact .same _
  |nest ver e sz hdr bs=>
   have:=j ver e sz hdr .nest
   subst this
   simp only [rY,su,g,if_true,FY]
   exact .same _
  |var b=>exact .same _
  |dead=>exact .same _
  |map b=>exact .same _
 |dead=>exact .dead _
 |arr r=>
  have:=j _ _ _ _ .arr
  subst this
  refine .arr ?_
  simp only [su,g,if_true]
  omega
 |nest r=>
  have:=j _ _ _ _ .nest
  subst this
  refine .nest ?_
  simp only [su,g,if_true]
  omega
 |held=>
  have:=j _ _ _ _ .nest
  subst this
  simp only [rY,su,g,if_true,FY]
  exact .held
def PlAt(loc:ss)(tm:Array Value)(w:World)(v:Value):Pl->Prop
 | .reg t=>tm[t]? =some v
 | .cell id off=>∃b vs ty,loc id=some (.var b)∧w.heap[b]? =some (.cells vs ty (0,0))∧vs[off]? =some v
theorem Sim.plAt(h:Sim P X S loc s tm w){p:Pl}{rv:RV}(hp:uI s p=some rv):∀v,PlAt loc tm w v p->R S loc rv v:=by
 cases p with
 |reg t=>
  intro v g
  obtain⟨v',h1,j⟩:=h.rX t rv hp
  simp only [PlAt]at g
  rw [h1]at g
  cases g
  exact j
 |cell id off=>
  intro v g
  obtain⟨b,vs,ty,h1,j,u⟩:=g
  simp only [uI]at hp
  rcases k:s.boxes id with _|r
  ·simp [k]at hp
  rw [k]at hp
  cases r<;>simp only at hp<;>first|(cases hp;done)|skip
  obtain⟨L,q,C⟩:=h.boxes id _ k
  rw [h1]at q
  cases q
  cases C with
  |var _ b t D hw hl hc=>
   rw [hw]at j
   cases j
   exact hc off rv v hp u
theorem Sim.plSet'(h:Sim P X S loc s tm w){p:Pl}{rv x:RV}(hp:uI s p=some rv)(E:∀v,PlAt loc tm w v p->R S loc x v):Sim P X S loc (Dw.uO s x p) tm w:=by
 cases p with
 |reg t=>
  refine h.wS _ fun y D u=>?_
  split at u
  ·rename_i C
   subst C
   cases u
   obtain⟨v,q,G⟩:=h.rX y _ hp
   exact⟨v,q,E v q⟩
  ·exact h.rX y D u
 |cell id off=>
  simp only [uI]at hp
  rcases k:s.boxes id with _|g
  ·simp [k]at hp
  rw [k]at hp
  cases g<;>simp only at hp<;>first|(cases hp;done)|skip
  simp only [Dw.uO,k]
  refine⟨h.nt,h.rX,fun i g hi=>?_,fun i L j=>?_,h.imm,h.vN,h.uM,h.inj,h.own,h.frame,h.s0,h.par,h.xM,h.bs,h.ob⟩
  ·simp only at hi
   split at hi
   ·rename_i hid
    subst hid
    cases hi
    obtain⟨L,j,F⟩:=h.boxes i _ k
    refine⟨L,j,?_⟩
    cases F with
    |var _ b t vs hw hl hc=>
     exact .var _ b t vs hw (by simpa using hl) (R.Af hc fun v q=>E v ⟨b,vs,t,j,hw,q⟩)
   ·exact h.boxes i g hi
  ·obtain⟨g,r⟩:=h.dom i L j
   by_cases hid:i=id
   ·subst hid;exact⟨_,if_pos rfl⟩
   ·exact⟨g,by simp only [hid,if_false];exact r⟩
theorem CS{s:St}{ess:List (List PD)}{i:Option Nat}{j:Nat}{es:List PD}(h:xj s ess i=some (j,es)):ess[j]? =some es:=by
 unfold xj at h
 split at h
 ·split at h
  ·rename_i g;cases h;exact g
  ·cases h
 ·split at h
  ·split at h
   ·split at h
    ·rename_i g;cases h;exact g
    ·cases h
   ·cases h
  ·cases h
theorem Sim.yY(h:Sim P X S loc s tm w){id:Nat}{L:Loc}(j:loc id=some L){b:Nat}(q:L.has b):
  (∀i g,i≠id->loc i=some g->¬g.has b)∧(∀o,S ⟨b,o,none⟩=none)∧(b∈X.B0∨X.w0.heap.size<=b):=
 ⟨fun i g hi k r=>hi (h.inj i id g L b k j r q),fun o=>h.uM id L b j q o,h.own id L b j q⟩
theorem Sim.lend(h:Sim P X S loc s tm w){id new ver j:Nat}{e e2:TypeId}{ess:List (List PD)}{es:List PD}(C:s.boxes id=some (.nest ver e e2 ess none))(G:s.boxes new=none)(hj:ess[j]? =some es):
  ∃S' loc',Sim P X S' loc' { s with boxes:=fun k=>if k=new then some (.arr 0 e2 es)else if k=id then some (.nest ver e e2 ess (some (j,.ref new 0)))else s.boxes k } tm w:=by
 obtain⟨L,hL,hB⟩:=h.boxes id _ C
 have K:new≠id:=fun e=>by rw [e,C]at G;cases G
 have Y:j<ess.length:=(List.getElem?_eq_some_iff.1 hj).1
 cases hB with
 |nest _ _ _ _ _ hdr xs bs b0 a9 how hc E hi=>
 obtain⟨v,b,u,bs2,rfl,U,h3,h4⟩:=hc.split (ncs_none (e2:=e2) hj)
 cases h3 with
 |row _ _ sz _ ys b1 O b5=>
 have D:v.oneCell'=true:=by obtain⟨a,c,rfl,_⟩:=O.hdr;rfl
 let r:Loc:= .nest ver e 1 hdr (u++bs2)
 have N:((tp hdr).toList++(u++bs2)).Nodup:=List.Nodup.sublist (List.Sublist.append (List.Sublist.refl _) (List.Sublist.append (List.Sublist.refl _) (List.sublist_append_right _ _))) E
 have a5:∀b,r.has b->Loc.has (.nest ver e 1 hdr (u++((tp v).toList++bs2))) b:=fun b C=>by
  simp only [r,Loc.has,FV]at C⊢
  rcases C with C|C|C
  ·exact .inl C
  ·exact .inr (.inl C)
  ·exact .inr (.inr (.inr C))
 have I:sb (loc id) r:=by rw [hL];exact .held
 have g0:=h4 (.val .junk) v [] (.val _ v (.junk v) D)
 rw [xq e2 ess none j .junk (fun _ _ e=>by cases e),D8]at g0
 have k1:=h.sW (Step.refl none w) id (.nest ver e e2 ess (some (j,.junk))) r (fun b hc=>by cases hc)
  (.nest ver e e2 ess _ hdr (xs.set j v) (u++bs2) b0 a9 (by rw [xy U];exact how) (g0.dE (Sub.refl S) (rT.upd I) fun _ _=>rfl) N (fun i rv e=>by cases e;exact Y)) (fun b C=>.inl ⟨_,hL,a5 b C⟩) I
 have b2:upd loc id r new=none:=by rw [sy _ _ K];exact h.si G
 have Q:sb (upd loc id r new) (.arr 0 e2 sz v):=by rw [b2];trivial
 have k2 := k1.sW (Step.refl none w) new (.arr 0 e2 es) (.arr 0 e2 sz v) (fun b hc => by cases hc) (.arr 0 e2 es sz v ys b1 O b5) (fun b F => by
  have b4:Loc.has (.nest ver e 1 hdr (u++((tp v).toList++bs2))) b:=by
   simp only [Loc.has,FV]at F⊢
   exact .inr (.inr (.inl (by rw [F];simp)))
  obtain⟨f1,f2,f3⟩:=h.yY hL b4
  refine .inr (.inr ⟨fun i L' J g=>?_,f2,f3⟩)
  by_cases W:i=id
  ·subst W
   rw [rK]at J
   cases J
   have F:tp v=some b:=F
   have g:b∈(tp hdr).toList++(u++bs2):=g
   rw [F]at E
   simp only [F0,FX,FV,FW]at E g
   rcases g with g|g|g
   ·exact E.2.2 b g b (.inr (.inl rfl)) rfl
   ·exact E.2.1.2.2 b g b (.inl rfl) rfl
   ·exact E.2.1.2.1.2.2 b rfl b g rfl
  ·rw [sy _ _ W]at J
   exact f1 i L' W J g) Q
 have a6:upd (upd loc id r) new (.arr 0 e2 sz v) id=some r:=by rw [sy _ _ (Ne.symm K)];exact rK _ _ _
 have T:sb (upd (upd loc id r) new (.arr 0 e2 sz v) id) r:=by rw [a6];exact .same _
 have hR:R S (upd (upd (upd loc id r) new (.arr 0 e2 sz v)) id r) (.ref new 0) v:= .ref new 0 v _ D (by rw [sy _ _ K];exact rK _ _ _) fun c0 e' c1 b6 he=>by cases he;exact⟨DI _,fun _=>rfl⟩
 have g2:NCs P S (upd (upd (upd loc id r) new (.arr 0 e2 sz v)) id r) w (ncs e2 ess (some (j,.ref new 0))) (xs.set j v) (u++bs2):=by
  have q:=g0.dE (Sub.refl S) ((rT.upd I).trans ((rT.upd Q).trans (rT.upd T))) fun _ _=>rfl
  exact q.reval Y (by rw [xy U];exact U) hR D
 have k3:=k2.sW (Step.refl none w) id (.nest ver e e2 ess (some (j,.ref new 0))) r (fun b hc=>by cases hc)
  (.nest ver e e2 ess _ hdr (xs.set j v) (u++bs2) b0 a9 (by rw [xy U];exact how) g2 N (fun i rv e=>by cases e;exact Y)) (fun b C=>.inl ⟨r,a6,C⟩) T
 refine⟨S,upd (upd (upd loc id r) new (.arr 0 e2 sz v)) id r,?_⟩
 have b3:(fun k=>if k=new then some (.arr 0 e2 es)else if k=id then some (.nest ver e e2 ess (some (j,.ref new 0)))else s.boxes k)=upd (upd (upd s.boxes id (.nest ver e e2 ess (some (j,.junk)))) new (.arr 0 e2 es)) id (.nest ver e e2 ess (some (j,.ref new 0))):=by
  funext k
  simp only [upd]
  by_cases h1:k=new
  ·subst h1;simp [K]
  ·by_cases U:k=id
   ·subst U;simp [h1]
   ·simp [h1,U]
 rw [b3]
 exact k3
theorem Sim.give(h:Sim P X S loc s tm w){id k ver kv i:Nat}{e e2:TypeId}{ess:List (List PD)}{es:List PD}(q:s.boxes id=some (.nest ver e e2 ess (some (i,.ref k kv))))(hk:s.boxes k=some (.arr kv e2 es))(T:k≠id):
  ∃loc',Sim P X S loc' { s with boxes:=fun j=>if j=k then some .dead else if j=id then some (.nest ver e e2 (ess.set i es) none)else s.boxes j } tm w:=by
 obtain⟨L,hL,hB⟩:=h.boxes id _ q
 obtain⟨Lk,O,b1⟩:=h.boxes k _ hk
 cases hB with
 |nest _ _ _ _ _ hdr xs bs c1 c0 how hc r hi=>
 cases b1 with
 |arr _ _ _ sz a5 ys b0 a9 b4=>
 have b5:=hi i _ rfl
 have J:sb (loc k) .dead:=by rw [O];exact .dead _
 have k1:=h.sW (Step.refl none w) k .dead .dead (fun b hc=>by cases hc) (.dead _ rfl) (fun b hc=>by cases hc) J
 have I:upd loc k .dead id=some (.nest ver e 1 hdr bs):=by rw [sy _ _ (Ne.symm T)];exact hL
 obtain⟨v,b,N,bs2,rfl,h2,h3,h4⟩:=hc.split (AH (e2:=e2) (rv:= .ref k kv) b5)
 cases h3 with
 |val _ _ hr h1=>
 have hv:v=a5:=by
  cases hr with
  |ref _ _ _ U _ W b3=>
   rw [O]at W
   cases W
   exact(b3 _ _ _ _ .arr).2 rfl
 subst hv
 have D:∀b,tp v=some b->(∀i U,i≠k->loc i=some U->¬U.has b)∧(∀o,S ⟨b,o,none⟩=none)∧(b∈X.B0∨X.w0.heap.size<=b):=fun b E=>h.yY O E
 let L2:Loc:= .nest ver e 1 hdr (N++((tp v).toList++bs2))
 have K:sb (upd loc k .dead id) L2:=by rw [I];exact .held
 have g0:=h4 (.row e2 es) v (tp v).toList (.row e2 es sz v ys b0 a9 b4)
 rw [Cg,xy h2]at g0
 have a6:((tp hdr).toList++(N++((tp v).toList++bs2))).Nodup:=by
  rcases b6:tp v with _|g
  ·simpa using r
  ·have u:¬Loc.has (.nest ver e 1 hdr (N++([]++bs2))) g:=(D g b6).1 id _ (Ne.symm T) hL
   simp only [Loc.has,D8,FV,not_or]at u
   simp only [D8,FX,FV]at r
   simp only [F0,FX,FV,FW]
   refine⟨r.1,⟨r.2.1.1,⟨zc,r.2.1.2.1,fun a G b q C=>?_⟩,fun a G b q C=>?_⟩,fun a G b q C=>?_⟩
   ·subst G;subst C;exact u.2.2 q
   ·subst C
    rcases q with rfl|q
    ·exact u.2.1 G
    ·exact r.2.1.2.2 a G a q rfl
   ·subst C
    rcases q with q|rfl|q
    ·exact r.2.2 a G a (.inl q) rfl
    ·exact u.1 G
    ·exact r.2.2 a G a (.inr q) rfl
 have k2:=k1.sW (Step.refl none w) id (.nest ver e e2 (ess.set i es) none) L2 (fun b hc=>by cases hc)
  (.nest ver e e2 (ess.set i es) none hdr xs _ c1 c0 (by rw [FU];exact how) (g0.dE (Sub.refl S) ((rT.upd J).trans (rT.upd K)) fun _ _=>rfl) a6 (fun i rv e=>by cases e))
  (fun b q => by
   simp only [L2,Loc.has,FV]at q
   by_cases E:tp v=some b
   ·obtain⟨f1,f2,f3⟩:=D b E
    refine .inr (.inr ⟨fun i U F Y=>?_,f2,f3⟩)
    by_cases Q:i=k
    ·subst Q;rw [rK]at F;cases F;cases Y
    ·rw [sy _ _ Q]at F
     exact f1 i U Q F Y
   ·refine .inl ⟨_,I,?_⟩
    simp only [Loc.has,D8,FV]
    rcases q with q|q|q|q
    ·exact .inl q
    ·exact .inr (.inl q)
    ·exact(E (by simpa using q)).elim
    ·exact .inr (.inr q)) K
 refine⟨upd (upd loc k .dead) id L2,?_⟩
 have b2:(fun j=>if j=k then some Box.dead else if j=id then some (.nest ver e e2 (ess.set i es) none)else s.boxes j)=upd (upd s.boxes k .dead) id (.nest ver e e2 (ess.set i es) none):=by
  funext j
  simp only [upd]
  by_cases h1:j=k
  ·subst h1;simp [T]
  ·by_cases h2:j=id
   ·subst h2;simp [h1]
   ·simp [h1,h2]
 rw [b2]
 exact k2
theorem Sim.Ax{e2:TypeId}:∀(ess:List (List PD)){S:rP}{xs:List Value}{bs:List Nat},Sim P X S loc s tm w->NCs P S loc w (ess.map (.row e2)) xs bs->bs.Nodup->
  (∀b∈bs,(∀i L,loc i=some L->¬L.has b)∧(∀o,S ⟨b,o,none⟩=none)∧(b∈X.B0∨X.w0.heap.size<=b))->
  ∃S',Sim P X S' loc s tm w∧Sub S S'∧(∀g o,g∉bs->S ⟨g,o,none⟩=none->S' ⟨g,o,none⟩=none)∧∀(i:Nat)es x,ess[i]? =some es->xs[i]? =some x->V S' (.lst es) x
 | [],S,xs,bs,h,hc,_,_=>⟨S,h,Sub.refl S,fun _ _ _ h=>h,fun i es x hi=>by simp at hi⟩
 |es::ess,S,xs,bs,h,hc,J,k=>by
  cases hc with
  | @cons _ v b0 N _ vs hr ht=>
  cases hr with
  |row _ _ sz _ W b1 how hf=>
  have C:=(List.nodup_append.1 J).2.1
  by_cases I:es=[]
  ·subst I
   obtain⟨S',g1,g2,g3,g4⟩:=Sim.Ax ess h ht C fun b q=>k b (List.mem_append.2 (.inr q))
   refine⟨S',g1,g2,fun g o Y=>g3 g o fun hm=>Y (List.mem_append.2 (.inr hm)),fun i es x hi G=>?_⟩
   cases i with
   |zero=>
    simp only [D0,DJ]at hi G
    subst hi;subst G
    obtain⟨a,c,rfl,_⟩:=how.hdr
    exact .nil _ _
   |succ i=>exact g4 i es x (by simpa using hi) (by simpa using G)
  ·have K:0<es.length:=by cases es with|nil=>exact(I rfl).elim|cons=>simp
   have D:=how.v8 K
   rcases D.2 with⟨rfl,h0⟩|⟨g,cap,cur,fz,rfl,a9,Y,Q,a5,a6,U⟩
   ·omega
   ·have F:=D.cells (g:=g) rfl
    have r:tp (.slice (some ⟨g,0,none⟩) es.length cap)=some g:=by cases cap with|zero=>omega|succ c=>rfl
    obtain⟨f1,f2,f3⟩:=k g (List.mem_append.2 (.inl (by rw [r];simp)))
    have h2:=h.wI g W (fun j v hj=>by have:=F j v hj;rw [th]at this;simpa using this) hf.one f1 f3.symm
    have E:=uk S g W
    have T:∀b∈N,b≠g:=fun b q e=>(List.nodup_append.1 J).2.2 g (by rw [r];simp) b q e.symm
    have u:∀b o,b≠g->S ⟨b,o,none⟩=none->tE S g W ⟨b,o,none⟩=none:=fun b o q hS=>by simp [tE,hS,q]
    obtain⟨S',g1,g2,g3,g4⟩:=Sim.Ax ess h2 (ht.dE E (rT.refl loc) fun _ _=>rfl) C fun b q=>by
     obtain⟨q1,q2,q3⟩:=k b (List.mem_append.2 (.inr q))
     exact⟨q1,fun o=>u b o (T b q) (q2 o),q3⟩
    refine⟨S',g1,E.trans g2,fun b o q hS=>g3 b o (fun hm=>q (List.mem_append.2 (.inr hm))) (u b o (fun e=>q (List.mem_append.2 (.inl (by rw [r,e];simp)))) hS),fun i O x hi G=>?_⟩
    cases i with
    |zero=>
     simp only [D0,DJ]at hi G
     subst hi;subst G
     exact(V.By hf f2 Q).mono g2
    |succ i=>exact g4 i O x (by simpa using hi) (by simpa using G)
theorem Sim.freezeN(h:Sim P X S loc s tm w){id ver:Nat}{e e2:TypeId}{ess:List (List PD)}(hb:s.boxes id=some (.nest ver e e2 ess none)):
  ∃S',Sim P X S' (upd loc id .dead) { s with boxes:=upd s.boxes id .dead } tm w∧∀v,R S loc (.ref id ver) v->V S' (.lst (ess.map .lst)) v:=by
 obtain⟨L,W,hB⟩:=h.boxes id _ hb
 cases hB with
 |nest _ _ _ _ _ hdr xs bs b4 b3 how hc O hi=>
 have U:sb (loc id) .dead:=by rw [W];exact .dead _
 have h1:=h.sW (Step.refl none w) id .dead .dead (fun b hc=>by cases hc) (.dead _ rfl) (fun b hc=>by cases hc) U
 have q:∀b,Loc.has (.nest ver e 1 hdr bs) b->(∀i L,upd loc id .dead i=some L->¬L.has b)∧(∀o,S ⟨b,o,none⟩=none)∧(b∈X.B0∨X.w0.heap.size<=b):=fun b D=>by
  obtain⟨f1,f2,f3⟩:=h.yY W D
  refine⟨fun i L' r J=>?_,f2,f3⟩
  by_cases G:i=id
  ·subst G;rw [rK]at r;cases r;cases J
  ·rw [sy _ _ G]at r
   exact f1 i L' G r J
 have hv:∀v,R S loc (.ref id ver) v->v=hdr:=fun v T=>by
  cases T with
  |ref _ _ _ L' _ I a5=>
   rw [W]at I
   cases I
   exact(a5 _ _ _ _ .nest).2 rfl
 obtain⟨S1,g1,g2,g3,g4⟩:=Sim.Ax ess h1 (hc.dE (Sub.refl S) (rT.upd U) fun _ _=>rfl) (List.nodup_append.1 O).2.1 fun b D=>q b (List.mem_append.2 (.inr D))
 by_cases k:ess=[]
 ·subst k
  refine⟨S1,g1,fun v T=>?_⟩
  rw [hv v T]
  obtain⟨a,c,rfl,_⟩:=how.hdr
  exact .nil _ _
 have Q:0<ess.length:=by cases ess with|nil=>exact(k rfl).elim|cons=>simp
 have u:=how.v8 Q
 have hlen:ess.length=xs.length:=by have:=hc.len;rwa [AG]at this
 have F:Flat S1 1 (ess.map .lst) xs:=by
  refine⟨fun e he=>?_,hc.one,fun i e j x hi K=>?_⟩
  ·obtain⟨es,_,rfl⟩:=List.mem_map.1 he
   rfl
  ·rw [List.getElem?_map,FZ]at hi
   obtain⟨es,k,rfl⟩:=hi
   cases j with
   |succ j=>simp [PD.cells]at K
   |zero=>
    simp only [PD.cells,D0,DJ]at K
    subst K
    have N:i<xs.length:=by rw [<-hlen];exact(List.getElem?_eq_some_iff.1 k).1
    exact⟨xs[i],by rw [Nat.mul_one,Nat.add_zero];exact zf N,g4 i es _ k (zf N)⟩
 rcases u.2 with⟨rfl,h0⟩|⟨g,cap,cur,fz,rfl,b2,hg,a6,b0,b1,a9⟩
 ·omega
 ·have E:=u.cells (g:=g) rfl
  have C:tp (.slice (some ⟨g,0,none⟩) ess.length cap)=some g:=by cases cap with|zero=>omega|succ c=>rfl
  obtain⟨f1,f2,f3⟩:=q g (List.mem_append.2 (.inl (by rw [C];simp)))
  have Y:∀o,S1 ⟨g,o,none⟩=none:=fun o=>g3 g o (fun hm=>(List.nodup_append.1 O).2.2 g (by rw [C];simp) g hm rfl) (f2 o)
  have h2:=g1.wI g xs (fun j v K=>by have:=E j v K;rw [th]at this;simpa using this) hc.one f1 f3.symm
  refine⟨_,h2,fun v T=>?_⟩
  rw [hv v T]
  have:=V.By (c:=cap) F Y (by simpa using a6)
  simpa using this
theorem zo.close{sz i o:Nat}{es:List PD}{xs:List Value}{p:PD}{u:Value}(hf:zo S sz es xs i o)(hi:i<es.length)(ho:o<sz)(hp:p.one=true)(hu:xs[i*sz+o]? =some u)(J:V S p u):
  Flat S sz (es.set i ((es.getD i default).put o [p])) xs:=by
 have E:es[i]? =some es[i]:=zf hi
 have I:es.getD i default=es[i]:=by simp [List.getD,E]
 rw [I]
 have C:es[i].cells.length=sz:=hf.len _ (EJ hi)
 obtain⟨F,G⟩:=PD.Bb es[i] o [p] so (by simpa using hp)
 refine⟨fun e he=>?_,hf.one,fun k e j x h1 g=>?_⟩
 ·rcases List.mem_or_eq_of_mem_set he with he|rfl
  ·exact hf.len e he
  ·rw [F,C]
 ·rw [D1]at h1
  by_cases q:i=k
  ·subst q
   rw [if_pos rfl,if_pos hi]at h1
   cases h1
   rw [G]at g
   simp only [List.length_singleton]at g
   by_cases r:o<=j∧j<o+1
   ·rw [if_pos r]at g
    obtain rfl:j=o:=by omega
    simp only [Nat.sub_self,D0,DJ]at g
    subst g
    exact⟨u,hu,J⟩
   ·rw [if_neg r]at g
    exact hf.cell i _ j x E g (fun D=>r za)
  ·rw [if_neg q]at h1
   exact hf.cell k e j x h1 g (fun D=>q D.1.symm)
theorem Sim.opn(h:Sim P X S loc s tm w){id ver i o:Nat}{e:TypeId}{es:List PD}{x c:PD}(g:s.boxes id=some (.arr ver e es))(r:es[i]? =some x)(hc:x.cells[o]? =some c):
  ∃loc',Sim P X S loc' { s with boxes:=fun k=>if k=id then some (.hole ver e es i o (.d c))else s.boxes k } tm w:=by
 obtain⟨L,C,E⟩:=h.boxes id _ g
 cases E with
 |arr _ _ _ sz hdr xs q how hf=>
 obtain⟨u,hu,F⟩:=hf.cell i x o c r hc
 have ho:o<sz:=by rw [<-hf.len x (List.mem_of_getElem? r)];exact(List.getElem?_eq_some_iff.1 hc).1
 exact ⟨_, h.sW (Step.refl none w) id (.hole ver e es i o (.d c)) (.arr ver e sz hdr) (fun b hc => by cases hc)
  (.hole ver e es i o (.d c) sz hdr xs u q how ⟨hf.len,hf.one,fun k e j x h1 D _=>hf.cell k e j x h1 D⟩ (List.getElem?_eq_some_iff.1 r).1 ho hu (.d F)) (fun b g=>.inl ⟨_,C,g⟩) (by rw [C];exact .same _)⟩
theorem Sim.clsD(h:Sim P X S loc s tm w){id ver i o:Nat}{e:TypeId}{es:List PD}{c:PD}(g:s.boxes id=some (.hole ver e es i o (.d c)))(hc:c.one=true):
  ∃loc',Sim P X S loc' { s with boxes:=fun k=>if k=id then some (.arr ver e (es.set i ((es.getD i default).put o [c])))else s.boxes k } tm w:=by
 obtain⟨L,q,r⟩:=h.boxes id _ g
 cases r with
 |hole _ _ _ _ _ _ sz hdr xs u j how hf hi ho hu C=>
 cases C with
 |d D=>
 exact ⟨_, h.sW (Step.refl none w) id (.arr ver e (es.set i ((es.getD i default).put o [c]))) (.arr ver e sz hdr) (fun b hc => by cases hc)
  (.arr ver e _ sz hdr xs j (by rw [FU];exact how) (hf.close hi ho hc hu D)) (fun b g=>.inl ⟨_,q,g⟩) (by rw [q];exact .same _)⟩
theorem Sim.clsR(h:Sim P X S loc s tm w){id k ver E i o:Nat}{e L:TypeId}{es g:List PD}(D:s.boxes id=some (.hole ver e es i o (.ref k E)))(hk:s.boxes k=some (.arr E L g))(q:k≠id):
  ∃S' loc',Sim P X S' loc' { s with boxes:=fun j=>if j=k then some .dead else if j=id then some (.arr ver e (es.set i ((es.getD i default).put o [.lst g])))else s.boxes j } tm w:=by
 obtain⟨S',h1,hs,hl,J⟩:=h.yA hk
 have N:upd s.boxes k .dead id=some (.hole ver e es i o (.ref k E)):=by rw [sy _ _ (Ne.symm q)];exact D
 obtain⟨T,G,F⟩:=h.boxes id _ D
 cases F with
 |hole _ _ _ _ _ _ sz hdr xs u K how hf hi ho hu O=>
 have Q:V S' (.lst g) u:=(J E L g hk).1 u O
 have r:upd loc k .dead id=some (.arr ver e sz hdr):=by rw [sy _ _ (Ne.symm q)];exact G
 have C:=h1.sW (Step.refl none w) id (.arr ver e (es.set i ((es.getD i default).put o [.lst g]))) (.arr ver e sz hdr) (fun b hc=>by cases hc)
  (.arr ver e _ sz hdr xs K (by rw [FU];exact how) ((hf.mono hs).close hi ho rfl hu Q)) (fun b D=>.inl ⟨_,r,D⟩) (by rw [r];exact .same _)
 refine⟨S',upd (upd loc k .dead) id (.arr ver e sz hdr),?_⟩
 have I:(fun j=>if j=k then some Box.dead else if j=id then some (.arr ver e (es.set i ((es.getD i default).put o [.lst g])))else s.boxes j)=upd (upd s.boxes k .dead) id (.arr ver e (es.set i ((es.getD i default).put o [.lst g]))):=by
  funext j
  simp only [upd]
  by_cases h1:j=k
  ·subst h1;simp [q]
  ·by_cases C:j=id
   ·subst C;simp [h1]
   ·simp [h1,C]
 rw [I]
 exact C
theorem Bq{nb:Nat}(d0:∀k b,X.par k=some b->k<nb∧∀ver e sz hdr,b.Row ver e sz hdr->ver=0){g:w6}{s':St}(C:ta P nb s g=some s')(h:Sim P X S loc s tm w):∃S' loc',Sim P X S' loc' s' tm w:=by
 cases g with
 |dE rs bs=>
  simp only [ta]at C
  rcases h1:gets s.rX rs with _|l
  ·simp [h1]at C
  rcases I:gets s.boxes bs with _|m
  ·simp [h1,I]at C
  simp only [h1,I]at C
  split at C
  rotate_left
  ·cases C
  rename_i f6
  cases C
  obtain⟨l1,_⟩:=yQ h1
  obtain⟨m1,m2⟩:=yQ I
  let loc':ss:=fun id=>if bs.contains id then(loc id).map (rY (su nb id))else none
  have T:∀id Y,loc' id=some Y->bs.contains id=true∧∃L,loc id=some L∧Y=rY (su nb id) L:=by
   intro id Y K
   simp only [loc']at K
   split at K
   ·rename_i hm
    rw [FZ]at K
    obtain⟨L,h3,rfl⟩:=K
    exact⟨hm,L,h3,rfl⟩
   ·cases K
  have G:w7 ⟨fun id=>if bs.contains id then some id else none,tf s.boxes (su nb)⟩ loc loc':=by
   refine w7.mk' (P:=P) (S:=S) (w:=w) h.boxes fun id k L hp K=>?_
   try simp only at hp
   split at hp
   ·rename_i hm
    cases hp
    simp only [loc',hm,if_true,K,E4]
   ·cases hp
  have J := h.mem.ren (loc' := loc') (b' := assoc (m.map fun x => (x.1, uB ⟨fun id => if bs.contains id then some id else none, tf s.boxes (su nb)⟩ (su nb x.1) x.2))) G (fun k f2 hk => by
    obtain⟨b0,hm,rfl⟩:=zX (fun k b=>uB ⟨fun id=>if bs.contains id then some id else none,tf s.boxes (su nb)⟩ (su nb k) b) hk
    obtain⟨d8,c7⟩:=m1 _ hm
    simp only at d8 c7
    have e1:bs.contains k=true:=by simpa using c7
    exact⟨k,b0,su nb k,by simp [c7],d8,rfl,fun L K=>by simp only [loc',e1,if_true,K,E4]⟩) (fun k Y hk=>by
    obtain⟨hm,L,h3,rfl⟩:=T k Y hk
    refine⟨?_,k,L,_,by simp only [hm,if_true],h3,rfl⟩
    obtain⟨v,N⟩:=m2 k (by simpa using hm)
    exact zY (fun k b=>uB ⟨fun id=>if bs.contains id then some id else none,tf s.boxes (su nb)⟩ (su nb k) b) N)
  refine⟨S,loc',h.nt,?_,J.boxes,J.dom,h.imm,h.vN,J.uM,J.inj,?_,h.frame,h.s0,?_,h.xM,h.bs,h.ob⟩
  ·intro t rv Q
   obtain⟨v0,hm,rfl⟩:=A2 (tD ⟨fun id=>if bs.contains id then some id else none,tf s.boxes (su nb)⟩) Q
   obtain⟨v,N,d3⟩:=h.rX t v0 (l1 _ hm).1
   exact⟨v,N,R.tD G d3⟩
  ·intro id Y b K D
   obtain⟨_,L,hl,rfl⟩:=T id Y K
   rw [uS]at D
   exact h.own id L b hl D
  ·intro k L0 hk
   have b2:=(d0 k L0 hk).1
   have:=List.all_eq_true.1 f6 k (List.mem_range.2 b2)
   obtain⟨L,h3,h4⟩:=h.par k L0 hk
   exact⟨rY (su nb k) L,by simp only [loc',this,if_true,h3,E4],Dk b2 (d0 k L0 hk).2 h4⟩
 |own t id e=>
  simp only [ta]at C
  split at C
  ·rename_i k Q D hk
   cases C
   obtain⟨loc',h1,I,_⟩:=h.xr D (Step.refl none w) hk (hdr:= .slice none 0 0) (es:=[]) (xs:=[]) (.inl (.of (World.ownsRow_nil w 0 e _))) (Flat.nil S _) (fun g C=>by cases C) rfl
   refine⟨S,loc',?_⟩
   refine h1.wS _ fun x rv W=>?_
   split at W
   ·rename_i a9
    subst a9
    cases W
    obtain⟨v,N,G⟩:=h.rX x _ Q
    cases G with
    |rm=>exact⟨_,N,I⟩
   ·exact h1.rX x rv W
  ·cases C
   exact⟨S,loc,h⟩
  ·cases C
 |freeze t=>
  simp only [ta]at C
  rcases Q:s.rX t with _|rv
  ·simp [Q]at C
  rw [Q]at C
  cases rv<;>first|(simp at C;done)|skip
  rename_i id ver
  simp only at C
  rcases D:s.boxes id with _|U
  ·simp [D]at C
  rw [D]at C
  cases U<;>first|(simp at C;done)|skip
  rename_i F e es
  simp only at C
  by_cases E:ver=F
  rotate_left
  ·simp [E]at C
  subst E
  simp only [if_true,DJ]at C
  subst C
  obtain⟨S',h1,hs,hl,N⟩:=h.yA D
  have N:=fun v G=>(N ver e es D).1 v G
  refine⟨S',_,h1.wS _ fun x rv W=>?_⟩
  split at W
  ·rename_i a9
   subst a9
   cases W
   obtain⟨v,d5,G⟩:=h.rX x _ Q
   exact⟨v,d5,.d (N v G)⟩
  ·exact h1.rX x rv W
 |frz p=>
  simp only [ta]at C
  rcases hp:uI s p with _|rv
  ·simp [hp]at C
  rw [hp]at C
  cases rv<;>first|(simp at C;done)|skip
  ·simp only [DJ]at C
   subst C
   exact⟨S,loc,h⟩
  ·simp only [DJ]at C
   subst C
   exact⟨S,loc,h.uO hp fun v G=>by cases G;exact .d (.nil _ _)⟩
  ·rename_i id ver
   simp only at C
   rcases D:s.boxes id with _|U
   ·simp [D]at C
   rw [D]at C
   cases U<;>first|(simp at C;done)|skip
   rename_i F e es
   simp only at C
   by_cases E:ver=F
   rotate_left
   ·simp [E]at C
   subst E
   simp only [if_true,DJ]at C
   subst C
   obtain⟨S',h1,hs,hl,N⟩:=h.yA D
   have N:=fun v G=>(N ver e es D).1 v G
   have O:({ s with boxes:=upd s.boxes id .dead }:St)={ s with boxes:=fun i=>if i=id then some .dead else s.boxes i }:=rfl
   rw [O]at h1
   have h5:uI ({ s with boxes:=fun i=>if i=id then some .dead else s.boxes i }:St) p=some (.ref id ver):=wv hp fun off e=>by
    subst e
    simp only [uI,D]at hp
    cases hp
   cases p with
   |reg t=>
    refine⟨S',_,h1.wS _ fun x rv W=>?_⟩
    split at W
    ·rename_i a9
     subst a9
     cases W
     obtain⟨v,d5,G⟩:=h.rX x _ hp
     exact⟨v,d5,.d (N v G)⟩
    ·exact h1.rX x rv W
   |cell i off=>
    have a6:i≠id:=fun e=>by
     subst e
     simp only [uI,D]at hp
     cases hp
    simp only [uI]at hp
    rcases b4:s.boxes i with _|U
    ·simp [b4]at hp
    rw [b4]at hp
    cases U with
    |arr _ _ _=>cases hp
    |dead=>cases hp
    |map _ _ _=>cases hp
    |nest _ _ _ _ _=>cases hp
    |hole _ _ _ _ _ _=>cases hp
    |var cs=>
     simp only at hp
     simp only [Dw.uO,a6,if_false,b4]
     refine⟨S',_,h1.nt,h1.rX,fun j U hj=>?_,fun j L K=>?_,h1.imm,h1.vN,h1.uM,h1.inj,h1.own,h1.frame,h1.s0,h1.par,h1.xM,h1.bs,h1.ob⟩
     ·simp only at hj
      by_cases b5:j=i
      ·subst b5
       simp only [if_true]at hj
       cases hj
       obtain⟨L,K,hB⟩:=h.boxes j _ b4
       obtain⟨Y,b1,f3⟩:=h1.boxes j (.var cs) (by simp only [a6,if_false];exact b4)
       refine⟨Y,b1,?_⟩
       have f4:Y=L:=by
        rw [sy _ _ a6,K]at b1
        exact(Ew b1).symm
       subst f4
       cases hB with
       |var _ b t vs hw g5 hc=>
        cases f3 with
        |var _ _ t' h6 f0 h0 f5=>
         rw [hw]at f0
         cases f0
         exact .var _ b t vs hw (by simpa using g5) (R.Af f5 fun v c2=>.d (N v (hc off _ v hp c2)))
      ·simp only [b5,if_false]at hj
       exact h1.boxes j U hj
     ·obtain⟨U,c6⟩:=h1.dom j L K
      by_cases b5:j=i
      ·subst b5;exact⟨_,if_pos rfl⟩
      ·exact⟨U,by simp only [b5,if_false];exact c6⟩
 |ownp p id e=>
  simp only [ta]at C
  split at C
  ·rename_i k hp D hk
   cases C
   obtain⟨loc',h1,I,_⟩:=h.xr D (Step.refl none w) hk (hdr:= .slice none 0 0) (es:=[]) (xs:=[]) (.inl (.of (World.ownsRow_nil w 0 e _))) (Flat.nil S _) (fun g C=>by cases C) rfl
   have O:({ s with boxes:=upd s.boxes id (.arr 0 e []) }:St)={ s with boxes:=fun i=>if i=id then some (.arr 0 e [])else s.boxes i }:=rfl
   refine⟨S,loc',Sim.uO (s:={ s with boxes:=fun i=>if i=id then some (.arr 0 e [])else s.boxes i }) h1 (wv hp fun off he=>?_) fun v G=>?_⟩
   ·subst he
    simp only [uI,D]at hp
    cases hp
   ·cases G with
    |rm=>exact I
  ·cases C
   exact⟨S,loc,h⟩
  ·cases C
 |mv p new=>
  simp only [ta]at C
  rcases hp:uI s p with _|rv
  ·simp [hp]at C
  rw [hp]at C
  cases rv<;>first|(simp at C;done)|(simp only [DJ]at C;subst C;exact⟨S,loc,h⟩)|skip
  rename_i id ver
  simp only at C
  by_cases hid:id=new
  ·rw [if_pos hid]at C;cases C;exact⟨S,loc,h⟩
  rw [if_neg hid]at C
  by_cases e5:nb<=id∧nb<=new
  rotate_left
  ·rw [if_neg e5]at C;cases C
  rw [if_pos e5]at C
  simp only [DJ]at C
  subst C
  let pos:Nat->Option Nat:=fun i=>if i=id then some new else if i=new then none else some i
  let loc':ss:=fun k=>if k=new then loc id else if k=id then none else loc k
  have sv:∀L:Loc,rY (fun c=>c) L=L:=fun L=>DF L fun _=>rfl
  have e6:∀i k L,pos i=some k->loc i=some L->loc' k=some L:=by
   intro i k L h1 I
   simp only [pos]at h1
   split at h1
   ·rename_i e;subst e;cases h1;simp only [loc',if_true];exact I
   ·split at h1
    ·cases h1
    ·rename_i n1 n2;cases h1;simp only [loc',n1,n2,if_false];exact I
  have G:w7 ⟨pos,tf s.boxes fun _ c=>c⟩ loc loc':=w7.mk' (P:=P) (S:=S) (w:=w) h.boxes fun i k L h1 I=>by rw [sv];exact e6 i k L h1 I
  have c0:∀k,(∃i,pos i=some k∧∀α(f:Nat->Option α),(if k=new then f id else if k=id then none else f k)=f i)∨(k=id):=by
   intro k
   by_cases h1:k=new
   ·subst h1;exact .inl ⟨id,by simp only [pos,if_true],fun α f=>if_pos rfl⟩
   ·by_cases I:k=id
    ·exact .inr I
    ·exact .inl ⟨k,by simp only [pos,h1,I,if_false],fun α f=>by rw [if_neg h1,if_neg I]⟩
  have a5:∀α(f:Nat->Option α),(if id=new then f id else if id=id then none else f id)=none:=fun α f=>by rw [if_neg hid,if_pos rfl]
  have J:=h.mem.ren (loc':=loc') (b':=fun i=>if i=new then(s.boxes id).map (uB ⟨pos,tf s.boxes fun _ c=>c⟩ fun c=>c)else if i=id then none else(s.boxes i).map (uB ⟨pos,tf s.boxes fun _ c=>c⟩ fun c=>c)) G
   (fun k f2 hk => by
    rcases c0 k with⟨i,h1,I⟩|rfl
    ·have hk:=(I _ fun i=>(s.boxes i).map (uB ⟨pos,tf s.boxes fun _ c=>c⟩ fun c=>c)).symm.trans hk
     rw [FZ]at hk
     obtain⟨b0,h3,rfl⟩:=hk
     exact⟨i,b0,fun c=>c,h1,h3,rfl,fun L K=>by rw [sv];exact e6 i k L h1 K⟩
    ·have:=(a5 _ fun i=>(s.boxes i).map (uB ⟨pos,tf s.boxes fun _ c=>c⟩ fun c=>c)).symm.trans hk
     cases this)
   (fun k Y hk => by
    rcases c0 k with⟨i,h1,I⟩|rfl
    ·have e3:loc i=some Y:=(I _ loc).symm.trans hk
     obtain⟨U,c6⟩:=h.dom i Y e3
     refine⟨⟨uB ⟨pos,tf s.boxes fun _ c=>c⟩ (fun c=>c) U,?_⟩,i,Y,fun c=>c,h1,e3,(sv Y).symm⟩
     rw [I _ fun i=>(s.boxes i).map (uB ⟨pos,tf s.boxes fun _ c=>c⟩ fun c=>c),c6]
     rfl
    ·have:=(a5 _ loc).symm.trans hk
     cases this)
  refine⟨S,loc',h.nt,fun t rv Q=>?_,J.boxes,J.dom,h.imm,h.vN,J.uM,J.inj,fun k L b K D=>?_,h.frame,h.s0,fun k L0 hk=>?_,h.xM,h.bs,h.ob⟩
  ·simp only [FZ]at Q
   obtain⟨c3,h1,rfl⟩:=Q
   obtain⟨v,N,d3⟩:=h.rX t c3 h1
   exact⟨v,N,R.tD G d3⟩
  ·rcases c0 k with⟨i,h1,I⟩|rfl
   ·exact h.own i L b ((I _ loc).symm.trans K) D
   ·have:=(a5 _ loc).symm.trans K
    cases this
  ·have b2:=(d0 k L0 hk).1
   obtain⟨L,h3,h4⟩:=h.par k L0 hk
   refine⟨L,?_,h4⟩
   have n1:k≠new:=by omega
   have n2:k≠id:=by omega
   simp only [loc',n1,n2,if_false]
   exact h3
 |fixv id=>
  simp only [ta]at C
  rcases D:s.boxes id with _|U
  ·simp [D]at C
  rw [D]at C
  cases U<;>first|(simp at C;done)|skip
  rename_i cs
  simp only at C
  rcases ha:w9 cs with _|ps
  ·simp [ha]at C
  simp only [ha]at C
  by_cases b6:ps.all PD.one=true
  rotate_left
  ·rw [if_neg b6]at C;cases C
  rw [if_pos b6]at C
  simp only [DJ]at C
  subst C
  have g0:=wy ha
  subst g0
  obtain⟨L,K,hB⟩:=h.boxes id _ D
  cases hB with
  |var _ b t vs hw hl hc=>
  have c2:∀(i:Nat)p u,ps[i]? =some p->vs[i]? =some u->V S p u:=fun i p u h1 I=>by
   have:=hc i (.d p) u (by simp [h1]) I
   cases this with|d h=>exact h
  have hlen:vs.size=ps.length:=by simpa using hl
  have h1:∀u∈vs,u.oneCell'=true:=fun u hu=>by
   obtain⟨i,hi,rfl⟩:=Array.getElem_of_mem hu
   have e0:i<ps.length:=by omega
   exact((c2 i ps[i] vs[i] (zf e0) (EM hi)).vv (List.all_eq_true.1 b6 _ (EJ e0))).1
  obtain⟨k1,k2,k3⟩:=h.Dc D K hw h1
  have O:({ s with boxes:=upd s.boxes id .dead }:St)={ s with boxes:=fun i=>if i=id then some .dead else s.boxes i }:=rfl
  rw [O]at k1
  refine⟨_,_,k1.wS (fun t=>(s.rX t).map (fixRV id ps)) fun t rv Q=>?_⟩
  rw [FZ]at Q
  obtain⟨c3,I,rfl⟩:=Q
  obtain⟨v,N,G⟩:=h.rX t c3 I
  obtain⟨v',e8,e7⟩:=k1.rX t c3 I
  rw [N]at e8
  cases e8
  refine⟨v,N,?_⟩
  unfold fixRV
  split
  ·rename_i i off
   split
   ·rename_i hi
    subst hi
    cases G with
    |ptr _ _ _ L2 ho d6 hp=>
     rw [K]at d6
     cases d6
     rw [(hp b).1 rfl]
     have d7:∀(j:Nat)c,(ps.drop off)[j]? =some c->∃u,vs[off+j]? =some u∧V S c u:=fun j c hj=>by
      rw [List.getElem?_drop]at hj
      have b2:off+j<vs.size:=by rw [hlen];exact(List.getElem?_eq_some_iff.1 hj).1
      exact⟨_,EM b2,c2 _ c _ hj (EM b2)⟩
     refine .cptr _ b off (fun j=>(vs[off+j]?).getD default) (fun j c hj=>?_) fun j c hj=>?_
     ·obtain⟨u,hu,_⟩:=d7 j c hj
      rw [k3 _ u hu,hu];rfl
     ·obtain⟨u,hu,g7⟩:=d7 j c hj
      rw [hu]
      exact g7.mono k2
   ·exact e7
  ·exact e7
 |bump t=>
  simp only [ta]at C
  rcases Q:s.rX t with _|rv
  ·simp [Q]at C
  rw [Q]at C
  cases rv<;>first|(simp at C;done)|skip
  rename_i id ver
  simp only at C
  rcases D:s.boxes id with _|U
  ·simp [D]at C
  rw [D]at C
  cases U<;>first|(simp at C;done)|skip
  rename_i F e es
  simp only at C
  by_cases E:ver=F
  rotate_left
  ·simp [E]at C
  subst E
  simp only [if_true,DJ]at C
  subst C
  obtain⟨v,N,G⟩:=h.rX t _ Q
  obtain⟨sz,xs,T,d4,how,hf⟩:=h.vX D G
  have ho:v.oneCell'=true:=by cases G with|ref _ _ _ _ ho=>exact ho
  have c1:sb (loc id) (.arr (ver+1) e sz v):=by
   rw [T]
   exact .arr za
  have b3:=h.sW (Step.refl none w) id (.arr (ver+1) e es) (.arr (ver+1) e sz v) (fun b hc=>by cases hc) (.arr (ver+1) e es sz v xs d4 how hf) (fun b c5=>.inl ⟨_,T,c5⟩) c1
  have O:({ s with boxes:=upd s.boxes id (.arr (ver+1) e es) }:St)={ s with boxes:=fun i=>if i=id then some (.arr (ver+1) e es)else s.boxes i }:=rfl
  rw [O]at b3
  refine⟨S,_,b3.wS _ fun x rv W=>?_⟩
  split at W
  ·rename_i a9
   subst a9
   cases W
   exact⟨v,N,.ref id (ver+1) v _ ho (rK _ _ _) fun F e' f1 c4 he=>by cases he;exact⟨DI _,fun _=>rfl⟩⟩
  ·exact b3.rX x rv W
 |bumpp p=>
  simp only [ta]at C
  rcases Q:uI s p with _|rv
  ·simp [Q]at C
  rw [Q]at C
  cases rv<;>first|(simp at C;done)|skip
  rename_i id ver
  simp only at C
  rcases D:s.boxes id with _|U
  ·simp [D]at C
  rw [D]at C
  cases U<;>first|(simp at C;done)|skip
  rename_i F e es
  simp only at C
  by_cases E:ver=F
  rotate_left
  ·simp [E]at C
  subst E
  simp only [if_true,DJ]at C
  subst C
  obtain⟨L,K,hB⟩:=h.boxes id _ D
  cases hB with
  |arr _ _ _ sz hdr xs d4 how hf=>
  have c1:sb (loc id) (.arr (ver+1) e sz hdr):=by
   rw [K]
   exact .arr za
  have b3:=h.sW (Step.refl none w) id (.arr (ver+1) e es) (.arr (ver+1) e sz hdr) (fun b hc=>by cases hc) (.arr (ver+1) e es sz hdr xs d4 how hf) (fun b c5=>.inl ⟨_,K,c5⟩) c1
  have O:({ s with boxes:=upd s.boxes id (.arr (ver+1) e es) }:St)={ s with boxes:=fun i=>if i=id then some (.arr (ver+1) e es)else s.boxes i }:=rfl
  rw [O]at b3
  have d1:uI { s with boxes:=fun i=>if i=id then some (.arr (ver+1) e es)else s.boxes i } p=some (.ref id ver):=wv Q fun off d2=>by
   subst d2
   simp only [uI,D]at Q
   cases Q
  refine⟨S,_,b3.plSet' d1 fun v N=>?_⟩
  have g6:PlAt loc tm w v p:=by
   cases p with
   |reg t=>exact N
   |cell i off=>
    obtain⟨b,vs,ty,h1,I,h3⟩:=N
    refine⟨b,vs,ty,?_,I,h3⟩
    by_cases hi:i=id
    ·subst hi;rw [rK]at h1;cases h1
    ·rwa [sy _ _ hi]at h1
  have G:=h.plAt Q v g6
  cases G with
  |ref _ _ _ Y ho b1 hc=>
   rw [K]at b1
   cases b1
   have:=(hc ver e sz hdr .arr).2 rfl
   subst this
   exact .ref id (ver+1) _ _ ho (rK _ _ _) fun F e' f1 c4 he=>by cases he;exact⟨DI _,fun _=>rfl⟩
 |ownn p id e e2=>
  simp only [ta]at C
  split at C
  ·rename_i k hp D hk g4
   cases C
   have T:=h.si D
   have c1:sb (loc id) (.nest 0 e 1 (.slice none 0 0) []):=by rw [T];trivial
   have h1:=h.sW (Step.refl none w) id (.nest 0 e e2 [] none) (.nest 0 e 1 (.slice none 0 0) []) (fun b hc=>by cases hc)
    (.nest 0 e e2 [] none _ [] [] hk ⟨k,g4⟩ (.inl (.of (World.ownsRow_nil w 0 e _))) .nil (by simp [tp]) (fun i rv e=>by cases e)) (fun b D=>by simp [Loc.has,tp]at D) c1
   have O:({ s with boxes:=upd s.boxes id (.nest 0 e e2 [] none) }:St)={ s with boxes:=fun i=>if i=id then some (.nest 0 e e2 [] none)else s.boxes i }:=rfl
   rw [O]at h1
   refine⟨S,_,Sim.uO (s:={ s with boxes:=fun i=>if i=id then some (.nest 0 e e2 [] none)else s.boxes i }) h1 (wv hp fun off he=>?_) fun v G=>?_⟩
   ·subst he
    simp only [uI,D]at hp
    cases hp
   ·cases G with
    |rm=>exact .ref id 0 _ _ rfl (rK _ _ _) fun F e' f1 c4 he=>by cases he;exact⟨DI _,fun _=>rfl⟩
  ·cases C
   exact⟨S,loc,h⟩
  ·cases C
 |lend id i new=>
  simp only [ta]at C
  split at C
  rotate_left
  ·cases C
  rename_i ver e e2 ess D e4
  rcases c8:xj s ess i with _|⟨j,es⟩
  ·simp [c8]at C
  simp only [c8,DJ]at C
  subst C
  exact h.lend D e4 (CS c8)
 |give id=>
  simp only [ta]at C
  split at C
  ·rename_i ver e e2 ess i k kv D
   split at C
   rotate_left
   ·cases C
   rename_i g8 e' es hk
   split at C
   rotate_left
   ·cases C
   rename_i hc
   obtain⟨rfl,rfl,a6⟩:=hc
   cases C
   exact⟨S,h.give D hk a6⟩
  ·cases C
  ·cases C
   exact⟨S,loc,h⟩
 |frzn p=>
  simp only [ta]at C
  split at C
  ·rename_i id ver hp
   split at C
   rotate_left
   ·cases C
   rename_i F e e2 ess D
   split at C
   rotate_left
   ·cases C
   rename_i E
   subst E
   cases C
   obtain⟨S',h1,N⟩:=h.freezeN D
   have O:({ s with boxes:=upd s.boxes id .dead }:St)={ s with boxes:=fun i=>if i=id then some .dead else s.boxes i }:=rfl
   rw [O]at h1
   have d1:uI { s with boxes:=fun i=>if i=id then some .dead else s.boxes i } p=some (.ref id ver):=wv hp fun off d2=>by
    subst d2
    simp only [uI,D]at hp
    cases hp
   refine⟨S',_,h1.plSet' d1 fun v e9=>.d (N v (h.plAt hp v ?_))⟩
   cases p with
   |reg t=>exact e9
   |cell i off=>
    obtain⟨b,vs,ty,g1,g2,g3⟩:=e9
    refine⟨b,vs,ty,?_,g2,g3⟩
    by_cases hi:i=id
    ·subst hi;rw [rK]at g1;cases g1
    ·rwa [sy _ _ hi]at g1
  ·rename_i hp
   cases C
   exact⟨S,loc,h.uO hp fun v G=>by cases G;exact .d (.nil _ _)⟩
  ·cases C
   exact⟨S,loc,h⟩
  ·cases C
 |opn id r o=>
  simp only [ta]at C
  split at C
  rotate_left
  ·cases C
  rename_i ver e es q n D G
  split at C
  rotate_left
  ·cases C
  rename_i x W
  split at C
  rotate_left
  ·cases C
  rename_i c hc
  cases C
  exact⟨S,h.opn D W hc⟩
 |cls id=>
  simp only [ta]at C
  split at C
  ·rename_i ver e es i o c D
   split at C
   rotate_left
   ·cases C
   rename_i hc
   cases C
   exact⟨S,h.clsD D hc⟩
  ·rename_i ver e es i o k kv D
   split at C
   rotate_left
   ·cases C
   rename_i g8 e' g9 hk
   split at C
   rotate_left
   ·cases C
   rename_i hc
   obtain⟨rfl,a6⟩:=hc
   cases C
   exact h.clsR D hk a6
  ·cases C
  ·cases C
   exact⟨S,loc,h⟩
theorem yB{nb:Nat}(j:∀k b,X.par k=some b->k<nb∧∀ver e sz hdr,b.Row ver e sz hdr->ver=0):∀(gs:List w6){s s':St}{S:rP}{loc:ss},rJ P nb s gs=some s'->Sim P X S loc s tm w->∃S' loc',Sim P X S' loc' s' tm w
 | [],s,s',S,loc,h,hs=>by simp only [rJ,DJ]at h;subst h;exact⟨S,loc,hs⟩
 |g::gs,s,s',S,loc,h,hs=>by
  simp only [rJ]at h
  rcases h1:ta P nb s g with _|s1
  ·simp [h1]at h
  simp only [h1]at h
  obtain⟨S1,r,q⟩:=Bq j h1 hs
  exact yB j gs h q
end
def Ex.out:Ex->Exit
 | .normal=>.normal
 | .exit id=>.exit id
 | .ret=>.ret
section
variable {P:Program}{X:Ctx}{H:Hints}{f:FuncId}{nb:Nat}{call:rO}{fuel:Nat}
theorem xP{c:Code}{body:St->Option (Ex×St)}{Q:Exit->Act->World->Prop}
  (g:∀{s:St}{e:Ex}{s':St}{a:Act}{w:World}{Q:Exit->Act->World->Prop},body s=some (e,s')->vW P X s a w->(∀k w',vW P X s' k w'->Q e.out k w')->c.wp P Q a w):
  ∀(n:Nat){s:St}{e:Ex}{s':St}{a:Act}{w:World},wD body n s=some (e,s')->vW P X s a w->(∀k w',vW P X s' k w'->Q e.out k w')->Code.rounds P c Q n a w
 |0,s,e,s',a,w,h,_,_=>by simp [wD]at h
 |n+1,s,e,s',a,w,h,hS,q=>by
  simp only [wD]at h
  rcases h1:body s with _|⟨r,s1⟩
  ·simp [h1]at h
  rw [h1]at h
  rw [rounds_succ]
  cases r with
  |normal=>
   simp only at h
   exact g h1 hS fun k w' j=>xP g n h j q
  |exit id=>
   simp only [DJ,DL]at h
   obtain⟨rfl,rfl⟩:=h
   exact g h1 hS fun k w' j=>q k w' j
  |ret=>
   simp only [DJ,DL]at h
   obtain⟨rfl,rfl⟩:=h
   exact g h1 hS fun k w' j=>q k w' j
theorem sY(g:uv P X.base call)(hm:P.follows .mixedOrders=true)(r:∀k b,X.par k=some b->k<nb∧∀ver e sz hdr,b.Row ver e sz hdr->ver=0):∀(c:Code){s:St}{e:Ex}{s':St}{a:Act}{w:World}{Q:Exit->Act->World->Prop},
  yx X.nt c=true->sa P H f nb call fuel c s=some (e,s')->vW P X s a w->(∀C w',vW P X s' C w'->Q e.out C w')->c.wp P Q a w
 | .skip,s,e,s',a,w,Q,_,h,hS,q=>by
  simp only [sa,DJ,DL]at h
  obtain⟨rfl,rfl⟩:=h
  exact wp_skip (q a w hS)
 | .region id ops K,s,e,s',a,w,Q,u,h,hS,q=>by
  simp only [sa]at h
  rcases h1:yz P H f nb call id ops K s with _|s1
  ·simp [h1]at h
  simp only [h1,DJ,DL]at h
  obtain⟨rfl,rfl⟩:=h
  unfold yz at h1
  rcases N:rJ P nb s (H.at_ f nb id)with _|s0
  ·simp [N]at h1
  simp only [N]at h1
  rcases O:tQ P (H.hf f) call ops ops.toList s0 with _|⟨s2,ts⟩
  ·simp [O]at h1
  simp only [O]at h1
  obtain⟨F,S,loc,D⟩:=hS
  obtain⟨S',loc',E⟩:=yB r _ N D
  have G:DstIn X.nt ops:=by
   intro i o ho d T
   have:=Array.all_eq_true_iff_forall_mem.1 (show(ops.all fun o=>match o.dst with|some d=>decide (d<X.nt)|none=>true)=true from u) o (Array.mem_of_getElem? ho)
   simpa [T]using this
  have W:s2=s1∧(K=true->u9 ops ts=true):=by
   cases K with
   |true=>
    simp only [if_true]at h1
    split at h1
    ·rename_i U;cases h1;exact⟨rfl,fun _=>U⟩
    ·cases h1
   |false=>simp only [EL,if_false,DJ]at h1;exact⟨h1,fun h=>by cases h⟩
  obtain⟨rfl,I⟩:=W
  exact BA g hm G O I ⟨F,S',loc',E⟩ q
 | .seq x y,s,e,s',a,w,Q,u,h,hS,q=>by
  simp only [yx,EE]at u
  simp only [sa]at h
  rcases h1:sa P H f nb call fuel x s with _|⟨L,s1⟩
  ·simp [h1]at h
  rw [h1]at h
  refine wp_seq ?_
  cases L with
  |normal=>
   simp only at h
   exact sY g hm r x u.1 h1 hS fun C w' j=>sY g hm r y u.2 h j q
  |exit id=>
   simp only [DJ,DL]at h
   obtain⟨rfl,rfl⟩:=h
   exact sY g hm r x u.1 h1 hS fun C w' j=>q C w' j
  |ret=>
   simp only [DJ,DL]at h
   obtain⟨rfl,rfl⟩:=h
   exact sY g hm r x u.1 h1 hS fun C w' j=>q C w' j
 | .cond c x y,s,e,s',a,w,Q,u,h,hS,q=>by
  simp only [yx,EE]at u
  simp only [sa]at h
  rcases h1:s.opd c with _|rv
  ·simp [h1]at h
  rw [h1]at h
  rcases rv with p|_|_|_|_|_|_|_|_|_|_|_|_<;>first|(simp at h;done)|skip
  cases p<;>first|(simp at h;done)|skip
  rename_i t
  have j:=hS
  obtain⟨F,S,loc,D⟩:=j
  have J:=(D.opd h1).uX
  cases t with
  |true=>
   simp only [if_true]at h
   exact wp_cond_true J (sY g hm r x u.1 h hS q)
  |false=>
   simp only [EL,if_false]at h
   exact wp_cond_false J (sY g hm r y u.2 h hS q)
 | .block id x,s,e,s',a,w,Q,u,h,hS,q=>by
  simp only [sa]at h
  rcases h1:sa P H f nb call fuel x s with _|⟨L,s1⟩
  ·simp [h1]at h
  rw [h1]at h
  refine wp_block (sY g hm r x u h1 hS fun C w' j=>?_)
  cases L with
  |normal=>
   simp only [DJ,DL]at h
   obtain⟨rfl,rfl⟩:=h
   exact q C w' j
  |exit Y=>
   simp only at h
   by_cases hid:Y=id
   ·simp only [hid,if_true,DJ,DL]at h
    obtain⟨rfl,rfl⟩:=h
    simp only [Ex.out,Exit.inBlock,hid,if_true]
    exact q C w' j
   ·simp only [hid,if_false,DJ,DL]at h
    obtain⟨rfl,rfl⟩:=h
    simp only [Ex.out,Exit.inBlock,hid,if_false]
    exact q C w' j
  |ret=>
   simp only [DJ,DL]at h
   obtain⟨rfl,rfl⟩:=h
   exact q C w' j
 | .loop x,s,e,s',a,w,Q,u,h,hS,q=>by
  simp only [sa]at h
  exact wp_loop_rounds fuel (xP (fun J hS q=>sY g hm r x u J hS q) fuel h hS q)
 | .exit id,s,e,s',a,w,Q,_,h,hS,q=>by
  simp only [sa,DJ,DL]at h
  obtain⟨rfl,rfl⟩:=h
  exact wp_exit (q a w hS)
 | .ret,s,e,s',a,w,Q,_,h,hS,q=>by
  simp only [sa,DJ,DL]at h
  obtain⟨rfl,rfl⟩:=h
  exact wp_ret (q a w hS)
 | .rangeFunc _ _ _ _,s,e,s',a,w,Q,_,h,_,_=>by simp [sa]at h
 | .scope x,s,e,s',a,w,Q,u,h,hS,q=>by
  simp only [sa]at h
  refine wp_scope_straight (sY g hm r x u h hS fun C w' j=>?_)
  have:=q C w' j
  cases e<;>exact this
 | .label _,s,e,s',a,w,Q,_,h,hS,q=>by
  simp only [sa,DJ,DL]at h
  obtain⟨rfl,rfl⟩:=h
  exact wp_label (q a w hS)
 | .goto _,s,e,s',a,w,Q,_,h,_,_=>by simp [sa]at h
 | .refuse _,s,e,s',a,w,Q,_,h,_,_=>by simp [sa]at h
end
end Go.Dw
