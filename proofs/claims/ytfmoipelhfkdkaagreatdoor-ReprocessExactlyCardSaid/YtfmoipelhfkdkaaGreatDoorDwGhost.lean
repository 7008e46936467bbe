
import Derived.Test.YtfmoipelhfkdkaaGreatDoorDwRegion
import Derived.Scope
set_option linter.unusedVariables false
set_option linter.unusedSimpArgs false
open Option.some renaming inj->E9, injEq->DB
open List renaming getElem?_cons_zero->DS, getElem?_set->DT, getElem_mem->Dp, length_set->Eu, map_cons->Ed, mem_append->Ew, mem_singleton->Ey, nil_append->D0, nodup_append->Ez
open Nat renaming le_refl->DA, zero_min->FA
open Option renaming map_eq_some_iff->FC, map_some->EJ, toList_some->FD
open Array renaming getElem?_eq_getElem->Ds
open Prod.mk renaming injEq->DD
open Bool renaming and_eq_true->D6, false_eq_true->Dr

namespace Go.Dw
theorem yA{α:Type}{f:Nat->Option α}:∀{ts:List Nat}{l:List (Nat×α)},gets f ts=some l->(∀x∈l,f x.1=some x.2∧x.1∈ts)∧∀t∈ts,∃v,(t,v)∈l
 | [],l,h=>by
  simp only [gets,DB]at h
  subst h
  exact⟨(fun x g=>by cases g),(fun t j=>by cases j)⟩
 |t::ts,l,h=>by
  simp only [gets]at h
  rcases h1:f t with _|v
  ·simp [h1]at h
  rcases k:gets f ts with _|r
  ·simp [h1,k]at h
  simp only [h1,k,DB]at h
  subst h
  obtain⟨g1,g2⟩:=yA k
  refine⟨fun x g=>?_,fun u j=>?_⟩
  ·rcases List.mem_cons.1 g with rfl|g
   ·exact⟨h1,zc⟩
   ·exact⟨(g1 x g).1,by simp [(g1 x g).2]⟩
  ·rcases List.mem_cons.1 j with rfl|j
   ·exact⟨v,zc⟩
   ·obtain⟨v',q⟩:=g2 u j
    exact⟨v',by simp [q]⟩
theorem AM{α:Type}(g:α->α):∀{l:List (Nat×α)}{t:Nat}{v:α},assoc (l.map fun x=>(x.1,g x.2)) t=some v->∃v0,(t,v0)∈l∧v=g v0
 | [],t,v,h=>by simp [assoc]at h
 |(k,a)::r,t,v,h=>by
  simp only [Ed,assoc]at h
  by_cases hk:t=k
  ·subst hk
   simp only [if_true,DB]at h
   exact⟨a,zc,h.symm⟩
  ·simp only [hk,if_false]at h
   obtain⟨v0,h1,j⟩:=AM g h
   exact⟨v0,by simp [h1],j⟩
theorem zG{α:Type}(g:Nat->α->α):∀{l:List (Nat×α)}{t:Nat}{v:α},assoc (l.map fun x=>(x.1,g x.1 x.2)) t=some v->∃v0,(t,v0)∈l∧v=g t v0
 | [],t,v,h=>by simp [assoc]at h
 |(k,a)::r,t,v,h=>by
  simp only [Ed,assoc]at h
  by_cases hk:t=k
  ·subst hk
   simp only [if_true,DB]at h
   exact⟨a,zc,h.symm⟩
  ·simp only [hk,if_false]at h
   obtain⟨v0,h1,j⟩:=zG g h
   exact⟨v0,by simp [h1],j⟩
theorem zH{α:Type}(g:Nat->α->α):∀{l:List (Nat×α)}{t:Nat}{v:α},(t,v)∈l->∃v',assoc (l.map fun x=>(x.1,g x.1 x.2)) t=some v'
 | [],t,v,h=>by cases h
 |(k,a)::r,t,v,h=>by
  simp only [Ed,assoc]
  by_cases hk:t=k
  ·exact⟨g k a,by simp [hk]⟩
  ·simp only [hk,if_false]
   rcases List.mem_cons.1 h with h|h
   ·cases h;exact(hk rfl).elim
   ·exact zH g h
section
variable {P:Program}{X:Ctx}{S:rC}{loc:sf}{s:St}{tm:Array Value}{w:World}
theorem Sim.wG(h:Sim P X S loc s tm w)(g:Nat->Option RV)(j:∀t rv,g t=some rv->∃v,tm[t]? =some v∧R S loc rv v):Sim P X S loc { s with rJ:=g } tm w:=
 ⟨h.nt,j,h.boxes,h.dom,h.imm,h.vA,h.uC,h.inj,h.own,h.frame,h.s0,h.par,h.xz,h.bs,h.ob⟩
theorem Dk(L:Loc){f:Nat->Nat}(hf:∀v,f v=v):rK f L=L:=by cases L<;>simp [rK,hf]
theorem R.zO{cs:List RV}{vs:Array Value}{S:rC}{loc:sf}(hc:∀(i:Nat)c v,cs[i]? =some c->vs[i]? =some v->R S loc c v){off:Nat}{x:RV}(j:∀v,vs[off]? =some v->R S loc x v):
  ∀(i:Nat)c v,(cs.set off x)[i]? =some c->vs[i]? =some v->R S loc c v:=by
 intro i c v h1 g
 by_cases hi:off=i
 ·subst hi
  rw [DT]at h1
  simp only [if_true]at h1
  split at h1
  ·cases h1;exact j v g
  ·cases h1
 ·rw [List.getElem?_set_ne hi]at h1
  exact hc i c v h1 g
theorem Sim.uE(h:Sim P X S loc s tm w){p:Pl}{rv x:RV}(hp:uw s p=some rv)(D:∀v,R S loc rv v->R S loc x v):Sim P X S loc (Dw.uE s x p) tm w:=by
 cases p with
 |reg t=>
  refine h.wG _ fun y C u=>?_
  split at u
  ·rename_i B
   subst B
   cases u
   obtain⟨v,r,F⟩:=h.rJ y _ hp
   exact⟨v,r,D v F⟩
  ·exact h.rJ y C u
 |cell id off=>
  simp only [uw]at hp
  rcases j:s.boxes id with _|g
  ·simp [j]at hp
  rw [j]at hp
  cases g with
  |arr _ _ _=>cases hp
  |dead=>cases hp
  |map _ _ _=>cases hp
  |nest _ _ _ _ _=>cases hp
  |hole _ _ _ _ _ _=>cases hp
  |var cs=>
   simp only at hp
   simp only [Dw.uE,j]
   refine⟨h.nt,h.rJ,fun i g hi=>?_,fun i L k=>?_,h.imm,h.vA,h.uC,h.inj,h.own,h.frame,h.s0,h.par,h.xz,h.bs,h.ob⟩
   ·simp only at hi
    split at hi
    ·rename_i hid
     subst hid
     cases hi
     obtain⟨L,k,E⟩:=h.boxes i _ j
     refine⟨L,k,?_⟩
     cases E with
     |var _ b t vs hw hl hc=>
      exact .var _ b t vs hw (by simpa using hl) (R.zO hc fun v r=>D v (hc off rv v hp r))
    ·exact h.boxes i g hi
   ·obtain⟨g,q⟩:=h.dom i L k
    by_cases hid:i=id
    ·subst hid;exact⟨_,if_pos rfl⟩
    ·exact⟨g,by simp only [hid,if_false];exact q⟩
theorem v7{id:Nat}{g:Box}{rv:RV}:∀{p:Pl},uw s p=some rv->(∀off,p≠ .cell id off)->uw { s with boxes:=fun i=>if i=id then some g else s.boxes i } p=some rv
 | .reg t,h,_=>h
 | .cell i off,h,j=>by
  have:i≠id:=fun e=>j off (by rw [e])
  simp only [uw,this,if_false]at h⊢
  exact h
theorem C1{nb k:Nat}(g:k<nb){q L:Loc}(j:∀ver e sz hdr,q.Row ver e sz hdr->ver=0)(h:vd q L):vd q (rK (sg nb k) L):=by
 cases h with
 |same=>
  cases q with
  |arr ver e sz hdr=>
   have:=j ver e sz hdr .arr
   subst this
   simp only [rK,sg,g,if_true,FA]
   exact .same _
  |nest ver e sz hdr bs=>
   have:=j ver e sz hdr .nest
   subst this
   simp only [rK,sg,g,if_true,FA]
   exact .same _
  |var b=>exact .same _
  |dead=>exact .same _
  |map b=>exact .same _
 |dead=>exact .dead _
 |arr r=>
  have:=j _ _ _ _ .arr
  subst this
  refine .arr ?_
  simp only [sg,g,if_true]
  omega
 |nest r=>
  have:=j _ _ _ _ .nest
  subst this
  refine .nest ?_
  simp only [sg,g,if_true]
  omega
 |held=>
  have:=j _ _ _ _ .nest
  subst this
  simp only [rK,sg,g,if_true,FA]
  exact .held
def PlAt(loc:sf)(tm:Array Value)(w:World)(v:Value):Pl->Prop
 | .reg t=>tm[t]? =some v
 | .cell id off=>∃b vs ty,loc id=some (.var b)∧w.heap[b]? =some (.cells vs ty (0,0))∧vs[off]? =some v
theorem Sim.plAt(h:Sim P X S loc s tm w){p:Pl}{rv:RV}(hp:uw s p=some rv):∀v,PlAt loc tm w v p->R S loc rv v:=by
 cases p with
 |reg t=>
  intro v g
  obtain⟨v',h1,j⟩:=h.rJ t rv hp
  simp only [PlAt]at g
  rw [h1]at g
  cases g
  exact j
 |cell id off=>
  intro v g
  obtain⟨b,vs,ty,h1,j,u⟩:=g
  simp only [uw]at hp
  rcases k:s.boxes id with _|r
  ·simp [k]at hp
  rw [k]at hp
  cases r<;>simp only at hp<;>first|(cases hp;done)|skip
  obtain⟨L,q,B⟩:=h.boxes id _ k
  rw [h1]at q
  cases q
  cases B with
  |var _ b t C hw hl hc=>
   rw [hw]at j
   cases j
   exact hc off rv v hp u
theorem Sim.plSet'(h:Sim P X S loc s tm w){p:Pl}{rv x:RV}(hp:uw s p=some rv)(D:∀v,PlAt loc tm w v p->R S loc x v):Sim P X S loc (Dw.uE s x p) tm w:=by
 cases p with
 |reg t=>
  refine h.wG _ fun y C u=>?_
  split at u
  ·rename_i B
   subst B
   cases u
   obtain⟨v,q,F⟩:=h.rJ y _ hp
   exact⟨v,q,D v q⟩
  ·exact h.rJ y C u
 |cell id off=>
  simp only [uw]at hp
  rcases k:s.boxes id with _|g
  ·simp [k]at hp
  rw [k]at hp
  cases g<;>simp only at hp<;>first|(cases hp;done)|skip
  simp only [Dw.uE,k]
  refine⟨h.nt,h.rJ,fun i g hi=>?_,fun i L j=>?_,h.imm,h.vA,h.uC,h.inj,h.own,h.frame,h.s0,h.par,h.xz,h.bs,h.ob⟩
  ·simp only at hi
   split at hi
   ·rename_i hid
    subst hid
    cases hi
    obtain⟨L,j,E⟩:=h.boxes i _ k
    refine⟨L,j,?_⟩
    cases E with
    |var _ b t vs hw hl hc=>
     exact .var _ b t vs hw (by simpa using hl) (R.zO hc fun v q=>D v ⟨b,vs,t,j,hw,q⟩)
   ·exact h.boxes i g hi
  ·obtain⟨g,r⟩:=h.dom i L j
   by_cases hid:i=id
   ·subst hid;exact⟨_,if_pos rfl⟩
   ·exact⟨g,by simp only [hid,if_false];exact r⟩
theorem Cy{s:St}{ess:List (List PD)}{i:Option Nat}{j:Nat}{es:List PD}(h:w6 s ess i=some (j,es)):ess[j]? =some es:=by
 unfold w6 at h
 split at h
 ·split at h
  ·rename_i g;cases h;exact g
  ·cases h
 ·split at h
  ·split at h
   ·split at h
    ·rename_i g;cases h;exact g
    ·cases h
   ·cases h
  ·cases h
theorem Sim.yJ(h:Sim P X S loc s tm w){id:Nat}{L:Loc}(j:loc id=some L){b:Nat}(q:L.has b):
  (∀i g,i≠id->loc i=some g->¬g.has b)∧(∀o,S ⟨b,o,none⟩=none)∧(b∈X.B0∨X.w0.heap.size<=b):=
 ⟨fun i g hi k r=>hi (h.inj i id g L b k j r q),fun o=>h.uC id L b j q o,h.own id L b j q⟩
theorem Sim.lend(h:Sim P X S loc s tm w){id new ver j:Nat}{e e2:TypeId}{ess:List (List PD)}{es:List PD}(B:s.boxes id=some (.nest ver e e2 ess none))(F:s.boxes new=none)(hj:ess[j]? =some es):
  ∃S' loc',Sim P X S' loc' { s with boxes:=fun k=>if k=new then some (.arr 0 e2 es)else if k=id then some (.nest ver e e2 ess (some (j,.ref new 0)))else s.boxes k } tm w:=by
 obtain⟨L,hL,hB⟩:=h.boxes id _ B
 have J:new≠id:=fun e=>by rw [e,B]at F;cases F
 have W:j<ess.length:=(List.getElem?_eq_some_iff.1 hj).1
 cases hB with
 |nest _ _ _ _ _ hdr xs bs a9 a6 how hc D hi=>
 obtain⟨v,b,u,bs2,rfl,T,h3,h4⟩:=hc.split (ncs_none (e2:=e2) hj)
 cases h3 with
 |row _ _ sz _ ys b0 N b4=>
 have C:v.oneCell'=true:=by obtain⟨a,c,rfl,_⟩:=N.hdr;rfl
 let r:Loc:= .nest ver e 1 hdr (u++bs2)
 have K:((sX hdr).toList++(u++bs2)).Nodup:=List.Nodup.sublist (List.Sublist.append (List.Sublist.refl _) (List.Sublist.append (List.Sublist.refl _) (List.sublist_append_right _ _))) D
 have Y:∀b,r.has b->Loc.has (.nest ver e 1 hdr (u++((sX v).toList++bs2))) b:=fun b B=>by
  simp only [r,Loc.has,Ew]at B⊢
  rcases B with B|B|B
  ·exact .inl B
  ·exact .inr (.inl B)
  ·exact .inr (.inr (.inr B))
 have G:rP (loc id) r:=by rw [hL];exact .held
 have g0:=h4 (.val .junk) v [] (.val _ v (.junk v) C)
 rw [w9 e2 ess none j .junk (fun _ _ e=>by cases e),D0]at g0
 have k1:=h.sq (Step.refl none w) id (.nest ver e e2 ess (some (j,.junk))) r (fun b hc=>by cases hc)
  (.nest ver e e2 ess _ hdr (xs.set j v) (u++bs2) a9 a6 (by rw [xf T];exact how) (g0.dE (Sub.refl S) (rF.upd G) fun _ _=>rfl) K (fun i rv e=>by cases e;exact W)) (fun b B=>.inl ⟨_,hL,Y b B⟩) G
 have b1:upd loc id r new=none:=by rw [si _ _ J];exact h.rX F
 have O:rP (upd loc id r new) (.arr 0 e2 sz v):=by rw [b1];trivial
 have k2 := k1.sq (Step.refl none w) new (.arr 0 e2 es) (.arr 0 e2 sz v) (fun b hc => by cases hc) (.arr 0 e2 es sz v ys b0 N b4) (fun b E => by
  have b3:Loc.has (.nest ver e 1 hdr (u++((sX v).toList++bs2))) b:=by
   simp only [Loc.has,Ew]at E⊢
   exact .inr (.inr (.inl (by rw [E];simp)))
  obtain⟨f1,f2,f3⟩:=h.yJ hL b3
  refine .inr (.inr ⟨fun i L' I g=>?_,f2,f3⟩)
  by_cases U:i=id
  ·subst U
   rw [ru]at I
   cases I
   have E:sX v=some b:=E
   have g:b∈(sX hdr).toList++(u++bs2):=g
   rw [E]at D
   simp only [FD,Ez,Ew,Ey]at D g
   rcases g with g|g|g
   ·exact D.2.2 b g b (.inr (.inl rfl)) rfl
   ·exact D.2.1.2.2 b g b (.inl rfl) rfl
   ·exact D.2.1.2.1.2.2 b rfl b g rfl
  ·rw [si _ _ U]at I
   exact f1 i L' U I g) O
 have a5:upd (upd loc id r) new (.arr 0 e2 sz v) id=some r:=by rw [si _ _ (Ne.symm J)];exact ru _ _ _
 have Q:rP (upd (upd loc id r) new (.arr 0 e2 sz v) id) r:=by rw [a5];exact .same _
 have hR:R S (upd (upd (upd loc id r) new (.arr 0 e2 sz v)) id r) (.ref new 0) v:= .ref new 0 v _ C (by rw [si _ _ J];exact ru _ _ _) fun b6 e' c0 b5 he=>by cases he;exact⟨DA _,fun _=>rfl⟩
 have g2:NCs P S (upd (upd (upd loc id r) new (.arr 0 e2 sz v)) id r) w (ncs e2 ess (some (j,.ref new 0))) (xs.set j v) (u++bs2):=by
  have q:=g0.dE (Sub.refl S) ((rF.upd G).trans ((rF.upd O).trans (rF.upd Q))) fun _ _=>rfl
  exact q.reval W (by rw [xf T];exact T) hR C
 have k3:=k2.sq (Step.refl none w) id (.nest ver e e2 ess (some (j,.ref new 0))) r (fun b hc=>by cases hc)
  (.nest ver e e2 ess _ hdr (xs.set j v) (u++bs2) a9 a6 (by rw [xf T];exact how) g2 K (fun i rv e=>by cases e;exact W)) (fun b B=>.inl ⟨r,a5,B⟩) Q
 refine⟨S,upd (upd (upd loc id r) new (.arr 0 e2 sz v)) id r,?_⟩
 have b2:(fun k=>if k=new then some (.arr 0 e2 es)else if k=id then some (.nest ver e e2 ess (some (j,.ref new 0)))else s.boxes k)=upd (upd (upd s.boxes id (.nest ver e e2 ess (some (j,.junk)))) new (.arr 0 e2 es)) id (.nest ver e e2 ess (some (j,.ref new 0))):=by
  funext k
  simp only [upd]
  by_cases h1:k=new
  ·subst h1;simp [J]
  ·by_cases T:k=id
   ·subst T;simp [h1]
   ·simp [h1,T]
 rw [b2]
 exact k3
theorem Sim.give(h:Sim P X S loc s tm w){id k ver kv i:Nat}{e e2:TypeId}{ess:List (List PD)}{es:List PD}(q:s.boxes id=some (.nest ver e e2 ess (some (i,.ref k kv))))(hk:s.boxes k=some (.arr kv e2 es))(Q:k≠id):
  ∃loc',Sim P X S loc' { s with boxes:=fun j=>if j=k then some .dead else if j=id then some (.nest ver e e2 (ess.set i es) none)else s.boxes j } tm w:=by
 obtain⟨L,hL,hB⟩:=h.boxes id _ q
 obtain⟨Lk,N,b0⟩:=h.boxes k _ hk
 cases hB with
 |nest _ _ _ _ _ hdr xs bs c0 b6 how hc r hi=>
 cases b0 with
 |arr _ _ _ sz Y ys a9 a6 b3=>
 have b4:=hi i _ rfl
 have I:rP (loc k) .dead:=by rw [N];exact .dead _
 have k1:=h.sq (Step.refl none w) k .dead .dead (fun b hc=>by cases hc) (.dead _ rfl) (fun b hc=>by cases hc) I
 have G:upd loc k .dead id=some (.nest ver e 1 hdr bs):=by rw [si _ _ (Ne.symm Q)];exact hL
 obtain⟨v,b,K,bs2,rfl,h2,h3,h4⟩:=hc.split (Ao (e2:=e2) (rv:= .ref k kv) b4)
 cases h3 with
 |val _ _ hr h1=>
 have hv:v=Y:=by
  cases hr with
  |ref _ _ _ T _ U b2=>
   rw [N]at U
   cases U
   exact(b2 _ _ _ _ .arr).2 rfl
 subst hv
 have C:∀b,sX v=some b->(∀i T,i≠k->loc i=some T->¬T.has b)∧(∀o,S ⟨b,o,none⟩=none)∧(b∈X.B0∨X.w0.heap.size<=b):=fun b D=>h.yJ N D
 let L2:Loc:= .nest ver e 1 hdr (K++((sX v).toList++bs2))
 have J:rP (upd loc k .dead id) L2:=by rw [G];exact .held
 have g0:=h4 (.row e2 es) v (sX v).toList (.row e2 es sz v ys a9 a6 b3)
 rw [BU,xf h2]at g0
 have a5:((sX hdr).toList++(K++((sX v).toList++bs2))).Nodup:=by
  rcases b5:sX v with _|g
  ·simpa using r
  ·have u:¬Loc.has (.nest ver e 1 hdr (K++([]++bs2))) g:=(C g b5).1 id _ (Ne.symm Q) hL
   simp only [Loc.has,D0,Ew,not_or]at u
   simp only [D0,Ez,Ew]at r
   simp only [FD,Ez,Ew,Ey]
   refine⟨r.1,⟨r.2.1.1,⟨zc,r.2.1.2.1,fun a F b q B=>?_⟩,fun a F b q B=>?_⟩,fun a F b q B=>?_⟩
   ·subst F;subst B;exact u.2.2 q
   ·subst B
    rcases q with rfl|q
    ·exact u.2.1 F
    ·exact r.2.1.2.2 a F a q rfl
   ·subst B
    rcases q with q|rfl|q
    ·exact r.2.2 a F a (.inl q) rfl
    ·exact u.1 F
    ·exact r.2.2 a F a (.inr q) rfl
 have k2:=k1.sq (Step.refl none w) id (.nest ver e e2 (ess.set i es) none) L2 (fun b hc=>by cases hc)
  (.nest ver e e2 (ess.set i es) none hdr xs _ c0 b6 (by rw [Eu];exact how) (g0.dE (Sub.refl S) ((rF.upd I).trans (rF.upd J)) fun _ _=>rfl) a5 (fun i rv e=>by cases e))
  (fun b q => by
   simp only [L2,Loc.has,Ew]at q
   by_cases D:sX v=some b
   ·obtain⟨f1,f2,f3⟩:=C b D
    refine .inr (.inr ⟨fun i T E W=>?_,f2,f3⟩)
    by_cases O:i=k
    ·subst O;rw [ru]at E;cases E;cases W
    ·rw [si _ _ O]at E
     exact f1 i T O E W
   ·refine .inl ⟨_,G,?_⟩
    simp only [Loc.has,D0,Ew]
    rcases q with q|q|q|q
    ·exact .inl q
    ·exact .inr (.inl q)
    ·exact(D (by simpa using q)).elim
    ·exact .inr (.inr q)) J
 refine⟨upd (upd loc k .dead) id L2,?_⟩
 have b1:(fun j=>if j=k then some Box.dead else if j=id then some (.nest ver e e2 (ess.set i es) none)else s.boxes j)=upd (upd s.boxes k .dead) id (.nest ver e e2 (ess.set i es) none):=by
  funext j
  simp only [upd]
  by_cases h1:j=k
  ·subst h1;simp [Q]
  ·by_cases h2:j=id
   ·subst h2;simp [h1]
   ·simp [h1,h2]
 rw [b1]
 exact k2
theorem Sim.Ae{e2:TypeId}:∀(ess:List (List PD)){S:rC}{xs:List Value}{bs:List Nat},Sim P X S loc s tm w->NCs P S loc w (ess.map (.row e2)) xs bs->bs.Nodup->
  (∀b∈bs,(∀i L,loc i=some L->¬L.has b)∧(∀o,S ⟨b,o,none⟩=none)∧(b∈X.B0∨X.w0.heap.size<=b))->
  ∃S',Sim P X S' loc s tm w∧Sub S S'∧(∀g o,g∉bs->S ⟨g,o,none⟩=none->S' ⟨g,o,none⟩=none)∧∀(i:Nat)es x,ess[i]? =some es->xs[i]? =some x->V S' (.lst es) x
 | [],S,xs,bs,h,hc,_,_=>⟨S,h,Sub.refl S,fun _ _ _ h=>h,fun i es x hi=>by simp at hi⟩
 |es::ess,S,xs,bs,h,hc,I,k=>by
  cases hc with
  | @cons _ v b0 K _ vs hr Y=>
  cases hr with
  |row _ _ sz _ U b1 how hf=>
  have B:=(List.nodup_append.1 I).2.1
  by_cases G:es=[]
  ·subst G
   obtain⟨S',g1,g2,g3,g4⟩:=Sim.Ae ess h Y B fun b q=>k b (List.mem_append.2 (.inr q))
   refine⟨S',g1,g2,fun g o W=>g3 g o fun hm=>W (List.mem_append.2 (.inr hm)),fun i es x hi F=>?_⟩
   cases i with
   |zero=>
    simp only [DS,DB]at hi F
    subst hi;subst F
    obtain⟨a,c,rfl,_⟩:=how.hdr
    exact .nil _ _
   |succ i=>exact g4 i es x (by simpa using hi) (by simpa using F)
  ·have J:0<es.length:=by cases es with|nil=>exact(G rfl).elim|cons=>simp
   have C:=how.vP J
   rcases C.2 with⟨rfl,h0⟩|⟨g,cap,cur,fz,rfl,a9,W,O,a5,a6,T⟩
   ·omega
   ·have E:=C.cells (g:=g) rfl
    have r:sX (.slice (some ⟨g,0,none⟩) es.length cap)=some g:=by cases cap with|zero=>omega|succ c=>rfl
    obtain⟨f1,f2,f3⟩:=k g (List.mem_append.2 (.inl (by rw [r];simp)))
    have h2:=h.wx g U (fun j v hj=>by have:=E j v hj;rw [sJ]at this;simpa using this) hf.one f1 f3.symm
    have D:=tZ S g U
    have Q:∀b∈K,b≠g:=fun b q e=>(List.nodup_append.1 I).2.2 g (by rw [r];simp) b q e.symm
    have u:∀b o,b≠g->S ⟨b,o,none⟩=none->tn S g U ⟨b,o,none⟩=none:=fun b o q hS=>by simp [tn,hS,q]
    obtain⟨S',g1,g2,g3,g4⟩:=Sim.Ae ess h2 (Y.dE D (rF.refl loc) fun _ _=>rfl) B fun b q=>by
     obtain⟨q1,q2,q3⟩:=k b (List.mem_append.2 (.inr q))
     exact⟨q1,fun o=>u b o (Q b q) (q2 o),q3⟩
    refine⟨S',g1,D.trans g2,fun b o q hS=>g3 b o (fun hm=>q (List.mem_append.2 (.inr hm))) (u b o (fun e=>q (List.mem_append.2 (.inl (by rw [r,e];simp)))) hS),fun i N x hi F=>?_⟩
    cases i with
    |zero=>
     simp only [DS,DB]at hi F
     subst hi;subst F
     exact(V.Bj hf f2 O).mono g2
    |succ i=>exact g4 i N x (by simpa using hi) (by simpa using F)
theorem Sim.freezeN(h:Sim P X S loc s tm w){id ver:Nat}{e e2:TypeId}{ess:List (List PD)}(hb:s.boxes id=some (.nest ver e e2 ess none)):
  ∃S',Sim P X S' (upd loc id .dead) { s with boxes:=upd s.boxes id .dead } tm w∧∀v,R S loc (.ref id ver) v->V S' (.lst (ess.map .lst)) v:=by
 obtain⟨L,U,hB⟩:=h.boxes id _ hb
 cases hB with
 |nest _ _ _ _ _ hdr xs bs b3 b2 how hc N hi=>
 have T:rP (loc id) .dead:=by rw [U];exact .dead _
 have h1:=h.sq (Step.refl none w) id .dead .dead (fun b hc=>by cases hc) (.dead _ rfl) (fun b hc=>by cases hc) T
 have q:∀b,Loc.has (.nest ver e 1 hdr bs) b->(∀i L,upd loc id .dead i=some L->¬L.has b)∧(∀o,S ⟨b,o,none⟩=none)∧(b∈X.B0∨X.w0.heap.size<=b):=fun b C=>by
  obtain⟨f1,f2,f3⟩:=h.yJ U C
  refine⟨fun i L' r I=>?_,f2,f3⟩
  by_cases F:i=id
  ·subst F;rw [ru]at r;cases r;cases I
  ·rw [si _ _ F]at r
   exact f1 i L' F r I
 have hv:∀v,R S loc (.ref id ver) v->v=hdr:=fun v Q=>by
  cases Q with
  |ref _ _ _ L' _ G Y=>
   rw [U]at G
   cases G
   exact(Y _ _ _ _ .nest).2 rfl
 obtain⟨S1,g1,g2,g3,g4⟩:=Sim.Ae ess h1 (hc.dE (Sub.refl S) (rF.upd T) fun _ _=>rfl) (List.nodup_append.1 N).2.1 fun b C=>q b (List.mem_append.2 (.inr C))
 by_cases k:ess=[]
 ·subst k
  refine⟨S1,g1,fun v Q=>?_⟩
  rw [hv v Q]
  obtain⟨a,c,rfl,_⟩:=how.hdr
  exact .nil _ _
 have O:0<ess.length:=by cases ess with|nil=>exact(k rfl).elim|cons=>simp
 have u:=how.vP O
 have hlen:ess.length=xs.length:=by have:=hc.len;rwa [An]at this
 have E:Flat S1 1 (ess.map .lst) xs:=by
  refine⟨fun e he=>?_,hc.one,fun i e j x hi J=>?_⟩
  ·obtain⟨es,_,rfl⟩:=List.mem_map.1 he
   rfl
  ·rw [List.getElem?_map,FC]at hi
   obtain⟨es,k,rfl⟩:=hi
   cases j with
   |succ j=>simp [PD.cells]at J
   |zero=>
    simp only [PD.cells,DS,DB]at J
    subst J
    have K:i<xs.length:=by rw [<-hlen];exact(List.getElem?_eq_some_iff.1 k).1
    exact⟨xs[i],by rw [Nat.mul_one,Nat.add_zero];exact zf K,g4 i es _ k (zf K)⟩
 rcases u.2 with⟨rfl,h0⟩|⟨g,cap,cur,fz,rfl,b1,hg,a5,a9,b0,a6⟩
 ·omega
 ·have D:=u.cells (g:=g) rfl
  have B:sX (.slice (some ⟨g,0,none⟩) ess.length cap)=some g:=by cases cap with|zero=>omega|succ c=>rfl
  obtain⟨f1,f2,f3⟩:=q g (List.mem_append.2 (.inl (by rw [B];simp)))
  have W:∀o,S1 ⟨g,o,none⟩=none:=fun o=>g3 g o (fun hm=>(List.nodup_append.1 N).2.2 g (by rw [B];simp) g hm rfl) (f2 o)
  have h2:=g1.wx g xs (fun j v J=>by have:=D j v J;rw [sJ]at this;simpa using this) hc.one f1 f3.symm
  refine⟨_,h2,fun v Q=>?_⟩
  rw [hv v Q]
  have:=V.Bj (c:=cap) E W (by simpa using a5)
  simpa using this
theorem yS.close{sz i o:Nat}{es:List PD}{xs:List Value}{p:PD}{u:Value}(hf:yS S sz es xs i o)(hi:i<es.length)(ho:o<sz)(hp:p.one=true)(hu:xs[i*sz+o]? =some u)(I:V S p u):
  Flat S sz (es.set i ((es.getD i default).put o [p])) xs:=by
 have D:es[i]? =some es[i]:=zf hi
 have G:es.getD i default=es[i]:=by simp [List.getD,D]
 rw [G]
 have B:es[i].cells.length=sz:=hf.len _ (Dp hi)
 obtain⟨E,F⟩:=PD.AW es[i] o [p] so (by simpa using hp)
 refine⟨fun e he=>?_,hf.one,fun k e j x h1 g=>?_⟩
 ·rcases List.mem_or_eq_of_mem_set he with he|rfl
  ·exact hf.len e he
  ·rw [E,B]
 ·rw [DT]at h1
  by_cases q:i=k
  ·subst q
   rw [if_pos rfl,if_pos hi]at h1
   cases h1
   rw [F]at g
   simp only [List.length_singleton]at g
   by_cases r:o<=j∧j<o+1
   ·rw [if_pos r]at g
    obtain rfl:j=o:=by omega
    simp only [Nat.sub_self,DS,DB]at g
    subst g
    exact⟨u,hu,I⟩
   ·rw [if_neg r]at g
    exact hf.cell i _ j x D g (fun C=>r za)
  ·rw [if_neg q]at h1
   exact hf.cell k e j x h1 g (fun C=>q C.1.symm)
theorem Sim.opn(h:Sim P X S loc s tm w){id ver i o:Nat}{e:TypeId}{es:List PD}{x c:PD}(g:s.boxes id=some (.arr ver e es))(r:es[i]? =some x)(hc:x.cells[o]? =some c):
  ∃loc',Sim P X S loc' { s with boxes:=fun k=>if k=id then some (.hole ver e es i o (.d c))else s.boxes k } tm w:=by
 obtain⟨L,B,D⟩:=h.boxes id _ g
 cases D with
 |arr _ _ _ sz hdr xs q how hf=>
 obtain⟨u,hu,E⟩:=hf.cell i x o c r hc
 have ho:o<sz:=by rw [<-hf.len x (List.mem_of_getElem? r)];exact(List.getElem?_eq_some_iff.1 hc).1
 exact ⟨_, h.sq (Step.refl none w) id (.hole ver e es i o (.d c)) (.arr ver e sz hdr) (fun b hc => by cases hc)
  (.hole ver e es i o (.d c) sz hdr xs u q how ⟨hf.len,hf.one,fun k e j x h1 C _=>hf.cell k e j x h1 C⟩ (List.getElem?_eq_some_iff.1 r).1 ho hu (.d E)) (fun b g=>.inl ⟨_,B,g⟩) (by rw [B];exact .same _)⟩
theorem Sim.clsD(h:Sim P X S loc s tm w){id ver i o:Nat}{e:TypeId}{es:List PD}{c:PD}(g:s.boxes id=some (.hole ver e es i o (.d c)))(hc:c.one=true):
  ∃loc',Sim P X S loc' { s with boxes:=fun k=>if k=id then some (.arr ver e (es.set i ((es.getD i default).put o [c])))else s.boxes k } tm w:=by
 obtain⟨L,q,r⟩:=h.boxes id _ g
 cases r with
 |hole _ _ _ _ _ _ sz hdr xs u j how hf hi ho hu B=>
 cases B with
 |d C=>
 exact ⟨_, h.sq (Step.refl none w) id (.arr ver e (es.set i ((es.getD i default).put o [c]))) (.arr ver e sz hdr) (fun b hc => by cases hc)
  (.arr ver e _ sz hdr xs j (by rw [Eu];exact how) (hf.close hi ho hc hu C)) (fun b g=>.inl ⟨_,q,g⟩) (by rw [q];exact .same _)⟩
theorem Sim.clsR(h:Sim P X S loc s tm w){id k ver D i o:Nat}{e K:TypeId}{es g:List PD}(C:s.boxes id=some (.hole ver e es i o (.ref k D)))(hk:s.boxes k=some (.arr D K g))(q:k≠id):
  ∃S' loc',Sim P X S' loc' { s with boxes:=fun j=>if j=k then some .dead else if j=id then some (.arr ver e (es.set i ((es.getD i default).put o [.lst g])))else s.boxes j } tm w:=by
 obtain⟨S',h1,hs,hl,I⟩:=h.yj hk
 have L:upd s.boxes k .dead id=some (.hole ver e es i o (.ref k D)):=by rw [si _ _ (Ne.symm q)];exact C
 obtain⟨Q,F,E⟩:=h.boxes id _ C
 cases E with
 |hole _ _ _ _ _ _ sz hdr xs u J how hf hi ho hu N=>
 have O:V S' (.lst g) u:=(I D K g hk).1 u N
 have r:upd loc k .dead id=some (.arr ver e sz hdr):=by rw [si _ _ (Ne.symm q)];exact F
 have B:=h1.sq (Step.refl none w) id (.arr ver e (es.set i ((es.getD i default).put o [.lst g]))) (.arr ver e sz hdr) (fun b hc=>by cases hc)
  (.arr ver e _ sz hdr xs J (by rw [Eu];exact how) ((hf.mono hs).close hi ho rfl hu O)) (fun b C=>.inl ⟨_,r,C⟩) (by rw [r];exact .same _)
 refine⟨S',upd (upd loc k .dead) id (.arr ver e sz hdr),?_⟩
 have G:(fun j=>if j=k then some Box.dead else if j=id then some (.arr ver e (es.set i ((es.getD i default).put o [.lst g])))else s.boxes j)=upd (upd s.boxes k .dead) id (.arr ver e (es.set i ((es.getD i default).put o [.lst g]))):=by
  funext j
  simp only [upd]
  by_cases h1:j=k
  ·subst h1;simp [q]
  ·by_cases B:j=id
   ·subst B;simp [h1]
   ·simp [h1,B]
 rw [G]
 exact B
theorem Bb{nb:Nat}(c8:∀k b,X.par k=some b->k<nb∧∀ver e sz hdr,b.Row ver e sz hdr->ver=0){g:wR}{s':St}(B:sw P nb s g=some s')(h:Sim P X S loc s tm w):∃S' loc',Sim P X S' loc' s' tm w:=by
 cases g with
 |dE rs bs=>
  simp only [sw]at B
  rcases h1:gets s.rJ rs with _|l
  ·simp [h1]at B
  rcases G:gets s.boxes bs with _|m
  ·simp [h1,G]at B
  simp only [h1,G]at B
  split at B
  rotate_left
  ·cases B
  rename_i f5
  cases B
  obtain⟨l1,_⟩:=yA h1
  obtain⟨m1,m2⟩:=yA G
  let loc':sf:=fun id=>if bs.contains id then(loc id).map (rK (sg nb id))else none
  have Q:∀id W,loc' id=some W->bs.contains id=true∧∃L,loc id=some L∧W=rK (sg nb id) L:=by
   intro id W J
   simp only [loc']at J
   split at J
   ·rename_i hm
    rw [FC]at J
    obtain⟨L,h3,rfl⟩:=J
    exact⟨hm,L,h3,rfl⟩
   ·cases J
  have F:wS ⟨fun id=>if bs.contains id then some id else none,sD s.boxes (sg nb)⟩ loc loc':=by
   refine wS.mk' (P:=P) (S:=S) (w:=w) h.boxes fun id k L hp J=>?_
   try simp only at hp
   split at hp
   ·rename_i hm
    cases hp
    simp only [loc',hm,if_true,J,EJ]
   ·cases hp
  have I := h.mem.ren (loc' := loc') (b' := assoc (m.map fun x => (x.1, ui ⟨fun id => if bs.contains id then some id else none, sD s.boxes (sg nb)⟩ (sg nb x.1) x.2))) F (fun k f1 hk => by
    obtain⟨b0,hm,rfl⟩:=zG (fun k b=>ui ⟨fun id=>if bs.contains id then some id else none,sD s.boxes (sg nb)⟩ (sg nb k) b) hk
    obtain⟨d7,c6⟩:=m1 _ hm
    simp only at d7 c6
    have e0:bs.contains k=true:=by simpa using c6
    exact⟨k,b0,sg nb k,by simp [c6],d7,rfl,fun L J=>by simp only [loc',e0,if_true,J,EJ]⟩) (fun k W hk=>by
    obtain⟨hm,L,h3,rfl⟩:=Q k W hk
    refine⟨?_,k,L,_,by simp only [hm,if_true],h3,rfl⟩
    obtain⟨v,K⟩:=m2 k (by simpa using hm)
    exact zH (fun k b=>ui ⟨fun id=>if bs.contains id then some id else none,sD s.boxes (sg nb)⟩ (sg nb k) b) K)
  refine⟨S,loc',h.nt,?_,I.boxes,I.dom,h.imm,h.vA,I.uC,I.inj,?_,h.frame,h.s0,?_,h.xz,h.bs,h.ob⟩
  ·intro t rv O
   obtain⟨v0,hm,rfl⟩:=AM (tl ⟨fun id=>if bs.contains id then some id else none,sD s.boxes (sg nb)⟩) O
   obtain⟨v,K,d2⟩:=h.rJ t v0 (l1 _ hm).1
   exact⟨v,K,R.tl F d2⟩
  ·intro id W b J C
   obtain⟨_,L,hl,rfl⟩:=Q id W J
   rw [uI]at C
   exact h.own id L b hl C
  ·intro k L0 hk
   have b1:=(c8 k L0 hk).1
   have:=List.all_eq_true.1 f5 k (List.mem_range.2 b1)
   obtain⟨L,h3,h4⟩:=h.par k L0 hk
   exact⟨rK (sg nb k) L,by simp only [loc',this,if_true,h3,EJ],C1 b1 (c8 k L0 hk).2 h4⟩
 |own t id e=>
  simp only [sw]at B
  split at B
  ·rename_i k O C hk
   cases B
   obtain⟨loc',h1,G,_⟩:=h.xb C (Step.refl none w) hk (hdr:= .slice none 0 0) (es:=[]) (xs:=[]) (.inl (.of (World.ownsRow_nil w 0 e _))) (Flat.nil S _) (fun g B=>by cases B) rfl
   refine⟨S,loc',?_⟩
   refine h1.wG _ fun x rv U=>?_
   split at U
   ·rename_i a6
    subst a6
    cases U
    obtain⟨v,K,F⟩:=h.rJ x _ O
    cases F with
    |pY=>exact⟨_,K,G⟩
   ·exact h1.rJ x rv U
  ·cases B
   exact⟨S,loc,h⟩
  ·cases B
 |freeze t=>
  simp only [sw]at B
  rcases O:s.rJ t with _|rv
  ·simp [O]at B
  rw [O]at B
  cases rv<;>first|(simp at B;done)|skip
  rename_i id ver
  simp only at B
  rcases C:s.boxes id with _|T
  ·simp [C]at B
  rw [C]at B
  cases T<;>first|(simp at B;done)|skip
  rename_i E e es
  simp only at B
  by_cases D:ver=E
  rotate_left
  ·simp [D]at B
  subst D
  simp only [if_true,DB]at B
  subst B
  obtain⟨S',h1,hs,hl,K⟩:=h.yj C
  have K:=fun v F=>(K ver e es C).1 v F
  refine⟨S',_,h1.wG _ fun x rv U=>?_⟩
  split at U
  ·rename_i a6
   subst a6
   cases U
   obtain⟨v,d4,F⟩:=h.rJ x _ O
   exact⟨v,d4,.d (K v F)⟩
  ·exact h1.rJ x rv U
 |frz p=>
  simp only [sw]at B
  rcases hp:uw s p with _|rv
  ·simp [hp]at B
  rw [hp]at B
  cases rv<;>first|(simp at B;done)|skip
  ·simp only [DB]at B
   subst B
   exact⟨S,loc,h⟩
  ·simp only [DB]at B
   subst B
   exact⟨S,loc,h.uE hp fun v F=>by cases F;exact .d (.nil _ _)⟩
  ·rename_i id ver
   simp only at B
   rcases C:s.boxes id with _|T
   ·simp [C]at B
   rw [C]at B
   cases T<;>first|(simp at B;done)|skip
   rename_i E e es
   simp only at B
   by_cases D:ver=E
   rotate_left
   ·simp [D]at B
   subst D
   simp only [if_true,DB]at B
   subst B
   obtain⟨S',h1,hs,hl,K⟩:=h.yj C
   have K:=fun v F=>(K ver e es C).1 v F
   have N:({ s with boxes:=upd s.boxes id .dead }:St)={ s with boxes:=fun i=>if i=id then some .dead else s.boxes i }:=rfl
   rw [N]at h1
   have h0:uw ({ s with boxes:=fun i=>if i=id then some .dead else s.boxes i }:St) p=some (.ref id ver):=v7 hp fun off e=>by
    subst e
    simp only [uw,C]at hp
    cases hp
   cases p with
   |reg t=>
    refine⟨S',_,h1.wG _ fun x rv U=>?_⟩
    split at U
    ·rename_i a6
     subst a6
     cases U
     obtain⟨v,d4,F⟩:=h.rJ x _ hp
     exact⟨v,d4,.d (K v F)⟩
    ·exact h1.rJ x rv U
   |cell i off=>
    have a5:i≠id:=fun e=>by
     subst e
     simp only [uw,C]at hp
     cases hp
    simp only [uw]at hp
    rcases b3:s.boxes i with _|T
    ·simp [b3]at hp
    rw [b3]at hp
    cases T with
    |arr _ _ _=>cases hp
    |dead=>cases hp
    |map _ _ _=>cases hp
    |nest _ _ _ _ _=>cases hp
    |hole _ _ _ _ _ _=>cases hp
    |var cs=>
     simp only at hp
     simp only [Dw.uE,a5,if_false,b3]
     refine⟨S',_,h1.nt,h1.rJ,fun j T hj=>?_,fun j L J=>?_,h1.imm,h1.vA,h1.uC,h1.inj,h1.own,h1.frame,h1.s0,h1.par,h1.xz,h1.bs,h1.ob⟩
     ·simp only at hj
      by_cases b4:j=i
      ·subst b4
       simp only [if_true]at hj
       cases hj
       obtain⟨L,J,hB⟩:=h.boxes j _ b3
       obtain⟨W,a9,f2⟩:=h1.boxes j (.var cs) (by simp only [a5,if_false];exact b3)
       refine⟨W,a9,?_⟩
       have f3:W=L:=by
        rw [si _ _ a5,J]at a9
        exact(E9 a9).symm
       subst f3
       cases hB with
       |var _ b t vs hw g4 hc=>
        cases f2 with
        |var _ _ t' h5 e9 g9 f4=>
         rw [hw]at e9
         cases e9
         exact .var _ b t vs hw (by simpa using g4) (R.zO f4 fun v c1=>.d (K v (hc off _ v hp c1)))
      ·simp only [b4,if_false]at hj
       exact h1.boxes j T hj
     ·obtain⟨T,c5⟩:=h1.dom j L J
      by_cases b4:j=i
      ·subst b4;exact⟨_,if_pos rfl⟩
      ·exact⟨T,by simp only [b4,if_false];exact c5⟩
 |ownp p id e=>
  simp only [sw]at B
  split at B
  ·rename_i k hp C hk
   cases B
   obtain⟨loc',h1,G,_⟩:=h.xb C (Step.refl none w) hk (hdr:= .slice none 0 0) (es:=[]) (xs:=[]) (.inl (.of (World.ownsRow_nil w 0 e _))) (Flat.nil S _) (fun g B=>by cases B) rfl
   have N:({ s with boxes:=upd s.boxes id (.arr 0 e []) }:St)={ s with boxes:=fun i=>if i=id then some (.arr 0 e [])else s.boxes i }:=rfl
   refine⟨S,loc',Sim.uE (s:={ s with boxes:=fun i=>if i=id then some (.arr 0 e [])else s.boxes i }) h1 (v7 hp fun off he=>?_) fun v F=>?_⟩
   ·subst he
    simp only [uw,C]at hp
    cases hp
   ·cases F with
    |pY=>exact G
  ·cases B
   exact⟨S,loc,h⟩
  ·cases B
 |mv p new=>
  simp only [sw]at B
  rcases hp:uw s p with _|rv
  ·simp [hp]at B
  rw [hp]at B
  cases rv<;>first|(simp at B;done)|(simp only [DB]at B;subst B;exact⟨S,loc,h⟩)|skip
  rename_i id ver
  simp only at B
  by_cases hid:id=new
  ·rw [if_pos hid]at B;cases B;exact⟨S,loc,h⟩
  rw [if_neg hid]at B
  by_cases e4:nb<=id∧nb<=new
  rotate_left
  ·rw [if_neg e4]at B;cases B
  rw [if_pos e4]at B
  simp only [DB]at B
  subst B
  let pos:Nat->Option Nat:=fun i=>if i=id then some new else if i=new then none else some i
  let loc':sf:=fun k=>if k=new then loc id else if k=id then none else loc k
  have sv:∀L:Loc,rK (fun c=>c) L=L:=fun L=>Dk L fun _=>rfl
  have e5:∀i k L,pos i=some k->loc i=some L->loc' k=some L:=by
   intro i k L h1 G
   simp only [pos]at h1
   split at h1
   ·rename_i e;subst e;cases h1;simp only [loc',if_true];exact G
   ·split at h1
    ·cases h1
    ·rename_i n1 n2;cases h1;simp only [loc',n1,n2,if_false];exact G
  have F:wS ⟨pos,sD s.boxes fun _ c=>c⟩ loc loc':=wS.mk' (P:=P) (S:=S) (w:=w) h.boxes fun i k L h1 G=>by rw [sv];exact e5 i k L h1 G
  have b6:∀k,(∃i,pos i=some k∧∀α(f:Nat->Option α),(if k=new then f id else if k=id then none else f k)=f i)∨(k=id):=by
   intro k
   by_cases h1:k=new
   ·subst h1;exact .inl ⟨id,by simp only [pos,if_true],fun α f=>if_pos rfl⟩
   ·by_cases G:k=id
    ·exact .inr G
    ·exact .inl ⟨k,by simp only [pos,h1,G,if_false],fun α f=>by rw [if_neg h1,if_neg G]⟩
  have Y:∀α(f:Nat->Option α),(if id=new then f id else if id=id then none else f id)=none:=fun α f=>by rw [if_neg hid,if_pos rfl]
  have I:=h.mem.ren (loc':=loc') (b':=fun i=>if i=new then(s.boxes id).map (ui ⟨pos,sD s.boxes fun _ c=>c⟩ fun c=>c)else if i=id then none else(s.boxes i).map (ui ⟨pos,sD s.boxes fun _ c=>c⟩ fun c=>c)) F
   (fun k f1 hk => by
    rcases b6 k with⟨i,h1,G⟩|rfl
    ·have hk:=(G _ fun i=>(s.boxes i).map (ui ⟨pos,sD s.boxes fun _ c=>c⟩ fun c=>c)).symm.trans hk
     rw [FC]at hk
     obtain⟨b0,h3,rfl⟩:=hk
     exact⟨i,b0,fun c=>c,h1,h3,rfl,fun L J=>by rw [sv];exact e5 i k L h1 J⟩
    ·have:=(Y _ fun i=>(s.boxes i).map (ui ⟨pos,sD s.boxes fun _ c=>c⟩ fun c=>c)).symm.trans hk
     cases this)
   (fun k W hk => by
    rcases b6 k with⟨i,h1,G⟩|rfl
    ·have e1:loc i=some W:=(G _ loc).symm.trans hk
     obtain⟨T,c5⟩:=h.dom i W e1
     refine⟨⟨ui ⟨pos,sD s.boxes fun _ c=>c⟩ (fun c=>c) T,?_⟩,i,W,fun c=>c,h1,e1,(sv W).symm⟩
     rw [G _ fun i=>(s.boxes i).map (ui ⟨pos,sD s.boxes fun _ c=>c⟩ fun c=>c),c5]
     rfl
    ·have:=(Y _ loc).symm.trans hk
     cases this)
  refine⟨S,loc',h.nt,fun t rv O=>?_,I.boxes,I.dom,h.imm,h.vA,I.uC,I.inj,fun k L b J C=>?_,h.frame,h.s0,fun k L0 hk=>?_,h.xz,h.bs,h.ob⟩
  ·simp only [FC]at O
   obtain⟨c2,h1,rfl⟩:=O
   obtain⟨v,K,d2⟩:=h.rJ t c2 h1
   exact⟨v,K,R.tl F d2⟩
  ·rcases b6 k with⟨i,h1,G⟩|rfl
   ·exact h.own i L b ((G _ loc).symm.trans J) C
   ·have:=(Y _ loc).symm.trans J
    cases this
  ·have b1:=(c8 k L0 hk).1
   obtain⟨L,h3,h4⟩:=h.par k L0 hk
   refine⟨L,?_,h4⟩
   have n1:k≠new:=by omega
   have n2:k≠id:=by omega
   simp only [loc',n1,n2,if_false]
   exact h3
 |fixv id=>
  simp only [sw]at B
  rcases C:s.boxes id with _|T
  ·simp [C]at B
  rw [C]at B
  cases T<;>first|(simp at B;done)|skip
  rename_i cs
  simp only at B
  rcases ha:wU cs with _|ps
  ·simp [ha]at B
  simp only [ha]at B
  by_cases b5:ps.all PD.one=true
  rotate_left
  ·rw [if_neg b5]at B;cases B
  rw [if_pos b5]at B
  simp only [DB]at B
  subst B
  have f6:=wc ha
  subst f6
  obtain⟨L,J,hB⟩:=h.boxes id _ C
  cases hB with
  |var _ b t vs hw hl hc=>
  have c1:∀(i:Nat)p u,ps[i]? =some p->vs[i]? =some u->V S p u:=fun i p u h1 G=>by
   have:=hc i (.d p) u (by simp [h1]) G
   cases this with|d h=>exact h
  have hlen:vs.size=ps.length:=by simpa using hl
  have h1:∀u∈vs,u.oneCell'=true:=fun u hu=>by
   obtain⟨i,hi,rfl⟩:=Array.getElem_of_mem hu
   have d8:i<ps.length:=by omega
   exact((c1 i ps[i] vs[i] (zf d8) (Ds hi)).uZ (List.all_eq_true.1 b5 _ (Dp d8))).1
  obtain⟨k1,k2,k3⟩:=h.CT C J hw h1
  have N:({ s with boxes:=upd s.boxes id .dead }:St)={ s with boxes:=fun i=>if i=id then some .dead else s.boxes i }:=rfl
  rw [N]at k1
  refine⟨_,_,k1.wG (fun t=>(s.rJ t).map (fixRV id ps)) fun t rv O=>?_⟩
  rw [FC]at O
  obtain⟨c2,G,rfl⟩:=O
  obtain⟨v,K,F⟩:=h.rJ t c2 G
  obtain⟨v',e7,e6⟩:=k1.rJ t c2 G
  rw [K]at e7
  cases e7
  refine⟨v,K,?_⟩
  unfold fixRV
  split
  ·rename_i i off
   split
   ·rename_i hi
    subst hi
    cases F with
    |ptr _ _ _ L2 ho d5 hp=>
     rw [J]at d5
     cases d5
     rw [(hp b).1 rfl]
     have d6:∀(j:Nat)c,(ps.drop off)[j]? =some c->∃u,vs[off+j]? =some u∧V S c u:=fun j c hj=>by
      rw [List.getElem?_drop]at hj
      have b1:off+j<vs.size:=by rw [hlen];exact(List.getElem?_eq_some_iff.1 hj).1
      exact⟨_,Ds b1,c1 _ c _ hj (Ds b1)⟩
     refine .cptr _ b off (fun j=>(vs[off+j]?).getD default) (fun j c hj=>?_) fun j c hj=>?_
     ·obtain⟨u,hu,_⟩:=d6 j c hj
      rw [k3 _ u hu,hu];rfl
     ·obtain⟨u,hu,g6⟩:=d6 j c hj
      rw [hu]
      exact g6.mono k2
   ·exact e6
  ·exact e6
 |bump t=>
  simp only [sw]at B
  rcases O:s.rJ t with _|rv
  ·simp [O]at B
  rw [O]at B
  cases rv<;>first|(simp at B;done)|skip
  rename_i id ver
  simp only at B
  rcases C:s.boxes id with _|T
  ·simp [C]at B
  rw [C]at B
  cases T<;>first|(simp at B;done)|skip
  rename_i E e es
  simp only at B
  by_cases D:ver=E
  rotate_left
  ·simp [D]at B
  subst D
  simp only [if_true,DB]at B
  subst B
  obtain⟨v,K,F⟩:=h.rJ t _ O
  obtain⟨sz,xs,Q,d3,how,hf⟩:=h.vL C F
  have ho:v.oneCell'=true:=by cases F with|ref _ _ _ _ ho=>exact ho
  have c0:rP (loc id) (.arr (ver+1) e sz v):=by
   rw [Q]
   exact .arr za
  have b2:=h.sq (Step.refl none w) id (.arr (ver+1) e es) (.arr (ver+1) e sz v) (fun b hc=>by cases hc) (.arr (ver+1) e es sz v xs d3 how hf) (fun b c4=>.inl ⟨_,Q,c4⟩) c0
  have N:({ s with boxes:=upd s.boxes id (.arr (ver+1) e es) }:St)={ s with boxes:=fun i=>if i=id then some (.arr (ver+1) e es)else s.boxes i }:=rfl
  rw [N]at b2
  refine⟨S,_,b2.wG _ fun x rv U=>?_⟩
  split at U
  ·rename_i a6
   subst a6
   cases U
   exact⟨v,K,.ref id (ver+1) v _ ho (ru _ _ _) fun E e' f0 c3 he=>by cases he;exact⟨DA _,fun _=>rfl⟩⟩
  ·exact b2.rJ x rv U
 |bumpp p=>
  simp only [sw]at B
  rcases O:uw s p with _|rv
  ·simp [O]at B
  rw [O]at B
  cases rv<;>first|(simp at B;done)|skip
  rename_i id ver
  simp only at B
  rcases C:s.boxes id with _|T
  ·simp [C]at B
  rw [C]at B
  cases T<;>first|(simp at B;done)|skip
  rename_i E e es
  simp only at B
  by_cases D:ver=E
  rotate_left
  ·simp [D]at B
  subst D
  simp only [if_true,DB]at B
  subst B
  obtain⟨L,J,hB⟩:=h.boxes id _ C
  cases hB with
  |arr _ _ _ sz hdr xs d3 how hf=>
  have c0:rP (loc id) (.arr (ver+1) e sz hdr):=by
   rw [J]
   exact .arr za
  have b2:=h.sq (Step.refl none w) id (.arr (ver+1) e es) (.arr (ver+1) e sz hdr) (fun b hc=>by cases hc) (.arr (ver+1) e es sz hdr xs d3 how hf) (fun b c4=>.inl ⟨_,J,c4⟩) c0
  have N:({ s with boxes:=upd s.boxes id (.arr (ver+1) e es) }:St)={ s with boxes:=fun i=>if i=id then some (.arr (ver+1) e es)else s.boxes i }:=rfl
  rw [N]at b2
  have d0:uw { s with boxes:=fun i=>if i=id then some (.arr (ver+1) e es)else s.boxes i } p=some (.ref id ver):=v7 O fun off d1=>by
   subst d1
   simp only [uw,C]at O
   cases O
  refine⟨S,_,b2.plSet' d0 fun v K=>?_⟩
  have g5:PlAt loc tm w v p:=by
   cases p with
   |reg t=>exact K
   |cell i off=>
    obtain⟨b,vs,ty,h1,G,h3⟩:=K
    refine⟨b,vs,ty,?_,G,h3⟩
    by_cases hi:i=id
    ·subst hi;rw [ru]at h1;cases h1
    ·rwa [si _ _ hi]at h1
  have F:=h.plAt O v g5
  cases F with
  |ref _ _ _ W ho a9 hc=>
   rw [J]at a9
   cases a9
   have:=(hc ver e sz hdr .arr).2 rfl
   subst this
   exact .ref id (ver+1) _ _ ho (ru _ _ _) fun E e' f0 c3 he=>by cases he;exact⟨DA _,fun _=>rfl⟩
 |ownn p id e e2=>
  simp only [sw]at B
  split at B
  ·rename_i k hp C hk g0
   cases B
   have Q:=h.rX C
   have c0:rP (loc id) (.nest 0 e 1 (.slice none 0 0) []):=by rw [Q];trivial
   have h1:=h.sq (Step.refl none w) id (.nest 0 e e2 [] none) (.nest 0 e 1 (.slice none 0 0) []) (fun b hc=>by cases hc)
    (.nest 0 e e2 [] none _ [] [] hk ⟨k,g0⟩ (.inl (.of (World.ownsRow_nil w 0 e _))) .nil (by simp [sX]) (fun i rv e=>by cases e)) (fun b C=>by simp [Loc.has,sX]at C) c0
   have N:({ s with boxes:=upd s.boxes id (.nest 0 e e2 [] none) }:St)={ s with boxes:=fun i=>if i=id then some (.nest 0 e e2 [] none)else s.boxes i }:=rfl
   rw [N]at h1
   refine⟨S,_,Sim.uE (s:={ s with boxes:=fun i=>if i=id then some (.nest 0 e e2 [] none)else s.boxes i }) h1 (v7 hp fun off he=>?_) fun v F=>?_⟩
   ·subst he
    simp only [uw,C]at hp
    cases hp
   ·cases F with
    |pY=>exact .ref id 0 _ _ rfl (ru _ _ _) fun E e' f0 c3 he=>by cases he;exact⟨DA _,fun _=>rfl⟩
  ·cases B
   exact⟨S,loc,h⟩
  ·cases B
 |lend id i new=>
  simp only [sw]at B
  split at B
  rotate_left
  ·cases B
  rename_i ver e e2 ess C e3
  rcases c7:w6 s ess i with _|⟨j,es⟩
  ·simp [c7]at B
  simp only [c7,DB]at B
  subst B
  exact h.lend C e3 (Cy c7)
 |give id=>
  simp only [sw]at B
  split at B
  ·rename_i ver e e2 ess i k kv C
   split at B
   rotate_left
   ·cases B
   rename_i g7 e' es hk
   split at B
   rotate_left
   ·cases B
   rename_i hc
   obtain⟨rfl,rfl,a5⟩:=hc
   cases B
   exact⟨S,h.give C hk a5⟩
  ·cases B
  ·cases B
   exact⟨S,loc,h⟩
 |frzn p=>
  simp only [sw]at B
  split at B
  ·rename_i id ver hp
   split at B
   rotate_left
   ·cases B
   rename_i E e e2 ess C
   split at B
   rotate_left
   ·cases B
   rename_i D
   subst D
   cases B
   obtain⟨S',h1,K⟩:=h.freezeN C
   have N:({ s with boxes:=upd s.boxes id .dead }:St)={ s with boxes:=fun i=>if i=id then some .dead else s.boxes i }:=rfl
   rw [N]at h1
   have d0:uw { s with boxes:=fun i=>if i=id then some .dead else s.boxes i } p=some (.ref id ver):=v7 hp fun off d1=>by
    subst d1
    simp only [uw,C]at hp
    cases hp
   refine⟨S',_,h1.plSet' d0 fun v e8=>.d (K v (h.plAt hp v ?_))⟩
   cases p with
   |reg t=>exact e8
   |cell i off=>
    obtain⟨b,vs,ty,g1,g2,g3⟩:=e8
    refine⟨b,vs,ty,?_,g2,g3⟩
    by_cases hi:i=id
    ·subst hi;rw [ru]at g1;cases g1
    ·rwa [si _ _ hi]at g1
  ·rename_i hp
   cases B
   exact⟨S,loc,h.uE hp fun v F=>by cases F;exact .d (.nil _ _)⟩
  ·cases B
   exact⟨S,loc,h⟩
  ·cases B
 |opn id r o=>
  simp only [sw]at B
  split at B
  rotate_left
  ·cases B
  rename_i ver e es q n C F
  split at B
  rotate_left
  ·cases B
  rename_i x U
  split at B
  rotate_left
  ·cases B
  rename_i c hc
  cases B
  exact⟨S,h.opn C U hc⟩
 |cls id=>
  simp only [sw]at B
  split at B
  ·rename_i ver e es i o c C
   split at B
   rotate_left
   ·cases B
   rename_i hc
   cases B
   exact⟨S,h.clsD C hc⟩
  ·rename_i ver e es i o k kv C
   split at B
   rotate_left
   ·cases B
   rename_i g7 e' g8 hk
   split at B
   rotate_left
   ·cases B
   rename_i hc
   obtain⟨rfl,a5⟩:=hc
   cases B
   exact h.clsR C hk a5
  ·cases B
  ·cases B
   exact⟨S,loc,h⟩
theorem yk{nb:Nat}(j:∀k b,X.par k=some b->k<nb∧∀ver e sz hdr,b.Row ver e sz hdr->ver=0):∀(gs:List wR){s s':St}{S:rC}{loc:sf},ry P nb s gs=some s'->Sim P X S loc s tm w->∃S' loc',Sim P X S' loc' s' tm w
 | [],s,s',S,loc,h,hs=>by simp only [ry,DB]at h;subst h;exact⟨S,loc,hs⟩
 |g::gs,s,s',S,loc,h,hs=>by
  simp only [ry]at h
  rcases h1:sw P nb s g with _|s1
  ·simp [h1]at h
  simp only [h1]at h
  obtain⟨S1,r,q⟩:=Bb j h1 hs
  exact yk j gs h q
end
def Ex.out:Ex->Exit
 | .normal=>.normal
 | .exit id=>.exit id
 | .ret=>.ret
section
variable {P:Program}{X:Ctx}{H:Hints}{f:FuncId}{nb:Nat}{call:rA}{fuel:Nat}
theorem xB{c:Code}{body:St->Option (Ex×St)}{Q:Exit->Act->World->Prop}
  (g:∀{s:St}{e:Ex}{s':St}{a:Act}{w:World}{Q:Exit->Act->World->Prop},body s=some (e,s')->vK P X s a w->(∀k w',vK P X s' k w'->Q e.out k w')->c.wp P Q a w):
  ∀(n:Nat){s:St}{e:Ex}{s':St}{a:Act}{w:World},wk body n s=some (e,s')->vK P X s a w->(∀k w',vK P X s' k w'->Q e.out k w')->Code.rounds P c Q n a w
 |0,s,e,s',a,w,h,_,_=>by simp [wk]at h
 |n+1,s,e,s',a,w,h,hS,q=>by
  simp only [wk]at h
  rcases h1:body s with _|⟨r,s1⟩
  ·simp [h1]at h
  rw [h1]at h
  rw [rounds_succ]
  cases r with
  |normal=>
   simp only at h
   exact g h1 hS fun k w' j=>xB g n h j q
  |exit id=>
   simp only [DB,DD]at h
   obtain⟨rfl,rfl⟩:=h
   exact g h1 hS fun k w' j=>q k w' j
  |ret=>
   simp only [DB,DD]at h
   obtain⟨rfl,rfl⟩:=h
   exact g h1 hS fun k w' j=>q k w' j
theorem sr(g:ue P X.base call)(hm:P.follows .mixedOrders=true)(r:∀k b,X.par k=some b->k<nb∧∀ver e sz hdr,b.Row ver e sz hdr->ver=0):∀(c:Code){s:St}{e:Ex}{s':St}{a:Act}{w:World}{Q:Exit->Act->World->Prop},
  yg X.nt c=true->rO P H f nb call fuel c s=some (e,s')->vK P X s a w->(∀B w',vK P X s' B w'->Q e.out B w')->c.wp P Q a w
 | .skip,s,e,s',a,w,Q,_,h,hS,q=>by
  simp only [rO,DB,DD]at h
  obtain⟨rfl,rfl⟩:=h
  exact wp_skip (q a w hS)
 | .region id ops J,s,e,s',a,w,Q,u,h,hS,q=>by
  simp only [rO]at h
  rcases h1:yi P H f nb call id ops J s with _|s1
  ·simp [h1]at h
  simp only [h1,DB,DD]at h
  obtain⟨rfl,rfl⟩:=h
  unfold yi at h1
  rcases L:ry P nb s (H.at_ f nb id)with _|s0
  ·simp [L]at h1
  simp only [L]at h1
  rcases N:tC P (H.hf f) call ops ops.toList s0 with _|⟨s2,ts⟩
  ·simp [N]at h1
  simp only [N]at h1
  obtain⟨E,S,loc,C⟩:=hS
  obtain⟨S',loc',D⟩:=yk r _ L C
  have F:DstIn X.nt ops:=by
   intro i o ho d O
   have:=Array.all_eq_true_iff_forall_mem.1 (show(ops.all fun o=>match o.dst with|some d=>decide (d<X.nt)|none=>true)=true from u) o (Array.mem_of_getElem? ho)
   simpa [O]using this
  have U:s2=s1∧(J=true->uS ops ts=true):=by
   cases J with
   |true=>
    simp only [if_true]at h1
    split at h1
    ·rename_i T;cases h1;exact⟨rfl,fun _=>T⟩
    ·cases h1
   |false=>simp only [Dr,if_false,DB]at h1;exact⟨h1,fun h=>by cases h⟩
  obtain⟨rfl,G⟩:=U
  exact Bl g hm F N G ⟨E,S',loc',D⟩ q
 | .seq x y,s,e,s',a,w,Q,u,h,hS,q=>by
  simp only [yg,D6]at u
  simp only [rO]at h
  rcases h1:rO P H f nb call fuel x s with _|⟨K,s1⟩
  ·simp [h1]at h
  rw [h1]at h
  refine wp_seq ?_
  cases K with
  |normal=>
   simp only at h
   exact sr g hm r x u.1 h1 hS fun B w' j=>sr g hm r y u.2 h j q
  |exit id=>
   simp only [DB,DD]at h
   obtain⟨rfl,rfl⟩:=h
   exact sr g hm r x u.1 h1 hS fun B w' j=>q B w' j
  |ret=>
   simp only [DB,DD]at h
   obtain⟨rfl,rfl⟩:=h
   exact sr g hm r x u.1 h1 hS fun B w' j=>q B w' j
 | .cond c x y,s,e,s',a,w,Q,u,h,hS,q=>by
  simp only [yg,D6]at u
  simp only [rO]at h
  rcases h1:s.opd c with _|rv
  ·simp [h1]at h
  rw [h1]at h
  rcases rv with p|_|_|_|_|_|_|_|_|_|_|_|_<;>first|(simp at h;done)|skip
  cases p<;>first|(simp at h;done)|skip
  rename_i t
  have j:=hS
  obtain⟨E,S,loc,C⟩:=j
  have I:=(C.opd h1).uM
  cases t with
  |true=>
   simp only [if_true]at h
   exact wp_cond_true I (sr g hm r x u.1 h hS q)
  |false=>
   simp only [Dr,if_false]at h
   exact wp_cond_false I (sr g hm r y u.2 h hS q)
 | .block id x,s,e,s',a,w,Q,u,h,hS,q=>by
  simp only [rO]at h
  rcases h1:rO P H f nb call fuel x s with _|⟨K,s1⟩
  ·simp [h1]at h
  rw [h1]at h
  refine wp_block (sr g hm r x u h1 hS fun B w' j=>?_)
  cases K with
  |normal=>
   simp only [DB,DD]at h
   obtain⟨rfl,rfl⟩:=h
   exact q B w' j
  |exit W=>
   simp only at h
   by_cases hid:W=id
   ·simp only [hid,if_true,DB,DD]at h
    obtain⟨rfl,rfl⟩:=h
    simp only [Ex.out,Exit.inBlock,hid,if_true]
    exact q B w' j
   ·simp only [hid,if_false,DB,DD]at h
    obtain⟨rfl,rfl⟩:=h
    simp only [Ex.out,Exit.inBlock,hid,if_false]
    exact q B w' j
  |ret=>
   simp only [DB,DD]at h
   obtain⟨rfl,rfl⟩:=h
   exact q B w' j
 | .loop x,s,e,s',a,w,Q,u,h,hS,q=>by
  simp only [rO]at h
  exact wp_loop_rounds fuel (xB (fun I hS q=>sr g hm r x u I hS q) fuel h hS q)
 | .exit id,s,e,s',a,w,Q,_,h,hS,q=>by
  simp only [rO,DB,DD]at h
  obtain⟨rfl,rfl⟩:=h
  exact wp_exit (q a w hS)
 | .ret,s,e,s',a,w,Q,_,h,hS,q=>by
  simp only [rO,DB,DD]at h
  obtain⟨rfl,rfl⟩:=h
  exact wp_ret (q a w hS)
 | .rangeFunc _ _ _ _,s,e,s',a,w,Q,_,h,_,_=>by simp [rO]at h
 | .scope x,s,e,s',a,w,Q,u,h,hS,q=>by
  simp only [rO]at h
  refine wp_scope_straight (sr g hm r x u h hS fun B w' j=>?_)
  have:=q B w' j
  cases e<;>exact this
 | .label _,s,e,s',a,w,Q,_,h,hS,q=>by
  simp only [rO,DB,DD]at h
  obtain⟨rfl,rfl⟩:=h
  exact wp_label (q a w hS)
 | .goto _,s,e,s',a,w,Q,_,h,_,_=>by simp [rO]at h
 | .refuse _,s,e,s',a,w,Q,_,h,_,_=>by simp [rO]at h
end
end Go.Dw
