
import Derived.Test.YtikangmionpjfaaGreatDwRegion
import Derived.Scope
set_option linter.unusedVariables false
set_option linter.unusedSimpArgs false
open Option.some renaming inj->DS, injEq->B7
open List renaming getElem?_cons_zero->CP, getElem?_set->CQ, getElem_mem->C9, length_set->Dc, map_cons->DW, mem_append->Dd, mem_singleton->De, nil_append->CY, nodup_append->Df
open Nat renaming le_refl->B6, zero_min->Dh
open Option renaming map_eq_some_iff->Di, map_some->Cs, toList_some->Dj
open Array renaming getElem?_eq_getElem->Cc
open Prod.mk renaming injEq->B9
open Bool renaming and_eq_true->C4, false_eq_true->Cb

namespace Go.Dw
theorem w5{α:Type}{f:Nat->Option α}:∀{ts:List Nat}{l:List (Nat×α)},gets f ts=some l->(∀x∈l,f x.1=some x.2∧x.1∈ts)∧∀t∈ts,∃v,(t,v)∈l
 | [],l,h=>by
  simp only [gets,B7]at h
  subst h
  exact⟨(fun x a=>by cases a),(fun t c=>by cases c)⟩
 |t::ts,l,h=>by
  simp only [gets]at h
  rcases h1:f t with _|v
  ·simp [h1]at h
  rcases g:gets f ts with _|r
  ·simp [h1,g]at h
  simp only [h1,g,B7]at h
  subst h
  obtain⟨g1,g2⟩:=w5 g
  refine⟨fun x a=>?_,fun t' c=>?_⟩
  ·rcases List.mem_cons.1 a with rfl|a
   ·exact⟨h1,sm⟩
   ·exact⟨(g1 x a).1,by simp [(g1 x a).2]⟩
  ·rcases List.mem_cons.1 c with rfl|c
   ·exact⟨v,sm⟩
   ·obtain⟨v',j⟩:=g2 t' c
    exact⟨v',by simp [j]⟩
theorem yU{α:Type}(g:α->α):∀{l:List (Nat×α)}{t:Nat}{v:α},assoc (l.map fun x=>(x.1,g x.2)) t=some v->∃v0,(t,v0)∈l∧v=g v0
 | [],t,v,h=>by simp [assoc]at h
 |(k,a)::r,t,v,h=>by
  simp only [DW,assoc]at h
  by_cases hk:t=k
  ·subst hk
   simp only [if_true,B7]at h
   exact⟨a,sm,h.symm⟩
  ·simp only [hk,if_false]at h
   obtain⟨v0,h1,c⟩:=yU g h
   exact⟨v0,by simp [h1],c⟩
theorem xT{α:Type}(g:Nat->α->α):∀{l:List (Nat×α)}{t:Nat}{v:α},assoc (l.map fun x=>(x.1,g x.1 x.2)) t=some v->∃v0,(t,v0)∈l∧v=g t v0
 | [],t,v,h=>by simp [assoc]at h
 |(k,a)::r,t,v,h=>by
  simp only [DW,assoc]at h
  by_cases hk:t=k
  ·subst hk
   simp only [if_true,B7]at h
   exact⟨a,sm,h.symm⟩
  ·simp only [hk,if_false]at h
   obtain⟨v0,h1,c⟩:=xT g h
   exact⟨v0,by simp [h1],c⟩
theorem xU{α:Type}(g:Nat->α->α):∀{l:List (Nat×α)}{t:Nat}{v:α},(t,v)∈l->∃v',assoc (l.map fun x=>(x.1,g x.1 x.2)) t=some v'
 | [],t,v,h=>by cases h
 |(k,a)::r,t,v,h=>by
  simp only [DW,assoc]
  by_cases hk:t=k
  ·exact⟨g k a,by simp [hk]⟩
  ·simp only [hk,if_false]
   rcases List.mem_cons.1 h with h|h
   ·cases h;exact(hk rfl).elim
   ·exact xU g h
section
variable {P:Program}{X:Ctx}{S:pr}{loc:pY}{s:St}{tm:Array Value}{w:World}
theorem Sim.uM(h:Sim P X S loc s tm w)(a:Nat->Option RV)(c:∀t rv,a t=some rv->∃v,tm[t]? =some v∧R S loc rv v):Sim P X S loc { s with pI:=a } tm w:=
 ⟨h.nt,c,h.boxes,h.dom,h.imm,h.ti,h.rK,h.inj,h.own,h.frame,h.s0,h.par,h.uY,h.bs,h.ob⟩
theorem BX(L:Loc){f:Nat->Nat}(hf:∀v,f v=v):pL f L=L:=by cases L<;>simp [pL,hf]
theorem R.xZ{cs:List RV}{vs:Array Value}{S:pr}{loc:pY}(hc:∀(i:Nat)c v,cs[i]? =some c->vs[i]? =some v->R S loc c v){off:Nat}{x:RV}(g:∀v,vs[off]? =some v->R S loc x v):
  ∀(i:Nat)c v,(cs.set off x)[i]? =some c->vs[i]? =some v->R S loc c v:=by
 intro i c v h1 a
 by_cases hi:off=i
 ·subst hi
  rw [CQ]at h1
  simp only [if_true]at h1
  split at h1
  ·cases h1;exact g v a
  ·cases h1
 ·rw [List.getElem?_set_ne hi]at h1
  exact hc i c v h1 a
theorem Sim.sQ(h:Sim P X S loc s tm w){p:Pl}{rv x:RV}(hp:sg s p=some rv)(z:∀v,R S loc rv v->R S loc x v):Sim P X S loc (Dw.sQ s x p) tm w:=by
 cases p with
 |reg t=>
  refine h.uM _ fun y u q=>?_
  split at q
  ·rename_i r
   subst r
   cases q
   obtain⟨v,l,D⟩:=h.pI y _ hp
   exact⟨v,l,z v D⟩
  ·exact h.pI y u q
 |cell id off=>
  simp only [sg]at hp
  rcases g:s.boxes id with _|c
  ·simp [g]at hp
  rw [g]at hp
  cases c with
  |arr _ _ _=>cases hp
  |dead=>cases hp
  |map _ _ _=>cases hp
  |nest _ _ _ _ _=>cases hp
  |hole _ _ _ _ _ _=>cases hp
  |var cs=>
   simp only at hp
   simp only [Dw.sQ,g]
   refine⟨h.nt,h.pI,fun i c hi=>?_,fun i L j=>?_,h.imm,h.ti,h.rK,h.inj,h.own,h.frame,h.s0,h.par,h.uY,h.bs,h.ob⟩
   ·simp only at hi
    split at hi
    ·rename_i a
     subst a
     cases hi
     obtain⟨L,j,B⟩:=h.boxes i _ g
     refine⟨L,j,?_⟩
     cases B with
     |var _ b t vs hw C hc=>
      exact .var _ b t vs hw (by simpa using C) (R.xZ hc fun v l=>z v (hc off rv v hp l))
    ·exact h.boxes i c hi
   ·obtain⟨c,k⟩:=h.dom i L j
    by_cases a:i=id
    ·subst a;exact⟨_,if_pos rfl⟩
    ·exact⟨c,by simp only [a,if_false];exact k⟩
theorem uo{id:Nat}{a:Box}{rv:RV}:∀{p:Pl},sg s p=some rv->(∀off,p≠ .cell id off)->sg { s with boxes:=fun i=>if i=id then some a else s.boxes i } p=some rv
 | .reg t,h,_=>h
 | .cell i off,h,c=>by
  have:i≠id:=fun e=>c off (by rw [e])
  simp only [sg,this,if_false]at h⊢
  exact h
theorem BC{nb k:Nat}(a:k<nb){g L:Loc}(c:∀ver e sz hdr,g.Row ver e sz hdr->ver=0)(h:tq g L):tq g (pL (pV nb k) L):=by
 cases h with
 |same=>
  cases g with
  |arr ver e sz hdr=>
   have:=c ver e sz hdr .arr
   subst this
   simp only [pL,pV,a,if_true,Dh]
   exact .same _
  |nest ver e sz hdr bs=>
   have:=c ver e sz hdr .nest
   subst this
   simp only [pL,pV,a,if_true,Dh]
   exact .same _
  |var b=>exact .same _
  |dead=>exact .same _
  |map b=>exact .same _
 |dead=>exact .dead _
 |arr j=>
  have:=c _ _ _ _ .arr
  subst this
  refine .arr ?_
  simp only [pV,a,if_true]
  omega
 |nest j=>
  have:=c _ _ _ _ .nest
  subst this
  refine .nest ?_
  simp only [pV,a,if_true]
  omega
 |held=>
  have:=c _ _ _ _ .nest
  subst this
  simp only [pL,pV,a,if_true,Dh]
  exact .held
def PlAt(loc:pY)(tm:Array Value)(w:World)(v:Value):Pl->Prop
 | .reg t=>tm[t]? =some v
 | .cell id off=>∃b vs ty,loc id=some (.var b)∧w.heap[b]? =some (.cells vs ty (0,0))∧vs[off]? =some v
theorem Sim.plAt(h:Sim P X S loc s tm w){p:Pl}{rv:RV}(hp:sg s p=some rv):∀v,PlAt loc tm w v p->R S loc rv v:=by
 cases p with
 |reg t=>
  intro v a
  obtain⟨v',h1,c⟩:=h.pI t rv hp
  simp only [PlAt]at a
  rw [h1]at a
  cases a
  exact c
 |cell id off=>
  intro v a
  obtain⟨b,vs,ty,h1,c,l⟩:=a
  simp only [sg]at hp
  rcases g:s.boxes id with _|k
  ·simp [g]at hp
  rw [g]at hp
  cases k<;>simp only at hp<;>first|(cases hp;done)|skip
  obtain⟨L,j,q⟩:=h.boxes id _ g
  rw [h1]at j
  cases j
  cases q with
  |var _ b t r hw u hc=>
   rw [hw]at c
   cases c
   exact hc off rv v hp l
theorem Sim.plSet'(h:Sim P X S loc s tm w){p:Pl}{rv x:RV}(hp:sg s p=some rv)(z:∀v,PlAt loc tm w v p->R S loc x v):Sim P X S loc (Dw.sQ s x p) tm w:=by
 cases p with
 |reg t=>
  refine h.uM _ fun y u q=>?_
  split at q
  ·rename_i r
   subst r
   cases q
   obtain⟨v,k,D⟩:=h.pI y _ hp
   exact⟨v,k,z v k⟩
  ·exact h.pI y u q
 |cell id off=>
  simp only [sg]at hp
  rcases j:s.boxes id with _|c
  ·simp [j]at hp
  rw [j]at hp
  cases c<;>simp only at hp<;>first|(cases hp;done)|skip
  simp only [Dw.sQ,j]
  refine⟨h.nt,h.pI,fun i c hi=>?_,fun i L g=>?_,h.imm,h.ti,h.rK,h.inj,h.own,h.frame,h.s0,h.par,h.uY,h.bs,h.ob⟩
  ·simp only at hi
   split at hi
   ·rename_i a
    subst a
    cases hi
    obtain⟨L,g,B⟩:=h.boxes i _ j
    refine⟨L,g,?_⟩
    cases B with
    |var _ b t vs hw C hc=>
     exact .var _ b t vs hw (by simpa using C) (R.xZ hc fun v k=>z v ⟨b,vs,t,g,hw,k⟩)
   ·exact h.boxes i c hi
  ·obtain⟨c,l⟩:=h.dom i L g
   by_cases a:i=id
   ·subst a;exact⟨_,if_pos rfl⟩
   ·exact⟨c,by simp only [a,if_false];exact l⟩
theorem Bd{s:St}{ess:List (List PD)}{i:Option Nat}{j:Nat}{es:List PD}(h:zM s ess i=some (j,es)):ess[j]? =some es:=by
 unfold zM at h
 split at h
 ·split at h
  ·rename_i a;cases h;exact a
  ·cases h
 ·split at h
  ·split at h
   ·split at h
    ·rename_i a;cases h;exact a
    ·cases h
   ·cases h
  ·cases h
theorem Sim.xa(h:Sim P X S loc s tm w){id:Nat}{L:Loc}(c:loc id=some L){b:Nat}(j:L.has b):
  (∀i a,i≠id->loc i=some a->¬a.has b)∧(∀o,S ⟨b,o,none⟩=none)∧(b∈X.B0∨X.w0.heap.size<=b):=
 ⟨fun i a hi g k=>hi (h.inj i id a L b g c k j),fun o=>h.rK id L b c j o,h.own id L b c j⟩
theorem Sim.lend(h:Sim P X S loc s tm w){id new ver j:Nat}{e e2:TypeId}{ess:List (List PD)}{es:List PD}(r:s.boxes id=some (.nest ver e e2 ess none))(y:s.boxes new=none)(hj:ess[j]? =some es):
  ∃S' loc',Sim P X S' loc' { s with boxes:=fun k=>if k=new then some (.arr 0 e2 es)else if k=id then some (.nest ver e e2 ess (some (j,.ref new 0)))else s.boxes k } tm w:=by
 obtain⟨L,hL,hB⟩:=h.boxes id _ r
 have C:new≠id:=fun e=>by rw [e,r]at y;cases y
 have K:j<ess.length:=(List.getElem?_eq_some_iff.1 hj).1
 cases hB with
 |nest _ _ _ _ _ hdr xs bs T Q how hc u hi=>
 obtain⟨v,b,p,bs2,rfl,I,h3,h4⟩:=hc.split (ncs_none (e2:=e2) hj)
 cases h3 with
 |row _ _ sz _ ys W E a7=>
 have t:v.oneCell'=true:=by obtain⟨a,c,rfl,_⟩:=E.hdr;rfl
 let l:Loc:= .nest ver e 1 hdr (p++bs2)
 have D:((pB hdr).toList++(p++bs2)).Nodup:=List.Nodup.sublist (List.Sublist.append (List.Sublist.refl _) (List.Sublist.append (List.Sublist.refl _) (List.sublist_append_right _ _))) u
 have N:∀b,l.has b->Loc.has (.nest ver e 1 hdr (p++((pB v).toList++bs2))) b:=fun b r=>by
  simp only [l,Loc.has,Dd]at r⊢
  rcases r with r|r|r
  ·exact .inl r
  ·exact .inr (.inl r)
  ·exact .inr (.inr (.inr r))
 have z:pN (loc id) l:=by rw [hL];exact .held
 have g0:=h4 (.val .junk) v [] (.val _ v (.junk v) t)
 rw [vu e2 ess none j .junk (fun _ _ e=>by cases e),CY]at g0
 have k1:=h.qh (Step.refl none w) id (.nest ver e e2 ess (some (j,.junk))) l (fun b hc=>by cases hc)
  (.nest ver e e2 ess _ hdr (xs.set j v) (p++bs2) T Q (by rw [vA I];exact how) (g0.cI (Sub.refl S) (pD.upd z) fun _ _=>rfl) D (fun i rv e=>by cases e;exact K)) (fun b r=>.inl ⟨_,hL,N b r⟩) z
 have Y:upd loc id l new=none:=by rw [p6 _ _ C];exact h.pS y
 have F:pN (upd loc id l new) (.arr 0 e2 sz v):=by rw [Y];trivial
 have k2 := k1.qh (Step.refl none w) new (.arr 0 e2 es) (.arr 0 e2 sz v) (fun b hc => by cases hc) (.arr 0 e2 es sz v ys W E a7) (fun b x => by
  have a6:Loc.has (.nest ver e 1 hdr (p++((pB v).toList++bs2))) b:=by
   simp only [Loc.has,Dd]at x⊢
   exact .inr (.inr (.inl (by rw [x];simp)))
  obtain⟨f1,f2,f3⟩:=h.xa hL a6
  refine .inr (.inr ⟨fun i L' B g=>?_,f2,f3⟩)
  by_cases J:i=id
  ·subst J
   rw [pz]at B
   cases B
   have x:pB v=some b:=x
   have g:b∈(pB hdr).toList++(p++bs2):=g
   rw [x]at u
   simp only [Dj,Df,Dd,De]at u g
   rcases g with g|g|g
   ·exact u.2.2 b g b (.inr (.inl rfl)) rfl
   ·exact u.2.1.2.2 b g b (.inl rfl) rfl
   ·exact u.2.1.2.1.2.2 b rfl b g rfl
  ·rw [p6 _ _ J]at B
   exact f1 i L' J B g) F
 have O:upd (upd loc id l) new (.arr 0 e2 sz v) id=some l:=by rw [p6 _ _ (Ne.symm C)];exact pz _ _ _
 have G:pN (upd (upd loc id l) new (.arr 0 e2 sz v) id) l:=by rw [O];exact .same _
 have hR:R S (upd (upd (upd loc id l) new (.arr 0 e2 sz v)) id l) (.ref new 0) v:= .ref new 0 v _ t (by rw [p6 _ _ C];exact pz _ _ _) fun a9 e' b0 a8 he=>by cases he;exact⟨B6 _,fun _=>rfl⟩
 have g2:NCs P S (upd (upd (upd loc id l) new (.arr 0 e2 sz v)) id l) w (ncs e2 ess (some (j,.ref new 0))) (xs.set j v) (p++bs2):=by
  have q:=g0.cI (Sub.refl S) ((pD.upd z).trans ((pD.upd F).trans (pD.upd G))) fun _ _=>rfl
  exact q.reval K (by rw [vA I];exact I) hR t
 have k3:=k2.qh (Step.refl none w) id (.nest ver e e2 ess (some (j,.ref new 0))) l (fun b hc=>by cases hc)
  (.nest ver e e2 ess _ hdr (xs.set j v) (p++bs2) T Q (by rw [vA I];exact how) g2 D (fun i rv e=>by cases e;exact K)) (fun b r=>.inl ⟨l,O,r⟩) G
 refine⟨S,upd (upd (upd loc id l) new (.arr 0 e2 sz v)) id l,?_⟩
 have a5:(fun k=>if k=new then some (.arr 0 e2 es)else if k=id then some (.nest ver e e2 ess (some (j,.ref new 0)))else s.boxes k)=upd (upd (upd s.boxes id (.nest ver e e2 ess (some (j,.junk)))) new (.arr 0 e2 es)) id (.nest ver e e2 ess (some (j,.ref new 0))):=by
  funext k
  simp only [upd]
  by_cases h1:k=new
  ·subst h1;simp [C]
  ·by_cases I:k=id
   ·subst I;simp [h1]
   ·simp [h1,I]
 rw [a5]
 exact k3
theorem Sim.give(h:Sim P X S loc s tm w){id k ver kv i:Nat}{e e2:TypeId}{ess:List (List PD)}{es:List PD}(c:s.boxes id=some (.nest ver e e2 ess (some (i,.ref k kv))))(hk:s.boxes k=some (.arr kv e2 es))(F:k≠id):
  ∃loc',Sim P X S loc' { s with boxes:=fun j=>if j=k then some .dead else if j=id then some (.nest ver e e2 (ess.set i es) none)else s.boxes j } tm w:=by
 obtain⟨L,hL,hB⟩:=h.boxes id _ c
 obtain⟨Lk,D,Y⟩:=h.boxes k _ hk
 cases hB with
 |nest _ _ _ _ _ hdr xs bs b3 b0 how hc l hi=>
 cases Y with
 |arr _ _ _ sz K ys Q O a7=>
 have a8:=hi i _ rfl
 have z:pN (loc k) .dead:=by rw [D];exact .dead _
 have k1:=h.qh (Step.refl none w) k .dead .dead (fun b hc=>by cases hc) (.dead _ rfl) (fun b hc=>by cases hc) z
 have y:upd loc k .dead id=some (.nest ver e 1 hdr bs):=by rw [p6 _ _ (Ne.symm F)];exact hL
 obtain⟨v,b,C,bs2,rfl,W,h3,h4⟩:=hc.split (yy (e2:=e2) (rv:= .ref k kv) a8)
 cases h3 with
 |val _ _ hr h1=>
 have hv:v=K:=by
  cases hr with
  |ref _ _ _ G _ I a6=>
   rw [D]at I
   cases I
   exact(a6 _ _ _ _ .arr).2 rfl
 subst hv
 have r:∀b,pB v=some b->(∀i G,i≠k->loc i=some G->¬G.has b)∧(∀o,S ⟨b,o,none⟩=none)∧(b∈X.B0∨X.w0.heap.size<=b):=fun b t=>h.xa D t
 let T:Loc:= .nest ver e 1 hdr (C++((pB v).toList++bs2))
 have B:pN (upd loc k .dead id) T:=by rw [y];exact .held
 have g0:=h4 (.row e2 es) v (pB v).toList (.row e2 es sz v ys Q O a7)
 rw [AB,vA W]at g0
 have N:((pB hdr).toList++(C++((pB v).toList++bs2))).Nodup:=by
  rcases a9:pB v with _|g
  ·simpa using l
  ·have p:¬Loc.has (.nest ver e 1 hdr (C++([]++bs2))) g:=(r g a9).1 id _ (Ne.symm F) hL
   simp only [Loc.has,CY,Dd,not_or]at p
   simp only [CY,Df,Dd]at l
   simp only [Dj,Df,Dd,De]
   refine⟨l.1,⟨l.2.1.1,⟨sm,l.2.1.2.1,fun a x b c q=>?_⟩,fun a x b c q=>?_⟩,fun a x b c q=>?_⟩
   ·subst x;subst q;exact p.2.2 c
   ·subst q
    rcases c with rfl|c
    ·exact p.2.1 x
    ·exact l.2.1.2.2 a x a c rfl
   ·subst q
    rcases c with c|rfl|c
    ·exact l.2.2 a x a (.inl c) rfl
    ·exact p.1 x
    ·exact l.2.2 a x a (.inr c) rfl
 have k2:=k1.qh (Step.refl none w) id (.nest ver e e2 (ess.set i es) none) T (fun b hc=>by cases hc)
  (.nest ver e e2 (ess.set i es) none hdr xs _ b3 b0 (by rw [Dc];exact how) (g0.cI (Sub.refl S) ((pD.upd z).trans (pD.upd B)) fun _ _=>rfl) N (fun i rv e=>by cases e))
  (fun b c => by
   simp only [T,Loc.has,Dd]at c
   by_cases t:pB v=some b
   ·obtain⟨f1,f2,f3⟩:=r b t
    refine .inr (.inr ⟨fun i G u J=>?_,f2,f3⟩)
    by_cases E:i=k
    ·subst E;rw [pz]at u;cases u;cases J
    ·rw [p6 _ _ E]at u
     exact f1 i G E u J
   ·refine .inl ⟨_,y,?_⟩
    simp only [Loc.has,CY,Dd]
    rcases c with c|c|c|c
    ·exact .inl c
    ·exact .inr (.inl c)
    ·exact(t (by simpa using c)).elim
    ·exact .inr (.inr c)) B
 refine⟨upd (upd loc k .dead) id T,?_⟩
 have a5:(fun j=>if j=k then some Box.dead else if j=id then some (.nest ver e e2 (ess.set i es) none)else s.boxes j)=upd (upd s.boxes k .dead) id (.nest ver e e2 (ess.set i es) none):=by
  funext j
  simp only [upd]
  by_cases h1:j=k
  ·subst h1;simp [F]
  ·by_cases W:j=id
   ·subst W;simp [h1]
   ·simp [h1,W]
 rw [a5]
 exact k2
theorem Sim.yo{e2:TypeId}:∀(ess:List (List PD)){S:pr}{xs:List Value}{bs:List Nat},Sim P X S loc s tm w->NCs P S loc w (ess.map (.row e2)) xs bs->bs.Nodup->
  (∀b∈bs,(∀i L,loc i=some L->¬L.has b)∧(∀o,S ⟨b,o,none⟩=none)∧(b∈X.B0∨X.w0.heap.size<=b))->
  ∃S',Sim P X S' loc s tm w∧Sub S S'∧(∀g o,g∉bs->S ⟨g,o,none⟩=none->S' ⟨g,o,none⟩=none)∧∀(i:Nat)es x,ess[i]? =some es->xs[i]? =some x->V S' (.lst es) x
 | [],S,xs,bs,h,hc,_,_=>⟨S,h,Sub.refl S,fun _ _ _ h=>h,fun i es x hi=>by simp at hi⟩
 |es::ess,S,xs,bs,h,hc,C,k=>by
  cases hc with
  | @cons _ v b0 E _ vs hr N=>
  cases hr with
  |row _ _ sz _ ys a5 how hf=>
  have r:=(List.nodup_append.1 C).2.1
  by_cases B:es=[]
  ·subst B
   obtain⟨S',g1,g2,g3,g4⟩:=Sim.yo ess h N r fun b l=>k b (List.mem_append.2 (.inr l))
   refine⟨S',g1,g2,fun g o K=>g3 g o fun hm=>K (List.mem_append.2 (.inr hm)),fun i es x hi z=>?_⟩
   cases i with
   |zero=>
    simp only [CP,B7]at hi z
    subst hi;subst z
    obtain⟨a,c,rfl,_⟩:=how.hdr
    exact .nil _ _
   |succ i=>exact g4 i es x (by simpa using hi) (by simpa using z)
  ·have D:0<es.length:=by cases es with|nil=>exact(B rfl).elim|cons=>simp
   have t:=how.rz D
   rcases t.2 with⟨rfl,h0⟩|⟨g,cap,cur,fz,rfl,W,K,G,Q,T,J⟩
   ·omega
   ·have y:=t.cells (g:=g) rfl
    have p:pB (.slice (some ⟨g,0,none⟩) es.length cap)=some g:=by cases cap with|zero=>omega|succ c=>rfl
    obtain⟨f1,f2,f3⟩:=k g (List.mem_append.2 (.inl (by rw [p];simp)))
    have O:=h.uD g ys (fun j v Y=>by have:=y j v Y;rw [qg]at this;simpa using this) hf.one f1 f3.symm
    have u:=rD S g ys
    have I:∀b∈E,b≠g:=fun b l e=>(List.nodup_append.1 C).2.2 g (by rw [p];simp) b l e.symm
    have q:∀b o,b≠g->S ⟨b,o,none⟩=none->qJ S g ys ⟨b,o,none⟩=none:=fun b o l hS=>by simp [qJ,hS,l]
    obtain⟨S',g1,g2,g3,g4⟩:=Sim.yo ess O (N.cI u (pD.refl loc) fun _ _=>rfl) r fun b l=>by
     obtain⟨q1,q2,q3⟩:=k b (List.mem_append.2 (.inr l))
     exact⟨q1,fun o=>q b o (I b l) (q2 o),q3⟩
    refine⟨S',g1,u.trans g2,fun b o l hS=>g3 b o (fun hm=>l (List.mem_append.2 (.inr hm))) (q b o (fun e=>l (List.mem_append.2 (.inl (by rw [p,e];simp)))) hS),fun i F x hi z=>?_⟩
    cases i with
    |zero=>
     simp only [CP,B7]at hi z
     subst hi;subst z
     exact(V.zO hf f2 G).mono g2
    |succ i=>exact g4 i F x (by simpa using hi) (by simpa using z)
theorem Sim.freezeN(h:Sim P X S loc s tm w){id ver:Nat}{e e2:TypeId}{ess:List (List PD)}(hb:s.boxes id=some (.nest ver e e2 ess none)):
  ∃S',Sim P X S' (upd loc id .dead) { s with boxes:=upd s.boxes id .dead } tm w∧∀v,R S loc (.ref id ver) v->V S' (.lst (ess.map .lst)) v:=by
 obtain⟨L,K,hB⟩:=h.boxes id _ hb
 cases hB with
 |nest _ _ _ _ _ hdr xs bs a9 a8 how hc F hi=>
 have J:pN (loc id) .dead:=by rw [K];exact .dead _
 have h1:=h.qh (Step.refl none w) id .dead .dead (fun b hc=>by cases hc) (.dead _ rfl) (fun b hc=>by cases hc) J
 have l:∀b,Loc.has (.nest ver e 1 hdr bs) b->(∀i L,upd loc id .dead i=some L->¬L.has b)∧(∀o,S ⟨b,o,none⟩=none)∧(b∈X.B0∨X.w0.heap.size<=b):=fun b t=>by
  obtain⟨f1,f2,f3⟩:=h.xa K t
  refine⟨fun i W p C=>?_,f2,f3⟩
  by_cases z:i=id
  ·subst z;rw [pz]at p;cases p;cases C
  ·rw [p6 _ _ z]at p
   exact f1 i W z p C
 have Y:∀v,R S loc (.ref id ver) v->v=hdr:=fun v I=>by
  cases I with
  |ref _ _ _ W _ B O=>
   rw [K]at B
   cases B
   exact(O _ _ _ _ .nest).2 rfl
 obtain⟨S1,g1,g2,g3,g4⟩:=Sim.yo ess h1 (hc.cI (Sub.refl S) (pD.upd J) fun _ _=>rfl) (List.nodup_append.1 F).2.1 fun b t=>l b (List.mem_append.2 (.inr t))
 by_cases k:ess=[]
 ·subst k
  refine⟨S1,g1,fun v I=>?_⟩
  rw [Y v I]
  obtain⟨a,c,rfl,_⟩:=how.hdr
  exact .nil _ _
 have G:0<ess.length:=by cases ess with|nil=>exact(k rfl).elim|cons=>simp
 have q:=how.rz G
 have hlen:ess.length=xs.length:=by have:=hc.len;rwa [yx]at this
 have y:Flat S1 1 (ess.map .lst) xs:=by
  refine⟨fun e he=>?_,hc.one,fun i e j x hi D=>?_⟩
  ·obtain⟨es,_,rfl⟩:=List.mem_map.1 he
   rfl
  ·rw [List.getElem?_map,Di]at hi
   obtain⟨es,k,rfl⟩:=hi
   cases j with
   |succ j=>simp [PD.cells]at D
   |zero=>
    simp only [PD.cells,CP,B7]at D
    subst D
    have E:i<xs.length:=by rw [<-hlen];exact(List.getElem?_eq_some_iff.1 k).1
    exact⟨xs[i],by rw [Nat.mul_one,Nat.add_zero];exact zd E,g4 i es _ k (zd E)⟩
 rcases q.2 with⟨rfl,h0⟩|⟨g,cap,cur,fz,rfl,a7,hg,Q,a5,a6,T⟩
 ·omega
 ·have u:=q.cells (g:=g) rfl
  have r:pB (.slice (some ⟨g,0,none⟩) ess.length cap)=some g:=by cases cap with|zero=>omega|succ c=>rfl
  obtain⟨f1,f2,f3⟩:=l g (List.mem_append.2 (.inl (by rw [r];simp)))
  have N:∀o,S1 ⟨g,o,none⟩=none:=fun o=>g3 g o (fun hm=>(List.nodup_append.1 F).2.2 g (by rw [r];simp) g hm rfl) (f2 o)
  have h2:=g1.uD g xs (fun j v D=>by have:=u j v D;rw [qg]at this;simpa using this) hc.one f1 f3.symm
  refine⟨_,h2,fun v I=>?_⟩
  rw [Y v I]
  have:=V.zO (c:=cap) y N (by simpa using Q)
  simpa using this
theorem xl.close{sz i o:Nat}{es:List PD}{xs:List Value}{p:PD}{u:Value}(hf:xl S sz es xs i o)(hi:i<es.length)(ho:o<sz)(hp:p.one=true)(hu:xs[i*sz+o]? =some u)(B:V S p u):
  Flat S sz (es.set i ((es.getD i default).put o [p])) xs:=by
 have r:es[i]? =some es[i]:=zd hi
 have z:es.getD i default=es[i]:=by simp [List.getD,r]
 rw [z]
 have l:es[i].cells.length=sz:=hf.len _ (C9 hi)
 obtain⟨t,y⟩:=PD.zi es[i] o [p] so (by simpa using hp)
 refine⟨fun e he=>?_,hf.one,fun k e j x h1 a=>?_⟩
 ·rcases List.mem_or_eq_of_mem_set he with he|rfl
  ·exact hf.len e he
  ·rw [t,l]
 ·rw [CQ]at h1
  by_cases c:i=k
  ·subst c
   rw [if_pos rfl,if_pos hi]at h1
   cases h1
   rw [y]at a
   simp only [List.length_singleton]at a
   by_cases g:o<=j∧j<o+1
   ·rw [if_pos g]at a
    obtain rfl:j=o:=by omega
    simp only [Nat.sub_self,CP,B7]at a
    subst a
    exact⟨u,hu,B⟩
   ·rw [if_neg g]at a
    exact hf.cell i _ j x r a (fun q=>g za)
  ·rw [if_neg c]at h1
   exact hf.cell k e j x h1 a (fun q=>c q.1.symm)
theorem Sim.opn(h:Sim P X S loc s tm w){id ver i o:Nat}{e:TypeId}{es:List PD}{x c:PD}(a:s.boxes id=some (.arr ver e es))(l:es[i]? =some x)(hc:x.cells[o]? =some c):
  ∃loc',Sim P X S loc' { s with boxes:=fun k=>if k=id then some (.hole ver e es i o (.d c))else s.boxes k } tm w:=by
 obtain⟨L,p,r⟩:=h.boxes id _ a
 cases r with
 |arr _ _ _ sz hdr xs g how hf=>
 obtain⟨u,hu,t⟩:=hf.cell i x o c l hc
 have ho:o<sz:=by rw [<-hf.len x (List.mem_of_getElem? l)];exact(List.getElem?_eq_some_iff.1 hc).1
 exact ⟨_, h.qh (Step.refl none w) id (.hole ver e es i o (.d c)) (.arr ver e sz hdr) (fun b hc => by cases hc)
  (.hole ver e es i o (.d c) sz hdr xs u g how ⟨hf.len,hf.one,fun k e j x h1 q _=>hf.cell k e j x h1 q⟩ (List.getElem?_eq_some_iff.1 l).1 ho hu (.d t)) (fun b a=>.inl ⟨_,p,a⟩) (by rw [p];exact .same _)⟩
theorem Sim.clsD(h:Sim P X S loc s tm w){id ver i o:Nat}{e:TypeId}{es:List PD}{c:PD}(a:s.boxes id=some (.hole ver e es i o (.d c)))(hc:c.one=true):
  ∃loc',Sim P X S loc' { s with boxes:=fun k=>if k=id then some (.arr ver e (es.set i ((es.getD i default).put o [c])))else s.boxes k } tm w:=by
 obtain⟨L,j,l⟩:=h.boxes id _ a
 cases l with
 |hole _ _ _ _ _ _ sz hdr xs u g how hf hi ho hu p=>
 cases p with
 |d q=>
 exact ⟨_, h.qh (Step.refl none w) id (.arr ver e (es.set i ((es.getD i default).put o [c]))) (.arr ver e sz hdr) (fun b hc => by cases hc)
  (.arr ver e _ sz hdr xs g (by rw [Dc];exact how) (hf.close hi ho hc hu q)) (fun b a=>.inl ⟨_,j,a⟩) (by rw [j];exact .same _)⟩
theorem Sim.clsR(h:Sim P X S loc s tm w){id k ver q i o:Nat}{e B:TypeId}{es a:List PD}(p:s.boxes id=some (.hole ver e es i o (.ref k q)))(hk:s.boxes k=some (.arr q B a))(c:k≠id):
  ∃S' loc',Sim P X S' loc' { s with boxes:=fun j=>if j=k then some .dead else if j=id then some (.arr ver e (es.set i ((es.getD i default).put o [.lst a])))else s.boxes j } tm w:=by
 obtain⟨S',h1,hs,G,y⟩:=h.wM hk
 have C:upd s.boxes k .dead id=some (.hole ver e es i o (.ref k q)):=by rw [p6 _ _ (Ne.symm c)];exact p
 obtain⟨F,t,r⟩:=h.boxes id _ p
 cases r with
 |hole _ _ _ _ _ _ sz hdr xs u z how hf hi ho hu D=>
 have E:V S' (.lst a) u:=(y q B a hk).1 u D
 have g:upd loc k .dead id=some (.arr ver e sz hdr):=by rw [p6 _ _ (Ne.symm c)];exact t
 have l:=h1.qh (Step.refl none w) id (.arr ver e (es.set i ((es.getD i default).put o [.lst a]))) (.arr ver e sz hdr) (fun b hc=>by cases hc)
  (.arr ver e _ sz hdr xs z (by rw [Dc];exact how) ((hf.mono hs).close hi ho rfl hu E)) (fun b p=>.inl ⟨_,g,p⟩) (by rw [g];exact .same _)
 refine⟨S',upd (upd loc k .dead) id (.arr ver e sz hdr),?_⟩
 have x:(fun j=>if j=k then some Box.dead else if j=id then some (.arr ver e (es.set i ((es.getD i default).put o [.lst a])))else s.boxes j)=upd (upd s.boxes k .dead) id (.arr ver e (es.set i ((es.getD i default).put o [.lst a]))):=by
  funext j
  simp only [upd]
  by_cases h1:j=k
  ·subst h1;simp [c]
  ·by_cases l:j=id
   ·subst l;simp [h1]
   ·simp [h1,l]
 rw [x]
 exact l
theorem zC{nb:Nat}(c7:∀k b,X.par k=some b->k<nb∧∀ver e sz hdr,b.Row ver e sz hdr->ver=0){g:vU}{s':St}(a:qV P nb s g=some s')(h:Sim P X S loc s tm w):∃S' loc',Sim P X S' loc' s' tm w:=by
 cases g with
 |cI rs bs=>
  simp only [qV]at a
  rcases h1:gets s.pI rs with _|l
  ·simp [h1]at a
  rcases D:gets s.boxes bs with _|m
  ·simp [h1,D]at a
  simp only [h1,D]at a
  split at a
  rotate_left
  ·cases a
  rename_i g4
  cases a
  obtain⟨l1,_⟩:=w5 h1
  obtain⟨m1,m2⟩:=w5 D
  let loc':pY:=fun id=>if bs.contains id then(loc id).map (pL (pV nb id))else none
  have K:∀id Q,loc' id=some Q->bs.contains id=true∧∃L,loc id=some L∧Q=pL (pV nb id) L:=by
   intro id Q F
   simp only [loc']at F
   split at F
   ·rename_i hm
    rw [Di]at F
    obtain⟨L,h3,rfl⟩:=F
    exact⟨hm,L,h3,rfl⟩
   ·cases F
  have C:u6 ⟨fun id=>if bs.contains id then some id else none,qk s.boxes (pV nb)⟩ loc loc':=by
   refine u6.mk' (P:=P) (S:=S) (w:=w) h.boxes fun id k L hp F=>?_
   try simp only at hp
   split at hp
   ·rename_i hm
    cases hp
    simp only [loc',hm,if_true,F,Cs]
   ·cases hp
  have E := h.mem.ren (loc' := loc') (b' := assoc (m.map fun x => (x.1, rJ ⟨fun id => if bs.contains id then some id else none, qk s.boxes (pV nb)⟩ (pV nb x.1) x.2))) C (fun k f4 hk => by
    obtain⟨b0,hm,rfl⟩:=xT (fun k b=>rJ ⟨fun id=>if bs.contains id then some id else none,qk s.boxes (pV nb)⟩ (pV nb k) b) hk
    obtain⟨d5,c5⟩:=m1 _ hm
    simp only at d5 c5
    have e1:bs.contains k=true:=by simpa using c5
    exact⟨k,b0,pV nb k,by simp [c5],d5,rfl,fun L F=>by simp only [loc',e1,if_true,F,Cs]⟩) (fun k Q hk=>by
    obtain⟨hm,L,h3,rfl⟩:=K k Q hk
    refine⟨?_,k,L,_,by simp only [hm,if_true],h3,rfl⟩
    obtain⟨v,G⟩:=m2 k (by simpa using hm)
    exact xU (fun k b=>rJ ⟨fun id=>if bs.contains id then some id else none,qk s.boxes (pV nb)⟩ (pV nb k) b) G)
  refine⟨S,loc',h.nt,?_,E.boxes,E.dom,h.imm,h.ti,E.rK,E.inj,?_,h.frame,h.s0,?_,h.uY,h.bs,h.ob⟩
  ·intro t rv J
   obtain⟨v0,hm,rfl⟩:=yU (qC ⟨fun id=>if bs.contains id then some id else none,qk s.boxes (pV nb)⟩) J
   obtain⟨v,G,d0⟩:=h.pI t v0 (l1 _ hm).1
   exact⟨v,G,R.qC C d0⟩
  ·intro id Q b F y
   obtain⟨_,L,hl,rfl⟩:=K id Q F
   rw [sl]at y
   exact h.own id L b hl y
  ·intro k L0 hk
   have a6:=(c7 k L0 hk).1
   have:=List.all_eq_true.1 g4 k (List.mem_range.2 a6)
   obtain⟨L,h3,h4⟩:=h.par k L0 hk
   exact⟨pL (pV nb k) L,by simp only [loc',this,if_true,h3,Cs],BC a6 (c7 k L0 hk).2 h4⟩
 |own t id e=>
  simp only [qV]at a
  split at a
  ·rename_i k J y hk
   cases a
   obtain⟨loc',h1,D,_⟩:=h.vv y (Step.refl none w) hk (hdr:= .slice none 0 0) (es:=[]) (xs:=[]) (.inl (.of (World.ownsRow_nil w 0 e _))) (Flat.nil S _) (fun g a=>by cases a) rfl
   refine⟨S,loc',?_⟩
   refine h1.uM _ fun x rv O=>?_
   split at O
   ·rename_i Y
    subst Y
    cases O
    obtain⟨v,G,C⟩:=h.pI x _ J
    cases C with
    |px=>exact⟨_,G,D⟩
   ·exact h1.pI x rv O
  ·cases a
   exact⟨S,loc,h⟩
  ·cases a
 |freeze t=>
  simp only [qV]at a
  rcases J:s.pI t with _|rv
  ·simp [J]at a
  rw [J]at a
  cases rv<;>first|(simp at a;done)|skip
  rename_i id ver
  simp only at a
  rcases y:s.boxes id with _|N
  ·simp [y]at a
  rw [y]at a
  cases N<;>first|(simp at a;done)|skip
  rename_i B e es
  simp only at a
  by_cases z:ver=B
  rotate_left
  ·simp [z]at a
  subst z
  simp only [if_true,B7]at a
  subst a
  obtain⟨S',h1,hs,hl,G⟩:=h.wM y
  have G:=fun v C=>(G ver e es y).1 v C
  refine⟨S',_,h1.uM _ fun x rv O=>?_⟩
  split at O
  ·rename_i Y
   subst Y
   cases O
   obtain⟨v,d2,C⟩:=h.pI x _ J
   exact⟨v,d2,.d (G v C)⟩
  ·exact h1.pI x rv O
 |frz p=>
  simp only [qV]at a
  rcases hp:sg s p with _|rv
  ·simp [hp]at a
  rw [hp]at a
  cases rv<;>first|(simp at a;done)|skip
  ·simp only [B7]at a
   subst a
   exact⟨S,loc,h⟩
  ·simp only [B7]at a
   subst a
   exact⟨S,loc,h.sQ hp fun v C=>by cases C;exact .d (.nil _ _)⟩
  ·rename_i id ver
   simp only at a
   rcases y:s.boxes id with _|N
   ·simp [y]at a
   rw [y]at a
   cases N<;>first|(simp at a;done)|skip
   rename_i B e es
   simp only at a
   by_cases z:ver=B
   rotate_left
   ·simp [z]at a
   subst z
   simp only [if_true,B7]at a
   subst a
   obtain⟨S',h1,hs,hl,G⟩:=h.wM y
   have G:=fun v C=>(G ver e es y).1 v C
   have I:({ s with boxes:=upd s.boxes id .dead }:St)={ s with boxes:=fun i=>if i=id then some .dead else s.boxes i }:=rfl
   rw [I]at h1
   have h7:sg ({ s with boxes:=fun i=>if i=id then some .dead else s.boxes i }:St) p=some (.ref id ver):=uo hp fun off e=>by
    subst e
    simp only [sg,y]at hp
    cases hp
   cases p with
   |reg t=>
    refine⟨S',_,h1.uM _ fun x rv O=>?_⟩
    split at O
    ·rename_i Y
     subst Y
     cases O
     obtain⟨v,d2,C⟩:=h.pI x _ hp
     exact⟨v,d2,.d (G v C)⟩
    ·exact h1.pI x rv O
   |cell i off=>
    have W:i≠id:=fun e=>by
     subst e
     simp only [sg,y]at hp
     cases hp
    simp only [sg]at hp
    rcases a8:s.boxes i with _|N
    ·simp [a8]at hp
    rw [a8]at hp
    cases N with
    |arr _ _ _=>cases hp
    |dead=>cases hp
    |map _ _ _=>cases hp
    |nest _ _ _ _ _=>cases hp
    |hole _ _ _ _ _ _=>cases hp
    |var cs=>
     simp only at hp
     simp only [Dw.sQ,W,if_false,a8]
     refine⟨S',_,h1.nt,h1.pI,fun j N hj=>?_,fun j L F=>?_,h1.imm,h1.ti,h1.rK,h1.inj,h1.own,h1.frame,h1.s0,h1.par,h1.uY,h1.bs,h1.ob⟩
     ·simp only at hj
      by_cases a9:j=i
      ·subst a9
       simp only [if_true]at hj
       cases hj
       obtain⟨L,F,hB⟩:=h.boxes j _ a8
       obtain⟨Q,a5,f5⟩:=h1.boxes j (.var cs) (by simp only [W,if_false];exact a8)
       refine⟨Q,a5,?_⟩
       have f6:Q=L:=by
        rw [p6 _ _ W,F]at a5
        exact(DS a5).symm
       subst f6
       cases hB with
       |var _ b t vs hw g7 hc=>
        cases f5 with
        |var _ _ t' h8 f2 h6 g0=>
         rw [hw]at f2
         cases f2
         exact .var _ b t vs hw (by simpa using g7) (R.xZ g0 fun v b6=>.d (G v (hc off _ v hp b6)))
      ·simp only [a9,if_false]at hj
       exact h1.boxes j N hj
     ·obtain⟨N,c3⟩:=h1.dom j L F
      by_cases a9:j=i
      ·subst a9;exact⟨_,if_pos rfl⟩
      ·exact⟨N,by simp only [a9,if_false];exact c3⟩
 |ownp p id e=>
  simp only [qV]at a
  split at a
  ·rename_i k hp y hk
   cases a
   obtain⟨loc',h1,D,_⟩:=h.vv y (Step.refl none w) hk (hdr:= .slice none 0 0) (es:=[]) (xs:=[]) (.inl (.of (World.ownsRow_nil w 0 e _))) (Flat.nil S _) (fun g a=>by cases a) rfl
   have I:({ s with boxes:=upd s.boxes id (.arr 0 e []) }:St)={ s with boxes:=fun i=>if i=id then some (.arr 0 e [])else s.boxes i }:=rfl
   refine⟨S,loc',Sim.sQ (s:={ s with boxes:=fun i=>if i=id then some (.arr 0 e [])else s.boxes i }) h1 (uo hp fun off he=>?_) fun v C=>?_⟩
   ·subst he
    simp only [sg,y]at hp
    cases hp
   ·cases C with
    |px=>exact D
  ·cases a
   exact⟨S,loc,h⟩
  ·cases a
 |mv p new=>
  simp only [qV]at a
  rcases hp:sg s p with _|rv
  ·simp [hp]at a
  rw [hp]at a
  cases rv<;>first|(simp at a;done)|(simp only [B7]at a;subst a;exact⟨S,loc,h⟩)|skip
  rename_i id ver
  simp only at a
  by_cases c4:id=new
  ·rw [if_pos c4]at a;cases a;exact⟨S,loc,h⟩
  rw [if_neg c4]at a
  by_cases e5:nb<=id∧nb<=new
  rotate_left
  ·rw [if_neg e5]at a;cases a
  rw [if_pos e5]at a
  simp only [B7]at a
  subst a
  let pos:Nat->Option Nat:=fun i=>if i=id then some new else if i=new then none else some i
  let loc':pY:=fun k=>if k=new then loc id else if k=id then none else loc k
  have sv:∀L:Loc,pL (fun c=>c) L=L:=fun L=>BX L fun _=>rfl
  have e6:∀i k L,pos i=some k->loc i=some L->loc' k=some L:=by
   intro i k L h1 D
   simp only [pos]at h1
   split at h1
   ·rename_i e;subst e;cases h1;simp only [loc',if_true];exact D
   ·split at h1
    ·cases h1
    ·rename_i n1 n2;cases h1;simp only [loc',n1,n2,if_false];exact D
  have C:u6 ⟨pos,qk s.boxes fun _ c=>c⟩ loc loc':=u6.mk' (P:=P) (S:=S) (w:=w) h.boxes fun i k L h1 D=>by rw [sv];exact e6 i k L h1 D
  have b4:∀k,(∃i,pos i=some k∧∀α(f:Nat->Option α),(if k=new then f id else if k=id then none else f k)=f i)∨(k=id):=by
   intro k
   by_cases h1:k=new
   ·subst h1;exact .inl ⟨id,by simp only [pos,if_true],fun α f=>if_pos rfl⟩
   ·by_cases D:k=id
    ·exact .inr D
    ·exact .inl ⟨k,by simp only [pos,h1,D,if_false],fun α f=>by rw [if_neg h1,if_neg D]⟩
  have T:∀α(f:Nat->Option α),(if id=new then f id else if id=id then none else f id)=none:=fun α f=>by rw [if_neg c4,if_pos rfl]
  have E:=h.mem.ren (loc':=loc') (b':=fun i=>if i=new then(s.boxes id).map (rJ ⟨pos,qk s.boxes fun _ c=>c⟩ fun c=>c)else if i=id then none else(s.boxes i).map (rJ ⟨pos,qk s.boxes fun _ c=>c⟩ fun c=>c)) C
   (fun k f4 hk => by
    rcases b4 k with⟨i,h1,D⟩|rfl
    ·have hk:=(D _ fun i=>(s.boxes i).map (rJ ⟨pos,qk s.boxes fun _ c=>c⟩ fun c=>c)).symm.trans hk
     rw [Di]at hk
     obtain⟨b0,h3,rfl⟩:=hk
     exact⟨i,b0,fun c=>c,h1,h3,rfl,fun L F=>by rw [sv];exact e6 i k L h1 F⟩
    ·have:=(T _ fun i=>(s.boxes i).map (rJ ⟨pos,qk s.boxes fun _ c=>c⟩ fun c=>c)).symm.trans hk
     cases this)
   (fun k Q hk => by
    rcases b4 k with⟨i,h1,D⟩|rfl
    ·have e3:loc i=some Q:=(D _ loc).symm.trans hk
     obtain⟨N,c3⟩:=h.dom i Q e3
     refine⟨⟨rJ ⟨pos,qk s.boxes fun _ c=>c⟩ (fun c=>c) N,?_⟩,i,Q,fun c=>c,h1,e3,(sv Q).symm⟩
     rw [D _ fun i=>(s.boxes i).map (rJ ⟨pos,qk s.boxes fun _ c=>c⟩ fun c=>c),c3]
     rfl
    ·have:=(T _ loc).symm.trans hk
     cases this)
  refine⟨S,loc',h.nt,fun t rv J=>?_,E.boxes,E.dom,h.imm,h.ti,E.rK,E.inj,fun k L b F y=>?_,h.frame,h.s0,fun k L0 hk=>?_,h.uY,h.bs,h.ob⟩
  ·simp only [Di]at J
   obtain⟨c0,h1,rfl⟩:=J
   obtain⟨v,G,d0⟩:=h.pI t c0 h1
   exact⟨v,G,R.qC C d0⟩
  ·rcases b4 k with⟨i,h1,D⟩|rfl
   ·exact h.own i L b ((D _ loc).symm.trans F) y
   ·have:=(T _ loc).symm.trans F
    cases this
  ·have a6:=(c7 k L0 hk).1
   obtain⟨L,h3,h4⟩:=h.par k L0 hk
   refine⟨L,?_,h4⟩
   have n1:k≠new:=by omega
   have n2:k≠id:=by omega
   simp only [loc',n1,n2,if_false]
   exact h3
 |fixv id=>
  simp only [qV]at a
  rcases y:s.boxes id with _|N
  ·simp [y]at a
  rw [y]at a
  cases N<;>first|(simp at a;done)|skip
  rename_i cs
  simp only at a
  rcases ha:u9 cs with _|ps
  ·simp [ha]at a
  simp only [ha]at a
  by_cases b3:ps.all PD.one=true
  rotate_left
  ·rw [if_neg b3]at a;cases a
  rw [if_pos b3]at a
  simp only [B7]at a
  subst a
  have g5:=uu ha
  subst g5
  obtain⟨L,F,hB⟩:=h.boxes id _ y
  cases hB with
  |var _ b t vs hw hl hc=>
  have b6:∀(i:Nat)p u,ps[i]? =some p->vs[i]? =some u->V S p u:=fun i p u h1 D=>by
   have:=hc i (.d p) u (by simp [h1]) D
   cases this with|d h=>exact h
  have hlen:vs.size=ps.length:=by simpa using hl
  have h1:∀u∈vs,u.oneCell'=true:=fun u hu=>by
   obtain⟨i,hi,rfl⟩:=Array.getElem_of_mem hu
   have e0:i<ps.length:=by omega
   exact((b6 i ps[i] vs[i] (zd e0) (Cc hi)).tf (List.all_eq_true.1 b3 _ (C9 e0))).1
  obtain⟨k1,k2,k3⟩:=h.Bv y F hw h1
  have I:({ s with boxes:=upd s.boxes id .dead }:St)={ s with boxes:=fun i=>if i=id then some .dead else s.boxes i }:=rfl
  rw [I]at k1
  refine⟨_,_,k1.uM (fun t=>(s.pI t).map (fixRV id ps)) fun t rv J=>?_⟩
  rw [Di]at J
  obtain⟨c0,D,rfl⟩:=J
  obtain⟨v,G,C⟩:=h.pI t c0 D
  obtain⟨v',f0,e9⟩:=k1.pI t c0 D
  rw [G]at f0
  cases f0
  refine⟨v,G,?_⟩
  unfold fixRV
  split
  ·rename_i i off
   split
   ·rename_i hi
    subst hi
    cases C with
    |ptr _ _ _ L2 ho d3 hp=>
     rw [F]at d3
     cases d3
     rw [(hp b).1 rfl]
     have d4:∀(j:Nat)c,(ps.drop off)[j]? =some c->∃u,vs[off+j]? =some u∧V S c u:=fun j c hj=>by
      rw [List.getElem?_drop]at hj
      have a6:off+j<vs.size:=by rw [hlen];exact(List.getElem?_eq_some_iff.1 hj).1
      exact⟨_,Cc a6,b6 _ c _ hj (Cc a6)⟩
     refine .cptr _ b off (fun j=>(vs[off+j]?).getD default) (fun j c hj=>?_) fun j c hj=>?_
     ·obtain⟨u,hu,_⟩:=d4 j c hj
      rw [k3 _ u hu,hu];rfl
     ·obtain⟨u,hu,g9⟩:=d4 j c hj
      rw [hu]
      exact g9.mono k2
   ·exact e9
  ·exact e9
 |bump t=>
  simp only [qV]at a
  rcases J:s.pI t with _|rv
  ·simp [J]at a
  rw [J]at a
  cases rv<;>first|(simp at a;done)|skip
  rename_i id ver
  simp only at a
  rcases y:s.boxes id with _|N
  ·simp [y]at a
  rw [y]at a
  cases N<;>first|(simp at a;done)|skip
  rename_i B e es
  simp only at a
  by_cases z:ver=B
  rotate_left
  ·simp [z]at a
  subst z
  simp only [if_true,B7]at a
  subst a
  obtain⟨v,G,C⟩:=h.pI t _ J
  obtain⟨sz,xs,K,d1,how,hf⟩:=h.tT y C
  have ho:v.oneCell'=true:=by cases C with|ref _ _ _ _ ho=>exact ho
  have b5:pN (loc id) (.arr (ver+1) e sz v):=by
   rw [K]
   exact .arr za
  have a7:=h.qh (Step.refl none w) id (.arr (ver+1) e es) (.arr (ver+1) e sz v) (fun b hc=>by cases hc) (.arr (ver+1) e es sz v xs d1 how hf) (fun b c2=>.inl ⟨_,K,c2⟩) b5
  have I:({ s with boxes:=upd s.boxes id (.arr (ver+1) e es) }:St)={ s with boxes:=fun i=>if i=id then some (.arr (ver+1) e es)else s.boxes i }:=rfl
  rw [I]at a7
  refine⟨S,_,a7.uM _ fun x rv O=>?_⟩
  split at O
  ·rename_i Y
   subst Y
   cases O
   exact⟨v,G,.ref id (ver+1) v _ ho (pz _ _ _) fun B e' f3 c1 he=>by cases he;exact⟨B6 _,fun _=>rfl⟩⟩
  ·exact a7.pI x rv O
 |bumpp p=>
  simp only [qV]at a
  rcases J:sg s p with _|rv
  ·simp [J]at a
  rw [J]at a
  cases rv<;>first|(simp at a;done)|skip
  rename_i id ver
  simp only at a
  rcases y:s.boxes id with _|N
  ·simp [y]at a
  rw [y]at a
  cases N<;>first|(simp at a;done)|skip
  rename_i B e es
  simp only at a
  by_cases z:ver=B
  rotate_left
  ·simp [z]at a
  subst z
  simp only [if_true,B7]at a
  subst a
  obtain⟨L,F,hB⟩:=h.boxes id _ y
  cases hB with
  |arr _ _ _ sz hdr xs d1 how hf=>
  have b5:pN (loc id) (.arr (ver+1) e sz hdr):=by
   rw [F]
   exact .arr za
  have a7:=h.qh (Step.refl none w) id (.arr (ver+1) e es) (.arr (ver+1) e sz hdr) (fun b hc=>by cases hc) (.arr (ver+1) e es sz hdr xs d1 how hf) (fun b c2=>.inl ⟨_,F,c2⟩) b5
  have I:({ s with boxes:=upd s.boxes id (.arr (ver+1) e es) }:St)={ s with boxes:=fun i=>if i=id then some (.arr (ver+1) e es)else s.boxes i }:=rfl
  rw [I]at a7
  have c8:sg { s with boxes:=fun i=>if i=id then some (.arr (ver+1) e es)else s.boxes i } p=some (.ref id ver):=uo J fun off c9=>by
   subst c9
   simp only [sg,y]at J
   cases J
  refine⟨S,_,a7.plSet' c8 fun v G=>?_⟩
  have g8:PlAt loc tm w v p:=by
   cases p with
   |reg t=>exact G
   |cell i off=>
    obtain⟨b,vs,ty,h1,D,h3⟩:=G
    refine⟨b,vs,ty,?_,D,h3⟩
    by_cases hi:i=id
    ·subst hi;rw [pz]at h1;cases h1
    ·rwa [p6 _ _ hi]at h1
  have C:=h.plAt J v g8
  cases C with
  |ref _ _ _ Q ho a5 hc=>
   rw [F]at a5
   cases a5
   have:=(hc ver e sz hdr .arr).2 rfl
   subst this
   exact .ref id (ver+1) _ _ ho (pz _ _ _) fun B e' f3 c1 he=>by cases he;exact⟨B6 _,fun _=>rfl⟩
 |ownn p id e e2=>
  simp only [qV]at a
  split at a
  ·rename_i k hp y hk g6
   cases a
   have K:=h.pS y
   have b5:pN (loc id) (.nest 0 e 1 (.slice none 0 0) []):=by rw [K];trivial
   have h1:=h.qh (Step.refl none w) id (.nest 0 e e2 [] none) (.nest 0 e 1 (.slice none 0 0) []) (fun b hc=>by cases hc)
    (.nest 0 e e2 [] none _ [] [] hk ⟨k,g6⟩ (.inl (.of (World.ownsRow_nil w 0 e _))) .nil (by simp [pB]) (fun i rv e=>by cases e)) (fun b y=>by simp [Loc.has,pB]at y) b5
   have I:({ s with boxes:=upd s.boxes id (.nest 0 e e2 [] none) }:St)={ s with boxes:=fun i=>if i=id then some (.nest 0 e e2 [] none)else s.boxes i }:=rfl
   rw [I]at h1
   refine⟨S,_,Sim.sQ (s:={ s with boxes:=fun i=>if i=id then some (.nest 0 e e2 [] none)else s.boxes i }) h1 (uo hp fun off he=>?_) fun v C=>?_⟩
   ·subst he
    simp only [sg,y]at hp
    cases hp
   ·cases C with
    |px=>exact .ref id 0 _ _ rfl (pz _ _ _) fun B e' f3 c1 he=>by cases he;exact⟨B6 _,fun _=>rfl⟩
  ·cases a
   exact⟨S,loc,h⟩
  ·cases a
 |lend id i new=>
  simp only [qV]at a
  split at a
  rotate_left
  ·cases a
  rename_i ver e e2 ess y e4
  rcases c6:zM s ess i with _|⟨j,es⟩
  ·simp [c6]at a
  simp only [c6,B7]at a
  subst a
  exact h.lend y e4 (Bd c6)
 |give id=>
  simp only [qV]at a
  split at a
  ·rename_i ver e e2 ess i k kv y
   split at a
   rotate_left
   ·cases a
   rename_i h0 e' es hk
   split at a
   rotate_left
   ·cases a
   rename_i hc
   obtain⟨rfl,rfl,W⟩:=hc
   cases a
   exact⟨S,h.give y hk W⟩
  ·cases a
  ·cases a
   exact⟨S,loc,h⟩
 |frzn p=>
  simp only [qV]at a
  split at a
  ·rename_i id ver hp
   split at a
   rotate_left
   ·cases a
   rename_i B e e2 ess y
   split at a
   rotate_left
   ·cases a
   rename_i z
   subst z
   cases a
   obtain⟨S',h1,G⟩:=h.freezeN y
   have I:({ s with boxes:=upd s.boxes id .dead }:St)={ s with boxes:=fun i=>if i=id then some .dead else s.boxes i }:=rfl
   rw [I]at h1
   have c8:sg { s with boxes:=fun i=>if i=id then some .dead else s.boxes i } p=some (.ref id ver):=uo hp fun off c9=>by
    subst c9
    simp only [sg,y]at hp
    cases hp
   refine⟨S',_,h1.plSet' c8 fun v f1=>.d (G v (h.plAt hp v ?_))⟩
   cases p with
   |reg t=>exact f1
   |cell i off=>
    obtain⟨b,vs,ty,g1,g2,g3⟩:=f1
    refine⟨b,vs,ty,?_,g2,g3⟩
    by_cases hi:i=id
    ·subst hi;rw [pz]at g1;cases g1
    ·rwa [p6 _ _ hi]at g1
  ·rename_i hp
   cases a
   exact⟨S,loc,h.sQ hp fun v C=>by cases C;exact .d (.nil _ _)⟩
  ·cases a
   exact⟨S,loc,h⟩
  ·cases a
 |opn id r o=>
  simp only [qV]at a
  split at a
  rotate_left
  ·cases a
  rename_i ver e es q n y C
  split at a
  rotate_left
  ·cases a
  rename_i x O
  split at a
  rotate_left
  ·cases a
  rename_i c hc
  cases a
  exact⟨S,h.opn y O hc⟩
 |cls id=>
  simp only [qV]at a
  split at a
  ·rename_i ver e es i o c y
   split at a
   rotate_left
   ·cases a
   rename_i hc
   cases a
   exact⟨S,h.clsD y hc⟩
  ·rename_i ver e es i o k kv y
   split at a
   rotate_left
   ·cases a
   rename_i h0 e' h5 hk
   split at a
   rotate_left
   ·cases a
   rename_i hc
   obtain⟨rfl,W⟩:=hc
   cases a
   exact h.clsR y hk W
  ·cases a
  ·cases a
   exact⟨S,loc,h⟩
theorem wN{nb:Nat}(a:∀k b,X.par k=some b->k<nb∧∀ver e sz hdr,b.Row ver e sz hdr->ver=0):∀(gs:List vU){s s':St}{S:pr}{loc:pY},pK P nb s gs=some s'->Sim P X S loc s tm w->∃S' loc',Sim P X S' loc' s' tm w
 | [],s,s',S,loc,h,hs=>by simp only [pK,B7]at h;subst h;exact⟨S,loc,hs⟩
 |g::gs,s,s',S,loc,h,hs=>by
  simp only [pK]at h
  rcases h1:qV P nb s g with _|s1
  ·simp [h1]at h
  simp only [h1]at h
  obtain⟨S1,j,c⟩:=zC a h1 hs
  exact wN a gs h c
end
def Ex.out:Ex->Exit
 | .normal=>.normal
 | .exit id=>.exit id
 | .ret=>.ret
section
variable {P:Program}{X:Ctx}{H:Hints}{f:FuncId}{nb:Nat}{call:pA}{fuel:Nat}
theorem vW{c:Code}{body:St->Option (Ex×St)}{Q:Exit->Act->World->Prop}
  (g:∀{s:St}{e:Ex}{s':St}{a:Act}{w:World}{Q:Exit->Act->World->Prop},body s=some (e,s')->tS P X s a w->(∀k w',tS P X s' k w'->Q e.out k w')->c.wp P Q a w):
  ∀(n:Nat){s:St}{e:Ex}{s':St}{a:Act}{w:World},uz body n s=some (e,s')->tS P X s a w->(∀k w',tS P X s' k w'->Q e.out k w')->Code.rounds P c Q n a w
 |0,s,e,s',a,w,h,_,_=>by simp [uz]at h
 |n+1,s,e,s',a,w,h,hS,l=>by
  simp only [uz]at h
  rcases h1:body s with _|⟨p,s1⟩
  ·simp [h1]at h
  rw [h1]at h
  rw [rounds_succ]
  cases p with
  |normal=>
   simp only at h
   exact g h1 hS fun k w' j=>vW g n h j l
  |exit id=>
   simp only [B7,B9]at h
   obtain⟨rfl,rfl⟩:=h
   exact g h1 hS fun k w' j=>l k w' j
  |ret=>
   simp only [B7,B9]at h
   obtain⟨rfl,rfl⟩:=h
   exact g h1 hS fun k w' j=>l k w' j
theorem qi(g:rN P X.base call)(hm:P.follows .mixedOrders=true)(q:∀k b,X.par k=some b->k<nb∧∀ver e sz hdr,b.Row ver e sz hdr->ver=0):∀(c:Code){s:St}{e:Ex}{s':St}{a:Act}{w:World}{Q:Exit->Act->World->Prop},
  wJ X.nt c=true->pM P H f nb call fuel c s=some (e,s')->tS P X s a w->(∀u w',tS P X s' u w'->Q e.out u w')->c.wp P Q a w
 | .skip,s,e,s',a,w,Q,_,h,hS,l=>by
  simp only [pM,B7,B9]at h
  obtain⟨rfl,rfl⟩:=h
  exact wp_skip (l a w hS)
 | .region id ops I,s,e,s',a,w,Q,r,h,hS,l=>by
  simp only [pM]at h
  rcases h1:wL P H f nb call id ops I s with _|s1
  ·simp [h1]at h
  simp only [h1,B7,B9]at h
  obtain⟨rfl,rfl⟩:=h
  unfold wL at h1
  rcases K:pK P nb s (H.at_ f nb id)with _|s0
  ·simp [K]at h1
  simp only [K]at h1
  rcases L:qZ P (H.hf f) call ops ops.toList s0 with _|⟨s2,ts⟩
  ·simp [L]at h1
  simp only [L]at h1
  obtain⟨D,S,loc,z⟩:=hS
  obtain⟨S',loc',C⟩:=wN q _ K z
  have E:DstIn X.nt ops:=by
   intro i o ho d N
   have:=Array.all_eq_true_iff_forall_mem.1 (show(ops.all fun o=>match o.dst with|some d=>decide (d<X.nt)|none=>true)=true from r) o (Array.mem_of_getElem? ho)
   simpa [N]using this
  have T:s2=s1∧(I=true->sJ ops ts=true):=by
   cases I with
   |true=>
    simp only [if_true]at h1
    split at h1
    ·rename_i O;cases h1;exact⟨rfl,fun _=>O⟩
    ·cases h1
   |false=>simp only [Cb,if_false,B7]at h1;exact⟨h1,fun h=>by cases h⟩
  obtain⟨rfl,F⟩:=T
  exact zP g hm E L F ⟨D,S',loc',C⟩ l
 | .seq x y,s,e,s',a,w,Q,r,h,hS,l=>by
  simp only [wJ,C4]at r
  simp only [pM]at h
  rcases h1:pM P H f nb call fuel x s with _|⟨J,s1⟩
  ·simp [h1]at h
  rw [h1]at h
  refine wp_seq ?_
  cases J with
  |normal=>
   simp only at h
   exact qi g hm q x r.1 h1 hS fun u w' j=>qi g hm q y r.2 h j l
  |exit id=>
   simp only [B7,B9]at h
   obtain⟨rfl,rfl⟩:=h
   exact qi g hm q x r.1 h1 hS fun u w' j=>l u w' j
  |ret=>
   simp only [B7,B9]at h
   obtain⟨rfl,rfl⟩:=h
   exact qi g hm q x r.1 h1 hS fun u w' j=>l u w' j
 | .cond c x y,s,e,s',a,w,Q,r,h,hS,l=>by
  simp only [wJ,C4]at r
  simp only [pM]at h
  rcases h1:s.opd c with _|rv
  ·simp [h1]at h
  rw [h1]at h
  rcases rv with p|_|_|_|_|_|_|_|_|_|_|_|_<;>first|(simp at h;done)|skip
  cases p<;>first|(simp at h;done)|skip
  rename_i t
  have j:=hS
  obtain⟨D,S,loc,z⟩:=j
  have G:=(z.opd h1).ss
  cases t with
  |true=>
   simp only [if_true]at h
   exact wp_cond_true G (qi g hm q x r.1 h hS l)
  |false=>
   simp only [Cb,if_false]at h
   exact wp_cond_false G (qi g hm q y r.2 h hS l)
 | .block id x,s,e,s',a,w,Q,r,h,hS,l=>by
  simp only [pM]at h
  rcases h1:pM P H f nb call fuel x s with _|⟨J,s1⟩
  ·simp [h1]at h
  rw [h1]at h
  refine wp_block (qi g hm q x r h1 hS fun u w' j=>?_)
  cases J with
  |normal=>
   simp only [B7,B9]at h
   obtain⟨rfl,rfl⟩:=h
   exact l u w' j
  |exit W=>
   simp only at h
   by_cases B:W=id
   ·simp only [B,if_true,B7,B9]at h
    obtain⟨rfl,rfl⟩:=h
    simp only [Ex.out,Exit.inBlock,B,if_true]
    exact l u w' j
   ·simp only [B,if_false,B7,B9]at h
    obtain⟨rfl,rfl⟩:=h
    simp only [Ex.out,Exit.inBlock,B,if_false]
    exact l u w' j
  |ret=>
   simp only [B7,B9]at h
   obtain⟨rfl,rfl⟩:=h
   exact l u w' j
 | .loop x,s,e,s',a,w,Q,r,h,hS,l=>by
  simp only [pM]at h
  exact wp_loop_rounds fuel (vW (fun G hS l=>qi g hm q x r G hS l) fuel h hS l)
 | .exit id,s,e,s',a,w,Q,_,h,hS,l=>by
  simp only [pM,B7,B9]at h
  obtain⟨rfl,rfl⟩:=h
  exact wp_exit (l a w hS)
 | .ret,s,e,s',a,w,Q,_,h,hS,l=>by
  simp only [pM,B7,B9]at h
  obtain⟨rfl,rfl⟩:=h
  exact wp_ret (l a w hS)
 | .rangeFunc _ _ _ _,s,e,s',a,w,Q,_,h,_,_=>by simp [pM]at h
 | .scope x,s,e,s',a,w,Q,r,h,hS,l=>by
  simp only [pM]at h
  refine wp_scope_straight (qi g hm q x r h hS fun u w' j=>?_)
  have:=l u w' j
  cases e<;>exact this
 | .label _,s,e,s',a,w,Q,_,h,hS,l=>by
  simp only [pM,B7,B9]at h
  obtain⟨rfl,rfl⟩:=h
  exact wp_label (l a w hS)
 | .goto _,s,e,s',a,w,Q,_,h,_,_=>by simp [pM]at h
 | .refuse _,s,e,s',a,w,Q,_,h,_,_=>by simp [pM]at h
end
end Go.Dw
