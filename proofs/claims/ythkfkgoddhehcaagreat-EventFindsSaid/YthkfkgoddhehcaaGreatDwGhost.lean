
import Derived.Test.YthkfkgoddhehcaaGreatDwRegion
import Derived.Scope
set_option linter.unusedVariables false
set_option linter.unusedSimpArgs false
open Option.some renaming inj->Fg, injEq->EC
open List renaming getElem?_cons_zero->EV, map_cons->Fk, mem_append->GC, mem_singleton->GD, nil_append->E2, nodup_append->GF
open Nat renaming le_refl->EB, zero_min->GG
open Option renaming map_eq_some_iff->GH, map_some->FV, toList_some->GJ
open Array renaming getElem?_eq_getElem->FE
open Prod.mk renaming injEq->EE
open Bool renaming and_eq_true->E8, false_eq_true->FD

namespace Go.Dw
theorem An{α:Type}{f:Nat->Option α}:∀{ts:List Nat}{l:List (Nat×α)},gets f ts=some l->(∀x∈l,f x.1=some x.2∧x.1∈ts)∧∀t∈ts,∃v,(t,v)∈l
 | [],l,h=>by
  simp only [gets,EC]at h
  subst h
  exact⟨(λx a=>by cases a),(λt c=>by cases c)⟩
 |t::ts,l,h=>by
  simp only [gets]at h
  rcases h1:f t with _|v
  ·simp [h1]at h
  rcases g:gets f ts with _|r
  ·simp [h1,g]at h
  simp only [h1,g,EC]at h
  subst h
  obtain⟨g1,g2⟩:=An g
  refine⟨λx a=>?_,λt' c=>?_⟩
  ·rcases List.mem_cons.1 a with rfl|a
   ·exact⟨h1,zb⟩
   ·exact⟨(g1 x a).1,by simp [(g1 x a).2]⟩
  ·rcases List.mem_cons.1 c with rfl|c
   ·exact⟨v,zb⟩
   ·obtain⟨v',j⟩:=g2 t' c
    exact⟨v',by simp [j]⟩
theorem BN{α:Type}(g:α->α):∀{l:List (Nat×α)}{t:Nat}{v:α},assoc (l.map λx=>(x.1,g x.2)) t=some v->∃v0,(t,v0)∈l∧v=g v0
 | [],t,v,h=>by simp [assoc]at h
 |(k,a)::r,t,v,h=>by
  simp only [Fk,assoc]at h
  by_cases hk:t=k
  ·subst hk
   simp only [if_true,EC]at h
   exact⟨a,zb,h.symm⟩
  ·simp only [hk,if_false]at h
   obtain⟨v0,h1,c⟩:=BN g h
   exact⟨v0,by simp [h1],c⟩
theorem A9{α:Type}(g:Nat->α->α):∀{l:List (Nat×α)}{t:Nat}{v:α},assoc (l.map λx=>(x.1,g x.1 x.2)) t=some v->∃v0,(t,v0)∈l∧v=g t v0
 | [],t,v,h=>by simp [assoc]at h
 |(k,a)::r,t,v,h=>by
  simp only [Fk,assoc]at h
  by_cases hk:t=k
  ·subst hk
   simp only [if_true,EC]at h
   exact⟨a,zb,h.symm⟩
  ·simp only [hk,if_false]at h
   obtain⟨v0,h1,c⟩:=A9 g h
   exact⟨v0,by simp [h1],c⟩
theorem Ba{α:Type}(g:Nat->α->α):∀{l:List (Nat×α)}{t:Nat}{v:α},(t,v)∈l->∃v',assoc (l.map λx=>(x.1,g x.1 x.2)) t=some v'
 | [],t,v,h=>by cases h
 |(k,a)::r,t,v,h=>by
  simp only [Fk,assoc]
  by_cases hk:t=k
  ·exact⟨g k a,by simp [hk]⟩
  ·simp only [hk,if_false]
   rcases List.mem_cons.1 h with h|h
   ·cases h;exact(hk rfl).elim
   ·exact Ba g h
section
variable {P:Program}{X:Ctx}{S:tG}{loc:ui}{s:St}{tm:Array Value}{w:World}
theorem Sim.xW(h:Sim P X S loc s tm w)(a:Nat->Option RV)(c:∀t rv,a t=some rv->∃v,tm[t]? =some v∧R S loc rv v):Sim P X S loc { s with tT:=a } tm w:=
 ⟨h.nt,c,h.boxes,h.dom,h.imm,h.wU,h.vV,h.inj,h.own,h.frame,h.s0,h.par,h.yi,h.bs,h.ob⟩
theorem Es(L:Loc){f:Nat->Nat}(hf:∀v,f v=v):tV f L=L:=by cases L<;>simp [tV,hf]
theorem R.Be{cs:List RV}{vs:Array Value}{S:tG}{loc:ui}(hc:∀(i:Nat)c v,cs[i]? =some c->vs[i]? =some v->R S loc c v){off:Nat}{x:RV}(g:∀v,vs[off]? =some v->R S loc x v):
  ∀(i:Nat)c v,(cs.set off x)[i]? =some c->vs[i]? =some v->R S loc c v:=by
 intro i c v h1 a
 by_cases hi:off=i
 ·subst hi
  rw [List.getElem?_set]at h1
  simp only [if_true]at h1
  split at h1
  ·cases h1;exact g v a
  ·cases h1
 ·rw [List.getElem?_set_ne hi]at h1
  exact hc i c v h1 a
theorem Sim.wz(h:Sim P X S loc s tm w){p:Pl}{rv x:RV}(hp:wm s p=some rv)(z:∀v,R S loc rv v->R S loc x v):Sim P X S loc (Dw.wz s x p) tm w:=by
 cases p with
 |reg t=>
  refine h.xW _ λy u q=>?_
  split at q
  ·rename_i r
   subst r
   cases q
   obtain⟨v,l,D⟩:=h.tT y _ hp
   exact⟨v,l,z v D⟩
  ·exact h.tT y u q
 |cell id off=>
  simp only [wm]at hp
  rcases g:s.boxes id with _|c
  ·simp [g]at hp
  rw [g]at hp
  cases c with
  |arr _ _ _=>cases hp
  |dead=>cases hp
  |nest _ _ _ _ _=>cases hp
  |var cs=>
   simp only at hp
   simp only [Dw.wz,g]
   refine⟨h.nt,h.tT,λi c hi=>?_,λi L j=>?_,h.imm,h.wU,h.vV,h.inj,h.own,h.frame,h.s0,h.par,h.yi,h.bs,h.ob⟩
   ·simp only at hi
    split at hi
    ·rename_i a
     subst a
     cases hi
     obtain⟨L,j,B⟩:=h.boxes i _ g
     refine⟨L,j,?_⟩
     cases B with
     |var _ b t vs hw C hc=>
      exact .var _ b t vs hw (by simpa using C) (R.Be hc λv l=>z v (hc off rv v hp l))
    ·exact h.boxes i c hi
   ·obtain⟨c,k⟩:=h.dom i L j
    by_cases a:i=id
    ·subst a;exact⟨_,if_pos rfl⟩
    ·exact⟨c,by simp only [a,if_false];exact k⟩
theorem xE{id:Nat}{a:Box}{rv:RV}:∀{p:Pl},wm s p=some rv->(∀off,p≠ .cell id off)->wm { s with boxes:=λi=>if i=id then some a else s.boxes i } p=some rv
 | .reg t,h,_=>h
 | .cell i off,h,c=>by
  have:i≠id:=λe=>c off (by rw [e])
  simp only [wm,this,if_false]at h⊢
  exact h
theorem D4{nb k:Nat}(a:k<nb){g L:Loc}(c:∀ver e sz hdr,g.Row ver e sz hdr->ver=0)(h:wY g L):wY g (tV (ud nb k) L):=by
 cases h with
 |same=>
  cases g with
  |arr ver e sz hdr=>
   have:=c ver e sz hdr .arr
   subst this
   simp only [tV,ud,a,if_true,GG]
   exact .same _
  |nest ver e sz hdr bs=>
   have:=c ver e sz hdr .nest
   subst this
   simp only [tV,ud,a,if_true,GG]
   exact .same _
  |var b=>exact .same _
  |dead=>exact .same _
 |dead=>exact .dead _
 |arr j=>
  have:=c _ _ _ _ .arr
  subst this
  refine .arr ?_
  simp only [ud,a,if_true]
  omega
 |nest j=>
  have:=c _ _ _ _ .nest
  subst this
  refine .nest ?_
  simp only [ud,a,if_true]
  omega
 |held=>
  have:=c _ _ _ _ .nest
  subst this
  simp only [tV,ud,a,if_true,GG]
  exact .held
def PlAt(loc:ui)(tm:Array Value)(w:World)(v:Value):Pl->Prop
 | .reg t=>tm[t]? =some v
 | .cell id off=>∃b vs ty,loc id=some (.var b)∧w.heap[b]? =some (.cells vs ty (0,0))∧vs[off]? =some v
theorem Sim.plAt(h:Sim P X S loc s tm w){p:Pl}{rv:RV}(hp:wm s p=some rv):∀v,PlAt loc tm w v p->R S loc rv v:=by
 cases p with
 |reg t=>
  intro v a
  obtain⟨v',h1,c⟩:=h.tT t rv hp
  simp only [PlAt]at a
  rw [h1]at a
  cases a
  exact c
 |cell id off=>
  intro v a
  obtain⟨b,vs,ty,h1,c,l⟩:=a
  simp only [wm]at hp
  rcases g:s.boxes id with _|k
  ·simp [g]at hp
  rw [g]at hp
  cases k<;>simp only at hp<;>first|(cases hp;done)|skip
  obtain⟨L,j,q⟩:=h.boxes id _ g
  rw [h1]at j
  cases j
  cases q with
  |var _ b t r hw u hc=>
   rw [hw]at c
   cases c
   exact hc off rv v hp l
theorem Sim.plSet'(h:Sim P X S loc s tm w){p:Pl}{rv x:RV}(hp:wm s p=some rv)(z:∀v,PlAt loc tm w v p->R S loc x v):Sim P X S loc (Dw.wz s x p) tm w:=by
 cases p with
 |reg t=>
  refine h.xW _ λy u q=>?_
  split at q
  ·rename_i r
   subst r
   cases q
   obtain⟨v,k,D⟩:=h.tT y _ hp
   exact⟨v,k,z v k⟩
  ·exact h.tT y u q
 |cell id off=>
  simp only [wm]at hp
  rcases j:s.boxes id with _|c
  ·simp [j]at hp
  rw [j]at hp
  cases c<;>simp only at hp<;>first|(cases hp;done)|skip
  simp only [Dw.wz,j]
  refine⟨h.nt,h.tT,λi c hi=>?_,λi L g=>?_,h.imm,h.wU,h.vV,h.inj,h.own,h.frame,h.s0,h.par,h.yi,h.bs,h.ob⟩
  ·simp only at hi
   split at hi
   ·rename_i a
    subst a
    cases hi
    obtain⟨L,g,B⟩:=h.boxes i _ j
    refine⟨L,g,?_⟩
    cases B with
    |var _ b t vs hw C hc=>
     exact .var _ b t vs hw (by simpa using C) (R.Be hc λv k=>z v ⟨b,vs,t,g,hw,k⟩)
   ·exact h.boxes i c hi
  ·obtain⟨c,l⟩:=h.dom i L g
   by_cases a:i=id
   ·subst a;exact⟨_,if_pos rfl⟩
   ·exact⟨c,by simp only [a,if_false];exact l⟩
theorem DF{s:St}{ess:List (List PD)}{i:Option Nat}{j:Nat}{es:List PD}(h:yx s ess i=some (j,es)):ess[j]? =some es:=by
 unfold yx at h
 split at h
 ·split at h
  ·rename_i a;cases h;exact a
  ·cases h
 ·split at h
  ·split at h
   ·split at h
    ·rename_i a;cases h;exact a
    ·cases h
   ·cases h
  ·cases h
theorem Sim.Aw(h:Sim P X S loc s tm w){id:Nat}{L:Loc}(c:loc id=some L){b:Nat}(j:L.has b):
  (∀i a,i≠id->loc i=some a->¬a.has b)∧(∀o,S ⟨b,o,none⟩=none)∧(b∈X.B0∨X.w0.heap.size<=b):=
 ⟨λi a hi g k=>hi (h.inj i id a L b g c k j),λo=>h.vV id L b c j o,h.own id L b c j⟩
theorem Sim.lend(h:Sim P X S loc s tm w){id new ver j:Nat}{e e2:TypeId}{ess:List (List PD)}{es:List PD}(r:s.boxes id=some (.nest ver e e2 ess none))(y:s.boxes new=none)(hj:ess[j]? =some es):
  ∃S' loc',Sim P X S' loc' { s with boxes:=λk=>if k=new then some (.arr 0 e2 es)else if k=id then some (.nest ver e e2 ess (some (j,.ref new 0)))else s.boxes k } tm w:=by
 obtain⟨L,hL,hB⟩:=h.boxes id _ r
 have C:new≠id:=λe=>by rw [e,r]at y;cases y
 have K:j<ess.length:=(List.getElem?_eq_some_iff.1 hj).1
 cases hB with
 |nest _ _ _ _ _ hdr xs bs T Q how hc u hi=>
 obtain⟨v,b,p,bs2,rfl,I,h3,h4⟩:=hc.split (ncs_none (e2:=e2) hj)
 cases h3 with
 |row _ _ sz _ ys W E a7=>
 have t:v.oneCell'=true:=by obtain⟨a,c,rfl,_⟩:=E.hdr;rfl
 let l:Loc:= .nest ver e 1 hdr (p++bs2)
 have D:((tM hdr).toList++(p++bs2)).Nodup:=List.Nodup.sublist (List.Sublist.append (List.Sublist.refl _) (List.Sublist.append (List.Sublist.refl _) (List.sublist_append_right _ _))) u
 have N:∀b,l.has b->Loc.has (.nest ver e 1 hdr (p++((tM v).toList++bs2))) b:=λb r=>by
  simp only [l,Loc.has,GC]at r⊢
  rcases r with r|r|r
  ·exact .inl r
  ·exact .inr (.inl r)
  ·exact .inr (.inr (.inr r))
 have z:uc (loc id) l:=by rw [hL];exact .held
 have g0:=h4 (.val .junk) v [] (.val _ v (.junk v) t)
 rw [yA e2 ess none j .junk (λ_ _ e=>by cases e),E2]at g0
 have k1:=h.uO (Step.refl none w) id (.nest ver e e2 ess (some (j,.junk))) l (λb hc=>by cases hc)
  (.nest ver e e2 ess _ hdr (xs.set j v) (p++bs2) T Q (by rw [yH I];exact how) (g0.j0 (Sub.refl S) (tO.upd z) λ_ _=>rfl) D (λi rv e=>by cases e;exact K)) (λb r=>.inl ⟨_,hL,N b r⟩) z
 have Y:upd loc id l new=none:=by rw [uq _ _ C];exact h.uj y
 have F:uc (upd loc id l new) (.arr 0 e2 sz v):=by rw [Y];trivial
 have k2 := k1.uO (Step.refl none w) new (.arr 0 e2 es) (.arr 0 e2 sz v) (λb hc => by cases hc) (.arr 0 e2 es sz v ys W E a7) (λb x => by
  have a6:Loc.has (.nest ver e 1 hdr (p++((tM v).toList++bs2))) b:=by
   simp only [Loc.has,GC]at x⊢
   exact .inr (.inr (.inl (by rw [x];simp)))
  obtain⟨f1,f2,f3⟩:=h.Aw hL a6
  refine .inr (.inr ⟨λi L' B g=>?_,f2,f3⟩)
  by_cases J:i=id
  ·subst J
   rw [tJ]at B
   cases B
   have x:tM v=some b:=x
   have g:b∈(tM hdr).toList++(p++bs2):=g
   rw [x]at u
   simp only [GJ,GF,GC,GD]at u g
   rcases g with g|g|g
   ·exact u.2.2 b g b (.inr (.inl rfl)) rfl
   ·exact u.2.1.2.2 b g b (.inl rfl) rfl
   ·exact u.2.1.2.1.2.2 b rfl b g rfl
  ·rw [uq _ _ J]at B
   exact f1 i L' J B g) F
 have O:upd (upd loc id l) new (.arr 0 e2 sz v) id=some l:=by rw [uq _ _ (Ne.symm C)];exact tJ _ _ _
 have G:uc (upd (upd loc id l) new (.arr 0 e2 sz v) id) l:=by rw [O];exact .same _
 have hR:R S (upd (upd (upd loc id l) new (.arr 0 e2 sz v)) id l) (.ref new 0) v:= .ref new 0 v _ t (by rw [uq _ _ C];exact tJ _ _ _) λa9 e' b0 a8 he=>by cases he;exact⟨EB _,λ_=>rfl⟩
 have g2:NCs P S (upd (upd (upd loc id l) new (.arr 0 e2 sz v)) id l) w (ncs e2 ess (some (j,.ref new 0))) (xs.set j v) (p++bs2):=by
  have q:=g0.j0 (Sub.refl S) ((tO.upd z).trans ((tO.upd F).trans (tO.upd G))) λ_ _=>rfl
  exact q.reval K (by rw [yH I];exact I) hR t
 have k3:=k2.uO (Step.refl none w) id (.nest ver e e2 ess (some (j,.ref new 0))) l (λb hc=>by cases hc)
  (.nest ver e e2 ess _ hdr (xs.set j v) (p++bs2) T Q (by rw [yH I];exact how) g2 D (λi rv e=>by cases e;exact K)) (λb r=>.inl ⟨l,O,r⟩) G
 refine⟨S,upd (upd (upd loc id l) new (.arr 0 e2 sz v)) id l,?_⟩
 have a5:(λk=>if k=new then some (.arr 0 e2 es)else if k=id then some (.nest ver e e2 ess (some (j,.ref new 0)))else s.boxes k)=upd (upd (upd s.boxes id (.nest ver e e2 ess (some (j,.junk)))) new (.arr 0 e2 es)) id (.nest ver e e2 ess (some (j,.ref new 0))):=by
  funext k
  simp only [upd]
  by_cases h1:k=new
  ·subst h1;simp [C]
  ·by_cases I:k=id
   ·subst I;simp [h1]
   ·simp [h1,I]
 rw [a5]
 exact k3
theorem Sim.zm(h:Sim P X S loc s tm w){id k ver kv i:Nat}{e e2:TypeId}{ess:List (List PD)}{es:List PD}(c:s.boxes id=some (.nest ver e e2 ess (some (i,.ref k kv))))(hk:s.boxes k=some (.arr kv e2 es))(F:k≠id):
  ∃loc',Sim P X S loc' { s with boxes:=λj=>if j=k then some .dead else if j=id then some (.nest ver e e2 (ess.set i es) none)else s.boxes j } tm w:=by
 obtain⟨L,hL,hB⟩:=h.boxes id _ c
 obtain⟨Lk,D,Y⟩:=h.boxes k _ hk
 cases hB with
 |nest _ _ _ _ _ hdr xs bs b3 b0 how hc l hi=>
 cases Y with
 |arr _ _ _ sz K ys Q O a7=>
 have a8:=hi i _ rfl
 have z:uc (loc k) .dead:=by rw [D];exact .dead _
 have k1:=h.uO (Step.refl none w) k .dead .dead (λb hc=>by cases hc) (.dead _ rfl) (λb hc=>by cases hc) z
 have y:upd loc k .dead id=some (.nest ver e 1 hdr bs):=by rw [uq _ _ (Ne.symm F)];exact hL
 obtain⟨v,b,C,bs2,rfl,W,h3,h4⟩:=hc.split (Bw (e2:=e2) (rv:= .ref k kv) a8)
 cases h3 with
 |val _ _ hr h1=>
 have hv:v=K:=by
  cases hr with
  |ref _ _ _ G _ I a6=>
   rw [D]at I
   cases I
   exact(a6 _ _ _ _ .arr).2 rfl
 subst hv
 have r:∀b,tM v=some b->(∀i G,i≠k->loc i=some G->¬G.has b)∧(∀o,S ⟨b,o,none⟩=none)∧(b∈X.B0∨X.w0.heap.size<=b):=λb t=>h.Aw D t
 let T:Loc:= .nest ver e 1 hdr (C++((tM v).toList++bs2))
 have B:uc (upd loc k .dead id) T:=by rw [y];exact .held
 have g0:=h4 (.row e2 es) v (tM v).toList (.row e2 es sz v ys Q O a7)
 rw [CX,yH W]at g0
 have N:((tM hdr).toList++(C++((tM v).toList++bs2))).Nodup:=by
  rcases a9:tM v with _|g
  ·simpa using l
  ·have p:¬Loc.has (.nest ver e 1 hdr (C++([]++bs2))) g:=(r g a9).1 id _ (Ne.symm F) hL
   simp only [Loc.has,E2,GC,not_or]at p
   simp only [E2,GF,GC]at l
   simp only [GJ,GF,GC,GD]
   refine⟨l.1,⟨l.2.1.1,⟨zb,l.2.1.2.1,λa x b c q=>?_⟩,λa x b c q=>?_⟩,λa x b c q=>?_⟩
   ·subst x;subst q;exact p.2.2 c
   ·subst q
    rcases c with rfl|c
    ·exact p.2.1 x
    ·exact l.2.1.2.2 a x a c rfl
   ·subst q
    rcases c with c|rfl|c
    ·exact l.2.2 a x a (.inl c) rfl
    ·exact p.1 x
    ·exact l.2.2 a x a (.inr c) rfl
 have k2:=k1.uO (Step.refl none w) id (.nest ver e e2 (ess.set i es) none) T (λb hc=>by cases hc)
  (.nest ver e e2 (ess.set i es) none hdr xs _ b3 b0 (by rw [List.length_set];exact how) (g0.j0 (Sub.refl S) ((tO.upd z).trans (tO.upd B)) λ_ _=>rfl) N (λi rv e=>by cases e))
  (λb c => by
   simp only [T,Loc.has,GC]at c
   by_cases t:tM v=some b
   ·obtain⟨f1,f2,f3⟩:=r b t
    refine .inr (.inr ⟨λi G u J=>?_,f2,f3⟩)
    by_cases E:i=k
    ·subst E;rw [tJ]at u;cases u;cases J
    ·rw [uq _ _ E]at u
     exact f1 i G E u J
   ·refine .inl ⟨_,y,?_⟩
    simp only [Loc.has,E2,GC]
    rcases c with c|c|c|c
    ·exact .inl c
    ·exact .inr (.inl c)
    ·exact(t (by simpa using c)).elim
    ·exact .inr (.inr c)) B
 refine⟨upd (upd loc k .dead) id T,?_⟩
 have a5:(λj=>if j=k then some Box.dead else if j=id then some (.nest ver e e2 (ess.set i es) none)else s.boxes j)=upd (upd s.boxes k .dead) id (.nest ver e e2 (ess.set i es) none):=by
  funext j
  simp only [upd]
  by_cases h1:j=k
  ·subst h1;simp [F]
  ·by_cases W:j=id
   ·subst W;simp [h1]
   ·simp [h1,W]
 rw [a5]
 exact k2
theorem Sim.Bq{e2:TypeId}:∀(ess:List (List PD)){S:tG}{xs:List Value}{bs:List Nat},Sim P X S loc s tm w->NCs P S loc w (ess.map (.row e2)) xs bs->bs.Nodup->
  (∀b∈bs,(∀i L,loc i=some L->¬L.has b)∧(∀o,S ⟨b,o,none⟩=none)∧(b∈X.B0∨X.w0.heap.size<=b))->
  ∃S',Sim P X S' loc s tm w∧Sub S S'∧(∀g o,g∉bs->S ⟨g,o,none⟩=none->S' ⟨g,o,none⟩=none)∧∀(i:Nat)es x,ess[i]? =some es->xs[i]? =some x->V S' (.lst es) x
 | [],S,xs,bs,h,hc,_,_=>⟨S,h,Sub.refl S,λ_ _ _ h=>h,λi es x hi=>by simp at hi⟩
 |es::ess,S,xs,bs,h,hc,C,k=>by
  cases hc with
  | @cons _ v b0 E _ vs hr N=>
  cases hr with
  |row _ _ sz _ ys a5 how hf=>
  have r:=(List.nodup_append.1 C).2.1
  by_cases B:es=[]
  ·subst B
   obtain⟨S',g1,g2,g3,g4⟩:=Sim.Bq ess h N r λb l=>k b (List.mem_append.2 (.inr l))
   refine⟨S',g1,g2,λg o K=>g3 g o λhm=>K (List.mem_append.2 (.inr hm)),λi es x hi z=>?_⟩
   cases i with
   |zero=>
    simp only [EV,EC]at hi z
    subst hi;subst z
    obtain⟨a,c,rfl,_⟩:=how.hdr
    exact .nil _ _
   |succ i=>exact g4 i es x (by simpa using hi) (by simpa using z)
  ·have D:0<es.length:=by cases es with|nil=>exact(B rfl).elim|cons=>simp
   have t:=how.wj D
   rcases t.2 with⟨rfl,h0⟩|⟨g,cap,cur,fz,rfl,W,K,G,Q,T,J⟩
   ·omega
   ·have y:=t.cells (g:=g) rfl
    have p:tM (.slice (some ⟨g,0,none⟩) es.length cap)=some g:=by cases cap with|zero=>omega|succ c=>rfl
    obtain⟨f1,f2,f3⟩:=k g (List.mem_append.2 (.inl (by rw [p];simp)))
    have O:=h.zX g ys (λj v Y=>by have:=y j v Y;rw [uC]at this;simpa using this) hf.one f1 f3.symm
    have u:=vL S g ys
    have I:∀b∈E,b≠g:=λb l e=>(List.nodup_append.1 C).2.2 g (by rw [p];simp) b l e.symm
    have q:∀b o,b≠g->S ⟨b,o,none⟩=none->uU S g ys ⟨b,o,none⟩=none:=λb o l hS=>by simp [uU,hS,l]
    obtain⟨S',g1,g2,g3,g4⟩:=Sim.Bq ess O (N.j0 u (tO.refl loc) λ_ _=>rfl) r λb l=>by
     obtain⟨q1,q2,q3⟩:=k b (List.mem_append.2 (.inr l))
     exact⟨q1,λo=>q b o (I b l) (q2 o),q3⟩
    refine⟨S',g1,u.trans g2,λb o l hS=>g3 b o (λhm=>l (List.mem_append.2 (.inr hm))) (q b o (λe=>l (List.mem_append.2 (.inl (by rw [p,e];simp)))) hS),λi F x hi z=>?_⟩
    cases i with
    |zero=>
     simp only [EV,EC]at hi z
     subst hi;subst z
     exact(V.of_row hf f2 G).mono g2
    |succ i=>exact g4 i F x (by simpa using hi) (by simpa using z)
theorem Sim.freezeN(h:Sim P X S loc s tm w){id ver:Nat}{e e2:TypeId}{ess:List (List PD)}(hb:s.boxes id=some (.nest ver e e2 ess none)):
  ∃S',Sim P X S' (upd loc id .dead) { s with boxes:=upd s.boxes id .dead } tm w∧∀v,R S loc (.ref id ver) v->V S' (.lst (ess.map .lst)) v:=by
 obtain⟨L,K,hB⟩:=h.boxes id _ hb
 cases hB with
 |nest _ _ _ _ _ hdr xs bs a9 a8 how hc F hi=>
 have J:uc (loc id) .dead:=by rw [K];exact .dead _
 have h1:=h.uO (Step.refl none w) id .dead .dead (λb hc=>by cases hc) (.dead _ rfl) (λb hc=>by cases hc) J
 have l:∀b,Loc.has (.nest ver e 1 hdr bs) b->(∀i L,upd loc id .dead i=some L->¬L.has b)∧(∀o,S ⟨b,o,none⟩=none)∧(b∈X.B0∨X.w0.heap.size<=b):=λb t=>by
  obtain⟨f1,f2,f3⟩:=h.Aw K t
  refine⟨λi W p C=>?_,f2,f3⟩
  by_cases z:i=id
  ·subst z;rw [tJ]at p;cases p;cases C
  ·rw [uq _ _ z]at p
   exact f1 i W z p C
 have Y:∀v,R S loc (.ref id ver) v->v=hdr:=λv I=>by
  cases I with
  |ref _ _ _ W _ B O=>
   rw [K]at B
   cases B
   exact(O _ _ _ _ .nest).2 rfl
 obtain⟨S1,g1,g2,g3,g4⟩:=Sim.Bq ess h1 (hc.j0 (Sub.refl S) (tO.upd J) λ_ _=>rfl) (List.nodup_append.1 F).2.1 λb t=>l b (List.mem_append.2 (.inr t))
 by_cases k:ess=[]
 ·subst k
  refine⟨S1,g1,λv I=>?_⟩
  rw [Y v I]
  obtain⟨a,c,rfl,_⟩:=how.hdr
  exact .nil _ _
 have G:0<ess.length:=by cases ess with|nil=>exact(k rfl).elim|cons=>simp
 have q:=how.wj G
 have hlen:ess.length=xs.length:=by have:=hc.len;rwa [Bv]at this
 have y:Flat S1 1 (ess.map .lst) xs:=by
  refine⟨λe he=>?_,hc.one,λi e j x hi D=>?_⟩
  ·obtain⟨es,_,rfl⟩:=List.mem_map.1 he
   rfl
  ·rw [List.getElem?_map,GH]at hi
   obtain⟨es,k,rfl⟩:=hi
   cases j with
   |succ j=>simp [PD.cells]at D
   |zero=>
    simp only [PD.cells,EV,EC]at D
    subst D
    have E:i<xs.length:=by rw [<-hlen];exact(List.getElem?_eq_some_iff.1 k).1
    exact⟨xs[i],by rw [Nat.mul_one,Nat.add_zero];exact ze E,g4 i es _ k (ze E)⟩
 rcases q.2 with⟨rfl,h0⟩|⟨g,cap,cur,fz,rfl,a7,hg,Q,a5,a6,T⟩
 ·omega
 ·have u:=q.cells (g:=g) rfl
  have r:tM (.slice (some ⟨g,0,none⟩) ess.length cap)=some g:=by cases cap with|zero=>omega|succ c=>rfl
  obtain⟨f1,f2,f3⟩:=l g (List.mem_append.2 (.inl (by rw [r];simp)))
  have N:∀o,S1 ⟨g,o,none⟩=none:=λo=>g3 g o (λhm=>(List.nodup_append.1 F).2.2 g (by rw [r];simp) g hm rfl) (f2 o)
  have h2:=g1.zX g xs (λj v D=>by have:=u j v D;rw [uC]at this;simpa using this) hc.one f1 f3.symm
  refine⟨_,h2,λv I=>?_⟩
  rw [Y v I]
  have:=V.of_row (c:=cap) y N (by simpa using Q)
  simpa using this
theorem Cf{nb:Nat}(c6:∀k b,X.par k=some b->k<nb∧∀ver e sz hdr,b.Row ver e sz hdr->ver=0){g:yk}{s':St}(a:uN P nb s g=some s')(h:Sim P X S loc s tm w):∃S' loc',Sim P X S' loc' s' tm w:=by
 cases g with
 |j0 rs bs=>
  simp only [uN]at a
  rcases h1:gets s.tT rs with _|l
  ·simp [h1]at a
  rcases z:gets s.boxes bs with _|m
  ·simp [h1,z]at a
  simp only [h1,z]at a
  split at a
  rotate_left
  ·cases a
  rename_i f6
  cases a
  obtain⟨l1,_⟩:=An h1
  obtain⟨m1,m2⟩:=An z
  let loc':ui:=λid=>if bs.contains id then(loc id).map (tV (ud nb id))else none
  have I:∀id K,loc' id=some K->bs.contains id=true∧∃L,loc id=some L∧K=tV (ud nb id) L:=by
   intro id K D
   simp only [loc']at D
   split at D
   ·rename_i hm
    rw [GH]at D
    obtain⟨L,h3,rfl⟩:=D
    exact⟨hm,L,h3,rfl⟩
   ·cases D
  have B:yl ⟨λid=>if bs.contains id then some id else none,uz s.boxes (ud nb)⟩ loc loc':=by
   refine yl.mk' (P:=P) (S:=S) (w:=w) h.boxes λid k L hp D=>?_
   try simp only at hp
   split at hp
   ·rename_i hm
    cases hp
    simp only [loc',hm,if_true,D,FV]
   ·cases hp
  have C := h.mem.ren (loc' := loc') (b' := assoc (m.map λx => (x.1, vU ⟨λid => if bs.contains id then some id else none, uz s.boxes (ud nb)⟩ (ud nb x.1) x.2))) B (λk f2 hk => by
    obtain⟨b0,hm,rfl⟩:=A9 (λk b=>vU ⟨λid=>if bs.contains id then some id else none,uz s.boxes (ud nb)⟩ (ud nb k) b) hk
    obtain⟨d4,c4⟩:=m1 _ hm
    simp only at d4 c4
    have e0:bs.contains k=true:=by simpa using c4
    exact⟨k,b0,ud nb k,by simp [c4],d4,rfl,λL D=>by simp only [loc',e0,if_true,D,FV]⟩) (λk K hk=>by
    obtain⟨hm,L,h3,rfl⟩:=I k K hk
    refine⟨?_,k,L,_,by simp only [hm,if_true],h3,rfl⟩
    obtain⟨v,E⟩:=m2 k (by simpa using hm)
    exact Ba (λk b=>vU ⟨λid=>if bs.contains id then some id else none,uz s.boxes (ud nb)⟩ (ud nb k) b) E)
  refine⟨S,loc',h.nt,?_,C.boxes,C.dom,h.imm,h.wU,C.vV,C.inj,?_,h.frame,h.s0,?_,h.yi,h.bs,h.ob⟩
  ·intro t rv G
   obtain⟨v0,hm,rfl⟩:=BN (uZ ⟨λid=>if bs.contains id then some id else none,uz s.boxes (ud nb)⟩) G
   obtain⟨v,E,c9⟩:=h.tT t v0 (l1 _ hm).1
   exact⟨v,E,R.uZ B c9⟩
  ·intro id K b D q
   obtain⟨_,L,hl,rfl⟩:=I id K D
   rw [wE]at q
   exact h.own id L b hl q
  ·intro k L0 hk
   have Y:=(c6 k L0 hk).1
   have:=List.all_eq_true.1 f6 k (List.mem_range.2 Y)
   obtain⟨L,h3,h4⟩:=h.par k L0 hk
   exact⟨tV (ud nb k) L,by simp only [loc',this,if_true,h3,FV],D4 Y (c6 k L0 hk).2 h4⟩
 |own t id e=>
  simp only [uN]at a
  split at a
  ·rename_i k G q hk
   cases a
   obtain⟨loc',h1,z,_⟩:=h.yB q (Step.refl none w) hk (hdr:= .slice none 0 0) (es:=[]) (xs:=[]) (.inl (.of (World.ownsRow_nil w 0 e _))) (Flat.nil S _) (λg a=>by cases a) rfl
   refine⟨S,loc',?_⟩
   refine h1.xW _ λx rv O=>?_
   split at O
   ·rename_i Q
    subst Q
    cases O
    obtain⟨v,E,B⟩:=h.tT x _ G
    cases B with
    |tC=>exact⟨_,E,z⟩
   ·exact h1.tT x rv O
  ·cases a
   exact⟨S,loc,h⟩
  ·cases a
 |freeze t=>
  simp only [uN]at a
  rcases G:s.tT t with _|rv
  ·simp [G]at a
  rw [G]at a
  cases rv<;>first|(simp at a;done)|skip
  rename_i id ver
  simp only at a
  rcases q:s.boxes id with _|J
  ·simp [q]at a
  rw [q]at a
  cases J<;>first|(simp at a;done)|skip
  rename_i y e es
  simp only at a
  by_cases r:ver=y
  rotate_left
  ·simp [r]at a
  subst r
  simp only [if_true,EC]at a
  subst a
  obtain⟨S',h1,hs,hl,E⟩:=h.Ce q
  have E:=λv B=>(E ver e es q).1 v B
  refine⟨S',_,h1.xW _ λx rv O=>?_⟩
  split at O
  ·rename_i Q
   subst Q
   cases O
   obtain⟨v,d1,B⟩:=h.tT x _ G
   exact⟨v,d1,.d (E v B)⟩
  ·exact h1.tT x rv O
 |frz p=>
  simp only [uN]at a
  rcases hp:wm s p with _|rv
  ·simp [hp]at a
  rw [hp]at a
  cases rv<;>first|(simp at a;done)|skip
  ·simp only [EC]at a
   subst a
   exact⟨S,loc,h⟩
  ·simp only [EC]at a
   subst a
   exact⟨S,loc,h.wz hp λv B=>by cases B;exact .d (.nil _ _)⟩
  ·rename_i id ver
   simp only at a
   rcases q:s.boxes id with _|J
   ·simp [q]at a
   rw [q]at a
   cases J<;>first|(simp at a;done)|skip
   rename_i y e es
   simp only at a
   by_cases r:ver=y
   rotate_left
   ·simp [r]at a
   subst r
   simp only [if_true,EC]at a
   subst a
   obtain⟨S',h1,hs,hl,E⟩:=h.Ce q
   have E:=λv B=>(E ver e es q).1 v B
   have F:({ s with boxes:=upd s.boxes id .dead }:St)={ s with boxes:=λi=>if i=id then some .dead else s.boxes i }:=rfl
   rw [F]at h1
   have g9:wm ({ s with boxes:=λi=>if i=id then some .dead else s.boxes i }:St) p=some (.ref id ver):=xE hp λoff e=>by
    subst e
    simp only [wm,q]at hp
    cases hp
   cases p with
   |reg t=>
    refine⟨S',_,h1.xW _ λx rv O=>?_⟩
    split at O
    ·rename_i Q
     subst Q
     cases O
     obtain⟨v,d1,B⟩:=h.tT x _ hp
     exact⟨v,d1,.d (E v B)⟩
    ·exact h1.tT x rv O
   |cell i off=>
    have a8:i≠id:=λe=>by
     subst e
     simp only [wm,q]at hp
     cases hp
    simp only [wm]at hp
    rcases a6:s.boxes i with _|J
    ·simp [a6]at hp
    rw [a6]at hp
    cases J with
    |arr _ _ _=>cases hp
    |dead=>cases hp
    |nest _ _ _ _ _=>cases hp
    |var cs=>
     simp only at hp
     simp only [Dw.wz,a8,if_false,a6]
     refine⟨S',_,h1.nt,h1.tT,λj J W=>?_,λj L D=>?_,h1.imm,h1.wU,h1.vV,h1.inj,h1.own,h1.frame,h1.s0,h1.par,h1.yi,h1.bs,h1.ob⟩
     ·simp only at W
      by_cases a7:j=i
      ·subst a7
       simp only [if_true]at W
       cases W
       obtain⟨L,D,hB⟩:=h.boxes j _ a6
       obtain⟨K,T,f3⟩:=h1.boxes j (.var cs) (by simp only [a8,if_false];exact a6)
       refine⟨K,T,?_⟩
       have f4:K=L:=by
        rw [uq _ _ a8,D]at T
        exact(Fg T).symm
       subst f4
       cases hB with
       |var _ b t vs hw g5 hc=>
        cases f3 with
        |var _ _ t' h5 f0 g8 f5=>
         rw [hw]at f0
         cases f0
         exact .var _ b t vs hw (by simpa using g5) (R.Be f5 λv b5=>.d (E v (hc off _ v hp b5)))
      ·simp only [a7,if_false]at W
       exact h1.boxes j J W
     ·obtain⟨J,c2⟩:=h1.dom j L D
      by_cases a7:j=i
      ·subst a7;exact⟨_,if_pos rfl⟩
      ·exact⟨J,by simp only [a7,if_false];exact c2⟩
 |ownp p id e=>
  simp only [uN]at a
  split at a
  ·rename_i k hp q hk
   cases a
   obtain⟨loc',h1,z,_⟩:=h.yB q (Step.refl none w) hk (hdr:= .slice none 0 0) (es:=[]) (xs:=[]) (.inl (.of (World.ownsRow_nil w 0 e _))) (Flat.nil S _) (λg a=>by cases a) rfl
   have F:({ s with boxes:=upd s.boxes id (.arr 0 e []) }:St)={ s with boxes:=λi=>if i=id then some (.arr 0 e [])else s.boxes i }:=rfl
   refine⟨S,loc',Sim.wz (s:={ s with boxes:=λi=>if i=id then some (.arr 0 e [])else s.boxes i }) h1 (xE hp λoff he=>?_) λv B=>?_⟩
   ·subst he
    simp only [wm,q]at hp
    cases hp
   ·cases B with
    |tC=>exact z
  ·cases a
   exact⟨S,loc,h⟩
  ·cases a
 |mv p new=>
  simp only [uN]at a
  rcases hp:wm s p with _|rv
  ·simp [hp]at a
  rw [hp]at a
  cases rv<;>first|(simp at a;done)|(simp only [EC]at a;subst a;exact⟨S,loc,h⟩)|skip
  rename_i id ver
  simp only at a
  by_cases c3:id=new
  ·rw [if_pos c3]at a;cases a;exact⟨S,loc,h⟩
  rw [if_neg c3]at a
  by_cases e4:nb<=id∧nb<=new
  rotate_left
  ·rw [if_neg e4]at a;cases a
  rw [if_pos e4]at a
  simp only [EC]at a
  subst a
  let pos:Nat->Option Nat:=λi=>if i=id then some new else if i=new then none else some i
  let loc':ui:=λk=>if k=new then loc id else if k=id then none else loc k
  have sv:∀L:Loc,tV (λc=>c) L=L:=λL=>Es L λ_=>rfl
  have e5:∀i k L,pos i=some k->loc i=some L->loc' k=some L:=by
   intro i k L h1 z
   simp only [pos]at h1
   split at h1
   ·rename_i e;subst e;cases h1;simp only [loc',if_true];exact z
   ·split at h1
    ·cases h1
    ·rename_i n1 n2;cases h1;simp only [loc',n1,n2,if_false];exact z
  have B:yl ⟨pos,uz s.boxes λ_ c=>c⟩ loc loc':=yl.mk' (P:=P) (S:=S) (w:=w) h.boxes λi k L h1 z=>by rw [sv];exact e5 i k L h1 z
  have b3:∀k,(∃i,pos i=some k∧∀α(f:Nat->Option α),(if k=new then f id else if k=id then none else f k)=f i)∨(k=id):=by
   intro k
   by_cases h1:k=new
   ·subst h1;exact .inl ⟨id,by simp only [pos,if_true],λα f=>if_pos rfl⟩
   ·by_cases z:k=id
    ·exact .inr z
    ·exact .inl ⟨k,by simp only [pos,h1,z,if_false],λα f=>by rw [if_neg h1,if_neg z]⟩
  have N:∀α(f:Nat->Option α),(if id=new then f id else if id=id then none else f id)=none:=λα f=>by rw [if_neg c3,if_pos rfl]
  have C:=h.mem.ren (loc':=loc') (b':=λi=>if i=new then(s.boxes id).map (vU ⟨pos,uz s.boxes λ_ c=>c⟩ λc=>c)else if i=id then none else(s.boxes i).map (vU ⟨pos,uz s.boxes λ_ c=>c⟩ λc=>c)) B
   (λk f2 hk => by
    rcases b3 k with⟨i,h1,z⟩|rfl
    ·have hk:=(z _ λi=>(s.boxes i).map (vU ⟨pos,uz s.boxes λ_ c=>c⟩ λc=>c)).symm.trans hk
     rw [GH]at hk
     obtain⟨b0,h3,rfl⟩:=hk
     exact⟨i,b0,λc=>c,h1,h3,rfl,λL D=>by rw [sv];exact e5 i k L h1 D⟩
    ·have:=(N _ λi=>(s.boxes i).map (vU ⟨pos,uz s.boxes λ_ c=>c⟩ λc=>c)).symm.trans hk
     cases this)
   (λk K hk => by
    rcases b3 k with⟨i,h1,z⟩|rfl
    ·have e1:loc i=some K:=(z _ loc).symm.trans hk
     obtain⟨J,c2⟩:=h.dom i K e1
     refine⟨⟨vU ⟨pos,uz s.boxes λ_ c=>c⟩ (λc=>c) J,?_⟩,i,K,λc=>c,h1,e1,(sv K).symm⟩
     rw [z _ λi=>(s.boxes i).map (vU ⟨pos,uz s.boxes λ_ c=>c⟩ λc=>c),c2]
     rfl
    ·have:=(N _ loc).symm.trans hk
     cases this)
  refine⟨S,loc',h.nt,λt rv G=>?_,C.boxes,C.dom,h.imm,h.wU,C.vV,C.inj,λk L b D q=>?_,h.frame,h.s0,λk L0 hk=>?_,h.yi,h.bs,h.ob⟩
  ·simp only [GH]at G
   obtain⟨b6,h1,rfl⟩:=G
   obtain⟨v,E,c9⟩:=h.tT t b6 h1
   exact⟨v,E,R.uZ B c9⟩
  ·rcases b3 k with⟨i,h1,z⟩|rfl
   ·exact h.own i L b ((z _ loc).symm.trans D) q
   ·have:=(N _ loc).symm.trans D
    cases this
  ·have Y:=(c6 k L0 hk).1
   obtain⟨L,h3,h4⟩:=h.par k L0 hk
   refine⟨L,?_,h4⟩
   have n1:k≠new:=by omega
   have n2:k≠id:=by omega
   simp only [loc',n1,n2,if_false]
   exact h3
 |fixv id=>
  simp only [uN]at a
  rcases q:s.boxes id with _|J
  ·simp [q]at a
  rw [q]at a
  cases J<;>first|(simp at a;done)|skip
  rename_i cs
  simp only at a
  rcases ha:yn cs with _|ps
  ·simp [ha]at a
  simp only [ha]at a
  by_cases a9:ps.all PD.one=true
  rotate_left
  ·rw [if_neg a9]at a;cases a
  rw [if_pos a9]at a
  simp only [EC]at a
  subst a
  have g0:=xJ ha
  subst g0
  obtain⟨L,D,hB⟩:=h.boxes id _ q
  cases hB with
  |var _ b t vs hw hl hc=>
  have b5:∀(i:Nat)p u,ps[i]? =some p->vs[i]? =some u->V S p u:=λi p u h1 z=>by
   have:=hc i (.d p) u (by simp [h1]) z
   cases this with|d h=>exact h
  have hlen:vs.size=ps.length:=by simpa using hl
  have h1:∀u∈vs,u.oneCell'=true:=λu hu=>by
   obtain⟨i,hi,rfl⟩:=Array.getElem_of_mem hu
   have d5:i<ps.length:=by omega
   exact((b5 i ps[i] vs[i] (ze d5) (FE hi)).xf (List.all_eq_true.1 a9 _ (List.getElem_mem d5))).1
  obtain⟨k1,k2,k3⟩:=h.DY q D hw h1
  have F:({ s with boxes:=upd s.boxes id .dead }:St)={ s with boxes:=λi=>if i=id then some .dead else s.boxes i }:=rfl
  rw [F]at k1
  refine⟨_,_,k1.xW (λt=>(s.tT t).map (fixRV id ps)) λt rv G=>?_⟩
  rw [GH]at G
  obtain⟨b6,z,rfl⟩:=G
  obtain⟨v,E,B⟩:=h.tT t b6 z
  obtain⟨v',e7,e6⟩:=k1.tT t b6 z
  rw [E]at e7
  cases e7
  refine⟨v,E,?_⟩
  unfold fixRV
  split
  ·rename_i i off
   split
   ·rename_i hi
    subst hi
    cases B with
    |ptr _ _ _ L2 ho d2 hp=>
     rw [D]at d2
     cases d2
     rw [(hp b).1 rfl]
     have d3:∀(j:Nat)c,(ps.drop off)[j]? =some c->∃u,vs[off+j]? =some u∧V S c u:=λj c W=>by
      rw [List.getElem?_drop]at W
      have Y:off+j<vs.size:=by rw [hlen];exact(List.getElem?_eq_some_iff.1 W).1
      exact⟨_,FE Y,b5 _ c _ W (FE Y)⟩
     refine .cptr _ b off (λj=>(vs[off+j]?).getD default) (λj c W=>?_) λj c W=>?_
     ·obtain⟨u,hu,_⟩:=d3 j c W
      rw [k3 _ u hu,hu];rfl
     ·obtain⟨u,hu,g7⟩:=d3 j c W
      rw [hu]
      exact g7.mono k2
   ·exact e6
  ·exact e6
 |bump t=>
  simp only [uN]at a
  rcases G:s.tT t with _|rv
  ·simp [G]at a
  rw [G]at a
  cases rv<;>first|(simp at a;done)|skip
  rename_i id ver
  simp only at a
  rcases q:s.boxes id with _|J
  ·simp [q]at a
  rw [q]at a
  cases J<;>first|(simp at a;done)|skip
  rename_i y e es
  simp only at a
  by_cases r:ver=y
  rotate_left
  ·simp [r]at a
  subst r
  simp only [if_true,EC]at a
  subst a
  obtain⟨v,E,B⟩:=h.tT t _ G
  obtain⟨sz,xs,I,d0,how,hf⟩:=h.xK q B
  have ho:v.oneCell'=true:=by cases B with|ref _ _ _ _ ho=>exact ho
  have b4:uc (loc id) (.arr (ver+1) e sz v):=by
   rw [I]
   exact .arr za
  have a5:=h.uO (Step.refl none w) id (.arr (ver+1) e es) (.arr (ver+1) e sz v) (λb hc=>by cases hc) (.arr (ver+1) e es sz v xs d0 how hf) (λb c1=>.inl ⟨_,I,c1⟩) b4
  have F:({ s with boxes:=upd s.boxes id (.arr (ver+1) e es) }:St)={ s with boxes:=λi=>if i=id then some (.arr (ver+1) e es)else s.boxes i }:=rfl
  rw [F]at a5
  refine⟨S,_,a5.xW _ λx rv O=>?_⟩
  split at O
  ·rename_i Q
   subst Q
   cases O
   exact⟨v,E,.ref id (ver+1) v _ ho (tJ _ _ _) λy e' f1 c0 he=>by cases he;exact⟨EB _,λ_=>rfl⟩⟩
  ·exact a5.tT x rv O
 |bumpp p=>
  simp only [uN]at a
  rcases G:wm s p with _|rv
  ·simp [G]at a
  rw [G]at a
  cases rv<;>first|(simp at a;done)|skip
  rename_i id ver
  simp only at a
  rcases q:s.boxes id with _|J
  ·simp [q]at a
  rw [q]at a
  cases J<;>first|(simp at a;done)|skip
  rename_i y e es
  simp only at a
  by_cases r:ver=y
  rotate_left
  ·simp [r]at a
  subst r
  simp only [if_true,EC]at a
  subst a
  obtain⟨L,D,hB⟩:=h.boxes id _ q
  cases hB with
  |arr _ _ _ sz hdr xs d0 how hf=>
  have b4:uc (loc id) (.arr (ver+1) e sz hdr):=by
   rw [D]
   exact .arr za
  have a5:=h.uO (Step.refl none w) id (.arr (ver+1) e es) (.arr (ver+1) e sz hdr) (λb hc=>by cases hc) (.arr (ver+1) e es sz hdr xs d0 how hf) (λb c1=>.inl ⟨_,D,c1⟩) b4
  have F:({ s with boxes:=upd s.boxes id (.arr (ver+1) e es) }:St)={ s with boxes:=λi=>if i=id then some (.arr (ver+1) e es)else s.boxes i }:=rfl
  rw [F]at a5
  have c7:wm { s with boxes:=λi=>if i=id then some (.arr (ver+1) e es)else s.boxes i } p=some (.ref id ver):=xE G λoff c8=>by
   subst c8
   simp only [wm,q]at G
   cases G
  refine⟨S,_,a5.plSet' c7 λv E=>?_⟩
  have g6:PlAt loc tm w v p:=by
   cases p with
   |reg t=>exact E
   |cell i off=>
    obtain⟨b,vs,ty,h1,z,h3⟩:=E
    refine⟨b,vs,ty,?_,z,h3⟩
    by_cases hi:i=id
    ·subst hi;rw [tJ]at h1;cases h1
    ·rwa [uq _ _ hi]at h1
  have B:=h.plAt G v g6
  cases B with
  |ref _ _ _ K ho T hc=>
   rw [D]at T
   cases T
   have:=(hc ver e sz hdr .arr).2 rfl
   subst this
   exact .ref id (ver+1) _ _ ho (tJ _ _ _) λy e' f1 c0 he=>by cases he;exact⟨EB _,λ_=>rfl⟩
 |ownn p id e e2=>
  simp only [uN]at a
  split at a
  ·rename_i k hp q hk g4
   cases a
   have I:=h.uj q
   have b4:uc (loc id) (.nest 0 e 1 (.slice none 0 0) []):=by rw [I];trivial
   have h1:=h.uO (Step.refl none w) id (.nest 0 e e2 [] none) (.nest 0 e 1 (.slice none 0 0) []) (λb hc=>by cases hc)
    (.nest 0 e e2 [] none _ [] [] hk ⟨k,g4⟩ (.inl (.of (World.ownsRow_nil w 0 e _))) .nil (by simp [tM]) (λi rv e=>by cases e)) (λb q=>by simp [Loc.has,tM]at q) b4
   have F:({ s with boxes:=upd s.boxes id (.nest 0 e e2 [] none) }:St)={ s with boxes:=λi=>if i=id then some (.nest 0 e e2 [] none)else s.boxes i }:=rfl
   rw [F]at h1
   refine⟨S,_,Sim.wz (s:={ s with boxes:=λi=>if i=id then some (.nest 0 e e2 [] none)else s.boxes i }) h1 (xE hp λoff he=>?_) λv B=>?_⟩
   ·subst he
    simp only [wm,q]at hp
    cases hp
   ·cases B with
    |tC=>exact .ref id 0 _ _ rfl (tJ _ _ _) λy e' f1 c0 he=>by cases he;exact⟨EB _,λ_=>rfl⟩
  ·cases a
   exact⟨S,loc,h⟩
  ·cases a
 |lend id i new=>
  simp only [uN]at a
  split at a
  rotate_left
  ·cases a
  rename_i ver e e2 ess q e3
  rcases c5:yx s ess i with _|⟨j,es⟩
  ·simp [c5]at a
  simp only [c5,EC]at a
  subst a
  exact h.lend q e3 (DF c5)
 |zm id=>
  simp only [uN]at a
  split at a
  ·rename_i ver e e2 ess i k kv q
   split at a
   rotate_left
   ·cases a
   rename_i h0 e' es hk
   split at a
   rotate_left
   ·cases a
   rename_i hc
   obtain⟨rfl,rfl,a8⟩:=hc
   cases a
   exact⟨S,h.zm q hk a8⟩
  ·cases a
  ·cases a
   exact⟨S,loc,h⟩
 |frzn p=>
  simp only [uN]at a
  split at a
  ·rename_i id ver hp
   split at a
   rotate_left
   ·cases a
   rename_i y e e2 ess q
   split at a
   rotate_left
   ·cases a
   rename_i r
   subst r
   cases a
   obtain⟨S',h1,E⟩:=h.freezeN q
   have F:({ s with boxes:=upd s.boxes id .dead }:St)={ s with boxes:=λi=>if i=id then some .dead else s.boxes i }:=rfl
   rw [F]at h1
   have c7:wm { s with boxes:=λi=>if i=id then some .dead else s.boxes i } p=some (.ref id ver):=xE hp λoff c8=>by
    subst c8
    simp only [wm,q]at hp
    cases hp
   refine⟨S',_,h1.plSet' c7 λv e9=>.d (E v (h.plAt hp v ?_))⟩
   cases p with
   |reg t=>exact e9
   |cell i off=>
    obtain⟨b,vs,ty,g1,g2,g3⟩:=e9
    refine⟨b,vs,ty,?_,g2,g3⟩
    by_cases hi:i=id
    ·subst hi;rw [tJ]at g1;cases g1
    ·rwa [uq _ _ hi]at g1
  ·rename_i hp
   cases a
   exact⟨S,loc,h.wz hp λv B=>by cases B;exact .d (.nil _ _)⟩
  ·cases a
   exact⟨S,loc,h⟩
  ·cases a
theorem zW{nb:Nat}(a:∀k b,X.par k=some b->k<nb∧∀ver e sz hdr,b.Row ver e sz hdr->ver=0):∀(gs:List yk){s s':St}{S:tG}{loc:ui},tH P nb s gs=some s'->Sim P X S loc s tm w->∃S' loc',Sim P X S' loc' s' tm w
 | [],s,s',S,loc,h,hs=>by simp only [tH,EC]at h;subst h;exact⟨S,loc,hs⟩
 |g::gs,s,s',S,loc,h,hs=>by
  simp only [tH]at h
  rcases h1:uN P nb s g with _|s1
  ·simp [h1]at h
  simp only [h1]at h
  obtain⟨S1,loc1,c⟩:=Cf a h1 hs
  exact zW a gs h c
end
def Ex.out:Ex->Exit
 | .normal=>.normal
 | .exit id=>.exit id
 | .ret=>.ret
section
variable {P:Program}{X:Ctx}{H:Hints}{f:FuncId}{nb:Nat}{call:tI}{fuel:Nat}
theorem yX{c:Code}{body:St->Option (Ex×St)}{Q:Exit->Act->World->Prop}
  (g:∀{s:St}{e:Ex}{s':St}{a:Act}{w:World}{Q:Exit->Act->World->Prop},body s=some (e,s')->xm P X s a w->(∀k w',xm P X s' k w'->Q e.out k w')->c.wp P Q a w):
  ∀(n:Nat){s:St}{e:Ex}{s':St}{a:Act}{w:World},xN body n s=some (e,s')->xm P X s a w->(∀k w',xm P X s' k w'->Q e.out k w')->Code.rounds P c Q n a w
 |0,s,e,s',a,w,h,_,_=>by simp [xN]at h
 |n+1,s,e,s',a,w,h,hS,l=>by
  simp only [xN]at h
  rcases h1:body s with _|⟨p,s1⟩
  ·simp [h1]at h
  rw [h1]at h
  rw [rounds_succ]
  cases p with
  |normal=>
   simp only at h
   exact g h1 hS λk w' j=>yX g n h j l
  |exit id=>
   simp only [EC,EE]at h
   obtain⟨rfl,rfl⟩:=h
   exact g h1 hS λk w' j=>l k w' j
  |ret=>
   simp only [EC,EE]at h
   obtain⟨rfl,rfl⟩:=h
   exact g h1 hS λk w' j=>l k w' j
theorem uv(g:vX P X.base call)(hm:P.follows .mixedOrders=true)(q:∀k b,X.par k=some b->k<nb∧∀ver e sz hdr,b.Row ver e sz hdr->ver=0):∀(c:Code){s:St}{e:Ex}{s':St}{a:Act}{w:World}{Q:Exit->Act->World->Prop},
  zS X.nt c=true->tW P H f nb call fuel c s=some (e,s')->xm P X s a w->(∀u w',xm P X s' u w'->Q e.out u w')->c.wp P Q a w
 | .skip,s,e,s',a,w,Q,_,h,hS,l=>by
  simp only [tW,EC,EE]at h
  obtain⟨rfl,rfl⟩:=h
  exact wp_skip (l a w hS)
 | .region id ops I,s,e,s',a,w,Q,r,h,hS,l=>by
  simp only [tW]at h
  rcases h1:zU P H f nb call id ops I s with _|s1
  ·simp [h1]at h
  simp only [h1,EC,EE]at h
  obtain⟨rfl,rfl⟩:=h
  unfold zU at h1
  rcases K:tH P nb s (H.at_ f nb id)with _|s0
  ·simp [K]at h1
  simp only [K]at h1
  rcases L:ve P (H.hf f) call ops ops.toList s0 with _|⟨s2,ts⟩
  ·simp [L]at h1
  simp only [L]at h1
  obtain⟨D,S,loc,z⟩:=hS
  obtain⟨S',loc',C⟩:=zW q _ K z
  have E:DstIn X.nt ops:=by
   intro i o ho d N
   have:=Array.all_eq_true_iff_forall_mem.1 (show(ops.all λo=>match o.dst with|some d=>decide (d<X.nt)|none=>true)=true from r) o (Array.mem_of_getElem? ho)
   simpa [N]using this
  have T:s2=s1∧(I=true->wM ops ts=true):=by
   cases I with
   |true=>
    simp only [if_true]at h1
    split at h1
    ·rename_i O;cases h1;exact⟨rfl,λ_=>O⟩
    ·cases h1
   |false=>simp only [FD,if_false,EC]at h1;exact⟨h1,λh=>by cases h⟩
  obtain⟨rfl,F⟩:=T
  exact Cr g hm E L F ⟨D,S',loc',C⟩ l
 | .seq x y,s,e,s',a,w,Q,r,h,hS,l=>by
  simp only [zS,E8]at r
  simp only [tW]at h
  rcases h1:tW P H f nb call fuel x s with _|⟨J,s1⟩
  ·simp [h1]at h
  rw [h1]at h
  refine wp_seq ?_
  cases J with
  |normal=>
   simp only at h
   exact uv g hm q x r.1 h1 hS λu w' j=>uv g hm q y r.2 h j l
  |exit id=>
   simp only [EC,EE]at h
   obtain⟨rfl,rfl⟩:=h
   exact uv g hm q x r.1 h1 hS λu w' j=>l u w' j
  |ret=>
   simp only [EC,EE]at h
   obtain⟨rfl,rfl⟩:=h
   exact uv g hm q x r.1 h1 hS λu w' j=>l u w' j
 | .cond c x y,s,e,s',a,w,Q,r,h,hS,l=>by
  simp only [zS,E8]at r
  simp only [tW]at h
  rcases h1:s.opd c with _|rv
  ·simp [h1]at h
  rw [h1]at h
  rcases rv with p|_|_|_|_|_|_|_|_|_|_|_|_<;>first|(simp at h;done)|skip
  cases p<;>first|(simp at h;done)|skip
  rename_i t
  have j:=hS
  obtain⟨D,S,loc,z⟩:=j
  have G:=(z.opd h1).wI
  cases t with
  |true=>
   simp only [if_true]at h
   exact wp_cond_true G (uv g hm q x r.1 h hS l)
  |false=>
   simp only [FD,if_false]at h
   exact wp_cond_false G (uv g hm q y r.2 h hS l)
 | .block id x,s,e,s',a,w,Q,r,h,hS,l=>by
  simp only [tW]at h
  rcases h1:tW P H f nb call fuel x s with _|⟨J,s1⟩
  ·simp [h1]at h
  rw [h1]at h
  refine wp_block (uv g hm q x r h1 hS λu w' j=>?_)
  cases J with
  |normal=>
   simp only [EC,EE]at h
   obtain⟨rfl,rfl⟩:=h
   exact l u w' j
  |exit W=>
   simp only at h
   by_cases B:W=id
   ·simp only [B,if_true,EC,EE]at h
    obtain⟨rfl,rfl⟩:=h
    simp only [Ex.out,Exit.inBlock,B,if_true]
    exact l u w' j
   ·simp only [B,if_false,EC,EE]at h
    obtain⟨rfl,rfl⟩:=h
    simp only [Ex.out,Exit.inBlock,B,if_false]
    exact l u w' j
  |ret=>
   simp only [EC,EE]at h
   obtain⟨rfl,rfl⟩:=h
   exact l u w' j
 | .loop x,s,e,s',a,w,Q,r,h,hS,l=>by
  simp only [tW]at h
  exact wp_loop_rounds fuel (yX (λG hS l=>uv g hm q x r G hS l) fuel h hS l)
 | .exit id,s,e,s',a,w,Q,_,h,hS,l=>by
  simp only [tW,EC,EE]at h
  obtain⟨rfl,rfl⟩:=h
  exact wp_exit (l a w hS)
 | .ret,s,e,s',a,w,Q,_,h,hS,l=>by
  simp only [tW,EC,EE]at h
  obtain⟨rfl,rfl⟩:=h
  exact wp_ret (l a w hS)
 | .rangeFunc _ _ _ _,s,e,s',a,w,Q,_,h,_,_=>by simp [tW]at h
 | .scope x,s,e,s',a,w,Q,r,h,hS,l=>by
  simp only [tW]at h
  refine wp_scope_straight (uv g hm q x r h hS λu w' j=>?_)
  have:=l u w' j
  cases e<;>exact this
 | .label _,s,e,s',a,w,Q,_,h,hS,l=>by
  simp only [tW,EC,EE]at h
  obtain⟨rfl,rfl⟩:=h
  exact wp_label (l a w hS)
 | .goto _,s,e,s',a,w,Q,_,h,_,_=>by simp [tW]at h
 | .refuse _,s,e,s',a,w,Q,_,h,_,_=>by simp [tW]at h
end
end Go.Dw
