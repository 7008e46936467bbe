
import Derived.Test.YtomapcboiinfdaaGreatDwRegion
import Derived.Scope
set_option linter.unusedVariables false
set_option linter.unusedSimpArgs false
open Option.some renaming inj->BX, injEq->AD
open List renaming getElem?_cons_zero->AT, getElem?_set->AZ, getElem_mem->Aa, length_set->Bi, map_cons->B2, mem_append->Bj, mem_singleton->Bk, nil_append->BF, nodup_append->Bl
open Nat renaming le_refl->AB, zero_min->Bm
open Option renaming map_eq_some_iff->Bn, map_some->Aw, toList_some->Bo
open Array renaming getElem?_eq_getElem->Ad
open Prod.mk renaming injEq->AF
open Bool renaming and_eq_true->A5, false_eq_true->Ac

namespace Go.Dw
theorem uf{α:Type}{f:Nat->Option α}:∀{ts:List Nat}{l:List (Nat×α)},gets f ts=some l->(∀x∈l,f x.1=some x.2∧x.1∈ts)∧∀t∈ts,∃v,(t,v)∈l
 | [],l,h=>by
  simp only [gets,AD]at h
  subst h
  exact⟨(fun x a=>by cases a),(fun t b=>by cases b)⟩
 |t::ts,l,h=>by
  simp only [gets]at h
  rcases h1:f t with _|v
  ·simp [h1]at h
  rcases c:gets f ts with _|r
  ·simp [h1,c]at h
  simp only [h1,c,AD]at h
  subst h
  obtain⟨g1,g2⟩:=uf c
  refine⟨fun x a=>?_,fun t' b=>?_⟩
  ·rcases List.mem_cons.1 a with rfl|a
   ·exact⟨h1,sm⟩
   ·exact⟨(g1 x a).1,by simp [(g1 x a).2]⟩
  ·rcases List.mem_cons.1 b with rfl|b
   ·exact⟨v,sm⟩
   ·obtain⟨v',e⟩:=g2 t' b
    exact⟨v',by simp [e]⟩
theorem wB{α:Type}(g:α->α):∀{l:List (Nat×α)}{t:Nat}{v:α},assoc (l.map fun x=>(x.1,g x.2)) t=some v->∃v0,(t,v0)∈l∧v=g v0
 | [],t,v,h=>by simp [assoc]at h
 |(k,a)::r,t,v,h=>by
  simp only [B2,assoc]at h
  by_cases hk:t=k
  ·subst hk
   simp only [if_true,AD]at h
   exact⟨a,sm,h.symm⟩
  ·simp only [hk,if_false]at h
   obtain⟨v0,h1,b⟩:=wB g h
   exact⟨v0,by simp [h1],b⟩
theorem vd{α:Type}(g:Nat->α->α):∀{l:List (Nat×α)}{t:Nat}{v:α},assoc (l.map fun x=>(x.1,g x.1 x.2)) t=some v->∃v0,(t,v0)∈l∧v=g t v0
 | [],t,v,h=>by simp [assoc]at h
 |(k,a)::r,t,v,h=>by
  simp only [B2,assoc]at h
  by_cases hk:t=k
  ·subst hk
   simp only [if_true,AD]at h
   exact⟨a,sm,h.symm⟩
  ·simp only [hk,if_false]at h
   obtain⟨v0,h1,b⟩:=vd g h
   exact⟨v0,by simp [h1],b⟩
theorem ve{α:Type}(g:Nat->α->α):∀{l:List (Nat×α)}{t:Nat}{v:α},(t,v)∈l->∃v',assoc (l.map fun x=>(x.1,g x.1 x.2)) t=some v'
 | [],t,v,h=>by cases h
 |(k,a)::r,t,v,h=>by
  simp only [B2,assoc]
  by_cases hk:t=k
  ·exact⟨g k a,by simp [hk]⟩
  ·simp only [hk,if_false]
   rcases List.mem_cons.1 h with h|h
   ·cases h;exact(hk rfl).elim
   ·exact ve g h
section
variable {P:Program}{X:Ctx}{S:mW}{loc:nB}{s:St}{tm:Array Value}{w:World}
theorem Sim.ru(h:Sim P X S loc s tm w)(a:Nat->Option RV)(b:∀t rv,a t=some rv->∃v,tm[t]? =some v∧R S loc rv v):Sim P X S loc { s with nd:=a } tm w:=
 ⟨h.nt,b,h.boxes,h.dom,h.imm,h.qT,h.pH,h.inj,h.own,h.frame,h.s0,h.par,h.sJ,h.bs,h.ob⟩
theorem zB(L:Loc){f:Nat->Nat}(hf:∀v,f v=v):nf f L=L:=by cases L<;>simp [nf,hf]
theorem R.vp{cs:List RV}{vs:Array Value}{S:mW}{loc:nB}(b:∀(i:Nat)c v,cs[i]? =some c->vs[i]? =some v->R S loc c v){off:Nat}{x:RV}(e:∀v,vs[off]? =some v->R S loc x v):
  ∀(i:Nat)c v,(cs.set off x)[i]? =some c->vs[i]? =some v->R S loc c v:=by
 intro i c v h1 a
 by_cases hi:off=i
 ·subst hi
  rw [AZ]at h1
  simp only [if_true]at h1
  split at h1
  ·cases h1;exact e v a
  ·cases h1
 ·rw [List.getElem?_set_ne hi]at h1
  exact b i c v h1 a
theorem Sim.pG(h:Sim P X S loc s tm w){p:Pl}{rv x:RV}(a:pe s p=some rv)(r:∀v,R S loc rv v->R S loc x v):Sim P X S loc (Dw.pG s x p) tm w:=by
 cases p with
 |reg t=>
  refine h.ru _ fun y o m=>?_
  split at m
  ·rename_i n
   subst n
   cases m
   obtain⟨v,l,B⟩:=h.nd y _ a
   exact⟨v,l,r v B⟩
  ·exact h.nd y o m
 |cell id off=>
  simp only [pe]at a
  rcases g:s.boxes id with _|e
  ·simp [g]at a
  rw [g]at a
  cases e with
  |arr _ _ _=>cases a
  |dead=>cases a
  |map _ _ _=>cases a
  |nest _ _ _ _ _=>cases a
  |hole _ _ _ _ _ _=>cases a
  |var cs=>
   simp only at a
   simp only [Dw.pG,g]
   refine⟨h.nt,h.nd,fun i e hi=>?_,fun i L j=>?_,h.imm,h.qT,h.pH,h.inj,h.own,h.frame,h.s0,h.par,h.sJ,h.bs,h.ob⟩
   ·simp only at hi
    split at hi
    ·rename_i c
     subst c
     cases hi
     obtain⟨L,j,u⟩:=h.boxes i _ g
     refine⟨L,j,?_⟩
     cases u with
     |var _ b t vs hw z q=>
      exact .var _ b t vs hw (by simpa using z) (R.vp q fun v l=>r v (q off rv v a l))
    ·exact h.boxes i e hi
   ·obtain⟨e,k⟩:=h.dom i L j
    by_cases c:i=id
    ·subst c;exact⟨_,if_pos rfl⟩
    ·exact⟨e,by simp only [c,if_false];exact k⟩
theorem qP{id:Nat}{a:Box}{rv:RV}:∀{p:Pl},pe s p=some rv->(∀off,p≠ .cell id off)->pe { s with boxes:=fun i=>if i=id then some a else s.boxes i } p=some rv
 | .reg t,h,_=>h
 | .cell i off,h,b=>by
  have:i≠id:=fun e=>b off (by rw [e])
  simp only [pe,this,if_false]at h⊢
  exact h
theorem ze{nb k:Nat}(a:k<nb){g L:Loc}(c:∀ver e sz hdr,g.Row ver e sz hdr->ver=0)(h:pZ g L):pZ g (nf (nq nb k) L):=by
 cases h with
 |same=>
  cases g with
  |arr ver e sz hdr=>
   have:=c ver e sz hdr .arr
   subst this
   simp only [nf,nq,a,if_true,Bm]
   exact .same _
  |nest ver e sz hdr bs=>
   have:=c ver e sz hdr .nest
   subst this
   simp only [nf,nq,a,if_true,Bm]
   exact .same _
  |var b=>exact .same _
  |dead=>exact .same _
  |map b=>exact .same _
 |dead=>exact .dead _
 |arr i=>
  have:=c _ _ _ _ .arr
  subst this
  refine .arr ?_
  simp only [nq,a,if_true]
  omega
 |nest i=>
  have:=c _ _ _ _ .nest
  subst this
  refine .nest ?_
  simp only [nq,a,if_true]
  omega
 |held=>
  have:=c _ _ _ _ .nest
  subst this
  simp only [nf,nq,a,if_true,Bm]
  exact .held
def PlAt(loc:nB)(tm:Array Value)(w:World)(v:Value):Pl->Prop
 | .reg t=>tm[t]? =some v
 | .cell id off=>∃b vs ty,loc id=some (.var b)∧w.heap[b]? =some (.cells vs ty (0,0))∧vs[off]? =some v
theorem Sim.plAt(h:Sim P X S loc s tm w){p:Pl}{rv:RV}(a:pe s p=some rv):∀v,PlAt loc tm w v p->R S loc rv v:=by
 cases p with
 |reg t=>
  intro v c
  obtain⟨v',h1,e⟩:=h.nd t rv a
  simp only [PlAt]at c
  rw [h1]at c
  cases c
  exact e
 |cell id off=>
  intro v c
  obtain⟨b,vs,ty,h1,e,k⟩:=c
  simp only [pe]at a
  rcases g:s.boxes id with _|j
  ·simp [g]at a
  rw [g]at a
  cases j<;>simp only at a<;>first|(cases a;done)|skip
  obtain⟨L,i,l⟩:=h.boxes id _ g
  rw [h1]at i
  cases i
  cases l with
  |var _ b t n hw o m=>
   rw [hw]at e
   cases e
   exact m off rv v a k
theorem Sim.plSet'(h:Sim P X S loc s tm w){p:Pl}{rv x:RV}(c:pe s p=some rv)(q:∀v,PlAt loc tm w v p->R S loc x v):Sim P X S loc (Dw.pG s x p) tm w:=by
 cases p with
 |reg t=>
  refine h.ru _ fun y o m=>?_
  split at m
  ·rename_i n
   subst n
   cases m
   obtain⟨v,k,B⟩:=h.nd y _ c
   exact⟨v,k,q v k⟩
  ·exact h.nd y o m
 |cell id off=>
  simp only [pe]at c
  rcases j:s.boxes id with _|e
  ·simp [j]at c
  rw [j]at c
  cases e<;>simp only at c<;>first|(cases c;done)|skip
  simp only [Dw.pG,j]
  refine⟨h.nt,h.nd,fun i e hi=>?_,fun i L g=>?_,h.imm,h.qT,h.pH,h.inj,h.own,h.frame,h.s0,h.par,h.sJ,h.bs,h.ob⟩
  ·simp only at hi
   split at hi
   ·rename_i a
    subst a
    cases hi
    obtain⟨L,g,r⟩:=h.boxes i _ j
    refine⟨L,g,?_⟩
    cases r with
    |var _ b t vs hw z u=>
     exact .var _ b t vs hw (by simpa using z) (R.vp u fun v k=>q v ⟨b,vs,t,g,hw,k⟩)
   ·exact h.boxes i e hi
  ·obtain⟨e,l⟩:=h.dom i L g
   by_cases a:i=id
   ·subst a;exact⟨_,if_pos rfl⟩
   ·exact⟨e,by simp only [a,if_false];exact l⟩
theorem yB{s:St}{ess:List (List PD)}{i:Option Nat}{j:Nat}{es:List PD}(h:w6 s ess i=some (j,es)):ess[j]? =some es:=by
 unfold w6 at h
 split at h
 ·split at h
  ·rename_i a;cases h;exact a
  ·cases h
 ·split at h
  ·split at h
   ·split at h
    ·rename_i a;cases h;exact a
    ·cases h
   ·cases h
  ·cases h
theorem Sim.uk(h:Sim P X S loc s tm w){id:Nat}{L:Loc}(c:loc id=some L){b:Nat}(g:L.has b):
  (∀i a,i≠id->loc i=some a->¬a.has b)∧(∀o,S ⟨b,o,none⟩=none)∧(b∈X.B0∨X.w0.heap.size<=b):=
 ⟨fun i a hi e j=>hi (h.inj i id a L b e c j g),fun o=>h.pH id L b c g o,h.own id L b c g⟩
theorem Sim.lend(h:Sim P X S loc s tm w){id new ver j:Nat}{e e2:TypeId}{ess:List (List PD)}{es:List PD}(n:s.boxes id=some (.nest ver e e2 ess none))(t:s.boxes new=none)(hj:ess[j]? =some es):
  ∃S' loc',Sim P X S' loc' { s with boxes:=fun k=>if k=new then some (.arr 0 e2 es)else if k=id then some (.nest ver e e2 ess (some (j,.ref new 0)))else s.boxes k } tm w:=by
 obtain⟨L,W,hB⟩:=h.boxes id _ n
 have y:new≠id:=fun e=>by rw [e,n]at t;cases t
 have I:j<ess.length:=(List.getElem?_eq_some_iff.1 hj).1
 cases hB with
 |nest _ _ _ _ _ hdr xs bs O N how F p hi=>
 obtain⟨v,b,m,bs2,rfl,E,h3,h4⟩:=F.split (ncs_none (e2:=e2) hj)
 cases h3 with
 |row _ _ sz _ ys Q B a6=>
 have o:v.oneCell'=true:=by obtain⟨a,c,rfl,_⟩:=B.hdr;rfl
 let l:Loc:= .nest ver e 1 hdr (m++bs2)
 have z:((nT hdr).toList++(m++bs2)).Nodup:=List.Nodup.sublist (List.Sublist.append (List.Sublist.refl _) (List.Sublist.append (List.Sublist.refl _) (List.sublist_append_right _ _))) p
 have J:∀b,l.has b->Loc.has (.nest ver e 1 hdr (m++((nT v).toList++bs2))) b:=fun b n=>by
  simp only [l,Loc.has,Bj]at n⊢
  rcases n with n|n|n
  ·exact .inl n
  ·exact .inr (.inl n)
  ·exact .inr (.inr (.inr n))
 have u:ni (loc id) l:=by rw [W];exact .held
 have g0:=h4 (.val .junk) v [] (.val _ v (.junk v) o)
 rw [sa e2 ess none j .junk (fun _ _ e=>by cases e),BF]at g0
 have k1:=h.nH (Step.refl none w) id (.nest ver e e2 ess (some (j,.junk))) l (fun b F=>by cases F)
  (.nest ver e e2 ess _ hdr (xs.set j v) (m++bs2) O N (by rw [sf E];exact how) (g0.dw (Sub.refl S) (mZ.upd u) fun _ _=>rfl) z (fun i rv e=>by cases e;exact I)) (fun b n=>.inl ⟨_,W,J b n⟩) u
 have T:upd loc id l new=none:=by rw [nE _ _ y];exact h.nu t
 have C:ni (upd loc id l new) (.arr 0 e2 sz v):=by rw [T];trivial
 have k2 := k1.nH (Step.refl none w) new (.arr 0 e2 es) (.arr 0 e2 sz v) (fun b F => by cases F) (.arr 0 e2 es sz v ys Q B a6) (fun b r => by
  have a5:Loc.has (.nest ver e 1 hdr (m++((nT v).toList++bs2))) b:=by
   simp only [Loc.has,Bj]at r⊢
   exact .inr (.inr (.inl (by rw [r];simp)))
  obtain⟨f1,f2,f3⟩:=h.uk W a5
  refine .inr (.inr ⟨fun i L' x g=>?_,f2,f3⟩)
  by_cases G:i=id
  ·subst G
   rw [mU]at x
   cases x
   have r:nT v=some b:=r
   have g:b∈(nT hdr).toList++(m++bs2):=g
   rw [r]at p
   simp only [Bo,Bl,Bj,Bk]at p g
   rcases g with g|g|g
   ·exact p.2.2 b g b (.inr (.inl rfl)) rfl
   ·exact p.2.1.2.2 b g b (.inl rfl) rfl
   ·exact p.2.1.2.1.2.2 b rfl b g rfl
  ·rw [nE _ _ G]at x
   exact f1 i L' G x g) C
 have K:upd (upd loc id l) new (.arr 0 e2 sz v) id=some l:=by rw [nE _ _ (Ne.symm y)];exact mU _ _ _
 have D:ni (upd (upd loc id l) new (.arr 0 e2 sz v) id) l:=by rw [K];exact .same _
 have hR:R S (upd (upd (upd loc id l) new (.arr 0 e2 sz v)) id l) (.ref new 0) v:= .ref new 0 v _ o (by rw [nE _ _ y];exact mU _ _ _) fun a8 e' a9 a7 he=>by cases he;exact⟨AB _,fun _=>rfl⟩
 have g2:NCs P S (upd (upd (upd loc id l) new (.arr 0 e2 sz v)) id l) w (ncs e2 ess (some (j,.ref new 0))) (xs.set j v) (m++bs2):=by
  have q:=g0.dw (Sub.refl S) ((mZ.upd u).trans ((mZ.upd C).trans (mZ.upd D))) fun _ _=>rfl
  exact q.reval I (by rw [sf E];exact E) hR o
 have k3:=k2.nH (Step.refl none w) id (.nest ver e e2 ess (some (j,.ref new 0))) l (fun b F=>by cases F)
  (.nest ver e e2 ess _ hdr (xs.set j v) (m++bs2) O N (by rw [sf E];exact how) g2 z (fun i rv e=>by cases e;exact I)) (fun b n=>.inl ⟨l,K,n⟩) D
 refine⟨S,upd (upd (upd loc id l) new (.arr 0 e2 sz v)) id l,?_⟩
 have Y:(fun k=>if k=new then some (.arr 0 e2 es)else if k=id then some (.nest ver e e2 ess (some (j,.ref new 0)))else s.boxes k)=upd (upd (upd s.boxes id (.nest ver e e2 ess (some (j,.junk)))) new (.arr 0 e2 es)) id (.nest ver e e2 ess (some (j,.ref new 0))):=by
  funext k
  simp only [upd]
  by_cases h1:k=new
  ·subst h1;simp [y]
  ·by_cases E:k=id
   ·subst E;simp [h1]
   ·simp [h1,E]
 rw [Y]
 exact k3
theorem Sim.give(h:Sim P X S loc s tm w){id k ver kv i:Nat}{e e2:TypeId}{ess:List (List PD)}{es:List PD}(c:s.boxes id=some (.nest ver e e2 ess (some (i,.ref k kv))))(hk:s.boxes k=some (.arr kv e2 es))(E:k≠id):
  ∃loc',Sim P X S loc' { s with boxes:=fun j=>if j=k then some .dead else if j=id then some (.nest ver e e2 (ess.set i es) none)else s.boxes j } tm w:=by
 obtain⟨L,hL,hB⟩:=h.boxes id _ c
 obtain⟨Lk,B,W⟩:=h.boxes k _ hk
 cases hB with
 |nest _ _ _ _ _ hdr xs bs b0 a9 how C l hi=>
 cases W with
 |arr _ _ _ sz J ys O N a6=>
 have a7:=hi i _ rfl
 have x:ni (loc k) .dead:=by rw [B];exact .dead _
 have k1:=h.nH (Step.refl none w) k .dead .dead (fun b C=>by cases C) (.dead _ rfl) (fun b C=>by cases C) x
 have u:upd loc k .dead id=some (.nest ver e 1 hdr bs):=by rw [nE _ _ (Ne.symm E)];exact hL
 obtain⟨v,b,z,bs2,rfl,T,h3,h4⟩:=C.split (vU (e2:=e2) (rv:= .ref k kv) a7)
 cases h3 with
 |val _ _ hr h1=>
 have hv:v=J:=by
  cases hr with
  |ref _ _ _ F _ G a5=>
   rw [B]at G
   cases G
   exact(a5 _ _ _ _ .arr).2 rfl
 subst hv
 have p:∀b,nT v=some b->(∀i F,i≠k->loc i=some F->¬F.has b)∧(∀o,S ⟨b,o,none⟩=none)∧(b∈X.B0∨X.w0.heap.size<=b):=fun b q=>h.uk B q
 let Q:Loc:= .nest ver e 1 hdr (z++((nT v).toList++bs2))
 have y:ni (upd loc k .dead id) Q:=by rw [u];exact .held
 have g0:=h4 (.row e2 es) v (nT v).toList (.row e2 es sz v ys O N a6)
 rw [xQ,sf T]at g0
 have K:((nT hdr).toList++(z++((nT v).toList++bs2))).Nodup:=by
  rcases a8:nT v with _|g
  ·simpa using l
  ·have m:¬Loc.has (.nest ver e 1 hdr (z++([]++bs2))) g:=(p g a8).1 id _ (Ne.symm E) hL
   simp only [Loc.has,BF,Bj,not_or]at m
   simp only [BF,Bl,Bj]at l
   simp only [Bo,Bl,Bj,Bk]
   refine⟨l.1,⟨l.2.1.1,⟨sm,l.2.1.2.1,fun a t b c n=>?_⟩,fun a t b c n=>?_⟩,fun a t b c n=>?_⟩
   ·subst t;subst n;exact m.2.2 c
   ·subst n
    rcases c with rfl|c
    ·exact m.2.1 t
    ·exact l.2.1.2.2 a t a c rfl
   ·subst n
    rcases c with c|rfl|c
    ·exact l.2.2 a t a (.inl c) rfl
    ·exact m.1 t
    ·exact l.2.2 a t a (.inr c) rfl
 have k2:=k1.nH (Step.refl none w) id (.nest ver e e2 (ess.set i es) none) Q (fun b C=>by cases C)
  (.nest ver e e2 (ess.set i es) none hdr xs _ b0 a9 (by rw [Bi];exact how) (g0.dw (Sub.refl S) ((mZ.upd x).trans (mZ.upd y)) fun _ _=>rfl) K (fun i rv e=>by cases e))
  (fun b c => by
   simp only [Q,Loc.has,Bj]at c
   by_cases q:nT v=some b
   ·obtain⟨f1,f2,f3⟩:=p b q
    refine .inr (.inr ⟨fun i F r I=>?_,f2,f3⟩)
    by_cases D:i=k
    ·subst D;rw [mU]at r;cases r;cases I
    ·rw [nE _ _ D]at r
     exact f1 i F D r I
   ·refine .inl ⟨_,u,?_⟩
    simp only [Loc.has,BF,Bj]
    rcases c with c|c|c|c
    ·exact .inl c
    ·exact .inr (.inl c)
    ·exact(q (by simpa using c)).elim
    ·exact .inr (.inr c)) y
 refine⟨upd (upd loc k .dead) id Q,?_⟩
 have Y:(fun j=>if j=k then some Box.dead else if j=id then some (.nest ver e e2 (ess.set i es) none)else s.boxes j)=upd (upd s.boxes k .dead) id (.nest ver e e2 (ess.set i es) none):=by
  funext j
  simp only [upd]
  by_cases h1:j=k
  ·subst h1;simp [E]
  ·by_cases T:j=id
   ·subst T;simp [h1]
   ·simp [h1,T]
 rw [Y]
 exact k2
theorem Sim.vG{e2:TypeId}:∀(ess:List (List PD)){S:mW}{xs:List Value}{bs:List Nat},Sim P X S loc s tm w->NCs P S loc w (ess.map (.row e2)) xs bs->bs.Nodup->
  (∀b∈bs,(∀i L,loc i=some L->¬L.has b)∧(∀o,S ⟨b,o,none⟩=none)∧(b∈X.B0∨X.w0.heap.size<=b))->
  ∃S',Sim P X S' loc s tm w∧Sub S S'∧(∀g o,g∉bs->S ⟨g,o,none⟩=none->S' ⟨g,o,none⟩=none)∧∀(i:Nat)es x,ess[i]? =some es->xs[i]? =some x->V S' (.lst es) x
 | [],S,xs,bs,h,J,_,_=>⟨S,h,Sub.refl S,fun _ _ _ h=>h,fun i es x hi=>by simp at hi⟩
 |es::ess,S,xs,bs,h,J,z,k=>by
  cases J with
  | @cons _ v b0 C _ vs hr N=>
  cases hr with
  |row _ _ sz _ I a5 how hf=>
  have p:=(List.nodup_append.1 z).2.1
  by_cases y:es=[]
  ·subst y
   obtain⟨S',g1,g2,g3,g4⟩:=Sim.vG ess h N p fun b l=>k b (List.mem_append.2 (.inr l))
   refine⟨S',g1,g2,fun g o K=>g3 g o fun hm=>K (List.mem_append.2 (.inr hm)),fun i es x hi u=>?_⟩
   cases i with
   |zero=>
    simp only [AT,AD]at hi u
    subst hi;subst u
    obtain⟨a,c,rfl,_⟩:=how.hdr
    exact .nil _ _
   |succ i=>exact g4 i es x (by simpa using hi) (by simpa using u)
  ·have B:0<es.length:=by cases es with|nil=>exact(y rfl).elim|cons=>simp
   have q:=how.qN B
   rcases q.2 with⟨rfl,h0⟩|⟨g,cap,cur,fz,rfl,W,K,E,Q,T,G⟩
   ·omega
   ·have t:=q.cells (g:=g) rfl
    have m:nT (.slice (some ⟨g,0,none⟩) es.length cap)=some g:=by cases cap with|zero=>omega|succ c=>rfl
    obtain⟨f1,f2,f3⟩:=k g (List.mem_append.2 (.inl (by rw [m];simp)))
    have O:=h.rj g I (fun j v Y=>by have:=t j v Y;rw [nO]at this;simpa using this) hf.one f1 f3.symm
    have r:=oK S g I
    have F:∀b∈C,b≠g:=fun b l e=>(List.nodup_append.1 z).2.2 g (by rw [m];simp) b l e.symm
    have n:∀b o,b≠g->S ⟨b,o,none⟩=none->n5 S g I ⟨b,o,none⟩=none:=fun b o l hS=>by simp [n5,hS,l]
    obtain⟨S',g1,g2,g3,g4⟩:=Sim.vG ess O (N.dw r (mZ.refl loc) fun _ _=>rfl) p fun b l=>by
     obtain⟨q1,q2,q3⟩:=k b (List.mem_append.2 (.inr l))
     exact⟨q1,fun o=>n b o (F b l) (q2 o),q3⟩
    refine⟨S',g1,r.trans g2,fun b o l hS=>g3 b o (fun hm=>l (List.mem_append.2 (.inr hm))) (n b o (fun e=>l (List.mem_append.2 (.inl (by rw [m,e];simp)))) hS),fun i D x hi u=>?_⟩
    cases i with
    |zero=>
     simp only [AT,AD]at hi u
     subst hi;subst u
     exact(V.w8 hf f2 E).mono g2
    |succ i=>exact g4 i D x (by simpa using hi) (by simpa using u)
theorem Sim.freezeN(h:Sim P X S loc s tm w){id ver:Nat}{e e2:TypeId}{ess:List (List PD)}(hb:s.boxes id=some (.nest ver e e2 ess none)):
  ∃S',Sim P X S' (upd loc id .dead) { s with boxes:=upd s.boxes id .dead } tm w∧∀v,R S loc (.ref id ver) v->V S' (.lst (ess.map .lst)) v:=by
 obtain⟨L,J,hB⟩:=h.boxes id _ hb
 cases hB with
 |nest _ _ _ _ _ hdr xs bs a9 a8 how n E hi=>
 have I:ni (loc id) .dead:=by rw [J];exact .dead _
 have h1:=h.nH (Step.refl none w) id .dead .dead (fun b n=>by cases n) (.dead _ rfl) (fun b n=>by cases n) I
 have l:∀b,Loc.has (.nest ver e 1 hdr bs) b->(∀i L,upd loc id .dead i=some L->¬L.has b)∧(∀o,S ⟨b,o,none⟩=none)∧(b∈X.B0∨X.w0.heap.size<=b):=fun b r=>by
  obtain⟨f1,f2,f3⟩:=h.uk J r
  refine⟨fun i T m B=>?_,f2,f3⟩
  by_cases y:i=id
  ·subst y;rw [mU]at m;cases m;cases B
  ·rw [nE _ _ y]at m
   exact f1 i T y m B
 have W:∀v,R S loc (.ref id ver) v->v=hdr:=fun v G=>by
  cases G with
  |ref _ _ _ T _ z N=>
   rw [J]at z
   cases z
   exact(N _ _ _ _ .nest).2 rfl
 obtain⟨S1,g1,g2,g3,g4⟩:=Sim.vG ess h1 (n.dw (Sub.refl S) (mZ.upd I) fun _ _=>rfl) (List.nodup_append.1 E).2.1 fun b r=>l b (List.mem_append.2 (.inr r))
 by_cases k:ess=[]
 ·subst k
  refine⟨S1,g1,fun v G=>?_⟩
  rw [W v G]
  obtain⟨a,c,rfl,_⟩:=how.hdr
  exact .nil _ _
 have F:0<ess.length:=by cases ess with|nil=>exact(k rfl).elim|cons=>simp
 have p:=how.qN F
 have hlen:ess.length=xs.length:=by have:=n.len;rwa [vT]at this
 have u:Flat S1 1 (ess.map .lst) xs:=by
  refine⟨fun e he=>?_,n.one,fun i e j x hi C=>?_⟩
  ·obtain⟨es,_,rfl⟩:=List.mem_map.1 he
   rfl
  ·rw [List.getElem?_map,Bn]at hi
   obtain⟨es,k,rfl⟩:=hi
   cases j with
   |succ j=>simp [PD.cells]at C
   |zero=>
    simp only [PD.cells,AT,AD]at C
    subst C
    have D:i<xs.length:=by rw [<-hlen];exact(List.getElem?_eq_some_iff.1 k).1
    exact⟨xs[i],by rw [Nat.mul_one,Nat.add_zero];exact zc D,g4 i es _ k (zc D)⟩
 rcases p.2 with⟨rfl,h0⟩|⟨g,cap,cur,fz,rfl,a7,hg,O,a5,a6,Q⟩
 ·omega
 ·have t:=p.cells (g:=g) rfl
  have q:nT (.slice (some ⟨g,0,none⟩) ess.length cap)=some g:=by cases cap with|zero=>omega|succ c=>rfl
  obtain⟨f1,f2,f3⟩:=l g (List.mem_append.2 (.inl (by rw [q];simp)))
  have K:∀o,S1 ⟨g,o,none⟩=none:=fun o=>g3 g o (fun hm=>(List.nodup_append.1 E).2.2 g (by rw [q];simp) g hm rfl) (f2 o)
  have Y:=g1.rj g xs (fun j v C=>by have:=t j v C;rw [nO]at this;simpa using this) n.one f1 f3.symm
  refine⟨_,Y,fun v G=>?_⟩
  rw [W v G]
  have:=V.w8 (c:=cap) u K (by simpa using O)
  simpa using this
theorem uB.close{sz i o:Nat}{es:List PD}{xs:List Value}{p:PD}{u:Value}(hf:uB S sz es xs i o)(hi:i<es.length)(y:o<sz)(t:p.one=true)(hu:xs[i*sz+o]? =some u)(v:V S p u):
  Flat S sz (es.set i ((es.getD i default).put o [p])) xs:=by
 have m:es[i]? =some es[i]:=zc hi
 have r:es.getD i default=es[i]:=by simp [List.getD,m]
 rw [r]
 have g:es[i].cells.length=sz:=hf.len _ (Aa hi)
 obtain⟨n,q⟩:=PD.wJ es[i] o [p] so (by simpa using t)
 refine⟨fun e he=>?_,hf.one,fun k e j x h1 a=>?_⟩
 ·rcases List.mem_or_eq_of_mem_set he with he|rfl
  ·exact hf.len e he
  ·rw [n,g]
 ·rw [AZ]at h1
  by_cases b:i=k
  ·subst b
   rw [if_pos rfl,if_pos hi]at h1
   cases h1
   rw [q]at a
   simp only [List.length_singleton]at a
   by_cases c:o<=j∧j<o+1
   ·rw [if_pos c]at a
    obtain rfl:j=o:=by omega
    simp only [Nat.sub_self,AT,AD]at a
    subst a
    exact⟨u,hu,v⟩
   ·rw [if_neg c]at a
    exact hf.cell i _ j x m a (fun l=>c om)
  ·rw [if_neg b]at h1
   exact hf.cell k e j x h1 a (fun l=>b l.1.symm)
theorem Sim.opn(h:Sim P X S loc s tm w){id ver i o:Nat}{e:TypeId}{es:List PD}{x c:PD}(g:s.boxes id=some (.arr ver e es))(m:es[i]? =some x)(a:x.cells[o]? =some c):
  ∃loc',Sim P X S loc' { s with boxes:=fun k=>if k=id then some (.hole ver e es i o (.d c))else s.boxes k } tm w:=by
 obtain⟨L,n,q⟩:=h.boxes id _ g
 cases q with
 |arr _ _ _ sz hdr xs l how hf=>
 obtain⟨u,hu,t⟩:=hf.cell i x o c m a
 have r:o<sz:=by rw [<-hf.len x (List.mem_of_getElem? m)];exact(List.getElem?_eq_some_iff.1 a).1
 exact ⟨_, h.nH (Step.refl none w) id (.hole ver e es i o (.d c)) (.arr ver e sz hdr) (fun b a => by cases a)
  (.hole ver e es i o (.d c) sz hdr xs u l how ⟨hf.len,hf.one,fun k e j x h1 p _=>hf.cell k e j x h1 p⟩ (List.getElem?_eq_some_iff.1 m).1 r hu (.d t)) (fun b g=>.inl ⟨_,n,g⟩) (by rw [n];exact .same _)⟩
theorem Sim.clsD(h:Sim P X S loc s tm w){id ver i o:Nat}{e:TypeId}{es:List PD}{c:PD}(a:s.boxes id=some (.hole ver e es i o (.d c)))(g:c.one=true):
  ∃loc',Sim P X S loc' { s with boxes:=fun k=>if k=id then some (.arr ver e (es.set i ((es.getD i default).put o [c])))else s.boxes k } tm w:=by
 obtain⟨L,l,m⟩:=h.boxes id _ a
 cases m with
 |hole _ _ _ _ _ _ sz hdr xs u j how hf hi n hu p=>
 cases p with
 |d q=>
 exact ⟨_, h.nH (Step.refl none w) id (.arr ver e (es.set i ((es.getD i default).put o [c]))) (.arr ver e sz hdr) (fun b g => by cases g)
  (.arr ver e _ sz hdr xs j (by rw [Bi];exact how) (hf.close hi n g hu q)) (fun b a=>.inl ⟨_,l,a⟩) (by rw [l];exact .same _)⟩
theorem Sim.clsR(h:Sim P X S loc s tm w){id k ver n i o:Nat}{e x:TypeId}{es a:List PD}(m:s.boxes id=some (.hole ver e es i o (.ref k n)))(hk:s.boxes k=some (.arr n x a))(c:k≠id):
  ∃S' loc',Sim P X S' loc' { s with boxes:=fun j=>if j=k then some .dead else if j=id then some (.arr ver e (es.set i ((es.getD i default).put o [.lst a])))else s.boxes j } tm w:=by
 obtain⟨S',h1,D,G,t⟩:=h.tR hk
 have y:upd s.boxes k .dead id=some (.hole ver e es i o (.ref k n)):=by rw [nE _ _ (Ne.symm c)];exact m
 obtain⟨F,q,p⟩:=h.boxes id _ m
 cases p with
 |hole _ _ _ _ _ _ sz hdr xs u v how hf hi B hu C=>
 have E:V S' (.lst a) u:=(t n x a hk).1 u C
 have g:upd loc k .dead id=some (.arr ver e sz hdr):=by rw [nE _ _ (Ne.symm c)];exact q
 have l:=h1.nH (Step.refl none w) id (.arr ver e (es.set i ((es.getD i default).put o [.lst a]))) (.arr ver e sz hdr) (fun b z=>by cases z)
  (.arr ver e _ sz hdr xs v (by rw [Bi];exact how) ((hf.mono D).close hi B rfl hu E)) (fun b m=>.inl ⟨_,g,m⟩) (by rw [g];exact .same _)
 refine⟨S',upd (upd loc k .dead) id (.arr ver e sz hdr),?_⟩
 have r:(fun j=>if j=k then some Box.dead else if j=id then some (.arr ver e (es.set i ((es.getD i default).put o [.lst a])))else s.boxes j)=upd (upd s.boxes k .dead) id (.arr ver e (es.set i ((es.getD i default).put o [.lst a]))):=by
  funext j
  simp only [upd]
  by_cases h1:j=k
  ·subst h1;simp [c]
  ·by_cases l:j=id
   ·subst l;simp [h1]
   ·simp [h1,l]
 rw [r]
 exact l
theorem wX{nb:Nat}(c7:∀k b,X.par k=some b->k<nb∧∀ver e sz hdr,b.Row ver e sz hdr->ver=0){g:uC}{s':St}(a:oi P nb s g=some s')(h:Sim P X S loc s tm w):∃S' loc',Sim P X S' loc' s' tm w:=by
 cases g with
 |dw rs bs=>
  simp only [oi]at a
  rcases h1:gets s.nd rs with _|l
  ·simp [h1]at a
  rcases E:gets s.boxes bs with _|m
  ·simp [h1,E]at a
  simp only [h1,E]at a
  split at a
  rotate_left
  ·cases a
  rename_i g5
  cases a
  obtain⟨l1,_⟩:=uf h1
  obtain⟨m1,m2⟩:=uf E
  let loc':nB:=fun id=>if bs.contains id then(loc id).map (nf (nq nb id))else none
  have N:∀id W,loc' id=some W->bs.contains id=true∧∃L,loc id=some L∧W=nf (nq nb id) L:=by
   intro id W G
   simp only [loc']at G
   split at G
   ·rename_i hm
    rw [Bn]at G
    obtain⟨L,h3,rfl⟩:=G
    exact⟨hm,L,h3,rfl⟩
   ·cases G
  have D:rK ⟨fun id=>if bs.contains id then some id else none,nN s.boxes (nq nb)⟩ loc loc':=by
   refine rK.mk' (P:=P) (S:=S) (w:=w) h.boxes fun id k L z G=>?_
   try simp only at z
   split at z
   ·rename_i hm
    cases z
    simp only [loc',hm,if_true,G,Aw]
   ·cases z
  have F := h.mem.ren (loc' := loc') (b' := assoc (m.map fun x => (x.1, o0 ⟨fun id => if bs.contains id then some id else none, nN s.boxes (nq nb)⟩ (nq nb x.1) x.2))) D (fun k f5 hk => by
    obtain⟨b0,hm,rfl⟩:=vd (fun k b=>o0 ⟨fun id=>if bs.contains id then some id else none,nN s.boxes (nq nb)⟩ (nq nb k) b) hk
    obtain⟨d5,c5⟩:=m1 _ hm
    simp only at d5 c5
    have e1:bs.contains k=true:=by simpa using c5
    exact⟨k,b0,nq nb k,by simp [c5],d5,rfl,fun L G=>by simp only [loc',e1,if_true,G,Aw]⟩) (fun k W hk=>by
    obtain⟨hm,L,h3,rfl⟩:=N k W hk
    refine⟨?_,k,L,_,by simp only [hm,if_true],h3,rfl⟩
    obtain⟨v,I⟩:=m2 k (by simpa using hm)
    exact ve (fun k b=>o0 ⟨fun id=>if bs.contains id then some id else none,nN s.boxes (nq nb)⟩ (nq nb k) b) I)
  refine⟨S,loc',h.nt,?_,F.boxes,F.dom,h.imm,h.qT,F.pH,F.inj,?_,h.frame,h.s0,?_,h.sJ,h.bs,h.ob⟩
  ·intro t rv K
   obtain⟨v0,hm,rfl⟩:=wB (ov ⟨fun id=>if bs.contains id then some id else none,nN s.boxes (nq nb)⟩) K
   obtain⟨v,I,d0⟩:=h.nd t v0 (l1 _ hm).1
   exact⟨v,I,R.ov D d0⟩
  ·intro id W b G y
   obtain⟨_,L,hl,rfl⟩:=N id W G
   rw [pw]at y
   exact h.own id L b hl y
  ·intro k L0 hk
   have a8:=(c7 k L0 hk).1
   have:=List.all_eq_true.1 g5 k (List.mem_range.2 a8)
   obtain⟨L,h3,h4⟩:=h.par k L0 hk
   exact⟨nf (nq nb k) L,by simp only [loc',this,if_true,h3,Aw],ze a8 (c7 k L0 hk).2 h4⟩
 |own t id e=>
  simp only [oi]at a
  split at a
  ·rename_i k K y hk
   cases a
   obtain⟨loc',h1,E,_⟩:=h.sb y (Step.refl none w) hk (hdr:= .slice none 0 0) (es:=[]) (xs:=[]) (.inl (.of (World.ownsRow_nil w 0 e _))) (Flat.nil S _) (fun g a=>by cases a) rfl
   refine⟨S,loc',?_⟩
   refine h1.ru _ fun x rv T=>?_
   split at T
   ·rename_i a6
    subst a6
    cases T
    obtain⟨v,I,D⟩:=h.nd x _ K
    cases D with
    |cI=>exact⟨_,I,E⟩
   ·exact h1.nd x rv T
  ·cases a
   exact⟨S,loc,h⟩
  ·cases a
 |freeze t=>
  simp only [oi]at a
  rcases K:s.nd t with _|rv
  ·simp [K]at a
  rw [K]at a
  cases rv<;>first|(simp at a;done)|skip
  rename_i id ver
  simp only at a
  rcases y:s.boxes id with _|Q
  ·simp [y]at a
  rw [y]at a
  cases Q<;>first|(simp at a;done)|skip
  rename_i C e es
  simp only at a
  by_cases B:ver=C
  rotate_left
  ·simp [B]at a
  subst B
  simp only [if_true,AD]at a
  subst a
  obtain⟨S',h1,hs,hl,I⟩:=h.tR y
  have I:=fun v D=>(I ver e es y).1 v D
  refine⟨S',_,h1.ru _ fun x rv T=>?_⟩
  split at T
  ·rename_i a6
   subst a6
   cases T
   obtain⟨v,d2,D⟩:=h.nd x _ K
   exact⟨v,d2,.d (I v D)⟩
  ·exact h1.nd x rv T
 |frz p=>
  simp only [oi]at a
  rcases z:pe s p with _|rv
  ·simp [z]at a
  rw [z]at a
  cases rv<;>first|(simp at a;done)|skip
  ·simp only [AD]at a
   subst a
   exact⟨S,loc,h⟩
  ·simp only [AD]at a
   subst a
   exact⟨S,loc,h.pG z fun v D=>by cases D;exact .d (.nil _ _)⟩
  ·rename_i id ver
   simp only at a
   rcases y:s.boxes id with _|Q
   ·simp [y]at a
   rw [y]at a
   cases Q<;>first|(simp at a;done)|skip
   rename_i C e es
   simp only at a
   by_cases B:ver=C
   rotate_left
   ·simp [B]at a
   subst B
   simp only [if_true,AD]at a
   subst a
   obtain⟨S',h1,hs,hl,I⟩:=h.tR y
   have I:=fun v D=>(I ver e es y).1 v D
   have J:({ s with boxes:=upd s.boxes id .dead }:St)={ s with boxes:=fun i=>if i=id then some .dead else s.boxes i }:=rfl
   rw [J]at h1
   have h8:pe ({ s with boxes:=fun i=>if i=id then some .dead else s.boxes i }:St) p=some (.ref id ver):=qP z fun off e=>by
    subst e
    simp only [pe,y]at z
    cases z
   cases p with
   |reg t=>
    refine⟨S',_,h1.ru _ fun x rv T=>?_⟩
    split at T
    ·rename_i a6
     subst a6
     cases T
     obtain⟨v,d2,D⟩:=h.nd x _ z
     exact⟨v,d2,.d (I v D)⟩
    ·exact h1.nd x rv T
   |cell i off=>
    have a5:i≠id:=fun e=>by
     subst e
     simp only [pe,y]at z
     cases z
    simp only [pe]at z
    rcases b1:s.boxes i with _|Q
    ·simp [b1]at z
    rw [b1]at z
    cases Q with
    |arr _ _ _=>cases z
    |dead=>cases z
    |map _ _ _=>cases z
    |nest _ _ _ _ _=>cases z
    |hole _ _ _ _ _ _=>cases z
    |var cs=>
     simp only at z
     simp only [Dw.pG,a5,if_false,b1]
     refine⟨S',_,h1.nt,h1.nd,fun j Q hj=>?_,fun j L G=>?_,h1.imm,h1.qT,h1.pH,h1.inj,h1.own,h1.frame,h1.s0,h1.par,h1.sJ,h1.bs,h1.ob⟩
     ·simp only at hj
      by_cases b2:j=i
      ·subst b2
       simp only [if_true]at hj
       cases hj
       obtain⟨L,G,hB⟩:=h.boxes j _ b1
       obtain⟨W,a7,f6⟩:=h1.boxes j (.var cs) (by simp only [a5,if_false];exact b1)
       refine⟨W,a7,?_⟩
       have g0:W=L:=by
        rw [nE _ _ a5,G]at a7
        exact(BX a7).symm
       subst g0
       cases hB with
       |var _ b t vs hw g8 O=>
        cases f6 with
        |var _ _ t' h9 f3 h7 g4=>
         rw [hw]at f3
         cases f3
         exact .var _ b t vs hw (by simpa using g8) (R.vp g4 fun v b6=>.d (I v (O off _ v z b6)))
      ·simp only [b2,if_false]at hj
       exact h1.boxes j Q hj
     ·obtain⟨Q,c3⟩:=h1.dom j L G
      by_cases b2:j=i
      ·subst b2;exact⟨_,if_pos rfl⟩
      ·exact⟨Q,by simp only [b2,if_false];exact c3⟩
 |ownp p id e=>
  simp only [oi]at a
  split at a
  ·rename_i k z y hk
   cases a
   obtain⟨loc',h1,E,_⟩:=h.sb y (Step.refl none w) hk (hdr:= .slice none 0 0) (es:=[]) (xs:=[]) (.inl (.of (World.ownsRow_nil w 0 e _))) (Flat.nil S _) (fun g a=>by cases a) rfl
   have J:({ s with boxes:=upd s.boxes id (.arr 0 e []) }:St)={ s with boxes:=fun i=>if i=id then some (.arr 0 e [])else s.boxes i }:=rfl
   refine⟨S,loc',Sim.pG (s:={ s with boxes:=fun i=>if i=id then some (.arr 0 e [])else s.boxes i }) h1 (qP z fun off he=>?_) fun v D=>?_⟩
   ·subst he
    simp only [pe,y]at z
    cases z
   ·cases D with
    |cI=>exact E
  ·cases a
   exact⟨S,loc,h⟩
  ·cases a
 |mv p new=>
  simp only [oi]at a
  rcases z:pe s p with _|rv
  ·simp [z]at a
  rw [z]at a
  cases rv<;>first|(simp at a;done)|(simp only [AD]at a;subst a;exact⟨S,loc,h⟩)|skip
  rename_i id ver
  simp only at a
  by_cases c4:id=new
  ·rw [if_pos c4]at a;cases a;exact⟨S,loc,h⟩
  rw [if_neg c4]at a
  by_cases e5:nb<=id∧nb<=new
  rotate_left
  ·rw [if_neg e5]at a;cases a
  rw [if_pos e5]at a
  simp only [AD]at a
  subst a
  let pos:Nat->Option Nat:=fun i=>if i=id then some new else if i=new then none else some i
  let loc':nB:=fun k=>if k=new then loc id else if k=id then none else loc k
  have sv:∀L:Loc,nf (fun c=>c) L=L:=fun L=>zB L fun _=>rfl
  have e6:∀i k L,pos i=some k->loc i=some L->loc' k=some L:=by
   intro i k L h1 E
   simp only [pos]at h1
   split at h1
   ·rename_i e;subst e;cases h1;simp only [loc',if_true];exact E
   ·split at h1
    ·cases h1
    ·rename_i n1 n2;cases h1;simp only [loc',n1,n2,if_false];exact E
  have D:rK ⟨pos,nN s.boxes fun _ c=>c⟩ loc loc':=rK.mk' (P:=P) (S:=S) (w:=w) h.boxes fun i k L h1 E=>by rw [sv];exact e6 i k L h1 E
  have b4:∀k,(∃i,pos i=some k∧∀α(f:Nat->Option α),(if k=new then f id else if k=id then none else f k)=f i)∨(k=id):=by
   intro k
   by_cases h1:k=new
   ·subst h1;exact .inl ⟨id,by simp only [pos,if_true],fun α f=>if_pos rfl⟩
   ·by_cases E:k=id
    ·exact .inr E
    ·exact .inl ⟨k,by simp only [pos,h1,E,if_false],fun α f=>by rw [if_neg h1,if_neg E]⟩
  have Y:∀α(f:Nat->Option α),(if id=new then f id else if id=id then none else f id)=none:=fun α f=>by rw [if_neg c4,if_pos rfl]
  have F:=h.mem.ren (loc':=loc') (b':=fun i=>if i=new then(s.boxes id).map (o0 ⟨pos,nN s.boxes fun _ c=>c⟩ fun c=>c)else if i=id then none else(s.boxes i).map (o0 ⟨pos,nN s.boxes fun _ c=>c⟩ fun c=>c)) D
   (fun k f5 hk => by
    rcases b4 k with⟨i,h1,E⟩|rfl
    ·have hk:=(E _ fun i=>(s.boxes i).map (o0 ⟨pos,nN s.boxes fun _ c=>c⟩ fun c=>c)).symm.trans hk
     rw [Bn]at hk
     obtain⟨b0,h3,rfl⟩:=hk
     exact⟨i,b0,fun c=>c,h1,h3,rfl,fun L G=>by rw [sv];exact e6 i k L h1 G⟩
    ·have:=(Y _ fun i=>(s.boxes i).map (o0 ⟨pos,nN s.boxes fun _ c=>c⟩ fun c=>c)).symm.trans hk
     cases this)
   (fun k W hk => by
    rcases b4 k with⟨i,h1,E⟩|rfl
    ·have e3:loc i=some W:=(E _ loc).symm.trans hk
     obtain⟨Q,c3⟩:=h.dom i W e3
     refine⟨⟨o0 ⟨pos,nN s.boxes fun _ c=>c⟩ (fun c=>c) Q,?_⟩,i,W,fun c=>c,h1,e3,(sv W).symm⟩
     rw [E _ fun i=>(s.boxes i).map (o0 ⟨pos,nN s.boxes fun _ c=>c⟩ fun c=>c),c3]
     rfl
    ·have:=(Y _ loc).symm.trans hk
     cases this)
  refine⟨S,loc',h.nt,fun t rv K=>?_,F.boxes,F.dom,h.imm,h.qT,F.pH,F.inj,fun k L b G y=>?_,h.frame,h.s0,fun k L0 hk=>?_,h.sJ,h.bs,h.ob⟩
  ·simp only [Bn]at K
   obtain⟨c0,h1,rfl⟩:=K
   obtain⟨v,I,d0⟩:=h.nd t c0 h1
   exact⟨v,I,R.ov D d0⟩
  ·rcases b4 k with⟨i,h1,E⟩|rfl
   ·exact h.own i L b ((E _ loc).symm.trans G) y
   ·have:=(Y _ loc).symm.trans G
    cases this
  ·have a8:=(c7 k L0 hk).1
   obtain⟨L,h3,h4⟩:=h.par k L0 hk
   refine⟨L,?_,h4⟩
   have n1:k≠new:=by omega
   have n2:k≠id:=by omega
   simp only [loc',n1,n2,if_false]
   exact h3
 |fixv id=>
  simp only [oi]at a
  rcases y:s.boxes id with _|Q
  ·simp [y]at a
  rw [y]at a
  cases Q<;>first|(simp at a;done)|skip
  rename_i cs
  simp only at a
  rcases ha:rO cs with _|ps
  ·simp [ha]at a
  simp only [ha]at a
  by_cases b3:ps.all PD.one=true
  rotate_left
  ·rw [if_neg b3]at a;cases a
  rw [if_pos b3]at a
  simp only [AD]at a
  subst a
  have g6:=qV ha
  subst g6
  obtain⟨L,G,hB⟩:=h.boxes id _ y
  cases hB with
  |var _ b t vs hw hl O=>
  have b6:∀(i:Nat)p u,ps[i]? =some p->vs[i]? =some u->V S p u:=fun i p u h1 E=>by
   have:=O i (.d p) u (by simp [h1]) E
   cases this with|d h=>exact h
  have hlen:vs.size=ps.length:=by simpa using hl
  have h1:∀u∈vs,u.oneCell'=true:=fun u hu=>by
   obtain⟨i,hi,rfl⟩:=Array.getElem_of_mem hu
   have e0:i<ps.length:=by omega
   exact((b6 i ps[i] vs[i] (zc e0) (Ad hi)).pR (List.all_eq_true.1 b3 _ (Aa e0))).1
  obtain⟨k1,k2,k3⟩:=h.yV y G hw h1
  have J:({ s with boxes:=upd s.boxes id .dead }:St)={ s with boxes:=fun i=>if i=id then some .dead else s.boxes i }:=rfl
  rw [J]at k1
  refine⟨_,_,k1.ru (fun t=>(s.nd t).map (fixRV id ps)) fun t rv K=>?_⟩
  rw [Bn]at K
  obtain⟨c0,E,rfl⟩:=K
  obtain⟨v,I,D⟩:=h.nd t c0 E
  obtain⟨v',f1,f0⟩:=k1.nd t c0 E
  rw [I]at f1
  cases f1
  refine⟨v,I,?_⟩
  unfold fixRV
  split
  ·rename_i i off
   split
   ·rename_i hi
    subst hi
    cases D with
    |ptr _ _ _ L2 ho d3 z=>
     rw [G]at d3
     cases d3
     rw [(z b).1 rfl]
     have d4:∀(j:Nat)c,(ps.drop off)[j]? =some c->∃u,vs[off+j]? =some u∧V S c u:=fun j c hj=>by
      rw [List.getElem?_drop]at hj
      have a8:off+j<vs.size:=by rw [hlen];exact(List.getElem?_eq_some_iff.1 hj).1
      exact⟨_,Ad a8,b6 _ c _ hj (Ad a8)⟩
     refine .cptr _ b off (fun j=>(vs[off+j]?).getD default) (fun j c hj=>?_) fun j c hj=>?_
     ·obtain⟨u,hu,_⟩:=d4 j c hj
      rw [k3 _ u hu,hu];rfl
     ·obtain⟨u,hu,h0⟩:=d4 j c hj
      rw [hu]
      exact h0.mono k2
   ·exact f0
  ·exact f0
 |bump t=>
  simp only [oi]at a
  rcases K:s.nd t with _|rv
  ·simp [K]at a
  rw [K]at a
  cases rv<;>first|(simp at a;done)|skip
  rename_i id ver
  simp only at a
  rcases y:s.boxes id with _|Q
  ·simp [y]at a
  rw [y]at a
  cases Q<;>first|(simp at a;done)|skip
  rename_i C e es
  simp only at a
  by_cases B:ver=C
  rotate_left
  ·simp [B]at a
  subst B
  simp only [if_true,AD]at a
  subst a
  obtain⟨v,I,D⟩:=h.nd t _ K
  obtain⟨sz,xs,N,d1,how,hf⟩:=h.qu y D
  have ho:v.oneCell'=true:=by cases D with|ref _ _ _ _ ho=>exact ho
  have b5:ni (loc id) (.arr (ver+1) e sz v):=by
   rw [N]
   exact .arr om
  have a9:=h.nH (Step.refl none w) id (.arr (ver+1) e es) (.arr (ver+1) e sz v) (fun b O=>by cases O) (.arr (ver+1) e es sz v xs d1 how hf) (fun b c2=>.inl ⟨_,N,c2⟩) b5
  have J:({ s with boxes:=upd s.boxes id (.arr (ver+1) e es) }:St)={ s with boxes:=fun i=>if i=id then some (.arr (ver+1) e es)else s.boxes i }:=rfl
  rw [J]at a9
  refine⟨S,_,a9.ru _ fun x rv T=>?_⟩
  split at T
  ·rename_i a6
   subst a6
   cases T
   exact⟨v,I,.ref id (ver+1) v _ ho (mU _ _ _) fun C e' f4 c1 he=>by cases he;exact⟨AB _,fun _=>rfl⟩⟩
  ·exact a9.nd x rv T
 |bumpp p=>
  simp only [oi]at a
  rcases K:pe s p with _|rv
  ·simp [K]at a
  rw [K]at a
  cases rv<;>first|(simp at a;done)|skip
  rename_i id ver
  simp only at a
  rcases y:s.boxes id with _|Q
  ·simp [y]at a
  rw [y]at a
  cases Q<;>first|(simp at a;done)|skip
  rename_i C e es
  simp only at a
  by_cases B:ver=C
  rotate_left
  ·simp [B]at a
  subst B
  simp only [if_true,AD]at a
  subst a
  obtain⟨L,G,hB⟩:=h.boxes id _ y
  cases hB with
  |arr _ _ _ sz hdr xs d1 how hf=>
  have b5:ni (loc id) (.arr (ver+1) e sz hdr):=by
   rw [G]
   exact .arr om
  have a9:=h.nH (Step.refl none w) id (.arr (ver+1) e es) (.arr (ver+1) e sz hdr) (fun b O=>by cases O) (.arr (ver+1) e es sz hdr xs d1 how hf) (fun b c2=>.inl ⟨_,G,c2⟩) b5
  have J:({ s with boxes:=upd s.boxes id (.arr (ver+1) e es) }:St)={ s with boxes:=fun i=>if i=id then some (.arr (ver+1) e es)else s.boxes i }:=rfl
  rw [J]at a9
  have c8:pe { s with boxes:=fun i=>if i=id then some (.arr (ver+1) e es)else s.boxes i } p=some (.ref id ver):=qP K fun off c9=>by
   subst c9
   simp only [pe,y]at K
   cases K
  refine⟨S,_,a9.plSet' c8 fun v I=>?_⟩
  have g9:PlAt loc tm w v p:=by
   cases p with
   |reg t=>exact I
   |cell i off=>
    obtain⟨b,vs,ty,h1,E,h3⟩:=I
    refine⟨b,vs,ty,?_,E,h3⟩
    by_cases hi:i=id
    ·subst hi;rw [mU]at h1;cases h1
    ·rwa [nE _ _ hi]at h1
  have D:=h.plAt K v g9
  cases D with
  |ref _ _ _ W ho a7 O=>
   rw [G]at a7
   cases a7
   have:=(O ver e sz hdr .arr).2 rfl
   subst this
   exact .ref id (ver+1) _ _ ho (mU _ _ _) fun C e' f4 c1 he=>by cases he;exact⟨AB _,fun _=>rfl⟩
 |ownn p id e e2=>
  simp only [oi]at a
  split at a
  ·rename_i k z y hk g7
   cases a
   have N:=h.nu y
   have b5:ni (loc id) (.nest 0 e 1 (.slice none 0 0) []):=by rw [N];trivial
   have h1:=h.nH (Step.refl none w) id (.nest 0 e e2 [] none) (.nest 0 e 1 (.slice none 0 0) []) (fun b O=>by cases O)
    (.nest 0 e e2 [] none _ [] [] hk ⟨k,g7⟩ (.inl (.of (World.ownsRow_nil w 0 e _))) .nil (by simp [nT]) (fun i rv e=>by cases e)) (fun b y=>by simp [Loc.has,nT]at y) b5
   have J:({ s with boxes:=upd s.boxes id (.nest 0 e e2 [] none) }:St)={ s with boxes:=fun i=>if i=id then some (.nest 0 e e2 [] none)else s.boxes i }:=rfl
   rw [J]at h1
   refine⟨S,_,Sim.pG (s:={ s with boxes:=fun i=>if i=id then some (.nest 0 e e2 [] none)else s.boxes i }) h1 (qP z fun off he=>?_) fun v D=>?_⟩
   ·subst he
    simp only [pe,y]at z
    cases z
   ·cases D with
    |cI=>exact .ref id 0 _ _ rfl (mU _ _ _) fun C e' f4 c1 he=>by cases he;exact⟨AB _,fun _=>rfl⟩
  ·cases a
   exact⟨S,loc,h⟩
  ·cases a
 |lend id i new=>
  simp only [oi]at a
  split at a
  rotate_left
  ·cases a
  rename_i ver e e2 ess y e4
  rcases c6:w6 s ess i with _|⟨j,es⟩
  ·simp [c6]at a
  simp only [c6,AD]at a
  subst a
  exact h.lend y e4 (yB c6)
 |give id=>
  simp only [oi]at a
  split at a
  ·rename_i ver e e2 ess i k kv y
   split at a
   rotate_left
   ·cases a
   rename_i h5 e' es hk
   split at a
   rotate_left
   ·cases a
   rename_i O
   obtain⟨rfl,rfl,a5⟩:=O
   cases a
   exact⟨S,h.give y hk a5⟩
  ·cases a
  ·cases a
   exact⟨S,loc,h⟩
 |frzn p=>
  simp only [oi]at a
  split at a
  ·rename_i id ver z
   split at a
   rotate_left
   ·cases a
   rename_i C e e2 ess y
   split at a
   rotate_left
   ·cases a
   rename_i B
   subst B
   cases a
   obtain⟨S',h1,I⟩:=h.freezeN y
   have J:({ s with boxes:=upd s.boxes id .dead }:St)={ s with boxes:=fun i=>if i=id then some .dead else s.boxes i }:=rfl
   rw [J]at h1
   have c8:pe { s with boxes:=fun i=>if i=id then some .dead else s.boxes i } p=some (.ref id ver):=qP z fun off c9=>by
    subst c9
    simp only [pe,y]at z
    cases z
   refine⟨S',_,h1.plSet' c8 fun v f2=>.d (I v (h.plAt z v ?_))⟩
   cases p with
   |reg t=>exact f2
   |cell i off=>
    obtain⟨b,vs,ty,g1,g2,g3⟩:=f2
    refine⟨b,vs,ty,?_,g2,g3⟩
    by_cases hi:i=id
    ·subst hi;rw [mU]at g1;cases g1
    ·rwa [nE _ _ hi]at g1
  ·rename_i z
   cases a
   exact⟨S,loc,h.pG z fun v D=>by cases D;exact .d (.nil _ _)⟩
  ·cases a
   exact⟨S,loc,h⟩
  ·cases a
 |opn id r o=>
  simp only [oi]at a
  split at a
  rotate_left
  ·cases a
  rename_i ver e es q n y D
  split at a
  rotate_left
  ·cases a
  rename_i x T
  split at a
  rotate_left
  ·cases a
  rename_i c O
  cases a
  exact⟨S,h.opn y T O⟩
 |cls id=>
  simp only [oi]at a
  split at a
  ·rename_i ver e es i o c y
   split at a
   rotate_left
   ·cases a
   rename_i O
   cases a
   exact⟨S,h.clsD y O⟩
  ·rename_i ver e es i o k kv y
   split at a
   rotate_left
   ·cases a
   rename_i h5 e' h6 hk
   split at a
   rotate_left
   ·cases a
   rename_i O
   obtain⟨rfl,a5⟩:=O
   cases a
   exact h.clsR y hk a5
  ·cases a
  ·cases a
   exact⟨S,loc,h⟩
theorem tS{nb:Nat}(a:∀k b,X.par k=some b->k<nb∧∀ver e sz hdr,b.Row ver e sz hdr->ver=0):∀(gs:List uC){s s':St}{S:mW}{loc:nB},nA P nb s gs=some s'->Sim P X S loc s tm w->∃S' loc',Sim P X S' loc' s' tm w
 | [],s,s',S,loc,h,c=>by simp only [nA,AD]at h;subst h;exact⟨S,loc,c⟩
 |g::gs,s,s',S,loc,h,c=>by
  simp only [nA]at h
  rcases h1:oi P nb s g with _|s1
  ·simp [h1]at h
  simp only [h1]at h
  obtain⟨S1,j,i⟩:=wX a h1 c
  exact tS a gs h i
end
def Ex.out:Ex->Exit
 | .normal=>.normal
 | .exit id=>.exit id
 | .ret=>.ret
section
variable {P:Program}{X:Ctx}{H:Hints}{f:FuncId}{nb:Nat}{call:ng}{fuel:Nat}
theorem sR{c:Code}{body:St->Option (Ex×St)}{Q:Exit->Act->World->Prop}
  (b:∀{s:St}{e:Ex}{s':St}{a:Act}{w:World}{Q:Exit->Act->World->Prop},body s=some (e,s')->qt P X s a w->(∀i w',qt P X s' i w'->Q e.out i w')->c.wp P Q a w):
  ∀(n:Nat){s:St}{e:Ex}{s':St}{a:Act}{w:World},qZ body n s=some (e,s')->qt P X s a w->(∀i w',qt P X s' i w'->Q e.out i w')->Code.rounds P c Q n a w
 |0,s,e,s',a,w,h,_,_=>by simp [qZ]at h
 |n+1,s,e,s',a,w,h,hS,j=>by
  simp only [qZ]at h
  rcases h1:body s with _|⟨k,s1⟩
  ·simp [h1]at h
  rw [h1]at h
  rw [rounds_succ]
  cases k with
  |normal=>
   simp only at h
   exact b h1 hS fun i w' g=>sR b n h g j
  |exit id=>
   simp only [AD,AF]at h
   obtain⟨rfl,rfl⟩:=h
   exact b h1 hS fun i w' g=>j i w' g
  |ret=>
   simp only [AD,AF]at h
   obtain⟨rfl,rfl⟩:=h
   exact b h1 hS fun i w' g=>j i w' g
theorem nI(g:oO P X.base call)(hm:P.follows .mixedOrders=true)(m:∀k b,X.par k=some b->k<nb∧∀ver e sz hdr,b.Row ver e sz hdr->ver=0):∀(c:Code){s:St}{e:Ex}{s':St}{a:Act}{w:World}{Q:Exit->Act->World->Prop},
  uE X.nt c=true->nh P H f nb call fuel c s=some (e,s')->qt P X s a w->(∀q w',qt P X s' q w'->Q e.out q w')->c.wp P Q a w
 | .skip,s,e,s',a,w,Q,_,h,hS,l=>by
  simp only [nh,AD,AF]at h
  obtain⟨rfl,rfl⟩:=h
  exact wp_skip (l a w hS)
 | .region id ops E,s,e,s',a,w,Q,n,h,hS,l=>by
  simp only [nh]at h
  rcases h1:tQ P H f nb call id ops E s with _|s1
  ·simp [h1]at h
  simp only [h1,AD,AF]at h
  obtain⟨rfl,rfl⟩:=h
  unfold tQ at h1
  rcases G:nA P nb s (H.at_ f nb id)with _|s0
  ·simp [G]at h1
  simp only [G]at h1
  rcases I:oo P (H.hf f) call ops ops.toList s0 with _|⟨s2,ts⟩
  ·simp [I]at h1
  simp only [I]at h1
  obtain⟨z,S,loc,r⟩:=hS
  obtain⟨S',loc',v⟩:=tS m _ G r
  have B:DstIn X.nt ops:=by
   intro i o O d J
   have:=Array.all_eq_true_iff_forall_mem.1 (show(ops.all fun o=>match o.dst with|some d=>decide (d<X.nt)|none=>true)=true from n) o (Array.mem_of_getElem? O)
   simpa [J]using this
  have L:s2=s1∧(E=true->tU ops ts=true):=by
   cases E with
   |true=>
    simp only [if_true]at h1
    split at h1
    ·rename_i K;cases h1;exact⟨rfl,fun _=>K⟩
    ·cases h1
   |false=>simp only [Ac,if_false,AD]at h1;exact⟨h1,fun h=>by cases h⟩
  obtain⟨rfl,C⟩:=L
  exact xa g hm B I C ⟨z,S',loc',v⟩ l
 | .seq x y,s,e,s',a,w,Q,n,h,hS,l=>by
  simp only [uE,A5]at n
  simp only [nh]at h
  rcases h1:nh P H f nb call fuel x s with _|⟨F,s1⟩
  ·simp [h1]at h
  rw [h1]at h
  refine wp_seq ?_
  cases F with
  |normal=>
   simp only at h
   exact nI g hm m x n.1 h1 hS fun q w' j=>nI g hm m y n.2 h j l
  |exit id=>
   simp only [AD,AF]at h
   obtain⟨rfl,rfl⟩:=h
   exact nI g hm m x n.1 h1 hS fun q w' j=>l q w' j
  |ret=>
   simp only [AD,AF]at h
   obtain⟨rfl,rfl⟩:=h
   exact nI g hm m x n.1 h1 hS fun q w' j=>l q w' j
 | .cond c x y,s,e,s',a,w,Q,n,h,hS,l=>by
  simp only [uE,A5]at n
  simp only [nh]at h
  rcases h1:s.opd c with _|rv
  ·simp [h1]at h
  rw [h1]at h
  rcases rv with p|_|_|_|_|_|_|_|_|_|_|_|_<;>first|(simp at h;done)|skip
  cases p<;>first|(simp at h;done)|skip
  rename_i t
  have j:=hS
  obtain⟨z,S,loc,r⟩:=j
  have D:=(r.opd h1).pA
  cases t with
  |true=>
   simp only [if_true]at h
   exact wp_cond_true D (nI g hm m x n.1 h hS l)
  |false=>
   simp only [Ac,if_false]at h
   exact wp_cond_false D (nI g hm m y n.2 h hS l)
 | .block id x,s,e,s',a,w,Q,n,h,hS,l=>by
  simp only [nh]at h
  rcases h1:nh P H f nb call fuel x s with _|⟨F,s1⟩
  ·simp [h1]at h
  rw [h1]at h
  refine wp_block (nI g hm m x n h1 hS fun q w' j=>?_)
  cases F with
  |normal=>
   simp only [AD,AF]at h
   obtain⟨rfl,rfl⟩:=h
   exact l q w' j
  |exit N=>
   simp only at h
   by_cases u:N=id
   ·simp only [u,if_true,AD,AF]at h
    obtain⟨rfl,rfl⟩:=h
    simp only [Ex.out,Exit.inBlock,u,if_true]
    exact l q w' j
   ·simp only [u,if_false,AD,AF]at h
    obtain⟨rfl,rfl⟩:=h
    simp only [Ex.out,Exit.inBlock,u,if_false]
    exact l q w' j
  |ret=>
   simp only [AD,AF]at h
   obtain⟨rfl,rfl⟩:=h
   exact l q w' j
 | .loop x,s,e,s',a,w,Q,n,h,hS,l=>by
  simp only [nh]at h
  exact wp_loop_rounds fuel (sR (fun D hS l=>nI g hm m x n D hS l) fuel h hS l)
 | .exit id,s,e,s',a,w,Q,_,h,hS,l=>by
  simp only [nh,AD,AF]at h
  obtain⟨rfl,rfl⟩:=h
  exact wp_exit (l a w hS)
 | .ret,s,e,s',a,w,Q,_,h,hS,l=>by
  simp only [nh,AD,AF]at h
  obtain⟨rfl,rfl⟩:=h
  exact wp_ret (l a w hS)
 | .rangeFunc _ _ _ _,s,e,s',a,w,Q,_,h,_,_=>by simp [nh]at h
 | .scope x,s,e,s',a,w,Q,n,h,hS,l=>by
  simp only [nh]at h
  refine wp_scope_straight (nI g hm m x n h hS fun q w' j=>?_)
  have:=l q w' j
  cases e<;>exact this
 | .label _,s,e,s',a,w,Q,_,h,hS,l=>by
  simp only [nh,AD,AF]at h
  obtain⟨rfl,rfl⟩:=h
  exact wp_label (l a w hS)
 | .goto _,s,e,s',a,w,Q,_,h,_,_=>by simp [nh]at h
 | .refuse _,s,e,s',a,w,Q,_,h,_,_=>by simp [nh]at h
end
end Go.Dw
