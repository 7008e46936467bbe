
import Derived.Test.YtgdhcacjeppglaaGreatDwRegion
import Derived.Scope
set_option linter.unusedVariables false
set_option linter.unusedSimpArgs false
open Option.some renaming inj->BT, injEq->AD
open List renaming getElem?_cons_zero->AU, getElem?_map->As, getElem?_set->AV, getElem_mem->Ah, length_set->A0, map_cons->Bj, mem_append->BO, mem_cons_self->Bb, mem_singleton->Bc, nil_append->A5, nodup_append->Bd
open Nat renaming le_refl->AB, zero_min->By
open Option renaming map_eq_some_iff->Be, map_some->Ax, toList_some->Bg
open Array renaming getElem?_eq_getElem->Ak
open Prod.mk renaming injEq->AF
open Bool renaming and_eq_true->Ac, false_eq_true->Aj

namespace Go.Dw
theorem je{α:Type}{f:Nat->Option α}:∀{ts:List Nat}{l:List (Nat×α)},gets f ts=some l->(∀x∈l,f x.1=some x.2∧x.1∈ts)∧∀t∈ts,∃v,(t,v)∈l
 | [],l,h=>by
  simp only [gets,AD]at h
  subst h
  exact⟨(fun x a=>by cases a),(fun t ht=>by cases ht)⟩
 |t::ts,l,h=>by
  simp only [gets]at h
  rcases h1:f t with _|v
  ·simp [h1]at h
  rcases b:gets f ts with _|r
  ·simp [h1,b]at h
  simp only [h1,b,AD]at h
  subst h
  obtain⟨g1,g2⟩:=je b
  refine⟨fun x a=>?_,fun t' ht=>?_⟩
  ·rcases List.mem_cons.1 a with rfl|a
   ·exact⟨h1,sm⟩
   ·exact⟨(g1 x a).1,by simp [(g1 x a).2]⟩
  ·rcases List.mem_cons.1 ht with rfl|ht
   ·exact⟨v,sm⟩
   ·obtain⟨v',c⟩:=g2 t' ht
    exact⟨v',by simp [c]⟩
theorem kV{α:Type}(g:α->α):∀{l:List (Nat×α)}{t:Nat}{v:α},assoc (l.map fun x=>(x.1,g x.2)) t=some v->∃v0,(t,v0)∈l∧v=g v0
 | [],t,v,h=>by simp [assoc]at h
 |(k,a)::r,t,v,h=>by
  simp only [Bj,assoc]at h
  by_cases hk:t=k
  ·subst hk
   simp only [if_true,AD]at h
   exact⟨a,sm,h.symm⟩
  ·simp only [hk,if_false]at h
   obtain⟨v0,h1,b⟩:=kV g h
   exact⟨v0,by simp [h1],b⟩
theorem jZ{α:Type}(g:Nat->α->α):∀{l:List (Nat×α)}{t:Nat}{v:α},assoc (l.map fun x=>(x.1,g x.1 x.2)) t=some v->∃v0,(t,v0)∈l∧v=g t v0
 | [],t,v,h=>by simp [assoc]at h
 |(k,a)::r,t,v,h=>by
  simp only [Bj,assoc]at h
  by_cases hk:t=k
  ·subst hk
   simp only [if_true,AD]at h
   exact⟨a,sm,h.symm⟩
  ·simp only [hk,if_false]at h
   obtain⟨v0,h1,b⟩:=jZ g h
   exact⟨v0,by simp [h1],b⟩
theorem j0{α:Type}(g:Nat->α->α):∀{l:List (Nat×α)}{t:Nat}{v:α},(t,v)∈l->∃v',assoc (l.map fun x=>(x.1,g x.1 x.2)) t=some v'
 | [],t,v,h=>by cases h
 |(k,a)::r,t,v,h=>by
  simp only [Bj,assoc]
  by_cases hk:t=k
  ·exact⟨g k a,by simp [hk]⟩
  ·simp only [hk,if_false]
   rcases List.mem_cons.1 h with h|h
   ·cases h;exact(hk rfl).elim
   ·exact j0 g h
section
variable {P:Program}{X:Ctx}{S:cp}{loc:cJ}{s:St}{tm:Array Value}{w:World}
theorem Sim.gu(h:Sim P X S loc s tm w)(a:Nat->Option RV)(b:∀t rv,a t=some rv->∃v,tm[t]? =some v∧R S loc rv v):Sim P X S loc { s with cv:=a } tm w:=
 ⟨h.nt,b,h.boxes,h.dom,h.imm,h.fy,h.eA,h.inj,h.own,h.frame,h.s0,h.par,h.gE,h.bs,h.ob⟩
theorem ow(L:Loc){f:Nat->Nat}(hf:∀v,f v=v):cz f L=L:=by cases L<;>simp [cz,hf]
theorem R.j6{cs:List RV}{vs:Array Value}{S:cp}{loc:cJ}(hc:∀(i:Nat)c v,cs[i]? =some c->vs[i]? =some v->R S loc c v){off:Nat}{x:RV}(e:∀v,vs[off]? =some v->R S loc x v):
  ∀(i:Nat)c v,(cs.set off x)[i]? =some c->vs[i]? =some v->R S loc c v:=by
 intro i c v h1 a
 by_cases b:off=i
 ·subst b
  rw [AV]at h1
  simp only [if_true]at h1
  split at h1
  ·cases h1;exact e v a
  ·cases h1
 ·rw [List.getElem?_set_ne b]at h1
  exact hc i c v h1 a
theorem Sim.ef(h:Sim P X S loc s tm w){p:Pl}{rv x:RV}(a:dR s p=some rv)(q:∀v,R S loc rv v->R S loc x v):Sim P X S loc (Dw.ef s x p) tm w:=by
 cases p with
 |reg t=>
  refine h.gu _ fun y o m=>?_
  split at m
  ·rename_i n
   subst n
   cases m
   obtain⟨v,l,u⟩:=h.cv y _ a
   exact⟨v,l,q v u⟩
  ·exact h.cv y o m
 |cell id off=>
  simp only [dR]at a
  rcases hb:s.boxes id with _|e
  ·simp [hb]at a
  rw [hb]at a
  cases e with
  |arr _ _ _=>cases a
  |dead=>cases a
  |map _ _ _=>cases a
  |nest _ _ _ _ _=>cases a
  |mapn _ _ _ _ _=>cases a
  |hole _ _ _ _ _ _=>cases a
  |deep _ _ _ _ _ _ _=>cases a
  |var cs=>
   simp only at a
   simp only [Dw.ef,hb]
   refine⟨h.nt,h.cv,fun i e g=>?_,fun i L j=>?_,h.imm,h.fy,h.eA,h.inj,h.own,h.frame,h.s0,h.par,h.gE,h.bs,h.ob⟩
   ·simp only at g
    split at g
    ·rename_i c
     subst c
     cases g
     obtain⟨L,j,r⟩:=h.boxes i _ hb
     refine⟨L,j,?_⟩
     cases r with
     |var _ b t vs hw hl hc=>
      exact .var _ b t vs hw (by simpa using hl) (R.j6 hc fun v l=>q v (hc off rv v a l))
    ·exact h.boxes i e g
   ·obtain⟨e,k⟩:=h.dom i L j
    by_cases c:i=id
    ·subst c;exact⟨_,if_pos rfl⟩
    ·exact⟨e,by simp only [c,if_false];exact k⟩
theorem eH{id:Nat}{a:Box}{rv:RV}:∀{p:Pl},dR s p=some rv->(∀off,p≠ .cell id off)->dR { s with boxes:=fun i=>if i=id then some a else s.boxes i } p=some rv
 | .reg t,h,_=>h
 | .cell i off,h,b=>by
  have:i≠id:=fun e=>b off (by rw [e])
  simp only [dR,this,if_false]at h⊢
  exact h
theorem nY{nb k:Nat}(a:k<nb){i L:Loc}(c:∀ver e sz hdr,i.Row ver e sz hdr->ver=0)(h:ei i L):ei i (cz (cN nb k) L):=by
 cases h with
 |same=>
  cases i with
  |arr ver e sz hdr=>
   have:=c ver e sz hdr .arr
   subst this
   simp only [cz,cN,a,if_true,By]
   exact .same _
  |nest ver e sz hdr bs=>
   have:=c ver e sz hdr .nest
   subst this
   simp only [cz,cN,a,if_true,By]
   exact .same _
  |var b=>exact .same _
  |dead=>exact .same _
  |map b=>exact .same _
  |mapn b bs=>exact .same _
 |dead=>exact .dead _
 |arr g=>
  have:=c _ _ _ _ .arr
  subst this
  refine .arr ?_
  simp only [cN,a,if_true]
  omega
 |nest g=>
  have:=c _ _ _ _ .nest
  subst this
  refine .nest ?_
  simp only [cN,a,if_true]
  omega
 |held=>
  have:=c _ _ _ _ .nest
  subst this
  simp only [cz,cN,a,if_true,By]
  exact .held
 |heldm=>exact .heldm
 |frozen=>exact .frozen
 |flat g=>
  have:=c _ _ _ _ .nest
  subst this
  refine .flat ?_
  simp only [cN,a,if_true]
  rcases g with g|⟨g,h1,j,l⟩
  ·exact .inl om
  ·exact .inr ⟨om,h1,j,l⟩
def PlAt(loc:cJ)(tm:Array Value)(w:World)(v:Value):Pl->Prop
 | .reg t=>tm[t]? =some v
 | .cell id off=>∃b vs ty,loc id=some (.var b)∧w.heap[b]? =some (.cells vs ty (0,0))∧vs[off]? =some v
theorem Sim.plAt(h:Sim P X S loc s tm w){p:Pl}{rv:RV}(a:dR s p=some rv):∀v,PlAt loc tm w v p->R S loc rv v:=by
 cases p with
 |reg t=>
  intro v c
  obtain⟨v',h1,e⟩:=h.cv t rv a
  simp only [PlAt]at c
  rw [h1]at c
  cases c
  exact e
 |cell id off=>
  intro v c
  obtain⟨b,vs,ty,h1,e,j⟩:=c
  simp only [dR]at a
  rcases hb:s.boxes id with _|i
  ·simp [hb]at a
  rw [hb]at a
  cases i<;>simp only at a<;>first|(cases a;done)|skip
  obtain⟨L,g,k⟩:=h.boxes id _ hb
  rw [h1]at g
  cases g
  cases k with
  |var _ b t l hw hl hc=>
   rw [hw]at e
   cases e
   exact hc off rv v a j
theorem Sim.nE(h:Sim P X S loc s tm w){p:Pl}{rv x:RV}(c:dR s p=some rv)(q:∀v,PlAt loc tm w v p->R S loc x v):Sim P X S loc (Dw.ef s x p) tm w:=by
 cases p with
 |reg t=>
  refine h.gu _ fun y o m=>?_
  split at m
  ·rename_i n
   subst n
   cases m
   obtain⟨v,k,u⟩:=h.cv y _ c
   exact⟨v,k,q v k⟩
  ·exact h.cv y o m
 |cell id off=>
  simp only [dR]at c
  rcases hb:s.boxes id with _|e
  ·simp [hb]at c
  rw [hb]at c
  cases e<;>simp only at c<;>first|(cases c;done)|skip
  simp only [Dw.ef,hb]
  refine⟨h.nt,h.cv,fun i e j=>?_,fun i L g=>?_,h.imm,h.fy,h.eA,h.inj,h.own,h.frame,h.s0,h.par,h.gE,h.bs,h.ob⟩
  ·simp only at j
   split at j
   ·rename_i a
    subst a
    cases j
    obtain⟨L,g,r⟩:=h.boxes i _ hb
    refine⟨L,g,?_⟩
    cases r with
    |var _ b t vs hw hl hc=>
     exact .var _ b t vs hw (by simpa using hl) (R.j6 hc fun v k=>q v ⟨b,vs,t,g,hw,k⟩)
   ·exact h.boxes i e j
  ·obtain⟨e,l⟩:=h.dom i L g
   by_cases a:i=id
   ·subst a;exact⟨_,if_pos rfl⟩
   ·exact⟨e,by simp only [a,if_false];exact l⟩
theorem nA{s:St}{ess:List (List PD)}{i:Option Nat}{j:Nat}{es:List PD}(h:lS s ess i=some (j,es)):ess[j]? =some es:=by
 unfold lS at h
 split at h
 ·split at h
  ·rename_i a;cases h;exact a
  ·cases h
 ·split at h
  ·split at h
   ·split at h
    ·rename_i a;cases h;exact a
    ·cases h
   ·cases h
  ·cases h
theorem Sim.hC(h:Sim P X S loc s tm w){id:Nat}{L:Loc}(c:loc id=some L){b:Nat}(hb:L.has b):
  (∀i a,i≠id->loc i=some a->¬a.has b)∧(∀o,S ⟨b,o,none⟩=none)∧(b∈X.B0∨X.w0.heap.size<=b):=
 ⟨fun i a j e g=>j (h.inj i id a L b e c g hb),fun o=>h.eA id L b c hb o,h.own id L b c hb⟩
theorem Sim.lend(h:Sim P X S loc s tm w){id new ver j:Nat}{e e2:TypeId}{ess:List (List PD)}{es:List PD}(hb:s.boxes id=some (.nest ver e e2 ess none))(r:s.boxes new=none)(Y:ess[j]? =some es):
  ∃S' loc',Sim P X S' loc' { s with boxes:=fun k=>if k=new then some (.arr 0 e2 es)else if k=id then some (.nest ver e e2 ess (some (j,.ref new 0)))else s.boxes k } tm w:=by
 obtain⟨L,O,hB⟩:=h.boxes id _ hb
 have x:new≠id:=fun e=>by rw [e,hb]at r;cases r
 have F:j<ess.length:=(List.getElem?_eq_some_iff.1 Y).1
 cases hB with
 |nest _ _ _ _ _ hdr xs bs hsz J how hc o hi=>
 obtain⟨v,b,m,bs2,rfl,D,h3,h4⟩:=hc.split (mE (e2:=e2) Y)
 cases h3 with
 |row _ _ sz _ ys K z U=>
 have n:v.oneCell'=true:=by obtain⟨a,c,rfl,_⟩:=z.hdr;rfl
 let l:Loc:= .nest ver e 1 hdr (m++bs2)
 have y:((cA hdr).toList++(m++bs2)).Nodup:=List.Nodup.sublist (List.Sublist.append (List.Sublist.refl _) (List.Sublist.append (List.Sublist.refl _) (List.sublist_append_right _ _))) o
 have G:∀b,l.has b->Loc.has (.nest ver e 1 hdr (m++((cA v).toList++bs2))) b:=fun b hb=>by
  simp only [l,Loc.has,BO]at hb⊢
  rcases hb with hb|hb|hb
  ·exact .inl hb
  ·exact .inr (.inl hb)
  ·exact .inr (.inr (.inr hb))
 have t:cj (loc id) l:=by rw [O];exact .held
 have g0:=h4 (.val .junk) v [] (.val _ v (.junk v) n)
 rw [fD e2 ess none j .junk (fun _ _ e=>by cases e),A5]at g0
 have k1:=h.cw (Step.refl none w) id (.nest ver e e2 ess (some (j,.junk))) l (fun b hc=>by cases hc)
  (.nest ver e e2 ess _ hdr (xs.set j v) (m++bs2) hsz J (by rw [fV D];exact how) (g0.aE (Sub.refl S) (cm.upd t) fun _ _=>rfl) y (fun i rv e=>by cases e;exact F)) (fun b hb=>.inl ⟨_,O,G b hb⟩) t
 have N:upd loc id l new=none:=by rw [ck _ _ x];exact h.cE r
 have B:cj (upd loc id l new) (.arr 0 e2 sz v):=by rw [N];trivial
 have k2 := k1.cw (Step.refl none w) new (.arr 0 e2 es) (.arr 0 e2 sz v) (fun b hc => by cases hc) (.arr 0 e2 es sz v ys K z U) (fun b p => by
  have T:Loc.has (.nest ver e 1 hdr (m++((cA v).toList++bs2))) b:=by
   simp only [Loc.has,BO]at p⊢
   exact .inr (.inr (.inl (by rw [p];simp)))
  obtain⟨f1,f2,f3⟩:=h.hC O T
  refine .inr (.inr ⟨fun i L' u g=>?_,f2,f3⟩)
  by_cases E:i=id
  ·subst E
   rw [cf]at u
   cases u
   have p:cA v=some b:=p
   have g:b∈(cA hdr).toList++(m++bs2):=g
   rw [p]at o
   simp only [Bg,Bd,BO,Bc]at o g
   rcases g with g|g|g
   ·exact o.2.2 b g b (.inr (.inl rfl)) rfl
   ·exact o.2.1.2.2 b g b (.inl rfl) rfl
   ·exact o.2.1.2.1.2.2 b rfl b g rfl
  ·rw [ck _ _ E]at u
   exact f1 i L' E u g) B
 have I:upd (upd loc id l) new (.arr 0 e2 sz v) id=some l:=by rw [ck _ _ (Ne.symm x)];exact cf _ _ _
 have C:cj (upd (upd loc id l) new (.arr 0 e2 sz v) id) l:=by rw [I];exact .same _
 have hR:R S (upd (upd (upd loc id l) new (.arr 0 e2 sz v)) id l) (.ref new 0) v:= .ref new 0 v _ n (by rw [ck _ _ x];exact cf _ _ _) fun a0 e' a1 W he=>by cases he;exact⟨AB _,fun _=>rfl⟩
 have g2:NCs P S (upd (upd (upd loc id l) new (.arr 0 e2 sz v)) id l) w (ncs e2 ess (some (j,.ref new 0))) (xs.set j v) (m++bs2):=by
  have q:=g0.aE (Sub.refl S) ((cm.upd t).trans ((cm.upd B).trans (cm.upd C))) fun _ _=>rfl
  exact q.reval F (by rw [fV D];exact D) hR n
 have k3:=k2.cw (Step.refl none w) id (.nest ver e e2 ess (some (j,.ref new 0))) l (fun b hc=>by cases hc)
  (.nest ver e e2 ess _ hdr (xs.set j v) (m++bs2) hsz J (by rw [fV D];exact how) g2 y (fun i rv e=>by cases e;exact F)) (fun b hb=>.inl ⟨l,I,hb⟩) C
 refine⟨S,upd (upd (upd loc id l) new (.arr 0 e2 sz v)) id l,?_⟩
 have Q:(fun k=>if k=new then some (.arr 0 e2 es)else if k=id then some (.nest ver e e2 ess (some (j,.ref new 0)))else s.boxes k)=upd (upd (upd s.boxes id (.nest ver e e2 ess (some (j,.junk)))) new (.arr 0 e2 es)) id (.nest ver e e2 ess (some (j,.ref new 0))):=by
  funext k
  simp only [upd]
  by_cases h1:k=new
  ·subst h1;simp [x]
  ·by_cases D:k=id
   ·subst D;simp [h1]
   ·simp [h1,D]
 rw [Q]
 exact k3
theorem Sim.give(h:Sim P X S loc s tm w){id k ver kv i:Nat}{e e2:TypeId}{ess:List (List PD)}{es:List PD}(hb:s.boxes id=some (.nest ver e e2 ess (some (i,.ref k kv))))(hk:s.boxes k=some (.arr kv e2 es))(C:k≠id):
  ∃loc',Sim P X S loc' { s with boxes:=fun j=>if j=k then some .dead else if j=id then some (.nest ver e e2 (ess.set i es) none)else s.boxes j } tm w:=by
 obtain⟨L,hL,hB⟩:=h.boxes id _ hb
 obtain⟨Lk,z,Q⟩:=h.boxes k _ hk
 cases hB with
 |nest _ _ _ _ _ hdr xs bs hsz a1 how hc c hi=>
 cases Q with
 |arr _ _ _ sz G ys K J W=>
 have Y:=hi i _ rfl
 have u:cj (loc k) .dead:=by rw [z];exact .dead _
 have k1:=h.cw (Step.refl none w) k .dead .dead (fun b hc=>by cases hc) (.dead _ rfl) (fun b hc=>by cases hc) u
 have t:upd loc k .dead id=some (.nest ver e 1 hdr bs):=by rw [ck _ _ (Ne.symm C)];exact hL
 obtain⟨v,b,y,bs2,rfl,O,h3,h4⟩:=hc.split (iQ (e2:=e2) (rv:= .ref k kv) Y)
 cases h3 with
 |val _ _ hr h1=>
 have hv:v=G:=by
  cases hr with
  |ref _ _ _ D _ E U=>
   rw [z]at E
   cases E
   exact(U _ _ _ _ .arr).2 rfl
 subst hv
 have n:∀b,cA v=some b->(∀i D,i≠k->loc i=some D->¬D.has b)∧(∀o,S ⟨b,o,none⟩=none)∧(b∈X.B0∨X.w0.heap.size<=b):=fun b p=>h.hC z p
 let N:Loc:= .nest ver e 1 hdr (y++((cA v).toList++bs2))
 have x:cj (upd loc k .dead id) N:=by rw [t];exact .held
 have g0:=h4 (.row e2 es) v (cA v).toList (.row e2 es sz v ys K J W)
 rw [jJ,fV O]at g0
 have I:((cA hdr).toList++(y++((cA v).toList++bs2))).Nodup:=by
  rcases a0:cA v with _|g
  ·simpa using c
  ·have l:¬Loc.has (.nest ver e 1 hdr (y++([]++bs2))) g:=(n g a0).1 id _ (Ne.symm C) hL
   simp only [Loc.has,A5,BO,not_or]at l
   simp only [A5,Bd,BO]at c
   simp only [Bg,Bd,BO,Bc]
   refine⟨c.1,⟨c.2.1.1,⟨sm,c.2.1.2.1,fun a r b hb m=>?_⟩,fun a r b hb m=>?_⟩,fun a r b hb m=>?_⟩
   ·subst r;subst m;exact l.2.2 hb
   ·subst m
    rcases hb with rfl|hb
    ·exact l.2.1 r
    ·exact c.2.1.2.2 a r a hb rfl
   ·subst m
    rcases hb with hb|rfl|hb
    ·exact c.2.2 a r a (.inl hb) rfl
    ·exact l.1 r
    ·exact c.2.2 a r a (.inr hb) rfl
 have k2:=k1.cw (Step.refl none w) id (.nest ver e e2 (ess.set i es) none) N (fun b hc=>by cases hc)
  (.nest ver e e2 (ess.set i es) none hdr xs _ hsz a1 (by rw [A0];exact how) (g0.aE (Sub.refl S) ((cm.upd u).trans (cm.upd x)) fun _ _=>rfl) I (fun i rv e=>by cases e))
  (fun b hb => by
   simp only [N,Loc.has,BO]at hb
   by_cases p:cA v=some b
   ·obtain⟨f1,f2,f3⟩:=n b p
    refine .inr (.inr ⟨fun i D q F=>?_,f2,f3⟩)
    by_cases B:i=k
    ·subst B;rw [cf]at q;cases q;cases F
    ·rw [ck _ _ B]at q
     exact f1 i D B q F
   ·refine .inl ⟨_,t,?_⟩
    simp only [Loc.has,A5,BO]
    rcases hb with hb|hb|hb|hb
    ·exact .inl hb
    ·exact .inr (.inl hb)
    ·exact(p (by simpa using hb)).elim
    ·exact .inr (.inr hb)) x
 refine⟨upd (upd loc k .dead) id N,?_⟩
 have T:(fun j=>if j=k then some Box.dead else if j=id then some (.nest ver e e2 (ess.set i es) none)else s.boxes j)=upd (upd s.boxes k .dead) id (.nest ver e e2 (ess.set i es) none):=by
  funext j
  simp only [upd]
  by_cases h1:j=k
  ·subst h1;simp [C]
  ·by_cases O:j=id
   ·subst O;simp [h1]
   ·simp [h1,O]
 rw [T]
 exact k2
theorem Sim.iN{e2:TypeId}:∀(ess:List (List PD)){S:cp}{xs:List Value}{bs:List Nat},Sim P X S loc s tm w->NCs P S loc w (ess.map (.row e2)) xs bs->bs.Nodup->
  (∀b∈bs,(∀i L,loc i=some L->¬L.has b)∧(∀o,S ⟨b,o,none⟩=none)∧(b∈X.B0∨X.w0.heap.size<=b))->
  ∃S',Sim P X S' loc s tm w∧Sub S S'∧(∀g o,g∉bs->S ⟨g,o,none⟩=none->S' ⟨g,o,none⟩=none)∧∀(i:Nat)es x,ess[i]? =some es->xs[i]? =some x->V S' (.lst es) x
 | [],S,xs,bs,h,hc,_,_=>⟨S,h,Sub.refl S,fun _ _ _ h=>h,fun i es x m=>by simp at m⟩
 |es::ess,S,xs,bs,h,hc,z,k=>by
  cases hc with
  | @cons _ v b0 C _ vs T ht=>
  cases T with
  |row _ _ sz _ ys hsz how hf=>
  have p:=(List.nodup_append.1 z).2.1
  by_cases y:es=[]
  ·subst y
   obtain⟨S',g1,g2,g3,g4⟩:=Sim.iN ess h ht p fun b hb=>k b (List.mem_append.2 (.inr hb))
   refine⟨S',g1,g2,fun g o I=>g3 g o fun hm=>I (List.mem_append.2 (.inr hm)),fun i es x m u=>?_⟩
   cases i with
   |zero=>
    simp only [AU,AD]at m u
    subst m;subst u
    obtain⟨a,c,rfl,_⟩:=how.hdr
    exact .nil _ _
   |succ i=>exact g4 i es x (by simpa using m) (by simpa using u)
  ·have B:0<es.length:=by cases es with|nil=>exact(y rfl).elim|cons=>simp
   have q:=how.fw B
   rcases q.2 with⟨rfl,h0⟩|⟨g,cap,cur,fz,rfl,O,I,E,K,N,G⟩
   ·omega
   ·have t:=q.cells (g:=g) rfl
    have l:cA (.slice (some ⟨g,0,none⟩) es.length cap)=some g:=by cases cap with|zero=>omega|succ c=>rfl
    obtain⟨f1,f2,f3⟩:=k g (List.mem_append.2 (.inl (by rw [l];simp)))
    have J:=h.fB g ys (fun j v Q=>by have:=t j v Q;rw [cV]at this;simpa using this) hf.one f1 f3.symm
    have r:=dA S g ys
    have F:∀b∈C,b≠g:=fun b hb e=>(List.nodup_append.1 z).2.2 g (by rw [l];simp) b hb e.symm
    have n:∀b o,b≠g->S ⟨b,o,none⟩=none->dg S g ys ⟨b,o,none⟩=none:=fun b o hb hS=>by simp [dg,hS,hb]
    obtain⟨S',g1,g2,g3,g4⟩:=Sim.iN ess J (ht.aE r (cm.refl loc) fun _ _=>rfl) p fun b hb=>by
     obtain⟨U,W,Y⟩:=k b (List.mem_append.2 (.inr hb))
     exact⟨U,fun o=>n b o (F b hb) (W o),Y⟩
    refine⟨S',g1,r.trans g2,fun b o hb hS=>g3 b o (fun hm=>hb (List.mem_append.2 (.inr hm))) (n b o (fun e=>hb (List.mem_append.2 (.inl (by rw [l,e];simp)))) hS),fun i D x m u=>?_⟩
    cases i with
    |zero=>
     simp only [AU,AD]at m u
     subst m;subst u
     exact(V.ky hf f2 E).mono g2
    |succ i=>exact g4 i D x (by simpa using m) (by simpa using u)
theorem Sim.freezeN(h:Sim P X S loc s tm w){id ver:Nat}{e e2:TypeId}{ess:List (List PD)}(hb:s.boxes id=some (.nest ver e e2 ess none)):
  ∃S',Sim P X S' (upd loc id .dead) { s with boxes:=upd s.boxes id .dead } tm w∧∀v,R S loc (.ref id ver) v->V S' (.lst (ess.map .lst)) v:=by
 obtain⟨L,J,hB⟩:=h.boxes id _ hb
 cases hB with
 |nest _ _ _ _ _ hdr xs bs hsz a3 how hc D O=>
 have G:cj (loc id) .dead:=by rw [J];exact .dead _
 have h1:=h.cw (Step.refl none w) id .dead .dead (fun b hc=>by cases hc) (.dead _ rfl) (fun b hc=>by cases hc) G
 have l:∀b,Loc.has (.nest ver e 1 hdr bs) b->(∀i L,upd loc id .dead i=some L->¬L.has b)∧(∀o,S ⟨b,o,none⟩=none)∧(b∈X.B0∨X.w0.heap.size<=b):=fun b q=>by
  obtain⟨f1,f2,f3⟩:=h.hC J q
  refine⟨fun i U m z=>?_,f2,f3⟩
  by_cases u:i=id
  ·subst u;rw [cf]at m;cases m;cases z
  ·rw [ck _ _ u]at m
   exact f1 i U u m z
 have W:∀v,R S loc (.ref id ver) v->v=hdr:=fun v F=>by
  cases F with
  |ref _ _ _ U _ y N=>
   rw [J]at y
   cases y
   exact(N _ _ _ _ .nest).2 rfl
 obtain⟨I,g1,g2,g3,g4⟩:=Sim.iN ess h1 (hc.aE (Sub.refl S) (cm.upd G) fun _ _=>rfl) (List.nodup_append.1 D).2.1 fun b q=>l b (List.mem_append.2 (.inr q))
 by_cases k:ess=[]
 ·subst k
  refine⟨I,g1,fun v F=>?_⟩
  rw [W v F]
  obtain⟨a,c,rfl,_⟩:=how.hdr
  exact .nil _ _
 have E:0<ess.length:=by cases ess with|nil=>exact(k rfl).elim|cons=>simp
 have n:=how.fw E
 have hlen:ess.length=xs.length:=by have:=hc.len;rwa [kx]at this
 have t:Flat I 1 (ess.map .lst) xs:=by
  refine⟨fun e he=>?_,hc.one,fun i e j x O B=>?_⟩
  ·obtain⟨es,_,rfl⟩:=List.mem_map.1 he
   rfl
  ·rw [As,Be]at O
   obtain⟨es,k,rfl⟩:=O
   cases j with
   |succ j=>simp [PD.cells]at B
   |zero=>
    simp only [PD.cells,AU,AD]at B
    subst B
    have C:i<xs.length:=by rw [<-hlen];exact(List.getElem?_eq_some_iff.1 k).1
    exact⟨xs[i],by rw [Nat.mul_one,Nat.add_zero];exact zc C,g4 i es _ k (zc C)⟩
 rcases n.2 with⟨rfl,h0⟩|⟨g,cap,cur,fz,rfl,a2,hg,Q,a0,a1,T⟩
 ·omega
 ·have r:=n.cells (g:=g) rfl
  have p:cA (.slice (some ⟨g,0,none⟩) ess.length cap)=some g:=by cases cap with|zero=>omega|succ c=>rfl
  obtain⟨f1,f2,f3⟩:=l g (List.mem_append.2 (.inl (by rw [p];simp)))
  have K:∀o,I ⟨g,o,none⟩=none:=fun o=>g3 g o (fun hm=>(List.nodup_append.1 D).2.2 g (by rw [p];simp) g hm rfl) (f2 o)
  have Y:=g1.fB g xs (fun j v B=>by have:=r j v B;rw [cV]at this;simpa using this) hc.one f1 f3.symm
  refine⟨_,Y,fun v F=>?_⟩
  rw [W v F]
  have:=V.ky (c:=cap) t K (by simpa using Q)
  simpa using this
theorem jt.close{sz i o:Nat}{es:List PD}{xs:List Value}{p:PD}{u:Value}(hf:jt S sz es xs i o)(c:i<es.length)(ho:o<sz)(r:p.one=true)(hu:xs[i*sz+o]? =some u)(t:V S p u):
  Flat S sz (es.set i ((es.getD i default).put o [p])) xs:=by
 have m:es[i]? =some es[i]:=zc c
 have hd:es.getD i default=es[i]:=by simp [List.getD,m]
 rw [hd]
 have hsz:es[i].cells.length=sz:=hf.len _ (Ah c)
 obtain⟨n,q⟩:=PD.fU es[i] o [p] so (by simpa using r)
 refine⟨fun e he=>?_,hf.one,fun k e j x h1 a=>?_⟩
 ·rcases List.mem_or_eq_of_mem_set he with he|rfl
  ·exact hf.len e he
  ·rw [n,hsz]
 ·rw [AV]at h1
  by_cases b:i=k
  ·subst b
   rw [if_pos rfl,if_pos c]at h1
   cases h1
   rw [q]at a
   simp only [List.length_singleton]at a
   by_cases g:o<=j∧j<o+1
   ·rw [if_pos g]at a
    obtain rfl:j=o:=by omega
    simp only [Nat.sub_self,AU,AD]at a
    subst a
    exact⟨u,hu,t⟩
   ·rw [if_neg g]at a
    exact hf.cell i _ j x m a (fun l=>g om)
  ·rw [if_neg b]at h1
   exact hf.cell k e j x h1 a (fun l=>b l.1.symm)
theorem Sim.opn(h:Sim P X S loc s tm w){id ver i o:Nat}{e:TypeId}{es:List PD}{x c:PD}(hb:s.boxes id=some (.arr ver e es))(a:es[i]? =some x)(hc:x.cells[o]? =some c):
  ∃loc',Sim P X S loc' { s with boxes:=fun k=>if k=id then some (.hole ver e es i o (.d c))else s.boxes k } tm w:=by
 obtain⟨L,g,m⟩:=h.boxes id _ hb
 cases m with
 |arr _ _ _ sz hdr xs hsz how hf=>
 obtain⟨u,hu,n⟩:=hf.cell i x o c a hc
 have ho:o<sz:=by rw [<-hf.len x (List.mem_of_getElem? a)];exact(List.getElem?_eq_some_iff.1 hc).1
 exact ⟨_, h.cw (Step.refl none w) id (.hole ver e es i o (.d c)) (.arr ver e sz hdr) (fun b hc => by cases hc)
  (.hole ver e es i o (.d c) sz hdr xs u hsz how ⟨hf.len,hf.one,fun k e j x h1 l _=>hf.cell k e j x h1 l⟩ (List.getElem?_eq_some_iff.1 a).1 ho hu (.d n)) (fun b hb=>.inl ⟨_,g,hb⟩) (by rw [g];exact .same _)⟩
theorem Sim.clsD(h:Sim P X S loc s tm w){id ver i o:Nat}{e:TypeId}{es:List PD}{c:PD}(hb:s.boxes id=some (.hole ver e es i o (.d c)))(hc:c.one=true):
  ∃loc',Sim P X S loc' { s with boxes:=fun k=>if k=id then some (.arr ver e (es.set i ((es.getD i default).put o [c])))else s.boxes k } tm w:=by
 obtain⟨L,a,g⟩:=h.boxes id _ hb
 cases g with
 |hole _ _ _ _ _ _ sz hdr xs u hsz how hf j ho hu l=>
 cases l with
 |d m=>
 exact ⟨_, h.cw (Step.refl none w) id (.arr ver e (es.set i ((es.getD i default).put o [c]))) (.arr ver e sz hdr) (fun b hc => by cases hc)
  (.arr ver e _ sz hdr xs hsz (by rw [A0];exact how) (hf.close j ho hc hu m)) (fun b hb=>.inl ⟨_,a,hb⟩) (by rw [a];exact .same _)⟩
theorem Sim.clsR(h:Sim P X S loc s tm w){id k ver m i o:Nat}{e t:TypeId}{es a:List PD}(hb:s.boxes id=some (.hole ver e es i o (.ref k m)))(hk:s.boxes k=some (.arr m t a))(c:k≠id):
  ∃S' loc',Sim P X S' loc' { s with boxes:=fun j=>if j=k then some .dead else if j=id then some (.arr ver e (es.set i ((es.getD i default).put o [.lst a])))else s.boxes j } tm w:=by
 obtain⟨S',h1,z,hl,r⟩:=h.iL hk
 have v:upd s.boxes k .dead id=some (.hole ver e es i o (.ref k m)):=by rw [ck _ _ (Ne.symm c)];exact hb
 obtain⟨C,p,n⟩:=h.boxes id _ hb
 cases n with
 |hole _ _ _ _ _ _ sz hdr xs u hsz how hf x ho hu y=>
 have B:V S' (.lst a) u:=(r m t a hk).1 u y
 have g:upd loc k .dead id=some (.arr ver e sz hdr):=by rw [ck _ _ (Ne.symm c)];exact p
 have l:=h1.cw (Step.refl none w) id (.arr ver e (es.set i ((es.getD i default).put o [.lst a]))) (.arr ver e sz hdr) (fun b hc=>by cases hc)
  (.arr ver e _ sz hdr xs hsz (by rw [A0];exact how) ((hf.mono z).close x ho rfl hu B)) (fun b hb=>.inl ⟨_,g,hb⟩) (by rw [g];exact .same _)
 refine⟨S',upd (upd loc k .dead) id (.arr ver e sz hdr),?_⟩
 have q:(fun j=>if j=k then some Box.dead else if j=id then some (.arr ver e (es.set i ((es.getD i default).put o [.lst a])))else s.boxes j)=upd (upd s.boxes k .dead) id (.arr ver e (es.set i ((es.getD i default).put o [.lst a]))):=by
  funext j
  simp only [upd]
  by_cases h1:j=k
  ·subst h1;simp [c]
  ·by_cases l:j=id
   ·subst l;simp [h1]
   ·simp [h1,l]
 rw [q]
 exact l
theorem Sim.freezeM(h:Sim P X S loc s tm w){id:Nat}{E G e2:TypeId}{es:List (PD×List PD)}(hb:s.boxes id=some (.mapn E G e2 es none)):
  ∃S' loc',Sim P X S' loc' { s with boxes:=fun i=>if i=id then some (.map E G (jO es))else s.boxes i } tm w:=by
 obtain⟨L,y,hB⟩:=h.boxes id _ hb
 cases hB with
 |mapn _ _ _ _ _ b m bs a4 hw hlen hk hc C hi=>
 have D:cj (loc id) .dead:=by rw [y];exact .dead _
 have h1:=h.cw (Step.refl none w) id .dead .dead (fun b hc=>by cases hc) (.dead _ rfl) (fun b hc=>by cases hc) D
 have n:∀c,Loc.has (.mapn b bs) c->(∀i L,upd loc id .dead i=some L->¬L.has c)∧(∀o,S ⟨c,o,none⟩=none)∧(c∈X.B0∨X.w0.heap.size<=c):=fun c U=>by
  obtain⟨f1,f2,f3⟩:=h.hC y U
  refine⟨fun i q a z=>?_,f2,f3⟩
  by_cases e:i=id
  ·subst e;rw [cf]at a;cases a;cases z
  ·rw [ck _ _ e]at a
   exact f1 i q e a z
 have Y:NCs P S loc w ((es.map fun x=>x.2).map (.row e2)) (m.toList.map fun x=>x.val) bs:=hc
 obtain⟨S1,g1,g2,g3,g4⟩:=Sim.iN (e2:=e2) (es.map fun x=>x.2) h1 (Y.aE (Sub.refl S) (cm.upd D) fun _ _=>rfl) (List.nodup_cons.1 C).2 fun c a0=>n c (List.mem_cons.2 (.inr a0))
 have a1:cj (loc id) (.map b):=by rw [y];exact .frozen
 have hle:cm loc (upd loc id (.map b)):=cm.upd a1
 have T:∀o,S1 ⟨b,o,none⟩=none:=fun o=>g3 b o (List.nodup_cons.1 C).1 ((n b (Bb ..)).2.1 o)
 have W:(fun i=>if i=id then some (Box.map E G (jO es))else s.boxes i)=upd s.boxes id (.map E G (jO es)):=rfl
 rw [W]
 refine⟨S1,upd loc id (.map b),h.nt,fun t rv ht=>?_,fun i J l=>?_,fun i L a=>?_,g1.imm,g1.fy,fun i L c a g o=>?_,fun i j L L2 c a a2 g B=>?_,fun i L c a g=>?_,h.frame,g1.s0,fun k L0 a3=>?_,g1.gE,g1.bs,h.ob⟩
 ·obtain⟨v,N,O⟩:=h.cv t rv ht
  exact⟨v,N,O.mono g2 hle⟩
 ·by_cases e:i=id
  ·subst e
   simp only [cf,AD]at l
   subst l
   refine⟨_,cf _ _ _,.map E G _ b m.size m hw (by simpa [jO]using hlen) fun j k x en p r=>?_⟩
   simp only [jO,As,Be]at p
   obtain⟨K,p,u⟩:=p
   cases u
   refine⟨(hk j K.1 K.2 en p r).1.mono g2,g4 j K.2 en.val (by rw [As,p];rfl) (by rw [As,Array.getElem?_toList,r];rfl)⟩
  ·simp only [ck _ _ e]at l
   obtain⟨L,N,O⟩:=h.boxes i J l
   exact⟨L,by rw [ck _ _ e];exact N,O.aE g2 hle fun _ _=>rfl⟩
 ·by_cases e:i=id
  ·subst e;exact⟨_,cf _ _ _⟩
  ·rw [ck _ _ e]at a
   obtain⟨J,l⟩:=h.dom i L a
   exact⟨J,by simp only [ck _ _ e];exact l⟩
 ·by_cases e:i=id
  ·subst e
   rw [cf]at a
   cases a
   cases g
   exact T o
  ·rw [ck _ _ e]at a
   exact g1.eA i L c (by rw [ck _ _ e];exact a) g o
 ·have F:∀i L c,upd loc id (.map b) i=some L->L.has c->∃q,loc i=some q∧q.has c:=fun i L c a g=>by
   by_cases e:i=id
   ·subst e
    rw [cf]at a
    cases a
    cases g
    exact⟨_,y,Bb ..⟩
   ·rw [ck _ _ e]at a
    exact⟨L,a,g⟩
  obtain⟨q,p,r⟩:=F i L c a g
  obtain⟨I,u,Q⟩:=F j L2 c a2 B
  exact h.inj i j q I c p u r Q
 ·by_cases e:i=id
  ·subst e
   rw [cf]at a
   cases a
   cases g
   exact h.own i _ b y (Bb ..)
  ·rw [ck _ _ e]at a
   exact h.own i L c a g
 ·obtain⟨L,p,r⟩:=h.par k L0 a3
  obtain⟨q,u,Q⟩:=hle k L p
  exact⟨q,u,r.trans Q⟩
theorem lI{nb:Nat}(b9:∀k b,X.par k=some b->k<nb∧∀ver e sz hdr,b.Row ver e sz hdr->ver=0){g:ju}{s':St}(a:db P nb s g=some s')(h:Sim P X S loc s tm w):∃S' loc',Sim P X S' loc' s' tm w:=by
 cases g with
 |aE rs bs=>
  simp only [db]at a
  rcases h1:gets s.cv rs with _|l
  ·simp [h1]at a
  rcases E:gets s.boxes bs with _|m
  ·simp [h1,E]at a
  simp only [h1,E]at a
  split at a
  rotate_left
  ·cases a
  rename_i e4
  cases a
  obtain⟨l1,_⟩:=je h1
  obtain⟨m1,m2⟩:=je E
  let loc':cJ:=fun id=>if bs.contains id then(loc id).map (cz (cN nb id))else none
  have G:∀id U,loc' id=some U->bs.contains id=true∧∃L,loc id=some L∧U=cz (cN nb id) L:=by
   intro id U F
   simp only [loc']at F
   split at F
   ·rename_i hm
    rw [Be]at F
    obtain⟨L,h3,rfl⟩:=F
    exact⟨hm,L,h3,rfl⟩
   ·cases F
  have C:gG ⟨fun id=>if bs.contains id then some id else none,da s.boxes (cN nb)⟩ loc loc':=by
   refine gG.mk' (P:=P) (S:=S) (w:=w) h.boxes fun id k L y F=>?_
   try simp only at y
   split at y
   ·rename_i hm
    cases y
    simp only [loc',hm,if_true,F,Ax]
   ·cases y
  have I := h.mem.ren (loc' := loc') (b' := assoc (m.map fun x => (x.1, ez ⟨fun id => if bs.contains id then some id else none, da s.boxes (cN nb)⟩ (cN nb x.1) x.2))) C (fun k d9 hk => by
    obtain⟨b0,hm,rfl⟩:=jZ (fun k b=>ez ⟨fun id=>if bs.contains id then some id else none,da s.boxes (cN nb)⟩ (cN nb k) b) hk
    obtain⟨c5,b7⟩:=m1 _ hm
    simp only at c5 b7
    have d0:bs.contains k=true:=by simpa using b7
    exact⟨k,b0,cN nb k,by simp [b7],c5,rfl,fun L F=>by simp only [loc',d0,if_true,F,Ax]⟩) (fun k U hk=>by
    obtain⟨hm,L,h3,rfl⟩:=G k U hk
    refine⟨?_,k,L,_,by simp only [hm,if_true],h3,rfl⟩
    obtain⟨v,J⟩:=m2 k (by simpa using hm)
    exact j0 (fun k b=>ez ⟨fun id=>if bs.contains id then some id else none,da s.boxes (cN nb)⟩ (cN nb k) b) J)
  refine⟨S,loc',h.nt,?_,I.boxes,I.dom,h.imm,h.fy,I.eA,I.inj,?_,h.frame,h.s0,?_,h.gE,h.bs,h.ob⟩
  ·intro t rv ht
   obtain⟨v0,hm,rfl⟩:=kV (dw ⟨fun id=>if bs.contains id then some id else none,da s.boxes (cN nb)⟩) ht
   obtain⟨v,J,c0⟩:=h.cv t v0 (l1 _ hm).1
   exact⟨v,J,R.dw C c0⟩
  ·intro id U b F hb
   obtain⟨_,L,hl,rfl⟩:=G id U F
   rw [eK]at hb
   exact h.own id L b hl hb
  ·intro k L0 hk
   have a2:=(b9 k L0 hk).1
   have:=List.all_eq_true.1 e4 k (List.mem_range.2 a2)
   obtain⟨L,h3,h4⟩:=h.par k L0 hk
   exact⟨cz (cN nb k) L,by simp only [loc',this,if_true,h3,Ax],nY a2 (b9 k L0 hk).2 h4⟩
 |own t id e=>
  simp only [db]at a
  split at a
  ·rename_i k ht hb hk
   cases a
   obtain⟨loc',h1,E,_⟩:=h.gQ hb (Step.refl none w) hk (hdr:= .slice none 0 0) (es:=[]) (xs:=[]) (.inl (.of (World.ownsRow_nil w 0 e _))) (Flat.nil S _) (fun g a=>by cases a) rfl
   refine⟨S,loc',?_⟩
   refine h1.gu _ fun x rv T=>?_
   split at T
   ·rename_i a0
    subst a0
    cases T
    obtain⟨v,J,C⟩:=h.cv x _ ht
    cases C with
    |cL=>exact⟨_,J,E⟩
   ·exact h1.cv x rv T
  ·cases a
   exact⟨S,loc,h⟩
  ·cases a
 |freeze t=>
  simp only [db]at a
  rcases ht:s.cv t with _|rv
  ·simp [ht]at a
  rw [ht]at a
  cases rv<;>first|(simp at a;done)|skip
  rename_i id ver
  simp only at a
  rcases hb:s.boxes id with _|W
  ·simp [hb]at a
  rw [hb]at a
  cases W<;>first|(simp at a;done)|skip
  rename_i B e es
  simp only at a
  by_cases z:ver=B
  rotate_left
  ·simp [z]at a
  subst z
  simp only [if_true,AD]at a
  subst a
  obtain⟨S',h1,hs,hl,J⟩:=h.iL hb
  have J:=fun v C=>(J ver e es hb).1 v C
  refine⟨S',_,h1.gu _ fun x rv T=>?_⟩
  split at T
  ·rename_i a0
   subst a0
   cases T
   obtain⟨v,c2,C⟩:=h.cv x _ ht
   exact⟨v,c2,.d (J v C)⟩
  ·exact h1.cv x rv T
 |frz p=>
  simp only [db]at a
  rcases y:dR s p with _|rv
  ·simp [y]at a
  rw [y]at a
  cases rv<;>first|(simp at a;done)|skip
  ·simp only [AD]at a
   subst a
   exact⟨S,loc,h⟩
  ·simp only [AD]at a
   subst a
   exact⟨S,loc,h.ef y fun v C=>by cases C;exact .d (.nil _ _)⟩
  ·rename_i id ver
   simp only at a
   rcases hb:s.boxes id with _|W
   ·simp [hb]at a
   rw [hb]at a
   cases W<;>first|(simp at a;done)|skip
   rename_i B e es
   simp only at a
   by_cases z:ver=B
   rotate_left
   ·simp [z]at a
   subst z
   simp only [if_true,AD]at a
   subst a
   obtain⟨S',h1,hs,hl,J⟩:=h.iL hb
   have J:=fun v C=>(J ver e es hb).1 v C
   have D:({ s with boxes:=upd s.boxes id .dead }:St)={ s with boxes:=fun i=>if i=id then some .dead else s.boxes i }:=rfl
   rw [D]at h1
   have f6:dR ({ s with boxes:=fun i=>if i=id then some .dead else s.boxes i }:St) p=some (.ref id ver):=eH y fun off e=>by
    subst e
    simp only [dR,hb]at y
    cases y
   cases p with
   |reg t=>
    refine⟨S',_,h1.gu _ fun x rv T=>?_⟩
    split at T
    ·rename_i a0
     subst a0
     cases T
     obtain⟨v,c2,C⟩:=h.cv x _ y
     exact⟨v,c2,.d (J v C)⟩
    ·exact h1.cv x rv T
   |cell i off=>
    have O:i≠id:=fun e=>by
     subst e
     simp only [dR,hb]at y
     cases y
    simp only [dR]at y
    rcases a3:s.boxes i with _|W
    ·simp [a3]at y
    rw [a3]at y
    cases W with
    |arr _ _ _=>cases y
    |dead=>cases y
    |map _ _ _=>cases y
    |nest _ _ _ _ _=>cases y
    |mapn _ _ _ _ _=>cases y
    |hole _ _ _ _ _ _=>cases y
    |deep _ _ _ _ _ _ _=>cases y
    |var cs=>
     simp only at y
     simp only [Dw.ef,O,if_false,a3]
     refine⟨S',_,h1.nt,h1.cv,fun j W hj=>?_,fun j L F=>?_,h1.imm,h1.fy,h1.eA,h1.inj,h1.own,h1.frame,h1.s0,h1.par,h1.gE,h1.bs,h1.ob⟩
     ·simp only at hj
      by_cases a5:j=i
      ·subst a5
       simp only [if_true]at hj
       cases hj
       obtain⟨L,F,hB⟩:=h.boxes j _ a3
       obtain⟨U,N,e0⟩:=h1.boxes j (.var cs) (by simp only [O,if_false];exact a3)
       refine⟨U,N,?_⟩
       have e1:U=L:=by
        rw [ck _ _ O,F]at N
        exact(BT N).symm
       subst e1
       cases hB with
       |var _ b t vs hw f1 hc=>
        cases e0 with
        |var _ _ t' f7 d8 f5 e3=>
         rw [hw]at d8
         cases d8
         exact .var _ b t vs hw (by simpa using f1) (R.j6 e3 fun v b2=>.d (J v (hc off _ v y b2)))
      ·simp only [a5,if_false]at hj
       exact h1.boxes j W hj
     ·obtain⟨W,b5⟩:=h1.dom j L F
      by_cases a5:j=i
      ·subst a5;exact⟨_,if_pos rfl⟩
      ·exact⟨W,by simp only [a5,if_false];exact b5⟩
 |ownp p id e=>
  simp only [db]at a
  split at a
  ·rename_i k y hb hk
   cases a
   obtain⟨loc',h1,E,_⟩:=h.gQ hb (Step.refl none w) hk (hdr:= .slice none 0 0) (es:=[]) (xs:=[]) (.inl (.of (World.ownsRow_nil w 0 e _))) (Flat.nil S _) (fun g a=>by cases a) rfl
   have D:({ s with boxes:=upd s.boxes id (.arr 0 e []) }:St)={ s with boxes:=fun i=>if i=id then some (.arr 0 e [])else s.boxes i }:=rfl
   refine⟨S,loc',Sim.ef (s:={ s with boxes:=fun i=>if i=id then some (.arr 0 e [])else s.boxes i }) h1 (eH y fun off he=>?_) fun v C=>?_⟩
   ·subst he
    simp only [dR,hb]at y
    cases y
   ·cases C with
    |cL=>exact E
  ·cases a
   exact⟨S,loc,h⟩
  ·cases a
 |mv p new=>
  simp only [db]at a
  rcases y:dR s p with _|rv
  ·simp [y]at a
  rw [y]at a
  cases rv<;>first|(simp at a;done)|(simp only [AD]at a;subst a;exact⟨S,loc,h⟩)|skip
  rename_i id ver
  simp only at a
  by_cases b6:id=new
  ·rw [if_pos b6]at a;cases a;exact⟨S,loc,h⟩
  rw [if_neg b6]at a
  by_cases d2:nb<=id∧nb<=new
  rotate_left
  ·rw [if_neg d2]at a;cases a
  rw [if_pos d2]at a
  simp only [AD]at a
  subst a
  let pos:Nat->Option Nat:=fun i=>if i=id then some new else if i=new then none else some i
  let loc':cJ:=fun k=>if k=new then loc id else if k=id then none else loc k
  have sv:∀L:Loc,cz (fun c=>c) L=L:=fun L=>ow L fun _=>rfl
  have d3:∀i k L,pos i=some k->loc i=some L->loc' k=some L:=by
   intro i k L h1 E
   simp only [pos]at h1
   split at h1
   ·rename_i e;subst e;cases h1;simp only [loc',if_true];exact E
   ·split at h1
    ·cases h1
    ·rename_i n1 n2;cases h1;simp only [loc',n1,n2,if_false];exact E
  have C:gG ⟨pos,da s.boxes fun _ c=>c⟩ loc loc':=gG.mk' (P:=P) (S:=S) (w:=w) h.boxes fun i k L h1 E=>by rw [sv];exact d3 i k L h1 E
  have b1:∀k,(∃i,pos i=some k∧∀α(f:Nat->Option α),(if k=new then f id else if k=id then none else f k)=f i)∨(k=id):=by
   intro k
   by_cases h1:k=new
   ·subst h1;exact .inl ⟨id,by simp only [pos,if_true],fun α f=>if_pos rfl⟩
   ·by_cases E:k=id
    ·exact .inr E
    ·exact .inl ⟨k,by simp only [pos,h1,E,if_false],fun α f=>by rw [if_neg h1,if_neg E]⟩
  have Y:∀α(f:Nat->Option α),(if id=new then f id else if id=id then none else f id)=none:=fun α f=>by rw [if_neg b6,if_pos rfl]
  have I:=h.mem.ren (loc':=loc') (b':=fun i=>if i=new then(s.boxes id).map (ez ⟨pos,da s.boxes fun _ c=>c⟩ fun c=>c)else if i=id then none else(s.boxes i).map (ez ⟨pos,da s.boxes fun _ c=>c⟩ fun c=>c)) C
   (fun k d9 hk => by
    rcases b1 k with⟨i,h1,E⟩|rfl
    ·have hk:=(E _ fun i=>(s.boxes i).map (ez ⟨pos,da s.boxes fun _ c=>c⟩ fun c=>c)).symm.trans hk
     rw [Be]at hk
     obtain⟨b0,h3,rfl⟩:=hk
     exact⟨i,b0,fun c=>c,h1,h3,rfl,fun L F=>by rw [sv];exact d3 i k L h1 F⟩
    ·have:=(Y _ fun i=>(s.boxes i).map (ez ⟨pos,da s.boxes fun _ c=>c⟩ fun c=>c)).symm.trans hk
     cases this)
   (fun k U hk => by
    rcases b1 k with⟨i,h1,E⟩|rfl
    ·have d1:loc i=some U:=(E _ loc).symm.trans hk
     obtain⟨W,b5⟩:=h.dom i U d1
     refine⟨⟨ez ⟨pos,da s.boxes fun _ c=>c⟩ (fun c=>c) W,?_⟩,i,U,fun c=>c,h1,d1,(sv U).symm⟩
     rw [E _ fun i=>(s.boxes i).map (ez ⟨pos,da s.boxes fun _ c=>c⟩ fun c=>c),b5]
     rfl
    ·have:=(Y _ loc).symm.trans hk
     cases this)
  refine⟨S,loc',h.nt,fun t rv ht=>?_,I.boxes,I.dom,h.imm,h.fy,I.eA,I.inj,fun k L b F hb=>?_,h.frame,h.s0,fun k L0 hk=>?_,h.gE,h.bs,h.ob⟩
  ·simp only [Be]at ht
   obtain⟨b3,h1,rfl⟩:=ht
   obtain⟨v,J,c0⟩:=h.cv t b3 h1
   exact⟨v,J,R.dw C c0⟩
  ·rcases b1 k with⟨i,h1,E⟩|rfl
   ·exact h.own i L b ((E _ loc).symm.trans F) hb
   ·have:=(Y _ loc).symm.trans F
    cases this
  ·have a2:=(b9 k L0 hk).1
   obtain⟨L,h3,h4⟩:=h.par k L0 hk
   refine⟨L,?_,h4⟩
   have n1:k≠new:=by omega
   have n2:k≠id:=by omega
   simp only [loc',n1,n2,if_false]
   exact h3
 |fixv id=>
  simp only [db]at a
  rcases hb:s.boxes id with _|W
  ·simp [hb]at a
  rw [hb]at a
  cases W<;>first|(simp at a;done)|skip
  rename_i cs
  simp only at a
  rcases ha:fQ cs with _|ps
  ·simp [ha]at a
  simp only [ha]at a
  by_cases a7:ps.all PD.one=true
  rotate_left
  ·rw [if_neg a7]at a;cases a
  rw [if_pos a7]at a
  simp only [AD]at a
  subst a
  have e5:=fi ha
  subst e5
  obtain⟨L,F,hB⟩:=h.boxes id _ hb
  cases hB with
  |var _ b t vs hw hl hc=>
  have b2:∀(i:Nat)p u,ps[i]? =some p->vs[i]? =some u->V S p u:=fun i p u h1 E=>by
   have:=hc i (.d p) u (by simp [h1]) E
   cases this with|d h=>exact h
  have hlen:vs.size=ps.length:=by simpa using hl
  have h1:∀u∈vs,u.oneCell'=true:=fun u hu=>by
   obtain⟨i,hi,rfl⟩:=Array.getElem_of_mem hu
   have c6:i<ps.length:=by omega
   exact((b2 i ps[i] vs[i] (zc c6) (Ak hi)).eo (List.all_eq_true.1 a7 _ (Ah c6))).1
  obtain⟨k1,k2,k3⟩:=h.nS hb F hw h1
  have D:({ s with boxes:=upd s.boxes id .dead }:St)={ s with boxes:=fun i=>if i=id then some .dead else s.boxes i }:=rfl
  rw [D]at k1
  refine⟨_,_,k1.gu (fun t=>(s.cv t).map (fixRV id ps)) fun t rv ht=>?_⟩
  rw [Be]at ht
  obtain⟨b3,E,rfl⟩:=ht
  obtain⟨v,J,C⟩:=h.cv t b3 E
  obtain⟨v',d6,d4⟩:=k1.cv t b3 E
  rw [J]at d6
  cases d6
  refine⟨v,J,?_⟩
  unfold fixRV
  split
  ·rename_i i off
   split
   ·rename_i hi
    subst hi
    cases C with
    |ptr _ _ _ L2 ho c3 y=>
     rw [F]at c3
     cases c3
     rw [(y b).1 rfl]
     have c4:∀(j:Nat)c,(ps.drop off)[j]? =some c->∃u,vs[off+j]? =some u∧V S c u:=fun j c hj=>by
      rw [List.getElem?_drop]at hj
      have a2:off+j<vs.size:=by rw [hlen];exact(List.getElem?_eq_some_iff.1 hj).1
      exact⟨_,Ak a2,b2 _ c _ hj (Ak a2)⟩
     refine .cptr _ b off (fun j=>(vs[off+j]?).getD default) (fun j c hj=>?_) fun j c hj=>?_
     ·obtain⟨u,hu,_⟩:=c4 j c hj
      rw [k3 _ u hu,hu];rfl
     ·obtain⟨u,hu,f2⟩:=c4 j c hj
      rw [hu]
      exact f2.mono k2
   ·exact d4
  ·exact d4
 |bump t=>
  simp only [db]at a
  rcases ht:s.cv t with _|rv
  ·simp [ht]at a
  rw [ht]at a
  cases rv<;>first|(simp at a;done)|skip
  rename_i id ver
  simp only at a
  rcases hb:s.boxes id with _|W
  ·simp [hb]at a
  rw [hb]at a
  cases W<;>first|(simp at a;done)|skip
  rename_i B e es
  simp only at a
  by_cases z:ver=B
  rotate_left
  ·simp [z]at a
  subst z
  simp only [if_true,AD]at a
  subst a
  obtain⟨v,J,C⟩:=h.cv t _ ht
  obtain⟨sz,xs,G,hsz,how,hf⟩:=h.fm hb C
  have ho:v.oneCell'=true:=by cases C with|ref _ _ _ _ ho=>exact ho
  have K:cj (loc id) (.arr (ver+1) e sz v):=by
   rw [G]
   exact .arr om
  have Q:=h.cw (Step.refl none w) id (.arr (ver+1) e es) (.arr (ver+1) e sz v) (fun b hc=>by cases hc) (.arr (ver+1) e es sz v xs hsz how hf) (fun b a4=>.inl ⟨_,G,a4⟩) K
  have D:({ s with boxes:=upd s.boxes id (.arr (ver+1) e es) }:St)={ s with boxes:=fun i=>if i=id then some (.arr (ver+1) e es)else s.boxes i }:=rfl
  rw [D]at Q
  refine⟨S,_,Q.gu _ fun x rv T=>?_⟩
  split at T
  ·rename_i a0
   subst a0
   cases T
   exact⟨v,J,.ref id (ver+1) v _ ho (cf _ _ _) fun B e' b4 a1 he=>by cases he;exact⟨AB _,fun _=>rfl⟩⟩
  ·exact Q.cv x rv T
 |bumpp p=>
  simp only [db]at a
  rcases ht:dR s p with _|rv
  ·simp [ht]at a
  rw [ht]at a
  cases rv<;>first|(simp at a;done)|skip
  rename_i id ver
  simp only at a
  rcases hb:s.boxes id with _|W
  ·simp [hb]at a
  rw [hb]at a
  cases W<;>first|(simp at a;done)|skip
  ·rename_i B e es
   simp only at a
   by_cases z:ver=B
   rotate_left
   ·simp [z]at a
   subst z
   simp only [if_true,AD]at a
   subst a
   obtain⟨L,F,hB⟩:=h.boxes id _ hb
   cases hB with
   |arr _ _ _ sz hdr xs hsz how hf=>
   have K:cj (loc id) (.arr (ver+1) e sz hdr):=by
    rw [F]
    exact .arr om
   have Q:=h.cw (Step.refl none w) id (.arr (ver+1) e es) (.arr (ver+1) e sz hdr) (fun b hc=>by cases hc) (.arr (ver+1) e es sz hdr xs hsz how hf) (fun b a4=>.inl ⟨_,F,a4⟩) K
   have D:({ s with boxes:=upd s.boxes id (.arr (ver+1) e es) }:St)={ s with boxes:=fun i=>if i=id then some (.arr (ver+1) e es)else s.boxes i }:=rfl
   rw [D]at Q
   have a8:dR { s with boxes:=fun i=>if i=id then some (.arr (ver+1) e es)else s.boxes i } p=some (.ref id ver):=eH ht fun off a9=>by
    subst a9
    simp only [dR,hb]at ht
    cases ht
   refine⟨S,_,Q.nE a8 fun v J=>?_⟩
   have c1:PlAt loc tm w v p:=by
    cases p with
    |reg t=>exact J
    |cell i off=>
     obtain⟨b,vs,ty,h1,E,h3⟩:=J
     refine⟨b,vs,ty,?_,E,h3⟩
     by_cases hi:i=id
     ·subst hi;rw [cf]at h1;cases h1
     ·rwa [ck _ _ hi]at h1
   have C:=h.plAt ht v c1
   cases C with
   |ref _ _ _ U ho N hc=>
    rw [F]at N
    cases N
    have:=(hc ver e sz hdr .arr).2 rfl
    subst this
    exact .ref id (ver+1) _ _ ho (cf _ _ _) fun B e' b4 a1 he=>by cases he;exact⟨AB _,fun _=>rfl⟩
  ·rename_i B e es o e2 ts hh
   simp only at a
   by_cases z:ver=B
   rotate_left
   ·simp [z]at a
   subst z
   simp only [if_true,AD]at a
   subst a
   obtain⟨L,F,hB⟩:=h.boxes id _ hb
   cases hB with
   |deep _ _ _ _ _ _ _ sz hdr xs bs bl hd=>
   have K:cj (loc id) (.nest (ver+1) e sz hdr bs):=by
    rw [F]
    exact .nest om
   have e6:fO P S (upd loc id (.nest (ver+1) e sz hdr bs)) w e es o e2 ts hh sz hdr xs bs bl:=hd.aE (Sub.refl S) (cm.upd K) fun _ _=>rfl
   have Q:=h.cw (Step.refl none w) id (.deep (ver+1) e es o e2 ts hh) (.nest (ver+1) e sz hdr bs) (fun b hc=>by cases hc) (.deep (ver+1) e es o e2 ts hh sz hdr xs bs bl e6) (fun b a4=>.inl ⟨_,F,a4⟩) K
   have D:({ s with boxes:=upd s.boxes id (.deep (ver+1) e es o e2 ts hh) }:St)={ s with boxes:=fun i=>if i=id then some (.deep (ver+1) e es o e2 ts hh)else s.boxes i }:=rfl
   rw [D]at Q
   have a8:dR { s with boxes:=fun i=>if i=id then some (.deep (ver+1) e es o e2 ts hh)else s.boxes i } p=some (.ref id ver):=eH ht fun off a9=>by
    subst a9
    simp only [dR,hb]at ht
    cases ht
   refine⟨S,_,Q.nE a8 fun v J=>?_⟩
   have c1:PlAt loc tm w v p:=by
    cases p with
    |reg t=>exact J
    |cell i off=>
     obtain⟨b,vs,ty,h1,E,h3⟩:=J
     refine⟨b,vs,ty,?_,E,h3⟩
     by_cases hi:i=id
     ·subst hi;rw [cf]at h1;cases h1
     ·rwa [ck _ _ hi]at h1
   have C:=h.plAt ht v c1
   cases C with
   |ref _ _ _ U ho N hc=>
    rw [F]at N
    cases N
    have:=(hc ver e sz hdr .nest).2 rfl
    subst this
    exact .ref id (ver+1) _ _ ho (cf _ _ _) fun B e' b4 a1 he=>by cases he;exact⟨AB _,fun _=>rfl⟩
 |ownn p id e e2=>
  simp only [db]at a
  split at a
  ·rename_i k y hb hk f0
   cases a
   have G:=h.cE hb
   have K:cj (loc id) (.nest 0 e 1 (.slice none 0 0) []):=by rw [G];trivial
   have h1:=h.cw (Step.refl none w) id (.nest 0 e e2 [] none) (.nest 0 e 1 (.slice none 0 0) []) (fun b hc=>by cases hc)
    (.nest 0 e e2 [] none _ [] [] hk ⟨k,f0⟩ (.inl (.of (World.ownsRow_nil w 0 e _))) .nil (by simp [cA]) (fun i rv e=>by cases e)) (fun b hb=>by simp [Loc.has,cA]at hb) K
   have D:({ s with boxes:=upd s.boxes id (.nest 0 e e2 [] none) }:St)={ s with boxes:=fun i=>if i=id then some (.nest 0 e e2 [] none)else s.boxes i }:=rfl
   rw [D]at h1
   refine⟨S,_,Sim.ef (s:={ s with boxes:=fun i=>if i=id then some (.nest 0 e e2 [] none)else s.boxes i }) h1 (eH y fun off he=>?_) fun v C=>?_⟩
   ·subst he
    simp only [dR,hb]at y
    cases y
   ·cases C with
    |cL=>exact .ref id 0 _ _ rfl (cf _ _ _) fun B e' b4 a1 he=>by cases he;exact⟨AB _,fun _=>rfl⟩
  ·cases a
   exact⟨S,loc,h⟩
  ·cases a
 |lend id i new=>
  simp only [db]at a
  split at a
  rotate_left
  ·cases a
  rename_i ver e e2 ess hb a6
  rcases b8:lS s ess i with _|⟨j,es⟩
  ·simp [b8]at a
  simp only [b8,AD]at a
  subst a
  exact h.lend hb a6 (nA b8)
 |give id=>
  simp only [db]at a
  split at a
  ·rename_i ver e e2 ess i k kv hb
   split at a
   rotate_left
   ·cases a
   rename_i f3 e' es hk
   split at a
   rotate_left
   ·cases a
   rename_i hc
   obtain⟨rfl,rfl,O⟩:=hc
   cases a
   exact⟨S,h.give hb hk O⟩
  ·cases a
  ·cases a
   exact⟨S,loc,h⟩
 |frzn p=>
  simp only [db]at a
  split at a
  ·rename_i id ver y
   split at a
   rotate_left
   ·cases a
   rename_i B e e2 ess hb
   split at a
   rotate_left
   ·cases a
   rename_i z
   subst z
   cases a
   obtain⟨S',h1,J⟩:=h.freezeN hb
   have D:({ s with boxes:=upd s.boxes id .dead }:St)={ s with boxes:=fun i=>if i=id then some .dead else s.boxes i }:=rfl
   rw [D]at h1
   have a8:dR { s with boxes:=fun i=>if i=id then some .dead else s.boxes i } p=some (.ref id ver):=eH y fun off a9=>by
    subst a9
    simp only [dR,hb]at y
    cases y
   refine⟨S',_,h1.nE a8 fun v d7=>.d (J v (h.plAt y v ?_))⟩
   cases p with
   |reg t=>exact d7
   |cell i off=>
    obtain⟨b,vs,ty,g1,g2,g3⟩:=d7
    refine⟨b,vs,ty,?_,g2,g3⟩
    by_cases hi:i=id
    ·subst hi;rw [cf]at g1;cases g1
    ·rwa [ck _ _ hi]at g1
  ·rename_i y
   cases a
   exact⟨S,loc,h.ef y fun v C=>by cases C;exact .d (.nil _ _)⟩
  ·cases a
   exact⟨S,loc,h⟩
  ·cases a
 |frzm id=>
  simp only [db]at a
  split at a
  ·rename_i kt vt e2 es hb
   cases a
   exact h.freezeM hb
  ·cases a
  ·cases a
   exact⟨S,loc,h⟩
 |opn id r o=>
  simp only [db]at a
  split at a
  rotate_left
  ·cases a
  rename_i ver e es q n hb C
  split at a
  rotate_left
  ·cases a
  rename_i x T
  split at a
  rotate_left
  ·cases a
  rename_i c hc
  cases a
  exact⟨S,h.opn hb T hc⟩
 |cls id=>
  simp only [db]at a
  split at a
  ·rename_i ver e es i o c hb
   split at a
   rotate_left
   ·cases a
   rename_i hc
   cases a
   exact⟨S,h.clsD hb hc⟩
  ·rename_i ver e es i o k kv hb
   split at a
   rotate_left
   ·cases a
   rename_i f3 e' f4 hk
   split at a
   rotate_left
   ·cases a
   rename_i hc
   obtain⟨rfl,O⟩:=hc
   cases a
   exact h.clsR hb hk O
  ·cases a
  ·cases a
   exact⟨S,loc,h⟩
 |ownd p id e o e2 ts=>
  simp only [db]at a
  split at a
  ·rename_i y hb
   split at a
   rotate_left
   ·cases a
   rename_i ht
   cases a
   obtain⟨n,hn,ho⟩:=mo ht
   have G:=h.cE hb
   have K:cj (loc id) (.nest 0 e n (.slice none 0 0) []):=by rw [G];trivial
   have h1:=h.cw (Step.refl none w) id (.deep 0 e [] o e2 ts none) (.nest 0 e n (.slice none 0 0) []) (fun b hc=>by cases hc)
    (.deep 0 e [] o e2 ts none n _ [] [] (fun _=>[]) ⟨hn,ho,.inl (.of (World.ownsRow_nil w 0 e _)),⟨nofun,nofun,fun k e j x h1=>by simp at h1⟩,⟨fun k e h1=>by simp at h1,fun _ _=>rfl,fun k k' b h1=>by simp at h1,fun k b h1=>by simp at h1⟩,fun b=>sm,nofun,ht⟩) (fun b hb=>by simp [Loc.has,cA]at hb) K
   have D:({ s with boxes:=upd s.boxes id (.deep 0 e [] o e2 ts none) }:St)={ s with boxes:=fun i=>if i=id then some (.deep 0 e [] o e2 ts none)else s.boxes i }:=rfl
   rw [D]at h1
   refine⟨S,_,Sim.ef (s:={ s with boxes:=fun i=>if i=id then some (.deep 0 e [] o e2 ts none)else s.boxes i }) h1 (eH y fun off he=>?_) fun v C=>?_⟩
   ·subst he
    simp only [dR,hb]at y
    cases y
   ·cases C with
    |cL=>exact .ref id 0 _ _ rfl (cf _ _ _) fun B e' b4 a1 he=>by cases he;exact⟨AB _,fun _=>rfl⟩
  ·cases a
   exact⟨S,loc,h⟩
  ·cases a
 |opnd id r new=>
  simp only [db]at a
  split at a
  rotate_left
  ·cases a
  rename_i ver e es o e2 ts q n hb C a6
  split at a
  rotate_left
  ·cases a
  rename_i x T
  split at a
  rotate_left
  ·cases a
  rename_i row hc
  cases a
  exact h.opnD hb a6 T hc
 |clsd id=>
  simp only [db]at a
  split at a
  ·rename_i ver e es o e2 ts i k kv hb
   split at a
   rotate_left
   ·cases a
   rename_i b hk
   split at a
   rotate_left
   ·cases a
   rename_i row d5
   split at a
   rotate_left
   ·cases a
   rename_i O
   cases a
   exact h.clsR' hb hk d5 O
  ·rename_i ver e es o e2 ts i hb
   cases a
   exact h.clsN hb
  ·cases a
  ·cases a
   exact⟨S,loc,h⟩
 |flatd id n=>
  simp only [db]at a
  split at a
  ·rename_i ver e es o e2 ts hb
   cases a
   exact h.flat0 hb
  ·cases a
  ·rename_i ver e es o e2 ts hh m hb
   cases a
   exact h.flatN hb
  ·cases a
   exact⟨S,loc,h⟩
theorem iM{nb:Nat}(a:∀k b,X.par k=some b->k<nb∧∀ver e sz hdr,b.Row ver e sz hdr->ver=0):∀(gs:List ju){s s':St}{S:cp}{loc:cJ},dY P nb s gs=some s'->Sim P X S loc s tm w->∃S' loc',Sim P X S' loc' s' tm w
 | [],s,s',S,loc,h,c=>by simp only [dY,AD]at h;subst h;exact⟨S,loc,c⟩
 |g::gs,s,s',S,loc,h,c=>by
  simp only [dY]at h
  rcases h1:db P nb s g with _|s1
  ·simp [h1]at h
  simp only [h1]at h
  obtain⟨l,j,i⟩:=lI a h1 c
  exact iM a gs h i
end
def Ex.out:Ex->Exit
 | .normal=>.normal
 | .exit id=>.exit id
 | .ret=>.ret
section
variable {P:Program}{X:Ctx}{H:Hints}{f:FuncId}{nb:Nat}{call:cB}{fuel:Nat}
theorem hU{c:Code}{body:St->Option (Ex×St)}{Q:Exit->Act->World->Prop}
  (b:∀{s:St}{e:Ex}{s':St}{a:Act}{w:World}{Q:Exit->Act->World->Prop},body s=some (e,s')->eN P X s a w->(∀i w',eN P X s' i w'->Q e.out i w')->c.wp P Q a w):
  ∀(n:Nat){s:St}{e:Ex}{s':St}{a:Act}{w:World},gb body n s=some (e,s')->eN P X s a w->(∀i w',eN P X s' i w'->Q e.out i w')->Code.rounds P c Q n a w
 |0,s,e,s',a,w,h,_,_=>by simp [gb]at h
 |n+1,s,e,s',a,w,h,hS,j=>by
  simp only [gb]at h
  rcases h1:body s with _|⟨k,s1⟩
  ·simp [h1]at h
  rw [h1]at h
  rw [rounds_succ]
  cases k with
  |normal=>
   simp only at h
   exact b h1 hS fun i w' g=>hU b n h g j
  |exit id=>
   simp only [AD,AF]at h
   obtain⟨rfl,rfl⟩:=h
   exact b h1 hS fun i w' g=>j i w' g
  |ret=>
   simp only [AD,AF]at h
   obtain⟨rfl,rfl⟩:=h
   exact b h1 hS fun i w' g=>j i w' g
theorem cZ(g:ea P X.base call)(hm:P.follows .mixedOrders=true)(m:∀k b,X.par k=some b->k<nb∧∀ver e sz hdr,b.Row ver e sz hdr->ver=0):∀(c:Code){s:St}{e:Ex}{s':St}{a:Act}{w:World}{Q:Exit->Act->World->Prop},
  jz X.nt c=true->cG P H f nb call fuel c s=some (e,s')->eN P X s a w->(∀n w',eN P X s' n w'->Q e.out n w')->c.wp P Q a w
 | .skip,s,e,s',a,w,Q,_,h,hS,l=>by
  simp only [cG,AD,AF]at h
  obtain⟨rfl,rfl⟩:=h
  exact wp_skip (l a w hS)
 | .region id ops C,s,e,s',a,w,Q,hd,h,hS,l=>by
  simp only [cG]at h
  rcases h1:iK P H f nb call id ops C s with _|s1
  ·simp [h1]at h
  simp only [h1,AD,AF]at h
  obtain⟨rfl,rfl⟩:=h
  unfold iK at h1
  rcases E:dY P nb s (H.at_ f nb id)with _|s0
  ·simp [E]at h1
  simp only [E]at h1
  rcases F:dz P (H.hf f) call ops ops.toList s0 with _|⟨s2,ts⟩
  ·simp [F]at h1
  simp only [F]at h1
  obtain⟨v,S,loc,q⟩:=hS
  obtain⟨S',loc',u⟩:=iM m _ E q
  have z:DstIn X.nt ops:=by
   intro i o ho d G
   have:=Array.all_eq_true_iff_forall_mem.1 (show(ops.all fun o=>match o.dst with|some d=>decide (d<X.nt)|none=>true)=true from hd) o (Array.mem_of_getElem? ho)
   simpa [G]using this
  have J:s2=s1∧(C=true->iR ops ts=true):=by
   cases C with
   |true=>
    simp only [if_true]at h1
    split at h1
    ·rename_i I;cases h1;exact⟨rfl,fun _=>I⟩
    ·cases h1
   |false=>simp only [Aj,if_false,AD]at h1;exact⟨h1,fun h=>by cases h⟩
  obtain⟨rfl,B⟩:=J
  exact lW g hm z F B ⟨v,S',loc',u⟩ l
 | .seq x y,s,e,s',a,w,Q,hd,h,hS,l=>by
  simp only [jz,Ac]at hd
  simp only [cG]at h
  rcases h1:cG P H f nb call fuel x s with _|⟨D,s1⟩
  ·simp [h1]at h
  rw [h1]at h
  refine wp_seq ?_
  cases D with
  |normal=>
   simp only at h
   exact cZ g hm m x hd.1 h1 hS fun n w' j=>cZ g hm m y hd.2 h j l
  |exit id=>
   simp only [AD,AF]at h
   obtain⟨rfl,rfl⟩:=h
   exact cZ g hm m x hd.1 h1 hS fun n w' j=>l n w' j
  |ret=>
   simp only [AD,AF]at h
   obtain⟨rfl,rfl⟩:=h
   exact cZ g hm m x hd.1 h1 hS fun n w' j=>l n w' j
 | .cond c x y,s,e,s',a,w,Q,hd,h,hS,l=>by
  simp only [jz,Ac]at hd
  simp only [cG]at h
  rcases h1:s.opd c with _|rv
  ·simp [h1]at h
  rw [h1]at h
  rcases rv with p|_|_|_|_|_|_|_|_|_|_|_|_<;>first|(simp at h;done)|skip
  cases p<;>first|(simp at h;done)|skip
  rename_i t
  have j:=hS
  obtain⟨v,S,loc,q⟩:=j
  have hb:=(q.opd h1).eP
  cases t with
  |true=>
   simp only [if_true]at h
   exact wp_cond_true hb (cZ g hm m x hd.1 h hS l)
  |false=>
   simp only [Aj,if_false]at h
   exact wp_cond_false hb (cZ g hm m y hd.2 h hS l)
 | .block id x,s,e,s',a,w,Q,hd,h,hS,l=>by
  simp only [cG]at h
  rcases h1:cG P H f nb call fuel x s with _|⟨D,s1⟩
  ·simp [h1]at h
  rw [h1]at h
  refine wp_block (cZ g hm m x hd h1 hS fun n w' j=>?_)
  cases D with
  |normal=>
   simp only [AD,AF]at h
   obtain⟨rfl,rfl⟩:=h
   exact l n w' j
  |exit K=>
   simp only at h
   by_cases r:K=id
   ·simp only [r,if_true,AD,AF]at h
    obtain⟨rfl,rfl⟩:=h
    simp only [Ex.out,Exit.inBlock,r,if_true]
    exact l n w' j
   ·simp only [r,if_false,AD,AF]at h
    obtain⟨rfl,rfl⟩:=h
    simp only [Ex.out,Exit.inBlock,r,if_false]
    exact l n w' j
  |ret=>
   simp only [AD,AF]at h
   obtain⟨rfl,rfl⟩:=h
   exact l n w' j
 | .loop x,s,e,s',a,w,Q,hd,h,hS,l=>by
  simp only [cG]at h
  exact wp_loop_rounds fuel (hU (fun hb hS l=>cZ g hm m x hd hb hS l) fuel h hS l)
 | .exit id,s,e,s',a,w,Q,_,h,hS,l=>by
  simp only [cG,AD,AF]at h
  obtain⟨rfl,rfl⟩:=h
  exact wp_exit (l a w hS)
 | .ret,s,e,s',a,w,Q,_,h,hS,l=>by
  simp only [cG,AD,AF]at h
  obtain⟨rfl,rfl⟩:=h
  exact wp_ret (l a w hS)
 | .rangeFunc _ _ _ _,s,e,s',a,w,Q,_,h,_,_=>by simp [cG]at h
 | .scope x,s,e,s',a,w,Q,hd,h,hS,l=>by
  simp only [cG]at h
  refine wp_scope_straight (cZ g hm m x hd h hS fun n w' j=>?_)
  have:=l n w' j
  cases e<;>exact this
 | .label _,s,e,s',a,w,Q,_,h,hS,l=>by
  simp only [cG,AD,AF]at h
  obtain⟨rfl,rfl⟩:=h
  exact wp_label (l a w hS)
 | .goto _,s,e,s',a,w,Q,_,h,_,_=>by simp [cG]at h
 | .refuse _,s,e,s',a,w,Q,_,h,_,_=>by simp [cG]at h
end
end Go.Dw
