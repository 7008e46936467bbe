
import Derived.Test.YtgiepghgloiinaaGreatDoorDwRegion
import Derived.Scope
set_option linter.unusedVariables false
set_option linter.unusedSimpArgs false
open Option.some renaming inj->BT, injEq->AD
open List renaming getElem?_cons_zero->AU, getElem?_map->Av, getElem?_set->AV, getElem_mem->Ah, length_set->A0, map_cons->Bj, mem_append->BO, mem_cons_self->Bb, mem_singleton->Bc, nil_append->A5, nodup_append->Bd
open Nat renaming le_refl->AB, zero_min->By
open Option renaming map_eq_some_iff->Be, map_some->Az, toList_some->Bg
open Array renaming getElem?_eq_getElem->Ak
open Prod.mk renaming injEq->AF
open Bool renaming and_eq_true->Ac, false_eq_true->Aj

namespace Go.Dw
theorem qQ{α:Type}{f:Nat->Option α}:∀{ts:List Nat}{l:List (Nat×α)},gets f ts=some l->(∀x∈l,f x.1=some x.2∧x.1∈ts)∧∀t∈ts,∃v,(t,v)∈l
 | [],l,h=>by
  simp only [gets,AD]at h
  subst h
  exact⟨(fun x a=>by cases a),(fun t ht=>by cases ht)⟩
 |t::ts,l,h=>by
  simp only [gets]at h
  rcases h1:f t with _|v
  ·simp [h1]at h
  rcases b:gets f ts with _|r
  ·simp [h1,b]at h
  simp only [h1,b,AD]at h
  subst h
  obtain⟨g1,g2⟩:=qQ b
  refine⟨fun x a=>?_,fun t' ht=>?_⟩
  ·rcases List.mem_cons.1 a with rfl|a
   ·exact⟨h1,sm⟩
   ·exact⟨(g1 x a).1,by simp [(g1 x a).2]⟩
  ·rcases List.mem_cons.1 ht with rfl|ht
   ·exact⟨v,sm⟩
   ·obtain⟨v',c⟩:=g2 t' ht
    exact⟨v',by simp [c]⟩
theorem tX{α:Type}(g:α->α):∀{l:List (Nat×α)}{t:Nat}{v:α},assoc (l.map fun x=>(x.1,g x.2)) t=some v->∃v0,(t,v0)∈l∧v=g v0
 | [],t,v,h=>by simp [assoc]at h
 |(k,a)::r,t,v,h=>by
  simp only [Bj,assoc]at h
  by_cases hk:t=k
  ·subst hk
   simp only [if_true,AD]at h
   exact⟨a,sm,h.symm⟩
  ·simp only [hk,if_false]at h
   obtain⟨v0,h1,b⟩:=tX g h
   exact⟨v0,by simp [h1],b⟩
theorem sq{α:Type}(g:Nat->α->α):∀{l:List (Nat×α)}{t:Nat}{v:α},assoc (l.map fun x=>(x.1,g x.1 x.2)) t=some v->∃v0,(t,v0)∈l∧v=g t v0
 | [],t,v,h=>by simp [assoc]at h
 |(k,a)::r,t,v,h=>by
  simp only [Bj,assoc]at h
  by_cases hk:t=k
  ·subst hk
   simp only [if_true,AD]at h
   exact⟨a,sm,h.symm⟩
  ·simp only [hk,if_false]at h
   obtain⟨v0,h1,b⟩:=sq g h
   exact⟨v0,by simp [h1],b⟩
theorem sr{α:Type}(g:Nat->α->α):∀{l:List (Nat×α)}{t:Nat}{v:α},(t,v)∈l->∃v',assoc (l.map fun x=>(x.1,g x.1 x.2)) t=some v'
 | [],t,v,h=>by cases h
 |(k,a)::r,t,v,h=>by
  simp only [Bj,assoc]
  by_cases hk:t=k
  ·exact⟨g k a,by simp [hk]⟩
  ·simp only [hk,if_false]
   rcases List.mem_cons.1 h with h|h
   ·cases h;exact(hk rfl).elim
   ·exact sr g h
section
variable {P:Program}{X:Ctx}{S:kd}{loc:kH}{s:St}{tm:Array Value}{w:World}
theorem Sim.oE(h:Sim P X S loc s tm w)(a:Nat->Option RV)(b:∀t rv,a t=some rv->∃v,tm[t]? =some v∧R S loc rv v):Sim P X S loc { s with kr:=a } tm w:=
 ⟨h.nt,b,h.boxes,h.dom,h.imm,h.nA,h.mr,h.inj,h.own,h.frame,h.s0,h.par,h.oU,h.bs,h.ob⟩
theorem xF(L:Loc){f:Nat->Nat}(hf:∀v,f v=v):ks f L=L:=by cases L<;>simp [ks,hf]
theorem R.sx{cs:List RV}{vs:Array Value}{S:kd}{loc:kH}(hc:∀(i:Nat)c v,cs[i]? =some c->vs[i]? =some v->R S loc c v){off:Nat}{x:RV}(b:∀v,vs[off]? =some v->R S loc x v):
  ∀(i:Nat)c v,(cs.set off x)[i]? =some c->vs[i]? =some v->R S loc c v:=by
 intro i c v h1 a
 by_cases hi:off=i
 ·subst hi
  rw [AV]at h1
  simp only [if_true]at h1
  split at h1
  ·cases h1;exact b v a
  ·cases h1
 ·rw [List.getElem?_set_ne hi]at h1
  exact hc i c v h1 a
theorem Sim.mC(h:Sim P X S loc s tm w){p:Pl}{rv x:RV}(a:mq s p=some rv)(n:∀v,R S loc rv v->R S loc x v):Sim P X S loc (Dw.mC s x p) tm w:=by
 cases p with
 |reg t=>
  refine h.oE _ fun y m k=>?_
  split at k
  ·rename_i l
   subst l
   cases k
   obtain⟨v,j,q⟩:=h.kr y _ a
   exact⟨v,j,n v q⟩
  ·exact h.kr y m k
 |cell id off=>
  simp only [mq]at a
  rcases hb:s.boxes id with _|c
  ·simp [hb]at a
  rw [hb]at a
  cases c with
  |arr _ _ _=>cases a
  |dead=>cases a
  |map _ _ _=>cases a
  |nest _ _ _ _ _=>cases a
  |mapn _ _ _ _ _=>cases a
  |hole _ _ _ _ _ _=>cases a
  |deep _ _ _ _ _ _ _=>cases a
  |var cs=>
   simp only at a
   simp only [Dw.mC,hb]
   refine⟨h.nt,h.kr,fun i c hi=>?_,fun i L e=>?_,h.imm,h.nA,h.mr,h.inj,h.own,h.frame,h.s0,h.par,h.oU,h.bs,h.ob⟩
   ·simp only at hi
    split at hi
    ·rename_i hid
     subst hid
     cases hi
     obtain⟨L,e,o⟩:=h.boxes i _ hb
     refine⟨L,e,?_⟩
     cases o with
     |var _ b t vs hw hl hc=>
      exact .var _ b t vs hw (by simpa using hl) (R.sx hc fun v j=>n v (hc off rv v a j))
    ·exact h.boxes i c hi
   ·obtain⟨c,g⟩:=h.dom i L e
    by_cases hid:i=id
    ·subst hid;exact⟨_,if_pos rfl⟩
    ·exact⟨c,by simp only [hid,if_false];exact g⟩
theorem nC{id:Nat}{a:Box}{rv:RV}:∀{p:Pl},mq s p=some rv->(∀off,p≠ .cell id off)->mq { s with boxes:=fun i=>if i=id then some a else s.boxes i } p=some rv
 | .reg t,h,_=>h
 | .cell i off,h,b=>by
  have:i≠id:=fun e=>b off (by rw [e])
  simp only [mq,this,if_false]at h⊢
  exact h
theorem xm{nb k:Nat}(a:k<nb){i L:Loc}(c:∀ver e sz hdr,i.Row ver e sz hdr->ver=0)(h:mw i L):mw i (ks (kM nb k) L):=by
 cases h with
 |same=>
  cases i with
  |arr ver e sz hdr=>
   have:=c ver e sz hdr .arr
   subst this
   simp only [ks,kM,a,if_true,By]
   exact .same _
  |nest ver e sz hdr bs=>
   have:=c ver e sz hdr .nest
   subst this
   simp only [ks,kM,a,if_true,By]
   exact .same _
  |var b=>exact .same _
  |dead=>exact .same _
  |map b=>exact .same _
  |mapn b bs=>exact .same _
 |dead=>exact .dead _
 |arr g=>
  have:=c _ _ _ _ .arr
  subst this
  refine .arr ?_
  simp only [kM,a,if_true]
  omega
 |nest g=>
  have:=c _ _ _ _ .nest
  subst this
  refine .nest ?_
  simp only [kM,a,if_true]
  omega
 |held=>
  have:=c _ _ _ _ .nest
  subst this
  simp only [ks,kM,a,if_true,By]
  exact .held
 |heldm=>exact .heldm
 |frozen=>exact .frozen
 |flat g=>
  have:=c _ _ _ _ .nest
  subst this
  refine .flat ?_
  simp only [kM,a,if_true]
  rcases g with g|⟨g,h1,j,l⟩
  ·exact .inl om
  ·exact .inr ⟨om,h1,j,l⟩
def PlAt(loc:kH)(tm:Array Value)(w:World)(v:Value):Pl->Prop
 | .reg t=>tm[t]? =some v
 | .cell id off=>∃b vs ty,loc id=some (.var b)∧w.heap[b]? =some (.cells vs ty (0,0))∧vs[off]? =some v
theorem Sim.plAt(h:Sim P X S loc s tm w){p:Pl}{rv:RV}(a:mq s p=some rv):∀v,PlAt loc tm w v p->R S loc rv v:=by
 cases p with
 |reg t=>
  intro v c
  obtain⟨v',h1,e⟩:=h.kr t rv a
  simp only [PlAt]at c
  rw [h1]at c
  cases c
  exact e
 |cell id off=>
  intro v c
  obtain⟨b,vs,ty,h1,e,j⟩:=c
  simp only [mq]at a
  rcases hb:s.boxes id with _|i
  ·simp [hb]at a
  rw [hb]at a
  cases i<;>simp only at a<;>first|(cases a;done)|skip
  obtain⟨L,g,k⟩:=h.boxes id _ hb
  rw [h1]at g
  cases g
  cases k with
  |var _ b t l hw hl hc=>
   rw [hw]at e
   cases e
   exact hc off rv v a j
theorem Sim.plSet'(h:Sim P X S loc s tm w){p:Pl}{rv x:RV}(a:mq s p=some rv)(n:∀v,PlAt loc tm w v p->R S loc x v):Sim P X S loc (Dw.mC s x p) tm w:=by
 cases p with
 |reg t=>
  refine h.oE _ fun y m k=>?_
  split at k
  ·rename_i l
   subst l
   cases k
   obtain⟨v,g,q⟩:=h.kr y _ a
   exact⟨v,g,n v g⟩
  ·exact h.kr y m k
 |cell id off=>
  simp only [mq]at a
  rcases hb:s.boxes id with _|c
  ·simp [hb]at a
  rw [hb]at a
  cases c<;>simp only at a<;>first|(cases a;done)|skip
  simp only [Dw.mC,hb]
  refine⟨h.nt,h.kr,fun i c hi=>?_,fun i L e=>?_,h.imm,h.nA,h.mr,h.inj,h.own,h.frame,h.s0,h.par,h.oU,h.bs,h.ob⟩
  ·simp only at hi
   split at hi
   ·rename_i hid
    subst hid
    cases hi
    obtain⟨L,e,o⟩:=h.boxes i _ hb
    refine⟨L,e,?_⟩
    cases o with
    |var _ b t vs hw hl hc=>
     exact .var _ b t vs hw (by simpa using hl) (R.sx hc fun v g=>n v ⟨b,vs,t,e,hw,g⟩)
   ·exact h.boxes i c hi
  ·obtain⟨c,j⟩:=h.dom i L e
   by_cases hid:i=id
   ·subst hid;exact⟨_,if_pos rfl⟩
   ·exact⟨c,by simp only [hid,if_false];exact j⟩
theorem wW{s:St}{ess:List (List PD)}{i:Option Nat}{j:Nat}{es:List PD}(h:uR s ess i=some (j,es)):ess[j]? =some es:=by
 unfold uR at h
 split at h
 ·split at h
  ·rename_i a;cases h;exact a
  ·cases h
 ·split at h
  ·split at h
   ·split at h
    ·rename_i a;cases h;exact a
    ·cases h
   ·cases h
  ·cases h
theorem Sim.py(h:Sim P X S loc s tm w){id:Nat}{L:Loc}(c:loc id=some L){b:Nat}(hb:L.has b):
  (∀i a,i≠id->loc i=some a->¬a.has b)∧(∀o,S ⟨b,o,none⟩=none)∧(b∈X.B0∨X.w0.heap.size<=b):=
 ⟨fun i a hi e g=>hi (h.inj i id a L b e c g hb),fun o=>h.mr id L b c hb o,h.own id L b c hb⟩
theorem Sim.lend(h:Sim P X S loc s tm w){id new ver j:Nat}{e e2:TypeId}{ess:List (List PD)}{es:List PD}(hb:s.boxes id=some (.nest ver e e2 ess none))(r:s.boxes new=none)(Y:ess[j]? =some es):
  ∃S' loc',Sim P X S' loc' { s with boxes:=fun k=>if k=new then some (.arr 0 e2 es)else if k=id then some (.nest ver e e2 ess (some (j,.ref new 0)))else s.boxes k } tm w:=by
 obtain⟨L,O,hB⟩:=h.boxes id _ hb
 have x:new≠id:=fun e=>by rw [e,hb]at r;cases r
 have F:j<ess.length:=(List.getElem?_eq_some_iff.1 Y).1
 cases hB with
 |nest _ _ _ _ _ hdr xs bs hsz J how hc o hi=>
 obtain⟨v,b,m,bs2,rfl,D,h3,h4⟩:=hc.split (vZ (e2:=e2) Y)
 cases h3 with
 |row _ _ sz _ ys K z U=>
 have n:v.oneCell'=true:=by obtain⟨a,c,rfl,_⟩:=z.hdr;rfl
 let l:Loc:= .nest ver e 1 hdr (m++bs2)
 have y:((ku hdr).toList++(m++bs2)).Nodup:=List.Nodup.sublist (List.Sublist.append (List.Sublist.refl _) (List.Sublist.append (List.Sublist.refl _) (List.sublist_append_right _ _))) o
 have G:∀b,l.has b->Loc.has (.nest ver e 1 hdr (m++((ku v).toList++bs2))) b:=fun b hb=>by
  simp only [l,Loc.has,BO]at hb⊢
  rcases hb with hb|hb|hb
  ·exact .inl hb
  ·exact .inr (.inl hb)
  ·exact .inr (.inr (.inr hb))
 have t:j3 (loc id) l:=by rw [O];exact .held
 have g0:=h4 (.val .junk) v [] (.val _ v (.junk v) n)
 rw [nQ e2 ess none j .junk (fun _ _ e=>by cases e),A5]at g0
 have k1:=h.kl (Step.refl none w) id (.nest ver e e2 ess (some (j,.junk))) l (fun b hc=>by cases hc)
  (.nest ver e e2 ess _ hdr (xs.set j v) (m++bs2) hsz J (by rw [mD D];exact how) (g0.fN (Sub.refl S) (kb.upd t) fun _ _=>rfl) y (fun i rv e=>by cases e;exact F)) (fun b hb=>.inl ⟨_,O,G b hb⟩) t
 have N:upd loc id l new=none:=by rw [j8 _ _ x];exact h.ky r
 have B:j3 (upd loc id l new) (.arr 0 e2 sz v):=by rw [N];trivial
 have k2 := k1.kl (Step.refl none w) new (.arr 0 e2 es) (.arr 0 e2 sz v) (fun b hc => by cases hc) (.arr 0 e2 es sz v ys K z U) (fun b p => by
  have T:Loc.has (.nest ver e 1 hdr (m++((ku v).toList++bs2))) b:=by
   simp only [Loc.has,BO]at p⊢
   exact .inr (.inr (.inl (by rw [p];simp)))
  obtain⟨f1,f2,f3⟩:=h.py O T
  refine .inr (.inr ⟨fun i L' u g=>?_,f2,f3⟩)
  by_cases E:i=id
  ·subst E
   rw [jQ]at u
   cases u
   have p:ku v=some b:=p
   have g:b∈(ku hdr).toList++(m++bs2):=g
   rw [p]at o
   simp only [Bg,Bd,BO,Bc]at o g
   rcases g with g|g|g
   ·exact o.2.2 b g b (.inr (.inl rfl)) rfl
   ·exact o.2.1.2.2 b g b (.inl rfl) rfl
   ·exact o.2.1.2.1.2.2 b rfl b g rfl
  ·rw [j8 _ _ E]at u
   exact f1 i L' E u g) B
 have I:upd (upd loc id l) new (.arr 0 e2 sz v) id=some l:=by rw [j8 _ _ (Ne.symm x)];exact jQ _ _ _
 have C:j3 (upd (upd loc id l) new (.arr 0 e2 sz v) id) l:=by rw [I];exact .same _
 have hR:R S (upd (upd (upd loc id l) new (.arr 0 e2 sz v)) id l) (.ref new 0) v:= .ref new 0 v _ n (by rw [j8 _ _ x];exact jQ _ _ _) fun a4 e' a5 W he=>by cases he;exact⟨AB _,fun _=>rfl⟩
 have g2:NCs P S (upd (upd (upd loc id l) new (.arr 0 e2 sz v)) id l) w (ncs e2 ess (some (j,.ref new 0))) (xs.set j v) (m++bs2):=by
  have q:=g0.fN (Sub.refl S) ((kb.upd t).trans ((kb.upd B).trans (kb.upd C))) fun _ _=>rfl
  exact q.reval F (by rw [mD D];exact D) hR n
 have k3:=k2.kl (Step.refl none w) id (.nest ver e e2 ess (some (j,.ref new 0))) l (fun b hc=>by cases hc)
  (.nest ver e e2 ess _ hdr (xs.set j v) (m++bs2) hsz J (by rw [mD D];exact how) g2 y (fun i rv e=>by cases e;exact F)) (fun b hb=>.inl ⟨l,I,hb⟩) C
 refine⟨S,upd (upd (upd loc id l) new (.arr 0 e2 sz v)) id l,?_⟩
 have Q:(fun k=>if k=new then some (.arr 0 e2 es)else if k=id then some (.nest ver e e2 ess (some (j,.ref new 0)))else s.boxes k)=upd (upd (upd s.boxes id (.nest ver e e2 ess (some (j,.junk)))) new (.arr 0 e2 es)) id (.nest ver e e2 ess (some (j,.ref new 0))):=by
  funext k
  simp only [upd]
  by_cases h1:k=new
  ·subst h1;simp [x]
  ·by_cases D:k=id
   ·subst D;simp [h1]
   ·simp [h1,D]
 rw [Q]
 exact k3
theorem Sim.give(h:Sim P X S loc s tm w){id k ver kv i:Nat}{e e2:TypeId}{ess:List (List PD)}{es:List PD}(hb:s.boxes id=some (.nest ver e e2 ess (some (i,.ref k kv))))(hk:s.boxes k=some (.arr kv e2 es))(C:k≠id):
  ∃loc',Sim P X S loc' { s with boxes:=fun j=>if j=k then some .dead else if j=id then some (.nest ver e e2 (ess.set i es) none)else s.boxes j } tm w:=by
 obtain⟨L,hL,hB⟩:=h.boxes id _ hb
 obtain⟨Lk,z,Q⟩:=h.boxes k _ hk
 cases hB with
 |nest _ _ _ _ _ hdr xs bs hsz a5 how hc c hi=>
 cases Q with
 |arr _ _ _ sz G ys K J W=>
 have Y:=hi i _ rfl
 have u:j3 (loc k) .dead:=by rw [z];exact .dead _
 have k1:=h.kl (Step.refl none w) k .dead .dead (fun b hc=>by cases hc) (.dead _ rfl) (fun b hc=>by cases hc) u
 have t:upd loc k .dead id=some (.nest ver e 1 hdr bs):=by rw [j8 _ _ (Ne.symm C)];exact hL
 obtain⟨v,b,y,bs2,rfl,O,h3,h4⟩:=hc.split (qv (e2:=e2) (rv:= .ref k kv) Y)
 cases h3 with
 |val _ _ hr h1=>
 have hv:v=G:=by
  cases hr with
  |ref _ _ _ D _ E U=>
   rw [z]at E
   cases E
   exact(U _ _ _ _ .arr).2 rfl
 subst hv
 have n:∀b,ku v=some b->(∀i D,i≠k->loc i=some D->¬D.has b)∧(∀o,S ⟨b,o,none⟩=none)∧(b∈X.B0∨X.w0.heap.size<=b):=fun b p=>h.py z p
 let N:Loc:= .nest ver e 1 hdr (y++((ku v).toList++bs2))
 have x:j3 (upd loc k .dead id) N:=by rw [t];exact .held
 have g0:=h4 (.row e2 es) v (ku v).toList (.row e2 es sz v ys K J W)
 rw [rQ,mD O]at g0
 have I:((ku hdr).toList++(y++((ku v).toList++bs2))).Nodup:=by
  rcases a4:ku v with _|g
  ·simpa using c
  ·have l:¬Loc.has (.nest ver e 1 hdr (y++([]++bs2))) g:=(n g a4).1 id _ (Ne.symm C) hL
   simp only [Loc.has,A5,BO,not_or]at l
   simp only [A5,Bd,BO]at c
   simp only [Bg,Bd,BO,Bc]
   refine⟨c.1,⟨c.2.1.1,⟨sm,c.2.1.2.1,fun a r b hb m=>?_⟩,fun a r b hb m=>?_⟩,fun a r b hb m=>?_⟩
   ·subst r;subst m;exact l.2.2 hb
   ·subst m
    rcases hb with rfl|hb
    ·exact l.2.1 r
    ·exact c.2.1.2.2 a r a hb rfl
   ·subst m
    rcases hb with hb|rfl|hb
    ·exact c.2.2 a r a (.inl hb) rfl
    ·exact l.1 r
    ·exact c.2.2 a r a (.inr hb) rfl
 have k2:=k1.kl (Step.refl none w) id (.nest ver e e2 (ess.set i es) none) N (fun b hc=>by cases hc)
  (.nest ver e e2 (ess.set i es) none hdr xs _ hsz a5 (by rw [A0];exact how) (g0.fN (Sub.refl S) ((kb.upd u).trans (kb.upd x)) fun _ _=>rfl) I (fun i rv e=>by cases e))
  (fun b hb => by
   simp only [N,Loc.has,BO]at hb
   by_cases p:ku v=some b
   ·obtain⟨f1,f2,f3⟩:=n b p
    refine .inr (.inr ⟨fun i D q F=>?_,f2,f3⟩)
    by_cases B:i=k
    ·subst B;rw [jQ]at q;cases q;cases F
    ·rw [j8 _ _ B]at q
     exact f1 i D B q F
   ·refine .inl ⟨_,t,?_⟩
    simp only [Loc.has,A5,BO]
    rcases hb with hb|hb|hb|hb
    ·exact .inl hb
    ·exact .inr (.inl hb)
    ·exact(p (by simpa using hb)).elim
    ·exact .inr (.inr hb)) x
 refine⟨upd (upd loc k .dead) id N,?_⟩
 have T:(fun j=>if j=k then some Box.dead else if j=id then some (.nest ver e e2 (ess.set i es) none)else s.boxes j)=upd (upd s.boxes k .dead) id (.nest ver e e2 (ess.set i es) none):=by
  funext j
  simp only [upd]
  by_cases h1:j=k
  ·subst h1;simp [C]
  ·by_cases O:j=id
   ·subst O;simp [h1]
   ·simp [h1,O]
 rw [T]
 exact k2
theorem Sim.qq{e2:TypeId}:∀(ess:List (List PD)){S:kd}{xs:List Value}{bs:List Nat},Sim P X S loc s tm w->NCs P S loc w (ess.map (.row e2)) xs bs->bs.Nodup->
  (∀b∈bs,(∀i L,loc i=some L->¬L.has b)∧(∀o,S ⟨b,o,none⟩=none)∧(b∈X.B0∨X.w0.heap.size<=b))->
  ∃S',Sim P X S' loc s tm w∧Sub S S'∧(∀g o,g∉bs->S ⟨g,o,none⟩=none->S' ⟨g,o,none⟩=none)∧∀(i:Nat)es x,ess[i]? =some es->xs[i]? =some x->V S' (.lst es) x
 | [],S,xs,bs,h,hc,_,_=>⟨S,h,Sub.refl S,fun _ _ _ h=>h,fun i es x hi=>by simp at hi⟩
 |es::ess,S,xs,bs,h,hc,y,k=>by
  cases hc with
  | @cons _ v Y B _ vs Q ht=>
  cases Q with
  |row _ _ sz _ ys hsz how hf=>
  have n:=(List.nodup_append.1 y).2.1
  by_cases u:es=[]
  ·subst u
   obtain⟨S',g1,g2,g3,g4⟩:=Sim.qq ess h ht n fun b hb=>k b (List.mem_append.2 (.inr hb))
   refine⟨S',g1,g2,fun g o G=>g3 g o fun hm=>G (List.mem_append.2 (.inr hm)),fun i es x hi t=>?_⟩
   cases i with
   |zero=>
    simp only [AU,AD]at hi t
    subst hi;subst t
    obtain⟨a,c,rfl,_⟩:=how.hdr
    exact .nil _ _
   |succ i=>exact g4 i es x (by simpa using hi) (by simpa using t)
  ·have z:0<es.length:=by cases es with|nil=>exact(u rfl).elim|cons=>simp
   have p:=how.nm z
   rcases p.2 with⟨rfl,h0⟩|⟨g,cap,cur,fz,rfl,N,G,D,J,K,F⟩
   ·omega
   ·have r:=p.cells (g:=g) rfl
    have l:ku (.slice (some ⟨g,0,none⟩) es.length cap)=some g:=by cases cap with|zero=>omega|succ c=>rfl
    obtain⟨f1,f2,f3⟩:=k g (List.mem_append.2 (.inl (by rw [l];simp)))
    have I:=h.nO g ys (fun j v O=>by have:=r j v O;rw [kS]at this;simpa using this) hf.one f1 f3.symm
    have q:=lx S g ys
    have E:∀b∈B,b≠g:=fun b hb e=>(List.nodup_append.1 y).2.2 g (by rw [l];simp) b hb e.symm
    have m:∀b o,b≠g->S ⟨b,o,none⟩=none->k7 S g ys ⟨b,o,none⟩=none:=fun b o hb hS=>by simp [k7,hS,hb]
    obtain⟨S',g1,g2,g3,g4⟩:=Sim.qq ess I (ht.fN q (kb.refl loc) fun _ _=>rfl) n fun b hb=>by
     obtain⟨T,U,W⟩:=k b (List.mem_append.2 (.inr hb))
     exact⟨T,fun o=>m b o (E b hb) (U o),W⟩
    refine⟨S',g1,q.trans g2,fun b o hb hS=>g3 b o (fun hm=>hb (List.mem_append.2 (.inr hm))) (m b o (fun e=>hb (List.mem_append.2 (.inl (by rw [l,e];simp)))) hS),fun i C x hi t=>?_⟩
    cases i with
    |zero=>
     simp only [AU,AD]at hi t
     subst hi;subst t
     exact(V.tn hf f2 D).mono g2
    |succ i=>exact g4 i C x (by simpa using hi) (by simpa using t)
theorem Sim.freezeN(h:Sim P X S loc s tm w){id ver:Nat}{e e2:TypeId}{ess:List (List PD)}(hb:s.boxes id=some (.nest ver e e2 ess none)):
  ∃S',Sim P X S' (upd loc id .dead) { s with boxes:=upd s.boxes id .dead } tm w∧∀v,R S loc (.ref id ver) v->V S' (.lst (ess.map .lst)) v:=by
 obtain⟨L,J,Y⟩:=h.boxes id _ hb
 cases Y with
 |nest _ _ _ _ _ hdr xs bs hsz b0 how hc D hi=>
 have G:j3 (loc id) .dead:=by rw [J];exact .dead _
 have h1:=h.kl (Step.refl none w) id .dead .dead (fun b hc=>by cases hc) (.dead _ rfl) (fun b hc=>by cases hc) G
 have l:∀b,Loc.has (.nest ver e 1 hdr bs) b->(∀i L,upd loc id .dead i=some L->¬L.has b)∧(∀o,S ⟨b,o,none⟩=none)∧(b∈X.B0∨X.w0.heap.size<=b):=fun b q=>by
  obtain⟨f1,f2,f3⟩:=h.py J q
  refine⟨fun i T m z=>?_,f2,f3⟩
  by_cases u:i=id
  ·subst u;rw [jQ]at m;cases m;cases z
  ·rw [j8 _ _ u]at m
   exact f1 i T u m z
 have U:∀v,R S loc (.ref id ver) v->v=hdr:=fun v F=>by
  cases F with
  |ref _ _ _ T _ y N=>
   rw [J]at y
   cases y
   exact(N _ _ _ _ .nest).2 rfl
 obtain⟨I,g1,g2,g3,g4⟩:=Sim.qq ess h1 (hc.fN (Sub.refl S) (kb.upd G) fun _ _=>rfl) (List.nodup_append.1 D).2.1 fun b q=>l b (List.mem_append.2 (.inr q))
 by_cases k:ess=[]
 ·subst k
  refine⟨I,g1,fun v F=>?_⟩
  rw [U v F]
  obtain⟨a,c,rfl,_⟩:=how.hdr
  exact .nil _ _
 have E:0<ess.length:=by cases ess with|nil=>exact(k rfl).elim|cons=>simp
 have n:=how.nm E
 have hlen:ess.length=xs.length:=by have:=hc.len;rwa [tl]at this
 have t:Flat I 1 (ess.map .lst) xs:=by
  refine⟨fun e he=>?_,hc.one,fun i e j x hi B=>?_⟩
  ·obtain⟨es,_,rfl⟩:=List.mem_map.1 he
   rfl
  ·rw [Av,Be]at hi
   obtain⟨es,k,rfl⟩:=hi
   cases j with
   |succ j=>simp [PD.cells]at B
   |zero=>
    simp only [PD.cells,AU,AD]at B
    subst B
    have C:i<xs.length:=by rw [<-hlen];exact(List.getElem?_eq_some_iff.1 k).1
    exact⟨xs[i],by rw [Nat.mul_one,Nat.add_zero];exact zc C,g4 i es _ k (zc C)⟩
 rcases n.2 with⟨rfl,h0⟩|⟨g,cap,cur,fz,rfl,a9,hg,O,a4,a5,Q⟩
 ·omega
 ·have r:=n.cells (g:=g) rfl
  have p:ku (.slice (some ⟨g,0,none⟩) ess.length cap)=some g:=by cases cap with|zero=>omega|succ c=>rfl
  obtain⟨f1,f2,f3⟩:=l g (List.mem_append.2 (.inl (by rw [p];simp)))
  have K:∀o,I ⟨g,o,none⟩=none:=fun o=>g3 g o (fun hm=>(List.nodup_append.1 D).2.2 g (by rw [p];simp) g hm rfl) (f2 o)
  have W:=g1.nO g xs (fun j v B=>by have:=r j v B;rw [kS]at this;simpa using this) hc.one f1 f3.symm
  refine⟨_,W,fun v F=>?_⟩
  rw [U v F]
  have:=V.tn (c:=cap) t K (by simpa using O)
  simpa using this
theorem rr.close{sz i o:Nat}{es:List PD}{xs:List Value}{p:PD}{u:Value}(hf:rr S sz es xs i o)(hi:i<es.length)(ho:o<sz)(q:p.one=true)(hu:xs[i*sz+o]? =some u)(r:V S p u):
  Flat S sz (es.set i ((es.getD i default).put o [p])) xs:=by
 have l:es[i]? =some es[i]:=zc hi
 have hd:es.getD i default=es[i]:=by simp [List.getD,l]
 rw [hd]
 have hsz:es[i].cells.length=sz:=hf.len _ (Ah hi)
 obtain⟨m,n⟩:=PD.og es[i] o [p] so (by simpa using q)
 refine⟨fun e he=>?_,hf.one,fun k e j x h1 a=>?_⟩
 ·rcases List.mem_or_eq_of_mem_set he with he|rfl
  ·exact hf.len e he
  ·rw [m,hsz]
 ·rw [AV]at h1
  by_cases b:i=k
  ·subst b
   rw [if_pos rfl,if_pos hi]at h1
   cases h1
   rw [n]at a
   simp only [List.length_singleton]at a
   by_cases c:o<=j∧j<o+1
   ·rw [if_pos c]at a
    obtain rfl:j=o:=by omega
    simp only [Nat.sub_self,AU,AD]at a
    subst a
    exact⟨u,hu,r⟩
   ·rw [if_neg c]at a
    exact hf.cell i _ j x l a (fun g=>c om)
  ·rw [if_neg b]at h1
   exact hf.cell k e j x h1 a (fun g=>b g.1.symm)
theorem Sim.opn(h:Sim P X S loc s tm w){id ver i o:Nat}{e:TypeId}{es:List PD}{x c:PD}(hb:s.boxes id=some (.arr ver e es))(a:es[i]? =some x)(hc:x.cells[o]? =some c):
  ∃loc',Sim P X S loc' { s with boxes:=fun k=>if k=id then some (.hole ver e es i o (.d c))else s.boxes k } tm w:=by
 obtain⟨L,g,m⟩:=h.boxes id _ hb
 cases m with
 |arr _ _ _ sz hdr xs hsz how hf=>
 obtain⟨u,hu,n⟩:=hf.cell i x o c a hc
 have ho:o<sz:=by rw [<-hf.len x (List.mem_of_getElem? a)];exact(List.getElem?_eq_some_iff.1 hc).1
 exact ⟨_, h.kl (Step.refl none w) id (.hole ver e es i o (.d c)) (.arr ver e sz hdr) (fun b hc => by cases hc)
  (.hole ver e es i o (.d c) sz hdr xs u hsz how ⟨hf.len,hf.one,fun k e j x h1 l _=>hf.cell k e j x h1 l⟩ (List.getElem?_eq_some_iff.1 a).1 ho hu (.d n)) (fun b hb=>.inl ⟨_,g,hb⟩) (by rw [g];exact .same _)⟩
theorem Sim.clsD(h:Sim P X S loc s tm w){id ver i o:Nat}{e:TypeId}{es:List PD}{c:PD}(hb:s.boxes id=some (.hole ver e es i o (.d c)))(hc:c.one=true):
  ∃loc',Sim P X S loc' { s with boxes:=fun k=>if k=id then some (.arr ver e (es.set i ((es.getD i default).put o [c])))else s.boxes k } tm w:=by
 obtain⟨L,a,g⟩:=h.boxes id _ hb
 cases g with
 |hole _ _ _ _ _ _ sz hdr xs u hsz how hf hi ho hu j=>
 cases j with
 |d l=>
 exact ⟨_, h.kl (Step.refl none w) id (.arr ver e (es.set i ((es.getD i default).put o [c]))) (.arr ver e sz hdr) (fun b hc => by cases hc)
  (.arr ver e _ sz hdr xs hsz (by rw [A0];exact how) (hf.close hi ho hc hu l)) (fun b hb=>.inl ⟨_,a,hb⟩) (by rw [a];exact .same _)⟩
theorem Sim.clsR(h:Sim P X S loc s tm w){id k ver m i o:Nat}{e t:TypeId}{es a:List PD}(hb:s.boxes id=some (.hole ver e es i o (.ref k m)))(hk:s.boxes k=some (.arr m t a))(c:k≠id):
  ∃S' loc',Sim P X S' loc' { s with boxes:=fun j=>if j=k then some .dead else if j=id then some (.arr ver e (es.set i ((es.getD i default).put o [.lst a])))else s.boxes j } tm w:=by
 obtain⟨S',h1,y,hl,r⟩:=h.qo hk
 have v:upd s.boxes k .dead id=some (.hole ver e es i o (.ref k m)):=by rw [j8 _ _ (Ne.symm c)];exact hb
 obtain⟨B,p,n⟩:=h.boxes id _ hb
 cases n with
 |hole _ _ _ _ _ _ sz hdr xs u hsz how hf hi ho hu x=>
 have z:V S' (.lst a) u:=(r m t a hk).1 u x
 have g:upd loc k .dead id=some (.arr ver e sz hdr):=by rw [j8 _ _ (Ne.symm c)];exact p
 have l:=h1.kl (Step.refl none w) id (.arr ver e (es.set i ((es.getD i default).put o [.lst a]))) (.arr ver e sz hdr) (fun b hc=>by cases hc)
  (.arr ver e _ sz hdr xs hsz (by rw [A0];exact how) ((hf.mono y).close hi ho rfl hu z)) (fun b hb=>.inl ⟨_,g,hb⟩) (by rw [g];exact .same _)
 refine⟨S',upd (upd loc k .dead) id (.arr ver e sz hdr),?_⟩
 have q:(fun j=>if j=k then some Box.dead else if j=id then some (.arr ver e (es.set i ((es.getD i default).put o [.lst a])))else s.boxes j)=upd (upd s.boxes k .dead) id (.arr ver e (es.set i ((es.getD i default).put o [.lst a]))):=by
  funext j
  simp only [upd]
  by_cases h1:j=k
  ·subst h1;simp [c]
  ·by_cases l:j=id
   ·subst l;simp [h1]
   ·simp [h1,l]
 rw [q]
 exact l
theorem Sim.freezeM(h:Sim P X S loc s tm w){id:Nat}{E G e2:TypeId}{es:List (PD×List PD)}(hb:s.boxes id=some (.mapn E G e2 es none)):
  ∃S' loc',Sim P X S' loc' { s with boxes:=fun i=>if i=id then some (.map E G (sa es))else s.boxes i } tm w:=by
 obtain⟨L,y,hB⟩:=h.boxes id _ hb
 cases hB with
 |mapn _ _ _ _ _ b m bs b1 hw hlen hk hc C hi=>
 have D:j3 (loc id) .dead:=by rw [y];exact .dead _
 have h1:=h.kl (Step.refl none w) id .dead .dead (fun b hc=>by cases hc) (.dead _ rfl) (fun b hc=>by cases hc) D
 have n:∀c,Loc.has (.mapn b bs) c->(∀i L,upd loc id .dead i=some L->¬L.has c)∧(∀o,S ⟨c,o,none⟩=none)∧(c∈X.B0∨X.w0.heap.size<=c):=fun c U=>by
  obtain⟨f1,f2,f3⟩:=h.py y U
  refine⟨fun i q a z=>?_,f2,f3⟩
  by_cases e:i=id
  ·subst e;rw [jQ]at a;cases a;cases z
  ·rw [j8 _ _ e]at a
   exact f1 i q e a z
 have Y:NCs P S loc w ((es.map fun x=>x.2).map (.row e2)) (m.toList.map fun x=>x.val) bs:=hc
 obtain⟨S1,g1,g2,g3,g4⟩:=Sim.qq (e2:=e2) (es.map fun x=>x.2) h1 (Y.fN (Sub.refl S) (kb.upd D) fun _ _=>rfl) (List.nodup_cons.1 C).2 fun c a4=>n c (List.mem_cons.2 (.inr a4))
 have a5:j3 (loc id) (.map b):=by rw [y];exact .frozen
 have hle:kb loc (upd loc id (.map b)):=kb.upd a5
 have T:∀o,S1 ⟨b,o,none⟩=none:=fun o=>g3 b o (List.nodup_cons.1 C).1 ((n b (Bb ..)).2.1 o)
 have W:(fun i=>if i=id then some (Box.map E G (sa es))else s.boxes i)=upd s.boxes id (.map E G (sa es)):=rfl
 rw [W]
 refine⟨S1,upd loc id (.map b),h.nt,fun t rv ht=>?_,fun i J l=>?_,fun i L a=>?_,g1.imm,g1.nA,fun i L c a g o=>?_,fun i j L L2 c a a9 g B=>?_,fun i L c a g=>?_,h.frame,g1.s0,fun k L0 b0=>?_,g1.oU,g1.bs,h.ob⟩
 ·obtain⟨v,N,O⟩:=h.kr t rv ht
  exact⟨v,N,O.mono g2 hle⟩
 ·by_cases e:i=id
  ·subst e
   simp only [jQ,AD]at l
   subst l
   refine⟨_,jQ _ _ _,.map E G _ b m.size m hw (by simpa [sa]using hlen) fun j k x en p r=>?_⟩
   simp only [sa,Av,Be]at p
   obtain⟨K,p,u⟩:=p
   cases u
   refine⟨(hk j K.1 K.2 en p r).1.mono g2,g4 j K.2 en.val (by rw [Av,p];rfl) (by rw [Av,Array.getElem?_toList,r];rfl)⟩
  ·simp only [j8 _ _ e]at l
   obtain⟨L,N,O⟩:=h.boxes i J l
   exact⟨L,by rw [j8 _ _ e];exact N,O.fN g2 hle fun _ _=>rfl⟩
 ·by_cases e:i=id
  ·subst e;exact⟨_,jQ _ _ _⟩
  ·rw [j8 _ _ e]at a
   obtain⟨J,l⟩:=h.dom i L a
   exact⟨J,by simp only [j8 _ _ e];exact l⟩
 ·by_cases e:i=id
  ·subst e
   rw [jQ]at a
   cases a
   cases g
   exact T o
  ·rw [j8 _ _ e]at a
   exact g1.mr i L c (by rw [j8 _ _ e];exact a) g o
 ·have F:∀i L c,upd loc id (.map b) i=some L->L.has c->∃q,loc i=some q∧q.has c:=fun i L c a g=>by
   by_cases e:i=id
   ·subst e
    rw [jQ]at a
    cases a
    cases g
    exact⟨_,y,Bb ..⟩
   ·rw [j8 _ _ e]at a
    exact⟨L,a,g⟩
  obtain⟨q,p,r⟩:=F i L c a g
  obtain⟨I,u,Q⟩:=F j L2 c a9 B
  exact h.inj i j q I c p u r Q
 ·by_cases e:i=id
  ·subst e
   rw [jQ]at a
   cases a
   cases g
   exact h.own i _ b y (Bb ..)
  ·rw [j8 _ _ e]at a
   exact h.own i L c a g
 ·obtain⟨L,p,r⟩:=h.par k L0 b0
  obtain⟨q,u,Q⟩:=hle k L p
  exact⟨q,u,r.trans Q⟩
theorem uJ{nb:Nat}(c6:∀k b,X.par k=some b->k<nb∧∀ver e sz hdr,b.Row ver e sz hdr->ver=0){g:oV}{s':St}(a:kU P nb s g=some s')(h:Sim P X S loc s tm w):∃S' loc',Sim P X S' loc' s' tm w:=by
 cases g with
 |fN rs bs=>
  simp only [kU]at a
  rcases h1:gets s.kr rs with _|l
  ·simp [h1]at a
  rcases D:gets s.boxes bs with _|m
  ·simp [h1,D]at a
  simp only [h1,D]at a
  split at a
  rotate_left
  ·cases a
  rename_i f2
  cases a
  obtain⟨l1,_⟩:=qQ h1
  obtain⟨m1,m2⟩:=qQ D
  let loc':kH:=fun id=>if bs.contains id then(loc id).map (ks (kM nb id))else none
  have F:∀id Q,loc' id=some Q->bs.contains id=true∧∃L,loc id=some L∧Q=ks (kM nb id) L:=by
   intro id Q I
   simp only [loc']at I
   split at I
   ·rename_i hm
    rw [Be]at I
    obtain⟨L,h3,rfl⟩:=I
    exact⟨hm,L,h3,rfl⟩
   ·cases I
  have C:oW ⟨fun id=>if bs.contains id then some id else none,ll s.boxes (kM nb)⟩ loc loc':=by
   refine oW.mk' (P:=P) (S:=S) (w:=w) h.boxes fun id k L y I=>?_
   try simp only at y
   split at y
   ·rename_i hm
    cases y
    simp only [loc',hm,if_true,I,Az]
   ·cases y
  have G := h.mem.ren (loc' := loc') (b' := assoc (m.map fun x => (x.1, mI ⟨fun id => if bs.contains id then some id else none, ll s.boxes (kM nb)⟩ (kM nb x.1) x.2))) C (fun k e7 hk => by
    obtain⟨b0,hm,rfl⟩:=sq (fun k b=>mI ⟨fun id=>if bs.contains id then some id else none,ll s.boxes (kM nb)⟩ (kM nb k) b) hk
    obtain⟨d4,c4⟩:=m1 _ hm
    simp only at d4 c4
    have d6:bs.contains k=true:=by simpa using c4
    exact⟨k,b0,kM nb k,by simp [c4],d4,rfl,fun L I=>by simp only [loc',d6,if_true,I,Az]⟩) (fun k Q hk=>by
    obtain⟨hm,L,h3,rfl⟩:=F k Q hk
    refine⟨?_,k,L,_,by simp only [hm,if_true],h3,rfl⟩
    obtain⟨v,J⟩:=m2 k (by simpa using hm)
    exact sr (fun k b=>mI ⟨fun id=>if bs.contains id then some id else none,ll s.boxes (kM nb)⟩ (kM nb k) b) J)
  refine⟨S,loc',h.nt,?_,G.boxes,G.dom,h.imm,h.nA,G.mr,G.inj,?_,h.frame,h.s0,?_,h.oU,h.bs,h.ob⟩
  ·intro t rv ht
   obtain⟨v0,hm,rfl⟩:=tX (lK ⟨fun id=>if bs.contains id then some id else none,ll s.boxes (kM nb)⟩) ht
   obtain⟨v,J,c9⟩:=h.kr t v0 (l1 _ hm).1
   exact⟨v,J,R.lK C c9⟩
  ·intro id Q b I hb
   obtain⟨_,L,hl,rfl⟩:=F id Q I
   rw [mT]at hb
   exact h.own id L b hl hb
  ·intro k L0 hk
   have a4:=(c6 k L0 hk).1
   have:=List.all_eq_true.1 f2 k (List.mem_range.2 a4)
   obtain⟨L,h3,h4⟩:=h.par k L0 hk
   exact⟨ks (kM nb k) L,by simp only [loc',this,if_true,h3,Az],xm a4 (c6 k L0 hk).2 h4⟩
 |own t id e=>
  simp only [kU]at a
  split at a
  ·rename_i k ht hb hk
   cases a
   obtain⟨loc',h1,D,_⟩:=h.pb hb (Step.refl none w) hk (hdr:= .slice none 0 0) (es:=[]) (xs:=[]) (.inl (.of (World.ownsRow_nil w 0 e _))) (Flat.nil S _) (fun g a=>by cases a) rfl
   refine⟨S,loc',?_⟩
   refine h1.oE _ fun x rv N=>?_
   split at N
   ·rename_i W
    subst W
    cases N
    obtain⟨v,J,C⟩:=h.kr x _ ht
    cases C with
    |jt=>exact⟨_,J,D⟩
   ·exact h1.kr x rv N
  ·cases a
   exact⟨S,loc,h⟩
  ·cases a
 |freeze t=>
  simp only [kU]at a
  rcases ht:s.kr t with _|rv
  ·simp [ht]at a
  rw [ht]at a
  cases rv<;>first|(simp at a;done)|skip
  rename_i id ver
  simp only at a
  rcases hb:s.boxes id with _|O
  ·simp [hb]at a
  rw [hb]at a
  cases O<;>first|(simp at a;done)|skip
  rename_i B e es
  simp only at a
  by_cases z:ver=B
  rotate_left
  ·simp [z]at a
  subst z
  simp only [if_true,AD]at a
  subst a
  obtain⟨S',h1,hs,hl,J⟩:=h.qo hb
  have J:=fun v C=>(J ver e es hb).1 v C
  refine⟨S',_,h1.oE _ fun x rv N=>?_⟩
  split at N
  ·rename_i W
   subst W
   cases N
   obtain⟨v,d0,C⟩:=h.kr x _ ht
   exact⟨v,d0,.d (J v C)⟩
  ·exact h1.kr x rv N
 |frz p=>
  simp only [kU]at a
  rcases y:mq s p with _|rv
  ·simp [y]at a
  rw [y]at a
  cases rv<;>first|(simp at a;done)|skip
  ·simp only [AD]at a
   subst a
   exact⟨S,loc,h⟩
  ·simp only [AD]at a
   subst a
   exact⟨S,loc,h.mC y fun v C=>by cases C;exact .d (.nil _ _)⟩
  ·rename_i id ver
   simp only at a
   rcases hb:s.boxes id with _|O
   ·simp [hb]at a
   rw [hb]at a
   cases O<;>first|(simp at a;done)|skip
   rename_i B e es
   simp only at a
   by_cases z:ver=B
   rotate_left
   ·simp [z]at a
   subst z
   simp only [if_true,AD]at a
   subst a
   obtain⟨S',h1,hs,hl,J⟩:=h.qo hb
   have J:=fun v C=>(J ver e es hb).1 v C
   have E:({ s with boxes:=upd s.boxes id .dead }:St)={ s with boxes:=fun i=>if i=id then some .dead else s.boxes i }:=rfl
   rw [E]at h1
   have g6:mq ({ s with boxes:=fun i=>if i=id then some .dead else s.boxes i }:St) p=some (.ref id ver):=nC y fun off e=>by
    subst e
    simp only [mq,hb]at y
    cases y
   cases p with
   |reg t=>
    refine⟨S',_,h1.oE _ fun x rv N=>?_⟩
    split at N
    ·rename_i W
     subst W
     cases N
     obtain⟨v,d0,C⟩:=h.kr x _ y
     exact⟨v,d0,.d (J v C)⟩
    ·exact h1.kr x rv N
   |cell i off=>
    have K:i≠id:=fun e=>by
     subst e
     simp only [mq,hb]at y
     cases y
    simp only [mq]at y
    rcases a9:s.boxes i with _|O
    ·simp [a9]at y
    rw [a9]at y
    cases O with
    |arr _ _ _=>cases y
    |dead=>cases y
    |map _ _ _=>cases y
    |nest _ _ _ _ _=>cases y
    |mapn _ _ _ _ _=>cases y
    |hole _ _ _ _ _ _=>cases y
    |deep _ _ _ _ _ _ _=>cases y
    |var cs=>
     simp only at y
     simp only [Dw.mC,K,if_false,a9]
     refine⟨S',_,h1.nt,h1.kr,fun j O hj=>?_,fun j L I=>?_,h1.imm,h1.nA,h1.mr,h1.inj,h1.own,h1.frame,h1.s0,h1.par,h1.oU,h1.bs,h1.ob⟩
     ·simp only at hj
      by_cases b2:j=i
      ·subst b2
       simp only [if_true]at hj
       cases hj
       obtain⟨L,I,hB⟩:=h.boxes j _ a9
       obtain⟨Q,Y,e8⟩:=h1.boxes j (.var cs) (by simp only [K,if_false];exact a9)
       refine⟨Q,Y,?_⟩
       have f0:Q=L:=by
        rw [j8 _ _ K,I]at Y
        exact(BT Y).symm
       subst f0
       cases hB with
       |var _ b t vs hw f5 hc=>
        cases e8 with
        |var _ _ t' g7 e6 g5 f1=>
         rw [hw]at e6
         cases e6
         exact .var _ b t vs hw (by simpa using f5) (R.sx f1 fun v c0=>.d (J v (hc off _ v y c0)))
      ·simp only [b2,if_false]at hj
       exact h1.boxes j O hj
     ·obtain⟨O,c3⟩:=h1.dom j L I
      by_cases b2:j=i
      ·subst b2;exact⟨_,if_pos rfl⟩
      ·exact⟨O,by simp only [b2,if_false];exact c3⟩
 |ownp p id e=>
  simp only [kU]at a
  split at a
  ·rename_i k y hb hk
   cases a
   obtain⟨loc',h1,D,_⟩:=h.pb hb (Step.refl none w) hk (hdr:= .slice none 0 0) (es:=[]) (xs:=[]) (.inl (.of (World.ownsRow_nil w 0 e _))) (Flat.nil S _) (fun g a=>by cases a) rfl
   have E:({ s with boxes:=upd s.boxes id (.arr 0 e []) }:St)={ s with boxes:=fun i=>if i=id then some (.arr 0 e [])else s.boxes i }:=rfl
   refine⟨S,loc',Sim.mC (s:={ s with boxes:=fun i=>if i=id then some (.arr 0 e [])else s.boxes i }) h1 (nC y fun off he=>?_) fun v C=>?_⟩
   ·subst he
    simp only [mq,hb]at y
    cases y
   ·cases C with
    |jt=>exact D
  ·cases a
   exact⟨S,loc,h⟩
  ·cases a
 |mv p new=>
  simp only [kU]at a
  rcases y:mq s p with _|rv
  ·simp [y]at a
  rw [y]at a
  cases rv<;>first|(simp at a;done)|(simp only [AD]at a;subst a;exact⟨S,loc,h⟩)|skip
  rename_i id ver
  simp only at a
  by_cases hid:id=new
  ·rw [if_pos hid]at a;cases a;exact⟨S,loc,h⟩
  rw [if_neg hid]at a
  by_cases d8:nb<=id∧nb<=new
  rotate_left
  ·rw [if_neg d8]at a;cases a
  rw [if_pos d8]at a
  simp only [AD]at a
  subst a
  let pos:Nat->Option Nat:=fun i=>if i=id then some new else if i=new then none else some i
  let loc':kH:=fun k=>if k=new then loc id else if k=id then none else loc k
  have sv:∀L:Loc,ks (fun c=>c) L=L:=fun L=>xF L fun _=>rfl
  have e0:∀i k L,pos i=some k->loc i=some L->loc' k=some L:=by
   intro i k L h1 D
   simp only [pos]at h1
   split at h1
   ·rename_i e;subst e;cases h1;simp only [loc',if_true];exact D
   ·split at h1
    ·cases h1
    ·rename_i n1 n2;cases h1;simp only [loc',n1,n2,if_false];exact D
  have C:oW ⟨pos,ll s.boxes fun _ c=>c⟩ loc loc':=oW.mk' (P:=P) (S:=S) (w:=w) h.boxes fun i k L h1 D=>by rw [sv];exact e0 i k L h1 D
  have b5:∀k,(∃i,pos i=some k∧∀α(f:Nat->Option α),(if k=new then f id else if k=id then none else f k)=f i)∨(k=id):=by
   intro k
   by_cases h1:k=new
   ·subst h1;exact .inl ⟨id,by simp only [pos,if_true],fun α f=>if_pos rfl⟩
   ·by_cases D:k=id
    ·exact .inr D
    ·exact .inl ⟨k,by simp only [pos,h1,D,if_false],fun α f=>by rw [if_neg h1,if_neg D]⟩
  have T:∀α(f:Nat->Option α),(if id=new then f id else if id=id then none else f id)=none:=fun α f=>by rw [if_neg hid,if_pos rfl]
  have G:=h.mem.ren (loc':=loc') (b':=fun i=>if i=new then(s.boxes id).map (mI ⟨pos,ll s.boxes fun _ c=>c⟩ fun c=>c)else if i=id then none else(s.boxes i).map (mI ⟨pos,ll s.boxes fun _ c=>c⟩ fun c=>c)) C
   (fun k e7 hk => by
    rcases b5 k with⟨i,h1,D⟩|rfl
    ·have hk:=(D _ fun i=>(s.boxes i).map (mI ⟨pos,ll s.boxes fun _ c=>c⟩ fun c=>c)).symm.trans hk
     rw [Be]at hk
     obtain⟨b0,h3,rfl⟩:=hk
     exact⟨i,b0,fun c=>c,h1,h3,rfl,fun L I=>by rw [sv];exact e0 i k L h1 I⟩
    ·have:=(T _ fun i=>(s.boxes i).map (mI ⟨pos,ll s.boxes fun _ c=>c⟩ fun c=>c)).symm.trans hk
     cases this)
   (fun k Q hk => by
    rcases b5 k with⟨i,h1,D⟩|rfl
    ·have d7:loc i=some Q:=(D _ loc).symm.trans hk
     obtain⟨O,c3⟩:=h.dom i Q d7
     refine⟨⟨mI ⟨pos,ll s.boxes fun _ c=>c⟩ (fun c=>c) O,?_⟩,i,Q,fun c=>c,h1,d7,(sv Q).symm⟩
     rw [D _ fun i=>(s.boxes i).map (mI ⟨pos,ll s.boxes fun _ c=>c⟩ fun c=>c),c3]
     rfl
    ·have:=(T _ loc).symm.trans hk
     cases this)
  refine⟨S,loc',h.nt,fun t rv ht=>?_,G.boxes,G.dom,h.imm,h.nA,G.mr,G.inj,fun k L b I hb=>?_,h.frame,h.s0,fun k L0 hk=>?_,h.oU,h.bs,h.ob⟩
  ·simp only [Be]at ht
   obtain⟨c1,h1,rfl⟩:=ht
   obtain⟨v,J,c9⟩:=h.kr t c1 h1
   exact⟨v,J,R.lK C c9⟩
  ·rcases b5 k with⟨i,h1,D⟩|rfl
   ·exact h.own i L b ((D _ loc).symm.trans I) hb
   ·have:=(T _ loc).symm.trans I
    cases this
  ·have a4:=(c6 k L0 hk).1
   obtain⟨L,h3,h4⟩:=h.par k L0 hk
   refine⟨L,?_,h4⟩
   have n1:k≠new:=by omega
   have n2:k≠id:=by omega
   simp only [loc',n1,n2,if_false]
   exact h3
 |fixv id=>
  simp only [kU]at a
  rcases hb:s.boxes id with _|O
  ·simp [hb]at a
  rw [hb]at a
  cases O<;>first|(simp at a;done)|skip
  rename_i cs
  simp only at a
  rcases ha:nL cs with _|ps
  ·simp [ha]at a
  simp only [ha]at a
  by_cases b4:ps.all PD.one=true
  rotate_left
  ·rw [if_neg b4]at a;cases a
  rw [if_pos b4]at a
  simp only [AD]at a
  subst a
  have f3:=nD ha
  subst f3
  obtain⟨L,I,hB⟩:=h.boxes id _ hb
  cases hB with
  |var _ b t vs hw hl hc=>
  have c0:∀(i:Nat)p u,ps[i]? =some p->vs[i]? =some u->V S p u:=fun i p u h1 D=>by
   have:=hc i (.d p) u (by simp [h1]) D
   cases this with|d h=>exact h
  have hlen:vs.size=ps.length:=by simpa using hl
  have h1:∀u∈vs,u.oneCell'=true:=fun u hu=>by
   obtain⟨i,hi,rfl⟩:=Array.getElem_of_mem hu
   have d5:i<ps.length:=by omega
   exact((c0 i ps[i] vs[i] (zc d5) (Ak hi)).mA (List.all_eq_true.1 b4 _ (Ah d5))).1
  obtain⟨k1,k2,k3⟩:=h.xf hb I hw h1
  have E:({ s with boxes:=upd s.boxes id .dead }:St)={ s with boxes:=fun i=>if i=id then some .dead else s.boxes i }:=rfl
  rw [E]at k1
  refine⟨_,_,k1.oE (fun t=>(s.kr t).map (fixRV id ps)) fun t rv ht=>?_⟩
  rw [Be]at ht
  obtain⟨c1,D,rfl⟩:=ht
  obtain⟨v,J,C⟩:=h.kr t c1 D
  obtain⟨v',e4,e1⟩:=k1.kr t c1 D
  rw [J]at e4
  cases e4
  refine⟨v,J,?_⟩
  unfold fixRV
  split
  ·rename_i i off
   split
   ·rename_i hi
    subst hi
    cases C with
    |ptr _ _ _ L2 ho d2 y=>
     rw [I]at d2
     cases d2
     rw [(y b).1 rfl]
     have d3:∀(j:Nat)c,(ps.drop off)[j]? =some c->∃u,vs[off+j]? =some u∧V S c u:=fun j c hj=>by
      rw [List.getElem?_drop]at hj
      have a4:off+j<vs.size:=by rw [hlen];exact(List.getElem?_eq_some_iff.1 hj).1
      exact⟨_,Ak a4,c0 _ c _ hj (Ak a4)⟩
     refine .cptr _ b off (fun j=>(vs[off+j]?).getD default) (fun j c hj=>?_) fun j c hj=>?_
     ·obtain⟨u,hu,_⟩:=d3 j c hj
      rw [k3 _ u hu,hu];rfl
     ·obtain⟨u,hu,f9⟩:=d3 j c hj
      rw [hu]
      exact f9.mono k2
   ·exact e1
  ·exact e1
 |bump t=>
  simp only [kU]at a
  rcases ht:s.kr t with _|rv
  ·simp [ht]at a
  rw [ht]at a
  cases rv<;>first|(simp at a;done)|skip
  rename_i id ver
  simp only at a
  rcases hb:s.boxes id with _|O
  ·simp [hb]at a
  rw [hb]at a
  cases O<;>first|(simp at a;done)|skip
  rename_i B e es
  simp only at a
  by_cases z:ver=B
  rotate_left
  ·simp [z]at a
  subst z
  simp only [if_true,AD]at a
  subst a
  obtain⟨v,J,C⟩:=h.kr t _ ht
  obtain⟨sz,xs,F,hsz,how,hf⟩:=h.nX hb C
  have ho:v.oneCell'=true:=by cases C with|ref _ _ _ _ ho=>exact ho
  have U:j3 (loc id) (.arr (ver+1) e sz v):=by
   rw [F]
   exact .arr om
  have a5:=h.kl (Step.refl none w) id (.arr (ver+1) e es) (.arr (ver+1) e sz v) (fun b hc=>by cases hc) (.arr (ver+1) e es sz v xs hsz how hf) (fun b c2=>.inl ⟨_,F,c2⟩) U
  have E:({ s with boxes:=upd s.boxes id (.arr (ver+1) e es) }:St)={ s with boxes:=fun i=>if i=id then some (.arr (ver+1) e es)else s.boxes i }:=rfl
  rw [E]at a5
  refine⟨S,_,a5.oE _ fun x rv N=>?_⟩
  split at N
  ·rename_i W
   subst W
   cases N
   exact⟨v,J,.ref id (ver+1) v _ ho (jQ _ _ _) fun B e' d1 b1 he=>by cases he;exact⟨AB _,fun _=>rfl⟩⟩
  ·exact a5.kr x rv N
 |bumpp p=>
  simp only [kU]at a
  rcases ht:mq s p with _|rv
  ·simp [ht]at a
  rw [ht]at a
  cases rv<;>first|(simp at a;done)|skip
  rename_i id ver
  simp only at a
  rcases hb:s.boxes id with _|O
  ·simp [hb]at a
  rw [hb]at a
  cases O<;>first|(simp at a;done)|skip
  rename_i B e es
  simp only at a
  by_cases z:ver=B
  rotate_left
  ·simp [z]at a
  subst z
  simp only [if_true,AD]at a
  subst a
  obtain⟨L,I,hB⟩:=h.boxes id _ hb
  cases hB with
  |arr _ _ _ sz hdr xs hsz how hf=>
  have U:j3 (loc id) (.arr (ver+1) e sz hdr):=by
   rw [I]
   exact .arr om
  have a5:=h.kl (Step.refl none w) id (.arr (ver+1) e es) (.arr (ver+1) e sz hdr) (fun b hc=>by cases hc) (.arr (ver+1) e es sz hdr xs hsz how hf) (fun b c2=>.inl ⟨_,I,c2⟩) U
  have E:({ s with boxes:=upd s.boxes id (.arr (ver+1) e es) }:St)={ s with boxes:=fun i=>if i=id then some (.arr (ver+1) e es)else s.boxes i }:=rfl
  rw [E]at a5
  have c7:mq { s with boxes:=fun i=>if i=id then some (.arr (ver+1) e es)else s.boxes i } p=some (.ref id ver):=nC ht fun off c8=>by
   subst c8
   simp only [mq,hb]at ht
   cases ht
  refine⟨S,_,a5.plSet' c7 fun v J=>?_⟩
  have f6:PlAt loc tm w v p:=by
   cases p with
   |reg t=>exact J
   |cell i off=>
    obtain⟨b,vs,ty,h1,D,h3⟩:=J
    refine⟨b,vs,ty,?_,D,h3⟩
    by_cases hi:i=id
    ·subst hi;rw [jQ]at h1;cases h1
    ·rwa [j8 _ _ hi]at h1
  have C:=h.plAt ht v f6
  cases C with
  |ref _ _ _ Q ho Y hc=>
   rw [I]at Y
   cases Y
   have:=(hc ver e sz hdr .arr).2 rfl
   subst this
   exact .ref id (ver+1) _ _ ho (jQ _ _ _) fun B e' d1 b1 he=>by cases he;exact⟨AB _,fun _=>rfl⟩
 |ownn p id e e2=>
  simp only [kU]at a
  split at a
  ·rename_i k y hb hk f4
   cases a
   have F:=h.ky hb
   have U:j3 (loc id) (.nest 0 e 1 (.slice none 0 0) []):=by rw [F];trivial
   have h1:=h.kl (Step.refl none w) id (.nest 0 e e2 [] none) (.nest 0 e 1 (.slice none 0 0) []) (fun b hc=>by cases hc)
    (.nest 0 e e2 [] none _ [] [] hk ⟨k,f4⟩ (.inl (.of (World.ownsRow_nil w 0 e _))) .nil (by simp [ku]) (fun i rv e=>by cases e)) (fun b hb=>by simp [Loc.has,ku]at hb) U
   have E:({ s with boxes:=upd s.boxes id (.nest 0 e e2 [] none) }:St)={ s with boxes:=fun i=>if i=id then some (.nest 0 e e2 [] none)else s.boxes i }:=rfl
   rw [E]at h1
   refine⟨S,_,Sim.mC (s:={ s with boxes:=fun i=>if i=id then some (.nest 0 e e2 [] none)else s.boxes i }) h1 (nC y fun off he=>?_) fun v C=>?_⟩
   ·subst he
    simp only [mq,hb]at y
    cases y
   ·cases C with
    |jt=>exact .ref id 0 _ _ rfl (jQ _ _ _) fun B e' d1 b1 he=>by cases he;exact⟨AB _,fun _=>rfl⟩
  ·cases a
   exact⟨S,loc,h⟩
  ·cases a
 |lend id i new=>
  simp only [kU]at a
  split at a
  rotate_left
  ·cases a
  rename_i ver e e2 ess hb b3
  rcases c5:uR s ess i with _|⟨j,es⟩
  ·simp [c5]at a
  simp only [c5,AD]at a
  subst a
  exact h.lend hb b3 (wW c5)
 |give id=>
  simp only [kU]at a
  split at a
  ·rename_i ver e e2 ess i k kv hb
   split at a
   rotate_left
   ·cases a
   rename_i g0 e' es hk
   split at a
   rotate_left
   ·cases a
   rename_i hc
   obtain⟨rfl,rfl,K⟩:=hc
   cases a
   exact⟨S,h.give hb hk K⟩
  ·cases a
  ·cases a
   exact⟨S,loc,h⟩
 |frzn p=>
  simp only [kU]at a
  split at a
  ·rename_i id ver y
   split at a
   rotate_left
   ·cases a
   rename_i B e e2 ess hb
   split at a
   rotate_left
   ·cases a
   rename_i z
   subst z
   cases a
   obtain⟨S',h1,J⟩:=h.freezeN hb
   have E:({ s with boxes:=upd s.boxes id .dead }:St)={ s with boxes:=fun i=>if i=id then some .dead else s.boxes i }:=rfl
   rw [E]at h1
   have c7:mq { s with boxes:=fun i=>if i=id then some .dead else s.boxes i } p=some (.ref id ver):=nC y fun off c8=>by
    subst c8
    simp only [mq,hb]at y
    cases y
   refine⟨S',_,h1.plSet' c7 fun v e5=>.d (J v (h.plAt y v ?_))⟩
   cases p with
   |reg t=>exact e5
   |cell i off=>
    obtain⟨b,vs,ty,g1,g2,g3⟩:=e5
    refine⟨b,vs,ty,?_,g2,g3⟩
    by_cases hi:i=id
    ·subst hi;rw [jQ]at g1;cases g1
    ·rwa [j8 _ _ hi]at g1
  ·rename_i y
   cases a
   exact⟨S,loc,h.mC y fun v C=>by cases C;exact .d (.nil _ _)⟩
  ·cases a
   exact⟨S,loc,h⟩
  ·cases a
 |frzm id=>
  simp only [kU]at a
  split at a
  ·rename_i kt vt e2 es hb
   cases a
   exact h.freezeM hb
  ·cases a
  ·cases a
   exact⟨S,loc,h⟩
 |opn id r o=>
  simp only [kU]at a
  split at a
  rotate_left
  ·cases a
  rename_i ver e es q n hb C
  split at a
  rotate_left
  ·cases a
  rename_i x N
  split at a
  rotate_left
  ·cases a
  rename_i c hc
  cases a
  exact⟨S,h.opn hb N hc⟩
 |cls id=>
  simp only [kU]at a
  split at a
  ·rename_i ver e es i o c hb
   split at a
   rotate_left
   ·cases a
   rename_i hc
   cases a
   exact⟨S,h.clsD hb hc⟩
  ·rename_i ver e es i o k kv hb
   split at a
   rotate_left
   ·cases a
   rename_i g0 e' g4 hk
   split at a
   rotate_left
   ·cases a
   rename_i hc
   obtain⟨rfl,K⟩:=hc
   cases a
   exact h.clsR hb hk K
  ·cases a
  ·cases a
   exact⟨S,loc,h⟩
 |ownd p id e o e2 ts=>
  simp only [kU]at a
  split at a
  ·rename_i y hb
   split at a
   rotate_left
   ·cases a
   rename_i ht
   cases a
   obtain⟨n,hn,ho⟩:=vJ ht
   have F:=h.ky hb
   have U:j3 (loc id) (.nest 0 e n (.slice none 0 0) []):=by rw [F];trivial
   have h1:=h.kl (Step.refl none w) id (.deep 0 e [] o e2 ts none) (.nest 0 e n (.slice none 0 0) []) (fun b hc=>by cases hc)
    (.deep 0 e [] o e2 ts none n _ [] [] (fun _=>[]) ⟨hn,ho,.inl (.of (World.ownsRow_nil w 0 e _)),⟨nofun,nofun,fun k e j x h1=>by simp at h1⟩,⟨fun k e h1=>by simp at h1,fun _ _=>rfl,fun k k' b h1=>by simp at h1,fun k b h1=>by simp at h1⟩,fun b=>sm,nofun,ht⟩) (fun b hb=>by simp [Loc.has,ku]at hb) U
   have E:({ s with boxes:=upd s.boxes id (.deep 0 e [] o e2 ts none) }:St)={ s with boxes:=fun i=>if i=id then some (.deep 0 e [] o e2 ts none)else s.boxes i }:=rfl
   rw [E]at h1
   refine⟨S,_,Sim.mC (s:={ s with boxes:=fun i=>if i=id then some (.deep 0 e [] o e2 ts none)else s.boxes i }) h1 (nC y fun off he=>?_) fun v C=>?_⟩
   ·subst he
    simp only [mq,hb]at y
    cases y
   ·cases C with
    |jt=>exact .ref id 0 _ _ rfl (jQ _ _ _) fun B e' d1 b1 he=>by cases he;exact⟨AB _,fun _=>rfl⟩
  ·cases a
   exact⟨S,loc,h⟩
  ·cases a
 |opnd id r new=>
  simp only [kU]at a
  split at a
  rotate_left
  ·cases a
  rename_i ver e es o e2 ts q n hb C b3
  split at a
  rotate_left
  ·cases a
  rename_i x N
  split at a
  rotate_left
  ·cases a
  rename_i row hc
  cases a
  exact h.opnD hb b3 N hc
 |clsd id=>
  simp only [kU]at a
  split at a
  ·rename_i ver e es o e2 ts i k kv hb
   split at a
   rotate_left
   ·cases a
   rename_i b hk
   split at a
   rotate_left
   ·cases a
   rename_i row e3
   split at a
   rotate_left
   ·cases a
   rename_i K
   cases a
   exact h.clsR' hb hk e3 K
  ·rename_i ver e es o e2 ts i hb
   cases a
   exact h.clsN hb
  ·cases a
  ·cases a
   exact⟨S,loc,h⟩
 |flatd id n=>
  simp only [kU]at a
  split at a
  ·rename_i ver e es o e2 ts hb
   cases a
   exact h.flat0 hb
  ·cases a
  ·rename_i ver e es o e2 ts hh m hb
   cases a
   exact h.flatN hb
  ·cases a
   exact⟨S,loc,h⟩
theorem qp{nb:Nat}(a:∀k b,X.par k=some b->k<nb∧∀ver e sz hdr,b.Row ver e sz hdr->ver=0):∀(gs:List oV){s s':St}{S:kd}{loc:kH},kx P nb s gs=some s'->Sim P X S loc s tm w->∃S' loc',Sim P X S' loc' s' tm w
 | [],s,s',S,loc,h,c=>by simp only [kx,AD]at h;subst h;exact⟨S,loc,c⟩
 |g::gs,s,s',S,loc,h,c=>by
  simp only [kx]at h
  rcases h1:kU P nb s g with _|s1
  ·simp [h1]at h
  simp only [h1]at h
  obtain⟨l,j,i⟩:=uJ a h1 c
  exact qp a gs h i
end
def Ex.out:Ex->Exit
 | .normal=>.normal
 | .exit id=>.exit id
 | .ret=>.ret
section
variable {P:Program}{X:Ctx}{H:Hints}{f:FuncId}{nb:Nat}{call:ko}{fuel:Nat}
theorem pF{c:Code}{body:St->Option (Ex×St)}{Q:Exit->Act->World->Prop}
  (b:∀{s:St}{e:Ex}{s':St}{a:Act}{w:World}{Q:Exit->Act->World->Prop},body s=some (e,s')->nW P X s a w->(∀i w',nW P X s' i w'->Q e.out i w')->c.wp P Q a w):
  ∀(n:Nat){s:St}{e:Ex}{s':St}{a:Act}{w:World},oj body n s=some (e,s')->nW P X s a w->(∀i w',nW P X s' i w'->Q e.out i w')->Code.rounds P c Q n a w
 |0,s,e,s',a,w,h,_,_=>by simp [oj]at h
 |n+1,s,e,s',a,w,h,hS,j=>by
  simp only [oj]at h
  rcases h1:body s with _|⟨k,s1⟩
  ·simp [h1]at h
  rw [h1]at h
  rw [rounds_succ]
  cases k with
  |normal=>
   simp only at h
   exact b h1 hS fun i w' g=>pF b n h g j
  |exit id=>
   simp only [AD,AF]at h
   obtain⟨rfl,rfl⟩:=h
   exact b h1 hS fun i w' g=>j i w' g
  |ret=>
   simp only [AD,AF]at h
   obtain⟨rfl,rfl⟩:=h
   exact b h1 hS fun i w' g=>j i w' g
theorem kX(g:mj P X.base call)(hm:P.follows .mixedOrders=true)(m:∀k b,X.par k=some b->k<nb∧∀ver e sz hdr,b.Row ver e sz hdr->ver=0):∀(c:Code){s:St}{e:Ex}{s':St}{a:Act}{w:World}{Q:Exit->Act->World->Prop},
  rA X.nt c=true->kB P H f nb call fuel c s=some (e,s')->nW P X s a w->(∀n w',nW P X s' n w'->Q e.out n w')->c.wp P Q a w
 | .skip,s,e,s',a,w,Q,_,h,hS,l=>by
  simp only [kB,AD,AF]at h
  obtain⟨rfl,rfl⟩:=h
  exact wp_skip (l a w hS)
 | .region id ops B,s,e,s',a,w,Q,hd,h,hS,l=>by
  simp only [kB]at h
  rcases h1:qn P H f nb call id ops B s with _|s1
  ·simp [h1]at h
  simp only [h1,AD,AF]at h
  obtain⟨rfl,rfl⟩:=h
  unfold qn at h1
  rcases D:kx P nb s (H.at_ f nb id)with _|s0
  ·simp [D]at h1
  simp only [D]at h1
  rcases E:lM P (H.hf f) call ops ops.toList s0 with _|⟨s2,ts⟩
  ·simp [E]at h1
  simp only [E]at h1
  obtain⟨u,S,loc,q⟩:=hS
  obtain⟨S',loc',r⟩:=qp m _ D q
  have v:DstIn X.nt ops:=by
   intro i o ho d F
   have:=Array.all_eq_true_iff_forall_mem.1 (show(ops.all fun o=>match o.dst with|some d=>decide (d<X.nt)|none=>true)=true from hd) o (Array.mem_of_getElem? ho)
   simpa [F]using this
  have I:s2=s1∧(B=true->qw ops ts=true):=by
   cases B with
   |true=>
    simp only [if_true]at h1
    split at h1
    ·rename_i G;cases h1;exact⟨rfl,fun _=>G⟩
    ·cases h1
   |false=>simp only [Aj,if_false,AD]at h1;exact⟨h1,fun h=>by cases h⟩
  obtain⟨rfl,z⟩:=I
  exact uV g hm v E z ⟨u,S',loc',r⟩ l
 | .seq x y,s,e,s',a,w,Q,hd,h,hS,l=>by
  simp only [rA,Ac]at hd
  simp only [kB]at h
  rcases h1:kB P H f nb call fuel x s with _|⟨C,s1⟩
  ·simp [h1]at h
  rw [h1]at h
  refine wp_seq ?_
  cases C with
  |normal=>
   simp only at h
   exact kX g hm m x hd.1 h1 hS fun n w' j=>kX g hm m y hd.2 h j l
  |exit id=>
   simp only [AD,AF]at h
   obtain⟨rfl,rfl⟩:=h
   exact kX g hm m x hd.1 h1 hS fun n w' j=>l n w' j
  |ret=>
   simp only [AD,AF]at h
   obtain⟨rfl,rfl⟩:=h
   exact kX g hm m x hd.1 h1 hS fun n w' j=>l n w' j
 | .cond c x y,s,e,s',a,w,Q,hd,h,hS,l=>by
  simp only [rA,Ac]at hd
  simp only [kB]at h
  rcases h1:s.opd c with _|rv
  ·simp [h1]at h
  rw [h1]at h
  rcases rv with p|_|_|_|_|_|_|_|_|_|_|_|_<;>first|(simp at h;done)|skip
  cases p<;>first|(simp at h;done)|skip
  rename_i t
  have j:=hS
  obtain⟨u,S,loc,q⟩:=j
  have hb:=(q.opd h1).mZ
  cases t with
  |true=>
   simp only [if_true]at h
   exact wp_cond_true hb (kX g hm m x hd.1 h hS l)
  |false=>
   simp only [Aj,if_false]at h
   exact wp_cond_false hb (kX g hm m y hd.2 h hS l)
 | .block id x,s,e,s',a,w,Q,hd,h,hS,l=>by
  simp only [kB]at h
  rcases h1:kB P H f nb call fuel x s with _|⟨C,s1⟩
  ·simp [h1]at h
  rw [h1]at h
  refine wp_block (kX g hm m x hd h1 hS fun n w' j=>?_)
  cases C with
  |normal=>
   simp only [AD,AF]at h
   obtain⟨rfl,rfl⟩:=h
   exact l n w' j
  |exit J=>
   simp only at h
   by_cases hid:J=id
   ·simp only [hid,if_true,AD,AF]at h
    obtain⟨rfl,rfl⟩:=h
    simp only [Ex.out,Exit.inBlock,hid,if_true]
    exact l n w' j
   ·simp only [hid,if_false,AD,AF]at h
    obtain⟨rfl,rfl⟩:=h
    simp only [Ex.out,Exit.inBlock,hid,if_false]
    exact l n w' j
  |ret=>
   simp only [AD,AF]at h
   obtain⟨rfl,rfl⟩:=h
   exact l n w' j
 | .loop x,s,e,s',a,w,Q,hd,h,hS,l=>by
  simp only [kB]at h
  exact wp_loop_rounds fuel (pF (fun hb hS l=>kX g hm m x hd hb hS l) fuel h hS l)
 | .exit id,s,e,s',a,w,Q,_,h,hS,l=>by
  simp only [kB,AD,AF]at h
  obtain⟨rfl,rfl⟩:=h
  exact wp_exit (l a w hS)
 | .ret,s,e,s',a,w,Q,_,h,hS,l=>by
  simp only [kB,AD,AF]at h
  obtain⟨rfl,rfl⟩:=h
  exact wp_ret (l a w hS)
 | .rangeFunc _ _ _ _,s,e,s',a,w,Q,_,h,_,_=>by simp [kB]at h
 | .scope x,s,e,s',a,w,Q,hd,h,hS,l=>by
  simp only [kB]at h
  refine wp_scope_straight (kX g hm m x hd h hS fun n w' j=>?_)
  have:=l n w' j
  cases e<;>exact this
 | .label _,s,e,s',a,w,Q,_,h,hS,l=>by
  simp only [kB,AD,AF]at h
  obtain⟨rfl,rfl⟩:=h
  exact wp_label (l a w hS)
 | .goto _,s,e,s',a,w,Q,_,h,_,_=>by simp [kB]at h
 | .refuse _,s,e,s',a,w,Q,_,h,_,_=>by simp [kB]at h
end
end Go.Dw
