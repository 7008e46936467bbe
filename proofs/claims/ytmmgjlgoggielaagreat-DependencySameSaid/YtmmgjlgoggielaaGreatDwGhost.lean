
import Derived.Test.YtmmgjlgoggielaaGreatDwRegion
import Derived.Scope

namespace Go.Dw
theorem xm{α:Type}{f:Nat->Option α}:∀{ts:List Nat}{l:List (Nat×α)},gets f ts=some l->(∀x∈l,f x.1=some x.2∧x.1∈ts)∧∀t∈ts,∃v,(t,v)∈l
 | [],l,h=>by
  simp only [gets,Option.some.injEq]at h
  subst h
  exact⟨(fun x hx=>by cases hx),(fun t ht=>by cases ht)⟩
 |t::ts,l,h=>by
  simp only [gets]at h
  rcases h1:f t with _|v
  ·simp [h1]at h
  rcases h2:gets f ts with _|r
  ·simp [h1,h2]at h
  simp only [h1,h2,Option.some.injEq]at h
  subst h
  obtain⟨g1,g2⟩:=xm h2
  refine⟨fun x hx=>?_,fun t' ht=>?_⟩
  ·rcases List.mem_cons.1 hx with rfl|hx
   ·exact⟨h1,sm⟩
   ·exact⟨(g1 x hx).1,by simp [(g1 x hx).2]⟩
  ·rcases List.mem_cons.1 ht with rfl|ht
   ·exact⟨v,sm⟩
   ·obtain⟨v',hv⟩:=g2 t' ht
    exact⟨v',by simp [hv]⟩
theorem zr{α:Type}(g:α->α):∀{l:List (Nat×α)}{t:Nat}{v:α},assoc (l.map fun x=>(x.1,g x.2)) t=some v->∃v0,(t,v0)∈l∧v=g v0
 | [],t,v,h=>by simp [assoc]at h
 |(k,a)::r,t,v,h=>by
  simp only [List.map_cons,assoc]at h
  by_cases hk:t=k
  ·subst hk
   simp only [if_true,Option.some.injEq]at h
   exact⟨a,sm,h.symm⟩
  ·simp only [hk,if_false]at h
   obtain⟨v0,h1,h2⟩:=zr g h
   exact⟨v0,by simp [h1],h2⟩
theorem yq{α:Type}(g:Nat->α->α):∀{l:List (Nat×α)}{t:Nat}{v:α},assoc (l.map fun x=>(x.1,g x.1 x.2)) t=some v->∃v0,(t,v0)∈l∧v=g t v0
 | [],t,v,h=>by simp [assoc]at h
 |(k,a)::r,t,v,h=>by
  simp only [List.map_cons,assoc]at h
  by_cases hk:t=k
  ·subst hk
   simp only [if_true,Option.some.injEq]at h
   exact⟨a,sm,h.symm⟩
  ·simp only [hk,if_false]at h
   obtain⟨v0,h1,h2⟩:=yq g h
   exact⟨v0,by simp [h1],h2⟩
theorem yr{α:Type}(g:Nat->α->α):∀{l:List (Nat×α)}{t:Nat}{v:α},(t,v)∈l->∃v',assoc (l.map fun x=>(x.1,g x.1 x.2)) t=some v'
 | [],t,v,h=>by cases h
 |(k,a)::r,t,v,h=>by
  simp only [List.map_cons,assoc]
  by_cases hk:t=k
  ·exact⟨g k a,by simp [hk]⟩
  ·simp only [hk,if_false]
   rcases List.mem_cons.1 h with h|h
   ·cases h;exact(hk rfl).elim
   ·exact yr g h
section
variable {P:Program}{X:Ctx}{S:pT}{loc:qp}{s:St}{tm:Array Value}{w:World}
theorem Sim.uZ(h:Sim P X S loc s tm w)(regs':Nat->Option RV)(hr:∀t rv,regs' t=some rv->∃v,tm[t]? =some v∧R S loc rv v):Sim P X S loc { s with p8:=regs' } tm w:=
 ⟨h.nt,hr,h.boxes,h.dom,h.imm,h.tQ,h.sr,h.inj,h.own,h.frame,h.s0,h.par,h.vM,h.bs,h.ob⟩
theorem B9(L:Loc){f:Nat->Nat}(hf:∀v,f v=v):pY f L=L:=by cases L<;>simp [pY,hf]
theorem R.yx{cs:List RV}{vs:Array Value}{S:pT}{loc:qp}(hc:∀(i:Nat)c v,cs[i]? =some c->vs[i]? =some v->R S loc c v){off:Nat}{x:RV}(hx:∀v,vs[off]? =some v->R S loc x v):
  ∀(i:Nat)c v,(cs.set off x)[i]? =some c->vs[i]? =some v->R S loc c v:=by
 intro i c v h1 h2
 by_cases hi:off=i
 ·subst hi
  rw [List.getElem?_set]at h1
  simp only [if_true]at h1
  split at h1
  ·cases h1;exact hx v h2
  ·cases h1
 ·rw [List.getElem?_set_ne hi]at h1
  exact hc i c v h1 h2
theorem Sim.sW(h:Sim P X S loc s tm w){p:Pl}{rv x:RV}(hp:sJ s p=some rv)(hx:∀v,R S loc rv v->R S loc x v):Sim P X S loc (Dw.sW s x p) tm w:=by
 cases p with
 |reg t=>
  refine h.uZ _ fun y rv' hy=>?_
  split at hy
  ·rename_i hyt
   subst hyt
   cases hy
   obtain⟨v,hv,hr⟩:=h.p8 y _ hp
   exact⟨v,hv,hx v hr⟩
  ·exact h.p8 y rv' hy
 |cell id off=>
  simp only [sJ]at hp
  rcases hb:s.boxes id with _|bx
  ·simp [hb]at hp
  rw [hb]at hp
  cases bx with
  |arr _ _ _=>cases hp
  |dead=>cases hp
  |map _ _ _=>cases hp
  |nest _ _ _ _ _=>cases hp
  |mapn _ _ _ _ _=>cases hp
  |var cs=>
   simp only at hp
   simp only [Dw.sW,hb]
   refine⟨h.nt,h.p8,fun i bx hi=>?_,fun i L hL=>?_,h.imm,h.tQ,h.sr,h.inj,h.own,h.frame,h.s0,h.par,h.vM,h.bs,h.ob⟩
   ·simp only at hi
    split at hi
    ·rename_i hid
     subst hid
     cases hi
     obtain⟨L,hL,hB⟩:=h.boxes i _ hb
     refine⟨L,hL,?_⟩
     cases hB with
     |var _ b t vs hw hl hc=>
      exact .var _ b t vs hw (by simpa using hl) (R.yx hc fun v hv=>hx v (hc off rv v hp hv))
    ·exact h.boxes i bx hi
   ·obtain⟨bx,hbx⟩:=h.dom i L hL
    by_cases hid:i=id
    ·subst hid;exact⟨_,if_pos rfl⟩
    ·exact⟨bx,by simp only [hid,if_false];exact hbx⟩
theorem uD{id:Nat}{bx:Box}{rv:RV}:∀{p:Pl},sJ s p=some rv->(∀off,p≠ .cell id off)->sJ { s with boxes:=fun i=>if i=id then some bx else s.boxes i } p=some rv
 | .reg t,h,_=>h
 | .cell i off,h,hn=>by
  have:i≠id:=fun e=>hn off (by rw [e])
  simp only [sJ,this,if_false]at h⊢
  exact h
theorem BO{nb k:Nat}(hlt:k<nb){L0 L:Loc}(h0:∀ver e sz hdr,L0.Row ver e sz hdr->ver=0)(h:tg L0 L):tg L0 (pY (qt nb k) L):=by
 cases h with
 |same=>
  cases L0 with
  |arr ver e sz hdr=>
   have:=h0 ver e sz hdr .arr
   subst this
   simp only [pY,qt,hlt,if_true,Nat.zero_min]
   exact .same _
  |nest ver e sz hdr bs=>
   have:=h0 ver e sz hdr .nest
   subst this
   simp only [pY,qt,hlt,if_true,Nat.zero_min]
   exact .same _
  |var b=>exact .same _
  |dead=>exact .same _
  |map b=>exact .same _
  |mapn b bs=>exact .same _
 |dead=>exact .dead _
 |arr hv=>
  have:=h0 _ _ _ _ .arr
  subst this
  refine .arr ?_
  simp only [qt,hlt,if_true]
  omega
 |nest hv=>
  have:=h0 _ _ _ _ .nest
  subst this
  refine .nest ?_
  simp only [qt,hlt,if_true]
  omega
 |held=>
  have:=h0 _ _ _ _ .nest
  subst this
  simp only [pY,qt,hlt,if_true,Nat.zero_min]
  exact .held
 |heldm=>exact .heldm
 |frozen=>exact .frozen
def PlAt(loc:qp)(tm:Array Value)(w:World)(v:Value):Pl->Prop
 | .reg t=>tm[t]? =some v
 | .cell id off=>∃b vs ty,loc id=some (.var b)∧w.heap[b]? =some (.cells vs ty (0,0))∧vs[off]? =some v
theorem Sim.plAt(h:Sim P X S loc s tm w){p:Pl}{rv:RV}(hp:sJ s p=some rv):∀v,PlAt loc tm w v p->R S loc rv v:=by
 cases p with
 |reg t=>
  intro v hv
  obtain⟨v',h1,h2⟩:=h.p8 t rv hp
  simp only [PlAt]at hv
  rw [h1]at hv
  cases hv
  exact h2
 |cell id off=>
  intro v hv
  obtain⟨b,vs,ty,h1,h2,h3⟩:=hv
  simp only [sJ]at hp
  rcases hb:s.boxes id with _|bx
  ·simp [hb]at hp
  rw [hb]at hp
  cases bx<;>simp only at hp<;>first|(cases hp;done)|skip
  obtain⟨L,hL,hB⟩:=h.boxes id _ hb
  rw [h1]at hL
  cases hL
  cases hB with
  |var _ b t vs' hw hl hc=>
   rw [hw]at h2
   cases h2
   exact hc off rv v hp h3
theorem Sim.plSet'(h:Sim P X S loc s tm w){p:Pl}{rv x:RV}(hp:sJ s p=some rv)(hx:∀v,PlAt loc tm w v p->R S loc x v):Sim P X S loc (Dw.sW s x p) tm w:=by
 cases p with
 |reg t=>
  refine h.uZ _ fun y rv' hy=>?_
  split at hy
  ·rename_i hyt
   subst hyt
   cases hy
   obtain⟨v,hv,hr⟩:=h.p8 y _ hp
   exact⟨v,hv,hx v hv⟩
  ·exact h.p8 y rv' hy
 |cell id off=>
  simp only [sJ]at hp
  rcases hb:s.boxes id with _|bx
  ·simp [hb]at hp
  rw [hb]at hp
  cases bx<;>simp only at hp<;>first|(cases hp;done)|skip
  simp only [Dw.sW,hb]
  refine⟨h.nt,h.p8,fun i bx hi=>?_,fun i L hL=>?_,h.imm,h.tQ,h.sr,h.inj,h.own,h.frame,h.s0,h.par,h.vM,h.bs,h.ob⟩
  ·simp only at hi
   split at hi
   ·rename_i hid
    subst hid
    cases hi
    obtain⟨L,hL,hB⟩:=h.boxes i _ hb
    refine⟨L,hL,?_⟩
    cases hB with
    |var _ b t vs hw hl hc=>
     exact .var _ b t vs hw (by simpa using hl) (R.yx hc fun v hv=>hx v ⟨b,vs,t,hL,hw,hv⟩)
   ·exact h.boxes i bx hi
  ·obtain⟨bx,hbx⟩:=h.dom i L hL
   by_cases hid:i=id
   ·subst hid;exact⟨_,if_pos rfl⟩
   ·exact⟨bx,by simp only [hid,if_false];exact hbx⟩
theorem Bm{s:St}{ess:List (List PD)}{i:Option Nat}{j:Nat}{es:List PD}(h:vG s ess i=some (j,es)):ess[j]? =some es:=by
 unfold vG at h
 split at h
 ·split at h
  ·rename_i hx;cases h;exact hx
  ·cases h
 ·split at h
  ·split at h
   ·split at h
    ·rename_i hx;cases h;exact hx
    ·cases h
   ·cases h
  ·cases h
theorem Sim.vX(h:Sim P X S loc s tm w){id:Nat}{L:Loc}(hL:loc id=some L){b:Nat}(hb:L.has b):
  (∀i L',i≠id->loc i=some L'->¬L'.has b)∧(∀o,S ⟨b,o,none⟩=none)∧(b∈X.B0∨X.w0.heap.size<=b):=
 ⟨fun i L' hi hL' hb'=>hi (h.inj i id L' L b hL' hL hb' hb),fun o=>h.sr id L b hL hb o,h.own id L b hL hb⟩
theorem Sim.lend(h:Sim P X S loc s tm w){id new ver j:Nat}{e e2:TypeId}{ess:List (List PD)}{es:List PD}(hb:s.boxes id=some (.nest ver e e2 ess none))(hnew:s.boxes new=none)(hj:ess[j]? =some es):
  ∃S' loc',Sim P X S' loc' { s with boxes:=fun k=>if k=new then some (.arr 0 e2 es)else if k=id then some (.nest ver e e2 ess (some (j,.ref new 0)))else s.boxes k } tm w:=by
 obtain⟨L,hL,hB⟩:=h.boxes id _ hb
 have hne:new≠id:=fun e=>by rw [e,hb]at hnew;cases hnew
 have hjl:j<ess.length:=(List.getElem?_eq_some_iff.1 hj).1
 cases hB with
 |nest _ _ _ _ _ hdr xs bs hsz hs2 how hc hnd hi=>
 obtain⟨v,b,bs1,bs2,rfl,h2,h3,h4⟩:=hc.split (AM (e2:=e2) hj)
 cases h3 with
 |row _ _ sz _ ys hsz2 how2 hf2=>
 have hrow1:v.oneCell'=true:=by obtain⟨a,c,rfl,_⟩:=how2.hdr;rfl
 let L1:Loc:= .nest ver e 1 hdr (bs1++bs2)
 have hnd1:((qA hdr).toList++(bs1++bs2)).Nodup:=List.Nodup.sublist (List.Sublist.append (List.Sublist.refl _) (List.Sublist.append (List.Sublist.refl _) (List.sublist_append_right _ _))) hnd
 have hhas:∀b,L1.has b->Loc.has (.nest ver e 1 hdr (bs1++((qA v).toList++bs2))) b:=fun b hb=>by
  simp only [L1,Loc.has,List.mem_append]at hb⊢
  rcases hb with hb|hb|hb
  ·exact .inl hb
  ·exact .inr (.inl hb)
  ·exact .inr (.inr (.inr hb))
 have hst1:pU (loc id) L1:=by rw [hL];exact .held
 have g0:=h4 (.val .junk) v [] (.val _ v (.junk v) hrow1)
 rw [tY e2 ess none j .junk (fun _ _ e=>by cases e),List.nil_append]at g0
 have k1:=h.qz (Step.refl none w) id (.nest ver e e2 ess (some (j,.junk))) L1 (fun b hc=>by cases hc)
  (.nest ver e e2 ess _ hdr (xs.set j v) (bs1++bs2) hsz hs2 (by rw [uE h2];exact how) (g0.nZ (Sub.refl S) (pS.upd hst1) fun _ _=>rfl) hnd1 (fun i rv e=>by cases e;exact hjl)) (fun b hb=>.inl ⟨_,hL,hhas b hb⟩) hst1
 have hvac:upd loc id L1 new=none:=by rw [pW _ _ hne];exact h.qc hnew
 have hst2:pU (upd loc id L1 new) (.arr 0 e2 sz v):=by rw [hvac];trivial
 have k2 := k1.qz (Step.refl none w) new (.arr 0 e2 es) (.arr 0 e2 sz v) (fun b hc => by cases hc) (.arr 0 e2 es sz v ys hsz2 how2 hf2) (fun b hbv => by
  have hbn:Loc.has (.nest ver e 1 hdr (bs1++((qA v).toList++bs2))) b:=by
   simp only [Loc.has,List.mem_append]at hbv⊢
   exact .inr (.inr (.inl (by rw [hbv];simp)))
  obtain⟨f1,f2,f3⟩:=h.vX hL hbn
  refine .inr (.inr ⟨fun i L' hiL hbL=>?_,f2,f3⟩)
  by_cases hii:i=id
  ·subst hii
   rw [pM]at hiL
   cases hiL
   have hbv:qA v=some b:=hbv
   have hbL:b∈(qA hdr).toList++(bs1++bs2):=hbL
   rw [hbv]at hnd
   simp only [Option.toList_some,List.nodup_append,List.mem_append,List.mem_singleton]at hnd hbL
   rcases hbL with hbL|hbL|hbL
   ·exact hnd.2.2 b hbL b (.inr (.inl rfl)) rfl
   ·exact hnd.2.1.2.2 b hbL b (.inl rfl) rfl
   ·exact hnd.2.1.2.1.2.2 b rfl b hbL rfl
  ·rw [pW _ _ hii]at hiL
   exact f1 i L' hii hiL hbL) hst2
 have hl3:upd (upd loc id L1) new (.arr 0 e2 sz v) id=some L1:=by rw [pW _ _ (Ne.symm hne)];exact pM _ _ _
 have hst3:pU (upd (upd loc id L1) new (.arr 0 e2 sz v) id) L1:=by rw [hl3];exact .same _
 have hR:R S (upd (upd (upd loc id L1) new (.arr 0 e2 sz v)) id L1) (.ref new 0) v:= .ref new 0 v _ hrow1 (by rw [pW _ _ hne];exact pM _ _ _) fun ver' e' sz' hdr' he=>by cases he;exact⟨Nat.le_refl _,fun _=>rfl⟩
 have g2:NCs P S (upd (upd (upd loc id L1) new (.arr 0 e2 sz v)) id L1) w (ncs e2 ess (some (j,.ref new 0))) (xs.set j v) (bs1++bs2):=by
  have q:=g0.nZ (Sub.refl S) ((pS.upd hst1).trans ((pS.upd hst2).trans (pS.upd hst3))) fun _ _=>rfl
  exact q.reval hjl (by rw [uE h2];exact h2) hR hrow1
 have k3:=k2.qz (Step.refl none w) id (.nest ver e e2 ess (some (j,.ref new 0))) L1 (fun b hc=>by cases hc)
  (.nest ver e e2 ess _ hdr (xs.set j v) (bs1++bs2) hsz hs2 (by rw [uE h2];exact how) g2 hnd1 (fun i rv e=>by cases e;exact hjl)) (fun b hb=>.inl ⟨L1,hl3,hb⟩) hst3
 refine⟨S,upd (upd (upd loc id L1) new (.arr 0 e2 sz v)) id L1,?_⟩
 have hbe:(fun k=>if k=new then some (.arr 0 e2 es)else if k=id then some (.nest ver e e2 ess (some (j,.ref new 0)))else s.boxes k)=upd (upd (upd s.boxes id (.nest ver e e2 ess (some (j,.junk)))) new (.arr 0 e2 es)) id (.nest ver e e2 ess (some (j,.ref new 0))):=by
  funext k
  simp only [upd]
  by_cases h1:k=new
  ·subst h1;simp [hne]
  ·by_cases h2:k=id
   ·subst h2;simp [h1]
   ·simp [h1,h2]
 rw [hbe]
 exact k3
theorem Sim.wx(h:Sim P X S loc s tm w){id k ver kv i:Nat}{e e2:TypeId}{ess:List (List PD)}{es:List PD}(hb:s.boxes id=some (.nest ver e e2 ess (some (i,.ref k kv))))(hk:s.boxes k=some (.arr kv e2 es))(hne:k≠id):
  ∃loc',Sim P X S loc' { s with boxes:=fun j=>if j=k then some .dead else if j=id then some (.nest ver e e2 (ess.set i es) none)else s.boxes j } tm w:=by
 obtain⟨L,hL,hB⟩:=h.boxes id _ hb
 obtain⟨Lk,hLk,hBk⟩:=h.boxes k _ hk
 cases hB with
 |nest _ _ _ _ _ hdr xs bs hsz hs2 how hc hnd hi=>
 cases hBk with
 |arr _ _ _ sz hdrk ys hszk howk hfk=>
 have hil:=hi i _ rfl
 have hst1:pU (loc k) .dead:=by rw [hLk];exact .dead _
 have k1:=h.qz (Step.refl none w) k .dead .dead (fun b hc=>by cases hc) (.dead _ rfl) (fun b hc=>by cases hc) hst1
 have hlid:upd loc k .dead id=some (.nest ver e 1 hdr bs):=by rw [pW _ _ (Ne.symm hne)];exact hL
 obtain⟨v,b,bs1,bs2,rfl,h2,h3,h4⟩:=hc.split (w4 (e2:=e2) (rv:= .ref k kv) hil)
 cases h3 with
 |val _ _ hr h1=>
 have hv:v=hdrk:=by
  cases hr with
  |ref _ _ _ L' _ hL' hc'=>
   rw [hLk]at hL'
   cases hL'
   exact(hc' _ _ _ _ .arr).2 rfl
 subst hv
 have hfree:∀b,qA v=some b->(∀i L',i≠k->loc i=some L'->¬L'.has b)∧(∀o,S ⟨b,o,none⟩=none)∧(b∈X.B0∨X.w0.heap.size<=b):=fun b hbv=>h.vX hLk hbv
 let L2:Loc:= .nest ver e 1 hdr (bs1++((qA v).toList++bs2))
 have hst2:pU (upd loc k .dead id) L2:=by rw [hlid];exact .held
 have g0:=h4 (.row e2 es) v (qA v).toList (.row e2 es sz v ys hszk howk hfk)
 rw [xU,uE h2]at g0
 have hnd2:((qA hdr).toList++(bs1++((qA v).toList++bs2))).Nodup:=by
  rcases hov:qA v with _|g
  ·simpa using hnd
  ·have hnot:¬Loc.has (.nest ver e 1 hdr (bs1++([]++bs2))) g:=(hfree g hov).1 id _ (Ne.symm hne) hL
   simp only [Loc.has,List.nil_append,List.mem_append,not_or]at hnot
   simp only [List.nil_append,List.nodup_append,List.mem_append]at hnd
   simp only [Option.toList_some,List.nodup_append,List.mem_append,List.mem_singleton]
   refine⟨hnd.1,⟨hnd.2.1.1,⟨sm,hnd.2.1.2.1,fun a ha b hb hab=>?_⟩,fun a ha b hb hab=>?_⟩,fun a ha b hb hab=>?_⟩
   ·subst ha;subst hab;exact hnot.2.2 hb
   ·subst hab
    rcases hb with rfl|hb
    ·exact hnot.2.1 ha
    ·exact hnd.2.1.2.2 a ha a hb rfl
   ·subst hab
    rcases hb with hb|rfl|hb
    ·exact hnd.2.2 a ha a (.inl hb) rfl
    ·exact hnot.1 ha
    ·exact hnd.2.2 a ha a (.inr hb) rfl
 have k2:=k1.qz (Step.refl none w) id (.nest ver e e2 (ess.set i es) none) L2 (fun b hc=>by cases hc)
  (.nest ver e e2 (ess.set i es) none hdr xs _ hsz hs2 (by rw [List.length_set];exact how) (g0.nZ (Sub.refl S) ((pS.upd hst1).trans (pS.upd hst2)) fun _ _=>rfl) hnd2 (fun i rv e=>by cases e))
  (fun b hb => by
   simp only [L2,Loc.has,List.mem_append]at hb
   by_cases hbv:qA v=some b
   ·obtain⟨f1,f2,f3⟩:=hfree b hbv
    refine .inr (.inr ⟨fun i L' hiL hbL=>?_,f2,f3⟩)
    by_cases hik:i=k
    ·subst hik;rw [pM]at hiL;cases hiL;cases hbL
    ·rw [pW _ _ hik]at hiL
     exact f1 i L' hik hiL hbL
   ·refine .inl ⟨_,hlid,?_⟩
    simp only [Loc.has,List.nil_append,List.mem_append]
    rcases hb with hb|hb|hb|hb
    ·exact .inl hb
    ·exact .inr (.inl hb)
    ·exact(hbv (by simpa using hb)).elim
    ·exact .inr (.inr hb)) hst2
 refine⟨upd (upd loc k .dead) id L2,?_⟩
 have hbe:(fun j=>if j=k then some Box.dead else if j=id then some (.nest ver e e2 (ess.set i es) none)else s.boxes j)=upd (upd s.boxes k .dead) id (.nest ver e e2 (ess.set i es) none):=by
  funext j
  simp only [upd]
  by_cases h1:j=k
  ·subst h1;simp [hne]
  ·by_cases h2:j=id
   ·subst h2;simp [h1]
   ·simp [h1,h2]
 rw [hbe]
 exact k2
theorem Sim.wZ{e2:TypeId}:∀(ess:List (List PD)){S:pT}{xs:List Value}{bs:List Nat},Sim P X S loc s tm w->NCs P S loc w (ess.map (.row e2)) xs bs->bs.Nodup->
  (∀b∈bs,(∀i L,loc i=some L->¬L.has b)∧(∀o,S ⟨b,o,none⟩=none)∧(b∈X.B0∨X.w0.heap.size<=b))->
  ∃S',Sim P X S' loc s tm w∧Sub S S'∧(∀g o,g∉bs->S ⟨g,o,none⟩=none->S' ⟨g,o,none⟩=none)∧∀(i:Nat)es x,ess[i]? =some es->xs[i]? =some x->V S' (.lst es) x
 | [],S,xs,bs,h,hc,_,_=>⟨S,h,Sub.refl S,fun _ _ _ h=>h,fun i es x hi=>by simp at hi⟩
 |es::ess,S,xs,bs,h,hc,hnd,hfree=>by
  cases hc with
  | @cons _ v b0 bs0 _ vs hr ht=>
  cases hr with
  |row _ _ sz _ ys hsz how hf=>
  have hndt:=(List.nodup_append.1 hnd).2.1
  by_cases hes:es=[]
  ·subst hes
   obtain⟨S',g1,g2,g3,g4⟩:=Sim.wZ ess h ht hndt fun b hb=>hfree b (List.mem_append.2 (.inr hb))
   refine⟨S',g1,g2,fun g o hg=>g3 g o fun hm=>hg (List.mem_append.2 (.inr hm)),fun i es x hi hx=>?_⟩
   cases i with
   |zero=>
    simp only [List.getElem?_cons_zero,Option.some.injEq]at hi hx
    subst hi;subst hx
    obtain⟨a,c,rfl,_⟩:=how.hdr
    exact .nil _ _
   |succ i=>exact g4 i es x (by simpa using hi) (by simpa using hx)
  ·have hpos:0<es.length:=by cases es with|nil=>exact(hes rfl).elim|cons=>simp
   have how':=how.vj hpos
   rcases how'.2 with⟨rfl,h0⟩|⟨g,cap,cur,fz,rfl,hfz,hg,hnc,hcm,hcs,htake⟩
   ·omega
   ·have hcell:=how'.cells (g:=g) rfl
    have hown:qA (.slice (some ⟨g,0,none⟩) es.length cap)=some g:=by cases cap with|zero=>omega|succ c=>rfl
    obtain⟨f1,f2,f3⟩:=hfree g (List.mem_append.2 (.inl (by rw [hown];simp)))
    have h2:=h.uQ g ys (fun j v hj=>by have:=hcell j v hj;rw [rk]at this;simpa using this) hf.one f1 f3.symm
    have hsub:=rj S g ys
    have hne:∀b∈bs0,b≠g:=fun b hb e=>(List.nodup_append.1 hnd).2.2 g (by rw [hown];simp) b hb e.symm
    have hadd:∀b o,b≠g->S ⟨b,o,none⟩=none->qQ S g ys ⟨b,o,none⟩=none:=fun b o hb hS=>by simp [qQ,hS,hb]
    obtain⟨S',g1,g2,g3,g4⟩:=Sim.wZ ess h2 (ht.nZ hsub (pS.refl loc) fun _ _=>rfl) hndt fun b hb=>by
     obtain⟨q1,q2,q3⟩:=hfree b (List.mem_append.2 (.inr hb))
     exact⟨q1,fun o=>hadd b o (hne b hb) (q2 o),q3⟩
    refine⟨S',g1,hsub.trans g2,fun b o hb hS=>g3 b o (fun hm=>hb (List.mem_append.2 (.inr hm))) (hadd b o (fun e=>hb (List.mem_append.2 (.inl (by rw [hown,e];simp)))) hS),fun i es' x hi hx=>?_⟩
    cases i with
    |zero=>
     simp only [List.getElem?_cons_zero,Option.some.injEq]at hi hx
     subst hi;subst hx
     exact(V.Aa hf f2 hnc).mono g2
    |succ i=>exact g4 i es' x (by simpa using hi) (by simpa using hx)
theorem Sim.freezeN(h:Sim P X S loc s tm w){id ver:Nat}{e e2:TypeId}{ess:List (List PD)}(hb:s.boxes id=some (.nest ver e e2 ess none)):
  ∃S',Sim P X S' (upd loc id .dead) { s with boxes:=upd s.boxes id .dead } tm w∧∀v,R S loc (.ref id ver) v->V S' (.lst (ess.map .lst)) v:=by
 obtain⟨L,hL,hB⟩:=h.boxes id _ hb
 cases hB with
 |nest _ _ _ _ _ hdr xs bs hsz hs2 how hc hnd hi=>
 have hst:pU (loc id) .dead:=by rw [hL];exact .dead _
 have h1:=h.qz (Step.refl none w) id .dead .dead (fun b hc=>by cases hc) (.dead _ rfl) (fun b hc=>by cases hc) hst
 have hgone:∀b,Loc.has (.nest ver e 1 hdr bs) b->(∀i L,upd loc id .dead i=some L->¬L.has b)∧(∀o,S ⟨b,o,none⟩=none)∧(b∈X.B0∨X.w0.heap.size<=b):=fun b hbb=>by
  obtain⟨f1,f2,f3⟩:=h.vX hL hbb
  refine⟨fun i L' hiL hbL=>?_,f2,f3⟩
  by_cases hii:i=id
  ·subst hii;rw [pM]at hiL;cases hiL;cases hbL
  ·rw [pW _ _ hii]at hiL
   exact f1 i L' hii hiL hbL
 have hv:∀v,R S loc (.ref id ver) v->v=hdr:=fun v hr=>by
  cases hr with
  |ref _ _ _ L' _ hL' hc'=>
   rw [hL]at hL'
   cases hL'
   exact(hc' _ _ _ _ .nest).2 rfl
 obtain⟨S1,g1,g2,g3,g4⟩:=Sim.wZ ess h1 (hc.nZ (Sub.refl S) (pS.upd hst) fun _ _=>rfl) (List.nodup_append.1 hnd).2.1 fun b hbb=>hgone b (List.mem_append.2 (.inr hbb))
 by_cases hes:ess=[]
 ·subst hes
  refine⟨S1,g1,fun v hr=>?_⟩
  rw [hv v hr]
  obtain⟨a,c,rfl,_⟩:=how.hdr
  exact .nil _ _
 have hpos:0<ess.length:=by cases ess with|nil=>exact(hes rfl).elim|cons=>simp
 have how':=how.vj hpos
 have hlen:ess.length=xs.length:=by have:=hc.len;rwa [yQ]at this
 have hflat:Flat S1 1 (ess.map .lst) xs:=by
  refine⟨fun e he=>?_,hc.one,fun i e j x hi hj=>?_⟩
  ·obtain⟨es,_,rfl⟩:=List.mem_map.1 he
   rfl
  ·rw [List.getElem?_map,Option.map_eq_some_iff]at hi
   obtain⟨es,hes,rfl⟩:=hi
   cases j with
   |succ j=>simp [PD.cells]at hj
   |zero=>
    simp only [PD.cells,List.getElem?_cons_zero,Option.some.injEq]at hj
    subst hj
    have hlt:i<xs.length:=by rw [<-hlen];exact(List.getElem?_eq_some_iff.1 hes).1
    exact⟨xs[i],by rw [Nat.mul_one,Nat.add_zero];exact ze hlt,g4 i es _ hes (ze hlt)⟩
 rcases how'.2 with⟨rfl,h0⟩|⟨g,cap,cur,fz,rfl,hfz,hg,hnc,hcm,hcs,htake⟩
 ·omega
 ·have hcell:=how'.cells (g:=g) rfl
  have hown:qA (.slice (some ⟨g,0,none⟩) ess.length cap)=some g:=by cases cap with|zero=>omega|succ c=>rfl
  obtain⟨f1,f2,f3⟩:=hgone g (List.mem_append.2 (.inl (by rw [hown];simp)))
  have hS1:∀o,S1 ⟨g,o,none⟩=none:=fun o=>g3 g o (fun hm=>(List.nodup_append.1 hnd).2.2 g (by rw [hown];simp) g hm rfl) (f2 o)
  have h2:=g1.uQ g xs (fun j v hj=>by have:=hcell j v hj;rw [rk]at this;simpa using this) hc.one f1 f3.symm
  refine⟨_,h2,fun v hr=>?_⟩
  rw [hv v hr]
  have:=V.Aa (c:=cap) hflat hS1 (by simpa using hnc)
  simpa using this
theorem Sim.freezeM(h:Sim P X S loc s tm w){id:Nat}{kt vt e2:TypeId}{es:List (PD×List PD)}(hb:s.boxes id=some (.mapn kt vt e2 es none)):
  ∃S' loc',Sim P X S' loc' { s with boxes:=fun i=>if i=id then some (.map kt vt (ya es))else s.boxes i } tm w:=by
 obtain⟨L,hL,hB⟩:=h.boxes id _ hb
 cases hB with
 |mapn _ _ _ _ _ b ents bs hs2 hw hlen hk hc hnd hi=>
 have hst:pU (loc id) .dead:=by rw [hL];exact .dead _
 have h1:=h.qz (Step.refl none w) id .dead .dead (fun b hc=>by cases hc) (.dead _ rfl) (fun b hc=>by cases hc) hst
 have hgone:∀c,Loc.has (.mapn b bs) c->(∀i L,upd loc id .dead i=some L->¬L.has c)∧(∀o,S ⟨c,o,none⟩=none)∧(c∈X.B0∨X.w0.heap.size<=c):=fun c hbb=>by
  obtain⟨f1,f2,f3⟩:=h.vX hL hbb
  refine⟨fun i L' hiL hbL=>?_,f2,f3⟩
  by_cases hii:i=id
  ·subst hii;rw [pM]at hiL;cases hiL;cases hbL
  ·rw [pW _ _ hii]at hiL
   exact f1 i L' hii hiL hbL
 have hc':NCs P S loc w ((es.map fun x=>x.2).map (.row e2)) (ents.toList.map fun x=>x.val) bs:=hc
 obtain⟨S1,g1,g2,g3,g4⟩:=Sim.wZ (e2:=e2) (es.map fun x=>x.2) h1 (hc'.nZ (Sub.refl S) (pS.upd hst) fun _ _=>rfl) (List.nodup_cons.1 hnd).2 fun c hcc=>hgone c (List.mem_cons.2 (.inr hcc))
 have hgo:pU (loc id) (.map b):=by rw [hL];exact .frozen
 have hle:pS loc (upd loc id (.map b)):=pS.upd hgo
 have hSb:∀o,S1 ⟨b,o,none⟩=none:=fun o=>g3 b o (List.nodup_cons.1 hnd).1 ((hgone b (List.mem_cons_self ..)).2.1 o)
 have hbe:(fun i=>if i=id then some (Box.map kt vt (ya es))else s.boxes i)=upd s.boxes id (.map kt vt (ya es)):=rfl
 rw [hbe]
 refine⟨S1,upd loc id (.map b),h.nt,fun t rv ht=>?_,fun i bx hbx=>?_,fun i L hiL=>?_,g1.imm,g1.tQ,fun i L c hiL hcL o=>?_,fun i j L L2 c hiL hjL hcL hcL2=>?_,fun i L c hiL hcL=>?_,h.frame,g1.s0,fun k L0 hk0=>?_,g1.vM,g1.bs,h.ob⟩
 ·obtain⟨v,h2,h3⟩:=h.p8 t rv ht
  exact⟨v,h2,h3.mono g2 hle⟩
 ·by_cases hii:i=id
  ·subst hii
   simp only [pM,Option.some.injEq]at hbx
   subst hbx
   refine⟨_,pM _ _ _,.map kt vt _ b ents.size ents hw (by simpa [ya]using hlen) fun j k x en h5 h6=>?_⟩
   simp only [ya,List.getElem?_map,Option.map_eq_some_iff]at h5
   obtain⟨e0,h5,h7⟩:=h5
   cases h7
   refine⟨(hk j e0.1 e0.2 en h5 h6).1.mono g2,g4 j e0.2 en.val (by rw [List.getElem?_map,h5];rfl) (by rw [List.getElem?_map,Array.getElem?_toList,h6];rfl)⟩
  ·simp only [pW _ _ hii]at hbx
   obtain⟨L,h2,h3⟩:=h.boxes i bx hbx
   exact⟨L,by rw [pW _ _ hii];exact h2,h3.nZ g2 hle fun _ _=>rfl⟩
 ·by_cases hii:i=id
  ·subst hii;exact⟨_,pM _ _ _⟩
  ·rw [pW _ _ hii]at hiL
   obtain⟨bx,hbx⟩:=h.dom i L hiL
   exact⟨bx,by simp only [pW _ _ hii];exact hbx⟩
 ·by_cases hii:i=id
  ·subst hii
   rw [pM]at hiL
   cases hiL
   cases hcL
   exact hSb o
  ·rw [pW _ _ hii]at hiL
   exact g1.sr i L c (by rw [pW _ _ hii];exact hiL) hcL o
 ·have old:∀i L c,upd loc id (.map b) i=some L->L.has c->∃L',loc i=some L'∧L'.has c:=fun i L c hiL hcL=>by
   by_cases hii:i=id
   ·subst hii
    rw [pM]at hiL
    cases hiL
    cases hcL
    exact⟨_,hL,List.mem_cons_self ..⟩
   ·rw [pW _ _ hii]at hiL
    exact⟨L,hiL,hcL⟩
  obtain⟨L',h5,h6⟩:=old i L c hiL hcL
  obtain⟨L2',h7,h8⟩:=old j L2 c hjL hcL2
  exact h.inj i j L' L2' c h5 h7 h6 h8
 ·by_cases hii:i=id
  ·subst hii
   rw [pM]at hiL
   cases hiL
   cases hcL
   exact h.own i _ b hL (List.mem_cons_self ..)
  ·rw [pW _ _ hii]at hiL
   exact h.own i L c hiL hcL
 ·obtain⟨L,h5,h6⟩:=h.par k L0 hk0
  obtain⟨L',h7,h8⟩:=hle k L h5
  exact⟨L',h7,h6.trans h8⟩
theorem zT{nb:Nat}(hnb:∀k b,X.par k=some b->k<nb∧∀ver e sz hdr,b.Row ver e sz hdr->ver=0){g:wM}{s':St}(hg:qT P nb s g=some s')(h:Sim P X S loc s tm w):∃S' loc',Sim P X S' loc' s' tm w:=by
 cases g with
 |nZ rs bs=>
  simp only [qT]at hg
  rcases h1:gets s.p8 rs with _|l
  ·simp [h1]at hg
  rcases h2:gets s.boxes bs with _|m
  ·simp [h1,h2]at hg
  simp only [h1,h2]at hg
  split at hg
  rotate_left
  ·cases hg
  rename_i hc0
  cases hg
  obtain⟨l1,_⟩:=xm h1
  obtain⟨m1,m2⟩:=xm h2
  let loc':qp:=fun id=>if bs.contains id then(loc id).map (pY (qt nb id))else none
  have hloc:∀id L',loc' id=some L'->bs.contains id=true∧∃L,loc id=some L∧L'=pY (qt nb id) L:=by
   intro id L' hL
   simp only [loc']at hL
   split at hL
   ·rename_i hm
    rw [Option.map_eq_some_iff]at hL
    obtain⟨L,h3,rfl⟩:=hL
    exact⟨hm,L,h3,rfl⟩
   ·cases hL
  have hr:vu ⟨fun id=>if bs.contains id then some id else none,qJ s.boxes (qt nb)⟩ loc loc':=by
   refine vu.mk' (P:=P) (S:=S) (w:=w) h.boxes fun id k L hp hL=>?_
   try simp only at hp
   split at hp
   ·rename_i hm
    cases hp
    simp only [loc',hm,if_true,hL,Option.map_some]
   ·cases hp
  have hmem := h.mem.ren (loc' := loc') (b' := assoc (m.map fun x => (x.1, sP ⟨fun id => if bs.contains id then some id else none, qJ s.boxes (qt nb)⟩ (qt nb x.1) x.2))) hr (fun k bx' hk => by
    obtain⟨b0,hm,rfl⟩:=yq (fun k b=>sP ⟨fun id=>if bs.contains id then some id else none,qJ s.boxes (qt nb)⟩ (qt nb k) b) hk
    obtain⟨hb0,hin⟩:=m1 _ hm
    simp only at hb0 hin
    have hin':bs.contains k=true:=by simpa using hin
    exact⟨k,b0,qt nb k,by simp [hin],hb0,rfl,fun L hL=>by simp only [loc',hin',if_true,hL,Option.map_some]⟩) (fun k L' hk=>by
    obtain⟨hm,L,h3,rfl⟩:=hloc k L' hk
    refine⟨?_,k,L,_,by simp only [hm,if_true],h3,rfl⟩
    obtain⟨v,hv⟩:=m2 k (by simpa using hm)
    exact yr (fun k b=>sP ⟨fun id=>if bs.contains id then some id else none,qJ s.boxes (qt nb)⟩ (qt nb k) b) hv)
  refine⟨S,loc',h.nt,?_,hmem.boxes,hmem.dom,h.imm,h.tQ,hmem.sr,hmem.inj,?_,h.frame,h.s0,?_,h.vM,h.bs,h.ob⟩
  ·intro t rv ht
   obtain⟨v0,hm,rfl⟩:=zr (rR ⟨fun id=>if bs.contains id then some id else none,qJ s.boxes (qt nb)⟩) ht
   obtain⟨v,hv,hrv⟩:=h.p8 t v0 (l1 _ hm).1
   exact⟨v,hv,R.rR hr hrv⟩
  ·intro id L' b hL hb
   obtain⟨_,L,hl,rfl⟩:=hloc id L' hL
   rw [te]at hb
   exact h.own id L b hl hb
  ·intro k L0 hk
   have hlt:=(hnb k L0 hk).1
   have:=List.all_eq_true.1 hc0 k (List.mem_range.2 hlt)
   obtain⟨L,h3,h4⟩:=h.par k L0 hk
   exact⟨pY (qt nb k) L,by simp only [loc',this,if_true,h3,Option.map_some],BO hlt (hnb k L0 hk).2 h4⟩
 |own t id e=>
  simp only [qT]at hg
  split at hg
  ·rename_i k ht hb hk
   cases hg
   obtain⟨loc',h1,h2,_⟩:=h.vK hb (Step.refl none w) hk (hdr:= .slice none 0 0) (es:=[]) (xs:=[]) (.inl (.of (World.ownsRow_nil w 0 e _))) (Flat.nil S _) (fun g hg=>by cases hg) rfl
   refine⟨S,loc',?_⟩
   refine h1.uZ _ fun x rv hx=>?_
   split at hx
   ·rename_i hxt
    subst hxt
    cases hx
    obtain⟨v,hv,hr⟩:=h.p8 x _ ht
    cases hr with
    |mA=>exact⟨_,hv,h2⟩
   ·exact h1.p8 x rv hx
  ·cases hg
   exact⟨S,loc,h⟩
  ·cases hg
 |freeze t=>
  simp only [qT]at hg
  rcases ht:s.p8 t with _|rv
  ·simp [ht]at hg
  rw [ht]at hg
  cases rv<;>first|(simp at hg;done)|skip
  rename_i id ver
  simp only at hg
  rcases hb:s.boxes id with _|bx
  ·simp [hb]at hg
  rw [hb]at hg
  cases bx<;>first|(simp at hg;done)|skip
  rename_i ver' e es
  simp only at hg
  by_cases hver:ver=ver'
  rotate_left
  ·simp [hver]at hg
  subst hver
  simp only [if_true,Option.some.injEq]at hg
  subst hg
  obtain⟨S',h1,hs,hl,hv⟩:=h.yg hb
  have hv:=fun v hr=>(hv ver e es hb).1 v hr
  refine⟨S',_,h1.uZ _ fun x rv hx=>?_⟩
  split at hx
  ·rename_i hxt
   subst hxt
   cases hx
   obtain⟨v,hvx,hr⟩:=h.p8 x _ ht
   exact⟨v,hvx,.d (hv v hr)⟩
  ·exact h1.p8 x rv hx
 |frz p=>
  simp only [qT]at hg
  rcases hp:sJ s p with _|rv
  ·simp [hp]at hg
  rw [hp]at hg
  cases rv<;>first|(simp at hg;done)|skip
  ·simp only [Option.some.injEq]at hg
   subst hg
   exact⟨S,loc,h⟩
  ·simp only [Option.some.injEq]at hg
   subst hg
   exact⟨S,loc,h.sW hp fun v hr=>by cases hr;exact .d (.nil _ _)⟩
  ·rename_i id ver
   simp only at hg
   rcases hb:s.boxes id with _|bx
   ·simp [hb]at hg
   rw [hb]at hg
   cases bx<;>first|(simp at hg;done)|skip
   rename_i ver' e es
   simp only at hg
   by_cases hver:ver=ver'
   rotate_left
   ·simp [hver]at hg
   subst hver
   simp only [if_true,Option.some.injEq]at hg
   subst hg
   obtain⟨S',h1,hs,hl,hv⟩:=h.yg hb
   have hv:=fun v hr=>(hv ver e es hb).1 v hr
   have hbe:({ s with boxes:=upd s.boxes id .dead }:St)={ s with boxes:=fun i=>if i=id then some .dead else s.boxes i }:=rfl
   rw [hbe]at h1
   have hp':sJ ({ s with boxes:=fun i=>if i=id then some .dead else s.boxes i }:St) p=some (.ref id ver):=uD hp fun off e=>by
    subst e
    simp only [sJ,hb]at hp
    cases hp
   cases p with
   |reg t=>
    refine⟨S',_,h1.uZ _ fun x rv hx=>?_⟩
    split at hx
    ·rename_i hxt
     subst hxt
     cases hx
     obtain⟨v,hvx,hr⟩:=h.p8 x _ hp
     exact⟨v,hvx,.d (hv v hr)⟩
    ·exact h1.p8 x rv hx
   |cell i off=>
    have hne:i≠id:=fun e=>by
     subst e
     simp only [sJ,hb]at hp
     cases hp
    simp only [sJ]at hp
    rcases hbi:s.boxes i with _|bx
    ·simp [hbi]at hp
    rw [hbi]at hp
    cases bx with
    |arr _ _ _=>cases hp
    |dead=>cases hp
    |map _ _ _=>cases hp
    |nest _ _ _ _ _=>cases hp
    |mapn _ _ _ _ _=>cases hp
    |var cs=>
     simp only at hp
     simp only [Dw.sW,hne,if_false,hbi]
     refine⟨S',_,h1.nt,h1.p8,fun j bx hj=>?_,fun j L hL=>?_,h1.imm,h1.tQ,h1.sr,h1.inj,h1.own,h1.frame,h1.s0,h1.par,h1.vM,h1.bs,h1.ob⟩
     ·simp only at hj
      by_cases hji:j=i
      ·subst hji
       simp only [if_true]at hj
       cases hj
       obtain⟨L,hL,hB⟩:=h.boxes j _ hbi
       obtain⟨L',hL',hB'⟩:=h1.boxes j (.var cs) (by simp only [hne,if_false];exact hbi)
       refine⟨L',hL',?_⟩
       have hLL:L'=L:=by
        rw [pW _ _ hne,hL]at hL'
        exact(Option.some.inj hL').symm
       subst hLL
       cases hB with
       |var _ b t vs hw hlv hc=>
        cases hB' with
        |var _ _ t' vs' hw' hl' hc'=>
         rw [hw]at hw'
         cases hw'
         exact .var _ b t vs hw (by simpa using hlv) (R.yx hc' fun v hvv=>.d (hv v (hc off _ v hp hvv)))
      ·simp only [hji,if_false]at hj
       exact h1.boxes j bx hj
     ·obtain⟨bx,hbx⟩:=h1.dom j L hL
      by_cases hji:j=i
      ·subst hji;exact⟨_,if_pos rfl⟩
      ·exact⟨bx,by simp only [hji,if_false];exact hbx⟩
 |ownp p id e=>
  simp only [qT]at hg
  split at hg
  ·rename_i k hp hb hk
   cases hg
   obtain⟨loc',h1,h2,_⟩:=h.vK hb (Step.refl none w) hk (hdr:= .slice none 0 0) (es:=[]) (xs:=[]) (.inl (.of (World.ownsRow_nil w 0 e _))) (Flat.nil S _) (fun g hg=>by cases hg) rfl
   have hbe:({ s with boxes:=upd s.boxes id (.arr 0 e []) }:St)={ s with boxes:=fun i=>if i=id then some (.arr 0 e [])else s.boxes i }:=rfl
   refine⟨S,loc',Sim.sW (s:={ s with boxes:=fun i=>if i=id then some (.arr 0 e [])else s.boxes i }) h1 (uD hp fun off he=>?_) fun v hr=>?_⟩
   ·subst he
    simp only [sJ,hb]at hp
    cases hp
   ·cases hr with
    |mA=>exact h2
  ·cases hg
   exact⟨S,loc,h⟩
  ·cases hg
 |mv p new=>
  simp only [qT]at hg
  rcases hp:sJ s p with _|rv
  ·simp [hp]at hg
  rw [hp]at hg
  cases rv<;>first|(simp at hg;done)|(simp only [Option.some.injEq]at hg;subst hg;exact⟨S,loc,h⟩)|skip
  rename_i id ver
  simp only at hg
  by_cases hid:id=new
  ·rw [if_pos hid]at hg;cases hg;exact⟨S,loc,h⟩
  rw [if_neg hid]at hg
  by_cases hnn:nb<=id∧nb<=new
  rotate_left
  ·rw [if_neg hnn]at hg;cases hg
  rw [if_pos hnn]at hg
  simp only [Option.some.injEq]at hg
  subst hg
  let pos:Nat->Option Nat:=fun i=>if i=id then some new else if i=new then none else some i
  let loc':qp:=fun k=>if k=new then loc id else if k=id then none else loc k
  have sv:∀L:Loc,pY (fun c=>c) L=L:=fun L=>B9 L fun _=>rfl
  have hpl:∀i k L,pos i=some k->loc i=some L->loc' k=some L:=by
   intro i k L h1 h2
   simp only [pos]at h1
   split at h1
   ·rename_i e;subst e;cases h1;simp only [loc',if_true];exact h2
   ·split at h1
    ·cases h1
    ·rename_i n1 n2;cases h1;simp only [loc',n1,n2,if_false];exact h2
  have hr:vu ⟨pos,qJ s.boxes fun _ c=>c⟩ loc loc':=vu.mk' (P:=P) (S:=S) (w:=w) h.boxes fun i k L h1 h2=>by rw [sv];exact hpl i k L h1 h2
  have hpos:∀k,(∃i,pos i=some k∧∀α(f:Nat->Option α),(if k=new then f id else if k=id then none else f k)=f i)∨(k=id):=by
   intro k
   by_cases h1:k=new
   ·subst h1;exact .inl ⟨id,by simp only [pos,if_true],fun α f=>if_pos rfl⟩
   ·by_cases h2:k=id
    ·exact .inr h2
    ·exact .inl ⟨k,by simp only [pos,h1,h2,if_false],fun α f=>by rw [if_neg h1,if_neg h2]⟩
  have hdead:∀α(f:Nat->Option α),(if id=new then f id else if id=id then none else f id)=none:=fun α f=>by rw [if_neg hid,if_pos rfl]
  have hmem:=h.mem.ren (loc':=loc') (b':=fun i=>if i=new then(s.boxes id).map (sP ⟨pos,qJ s.boxes fun _ c=>c⟩ fun c=>c)else if i=id then none else(s.boxes i).map (sP ⟨pos,qJ s.boxes fun _ c=>c⟩ fun c=>c)) hr
   (fun k bx' hk => by
    rcases hpos k with⟨i,h1,h2⟩|rfl
    ·have hk:=(h2 _ fun i=>(s.boxes i).map (sP ⟨pos,qJ s.boxes fun _ c=>c⟩ fun c=>c)).symm.trans hk
     rw [Option.map_eq_some_iff]at hk
     obtain⟨b0,h3,rfl⟩:=hk
     exact⟨i,b0,fun c=>c,h1,h3,rfl,fun L hL=>by rw [sv];exact hpl i k L h1 hL⟩
    ·have:=(hdead _ fun i=>(s.boxes i).map (sP ⟨pos,qJ s.boxes fun _ c=>c⟩ fun c=>c)).symm.trans hk
     cases this)
   (fun k L' hk => by
    rcases hpos k with⟨i,h1,h2⟩|rfl
    ·have hk':loc i=some L':=(h2 _ loc).symm.trans hk
     obtain⟨bx,hbx⟩:=h.dom i L' hk'
     refine⟨⟨sP ⟨pos,qJ s.boxes fun _ c=>c⟩ (fun c=>c) bx,?_⟩,i,L',fun c=>c,h1,hk',(sv L').symm⟩
     rw [h2 _ fun i=>(s.boxes i).map (sP ⟨pos,qJ s.boxes fun _ c=>c⟩ fun c=>c),hbx]
     rfl
    ·have:=(hdead _ loc).symm.trans hk
     cases this)
  refine⟨S,loc',h.nt,fun t rv ht=>?_,hmem.boxes,hmem.dom,h.imm,h.tQ,hmem.sr,hmem.inj,fun k L b hL hb=>?_,h.frame,h.s0,fun k L0 hk=>?_,h.vM,h.bs,h.ob⟩
  ·simp only [Option.map_eq_some_iff]at ht
   obtain⟨rv0,h1,rfl⟩:=ht
   obtain⟨v,hv,hrv⟩:=h.p8 t rv0 h1
   exact⟨v,hv,R.rR hr hrv⟩
  ·rcases hpos k with⟨i,h1,h2⟩|rfl
   ·exact h.own i L b ((h2 _ loc).symm.trans hL) hb
   ·have:=(hdead _ loc).symm.trans hL
    cases this
  ·have hlt:=(hnb k L0 hk).1
   obtain⟨L,h3,h4⟩:=h.par k L0 hk
   refine⟨L,?_,h4⟩
   have n1:k≠new:=by omega
   have n2:k≠id:=by omega
   simp only [loc',n1,n2,if_false]
   exact h3
 |fixv id=>
  simp only [qT]at hg
  rcases hb:s.boxes id with _|bx
  ·simp [hb]at hg
  rw [hb]at hg
  cases bx<;>first|(simp at hg;done)|skip
  rename_i cs
  simp only at hg
  rcases ha:vw cs with _|ps
  ·simp [ha]at hg
  simp only [ha]at hg
  by_cases hone:ps.all PD.one=true
  rotate_left
  ·rw [if_neg hone]at hg;cases hg
  rw [if_pos hone]at hg
  simp only [Option.some.injEq]at hg
  subst hg
  have hcs:=uG ha
  subst hcs
  obtain⟨L,hL,hB⟩:=h.boxes id _ hb
  cases hB with
  |var _ b t vs hw hl hc=>
  have hvv:∀(i:Nat)p u,ps[i]? =some p->vs[i]? =some u->V S p u:=fun i p u h1 h2=>by
   have:=hc i (.d p) u (by simp [h1]) h2
   cases this with|d h=>exact h
  have hlen:vs.size=ps.length:=by simpa using hl
  have h1:∀u∈vs,u.oneCell'=true:=fun u hu=>by
   obtain⟨i,hi,rfl⟩:=Array.getElem_of_mem hu
   have hi':i<ps.length:=by omega
   exact((hvv i ps[i] vs[i] (ze hi') (Array.getElem?_eq_getElem hi)).tZ (List.all_eq_true.1 hone _ (List.getElem_mem hi'))).1
  obtain⟨k1,k2,k3⟩:=h.BG hb hL hw h1
  have hbe:({ s with boxes:=upd s.boxes id .dead }:St)={ s with boxes:=fun i=>if i=id then some .dead else s.boxes i }:=rfl
  rw [hbe]at k1
  refine⟨_,_,k1.uZ (fun t=>(s.p8 t).map (fixRV id ps)) fun t rv ht=>?_⟩
  rw [Option.map_eq_some_iff]at ht
  obtain⟨rv0,h2,rfl⟩:=ht
  obtain⟨v,hv,hr⟩:=h.p8 t rv0 h2
  obtain⟨v',hv',hr'⟩:=k1.p8 t rv0 h2
  rw [hv]at hv'
  cases hv'
  refine⟨v,hv,?_⟩
  unfold fixRV
  split
  ·rename_i i off
   split
   ·rename_i hi
    subst hi
    cases hr with
    |ptr _ _ _ L2 ho hL2 hp=>
     rw [hL]at hL2
     cases hL2
     rw [(hp b).1 rfl]
     have hat:∀(j:Nat)c,(ps.drop off)[j]? =some c->∃u,vs[off+j]? =some u∧V S c u:=fun j c hj=>by
      rw [List.getElem?_drop]at hj
      have hlt:off+j<vs.size:=by rw [hlen];exact(List.getElem?_eq_some_iff.1 hj).1
      exact⟨_,Array.getElem?_eq_getElem hlt,hvv _ c _ hj (Array.getElem?_eq_getElem hlt)⟩
     refine .cptr _ b off (fun j=>(vs[off+j]?).getD default) (fun j c hj=>?_) fun j c hj=>?_
     ·obtain⟨u,hu,_⟩:=hat j c hj
      rw [k3 _ u hu,hu];rfl
     ·obtain⟨u,hu,hvu⟩:=hat j c hj
      rw [hu]
      exact hvu.mono k2
   ·exact hr'
  ·exact hr'
 |bump t=>
  simp only [qT]at hg
  rcases ht:s.p8 t with _|rv
  ·simp [ht]at hg
  rw [ht]at hg
  cases rv<;>first|(simp at hg;done)|skip
  rename_i id ver
  simp only at hg
  rcases hb:s.boxes id with _|bx
  ·simp [hb]at hg
  rw [hb]at hg
  cases bx<;>first|(simp at hg;done)|skip
  rename_i ver' e es
  simp only at hg
  by_cases hver:ver=ver'
  rotate_left
  ·simp [hver]at hg
  subst hver
  simp only [if_true,Option.some.injEq]at hg
  subst hg
  obtain⟨v,hv,hr⟩:=h.p8 t _ ht
  obtain⟨sz,xs,hloc,hsz,how,hf⟩:=h.ug hb hr
  have ho:v.oneCell'=true:=by cases hr with|ref _ _ _ _ ho=>exact ho
  have hst:pU (loc id) (.arr (ver+1) e sz v):=by
   rw [hloc]
   exact .arr za
  have hs2:=h.qz (Step.refl none w) id (.arr (ver+1) e es) (.arr (ver+1) e sz v) (fun b hc=>by cases hc) (.arr (ver+1) e es sz v xs hsz how hf) (fun b hbk=>.inl ⟨_,hloc,hbk⟩) hst
  have hbe:({ s with boxes:=upd s.boxes id (.arr (ver+1) e es) }:St)={ s with boxes:=fun i=>if i=id then some (.arr (ver+1) e es)else s.boxes i }:=rfl
  rw [hbe]at hs2
  refine⟨S,_,hs2.uZ _ fun x rv hx=>?_⟩
  split at hx
  ·rename_i hxt
   subst hxt
   cases hx
   exact⟨v,hv,.ref id (ver+1) v _ ho (pM _ _ _) fun ver' e' sz' hdr' he=>by cases he;exact⟨Nat.le_refl _,fun _=>rfl⟩⟩
  ·exact hs2.p8 x rv hx
 |bumpp p=>
  simp only [qT]at hg
  rcases ht:sJ s p with _|rv
  ·simp [ht]at hg
  rw [ht]at hg
  cases rv<;>first|(simp at hg;done)|skip
  rename_i id ver
  simp only at hg
  rcases hb:s.boxes id with _|bx
  ·simp [hb]at hg
  rw [hb]at hg
  cases bx<;>first|(simp at hg;done)|skip
  rename_i ver' e es
  simp only at hg
  by_cases hver:ver=ver'
  rotate_left
  ·simp [hver]at hg
  subst hver
  simp only [if_true,Option.some.injEq]at hg
  subst hg
  obtain⟨L,hL,hB⟩:=h.boxes id _ hb
  cases hB with
  |arr _ _ _ sz hdr xs hsz how hf=>
  have hst:pU (loc id) (.arr (ver+1) e sz hdr):=by
   rw [hL]
   exact .arr za
  have hs2:=h.qz (Step.refl none w) id (.arr (ver+1) e es) (.arr (ver+1) e sz hdr) (fun b hc=>by cases hc) (.arr (ver+1) e es sz hdr xs hsz how hf) (fun b hbk=>.inl ⟨_,hL,hbk⟩) hst
  have hbe:({ s with boxes:=upd s.boxes id (.arr (ver+1) e es) }:St)={ s with boxes:=fun i=>if i=id then some (.arr (ver+1) e es)else s.boxes i }:=rfl
  rw [hbe]at hs2
  have hp2:sJ { s with boxes:=fun i=>if i=id then some (.arr (ver+1) e es)else s.boxes i } p=some (.ref id ver):=uD ht fun off hpo=>by
   subst hpo
   simp only [sJ,hb]at ht
   cases ht
  refine⟨S,_,hs2.plSet' hp2 fun v hv=>?_⟩
  have hv0:PlAt loc tm w v p:=by
   cases p with
   |reg t=>exact hv
   |cell i off=>
    obtain⟨b,vs,ty,h1,h2,h3⟩:=hv
    refine⟨b,vs,ty,?_,h2,h3⟩
    by_cases hi:i=id
    ·subst hi;rw [pM]at h1;cases h1
    ·rwa [pW _ _ hi]at h1
  have hr:=h.plAt ht v hv0
  cases hr with
  |ref _ _ _ L' ho hL' hc=>
   rw [hL]at hL'
   cases hL'
   have:=(hc ver e sz hdr .arr).2 rfl
   subst this
   exact .ref id (ver+1) _ _ ho (pM _ _ _) fun ver' e' sz' hdr' he=>by cases he;exact⟨Nat.le_refl _,fun _=>rfl⟩
 |ownn p id e e2=>
  simp only [qT]at hg
  split at hg
  ·rename_i k hp hb hk hk2
   cases hg
   have hloc:=h.qc hb
   have hst:pU (loc id) (.nest 0 e 1 (.slice none 0 0) []):=by rw [hloc];trivial
   have h1:=h.qz (Step.refl none w) id (.nest 0 e e2 [] none) (.nest 0 e 1 (.slice none 0 0) []) (fun b hc=>by cases hc)
    (.nest 0 e e2 [] none _ [] [] hk ⟨k,hk2⟩ (.inl (.of (World.ownsRow_nil w 0 e _))) .nil (by simp [qA]) (fun i rv e=>by cases e)) (fun b hb=>by simp [Loc.has,qA]at hb) hst
   have hbe:({ s with boxes:=upd s.boxes id (.nest 0 e e2 [] none) }:St)={ s with boxes:=fun i=>if i=id then some (.nest 0 e e2 [] none)else s.boxes i }:=rfl
   rw [hbe]at h1
   refine⟨S,_,Sim.sW (s:={ s with boxes:=fun i=>if i=id then some (.nest 0 e e2 [] none)else s.boxes i }) h1 (uD hp fun off he=>?_) fun v hr=>?_⟩
   ·subst he
    simp only [sJ,hb]at hp
    cases hp
   ·cases hr with
    |mA=>exact .ref id 0 _ _ rfl (pM _ _ _) fun ver' e' sz' hdr' he=>by cases he;exact⟨Nat.le_refl _,fun _=>rfl⟩
  ·cases hg
   exact⟨S,loc,h⟩
  ·cases hg
 |lend id i new=>
  simp only [qT]at hg
  split at hg
  rotate_left
  ·cases hg
  rename_i ver e e2 ess hb hnew
  rcases hla:vG s ess i with _|⟨j,es⟩
  ·simp [hla]at hg
  simp only [hla,Option.some.injEq]at hg
  subst hg
  exact h.lend hb hnew (Bm hla)
 |wx id=>
  simp only [qT]at hg
  split at hg
  ·rename_i ver e e2 ess i k kv hb
   split at hg
   rotate_left
   ·cases hg
   rename_i kv' e' es hk
   split at hg
   rotate_left
   ·cases hg
   rename_i hc
   obtain⟨rfl,rfl,hne⟩:=hc
   cases hg
   exact⟨S,h.wx hb hk hne⟩
  ·cases hg
  ·cases hg
   exact⟨S,loc,h⟩
 |frzn p=>
  simp only [qT]at hg
  split at hg
  ·rename_i id ver hp
   split at hg
   rotate_left
   ·cases hg
   rename_i ver' e e2 ess hb
   split at hg
   rotate_left
   ·cases hg
   rename_i hver
   subst hver
   cases hg
   obtain⟨S',h1,hv⟩:=h.freezeN hb
   have hbe:({ s with boxes:=upd s.boxes id .dead }:St)={ s with boxes:=fun i=>if i=id then some .dead else s.boxes i }:=rfl
   rw [hbe]at h1
   have hp2:sJ { s with boxes:=fun i=>if i=id then some .dead else s.boxes i } p=some (.ref id ver):=uD hp fun off hpo=>by
    subst hpo
    simp only [sJ,hb]at hp
    cases hp
   refine⟨S',_,h1.plSet' hp2 fun v hvp=>.d (hv v (h.plAt hp v ?_))⟩
   cases p with
   |reg t=>exact hvp
   |cell i off=>
    obtain⟨b,vs,ty,g1,g2,g3⟩:=hvp
    refine⟨b,vs,ty,?_,g2,g3⟩
    by_cases hi:i=id
    ·subst hi;rw [pM]at g1;cases g1
    ·rwa [pW _ _ hi]at g1
  ·rename_i hp
   cases hg
   exact⟨S,loc,h.sW hp fun v hr=>by cases hr;exact .d (.nil _ _)⟩
  ·cases hg
   exact⟨S,loc,h⟩
  ·cases hg
 |frzm id=>
  simp only [qT]at hg
  split at hg
  ·rename_i kt vt e2 es hb
   cases hg
   exact h.freezeM hb
  ·cases hg
  ·cases hg
   exact⟨S,loc,h⟩
theorem wY{nb:Nat}(hnb:∀k b,X.par k=some b->k<nb∧∀ver e sz hdr,b.Row ver e sz hdr->ver=0):∀(gs:List wM){s s':St}{S:pT}{loc:qp},qb P nb s gs=some s'->Sim P X S loc s tm w->∃S' loc',Sim P X S' loc' s' tm w
 | [],s,s',S,loc,h,hs=>by simp only [qb,Option.some.injEq]at h;subst h;exact⟨S,loc,hs⟩
 |g::gs,s,s',S,loc,h,hs=>by
  simp only [qb]at h
  rcases h1:qT P nb s g with _|s1
  ·simp [h1]at h
  simp only [h1]at h
  obtain⟨S1,loc1,hs1⟩:=zT hnb h1 hs
  exact wY hnb gs h hs1
end
def Ex.out:Ex->Exit
 | .normal=>.normal
 | .exit id=>.exit id
 | .ret=>.ret
section
variable {P:Program}{X:Ctx}{H:Hints}{f:FuncId}{nb:Nat}{call:qa}{fuel:Nat}
theorem wg{c:Code}{body:St->Option (Ex×St)}{Q:Exit->Act->World->Prop}
  (hbody:∀{s:St}{e:Ex}{s':St}{a:Act}{w:World}{Q:Exit->Act->World->Prop},body s=some (e,s')->uf P X s a w->(∀a' w',uf P X s' a' w'->Q e.out a' w')->c.wp P Q a w):
  ∀(n:Nat){s:St}{e:Ex}{s':St}{a:Act}{w:World},uK body n s=some (e,s')->uf P X s a w->(∀a' w',uf P X s' a' w'->Q e.out a' w')->Code.rounds P c Q n a w
 |0,s,e,s',a,w,h,_,_=>by simp [uK]at h
 |n+1,s,e,s',a,w,h,hS,hQ=>by
  simp only [uK]at h
  rcases h1:body s with _|⟨e1,s1⟩
  ·simp [h1]at h
  rw [h1]at h
  rw [rounds_succ]
  cases e1 with
  |normal=>
   simp only at h
   exact hbody h1 hS fun a' w' hS'=>wg hbody n h hS' hQ
  |exit id=>
   simp only [Option.some.injEq,Prod.mk.injEq]at h
   obtain⟨rfl,rfl⟩:=h
   exact hbody h1 hS fun a' w' hS'=>hQ a' w' hS'
  |ret=>
   simp only [Option.some.injEq,Prod.mk.injEq]at h
   obtain⟨rfl,rfl⟩:=h
   exact hbody h1 hS fun a' w' hS'=>hQ a' w' hS'
theorem qF(hcall:sj P X.base call)(hm:P.follows .mixedOrders=true)(hnb:∀k b,X.par k=some b->k<nb∧∀ver e sz hdr,b.Row ver e sz hdr->ver=0):∀(c:Code){s:St}{e:Ex}{s':St}{a:Act}{w:World}{Q:Exit->Act->World->Prop},
  xJ X.nt c=true->qd P H f nb call fuel c s=some (e,s')->uf P X s a w->(∀a' w',uf P X s' a' w'->Q e.out a' w')->c.wp P Q a w
 | .skip,s,e,s',a,w,Q,_,h,hS,hQ=>by
  simp only [qd,Option.some.injEq,Prod.mk.injEq]at h
  obtain⟨rfl,rfl⟩:=h
  exact wp_skip (hQ a w hS)
 | .region id ops dr,s,e,s',a,w,Q,hd,h,hS,hQ=>by
  simp only [qd]at h
  rcases h1:wW P H f nb call id ops dr s with _|s1
  ·simp [h1]at h
  simp only [h1,Option.some.injEq,Prod.mk.injEq]at h
  obtain⟨rfl,rfl⟩:=h
  unfold wW at h1
  rcases h2:qb P nb s (H.at_ f nb id)with _|s0
  ·simp [h2]at h1
  simp only [h2]at h1
  rcases h3:rE P (H.hf f) call ops ops.toList s0 with _|⟨s2,ts⟩
  ·simp [h3]at h1
  simp only [h3]at h1
  obtain⟨hdf,S,loc,hsim⟩:=hS
  obtain⟨S',loc',hsim'⟩:=wY hnb _ h2 hsim
  have hdst:DstIn X.nt ops:=by
   intro i o ho d hod
   have:=Array.all_eq_true_iff_forall_mem.1 (show(ops.all fun o=>match o.dst with|some d=>decide (d<X.nt)|none=>true)=true from hd) o (Array.mem_of_getElem? ho)
   simpa [hod]using this
  have hs2:s2=s1∧(dr=true->w5 ops ts=true):=by
   cases dr with
   |true=>
    simp only [if_true]at h1
    split at h1
    ·rename_i hok;cases h1;exact⟨rfl,fun _=>hok⟩
    ·cases h1
   |false=>simp only [Bool.false_eq_true,if_false,Option.some.injEq]at h1;exact⟨h1,fun h=>by cases h⟩
  obtain⟨rfl,hord⟩:=hs2
  exact Ac hcall hm hdst h3 hord ⟨hdf,S',loc',hsim'⟩ hQ
 | .seq x y,s,e,s',a,w,Q,hd,h,hS,hQ=>by
  simp only [xJ,Bool.and_eq_true]at hd
  simp only [qd]at h
  rcases h1:qd P H f nb call fuel x s with _|⟨e1,s1⟩
  ·simp [h1]at h
  rw [h1]at h
  refine wp_seq ?_
  cases e1 with
  |normal=>
   simp only at h
   exact qF hcall hm hnb x hd.1 h1 hS fun a' w' hS'=>qF hcall hm hnb y hd.2 h hS' hQ
  |exit id=>
   simp only [Option.some.injEq,Prod.mk.injEq]at h
   obtain⟨rfl,rfl⟩:=h
   exact qF hcall hm hnb x hd.1 h1 hS fun a' w' hS'=>hQ a' w' hS'
  |ret=>
   simp only [Option.some.injEq,Prod.mk.injEq]at h
   obtain⟨rfl,rfl⟩:=h
   exact qF hcall hm hnb x hd.1 h1 hS fun a' w' hS'=>hQ a' w' hS'
 | .cond c x y,s,e,s',a,w,Q,hd,h,hS,hQ=>by
  simp only [xJ,Bool.and_eq_true]at hd
  simp only [qd]at h
  rcases h1:s.opd c with _|rv
  ·simp [h1]at h
  rw [h1]at h
  rcases rv with p|_|_|_|_|_|_|_|_|_|_|_|_<;>first|(simp at h;done)|skip
  cases p<;>first|(simp at h;done)|skip
  rename_i t
  have hS':=hS
  obtain⟨hdf,S,loc,hsim⟩:=hS'
  have hb:=(hsim.opd h1).tj
  cases t with
  |true=>
   simp only [if_true]at h
   exact wp_cond_true hb (qF hcall hm hnb x hd.1 h hS hQ)
  |false=>
   simp only [Bool.false_eq_true,if_false]at h
   exact wp_cond_false hb (qF hcall hm hnb y hd.2 h hS hQ)
 | .block id x,s,e,s',a,w,Q,hd,h,hS,hQ=>by
  simp only [qd]at h
  rcases h1:qd P H f nb call fuel x s with _|⟨e1,s1⟩
  ·simp [h1]at h
  rw [h1]at h
  refine wp_block (qF hcall hm hnb x hd h1 hS fun a' w' hS'=>?_)
  cases e1 with
  |normal=>
   simp only [Option.some.injEq,Prod.mk.injEq]at h
   obtain⟨rfl,rfl⟩:=h
   exact hQ a' w' hS'
  |exit id'=>
   simp only at h
   by_cases hid:id'=id
   ·simp only [hid,if_true,Option.some.injEq,Prod.mk.injEq]at h
    obtain⟨rfl,rfl⟩:=h
    simp only [Ex.out,Exit.inBlock,hid,if_true]
    exact hQ a' w' hS'
   ·simp only [hid,if_false,Option.some.injEq,Prod.mk.injEq]at h
    obtain⟨rfl,rfl⟩:=h
    simp only [Ex.out,Exit.inBlock,hid,if_false]
    exact hQ a' w' hS'
  |ret=>
   simp only [Option.some.injEq,Prod.mk.injEq]at h
   obtain⟨rfl,rfl⟩:=h
   exact hQ a' w' hS'
 | .loop x,s,e,s',a,w,Q,hd,h,hS,hQ=>by
  simp only [qd]at h
  exact wp_loop_rounds fuel (wg (fun hb hS hQ=>qF hcall hm hnb x hd hb hS hQ) fuel h hS hQ)
 | .exit id,s,e,s',a,w,Q,_,h,hS,hQ=>by
  simp only [qd,Option.some.injEq,Prod.mk.injEq]at h
  obtain⟨rfl,rfl⟩:=h
  exact wp_exit (hQ a w hS)
 | .ret,s,e,s',a,w,Q,_,h,hS,hQ=>by
  simp only [qd,Option.some.injEq,Prod.mk.injEq]at h
  obtain⟨rfl,rfl⟩:=h
  exact wp_ret (hQ a w hS)
 | .rangeFunc _ _ _ _,s,e,s',a,w,Q,_,h,_,_=>by simp [qd]at h
 | .scope x,s,e,s',a,w,Q,hd,h,hS,hQ=>by
  simp only [qd]at h
  refine wp_scope_straight (qF hcall hm hnb x hd h hS fun a' w' hS'=>?_)
  have:=hQ a' w' hS'
  cases e<;>exact this
 | .label _,s,e,s',a,w,Q,_,h,hS,hQ=>by
  simp only [qd,Option.some.injEq,Prod.mk.injEq]at h
  obtain⟨rfl,rfl⟩:=h
  exact wp_label (hQ a w hS)
 | .goto _,s,e,s',a,w,Q,_,h,_,_=>by simp [qd]at h
 | .refuse _,s,e,s',a,w,Q,_,h,_,_=>by simp [qd]at h
end
end Go.Dw
