
import Derived.Test.YthadlbjoiidkjaaGreatDoorDwRegion
import Derived.Scope

namespace Go.Dw
theorem wY{α:Type}{f:Nat->Option α}:∀{ts:List Nat}{l:List (Nat×α)},gets f ts=some l->(∀x∈l,f x.1=some x.2∧x.1∈ts)∧∀t∈ts,∃v,(t,v)∈l
 | [],l,h=>by
  simp only [gets,Option.some.injEq]at h
  subst h
  exact⟨(fun x hx=>by cases hx),(fun t ht=>by cases ht)⟩
 |t::ts,l,h=>by
  simp only [gets]at h
  rcases h1:f t with _|v
  ·simp [h1]at h
  rcases h2:gets f ts with _|r
  ·simp [h1,h2]at h
  simp only [h1,h2,Option.some.injEq]at h
  subst h
  obtain⟨g1,g2⟩:=wY h2
  refine⟨fun x hx=>?_,fun t' ht=>?_⟩
  ·rcases List.mem_cons.1 hx with rfl|hx
   ·exact⟨h1,sm⟩
   ·exact⟨(g1 x hx).1,by simp [(g1 x hx).2]⟩
  ·rcases List.mem_cons.1 ht with rfl|ht
   ·exact⟨v,sm⟩
   ·obtain⟨v',hv⟩:=g2 t' ht
    exact⟨v',by simp [hv]⟩
theorem yR{α:Type}(g:α->α):∀{l:List (Nat×α)}{t:Nat}{v:α},assoc (l.map fun x=>(x.1,g x.2)) t=some v->∃v0,(t,v0)∈l∧v=g v0
 | [],t,v,h=>by simp [assoc]at h
 |(k,a)::r,t,v,h=>by
  simp only [List.map_cons,assoc]at h
  by_cases hk:t=k
  ·subst hk
   simp only [if_true,Option.some.injEq]at h
   exact⟨a,sm,h.symm⟩
  ·simp only [hk,if_false]at h
   obtain⟨v0,h1,h2⟩:=yR g h
   exact⟨v0,by simp [h1],h2⟩
theorem xV{α:Type}(g:Nat->α->α):∀{l:List (Nat×α)}{t:Nat}{v:α},assoc (l.map fun x=>(x.1,g x.1 x.2)) t=some v->∃v0,(t,v0)∈l∧v=g t v0
 | [],t,v,h=>by simp [assoc]at h
 |(k,a)::r,t,v,h=>by
  simp only [List.map_cons,assoc]at h
  by_cases hk:t=k
  ·subst hk
   simp only [if_true,Option.some.injEq]at h
   exact⟨a,sm,h.symm⟩
  ·simp only [hk,if_false]at h
   obtain⟨v0,h1,h2⟩:=xV g h
   exact⟨v0,by simp [h1],h2⟩
theorem xW{α:Type}(g:Nat->α->α):∀{l:List (Nat×α)}{t:Nat}{v:α},(t,v)∈l->∃v',assoc (l.map fun x=>(x.1,g x.1 x.2)) t=some v'
 | [],t,v,h=>by cases h
 |(k,a)::r,t,v,h=>by
  simp only [List.map_cons,assoc]
  by_cases hk:t=k
  ·exact⟨g k a,by simp [hk]⟩
  ·simp only [hk,if_false]
   rcases List.mem_cons.1 h with h|h
   ·cases h;exact(hk rfl).elim
   ·exact xW g h
section
variable {P:Program}{X:Ctx}{S:pR}{loc:qe}{s:St}{tm:Array Value}{w:World}
theorem Sim.uK(h:Sim P X S loc s tm w)(regs':Nat->Option RV)(hr:∀t rv,regs' t=some rv->∃v,tm[t]? =some v∧R S loc rv v):Sim P X S loc { s with pU:=regs' } tm w:=
 ⟨h.nt,hr,h.boxes,h.dom,h.imm,h.tJ,h.ss,h.inj,h.own,h.frame,h.s0,h.par,h.vG,h.bs,h.ob⟩
theorem BO(L:Loc){f:Nat->Nat}(hf:∀v,f v=v):qc f L=L:=by cases L<;>simp [qc,hf]
theorem R.ya{cs:List RV}{vs:Array Value}{S:pR}{loc:qe}(hc:∀(i:Nat)c v,cs[i]? =some c->vs[i]? =some v->R S loc c v){off:Nat}{x:RV}(hx:∀v,vs[off]? =some v->R S loc x v):
  ∀(i:Nat)c v,(cs.set off x)[i]? =some c->vs[i]? =some v->R S loc c v:=by
 intro i c v h1 h2
 by_cases hi:off=i
 ·subst hi
  rw [List.getElem?_set]at h1
  simp only [if_true]at h1
  split at h1
  ·cases h1;exact hx v h2
  ·cases h1
 ·rw [List.getElem?_set_ne hi]at h1
  exact hc i c v h1 h2
theorem Sim.uR(h:Sim P X S loc s tm w){p:Pl}{rv x:RV}(hp:tH s p=some rv)(hx:∀v,R S loc rv v->R S loc x v):Sim P X S loc (Dw.uR s x p) tm w:=by
 cases p with
 |reg t=>
  refine h.uK _ fun y rv' hy=>?_
  split at hy
  ·rename_i hyt
   subst hyt
   cases hy
   obtain⟨v,hv,hr⟩:=h.pU y _ hp
   exact⟨v,hv,hx v hr⟩
  ·exact h.pU y rv' hy
 |cell id off=>
  simp only [tH]at hp
  rcases hb:s.boxes id with _|bx
  ·simp [hb]at hp
  rw [hb]at hp
  cases bx with
  |arr _ _ _=>cases hp
  |dead=>cases hp
  |map _ _ _=>cases hp
  |var cs=>
   simp only at hp
   simp only [Dw.uR,hb]
   refine⟨h.nt,h.pU,fun i bx hi=>?_,fun i L hL=>?_,h.imm,h.tJ,h.ss,h.inj,h.own,h.frame,h.s0,h.par,h.vG,h.bs,h.ob⟩
   ·simp only at hi
    split at hi
    ·rename_i hid
     subst hid
     cases hi
     obtain⟨L,hL,hB⟩:=h.boxes i _ hb
     refine⟨L,hL,?_⟩
     cases hB with
     |var _ b t vs hw hl hc=>
      exact .var _ b t vs hw (by simpa using hl) (R.ya hc fun v hv=>hx v (hc off rv v hp hv))
    ·exact h.boxes i bx hi
   ·obtain⟨bx,hbx⟩:=h.dom i L hL
    by_cases hid:i=id
    ·subst hid;exact⟨_,if_pos rfl⟩
    ·exact⟨bx,by simp only [hid,if_false];exact hbx⟩
theorem xe{id:Nat}{bx:Box}{rv:RV}:∀{p:Pl},tH s p=some rv->(∀off,p≠ .cell id off)->tH { s with boxes:=fun i=>if i=id then some bx else s.boxes i } p=some rv
 | .reg t,h,_=>h
 | .cell i off,h,hn=>by
  have:i≠id:=fun e=>hn off (by rw [e])
  simp only [tH,this,if_false]at h⊢
  exact h
theorem Bs{nb k:Nat}(hlt:k<nb){L0 L:Loc}(h0:∀ver e sz hdr,L0.Row ver e sz hdr->ver=0)(h:ud L0 L):ud L0 (qc (ql nb k) L):=by
 cases h with
 |same=>
  cases L0 with
  |arr ver e sz hdr=>
   have:=h0 ver e sz hdr .arr
   subst this
   simp only [qc,ql,hlt,if_true,Nat.zero_min]
   exact .same _
  |var b=>exact .same _
  |dead=>exact .same _
  |map b=>exact .same _
 |dead=>exact .dead _
 |arr hv=>
  have:=h0 _ _ _ _ .arr
  subst this
  refine .arr ?_
  simp only [ql,hlt,if_true]
  omega
def PlAt(loc:qe)(tm:Array Value)(w:World)(v:Value):Pl->Prop
 | .reg t=>tm[t]? =some v
 | .cell id off=>∃b vs ty,loc id=some (.var b)∧w.heap[b]? =some (.cells vs ty (0,0))∧vs[off]? =some v
theorem Sim.plAt(h:Sim P X S loc s tm w){p:Pl}{rv:RV}(hp:tH s p=some rv):∀v,PlAt loc tm w v p->R S loc rv v:=by
 cases p with
 |reg t=>
  intro v hv
  obtain⟨v',h1,h2⟩:=h.pU t rv hp
  simp only [PlAt]at hv
  rw [h1]at hv
  cases hv
  exact h2
 |cell id off=>
  intro v hv
  obtain⟨b,vs,ty,h1,h2,h3⟩:=hv
  simp only [tH]at hp
  rcases hb:s.boxes id with _|bx
  ·simp [hb]at hp
  rw [hb]at hp
  cases bx<;>simp only at hp<;>first|(cases hp;done)|skip
  obtain⟨L,hL,hB⟩:=h.boxes id _ hb
  rw [h1]at hL
  cases hL
  cases hB with
  |var _ b t vs' hw hl hc=>
   rw [hw]at h2
   cases h2
   exact hc off rv v hp h3
theorem Sim.plSet'(h:Sim P X S loc s tm w){p:Pl}{rv x:RV}(hp:tH s p=some rv)(hx:∀v,PlAt loc tm w v p->R S loc x v):Sim P X S loc (Dw.uR s x p) tm w:=by
 cases p with
 |reg t=>
  refine h.uK _ fun y rv' hy=>?_
  split at hy
  ·rename_i hyt
   subst hyt
   cases hy
   obtain⟨v,hv,hr⟩:=h.pU y _ hp
   exact⟨v,hv,hx v hv⟩
  ·exact h.pU y rv' hy
 |cell id off=>
  simp only [tH]at hp
  rcases hb:s.boxes id with _|bx
  ·simp [hb]at hp
  rw [hb]at hp
  cases bx<;>simp only at hp<;>first|(cases hp;done)|skip
  simp only [Dw.uR,hb]
  refine⟨h.nt,h.pU,fun i bx hi=>?_,fun i L hL=>?_,h.imm,h.tJ,h.ss,h.inj,h.own,h.frame,h.s0,h.par,h.vG,h.bs,h.ob⟩
  ·simp only at hi
   split at hi
   ·rename_i hid
    subst hid
    cases hi
    obtain⟨L,hL,hB⟩:=h.boxes i _ hb
    refine⟨L,hL,?_⟩
    cases hB with
    |var _ b t vs hw hl hc=>
     exact .var _ b t vs hw (by simpa using hl) (R.ya hc fun v hv=>hx v ⟨b,vs,t,hL,hw,hv⟩)
   ·exact h.boxes i bx hi
  ·obtain⟨bx,hbx⟩:=h.dom i L hL
   by_cases hid:i=id
   ·subst hid;exact⟨_,if_pos rfl⟩
   ·exact⟨bx,by simp only [hid,if_false];exact hbx⟩
theorem zq{nb:Nat}(hnb:∀k b,X.par k=some b->k<nb∧∀ver e sz hdr,b.Row ver e sz hdr->ver=0){g:xQ}{s':St}(hg:th P nb s g=some s')(h:Sim P X S loc s tm w):∃S' loc',Sim P X S' loc' s' tm w:=by
 cases g with
 |py rs bs=>
  simp only [th]at hg
  rcases h1:gets s.pU rs with _|l
  ·simp [h1]at hg
  rcases h2:gets s.boxes bs with _|m
  ·simp [h1,h2]at hg
  simp only [h1,h2]at hg
  split at hg
  rotate_left
  ·cases hg
  rename_i hc0
  cases hg
  obtain⟨l1,_⟩:=wY h1
  obtain⟨m1,m2⟩:=wY h2
  let loc':qe:=fun id=>if bs.contains id then(loc id).map (qc (ql nb id))else none
  have hloc:∀id L',loc' id=some L'->bs.contains id=true∧∃L,loc id=some L∧L'=qc (ql nb id) L:=by
   intro id L' hL
   simp only [loc']at hL
   split at hL
   ·rename_i hm
    rw [Option.map_eq_some_iff]at hL
    obtain⟨L,h3,rfl⟩:=hL
    exact⟨hm,L,h3,rfl⟩
   ·cases hL
  have hr:uV ⟨fun id=>if bs.contains id then some id else none,qt s.boxes (ql nb)⟩ loc loc':=by
   refine uV.mk' (P:=P) (S:=S) (w:=w) h.boxes fun id k L hp hL=>?_
   try simp only at hp
   split at hp
   ·rename_i hm
    cases hp
    simp only [loc',hm,if_true,hL,Option.map_some]
   ·cases hp
  have hmem := h.mem.ren (loc' := loc') (b' := assoc (m.map fun x => (x.1, sj ⟨fun id => if bs.contains id then some id else none, qt s.boxes (ql nb)⟩ (ql nb x.1) x.2))) hr (fun k bx' hk => by
    obtain⟨b0,hm,rfl⟩:=xV (fun k b=>sj ⟨fun id=>if bs.contains id then some id else none,qt s.boxes (ql nb)⟩ (ql nb k) b) hk
    obtain⟨hb0,hin⟩:=m1 _ hm
    simp only at hb0 hin
    have hin':bs.contains k=true:=by simpa using hin
    exact⟨k,b0,ql nb k,by simp [hin],hb0,rfl,fun L hL=>by simp only [loc',hin',if_true,hL,Option.map_some]⟩) (fun k L' hk=>by
    obtain⟨hm,L,h3,rfl⟩:=hloc k L' hk
    refine⟨?_,k,L,_,by simp only [hm,if_true],h3,rfl⟩
    obtain⟨v,hv⟩:=m2 k (by simpa using hm)
    exact xW (fun k b=>sj ⟨fun id=>if bs.contains id then some id else none,qt s.boxes (ql nb)⟩ (ql nb k) b) hv)
  refine⟨S,loc',h.nt,?_,hmem.boxes,hmem.dom,h.imm,h.tJ,hmem.ss,hmem.inj,?_,h.frame,h.s0,?_,h.vG,h.bs,h.ob⟩
  ·intro t rv ht
   obtain⟨v0,hm,rfl⟩:=yR (rX ⟨fun id=>if bs.contains id then some id else none,qt s.boxes (ql nb)⟩) ht
   obtain⟨v,hv,hrv⟩:=h.pU t v0 (l1 _ hm).1
   exact⟨v,hv,R.rX hr hrv⟩
  ·intro id L' b hL hb
   obtain⟨_,L,hl,rfl⟩:=hloc id L' hL
   rw [sw]at hb
   exact h.own id L b hl hb
  ·intro k L0 hk
   have hlt:=(hnb k L0 hk).1
   have:=List.all_eq_true.1 hc0 k (List.mem_range.2 hlt)
   obtain⟨L,h3,h4⟩:=h.par k L0 hk
   exact⟨qc (ql nb k) L,by simp only [loc',this,if_true,h3,Option.map_some],Bs hlt (hnb k L0 hk).2 h4⟩
 |own t id e=>
  simp only [th]at hg
  split at hg
  ·rename_i k ht hb hk
   cases hg
   obtain⟨loc',h1,h2,_⟩:=h.vn hb (Step.refl none w) hk (hdr:= .slice none 0 0) (es:=[]) (xs:=[]) (.inl (.of (World.ownsRow_nil w 0 e _))) (Flat.nil S _) (fun g hg=>by cases hg) rfl
   refine⟨S,loc',?_⟩
   refine h1.uK _ fun x rv hx=>?_
   split at hx
   ·rename_i hxt
    subst hxt
    cases hx
    obtain⟨v,hv,hr⟩:=h.pU x _ ht
    cases hr with
    |mo=>exact⟨_,hv,h2⟩
   ·exact h1.pU x rv hx
  ·cases hg
   exact⟨S,loc,h⟩
  ·cases hg
 |freeze t=>
  simp only [th]at hg
  rcases ht:s.pU t with _|rv
  ·simp [ht]at hg
  rw [ht]at hg
  cases rv<;>first|(simp at hg;done)|skip
  rename_i id ver
  simp only at hg
  rcases hb:s.boxes id with _|bx
  ·simp [hb]at hg
  rw [hb]at hg
  cases bx<;>first|(simp at hg;done)|skip
  rename_i ver' e es
  simp only at hg
  by_cases hver:ver=ver'
  rotate_left
  ·simp [hver]at hg
  subst hver
  simp only [if_true,Option.some.injEq]at hg
  subst hg
  obtain⟨S',h1,hs,hl,hv⟩:=h.xM hb
  have hv:=fun v hr=>(hv ver e es hb).1 v hr
  refine⟨S',_,h1.uK _ fun x rv hx=>?_⟩
  split at hx
  ·rename_i hxt
   subst hxt
   cases hx
   obtain⟨v,hvx,hr⟩:=h.pU x _ ht
   exact⟨v,hvx,.d (hv v hr)⟩
  ·exact h1.pU x rv hx
 |frz p=>
  simp only [th]at hg
  rcases hp:tH s p with _|rv
  ·simp [hp]at hg
  rw [hp]at hg
  cases rv<;>first|(simp at hg;done)|skip
  ·simp only [Option.some.injEq]at hg
   subst hg
   exact⟨S,loc,h⟩
  ·simp only [Option.some.injEq]at hg
   subst hg
   exact⟨S,loc,h.uR hp fun v hr=>by cases hr;exact .d (.nil _ _)⟩
  ·rename_i id ver
   simp only at hg
   rcases hb:s.boxes id with _|bx
   ·simp [hb]at hg
   rw [hb]at hg
   cases bx<;>first|(simp at hg;done)|skip
   rename_i ver' e es
   simp only at hg
   by_cases hver:ver=ver'
   rotate_left
   ·simp [hver]at hg
   subst hver
   simp only [if_true,Option.some.injEq]at hg
   subst hg
   obtain⟨S',h1,hs,hl,hv⟩:=h.xM hb
   have hv:=fun v hr=>(hv ver e es hb).1 v hr
   have hbe:({ s with boxes:=upd s.boxes id .dead }:St)={ s with boxes:=fun i=>if i=id then some .dead else s.boxes i }:=rfl
   rw [hbe]at h1
   have hp':tH ({ s with boxes:=fun i=>if i=id then some .dead else s.boxes i }:St) p=some (.ref id ver):=xe hp fun off e=>by
    subst e
    simp only [tH,hb]at hp
    cases hp
   cases p with
   |reg t=>
    refine⟨S',_,h1.uK _ fun x rv hx=>?_⟩
    split at hx
    ·rename_i hxt
     subst hxt
     cases hx
     obtain⟨v,hvx,hr⟩:=h.pU x _ hp
     exact⟨v,hvx,.d (hv v hr)⟩
    ·exact h1.pU x rv hx
   |cell i off=>
    have hne:i≠id:=fun e=>by
     subst e
     simp only [tH,hb]at hp
     cases hp
    simp only [tH]at hp
    rcases hbi:s.boxes i with _|bx
    ·simp [hbi]at hp
    rw [hbi]at hp
    cases bx with
    |arr _ _ _=>cases hp
    |dead=>cases hp
    |map _ _ _=>cases hp
    |var cs=>
     simp only at hp
     simp only [Dw.uR,hne,if_false,hbi]
     refine⟨S',_,h1.nt,h1.pU,fun j bx hj=>?_,fun j L hL=>?_,h1.imm,h1.tJ,h1.ss,h1.inj,h1.own,h1.frame,h1.s0,h1.par,h1.vG,h1.bs,h1.ob⟩
     ·simp only at hj
      by_cases hji:j=i
      ·subst hji
       simp only [if_true]at hj
       cases hj
       obtain⟨L,hL,hB⟩:=h.boxes j _ hbi
       obtain⟨L',hL',hB'⟩:=h1.boxes j (.var cs) (by simp only [hne,if_false];exact hbi)
       refine⟨L',hL',?_⟩
       have hLL:L'=L:=by
        rw [qJ _ _ hne,hL]at hL'
        exact(Option.some.inj hL').symm
       subst hLL
       cases hB with
       |var _ b t vs hw hlv hc=>
        cases hB' with
        |var _ _ t' vs' hw' hl' hc'=>
         rw [hw]at hw'
         cases hw'
         exact .var _ b t vs hw (by simpa using hlv) (R.ya hc' fun v hvv=>.d (hv v (hc off _ v hp hvv)))
      ·simp only [hji,if_false]at hj
       exact h1.boxes j bx hj
     ·obtain⟨bx,hbx⟩:=h1.dom j L hL
      by_cases hji:j=i
      ·subst hji;exact⟨_,if_pos rfl⟩
      ·exact⟨bx,by simp only [hji,if_false];exact hbx⟩
 |ownp p id e=>
  simp only [th]at hg
  split at hg
  ·rename_i k hp hb hk
   cases hg
   obtain⟨loc',h1,h2,_⟩:=h.vn hb (Step.refl none w) hk (hdr:= .slice none 0 0) (es:=[]) (xs:=[]) (.inl (.of (World.ownsRow_nil w 0 e _))) (Flat.nil S _) (fun g hg=>by cases hg) rfl
   have hbe:({ s with boxes:=upd s.boxes id (.arr 0 e []) }:St)={ s with boxes:=fun i=>if i=id then some (.arr 0 e [])else s.boxes i }:=rfl
   refine⟨S,loc',Sim.uR (s:={ s with boxes:=fun i=>if i=id then some (.arr 0 e [])else s.boxes i }) h1 (xe hp fun off he=>?_) fun v hr=>?_⟩
   ·subst he
    simp only [tH,hb]at hp
    cases hp
   ·cases hr with
    |mo=>exact h2
  ·cases hg
   exact⟨S,loc,h⟩
  ·cases hg
 |mv p new=>
  simp only [th]at hg
  rcases hp:tH s p with _|rv
  ·simp [hp]at hg
  rw [hp]at hg
  cases rv<;>first|(simp at hg;done)|(simp only [Option.some.injEq]at hg;subst hg;exact⟨S,loc,h⟩)|skip
  rename_i id ver
  simp only at hg
  by_cases hid:id=new
  ·rw [if_pos hid]at hg;cases hg;exact⟨S,loc,h⟩
  rw [if_neg hid]at hg
  by_cases hnn:nb<=id∧nb<=new
  rotate_left
  ·rw [if_neg hnn]at hg;cases hg
  rw [if_pos hnn]at hg
  simp only [Option.some.injEq]at hg
  subst hg
  let pos:Nat->Option Nat:=fun i=>if i=id then some new else if i=new then none else some i
  let loc':qe:=fun k=>if k=new then loc id else if k=id then none else loc k
  have sv:∀L:Loc,qc (fun c=>c) L=L:=fun L=>BO L fun _=>rfl
  have hpl:∀i k L,pos i=some k->loc i=some L->loc' k=some L:=by
   intro i k L h1 h2
   simp only [pos]at h1
   split at h1
   ·rename_i e;subst e;cases h1;simp only [loc',if_true];exact h2
   ·split at h1
    ·cases h1
    ·rename_i n1 n2;cases h1;simp only [loc',n1,n2,if_false];exact h2
  have hr:uV ⟨pos,qt s.boxes fun _ c=>c⟩ loc loc':=uV.mk' (P:=P) (S:=S) (w:=w) h.boxes fun i k L h1 h2=>by rw [sv];exact hpl i k L h1 h2
  have hpos:∀k,(∃i,pos i=some k∧∀α(f:Nat->Option α),(if k=new then f id else if k=id then none else f k)=f i)∨(k=id):=by
   intro k
   by_cases h1:k=new
   ·subst h1;exact .inl ⟨id,by simp only [pos,if_true],fun α f=>if_pos rfl⟩
   ·by_cases h2:k=id
    ·exact .inr h2
    ·exact .inl ⟨k,by simp only [pos,h1,h2,if_false],fun α f=>by rw [if_neg h1,if_neg h2]⟩
  have hdead:∀α(f:Nat->Option α),(if id=new then f id else if id=id then none else f id)=none:=fun α f=>by rw [if_neg hid,if_pos rfl]
  have hmem:=h.mem.ren (loc':=loc') (b':=fun i=>if i=new then(s.boxes id).map (sj ⟨pos,qt s.boxes fun _ c=>c⟩ fun c=>c)else if i=id then none else(s.boxes i).map (sj ⟨pos,qt s.boxes fun _ c=>c⟩ fun c=>c)) hr
   (fun k bx' hk => by
    rcases hpos k with⟨i,h1,h2⟩|rfl
    ·have hk:=(h2 _ fun i=>(s.boxes i).map (sj ⟨pos,qt s.boxes fun _ c=>c⟩ fun c=>c)).symm.trans hk
     rw [Option.map_eq_some_iff]at hk
     obtain⟨b0,h3,rfl⟩:=hk
     exact⟨i,b0,fun c=>c,h1,h3,rfl,fun L hL=>by rw [sv];exact hpl i k L h1 hL⟩
    ·have:=(hdead _ fun i=>(s.boxes i).map (sj ⟨pos,qt s.boxes fun _ c=>c⟩ fun c=>c)).symm.trans hk
     cases this)
   (fun k L' hk => by
    rcases hpos k with⟨i,h1,h2⟩|rfl
    ·have hk':loc i=some L':=(h2 _ loc).symm.trans hk
     obtain⟨bx,hbx⟩:=h.dom i L' hk'
     refine⟨⟨sj ⟨pos,qt s.boxes fun _ c=>c⟩ (fun c=>c) bx,?_⟩,i,L',fun c=>c,h1,hk',(sv L').symm⟩
     rw [h2 _ fun i=>(s.boxes i).map (sj ⟨pos,qt s.boxes fun _ c=>c⟩ fun c=>c),hbx]
     rfl
    ·have:=(hdead _ loc).symm.trans hk
     cases this)
  refine⟨S,loc',h.nt,fun t rv ht=>?_,hmem.boxes,hmem.dom,h.imm,h.tJ,hmem.ss,hmem.inj,fun k L b hL hb=>?_,h.frame,h.s0,fun k L0 hk=>?_,h.vG,h.bs,h.ob⟩
  ·simp only [Option.map_eq_some_iff]at ht
   obtain⟨rv0,h1,rfl⟩:=ht
   obtain⟨v,hv,hrv⟩:=h.pU t rv0 h1
   exact⟨v,hv,R.rX hr hrv⟩
  ·rcases hpos k with⟨i,h1,h2⟩|rfl
   ·exact h.own i L b ((h2 _ loc).symm.trans hL) hb
   ·have:=(hdead _ loc).symm.trans hL
    cases this
  ·have hlt:=(hnb k L0 hk).1
   obtain⟨L,h3,h4⟩:=h.par k L0 hk
   refine⟨L,?_,h4⟩
   have n1:k≠new:=by omega
   have n2:k≠id:=by omega
   simp only [loc',n1,n2,if_false]
   exact h3
 |fixv id=>
  simp only [th]at hg
  rcases hb:s.boxes id with _|bx
  ·simp [hb]at hg
  rw [hb]at hg
  cases bx<;>first|(simp at hg;done)|skip
  rename_i cs
  simp only at hg
  rcases ha:uh cs with _|ps
  ·simp [ha]at hg
  simp only [ha]at hg
  by_cases hone:ps.all PD.one=true
  rotate_left
  ·rw [if_neg hone]at hg;cases hg
  rw [if_pos hone]at hg
  simp only [Option.some.injEq]at hg
  subst hg
  have hcs:=uq ha
  subst hcs
  obtain⟨L,hL,hB⟩:=h.boxes id _ hb
  cases hB with
  |var _ b t vs hw hl hc=>
  have hvv:∀(i:Nat)p u,ps[i]? =some p->vs[i]? =some u->V S p u:=fun i p u h1 h2=>by
   have:=hc i (.d p) u (by simp [h1]) h2
   cases this with|d h=>exact h
  have hlen:vs.size=ps.length:=by simpa using hl
  have h1:∀u∈vs,u.oneCell'=true:=fun u hu=>by
   obtain⟨i,hi,rfl⟩:=Array.getElem_of_mem hu
   have hi':i<ps.length:=by omega
   exact((hvv i ps[i] vs[i] (zd hi') (Array.getElem?_eq_getElem hi)).uJ (List.all_eq_true.1 hone _ (List.getElem_mem hi'))).1
  obtain⟨k1,k2,k3⟩:=h.Bm hb hL hw h1
  have hbe:({ s with boxes:=upd s.boxes id .dead }:St)={ s with boxes:=fun i=>if i=id then some .dead else s.boxes i }:=rfl
  rw [hbe]at k1
  refine⟨_,_,k1.uK (fun t=>(s.pU t).map (fixRV id ps)) fun t rv ht=>?_⟩
  rw [Option.map_eq_some_iff]at ht
  obtain⟨rv0,h2,rfl⟩:=ht
  obtain⟨v,hv,hr⟩:=h.pU t rv0 h2
  obtain⟨v',hv',hr'⟩:=k1.pU t rv0 h2
  rw [hv]at hv'
  cases hv'
  refine⟨v,hv,?_⟩
  unfold fixRV
  split
  ·rename_i i off
   split
   ·rename_i hi
    subst hi
    cases hr with
    |ptr _ _ _ L2 ho hL2 hp=>
     rw [hL]at hL2
     cases hL2
     rw [(hp b).1 rfl]
     have hat:∀(j:Nat)c,(ps.drop off)[j]? =some c->∃u,vs[off+j]? =some u∧V S c u:=fun j c hj=>by
      rw [List.getElem?_drop]at hj
      have hlt:off+j<vs.size:=by rw [hlen];exact(List.getElem?_eq_some_iff.1 hj).1
      exact⟨_,Array.getElem?_eq_getElem hlt,hvv _ c _ hj (Array.getElem?_eq_getElem hlt)⟩
     refine .cptr _ b off (fun j=>(vs[off+j]?).getD default) (fun j c hj=>?_) fun j c hj=>?_
     ·obtain⟨u,hu,_⟩:=hat j c hj
      rw [k3 _ u hu,hu];rfl
     ·obtain⟨u,hu,hvu⟩:=hat j c hj
      rw [hu]
      exact hvu.mono k2
   ·exact hr'
  ·exact hr'
 |bump t=>
  simp only [th]at hg
  rcases ht:s.pU t with _|rv
  ·simp [ht]at hg
  rw [ht]at hg
  cases rv<;>first|(simp at hg;done)|skip
  rename_i id ver
  simp only at hg
  rcases hb:s.boxes id with _|bx
  ·simp [hb]at hg
  rw [hb]at hg
  cases bx<;>first|(simp at hg;done)|skip
  rename_i ver' e es
  simp only at hg
  by_cases hver:ver=ver'
  rotate_left
  ·simp [hver]at hg
  subst hver
  simp only [if_true,Option.some.injEq]at hg
  subst hg
  obtain⟨v,hv,hr⟩:=h.pU t _ ht
  obtain⟨sz,xs,hloc,hsz,how,hf⟩:=h.tW hb hr
  have ho:v.oneCell'=true:=by cases hr with|ref _ _ _ _ ho=>exact ho
  have hst:qp (loc id) (.arr (ver+1) e sz v):=by
   rw [hloc]
   exact .arr za
  have hs2:=h.sf (Step.refl none w) id (.arr (ver+1) e es) (.arr (ver+1) e sz v) (fun b hc=>by cases hc) (.arr (ver+1) e es sz v xs hsz how hf) (fun b hbk=>.inl ⟨_,hloc,hbk⟩) hst
  have hbe:({ s with boxes:=upd s.boxes id (.arr (ver+1) e es) }:St)={ s with boxes:=fun i=>if i=id then some (.arr (ver+1) e es)else s.boxes i }:=rfl
  rw [hbe]at hs2
  refine⟨S,_,hs2.uK _ fun x rv hx=>?_⟩
  split at hx
  ·rename_i hxt
   subst hxt
   cases hx
   exact⟨v,hv,.ref id (ver+1) v _ ho (pW _ _ _) fun ver' e' sz' hdr' he=>by cases he;exact⟨Nat.le_refl _,fun _=>rfl⟩⟩
  ·exact hs2.pU x rv hx
 |bumpp p=>
  simp only [th]at hg
  rcases ht:tH s p with _|rv
  ·simp [ht]at hg
  rw [ht]at hg
  cases rv<;>first|(simp at hg;done)|skip
  rename_i id ver
  simp only at hg
  rcases hb:s.boxes id with _|bx
  ·simp [hb]at hg
  rw [hb]at hg
  cases bx<;>first|(simp at hg;done)|skip
  rename_i ver' e es
  simp only at hg
  by_cases hver:ver=ver'
  rotate_left
  ·simp [hver]at hg
  subst hver
  simp only [if_true,Option.some.injEq]at hg
  subst hg
  obtain⟨L,hL,hB⟩:=h.boxes id _ hb
  cases hB with
  |arr _ _ _ sz hdr xs hsz how hf=>
  have hst:qp (loc id) (.arr (ver+1) e sz hdr):=by
   rw [hL]
   exact .arr za
  have hs2:=h.sf (Step.refl none w) id (.arr (ver+1) e es) (.arr (ver+1) e sz hdr) (fun b hc=>by cases hc) (.arr (ver+1) e es sz hdr xs hsz how hf) (fun b hbk=>.inl ⟨_,hL,hbk⟩) hst
  have hbe:({ s with boxes:=upd s.boxes id (.arr (ver+1) e es) }:St)={ s with boxes:=fun i=>if i=id then some (.arr (ver+1) e es)else s.boxes i }:=rfl
  rw [hbe]at hs2
  have hp2:tH { s with boxes:=fun i=>if i=id then some (.arr (ver+1) e es)else s.boxes i } p=some (.ref id ver):=xe ht fun off hpo=>by
   subst hpo
   simp only [tH,hb]at ht
   cases ht
  refine⟨S,_,hs2.plSet' hp2 fun v hv=>?_⟩
  have hv0:PlAt loc tm w v p:=by
   cases p with
   |reg t=>exact hv
   |cell i off=>
    obtain⟨b,vs,ty,h1,h2,h3⟩:=hv
    refine⟨b,vs,ty,?_,h2,h3⟩
    by_cases hi:i=id
    ·subst hi;rw [pW]at h1;cases h1
    ·rwa [qJ _ _ hi]at h1
  have hr:=h.plAt ht v hv0
  cases hr with
  |ref _ _ _ L' ho hL' hc=>
   rw [hL]at hL'
   cases hL'
   have:=(hc ver e sz hdr .arr).2 rfl
   subst this
   exact .ref id (ver+1) _ _ ho (pW _ _ _) fun ver' e' sz' hdr' he=>by cases he;exact⟨Nat.le_refl _,fun _=>rfl⟩
theorem wC{nb:Nat}(hnb:∀k b,X.par k=some b->k<nb∧∀ver e sz hdr,b.Row ver e sz hdr->ver=0):∀(gs:List xQ){s s':St}{S:pR}{loc:qe},p6 P nb s gs=some s'->Sim P X S loc s tm w->∃S' loc',Sim P X S' loc' s' tm w
 | [],s,s',S,loc,h,hs=>by simp only [p6,Option.some.injEq]at h;subst h;exact⟨S,loc,hs⟩
 |g::gs,s,s',S,loc,h,hs=>by
  simp only [p6]at h
  rcases h1:th P nb s g with _|s1
  ·simp [h1]at h
  simp only [h1]at h
  obtain⟨S1,loc1,hs1⟩:=zq hnb h1 hs
  exact wC hnb gs h hs1
end
def Ex.out:Ex->Exit
 | .normal=>.normal
 | .exit id=>.exit id
 | .ret=>.ret
section
variable {P:Program}{X:Ctx}{H:Hints}{f:FuncId}{nb:Nat}{call:pT}{fuel:Nat}
theorem vM{c:Code}{body:St->Option (Ex×St)}{Q:Exit->Act->World->Prop}
  (hbody:∀{s:St}{e:Ex}{s':St}{a:Act}{w:World}{Q:Exit->Act->World->Prop},body s=some (e,s')->tV P X s a w->(∀a' w',tV P X s' a' w'->Q e.out a' w')->c.wp P Q a w):
  ∀(n:Nat){s:St}{e:Ex}{s':St}{a:Act}{w:World},uv body n s=some (e,s')->tV P X s a w->(∀a' w',tV P X s' a' w'->Q e.out a' w')->Code.rounds P c Q n a w
 |0,s,e,s',a,w,h,_,_=>by simp [uv]at h
 |n+1,s,e,s',a,w,h,hS,hQ=>by
  simp only [uv]at h
  rcases h1:body s with _|⟨e1,s1⟩
  ·simp [h1]at h
  rw [h1]at h
  rw [rounds_succ]
  cases e1 with
  |normal=>
   simp only at h
   exact hbody h1 hS fun a' w' hS'=>vM hbody n h hS' hQ
  |exit id=>
   simp only [Option.some.injEq,Prod.mk.injEq]at h
   obtain⟨rfl,rfl⟩:=h
   exact hbody h1 hS fun a' w' hS'=>hQ a' w' hS'
  |ret=>
   simp only [Option.some.injEq,Prod.mk.injEq]at h
   obtain⟨rfl,rfl⟩:=h
   exact hbody h1 hS fun a' w' hS'=>hQ a' w' hS'
theorem qn(hcall:rQ P X.base call)(hm:P.follows .mixedOrders=true)(hnb:∀k b,X.par k=some b->k<nb∧∀ver e sz hdr,b.Row ver e sz hdr->ver=0):∀(c:Code){s:St}{e:Ex}{s':St}{a:Act}{w:World}{Q:Exit->Act->World->Prop},
  xn X.nt c=true->pZ P H f nb call fuel c s=some (e,s')->tV P X s a w->(∀a' w',tV P X s' a' w'->Q e.out a' w')->c.wp P Q a w
 | .skip,s,e,s',a,w,Q,_,h,hS,hQ=>by
  simp only [pZ,Option.some.injEq,Prod.mk.injEq]at h
  obtain⟨rfl,rfl⟩:=h
  exact wp_skip (hQ a w hS)
 | .region id ops dr,s,e,s',a,w,Q,hd,h,hS,hQ=>by
  simp only [pZ]at h
  rcases h1:wB P H f nb call id ops dr s with _|s1
  ·simp [h1]at h
  simp only [h1,Option.some.injEq,Prod.mk.injEq]at h
  obtain⟨rfl,rfl⟩:=h
  unfold wB at h1
  rcases h2:p6 P nb s (H.at_ f nb id)with _|s0
  ·simp [h2]at h1
  simp only [h2]at h1
  rcases h3:rj P (H.hf f) call ops ops.toList s0 with _|⟨s2,ts⟩
  ·simp [h3]at h1
  simp only [h3]at h1
  obtain⟨hdf,S,loc,hsim⟩:=hS
  obtain⟨S',loc',hsim'⟩:=wC hnb _ h2 hsim
  have hdst:DstIn X.nt ops:=by
   intro i o ho d hod
   have:=Array.all_eq_true_iff_forall_mem.1 (show(ops.all fun o=>match o.dst with|some d=>decide (d<X.nt)|none=>true)=true from hd) o (Array.mem_of_getElem? ho)
   simpa [hod]using this
  have hs2:s2=s1∧(dr=true->wF ops ts=true):=by
   cases dr with
   |true=>
    simp only [if_true]at h1
    split at h1
    ·rename_i hok;cases h1;exact⟨rfl,fun _=>hok⟩
    ·cases h1
   |false=>simp only [Bool.false_eq_true,if_false,Option.some.injEq]at h1;exact⟨h1,fun h=>by cases h⟩
  obtain⟨rfl,hord⟩:=hs2
  exact zB hcall hm hdst h3 hord ⟨hdf,S',loc',hsim'⟩ hQ
 | .seq x y,s,e,s',a,w,Q,hd,h,hS,hQ=>by
  simp only [xn,Bool.and_eq_true]at hd
  simp only [pZ]at h
  rcases h1:pZ P H f nb call fuel x s with _|⟨e1,s1⟩
  ·simp [h1]at h
  rw [h1]at h
  refine wp_seq ?_
  cases e1 with
  |normal=>
   simp only at h
   exact qn hcall hm hnb x hd.1 h1 hS fun a' w' hS'=>qn hcall hm hnb y hd.2 h hS' hQ
  |exit id=>
   simp only [Option.some.injEq,Prod.mk.injEq]at h
   obtain⟨rfl,rfl⟩:=h
   exact qn hcall hm hnb x hd.1 h1 hS fun a' w' hS'=>hQ a' w' hS'
  |ret=>
   simp only [Option.some.injEq,Prod.mk.injEq]at h
   obtain⟨rfl,rfl⟩:=h
   exact qn hcall hm hnb x hd.1 h1 hS fun a' w' hS'=>hQ a' w' hS'
 | .cond c x y,s,e,s',a,w,Q,hd,h,hS,hQ=>by
  simp only [xn,Bool.and_eq_true]at hd
  simp only [pZ]at h
  rcases h1:s.opd c with _|rv
  ·simp [h1]at h
  rw [h1]at h
  rcases rv with p|_|_|_|_|_|_|_|_|_|_|_|_<;>first|(simp at h;done)|skip
  cases p<;>first|(simp at h;done)|skip
  rename_i t
  have hS':=hS
  obtain⟨hdf,S,loc,hsim⟩:=hS'
  have hb:=(hsim.opd h1).sW
  cases t with
  |true=>
   simp only [if_true]at h
   exact wp_cond_true hb (qn hcall hm hnb x hd.1 h hS hQ)
  |false=>
   simp only [Bool.false_eq_true,if_false]at h
   exact wp_cond_false hb (qn hcall hm hnb y hd.2 h hS hQ)
 | .block id x,s,e,s',a,w,Q,hd,h,hS,hQ=>by
  simp only [pZ]at h
  rcases h1:pZ P H f nb call fuel x s with _|⟨e1,s1⟩
  ·simp [h1]at h
  rw [h1]at h
  refine wp_block (qn hcall hm hnb x hd h1 hS fun a' w' hS'=>?_)
  cases e1 with
  |normal=>
   simp only [Option.some.injEq,Prod.mk.injEq]at h
   obtain⟨rfl,rfl⟩:=h
   exact hQ a' w' hS'
  |exit id'=>
   simp only at h
   by_cases hid:id'=id
   ·simp only [hid,if_true,Option.some.injEq,Prod.mk.injEq]at h
    obtain⟨rfl,rfl⟩:=h
    simp only [Ex.out,Exit.inBlock,hid,if_true]
    exact hQ a' w' hS'
   ·simp only [hid,if_false,Option.some.injEq,Prod.mk.injEq]at h
    obtain⟨rfl,rfl⟩:=h
    simp only [Ex.out,Exit.inBlock,hid,if_false]
    exact hQ a' w' hS'
  |ret=>
   simp only [Option.some.injEq,Prod.mk.injEq]at h
   obtain⟨rfl,rfl⟩:=h
   exact hQ a' w' hS'
 | .loop x,s,e,s',a,w,Q,hd,h,hS,hQ=>by
  simp only [pZ]at h
  exact wp_loop_rounds fuel (vM (fun hb hS hQ=>qn hcall hm hnb x hd hb hS hQ) fuel h hS hQ)
 | .exit id,s,e,s',a,w,Q,_,h,hS,hQ=>by
  simp only [pZ,Option.some.injEq,Prod.mk.injEq]at h
  obtain⟨rfl,rfl⟩:=h
  exact wp_exit (hQ a w hS)
 | .ret,s,e,s',a,w,Q,_,h,hS,hQ=>by
  simp only [pZ,Option.some.injEq,Prod.mk.injEq]at h
  obtain⟨rfl,rfl⟩:=h
  exact wp_ret (hQ a w hS)
 | .rangeFunc _ _ _ _,s,e,s',a,w,Q,_,h,_,_=>by simp [pZ]at h
 | .scope x,s,e,s',a,w,Q,hd,h,hS,hQ=>by
  simp only [pZ]at h
  refine wp_scope_straight (qn hcall hm hnb x hd h hS fun a' w' hS'=>?_)
  have:=hQ a' w' hS'
  cases e<;>exact this
 | .label _,s,e,s',a,w,Q,_,h,hS,hQ=>by
  simp only [pZ,Option.some.injEq,Prod.mk.injEq]at h
  obtain⟨rfl,rfl⟩:=h
  exact wp_label (hQ a w hS)
 | .goto _,s,e,s',a,w,Q,_,h,_,_=>by simp [pZ]at h
 | .refuse _,s,e,s',a,w,Q,_,h,_,_=>by simp [pZ]at h
end
end Go.Dw
