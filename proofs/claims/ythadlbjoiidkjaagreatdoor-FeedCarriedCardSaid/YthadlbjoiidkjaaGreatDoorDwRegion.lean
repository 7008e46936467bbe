
import Derived.Test.YthadlbjoiidkjaaGreatDoorDwOrd2
import Derived.Tactics

namespace Go.Dw
section
variable {P:Program}{X:Ctx}{mt:Hf}{call:pT}{ops:Array Oper}
theorem wS{S:pR}{loc:qe}{s:St}{a:Act}{w:World}(h:Sim P X S loc s a.tmps w){o:Oper}{b:Bool}(hw:pL ops s o=some b):Region.wanted o (yielded ops a.tmps)=b:=by
  unfold pL at hw
  unfold Region.wanted
  cases hg:o.guard with
  |none=>simp only [hg,Option.some.injEq]at hw;exact hw
  |some g=>
    obtain⟨j,want⟩:=g
    simp only [hg]at hw
    simp only [yielded]
    cases ht:(ops[j]?).bind (·.dst)with
    |none=>simp [ht]at hw
    |some t=>
      simp only [ht]at hw
      rcases hr:s.pU t with _|rv
      · simp [hr]at hw
      obtain⟨v,hv,hrel⟩:=h.pU t rv hr
      simp only [zc,hv]
      rw [hr]at hw
      rcases rv with p|_|_|_|_|_|_|_|_|_|_|_|_<;>first|(simp at hw;done)|skip
      · cases p<;>first|(simp at hw;done)|skip
        rename_i c
        have:=hrel.sW
        subst this
        simp only [Option.some.injEq]at hw
        rw [<-hw]
        cases c<;>cases want<;>rfl
      · have:=hrel.BS
        subst this
        simp only [Option.some.injEq]at hw
        rw [<-hw]
        rfl
def DstIn(n:Nat)(ops:Array Oper):Prop:=∀(i:Nat)o,ops[i]? =some o->∀d,o.dst=some d->d<n
theorem xF(hcall:rQ P X.base call){o:Oper}(hdst:∀d,o.dst=some d->d<X.nt){s s':St}{t:Tr}(h:step1 P mt call ops o s=some (s',t)){a:Act}{w:World}(hS:tV P X s a w){K:Act->World->Prop}{Q:Exit->Act->World->Prop}
    (hK:∀a' w',tV P X s' a' w'->K a' w'):if Region.wanted o (yielded ops a.tmps)then o.wp P a w K Q∨(o.asks P a w∧LetsOut Q)else K (a.put o.dst undef) w:=by
  have hS':=hS
  obtain⟨hd,S,loc,hsim⟩:=hS
  rcases tR h with⟨hw,v,u,he,rfl,_⟩|⟨hw,rfl,_,_⟩
  · rw [wS hsim hw,if_pos rfl]
    exact .inl (AX hcall hS' hdst he K Q hK)
  · rw [wS hsim hw,if_neg sm]
    exact hK _ _ ⟨by cases o.dst<;>exact hd,S,loc,hsim.put (a:=a) .undef o.dst hdst⟩
theorem xx(hcall:rQ P X.base call):∀(l:List Oper){s sF:St}{ts:List Tr}{a:Act}{w:World}{Q:Exit->Act->World->Prop},(∀o∈l,∀d,o.dst=some d->d<X.nt)->rj P mt call ops l s=some (sF,ts)->tV P X s a w->(∀a' w',tV P X sF a' w'->Q .normal a' w')->
    wpList P ops Q l a w
  | [],s,sF,ts,a,w,Q,_,h,hS,hQ=>by
    simp only [rj,Option.some.injEq,Prod.mk.injEq]at h
    obtain⟨rfl,_⟩:=h
    exact hQ a w hS
  |o::l,s,sF,ts,a,w,Q,hd,h,hS,hQ=>by
    obtain⟨s1,t,ts',h1,h2,_⟩:=uw h
    exact xF hcall (hd o sm) h1 hS (fun a' w' hS'=>xx hcall l (fun x hx=>hd x (by simp [hx])) h2 hS' hQ)
theorem BA(hcall:rQ P X.base call)(hdst:DstIn X.nt ops){Q:Exit->Act->World->Prop}{sF:St}(hQ:∀a' w',tV P X sF a' w'->Q .normal a' w'){xs:List (Oper×Tr)}(hx:xs.map (·.1)=ops.toList)
    (hlex:∀(i:Nat)o,ops[i]? =some o->∀e∈o.after,Region.binds .any e=true->e.on<i)
    (hpair:∀(i j:Nat)x y,j<i->xs[i]? =some y->xs[j]? =some x->((xR ops.toList []).getD i 0).testBit j=true∨xd ops x y=true):
    ∀(n:Nat)(L:List ((Oper×Tr)×Nat))(listed:Array Bool)(s:St)(a:Act)(w:World),L.length=n->L.Pairwise (fun p q=>p.2<q.2)->(∀p∈L,xs[p.2]? =some p.1)->
      listed.size=ops.size->(∀i,i<ops.size->(listed.getD i true=false↔∃p∈L,p.2=i))->
      (∀(i:Nat)o,ops[i]? =some o->listed.getD i false=true->∀e∈o.after,Region.binds .any e=true->listed.getD e.on false=true)->
      rj P mt call ops ((L.map (·.1)).map (·.1)) s=some (sF,(L.map (·.1)).map (·.2))->tV P X s a w->wpAny P .any ops Q n listed a w:=by
  have hops:∀(i:Nat)y,xs[i]? =some y->ops[i]? =some y.1:=by
    intro i y hy
    have:ops.toList[i]? =some y.1:=by rw [<-hx,List.getElem?_map,hy];rfl
    simpa using this
  intro n
  induction n with
  |zero=>
    intro L listed s a w hl hsort hxs hsz hmem hclosed he hS
    have:L=[]:=List.eq_nil_of_length_eq_zero hl
    subst this
    simp only [List.map_nil,rj,Option.some.injEq,Prod.mk.injEq]at he
    obtain⟨rfl,_⟩:=he
    refine⟨?_,hQ a w hS⟩
    rw [List.eq_nil_iff_forall_not_mem]
    intro i hi
    obtain⟨h0,o,ho,_⟩:=mem_ready.1 hi
    have hlt:=(Array.getElem?_eq_some_iff.1 ho).1
    obtain⟨p,hp,_⟩:=(hmem i hlt).1 h0
    cases hp
  |succ n ih=>
    intro L listed s a w hl hsort hxs hsz hmem hclosed he hS
    refine⟨fun hr=>?_,fun i hi=>?_⟩
    · exfalso
      obtain⟨p,L',rfl⟩:∃p L',L=p::L':=by
        cases L with
        |nil=>simp at hl
        |cons p L'=>exact⟨p,L',rfl⟩
      have hp:=hxs p sm
      have ho:=hops _ _ hp
      have hlt:=(Array.getElem?_eq_some_iff.1 ho).1
      have:p.2∈Region.ready .any ops listed:=by
        refine mem_ready.2 ⟨(hmem p.2 hlt).2 ⟨p,sm,rfl⟩,p.1.1,ho,fun e hee hb=>?_⟩
        have hon:=hlex _ _ ho e hee hb
        cases hle:listed.getD e.on false with
        |true=>rfl
        |false=>
          exfalso
          have h1:e.on<listed.size:=by omega
          have h2:listed.getD e.on true=false:=by
            simp [h1]at hle⊢;exact hle
          obtain⟨q,hq,hqe⟩:=(hmem e.on za).1 h2
          rcases List.mem_cons.1 hq with rfl|hq
          · omega
          · have:=(List.pairwise_cons.1 hsort).1 q hq
            omega
      rw [hr]at this
      cases this
    · obtain⟨h0,o,ho,hall⟩:=mem_ready.1 hi
      have hlt:=(Array.getElem?_eq_some_iff.1 ho).1
      obtain⟨p,hp,hpi⟩:=(hmem i hlt).1 h0
      obtain⟨L1,L2,rfl⟩:=List.append_of_mem hp
      have hpx:=hxs p hp
      have hpo:p.1.1=o:=by
        have:=hops _ _ hpx
        rw [hpi,ho]at this
        cases this
        rfl
      obtain⟨⟨po,pt⟩,pi⟩:=p
      simp only at hpi hpo hpx
      subst hpi;subst hpo
      rw [List.pairwise_append]at hsort
      obtain⟨hs1,hs2,hs3⟩:=hsort
      have hs2':=List.pairwise_cons.1 hs2
      have hfront:∀x∈L1.map (·.1),xd ops x (po,pt)=true:=by
        intro x hxm
        obtain⟨q,hq,rfl⟩:=List.mem_map.1 hxm
        have hqlt:=hs3 q hq ((po,pt),pi) sm
        simp only at hqlt
        have hqx:=hxs q (List.mem_append.2 (.inl hq))
        rcases hpair pi q.2 q.1 (po,pt) hqlt hpx hqx with h1|h1
        · exfalso
          have hql:q.2<ops.size:=by omega
          have:=AJ hclosed hsz pi pi po (Nat.le_refl _) ho hall q.2 h1
          have hnot:=(hmem q.2 hql).2 ⟨q,List.mem_append.2 (.inl hq),rfl⟩
          have h2:q.2<listed.size:=by omega
          simp [h2]at this hnot
          rw [this]at hnot
          cases hnot
        · exact h1
      simp only [List.map_append,List.map_cons]at he
      have he':rj P mt call ops ((L1.map (·.1)++(po,pt)::L2.map (·.1)).map (·.1)) s=some (sF,(L1.map (·.1)++(po,pt)::L2.map (·.1)).map (·.2)):=by
        simpa using he
      obtain⟨s1,h1,h2⟩:=xw (L1.map (·.1)) he' hfront
      unfold wpOp
      rw [ho]
      refine xF hcall (hdst pi po ho) h1 hS fun a' w' hS'=>?_
      refine ih (L1++L2) (listed.setIfInBounds pi true) s1 a' w' (by simp at hl⊢;omega) ?_ ?_ (by simp [hsz]) ?_ ?_ (by simpa using h2) hS'
      · rw [List.pairwise_append]
        exact⟨hs1,hs2'.2,fun x hx y hy=>hs3 x hx y (by simp [hy])⟩
      · intro q hq
        refine hxs q ?_
        rcases List.mem_append.1 hq with hq|hq
        · exact List.mem_append.2 (.inl hq)
        · exact List.mem_append.2 (.inr (by simp [hq]))
      · intro j hj
        by_cases hji:pi=j
        · subst hji
          have:pi<listed.size:=by omega
          constructor
          · intro hf;simp [this]at hf
          · rintro⟨q,hq,hqe⟩
            exfalso
            rcases List.mem_append.1 hq with hq|hq
            · have:=hs3 q hq ((po,pt),pi) sm
              simp only at this
              omega
            · have:=hs2'.1 q hq
              simp only at this
              omega
        · rw [getD_set_ne true hji,hmem j hj]
          constructor
          · rintro⟨q,hq,hqe⟩
            refine⟨q,?_,hqe⟩
            rcases List.mem_append.1 hq with hq|hq
            · exact List.mem_append.2 (.inl hq)
            · rcases List.mem_cons.1 hq with rfl|hq
              · exact(hji hqe).elim
              · exact List.mem_append.2 (.inr hq)
          · rintro⟨q,hq,hqe⟩
            refine⟨q,?_,hqe⟩
            rcases List.mem_append.1 hq with hq|hq
            · exact List.mem_append.2 (.inl hq)
            · exact List.mem_append.2 (.inr (by simp [hq]))
      · intro j o' ho' hl' e hee hb
        by_cases hji:pi=j
        · subst hji
          rw [ho]at ho'
          cases ho'
          exact getD_set_true (hall e hee hb)
        · rw [getD_set_ne false hji]at hl'
          exact getD_set_true (hclosed j o' ho' hl' e hee hb)
theorem wA:∀(l:List Oper){s sF:St}{ts:List Tr},rj P mt call ops l s=some (sF,ts)->ts.length=l.length
  | [],s,sF,ts,h=>by simp only [rj,Option.some.injEq,Prod.mk.injEq]at h;rw [<-h.2];rfl
  |o::l,s,sF,ts,h=>by
    obtain⟨s1,t,ts',h1,h2,rfl⟩:=uw h
    simp [wA l h2]
theorem zB(hcall:rQ P X.base call)(hm:P.follows .mixedOrders=true)(hdst:DstIn X.nt ops){s s':St}{ts:List Tr}{dr:Bool}(he:rj P mt call ops ops.toList s=some (s',ts))(ho:dr=true->wF ops ts=true){a:Act}{w:World}{id:Nat}
    (hS:tV P X s a w) {Q:Exit->Act->World->Prop} (hQ:∀a' w',tV P X s' a' w'->Q .normal a' w'):(Code.region id ops dr).wp P Q a w:=by
  cases dr with
  |false=>
    refine wp_region ?_
    have hlen:ops.size=ops.toList.length:=by simp
    have:=wpOps_eq_wpList (P:=P) (ops:=ops) (Q:=Q) ops.toList 0 (fun j=>sm)
    rw [List.range_eq_range',hlen,this]
    refine xx hcall ops.toList (fun o hm d hd=>?_) he hS hQ
    obtain⟨i,hi,hie⟩:=List.getElem_of_mem hm
    exact hdst i o (by have : ops.toList[i]? = some o := by rw [zd hi, hie]
                       simpa using this) d hd
  |true=>
    have hord:=ho rfl
    simp only [wF,Bool.and_eq_true]at hord
    obtain⟨⟨_,h1⟩,h2⟩:=hord
    have hlen:=wA ops.toList he
    have hx:(ops.toList.zip ts).map (·.1)=ops.toList:=List.map_fst_zip za
    have hx2:(ops.toList.zip ts).map (·.2)=ts:=List.map_snd_zip za
    obtain⟨hd,S,loc,hsim⟩:=hS
    have hS':tV P X s a { w with drawn:=w.drawn+1 }:=⟨hd,S,loc,hsim.stepW (Step.drew w)⟩
    refine wp_region_any hm ?_
    have hlen':ts.length=ops.size:=by rw [hlen];simp
    have hsz:ops.size=(ops.toList.zip ts).length:=by rw [List.length_zip,hlen',Array.length_toList,Nat.min_self]
    refine BA (mt:=mt) hcall hdst hQ hx ?_ ?_ ops.size ((ops.toList.zip ts).zipIdx) (Array.replicate ops.size false) s a _ (by rw [List.length_zipIdx];exact hsz.symm) ?_ ?_ sm ?_ ?_ ?_ hS'
    · intro i o hi e hee hb
      have := List.all_eq_true.1 h1 (o, i) (by
        rw [List.mem_zipIdx_iff_getElem?]
        simpa using hi)
      have:=List.all_eq_true.1 this e (by simpa using hee)
      simpa [hb]using this
    · intro i j x y hji hy hx'
      have:=List.all_eq_true.1 h2 (y,i) (by rw [List.mem_zipIdx_iff_getElem?];exact hy)
      have:=List.all_eq_true.1 this (x,j) (by rw [List.mem_zipIdx_iff_getElem?];exact hx')
      simp only [Bool.or_eq_true,Bool.not_eq_true',decide_eq_false_iff_not]at this
      rcases this with(this|this)|this
      · exact(this hji).elim
      · exact .inl this
      · exact .inr this
    · rw [List.pairwise_iff_getElem]
      intro p q hp hq hpq
      simp [hpq]
    · intro p hp
      rw [List.mem_zipIdx_iff_getElem?]at hp
      exact hp
    · intro i hi
      constructor
      · intro _
        refine⟨((ops.toList.zip ts)[i]'za,i),?_,rfl⟩
        rw [List.mem_zipIdx_iff_getElem?]
        exact zd _
      · intro _;simp [hi]
    · intro i o hi hl
      have hlt:=(Array.getElem?_eq_some_iff.1 hi).1
      simp [hlt]at hl
    · have hz:((ops.toList.zip ts).zipIdx).map (·.1)=ops.toList.zip ts:=by simp
      rw [hz,hx,hx2]
      exact he
end
end Go.Dw
