
import Derived.Test.YtfmoipelhfkdkaaGreatDoorDwOrd2
import Derived.Tactics
open Option.some renaming injEq->DB
open List renaming mem_zipIdx_iff_getElem?->Es, pairwise_append->Et

namespace Go.Dw
section
variable {P:Program}{X:Ctx}{mt:Hf}{call:rA}{ops:Array Oper}
theorem yu{S:rC}{loc:sf}{s:St}{a:Act}{w:World}(h:Sim P X S loc s a.tmps w){o:Oper}{b:Bool}(hw:ou ops s o=some b):Region.wanted o (yielded ops a.tmps)=b:=by
  unfold ou at hw
  unfold Region.wanted
  cases q:o.guard with
  |none=>simp only [q,DB]at hw;exact hw
  |some g=>
    obtain⟨j,want⟩:=g
    simp only [q]at hw
    simp only [yielded]
    cases r:(ops[j]?).bind (·.dst)with
    |none=>simp [r]at hw
    |some t=>
      simp only [r]at hw
      rcases k:s.rJ t with _|rv
      · simp [k]at hw
      obtain⟨v,u,f⟩:=h.rJ t rv k
      simp only [ze,u]
      rw [k]at hw
      rcases rv with p|_|_|_|_|_|_|_|_|_|_|_|_<;>first|(simp at hw;done)|skip
      · cases p<;>first|(simp at hw;done)|skip
        rename_i c
        have:=f.uM
        subst this
        simp only [DB]at hw
        rw [<-hw]
        cases c<;>cases want<;>rfl
      · have:=f.Dm
        subst this
        simp only [DB]at hw
        rw [<-hw]
        rfl
def DstIn(n:Nat)(ops:Array Oper):Prop:=∀(i:Nat)o,ops[i]? =some o->∀d,o.dst=some d->d<n
theorem zm(j:ue P X.base call){o:Oper}(g:∀d,o.dst=some d->d<X.nt){s s':St}{t:Tr}(h:step1 P mt call ops o s=some (s',t)){a:Act}{w:World}(hS:vK P X s a w){K:Act->World->Prop}{Q:Exit->Act->World->Prop}
    (r:∀q w',vK P X s' q w'->K q w'):if Region.wanted o (yielded ops a.tmps)then o.wp P a w K Q∨(o.asks P a w∧LetsOut Q)else K (a.put o.dst undef) w:=by
  have k:=hS
  obtain⟨B,S,loc,f⟩:=hS
  rcases vH h with⟨hw,v,u,he,rfl,_⟩|⟨hw,rfl,_,_⟩
  · rw [yu f hw,if_pos rfl]
    exact .inl (Cp j k g he K Q r)
  · rw [yu f hw,if_neg zc]
    exact r _ _ ⟨by cases o.dst<;>exact B,S,loc,f.put (a:=a) .undef o.dst g⟩
theorem yZ(f:ue P X.base call):∀(l:List Oper){s sF:St}{ts:List Tr}{a:Act}{w:World}{Q:Exit->Act->World->Prop},(∀o∈l,∀d,o.dst=some d->d<X.nt)->tC P mt call ops l s=some (sF,ts)->vK P X s a w->(∀g w',vK P X sF g w'->Q .normal g w')->
    wpList P ops Q l a w
  | [],s,sF,ts,a,w,Q,_,h,hS,j=>by
    simp only [tC,DB,Prod.mk.injEq]at h
    obtain⟨rfl,_⟩:=h
    exact j a w hS
  |o::l,s,sF,ts,a,w,Q,q,h,hS,j=>by
    obtain⟨s1,t,B,h1,r,_⟩:=wm h
    exact zm f (q o zc) h1 hS (fun g w' k=>yZ f l (fun x u=>q x (by simp [u])) r k j)
theorem C7(O:ue P X.base call)(a9:DstIn X.nt ops){Q:Exit->Act->World->Prop}{sF:St}(hQ:∀a' w',vK P X sF a' w'->Q .normal a' w'){xs:List (Oper×Tr)}(hx:xs.map (·.1)=ops.toList)
    (b1:∀(i:Nat)o,ops[i]? =some o->∀e∈o.after,Region.binds .any e=true->e.on<i)
    (U:∀(i j:Nat)x y,j<i->xs[i]? =some y->xs[j]? =some x->((zB ops.toList []).getD i 0).testBit j=true∨yL ops x y=true):
    ∀(n:Nat)(L:List ((Oper×Tr)×Nat))(listed:Array Bool)(s:St)(a:Act)(w:World),L.length=n->L.Pairwise (fun p q=>p.2<q.2)->(∀p∈L,xs[p.2]? =some p.1)->
      listed.size=ops.size->(∀i,i<ops.size->(listed.getD i true=false↔∃p∈L,p.2=i))->
      (∀(i:Nat)o,ops[i]? =some o->listed.getD i false=true->∀e∈o.after,Region.binds .any e=true->listed.getD e.on false=true)->
      tC P mt call ops ((L.map (·.1)).map (·.1)) s=some (sF,(L.map (·.1)).map (·.2))->vK P X s a w->wpAny P .any ops Q n listed a w:=by
  have I:∀(i:Nat)y,xs[i]? =some y->ops[i]? =some y.1:=by
    intro i y hy
    have:ops.toList[i]? =some y.1:=by rw [<-hx,List.getElem?_map,hy];rfl
    simpa using this
  intro n
  induction n with
  |zero=>
    intro L listed s a w hl r E a6 k g he hS
    have:L=[]:=List.eq_nil_of_length_eq_zero hl
    subst this
    simp only [List.map_nil,tC,DB,Prod.mk.injEq]at he
    obtain⟨rfl,_⟩:=he
    refine⟨?_,hQ a w hS⟩
    rw [List.eq_nil_iff_forall_not_mem]
    intro i hi
    obtain⟨h0,o,ho,_⟩:=mem_ready.1 hi
    have C:=(Array.getElem?_eq_some_iff.1 ho).1
    obtain⟨p,hp,_⟩:=(k i C).1 h0
    cases hp
  |succ n ih=>
    intro L listed s a w hl r E a6 k g he hS
    refine⟨fun hr=>?_,fun i hi=>?_⟩
    · exfalso
      obtain⟨p,L',rfl⟩:∃p L',L=p::L':=by
        cases L with
        |nil=>simp at hl
        |cons p L'=>exact⟨p,L',rfl⟩
      have hp:=E p zc
      have ho:=I _ _ hp
      have C:=(Array.getElem?_eq_some_iff.1 ho).1
      have:p.2∈Region.ready .any ops listed:=by
        refine mem_ready.2 ⟨(k p.2 C).2 ⟨p,zc,rfl⟩,p.1.1,ho,fun e F hb=>?_⟩
        have c3:=b1 _ _ ho e F hb
        cases hle:listed.getD e.on false with
        |true=>rfl
        |false=>
          exfalso
          have h1:e.on<listed.size:=by omega
          have h2:listed.getD e.on true=false:=by
            simp [h1]at hle⊢;exact hle
          obtain⟨q,f,B⟩:=(k e.on za).1 h2
          rcases List.mem_cons.1 f with rfl|f
          · omega
          · have:=(List.pairwise_cons.1 r).1 q f
            omega
      rw [hr]at this
      cases this
    · obtain⟨h0,o,ho,H⟩:=mem_ready.1 hi
      have C:=(Array.getElem?_eq_some_iff.1 ho).1
      obtain⟨p,hp,W⟩:=(k i C).1 h0
      obtain⟨L1,L2,rfl⟩:=List.append_of_mem hp
      have Y:=E p hp
      have b2:p.1.1=o:=by
        have:=I _ _ Y
        rw [W,ho]at this
        cases this
        rfl
      obtain⟨⟨N,pt⟩,pi⟩:=p
      simp only at W b2 Y
      subst W;subst b2
      rw [Et]at r
      obtain⟨c0,c1,a5⟩:=r
      have K:=List.pairwise_cons.1 c1
      have G:∀x∈L1.map (·.1),yL ops x (N,pt)=true:=by
        intro x c2
        obtain⟨q,f,rfl⟩:=List.mem_map.1 c2
        have J:=a5 q f ((N,pt),pi) zc
        simp only at J
        have b6:=E q (List.mem_append.2 (.inl f))
        rcases U pi q.2 q.1 (N,pt) J Y b6 with h1|h1
        · exfalso
          have b5:q.2<ops.size:=by omega
          have:=Ca g a6 pi pi N (Nat.le_refl _) ho H q.2 h1
          have D:=(k q.2 b5).2 ⟨q,List.mem_append.2 (.inl f),rfl⟩
          have h2:q.2<listed.size:=by omega
          simp [h2]at this D
          rw [this]at D
          cases D
        · exact h1
      simp only [List.map_append,List.map_cons]at he
      have b4:tC P mt call ops ((L1.map (·.1)++(N,pt)::L2.map (·.1)).map (·.1)) s=some (sF,(L1.map (·.1)++(N,pt)::L2.map (·.1)).map (·.2)):=by
        simpa using he
      obtain⟨s1,h1,h2⟩:=yY (L1.map (·.1)) b4 G
      unfold wpOp
      rw [ho]
      refine zm O (a9 pi N ho) h1 hS fun a' w' b3=>?_
      refine ih (L1++L2) (listed.setIfInBounds pi true) s1 a' w' (by simp at hl⊢;omega) ?_ ?_ (by simp [a6]) ?_ ?_ (by simpa using h2) b3
      · rw [Et]
        exact⟨c0,K.2,fun x hx y hy=>a5 x hx y (by simp [hy])⟩
      · intro q f
        refine E q ?_
        rcases List.mem_append.1 f with f|f
        · exact List.mem_append.2 (.inl f)
        · exact List.mem_append.2 (.inr (by simp [f]))
      · intro j hj
        by_cases u:pi=j
        · subst u
          have:pi<listed.size:=by omega
          constructor
          · intro hf;simp [this]at hf
          · rintro⟨q,f,B⟩
            exfalso
            rcases List.mem_append.1 f with f|f
            · have:=a5 q f ((N,pt),pi) zc
              simp only at this
              omega
            · have:=K.1 q f
              simp only at this
              omega
        · rw [getD_set_ne true u,k j hj]
          constructor
          · rintro⟨q,f,B⟩
            refine⟨q,?_,B⟩
            rcases List.mem_append.1 f with f|f
            · exact List.mem_append.2 (.inl f)
            · rcases List.mem_cons.1 f with rfl|f
              · exact(u B).elim
              · exact List.mem_append.2 (.inr f)
          · rintro⟨q,f,B⟩
            refine⟨q,?_,B⟩
            rcases List.mem_append.1 f with f|f
            · exact List.mem_append.2 (.inl f)
            · exact List.mem_append.2 (.inr (by simp [f]))
      · intro j o' T b0 e F hb
        by_cases u:pi=j
        · subst u
          rw [ho]at T
          cases T
          exact getD_set_true (H e F hb)
        · rw [getD_set_ne false u]at b0
          exact getD_set_true (g j o' T b0 e F hb)
theorem yh:∀(l:List Oper){s sF:St}{ts:List Tr},tC P mt call ops l s=some (sF,ts)->ts.length=l.length
  | [],s,sF,ts,h=>by simp only [tC,DB,Prod.mk.injEq]at h;rw [<-h.2];rfl
  |o::l,s,sF,ts,h=>by
    obtain⟨s1,t,g,h1,f,rfl⟩:=wm h
    simp [yh l f]
theorem Bl(f:ue P X.base call)(hm:P.follows .mixedOrders=true)(g:DstIn X.nt ops){s s':St}{ts:List Tr}{B:Bool}(he:tC P mt call ops ops.toList s=some (s',ts))(ho:B=true->uS ops ts=true){a:Act}{w:World}{id:Nat}
    (hS:vK P X s a w) {Q:Exit->Act->World->Prop} (O:∀N w',vK P X s' N w'->Q .normal N w'):(Code.region id ops B).wp P Q a w:=by
  cases B with
  |false=>
    refine wp_region ?_
    have hlen:ops.size=ops.toList.length:=by simp
    have:=wpOps_eq_wpList (P:=P) (ops:=ops) (Q:=Q) ops.toList 0 (fun j=>zc)
    rw [List.range_eq_range',hlen,this]
    refine yZ f ops.toList (fun o hm d D=>?_) he hS O
    obtain⟨i,hi,F⟩:=List.getElem_of_mem hm
    exact g i o (by
                       have:ops.toList[i]? =some o:=by rw [zf hi,F]
                       simpa using this) d D
  |true=>
    have k:=ho rfl
    simp only [uS,Bool.and_eq_true]at k
    obtain⟨⟨_,h1⟩,U⟩:=k
    have hlen:=yh ops.toList he
    have T:(ops.toList.zip ts).map (·.1)=ops.toList:=List.map_fst_zip za
    have L:(ops.toList.zip ts).map (·.2)=ts:=List.map_snd_zip za
    obtain⟨D,S,loc,u⟩:=hS
    have C:vK P X s a { w with drawn:=w.drawn+1 }:=⟨D,S,loc,u.stepW (Step.drew w)⟩
    refine wp_region_any hm ?_
    have r:ts.length=ops.size:=by rw [hlen];simp
    have J:ops.size=(ops.toList.zip ts).length:=by rw [List.length_zip,r,Array.length_toList,Nat.min_self]
    refine C7 (mt:=mt) f g O T ?_ ?_ ops.size ((ops.toList.zip ts).zipIdx) (Array.replicate ops.size false) s a _ (by rw [List.length_zipIdx];exact J.symm) ?_ ?_ zc ?_ ?_ ?_ C
    · intro i o hi e E W
      have := List.all_eq_true.1 h1 (o, i) (by
        rw [Es]
        simpa using hi)
      have:=List.all_eq_true.1 this e (by simpa using E)
      simpa [W]using this
    · intro i j x y G Y K
      have:=List.all_eq_true.1 U (y,i) (by rw [Es];exact Y)
      have:=List.all_eq_true.1 this (x,j) (by rw [Es];exact K)
      simp only [Bool.or_eq_true,Bool.not_eq_true',decide_eq_false_iff_not]at this
      rcases this with(this|this)|this
      · exact(this G).elim
      · exact .inl this
      · exact .inr this
    · rw [List.pairwise_iff_getElem]
      intro p q hp hq I
      simp [I]
    · intro p hp
      rw [Es]at hp
      exact hp
    · intro i hi
      constructor
      · intro _
        refine⟨((ops.toList.zip ts)[i]'za,i),?_,rfl⟩
        rw [Es]
        exact zf _
      · intro _;simp [hi]
    · intro i o hi hl
      have H:=(Array.getElem?_eq_some_iff.1 hi).1
      simp [H]at hl
    · have hz:((ops.toList.zip ts).zipIdx).map (·.1)=ops.toList.zip ts:=by simp
      rw [hz,T,L]
      exact he
end
end Go.Dw
