
import Derived.Test.YthkfkgoddhehcaaGreatDwOrd2
import Derived.Tactics
open Option.some renaming injEq->EC
open List renaming mem_zipIdx_iff_getElem?->GA, pairwise_append->GB

namespace Go.Dw
section
variable {P:Program}{X:Ctx}{mt:Hf}{call:tI}{ops:Array Oper}
theorem Af{S:tG}{loc:ui}{s:St}{a:Act}{w:World}(h:Sim P X S loc s a.tmps w){o:Oper}{b:Bool}(hw:tz ops s o=some b):Region.wanted o (yielded ops a.tmps)=b:=by
 unfold tz at hw
 unfold Region.wanted
 cases l:o.guard with
 |none=>simp only [l,EC]at hw;exact hw
 |some g=>
  obtain⟨j,want⟩:=g
  simp only [l]at hw
  simp only [yielded]
  cases q:(ops[j]?).bind (·.dst)with
  |none=>simp [q]at hw
  |some t=>
   simp only [q]at hw
   rcases k:s.tT t with _|rv
   ·simp [k]at hw
   obtain⟨v,r,f⟩:=h.tT t rv k
   simp only [zd,r]
   rw [k]at hw
   rcases rv with p|_|_|_|_|_|_|_|_|_|_|_|_<;>first|(simp at hw;done)|skip
   ·cases p<;>first|(simp at hw;done)|skip
    rename_i c
    have:=f.wI
    subst this
    simp only [EC]at hw
    rw [<-hw]
    cases c<;>cases want<;>rfl
   ·have:=f.Ew
    subst this
    simp only [EC]at hw
    rw [<-hw]
    rfl
def DstIn(n:Nat)(ops:Array Oper):Prop:=∀(i:Nat)o,ops[i]? =some o->∀d,o.dst=some d->d<n
theorem AU(g:vX P X.base call){o:Oper}(f:∀d,o.dst=some d->d<X.nt){s s':St}{t:Tr}(h:vH P mt call ops o s=some (s',t)){a:Act}{w:World}(hS:xm P X s a w){K:Act->World->Prop}{Q:Exit->Act->World->Prop}
  (l:∀k w',xm P X s' k w'->K k w'):if Region.wanted o (yielded ops a.tmps)then o.wp P a w K Q∨(o.asks P a w∧LetsOut Q)else K (a.put o.dst undef) w:=by
 have j:=hS
 obtain⟨p,S,loc,c⟩:=hS
 rcases xi h with⟨hw,v,u,he,rfl,_⟩|⟨hw,rfl,_,_⟩
 ·rw [Af c hw,if_pos rfl]
  exact .inl (Dy g j f he K Q l)
 ·rw [Af c hw,if_neg zb]
  exact l _ _ ⟨by cases o.dst<;>exact p,S,loc,c.put (a:=a) .undef o.dst f⟩
theorem AL(c:vX P X.base call):∀(l:List Oper){s sF:St}{ts:List Tr}{a:Act}{w:World}{Q:Exit->Act->World->Prop},(∀o∈l,∀d,o.dst=some d->d<X.nt)->ve P mt call ops l s=some (sF,ts)->xm P X s a w->(∀f w',xm P X sF f w'->Q .normal f w')->
  wpList P ops Q l a w
 | [],s,sF,ts,a,w,Q,_,h,hS,g=>by
  simp only [ve,EC,Prod.mk.injEq]at h
  obtain⟨rfl,_⟩:=h
  exact g a w hS
 |o::l,s,sF,ts,a,w,Q,k,h,hS,g=>by
  obtain⟨s1,t,r,h1,p,_⟩:=xO h
  exact AU c (k o zb) h1 hS (λf w' j=>AL c l (λx q=>k x (by simp [q])) p j g)
theorem Eb(J:vX P X.base call)(a5:DstIn X.nt ops){Q:Exit->Act->World->Prop}{sF:St}(hQ:∀a' w',xm P X sF a' w'->Q .normal a' w'){xs:List (Oper×Tr)}(hx:xs.map (·.1)=ops.toList)
  (a7:∀(i:Nat)o,ops[i]? =some o->∀e∈o.after,Region.binds .any e=true->e.on<i)
  (N:∀(i j:Nat)x y,j<i->xs[i]? =some y->xs[j]? =some x->((A5 ops.toList []).getD i 0).testBit j=true∨Ay ops x y=true):
  ∀(n:Nat)(L:List ((Oper×Tr)×Nat))(c:Array Bool)(s:St)(a:Act)(w:World),L.length=n->L.Pairwise (λp q=>p.2<q.2)->(∀p∈L,xs[p.2]? =some p.1)->
   c.size=ops.size->(∀i,i<ops.size->(c.getD i true=false↔∃p∈L,p.2=i))->
   (∀(i:Nat)o,ops[i]? =some o->c.getD i false=true->∀e∈o.after,Region.binds .any e=true->c.getD e.on false=true)->
   ve P mt call ops ((L.map (·.1)).map (·.1)) s=some (sF,(L.map (·.1)).map (·.2))->xm P X s a w->wpAny P .any ops Q n c a w:=by
 have F:∀(i:Nat)y,xs[i]? =some y->ops[i]? =some y.1:=by
  intro i y hy
  have:ops.toList[i]? =some y.1:=by rw [<-hx,List.getElem?_map,hy];rfl
  simpa using this
 intro n
 induction n with
 |zero=>
  intro L c s a w hl l B Y k g he hS
  have:L=[]:=List.eq_nil_of_length_eq_zero hl
  subst this
  simp only [List.map_nil,ve,EC,Prod.mk.injEq]at he
  obtain⟨rfl,_⟩:=he
  refine⟨?_,hQ a w hS⟩
  rw [List.eq_nil_iff_forall_not_mem]
  intro i hi
  obtain⟨h0,o,ho,_⟩:=mem_ready.1 hi
  have u:=(Array.getElem?_eq_some_iff.1 ho).1
  obtain⟨p,hp,_⟩:=(k i u).1 h0
  cases hp
 |succ n ih=>
  intro L c s a w hl l B Y k g he hS
  refine⟨λhr=>?_,λi hi=>?_⟩
  ·exfalso
   obtain⟨p,L',rfl⟩:∃p L',L=p::L':=by
    cases L with
    |nil=>simp at hl
    |cons p L'=>exact⟨p,L',rfl⟩
   have hp:=B p zb
   have ho:=F _ _ hp
   have u:=(Array.getElem?_eq_some_iff.1 ho).1
   have:p.2∈Region.ready .any ops c:=by
    refine mem_ready.2 ⟨(k p.2 u).2 ⟨p,zb,rfl⟩,p.1.1,ho,λe C hb=>?_⟩
    have c1:=a7 _ _ ho e C hb
    cases hle:c.getD e.on false with
    |true=>rfl
    |false=>
     exfalso
     have h1:e.on<c.size:=by omega
     have h2:c.getD e.on true=false:=by
      simp [h1]at hle⊢;exact hle
     obtain⟨q,f,t⟩:=(k e.on za).1 h2
     rcases List.mem_cons.1 f with rfl|f
     ·omega
     ·have:=(List.pairwise_cons.1 l).1 q f
      omega
   rw [hr]at this
   cases this
  ·obtain⟨h0,o,ho,E⟩:=mem_ready.1 hi
   have u:=(Array.getElem?_eq_some_iff.1 ho).1
   obtain⟨p,hp,O⟩:=(k i u).1 h0
   obtain⟨L1,L2,rfl⟩:=List.append_of_mem hp
   have T:=B p hp
   have a8:p.1.1=o:=by
    have:=F _ _ T
    rw [O,ho]at this
    cases this
    rfl
   obtain⟨⟨I,pt⟩,pi⟩:=p
   simp only at O a8 T
   subst O;subst a8
   rw [GB]at l
   obtain⟨b5,b6,W⟩:=l
   have H:=List.pairwise_cons.1 b6
   have D:∀x∈L1.map (·.1),Ay ops x (I,pt)=true:=by
    intro x c0
    obtain⟨q,f,rfl⟩:=List.mem_map.1 c0
    have G:=W q f ((I,pt),pi) zb
    simp only at G
    have b4:=B q (List.mem_append.2 (.inl f))
    rcases N pi q.2 q.1 (I,pt) G T b4 with h1|h1
    ·exfalso
     have b3:q.2<ops.size:=by omega
     have:=Dh g Y pi pi I (Nat.le_refl _) ho E q.2 h1
     have z:=(k q.2 b3).2 ⟨q,List.mem_append.2 (.inl f),rfl⟩
     have h2:q.2<c.size:=by omega
     simp [h2]at this z
     rw [this]at z
     cases z
    ·exact h1
   simp only [List.map_append,List.map_cons]at he
   have b0:ve P mt call ops ((L1.map (·.1)++(I,pt)::L2.map (·.1)).map (·.1)) s=some (sF,(L1.map (·.1)++(I,pt)::L2.map (·.1)).map (·.2)):=by
    simpa using he
   obtain⟨s1,h1,h2⟩:=AK (L1.map (·.1)) b0 D
   unfold wpOp
   rw [ho]
   refine AU J (a5 pi I ho) h1 hS λa' w' a9=>?_
   refine ih (L1++L2) (c.setIfInBounds pi true) s1 a' w' (by simp at hl⊢;omega) ?_ ?_ (by simp [Y]) ?_ ?_ (by simpa using h2) a9
   ·rw [GB]
    exact⟨b5,H.2,λx hx y hy=>W x hx y (by simp [hy])⟩
   ·intro q f
    refine B q ?_
    rcases List.mem_append.1 f with f|f
    ·exact List.mem_append.2 (.inl f)
    ·exact List.mem_append.2 (.inr (by simp [f]))
   ·intro j hj
    by_cases r:pi=j
    ·subst r
     have:pi<c.size:=by omega
     constructor
     ·intro hf;simp [this]at hf
     ·rintro⟨q,f,t⟩
      exfalso
      rcases List.mem_append.1 f with f|f
      ·have:=W q f ((I,pt),pi) zb
       simp only at this
       omega
      ·have:=H.1 q f
       simp only at this
       omega
    ·rw [getD_set_ne true r,k j hj]
     constructor
     ·rintro⟨q,f,t⟩
      refine⟨q,?_,t⟩
      rcases List.mem_append.1 f with f|f
      ·exact List.mem_append.2 (.inl f)
      ·rcases List.mem_cons.1 f with rfl|f
       ·exact(r t).elim
       ·exact List.mem_append.2 (.inr f)
     ·rintro⟨q,f,t⟩
      refine⟨q,?_,t⟩
      rcases List.mem_append.1 f with f|f
      ·exact List.mem_append.2 (.inl f)
      ·exact List.mem_append.2 (.inr (by simp [f]))
   ·intro j o' K a6 e C hb
    by_cases r:pi=j
    ·subst r
     rw [ho]at K
     cases K
     exact getD_set_true (E e C hb)
    ·rw [getD_set_ne false r]at a6
     exact getD_set_true (g j o' K a6 e C hb)
theorem zT:∀(l:List Oper){s sF:St}{ts:List Tr},ve P mt call ops l s=some (sF,ts)->ts.length=l.length
 | [],s,sF,ts,h=>by simp only [ve,EC,Prod.mk.injEq]at h;rw [<-h.2];rfl
 |o::l,s,sF,ts,h=>by
  obtain⟨s1,t,c,h1,a,rfl⟩:=xO h
  simp [zT l a]
theorem Cr(c:vX P X.base call)(hm:P.follows .mixedOrders=true)(f:DstIn X.nt ops){s s':St}{ts:List Tr}{r:Bool}(he:ve P mt call ops ops.toList s=some (s',ts))(ho:r=true->wM ops ts=true){a:Act}{w:World}{id:Nat}
  (hS:xm P X s a w) {Q:Exit->Act->World->Prop} (K:∀J w',xm P X s' J w'->Q .normal J w'):(Code.region id ops r).wp P Q a w:=by
 cases r with
 |false=>
  refine wp_region ?_
  have hlen:ops.size=ops.toList.length:=by simp
  have:=wpOps_eq_wpList (P:=P) (ops:=ops) (Q:=Q) ops.toList 0 (λj=>zb)
  rw [List.range_eq_range',hlen,this]
  refine AL c ops.toList (λo hm d u=>?_) he hS K
  obtain⟨i,hi,B⟩:=List.getElem_of_mem hm
  have C:ops.toList[i]? =some o:=by rw [ze hi,B]
  exact f i o (by simpa using C) d u
 |true=>
  have g:=ho rfl
  simp only [wM,Bool.and_eq_true]at g
  obtain⟨⟨_,h1⟩,N⟩:=g
  have hlen:=zT ops.toList he
  have L:(ops.toList.zip ts).map (·.1)=ops.toList:=List.map_fst_zip za
  have I:(ops.toList.zip ts).map (·.2)=ts:=List.map_snd_zip za
  obtain⟨u,S,loc,l⟩:=hS
  have t:xm P X s a { w with drawn:=w.drawn+1 }:=⟨u,S,loc,l.stepW (Step.drew w)⟩
  refine wp_region_any hm ?_
  have k:ts.length=ops.size:=by rw [hlen];simp
  have G:ops.size=(ops.toList.zip ts).length:=by rw [List.length_zip,k,Array.length_toList,Nat.min_self]
  refine Eb (mt:=mt) c f K L ?_ ?_ ops.size ((ops.toList.zip ts).zipIdx) (Array.replicate ops.size false) s a _ (by rw [List.length_zipIdx];exact G.symm) ?_ ?_ zb ?_ ?_ ?_ t
  ·intro i o hi e z O
   have := List.all_eq_true.1 h1 (o, i) (by
    rw [GA]
    simpa using hi)
   have:=List.all_eq_true.1 this e (by simpa using z)
   simpa [O]using this
  ·intro i j x y D W H
   have:=List.all_eq_true.1 N (y,i) (by rw [GA];exact W)
   have:=List.all_eq_true.1 this (x,j) (by rw [GA];exact H)
   simp only [Bool.or_eq_true,Bool.not_eq_true',decide_eq_false_iff_not]at this
   rcases this with(this|this)|this
   ·exact(this D).elim
   ·exact .inl this
   ·exact .inr this
  ·rw [List.pairwise_iff_getElem]
   intro p q hp hq F
   simp [F]
  ·intro p hp
   rw [GA]at hp
   exact hp
  ·intro i hi
   constructor
   ·intro _
    refine⟨((ops.toList.zip ts)[i]'za,i),?_,rfl⟩
    rw [GA]
    exact ze _
   ·intro _;simp [hi]
  ·intro i o hi T
   have E:=(Array.getElem?_eq_some_iff.1 hi).1
   simp [E]at T
  ·have Y:((ops.toList.zip ts).zipIdx).map (·.1)=ops.toList.zip ts:=by simp
   rw [Y,L,I]
   exact he
end
end Go.Dw
