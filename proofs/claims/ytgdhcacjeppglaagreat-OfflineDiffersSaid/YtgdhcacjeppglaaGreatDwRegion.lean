
import Derived.Test.YtgdhcacjeppglaaGreatDwOrd2
import Derived.Tactics
open Option.some renaming injEq->AD
open List renaming mem_zipIdx_iff_getElem?->Bw, pairwise_append->Bx

namespace Go.Dw
section
variable {P:Program}{X:Ctx}{mt:Hf}{call:cB}{ops:Array Oper}
theorem iX{S:cp}{loc:cJ}{s:St}{a:Act}{w:World}(h:Sim P X S loc s a.tmps w){o:Oper}{b:Bool}(hw:cu ops s o=some b):Region.wanted o (yielded ops a.tmps)=b:=by
 unfold cu at hw
 unfold Region.wanted
 cases i:o.guard with
 |none=>simp only [i,AD]at hw;exact hw
 |some g=>
  obtain⟨j,want⟩:=g
  simp only [i]at hw
  simp only [yielded]
  cases ht:(ops[j]?).bind (·.dst)with
  |none=>simp [ht]at hw
  |some t=>
   simp only [ht]at hw
   rcases f:s.cv t with _|rv
   ·simp [f]at hw
   obtain⟨v,k,e⟩:=h.cv t rv f
   simp only [zb,k]
   rw [f]at hw
   rcases rv with p|_|_|_|_|_|_|_|_|_|_|_|_<;>first|(simp at hw;done)|skip
   ·cases p<;>first|(simp at hw;done)|skip
    rename_i c
    have:=e.eP
    subst this
    simp only [AD]at hw
    rw [<-hw]
    cases c<;>cases want<;>rfl
   ·have:=e.oz
    subst this
    simp only [AD]at hw
    rw [<-hw]
    rfl
def DstIn(n:Nat)(ops:Array Oper):Prop:=∀(i:Nat)o,ops[i]? =some o->∀d,o.dst=some d->d<n
theorem jM(e:ea P X.base call){o:Oper}(c:∀d,o.dst=some d->d<X.nt){s s':St}{t:Tr}(h:dS P mt call ops o s=some (s',t)){a:Act}{w:World}(hS:eN P X s a w){K:Act->World->Prop}{Q:Exit->Act->World->Prop}
  (i:∀g w',eN P X s' g w'->K g w'):if Region.wanted o (yielded ops a.tmps)then o.wp P a w K Q∨(o.asks P a w∧LetsOut Q)else K (a.put o.dst undef) w:=by
 have f:=hS
 obtain⟨hd,S,loc,b⟩:=hS
 rcases fG h with⟨hw,v,u,he,rfl,_⟩|⟨hw,rfl,_,_⟩
 ·rw [iX b hw,if_pos rfl]
  exact .inl (nq e f c he K Q i)
 ·rw [iX b hw,if_neg sm]
  exact i _ _ ⟨by cases o.dst<;>exact hd,S,loc,b.put (a:=a) .undef o.dst c⟩
theorem jF(b:ea P X.base call):∀(l:List Oper){s sF:St}{ts:List Tr}{a:Act}{w:World}{Q:Exit->Act->World->Prop},(∀o∈l,∀d,o.dst=some d->d<X.nt)->dz P mt call ops l s=some (sF,ts)->eN P X s a w->(∀c w',eN P X sF c w'->Q .normal c w')->
  wpList P ops Q l a w
 | [],s,sF,ts,a,w,Q,_,h,hS,e=>by
  simp only [dz,AD,Prod.mk.injEq]at h
  obtain⟨rfl,_⟩:=h
  exact e a w hS
 |o::l,s,sF,ts,a,w,Q,hd,h,hS,e=>by
  obtain⟨s1,t,j,h1,g,_⟩:=gd h
  exact jM b (hd o sm) h1 hS (fun c w' f=>jF b l (fun x i=>hd x (by simp [i])) g f e)
theorem od(G:ea P X.base call)(Y:DstIn X.nt ops){Q:Exit->Act->World->Prop}{sF:St}(hQ:∀a' w',eN P X sF a' w'->Q .normal a' w'){xs:List (Oper×Tr)}(hx:xs.map (·.1)=ops.toList)
  (a1:∀(i:Nat)o,ops[i]? =some o->∀e∈o.after,Region.binds .any e=true->e.on<i)
  (I:∀(i j:Nat)x y,j<i->xs[i]? =some y->xs[j]? =some x->((jU ops.toList []).getD i 0).testBit j=true∨jk ops x y=true):
  ∀(n:Nat)(L:List ((Oper×Tr)×Nat))(b:Array Bool)(s:St)(a:Act)(w:World),L.length=n->L.Pairwise (fun p q=>p.2<q.2)->(∀p∈L,xs[p.2]? =some p.1)->
   b.size=ops.size->(∀i,i<ops.size->(b.getD i true=false↔∃p∈L,p.2=i))->
   (∀(i:Nat)o,ops[i]? =some o->b.getD i false=true->∀e∈o.after,Region.binds .any e=true->b.getD e.on false=true)->
   dz P mt call ops ((L.map (·.1)).map (·.1)) s=some (sF,(L.map (·.1)).map (·.2))->eN P X s a w->wpAny P .any ops Q n b a w:=by
 have C:∀(i:Nat)y,xs[i]? =some y->ops[i]? =some y.1:=by
  intro i y hy
  have:ops.toList[i]? =some y.1:=by rw [<-hx,List.getElem?_map,hy];rfl
  simpa using this
 intro n
 induction n with
 |zero=>
  intro L b s a w hl k u hsz g f he hS
  have:L=[]:=List.eq_nil_of_length_eq_zero hl
  subst this
  simp only [List.map_nil,dz,AD,Prod.mk.injEq]at he
  obtain⟨rfl,_⟩:=he
  refine⟨?_,hQ a w hS⟩
  rw [List.eq_nil_iff_forall_not_mem]
  intro i hi
  obtain⟨h0,o,ho,_⟩:=mem_ready.1 hi
  have r:=(Array.getElem?_eq_some_iff.1 ho).1
  obtain⟨p,O,_⟩:=(g i r).1 h0
  cases O
 |succ n ih=>
  intro L b s a w hl k u hsz g f he hS
  refine⟨fun hr=>?_,fun i hi=>?_⟩
  ·exfalso
   obtain⟨p,L',rfl⟩:∃p L',L=p::L':=by
    cases L with
    |nil=>simp at hl
    |cons p L'=>exact⟨p,L',rfl⟩
   have O:=u p sm
   have ho:=C _ _ O
   have r:=(Array.getElem?_eq_some_iff.1 ho).1
   have:p.2∈Region.ready .any ops b:=by
    refine mem_ready.2 ⟨(g p.2 r).2 ⟨p,sm,rfl⟩,p.1.1,ho,fun e v hb=>?_⟩
    have b0:=a1 _ _ ho e v hb
    cases hle:b.getD e.on false with
    |true=>rfl
    |false=>
     exfalso
     have h1:e.on<b.size:=by omega
     have W:b.getD e.on true=false:=by
      simp [h1]at hle⊢;exact hle
     obtain⟨q,c,m⟩:=(g e.on om).1 W
     rcases List.mem_cons.1 c with rfl|c
     ·omega
     ·have:=(List.pairwise_cons.1 k).1 q c
      omega
   rw [hr]at this
   cases this
  ·obtain⟨h0,o,ho,B⟩:=mem_ready.1 hi
   have r:=(Array.getElem?_eq_some_iff.1 ho).1
   obtain⟨p,O,J⟩:=(g i r).1 h0
   obtain⟨U,L2,rfl⟩:=List.append_of_mem O
   have K:=u p O
   have a2:p.1.1=o:=by
    have:=C _ _ K
    rw [J,ho]at this
    cases this
    rfl
   obtain⟨⟨F,T⟩,pi⟩:=p
   simp only at J a2 K
   subst J;subst a2
   rw [Bx]at k
   obtain⟨a7,a8,N⟩:=k
   have E:=List.pairwise_cons.1 a8
   have z:∀x∈U.map (·.1),jk ops x (F,T)=true:=by
    intro x a9
    obtain⟨q,c,rfl⟩:=List.mem_map.1 a9
    have D:=N q c ((F,T),pi) sm
    simp only at D
    have a6:=u q (List.mem_append.2 (.inl c))
    rcases I pi q.2 q.1 (F,T) D K a6 with h1|h1
    ·exfalso
     have a5:q.2<ops.size:=by omega
     have:=mW f hsz pi pi F (Nat.le_refl _) ho B q.2 h1
     have t:=(g q.2 a5).2 ⟨q,List.mem_append.2 (.inl c),rfl⟩
     have W:q.2<b.size:=by omega
     simp [W]at this t
     rw [this]at t
     cases t
    ·exact h1
   simp only [List.map_append,List.map_cons]at he
   have a4:dz P mt call ops ((U.map (·.1)++(F,T)::L2.map (·.1)).map (·.1)) s=some (sF,(U.map (·.1)++(F,T)::L2.map (·.1)).map (·.2)):=by
    simpa using he
   obtain⟨s1,h1,W⟩:=jE (U.map (·.1)) a4 z
   unfold wpOp
   rw [ho]
   refine jM G (Y pi F ho) h1 hS fun a' w' a3=>?_
   refine ih (U++L2) (b.setIfInBounds pi true) s1 a' w' (by simp at hl⊢;omega) ?_ ?_ (by simp [hsz]) ?_ ?_ (by simpa using W) a3
   ·rw [Bx]
    exact⟨a7,E.2,fun x hx y hy=>N x hx y (by simp [hy])⟩
   ·intro q c
    refine u q ?_
    rcases List.mem_append.1 c with c|c
    ·exact List.mem_append.2 (.inl c)
    ·exact List.mem_append.2 (.inr (by simp [c]))
   ·intro j hj
    by_cases l:pi=j
    ·subst l
     have:pi<b.size:=by omega
     constructor
     ·intro hf;simp [this]at hf
     ·rintro⟨q,c,m⟩
      exfalso
      rcases List.mem_append.1 c with c|c
      ·have:=N q c ((F,T),pi) sm
       simp only at this
       omega
      ·have:=E.1 q c
       simp only at this
       omega
    ·rw [getD_set_ne true l,g j hj]
     constructor
     ·rintro⟨q,c,m⟩
      refine⟨q,?_,m⟩
      rcases List.mem_append.1 c with c|c
      ·exact List.mem_append.2 (.inl c)
      ·rcases List.mem_cons.1 c with rfl|c
       ·exact(l m).elim
       ·exact List.mem_append.2 (.inr c)
     ·rintro⟨q,c,m⟩
      refine⟨q,?_,m⟩
      rcases List.mem_append.1 c with c|c
      ·exact List.mem_append.2 (.inl c)
      ·exact List.mem_append.2 (.inr (by simp [c]))
   ·intro j o' H a0 e v hb
    by_cases l:pi=j
    ·subst l
     rw [ho]at H
     cases H
     exact getD_set_true (B e v hb)
    ·rw [getD_set_ne false l]at a0
     exact getD_set_true (f j o' H a0 e v hb)
theorem iJ:∀(l:List Oper){s sF:St}{ts:List Tr},dz P mt call ops l s=some (sF,ts)->ts.length=l.length
 | [],s,sF,ts,h=>by simp only [dz,AD,Prod.mk.injEq]at h;rw [<-h.2];rfl
 |o::l,s,sF,ts,h=>by
  obtain⟨s1,t,b,h1,a,rfl⟩:=gd h
  simp [iJ l a]
theorem lW(b:ea P X.base call)(hm:P.follows .mixedOrders=true)(c:DstIn X.nt ops){s s':St}{ts:List Tr}{m:Bool}(he:dz P mt call ops ops.toList s=some (s',ts))(ho:m=true->iR ops ts=true){a:Act}{w:World}{id:Nat}
  (hS:eN P X s a w) {Q:Exit->Act->World->Prop} (G:∀F w',eN P X s' F w'->Q .normal F w'):(Code.region id ops m).wp P Q a w:=by
 cases m with
 |false=>
  refine wp_region ?_
  have hlen:ops.size=ops.toList.length:=by simp
  have:=wpOps_eq_wpList (P:=P) (ops:=ops) (Q:=Q) ops.toList 0 (fun j=>sm)
  rw [List.range_eq_range',hlen,this]
  refine jF b ops.toList (fun o hm d hd=>?_) he hS G
  obtain⟨i,g,t⟩:=List.getElem_of_mem hm
  have u:ops.toList[i]? =some o:=by rw [zc g,t]
  exact c i o (by simpa using u) d hd
 |true=>
  have f:=ho rfl
  simp only [iR,Bool.and_eq_true]at f
  obtain⟨⟨_,h1⟩,I⟩:=f
  have hlen:=iJ ops.toList he
  have H:(ops.toList.zip ts).map (·.1)=ops.toList:=List.map_fst_zip om
  have E:(ops.toList.zip ts).map (·.2)=ts:=List.map_snd_zip om
  obtain⟨hd,S,loc,l⟩:=hS
  have n:eN P X s a { w with drawn:=w.drawn+1 }:=⟨hd,S,loc,l.stepW (Step.drew w)⟩
  refine wp_region_any hm ?_
  have k:ts.length=ops.size:=by rw [hlen];simp
  have hsz:ops.size=(ops.toList.zip ts).length:=by rw [List.length_zip,k,Array.length_toList,Nat.min_self]
  refine od (mt:=mt) b c G H ?_ ?_ ops.size ((ops.toList.zip ts).zipIdx) (Array.replicate ops.size false) s a _ (by rw [List.length_zipIdx];exact hsz.symm) ?_ ?_ sm ?_ ?_ ?_ n
  ·intro i o g e r hb
   have := List.all_eq_true.1 h1 (o, i) (by
    rw [Bw]
    simpa using g)
   have:=List.all_eq_true.1 this e (by simpa using r)
   simpa [hb]using this
  ·intro i j x y v J D
   have:=List.all_eq_true.1 I (y,i) (by rw [Bw];exact J)
   have:=List.all_eq_true.1 this (x,j) (by rw [Bw];exact D)
   simp only [Bool.or_eq_true,Bool.not_eq_true',decide_eq_false_iff_not]at this
   rcases this with(this|this)|this
   ·exact(this v).elim
   ·exact .inl this
   ·exact .inr this
  ·rw [List.pairwise_iff_getElem]
   intro p q B L C
   simp [C]
  ·intro p B
   rw [Bw]at B
   exact B
  ·intro i g
   constructor
   ·intro _
    refine⟨((ops.toList.zip ts)[i]'om,i),?_,rfl⟩
    rw [Bw]
    exact zc _
   ·intro _;simp [g]
  ·intro i o g hl
   have z:=(Array.getElem?_eq_some_iff.1 g).1
   simp [z]at hl
  ·have K:((ops.toList.zip ts).zipIdx).map (·.1)=ops.toList.zip ts:=by simp
   rw [K,H,E]
   exact he
end
end Go.Dw
