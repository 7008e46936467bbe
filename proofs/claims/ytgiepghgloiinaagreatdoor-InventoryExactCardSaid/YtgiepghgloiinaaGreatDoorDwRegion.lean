
import Derived.Test.YtgiepghgloiinaaGreatDoorDwOrd2
import Derived.Tactics
open Option.some renaming injEq->AD
open List renaming mem_zipIdx_iff_getElem?->Bw, pairwise_append->Bx

namespace Go.Dw
section
variable {P:Program}{X:Ctx}{mt:Hf}{call:ko}{ops:Array Oper}
theorem qJ{S:kd}{loc:kH}{s:St}{a:Act}{w:World}(h:Sim P X S loc s a.tmps w){o:Oper}{b:Bool}(hw:j9 ops s o=some b):Region.wanted o (yielded ops a.tmps)=b:=by
 unfold j9 at hw
 unfold Region.wanted
 cases i:o.guard with
 |none=>simp only [i,AD]at hw;exact hw
 |some g=>
  obtain⟨j,want⟩:=g
  simp only [i]at hw
  simp only [yielded]
  cases ht:(ops[j]?).bind (·.dst)with
  |none=>simp [ht]at hw
  |some t=>
   simp only [ht]at hw
   rcases f:s.kr t with _|rv
   ·simp [f]at hw
   obtain⟨v,k,e⟩:=h.kr t rv f
   simp only [zb,k]
   rw [f]at hw
   rcases rv with p|_|_|_|_|_|_|_|_|_|_|_|_<;>first|(simp at hw;done)|skip
   ·cases p<;>first|(simp at hw;done)|skip
    rename_i c
    have:=e.mZ
    subst this
    simp only [AD]at hw
    rw [<-hw]
    cases c<;>cases want<;>rfl
   ·have:=e.xH
    subst this
    simp only [AD]at hw
    rw [<-hw]
    rfl
def DstIn(n:Nat)(ops:Array Oper):Prop:=∀(i:Nat)o,ops[i]? =some o->∀d,o.dst=some d->d<n
theorem rV(e:mj P X.base call){o:Oper}(c:∀d,o.dst=some d->d<X.nt){s s':St}{t:Tr}(h:mc P mt call ops o s=some (s',t)){a:Act}{w:World}(hS:nW P X s a w){K:Act->World->Prop}{Q:Exit->Act->World->Prop}
  (i:∀g w',nW P X s' g w'->K g w'):if Region.wanted o (yielded ops a.tmps)then o.wp P a w K Q∨(o.asks P a w∧LetsOut Q)else K (a.put o.dst undef) w:=by
 have f:=hS
 obtain⟨hd,S,loc,b⟩:=hS
 rcases nS h with⟨hw,v,u,he,rfl,_⟩|⟨hw,rfl,_,_⟩
 ·rw [qJ b hw,if_pos rfl]
  exact .inl (wO e f c he K Q i)
 ·rw [qJ b hw,if_neg sm]
  exact i _ _ ⟨by cases o.dst<;>exact hd,S,loc,b.put (a:=a) .undef o.dst c⟩
theorem rJ(b:mj P X.base call):∀(l:List Oper){s sF:St}{ts:List Tr}{a:Act}{w:World}{Q:Exit->Act->World->Prop},(∀o∈l,∀d,o.dst=some d->d<X.nt)->lM P mt call ops l s=some (sF,ts)->nW P X s a w->(∀c w',nW P X sF c w'->Q .normal c w')->
  wpList P ops Q l a w
 | [],s,sF,ts,a,w,Q,_,h,hS,e=>by
  simp only [lM,AD,Prod.mk.injEq]at h
  obtain⟨rfl,_⟩:=h
  exact e a w hS
 |o::l,s,sF,ts,a,w,Q,hd,h,hS,e=>by
  obtain⟨s1,t,j,h1,g,_⟩:=oo h
  exact rV b (hd o sm) h1 hS (fun c w' f=>rJ b l (fun x i=>hd x (by simp [i])) g f e)
theorem xw(F:mj P X.base call)(W:DstIn X.nt ops){Q:Exit->Act->World->Prop}{sF:St}(hQ:∀a' w',nW P X sF a' w'->Q .normal a' w'){xs:List (Oper×Tr)}(hx:xs.map (·.1)=ops.toList)
  (a4:∀(i:Nat)o,ops[i]? =some o->∀e∈o.after,Region.binds .any e=true->e.on<i)
  (H:∀(i j:Nat)x y,j<i->xs[i]? =some y->xs[j]? =some x->((sh ops.toList []).getD i 0).testBit j=true∨qZ ops x y=true):
  ∀(n:Nat)(L:List ((Oper×Tr)×Nat))(listed:Array Bool)(s:St)(a:Act)(w:World),L.length=n->L.Pairwise (fun p q=>p.2<q.2)->(∀p∈L,xs[p.2]? =some p.1)->
   listed.size=ops.size->(∀i,i<ops.size->(listed.getD i true=false↔∃p∈L,p.2=i))->
   (∀(i:Nat)o,ops[i]? =some o->listed.getD i false=true->∀e∈o.after,Region.binds .any e=true->listed.getD e.on false=true)->
   lM P mt call ops ((L.map (·.1)).map (·.1)) s=some (sF,(L.map (·.1)).map (·.2))->nW P X s a w->wpAny P .any ops Q n listed a w:=by
 have B:∀(i:Nat)y,xs[i]? =some y->ops[i]? =some y.1:=by
  intro i y hy
  have:ops.toList[i]? =some y.1:=by rw [<-hx,List.getElem?_map,hy];rfl
  simpa using this
 intro n
 induction n with
 |zero=>
  intro L listed s a w hl g t hsz f c he hS
  have:L=[]:=List.eq_nil_of_length_eq_zero hl
  subst this
  simp only [List.map_nil,lM,AD,Prod.mk.injEq]at he
  obtain⟨rfl,_⟩:=he
  refine⟨?_,hQ a w hS⟩
  rw [List.eq_nil_iff_forall_not_mem]
  intro i hi
  obtain⟨h0,o,ho,_⟩:=mem_ready.1 hi
  have m:=(Array.getElem?_eq_some_iff.1 ho).1
  obtain⟨p,N,_⟩:=(f i m).1 h0
  cases N
 |succ n ih=>
  intro L listed s a w hl g t hsz f c he hS
  refine⟨fun hr=>?_,fun i hi=>?_⟩
  ·exfalso
   obtain⟨p,L',rfl⟩:∃p L',L=p::L':=by
    cases L with
    |nil=>simp at hl
    |cons p L'=>exact⟨p,L',rfl⟩
   have N:=t p sm
   have ho:=B _ _ N
   have m:=(Array.getElem?_eq_some_iff.1 ho).1
   have:p.2∈Region.ready .any ops listed:=by
    refine mem_ready.2 ⟨(f p.2 m).2 ⟨p,sm,rfl⟩,p.1.1,ho,fun e u hb=>?_⟩
    have c0:=a4 _ _ ho e u hb
    cases hle:listed.getD e.on false with
    |true=>rfl
    |false=>
     exfalso
     have h1:e.on<listed.size:=by omega
     have U:listed.getD e.on true=false:=by
      simp [h1]at hle⊢;exact hle
     obtain⟨q,b,l⟩:=(f e.on om).1 U
     rcases List.mem_cons.1 b with rfl|b
     ·omega
     ·have:=(List.pairwise_cons.1 g).1 q b
      omega
   rw [hr]at this
   cases this
  ·obtain⟨h0,o,ho,z⟩:=mem_ready.1 hi
   have m:=(Array.getElem?_eq_some_iff.1 ho).1
   obtain⟨p,N,I⟩:=(f i m).1 h0
   obtain⟨T,L2,rfl⟩:=List.append_of_mem N
   have J:=t p N
   have a5:p.1.1=o:=by
    have:=B _ _ J
    rw [I,ho]at this
    cases this
    rfl
   obtain⟨⟨E,O⟩,pi⟩:=p
   simp only at I a5 J
   subst I;subst a5
   rw [Bx]at g
   obtain⟨b3,b4,K⟩:=g
   have D:=List.pairwise_cons.1 b4
   have v:∀x∈T.map (·.1),qZ ops x (E,O)=true:=by
    intro x b5
    obtain⟨q,b,rfl⟩:=List.mem_map.1 b5
    have C:=K q b ((E,O),pi) sm
    simp only at C
    have b2:=t q (List.mem_append.2 (.inl b))
    rcases H pi q.2 q.1 (E,O) C J b2 with h1|h1
    ·exfalso
     have b1:q.2<ops.size:=by omega
     have:=wA c hsz pi pi E (Nat.le_refl _) ho z q.2 h1
     have r:=(f q.2 b1).2 ⟨q,List.mem_append.2 (.inl b),rfl⟩
     have U:q.2<listed.size:=by omega
     simp [U]at this r
     rw [this]at r
     cases r
    ·exact h1
   simp only [List.map_append,List.map_cons]at he
   have b0:lM P mt call ops ((T.map (·.1)++(E,O)::L2.map (·.1)).map (·.1)) s=some (sF,(T.map (·.1)++(E,O)::L2.map (·.1)).map (·.2)):=by
    simpa using he
   obtain⟨s1,h1,U⟩:=rH (T.map (·.1)) b0 v
   unfold wpOp
   rw [ho]
   refine rV F (W pi E ho) h1 hS fun a' w' a9=>?_
   refine ih (T++L2) (listed.setIfInBounds pi true) s1 a' w' (by simp at hl⊢;omega) ?_ ?_ (by simp [hsz]) ?_ ?_ (by simpa using U) a9
   ·rw [Bx]
    exact⟨b3,D.2,fun x hx y hy=>K x hx y (by simp [hy])⟩
   ·intro q b
    refine t q ?_
    rcases List.mem_append.1 b with b|b
    ·exact List.mem_append.2 (.inl b)
    ·exact List.mem_append.2 (.inr (by simp [b]))
   ·intro j hj
    by_cases k:pi=j
    ·subst k
     have:pi<listed.size:=by omega
     constructor
     ·intro hf;simp [this]at hf
     ·rintro⟨q,b,l⟩
      exfalso
      rcases List.mem_append.1 b with b|b
      ·have:=K q b ((E,O),pi) sm
       simp only at this
       omega
      ·have:=D.1 q b
       simp only at this
       omega
    ·rw [getD_set_ne true k,f j hj]
     constructor
     ·rintro⟨q,b,l⟩
      refine⟨q,?_,l⟩
      rcases List.mem_append.1 b with b|b
      ·exact List.mem_append.2 (.inl b)
      ·rcases List.mem_cons.1 b with rfl|b
       ·exact(k l).elim
       ·exact List.mem_append.2 (.inr b)
     ·rintro⟨q,b,l⟩
      refine⟨q,?_,l⟩
      rcases List.mem_append.1 b with b|b
      ·exact List.mem_append.2 (.inl b)
      ·exact List.mem_append.2 (.inr (by simp [b]))
   ·intro j o' G Y e u hb
    by_cases k:pi=j
    ·subst k
     rw [ho]at G
     cases G
     exact getD_set_true (z e u hb)
    ·rw [getD_set_ne false k]at Y
     exact getD_set_true (c j o' G Y e u hb)
theorem qm:∀(l:List Oper){s sF:St}{ts:List Tr},lM P mt call ops l s=some (sF,ts)->ts.length=l.length
 | [],s,sF,ts,h=>by simp only [lM,AD,Prod.mk.injEq]at h;rw [<-h.2];rfl
 |o::l,s,sF,ts,h=>by
  obtain⟨s1,t,b,h1,a,rfl⟩:=oo h
  simp [qm l a]
theorem uV(b:mj P X.base call)(hm:P.follows .mixedOrders=true)(c:DstIn X.nt ops){s s':St}{ts:List Tr}{l:Bool}(he:lM P mt call ops ops.toList s=some (s',ts))(ho:l=true->qw ops ts=true){a:Act}{w:World}{id:Nat}
  (hS:nW P X s a w) {Q:Exit->Act->World->Prop} (F:∀E w',nW P X s' E w'->Q .normal E w'):(Code.region id ops l).wp P Q a w:=by
 cases l with
 |false=>
  refine wp_region ?_
  have hlen:ops.size=ops.toList.length:=by simp
  have:=wpOps_eq_wpList (P:=P) (ops:=ops) (Q:=Q) ops.toList 0 (fun j=>sm)
  rw [List.range_eq_range',hlen,this]
  refine rJ b ops.toList (fun o hm d hd=>?_) he hS F
  obtain⟨i,hi,r⟩:=List.getElem_of_mem hm
  have t:ops.toList[i]? =some o:=by rw [zc hi,r]
  exact c i o (by simpa using t) d hd
 |true=>
  have f:=ho rfl
  simp only [qw,Bool.and_eq_true]at f
  obtain⟨⟨_,h1⟩,H⟩:=f
  have hlen:=qm ops.toList he
  have G:(ops.toList.zip ts).map (·.1)=ops.toList:=List.map_fst_zip om
  have D:(ops.toList.zip ts).map (·.2)=ts:=List.map_snd_zip om
  obtain⟨hd,S,loc,k⟩:=hS
  have m:nW P X s a { w with drawn:=w.drawn+1 }:=⟨hd,S,loc,k.stepW (Step.drew w)⟩
  refine wp_region_any hm ?_
  have g:ts.length=ops.size:=by rw [hlen];simp
  have hsz:ops.size=(ops.toList.zip ts).length:=by rw [List.length_zip,g,Array.length_toList,Nat.min_self]
  refine xw (mt:=mt) b c F G ?_ ?_ ops.size ((ops.toList.zip ts).zipIdx) (Array.replicate ops.size false) s a _ (by rw [List.length_zipIdx];exact hsz.symm) ?_ ?_ sm ?_ ?_ ?_ m
  ·intro i o hi e n hb
   have := List.all_eq_true.1 h1 (o, i) (by
    rw [Bw]
    simpa using hi)
   have:=List.all_eq_true.1 this e (by simpa using n)
   simpa [hb]using this
  ·intro i j x y u I C
   have:=List.all_eq_true.1 H (y,i) (by rw [Bw];exact I)
   have:=List.all_eq_true.1 this (x,j) (by rw [Bw];exact C)
   simp only [Bool.or_eq_true,Bool.not_eq_true',decide_eq_false_iff_not]at this
   rcases this with(this|this)|this
   ·exact(this u).elim
   ·exact .inl this
   ·exact .inr this
  ·rw [List.pairwise_iff_getElem]
   intro p q z K B
   simp [B]
  ·intro p z
   rw [Bw]at z
   exact z
  ·intro i hi
   constructor
   ·intro _
    refine⟨((ops.toList.zip ts)[i]'om,i),?_,rfl⟩
    rw [Bw]
    exact zc _
   ·intro _;simp [hi]
  ·intro i o hi hl
   have v:=(Array.getElem?_eq_some_iff.1 hi).1
   simp [v]at hl
  ·have J:((ops.toList.zip ts).zipIdx).map (·.1)=ops.toList.zip ts:=by simp
   rw [J,G,D]
   exact he
end
end Go.Dw
