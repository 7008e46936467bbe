
import Derived.Test.YtfmoipelhfkdkaaGreatDoorDwOrd2
import Derived.Tactics
open Option.some renaming injEq->DJ
open List renaming mem_zipIdx_iff_getElem?->FR, pairwise_append->FT

namespace Go.Dw
section
variable {P:Program}{X:Ctx}{mt:Hf}{call:rO}{ops:Array Oper}
theorem yL{S:rP}{loc:ss}{s:St}{a:Act}{w:World}(h:Sim P X S loc s a.tmps w){o:Oper}{b:Bool}(hw:og ops s o=some b):Region.wanted o (yielded ops a.tmps)=b:=by
 unfold og at hw
 unfold Region.wanted
 cases q:o.guard with
 |none=>simp only [q,DJ]at hw;exact hw
 |some g=>
  obtain⟨j,want⟩:=g
  simp only [q]at hw
  simp only [yielded]
  cases r:(ops[j]?).bind (·.dst)with
  |none=>simp [r]at hw
  |some t=>
   simp only [r]at hw
   rcases k:s.rX t with _|rv
   ·simp [k]at hw
   obtain⟨v,u,f⟩:=h.rX t rv k
   simp only [ze,u]
   rw [k]at hw
   rcases rv with p|_|_|_|_|_|_|_|_|_|_|_|_<;>first|(simp at hw;done)|skip
   ·cases p<;>first|(simp at hw;done)|skip
    rename_i c
    have:=f.uX
    subst this
    simp only [DJ]at hw
    rw [<-hw]
    cases c<;>cases want<;>rfl
   ·have:=f.DH
    subst this
    simp only [DJ]at hw
    rw [<-hw]
    rfl
def DstIn(n:Nat)(ops:Array Oper):Prop:=∀(i:Nat)o,ops[i]? =some o->∀d,o.dst=some d->d<n
theorem zG(j:uv P X.base call){o:Oper}(g:∀d,o.dst=some d->d<X.nt){s s':St}{t:Tr}(h:step1 P mt call ops o s=some (s',t)){a:Act}{w:World}(hS:vW P X s a w){K:Act->World->Prop}{Q:Exit->Act->World->Prop}
  (r:∀q w',vW P X s' q w'->K q w'):if Region.wanted o (yielded ops a.tmps)then o.wp P a w K Q∨(o.asks P a w∧LetsOut Q)else K (a.put o.dst undef) w:=by
 have k:=hS
 obtain⟨C,S,loc,f⟩:=hS
 rcases vT h with⟨hw,v,u,he,rfl,_⟩|⟨hw,rfl,_,_⟩
 ·rw [yL f hw,if_pos rfl]
  exact .inl (CK j k g he K Q r)
 ·rw [yL f hw,if_neg zc]
  exact r _ _ ⟨by cases o.dst<;>exact C,S,loc,f.put (a:=a) .undef o.dst g⟩
theorem zx(f:uv P X.base call):∀(l:List Oper){s sF:St}{ts:List Tr}{a:Act}{w:World}{Q:Exit->Act->World->Prop},(∀o∈l,∀d,o.dst=some d->d<X.nt)->tQ P mt call ops l s=some (sF,ts)->vW P X s a w->(∀g w',vW P X sF g w'->Q .normal g w')->
  wpList P ops Q l a w
 | [],s,sF,ts,a,w,Q,_,h,hS,j=>by
  simp only [tQ,DJ,Prod.mk.injEq]at h
  obtain⟨rfl,_⟩:=h
  exact j a w hS
 |o::l,s,sF,ts,a,w,Q,q,h,hS,j=>by
  obtain⟨s1,t,C,h1,r,_⟩:=wE h
  exact zG f (q o zc) h1 hS (fun g w' k=>zx f l (fun x u=>q x (by simp [u])) r k j)
theorem Dr(T:uv P X.base call)(b0:DstIn X.nt ops){Q:Exit->Act->World->Prop}{sF:St}(hQ:∀a' w',vW P X sF a' w'->Q .normal a' w'){xs:List (Oper×Tr)}(hx:xs.map (·.1)=ops.toList)
  (b2:∀(i:Nat)o,ops[i]? =some o->∀e∈o.after,Region.binds .any e=true->e.on<i)
  (W:∀(i j:Nat)x y,j<i->xs[i]? =some y->xs[j]? =some x->((zT ops.toList []).getD i 0).testBit j=true∨zg ops x y=true):
  ∀(n:Nat)(L:List ((Oper×Tr)×Nat))(listed:Array Bool)(s:St)(a:Act)(w:World),L.length=n->L.Pairwise (fun p q=>p.2<q.2)->(∀p∈L,xs[p.2]? =some p.1)->
   listed.size=ops.size->(∀i,i<ops.size->(listed.getD i true=false↔∃p∈L,p.2=i))->
   (∀(i:Nat)o,ops[i]? =some o->listed.getD i false=true->∀e∈o.after,Region.binds .any e=true->listed.getD e.on false=true)->
   tQ P mt call ops ((L.map (·.1)).map (·.1)) s=some (sF,(L.map (·.1)).map (·.2))->vW P X s a w->wpAny P .any ops Q n listed a w:=by
 have J:∀(i:Nat)y,xs[i]? =some y->ops[i]? =some y.1:=by
  intro i y hy
  have:ops.toList[i]? =some y.1:=by rw [<-hx,List.getElem?_map,hy];rfl
  simpa using this
 intro n
 induction n with
 |zero=>
  intro L listed s a w hl r F a9 k g he hS
  have:L=[]:=List.eq_nil_of_length_eq_zero hl
  subst this
  simp only [List.map_nil,tQ,DJ,Prod.mk.injEq]at he
  obtain⟨rfl,_⟩:=he
  refine⟨?_,hQ a w hS⟩
  rw [List.eq_nil_iff_forall_not_mem]
  intro i hi
  obtain⟨h0,o,ho,_⟩:=mem_ready.1 hi
  have D:=(Array.getElem?_eq_some_iff.1 ho).1
  obtain⟨p,hp,_⟩:=(k i D).1 h0
  cases hp
 |succ n ih=>
  intro L listed s a w hl r F a9 k g he hS
  refine⟨fun hr=>?_,fun i hi=>?_⟩
  ·exfalso
   obtain⟨p,L',rfl⟩:∃p L',L=p::L':=by
    cases L with
    |nil=>simp at hl
    |cons p L'=>exact⟨p,L',rfl⟩
   have hp:=F p zc
   have ho:=J _ _ hp
   have D:=(Array.getElem?_eq_some_iff.1 ho).1
   have:p.2∈Region.ready .any ops listed:=by
    refine mem_ready.2 ⟨(k p.2 D).2 ⟨p,zc,rfl⟩,p.1.1,ho,fun e G hb=>?_⟩
    have c4:=b2 _ _ ho e G hb
    cases hle:listed.getD e.on false with
    |true=>rfl
    |false=>
     exfalso
     have h1:e.on<listed.size:=by omega
     have h2:listed.getD e.on true=false:=by
      simp [h1]at hle⊢;exact hle
     obtain⟨q,f,C⟩:=(k e.on za).1 h2
     rcases List.mem_cons.1 f with rfl|f
     ·omega
     ·have:=(List.pairwise_cons.1 r).1 q f
      omega
   rw [hr]at this
   cases this
  ·obtain⟨h0,o,ho,I⟩:=mem_ready.1 hi
   have D:=(Array.getElem?_eq_some_iff.1 ho).1
   obtain⟨p,hp,Y⟩:=(k i D).1 h0
   obtain⟨L1,L2,rfl⟩:=List.append_of_mem hp
   have a5:=F p hp
   have b3:p.1.1=o:=by
    have:=J _ _ a5
    rw [Y,ho]at this
    cases this
    rfl
   obtain⟨⟨O,pt⟩,pi⟩:=p
   simp only at Y b3 a5
   subst Y;subst b3
   rw [FT]at r
   obtain⟨c1,c2,a6⟩:=r
   have N:=List.pairwise_cons.1 c2
   have H:∀x∈L1.map (·.1),zg ops x (O,pt)=true:=by
    intro x c3
    obtain⟨q,f,rfl⟩:=List.mem_map.1 c3
    have K:=a6 q f ((O,pt),pi) zc
    simp only at K
    have c0:=F q (List.mem_append.2 (.inl f))
    rcases W pi q.2 q.1 (O,pt) K a5 c0 with h1|h1
    ·exfalso
     have b6:q.2<ops.size:=by omega
     have:=Cu g a9 pi pi O (Nat.le_refl _) ho I q.2 h1
     have E:=(k q.2 b6).2 ⟨q,List.mem_append.2 (.inl f),rfl⟩
     have h2:q.2<listed.size:=by omega
     simp [h2]at this E
     rw [this]at E
     cases E
    ·exact h1
   simp only [List.map_append,List.map_cons]at he
   have b5:tQ P mt call ops ((L1.map (·.1)++(O,pt)::L2.map (·.1)).map (·.1)) s=some (sF,(L1.map (·.1)++(O,pt)::L2.map (·.1)).map (·.2)):=by
    simpa using he
   obtain⟨s1,h1,h2⟩:=zw (L1.map (·.1)) b5 H
   unfold wpOp
   rw [ho]
   refine zG T (b0 pi O ho) h1 hS fun a' w' b4=>?_
   refine ih (L1++L2) (listed.setIfInBounds pi true) s1 a' w' (by simp at hl⊢;omega) ?_ ?_ (by simp [a9]) ?_ ?_ (by simpa using h2) b4
   ·rw [FT]
    exact⟨c1,N.2,fun x hx y hy=>a6 x hx y (by simp [hy])⟩
   ·intro q f
    refine F q ?_
    rcases List.mem_append.1 f with f|f
    ·exact List.mem_append.2 (.inl f)
    ·exact List.mem_append.2 (.inr (by simp [f]))
   ·intro j hj
    by_cases u:pi=j
    ·subst u
     have:pi<listed.size:=by omega
     constructor
     ·intro hf;simp [this]at hf
     ·rintro⟨q,f,C⟩
      exfalso
      rcases List.mem_append.1 f with f|f
      ·have:=a6 q f ((O,pt),pi) zc
       simp only at this
       omega
      ·have:=N.1 q f
       simp only at this
       omega
    ·rw [getD_set_ne true u,k j hj]
     constructor
     ·rintro⟨q,f,C⟩
      refine⟨q,?_,C⟩
      rcases List.mem_append.1 f with f|f
      ·exact List.mem_append.2 (.inl f)
      ·rcases List.mem_cons.1 f with rfl|f
       ·exact(u C).elim
       ·exact List.mem_append.2 (.inr f)
     ·rintro⟨q,f,C⟩
      refine⟨q,?_,C⟩
      rcases List.mem_append.1 f with f|f
      ·exact List.mem_append.2 (.inl f)
      ·exact List.mem_append.2 (.inr (by simp [f]))
   ·intro j o' U b1 e G hb
    by_cases u:pi=j
    ·subst u
     rw [ho]at U
     cases U
     exact getD_set_true (I e G hb)
    ·rw [getD_set_ne false u]at b1
     exact getD_set_true (g j o' U b1 e G hb)
theorem yy:∀(l:List Oper){s sF:St}{ts:List Tr},tQ P mt call ops l s=some (sF,ts)->ts.length=l.length
 | [],s,sF,ts,h=>by simp only [tQ,DJ,Prod.mk.injEq]at h;rw [<-h.2];rfl
 |o::l,s,sF,ts,h=>by
  obtain⟨s1,t,g,h1,f,rfl⟩:=wE h
  simp [yy l f]
theorem BA(f:uv P X.base call)(hm:P.follows .mixedOrders=true)(g:DstIn X.nt ops){s s':St}{ts:List Tr}{C:Bool}(he:tQ P mt call ops ops.toList s=some (s',ts))(ho:C=true->u9 ops ts=true){a:Act}{w:World}{id:Nat}
  (hS:vW P X s a w) {Q:Exit->Act->World->Prop} (U:∀T w',vW P X s' T w'->Q .normal T w'):(Code.region id ops C).wp P Q a w:=by
 cases C with
 |false=>
  refine wp_region ?_
  have hlen:ops.size=ops.toList.length:=by simp
  have:=wpOps_eq_wpList (P:=P) (ops:=ops) (Q:=Q) ops.toList 0 (fun j=>zc)
  rw [List.range_eq_range',hlen,this]
  refine zx f ops.toList (fun o hm d E=>?_) he hS U
  obtain⟨i,hi,G⟩:=List.getElem_of_mem hm
  have H:ops.toList[i]? =some o:=by rw [zf hi,G]
  exact g i o (by simpa using H) d E
 |true=>
  have k:=ho rfl
  simp only [u9,Bool.and_eq_true]at k
  obtain⟨⟨_,h1⟩,Y⟩:=k
  have hlen:=yy ops.toList he
  have W:(ops.toList.zip ts).map (·.1)=ops.toList:=List.map_fst_zip za
  have O:(ops.toList.zip ts).map (·.2)=ts:=List.map_snd_zip za
  obtain⟨E,S,loc,u⟩:=hS
  have D:vW P X s a { w with drawn:=w.drawn+1 }:=⟨E,S,loc,u.stepW (Step.drew w)⟩
  refine wp_region_any hm ?_
  have r:ts.length=ops.size:=by rw [hlen];simp
  have L:ops.size=(ops.toList.zip ts).length:=by rw [List.length_zip,r,Array.length_toList,Nat.min_self]
  refine Dr (mt:=mt) f g U W ?_ ?_ ops.size ((ops.toList.zip ts).zipIdx) (Array.replicate ops.size false) s a _ (by rw [List.length_zipIdx];exact L.symm) ?_ ?_ zc ?_ ?_ ?_ D
  ·intro i o hi e F hb
   have := List.all_eq_true.1 h1 (o, i) (by
    rw [FR]
    simpa using hi)
   have:=List.all_eq_true.1 this e (by simpa using F)
   simpa [hb]using this
  ·intro i j x y I hy N
   have:=List.all_eq_true.1 Y (y,i) (by rw [FR];exact hy)
   have:=List.all_eq_true.1 this (x,j) (by rw [FR];exact N)
   simp only [Bool.or_eq_true,Bool.not_eq_true',decide_eq_false_iff_not]at this
   rcases this with(this|this)|this
   ·exact(this I).elim
   ·exact .inl this
   ·exact .inr this
  ·rw [List.pairwise_iff_getElem]
   intro p q hp hq K
   simp [K]
  ·intro p hp
   rw [FR]at hp
   exact hp
  ·intro i hi
   constructor
   ·intro _
    refine⟨((ops.toList.zip ts)[i]'za,i),?_,rfl⟩
    rw [FR]
    exact zf _
   ·intro _;simp [hi]
  ·intro i o hi hl
   have J:=(Array.getElem?_eq_some_iff.1 hi).1
   simp [J]at hl
  ·have hz:((ops.toList.zip ts).zipIdx).map (·.1)=ops.toList.zip ts:=by simp
   rw [hz,W,O]
   exact he
end
end Go.Dw
