
import Derived.Test.YtomapcboiinfdaaGreatDwOrd2
import Derived.Tactics
open Option.some renaming injEq->AD
open List renaming mem_zipIdx_iff_getElem?->Bg, pairwise_append->Bh

namespace Go.Dw
section
variable {P:Program}{X:Ctx}{mt:Hf}{call:ng}{ops:Array Oper}
theorem ua{S:mW}{loc:nB}{s:St}{a:Act}{w:World}(h:Sim P X S loc s a.tmps w){o:Oper}{b:Bool}(hw:mR ops s o=some b):Region.wanted o (yielded ops a.tmps)=b:=by
  unfold mR at hw
  unfold Region.wanted
  cases i:o.guard with
  |none=>simp only [i,AD]at hw;exact hw
  |some g=>
    obtain⟨j,want⟩:=g
    simp only [i]at hw
    simp only [yielded]
    cases k:(ops[j]?).bind (·.dst)with
    |none=>simp [k]at hw
    |some t=>
      simp only [k]at hw
      rcases f:s.nd t with _|rv
      · simp [f]at hw
      obtain⟨v,l,e⟩:=h.nd t rv f
      simp only [zb,l]
      rw [f]at hw
      rcases rv with p|_|_|_|_|_|_|_|_|_|_|_|_<;>first|(simp at hw;done)|skip
      · cases p<;>first|(simp at hw;done)|skip
        rename_i c
        have:=e.pA
        subst this
        simp only [AD]at hw
        rw [<-hw]
        cases c<;>cases want<;>rfl
      · have:=e.zD
        subst this
        simp only [AD]at hw
        rw [<-hw]
        rfl
def DstIn(n:Nat)(ops:Array Oper):Prop:=∀(i:Nat)o,ops[i]? =some o->∀d,o.dst=some d->d<n
theorem uP(e:oO P X.base call){o:Oper}(c:∀d,o.dst=some d->d<X.nt){s s':St}{t:Tr}(h:oH P mt call ops o s=some (s',t)){a:Act}{w:World}(hS:qt P X s a w){K:Act->World->Prop}{Q:Exit->Act->World->Prop}
    (i:∀g w',qt P X s' g w'->K g w'):if Region.wanted o (yielded ops a.tmps)then o.wp P a w K Q∨(o.asks P a w∧LetsOut Q)else K (a.put o.dst undef) w:=by
  have f:=hS
  obtain⟨j,S,loc,b⟩:=hS
  rcases qo h with⟨hw,v,u,he,rfl,_⟩|⟨hw,rfl,_,_⟩
  · rw [ua b hw,if_pos rfl]
    exact .inl (yu e f c he K Q i)
  · rw [ua b hw,if_neg sm]
    exact i _ _ ⟨by cases o.dst<;>exact j,S,loc,b.put (a:=a) .undef o.dst c⟩
theorem uK(b:oO P X.base call):∀(l:List Oper){s sF:St}{ts:List Tr}{a:Act}{w:World}{Q:Exit->Act->World->Prop},(∀o∈l,∀d,o.dst=some d->d<X.nt)->oo P mt call ops l s=some (sF,ts)->qt P X s a w->(∀c w',qt P X sF c w'->Q .normal c w')->
    wpList P ops Q l a w
  | [],s,sF,ts,a,w,Q,_,h,hS,e=>by
    simp only [oo,AD,Prod.mk.injEq]at h
    obtain⟨rfl,_⟩:=h
    exact e a w hS
  |o::l,s,sF,ts,a,w,Q,g,h,hS,e=>by
    obtain⟨s1,t,k,h1,i,_⟩:=rb h
    exact uP b (g o sm) h1 hS (fun c w' f=>uK b l (fun x j=>g x (by simp [j])) i f e)
theorem zm(H:oO P X.base call)(a5:DstIn X.nt ops){Q:Exit->Act->World->Prop}{sF:St}(hQ:∀a' w',qt P X sF a' w'->Q .normal a' w'){xs:List (Oper×Tr)}(hx:xs.map (·.1)=ops.toList)
    (a7:∀(i:Nat)o,ops[i]? =some o->∀e∈o.after,Region.binds .any e=true->e.on<i)
    (J:∀(i j:Nat)x y,j<i->xs[i]? =some y->xs[j]? =some x->((uZ ops.toList []).getD i 0).testBit j=true∨uo ops x y=true):
    ∀(n:Nat)(L:List ((Oper×Tr)×Nat))(b:Array Bool)(s:St)(a:Act)(w:World),L.length=n->L.Pairwise (fun p q=>p.2<q.2)->(∀p∈L,xs[p.2]? =some p.1)->
      b.size=ops.size->(∀i,i<ops.size->(b.getD i true=false↔∃p∈L,p.2=i))->
      (∀(i:Nat)o,ops[i]? =some o->b.getD i false=true->∀e∈o.after,Region.binds .any e=true->b.getD e.on false=true)->
      oo P mt call ops ((L.map (·.1)).map (·.1)) s=some (sF,(L.map (·.1)).map (·.2))->qt P X s a w->wpAny P .any ops Q n b a w:=by
  have D:∀(i:Nat)y,xs[i]? =some y->ops[i]? =some y.1:=by
    intro i y hy
    have:ops.toList[i]? =some y.1:=by rw [<-hx,List.getElem?_map,hy];rfl
    simpa using this
  intro n
  induction n with
  |zero=>
    intro L b s a w hl k v T g f he hS
    have:L=[]:=List.eq_nil_of_length_eq_zero hl
    subst this
    simp only [List.map_nil,oo,AD,Prod.mk.injEq]at he
    obtain⟨rfl,_⟩:=he
    refine⟨?_,hQ a w hS⟩
    rw [List.eq_nil_iff_forall_not_mem]
    intro i hi
    obtain⟨h0,o,r,_⟩:=mem_ready.1 hi
    have t:=(Array.getElem?_eq_some_iff.1 r).1
    obtain⟨p,W,_⟩:=(g i t).1 h0
    cases W
  |succ n ih=>
    intro L b s a w hl k v T g f he hS
    refine⟨fun hr=>?_,fun i hi=>?_⟩
    · exfalso
      obtain⟨p,L',rfl⟩:∃p L',L=p::L':=by
        cases L with
        |nil=>simp at hl
        |cons p L'=>exact⟨p,L',rfl⟩
      have W:=v p sm
      have r:=D _ _ W
      have t:=(Array.getElem?_eq_some_iff.1 r).1
      have:p.2∈Region.ready .any ops b:=by
        refine mem_ready.2 ⟨(g p.2 t).2 ⟨p,sm,rfl⟩,p.1.1,r,fun e z hb=>?_⟩
        have b6:=a7 _ _ r e z hb
        cases hle:b.getD e.on false with
        |true=>rfl
        |false=>
          exfalso
          have h1:e.on<b.size:=by omega
          have h2:b.getD e.on true=false:=by
            simp [h1]at hle⊢;exact hle
          obtain⟨q,c,m⟩:=(g e.on om).1 h2
          rcases List.mem_cons.1 c with rfl|c
          · omega
          · have:=(List.pairwise_cons.1 k).1 q c
            omega
      rw [hr]at this
      cases this
    · obtain⟨h0,o,r,C⟩:=mem_ready.1 hi
      have t:=(Array.getElem?_eq_some_iff.1 r).1
      obtain⟨p,W,K⟩:=(g i t).1 h0
      obtain⟨L1,L2,rfl⟩:=List.append_of_mem W
      have N:=v p W
      have a8:p.1.1=o:=by
        have:=D _ _ N
        rw [K,r]at this
        cases this
        rfl
      obtain⟨⟨G,Y⟩,pi⟩:=p
      simp only at K a8 N
      subst K;subst a8
      rw [Bh]at k
      obtain⟨b3,b4,O⟩:=k
      have F:=List.pairwise_cons.1 b4
      have B:∀x∈L1.map (·.1),uo ops x (G,Y)=true:=by
        intro x b5
        obtain⟨q,c,rfl⟩:=List.mem_map.1 b5
        have E:=O q c ((G,Y),pi) sm
        simp only at E
        have b2:=v q (List.mem_append.2 (.inl c))
        rcases J pi q.2 q.1 (G,Y) E N b2 with h1|h1
        · exfalso
          have b1:q.2<ops.size:=by omega
          have:=ye f T pi pi G (Nat.le_refl _) r C q.2 h1
          have u:=(g q.2 b1).2 ⟨q,List.mem_append.2 (.inl c),rfl⟩
          have h2:q.2<b.size:=by omega
          simp [h2]at this u
          rw [this]at u
          cases u
        · exact h1
      simp only [List.map_append,List.map_cons]at he
      have b0:oo P mt call ops ((L1.map (·.1)++(G,Y)::L2.map (·.1)).map (·.1)) s=some (sF,(L1.map (·.1)++(G,Y)::L2.map (·.1)).map (·.2)):=by
        simpa using he
      obtain⟨s1,h1,h2⟩:=uJ (L1.map (·.1)) b0 B
      unfold wpOp
      rw [r]
      refine uP H (a5 pi G r) h1 hS fun a' w' a9=>?_
      refine ih (L1++L2) (b.setIfInBounds pi true) s1 a' w' (by simp at hl⊢;omega) ?_ ?_ (by simp [T]) ?_ ?_ (by simpa using h2) a9
      · rw [Bh]
        exact⟨b3,F.2,fun x hx y hy=>O x hx y (by simp [hy])⟩
      · intro q c
        refine v q ?_
        rcases List.mem_append.1 c with c|c
        · exact List.mem_append.2 (.inl c)
        · exact List.mem_append.2 (.inr (by simp [c]))
      · intro j hj
        by_cases l:pi=j
        · subst l
          have:pi<b.size:=by omega
          constructor
          · intro hf;simp [this]at hf
          · rintro⟨q,c,m⟩
            exfalso
            rcases List.mem_append.1 c with c|c
            · have:=O q c ((G,Y),pi) sm
              simp only at this
              omega
            · have:=F.1 q c
              simp only at this
              omega
        · rw [getD_set_ne true l,g j hj]
          constructor
          · rintro⟨q,c,m⟩
            refine⟨q,?_,m⟩
            rcases List.mem_append.1 c with c|c
            · exact List.mem_append.2 (.inl c)
            · rcases List.mem_cons.1 c with rfl|c
              · exact(l m).elim
              · exact List.mem_append.2 (.inr c)
          · rintro⟨q,c,m⟩
            refine⟨q,?_,m⟩
            rcases List.mem_append.1 c with c|c
            · exact List.mem_append.2 (.inl c)
            · exact List.mem_append.2 (.inr (by simp [c]))
      · intro j o' I a6 e z hb
        by_cases l:pi=j
        · subst l
          rw [r]at I
          cases I
          exact getD_set_true (C e z hb)
        · rw [getD_set_ne false l]at a6
          exact getD_set_true (f j o' I a6 e z hb)
theorem tP:∀(l:List Oper){s sF:St}{ts:List Tr},oo P mt call ops l s=some (sF,ts)->ts.length=l.length
  | [],s,sF,ts,h=>by simp only [oo,AD,Prod.mk.injEq]at h;rw [<-h.2];rfl
  |o::l,s,sF,ts,h=>by
    obtain⟨s1,t,b,h1,a,rfl⟩:=rb h
    simp [tP l a]
theorem xa(b:oO P X.base call)(hm:P.follows .mixedOrders=true)(c:DstIn X.nt ops){s s':St}{ts:List Tr}{l:Bool}(he:oo P mt call ops ops.toList s=some (s',ts))(L:l=true->tU ops ts=true){a:Act}{w:World}{id:Nat}
    (hS:qt P X s a w) {Q:Exit->Act->World->Prop} (G:∀F w',qt P X s' F w'->Q .normal F w'):(Code.region id ops l).wp P Q a w:=by
  cases l with
  |false=>
    refine wp_region ?_
    have hlen:ops.size=ops.toList.length:=by simp
    have:=wpOps_eq_wpList (P:=P) (ops:=ops) (Q:=Q) ops.toList 0 (fun j=>sm)
    rw [List.range_eq_range',hlen,this]
    refine uK b ops.toList (fun o hm d n=>?_) he hS G
    obtain⟨i,hi,t⟩:=List.getElem_of_mem hm
    exact c i o (by
                       have:ops.toList[i]? =some o:=by rw [zc hi,t]
                       simpa using this) d n
  |true=>
    have f:=L rfl
    simp only [tU,Bool.and_eq_true]at f
    obtain⟨⟨_,h1⟩,I⟩:=f
    have hlen:=tP ops.toList he
    have H:(ops.toList.zip ts).map (·.1)=ops.toList:=List.map_fst_zip om
    have E:(ops.toList.zip ts).map (·.2)=ts:=List.map_snd_zip om
    obtain⟨n,S,loc,k⟩:=hS
    have m:qt P X s a { w with drawn:=w.drawn+1 }:=⟨n,S,loc,k.stepW (Step.drew w)⟩
    refine wp_region_any hm ?_
    have g:ts.length=ops.size:=by rw [hlen];simp
    have C:ops.size=(ops.toList.zip ts).length:=by rw [List.length_zip,g,Array.length_toList,Nat.min_self]
    refine zm (mt:=mt) b c G H ?_ ?_ ops.size ((ops.toList.zip ts).zipIdx) (Array.replicate ops.size false) s a _ (by rw [List.length_zipIdx];exact C.symm) ?_ ?_ sm ?_ ?_ ?_ m
    · intro i o hi e r J
      have := List.all_eq_true.1 h1 (o, i) (by
        rw [Bg]
        simpa using hi)
      have:=List.all_eq_true.1 this e (by simpa using r)
      simpa [J]using this
    · intro i j x y u N D
      have:=List.all_eq_true.1 I (y,i) (by rw [Bg];exact N)
      have:=List.all_eq_true.1 this (x,j) (by rw [Bg];exact D)
      simp only [Bool.or_eq_true,Bool.not_eq_true',decide_eq_false_iff_not]at this
      rcases this with(this|this)|this
      · exact(this u).elim
      · exact .inl this
      · exact .inr this
    · rw [List.pairwise_iff_getElem]
      intro p q z T B
      simp [B]
    · intro p z
      rw [Bg]at z
      exact z
    · intro i hi
      constructor
      · intro _
        refine⟨((ops.toList.zip ts)[i]'om,i),?_,rfl⟩
        rw [Bg]
        exact zc _
      · intro _;simp [hi]
    · intro i o hi K
      have v:=(Array.getElem?_eq_some_iff.1 hi).1
      simp [v]at K
    · have O:((ops.toList.zip ts).zipIdx).map (·.1)=ops.toList.zip ts:=by simp
      rw [O,H,E]
      exact he
end
end Go.Dw
