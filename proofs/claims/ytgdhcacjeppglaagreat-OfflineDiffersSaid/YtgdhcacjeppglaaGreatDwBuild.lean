
import Derived.Test.YtgdhcacjeppglaaGreatDwStore
import Derived.Laws.Tables
open Array renaming mem_of_getElem?->Ae
open Go.Result renaming andThen_ok->Af

namespace Go.Dw
section
variable {P:Program}{X:Ctx}{S:cp}{loc:cJ}{s:St}{tm:Array Value}{w:World}
theorem nr(l:List Value):∀(k off:Nat)(cs:Array Value),off+k+l.length<=cs.size->
  ((l.zipIdx k).foldl (fun(cs:Array Value)(x:Value×Nat)=>cs.setIfInBounds (off+x.2) x.1) cs).size=cs.size∧
  ∀i,((l.zipIdx k).foldl (fun(cs:Array Value)(x:Value×Nat)=>cs.setIfInBounds (off+x.2) x.1) cs)[i]? =if off+k<=i∧i<off+k+l.length then l[i-(off+k)]? else cs[i]? :=by
 induction l with
 |nil=>intro k off cs _;simp only [List.zipIdx_nil,List.foldl_nil,List.length_nil];exact⟨trivial,fun i=>by rw [if_neg om]⟩
 |cons v r c=>
  intro k off cs hle
  simp only [List.length_cons]at hle
  simp only [List.zipIdx_cons,List.foldl_cons]
  obtain⟨h1,a⟩:=c (k+1) off (cs.setIfInBounds (off+k) v) so
  refine⟨by rw [h1];simp,fun i=>?_⟩
  rw [a]
  simp only [List.length_cons]
  by_cases hc:off+(k+1)<=i∧i<off+(k+1)+r.length
  ·rw [if_pos hc,if_pos om]
   obtain⟨j,rfl⟩:∃j,i=off+(k+1)+j:=⟨i-(off+(k+1)),om⟩
   rw [show off+(k+1)+j-(off+(k+1))=j by omega,show off+(k+1)+j-(off+k)=j+1 by omega,List.getElem?_cons_succ]
  ·rw [if_neg hc]
   by_cases b:i=off+k
   ·subst b
    rw [if_pos om,Nat.sub_self,List.getElem?_cons_zero]
    have:off+k<cs.size:=by omega
    simp [this]
   ·rw [if_neg om,Array.getElem?_setIfInBounds_ne om]
theorem og(v:Value)(off:Nat)(cs:Array Value)(h:off+v.cells.size<=cs.size):
  (v.cells.zipIdx.foldl (fun(cs:Array Value)(x:Value×Nat)=>cs.setIfInBounds (off+x.2) x.1) cs).size=cs.size∧
  ∀i,(v.cells.zipIdx.foldl (fun(cs:Array Value)(x:Value×Nat)=>cs.setIfInBounds (off+x.2) x.1) cs)[i]? =if off<=i∧i<off+v.cells.size then v.cells[i-off]? else cs[i]? :=by
 have h1:=nr v.cells.toList 0 off cs (by simpa using h)
 rw [<-Array.foldl_toList,Array.toList_zipIdx]
 simp only [Nat.add_zero,Array.length_toList,Array.getElem?_toList]at h1
 exact h1
def kS(S:cp)(loc:cJ)(l:List (Nat×RV))(pvs:List (Nat×Value)):Prop:=
 l.length=pvs.length∧∀(i:Nat)x y,l[i]? =some x->pvs[i]? =some y->x.1=y.1∧R S loc x.2 y.2
theorem eB{place:Nat->Option (Nat×Nat)}:∀(l:List (Nat×RV))(pvs:List (Nat×Value))(cs b:List RV)(vs:Array Value),fS place cs l=some b->dG l=true->kS S loc l pvs->
  vs.size=cs.length->(∀(i:Nat)c u,cs[i]? =some c->vs[i]? =some u->R S loc c u)->
  ∃e,Instr.fill place vs pvs=some e∧e.size=b.length∧b.length=cs.length∧(∀(i:Nat)c u,b[i]? =some c->e[i]? =some u->R S loc c u)∧
   ((∀u∈vs,u.oneCell'=true)->∀u∈e,u.oneCell'=true)
 | [],pvs,cs,b,vs,h,_,n,hl,t=>by
  have:pvs=[]:=List.eq_nil_of_length_eq_zero (by simpa using n.1.symm)
  subst this
  simp only [fS,Option.some.injEq]at h
  subst h
  exact⟨vs,rfl,hl,rfl,t,fun h=>h⟩
 |(i,rv)::r,pvs,cs,b,vs,h,B,n,hl,t=>by
  cases pvs with
  |nil=>exact absurd n.1 sm
  |cons E pvs=>
   obtain⟨j,v⟩:=E
   obtain⟨o,z⟩:=n.2 0 (i,rv) (j,v) rfl rfl
   simp only at o
   subst o
   simp only [fS]at h
   rcases g:place i with _|⟨off,k⟩
   ·simp only [g]at h;cases h
   simp only [g]at h
   by_cases hc:rv.cells.length=k∧off+k<=cs.length
   rotate_left
   ·rw [if_neg hc]at h;cases h
   rw [if_pos hc]at h
   have p:rv.sized=true∧dG r=true:=by simpa [dG]using B
   obtain⟨F,G,H⟩:=z.sized p.1
   have hsz:v.cells.size=k:=by rw [F];exact hc.1
   obtain⟨f1,f2⟩:=og v off vs om
   obtain⟨e,g1,g2,g3,g4,g5⟩:=eB r pvs (setCells cs off rv.cells) b (v.cells.zipIdx.foldl (fun(cs:Array Value)(x:Value×Nat)=>cs.setIfInBounds (off+x.2) x.1) vs) h p.2
    ⟨by have:=n.1;simpa using this,fun i x y C D=>n.2 (i+1) x y (by simpa using C) (by simpa using D)⟩
    (by rw [f1,eW];exact hl)
    (fun m c u f a => by
     rw [iS _ _ _ _ om]at f
     rw [f2]at a
     by_cases hm:off<=m∧m<off+rv.cells.length
     ·rw [if_pos hm]at f
      rw [if_pos om]at a
      exact G _ c u f a
     ·rw [if_neg hm]at f
      rw [if_neg om]at a
      exact t m c u f a)
   refine⟨e,?_,g2,by rw [g3,eW],g4,fun h1=>g5 fun u hu=>?_⟩
   ·simp only [Instr.fill,g,hsz]
    rw [if_neg]
    ·exact g1
    ·simp;omega
   ·obtain⟨m,hm,q⟩:=Array.getElem_of_mem hu
    have a:(v.cells.zipIdx.foldl (fun(cs:Array Value)(x:Value×Nat)=>cs.setIfInBounds (off+x.2) x.1) vs)[m]? =some u:=by rw [Array.getElem?_eq_getElem hm,q]
    rw [f2]at a
    split at a
    ·exact H u (Ae a)
    ·exact h1 u (Ae a)
theorem nF(a:Array Field)(h:(a.toList.all fun f=>(szT P f.type).isSome)=true):
  (a.mapM fun f=>do pure (f.offset, <-sizeOf f.type):Sem (Array (Nat×Nat))).run P w= .ok (a.map fun f=>(f.offset,(szT P f.type).getD 0)) w:=by
 have key:∀(l:List Field),(∀f∈l,(szT P f.type).isSome=true)->(l.mapM fun f=>Prod.mk f.offset<$>sizeOf f.type:Sem (List (Nat×Nat))).run P w= .ok (l.map fun f=>(f.offset,(szT P f.type).getD 0)) w:=by
  intro l
  induction l with
  |nil=>intro _;rfl
  |cons f l e=>
   intro hl
   have hf:=hl f sm
   obtain⟨n,b⟩:=Option.isSome_iff_exists.1 hf
   simp [List.mapM_cons,ct b,e (fun g c=>hl g (by simp [c])),b]
 have := key a.toList (fun f hf => by
  have:=List.all_eq_true.1 h f (by simpa using hf)
  exact this)
 simp only [bind_pure_comp,Array.mapM_eq_mapM_toList,Sem.run_map,this,Af]
 congr 1
 apply Array.ext'
 simp
theorem lx{t:TypeId}{l:List (Nat×RV)}{pvs:Array (Nat×Value)}{b:cI}{v:RV}{u:Ups}{r:List Nat}(hl:ig P t l b=some ((v,u),r,true))(y:kS S loc l pvs.toList):
  ∃v',(Instr.build t pvs).run P w= .ok v' w∧R S loc v v'∧u=[]:=by
 unfold ig at hl
 rcases hu:P.underlying t with _|d
 ·simp only [hu]at hl;exact fE b hl
 rcases q:df P t with _|z
 ·rw [hu,q]at hl;cases d<;>exact fE b hl
 rw [hu,q]at hl
 obtain⟨i,x,m⟩:=c8 q
 obtain⟨B,z2⟩:=dO S loc z
 cases d<;>first|exact fE b hl|skip
 case struct g=>
  by_cases a:(g.toList.all fun f=>(szT P f.type).isSome)=true
  rotate_left
  ·simp only [a]at hl;exact fE b hl
  simp only [a,if_true]at hl
  rcases hf:fS (lU P g) (cH z).cells l with _|cs
  ·simp only [hf]at hl;exact fE b hl
  simp only [hf]at hl
  obtain⟨h1, -,p⟩:=cy hl
  cases h1
  obtain⟨c,g1,g2,g3,g4,_⟩:=eB l pvs.toList _ cs z.cells hf p.symm y B z2
  refine⟨.agg c,?_,fC g2 g4,rfl⟩
  have o:((g.map fun f=>(f.offset,(szT P f.type).getD 0))[·]?)=lU P g:=by
   funext j
   unfold lU
   rw [Array.getElem?_map]
   cases C:g[j]? with
   |none=>rfl
   |some f=>
    have:=List.all_eq_true.1 a f (by simpa using Ae C)
    obtain⟨n,D⟩:=Option.isSome_iff_exists.1 this
    simp [D]
  simp only [Instr.build,Sem.run_bind,zeroValue,typeInfo,run_program,Af,x,Sem.run_pure,m,run_underlying hu,nF g a,o,g1]
 case array len e=>
  rcases hk:szT P e with _|k
  ·simp only [hk]at hl;exact fE b hl
  simp only [hk]at hl
  rcases hf:fS (fun i=>some (i*k,k)) (cH z).cells l with _|cs
  ·simp only [hf]at hl;exact fE b hl
  simp only [hf]at hl
  obtain⟨h1, -,p⟩:=cy hl
  cases h1
  obtain⟨c,g1,g2,g3,g4,_⟩:=eB l pvs.toList _ cs z.cells hf p.symm y B z2
  refine⟨.agg c,?_,fC g2 g4,rfl⟩
  simp only [Instr.build,Sem.run_bind,zeroValue,typeInfo,run_program,Af,x,Sem.run_pure,m,run_underlying hu,ct hk,g1]
end
end Go.Dw
