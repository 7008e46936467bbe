
import Derived.Test.YtomapcboiinfdaaGreatDwStore
import Derived.Laws.Tables
open Array renaming mem_of_getElem?->A7
open Go.Result renaming andThen_ok->A8

namespace Go.Dw
section
variable {P:Program}{X:Ctx}{S:mW}{loc:nB}{s:St}{tm:Array Value}{w:World}
theorem yv(l:List Value):∀(k off:Nat)(cs:Array Value),off+k+l.length<=cs.size->
  ((l.zipIdx k).foldl (fun(cs:Array Value)(x:Value×Nat)=>cs.setIfInBounds (off+x.2) x.1) cs).size=cs.size∧
  ∀i,((l.zipIdx k).foldl (fun(cs:Array Value)(x:Value×Nat)=>cs.setIfInBounds (off+x.2) x.1) cs)[i]? =if off+k<=i∧i<off+k+l.length then l[i-(off+k)]? else cs[i]? :=by
 induction l with
 |nil=>intro k off cs _;simp only [List.zipIdx_nil,List.foldl_nil,List.length_nil];exact⟨trivial,fun i=>by rw [if_neg om]⟩
 |cons v r c=>
  intro k off cs hle
  simp only [List.length_cons]at hle
  simp only [List.zipIdx_cons,List.foldl_cons]
  obtain⟨h1,b⟩:=c (k+1) off (cs.setIfInBounds (off+k) v) so
  refine⟨by rw [h1];simp,fun i=>?_⟩
  rw [b]
  simp only [List.length_cons]
  by_cases a:off+(k+1)<=i∧i<off+(k+1)+r.length
  ·rw [if_pos a,if_pos om]
   obtain⟨j,rfl⟩:∃j,i=off+(k+1)+j:=⟨i-(off+(k+1)),om⟩
   rw [show off+(k+1)+j-(off+(k+1))=j by omega,show off+(k+1)+j-(off+k)=j+1 by omega,List.getElem?_cons_succ]
  ·rw [if_neg a]
   by_cases hi:i=off+k
   ·subst hi
    rw [if_pos om,Nat.sub_self,List.getElem?_cons_zero]
    have:off+k<cs.size:=by omega
    simp [this]
   ·rw [if_neg om,Array.getElem?_setIfInBounds_ne om]
theorem zo(v:Value)(off:Nat)(cs:Array Value)(h:off+v.cells.size<=cs.size):
  (v.cells.zipIdx.foldl (fun(cs:Array Value)(x:Value×Nat)=>cs.setIfInBounds (off+x.2) x.1) cs).size=cs.size∧
  ∀i,(v.cells.zipIdx.foldl (fun(cs:Array Value)(x:Value×Nat)=>cs.setIfInBounds (off+x.2) x.1) cs)[i]? =if off<=i∧i<off+v.cells.size then v.cells[i-off]? else cs[i]? :=by
 have h1:=yv v.cells.toList 0 off cs (by simpa using h)
 rw [<-Array.foldl_toList,Array.toList_zipIdx]
 simp only [Nat.add_zero,Array.length_toList,Array.getElem?_toList]at h1
 exact h1
def xi(S:mW)(loc:nB)(l:List (Nat×RV))(pvs:List (Nat×Value)):Prop:=
 l.length=pvs.length∧∀(i:Nat)x y,l[i]? =some x->pvs[i]? =some y->x.1=y.1∧R S loc x.2 y.2
theorem qa{place:Nat->Option (Nat×Nat)}:∀(l:List (Nat×RV))(pvs:List (Nat×Value))(cs b:List RV)(vs:Array Value),rU place cs l=some b->oG l=true->xi S loc l pvs->
  vs.size=cs.length->(∀(i:Nat)c u,cs[i]? =some c->vs[i]? =some u->R S loc c u)->
  ∃e,Instr.fill place vs pvs=some e∧e.size=b.length∧b.length=cs.length∧(∀(i:Nat)c u,b[i]? =some c->e[i]? =some u->R S loc c u)∧
   ((∀u∈vs,u.oneCell'=true)->∀u∈e,u.oneCell'=true)
 | [],pvs,cs,b,vs,h,_,n,t,B=>by
  have:pvs=[]:=List.eq_nil_of_length_eq_zero (by simpa using n.1.symm)
  subst this
  simp only [rU,Option.some.injEq]at h
  subst h
  exact⟨vs,rfl,t,rfl,B,fun h=>h⟩
 |(i,rv)::r,pvs,cs,b,vs,h,E,n,t,B=>by
  cases pvs with
  |nil=>exact absurd n.1 sm
  |cons H pvs=>
   obtain⟨j,v⟩:=H
   obtain⟨o,C⟩:=n.2 0 (i,rv) (j,v) rfl rfl
   simp only at o
   subst o
   simp only [rU]at h
   rcases g:place i with _|⟨off,k⟩
   ·simp only [g]at h;cases h
   simp only [g]at h
   by_cases q:rv.cells.length=k∧off+k<=cs.length
   rotate_left
   ·rw [if_neg q]at h;cases h
   rw [if_pos q]at h
   have p:rv.sized=true∧oG r=true:=by simpa [oG]using E
   obtain⟨I,J,K⟩:=C.sized p.1
   have D:v.cells.size=k:=by rw [I];exact q.1
   obtain⟨f1,f2⟩:=zo v off vs om
   obtain⟨e,g1,g2,g3,g4,g5⟩:=qa r pvs (setCells cs off rv.cells) b (v.cells.zipIdx.foldl (fun(cs:Array Value)(x:Value×Nat)=>cs.setIfInBounds (off+x.2) x.1) vs) h p.2
    ⟨by have:=n.1;simpa using this,fun i x y F G=>n.2 (i+1) x y (by simpa using F) (by simpa using G)⟩
    (by rw [f1,pL];exact t)
    (fun m c u f a => by
     rw [tV _ _ _ _ om]at f
     rw [f2]at a
     by_cases hm:off<=m∧m<off+rv.cells.length
     ·rw [if_pos hm]at f
      rw [if_pos om]at a
      exact J _ c u f a
     ·rw [if_neg hm]at f
      rw [if_neg om]at a
      exact B m c u f a)
   refine⟨e,?_,g2,by rw [g3,pL],g4,fun h1=>g5 fun u hu=>?_⟩
   ·simp only [Instr.fill,g,D]
    rw [if_neg]
    ·exact g1
    ·simp;omega
   ·obtain⟨m,hm,z⟩:=Array.getElem_of_mem hu
    have a:(v.cells.zipIdx.foldl (fun(cs:Array Value)(x:Value×Nat)=>cs.setIfInBounds (off+x.2) x.1) vs)[m]? =some u:=by rw [Array.getElem?_eq_getElem hm,z]
    rw [f2]at a
    split at a
    ·exact K u (A7 a)
    ·exact h1 u (A7 a)
theorem yF(a:Array Field)(h:(a.toList.all fun f=>(szT P f.type).isSome)=true):
  (a.mapM fun f=>do pure (f.offset, <-sizeOf f.type):Sem (Array (Nat×Nat))).run P w= .ok (a.map fun f=>(f.offset,(szT P f.type).getD 0)) w:=by
 have key:∀(l:List Field),(∀f∈l,(szT P f.type).isSome=true)->(l.mapM fun f=>Prod.mk f.offset<$>sizeOf f.type:Sem (List (Nat×Nat))).run P w= .ok (l.map fun f=>(f.offset,(szT P f.type).getD 0)) w:=by
  intro l
  induction l with
  |nil=>intro _;rfl
  |cons f l i=>
   intro b
   have hf:=b f sm
   obtain⟨n,c⟩:=Option.isSome_iff_exists.1 hf
   simp [List.mapM_cons,mV c,i (fun g e=>b g (by simp [e])),c]
 have := key a.toList (fun f hf => by
  have:=List.all_eq_true.1 h f (by simpa using hf)
  exact this)
 simp only [bind_pure_comp,Array.mapM_eq_mapM_toList,Sem.run_map,this,A8]
 congr 1
 apply Array.ext'
 simp
theorem wR{t:TypeId}{l:List (Nat×RV)}{pvs:Array (Nat×Value)}{b:nn}{v:RV}{u:Ups}{r:List Nat}(a:tf P t l b=some ((v,u),r,true))(y:xi S loc l pvs.toList):
  ∃v',(Instr.build t pvs).run P w= .ok v' w∧R S loc v v'∧u=[]:=by
 unfold tf at a
 rcases hu:P.underlying t with _|d
 ·simp only [hu]at a;exact fE b a
 rcases x:n0 P t with _|z
 ·rw [hu,x]at a;cases d<;>exact fE b a
 rw [hu,x]at a
 obtain⟨i,hi,o⟩:=oc x
 obtain⟨B,z2⟩:=py S loc z
 cases d<;>first|exact fE b a|skip
 case struct m=>
  by_cases c:(m.toList.all fun f=>(szT P f.type).isSome)=true
  rotate_left
  ·simp only [c]at a;exact fE b a
  simp only [c,if_true]at a
  rcases hf:rU (w9 P m) (nC z).cells l with _|cs
  ·simp only [hf]at a;exact fE b a
  simp only [hf]at a
  obtain⟨h1, -,q⟩:=nk a
  cases h1
  obtain⟨g,g1,g2,g3,g4,_⟩:=qa l pvs.toList _ cs z.cells hf q.symm y B z2
  refine⟨.agg g,?_,ql g2 g4,rfl⟩
  have p:((m.map fun f=>(f.offset,(szT P f.type).getD 0))[·]?)=w9 P m:=by
   funext j
   unfold w9
   rw [Array.getElem?_map]
   cases C:m[j]? with
   |none=>rfl
   |some f=>
    have:=List.all_eq_true.1 c f (by simpa using A7 C)
    obtain⟨n,D⟩:=Option.isSome_iff_exists.1 this
    simp [D]
  simp only [Instr.build,Sem.run_bind,zeroValue,typeInfo,run_program,A8,hi,Sem.run_pure,o,run_underlying hu,yF m c,p,g1]
 case array len e=>
  rcases hk:szT P e with _|k
  ·simp only [hk]at a;exact fE b a
  simp only [hk]at a
  rcases hf:rU (fun i=>some (i*k,k)) (nC z).cells l with _|cs
  ·simp only [hf]at a;exact fE b a
  simp only [hf]at a
  obtain⟨h1, -,q⟩:=nk a
  cases h1
  obtain⟨g,g1,g2,g3,g4,_⟩:=qa l pvs.toList _ cs z.cells hf q.symm y B z2
  refine⟨.agg g,?_,ql g2 g4,rfl⟩
  simp only [Instr.build,Sem.run_bind,zeroValue,typeInfo,run_program,A8,hi,Sem.run_pure,o,run_underlying hu,mV hk,g1]
end
end Go.Dw
