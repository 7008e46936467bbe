
import Derived.Test.YthkfkgoddhehcaaGreatDwStore
import Derived.Laws.Tables
open Array renaming mem_of_getElem?->Ey
open Go.Result renaming andThen_ok->Ez

namespace Go.Dw
section
variable {P:Program}{X:Ctx}{S:tG}{loc:ui}{s:St}{tm:Array Value}{w:World}
theorem Dz(l:List Value):∀(k off:Nat)(cs:Array Value),off+k+l.length<=cs.size->
  ((l.zipIdx k).foldl (fun(cs:Array Value)(x:Value×Nat)=>cs.setIfInBounds (off+x.2) x.1) cs).size=cs.size∧
  ∀i,((l.zipIdx k).foldl (fun(cs:Array Value)(x:Value×Nat)=>cs.setIfInBounds (off+x.2) x.1) cs)[i]? =if off+k<=i∧i<off+k+l.length then l[i-(off+k)]? else cs[i]? :=by
 induction l with
 |nil=>intro k off cs _;simp only [List.zipIdx_nil,List.foldl_nil,List.length_nil];exact⟨trivial,λi=>by rw [if_neg za]⟩
 |cons v r c=>
  intro k off cs hle
  simp only [List.length_cons]at hle
  simp only [List.zipIdx_cons,List.foldl_cons]
  obtain⟨h1,a⟩:=c (k+1) off (cs.setIfInBounds (off+k) v) so
  refine⟨by rw [h1];simp,λi=>?_⟩
  rw [a]
  simp only [List.length_cons]
  by_cases hc:off+(k+1)<=i∧i<off+(k+1)+r.length
  ·rw [if_pos hc,if_pos za]
   obtain⟨j,rfl⟩:∃j,i=off+(k+1)+j:=⟨i-(off+(k+1)),za⟩
   rw [show off+(k+1)+j-(off+(k+1))=j by omega,show off+(k+1)+j-(off+k)=j+1 by omega,List.getElem?_cons_succ]
  ·rw [if_neg hc]
   by_cases hi:i=off+k
   ·subst hi
    rw [if_pos za,Nat.sub_self,List.getElem?_cons_zero]
    have:off+k<cs.size:=by omega
    simp [this]
   ·rw [if_neg za,Array.getElem?_setIfInBounds_ne za]
theorem Eg(v:Value)(off:Nat)(cs:Array Value)(h:off+v.cells.size<=cs.size):
  (v.cells.zipIdx.foldl (fun(cs:Array Value)(x:Value×Nat)=>cs.setIfInBounds (off+x.2) x.1) cs).size=cs.size∧
  ∀i,(v.cells.zipIdx.foldl (fun(cs:Array Value)(x:Value×Nat)=>cs.setIfInBounds (off+x.2) x.1) cs)[i]? =if off<=i∧i<off+v.cells.size then v.cells[i-off]? else cs[i]? :=by
 have h1:=Dz v.cells.toList 0 off cs (by simpa using h)
 rw [<-Array.foldl_toList,Array.toList_zipIdx]
 simp only [Nat.add_zero,Array.length_toList,Array.getElem?_toList]at h1
 exact h1
def Cy(S:tG)(loc:ui)(l:List (Nat×RV))(pvs:List (Nat×Value)):Prop:=
 l.length=pvs.length∧∀(i:Nat)x y,l[i]? =some x->pvs[i]? =some y->x.1=y.1∧R S loc x.2 y.2
theorem w7{place:Nat->Option (Nat×Nat)}:∀(l:List (Nat×RV))(pvs:List (Nat×Value))(cs f:List RV)(vs:Array Value),wx place cs l=some f->vo l=true->Cy S loc l pvs->
  vs.size=cs.length->(∀(i:Nat)c u,cs[i]? =some c->vs[i]? =some u->R S loc c u)->
  ∃g,Instr.fill place vs pvs=some g∧g.size=f.length∧f.length=cs.length∧(∀(i:Nat)c u,f[i]? =some c->g[i]? =some u->R S loc c u)∧
   ((∀u∈vs,u.oneCell'=true)->∀u∈g,u.oneCell'=true)
 | [],pvs,cs,f,vs,h,_,hp,B,D=>by
  have:pvs=[]:=List.eq_nil_of_length_eq_zero (by simpa using hp.1.symm)
  subst this
  simp only [wx,Option.some.injEq]at h
  subst h
  exact⟨vs,rfl,B,rfl,D,λh=>h⟩
 |(i,rv)::r,pvs,cs,f,vs,h,hs,hp,B,D=>by
  cases pvs with
  |nil=>exact absurd hp.1 zb
  |cons I pvs=>
   obtain⟨j,v⟩:=I
   obtain⟨t,E⟩:=hp.2 0 (i,rv) (j,v) rfl rfl
   simp only at t
   subst t
   simp only [wx]at h
   rcases q:place i with _|⟨off,k⟩
   ·simp only [q]at h;cases h
   simp only [q]at h
   by_cases hc:rv.cells.length=k∧off+k<=cs.length
   rotate_left
   ·rw [if_neg hc]at h;cases h
   rw [if_pos hc]at h
   have z:rv.sized=true∧vo r=true:=by simpa [vo]using hs
   obtain⟨J,K,L⟩:=E.sized z.1
   have F:v.cells.size=k:=by rw [J];exact hc.1
   obtain⟨f1,f2⟩:=Eg v off vs za
   obtain⟨g,g1,g2,g3,g4,g5⟩:=w7 r pvs (setCells cs off rv.cells) f (v.cells.zipIdx.foldl (fun(cs:Array Value)(x:Value×Nat)=>cs.setIfInBounds (off+x.2) x.1) vs) h z.2
    ⟨by have:=hp.1;simpa using this,λi x y G H=>hp.2 (i+1) x y (by simpa using G) (by simpa using H)⟩
    (by rw [f1,wP];exact B)
    (λm c u p a => by
     rw [zZ _ _ _ _ za]at p
     rw [f2]at a
     by_cases hm:off<=m∧m<off+rv.cells.length
     ·rw [if_pos hm]at p
      rw [if_pos za]at a
      exact K _ c u p a
     ·rw [if_neg hm]at p
      rw [if_neg za]at a
      exact D m c u p a)
   refine⟨g,?_,g2,by rw [g3,wP],g4,λh1=>g5 λu hu=>?_⟩
   ·simp only [Instr.fill,q,F]
    rw [if_neg]
    ·exact g1
    ·simp;omega
   ·obtain⟨m,hm,C⟩:=Array.getElem_of_mem hu
    have a:(v.cells.zipIdx.foldl (fun(cs:Array Value)(x:Value×Nat)=>cs.setIfInBounds (off+x.2) x.1) vs)[m]? =some u:=by rw [Array.getElem?_eq_getElem hm,C]
    rw [f2]at a
    split at a
    ·exact L u (Ey a)
    ·exact h1 u (Ey a)
theorem DJ(a:Array Field)(h:(a.toList.all λf=>(szT P f.type).isSome)=true):
  (a.mapM λf=>do pure (f.offset, <-sizeOf f.type):Sem (Array (Nat×Nat))).run P w= .ok (a.map λf=>(f.offset,(szT P f.type).getD 0)) w:=by
 have key:∀(l:List Field),(∀f∈l,(szT P f.type).isSome=true)->(l.mapM λf=>Prod.mk f.offset<$>sizeOf f.type:Sem (List (Nat×Nat))).run P w= .ok (l.map λf=>(f.offset,(szT P f.type).getD 0)) w:=by
  intro l
  induction l with
  |nil=>intro _;rfl
  |cons f l p=>
   intro c
   have hf:=c f zb
   obtain⟨n,j⟩:=Option.isSome_iff_exists.1 hf
   simp [List.mapM_cons,tQ j,p (λg k=>c g (by simp [k])),j]
 have := key a.toList (λf hf => by
  have:=List.all_eq_true.1 h f (by simpa using hf)
  exact this)
 simp only [bind_pure_comp,Array.mapM_eq_mapM_toList,Sem.run_map,this,Ez]
 congr 1
 apply Array.ext'
 simp
theorem B7{t:TypeId}{l:List (Nat×RV)}{pvs:Array (Nat×Value)}{b:tY}{v:RV}{u:Ups}{r:List Nat}(a:yp P t l b=some ((v,u),r,true))(hp:Cy S loc l pvs.toList):
  ∃v',(Instr.build t pvs).run P w= .ok v' w∧R S loc v v'∧u=[]:=by
 unfold yp at a
 rcases hu:P.underlying t with _|d
 ·simp only [hu]at a;exact fE b a
 rcases y:uE P t with _|z
 ·rw [hu,y]at a;cases d<;>exact fE b a
 rw [hu,y]at a
 obtain⟨i,hi,q⟩:=vu y
 obtain⟨B,z2⟩:=wG S loc z
 cases d<;>first|exact fE b a|skip
 case struct p=>
  by_cases c:(p.toList.all λf=>(szT P f.type).isSome)=true
  rotate_left
  ·simp only [c]at a;exact fE b a
  simp only [c,if_true]at a
  rcases hf:wx (Bx P p) (uh z).cells l with _|cs
  ·simp only [hf]at a;exact fE b a
  simp only [hf]at a
  obtain⟨h1, -,hs⟩:=ua a
  cases h1
  obtain⟨g,g1,g2,g3,g4,_⟩:=w7 l pvs.toList _ cs z.cells hf hs.symm hp B z2
  refine⟨.agg g,?_,xe g2 g4,rfl⟩
  have x:((p.map λf=>(f.offset,(szT P f.type).getD 0))[·]?)=Bx P p:=by
   funext j
   unfold Bx
   rw [Array.getElem?_map]
   cases C:p[j]? with
   |none=>rfl
   |some f=>
    have:=List.all_eq_true.1 c f (by simpa using Ey C)
    obtain⟨n,D⟩:=Option.isSome_iff_exists.1 this
    simp [D]
  simp only [Instr.build,Sem.run_bind,zeroValue,typeInfo,run_program,Ez,hi,Sem.run_pure,q,run_underlying hu,DJ p c,x,g1]
 case array len e=>
  rcases hk:szT P e with _|k
  ·simp only [hk]at a;exact fE b a
  simp only [hk]at a
  rcases hf:wx (λi=>some (i*k,k)) (uh z).cells l with _|cs
  ·simp only [hf]at a;exact fE b a
  simp only [hf]at a
  obtain⟨h1, -,hs⟩:=ua a
  cases h1
  obtain⟨g,g1,g2,g3,g4,_⟩:=w7 l pvs.toList _ cs z.cells hf hs.symm hp B z2
  refine⟨.agg g,?_,xe g2 g4,rfl⟩
  simp only [Instr.build,Sem.run_bind,zeroValue,typeInfo,run_program,Ez,hi,Sem.run_pure,q,run_underlying hu,tQ hk,g1]
end
end Go.Dw
