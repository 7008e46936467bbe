
import Derived.Test.YtfmoipelhfkdkaaGreatDoorDwStore
import Derived.Laws.Tables
open Array renaming mem_of_getElem?->D8
open Go.Result renaming andThen_ok->D9

namespace Go.Dw
section
variable {P:Program}{X:Ctx}{S:rC}{loc:sf}{s:St}{tm:Array Value}{w:World}
theorem Cq(l:List Value):∀(k off:Nat)(cs:Array Value),off+k+l.length<=cs.size->
  ((l.zipIdx k).foldl (fun(cs:Array Value)(x:Value×Nat)=>cs.setIfInBounds (off+x.2) x.1) cs).size=cs.size∧
  ∀i,((l.zipIdx k).foldl (fun(cs:Array Value)(x:Value×Nat)=>cs.setIfInBounds (off+x.2) x.1) cs)[i]? =if off+k<=i∧i<off+k+l.length then l[i-(off+k)]? else cs[i]? :=by
 induction l with
 |nil=>intro k off cs _;simp only [List.zipIdx_nil,List.foldl_nil,List.length_nil];exact⟨trivial,fun i=>by rw [if_neg za]⟩
 |cons v r g=>
  intro k off cs hle
  simp only [List.length_cons]at hle
  simp only [List.zipIdx_cons,List.foldl_cons]
  obtain⟨h1,f⟩:=g (k+1) off (cs.setIfInBounds (off+k) v) so
  refine⟨by rw [h1];simp,fun i=>?_⟩
  rw [f]
  simp only [List.length_cons]
  by_cases hc:off+(k+1)<=i∧i<off+(k+1)+r.length
  ·rw [if_pos hc,if_pos za]
   obtain⟨j,rfl⟩:∃j,i=off+(k+1)+j:=⟨i-(off+(k+1)),za⟩
   rw [show off+(k+1)+j-(off+(k+1))=j by omega,show off+(k+1)+j-(off+k)=j+1 by omega,List.getElem?_cons_succ]
  ·rw [if_neg hc]
   by_cases hi:i=off+k
   ·subst hi
    rw [if_pos za,Nat.sub_self,List.getElem?_cons_zero]
    have:off+k<cs.size:=by omega
    simp [this]
   ·rw [if_neg za,Array.getElem?_setIfInBounds_ne za]
theorem Da(v:Value)(off:Nat)(cs:Array Value)(h:off+v.cells.size<=cs.size):
  (v.cells.zipIdx.foldl (fun(cs:Array Value)(x:Value×Nat)=>cs.setIfInBounds (off+x.2) x.1) cs).size=cs.size∧
  ∀i,(v.cells.zipIdx.foldl (fun(cs:Array Value)(x:Value×Nat)=>cs.setIfInBounds (off+x.2) x.1) cs)[i]? =if off<=i∧i<off+v.cells.size then v.cells[i-off]? else cs[i]? :=by
 have h1:=Cq v.cells.toList 0 off cs (by simpa using h)
 rw [<-Array.foldl_toList,Array.toList_zipIdx]
 simp only [Nat.add_zero,Array.length_toList,Array.getElem?_toList]at h1
 exact h1
def Bu(S:rC)(loc:sf)(l:List (Nat×RV))(pvs:List (Nat×Value)):Prop:=
 l.length=pvs.length∧∀(i:Nat)x y,l[i]? =some x->pvs[i]? =some y->x.1=y.1∧R S loc x.2 y.2
theorem vn{place:Nat->Option (Nat×Nat)}:∀(l:List (Nat×RV))(pvs:List (Nat×Value))(cs g:List RV)(vs:Array Value),uD place cs l=some g->tJ l=true->Bu S loc l pvs->
  vs.size=cs.length->(∀(i:Nat)c u,cs[i]? =some c->vs[i]? =some u->R S loc c u)->
  ∃q,Instr.fill place vs pvs=some q∧q.size=g.length∧g.length=cs.length∧(∀(i:Nat)c u,g[i]? =some c->q[i]? =some u->R S loc c u)∧
   ((∀u∈vs,u.oneCell'=true)->∀u∈q,u.oneCell'=true)
 | [],pvs,cs,g,vs,h,_,hp,hl,G=>by
  have:pvs=[]:=List.eq_nil_of_length_eq_zero (by simpa using hp.1.symm)
  subst this
  simp only [uD,Option.some.injEq]at h
  subst h
  exact⟨vs,rfl,hl,rfl,G,fun h=>h⟩
 |(i,rv)::r,pvs,cs,g,vs,h,hs,hp,hl,G=>by
  cases pvs with
  |nil=>exact absurd hp.1 zc
  |cons L pvs=>
   obtain⟨j,v⟩:=L
   obtain⟨D,H⟩:=hp.2 0 (i,rv) (j,v) rfl rfl
   simp only at D
   subst D
   simp only [uD]at h
   rcases C:place i with _|⟨off,k⟩
   ·simp only [C]at h;cases h
   simp only [C]at h
   by_cases hc:rv.cells.length=k∧off+k<=cs.length
   rotate_left
   ·rw [if_neg hc]at h;cases h
   rw [if_pos hc]at h
   have E:rv.sized=true∧tJ r=true:=by simpa [tJ]using hs
   obtain⟨N,O,Q⟩:=H.sized E.1
   have I:v.cells.size=k:=by rw [N];exact hc.1
   obtain⟨f1,f2⟩:=Da v off vs za
   obtain⟨q,g1,g2,g3,g4,g5⟩:=vn r pvs (setCells cs off rv.cells) g (v.cells.zipIdx.foldl (fun(cs:Array Value)(x:Value×Nat)=>cs.setIfInBounds (off+x.2) x.1) vs) h E.2
    ⟨by have:=hp.1;simpa using this,fun i x y J K=>hp.2 (i+1) x y (by simpa using J) (by simpa using K)⟩
    (by rw [f1,uU];exact hl)
    (fun m c u B f => by
     rw [ym _ _ _ _ za]at B
     rw [f2]at f
     by_cases hm:off<=m∧m<off+rv.cells.length
     ·rw [if_pos hm]at B
      rw [if_pos za]at f
      exact O _ c u B f
     ·rw [if_neg hm]at B
      rw [if_neg za]at f
      exact G m c u B f)
   refine⟨q,?_,g2,by rw [g3,uU],g4,fun h1=>g5 fun u hu=>?_⟩
   ·simp only [Instr.fill,C,I]
    rw [if_neg]
    ·exact g1
    ·simp;omega
   ·obtain⟨m,hm,F⟩:=Array.getElem_of_mem hu
    have f:(v.cells.zipIdx.foldl (fun(cs:Array Value)(x:Value×Nat)=>cs.setIfInBounds (off+x.2) x.1) vs)[m]? =some u:=by rw [Array.getElem?_eq_getElem hm,F]
    rw [f2]at f
    split at f
    ·exact Q u (D8 f)
    ·exact h1 u (D8 f)
theorem CC(j:Array Field)(h:(j.toList.all fun f=>(szT P f.type).isSome)=true):
  (j.mapM fun f=>do pure (f.offset, <-sizeOf f.type):Sem (Array (Nat×Nat))).run P w= .ok (j.map fun f=>(f.offset,(szT P f.type).getD 0)) w:=by
 have key:∀(l:List Field),(∀f∈l,(szT P f.type).isSome=true)->(l.mapM fun f=>Prod.mk f.offset<$>sizeOf f.type:Sem (List (Nat×Nat))).run P w= .ok (l.map fun f=>(f.offset,(szT P f.type).getD 0)) w:=by
  intro l
  induction l with
  |nil=>intro _;rfl
  |cons f l r=>
   intro hl
   have hf:=hl f zc
   obtain⟨n,k⟩:=Option.isSome_iff_exists.1 hf
   simp [List.mapM_cons,rD k,r (fun g q=>hl g (by simp [q])),k]
 have := key j.toList (fun f hf => by
  have:=List.all_eq_true.1 h f (by simpa using hf)
  exact this)
 simp only [bind_pure_comp,Array.mapM_eq_mapM_toList,Sem.run_map,this,D9]
 congr 1
 apply Array.ext'
 simp
theorem A6{t:TypeId}{l:List (Nat×RV)}{pvs:Array (Nat×Value)}{b:rY}{v:RV}{u:Ups}{r:List Nat}(hl:wW P t l b=some ((v,u),r,true))(hp:Bu S loc l pvs.toList):
  ∃v',(Instr.build t pvs).run P w= .ok v' w∧R S loc v v'∧u=[]:=by
 unfold wW at hl
 rcases hu:P.underlying t with _|d
 ·simp only [hu]at hl;exact fE b hl
 rcases E:se P t with _|z
 ·rw [hu,E]at hl;cases d<;>exact fE b hl
 rw [hu,E]at hl
 obtain⟨i,hi,C⟩:=tv E
 obtain⟨F,z2⟩:=uJ S loc z
 cases d<;>first|exact fE b hl|skip
 case struct B=>
  by_cases g:(B.toList.all fun f=>(szT P f.type).isSome)=true
  rotate_left
  ·simp only [g]at hl;exact fE b hl
  simp only [g,if_true]at hl
  rcases hf:uD (Au P B) (sd z).cells l with _|cs
  ·simp only [hf]at hl;exact fE b hl
  simp only [hf]at hl
  obtain⟨h1, -,hs⟩:=rR hl
  cases h1
  obtain⟨q,g1,g2,g3,g4,_⟩:=vn l pvs.toList _ cs z.cells hf hs.symm hp F z2
  refine⟨.agg q,?_,vF g2 g4,rfl⟩
  have D:((B.map fun f=>(f.offset,(szT P f.type).getD 0))[·]?)=Au P B:=by
   funext j
   unfold Au
   rw [Array.getElem?_map]
   cases G:B[j]? with
   |none=>rfl
   |some f=>
    have:=List.all_eq_true.1 g f (by simpa using D8 G)
    obtain⟨n,H⟩:=Option.isSome_iff_exists.1 this
    simp [H]
  simp only [Instr.build,Sem.run_bind,zeroValue,typeInfo,run_program,D9,hi,Sem.run_pure,C,run_underlying hu,CC B g,D,g1]
 case array len e=>
  rcases hk:szT P e with _|k
  ·simp only [hk]at hl;exact fE b hl
  simp only [hk]at hl
  rcases hf:uD (fun i=>some (i*k,k)) (sd z).cells l with _|cs
  ·simp only [hf]at hl;exact fE b hl
  simp only [hf]at hl
  obtain⟨h1, -,hs⟩:=rR hl
  cases h1
  obtain⟨q,g1,g2,g3,g4,_⟩:=vn l pvs.toList _ cs z.cells hf hs.symm hp F z2
  refine⟨.agg q,?_,vF g2 g4,rfl⟩
  simp only [Instr.build,Sem.run_bind,zeroValue,typeInfo,run_program,D9,hi,Sem.run_pure,C,run_underlying hu,rD hk,g1]
end
end Go.Dw
