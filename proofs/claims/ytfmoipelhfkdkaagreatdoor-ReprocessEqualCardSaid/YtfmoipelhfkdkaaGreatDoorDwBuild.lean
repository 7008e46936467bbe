
import Derived.Test.YtfmoipelhfkdkaaGreatDoorDwStore
import Derived.Laws.Tables
open Array renaming mem_of_getElem?->EG
open Go.Result renaming andThen_ok->EH

namespace Go.Dw
section
variable {P:Program}{X:Ctx}{S:rP}{loc:ss}{s:St}{tm:Array Value}{w:World}
theorem CL(l:List Value):∀(k off:Nat)(cs:Array Value),off+k+l.length<=cs.size->
  ((l.zipIdx k).foldl (fun(cs:Array Value)(x:Value×Nat)=>cs.setIfInBounds (off+x.2) x.1) cs).size=cs.size∧
  ∀i,((l.zipIdx k).foldl (fun(cs:Array Value)(x:Value×Nat)=>cs.setIfInBounds (off+x.2) x.1) cs)[i]? =if off+k<=i∧i<off+k+l.length then l[i-(off+k)]? else cs[i]? :=by
 induction l with
 |nil=>intro k off cs _;simp only [List.zipIdx_nil,List.foldl_nil,List.length_nil];exact⟨trivial,fun i=>by rw [if_neg za]⟩
 |cons v r g=>
  intro k off cs hle
  simp only [List.length_cons]at hle
  simp only [List.zipIdx_cons,List.foldl_cons]
  obtain⟨h1,f⟩:=g (k+1) off (cs.setIfInBounds (off+k) v) so
  refine⟨by rw [h1];simp,fun i=>?_⟩
  rw [f]
  simp only [List.length_cons]
  by_cases hc:off+(k+1)<=i∧i<off+(k+1)+r.length
  ·rw [if_pos hc,if_pos za]
   obtain⟨j,rfl⟩:∃j,i=off+(k+1)+j:=⟨i-(off+(k+1)),za⟩
   rw [show off+(k+1)+j-(off+(k+1))=j by omega,show off+(k+1)+j-(off+k)=j+1 by omega,List.getElem?_cons_succ]
  ·rw [if_neg hc]
   by_cases hi:i=off+k
   ·subst hi
    rw [if_pos za,Nat.sub_self,List.getElem?_cons_zero]
    have:off+k<cs.size:=by omega
    simp [this]
   ·rw [if_neg za,Array.getElem?_setIfInBounds_ne za]
theorem Du(v:Value)(off:Nat)(cs:Array Value)(h:off+v.cells.size<=cs.size):
  (v.cells.zipIdx.foldl (fun(cs:Array Value)(x:Value×Nat)=>cs.setIfInBounds (off+x.2) x.1) cs).size=cs.size∧
  ∀i,(v.cells.zipIdx.foldl (fun(cs:Array Value)(x:Value×Nat)=>cs.setIfInBounds (off+x.2) x.1) cs)[i]? =if off<=i∧i<off+v.cells.size then v.cells[i-off]? else cs[i]? :=by
 have h1:=CL v.cells.toList 0 off cs (by simpa using h)
 rw [<-Array.foldl_toList,Array.toList_zipIdx]
 simp only [Nat.add_zero,Array.length_toList,Array.getElem?_toList]at h1
 exact h1
def BK(S:rP)(loc:ss)(l:List (Nat×RV))(pvs:List (Nat×Value)):Prop:=
 l.length=pvs.length∧∀(i:Nat)x y,l[i]? =some x->pvs[i]? =some y->x.1=y.1∧R S loc x.2 y.2
theorem vH{place:Nat->Option (Nat×Nat)}:∀(l:List (Nat×RV))(pvs:List (Nat×Value))(cs g:List RV)(vs:Array Value),uN place cs l=some g->tU l=true->BK S loc l pvs->
  vs.size=cs.length->(∀(i:Nat)c u,cs[i]? =some c->vs[i]? =some u->R S loc c u)->
  ∃q,Instr.fill place vs pvs=some q∧q.size=g.length∧g.length=cs.length∧(∀(i:Nat)c u,g[i]? =some c->q[i]? =some u->R S loc c u)∧
   ((∀u∈vs,u.oneCell'=true)->∀u∈q,u.oneCell'=true)
 | [],pvs,cs,g,vs,h,_,hp,hl,H=>by
  have:pvs=[]:=List.eq_nil_of_length_eq_zero (by simpa using hp.1.symm)
  subst this
  simp only [uN,Option.some.injEq]at h
  subst h
  exact⟨vs,rfl,hl,rfl,H,fun h=>h⟩
 |(i,rv)::r,pvs,cs,g,vs,h,hs,hp,hl,H=>by
  cases pvs with
  |nil=>exact absurd hp.1 zc
  |cons N pvs=>
   obtain⟨j,v⟩:=N
   obtain⟨E,I⟩:=hp.2 0 (i,rv) (j,v) rfl rfl
   simp only at E
   subst E
   simp only [uN]at h
   rcases D:place i with _|⟨off,k⟩
   ·simp only [D]at h;cases h
   simp only [D]at h
   by_cases hc:rv.cells.length=k∧off+k<=cs.length
   rotate_left
   ·rw [if_neg hc]at h;cases h
   rw [if_pos hc]at h
   have F:rv.sized=true∧tU r=true:=by simpa [tU]using hs
   obtain⟨O,Q,T⟩:=I.sized F.1
   have J:v.cells.size=k:=by rw [O];exact hc.1
   obtain⟨f1,f2⟩:=Du v off vs za
   obtain⟨q,g1,g2,g3,g4,g5⟩:=vH r pvs (setCells cs off rv.cells) g (v.cells.zipIdx.foldl (fun(cs:Array Value)(x:Value×Nat)=>cs.setIfInBounds (off+x.2) x.1) vs) h F.2
    ⟨by have:=hp.1;simpa using this,fun i x y K L=>hp.2 (i+1) x y (by simpa using K) (by simpa using L)⟩
    (by rw [f1,vg];exact hl)
    (fun m c u C f => by
     rw [yE _ _ _ _ za]at C
     rw [f2]at f
     by_cases hm:off<=m∧m<off+rv.cells.length
     ·rw [if_pos hm]at C
      rw [if_pos za]at f
      exact Q _ c u C f
     ·rw [if_neg hm]at C
      rw [if_neg za]at f
      exact H m c u C f)
   refine⟨q,?_,g2,by rw [g3,vg],g4,fun h1=>g5 fun u hu=>?_⟩
   ·simp only [Instr.fill,D,J]
    rw [if_neg]
    ·exact g1
    ·simp;omega
   ·obtain⟨m,hm,G⟩:=Array.getElem_of_mem hu
    have f:(v.cells.zipIdx.foldl (fun(cs:Array Value)(x:Value×Nat)=>cs.setIfInBounds (off+x.2) x.1) vs)[m]? =some u:=by rw [Array.getElem?_eq_getElem hm,G]
    rw [f2]at f
    split at f
    ·exact T u (EG f)
    ·exact h1 u (EG f)
theorem CW(j:Array Field)(h:(j.toList.all fun f=>(szT P f.type).isSome)=true):
  (j.mapM fun f=>do pure (f.offset, <-sizeOf f.type):Sem (Array (Nat×Nat))).run P w= .ok (j.map fun f=>(f.offset,(szT P f.type).getD 0)) w:=by
 have key:∀(l:List Field),(∀f∈l,(szT P f.type).isSome=true)->(l.mapM fun f=>Prod.mk f.offset<$>sizeOf f.type:Sem (List (Nat×Nat))).run P w= .ok (l.map fun f=>(f.offset,(szT P f.type).getD 0)) w:=by
  intro l
  induction l with
  |nil=>intro _;rfl
  |cons f l r=>
   intro hl
   have hf:=hl f zc
   obtain⟨n,k⟩:=Option.isSome_iff_exists.1 hf
   simp [List.mapM_cons,rQ k,r (fun g q=>hl g (by simp [q])),k]
 have := key j.toList (fun f hf => by
  have:=List.all_eq_true.1 h f (by simpa using hf)
  exact this)
 simp only [bind_pure_comp,Array.mapM_eq_mapM_toList,Sem.run_map,this,EH]
 congr 1
 apply Array.ext'
 simp
theorem Bl{t:TypeId}{l:List (Nat×RV)}{pvs:Array (Nat×Value)}{b:sj}{v:RV}{u:Ups}{r:List Nat}(hl:xc P t l b=some ((v,u),r,true))(hp:BK S loc l pvs.toList):
  ∃v',(Instr.build t pvs).run P w= .ok v' w∧R S loc v v'∧u=[]:=by
 unfold xc at hl
 rcases hu:P.underlying t with _|d
 ·simp only [hu]at hl;exact fE b hl
 rcases F:sr P t with _|z
 ·rw [hu,F]at hl;cases d<;>exact fE b hl
 rw [hu,F]at hl
 obtain⟨i,hi,D⟩:=tJ F
 obtain⟨G,z2⟩:=uT S loc z
 cases d<;>first|exact fE b hl|skip
 case struct C=>
  by_cases g:(C.toList.all fun f=>(szT P f.type).isSome)=true
  rotate_left
  ·simp only [g]at hl;exact fE b hl
  simp only [g,if_true]at hl
  rcases hf:uN (AK P C) (sn z).cells l with _|cs
  ·simp only [hf]at hl;exact fE b hl
  simp only [hf]at hl
  obtain⟨h1, -,hs⟩:=sd hl
  cases h1
  obtain⟨q,g1,g2,g3,g4,_⟩:=vH l pvs.toList _ cs z.cells hf hs.symm hp G z2
  refine⟨.agg q,?_,vR g2 g4,rfl⟩
  have E:((C.map fun f=>(f.offset,(szT P f.type).getD 0))[·]?)=AK P C:=by
   funext j
   unfold AK
   rw [Array.getElem?_map]
   cases H:C[j]? with
   |none=>rfl
   |some f=>
    have:=List.all_eq_true.1 g f (by simpa using EG H)
    obtain⟨n,I⟩:=Option.isSome_iff_exists.1 this
    simp [I]
  simp only [Instr.build,Sem.run_bind,zeroValue,typeInfo,run_program,EH,hi,Sem.run_pure,D,run_underlying hu,CW C g,E,g1]
 case array len e=>
  rcases hk:szT P e with _|k
  ·simp only [hk]at hl;exact fE b hl
  simp only [hk]at hl
  rcases hf:uN (fun i=>some (i*k,k)) (sn z).cells l with _|cs
  ·simp only [hf]at hl;exact fE b hl
  simp only [hf]at hl
  obtain⟨h1, -,hs⟩:=sd hl
  cases h1
  obtain⟨q,g1,g2,g3,g4,_⟩:=vH l pvs.toList _ cs z.cells hf hs.symm hp G z2
  refine⟨.agg q,?_,vR g2 g4,rfl⟩
  simp only [Instr.build,Sem.run_bind,zeroValue,typeInfo,run_program,EH,hi,Sem.run_pure,D,run_underlying hu,rQ hk,g1]
end
end Go.Dw
