
import Derived.Test.YthadlbjoiidkjaaGreatDoorDwStore
import Derived.Laws.Tables

namespace Go.Dw
section
variable {P:Program}{X:Ctx}{S:pR}{loc:qe}{s:St}{tm:Array Value}{w:World}
theorem AY(l:List Value):∀(k off:Nat)(cs:Array Value),off+k+l.length<=cs.size->
  ((l.zipIdx k).foldl (fun(cs:Array Value)(x:Value×Nat)=>cs.setIfInBounds (off+x.2) x.1) cs).size=cs.size∧
  ∀i,((l.zipIdx k).foldl (fun(cs:Array Value)(x:Value×Nat)=>cs.setIfInBounds (off+x.2) x.1) cs)[i]? =if off+k<=i∧i<off+k+l.length then l[i-(off+k)]? else cs[i]? :=by
 induction l with
 |nil=>intro k off cs _;simp only [List.zipIdx_nil,List.foldl_nil,List.length_nil];exact⟨trivial,fun i=>by rw [if_neg za]⟩
 |cons v r ih=>
  intro k off cs hle
  simp only [List.length_cons]at hle
  simp only [List.zipIdx_cons,List.foldl_cons]
  obtain⟨h1,h2⟩:=ih (k+1) off (cs.setIfInBounds (off+k) v) so
  refine⟨by rw [h1];simp,fun i=>?_⟩
  rw [h2]
  simp only [List.length_cons]
  by_cases hc:off+(k+1)<=i∧i<off+(k+1)+r.length
  ·rw [if_pos hc,if_pos za]
   obtain⟨j,rfl⟩:∃j,i=off+(k+1)+j:=⟨i-(off+(k+1)),za⟩
   rw [show off+(k+1)+j-(off+(k+1))=j by omega,show off+(k+1)+j-(off+k)=j+1 by omega,List.getElem?_cons_succ]
  ·rw [if_neg hc]
   by_cases hi:i=off+k
   ·subst hi
    rw [if_pos za,Nat.sub_self,List.getElem?_cons_zero]
    have:off+k<cs.size:=by omega
    simp [this]
   ·rw [if_neg za,Array.getElem?_setIfInBounds_ne za]
theorem BC(v:Value)(off:Nat)(cs:Array Value)(h:off+v.cells.size<=cs.size):
  (v.cells.zipIdx.foldl (fun(cs:Array Value)(x:Value×Nat)=>cs.setIfInBounds (off+x.2) x.1) cs).size=cs.size∧
  ∀i,(v.cells.zipIdx.foldl (fun(cs:Array Value)(x:Value×Nat)=>cs.setIfInBounds (off+x.2) x.1) cs)[i]? =if off<=i∧i<off+v.cells.size then v.cells[i-off]? else cs[i]? :=by
 have h1:=AY v.cells.toList 0 off cs (by simpa using h)
 rw [<-Array.foldl_toList,Array.toList_zipIdx]
 simp only [Nat.add_zero,Array.length_toList,Array.getElem?_toList]at h1
 exact h1
def Parts(S:pR)(loc:qe)(l:List (Nat×RV))(pvs:List (Nat×Value)):Prop:=
 l.length=pvs.length∧∀(i:Nat)x y,l[i]? =some x->pvs[i]? =some y->x.1=y.1∧R S loc x.2 y.2
theorem uz{place:Nat->Option (Nat×Nat)}:∀(l:List (Nat×RV))(pvs:List (Nat×Value))(cs cs':List RV)(vs:Array Value),vO place cs l=some cs'->tf l=true->Parts S loc l pvs->
  vs.size=cs.length->(∀(i:Nat)c u,cs[i]? =some c->vs[i]? =some u->R S loc c u)->
  ∃vs',Instr.fill place vs pvs=some vs'∧vs'.size=cs'.length∧cs'.length=cs.length∧(∀(i:Nat)c u,cs'[i]? =some c->vs'[i]? =some u->R S loc c u)∧
   ((∀u∈vs,u.oneCell'=true)->∀u∈vs',u.oneCell'=true)
 | [],pvs,cs,cs',vs,h,_,hp,hl,hr=>by
  have:pvs=[]:=List.eq_nil_of_length_eq_zero (by simpa using hp.1.symm)
  subst this
  simp only [vO,Option.some.injEq]at h
  subst h
  exact⟨vs,rfl,hl,rfl,hr,fun h=>h⟩
 |(i,rv)::r,pvs,cs,cs',vs,h,hs,hp,hl,hr=>by
  cases pvs with
  |nil=>exact absurd hp.1 sm
  |cons pv pvs=>
   obtain⟨j,v⟩:=pv
   obtain⟨hij,hrv⟩:=hp.2 0 (i,rv) (j,v) rfl rfl
   simp only at hij
   subst hij
   simp only [vO]at h
   rcases hpl:place i with _|⟨off,k⟩
   ·simp only [hpl]at h;cases h
   simp only [hpl]at h
   by_cases hc:rv.cells.length=k∧off+k<=cs.length
   rotate_left
   ·rw [if_neg hc]at h;cases h
   rw [if_pos hc]at h
   have hs1:rv.sized=true∧tf r=true:=by simpa [tf]using hs
   obtain⟨y1,y2,y3⟩:=hrv.sized hs1.1
   have hsz:v.cells.size=k:=by rw [y1];exact hc.1
   obtain⟨f1,f2⟩:=BC v off vs za
   obtain⟨vs',g1,g2,g3,g4,g5⟩:=uz r pvs (setCells cs off rv.cells) cs' (v.cells.zipIdx.foldl (fun(cs:Array Value)(x:Value×Nat)=>cs.setIfInBounds (off+x.2) x.1) vs) h hs1.2
    ⟨by have:=hp.1;simpa using this,fun i x y hx hy=>hp.2 (i+1) x y (by simpa using hx) (by simpa using hy)⟩
    (by rw [f1,tk];exact hl)
    (fun m c u hcm hum => by
     rw [wJ _ _ _ _ za]at hcm
     rw [f2]at hum
     by_cases hm:off<=m∧m<off+rv.cells.length
     ·rw [if_pos hm]at hcm
      rw [if_pos za]at hum
      exact y2 _ c u hcm hum
     ·rw [if_neg hm]at hcm
      rw [if_neg za]at hum
      exact hr m c u hcm hum)
   refine⟨vs',?_,g2,by rw [g3,tk],g4,fun h1=>g5 fun u hu=>?_⟩
   ·simp only [Instr.fill,hpl,hsz]
    rw [if_neg]
    ·exact g1
    ·simp;omega
   ·obtain⟨m,hm,hme⟩:=Array.getElem_of_mem hu
    have hum:(v.cells.zipIdx.foldl (fun(cs:Array Value)(x:Value×Nat)=>cs.setIfInBounds (off+x.2) x.1) vs)[m]? =some u:=by rw [Array.getElem?_eq_getElem hm,hme]
    rw [f2]at hum
    split at hum
    ·exact y3 u (Array.mem_of_getElem? hum)
    ·exact h1 u (Array.mem_of_getElem? hum)
theorem A8(fs:Array Field)(h:(fs.toList.all fun f=>(szT P f.type).isSome)=true):
  (fs.mapM fun f=>do pure (f.offset, <-sizeOf f.type):Sem (Array (Nat×Nat))).run P w= .ok (fs.map fun f=>(f.offset,(szT P f.type).getD 0)) w:=by
 have key:∀(l:List Field),(∀f∈l,(szT P f.type).isSome=true)->(l.mapM fun f=>Prod.mk f.offset<$>sizeOf f.type:Sem (List (Nat×Nat))).run P w= .ok (l.map fun f=>(f.offset,(szT P f.type).getD 0)) w:=by
  intro l
  induction l with
  |nil=>intro _;rfl
  |cons f l ih=>
   intro hl
   have hf:=hl f sm
   obtain⟨n,hn⟩:=Option.isSome_iff_exists.1 hf
   simp [List.mapM_cons,pS hn,ih (fun g hg=>hl g (by simp [hg])),hn]
 have := key fs.toList (fun f hf => by
  have:=List.all_eq_true.1 h f (by simpa using hf)
  exact this)
 simp only [bind_pure_comp,Array.mapM_eq_mapM_toList,Sem.run_map,this,Result.andThen_ok]
 congr 1
 apply Array.ext'
 simp
theorem zl{t:TypeId}{l:List (Nat×RV)}{pvs:Array (Nat×Value)}{b:p8}{v:RV}{u:Ups}{r:List Nat}(hl:vT P t l b=some ((v,u),r,true))(hp:Parts S loc l pvs.toList):
  ∃v',(Instr.build t pvs).run P w= .ok v' w∧R S loc v v'∧u=[]:=by
 unfold vT at hl
 rcases hu:P.underlying t with _|d
 ·simp only [hu]at hl;exact fE b hl
 rcases hz:qQ P t with _|z
 ·rw [hu,hz]at hl;cases d<;>exact fE b hl
 rw [hu,hz]at hl
 obtain⟨i,hi,hiz⟩:=ry hz
 obtain⟨z1,z2⟩:=tY S loc z
 cases d<;>first|exact fE b hl|skip
 case struct fs=>
  by_cases hall:(fs.toList.all fun f=>(szT P f.type).isSome)=true
  rotate_left
  ·simp only [hall]at hl;exact fE b hl
  simp only [hall,if_true]at hl
  rcases hf:vO (zA P fs) (qm z).cells l with _|cs
  ·simp only [hf]at hl;exact fE b hl
  simp only [hf]at hl
  obtain⟨h1, -,hs⟩:=qi hl
  cases h1
  obtain⟨vs',g1,g2,g3,g4,_⟩:=uz l pvs.toList _ cs z.cells hf hs.symm hp z1 z2
  refine⟨.agg vs',?_,tP g2 g4,rfl⟩
  have hpl:((fs.map fun f=>(f.offset,(szT P f.type).getD 0))[·]?)=zA P fs:=by
   funext j
   unfold zA
   rw [Array.getElem?_map]
   cases hj:fs[j]? with
   |none=>rfl
   |some f=>
    have:=List.all_eq_true.1 hall f (by simpa using Array.mem_of_getElem? hj)
    obtain⟨n,hn⟩:=Option.isSome_iff_exists.1 this
    simp [hn]
  simp only [Instr.build,Sem.run_bind,zeroValue,typeInfo,run_program,Result.andThen_ok,hi,Sem.run_pure,hiz,run_underlying hu,A8 fs hall,hpl,g1]
 case array len e=>
  rcases hk:szT P e with _|k
  ·simp only [hk]at hl;exact fE b hl
  simp only [hk]at hl
  rcases hf:vO (fun i=>some (i*k,k)) (qm z).cells l with _|cs
  ·simp only [hf]at hl;exact fE b hl
  simp only [hf]at hl
  obtain⟨h1, -,hs⟩:=qi hl
  cases h1
  obtain⟨vs',g1,g2,g3,g4,_⟩:=uz l pvs.toList _ cs z.cells hf hs.symm hp z1 z2
  refine⟨.agg vs',?_,tP g2 g4,rfl⟩
  simp only [Instr.build,Sem.run_bind,zeroValue,typeInfo,run_program,Result.andThen_ok,hi,Sem.run_pure,hiz,run_underlying hu,pS hk,g1]
end
end Go.Dw
