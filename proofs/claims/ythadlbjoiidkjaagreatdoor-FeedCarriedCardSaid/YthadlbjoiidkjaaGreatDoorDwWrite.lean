
import Derived.Test.YthadlbjoiidkjaaGreatDoorDwMem

namespace Go.Dw
theorem zn(v:Value)(h:∀cs,v≠ .agg cs):(rJ v).cells=[rJ v]∧v.cells= #[v]:=by
 refine⟨?_,?_⟩
 ·unfold rJ;split<;>rfl
 ·cases v<;>first|rfl|exact(h _ rfl).elim
theorem tY(S:pR)(loc:qe)(v:Value):v.cells.size=(qm v).cells.length∧∀(i:Nat)c u,(qm v).cells[i]? =some c->v.cells[i]? =some u->R S loc c u:=by
 by_cases h:∃cs,v= .agg cs
 ·obtain⟨cs,rfl⟩:=h
  refine⟨by simp [qm,RV.cells,Value.cells],fun i c u h1 h2=>?_⟩
  simp only [qm,RV.cells,List.getElem?_map,Array.getElem?_toList]at h1
  simp only [Value.cells]at h2
  simp only [h2,Option.map_some,Option.some.injEq]at h1
  subst h1
  exact R.rJ S loc u
 ·have h':∀cs,v≠ .agg cs:=fun cs e=>h ⟨cs,e⟩
  have he:qm v=rJ v:=by
   unfold qm
   split
   ·exact(h' _ rfl).elim
   ·rfl
  obtain⟨h1,h2⟩:=zn v h'
  rw [he,h1,h2]
  refine⟨rfl,fun i c u h3 h4=>?_⟩
  cases i with
  |zero=>
   simp at h3 h4
   subst h3;subst h4
   exact R.rJ S loc v
  |succ i=>simp at h3
section
variable {P:Program}{X:Ctx}{S:pR}{loc:qe}{s:St}{w:World}
theorem V.uJ{p:PD}{v:Value}(h:V S p v)(hp:p.one=true):v.oneCell'=true∧v.cells= #[v]:=by
 cases h<;>first|exact⟨rfl,rfl⟩|(simp [PD.one]at hp;done)|skip
 rename_i hpl
 unfold A9 at hpl
 split at hpl<;>first|exact⟨rfl,rfl⟩|cases hpl
theorem cells_one{v:Value}(h:v.oneCell'=true):v.cells= #[v]:=by
 cases v<;>first|rfl|(simp [Value.oneCell']at h)
theorem R.uJ{rv:RV}{v:Value}(h:R S loc rv v)(ho:rv.one=true):v.oneCell'=true∧v.cells= #[v]:=by
 cases h with
 |d h=>exact h.uJ ho
 |mo=>exact⟨rfl,rfl⟩
 |cptr=>exact⟨rfl,rfl⟩
 |ref id ver _ _ h1=>exact⟨h1,cells_one h1⟩
 |ptr id off _ _ h1=>exact⟨h1,cells_one h1⟩
 |elt a b c d _ _ h1=>exact⟨h1,cells_one h1⟩
 |view a b c d _ _ h1=>exact⟨h1,cells_one h1⟩
 |clo=>exact⟨rfl,rfl⟩
 |fview _ _ _ _ _ h1=>exact⟨h1,cells_one h1⟩
 |err t x=>exact⟨rfl,rfl⟩
 |noerr=>exact⟨rfl,rfl⟩
 |dfull _ _ _=>exact⟨rfl,rfl⟩
 |ifc _ _ _ _=>exact⟨rfl,rfl⟩
 |undef=>simp [RV.one]at ho
 |junk=>simp [RV.one]at ho
 |agg=>simp [RV.one]at ho
 |tup=>simp [RV.one]at ho
theorem R.sized{rv:RV}{v:Value}(h:R S loc rv v)(hs:rv.sized=true):
  v.cells.size=rv.cells.length∧(∀(i:Nat)c u,rv.cells[i]? =some c->v.cells[i]? =some u->R S loc c u)∧∀u∈v.cells,u.oneCell'=true:=by
 have key:∀(cs:List RV)(vs:Array Value),v= .agg vs->vs.size=cs.length->rv.cells=cs->(∀(i:Nat)c u,cs[i]? =some c->vs[i]? =some u->R S loc c u)->
   v.cells.size=rv.cells.length∧(∀(i:Nat)c u,rv.cells[i]? =some c->v.cells[i]? =some u->R S loc c u)∧∀u∈v.cells,u.oneCell'=true:=by
  intro cs vs hv hl hc hr
  subst hv
  rw [hc]
  refine⟨hl,hr,fun u hu=>?_⟩
  replace hu:u∈vs:=hu
  obtain⟨i,hi,he⟩:=Array.getElem_of_mem hu
  have hi':i<cs.length:=by rw [<-hl];exact hi
  have h1:=hr i cs[i] u (zd hi') (by rw [Array.getElem?_eq_getElem hi,he])
  refine(h1.uJ ?_).1
  have:=List.all_eq_true.1 hs cs[i] (by rw [hc];exact List.getElem_mem hi')
  exact this
 have single:rv.cells=[rv]->v.cells.size=rv.cells.length∧(∀(i:Nat)c u,rv.cells[i]? =some c->v.cells[i]? =some u->R S loc c u)∧∀u∈v.cells,u.oneCell'=true:=by
  intro hc
  have ho:rv.one=true:=List.all_eq_true.1 hs rv (by rw [hc];simp)
  obtain⟨h1,h2⟩:=h.uJ ho
  rw [hc,h2]
  refine⟨rfl,fun i c u h3 h4=>?_,fun u hu=>?_⟩
  ·cases i with
   |zero=>simp at h3 h4;subst h3;subst h4;exact h
   |succ i=>simp at h3
  ·simp at hu;rw [hu];exact h1
 rcases rv with p|_|_|_|cs|_|_|_|_|_|_|_|_
 case d=>
  cases p with
  |agg cs=>
   obtain⟨vs,h1,h2,h3⟩:=h.yb
   exact key (cs.map .d) vs h1 (by simpa using h2) rfl h3
  |_=>exact single rfl
 case agg=>
  obtain⟨vs,h1,h2,h3⟩:=h.vr
  exact key cs vs h1 h2 rfl h3
 all_goals exact single rfl
theorem wJ(l:List RV):∀(cs:List RV)(off i:Nat),off+l.length<=cs.length->
  (setCells cs off l)[i]? =if off<=i∧i<off+l.length then l[i-off]? else cs[i]? :=by
 induction l with
 |nil=>intro cs off i _;simp only [setCells,List.length_nil];rw [if_neg za]
 |cons v r ih=>
  intro cs off i hle
  simp only [List.length_cons]at hle⊢
  rw [setCells,ih _ _ _ so]
  by_cases h1:off+1<=i∧i<off+1+r.length
  ·rw [if_pos h1,if_pos za]
   obtain⟨k,rfl⟩:∃k,i=off+1+k:=⟨i-(off+1),za⟩
   rw [show off+1+k-(off+1)=k by omega,show off+1+k-off=k+1 by omega,List.getElem?_cons_succ]
  ·rw [if_neg h1]
   by_cases h2:i=off
   ·subst h2
    rw [if_pos za,List.getElem?_set_self za,Nat.sub_self,List.getElem?_cons_zero]
   ·rw [if_neg za,List.getElem?_set_ne za]
theorem tk(l:List RV):∀(cs:List RV)(off:Nat),(setCells cs off l).length=cs.length:=by
 induction l with
 |nil=>intro cs off;rfl
 |cons v r ih=>intro cs off;rw [setCells,ih];simp
theorem yO(l:List PD):∀(cs:List PD)(off i:Nat),off+l.length<=cs.length->
  (su cs off l)[i]? =if off<=i∧i<off+l.length then l[i-off]? else cs[i]? :=by
 induction l with
 |nil=>intro cs off i _;simp only [su,List.length_nil];rw [if_neg za]
 |cons v r ih=>
  intro cs off i hle
  simp only [List.length_cons]at hle⊢
  rw [su,ih _ _ _ so]
  by_cases h1:off+1<=i∧i<off+1+r.length
  ·rw [if_pos h1,if_pos za]
   obtain⟨k,rfl⟩:∃k,i=off+1+k:=⟨i-(off+1),za⟩
   rw [show off+1+k-(off+1)=k by omega,show off+1+k-off=k+1 by omega,List.getElem?_cons_succ]
  ·rw [if_neg h1]
   by_cases h2:i=off
   ·subst h2
    rw [if_pos za,List.getElem?_set_self za,Nat.sub_self,List.getElem?_cons_zero]
   ·rw [if_neg za,List.getElem?_set_ne za]
theorem xg(l:List PD):∀(cs:List PD)(off:Nat),(su cs off l).length=cs.length:=by
 induction l with
 |nil=>intro cs off;rfl
 |cons v r ih=>intro cs off;rw [su,ih];simp
def ue(P:Program)(X:Ctx)(s':St)(o:Oper)(a:Act)(w:World):Prop:=
 ∀(K:Act->World->Prop)(Q:Exit->Act->World->Prop),(∀a' w',tV P X s' a' w'->K a' w')->o.wp P a w K Q
theorem ue.value{s':St}{o:Oper}{a:Act}{w w':World}{v':Value}{v:RV}{S:pR}{loc:qe}(hd:a.defers=[])(hdst:∀d,o.dst=some d->d<X.nt)
  (hrun:(execOp a.eval o).run P w= .ok (.value v') w') (hS:Sim P X S loc s' a.tmps w') (hr:R S loc v v'):ue P X (s'.put o.dst v) o a w:=by
 intro K Q hK
 unfold Oper.wp
 rw [hrun]
 exact hK _ _ ⟨by cases o.dst<;>exact hd,S,loc,hS.put (a:=a) hr o.dst hdst⟩
theorem ue.skip{s':St}{o:Oper}{a:Act}{w w':World}{S:pR}{loc:qe}(hd:a.defers=[])(hdst:∀d,o.dst=some d->d<X.nt)
  (hrun:(execOp a.eval o).run P w= .ok .skip w') (hS:Sim P X S loc s' a.tmps w'):ue P X (s'.put o.dst .undef) o a w:=by
 intro K Q hK
 unfold Oper.wp
 rw [hrun]
 exact hK _ _ ⟨by cases o.dst<;>exact hd,S,loc,hS.put (a:=a) .undef o.dst hdst⟩
variable {tm:Array Value}
theorem Sim.qf(h:Sim P X S loc s tm w){id:Nat}(hb:s.boxes id=none):loc id=none:=by
 cases hl:loc id with
 |none=>rfl
 |some L=>
  obtain⟨bx,hbx⟩:=h.dom id L hl
  rw [hb]at hbx
  cases hbx
theorem Sim.newVar(h:Sim P X S loc s tm w){id:Nat}(hb:s.boxes id=none)(cs:List RV)(vs:Array Value)(t:TypeId)(hl:vs.size=cs.length)
  (hr:∀(i:Nat)c u,cs[i]? =some c->vs[i]? =some u->R S loc c u):
  ∃loc',Sim P X S loc' { s with boxes:=upd s.boxes id (.var cs) } tm (w.alloc (.cells vs t))∧R S loc' (.ptr id 0) (.pointer (some ⟨w.heap.size,0,none⟩))∧qa loc loc':=by
 have hloc:=h.qf hb
 have hst:qp (loc id) (.var w.heap.size):=by rw [hloc];trivial
 refine⟨upd loc id (.var w.heap.size),?_,?_,qa.upd hst⟩
 ·refine h.sf (Step.alloc w _) id _ _ (fun b hc=>by cases hc) ?_ ?_ hst
  ·exact .var cs w.heap.size t vs (heap_alloc_new w _) hl (fun i c v h1 h2=>(hr i c v h1 h2).mono (Sub.refl S) (qa.upd hst))
  ·intro b hb;cases hb;exact .inr (.inl (Nat.le_refl _))
 ·exact .ptr id 0 _ (.var w.heap.size) rfl (pW _ _ _) (fun b=>⟨fun he=>by cases he;rfl,(fun he=>by cases he)⟩)
theorem ry{t:TypeId}{z:Value}(h:qQ P t=some z):∃i,P.info? t=some i∧i.zero=some z:=by
 unfold qQ at h
 cases hi:P.info? t with
 |none=>simp [hi]at h
 |some i=>simp only [hi,zc]at h;exact⟨i,rfl,h⟩
theorem zi(h:Sim P X S loc s tm w){id:Nat}{t:TypeId}{v:RV}{u:Ups}{r:List Nat}(hl:vR P id t s.boxes=some ((v,u),r,true)):
  ∃v' w' loc',(Instr.alloc t true (.tuple #[])).run P w= .ok v' w'∧Sim P X S loc' (s.ups u) tm w'∧R S loc' v v':=by
 unfold vR at hl
 rcases hz:qQ P t with _|z
 ·simp only [hz]at hl;exact fE s.boxes hl
 simp only [hz]at hl
 obtain⟨_,r1,r2,h1,h2,_⟩:=M.bind_some hl
 obtain⟨hb,_,_⟩:=M.qo h1
 obtain⟨h3, -, -⟩:=M.pK h2
 cases h3
 obtain⟨i,hi,hiz⟩:=ry hz
 obtain⟨h4,h5⟩:=tY S loc z
 obtain⟨loc',h6,h7,_⟩:=h.newVar hb _ z.cells t h4 h5
 refine⟨_,_,loc',?_,h6,h7⟩
 simp [Instr.alloc,zeroValue,typeInfo,hi,hiz,newVar,newRow]
theorem AN(h:Sim P X S loc s tm w){id:Nat}{t:TypeId}{x v:RV}{u:Ups}{r:List Nat}{vx:Value}(hl:boxD id x s.boxes=some ((v,u),r,true))(hx:R S loc x vx):
  ∃v' w' loc',(Instr.box t vx).run P w= .ok v' w'∧Sim P X S loc' (s.ups u) tm w'∧R S loc' v v':=by
 obtain⟨_,r1,r2,h1,h2,_⟩:=M.bind_some hl
 obtain⟨hb,_,_⟩:=M.qo h1
 obtain⟨h3, -,hs⟩:=M.pN h2
 cases h3
 obtain⟨h4,h5,h6⟩:=hx.sized hs.symm
 obtain⟨loc',h6,h7,_⟩:=h.newVar hb _ vx.cells t h4 h5
 refine⟨_,_,loc',?_,h6,h7⟩
 simp [Instr.box,newVar,newRow]
theorem sg(P:Program)(g o:Nat)(t:TypeId)(fz:Nat×Nat)(m:Nat)(hfz:∀j,j<m->¬(fz.1<=j∧j<fz.2)):∀(vs:List Value)(i:Nat)(cur:Array Value)(w:World),cur.size=m->w.heap[g]? =some (.cells cur t fz)->o+i+vs.length<=cur.size->(∀v∈vs,v.oneCell'=true)->
  (storeCells ⟨g,o,none⟩ vs i).run P w= .ok () (w.setRow g (cur.toList.take (o+i)++vs++cur.toList.drop (o+i+vs.length)).toArray)
 | [],i,cur,w,_,hg,_,_=>by
  rw [List.append_nil,List.length_nil,Nat.add_zero,List.take_append_drop,Array.toArray_toList,setRow_self w g cur t fz hg]
  rfl
 |v::r,i,cur,w,hm,hg,hl,h1=>by
  rw [List.length_cons]at hl
  have hlt:o+i<cur.size:=by omega
  have h2:(⟨g,o,none⟩:Addr).add i=⟨g,o+i,none⟩:=by unfold Addr.add;split<;>simp_all
  have h3:w.frozen? ⟨g,o+i,none⟩=false:=by
   simp only [World.frozen?,hg]
   have:=hfz (o+i) za
   simpa using this
  have h4:(store ((⟨g,o,none⟩:Addr).add i) v).run P w= .ok () (w.setRow g (cur.setIfInBounds (o+i) v)):=by
   rw [h2,run_store P w _ v _ (h1 v sm),show w.cell? ⟨g,o+i,none⟩=some cur[o+i]by simp [World.cell?,hg,hlt]]
   simp [h3,setCell_eq_setRow w g (o+i) cur t fz v hg]
  have h5:=sg P g o t fz m hfz r (i+1) (cur.setIfInBounds (o+i) v) (w.setRow g (cur.setIfInBounds (o+i) v)) (by simpa using hm) (setRow_heap w g cur _ t fz hg) so fun u hu=>h1 u (by simp [hu])
  have h6:((cur.setIfInBounds (o+i) v).toList.take (o+(i+1))++r++(cur.setIfInBounds (o+i) v).toList.drop (o+(i+1)+r.length))=cur.toList.take (o+i)++(v::r)++cur.toList.drop (o+i+(v::r).length):=by
   have hls:cur.toList.length=cur.size:=by simp
   rw [Array.toList_setIfInBounds,List.length_cons,show o+(i+1)=o+i+1 by omega,List.take_succ_eq_append_getElem so,List.getElem_set_self,List.take_set_of_le za,List.drop_set_of_lt za]
   simp only [List.append_assoc,List.cons_append,List.nil_append]
   rw [show o+i+1+r.length=o+i+(r.length+1)by omega]
  rw [h6]at h5
  simp only [storeCells,Sem.run_bind,h4,Result.andThen_ok]
  rw [h5,setRow_setRow]
theorem FzOk.free{fz:Nat×Nat}{cap sz m:Nat}(h:FzOk fz cap sz)(hm:m=cap*sz):∀j,j<m->¬(fz.1<=j∧j<fz.2):=by
 intro j hj
 rcases h with rfl|⟨h1,h2⟩
 ·simp
 ·subst h2
  omega
theorem wM{t:TypeId}{n:Nat}(hn:szT P t=some n){g o:Nat}{cur:Array Value}{ty:TypeId}{fz:Nat×Nat}(hfz:∀j,j<cur.size->¬(fz.1<=j∧j<fz.2))(hg:w.heap[g]? =some (.cells cur ty fz)){v:Value}(hv:v.cells.size=n)(hle:o+n<=cur.size)
  (h1:∀u∈v.cells,u.oneCell'=true):
  (storeVar t ⟨g,o,none⟩ v).run P w= .ok () (w.setRow g (cur.toList.take o++v.cells.toList++cur.toList.drop (o+n)).toArray):=by
 have:=sg P g o ty fz cur.size hfz v.cells.toList 0 cur w rfl hg so (fun u hu=>h1 u (by simpa using hu))
 simp only [storeVar,Sem.run_bind,pS hn,Result.andThen_ok,hv,ne_eq,not_true_eq_false,if_false]
 simp only [Nat.add_zero,Array.length_toList,hv]at this
 simpa using this
theorem sy(cur vs:List Value)(o n i:Nat)(hv:vs.length=n)(hle:o+n<=cur.length):(cur.take o++vs++cur.drop (o+n))[i]? =if o<=i∧i<o+n then vs[i-o]? else cur[i]? :=by
 subst hv
 by_cases h1:i<o
 ·rw [if_neg za,List.append_assoc,List.getElem?_append_left so,List.getElem?_take,if_pos h1]
 ·by_cases h2:i<o+vs.length
  ·rw [if_pos za,List.append_assoc,List.getElem?_append_right so,List.length_take,Nat.min_eq_left za,List.getElem?_append_left za]
  ·rw [if_neg za,List.getElem?_append_right so,List.getElem?_drop]
   congr 1
   simp
   omega
end
end Go.Dw
