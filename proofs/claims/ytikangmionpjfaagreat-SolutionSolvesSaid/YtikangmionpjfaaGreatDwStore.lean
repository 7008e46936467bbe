
import Derived.Test.YtikangmionpjfaaGreatDwMem
set_option linter.unusedVariables false
set_option linter.unusedSimpArgs false
open List renaming append_assoc->B8, ext_getElem?->CL, getElem?_append_left->CM, getElem?_append_right->CN, getElem?_cons_succ->CO, getElem?_cons_zero->CP, getElem?_set->CQ, getElem?_set_ne->CR, getElem?_set_self->CS, getElem?_take->CB, length_cons->CT, length_nil->CU, mem_of_getElem?->CW, mem_or_eq_of_mem_set->CX, nil_append->CY
open Nat renaming add_mul->CZ, add_zero->C0, mul_le_mul_right->C1, one_mul->C2, sub_self->C3
open Bool renaming and_eq_true->C4, true_eq->C5

namespace Go.Dw
theorem zu(v:Value)(h:∀cs,v≠ .agg cs):(rE v).cells=[rE v]∧v.cells= #[v]:=by
 refine⟨?_,?_⟩
 ·unfold rE;split<;>rfl
 ·cases v<;>first|rfl|exact(h _ rfl).elim
theorem sq(S:pr)(loc:pY)(v:Value):v.cells.size=(pX v).cells.length∧∀(i:Nat)c u,(pX v).cells[i]? =some c->v.cells[i]? =some u->R S loc c u:=by
 by_cases h:∃cs,v= .agg cs
 ·obtain⟨cs,rfl⟩:=h
  refine⟨by simp [pX,RV.cells,Value.cells],fun i c u h1 a=>?_⟩
  simp only [pX,RV.cells,List.getElem?_map,Array.getElem?_toList]at h1
  simp only [Value.cells]at a
  simp only [a,Option.map_some,Option.some.injEq]at h1
  subst h1
  exact R.rE S loc u
 ·have g:∀cs,v≠ .agg cs:=fun cs e=>h ⟨cs,e⟩
  have he:pX v=rE v:=by
   unfold pX
   split
   ·exact(g _ rfl).elim
   ·rfl
  obtain⟨h1,a⟩:=zu v g
  rw [he,h1,a]
  refine⟨rfl,fun i c u f j=>?_⟩
  cases i with
  |zero=>
   simp at f j
   subst f;subst j
   exact R.rE S loc v
  |succ i=>simp at f
section
variable {P:Program}{X:Ctx}{S:pr}{loc:pY}{s:St}{w:World}
theorem V.tf{p:PD}{v:Value}(h:V S p v)(hp:p.one=true):v.oneCell'=true∧v.cells= #[v]:=by
 cases h<;>first|exact⟨rfl,rfl⟩|(simp [PD.one]at hp;done)|skip
 rename_i a
 unfold Bi at a
 split at a<;>first|exact⟨rfl,rfl⟩|cases a
theorem cells_one{v:Value}(h:v.oneCell'=true):v.cells= #[v]:=by
 cases v<;>first|rfl|(simp [Value.oneCell']at h)
theorem R.tf{rv:RV}{v:Value}(h:R S loc rv v)(ho:rv.one=true):v.oneCell'=true∧v.cells= #[v]:=by
 cases h with
 |d h=>exact h.tf ho
 |px=>exact⟨rfl,rfl⟩
 |cptr=>exact⟨rfl,rfl⟩
 |ref id ver _ _ h1=>exact⟨h1,cells_one h1⟩
 |ptr id off _ _ h1=>exact⟨h1,cells_one h1⟩
 |elt a b c d _ _ h1=>exact⟨h1,cells_one h1⟩
 |view a b c d _ _ h1=>exact⟨h1,cells_one h1⟩
 |clo=>exact⟨rfl,rfl⟩
 |fview _ _ _ _ _ h1=>exact⟨h1,cells_one h1⟩
 |err t x=>exact⟨rfl,rfl⟩
 |noerr=>exact⟨rfl,rfl⟩
 |dfull _ _ _=>exact⟨rfl,rfl⟩
 |ifc _ _ _ _=>exact⟨rfl,rfl⟩
 |plit _ _ _ _ _ _ _ _=>exact⟨rfl,rfl⟩
 |pcp _ _ _ _ _ _=>exact⟨rfl,rfl⟩
 |undef=>simp [RV.one]at ho
 |junk=>simp [RV.one]at ho
 |agg=>simp [RV.one]at ho
 |tup=>simp [RV.one]at ho
theorem R.sized{rv:RV}{v:Value}(h:R S loc rv v)(hs:rv.sized=true):
  v.cells.size=rv.cells.length∧(∀(i:Nat)c u,rv.cells[i]? =some c->v.cells[i]? =some u->R S loc c u)∧∀u∈v.cells,u.oneCell'=true:=by
 have key:∀(cs:List RV)(vs:Array Value),v= .agg vs->vs.size=cs.length->rv.cells=cs->(∀(i:Nat)c u,cs[i]? =some c->vs[i]? =some u->R S loc c u)->
   v.cells.size=rv.cells.length∧(∀(i:Nat)c u,rv.cells[i]? =some c->v.cells[i]? =some u->R S loc c u)∧∀u∈v.cells,u.oneCell'=true:=by
  intro cs vs q k hc l
  subst q
  rw [hc]
  refine⟨k,l,fun u hu=>?_⟩
  replace hu:u∈vs:=hu
  obtain⟨i,hi,he⟩:=Array.getElem_of_mem hu
  have g:i<cs.length:=by rw [<-k];exact hi
  have h1:=l i cs[i] u (zd g) (by rw [Array.getElem?_eq_getElem hi,he])
  refine(h1.tf ?_).1
  have:=List.all_eq_true.1 hs cs[i] (by rw [hc];exact List.getElem_mem g)
  exact this
 have single:rv.cells=[rv]->v.cells.size=rv.cells.length∧(∀(i:Nat)c u,rv.cells[i]? =some c->v.cells[i]? =some u->R S loc c u)∧∀u∈v.cells,u.oneCell'=true:=by
  intro hc
  have ho:rv.one=true:=List.all_eq_true.1 hs rv (by rw [hc];simp)
  obtain⟨h1,f⟩:=h.tf ho
  rw [hc,f]
  refine⟨rfl,fun i c u a j=>?_,fun u hu=>?_⟩
  ·cases i with
   |zero=>simp at a j;subst a;subst j;exact h
   |succ i=>simp at a
  ·simp at hu;rw [hu];exact h1
 rcases rv with p|_|_|_|cs|_|_|_|_|_|_|_|_
 case d=>
  cases p with
  |agg cs=>
   obtain⟨vs,h1,f,a⟩:=h.ya
   exact key (cs.map .d) vs h1 (by simpa using f) rfl a
  |_=>exact single rfl
 case agg=>
  obtain⟨vs,h1,f,a⟩:=h.vH
  exact key cs vs h1 f rfl a
 all_goals exact single rfl
theorem wP(l:List RV):∀(cs:List RV)(off i:Nat),off+l.length<=cs.length->
  (setCells cs off l)[i]? =if off<=i∧i<off+l.length then l[i-off]? else cs[i]? :=by
 induction l with
 |nil=>intro cs off i _;simp only [setCells,CU];rw [if_neg za]
 |cons v r c=>
  intro cs off i hle
  simp only [CT]at hle⊢
  rw [setCells,c _ _ _ so]
  by_cases h1:off+1<=i∧i<off+1+r.length
  ·rw [if_pos h1,if_pos za]
   obtain⟨k,rfl⟩:∃k,i=off+1+k:=⟨i-(off+1),za⟩
   rw [show off+1+k-(off+1)=k by omega,show off+1+k-off=k+1 by omega,CO]
  ·rw [if_neg h1]
   by_cases a:i=off
   ·subst a
    rw [if_pos za,CS za,C3,CP]
   ·rw [if_neg za,CR za]
theorem sX(l:List RV):∀(cs:List RV)(off:Nat),(setCells cs off l).length=cs.length:=by
 induction l with
 |nil=>intro cs off;rfl
 |cons v r a=>intro cs off;rw [setCells,a];simp
theorem yS(l:List PD):∀(cs:List PD)(off i:Nat),off+l.length<=cs.length->
  (sk cs off l)[i]? =if off<=i∧i<off+l.length then l[i-off]? else cs[i]? :=by
 induction l with
 |nil=>intro cs off i _;simp only [sk,CU];rw [if_neg za]
 |cons v r c=>
  intro cs off i hle
  simp only [CT]at hle⊢
  rw [sk,c _ _ _ so]
  by_cases h1:off+1<=i∧i<off+1+r.length
  ·rw [if_pos h1,if_pos za]
   obtain⟨k,rfl⟩:∃k,i=off+1+k:=⟨i-(off+1),za⟩
   rw [show off+1+k-(off+1)=k by omega,show off+1+k-off=k+1 by omega,CO]
  ·rw [if_neg h1]
   by_cases a:i=off
   ·subst a
    rw [if_pos za,CS za,C3,CP]
   ·rw [if_neg za,CR za]
theorem xf(l:List PD):∀(cs:List PD)(off:Nat),(sk cs off l).length=cs.length:=by
 induction l with
 |nil=>intro cs off;rfl
 |cons v r a=>intro cs off;rw [sk,a];simp
def tZ(P:Program)(X:Ctx)(s':St)(o:Oper)(a:Act)(w:World):Prop:=
 ∀(K:Act->World->Prop)(Q:Exit->Act->World->Prop),(∀c w',tS P X s' c w'->K c w')->o.wp P a w K Q
theorem tZ.value{s':St}{o:Oper}{a:Act}{w w':World}{v':Value}{v:RV}{S:pr}{loc:pY}(j:a.defers=[])(c:∀d,o.dst=some d->d<X.nt)
  (f:(execOp a.eval o).run P w= .ok (.value v') w') (hS:Sim P X S loc s' a.tmps w') (k:R S loc v v'):tZ P X (s'.put o.dst v) o a w:=by
 intro K Q g
 unfold Oper.wp
 rw [f]
 exact g _ _ ⟨by cases o.dst<;>exact j,S,loc,hS.put (a:=a) k o.dst c⟩
theorem tZ.skip{s':St}{o:Oper}{a:Act}{w w':World}{S:pr}{loc:pY}(j:a.defers=[])(c:∀d,o.dst=some d->d<X.nt)
  (f:(execOp a.eval o).run P w= .ok .skip w') (hS:Sim P X S loc s' a.tmps w'):tZ P X (s'.put o.dst .undef) o a w:=by
 intro K Q g
 unfold Oper.wp
 rw [f]
 exact g _ _ ⟨by cases o.dst<;>exact j,S,loc,hS.put (a:=a) .undef o.dst c⟩
variable {tm:Array Value}
theorem Sim.pS(h:Sim P X S loc s tm w){id:Nat}(c:s.boxes id=none):loc id=none:=by
 cases f:loc id with
 |none=>rfl
 |some L=>
  obtain⟨g,a⟩:=h.dom id L f
  rw [c]at a
  cases a
theorem Sim.newVar(h:Sim P X S loc s tm w){id:Nat}(g:s.boxes id=none)(cs:List RV)(vs:Array Value)(t:TypeId)(k:vs.size=cs.length)
  (l:∀(i:Nat)c u,cs[i]? =some c->vs[i]? =some u->R S loc c u):
  ∃loc',Sim P X S loc' { s with boxes:=upd s.boxes id (.var cs) } tm (w.alloc (.cells vs t))∧R S loc' (.ptr id 0) (.pointer (some ⟨w.heap.size,0,none⟩))∧pD loc loc':=by
 have f:=h.pS g
 have a:pN (loc id) (.var w.heap.size):=by rw [f];trivial
 refine⟨upd loc id (.var w.heap.size),?_,?_,pD.upd a⟩
 ·refine h.qh (Step.alloc w _) id _ _ (fun b hc=>by cases hc) ?_ ?_ a
  ·exact .var cs w.heap.size t vs (heap_alloc_new w _) k (fun i c v h1 j=>(l i c v h1 j).mono (Sub.refl S) (pD.upd a))
  ·intro b g;cases g;exact .inr (.inl (Nat.le_refl _))
 ·exact .ptr id 0 _ (.var w.heap.size) rfl (pz _ _ _) (fun b=>⟨fun he=>by cases he;rfl,(fun he=>by cases he)⟩)
theorem qN{t:TypeId}{z:Value}(h:pZ P t=some z):∃i,P.info? t=some i∧i.zero=some z:=by
 unfold pZ at h
 cases hi:P.info? t with
 |none=>simp [hi]at h
 |some i=>simp only [hi,zc]at h;exact⟨i,rfl,h⟩
theorem zn(h:Sim P X S loc s tm w){id:Nat}{t:TypeId}{v:RV}{u:Ups}{r:List Nat}(a:v8 P id t s.boxes=some ((v,u),r,true)):
  ∃v' w' loc',(Instr.alloc t true (.tuple #[])).run P w= .ok v' w'∧Sim P X S loc' (s.ups u) tm w'∧R S loc' v v':=by
 unfold v8 at a
 rcases f:pZ P t with _|z
 ·simp only [f]at a;exact fE s.boxes a
 simp only [f]at a
 obtain⟨_,y,B,h1,g,_⟩:=M.bind_some a
 obtain⟨x,_,_⟩:=M.qj h1
 obtain⟨j, -, -⟩:=M.pj g
 cases j
 obtain⟨i,hi,c⟩:=qN f
 obtain⟨k,l⟩:=sq S loc z
 obtain⟨loc',p,q,_⟩:=h.newVar x _ z.cells t k l
 refine⟨_,_,loc',?_,p,q⟩
 simp [Instr.alloc,zeroValue,typeInfo,hi,c,newVar,newRow]
theorem AU(h:Sim P X S loc s tm w){id:Nat}{t:TypeId}{x v:RV}{u:Ups}{r:List Nat}{a:Value}(q:boxD id x s.boxes=some ((v,u),r,true))(y:R S loc x a):
  ∃v' w' loc',(Instr.box t a).run P w= .ok v' w'∧Sim P X S loc' (s.ups u) tm w'∧R S loc' v v':=by
 obtain⟨_,z,B,h1,f,_⟩:=M.bind_some q
 obtain⟨p,_,_⟩:=M.qj h1
 obtain⟨g, -,hs⟩:=M.pq f
 cases g
 obtain⟨j,k,c⟩:=y.sized hs.symm
 obtain⟨loc',c,l,_⟩:=h.newVar p _ a.cells t j k
 refine⟨_,_,loc',?_,c,l⟩
 simp [Instr.box,newVar,newRow]
theorem se(P:Program)(g o:Nat)(t:TypeId)(a:Nat×Nat)(m:Nat)(f:∀j,j<m->¬(a.1<=j∧j<a.2)):∀(vs:List Value)(i:Nat)(cur:Array Value)(w:World),cur.size=m->w.heap[g]? =some (.cells cur t a)->o+i+vs.length<=cur.size->(∀v∈vs,v.oneCell'=true)->
  (storeCells ⟨g,o,none⟩ vs i).run P w= .ok () (w.setRow g (cur.toList.take (o+i)++vs++cur.toList.drop (o+i+vs.length)).toArray)
 | [],i,cur,w,_,c,_,_=>by
  rw [List.append_nil,CU,C0,List.take_append_drop,Array.toArray_toList,setRow_self w g cur t a c]
  rfl
 |v::r,i,cur,w,hm,c,z,h1=>by
  rw [CT]at z
  have k:o+i<cur.size:=by omega
  have p:(⟨g,o,none⟩:Addr).add i=⟨g,o+i,none⟩:=by unfold Addr.add;split<;>simp_all
  have q:w.frozen? ⟨g,o+i,none⟩=false:=by
   simp only [World.frozen?,c]
   have:=f (o+i) za
   simpa using this
  have x:(store ((⟨g,o,none⟩:Addr).add i) v).run P w= .ok () (w.setRow g (cur.setIfInBounds (o+i) v)):=by
   rw [p,run_store P w _ v _ (h1 v sm),show w.cell? ⟨g,o+i,none⟩=some cur[o+i]by simp [World.cell?,c,k]]
   simp [q,setCell_eq_setRow w g (o+i) cur t a v c]
  have l:=se P g o t a m f r (i+1) (cur.setIfInBounds (o+i) v) (w.setRow g (cur.setIfInBounds (o+i) v)) (by simpa using hm) (setRow_heap w g cur _ t a c) so fun u hu=>h1 u (by simp [hu])
  have y:((cur.setIfInBounds (o+i) v).toList.take (o+(i+1))++r++(cur.setIfInBounds (o+i) v).toList.drop (o+(i+1)+r.length))=cur.toList.take (o+i)++(v::r)++cur.toList.drop (o+i+(v::r).length):=by
   have B:cur.toList.length=cur.size:=by simp
   rw [Array.toList_setIfInBounds,CT,show o+(i+1)=o+i+1 by omega,List.take_succ_eq_append_getElem so,List.getElem_set_self,List.take_set_of_le za,List.drop_set_of_lt za]
   simp only [B8,List.cons_append,CY]
   rw [show o+i+1+r.length=o+i+(r.length+1)by omega]
  rw [y]at l
  simp only [storeCells,Sem.run_bind,x,Result.andThen_ok]
  rw [l,setRow_setRow]
theorem FzOk.free{a:Nat×Nat}{cap sz m:Nat}(h:FzOk a cap sz)(hm:m=cap*sz):∀j,j<m->¬(a.1<=j∧j<a.2):=by
 intro j f
 rcases h with rfl|⟨h1,c⟩
 ·simp
 ·subst c
  omega
theorem tj{t:TypeId}{n:Nat}(l:szT P t=some n){g o:Nat}{cur:Array Value}{ty:TypeId}{a:Nat×Nat}(c:∀j,j<cur.size->¬(a.1<=j∧j<a.2))(k:w.heap[g]? =some (.cells cur ty a)){v:Value}(f:v.cells.size=n)(hle:o+n<=cur.size)
  (h1:∀u∈v.cells,u.oneCell'=true):
  (storeVar t ⟨g,o,none⟩ v).run P w= .ok () (w.setRow g (cur.toList.take o++v.cells.toList++cur.toList.drop (o+n)).toArray):=by
 have:=se P g o ty a cur.size c v.cells.toList 0 cur w rfl k so (fun u hu=>h1 u (by simpa using hu))
 simp only [storeVar,Sem.run_bind,pC l,Result.andThen_ok,f,ne_eq,not_true_eq_false,if_false]
 simp only [C0,Array.length_toList,f]at this
 simpa using this
theorem re(cur vs:List Value)(o n i:Nat)(a:vs.length=n)(hle:o+n<=cur.length):(cur.take o++vs++cur.drop (o+n))[i]? =if o<=i∧i<o+n then vs[i-o]? else cur[i]? :=by
 subst a
 by_cases h1:i<o
 ·rw [if_neg za,B8,CM so,CB,if_pos h1]
 ·by_cases c:i<o+vs.length
  ·rw [if_pos za,B8,CN so,List.length_take,Nat.min_eq_left za,CM za]
  ·rw [if_neg za,CN so,List.getElem?_drop]
   congr 1
   simp
   omega
end
end Go.Dw
namespace Go.Dw
section
variable {P:Program}{X:Ctx}{S:pr}{loc:pY}{s:St}{tm:Array Value}{w:World}
theorem PD.zi(e:PD)(o:Nat)(vs:List PD)(h:o+vs.length<=e.cells.length)(f:∀p∈vs,p.one=true):
  (e.put o vs).cells.length=e.cells.length∧∀j,(e.put o vs).cells[j]? =if o<=j∧j<o+vs.length then vs[j-o]? else e.cells[j]? :=by
 have single:∀(e:PD),e.cells=[e]->(e.put o vs)=vs.headD e->o+vs.length<=1->
   (e.put o vs).cells.length=e.cells.length∧∀j,(e.put o vs).cells[j]? =if o<=j∧j<o+vs.length then vs[j-o]? else e.cells[j]? :=by
  intro e he hp hle
  rw [hp,he]
  cases vs with
  |nil=>simp only [List.headD_nil,he,CU];exact⟨trivial,fun j=>by rw [if_neg za]⟩
  |cons v r=>
   have c:r=[]:=List.eq_nil_of_length_eq_zero (by simp at hle;omega)
   subst c
   have ho:o=0:=by simp at hle;omega
   subst ho
   have a:=f v sm
   have hc:v.cells=[v]:=by cases v<;>first|rfl|(simp [PD.one]at a)
   simp only [List.headD_cons,hc,List.length_singleton]
   refine⟨trivial,fun j=>?_⟩
   cases j with
   |zero=>simp
   |succ j=>rw [if_neg za];simp
 cases e with
 |agg cs=>exact⟨by simp [PD.put,PD.cells,xf],fun j=>by simp only [PD.put,PD.cells];exact yS vs cs o j h⟩
 |bool b=>exact single _ rfl rfl h
 |int k n=>exact single _ rfl rfl h
 |str l=>exact single _ rfl rfl h
 |lst l=>exact single _ rfl rfl h
 |raw v=>exact single _ rfl rfl h
theorem V.cells{p:PD}{v:Value}(h:V S p v):v.cells.size=p.cells.length∧(∀(i:Nat)c u,p.cells[i]? =some c->v.cells[i]? =some u->V S c u):=by
 cases h with
 |agg cs vs r h=>exact⟨r,h⟩
 |bool b=>exact⟨rfl,fun i c u h1 g=>by cases i<;>simp [PD.cells,Value.cells]at h1 g;subst h1;subst g;exact .bool b⟩
 |int k n=>exact⟨rfl,fun i c u h1 g=>by cases i<;>simp [PD.cells,Value.cells]at h1 g;subst h1;subst g;exact .int k n⟩
 |str l=>exact⟨rfl,fun i c u h1 g=>by cases i<;>simp [PD.cells,Value.cells]at h1 g;subst h1;subst g;exact .str l⟩
 |nil a j=>exact⟨rfl,fun i c u h1 g=>by cases i<;>simp [PD.cells,Value.cells]at h1 g;subst h1;subst g;exact .nil a j⟩
 |lst es b o j sz f hc q hS hV=>exact⟨rfl,fun i c u h1 g=>by cases i<;>simp [PD.cells,Value.cells]at h1 g;subst h1;subst g;exact .lst es b o j sz f hc q hS hV⟩
 |raw _ hp=>
  have hc:=cells_one (v:=v) (by unfold Bi at hp;split at hp<;>first|rfl|cases hp)
  rw [hc]
  exact⟨rfl,fun i c u h1 g=>by cases i<;>simp [PD.cells]at h1 g;subst h1;subst g;exact .raw _ hp⟩
theorem Flat.set{sz:Nat}{es:List PD}{xs:List Value}(h:Flat S sz es xs)(H:xs.length=es.length*sz){i o n:Nat}{e p:PD}(he:es[i]? =some e)(hp:p.cells.length=n)(ho:∀c∈p.cells,c.one=true)
  (hle:o+n<=e.cells.length) {vs:List Value} (D:vs.length=n) (C:∀u∈vs,u.oneCell'=true) (G:∀(j:Nat)c u,p.cells[j]? =some c->vs[j]? =some u->V S c u):
  Flat S sz (es.set i (e.put o p.cells)) (xs.take (i*sz+o)++vs++xs.drop (i*sz+o+n)):=by
 have hi:i<es.length:=(List.getElem?_eq_some_iff.1 he).1
 have q:e.cells.length=sz:=h.len e (CW he)
 obtain⟨z,l⟩:=PD.zi e o p.cells za ho
 have hmul:(i+1)*sz<=es.length*sz:=C1 _ hi
 rw [CZ,C2]at hmul
 have hlen:i*sz+o+n<=xs.length:=by omega
 refine⟨?_,?_,?_⟩
 ·intro x E
  rcases CX E with E|rfl
  ·exact h.len x E
  ·rw [z,q]
 ·intro u hu
  rcases List.mem_append.1 hu with hu|hu
  ·rcases List.mem_append.1 hu with hu|hu
   ·exact h.one u (List.mem_of_mem_take hu)
   ·exact C u hu
  ·exact h.one u (List.mem_of_mem_drop hu)
 ·intro y F j x a f
  rw [re xs vs (i*sz+o) n _ D hlen]
  rw [CQ]at a
  by_cases k:i=y
  ·subst k
   simp only [if_true,hi,Option.some.injEq]at a
   subst a
   rw [l]at f
   have r:j<sz:=by
    have:j<(e.put o p.cells).cells.length:=by
     rw [<-l]at f
     exact(List.getElem?_eq_some_iff.1 f).1
    omega
   by_cases t:o<=j∧j<o+p.cells.length
   ·rw [if_pos t]at f
    rw [if_pos za]
    have:i*sz+j-(i*sz+o)=j-o:=by omega
    rw [this]
    have g:j-o<vs.length:=by omega
    exact⟨vs[j-o],zd g,G (j-o) x _ f (zd g)⟩
   ·rw [if_neg t]at f
    rw [if_neg za]
    exact h.cell i e j x he f
  ·rw [if_neg k]at a
   have r:j<sz:=by
    have:=h.len F (CW a)
    have:=(List.getElem?_eq_some_iff.1 f).1
    omega
   rw [if_neg]
   ·exact h.cell y F j x a f
   ·rcases Nat.lt_or_gt_of_ne k with g|B
    ·have h1:(i+1)*sz<=y*sz:=C1 _ g
     rw [CZ,C2]at h1
     omega
    ·have h1:(y+1)*sz<=i*sz:=C1 _ B
     rw [CZ,C2]at h1
     omega
theorem qY:∀(u:Ups)(s:St)(id:Nat),id∉u.map (·.1)->(s.ups u).boxes id=s.boxes id
 | [],_,_,_=>rfl
 |(i,b)::r,s,id,h=>by
  rw [rf,qY r _ id (fun hm=>h (by simp only [List.map_cons,List.mem_cons];exact .inr hm))]
  exact p6 _ _ (fun e=>h (by simp [e]))
theorem Bn{rv:RV}{b:pP}{p:PD}{u:Ups}{r:List Nat}(h:rQ rv b=some ((p,u),r,true))(hs:rv.sized=true):p.cells.length=rv.cells.length∧∀c∈p.cells,c.one=true:=by
 have z:∀{cs:List RV}{B:List PD}{u:Ups}{r:List Nat},tP cs b=some ((B,u),r,true)->(∀c∈cs,c.one=true)->B.length=cs.length∧∀c∈B,c.one=true:=by
  intro cs
  induction cs with
  |nil=>
   intro B u r h _
   obtain⟨h1, -, -⟩:=M.pj (b:=b) h
   cases h1
   exact⟨rfl,fun c hc=>by cases hc⟩
  |cons c cs J=>
   intro B u r h ho
   obtain⟨⟨p,u1⟩,G,H,h1,g,_⟩:=M.bind_some h
   obtain⟨⟨K,u2⟩,L,N,t,I,_⟩:=M.bind_some g
   obtain⟨C, -, -⟩:=M.pj I
   cases C
   obtain⟨i1,i2⟩:=J t (fun c hc=>ho c (by simp [hc]))
   refine⟨by simp [i1],fun x F=>?_⟩
   rcases List.mem_cons.1 F with rfl|F
   ·have E:=ho c sm
    cases c with
    |d q=>obtain⟨C, -, -⟩:=M.pj (b:=b) h1;cases C;exact E
    |px=>obtain⟨C, -, -⟩:=M.pj (b:=b) h1;cases C;rfl
    |ref id ver=>
     obtain⟨D,G,H,h1,g,_⟩:=M.bind_some h1
     cases D with
     |arr l e es=>
      by_cases j:ver=l
      rotate_left
      ·simp only [j,if_false]at g;exact fE b g
      simp only [j,if_true]at g
      obtain⟨t, -, -⟩:=M.pj (b:=b) g
      cases t
      rfl
     |var _=>exact fE b g
     |dead=>exact fE b g
     |map _ _ _=>exact fE b g
     |nest _ _ _ _ _=>exact fE b g
     |hole _ _ _ _ _ _=>exact fE b g
    |undef=>exact fE b h1
    |junk=>exact fE b h1
    |agg cs=>exact fE b h1
    |tup cs=>exact fE b h1
    |ptr a c=>exact fE b h1
    |elt a c d f=>exact fE b h1
    |cptr a=>exact fE b h1
    |view id ver lo hi=>
     obtain⟨D,G,H,h1,g,_⟩:=M.bind_some h1
     cases D with
     |arr l e es=>
      by_cases j:ver=l
      rotate_left
      ·simp only [j,if_false]at g;exact fE b g
      simp only [j,if_true]at g
      obtain⟨t, -, -⟩:=M.pq (b:=b) g
      cases t
      rfl
     |var _=>exact fE b g
     |dead=>exact fE b g
     |map _ _ _=>exact fE b g
     |nest _ _ _ _ _=>exact fE b g
     |hole _ _ _ _ _ _=>exact fE b g
    |clo a c=>exact fE b h1
    |fview _ _ _=>exact fE b h1
    |err _=>exact fE b h1
    |dfull _=>exact fE b h1
    |ifc _ _=>exact fE b h1
    |plit _=>exact fE b h1
    |pcp _=>exact fE b h1
   ·exact i2 x F
 have k:∀c∈rv.cells,c.one=true:=fun c hc=>List.all_eq_true.1 hs c hc
 have single:rv.cells=[rv]->vZ rv b=some ((p,u),r,true)->p.cells.length=rv.cells.length∧∀c∈p.cells,c.one=true:=by
  intro hc h1
  have g:tP [rv] b=some (([p],u++[]),r++([]++[]),true):=by
   simp only [tP,M.bind,h1,M.pure,Bool.and_true]
  obtain⟨_,i2⟩:=z g (fun c y=>k c (by rw [hc];exact y))
  have hp:p.one=true:=i2 p sm
  have:p.cells=[p]:=by cases p<;>first|rfl|(simp [PD.one]at hp)
  rw [this,hc]
  exact⟨rfl,fun c y=>by simp at y;rw [y];exact hp⟩
 cases rv with
 |agg cs=>
  unfold rQ at h
  obtain⟨⟨B,u1⟩,G,H,h1,g,_⟩:=M.bind_some h
  obtain⟨t, -, -⟩:=M.pj (b:=b) g
  cases t
  obtain⟨i1,i2⟩:=z h1 k
  exact⟨i1,i2⟩
 |d q=>
  obtain⟨t, -, -⟩:=M.pj (b:=b) h
  cases t
  cases p with
  |agg cs=>
   refine⟨by simp [PD.cells,RV.cells],fun c hc=>?_⟩
   exact k (.d c) (by simp only [RV.cells];exact List.mem_map.2 ⟨c,hc,rfl⟩)
  |_=>exact single rfl h
 |px=>exact single rfl h
 |ref id ver=>exact single rfl h
 |undef=>exact single rfl h
 |junk=>exact single rfl h
 |tup cs=>exact single rfl h
 |ptr a c=>exact single rfl h
 |elt a c d f=>exact single rfl h
 |cptr a=>exact single rfl h
 |view a c d f=>exact single rfl h
 |clo a c=>exact single rfl h
 |fview _ _ _=>exact single rfl h
 |err _=>exact single rfl h
 |dfull _=>exact single rfl h
 |ifc _ _=>exact single rfl h
 |plit _=>exact single rfl h
 |pcp _=>exact single rfl h
theorem rowAt.set1{w:World}{e:TypeId}{n g c i:Nat}{xs:List Value}{cur:Array Value}{ty:TypeId}{z:Nat×Nat}{v:Value}(how:rowAt w e 1 (.slice (some ⟨g,0,none⟩) n (c+1)) n xs)(hi:i<n)
  (y:w.heap[g]? =some (.cells cur ty z)) (r:v.cells= #[v]):i<cur.size∧ty=e∧rowAt (w.setRow g (cur.toList.take i++v.cells.toList++cur.toList.drop (i+1)).toArray) e 1 (.slice (some ⟨g,0,none⟩) n (c+1)) n (xs.set i v):=by
 have how:=how.rz za
 rcases how.2 with⟨he,_⟩|⟨D,cap,x,B,he,p,f,q,l,C,a⟩
 ·cases he
 cases he
 rw [y]at f
 cases f
 have u:xs.length=n*1:=how.1
 refine⟨za,rfl,.inl ⟨by simpa using u,.inr ⟨g,c+1,_,_,rfl,p,setRow_heap w g cur _ e _ y,q,l,?_,?_⟩⟩⟩
 ·simp [r];omega
 ·rw [<-a]
  apply CL
  intro k
  have t:v.cells.toList.length=1:=by rw [r];rfl
  rw [CB,re _ _ _ _ _ t so,CQ,CB]
  by_cases hk:k<n*1
  ·rw [if_pos hk]
   by_cases j:i=k
   ·subst j
    rw [if_pos za,if_pos rfl,if_pos so,r]
    simp
   ·rw [if_neg za,if_neg j,if_pos hk]
  ·rw [if_neg hk]
   rw [if_neg za,if_neg hk]
theorem zU(h:Sim P X S loc s tm w){t:TypeId}{x y v:RV}{u:Ups}{r:List Nat}{vx G:Value}(hl:uO P t x y s.boxes=some ((v,u),r,true))(hx:R S loc x vx)(hy:R S loc y G):
  ∃w' S' loc',(Instr.storeAt t vx G).run P w= .ok () w'∧Sim P X S' loc' (s.ups u) tm w'∧v= .undef:=by
 unfold uO at hl
 rcases hn:szT P t with _|n
 ·simp only [hn]at hl;exact fE s.boxes hl
 simp only [hn]at hl
 rcases x with _|_|_|_|_|_|_|⟨id,off⟩|⟨id,ver,i,o⟩|_|_|_|_<;>first|exact fE s.boxes hl|skip
 ·obtain⟨bx,r1,r2,h1,z,_⟩:=M.bind_some hl
  obtain⟨hb,_,_⟩:=M.get_some h1
  cases bx with
  |var cs=>
   obtain⟨h3, -,hc⟩:=M.pq z
   cases h3
   simp only [C5,C4]at hc
   obtain⟨hs,hc⟩:=hc
   obtain⟨Q,c3⟩:=of_decide_eq_true hc
   obtain⟨b,ty,vs,a,rfl,hw,hlen,hv⟩:=h.zX hb hx
   obtain⟨y1,O,y3⟩:=hy.sized hs
   have B:=tj (P:=P) (w:=w) hn sm hw (v:=G) (o:=off) (by rw [y1];exact Q) za y3
   refine⟨_,S,upd loc id (.var b),B,?_,rfl⟩
   have E:pN (loc id) (.var b):=by rw [a];exact .same _
   refine h.qh (Step.setRow w b _) id _ _ (fun b' J=>by cases J;exact⟨_,a,rfl⟩) ?_ (fun b' C=>by cases C;exact .inl ⟨_,a,rfl⟩) E
   ·refine .var _ b ty _ (setRow_heap w b vs _ ty _ hw) ?_ ?_
    ·simp [sX];omega
    ·intro j c u hj hu
     rw [wP _ _ _ _ za]at hj
     rw [List.getElem?_toArray,re _ _ _ _ _ (by simpa using(by rw [y1];exact Q)) so]at hu
     by_cases c6:off<=j∧j<off+y.cells.length
     ·rw [if_pos c6]at hj
      rw [if_pos za]at hu
      exact(O _ c u hj (by simpa using hu)).mono (Sub.refl S) (pD.upd E)
     ·rw [if_neg c6]at hj
      rw [if_neg za]at hu
      exact(hv _ c u hj (by simpa using hu)).mono (Sub.refl S) (pD.upd E)
  |arr _ _ _=>exact fE s.boxes z
  |dead=>exact fE s.boxes z
  |map _ _ _=>exact fE s.boxes z
  |nest _ _ _ _ _=>exact fE s.boxes z
  |hole _ _ _ _ _ _=>exact fE s.boxes z
 ·obtain⟨bx,r1,r2,h1,z,_⟩:=M.bind_some hl
  obtain⟨hb,_,_⟩:=M.get_some h1
  cases bx with
  |arr I e es=>
   by_cases f:ver=I
   rotate_left
   ·simp only [f,if_false]at z;exact fE s.boxes z
   simp only [f,if_true]at z
   subst f
   obtain⟨⟨p,u1⟩,r3,r4,h3,h4,_⟩:=M.bind_some z
   rcases W:es[i]? with _|el
   ·simp only [W]at h4;exact fE s.boxes h4
   simp only [W]at h4
   by_cases T:(u1.map (·.1)).contains id=true
   ·simp only [T,if_true]at h4;exact fE s.boxes h4
   simp only [T]at h4
   obtain⟨h5, -,hc⟩:=M.pq (b:=s.boxes) h4
   cases h5
   simp only [C5,C4]at hc
   obtain⟨hs,hc⟩:=hc
   obtain⟨Q,c3⟩:=of_decide_eq_true hc
   obtain⟨p1,p2,p3⟩:=ur h3
   obtain⟨q1,q2⟩:=Bn h3 hs
   obtain⟨S',loc',c2,b6,hle,D⟩:=h.uB u1 p1 (fun x hx=>.inl (p2 x hx))
   have d2:V S' p G:=p3 S loc S' G hy b6 D
   obtain⟨y1,O,y3⟩:=hy.sized hs
   have b3:id∉u1.map (·.1):=by
    intro hm
    exact T (by simpa using hm)
   have C:(s.ups u1).boxes id=some (.arr ver e es):=by rw [qY u1 s id b3];exact hb
   obtain⟨sz,xs,g,m,c,a,rfl,a7,how,hf⟩:=c2.A3 C (hx.mono b6 hle)
   have c5:i<es.length:=(List.getElem?_eq_some_iff.1 W).1
   have how:=how.rz za
   rcases how.2 with⟨he,_⟩|⟨g',cap,cur,fz,he,D,hg,L,a8,K,F⟩
   ·cases he
   cases he
   obtain⟨c,rfl⟩:∃c',c=c'+1:=⟨c-1,za⟩
   have d3:el.cells.length=sz:=hf.len el (CW W)
   have hmul:(i+1)*sz<=es.length*sz:=C1 _ c5
   rw [CZ,C2]at hmul
   have c1:xs.length=es.length*sz:=how.1
   have b5:es.length*sz<=cur.size:=by
    rw [K];exact C1 _ L
   have H:G.cells.size=n:=by rw [d2.cells.1,Q]
   have B:=tj (P:=P) (w:=w) hn (D.free K) hg (v:=G) (o:=i*sz+o) H za y3
   refine⟨_,S',upd loc' id (.arr ver e sz (.slice (some ⟨g,0,none⟩) es.length (c+1))),B,?_,rfl⟩
   rw [tG,rf]
   refine c2.qh (Step.setRow w g _) id _ _ (fun b' J=>by cases J;exact⟨_,a,rfl⟩) ?_ (fun b' C=>by cases C;exact .inl ⟨_,a,rfl⟩) (by rw [a];exact .same _)
   ·refine .arr ver e _ sz _ (xs.take (i*sz+o)++G.cells.toList++xs.drop (i*sz+o+n)) a7 ?_ ?_
    ·rw [List.length_set]
     refine .inl ⟨?_,.inr ⟨g,c+1,_,_,rfl,D,setRow_heap w g cur _ e _ hg,L,a8,?_,?_⟩⟩
     ·simp [H];omega
     ·simp [H];omega
     ·rw [<-F]
      apply CL
      intro k
      have b4:G.cells.toList.length=n:=by simpa using H
      rw [CB,re _ _ _ _ _ b4 so]
      have e1:(es.length*sz)<=cur.toList.length:=by simpa using b5
      rw [re _ _ _ _ _ b4 so]
      rw [CB]
      by_cases hk:k<es.length*sz
      ·rw [if_pos hk,if_pos hk]
      ·rw [if_neg hk,if_neg za,if_neg hk]
    ·exact hf.set c1 W Q q2 c3 (by simpa using H) (fun u hu=>y3 u (by simpa using hu)) (fun j c u hj hu=>d2.cells.2 j c u hj (by simpa using hu))
  |var _=>exact fE s.boxes z
  |dead=>exact fE s.boxes z
  |map _ _ _=>exact fE s.boxes z
  |hole I e es j q e3=>
   by_cases f:ver=I∧i=j∧o=q∧n=1
   rotate_left
   ·simp only [if_neg f]at z;exact fE s.boxes z
   simp only [if_pos f]at z
   obtain⟨rfl,rfl,rfl,rfl⟩:=f
   obtain⟨h5, -,a5⟩:=M.pq (b:=s.boxes) z
   cases h5
   obtain⟨sz,xs,u0,g,m,c,a,rfl,a7,how,hf,hi,ho,hu,hr⟩:=h.zD hb hx
   have how:=how.rz za
   rcases how.2 with⟨he,_⟩|⟨g',cap,cur,fz,he,D,hg,L,a8,K,F⟩
   ·cases he
   cases he
   obtain⟨c,rfl⟩:∃c',c=c'+1:=⟨c-1,za⟩
   obtain⟨y1,O⟩:=hy.tf a5.symm
   have hmul:(i+1)*sz<=es.length*sz:=C1 _ hi
   rw [CZ,C2]at hmul
   have c1:xs.length=es.length*sz:=how.1
   have b5:es.length*sz<=cur.size:=by
    rw [K];exact C1 _ L
   have B:=tj (P:=P) (w:=w) hn (D.free K) hg (v:=G) (o:=i*sz+o) (by rw [O];rfl) za (fun u hu=>by rw [O]at hu;simp at hu;rw [hu];exact y1)
   refine⟨_,S,upd loc id (.arr ver e sz (.slice (some ⟨g,0,none⟩) es.length (c+1))),B,?_,rfl⟩
   have E:pN (loc id) (.arr ver e sz (.slice (some ⟨g,0,none⟩) es.length (c+1))):=by rw [a];exact .same _
   refine h.qh (Step.setRow w g _) id _ _ (fun b' J=>by cases J;exact⟨_,a,rfl⟩) ?_ (fun b' C=>by cases C;exact .inl ⟨_,a,rfl⟩) E
   have d1:i*sz+o<xs.length:=by omega
   refine .hole ver e es i o y sz _ (xs.set (i*sz+o) G) G a7 ?_ ⟨hf.len,fun u hu=>?_,fun k x j c' h1 z h3=>?_⟩ hi ho (by simp [d1]) (hy.mono (Sub.refl S) (pD.upd E))
   ·refine .inl ⟨by simpa using c1,.inr ⟨g,c+1,_,_,rfl,D,setRow_heap w g cur _ e _ hg,L,a8,?_,?_⟩⟩
    ·rw [O];simp;omega
    ·rw [<-F]
     apply CL
     intro k
     have b4:G.cells.toList.length=1:=by rw [O];rfl
     rw [CB,re _ _ _ _ _ b4 so,CQ,CB]
     by_cases hk:k<es.length*sz
     ·rw [if_pos hk]
      by_cases a9:i*sz+o=k
      ·subst a9
       rw [if_pos za,if_pos rfl,if_pos so,O]
       simp
      ·rw [if_neg za,if_neg a9,if_pos hk]
     ·rw [if_neg hk]
      rw [if_neg za,if_neg hk]
   ·rcases CX hu with hu|rfl
    ·exact hf.one u hu
    ·exact y1
   ·obtain⟨u,h4,h5⟩:=hf.cell k x j c' h1 z h3
    refine⟨u,?_,h5⟩
    have hj:j<sz:=by rw [<-hf.len x (CW h1)];exact(List.getElem?_eq_some_iff.1 z).1
    rw [CR ?_]
    ·exact h4
    ·intro heq
     apply h3
     have a9:k=i:=by
      rcases Nat.lt_trichotomy k i with c7|c4|c7
      ·have:=C1 sz (show k+1<=i by omega)
       rw [CZ,C2]at this
       omega
      ·exact c4
      ·have:=C1 sz (show i+1<=k by omega)
       rw [CZ,C2]at this
       omega
     subst a9
     exact⟨rfl,za⟩
  |nest I e e2 ess hh=>
   by_cases f:ver=I∧o=0∧n=1
   rotate_left
   ·simp only [f,if_false]at z;exact fE s.boxes z
   simp only [if_pos f]at z
   obtain⟨rfl,rfl,rfl⟩:=f
   obtain⟨h5, -,hc⟩:=M.pq (b:=s.boxes) z
   cases h5
   simp only [C5,C4]at hc
   obtain⟨⟨a5,Y⟩,N⟩:=hc
   have Y:=of_decide_eq_true Y
   have N:∀j r,hh=some (j,r)->i=j:=fun j r e=>by subst e;exact of_decide_eq_true N
   obtain⟨xs,bs,k,g,m,c,a,rfl,a7,d5,how,L,c9,c7⟩:=h.BA hb hx
   have d0:=how.rz za
   rcases d0.2 with⟨he,_⟩|⟨g',cap,cur,fz,he,D,hg,e0,a8,K,F⟩
   ·cases he
   cases he
   obtain⟨c,rfl⟩:∃c',c=c'+1:=⟨c-1,za⟩
   obtain⟨y1,O⟩:=hy.tf a5
   have B:=tj (P:=P) (w:=w) hn (D.free K) hg (v:=G) (o:=i) (by rw [O];rfl) za (fun u hu=>by rw [O]at hu;simp at hu;rw [hu];exact y1)
   obtain⟨r1,r2,r3⟩:=how.set1 (v:=G) Y hg O
   obtain⟨nc,c8⟩:∃nc,(ncs e2 ess hh)[i]? =some nc:=⟨_,zd (by rw [yx];exact Y)⟩
   obtain⟨v0,b0,c0,bs2,h6,h7,h8,h9⟩:=L.split c8
   have a6:=h9 (.val y) G [] (.val y G hy y1)
   rw [vu e2 ess hh i y N]at a6
   rw [CY]at a6
   have d4:∀b∈bs,b≠g:=fun b l e=>by
    subst e
    exact(List.nodup_append.1 c9).2.2 b (by simp [pB]) b l rfl
   have E:pN (loc id) (.nest ver e 1 (.slice (some ⟨g,0,none⟩) ess.length (c+1)) (c0++bs2)):=by rw [a];exact .held
   have hle:=pD.upd E
   rw [C0]
   refine⟨_,S,upd loc id (.nest ver e 1 (.slice (some ⟨g,0,none⟩) ess.length (c+1)) (c0++bs2)),B,?_,rfl⟩
   refine h.qh (Step.setRow w g _) id _ _ (fun b' J=>by cases J;exact⟨_,a,by simp [Loc.has,pB]⟩) ?_ (fun b' C=>.inl ⟨_,a,?_⟩) E
   ·refine .nest ver e e2 ess _ _ (xs.set i G) (c0++bs2) a7 ⟨k,d5⟩ r3 (a6.cI (Sub.refl S) hle fun b l=>?_) ?_ (fun j rv e=>by cases e;exact Y)
    ·refine setRow_other w g b _ (d4 b ?_)
     rw [h6]
     rcases List.mem_append.1 l with l|l
     ·exact List.mem_append.2 (.inl l)
     ·exact List.mem_append.2 (.inr (List.mem_append.2 (.inr l)))
    ·refine List.Nodup.sublist ?_ c9
     rw [h6]
     exact List.Sublist.append (List.Sublist.refl _) (List.Sublist.append (List.Sublist.refl _) (List.sublist_append_right _ _))
   ·rcases List.mem_append.1 C with l|l
    ·exact List.mem_append.2 (.inl l)
    ·refine List.mem_append.2 (.inr ?_)
     rw [h6]
     rcases List.mem_append.1 l with l|l
     ·exact List.mem_append.2 (.inl l)
     ·exact List.mem_append.2 (.inr (List.mem_append.2 (.inr l)))
end
end Go.Dw
