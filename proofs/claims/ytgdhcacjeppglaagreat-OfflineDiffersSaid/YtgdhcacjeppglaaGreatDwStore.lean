
import Derived.Test.YtgdhcacjeppglaaGreatDwMem
set_option linter.unusedVariables false
set_option linter.unusedSimpArgs false
open Option.some renaming injEq->AD
open List renaming append_assoc->AE, ext_getElem?->AQ, getElem?_append_left->AR, getElem?_append_right->AS, getElem?_cons_succ->AT, getElem?_cons_zero->AU, getElem?_set->AV, getElem?_set_ne->AW, getElem?_set_self->AX, getElem?_take->AH, length_cons->AY, length_nil->AZ, length_set->A0, mem_of_getElem?->A1, mem_of_mem_drop->A2, mem_of_mem_take->A3, mem_or_eq_of_mem_set->A4, nil_append->A5
open Nat renaming add_mul->A6, add_zero->A7, lt_trichotomy->A8, mul_le_mul_right->A9, one_mul->Aa, sub_self->Ab
open Bool renaming and_eq_true->Ac, true_eq->Ad

namespace Go.Dw
theorem lB(v:Value)(h:∀cs,v≠ .agg cs):(dW v).cells=[dW v]∧v.cells= #[v]:=by
 refine⟨?_,?_⟩
 ·unfold dW;split<;>rfl
 ·cases v<;>first|rfl|exact(h _ rfl).elim
theorem dO(S:cp)(loc:cJ)(v:Value):v.cells.size=(cH v).cells.length∧∀(i:Nat)c u,(cH v).cells[i]? =some c->v.cells[i]? =some u->R S loc c u:=by
 by_cases h:∃cs,v= .agg cs
 ·obtain⟨cs,rfl⟩:=h
  refine⟨by simp [cH,RV.cells,Value.cells],fun i c u h1 a=>?_⟩
  simp only [cH,RV.cells,List.getElem?_map,Array.getElem?_toList]at h1
  simp only [Value.cells]at a
  simp only [a,Option.map_some,AD]at h1
  subst h1
  exact R.dW S loc u
 ·have f:∀cs,v≠ .agg cs:=fun cs e=>h ⟨cs,e⟩
  have he:cH v=dW v:=by
   unfold cH
   split
   ·exact(f _ rfl).elim
   ·rfl
  obtain⟨h1,a⟩:=lB v f
  rw [he,h1,a]
  refine⟨rfl,fun i c u b g=>?_⟩
  cases i with
  |zero=>
   simp at b g
   subst b;subst g
   exact R.dW S loc v
  |succ i=>simp at b
section
variable {P:Program}{X:Ctx}{S:cp}{loc:cJ}{s:St}{w:World}
theorem V.eo{p:PD}{v:Value}(h:V S p v)(b:p.one=true):v.oneCell'=true∧v.cells= #[v]:=by
 cases h<;>first|exact⟨rfl,rfl⟩|(simp [PD.one]at b;done)|skip
 rename_i a
 unfold nG at a
 split at a<;>first|exact⟨rfl,rfl⟩|cases a
theorem cells_one{v:Value}(h:v.oneCell'=true):v.cells= #[v]:=by
 cases v<;>first|rfl|(simp [Value.oneCell']at h)
theorem R.eo{rv:RV}{v:Value}(h:R S loc rv v)(ho:rv.one=true):v.oneCell'=true∧v.cells= #[v]:=by
 cases h with
 |d h=>exact h.eo ho
 |cL=>exact⟨rfl,rfl⟩
 |cptr=>exact⟨rfl,rfl⟩
 |ref id ver _ _ h1=>exact⟨h1,cells_one h1⟩
 |ptr id off _ _ h1=>exact⟨h1,cells_one h1⟩
 |elt a b c d _ _ h1=>exact⟨h1,cells_one h1⟩
 |view a b c d _ _ h1=>exact⟨h1,cells_one h1⟩
 |clo=>exact⟨rfl,rfl⟩
 |fview _ _ _ _ _ h1=>exact⟨h1,cells_one h1⟩
 |err t x=>exact⟨rfl,rfl⟩
 |noerr=>exact⟨rfl,rfl⟩
 |dfull _ _ _=>exact⟨rfl,rfl⟩
 |ifc _ _ _ _=>exact⟨rfl,rfl⟩
 |plit _ _ _ _ _ _ _ _=>exact⟨rfl,rfl⟩
 |rlit _ _ _ _ _ _ _ _=>exact⟨rfl,rfl⟩
 |pcp _ _ _ _ _ _=>exact⟨rfl,rfl⟩
 |bnd _ _ _ _=>exact⟨rfl,rfl⟩
 |rfn _ _ _ _ _ _=>exact⟨rfl,rfl⟩
 |undef=>simp [RV.one]at ho
 |junk=>simp [RV.one]at ho
 |agg=>simp [RV.one]at ho
 |tup=>simp [RV.one]at ho
theorem R.sized{rv:RV}{v:Value}(h:R S loc rv v)(k:rv.sized=true):
  v.cells.size=rv.cells.length∧(∀(i:Nat)c u,rv.cells[i]? =some c->v.cells[i]? =some u->R S loc c u)∧∀u∈v.cells,u.oneCell'=true:=by
 have key:∀(cs:List RV)(vs:Array Value),v= .agg vs->vs.size=cs.length->rv.cells=cs->(∀(i:Nat)c u,cs[i]? =some c->vs[i]? =some u->R S loc c u)->
   v.cells.size=rv.cells.length∧(∀(i:Nat)c u,rv.cells[i]? =some c->v.cells[i]? =some u->R S loc c u)∧∀u∈v.cells,u.oneCell'=true:=by
  intro cs vs l hl hc j
  subst l
  rw [hc]
  refine⟨hl,j,fun u hu=>?_⟩
  replace hu:u∈vs:=hu
  obtain⟨i,g,he⟩:=Array.getElem_of_mem hu
  have e:i<cs.length:=by rw [<-hl];exact g
  have h1:=j i cs[i] u (zc e) (by rw [Array.getElem?_eq_getElem g,he])
  refine(h1.eo ?_).1
  have:=List.all_eq_true.1 k cs[i] (by rw [hc];exact List.getElem_mem e)
  exact this
 have single:rv.cells=[rv]->v.cells.size=rv.cells.length∧(∀(i:Nat)c u,rv.cells[i]? =some c->v.cells[i]? =some u->R S loc c u)∧∀u∈v.cells,u.oneCell'=true:=by
  intro hc
  have ho:rv.one=true:=List.all_eq_true.1 k rv (by rw [hc];simp)
  obtain⟨h1,b⟩:=h.eo ho
  rw [hc,b]
  refine⟨rfl,fun i c u a f=>?_,fun u hu=>?_⟩
  ·cases i with
   |zero=>simp at a f;subst a;subst f;exact h
   |succ i=>simp at a
  ·simp at hu;rw [hu];exact h1
 rcases rv with p|_|_|_|cs|_|_|_|_|_|_|_|_
 case d=>
  cases p with
  |agg cs=>
   obtain⟨vs,h1,b,a⟩:=h.j7
   exact key (cs.map .d) vs h1 (by simpa using b) rfl a
  |_=>exact single rfl
 case agg=>
  obtain⟨vs,h1,b,a⟩:=h.gV
  exact key cs vs h1 b rfl a
 all_goals exact single rfl
theorem iS(l:List RV):∀(cs:List RV)(off i:Nat),off+l.length<=cs.length->
  (setCells cs off l)[i]? =if off<=i∧i<off+l.length then l[i-off]? else cs[i]? :=by
 induction l with
 |nil=>intro cs off i _;simp only [setCells,AZ];rw [if_neg om]
 |cons v r b=>
  intro cs off i hle
  simp only [AY]at hle⊢
  rw [setCells,b _ _ _ so]
  by_cases h1:off+1<=i∧i<off+1+r.length
  ·rw [if_pos h1,if_pos om]
   obtain⟨k,rfl⟩:∃k,i=off+1+k:=⟨i-(off+1),om⟩
   rw [show off+1+k-(off+1)=k by omega,show off+1+k-off=k+1 by omega,AT]
  ·rw [if_neg h1]
   by_cases a:i=off
   ·subst a
    rw [if_pos om,AX om,Ab,AU]
   ·rw [if_neg om,AW om]
theorem eW(l:List RV):∀(cs:List RV)(off:Nat),(setCells cs off l).length=cs.length:=by
 induction l with
 |nil=>intro cs off;rfl
 |cons v r a=>intro cs off;rw [setCells,a];simp
theorem kQ(l:List PD):∀(cs:List PD)(off i:Nat),off+l.length<=cs.length->
  (eJ cs off l)[i]? =if off<=i∧i<off+l.length then l[i-off]? else cs[i]? :=by
 induction l with
 |nil=>intro cs off i _;simp only [eJ,AZ];rw [if_neg om]
 |cons v r b=>
  intro cs off i hle
  simp only [AY]at hle⊢
  rw [eJ,b _ _ _ so]
  by_cases h1:off+1<=i∧i<off+1+r.length
  ·rw [if_pos h1,if_pos om]
   obtain⟨k,rfl⟩:∃k,i=off+1+k:=⟨i-(off+1),om⟩
   rw [show off+1+k-(off+1)=k by omega,show off+1+k-off=k+1 by omega,AT]
  ·rw [if_neg h1]
   by_cases a:i=off
   ·subst a
    rw [if_pos om,AX om,Ab,AU]
   ·rw [if_neg om,AW om]
theorem jn(l:List PD):∀(cs:List PD)(off:Nat),(eJ cs off l).length=cs.length:=by
 induction l with
 |nil=>intro cs off;rfl
 |cons v r a=>intro cs off;rw [eJ,a];simp
def eM(P:Program)(X:Ctx)(s':St)(o:Oper)(a:Act)(w:World):Prop:=
 ∀(K:Act->World->Prop)(Q:Exit->Act->World->Prop),(∀b w',eN P X s' b w'->K b w')->o.wp P a w K Q
theorem eM.value{s':St}{o:Oper}{a:Act}{w w':World}{v':Value}{v:RV}{S:cp}{loc:cJ}(hd:a.defers=[])(b:∀d,o.dst=some d->d<X.nt)
  (c:(execOp a.eval o).run P w= .ok (.value v') w') (hS:Sim P X S loc s' a.tmps w') (f:R S loc v v'):eM P X (s'.put o.dst v) o a w:=by
 intro K Q e
 unfold Oper.wp
 rw [c]
 exact e _ _ ⟨by cases o.dst<;>exact hd,S,loc,hS.put (a:=a) f o.dst b⟩
theorem eM.skip{s':St}{o:Oper}{a:Act}{w w':World}{S:cp}{loc:cJ}(hd:a.defers=[])(b:∀d,o.dst=some d->d<X.nt)
  (c:(execOp a.eval o).run P w= .ok .skip w') (hS:Sim P X S loc s' a.tmps w'):eM P X (s'.put o.dst .undef) o a w:=by
 intro K Q e
 unfold Oper.wp
 rw [c]
 exact e _ _ ⟨by cases o.dst<;>exact hd,S,loc,hS.put (a:=a) .undef o.dst b⟩
variable {tm:Array Value}
theorem Sim.cE(h:Sim P X S loc s tm w){id:Nat}(hb:s.boxes id=none):loc id=none:=by
 cases hl:loc id with
 |none=>rfl
 |some L=>
  obtain⟨b,a⟩:=h.dom id L hl
  rw [hb]at a
  cases a
theorem Sim.newVar(h:Sim P X S loc s tm w){id:Nat}(hb:s.boxes id=none)(cs:List RV)(vs:Array Value)(t:TypeId)(hl:vs.size=cs.length)
  (g:∀(i:Nat)c u,cs[i]? =some c->vs[i]? =some u->R S loc c u):
  ∃loc',Sim P X S loc' { s with boxes:=upd s.boxes id (.var cs) } tm (w.alloc (.cells vs t))∧R S loc' (.ptr id 0) (.pointer (some ⟨w.heap.size,0,none⟩))∧cm loc loc':=by
 have e:=h.cE hb
 have a:cj (loc id) (.var w.heap.size):=by rw [e];trivial
 refine⟨upd loc id (.var w.heap.size),?_,?_,cm.upd a⟩
 ·refine h.cw (Step.alloc w _) id _ _ (fun b hc=>by cases hc) ?_ ?_ a
  ·exact .var cs w.heap.size t vs (heap_alloc_new w _) hl (fun i c v h1 f=>(g i c v h1 f).mono (Sub.refl S) (cm.upd a))
  ·intro b hb;cases hb;exact .inr (.inl (Nat.le_refl _))
 ·exact .ptr id 0 _ (.var w.heap.size) rfl (cf _ _ _) (fun b=>⟨fun he=>by cases he;rfl,(fun he=>by cases he)⟩)
theorem c8{t:TypeId}{z:Value}(h:df P t=some z):∃i,P.info? t=some i∧i.zero=some z:=by
 unfold df at h
 cases a:P.info? t with
 |none=>simp [a]at h
 |some i=>simp only [a,zb]at h;exact⟨i,rfl,h⟩
theorem lr(h:Sim P X S loc s tm w){id:Nat}{t:TypeId}{v:RV}{u:Ups}{r:List Nat}(hl:ib P id t s.boxes=some ((v,u),r,true)):
  ∃v' w' loc',(Instr.alloc t true (.tuple #[])).run P w= .ok v' w'∧Sim P X S loc' (s.ups u) tm w'∧R S loc' v v':=by
 unfold ib at hl
 rcases b:df P t with _|z
 ·simp only [b]at hl;exact fE s.boxes hl
 simp only [b]at hl
 obtain⟨_,m,n,h1,c,_⟩:=M.bind_some hl
 obtain⟨hb,_,_⟩:=M.cU h1
 obtain⟨e, -, -⟩:=M.cd c
 cases e
 obtain⟨i,l,a⟩:=c8 b
 obtain⟨f,g⟩:=dO S loc z
 obtain⟨loc',j,k,_⟩:=h.newVar hb _ z.cells t f g
 refine⟨_,_,loc',?_,j,k⟩
 simp [Instr.alloc,zeroValue,typeInfo,l,a,newVar,newRow]
theorem na(h:Sim P X S loc s tm w){id:Nat}{t:TypeId}{x v:RV}{u:Ups}{r:List Nat}{a:Value}(hl:boxD id x s.boxes=some ((v,u),r,true))(k:R S loc x a):
  ∃v' w' loc',(Instr.box t a).run P w= .ok v' w'∧Sim P X S loc' (s.ups u) tm w'∧R S loc' v v':=by
 obtain⟨_,l,m,h1,c,_⟩:=M.bind_some hl
 obtain⟨hb,_,_⟩:=M.cU h1
 obtain⟨e, -,j⟩:=M.cg c
 cases e
 obtain⟨f,g,b⟩:=k.sized j.symm
 obtain⟨loc',b,i,_⟩:=h.newVar hb _ a.cells t f g
 refine⟨_,_,loc',?_,b,i⟩
 simp [Instr.box,newVar,newRow]
theorem et(P:Program)(g o:Nat)(t:TypeId)(a:Nat×Nat)(m:Nat)(c:∀j,j<m->¬(a.1<=j∧j<a.2)):∀(vs:List Value)(i:Nat)(cur:Array Value)(w:World),cur.size=m->w.heap[g]? =some (.cells cur t a)->o+i+vs.length<=cur.size->(∀v∈vs,v.oneCell'=true)->
  (storeCells ⟨g,o,none⟩ vs i).run P w= .ok () (w.setRow g (cur.toList.take (o+i)++vs++cur.toList.drop (o+i+vs.length)).toArray)
 | [],i,cur,w,_,b,_,_=>by
  rw [List.append_nil,AZ,A7,List.take_append_drop,Array.toArray_toList,setRow_self w g cur t a b]
  rfl
 |v::r,i,cur,w,hm,b,hl,h1=>by
  rw [AY]at hl
  have e:o+i<cur.size:=by omega
  have k:(⟨g,o,none⟩:Addr).add i=⟨g,o+i,none⟩:=by unfold Addr.add;split<;>simp_all
  have l:w.frozen? ⟨g,o+i,none⟩=false:=by
   simp only [World.frozen?,b]
   have:=c (o+i) om
   simpa using this
  have n:(store ((⟨g,o,none⟩:Addr).add i) v).run P w= .ok () (w.setRow g (cur.setIfInBounds (o+i) v)):=by
   rw [k,run_store P w _ v _ (h1 v sm),show w.cell? ⟨g,o+i,none⟩=some cur[o+i]by simp [World.cell?,b,e]]
   simp [l,setCell_eq_setRow w g (o+i) cur t a v b]
  have f:=et P g o t a m c r (i+1) (cur.setIfInBounds (o+i) v) (w.setRow g (cur.setIfInBounds (o+i) v)) (by simpa using hm) (setRow_heap w g cur _ t a b) so fun u hu=>h1 u (by simp [hu])
  have p:((cur.setIfInBounds (o+i) v).toList.take (o+(i+1))++r++(cur.setIfInBounds (o+i) v).toList.drop (o+(i+1)+r.length))=cur.toList.take (o+i)++(v::r)++cur.toList.drop (o+i+(v::r).length):=by
   have q:cur.toList.length=cur.size:=by simp
   rw [Array.toList_setIfInBounds,AY,show o+(i+1)=o+i+1 by omega,List.take_succ_eq_append_getElem so,List.getElem_set_self,List.take_set_of_le om,List.drop_set_of_lt om]
   simp only [AE,List.cons_append,A5]
   rw [show o+i+1+r.length=o+i+(r.length+1)by omega]
  rw [p]at f
  simp only [storeCells,Sem.run_bind,n,Result.andThen_ok]
  rw [f,setRow_setRow]
theorem FzOk.free{a:Nat×Nat}{cap sz m:Nat}(h:FzOk a cap sz)(hm:m=cap*sz):∀j,j<m->¬(a.1<=j∧j<a.2):=by
 intro j c
 rcases h with rfl|⟨h1,b⟩
 ·simp
 ·subst b
  omega
theorem eu{t:TypeId}{n:Nat}(f:szT P t=some n){g o:Nat}{cur:Array Value}{ty:TypeId}{a:Nat×Nat}(b:∀j,j<cur.size->¬(a.1<=j∧j<a.2))(e:w.heap[g]? =some (.cells cur ty a)){v:Value}(c:v.cells.size=n)(hle:o+n<=cur.size)
  (h1:∀u∈v.cells,u.oneCell'=true):
  (storeVar t ⟨g,o,none⟩ v).run P w= .ok () (w.setRow g (cur.toList.take o++v.cells.toList++cur.toList.drop (o+n)).toArray):=by
 have:=et P g o ty a cur.size b v.cells.toList 0 cur w rfl e so (fun u hu=>h1 u (by simpa using hu))
 simp only [storeVar,Sem.run_bind,ct f,Result.andThen_ok,c,ne_eq,not_true_eq_false,if_false]
 simp only [A7,Array.length_toList,c]at this
 simpa using this
theorem cY(cur vs:List Value)(o n i:Nat)(a:vs.length=n)(hle:o+n<=cur.length):(cur.take o++vs++cur.drop (o+n))[i]? =if o<=i∧i<o+n then vs[i-o]? else cur[i]? :=by
 subst a
 by_cases h1:i<o
 ·rw [if_neg om,AE,AR so,AH,if_pos h1]
 ·by_cases b:i<o+vs.length
  ·rw [if_pos om,AE,AS so,List.length_take,Nat.min_eq_left om,AR om]
  ·rw [if_neg om,AS so,List.getElem?_drop]
   congr 1
   simp
   omega
end
end Go.Dw
namespace Go.Dw
section
variable {P:Program}{X:Ctx}{S:cp}{loc:cJ}{s:St}{tm:Array Value}{w:World}
theorem PD.fU(e:PD)(o:Nat)(vs:List PD)(h:o+vs.length<=e.cells.length)(g:∀p∈vs,p.one=true):
  (e.put o vs).cells.length=e.cells.length∧∀j,(e.put o vs).cells[j]? =if o<=j∧j<o+vs.length then vs[j-o]? else e.cells[j]? :=by
 have single:∀(e:PD),e.cells=[e]->(e.put o vs)=vs.headD e->o+vs.length<=1->
   (e.put o vs).cells.length=e.cells.length∧∀j,(e.put o vs).cells[j]? =if o<=j∧j<o+vs.length then vs[j-o]? else e.cells[j]? :=by
  intro e he c hle
  rw [c,he]
  cases vs with
  |nil=>simp only [List.headD_nil,he,AZ];exact⟨trivial,fun j=>by rw [if_neg om]⟩
  |cons v r=>
   have f:r=[]:=List.eq_nil_of_length_eq_zero (by simp at hle;omega)
   subst f
   have ho:o=0:=by simp at hle;omega
   subst ho
   have a:=g v sm
   have hc:v.cells=[v]:=by cases v<;>first|rfl|(simp [PD.one]at a)
   simp only [List.headD_cons,hc,List.length_singleton]
   refine⟨trivial,fun j=>?_⟩
   cases j with
   |zero=>simp
   |succ j=>rw [if_neg om];simp
 cases e with
 |agg cs=>exact⟨by simp [PD.put,PD.cells,jn],fun j=>by simp only [PD.put,PD.cells];exact kQ vs cs o j h⟩
 |bool b=>exact single _ rfl rfl h
 |int k n=>exact single _ rfl rfl h
 |str l=>exact single _ rfl rfl h
 |lst l=>exact single _ rfl rfl h
 |raw v=>exact single _ rfl rfl h
theorem V.cells{p:PD}{v:Value}(h:V S p v):v.cells.size=p.cells.length∧(∀(i:Nat)c u,p.cells[i]? =some c->v.cells[i]? =some u->V S c u):=by
 cases h with
 |agg cs vs hl h=>exact⟨hl,h⟩
 |bool b=>exact⟨rfl,fun i c u h1 e=>by cases i<;>simp [PD.cells,Value.cells]at h1 e;subst h1;subst e;exact .bool b⟩
 |int k n=>exact⟨rfl,fun i c u h1 e=>by cases i<;>simp [PD.cells,Value.cells]at h1 e;subst h1;subst e;exact .int k n⟩
 |str l=>exact⟨rfl,fun i c u h1 e=>by cases i<;>simp [PD.cells,Value.cells]at h1 e;subst h1;subst e;exact .str l⟩
 |nil a j=>exact⟨rfl,fun i c u h1 e=>by cases i<;>simp [PD.cells,Value.cells]at h1 e;subst h1;subst e;exact .nil a j⟩
 |lst es b o j sz f hc hsz hS hV=>exact⟨rfl,fun i c u h1 e=>by cases i<;>simp [PD.cells,Value.cells]at h1 e;subst h1;subst e;exact .lst es b o j sz f hc hsz hS hV⟩
 |raw _ g=>
  have hc:=cells_one (v:=v) (by unfold nG at g;split at g<;>first|rfl|cases g)
  rw [hc]
  exact⟨rfl,fun i c u h1 e=>by cases i<;>simp [PD.cells]at h1 e;subst h1;subst e;exact .raw _ g⟩
theorem Flat.set{sz:Nat}{es:List PD}{xs:List Value}(h:Flat S sz es xs)(F:xs.length=es.length*sz){i o n:Nat}{e p:PD}(he:es[i]? =some e)(G:p.cells.length=n)(ho:∀c∈p.cells,c.one=true)
  (hle:o+n<=e.cells.length) {vs:List Value} (z:vs.length=n) (y:∀u∈vs,u.oneCell'=true) (E:∀(j:Nat)c u,p.cells[j]? =some c->vs[j]? =some u->V S c u):
  Flat S sz (es.set i (e.put o p.cells)) (xs.take (i*sz+o)++vs++xs.drop (i*sz+o+n)):=by
 have D:i<es.length:=(List.getElem?_eq_some_iff.1 he).1
 have l:e.cells.length=sz:=h.len e (A1 he)
 obtain⟨t,k⟩:=PD.fU e o p.cells om ho
 have hmul:(i+1)*sz<=es.length*sz:=A9 _ D
 rw [A6,Aa]at hmul
 have hlen:i*sz+o+n<=xs.length:=by omega
 refine⟨?_,?_,?_⟩
 ·intro x B
  rcases A4 B with B|rfl
  ·exact h.len x B
  ·rw [t,l]
 ·intro u hu
  rcases List.mem_append.1 hu with hu|hu
  ·rcases List.mem_append.1 hu with hu|hu
   ·exact h.one u (A3 hu)
   ·exact y u hu
  ·exact h.one u (A2 hu)
 ·intro r C j x a b
  rw [cY xs vs (i*sz+o) n _ z hlen]
  rw [AV]at a
  by_cases g:i=r
  ·subst g
   simp only [if_true,D,AD]at a
   subst a
   rw [k]at b
   have m:j<sz:=by
    have:j<(e.put o p.cells).cells.length:=by
     rw [<-k]at b
     exact(List.getElem?_eq_some_iff.1 b).1
    omega
   by_cases q:o<=j∧j<o+p.cells.length
   ·rw [if_pos q]at b
    rw [if_pos om]
    have:i*sz+j-(i*sz+o)=j-o:=by omega
    rw [this]
    have f:j-o<vs.length:=by omega
    exact⟨vs[j-o],zc f,E (j-o) x _ b (zc f)⟩
   ·rw [if_neg q]at b
    rw [if_neg om]
    exact h.cell i e j x he b
  ·rw [if_neg g]at a
   have m:j<sz:=by
    have:=h.len C (A1 a)
    have:=(List.getElem?_eq_some_iff.1 b).1
    omega
   rw [if_neg]
   ·exact h.cell r C j x a b
   ·rcases Nat.lt_or_gt_of_ne g with f|v
    ·have h1:(i+1)*sz<=r*sz:=A9 _ f
     rw [A6,Aa]at h1
     omega
    ·have h1:(r+1)*sz<=i*sz:=A9 _ v
     rw [A6,Aa]at h1
     omega
theorem dy:∀(u:Ups)(s:St)(id:Nat),id∉u.map (·.1)->(s.ups u).boxes id=s.boxes id
 | [],_,_,_=>rfl
 |(i,b)::r,s,id,h=>by
  rw [du,dy r _ id (fun hm=>h (by simp only [List.map_cons,List.mem_cons];exact .inr hm))]
  exact ck _ _ (fun e=>h (by simp [e]))
theorem kH{rv:RV}{b:cI}{p:PD}{u:Ups}{r:List Nat}(h:eX rv b=some ((p,u),r,true))(F:rv.sized=true):p.cells.length=rv.cells.length∧∀c∈p.cells,c.one=true:=by
 have n:∀{cs:List RV}{o:List PD}{u:Ups}{r:List Nat},fH cs b=some ((o,u),r,true)->(∀c∈cs,c.one=true)->o.length=cs.length∧∀c∈o,c.one=true:=by
  intro cs
  induction cs with
  |nil=>
   intro o u r h _
   obtain⟨h1, -, -⟩:=M.cd (b:=b) h
   cases h1
   exact⟨rfl,fun c hc=>by cases hc⟩
  |cons c cs G=>
   intro o u r h ho
   obtain⟨⟨p,u1⟩,B,C,h1,g,_⟩:=M.bind_some h
   obtain⟨⟨J,u2⟩,K,L,l,E,_⟩:=M.bind_some g
   obtain⟨t, -, -⟩:=M.cd E
   cases t
   obtain⟨i1,i2⟩:=G l (fun c hc=>ho c (by simp [hc]))
   refine⟨by simp [i1],fun x z=>?_⟩
   rcases List.mem_cons.1 z with rfl|z
   ·have y:=ho c sm
    cases c with
    |d q=>obtain⟨t, -, -⟩:=M.cd (b:=b) h1;cases t;exact y
    |cL=>obtain⟨t, -, -⟩:=M.cd (b:=b) h1;cases t;rfl
    |ref id ver=>
     obtain⟨v,B,C,h1,g,_⟩:=M.bind_some h1
     cases v with
     |arr k e es=>
      by_cases i:ver=k
      rotate_left
      ·simp only [i,if_false]at g;exact fE b g
      simp only [i,if_true]at g
      obtain⟨l, -, -⟩:=M.cd (b:=b) g
      cases l
      rfl
     |var _=>exact fE b g
     |dead=>exact fE b g
     |map _ _ _=>exact fE b g
     |nest _ _ _ _ _=>exact fE b g
     |mapn _ _ _ _ _=>exact fE b g
     |hole _ _ _ _ _ _=>exact fE b g
     |deep _ _ _ _ _ _ _=>exact fE b g
    |undef=>exact fE b h1
    |junk=>exact fE b h1
    |agg cs=>exact fE b h1
    |tup cs=>exact fE b h1
    |ptr a c=>exact fE b h1
    |elt a c d f=>exact fE b h1
    |cptr a=>exact fE b h1
    |view id ver I H=>
     obtain⟨v,B,C,h1,g,_⟩:=M.bind_some h1
     cases v with
     |arr k e es=>
      by_cases i:ver=k
      rotate_left
      ·simp only [i,if_false]at g;exact fE b g
      simp only [i,if_true]at g
      obtain⟨l, -, -⟩:=M.cg (b:=b) g
      cases l
      rfl
     |var _=>exact fE b g
     |dead=>exact fE b g
     |map _ _ _=>exact fE b g
     |nest _ _ _ _ _=>exact fE b g
     |mapn _ _ _ _ _=>exact fE b g
     |hole _ _ _ _ _ _=>exact fE b g
     |deep _ _ _ _ _ _ _=>exact fE b g
    |clo a c=>exact fE b h1
    |fview _ _ _=>exact fE b h1
    |err _=>exact fE b h1
    |dfull _=>exact fE b h1
    |ifc _ _=>exact fE b h1
    |plit _=>exact fE b h1
    |rlit _=>exact fE b h1
    |pcp _=>exact fE b h1
    |bnd _ _=>exact fE b h1
    |rfn _ _ _=>exact fE b h1
   ·exact i2 x z
 have j:∀c∈rv.cells,c.one=true:=fun c hc=>List.all_eq_true.1 F c hc
 have single:rv.cells=[rv]->iU rv b=some ((p,u),r,true)->p.cells.length=rv.cells.length∧∀c∈p.cells,c.one=true:=by
  intro hc h1
  have g:fH [rv] b=some (([p],u++[]),r++([]++[]),true):=by
   simp only [fH,M.bind,h1,M.pure,Bool.and_true]
  obtain⟨_,i2⟩:=n g (fun c m=>j c (by rw [hc];exact m))
  have D:p.one=true:=i2 p sm
  have:p.cells=[p]:=by cases p<;>first|rfl|(simp [PD.one]at D)
  rw [this,hc]
  exact⟨rfl,fun c m=>by simp at m;rw [m];exact D⟩
 cases rv with
 |agg cs=>
  unfold eX at h
  obtain⟨⟨o,u1⟩,B,C,h1,g,_⟩:=M.bind_some h
  obtain⟨l, -, -⟩:=M.cd (b:=b) g
  cases l
  obtain⟨i1,i2⟩:=n h1 j
  exact⟨i1,i2⟩
 |d q=>
  obtain⟨l, -, -⟩:=M.cd (b:=b) h
  cases l
  cases p with
  |agg cs=>
   refine⟨by simp [PD.cells,RV.cells],fun c hc=>?_⟩
   exact j (.d c) (by simp only [RV.cells];exact List.mem_map.2 ⟨c,hc,rfl⟩)
  |_=>exact single rfl h
 |cL=>exact single rfl h
 |ref id ver=>exact single rfl h
 |undef=>exact single rfl h
 |junk=>exact single rfl h
 |tup cs=>exact single rfl h
 |ptr a c=>exact single rfl h
 |elt a c d f=>exact single rfl h
 |cptr a=>exact single rfl h
 |view a c d f=>exact single rfl h
 |clo a c=>exact single rfl h
 |fview _ _ _=>exact single rfl h
 |err _=>exact single rfl h
 |dfull _=>exact single rfl h
 |ifc _ _=>exact single rfl h
 |plit _=>exact single rfl h
 |rlit _=>exact single rfl h
 |pcp _=>exact single rfl h
 |bnd _ _=>exact single rfl h
 |rfn _ _ _=>exact single rfl h
theorem rowAt.set1{w:World}{e:TypeId}{n g c i:Nat}{xs:List Value}{cur:Array Value}{ty:TypeId}{u:Nat×Nat}{v:Value}(how:rowAt w e 1 (.slice (some ⟨g,0,none⟩) n (c+1)) n xs)(B:i<n)
  (t:w.heap[g]? =some (.cells cur ty u)) (o:v.cells= #[v]):i<cur.size∧ty=e∧rowAt (w.setRow g (cur.toList.take i++v.cells.toList++cur.toList.drop (i+1)).toArray) e 1 (.slice (some ⟨g,0,none⟩) n (c+1)) n (xs.set i v):=by
 have how:=how.fw om
 rcases how.2 with⟨he,_⟩|⟨z,cap,r,x,he,l,b,m,j,y,a⟩
 ·cases he
 cases he
 rw [t]at b
 cases b
 have q:xs.length=n*1:=how.1
 refine⟨om,rfl,.inl ⟨by simpa using q,.inr ⟨g,c+1,_,_,rfl,l,setRow_heap w g cur _ e _ t,m,j,?_,?_⟩⟩⟩
 ·simp [o];omega
 ·rw [<-a]
  apply AQ
  intro k
  have p:v.cells.toList.length=1:=by rw [o];rfl
  rw [AH,cY _ _ _ _ _ p so,AV,AH]
  by_cases hk:k<n*1
  ·rw [if_pos hk]
   by_cases f:i=k
   ·subst f
    rw [if_pos om,if_pos rfl,if_pos so,o]
    simp
   ·rw [if_neg om,if_neg f,if_pos hk]
  ·rw [if_neg hk]
   rw [if_neg om,if_neg hk]
theorem nH{sz i j k o:Nat}(e:j<sz)(ho:o<sz)(heq:k*sz+j=i*sz+o):k=i∧j=o:=by
 have b:k=i:=by
  rcases A8 k i with c|a|c
  ·have:=A9 sz (show k+1<=i by omega)
   rw [A6,Aa]at this
   omega
  ·exact a
  ·have:=A9 sz (show i+1<=k by omega)
   rw [A6,Aa]at this
   omega
 subst b
 exact⟨rfl,om⟩
theorem lk{t:TypeId}{n:Nat}(y:szT P t=some n){e:TypeId}{sz g m c len:Nat}{xs:List Value}(how:rowAt w e sz (.slice (some ⟨g,0,none⟩) m c) len xs)(hlen:0<len){v:Value}(p:v.cells.size=n)
  (h1:∀u∈v.cells,u.oneCell'=true) {pos:Nat} (hle:pos+n<=len*sz):
  ∃w',(storeVar t ⟨g,pos,none⟩ v).run P w= .ok () w'∧Step (some g) w w'∧rowAt w' e sz (.slice (some ⟨g,0,none⟩) m c) len (xs.take pos++v.cells.toList++xs.drop (pos+n))∧cA (.slice (some ⟨g,0,none⟩) m c)=some g:=by
 have how:=how.fw hlen
 rcases how.2 with⟨he,_⟩|⟨D,cap,cur,C,he,i,r,j,q,b,a⟩
 ·cases he
 cases he
 obtain⟨c,rfl⟩:∃x,c=x+1:=⟨c-1,om⟩
 have z:xs.length=m*sz:=how.1
 have f:m*sz<=cur.size:=by rw [b];exact A9 _ j
 refine⟨_,eu (P:=P) (w:=w) y (i.free b) r (v:=v) (o:=pos) p om h1,Step.setRow w g _,?_,rfl⟩
 refine .inl ⟨by simp [p];omega,.inr ⟨g,c+1,_,_,rfl,i,setRow_heap w g cur _ e _ r,j,q,by simp [p];omega,?_⟩⟩
 rw [<-a]
 apply AQ
 intro k
 have l:v.cells.toList.length=n:=by simpa using p
 rw [AH,cY _ _ _ _ _ l so]
 have B:(m*sz)<=cur.toList.length:=by simpa using f
 rw [cY _ _ _ _ _ l so]
 rw [AH]
 by_cases hk:k<m*sz
 ·rw [if_pos hk,if_pos hk]
 ·rw [if_neg hk,if_neg om,if_neg hk]
theorem js.set{sz q:Nat}{es:List PD}{xs:List Value}(h:js S sz es xs q)(H:xs.length=es.length*sz){i o n:Nat}{e p:PD}(he:es[i]? =some e)(J:p.cells.length=n)(ho:∀c∈p.cells,c.one=true)
  (hle:o+n<=e.cells.length) {vs:List Value} (E:vs.length=n) (D:∀u∈vs,u.oneCell'=true) (G:∀(j:Nat)c u,p.cells[j]? =some c->vs[j]? =some u->V S c u):
  js S sz (es.set i (e.put o p.cells)) (xs.take (i*sz+o)++vs++xs.drop (i*sz+o+n)) q:=by
 have F:i<es.length:=(List.getElem?_eq_some_iff.1 he).1
 have b:e.cells.length=sz:=h.len e (A1 he)
 obtain⟨l,C⟩:=PD.fU e o p.cells om ho
 have hmul:(i+1)*sz<=es.length*sz:=A9 _ F
 rw [A6,Aa]at hmul
 have hlen:i*sz+o+n<=xs.length:=by omega
 refine⟨?_,?_,?_⟩
 ·intro x y
  rcases A4 y with y|rfl
  ·exact h.len x y
  ·rw [l,b]
 ·intro u hu
  rcases List.mem_append.1 hu with hu|hu
  ·rcases List.mem_append.1 hu with hu|hu
   ·exact h.one u (A3 hu)
   ·exact D u hu
  ·exact h.one u (A2 hu)
 ·intro z B j x a g t
  rw [cY xs vs (i*sz+o) n _ E hlen]
  have m:j<sz:=by
   have:B∈es.set i (e.put o p.cells):=A1 a
   have hl:B.cells.length=sz:=by
    rcases A4 this with y|rfl
    ·exact h.len _ y
    ·rw [l,b]
   rw [<-hl]
   exact(List.getElem?_eq_some_iff.1 g).1
  rw [AV]at a
  by_cases f:i=z
  ·subst f
   simp only [if_true,F,AD]at a
   subst a
   rw [C]at g
   by_cases r:o<=j∧j<o+p.cells.length
   ·rw [if_pos r]at g
    rw [if_pos om]
    have:i*sz+j-(i*sz+o)=j-o:=by omega
    rw [this]
    have v:j-o<vs.length:=by omega
    exact⟨vs[j-o],zc v,G (j-o) x _ g (zc v)⟩
   ·rw [if_neg r]at g
    rw [if_neg om]
    exact h.cell i e j x he g t
  ·rw [if_neg f]at a
   rw [if_neg]
   ·exact h.cell z B j x a g t
   ·intro⟨h1,I⟩
    exact f (nH (o:=z*sz+j-i*sz) (k:=z) (i:=i) (j:=j) m om om).1.symm
theorem ColR.same{Q:List PD->Value->List Nat->Prop}{sz q:Nat}{es a:List PD}{xs c:List Value}{g j:Option Nat}{l:Nat->List Nat}(hc:ColR Q sz q es xs g l j)(hl:a.length=es.length)
  (he:∀(k:Nat)f,a[k]? =some f->∃e:PD,es[k]? =some e∧f.cells[q]? =e.cells[q]?) (t:∀k,k<es.length->j≠some k->c[k*sz+q]? =xs[k*sz+q]?):ColR Q sz q a c g l j:=
 ⟨fun k f h1 i => by
  obtain⟨e,m,n⟩:=he k f h1
  obtain⟨row,u,o,p,r⟩:=hc.cell k e m i
  exact⟨row,u,by rw [n];exact o,by rw [t k (List.getElem?_eq_some_iff.1 m).1 i];exact p,r⟩,hc.eR,fun k k' b h1 i=>hc.apart k k' b om om,fun k b h1=>hc.hdr k b om⟩
theorem l4(h:Sim P X S loc s tm w){t:TypeId}{x y v:RV}{u:Ups}{r:List Nat}{vx D:Value}(hl:gT P t x y s.boxes=some ((v,u),r,true))(hx:R S loc x vx)(hy:R S loc y D):
  ∃w' S' loc',(Instr.storeAt t vx D).run P w= .ok () w'∧Sim P X S' loc' (s.ups u) tm w'∧v= .undef:=by
 unfold gT at hl
 rcases hn:szT P t with _|n
 ·simp only [hn]at hl;exact fE s.boxes hl
 simp only [hn]at hl
 rcases x with _|_|_|_|_|_|_|⟨id,off⟩|⟨id,ver,i,o⟩|_|_|_|_<;>first|exact fE s.boxes hl|skip
 ·obtain⟨bx,r1,r2,h1,f,_⟩:=M.bind_some hl
  obtain⟨hb,_,_⟩:=M.get_some h1
  cases bx with
  |var cs=>
   obtain⟨h3, -,hc⟩:=M.cg f
   cases h3
   simp only [Ad,Ac]at hc
   obtain⟨hs,hc⟩:=hc
   obtain⟨L,c2⟩:=of_decide_eq_true hc
   obtain⟨b,ty,vs,a,rfl,hw,hlen,hv⟩:=h.l8 hb hx
   obtain⟨y1,Q,y3⟩:=hy.sized hs
   have B:=eu (P:=P) (w:=w) hn sm hw (v:=D) (o:=off) (by rw [y1];exact L) om y3
   refine⟨_,S,upd loc id (.var b),B,?_,rfl⟩
   have F:cj (loc id) (.var b):=by rw [a];exact .same _
   refine h.cw (Step.setRow w b _) id _ _ (fun b' H=>by cases H;exact⟨_,a,rfl⟩) ?_ (fun b' E=>by cases E;exact .inl ⟨_,a,rfl⟩) F
   ·refine .var _ b ty _ (setRow_heap w b vs _ ty _ hw) ?_ ?_
    ·simp [eW];omega
    ·intro j c u T hu
     rw [iS _ _ _ _ om]at T
     rw [List.getElem?_toArray,cY _ _ _ _ _ (by simpa using(by rw [y1];exact L)) so]at hu
     by_cases d2:off<=j∧j<off+y.cells.length
     ·rw [if_pos d2]at T
      rw [if_pos om]at hu
      exact(Q _ c u T (by simpa using hu)).mono (Sub.refl S) (cm.upd F)
     ·rw [if_neg d2]at T
      rw [if_neg om]at hu
      exact(hv _ c u T (by simpa using hu)).mono (Sub.refl S) (cm.upd F)
  |arr _ _ _=>exact fE s.boxes f
  |dead=>exact fE s.boxes f
  |map _ _ _=>exact fE s.boxes f
  |nest _ _ _ _ _=>exact fE s.boxes f
  |mapn _ _ _ _ _=>exact fE s.boxes f
  |hole _ _ _ _ _ _=>exact fE s.boxes f
  |deep _ _ _ _ _ _ _=>exact fE s.boxes f
 ·obtain⟨bx,r1,r2,h1,f,_⟩:=M.bind_some hl
  obtain⟨hb,_,_⟩:=M.get_some h1
  cases bx with
  |arr I e es=>
   by_cases l:ver=I
   rotate_left
   ·simp only [l,if_false]at f;exact fE s.boxes f
   simp only [l,if_true]at f
   subst l
   obtain⟨⟨p,u1⟩,r3,r4,h3,h4,_⟩:=M.bind_some f
   rcases G:es[i]? with _|el
   ·simp only [G]at h4;exact fE s.boxes h4
   simp only [G]at h4
   by_cases a5:(u1.map (·.1)).contains id=true
   ·simp only [a5,if_true]at h4;exact fE s.boxes h4
   simp only [a5]at h4
   obtain⟨h5, -,hc⟩:=M.cg (b:=s.boxes) h4
   cases h5
   simp only [Ad,Ac]at hc
   obtain⟨hs,hc⟩:=hc
   obtain⟨L,c2⟩:=of_decide_eq_true hc
   obtain⟨p1,p2,p3⟩:=fW h3
   obtain⟨q1,q2⟩:=kH h3 hs
   obtain⟨S',loc',c5,c0,hle,J⟩:=h.gf u1 p1 (fun x hx=>.inl (p2 x hx))
   have a9:V S' p D:=p3 S loc S' D hy c0 J
   obtain⟨y1,Q,y3⟩:=hy.sized hs
   have b6:id∉u1.map (·.1):=by
    intro hm
    exact a5 (by simpa using hm)
   have E:(s.ups u1).boxes id=some (.arr ver e es):=by rw [dy u1 s id b6];exact hb
   obtain⟨sz,xs,g,m,c,a,rfl,hsz,how,hf⟩:=c5.nk E (hx.mono c0 hle)
   have d1:i<es.length:=(List.getElem?_eq_some_iff.1 G).1
   have how:=how.fw om
   rcases how.2 with⟨he,_⟩|⟨g',cap,cur,fz,he,J,hg,Y,b4,U,K⟩
   ·cases he
   cases he
   obtain⟨c,rfl⟩:∃c',c=c'+1:=⟨c-1,om⟩
   have c3:el.cells.length=sz:=hf.len el (A1 G)
   have hmul:(i+1)*sz<=es.length*sz:=A9 _ d1
   rw [A6,Aa]at hmul
   have b3:xs.length=es.length*sz:=how.1
   have b8:es.length*sz<=cur.size:=by
    rw [U];exact A9 _ Y
   have C:D.cells.size=n:=by rw [a9.cells.1,L]
   have B:=eu (P:=P) (w:=w) hn (J.free U) hg (v:=D) (o:=i*sz+o) C om y3
   refine⟨_,S',upd loc' id (.arr ver e sz (.slice (some ⟨g,0,none⟩) es.length (c+1))),B,?_,rfl⟩
   rw [eL,du]
   refine c5.cw (Step.setRow w g _) id _ _ (fun b' H=>by cases H;exact⟨_,a,rfl⟩) ?_ (fun b' E=>by cases E;exact .inl ⟨_,a,rfl⟩) (by rw [a];exact .same _)
   ·refine .arr ver e _ sz _ (xs.take (i*sz+o)++D.cells.toList++xs.drop (i*sz+o+n)) hsz ?_ ?_
    ·rw [A0]
     refine .inl ⟨?_,.inr ⟨g,c+1,_,_,rfl,J,setRow_heap w g cur _ e _ hg,Y,b4,?_,?_⟩⟩
     ·simp [C];omega
     ·simp [C];omega
     ·rw [<-K]
      apply AQ
      intro k
      have b7:D.cells.toList.length=n:=by simpa using C
      rw [AH,cY _ _ _ _ _ b7 so]
      have e1:(es.length*sz)<=cur.toList.length:=by simpa using b8
      rw [cY _ _ _ _ _ b7 so]
      rw [AH]
      by_cases hk:k<es.length*sz
      ·rw [if_pos hk,if_pos hk]
      ·rw [if_neg hk,if_neg om,if_neg hk]
    ·exact hf.set b3 G L q2 c2 (by simpa using C) (fun u hu=>y3 u (by simpa using hu)) (fun j c u T hu=>a9.cells.2 j c u T (by simpa using hu))
  |var _=>exact fE s.boxes f
  |dead=>exact fE s.boxes f
  |map _ _ _=>exact fE s.boxes f
  |mapn _ _ _ _ _=>exact fE s.boxes f
  |hole I e es j q e0=>
   by_cases l:ver=I∧i=j∧o=q∧n=1
   rotate_left
   ·simp only [if_neg l]at f;exact fE s.boxes f
   simp only [if_pos l]at f
   obtain⟨rfl,rfl,rfl,rfl⟩:=l
   obtain⟨h5, -,N⟩:=M.cg (b:=s.boxes) f
   cases h5
   obtain⟨sz,xs,u0,g,m,c,a,rfl,hsz,how,hf,hi,ho,hu,hr⟩:=h.lJ hb hx
   have how:=how.fw om
   rcases how.2 with⟨he,_⟩|⟨g',cap,cur,fz,he,J,hg,Y,b4,U,K⟩
   ·cases he
   cases he
   obtain⟨c,rfl⟩:∃c',c=c'+1:=⟨c-1,om⟩
   obtain⟨y1,Q⟩:=hy.eo N.symm
   have hmul:(i+1)*sz<=es.length*sz:=A9 _ hi
   rw [A6,Aa]at hmul
   have b3:xs.length=es.length*sz:=how.1
   have b8:es.length*sz<=cur.size:=by
    rw [U];exact A9 _ Y
   have B:=eu (P:=P) (w:=w) hn (J.free U) hg (v:=D) (o:=i*sz+o) (by rw [Q];rfl) om (fun u hu=>by rw [Q]at hu;simp at hu;rw [hu];exact y1)
   refine⟨_,S,upd loc id (.arr ver e sz (.slice (some ⟨g,0,none⟩) es.length (c+1))),B,?_,rfl⟩
   have F:cj (loc id) (.arr ver e sz (.slice (some ⟨g,0,none⟩) es.length (c+1))):=by rw [a];exact .same _
   refine h.cw (Step.setRow w g _) id _ _ (fun b' H=>by cases H;exact⟨_,a,rfl⟩) ?_ (fun b' E=>by cases E;exact .inl ⟨_,a,rfl⟩) F
   have d8:i*sz+o<xs.length:=by omega
   refine .hole ver e es i o y sz _ (xs.set (i*sz+o) D) D hsz ?_ ⟨hf.len,fun u hu=>?_,fun k x j c' h1 f h3=>?_⟩ hi ho (by simp [d8]) (hy.mono (Sub.refl S) (cm.upd F))
   ·refine .inl ⟨by simpa using b3,.inr ⟨g,c+1,_,_,rfl,J,setRow_heap w g cur _ e _ hg,Y,b4,?_,?_⟩⟩
    ·rw [Q];simp;omega
    ·rw [<-K]
     apply AQ
     intro k
     have b7:D.cells.toList.length=1:=by rw [Q];rfl
     rw [AH,cY _ _ _ _ _ b7 so,AV,AH]
     by_cases hk:k<es.length*sz
     ·rw [if_pos hk]
      by_cases b5:i*sz+o=k
      ·subst b5
       rw [if_pos om,if_pos rfl,if_pos so,Q]
       simp
      ·rw [if_neg om,if_neg b5,if_pos hk]
     ·rw [if_neg hk]
      rw [if_neg om,if_neg hk]
   ·rcases A4 hu with hu|rfl
    ·exact hf.one u hu
    ·exact y1
   ·obtain⟨u,h4,h5⟩:=hf.cell k x j c' h1 f h3
    refine⟨u,?_,h5⟩
    have T:j<sz:=by rw [<-hf.len x (A1 h1)];exact(List.getElem?_eq_some_iff.1 f).1
    rw [AW ?_]
    ·exact h4
    ·intro heq
     apply h3
     have b5:k=i:=by
      rcases A8 k i with d3|c6|d3
      ·have:=A9 sz (show k+1<=i by omega)
       rw [A6,Aa]at this
       omega
      ·exact c6
      ·have:=A9 sz (show i+1<=k by omega)
       rw [A6,Aa]at this
       omega
     subst b5
     exact⟨rfl,om⟩
  |deep I e es q e2 ts W=>
   by_cases l:ver=I
   rotate_left
   ·simp only [if_neg l]at f;exact fE s.boxes f
   simp only [if_pos l]at f
   subst l
   obtain⟨sz,xs,bs,bl,g,m,c,a,rfl,hd⟩:=h.lE hb hx
   have b3:=hd.how.len
   have F:cj (loc id) (.nest ver e sz (.slice (some ⟨g,0,none⟩) m c) bs):=by rw [a];exact .same _
   have hle:=cm.upd F
   by_cases hq:o=q∧n=1
   ·simp only [if_pos hq]at f
    obtain⟨rfl,rfl⟩:=hq
    rcases W with _|⟨j,e0⟩
    ·exact fE s.boxes f
    by_cases c4:i=j
    rotate_left
    ·simp only [if_neg c4]at f;exact fE s.boxes f
    simp only [if_pos c4]at f
    subst c4
    obtain⟨h5, -,N⟩:=M.cg (b:=s.boxes) f
    cases h5
    obtain⟨hi,u0,f2, -⟩:=hd.hl i e0 rfl
    obtain⟨y1,Q⟩:=hy.eo N.symm
    have hmul:(i+1)*sz<=es.length*sz:=A9 _ hi
    rw [A6,Aa]at hmul
    have ho:=hd.ho
    obtain⟨w',B,O,a4,a6⟩:=lk (P:=P) hn hd.how om (v:=D) (pos:=i*sz+o) (by rw [Q];rfl) (fun u hu=>by rw [Q]at hu;simp at hu;rw [hu];exact y1) om
    refine⟨w',S,upd loc id (.nest ver e sz (.slice (some ⟨g,0,none⟩) m c) bs),by simpa [Instr.storeAt,Instr.sureAddr]using B,?_,rfl⟩
    have e5:xs.take (i*sz+o)++D.cells.toList++xs.drop (i*sz+o+1)=xs.set (i*sz+o) D:=by
     rw [Q]
     apply AQ
     intro k
     rw [cY _ _ _ 1 _ rfl om,AV]
     by_cases hk:i*sz+o=k
     ·rw [if_pos om,if_pos hk,if_pos om, <-hk];simp
     ·rw [if_neg om,if_neg hk]
    rw [e5]at a4
    refine h.cw O id _ _ (fun b' H=>by cases H;exact⟨_,a,List.mem_append.2 (.inl (by rw [a6];simp))⟩) (.deep _ _ _ _ _ _ _ sz _ (xs.set (i*sz+o) D) bs bl ?_) (fun b' E=>.inl ⟨_,a,E⟩) F
    have d6:∀(k j:Nat),j<sz->¬(k=i∧j=o)->(xs.set (i*sz+o) D)[k*sz+j]? =xs[k*sz+j]? :=fun k j T W=>AW (fun heq=>W (nH T ho heq.symm))
    refine⟨hd.hsz,ho,a4,⟨hd.hf.len,fun u hu=>?_,fun k x j c' h1 f h3=>?_⟩,((hd.hc.imp fun k row u hk b1=>?_).same rfl (fun k e' hk=>⟨e',hk,rfl⟩) fun k hk b9=>d6 k o ho fun W=>b9 (by rw [W.1];rfl)),hd.hb,fun j rv he=>?_,hd.ht⟩
    ·rcases A4 hu with hu|rfl
     ·exact hd.hf.one u hu
     ·exact y1
    ·obtain⟨u,h4,h5⟩:=hd.hf.cell k x j c' h1 f h3
     have T:j<sz:=by rw [<-hd.hf.len x (A1 h1)];exact(List.getElem?_eq_some_iff.1 f).1
     exact⟨u,by rw [d6 k j T fun W=>h3 W.2];exact h4,h5⟩
    ·exact b1.aE (Sub.refl S) fun b z=>O.block b (b1.lt b z) fun hc=>hd.hc.hdr k b hk z (by rw [a6,hc])
    ·cases he
     exact⟨hi,D,by rw [AX om],hy.mono (Sub.refl S) hle⟩
   simp only [if_neg hq]at f
   by_cases hw:q<o∨o+n<=q
   rotate_left
   ·simp only [if_neg hw]at f;exact fE s.boxes f
   simp only [if_pos hw]at f
   rcases e6:y with p|_|_|_|_|_|_|_|_|_|_|_|_|_|_|_|_|_|_<;>subst e6<;>first|exact fE s.boxes f|skip
   rcases G:es[i]? with _|el
   ·simp only [G]at f;exact fE s.boxes f
   simp only [G]at f
   obtain⟨h5, -,hc⟩:=M.cg (b:=s.boxes) f
   cases h5
   simp only [Ad,Ac]at hc
   obtain⟨hs,hc⟩:=hc
   obtain⟨L,c2⟩:=of_decide_eq_true hc
   obtain⟨y1,Q,y3⟩:=hy.sized hs
   have a9:V S p D:=by cases hy with|d h=>exact h
   have hi:i<es.length:=(List.getElem?_eq_some_iff.1 G).1
   have c3:el.cells.length=sz:=hd.hf.len el (A1 G)
   have C:D.cells.size=n:=by rw [a9.cells.1,L]
   have hmul:(i+1)*sz<=es.length*sz:=A9 _ hi
   rw [A6,Aa]at hmul
   have a8:∀c∈p.cells,c.one=true:=by
    have:=kH (b:=s.boxes) (rv:= .d p) (p:=p) (u:=[]) (r:=[]) rfl hs
    exact this.2
   obtain⟨w',B,O,a4,a6⟩:=lk (P:=P) hn hd.how om (v:=D) (pos:=i*sz+o) C y3 om
   refine⟨w',S,upd loc id (.nest ver e sz (.slice (some ⟨g,0,none⟩) m c) bs),by simpa [Instr.storeAt,Instr.sureAddr]using B,?_,rfl⟩
   refine h.cw O id _ _ (fun b' H=>by cases H;exact⟨_,a,List.mem_append.2 (.inl (by rw [a6];simp))⟩) (.deep _ _ _ _ _ _ _ sz _ (xs.take (i*sz+o)++D.cells.toList++xs.drop (i*sz+o+n)) bs bl ?_) (fun b' E=>.inl ⟨_,a,E⟩) F
   obtain⟨f3,f0⟩:=PD.fU el o p.cells om a8
   have d9:∀(k j:Nat),j<sz->¬(k=i∧o<=j∧j<o+n)->(xs.take (i*sz+o)++D.cells.toList++xs.drop (i*sz+o+n))[k*sz+j]? =xs[k*sz+j]? :=fun k j T W=>by
    rw [cY _ _ _ n _ (by simpa using C) om,if_neg]
    intro⟨h1,f⟩
    have:=(nH (o:=k*sz+j-i*sz) (k:=k) (i:=i) (j:=j) T om om).1
    subst this
    exact W ⟨rfl,om,om⟩
   refine ⟨hd.hsz, hd.ho, by rw [A0]; exact a4, hd.hf.set b3 G L a8 om (by simpa using C) (fun u hu => y3 u (by simpa using hu)) (fun j c u T hu => a9.cells.2 j c u T (by simpa using hu)),
    ((hd.hc.imp fun k row u hk b1=>?_).same (A0 ..) (fun k e' hk=>?_) fun k hk b9=>d9 k q hd.ho fun W=>om),fun b=>by rw [A0];exact hd.hb b,fun j rv he=>?_,hd.ht⟩
   ·exact b1.aE (Sub.refl S) fun b z=>O.block b (b1.lt b z) fun hc=>hd.hc.hdr k b hk z (by rw [a6,hc])
   ·rw [AV]at hk
    by_cases d0:i=k
    ·subst d0
     simp only [if_true,hi,AD]at hk
     subst hk
     exact⟨el,G,by rw [f0,if_neg om]⟩
    ·rw [if_neg d0]at hk
     exact⟨e',hk,rfl⟩
   ·obtain⟨a1,u,a2,a3⟩:=hd.hl j rv he
    refine⟨by rw [A0];exact a1,u,by rw [d9 j q hd.ho fun W=>by omega];exact a2,a3.mono (Sub.refl S) hle⟩
  |nest I e e2 ess W=>
   by_cases l:ver=I∧o=0∧n=1
   rotate_left
   ·simp only [l,if_false]at f;exact fE s.boxes f
   simp only [if_pos l]at f
   obtain⟨rfl,rfl,rfl⟩:=l
   obtain⟨h5, -,hc⟩:=M.cg (b:=s.boxes) f
   cases h5
   simp only [Ad,Ac]at hc
   obtain⟨⟨N,a7⟩,a0⟩:=hc
   have a7:=of_decide_eq_true a7
   have a0:∀j r,W=some (j,r)->i=j:=fun j r e=>by subst e;exact of_decide_eq_true a0
   obtain⟨xs,bs,k,g,m,c,a,rfl,hsz,e4,how,Y,d5,d3⟩:=h.nX hb hx
   have d7:=how.fw om
   rcases d7.2 with⟨he,_⟩|⟨g',cap,cur,fz,he,J,hg,f1,b4,U,K⟩
   ·cases he
   cases he
   obtain⟨c,rfl⟩:∃c',c=c'+1:=⟨c-1,om⟩
   obtain⟨y1,Q⟩:=hy.eo N
   have B:=eu (P:=P) (w:=w) hn (J.free U) hg (v:=D) (o:=i) (by rw [Q];rfl) om (fun u hu=>by rw [Q]at hu;simp at hu;rw [hu];exact y1)
   obtain⟨r1,r2,r3⟩:=how.set1 (v:=D) a7 hg Q
   obtain⟨nc,d4⟩:∃nc,(ncs e2 ess W)[i]? =some nc:=⟨_,zc (by rw [kx];exact a7)⟩
   obtain⟨v0,b0,c1,bs2,h6,h7,h8,h9⟩:=Y.split d4
   have b2:=h9 (.val y) D [] (.val y D hy y1)
   rw [fD e2 ess W i y a0]at b2
   rw [A5]at b2
   have e3:∀b∈bs,b≠g:=fun b z e=>by
    subst e
    exact(List.nodup_append.1 d5).2.2 b (by simp [cA]) b z rfl
   have F:cj (loc id) (.nest ver e 1 (.slice (some ⟨g,0,none⟩) ess.length (c+1)) (c1++bs2)):=by rw [a];exact .held
   have hle:=cm.upd F
   rw [A7]
   refine⟨_,S,upd loc id (.nest ver e 1 (.slice (some ⟨g,0,none⟩) ess.length (c+1)) (c1++bs2)),B,?_,rfl⟩
   refine h.cw (Step.setRow w g _) id _ _ (fun b' H=>by cases H;exact⟨_,a,by simp [Loc.has,cA]⟩) ?_ (fun b' E=>.inl ⟨_,a,?_⟩) F
   ·refine .nest ver e e2 ess _ _ (xs.set i D) (c1++bs2) hsz ⟨k,e4⟩ r3 (b2.aE (Sub.refl S) hle fun b z=>?_) ?_ (fun j rv e=>by cases e;exact a7)
    ·refine setRow_other w g b _ (e3 b ?_)
     rw [h6]
     rcases List.mem_append.1 z with z|z
     ·exact List.mem_append.2 (.inl z)
     ·exact List.mem_append.2 (.inr (List.mem_append.2 (.inr z)))
    ·refine List.Nodup.sublist ?_ d5
     rw [h6]
     exact List.Sublist.append (List.Sublist.refl _) (List.Sublist.append (List.Sublist.refl _) (List.sublist_append_right _ _))
   ·rcases List.mem_append.1 E with z|z
    ·exact List.mem_append.2 (.inl z)
    ·refine List.mem_append.2 (.inr ?_)
     rw [h6]
     rcases List.mem_append.1 z with z|z
     ·exact List.mem_append.2 (.inl z)
     ·exact List.mem_append.2 (.inr (List.mem_append.2 (.inr z)))
end
end Go.Dw
