
import Derived.Test.YtfmoipelhfkdkaaGreatDoorDwMem
set_option linter.unusedVariables false
set_option linter.unusedSimpArgs false
open List renaming append_assoc->DC, ext_getElem?->DO, getElem?_append_left->DP, getElem?_append_right->DQ, getElem?_cons_succ->DR, getElem?_cons_zero->DS, getElem?_set->DT, getElem?_set_ne->DU, getElem?_set_self->DV, getElem?_take->DF, length_cons->DW, length_nil->DX, mem_of_getElem?->DY, mem_or_eq_of_mem_set->DZ, nil_append->D0
open Nat renaming add_mul->D1, add_zero->D2, mul_le_mul_right->D3, one_mul->D4, sub_self->D5
open Bool renaming and_eq_true->D6, true_eq->D7

namespace Go.Dw
theorem A8(v:Value)(h:∀cs,v≠ .agg cs):(ub v).cells=[ub v]∧v.cells= #[v]:=by
 refine⟨?_,?_⟩
 ·unfold ub;split<;>rfl
 ·cases v<;>first|rfl|exact(h _ rfl).elim
theorem uJ(S:rC)(loc:sf)(v:Value):v.cells.size=(sd v).cells.length∧∀(i:Nat)c u,(sd v).cells[i]? =some c->v.cells[i]? =some u->R S loc c u:=by
 by_cases h:∃cs,v= .agg cs
 ·obtain⟨cs,rfl⟩:=h
  refine⟨by simp [sd,RV.cells,Value.cells],fun i c u h1 f=>?_⟩
  simp only [sd,RV.cells,List.getElem?_map,Array.getElem?_toList]at h1
  simp only [Value.cells]at f
  simp only [f,Option.map_some,Option.some.injEq]at h1
  subst h1
  exact R.ub S loc u
 ·have j:∀cs,v≠ .agg cs:=fun cs e=>h ⟨cs,e⟩
  have he:sd v=ub v:=by
   unfold sd
   split
   ·exact(j _ rfl).elim
   ·rfl
  obtain⟨h1,f⟩:=A8 v j
  rw [he,h1,f]
  refine⟨rfl,fun i c u g k=>?_⟩
  cases i with
  |zero=>
   simp at g k
   subst g;subst k
   exact R.ub S loc v
  |succ i=>simp at g
section
variable {P:Program}{X:Ctx}{S:rC}{loc:sf}{s:St}{w:World}
theorem V.uZ{p:PD}{v:Value}(h:V S p v)(hp:p.one=true):v.oneCell'=true∧v.cells= #[v]:=by
 cases h<;>first|exact⟨rfl,rfl⟩|(simp [PD.one]at hp;done)|skip
 rename_i f
 unfold CD at f
 split at f<;>first|exact⟨rfl,rfl⟩|cases f
theorem cells_one{v:Value}(h:v.oneCell'=true):v.cells= #[v]:=by
 cases v<;>first|rfl|(simp [Value.oneCell']at h)
theorem R.uZ{rv:RV}{v:Value}(h:R S loc rv v)(ho:rv.one=true):v.oneCell'=true∧v.cells= #[v]:=by
 cases h with
 |d h=>exact h.uZ ho
 |pY=>exact⟨rfl,rfl⟩
 |cptr=>exact⟨rfl,rfl⟩
 |ref id ver _ _ h1=>exact⟨h1,cells_one h1⟩
 |ptr id off _ _ h1=>exact⟨h1,cells_one h1⟩
 |elt a b c d _ _ h1=>exact⟨h1,cells_one h1⟩
 |view a b c d _ _ h1=>exact⟨h1,cells_one h1⟩
 |clo=>exact⟨rfl,rfl⟩
 |fview _ _ _ _ _ h1=>exact⟨h1,cells_one h1⟩
 |err t x=>exact⟨rfl,rfl⟩
 |noerr=>exact⟨rfl,rfl⟩
 |dfull _ _ _=>exact⟨rfl,rfl⟩
 |ifc _ _ _ _=>exact⟨rfl,rfl⟩
 |plit _ _ _ _ _ _ _ _=>exact⟨rfl,rfl⟩
 |pcp _ _ _ _ _ _=>exact⟨rfl,rfl⟩
 |undef=>simp [RV.one]at ho
 |junk=>simp [RV.one]at ho
 |agg=>simp [RV.one]at ho
 |tup=>simp [RV.one]at ho
theorem R.sized{rv:RV}{v:Value}(h:R S loc rv v)(hs:rv.sized=true):
  v.cells.size=rv.cells.length∧(∀(i:Nat)c u,rv.cells[i]? =some c->v.cells[i]? =some u->R S loc c u)∧∀u∈v.cells,u.oneCell'=true:=by
 have key:∀(cs:List RV)(vs:Array Value),v= .agg vs->vs.size=cs.length->rv.cells=cs->(∀(i:Nat)c u,cs[i]? =some c->vs[i]? =some u->R S loc c u)->
   v.cells.size=rv.cells.length∧(∀(i:Nat)c u,rv.cells[i]? =some c->v.cells[i]? =some u->R S loc c u)∧∀u∈v.cells,u.oneCell'=true:=by
  intro cs vs r hl hc q
  subst r
  rw [hc]
  refine⟨hl,q,fun u hu=>?_⟩
  replace hu:u∈vs:=hu
  obtain⟨i,hi,he⟩:=Array.getElem_of_mem hu
  have j:i<cs.length:=by rw [<-hl];exact hi
  have h1:=q i cs[i] u (zf j) (by rw [Array.getElem?_eq_getElem hi,he])
  refine(h1.uZ ?_).1
  have:=List.all_eq_true.1 hs cs[i] (by rw [hc];exact List.getElem_mem j)
  exact this
 have single:rv.cells=[rv]->v.cells.size=rv.cells.length∧(∀(i:Nat)c u,rv.cells[i]? =some c->v.cells[i]? =some u->R S loc c u)∧∀u∈v.cells,u.oneCell'=true:=by
  intro hc
  have ho:rv.one=true:=List.all_eq_true.1 hs rv (by rw [hc];simp)
  obtain⟨h1,g⟩:=h.uZ ho
  rw [hc,g]
  refine⟨rfl,fun i c u f k=>?_,fun u hu=>?_⟩
  ·cases i with
   |zero=>simp at f k;subst f;subst k;exact h
   |succ i=>simp at f
  ·simp at hu;rw [hu];exact h1
 rcases rv with p|_|_|_|cs|_|_|_|_|_|_|_|_
 case d=>
  cases p with
  |agg cs=>
   obtain⟨vs,h1,g,f⟩:=h.zP
   exact key (cs.map .d) vs h1 (by simpa using g) rfl f
  |_=>exact single rfl
 case agg=>
  obtain⟨vs,h1,g,f⟩:=h.xi
  exact key cs vs h1 g rfl f
 all_goals exact single rfl
theorem ym(l:List RV):∀(cs:List RV)(off i:Nat),off+l.length<=cs.length->
  (setCells cs off l)[i]? =if off<=i∧i<off+l.length then l[i-off]? else cs[i]? :=by
 induction l with
 |nil=>intro cs off i _;simp only [setCells,DX];rw [if_neg za]
 |cons v r g=>
  intro cs off i hle
  simp only [DW]at hle⊢
  rw [setCells,g _ _ _ so]
  by_cases h1:off+1<=i∧i<off+1+r.length
  ·rw [if_pos h1,if_pos za]
   obtain⟨k,rfl⟩:∃k,i=off+1+k:=⟨i-(off+1),za⟩
   rw [show off+1+k-(off+1)=k by omega,show off+1+k-off=k+1 by omega,DR]
  ·rw [if_neg h1]
   by_cases f:i=off
   ·subst f
    rw [if_pos za,DV za,D5,DS]
   ·rw [if_neg za,DU za]
theorem uU(l:List RV):∀(cs:List RV)(off:Nat),(setCells cs off l).length=cs.length:=by
 induction l with
 |nil=>intro cs off;rfl
 |cons v r f=>intro cs off;rw [setCells,f];simp
theorem AK(l:List PD):∀(cs:List PD)(off i:Nat),off+l.length<=cs.length->
  (uH cs off l)[i]? =if off<=i∧i<off+l.length then l[i-off]? else cs[i]? :=by
 induction l with
 |nil=>intro cs off i _;simp only [uH,DX];rw [if_neg za]
 |cons v r g=>
  intro cs off i hle
  simp only [DW]at hle⊢
  rw [uH,g _ _ _ so]
  by_cases h1:off+1<=i∧i<off+1+r.length
  ·rw [if_pos h1,if_pos za]
   obtain⟨k,rfl⟩:∃k,i=off+1+k:=⟨i-(off+1),za⟩
   rw [show off+1+k-(off+1)=k by omega,show off+1+k-off=k+1 by omega,DR]
  ·rw [if_neg h1]
   by_cases f:i=off
   ·subst f
    rw [if_pos za,DV za,D5,DS]
   ·rw [if_neg za,DU za]
theorem yN(l:List PD):∀(cs:List PD)(off:Nat),(uH cs off l).length=cs.length:=by
 induction l with
 |nil=>intro cs off;rfl
 |cons v r f=>intro cs off;rw [uH,f];simp
def wa(P:Program)(X:Ctx)(s':St)(o:Oper)(a:Act)(w:World):Prop:=
 ∀(K:Act->World->Prop)(Q:Exit->Act->World->Prop),(∀f w',vK P X s' f w'->K f w')->o.wp P a w K Q
theorem wa.value{s':St}{o:Oper}{a:Act}{w w':World}{v':Value}{v:RV}{S:rC}{loc:sf}(k:a.defers=[])(f:∀d,o.dst=some d->d<X.nt)
  (g:(execOp a.eval o).run P w= .ok (.value v') w') (hS:Sim P X S loc s' a.tmps w') (q:R S loc v v'):wa P X (s'.put o.dst v) o a w:=by
 intro K Q j
 unfold Oper.wp
 rw [g]
 exact j _ _ ⟨by cases o.dst<;>exact k,S,loc,hS.put (a:=a) q o.dst f⟩
theorem wa.skip{s':St}{o:Oper}{a:Act}{w w':World}{S:rC}{loc:sf}(k:a.defers=[])(f:∀d,o.dst=some d->d<X.nt)
  (g:(execOp a.eval o).run P w= .ok .skip w') (hS:Sim P X S loc s' a.tmps w'):wa P X (s'.put o.dst .undef) o a w:=by
 intro K Q j
 unfold Oper.wp
 rw [g]
 exact j _ _ ⟨by cases o.dst<;>exact k,S,loc,hS.put (a:=a) .undef o.dst f⟩
variable {tm:Array Value}
theorem Sim.rX(h:Sim P X S loc s tm w){id:Nat}(g:s.boxes id=none):loc id=none:=by
 cases hl:loc id with
 |none=>rfl
 |some L=>
  obtain⟨j,f⟩:=h.dom id L hl
  rw [g]at f
  cases f
theorem Sim.newVar(h:Sim P X S loc s tm w){id:Nat}(j:s.boxes id=none)(cs:List RV)(vs:Array Value)(t:TypeId)(hl:vs.size=cs.length)
  (q:∀(i:Nat)c u,cs[i]? =some c->vs[i]? =some u->R S loc c u):
  ∃loc',Sim P X S loc' { s with boxes:=upd s.boxes id (.var cs) } tm (w.alloc (.cells vs t))∧R S loc' (.ptr id 0) (.pointer (some ⟨w.heap.size,0,none⟩))∧rF loc loc':=by
 have g:=h.rX j
 have f:rP (loc id) (.var w.heap.size):=by rw [g];trivial
 refine⟨upd loc id (.var w.heap.size),?_,?_,rF.upd f⟩
 ·refine h.sq (Step.alloc w _) id _ _ (fun b hc=>by cases hc) ?_ ?_ f
  ·exact .var cs w.heap.size t vs (heap_alloc_new w _) hl (fun i c v h1 k=>(q i c v h1 k).mono (Sub.refl S) (rF.upd f))
  ·intro b j;cases j;exact .inr (.inl (Nat.le_refl _))
 ·exact .ptr id 0 _ (.var w.heap.size) rfl (ru _ _ _) (fun b=>⟨fun he=>by cases he;rfl,(fun he=>by cases he)⟩)
theorem tv{t:TypeId}{z:Value}(h:se P t=some z):∃i,P.info? t=some i∧i.zero=some z:=by
 unfold se at h
 cases hi:P.info? t with
 |none=>simp [hi]at h
 |some i=>simp only [hi,ze]at h;exact⟨i,rfl,h⟩
theorem A3(h:Sim P X S loc s tm w){id:Nat}{t:TypeId}{v:RV}{u:Ups}{r:List Nat}(hl:xG P id t s.boxes=some ((v,u),r,true)):
  ∃v' w' loc',(Instr.alloc t true (.tuple #[])).run P w= .ok v' w'∧Sim P X S loc' (s.ups u) tm w'∧R S loc' v v':=by
 unfold xG at hl
 rcases g:se P t with _|z
 ·simp only [g]at hl;exact fE s.boxes hl
 simp only [g]at hl
 obtain⟨_,F,G,h1,j,_⟩:=M.bind_some hl
 obtain⟨E,_,_⟩:=M.su h1
 obtain⟨k, -, -⟩:=M.qw j
 cases k
 obtain⟨i,hi,f⟩:=tv g
 obtain⟨q,B⟩:=uJ S loc z
 obtain⟨loc',C,D,_⟩:=h.newVar E _ z.cells t q B
 refine⟨_,_,loc',?_,C,D⟩
 simp [Instr.alloc,zeroValue,typeInfo,hi,f,newVar,newRow]
theorem Cd(h:Sim P X S loc s tm w){id:Nat}{t:TypeId}{x v:RV}{u:Ups}{r:List Nat}{f:Value}(hl:boxD id x s.boxes=some ((v,u),r,true))(E:R S loc x f):
  ∃v' w' loc',(Instr.box t f).run P w= .ok v' w'∧Sim P X S loc' (s.ups u) tm w'∧R S loc' v v':=by
 obtain⟨_,F,G,h1,j,_⟩:=M.bind_some hl
 obtain⟨D,_,_⟩:=M.su h1
 obtain⟨k, -,hs⟩:=M.rm j
 cases k
 obtain⟨q,B,g⟩:=E.sized hs.symm
 obtain⟨loc',g,C,_⟩:=h.newVar D _ f.cells t q B
 refine⟨_,_,loc',?_,g,C⟩
 simp [Instr.box,newVar,newRow]
theorem uA(P:Program)(g o:Nat)(t:TypeId)(fz:Nat×Nat)(m:Nat)(k:∀j,j<m->¬(fz.1<=j∧j<fz.2)):∀(vs:List Value)(i:Nat)(cur:Array Value)(w:World),cur.size=m->w.heap[g]? =some (.cells cur t fz)->o+i+vs.length<=cur.size->(∀v∈vs,v.oneCell'=true)->
  (storeCells ⟨g,o,none⟩ vs i).run P w= .ok () (w.setRow g (cur.toList.take (o+i)++vs++cur.toList.drop (o+i+vs.length)).toArray)
 | [],i,cur,w,_,f,_,_=>by
  rw [List.append_nil,DX,D2,List.take_append_drop,Array.toArray_toList,setRow_self w g cur t fz f]
  rfl
 |v::r,i,cur,w,hm,f,hl,h1=>by
  rw [DW]at hl
  have q:o+i<cur.size:=by omega
  have C:(⟨g,o,none⟩:Addr).add i=⟨g,o+i,none⟩:=by unfold Addr.add;split<;>simp_all
  have D:w.frozen? ⟨g,o+i,none⟩=false:=by
   simp only [World.frozen?,f]
   have:=k (o+i) za
   simpa using this
  have E:(store ((⟨g,o,none⟩:Addr).add i) v).run P w= .ok () (w.setRow g (cur.setIfInBounds (o+i) v)):=by
   rw [C,run_store P w _ v _ (h1 v zc),show w.cell? ⟨g,o+i,none⟩=some cur[o+i]by simp [World.cell?,f,q]]
   simp [D,setCell_eq_setRow w g (o+i) cur t fz v f]
  have B:=uA P g o t fz m k r (i+1) (cur.setIfInBounds (o+i) v) (w.setRow g (cur.setIfInBounds (o+i) v)) (by simpa using hm) (setRow_heap w g cur _ t fz f) so fun u hu=>h1 u (by simp [hu])
  have F:((cur.setIfInBounds (o+i) v).toList.take (o+(i+1))++r++(cur.setIfInBounds (o+i) v).toList.drop (o+(i+1)+r.length))=cur.toList.take (o+i)++(v::r)++cur.toList.drop (o+i+(v::r).length):=by
   have G:cur.toList.length=cur.size:=by simp
   rw [Array.toList_setIfInBounds,DW,show o+(i+1)=o+i+1 by omega,List.take_succ_eq_append_getElem so,List.getElem_set_self,List.take_set_of_le za,List.drop_set_of_lt za]
   simp only [DC,List.cons_append,D0]
   rw [show o+i+1+r.length=o+i+(r.length+1)by omega]
  rw [F]at B
  simp only [storeCells,Sem.run_bind,E,Result.andThen_ok]
  rw [B,setRow_setRow]
theorem FzOk.free{fz:Nat×Nat}{cap sz m:Nat}(h:FzOk fz cap sz)(hm:m=cap*sz):∀j,j<m->¬(fz.1<=j∧j<fz.2):=by
 intro j g
 rcases h with rfl|⟨h1,f⟩
 ·simp
 ·subst f
  omega
theorem u6{t:TypeId}{n:Nat}(r:szT P t=some n){g o:Nat}{cur:Array Value}{ty:TypeId}{fz:Nat×Nat}(f:∀j,j<cur.size->¬(fz.1<=j∧j<fz.2))(q:w.heap[g]? =some (.cells cur ty fz)){v:Value}(k:v.cells.size=n)(hle:o+n<=cur.size)
  (h1:∀u∈v.cells,u.oneCell'=true):
  (storeVar t ⟨g,o,none⟩ v).run P w= .ok () (w.setRow g (cur.toList.take o++v.cells.toList++cur.toList.drop (o+n)).toArray):=by
 have:=uA P g o ty fz cur.size f v.cells.toList 0 cur w rfl q so (fun u hu=>h1 u (by simpa using hu))
 simp only [storeVar,Sem.run_bind,rD r,Result.andThen_ok,k,ne_eq,not_true_eq_false,if_false]
 simp only [D2,Array.length_toList,k]at this
 simpa using this
theorem tK(cur vs:List Value)(o n i:Nat)(f:vs.length=n)(hle:o+n<=cur.length):(cur.take o++vs++cur.drop (o+n))[i]? =if o<=i∧i<o+n then vs[i-o]? else cur[i]? :=by
 subst f
 by_cases h1:i<o
 ·rw [if_neg za,DC,DP so,DF,if_pos h1]
 ·by_cases g:i<o+vs.length
  ·rw [if_pos za,DC,DQ so,List.length_take,Nat.min_eq_left za,DP za]
  ·rw [if_neg za,DQ so,List.getElem?_drop]
   congr 1
   simp
   omega
end
end Go.Dw
namespace Go.Dw
section
variable {P:Program}{X:Ctx}{S:rC}{loc:sf}{s:St}{tm:Array Value}{w:World}
theorem PD.AW(e:PD)(o:Nat)(vs:List PD)(h:o+vs.length<=e.cells.length)(q:∀p∈vs,p.one=true):
  (e.put o vs).cells.length=e.cells.length∧∀j,(e.put o vs).cells[j]? =if o<=j∧j<o+vs.length then vs[j-o]? else e.cells[j]? :=by
 have single:∀(e:PD),e.cells=[e]->(e.put o vs)=vs.headD e->o+vs.length<=1->
   (e.put o vs).cells.length=e.cells.length∧∀j,(e.put o vs).cells[j]? =if o<=j∧j<o+vs.length then vs[j-o]? else e.cells[j]? :=by
  intro e he hp hle
  rw [hp,he]
  cases vs with
  |nil=>simp only [List.headD_nil,he,DX];exact⟨trivial,fun j=>by rw [if_neg za]⟩
  |cons v r=>
   have g:r=[]:=List.eq_nil_of_length_eq_zero (by simp at hle;omega)
   subst g
   have ho:o=0:=by simp at hle;omega
   subst ho
   have f:=q v zc
   have hc:v.cells=[v]:=by cases v<;>first|rfl|(simp [PD.one]at f)
   simp only [List.headD_cons,hc,List.length_singleton]
   refine⟨trivial,fun j=>?_⟩
   cases j with
   |zero=>simp
   |succ j=>rw [if_neg za];simp
 cases e with
 |agg cs=>exact⟨by simp [PD.put,PD.cells,yN],fun j=>by simp only [PD.put,PD.cells];exact AK vs cs o j h⟩
 |bool b=>exact single _ rfl rfl h
 |int k n=>exact single _ rfl rfl h
 |str l=>exact single _ rfl rfl h
 |lst l=>exact single _ rfl rfl h
 |raw v=>exact single _ rfl rfl h
theorem V.cells{p:PD}{v:Value}(h:V S p v):v.cells.size=p.cells.length∧(∀(i:Nat)c u,p.cells[i]? =some c->v.cells[i]? =some u->V S c u):=by
 cases h with
 |agg cs vs hl h=>exact⟨hl,h⟩
 |bool b=>exact⟨rfl,fun i c u h1 g=>by cases i<;>simp [PD.cells,Value.cells]at h1 g;subst h1;subst g;exact .bool b⟩
 |int k n=>exact⟨rfl,fun i c u h1 g=>by cases i<;>simp [PD.cells,Value.cells]at h1 g;subst h1;subst g;exact .int k n⟩
 |str l=>exact⟨rfl,fun i c u h1 g=>by cases i<;>simp [PD.cells,Value.cells]at h1 g;subst h1;subst g;exact .str l⟩
 |nil a j=>exact⟨rfl,fun i c u h1 g=>by cases i<;>simp [PD.cells,Value.cells]at h1 g;subst h1;subst g;exact .nil a j⟩
 |lst es b o j sz f hc q hS hV=>exact⟨rfl,fun i c u h1 g=>by cases i<;>simp [PD.cells,Value.cells]at h1 g;subst h1;subst g;exact .lst es b o j sz f hc q hS hV⟩
 |raw _ hp=>
  have hc:=cells_one (v:=v) (by unfold CD at hp;split at hp<;>first|rfl|cases hp)
  rw [hc]
  exact⟨rfl,fun i c u h1 g=>by cases i<;>simp [PD.cells]at h1 g;subst h1;subst g;exact .raw _ hp⟩
theorem Flat.set{sz:Nat}{es:List PD}{xs:List Value}(h:Flat S sz es xs)(N:xs.length=es.length*sz){i o n:Nat}{e p:PD}(he:es[i]? =some e)(hp:p.cells.length=n)(ho:∀c∈p.cells,c.one=true)
  (hle:o+n<=e.cells.length) {vs:List Value} (I:vs.length=n) (H:∀u∈vs,u.oneCell'=true) (L:∀(j:Nat)c u,p.cells[j]? =some c->vs[j]? =some u->V S c u):
  Flat S sz (es.set i (e.put o p.cells)) (xs.take (i*sz+o)++vs++xs.drop (i*sz+o+n)):=by
 have hi:i<es.length:=(List.getElem?_eq_some_iff.1 he).1
 have B:e.cells.length=sz:=h.len e (DY he)
 obtain⟨F,r⟩:=PD.AW e o p.cells za ho
 have hmul:(i+1)*sz<=es.length*sz:=D3 _ hi
 rw [D1,D4]at hmul
 have hlen:i*sz+o+n<=xs.length:=by omega
 refine⟨?_,?_,?_⟩
 ·intro x J
  rcases DZ J with J|rfl
  ·exact h.len x J
  ·rw [F,B]
 ·intro u hu
  rcases List.mem_append.1 hu with hu|hu
  ·rcases List.mem_append.1 hu with hu|hu
   ·exact h.one u (List.mem_of_mem_take hu)
   ·exact H u hu
  ·exact h.one u (List.mem_of_mem_drop hu)
 ·intro E K j x f g
  rw [tK xs vs (i*sz+o) n _ I hlen]
  rw [DT]at f
  by_cases q:i=E
  ·subst q
   simp only [if_true,hi,Option.some.injEq]at f
   subst f
   rw [r]at g
   have C:j<sz:=by
    have:j<(e.put o p.cells).cells.length:=by
     rw [<-r]at g
     exact(List.getElem?_eq_some_iff.1 g).1
    omega
   by_cases D:o<=j∧j<o+p.cells.length
   ·rw [if_pos D]at g
    rw [if_pos za]
    have:i*sz+j-(i*sz+o)=j-o:=by omega
    rw [this]
    have k:j-o<vs.length:=by omega
    exact⟨vs[j-o],zf k,L (j-o) x _ g (zf k)⟩
   ·rw [if_neg D]at g
    rw [if_neg za]
    exact h.cell i e j x he g
  ·rw [if_neg q]at f
   have C:j<sz:=by
    have:=h.len K (DY f)
    have:=(List.getElem?_eq_some_iff.1 g).1
    omega
   rw [if_neg]
   ·exact h.cell E K j x f g
   ·rcases Nat.lt_or_gt_of_ne q with k|G
    ·have h1:(i+1)*sz<=E*sz:=D3 _ k
     rw [D1,D4]at h1
     omega
    ·have h1:(E+1)*sz<=i*sz:=D3 _ G
     rw [D1,D4]at h1
     omega
theorem tB:∀(u:Ups)(s:St)(id:Nat),id∉u.map (·.1)->(s.ups u).boxes id=s.boxes id
 | [],_,_,_=>rfl
 |(i,b)::r,s,id,h=>by
  rw [tL,tB r _ id (fun hm=>h (by simp only [List.map_cons,List.mem_cons];exact .inr hm))]
  exact si _ _ (fun e=>h (by simp [e]))
theorem CL{rv:RV}{b:rY}{p:PD}{u:Ups}{r:List Nat}(h:uB rv b=some ((p,u),r,true))(hs:rv.sized=true):p.cells.length=rv.cells.length∧∀c∈p.cells,c.one=true:=by
 have E:∀{cs:List RV}{ps:List PD}{u:Ups}{r:List Nat},vI cs b=some ((ps,u),r,true)->(∀c∈cs,c.one=true)->ps.length=cs.length∧∀c∈ps,c.one=true:=by
  intro cs
  induction cs with
  |nil=>
   intro ps u r h _
   obtain⟨h1, -, -⟩:=M.qw (b:=b) h
   cases h1
   exact⟨rfl,fun c hc=>by cases hc⟩
  |cons c cs N=>
   intro ps u r h ho
   obtain⟨⟨p,u1⟩,J,K,h1,g,_⟩:=M.bind_some h
   obtain⟨⟨O,u2⟩,Q,T,C,L,_⟩:=M.bind_some g
   obtain⟨F, -, -⟩:=M.qw L
   cases F
   obtain⟨i1,i2⟩:=N C (fun c hc=>ho c (by simp [hc]))
   refine⟨by simp [i1],fun x I=>?_⟩
   rcases List.mem_cons.1 I with rfl|I
   ·have H:=ho c zc
    cases c with
    |d q=>obtain⟨F, -, -⟩:=M.qw (b:=b) h1;cases F;exact H
    |pY=>obtain⟨F, -, -⟩:=M.qw (b:=b) h1;cases F;rfl
    |ref id ver=>
     obtain⟨G,J,K,h1,g,_⟩:=M.bind_some h1
     cases G with
     |arr B e es=>
      by_cases j:ver=B
      rotate_left
      ·simp only [j,if_false]at g;exact fE b g
      simp only [j,if_true]at g
      obtain⟨C, -, -⟩:=M.qw (b:=b) g
      cases C
      rfl
     |var _=>exact fE b g
     |dead=>exact fE b g
     |map _ _ _=>exact fE b g
     |nest _ _ _ _ _=>exact fE b g
     |hole _ _ _ _ _ _=>exact fE b g
    |undef=>exact fE b h1
    |junk=>exact fE b h1
    |agg cs=>exact fE b h1
    |tup cs=>exact fE b h1
    |ptr a c=>exact fE b h1
    |elt a c d f=>exact fE b h1
    |cptr a=>exact fE b h1
    |view id ver lo hi=>
     obtain⟨G,J,K,h1,g,_⟩:=M.bind_some h1
     cases G with
     |arr B e es=>
      by_cases j:ver=B
      rotate_left
      ·simp only [j,if_false]at g;exact fE b g
      simp only [j,if_true]at g
      obtain⟨C, -, -⟩:=M.rm (b:=b) g
      cases C
      rfl
     |var _=>exact fE b g
     |dead=>exact fE b g
     |map _ _ _=>exact fE b g
     |nest _ _ _ _ _=>exact fE b g
     |hole _ _ _ _ _ _=>exact fE b g
    |clo a c=>exact fE b h1
    |fview _ _ _=>exact fE b h1
    |err _=>exact fE b h1
    |dfull _=>exact fE b h1
    |ifc _ _=>exact fE b h1
    |plit _=>exact fE b h1
    |pcp _=>exact fE b h1
   ·exact i2 x I
 have k:∀c∈rv.cells,c.one=true:=fun c hc=>List.all_eq_true.1 hs c hc
 have single:rv.cells=[rv]->yp rv b=some ((p,u),r,true)->p.cells.length=rv.cells.length∧∀c∈p.cells,c.one=true:=by
  intro hc h1
  have g:vI [rv] b=some (([p],u++[]),r++([]++[]),true):=by
   simp only [vI,M.bind,h1,M.pure,Bool.and_true]
  obtain⟨_,i2⟩:=E g (fun c D=>k c (by rw [hc];exact D))
  have hp:p.one=true:=i2 p zc
  have:p.cells=[p]:=by cases p<;>first|rfl|(simp [PD.one]at hp)
  rw [this,hc]
  exact⟨rfl,fun c D=>by simp at D;rw [D];exact hp⟩
 cases rv with
 |agg cs=>
  unfold uB at h
  obtain⟨⟨ps,u1⟩,J,K,h1,g,_⟩:=M.bind_some h
  obtain⟨C, -, -⟩:=M.qw (b:=b) g
  cases C
  obtain⟨i1,i2⟩:=E h1 k
  exact⟨i1,i2⟩
 |d q=>
  obtain⟨C, -, -⟩:=M.qw (b:=b) h
  cases C
  cases p with
  |agg cs=>
   refine⟨by simp [PD.cells,RV.cells],fun c hc=>?_⟩
   exact k (.d c) (by simp only [RV.cells];exact List.mem_map.2 ⟨c,hc,rfl⟩)
  |_=>exact single rfl h
 |pY=>exact single rfl h
 |ref id ver=>exact single rfl h
 |undef=>exact single rfl h
 |junk=>exact single rfl h
 |tup cs=>exact single rfl h
 |ptr a c=>exact single rfl h
 |elt a c d f=>exact single rfl h
 |cptr a=>exact single rfl h
 |view a c d f=>exact single rfl h
 |clo a c=>exact single rfl h
 |fview _ _ _=>exact single rfl h
 |err _=>exact single rfl h
 |dfull _=>exact single rfl h
 |ifc _ _=>exact single rfl h
 |plit _=>exact single rfl h
 |pcp _=>exact single rfl h
theorem rowAt.set1{w:World}{e:TypeId}{n g c i:Nat}{xs:List Value}{cur:Array Value}{ty:TypeId}{fz:Nat×Nat}{v:Value}(how:rowAt w e 1 (.slice (some ⟨g,0,none⟩) n (c+1)) n xs)(hi:i<n)
  (G:w.heap[g]? =some (.cells cur ty fz)) (C:v.cells= #[v]):i<cur.size∧ty=e∧rowAt (w.setRow g (cur.toList.take i++v.cells.toList++cur.toList.drop (i+1)).toArray) e 1 (.slice (some ⟨g,0,none⟩) n (c+1)) n (xs.set i v):=by
 have how:=how.vP za
 rcases how.2 with⟨he,_⟩|⟨J,cap,F,H,he,u,j,B,r,I,f⟩
 ·cases he
 cases he
 rw [G]at j
 cases j
 have E:xs.length=n*1:=how.1
 refine⟨za,rfl,.inl ⟨by simpa using E,.inr ⟨g,c+1,_,_,rfl,u,setRow_heap w g cur _ e _ G,B,r,?_,?_⟩⟩⟩
 ·simp [C];omega
 ·rw [<-f]
  apply DO
  intro k
  have D:v.cells.toList.length=1:=by rw [C];rfl
  rw [DF,tK _ _ _ _ _ D so,DT,DF]
  by_cases hk:k<n*1
  ·rw [if_pos hk]
   by_cases q:i=k
   ·subst q
    rw [if_pos za,if_pos rfl,if_pos so,C]
    simp
   ·rw [if_neg za,if_neg q,if_pos hk]
  ·rw [if_neg hk]
   rw [if_neg za,if_neg hk]
theorem Bq(h:Sim P X S loc s tm w){t:TypeId}{x y v:RV}{u:Ups}{r:List Nat}{vx J:Value}(hl:vv P t x y s.boxes=some ((v,u),r,true))(hx:R S loc x vx)(hy:R S loc y J):
  ∃w' S' loc',(Instr.storeAt t vx J).run P w= .ok () w'∧Sim P X S' loc' (s.ups u) tm w'∧v= .undef:=by
 unfold vv at hl
 rcases hn:szT P t with _|n
 ·simp only [hn]at hl;exact fE s.boxes hl
 simp only [hn]at hl
 rcases x with _|_|_|_|_|_|_|⟨id,off⟩|⟨id,ver,i,o⟩|_|_|_|_<;>first|exact fE s.boxes hl|skip
 ·obtain⟨bx,r1,r2,h1,D,_⟩:=M.bind_some hl
  obtain⟨hb,_,_⟩:=M.get_some h1
  cases bx with
  |var cs=>
   obtain⟨h3, -,hc⟩:=M.rm D
   cases h3
   simp only [D7,D6]at hc
   obtain⟨hs,hc⟩:=hc
   obtain⟨W,c5⟩:=of_decide_eq_true hc
   obtain⟨b,ty,vs,f,rfl,hw,hlen,hv⟩:=h.Bt hb hx
   obtain⟨y1,U,y3⟩:=hy.sized hs
   have E:=u6 (P:=P) (w:=w) hn zc hw (v:=J) (o:=off) (by rw [y1];exact W) za y3
   refine⟨_,S,upd loc id (.var b),E,?_,rfl⟩
   have H:rP (loc id) (.var b):=by rw [f];exact .same _
   refine h.sq (Step.setRow w b _) id _ _ (fun b' N=>by cases N;exact⟨_,f,rfl⟩) ?_ (fun b' F=>by cases F;exact .inl ⟨_,f,rfl⟩) H
   ·refine .var _ b ty _ (setRow_heap w b vs _ ty _ hw) ?_ ?_
    ·simp [uU];omega
    ·intro j c u hj hu
     rw [ym _ _ _ _ za]at hj
     rw [List.getElem?_toArray,tK _ _ _ _ _ (by simpa using(by rw [y1];exact W)) so]at hu
     by_cases c8:off<=j∧j<off+y.cells.length
     ·rw [if_pos c8]at hj
      rw [if_pos za]at hu
      exact(U _ c u hj (by simpa using hu)).mono (Sub.refl S) (rF.upd H)
     ·rw [if_neg c8]at hj
      rw [if_neg za]at hu
      exact(hv _ c u hj (by simpa using hu)).mono (Sub.refl S) (rF.upd H)
  |arr _ _ _=>exact fE s.boxes D
  |dead=>exact fE s.boxes D
  |map _ _ _=>exact fE s.boxes D
  |nest _ _ _ _ _=>exact fE s.boxes D
  |hole _ _ _ _ _ _=>exact fE s.boxes D
 ·obtain⟨bx,r1,r2,h1,D,_⟩:=M.bind_some hl
  obtain⟨hb,_,_⟩:=M.get_some h1
  cases bx with
  |arr L e es=>
   by_cases B:ver=L
   rotate_left
   ·simp only [B,if_false]at D;exact fE s.boxes D
   simp only [B,if_true]at D
   subst B
   obtain⟨⟨p,u1⟩,r3,r4,h3,h4,_⟩:=M.bind_some D
   rcases a5:es[i]? with _|el
   ·simp only [a5]at h4;exact fE s.boxes h4
   simp only [a5]at h4
   by_cases Y:(u1.map (·.1)).contains id=true
   ·simp only [Y,if_true]at h4;exact fE s.boxes h4
   simp only [Y]at h4
   obtain⟨h5, -,hc⟩:=M.rm (b:=s.boxes) h4
   cases h5
   simp only [D7,D6]at hc
   obtain⟨hs,hc⟩:=hc
   obtain⟨W,c5⟩:=of_decide_eq_true hc
   obtain⟨p1,p2,p3⟩:=v8 h3
   obtain⟨q1,q2⟩:=CL h3 hs
   obtain⟨S',loc',c4,c1,hle,G⟩:=h.wo u1 p1 (fun x hx=>.inl (p2 x hx))
   have d5:V S' p J:=p3 S loc S' J hy c1 G
   obtain⟨y1,U,y3⟩:=hy.sized hs
   have b5:id∉u1.map (·.1):=by
    intro hm
    exact Y (by simpa using hm)
   have F:(s.ups u1).boxes id=some (.arr ver e es):=by rw [tB u1 s id b5];exact hb
   obtain⟨sz,xs,g,m,c,f,rfl,b2,how,hf⟩:=c4.Cm F (hx.mono c1 hle)
   have c7:i<es.length:=(List.getElem?_eq_some_iff.1 a5).1
   have how:=how.vP za
   rcases how.2 with⟨he,_⟩|⟨g',cap,cur,fz,he,G,hg,Q,b3,O,I⟩
   ·cases he
   cases he
   obtain⟨c,rfl⟩:∃c',c=c'+1:=⟨c-1,za⟩
   have d6:el.cells.length=sz:=hf.len el (DY a5)
   have hmul:(i+1)*sz<=es.length*sz:=D3 _ c7
   rw [D1,D4]at hmul
   have c3:xs.length=es.length*sz:=how.1
   have c0:es.length*sz<=cur.size:=by
    rw [O];exact D3 _ Q
   have K:J.cells.size=n:=by rw [d5.cells.1,W]
   have E:=u6 (P:=P) (w:=w) hn (G.free O) hg (v:=J) (o:=i*sz+o) K za y3
   refine⟨_,S',upd loc' id (.arr ver e sz (.slice (some ⟨g,0,none⟩) es.length (c+1))),E,?_,rfl⟩
   rw [vz,tL]
   refine c4.sq (Step.setRow w g _) id _ _ (fun b' N=>by cases N;exact⟨_,f,rfl⟩) ?_ (fun b' F=>by cases F;exact .inl ⟨_,f,rfl⟩) (by rw [f];exact .same _)
   ·refine .arr ver e _ sz _ (xs.take (i*sz+o)++J.cells.toList++xs.drop (i*sz+o+n)) b2 ?_ ?_
    ·rw [List.length_set]
     refine .inl ⟨?_,.inr ⟨g,c+1,_,_,rfl,G,setRow_heap w g cur _ e _ hg,Q,b3,?_,?_⟩⟩
     ·simp [K];omega
     ·simp [K];omega
     ·rw [<-I]
      apply DO
      intro k
      have b6:J.cells.toList.length=n:=by simpa using K
      rw [DF,tK _ _ _ _ _ b6 so]
      have e1:(es.length*sz)<=cur.toList.length:=by simpa using c0
      rw [tK _ _ _ _ _ b6 so]
      rw [DF]
      by_cases hk:k<es.length*sz
      ·rw [if_pos hk,if_pos hk]
      ·rw [if_neg hk,if_neg za,if_neg hk]
    ·exact hf.set c3 a5 W q2 c5 (by simpa using K) (fun u hu=>y3 u (by simpa using hu)) (fun j c u hj hu=>d5.cells.2 j c u hj (by simpa using hu))
  |var _=>exact fE s.boxes D
  |dead=>exact fE s.boxes D
  |map _ _ _=>exact fE s.boxes D
  |hole L e es j q e3=>
   by_cases B:ver=L∧i=j∧o=q∧n=1
   rotate_left
   ·simp only [if_neg B]at D;exact fE s.boxes D
   simp only [if_pos B]at D
   obtain⟨rfl,rfl,rfl,rfl⟩:=B
   obtain⟨h5, -,a9⟩:=M.rm (b:=s.boxes) D
   cases h5
   obtain⟨sz,xs,u0,g,m,c,f,rfl,b2,how,hf,hi,ho,hu,hr⟩:=h.Bd hb hx
   have how:=how.vP za
   rcases how.2 with⟨he,_⟩|⟨g',cap,cur,fz,he,G,hg,Q,b3,O,I⟩
   ·cases he
   cases he
   obtain⟨c,rfl⟩:∃c',c=c'+1:=⟨c-1,za⟩
   obtain⟨y1,U⟩:=hy.uZ a9.symm
   have hmul:(i+1)*sz<=es.length*sz:=D3 _ hi
   rw [D1,D4]at hmul
   have c3:xs.length=es.length*sz:=how.1
   have c0:es.length*sz<=cur.size:=by
    rw [O];exact D3 _ Q
   have E:=u6 (P:=P) (w:=w) hn (G.free O) hg (v:=J) (o:=i*sz+o) (by rw [U];rfl) za (fun u hu=>by rw [U]at hu;simp at hu;rw [hu];exact y1)
   refine⟨_,S,upd loc id (.arr ver e sz (.slice (some ⟨g,0,none⟩) es.length (c+1))),E,?_,rfl⟩
   have H:rP (loc id) (.arr ver e sz (.slice (some ⟨g,0,none⟩) es.length (c+1))):=by rw [f];exact .same _
   refine h.sq (Step.setRow w g _) id _ _ (fun b' N=>by cases N;exact⟨_,f,rfl⟩) ?_ (fun b' F=>by cases F;exact .inl ⟨_,f,rfl⟩) H
   have d4:i*sz+o<xs.length:=by omega
   refine .hole ver e es i o y sz _ (xs.set (i*sz+o) J) J b2 ?_ ⟨hf.len,fun u hu=>?_,fun k x j c' h1 D h3=>?_⟩ hi ho (by simp [d4]) (hy.mono (Sub.refl S) (rF.upd H))
   ·refine .inl ⟨by simpa using c3,.inr ⟨g,c+1,_,_,rfl,G,setRow_heap w g cur _ e _ hg,Q,b3,?_,?_⟩⟩
    ·rw [U];simp;omega
    ·rw [<-I]
     apply DO
     intro k
     have b6:J.cells.toList.length=1:=by rw [U];rfl
     rw [DF,tK _ _ _ _ _ b6 so,DT,DF]
     by_cases hk:k<es.length*sz
     ·rw [if_pos hk]
      by_cases b4:i*sz+o=k
      ·subst b4
       rw [if_pos za,if_pos rfl,if_pos so,U]
       simp
      ·rw [if_neg za,if_neg b4,if_pos hk]
     ·rw [if_neg hk]
      rw [if_neg za,if_neg hk]
   ·rcases DZ hu with hu|rfl
    ·exact hf.one u hu
    ·exact y1
   ·obtain⟨u,h4,h5⟩:=hf.cell k x j c' h1 D h3
    refine⟨u,?_,h5⟩
    have hj:j<sz:=by rw [<-hf.len x (DY h1)];exact(List.getElem?_eq_some_iff.1 D).1
    rw [DU ?_]
    ·exact h4
    ·intro heq
     apply h3
     have b4:k=i:=by
      rcases Nat.lt_trichotomy k i with d0|c6|d0
      ·have:=D3 sz (show k+1<=i by omega)
       rw [D1,D4]at this
       omega
      ·exact c6
      ·have:=D3 sz (show i+1<=k by omega)
       rw [D1,D4]at this
       omega
     subst b4
     exact⟨rfl,za⟩
  |nest L e e2 ess hh=>
   by_cases B:ver=L∧o=0∧n=1
   rotate_left
   ·simp only [B,if_false]at D;exact fE s.boxes D
   simp only [if_pos B]at D
   obtain⟨rfl,rfl,rfl⟩:=B
   obtain⟨h5, -,hc⟩:=M.rm (b:=s.boxes) D
   cases h5
   simp only [D7,D6]at hc
   obtain⟨⟨a9,a6⟩,T⟩:=hc
   have a6:=of_decide_eq_true a6
   have T:∀j r,hh=some (j,r)->i=j:=fun j r e=>by subst e;exact of_decide_eq_true T
   obtain⟨xs,bs,k,g,m,c,f,rfl,b2,d8,how,Q,d2,d0⟩:=h.CZ hb hx
   have d3:=how.vP za
   rcases d3.2 with⟨he,_⟩|⟨g',cap,cur,fz,he,G,hg,e0,b3,O,I⟩
   ·cases he
   cases he
   obtain⟨c,rfl⟩:∃c',c=c'+1:=⟨c-1,za⟩
   obtain⟨y1,U⟩:=hy.uZ a9
   have E:=u6 (P:=P) (w:=w) hn (G.free O) hg (v:=J) (o:=i) (by rw [U];rfl) za (fun u hu=>by rw [U]at hu;simp at hu;rw [hu];exact y1)
   obtain⟨r1,r2,r3⟩:=how.set1 (v:=J) a6 hg U
   obtain⟨nc,d1⟩:∃nc,(ncs e2 ess hh)[i]? =some nc:=⟨_,zf (by rw [An];exact a6)⟩
   obtain⟨v0,b0,c2,bs2,h6,h7,h8,h9⟩:=Q.split d1
   have b1:=h9 (.val y) J [] (.val y J hy y1)
   rw [w9 e2 ess hh i y T]at b1
   rw [D0]at b1
   have d7:∀b∈bs,b≠g:=fun b C e=>by
    subst e
    exact(List.nodup_append.1 d2).2.2 b (by simp [sX]) b C rfl
   have H:rP (loc id) (.nest ver e 1 (.slice (some ⟨g,0,none⟩) ess.length (c+1)) (c2++bs2)):=by rw [f];exact .held
   have hle:=rF.upd H
   rw [D2]
   refine⟨_,S,upd loc id (.nest ver e 1 (.slice (some ⟨g,0,none⟩) ess.length (c+1)) (c2++bs2)),E,?_,rfl⟩
   refine h.sq (Step.setRow w g _) id _ _ (fun b' N=>by cases N;exact⟨_,f,by simp [Loc.has,sX]⟩) ?_ (fun b' F=>.inl ⟨_,f,?_⟩) H
   ·refine .nest ver e e2 ess _ _ (xs.set i J) (c2++bs2) b2 ⟨k,d8⟩ r3 (b1.dE (Sub.refl S) hle fun b C=>?_) ?_ (fun j rv e=>by cases e;exact a6)
    ·refine setRow_other w g b _ (d7 b ?_)
     rw [h6]
     rcases List.mem_append.1 C with C|C
     ·exact List.mem_append.2 (.inl C)
     ·exact List.mem_append.2 (.inr (List.mem_append.2 (.inr C)))
    ·refine List.Nodup.sublist ?_ d2
     rw [h6]
     exact List.Sublist.append (List.Sublist.refl _) (List.Sublist.append (List.Sublist.refl _) (List.sublist_append_right _ _))
   ·rcases List.mem_append.1 F with C|C
    ·exact List.mem_append.2 (.inl C)
    ·refine List.mem_append.2 (.inr ?_)
     rw [h6]
     rcases List.mem_append.1 C with C|C
     ·exact List.mem_append.2 (.inl C)
     ·exact List.mem_append.2 (.inr (List.mem_append.2 (.inr C)))
end
end Go.Dw
