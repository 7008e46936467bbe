
import Derived.Test.YtfmoipelhfkdkaaGreatDoorDwMem
set_option linter.unusedVariables false
set_option linter.unusedSimpArgs false
open List renaming append_assoc->DK, ext_getElem?->DW, getElem?_append_left->DX, getElem?_append_right->DY, getElem?_cons_succ->DZ, getElem?_cons_zero->D0, getElem?_set->D1, getElem?_set_ne->D2, getElem?_set_self->D3, getElem?_take->DN, length_cons->D4, length_nil->D5, mem_of_getElem?->D6, mem_or_eq_of_mem_set->D7, nil_append->D8
open Nat renaming add_mul->D9, add_zero->EA, mul_le_mul_right->EB, one_mul->EC, sub_self->ED
open Bool renaming and_eq_true->EE, true_eq->EF

namespace Go.Dw
theorem Bn(v:Value)(h:∀cs,v≠ .agg cs):(um v).cells=[um v]∧v.cells= #[v]:=by
 refine⟨?_,?_⟩
 ·unfold um;split<;>rfl
 ·cases v<;>first|rfl|exact(h _ rfl).elim
theorem uT(S:rP)(loc:ss)(v:Value):v.cells.size=(sn v).cells.length∧∀(i:Nat)c u,(sn v).cells[i]? =some c->v.cells[i]? =some u->R S loc c u:=by
 by_cases h:∃cs,v= .agg cs
 ·obtain⟨cs,rfl⟩:=h
  refine⟨by simp [sn,RV.cells,Value.cells],fun i c u h1 f=>?_⟩
  simp only [sn,RV.cells,List.getElem?_map,Array.getElem?_toList]at h1
  simp only [Value.cells]at f
  simp only [f,Option.map_some,Option.some.injEq]at h1
  subst h1
  exact R.um S loc u
 ·have j:∀cs,v≠ .agg cs:=fun cs e=>h ⟨cs,e⟩
  have he:sn v=um v:=by
   unfold sn
   split
   ·exact(j _ rfl).elim
   ·rfl
  obtain⟨h1,f⟩:=Bn v j
  rw [he,h1,f]
  refine⟨rfl,fun i c u g k=>?_⟩
  cases i with
  |zero=>
   simp at g k
   subst g;subst k
   exact R.um S loc v
  |succ i=>simp at g
section
variable {P:Program}{X:Ctx}{S:rP}{loc:ss}{s:St}{w:World}
theorem V.vv{p:PD}{v:Value}(h:V S p v)(hp:p.one=true):v.oneCell'=true∧v.cells= #[v]:=by
 cases h<;>first|exact⟨rfl,rfl⟩|(simp [PD.one]at hp;done)|skip
 rename_i f
 unfold CX at f
 split at f<;>first|exact⟨rfl,rfl⟩|cases f
theorem cells_one{v:Value}(h:v.oneCell'=true):v.cells= #[v]:=by
 cases v<;>first|rfl|(simp [Value.oneCell']at h)
theorem R.vv{rv:RV}{v:Value}(h:R S loc rv v)(ho:rv.one=true):v.oneCell'=true∧v.cells= #[v]:=by
 cases h with
 |d h=>exact h.vv ho
 |rm=>exact⟨rfl,rfl⟩
 |cptr=>exact⟨rfl,rfl⟩
 |ref id ver _ _ h1=>exact⟨h1,cells_one h1⟩
 |ptr id off _ _ h1=>exact⟨h1,cells_one h1⟩
 |elt a b c d _ _ h1=>exact⟨h1,cells_one h1⟩
 |view a b c d _ _ h1=>exact⟨h1,cells_one h1⟩
 |clo=>exact⟨rfl,rfl⟩
 |fview _ _ _ _ _ h1=>exact⟨h1,cells_one h1⟩
 |err t x=>exact⟨rfl,rfl⟩
 |noerr=>exact⟨rfl,rfl⟩
 |dfull _ _ _=>exact⟨rfl,rfl⟩
 |ifc _ _ _ _=>exact⟨rfl,rfl⟩
 |plit _ _ _ _ _ _ _ _=>exact⟨rfl,rfl⟩
 |pcp _ _ _ _ _ _=>exact⟨rfl,rfl⟩
 |undef=>simp [RV.one]at ho
 |junk=>simp [RV.one]at ho
 |agg=>simp [RV.one]at ho
 |tup=>simp [RV.one]at ho
theorem R.sized{rv:RV}{v:Value}(h:R S loc rv v)(hs:rv.sized=true):
  v.cells.size=rv.cells.length∧(∀(i:Nat)c u,rv.cells[i]? =some c->v.cells[i]? =some u->R S loc c u)∧∀u∈v.cells,u.oneCell'=true:=by
 have key:∀(cs:List RV)(vs:Array Value),v= .agg vs->vs.size=cs.length->rv.cells=cs->(∀(i:Nat)c u,cs[i]? =some c->vs[i]? =some u->R S loc c u)->
   v.cells.size=rv.cells.length∧(∀(i:Nat)c u,rv.cells[i]? =some c->v.cells[i]? =some u->R S loc c u)∧∀u∈v.cells,u.oneCell'=true:=by
  intro cs vs r hl hc q
  subst r
  rw [hc]
  refine⟨hl,q,fun u hu=>?_⟩
  replace hu:u∈vs:=hu
  obtain⟨i,hi,he⟩:=Array.getElem_of_mem hu
  have j:i<cs.length:=by rw [<-hl];exact hi
  have h1:=q i cs[i] u (zf j) (by rw [Array.getElem?_eq_getElem hi,he])
  refine(h1.vv ?_).1
  have:=List.all_eq_true.1 hs cs[i] (by rw [hc];exact List.getElem_mem j)
  exact this
 have single:rv.cells=[rv]->v.cells.size=rv.cells.length∧(∀(i:Nat)c u,rv.cells[i]? =some c->v.cells[i]? =some u->R S loc c u)∧∀u∈v.cells,u.oneCell'=true:=by
  intro hc
  have ho:rv.one=true:=List.all_eq_true.1 hs rv (by rw [hc];simp)
  obtain⟨h1,g⟩:=h.vv ho
  rw [hc,g]
  refine⟨rfl,fun i c u f k=>?_,fun u hu=>?_⟩
  ·cases i with
   |zero=>simp at f k;subst f;subst k;exact h
   |succ i=>simp at f
  ·simp at hu;rw [hu];exact h1
 rcases rv with p|_|_|_|cs|_|_|_|_|_|_|_|_
 case d=>
  cases p with
  |agg cs=>
   obtain⟨vs,h1,g,f⟩:=h.Ag
   exact key (cs.map .d) vs h1 (by simpa using g) rfl f
  |_=>exact single rfl
 case agg=>
  obtain⟨vs,h1,g,f⟩:=h.xB
  exact key cs vs h1 g rfl f
 all_goals exact single rfl
theorem yE(l:List RV):∀(cs:List RV)(off i:Nat),off+l.length<=cs.length->
  (setCells cs off l)[i]? =if off<=i∧i<off+l.length then l[i-off]? else cs[i]? :=by
 induction l with
 |nil=>intro cs off i _;simp only [setCells,D5];rw [if_neg za]
 |cons v r g=>
  intro cs off i hle
  simp only [D4]at hle⊢
  rw [setCells,g _ _ _ so]
  by_cases h1:off+1<=i∧i<off+1+r.length
  ·rw [if_pos h1,if_pos za]
   obtain⟨k,rfl⟩:∃k,i=off+1+k:=⟨i-(off+1),za⟩
   rw [show off+1+k-(off+1)=k by omega,show off+1+k-off=k+1 by omega,DZ]
  ·rw [if_neg h1]
   by_cases f:i=off
   ·subst f
    rw [if_pos za,D3 za,ED,D0]
   ·rw [if_neg za,D2 za]
theorem vg(l:List RV):∀(cs:List RV)(off:Nat),(setCells cs off l).length=cs.length:=by
 induction l with
 |nil=>intro cs off;rfl
 |cons v r f=>intro cs off;rw [setCells,f];simp
theorem A0(l:List PD):∀(cs:List PD)(off i:Nat),off+l.length<=cs.length->
  (uR cs off l)[i]? =if off<=i∧i<off+l.length then l[i-off]? else cs[i]? :=by
 induction l with
 |nil=>intro cs off i _;simp only [uR,D5];rw [if_neg za]
 |cons v r g=>
  intro cs off i hle
  simp only [D4]at hle⊢
  rw [uR,g _ _ _ so]
  by_cases h1:off+1<=i∧i<off+1+r.length
  ·rw [if_pos h1,if_pos za]
   obtain⟨k,rfl⟩:∃k,i=off+1+k:=⟨i-(off+1),za⟩
   rw [show off+1+k-(off+1)=k by omega,show off+1+k-off=k+1 by omega,DZ]
  ·rw [if_neg h1]
   by_cases f:i=off
   ·subst f
    rw [if_pos za,D3 za,ED,D0]
   ·rw [if_neg za,D2 za]
theorem zi(l:List PD):∀(cs:List PD)(off:Nat),(uR cs off l).length=cs.length:=by
 induction l with
 |nil=>intro cs off;rfl
 |cons v r f=>intro cs off;rw [uR,f];simp
def wc(P:Program)(X:Ctx)(s':St)(o:Oper)(a:Act)(w:World):Prop:=
 ∀(K:Act->World->Prop)(Q:Exit->Act->World->Prop),(∀f w',vW P X s' f w'->K f w')->o.wp P a w K Q
theorem wc.value{s':St}{o:Oper}{a:Act}{w w':World}{v':Value}{v:RV}{S:rP}{loc:ss}(k:a.defers=[])(f:∀d,o.dst=some d->d<X.nt)
  (g:(execOp a.eval o).run P w= .ok (.value v') w') (hS:Sim P X S loc s' a.tmps w') (q:R S loc v v'):wc P X (s'.put o.dst v) o a w:=by
 intro K Q j
 unfold Oper.wp
 rw [g]
 exact j _ _ ⟨by cases o.dst<;>exact k,S,loc,hS.put (a:=a) q o.dst f⟩
theorem wc.skip{s':St}{o:Oper}{a:Act}{w w':World}{S:rP}{loc:ss}(k:a.defers=[])(f:∀d,o.dst=some d->d<X.nt)
  (g:(execOp a.eval o).run P w= .ok .skip w') (hS:Sim P X S loc s' a.tmps w'):wc P X (s'.put o.dst .undef) o a w:=by
 intro K Q j
 unfold Oper.wp
 rw [g]
 exact j _ _ ⟨by cases o.dst<;>exact k,S,loc,hS.put (a:=a) .undef o.dst f⟩
variable {tm:Array Value}
theorem Sim.si(h:Sim P X S loc s tm w){id:Nat}(g:s.boxes id=none):loc id=none:=by
 cases hl:loc id with
 |none=>rfl
 |some L=>
  obtain⟨j,f⟩:=h.dom id L hl
  rw [g]at f
  cases f
theorem Sim.newVar(h:Sim P X S loc s tm w){id:Nat}(j:s.boxes id=none)(cs:List RV)(vs:Array Value)(t:TypeId)(hl:vs.size=cs.length)
  (q:∀(i:Nat)c u,cs[i]? =some c->vs[i]? =some u->R S loc c u):
  ∃loc',Sim P X S loc' { s with boxes:=upd s.boxes id (.var cs) } tm (w.alloc (.cells vs t))∧R S loc' (.ptr id 0) (.pointer (some ⟨w.heap.size,0,none⟩))∧rT loc loc':=by
 have g:=h.si j
 have f:sb (loc id) (.var w.heap.size):=by rw [g];trivial
 refine⟨upd loc id (.var w.heap.size),?_,?_,rT.upd f⟩
 ·refine h.sW (Step.alloc w _) id _ _ (fun b hc=>by cases hc) ?_ ?_ f
  ·exact .var cs w.heap.size t vs (heap_alloc_new w _) hl (fun i c v h1 k=>(q i c v h1 k).mono (Sub.refl S) (rT.upd f))
  ·intro b j;cases j;exact .inr (.inl (Nat.le_refl _))
 ·exact .ptr id 0 _ (.var w.heap.size) rfl (rK _ _ _) (fun b=>⟨fun he=>by cases he;rfl,(fun he=>by cases he)⟩)
theorem tJ{t:TypeId}{z:Value}(h:sr P t=some z):∃i,P.info? t=some i∧i.zero=some z:=by
 unfold sr at h
 cases hi:P.info? t with
 |none=>simp [hi]at h
 |some i=>simp only [hi,ze]at h;exact⟨i,rfl,h⟩
theorem Bi(h:Sim P X S loc s tm w){id:Nat}{t:TypeId}{v:RV}{u:Ups}{r:List Nat}(hl:xU P id t s.boxes=some ((v,u),r,true)):
  ∃v' w' loc',(Instr.alloc t true (.tuple #[])).run P w= .ok v' w'∧Sim P X S loc' (s.ups u) tm w'∧R S loc' v v':=by
 unfold xU at hl
 rcases g:sr P t with _|z
 ·simp only [g]at hl;exact fE s.boxes hl
 simp only [g]at hl
 obtain⟨_,G,H,h1,j,_⟩:=M.bind_some hl
 obtain⟨F,_,_⟩:=M.sZ h1
 obtain⟨k, -, -⟩:=M.pZ j
 cases k
 obtain⟨i,hi,f⟩:=tJ g
 obtain⟨q,C⟩:=uT S loc z
 obtain⟨loc',D,E,_⟩:=h.newVar F _ z.cells t q C
 refine⟨_,_,loc',?_,D,E⟩
 simp [Instr.alloc,zeroValue,typeInfo,hi,f,newVar,newRow]
theorem Cy(h:Sim P X S loc s tm w){id:Nat}{t:TypeId}{x v:RV}{u:Ups}{r:List Nat}{f:Value}(hl:boxD id x s.boxes=some ((v,u),r,true))(F:R S loc x f):
  ∃v' w' loc',(Instr.box t f).run P w= .ok v' w'∧Sim P X S loc' (s.ups u) tm w'∧R S loc' v v':=by
 obtain⟨_,G,H,h1,j,_⟩:=M.bind_some hl
 obtain⟨E,_,_⟩:=M.sZ h1
 obtain⟨k, -,hs⟩:=M.rE j
 cases k
 obtain⟨q,C,g⟩:=F.sized hs.symm
 obtain⟨loc',g,D,_⟩:=h.newVar E _ f.cells t q C
 refine⟨_,_,loc',?_,g,D⟩
 simp [Instr.box,newVar,newRow]
theorem uK(P:Program)(g o:Nat)(t:TypeId)(fz:Nat×Nat)(m:Nat)(k:∀j,j<m->¬(fz.1<=j∧j<fz.2)):∀(vs:List Value)(i:Nat)(cur:Array Value)(w:World),cur.size=m->w.heap[g]? =some (.cells cur t fz)->o+i+vs.length<=cur.size->(∀v∈vs,v.oneCell'=true)->
  (storeCells ⟨g,o,none⟩ vs i).run P w= .ok () (w.setRow g (cur.toList.take (o+i)++vs++cur.toList.drop (o+i+vs.length)).toArray)
 | [],i,cur,w,_,f,_,_=>by
  rw [List.append_nil,D5,EA,List.take_append_drop,Array.toArray_toList,setRow_self w g cur t fz f]
  rfl
 |v::r,i,cur,w,hm,f,hl,h1=>by
  rw [D4]at hl
  have q:o+i<cur.size:=by omega
  have D:(⟨g,o,none⟩:Addr).add i=⟨g,o+i,none⟩:=by unfold Addr.add;split<;>simp_all
  have E:w.frozen? ⟨g,o+i,none⟩=false:=by
   simp only [World.frozen?,f]
   have:=k (o+i) za
   simpa using this
  have F:(store ((⟨g,o,none⟩:Addr).add i) v).run P w= .ok () (w.setRow g (cur.setIfInBounds (o+i) v)):=by
   rw [D,run_store P w _ v _ (h1 v zc),show w.cell? ⟨g,o+i,none⟩=some cur[o+i]by simp [World.cell?,f,q]]
   simp [E,setCell_eq_setRow w g (o+i) cur t fz v f]
  have C:=uK P g o t fz m k r (i+1) (cur.setIfInBounds (o+i) v) (w.setRow g (cur.setIfInBounds (o+i) v)) (by simpa using hm) (setRow_heap w g cur _ t fz f) so fun u hu=>h1 u (by simp [hu])
  have G:((cur.setIfInBounds (o+i) v).toList.take (o+(i+1))++r++(cur.setIfInBounds (o+i) v).toList.drop (o+(i+1)+r.length))=cur.toList.take (o+i)++(v::r)++cur.toList.drop (o+i+(v::r).length):=by
   have H:cur.toList.length=cur.size:=by simp
   rw [Array.toList_setIfInBounds,D4,show o+(i+1)=o+i+1 by omega,List.take_succ_eq_append_getElem so,List.getElem_set_self,List.take_set_of_le za,List.drop_set_of_lt za]
   simp only [DK,List.cons_append,D8]
   rw [show o+i+1+r.length=o+i+(r.length+1)by omega]
  rw [G]at C
  simp only [storeCells,Sem.run_bind,F,Result.andThen_ok]
  rw [C,setRow_setRow]
theorem FzOk.free{fz:Nat×Nat}{cap sz m:Nat}(h:FzOk fz cap sz)(hm:m=cap*sz):∀j,j<m->¬(fz.1<=j∧j<fz.2):=by
 intro j g
 rcases h with rfl|⟨h1,f⟩
 ·simp
 ·subst f
  omega
theorem vA{t:TypeId}{n:Nat}(r:szT P t=some n){g o:Nat}{cur:Array Value}{ty:TypeId}{fz:Nat×Nat}(f:∀j,j<cur.size->¬(fz.1<=j∧j<fz.2))(q:w.heap[g]? =some (.cells cur ty fz)){v:Value}(k:v.cells.size=n)(hle:o+n<=cur.size)
  (h1:∀u∈v.cells,u.oneCell'=true):
  (storeVar t ⟨g,o,none⟩ v).run P w= .ok () (w.setRow g (cur.toList.take o++v.cells.toList++cur.toList.drop (o+n)).toArray):=by
 have:=uK P g o ty fz cur.size f v.cells.toList 0 cur w rfl q so (fun u hu=>h1 u (by simpa using hu))
 simp only [storeVar,Sem.run_bind,rQ r,Result.andThen_ok,k,ne_eq,not_true_eq_false,if_false]
 simp only [EA,Array.length_toList,k]at this
 simpa using this
theorem tV(cur vs:List Value)(o n i:Nat)(f:vs.length=n)(hle:o+n<=cur.length):(cur.take o++vs++cur.drop (o+n))[i]? =if o<=i∧i<o+n then vs[i-o]? else cur[i]? :=by
 subst f
 by_cases h1:i<o
 ·rw [if_neg za,DK,DX so,DN,if_pos h1]
 ·by_cases g:i<o+vs.length
  ·rw [if_pos za,DK,DY so,List.length_take,Nat.min_eq_left za,DX za]
  ·rw [if_neg za,DY so,List.getElem?_drop]
   congr 1
   simp
   omega
end
end Go.Dw
namespace Go.Dw
section
variable {P:Program}{X:Ctx}{S:rP}{loc:ss}{s:St}{tm:Array Value}{w:World}
theorem PD.Bb(e:PD)(o:Nat)(vs:List PD)(h:o+vs.length<=e.cells.length)(q:∀p∈vs,p.one=true):
  (e.put o vs).cells.length=e.cells.length∧∀j,(e.put o vs).cells[j]? =if o<=j∧j<o+vs.length then vs[j-o]? else e.cells[j]? :=by
 have single:∀(e:PD),e.cells=[e]->(e.put o vs)=vs.headD e->o+vs.length<=1->
   (e.put o vs).cells.length=e.cells.length∧∀j,(e.put o vs).cells[j]? =if o<=j∧j<o+vs.length then vs[j-o]? else e.cells[j]? :=by
  intro e he hp hle
  rw [hp,he]
  cases vs with
  |nil=>simp only [List.headD_nil,he,D5];exact⟨trivial,fun j=>by rw [if_neg za]⟩
  |cons v r=>
   have g:r=[]:=List.eq_nil_of_length_eq_zero (by simp at hle;omega)
   subst g
   have ho:o=0:=by simp at hle;omega
   subst ho
   have f:=q v zc
   have hc:v.cells=[v]:=by cases v<;>first|rfl|(simp [PD.one]at f)
   simp only [List.headD_cons,hc,List.length_singleton]
   refine⟨trivial,fun j=>?_⟩
   cases j with
   |zero=>simp
   |succ j=>rw [if_neg za];simp
 cases e with
 |agg cs=>exact⟨by simp [PD.put,PD.cells,zi],fun j=>by simp only [PD.put,PD.cells];exact A0 vs cs o j h⟩
 |bool b=>exact single _ rfl rfl h
 |int k n=>exact single _ rfl rfl h
 |str l=>exact single _ rfl rfl h
 |lst l=>exact single _ rfl rfl h
 |raw v=>exact single _ rfl rfl h
theorem V.cells{p:PD}{v:Value}(h:V S p v):v.cells.size=p.cells.length∧(∀(i:Nat)c u,p.cells[i]? =some c->v.cells[i]? =some u->V S c u):=by
 cases h with
 |agg cs vs hl h=>exact⟨hl,h⟩
 |bool b=>exact⟨rfl,fun i c u h1 g=>by cases i<;>simp [PD.cells,Value.cells]at h1 g;subst h1;subst g;exact .bool b⟩
 |int k n=>exact⟨rfl,fun i c u h1 g=>by cases i<;>simp [PD.cells,Value.cells]at h1 g;subst h1;subst g;exact .int k n⟩
 |str l=>exact⟨rfl,fun i c u h1 g=>by cases i<;>simp [PD.cells,Value.cells]at h1 g;subst h1;subst g;exact .str l⟩
 |nil a j=>exact⟨rfl,fun i c u h1 g=>by cases i<;>simp [PD.cells,Value.cells]at h1 g;subst h1;subst g;exact .nil a j⟩
 |lst es b o j sz f hc q hS hV=>exact⟨rfl,fun i c u h1 g=>by cases i<;>simp [PD.cells,Value.cells]at h1 g;subst h1;subst g;exact .lst es b o j sz f hc q hS hV⟩
 |raw _ hp=>
  have hc:=cells_one (v:=v) (by unfold CX at hp;split at hp<;>first|rfl|cases hp)
  rw [hc]
  exact⟨rfl,fun i c u h1 g=>by cases i<;>simp [PD.cells]at h1 g;subst h1;subst g;exact .raw _ hp⟩
theorem Flat.set{sz:Nat}{es:List PD}{xs:List Value}(h:Flat S sz es xs)(O:xs.length=es.length*sz){i o n:Nat}{e p:PD}(he:es[i]? =some e)(hp:p.cells.length=n)(ho:∀c∈p.cells,c.one=true)
  (hle:o+n<=e.cells.length) {vs:List Value} (J:vs.length=n) (I:∀u∈vs,u.oneCell'=true) (N:∀(j:Nat)c u,p.cells[j]? =some c->vs[j]? =some u->V S c u):
  Flat S sz (es.set i (e.put o p.cells)) (xs.take (i*sz+o)++vs++xs.drop (i*sz+o+n)):=by
 have hi:i<es.length:=(List.getElem?_eq_some_iff.1 he).1
 have C:e.cells.length=sz:=h.len e (D6 he)
 obtain⟨G,r⟩:=PD.Bb e o p.cells za ho
 have hmul:(i+1)*sz<=es.length*sz:=EB _ hi
 rw [D9,EC]at hmul
 have hlen:i*sz+o+n<=xs.length:=by omega
 refine⟨?_,?_,?_⟩
 ·intro x K
  rcases D7 K with K|rfl
  ·exact h.len x K
  ·rw [G,C]
 ·intro u hu
  rcases List.mem_append.1 hu with hu|hu
  ·rcases List.mem_append.1 hu with hu|hu
   ·exact h.one u (List.mem_of_mem_take hu)
   ·exact I u hu
  ·exact h.one u (List.mem_of_mem_drop hu)
 ·intro F L j x f g
  rw [tV xs vs (i*sz+o) n _ J hlen]
  rw [D1]at f
  by_cases q:i=F
  ·subst q
   simp only [if_true,hi,Option.some.injEq]at f
   subst f
   rw [r]at g
   have D:j<sz:=by
    have:j<(e.put o p.cells).cells.length:=by
     rw [<-r]at g
     exact(List.getElem?_eq_some_iff.1 g).1
    omega
   by_cases E:o<=j∧j<o+p.cells.length
   ·rw [if_pos E]at g
    rw [if_pos za]
    have:i*sz+j-(i*sz+o)=j-o:=by omega
    rw [this]
    have k:j-o<vs.length:=by omega
    exact⟨vs[j-o],zf k,N (j-o) x _ g (zf k)⟩
   ·rw [if_neg E]at g
    rw [if_neg za]
    exact h.cell i e j x he g
  ·rw [if_neg q]at f
   have D:j<sz:=by
    have:=h.len L (D6 f)
    have:=(List.getElem?_eq_some_iff.1 g).1
    omega
   rw [if_neg]
   ·exact h.cell F L j x f g
   ·rcases Nat.lt_or_gt_of_ne q with k|H
    ·have h1:(i+1)*sz<=F*sz:=EB _ k
     rw [D9,EC]at h1
     omega
    ·have h1:(F+1)*sz<=i*sz:=EB _ H
     rw [D9,EC]at h1
     omega
theorem tP:∀(u:Ups)(s:St)(id:Nat),id∉u.map (·.1)->(s.ups u).boxes id=s.boxes id
 | [],_,_,_=>rfl
 |(i,b)::r,s,id,h=>by
  rw [tW,tP r _ id (fun hm=>h (by simp only [List.map_cons,List.mem_cons];exact .inr hm))]
  exact sy _ _ (fun e=>h (by simp [e]))
theorem C4{rv:RV}{b:sj}{p:PD}{u:Ups}{r:List Nat}(h:uL rv b=some ((p,u),r,true))(hs:rv.sized=true):p.cells.length=rv.cells.length∧∀c∈p.cells,c.one=true:=by
 have F:∀{cs:List RV}{ps:List PD}{u:Ups}{r:List Nat},vU cs b=some ((ps,u),r,true)->(∀c∈cs,c.one=true)->ps.length=cs.length∧∀c∈ps,c.one=true:=by
  intro cs
  induction cs with
  |nil=>
   intro ps u r h _
   obtain⟨h1, -, -⟩:=M.pZ (b:=b) h
   cases h1
   exact⟨rfl,fun c hc=>by cases hc⟩
  |cons c cs O=>
   intro ps u r h ho
   obtain⟨⟨p,u1⟩,K,L,h1,g,_⟩:=M.bind_some h
   obtain⟨⟨Q,u2⟩,T,U,D,N,_⟩:=M.bind_some g
   obtain⟨G, -, -⟩:=M.pZ N
   cases G
   obtain⟨i1,i2⟩:=O D (fun c hc=>ho c (by simp [hc]))
   refine⟨by simp [i1],fun x J=>?_⟩
   rcases List.mem_cons.1 J with rfl|J
   ·have I:=ho c zc
    cases c with
    |d q=>obtain⟨G, -, -⟩:=M.pZ (b:=b) h1;cases G;exact I
    |rm=>obtain⟨G, -, -⟩:=M.pZ (b:=b) h1;cases G;rfl
    |ref id ver=>
     obtain⟨H,K,L,h1,g,_⟩:=M.bind_some h1
     cases H with
     |arr C e es=>
      by_cases j:ver=C
      rotate_left
      ·simp only [j,if_false]at g;exact fE b g
      simp only [j,if_true]at g
      obtain⟨D, -, -⟩:=M.pZ (b:=b) g
      cases D
      rfl
     |var _=>exact fE b g
     |dead=>exact fE b g
     |map _ _ _=>exact fE b g
     |nest _ _ _ _ _=>exact fE b g
     |hole _ _ _ _ _ _=>exact fE b g
    |undef=>exact fE b h1
    |junk=>exact fE b h1
    |agg cs=>exact fE b h1
    |tup cs=>exact fE b h1
    |ptr a c=>exact fE b h1
    |elt a c d f=>exact fE b h1
    |cptr a=>exact fE b h1
    |view id ver lo hi=>
     obtain⟨H,K,L,h1,g,_⟩:=M.bind_some h1
     cases H with
     |arr C e es=>
      by_cases j:ver=C
      rotate_left
      ·simp only [j,if_false]at g;exact fE b g
      simp only [j,if_true]at g
      obtain⟨D, -, -⟩:=M.rE (b:=b) g
      cases D
      rfl
     |var _=>exact fE b g
     |dead=>exact fE b g
     |map _ _ _=>exact fE b g
     |nest _ _ _ _ _=>exact fE b g
     |hole _ _ _ _ _ _=>exact fE b g
    |clo a c=>exact fE b h1
    |fview _ _ _=>exact fE b h1
    |err _=>exact fE b h1
    |dfull _=>exact fE b h1
    |ifc _ _=>exact fE b h1
    |plit _=>exact fE b h1
    |pcp _=>exact fE b h1
   ·exact i2 x J
 have k:∀c∈rv.cells,c.one=true:=fun c hc=>List.all_eq_true.1 hs c hc
 have single:rv.cells=[rv]->yH rv b=some ((p,u),r,true)->p.cells.length=rv.cells.length∧∀c∈p.cells,c.one=true:=by
  intro hc h1
  have g:vU [rv] b=some (([p],u++[]),r++([]++[]),true):=by
   simp only [vU,M.bind,h1,M.pure,Bool.and_true]
  obtain⟨_,i2⟩:=F g (fun c E=>k c (by rw [hc];exact E))
  have hp:p.one=true:=i2 p zc
  have:p.cells=[p]:=by cases p<;>first|rfl|(simp [PD.one]at hp)
  rw [this,hc]
  exact⟨rfl,fun c E=>by simp at E;rw [E];exact hp⟩
 cases rv with
 |agg cs=>
  unfold uL at h
  obtain⟨⟨ps,u1⟩,K,L,h1,g,_⟩:=M.bind_some h
  obtain⟨D, -, -⟩:=M.pZ (b:=b) g
  cases D
  obtain⟨i1,i2⟩:=F h1 k
  exact⟨i1,i2⟩
 |d q=>
  obtain⟨D, -, -⟩:=M.pZ (b:=b) h
  cases D
  cases p with
  |agg cs=>
   refine⟨by simp [PD.cells,RV.cells],fun c hc=>?_⟩
   exact k (.d c) (by simp only [RV.cells];exact List.mem_map.2 ⟨c,hc,rfl⟩)
  |_=>exact single rfl h
 |rm=>exact single rfl h
 |ref id ver=>exact single rfl h
 |undef=>exact single rfl h
 |junk=>exact single rfl h
 |tup cs=>exact single rfl h
 |ptr a c=>exact single rfl h
 |elt a c d f=>exact single rfl h
 |cptr a=>exact single rfl h
 |view a c d f=>exact single rfl h
 |clo a c=>exact single rfl h
 |fview _ _ _=>exact single rfl h
 |err _=>exact single rfl h
 |dfull _=>exact single rfl h
 |ifc _ _=>exact single rfl h
 |plit _=>exact single rfl h
 |pcp _=>exact single rfl h
theorem rowAt.set1{w:World}{e:TypeId}{n g c i:Nat}{xs:List Value}{cur:Array Value}{ty:TypeId}{fz:Nat×Nat}{v:Value}(how:rowAt w e 1 (.slice (some ⟨g,0,none⟩) n (c+1)) n xs)(hi:i<n)
  (H:w.heap[g]? =some (.cells cur ty fz)) (D:v.cells= #[v]):i<cur.size∧ty=e∧rowAt (w.setRow g (cur.toList.take i++v.cells.toList++cur.toList.drop (i+1)).toArray) e 1 (.slice (some ⟨g,0,none⟩) n (c+1)) n (xs.set i v):=by
 have how:=how.v8 za
 rcases how.2 with⟨he,_⟩|⟨K,cap,G,I,he,u,j,C,r,J,f⟩
 ·cases he
 cases he
 rw [H]at j
 cases j
 have F:xs.length=n*1:=how.1
 refine⟨za,rfl,.inl ⟨by simpa using F,.inr ⟨g,c+1,_,_,rfl,u,setRow_heap w g cur _ e _ H,C,r,?_,?_⟩⟩⟩
 ·simp [D];omega
 ·rw [<-f]
  apply DW
  intro k
  have E:v.cells.toList.length=1:=by rw [D];rfl
  rw [DN,tV _ _ _ _ _ E so,D1,DN]
  by_cases hk:k<n*1
  ·rw [if_pos hk]
   by_cases q:i=k
   ·subst q
    rw [if_pos za,if_pos rfl,if_pos so,D]
    simp
   ·rw [if_neg za,if_neg q,if_pos hk]
  ·rw [if_neg hk]
   rw [if_neg za,if_neg hk]
theorem BF(h:Sim P X S loc s tm w){t:TypeId}{x y v:RV}{u:Ups}{r:List Nat}{vx K:Value}(hl:vL P t x y s.boxes=some ((v,u),r,true))(hx:R S loc x vx)(hy:R S loc y K):
  ∃w' S' loc',(Instr.storeAt t vx K).run P w= .ok () w'∧Sim P X S' loc' (s.ups u) tm w'∧v= .undef:=by
 unfold vL at hl
 rcases hn:szT P t with _|n
 ·simp only [hn]at hl;exact fE s.boxes hl
 simp only [hn]at hl
 rcases x with _|_|_|_|_|_|_|⟨id,off⟩|⟨id,ver,i,o⟩|_|_|_|_<;>first|exact fE s.boxes hl|skip
 ·obtain⟨bx,r1,r2,h1,E,_⟩:=M.bind_some hl
  obtain⟨hb,_,_⟩:=M.get_some h1
  cases bx with
  |var cs=>
   obtain⟨h3, -,hc⟩:=M.rE E
   cases h3
   simp only [EF,EE]at hc
   obtain⟨hs,hc⟩:=hc
   obtain⟨Y,c6⟩:=of_decide_eq_true hc
   obtain⟨b,ty,vs,f,rfl,hw,hlen,hv⟩:=h.BJ hb hx
   obtain⟨y1,W,y3⟩:=hy.sized hs
   have F:=vA (P:=P) (w:=w) hn zc hw (v:=K) (o:=off) (by rw [y1];exact Y) za y3
   refine⟨_,S,upd loc id (.var b),F,?_,rfl⟩
   have I:sb (loc id) (.var b):=by rw [f];exact .same _
   refine h.sW (Step.setRow w b _) id _ _ (fun b' O=>by cases O;exact⟨_,f,rfl⟩) ?_ (fun b' G=>by cases G;exact .inl ⟨_,f,rfl⟩) I
   ·refine .var _ b ty _ (setRow_heap w b vs _ ty _ hw) ?_ ?_
    ·simp [vg];omega
    ·intro j c u hj hu
     rw [yE _ _ _ _ za]at hj
     rw [List.getElem?_toArray,tV _ _ _ _ _ (by simpa using(by rw [y1];exact Y)) so]at hu
     by_cases d0:off<=j∧j<off+y.cells.length
     ·rw [if_pos d0]at hj
      rw [if_pos za]at hu
      exact(W _ c u hj (by simpa using hu)).mono (Sub.refl S) (rT.upd I)
     ·rw [if_neg d0]at hj
      rw [if_neg za]at hu
      exact(hv _ c u hj (by simpa using hu)).mono (Sub.refl S) (rT.upd I)
  |arr _ _ _=>exact fE s.boxes E
  |dead=>exact fE s.boxes E
  |map _ _ _=>exact fE s.boxes E
  |nest _ _ _ _ _=>exact fE s.boxes E
  |hole _ _ _ _ _ _=>exact fE s.boxes E
 ·obtain⟨bx,r1,r2,h1,E,_⟩:=M.bind_some hl
  obtain⟨hb,_,_⟩:=M.get_some h1
  cases bx with
  |arr N e es=>
   by_cases C:ver=N
   rotate_left
   ·simp only [C,if_false]at E;exact fE s.boxes E
   simp only [C,if_true]at E
   subst C
   obtain⟨⟨p,u1⟩,r3,r4,h3,h4,_⟩:=M.bind_some E
   rcases a6:es[i]? with _|el
   ·simp only [a6]at h4;exact fE s.boxes h4
   simp only [a6]at h4
   by_cases a5:(u1.map (·.1)).contains id=true
   ·simp only [a5,if_true]at h4;exact fE s.boxes h4
   simp only [a5]at h4
   obtain⟨h5, -,hc⟩:=M.rE (b:=s.boxes) h4
   cases h5
   simp only [EF,EE]at hc
   obtain⟨hs,hc⟩:=hc
   obtain⟨Y,c6⟩:=of_decide_eq_true hc
   obtain⟨p1,p2,p3⟩:=wx h3
   obtain⟨q1,q2⟩:=C4 h3 hs
   obtain⟨S',loc',c5,c2,hle,H⟩:=h.wF u1 p1 (fun x hx=>.inl (p2 x hx))
   have d6:V S' p K:=p3 S loc S' K hy c2 H
   obtain⟨y1,W,y3⟩:=hy.sized hs
   have b6:id∉u1.map (·.1):=by
    intro hm
    exact a5 (by simpa using hm)
   have G:(s.ups u1).boxes id=some (.arr ver e es):=by rw [tP u1 s id b6];exact hb
   obtain⟨sz,xs,g,m,c,f,rfl,b3,how,hf⟩:=c5.CH G (hx.mono c2 hle)
   have c8:i<es.length:=(List.getElem?_eq_some_iff.1 a6).1
   have how:=how.v8 za
   rcases how.2 with⟨he,_⟩|⟨g',cap,cur,fz,he,H,hg,T,b4,Q,J⟩
   ·cases he
   cases he
   obtain⟨c,rfl⟩:∃c',c=c'+1:=⟨c-1,za⟩
   have d7:el.cells.length=sz:=hf.len el (D6 a6)
   have hmul:(i+1)*sz<=es.length*sz:=EB _ c8
   rw [D9,EC]at hmul
   have c4:xs.length=es.length*sz:=how.1
   have c1:es.length*sz<=cur.size:=by
    rw [Q];exact EB _ T
   have L:K.cells.size=n:=by rw [d6.cells.1,Y]
   have F:=vA (P:=P) (w:=w) hn (H.free Q) hg (v:=K) (o:=i*sz+o) L za y3
   refine⟨_,S',upd loc' id (.arr ver e sz (.slice (some ⟨g,0,none⟩) es.length (c+1))),F,?_,rfl⟩
   rw [vM,tW]
   refine c5.sW (Step.setRow w g _) id _ _ (fun b' O=>by cases O;exact⟨_,f,rfl⟩) ?_ (fun b' G=>by cases G;exact .inl ⟨_,f,rfl⟩) (by rw [f];exact .same _)
   ·refine .arr ver e _ sz _ (xs.take (i*sz+o)++K.cells.toList++xs.drop (i*sz+o+n)) b3 ?_ ?_
    ·rw [List.length_set]
     refine .inl ⟨?_,.inr ⟨g,c+1,_,_,rfl,H,setRow_heap w g cur _ e _ hg,T,b4,?_,?_⟩⟩
     ·simp [L];omega
     ·simp [L];omega
     ·rw [<-J]
      apply DW
      intro k
      have c0:K.cells.toList.length=n:=by simpa using L
      rw [DN,tV _ _ _ _ _ c0 so]
      have e1:(es.length*sz)<=cur.toList.length:=by simpa using c1
      rw [tV _ _ _ _ _ c0 so]
      rw [DN]
      by_cases hk:k<es.length*sz
      ·rw [if_pos hk,if_pos hk]
      ·rw [if_neg hk,if_neg za,if_neg hk]
    ·exact hf.set c4 a6 Y q2 c6 (by simpa using L) (fun u hu=>y3 u (by simpa using hu)) (fun j c u hj hu=>d6.cells.2 j c u hj (by simpa using hu))
  |var _=>exact fE s.boxes E
  |dead=>exact fE s.boxes E
  |map _ _ _=>exact fE s.boxes E
  |hole N e es j q e4=>
   by_cases C:ver=N∧i=j∧o=q∧n=1
   rotate_left
   ·simp only [if_neg C]at E;exact fE s.boxes E
   simp only [if_pos C]at E
   obtain⟨rfl,rfl,rfl,rfl⟩:=C
   obtain⟨h5, -,b1⟩:=M.rE (b:=s.boxes) E
   cases h5
   obtain⟨sz,xs,u0,g,m,c,f,rfl,b3,how,hf,hi,ho,hu,hr⟩:=h.Bs hb hx
   have how:=how.v8 za
   rcases how.2 with⟨he,_⟩|⟨g',cap,cur,fz,he,H,hg,T,b4,Q,J⟩
   ·cases he
   cases he
   obtain⟨c,rfl⟩:∃c',c=c'+1:=⟨c-1,za⟩
   obtain⟨y1,W⟩:=hy.vv b1.symm
   have hmul:(i+1)*sz<=es.length*sz:=EB _ hi
   rw [D9,EC]at hmul
   have c4:xs.length=es.length*sz:=how.1
   have c1:es.length*sz<=cur.size:=by
    rw [Q];exact EB _ T
   have F:=vA (P:=P) (w:=w) hn (H.free Q) hg (v:=K) (o:=i*sz+o) (by rw [W];rfl) za (fun u hu=>by rw [W]at hu;simp at hu;rw [hu];exact y1)
   refine⟨_,S,upd loc id (.arr ver e sz (.slice (some ⟨g,0,none⟩) es.length (c+1))),F,?_,rfl⟩
   have I:sb (loc id) (.arr ver e sz (.slice (some ⟨g,0,none⟩) es.length (c+1))):=by rw [f];exact .same _
   refine h.sW (Step.setRow w g _) id _ _ (fun b' O=>by cases O;exact⟨_,f,rfl⟩) ?_ (fun b' G=>by cases G;exact .inl ⟨_,f,rfl⟩) I
   have d5:i*sz+o<xs.length:=by omega
   refine .hole ver e es i o y sz _ (xs.set (i*sz+o) K) K b3 ?_ ⟨hf.len,fun u hu=>?_,fun k x j c' h1 E h3=>?_⟩ hi ho (by simp [d5]) (hy.mono (Sub.refl S) (rT.upd I))
   ·refine .inl ⟨by simpa using c4,.inr ⟨g,c+1,_,_,rfl,H,setRow_heap w g cur _ e _ hg,T,b4,?_,?_⟩⟩
    ·rw [W];simp;omega
    ·rw [<-J]
     apply DW
     intro k
     have c0:K.cells.toList.length=1:=by rw [W];rfl
     rw [DN,tV _ _ _ _ _ c0 so,D1,DN]
     by_cases hk:k<es.length*sz
     ·rw [if_pos hk]
      by_cases b5:i*sz+o=k
      ·subst b5
       rw [if_pos za,if_pos rfl,if_pos so,W]
       simp
      ·rw [if_neg za,if_neg b5,if_pos hk]
     ·rw [if_neg hk]
      rw [if_neg za,if_neg hk]
   ·rcases D7 hu with hu|rfl
    ·exact hf.one u hu
    ·exact y1
   ·obtain⟨u,h4,h5⟩:=hf.cell k x j c' h1 E h3
    refine⟨u,?_,h5⟩
    have hj:j<sz:=by rw [<-hf.len x (D6 h1)];exact(List.getElem?_eq_some_iff.1 E).1
    rw [D2 ?_]
    ·exact h4
    ·intro heq
     apply h3
     have b5:k=i:=by
      rcases Nat.lt_trichotomy k i with d1|c7|d1
      ·have:=EB sz (show k+1<=i by omega)
       rw [D9,EC]at this
       omega
      ·exact c7
      ·have:=EB sz (show i+1<=k by omega)
       rw [D9,EC]at this
       omega
     subst b5
     exact⟨rfl,za⟩
  |nest N e e2 ess hh=>
   by_cases C:ver=N∧o=0∧n=1
   rotate_left
   ·simp only [C,if_false]at E;exact fE s.boxes E
   simp only [if_pos C]at E
   obtain⟨rfl,rfl,rfl⟩:=C
   obtain⟨h5, -,hc⟩:=M.rE (b:=s.boxes) E
   cases h5
   simp only [EF,EE]at hc
   obtain⟨⟨b1,a9⟩,U⟩:=hc
   have a9:=of_decide_eq_true a9
   have U:∀j r,hh=some (j,r)->i=j:=fun j r e=>by subst e;exact of_decide_eq_true U
   obtain⟨xs,bs,k,g,m,c,f,rfl,b3,e0,how,T,d3,d1⟩:=h.Di hb hx
   have d4:=how.v8 za
   rcases d4.2 with⟨he,_⟩|⟨g',cap,cur,fz,he,H,hg,e3,b4,Q,J⟩
   ·cases he
   cases he
   obtain⟨c,rfl⟩:∃c',c=c'+1:=⟨c-1,za⟩
   obtain⟨y1,W⟩:=hy.vv b1
   have F:=vA (P:=P) (w:=w) hn (H.free Q) hg (v:=K) (o:=i) (by rw [W];rfl) za (fun u hu=>by rw [W]at hu;simp at hu;rw [hu];exact y1)
   obtain⟨r1,r2,r3⟩:=how.set1 (v:=K) a9 hg W
   obtain⟨nc,d2⟩:∃nc,(ncs e2 ess hh)[i]? =some nc:=⟨_,zf (by rw [AG];exact a9)⟩
   obtain⟨v0,b0,c3,bs2,h6,h7,h8,h9⟩:=T.split d2
   have b2:=h9 (.val y) K [] (.val y K hy y1)
   rw [xq e2 ess hh i y U]at b2
   rw [D8]at b2
   have d8:∀b∈bs,b≠g:=fun b D e=>by
    subst e
    exact(List.nodup_append.1 d3).2.2 b (by simp [tp]) b D rfl
   have I:sb (loc id) (.nest ver e 1 (.slice (some ⟨g,0,none⟩) ess.length (c+1)) (c3++bs2)):=by rw [f];exact .held
   have hle:=rT.upd I
   rw [EA]
   refine⟨_,S,upd loc id (.nest ver e 1 (.slice (some ⟨g,0,none⟩) ess.length (c+1)) (c3++bs2)),F,?_,rfl⟩
   refine h.sW (Step.setRow w g _) id _ _ (fun b' O=>by cases O;exact⟨_,f,by simp [Loc.has,tp]⟩) ?_ (fun b' G=>.inl ⟨_,f,?_⟩) I
   ·refine .nest ver e e2 ess _ _ (xs.set i K) (c3++bs2) b3 ⟨k,e0⟩ r3 (b2.dE (Sub.refl S) hle fun b D=>?_) ?_ (fun j rv e=>by cases e;exact a9)
    ·refine setRow_other w g b _ (d8 b ?_)
     rw [h6]
     rcases List.mem_append.1 D with D|D
     ·exact List.mem_append.2 (.inl D)
     ·exact List.mem_append.2 (.inr (List.mem_append.2 (.inr D)))
    ·refine List.Nodup.sublist ?_ d3
     rw [h6]
     exact List.Sublist.append (List.Sublist.refl _) (List.Sublist.append (List.Sublist.refl _) (List.sublist_append_right _ _))
   ·rcases List.mem_append.1 G with D|D
    ·exact List.mem_append.2 (.inl D)
    ·refine List.mem_append.2 (.inr ?_)
     rw [h6]
     rcases List.mem_append.1 D with D|D
     ·exact List.mem_append.2 (.inl D)
     ·exact List.mem_append.2 (.inr (List.mem_append.2 (.inr D)))
end
end Go.Dw
