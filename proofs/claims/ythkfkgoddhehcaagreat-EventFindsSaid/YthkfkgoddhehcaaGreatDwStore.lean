
import Derived.Test.YthkfkgoddhehcaaGreatDwMem
set_option linter.unusedVariables false
set_option linter.unusedSimpArgs false
open List renaming append_assoc->ED, ext_getElem?->ER, getElem?_append_left->ES, getElem?_append_right->ET, getElem?_cons_succ->EU, getElem?_cons_zero->EV, getElem?_set->EW, getElem?_set_ne->EX, getElem?_set_self->EY, getElem?_take->EG, length_cons->EZ, length_nil->E0, mem_of_getElem?->E1, nil_append->E2
open Nat renaming add_mul->E3, add_zero->E4, mul_le_mul_right->E5, one_mul->E6, sub_self->E7
open Bool renaming and_eq_true->E8, true_eq->E9

namespace Go.Dw
theorem Ca(v:Value)(h:∀cs,v≠ .agg cs):(vO v).cells=[vO v]∧v.cells= #[v]:=by
 refine⟨?_,?_⟩
 ·unfold vO;split<;>rfl
 ·cases v<;>first|rfl|exact(h _ rfl).elim
theorem wG(S:tG)(loc:ui)(v:Value):v.cells.size=(uh v).cells.length∧∀(i:Nat)c u,(uh v).cells[i]? =some c->v.cells[i]? =some u->R S loc c u:=by
 by_cases h:∃cs,v= .agg cs
 ·obtain⟨cs,rfl⟩:=h
  refine⟨by simp [uh,RV.cells,Value.cells],λi c u h1 a=>?_⟩
  simp only [uh,RV.cells,List.getElem?_map,Array.getElem?_toList]at h1
  simp only [Value.cells]at a
  simp only [a,Option.map_some,Option.some.injEq]at h1
  subst h1
  exact R.vO S loc u
 ·have g:∀cs,v≠ .agg cs:=λcs e=>h ⟨cs,e⟩
  have he:uh v=vO v:=by
   unfold uh
   split
   ·exact(g _ rfl).elim
   ·rfl
  obtain⟨h1,a⟩:=Ca v g
  rw [he,h1,a]
  refine⟨rfl,λi c u f j=>?_⟩
  cases i with
  |zero=>
   simp at f j
   subst f;subst j
   exact R.vO S loc v
  |succ i=>simp at f
section
variable {P:Program}{X:Ctx}{S:tG}{loc:ui}{s:St}{w:World}
theorem V.xf{p:PD}{v:Value}(h:V S p v)(hp:p.one=true):v.oneCell'=true∧v.cells= #[v]:=by
 cases h<;>first|exact⟨rfl,rfl⟩|(simp [PD.one]at hp;done)|skip
 rename_i a
 unfold DK at a
 split at a<;>first|exact⟨rfl,rfl⟩|cases a
theorem cells_one{v:Value}(h:v.oneCell'=true):v.cells= #[v]:=by
 cases v<;>first|rfl|(simp [Value.oneCell']at h)
theorem R.xf{rv:RV}{v:Value}(h:R S loc rv v)(ho:rv.one=true):v.oneCell'=true∧v.cells= #[v]:=by
 cases h with
 |d h=>exact h.xf ho
 |tC=>exact⟨rfl,rfl⟩
 |cptr=>exact⟨rfl,rfl⟩
 |ref id ver _ _ h1=>exact⟨h1,cells_one h1⟩
 |ptr id off _ _ h1=>exact⟨h1,cells_one h1⟩
 |elt a b c d _ _ h1=>exact⟨h1,cells_one h1⟩
 |view a b c d _ _ h1=>exact⟨h1,cells_one h1⟩
 |clo=>exact⟨rfl,rfl⟩
 |err t x=>exact⟨rfl,rfl⟩
 |noerr=>exact⟨rfl,rfl⟩
 |ifc _ _ _ _=>exact⟨rfl,rfl⟩
 |plit _ _ _ _ _ _ _ _=>exact⟨rfl,rfl⟩
 |pcp _ _ _ _ _ _=>exact⟨rfl,rfl⟩
 |undef=>simp [RV.one]at ho
 |junk=>simp [RV.one]at ho
 |agg=>simp [RV.one]at ho
 |tup=>simp [RV.one]at ho
theorem R.sized{rv:RV}{v:Value}(h:R S loc rv v)(hs:rv.sized=true):
  v.cells.size=rv.cells.length∧(∀(i:Nat)c u,rv.cells[i]? =some c->v.cells[i]? =some u->R S loc c u)∧∀u∈v.cells,u.oneCell'=true:=by
 have key:∀(cs:List RV)(vs:Array Value),v= .agg vs->vs.size=cs.length->rv.cells=cs->(∀(i:Nat)c u,cs[i]? =some c->vs[i]? =some u->R S loc c u)->
   v.cells.size=rv.cells.length∧(∀(i:Nat)c u,rv.cells[i]? =some c->v.cells[i]? =some u->R S loc c u)∧∀u∈v.cells,u.oneCell'=true:=by
  intro cs vs q k hc l
  subst q
  rw [hc]
  refine⟨k,l,λu hu=>?_⟩
  replace hu:u∈vs:=hu
  obtain⟨i,hi,he⟩:=Array.getElem_of_mem hu
  have g:i<cs.length:=by rw [<-k];exact hi
  have h1:=l i cs[i] u (ze g) (by rw [Array.getElem?_eq_getElem hi,he])
  refine(h1.xf ?_).1
  have:=List.all_eq_true.1 hs cs[i] (by rw [hc];exact List.getElem_mem g)
  exact this
 have single:rv.cells=[rv]->v.cells.size=rv.cells.length∧(∀(i:Nat)c u,rv.cells[i]? =some c->v.cells[i]? =some u->R S loc c u)∧∀u∈v.cells,u.oneCell'=true:=by
  intro hc
  have ho:rv.one=true:=List.all_eq_true.1 hs rv (by rw [hc];simp)
  obtain⟨h1,f⟩:=h.xf ho
  rw [hc,f]
  refine⟨rfl,λi c u a j=>?_,λu hu=>?_⟩
  ·cases i with
   |zero=>simp at a j;subst a;subst j;exact h
   |succ i=>simp at a
  ·simp at hu;rw [hu];exact h1
 rcases rv with p|_|_|_|cs|_|_|_|_|_|_|_|_
 case d=>
  cases p with
  |agg cs=>
   obtain⟨vs,h1,f,a⟩:=h.Bf
   exact key (cs.map .d) vs h1 (by simpa using f) rfl a
  |_=>exact single rfl
 case agg=>
  obtain⟨vs,h1,f,a⟩:=h.yN
  exact key cs vs h1 f rfl a
 all_goals exact single rfl
theorem zZ(l:List RV):∀(cs:List RV)(off i:Nat),off+l.length<=cs.length->
  (setCells cs off l)[i]? =if off<=i∧i<off+l.length then l[i-off]? else cs[i]? :=by
 induction l with
 |nil=>intro cs off i _;simp only [setCells,E0];rw [if_neg za]
 |cons v r c=>
  intro cs off i hle
  simp only [EZ]at hle⊢
  rw [setCells,c _ _ _ so]
  by_cases h1:off+1<=i∧i<off+1+r.length
  ·rw [if_pos h1,if_pos za]
   obtain⟨k,rfl⟩:∃k,i=off+1+k:=⟨i-(off+1),za⟩
   rw [show off+1+k-(off+1)=k by omega,show off+1+k-off=k+1 by omega,EU]
  ·rw [if_neg h1]
   by_cases a:i=off
   ·subst a
    rw [if_pos za,EY za,E7,EV]
   ·rw [if_neg za,EX za]
theorem wP(l:List RV):∀(cs:List RV)(off:Nat),(setCells cs off l).length=cs.length:=by
 induction l with
 |nil=>intro cs off;rfl
 |cons v r a=>intro cs off;rw [setCells,a];simp
theorem BL(l:List PD):∀(cs:List PD)(off i:Nat),off+l.length<=cs.length->
  (wD cs off l)[i]? =if off<=i∧i<off+l.length then l[i-off]? else cs[i]? :=by
 induction l with
 |nil=>intro cs off i _;simp only [wD,E0];rw [if_neg za]
 |cons v r c=>
  intro cs off i hle
  simp only [EZ]at hle⊢
  rw [wD,c _ _ _ so]
  by_cases h1:off+1<=i∧i<off+1+r.length
  ·rw [if_pos h1,if_pos za]
   obtain⟨k,rfl⟩:∃k,i=off+1+k:=⟨i-(off+1),za⟩
   rw [show off+1+k-(off+1)=k by omega,show off+1+k-off=k+1 by omega,EU]
  ·rw [if_neg h1]
   by_cases a:i=off
   ·subst a
    rw [if_pos za,EY za,E7,EV]
   ·rw [if_neg za,EX za]
theorem AA(l:List PD):∀(cs:List PD)(off:Nat),(wD cs off l).length=cs.length:=by
 induction l with
 |nil=>intro cs off;rfl
 |cons v r a=>intro cs off;rw [wD,a];simp
def xI(P:Program)(X:Ctx)(s':St)(o:Oper)(a:Act)(w:World):Prop:=
 ∀(K:Act->World->Prop)(Q:Exit->Act->World->Prop),(∀c w',xm P X s' c w'->K c w')->o.wp P a w K Q
theorem xI.value{s':St}{o:Oper}{a:Act}{w w':World}{v':Value}{v:RV}{S:tG}{loc:ui}(j:a.defers=[])(c:∀d,o.dst=some d->d<X.nt)
  (f:(execOp a.eval o).run P w= .ok (.value v') w') (hS:Sim P X S loc s' a.tmps w') (k:R S loc v v'):xI P X (s'.put o.dst v) o a w:=by
 intro K Q g
 unfold Oper.wp
 rw [f]
 exact g _ _ ⟨by cases o.dst<;>exact j,S,loc,hS.put (a:=a) k o.dst c⟩
theorem xI.skip{s':St}{o:Oper}{a:Act}{w w':World}{S:tG}{loc:ui}(j:a.defers=[])(c:∀d,o.dst=some d->d<X.nt)
  (f:(execOp a.eval o).run P w= .ok .skip w') (hS:Sim P X S loc s' a.tmps w'):xI P X (s'.put o.dst .undef) o a w:=by
 intro K Q g
 unfold Oper.wp
 rw [f]
 exact g _ _ ⟨by cases o.dst<;>exact j,S,loc,hS.put (a:=a) .undef o.dst c⟩
variable {tm:Array Value}
theorem Sim.uj(h:Sim P X S loc s tm w){id:Nat}(c:s.boxes id=none):loc id=none:=by
 cases f:loc id with
 |none=>rfl
 |some L=>
  obtain⟨g,a⟩:=h.dom id L f
  rw [c]at a
  cases a
theorem Sim.newVar(h:Sim P X S loc s tm w){id:Nat}(g:s.boxes id=none)(cs:List RV)(vs:Array Value)(t:TypeId)(k:vs.size=cs.length)
  (l:∀(i:Nat)c u,cs[i]? =some c->vs[i]? =some u->R S loc c u):
  ∃loc',Sim P X S loc' { s with boxes:=upd s.boxes id (.var cs) } tm (w.alloc (.cells vs t))∧R S loc' (.ptr id 0) (.pointer (some ⟨w.heap.size,0,none⟩))∧tO loc loc':=by
 have f:=h.uj g
 have a:uc (loc id) (.var w.heap.size):=by rw [f];trivial
 refine⟨upd loc id (.var w.heap.size),?_,?_,tO.upd a⟩
 ·refine h.uO (Step.alloc w _) id _ _ (λb hc=>by cases hc) ?_ ?_ a
  ·exact .var cs w.heap.size t vs (heap_alloc_new w _) k (λi c v h1 j=>(l i c v h1 j).mono (Sub.refl S) (tO.upd a))
  ·intro b g;cases g;exact .inr (.inl (Nat.le_refl _))
 ·exact .ptr id 0 _ (.var w.heap.size) rfl (tJ _ _ _) (λb=>⟨λhe=>by cases he;rfl,(λhe=>by cases he)⟩)
theorem vu{t:TypeId}{z:Value}(h:uE P t=some z):∃i,P.info? t=some i∧i.zero=some z:=by
 unfold uE at h
 cases hi:P.info? t with
 |none=>simp [hi]at h
 |some i=>simp only [hi,zd]at h;exact⟨i,rfl,h⟩
theorem B5(h:Sim P X S loc s tm w){id:Nat}{t:TypeId}{v:RV}{u:Ups}{r:List Nat}(a:zh P id t s.boxes=some ((v,u),r,true)):
  ∃v' w' loc',(Instr.alloc t true (.tuple #[])).run P w= .ok v' w'∧Sim P X S loc' (s.ups u) tm w'∧R S loc' v v':=by
 unfold zh at a
 rcases f:uE P t with _|z
 ·simp only [f]at a;exact fE s.boxes a
 simp only [f]at a
 obtain⟨_,y,B,h1,g,_⟩:=M.bind_some a
 obtain⟨x,_,_⟩:=M.uD h1
 obtain⟨j, -, -⟩:=M.tB g
 cases j
 obtain⟨i,hi,c⟩:=vu f
 obtain⟨k,l⟩:=wG S loc z
 obtain⟨loc',p,q,_⟩:=h.newVar x _ z.cells t k l
 refine⟨_,_,loc',?_,p,q⟩
 simp [Instr.alloc,zeroValue,typeInfo,hi,c,newVar,newRow]
theorem Dk(h:Sim P X S loc s tm w){id:Nat}{t:TypeId}{x v:RV}{u:Ups}{r:List Nat}{a:Value}(q:boxD id x s.boxes=some ((v,u),r,true))(y:R S loc x a):
  ∃v' w' loc',(Instr.box t a).run P w= .ok v' w'∧Sim P X S loc' (s.ups u) tm w'∧R S loc' v v':=by
 obtain⟨_,z,B,h1,f,_⟩:=M.bind_some q
 obtain⟨p,_,_⟩:=M.uD h1
 obtain⟨g, -,hs⟩:=M.tK f
 cases g
 obtain⟨j,k,c⟩:=y.sized hs.symm
 obtain⟨loc',c,l,_⟩:=h.newVar p _ a.cells t j k
 refine⟨_,_,loc',?_,c,l⟩
 simp [Instr.box,newVar,newRow]
theorem wo(P:Program)(g o:Nat)(t:TypeId)(a:Nat×Nat)(m:Nat)(f:∀j,j<m->¬(a.1<=j∧j<a.2)):∀(vs:List Value)(i:Nat)(cur:Array Value)(w:World),cur.size=m->w.heap[g]? =some (.cells cur t a)->o+i+vs.length<=cur.size->(∀v∈vs,v.oneCell'=true)->
  (storeCells ⟨g,o,none⟩ vs i).run P w= .ok () (w.setRow g (cur.toList.take (o+i)++vs++cur.toList.drop (o+i+vs.length)).toArray)
 | [],i,cur,w,_,c,_,_=>by
  rw [List.append_nil,E0,E4,List.take_append_drop,Array.toArray_toList,setRow_self w g cur t a c]
  rfl
 |v::r,i,cur,w,hm,c,z,h1=>by
  rw [EZ]at z
  have k:o+i<cur.size:=by omega
  have p:(⟨g,o,none⟩:Addr).add i=⟨g,o+i,none⟩:=by unfold Addr.add;split<;>simp_all
  have q:w.frozen? ⟨g,o+i,none⟩=false:=by
   simp only [World.frozen?,c]
   have:=f (o+i) za
   simpa using this
  have x:(store ((⟨g,o,none⟩:Addr).add i) v).run P w= .ok () (w.setRow g (cur.setIfInBounds (o+i) v)):=by
   rw [p,run_store P w _ v _ (h1 v zb),show w.cell? ⟨g,o+i,none⟩=some cur[o+i]by simp [World.cell?,c,k]]
   simp [q,setCell_eq_setRow w g (o+i) cur t a v c]
  have l:=wo P g o t a m f r (i+1) (cur.setIfInBounds (o+i) v) (w.setRow g (cur.setIfInBounds (o+i) v)) (by simpa using hm) (setRow_heap w g cur _ t a c) so λu hu=>h1 u (by simp [hu])
  have y:((cur.setIfInBounds (o+i) v).toList.take (o+(i+1))++r++(cur.setIfInBounds (o+i) v).toList.drop (o+(i+1)+r.length))=cur.toList.take (o+i)++(v::r)++cur.toList.drop (o+i+(v::r).length):=by
   have B:cur.toList.length=cur.size:=by simp
   rw [Array.toList_setIfInBounds,EZ,show o+(i+1)=o+i+1 by omega,List.take_succ_eq_append_getElem so,List.getElem_set_self,List.take_set_of_le za,List.drop_set_of_lt za]
   simp only [ED,List.cons_append,E2]
   rw [show o+i+1+r.length=o+i+(r.length+1)by omega]
  rw [y]at l
  simp only [storeCells,Sem.run_bind,x,Result.andThen_ok]
  rw [l,setRow_setRow]
theorem FzOk.free{a:Nat×Nat}{cap sz m:Nat}(h:FzOk a cap sz)(hm:m=cap*sz):∀j,j<m->¬(a.1<=j∧j<a.2):=by
 intro j f
 rcases h with rfl|⟨h1,c⟩
 ·simp
 ·subst c
  omega
theorem xY{t:TypeId}{n:Nat}(l:szT P t=some n){g o:Nat}{cur:Array Value}{ty:TypeId}{a:Nat×Nat}(c:∀j,j<cur.size->¬(a.1<=j∧j<a.2))(k:w.heap[g]? =some (.cells cur ty a)){v:Value}(f:v.cells.size=n)(hle:o+n<=cur.size)
  (h1:∀u∈v.cells,u.oneCell'=true):
  (storeVar t ⟨g,o,none⟩ v).run P w= .ok () (w.setRow g (cur.toList.take o++v.cells.toList++cur.toList.drop (o+n)).toArray):=by
 have:=wo P g o ty a cur.size c v.cells.toList 0 cur w rfl k so (λu hu=>h1 u (by simpa using hu))
 simp only [storeVar,Sem.run_bind,tQ l,Result.andThen_ok,f,ne_eq,not_true_eq_false,if_false]
 simp only [E4,Array.length_toList,f]at this
 simpa using this
theorem vW(cur vs:List Value)(o n i:Nat)(a:vs.length=n)(hle:o+n<=cur.length):(cur.take o++vs++cur.drop (o+n))[i]? =if o<=i∧i<o+n then vs[i-o]? else cur[i]? :=by
 subst a
 by_cases h1:i<o
 ·rw [if_neg za,ED,ES so,EG,if_pos h1]
 ·by_cases c:i<o+vs.length
  ·rw [if_pos za,ED,ET so,List.length_take,Nat.min_eq_left za,ES za]
  ·rw [if_neg za,ET so,List.getElem?_drop]
   congr 1
   simp
   omega
end
end Go.Dw
namespace Go.Dw
section
variable {P:Program}{X:Ctx}{S:tG}{loc:ui}{s:St}{tm:Array Value}{w:World}
theorem PD.Eo(e:PD)(o:Nat)(vs:List PD)(h:o+vs.length<=e.cells.length)(f:∀p∈vs,p.one=true):
  (e.put o vs).cells.length=e.cells.length∧∀j,(e.put o vs).cells[j]? =if o<=j∧j<o+vs.length then vs[j-o]? else e.cells[j]? :=by
 have single:∀(e:PD),e.cells=[e]->(e.put o vs)=vs.headD e->o+vs.length<=1->
   (e.put o vs).cells.length=e.cells.length∧∀j,(e.put o vs).cells[j]? =if o<=j∧j<o+vs.length then vs[j-o]? else e.cells[j]? :=by
  intro e he hp hle
  rw [hp,he]
  cases vs with
  |nil=>simp only [List.headD_nil,he,E0];exact⟨trivial,λj=>by rw [if_neg za]⟩
  |cons v r=>
   have c:r=[]:=List.eq_nil_of_length_eq_zero (by simp at hle;omega)
   subst c
   have ho:o=0:=by simp at hle;omega
   subst ho
   have a:=f v zb
   have hc:v.cells=[v]:=by cases v<;>first|rfl|(simp [PD.one]at a)
   simp only [List.headD_cons,hc,List.length_singleton]
   refine⟨trivial,λj=>?_⟩
   cases j with
   |zero=>simp
   |succ j=>rw [if_neg za];simp
 cases e with
 |agg cs=>exact⟨by simp [PD.put,PD.cells,AA],λj=>by simp only [PD.put,PD.cells];exact BL vs cs o j h⟩
 |bool b=>exact single _ rfl rfl h
 |int k n=>exact single _ rfl rfl h
 |str l=>exact single _ rfl rfl h
 |lst l=>exact single _ rfl rfl h
 |raw v=>exact single _ rfl rfl h
theorem V.cells{p:PD}{v:Value}(h:V S p v):v.cells.size=p.cells.length∧(∀(i:Nat)c u,p.cells[i]? =some c->v.cells[i]? =some u->V S c u):=by
 cases h with
 |agg cs vs r h=>exact⟨r,h⟩
 |bool b=>exact⟨rfl,λi c u h1 g=>by cases i<;>simp [PD.cells,Value.cells]at h1 g;subst h1;subst g;exact .bool b⟩
 |int k n=>exact⟨rfl,λi c u h1 g=>by cases i<;>simp [PD.cells,Value.cells]at h1 g;subst h1;subst g;exact .int k n⟩
 |str l=>exact⟨rfl,λi c u h1 g=>by cases i<;>simp [PD.cells,Value.cells]at h1 g;subst h1;subst g;exact .str l⟩
 |nil a j=>exact⟨rfl,λi c u h1 g=>by cases i<;>simp [PD.cells,Value.cells]at h1 g;subst h1;subst g;exact .nil a j⟩
 |lst es b o j sz f hc q hS hV=>exact⟨rfl,λi c u h1 g=>by cases i<;>simp [PD.cells,Value.cells]at h1 g;subst h1;subst g;exact .lst es b o j sz f hc q hS hV⟩
 |raw _ hp=>
  have hc:=cells_one (v:=v) (by unfold DK at hp;split at hp<;>first|rfl|cases hp)
  rw [hc]
  exact⟨rfl,λi c u h1 g=>by cases i<;>simp [PD.cells]at h1 g;subst h1;subst g;exact .raw _ hp⟩
theorem Flat.set{sz:Nat}{es:List PD}{xs:List Value}(h:Flat S sz es xs)(H:xs.length=es.length*sz){i o n:Nat}{e p:PD}(he:es[i]? =some e)(hp:p.cells.length=n)(ho:∀c∈p.cells,c.one=true)
  (hle:o+n<=e.cells.length) {vs:List Value} (D:vs.length=n) (C:∀u∈vs,u.oneCell'=true) (G:∀(j:Nat)c u,p.cells[j]? =some c->vs[j]? =some u->V S c u):
  Flat S sz (es.set i (e.put o p.cells)) (xs.take (i*sz+o)++vs++xs.drop (i*sz+o+n)):=by
 have hi:i<es.length:=(List.getElem?_eq_some_iff.1 he).1
 have q:e.cells.length=sz:=h.len e (E1 he)
 obtain⟨z,l⟩:=PD.Eo e o p.cells za ho
 have hmul:(i+1)*sz<=es.length*sz:=E5 _ hi
 rw [E3,E6]at hmul
 have hlen:i*sz+o+n<=xs.length:=by omega
 refine⟨?_,?_,?_⟩
 ·intro x E
  rcases List.mem_or_eq_of_mem_set E with E|rfl
  ·exact h.len x E
  ·rw [z,q]
 ·intro u hu
  rcases List.mem_append.1 hu with hu|hu
  ·rcases List.mem_append.1 hu with hu|hu
   ·exact h.one u (List.mem_of_mem_take hu)
   ·exact C u hu
  ·exact h.one u (List.mem_of_mem_drop hu)
 ·intro y F j x a f
  rw [vW xs vs (i*sz+o) n _ D hlen]
  rw [EW]at a
  by_cases k:i=y
  ·subst k
   simp only [if_true,hi,Option.some.injEq]at a
   subst a
   rw [l]at f
   have r:j<sz:=by
    have:j<(e.put o p.cells).cells.length:=by
     rw [<-l]at f
     exact(List.getElem?_eq_some_iff.1 f).1
    omega
   by_cases t:o<=j∧j<o+p.cells.length
   ·rw [if_pos t]at f
    rw [if_pos za]
    have:i*sz+j-(i*sz+o)=j-o:=by omega
    rw [this]
    have g:j-o<vs.length:=by omega
    exact⟨vs[j-o],ze g,G (j-o) x _ f (ze g)⟩
   ·rw [if_neg t]at f
    rw [if_neg za]
    exact h.cell i e j x he f
  ·rw [if_neg k]at a
   have r:j<sz:=by
    have:=h.len F (E1 a)
    have:=(List.getElem?_eq_some_iff.1 f).1
    omega
   rw [if_neg]
   ·exact h.cell y F j x a f
   ·rcases Nat.lt_or_gt_of_ne k with g|B
    ·have h1:(i+1)*sz<=y*sz:=E5 _ g
     rw [E3,E6]at h1
     omega
    ·have h1:(y+1)*sz<=i*sz:=E5 _ B
     rw [E3,E6]at h1
     omega
theorem vq:∀(u:Ups)(s:St)(id:Nat),id∉u.map (·.1)->(s.ups u).boxes id=s.boxes id
 | [],_,_,_=>rfl
 |(i,b)::r,s,id,h=>by
  rw [vJ,vq r _ id (λhm=>h (by simp only [List.map_cons,List.mem_cons];exact .inr hm))]
  exact uq _ _ (λe=>h (by simp [e]))
theorem DR{rv:RV}{b:tY}{p:PD}{u:Ups}{r:List Nat}(h:wv rv b=some ((p,u),r,true))(hs:rv.sized=true):p.cells.length=rv.cells.length∧∀c∈p.cells,c.one=true:=by
 have z:∀{cs:List RV}{B:List PD}{u:Ups}{r:List Nat},xj cs b=some ((B,u),r,true)->(∀c∈cs,c.one=true)->B.length=cs.length∧∀c∈B,c.one=true:=by
  intro cs
  induction cs with
  |nil=>
   intro B u r h _
   obtain⟨h1, -, -⟩:=M.tB (b:=b) h
   cases h1
   exact⟨rfl,λc hc=>by cases hc⟩
  |cons c cs J=>
   intro B u r h ho
   obtain⟨⟨p,u1⟩,G,H,h1,g,_⟩:=M.bind_some h
   obtain⟨⟨K,u2⟩,L,N,t,I,_⟩:=M.bind_some g
   obtain⟨C, -, -⟩:=M.tB I
   cases C
   obtain⟨i1,i2⟩:=J t (λc hc=>ho c (by simp [hc]))
   refine⟨by simp [i1],λx F=>?_⟩
   rcases List.mem_cons.1 F with rfl|F
   ·have E:=ho c zb
    cases c with
    |d q=>obtain⟨C, -, -⟩:=M.tB (b:=b) h1;cases C;exact E
    |tC=>obtain⟨C, -, -⟩:=M.tB (b:=b) h1;cases C;rfl
    |ref id ver=>
     obtain⟨D,G,H,h1,g,_⟩:=M.bind_some h1
     cases D with
     |arr l e es=>
      by_cases j:ver=l
      rotate_left
      ·simp only [j,if_false]at g;exact fE b g
      simp only [j,if_true]at g
      obtain⟨t, -, -⟩:=M.tB (b:=b) g
      cases t
      rfl
     |var _=>exact fE b g
     |dead=>exact fE b g
     |nest _ _ _ _ _=>exact fE b g
    |undef=>exact fE b h1
    |junk=>exact fE b h1
    |agg cs=>exact fE b h1
    |tup cs=>exact fE b h1
    |ptr a c=>exact fE b h1
    |elt a c d f=>exact fE b h1
    |cptr a=>exact fE b h1
    |view id ver lo hi=>
     obtain⟨D,G,H,h1,g,_⟩:=M.bind_some h1
     cases D with
     |arr l e es=>
      by_cases j:ver=l
      rotate_left
      ·simp only [j,if_false]at g;exact fE b g
      simp only [j,if_true]at g
      obtain⟨t, -, -⟩:=M.tK (b:=b) g
      cases t
      rfl
     |var _=>exact fE b g
     |dead=>exact fE b g
     |nest _ _ _ _ _=>exact fE b g
    |clo a c=>exact fE b h1
    |err _=>exact fE b h1
    |ifc _ _=>exact fE b h1
    |plit _=>exact fE b h1
    |pcp _=>exact fE b h1
   ·exact i2 x F
 have k:∀c∈rv.cells,c.one=true:=λc hc=>List.all_eq_true.1 hs c hc
 have single:rv.cells=[rv]->zf rv b=some ((p,u),r,true)->p.cells.length=rv.cells.length∧∀c∈p.cells,c.one=true:=by
  intro hc h1
  have g:xj [rv] b=some (([p],u++[]),r++([]++[]),true):=by
   simp only [xj,M.bind,h1,M.pure,Bool.and_true]
  obtain⟨_,i2⟩:=z g (λc y=>k c (by rw [hc];exact y))
  have hp:p.one=true:=i2 p zb
  have:p.cells=[p]:=by cases p<;>first|rfl|(simp [PD.one]at hp)
  rw [this,hc]
  exact⟨rfl,λc y=>by simp at y;rw [y];exact hp⟩
 cases rv with
 |agg cs=>
  unfold wv at h
  obtain⟨⟨B,u1⟩,G,H,h1,g,_⟩:=M.bind_some h
  obtain⟨t, -, -⟩:=M.tB (b:=b) g
  cases t
  obtain⟨i1,i2⟩:=z h1 k
  exact⟨i1,i2⟩
 |d q=>
  obtain⟨t, -, -⟩:=M.tB (b:=b) h
  cases t
  cases p with
  |agg cs=>
   refine⟨by simp [PD.cells,RV.cells],λc hc=>?_⟩
   exact k (.d c) (by simp only [RV.cells];exact List.mem_map.2 ⟨c,hc,rfl⟩)
  |_=>exact single rfl h
 |tC=>exact single rfl h
 |ref id ver=>exact single rfl h
 |undef=>exact single rfl h
 |junk=>exact single rfl h
 |tup cs=>exact single rfl h
 |ptr a c=>exact single rfl h
 |elt a c d f=>exact single rfl h
 |cptr a=>exact single rfl h
 |view a c d f=>exact single rfl h
 |clo a c=>exact single rfl h
 |err _=>exact single rfl h
 |ifc _ _=>exact single rfl h
 |plit _=>exact single rfl h
 |pcp _=>exact single rfl h
theorem rowAt.BA{w:World}{e:TypeId}{n g c i:Nat}{xs:List Value}{cur:Array Value}{ty:TypeId}{z:Nat×Nat}{v:Value}(how:rowAt w e 1 (.slice (some ⟨g,0,none⟩) n (c+1)) n xs)(hi:i<n)
  (y:w.heap[g]? =some (.cells cur ty z)) (r:v.cells= #[v]):i<cur.size∧ty=e∧rowAt (w.setRow g (cur.toList.take i++v.cells.toList++cur.toList.drop (i+1)).toArray) e 1 (.slice (some ⟨g,0,none⟩) n (c+1)) n (xs.set i v):=by
 have how:=how.wj za
 rcases how.2 with⟨he,_⟩|⟨D,cap,x,B,he,p,f,q,l,C,a⟩
 ·cases he
 cases he
 rw [y]at f
 cases f
 have u:xs.length=n*1:=how.1
 refine⟨za,rfl,.inl ⟨by simpa using u,.inr ⟨g,c+1,_,_,rfl,p,setRow_heap w g cur _ e _ y,q,l,?_,?_⟩⟩⟩
 ·simp [r];omega
 ·rw [<-a]
  apply ER
  intro k
  have t:v.cells.toList.length=1:=by rw [r];rfl
  rw [EG,vW _ _ _ _ _ t so,EW,EG]
  by_cases hk:k<n*1
  ·rw [if_pos hk]
   by_cases j:i=k
   ·subst j
    rw [if_pos za,if_pos rfl,if_pos so,r]
    simp
   ·rw [if_neg za,if_neg j,if_pos hk]
  ·rw [if_neg hk]
   rw [if_neg za,if_neg hk]
theorem Cv(h:Sim P X S loc s tm w){t:TypeId}{x y v:RV}{u:Ups}{r:List Nat}{vx E:Value}(hl:xr P t x y s.boxes=some ((v,u),r,true))(hx:R S loc x vx)(hy:R S loc y E):
  ∃w' S' loc',(Instr.storeAt t vx E).run P w= .ok () w'∧Sim P X S' loc' (s.ups u) tm w'∧v= .undef:=by
 unfold xr at hl
 rcases hn:szT P t with _|n
 ·simp only [hn]at hl;exact fE s.boxes hl
 simp only [hn]at hl
 rcases x with _|_|_|_|_|_|_|⟨id,off⟩|⟨id,ver,i,o⟩|_|_|_|_<;>first|exact fE s.boxes hl|skip
 ·obtain⟨bx,r1,r2,h1,B,_⟩:=M.bind_some hl
  obtain⟨hb,_,_⟩:=M.get_some h1
  cases bx with
  |var cs=>
   obtain⟨h3, -,hc⟩:=M.tK B
   cases h3
   simp only [E9,E8]at hc
   obtain⟨hs,hc⟩:=hc
   obtain⟨I,a9⟩:=of_decide_eq_true hc
   obtain⟨b,ty,vs,a,rfl,hw,hlen,hv⟩:=h.Cx hb hx
   obtain⟨y1,y2,y3⟩:=hy.sized hs
   have q:=xY (P:=P) (w:=w) hn zb hw (v:=E) (o:=off) (by rw [y1];exact I) za y3
   refine⟨_,S,upd loc id (.var b),q,?_,rfl⟩
   have G:uc (loc id) (.var b):=by rw [a];exact .same _
   refine h.uO (Step.setRow w b _) id _ _ (λb' H=>by cases H;exact⟨_,a,rfl⟩) ?_ (λb' C=>by cases C;exact .inl ⟨_,a,rfl⟩) G
   ·refine .var _ b ty _ (setRow_heap w b vs _ ty _ hw) ?_ ?_
    ·simp [wP];omega
    ·intro j c u hj hu
     rw [zZ _ _ _ _ za]at hj
     rw [List.getElem?_toArray,vW _ _ _ _ _ (by simpa using(by rw [y1];exact I)) so]at hu
     by_cases b6:off<=j∧j<off+y.cells.length
     ·rw [if_pos b6]at hj
      rw [if_pos za]at hu
      exact(y2 _ c u hj (by simpa using hu)).mono (Sub.refl S) (tO.upd G)
     ·rw [if_neg b6]at hj
      rw [if_neg za]at hu
      exact(hv _ c u hj (by simpa using hu)).mono (Sub.refl S) (tO.upd G)
  |arr _ _ _=>exact fE s.boxes B
  |dead=>exact fE s.boxes B
  |nest _ _ _ _ _=>exact fE s.boxes B
 ·obtain⟨bx,r1,r2,h1,B,_⟩:=M.bind_some hl
  obtain⟨hb,_,_⟩:=M.get_some h1
  cases bx with
  |arr Q e es=>
   by_cases l:ver=Q
   rotate_left
   ·simp only [l,if_false]at B;exact fE s.boxes B
   simp only [l,if_true]at B
   subst l
   obtain⟨⟨p,u1⟩,r3,r4,h3,h4,_⟩:=M.bind_some B
   rcases K:es[i]? with _|el
   ·simp only [K]at h4;exact fE s.boxes h4
   simp only [K]at h4
   by_cases J:(u1.map (·.1)).contains id=true
   ·simp only [J,if_true]at h4;exact fE s.boxes h4
   simp only [J]at h4
   obtain⟨h5, -,hc⟩:=M.tK (b:=s.boxes) h4
   cases h5
   simp only [E9,E8]at hc
   obtain⟨hs,hc⟩:=hc
   obtain⟨I,a9⟩:=of_decide_eq_true hc
   obtain⟨p1,p2,p3⟩:=yU h3
   obtain⟨q1,q2⟩:=DR h3 hs
   obtain⟨S',loc',a8,a5,hle,F⟩:=h.yQ u1 p1 (λx hx=>.inl (p2 x hx))
   have c4:V S' p E:=p3 S loc S' E hy a5 F
   obtain⟨y1,y2,y3⟩:=hy.sized hs
   have Y:id∉u1.map (·.1):=by
    intro hm
    exact J (by simpa using hm)
   have C:(s.ups u1).boxes id=some (.arr ver e es):=by rw [vq u1 s id Y];exact hb
   obtain⟨sz,xs,g,m,c,a,rfl,a7,how,hf⟩:=a8.Du C (hx.mono a5 hle)
   have b5:i<es.length:=(List.getElem?_eq_some_iff.1 K).1
   have how:=how.wj za
   rcases how.2 with⟨he,_⟩|⟨g',cap,cur,fz,he,F,hg,W,b3,T,O⟩
   ·cases he
   cases he
   obtain⟨c,rfl⟩:∃c',c=c'+1:=⟨c-1,za⟩
   have c6:el.cells.length=sz:=hf.len el (E1 K)
   have hmul:(i+1)*sz<=es.length*sz:=E5 _ b5
   rw [E3,E6]at hmul
   have c9:xs.length=es.length*sz:=how.1
   have b4:es.length*sz<=cur.size:=by
    rw [T];exact E5 _ W
   have z:E.cells.size=n:=by rw [c4.cells.1,I]
   have q:=xY (P:=P) (w:=w) hn (F.free T) hg (v:=E) (o:=i*sz+o) z za y3
   refine⟨_,S',upd loc' id (.arr ver e sz (.slice (some ⟨g,0,none⟩) es.length (c+1))),q,?_,rfl⟩
   rw [yb,vJ]
   refine a8.uO (Step.setRow w g _) id _ _ (λb' H=>by cases H;exact⟨_,a,rfl⟩) ?_ (λb' C=>by cases C;exact .inl ⟨_,a,rfl⟩) (by rw [a];exact .same _)
   ·refine .arr ver e _ sz _ (xs.take (i*sz+o)++E.cells.toList++xs.drop (i*sz+o+n)) a7 ?_ ?_
    ·rw [List.length_set]
     refine .inl ⟨?_,.inr ⟨g,c+1,_,_,rfl,F,setRow_heap w g cur _ e _ hg,W,b3,?_,?_⟩⟩
     ·simp [z];omega
     ·simp [z];omega
     ·rw [<-O]
      apply ER
      intro k
      have c5:E.cells.toList.length=n:=by simpa using z
      rw [EG,vW _ _ _ _ _ c5 so]
      have e1:(es.length*sz)<=cur.toList.length:=by simpa using b4
      rw [vW _ _ _ _ _ c5 so]
      rw [EG]
      by_cases hk:k<es.length*sz
      ·rw [if_pos hk,if_pos hk]
      ·rw [if_neg hk,if_neg za,if_neg hk]
    ·exact hf.set c9 K I q2 a9 (by simpa using z) (λu hu=>y3 u (by simpa using hu)) (λj c u hj hu=>c4.cells.2 j c u hj (by simpa using hu))
  |var _=>exact fE s.boxes B
  |dead=>exact fE s.boxes B
  |nest Q e e2 ess hh=>
   by_cases l:ver=Q∧o=0∧n=1
   rotate_left
   ·simp only [l,if_false]at B;exact fE s.boxes B
   simp only [if_pos l]at B
   obtain⟨rfl,rfl,rfl⟩:=l
   obtain⟨h5, -,hc⟩:=M.tK (b:=s.boxes) B
   cases h5
   simp only [E9,E8]at hc
   obtain⟨⟨c2,L⟩,D⟩:=hc
   have L:=of_decide_eq_true L
   have D:∀j r,hh=some (j,r)->i=j:=λj r e=>by subst e;exact of_decide_eq_true D
   obtain⟨xs,bs,k,g,m,c,a,rfl,a7,c8,how,W,c1,d0⟩:=h.D2 hb hx
   have c3:=how.wj za
   rcases c3.2 with⟨he,_⟩|⟨g',cap,cur,fz,he,F,hg,d1,b3,T,O⟩
   ·cases he
   cases he
   obtain⟨c,rfl⟩:∃c',c=c'+1:=⟨c-1,za⟩
   obtain⟨y1,y2⟩:=hy.xf c2
   have q:=xY (P:=P) (w:=w) hn (F.free T) hg (v:=E) (o:=i) (by rw [y2];rfl) za (λu hu=>by rw [y2]at hu;simp at hu;rw [hu];exact y1)
   obtain⟨r1,r2,r3⟩:=how.BA (v:=E) L hg y2
   obtain⟨nc,c0⟩:∃nc,(ncs e2 ess hh)[i]? =some nc:=⟨_,ze (by rw [Bv];exact L)⟩
   obtain⟨v0,b0,a6,bs2,h6,h7,h8,h9⟩:=W.split c0
   have N:=h9 (.val y) E [] (.val y E hy y1)
   rw [yA e2 ess hh i y D]at N
   rw [E2]at N
   have c7:∀b∈bs,b≠g:=λb f e=>by
    subst e
    exact(List.nodup_append.1 c1).2.2 b (by simp [tM]) b f rfl
   have G:uc (loc id) (.nest ver e 1 (.slice (some ⟨g,0,none⟩) ess.length (c+1)) (a6++bs2)):=by rw [a];exact .held
   have hle:=tO.upd G
   rw [E4]
   refine⟨_,S,upd loc id (.nest ver e 1 (.slice (some ⟨g,0,none⟩) ess.length (c+1)) (a6++bs2)),q,?_,rfl⟩
   refine h.uO (Step.setRow w g _) id _ _ (λb' H=>by cases H;exact⟨_,a,by simp [Loc.has,tM]⟩) ?_ (λb' C=>.inl ⟨_,a,?_⟩) G
   ·refine .nest ver e e2 ess _ _ (xs.set i E) (a6++bs2) a7 ⟨k,c8⟩ r3 (N.j0 (Sub.refl S) hle λb f=>?_) ?_ (λj rv e=>by cases e;exact L)
    ·refine setRow_other w g b _ (c7 b ?_)
     rw [h6]
     rcases List.mem_append.1 f with f|f
     ·exact List.mem_append.2 (.inl f)
     ·exact List.mem_append.2 (.inr (List.mem_append.2 (.inr f)))
    ·refine List.Nodup.sublist ?_ c1
     rw [h6]
     exact List.Sublist.append (List.Sublist.refl _) (List.Sublist.append (List.Sublist.refl _) (List.sublist_append_right _ _))
   ·rcases List.mem_append.1 C with f|f
    ·exact List.mem_append.2 (.inl f)
    ·refine List.mem_append.2 (.inr ?_)
     rw [h6]
     rcases List.mem_append.1 f with f|f
     ·exact List.mem_append.2 (.inl f)
     ·exact List.mem_append.2 (.inr (List.mem_append.2 (.inr f)))
end
end Go.Dw
