
import Derived.Test.YtomapcboiinfdaaGreatDwMem
open List renaming append_assoc->AE, getElem?_append_left->AQ, getElem?_append_right->AR, getElem?_cons_succ->AS, getElem?_cons_zero->AT, getElem?_set_ne->AU, getElem?_set_self->AV, length_cons->AW, length_nil->AX

namespace Go.Dw
theorem wT(v:Value)(h:∀cs,v≠ .agg cs):(oL v).cells=[oL v]∧v.cells= #[v]:=by
 refine⟨?_,?_⟩
 ·unfold oL;split<;>rfl
 ·cases v<;>first|rfl|exact(h _ rfl).elim
theorem py(S:mW)(loc:nB)(v:Value):v.cells.size=(nC v).cells.length∧∀(i:Nat)c u,(nC v).cells[i]? =some c->v.cells[i]? =some u->R S loc c u:=by
 by_cases h:∃cs,v= .agg cs
 ·obtain⟨cs,rfl⟩:=h
  refine⟨by simp [nC,RV.cells,Value.cells],fun i c u h1 a=>?_⟩
  simp only [nC,RV.cells,List.getElem?_map,Array.getElem?_toList]at h1
  simp only [Value.cells]at a
  simp only [a,Option.map_some,Option.some.injEq]at h1
  subst h1
  exact R.oL S loc u
 ·have f:∀cs,v≠ .agg cs:=fun cs e=>h ⟨cs,e⟩
  have he:nC v=oL v:=by
   unfold nC
   split
   ·exact(f _ rfl).elim
   ·rfl
  obtain⟨h1,a⟩:=wT v f
  rw [he,h1,a]
  refine⟨rfl,fun i c u b g=>?_⟩
  cases i with
  |zero=>
   simp at b g
   subst b;subst g
   exact R.oL S loc v
  |succ i=>simp at b
section
variable {P:Program}{X:Ctx}{S:mW}{loc:nB}{s:St}{w:World}
theorem V.pR{p:PD}{v:Value}(h:V S p v)(b:p.one=true):v.oneCell'=true∧v.cells= #[v]:=by
 cases h<;>first|exact⟨rfl,rfl⟩|(simp [PD.one]at b;done)|skip
 rename_i a
 unfold yG at a
 split at a<;>first|exact⟨rfl,rfl⟩|cases a
theorem cells_one{v:Value}(h:v.oneCell'=true):v.cells= #[v]:=by
 cases v<;>first|rfl|(simp [Value.oneCell']at h)
theorem R.pR{rv:RV}{v:Value}(h:R S loc rv v)(e:rv.one=true):v.oneCell'=true∧v.cells= #[v]:=by
 cases h with
 |d h=>exact h.pR e
 |cI=>exact⟨rfl,rfl⟩
 |cptr=>exact⟨rfl,rfl⟩
 |ref id ver _ _ h1=>exact⟨h1,cells_one h1⟩
 |ptr id off _ _ h1=>exact⟨h1,cells_one h1⟩
 |elt a b c d _ _ h1=>exact⟨h1,cells_one h1⟩
 |view a b c d _ _ h1=>exact⟨h1,cells_one h1⟩
 |clo=>exact⟨rfl,rfl⟩
 |fview _ _ _ _ _ h1=>exact⟨h1,cells_one h1⟩
 |err t x=>exact⟨rfl,rfl⟩
 |noerr=>exact⟨rfl,rfl⟩
 |dfull _ _ _=>exact⟨rfl,rfl⟩
 |ifc _ _ _ _=>exact⟨rfl,rfl⟩
 |plit _ _ _ _ _ _ _ _=>exact⟨rfl,rfl⟩
 |pcp _ _ _ _ _ _=>exact⟨rfl,rfl⟩
 |undef=>simp [RV.one]at e
 |junk=>simp [RV.one]at e
 |agg=>simp [RV.one]at e
 |tup=>simp [RV.one]at e
theorem R.sized{rv:RV}{v:Value}(h:R S loc rv v)(l:rv.sized=true):
  v.cells.size=rv.cells.length∧(∀(i:Nat)c u,rv.cells[i]? =some c->v.cells[i]? =some u->R S loc c u)∧∀u∈v.cells,u.oneCell'=true:=by
 have key:∀(cs:List RV)(vs:Array Value),v= .agg vs->vs.size=cs.length->rv.cells=cs->(∀(i:Nat)c u,cs[i]? =some c->vs[i]? =some u->R S loc c u)->
   v.cells.size=rv.cells.length∧(∀(i:Nat)c u,rv.cells[i]? =some c->v.cells[i]? =some u->R S loc c u)∧∀u∈v.cells,u.oneCell'=true:=by
  intro cs vs n j e k
  subst n
  rw [e]
  refine⟨j,k,fun u hu=>?_⟩
  replace hu:u∈vs:=hu
  obtain⟨i,hi,he⟩:=Array.getElem_of_mem hu
  have f:i<cs.length:=by rw [<-j];exact hi
  have h1:=k i cs[i] u (zc f) (by rw [Array.getElem?_eq_getElem hi,he])
  refine(h1.pR ?_).1
  have:=List.all_eq_true.1 l cs[i] (by rw [e];exact List.getElem_mem f)
  exact this
 have single:rv.cells=[rv]->v.cells.size=rv.cells.length∧(∀(i:Nat)c u,rv.cells[i]? =some c->v.cells[i]? =some u->R S loc c u)∧∀u∈v.cells,u.oneCell'=true:=by
  intro e
  have m:rv.one=true:=List.all_eq_true.1 l rv (by rw [e];simp)
  obtain⟨h1,b⟩:=h.pR m
  rw [e,b]
  refine⟨rfl,fun i c u a g=>?_,fun u hu=>?_⟩
  ·cases i with
   |zero=>simp at a g;subst a;subst g;exact h
   |succ i=>simp at a
  ·simp at hu;rw [hu];exact h1
 rcases rv with p|_|_|_|cs|_|_|_|_|_|_|_|_
 case d=>
  cases p with
  |agg cs=>
   obtain⟨vs,h1,b,a⟩:=h.vq
   exact key (cs.map .d) vs h1 (by simpa using b) rfl a
  |_=>exact single rfl
 case agg=>
  obtain⟨vs,h1,b,a⟩:=h.si
  exact key cs vs h1 b rfl a
 all_goals exact single rfl
theorem tV(l:List RV):∀(cs:List RV)(off i:Nat),off+l.length<=cs.length->
  (setCells cs off l)[i]? =if off<=i∧i<off+l.length then l[i-off]? else cs[i]? :=by
 induction l with
 |nil=>intro cs off i _;simp only [setCells,AX];rw [if_neg om]
 |cons v r b=>
  intro cs off i hle
  simp only [AW]at hle⊢
  rw [setCells,b _ _ _ so]
  by_cases h1:off+1<=i∧i<off+1+r.length
  ·rw [if_pos h1,if_pos om]
   obtain⟨k,rfl⟩:∃k,i=off+1+k:=⟨i-(off+1),om⟩
   rw [show off+1+k-(off+1)=k by omega,show off+1+k-off=k+1 by omega,AS]
  ·rw [if_neg h1]
   by_cases a:i=off
   ·subst a
    rw [if_pos om,AV om,Nat.sub_self,AT]
   ·rw [if_neg om,AU om]
theorem pL(l:List RV):∀(cs:List RV)(off:Nat),(setCells cs off l).length=cs.length:=by
 induction l with
 |nil=>intro cs off;rfl
 |cons v r a=>intro cs off;rw [setCells,a];simp
theorem wv(l:List PD):∀(cs:List PD)(off i:Nat),off+l.length<=cs.length->
  (pr cs off l)[i]? =if off<=i∧i<off+l.length then l[i-off]? else cs[i]? :=by
 induction l with
 |nil=>intro cs off i _;simp only [pr,AX];rw [if_neg om]
 |cons v r b=>
  intro cs off i hle
  simp only [AW]at hle⊢
  rw [pr,b _ _ _ so]
  by_cases h1:off+1<=i∧i<off+1+r.length
  ·rw [if_pos h1,if_pos om]
   obtain⟨k,rfl⟩:∃k,i=off+1+k:=⟨i-(off+1),om⟩
   rw [show off+1+k-(off+1)=k by omega,show off+1+k-off=k+1 by omega,AS]
  ·rw [if_neg h1]
   by_cases a:i=off
   ·subst a
    rw [if_pos om,AV om,Nat.sub_self,AT]
   ·rw [if_neg om,AU om]
theorem uu(l:List PD):∀(cs:List PD)(off:Nat),(pr cs off l).length=cs.length:=by
 induction l with
 |nil=>intro cs off;rfl
 |cons v r a=>intro cs off;rw [pr,a];simp
def qA(P:Program)(X:Ctx)(s':St)(o:Oper)(a:Act)(w:World):Prop:=
 ∀(K:Act->World->Prop)(Q:Exit->Act->World->Prop),(∀b w',qt P X s' b w'->K b w')->o.wp P a w K Q
theorem qA.value{s':St}{o:Oper}{a:Act}{w w':World}{v':Value}{v:RV}{S:mW}{loc:nB}(f:a.defers=[])(b:∀d,o.dst=some d->d<X.nt)
  (c:(execOp a.eval o).run P w= .ok (.value v') w') (hS:Sim P X S loc s' a.tmps w') (g:R S loc v v'):qA P X (s'.put o.dst v) o a w:=by
 intro K Q e
 unfold Oper.wp
 rw [c]
 exact e _ _ ⟨by cases o.dst<;>exact f,S,loc,hS.put (a:=a) g o.dst b⟩
theorem qA.skip{s':St}{o:Oper}{a:Act}{w w':World}{S:mW}{loc:nB}(f:a.defers=[])(b:∀d,o.dst=some d->d<X.nt)
  (c:(execOp a.eval o).run P w= .ok .skip w') (hS:Sim P X S loc s' a.tmps w'):qA P X (s'.put o.dst .undef) o a w:=by
 intro K Q e
 unfold Oper.wp
 rw [c]
 exact e _ _ ⟨by cases o.dst<;>exact f,S,loc,hS.put (a:=a) .undef o.dst b⟩
variable {tm:Array Value}
theorem Sim.nu(h:Sim P X S loc s tm w){id:Nat}(b:s.boxes id=none):loc id=none:=by
 cases c:loc id with
 |none=>rfl
 |some L=>
  obtain⟨e,a⟩:=h.dom id L c
  rw [b]at a
  cases a
theorem Sim.newVar(h:Sim P X S loc s tm w){id:Nat}(f:s.boxes id=none)(cs:List RV)(vs:Array Value)(t:TypeId)(k:vs.size=cs.length)
  (l:∀(i:Nat)c u,cs[i]? =some c->vs[i]? =some u->R S loc c u):
  ∃loc',Sim P X S loc' { s with boxes:=upd s.boxes id (.var cs) } tm (w.alloc (.cells vs t))∧R S loc' (.ptr id 0) (.pointer (some ⟨w.heap.size,0,none⟩))∧mZ loc loc':=by
 have e:=h.nu f
 have a:ni (loc id) (.var w.heap.size):=by rw [e];trivial
 refine⟨upd loc id (.var w.heap.size),?_,?_,mZ.upd a⟩
 ·refine h.nH (Step.alloc w _) id _ _ (fun b j=>by cases j) ?_ ?_ a
  ·exact .var cs w.heap.size t vs (heap_alloc_new w _) k (fun i c v h1 g=>(l i c v h1 g).mono (Sub.refl S) (mZ.upd a))
  ·intro b f;cases f;exact .inr (.inl (Nat.le_refl _))
 ·exact .ptr id 0 _ (.var w.heap.size) rfl (mU _ _ _) (fun b=>⟨fun he=>by cases he;rfl,(fun he=>by cases he)⟩)
theorem oc{t:TypeId}{z:Value}(h:n0 P t=some z):∃i,P.info? t=some i∧i.zero=some z:=by
 unfold n0 at h
 cases hi:P.info? t with
 |none=>simp [hi]at h
 |some i=>simp only [hi,zb]at h;exact⟨i,rfl,h⟩
theorem wO(h:Sim P X S loc s tm w){id:Nat}{t:TypeId}{v:RV}{u:Ups}{r:List Nat}(a:tc P id t s.boxes=some ((v,u),r,true)):
  ∃v' w' loc',(Instr.alloc t true (.tuple #[])).run P w= .ok v' w'∧Sim P X S loc' (s.ups u) tm w'∧R S loc' v v':=by
 unfold tc at a
 rcases c:n0 P t with _|z
 ·simp only [c]at a;exact fE s.boxes a
 simp only [c]at a
 obtain⟨_,n,o,h1,e,_⟩:=M.bind_some a
 obtain⟨m,_,_⟩:=M.nJ h1
 obtain⟨f, -, -⟩:=M.mJ e
 cases f
 obtain⟨i,hi,b⟩:=oc c
 obtain⟨g,j⟩:=py S loc z
 obtain⟨loc',k,l,_⟩:=h.newVar m _ z.cells t g j
 refine⟨_,_,loc',?_,k,l⟩
 simp [Instr.alloc,zeroValue,typeInfo,hi,b,newVar,newRow]
theorem yh(h:Sim P X S loc s tm w){id:Nat}{t:TypeId}{x v:RV}{u:Ups}{r:List Nat}{a:Value}(k:boxD id x s.boxes=some ((v,u),r,true))(m:R S loc x a):
  ∃v' w' loc',(Instr.box t a).run P w= .ok v' w'∧Sim P X S loc' (s.ups u) tm w'∧R S loc' v v':=by
 obtain⟨_,n,o,h1,c,_⟩:=M.bind_some k
 obtain⟨j,_,_⟩:=M.nJ h1
 obtain⟨e, -,l⟩:=M.mP c
 cases e
 obtain⟨f,g,b⟩:=m.sized l.symm
 obtain⟨loc',b,i,_⟩:=h.newVar j _ a.cells t f g
 refine⟨_,_,loc',?_,b,i⟩
 simp [Instr.box,newVar,newRow]
theorem pa(P:Program)(g o:Nat)(t:TypeId)(a:Nat×Nat)(m:Nat)(c:∀j,j<m->¬(a.1<=j∧j<a.2)):∀(vs:List Value)(i:Nat)(cur:Array Value)(w:World),cur.size=m->w.heap[g]? =some (.cells cur t a)->o+i+vs.length<=cur.size->(∀v∈vs,v.oneCell'=true)->
  (storeCells ⟨g,o,none⟩ vs i).run P w= .ok () (w.setRow g (cur.toList.take (o+i)++vs++cur.toList.drop (o+i+vs.length)).toArray)
 | [],i,cur,w,_,b,_,_=>by
  rw [List.append_nil,AX,Nat.add_zero,List.take_append_drop,Array.toArray_toList,setRow_self w g cur t a b]
  rfl
 |v::r,i,cur,w,hm,b,q,h1=>by
  rw [AW]at q
  have e:o+i<cur.size:=by omega
  have k:(⟨g,o,none⟩:Addr).add i=⟨g,o+i,none⟩:=by unfold Addr.add;split<;>simp_all
  have l:w.frozen? ⟨g,o+i,none⟩=false:=by
   simp only [World.frozen?,b]
   have:=c (o+i) om
   simpa using this
  have n:(store ((⟨g,o,none⟩:Addr).add i) v).run P w= .ok () (w.setRow g (cur.setIfInBounds (o+i) v)):=by
   rw [k,run_store P w _ v _ (h1 v sm),show w.cell? ⟨g,o+i,none⟩=some cur[o+i]by simp [World.cell?,b,e]]
   simp [l,setCell_eq_setRow w g (o+i) cur t a v b]
  have f:=pa P g o t a m c r (i+1) (cur.setIfInBounds (o+i) v) (w.setRow g (cur.setIfInBounds (o+i) v)) (by simpa using hm) (setRow_heap w g cur _ t a b) so fun u hu=>h1 u (by simp [hu])
  have p:((cur.setIfInBounds (o+i) v).toList.take (o+(i+1))++r++(cur.setIfInBounds (o+i) v).toList.drop (o+(i+1)+r.length))=cur.toList.take (o+i)++(v::r)++cur.toList.drop (o+i+(v::r).length):=by
   have x:cur.toList.length=cur.size:=by simp
   rw [Array.toList_setIfInBounds,AW,show o+(i+1)=o+i+1 by omega,List.take_succ_eq_append_getElem so,List.getElem_set_self,List.take_set_of_le om,List.drop_set_of_lt om]
   simp only [AE,List.cons_append,List.nil_append]
   rw [show o+i+1+r.length=o+i+(r.length+1)by omega]
  rw [p]at f
  simp only [storeCells,Sem.run_bind,n,Result.andThen_ok]
  rw [f,setRow_setRow]
theorem FzOk.free{a:Nat×Nat}{cap sz m:Nat}(h:FzOk a cap sz)(hm:m=cap*sz):∀j,j<m->¬(a.1<=j∧j<a.2):=by
 intro j c
 rcases h with rfl|⟨h1,b⟩
 ·simp
 ·subst b
  omega
theorem pV{t:TypeId}{n:Nat}(f:szT P t=some n){g o:Nat}{cur:Array Value}{ty:TypeId}{a:Nat×Nat}(b:∀j,j<cur.size->¬(a.1<=j∧j<a.2))(e:w.heap[g]? =some (.cells cur ty a)){v:Value}(c:v.cells.size=n)(hle:o+n<=cur.size)
  (h1:∀u∈v.cells,u.oneCell'=true):
  (storeVar t ⟨g,o,none⟩ v).run P w= .ok () (w.setRow g (cur.toList.take o++v.cells.toList++cur.toList.drop (o+n)).toArray):=by
 have:=pa P g o ty a cur.size b v.cells.toList 0 cur w rfl e so (fun u hu=>h1 u (by simpa using hu))
 simp only [storeVar,Sem.run_bind,mV f,Result.andThen_ok,c,ne_eq,not_true_eq_false,if_false]
 simp only [Nat.add_zero,Array.length_toList,c]at this
 simpa using this
theorem ow(cur vs:List Value)(o n i:Nat)(a:vs.length=n)(hle:o+n<=cur.length):(cur.take o++vs++cur.drop (o+n))[i]? =if o<=i∧i<o+n then vs[i-o]? else cur[i]? :=by
 subst a
 by_cases h1:i<o
 ·rw [if_neg om,AE,AQ so,List.getElem?_take,if_pos h1]
 ·by_cases b:i<o+vs.length
  ·rw [if_pos om,AE,AR so,List.length_take,Nat.min_eq_left om,AQ om]
  ·rw [if_neg om,AR so,List.getElem?_drop]
   congr 1
   simp
   omega
end
end Go.Dw
