
import Derived.Test.YtgiepghgloiinaaGreatDoorDwWp
import Derived.OpenShut
import Derived.RowKit3
import Derived.Deep.DeepHandedRow
open List renaming getElem?_append_left->AR, getElem?_append_right->AS, getElem?_cons_zero->AU
open Bool renaming and_eq_true->Ac

namespace Go.Dw
open Go.ChangeShapes Go.WideShapes Go.ChangeAt Go.RowKit
def Sh(P:Program):Nat->TypeId->List PD->Prop
 |0,_,_=>False
 |d+1,t,cs=>
  match P.underlying t with
  |some .bool=>∃b,cs=[.bool b]
  |some (.int k)=>∃n,cs=[.int k n]∧(Lit.int k n).wf=true
  |some .string=>∃s,cs=[.str s]∧s.length<=maxLen
  |some (.slice e)=>∃es,cs=[.lst es]∧es.length<=maxLen∧∀x∈es,(kC P e=true->∃l,x= .agg l)∧(kC P e=false->x.one=true)∧Sh P d e x.cells
  |some (.struct a)=>cs.length=P.cellsOf t∧∀f∈a.toList,Sh P d f.type ((cs.drop f.offset).take (P.cellsOf f.type))
  |some (.array n e)=>cs.length=P.cellsOf t∧∀i,i<n->Sh P d e ((cs.drop (i*P.cellsOf e)).take (P.cellsOf e))
  |_=>False
def ny(P:Program)(rec:TypeId->Bool)(total:Nat):Nat->List Field->Bool
 |off,[]=>off==total
 |off,f::r=>(f.offset==off)&&rec f.type&&ny P rec total (off+P.cellsOf f.type) r
def lp(P:Program):Nat->TypeId->Bool
 |0,_=>false
 |d+1,t=>
  match P.underlying t with
  |some .bool|some (.int _)|some .string=>P.cellsOf t==1
  |some (.slice e)=>(P.cellsOf t==1)&&decide (0<P.cellsOf e)&&lp P d e
  |some (.struct a)=>ny P (lp P d) (P.cellsOf t) 0 a.toList
  |some (.array n e)=>(P.cellsOf t==n*P.cellsOf e)&&lp P d e
  |_=>false
def nE(w:World):kd:=fun a=>match w.cell? a with|some v=>if v.oneCell'=true then some v else none|none=>none
theorem tV{w:World}{a:Addr}{v:Value}(h:nE w a=some v):w.cell? a=some v:=by
 unfold nE at h
 split at h
 ·split at h
  ·cases h;assumption
  ·cases h
 ·cases h
theorem allS_one{w:World}{a:Addr}{v:Value}(h:nE w a=some v):v.oneCell'=true:=by
 unfold nE at h
 split at h
 ·split at h
  ·cases h;assumption
  ·cases h
 ·cases h
theorem xc{w:World}{a:Addr}{v:Value}(h:w.cell? a=some v)(h1:v.oneCell'=true):nE w a=some v:=by simp [nE,h,h1]
structure VC(S:kd)(cs:List PD)(vs:List Value):Prop where
 len:vs.length=cs.length
 at_:∀(i:Nat)c v,cs[i]? =some c->vs[i]? =some v->V S c v
 one:∀v∈vs,v.oneCell'=true
 pone:∀c∈cs,c.one=true
theorem VC.append{S:kd}{cs a:List PD}{vs e:List Value}(h:VC S cs vs)(f:VC S a e):VC S (cs++a) (vs++e):=by
 refine⟨by simp [h.len,f.len],fun i c v h1 g=>?_,fun v b=>?_,fun c hc=>?_⟩
 ·by_cases hi:i<cs.length
  ·rw [AR hi]at h1
   rw [AR (by rw [h.len];exact hi)]at g
   exact h.at_ i c v h1 g
  ·rw [AS om]at h1
   rw [AS (by rw [h.len];omega),h.len]at g
   exact f.at_ _ c v h1 g
 ·rcases List.mem_append.1 b with b|b
  ·exact h.one v b
  ·exact f.one v b
 ·rcases List.mem_append.1 hc with hc|hc
  ·exact h.pone c hc
  ·exact f.pone c hc
theorem VC.nil{S:kd}:VC S [] []:=⟨rfl,sm,sm,sm⟩
theorem VC.sing{S:kd}{c:PD}{v:Value}(h:V S c v)(h1:v.oneCell'=true)(e:c.one=true):VC S [c] [v]:=by
 refine⟨rfl,fun i f v' a b=>?_,by simpa using h1,by simpa using e⟩
 cases i with
 |zero=>simp only [AU,Option.some.injEq]at a b;subst a b;exact h
 |succ i=>simp at a
section
variable {H:Type}{enc:TypeId×Value->H}{P:Program}{w:World}{sp:Nat->Bool}{held:Bool}
theorem Sh.len{d:Nat}{t:TypeId}{cs:List PD}(h:Sh P d t cs)(a:lp P d t=true):cs.length=P.cellsOf t:=by
 cases d with
 |zero=>cases h
 |succ d=>
  unfold Sh at h
  unfold lp at a
  split at h<;>rename_i hu<;>(try simp only [hu]at a)<;>(try exact h.elim)<;>(try simp at a)
  ·obtain⟨b,rfl⟩:=h;simp [a]
  ·obtain⟨b,rfl,_⟩:=h;simp [a]
  ·obtain⟨b,rfl,_⟩:=h;simp [a]
  ·obtain⟨b,rfl,_⟩:=h;simp [a]
  ·exact h.1
  ·exact h.1
end
theorem px{α β:Type}{f g:α->Option β}:∀(l:List α)(r:List β),(∀i∈l,∀y,f i=some y->g i=some y)->l.mapM f=some r->l.mapM g=some r
 | [],r,_,h=>by simpa using h
 |a::l,r,b,h=>by
  rw [List.mapM_cons]at h⊢
  cases hf:f a with
  |none=>simp [hf]at h
  |some y=>
   rw [b a sm y hf]
   cases hm:l.mapM f with
   |none=>simp [hf,hm]at h
   |some ys=>
    rw [px l ys (fun i hi=>b i (by simp [hi])) hm]
    simpa [hf,hm]using h
theorem xd{α β:Type}{o a:Option α}{f g:α->Option β}{y:β}(ho:∀x,o=some x->a=some x)(hf:∀x y,f x=some y->g x=some y)(h:o.bind f=some y):a.bind g=some y:=by
 cases o with
 |none=>simp at h
 |some x=>rw [ho x rfl];exact hf x y h
theorem map_le{α β:Type}{o a:Option α}{f:α->β}{y:β}(ho:∀x,o=some x->a=some x)(h:o.map f=some y):a.map f=some y:=by
 cases o with
 |none=>simp at h
 |some x=>rw [ho x rfl];exact h
section
variable {H:Type}{enc:TypeId×Value->H}{P:Program}{w w':World}{sp:Nat->Bool}{held:Bool}
theorem xe(hf:∀b,b<w.heap.size->w'.heap[b]? =w.heap[b]?){a:Addr}{v:Value}(h:w.cell? a=some v):w'.cell? a=some v:=by
 have hb:a.block<w.heap.size:=by
  unfold World.cell? at h
  by_cases hb:a.block<w.heap.size
  ·exact hb
  ·rw [Array.getElem?_eq_none om]at h;cases h
 unfold World.cell? at h⊢
 rw [hf _ hb];exact h
theorem cells_le(hf:∀b,b<w.heap.size->w'.heap[b]? =w.heap[b]?){base:Nat}{a:Addr}{n:Nat}{r:List Value}(h:w.cells? base a n=some r):w'.cells? base a n=some r:=by
 unfold World.cells? at h⊢
 split at h
 ·rename_i hb
  rw [if_pos hb]
  exact px _ _ (fun i _ y c=>xe hf c) h
 ·cases h
theorem qf{a:Addr}{v:Value}(h:w.cell? a=some v):a.block<w.heap.size:=by
 unfold World.cell? at h
 by_cases hb:a.block<w.heap.size
 ·exact hb
 ·rw [Array.getElem?_eq_none om]at h;cases h
theorem wb{d:Nat}{total:Nat}:∀(l:List Field)(off:Nat),ny P (lp P d) total off l=true->∀f∈l,lp P d f.type=true:=by
 intro l
 induction l with
 |nil=>simp
 |cons g r b=>
  intro off a f hf
  simp only [ny,Ac]at a
  simp only [List.mem_cons]at hf
  rcases hf with rfl|hf
  ·exact a.1.2
  ·exact b _ a.2 f hf
theorem uq(hf:∀b,b<w.heap.size->w'.heap[b]? =w.heap[b]?):∀(d fuel:Nat)(t:TypeId)(cs:List Value)(x:DataW H×List MemPlace),lp P d t=true->
  DataW.trod enc P w 0 (fun _=>true) held fuel t cs=some x->DataW.trod enc P w' 0 (fun b=>decide (b<w.heap.size)) held fuel t cs=some x
 |0,_,_,_,_,c,_=>by simp [lp]at c
 |d+1,0,_,_,_,_,h=>by simp [DataW.trod]at h
 |d+1,fuel+1,t,cs,x,c,h=>by
  have s:=uq hf d fuel
  unfold lp at c
  unfold DataW.trod at h⊢
  revert c h
  generalize P.underlying t=u
  intro c h
  split at h<;>(try exact h)<;>(try(simp only at c;cases c;done))
  ·rename_i e a len cap
   simp only [Ac,beq_iff_eq,decide_eq_true_eq]at c
   simp only at h⊢
   split at h
   ·rename_i hc
    rw [if_pos hc]
    have he:∀i y,(w.cells? 0 (a.add (i*P.cellsOf e)) (P.cellsOf e)).bind (DataW.trod enc P w 0 (fun _=>true) held fuel e)=some y->(w'.cells? 0 (a.add (i*P.cellsOf e)) (P.cellsOf e)).bind (DataW.trod enc P w' 0 (fun b=>decide (b<w.heap.size)) held fuel e)=some y:=
     fun i y j=>xd (fun z g=>cells_le hf g) (fun z y j=>s _ _ _ c.2 j) j
    refine xd (fun y j=>px _ _ (fun i _ z g=>he i z g) j) (fun y z g=>map_le (fun r k=>?_) g) h
    rw [if_pos trivial]at k
    by_cases o:cap-len=0
    ·rw [o]at k⊢
     simp only [List.range_zero,List.mapM_nil]at k⊢
     split
     ·exact k
     ·exact k
    ·have q:a.block<w.heap.size:=by
      have hlen:=mapM_some_length k
      have m:=mapM_some_get k 0 0 (show(List.range (cap-len))[0]? =some 0 by rw [List.getElem?_range om])
      rw [zc (by rw [hlen];simp;omega),Option.bind_eq_some_iff]at m
      obtain⟨l,m,_⟩:=m
      obtain⟨_,h1,B⟩:=World.cells?_some m
      have v:=B 0 om
      rw [zc om]at v
      have:=qf v
      simpa only [block_add]using this
     rw [if_pos (by simpa using q)]
     exact px _ _ (fun i _ z g=>he _ z g) k
   ·cases h
  ·rename_i C
   simp only at c
   split at h
   ·rename_i hc
    rw [if_pos hc]
    exact map_le (fun y j=>px _ _ (fun f p z g=>s _ _ _ (wb _ _ c f p) g) j) h
   ·cases h
  ·rename_i n e
   simp only [Ac,beq_iff_eq]at c
   split at h
   ·rename_i hc
    rw [if_pos hc]
    exact map_le (fun y j=>px _ _ (fun f _ z g=>s _ _ _ c.2 g) j) h
   ·cases h
theorem qC(hf:∀b,b<w.heap.size->w'.heap[b]? =w.heap[b]?)(d:Nat):∀(ts:List TypeId)(vs:List Value)(a:List (DataW H))(e:List MemPlace),ts.all (lp P d)=true->
  DataW.TrodAll enc P w 0 (fun _=>true) held ts vs a e->DataW.TrodAll enc P w' 0 (fun b=>decide (b<w.heap.size)) held ts vs a e
 | [],[],[],_,_,h=>h
 |t::ts,v::vs,i::a,e,c,⟨p,q,⟨fuel,h1⟩,f,g⟩=>by
  simp only [List.all_cons,Ac]at c
  exact⟨p,q,⟨fuel,uq hf d _ _ _ _ c.1 h1⟩,qC hf d ts vs a q c.2 f,g⟩
def ShV(P:Program)(d:Nat)(t:TypeId)(p:PD):Prop:=(kC P t=true->∃l,p= .agg l)∧(kC P t=false->p.one=true)∧Sh P d t p.cells
end
theorem tO{E:Prop}{w w':World}(h:Frame E [] w w')(may:MemPlace->Prop):w.keptBut w' may:=by
 refine⟨h.os,h.output,fun i hi=>?_⟩
 rw [h.block i hi sm]
 cases w.heap[i]? with
 |none=>rfl
 |some o=>cases o<;>simp
def vp(P:Program)(d:Nat):List TypeId->List PD->Prop
 | [],[]=>True
 |t::ts,p::a=>ShV P d t p∧vp P d ts a
 |_,_=>False
def VAll(S:kd):List PD->List Value->Prop
 | [],[]=>True
 |p::a,v::vs=>V S p v∧VAll S a vs
 |_,_=>False
theorem VAll.len{S:kd}:∀{a:List PD}{vs:List Value},VAll S a vs->a.length=vs.length
 | [],[],_=>rfl
 |p::a,v::vs,h=>by simp [VAll.len h.2]
theorem VAll.at_{S:kd}:∀{b:List PD}{vs:List Value},VAll S b vs->∀(i:Nat)p v,b[i]? =some p->vs[i]? =some v->V S p v
 | [],[],_,i,p,v,h,_=>by simp at h
 |p::b,v::vs,h,0,_,_,h1,a=>by simp only [AU,Option.some.injEq]at h1 a;subst h1 a;exact h.1
 |p::b,v::vs,h,i+1,_,_,h1,a=>by simp only [List.getElem?_cons_succ]at h1 a;exact h.2.at_ i _ _ h1 a
section
variable {H:Type}{enc:TypeId×Value->H}{P:Program}{w:World}{sp:Nat->Bool}{held:Bool}
theorem wI{t:TypeId}{v:Value}{r:Reach}{b:Nat}(e:kC P t=false)(a:Value.okWide P w r b t v):v.cells.toList=[v]:=by
 unfold kC at e
 unfold Value.okWide at a
 split at a
 ·rename_i hu;simp [hu]at e
 ·rename_i hu;simp [hu]at e
 ·unfold Cell.okWide at a
  cases v<;>first|rfl|skip
  exfalso
  split at a<;>(try(rename_i h1 c;cases c;done))
  unfold Cell.ok at a
  split at a<;>first|(rename_i h1 c;cases c;done)|exact a
theorem law_post{f:Func}{s:ChangeSpec}{W i:World}{args:Array Value}{a gs:List (DataW H)}{before:List MemPlace}{d:Nat}{tb:TypeId}(o:DataW.Whole enc P f.params.toList s.vars false W args.toList a gs before)
  (u:f.params.toList.all (lp P d)=true) (c:s.vars=[]) (y:∀a:List (DataW H),a.length=f.params.size->s.fn H a={ results:=[.lit (.bool true)],args:=a }) (x:f.resultTypes= #[tb]) (hb:P.underlying tb=some .bool)
  {E:Prop} (g:Frame E [] W i):s.post enc P f false true false false W args (.bool true) i:=by
 have j:=o
 obtain⟨p,q,n,hV,rfl,D,C⟩:=o
 rw [c]at hV
 obtain⟨rfl,rfl⟩:=trodVars_none hV
 have hlen:∀(ts:List TypeId)(vs:List Value)(a:List (DataW H))(m:List MemPlace),DataW.TrodAll enc P W 0 (fun _=>true) true ts vs a m->a.length=ts.length:=by
  intro ts
  induction ts with
  |nil=>intro vs a m h;cases vs<;>cases a<;>first|rfl|cases h
  |cons t ts z=>
   intro vs a m h
   match vs,a,h with
   |v::vs,B::a,⟨_,_,_,r,_⟩=>simp [z _ _ _ r]
 have l:=hlen _ _ _ _ n
 have e:=y (a++[]) (by simpa using l)
 have k:∀b,b<W.heap.size->i.heap[b]? =W.heap[b]? :=fun b hb=>g.block b hb sm
 refine⟨a,[],p++[],[],p,[],j,?_,?_,?_,tO g _,fun h=>by cases h⟩
 ·rw [e,x]
  exact trodAll_cons_mk (shut_bool hb _) trodAll_mk0
 ·rw [e]
  simp only [List.append_nil]
  exact qC k d _ _ _ _ u n
 ·rw [e,c]
  exact rfl
end
theorem od{p:PD}(h:p.one=true):p.cells=[p]:=by cases p<;>first|rfl|(cases h)
section
variable {P:Program}{d:Nat}{t:TypeId}
theorem ShV.int{k:IntKind}{p:PD}(hu:P.underlying t=some (.int k))(h:ShV P d t p):∃n,p= .int k n∧(Lit.int k n).wf=true:=by
 obtain⟨_,h1,a⟩:=h
 rw [od (h1 (by simp [kC,hu]))]at a
 cases d with
 |zero=>cases a
 |succ d=>
  unfold Sh at a
  simp only [hu]at a
  obtain⟨n,b,c⟩:=a
  simp only [List.cons.injEq,and_true]at b
  exact⟨n,b,c⟩
theorem ShV.bool{p:PD}(hu:P.underlying t=some .bool)(h:ShV P d t p):∃b,p= .bool b:=by
 obtain⟨_,h1,a⟩:=h
 rw [od (h1 (by simp [kC,hu]))]at a
 cases d with
 |zero=>cases a
 |succ d=>
  unfold Sh at a
  simp only [hu]at a
  obtain⟨n,c⟩:=a
  simp only [List.cons.injEq,and_true]at c
  exact⟨n,c⟩
theorem ShV.str{p:PD}(hu:P.underlying t=some .string)(h:ShV P d t p):∃s,p= .str s∧s.length<=maxLen:=by
 obtain⟨_,h1,a⟩:=h
 rw [od (h1 (by simp [kC,hu]))]at a
 cases d with
 |zero=>cases a
 |succ d=>
  unfold Sh at a
  simp only [hu]at a
  obtain⟨n,b,c⟩:=a
  simp only [List.cons.injEq,and_true]at b
  exact⟨n,b,c⟩
theorem ShV.lst{α:Type}{e:TypeId}{g:α->PD}{Q:α->Prop}{p:PD}(hu:P.underlying t=some (.slice e))(h:ShV P (d+1) t p)(m:∀x,ShV P d e x->∃a,x=g a∧Q a):
  ∃l:List α,p= .lst (l.map g)∧l.length<=maxLen∧∀a∈l,Q a:=by
 obtain⟨_,h1,b⟩:=h
 rw [od (h1 (by simp [kC,hu]))]at b
 unfold Sh at b
 simp only [hu]at b
 obtain⟨es,c,i,j⟩:=b
 simp only [List.cons.injEq,and_true]at c
 subst c
 have each:∀x∈es,∃a,x=g a∧Q a:=fun x hm=>m x (j x hm)
 have key:∀es:List PD,(∀x∈es,∃a,x=g a∧Q a)->∃l:List α,es=l.map g∧∀a∈l,Q a:=by
  intro es
  induction es with
  |nil=>exact fun _=>⟨[],rfl,sm⟩
  |cons x es o=>
   intro f
   obtain⟨a,rfl,k⟩:=f x sm
   obtain⟨l,rfl,hl⟩:=o fun y n=>f y (by simp [n])
   exact⟨a::l,rfl,by simpa using⟨k,hl⟩⟩
 obtain⟨l,rfl,hl⟩:=key es each
 exact⟨l,rfl,by simpa using i,hl⟩
theorem ShV.ints{e:TypeId}{k:IntKind}{p:PD}(hu:P.underlying t=some (.slice e))(he:P.underlying e=some (.int k))(h:ShV P (d+1) t p):
  ∃l:List Int,p= .lst (l.map (.int k))∧l.length<=maxLen∧∀n∈l,(Lit.int k n).wf=true:=ShV.lst hu h fun _ a=>ShV.int he a
end
end Go.Dw
