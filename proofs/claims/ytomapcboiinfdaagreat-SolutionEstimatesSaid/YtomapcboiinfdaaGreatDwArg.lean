
import Derived.Test.YtomapcboiinfdaaGreatDwWp
import Derived.OpenShut
import Derived.RowKit3
import Derived.Deep.DeepHandedRow
set_option linter.unusedVariables false
set_option linter.unusedSimpArgs false
open List renaming all_cons->CB, drop_drop->CC, drop_left'->CD, drop_zero->CE, getElem?_append_left->AQ, getElem?_append_right->AR, getElem?_cons_zero->AT, getElem?_of_mem->Aq, length_drop->Ar, length_take->As, mem_cons->Bx, range->AI
open Bool renaming and_eq_true->A5
open Nat renaming le_refl->AB, mul_le_mul_right->A3, succ_mul->CF

namespace Go.Dw
open Go.ChangeShapes Go.WideShapes Go.ChangeAt Go.RowKit
def Sh(P:Program):Nat->TypeId->List PD->Prop
 |0,_,_=>False
 |d+1,t,cs=>
  match P.underlying t with
  |some .bool=>∃b,cs=[.bool b]
  |some (.int k)=>∃n,cs=[.int k n]∧(Lit.int k n).wf=true
  |some .string=>∃s,cs=[.str s]∧s.length<=maxLen
  |some (.slice e)=>∃es,cs=[.lst es]∧es.length<=maxLen∧∀x∈es,(nv P e=true->∃l,x= .agg l)∧(nv P e=false->x.one=true)∧Sh P d e x.cells
  |some (.struct a)=>cs.length=P.cellsOf t∧∀f∈a.toList,Sh P d f.type ((cs.drop f.offset).take (P.cellsOf f.type))
  |some (.array n e)=>cs.length=P.cellsOf t∧∀i,i<n->Sh P d e ((cs.drop (i*P.cellsOf e)).take (P.cellsOf e))
  |_=>False
def pT(P:Program)(rec:TypeId->Bool)(total:Nat):Nat->List Field->Bool
 |off,[]=>off==total
 |off,f::r=>(f.offset==off)&&rec f.type&&pT P rec total (off+P.cellsOf f.type) r
def nS(P:Program):Nat->TypeId->Bool
 |0,_=>false
 |d+1,t=>
  match P.underlying t with
  |some .bool|some (.int _)|some .string=>P.cellsOf t==1
  |some (.slice e)=>(P.cellsOf t==1)&&decide (0<P.cellsOf e)&&nS P d e
  |some (.struct a)=>pT P (nS P d) (P.cellsOf t) 0 a.toList
  |some (.array n e)=>(P.cellsOf t==n*P.cellsOf e)&&nS P d e
  |_=>false
def p7(w:World):mW:=fun a=>match w.cell? a with|some v=>if v.oneCell'=true then some v else none|none=>none
theorem wz{w:World}{a:Addr}{v:Value}(h:p7 w a=some v):w.cell? a=some v:=by
 unfold p7 at h
 split at h
 ·split at h
  ·cases h;assumption
  ·cases h
 ·cases h
theorem allS_one{w:World}{a:Addr}{v:Value}(h:p7 w a=some v):v.oneCell'=true:=by
 unfold p7 at h
 split at h
 ·split at h
  ·cases h;assumption
  ·cases h
 ·cases h
theorem yR{w:World}{a:Addr}{v:Value}(h:w.cell? a=some v)(h1:v.oneCell'=true):p7 w a=some v:=by simp [p7,h,h1]
structure VC(S:mW)(cs:List PD)(vs:List Value):Prop where
 len:vs.length=cs.length
 at_:∀(i:Nat)c v,cs[i]? =some c->vs[i]? =some v->V S c v
 one:∀v∈vs,v.oneCell'=true
 pone:∀c∈cs,c.one=true
theorem VC.append{S:mW}{cs a:List PD}{vs f:List Value}(h:VC S cs vs)(g:VC S a f):VC S (cs++a) (vs++f):=by
 refine⟨by simp [h.len,g.len],fun i c v h1 j=>?_,fun v e=>?_,fun c b=>?_⟩
 ·by_cases hi:i<cs.length
  ·rw [AQ hi]at h1
   rw [AQ (by rw [h.len];exact hi)]at j
   exact h.at_ i c v h1 j
  ·rw [AR om]at h1
   rw [AR (by rw [h.len];omega),h.len]at j
   exact g.at_ _ c v h1 j
 ·rcases List.mem_append.1 e with e|e
  ·exact h.one v e
  ·exact g.one v e
 ·rcases List.mem_append.1 b with b|b
  ·exact h.pone c b
  ·exact g.pone c b
theorem VC.nil{S:mW}:VC S [] []:=⟨rfl,sm,sm,sm⟩
theorem VC.sing{S:mW}{c:PD}{v:Value}(h:V S c v)(h1:v.oneCell'=true)(e:c.one=true):VC S [c] [v]:=by
 refine⟨rfl,fun i f v' a b=>?_,by simpa using h1,by simpa using e⟩
 cases i with
 |zero=>simp only [AT,Option.some.injEq]at a b;subst a b;exact h
 |succ i=>simp at a
section
variable {H:Type}{enc:TypeId×Value->H}{P:Program}{w:World}{sp:Nat->Bool}{held:Bool}
theorem Sh.len{d:Nat}{t:TypeId}{cs:List PD}(h:Sh P d t cs)(a:nS P d t=true):cs.length=P.cellsOf t:=by
 cases d with
 |zero=>cases h
 |succ d=>
  unfold Sh at h
  unfold nS at a
  split at h<;>rename_i hu<;>(try simp only [hu]at a)<;>(try exact h.elim)<;>(try simp at a)
  ·obtain⟨b,rfl⟩:=h;simp [a]
  ·obtain⟨b,rfl,_⟩:=h;simp [a]
  ·obtain⟨b,rfl,_⟩:=h;simp [a]
  ·obtain⟨b,rfl,_⟩:=h;simp [a]
  ·exact h.1
  ·exact h.1
theorem wG{d:Nat}{vs:List Value}{total:Nat}(o:vs.length=total):∀(j:List Field)(off:Nat),pT P (nS P d) total off j=true->off<=total->
  (∀f∈j,∃cs,Sh P d f.type cs∧VC (p7 w) cs ((vs.drop f.offset).take (P.cellsOf f.type)))->
  ∃cs,VC (p7 w) cs (vs.drop off)∧∀f∈j,off<=f.offset∧Sh P d f.type ((cs.drop (f.offset-off)).take (P.cellsOf f.type))
 | [],off,c,_,_=>by
  simp only [pT,beq_iff_eq]at c
  exact⟨[],by rw [List.drop_eq_nil_of_le om];exact VC.nil,sm⟩
 |f::r,off,c,x,hf=>by
  simp only [pT,A5,beq_iff_eq]at c
  obtain⟨⟨b,k⟩,v⟩:=c
  obtain⟨cs,q,s⟩:=hf f sm
  have p:=q.len k
  have n:((vs.drop f.offset).take (P.cellsOf f.type)).length=P.cellsOf f.type:=by rw [s.len,p]
  simp only [As,Ar]at n
  obtain⟨i,m,l⟩:=wG o r (off+P.cellsOf f.type) v om fun g a=>hf g (by simp [a])
  subst b
  refine⟨cs++i,?_,?_⟩
  ·have e:vs.drop f.offset=(vs.drop f.offset).take (P.cellsOf f.type)++vs.drop (f.offset+P.cellsOf f.type):=by
    rw [<-CC,List.take_append_drop]
   rw [e]
   exact s.append m
  ·intro g a
   simp only [Bx]at a
   rcases a with rfl|a
   ·refine⟨AB _,?_⟩
    rw [Nat.sub_self,CE, <-p,List.take_left']
    ·exact q
    ·rfl
   ·obtain⟨h1,u⟩:=l g a
    refine⟨om,?_⟩
    have e:g.offset-f.offset=cs.length+(g.offset-(f.offset+P.cellsOf f.type)):=by omega
    rw [e, <-CC,CD]
    ·exact u
    ·rfl
theorem elems_sh{d:Nat}{e:TypeId}{vs:List Value}(n:Nat)(l:nS P d e=true)(p:vs.length=n*P.cellsOf e)
  (hf:∀i,i<n->∃cs,Sh P d e cs∧VC (p7 w) cs ((vs.drop (i*P.cellsOf e)).take (P.cellsOf e))):
  ∀m,m<=n->∃cs,VC (p7 w) cs (vs.take (m*P.cellsOf e))∧∀i,i<m->Sh P d e ((cs.drop (i*P.cellsOf e)).take (P.cellsOf e)):=by
 intro m
 induction m with
 |zero=>intro _;exact⟨[],by simpa using VC.nil,fun i hi=>om⟩
 |succ m q=>
  intro hm
  obtain⟨cs,j,o⟩:=q om
  obtain⟨c,b,g⟩:=hf m om
  have f:=b.len l
  have hle:(m+1)*P.cellsOf e<=n*P.cellsOf e:=A3 _ hm
  rw [CF]at hle
  have k:cs.length=m*P.cellsOf e:=by rw [<-j.len,As];omega
  refine⟨cs++c,?_,fun i hi=>?_⟩
  ·rw [CF,List.take_add]
   exact j.append g
  ·by_cases a:i<m
   ·have h1:(i+1)*P.cellsOf e<=m*P.cellsOf e:=A3 _ a
    rw [CF]at h1
    have:=o i a
    rw [List.drop_append_of_le_length om,List.take_append_of_le_length (by rw [Ar];omega)]
    exact this
   ·obtain rfl:i=m:=by omega
    rw [<-k,CD rfl, <-f,List.take_length]
    exact b
theorem uY:∀(d fuel:Nat)(t:TypeId)(vs:List Value)(x:DataW H×List MemPlace),DataW.trod enc P w 0 sp held fuel t vs=some x->nS P d t=true->
  ∃cs,Sh P d t cs∧VC (p7 w) cs vs
 |0,_,_,_,_,_,D=>by simp [nS]at D
 |d+1,fuel,t,vs,x,h,D=>by
  unfold nS at D
  split at D<;>rename_i hu
  ·obtain⟨b,rfl,_⟩:=DataW.trod_bool hu h
   exact⟨[.bool b],by unfold Sh;simp only [hu];exact⟨b,rfl⟩,VC.sing (.bool b) rfl rfl⟩
  ·obtain⟨n,rfl,_,hw⟩:=DataW.trod_int hu h
   exact⟨[.int _ n],by unfold Sh;simp only [hu];exact⟨n,rfl,hw⟩,VC.sing (.int _ n) rfl rfl⟩
  ·obtain⟨s,rfl,_,u⟩:=DataW.trod_string hu h
   exact⟨[.str s.data.toList],by unfold Sh;simp only [hu];exact⟨_,rfl,by simpa using u⟩,VC.sing (.str s.data.toList) rfl rfl⟩
  ·rename_i e
   simp only [A5,beq_iff_eq,decide_eq_true_eq]at D
   obtain⟨⟨_,b4⟩,a9⟩:=D
   rcases DataW.trod_slice hu h with⟨rfl,_⟩|⟨a,len,cap,elems,rest,n,_,rfl,_,_,O,hm,hlen,a7,_,_⟩
   ·exact⟨[.lst []],by unfold Sh;simp only [hu];exact⟨[],rfl,sm,sm⟩,VC.sing (.nil none 0) rfl rfl⟩
   ·have each:∀i,i<len->∃(y:PD)(p:List Value),Sh P d e y.cells∧(nv P e=true->∃l,y= .agg l)∧(nv P e=false->y.one=true)∧VC (p7 w) y.cells p∧p.length=P.cellsOf e∧∀j v,p[j]? =some v->p7 w ((a.add (i*P.cellsOf e)).add j)=some v:=by
     intro i hi
     have h1:=a7 i hi
     rw [zc om,Option.bind_eq_some_iff]at h1
     obtain⟨p,hc,ht⟩:=h1
     obtain⟨_,a6,L⟩:=World.cells?_some hc
     obtain⟨cs,u,E⟩:=uY d n e p _ ht a9
     have I:∀j v,p[j]? =some v->p7 w ((a.add (i*P.cellsOf e)).add j)=some v:=fun j v hj=>by
      have b6:=(List.getElem?_eq_some_iff.1 hj).1
      exact yR (by rw [L j om,hj]) (E.one v (List.mem_of_getElem? hj))
     cases F:nv P e with
     |true=>exact⟨.agg cs,p,u,fun _=>⟨cs,rfl⟩,sm,E,a6,I⟩
     |false=>
      have Q:cs.length=1:=by
       unfold nv at F
       cases d with
       |zero=>cases u
       |succ d=>
        unfold Sh at u
        split at u<;>rename_i b2<;>(try simp only [b2]at F)<;>first
         |exact u.elim
         |(obtain⟨_,rfl⟩:=u;rfl)
         |(obtain⟨_,rfl,_⟩:=u;rfl)
         |cases F
         |cases u
      obtain⟨c,rfl⟩:=List.length_eq_one_iff.1 Q
      have J:=E.pone c sm
      have a5:c.cells=[c]:=by cases c<;>first|rfl|(cases J)
      exact⟨c,p,by rw [a5];exact u,sm,fun _=>J,by rw [a5];exact E,a6,I⟩
    let g:Nat->PD:=fun i=>if hi:i<len then(each i hi).choose else default
    have gs:∀i,i<len->∃p,Sh P d e (g i).cells∧(nv P e=true->∃l,g i= .agg l)∧(nv P e=false->(g i).one=true)∧VC (p7 w) (g i).cells p∧p.length=P.cellsOf e∧∀j v,p[j]? =some v->p7 w ((a.add (i*P.cellsOf e)).add j)=some v:=by
     intro i hi
     have:=(each i hi).choose_spec
     simp only [g,hi,dif_pos]
     exact this
    have C:∀(i:Nat)y,((AI len).map g)[i]? =some y->i<len∧y=g i:=by
     intro i y T
     have hi:i<len:=by have:=(List.getElem?_eq_some_iff.1 T).1;simpa using this
     refine⟨hi,?_⟩
     simp [hi]at T
     exact T.symm
    refine⟨[.lst ((AI len).map g)],?_,VC.sing ?_ rfl rfl⟩
    ·unfold Sh
     simp only [hu]
     refine⟨_,rfl,so,fun y T=>?_⟩
     obtain⟨i,hi⟩:=Aq T
     obtain⟨q,rfl⟩:=C i y hi
     obtain⟨p,h1,W,h3,_⟩:=gs i q
     exact⟨W,h3,h1⟩
    ·by_cases a8:len=0
     ·subst a8;exact .nil _ _
     ·have G:a.spot=none:=by
       obtain⟨p,_,_,_,_,h5,h6⟩:=gs 0 om
       have K:=h6 0 (p[0]'om) sm
       have Y:=wz K
       simp only [Nat.zero_mul,Addr.add,if_true]at Y
       unfold World.cell? at Y
       split at Y
       ·split at Y
        ·cases Y
        ·rename_i u;cases b1:a.spot with
         |none=>rfl
         |some z=>simp [b1]at u
       ·cases Y
      obtain⟨ab,ao,as_⟩:=a
      simp only at G
      subst G
      have B:∀o k,(⟨ab,o,none⟩:Addr).add k=⟨ab,o+k,none⟩:=fun o k=>by
       unfold Addr.add
       split
       ·rename_i hk;subst hk;rfl
       ·rfl
      have hV:=V.lst (S:=p7 w) ((AI len).map g) ab ao cap (P.cellsOf e) (fun i j=>((p7 w ⟨ab,ao+i*P.cellsOf e+j,none⟩).getD default)) so
       (fun y T => by
        obtain⟨i,hi⟩:=Aq T
        obtain⟨q,rfl⟩:=C i y hi
        obtain⟨p,_,_,_,X,h5,_⟩:=gs i q
        rw [<-X.len,h5])
       (fun i y j z h1 W => by
        obtain⟨q,rfl⟩:=C i y h1
        obtain⟨p,_,_,_,X,h5,h6⟩:=gs i q
        have hj:j<p.length:=by rw [X.len];exact(List.getElem?_eq_some_iff.1 W).1
        have K:=h6 j p[j] sm
        rw [B,B]at K
        rw [K];rfl)
       (fun i y j z h1 W => by
        obtain⟨q,rfl⟩:=C i y h1
        obtain⟨p,_,_,_,X,h5,h6⟩:=gs i q
        have hj:j<p.length:=by rw [X.len];exact(List.getElem?_eq_some_iff.1 W).1
        have K:=h6 j p[j] sm
        rw [B,B]at K
        rw [K]
        exact X.at_ j z p[j] W sm)
      simpa using hV
  ·rename_i fs
   obtain⟨xs,n,_,_,O,b3,N⟩:=DataW.trod_struct hu h
   obtain ⟨cs, E, u⟩ := wG (w := w) (d := d) (vs := vs) O fs.toList 0 D om (fun f hf => by
    obtain⟨i,hi⟩:=Aq hf
    have q:fs[i]? =some f:=by simpa using hi
    have h1:=N i f q
    have b5:i<fs.size:=(Array.getElem?_eq_some_iff.1 q).1
    rw [zc om]at h1
    have b0:nS P d f.type=true:=by
     have aux:∀(l:List Field)(off:Nat),pT P (nS P d) (P.cellsOf t) off l=true->∀f∈l,nS P d f.type=true:=by
      intro l
      induction l with
      |nil=>simp
      |cons g r ih=>
       intro off hh f hf
       simp only [pT,A5]at hh
       simp only [Bx]at hf
       rcases hf with rfl|hf
       ·exact hh.1.2
       ·exact ih _ hh.2 f hf
     exact aux _ _ D f hf
    exact uY d n f.type _ _ h1 b0)
   rw [CE]at E
   refine⟨cs,?_,E⟩
   unfold Sh
   simp only [hu]
   exact⟨by rw [<-E.len];exact O,fun f hf=>by have:=(u f hf).2;rwa [Nat.sub_zero]at this⟩
  ·rename_i n e
   simp only [A5,beq_iff_eq]at D
   obtain⟨xs,m,_,_,O,b3,N⟩:=DataW.trod_array hu h
   obtain ⟨cs, E, u⟩ := elems_sh (w := w) (vs := vs) n D.2 (by rw [O, D.1]) (fun i hi => by
    have h1:=N i hi
    rw [zc om]at h1
    exact uY d m e _ _ h1 D.2) n (AB _)
   rw [List.take_of_length_le (by rw [O,D.1];omega)]at E
   refine⟨cs,?_,E⟩
   unfold Sh
   simp only [hu]
   exact⟨by rw [<-E.len];exact O,u⟩
  ·cases D
end
theorem mapM_le{α β:Type}{f g:α->Option β}:∀(l:List α)(r:List β),(∀i∈l,∀y,f i=some y->g i=some y)->l.mapM f=some r->l.mapM g=some r
 | [],r,_,h=>by simpa using h
 |a::l,r,b,h=>by
  rw [List.mapM_cons]at h⊢
  cases hf:f a with
  |none=>simp [hf]at h
  |some y=>
   rw [b a sm y hf]
   cases hm:l.mapM f with
   |none=>simp [hf,hm]at h
   |some c=>
    rw [mapM_le l c (fun i hi=>b i (by simp [hi])) hm]
    simpa [hf,hm]using h
theorem yT{α β:Type}{o a:Option α}{f g:α->Option β}{y:β}(b:∀x,o=some x->a=some x)(hf:∀x y,f x=some y->g x=some y)(h:o.bind f=some y):a.bind g=some y:=by
 cases o with
 |none=>simp at h
 |some x=>rw [b x rfl];exact hf x y h
theorem map_le{α β:Type}{o a:Option α}{f:α->β}{y:β}(b:∀x,o=some x->a=some x)(h:o.map f=some y):a.map f=some y:=by
 cases o with
 |none=>simp at h
 |some x=>rw [b x rfl];exact h
section
variable {H:Type}{enc:TypeId×Value->H}{P:Program}{w w':World}{sp:Nat->Bool}{held:Bool}
theorem cell_le(hf:∀b,b<w.heap.size->w'.heap[b]? =w.heap[b]?){a:Addr}{v:Value}(h:w.cell? a=some v):w'.cell? a=some v:=by
 have c:a.block<w.heap.size:=by
  unfold World.cell? at h
  by_cases c:a.block<w.heap.size
  ·exact c
  ·rw [Array.getElem?_eq_none om]at h;cases h
 unfold World.cell? at h⊢
 rw [hf _ c];exact h
theorem cells_le(hf:∀b,b<w.heap.size->w'.heap[b]? =w.heap[b]?){base:Nat}{a:Addr}{n:Nat}{r:List Value}(h:w.cells? base a n=some r):w'.cells? base a n=some r:=by
 unfold World.cells? at h⊢
 split at h
 ·rename_i c
  rw [if_pos c]
  exact mapM_le _ _ (fun i _ y e=>cell_le hf e) h
 ·cases h
theorem uU{a:Addr}{v:Value}(h:w.cell? a=some v):a.block<w.heap.size:=by
 unfold World.cell? at h
 by_cases b:a.block<w.heap.size
 ·exact b
 ·rw [Array.getElem?_eq_none om]at h;cases h
theorem xT{d:Nat}{total:Nat}:∀(l:List Field)(off:Nat),pT P (nS P d) total off l=true->∀f∈l,nS P d f.type=true:=by
 intro l
 induction l with
 |nil=>simp
 |cons g r b=>
  intro off a f hf
  simp only [pT,A5]at a
  simp only [Bx]at hf
  rcases hf with rfl|hf
  ·exact a.1.2
  ·exact b _ a.2 f hf
theorem wL(hf:∀b,b<w.heap.size->w'.heap[b]? =w.heap[b]?):∀(d fuel:Nat)(t:TypeId)(cs:List Value)(x:DataW H×List MemPlace),nS P d t=true->
  DataW.trod enc P w 0 (fun _=>true) held fuel t cs=some x->DataW.trod enc P w' 0 (fun b=>decide (b<w.heap.size)) held fuel t cs=some x
 |0,_,_,_,_,c,_=>by simp [nS]at c
 |d+1,0,_,_,_,_,h=>by simp [DataW.trod]at h
 |d+1,fuel+1,t,cs,x,c,h=>by
  have v:=wL hf d fuel
  unfold nS at c
  unfold DataW.trod at h⊢
  revert c h
  generalize P.underlying t=u
  intro c h
  split at h<;>(try exact h)<;>(try(simp only at c;cases c;done))
  ·rename_i e a len cap
   simp only [A5,beq_iff_eq,decide_eq_true_eq]at c
   simp only at h⊢
   split at h
   ·rename_i m
    rw [if_pos m]
    have he:∀i y,(w.cells? 0 (a.add (i*P.cellsOf e)) (P.cellsOf e)).bind (DataW.trod enc P w 0 (fun _=>true) held fuel e)=some y->(w'.cells? 0 (a.add (i*P.cellsOf e)) (P.cellsOf e)).bind (DataW.trod enc P w' 0 (fun b=>decide (b<w.heap.size)) held fuel e)=some y:=
     fun i y j=>yT (fun z g=>cells_le hf g) (fun z y j=>v _ _ _ c.2 j) j
    refine yT (fun y j=>mapM_le _ _ (fun i _ z g=>he i z g) j) (fun y z g=>map_le (fun r k=>?_) g) h
    rw [if_pos trivial]at k
    by_cases p:cap-len=0
    ·rw [p]at k⊢
     simp only [List.range_zero,List.mapM_nil]at k⊢
     split
     ·exact k
     ·exact k
    ·have s:a.block<w.heap.size:=by
      have hlen:=mapM_some_length k
      have o:=mapM_some_get k 0 0 (show(AI (cap-len))[0]? =some 0 by rw [List.getElem?_range om])
      rw [zc (by rw [hlen];simp;omega),Option.bind_eq_some_iff]at o
      obtain⟨l,o,_⟩:=o
      obtain⟨_,h1,C⟩:=World.cells?_some o
      have B:=C 0 om
      rw [zc om]at B
      have:=uU B
      simpa only [block_add]using this
     rw [if_pos (by simpa using s)]
     exact mapM_le _ _ (fun i _ z g=>he _ z g) k
   ·cases h
  ·rename_i D
   simp only at c
   split at h
   ·rename_i m
    rw [if_pos m]
    exact map_le (fun y j=>mapM_le _ _ (fun f q z g=>v _ _ _ (xT _ _ c f q) g) j) h
   ·cases h
  ·rename_i n e
   simp only [A5,beq_iff_eq]at c
   split at h
   ·rename_i m
    rw [if_pos m]
    exact map_le (fun y j=>mapM_le _ _ (fun f _ z g=>v _ _ _ c.2 g) j) h
   ·cases h
theorem tY(hf:∀b,b<w.heap.size->w'.heap[b]? =w.heap[b]?)(d:Nat):∀(ts:List TypeId)(vs:List Value)(a:List (DataW H))(e:List MemPlace),ts.all (nS P d)=true->
  DataW.TrodAll enc P w 0 (fun _=>true) held ts vs a e->DataW.TrodAll enc P w' 0 (fun b=>decide (b<w.heap.size)) held ts vs a e
 | [],[],[],_,_,h=>h
 |t::ts,v::vs,i::a,e,c,⟨p,q,⟨fuel,h1⟩,f,g⟩=>by
  simp only [CB,A5]at c
  exact⟨p,q,⟨fuel,wL hf d _ _ _ _ c.1 h1⟩,tY hf d ts vs a q c.2 f,g⟩
def ShV(P:Program)(d:Nat)(t:TypeId)(p:PD):Prop:=(nv P t=true->∃l,p= .agg l)∧(nv P t=false->p.one=true)∧Sh P d t p.cells
end
theorem wm{E:Prop}{w w':World}(h:Frame E [] w w')(may:MemPlace->Prop):w.keptBut w' may:=by
 refine⟨h.os,h.output,fun i hi=>?_⟩
 rw [h.block i hi sm]
 cases w.heap[i]? with
 |none=>rfl
 |some o=>cases o<;>simp
def xj(P:Program)(d:Nat):List TypeId->List PD->Prop
 | [],[]=>True
 |t::ts,p::a=>ShV P d t p∧xj P d ts a
 |_,_=>False
def VAll(S:mW):List PD->List Value->Prop
 | [],[]=>True
 |p::a,v::vs=>V S p v∧VAll S a vs
 |_,_=>False
theorem VAll.len{S:mW}:∀{a:List PD}{vs:List Value},VAll S a vs->a.length=vs.length
 | [],[],_=>rfl
 |p::a,v::vs,h=>by simp [VAll.len h.2]
theorem VAll.at_{S:mW}:∀{b:List PD}{vs:List Value},VAll S b vs->∀(i:Nat)p v,b[i]? =some p->vs[i]? =some v->V S p v
 | [],[],_,i,p,v,h,_=>by simp at h
 |p::b,v::vs,h,0,_,_,h1,a=>by simp only [AT,Option.some.injEq]at h1 a;subst h1 a;exact h.1
 |p::b,v::vs,h,i+1,_,_,h1,a=>by simp only [List.getElem?_cons_succ]at h1 a;exact h.2.at_ i _ _ h1 a
section
variable {H:Type}{enc:TypeId×Value->H}{P:Program}{w:World}{sp:Nat->Bool}{held:Bool}
theorem yl{t:TypeId}{v:Value}{r:Reach}{b:Nat}(e:nv P t=false)(a:Value.okWide P w r b t v):v.cells.toList=[v]:=by
 unfold nv at e
 unfold Value.okWide at a
 split at a
 ·rename_i hu;simp [hu]at e
 ·rename_i hu;simp [hu]at e
 ·unfold Cell.okWide at a
  cases v<;>first|rfl|skip
  exfalso
  split at a<;>(try(rename_i h1 c;cases c;done))
  unfold Cell.ok at a
  split at a<;>first|(rename_i h1 c;cases c;done)|exact a
theorem arg_sh{d:Nat}{t:TypeId}{v:Value}{n:DataW H}{x:List MemPlace}{r:Reach}{b:Nat}(s:nS P d t=true)(j:Value.okWide P w r b t v)(h:DataW.Trod enc P w 0 sp held t v n x):
  ∃p,V (p7 w) p v∧ShV P d t p:=by
 obtain⟨fuel,h⟩:=h
 obtain⟨cs,m,f⟩:=uY d fuel t _ _ h s
 cases e:nv P t with
 |true=>
  refine⟨.agg cs,?_,fun _=>⟨cs,rfl⟩,(by rw [e];simp),m⟩
  have l:∃arr,v= .agg arr:=by
   unfold nv at e
   unfold Value.okWide at j
   split at e<;>rename_i hu<;>simp only [hu]at j
   ·exact⟨_,j.choose_spec.1⟩
   ·exact⟨_,j.choose_spec.1⟩
   ·cases e
  obtain⟨arr,rfl⟩:=l
  have g:VC (p7 w) cs arr.toList:=f
  exact .agg cs arr (by simpa using g.len) fun i p u h1 o=>g.at_ i p u h1 (by simpa using o)
 |false=>
  have h1:=yl e j
  rw [h1]at f
  have q:=f.len
  obtain⟨c,rfl⟩:∃c,cs=[c]:=List.length_eq_one_iff.1 (by simpa using q.symm)
  have a:=f.pone c sm
  have k:c.cells=[c]:=by cases c<;>first|rfl|(cases a)
  exact⟨c,f.at_ 0 c v rfl rfl,(by rw [e];simp),fun _=>a,by rw [k];exact m⟩
theorem yS{d:Nat}{r:Reach}{b:Nat}:∀(ts:List TypeId)(vs:List Value)(c:List (DataW H))(g:List MemPlace),ts.all (nS P d)=true->
  (∀(j:Nat)t v,ts[j]? =some t->vs[j]? =some v->Value.okWide P w r b t v)->DataW.TrodAll enc P w 0 sp held ts vs c g->∃a,VAll (p7 w) a vs∧xj P d ts a
 | [],[],[],_,_,_,_=>⟨[],trivial,trivial⟩
 |t::ts,v::vs,l::c,g,e,f,⟨p,q,h1,k,m⟩=>by
  simp only [CB,A5]at e
  obtain⟨pd,g1,g2⟩:=arg_sh e.1 (f 0 t v rfl rfl) h1
  obtain⟨a,g3,g4⟩:=yS ts vs c q e.2 (fun j t v h i=>f (j+1) t v h i) k
  exact⟨pd::a,⟨g1,g3⟩,g2,g4⟩
theorem law_post{f:Func}{s:ChangeSpec}{W i:World}{args:Array Value}{a gs:List (DataW H)}{before:List MemPlace}{d:Nat}{tb:TypeId}(r:DataW.Whole enc P f.params.toList s.vars false W args.toList a gs before)
  (x:f.params.toList.all (nS P d)=true) (c:s.vars=[]) (z:∀a:List (DataW H),a.length=f.params.size->s.fn H a={ results:=[.lit (.bool true)],args:=a }) (y:f.resultTypes= #[tb]) (k:P.underlying tb=some .bool)
  {E:Prop} (g:Frame E [] W i):s.post enc P f false true false false W args (.bool true) i:=by
 have j:=r
 obtain⟨p,q,o,hV,rfl,F,D⟩:=r
 rw [c]at hV
 obtain⟨rfl,rfl⟩:=trodVars_none hV
 have hlen:∀(ts:List TypeId)(vs:List Value)(a:List (DataW H))(n:List MemPlace),DataW.TrodAll enc P W 0 (fun _=>true) true ts vs a n->a.length=ts.length:=by
  intro ts
  induction ts with
  |nil=>intro vs a n h;cases vs<;>cases a<;>first|rfl|cases h
  |cons t ts B=>
   intro vs a n h
   match vs,a,h with
   |v::vs,C::a,⟨_,_,_,u,_⟩=>simp [B _ _ _ u]
 have m:=hlen _ _ _ _ o
 have e:=z (a++[]) (by simpa using m)
 have l:∀b,b<W.heap.size->i.heap[b]? =W.heap[b]? :=fun b k=>g.block b k sm
 refine⟨a,[],p++[],[],p,[],j,?_,?_,?_,wm g _,fun h=>by cases h⟩
 ·rw [e,y]
  exact trodAll_cons_mk (shut_bool k _) trodAll_mk0
 ·rw [e]
  simp only [List.append_nil]
  exact tY l d _ _ _ _ x o
 ·rw [e,c]
  exact rfl
theorem zq{base:tE}{f:FuncId}{fn:Func}{s:ChangeSpec}{W:World}{r:Reach}{K:Nat}{args:Array Value}{m gs:List (DataW H)}{before:List MemPlace}{d:Nat}{tb:TypeId}(n:Enters P f)
  (C:∀(j:Nat)t v,fn.params[j]? =some t->args[j]? =some v->Value.okWide P W r K t v)
  (I:DataW.Whole enc P fn.params.toList s.vars false W args.toList m gs before)
  (J:fn.params.toList.all (nS P d)=true) (l:s.vars=[]) (hs:∀m:List (DataW H),m.length=fn.params.size->s.fn H m={ results:=[.lit (.bool true)],args:=m }) (Y:fn.resultTypes= #[tb]) (Q:P.underlying tb=some .bool)
  (c:∀a v,base.snap a=some v->W.cell? a=some v∧v.oneCell'=true)
  (y:∀x∈base.objs,W.heap[x.1]? =some x.2∧∃o v,base.snap ⟨x.1,o,none⟩=some v)
  (h:∀g,xj P d fn.params.toList g->pk P base f (g.map .d) [] (.d (.bool true)) []):
  Calls P f args W fun e G=>∃v,e= .returned v∧s.post enc P fn false true false false W args v G:=by
 have D:=I
 obtain⟨p,q,O,hV,rfl,hz,hn⟩:=I
 obtain⟨g,h1,N⟩:=yS fn.params.toList args.toList m p J (fun j t v ht B=>C j t v (by simpa using ht) (by simpa using B)) O
 have u:Mem P (p7 W) (look []) (look []) W:=⟨(fun id bx h=>by cases h),(fun id L h=>by cases h),(fun ad v=>wz),(fun ad v=>allS_one),(fun id L b h=>by cases h),(fun id a5 L L' b h=>by cases h)⟩
 have T:=h g N (p7 W) W [] args u rfl (fun a v k=>yR (c a v k).1 (c a v k).2) y
  (by have := h1.len; simpa using this) (fun i a v k B => by
   simp only [List.getElem?_map,Option.map_eq_some_iff]at k
   obtain⟨pd,F,rfl⟩:=k
   exact .d (h1.at_ i pd v F (by simpa using B)))
 refine(T.calls n).mono ?_
 rintro e G ⟨v,rfl,S',a6,k⟩
 have E:=k.frame
 have B:v= .bool true:=by
  have z:=k.res
  cases z with
  |d X=>cases X with|bool=>rfl
 subst B
 exact⟨_,rfl,law_post D J l hs Y Q E⟩
end
theorem pW{p:PD}(h:p.one=true):p.cells=[p]:=by cases p<;>first|rfl|(cases h)
section
variable {P:Program}{d:Nat}{t:TypeId}
theorem ShV.int{k:IntKind}{p:PD}(hu:P.underlying t=some (.int k))(h:ShV P d t p):∃n,p= .int k n∧(Lit.int k n).wf=true:=by
 obtain⟨_,h1,a⟩:=h
 rw [pW (h1 (by simp [nv,hu]))]at a
 cases d with
 |zero=>cases a
 |succ d=>
  unfold Sh at a
  simp only [hu]at a
  obtain⟨n,b,c⟩:=a
  simp only [List.cons.injEq,and_true]at b
  exact⟨n,b,c⟩
theorem ShV.bool{p:PD}(hu:P.underlying t=some .bool)(h:ShV P d t p):∃b,p= .bool b:=by
 obtain⟨_,h1,a⟩:=h
 rw [pW (h1 (by simp [nv,hu]))]at a
 cases d with
 |zero=>cases a
 |succ d=>
  unfold Sh at a
  simp only [hu]at a
  obtain⟨n,c⟩:=a
  simp only [List.cons.injEq,and_true]at c
  exact⟨n,c⟩
theorem ShV.str{p:PD}(hu:P.underlying t=some .string)(h:ShV P d t p):∃s,p= .str s∧s.length<=maxLen:=by
 obtain⟨_,h1,a⟩:=h
 rw [pW (h1 (by simp [nv,hu]))]at a
 cases d with
 |zero=>cases a
 |succ d=>
  unfold Sh at a
  simp only [hu]at a
  obtain⟨n,b,c⟩:=a
  simp only [List.cons.injEq,and_true]at b
  exact⟨n,b,c⟩
theorem ShV.lst{α:Type}{e:TypeId}{g:α->PD}{Q:α->Prop}{p:PD}(hu:P.underlying t=some (.slice e))(h:ShV P (d+1) t p)(n:∀x,ShV P d e x->∃a,x=g a∧Q a):
  ∃l:List α,p= .lst (l.map g)∧l.length<=maxLen∧∀a∈l,Q a:=by
 obtain⟨_,h1,b⟩:=h
 rw [pW (h1 (by simp [nv,hu]))]at b
 unfold Sh at b
 simp only [hu]at b
 obtain⟨es,f,j,k⟩:=b
 simp only [List.cons.injEq,and_true]at f
 subst f
 have each:∀x∈es,∃a,x=g a∧Q a:=fun x hm=>n x (k x hm)
 have key:∀es:List PD,(∀x∈es,∃a,x=g a∧Q a)->∃l:List α,es=l.map g∧∀a∈l,Q a:=by
  intro es
  induction es with
  |nil=>exact fun _=>⟨[],rfl,sm⟩
  |cons x es q=>
   intro i
   obtain⟨a,rfl,m⟩:=i x sm
   obtain⟨l,rfl,c⟩:=q fun y o=>i y (by simp [o])
   exact⟨a::l,rfl,by simpa using⟨m,c⟩⟩
 obtain⟨l,rfl,c⟩:=key es each
 exact⟨l,rfl,by simpa using j,c⟩
theorem ShV.ints{e:TypeId}{k:IntKind}{p:PD}(hu:P.underlying t=some (.slice e))(he:P.underlying e=some (.int k))(h:ShV P (d+1) t p):
  ∃l:List Int,p= .lst (l.map (.int k))∧l.length<=maxLen∧∀n∈l,(Lit.int k n).wf=true:=ShV.lst hu h fun _ a=>ShV.int he a
end
end Go.Dw
