
import Derived.Test.YtfmoipelhfkdkaaGreatDoorDwWp
import Derived.OpenShut
import Derived.RowKit3
import Derived.Deep.DeepHandedRow
set_option linter.unusedVariables false
set_option linter.unusedSimpArgs false
open List renaming all_cons->Fi, drop_drop->Fj, drop_left'->Fk, drop_zero->Fl, getElem?_append_left->DX, getElem?_append_right->DY, getElem?_cons_zero->D0, getElem?_of_mem->EZ, length_drop->E0, length_take->E1, mem_cons->Fc, range->DO
open Bool renaming and_eq_true->EE
open Nat renaming le_refl->DI, mul_le_mul_right->EB, succ_mul->Fm

namespace Go.Dw
open Go.ChangeShapes Go.WideShapes Go.ChangeAt Go.RowKit
def Sh(P:Program):Nat->TypeId->List PD->Prop
 |0,_,_=>False
 |d+1,t,cs=>
  match P.underlying t with
  |some .bool=>∃b,cs=[.bool b]
  |some (.int k)=>∃n,cs=[.int k n]∧(Lit.int k n).wf=true
  |some .string=>∃s,cs=[.str s]∧s.length<=maxLen
  |some (.slice e)=>∃es,cs=[.lst es]∧es.length<=maxLen∧∀x∈es,(sw P e=true->∃l,x= .agg l)∧(sw P e=false->x.one=true)∧Sh P d e x.cells
  |some (.struct g)=>cs.length=P.cellsOf t∧∀f∈g.toList,Sh P d f.type ((cs.drop f.offset).take (P.cellsOf f.type))
  |some (.array n e)=>cs.length=P.cellsOf t∧∀i,i<n->Sh P d e ((cs.drop (i*P.cellsOf e)).take (P.cellsOf e))
  |_=>False
def vz(P:Program)(rec:TypeId->Bool)(total:Nat):Nat->List Field->Bool
 |off,[]=>off==total
 |off,f::r=>(f.offset==off)&&rec f.type&&vz P rec total (off+P.cellsOf f.type) r
def tl(P:Program):Nat->TypeId->Bool
 |0,_=>false
 |d+1,t=>
  match P.underlying t with
  |some .bool|some (.int _)|some .string=>P.cellsOf t==1
  |some (.slice e)=>(P.cellsOf t==1)&&decide (0<P.cellsOf e)&&tl P d e
  |some (.struct f)=>vz P (tl P d) (P.cellsOf t) 0 f.toList
  |some (.array n e)=>(P.cellsOf t==n*P.cellsOf e)&&tl P d e
  |_=>false
def vF(w:World):rP:=fun a=>match w.cell? a with|some v=>if v.oneCell'=true then some v else none|none=>none
theorem A1{w:World}{a:Addr}{v:Value}(h:vF w a=some v):w.cell? a=some v:=by
 unfold vF at h
 split at h
 ·split at h
  ·cases h;assumption
  ·cases h
 ·cases h
theorem allS_one{w:World}{a:Addr}{v:Value}(h:vF w a=some v):v.oneCell'=true:=by
 unfold vF at h
 split at h
 ·split at h
  ·cases h;assumption
  ·cases h
 ·cases h
theorem C9{w:World}{a:Addr}{v:Value}(h:w.cell? a=some v)(h1:v.oneCell'=true):vF w a=some v:=by simp [vF,h,h1]
structure VC(S:rP)(cs:List PD)(vs:List Value):Prop where
 len:vs.length=cs.length
 at_:∀(i:Nat)c v,cs[i]? =some c->vs[i]? =some v->V S c v
 one:∀v∈vs,v.oneCell'=true
 pone:∀c∈cs,c.one=true
theorem VC.append{S:rP}{cs f:List PD}{vs j:List Value}(h:VC S cs vs)(k:VC S f j):VC S (cs++f) (vs++j):=by
 refine⟨by simp [h.len,k.len],fun i c v h1 q=>?_,fun v g=>?_,fun c hc=>?_⟩
 ·by_cases hi:i<cs.length
  ·rw [DX hi]at h1
   rw [DX (by rw [h.len];exact hi)]at q
   exact h.at_ i c v h1 q
  ·rw [DY za]at h1
   rw [DY (by rw [h.len];omega),h.len]at q
   exact k.at_ _ c v h1 q
 ·rcases List.mem_append.1 g with g|g
  ·exact h.one v g
  ·exact k.one v g
 ·rcases List.mem_append.1 hc with hc|hc
  ·exact h.pone c hc
  ·exact k.pone c hc
theorem VC.nil{S:rP}:VC S [] []:=⟨rfl,zc,zc,zc⟩
theorem VC.sing{S:rP}{c:PD}{v:Value}(h:V S c v)(h1:v.oneCell'=true)(j:c.one=true):VC S [c] [v]:=by
 refine⟨rfl,fun i k v' f g=>?_,by simpa using h1,by simpa using j⟩
 cases i with
 |zero=>simp only [D0,Option.some.injEq]at f g;subst f g;exact h
 |succ i=>simp at f
section
variable {H:Type}{enc:TypeId×Value->H}{P:Program}{w:World}{sp:Nat->Bool}{held:Bool}
theorem Sh.len{d:Nat}{t:TypeId}{cs:List PD}(h:Sh P d t cs)(hp:tl P d t=true):cs.length=P.cellsOf t:=by
 cases d with
 |zero=>cases h
 |succ d=>
  unfold Sh at h
  unfold tl at hp
  split at h<;>rename_i hu<;>(try simp only [hu]at hp)<;>(try exact h.elim)<;>(try simp at hp)
  ·obtain⟨b,rfl⟩:=h;simp [hp]
  ·obtain⟨b,rfl,_⟩:=h;simp [hp]
  ·obtain⟨b,rfl,_⟩:=h;simp [hp]
  ·obtain⟨b,rfl,_⟩:=h;simp [hp]
  ·exact h.1
  ·exact h.1
theorem A8{d:Nat}{vs:List Value}{total:Nat}(G:vs.length=total):∀(u:List Field)(off:Nat),vz P (tl P d) total off u=true->off<=total->
  (∀f∈u,∃cs,Sh P d f.type cs∧VC (vF w) cs ((vs.drop f.offset).take (P.cellsOf f.type)))->
  ∃cs,VC (vF w) cs (vs.drop off)∧∀f∈u,off<=f.offset∧Sh P d f.type ((cs.drop (f.offset-off)).take (P.cellsOf f.type))
 | [],off,hp,_,_=>by
  simp only [vz,beq_iff_eq]at hp
  exact⟨[],by rw [List.drop_eq_nil_of_le za];exact VC.nil,zc⟩
 |f::r,off,hp,ho,hf=>by
  simp only [vz,EE,beq_iff_eq]at hp
  obtain⟨⟨k,C⟩,K⟩:=hp
  obtain⟨cs,hs,I⟩:=hf f zc
  have hl:=hs.len C
  have F:((vs.drop f.offset).take (P.cellsOf f.type)).length=P.cellsOf f.type:=by rw [I.len,hl]
  simp only [E1,E0]at F
  obtain⟨q,E,D⟩:=A8 G r (off+P.cellsOf f.type) K za fun g j=>hf g (by simp [j])
  subst k
  refine⟨cs++q,?_,?_⟩
  ·have e:vs.drop f.offset=(vs.drop f.offset).take (P.cellsOf f.type)++vs.drop (f.offset+P.cellsOf f.type):=by
    rw [<-Fj,List.take_append_drop]
   rw [e]
   exact I.append E
  ·intro g j
   simp only [Fc]at j
   rcases j with rfl|j
   ·refine⟨DI _,?_⟩
    rw [Nat.sub_self,Fl, <-hl,List.take_left']
    ·exact hs
    ·rfl
   ·obtain⟨h1,J⟩:=D g j
    refine⟨za,?_⟩
    have e:g.offset-f.offset=cs.length+(g.offset-(f.offset+P.cellsOf f.type)):=by omega
    rw [e, <-Fj,Fk]
    ·exact J
    ·rfl
theorem elems_sh{d:Nat}{e:TypeId}{vs:List Value}(n:Nat)(hp:tl P d e=true)(u:vs.length=n*P.cellsOf e)
  (hf:∀i,i<n->∃cs,Sh P d e cs∧VC (vF w) cs ((vs.drop (i*P.cellsOf e)).take (P.cellsOf e))):
  ∀m,m<=n->∃cs,VC (vF w) cs (vs.take (m*P.cellsOf e))∧∀i,i<m->Sh P d e ((cs.drop (i*P.cellsOf e)).take (P.cellsOf e)):=by
 intro m
 induction m with
 |zero=>intro _;exact⟨[],by simpa using VC.nil,fun i hi=>za⟩
 |succ m C=>
  intro hm
  obtain⟨cs,r,hs⟩:=C za
  obtain⟨j,g,q⟩:=hf m za
  have k:=g.len hp
  have hle:(m+1)*P.cellsOf e<=n*P.cellsOf e:=EB _ hm
  rw [Fm]at hle
  have hl:cs.length=m*P.cellsOf e:=by rw [<-r.len,E1];omega
  refine⟨cs++j,?_,fun i hi=>?_⟩
  ·rw [Fm,List.take_add]
   exact r.append q
  ·by_cases f:i<m
   ·have h1:(i+1)*P.cellsOf e<=m*P.cellsOf e:=EB _ f
    rw [Fm]at h1
    have:=hs i f
    rw [List.drop_append_of_le_length za,List.take_append_of_le_length (by rw [E0];omega)]
    exact this
   ·obtain rfl:i=m:=by omega
    rw [<-hl,Fk rfl, <-k,List.take_length]
    exact g
theorem zR:∀(d fuel:Nat)(t:TypeId)(vs:List Value)(x:DataW H×List MemPlace),DataW.trod enc P w 0 sp held fuel t vs=some x->tl P d t=true->
  ∃cs,Sh P d t cs∧VC (vF w) cs vs
 |0,_,_,_,_,_,hp=>by simp [tl]at hp
 |d+1,fuel,t,vs,x,h,hp=>by
  unfold tl at hp
  split at hp<;>rename_i hu
  ·obtain⟨b,rfl,_⟩:=DataW.trod_bool hu h
   exact⟨[.bool b],by unfold Sh;simp only [hu];exact⟨b,rfl⟩,VC.sing (.bool b) rfl rfl⟩
  ·obtain⟨n,rfl,_,hw⟩:=DataW.trod_int hu h
   exact⟨[.int _ n],by unfold Sh;simp only [hu];exact⟨n,rfl,hw⟩,VC.sing (.int _ n) rfl rfl⟩
  ·obtain⟨s,rfl,_,hs⟩:=DataW.trod_string hu h
   exact⟨[.str s.data.toList],by unfold Sh;simp only [hu];exact⟨_,rfl,by simpa using hs⟩,VC.sing (.str s.data.toList) rfl rfl⟩
  ·rename_i e
   simp only [EE,beq_iff_eq,decide_eq_true_eq]at hp
   obtain⟨⟨_,b5⟩,b0⟩:=hp
   rcases DataW.trod_slice hu h with⟨rfl,_⟩|⟨a,len,cap,elems,rest,n,_,rfl,_,_,hl,hm,hlen,a6,_,_⟩
   ·exact⟨[.lst []],by unfold Sh;simp only [hu];exact⟨[],rfl,zc,zc⟩,VC.sing (.nil none 0) rfl rfl⟩
   ·have each:∀i,i<len->∃(y:PD)(q:List Value),Sh P d e y.cells∧(sw P e=true->∃l,y= .agg l)∧(sw P e=false->y.one=true)∧VC (vF w) y.cells q∧q.length=P.cellsOf e∧∀j v,q[j]? =some v->vF w ((a.add (i*P.cellsOf e)).add j)=some v:=by
     intro i hi
     have h1:=a6 i hi
     rw [zf za,Option.bind_eq_some_iff]at h1
     obtain⟨q,hc,ht⟩:=h1
     obtain⟨_,a5,L⟩:=World.cells?_some hc
     obtain⟨cs,hs,E⟩:=zR d n e q _ ht b0
     have I:∀j v,q[j]? =some v->vF w ((a.add (i*P.cellsOf e)).add j)=some v:=fun j v hj=>by
      have c0:=(List.getElem?_eq_some_iff.1 hj).1
      exact C9 (by rw [L j za,hj]) (E.one v (List.mem_of_getElem? hj))
     cases F:sw P e with
     |true=>exact⟨.agg cs,q,hs,fun _=>⟨cs,rfl⟩,zc,E,a5,I⟩
     |false=>
      have O:cs.length=1:=by
       unfold sw at F
       cases d with
       |zero=>cases hs
       |succ d=>
        unfold Sh at hs
        split at hs<;>rename_i b3<;>(try simp only [b3]at F)<;>first
         |exact hs.elim
         |(obtain⟨_,rfl⟩:=hs;rfl)
         |(obtain⟨_,rfl,_⟩:=hs;rfl)
         |cases F
         |cases hs
      obtain⟨c,rfl⟩:=List.length_eq_one_iff.1 O
      have J:=E.pone c zc
      have Y:c.cells=[c]:=by cases c<;>first|rfl|(cases J)
      exact⟨c,q,by rw [Y];exact hs,zc,fun _=>J,by rw [Y];exact E,a5,I⟩
    let g:Nat->PD:=fun i=>if hi:i<len then(each i hi).choose else default
    have gs:∀i,i<len->∃q,Sh P d e (g i).cells∧(sw P e=true->∃l,g i= .agg l)∧(sw P e=false->(g i).one=true)∧VC (vF w) (g i).cells q∧q.length=P.cellsOf e∧∀j v,q[j]? =some v->vF w ((a.add (i*P.cellsOf e)).add j)=some v:=by
     intro i hi
     have:=(each i hi).choose_spec
     simp only [g,hi,dif_pos]
     exact this
    have D:∀(i:Nat)y,((DO len).map g)[i]? =some y->i<len∧y=g i:=by
     intro i y Q
     have hi:i<len:=by have:=(List.getElem?_eq_some_iff.1 Q).1;simpa using this
     refine⟨hi,?_⟩
     simp [hi]at Q
     exact Q.symm
    refine⟨[.lst ((DO len).map g)],?_,VC.sing ?_ rfl rfl⟩
    ·unfold Sh
     simp only [hu]
     refine⟨_,rfl,so,fun y Q=>?_⟩
     obtain⟨i,hi⟩:=EZ Q
     obtain⟨u,rfl⟩:=D i y hi
     obtain⟨q,h1,T,h3,_⟩:=gs i u
     exact⟨T,h3,h1⟩
    ·by_cases a9:len=0
     ·subst a9;exact .nil _ _
     ·have G:a.spot=none:=by
       obtain⟨q,_,_,_,_,h5,X⟩:=gs 0 za
       have K:=X 0 (q[0]'za) zc
       have W:=A1 K
       simp only [Nat.zero_mul,Addr.add,if_true]at W
       unfold World.cell? at W
       split at W
       ·split at W
        ·cases W
        ·rename_i hs;cases b2:a.spot with
         |none=>rfl
         |some z=>simp [b2]at hs
       ·cases W
      obtain⟨ab,ao,as_⟩:=a
      simp only at G
      subst G
      have C:∀o k,(⟨ab,o,none⟩:Addr).add k=⟨ab,o+k,none⟩:=fun o k=>by
       unfold Addr.add
       split
       ·rename_i hk;subst hk;rfl
       ·rfl
      have hV:=V.lst (S:=vF w) ((DO len).map g) ab ao cap (P.cellsOf e) (fun i j=>((vF w ⟨ab,ao+i*P.cellsOf e+j,none⟩).getD default)) so
       (fun y Q => by
        obtain⟨i,hi⟩:=EZ Q
        obtain⟨u,rfl⟩:=D i y hi
        obtain⟨q,_,_,_,U,h5,_⟩:=gs i u
        rw [<-U.len,h5])
       (fun i y j z h1 T => by
        obtain⟨u,rfl⟩:=D i y h1
        obtain⟨q,_,_,_,U,h5,X⟩:=gs i u
        have hj:j<q.length:=by rw [U.len];exact(List.getElem?_eq_some_iff.1 T).1
        have K:=X j q[j] zc
        rw [C,C]at K
        rw [K];rfl)
       (fun i y j z h1 T => by
        obtain⟨u,rfl⟩:=D i y h1
        obtain⟨q,_,_,_,U,h5,X⟩:=gs i u
        have hj:j<q.length:=by rw [U.len];exact(List.getElem?_eq_some_iff.1 T).1
        have K:=X j q[j] zc
        rw [C,C]at K
        rw [K]
        exact U.at_ j z q[j] T zc)
      simpa using hV
  ·rename_i fs
   obtain⟨xs,n,_,_,hl,b4,N⟩:=DataW.trod_struct hu h
   obtain ⟨cs, E, hs⟩ := A8 (w := w) (d := d) (vs := vs) hl fs.toList 0 hp za (fun f hf => by
    obtain⟨i,hi⟩:=EZ hf
    have u:fs[i]? =some f:=by simpa using hi
    have h1:=N i f u
    have b6:i<fs.size:=(Array.getElem?_eq_some_iff.1 u).1
    rw [zf za]at h1
    have b1:tl P d f.type=true:=by
     have aux:∀(l:List Field)(off:Nat),vz P (tl P d) (P.cellsOf t) off l=true->∀f∈l,tl P d f.type=true:=by
      intro l
      induction l with
      |nil=>simp
      |cons g r ih=>
       intro off hh f hf
       simp only [vz,EE]at hh
       simp only [Fc]at hf
       rcases hf with rfl|hf
       ·exact hh.1.2
       ·exact ih _ hh.2 f hf
     exact aux _ _ hp f hf
    exact zR d n f.type _ _ h1 b1)
   rw [Fl]at E
   refine⟨cs,?_,E⟩
   unfold Sh
   simp only [hu]
   exact⟨by rw [<-E.len];exact hl,fun f hf=>by have:=(hs f hf).2;rwa [Nat.sub_zero]at this⟩
  ·rename_i n e
   simp only [EE,beq_iff_eq]at hp
   obtain⟨xs,m,_,_,hl,b4,N⟩:=DataW.trod_array hu h
   obtain ⟨cs, E, hs⟩ := elems_sh (w := w) (vs := vs) n hp.2 (by rw [hl, hp.1]) (fun i hi => by
    have h1:=N i hi
    rw [zf za]at h1
    exact zR d m e _ _ h1 hp.2) n (DI _)
   rw [List.take_of_length_le (by rw [hl,hp.1];omega)]at E
   refine⟨cs,?_,E⟩
   unfold Sh
   simp only [hu]
   exact⟨by rw [<-E.len];exact hl,hs⟩
  ·cases hp
end
theorem mapM_le{α β:Type}{f g:α->Option β}:∀(l:List α)(r:List β),(∀i∈l,∀y,f i=some y->g i=some y)->l.mapM f=some r->l.mapM g=some r
 | [],r,_,h=>by simpa using h
 |a::l,r,j,h=>by
  rw [List.mapM_cons]at h⊢
  cases hf:f a with
  |none=>simp [hf]at h
  |some y=>
   rw [j a zc y hf]
   cases hm:l.mapM f with
   |none=>simp [hf,hm]at h
   |some k=>
    rw [mapM_le l k (fun i hi=>j i (by simp [hi])) hm]
    simpa [hf,hm]using h
theorem Db{α β:Type}{o j:Option α}{f g:α->Option β}{y:β}(ho:∀x,o=some x->j=some x)(hf:∀x y,f x=some y->g x=some y)(h:o.bind f=some y):j.bind g=some y:=by
 cases o with
 |none=>simp at h
 |some x=>rw [ho x rfl];exact hf x y h
theorem map_le{α β:Type}{o g:Option α}{f:α->β}{y:β}(ho:∀x,o=some x->g=some x)(h:o.map f=some y):g.map f=some y:=by
 cases o with
 |none=>simp at h
 |some x=>rw [ho x rfl];exact h
section
variable {H:Type}{enc:TypeId×Value->H}{P:Program}{w w':World}{sp:Nat->Bool}{held:Bool}
theorem cell_le(hf:∀b,b<w.heap.size->w'.heap[b]? =w.heap[b]?){a:Addr}{v:Value}(h:w.cell? a=some v):w'.cell? a=some v:=by
 have f:a.block<w.heap.size:=by
  unfold World.cell? at h
  by_cases f:a.block<w.heap.size
  ·exact f
  ·rw [Array.getElem?_eq_none za]at h;cases h
 unfold World.cell? at h⊢
 rw [hf _ f];exact h
theorem cells_le(hf:∀b,b<w.heap.size->w'.heap[b]? =w.heap[b]?){base:Nat}{a:Addr}{n:Nat}{r:List Value}(h:w.cells? base a n=some r):w'.cells? base a n=some r:=by
 unfold World.cells? at h⊢
 split at h
 ·rename_i f
  rw [if_pos f]
  exact mapM_le _ _ (fun i _ y g=>cell_le hf g) h
 ·cases h
theorem wA{a:Addr}{v:Value}(h:w.cell? a=some v):a.block<w.heap.size:=by
 unfold World.cell? at h
 by_cases f:a.block<w.heap.size
 ·exact f
 ·rw [Array.getElem?_eq_none za]at h;cases h
theorem Ck{d:Nat}{total:Nat}:∀(l:List Field)(off:Nat),vz P (tl P d) total off l=true->∀f∈l,tl P d f.type=true:=by
 intro l
 induction l with
 |nil=>simp
 |cons g r k=>
  intro off j f hf
  simp only [vz,EE]at j
  simp only [Fc]at hf
  rcases hf with rfl|hf
  ·exact j.1.2
  ·exact k _ j.2 f hf
theorem Bf(hf:∀b,b<w.heap.size->w'.heap[b]? =w.heap[b]?):∀(d fuel:Nat)(t:TypeId)(cs:List Value)(x:DataW H×List MemPlace),tl P d t=true->
  DataW.trod enc P w 0 (fun _=>true) held fuel t cs=some x->DataW.trod enc P w' 0 (fun b=>decide (b<w.heap.size)) held fuel t cs=some x
 |0,_,_,_,_,hp,_=>by simp [tl]at hp
 |d+1,0,_,_,_,_,h=>by simp [DataW.trod]at h
 |d+1,fuel+1,t,cs,x,hp,h=>by
  have F:=Bf hf d fuel
  unfold tl at hp
  unfold DataW.trod at h⊢
  revert hp h
  generalize P.underlying t=u
  intro hp h
  split at h<;>(try exact h)<;>(try(simp only at hp;cases hp;done))
  ·rename_i e a len cap
   simp only [EE,beq_iff_eq,decide_eq_true_eq]at hp
   simp only at h⊢
   split at h
   ·rename_i hc
    rw [if_pos hc]
    have he:∀i y,(w.cells? 0 (a.add (i*P.cellsOf e)) (P.cellsOf e)).bind (DataW.trod enc P w 0 (fun _=>true) held fuel e)=some y->(w'.cells? 0 (a.add (i*P.cellsOf e)) (P.cellsOf e)).bind (DataW.trod enc P w' 0 (fun b=>decide (b<w.heap.size)) held fuel e)=some y:=
     fun i y j=>Db (fun z g=>cells_le hf g) (fun z y j=>F _ _ _ hp.2 j) j
    refine Db (fun y j=>mapM_le _ _ (fun i _ z g=>he i z g) j) (fun y z g=>map_le (fun r k=>?_) g) h
    rw [if_pos trivial]at k
    by_cases C:cap-len=0
    ·rw [C]at k⊢
     simp only [List.range_zero,List.mapM_nil]at k⊢
     split
     ·exact k
     ·exact k
    ·have E:a.block<w.heap.size:=by
      have hlen:=mapM_some_length k
      have q:=mapM_some_get k 0 0 (show(DO (cap-len))[0]? =some 0 by rw [List.getElem?_range za])
      rw [zf (by rw [hlen];simp;omega),Option.bind_eq_some_iff]at q
      obtain⟨l,q,_⟩:=q
      obtain⟨_,h1,I⟩:=World.cells?_some q
      have G:=I 0 za
      rw [zf za]at G
      have:=wA G
      simpa only [block_add]using this
     rw [if_pos (by simpa using E)]
     exact mapM_le _ _ (fun i _ z g=>he _ z g) k
   ·cases h
  ·rename_i J
   simp only at hp
   split at h
   ·rename_i hc
    rw [if_pos hc]
    exact map_le (fun y j=>mapM_le _ _ (fun f D z g=>F _ _ _ (Ck _ _ hp f D) g) j) h
   ·cases h
  ·rename_i n e
   simp only [EE,beq_iff_eq]at hp
   split at h
   ·rename_i hc
    rw [if_pos hc]
    exact map_le (fun y j=>mapM_le _ _ (fun f _ z g=>F _ _ _ hp.2 g) j) h
   ·cases h
theorem yI(hf:∀b,b<w.heap.size->w'.heap[b]? =w.heap[b]?)(d:Nat):∀(ts:List TypeId)(vs:List Value)(f:List (DataW H))(ps:List MemPlace),ts.all (tl P d)=true->
  DataW.TrodAll enc P w 0 (fun _=>true) held ts vs f ps->DataW.TrodAll enc P w' 0 (fun b=>decide (b<w.heap.size)) held ts vs f ps
 | [],[],[],_,_,h=>h
 |t::ts,v::vs,d'::f,ps,hp,⟨p,q,⟨fuel,h1⟩,g,j⟩=>by
  simp only [Fi,EE]at hp
  exact⟨p,q,⟨fuel,Bf hf d _ _ _ _ hp.1 h1⟩,yI hf d ts vs f q hp.2 g,j⟩
def ShV(P:Program)(d:Nat)(t:TypeId)(p:PD):Prop:=(sw P t=true->∃l,p= .agg l)∧(sw P t=false->p.one=true)∧Sh P d t p.cells
end
theorem AW{E:Prop}{w w':World}(h:Frame E [] w w')(may:MemPlace->Prop):w.keptBut w' may:=by
 refine⟨h.os,h.output,fun i hi=>?_⟩
 rw [h.block i hi zc]
 cases w.heap[i]? with
 |none=>rfl
 |some o=>cases o<;>simp
def BL(P:Program)(d:Nat):List TypeId->List PD->Prop
 | [],[]=>True
 |t::ts,p::ps=>ShV P d t p∧BL P d ts ps
 |_,_=>False
def VAll(S:rP):List PD->List Value->Prop
 | [],[]=>True
 |p::ps,v::vs=>V S p v∧VAll S ps vs
 |_,_=>False
theorem VAll.len{S:rP}:∀{ps:List PD}{vs:List Value},VAll S ps vs->ps.length=vs.length
 | [],[],_=>rfl
 |p::ps,v::vs,h=>by simp [VAll.len h.2]
theorem VAll.at_{S:rP}:∀{ps:List PD}{vs:List Value},VAll S ps vs->∀(i:Nat)p v,ps[i]? =some p->vs[i]? =some v->V S p v
 | [],[],_,i,p,v,h,_=>by simp at h
 |p::ps,v::vs,h,0,_,_,h1,f=>by simp only [D0,Option.some.injEq]at h1 f;subst h1 f;exact h.1
 |p::ps,v::vs,h,i+1,_,_,h1,f=>by simp only [List.getElem?_cons_succ]at h1 f;exact h.2.at_ i _ _ h1 f
section
variable {H:Type}{enc:TypeId×Value->H}{P:Program}{w:World}{sp:Nat->Bool}{held:Bool}
theorem CC{t:TypeId}{v:Value}{r:Reach}{b:Nat}(j:sw P t=false)(f:Value.okWide P w r b t v):v.cells.toList=[v]:=by
 unfold sw at j
 unfold Value.okWide at f
 split at f
 ·rename_i hu;simp [hu]at j
 ·rename_i hu;simp [hu]at j
 ·unfold Cell.okWide at f
  cases v<;>first|rfl|skip
  exfalso
  split at f<;>(try(rename_i h1 g;cases g;done))
  unfold Cell.ok at f
  split at f<;>first|(rename_i h1 g;cases g;done)|exact f
theorem arg_sh{d:Nat}{t:TypeId}{v:Value}{D:DataW H}{ps:List MemPlace}{r:Reach}{b:Nat}(hp:tl P d t=true)(k:Value.okWide P w r b t v)(h:DataW.Trod enc P w 0 sp held t v D ps):
  ∃p,V (vF w) p v∧ShV P d t p:=by
 obtain⟨fuel,h⟩:=h
 obtain⟨cs,hs,hc⟩:=zR d fuel t _ _ h hp
 cases g:sw P t with
 |true=>
  refine⟨.agg cs,?_,fun _=>⟨cs,rfl⟩,(by rw [g];simp),hs⟩
  have C:∃arr,v= .agg arr:=by
   unfold sw at g
   unfold Value.okWide at k
   split at g<;>rename_i hu<;>simp only [hu]at k
   ·exact⟨_,k.choose_spec.1⟩
   ·exact⟨_,k.choose_spec.1⟩
   ·cases g
  obtain⟨arr,rfl⟩:=C
  have j:VC (vF w) cs arr.toList:=hc
  exact .agg cs arr (by simpa using j.len) fun i p u h1 E=>j.at_ i p u h1 (by simpa using E)
 |false=>
  have h1:=CC g k
  rw [h1]at hc
  have hl:=hc.len
  obtain⟨c,rfl⟩:∃c,cs=[c]:=List.length_eq_one_iff.1 (by simpa using hl.symm)
  have f:=hc.pone c zc
  have q:c.cells=[c]:=by cases c<;>first|rfl|(cases f)
  exact⟨c,hc.at_ 0 c v rfl rfl,(by rw [g];simp),fun _=>f,by rw [q];exact hs⟩
theorem Da{d:Nat}{r:Reach}{b:Nat}:∀(ts:List TypeId)(vs:List Value)(g:List (DataW H))(ps:List MemPlace),ts.all (tl P d)=true->
  (∀(j:Nat)t v,ts[j]? =some t->vs[j]? =some v->Value.okWide P w r b t v)->DataW.TrodAll enc P w 0 sp held ts vs g ps->∃f,VAll (vF w) f vs∧BL P d ts f
 | [],[],[],_,_,_,_=>⟨[],trivial,trivial⟩
 |t::ts,v::vs,D::g,ps,hp,k,⟨p,q,h1,C,E⟩=>by
  simp only [Fi,EE]at hp
  obtain⟨pd,g1,g2⟩:=arg_sh hp.1 (k 0 t v rfl rfl) h1
  obtain⟨f,g3,g4⟩:=Da ts vs g q hp.2 (fun j t v h u=>k (j+1) t v h u) C
  exact⟨pd::f,⟨g1,g3⟩,g2,g4⟩
theorem law_post{f:Func}{s:ChangeSpec}{W u:World}{args:Array Value}{g gs:List (DataW H)}{before:List MemPlace}{d:Nat}{tb:TypeId}(J:DataW.Whole enc P f.params.toList s.vars false W args.toList g gs before)
  (hp:f.params.toList.all (tl P d)=true) (j:s.vars=[]) (hs:∀g:List (DataW H),g.length=f.params.size->s.fn H g={ results:=[.lit (.bool true)],args:=g }) (L:f.resultTypes= #[tb]) (D:P.underlying tb=some .bool)
  {E:Prop} (r:Frame E [] W u):s.post enc P f false true false false W args (.bool true) u:=by
 have C:=J
 obtain⟨p,q,I,hV,rfl,T,Q⟩:=J
 rw [j]at hV
 obtain⟨rfl,rfl⟩:=trodVars_none hV
 have hlen:∀(ts:List TypeId)(vs:List Value)(g:List (DataW H))(ps:List MemPlace),DataW.TrodAll enc P W 0 (fun _=>true) true ts vs g ps->g.length=ts.length:=by
  intro ts
  induction ts with
  |nil=>intro vs g ps h;cases vs<;>cases g<;>first|rfl|cases h
  |cons t ts N=>
   intro vs g ps h
   match vs,g,h with
   |v::vs,O::g,⟨_,_,_,K,_⟩=>simp [N _ _ _ K]
 have G:=hlen _ _ _ _ I
 have k:=hs (g++[]) (by simpa using G)
 have F:∀b,b<W.heap.size->u.heap[b]? =W.heap[b]? :=fun b D=>r.block b D zc
 refine⟨g,[],p++[],[],p,[],C,?_,?_,?_,AW r _,fun h=>by cases h⟩
 ·rw [k,L]
  exact trodAll_cons_mk (shut_bool D _) trodAll_mk0
 ·rw [k]
  simp only [List.append_nil]
  exact yI F d _ _ _ _ hp I
 ·rw [k,j]
  exact rfl
theorem Dx{base:xT}{f:FuncId}{fn:Func}{s:ChangeSpec}{W:World}{r:Reach}{X:Nat}{args:Array Value}{D gs:List (DataW H)}{before:List MemPlace}{d:Nat}{tb:TypeId}(E:Enters P f)
  (K:∀(j:Nat)t v,fn.params[j]? =some t->args[j]? =some v->Value.okWide P W r X t v)
  (U:DataW.Whole enc P fn.params.toList s.vars false W args.toList D gs before)
  (hp:fn.params.toList.all (tl P d)=true) (C:s.vars=[]) (hs:∀D:List (DataW H),D.length=fn.params.size->s.fn H D={ results:=[.lit (.bool true)],args:=D }) (hr:fn.resultTypes= #[tb]) (hb:P.underlying tb=some .bool)
  (g:∀a v,base.snap a=some v->W.cell? a=some v∧v.oneCell'=true)
  (G:∀x∈base.objs,W.heap[x.1]? =some x.2∧∃o v,base.snap ⟨x.1,o,none⟩=some v)
  (h:∀k,BL P d fn.params.toList k->uC P base f (k.map .d) [] (.d (.bool true)) []):
  Calls P f args W fun e T=>∃v,e= .returned v∧s.post enc P fn false true false false W args v T:=by
 have N:=U
 obtain⟨p,q,hA,hV,rfl,hz,hn⟩:=U
 obtain⟨k,h1,Y⟩:=Da fn.params.toList args.toList D p hp (fun j t v ht J=>K j t v (by simpa using ht) (by simpa using J)) hA
 have F:Mem P (vF W) (look []) (look []) W:=⟨(fun id bx h=>by cases h),(fun id L h=>by cases h),(fun ad v=>A1),(fun ad v=>allS_one),(fun id L b h=>by cases h),(fun id a5 L L' b h=>by cases h)⟩
 have hc:=h k Y (vF W) W [] args F rfl (fun a v u=>C9 (g a v u).1 (g a v u).2) G
  (by have := h1.len; simpa using this) (fun i a v u J => by
   simp only [List.getElem?_map,Option.map_eq_some_iff]at u
   obtain⟨pd,Q,rfl⟩:=u
   exact .d (h1.at_ i pd v Q (by simpa using J)))
 refine(hc.calls E).mono ?_
 rintro e T ⟨v,rfl,S',a6,u⟩
 have O:=u.frame
 have J:v= .bool true:=by
  have I:=u.res
  cases I with
  |d hh=>cases hh with|bool=>rfl
 subst J
 exact⟨_,rfl,law_post N hp C hs hr hb O⟩
end
theorem xH{p:PD}(h:p.one=true):p.cells=[p]:=by cases p<;>first|rfl|(cases h)
section
variable {P:Program}{d:Nat}{t:TypeId}
theorem ShV.int{k:IntKind}{p:PD}(hu:P.underlying t=some (.int k))(h:ShV P d t p):∃n,p= .int k n∧(Lit.int k n).wf=true:=by
 obtain⟨_,h1,f⟩:=h
 rw [xH (h1 (by simp [sw,hu]))]at f
 cases d with
 |zero=>cases f
 |succ d=>
  unfold Sh at f
  simp only [hu]at f
  obtain⟨n,g,j⟩:=f
  simp only [List.cons.injEq,and_true]at g
  exact⟨n,g,j⟩
theorem ShV.bool{p:PD}(hu:P.underlying t=some .bool)(h:ShV P d t p):∃b,p= .bool b:=by
 obtain⟨_,h1,f⟩:=h
 rw [xH (h1 (by simp [sw,hu]))]at f
 cases d with
 |zero=>cases f
 |succ d=>
  unfold Sh at f
  simp only [hu]at f
  obtain⟨n,g⟩:=f
  simp only [List.cons.injEq,and_true]at g
  exact⟨n,g⟩
theorem ShV.str{p:PD}(hu:P.underlying t=some .string)(h:ShV P d t p):∃s,p= .str s∧s.length<=maxLen:=by
 obtain⟨_,h1,f⟩:=h
 rw [xH (h1 (by simp [sw,hu]))]at f
 cases d with
 |zero=>cases f
 |succ d=>
  unfold Sh at f
  simp only [hu]at f
  obtain⟨n,g,j⟩:=f
  simp only [List.cons.injEq,and_true]at g
  exact⟨n,g,j⟩
theorem ShV.lst{α:Type}{e:TypeId}{g:α->PD}{Q:α->Prop}{p:PD}(hu:P.underlying t=some (.slice e))(h:ShV P (d+1) t p)(C:∀x,ShV P d e x->∃a,x=g a∧Q a):
  ∃l:List α,p= .lst (l.map g)∧l.length<=maxLen∧∀a∈l,Q a:=by
 obtain⟨_,h1,f⟩:=h
 rw [xH (h1 (by simp [sw,hu]))]at f
 unfold Sh at f
 simp only [hu]at f
 obtain⟨es,j,q,r⟩:=f
 simp only [List.cons.injEq,and_true]at j
 subst j
 have each:∀x∈es,∃a,x=g a∧Q a:=fun x hm=>C x (r x hm)
 have key:∀es:List PD,(∀x∈es,∃a,x=g a∧Q a)->∃l:List α,es=l.map g∧∀a∈l,Q a:=by
  intro es
  induction es with
  |nil=>exact fun _=>⟨[],rfl,zc⟩
  |cons x es E=>
   intro k
   obtain⟨a,rfl,u⟩:=k x zc
   obtain⟨l,rfl,hl⟩:=E fun y D=>k y (by simp [D])
   exact⟨a::l,rfl,by simpa using⟨u,hl⟩⟩
 obtain⟨l,rfl,hl⟩:=key es each
 exact⟨l,rfl,by simpa using q,hl⟩
theorem ShV.ints{e:TypeId}{k:IntKind}{p:PD}(hu:P.underlying t=some (.slice e))(he:P.underlying e=some (.int k))(h:ShV P (d+1) t p):
  ∃l:List Int,p= .lst (l.map (.int k))∧l.length<=maxLen∧∀n∈l,(Lit.int k n).wf=true:=ShV.lst hu h fun _ f=>ShV.int he f
end
end Go.Dw
