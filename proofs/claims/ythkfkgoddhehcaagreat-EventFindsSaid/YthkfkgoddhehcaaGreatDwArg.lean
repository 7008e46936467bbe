
import Derived.Test.YthkfkgoddhehcaaGreatDwWp
import Derived.OpenShut
import Derived.RowKit3
import Derived.Deep.DeepHandedRow
set_option linter.unusedVariables false
set_option linter.unusedSimpArgs false
open List renaming all_cons->G4, drop_drop->G5, drop_left'->G6, drop_zero->G7, getElem?_append_left->ES, getElem?_append_right->ET, getElem?_cons_zero->EV, getElem?_of_mem->FP, length_drop->FQ, length_take->FR, mem_cons->GX, range->EH
open Bool renaming and_eq_true->E8
open Nat renaming le_refl->EB, mul_le_mul_right->E5, succ_mul->G8

namespace Go.Dw
open Go.ChangeShapes Go.WideShapes Go.ChangeAt Go.RowKit
def Sh(P:Program):Nat->TypeId->List PD->Prop
 |0,_,_=>False
 |d+1,t,cs=>
  match P.underlying t with
  |some .bool=>∃b,cs=[.bool b]
  |some (.int k)=>∃n,cs=[.int k n]∧(Lit.int k n).wf=true
  |some .string=>∃s,cs=[.str s]∧s.length<=maxLen
  |some (.slice e)=>∃es,cs=[.lst es]∧es.length<=maxLen∧∀x∈es,(ue P e=true->∃l,x= .agg l)∧(ue P e=false->x.one=true)∧Sh P d e x.cells
  |some (.struct a)=>cs.length=P.cellsOf t∧∀f∈a.toList,Sh P d f.type ((cs.drop f.offset).take (P.cellsOf f.type))
  |some (.array n e)=>cs.length=P.cellsOf t∧∀i,i<n->Sh P d e ((cs.drop (i*P.cellsOf e)).take (P.cellsOf e))
  |_=>False
def wT(P:Program)(rec:TypeId->Bool)(total:Nat):Nat->List Field->Bool
 |off,[]=>off==total
 |off,f::r=>(f.offset==off)&&rec f.type&&wT P rec total (off+P.cellsOf f.type) r
def uH(P:Program):Nat->TypeId->Bool
 |0,_=>false
 |d+1,t=>
  match P.underlying t with
  |some .bool|some (.int _)|some .string=>P.cellsOf t==1
  |some (.slice e)=>(P.cellsOf t==1)&&decide (0<P.cellsOf e)&&uH P d e
  |some (.struct a)=>wT P (uH P d) (P.cellsOf t) 0 a.toList
  |some (.array n e)=>(P.cellsOf t==n*P.cellsOf e)&&uH P d e
  |_=>false
def wZ(w:World):tG:=λa=>match w.cell? a with|some v=>if v.oneCell'=true then some v else none|none=>none
theorem BM{w:World}{a:Addr}{v:Value}(h:wZ w a=some v):w.cell? a=some v:=by
 unfold wZ at h
 split at h
 ·split at h
  ·cases h;assumption
  ·cases h
 ·cases h
theorem allS_one{w:World}{a:Addr}{v:Value}(h:wZ w a=some v):v.oneCell'=true:=by
 unfold wZ at h
 split at h
 ·split at h
  ·cases h;assumption
  ·cases h
 ·cases h
theorem DU{w:World}{a:Addr}{v:Value}(h:w.cell? a=some v)(h1:v.oneCell'=true):wZ w a=some v:=by simp [wZ,h,h1]
structure VC(S:tG)(cs:List PD)(vs:List Value):Prop where
 len:vs.length=cs.length
 at_:∀(i:Nat)c v,cs[i]? =some c->vs[i]? =some v->V S c v
 one:∀v∈vs,v.oneCell'=true
 pone:∀c∈cs,c.one=true
theorem VC.append{S:tG}{cs a:List PD}{vs g:List Value}(h:VC S cs vs)(j:VC S a g):VC S (cs++a) (vs++g):=by
 refine⟨by simp [h.len,j.len],λi c v h1 k=>?_,λv f=>?_,λc hc=>?_⟩
 ·by_cases hi:i<cs.length
  ·rw [ES hi]at h1
   rw [ES (by rw [h.len];exact hi)]at k
   exact h.at_ i c v h1 k
  ·rw [ET za]at h1
   rw [ET (by rw [h.len];omega),h.len]at k
   exact j.at_ _ c v h1 k
 ·rcases List.mem_append.1 f with f|f
  ·exact h.one v f
  ·exact j.one v f
 ·rcases List.mem_append.1 hc with hc|hc
  ·exact h.pone c hc
  ·exact j.pone c hc
theorem VC.nil{S:tG}:VC S [] []:=⟨rfl,zb,zb,zb⟩
theorem VC.sing{S:tG}{c:PD}{v:Value}(h:V S c v)(h1:v.oneCell'=true)(g:c.one=true):VC S [c] [v]:=by
 refine⟨rfl,λi j v' a f=>?_,by simpa using h1,by simpa using g⟩
 cases i with
 |zero=>simp only [EV,Option.some.injEq]at a f;subst a f;exact h
 |succ i=>simp at a
section
variable {H:Type}{enc:TypeId×Value->H}{P:Program}{w:World}{sp:Nat->Bool}{held:Bool}
theorem Sh.len{d:Nat}{t:TypeId}{cs:List PD}(h:Sh P d t cs)(hp:uH P d t=true):cs.length=P.cellsOf t:=by
 cases d with
 |zero=>cases h
 |succ d=>
  unfold Sh at h
  unfold uH at hp
  split at h<;>rename_i hu<;>(try simp only [hu]at hp)<;>(try exact h.elim)<;>(try simp at hp)
  ·obtain⟨b,rfl⟩:=h;simp [hp]
  ·obtain⟨b,rfl,_⟩:=h;simp [hp]
  ·obtain⟨b,rfl,_⟩:=h;simp [hp]
  ·obtain⟨b,rfl,_⟩:=h;simp [hp]
  ·exact h.1
  ·exact h.1
theorem BS{d:Nat}{vs:List Value}{total:Nat}(x:vs.length=total):∀(k:List Field)(off:Nat),wT P (uH P d) total off k=true->off<=total->
  (∀f∈k,∃cs,Sh P d f.type cs∧VC (wZ w) cs ((vs.drop f.offset).take (P.cellsOf f.type)))->
  ∃cs,VC (wZ w) cs (vs.drop off)∧∀f∈k,off<=f.offset∧Sh P d f.type ((cs.drop (f.offset-off)).take (P.cellsOf f.type))
 | [],off,hp,_,_=>by
  simp only [wT,beq_iff_eq]at hp
  exact⟨[],by rw [List.drop_eq_nil_of_le za];exact VC.nil,zb⟩
 |f::r,off,hp,ho,hf=>by
  simp only [wT,E8,beq_iff_eq]at hp
  obtain⟨⟨c,l⟩,C⟩:=hp
  obtain⟨cs,hs,z⟩:=hf f zb
  have y:=hs.len l
  have u:((vs.drop f.offset).take (P.cellsOf f.type)).length=P.cellsOf f.type:=by rw [z.len,y]
  simp only [FR,FQ]at u
  obtain⟨j,q,p⟩:=BS x r (off+P.cellsOf f.type) C za λg a=>hf g (by simp [a])
  subst c
  refine⟨cs++j,?_,?_⟩
  ·have e:vs.drop f.offset=(vs.drop f.offset).take (P.cellsOf f.type)++vs.drop (f.offset+P.cellsOf f.type):=by
    rw [<-G5,List.take_append_drop]
   rw [e]
   exact z.append q
  ·intro g a
   simp only [GX]at a
   rcases a with rfl|a
   ·refine⟨EB _,?_⟩
    rw [Nat.sub_self,G7, <-y,List.take_left']
    ·exact hs
    ·rfl
   ·obtain⟨h1,B⟩:=p g a
    refine⟨za,?_⟩
    have e:g.offset-f.offset=cs.length+(g.offset-(f.offset+P.cellsOf f.type)):=by omega
    rw [e, <-G5,G6]
    ·exact B
    ·rfl
theorem elems_sh{d:Nat}{e:TypeId}{vs:List Value}(n:Nat)(hp:uH P d e=true)(p:vs.length=n*P.cellsOf e)
  (hf:∀i,i<n->∃cs,Sh P d e cs∧VC (wZ w) cs ((vs.drop (i*P.cellsOf e)).take (P.cellsOf e))):
  ∀m,m<=n->∃cs,VC (wZ w) cs (vs.take (m*P.cellsOf e))∧∀i,i<m->Sh P d e ((cs.drop (i*P.cellsOf e)).take (P.cellsOf e)):=by
 intro m
 induction m with
 |zero=>intro _;exact⟨[],by simpa using VC.nil,λi hi=>za⟩
 |succ m q=>
  intro hm
  obtain⟨cs,k,hs⟩:=q za
  obtain⟨f,c,j⟩:=hf m za
  have g:=c.len hp
  have hle:(m+1)*P.cellsOf e<=n*P.cellsOf e:=E5 _ hm
  rw [G8]at hle
  have l:cs.length=m*P.cellsOf e:=by rw [<-k.len,FR];omega
  refine⟨cs++f,?_,λi hi=>?_⟩
  ·rw [G8,List.take_add]
   exact k.append j
  ·by_cases a:i<m
   ·have h1:(i+1)*P.cellsOf e<=m*P.cellsOf e:=E5 _ a
    rw [G8]at h1
    have:=hs i a
    rw [List.drop_append_of_le_length za,List.take_append_of_le_length (by rw [FQ];omega)]
    exact this
   ·obtain rfl:i=m:=by omega
    rw [<-l,G6 rfl, <-g,List.take_length]
    exact c
theorem A4:∀(d fuel:Nat)(t:TypeId)(vs:List Value)(x:DataW H×List MemPlace),DataW.trod enc P w 0 sp held fuel t vs=some x->uH P d t=true->
  ∃cs,Sh P d t cs∧VC (wZ w) cs vs
 |0,_,_,_,_,_,hp=>by simp [uH]at hp
 |d+1,fuel,t,vs,x,h,hp=>by
  unfold uH at hp
  split at hp<;>rename_i hu
  ·obtain⟨b,rfl,_⟩:=DataW.trod_bool hu h
   exact⟨[.bool b],by unfold Sh;simp only [hu];exact⟨b,rfl⟩,VC.sing (.bool b) rfl rfl⟩
  ·obtain⟨n,rfl,_,hw⟩:=DataW.trod_int hu h
   exact⟨[.int _ n],by unfold Sh;simp only [hu];exact⟨n,rfl,hw⟩,VC.sing (.int _ n) rfl rfl⟩
  ·obtain⟨s,rfl,_,hs⟩:=DataW.trod_string hu h
   exact⟨[.str s.data.toList],by unfold Sh;simp only [hu];exact⟨_,rfl,by simpa using hs⟩,VC.sing (.str s.data.toList) rfl rfl⟩
  ·rename_i e
   simp only [E8,beq_iff_eq,decide_eq_true_eq]at hp
   obtain⟨⟨_,b5⟩,a8⟩:=hp
   rcases DataW.trod_slice hu h with⟨rfl,_⟩|⟨a,len,cap,elems,rest,n,_,rfl,_,_,L,hm,hlen,a6,_,_⟩
   ·exact⟨[.lst []],by unfold Sh;simp only [hu];exact⟨[],rfl,zb,zb⟩,VC.sing (.nil none 0) rfl rfl⟩
   ·have each:∀i,i<len->∃(y:PD)(p:List Value),Sh P d e y.cells∧(ue P e=true->∃l,y= .agg l)∧(ue P e=false->y.one=true)∧VC (wZ w) y.cells p∧p.length=P.cellsOf e∧∀j v,p[j]? =some v->wZ w ((a.add (i*P.cellsOf e)).add j)=some v:=by
     intro i hi
     have h1:=a6 i hi
     rw [ze za,Option.bind_eq_some_iff]at h1
     obtain⟨p,hc,ht⟩:=h1
     obtain⟨_,a5,J⟩:=World.cells?_some hc
     obtain⟨cs,hs,C⟩:=A4 d n e p _ ht a8
     have F:∀j v,p[j]? =some v->wZ w ((a.add (i*P.cellsOf e)).add j)=some v:=λj v hj=>by
      have c0:=(List.getElem?_eq_some_iff.1 hj).1
      exact DU (by rw [J j za,hj]) (C.one v (List.mem_of_getElem? hj))
     cases D:ue P e with
     |true=>exact⟨.agg cs,p,hs,λ_=>⟨cs,rfl⟩,zb,C,a5,F⟩
     |false=>
      have N:cs.length=1:=by
       unfold ue at D
       cases d with
       |zero=>cases hs
       |succ d=>
        unfold Sh at hs
        split at hs<;>rename_i b3<;>(try simp only [b3]at D)<;>first
         |exact hs.elim
         |(obtain⟨_,rfl⟩:=hs;rfl)
         |(obtain⟨_,rfl,_⟩:=hs;rfl)
         |cases D
         |cases hs
      obtain⟨c,rfl⟩:=List.length_eq_one_iff.1 N
      have G:=C.pone c zb
      have Y:c.cells=[c]:=by cases c<;>first|rfl|(cases G)
      exact⟨c,p,by rw [Y];exact hs,zb,λ_=>G,by rw [Y];exact C,a5,F⟩
    let g:Nat->PD:=λi=>if hi:i<len then(each i hi).choose else default
    have gs:∀i,i<len->∃p,Sh P d e (g i).cells∧(ue P e=true->∃l,g i= .agg l)∧(ue P e=false->(g i).one=true)∧VC (wZ w) (g i).cells p∧p.length=P.cellsOf e∧∀j v,p[j]? =some v->wZ w ((a.add (i*P.cellsOf e)).add j)=some v:=by
     intro i hi
     have:=(each i hi).choose_spec
     simp only [g,hi,dif_pos]
     exact this
    have B:∀(i:Nat)y,((EH len).map g)[i]? =some y->i<len∧y=g i:=by
     intro i y O
     have hi:i<len:=by have:=(List.getElem?_eq_some_iff.1 O).1;simpa using this
     refine⟨hi,?_⟩
     simp [hi]at O
     exact O.symm
    refine⟨[.lst ((EH len).map g)],?_,VC.sing ?_ rfl rfl⟩
    ·unfold Sh
     simp only [hu]
     refine⟨_,rfl,so,λy O=>?_⟩
     obtain⟨i,hi⟩:=FP O
     obtain⟨q,rfl⟩:=B i y hi
     obtain⟨p,h1,Q,h3,_⟩:=gs i q
     exact⟨Q,h3,h1⟩
    ·by_cases a7:len=0
     ·subst a7;exact .nil _ _
     ·have E:a.spot=none:=by
       obtain⟨p,_,_,_,_,h5,X⟩:=gs 0 za
       have I:=X 0 (p[0]'za) zb
       have W:=BM I
       simp only [Nat.zero_mul,Addr.add,if_true]at W
       unfold World.cell? at W
       split at W
       ·split at W
        ·cases W
        ·rename_i hs;cases b0:a.spot with
         |none=>rfl
         |some z=>simp [b0]at hs
       ·cases W
      obtain⟨ab,ao,as_⟩:=a
      simp only at E
      subst E
      have u:∀o k,(⟨ab,o,none⟩:Addr).add k=⟨ab,o+k,none⟩:=λo k=>by
       unfold Addr.add
       split
       ·rename_i hk;subst hk;rfl
       ·rfl
      have hV:=V.lst (S:=wZ w) ((EH len).map g) ab ao cap (P.cellsOf e) (λi j=>((wZ w ⟨ab,ao+i*P.cellsOf e+j,none⟩).getD default)) so
       (λy O => by
        obtain⟨i,hi⟩:=FP O
        obtain⟨q,rfl⟩:=B i y hi
        obtain⟨p,_,_,_,T,h5,_⟩:=gs i q
        rw [<-T.len,h5])
       (λi y j z h1 Q => by
        obtain⟨q,rfl⟩:=B i y h1
        obtain⟨p,_,_,_,T,h5,X⟩:=gs i q
        have hj:j<p.length:=by rw [T.len];exact(List.getElem?_eq_some_iff.1 Q).1
        have I:=X j p[j] zb
        rw [u,u]at I
        rw [I];rfl)
       (λi y j z h1 Q => by
        obtain⟨q,rfl⟩:=B i y h1
        obtain⟨p,_,_,_,T,h5,X⟩:=gs i q
        have hj:j<p.length:=by rw [T.len];exact(List.getElem?_eq_some_iff.1 Q).1
        have I:=X j p[j] zb
        rw [u,u]at I
        rw [I]
        exact T.at_ j z p[j] Q zb)
      simpa using hV
  ·rename_i fs
   obtain⟨xs,n,_,_,L,b4,K⟩:=DataW.trod_struct hu h
   obtain ⟨cs, C, hs⟩ := BS (w := w) (d := d) (vs := vs) L fs.toList 0 hp za (λf hf => by
    obtain⟨i,hi⟩:=FP hf
    have q:fs[i]? =some f:=by simpa using hi
    have h1:=K i f q
    have b6:i<fs.size:=(Array.getElem?_eq_some_iff.1 q).1
    rw [ze za]at h1
    have a9:uH P d f.type=true:=by
     have aux:∀(l:List Field)(off:Nat),wT P (uH P d) (P.cellsOf t) off l=true->∀f∈l,uH P d f.type=true:=by
      intro l
      induction l with
      |nil=>simp
      |cons g r ih=>
       intro off hh f hf
       simp only [wT,E8]at hh
       simp only [GX]at hf
       rcases hf with rfl|hf
       ·exact hh.1.2
       ·exact ih _ hh.2 f hf
     exact aux _ _ hp f hf
    exact A4 d n f.type _ _ h1 a9)
   rw [G7]at C
   refine⟨cs,?_,C⟩
   unfold Sh
   simp only [hu]
   exact⟨by rw [<-C.len];exact L,λf hf=>by have:=(hs f hf).2;rwa [Nat.sub_zero]at this⟩
  ·rename_i n e
   simp only [E8,beq_iff_eq]at hp
   obtain⟨xs,m,_,_,L,b4,K⟩:=DataW.trod_array hu h
   obtain ⟨cs, C, hs⟩ := elems_sh (w := w) (vs := vs) n hp.2 (by rw [L, hp.1]) (λi hi => by
    have h1:=K i hi
    rw [ze za]at h1
    exact A4 d m e _ _ h1 hp.2) n (EB _)
   rw [List.take_of_length_le (by rw [L,hp.1];omega)]at C
   refine⟨cs,?_,C⟩
   unfold Sh
   simp only [hu]
   exact⟨by rw [<-C.len];exact L,hs⟩
  ·cases hp
end
theorem mapM_le{α β:Type}{f g:α->Option β}:∀(l:List α)(r:List β),(∀i∈l,∀y,f i=some y->g i=some y)->l.mapM f=some r->l.mapM g=some r
 | [],r,_,h=>by simpa using h
 |a::l,r,c,h=>by
  rw [List.mapM_cons]at h⊢
  cases hf:f a with
  |none=>simp [hf]at h
  |some y=>
   rw [c a zb y hf]
   cases hm:l.mapM f with
   |none=>simp [hf,hm]at h
   |some ys=>
    rw [mapM_le l ys (λi hi=>c i (by simp [hi])) hm]
    simpa [hf,hm]using h
theorem DW{α β:Type}{o a:Option α}{f g:α->Option β}{y:β}(ho:∀x,o=some x->a=some x)(hf:∀x y,f x=some y->g x=some y)(h:o.bind f=some y):a.bind g=some y:=by
 cases o with
 |none=>simp at h
 |some x=>rw [ho x rfl];exact hf x y h
theorem map_le{α β:Type}{o a:Option α}{f:α->β}{y:β}(ho:∀x,o=some x->a=some x)(h:o.map f=some y):a.map f=some y:=by
 cases o with
 |none=>simp at h
 |some x=>rw [ho x rfl];exact h
section
variable {H:Type}{enc:TypeId×Value->H}{P:Program}{w w':World}{sp:Nat->Bool}{held:Bool}
theorem cell_le(hf:∀b,b<w.heap.size->w'.heap[b]? =w.heap[b]?){a:Addr}{v:Value}(h:w.cell? a=some v):w'.cell? a=some v:=by
 have c:a.block<w.heap.size:=by
  unfold World.cell? at h
  by_cases c:a.block<w.heap.size
  ·exact c
  ·rw [Array.getElem?_eq_none za]at h;cases h
 unfold World.cell? at h⊢
 rw [hf _ c];exact h
theorem cells_le(hf:∀b,b<w.heap.size->w'.heap[b]? =w.heap[b]?){base:Nat}{a:Addr}{n:Nat}{r:List Value}(h:w.cells? base a n=some r):w'.cells? base a n=some r:=by
 unfold World.cells? at h⊢
 split at h
 ·rename_i c
  rw [if_pos c]
  exact mapM_le _ _ (λi _ y f=>cell_le hf f) h
 ·cases h
theorem wF{a:Addr}{v:Value}(h:w.cell? a=some v):a.block<w.heap.size:=by
 unfold World.cell? at h
 by_cases c:a.block<w.heap.size
 ·exact c
 ·rw [Array.getElem?_eq_none za]at h;cases h
theorem C0{d:Nat}{total:Nat}:∀(l:List Field)(off:Nat),wT P (uH P d) total off l=true->∀f∈l,uH P d f.type=true:=by
 intro l
 induction l with
 |nil=>simp
 |cons g r c=>
  intro off a f hf
  simp only [wT,E8]at a
  simp only [GX]at hf
  rcases hf with rfl|hf
  ·exact a.1.2
  ·exact c _ a.2 f hf
theorem BX(hf:∀b,b<w.heap.size->w'.heap[b]? =w.heap[b]?):∀(d fuel:Nat)(t:TypeId)(cs:List Value)(x:DataW H×List MemPlace),uH P d t=true->
  DataW.trod enc P w 0 (λ_=>true) held fuel t cs=some x->DataW.trod enc P w' 0 (λb=>decide (b<w.heap.size)) held fuel t cs=some x
 |0,_,_,_,_,hp,_=>by simp [uH]at hp
 |d+1,0,_,_,_,_,h=>by simp [DataW.trod]at h
 |d+1,fuel+1,t,cs,x,hp,h=>by
  have C:=BX hf d fuel
  unfold uH at hp
  unfold DataW.trod at h⊢
  revert hp h
  generalize P.underlying t=u
  intro hp h
  split at h<;>(try exact h)<;>(try(simp only at hp;cases hp;done))
  ·rename_i e a len cap
   simp only [E8,beq_iff_eq,decide_eq_true_eq]at hp
   simp only at h⊢
   split at h
   ·rename_i hc
    rw [if_pos hc]
    have he:∀i y,(w.cells? 0 (a.add (i*P.cellsOf e)) (P.cellsOf e)).bind (DataW.trod enc P w 0 (λ_=>true) held fuel e)=some y->(w'.cells? 0 (a.add (i*P.cellsOf e)) (P.cellsOf e)).bind (DataW.trod enc P w' 0 (λb=>decide (b<w.heap.size)) held fuel e)=some y:=
     λi y g=>DW (λz c=>cells_le hf c) (λz y g=>C _ _ _ hp.2 g) g
    refine DW (λy g=>mapM_le _ _ (λi _ z c=>he i z c) g) (λy z c=>map_le (λr j=>?_) c) h
    rw [if_pos trivial]at j
    by_cases p:cap-len=0
    ·rw [p]at j⊢
     simp only [List.range_zero,List.mapM_nil]at j⊢
     split
     ·exact j
     ·exact j
    ·have B:a.block<w.heap.size:=by
      have hlen:=mapM_some_length j
      have k:=mapM_some_get j 0 0 (show(EH (cap-len))[0]? =some 0 by rw [List.getElem?_range za])
      rw [ze (by rw [hlen];simp;omega),Option.bind_eq_some_iff]at k
      obtain⟨l,k,_⟩:=k
      obtain⟨_,h1,E⟩:=World.cells?_some k
      have D:=E 0 za
      rw [ze za]at D
      have:=wF D
      simpa only [block_add]using this
     rw [if_pos (by simpa using B)]
     exact mapM_le _ _ (λi _ z c=>he _ z c) j
   ·cases h
  ·rename_i F
   simp only at hp
   split at h
   ·rename_i hc
    rw [if_pos hc]
    exact map_le (λy g=>mapM_le _ _ (λf q z c=>C _ _ _ (C0 _ _ hp f q) c) g) h
   ·cases h
  ·rename_i n e
   simp only [E8,beq_iff_eq]at hp
   split at h
   ·rename_i hc
    rw [if_pos hc]
    exact map_le (λy g=>mapM_le _ _ (λf _ z c=>C _ _ _ hp.2 c) g) h
   ·cases h
theorem Ad(hf:∀b,b<w.heap.size->w'.heap[b]? =w.heap[b]?)(d:Nat):∀(ts:List TypeId)(vs:List Value)(a:List (DataW H))(c:List MemPlace),ts.all (uH P d)=true->
  DataW.TrodAll enc P w 0 (λ_=>true) held ts vs a c->DataW.TrodAll enc P w' 0 (λb=>decide (b<w.heap.size)) held ts vs a c
 | [],[],[],_,_,h=>h
 |t::ts,v::vs,j::a,c,hp,⟨p,q,⟨fuel,h1⟩,f,g⟩=>by
  simp only [G4,E8]at hp
  exact⟨p,q,⟨fuel,BX hf d _ _ _ _ hp.1 h1⟩,Ad hf d ts vs a q hp.2 f,g⟩
def ShV(P:Program)(d:Nat)(t:TypeId)(p:PD):Prop:=(ue P t=true->∃l,p= .agg l)∧(ue P t=false->p.one=true)∧Sh P d t p.cells
end
theorem BJ{E:Prop}{w w':World}(h:Frame E [] w w')(may:MemPlace->Prop):w.keptBut w' may:=by
 refine⟨h.os,h.output,λi hi=>?_⟩
 rw [h.block i hi zb]
 cases w.heap[i]? with
 |none=>rfl
 |some o=>cases o<;>simp
def Cz(P:Program)(d:Nat):List TypeId->List PD->Prop
 | [],[]=>True
 |t::ts,p::a=>ShV P d t p∧Cz P d ts a
 |_,_=>False
def VAll(S:tG):List PD->List Value->Prop
 | [],[]=>True
 |p::a,v::vs=>V S p v∧VAll S a vs
 |_,_=>False
theorem VAll.len{S:tG}:∀{a:List PD}{vs:List Value},VAll S a vs->a.length=vs.length
 | [],[],_=>rfl
 |p::a,v::vs,h=>by simp [VAll.len h.2]
theorem VAll.at_{S:tG}:∀{c:List PD}{vs:List Value},VAll S c vs->∀(i:Nat)p v,c[i]? =some p->vs[i]? =some v->V S p v
 | [],[],_,i,p,v,h,_=>by simp at h
 |p::c,v::vs,h,0,_,_,h1,a=>by simp only [EV,Option.some.injEq]at h1 a;subst h1 a;exact h.1
 |p::c,v::vs,h,i+1,_,_,h1,a=>by simp only [List.getElem?_cons_succ]at h1 a;exact h.2.at_ i _ _ h1 a
section
variable {H:Type}{enc:TypeId×Value->H}{P:Program}{w:World}{sp:Nat->Bool}{held:Bool}
theorem Dp{t:TypeId}{v:Value}{r:Reach}{b:Nat}(f:ue P t=false)(a:Value.okWide P w r b t v):v.cells.toList=[v]:=by
 unfold ue at f
 unfold Value.okWide at a
 split at a
 ·rename_i hu;simp [hu]at f
 ·rename_i hu;simp [hu]at f
 ·unfold Cell.okWide at a
  cases v<;>first|rfl|skip
  exfalso
  split at a<;>(try(rename_i h1 c;cases c;done))
  unfold Cell.ok at a
  split at a<;>first|(rename_i h1 c;cases c;done)|exact a
theorem arg_sh{d:Nat}{t:TypeId}{v:Value}{q:DataW H}{z:List MemPlace}{r:Reach}{b:Nat}(hp:uH P d t=true)(j:Value.okWide P w r b t v)(h:DataW.Trod enc P w 0 sp held t v q z):
  ∃p,V (wZ w) p v∧ShV P d t p:=by
 obtain⟨fuel,h⟩:=h
 obtain⟨cs,hs,hc⟩:=A4 d fuel t _ _ h hp
 cases f:ue P t with
 |true=>
  refine⟨.agg cs,?_,λ_=>⟨cs,rfl⟩,(by rw [f];simp),hs⟩
  have l:∃arr,v= .agg arr:=by
   unfold ue at f
   unfold Value.okWide at j
   split at f<;>rename_i hu<;>simp only [hu]at j
   ·exact⟨_,j.choose_spec.1⟩
   ·exact⟨_,j.choose_spec.1⟩
   ·cases f
  obtain⟨arr,rfl⟩:=l
  have g:VC (wZ w) cs arr.toList:=hc
  exact .agg cs arr (by simpa using g.len) λi p u h1 x=>g.at_ i p u h1 (by simpa using x)
 |false=>
  have h1:=Dp f j
  rw [h1]at hc
  have y:=hc.len
  obtain⟨c,rfl⟩:∃c,cs=[c]:=List.length_eq_one_iff.1 (by simpa using y.symm)
  have a:=hc.pone c zb
  have k:c.cells=[c]:=by cases c<;>first|rfl|(cases a)
  exact⟨c,hc.at_ 0 c v rfl rfl,(by rw [f];simp),λ_=>a,by rw [k];exact hs⟩
theorem DV{d:Nat}{r:Reach}{b:Nat}:∀(ts:List TypeId)(vs:List Value)(c:List (DataW H))(g:List MemPlace),ts.all (uH P d)=true->
  (∀(j:Nat)t v,ts[j]? =some t->vs[j]? =some v->Value.okWide P w r b t v)->DataW.TrodAll enc P w 0 sp held ts vs c g->∃a,VAll (wZ w) a vs∧Cz P d ts a
 | [],[],[],_,_,_,_=>⟨[],trivial,trivial⟩
 |t::ts,v::vs,u::c,g,hp,f,⟨p,q,h1,l,x⟩=>by
  simp only [G4,E8]at hp
  obtain⟨pd,g1,g2⟩:=arg_sh hp.1 (f 0 t v rfl rfl) h1
  obtain⟨a,g3,g4⟩:=DV ts vs c q hp.2 (λj t v h k=>f (j+1) t v h k) l
  exact⟨pd::a,⟨g1,g3⟩,g2,g4⟩
theorem law_post{f:Func}{s:ChangeSpec}{W k:World}{args:Array Value}{a gs:List (DataW H)}{before:List MemPlace}{d:Nat}{tb:TypeId}(B:DataW.Whole enc P f.params.toList s.vars false W args.toList a gs before)
  (hp:f.params.toList.all (uH P d)=true) (c:s.vars=[]) (hs:∀a:List (DataW H),a.length=f.params.size->s.fn H a={ results:=[.lit (.bool true)],args:=a }) (D:f.resultTypes= #[tb]) (r:P.underlying tb=some .bool)
  {E:Prop} (j:Frame E [] W k):s.post enc P f false true false false W args (.bool true) k:=by
 have l:=B
 obtain⟨p,q,z,hV,rfl,J,I⟩:=B
 rw [c]at hV
 obtain⟨rfl,rfl⟩:=trodVars_none hV
 have hlen:∀(ts:List TypeId)(vs:List Value)(a:List (DataW H))(y:List MemPlace),DataW.TrodAll enc P W 0 (λ_=>true) true ts vs a y->a.length=ts.length:=by
  intro ts
  induction ts with
  |nil=>intro vs a y h;cases vs<;>cases a<;>first|rfl|cases h
  |cons t ts F=>
   intro vs a y h
   match vs,a,h with
   |v::vs,G::a,⟨_,_,_,C,_⟩=>simp [F _ _ _ C]
 have x:=hlen _ _ _ _ z
 have g:=hs (a++[]) (by simpa using x)
 have u:∀b,b<W.heap.size->k.heap[b]? =W.heap[b]? :=λb r=>j.block b r zb
 refine⟨a,[],p++[],[],p,[],l,?_,?_,?_,BJ j _,λh=>by cases h⟩
 ·rw [g,D]
  exact trodAll_cons_mk (shut_bool r _) trodAll_mk0
 ·rw [g]
  simp only [List.append_nil]
  exact Ad u d _ _ _ _ hp z
 ·rw [g,c]
  exact rfl
theorem Ei{base:wX}{f:FuncId}{fn:Func}{s:ChangeSpec}{W:World}{r:Reach}{N:Nat}{args:Array Value}{u gs:List (DataW H)}{before:List MemPlace}{d:Nat}{tb:TypeId}(y:Enters P f)
  (E:∀(j:Nat)t v,fn.params[j]? =some t->args[j]? =some v->Value.okWide P W r N t v)
  (K:DataW.Whole enc P fn.params.toList s.vars false W args.toList u gs before)
  (hp:fn.params.toList.all (uH P d)=true) (l:s.vars=[]) (hs:∀u:List (DataW H),u.length=fn.params.size->s.fn H u={ results:=[.lit (.bool true)],args:=u }) (Y:fn.resultTypes= #[tb]) (T:P.underlying tb=some .bool)
  (c:∀a v,base.snap a=some v->W.cell? a=some v∧v.oneCell'=true)
  (B:∀x∈base.objs,W.heap[x.1]? =some x.2∧∃o v,base.snap ⟨x.1,o,none⟩=some v)
  (h:∀g,Cz P d fn.params.toList g->uM P base f (g.map .d) [] (.d (.bool true)) []):
  Calls P f args W λe J=>∃v,e= .returned v∧s.post enc P fn false true false false W args v J:=by
 have F:=K
 obtain⟨p,q,Q,hV,rfl,hz,hn⟩:=K
 obtain⟨g,h1,O⟩:=DV fn.params.toList args.toList u p hp (λj t v ht D=>E j t v (by simpa using ht) (by simpa using D)) Q
 have z:Mem P (wZ W) (look []) (look []) W:=⟨(λid bx h=>by cases h),(λid L h=>by cases h),(λad v=>BM),(λad v=>allS_one),(λid L b h=>by cases h),(λid a5 L L' b h=>by cases h)⟩
 have hc:=h g O (wZ W) W [] args z rfl (λa v k=>DU (c a v k).1 (c a v k).2) B
  (by have := h1.len; simpa using this) (λi a v k D => by
   simp only [List.getElem?_map,Option.map_eq_some_iff]at k
   obtain⟨pd,I,rfl⟩:=k
   exact .d (h1.at_ i pd v I (by simpa using D)))
 refine(hc.calls y).mono ?_
 rintro e J ⟨v,rfl,S',a6,k⟩
 have G:=k.frame
 have D:v= .bool true:=by
  have C:=k.res
  cases C with
  |d X=>cases X with|bool=>rfl
 subst D
 exact⟨_,rfl,law_post F hp l hs Y T G⟩
end
theorem wV{p:PD}(h:p.one=true):p.cells=[p]:=by cases p<;>first|rfl|(cases h)
section
variable {P:Program}{d:Nat}{t:TypeId}
theorem ShV.int{k:IntKind}{p:PD}(hu:P.underlying t=some (.int k))(h:ShV P d t p):∃n,p= .int k n∧(Lit.int k n).wf=true:=by
 obtain⟨_,h1,a⟩:=h
 rw [wV (h1 (by simp [ue,hu]))]at a
 cases d with
 |zero=>cases a
 |succ d=>
  unfold Sh at a
  simp only [hu]at a
  obtain⟨n,c,f⟩:=a
  simp only [List.cons.injEq,and_true]at c
  exact⟨n,c,f⟩
theorem ShV.bool{p:PD}(hu:P.underlying t=some .bool)(h:ShV P d t p):∃b,p= .bool b:=by
 obtain⟨_,h1,a⟩:=h
 rw [wV (h1 (by simp [ue,hu]))]at a
 cases d with
 |zero=>cases a
 |succ d=>
  unfold Sh at a
  simp only [hu]at a
  obtain⟨n,c⟩:=a
  simp only [List.cons.injEq,and_true]at c
  exact⟨n,c⟩
theorem ShV.str{p:PD}(hu:P.underlying t=some .string)(h:ShV P d t p):∃s,p= .str s∧s.length<=maxLen:=by
 obtain⟨_,h1,a⟩:=h
 rw [wV (h1 (by simp [ue,hu]))]at a
 cases d with
 |zero=>cases a
 |succ d=>
  unfold Sh at a
  simp only [hu]at a
  obtain⟨n,c,f⟩:=a
  simp only [List.cons.injEq,and_true]at c
  exact⟨n,c,f⟩
theorem ShV.lst{α:Type}{e:TypeId}{g:α->PD}{Q:α->Prop}{p:PD}(hu:P.underlying t=some (.slice e))(h:ShV P (d+1) t p)(z:∀x,ShV P d e x->∃a,x=g a∧Q a):
  ∃l:List α,p= .lst (l.map g)∧l.length<=maxLen∧∀a∈l,Q a:=by
 obtain⟨_,h1,c⟩:=h
 rw [wV (h1 (by simp [ue,hu]))]at c
 unfold Sh at c
 simp only [hu]at c
 obtain⟨es,j,q,r⟩:=c
 simp only [List.cons.injEq,and_true]at j
 subst j
 have each:∀x∈es,∃a,x=g a∧Q a:=λx hm=>z x (r x hm)
 have key:∀es:List PD,(∀x∈es,∃a,x=g a∧Q a)->∃l:List α,es=l.map g∧∀a∈l,Q a:=by
  intro es
  induction es with
  |nil=>exact λ_=>⟨[],rfl,zb⟩
  |cons x es C=>
   intro k
   obtain⟨a,rfl,u⟩:=k x zb
   obtain⟨l,rfl,f⟩:=C λy B=>k y (by simp [B])
   exact⟨a::l,rfl,by simpa using⟨u,f⟩⟩
 obtain⟨l,rfl,f⟩:=key es each
 exact⟨l,rfl,by simpa using q,f⟩
theorem ShV.ints{e:TypeId}{k:IntKind}{p:PD}(hu:P.underlying t=some (.slice e))(he:P.underlying e=some (.int k))(h:ShV P (d+1) t p):
  ∃l:List Int,p= .lst (l.map (.int k))∧l.length<=maxLen∧∀n∈l,(Lit.int k n).wf=true:=ShV.lst hu h λ_ a=>ShV.int he a
end
end Go.Dw
