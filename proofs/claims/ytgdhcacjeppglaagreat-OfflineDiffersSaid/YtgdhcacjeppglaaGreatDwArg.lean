
import Derived.Test.YtgdhcacjeppglaaGreatDwWp
import Derived.OpenShut
import Derived.RowKit3
import Derived.Deep.DeepHandedRow
set_option linter.unusedVariables false
set_option linter.unusedSimpArgs false
open List renaming all_cons->C0, drop_drop->C1, drop_left'->C2, drop_zero->CP, getElem?_append_left->AR, getElem?_append_right->AS, getElem?_cons_zero->AU, getElem?_of_mem->Au, length_drop->Av, length_take->Aw, mem_cons->Ba, range->AI
open Bool renaming and_eq_true->Ac
open Nat renaming le_refl->AB, mul_le_mul_right->A9, succ_mul->C3

namespace Go.Dw
open Go.ChangeShapes Go.WideShapes Go.ChangeAt Go.RowKit
def Sh(P:Program):Nat->TypeId->List PD->Prop
 |0,_,_=>False
 |d+1,t,cs=>
  match P.underlying t with
  |some .bool=>∃b,cs=[.bool b]
  |some (.int k)=>∃n,cs=[.int k n]∧(Lit.int k n).wf=true
  |some .string=>∃s,cs=[.str s]∧s.length<=maxLen
  |some (.slice e)=>∃es,cs=[.lst es]∧es.length<=maxLen∧∀x∈es,(cM P e=true->∃l,x= .agg l)∧(cM P e=false->x.one=true)∧Sh P d e x.cells
  |some (.struct a)=>cs.length=P.cellsOf t∧∀f∈a.toList,Sh P d f.type ((cs.drop f.offset).take (P.cellsOf f.type))
  |some (.array n e)=>cs.length=P.cellsOf t∧∀i,i<n->Sh P d e ((cs.drop (i*P.cellsOf e)).take (P.cellsOf e))
  |_=>False
def ff(P:Program)(rec:TypeId->Bool)(total:Nat):Nat->List Field->Bool
 |off,[]=>off==total
 |off,f::r=>(f.offset==off)&&rec f.type&&ff P rec total (off+P.cellsOf f.type) r
def dc(P:Program):Nat->TypeId->Bool
 |0,_=>false
 |d+1,t=>
  match P.underlying t with
  |some .bool|some (.int _)|some .string=>P.cellsOf t==1
  |some (.slice e)=>(P.cellsOf t==1)&&decide (0<P.cellsOf e)&&dc P d e
  |some (.struct a)=>ff P (dc P d) (P.cellsOf t) 0 a.toList
  |some (.array n e)=>(P.cellsOf t==n*P.cellsOf e)&&dc P d e
  |_=>false
def fj(w:World):cp:=fun a=>match w.cell? a with|some v=>if v.oneCell'=true then some v else none|none=>none
theorem kT{w:World}{a:Addr}{v:Value}(h:fj w a=some v):w.cell? a=some v:=by
 unfold fj at h
 split at h
 ·split at h
  ·cases h;assumption
  ·cases h
 ·cases h
theorem allS_one{w:World}{a:Addr}{v:Value}(h:fj w a=some v):v.oneCell'=true:=by
 unfold fj at h
 split at h
 ·split at h
  ·cases h;assumption
  ·cases h
 ·cases h
theorem nP{w:World}{a:Addr}{v:Value}(h:w.cell? a=some v)(h1:v.oneCell'=true):fj w a=some v:=by simp [fj,h,h1]
structure VC(S:cp)(cs:List PD)(vs:List Value):Prop where
 len:vs.length=cs.length
 at_:∀(i:Nat)c v,cs[i]? =some c->vs[i]? =some v->V S c v
 one:∀v∈vs,v.oneCell'=true
 pone:∀c∈cs,c.one=true
theorem VC.append{S:cp}{cs a:List PD}{vs e:List Value}(h:VC S cs vs)(f:VC S a e):VC S (cs++a) (vs++e):=by
 refine⟨by simp [h.len,f.len],fun i c v h1 g=>?_,fun v b=>?_,fun c hc=>?_⟩
 ·by_cases j:i<cs.length
  ·rw [AR j]at h1
   rw [AR (by rw [h.len];exact j)]at g
   exact h.at_ i c v h1 g
  ·rw [AS om]at h1
   rw [AS (by rw [h.len];omega),h.len]at g
   exact f.at_ _ c v h1 g
 ·rcases List.mem_append.1 b with b|b
  ·exact h.one v b
  ·exact f.one v b
 ·rcases List.mem_append.1 hc with hc|hc
  ·exact h.pone c hc
  ·exact f.pone c hc
theorem VC.nil{S:cp}:VC S [] []:=⟨rfl,sm,sm,sm⟩
theorem VC.sing{S:cp}{c:PD}{v:Value}(h:V S c v)(h1:v.oneCell'=true)(e:c.one=true):VC S [c] [v]:=by
 refine⟨rfl,fun i f v' a b=>?_,by simpa using h1,by simpa using e⟩
 cases i with
 |zero=>simp only [AU,Option.some.injEq]at a b;subst a b;exact h
 |succ i=>simp at a
section
variable {H:Type}{enc:TypeId×Value->H}{P:Program}{w:World}{sp:Nat->Bool}{held:Bool}
theorem Sh.len{d:Nat}{t:TypeId}{cs:List PD}(h:Sh P d t cs)(a:dc P d t=true):cs.length=P.cellsOf t:=by
 cases d with
 |zero=>cases h
 |succ d=>
  unfold Sh at h
  unfold dc at a
  split at h<;>rename_i hu<;>(try simp only [hu]at a)<;>(try exact h.elim)<;>(try simp at a)
  ·obtain⟨b,rfl⟩:=h;simp [a]
  ·obtain⟨b,rfl,_⟩:=h;simp [a]
  ·obtain⟨b,rfl,_⟩:=h;simp [a]
  ·obtain⟨b,rfl,_⟩:=h;simp [a]
  ·exact h.1
  ·exact h.1
theorem k7{d:Nat}{vs:List Value}{total:Nat}(o:vs.length=total):∀(j:List Field)(off:Nat),ff P (dc P d) total off j=true->off<=total->
  (∀f∈j,∃cs,Sh P d f.type cs∧VC (fj w) cs ((vs.drop f.offset).take (P.cellsOf f.type)))->
  ∃cs,VC (fj w) cs (vs.drop off)∧∀f∈j,off<=f.offset∧Sh P d f.type ((cs.drop (f.offset-off)).take (P.cellsOf f.type))
 | [],off,c,_,_=>by
  simp only [ff,beq_iff_eq]at c
  exact⟨[],by rw [List.drop_eq_nil_of_le om];exact VC.nil,sm⟩
 |f::r,off,c,ho,hf=>by
  simp only [ff,Ac,beq_iff_eq]at c
  obtain⟨⟨b,k⟩,u⟩:=c
  obtain⟨cs,p,q⟩:=hf f sm
  have hl:=p.len k
  have n:((vs.drop f.offset).take (P.cellsOf f.type)).length=P.cellsOf f.type:=by rw [q.len,hl]
  simp only [Aw,Av]at n
  obtain⟨i,m,l⟩:=k7 o r (off+P.cellsOf f.type) u om fun g a=>hf g (by simp [a])
  subst b
  refine⟨cs++i,?_,?_⟩
  ·have e:vs.drop f.offset=(vs.drop f.offset).take (P.cellsOf f.type)++vs.drop (f.offset+P.cellsOf f.type):=by
    rw [<-C1,List.take_append_drop]
   rw [e]
   exact q.append m
  ·intro g a
   simp only [Ba]at a
   rcases a with rfl|a
   ·refine⟨AB _,?_⟩
    rw [Nat.sub_self,CP, <-hl,List.take_left']
    ·exact p
    ·rfl
   ·obtain⟨h1,s⟩:=l g a
    refine⟨om,?_⟩
    have e:g.offset-f.offset=cs.length+(g.offset-(f.offset+P.cellsOf f.type)):=by omega
    rw [e, <-C1,C2]
    ·exact s
    ·rfl
theorem elems_sh{d:Nat}{e:TypeId}{vs:List Value}(n:Nat)(l:dc P d e=true)(p:vs.length=n*P.cellsOf e)
  (hf:∀i,i<n->∃cs,Sh P d e cs∧VC (fj w) cs ((vs.drop (i*P.cellsOf e)).take (P.cellsOf e))):
  ∀m,m<=n->∃cs,VC (fj w) cs (vs.take (m*P.cellsOf e))∧∀i,i<m->Sh P d e ((cs.drop (i*P.cellsOf e)).take (P.cellsOf e)):=by
 intro m
 induction m with
 |zero=>intro _;exact⟨[],by simpa using VC.nil,fun i k=>om⟩
 |succ m q=>
  intro hm
  obtain⟨cs,j,o⟩:=q om
  obtain⟨c,b,g⟩:=hf m om
  have f:=b.len l
  have hle:(m+1)*P.cellsOf e<=n*P.cellsOf e:=A9 _ hm
  rw [C3]at hle
  have hl:cs.length=m*P.cellsOf e:=by rw [<-j.len,Aw];omega
  refine⟨cs++c,?_,fun i k=>?_⟩
  ·rw [C3,List.take_add]
   exact j.append g
  ·by_cases a:i<m
   ·have h1:(i+1)*P.cellsOf e<=m*P.cellsOf e:=A9 _ a
    rw [C3]at h1
    have:=o i a
    rw [List.drop_append_of_le_length om,List.take_append_of_le_length (by rw [Av];omega)]
    exact this
   ·obtain rfl:i=m:=by omega
    rw [<-hl,C2 rfl, <-f,List.take_length]
    exact b
theorem jS:∀(d fuel:Nat)(t:TypeId)(vs:List Value)(x:DataW H×List MemPlace),DataW.trod enc P w 0 sp held fuel t vs=some x->dc P d t=true->
  ∃cs,Sh P d t cs∧VC (fj w) cs vs
 |0,_,_,_,_,_,E=>by simp [dc]at E
 |d+1,fuel,t,vs,x,h,E=>by
  unfold dc at E
  split at E<;>rename_i hu
  ·obtain⟨b,rfl,_⟩:=DataW.trod_bool hu h
   exact⟨[.bool b],by unfold Sh;simp only [hu];exact⟨b,rfl⟩,VC.sing (.bool b) rfl rfl⟩
  ·obtain⟨n,rfl,_,hw⟩:=DataW.trod_int hu h
   exact⟨[.int _ n],by unfold Sh;simp only [hu];exact⟨n,rfl,hw⟩,VC.sing (.int _ n) rfl rfl⟩
  ·obtain⟨s,rfl,_,B⟩:=DataW.trod_string hu h
   exact⟨[.str s.data.toList],by unfold Sh;simp only [hu];exact⟨_,rfl,by simpa using B⟩,VC.sing (.str s.data.toList) rfl rfl⟩
  ·rename_i e
   simp only [Ac,beq_iff_eq,decide_eq_true_eq]at E
   obtain⟨⟨_,a9⟩,a4⟩:=E
   rcases DataW.trod_slice hu h with⟨rfl,_⟩|⟨a,len,cap,elems,rest,n,_,rfl,_,_,hl,hm,hlen,a2,_,_⟩
   ·exact⟨[.lst []],by unfold Sh;simp only [hu];exact⟨[],rfl,sm,sm⟩,VC.sing (.nil none 0) rfl rfl⟩
   ·have each:∀i,i<len->∃(y:PD)(p:List Value),Sh P d e y.cells∧(cM P e=true->∃l,y= .agg l)∧(cM P e=false->y.one=true)∧VC (fj w) y.cells p∧p.length=P.cellsOf e∧∀j v,p[j]? =some v->fj w ((a.add (i*P.cellsOf e)).add j)=some v:=by
     intro i u
     have h1:=a2 i u
     rw [zc om,Option.bind_eq_some_iff]at h1
     obtain⟨p,hc,ht⟩:=h1
     obtain⟨_,a1,N⟩:=World.cells?_some hc
     obtain⟨cs,B,F⟩:=jS d n e p _ ht a4
     have J:∀j v,p[j]? =some v->fj w ((a.add (i*P.cellsOf e)).add j)=some v:=fun j v hj=>by
      have b1:=(List.getElem?_eq_some_iff.1 hj).1
      exact nP (by rw [N j om,hj]) (F.one v (List.mem_of_getElem? hj))
     cases G:cM P e with
     |true=>exact⟨.agg cs,p,B,fun _=>⟨cs,rfl⟩,sm,F,a1,J⟩
     |false=>
      have Q:cs.length=1:=by
       unfold cM at G
       cases d with
       |zero=>cases B
       |succ d=>
        unfold Sh at B
        split at B<;>rename_i a7<;>(try simp only [a7]at G)<;>first
         |exact B.elim
         |(obtain⟨_,rfl⟩:=B;rfl)
         |(obtain⟨_,rfl,_⟩:=B;rfl)
         |cases G
         |cases B
      obtain⟨c,rfl⟩:=List.length_eq_one_iff.1 Q
      have K:=F.pone c sm
      have a0:c.cells=[c]:=by cases c<;>first|rfl|(cases K)
      exact⟨c,p,by rw [a0];exact B,sm,fun _=>K,by rw [a0];exact F,a1,J⟩
    let g:Nat->PD:=fun i=>if u:i<len then(each i u).choose else default
    have gs:∀i,i<len->∃p,Sh P d e (g i).cells∧(cM P e=true->∃l,g i= .agg l)∧(cM P e=false->(g i).one=true)∧VC (fj w) (g i).cells p∧p.length=P.cellsOf e∧∀j v,p[j]? =some v->fj w ((a.add (i*P.cellsOf e)).add j)=some v:=by
     intro i u
     have:=(each i u).choose_spec
     simp only [g,u,dif_pos]
     exact this
    have D:∀(i:Nat)y,((AI len).map g)[i]? =some y->i<len∧y=g i:=by
     intro i y T
     have u:i<len:=by have:=(List.getElem?_eq_some_iff.1 T).1;simpa using this
     refine⟨u,?_⟩
     simp [u]at T
     exact T.symm
    refine⟨[.lst ((AI len).map g)],?_,VC.sing ?_ rfl rfl⟩
    ·unfold Sh
     simp only [hu]
     refine⟨_,rfl,so,fun y T=>?_⟩
     obtain⟨i,u⟩:=Au T
     obtain⟨q,rfl⟩:=D i y u
     obtain⟨p,h1,U,h3,_⟩:=gs i q
     exact⟨U,h3,h1⟩
    ·by_cases a3:len=0
     ·subst a3;exact .nil _ _
     ·have I:a.spot=none:=by
       obtain⟨p,_,_,_,_,h5,Y⟩:=gs 0 om
       have L:=Y 0 (p[0]'om) sm
       have X:=kT L
       simp only [Nat.zero_mul,Addr.add,if_true]at X
       unfold World.cell? at X
       split at X
       ·split at X
        ·cases X
        ·rename_i B;cases a6:a.spot with
         |none=>rfl
         |some z=>simp [a6]at B
       ·cases X
      obtain⟨ab,ao,as_⟩:=a
      simp only at I
      subst I
      have C:∀o k,(⟨ab,o,none⟩:Addr).add k=⟨ab,o+k,none⟩:=fun o k=>by
       unfold Addr.add
       split
       ·rename_i hk;subst hk;rfl
       ·rfl
      have hV:=V.lst (S:=fj w) ((AI len).map g) ab ao cap (P.cellsOf e) (fun i j=>((fj w ⟨ab,ao+i*P.cellsOf e+j,none⟩).getD default)) so
       (fun y T => by
        obtain⟨i,u⟩:=Au T
        obtain⟨q,rfl⟩:=D i y u
        obtain⟨p,_,_,_,W,h5,_⟩:=gs i q
        rw [<-W.len,h5])
       (fun i y j z h1 U => by
        obtain⟨q,rfl⟩:=D i y h1
        obtain⟨p,_,_,_,W,h5,Y⟩:=gs i q
        have hj:j<p.length:=by rw [W.len];exact(List.getElem?_eq_some_iff.1 U).1
        have L:=Y j p[j] sm
        rw [C,C]at L
        rw [L];rfl)
       (fun i y j z h1 U => by
        obtain⟨q,rfl⟩:=D i y h1
        obtain⟨p,_,_,_,W,h5,Y⟩:=gs i q
        have hj:j<p.length:=by rw [W.len];exact(List.getElem?_eq_some_iff.1 U).1
        have L:=Y j p[j] sm
        rw [C,C]at L
        rw [L]
        exact W.at_ j z p[j] U sm)
      simpa using hV
  ·rename_i fs
   obtain⟨xs,n,_,_,hl,a8,O⟩:=DataW.trod_struct hu h
   obtain ⟨cs, F, B⟩ := k7 (w := w) (d := d) (vs := vs) hl fs.toList 0 E om (fun f hf => by
    obtain⟨i,u⟩:=Au hf
    have q:fs[i]? =some f:=by simpa using u
    have h1:=O i f q
    have b0:i<fs.size:=(Array.getElem?_eq_some_iff.1 q).1
    rw [zc om]at h1
    have a5:dc P d f.type=true:=by
     have aux:∀(l:List Field)(off:Nat),ff P (dc P d) (P.cellsOf t) off l=true->∀f∈l,dc P d f.type=true:=by
      intro l
      induction l with
      |nil=>simp
      |cons g r ih=>
       intro off hh f hf
       simp only [ff,Ac]at hh
       simp only [Ba]at hf
       rcases hf with rfl|hf
       ·exact hh.1.2
       ·exact ih _ hh.2 f hf
     exact aux _ _ E f hf
    exact jS d n f.type _ _ h1 a5)
   rw [CP]at F
   refine⟨cs,?_,F⟩
   unfold Sh
   simp only [hu]
   exact⟨by rw [<-F.len];exact hl,fun f hf=>by have:=(B f hf).2;rwa [Nat.sub_zero]at this⟩
  ·rename_i n e
   simp only [Ac,beq_iff_eq]at E
   obtain⟨xs,m,_,_,hl,a8,O⟩:=DataW.trod_array hu h
   obtain ⟨cs, F, B⟩ := elems_sh (w := w) (vs := vs) n E.2 (by rw [hl, E.1]) (fun i u => by
    have h1:=O i u
    rw [zc om]at h1
    exact jS d m e _ _ h1 E.2) n (AB _)
   rw [List.take_of_length_le (by rw [hl,E.1];omega)]at F
   refine⟨cs,?_,F⟩
   unfold Sh
   simp only [hu]
   exact⟨by rw [<-F.len];exact hl,B⟩
  ·cases E
end
theorem mapM_le{α β:Type}{f g:α->Option β}:∀(l:List α)(r:List β),(∀i∈l,∀y,f i=some y->g i=some y)->l.mapM f=some r->l.mapM g=some r
 | [],r,_,h=>by simpa using h
 |a::l,r,b,h=>by
  rw [List.mapM_cons]at h⊢
  cases hf:f a with
  |none=>simp [hf]at h
  |some y=>
   rw [b a sm y hf]
   cases hm:l.mapM f with
   |none=>simp [hf,hm]at h
   |some ys=>
    rw [mapM_le l ys (fun i c=>b i (by simp [c])) hm]
    simpa [hf,hm]using h
theorem nR{α β:Type}{o a:Option α}{f g:α->Option β}{y:β}(ho:∀x,o=some x->a=some x)(hf:∀x y,f x=some y->g x=some y)(h:o.bind f=some y):a.bind g=some y:=by
 cases o with
 |none=>simp at h
 |some x=>rw [ho x rfl];exact hf x y h
theorem map_le{α β:Type}{o a:Option α}{f:α->β}{y:β}(ho:∀x,o=some x->a=some x)(h:o.map f=some y):a.map f=some y:=by
 cases o with
 |none=>simp at h
 |some x=>rw [ho x rfl];exact h
section
variable {H:Type}{enc:TypeId×Value->H}{P:Program}{w w':World}{sp:Nat->Bool}{held:Bool}
theorem cell_le(hf:∀b,b<w.heap.size->w'.heap[b]? =w.heap[b]?){a:Addr}{v:Value}(h:w.cell? a=some v):w'.cell? a=some v:=by
 have hb:a.block<w.heap.size:=by
  unfold World.cell? at h
  by_cases hb:a.block<w.heap.size
  ·exact hb
  ·rw [Array.getElem?_eq_none om]at h;cases h
 unfold World.cell? at h⊢
 rw [hf _ hb];exact h
theorem cells_le(hf:∀b,b<w.heap.size->w'.heap[b]? =w.heap[b]?){base:Nat}{a:Addr}{n:Nat}{r:List Value}(h:w.cells? base a n=some r):w'.cells? base a n=some r:=by
 unfold World.cells? at h⊢
 split at h
 ·rename_i hb
  rw [if_pos hb]
  exact mapM_le _ _ (fun i _ y c=>cell_le hf c) h
 ·cases h
theorem ly{a:Addr}{v:Value}(h:w.cell? a=some v):a.block<w.heap.size:=by
 unfold World.cell? at h
 by_cases hb:a.block<w.heap.size
 ·exact hb
 ·rw [Array.getElem?_eq_none om]at h;cases h
theorem mH{d:Nat}{total:Nat}:∀(l:List Field)(off:Nat),ff P (dc P d) total off l=true->∀f∈l,dc P d f.type=true:=by
 intro l
 induction l with
 |nil=>simp
 |cons g r b=>
  intro off a f hf
  simp only [ff,Ac]at a
  simp only [Ba]at hf
  rcases hf with rfl|hf
  ·exact a.1.2
  ·exact b _ a.2 f hf
theorem ln(hf:∀b,b<w.heap.size->w'.heap[b]? =w.heap[b]?):∀(d fuel:Nat)(t:TypeId)(cs:List Value)(x:DataW H×List MemPlace),dc P d t=true->
  DataW.trod enc P w 0 (fun _=>true) held fuel t cs=some x->DataW.trod enc P w' 0 (fun b=>decide (b<w.heap.size)) held fuel t cs=some x
 |0,_,_,_,_,c,_=>by simp [dc]at c
 |d+1,0,_,_,_,_,h=>by simp [DataW.trod]at h
 |d+1,fuel+1,t,cs,x,c,h=>by
  have s:=ln hf d fuel
  unfold dc at c
  unfold DataW.trod at h⊢
  revert c h
  generalize P.underlying t=u
  intro c h
  split at h<;>(try exact h)<;>(try(simp only at c;cases c;done))
  ·rename_i e a len cap
   simp only [Ac,beq_iff_eq,decide_eq_true_eq]at c
   simp only at h⊢
   split at h
   ·rename_i hc
    rw [if_pos hc]
    have he:∀i y,(w.cells? 0 (a.add (i*P.cellsOf e)) (P.cellsOf e)).bind (DataW.trod enc P w 0 (fun _=>true) held fuel e)=some y->(w'.cells? 0 (a.add (i*P.cellsOf e)) (P.cellsOf e)).bind (DataW.trod enc P w' 0 (fun b=>decide (b<w.heap.size)) held fuel e)=some y:=
     fun i y j=>nR (fun z g=>cells_le hf g) (fun z y j=>s _ _ _ c.2 j) j
    refine nR (fun y j=>mapM_le _ _ (fun i _ z g=>he i z g) j) (fun y z g=>map_le (fun r k=>?_) g) h
    rw [if_pos trivial]at k
    by_cases o:cap-len=0
    ·rw [o]at k⊢
     simp only [List.range_zero,List.mapM_nil]at k⊢
     split
     ·exact k
     ·exact k
    ·have q:a.block<w.heap.size:=by
      have hlen:=mapM_some_length k
      have m:=mapM_some_get k 0 0 (show(AI (cap-len))[0]? =some 0 by rw [List.getElem?_range om])
      rw [zc (by rw [hlen];simp;omega),Option.bind_eq_some_iff]at m
      obtain⟨l,m,_⟩:=m
      obtain⟨_,h1,B⟩:=World.cells?_some m
      have v:=B 0 om
      rw [zc om]at v
      have:=ly v
      simpa only [block_add]using this
     rw [if_pos (by simpa using q)]
     exact mapM_le _ _ (fun i _ z g=>he _ z g) k
   ·cases h
  ·rename_i C
   simp only at c
   split at h
   ·rename_i hc
    rw [if_pos hc]
    exact map_le (fun y j=>mapM_le _ _ (fun f p z g=>s _ _ _ (mH _ _ c f p) g) j) h
   ·cases h
  ·rename_i n e
   simp only [Ac,beq_iff_eq]at c
   split at h
   ·rename_i hc
    rw [if_pos hc]
    exact map_le (fun y j=>mapM_le _ _ (fun f _ z g=>s _ _ _ c.2 g) j) h
   ·cases h
theorem iV(hf:∀b,b<w.heap.size->w'.heap[b]? =w.heap[b]?)(d:Nat):∀(ts:List TypeId)(vs:List Value)(a:List (DataW H))(e:List MemPlace),ts.all (dc P d)=true->
  DataW.TrodAll enc P w 0 (fun _=>true) held ts vs a e->DataW.TrodAll enc P w' 0 (fun b=>decide (b<w.heap.size)) held ts vs a e
 | [],[],[],_,_,h=>h
 |t::ts,v::vs,i::a,e,c,⟨p,q,⟨fuel,h1⟩,f,g⟩=>by
  simp only [C0,Ac]at c
  exact⟨p,q,⟨fuel,ln hf d _ _ _ _ c.1 h1⟩,iV hf d ts vs a q c.2 f,g⟩
def ShV(P:Program)(d:Nat)(t:TypeId)(p:PD):Prop:=(cM P t=true->∃l,p= .agg l)∧(cM P t=false->p.one=true)∧Sh P d t p.cells
end
theorem kN{E:Prop}{w w':World}(h:Frame E [] w w')(may:MemPlace->Prop):w.keptBut w' may:=by
 refine⟨h.os,h.output,fun i a=>?_⟩
 rw [h.block i a sm]
 cases w.heap[i]? with
 |none=>rfl
 |some o=>cases o<;>simp
def l9(P:Program)(d:Nat):List TypeId->List PD->Prop
 | [],[]=>True
 |t::ts,p::a=>ShV P d t p∧l9 P d ts a
 |_,_=>False
def VAll(S:cp):List PD->List Value->Prop
 | [],[]=>True
 |p::a,v::vs=>V S p v∧VAll S a vs
 |_,_=>False
theorem VAll.len{S:cp}:∀{a:List PD}{vs:List Value},VAll S a vs->a.length=vs.length
 | [],[],_=>rfl
 |p::a,v::vs,h=>by simp [VAll.len h.2]
theorem VAll.at_{S:cp}:∀{b:List PD}{vs:List Value},VAll S b vs->∀(i:Nat)p v,b[i]? =some p->vs[i]? =some v->V S p v
 | [],[],_,i,p,v,h,_=>by simp at h
 |p::b,v::vs,h,0,_,_,h1,a=>by simp only [AU,Option.some.injEq]at h1 a;subst h1 a;exact h.1
 |p::b,v::vs,h,i+1,_,_,h1,a=>by simp only [List.getElem?_cons_succ]at h1 a;exact h.2.at_ i _ _ h1 a
section
variable {H:Type}{enc:TypeId×Value->H}{P:Program}{w:World}{sp:Nat->Bool}{held:Bool}
theorem ng{t:TypeId}{v:Value}{r:Reach}{b:Nat}(e:cM P t=false)(a:Value.okWide P w r b t v):v.cells.toList=[v]:=by
 unfold cM at e
 unfold Value.okWide at a
 split at a
 ·rename_i hu;simp [hu]at e
 ·rename_i hu;simp [hu]at e
 ·unfold Cell.okWide at a
  cases v<;>first|rfl|skip
  exfalso
  split at a<;>(try(rename_i h1 c;cases c;done))
  unfold Cell.ok at a
  split at a<;>first|(rename_i h1 c;cases c;done)|exact a
theorem arg_sh{d:Nat}{t:TypeId}{v:Value}{m:DataW H}{q:List MemPlace}{r:Reach}{b:Nat}(o:dc P d t=true)(g:Value.okWide P w r b t v)(h:DataW.Trod enc P w 0 sp held t v m q):
  ∃p,V (fj w) p v∧ShV P d t p:=by
 obtain⟨fuel,h⟩:=h
 obtain⟨cs,l,hc⟩:=jS d fuel t _ _ h o
 cases e:cM P t with
 |true=>
  refine⟨.agg cs,?_,fun _=>⟨cs,rfl⟩,(by rw [e];simp),l⟩
  have k:∃arr,v= .agg arr:=by
   unfold cM at e
   unfold Value.okWide at g
   split at e<;>rename_i hu<;>simp only [hu]at g
   ·exact⟨_,g.choose_spec.1⟩
   ·exact⟨_,g.choose_spec.1⟩
   ·cases e
  obtain⟨arr,rfl⟩:=k
  have f:VC (fj w) cs arr.toList:=hc
  exact .agg cs arr (by simpa using f.len) fun i p u h1 n=>f.at_ i p u h1 (by simpa using n)
 |false=>
  have h1:=ng e g
  rw [h1]at hc
  have hl:=hc.len
  obtain⟨c,rfl⟩:∃c,cs=[c]:=List.length_eq_one_iff.1 (by simpa using hl.symm)
  have a:=hc.pone c sm
  have j:c.cells=[c]:=by cases c<;>first|rfl|(cases a)
  exact⟨c,hc.at_ 0 c v rfl rfl,(by rw [e];simp),fun _=>a,by rw [j];exact l⟩
theorem nQ{d:Nat}{r:Reach}{b:Nat}:∀(ts:List TypeId)(vs:List Value)(c:List (DataW H))(g:List MemPlace),ts.all (dc P d)=true->
  (∀(j:Nat)t v,ts[j]? =some t->vs[j]? =some v->Value.okWide P w r b t v)->DataW.TrodAll enc P w 0 sp held ts vs c g->∃a,VAll (fj w) a vs∧l9 P d ts a
 | [],[],[],_,_,_,_=>⟨[],trivial,trivial⟩
 |t::ts,v::vs,l::c,g,e,f,⟨p,q,h1,k,m⟩=>by
  simp only [C0,Ac]at e
  obtain⟨pd,g1,g2⟩:=arg_sh e.1 (f 0 t v rfl rfl) h1
  obtain⟨a,g3,g4⟩:=nQ ts vs c q e.2 (fun j t v h i=>f (j+1) t v h i) k
  exact⟨pd::a,⟨g1,g3⟩,g2,g4⟩
theorem law_post{f:Func}{s:ChangeSpec}{W i:World}{args:Array Value}{a gs:List (DataW H)}{before:List MemPlace}{d:Nat}{tb:TypeId}(o:DataW.Whole enc P f.params.toList s.vars false W args.toList a gs before)
  (u:f.params.toList.all (dc P d)=true) (c:s.vars=[]) (y:∀a:List (DataW H),a.length=f.params.size->s.fn H a={ results:=[.lit (.bool true)],args:=a }) (x:f.resultTypes= #[tb]) (hb:P.underlying tb=some .bool)
  {E:Prop} (g:Frame E [] W i):s.post enc P f false true false false W args (.bool true) i:=by
 have j:=o
 obtain⟨p,q,n,hV,rfl,D,C⟩:=o
 rw [c]at hV
 obtain⟨rfl,rfl⟩:=trodVars_none hV
 have hlen:∀(ts:List TypeId)(vs:List Value)(a:List (DataW H))(m:List MemPlace),DataW.TrodAll enc P W 0 (fun _=>true) true ts vs a m->a.length=ts.length:=by
  intro ts
  induction ts with
  |nil=>intro vs a m h;cases vs<;>cases a<;>first|rfl|cases h
  |cons t ts z=>
   intro vs a m h
   match vs,a,h with
   |v::vs,B::a,⟨_,_,_,r,_⟩=>simp [z _ _ _ r]
 have l:=hlen _ _ _ _ n
 have e:=y (a++[]) (by simpa using l)
 have k:∀b,b<W.heap.size->i.heap[b]? =W.heap[b]? :=fun b hb=>g.block b hb sm
 refine⟨a,[],p++[],[],p,[],j,?_,?_,?_,kN g _,fun h=>by cases h⟩
 ·rw [e,x]
  exact trodAll_cons_mk (shut_bool hb _) trodAll_mk0
 ·rw [e]
  simp only [List.append_nil]
  exact iV k d _ _ _ _ u n
 ·rw [e,c]
  exact rfl
theorem oi{base:iZ}{f:FuncId}{fn:Func}{s:ChangeSpec}{W:World}{r:Reach}{K:Nat}{args:Array Value}{m gs:List (DataW H)}{before:List MemPlace}{d:Nat}{tb:TypeId}(n:Enters P f)
  (C:∀(j:Nat)t v,fn.params[j]? =some t->args[j]? =some v->Value.okWide P W r K t v)
  (I:DataW.Whole enc P fn.params.toList s.vars false W args.toList m gs before)
  (J:fn.params.toList.all (dc P d)=true) (l:s.vars=[]) (U:∀m:List (DataW H),m.length=fn.params.size->s.fn H m={ results:=[.lit (.bool true)],args:=m }) (T:fn.resultTypes= #[tb]) (hb:P.underlying tb=some .bool)
  (c:∀a v,base.snap a=some v->W.cell? a=some v∧v.oneCell'=true)
  (y:∀x∈base.objs,W.heap[x.1]? =some x.2∧∃o v,base.snap ⟨x.1,o,none⟩=some v)
  (h:∀g,l9 P d fn.params.toList g->fJ P base f (g.map .d) [] (.d (.bool true)) []):
  Calls P f args W fun e G=>∃v,e= .returned v∧s.post enc P fn false true false false W args v G:=by
 have D:=I
 obtain⟨p,q,O,hV,rfl,hz,hn⟩:=I
 obtain⟨g,h1,N⟩:=nQ fn.params.toList args.toList m p J (fun j t v ht B=>C j t v (by simpa using ht) (by simpa using B)) O
 have u:Mem P (fj W) (look []) (look []) W:=⟨(fun id bx h=>by cases h),(fun id L h=>by cases h),(fun ad v=>kT),(fun ad v=>allS_one),(fun id L b h=>by cases h),(fun id X L L' b h=>by cases h)⟩
 have hc:=h g N (fj W) W [] args u rfl (fun a v k=>nP (c a v k).1 (c a v k).2) y
  (by have := h1.len; simpa using this) (fun i a v k B => by
   simp only [List.getElem?_map,Option.map_eq_some_iff]at k
   obtain⟨pd,F,rfl⟩:=k
   exact .d (h1.at_ i pd v F (by simpa using B)))
 refine(hc.calls n).mono ?_
 rintro e G ⟨v,rfl,S',Y,k⟩
 have E:=k.frame
 have B:v= .bool true:=by
  have z:=k.res
  cases z with
  |d Q=>cases Q with|bool=>rfl
 subst B
 exact⟨_,rfl,law_post D J l U T hb E⟩
end
theorem hD{p:PD}(h:p.one=true):p.cells=[p]:=by cases p<;>first|rfl|(cases h)
section
variable {P:Program}{d:Nat}{t:TypeId}
theorem ShV.int{k:IntKind}{p:PD}(hu:P.underlying t=some (.int k))(h:ShV P d t p):∃n,p= .int k n∧(Lit.int k n).wf=true:=by
 obtain⟨_,h1,a⟩:=h
 rw [hD (h1 (by simp [cM,hu]))]at a
 cases d with
 |zero=>cases a
 |succ d=>
  unfold Sh at a
  simp only [hu]at a
  obtain⟨n,b,c⟩:=a
  simp only [List.cons.injEq,and_true]at b
  exact⟨n,b,c⟩
theorem ShV.bool{p:PD}(hu:P.underlying t=some .bool)(h:ShV P d t p):∃b,p= .bool b:=by
 obtain⟨_,h1,a⟩:=h
 rw [hD (h1 (by simp [cM,hu]))]at a
 cases d with
 |zero=>cases a
 |succ d=>
  unfold Sh at a
  simp only [hu]at a
  obtain⟨n,c⟩:=a
  simp only [List.cons.injEq,and_true]at c
  exact⟨n,c⟩
theorem ShV.str{p:PD}(hu:P.underlying t=some .string)(h:ShV P d t p):∃s,p= .str s∧s.length<=maxLen:=by
 obtain⟨_,h1,a⟩:=h
 rw [hD (h1 (by simp [cM,hu]))]at a
 cases d with
 |zero=>cases a
 |succ d=>
  unfold Sh at a
  simp only [hu]at a
  obtain⟨n,b,c⟩:=a
  simp only [List.cons.injEq,and_true]at b
  exact⟨n,b,c⟩
theorem ShV.lst{α:Type}{e:TypeId}{g:α->PD}{Q:α->Prop}{p:PD}(hu:P.underlying t=some (.slice e))(h:ShV P (d+1) t p)(m:∀x,ShV P d e x->∃a,x=g a∧Q a):
  ∃l:List α,p= .lst (l.map g)∧l.length<=maxLen∧∀a∈l,Q a:=by
 obtain⟨_,h1,b⟩:=h
 rw [hD (h1 (by simp [cM,hu]))]at b
 unfold Sh at b
 simp only [hu]at b
 obtain⟨es,c,i,j⟩:=b
 simp only [List.cons.injEq,and_true]at c
 subst c
 have each:∀x∈es,∃a,x=g a∧Q a:=fun x hm=>m x (j x hm)
 have key:∀es:List PD,(∀x∈es,∃a,x=g a∧Q a)->∃l:List α,es=l.map g∧∀a∈l,Q a:=by
  intro es
  induction es with
  |nil=>exact fun _=>⟨[],rfl,sm⟩
  |cons x es o=>
   intro f
   obtain⟨a,rfl,k⟩:=f x sm
   obtain⟨l,rfl,hl⟩:=o fun y n=>f y (by simp [n])
   exact⟨a::l,rfl,by simpa using⟨k,hl⟩⟩
 obtain⟨l,rfl,hl⟩:=key es each
 exact⟨l,rfl,by simpa using i,hl⟩
theorem ShV.ints{e:TypeId}{k:IntKind}{p:PD}(hu:P.underlying t=some (.slice e))(he:P.underlying e=some (.int k))(h:ShV P (d+1) t p):
  ∃l:List Int,p= .lst (l.map (.int k))∧l.length<=maxLen∧∀n∈l,(Lit.int k n).wf=true:=ShV.lst hu h fun _ a=>ShV.int he a
end
end Go.Dw
