
import Derived.Test.YthadlbjoiidkjaaGreatDoorDwWp
import Derived.OpenShut
import Derived.RowKit3
import Derived.Deep.DeepHandedRow

namespace Go.Dw
open Go.ChangeShapes Go.WideShapes Go.ChangeAt Go.RowKit
def Sh(P:Program):Nat->TypeId->List PD->Prop
 |0,_,_=>False
 |d+1,t,cs=>
  match P.underlying t with
  |some .bool=>∃b,cs=[.bool b]
  |some (.int k)=>∃n,cs=[.int k n]∧(Lit.int k n).wf=true
  |some .string=>∃s,cs=[.str s]∧s.length<=maxLen
  |some (.slice e)=>∃es,cs=[.lst es]∧es.length<=maxLen∧∀x∈es,(qg P e=true->∃l,x= .agg l)∧(qg P e=false->x.one=true)∧Sh P d e x.cells
  |some (.struct fs)=>cs.length=P.cellsOf t∧∀f∈fs.toList,Sh P d f.type ((cs.drop f.offset).take (P.cellsOf f.type))
  |some (.array n e)=>cs.length=P.cellsOf t∧∀i,i<n->Sh P d e ((cs.drop (i*P.cellsOf e)).take (P.cellsOf e))
  |_=>False
def tv(P:Program)(rec:TypeId->Bool)(total:Nat):Nat->List Field->Bool
 |off,[]=>off==total
 |off,f::r=>(f.offset==off)&&rec f.type&&tv P rec total (off+P.cellsOf f.type) r
def qy(P:Program):Nat->TypeId->Bool
 |0,_=>false
 |d+1,t=>
  match P.underlying t with
  |some .bool|some (.int _)|some .string=>P.cellsOf t==1
  |some (.slice e)=>(P.cellsOf t==1)&&decide (0<P.cellsOf e)&&qy P d e
  |some (.struct fs)=>tv P (qy P d) (P.cellsOf t) 0 fs.toList
  |some (.array n e)=>(P.cellsOf t==n*P.cellsOf e)&&qy P d e
  |_=>false
def tw(w:World):pR:=fun a=>match w.cell? a with|some v=>if v.oneCell'=true then some v else none|none=>none
theorem yP{w:World}{a:Addr}{v:Value}(h:tw w a=some v):w.cell? a=some v:=by
 unfold tw at h
 split at h
 ·split at h
  ·cases h;assumption
  ·cases h
 ·cases h
theorem allS_one{w:World}{a:Addr}{v:Value}(h:tw w a=some v):v.oneCell'=true:=by
 unfold tw at h
 split at h
 ·split at h
  ·cases h;assumption
  ·cases h
 ·cases h
theorem Bi{w:World}{a:Addr}{v:Value}(h:w.cell? a=some v)(h1:v.oneCell'=true):tw w a=some v:=by simp [tw,h,h1]
structure VC(S:pR)(cs:List PD)(vs:List Value):Prop where
 len:vs.length=cs.length
 at_:∀(i:Nat)c v,cs[i]? =some c->vs[i]? =some v->V S c v
 one:∀v∈vs,v.oneCell'=true
 pone:∀c∈cs,c.one=true
theorem VC.append{S:pR}{cs cs':List PD}{vs vs':List Value}(h:VC S cs vs)(h':VC S cs' vs'):VC S (cs++cs') (vs++vs'):=by
 refine⟨by simp [h.len,h'.len],fun i c v h1 h2=>?_,fun v hv=>?_,fun c hc=>?_⟩
 ·by_cases hi:i<cs.length
  ·rw [List.getElem?_append_left hi]at h1
   rw [List.getElem?_append_left (by rw [h.len];exact hi)]at h2
   exact h.at_ i c v h1 h2
  ·rw [List.getElem?_append_right za]at h1
   rw [List.getElem?_append_right (by rw [h.len];omega),h.len]at h2
   exact h'.at_ _ c v h1 h2
 ·rcases List.mem_append.1 hv with hv|hv
  ·exact h.one v hv
  ·exact h'.one v hv
 ·rcases List.mem_append.1 hc with hc|hc
  ·exact h.pone c hc
  ·exact h'.pone c hc
theorem VC.nil{S:pR}:VC S [] []:=⟨rfl,sm,sm,sm⟩
theorem VC.sing{S:pR}{c:PD}{v:Value}(h:V S c v)(h1:v.oneCell'=true)(h2:c.one=true):VC S [c] [v]:=by
 refine⟨rfl,fun i c' v' h3 h4=>?_,by simpa using h1,by simpa using h2⟩
 cases i with
 |zero=>simp only [List.getElem?_cons_zero,Option.some.injEq]at h3 h4;subst h3 h4;exact h
 |succ i=>simp at h3
section
variable {H:Type}{enc:TypeId×Value->H}{P:Program}{w:World}{sp:Nat->Bool}{held:Bool}
theorem Sh.len{d:Nat}{t:TypeId}{cs:List PD}(h:Sh P d t cs)(hp:qy P d t=true):cs.length=P.cellsOf t:=by
 cases d with
 |zero=>cases h
 |succ d=>
  unfold Sh at h
  unfold qy at hp
  split at h<;>rename_i hu<;>(try simp only [hu]at hp)<;>(try exact h.elim)<;>(try simp at hp)
  ·obtain⟨b,rfl⟩:=h;simp [hp]
  ·obtain⟨b,rfl,_⟩:=h;simp [hp]
  ·obtain⟨b,rfl,_⟩:=h;simp [hp]
  ·obtain⟨b,rfl,_⟩:=h;simp [hp]
  ·exact h.1
  ·exact h.1
theorem yX{d:Nat}{vs:List Value}{total:Nat}(hvs:vs.length=total):∀(fs:List Field)(off:Nat),tv P (qy P d) total off fs=true->off<=total->
  (∀f∈fs,∃cs,Sh P d f.type cs∧VC (tw w) cs ((vs.drop f.offset).take (P.cellsOf f.type)))->
  ∃cs,VC (tw w) cs (vs.drop off)∧∀f∈fs,off<=f.offset∧Sh P d f.type ((cs.drop (f.offset-off)).take (P.cellsOf f.type))
 | [],off,hp,_,_=>by
  simp only [tv,beq_iff_eq]at hp
  exact⟨[],by rw [List.drop_eq_nil_of_le za];exact VC.nil,sm⟩
 |f::r,off,hp,ho,hf=>by
  simp only [tv,Bool.and_eq_true,beq_iff_eq]at hp
  obtain⟨⟨hoff,hpl⟩,hr⟩:=hp
  obtain⟨cs,hs,hv⟩:=hf f sm
  have hl:=hs.len hpl
  have hvl:((vs.drop f.offset).take (P.cellsOf f.type)).length=P.cellsOf f.type:=by rw [hv.len,hl]
  simp only [List.length_take,List.length_drop]at hvl
  obtain⟨cs2,hv2,hs2⟩:=yX hvs r (off+P.cellsOf f.type) hr za fun g hg=>hf g (by simp [hg])
  subst hoff
  refine⟨cs++cs2,?_,?_⟩
  ·have e:vs.drop f.offset=(vs.drop f.offset).take (P.cellsOf f.type)++vs.drop (f.offset+P.cellsOf f.type):=by
    rw [<-List.drop_drop,List.take_append_drop]
   rw [e]
   exact hv.append hv2
  ·intro g hg
   simp only [List.mem_cons]at hg
   rcases hg with rfl|hg
   ·refine⟨Nat.le_refl _,?_⟩
    rw [Nat.sub_self,List.drop_zero, <-hl,List.take_left']
    ·exact hs
    ·rfl
   ·obtain⟨h1,h2⟩:=hs2 g hg
    refine⟨za,?_⟩
    have e:g.offset-f.offset=cs.length+(g.offset-(f.offset+P.cellsOf f.type)):=by omega
    rw [e, <-List.drop_drop,List.drop_left']
    ·exact h2
    ·rfl
theorem elems_sh{d:Nat}{e:TypeId}{vs:List Value}(n:Nat)(hp:qy P d e=true)(hvs:vs.length=n*P.cellsOf e)
  (hf:∀i,i<n->∃cs,Sh P d e cs∧VC (tw w) cs ((vs.drop (i*P.cellsOf e)).take (P.cellsOf e))):
  ∀m,m<=n->∃cs,VC (tw w) cs (vs.take (m*P.cellsOf e))∧∀i,i<m->Sh P d e ((cs.drop (i*P.cellsOf e)).take (P.cellsOf e)):=by
 intro m
 induction m with
 |zero=>intro _;exact⟨[],by simpa using VC.nil,fun i hi=>za⟩
 |succ m ih=>
  intro hm
  obtain⟨cs,hv,hs⟩:=ih za
  obtain⟨cs2,hs2,hv2⟩:=hf m za
  have hl2:=hs2.len hp
  have hle:(m+1)*P.cellsOf e<=n*P.cellsOf e:=Nat.mul_le_mul_right _ hm
  rw [Nat.succ_mul]at hle
  have hl:cs.length=m*P.cellsOf e:=by rw [<-hv.len,List.length_take];omega
  refine⟨cs++cs2,?_,fun i hi=>?_⟩
  ·rw [Nat.succ_mul,List.take_add]
   exact hv.append hv2
  ·by_cases him:i<m
   ·have h1:(i+1)*P.cellsOf e<=m*P.cellsOf e:=Nat.mul_le_mul_right _ him
    rw [Nat.succ_mul]at h1
    have:=hs i him
    rw [List.drop_append_of_le_length za,List.take_append_of_le_length (by rw [List.length_drop];omega)]
    exact this
   ·obtain rfl:i=m:=by omega
    rw [<-hl,List.drop_left' rfl, <-hl2,List.take_length]
    exact hs2
theorem xP:∀(d fuel:Nat)(t:TypeId)(vs:List Value)(x:DataW H×List MemPlace),DataW.trod enc P w 0 sp held fuel t vs=some x->qy P d t=true->
  ∃cs,Sh P d t cs∧VC (tw w) cs vs
 |0,_,_,_,_,_,hp=>by simp [qy]at hp
 |d+1,fuel,t,vs,x,h,hp=>by
  unfold qy at hp
  split at hp<;>rename_i hu
  ·obtain⟨b,rfl,_⟩:=DataW.trod_bool hu h
   exact⟨[.bool b],by unfold Sh;simp only [hu];exact⟨b,rfl⟩,VC.sing (.bool b) rfl rfl⟩
  ·obtain⟨n,rfl,_,hw⟩:=DataW.trod_int hu h
   exact⟨[.int _ n],by unfold Sh;simp only [hu];exact⟨n,rfl,hw⟩,VC.sing (.int _ n) rfl rfl⟩
  ·obtain⟨s,rfl,_,hs⟩:=DataW.trod_string hu h
   exact⟨[.str s.data.toList],by unfold Sh;simp only [hu];exact⟨_,rfl,by simpa using hs⟩,VC.sing (.str s.data.toList) rfl rfl⟩
  ·rename_i e
   simp only [Bool.and_eq_true,beq_iff_eq,decide_eq_true_eq]at hp
   obtain⟨⟨_,hpos⟩,hpe⟩:=hp
   rcases DataW.trod_slice hu h with⟨rfl,_⟩|⟨a,len,cap,elems,rest,n,_,rfl,_,_,hl,hm,hlen,hel,_,_⟩
   ·exact⟨[.lst []],by unfold Sh;simp only [hu];exact⟨[],rfl,sm,sm⟩,VC.sing (.nil none 0) rfl rfl⟩
   ·have each:∀i,i<len->∃(y:PD)(vs':List Value),Sh P d e y.cells∧(qg P e=true->∃l,y= .agg l)∧(qg P e=false->y.one=true)∧VC (tw w) y.cells vs'∧vs'.length=P.cellsOf e∧∀j v,vs'[j]? =some v->tw w ((a.add (i*P.cellsOf e)).add j)=some v:=by
     intro i hi
     have h1:=hel i hi
     rw [zd za,Option.bind_eq_some_iff]at h1
     obtain⟨vs',hc,ht⟩:=h1
     obtain⟨_,hcl,hcell⟩:=World.cells?_some hc
     obtain⟨cs,hs,hv⟩:=xP d n e vs' _ ht hpe
     have hall:∀j v,vs'[j]? =some v->tw w ((a.add (i*P.cellsOf e)).add j)=some v:=fun j v hj=>by
      have hjl:=(List.getElem?_eq_some_iff.1 hj).1
      exact Bi (by rw [hcell j za,hj]) (hv.one v (List.mem_of_getElem? hj))
     cases hagg:qg P e with
     |true=>exact⟨.agg cs,vs',hs,fun _=>⟨cs,rfl⟩,sm,hv,hcl,hall⟩
     |false=>
      have hlen1:cs.length=1:=by
       unfold qg at hagg
       cases d with
       |zero=>cases hs
       |succ d=>
        unfold Sh at hs
        split at hs<;>rename_i hu'<;>(try simp only [hu']at hagg)<;>first
         |exact hs.elim
         |(obtain⟨_,rfl⟩:=hs;rfl)
         |(obtain⟨_,rfl,_⟩:=hs;rfl)
         |cases hagg
         |cases hs
      obtain⟨c,rfl⟩:=List.length_eq_one_iff.1 hlen1
      have hone:=hv.pone c sm
      have hcc:c.cells=[c]:=by cases c<;>first|rfl|(cases hone)
      exact⟨c,vs',by rw [hcc];exact hs,sm,fun _=>hone,by rw [hcc];exact hv,hcl,hall⟩
    let g:Nat->PD:=fun i=>if hi:i<len then(each i hi).choose else default
    have gs:∀i,i<len->∃vs',Sh P d e (g i).cells∧(qg P e=true->∃l,g i= .agg l)∧(qg P e=false->(g i).one=true)∧VC (tw w) (g i).cells vs'∧vs'.length=P.cellsOf e∧∀j v,vs'[j]? =some v->tw w ((a.add (i*P.cellsOf e)).add j)=some v:=by
     intro i hi
     have:=(each i hi).choose_spec
     simp only [g,hi,dif_pos]
     exact this
    have hget:∀(i:Nat)y,((List.range len).map g)[i]? =some y->i<len∧y=g i:=by
     intro i y hy
     have hi:i<len:=by have:=(List.getElem?_eq_some_iff.1 hy).1;simpa using this
     refine⟨hi,?_⟩
     simp [hi]at hy
     exact hy.symm
    refine⟨[.lst ((List.range len).map g)],?_,VC.sing ?_ rfl rfl⟩
    ·unfold Sh
     simp only [hu]
     refine⟨_,rfl,so,fun y hy=>?_⟩
     obtain⟨i,hi⟩:=List.getElem?_of_mem hy
     obtain⟨hi',rfl⟩:=hget i y hi
     obtain⟨vs',h1,h2,h3,_⟩:=gs i hi'
     exact⟨h2,h3,h1⟩
    ·by_cases hl0:len=0
     ·subst hl0;exact .nil _ _
     ·have hspot:a.spot=none:=by
       obtain⟨vs',_,_,_,_,h5,h6⟩:=gs 0 za
       have h7:=h6 0 (vs'[0]'za) sm
       have h8:=yP h7
       simp only [Nat.zero_mul,Addr.add,if_true]at h8
       unfold World.cell? at h8
       split at h8
       ·split at h8
        ·cases h8
        ·rename_i hs;cases hsp:a.spot with
         |none=>rfl
         |some z=>simp [hsp]at hs
       ·cases h8
      obtain⟨ab,ao,as_⟩:=a
      simp only at hspot
      subst hspot
      have hadd:∀o k,(⟨ab,o,none⟩:Addr).add k=⟨ab,o+k,none⟩:=fun o k=>by
       unfold Addr.add
       split
       ·rename_i hk;subst hk;rfl
       ·rfl
      have hV:=V.lst (S:=tw w) ((List.range len).map g) ab ao cap (P.cellsOf e) (fun i j=>((tw w ⟨ab,ao+i*P.cellsOf e+j,none⟩).getD default)) so
       (fun y hy => by
        obtain⟨i,hi⟩:=List.getElem?_of_mem hy
        obtain⟨hi',rfl⟩:=hget i y hi
        obtain⟨vs',_,_,_,h4,h5,_⟩:=gs i hi'
        rw [<-h4.len,h5])
       (fun i y j z h1 h2 => by
        obtain⟨hi',rfl⟩:=hget i y h1
        obtain⟨vs',_,_,_,h4,h5,h6⟩:=gs i hi'
        have hj:j<vs'.length:=by rw [h4.len];exact(List.getElem?_eq_some_iff.1 h2).1
        have h7:=h6 j vs'[j] sm
        rw [hadd,hadd]at h7
        rw [h7];rfl)
       (fun i y j z h1 h2 => by
        obtain⟨hi',rfl⟩:=hget i y h1
        obtain⟨vs',_,_,_,h4,h5,h6⟩:=gs i hi'
        have hj:j<vs'.length:=by rw [h4.len];exact(List.getElem?_eq_some_iff.1 h2).1
        have h7:=h6 j vs'[j] sm
        rw [hadd,hadd]at h7
        rw [h7]
        exact h4.at_ j z vs'[j] h2 sm)
      simpa using hV
  ·rename_i fs
   obtain⟨xs,n,_,_,hl,hxl,hfs⟩:=DataW.trod_struct hu h
   obtain ⟨cs, hv, hs⟩ := yX (w := w) (d := d) (vs := vs) hl fs.toList 0 hp za (fun f hf => by
    obtain⟨i,hi⟩:=List.getElem?_of_mem hf
    have hi':fs[i]? =some f:=by simpa using hi
    have h1:=hfs i f hi'
    have hil:i<fs.size:=(Array.getElem?_eq_some_iff.1 hi').1
    rw [zd za]at h1
    have hpf:qy P d f.type=true:=by
     have aux:∀(l:List Field)(off:Nat),tv P (qy P d) (P.cellsOf t) off l=true->∀f∈l,qy P d f.type=true:=by
      intro l
      induction l with
      |nil=>simp
      |cons g r ih=>
       intro off hh f hf
       simp only [tv,Bool.and_eq_true]at hh
       simp only [List.mem_cons]at hf
       rcases hf with rfl|hf
       ·exact hh.1.2
       ·exact ih _ hh.2 f hf
     exact aux _ _ hp f hf
    exact xP d n f.type _ _ h1 hpf)
   rw [List.drop_zero]at hv
   refine⟨cs,?_,hv⟩
   unfold Sh
   simp only [hu]
   exact⟨by rw [<-hv.len];exact hl,fun f hf=>by have:=(hs f hf).2;rwa [Nat.sub_zero]at this⟩
  ·rename_i n e
   simp only [Bool.and_eq_true,beq_iff_eq]at hp
   obtain⟨xs,m,_,_,hl,hxl,hfs⟩:=DataW.trod_array hu h
   obtain ⟨cs, hv, hs⟩ := elems_sh (w := w) (vs := vs) n hp.2 (by rw [hl, hp.1]) (fun i hi => by
    have h1:=hfs i hi
    rw [zd za]at h1
    exact xP d m e _ _ h1 hp.2) n (Nat.le_refl _)
   rw [List.take_of_length_le (by rw [hl,hp.1];omega)]at hv
   refine⟨cs,?_,hv⟩
   unfold Sh
   simp only [hu]
   exact⟨by rw [<-hv.len];exact hl,hs⟩
  ·cases hp
end
theorem mapM_le{α β:Type}{f g:α->Option β}:∀(l:List α)(r:List β),(∀i∈l,∀y,f i=some y->g i=some y)->l.mapM f=some r->l.mapM g=some r
 | [],r,_,h=>by simpa using h
 |a::l,r,hfg,h=>by
  rw [List.mapM_cons]at h⊢
  cases hf:f a with
  |none=>simp [hf]at h
  |some y=>
   rw [hfg a sm y hf]
   cases hm:l.mapM f with
   |none=>simp [hf,hm]at h
   |some ys=>
    rw [mapM_le l ys (fun i hi=>hfg i (by simp [hi])) hm]
    simpa [hf,hm]using h
theorem Bk{α β:Type}{o o':Option α}{f g:α->Option β}{y:β}(ho:∀x,o=some x->o'=some x)(hf:∀x y,f x=some y->g x=some y)(h:o.bind f=some y):o'.bind g=some y:=by
 cases o with
 |none=>simp at h
 |some x=>rw [ho x rfl];exact hf x y h
theorem map_le{α β:Type}{o o':Option α}{f:α->β}{y:β}(ho:∀x,o=some x->o'=some x)(h:o.map f=some y):o'.map f=some y:=by
 cases o with
 |none=>simp at h
 |some x=>rw [ho x rfl];exact h
section
variable {H:Type}{enc:TypeId×Value->H}{P:Program}{w w':World}{sp:Nat->Bool}{held:Bool}
theorem Bl(hf:∀b,b<w.heap.size->w'.heap[b]? =w.heap[b]?){a:Addr}{v:Value}(h:w.cell? a=some v):w'.cell? a=some v:=by
 have hb:a.block<w.heap.size:=by
  unfold World.cell? at h
  by_cases hb:a.block<w.heap.size
  ·exact hb
  ·rw [Array.getElem?_eq_none za]at h;cases h
 unfold World.cell? at h⊢
 rw [hf _ hb];exact h
theorem cells_le(hf:∀b,b<w.heap.size->w'.heap[b]? =w.heap[b]?){base:Nat}{a:Addr}{n:Nat}{r:List Value}(h:w.cells? base a n=some r):w'.cells? base a n=some r:=by
 unfold World.cells? at h⊢
 split at h
 ·rename_i hb
  rw [if_pos hb]
  exact mapM_le _ _ (fun i _ y hy=>Bl hf hy) h
 ·cases h
theorem sa{a:Addr}{v:Value}(h:w.cell? a=some v):a.block<w.heap.size:=by
 unfold World.cell? at h
 by_cases hb:a.block<w.heap.size
 ·exact hb
 ·rw [Array.getElem?_eq_none za]at h;cases h
theorem As{d:Nat}{total:Nat}:∀(l:List Field)(off:Nat),tv P (qy P d) total off l=true->∀f∈l,qy P d f.type=true:=by
 intro l
 induction l with
 |nil=>simp
 |cons g r ih=>
  intro off hh f hf
  simp only [tv,Bool.and_eq_true]at hh
  simp only [List.mem_cons]at hf
  rcases hf with rfl|hf
  ·exact hh.1.2
  ·exact ih _ hh.2 f hf
theorem zg(hf:∀b,b<w.heap.size->w'.heap[b]? =w.heap[b]?):∀(d fuel:Nat)(t:TypeId)(cs:List Value)(x:DataW H×List MemPlace),qy P d t=true->
  DataW.trod enc P w 0 (fun _=>true) held fuel t cs=some x->DataW.trod enc P w' 0 (fun b=>decide (b<w.heap.size)) held fuel t cs=some x
 |0,_,_,_,_,hp,_=>by simp [qy]at hp
 |d+1,0,_,_,_,_,h=>by simp [DataW.trod]at h
 |d+1,fuel+1,t,cs,x,hp,h=>by
  have ih:=zg hf d fuel
  unfold qy at hp
  unfold DataW.trod at h⊢
  revert hp h
  generalize P.underlying t=u
  intro hp h
  split at h<;>(try exact h)<;>(try(simp only at hp;cases hp;done))
  ·rename_i e a len cap
   simp only [Bool.and_eq_true,beq_iff_eq,decide_eq_true_eq]at hp
   simp only at h⊢
   split at h
   ·rename_i hc
    rw [if_pos hc]
    have he:∀i y,(w.cells? 0 (a.add (i*P.cellsOf e)) (P.cellsOf e)).bind (DataW.trod enc P w 0 (fun _=>true) held fuel e)=some y->(w'.cells? 0 (a.add (i*P.cellsOf e)) (P.cellsOf e)).bind (DataW.trod enc P w' 0 (fun b=>decide (b<w.heap.size)) held fuel e)=some y:=
     fun i y hy=>Bk (fun z hz=>cells_le hf hz) (fun z y hy=>ih _ _ _ hp.2 hy) hy
    refine Bk (fun y hy=>mapM_le _ _ (fun i _ z hz=>he i z hz) hy) (fun y z hz=>map_le (fun r hr=>?_) hz) h
    rw [if_pos trivial]at hr
    by_cases hcl:cap-len=0
    ·rw [hcl]at hr⊢
     simp only [List.range_zero,List.mapM_nil]at hr⊢
     split
     ·exact hr
     ·exact hr
    ·have hlt:a.block<w.heap.size:=by
      have hlen:=mapM_some_length hr
      have h0:=mapM_some_get hr 0 0 (show(List.range (cap-len))[0]? =some 0 by rw [List.getElem?_range za])
      rw [zd (by rw [hlen];simp;omega),Option.bind_eq_some_iff]at h0
      obtain⟨l,h0,_⟩:=h0
      obtain⟨_,h1,h2⟩:=World.cells?_some h0
      have h3:=h2 0 za
      rw [zd za]at h3
      have:=sa h3
      simpa only [block_add]using this
     rw [if_pos (by simpa using hlt)]
     exact mapM_le _ _ (fun i _ z hz=>he _ z hz) hr
   ·cases h
  ·rename_i fs
   simp only at hp
   split at h
   ·rename_i hc
    rw [if_pos hc]
    exact map_le (fun y hy=>mapM_le _ _ (fun f hf' z hz=>ih _ _ _ (As _ _ hp f hf') hz) hy) h
   ·cases h
  ·rename_i n e
   simp only [Bool.and_eq_true,beq_iff_eq]at hp
   split at h
   ·rename_i hc
    rw [if_pos hc]
    exact map_le (fun y hy=>mapM_le _ _ (fun f _ z hz=>ih _ _ _ hp.2 hz) hy) h
   ·cases h
theorem wP(hf:∀b,b<w.heap.size->w'.heap[b]? =w.heap[b]?)(d:Nat):∀(ts:List TypeId)(vs:List Value)(ds:List (DataW H))(ps:List MemPlace),ts.all (qy P d)=true->
  DataW.TrodAll enc P w 0 (fun _=>true) held ts vs ds ps->DataW.TrodAll enc P w' 0 (fun b=>decide (b<w.heap.size)) held ts vs ds ps
 | [],[],[],_,_,h=>h
 |t::ts,v::vs,d'::ds,ps,hp,⟨p,q,⟨fuel,h1⟩,h2,h3⟩=>by
  simp only [List.all_cons,Bool.and_eq_true]at hp
  exact⟨p,q,⟨fuel,zg hf d _ _ _ _ hp.1 h1⟩,wP hf d ts vs ds q hp.2 h2,h3⟩
def ShV(P:Program)(d:Nat)(t:TypeId)(p:PD):Prop:=(qg P t=true->∃l,p= .agg l)∧(qg P t=false->p.one=true)∧Sh P d t p.cells
end
theorem yK{E:Prop}{w w':World}(h:Frame E [] w w')(may:MemPlace->Prop):w.keptBut w' may:=by
 refine⟨h.os,h.output,fun i hi=>?_⟩
 rw [h.block i hi sm]
 cases w.heap[i]? with
 |none=>rfl
 |some o=>cases o<;>simp
def zP(P:Program)(d:Nat):List TypeId->List PD->Prop
 | [],[]=>True
 |t::ts,p::ps=>ShV P d t p∧zP P d ts ps
 |_,_=>False
def VAll(S:pR):List PD->List Value->Prop
 | [],[]=>True
 |p::ps,v::vs=>V S p v∧VAll S ps vs
 |_,_=>False
theorem VAll.len{S:pR}:∀{ps:List PD}{vs:List Value},VAll S ps vs->ps.length=vs.length
 | [],[],_=>rfl
 |p::ps,v::vs,h=>by simp [VAll.len h.2]
theorem VAll.at_{S:pR}:∀{ps:List PD}{vs:List Value},VAll S ps vs->∀(i:Nat)p v,ps[i]? =some p->vs[i]? =some v->V S p v
 | [],[],_,i,p,v,h,_=>by simp at h
 |p::ps,v::vs,h,0,_,_,h1,h2=>by simp only [List.getElem?_cons_zero,Option.some.injEq]at h1 h2;subst h1 h2;exact h.1
 |p::ps,v::vs,h,i+1,_,_,h1,h2=>by simp only [List.getElem?_cons_succ]at h1 h2;exact h.2.at_ i _ _ h1 h2
section
variable {H:Type}{enc:TypeId×Value->H}{P:Program}{w:World}{sp:Nat->Bool}{held:Bool}
theorem AR{t:TypeId}{v:Value}{r:Reach}{b:Nat}(ha:qg P t=false)(hv:Value.okWide P w r b t v):v.cells.toList=[v]:=by
 unfold qg at ha
 unfold Value.okWide at hv
 split at hv
 ·rename_i hu;simp [hu]at ha
 ·rename_i hu;simp [hu]at ha
 ·unfold Cell.okWide at hv
  cases v<;>first|rfl|skip
  exfalso
  split at hv<;>(try(rename_i h1 h2;cases h2;done))
  unfold Cell.ok at hv
  split at hv<;>first|(rename_i h1 h2;cases h2;done)|exact hv
theorem arg_sh{d:Nat}{t:TypeId}{v:Value}{dd:DataW H}{ps:List MemPlace}{r:Reach}{b:Nat}(hp:qy P d t=true)(hv:Value.okWide P w r b t v)(h:DataW.Trod enc P w 0 sp held t v dd ps):
  ∃p,V (tw w) p v∧ShV P d t p:=by
 obtain⟨fuel,h⟩:=h
 obtain⟨cs,hs,hc⟩:=xP d fuel t _ _ h hp
 cases ha:qg P t with
 |true=>
  refine⟨.agg cs,?_,fun _=>⟨cs,rfl⟩,(by rw [ha];simp),hs⟩
  have hv':∃arr,v= .agg arr:=by
   unfold qg at ha
   unfold Value.okWide at hv
   split at ha<;>rename_i hu<;>simp only [hu]at hv
   ·exact⟨_,hv.choose_spec.1⟩
   ·exact⟨_,hv.choose_spec.1⟩
   ·cases ha
  obtain⟨arr,rfl⟩:=hv'
  have hc':VC (tw w) cs arr.toList:=hc
  exact .agg cs arr (by simpa using hc'.len) fun i p u h1 h2=>hc'.at_ i p u h1 (by simpa using h2)
 |false=>
  have h1:=AR ha hv
  rw [h1]at hc
  have hl:=hc.len
  obtain⟨c,rfl⟩:∃c,cs=[c]:=List.length_eq_one_iff.1 (by simpa using hl.symm)
  have hone:=hc.pone c sm
  have hcc:c.cells=[c]:=by cases c<;>first|rfl|(cases hone)
  exact⟨c,hc.at_ 0 c v rfl rfl,(by rw [ha];simp),fun _=>hone,by rw [hcc];exact hs⟩
theorem Bj{d:Nat}{r:Reach}{b:Nat}:∀(ts:List TypeId)(vs:List Value)(ds:List (DataW H))(ps:List MemPlace),ts.all (qy P d)=true->
  (∀(j:Nat)t v,ts[j]? =some t->vs[j]? =some v->Value.okWide P w r b t v)->DataW.TrodAll enc P w 0 sp held ts vs ds ps->∃pds,VAll (tw w) pds vs∧zP P d ts pds
 | [],[],[],_,_,_,_=>⟨[],trivial,trivial⟩
 |t::ts,v::vs,dd::ds,ps,hp,hv,⟨p,q,h1,h2,h3⟩=>by
  simp only [List.all_cons,Bool.and_eq_true]at hp
  obtain⟨pd,g1,g2⟩:=arg_sh hp.1 (hv 0 t v rfl rfl) h1
  obtain⟨pds,g3,g4⟩:=Bj ts vs ds q hp.2 (fun j t v h h'=>hv (j+1) t v h h') h2
  exact⟨pd::pds,⟨g1,g3⟩,g2,g4⟩
theorem law_post{f:Func}{s:ChangeSpec}{W W':World}{args:Array Value}{ds gs:List (DataW H)}{before:List MemPlace}{d:Nat}{tb:TypeId}(hW:DataW.Whole enc P f.params.toList s.vars false W args.toList ds gs before)
  (hp:f.params.toList.all (qy P d)=true) (hvars:s.vars=[]) (hs:∀ds:List (DataW H),ds.length=f.params.size->s.fn H ds={ results:=[.lit (.bool true)],args:=ds }) (hr:f.resultTypes= #[tb]) (hb:P.underlying tb=some .bool)
  {E:Prop} (hfr:Frame E [] W W'):s.post enc P f false true false false W args (.bool true) W':=by
 have hW':=hW
 obtain⟨p,q,hA,hV,rfl,hz,hn⟩:=hW
 rw [hvars]at hV
 obtain⟨rfl,rfl⟩:=trodVars_none hV
 have hlen:∀(ts:List TypeId)(vs:List Value)(ds:List (DataW H))(ps:List MemPlace),DataW.TrodAll enc P W 0 (fun _=>true) true ts vs ds ps->ds.length=ts.length:=by
  intro ts
  induction ts with
  |nil=>intro vs ds ps h;cases vs<;>cases ds<;>first|rfl|cases h
  |cons t ts ih=>
   intro vs ds ps h
   match vs,ds,h with
   |v::vs,dd::ds,⟨_,_,_,h2,_⟩=>simp [ih _ _ _ h2]
 have hdl:=hlen _ _ _ _ hA
 have hs':=hs (ds++[]) (by simpa using hdl)
 have hb':∀b,b<W.heap.size->W'.heap[b]? =W.heap[b]? :=fun b hb=>hfr.block b hb sm
 refine⟨ds,[],p++[],[],p,[],hW',?_,?_,?_,yK hfr _,fun h=>by cases h⟩
 ·rw [hs',hr]
  exact trodAll_cons_mk (shut_bool hb _) trodAll_mk0
 ·rw [hs']
  simp only [List.append_nil]
  exact wP hb' d _ _ _ _ hp hA
 ·rw [hs',hvars]
  exact rfl
theorem BE{base:uT}{f:FuncId}{fn:Func}{s:ChangeSpec}{W:World}{r:Reach}{b0:Nat}{args:Array Value}{ds gs:List (DataW H)}{before:List MemPlace}{d:Nat}{tb:TypeId}(hent:Enters P f)
  (hval:∀(j:Nat)t v,fn.params[j]? =some t->args[j]? =some v->Value.okWide P W r b0 t v)
  (hW:DataW.Whole enc P fn.params.toList s.vars false W args.toList ds gs before)
  (hp:fn.params.toList.all (qy P d)=true) (hvars:s.vars=[]) (hs:∀ds:List (DataW H),ds.length=fn.params.size->s.fn H ds={ results:=[.lit (.bool true)],args:=ds }) (hr:fn.resultTypes= #[tb]) (hb:P.underlying tb=some .bool)
  (hbase:∀a v,base.snap a=some v->W.cell? a=some v∧v.oneCell'=true)
  (hobj:∀x∈base.objs,W.heap[x.1]? =some x.2∧∃o v,base.snap ⟨x.1,o,none⟩=some v)
  (h:∀pds,zP P d fn.params.toList pds->rG P base f (pds.map .d) [] (.d (.bool true)) []):
  Calls P f args W fun e W'=>∃v,e= .returned v∧s.post enc P fn false true false false W args v W':=by
 have hW':=hW
 obtain⟨p,q,hA,hV,rfl,hz,hn⟩:=hW
 obtain⟨pds,h1,h2⟩:=Bj fn.params.toList args.toList ds p hp (fun j t v ht hv=>hval j t v (by simpa using ht) (by simpa using hv)) hA
 have hmem:Mem P (tw W) (look []) (look []) W:=⟨(fun id bx h=>by cases h),(fun id L h=>by cases h),(fun ad v=>yP),(fun ad v=>allS_one),(fun id L b h=>by cases h),(fun id id' L L' b h=>by cases h)⟩
 have hc:=h pds h2 (tw W) W [] args hmem rfl (fun a v ha=>Bi (hbase a v ha).1 (hbase a v ha).2) hobj
  (by have := h1.len; simpa using this) (fun i a v ha hv => by
   simp only [List.getElem?_map,Option.map_eq_some_iff]at ha
   obtain⟨pd,hpd,rfl⟩:=ha
   exact .d (h1.at_ i pd v hpd (by simpa using hv)))
 refine(hc.calls hent).mono ?_
 rintro e W' ⟨v,rfl,S',ls',ha⟩
 have hfr:=ha.frame
 have hv:v= .bool true:=by
  have hres:=ha.res
  cases hres with
  |d hh=>cases hh with|bool=>rfl
 subst hv
 exact⟨_,rfl,law_post hW' hp hvars hs hr hb hfr⟩
end
theorem vA{p:PD}(h:p.one=true):p.cells=[p]:=by cases p<;>first|rfl|(cases h)
section
variable {P:Program}{d:Nat}{t:TypeId}
theorem ShV.int{k:IntKind}{p:PD}(hu:P.underlying t=some (.int k))(h:ShV P d t p):∃n,p= .int k n∧(Lit.int k n).wf=true:=by
 obtain⟨_,h1,h2⟩:=h
 rw [vA (h1 (by simp [qg,hu]))]at h2
 cases d with
 |zero=>cases h2
 |succ d=>
  unfold Sh at h2
  simp only [hu]at h2
  obtain⟨n,h3,h4⟩:=h2
  simp only [List.cons.injEq,and_true]at h3
  exact⟨n,h3,h4⟩
theorem ShV.bool{p:PD}(hu:P.underlying t=some .bool)(h:ShV P d t p):∃b,p= .bool b:=by
 obtain⟨_,h1,h2⟩:=h
 rw [vA (h1 (by simp [qg,hu]))]at h2
 cases d with
 |zero=>cases h2
 |succ d=>
  unfold Sh at h2
  simp only [hu]at h2
  obtain⟨n,h3⟩:=h2
  simp only [List.cons.injEq,and_true]at h3
  exact⟨n,h3⟩
theorem ShV.str{p:PD}(hu:P.underlying t=some .string)(h:ShV P d t p):∃s,p= .str s∧s.length<=maxLen:=by
 obtain⟨_,h1,h2⟩:=h
 rw [vA (h1 (by simp [qg,hu]))]at h2
 cases d with
 |zero=>cases h2
 |succ d=>
  unfold Sh at h2
  simp only [hu]at h2
  obtain⟨n,h3,h4⟩:=h2
  simp only [List.cons.injEq,and_true]at h3
  exact⟨n,h3,h4⟩
theorem ShV.lst{α:Type}{e:TypeId}{g:α->PD}{Q:α->Prop}{p:PD}(hu:P.underlying t=some (.slice e))(h:ShV P (d+1) t p)(hx:∀x,ShV P d e x->∃a,x=g a∧Q a):
  ∃l:List α,p= .lst (l.map g)∧l.length<=maxLen∧∀a∈l,Q a:=by
 obtain⟨_,h1,h2⟩:=h
 rw [vA (h1 (by simp [qg,hu]))]at h2
 unfold Sh at h2
 simp only [hu]at h2
 obtain⟨es,h3,h4,h5⟩:=h2
 simp only [List.cons.injEq,and_true]at h3
 subst h3
 have each:∀x∈es,∃a,x=g a∧Q a:=fun x hm=>hx x (h5 x hm)
 have key:∀es:List PD,(∀x∈es,∃a,x=g a∧Q a)->∃l:List α,es=l.map g∧∀a∈l,Q a:=by
  intro es
  induction es with
  |nil=>exact fun _=>⟨[],rfl,sm⟩
  |cons x es ih=>
   intro hh
   obtain⟨a,rfl,ha⟩:=hh x sm
   obtain⟨l,rfl,hl⟩:=ih fun y hy=>hh y (by simp [hy])
   exact⟨a::l,rfl,by simpa using⟨ha,hl⟩⟩
 obtain⟨l,rfl,hl⟩:=key es each
 exact⟨l,rfl,by simpa using h4,hl⟩
theorem ShV.ints{e:TypeId}{k:IntKind}{p:PD}(hu:P.underlying t=some (.slice e))(he:P.underlying e=some (.int k))(h:ShV P (d+1) t p):
  ∃l:List Int,p= .lst (l.map (.int k))∧l.length<=maxLen∧∀n∈l,(Lit.int k n).wf=true:=ShV.lst hu h fun _ hx=>ShV.int he hx
end
end Go.Dw
