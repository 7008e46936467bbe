
import Derived.Test.YtgiepghgloiinaaGreatDoorDwArg
open Bool renaming and_eq_true->Ac
open List renaming drop_drop->DA, drop_left'->DB, drop_zero->Cc, getElem?_map->Av, getElem?_of_mem->Aw, getElem_mem->Ah, length_drop->Ax, length_map->B7, length_take->Ay, mem_cons->Ba, range->AI
open Nat renaming le_refl->AB, mul_le_mul_right->A9, succ_mul->DC

namespace Go.Dw
open Go.ChangeShapes Go.WideShapes Go.ChangeAt Go.RowKit
inductive Wd(N:Nat):PD->Prop
 |bool (b:Bool):Wd N (.bool b)
 |int (k:IntKind) (n:Int):Wd N (.int k n)
 |str (s:List UInt8) (h:s.length<=N):Wd N (.str s)
 |lst (es:List PD) (h:(∀e∈es,∃n,e= .int .i64 n)->es.length*8<=N) (ha:∀e∈es,Wd N e):Wd N (.lst es)
 |agg (cs:List PD) (ha:∀c∈cs,Wd N c):Wd N (.agg cs)
def tU(P:Program):Prop:=∀e,P.underlying e=some (.int .i64)->8<=P.bytesOf e
theorem nK{H:Type}{P:Program}{e:TypeId}{n:Nat}{d:DataW H}:∀{l:List (DataW H)},d∈l->n∈DataW.weights P e d->n∈DataW.weightsAll P e l
 | [],hd,_=>by simp at hd
 |c::r,hd,a=>by
  unfold DataW.weightsAll
  rcases List.mem_cons.1 hd with rfl|hd
  ·exact List.mem_append.2 (.inl a)
  ·exact List.mem_append.2 (.inr (nK hd a))
theorem pf{H:Type}{P:Program}{n:Nat}{t:TypeId}{d:DataW H}:∀{ts:List TypeId}{l:List (DataW H)}{i:Nat},ts[i]? =some t->l[i]? =some d->n∈DataW.weights P t d->n∈DataW.weightsEach P ts l
 | [],_,_,ht,_,_=>by simp at ht
 |_::_,[],_,_,hd,_=>by simp at hd
 |t'::ts,b::l,i,ht,hd,a=>by
  unfold DataW.weightsEach
  cases i with
  |zero=>
   simp only [List.getElem?_cons_zero,Option.some.injEq]at ht hd
   subst ht;subst hd
   exact List.mem_append.2 (.inl a)
  |succ i=>
   simp only [List.getElem?_cons_succ]at ht hd
   exact List.mem_append.2 (.inr (pf ht hd a))
section
variable {H:Type}{enc:TypeId×Value->H}{P:Program}{w:World}{sp:Nat->Bool}{held:Bool}
theorem sX{N d:Nat}{vs:List Value}{total:Nat}(p:vs.length=total):∀(k:List Field)(off:Nat),ny P (lp P d) total off k=true->off<=total->
  (∀f∈k,∃cs,Sh P d f.type cs∧VC (nE w) cs ((vs.drop f.offset).take (P.cellsOf f.type))∧∀c∈cs,Wd N c)->
  ∃cs,VC (nE w) cs (vs.drop off)∧(∀c∈cs,Wd N c)∧∀f∈k,off<=f.offset∧Sh P d f.type ((cs.drop (f.offset-off)).take (P.cellsOf f.type))
 | [],off,i,_,_=>by
  simp only [ny,beq_iff_eq]at i
  exact⟨[],by rw [List.drop_eq_nil_of_le om];exact VC.nil,sm,sm⟩
 |f::r,off,i,ho,hf=>by
  simp only [ny,Ac,beq_iff_eq]at i
  obtain⟨⟨b,l⟩,x⟩:=i
  obtain⟨cs,t,u,q⟩:=hf f sm
  have hl:=t.len l
  have o:((vs.drop f.offset).take (P.cellsOf f.type)).length=P.cellsOf f.type:=by rw [u.len,hl]
  simp only [Ay,Ax]at o
  obtain⟨j,n,s,m⟩:=sX p r (off+P.cellsOf f.type) x om fun g a=>hf g (by simp [a])
  subst b
  refine⟨cs++j,?_,fun c hc=>(List.mem_append.1 hc).elim (q c) (s c),?_⟩
  ·have e:vs.drop f.offset=(vs.drop f.offset).take (P.cellsOf f.type)++vs.drop (f.offset+P.cellsOf f.type):=by
    rw [<-DA,List.take_append_drop]
   rw [e]
   exact u.append n
  ·intro g a
   simp only [Ba]at a
   rcases a with rfl|a
   ·refine⟨AB _,?_⟩
    rw [Nat.sub_self,Cc, <-hl,List.take_left']
    ·exact t
    ·rfl
   ·obtain⟨h1,v⟩:=m g a
    refine⟨om,?_⟩
    have e:g.offset-f.offset=cs.length+(g.offset-(f.offset+P.cellsOf f.type)):=by omega
    rw [e, <-DA,DB]
    ·exact v
    ·rfl
theorem xv{N d:Nat}{e:TypeId}{vs:List Value}(n:Nat)(p:lp P d e=true)(r:vs.length=n*P.cellsOf e)
  (hf:∀i,i<n->∃cs,Sh P d e cs∧VC (nE w) cs ((vs.drop (i*P.cellsOf e)).take (P.cellsOf e))∧∀c∈cs,Wd N c):
  ∀m,m<=n->∃cs,VC (nE w) cs (vs.take (m*P.cellsOf e))∧(∀c∈cs,Wd N c)∧∀i,i<m->Sh P d e ((cs.drop (i*P.cellsOf e)).take (P.cellsOf e)):=by
 intro m
 induction m with
 |zero=>intro _;exact⟨[],by simpa using VC.nil,sm,fun i hi=>om⟩
 |succ m s=>
  intro hm
  obtain⟨cs,o,k,q⟩:=s om
  obtain⟨f,b,j,l⟩:=hf m om
  have g:=b.len p
  have hle:(m+1)*P.cellsOf e<=n*P.cellsOf e:=A9 _ hm
  rw [DC]at hle
  have hl:cs.length=m*P.cellsOf e:=by rw [<-o.len,Ay];omega
  refine⟨cs++f,?_,fun c hc=>(List.mem_append.1 hc).elim (k c) (l c),fun i hi=>?_⟩
  ·rw [DC,List.take_add]
   exact o.append j
  ·by_cases a:i<m
   ·have h1:(i+1)*P.cellsOf e<=m*P.cellsOf e:=A9 _ a
    rw [DC]at h1
    have:=q i a
    rw [List.drop_append_of_le_length om,List.take_append_of_le_length (by rw [Ax];omega)]
    exact this
   ·obtain rfl:i=m:=by omega
    rw [<-hl,DB rfl, <-g,List.take_length]
    exact b
theorem qF{N:Nat}(hk:tU P):∀(d fuel:Nat)(t:TypeId)(vs:List Value)(x:DataW H×List MemPlace),DataW.trod enc P w 0 sp held fuel t vs=some x->lp P d t=true->(∀n∈DataW.weights P t x.1,n<=N)->
  ∃cs,Sh P d t cs∧VC (nE w) cs vs∧∀c∈cs,Wd N c
 |0,_,_,_,_,_,F,_=>by simp [lp]at F
 |d+1,fuel,t,vs,x,h,F,hb=>by
  unfold lp at F
  split at F<;>rename_i hu
  ·obtain⟨b,rfl,_⟩:=DataW.trod_bool hu h
   exact⟨[.bool b],by unfold Sh;simp only [hu];exact⟨b,rfl⟩,VC.sing (.bool b) rfl rfl,by simpa using Wd.bool b⟩
  ·obtain⟨n,rfl,_,hw⟩:=DataW.trod_int hu h
   exact⟨[.int _ n],by unfold Sh;simp only [hu];exact⟨n,rfl,hw⟩,VC.sing (.int _ n) rfl rfl,by simpa using Wd.int _ n⟩
  ·obtain⟨s,rfl,hx,C⟩:=DataW.trod_string hu h
   exact⟨[.str s.data.toList],by unfold Sh;simp only [hu];exact⟨_,rfl,by simpa using C⟩,VC.sing (.str s.data.toList) rfl rfl,fun c hc=>by rw [List.mem_singleton.1 hc];rw [hx]at hb;exact .str _ (hb _ (by simp [DataW.weights]))⟩
  ·rename_i e
   simp only [Ac,beq_iff_eq,decide_eq_true_eq]at F
   obtain⟨⟨_,c4⟩,b5⟩:=F
   rcases DataW.trod_slice hu h with⟨rfl,_⟩|⟨a,len,cap,elems,rest,n,_,rfl,hx,_,hl,hm,hlen,b2,_,_⟩
   ·exact⟨[.lst []],by unfold Sh;simp only [hu];exact⟨[],rfl,sm,sm⟩,VC.sing (.nil none 0) rfl rfl,fun c hc=>by rw [List.mem_singleton.1 hc];exact .lst _ (fun _=>Nat.zero_le _) sm⟩
   ·rw [hx]at hb
    simp only [DataW.weights,hu]at hb
    have b1:=hb _ List.mem_cons_self
    have a9:∀y∈elems.map (·.1),∀m∈DataW.weights P e y,m<=N:=fun y K m hm=>hb m (List.mem_cons_of_mem _ (List.mem_append.2 (.inl (nK K hm))))
    have each:∀i,i<len->∃(y:PD)(p:List Value),Sh P d e y.cells∧(kC P e=true->∃l,y= .agg l)∧(kC P e=false->y.one=true)∧VC (nE w) y.cells p∧p.length=P.cellsOf e∧Wd N y∧∀j v,p[j]? =some v->nE w ((a.add (i*P.cellsOf e)).add j)=some v:=by
     intro i hi
     have h1:=b2 i hi
     rw [zc om,Option.bind_eq_some_iff]at h1
     obtain⟨p,hc,ht⟩:=h1
     have b0:∀m∈DataW.weights P e (elems[i]'om).1,m<=N:=a9 _ (List.mem_map.2 ⟨_,Ah _,rfl⟩)
     obtain⟨_,a5,U⟩:=World.cells?_some hc
     obtain⟨cs,C,I,G⟩:=qF hk d n e p _ ht b5 b0
     have E:∀j v,p[j]? =some v->nE w ((a.add (i*P.cellsOf e)).add j)=some v:=fun j v hj=>by
      have c6:=(List.getElem?_eq_some_iff.1 hj).1
      exact xc (by rw [U j om,hj]) (I.one v (List.mem_of_getElem? hj))
     cases u:kC P e with
     |true=>exact⟨.agg cs,p,C,fun _=>⟨cs,rfl⟩,sm,I,a5,.agg _ G,E⟩
     |false=>
      have Y:cs.length=1:=by
       unfold kC at u
       cases d with
       |zero=>cases C
       |succ d=>
        unfold Sh at C
        split at C<;>rename_i O<;>(try simp only [O]at u)<;>first
         |exact C.elim
         |(obtain⟨_,rfl⟩:=C;rfl)
         |(obtain⟨_,rfl,_⟩:=C;rfl)
         |cases u
         |cases C
      obtain⟨c,rfl⟩:=List.length_eq_one_iff.1 Y
      have T:=I.pone c sm
      have a4:c.cells=[c]:=by cases c<;>first|rfl|(cases T)
      exact⟨c,p,by rw [a4];exact C,sm,fun _=>T,by rw [a4];exact I,a5,G c sm,E⟩
    let g:Nat->PD:=fun i=>if hi:i<len then(each i hi).choose else default
    have gs:∀i,i<len->∃p,Sh P d e (g i).cells∧(kC P e=true->∃l,g i= .agg l)∧(kC P e=false->(g i).one=true)∧VC (nE w) (g i).cells p∧p.length=P.cellsOf e∧Wd N (g i)∧∀j v,p[j]? =some v->nE w ((a.add (i*P.cellsOf e)).add j)=some v:=by
     intro i hi
     have:=(each i hi).choose_spec
     simp only [g,hi,dif_pos]
     exact this
    have B:∀(i:Nat)y,((AI len).map g)[i]? =some y->i<len∧y=g i:=by
     intro i y K
     have hi:i<len:=by have:=(List.getElem?_eq_some_iff.1 K).1;simpa using this
     refine⟨hi,?_⟩
     simp [hi]at K
     exact K.symm
    refine⟨[.lst ((AI len).map g)],?_,VC.sing ?_ rfl rfl,fun c hc=>?_⟩
    ·unfold Sh
     simp only [hu]
     refine⟨_,rfl,so,fun y K=>?_⟩
     obtain⟨i,hi⟩:=Aw K
     obtain⟨q,rfl⟩:=B i y hi
     obtain⟨p,h1,h2,h3,_⟩:=gs i q
     exact⟨h2,h3,h1⟩
    ·by_cases X:len=0
     ·subst X;exact .nil _ _
     ·have J:a.spot=none:=by
       obtain⟨p,_,_,_,_,h5,_,h6⟩:=gs 0 om
       have L:=h6 0 (p[0]'om) sm
       have Q:=tV L
       simp only [Nat.zero_mul,Addr.add,if_true]at Q
       unfold World.cell? at Q
       split at Q
       ·split at Q
        ·cases Q
        ·rename_i C;cases c1:a.spot with
         |none=>rfl
         |some z=>simp [c1]at C
       ·cases Q
      obtain⟨ab,ao,as_⟩:=a
      simp only at J
      subst J
      have D:∀o k,(⟨ab,o,none⟩:Addr).add k=⟨ab,o+k,none⟩:=fun o k=>by
       unfold Addr.add
       split
       ·rename_i hk;subst hk;rfl
       ·rfl
      have hV:=V.lst (S:=nE w) ((AI len).map g) ab ao cap (P.cellsOf e) (fun i j=>((nE w ⟨ab,ao+i*P.cellsOf e+j,none⟩).getD default)) so
       (fun y K => by
        obtain⟨i,hi⟩:=Aw K
        obtain⟨q,rfl⟩:=B i y hi
        obtain⟨p,_,_,_,h4,h5,_⟩:=gs i q
        rw [<-h4.len,h5])
       (fun i y j z h1 h2 => by
        obtain⟨q,rfl⟩:=B i y h1
        obtain⟨p,_,_,_,h4,h5,_,h6⟩:=gs i q
        have hj:j<p.length:=by rw [h4.len];exact(List.getElem?_eq_some_iff.1 h2).1
        have L:=h6 j p[j] sm
        rw [D,D]at L
        rw [L];rfl)
       (fun i y j z h1 h2 => by
        obtain⟨q,rfl⟩:=B i y h1
        obtain⟨p,_,_,_,h4,h5,_,h6⟩:=gs i q
        have hj:j<p.length:=by rw [h4.len];exact(List.getElem?_eq_some_iff.1 h2).1
        have L:=h6 j p[j] sm
        rw [D,D]at L
        rw [L]
        exact h4.at_ j z p[j] h2 sm)
      simpa using hV
    ·rw [List.mem_singleton.1 hc]
     refine .lst _ (fun E=>?_) fun y K=>?_
     ·rw [B7,List.length_range]
      by_cases X:len=0
      ·subst X;simp
      obtain⟨n0,b3⟩:=E (g 0) (List.mem_map.2 ⟨0,List.mem_range.2 om,rfl⟩)
      obtain⟨p,s1,s2,_⟩:=gs 0 om
      rw [b3]at s1 s2
      have c2:P.underlying e=some (.int .i64):=by
       have u:kC P e=false:=by
        cases h:kC P e with
        |false=>rfl
        |true=>obtain⟨l,hl⟩:=s2 h;cases hl
       replace s1:Sh P d e [.int .i64 n0]:=s1
       unfold kC at u
       cases d with
       |zero=>cases s1
       |succ d=>
        unfold Sh at s1
        split at s1<;>rename_i O<;>(try simp only [O]at u)<;>first
         |exact s1.elim
         |(obtain⟨_,h1,_⟩:=s1;cases h1;exact O)
         |(obtain⟨_,h1,_⟩:=s1;cases h1;done)
         |(obtain⟨_,h1⟩:=s1;cases h1;done)
         |cases u
      have Q:=hk e c2
      have h9:len*8<=(elems.length+rest.length)*P.bytesOf e:=Nat.mul_le_mul om Q
      simp only [B7]at b1
      omega
     obtain⟨i,hi⟩:=Aw K
     obtain⟨q,rfl⟩:=B i y hi
     obtain⟨p,_,_,_,_,_,L,_⟩:=gs i q
     exact L
  ·rename_i fs
   obtain⟨xs,n,_,hx,hl,c3,W⟩:=DataW.trod_struct hu h
   rw [hx]at hb
   simp only [DataW.weights,hu]at hb
   obtain ⟨cs, I, G, C⟩ := sX (N := N) (w := w) (d := d) (vs := vs) hl fs.toList 0 F om (fun f hf => by
    obtain⟨i,hi⟩:=Aw hf
    have q:fs[i]? =some f:=by simpa using hi
    have h1:=W i f q
    have c5:i<fs.size:=(Array.getElem?_eq_some_iff.1 q).1
    rw [zc om]at h1
    have c0:lp P d f.type=true:=by
     have aux:∀(l:List Field)(off:Nat),ny P (lp P d) (P.cellsOf t) off l=true->∀f∈l,lp P d f.type=true:=by
      intro l
      induction l with
      |nil=>simp
      |cons g r ih=>
       intro off hh f hf
       simp only [ny,Ac]at hh
       simp only [Ba]at hf
       rcases hf with rfl|hf
       ·exact hh.1.2
       ·exact ih _ hh.2 f hf
     exact aux _ _ F f hf
    exact qF hk d n f.type _ _ h1 c0 (fun m hm=>hb m (pf (i:=i) (by rw [Av];simp [q]) (by rw [Av,zc (show i<xs.length by omega)];rfl) hm)))
   rw [Cc]at I
   refine⟨cs,?_,I,G⟩
   unfold Sh
   simp only [hu]
   exact⟨by rw [<-I.len];exact hl,fun f hf=>by have:=(C f hf).2;rwa [Nat.sub_zero]at this⟩
  ·rename_i n e
   simp only [Ac,beq_iff_eq]at F
   obtain⟨xs,m,_,hx,hl,c3,W⟩:=DataW.trod_array hu h
   rw [hx]at hb
   simp only [DataW.weights,hu]at hb
   obtain ⟨cs, I, G, C⟩ := xv (N := N) (w := w) (vs := vs) n F.2 (by rw [hl, F.1]) (fun i hi => by
    have h1:=W i hi
    rw [zc om]at h1
    exact qF hk d m e _ _ h1 F.2 (fun k b4=>hb k (nK (List.mem_map.2 ⟨_,Ah _,rfl⟩) b4))) n (AB _)
   rw [List.take_of_length_le (by rw [hl,F.1];omega)]at I
   refine⟨cs,?_,I,G⟩
   unfold Sh
   simp only [hu]
   exact⟨by rw [<-I.len];exact hl,C⟩
  ·cases F
theorem arg_shW{N:Nat}(hk:tU P){d:Nat}{t:TypeId}{v:Value}{m:DataW H}{x:List MemPlace}{r:Reach}{b:Nat}(s:lp P d t=true)(g:Value.okWide P w r b t v)(h:DataW.Trod enc P w 0 sp held t v m x)(hb:∀n∈DataW.weights P t m,n<=N):
  ∃p,V (nE w) p v∧ShV P d t p∧Wd N p:=by
 obtain⟨fuel,h⟩:=h
 obtain⟨cs,o,hc,j⟩:=qF hk d fuel t _ _ h s hb
 cases e:kC P t with
 |true=>
  refine⟨.agg cs,?_,⟨fun _=>⟨cs,rfl⟩,(by rw [e];simp),o⟩,.agg _ j⟩
  have l:∃arr,v= .agg arr:=by
   unfold kC at e
   unfold Value.okWide at g
   split at e<;>rename_i hu<;>simp only [hu]at g
   ·exact⟨_,g.choose_spec.1⟩
   ·exact⟨_,g.choose_spec.1⟩
   ·cases e
  obtain⟨arr,rfl⟩:=l
  have f:VC (nE w) cs arr.toList:=hc
  exact .agg cs arr (by simpa using f.len) fun i p u h1 q=>f.at_ i p u h1 (by simpa using q)
 |false=>
  have h1:=wI e g
  rw [h1]at hc
  have hl:=hc.len
  obtain⟨c,rfl⟩:∃c,cs=[c]:=List.length_eq_one_iff.1 (by simpa using hl.symm)
  have a:=hc.pone c sm
  have k:c.cells=[c]:=by cases c<;>first|rfl|(cases a)
  exact⟨c,hc.at_ 0 c v rfl rfl,⟨(by rw [e];simp),fun _=>a,by rw [k];exact o⟩,j c sm⟩
theorem vv{N:Nat}(hk:tU P){d:Nat}{r:Reach}{b:Nat}:∀(ts:List TypeId)(vs:List Value)(f:List (DataW H))(i:List MemPlace),ts.all (lp P d)=true->
  (∀(j:Nat)t v,ts[j]? =some t->vs[j]? =some v->Value.okWide P w r b t v)->DataW.TrodAll enc P w 0 sp held ts vs f i->(∀n∈DataW.weightsEach P ts f,n<=N)->∃a,VAll (nE w) a vs∧vp P d ts a∧∀p∈a,Wd N p
 | [],[],[],_,_,_,_,_=>⟨[],trivial,trivial,sm⟩
 |t::ts,v::vs,o::f,i,c,g,⟨p,q,h1,l,s⟩,hb=>by
  simp only [List.all_cons,Ac]at c
  obtain⟨pd,g1,g2,g5⟩:=arg_shW hk c.1 (g 0 t v rfl rfl) h1 (fun m hm=>hb m (List.mem_append.2 (.inl hm)))
  obtain⟨a,g3,g4,g6⟩:=vv hk ts vs f q c.2 (fun j t v h k=>g (j+1) t v h k) l (fun m hm=>hb m (List.mem_append.2 (.inr hm)))
  exact⟨pd::a,⟨g1,g3⟩,⟨g2,g4⟩,fun p c=>(List.mem_cons.1 c).elim (fun e=>e▸g5) (g6 p)⟩
theorem wU{N:Nat}(hk:tU P){base:qc}{f:FuncId}{fn:Func}{s:ChangeSpec}{W:World}{r:Reach}{Q:Nat}{args:Array Value}{l gs:List (DataW H)}{before:List MemPlace}{d:Nat}{tb:TypeId}(u:Enters P f)
  (D:∀(j:Nat)t v,fn.params[j]? =some t->args[j]? =some v->Value.okWide P W r Q t v)
  (K:DataW.Whole enc P fn.params.toList s.vars false W args.toList l gs before)
  (O:fn.params.toList.all (lp P d)=true) (m:s.vars=[]) (hs:∀l:List (DataW H),l.length=fn.params.size->s.fn H l={ results:=[.lit (.bool true)],args:=l }) (hr:fn.resultTypes= #[tb]) (hb:P.underlying tb=some .bool)
  (c:∀a v,base.snap a=some v->W.cell? a=some v∧v.oneCell'=true)
  (z:∀x∈base.objs,W.heap[x.1]? =some x.2∧∃o v,base.snap ⟨x.1,o,none⟩=some v)
  (F:∀n∈DataW.weightsEach P fn.params.toList l,n<=N) (h:∀g,vp P d fn.params.toList g->(∀p∈g,Wd N p)->nj P base f (g.map .d) [] (.d (.bool true)) []):
  Calls P f args W fun e J=>∃v,e= .returned v∧s.post enc P fn false true false false W args v J:=by
 have E:=K
 obtain⟨p,q,X,hV,rfl,hz,hn⟩:=K
 obtain⟨g,h1,T,U⟩:=vv hk fn.params.toList args.toList l p O (fun j t v ht C=>D j t v (by simpa using ht) (by simpa using C)) X F
 have y:Mem P (nE W) (look []) (look []) W:=⟨(fun id bx h=>by cases h),(fun id L h=>by cases h),(fun ad v=>tV),(fun ad v=>allS_one),(fun id L b h=>by cases h),(fun id a4 L L' b h=>by cases h)⟩
 have hc:=h g T U (nE W) W [] args y rfl (fun a v k=>xc (c a v k).1 (c a v k).2) z
  (by have := h1.len; simpa using this) (fun i a v k C => by
   simp only [Av,Option.map_eq_some_iff]at k
   obtain⟨pd,I,rfl⟩:=k
   exact .d (h1.at_ i pd v I (by simpa using C)))
 refine(hc.calls u).mono ?_
 rintro e J ⟨v,rfl,S',a5,k⟩
 have G:=k.frame
 have C:v= .bool true:=by
  have B:=k.res
  cases B with
  |d Y=>cases Y with|bool=>rfl
 subst C
 exact⟨_,rfl,law_post E O m hs hr hb G⟩
end
end Go.Dw
