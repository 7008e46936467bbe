
import Derived.Test.YthadlbjoiidkjaaGreatDoorDwRen

namespace Go.Dw
def Loc.blocks:Loc->List Nat
 |L=>L.block.toList
theorem yo{L:Loc}{b:Nat}:b∈L.blocks↔L.has b:=by
 cases L<;>simp [Loc.blocks,Loc.has,Loc.block,eq_comm]
def xY(ls:List Loc):List Nat:=ls.flatMap Loc.blocks
theorem qh{α:Type}:∀(l:List α)(i:Nat),look l i=l[i]?
 | [],_=>rfl
 |a::r,0=>rfl
 |a::r,n+1=>by rw [look,qh r n];rfl
theorem ui{ls:List Loc}{b:Nat}:b∈xY ls↔∃k L,look ls k=some L∧L.has b:=by
 unfold xY
 rw [List.mem_flatMap]
 constructor
 ·rintro⟨L,hL,hb⟩
  obtain⟨k,hk⟩:=List.getElem?_of_mem hL
  exact⟨k,L,by rw [qh];exact hk,yo.1 hb⟩
 ·rintro⟨k,L,hk,hb⟩
  rw [qh]at hk
  exact⟨L,List.mem_of_getElem? hk,yo.2 hb⟩
def Enters (P : Program) (f : FuncId) : Prop := ∃ fn, P.funcs[f]? = some fn ∧ fn.name ≠ "runtime.NumGoroutine" ∧ fn.body.isNone = false
def zh(P:Program)(f:FuncId)(vs:Array Value)(w:World)(R:Value->World->Prop):Prop:=
 (Enters P f∧Calls P f vs w fun e w'=>∃v,e= .returned v∧R v w')∨(∃v w',(callFunc f vs).run P w= .ok (.value v) w'∧R v w')
structure xl(P:Program)(E:Prop)(S:pR)(w:World)(ls:List Loc)(n:Nat)(r:RV)(bs':List Box)(v:Value)(w':World)(S':pR)(ls':List Loc):Prop where
 len:ls'.length=bs'.length
 more:n<=bs'.length
 sub:Sub S S'
 mem:Mem P S' (look ls') (look bs') w'
 vG:∀ad v,S' ad=some v->S ad=some v∨w.heap.size<=ad.block∨ad.block∈xY ls
 le:qa (look ls) (look ls')
 own:∀k L b,look ls' k=some L->L.has b->b∈xY ls∨w.heap.size<=b
 frame:Frame E (xY ls) w w'
 res:R S' (look ls') r v
def rG(P:Program)(base:uT)(f:FuncId)(args:List RV)(bs:List Box)(r:RV)(bs':List Box):Prop:=
 ∀(S:pR)(w:World)(ls:List Loc)(vs:Array Value),Mem P S (look ls) (look bs) w->ls.length=bs.length->Sub base.snap S->(∀x∈base.objs,w.heap[x.1]? =some x.2∧∃o v,base.snap ⟨x.1,o,none⟩=some v)->
  args.length=vs.size->(∀(i:Nat)a v,args[i]? =some a->vs[i]? =some v->R S (look ls) a v)->
  zh P f vs w fun v w'=>∃S' ls',xl P base.mono S w ls bs.length r bs' v w' S' ls'
def rQ(P:Program)(base:uT)(call:pT):Prop:=∀f args bs r bs',call f args bs=some (r,bs')->rG P base f args bs r bs'
section
variable {P:Program}{X:Ctx}{S:pR}{loc:qe}{s:St}{tm:Array Value}{w:World}
theorem Bw{by_:Bool}{c x:RV}{b:p8}{u:Ups}{r:List Nat}(h:argD by_ c b=some ((x,u),r,true)):
  tn u∧(∀y∈u,∃ver e es,b y.1=some (.arr ver e es))∧
  ∀S loc S' loc' v,Sub S S'->qa loc loc'->(∀y∈u,Frz b S loc S' y.1)->R S loc c v->R S' loc' x v:=by
 have same:∀{r:List Nat},M.pure (c,([]:Ups)) b=some ((x,u),r,true)->tn u∧(∀y∈u,∃ver e es,b y.1=some (.arr ver e es))∧
   ∀S loc S' loc' v,Sub S S'->qa loc loc'->(∀y∈u,Frz b S loc S' y.1)->R S loc c v->R S' loc' x v:=by
  intro r h
  obtain⟨h1, -, -⟩:=M.pK h
  cases h1
  exact⟨(fun y hy=>by cases hy),(fun y hy=>by cases hy),fun S loc S' loc' v hs hl _ hr=>hr.mono hs hl⟩
 have data:∀{r:List Nat}{p:PD}{u1:Ups},sD c b=some ((p,u1),r,true)->x= .d p->u=u1->tn u∧(∀y∈u,∃ver e es,b y.1=some (.arr ver e es))∧
   ∀S loc S' loc' v,Sub S S'->qa loc loc'->(∀y∈u,Frz b S loc S' y.1)->R S loc c v->R S' loc' x v:=by
  rintro r p u1 h rfl rfl
  obtain⟨a1,a2,a3⟩:=uo h
  exact⟨a1,a2,fun S loc S' loc' v hs _ hf hr=>.d (a3 S loc S' v hr hs hf)⟩
 have pO:(M.bind (sD c) fun(p,u)=>M.pO c.sized ((RV.d p,u):RV×Ups)) b=some ((x,u),r,true)->tn u∧(∀y∈u,∃ver e es,b y.1=some (.arr ver e es))∧
   ∀S loc S' loc' v,Sub S S'->qa loc loc'->(∀y∈u,Frz b S loc S' y.1)->R S loc c v->R S' loc' x v:=by
  intro h
  obtain⟨⟨p,u1⟩,r1,r2,h1,h2,_⟩:=M.bind_some h
  obtain⟨h3, -, -⟩:=M.pN h2
  cases h3
  exact data h1 rfl rfl
 have byref:(if by_ then M.pure (c,([]:Ups))else M.bind (sD c) fun(p,u)=>M.pure ((RV.d p,u):RV×Ups)) b=some ((x,u),r,true)->tn u∧(∀y∈u,∃ver e es,b y.1=some (.arr ver e es))∧
   ∀S loc S' loc' v,Sub S S'->qa loc loc'->(∀y∈u,Frz b S loc S' y.1)->R S loc c v->R S' loc' x v:=by
  intro h
  cases by_ with
  |true=>exact same h
  |false=>
   simp only [Bool.false_eq_true,if_false]at h
   obtain⟨⟨p,u1⟩,r1,r2,h1,h2,_⟩:=M.bind_some h
   obtain⟨h3, -, -⟩:=M.pK h2
   cases h3
   exact data h1 rfl rfl
 cases c with
 |ptr _ _=>exact same h
 |elt _ _ _ _=>exact same h
 |clo _ _=>exact same h
 |fview _ _ _=>exact pO h
 |err _=>exact pO h
 |dfull _=>exact pO h
 |ifc _ _=>exact same h
 |ref _ _=>exact byref h
 |view _ _ _ _=>exact byref h
 |d _=>exact pO h
 |undef=>exact pO h
 |junk=>exact pO h
 |mo=>
  by_cases hby:by_=true
  ·subst hby;exact same h
  ·have hbf:by_=false:=by cases by_<;>simp_all
   subst hbf
   exact pO h
 |agg _=>
  by_cases hby:by_=true
  ·subst hby;exact same h
  ·have hbf:by_=false:=by cases by_<;>simp_all
   subst hbf
   exact pO h
 |tup _=>exact pO h
 |cptr _=>exact pO h
theorem xT{by_:Nat->Bool}:∀{args:List RV}{i:Nat}{b:p8}{as:List RV}{u:Ups}{r:List Nat},vJ by_ i args b=some ((as,u),r,true)->
  tn u∧(∀x∈u,∃ver e es,b x.1=some (.arr ver e es))∧as.length=args.length∧
  ∀S loc S' loc',Sub S S'->qa loc loc'->(∀x∈u,Frz b S loc S' x.1)->
   ∀(i:Nat)x a v,args[i]? =some x->as[i]? =some a->R S loc x v->R S' loc' a v
 | [],i,b,as,u,r,h=>by
  obtain⟨h1, -, -⟩:=M.pK (b:=b) h
  cases h1
  exact⟨(fun x hx=>by cases hx),(fun x hx=>by cases hx),rfl,fun S loc S' loc' _ _ _ i x a v hx=>by simp at hx⟩
 |c::cs,i,b,as,u,r,h=>by
  obtain⟨⟨x,u1⟩,r1,r2,h1,h2,_⟩:=M.bind_some h
  obtain⟨⟨l,u2⟩,r3,r4,h3,h4,_⟩:=M.bind_some h2
  obtain⟨h5, -, -⟩:=M.pK h4
  cases h5
  obtain⟨a1,a2,a3⟩:=Bw h1
  obtain⟨b1,b2,b3,b4⟩:=xT h3
  refine⟨fun x hx=>(List.mem_append.1 hx).elim (a1 x) (b1 x),fun x hx=>(List.mem_append.1 hx).elim (a2 x) (b2 x),by simp [b3],?_⟩
  intro S loc S' loc' hs hl hv j y a v hy ha hr
  cases j with
  |zero=>
   simp only [List.getElem?_cons_zero,Option.some.injEq]at hy ha
   subst hy;subst ha
   exact a3 S loc S' loc' v hs hl (fun x hx=>hv x (List.mem_append.2 (.inl hx))) hr
  |succ j=>
   simp only [List.getElem?_cons_succ]at hy ha
   exact b4 S loc S' loc' hs hl (fun x hx=>hv x (List.mem_append.2 (.inr hx))) j y a v hy ha hr
theorem vV:∀{ids:List Nat}{b:p8}{l:List Box}{r:List Nat},vP ids b=some (l,r,true)->
  l.length=ids.length∧∀(j:Nat)id,ids[j]? =some id->∃bx,b id=some bx∧l[j]? =some bx
 | [],b,l,r,h=>by
  obtain⟨h1, -, -⟩:=M.pK (b:=b) h
  subst h1
  exact⟨rfl,fun j id hj=>by simp at hj⟩
 |i::ids,b,l,r,h=>by
  obtain⟨bx,r1,r2,h1,h2,_⟩:=M.bind_some h
  obtain⟨hb,_,_⟩:=M.get_some h1
  obtain⟨l',r3,r4,h3,h4,_⟩:=M.bind_some h2
  obtain⟨h5, -, -⟩:=M.pK h4
  subst h5
  obtain⟨g1,g2⟩:=vV h3
  refine⟨by simp [g1],fun j id hj=>?_⟩
  cases j with
  |zero=>simp only [List.getElem?_cons_zero,Option.some.injEq]at hj;subst hj;exact⟨bx,hb,rfl⟩
  |succ j=>simp only [List.getElem?_cons_succ]at hj⊢;exact g2 j id hj
theorem vQ:∀{ids:List Nat}{b:p8}{x:Unit}{r:List Nat},sh ids b=some (x,r,true)->∀i∈ids,b i=none
 | [],b,x,r,_=>fun i hi=>by cases hi
 |i::ids,b,x,r,h=>by
  obtain⟨_,r1,r2,h1,h2,_⟩:=M.bind_some h
  obtain⟨hb,_,_⟩:=M.qo h1
  intro j hj
  rcases List.mem_cons.1 hj with rfl|hj
  ·exact hb
  ·exact vQ h2 j hj
theorem v7:∀{l:List Nat},nodup l=true->l.Nodup
 | [],_=>List.nodup_nil
 |a::r,h=>by
  simp only [nodup,Bool.and_eq_true,Bool.not_eq_true']at h
  refine List.nodup_cons.2 ⟨?_,v7 h.2⟩
  intro hm
  have:=h.1
  simp [hm]at this
theorem vu{a b:List Nat}(h:disj a b=true):∀x∈a,x∉b:=fun x hx hb=>by
 have:=List.all_eq_true.1 h x hx
 simp [hb]at this
theorem uC:∀{l:List Nat}{id k:Nat},idxOf l id=some k->l[k]? =some id
 | [],id,k,h=>by simp [idxOf]at h
 |a::r,id,k,h=>by
  simp only [idxOf]at h
  split at h
  ·rename_i ha;cases h;subst ha;rfl
  ·cases hr:idxOf r id with
   |none=>simp [hr]at h
   |some j=>simp only [hr,Option.map_some,Option.some.injEq]at h;subst h;simpa using uC hr
theorem vz:∀{l:List Nat}{id k:Nat},l.Nodup->l[k]? =some id->idxOf l id=some k
 | [],id,k,_,h=>by simp at h
 |a::r,id,k,hn,h=>by
  rw [List.nodup_cons]at hn
  cases k with
  |zero=>simp only [List.getElem?_cons_zero,Option.some.injEq]at h;subst h;simp [idxOf]
  |succ k=>
   simp only [List.getElem?_cons_succ]at h
   have hne:id≠a:=fun e=>hn.1 (by subst e;exact List.mem_of_getElem? h)
   simp [idxOf,hne,vz hn.2 h]
theorem Bu:∀(ids:List Nat)(bs:List Box)(s:St),ids.Nodup->bs.length=ids.length->∀(j:Nat)id bx,ids[j]? =some id->bs[j]? =some bx->(s.ups (ids.zip bs)).boxes id=some bx
 | [],bs,s,_,_,j,id,bx,hj,_=>by simp at hj
 |i::ids,[],s,_,hl,j,id,bx,_,_=>by simp at hl
 |i::ids,b::bs,s,hn,hl,j,id,bx,hj,hb=>by
  rw [List.nodup_cons]at hn
  simp only [List.length_cons]at hl
  rw [List.zip_cons_cons,rr]
  cases j with
  |zero=>
   simp only [List.getElem?_cons_zero,Option.some.injEq]at hj hb
   subst hj;subst hb
   rw [re _ _ _ (fun hm => hn.1 (by
    obtain⟨x,hx,hxi⟩:=List.mem_map.1 hm
    rw [<-hxi]
    exact(List.of_mem_zip hx).1))]
   exact pW _ _ _
  |succ j=>
   simp only [List.getElem?_cons_succ]at hj hb
   exact Bu ids bs _ hn.2 za j id bx hj hb
theorem Bg(ids:List Nat)(bs:List Box)(s:St)(id:Nat)(h:id∉ids):(s.ups (ids.zip bs)).boxes id=s.boxes id:=by
 refine re _ _ _ fun hm=>h ?_
 obtain⟨x,hx,hxi⟩:=List.mem_map.1 hm
 rw [<-hxi]
 exact(List.of_mem_zip hx).1
theorem Frame.trans{E:Prop}{B0 bls:List Nat}{w0 w w':World}(h:Frame E B0 w0 w)(h':Frame E bls w w')(hb:∀b∈bls,b∈B0∨w0.heap.size<=b):Frame E B0 w0 w':=
 ⟨h'.os.trans h.os, h'.tape.trans h.tape, h'.output.trans h.output, Nat.le_trans h.size h'.size, fun b hlt hn => by
  rw [h'.block b (Nat.lt_of_lt_of_le hlt h.size) ?_]
  ·exact h.block b hlt hn
  ·intro hm
   rcases hb b hm with h1|h1
   ·exact hn h1
   ·omega,fun he=>Nat.le_trans (h.drawn he) (h'.drawn he)⟩
end
end Go.Dw
namespace Go.Dw
section
variable {P:Program}{X:Ctx}{S:pR}{loc:qe}{s:St}{tm:Array Value}{w:World}
theorem Ar(h:Sim P X S loc s tm w){ids:List Nat}{bxs bs2:List Box}{b:p8}{f:Nat->Nat->Nat}{ρ:Ren}(hn:ids.Nodup)(hlen:bxs.length=ids.length)(hg:∀(j:Nat)id,ids[j]? =some id->∃bx,s.boxes id=some bx∧bxs[j]? =some bx)
  (hb:∀id bx,b id=some bx->s.boxes id=some bx) (hρ:ρ=⟨idxOf ids,qt b f⟩) (hl2:bs2.length=ids.length) (h2:∀(k:Nat)id bx,ids[k]? =some id->bxs[k]? =some bx->bs2[k]? =some (sj ρ (f id) bx)):
  ∃ls:List Loc,ls.length=ids.length∧(∀(j:Nat)id,ids[j]? =some id->∃L,loc id=some L∧ls[j]? =some (qc (f id) L))∧uV ρ loc (look ls)∧Mem P S (look ls) (look bs2) w:=by
 have hL:∀(j:Nat)id,ids[j]? =some id->∃L,loc id=some L:=fun j id hj=>by
  obtain⟨bx,hb,_⟩:=hg j id hj
  obtain⟨L,h1,_⟩:=h.boxes id bx hb
  exact⟨L,h1⟩
 let ls:List Loc:=ids.map fun id=>match loc id with|some L=>qc (f id) L|none=>.dead
 have hls:∀(j:Nat)id,ids[j]? =some id->∃L,loc id=some L∧ls[j]? =some (qc (f id) L):=fun j id hj=>by
  obtain⟨L,h1⟩:=hL j id hj
  exact⟨L,h1,by simp [ls,hj,h1]⟩
 have hr:uV ρ loc (look ls):=by
  subst hρ
  refine uV.mk' (P:=P) (S:=S) (w:=w) (fun id bx hb'=>h.boxes id bx (hb id bx hb')) (fun id k L hp hL=>?_)
  obtain⟨L',h1,h2⟩:=hls k id (uC hp)
  rw [hL]at h1
  cases h1
  rw [qh]
  exact h2
 refine⟨ls,by simp [ls],hls,hr,h.mem.ren hr (fun k bx' hk=>?_) (fun k L' hk=>?_)⟩
 ·rw [qh]at hk
  have hlt:k<ids.length:=by rw [<-hl2];exact(List.getElem?_eq_some_iff.1 hk).1
  have hid:=zd hlt
  obtain⟨bx,h1,h3⟩:=hg k _ hid
  rw [h2 k _ bx hid h3]at hk
  cases hk
  refine⟨ids[k],bx,_,by rw [hρ];exact vz hn hid,h1,rfl,fun L hL=>?_⟩
  obtain⟨L',h3,h4⟩:=hls k _ hid
  rw [hL]at h3
  cases h3
  rw [qh]
  exact h4
 ·rw [qh]at hk
  have hlt:k<ids.length:=by have:=(List.getElem?_eq_some_iff.1 hk).1;simpa [ls]using this
  have hid:=zd hlt
  obtain⟨L,h3,h4⟩:=hls k _ hid
  obtain⟨bx,_,h5⟩:=hg k _ hid
  rw [hk]at h4
  cases h4
  exact⟨⟨_,by rw [qh];exact h2 k _ bx hid h5⟩,ids[k],L,_,by rw [hρ];exact vz hn hid,h3,rfl⟩
theorem Sim.Bv(h:Sim P X S loc s tm w){ids news:List Nat}{bs':List Box}{ls ls':List Loc}{off:Nat->Nat}{r:RV}{v:Value}{w':World}{S':pR}{σ:Ren}(hn:ids.Nodup)
  (hlen:ls.length=ids.length) (hls:∀(j:Nat)id,ids[j]? =some id->∃L,loc id=some L∧ls[j]? =some (qc (fun _=>0) L))
  (hoff:∀(j:Nat)id ver e sz hdr L,ids[j]? =some id->loc id=some L->L.Row ver e sz hdr->off j=ver)
  (hnew:∀i∈news,s.boxes i=none) (hnn:news.Nodup) (hnl:(ids++news).length=bs'.length)
  (hσ:σ=⟨look (ids++news),qt (look bs') fun k cur=>off k+cur⟩) (ha:xl P X.base.mono S w ls ids.length r bs' v w' S' ls'):
  ∃loc2,Sim P X S' loc2 (s.ups ((ids++news).zip (bs'.zipIdx.map fun x=>sj σ (fun cur=>off x.2+cur) x.1))) tm w'∧R S' loc2 (rX σ r) v∧qa loc loc2:=by
 have hold:∀id∈ids,∃L,loc id=some L:=fun id hid=>by
  obtain⟨j,hj⟩:=List.getElem?_of_mem hid
  obtain⟨L,h1,_⟩:=hls j id hj
  exact⟨L,h1⟩
 have hall:(ids++news).Nodup:=by
  rw [List.nodup_append]
  refine⟨hn,hnn,fun a ha b hb hab=>?_⟩
  subst hab
  obtain⟨L,h1⟩:=hold a ha
  obtain⟨bx,h2⟩:=h.dom a L h1
  rw [hnew a hb]at h2
  cases h2
 let loc2:qe:=fun id=>match idxOf (ids++news) id with|some k=>(look ls' k).map (qc (off k+ ·))|none=>loc id
 have hl2:∀k id,(ids++news)[k]? =some id->loc2 id=(look ls' k).map (qc (off k+ ·)):=fun k id hk=>by
  simp only [loc2,vz hall hk]
 have hl2n:∀id,id∉ids++news->loc2 id=loc id:=fun id hid=>by
  simp only [loc2]
  cases hi:idxOf (ids++news) id with
  |none=>rfl
  |some k=>exact(hid (List.mem_of_getElem? (uC hi))).elim
 have hr:uV σ (look ls') loc2:=by
  subst hσ
  refine uV.mk' (P:=P) (S:=S') (w:=w') ha.mem.boxes (fun k id L hp hL=>?_)
  rw [qh]at hp
  rw [hl2 k id hp,hL]
  rfl
 have hblk:∀b∈xY ls,∃id∈ids,∃L,loc id=some L∧L.has b:=fun b hb=>by
  obtain⟨k,L,h1,h2⟩:=ui.1 hb
  rw [qh]at h1
  have hk:k<ids.length:=by rw [<-hlen];exact(List.getElem?_eq_some_iff.1 h1).1
  obtain⟨L',h3,h4⟩:=hls k _ (zd hk)
  rw [h1]at h4
  cases h4
  rw [sw]at h2
  exact⟨_,List.getElem_mem hk,L',h3,h2⟩
 have hblk0:∀b∈xY ls,b∈X.B0∨X.w0.heap.size<=b:=fun b hb=>by
  obtain⟨id,_,L,h1,h2⟩:=hblk b hb
  exact h.own id L b h1 h2
 have hle:qa loc loc2:=fun id L hL=>by
  by_cases hid:id∈ids++news
  rotate_left
  ·exact⟨L,by rw [hl2n id hid];exact hL,.same _⟩
  obtain⟨k,hk⟩:=List.getElem?_of_mem hid
  have hki:k<ids.length:=by
   by_cases hlt:k<ids.length
   ·exact hlt
   ·rw [List.getElem?_append_right za]at hk
    obtain⟨bx,hbx⟩:=h.dom id L hL
    rw [hnew id (List.mem_of_getElem? hk)]at hbx
    cases hbx
  have hk':ids[k]? =some id:=by rwa [List.getElem?_append_left hki]at hk
  obtain⟨L0,h1,h2⟩:=hls k id hk'
  rw [hL]at h1
  cases h1
  obtain⟨L',h3,h4⟩:=ha.le k _ (by rw [qh];exact h2)
  refine⟨qc (off k+ ·) L',by rw [hl2 k id hk,h3];rfl,?_⟩
  generalize hx:qc (fun _=>0) L=L1 at h4
  cases h4 with
  |same=>
   subst hx
   cases L with
   |arr ver e sz hdr=>
    have:=hoff k id ver e sz hdr _ hk' hL .arr
    simp only [qc,Nat.add_zero,this]
    exact .same _
   |var b=>exact .same _
   |dead=>exact .same _
   |map b=>exact .same _
  |dead=>exact .dead _
  |arr hlt=>
   cases L<;>simp only [qc,Loc.arr.injEq,reduceCtorEq]at hx
   rename_i ver e sz hdr
   have:=hoff k id ver e sz hdr _ hk' hL .arr
   obtain⟨hx, -⟩:=hx
   exact .arr (show ver<off k+_ by omega)
 have hbx:∀k id,(ids++news)[k]? =some id->∃bx,bs'[k]? =some bx∧(s.ups ((ids++news).zip (bs'.zipIdx.map fun x=>sj σ (fun cur=>off x.2+cur) x.1))).boxes id=some (sj σ (fun cur=>off k+cur) bx):=fun k id hk=>by
  have hlt:k<bs'.length:=by rw [<-hnl];exact(List.getElem?_eq_some_iff.1 hk).1
  refine⟨bs'[k],zd hlt,?_⟩
  refine Bu _ _ s hall (by simp [hnl]) k id _ hk ?_
  simp [hlt]
 have hbn:∀id,id∉ids++news->(s.ups ((ids++news).zip (bs'.zipIdx.map fun x=>sj σ (fun cur=>off x.2+cur) x.1))).boxes id=s.boxes id:=fun id hid=>Bg _ _ s id hid
 have hother:∀id L b,id∉ids++news->loc id=some L->L.has b->b<w.heap.size∧b∉xY ls:=fun id L b hid hL hb=>by
  refine⟨h.mem.lt hL hb,fun hm=>?_⟩
  obtain⟨id',h1,L',h2,h3⟩:=hblk b hm
  have:=h.inj id id' L L' b hL h2 hb h3
  subst this
  exact hid (List.mem_append.2 (.inl h1))
 have hmine:∀id L b,id∈ids++news->loc2 id=some L->L.has b->∃k L',look ls' k=some L'∧L'.has b∧(ids++news)[k]? =some id∧(b∈xY ls∨w.heap.size<=b):=fun id L b hid hL hb=>by
  obtain⟨k,hk⟩:=List.getElem?_of_mem hid
  rw [hl2 k id hk,Option.map_eq_some_iff]at hL
  obtain⟨L',h1,rfl⟩:=hL
  rw [sw]at hb
  exact⟨k,L',h1,hb,hk,ha.own k L' b h1 hb⟩
 refine⟨loc2,⟨h.nt,?_,?_,?_,ha.mem.imm,ha.mem.tJ,?_,?_,?_,h.frame.trans ha.frame hblk0,h.s0.trans ha.sub,?_,?_,h.bs.trans ha.sub,fun x hx=>?_⟩,R.rX hr ha.res,hle⟩
 rotate_right
 ·obtain⟨h1,o,v,h2⟩:=h.ob x hx
  refine⟨?_,o,v,h2⟩
  rw [<-h1]
  refine ha.frame.block _ (Array.getElem?_eq_some_iff.1 h1).1 fun hm=>?_
  obtain⟨id,_,L,h3,h4⟩:=hblk _ hm
  have h5:=h.ss id L x.1 h3 h4 o
  rw [h.bs _ _ h2]at h5
  cases h5
 ·intro t rv ht
  rw [rF]at ht
  obtain⟨u,h1,h2⟩:=h.pU t rv ht
  exact⟨u,h1,h2.mono ha.sub hle⟩
 ·intro id bx hb
  by_cases hid:id∈ids++news
  ·obtain⟨k,hk⟩:=List.getElem?_of_mem hid
   obtain⟨bx0,h1,h2⟩:=hbx k id hk
   rw [h2]at hb
   cases hb
   obtain⟨L,h3,h4⟩:=ha.mem.boxes k bx0 (by rw [qh];exact h1)
   exact⟨qc (off k+ ·) L,by rw [hl2 k id hk,h3];rfl,tU.ren hr _ h4⟩
  ·rw [hbn id hid]at hb
   obtain⟨L,h1,h2⟩:=h.boxes id bx hb
   refine⟨L,by rw [hl2n id hid];exact h1,h2.py ha.sub hle fun b hb'=>?_⟩
   obtain⟨h3,h4⟩:=hother id L b hid h1 hb'
   exact ha.frame.block b h3 h4
 ·intro id L hL
  by_cases hid:id∈ids++news
  ·obtain⟨k,hk⟩:=List.getElem?_of_mem hid
   obtain⟨bx0,_,h2⟩:=hbx k id hk
   exact⟨_,h2⟩
  ·rw [hl2n id hid]at hL
   rw [hbn id hid]
   exact h.dom id L hL
 ·intro id L b hL hb o
  by_cases hid:id∈ids++news
  ·obtain⟨k,L',h1,h2,_⟩:=hmine id L b hid hL hb
   exact ha.mem.ss k L' b h1 h2 o
  ·rw [hl2n id hid]at hL
   obtain⟨h3,h4⟩:=hother id L b hid hL hb
   cases hS:S' ⟨b,o,none⟩with
   |none=>rfl
   |some u=>
    rcases ha.vG _ u hS with h5|h5|h5
    ·rw [h.ss id L b hL hb o]at h5;cases h5
    ·simp only at h5;omega
    ·exact(h4 h5).elim
 ·intro id id' L L' b hL hL' hb hb'
  by_cases hid:id∈ids++news
  ·obtain⟨k,L1,h1,h2,h3,h4⟩:=hmine id L b hid hL hb
   by_cases hid':id'∈ids++news
   ·obtain⟨k',L1',h1',h2',h3',_⟩:=hmine id' L' b hid' hL' hb'
    have:=ha.mem.inj k k' L1 L1' b h1 h1' h2 h2'
    subst this
    rw [h3]at h3'
    exact Option.some.inj h3'
   ·rw [hl2n id' hid']at hL'
    obtain⟨h5,h6⟩:=hother id' L' b hid' hL' hb'
    rcases h4 with h4|h4
    ·exact(h6 h4).elim
    ·omega
  ·rw [hl2n id hid]at hL
   obtain⟨h5,h6⟩:=hother id L b hid hL hb
   by_cases hid':id'∈ids++news
   ·obtain⟨k',L1',h1',h2',h3',h4⟩:=hmine id' L' b hid' hL' hb'
    rcases h4 with h4|h4
    ·exact(h6 h4).elim
    ·omega
   ·rw [hl2n id' hid']at hL'
    exact h.inj id id' L L' b hL hL' hb hb'
 ·intro id L b hL hb
  by_cases hid:id∈ids++news
  ·obtain⟨k,L1,h1,h2,h3,h4⟩:=hmine id L b hid hL hb
   rcases h4 with h4|h4
   ·exact hblk0 b h4
   ·exact .inr (Nat.le_trans h.frame.size h4)
  ·rw [hl2n id hid]at hL
   exact h.own id L b hL hb
 ·intro k L0 hk
  obtain⟨L,h1,h2⟩:=h.par k L0 hk
  obtain⟨L',h3,h4⟩:=hle k L h1
  exact⟨L',h3,qp.trans h2 h4⟩
 ·intro ad u hu
  rcases ha.vG ad u hu with h1|h1|h1
  ·exact h.vG ad u h1
  ·exact .inr (.inl (Nat.le_trans h.frame.size h1))
  ·exact .inr ((hblk0 _ h1).symm)
theorem R.xy{S':pR}{loc':qe}{r:RV}{v:Value}(hf:xy r=true)(h:R S loc r v):R S' loc' r v:=by
 have hp:∀{p:PD}{v:Value},flatP p=true->V S p v->V S' p v:=by
  intro p v hf h
  cases h with
  |bool=>exact .bool _
  |int=>exact .int _ _
  |str=>exact .str _
  |_=>cases hf
 cases r with
 |d p=>
  cases h with
  |d h=>
  cases h with
  |bool=>exact .d (.bool _)
  |int=>exact .d (.int _ _)
  |str=>exact .d (.str _)
  |agg cs vs hl h=>
   simp only [Dw.xy,List.all_eq_true]at hf
   exact .d (.agg cs vs hl fun i p v h1 h2=>hp (hf p (List.mem_of_getElem? h1)) (h i p v h1 h2))
  |_=>cases hf
 |err b=>
  cases h with
  |err=>exact .err _ _
  |noerr=>exact .noerr
 |_=>cases hf
theorem R.flatR{S':pR}{loc':qe}{σ:Ren}{r:RV}{v:Value}(hf:flatV r=true)(h:R S loc (Dw.rX σ r) v):R S' loc' (Dw.rX σ r) v:=by
 cases r with
 |tup cs=>
  have h1:Dw.rX σ (.tup cs)= .tup cs:=by
   simp only [Dw.rX,RV.tup.injEq]
   refine(List.map_congr_left fun c hc=>?_).trans (List.map_id _)
   have:=List.all_eq_true.1 hf c hc
   cases c<;>first|rfl|cases this
  rw [h1]at h⊢
  cases h with
  |tup cs vs hl h=>exact .tup cs vs hl fun i c v k1 k2=>(h i c v k1 k2).xy (List.all_eq_true.1 hf c (List.mem_of_getElem? k1))
 |d p=>exact R.xy (r:= .d p) hf h
 |err b=>exact R.xy (r:= .err b) hf h
 |_=>cases hf
theorem Sim.frame0(h:Sim P X S loc s tm w){w':World}{bl:List Nat}(hb:bl=[])(hs:Frame X.base.mono bl w w'):Sim P X S loc s tm w':=by
 subst hb
 refine⟨h.nt,h.pU,?_,h.dom,?_,h.tJ,h.ss,h.inj,h.own,h.frame.trans hs (fun b hb=>by cases hb),h.s0,h.par,h.vG,h.bs,fun x hx=>⟨by rw [<-(h.ob x hx).1];exact hs.block _ (Array.getElem?_eq_some_iff.1 (h.ob x hx).1).1 sm,(h.ob x hx).2⟩⟩
 ·intro i bx hb
  obtain⟨L,h1,h2⟩:=h.boxes i bx hb
  exact⟨L,h1,h2.py (Sub.refl S) (qa.refl loc) (fun b hb=>hs.block b (h2.sR hb) sm)⟩
 ·intro ad v hv
  have hc:=h.imm ad v hv
  rw [<-hc]
  exact sI (hs.block ad.block (World.block_lt_of_cell? w ad hc) sm)
theorem sX{by_:FuncId->Nat->Bool}{call:pT}(hcall:rQ P X.base call){o:Oper}{a:Act}(h:Sim P X S loc s a.tmps w)(hd:a.defers=[])(hdst:∀d,o.dst=some d->d<X.nt){f:FuncId}{base:Nat}{args:List RV}{v:RV}{u:Ups}{r:List Nat}
  (hl:sk by_ call f base args s.boxes=some ((v,u),r,true)) {vs:Array Value} (hlen:args.length=vs.size) (hargs:∀(i:Nat)x y,args[i]? =some x->vs[i]? =some y->R S loc x y)
  (hrun:(execOp a.eval o).run P w=(callFunc f vs).run P w):ue P X ((s.ups u).put o.dst v) o a w:=by
 obtain⟨⟨as,u0⟩,r1,r2,h1,h2,_⟩:=M.bind_some hl
 obtain⟨ids,r3,r4,h3,h4,_⟩:=M.bind_some h2
 obtain⟨bxs,r5,r6,h5,h6,_⟩:=M.bind_some h4
 rcases hc:call f (as.map (rX (uO ids bxs))) (bxs.map (sj (uO ids bxs) fun _=>0))with _|⟨res,bs'⟩
 ·simp only [hc]at h6;exact fE s.boxes h6
 simp only [hc]at h6
 split at h6
 rotate_left
 ·exact fE s.boxes h6
 rename_i hcond
 obtain⟨hc1,hc2,hc3⟩:=hcond
 obtain⟨_,r7,r8,h7,h8,_⟩:=M.bind_some h6
 obtain⟨h9, -, -⟩:=M.pK h8
 cases h9
 have hn:=v7 hc2
 obtain⟨a1,a2,a3,a4⟩:=xT h1
 obtain⟨g1,g2⟩:=vV h5
 obtain⟨S1,loc1,hS1,hsub,hle,hfz⟩:=h.uA u0 a1 (fun x hx=>.inl (a2 x hx))
 have hkeep:∀id∈ids,(s.ups u0).boxes id=s.boxes id:=fun id hid=>re _ _ _ (vu hc3 id hid)
 have hg:∀(j:Nat)id,ids[j]? =some id->∃bx,(s.ups u0).boxes id=some bx∧bxs[j]? =some bx:=fun j id hj=>by
  obtain⟨bx,k1,k2⟩:=g2 j id hj
  exact⟨bx,by rw [hkeep id (List.mem_of_getElem? hj)];exact k1,k2⟩
 obtain ⟨ls, q1, q2, q3, q4⟩ := Ar hS1 (f := fun _ _ => 0) (b := fun i => (idxOf ids i).bind (look bxs)) (ρ := (uO ids bxs)) (bs2 := bxs.map (sj (uO ids bxs) fun _ => 0)) hn g1 hg (fun id bx hb => by
   rw [Option.bind_eq_some_iff]at hb
   obtain⟨k,m1,m2⟩:=hb
   obtain⟨bx',m3,m4⟩:=hg k id (uC m1)
   rw [qh,m4]at m2
   cases m2
   exact m3) rfl (by simp [g1]) (fun k id bx hk hbx=>by rw [List.getElem?_map,hbx];rfl)
 have hok := hcall f _ _ res bs' hc S1 w ls vs q4 (by rw [q1, List.length_map, g1]) hS1.bs hS1.ob (by rw [List.length_map, a3]; exact hlen) (fun i x y hx hy => by
  rw [List.getElem?_map,Option.map_eq_some_iff]at hx
  obtain⟨x0,hx0,rfl⟩:=hx
  have hi:i<args.length:=by rw [<-a3];exact(List.getElem?_eq_some_iff.1 hx0).1
  exact R.rX q3 (a4 S loc S1 loc1 hsub hle hfz i args[i] x0 y (zd hi) hx0 (hargs i _ y (zd hi) hy)))
 intro K Q hK
 unfold Oper.wp
 rw [hrun]
 suffices tail:∀rv w',(∃S' ls',xl P X.base.mono S1 w ls (bxs.map (sj (uO ids bxs) fun _=>0)).length res bs' rv w' S' ls')->K (a.put o.dst rv) w' by
  rcases hok with⟨⟨fn,hfn,hname,hbody⟩,hcalls⟩|⟨rv,w',hr,hR⟩
  ·have hrun':(callFunc f vs).run P w= .ok (.enter f vs) w:=by
    have : (fn.name == "runtime.NumGoroutine") = false := by simpa using hname
    simp only [callFunc,Sem.run_bind,run_program,Result.andThen_ok,hfn,this,hbody,Bool.false_eq_true,if_false,Sem.run_pure]
   rw [hrun',Oper.upon_enter]
   refine hcalls.mono fun e w' he=>?_
   obtain⟨rv,rfl,he⟩:=he
   exact tail rv w' he
  ·rw [hr,Oper.upon_value]
   exact tail rv w' hR
 intro rv w' he
 obtain⟨S',ls',ha⟩:=he
 rw [List.length_map,g1]at ha
 have hvac:=vQ h7
 obtain ⟨loc2, k1, k2, _⟩ := hS1.Bv (off := offOf bxs) hn q1 q2 (fun j id ver e sz hdr L hj hL hr => by
   obtain⟨bx,m1,m2⟩:=hg j id hj
   have:=hS1.rO m1 hL
   simp only [offOf,qh,m2]
   cases this with
   |arr=>cases hr;rfl
   |dead _ hd=>subst hd;cases hr
   |var=>cases hr
   |map=>cases hr)
  (fun i hi => by
   have hv:=hvac i hi
   rw [re _ _ _ fun hm=>?_]
   ·exact hv
   ·obtain⟨y,hy,hyi⟩:=List.mem_map.1 hm
    obtain⟨ver,e,es,hy2⟩:=a2 y hy
    rw [hyi,hv]at hy2
    cases hy2)
  (by
   unfold tF
   rw [List.nodup_iff_pairwise_ne,List.pairwise_map]
   exact List.pairwise_lt_range.imp fun{a b}hab=>za)
  (by simp [tF];omega) rfl ha
 by_cases hth:(ids.isEmpty&&(bs'.isEmpty&&flatV res))=true
 ·refine hK _ _ ⟨by cases o.dst<;>exact hd,S,loc,?_⟩
  rw [zX,if_pos hth]
  simp only [Bool.and_eq_true,List.isEmpty_iff]at hth
  obtain⟨e1,e2,e3⟩:=hth
  subst e1
  have hls:ls=[]:=List.eq_nil_of_length_eq_zero q1
  subst hls
  exact(h.frame0 rfl ha.frame).put (a:=a) (k2.flatR e3) o.dst hdst
 refine hK _ _ ⟨by cases o.dst<;>exact hd,S',loc2,?_⟩
 rw [zX,if_neg hth,tL]
 exact k1.put (a:=a) k2 o.dst hdst
end
end Go.Dw
