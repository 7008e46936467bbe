
import Derived.Test.YthadlbjoiidkjaaGreatDoorDwRen

namespace Go.Dw
def Loc.blocks:Loc->List Nat
 |L=>L.block.toList
theorem pX{L:Loc}{b:Nat}:b∈L.blocks↔L.has b:=by
 cases L<;>simp [Loc.blocks,Loc.has,Loc.block,eq_comm]
def pq(ls:List Loc):List Nat:=ls.flatMap Loc.blocks
theorem jv{α:Type}:∀(l:List α)(i:Nat),look l i=l[i]?
 | [],_=>rfl
 |a::r,0=>rfl
 |a::r,n+1=>by rw [look,jv r n];rfl
theorem n4{ls:List Loc}{b:Nat}:b∈pq ls↔∃k L,look ls k=some L∧L.has b:=by
 unfold pq
 rw [List.mem_flatMap]
 constructor
 ·rintro⟨L,hL,hb⟩
  obtain⟨k,hk⟩:=List.getElem?_of_mem hL
  exact⟨k,L,by rw [jv];exact hk,pX.1 hb⟩
 ·rintro⟨k,L,hk,hb⟩
  rw [jv]at hk
  exact⟨L,List.mem_of_getElem? hk,pX.2 hb⟩
def Enters (P : Program) (f : FuncId) : Prop := ∃ fn, P.funcs[f]? = some fn ∧ fn.name ≠ "runtime.NumGoroutine" ∧ fn.body.isNone = false
def qQ(P:Program)(f:FuncId)(vs:Array Value)(w:World)(R:Value->World->Prop):Prop:=
 (Enters P f∧Calls P f vs w fun e w'=>∃v,e= .returned v∧R v w')∨(∃v w',(callFunc f vs).run P w= .ok (.value v) w'∧R v w')
structure oT(P:Program)(E:Prop)(S:iW)(w:World)(ls:List Loc)(n:Nat)(r:RV)(bs':List Box)(v:Value)(w':World)(S':iW)(ls':List Loc):Prop where
 len:ls'.length=bs'.length
 more:n<=bs'.length
 sub:Sub S S'
 mem:Mem P S' (look ls') (look bs') w'
 nz:∀ad v,S' ad=some v->S ad=some v∨w.heap.size<=ad.block∨ad.block∈pq ls
 le:jm (look ls) (look ls')
 own:∀k L b,look ls' k=some L->L.has b->b∈pq ls∨w.heap.size<=b
 frame:Frame E (pq ls) w w'
 res:R S' (look ls') r v
def kr(P:Program)(base:mN)(f:FuncId)(args:List RV)(bs:List Box)(r:RV)(bs':List Box):Prop:=
 ∀(S:iW)(w:World)(ls:List Loc)(vs:Array Value),Mem P S (look ls) (look bs) w->ls.length=bs.length->Sub base.snap S->(∀x∈base.objs,w.heap[x.1]? =some x.2∧∃o v,base.snap ⟨x.1,o,none⟩=some v)->
  args.length=vs.size->(∀(i:Nat)a v,args[i]? =some a->vs[i]? =some v->R S (look ls) a v)->
  qQ P f vs w fun v w'=>∃S' ls',oT P base.mono S w ls bs.length r bs' v w' S' ls'
def kA(P:Program)(base:mN)(call:jd):Prop:=∀f args bs r bs',call f args bs=some (r,bs')->kr P base f args bs r bs'
section
variable {P:Program}{X:Ctx}{S:iW}{loc:jq}{s:St}{tm:Array Value}{w:World}
theorem um{by_:Bool}{c x:RV}{b:jk}{u:Ups}{r:List Nat}(h:argD by_ c b=some ((x,u),r,true)):
  lp u∧(∀y∈u,∃ver e es,b y.1=some (.arr ver e es))∧
  ∀S loc S' loc' v,Sub S S'->jm loc loc'->(∀y∈u,Frz b S loc S' y.1)->R S loc c v->R S' loc' x v:=by
 have same:∀{r:List Nat},M.pure (c,([]:Ups)) b=some ((x,u),r,true)->lp u∧(∀y∈u,∃ver e es,b y.1=some (.arr ver e es))∧
   ∀S loc S' loc' v,Sub S S'->jm loc loc'->(∀y∈u,Frz b S loc S' y.1)->R S loc c v->R S' loc' x v:=by
  intro r h
  obtain⟨h1, -, -⟩:=M.cI h
  cases h1
  exact⟨(fun y hy=>by cases hy),(fun y hy=>by cases hy),fun S loc S' loc' v hs hl _ hr=>hr.mono hs hl⟩
 have data:∀{r:List Nat}{p:PD}{u1:Ups},kP c b=some ((p,u1),r,true)->x= .d p->u=u1->lp u∧(∀y∈u,∃ver e es,b y.1=some (.arr ver e es))∧
   ∀S loc S' loc' v,Sub S S'->jm loc loc'->(∀y∈u,Frz b S loc S' y.1)->R S loc c v->R S' loc' x v:=by
  rintro r p u1 h rfl rfl
  obtain⟨a1,a2,a3⟩:=l9 h
  exact⟨a1,a2,fun S loc S' loc' v hs _ hf hr=>.d (a3 S loc S' v hr hs hf)⟩
 have jb:(M.bind (kP c) fun(p,u)=>M.jb c.sized ((RV.d p,u):RV×Ups)) b=some ((x,u),r,true)->lp u∧(∀y∈u,∃ver e es,b y.1=some (.arr ver e es))∧
   ∀S loc S' loc' v,Sub S S'->jm loc loc'->(∀y∈u,Frz b S loc S' y.1)->R S loc c v->R S' loc' x v:=by
  intro h
  obtain⟨⟨p,u1⟩,r1,r2,h1,h2,_⟩:=M.bind_some h
  obtain⟨h3, -, -⟩:=M.iU h2
  cases h3
  exact data h1 rfl rfl
 have byref:(if by_ then M.pure (c,([]:Ups))else M.bind (kP c) fun(p,u)=>M.pure ((RV.d p,u):RV×Ups)) b=some ((x,u),r,true)->lp u∧(∀y∈u,∃ver e es,b y.1=some (.arr ver e es))∧
   ∀S loc S' loc' v,Sub S S'->jm loc loc'->(∀y∈u,Frz b S loc S' y.1)->R S loc c v->R S' loc' x v:=by
  intro h
  cases by_ with
  |true=>exact same h
  |false=>
   simp only [Bool.false_eq_true,if_false]at h
   obtain⟨⟨p,u1⟩,r1,r2,h1,h2,_⟩:=M.bind_some h
   obtain⟨h3, -, -⟩:=M.cI h2
   cases h3
   exact data h1 rfl rfl
 cases c with
 |ptr _ _=>exact same h
 |elt _ _ _ _=>exact same h
 |clo _ _=>exact same h
 |fview _ _ _=>exact jb h
 |err _=>exact jb h
 |dfull _=>exact jb h
 |ifc _ _=>exact same h
 |ref _ _=>exact byref h
 |view _ _ _ _=>exact byref h
 |d _=>exact jb h
 |undef=>exact jb h
 |junk=>exact jb h
 |iZ=>
  by_cases hby:by_=true
  ·subst hby;exact same h
  ·have hbf:by_=false:=by cases by_<;>simp_all
   subst hbf
   exact jb h
 |agg _=>
  by_cases hby:by_=true
  ·subst hby;exact same h
  ·have hbf:by_=false:=by cases by_<;>simp_all
   subst hbf
   exact jb h
 |tup _=>exact jb h
 |cptr _=>exact jb h
theorem pF{by_:Nat->Bool}:∀{args:List RV}{i:Nat}{b:jk}{as:List RV}{u:Ups}{r:List Nat},nB by_ i args b=some ((as,u),r,true)->
  lp u∧(∀x∈u,∃ver e es,b x.1=some (.arr ver e es))∧as.length=args.length∧
  ∀S loc S' loc',Sub S S'->jm loc loc'->(∀x∈u,Frz b S loc S' x.1)->
   ∀(i:Nat)x a v,args[i]? =some x->as[i]? =some a->R S loc x v->R S' loc' a v
 | [],i,b,as,u,r,h=>by
  obtain⟨h1, -, -⟩:=M.cI (b:=b) h
  cases h1
  exact⟨(fun x hx=>by cases hx),(fun x hx=>by cases hx),rfl,fun S loc S' loc' _ _ _ i x a v hx=>by simp at hx⟩
 |c::cs,i,b,as,u,r,h=>by
  obtain⟨⟨x,u1⟩,r1,r2,h1,h2,_⟩:=M.bind_some h
  obtain⟨⟨l,u2⟩,r3,r4,h3,h4,_⟩:=M.bind_some h2
  obtain⟨h5, -, -⟩:=M.cI h4
  cases h5
  obtain⟨a1,a2,a3⟩:=um h1
  obtain⟨b1,b2,b3,b4⟩:=pF h3
  refine⟨fun x hx=>(List.mem_append.1 hx).elim (a1 x) (b1 x),fun x hx=>(List.mem_append.1 hx).elim (a2 x) (b2 x),by simp [b3],?_⟩
  intro S loc S' loc' hs hl hv j y a v hy ha hr
  cases j with
  |zero=>
   simp only [List.getElem?_cons_zero,Option.some.injEq]at hy ha
   subst hy;subst ha
   exact a3 S loc S' loc' v hs hl (fun x hx=>hv x (List.mem_append.2 (.inl hx))) hr
  |succ j=>
   simp only [List.getElem?_cons_succ]at hy ha
   exact b4 S loc S' loc' hs hl (fun x hx=>hv x (List.mem_append.2 (.inr hx))) j y a v hy ha hr
theorem nM:∀{ids:List Nat}{b:jk}{l:List Box}{r:List Nat},mV ids b=some (l,r,true)->
  l.length=ids.length∧∀(j:Nat)id,ids[j]? =some id->∃bx,b id=some bx∧l[j]? =some bx
 | [],b,l,r,h=>by
  obtain⟨h1, -, -⟩:=M.cI (b:=b) h
  subst h1
  exact⟨rfl,fun j id hj=>by simp at hj⟩
 |i::ids,b,l,r,h=>by
  obtain⟨bx,r1,r2,h1,h2,_⟩:=M.bind_some h
  obtain⟨hb,_,_⟩:=M.get_some h1
  obtain⟨l',r3,r4,h3,h4,_⟩:=M.bind_some h2
  obtain⟨h5, -, -⟩:=M.cI h4
  subst h5
  obtain⟨g1,g2⟩:=nM h3
  refine⟨by simp [g1],fun j id hj=>?_⟩
  cases j with
  |zero=>simp only [List.getElem?_cons_zero,Option.some.injEq]at hj;subst hj;exact⟨bx,hb,rfl⟩
  |succ j=>simp only [List.getElem?_cons_succ]at hj⊢;exact g2 j id hj
theorem nH:∀{ids:List Nat}{b:jk}{x:Unit}{r:List Nat},kQ ids b=some (x,r,true)->∀i∈ids,b i=none
 | [],b,x,r,_=>fun i hi=>by cases hi
 |i::ids,b,x,r,h=>by
  obtain⟨_,r1,r2,h1,h2,_⟩:=M.bind_some h
  obtain⟨hb,_,_⟩:=M.jD h1
  intro j hj
  rcases List.mem_cons.1 hj with rfl|hj
  ·exact hb
  ·exact nH h2 j hj
theorem nR:∀{l:List Nat},nodup l=true->l.Nodup
 | [],_=>List.nodup_nil
 |a::r,h=>by
  simp only [nodup,Bool.and_eq_true,Bool.not_eq_true']at h
  refine List.nodup_cons.2 ⟨?_,nR h.2⟩
  intro hm
  have:=h.1
  simp [hm]at this
theorem nj{a b:List Nat}(h:disj a b=true):∀x∈a,x∉b:=fun x hx hb=>by
 have:=List.all_eq_true.1 h x hx
 simp [hb]at this
theorem ml:∀{l:List Nat}{id k:Nat},idxOf l id=some k->l[k]? =some id
 | [],id,k,h=>by simp [idxOf]at h
 |a::r,id,k,h=>by
  simp only [idxOf]at h
  split at h
  ·rename_i ha;cases h;subst ha;rfl
  ·cases hr:idxOf r id with
   |none=>simp [hr]at h
   |some j=>simp only [hr,Option.map_some,Option.some.injEq]at h;subst h;simpa using ml hr
theorem nn:∀{l:List Nat}{id k:Nat},l.Nodup->l[k]? =some id->idxOf l id=some k
 | [],id,k,_,h=>by simp at h
 |a::r,id,k,hn,h=>by
  rw [List.nodup_cons]at hn
  cases k with
  |zero=>simp only [List.getElem?_cons_zero,Option.some.injEq]at h;subst h;simp [idxOf]
  |succ k=>
   simp only [List.getElem?_cons_succ]at h
   have hne:id≠a:=fun e=>hn.1 (by subst e;exact List.mem_of_getElem? h)
   simp [idxOf,hne,nn hn.2 h]
theorem ui:∀(ids:List Nat)(bs:List Box)(s:St),ids.Nodup->bs.length=ids.length->∀(j:Nat)id bx,ids[j]? =some id->bs[j]? =some bx->(s.ups (ids.zip bs)).boxes id=some bx
 | [],bs,s,_,_,j,id,bx,hj,_=>by simp at hj
 |i::ids,[],s,_,hl,j,id,bx,_,_=>by simp at hl
 |i::ids,b::bs,s,hn,hl,j,id,bx,hj,hb=>by
  rw [List.nodup_cons]at hn
  simp only [List.length_cons]at hl
  rw [List.zip_cons_cons,j9]
  cases j with
  |zero=>
   simp only [List.getElem?_cons_zero,Option.some.injEq]at hj hb
   subst hj;subst hb
   rw [j0 _ _ _ (fun hm => hn.1 (by
    obtain⟨x,hx,hxi⟩:=List.mem_map.1 hm
    rw [<-hxi]
    exact(List.of_mem_zip hx).1))]
   exact ji _ _ _
  |succ j=>
   simp only [List.getElem?_cons_succ]at hj hb
   exact ui ids bs _ hn.2 om j id bx hj hb
theorem tU(ids:List Nat)(bs:List Box)(s:St)(id:Nat)(h:id∉ids):(s.ups (ids.zip bs)).boxes id=s.boxes id:=by
 refine j0 _ _ _ fun hm=>h ?_
 obtain⟨x,hx,hxi⟩:=List.mem_map.1 hm
 rw [<-hxi]
 exact(List.of_mem_zip hx).1
theorem Frame.trans{E:Prop}{B0 bls:List Nat}{w0 w w':World}(h:Frame E B0 w0 w)(h':Frame E bls w w')(hb:∀b∈bls,b∈B0∨w0.heap.size<=b):Frame E B0 w0 w':=
 ⟨h'.os.trans h.os, h'.tape.trans h.tape, h'.output.trans h.output, Nat.le_trans h.size h'.size, fun b hlt hn => by
  rw [h'.block b (Nat.lt_of_lt_of_le hlt h.size) ?_]
  ·exact h.block b hlt hn
  ·intro hm
   rcases hb b hm with h1|h1
   ·exact hn h1
   ·omega,fun he=>Nat.le_trans (h.drawn he) (h'.drawn he)⟩
end
end Go.Dw
namespace Go.Dw
section
variable {P:Program}{X:Ctx}{S:iW}{loc:jq}{s:St}{tm:Array Value}{w:World}
theorem sD(h:Sim P X S loc s tm w){ids:List Nat}{bxs bs2:List Box}{b:jk}{f:Nat->Nat->Nat}{ρ:Ren}(hn:ids.Nodup)(hlen:bxs.length=ids.length)(hg:∀(j:Nat)id,ids[j]? =some id->∃bx,s.boxes id=some bx∧bxs[j]? =some bx)
  (hb:∀id bx,b id=some bx->s.boxes id=some bx) (hρ:ρ=⟨idxOf ids,jF b f⟩) (hl2:bs2.length=ids.length) (h2:∀(k:Nat)id bx,ids[k]? =some id->bxs[k]? =some bx->bs2[k]? =some (kL ρ (f id) bx)):
  ∃ls:List Loc,ls.length=ids.length∧(∀(j:Nat)id,ids[j]? =some id->∃L,loc id=some L∧ls[j]? =some (jn (f id) L))∧mO ρ loc (look ls)∧Mem P S (look ls) (look bs2) w:=by
 have hL:∀(j:Nat)id,ids[j]? =some id->∃L,loc id=some L:=fun j id hj=>by
  obtain⟨bx,hb,_⟩:=hg j id hj
  obtain⟨L,h1,_⟩:=h.boxes id bx hb
  exact⟨L,h1⟩
 let ls:List Loc:=ids.map fun id=>match loc id with|some L=>jn (f id) L|none=>.dead
 have hls:∀(j:Nat)id,ids[j]? =some id->∃L,loc id=some L∧ls[j]? =some (jn (f id) L):=fun j id hj=>by
  obtain⟨L,h1⟩:=hL j id hj
  exact⟨L,h1,by simp [ls,hj,h1]⟩
 have hr:mO ρ loc (look ls):=by
  subst hρ
  refine mO.mk' (P:=P) (S:=S) (w:=w) (fun id bx hb'=>h.boxes id bx (hb id bx hb')) (fun id k L hp hL=>?_)
  obtain⟨L',h1,h2⟩:=hls k id (ml hp)
  rw [hL]at h1
  cases h1
  rw [jv]
  exact h2
 refine⟨ls,by simp [ls],hls,hr,h.mem.ren hr (fun k bx' hk=>?_) (fun k L' hk=>?_)⟩
 ·rw [jv]at hk
  have hlt:k<ids.length:=by rw [<-hl2];exact(List.getElem?_eq_some_iff.1 hk).1
  have hid:=zc hlt
  obtain⟨bx,h1,h3⟩:=hg k _ hid
  rw [h2 k _ bx hid h3]at hk
  cases hk
  refine⟨ids[k],bx,_,by rw [hρ];exact nn hn hid,h1,rfl,fun L hL=>?_⟩
  obtain⟨L',h3,h4⟩:=hls k _ hid
  rw [hL]at h3
  cases h3
  rw [jv]
  exact h4
 ·rw [jv]at hk
  have hlt:k<ids.length:=by have:=(List.getElem?_eq_some_iff.1 hk).1;simpa [ls]using this
  have hid:=zc hlt
  obtain⟨L,h3,h4⟩:=hls k _ hid
  obtain⟨bx,_,h5⟩:=hg k _ hid
  rw [hk]at h4
  cases h4
  exact⟨⟨_,by rw [jv];exact h2 k _ bx hid h5⟩,ids[k],L,_,by rw [hρ];exact nn hn hid,h3,rfl⟩
theorem Sim.uj(h:Sim P X S loc s tm w){ids news:List Nat}{bs':List Box}{ls ls':List Loc}{off:Nat->Nat}{r:RV}{v:Value}{w':World}{S':iW}{σ:Ren}(hn:ids.Nodup)
  (hlen:ls.length=ids.length) (hls:∀(j:Nat)id,ids[j]? =some id->∃L,loc id=some L∧ls[j]? =some (jn (fun _=>0) L))
  (hoff:∀(j:Nat)id ver e sz hdr L,ids[j]? =some id->loc id=some L->L.Row ver e sz hdr->off j=ver)
  (hnew:∀i∈news,s.boxes i=none) (hnn:news.Nodup) (hnl:(ids++news).length=bs'.length)
  (hσ:σ=⟨look (ids++news),jF (look bs') fun k cur=>off k+cur⟩) (ha:oT P X.base.mono S w ls ids.length r bs' v w' S' ls'):
  ∃loc2,Sim P X S' loc2 (s.ups ((ids++news).zip (bs'.zipIdx.map fun x=>kL σ (fun cur=>off x.2+cur) x.1))) tm w'∧R S' loc2 (kz σ r) v∧jm loc loc2:=by
 have hold:∀id∈ids,∃L,loc id=some L:=fun id hid=>by
  obtain⟨j,hj⟩:=List.getElem?_of_mem hid
  obtain⟨L,h1,_⟩:=hls j id hj
  exact⟨L,h1⟩
 have hall:(ids++news).Nodup:=by
  rw [List.nodup_append]
  refine⟨hn,hnn,fun a ha b hb hab=>?_⟩
  subst hab
  obtain⟨L,h1⟩:=hold a ha
  obtain⟨bx,h2⟩:=h.dom a L h1
  rw [hnew a hb]at h2
  cases h2
 let loc2:jq:=fun id=>match idxOf (ids++news) id with|some k=>(look ls' k).map (jn (off k+ ·))|none=>loc id
 have hl2:∀k id,(ids++news)[k]? =some id->loc2 id=(look ls' k).map (jn (off k+ ·)):=fun k id hk=>by
  simp only [loc2,nn hall hk]
 have hl2n:∀id,id∉ids++news->loc2 id=loc id:=fun id hid=>by
  simp only [loc2]
  cases hi:idxOf (ids++news) id with
  |none=>rfl
  |some k=>exact(hid (List.mem_of_getElem? (ml hi))).elim
 have hr:mO σ (look ls') loc2:=by
  subst hσ
  refine mO.mk' (P:=P) (S:=S') (w:=w') ha.mem.boxes (fun k id L hp hL=>?_)
  rw [jv]at hp
  rw [hl2 k id hp,hL]
  rfl
 have hblk:∀b∈pq ls,∃id∈ids,∃L,loc id=some L∧L.has b:=fun b hb=>by
  obtain⟨k,L,h1,h2⟩:=n4.1 hb
  rw [jv]at h1
  have hk:k<ids.length:=by rw [<-hlen];exact(List.getElem?_eq_some_iff.1 h1).1
  obtain⟨L',h3,h4⟩:=hls k _ (zc hk)
  rw [h1]at h4
  cases h4
  rw [kY]at h2
  exact⟨_,List.getElem_mem hk,L',h3,h2⟩
 have hblk0:∀b∈pq ls,b∈X.B0∨X.w0.heap.size<=b:=fun b hb=>by
  obtain⟨id,_,L,h1,h2⟩:=hblk b hb
  exact h.own id L b h1 h2
 have hle:jm loc loc2:=fun id L hL=>by
  by_cases hid:id∈ids++news
  rotate_left
  ·exact⟨L,by rw [hl2n id hid];exact hL,.same _⟩
  obtain⟨k,hk⟩:=List.getElem?_of_mem hid
  have hki:k<ids.length:=by
   by_cases hlt:k<ids.length
   ·exact hlt
   ·rw [List.getElem?_append_right om]at hk
    obtain⟨bx,hbx⟩:=h.dom id L hL
    rw [hnew id (List.mem_of_getElem? hk)]at hbx
    cases hbx
  have hk':ids[k]? =some id:=by rwa [List.getElem?_append_left hki]at hk
  obtain⟨L0,h1,h2⟩:=hls k id hk'
  rw [hL]at h1
  cases h1
  obtain⟨L',h3,h4⟩:=ha.le k _ (by rw [jv];exact h2)
  refine⟨jn (off k+ ·) L',by rw [hl2 k id hk,h3];rfl,?_⟩
  generalize hx:jn (fun _=>0) L=L1 at h4
  cases h4 with
  |same=>
   subst hx
   cases L with
   |arr ver e sz hdr=>
    have:=hoff k id ver e sz hdr _ hk' hL .arr
    simp only [jn,Nat.add_zero,this]
    exact .same _
   |var b=>exact .same _
   |dead=>exact .same _
   |map b=>exact .same _
  |dead=>exact .dead _
  |arr hlt=>
   cases L<;>simp only [jn,Loc.arr.injEq,reduceCtorEq]at hx
   rename_i ver e sz hdr
   have:=hoff k id ver e sz hdr _ hk' hL .arr
   obtain⟨hx, -⟩:=hx
   exact .arr (show ver<off k+_ by omega)
 have hbx:∀k id,(ids++news)[k]? =some id->∃bx,bs'[k]? =some bx∧(s.ups ((ids++news).zip (bs'.zipIdx.map fun x=>kL σ (fun cur=>off x.2+cur) x.1))).boxes id=some (kL σ (fun cur=>off k+cur) bx):=fun k id hk=>by
  have hlt:k<bs'.length:=by rw [<-hnl];exact(List.getElem?_eq_some_iff.1 hk).1
  refine⟨bs'[k],zc hlt,?_⟩
  refine ui _ _ s hall (by simp [hnl]) k id _ hk ?_
  simp [hlt]
 have hbn:∀id,id∉ids++news->(s.ups ((ids++news).zip (bs'.zipIdx.map fun x=>kL σ (fun cur=>off x.2+cur) x.1))).boxes id=s.boxes id:=fun id hid=>tU _ _ s id hid
 have hother:∀id L b,id∉ids++news->loc id=some L->L.has b->b<w.heap.size∧b∉pq ls:=fun id L b hid hL hb=>by
  refine⟨h.mem.lt hL hb,fun hm=>?_⟩
  obtain⟨id',h1,L',h2,h3⟩:=hblk b hm
  have:=h.inj id id' L L' b hL h2 hb h3
  subst this
  exact hid (List.mem_append.2 (.inl h1))
 have hmine:∀id L b,id∈ids++news->loc2 id=some L->L.has b->∃k L',look ls' k=some L'∧L'.has b∧(ids++news)[k]? =some id∧(b∈pq ls∨w.heap.size<=b):=fun id L b hid hL hb=>by
  obtain⟨k,hk⟩:=List.getElem?_of_mem hid
  rw [hl2 k id hk,Option.map_eq_some_iff]at hL
  obtain⟨L',h1,rfl⟩:=hL
  rw [kY]at hb
  exact⟨k,L',h1,hb,hk,ha.own k L' b h1 hb⟩
 refine⟨loc2,⟨h.nt,?_,?_,?_,ha.mem.imm,ha.mem.lg,?_,?_,?_,h.frame.trans ha.frame hblk0,h.s0.trans ha.sub,?_,?_,h.bs.trans ha.sub,fun x hx=>?_⟩,R.kz hr ha.res,hle⟩
 rotate_right
 ·obtain⟨h1,o,v,h2⟩:=h.ob x hx
  refine⟨?_,o,v,h2⟩
  rw [<-h1]
  refine ha.frame.block _ (Array.getElem?_eq_some_iff.1 h1).1 fun hm=>?_
  obtain⟨id,_,L,h3,h4⟩:=hblk _ hm
  have h5:=h.ll id L x.1 h3 h4 o
  rw [h.bs _ _ h2]at h5
  cases h5
 ·intro t rv ht
  rw [ko]at ht
  obtain⟨u,h1,h2⟩:=h.jh t rv ht
  exact⟨u,h1,h2.mono ha.sub hle⟩
 ·intro id bx hb
  by_cases hid:id∈ids++news
  ·obtain⟨k,hk⟩:=List.getElem?_of_mem hid
   obtain⟨bx0,h1,h2⟩:=hbx k id hk
   rw [h2]at hb
   cases hb
   obtain⟨L,h3,h4⟩:=ha.mem.boxes k bx0 (by rw [jv];exact h1)
   exact⟨jn (off k+ ·) L,by rw [hl2 k id hk,h3];rfl,lO.ren hr _ h4⟩
  ·rw [hbn id hid]at hb
   obtain⟨L,h1,h2⟩:=h.boxes id bx hb
   refine⟨L,by rw [hl2n id hid];exact h1,h2.iX ha.sub hle fun b hb'=>?_⟩
   obtain⟨h3,h4⟩:=hother id L b hid h1 hb'
   exact ha.frame.block b h3 h4
 ·intro id L hL
  by_cases hid:id∈ids++news
  ·obtain⟨k,hk⟩:=List.getElem?_of_mem hid
   obtain⟨bx0,_,h2⟩:=hbx k id hk
   exact⟨_,h2⟩
  ·rw [hl2n id hid]at hL
   rw [hbn id hid]
   exact h.dom id L hL
 ·intro id L b hL hb o
  by_cases hid:id∈ids++news
  ·obtain⟨k,L',h1,h2,_⟩:=hmine id L b hid hL hb
   exact ha.mem.ll k L' b h1 h2 o
  ·rw [hl2n id hid]at hL
   obtain⟨h3,h4⟩:=hother id L b hid hL hb
   cases hS:S' ⟨b,o,none⟩with
   |none=>rfl
   |some u=>
    rcases ha.nz _ u hS with h5|h5|h5
    ·rw [h.ll id L b hL hb o]at h5;cases h5
    ·simp only at h5;omega
    ·exact(h4 h5).elim
 ·intro id id' L L' b hL hL' hb hb'
  by_cases hid:id∈ids++news
  ·obtain⟨k,L1,h1,h2,h3,h4⟩:=hmine id L b hid hL hb
   by_cases hid':id'∈ids++news
   ·obtain⟨k',L1',h1',h2',h3',_⟩:=hmine id' L' b hid' hL' hb'
    have:=ha.mem.inj k k' L1 L1' b h1 h1' h2 h2'
    subst this
    rw [h3]at h3'
    exact Option.some.inj h3'
   ·rw [hl2n id' hid']at hL'
    obtain⟨h5,h6⟩:=hother id' L' b hid' hL' hb'
    rcases h4 with h4|h4
    ·exact(h6 h4).elim
    ·omega
  ·rw [hl2n id hid]at hL
   obtain⟨h5,h6⟩:=hother id L b hid hL hb
   by_cases hid':id'∈ids++news
   ·obtain⟨k',L1',h1',h2',h3',h4⟩:=hmine id' L' b hid' hL' hb'
    rcases h4 with h4|h4
    ·exact(h6 h4).elim
    ·omega
   ·rw [hl2n id' hid']at hL'
    exact h.inj id id' L L' b hL hL' hb hb'
 ·intro id L b hL hb
  by_cases hid:id∈ids++news
  ·obtain⟨k,L1,h1,h2,h3,h4⟩:=hmine id L b hid hL hb
   rcases h4 with h4|h4
   ·exact hblk0 b h4
   ·exact .inr (Nat.le_trans h.frame.size h4)
  ·rw [hl2n id hid]at hL
   exact h.own id L b hL hb
 ·intro k L0 hk
  obtain⟨L,h1,h2⟩:=h.par k L0 hk
  obtain⟨L',h3,h4⟩:=hle k L h1
  exact⟨L',h3,jE.trans h2 h4⟩
 ·intro ad u hu
  rcases ha.nz ad u hu with h1|h1|h1
  ·exact h.nz ad u h1
  ·exact .inr (.inl (Nat.le_trans h.frame.size h1))
  ·exact .inr ((hblk0 _ h1).symm)
theorem R.o6{S':iW}{loc':jq}{r:RV}{v:Value}(hf:o6 r=true)(h:R S loc r v):R S' loc' r v:=by
 have hp:∀{p:PD}{v:Value},flatP p=true->V S p v->V S' p v:=by
  intro p v hf h
  cases h with
  |bool=>exact .bool _
  |int=>exact .int _ _
  |str=>exact .str _
  |_=>cases hf
 cases r with
 |d p=>
  cases h with
  |d h=>
  cases h with
  |bool=>exact .d (.bool _)
  |int=>exact .d (.int _ _)
  |str=>exact .d (.str _)
  |agg cs vs hl h=>
   simp only [Dw.o6,List.all_eq_true]at hf
   exact .d (.agg cs vs hl fun i p v h1 h2=>hp (hf p (List.mem_of_getElem? h1)) (h i p v h1 h2))
  |_=>cases hf
 |err b=>
  cases h with
  |err=>exact .err _ _
  |noerr=>exact .noerr
 |_=>cases hf
theorem R.flatR{S':iW}{loc':jq}{σ:Ren}{r:RV}{v:Value}(hf:flatV r=true)(h:R S loc (Dw.kz σ r) v):R S' loc' (Dw.kz σ r) v:=by
 cases r with
 |tup cs=>
  have h1:Dw.kz σ (.tup cs)= .tup cs:=by
   simp only [Dw.kz,RV.tup.injEq]
   refine(List.map_congr_left fun c hc=>?_).trans (List.map_id _)
   have:=List.all_eq_true.1 hf c hc
   cases c<;>first|rfl|cases this
  rw [h1]at h⊢
  cases h with
  |tup cs vs hl h=>exact .tup cs vs hl fun i c v k1 k2=>(h i c v k1 k2).o6 (List.all_eq_true.1 hf c (List.mem_of_getElem? k1))
 |d p=>exact R.o6 (r:= .d p) hf h
 |err b=>exact R.o6 (r:= .err b) hf h
 |_=>cases hf
theorem Sim.frame0(h:Sim P X S loc s tm w){w':World}{bl:List Nat}(hb:bl=[])(hs:Frame X.base.mono bl w w'):Sim P X S loc s tm w':=by
 subst hb
 refine⟨h.nt,h.jh,?_,h.dom,?_,h.lg,h.ll,h.inj,h.own,h.frame.trans hs (fun b hb=>by cases hb),h.s0,h.par,h.nz,h.bs,fun x hx=>⟨by rw [<-(h.ob x hx).1];exact hs.block _ (Array.getElem?_eq_some_iff.1 (h.ob x hx).1).1 sm,(h.ob x hx).2⟩⟩
 ·intro i bx hb
  obtain⟨L,h1,h2⟩:=h.boxes i bx hb
  exact⟨L,h1,h2.iX (Sub.refl S) (jm.refl loc) (fun b hb=>hs.block b (h2.k5 hb) sm)⟩
 ·intro ad v hv
  have hc:=h.imm ad v hv
  rw [<-hc]
  exact kj (hs.block ad.block (World.block_lt_of_cell? w ad hc) sm)
theorem k8{by_:FuncId->Nat->Bool}{call:jd}(hcall:kA P X.base call){o:Oper}{a:Act}(h:Sim P X S loc s a.tmps w)(hd:a.defers=[])(hdst:∀d,o.dst=some d->d<X.nt){f:FuncId}{base:Nat}{args:List RV}{v:RV}{u:Ups}{r:List Nat}
  (hl:kR by_ call f base args s.boxes=some ((v,u),r,true)) {vs:Array Value} (hlen:args.length=vs.size) (hargs:∀(i:Nat)x y,args[i]? =some x->vs[i]? =some y->R S loc x y)
  (hrun:(execOp a.eval o).run P w=(callFunc f vs).run P w):l3 P X ((s.ups u).put o.dst v) o a w:=by
 obtain⟨⟨as,u0⟩,r1,r2,h1,h2,_⟩:=M.bind_some hl
 obtain⟨ids,r3,r4,h3,h4,_⟩:=M.bind_some h2
 obtain⟨bxs,r5,r6,h5,h6,_⟩:=M.bind_some h4
 rcases hc:call f (as.map (kz (mJ ids bxs))) (bxs.map (kL (mJ ids bxs) fun _=>0))with _|⟨res,bs'⟩
 ·simp only [hc]at h6;exact fE s.boxes h6
 simp only [hc]at h6
 split at h6
 rotate_left
 ·exact fE s.boxes h6
 rename_i hcond
 obtain⟨hc1,hc2,hc3⟩:=hcond
 obtain⟨_,r7,r8,h7,h8,_⟩:=M.bind_some h6
 obtain⟨h9, -, -⟩:=M.cI h8
 cases h9
 have hn:=nR hc2
 obtain⟨a1,a2,a3,a4⟩:=pF h1
 obtain⟨g1,g2⟩:=nM h5
 obtain⟨S1,loc1,hS1,hsub,hle,hfz⟩:=h.mi u0 a1 (fun x hx=>.inl (a2 x hx))
 have hkeep:∀id∈ids,(s.ups u0).boxes id=s.boxes id:=fun id hid=>j0 _ _ _ (nj hc3 id hid)
 have hg:∀(j:Nat)id,ids[j]? =some id->∃bx,(s.ups u0).boxes id=some bx∧bxs[j]? =some bx:=fun j id hj=>by
  obtain⟨bx,k1,k2⟩:=g2 j id hj
  exact⟨bx,by rw [hkeep id (List.mem_of_getElem? hj)];exact k1,k2⟩
 obtain ⟨ls, q1, q2, q3, q4⟩ := sD hS1 (f := fun _ _ => 0) (b := fun i => (idxOf ids i).bind (look bxs)) (ρ := (mJ ids bxs)) (bs2 := bxs.map (kL (mJ ids bxs) fun _ => 0)) hn g1 hg (fun id bx hb => by
   rw [Option.bind_eq_some_iff]at hb
   obtain⟨k,m1,m2⟩:=hb
   obtain⟨bx',m3,m4⟩:=hg k id (ml m1)
   rw [jv,m4]at m2
   cases m2
   exact m3) rfl (by simp [g1]) (fun k id bx hk hbx=>by rw [List.getElem?_map,hbx];rfl)
 have hok := hcall f _ _ res bs' hc S1 w ls vs q4 (by rw [q1, List.length_map, g1]) hS1.bs hS1.ob (by rw [List.length_map, a3]; exact hlen) (fun i x y hx hy => by
  rw [List.getElem?_map,Option.map_eq_some_iff]at hx
  obtain⟨x0,hx0,rfl⟩:=hx
  have hi:i<args.length:=by rw [<-a3];exact(List.getElem?_eq_some_iff.1 hx0).1
  exact R.kz q3 (a4 S loc S1 loc1 hsub hle hfz i args[i] x0 y (zc hi) hx0 (hargs i _ y (zc hi) hy)))
 intro K Q hK
 unfold Oper.wp
 rw [hrun]
 suffices tail:∀rv w',(∃S' ls',oT P X.base.mono S1 w ls (bxs.map (kL (mJ ids bxs) fun _=>0)).length res bs' rv w' S' ls')->K (a.put o.dst rv) w' by
  rcases hok with⟨⟨fn,hfn,hname,hbody⟩,hcalls⟩|⟨rv,w',hr,hR⟩
  ·have hrun':(callFunc f vs).run P w= .ok (.enter f vs) w:=by
    have : (fn.name == "runtime.NumGoroutine") = false := by simpa using hname
    simp only [callFunc,Sem.run_bind,run_program,Result.andThen_ok,hfn,this,hbody,Bool.false_eq_true,if_false,Sem.run_pure]
   rw [hrun',Oper.upon_enter]
   refine hcalls.mono fun e w' he=>?_
   obtain⟨rv,rfl,he⟩:=he
   exact tail rv w' he
  ·rw [hr,Oper.upon_value]
   exact tail rv w' hR
 intro rv w' he
 obtain⟨S',ls',ha⟩:=he
 rw [List.length_map,g1]at ha
 have hvac:=nH h7
 obtain ⟨loc2, k1, k2, _⟩ := hS1.uj (off := offOf bxs) hn q1 q2 (fun j id ver e sz hdr L hj hL hr => by
   obtain⟨bx,m1,m2⟩:=hg j id hj
   have:=hS1.kV m1 hL
   simp only [offOf,jv,m2]
   cases this with
   |arr=>cases hr;rfl
   |dead _ hd=>subst hd;cases hr
   |var=>cases hr
   |map=>cases hr)
  (fun i hi => by
   have hv:=hvac i hi
   rw [j0 _ _ _ fun hm=>?_]
   ·exact hv
   ·obtain⟨y,hy,hyi⟩:=List.mem_map.1 hm
    obtain⟨ver,e,es,hy2⟩:=a2 y hy
    rw [hyi,hv]at hy2
    cases hy2)
  (by
   unfold lA
   rw [List.nodup_iff_pairwise_ne,List.pairwise_map]
   exact List.pairwise_lt_range.imp fun{a b}hab=>om)
  (by simp [lA];omega) rfl ha
 by_cases hth:(ids.isEmpty&&(bs'.isEmpty&&flatV res))=true
 ·refine hK _ _ ⟨by cases o.dst<;>exact hd,S,loc,?_⟩
  rw [rV,if_pos hth]
  simp only [Bool.and_eq_true,List.isEmpty_iff]at hth
  obtain⟨e1,e2,e3⟩:=hth
  subst e1
  have hls:ls=[]:=List.eq_nil_of_length_eq_zero q1
  subst hls
  exact(h.frame0 rfl ha.frame).put (a:=a) (k2.flatR e3) o.dst hdst
 refine hK _ _ ⟨by cases o.dst<;>exact hd,S',loc2,?_⟩
 rw [rV,if_neg hth,lF]
 exact k1.put (a:=a) k2 o.dst hdst
end
end Go.Dw
