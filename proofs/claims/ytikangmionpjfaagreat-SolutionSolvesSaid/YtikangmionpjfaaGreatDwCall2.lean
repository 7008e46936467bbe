
import Derived.Test.YtikangmionpjfaaGreatDwRen
open List renaming getElem?_cons_succ->CO, getElem?_cons_zero->CP, getElem?_map->Cm, getElem?_of_mem->Cn, length_map->DT, mem_of_getElem?->CW, nodup_cons->DU, of_mem_zip->DV
open Bool renaming and_eq_true->C4, false_eq_true->Cb
open Option.some renaming inj->DS, injEq->B7
open Nat renaming add_zero->C0, le_trans->CJ

namespace Go.Dw
def Loc.blocks:Loc->List Nat
 | .nest _ _ _ hdr bs=>(pB hdr).toList++bs
 |L=>L.block.toList
theorem yu{L:Loc}{b:Nat}:b∈L.blocks↔L.has b:=by
 cases L<;>simp [Loc.blocks,Loc.has,Loc.block,eq_comm]
def xF(ls:List Loc):List Nat:=ls.flatMap Loc.blocks
theorem p9{α:Type}:∀(l:List α)(i:Nat),look l i=l[i]?
 | [],_=>rfl
 |a::r,0=>rfl
 |a::r,n+1=>by rw [look,p9 r n];rfl
theorem tw{ls:List Loc}{b:Nat}:b∈xF ls↔∃k L,look ls k=some L∧L.has b:=by
 unfold xF
 rw [List.mem_flatMap]
 constructor
 ·rintro⟨L,c,a⟩
  obtain⟨k,hk⟩:=Cn c
  exact⟨k,L,by rw [p9];exact hk,yu.1 a⟩
 ·rintro⟨k,L,hk,a⟩
  rw [p9]at hk
  exact⟨L,CW hk,yu.2 a⟩
def Enters (P : Program) (f : FuncId) : Prop := ∃ fn, P.funcs[f]? = some fn ∧ fn.name ≠ "runtime.NumGoroutine" ∧ fn.body.isNone = false
def zl(P:Program)(f:FuncId)(vs:Array Value)(w:World)(R:Value->World->Prop):Prop:=
 (Enters P f∧Calls P f vs w fun e w'=>∃v,e= .returned v∧R v w')∨(∃v w',(callFunc f vs).run P w= .ok (.value v) w'∧R v w')
structure uZ(P:Program)(E:Prop)(S:pr)(w:World)(ls:List Loc)(n:Nat)(r:RV)(bs':List Box)(v:Value)(w':World)(S':pr)(ls':List Loc):Prop where
 len:ls'.length=bs'.length
 more:n<=bs'.length
 sub:Sub S S'
 mem:Mem P S' (look ls') (look bs') w'
 uY:∀ad v,S' ad=some v->S ad=some v∨w.heap.size<=ad.block∨ad.block∈xF ls
 le:pD (look ls) (look ls')
 own:∀k L b,look ls' k=some L->L.has b->b∈xF ls∨w.heap.size<=b
 frame:Frame E (xF ls) w w'
 res:R S' (look ls') r v
def qI(P:Program)(base:tR)(f:FuncId)(args:List RV)(bs:List Box)(r:RV)(c:List Box):Prop:=
 ∀(S:pr)(w:World)(ls:List Loc)(vs:Array Value),Mem P S (look ls) (look bs) w->ls.length=bs.length->Sub base.snap S->(∀x∈base.objs,w.heap[x.1]? =some x.2∧∃o v,base.snap ⟨x.1,o,none⟩=some v)->
  args.length=vs.size->(∀(i:Nat)a v,args[i]? =some a->vs[i]? =some v->R S (look ls) a v)->
  zl P f vs w fun v w'=>∃S' g,uZ P base.mono S w ls bs.length r c v w' S' g
def rN(P:Program)(base:tR)(call:pA):Prop:=∀f args bs r a,call f args bs=some (r,a)->qI P base f args bs r a
section
variable {P:Program}{X:Ctx}{S:pr}{loc:pY}{s:St}{tm:Array Value}{w:World}
theorem BF{by_:Bool}{c x:RV}{b:pP}{u:Ups}{r:List Nat}(h:argD by_ c b=some ((x,u),r,true)):
  sZ u∧(∀y∈u,∃ver e es,b y.1=some (.arr ver e es))∧
  ∀S loc S' loc' v,Sub S S'->pD loc loc'->(∀y∈u,Frz b S loc S' y.1)->R S loc c v->R S' loc' x v:=by
 have same:∀{r:List Nat},M.pure (c,([]:Ups)) b=some ((x,u),r,true)->sZ u∧(∀y∈u,∃ver e es,b y.1=some (.arr ver e es))∧
   ∀S loc S' loc' v,Sub S S'->pD loc loc'->(∀y∈u,Frz b S loc S' y.1)->R S loc c v->R S' loc' x v:=by
  intro r h
  obtain⟨h1, -, -⟩:=M.pj h
  cases h1
  exact⟨(fun y q=>by cases q),(fun y q=>by cases q),fun S loc S' loc' v hs t _ l=>l.mono hs t⟩
 have data:∀{r:List Nat}{p:PD}{u1:Ups},rQ c b=some ((p,u1),r,true)->x= .d p->u=u1->sZ u∧(∀y∈u,∃ver e es,b y.1=some (.arr ver e es))∧
   ∀S loc S' loc' v,Sub S S'->pD loc loc'->(∀y∈u,Frz b S loc S' y.1)->R S loc c v->R S' loc' x v:=by
  rintro r p u1 h rfl rfl
  obtain⟨a1,a2,a3⟩:=ur h
  exact⟨a1,a2,fun S loc S' loc' v hs _ hf l=>.d (a3 S loc S' v l hs hf)⟩
 have py:(M.bind (rQ c) fun(p,u)=>M.py c.sized ((RV.d p,u):RV×Ups)) b=some ((x,u),r,true)->sZ u∧(∀y∈u,∃ver e es,b y.1=some (.arr ver e es))∧
   ∀S loc S' loc' v,Sub S S'->pD loc loc'->(∀y∈u,Frz b S loc S' y.1)->R S loc c v->R S' loc' x v:=by
  intro h
  obtain⟨⟨p,u1⟩,z,B,h1,j,_⟩:=M.bind_some h
  obtain⟨k, -, -⟩:=M.pq j
  cases k
  exact data h1 rfl rfl
 have a:(if by_ then M.pure (c,([]:Ups))else M.bind (rQ c) fun(p,u)=>M.pure ((RV.d p,u):RV×Ups)) b=some ((x,u),r,true)->sZ u∧(∀y∈u,∃ver e es,b y.1=some (.arr ver e es))∧
   ∀S loc S' loc' v,Sub S S'->pD loc loc'->(∀y∈u,Frz b S loc S' y.1)->R S loc c v->R S' loc' x v:=by
  intro h
  cases by_ with
  |true=>exact same h
  |false=>
   simp only [Cb,if_false]at h
   obtain⟨⟨p,u1⟩,z,B,h1,j,_⟩:=M.bind_some h
   obtain⟨k, -, -⟩:=M.pj j
   cases k
   exact data h1 rfl rfl
 cases c with
 |ptr _ _=>exact same h
 |elt _ _ _ _=>exact same h
 |clo _ _=>exact same h
 |fview _ _ _=>exact py h
 |err _=>exact py h
 |dfull _=>exact py h
 |ifc _ _=>exact same h
 |plit _=>exact py h
 |pcp _=>exact py h
 |ref _ _=>exact a h
 |view _ _ _ _=>exact a h
 |d _=>exact py h
 |undef=>exact py h
 |junk=>exact py h
 |px=>
  by_cases g:by_=true
  ·subst g;exact same h
  ·have f:by_=false:=by cases by_<;>simp_all
   subst f
   exact py h
 |agg _=>
  by_cases g:by_=true
  ·subst g;exact same h
  ·have f:by_=false:=by cases by_<;>simp_all
   subst f
   exact py h
 |tup _=>exact py h
 |cptr _=>exact py h
theorem xR{by_:Nat->Bool}:∀{args:List RV}{i:Nat}{b:pP}{as:List RV}{u:Ups}{r:List Nat},uc by_ i args b=some ((as,u),r,true)->
  sZ u∧(∀x∈u,∃ver e es,b x.1=some (.arr ver e es))∧as.length=args.length∧
  ∀S loc S' loc',Sub S S'->pD loc loc'->(∀x∈u,Frz b S loc S' x.1)->
   ∀(i:Nat)x a v,args[i]? =some x->as[i]? =some a->R S loc x v->R S' loc' a v
 | [],i,b,as,u,r,h=>by
  obtain⟨h1, -, -⟩:=M.pj (b:=b) h
  cases h1
  exact⟨(fun x f=>by cases f),(fun x f=>by cases f),rfl,fun S loc S' loc' _ _ _ i x a v f=>by simp at f⟩
 |c::cs,i,b,as,u,r,h=>by
  obtain⟨⟨x,u1⟩,G,H,h1,C,_⟩:=M.bind_some h
  obtain⟨⟨l,u2⟩,I,J,D,E,_⟩:=M.bind_some C
  obtain⟨F, -, -⟩:=M.pj E
  cases F
  obtain⟨a1,a2,a3⟩:=BF h1
  obtain⟨b1,b2,z,B⟩:=xR D
  refine⟨fun x f=>(List.mem_append.1 f).elim (a1 x) (b1 x),fun x f=>(List.mem_append.1 f).elim (a2 x) (b2 x),by simp [z],?_⟩
  intro S loc S' loc' hs p t j y a v k g q
  cases j with
  |zero=>
   simp only [CP,B7]at k g
   subst k;subst g
   exact a3 S loc S' loc' v hs p (fun x f=>t x (List.mem_append.2 (.inl f))) q
  |succ j=>
   simp only [CO]at k g
   exact B S loc S' loc' hs p (fun x f=>t x (List.mem_append.2 (.inr f))) j y a v k g q
theorem wc:∀{ids:List Nat}{b:pP}{l:List Box}{r:List Nat},ui ids b=some (l,r,true)->
  l.length=ids.length∧∀(j:Nat)id,ids[j]? =some id->∃c,b id=some c∧l[j]? =some c
 | [],b,l,r,h=>by
  obtain⟨h1, -, -⟩:=M.pj (b:=b) h
  subst h1
  exact⟨rfl,fun j id a=>by simp at a⟩
 |i::ids,b,l,r,h=>by
  obtain⟨c,u,x,h1,f,_⟩:=M.bind_some h
  obtain⟨q,_,_⟩:=M.get_some h1
  obtain⟨t,y,z,g,k,_⟩:=M.bind_some f
  obtain⟨p, -, -⟩:=M.pj k
  subst p
  obtain⟨g1,g2⟩:=wc g
  refine⟨by simp [g1],fun j id a=>?_⟩
  cases j with
  |zero=>simp only [CP,B7]at a;subst a;exact⟨c,q,rfl⟩
  |succ j=>simp only [CO]at a⊢;exact g2 j id a
theorem v7:∀{ids:List Nat}{b:pP}{x:Unit}{r:List Nat},rj ids b=some (x,r,true)->∀i∈ids,b i=none
 | [],b,x,r,_=>fun i hi=>by cases hi
 |i::ids,b,x,r,h=>by
  obtain⟨_,g,k,h1,c,_⟩:=M.bind_some h
  obtain⟨f,_,_⟩:=M.qj h1
  intro j a
  rcases List.mem_cons.1 a with rfl|a
  ·exact f
  ·exact v7 c j a
theorem wk:∀{l:List Nat},nodup l=true->l.Nodup
 | [],_=>List.nodup_nil
 |a::r,h=>by
  simp only [nodup,C4,Bool.not_eq_true']at h
  refine List.nodup_cons.2 ⟨?_,wk h.2⟩
  intro hm
  have:=h.1
  simp [hm]at this
theorem vJ{a b:List Nat}(h:ye a b=true):∀x∈a,x∉b:=fun x f c=>by
 have:=List.all_eq_true.1 h x f
 simp [c]at this
theorem uE:∀{l:List Nat}{id k:Nat},idxOf l id=some k->l[k]? =some id
 | [],id,k,h=>by simp [idxOf]at h
 |a::r,id,k,h=>by
  simp only [idxOf]at h
  split at h
  ·rename_i f;cases h;subst f;rfl
  ·cases c:idxOf r id with
   |none=>simp [c]at h
   |some j=>simp only [c,Option.map_some,B7]at h;subst h;simpa using uE c
theorem vL:∀{l:List Nat}{id k:Nat},l.Nodup->l[k]? =some id->idxOf l id=some k
 | [],id,k,_,h=>by simp at h
 |a::r,id,k,c,h=>by
  rw [DU]at c
  cases k with
  |zero=>simp only [CP,B7]at h;subst h;simp [idxOf]
  |succ k=>
   simp only [CO]at h
   have f:id≠a:=fun e=>c.1 (by subst e;exact CW h)
   simp [idxOf,f,vL c.2 h]
theorem BD:∀(ids:List Nat)(bs:List Box)(s:St),ids.Nodup->bs.length=ids.length->∀(j:Nat)id a,ids[j]? =some id->bs[j]? =some a->(s.ups (ids.zip bs)).boxes id=some a
 | [],bs,s,_,_,j,id,a,c,_=>by simp at c
 |i::ids,[],s,_,g,j,id,a,_,_=>by simp at g
 |i::ids,b::bs,s,k,g,j,id,a,c,f=>by
  rw [DU]at k
  simp only [List.length_cons]at g
  rw [List.zip_cons_cons,rf]
  cases j with
  |zero=>
   simp only [CP,B7]at c f
   subst c;subst f
   rw [qY _ _ _ (fun hm => k.1 (by
    obtain⟨x,p,l⟩:=List.mem_map.1 hm
    rw [<-l]
    exact(DV p).1))]
   exact pz _ _ _
  |succ j=>
   simp only [CO]at c f
   exact BD ids bs _ k.2 za j id a c f
theorem Bp(ids:List Nat)(bs:List Box)(s:St)(id:Nat)(h:id∉ids):(s.ups (ids.zip bs)).boxes id=s.boxes id:=by
 refine qY _ _ _ fun hm=>h ?_
 obtain⟨x,c,a⟩:=List.mem_map.1 hm
 rw [<-a]
 exact(DV c).1
theorem Frame.trans{E:Prop}{B0 c:List Nat}{w0 w w':World}(h:Frame E B0 w0 w)(a:Frame E c w w')(j:∀b∈c,b∈B0∨w0.heap.size<=b):Frame E B0 w0 w':=
 ⟨a.os.trans h.os, a.tape.trans h.tape, a.output.trans h.output, CJ h.size a.size, fun b f g => by
  rw [a.block b (Nat.lt_of_lt_of_le f h.size) ?_]
  ·exact h.block b f g
  ·intro hm
   rcases j b hm with h1|h1
   ·exact g h1
   ·omega,fun he=>CJ (h.drawn he) (a.drawn he)⟩
end
end Go.Dw
namespace Go.Dw
section
variable {P:Program}{X:Ctx}{S:pr}{loc:pY}{s:St}{tm:Array Value}{w:World}
theorem AE(h:Sim P X S loc s tm w){ids:List Nat}{l bs2:List Box}{b:pP}{f:Nat->Nat->Nat}{ρ:Ren}(F:ids.Nodup)(hlen:l.length=ids.length)(B:∀(j:Nat)id,ids[j]? =some id->∃c,s.boxes id=some c∧l[j]? =some c)
  (y:∀id c,b id=some c->s.boxes id=some c) (D:ρ=⟨idxOf ids,qk b f⟩) (C:bs2.length=ids.length) (t:∀(k:Nat)id c,ids[k]? =some id->l[k]? =some c->bs2[k]? =some (rJ ρ (f id) c)):
  ∃ls:List Loc,ls.length=ids.length∧(∀(j:Nat)id,ids[j]? =some id->∃L,loc id=some L∧ls[j]? =some (pL (f id) L))∧u6 ρ loc (look ls)∧Mem P S (look ls) (look bs2) w:=by
 have r:∀(j:Nat)id,ids[j]? =some id->∃L,loc id=some L:=fun j id x=>by
  obtain⟨c,y,_⟩:=B j id x
  obtain⟨L,h1,_⟩:=h.boxes id c y
  exact⟨L,h1⟩
 let ls:List Loc:=ids.map fun id=>match loc id with|some L=>pL (f id) L|none=>.dead
 have g:∀(j:Nat)id,ids[j]? =some id->∃L,loc id=some L∧ls[j]? =some (pL (f id) L):=fun j id x=>by
  obtain⟨L,h1⟩:=r j id x
  exact⟨L,h1,by simp [ls,x,h1]⟩
 have G:u6 ρ loc (look ls):=by
  subst D
  refine u6.mk' (P:=P) (S:=S) (w:=w) (fun id c z=>h.boxes id c (y id c z)) (fun id k L hp r=>?_)
  obtain⟨E,h1,t⟩:=g k id (uE hp)
  rw [r]at h1
  cases h1
  rw [p9]
  exact t
 refine⟨ls,by simp [ls],g,G,h.mem.ren G (fun k H hk=>?_) (fun k E hk=>?_)⟩
 ·rw [p9]at hk
  have p:k<ids.length:=by rw [<-C];exact(List.getElem?_eq_some_iff.1 hk).1
  have a:=zd p
  obtain⟨c,h1,q⟩:=B k _ a
  rw [t k _ c a q]at hk
  cases hk
  refine⟨ids[k],c,_,by rw [D];exact vL F a,h1,rfl,fun L r=>?_⟩
  obtain⟨E,q,u⟩:=g k _ a
  rw [r]at q
  cases q
  rw [p9]
  exact u
 ·rw [p9]at hk
  have p:k<ids.length:=by have:=(List.getElem?_eq_some_iff.1 hk).1;simpa [ls]using this
  have a:=zd p
  obtain⟨L,q,u⟩:=g k _ a
  obtain⟨c,_,I⟩:=B k _ a
  rw [hk]at u
  cases u
  exact⟨⟨_,by rw [p9];exact t k _ c a I⟩,ids[k],L,_,by rw [D];exact vL F a,q,rfl⟩
theorem Sim.BE(h:Sim P X S loc s tm w){ids news:List Nat}{G:List Box}{ls a5:List Loc}{off:Nat->Nat}{r:RV}{v:Value}{w':World}{S':pr}{σ:Ren}(hn:ids.Nodup)
  (hlen:ls.length=ids.length) (b0:∀(j:Nat)id,ids[j]? =some id->∃L,loc id=some L∧ls[j]? =some (pL (fun _=>0) L))
  (I:∀(j:Nat)id ver e sz hdr L,ids[j]? =some id->loc id=some L->L.Row ver e sz hdr->off j=ver)
  (a8:∀i∈news,s.boxes i=none) (c4:news.Nodup) (c1:(ids++news).length=G.length)
  (hσ:σ=⟨look (ids++news),qk (look G) fun k cur=>off k+cur⟩) (E:uZ P X.base.mono S w ls ids.length r G v w' S' a5):
  ∃f,Sim P X S' f (s.ups ((ids++news).zip (G.zipIdx.map fun x=>rJ σ (fun cur=>off x.2+cur) x.1))) tm w'∧R S' f (qC σ r) v∧pD loc f:=by
 have hold:∀id∈ids,∃L,loc id=some L:=fun id c=>by
  obtain⟨j,hj⟩:=Cn c
  obtain⟨L,h1,_⟩:=b0 j id hj
  exact⟨L,h1⟩
 have a7:(ids++news).Nodup:=by
  rw [List.nodup_append]
  refine⟨hn,c4,fun a E b q c2=>?_⟩
  subst c2
  obtain⟨L,h1⟩:=hold a E
  obtain⟨bx,p⟩:=h.dom a L h1
  rw [a8 a q]at p
  cases p
 let f:pY:=fun id=>match idxOf (ids++news) id with|some k=>(look a5 k).map (pL (off k+ ·))|none=>loc id
 have a6:∀k id,(ids++news)[k]? =some id->f id=(look a5 k).map (pL (off k+ ·)):=fun k id hk=>by
  simp only [f,vL a7 hk]
 have y:∀id,id∉ids++news->f id=loc id:=fun id c=>by
  simp only [f]
  cases hi:idxOf (ids++news) id with
  |none=>rfl
  |some k=>exact(c (CW (uE hi))).elim
 have hr:u6 σ (look a5) f:=by
  subst hσ
  refine u6.mk' (P:=P) (S:=S') (w:=w') E.mem.boxes (fun k id L hp g=>?_)
  rw [p9]at hp
  rw [a6 k id hp,g]
  rfl
 have hblk:∀b∈xF ls,∃id∈ids,∃L,loc id=some L∧L.has b:=fun b q=>by
  obtain⟨k,L,h1,p⟩:=tw.1 q
  rw [p9]at h1
  have hk:k<ids.length:=by rw [<-hlen];exact(List.getElem?_eq_some_iff.1 h1).1
  obtain⟨D,H,l⟩:=b0 k _ (zd hk)
  rw [h1]at l
  cases l
  rw [sl]at p
  exact⟨_,List.getElem_mem hk,D,H,p⟩
 have J:∀b∈xF ls,b∈X.B0∨X.w0.heap.size<=b:=fun b q=>by
  obtain⟨id,_,L,h1,p⟩:=hblk b q
  exact h.own id L b h1 p
 have hle:pD loc f:=fun id L g=>by
  by_cases c:id∈ids++news
  rotate_left
  ·exact⟨L,by rw [y id c];exact g,.same _⟩
  obtain⟨k,hk⟩:=Cn c
  have c3:k<ids.length:=by
   by_cases Q:k<ids.length
   ·exact Q
   ·rw [List.getElem?_append_right za]at hk
    obtain⟨bx,W⟩:=h.dom id L g
    rw [a8 id (CW hk)]at W
    cases W
  have O:ids[k]? =some id:=by rwa [List.getElem?_append_left c3]at hk
  obtain⟨L0,h1,p⟩:=b0 k id O
  rw [g]at h1
  cases h1
  obtain⟨D,H,l⟩:=E.le k _ (by rw [p9];exact p)
  refine⟨pL (off k+ ·) D,by rw [a6 k id hk,H];rfl,?_⟩
  generalize Y:pL (fun _=>0) L=L1 at l
  cases l with
  |same=>
   subst Y
   cases L with
   |arr ver e sz hdr=>
    have:=I k id ver e sz hdr _ O g .arr
    simp only [pL,C0,this]
    exact .same _
   |nest ver e sz hdr bs=>
    have:=I k id ver e sz hdr _ O g .nest
    simp only [pL,C0,this]
    exact .same _
   |var b=>exact .same _
   |dead=>exact .same _
   |map b=>exact .same _
  |dead=>exact .dead _
  |arr Q=>
   cases L<;>simp only [pL,Loc.arr.injEq,reduceCtorEq]at Y
   rename_i ver e sz hdr
   have:=I k id ver e sz hdr _ O g .arr
   obtain⟨Y, -⟩:=Y
   exact .arr (show ver<off k+_ by omega)
  |nest Q=>
   cases L<;>simp only [pL,Loc.nest.injEq,reduceCtorEq]at Y
   rename_i ver e sz hdr bs
   have:=I k id ver e sz hdr _ O g .nest
   obtain⟨Y, -⟩:=Y
   exact .nest (show ver<off k+_ by omega)
  |held=>
   cases L<;>simp only [pL,Loc.nest.injEq,reduceCtorEq]at Y
   rename_i ver e sz hdr bs
   have:=I k id ver e sz hdr _ O g .nest
   obtain⟨rfl,rfl,rfl,rfl,rfl⟩:=Y
   simp only [pL,C0,this]
   exact .held
 have W:∀k id,(ids++news)[k]? =some id->∃bx,G[k]? =some bx∧(s.ups ((ids++news).zip (G.zipIdx.map fun x=>rJ σ (fun cur=>off x.2+cur) x.1))).boxes id=some (rJ σ (fun cur=>off k+cur) bx):=fun k id hk=>by
  have Q:k<G.length:=by rw [<-c1];exact(List.getElem?_eq_some_iff.1 hk).1
  refine⟨G[k],zd Q,?_⟩
  refine BD _ _ s a7 (by simp [c1]) k id _ hk ?_
  simp [Q]
 have c0:∀id,id∉ids++news->(s.ups ((ids++news).zip (G.zipIdx.map fun x=>rJ σ (fun cur=>off x.2+cur) x.1))).boxes id=s.boxes id:=fun id c=>Bp _ _ s id c
 have z:∀id L b,id∉ids++news->loc id=some L->L.has b->b<w.heap.size∧b∉xF ls:=fun id L b c g q=>by
  refine⟨h.mem.lt g q,fun hm=>?_⟩
  obtain⟨C,h1,D,p,H⟩:=hblk b hm
  have:=h.inj id C L D b g p q H
  subst this
  exact c (List.mem_append.2 (.inl h1))
 have B:∀id L b,id∈ids++news->f id=some L->L.has b->∃k D,look a5 k=some D∧D.has b∧(ids++news)[k]? =some id∧(b∈xF ls∨w.heap.size<=b):=fun id L b c g q=>by
  obtain⟨k,hk⟩:=Cn c
  rw [a6 k id hk,Option.map_eq_some_iff]at g
  obtain⟨D,h1,rfl⟩:=g
  rw [sl]at q
  exact⟨k,D,h1,q,hk,E.own k D b h1 q⟩
 refine⟨f,⟨h.nt,?_,?_,?_,E.mem.imm,E.mem.ti,?_,?_,?_,h.frame.trans E.frame J,h.s0.trans E.sub,?_,?_,h.bs.trans E.sub,fun x Y=>?_⟩,R.qC hr E.res,hle⟩
 rotate_right
 ·obtain⟨h1,o,v,p⟩:=h.ob x Y
  refine⟨?_,o,v,p⟩
  rw [<-h1]
  refine E.frame.block _ (Array.getElem?_eq_some_iff.1 h1).1 fun hm=>?_
  obtain⟨id,_,L,H,l⟩:=hblk _ hm
  have T:=h.rK id L x.1 H l o
  rw [h.bs _ _ p]at T
  cases T
 ·intro t rv ht
  rw [rC]at ht
  obtain⟨u,h1,p⟩:=h.pI t rv ht
  exact⟨u,h1,p.mono E.sub hle⟩
 ·intro id bx q
  by_cases c:id∈ids++news
  ·obtain⟨k,hk⟩:=Cn c
   obtain⟨b4,h1,p⟩:=W k id hk
   rw [p]at q
   cases q
   obtain⟨L,H,l⟩:=E.mem.boxes k b4 (by rw [p9];exact h1)
   exact⟨pL (off k+ ·) L,by rw [a6 k id hk,H];rfl,ta.ren hr _ l⟩
  ·rw [c0 id c]at q
   obtain⟨L,h1,p⟩:=h.boxes id bx q
   refine⟨L,by rw [y id c];exact h1,p.cI E.sub hle fun b N=>?_⟩
   obtain⟨H,l⟩:=z id L b c h1 N
   exact E.frame.block b H l
 ·intro id L g
  by_cases c:id∈ids++news
  ·obtain⟨k,hk⟩:=Cn c
   obtain⟨b4,_,p⟩:=W k id hk
   exact⟨_,p⟩
  ·rw [y id c]at g
   rw [c0 id c]
   exact h.dom id L g
 ·intro id L b g q o
  by_cases c:id∈ids++news
  ·obtain⟨k,D,h1,p,_⟩:=B id L b c g q
   exact E.mem.rK k D b h1 p o
  ·rw [y id c]at g
   obtain⟨H,l⟩:=z id L b c g q
   cases hS:S' ⟨b,o,none⟩with
   |none=>rfl
   |some u=>
    rcases E.uY _ u hS with T|T|T
    ·rw [h.rK id L b g q o]at T;cases T
    ·simp only at T;omega
    ·exact(l T).elim
 ·intro id C L D b g K q N
  by_cases c:id∈ids++news
  ·obtain⟨k,L1,h1,p,H,l⟩:=B id L b c g q
   by_cases F:C∈ids++news
   ·obtain⟨k',b3,b5,b6,a9,_⟩:=B C D b F K N
    have:=E.mem.inj k k' L1 b3 b h1 b5 p b6
    subst this
    rw [H]at a9
    exact DS a9
   ·rw [y C F]at K
    obtain⟨T,h6⟩:=z C D b F K N
    rcases l with l|l
    ·exact(h6 l).elim
    ·omega
  ·rw [y id c]at g
   obtain⟨T,h6⟩:=z id L b c g q
   by_cases F:C∈ids++news
   ·obtain⟨k',b3,b5,b6,a9,l⟩:=B C D b F K N
    rcases l with l|l
    ·exact(h6 l).elim
    ·omega
   ·rw [y C F]at K
    exact h.inj id C L D b g K q N
 ·intro id L b g q
  by_cases c:id∈ids++news
  ·obtain⟨k,L1,h1,p,H,l⟩:=B id L b c g q
   rcases l with l|l
   ·exact J b l
   ·exact .inr (CJ h.frame.size l)
  ·rw [y id c]at g
   exact h.own id L b g q
 ·intro k L0 hk
  obtain⟨L,h1,p⟩:=h.par k L0 hk
  obtain⟨D,H,l⟩:=hle k L h1
  exact⟨D,H,pN.trans p l⟩
 ·intro ad u hu
  rcases E.uY ad u hu with h1|h1|h1
  ·exact h.uY ad u h1
  ·exact .inr (.inl (CJ h.frame.size h1))
  ·exact .inr ((J _ h1).symm)
theorem R.xx{S':pr}{loc':pY}{r:RV}{v:Value}(hf:xx r=true)(h:R S loc r v):R S' loc' r v:=by
 have hp:∀{p:PD}{v:Value},flatP p=true->V S p v->V S' p v:=by
  intro p v hf h
  cases h with
  |bool=>exact .bool _
  |int=>exact .int _ _
  |str=>exact .str _
  |_=>cases hf
 cases r with
 |d p=>
  cases h with
  |d h=>
  cases h with
  |bool=>exact .d (.bool _)
  |int=>exact .d (.int _ _)
  |str=>exact .d (.str _)
  |agg cs vs c h=>
   simp only [Dw.xx,List.all_eq_true]at hf
   exact .d (.agg cs vs c fun i p v h1 a=>hp (hf p (CW h1)) (h i p v h1 a))
  |_=>cases hf
 |err b=>
  cases h with
  |err=>exact .err _ _
  |noerr=>exact .noerr
 |_=>cases hf
theorem R.flatR{S':pr}{loc':pY}{σ:Ren}{r:RV}{v:Value}(hf:flatV r=true)(h:R S loc (Dw.qC σ r) v):R S' loc' (Dw.qC σ r) v:=by
 cases r with
 |tup cs=>
  have h1:Dw.qC σ (.tup cs)= .tup cs:=by
   simp only [Dw.qC,RV.tup.injEq]
   refine(List.map_congr_left fun c hc=>?_).trans (List.map_id _)
   have:=List.all_eq_true.1 hf c hc
   cases c<;>first|rfl|cases this
  rw [h1]at h⊢
  cases h with
  |tup cs vs f h=>exact .tup cs vs f fun i c v a g=>(h i c v a g).xx (List.all_eq_true.1 hf c (CW a))
 |d p=>exact R.xx (r:= .d p) hf h
 |err b=>exact R.xx (r:= .err b) hf h
 |_=>cases hf
theorem Sim.frame0(h:Sim P X S loc s tm w){w':World}{f:List Nat}(a:f=[])(hs:Frame X.base.mono f w w'):Sim P X S loc s tm w':=by
 subst a
 refine⟨h.nt,h.pI,?_,h.dom,?_,h.ti,h.rK,h.inj,h.own,h.frame.trans hs (fun b a=>by cases a),h.s0,h.par,h.uY,h.bs,fun x c=>⟨by rw [<-(h.ob x c).1];exact hs.block _ (Array.getElem?_eq_some_iff.1 (h.ob x c).1).1 sm,(h.ob x c).2⟩⟩
 ·intro i j a
  obtain⟨L,h1,g⟩:=h.boxes i j a
  exact⟨L,h1,g.cI (Sub.refl S) (pD.refl loc) (fun b a=>hs.block b (g.rq a) sm)⟩
 ·intro ad v k
  have hc:=h.imm ad v k
  rw [<-hc]
  exact rr (hs.block ad.block (World.block_lt_of_cell? w ad hc) sm)
theorem su{by_:FuncId->Nat->Bool}{call:pA}(E:rN P X.base call){o:Oper}{a:Act}(h:Sim P X S loc s a.tmps w)(hd:a.defers=[])(q:∀d,o.dst=some d->d<X.nt){f:FuncId}{base:Nat}{args:List RV}{v:RV}{u:Ups}{r:List Nat}
  (hl:rn by_ call f base args s.boxes=some ((v,u),r,true)) {vs:Array Value} (hlen:args.length=vs.size) (C:∀(i:Nat)x y,args[i]? =some x->vs[i]? =some y->R S loc x y)
  (N:(execOp a.eval o).run P w=(callFunc f vs).run P w):tZ P X ((s.ups u).put o.dst v) o a w:=by
 obtain⟨⟨as,u0⟩,r1,r2,h1,h2,_⟩:=M.bind_some hl
 obtain⟨ids,r3,r4,h3,h4,_⟩:=M.bind_some h2
 obtain⟨c,r5,r6,h5,J,_⟩:=M.bind_some h4
 rcases hc:call f (as.map (qC (sD ids c))) (c.map (rJ (sD ids c) fun _=>0))with _|⟨res,z⟩
 ·simp only [hc]at J;exact fE s.boxes J
 simp only [hc]at J
 split at J
 rotate_left
 ·exact fE s.boxes J
 rename_i F
 obtain⟨c4,a9,b0⟩:=F
 obtain⟨_,r7,r8,h7,h8,_⟩:=M.bind_some J
 obtain⟨h9, -, -⟩:=M.pj h8
 cases h9
 have hn:=wk a9
 obtain⟨a1,a2,a3,a4⟩:=xR h1
 obtain⟨g1,g2⟩:=wc h5
 obtain⟨S1,a5,g,O,hle,b4⟩:=h.uB u0 a1 (fun x hx=>.inl (a2 x hx))
 have G:∀id∈ids,(s.ups u0).boxes id=s.boxes id:=fun id b5=>qY _ _ _ (vJ b0 id b5)
 have hg:∀(j:Nat)id,ids[j]? =some id->∃B,(s.ups u0).boxes id=some B∧c[j]? =some B:=fun j id hj=>by
  obtain⟨B,k1,k2⟩:=g2 j id hj
  exact⟨B,by rw [G id (CW hj)];exact k1,k2⟩
 obtain ⟨ls, q1, q2, q3, q4⟩ := AE g (f := fun _ _ => 0) (b := fun i => (idxOf ids i).bind (look c)) (ρ := (sD ids c)) (bs2 := c.map (rJ (sD ids c) fun _ => 0)) hn g1 hg (fun id B hb => by
   rw [Option.bind_eq_some_iff]at hb
   obtain⟨k,m1,m2⟩:=hb
   obtain⟨c2,m3,m4⟩:=hg k id (uE m1)
   rw [p9,m4]at m2
   cases m2
   exact m3) rfl (by simp [g1]) (fun k id B hk a8=>by rw [Cm,a8];rfl)
 have c0 := E f _ _ res z hc S1 w ls vs q4 (by rw [q1, DT, g1]) g.bs g.ob (by rw [DT, a3]; exact hlen) (fun i x y hx hy => by
  rw [Cm,Option.map_eq_some_iff]at hx
  obtain⟨x0,W,rfl⟩:=hx
  have hi:i<args.length:=by rw [<-a3];exact(List.getElem?_eq_some_iff.1 W).1
  exact R.qC q3 (a4 S loc S1 a5 O hle b4 i args[i] x0 y (zd hi) W (C i _ y (zd hi) hy)))
 intro K Q hK
 unfold Oper.wp
 rw [N]
 suffices tail:∀rv w',(∃S' a7,uZ P X.base.mono S1 w ls (c.map (rJ (sD ids c) fun _=>0)).length res z rv w' S' a7)->K (a.put o.dst rv) w' by
  rcases c0 with⟨⟨fn,b3,H,D⟩,l⟩|⟨rv,w',t,hR⟩
  ·have I:(callFunc f vs).run P w= .ok (.enter f vs) w:=by
    have : (fn.name == "runtime.NumGoroutine") = false := by simpa using H
    simp only [callFunc,Sem.run_bind,run_program,Result.andThen_ok,b3,this,D,Cb,if_false,Sem.run_pure]
   rw [I,Oper.upon_enter]
   refine l.mono fun e w' he=>?_
   obtain⟨rv,rfl,he⟩:=he
   exact tail rv w' he
  ·rw [t,Oper.upon_value]
   exact tail rv w' hR
 intro rv w' he
 obtain⟨S',a7,ha⟩:=he
 rw [DT,g1]at ha
 have T:=v7 h7
 obtain ⟨a6, k1, k2, _⟩ := g.BE (off := offOf c) hn q1 q2 (fun j id ver e sz hdr L hj hL t => by
   obtain⟨B,m1,m2⟩:=hg j id hj
   have:=g.qW m1 hL
   simp only [offOf,p9,m2]
   cases this with
   |arr=>cases t;rfl
   |nest=>cases t;rfl
   |dead _ hd=>subst hd;cases t
   |var=>cases t
   |map=>cases t
   |hole=>cases t;rfl)
  (fun i hi => by
   have hv:=T i hi
   rw [qY _ _ _ fun hm=>?_]
   ·exact hv
   ·obtain⟨y,hy,c1⟩:=List.mem_map.1 hm
    obtain⟨ver,e,es,Y⟩:=a2 y hy
    rw [c1,hv]at Y
    cases Y)
  (by
   unfold q9
   rw [List.nodup_iff_pairwise_ne,List.pairwise_map]
   exact List.pairwise_lt_range.imp fun{a b}c3=>za)
  (by simp [q9];omega) rfl ha
 by_cases p:(ids.isEmpty&&(z.isEmpty&&flatV res))=true
 ·refine hK _ _ ⟨by cases o.dst<;>exact hd,S,loc,?_⟩
  rw [xY,if_pos p]
  simp only [C4,List.isEmpty_iff]at p
  obtain⟨e1,e2,e3⟩:=p
  subst e1
  have b6:ls=[]:=List.eq_nil_of_length_eq_zero q1
  subst b6
  exact(h.frame0 rfl ha.frame).put (a:=a) (k2.flatR e3) o.dst q
 refine hK _ _ ⟨by cases o.dst<;>exact hd,S',a6,?_⟩
 rw [xY,if_neg p,tG]
 exact k1.put (a:=a) k2 o.dst q
end
end Go.Dw
