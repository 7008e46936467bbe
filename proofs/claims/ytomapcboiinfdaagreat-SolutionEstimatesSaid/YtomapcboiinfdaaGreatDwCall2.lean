
import Derived.Test.YtomapcboiinfdaaGreatDwRen
open List renaming getElem?_cons_succ->AS, getElem?_cons_zero->AT, getElem?_map->Ap, getElem?_of_mem->Aq, length_map->BY, mem_of_getElem?->A0, nodup_cons->BZ, of_mem_zip->B1
open Bool renaming and_eq_true->A5, false_eq_true->Ac
open Option.some renaming inj->BX, injEq->AD
open Nat renaming add_zero->Al, le_trans->AO

namespace Go.Dw
def Loc.blocks:Loc->List Nat
 | .nest _ _ _ hdr bs=>(nT hdr).toList++bs
 |L=>L.block.toList
theorem vO{L:Loc}{b:Nat}:b∈L.blocks↔L.has b:=by
 cases L<;>simp [Loc.blocks,Loc.has,Loc.block,eq_comm]
def vn(ls:List Loc):List Nat:=ls.flatMap Loc.blocks
theorem nF{α:Type}:∀(l:List α)(i:Nat),look l i=l[i]?
 | [],_=>rfl
 |a::r,0=>rfl
 |a::r,n+1=>by rw [look,nF r n];rfl
theorem tG{ls:List Loc}{b:Nat}:b∈vn ls↔∃k L,look ls k=some L∧L.has b:=by
 unfold vn
 rw [List.mem_flatMap]
 constructor
 ·rintro⟨L,c,a⟩
  obtain⟨k,hk⟩:=Aq c
  exact⟨k,L,by rw [nF];exact hk,vO.1 a⟩
 ·rintro⟨k,L,hk,a⟩
  rw [nF]at hk
  exact⟨L,A0 hk,vO.2 a⟩
def Enters (P : Program) (f : FuncId) : Prop := ∃ fn, P.funcs[f]? = some fn ∧ fn.name ≠ "runtime.NumGoroutine" ∧ fn.body.isNone = false
def wM(P:Program)(f:FuncId)(vs:Array Value)(w:World)(R:Value->World->Prop):Prop:=
 (Enters P f∧Calls P f vs w fun e w'=>∃v,e= .returned v∧R v w')∨(∃v w',(callFunc f vs).run P w= .ok (.value v) w'∧R v w')
structure wx(P:Program)(E:Prop)(S:mW)(w:World)(ls:List Loc)(n:Nat)(r:RV)(bs':List Box)(v:Value)(w':World)(S':mW)(ls':List Loc):Prop where
 len:ls'.length=bs'.length
 more:n<=bs'.length
 sub:Sub S S'
 mem:Mem P S' (look ls') (look bs') w'
 sJ:∀ad v,S' ad=some v->S ad=some v∨w.heap.size<=ad.block∨ad.block∈vn ls
 le:mZ (look ls) (look ls')
 own:∀k L b,look ls' k=some L->L.has b->b∈vn ls∨w.heap.size<=b
 frame:Frame E (vn ls) w w'
 res:R S' (look ls') r v
def pk(P:Program)(base:tE)(f:FuncId)(args:List RV)(bs:List Box)(r:RV)(b:List Box):Prop:=
 ∀(S:mW)(w:World)(ls:List Loc)(vs:Array Value),Mem P S (look ls) (look bs) w->ls.length=bs.length->Sub base.snap S->(∀x∈base.objs,w.heap[x.1]? =some x.2∧∃o v,base.snap ⟨x.1,o,none⟩=some v)->
  args.length=vs.size->(∀(i:Nat)a v,args[i]? =some a->vs[i]? =some v->R S (look ls) a v)->
  wM P f vs w fun v w'=>∃S' c,wx P base.mono S w ls bs.length r b v w' S' c
def oO(P:Program)(base:tE)(call:ng):Prop:=∀f args bs r a,call f args bs=some (r,a)->pk P base f args bs r a
section
variable {P:Program}{X:Ctx}{S:mW}{loc:nB}{s:St}{tm:Array Value}{w:World}
theorem zh{by_:Bool}{c x:RV}{b:nn}{u:Ups}{r:List Nat}(h:argD by_ c b=some ((x,u),r,true)):
  pM u∧(∀y∈u,∃ver e es,b y.1=some (.arr ver e es))∧
  ∀S loc S' loc' v,Sub S S'->mZ loc loc'->(∀y∈u,Frz b S loc S' y.1)->R S loc c v->R S' loc' x v:=by
 have same:∀{r:List Nat},M.pure (c,([]:Ups)) b=some ((x,u),r,true)->pM u∧(∀y∈u,∃ver e es,b y.1=some (.arr ver e es))∧
   ∀S loc S' loc' v,Sub S S'->mZ loc loc'->(∀y∈u,Frz b S loc S' y.1)->R S loc c v->R S' loc' x v:=by
  intro r h
  obtain⟨h1, -, -⟩:=M.mJ h
  cases h1
  exact⟨(fun y m=>by cases m),(fun y m=>by cases m),fun S loc S' loc' v l n _ k=>k.mono l n⟩
 have data:∀{r:List Nat}{p:PD}{u1:Ups},pf c b=some ((p,u1),r,true)->x= .d p->u=u1->pM u∧(∀y∈u,∃ver e es,b y.1=some (.arr ver e es))∧
   ∀S loc S' loc' v,Sub S S'->mZ loc loc'->(∀y∈u,Frz b S loc S' y.1)->R S loc c v->R S' loc' x v:=by
  rintro r p u1 h rfl rfl
  obtain⟨a1,a2,a3⟩:=qU h
  exact⟨a1,a2,fun S loc S' loc' v l _ hf k=>.d (a3 S loc S' v k l hf)⟩
 have mS:(M.bind (pf c) fun(p,u)=>M.mS c.sized ((RV.d p,u):RV×Ups)) b=some ((x,u),r,true)->pM u∧(∀y∈u,∃ver e es,b y.1=some (.arr ver e es))∧
   ∀S loc S' loc' v,Sub S S'->mZ loc loc'->(∀y∈u,Frz b S loc S' y.1)->R S loc c v->R S' loc' x v:=by
  intro h
  obtain⟨⟨p,u1⟩,o,q,h1,i,_⟩:=M.bind_some h
  obtain⟨j, -, -⟩:=M.mP i
  cases j
  exact data h1 rfl rfl
 have a:(if by_ then M.pure (c,([]:Ups))else M.bind (pf c) fun(p,u)=>M.pure ((RV.d p,u):RV×Ups)) b=some ((x,u),r,true)->pM u∧(∀y∈u,∃ver e es,b y.1=some (.arr ver e es))∧
   ∀S loc S' loc' v,Sub S S'->mZ loc loc'->(∀y∈u,Frz b S loc S' y.1)->R S loc c v->R S' loc' x v:=by
  intro h
  cases by_ with
  |true=>exact same h
  |false=>
   simp only [Ac,if_false]at h
   obtain⟨⟨p,u1⟩,o,q,h1,i,_⟩:=M.bind_some h
   obtain⟨j, -, -⟩:=M.mJ i
   cases j
   exact data h1 rfl rfl
 cases c with
 |ptr _ _=>exact same h
 |elt _ _ _ _=>exact same h
 |clo _ _=>exact same h
 |fview _ _ _=>exact mS h
 |err _=>exact mS h
 |dfull _=>exact mS h
 |ifc _ _=>exact same h
 |plit _=>exact mS h
 |pcp _=>exact mS h
 |ref _ _=>exact a h
 |view _ _ _ _=>exact a h
 |d _=>exact mS h
 |undef=>exact mS h
 |junk=>exact mS h
 |cI=>
  by_cases g:by_=true
  ·subst g;exact same h
  ·have f:by_=false:=by cases by_<;>simp_all
   subst f
   exact mS h
 |agg _=>
  by_cases g:by_=true
  ·subst g;exact same h
  ·have f:by_=false:=by cases by_<;>simp_all
   subst f
   exact mS h
 |tup _=>exact mS h
 |cptr _=>exact mS h
theorem u7{by_:Nat->Bool}:∀{args:List RV}{i:Nat}{b:nn}{as:List RV}{u:Ups}{r:List Nat},sP by_ i args b=some ((as,u),r,true)->
  pM u∧(∀x∈u,∃ver e es,b x.1=some (.arr ver e es))∧as.length=args.length∧
  ∀S loc S' loc',Sub S S'->mZ loc loc'->(∀x∈u,Frz b S loc S' x.1)->
   ∀(i:Nat)x a v,args[i]? =some x->as[i]? =some a->R S loc x v->R S' loc' a v
 | [],i,b,as,u,r,h=>by
  obtain⟨h1, -, -⟩:=M.mJ (b:=b) h
  cases h1
  exact⟨(fun x f=>by cases f),(fun x f=>by cases f),rfl,fun S loc S' loc' _ _ _ i x a v f=>by simp at f⟩
 |c::cs,i,b,as,u,r,h=>by
  obtain⟨⟨x,u1⟩,G,H,h1,C,_⟩:=M.bind_some h
  obtain⟨⟨l,u2⟩,I,J,D,E,_⟩:=M.bind_some C
  obtain⟨F, -, -⟩:=M.mJ E
  cases F
  obtain⟨a1,a2,a3⟩:=zh h1
  obtain⟨q,t,z,B⟩:=u7 D
  refine⟨fun x f=>(List.mem_append.1 f).elim (a1 x) (q x),fun x f=>(List.mem_append.1 f).elim (a2 x) (t x),by simp [z],?_⟩
  intro S loc S' loc' o m p j y a v k g n
  cases j with
  |zero=>
   simp only [AT,AD]at k g
   subst k;subst g
   exact a3 S loc S' loc' v o m (fun x f=>p x (List.mem_append.2 (.inl f))) n
  |succ j=>
   simp only [AS]at k g
   exact B S loc S' loc' o m (fun x f=>p x (List.mem_append.2 (.inr f))) j y a v k g n
theorem th:∀{ids:List Nat}{b:nn}{l:List Box}{r:List Nat},rV ids b=some (l,r,true)->
  l.length=ids.length∧∀(j:Nat)id,ids[j]? =some id->∃c,b id=some c∧l[j]? =some c
 | [],b,l,r,h=>by
  obtain⟨h1, -, -⟩:=M.mJ (b:=b) h
  subst h1
  exact⟨rfl,fun j id a=>by simp at a⟩
 |i::ids,b,l,r,h=>by
  obtain⟨c,o,p,h1,e,_⟩:=M.bind_some h
  obtain⟨m,_,_⟩:=M.get_some h1
  obtain⟨n,q,t,f,g,_⟩:=M.bind_some e
  obtain⟨k, -, -⟩:=M.mJ g
  subst k
  obtain⟨g1,g2⟩:=th f
  refine⟨by simp [g1],fun j id a=>?_⟩
  cases j with
  |zero=>simp only [AT,AD]at a;subst a;exact⟨c,m,rfl⟩
  |succ j=>simp only [AS]at a⊢;exact g2 j id a
theorem ta:∀{ids:List Nat}{b:nn}{x:Unit}{r:List Nat},pb ids b=some (x,r,true)->∀i∈ids,b i=none
 | [],b,x,r,_=>fun i hi=>by cases hi
 |i::ids,b,x,r,h=>by
  obtain⟨_,f,g,h1,c,_⟩:=M.bind_some h
  obtain⟨e,_,_⟩:=M.nJ h1
  intro j a
  rcases List.mem_cons.1 a with rfl|a
  ·exact e
  ·exact ta c j a
theorem tp:∀{l:List Nat},nodup l=true->l.Nodup
 | [],_=>List.nodup_nil
 |a::r,h=>by
  simp only [nodup,A5,Bool.not_eq_true']at h
  refine List.nodup_cons.2 ⟨?_,tp h.2⟩
  intro hm
  have:=h.1
  simp [hm]at this
theorem sj{a b:List Nat}(h:disj a b=true):∀x∈a,x∉b:=fun x e c=>by
 have:=List.all_eq_true.1 h x e
 simp [c]at this
theorem rk:∀{l:List Nat}{id k:Nat},idxOf l id=some k->l[k]? =some id
 | [],id,k,h=>by simp [idxOf]at h
 |a::r,id,k,h=>by
  simp only [idxOf]at h
  split at h
  ·rename_i c;cases h;subst c;rfl
  ·cases b:idxOf r id with
   |none=>simp [b]at h
   |some j=>simp only [b,Option.map_some,AD]at h;subst h;simpa using rk b
theorem sl:∀{l:List Nat}{id k:Nat},l.Nodup->l[k]? =some id->idxOf l id=some k
 | [],id,k,_,h=>by simp at h
 |a::r,id,k,b,h=>by
  rw [BZ]at b
  cases k with
  |zero=>simp only [AT,AD]at h;subst h;simp [idxOf]
  |succ k=>
   simp only [AS]at h
   have c:id≠a:=fun e=>b.1 (by subst e;exact A0 h)
   simp [idxOf,c,sl b.2 h]
theorem zf:∀(ids:List Nat)(bs:List Box)(s:St),ids.Nodup->bs.length=ids.length->∀(j:Nat)id a,ids[j]? =some id->bs[j]? =some a->(s.ups (ids.zip bs)).boxes id=some a
 | [],bs,s,_,_,j,id,a,c,_=>by simp at c
 |i::ids,[],s,_,f,j,id,a,_,_=>by simp at f
 |i::ids,b::bs,s,g,f,j,id,a,c,e=>by
  rw [BZ]at g
  simp only [List.length_cons]at f
  rw [List.zip_cons_cons,oz]
  cases j with
  |zero=>
   simp only [AT,AD]at c e
   subst c;subst e
   rw [oj _ _ _ (fun hm => g.1 (by
    obtain⟨x,l,k⟩:=List.mem_map.1 hm
    rw [<-k]
    exact(B1 l).1))]
   exact mU _ _ _
  |succ j=>
   simp only [AS]at c e
   exact zf ids bs _ g.2 om j id a c e
theorem yP(ids:List Nat)(bs:List Box)(s:St)(id:Nat)(h:id∉ids):(s.ups (ids.zip bs)).boxes id=s.boxes id:=by
 refine oj _ _ _ fun hm=>h ?_
 obtain⟨x,b,a⟩:=List.mem_map.1 hm
 rw [<-a]
 exact(B1 b).1
theorem Frame.trans{E:Prop}{B0 c:List Nat}{w0 w w':World}(h:Frame E B0 w0 w)(a:Frame E c w w')(g:∀b∈c,b∈B0∨w0.heap.size<=b):Frame E B0 w0 w':=
 ⟨a.os.trans h.os, a.tape.trans h.tape, a.output.trans h.output, AO h.size a.size, fun b e f => by
  rw [a.block b (Nat.lt_of_lt_of_le e h.size) ?_]
  ·exact h.block b e f
  ·intro hm
   rcases g b hm with h1|h1
   ·exact f h1
   ·omega,fun he=>AO (h.drawn he) (a.drawn he)⟩
end
end Go.Dw
namespace Go.Dw
section
variable {P:Program}{X:Ctx}{S:mW}{loc:nB}{s:St}{tm:Array Value}{w:World}
theorem xS(h:Sim P X S loc s tm w){ids:List Nat}{g bs2:List Box}{b:nn}{f:Nat->Nat->Nat}{ρ:Ren}(y:ids.Nodup)(hlen:g.length=ids.length)(t:∀(j:Nat)id,ids[j]? =some id->∃c,s.boxes id=some c∧g[j]? =some c)
  (q:∀id c,b id=some c->s.boxes id=some c) (v:ρ=⟨idxOf ids,nN b f⟩) (u:bs2.length=ids.length) (n:∀(k:Nat)id c,ids[k]? =some id->g[k]? =some c->bs2[k]? =some (o0 ρ (f id) c)):
  ∃ls:List Loc,ls.length=ids.length∧(∀(j:Nat)id,ids[j]? =some id->∃L,loc id=some L∧ls[j]? =some (nf (f id) L))∧rK ρ loc (look ls)∧Mem P S (look ls) (look bs2) w:=by
 have m:∀(j:Nat)id,ids[j]? =some id->∃L,loc id=some L:=fun j id p=>by
  obtain⟨c,q,_⟩:=t j id p
  obtain⟨L,h1,_⟩:=h.boxes id c q
  exact⟨L,h1⟩
 let ls:List Loc:=ids.map fun id=>match loc id with|some L=>nf (f id) L|none=>.dead
 have e:∀(j:Nat)id,ids[j]? =some id->∃L,loc id=some L∧ls[j]? =some (nf (f id) L):=fun j id p=>by
  obtain⟨L,h1⟩:=m j id p
  exact⟨L,h1,by simp [ls,p,h1]⟩
 have z:rK ρ loc (look ls):=by
  subst v
  refine rK.mk' (P:=P) (S:=S) (w:=w) (fun id c r=>h.boxes id c (q id c r)) (fun id k L D m=>?_)
  obtain⟨x,h1,n⟩:=e k id (rk D)
  rw [m]at h1
  cases h1
  rw [nF]
  exact n
 refine⟨ls,by simp [ls],e,z,h.mem.ren z (fun k B hk=>?_) (fun k x hk=>?_)⟩
 ·rw [nF]at hk
  have i:k<ids.length:=by rw [<-u];exact(List.getElem?_eq_some_iff.1 hk).1
  have a:=zc i
  obtain⟨c,h1,l⟩:=t k _ a
  rw [n k _ c a l]at hk
  cases hk
  refine⟨ids[k],c,_,by rw [v];exact sl y a,h1,rfl,fun L m=>?_⟩
  obtain⟨x,l,o⟩:=e k _ a
  rw [m]at l
  cases l
  rw [nF]
  exact o
 ·rw [nF]at hk
  have i:k<ids.length:=by have:=(List.getElem?_eq_some_iff.1 hk).1;simpa [ls]using this
  have a:=zc i
  obtain⟨L,l,o⟩:=e k _ a
  obtain⟨c,_,C⟩:=t k _ a
  rw [hk]at o
  cases o
  exact⟨⟨_,by rw [nF];exact n k _ c a C⟩,ids[k],L,_,by rw [v];exact sl y a,l,rfl⟩
theorem Sim.zg(h:Sim P X S loc s tm w){ids news:List Nat}{E:List Box}{ls W:List Loc}{off:Nat->Nat}{r:RV}{v:Value}{w':World}{S':mW}{σ:Ren}(hn:ids.Nodup)
  (hlen:ls.length=ids.length) (a8:∀(j:Nat)id,ids[j]? =some id->∃L,loc id=some L∧ls[j]? =some (nf (fun _=>0) L))
  (G:∀(j:Nat)id ver e sz hdr L,ids[j]? =some id->loc id=some L->L.Row ver e sz hdr->off j=ver)
  (a6:∀i∈news,s.boxes i=none) (c0:news.Nodup) (b4:(ids++news).length=E.length)
  (hσ:σ=⟨look (ids++news),nN (look E) fun k cur=>off k+cur⟩) (C:wx P X.base.mono S w ls ids.length r E v w' S' W):
  ∃f,Sim P X S' f (s.ups ((ids++news).zip (E.zipIdx.map fun x=>o0 σ (fun cur=>off x.2+cur) x.1))) tm w'∧R S' f (ov σ r) v∧mZ loc f:=by
 have hold:∀id∈ids,∃L,loc id=some L:=fun id c=>by
  obtain⟨j,hj⟩:=Aq c
  obtain⟨L,h1,_⟩:=a8 j id hj
  exact⟨L,h1⟩
 have a5:(ids++news).Nodup:=by
  rw [List.nodup_append]
  refine⟨hn,c0,fun a C b n b5=>?_⟩
  subst b5
  obtain⟨L,h1⟩:=hold a C
  obtain⟨bx,m⟩:=h.dom a L h1
  rw [a6 a n]at m
  cases m
 let f:nB:=fun id=>match idxOf (ids++news) id with|some k=>(look W k).map (nf (off k+ ·))|none=>loc id
 have Y:∀k id,(ids++news)[k]? =some id->f id=(look W k).map (nf (off k+ ·)):=fun k id hk=>by
  simp only [f,sl a5 hk]
 have p:∀id,id∉ids++news->f id=loc id:=fun id c=>by
  simp only [f]
  cases hi:idxOf (ids++news) id with
  |none=>rfl
  |some k=>exact(c (A0 (rk hi))).elim
 have hr:rK σ (look W) f:=by
  subst hσ
  refine rK.mk' (P:=P) (S:=S') (w:=w') C.mem.boxes (fun k id L hp g=>?_)
  rw [nF]at hp
  rw [Y k id hp,g]
  rfl
 have hblk:∀b∈vn ls,∃id∈ids,∃L,loc id=some L∧L.has b:=fun b n=>by
  obtain⟨k,L,h1,m⟩:=tG.1 n
  rw [nF]at h1
  have hk:k<ids.length:=by rw [<-hlen];exact(List.getElem?_eq_some_iff.1 h1).1
  obtain⟨B,F,l⟩:=a8 k _ (zc hk)
  rw [h1]at l
  cases l
  rw [pw]at m
  exact⟨_,List.getElem_mem hk,B,F,m⟩
 have H:∀b∈vn ls,b∈X.B0∨X.w0.heap.size<=b:=fun b n=>by
  obtain⟨id,_,L,h1,m⟩:=hblk b n
  exact h.own id L b h1 m
 have hle:mZ loc f:=fun id L g=>by
  by_cases c:id∈ids++news
  rotate_left
  ·exact⟨L,by rw [p id c];exact g,.same _⟩
  obtain⟨k,hk⟩:=Aq c
  have b6:k<ids.length:=by
   by_cases N:k<ids.length
   ·exact N
   ·rw [List.getElem?_append_right om]at hk
    obtain⟨bx,Q⟩:=h.dom id L g
    rw [a6 id (A0 hk)]at Q
    cases Q
  have K:ids[k]? =some id:=by rwa [List.getElem?_append_left b6]at hk
  obtain⟨L0,h1,m⟩:=a8 k id K
  rw [g]at h1
  cases h1
  obtain⟨B,F,l⟩:=C.le k _ (by rw [nF];exact m)
  refine⟨nf (off k+ ·) B,by rw [Y k id hk,F];rfl,?_⟩
  generalize T:nf (fun _=>0) L=L1 at l
  cases l with
  |same=>
   subst T
   cases L with
   |arr ver e sz hdr=>
    have:=G k id ver e sz hdr _ K g .arr
    simp only [nf,Al,this]
    exact .same _
   |nest ver e sz hdr bs=>
    have:=G k id ver e sz hdr _ K g .nest
    simp only [nf,Al,this]
    exact .same _
   |var b=>exact .same _
   |dead=>exact .same _
   |map b=>exact .same _
  |dead=>exact .dead _
  |arr N=>
   cases L<;>simp only [nf,Loc.arr.injEq,reduceCtorEq]at T
   rename_i ver e sz hdr
   have:=G k id ver e sz hdr _ K g .arr
   obtain⟨T, -⟩:=T
   exact .arr (show ver<off k+_ by omega)
  |nest N=>
   cases L<;>simp only [nf,Loc.nest.injEq,reduceCtorEq]at T
   rename_i ver e sz hdr bs
   have:=G k id ver e sz hdr _ K g .nest
   obtain⟨T, -⟩:=T
   exact .nest (show ver<off k+_ by omega)
  |held=>
   cases L<;>simp only [nf,Loc.nest.injEq,reduceCtorEq]at T
   rename_i ver e sz hdr bs
   have:=G k id ver e sz hdr _ K g .nest
   obtain⟨rfl,rfl,rfl,rfl,rfl⟩:=T
   simp only [nf,Al,this]
   exact .held
 have Q:∀k id,(ids++news)[k]? =some id->∃bx,E[k]? =some bx∧(s.ups ((ids++news).zip (E.zipIdx.map fun x=>o0 σ (fun cur=>off x.2+cur) x.1))).boxes id=some (o0 σ (fun cur=>off k+cur) bx):=fun k id hk=>by
  have N:k<E.length:=by rw [<-b4];exact(List.getElem?_eq_some_iff.1 hk).1
  refine⟨E[k],zc N,?_⟩
  refine zf _ _ s a5 (by simp [b4]) k id _ hk ?_
  simp [N]
 have b3:∀id,id∉ids++news->(s.ups ((ids++news).zip (E.zipIdx.map fun x=>o0 σ (fun cur=>off x.2+cur) x.1))).boxes id=s.boxes id:=fun id c=>yP _ _ s id c
 have q:∀id L b,id∉ids++news->loc id=some L->L.has b->b<w.heap.size∧b∉vn ls:=fun id L b c g n=>by
  refine⟨h.mem.lt g n,fun hm=>?_⟩
  obtain⟨z,h1,B,m,F⟩:=hblk b hm
  have:=h.inj id z L B b g m n F
  subst this
  exact c (List.mem_append.2 (.inl h1))
 have y:∀id L b,id∈ids++news->f id=some L->L.has b->∃k B,look W k=some B∧B.has b∧(ids++news)[k]? =some id∧(b∈vn ls∨w.heap.size<=b):=fun id L b c g n=>by
  obtain⟨k,hk⟩:=Aq c
  rw [Y k id hk,Option.map_eq_some_iff]at g
  obtain⟨B,h1,rfl⟩:=g
  rw [pw]at n
  exact⟨k,B,h1,n,hk,C.own k B b h1 n⟩
 refine⟨f,⟨h.nt,?_,?_,?_,C.mem.imm,C.mem.qT,?_,?_,?_,h.frame.trans C.frame H,h.s0.trans C.sub,?_,?_,h.bs.trans C.sub,fun x T=>?_⟩,R.ov hr C.res,hle⟩
 rotate_right
 ·obtain⟨h1,o,v,m⟩:=h.ob x T
  refine⟨?_,o,v,m⟩
  rw [<-h1]
  refine C.frame.block _ (Array.getElem?_eq_some_iff.1 h1).1 fun hm=>?_
  obtain⟨id,_,L,F,l⟩:=hblk _ hm
  have O:=h.pH id L x.1 F l o
  rw [h.bs _ _ m]at O
  cases O
 ·intro t rv ht
  rw [oJ]at ht
  obtain⟨u,h1,m⟩:=h.nd t rv ht
  exact⟨u,h1,m.mono C.sub hle⟩
 ·intro id bx n
  by_cases c:id∈ids++news
  ·obtain⟨k,hk⟩:=Aq c
   obtain⟨b0,h1,m⟩:=Q k id hk
   rw [m]at n
   cases n
   obtain⟨L,F,l⟩:=C.mem.boxes k b0 (by rw [nF];exact h1)
   exact⟨nf (off k+ ·) L,by rw [Y k id hk,F];rfl,pY.ren hr _ l⟩
  ·rw [b3 id c]at n
   obtain⟨L,h1,m⟩:=h.boxes id bx n
   refine⟨L,by rw [p id c];exact h1,m.dw C.sub hle fun b J=>?_⟩
   obtain⟨F,l⟩:=q id L b c h1 J
   exact C.frame.block b F l
 ·intro id L g
  by_cases c:id∈ids++news
  ·obtain⟨k,hk⟩:=Aq c
   obtain⟨b0,_,m⟩:=Q k id hk
   exact⟨_,m⟩
  ·rw [p id c]at g
   rw [b3 id c]
   exact h.dom id L g
 ·intro id L b g n o
  by_cases c:id∈ids++news
  ·obtain⟨k,B,h1,m,_⟩:=y id L b c g n
   exact C.mem.pH k B b h1 m o
  ·rw [p id c]at g
   obtain⟨F,l⟩:=q id L b c g n
   cases hS:S' ⟨b,o,none⟩with
   |none=>rfl
   |some u=>
    rcases C.sJ _ u hS with O|O|O
    ·rw [h.pH id L b g n o]at O;cases O
    ·simp only at O;omega
    ·exact(l O).elim
 ·intro id z L B b g I n J
  by_cases c:id∈ids++news
  ·obtain⟨k,L1,h1,m,F,l⟩:=y id L b c g n
   by_cases D:z∈ids++news
   ·obtain⟨k',a9,b1,b2,a7,_⟩:=y z B b D I J
    have:=C.mem.inj k k' L1 a9 b h1 b1 m b2
    subst this
    rw [F]at a7
    exact BX a7
   ·rw [p z D]at I
    obtain⟨O,h6⟩:=q z B b D I J
    rcases l with l|l
    ·exact(h6 l).elim
    ·omega
  ·rw [p id c]at g
   obtain⟨O,h6⟩:=q id L b c g n
   by_cases D:z∈ids++news
   ·obtain⟨k',a9,b1,b2,a7,l⟩:=y z B b D I J
    rcases l with l|l
    ·exact(h6 l).elim
    ·omega
   ·rw [p z D]at I
    exact h.inj id z L B b g I n J
 ·intro id L b g n
  by_cases c:id∈ids++news
  ·obtain⟨k,L1,h1,m,F,l⟩:=y id L b c g n
   rcases l with l|l
   ·exact H b l
   ·exact .inr (AO h.frame.size l)
  ·rw [p id c]at g
   exact h.own id L b g n
 ·intro k L0 hk
  obtain⟨L,h1,m⟩:=h.par k L0 hk
  obtain⟨B,F,l⟩:=hle k L h1
  exact⟨B,F,ni.trans m l⟩
 ·intro ad u hu
  rcases C.sJ ad u hu with h1|h1|h1
  ·exact h.sJ ad u h1
  ·exact .inr (.inl (AO h.frame.size h1))
  ·exact .inr ((H _ h1).symm)
theorem R.uL{S':mW}{loc':nB}{r:RV}{v:Value}(hf:uL r=true)(h:R S loc r v):R S' loc' r v:=by
 have e:∀{p:PD}{v:Value},flatP p=true->V S p v->V S' p v:=by
  intro p v hf h
  cases h with
  |bool=>exact .bool _
  |int=>exact .int _ _
  |str=>exact .str _
  |_=>cases hf
 cases r with
 |d p=>
  cases h with
  |d h=>
  cases h with
  |bool=>exact .d (.bool _)
  |int=>exact .d (.int _ _)
  |str=>exact .d (.str _)
  |agg cs vs c h=>
   simp only [Dw.uL,List.all_eq_true]at hf
   exact .d (.agg cs vs c fun i p v h1 a=>e (hf p (A0 h1)) (h i p v h1 a))
  |_=>cases hf
 |err b=>
  cases h with
  |err=>exact .err _ _
  |noerr=>exact .noerr
 |_=>cases hf
theorem R.flatR{S':mW}{loc':nB}{σ:Ren}{r:RV}{v:Value}(hf:flatV r=true)(h:R S loc (Dw.ov σ r) v):R S' loc' (Dw.ov σ r) v:=by
 cases r with
 |tup cs=>
  have h1:Dw.ov σ (.tup cs)= .tup cs:=by
   simp only [Dw.ov,RV.tup.injEq]
   refine(List.map_congr_left fun c e=>?_).trans (List.map_id _)
   have:=List.all_eq_true.1 hf c e
   cases c<;>first|rfl|cases this
  rw [h1]at h⊢
  cases h with
  |tup cs vs f h=>exact .tup cs vs f fun i c v a g=>(h i c v a g).uL (List.all_eq_true.1 hf c (A0 a))
 |d p=>exact R.uL (r:= .d p) hf h
 |err b=>exact R.uL (r:= .err b) hf h
 |_=>cases hf
theorem Sim.frame0(h:Sim P X S loc s tm w){w':World}{f:List Nat}(a:f=[])(c:Frame X.base.mono f w w'):Sim P X S loc s tm w':=by
 subst a
 refine⟨h.nt,h.nd,?_,h.dom,?_,h.qT,h.pH,h.inj,h.own,h.frame.trans c (fun b a=>by cases a),h.s0,h.par,h.sJ,h.bs,fun x e=>⟨by rw [<-(h.ob x e).1];exact c.block _ (Array.getElem?_eq_some_iff.1 (h.ob x e).1).1 sm,(h.ob x e).2⟩⟩
 ·intro i k a
  obtain⟨L,h1,g⟩:=h.boxes i k a
  exact⟨L,h1,g.dw (Sub.refl S) (mZ.refl loc) (fun b a=>c.block b (g.pz a) sm)⟩
 ·intro ad v l
  have j:=h.imm ad v l
  rw [<-j]
  exact px (c.block ad.block (World.block_lt_of_cell? w ad j) sm)
theorem pB{by_:FuncId->Nat->Bool}{call:ng}(C:oO P X.base call){o:Oper}{a:Act}(h:Sim P X S loc s a.tmps w)(hd:a.defers=[])(n:∀d,o.dst=some d->d<X.nt){f:FuncId}{base:Nat}{args:List RV}{v:RV}{u:Ups}{r:List Nat}
  (hl:pj by_ call f base args s.boxes=some ((v,u),r,true)) {vs:Array Value} (hlen:args.length=vs.size) (z:∀(i:Nat)x y,args[i]? =some x->vs[i]? =some y->R S loc x y)
  (I:(execOp a.eval o).run P w=(callFunc f vs).run P w):qA P X ((s.ups u).put o.dst v) o a w:=by
 obtain⟨⟨as,u0⟩,r1,r2,h1,h2,_⟩:=M.bind_some hl
 obtain⟨ids,r3,r4,h3,h4,_⟩:=M.bind_some h2
 obtain⟨c,r5,r6,h5,H,_⟩:=M.bind_some h4
 rcases hc:call f (as.map (ov (rG ids c))) (c.map (o0 (rG ids c) fun _=>0))with _|⟨res,q⟩
 ·simp only [hc]at H;exact fE s.boxes H
 simp only [hc]at H
 split at H
 rotate_left
 ·exact fE s.boxes H
 rename_i D
 obtain⟨c0,a7,a8⟩:=D
 obtain⟨_,r7,r8,h7,h8,_⟩:=M.bind_some H
 obtain⟨h9, -, -⟩:=M.mJ h8
 cases h9
 have hn:=tp a7
 obtain⟨a1,a2,a3,a4⟩:=u7 h1
 obtain⟨g1,g2⟩:=th h5
 obtain⟨S1,W,g,J,hle,b0⟩:=h.re u0 a1 (fun x hx=>.inl (a2 x hx))
 have E:∀id∈ids,(s.ups u0).boxes id=s.boxes id:=fun id b1=>oj _ _ _ (sj a8 id b1)
 have hg:∀(j:Nat)id,ids[j]? =some id->∃t,(s.ups u0).boxes id=some t∧c[j]? =some t:=fun j id hj=>by
  obtain⟨t,k1,k2⟩:=g2 j id hj
  exact⟨t,by rw [E id (A0 hj)];exact k1,k2⟩
 obtain ⟨ls, q1, q2, q3, q4⟩ := xS g (f := fun _ _ => 0) (b := fun i => (idxOf ids i).bind (look c)) (ρ := (rG ids c)) (bs2 := c.map (o0 (rG ids c) fun _ => 0)) hn g1 hg (fun id t hb => by
   rw [Option.bind_eq_some_iff]at hb
   obtain⟨k,m1,m2⟩:=hb
   obtain⟨b5,m3,m4⟩:=hg k id (rk m1)
   rw [nF,m4]at m2
   cases m2
   exact m3) rfl (by simp [g1]) (fun k id t hk a6=>by rw [Ap,a6];rfl)
 have b3 := C f _ _ res q hc S1 w ls vs q4 (by rw [q1, BY, g1]) g.bs g.ob (by rw [BY, a3]; exact hlen) (fun i x y hx hy => by
  rw [Ap,Option.map_eq_some_iff]at hx
  obtain⟨x0,O,rfl⟩:=hx
  have hi:i<args.length:=by rw [<-a3];exact(List.getElem?_eq_some_iff.1 O).1
  exact R.ov q3 (a4 S loc S1 W J hle b0 i args[i] x0 y (zc hi) O (z i _ y (zc hi) hy)))
 intro K Q hK
 unfold Oper.wp
 rw [I]
 suffices tail:∀rv w',(∃S' a5,wx P X.base.mono S1 w ls (c.map (o0 (rG ids c) fun _=>0)).length res q rv w' S' a5)->K (a.put o.dst rv) w' by
  rcases b3 with⟨⟨fn,a9,F,B⟩,l⟩|⟨rv,w',p,hR⟩
  ·have G:(callFunc f vs).run P w= .ok (.enter f vs) w:=by
    have : (fn.name == "runtime.NumGoroutine") = false := by simpa using F
    simp only [callFunc,Sem.run_bind,run_program,Result.andThen_ok,a9,this,B,Ac,if_false,Sem.run_pure]
   rw [G,Oper.upon_enter]
   refine l.mono fun e w' he=>?_
   obtain⟨rv,rfl,he⟩:=he
   exact tail rv w' he
  ·rw [p,Oper.upon_value]
   exact tail rv w' hR
 intro rv w' he
 obtain⟨S',a5,ha⟩:=he
 rw [BY,g1]at ha
 have N:=ta h7
 obtain ⟨Y, k1, k2, _⟩ := g.zg (off := offOf c) hn q1 q2 (fun j id ver e sz hdr L hj hL p => by
   obtain⟨t,m1,m2⟩:=hg j id hj
   have:=g.ot m1 hL
   simp only [offOf,nF,m2]
   cases this with
   |arr=>cases p;rfl
   |nest=>cases p;rfl
   |dead _ hd=>subst hd;cases p
   |var=>cases p
   |map=>cases p
   |hole=>cases p;rfl)
  (fun i hi => by
   have hv:=N i hi
   rw [oj _ _ _ fun hm=>?_]
   ·exact hv
   ·obtain⟨y,hy,b4⟩:=List.mem_map.1 hm
    obtain⟨ver,e,es,T⟩:=a2 y hy
    rw [b4,hv]at T
    cases T)
  (by
   unfold qe
   rw [List.nodup_iff_pairwise_ne,List.pairwise_map]
   exact List.pairwise_lt_range.imp fun{a b}b6=>om)
  (by simp [qe];omega) rfl ha
 by_cases m:(ids.isEmpty&&(q.isEmpty&&flatV res))=true
 ·refine hK _ _ ⟨by cases o.dst<;>exact hd,S,loc,?_⟩
  rw [xq,if_pos m]
  simp only [A5,List.isEmpty_iff]at m
  obtain⟨e1,e2,e3⟩:=m
  subst e1
  have b2:ls=[]:=List.eq_nil_of_length_eq_zero q1
  subst b2
  exact(h.frame0 rfl ha.frame).put (a:=a) (k2.flatR e3) o.dst n
 refine hK _ _ ⟨by cases o.dst<;>exact hd,S',Y,?_⟩
 rw [xq,if_neg m,qg]
 exact k1.put (a:=a) k2 o.dst n
end
end Go.Dw
