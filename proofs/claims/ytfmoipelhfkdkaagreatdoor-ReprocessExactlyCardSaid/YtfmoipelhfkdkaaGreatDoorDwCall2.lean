
import Derived.Test.YtfmoipelhfkdkaaGreatDoorDwRen
open List renaming getElem?_cons_succ->DR, getElem?_cons_zero->DS, getElem?_map->ED, getElem?_of_mem->EE, length_map->Ea, mem_of_getElem?->DY, nodup_cons->Eb, of_mem_zip->Ec
open Bool renaming and_eq_true->D6, false_eq_true->Dr
open Option.some renaming inj->E9, injEq->DB
open Nat renaming add_zero->D2, le_trans->DM

namespace Go.Dw
def Loc.blocks:Loc->List Nat
 | .nest _ _ _ hdr bs=>(sX hdr).toList++bs
 |L=>L.block.toList
theorem Ak{L:Loc}{b:Nat}:b∈L.blocks↔L.has b:=by
 cases L<;>simp [Loc.blocks,Loc.has,Loc.block,eq_comm]
def zL(ls:List Loc):List Nat:=ls.flatMap Loc.blocks
theorem sk{α:Type}:∀(l:List α)(i:Nat),look l i=l[i]?
 | [],_=>rfl
 |a::r,0=>rfl
 |a::r,n+1=>by rw [look,sk r n];rfl
theorem vV{ls:List Loc}{b:Nat}:b∈zL ls↔∃k L,look ls k=some L∧L.has b:=by
 unfold zL
 rw [List.mem_flatMap]
 constructor
 ·rintro⟨L,g,f⟩
  obtain⟨k,hk⟩:=EE g
  exact⟨k,L,by rw [sk];exact hk,Ak.1 f⟩
 ·rintro⟨k,L,hk,f⟩
  rw [sk]at hk
  exact⟨L,DY hk,Ak.2 f⟩
def Enters (P : Program) (f : FuncId) : Prop := ∃ fn, P.funcs[f]? = some fn ∧ fn.name ≠ "runtime.NumGoroutine" ∧ fn.body.isNone = false
def A1(P:Program)(f:FuncId)(vs:Array Value)(w:World)(R:Value->World->Prop):Prop:=
 (Enters P f∧Calls P f vs w fun e w'=>∃v,e= .returned v∧R v w')∨(∃v w',(callFunc f vs).run P w= .ok (.value v) w'∧R v w')
structure zA(P:Program)(E:Prop)(S:rC)(w:World)(ls:List Loc)(n:Nat)(r:RV)(bs':List Box)(v:Value)(w':World)(S':rC)(ls':List Loc):Prop where
 len:ls'.length=bs'.length
 more:n<=bs'.length
 sub:Sub S S'
 mem:Mem P S' (look ls') (look bs') w'
 xz:∀ad v,S' ad=some v->S ad=some v∨w.heap.size<=ad.block∨ad.block∈zL ls
 le:rF (look ls) (look ls')
 own:∀k L b,look ls' k=some L->L.has b->b∈zL ls∨w.heap.size<=b
 frame:Frame E (zL ls) w w'
 res:R S' (look ls') r v
def uj(P:Program)(base:xF)(f:FuncId)(args:List RV)(bs:List Box)(r:RV)(g:List Box):Prop:=
 ∀(S:rC)(w:World)(ls:List Loc)(vs:Array Value),Mem P S (look ls) (look bs) w->ls.length=bs.length->Sub base.snap S->(∀x∈base.objs,w.heap[x.1]? =some x.2∧∃o v,base.snap ⟨x.1,o,none⟩=some v)->
  args.length=vs.size->(∀(i:Nat)a v,args[i]? =some a->vs[i]? =some v->R S (look ls) a v)->
  A1 P f vs w fun v w'=>∃S' j,zA P base.mono S w ls bs.length r g v w' S' j
def ue(P:Program)(base:xF)(call:rA):Prop:=∀f args bs r g,call f args bs=some (r,g)->uj P base f args bs r g
section
variable {P:Program}{X:Ctx}{S:rC}{loc:sf}{s:St}{tm:Array Value}{w:World}
theorem C4{by_:Bool}{c x:RV}{b:rY}{u:Ups}{r:List Nat}(h:argD by_ c b=some ((x,u),r,true)):
  uV u∧(∀y∈u,∃ver e es,b y.1=some (.arr ver e es))∧
  ∀S loc S' loc' v,Sub S S'->rF loc loc'->(∀y∈u,Frz b S loc S' y.1)->R S loc c v->R S' loc' x v:=by
 have same:∀{r:List Nat},M.pure (c,([]:Ups)) b=some ((x,u),r,true)->uV u∧(∀y∈u,∃ver e es,b y.1=some (.arr ver e es))∧
   ∀S loc S' loc' v,Sub S S'->rF loc loc'->(∀y∈u,Frz b S loc S' y.1)->R S loc c v->R S' loc' x v:=by
  intro r h
  obtain⟨h1, -, -⟩:=M.qw h
  cases h1
  exact⟨(fun y C=>by cases C),(fun y C=>by cases C),fun S loc S' loc' v hs hl _ B=>B.mono hs hl⟩
 have data:∀{r:List Nat}{p:PD}{u1:Ups},uB c b=some ((p,u1),r,true)->x= .d p->u=u1->uV u∧(∀y∈u,∃ver e es,b y.1=some (.arr ver e es))∧
   ∀S loc S' loc' v,Sub S S'->rF loc loc'->(∀y∈u,Frz b S loc S' y.1)->R S loc c v->R S' loc' x v:=by
  rintro r p u1 h rfl rfl
  obtain⟨a1,a2,a3⟩:=v8 h
  exact⟨a1,a2,fun S loc S' loc' v hs _ hf B=>.d (a3 S loc S' v B hs hf)⟩
 have rq:(M.bind (uB c) fun(p,u)=>M.rq c.sized ((RV.d p,u):RV×Ups)) b=some ((x,u),r,true)->uV u∧(∀y∈u,∃ver e es,b y.1=some (.arr ver e es))∧
   ∀S loc S' loc' v,Sub S S'->rF loc loc'->(∀y∈u,Frz b S loc S' y.1)->R S loc c v->R S' loc' x v:=by
  intro h
  obtain⟨⟨p,u1⟩,D,E,h1,k,_⟩:=M.bind_some h
  obtain⟨q, -, -⟩:=M.rm k
  cases q
  exact data h1 rfl rfl
 have f:(if by_ then M.pure (c,([]:Ups))else M.bind (uB c) fun(p,u)=>M.pure ((RV.d p,u):RV×Ups)) b=some ((x,u),r,true)->uV u∧(∀y∈u,∃ver e es,b y.1=some (.arr ver e es))∧
   ∀S loc S' loc' v,Sub S S'->rF loc loc'->(∀y∈u,Frz b S loc S' y.1)->R S loc c v->R S' loc' x v:=by
  intro h
  cases by_ with
  |true=>exact same h
  |false=>
   simp only [Dr,if_false]at h
   obtain⟨⟨p,u1⟩,D,E,h1,k,_⟩:=M.bind_some h
   obtain⟨q, -, -⟩:=M.qw k
   cases q
   exact data h1 rfl rfl
 cases c with
 |ptr _ _=>exact same h
 |elt _ _ _ _=>exact same h
 |clo _ _=>exact same h
 |fview _ _ _=>exact rq h
 |err _=>exact rq h
 |dfull _=>exact rq h
 |ifc _ _=>exact same h
 |plit _=>exact rq h
 |pcp _=>exact rq h
 |ref _ _=>exact f h
 |view _ _ _ _=>exact f h
 |d _=>exact rq h
 |undef=>exact rq h
 |junk=>exact rq h
 |pY=>
  by_cases j:by_=true
  ·subst j;exact same h
  ·have g:by_=false:=by cases by_<;>simp_all
   subst g
   exact rq h
 |agg _=>
  by_cases j:by_=true
  ·subst j;exact same h
  ·have g:by_=false:=by cases by_<;>simp_all
   subst g
   exact rq h
 |tup _=>exact rq h
 |cptr _=>exact rq h
theorem zD{by_:Nat->Bool}:∀{args:List RV}{i:Nat}{b:rY}{as:List RV}{u:Ups}{r:List Nat},vU by_ i args b=some ((as,u),r,true)->
  uV u∧(∀x∈u,∃ver e es,b x.1=some (.arr ver e es))∧as.length=args.length∧
  ∀S loc S' loc',Sub S S'->rF loc loc'->(∀x∈u,Frz b S loc S' x.1)->
   ∀(i:Nat)x a v,args[i]? =some x->as[i]? =some a->R S loc x v->R S' loc' a v
 | [],i,b,as,u,r,h=>by
  obtain⟨h1, -, -⟩:=M.qw (b:=b) h
  cases h1
  exact⟨(fun x f=>by cases f),(fun x f=>by cases f),rfl,fun S loc S' loc' _ _ _ i x a v f=>by simp at f⟩
 |c::cs,i,b,as,u,r,h=>by
  obtain⟨⟨x,u1⟩,K,L,h1,G,_⟩:=M.bind_some h
  obtain⟨⟨l,u2⟩,N,O,H,I,_⟩:=M.bind_some G
  obtain⟨J, -, -⟩:=M.qw I
  cases J
  obtain⟨a1,a2,a3⟩:=C4 h1
  obtain⟨C,D,E,F⟩:=zD H
  refine⟨fun x f=>(List.mem_append.1 f).elim (a1 x) (C x),fun x f=>(List.mem_append.1 f).elim (a2 x) (D x),by simp [E],?_⟩
  intro S loc S' loc' hs hl B j y a v k g q
  cases j with
  |zero=>
   simp only [DS,DB]at k g
   subst k;subst g
   exact a3 S loc S' loc' v hs hl (fun x f=>B x (List.mem_append.2 (.inl f))) q
  |succ j=>
   simp only [DR]at k g
   exact F S loc S' loc' hs hl (fun x f=>B x (List.mem_append.2 (.inr f))) j y a v k g q
theorem xK:∀{ids:List Nat}{b:rY}{l:List Box}{r:List Nat},wM ids b=some (l,r,true)->
  l.length=ids.length∧∀(j:Nat)id,ids[j]? =some id->∃g,b id=some g∧l[j]? =some g
 | [],b,l,r,h=>by
  obtain⟨h1, -, -⟩:=M.qw (b:=b) h
  subst h1
  exact⟨rfl,fun j id f=>by simp at f⟩
 |i::ids,b,l,r,h=>by
  obtain⟨g,E,F,h1,k,_⟩:=M.bind_some h
  obtain⟨C,_,_⟩:=M.get_some h1
  obtain⟨D,G,H,q,u,_⟩:=M.bind_some k
  obtain⟨B, -, -⟩:=M.qw u
  subst B
  obtain⟨g1,g2⟩:=xK q
  refine⟨by simp [g1],fun j id f=>?_⟩
  cases j with
  |zero=>simp only [DS,DB]at f;subst f;exact⟨g,C,rfl⟩
  |succ j=>simp only [DR]at f⊢;exact g2 j id f
theorem xE:∀{ids:List Nat}{b:rY}{x:Unit}{r:List Nat},tM ids b=some (x,r,true)->∀i∈ids,b i=none
 | [],b,x,r,_=>fun i hi=>by cases hi
 |i::ids,b,x,r,h=>by
  obtain⟨_,q,u,h1,g,_⟩:=M.bind_some h
  obtain⟨k,_,_⟩:=M.su h1
  intro j f
  rcases List.mem_cons.1 f with rfl|f
  ·exact k
  ·exact xE g j f
theorem xQ:∀{l:List Nat},nodup l=true->l.Nodup
 | [],_=>List.nodup_nil
 |a::r,h=>by
  simp only [nodup,D6,Bool.not_eq_true']at h
  refine List.nodup_cons.2 ⟨?_,xQ h.2⟩
  intro hm
  have:=h.1
  simp [hm]at this
theorem xl{a b:List Nat}(h:zT a b=true):∀x∈a,x∉b:=fun x g f=>by
 have:=List.all_eq_true.1 h x g
 simp [f]at this
theorem wy:∀{l:List Nat}{id k:Nat},idxOf l id=some k->l[k]? =some id
 | [],id,k,h=>by simp [idxOf]at h
 |a::r,id,k,h=>by
  simp only [idxOf]at h
  split at h
  ·rename_i g;cases h;subst g;rfl
  ·cases f:idxOf r id with
   |none=>simp [f]at h
   |some j=>simp only [f,Option.map_some,DB]at h;subst h;simpa using wy f
theorem xq:∀{l:List Nat}{id k:Nat},l.Nodup->l[k]? =some id->idxOf l id=some k
 | [],id,k,_,h=>by simp at h
 |a::r,id,k,f,h=>by
  rw [Eb]at f
  cases k with
  |zero=>simp only [DS,DB]at h;subst h;simp [idxOf]
  |succ k=>
   simp only [DR]at h
   have g:id≠a:=fun e=>f.1 (by subst e;exact DY h)
   simp [idxOf,g,xq f.2 h]
theorem C2:∀(ids:List Nat)(bs:List Box)(s:St),ids.Nodup->bs.length=ids.length->∀(j:Nat)id f,ids[j]? =some id->bs[j]? =some f->(s.ups (ids.zip bs)).boxes id=some f
 | [],bs,s,_,_,j,id,f,g,_=>by simp at g
 |i::ids,[],s,_,hl,j,id,f,_,_=>by simp at hl
 |i::ids,b::bs,s,q,hl,j,id,f,g,k=>by
  rw [Eb]at q
  simp only [List.length_cons]at hl
  rw [List.zip_cons_cons,tL]
  cases j with
  |zero=>
   simp only [DS,DB]at g k
   subst g;subst k
   rw [tB _ _ _ (fun hm => q.1 (by
    obtain⟨x,u,r⟩:=List.mem_map.1 hm
    rw [<-r]
    exact(Ec u).1))]
   exact ru _ _ _
  |succ j=>
   simp only [DR]at g k
   exact C2 ids bs _ q.2 za j id f g k
theorem CN(ids:List Nat)(bs:List Box)(s:St)(id:Nat)(h:id∉ids):(s.ups (ids.zip bs)).boxes id=s.boxes id:=by
 refine tB _ _ _ fun hm=>h ?_
 obtain⟨x,g,f⟩:=List.mem_map.1 hm
 rw [<-f]
 exact(Ec g).1
theorem Frame.trans{E:Prop}{B0 g:List Nat}{w0 w w':World}(h:Frame E B0 w0 w)(f:Frame E g w w')(q:∀b∈g,b∈B0∨w0.heap.size<=b):Frame E B0 w0 w':=
 ⟨f.os.trans h.os, f.tape.trans h.tape, f.output.trans h.output, DM h.size f.size, fun b j k => by
  rw [f.block b (Nat.lt_of_lt_of_le j h.size) ?_]
  ·exact h.block b j k
  ·intro hm
   rcases q b hm with h1|h1
   ·exact k h1
   ·omega,fun he=>DM (h.drawn he) (f.drawn he)⟩
end
end Go.Dw
namespace Go.Dw
section
variable {P:Program}{X:Ctx}{S:rC}{loc:sf}{s:St}{tm:Array Value}{w:World}
theorem BX(h:Sim P X S loc s tm w){ids:List Nat}{r bs2:List Box}{b:rY}{f:Nat->Nat->Nat}{ρ:Ren}(O:ids.Nodup)(hlen:r.length=ids.length)(I:∀(j:Nat)id,ids[j]? =some id->∃g,s.boxes id=some g∧r[j]? =some g)
  (G:∀id g,b id=some g->s.boxes id=some g) (K:ρ=⟨idxOf ids,sD b f⟩) (J:bs2.length=ids.length) (D:∀(k:Nat)id g,ids[k]? =some id->r[k]? =some g->bs2[k]? =some (ui ρ (f id) g)):
  ∃ls:List Loc,ls.length=ids.length∧(∀(j:Nat)id,ids[j]? =some id->∃L,loc id=some L∧ls[j]? =some (rK (f id) L))∧wS ρ loc (look ls)∧Mem P S (look ls) (look bs2) w:=by
 have C:∀(j:Nat)id,ids[j]? =some id->∃L,loc id=some L:=fun j id F=>by
  obtain⟨g,G,_⟩:=I j id F
  obtain⟨L,h1,_⟩:=h.boxes id g G
  exact⟨L,h1⟩
 let ls:List Loc:=ids.map fun id=>match loc id with|some L=>rK (f id) L|none=>.dead
 have q:∀(j:Nat)id,ids[j]? =some id->∃L,loc id=some L∧ls[j]? =some (rK (f id) L):=fun j id F=>by
  obtain⟨L,h1⟩:=C j id F
  exact⟨L,h1,by simp [ls,F,h1]⟩
 have Q:wS ρ loc (look ls):=by
  subst K
  refine wS.mk' (P:=P) (S:=S) (w:=w) (fun id g H=>h.boxes id g (G id g H)) (fun id k L hp C=>?_)
  obtain⟨N,h1,D⟩:=q k id (wy hp)
  rw [C]at h1
  cases h1
  rw [sk]
  exact D
 refine⟨ls,by simp [ls],q,Q,h.mem.ren Q (fun k T hk=>?_) (fun k N hk=>?_)⟩
 ·rw [sk]at hk
  have u:k<ids.length:=by rw [<-J];exact(List.getElem?_eq_some_iff.1 hk).1
  have hid:=zf u
  obtain⟨g,h1,B⟩:=I k _ hid
  rw [D k _ g hid B]at hk
  cases hk
  refine⟨ids[k],g,_,by rw [K];exact xq O hid,h1,rfl,fun L C=>?_⟩
  obtain⟨N,B,E⟩:=q k _ hid
  rw [C]at B
  cases B
  rw [sk]
  exact E
 ·rw [sk]at hk
  have u:k<ids.length:=by have:=(List.getElem?_eq_some_iff.1 hk).1;simpa [ls]using this
  have hid:=zf u
  obtain⟨L,B,E⟩:=q k _ hid
  obtain⟨g,_,U⟩:=I k _ hid
  rw [hk]at E
  cases E
  exact⟨⟨_,by rw [sk];exact D k _ g hid U⟩,ids[k],L,_,by rw [K];exact xq O hid,B,rfl⟩
theorem Sim.C3(h:Sim P X S loc s tm w){ids news:List Nat}{K:List Box}{ls a6:List Loc}{off:Nat->Nat}{r:RV}{v:Value}{w':World}{S':rC}{σ:Ren}(hn:ids.Nodup)
  (hlen:ls.length=ids.length) (b3:∀(j:Nat)id,ids[j]? =some id->∃L,loc id=some L∧ls[j]? =some (rK (fun _=>0) L))
  (O:∀(j:Nat)id ver e sz hdr L,ids[j]? =some id->loc id=some L->L.Row ver e sz hdr->off j=ver)
  (b1:∀i∈news,s.boxes i=none) (c5:news.Nodup) (c2:(ids++news).length=K.length)
  (hσ:σ=⟨look (ids++news),sD (look K) fun k cur=>off k+cur⟩) (I:zA P X.base.mono S w ls ids.length r K v w' S' a6):
  ∃f,Sim P X S' f (s.ups ((ids++news).zip (K.zipIdx.map fun x=>ui σ (fun cur=>off x.2+cur) x.1))) tm w'∧R S' f (tl σ r) v∧rF loc f:=by
 have hold:∀id∈ids,∃L,loc id=some L:=fun id hid=>by
  obtain⟨j,hj⟩:=EE hid
  obtain⟨L,h1,_⟩:=b3 j id hj
  exact⟨L,h1⟩
 have b0:(ids++news).Nodup:=by
  rw [List.nodup_append]
  refine⟨hn,c5,fun a I b C c3=>?_⟩
  subst c3
  obtain⟨L,h1⟩:=hold a I
  obtain⟨bx,B⟩:=h.dom a L h1
  rw [b1 a C]at B
  cases B
 let f:sf:=fun id=>match idxOf (ids++news) id with|some k=>(look a6 k).map (rK (off k+ ·))|none=>loc id
 have a9:∀k id,(ids++news)[k]? =some id->f id=(look a6 k).map (rK (off k+ ·)):=fun k id hk=>by
  simp only [f,xq b0 hk]
 have D:∀id,id∉ids++news->f id=loc id:=fun id hid=>by
  simp only [f]
  cases hi:idxOf (ids++news) id with
  |none=>rfl
  |some k=>exact(hid (DY (wy hi))).elim
 have hr:wS σ (look a6) f:=by
  subst hσ
  refine wS.mk' (P:=P) (S:=S') (w:=w') I.mem.boxes (fun k id L hp g=>?_)
  rw [sk]at hp
  rw [a9 k id hp,g]
  rfl
 have hblk:∀b∈zL ls,∃id∈ids,∃L,loc id=some L∧L.has b:=fun b C=>by
  obtain⟨k,L,h1,B⟩:=vV.1 C
  rw [sk]at h1
  have hk:k<ids.length:=by rw [<-hlen];exact(List.getElem?_eq_some_iff.1 h1).1
  obtain⟨H,N,q⟩:=b3 k _ (zf hk)
  rw [h1]at q
  cases q
  rw [uI]at B
  exact⟨_,List.getElem_mem hk,H,N,B⟩
 have Q:∀b∈zL ls,b∈X.B0∨X.w0.heap.size<=b:=fun b C=>by
  obtain⟨id,_,L,h1,B⟩:=hblk b C
  exact h.own id L b h1 B
 have hle:rF loc f:=fun id L g=>by
  by_cases hid:id∈ids++news
  rotate_left
  ·exact⟨L,by rw [D id hid];exact g,.same _⟩
  obtain⟨k,hk⟩:=EE hid
  have c4:k<ids.length:=by
   by_cases Y:k<ids.length
   ·exact Y
   ·rw [List.getElem?_append_right za]at hk
    obtain⟨bx,a5⟩:=h.dom id L g
    rw [b1 id (DY hk)]at a5
    cases a5
  have W:ids[k]? =some id:=by rwa [List.getElem?_append_left c4]at hk
  obtain⟨L0,h1,B⟩:=b3 k id W
  rw [g]at h1
  cases h1
  obtain⟨H,N,q⟩:=I.le k _ (by rw [sk];exact B)
  refine⟨rK (off k+ ·) H,by rw [a9 k id hk,N];rfl,?_⟩
  generalize hx:rK (fun _=>0) L=L1 at q
  cases q with
  |same=>
   subst hx
   cases L with
   |arr ver e sz hdr=>
    have:=O k id ver e sz hdr _ W g .arr
    simp only [rK,D2,this]
    exact .same _
   |nest ver e sz hdr bs=>
    have:=O k id ver e sz hdr _ W g .nest
    simp only [rK,D2,this]
    exact .same _
   |var b=>exact .same _
   |dead=>exact .same _
   |map b=>exact .same _
  |dead=>exact .dead _
  |arr Y=>
   cases L<;>simp only [rK,Loc.arr.injEq,reduceCtorEq]at hx
   rename_i ver e sz hdr
   have:=O k id ver e sz hdr _ W g .arr
   obtain⟨hx, -⟩:=hx
   exact .arr (show ver<off k+_ by omega)
  |nest Y=>
   cases L<;>simp only [rK,Loc.nest.injEq,reduceCtorEq]at hx
   rename_i ver e sz hdr bs
   have:=O k id ver e sz hdr _ W g .nest
   obtain⟨hx, -⟩:=hx
   exact .nest (show ver<off k+_ by omega)
  |held=>
   cases L<;>simp only [rK,Loc.nest.injEq,reduceCtorEq]at hx
   rename_i ver e sz hdr bs
   have:=O k id ver e sz hdr _ W g .nest
   obtain⟨rfl,rfl,rfl,rfl,rfl⟩:=hx
   simp only [rK,D2,this]
   exact .held
 have a5:∀k id,(ids++news)[k]? =some id->∃bx,K[k]? =some bx∧(s.ups ((ids++news).zip (K.zipIdx.map fun x=>ui σ (fun cur=>off x.2+cur) x.1))).boxes id=some (ui σ (fun cur=>off k+cur) bx):=fun k id hk=>by
  have Y:k<K.length:=by rw [<-c2];exact(List.getElem?_eq_some_iff.1 hk).1
  refine⟨K[k],zf Y,?_⟩
  refine C2 _ _ s b0 (by simp [c2]) k id _ hk ?_
  simp [Y]
 have c1:∀id,id∉ids++news->(s.ups ((ids++news).zip (K.zipIdx.map fun x=>ui σ (fun cur=>off x.2+cur) x.1))).boxes id=s.boxes id:=fun id hid=>CN _ _ s id hid
 have E:∀id L b,id∉ids++news->loc id=some L->L.has b->b<w.heap.size∧b∉zL ls:=fun id L b hid g C=>by
  refine⟨h.mem.lt g C,fun hm=>?_⟩
  obtain⟨G,h1,H,B,N⟩:=hblk b hm
  have:=h.inj id G L H b g B C N
  subst this
  exact hid (List.mem_append.2 (.inl h1))
 have F:∀id L b,id∈ids++news->f id=some L->L.has b->∃k H,look a6 k=some H∧H.has b∧(ids++news)[k]? =some id∧(b∈zL ls∨w.heap.size<=b):=fun id L b hid g C=>by
  obtain⟨k,hk⟩:=EE hid
  rw [a9 k id hk,Option.map_eq_some_iff]at g
  obtain⟨H,h1,rfl⟩:=g
  rw [uI]at C
  exact⟨k,H,h1,C,hk,I.own k H b h1 C⟩
 refine⟨f,⟨h.nt,?_,?_,?_,I.mem.imm,I.mem.vA,?_,?_,?_,h.frame.trans I.frame Q,h.s0.trans I.sub,?_,?_,h.bs.trans I.sub,fun x hx=>?_⟩,R.tl hr I.res,hle⟩
 rotate_right
 ·obtain⟨h1,o,v,B⟩:=h.ob x hx
  refine⟨?_,o,v,B⟩
  rw [<-h1]
  refine I.frame.block _ (Array.getElem?_eq_some_iff.1 h1).1 fun hm=>?_
  obtain⟨id,_,L,N,q⟩:=hblk _ hm
  have h5:=h.uC id L x.1 N q o
  rw [h.bs _ _ B]at h5
  cases h5
 ·intro t rv ht
  rw [tY]at ht
  obtain⟨u,h1,B⟩:=h.rJ t rv ht
  exact⟨u,h1,B.mono I.sub hle⟩
 ·intro id bx C
  by_cases hid:id∈ids++news
  ·obtain⟨k,hk⟩:=EE hid
   obtain⟨b5,h1,B⟩:=a5 k id hk
   rw [B]at C
   cases C
   obtain⟨L,N,q⟩:=I.mem.boxes k b5 (by rw [sk];exact h1)
   exact⟨rK (off k+ ·) L,by rw [a9 k id hk,N];rfl,u9.ren hr _ q⟩
  ·rw [c1 id hid]at C
   obtain⟨L,h1,B⟩:=h.boxes id bx C
   refine⟨L,by rw [D id hid];exact h1,B.dE I.sub hle fun b U=>?_⟩
   obtain⟨N,q⟩:=E id L b hid h1 U
   exact I.frame.block b N q
 ·intro id L g
  by_cases hid:id∈ids++news
  ·obtain⟨k,hk⟩:=EE hid
   obtain⟨b5,_,B⟩:=a5 k id hk
   exact⟨_,B⟩
  ·rw [D id hid]at g
   rw [c1 id hid]
   exact h.dom id L g
 ·intro id L b g C o
  by_cases hid:id∈ids++news
  ·obtain⟨k,H,h1,B,_⟩:=F id L b hid g C
   exact I.mem.uC k H b h1 B o
  ·rw [D id hid]at g
   obtain⟨N,q⟩:=E id L b hid g C
   cases hS:S' ⟨b,o,none⟩with
   |none=>rfl
   |some u=>
    rcases I.xz _ u hS with h5|h5|h5
    ·rw [h.uC id L b g C o]at h5;cases h5
    ·simp only at h5;omega
    ·exact(q h5).elim
 ·intro id G L H b g T C U
  by_cases hid:id∈ids++news
  ·obtain⟨k,L1,h1,B,N,q⟩:=F id L b hid g C
   by_cases J:G∈ids++news
   ·obtain⟨k',b4,b6,c0,b2,_⟩:=F G H b J T U
    have:=I.mem.inj k k' L1 b4 b h1 b6 B c0
    subst this
    rw [N]at b2
    exact E9 b2
   ·rw [D G J]at T
    obtain⟨h5,h6⟩:=E G H b J T U
    rcases q with q|q
    ·exact(h6 q).elim
    ·omega
  ·rw [D id hid]at g
   obtain⟨h5,h6⟩:=E id L b hid g C
   by_cases J:G∈ids++news
   ·obtain⟨k',b4,b6,c0,b2,q⟩:=F G H b J T U
    rcases q with q|q
    ·exact(h6 q).elim
    ·omega
   ·rw [D G J]at T
    exact h.inj id G L H b g T C U
 ·intro id L b g C
  by_cases hid:id∈ids++news
  ·obtain⟨k,L1,h1,B,N,q⟩:=F id L b hid g C
   rcases q with q|q
   ·exact Q b q
   ·exact .inr (DM h.frame.size q)
  ·rw [D id hid]at g
   exact h.own id L b g C
 ·intro k L0 hk
  obtain⟨L,h1,B⟩:=h.par k L0 hk
  obtain⟨H,N,q⟩:=hle k L h1
  exact⟨H,N,rP.trans B q⟩
 ·intro ad u hu
  rcases I.xz ad u hu with h1|h1|h1
  ·exact h.xz ad u h1
  ·exact .inr (.inl (DM h.frame.size h1))
  ·exact .inr ((Q _ h1).symm)
theorem R.zg{S':rC}{loc':sf}{r:RV}{v:Value}(hf:zg r=true)(h:R S loc r v):R S' loc' r v:=by
 have hp:∀{p:PD}{v:Value},flatP p=true->V S p v->V S' p v:=by
  intro p v hf h
  cases h with
  |bool=>exact .bool _
  |int=>exact .int _ _
  |str=>exact .str _
  |_=>cases hf
 cases r with
 |d p=>
  cases h with
  |d h=>
  cases h with
  |bool=>exact .d (.bool _)
  |int=>exact .d (.int _ _)
  |str=>exact .d (.str _)
  |agg cs vs hl h=>
   simp only [Dw.zg,List.all_eq_true]at hf
   exact .d (.agg cs vs hl fun i p v h1 f=>hp (hf p (DY h1)) (h i p v h1 f))
  |_=>cases hf
 |err b=>
  cases h with
  |err=>exact .err _ _
  |noerr=>exact .noerr
 |_=>cases hf
theorem R.flatR{S':rC}{loc':sf}{σ:Ren}{r:RV}{v:Value}(hf:flatV r=true)(h:R S loc (Dw.tl σ r) v):R S' loc' (Dw.tl σ r) v:=by
 cases r with
 |tup cs=>
  have h1:Dw.tl σ (.tup cs)= .tup cs:=by
   simp only [Dw.tl,RV.tup.injEq]
   refine(List.map_congr_left fun c hc=>?_).trans (List.map_id _)
   have:=List.all_eq_true.1 hf c hc
   cases c<;>first|rfl|cases this
  rw [h1]at h⊢
  cases h with
  |tup cs vs hl h=>exact .tup cs vs hl fun i c v f g=>(h i c v f g).zg (List.all_eq_true.1 hf c (DY f))
 |d p=>exact R.zg (r:= .d p) hf h
 |err b=>exact R.zg (r:= .err b) hf h
 |_=>cases hf
theorem Sim.frame0(h:Sim P X S loc s tm w){w':World}{j:List Nat}(f:j=[])(hs:Frame X.base.mono j w w'):Sim P X S loc s tm w':=by
 subst f
 refine⟨h.nt,h.rJ,?_,h.dom,?_,h.vA,h.uC,h.inj,h.own,h.frame.trans hs (fun b f=>by cases f),h.s0,h.par,h.xz,h.bs,fun x g=>⟨by rw [<-(h.ob x g).1];exact hs.block _ (Array.getElem?_eq_some_iff.1 (h.ob x g).1).1 zc,(h.ob x g).2⟩⟩
 ·intro i q f
  obtain⟨L,h1,k⟩:=h.boxes i q f
  exact⟨L,h1,k.dE (Sub.refl S) (rF.refl loc) (fun b f=>hs.block b (k.uL f) zc)⟩
 ·intro ad v r
  have hc:=h.imm ad v r
  rw [<-hc]
  exact tS (hs.block ad.block (World.block_lt_of_cell? w ad hc) zc)
theorem uN{by_:FuncId->Nat->Bool}{call:rA}(J:ue P X.base call){o:Oper}{a:Act}(h:Sim P X S loc s a.tmps w)(hd:a.defers=[])(D:∀d,o.dst=some d->d<X.nt){f:FuncId}{base:Nat}{args:List RV}{v:RV}{u:Ups}{r:List Nat}
  (hl:tQ by_ call f base args s.boxes=some ((v,u),r,true)) {vs:Array Value} (hlen:args.length=vs.size) (H:∀(i:Nat)x y,args[i]? =some x->vs[i]? =some y->R S loc x y)
  (Y:(execOp a.eval o).run P w=(callFunc f vs).run P w):wa P X ((s.ups u).put o.dst v) o a w:=by
 obtain⟨⟨as,u0⟩,r1,r2,h1,h2,_⟩:=M.bind_some hl
 obtain⟨ids,r3,r4,h3,h4,_⟩:=M.bind_some h2
 obtain⟨g,r5,r6,h5,W,_⟩:=M.bind_some h4
 rcases hc:call f (as.map (tl (uO ids g))) (g.map (ui (uO ids g) fun _=>0))with _|⟨res,F⟩
 ·simp only [hc]at W;exact fE s.boxes W
 simp only [hc]at W
 split at W
 rotate_left
 ·exact fE s.boxes W
 rename_i N
 obtain⟨c7,b5,b6⟩:=N
 obtain⟨_,r7,r8,h7,h8,_⟩:=M.bind_some W
 obtain⟨h9, -, -⟩:=M.qw h8
 cases h9
 have hn:=xQ b5
 obtain⟨a1,a2,a3,a4⟩:=zD h1
 obtain⟨g1,g2⟩:=xK h5
 obtain⟨S1,b1,q,a5,hle,c1⟩:=h.wo u0 a1 (fun x hx=>.inl (a2 x hx))
 have O:∀id∈ids,(s.ups u0).boxes id=s.boxes id:=fun id hid=>tB _ _ _ (xl b6 id hid)
 have hg:∀(j:Nat)id,ids[j]? =some id->∃G,(s.ups u0).boxes id=some G∧g[j]? =some G:=fun j id hj=>by
  obtain⟨G,k1,k2⟩:=g2 j id hj
  exact⟨G,by rw [O id (DY hj)];exact k1,k2⟩
 obtain ⟨ls, q1, q2, q3, q4⟩ := BX q (f := fun _ _ => 0) (b := fun i => (idxOf ids i).bind (look g)) (ρ := (uO ids g)) (bs2 := g.map (ui (uO ids g) fun _ => 0)) hn g1 hg (fun id G hb => by
   rw [Option.bind_eq_some_iff]at hb
   obtain⟨k,m1,m2⟩:=hb
   obtain⟨c5,m3,m4⟩:=hg k id (wy m1)
   rw [sk,m4]at m2
   cases m2
   exact m3) rfl (by simp [g1]) (fun k id G hk b4=>by rw [ED,b4];rfl)
 have c3 := J f _ _ res F hc S1 w ls vs q4 (by rw [q1, Ea, g1]) q.bs q.ob (by rw [Ea, a3]; exact hlen) (fun i x y hx hy => by
  rw [ED,Option.map_eq_some_iff]at hx
  obtain⟨x0,a9,rfl⟩:=hx
  have hi:i<args.length:=by rw [<-a3];exact(List.getElem?_eq_some_iff.1 a9).1
  exact R.tl q3 (a4 S loc S1 b1 a5 hle c1 i args[i] x0 y (zf hi) a9 (H i _ y (zf hi) hy)))
 intro K Q hK
 unfold Oper.wp
 rw [Y]
 suffices tail:∀rv w',(∃S' b3,zA P X.base.mono S1 w ls (g.map (ui (uO ids g) fun _=>0)).length res F rv w' S' b3)->K (a.put o.dst rv) w' by
  rcases c3 with⟨⟨fn,c0,T,I⟩,B⟩|⟨rv,w',E,hR⟩
  ·have U:(callFunc f vs).run P w= .ok (.enter f vs) w:=by
    have : (fn.name == "runtime.NumGoroutine") = false := by simpa using T
    simp only [callFunc,Sem.run_bind,run_program,Result.andThen_ok,c0,this,I,Dr,if_false,Sem.run_pure]
   rw [U,Oper.upon_enter]
   refine B.mono fun e w' he=>?_
   obtain⟨rv,rfl,he⟩:=he
   exact tail rv w' he
  ·rw [E,Oper.upon_value]
   exact tail rv w' hR
 intro rv w' he
 obtain⟨S',b3,ha⟩:=he
 rw [Ea,g1]at ha
 have a6:=xE h7
 obtain ⟨b2, k1, k2, _⟩ := q.C3 (off := offOf g) hn q1 q2 (fun j id ver e sz hdr L hj hL E => by
   obtain⟨G,m1,m2⟩:=hg j id hj
   have:=q.tA m1 hL
   simp only [offOf,sk,m2]
   cases this with
   |arr=>cases E;rfl
   |nest=>cases E;rfl
   |dead _ hd=>subst hd;cases E
   |var=>cases E
   |map=>cases E
   |hole=>cases E;rfl)
  (fun i hi => by
   have hv:=a6 i hi
   rw [tB _ _ _ fun hm=>?_]
   ·exact hv
   ·obtain⟨y,hy,c4⟩:=List.mem_map.1 hm
    obtain⟨ver,e,es,b0⟩:=a2 y hy
    rw [c4,hv]at b0
    cases b0)
  (by
   unfold tI
   rw [List.nodup_iff_pairwise_ne,List.pairwise_map]
   exact List.pairwise_lt_range.imp fun{a b}c6=>za)
  (by simp [tI];omega) rfl ha
 by_cases C:(ids.isEmpty&&(F.isEmpty&&flatV res))=true
 ·refine hK _ _ ⟨by cases o.dst<;>exact hd,S,loc,?_⟩
  rw [zN,if_pos C]
  simp only [D6,List.isEmpty_iff]at C
  obtain⟨e1,e2,e3⟩:=C
  subst e1
  have c2:ls=[]:=List.eq_nil_of_length_eq_zero q1
  subst c2
  exact(h.frame0 rfl ha.frame).put (a:=a) (k2.flatR e3) o.dst D
 refine hK _ _ ⟨by cases o.dst<;>exact hd,S',b2,?_⟩
 rw [zN,if_neg C,vz]
 exact k1.put (a:=a) k2 o.dst D
end
end Go.Dw
