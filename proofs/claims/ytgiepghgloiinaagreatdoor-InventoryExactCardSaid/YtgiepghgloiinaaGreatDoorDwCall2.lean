
import Derived.Test.YtgiepghgloiinaaGreatDoorDwRen
set_option linter.unusedVariables false
set_option linter.unusedSimpArgs false
open List renaming getElem?_cons_succ->AT, getElem?_cons_zero->AU, getElem?_map->Av, getElem?_of_mem->Aw, length_map->B7, mem_of_getElem?->A1, nodup_cons->B8, of_mem_zip->B9
open Bool renaming and_eq_true->Ac, false_eq_true->Aj
open Option.some renaming inj->BT, injEq->AD
open Nat renaming add_zero->A7, le_trans->AO

namespace Go.Dw
def Loc.blocks:Loc->List Nat
 | .nest _ _ _ hdr bs=>(ku hdr).toList++bs
 | .mapn b bs=>b::bs
 |L=>L.block.toList
theorem tj{L:Loc}{b:Nat}:b∈L.blocks↔L.has b:=by
 cases L<;>simp [Loc.blocks,Loc.has,Loc.block,eq_comm]
def su(ls:List Loc):List Nat:=ls.flatMap Loc.blocks
theorem kP{α:Type}:∀(l:List α)(i:Nat),look l i=l[i]?
 | [],_=>rfl
 |a::r,0=>rfl
 |a::r,n+1=>by rw [look,kP r n];rfl
theorem qd{ls:List Loc}{b:Nat}:b∈su ls↔∃k L,look ls k=some L∧L.has b:=by
 unfold su
 rw [List.mem_flatMap]
 constructor
 ·rintro⟨L,a,hb⟩
  obtain⟨k,hk⟩:=Aw a
  exact⟨k,L,by rw [kP];exact hk,tj.1 hb⟩
 ·rintro⟨k,L,hk,hb⟩
  rw [kP]at hk
  exact⟨L,A1 hk,tj.2 hb⟩
def Enters (P : Program) (f : FuncId) : Prop := ∃ fn, P.funcs[f]? = some fn ∧ fn.name ≠ "runtime.NumGoroutine" ∧ fn.body.isNone = false
def ur(P:Program)(f:FuncId)(vs:Array Value)(w:World)(R:Value->World->Prop):Prop:=
 (Enters P f∧Calls P f vs w fun e w'=>∃v,e= .returned v∧R v w')∨(∃v w',(callFunc f vs).run P w= .ok (.value v) w'∧R v w')
structure sg(P:Program)(E:Prop)(S:kd)(w:World)(ls:List Loc)(n:Nat)(r:RV)(bs':List Box)(v:Value)(w':World)(S':kd)(ls':List Loc):Prop where
 len:ls'.length=bs'.length
 more:n<=bs'.length
 sub:Sub S S'
 mem:Mem P S' (look ls') (look bs') w'
 oU:∀ad v,S' ad=some v->S ad=some v∨w.heap.size<=ad.block∨ad.block∈su ls
 le:kb (look ls) (look ls')
 own:∀k L b,look ls' k=some L->L.has b->b∈su ls∨w.heap.size<=b
 frame:Frame E (su ls) w w'
 res:R S' (look ls') r v
def nj(P:Program)(base:qc)(f:FuncId)(args:List RV)(bs:List Box)(r:RV)(b:List Box):Prop:=
 ∀(S:kd)(w:World)(ls:List Loc)(vs:Array Value),Mem P S (look ls) (look bs) w->ls.length=bs.length->Sub base.snap S->(∀x∈base.objs,w.heap[x.1]? =some x.2∧∃o v,base.snap ⟨x.1,o,none⟩=some v)->
  args.length=vs.size->(∀(i:Nat)a v,args[i]? =some a->vs[i]? =some v->R S (look ls) a v)->
  ur P f vs w fun v w'=>∃S' c,sg P base.mono S w ls bs.length r b v w' S' c
def mj(P:Program)(base:qc)(call:ko):Prop:=∀f args bs r a,call f args bs=some (r,a)->nj P base f args bs r a
section
variable {P:Program}{X:Ctx}{S:kd}{loc:kH}{s:St}{tm:Array Value}{w:World}
theorem xp{by_:Bool}{c x:RV}{b:kE}{u:Ups}{r:List Nat}(h:argD by_ c b=some ((x,u),r,true)):
  nq u∧(∀y∈u,∃ver e es,b y.1=some (.arr ver e es))∧
  ∀S loc S' loc' v,Sub S S'->kb loc loc'->(∀y∈u,Frz b S loc S' y.1)->R S loc c v->R S' loc' x v:=by
 have same:∀{r:List Nat},M.pure (c,([]:Ups)) b=some ((x,u),r,true)->nq u∧(∀y∈u,∃ver e es,b y.1=some (.arr ver e es))∧
   ∀S loc S' loc' v,Sub S S'->kb loc loc'->(∀y∈u,Frz b S loc S' y.1)->R S loc c v->R S' loc' x v:=by
  intro r h
  obtain⟨h1, -, -⟩:=M.jv h
  cases h1
  exact⟨(fun y m=>by cases m),(fun y m=>by cases m),fun S loc S' loc' v l hl _ k=>k.mono l hl⟩
 have data:∀{r:List Nat}{p:PD}{u1:Ups},ni c b=some ((p,u1),r,true)->x= .d p->u=u1->nq u∧(∀y∈u,∃ver e es,b y.1=some (.arr ver e es))∧
   ∀S loc S' loc' v,Sub S S'->kb loc loc'->(∀y∈u,Frz b S loc S' y.1)->R S loc c v->R S' loc' x v:=by
  rintro r p u1 h rfl rfl
  obtain⟨a1,a2,a3⟩:=oh h
  exact⟨a1,a2,fun S loc S' loc' v l _ hf k=>.d (a3 S loc S' v k l hf)⟩
 have j6:(M.bind (ni c) fun(p,u)=>M.j6 c.sized ((RV.d p,u):RV×Ups)) b=some ((x,u),r,true)->nq u∧(∀y∈u,∃ver e es,b y.1=some (.arr ver e es))∧
   ∀S loc S' loc' v,Sub S S'->kb loc loc'->(∀y∈u,Frz b S loc S' y.1)->R S loc c v->R S' loc' x v:=by
  intro h
  obtain⟨⟨p,u1⟩,n,o,h1,i,_⟩:=M.bind_some h
  obtain⟨j, -, -⟩:=M.j0 i
  cases j
  exact data h1 rfl rfl
 have a:(if by_ then M.pure (c,([]:Ups))else M.bind (ni c) fun(p,u)=>M.pure ((RV.d p,u):RV×Ups)) b=some ((x,u),r,true)->nq u∧(∀y∈u,∃ver e es,b y.1=some (.arr ver e es))∧
   ∀S loc S' loc' v,Sub S S'->kb loc loc'->(∀y∈u,Frz b S loc S' y.1)->R S loc c v->R S' loc' x v:=by
  intro h
  cases by_ with
  |true=>exact same h
  |false=>
   simp only [Aj,if_false]at h
   obtain⟨⟨p,u1⟩,n,o,h1,i,_⟩:=M.bind_some h
   obtain⟨j, -, -⟩:=M.jv i
   cases j
   exact data h1 rfl rfl
 cases c with
 |ptr _ _=>exact same h
 |elt _ _ _ _=>exact same h
 |clo _ _=>exact same h
 |fview _ _ _=>exact j6 h
 |err _=>exact j6 h
 |dfull _=>exact j6 h
 |ifc _ _=>exact same h
 |plit _=>exact j6 h
 |rlit _=>exact j6 h
 |pcp _=>exact j6 h
 |ref _ _=>exact a h
 |view _ _ _ _=>exact a h
 |d _=>exact j6 h
 |undef=>exact j6 h
 |junk=>exact j6 h
 |jt=>
  by_cases g:by_=true
  ·subst g;exact same h
  ·have f:by_=false:=by cases by_<;>simp_all
   subst f
   exact j6 h
 |agg _=>
  by_cases g:by_=true
  ·subst g;exact same h
  ·have f:by_=false:=by cases by_<;>simp_all
   subst f
   exact j6 h
 |tup _=>exact j6 h
 |cptr _=>exact j6 h
theorem sl{by_:Nat->Bool}:∀{args:List RV}{i:Nat}{b:kE}{as:List RV}{u:Ups}{r:List Nat},pD by_ i args b=some ((as,u),r,true)->
  nq u∧(∀x∈u,∃ver e es,b x.1=some (.arr ver e es))∧as.length=args.length∧
  ∀S loc S' loc',Sub S S'->kb loc loc'->(∀x∈u,Frz b S loc S' x.1)->
   ∀(i:Nat)x a v,args[i]? =some x->as[i]? =some a->R S loc x v->R S' loc' a v
 | [],i,b,as,u,r,h=>by
  obtain⟨h1, -, -⟩:=M.jv (b:=b) h
  cases h1
  exact⟨(fun x f=>by cases f),(fun x f=>by cases f),rfl,fun S loc S' loc' _ _ _ i x a v f=>by simp at f⟩
 |c::cs,i,b,as,u,r,h=>by
  obtain⟨⟨x,u1⟩,F,G,h1,B,_⟩:=M.bind_some h
  obtain⟨⟨l,u2⟩,H,I,C,D,_⟩:=M.bind_some B
  obtain⟨E, -, -⟩:=M.jv D
  cases E
  obtain⟨a1,a2,a3⟩:=xp h1
  obtain⟨p,q,t,z⟩:=sl C
  refine⟨fun x f=>(List.mem_append.1 f).elim (a1 x) (p x),fun x f=>(List.mem_append.1 f).elim (a2 x) (q x),by simp [t],?_⟩
  intro S loc S' loc' n hl o j y a v k g m
  cases j with
  |zero=>
   simp only [AU,AD]at k g
   subst k;subst g
   exact a3 S loc S' loc' v n hl (fun x f=>o x (List.mem_append.2 (.inl f))) m
  |succ j=>
   simp only [AT]at k g
   exact z S loc S' loc' n hl (fun x f=>o x (List.mem_append.2 (.inr f))) j y a v k g m
theorem pR:∀{ids:List Nat}{b:kE}{l:List Box}{r:List Nat},pH ids b=some (l,r,true)->
  l.length=ids.length∧∀(j:Nat)id,ids[j]? =some id->∃c,b id=some c∧l[j]? =some c
 | [],b,l,r,h=>by
  obtain⟨h1, -, -⟩:=M.jv (b:=b) h
  subst h1
  exact⟨rfl,fun j id a=>by simp at a⟩
 |i::ids,b,l,r,h=>by
  obtain⟨c,n,o,h1,e,_⟩:=M.bind_some h
  obtain⟨hb,_,_⟩:=M.get_some h1
  obtain⟨m,p,q,f,g,_⟩:=M.bind_some e
  obtain⟨k, -, -⟩:=M.jv g
  subst k
  obtain⟨g1,g2⟩:=pR f
  refine⟨by simp [g1],fun j id a=>?_⟩
  cases j with
  |zero=>simp only [AU,AD]at a;subst a;exact⟨c,hb,rfl⟩
  |succ j=>simp only [AT]at a⊢;exact g2 j id a
theorem pL:∀{ids:List Nat}{b:kE}{x:Unit}{r:List Nat},mH ids b=some (x,r,true)->∀i∈ids,b i=none
 | [],b,x,r,_=>fun i hi=>by cases hi
 |i::ids,b,x,r,h=>by
  obtain⟨_,e,f,h1,c,_⟩:=M.bind_some h
  obtain⟨hb,_,_⟩:=M.kQ h1
  intro j a
  rcases List.mem_cons.1 a with rfl|a
  ·exact hb
  ·exact pL c j a
theorem pV:∀{l:List Nat},nodup l=true->l.Nodup
 | [],_=>List.nodup_nil
 |a::r,h=>by
  simp only [nodup,Ac,Bool.not_eq_true']at h
  refine List.nodup_cons.2 ⟨?_,pV h.2⟩
  intro hm
  have:=h.1
  simp [hm]at this
theorem pn{a b:List Nat}(h:disj a b=true):∀x∈a,x∉b:=fun x c hb=>by
 have:=List.all_eq_true.1 h x c
 simp [hb]at this
theorem ou:∀{l:List Nat}{id k:Nat},idxOf l id=some k->l[k]? =some id
 | [],id,k,h=>by simp [idxOf]at h
 |a::r,id,k,h=>by
  simp only [idxOf]at h
  split at h
  ·rename_i c;cases h;subst c;rfl
  ·cases b:idxOf r id with
   |none=>simp [b]at h
   |some j=>simp only [b,Option.map_some,AD]at h;subst h;simpa using ou b
theorem pw:∀{l:List Nat}{id k:Nat},l.Nodup->l[k]? =some id->idxOf l id=some k
 | [],id,k,_,h=>by simp at h
 |a::r,id,k,b,h=>by
  rw [B8]at b
  cases k with
  |zero=>simp only [AU,AD]at h;subst h;simp [idxOf]
  |succ k=>
   simp only [AT]at h
   have c:id≠a:=fun e=>b.1 (by subst e;exact A1 h)
   simp [idxOf,c,pw b.2 h]
theorem xn:∀(ids:List Nat)(bs:List Box)(s:St),ids.Nodup->bs.length=ids.length->∀(j:Nat)id a,ids[j]? =some id->bs[j]? =some a->(s.ups (ids.zip bs)).boxes id=some a
 | [],bs,s,_,_,j,id,a,c,_=>by simp at c
 |i::ids,[],s,_,hl,j,id,a,_,_=>by simp at hl
 |i::ids,b::bs,s,e,hl,j,id,a,c,hb=>by
  rw [B8]at e
  simp only [List.length_cons]at hl
  rw [List.zip_cons_cons,lI]
  cases j with
  |zero=>
   simp only [AU,AD]at c hb
   subst c;subst hb
   rw [lL _ _ _ (fun hm => e.1 (by
    obtain⟨x,g,f⟩:=List.mem_map.1 hm
    rw [<-f]
    exact(B9 g).1))]
   exact jQ _ _ _
  |succ j=>
   simp only [AT]at c hb
   exact xn ids bs _ e.2 om j id a c hb
theorem xa(ids:List Nat)(bs:List Box)(s:St)(id:Nat)(h:id∉ids):(s.ups (ids.zip bs)).boxes id=s.boxes id:=by
 refine lL _ _ _ fun hm=>h ?_
 obtain⟨x,b,a⟩:=List.mem_map.1 hm
 rw [<-a]
 exact(B9 b).1
theorem Frame.trans{E:Prop}{B0 c:List Nat}{w0 w w':World}(h:Frame E B0 w0 w)(a:Frame E c w w')(hb:∀b∈c,b∈B0∨w0.heap.size<=b):Frame E B0 w0 w':=
 ⟨a.os.trans h.os, a.tape.trans h.tape, a.output.trans h.output, AO h.size a.size, fun b e f => by
  rw [a.block b (Nat.lt_of_lt_of_le e h.size) ?_]
  ·exact h.block b e f
  ·intro hm
   rcases hb b hm with h1|h1
   ·exact f h1
   ·omega,fun he=>AO (h.drawn he) (a.drawn he)⟩
end
end Go.Dw
namespace Go.Dw
section
variable {P:Program}{X:Ctx}{S:kd}{loc:kH}{s:St}{tm:Array Value}{w:World}
theorem wa(h:Sim P X S loc s tm w){ids:List Nat}{e bs2:List Box}{b:kE}{f:Nat->Nat->Nat}{ρ:Ren}(v:ids.Nodup)(hlen:e.length=ids.length)(q:∀(j:Nat)id,ids[j]? =some id->∃a,s.boxes id=some a∧e[j]? =some a)
  (hb:∀id a,b id=some a->s.boxes id=some a) (t:ρ=⟨idxOf ids,ll b f⟩) (r:bs2.length=ids.length) (m:∀(k:Nat)id a,ids[k]? =some id->e[k]? =some a->bs2[k]? =some (mI ρ (f id) a)):
  ∃ls:List Loc,ls.length=ids.length∧(∀(j:Nat)id,ids[j]? =some id->∃L,loc id=some L∧ls[j]? =some (ks (f id) L))∧oW ρ loc (look ls)∧Mem P S (look ls) (look bs2) w:=by
 have l:∀(j:Nat)id,ids[j]? =some id->∃L,loc id=some L:=fun j id o=>by
  obtain⟨a,hb,_⟩:=q j id o
  obtain⟨L,h1,_⟩:=h.boxes id a hb
  exact⟨L,h1⟩
 let ls:List Loc:=ids.map fun id=>match loc id with|some L=>ks (f id) L|none=>.dead
 have c:∀(j:Nat)id,ids[j]? =some id->∃L,loc id=some L∧ls[j]? =some (ks (f id) L):=fun j id o=>by
  obtain⟨L,h1⟩:=l j id o
  exact⟨L,h1,by simp [ls,o,h1]⟩
 have x:oW ρ loc (look ls):=by
  subst t
  refine oW.mk' (P:=P) (S:=S) (w:=w) (fun id a p=>h.boxes id a (hb id a p)) (fun id k L B l=>?_)
  obtain⟨u,h1,m⟩:=c k id (ou B)
  rw [l]at h1
  cases h1
  rw [kP]
  exact m
 refine⟨ls,by simp [ls],c,x,h.mem.ren x (fun k y hk=>?_) (fun k u hk=>?_)⟩
 ·rw [kP]at hk
  have g:k<ids.length:=by rw [<-r];exact(List.getElem?_eq_some_iff.1 hk).1
  have hid:=zc g
  obtain⟨a,h1,i⟩:=q k _ hid
  rw [m k _ a hid i]at hk
  cases hk
  refine⟨ids[k],a,_,by rw [t];exact pw v hid,h1,rfl,fun L l=>?_⟩
  obtain⟨u,i,n⟩:=c k _ hid
  rw [l]at i
  cases i
  rw [kP]
  exact n
 ·rw [kP]at hk
  have g:k<ids.length:=by have:=(List.getElem?_eq_some_iff.1 hk).1;simpa [ls]using this
  have hid:=zc g
  obtain⟨L,i,n⟩:=c k _ hid
  obtain⟨a,_,z⟩:=q k _ hid
  rw [hk]at n
  cases n
  exact⟨⟨_,by rw [kP];exact m k _ a hid z⟩,ids[k],L,_,by rw [t];exact pw v hid,i,rfl⟩
theorem Sim.xo(h:Sim P X S loc s tm w){ids news:List Nat}{D:List Box}{ls Q:List Loc}{off:Nat->Nat}{r:RV}{v:Value}{w':World}{S':kd}{σ:Ren}(hn:ids.Nodup)
  (hlen:ls.length=ids.length) (a4:∀(j:Nat)id,ids[j]? =some id->∃L,loc id=some L∧ls[j]? =some (ks (fun _=>0) L))
  (C:∀(j:Nat)id ver e sz hdr L,ids[j]? =some id->loc id=some L->L.Row ver e sz hdr->off j=ver)
  (W:∀i∈news,s.boxes i=none) (c0:news.Nodup) (b3:(ids++news).length=D.length)
  (hσ:σ=⟨look (ids++news),ll (look D) fun k cur=>off k+cur⟩) (z:sg P X.base.mono S w ls ids.length r D v w' S' Q):
  ∃c,Sim P X S' c (s.ups ((ids++news).zip (D.zipIdx.map fun x=>mI σ (fun cur=>off x.2+cur) x.1))) tm w'∧R S' c (lK σ r) v∧kb loc c:=by
 have hold:∀id∈ids,∃L,loc id=some L:=fun id hid=>by
  obtain⟨j,hj⟩:=Aw hid
  obtain⟨L,h1,_⟩:=a4 j id hj
  exact⟨L,h1⟩
 have U:(ids++news).Nodup:=by
  rw [List.nodup_append]
  refine⟨hn,c0,fun a z b hb b4=>?_⟩
  subst b4
  obtain⟨L,h1⟩:=hold a z
  obtain⟨bx,l⟩:=h.dom a L h1
  rw [W a hb]at l
  cases l
 let c:kH:=fun id=>match idxOf (ids++news) id with|some k=>(look Q k).map (ks (off k+ ·))|none=>loc id
 have T:∀k id,(ids++news)[k]? =some id->c id=(look Q k).map (ks (off k+ ·)):=fun k id hk=>by
  simp only [c,pw U hk]
 have m:∀id,id∉ids++news->c id=loc id:=fun id hid=>by
  simp only [c]
  cases hi:idxOf (ids++news) id with
  |none=>rfl
  |some k=>exact(hid (A1 (ou hi))).elim
 have hr:oW σ (look Q) c:=by
  subst hσ
  refine oW.mk' (P:=P) (S:=S') (w:=w') z.mem.boxes (fun k id L hp f=>?_)
  rw [kP]at hp
  rw [T k id hp,f]
  rfl
 have hblk:∀b∈su ls,∃id∈ids,∃L,loc id=some L∧L.has b:=fun b hb=>by
  obtain⟨k,L,h1,l⟩:=qd.1 hb
  rw [kP]at h1
  have hk:k<ids.length:=by rw [<-hlen];exact(List.getElem?_eq_some_iff.1 h1).1
  obtain⟨y,E,g⟩:=a4 k _ (zc hk)
  rw [h1]at g
  cases g
  rw [mT]at l
  exact⟨_,List.getElem_mem hk,y,E,l⟩
 have H:∀b∈su ls,b∈X.B0∨X.w0.heap.size<=b:=fun b hb=>by
  obtain⟨id,_,L,h1,l⟩:=hblk b hb
  exact h.own id L b h1 l
 have hle:kb loc c:=fun id L f=>by
  by_cases hid:id∈ids++news
  rotate_left
  ·exact⟨L,by rw [m id hid];exact f,.same _⟩
  obtain⟨k,hk⟩:=Aw hid
  have b5:k<ids.length:=by
   by_cases F:k<ids.length
   ·exact F
   ·rw [List.getElem?_append_right om]at hk
    obtain⟨bx,O⟩:=h.dom id L f
    rw [W id (A1 hk)]at O
    cases O
  have I:ids[k]? =some id:=by rwa [List.getElem?_append_left b5]at hk
  obtain⟨L0,h1,l⟩:=a4 k id I
  rw [f]at h1
  cases h1
  obtain⟨y,E,g⟩:=z.le k _ (by rw [kP];exact l)
  refine⟨ks (off k+ ·) y,by rw [T k id hk,E];rfl,?_⟩
  generalize G:ks (fun _=>0) L=L1 at g
  cases g with
  |same=>
   subst G
   cases L with
   |arr ver e sz hdr=>
    have:=C k id ver e sz hdr _ I f .arr
    simp only [ks,A7,this]
    exact .same _
   |nest ver e sz hdr bs=>
    have:=C k id ver e sz hdr _ I f .nest
    simp only [ks,A7,this]
    exact .same _
   |var b=>exact .same _
   |dead=>exact .same _
   |map b=>exact .same _
   |mapn b bs=>exact .same _
  |dead=>exact .dead _
  |arr F=>
   cases L<;>simp only [ks,Loc.arr.injEq,reduceCtorEq]at G
   rename_i ver e sz hdr
   have:=C k id ver e sz hdr _ I f .arr
   obtain⟨G, -⟩:=G
   exact .arr (show ver<off k+_ by omega)
  |nest F=>
   cases L<;>simp only [ks,Loc.nest.injEq,reduceCtorEq]at G
   rename_i ver e sz hdr bs
   have:=C k id ver e sz hdr _ I f .nest
   obtain⟨G, -⟩:=G
   exact .nest (show ver<off k+_ by omega)
  |held=>
   cases L<;>simp only [ks,Loc.nest.injEq,reduceCtorEq]at G
   rename_i ver e sz hdr bs
   have:=C k id ver e sz hdr _ I f .nest
   obtain⟨rfl,rfl,rfl,rfl,rfl⟩:=G
   simp only [ks,A7,this]
   exact .held
  |heldm=>
   cases L<;>simp only [ks,Loc.mapn.injEq,reduceCtorEq]at G
   obtain⟨rfl,rfl⟩:=G
   exact .heldm
  |frozen=>
   cases L<;>simp only [ks,Loc.mapn.injEq,reduceCtorEq]at G
   obtain⟨rfl,rfl⟩:=G
   exact .frozen
  |flat F=>
   cases L<;>simp only [ks,Loc.nest.injEq,reduceCtorEq]at G
   rename_i ver e sz hdr bs
   have:=C k id ver e sz hdr _ I f .nest
   obtain⟨rfl,rfl,rfl,rfl,rfl⟩:=G
   refine .flat ?_
   rcases F with F|⟨h1,l,E,g⟩
   ·exact .inl (by show ver<off k+_;omega)
   ·exact .inr ⟨by show ver=off k+_;omega,l,E,g⟩
 have O:∀k id,(ids++news)[k]? =some id->∃bx,D[k]? =some bx∧(s.ups ((ids++news).zip (D.zipIdx.map fun x=>mI σ (fun cur=>off x.2+cur) x.1))).boxes id=some (mI σ (fun cur=>off k+cur) bx):=fun k id hk=>by
  have F:k<D.length:=by rw [<-b3];exact(List.getElem?_eq_some_iff.1 hk).1
  refine⟨D[k],zc F,?_⟩
  refine xn _ _ s U (by simp [b3]) k id _ hk ?_
  simp [F]
 have b2:∀id,id∉ids++news->(s.ups ((ids++news).zip (D.zipIdx.map fun x=>mI σ (fun cur=>off x.2+cur) x.1))).boxes id=s.boxes id:=fun id hid=>xa _ _ s id hid
 have n:∀id L b,id∉ids++news->loc id=some L->L.has b->b<w.heap.size∧b∉su ls:=fun id L b hid f hb=>by
  refine⟨h.mem.lt f hb,fun hm=>?_⟩
  obtain⟨q,h1,y,l,E⟩:=hblk b hm
  have:=h.inj id q L y b f l hb E
  subst this
  exact hid (List.mem_append.2 (.inl h1))
 have p:∀id L b,id∈ids++news->c id=some L->L.has b->∃k y,look Q k=some y∧y.has b∧(ids++news)[k]? =some id∧(b∈su ls∨w.heap.size<=b):=fun id L b hid f hb=>by
  obtain⟨k,hk⟩:=Aw hid
  rw [T k id hk,Option.map_eq_some_iff]at f
  obtain⟨y,h1,rfl⟩:=f
  rw [mT]at hb
  exact⟨k,y,h1,hb,hk,z.own k y b h1 hb⟩
 refine⟨c,⟨h.nt,?_,?_,?_,z.mem.imm,z.mem.nA,?_,?_,?_,h.frame.trans z.frame H,h.s0.trans z.sub,?_,?_,h.bs.trans z.sub,fun x G=>?_⟩,R.lK hr z.res,hle⟩
 rotate_right
 ·obtain⟨h1,o,v,l⟩:=h.ob x G
  refine⟨?_,o,v,l⟩
  rw [<-h1]
  refine z.frame.block _ (Array.getElem?_eq_some_iff.1 h1).1 fun hm=>?_
  obtain⟨id,_,L,E,g⟩:=hblk _ hm
  have N:=h.mr id L x.1 E g o
  rw [h.bs _ _ l]at N
  cases N
 ·intro t rv ht
  rw [me]at ht
  obtain⟨u,h1,l⟩:=h.kr t rv ht
  exact⟨u,h1,l.mono z.sub hle⟩
 ·intro id bx hb
  by_cases hid:id∈ids++news
  ·obtain⟨k,hk⟩:=Aw hid
   obtain⟨a9,h1,l⟩:=O k id hk
   rw [l]at hb
   cases hb
   obtain⟨L,E,g⟩:=z.mem.boxes k a9 (by rw [kP];exact h1)
   exact⟨ks (off k+ ·) L,by rw [T k id hk,E];rfl,mu.ren hr _ g⟩
  ·rw [b2 id hid]at hb
   obtain⟨L,h1,l⟩:=h.boxes id bx hb
   refine⟨L,by rw [m id hid];exact h1,l.fN z.sub hle fun b K=>?_⟩
   obtain⟨E,g⟩:=n id L b hid h1 K
   exact z.frame.block b E g
 ·intro id L f
  by_cases hid:id∈ids++news
  ·obtain⟨k,hk⟩:=Aw hid
   obtain⟨a9,_,l⟩:=O k id hk
   exact⟨_,l⟩
  ·rw [m id hid]at f
   rw [b2 id hid]
   exact h.dom id L f
 ·intro id L b f hb o
  by_cases hid:id∈ids++news
  ·obtain⟨k,y,h1,l,_⟩:=p id L b hid f hb
   exact z.mem.mr k y b h1 l o
  ·rw [m id hid]at f
   obtain⟨E,g⟩:=n id L b hid f hb
   cases hS:S' ⟨b,o,none⟩with
   |none=>rfl
   |some u=>
    rcases z.oU _ u hS with N|N|N
    ·rw [h.mr id L b f hb o]at N;cases N
    ·simp only at N;omega
    ·exact(g N).elim
 ·intro id q L y b f J hb K
  by_cases hid:id∈ids++news
  ·obtain⟨k,L1,h1,l,E,g⟩:=p id L b hid f hb
   by_cases B:q∈ids++news
   ·obtain⟨k',a5,b0,b1,Y,_⟩:=p q y b B J K
    have:=z.mem.inj k k' L1 a5 b h1 b0 l b1
    subst this
    rw [E]at Y
    exact BT Y
   ·rw [m q B]at J
    obtain⟨N,h6⟩:=n q y b B J K
    rcases g with g|g
    ·exact(h6 g).elim
    ·omega
  ·rw [m id hid]at f
   obtain⟨N,h6⟩:=n id L b hid f hb
   by_cases B:q∈ids++news
   ·obtain⟨k',a5,b0,b1,Y,g⟩:=p q y b B J K
    rcases g with g|g
    ·exact(h6 g).elim
    ·omega
   ·rw [m q B]at J
    exact h.inj id q L y b f J hb K
 ·intro id L b f hb
  by_cases hid:id∈ids++news
  ·obtain⟨k,L1,h1,l,E,g⟩:=p id L b hid f hb
   rcases g with g|g
   ·exact H b g
   ·exact .inr (AO h.frame.size g)
  ·rw [m id hid]at f
   exact h.own id L b f hb
 ·intro k L0 hk
  obtain⟨L,h1,l⟩:=h.par k L0 hk
  obtain⟨y,E,g⟩:=hle k L h1
  exact⟨y,E,j3.trans l g⟩
 ·intro ad u hu
  rcases z.oU ad u hu with h1|h1|h1
  ·exact h.oU ad u h1
  ·exact .inr (.inl (AO h.frame.size h1))
  ·exact .inr ((H _ h1).symm)
theorem R.rK{S':kd}{loc':kH}{r:RV}{v:Value}(hf:rK r=true)(h:R S loc r v):R S' loc' r v:=by
 have c:∀{p:PD}{v:Value},flatP p=true->V S p v->V S' p v:=by
  intro p v hf h
  cases h with
  |bool=>exact .bool _
  |int=>exact .int _ _
  |str=>exact .str _
  |_=>cases hf
 cases r with
 |d p=>
  cases h with
  |d h=>
  cases h with
  |bool=>exact .d (.bool _)
  |int=>exact .d (.int _ _)
  |str=>exact .d (.str _)
  |agg cs vs hl h=>
   simp only [Dw.rK,List.all_eq_true]at hf
   exact .d (.agg cs vs hl fun i p v h1 a=>c (hf p (A1 h1)) (h i p v h1 a))
  |_=>cases hf
 |err b=>
  cases h with
  |err=>exact .err _ _
  |noerr=>exact .noerr
 |_=>cases hf
theorem R.flatR{S':kd}{loc':kH}{σ:Ren}{r:RV}{v:Value}(hf:flatV r=true)(h:R S loc (Dw.lK σ r) v):R S' loc' (Dw.lK σ r) v:=by
 cases r with
 |tup cs=>
  have h1:Dw.lK σ (.tup cs)= .tup cs:=by
   simp only [Dw.lK,RV.tup.injEq]
   refine(List.map_congr_left fun c hc=>?_).trans (List.map_id _)
   have:=List.all_eq_true.1 hf c hc
   cases c<;>first|rfl|cases this
  rw [h1]at h⊢
  cases h with
  |tup cs vs hl h=>exact .tup cs vs hl fun i c v a e=>(h i c v a e).rK (List.all_eq_true.1 hf c (A1 a))
 |d p=>exact R.rK (r:= .d p) hf h
 |err b=>exact R.rK (r:= .err b) hf h
 |_=>cases hf
theorem Sim.frame0(h:Sim P X S loc s tm w){w':World}{e:List Nat}(hb:e=[])(a:Frame X.base.mono e w w'):Sim P X S loc s tm w':=by
 subst hb
 refine⟨h.nt,h.kr,?_,h.dom,?_,h.nA,h.mr,h.inj,h.own,h.frame.trans a (fun b hb=>by cases hb),h.s0,h.par,h.oU,h.bs,fun x c=>⟨by rw [<-(h.ob x c).1];exact a.block _ (Array.getElem?_eq_some_iff.1 (h.ob x c).1).1 sm,(h.ob x c).2⟩⟩
 ·intro i g hb
  obtain⟨L,h1,f⟩:=h.boxes i g hb
  exact⟨L,h1,f.fN (Sub.refl S) (kb.refl loc) (fun b hb=>a.block b (f.mY hb) sm)⟩
 ·intro ad v j
  have hc:=h.imm ad v j
  rw [<-hc]
  exact mV (a.block ad.block (World.block_lt_of_cell? w ad hc) sm)
theorem na{by_:FuncId->Nat->Bool}{call:ko}(C:mj P X.base call){o:Oper}{a:Act}(h:Sim P X S loc s a.tmps w)(hd:a.defers=[])(p:∀d,o.dst=some d->d<X.nt){f:FuncId}{base:Nat}{args:List RV}{v:RV}{u:Ups}{r:List Nat}
  (hl:mJ by_ call f base args s.boxes=some ((v,u),r,true)) {vs:Array Value} (hlen:args.length=vs.size) (z:∀(i:Nat)x y,args[i]? =some x->vs[i]? =some y->R S loc x y)
  (I:(execOp a.eval o).run P w=(callFunc f vs).run P w):nV P X ((s.ups u).put o.dst v) o a w:=by
 obtain⟨⟨as,u0⟩,r1,r2,h1,h2,_⟩:=M.bind_some hl
 obtain⟨ids,r3,r4,h3,h4,_⟩:=M.bind_some h2
 obtain⟨c,r5,r6,h5,H,_⟩:=M.bind_some h4
 rcases hc:call f (as.map (lK (oQ ids c))) (c.map (mI (oQ ids c) fun _=>0))with _|⟨res,q⟩
 ·simp only [hc]at H;exact fE s.boxes H
 simp only [hc]at H
 split at H
 rotate_left
 ·exact fE s.boxes H
 rename_i D
 obtain⟨c2,a9,b0⟩:=D
 obtain⟨_,r7,r8,h7,h8,_⟩:=M.bind_some H
 obtain⟨h9, -, -⟩:=M.jv h8
 cases h9
 have hn:=pV a9
 obtain⟨a1,a2,a3,a4⟩:=sl h1
 obtain⟨g1,g2⟩:=pR h5
 obtain⟨S1,U,g,J,hle,b2⟩:=h.oq u0 a1 (fun x hx=>.inl (a2 x hx))
 have E:∀id∈ids,(s.ups u0).boxes id=s.boxes id:=fun id hid=>lL _ _ _ (pn b0 id hid)
 have hg:∀(j:Nat)id,ids[j]? =some id->∃t,(s.ups u0).boxes id=some t∧c[j]? =some t:=fun j id hj=>by
  obtain⟨t,k1,k2⟩:=g2 j id hj
  exact⟨t,by rw [E id (A1 hj)];exact k1,k2⟩
 obtain ⟨ls, q1, q2, q3, q4⟩ := wa g (f := fun _ _ => 0) (b := fun i => (idxOf ids i).bind (look c)) (ρ := (oQ ids c)) (bs2 := c.map (mI (oQ ids c) fun _ => 0)) hn g1 hg (fun id t hb => by
   rw [Option.bind_eq_some_iff]at hb
   obtain⟨k,m1,m2⟩:=hb
   obtain⟨c0,m3,m4⟩:=hg k id (ou m1)
   rw [kP,m4]at m2
   cases m2
   exact m3) rfl (by simp [g1]) (fun k id t hk a5=>by rw [Av,a5];rfl)
 have b4 := C f _ _ res q hc S1 w ls vs q4 (by rw [q1, B7, g1]) g.bs g.ob (by rw [B7, a3]; exact hlen) (fun i x y hx hy => by
  rw [Av,Option.map_eq_some_iff]at hx
  obtain⟨x0,O,rfl⟩:=hx
  have hi:i<args.length:=by rw [<-a3];exact(List.getElem?_eq_some_iff.1 O).1
  exact R.lK q3 (a4 S loc S1 U J hle b2 i args[i] x0 y (zc hi) O (z i _ y (zc hi) hy)))
 intro K Q hK
 unfold Oper.wp
 rw [I]
 suffices tail:∀rv w',(∃S' Y,sg P X.base.mono S1 w ls (c.map (mI (oQ ids c) fun _=>0)).length res q rv w' S' Y)->K (a.put o.dst rv) w' by
  rcases b4 with⟨⟨fn,b1,F,B⟩,m⟩|⟨rv,w',l,hR⟩
  ·have G:(callFunc f vs).run P w= .ok (.enter f vs) w:=by
    have : (fn.name == "runtime.NumGoroutine") = false := by simpa using F
    simp only [callFunc,Sem.run_bind,run_program,Result.andThen_ok,b1,this,B,Aj,if_false,Sem.run_pure]
   rw [G,Oper.upon_enter]
   refine m.mono fun e w' he=>?_
   obtain⟨rv,rfl,he⟩:=he
   exact tail rv w' he
  ·rw [l,Oper.upon_value]
   exact tail rv w' hR
 intro rv w' he
 obtain⟨S',Y,ha⟩:=he
 rw [B7,g1]at ha
 have N:=pL h7
 obtain ⟨W, k1, k2, _⟩ := g.xo (off := offOf c) hn q1 q2 (fun j id ver e sz hdr L hj hL l => by
   obtain⟨t,m1,m2⟩:=hg j id hj
   have:=g.lE m1 hL
   simp only [offOf,kP,m2]
   cases this with
   |arr=>cases l;rfl
   |nest=>cases l;rfl
   |dead _ hd=>subst hd;cases l
   |var=>cases l
   |map=>cases l
   |mapn=>cases l
   |hole=>cases l;rfl
   |deep=>cases l;rfl)
  (fun i hi => by
   have hv:=N i hi
   rw [lL _ _ _ fun hm=>?_]
   ·exact hv
   ·obtain⟨y,hy,b5⟩:=List.mem_map.1 hm
    obtain⟨ver,e,es,T⟩:=a2 y hy
    rw [b5,hv]at T
    cases T)
  (by
   unfold nG
   rw [List.nodup_iff_pairwise_ne,List.pairwise_map]
   exact List.pairwise_lt_range.imp fun{a b}c1=>om)
  (by simp [nG];omega) rfl ha
 by_cases n:(ids.isEmpty&&(q.isEmpty&&flatV res))=true
 ·refine hK _ _ ⟨by cases o.dst<;>exact hd,S,loc,?_⟩
  rw [vB,if_pos n]
  simp only [Ac,List.isEmpty_iff]at n
  obtain⟨e1,e2,e3⟩:=n
  subst e1
  have b3:ls=[]:=List.eq_nil_of_length_eq_zero q1
  subst b3
  exact(h.frame0 rfl ha.frame).put (a:=a) (k2.flatR e3) o.dst p
 refine hK _ _ ⟨by cases o.dst<;>exact hd,S',W,?_⟩
 rw [vB,if_neg n,mU]
 exact k1.put (a:=a) k2 o.dst p
end
end Go.Dw
