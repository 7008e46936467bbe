
import Derived.Test.YtfmoipelhfkdkaaGreatDoorDwRen
open List renaming getElem?_cons_succ->DZ, getElem?_cons_zero->D0, getElem?_map->EY, getElem?_of_mem->EZ, length_map->Ey, mem_of_getElem?->D6, nodup_cons->Ez, of_mem_zip->FA
open Bool renaming and_eq_true->EE, false_eq_true->EL
open Option.some renaming inj->Ew, injEq->DJ
open Nat renaming add_zero->EA, le_trans->DU

namespace Go.Dw
def Loc.blocks:Loc->List Nat
 | .nest _ _ _ hdr bs=>(tp hdr).toList++bs
 |L=>L.block.toList
theorem AD{L:Loc}{b:Nat}:b∈L.blocks↔L.has b:=by
 cases L<;>simp [Loc.blocks,Loc.has,Loc.block,eq_comm]
def Ac(ls:List Loc):List Nat:=ls.flatMap Loc.blocks
theorem sJ{α:Type}:∀(l:List α)(i:Nat),look l i=l[i]?
 | [],_=>rfl
 |a::r,0=>rfl
 |a::r,n+1=>by rw [look,sJ r n];rfl
theorem wj{ls:List Loc}{b:Nat}:b∈Ac ls↔∃k L,look ls k=some L∧L.has b:=by
 unfold Ac
 rw [List.mem_flatMap]
 constructor
 ·rintro⟨L,g,f⟩
  obtain⟨k,hk⟩:=EZ g
  exact⟨k,L,by rw [sJ];exact hk,AD.1 f⟩
 ·rintro⟨k,L,hk,f⟩
  rw [sJ]at hk
  exact⟨L,D6 hk,AD.2 f⟩
def Enters (P : Program) (f : FuncId) : Prop := ∃ fn, P.funcs[f]? = some fn ∧ fn.name ≠ "runtime.NumGoroutine" ∧ fn.body.isNone = false
def Bg(P:Program)(f:FuncId)(vs:Array Value)(w:World)(R:Value->World->Prop):Prop:=
 (Enters P f∧Calls P f vs w fun e w'=>∃v,e= .returned v∧R v w')∨(∃v w',(callFunc f vs).run P w= .ok (.value v) w'∧R v w')
structure zS(P:Program)(E:Prop)(S:rP)(w:World)(ls:List Loc)(n:Nat)(r:RV)(bs':List Box)(v:Value)(w':World)(S':rP)(ls':List Loc):Prop where
 len:ls'.length=bs'.length
 more:n<=bs'.length
 sub:Sub S S'
 mem:Mem P S' (look ls') (look bs') w'
 xM:∀ad v,S' ad=some v->S ad=some v∨w.heap.size<=ad.block∨ad.block∈Ac ls
 le:rT (look ls) (look ls')
 own:∀k L b,look ls' k=some L->L.has b->b∈Ac ls∨w.heap.size<=b
 frame:Frame E (Ac ls) w w'
 res:R S' (look ls') r v
def uC(P:Program)(base:xT)(f:FuncId)(args:List RV)(bs:List Box)(r:RV)(g:List Box):Prop:=
 ∀(S:rP)(w:World)(ls:List Loc)(vs:Array Value),Mem P S (look ls) (look bs) w->ls.length=bs.length->Sub base.snap S->(∀x∈base.objs,w.heap[x.1]? =some x.2∧∃o v,base.snap ⟨x.1,o,none⟩=some v)->
  args.length=vs.size->(∀(i:Nat)a v,args[i]? =some a->vs[i]? =some v->R S (look ls) a v)->
  Bg P f vs w fun v w'=>∃S' j,zS P base.mono S w ls bs.length r g v w' S' j
def uv(P:Program)(base:xT)(call:rO):Prop:=∀f args bs r g,call f args bs=some (r,g)->uC P base f args bs r g
section
variable {P:Program}{X:Ctx}{S:rP}{loc:ss}{s:St}{tm:Array Value}{w:World}
theorem Dn{by_:Bool}{c x:RV}{b:sj}{u:Ups}{r:List Nat}(h:argD by_ c b=some ((x,u),r,true)):
  vn u∧(∀y∈u,∃ver e es,b y.1=some (.arr ver e es))∧
  ∀S loc S' loc' v,Sub S S'->rT loc loc'->(∀y∈u,Frz b S loc S' y.1)->R S loc c v->R S' loc' x v:=by
 have same:∀{r:List Nat},M.pure (c,([]:Ups)) b=some ((x,u),r,true)->vn u∧(∀y∈u,∃ver e es,b y.1=some (.arr ver e es))∧
   ∀S loc S' loc' v,Sub S S'->rT loc loc'->(∀y∈u,Frz b S loc S' y.1)->R S loc c v->R S' loc' x v:=by
  intro r h
  obtain⟨h1, -, -⟩:=M.pZ h
  cases h1
  exact⟨(fun y D=>by cases D),(fun y D=>by cases D),fun S loc S' loc' v hs hl _ C=>C.mono hs hl⟩
 have data:∀{r:List Nat}{p:PD}{u1:Ups},uL c b=some ((p,u1),r,true)->x= .d p->u=u1->vn u∧(∀y∈u,∃ver e es,b y.1=some (.arr ver e es))∧
   ∀S loc S' loc' v,Sub S S'->rT loc loc'->(∀y∈u,Frz b S loc S' y.1)->R S loc c v->R S' loc' x v:=by
  rintro r p u1 h rfl rfl
  obtain⟨a1,a2,a3⟩:=wx h
  exact⟨a1,a2,fun S loc S' loc' v hs _ hf C=>.d (a3 S loc S' v C hs hf)⟩
 have rG:(M.bind (uL c) fun(p,u)=>M.rG c.sized ((RV.d p,u):RV×Ups)) b=some ((x,u),r,true)->vn u∧(∀y∈u,∃ver e es,b y.1=some (.arr ver e es))∧
   ∀S loc S' loc' v,Sub S S'->rT loc loc'->(∀y∈u,Frz b S loc S' y.1)->R S loc c v->R S' loc' x v:=by
  intro h
  obtain⟨⟨p,u1⟩,E,F,h1,k,_⟩:=M.bind_some h
  obtain⟨q, -, -⟩:=M.rE k
  cases q
  exact data h1 rfl rfl
 have f:(if by_ then M.pure (c,([]:Ups))else M.bind (uL c) fun(p,u)=>M.pure ((RV.d p,u):RV×Ups)) b=some ((x,u),r,true)->vn u∧(∀y∈u,∃ver e es,b y.1=some (.arr ver e es))∧
   ∀S loc S' loc' v,Sub S S'->rT loc loc'->(∀y∈u,Frz b S loc S' y.1)->R S loc c v->R S' loc' x v:=by
  intro h
  cases by_ with
  |true=>exact same h
  |false=>
   simp only [EL,if_false]at h
   obtain⟨⟨p,u1⟩,E,F,h1,k,_⟩:=M.bind_some h
   obtain⟨q, -, -⟩:=M.pZ k
   cases q
   exact data h1 rfl rfl
 cases c with
 |ptr _ _=>exact same h
 |elt _ _ _ _=>exact same h
 |clo _ _=>exact same h
 |fview _ _ _=>exact rG h
 |err _=>exact rG h
 |dfull _=>exact rG h
 |ifc _ _=>exact same h
 |plit _=>exact rG h
 |pcp _=>exact rG h
 |ref _ _=>exact f h
 |view _ _ _ _=>exact f h
 |d _=>exact rG h
 |undef=>exact rG h
 |junk=>exact rG h
 |rm=>
  by_cases j:by_=true
  ·subst j;exact same h
  ·have g:by_=false:=by cases by_<;>simp_all
   subst g
   exact rG h
 |agg _=>
  by_cases j:by_=true
  ·subst j;exact same h
  ·have g:by_=false:=by cases by_<;>simp_all
   subst g
   exact rG h
 |tup _=>exact rG h
 |cptr _=>exact rG h
theorem zV{by_:Nat->Bool}:∀{args:List RV}{i:Nat}{b:sj}{as:List RV}{u:Ups}{r:List Nat},wi by_ i args b=some ((as,u),r,true)->
  vn u∧(∀x∈u,∃ver e es,b x.1=some (.arr ver e es))∧as.length=args.length∧
  ∀S loc S' loc',Sub S S'->rT loc loc'->(∀x∈u,Frz b S loc S' x.1)->
   ∀(i:Nat)x a v,args[i]? =some x->as[i]? =some a->R S loc x v->R S' loc' a v
 | [],i,b,as,u,r,h=>by
  obtain⟨h1, -, -⟩:=M.pZ (b:=b) h
  cases h1
  exact⟨(fun x f=>by cases f),(fun x f=>by cases f),rfl,fun S loc S' loc' _ _ _ i x a v f=>by simp at f⟩
 |c::cs,i,b,as,u,r,h=>by
  obtain⟨⟨x,u1⟩,L,N,h1,H,_⟩:=M.bind_some h
  obtain⟨⟨l,u2⟩,O,Q,I,J,_⟩:=M.bind_some H
  obtain⟨K, -, -⟩:=M.pZ J
  cases K
  obtain⟨a1,a2,a3⟩:=Dn h1
  obtain⟨D,E,F,G⟩:=zV I
  refine⟨fun x f=>(List.mem_append.1 f).elim (a1 x) (D x),fun x f=>(List.mem_append.1 f).elim (a2 x) (E x),by simp [F],?_⟩
  intro S loc S' loc' hs hl C j y a v k g q
  cases j with
  |zero=>
   simp only [D0,DJ]at k g
   subst k;subst g
   exact a3 S loc S' loc' v hs hl (fun x f=>C x (List.mem_append.2 (.inl f))) q
  |succ j=>
   simp only [DZ]at k g
   exact G S loc S' loc' hs hl (fun x f=>C x (List.mem_append.2 (.inr f))) j y a v k g q
theorem xY:∀{ids:List Nat}{b:sj}{l:List Box}{r:List Nat},wY ids b=some (l,r,true)->
  l.length=ids.length∧∀(j:Nat)id,ids[j]? =some id->∃g,b id=some g∧l[j]? =some g
 | [],b,l,r,h=>by
  obtain⟨h1, -, -⟩:=M.pZ (b:=b) h
  subst h1
  exact⟨rfl,fun j id f=>by simp at f⟩
 |i::ids,b,l,r,h=>by
  obtain⟨g,F,G,h1,k,_⟩:=M.bind_some h
  obtain⟨D,_,_⟩:=M.get_some h1
  obtain⟨E,H,I,q,u,_⟩:=M.bind_some k
  obtain⟨C, -, -⟩:=M.pZ u
  subst C
  obtain⟨g1,g2⟩:=xY q
  refine⟨by simp [g1],fun j id f=>?_⟩
  cases j with
  |zero=>simp only [D0,DJ]at f;subst f;exact⟨g,D,rfl⟩
  |succ j=>simp only [DZ]at f⊢;exact g2 j id f
theorem xS:∀{ids:List Nat}{b:sj}{x:Unit}{r:List Nat},tX ids b=some (x,r,true)->∀i∈ids,b i=none
 | [],b,x,r,_=>fun i hi=>by cases hi
 |i::ids,b,x,r,h=>by
  obtain⟨_,q,u,h1,g,_⟩:=M.bind_some h
  obtain⟨k,_,_⟩:=M.sZ h1
  intro j f
  rcases List.mem_cons.1 f with rfl|f
  ·exact k
  ·exact xS g j f
theorem ye:∀{l:List Nat},nodup l=true->l.Nodup
 | [],_=>List.nodup_nil
 |a::r,h=>by
  simp only [nodup,EE,Bool.not_eq_true']at h
  refine List.nodup_cons.2 ⟨?_,ye h.2⟩
  intro hm
  have:=h.1
  simp [hm]at this
theorem xD{a b:List Nat}(h:Ak a b=true):∀x∈a,x∉b:=fun x g f=>by
 have:=List.all_eq_true.1 h x g
 simp [f]at this
theorem wJ:∀{l:List Nat}{id k:Nat},idxOf l id=some k->l[k]? =some id
 | [],id,k,h=>by simp [idxOf]at h
 |a::r,id,k,h=>by
  simp only [idxOf]at h
  split at h
  ·rename_i g;cases h;subst g;rfl
  ·cases f:idxOf r id with
   |none=>simp [f]at h
   |some j=>simp only [f,Option.map_some,DJ]at h;subst h;simpa using wJ f
theorem xG:∀{l:List Nat}{id k:Nat},l.Nodup->l[k]? =some id->idxOf l id=some k
 | [],id,k,_,h=>by simp at h
 |a::r,id,k,f,h=>by
  rw [Ez]at f
  cases k with
  |zero=>simp only [D0,DJ]at h;subst h;simp [idxOf]
  |succ k=>
   simp only [DZ]at h
   have g:id≠a:=fun e=>f.1 (by subst e;exact D6 h)
   simp [idxOf,g,xG f.2 h]
theorem Dl:∀(ids:List Nat)(bs:List Box)(s:St),ids.Nodup->bs.length=ids.length->∀(j:Nat)id f,ids[j]? =some id->bs[j]? =some f->(s.ups (ids.zip bs)).boxes id=some f
 | [],bs,s,_,_,j,id,f,g,_=>by simp at g
 |i::ids,[],s,_,hl,j,id,f,_,_=>by simp at hl
 |i::ids,b::bs,s,q,hl,j,id,f,g,k=>by
  rw [Ez]at q
  simp only [List.length_cons]at hl
  rw [List.zip_cons_cons,tW]
  cases j with
  |zero=>
   simp only [D0,DJ]at g k
   subst g;subst k
   rw [tP _ _ _ (fun hm => q.1 (by
    obtain⟨x,u,r⟩:=List.mem_map.1 hm
    rw [<-r]
    exact(FA u).1))]
   exact rK _ _ _
  |succ j=>
   simp only [DZ]at g k
   exact Dl ids bs _ q.2 za j id f g k
theorem C6(ids:List Nat)(bs:List Box)(s:St)(id:Nat)(h:id∉ids):(s.ups (ids.zip bs)).boxes id=s.boxes id:=by
 refine tP _ _ _ fun hm=>h ?_
 obtain⟨x,g,f⟩:=List.mem_map.1 hm
 rw [<-f]
 exact(FA g).1
theorem Frame.trans{E:Prop}{B0 g:List Nat}{w0 w w':World}(h:Frame E B0 w0 w)(f:Frame E g w w')(q:∀b∈g,b∈B0∨w0.heap.size<=b):Frame E B0 w0 w':=
 ⟨f.os.trans h.os, f.tape.trans h.tape, f.output.trans h.output, DU h.size f.size, fun b j k => by
  rw [f.block b (Nat.lt_of_lt_of_le j h.size) ?_]
  ·exact h.block b j k
  ·intro hm
   rcases q b hm with h1|h1
   ·exact k h1
   ·omega,fun he=>DU (h.drawn he) (f.drawn he)⟩
end
end Go.Dw
namespace Go.Dw
section
variable {P:Program}{X:Ctx}{S:rP}{loc:ss}{s:St}{tm:Array Value}{w:World}
theorem Cj(h:Sim P X S loc s tm w){ids:List Nat}{r bs2:List Box}{b:sj}{f:Nat->Nat->Nat}{ρ:Ren}(Q:ids.Nodup)(hlen:r.length=ids.length)(J:∀(j:Nat)id,ids[j]? =some id->∃g,s.boxes id=some g∧r[j]? =some g)
  (H:∀id g,b id=some g->s.boxes id=some g) (N:ρ=⟨idxOf ids,tf b f⟩) (K:bs2.length=ids.length) (E:∀(k:Nat)id g,ids[k]? =some id->r[k]? =some g->bs2[k]? =some (uB ρ (f id) g)):
  ∃ls:List Loc,ls.length=ids.length∧(∀(j:Nat)id,ids[j]? =some id->∃L,loc id=some L∧ls[j]? =some (rY (f id) L))∧w7 ρ loc (look ls)∧Mem P S (look ls) (look bs2) w:=by
 have D:∀(j:Nat)id,ids[j]? =some id->∃L,loc id=some L:=fun j id G=>by
  obtain⟨g,H,_⟩:=J j id G
  obtain⟨L,h1,_⟩:=h.boxes id g H
  exact⟨L,h1⟩
 let ls:List Loc:=ids.map fun id=>match loc id with|some L=>rY (f id) L|none=>.dead
 have q:∀(j:Nat)id,ids[j]? =some id->∃L,loc id=some L∧ls[j]? =some (rY (f id) L):=fun j id G=>by
  obtain⟨L,h1⟩:=D j id G
  exact⟨L,h1,by simp [ls,G,h1]⟩
 have T:w7 ρ loc (look ls):=by
  subst N
  refine w7.mk' (P:=P) (S:=S) (w:=w) (fun id g I=>h.boxes id g (H id g I)) (fun id k L hp D=>?_)
  obtain⟨O,h1,E⟩:=q k id (wJ hp)
  rw [D]at h1
  cases h1
  rw [sJ]
  exact E
 refine⟨ls,by simp [ls],q,T,h.mem.ren T (fun k U hk=>?_) (fun k O hk=>?_)⟩
 ·rw [sJ]at hk
  have u:k<ids.length:=by rw [<-K];exact(List.getElem?_eq_some_iff.1 hk).1
  have hid:=zf u
  obtain⟨g,h1,C⟩:=J k _ hid
  rw [E k _ g hid C]at hk
  cases hk
  refine⟨ids[k],g,_,by rw [N];exact xG Q hid,h1,rfl,fun L D=>?_⟩
  obtain⟨O,C,F⟩:=q k _ hid
  rw [D]at C
  cases C
  rw [sJ]
  exact F
 ·rw [sJ]at hk
  have u:k<ids.length:=by have:=(List.getElem?_eq_some_iff.1 hk).1;simpa [ls]using this
  have hid:=zf u
  obtain⟨L,C,F⟩:=q k _ hid
  obtain⟨g,_,W⟩:=J k _ hid
  rw [hk]at F
  cases F
  exact⟨⟨_,by rw [sJ];exact E k _ g hid W⟩,ids[k],L,_,by rw [N];exact xG Q hid,C,rfl⟩
theorem Sim.Dm(h:Sim P X S loc s tm w){ids news:List Nat}{N:List Box}{ls a9:List Loc}{off:Nat->Nat}{r:RV}{v:Value}{w':World}{S':rP}{σ:Ren}(hn:ids.Nodup)
  (hlen:ls.length=ids.length) (b4:∀(j:Nat)id,ids[j]? =some id->∃L,loc id=some L∧ls[j]? =some (rY (fun _=>0) L))
  (Q:∀(j:Nat)id ver e sz hdr L,ids[j]? =some id->loc id=some L->L.Row ver e sz hdr->off j=ver)
  (b2:∀i∈news,s.boxes i=none) (c6:news.Nodup) (c3:(ids++news).length=N.length)
  (hσ:σ=⟨look (ids++news),tf (look N) fun k cur=>off k+cur⟩) (J:zS P X.base.mono S w ls ids.length r N v w' S' a9):
  ∃f,Sim P X S' f (s.ups ((ids++news).zip (N.zipIdx.map fun x=>uB σ (fun cur=>off x.2+cur) x.1))) tm w'∧R S' f (tD σ r) v∧rT loc f:=by
 have hold:∀id∈ids,∃L,loc id=some L:=fun id hid=>by
  obtain⟨j,hj⟩:=EZ hid
  obtain⟨L,h1,_⟩:=b4 j id hj
  exact⟨L,h1⟩
 have b1:(ids++news).Nodup:=by
  rw [List.nodup_append]
  refine⟨hn,c6,fun a J b D c4=>?_⟩
  subst c4
  obtain⟨L,h1⟩:=hold a J
  obtain⟨bx,C⟩:=h.dom a L h1
  rw [b2 a D]at C
  cases C
 let f:ss:=fun id=>match idxOf (ids++news) id with|some k=>(look a9 k).map (rY (off k+ ·))|none=>loc id
 have b0:∀k id,(ids++news)[k]? =some id->f id=(look a9 k).map (rY (off k+ ·)):=fun k id hk=>by
  simp only [f,xG b1 hk]
 have E:∀id,id∉ids++news->f id=loc id:=fun id hid=>by
  simp only [f]
  cases hi:idxOf (ids++news) id with
  |none=>rfl
  |some k=>exact(hid (D6 (wJ hi))).elim
 have hr:w7 σ (look a9) f:=by
  subst hσ
  refine w7.mk' (P:=P) (S:=S') (w:=w') J.mem.boxes (fun k id L hp g=>?_)
  rw [sJ]at hp
  rw [b0 k id hp,g]
  rfl
 have hblk:∀b∈Ac ls,∃id∈ids,∃L,loc id=some L∧L.has b:=fun b D=>by
  obtain⟨k,L,h1,C⟩:=wj.1 D
  rw [sJ]at h1
  have hk:k<ids.length:=by rw [<-hlen];exact(List.getElem?_eq_some_iff.1 h1).1
  obtain⟨I,O,q⟩:=b4 k _ (zf hk)
  rw [h1]at q
  cases q
  rw [uS]at C
  exact⟨_,List.getElem_mem hk,I,O,C⟩
 have T:∀b∈Ac ls,b∈X.B0∨X.w0.heap.size<=b:=fun b D=>by
  obtain⟨id,_,L,h1,C⟩:=hblk b D
  exact h.own id L b h1 C
 have hle:rT loc f:=fun id L g=>by
  by_cases hid:id∈ids++news
  rotate_left
  ·exact⟨L,by rw [E id hid];exact g,.same _⟩
  obtain⟨k,hk⟩:=EZ hid
  have c5:k<ids.length:=by
   by_cases a5:k<ids.length
   ·exact a5
   ·rw [List.getElem?_append_right za]at hk
    obtain⟨bx,a6⟩:=h.dom id L g
    rw [b2 id (D6 hk)]at a6
    cases a6
  have Y:ids[k]? =some id:=by rwa [List.getElem?_append_left c5]at hk
  obtain⟨L0,h1,C⟩:=b4 k id Y
  rw [g]at h1
  cases h1
  obtain⟨I,O,q⟩:=J.le k _ (by rw [sJ];exact C)
  refine⟨rY (off k+ ·) I,by rw [b0 k id hk,O];rfl,?_⟩
  generalize hx:rY (fun _=>0) L=L1 at q
  cases q with
  |same=>
   subst hx
   cases L with
   |arr ver e sz hdr=>
    have:=Q k id ver e sz hdr _ Y g .arr
    simp only [rY,EA,this]
    exact .same _
   |nest ver e sz hdr bs=>
    have:=Q k id ver e sz hdr _ Y g .nest
    simp only [rY,EA,this]
    exact .same _
   |var b=>exact .same _
   |dead=>exact .same _
   |map b=>exact .same _
  |dead=>exact .dead _
  |arr a5=>
   cases L<;>simp only [rY,Loc.arr.injEq,reduceCtorEq]at hx
   rename_i ver e sz hdr
   have:=Q k id ver e sz hdr _ Y g .arr
   obtain⟨hx, -⟩:=hx
   exact .arr (show ver<off k+_ by omega)
  |nest a5=>
   cases L<;>simp only [rY,Loc.nest.injEq,reduceCtorEq]at hx
   rename_i ver e sz hdr bs
   have:=Q k id ver e sz hdr _ Y g .nest
   obtain⟨hx, -⟩:=hx
   exact .nest (show ver<off k+_ by omega)
  |held=>
   cases L<;>simp only [rY,Loc.nest.injEq,reduceCtorEq]at hx
   rename_i ver e sz hdr bs
   have:=Q k id ver e sz hdr _ Y g .nest
   obtain⟨rfl,rfl,rfl,rfl,rfl⟩:=hx
   simp only [rY,EA,this]
   exact .held
 have a6:∀k id,(ids++news)[k]? =some id->∃bx,N[k]? =some bx∧(s.ups ((ids++news).zip (N.zipIdx.map fun x=>uB σ (fun cur=>off x.2+cur) x.1))).boxes id=some (uB σ (fun cur=>off k+cur) bx):=fun k id hk=>by
  have a5:k<N.length:=by rw [<-c3];exact(List.getElem?_eq_some_iff.1 hk).1
  refine⟨N[k],zf a5,?_⟩
  refine Dl _ _ s b1 (by simp [c3]) k id _ hk ?_
  simp [a5]
 have c2:∀id,id∉ids++news->(s.ups ((ids++news).zip (N.zipIdx.map fun x=>uB σ (fun cur=>off x.2+cur) x.1))).boxes id=s.boxes id:=fun id hid=>C6 _ _ s id hid
 have F:∀id L b,id∉ids++news->loc id=some L->L.has b->b<w.heap.size∧b∉Ac ls:=fun id L b hid g D=>by
  refine⟨h.mem.lt g D,fun hm=>?_⟩
  obtain⟨H,h1,I,C,O⟩:=hblk b hm
  have:=h.inj id H L I b g C D O
  subst this
  exact hid (List.mem_append.2 (.inl h1))
 have G:∀id L b,id∈ids++news->f id=some L->L.has b->∃k I,look a9 k=some I∧I.has b∧(ids++news)[k]? =some id∧(b∈Ac ls∨w.heap.size<=b):=fun id L b hid g D=>by
  obtain⟨k,hk⟩:=EZ hid
  rw [b0 k id hk,Option.map_eq_some_iff]at g
  obtain⟨I,h1,rfl⟩:=g
  rw [uS]at D
  exact⟨k,I,h1,D,hk,J.own k I b h1 D⟩
 refine⟨f,⟨h.nt,?_,?_,?_,J.mem.imm,J.mem.vN,?_,?_,?_,h.frame.trans J.frame T,h.s0.trans J.sub,?_,?_,h.bs.trans J.sub,fun x hx=>?_⟩,R.tD hr J.res,hle⟩
 rotate_right
 ·obtain⟨h1,o,v,C⟩:=h.ob x hx
  refine⟨?_,o,v,C⟩
  rw [<-h1]
  refine J.frame.block _ (Array.getElem?_eq_some_iff.1 h1).1 fun hm=>?_
  obtain⟨id,_,L,O,q⟩:=hblk _ hm
  have h5:=h.uM id L x.1 O q o
  rw [h.bs _ _ C]at h5
  cases h5
 ·intro t rv ht
  rw [uj]at ht
  obtain⟨u,h1,C⟩:=h.rX t rv ht
  exact⟨u,h1,C.mono J.sub hle⟩
 ·intro id bx D
  by_cases hid:id∈ids++news
  ·obtain⟨k,hk⟩:=EZ hid
   obtain⟨b6,h1,C⟩:=a6 k id hk
   rw [C]at D
   cases D
   obtain⟨L,O,q⟩:=J.mem.boxes k b6 (by rw [sJ];exact h1)
   exact⟨rY (off k+ ·) L,by rw [b0 k id hk,O];rfl,vD.ren hr _ q⟩
  ·rw [c2 id hid]at D
   obtain⟨L,h1,C⟩:=h.boxes id bx D
   refine⟨L,by rw [E id hid];exact h1,C.dE J.sub hle fun b W=>?_⟩
   obtain⟨O,q⟩:=F id L b hid h1 W
   exact J.frame.block b O q
 ·intro id L g
  by_cases hid:id∈ids++news
  ·obtain⟨k,hk⟩:=EZ hid
   obtain⟨b6,_,C⟩:=a6 k id hk
   exact⟨_,C⟩
  ·rw [E id hid]at g
   rw [c2 id hid]
   exact h.dom id L g
 ·intro id L b g D o
  by_cases hid:id∈ids++news
  ·obtain⟨k,I,h1,C,_⟩:=G id L b hid g D
   exact J.mem.uM k I b h1 C o
  ·rw [E id hid]at g
   obtain⟨O,q⟩:=F id L b hid g D
   cases hS:S' ⟨b,o,none⟩with
   |none=>rfl
   |some u=>
    rcases J.xM _ u hS with h5|h5|h5
    ·rw [h.uM id L b g D o]at h5;cases h5
    ·simp only at h5;omega
    ·exact(q h5).elim
 ·intro id H L I b g U D W
  by_cases hid:id∈ids++news
  ·obtain⟨k,L1,h1,C,O,q⟩:=G id L b hid g D
   by_cases K:H∈ids++news
   ·obtain⟨k',b5,c0,c1,b3,_⟩:=G H I b K U W
    have:=J.mem.inj k k' L1 b5 b h1 c0 C c1
    subst this
    rw [O]at b3
    exact Ew b3
   ·rw [E H K]at U
    obtain⟨h5,h6⟩:=F H I b K U W
    rcases q with q|q
    ·exact(h6 q).elim
    ·omega
  ·rw [E id hid]at g
   obtain⟨h5,h6⟩:=F id L b hid g D
   by_cases K:H∈ids++news
   ·obtain⟨k',b5,c0,c1,b3,q⟩:=G H I b K U W
    rcases q with q|q
    ·exact(h6 q).elim
    ·omega
   ·rw [E H K]at U
    exact h.inj id H L I b g U D W
 ·intro id L b g D
  by_cases hid:id∈ids++news
  ·obtain⟨k,L1,h1,C,O,q⟩:=G id L b hid g D
   rcases q with q|q
   ·exact T b q
   ·exact .inr (DU h.frame.size q)
  ·rw [E id hid]at g
   exact h.own id L b g D
 ·intro k L0 hk
  obtain⟨L,h1,C⟩:=h.par k L0 hk
  obtain⟨I,O,q⟩:=hle k L h1
  exact⟨I,O,sb.trans C q⟩
 ·intro ad u hu
  rcases J.xM ad u hu with h1|h1|h1
  ·exact h.xM ad u h1
  ·exact .inr (.inl (DU h.frame.size h1))
  ·exact .inr ((T _ h1).symm)
theorem R.zy{S':rP}{loc':ss}{r:RV}{v:Value}(hf:zy r=true)(h:R S loc r v):R S' loc' r v:=by
 have hp:∀{p:PD}{v:Value},flatP p=true->V S p v->V S' p v:=by
  intro p v hf h
  cases h with
  |bool=>exact .bool _
  |int=>exact .int _ _
  |str=>exact .str _
  |_=>cases hf
 cases r with
 |d p=>
  cases h with
  |d h=>
  cases h with
  |bool=>exact .d (.bool _)
  |int=>exact .d (.int _ _)
  |str=>exact .d (.str _)
  |agg cs vs hl h=>
   simp only [Dw.zy,List.all_eq_true]at hf
   exact .d (.agg cs vs hl fun i p v h1 f=>hp (hf p (D6 h1)) (h i p v h1 f))
  |_=>cases hf
 |err b=>
  cases h with
  |err=>exact .err _ _
  |noerr=>exact .noerr
 |_=>cases hf
theorem R.flatR{S':rP}{loc':ss}{σ:Ren}{r:RV}{v:Value}(hf:flatV r=true)(h:R S loc (Dw.tD σ r) v):R S' loc' (Dw.tD σ r) v:=by
 cases r with
 |tup cs=>
  have h1:Dw.tD σ (.tup cs)= .tup cs:=by
   simp only [Dw.tD,RV.tup.injEq]
   refine(List.map_congr_left fun c hc=>?_).trans (List.map_id _)
   have:=List.all_eq_true.1 hf c hc
   cases c<;>first|rfl|cases this
  rw [h1]at h⊢
  cases h with
  |tup cs vs hl h=>exact .tup cs vs hl fun i c v f g=>(h i c v f g).zy (List.all_eq_true.1 hf c (D6 f))
 |d p=>exact R.zy (r:= .d p) hf h
 |err b=>exact R.zy (r:= .err b) hf h
 |_=>cases hf
theorem Sim.frame0(h:Sim P X S loc s tm w){w':World}{j:List Nat}(f:j=[])(hs:Frame X.base.mono j w w'):Sim P X S loc s tm w':=by
 subst f
 refine⟨h.nt,h.rX,?_,h.dom,?_,h.vN,h.uM,h.inj,h.own,h.frame.trans hs (fun b f=>by cases f),h.s0,h.par,h.xM,h.bs,fun x g=>⟨by rw [<-(h.ob x g).1];exact hs.block _ (Array.getElem?_eq_some_iff.1 (h.ob x g).1).1 zc,(h.ob x g).2⟩⟩
 ·intro i q f
  obtain⟨L,h1,k⟩:=h.boxes i q f
  exact⟨L,h1,k.dE (Sub.refl S) (rT.refl loc) (fun b f=>hs.block b (k.uW f) zc)⟩
 ·intro ad v r
  have hc:=h.imm ad v r
  rw [<-hc]
  exact ue (hs.block ad.block (World.block_lt_of_cell? w ad hc) zc)
theorem uY{by_:FuncId->Nat->Bool}{call:rO}(N:uv P X.base call){o:Oper}{a:Act}(h:Sim P X S loc s a.tmps w)(hd:a.defers=[])(E:∀d,o.dst=some d->d<X.nt){f:FuncId}{base:Nat}{args:List RV}{v:RV}{u:Ups}{r:List Nat}
  (hl:uc by_ call f base args s.boxes=some ((v,u),r,true)) {vs:Array Value} (hlen:args.length=vs.size) (I:∀(i:Nat)x y,args[i]? =some x->vs[i]? =some y->R S loc x y)
  (a5:(execOp a.eval o).run P w=(callFunc f vs).run P w):wc P X ((s.ups u).put o.dst v) o a w:=by
 obtain⟨⟨as,u0⟩,r1,r2,h1,h2,_⟩:=M.bind_some hl
 obtain⟨ids,r3,r4,h3,h4,_⟩:=M.bind_some h2
 obtain⟨g,r5,r6,h5,Y,_⟩:=M.bind_some h4
 rcases hc:call f (as.map (tD (uZ ids g))) (g.map (uB (uZ ids g) fun _=>0))with _|⟨res,G⟩
 ·simp only [hc]at Y;exact fE s.boxes Y
 simp only [hc]at Y
 split at Y
 rotate_left
 ·exact fE s.boxes Y
 rename_i O
 obtain⟨c8,b6,c0⟩:=O
 obtain⟨_,r7,r8,h7,h8,_⟩:=M.bind_some Y
 obtain⟨h9, -, -⟩:=M.pZ h8
 cases h9
 have hn:=ye b6
 obtain⟨a1,a2,a3,a4⟩:=zV h1
 obtain⟨g1,g2⟩:=xY h5
 obtain⟨S1,b2,q,a6,hle,c2⟩:=h.wF u0 a1 (fun x hx=>.inl (a2 x hx))
 have T:∀id∈ids,(s.ups u0).boxes id=s.boxes id:=fun id hid=>tP _ _ _ (xD c0 id hid)
 have hg:∀(j:Nat)id,ids[j]? =some id->∃H,(s.ups u0).boxes id=some H∧g[j]? =some H:=fun j id hj=>by
  obtain⟨H,k1,k2⟩:=g2 j id hj
  exact⟨H,by rw [T id (D6 hj)];exact k1,k2⟩
 obtain ⟨ls, q1, q2, q3, q4⟩ := Cj q (f := fun _ _ => 0) (b := fun i => (idxOf ids i).bind (look g)) (ρ := (uZ ids g)) (bs2 := g.map (uB (uZ ids g) fun _ => 0)) hn g1 hg (fun id H hb => by
   rw [Option.bind_eq_some_iff]at hb
   obtain⟨k,m1,m2⟩:=hb
   obtain⟨c6,m3,m4⟩:=hg k id (wJ m1)
   rw [sJ,m4]at m2
   cases m2
   exact m3) rfl (by simp [g1]) (fun k id H hk b5=>by rw [EY,b5];rfl)
 have c4 := N f _ _ res G hc S1 w ls vs q4 (by rw [q1, Ey, g1]) q.bs q.ob (by rw [Ey, a3]; exact hlen) (fun i x y hx hy => by
  rw [EY,Option.map_eq_some_iff]at hx
  obtain⟨x0,b0,rfl⟩:=hx
  have hi:i<args.length:=by rw [<-a3];exact(List.getElem?_eq_some_iff.1 b0).1
  exact R.tD q3 (a4 S loc S1 b2 a6 hle c2 i args[i] x0 y (zf hi) b0 (I i _ y (zf hi) hy)))
 intro K Q hK
 unfold Oper.wp
 rw [a5]
 suffices tail:∀rv w',(∃S' b4,zS P X.base.mono S1 w ls (g.map (uB (uZ ids g) fun _=>0)).length res G rv w' S' b4)->K (a.put o.dst rv) w' by
  rcases c4 with⟨⟨fn,c1,U,J⟩,C⟩|⟨rv,w',F,hR⟩
  ·have W:(callFunc f vs).run P w= .ok (.enter f vs) w:=by
    have : (fn.name == "runtime.NumGoroutine") = false := by simpa using U
    simp only [callFunc,Sem.run_bind,run_program,Result.andThen_ok,c1,this,J,EL,if_false,Sem.run_pure]
   rw [W,Oper.upon_enter]
   refine C.mono fun e w' he=>?_
   obtain⟨rv,rfl,he⟩:=he
   exact tail rv w' he
  ·rw [F,Oper.upon_value]
   exact tail rv w' hR
 intro rv w' he
 obtain⟨S',b4,ha⟩:=he
 rw [Ey,g1]at ha
 have a9:=xS h7
 obtain ⟨b3, k1, k2, _⟩ := q.Dm (off := offOf g) hn q1 q2 (fun j id ver e sz hdr L hj hL F => by
   obtain⟨H,m1,m2⟩:=hg j id hj
   have:=q.tN m1 hL
   simp only [offOf,sJ,m2]
   cases this with
   |arr=>cases F;rfl
   |nest=>cases F;rfl
   |dead _ hd=>subst hd;cases F
   |var=>cases F
   |map=>cases F
   |hole=>cases F;rfl)
  (fun i hi => by
   have hv:=a9 i hi
   rw [tP _ _ _ fun hm=>?_]
   ·exact hv
   ·obtain⟨y,hy,c5⟩:=List.mem_map.1 hm
    obtain⟨ver,e,es,b1⟩:=a2 y hy
    rw [c5,hv]at b1
    cases b1)
  (by
   unfold tT
   rw [List.nodup_iff_pairwise_ne,List.pairwise_map]
   exact List.pairwise_lt_range.imp fun{a b}c7=>za)
  (by simp [tT];omega) rfl ha
 by_cases D:(ids.isEmpty&&(G.isEmpty&&flatV res))=true
 ·refine hK _ _ ⟨by cases o.dst<;>exact hd,S,loc,?_⟩
  rw [Ae,if_pos D]
  simp only [EE,List.isEmpty_iff]at D
  obtain⟨e1,e2,e3⟩:=D
  subst e1
  have c3:ls=[]:=List.eq_nil_of_length_eq_zero q1
  subst c3
  exact(h.frame0 rfl ha.frame).put (a:=a) (k2.flatR e3) o.dst E
 refine hK _ _ ⟨by cases o.dst<;>exact hd,S',b3,?_⟩
 rw [Ae,if_neg D,vM]
 exact k1.put (a:=a) k2 o.dst E
end
end Go.Dw
