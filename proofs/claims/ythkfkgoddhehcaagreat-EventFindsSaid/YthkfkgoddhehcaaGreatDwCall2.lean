
import Derived.Test.YthkfkgoddhehcaaGreatDwRen
open List renaming getElem?_cons_succ->EU, getElem?_cons_zero->EV, getElem?_map->FO, getElem?_of_mem->FP, length_map->Fh, mem_of_getElem?->E1, nodup_cons->Fi, of_mem_zip->Fj
open Bool renaming and_eq_true->E8, false_eq_true->FD
open Option.some renaming inj->Fg, injEq->EC
open Nat renaming add_zero->E4, le_trans->EO

namespace Go.Dw
def Loc.blocks:Loc->List Nat
 | .nest _ _ _ hdr bs=>(tM hdr).toList++bs
 |L=>L.block.toList
theorem Bt{L:Loc}{b:Nat}:b∈L.blocks↔L.has b:=by
 cases L<;>simp [Loc.blocks,Loc.has,Loc.block,eq_comm]
def AV(ls:List Loc):List Nat:=ls.flatMap Loc.blocks
theorem uk{α:Type}:∀(l:List α)(i:Nat),look l i=l[i]?
 | [],_=>rfl
 |a::r,0=>rfl
 |a::r,n+1=>by rw [look,uk r n];rfl
theorem w4{ls:List Loc}{b:Nat}:b∈AV ls↔∃k L,look ls k=some L∧L.has b:=by
 unfold AV
 rw [List.mem_flatMap]
 constructor
 ·rintro⟨L,c,a⟩
  obtain⟨k,hk⟩:=FP c
  exact⟨k,L,by rw [uk];exact hk,Bt.1 a⟩
 ·rintro⟨k,L,hk,a⟩
  rw [uk]at hk
  exact⟨L,E1 hk,Bt.2 a⟩
def Enters (P : Program) (f : FuncId) : Prop := ∃ fn, P.funcs[f]? = some fn ∧ fn.name ≠ "runtime.NumGoroutine" ∧ fn.body.isNone = false
def B3(P:Program)(f:FuncId)(vs:Array Value)(w:World)(R:Value->World->Prop):Prop:=
 (Enters P f∧Calls P f vs w λe w'=>∃v,e= .returned v∧R v w')∨(∃v w',(callFunc f vs).run P w= .ok (.value v) w'∧R v w')
structure yj(P:Program)(E:Prop)(S:tG)(w:World)(ls:List Loc)(n:Nat)(r:RV)(bs':List Box)(v:Value)(w':World)(S':tG)(ls':List Loc):Prop where
 len:ls'.length=bs'.length
 more:n<=bs'.length
 sub:Sub S S'
 mem:Mem P S' (look ls') (look bs') w'
 yi:∀ad v,S' ad=some v->S ad=some v∨w.heap.size<=ad.block∨ad.block∈AV ls
 le:tO (look ls) (look ls')
 own:∀k L b,look ls' k=some L->L.has b->b∈AV ls∨w.heap.size<=b
 frame:Frame E (AV ls) w w'
 res:R S' (look ls') r v
def uM(P:Program)(base:wX)(f:FuncId)(args:List RV)(bs:List Box)(r:RV)(c:List Box):Prop:=
 ∀(S:tG)(w:World)(ls:List Loc)(vs:Array Value),Mem P S (look ls) (look bs) w->ls.length=bs.length->Sub base.snap S->(∀x∈base.objs,w.heap[x.1]? =some x.2∧∃o v,base.snap ⟨x.1,o,none⟩=some v)->
  args.length=vs.size->(∀(i:Nat)a v,args[i]? =some a->vs[i]? =some v->R S (look ls) a v)->
  B3 P f vs w λv w'=>∃S' g,yj P base.mono S w ls bs.length r c v w' S' g
def vX(P:Program)(base:wX)(call:tI):Prop:=∀f args bs r a,call f args bs=some (r,a)->uM P base f args bs r a
section
variable {P:Program}{X:Ctx}{S:tG}{loc:ui}{s:St}{tm:Array Value}{w:World}
theorem D8{by_:Bool}{c x:RV}{b:tY}{u:Ups}{r:List Nat}(h:argD by_ c b=some ((x,u),r,true)):
  wR u∧(∀y∈u,∃ver e es,b y.1=some (.arr ver e es))∧
  ∀S loc S' loc' v,Sub S S'->tO loc loc'->(∀y∈u,Frz b S loc S' y.1)->R S loc c v->R S' loc' x v:=by
 have same:∀{r:List Nat},M.pure (c,([]:Ups)) b=some ((x,u),r,true)->wR u∧(∀y∈u,∃ver e es,b y.1=some (.arr ver e es))∧
   ∀S loc S' loc' v,Sub S S'->tO loc loc'->(∀y∈u,Frz b S loc S' y.1)->R S loc c v->R S' loc' x v:=by
  intro r h
  obtain⟨h1, -, -⟩:=M.tB h
  cases h1
  exact⟨(λy q=>by cases q),(λy q=>by cases q),λS loc S' loc' v hs t _ l=>l.mono hs t⟩
 have data:∀{r:List Nat}{p:PD}{u1:Ups},wv c b=some ((p,u1),r,true)->x= .d p->u=u1->wR u∧(∀y∈u,∃ver e es,b y.1=some (.arr ver e es))∧
   ∀S loc S' loc' v,Sub S S'->tO loc loc'->(∀y∈u,Frz b S loc S' y.1)->R S loc c v->R S' loc' x v:=by
  rintro r p u1 h rfl rfl
  obtain⟨a1,a2,a3⟩:=yU h
  exact⟨a1,a2,λS loc S' loc' v hs _ hf l=>.d (a3 S loc S' v l hs hf)⟩
 have tL:(M.bind (wv c) fun(p,u)=>M.tL c.sized ((RV.d p,u):RV×Ups)) b=some ((x,u),r,true)->wR u∧(∀y∈u,∃ver e es,b y.1=some (.arr ver e es))∧
   ∀S loc S' loc' v,Sub S S'->tO loc loc'->(∀y∈u,Frz b S loc S' y.1)->R S loc c v->R S' loc' x v:=by
  intro h
  obtain⟨⟨p,u1⟩,z,B,h1,j,_⟩:=M.bind_some h
  obtain⟨k, -, -⟩:=M.tK j
  cases k
  exact data h1 rfl rfl
 have a:(if by_ then M.pure (c,([]:Ups))else M.bind (wv c) fun(p,u)=>M.pure ((RV.d p,u):RV×Ups)) b=some ((x,u),r,true)->wR u∧(∀y∈u,∃ver e es,b y.1=some (.arr ver e es))∧
   ∀S loc S' loc' v,Sub S S'->tO loc loc'->(∀y∈u,Frz b S loc S' y.1)->R S loc c v->R S' loc' x v:=by
  intro h
  cases by_ with
  |true=>exact same h
  |false=>
   simp only [FD,if_false]at h
   obtain⟨⟨p,u1⟩,z,B,h1,j,_⟩:=M.bind_some h
   obtain⟨k, -, -⟩:=M.tB j
   cases k
   exact data h1 rfl rfl
 cases c with
 |ptr _ _=>exact same h
 |elt _ _ _ _=>exact same h
 |clo _ _=>exact same h
 |err _=>exact tL h
 |ifc _ _=>exact same h
 |plit _=>exact tL h
 |pcp _=>exact tL h
 |ref _ _=>exact a h
 |view _ _ _ _=>exact a h
 |d _=>exact tL h
 |undef=>exact tL h
 |junk=>exact tL h
 |tC=>
  by_cases g:by_=true
  ·subst g;exact same h
  ·have f:by_=false:=by cases by_<;>simp_all
   subst f
   exact tL h
 |agg _=>
  by_cases g:by_=true
  ·subst g;exact same h
  ·have f:by_=false:=by cases by_<;>simp_all
   subst f
   exact tL h
 |tup _=>exact tL h
 |cptr _=>exact tL h
theorem A7{by_:Nat->Bool}:∀{args:List RV}{i:Nat}{b:tY}{as:List RV}{u:Ups}{r:List Nat},xx by_ i args b=some ((as,u),r,true)->
  wR u∧(∀x∈u,∃ver e es,b x.1=some (.arr ver e es))∧as.length=args.length∧
  ∀S loc S' loc',Sub S S'->tO loc loc'->(∀x∈u,Frz b S loc S' x.1)->
   ∀(i:Nat)x a v,args[i]? =some x->as[i]? =some a->R S loc x v->R S' loc' a v
 | [],i,b,as,u,r,h=>by
  obtain⟨h1, -, -⟩:=M.tB (b:=b) h
  cases h1
  exact⟨(λx f=>by cases f),(λx f=>by cases f),rfl,λS loc S' loc' _ _ _ i x a v f=>by simp at f⟩
 |c::cs,i,b,as,u,r,h=>by
  obtain⟨⟨x,u1⟩,G,H,h1,C,_⟩:=M.bind_some h
  obtain⟨⟨l,u2⟩,I,J,D,E,_⟩:=M.bind_some C
  obtain⟨F, -, -⟩:=M.tB E
  cases F
  obtain⟨a1,a2,a3⟩:=D8 h1
  obtain⟨b1,b2,z,B⟩:=A7 D
  refine⟨λx f=>(List.mem_append.1 f).elim (a1 x) (b1 x),λx f=>(List.mem_append.1 f).elim (a2 x) (b2 x),by simp [z],?_⟩
  intro S loc S' loc' hs p t j y a v k g q
  cases j with
  |zero=>
   simp only [EV,EC]at k g
   subst k;subst g
   exact a3 S loc S' loc' v hs p (λx f=>t x (List.mem_append.2 (.inl f))) q
  |succ j=>
   simp only [EU]at k g
   exact B S loc S' loc' hs p (λx f=>t x (List.mem_append.2 (.inr f))) j y a v k g q
theorem zl:∀{ids:List Nat}{b:tY}{l:List Box}{r:List Nat},xB ids b=some (l,r,true)->
  l.length=ids.length∧∀(j:Nat)id,ids[j]? =some id->∃c,b id=some c∧l[j]? =some c
 | [],b,l,r,h=>by
  obtain⟨h1, -, -⟩:=M.tB (b:=b) h
  subst h1
  exact⟨rfl,λj id a=>by simp at a⟩
 |i::ids,b,l,r,h=>by
  obtain⟨c,u,x,h1,f,_⟩:=M.bind_some h
  obtain⟨q,_,_⟩:=M.get_some h1
  obtain⟨t,y,z,g,k,_⟩:=M.bind_some f
  obtain⟨p, -, -⟩:=M.tB k
  subst p
  obtain⟨g1,g2⟩:=zl g
  refine⟨by simp [g1],λj id a=>?_⟩
  cases j with
  |zero=>simp only [EV,EC]at a;subst a;exact⟨c,q,rfl⟩
  |succ j=>simp only [EU]at a⊢;exact g2 j id a
theorem zg:∀{ids:List Nat}{b:tY}{x:Unit}{r:List Nat},vr ids b=some (x,r,true)->∀i∈ids,b i=none
 | [],b,x,r,_=>λi hi=>by cases hi
 |i::ids,b,x,r,h=>by
  obtain⟨_,g,k,h1,c,_⟩:=M.bind_some h
  obtain⟨f,_,_⟩:=M.uD h1
  intro j a
  rcases List.mem_cons.1 a with rfl|a
  ·exact f
  ·exact zg c j a
theorem zt:∀{l:List Nat},nodup l=true->l.Nodup
 | [],_=>List.nodup_nil
 |a::r,h=>by
  simp only [nodup,E8,Bool.not_eq_true']at h
  refine List.nodup_cons.2 ⟨?_,zt h.2⟩
  intro hm
  have:=h.1
  simp [hm]at this
theorem yO{a b:List Nat}(h:Bj a b=true):∀x∈a,x∉b:=λx f c=>by
 have:=List.all_eq_true.1 h x f
 simp [c]at this
theorem xQ:∀{l:List Nat}{id k:Nat},idxOf l id=some k->l[k]? =some id
 | [],id,k,h=>by simp [idxOf]at h
 |a::r,id,k,h=>by
  simp only [idxOf]at h
  split at h
  ·rename_i f;cases h;subst f;rfl
  ·cases c:idxOf r id with
   |none=>simp [c]at h
   |some j=>simp only [c,Option.map_some,EC]at h;subst h;simpa using xQ c
theorem yR:∀{l:List Nat}{id k:Nat},l.Nodup->l[k]? =some id->idxOf l id=some k
 | [],id,k,_,h=>by simp at h
 |a::r,id,k,c,h=>by
  rw [Fi]at c
  cases k with
  |zero=>simp only [EV,EC]at h;subst h;simp [idxOf]
  |succ k=>
   simp only [EU]at h
   have f:id≠a:=λe=>c.1 (by subst e;exact E1 h)
   simp [idxOf,f,yR c.2 h]
theorem D6:∀(ids:List Nat)(bs:List Box)(s:St),ids.Nodup->bs.length=ids.length->∀(j:Nat)id a,ids[j]? =some id->bs[j]? =some a->(s.ups (ids.zip bs)).boxes id=some a
 | [],bs,s,_,_,j,id,a,c,_=>by simp at c
 |i::ids,[],s,_,g,j,id,a,_,_=>by simp at g
 |i::ids,b::bs,s,k,g,j,id,a,c,f=>by
  rw [Fi]at k
  simp only [List.length_cons]at g
  rw [List.zip_cons_cons,vJ]
  cases j with
  |zero=>
   simp only [EV,EC]at c f
   subst c;subst f
   rw [vq _ _ _ (λhm => k.1 (by
    obtain⟨x,p,l⟩:=List.mem_map.1 hm
    rw [<-l]
    exact(Fj p).1))]
   exact tJ _ _ _
  |succ j=>
   simp only [EU]at c f
   exact D6 ids bs _ k.2 za j id a c f
theorem DT(ids:List Nat)(bs:List Box)(s:St)(id:Nat)(h:id∉ids):(s.ups (ids.zip bs)).boxes id=s.boxes id:=by
 refine vq _ _ _ λhm=>h ?_
 obtain⟨x,c,a⟩:=List.mem_map.1 hm
 rw [<-a]
 exact(Fj c).1
theorem Frame.trans{E:Prop}{B0 c:List Nat}{w0 w w':World}(h:Frame E B0 w0 w)(a:Frame E c w w')(j:∀b∈c,b∈B0∨w0.heap.size<=b):Frame E B0 w0 w':=
 ⟨a.os.trans h.os, a.tape.trans h.tape, a.output.trans h.output, EO h.size a.size, λb f g => by
  rw [a.block b (Nat.lt_of_lt_of_le f h.size) ?_]
  ·exact h.block b f g
  ·intro hm
   rcases j b hm with h1|h1
   ·exact g h1
   ·omega,λhe=>EO (h.drawn he) (a.drawn he)⟩
end
end Go.Dw
namespace Go.Dw
section
variable {P:Program}{X:Ctx}{S:tG}{loc:ui}{s:St}{tm:Array Value}{w:World}
theorem CZ(h:Sim P X S loc s tm w){ids:List Nat}{l bs2:List Box}{b:tY}{f:Nat->Nat->Nat}{ρ:Ren}(F:ids.Nodup)(hlen:l.length=ids.length)(B:∀(j:Nat)id,ids[j]? =some id->∃c,s.boxes id=some c∧l[j]? =some c)
  (y:∀id c,b id=some c->s.boxes id=some c) (D:ρ=⟨idxOf ids,uz b f⟩) (C:bs2.length=ids.length) (t:∀(k:Nat)id c,ids[k]? =some id->l[k]? =some c->bs2[k]? =some (vU ρ (f id) c)):
  ∃ls:List Loc,ls.length=ids.length∧(∀(j:Nat)id,ids[j]? =some id->∃L,loc id=some L∧ls[j]? =some (tV (f id) L))∧yl ρ loc (look ls)∧Mem P S (look ls) (look bs2) w:=by
 have r:∀(j:Nat)id,ids[j]? =some id->∃L,loc id=some L:=λj id x=>by
  obtain⟨c,y,_⟩:=B j id x
  obtain⟨L,h1,_⟩:=h.boxes id c y
  exact⟨L,h1⟩
 let ls:List Loc:=ids.map λid=>match loc id with|some L=>tV (f id) L|none=>.dead
 have g:∀(j:Nat)id,ids[j]? =some id->∃L,loc id=some L∧ls[j]? =some (tV (f id) L):=λj id x=>by
  obtain⟨L,h1⟩:=r j id x
  exact⟨L,h1,by simp [ls,x,h1]⟩
 have G:yl ρ loc (look ls):=by
  subst D
  refine yl.mk' (P:=P) (S:=S) (w:=w) (λid c z=>h.boxes id c (y id c z)) (λid k L hp r=>?_)
  obtain⟨E,h1,t⟩:=g k id (xQ hp)
  rw [r]at h1
  cases h1
  rw [uk]
  exact t
 refine⟨ls,by simp [ls],g,G,h.mem.ren G (λk H hk=>?_) (λk E hk=>?_)⟩
 ·rw [uk]at hk
  have p:k<ids.length:=by rw [<-C];exact(List.getElem?_eq_some_iff.1 hk).1
  have a:=ze p
  obtain⟨c,h1,q⟩:=B k _ a
  rw [t k _ c a q]at hk
  cases hk
  refine⟨ids[k],c,_,by rw [D];exact yR F a,h1,rfl,λL r=>?_⟩
  obtain⟨E,q,u⟩:=g k _ a
  rw [r]at q
  cases q
  rw [uk]
  exact u
 ·rw [uk]at hk
  have p:k<ids.length:=by have:=(List.getElem?_eq_some_iff.1 hk).1;simpa [ls]using this
  have a:=ze p
  obtain⟨L,q,u⟩:=g k _ a
  obtain⟨c,_,I⟩:=B k _ a
  rw [hk]at u
  cases u
  exact⟨⟨_,by rw [uk];exact t k _ c a I⟩,ids[k],L,_,by rw [D];exact yR F a,q,rfl⟩
theorem Sim.D7(h:Sim P X S loc s tm w){ids news:List Nat}{G:List Box}{ls a5:List Loc}{off:Nat->Nat}{r:RV}{v:Value}{w':World}{S':tG}{σ:Ren}(hn:ids.Nodup)
  (hlen:ls.length=ids.length) (b0:∀(j:Nat)id,ids[j]? =some id->∃L,loc id=some L∧ls[j]? =some (tV (λ_=>0) L))
  (I:∀(j:Nat)id ver e sz hdr L,ids[j]? =some id->loc id=some L->L.Row ver e sz hdr->off j=ver)
  (a8:∀i∈news,s.boxes i=none) (c4:news.Nodup) (c1:(ids++news).length=G.length)
  (hσ:σ=⟨look (ids++news),uz (look G) λk cur=>off k+cur⟩) (E:yj P X.base.mono S w ls ids.length r G v w' S' a5):
  ∃f,Sim P X S' f (s.ups ((ids++news).zip (G.zipIdx.map λx=>vU σ (λcur=>off x.2+cur) x.1))) tm w'∧R S' f (uZ σ r) v∧tO loc f:=by
 have hold:∀id∈ids,∃L,loc id=some L:=λid c=>by
  obtain⟨j,hj⟩:=FP c
  obtain⟨L,h1,_⟩:=b0 j id hj
  exact⟨L,h1⟩
 have a7:(ids++news).Nodup:=by
  rw [List.nodup_append]
  refine⟨hn,c4,λa E b q c2=>?_⟩
  subst c2
  obtain⟨L,h1⟩:=hold a E
  obtain⟨bx,p⟩:=h.dom a L h1
  rw [a8 a q]at p
  cases p
 let f:ui:=λid=>match idxOf (ids++news) id with|some k=>(look a5 k).map (tV (off k+ ·))|none=>loc id
 have a6:∀k id,(ids++news)[k]? =some id->f id=(look a5 k).map (tV (off k+ ·)):=λk id hk=>by
  simp only [f,yR a7 hk]
 have y:∀id,id∉ids++news->f id=loc id:=λid c=>by
  simp only [f]
  cases hi:idxOf (ids++news) id with
  |none=>rfl
  |some k=>exact(c (E1 (xQ hi))).elim
 have hr:yl σ (look a5) f:=by
  subst hσ
  refine yl.mk' (P:=P) (S:=S') (w:=w') E.mem.boxes (λk id L hp g=>?_)
  rw [uk]at hp
  rw [a6 k id hp,g]
  rfl
 have hblk:∀b∈AV ls,∃id∈ids,∃L,loc id=some L∧L.has b:=λb q=>by
  obtain⟨k,L,h1,p⟩:=w4.1 q
  rw [uk]at h1
  have hk:k<ids.length:=by rw [<-hlen];exact(List.getElem?_eq_some_iff.1 h1).1
  obtain⟨D,H,l⟩:=b0 k _ (ze hk)
  rw [h1]at l
  cases l
  rw [wE]at p
  exact⟨_,List.getElem_mem hk,D,H,p⟩
 have J:∀b∈AV ls,b∈X.B0∨X.w0.heap.size<=b:=λb q=>by
  obtain⟨id,_,L,h1,p⟩:=hblk b q
  exact h.own id L b h1 p
 have hle:tO loc f:=λid L g=>by
  by_cases c:id∈ids++news
  rotate_left
  ·exact⟨L,by rw [y id c];exact g,.same _⟩
  obtain⟨k,hk⟩:=FP c
  have c3:k<ids.length:=by
   by_cases Q:k<ids.length
   ·exact Q
   ·rw [List.getElem?_append_right za]at hk
    obtain⟨bx,W⟩:=h.dom id L g
    rw [a8 id (E1 hk)]at W
    cases W
  have O:ids[k]? =some id:=by rwa [List.getElem?_append_left c3]at hk
  obtain⟨L0,h1,p⟩:=b0 k id O
  rw [g]at h1
  cases h1
  obtain⟨D,H,l⟩:=E.le k _ (by rw [uk];exact p)
  refine⟨tV (off k+ ·) D,by rw [a6 k id hk,H];rfl,?_⟩
  generalize Y:tV (λ_=>0) L=L1 at l
  cases l with
  |same=>
   subst Y
   cases L with
   |arr ver e sz hdr=>
    have:=I k id ver e sz hdr _ O g .arr
    simp only [tV,E4,this]
    exact .same _
   |nest ver e sz hdr bs=>
    have:=I k id ver e sz hdr _ O g .nest
    simp only [tV,E4,this]
    exact .same _
   |var b=>exact .same _
   |dead=>exact .same _
  |dead=>exact .dead _
  |arr Q=>
   cases L<;>simp only [tV,Loc.arr.injEq,reduceCtorEq]at Y
   rename_i ver e sz hdr
   have:=I k id ver e sz hdr _ O g .arr
   obtain⟨Y, -⟩:=Y
   exact .arr (show ver<off k+_ by omega)
  |nest Q=>
   cases L<;>simp only [tV,Loc.nest.injEq,reduceCtorEq]at Y
   rename_i ver e sz hdr bs
   have:=I k id ver e sz hdr _ O g .nest
   obtain⟨Y, -⟩:=Y
   exact .nest (show ver<off k+_ by omega)
  |held=>
   cases L<;>simp only [tV,Loc.nest.injEq,reduceCtorEq]at Y
   rename_i ver e sz hdr bs
   have:=I k id ver e sz hdr _ O g .nest
   obtain⟨rfl,rfl,rfl,rfl,rfl⟩:=Y
   simp only [tV,E4,this]
   exact .held
 have W:∀k id,(ids++news)[k]? =some id->∃bx,G[k]? =some bx∧(s.ups ((ids++news).zip (G.zipIdx.map λx=>vU σ (λcur=>off x.2+cur) x.1))).boxes id=some (vU σ (λcur=>off k+cur) bx):=λk id hk=>by
  have Q:k<G.length:=by rw [<-c1];exact(List.getElem?_eq_some_iff.1 hk).1
  refine⟨G[k],ze Q,?_⟩
  refine D6 _ _ s a7 (by simp [c1]) k id _ hk ?_
  simp [Q]
 have c0:∀id,id∉ids++news->(s.ups ((ids++news).zip (G.zipIdx.map λx=>vU σ (λcur=>off x.2+cur) x.1))).boxes id=s.boxes id:=λid c=>DT _ _ s id c
 have z:∀id L b,id∉ids++news->loc id=some L->L.has b->b<w.heap.size∧b∉AV ls:=λid L b c g q=>by
  refine⟨h.mem.lt g q,λhm=>?_⟩
  obtain⟨C,h1,D,p,H⟩:=hblk b hm
  have:=h.inj id C L D b g p q H
  subst this
  exact c (List.mem_append.2 (.inl h1))
 have B:∀id L b,id∈ids++news->f id=some L->L.has b->∃k D,look a5 k=some D∧D.has b∧(ids++news)[k]? =some id∧(b∈AV ls∨w.heap.size<=b):=λid L b c g q=>by
  obtain⟨k,hk⟩:=FP c
  rw [a6 k id hk,Option.map_eq_some_iff]at g
  obtain⟨D,h1,rfl⟩:=g
  rw [wE]at q
  exact⟨k,D,h1,q,hk,E.own k D b h1 q⟩
 refine⟨f,⟨h.nt,?_,?_,?_,E.mem.imm,E.mem.wU,?_,?_,?_,h.frame.trans E.frame J,h.s0.trans E.sub,?_,?_,h.bs.trans E.sub,λx Y=>?_⟩,R.uZ hr E.res,hle⟩
 rotate_right
 ·obtain⟨h1,o,v,p⟩:=h.ob x Y
  refine⟨?_,o,v,p⟩
  rw [<-h1]
  refine E.frame.block _ (Array.getElem?_eq_some_iff.1 h1).1 λhm=>?_
  obtain⟨id,_,L,H,l⟩:=hblk _ hm
  have T:=h.vV id L x.1 H l o
  rw [h.bs _ _ p]at T
  cases T
 ·intro t rv ht
  rw [vK]at ht
  obtain⟨u,h1,p⟩:=h.tT t rv ht
  exact⟨u,h1,p.mono E.sub hle⟩
 ·intro id bx q
  by_cases c:id∈ids++news
  ·obtain⟨k,hk⟩:=FP c
   obtain⟨b4,h1,p⟩:=W k id hk
   rw [p]at q
   cases q
   obtain⟨L,H,l⟩:=E.mem.boxes k b4 (by rw [uk];exact h1)
   exact⟨tV (off k+ ·) L,by rw [a6 k id hk,H];rfl,xa.ren hr _ l⟩
  ·rw [c0 id c]at q
   obtain⟨L,h1,p⟩:=h.boxes id bx q
   refine⟨L,by rw [y id c];exact h1,p.j0 E.sub hle λb N=>?_⟩
   obtain⟨H,l⟩:=z id L b c h1 N
   exact E.frame.block b H l
 ·intro id L g
  by_cases c:id∈ids++news
  ·obtain⟨k,hk⟩:=FP c
   obtain⟨b4,_,p⟩:=W k id hk
   exact⟨_,p⟩
  ·rw [y id c]at g
   rw [c0 id c]
   exact h.dom id L g
 ·intro id L b g q o
  by_cases c:id∈ids++news
  ·obtain⟨k,D,h1,p,_⟩:=B id L b c g q
   exact E.mem.vV k D b h1 p o
  ·rw [y id c]at g
   obtain⟨H,l⟩:=z id L b c g q
   cases hS:S' ⟨b,o,none⟩with
   |none=>rfl
   |some u=>
    rcases E.yi _ u hS with T|T|T
    ·rw [h.vV id L b g q o]at T;cases T
    ·simp only at T;omega
    ·exact(l T).elim
 ·intro id C L D b g K q N
  by_cases c:id∈ids++news
  ·obtain⟨k,L1,h1,p,H,l⟩:=B id L b c g q
   by_cases F:C∈ids++news
   ·obtain⟨k',b3,b5,b6,a9,_⟩:=B C D b F K N
    have:=E.mem.inj k k' L1 b3 b h1 b5 p b6
    subst this
    rw [H]at a9
    exact Fg a9
   ·rw [y C F]at K
    obtain⟨T,h6⟩:=z C D b F K N
    rcases l with l|l
    ·exact(h6 l).elim
    ·omega
  ·rw [y id c]at g
   obtain⟨T,h6⟩:=z id L b c g q
   by_cases F:C∈ids++news
   ·obtain⟨k',b3,b5,b6,a9,l⟩:=B C D b F K N
    rcases l with l|l
    ·exact(h6 l).elim
    ·omega
   ·rw [y C F]at K
    exact h.inj id C L D b g K q N
 ·intro id L b g q
  by_cases c:id∈ids++news
  ·obtain⟨k,L1,h1,p,H,l⟩:=B id L b c g q
   rcases l with l|l
   ·exact J b l
   ·exact .inr (EO h.frame.size l)
  ·rw [y id c]at g
   exact h.own id L b g q
 ·intro k L0 hk
  obtain⟨L,h1,p⟩:=h.par k L0 hk
  obtain⟨D,H,l⟩:=hle k L h1
  exact⟨D,H,uc.trans p l⟩
 ·intro ad u hu
  rcases E.yi ad u hu with h1|h1|h1
  ·exact h.yi ad u h1
  ·exact .inr (.inl (EO h.frame.size h1))
  ·exact .inr ((J _ h1).symm)
theorem R.AM{S':tG}{loc':ui}{r:RV}{v:Value}(hf:AM r=true)(h:R S loc r v):R S' loc' r v:=by
 have hp:∀{p:PD}{v:Value},flatP p=true->V S p v->V S' p v:=by
  intro p v hf h
  cases h with
  |bool=>exact .bool _
  |int=>exact .int _ _
  |str=>exact .str _
  |_=>cases hf
 cases r with
 |d p=>
  cases h with
  |d h=>
  cases h with
  |bool=>exact .d (.bool _)
  |int=>exact .d (.int _ _)
  |str=>exact .d (.str _)
  |agg cs vs c h=>
   simp only [Dw.AM,List.all_eq_true]at hf
   exact .d (.agg cs vs c λi p v h1 a=>hp (hf p (E1 h1)) (h i p v h1 a))
  |_=>cases hf
 |err b=>
  cases h with
  |err=>exact .err _ _
  |noerr=>exact .noerr
 |_=>cases hf
theorem R.flatR{S':tG}{loc':ui}{σ:Ren}{r:RV}{v:Value}(hf:flatV r=true)(h:R S loc (Dw.uZ σ r) v):R S' loc' (Dw.uZ σ r) v:=by
 cases r with
 |tup cs=>
  have h1:Dw.uZ σ (.tup cs)= .tup cs:=by
   simp only [Dw.uZ,RV.tup.injEq]
   refine(List.map_congr_left λc hc=>?_).trans (List.map_id _)
   have:=List.all_eq_true.1 hf c hc
   cases c<;>first|rfl|cases this
  rw [h1]at h⊢
  cases h with
  |tup cs vs f h=>exact .tup cs vs f λi c v a g=>(h i c v a g).AM (List.all_eq_true.1 hf c (E1 a))
 |d p=>exact R.AM (r:= .d p) hf h
 |err b=>exact R.AM (r:= .err b) hf h
 |_=>cases hf
theorem Sim.frame0(h:Sim P X S loc s tm w){w':World}{f:List Nat}(a:f=[])(hs:Frame X.base.mono f w w'):Sim P X S loc s tm w':=by
 subst a
 refine⟨h.nt,h.tT,?_,h.dom,?_,h.wU,h.vV,h.inj,h.own,h.frame.trans hs (λb a=>by cases a),h.s0,h.par,h.yi,h.bs,λx c=>⟨by rw [<-(h.ob x c).1];exact hs.block _ (Array.getElem?_eq_some_iff.1 (h.ob x c).1).1 zb,(h.ob x c).2⟩⟩
 ·intro i j a
  obtain⟨L,h1,g⟩:=h.boxes i j a
  exact⟨L,h1,g.j0 (Sub.refl S) (tO.refl loc) (λb a=>hs.block b (g.wH a) zb)⟩
 ·intro ad v k
  have hc:=h.imm ad v k
  rw [<-hc]
  exact vC (hs.block ad.block (World.block_lt_of_cell? w ad hc) zb)
theorem wJ{by_:FuncId->Nat->Bool}{call:tI}(D:vX P X.base call){o:Oper}{a:Act}(h:Sim P X S loc s a.tmps w)(hd:a.defers=[])(q:∀d,o.dst=some d->d<X.nt){f:FuncId}{base:Nat}{args:List RV}{v:RV}{u:Ups}{r:List Nat}
  (hl:vA by_ call f base args s.boxes=some ((v,u),r,true)) {vs:Array Value} (hlen:args.length=vs.size) (B:∀(i:Nat)x y,args[i]? =some x->vs[i]? =some y->R S loc x y)
  (N:(execOp a.eval o).run P w=(callFunc f vs).run P w):xI P X ((s.ups u).put o.dst v) o a w:=by
 obtain⟨⟨as,u0⟩,r1,r2,h1,h2,_⟩:=M.bind_some hl
 obtain⟨ids,r3,r4,h3,h4,_⟩:=M.bind_some h2
 obtain⟨c,r5,r6,h5,I,_⟩:=M.bind_some h4
 rcases hc:call f (as.map (uZ (wL ids c))) (c.map (vU (wL ids c) λ_=>0))with _|⟨res,t⟩
 ·simp only [hc]at I;exact fE s.boxes I
 simp only [hc]at I
 split at I
 rotate_left
 ·exact fE s.boxes I
 rename_i E
 obtain⟨c3,a8,a9⟩:=E
 obtain⟨_,r7,r8,h7,h8,_⟩:=M.bind_some I
 obtain⟨h9, -, -⟩:=M.tB h8
 cases h9
 have hn:=zt a8
 obtain⟨a1,a2,a3,a4⟩:=A7 h1
 obtain⟨g1,g2⟩:=zl h5
 obtain⟨S1,loc1,g,O,hle,b3⟩:=h.yQ u0 a1 (λx hx=>.inl (a2 x hx))
 have F:∀id∈ids,(s.ups u0).boxes id=s.boxes id:=λid b4=>vq _ _ _ (yO a9 id b4)
 have hg:∀(j:Nat)id,ids[j]? =some id->∃z,(s.ups u0).boxes id=some z∧c[j]? =some z:=λj id hj=>by
  obtain⟨z,k1,k2⟩:=g2 j id hj
  exact⟨z,by rw [F id (E1 hj)];exact k1,k2⟩
 obtain ⟨ls, q1, q2, q3, q4⟩ := CZ g (f := λ_ _ => 0) (b := λi => (idxOf ids i).bind (look c)) (ρ := (wL ids c)) (bs2 := c.map (vU (wL ids c) λ_ => 0)) hn g1 hg (λid z hb => by
   rw [Option.bind_eq_some_iff]at hb
   obtain⟨k,m1,m2⟩:=hb
   obtain⟨c1,m3,m4⟩:=hg k id (xQ m1)
   rw [uk,m4]at m2
   cases m2
   exact m3) rfl (by simp [g1]) (λk id z hk a7=>by rw [FO,a7];rfl)
 have b6 := D f _ _ res t hc S1 w ls vs q4 (by rw [q1, Fh, g1]) g.bs g.ob (by rw [Fh, a3]; exact hlen) (λi x y hx hy => by
  rw [FO,Option.map_eq_some_iff]at hx
  obtain⟨x0,W,rfl⟩:=hx
  have hi:i<args.length:=by rw [<-a3];exact(List.getElem?_eq_some_iff.1 W).1
  exact R.uZ q3 (a4 S loc S1 loc1 O hle b3 i args[i] x0 y (ze hi) W (B i _ y (ze hi) hy)))
 intro K Q hK
 unfold Oper.wp
 rw [N]
 suffices tail:∀rv w',(∃S' a6,yj P X.base.mono S1 w ls (c.map (vU (wL ids c) λ_=>0)).length res t rv w' S' a6)->K (a.put o.dst rv) w' by
  rcases b6 with⟨⟨fn,b0,G,C⟩,l⟩|⟨rv,w',J,hR⟩
  ·have H:(callFunc f vs).run P w= .ok (.enter f vs) w:=by
    have : (fn.name == "runtime.NumGoroutine") = false := by simpa using G
    simp only [callFunc,Sem.run_bind,run_program,Result.andThen_ok,b0,this,C,FD,if_false,Sem.run_pure]
   rw [H,Oper.upon_enter]
   refine l.mono λe w' he=>?_
   obtain⟨rv,rfl,he⟩:=he
   exact tail rv w' he
  ·rw [J,Oper.upon_value]
   exact tail rv w' hR
 intro rv w' he
 obtain⟨S',a6,ha⟩:=he
 rw [Fh,g1]at ha
 have T:=zg h7
 obtain ⟨a5, k1, k2, _⟩ := g.D7 (off := offOf c) hn q1 q2 (λj id ver e sz hdr L hj hL J => by
   obtain⟨z,m1,m2⟩:=hg j id hj
   have:=g.wh m1 hL
   simp only [offOf,uk,m2]
   cases this with
   |arr=>cases J;rfl
   |nest=>cases J;rfl
   |dead _ hd=>subst hd;cases J
   |var=>cases J)
  (λi hi => by
   have hv:=T i hi
   rw [vq _ _ _ λhm=>?_]
   ·exact hv
   ·obtain⟨y,hy,c0⟩:=List.mem_map.1 hm
    obtain⟨ver,e,es,Y⟩:=a2 y hy
    rw [c0,hv]at Y
    cases Y)
  (by
   unfold vn
   rw [List.nodup_iff_pairwise_ne,List.pairwise_map]
   exact List.pairwise_lt_range.imp fun{a b}c2=>za)
  (by simp [vn];omega) rfl ha
 by_cases p:(ids.isEmpty&&(t.isEmpty&&flatV res))=true
 ·refine hK _ _ ⟨by cases o.dst<;>exact hd,S,loc,?_⟩
  rw [Bd,if_pos p]
  simp only [E8,List.isEmpty_iff]at p
  obtain⟨e1,e2,e3⟩:=p
  subst e1
  have b5:ls=[]:=List.eq_nil_of_length_eq_zero q1
  subst b5
  exact(h.frame0 rfl ha.frame).put (a:=a) (k2.flatR e3) o.dst q
 refine hK _ _ ⟨by cases o.dst<;>exact hd,S',a5,?_⟩
 rw [Bd,if_neg p,yb]
 exact k1.put (a:=a) k2 o.dst q
end
end Go.Dw
