
import Derived.Test.YtgdhcacjeppglaaGreatDwRen
set_option linter.unusedVariables false
set_option linter.unusedSimpArgs false
open List renaming getElem?_cons_succ->AT, getElem?_cons_zero->AU, getElem?_map->As, getElem?_of_mem->Au, length_map->B7, mem_of_getElem?->A1, nodup_cons->B8, of_mem_zip->B9
open Bool renaming and_eq_true->Ac, false_eq_true->Aj
open Option.some renaming inj->BT, injEq->AD
open Nat renaming add_zero->A7, le_trans->AO

namespace Go.Dw
def Loc.blocks:Loc->List Nat
 | .nest _ _ _ hdr bs=>(cA hdr).toList++bs
 | .mapn b bs=>b::bs
 |L=>L.block.toList
theorem ks{L:Loc}{b:Nat}:b∈L.blocks↔L.has b:=by
 cases L<;>simp [Loc.blocks,Loc.has,Loc.block,eq_comm]
def j3(ls:List Loc):List Nat:=ls.flatMap Loc.blocks
theorem cS{α:Type}:∀(l:List α)(i:Nat),look l i=l[i]?
 | [],_=>rfl
 |a::r,0=>rfl
 |a::r,n+1=>by rw [look,cS r n];rfl
theorem mf{ls:List Loc}{b:Nat}:b∈j3 ls↔∃k L,look ls k=some L∧L.has b:=by
 unfold j3
 rw [List.mem_flatMap]
 constructor
 ·rintro⟨L,a,hb⟩
  obtain⟨k,hk⟩:=Au a
  exact⟨k,L,by rw [cS];exact hk,ks.1 hb⟩
 ·rintro⟨k,L,hk,hb⟩
  rw [cS]at hk
  exact⟨L,A1 hk,ks.2 hb⟩
def Enters (P : Program) (f : FuncId) : Prop := ∃ fn, P.funcs[f]? = some fn ∧ fn.name ≠ "runtime.NumGoroutine" ∧ fn.body.isNone = false
def lp(P:Program)(f:FuncId)(vs:Array Value)(w:World)(R:Value->World->Prop):Prop:=
 (Enters P f∧Calls P f vs w fun e w'=>∃v,e= .returned v∧R v w')∨(∃v w',(callFunc f vs).run P w= .ok (.value v) w'∧R v w')
structure kR(P:Program)(E:Prop)(S:cp)(w:World)(ls:List Loc)(n:Nat)(r:RV)(bs':List Box)(v:Value)(w':World)(S':cp)(ls':List Loc):Prop where
 len:ls'.length=bs'.length
 more:n<=bs'.length
 sub:Sub S S'
 mem:Mem P S' (look ls') (look bs') w'
 gE:∀ad v,S' ad=some v->S ad=some v∨w.heap.size<=ad.block∨ad.block∈j3 ls
 le:cm (look ls) (look ls')
 own:∀k L b,look ls' k=some L->L.has b->b∈j3 ls∨w.heap.size<=b
 frame:Frame E (j3 ls) w w'
 res:R S' (look ls') r v
def fJ(P:Program)(base:iZ)(f:FuncId)(args:List RV)(bs:List Box)(r:RV)(b:List Box):Prop:=
 ∀(S:cp)(w:World)(ls:List Loc)(vs:Array Value),Mem P S (look ls) (look bs) w->ls.length=bs.length->Sub base.snap S->(∀x∈base.objs,w.heap[x.1]? =some x.2∧∃o v,base.snap ⟨x.1,o,none⟩=some v)->
  args.length=vs.size->(∀(i:Nat)a v,args[i]? =some a->vs[i]? =some v->R S (look ls) a v)->
  lp P f vs w fun v w'=>∃S' c,kR P base.mono S w ls bs.length r b v w' S' c
def ea(P:Program)(base:iZ)(call:cB):Prop:=∀f args bs r a,call f args bs=some (r,a)->fJ P base f args bs r a
section
variable {P:Program}{X:Ctx}{S:cp}{loc:cJ}{s:St}{tm:Array Value}{w:World}
theorem n9{by_:Bool}{c x:RV}{b:cI}{u:Ups}{r:List Nat}(h:argD by_ c b=some ((x,u),r,true)):
  eY u∧(∀y∈u,∃ver e es,b y.1=some (.arr ver e es))∧
  ∀S loc S' loc' v,Sub S S'->cm loc loc'->(∀y∈u,Frz b S loc S' y.1)->R S loc c v->R S' loc' x v:=by
 have same:∀{r:List Nat},M.pure (c,([]:Ups)) b=some ((x,u),r,true)->eY u∧(∀y∈u,∃ver e es,b y.1=some (.arr ver e es))∧
   ∀S loc S' loc' v,Sub S S'->cm loc loc'->(∀y∈u,Frz b S loc S' y.1)->R S loc c v->R S' loc' x v:=by
  intro r h
  obtain⟨h1, -, -⟩:=M.cd h
  cases h1
  exact⟨(fun y m=>by cases m),(fun y m=>by cases m),fun S loc S' loc' v l hl _ k=>k.mono l hl⟩
 have data:∀{r:List Nat}{p:PD}{u1:Ups},eX c b=some ((p,u1),r,true)->x= .d p->u=u1->eY u∧(∀y∈u,∃ver e es,b y.1=some (.arr ver e es))∧
   ∀S loc S' loc' v,Sub S S'->cm loc loc'->(∀y∈u,Frz b S loc S' y.1)->R S loc c v->R S' loc' x v:=by
  rintro r p u1 h rfl rfl
  obtain⟨n,a2,a3⟩:=fW h
  exact⟨n,a2,fun S loc S' loc' v l _ hf k=>.d (a3 S loc S' v k l hf)⟩
 have cr:(M.bind (eX c) fun(p,u)=>M.cr c.sized ((RV.d p,u):RV×Ups)) b=some ((x,u),r,true)->eY u∧(∀y∈u,∃ver e es,b y.1=some (.arr ver e es))∧
   ∀S loc S' loc' v,Sub S S'->cm loc loc'->(∀y∈u,Frz b S loc S' y.1)->R S loc c v->R S' loc' x v:=by
  intro h
  obtain⟨⟨p,u1⟩,o,q,h1,i,_⟩:=M.bind_some h
  obtain⟨j, -, -⟩:=M.cg i
  cases j
  exact data h1 rfl rfl
 have a:(if by_ then M.pure (c,([]:Ups))else M.bind (eX c) fun(p,u)=>M.pure ((RV.d p,u):RV×Ups)) b=some ((x,u),r,true)->eY u∧(∀y∈u,∃ver e es,b y.1=some (.arr ver e es))∧
   ∀S loc S' loc' v,Sub S S'->cm loc loc'->(∀y∈u,Frz b S loc S' y.1)->R S loc c v->R S' loc' x v:=by
  intro h
  cases by_ with
  |true=>exact same h
  |false=>
   simp only [Aj,if_false]at h
   obtain⟨⟨p,u1⟩,o,q,h1,i,_⟩:=M.bind_some h
   obtain⟨j, -, -⟩:=M.cd i
   cases j
   exact data h1 rfl rfl
 cases c with
 |ptr _ _=>exact same h
 |elt _ _ _ _=>exact same h
 |clo _ _=>exact same h
 |fview _ _ _=>exact cr h
 |err _=>exact cr h
 |dfull _=>exact cr h
 |ifc _ _=>exact same h
 |plit _=>exact cr h
 |rlit _=>exact cr h
 |pcp _=>exact cr h
 |bnd _ _=>exact cr h
 |rfn _ _ _=>exact cr h
 |ref _ _=>exact a h
 |view _ _ _ _=>exact a h
 |d _=>exact cr h
 |undef=>exact cr h
 |junk=>exact cr h
 |cL=>
  by_cases g:by_=true
  ·subst g;exact same h
  ·have f:by_=false:=by cases by_<;>simp_all
   subst f
   exact cr h
 |agg _=>
  by_cases g:by_=true
  ·subst g;exact same h
  ·have f:by_=false:=by cases by_<;>simp_all
   subst f
   exact cr h
 |tup _=>exact cr h
 |cptr _=>exact cr h
theorem jX{by_:Nat->Bool}:∀{args:List RV}{i:Nat}{b:cI}{as:List RV}{u:Ups}{r:List Nat},hT by_ i args b=some ((as,u),r,true)->
  eY u∧(∀x∈u,∃ver e es,b x.1=some (.arr ver e es))∧as.length=args.length∧
  ∀S loc S' loc',Sub S S'->cm loc loc'->(∀x∈u,Frz b S loc S' x.1)->
   ∀(i:Nat)x a v,args[i]? =some x->as[i]? =some a->R S loc x v->R S' loc' a v
 | [],i,b,as,u,r,h=>by
  obtain⟨h1, -, -⟩:=M.cd (b:=b) h
  cases h1
  exact⟨(fun x f=>by cases f),(fun x f=>by cases f),rfl,fun S loc S' loc' _ _ _ i x a v f=>by simp at f⟩
 |c::cs,i,b,as,u,r,h=>by
  obtain⟨⟨x,u1⟩,G,H,h1,C,_⟩:=M.bind_some h
  obtain⟨⟨l,u2⟩,I,J,D,E,_⟩:=M.bind_some C
  obtain⟨F, -, -⟩:=M.cd E
  cases F
  obtain⟨p,a2,a3⟩:=n9 h1
  obtain⟨q,t,z,B⟩:=jX D
  refine⟨fun x f=>(List.mem_append.1 f).elim (p x) (q x),fun x f=>(List.mem_append.1 f).elim (a2 x) (t x),by simp [z],?_⟩
  intro S loc S' loc' n hl o j y a v k g m
  cases j with
  |zero=>
   simp only [AU,AD]at k g
   subst k;subst g
   exact a3 S loc S' loc' v n hl (fun x f=>o x (List.mem_append.2 (.inl f))) m
  |succ j=>
   simp only [AT]at k g
   exact B S loc S' loc' n hl (fun x f=>o x (List.mem_append.2 (.inr f))) j y a v k g m
theorem ik:∀{ids:List Nat}{b:cI}{l:List Box}{r:List Nat},hY ids b=some (l,r,true)->
  l.length=ids.length∧∀(j:Nat)id,ids[j]? =some id->∃c,b id=some c∧l[j]? =some c
 | [],b,l,r,h=>by
  obtain⟨h1, -, -⟩:=M.cd (b:=b) h
  subst h1
  exact⟨rfl,fun j id a=>by simp at a⟩
 |i::ids,b,l,r,h=>by
  obtain⟨c,n,o,h1,e,_⟩:=M.bind_some h
  obtain⟨hb,_,_⟩:=M.get_some h1
  obtain⟨m,p,q,f,g,_⟩:=M.bind_some e
  obtain⟨k, -, -⟩:=M.cd g
  subst k
  obtain⟨g1,g2⟩:=ik f
  refine⟨by simp [g1],fun j id a=>?_⟩
  cases j with
  |zero=>simp only [AU,AD]at a;subst a;exact⟨c,hb,rfl⟩
  |succ j=>simp only [AT]at a⊢;exact g2 j id a
theorem ia:∀{ids:List Nat}{b:cI}{x:Unit}{r:List Nat},ew ids b=some (x,r,true)->∀i∈ids,b i=none
 | [],b,x,r,_=>fun i e=>by cases e
 |i::ids,b,x,r,h=>by
  obtain⟨_,f,g,h1,c,_⟩:=M.bind_some h
  obtain⟨hb,_,_⟩:=M.cU h1
  intro j a
  rcases List.mem_cons.1 a with rfl|a
  ·exact hb
  ·exact ia c j a
theorem iv:∀{l:List Nat},nodup l=true->l.Nodup
 | [],_=>List.nodup_nil
 |a::r,h=>by
  simp only [nodup,Ac,Bool.not_eq_true']at h
  refine List.nodup_cons.2 ⟨?_,iv h.2⟩
  intro hm
  have:=h.1
  simp [hm]at this
theorem gW{a b:List Nat}(h:disj a b=true):∀x∈a,x∉b:=fun x c hb=>by
 have:=List.all_eq_true.1 h x c
 simp [hb]at this
theorem gh:∀{l:List Nat}{id k:Nat},idxOf l id=some k->l[k]? =some id
 | [],id,k,h=>by simp [idxOf]at h
 |a::r,id,k,h=>by
  simp only [idxOf]at h
  split at h
  ·rename_i c;cases h;subst c;rfl
  ·cases b:idxOf r id with
   |none=>simp [b]at h
   |some j=>simp only [b,Option.map_some,AD]at h;subst h;simpa using gh b
theorem gZ:∀{l:List Nat}{id k:Nat},l.Nodup->l[k]? =some id->idxOf l id=some k
 | [],id,k,_,h=>by simp at h
 |a::r,id,k,b,h=>by
  rw [B8]at b
  cases k with
  |zero=>simp only [AU,AD]at h;subst h;simp [idxOf]
  |succ k=>
   simp only [AT]at h
   have c:id≠a:=fun e=>b.1 (by subst e;exact A1 h)
   simp [idxOf,c,gZ b.2 h]
theorem nZ:∀(ids:List Nat)(bs:List Box)(s:St),ids.Nodup->bs.length=ids.length->∀(j:Nat)id a,ids[j]? =some id->bs[j]? =some a->(s.ups (ids.zip bs)).boxes id=some a
 | [],bs,s,_,_,j,id,a,c,_=>by simp at c
 |i::ids,[],s,_,hl,j,id,a,_,_=>by simp at hl
 |i::ids,b::bs,s,e,hl,j,id,a,c,hb=>by
  rw [B8]at e
  simp only [List.length_cons]at hl
  rw [List.zip_cons_cons,du]
  cases j with
  |zero=>
   simp only [AU,AD]at c hb
   subst c;subst hb
   rw [dy _ _ _ (fun hm => e.1 (by
    obtain⟨x,g,f⟩:=List.mem_map.1 hm
    rw [<-f]
    exact(B9 g).1))]
   exact cf _ _ _
  |succ j=>
   simp only [AT]at c hb
   exact nZ ids bs _ e.2 om j id a c hb
theorem nN(ids:List Nat)(bs:List Box)(s:St)(id:Nat)(h:id∉ids):(s.ups (ids.zip bs)).boxes id=s.boxes id:=by
 refine dy _ _ _ fun hm=>h ?_
 obtain⟨x,b,a⟩:=List.mem_map.1 hm
 rw [<-a]
 exact(B9 b).1
theorem Frame.trans{E:Prop}{B0 c:List Nat}{w0 w w':World}(h:Frame E B0 w0 w)(a:Frame E c w w')(hb:∀b∈c,b∈B0∨w0.heap.size<=b):Frame E B0 w0 w':=
 ⟨a.os.trans h.os, a.tape.trans h.tape, a.output.trans h.output, AO h.size a.size, fun b e f => by
  rw [a.block b (Nat.lt_of_lt_of_le e h.size) ?_]
  ·exact h.block b e f
  ·intro hm
   rcases hb b hm with h1|h1
   ·exact f h1
   ·omega,fun he=>AO (h.drawn he) (a.drawn he)⟩
end
end Go.Dw
namespace Go.Dw
section
variable {P:Program}{X:Ctx}{S:cp}{loc:cJ}{s:St}{tm:Array Value}{w:World}
theorem mG(h:Sim P X S loc s tm w){ids:List Nat}{g bs2:List Box}{b:cI}{f:Nat->Nat->Nat}{ρ:Ren}(x:ids.Nodup)(hlen:g.length=ids.length)(r:∀(j:Nat)id,ids[j]? =some id->∃c,s.boxes id=some c∧g[j]? =some c)
  (hb:∀id c,b id=some c->s.boxes id=some c) (u:ρ=⟨idxOf ids,da b f⟩) (t:bs2.length=ids.length) (n:∀(k:Nat)id c,ids[k]? =some id->g[k]? =some c->bs2[k]? =some (ez ρ (f id) c)):
  ∃ls:List Loc,ls.length=ids.length∧(∀(j:Nat)id,ids[j]? =some id->∃L,loc id=some L∧ls[j]? =some (cz (f id) L))∧gG ρ loc (look ls)∧Mem P S (look ls) (look bs2) w:=by
 have m:∀(j:Nat)id,ids[j]? =some id->∃L,loc id=some L:=fun j id p=>by
  obtain⟨c,hb,_⟩:=r j id p
  obtain⟨L,h1,_⟩:=h.boxes id c hb
  exact⟨L,h1⟩
 let ls:List Loc:=ids.map fun id=>match loc id with|some L=>cz (f id) L|none=>.dead
 have e:∀(j:Nat)id,ids[j]? =some id->∃L,loc id=some L∧ls[j]? =some (cz (f id) L):=fun j id p=>by
  obtain⟨L,h1⟩:=m j id p
  exact⟨L,h1,by simp [ls,p,h1]⟩
 have y:gG ρ loc (look ls):=by
  subst u
  refine gG.mk' (P:=P) (S:=S) (w:=w) (fun id c q=>h.boxes id c (hb id c q)) (fun id k L C m=>?_)
  obtain⟨v,h1,n⟩:=e k id (gh C)
  rw [m]at h1
  cases h1
  rw [cS]
  exact n
 refine⟨ls,by simp [ls],e,y,h.mem.ren y (fun k z hk=>?_) (fun k v hk=>?_)⟩
 ·rw [cS]at hk
  have i:k<ids.length:=by rw [<-t];exact(List.getElem?_eq_some_iff.1 hk).1
  have a:=zc i
  obtain⟨c,h1,l⟩:=r k _ a
  rw [n k _ c a l]at hk
  cases hk
  refine⟨ids[k],c,_,by rw [u];exact gZ x a,h1,rfl,fun L m=>?_⟩
  obtain⟨v,l,o⟩:=e k _ a
  rw [m]at l
  cases l
  rw [cS]
  exact o
 ·rw [cS]at hk
  have i:k<ids.length:=by have:=(List.getElem?_eq_some_iff.1 hk).1;simpa [ls]using this
  have a:=zc i
  obtain⟨L,l,o⟩:=e k _ a
  obtain⟨c,_,B⟩:=r k _ a
  rw [hk]at o
  cases o
  exact⟨⟨_,by rw [cS];exact n k _ c a B⟩,ids[k],L,_,by rw [u];exact gZ x a,l,rfl⟩
theorem Sim.n4(h:Sim P X S loc s tm w){ids news:List Nat}{E:List Box}{ls T:List Loc}{off:Nat->Nat}{r:RV}{v:Value}{w':World}{S':cp}{σ:Ren}(hn:ids.Nodup)
  (hlen:ls.length=ids.length) (a1:∀(j:Nat)id,ids[j]? =some id->∃L,loc id=some L∧ls[j]? =some (cz (fun _=>0) L))
  (D:∀(j:Nat)id ver e sz hdr L,ids[j]? =some id->loc id=some L->L.Row ver e sz hdr->off j=ver)
  (Y:∀i∈news,s.boxes i=none) (b0:news.Nodup) (a7:(ids++news).length=E.length)
  (hσ:σ=⟨look (ids++news),da (look E) fun k cur=>off k+cur⟩) (B:kR P X.base.mono S w ls ids.length r E v w' S' T):
  ∃f,Sim P X S' f (s.ups ((ids++news).zip (E.zipIdx.map fun x=>ez σ (fun cur=>off x.2+cur) x.1))) tm w'∧R S' f (dw σ r) v∧cm loc f:=by
 have hold:∀id∈ids,∃L,loc id=some L:=fun id c=>by
  obtain⟨j,hj⟩:=Au c
  obtain⟨L,h1,_⟩:=a1 j id hj
  exact⟨L,h1⟩
 have W:(ids++news).Nodup:=by
  rw [List.nodup_append]
  refine⟨hn,b0,fun a B b hb a8=>?_⟩
  subst a8
  obtain⟨L,h1⟩:=hold a B
  obtain⟨bx,m⟩:=h.dom a L h1
  rw [Y a hb]at m
  cases m
 let f:cJ:=fun id=>match idxOf (ids++news) id with|some k=>(look T k).map (cz (off k+ ·))|none=>loc id
 have U:∀k id,(ids++news)[k]? =some id->f id=(look T k).map (cz (off k+ ·)):=fun k id hk=>by
  simp only [f,gZ W hk]
 have n:∀id,id∉ids++news->f id=loc id:=fun id c=>by
  simp only [f]
  cases hi:idxOf (ids++news) id with
  |none=>rfl
  |some k=>exact(c (A1 (gh hi))).elim
 have hr:gG σ (look T) f:=by
  subst hσ
  refine gG.mk' (P:=P) (S:=S') (w:=w') B.mem.boxes (fun k id L hp g=>?_)
  rw [cS]at hp
  rw [U k id hp,g]
  rfl
 have hblk:∀b∈j3 ls,∃id∈ids,∃L,loc id=some L∧L.has b:=fun b hb=>by
  obtain⟨k,L,h1,m⟩:=mf.1 hb
  rw [cS]at h1
  have hk:k<ids.length:=by rw [<-hlen];exact(List.getElem?_eq_some_iff.1 h1).1
  obtain⟨z,F,l⟩:=a1 k _ (zc hk)
  rw [h1]at l
  cases l
  rw [eK]at m
  exact⟨_,List.getElem_mem hk,z,F,m⟩
 have I:∀b∈j3 ls,b∈X.B0∨X.w0.heap.size<=b:=fun b hb=>by
  obtain⟨id,_,L,h1,m⟩:=hblk b hb
  exact h.own id L b h1 m
 have hle:cm loc f:=fun id L g=>by
  by_cases c:id∈ids++news
  rotate_left
  ·exact⟨L,by rw [n id c];exact g,.same _⟩
  obtain⟨k,hk⟩:=Au c
  have a9:k<ids.length:=by
   by_cases G:k<ids.length
   ·exact G
   ·rw [List.getElem?_append_right om]at hk
    obtain⟨bx,Q⟩:=h.dom id L g
    rw [Y id (A1 hk)]at Q
    cases Q
  have J:ids[k]? =some id:=by rwa [List.getElem?_append_left a9]at hk
  obtain⟨L0,h1,m⟩:=a1 k id J
  rw [g]at h1
  cases h1
  obtain⟨z,F,l⟩:=B.le k _ (by rw [cS];exact m)
  refine⟨cz (off k+ ·) z,by rw [U k id hk,F];rfl,?_⟩
  generalize H:cz (fun _=>0) L=L1 at l
  cases l with
  |same=>
   subst H
   cases L with
   |arr ver e sz hdr=>
    have:=D k id ver e sz hdr _ J g .arr
    simp only [cz,A7,this]
    exact .same _
   |nest ver e sz hdr bs=>
    have:=D k id ver e sz hdr _ J g .nest
    simp only [cz,A7,this]
    exact .same _
   |var b=>exact .same _
   |dead=>exact .same _
   |map b=>exact .same _
   |mapn b bs=>exact .same _
  |dead=>exact .dead _
  |arr G=>
   cases L<;>simp only [cz,Loc.arr.injEq,reduceCtorEq]at H
   rename_i ver e sz hdr
   have:=D k id ver e sz hdr _ J g .arr
   obtain⟨H, -⟩:=H
   exact .arr (show ver<off k+_ by omega)
  |nest G=>
   cases L<;>simp only [cz,Loc.nest.injEq,reduceCtorEq]at H
   rename_i ver e sz hdr bs
   have:=D k id ver e sz hdr _ J g .nest
   obtain⟨H, -⟩:=H
   exact .nest (show ver<off k+_ by omega)
  |held=>
   cases L<;>simp only [cz,Loc.nest.injEq,reduceCtorEq]at H
   rename_i ver e sz hdr bs
   have:=D k id ver e sz hdr _ J g .nest
   obtain⟨rfl,rfl,rfl,rfl,rfl⟩:=H
   simp only [cz,A7,this]
   exact .held
  |heldm=>
   cases L<;>simp only [cz,Loc.mapn.injEq,reduceCtorEq]at H
   obtain⟨rfl,rfl⟩:=H
   exact .heldm
  |frozen=>
   cases L<;>simp only [cz,Loc.mapn.injEq,reduceCtorEq]at H
   obtain⟨rfl,rfl⟩:=H
   exact .frozen
  |flat G=>
   cases L<;>simp only [cz,Loc.nest.injEq,reduceCtorEq]at H
   rename_i ver e sz hdr bs
   have:=D k id ver e sz hdr _ J g .nest
   obtain⟨rfl,rfl,rfl,rfl,rfl⟩:=H
   refine .flat ?_
   rcases G with G|⟨h1,m,F,l⟩
   ·exact .inl (by show ver<off k+_;omega)
   ·exact .inr ⟨by show ver=off k+_;omega,m,F,l⟩
 have Q:∀k id,(ids++news)[k]? =some id->∃bx,E[k]? =some bx∧(s.ups ((ids++news).zip (E.zipIdx.map fun x=>ez σ (fun cur=>off x.2+cur) x.1))).boxes id=some (ez σ (fun cur=>off k+cur) bx):=fun k id hk=>by
  have G:k<E.length:=by rw [<-a7];exact(List.getElem?_eq_some_iff.1 hk).1
  refine⟨E[k],zc G,?_⟩
  refine nZ _ _ s W (by simp [a7]) k id _ hk ?_
  simp [G]
 have a6:∀id,id∉ids++news->(s.ups ((ids++news).zip (E.zipIdx.map fun x=>ez σ (fun cur=>off x.2+cur) x.1))).boxes id=s.boxes id:=fun id c=>nN _ _ s id c
 have p:∀id L b,id∉ids++news->loc id=some L->L.has b->b<w.heap.size∧b∉j3 ls:=fun id L b c g hb=>by
  refine⟨h.mem.lt g hb,fun hm=>?_⟩
  obtain⟨y,h1,z,m,F⟩:=hblk b hm
  have:=h.inj id y L z b g m hb F
  subst this
  exact c (List.mem_append.2 (.inl h1))
 have q:∀id L b,id∈ids++news->f id=some L->L.has b->∃k z,look T k=some z∧z.has b∧(ids++news)[k]? =some id∧(b∈j3 ls∨w.heap.size<=b):=fun id L b c g hb=>by
  obtain⟨k,hk⟩:=Au c
  rw [U k id hk,Option.map_eq_some_iff]at g
  obtain⟨z,h1,rfl⟩:=g
  rw [eK]at hb
  exact⟨k,z,h1,hb,hk,B.own k z b h1 hb⟩
 refine⟨f,⟨h.nt,?_,?_,?_,B.mem.imm,B.mem.fy,?_,?_,?_,h.frame.trans B.frame I,h.s0.trans B.sub,?_,?_,h.bs.trans B.sub,fun x H=>?_⟩,R.dw hr B.res,hle⟩
 rotate_right
 ·obtain⟨h1,o,v,m⟩:=h.ob x H
  refine⟨?_,o,v,m⟩
  rw [<-h1]
  refine B.frame.block _ (Array.getElem?_eq_some_iff.1 h1).1 fun hm=>?_
  obtain⟨id,_,L,F,l⟩:=hblk _ hm
  have O:=h.eA id L x.1 F l o
  rw [h.bs _ _ m]at O
  cases O
 ·intro t rv ht
  rw [dT]at ht
  obtain⟨u,h1,m⟩:=h.cv t rv ht
  exact⟨u,h1,m.mono B.sub hle⟩
 ·intro id bx hb
  by_cases c:id∈ids++news
  ·obtain⟨k,hk⟩:=Au c
   obtain⟨a3,h1,m⟩:=Q k id hk
   rw [m]at hb
   cases hb
   obtain⟨L,F,l⟩:=B.mem.boxes k a3 (by rw [cS];exact h1)
   exact⟨cz (off k+ ·) L,by rw [U k id hk,F];rfl,eh.ren hr _ l⟩
  ·rw [a6 id c]at hb
   obtain⟨L,h1,m⟩:=h.boxes id bx hb
   refine⟨L,by rw [n id c];exact h1,m.aE B.sub hle fun b N=>?_⟩
   obtain⟨F,l⟩:=p id L b c h1 N
   exact B.frame.block b F l
 ·intro id L g
  by_cases c:id∈ids++news
  ·obtain⟨k,hk⟩:=Au c
   obtain⟨a3,_,m⟩:=Q k id hk
   exact⟨_,m⟩
  ·rw [n id c]at g
   rw [a6 id c]
   exact h.dom id L g
 ·intro id L b g hb o
  by_cases c:id∈ids++news
  ·obtain⟨k,z,h1,m,_⟩:=q id L b c g hb
   exact B.mem.eA k z b h1 m o
  ·rw [n id c]at g
   obtain⟨F,l⟩:=p id L b c g hb
   cases hS:S' ⟨b,o,none⟩with
   |none=>rfl
   |some u=>
    rcases B.gE _ u hS with O|O|O
    ·rw [h.eA id L b g hb o]at O;cases O
    ·simp only at O;omega
    ·exact(l O).elim
 ·intro id y L z b g K hb N
  by_cases c:id∈ids++news
  ·obtain⟨k,L1,h1,m,F,l⟩:=q id L b c g hb
   by_cases C:y∈ids++news
   ·obtain⟨k',a2,a4,a5,a0,_⟩:=q y z b C K N
    have:=B.mem.inj k k' L1 a2 b h1 a4 m a5
    subst this
    rw [F]at a0
    exact BT a0
   ·rw [n y C]at K
    obtain⟨O,h6⟩:=p y z b C K N
    rcases l with l|l
    ·exact(h6 l).elim
    ·omega
  ·rw [n id c]at g
   obtain⟨O,h6⟩:=p id L b c g hb
   by_cases C:y∈ids++news
   ·obtain⟨k',a2,a4,a5,a0,l⟩:=q y z b C K N
    rcases l with l|l
    ·exact(h6 l).elim
    ·omega
   ·rw [n y C]at K
    exact h.inj id y L z b g K hb N
 ·intro id L b g hb
  by_cases c:id∈ids++news
  ·obtain⟨k,L1,h1,m,F,l⟩:=q id L b c g hb
   rcases l with l|l
   ·exact I b l
   ·exact .inr (AO h.frame.size l)
  ·rw [n id c]at g
   exact h.own id L b g hb
 ·intro k L0 hk
  obtain⟨L,h1,m⟩:=h.par k L0 hk
  obtain⟨z,F,l⟩:=hle k L h1
  exact⟨z,F,cj.trans m l⟩
 ·intro ad u hu
  rcases B.gE ad u hu with h1|h1|h1
  ·exact h.gE ad u h1
  ·exact .inr (.inl (AO h.frame.size h1))
  ·exact .inr ((I _ h1).symm)
theorem R.jG{S':cp}{loc':cJ}{r:RV}{v:Value}(hf:jG r=true)(h:R S loc r v):R S' loc' r v:=by
 have c:∀{p:PD}{v:Value},flatP p=true->V S p v->V S' p v:=by
  intro p v hf h
  cases h with
  |bool=>exact .bool _
  |int=>exact .int _ _
  |str=>exact .str _
  |_=>cases hf
 cases r with
 |d p=>
  cases h with
  |d h=>
  cases h with
  |bool=>exact .d (.bool _)
  |int=>exact .d (.int _ _)
  |str=>exact .d (.str _)
  |agg cs vs hl h=>
   simp only [Dw.jG,List.all_eq_true]at hf
   exact .d (.agg cs vs hl fun i p v h1 a=>c (hf p (A1 h1)) (h i p v h1 a))
  |_=>cases hf
 |err b=>
  cases h with
  |err=>exact .err _ _
  |noerr=>exact .noerr
 |_=>cases hf
theorem R.flatR{S':cp}{loc':cJ}{σ:Ren}{r:RV}{v:Value}(hf:flatV r=true)(h:R S loc (Dw.dw σ r) v):R S' loc' (Dw.dw σ r) v:=by
 cases r with
 |tup cs=>
  have h1:Dw.dw σ (.tup cs)= .tup cs:=by
   simp only [Dw.dw,RV.tup.injEq]
   refine(List.map_congr_left fun c hc=>?_).trans (List.map_id _)
   have:=List.all_eq_true.1 hf c hc
   cases c<;>first|rfl|cases this
  rw [h1]at h⊢
  cases h with
  |tup cs vs hl h=>exact .tup cs vs hl fun i c v a e=>(h i c v a e).jG (List.all_eq_true.1 hf c (A1 a))
 |d p=>exact R.jG (r:= .d p) hf h
 |err b=>exact R.jG (r:= .err b) hf h
 |_=>cases hf
theorem Sim.frame0(h:Sim P X S loc s tm w){w':World}{e:List Nat}(hb:e=[])(a:Frame X.base.mono e w w'):Sim P X S loc s tm w':=by
 subst hb
 refine⟨h.nt,h.cv,?_,h.dom,?_,h.fy,h.eA,h.inj,h.own,h.frame.trans a (fun b hb=>by cases hb),h.s0,h.par,h.gE,h.bs,fun x c=>⟨by rw [<-(h.ob x c).1];exact a.block _ (Array.getElem?_eq_some_iff.1 (h.ob x c).1).1 sm,(h.ob x c).2⟩⟩
 ·intro i g hb
  obtain⟨L,h1,f⟩:=h.boxes i g hb
  exact⟨L,h1,f.aE (Sub.refl S) (cm.refl loc) (fun b hb=>a.block b (f.eO hb) sm)⟩
 ·intro ad v j
  have hc:=h.imm ad v j
  rw [<-hc]
  exact fK (a.block ad.block (World.block_lt_of_cell? w ad hc) sm)
theorem eM.mono{s' b:St}{o:Oper}{a:Act}{w:World}(h:eM P X s' o a w)(f:∀c w',eN P X s' c w'->eN P X b c w'):eM P X b o a w:=
 fun K Q e=>h K Q fun c w' g=>e _ _ (f _ _ g)
theorem l7{u:Ups}:∀{f g:cI},(∀j x,f j=some x->g j=some x)->∀{i:Nat}{x:Box},ev f u i=some x->ev g u i=some x:=by
 induction u with
 |nil=>intro f g h i x a;exact h i x a
 |cons y r e=>
  intro f g h i x a
  obtain⟨id,k⟩:=y
  simp only [ev]at a⊢
  refine e (fun j z b=>?_) a
  by_cases c:j=id
  ·simpa [c]using b
  ·simp only [c,if_false]at b⊢
   exact h j z b
theorem ups_up:∀(u:Ups)(s:St),(s.ups u).boxes=ev s.boxes u
 | [],_=>rfl
 |(id,b)::r,s=>by simp only [St.ups,ev];rw [ups_up r]
theorem eN.lenR{u:Ups}{v:RV}{dst:Option Nat}{a:Act}(h:eN P X ((s.ups u).put dst v) a w):eN P X ((s.ups u).put dst (lenR u v)) a w:=by
 unfold Dw.lenR
 split
 rotate_left
 ·exact h
 rename_i id ver
 split
 rotate_left
 ·exact h
 rename_i k e es hb
 split
 rotate_left
 ·exact h
 rename_i m
 subst m
 cases dst with
 |none=>exact h
 |some d=>
 obtain⟨l,S,loc,f⟩:=h
 have g:(s.ups u).boxes id=some (.arr ver e es):=by rw [ups_up];exact l7 (fun j x h=>by cases h) hb
 refine⟨l,S,loc,{ f with cv:=fun t rv ht=>?_ }⟩
 by_cases b:t=d
 ·subst b
  simp only [St.put,if_true,AD]at ht
  subst ht
  obtain⟨x,n,i⟩:=f.cv t (.ref id ver) (by simp [St.put])
  refine⟨x,n,?_⟩
  obtain⟨sz,xs, -, -,how, -⟩:=f.fm (id:=id) (by simpa [St.put]using g) i
  obtain⟨ad,c,rfl, -⟩:=how.hdr
  exact .rfn id ver es.length ad c i
 ·exact f.cv t rv (by simpa [St.put,b]using ht)
theorem mh{by_:FuncId->Nat->Bool}{call:cB}{o:Oper}{a:Act}{f:FuncId}{base:Nat}{args:List RV}{v:RV}{u:Ups}{r:List Nat}
  (hl:mg by_ call f base args s.boxes=some ((v,u),r,true)) (e:∀v0 r0,dN by_ call f base args s.boxes=some ((v0,u),r0,true)->eM P X ((s.ups u).put o.dst v0) o a w):eM P X ((s.ups u).put o.dst v) o a w:=by
 obtain⟨⟨v0,l⟩,i,k,h1,b,_⟩:=M.bind_some hl
 obtain⟨c, -, -⟩:=M.cd b
 cases c
 exact(e v0 i h1).mono fun j w' g=>g.lenR
theorem dD{by_:FuncId->Nat->Bool}{call:cB}(C:ea P X.base call){o:Oper}{a:Act}(h:Sim P X S loc s a.tmps w)(hd:a.defers=[])(p:∀d,o.dst=some d->d<X.nt){f:FuncId}{base:Nat}{args:List RV}{v:RV}{u:Ups}{r:List Nat}
  (hl:dN by_ call f base args s.boxes=some ((v,u),r,true)) {vs:Array Value} (hlen:args.length=vs.size) (z:∀(i:Nat)x y,args[i]? =some x->vs[i]? =some y->R S loc x y)
  (I:(execOp a.eval o).run P w=(callFunc f vs).run P w):eM P X ((s.ups u).put o.dst v) o a w:=by
 obtain⟨⟨as,u0⟩,r1,r2,h1,h2,_⟩:=M.bind_some hl
 obtain⟨ids,r3,r4,h3,h4,_⟩:=M.bind_some h2
 obtain⟨c,r5,r6,h5,H,_⟩:=M.bind_some h4
 rcases hc:call f (as.map (dw (gB ids c))) (c.map (ez (gB ids c) fun _=>0))with _|⟨res,q⟩
 ·simp only [hc]at H;exact fE s.boxes H
 simp only [hc]at H
 split at H
 rotate_left
 ·exact fE s.boxes H
 rename_i D
 obtain⟨b5,a5,a6⟩:=D
 obtain⟨_,r7,r8,h7,h8,_⟩:=M.bind_some H
 obtain⟨h9, -, -⟩:=M.cd h8
 cases h9
 have hn:=iv a5
 obtain⟨a1,a2,a3,a4⟩:=jX h1
 obtain⟨g1,g2⟩:=ik h5
 obtain⟨S1,U,g,J,hle,a8⟩:=h.gf u0 a1 (fun x hx=>.inl (a2 x hx))
 have E:∀id∈ids,(s.ups u0).boxes id=s.boxes id:=fun id a9=>dy _ _ _ (gW a6 id a9)
 have hg:∀(j:Nat)id,ids[j]? =some id->∃t,(s.ups u0).boxes id=some t∧c[j]? =some t:=fun j id hj=>by
  obtain⟨t,k1,k2⟩:=g2 j id hj
  exact⟨t,by rw [E id (A1 hj)];exact k1,k2⟩
 obtain ⟨ls, q1, q2, q3, q4⟩ := mG g (f := fun _ _ => 0) (b := fun i => (idxOf ids i).bind (look c)) (ρ := (gB ids c)) (bs2 := c.map (ez (gB ids c) fun _ => 0)) hn g1 hg (fun id t hb => by
   rw [Option.bind_eq_some_iff]at hb
   obtain⟨k,m1,m2⟩:=hb
   obtain⟨b3,m3,m4⟩:=hg k id (gh m1)
   rw [cS,m4]at m2
   cases m2
   exact m3) rfl (by simp [g1]) (fun k id t hk a0=>by rw [As,a0];rfl)
 have b1 := C f _ _ res q hc S1 w ls vs q4 (by rw [q1, B7, g1]) g.bs g.ob (by rw [B7, a3]; exact hlen) (fun i x y hx hy => by
  rw [As,Option.map_eq_some_iff]at hx
  obtain⟨x0,O,rfl⟩:=hx
  have hi:i<args.length:=by rw [<-a3];exact(List.getElem?_eq_some_iff.1 O).1
  exact R.dw q3 (a4 S loc S1 U J hle a8 i args[i] x0 y (zc hi) O (z i _ y (zc hi) hy)))
 intro K Q hK
 unfold Oper.wp
 rw [I]
 suffices tail:∀rv w',(∃S' Y,kR P X.base.mono S1 w ls (c.map (ez (gB ids c) fun _=>0)).length res q rv w' S' Y)->K (a.put o.dst rv) w' by
  rcases b1 with⟨⟨fn,a7,F,B⟩,m⟩|⟨rv,w',l,hR⟩
  ·have G:(callFunc f vs).run P w= .ok (.enter f vs) w:=by
    have : (fn.name == "runtime.NumGoroutine") = false := by simpa using F
    simp only [callFunc,Sem.run_bind,run_program,Result.andThen_ok,a7,this,B,Aj,if_false,Sem.run_pure]
   rw [G,Oper.upon_enter]
   refine m.mono fun e w' he=>?_
   obtain⟨rv,rfl,he⟩:=he
   exact tail rv w' he
  ·rw [l,Oper.upon_value]
   exact tail rv w' hR
 intro rv w' he
 obtain⟨S',Y,ha⟩:=he
 rw [B7,g1]at ha
 have N:=ia h7
 obtain ⟨W, k1, k2, _⟩ := g.n4 (off := offOf c) hn q1 q2 (fun j id ver e sz hdr L hj hL l => by
   obtain⟨t,m1,m2⟩:=hg j id hj
   have:=g.dq m1 hL
   simp only [offOf,cS,m2]
   cases this with
   |arr=>cases l;rfl
   |nest=>cases l;rfl
   |dead _ hd=>subst hd;cases l
   |var=>cases l
   |map=>cases l
   |mapn=>cases l
   |hole=>cases l;rfl
   |deep=>cases l;rfl)
  (fun i hi => by
   have hv:=N i hi
   rw [dy _ _ _ fun hm=>?_]
   ·exact hv
   ·obtain⟨y,hy,b2⟩:=List.mem_map.1 hm
    obtain⟨ver,e,es,T⟩:=a2 y hy
    rw [b2,hv]at T
    cases T)
  (by
   unfold fr
   rw [List.nodup_iff_pairwise_ne,List.pairwise_map]
   exact List.pairwise_lt_range.imp fun{a b}b4=>om)
  (by simp [fr];omega) rfl ha
 by_cases n:(ids.isEmpty&&(q.isEmpty&&flatV res))=true
 ·refine hK _ _ ⟨by cases o.dst<;>exact hd,S,loc,?_⟩
  rw [mi,if_pos n]
  simp only [Ac,List.isEmpty_iff]at n
  obtain⟨e1,e2,e3⟩:=n
  subst e1
  have b0:ls=[]:=List.eq_nil_of_length_eq_zero q1
  subst b0
  exact(h.frame0 rfl ha.frame).put (a:=a) (k2.flatR e3) o.dst p
 refine hK _ _ ⟨by cases o.dst<;>exact hd,S',W,?_⟩
 rw [mi,if_neg n,eL]
 exact k1.put (a:=a) k2 o.dst p
end
end Go.Dw
