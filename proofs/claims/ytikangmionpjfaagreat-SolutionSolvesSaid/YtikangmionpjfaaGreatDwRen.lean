
import Derived.Test.YtikangmionpjfaaGreatDwMap
import Derived.Test.YtikangmionpjfaaGreatDwMake
open Option.some renaming inj->DS, injEq->B7
open List renaming getElem?_map->Cm

namespace Go.Dw
def pL(f:Nat->Nat):Loc->Loc
 | .arr ver e sz hdr=>.arr (f ver) e sz hdr
 | .nest ver e sz hdr bs=>.nest (f ver) e sz hdr bs
 |L=>L
theorem sl(f:Nat->Nat)(L:Loc)(b:Nat):(pL f L).has b=L.has b:=by cases L<;>rfl
theorem yE{f:Nat->Nat}{L:Loc}{ver:Nat}{e:TypeId}{sz:Nat}{hdr:Value}(h:pL f L= .arr ver e sz hdr):∃cur,L= .arr cur e sz hdr∧ver=f cur:=by
 cases L with
 |arr cur g c a=>simp only [pL,Loc.arr.injEq]at h;obtain⟨rfl,rfl,rfl,rfl⟩:=h;exact⟨cur,rfl,rfl⟩
 |var b=>cases h
 |dead=>cases h
 |map b=>cases h
 |nest _ _ _ _ _=>cases h
theorem yF{f:Nat->Nat}{L:Loc}{ver:Nat}{e:TypeId}{sz:Nat}{hdr:Value}(h:(pL f L).Row ver e sz hdr):∃cur,L.Row cur e sz hdr∧ver=f cur:=by
 cases L with
 |arr cur g c a=>cases h;exact⟨cur,.arr,rfl⟩
 |nest cur g c a bs=>cases h;exact⟨cur,.nest,rfl⟩
 |var b=>cases h
 |dead=>cases h
 |map b=>cases h
theorem tN{f g:Nat->Nat}{L:Loc}{ver:Nat}{e:TypeId}{sz:Nat}{hdr:Value}(h:L.Row ver e sz hdr)(he:pL f L=pL g L):f ver=g ver:=by
 cases h<;> ·simp only [pL,Loc.arr.injEq,Loc.nest.injEq]at he;exact he.1
theorem Bl{f:Nat->Nat}{L:Loc}{b:Nat}(h:pL f L= .var b):L= .var b:=by cases L<;>first|exact h|cases h
theorem Bk{f:Nat->Nat}{L:Loc}{b:Nat}(h:(pL f L).Map b):L.Map b:=by cases L<;>first|exact h|cases h
structure u6(ρ:Ren)(loc loc':pY):Prop where
 pos:∀id k L,ρ.pos id=some k->loc id=some L->∃f,loc' k=some (pL f L)
 ver:∀id ver v' k cur e sz hdr L,ρ.pos id=some k->ρ.ver id ver=some v'->loc id=some L->L.Row cur e sz hdr->ver=cur∧∃f,loc' k=some (pL f L)∧f cur=v'
section
variable {P:Program}{S:pr}{loc loc':pY}{w:World}{ρ:Ren}
theorem R.tY(h:u6 ρ loc loc'){rv:RV}{v:Value}(C:R S loc rv v):R S loc' (Dw.tY ρ rv) v:=by
 cases C with
 |d h=>exact .d h
 |undef=>exact .undef
 |junk v=>exact .junk v
 |px=>exact .px
 |agg cs vs B hc=>exact .junk _
 |tup cs vs B hc=>exact .junk _
 |clo f cs vs B hc=>exact .junk _
 |err t x=>exact .err t x
 |noerr=>exact .noerr
 |dfull es a h=>exact .dfull es a h
 |ifc t c v h=>exact .junk _
 |plit cs b o c f hc hS hV=>exact .junk _
 |pcp c b o u hS hV=>exact .junk _
 |cptr cs b o f hS hV=>exact .cptr cs b o f hS hV
 |fview id ver hi v L ho p hc=>
  simp only [Dw.tY]
  rcases hp:ρ.pos id with _|k
  ·exact .junk _
  rcases y:ρ.ver id ver with _|v'
  ·exact .junk _
  obtain⟨f,j⟩:=h.pos id k L hp p
  refine .fview k v' hi v _ ho j fun r e sz hdr he=>?_
  obtain⟨cur,rfl,rfl⟩:=yE he
  obtain⟨rfl,g,q,rfl⟩:=h.ver id ver v' k cur e sz hdr _ hp y p .arr
  rw [j]at q
  have:=tN .arr (DS q)
  exact⟨za,fun _=>(hc ver e sz hdr rfl).2 rfl⟩
 |ptr id off v L ho p hc=>
  simp only [Dw.tY]
  rcases hp:ρ.pos id with _|k
  ·exact .junk _
  obtain⟨f,j⟩:=h.pos id k L hp p
  exact .ptr k off v _ ho j fun b=>⟨fun z=>(hc b).1 (Bl z),fun z=>(hc b).2 (Bk z)⟩
 |ref id ver v L ho p hc=>
  simp only [Dw.tY]
  rcases hp:ρ.pos id with _|k
  ·exact .junk _
  rcases y:ρ.ver id ver with _|v'
  ·exact .junk _
  obtain⟨f,j⟩:=h.pos id k L hp p
  refine .ref k v' v _ ho j fun r e sz hdr he=>?_
  obtain⟨cur,l,rfl⟩:=yF he
  obtain⟨rfl,g,q,rfl⟩:=h.ver id ver v' k cur e sz hdr _ hp y p l
  rw [j]at q
  have:=tN l (DS q)
  exact⟨za,fun _=>(hc ver e sz hdr l).2 rfl⟩
 |elt id ver i o v L ho p hc=>
  simp only [Dw.tY]
  rcases hp:ρ.pos id with _|k
  ·exact .junk _
  rcases y:ρ.ver id ver with _|v'
  ·exact .junk _
  obtain⟨f,j⟩:=h.pos id k L hp p
  refine .elt k v' i o v _ ho j fun r e sz hdr he=>?_
  obtain⟨cur,l,rfl⟩:=yF he
  obtain⟨rfl,g,q,rfl⟩:=h.ver id ver v' k cur e sz hdr _ hp y p l
  rw [j]at q
  have:=tN l (DS q)
  exact⟨za,fun _=>(hc ver e sz hdr l).2 rfl⟩
 |view id ver lo hi v L ho p hc=>
  simp only [Dw.tY]
  rcases hp:ρ.pos id with _|k
  ·exact .junk _
  rcases y:ρ.ver id ver with _|v'
  ·exact .junk _
  obtain⟨f,j⟩:=h.pos id k L hp p
  refine .view k v' lo hi v _ ho j fun r e sz hdr he=>?_
  obtain⟨cur,rfl,rfl⟩:=yE he
  obtain⟨rfl,g,q,rfl⟩:=h.ver id ver v' k cur e sz hdr _ hp y p .arr
  rw [j]at q
  have:=tN .arr (DS q)
  exact⟨za,fun _=>(hc ver e sz hdr rfl).2 rfl⟩
theorem R.qC(h:u6 ρ loc loc'){rv:RV}{v:Value}(g:R S loc rv v):R S loc' (Dw.qC ρ rv) v:=by
 have cells:∀{cs:List RV}{vs:Array Value},(∀(i:Nat)c v,cs[i]? =some c->vs[i]? =some v->R S loc c v)->
   ∀(i:Nat)c v,(cs.map (Dw.tY ρ))[i]? =some c->vs[i]? =some v->R S loc' c v:=by
  intro cs vs hc i c v h1 r
  rw [Cm]at h1
  rcases a:cs[i]? with _|p
  ·simp [a]at h1
  simp only [a,Option.map_some,B7]at h1
  subst h1
  exact R.tY h (hc i p v a r)
 cases rv with
 |agg cs=>obtain⟨vs,rfl,q,hc⟩:=g.vH;exact .agg _ vs (by simpa using q) (cells hc)
 |tup cs=>cases g with|tup _ vs q hc=>exact .tup _ vs (by simpa using q) (cells hc)
 |clo f cs=>cases g with|clo _ _ vs q hc=>exact .clo f _ vs (by simpa using q) (cells hc)
 |ifc t c=>cases g with|ifc _ _ v hc=>exact .ifc t _ v (R.tY h hc)
 |plit cs=>cases g with|plit _ b o c f hc hS hV=>
  have:=R.plit (S:=S) (loc:=loc') (cs.map (Dw.tY ρ)) b o c f (by simpa using hc)
   (fun j x k => by
    rw [Cm]at k
    rcases l:cs[j]? with _|p
    ·simp [l]at k
    exact hS j p l)
   (fun j x k => by
    rw [Cm]at k
    rcases l:cs[j]? with _|p
    ·simp [l]at k
    simp only [l,Option.map_some,B7]at k
    subst k
    exact R.tY h (hV j p l))
  rwa [List.length_map]at this
 |pcp c=>cases g with|pcp _ b o u hS hV=>exact .pcp _ b o u hS (R.tY h hV)
 |_=>exact R.tY h g
def renNC(ρ:Ren):NC->NC
 | .val rv=>.val (Dw.qC ρ rv)
 |c=>c
theorem NCs.ren0(h:u6 ρ loc loc'){cs:List NC}{vs:List Value}{bs:List Nat}(hc:NCs P S loc w cs vs bs):NCs P S loc' w (cs.map (renNC ρ)) vs bs:=by
 induction hc with
 |nil=>exact .nil
 |cons h1 _ f=>
  refine .cons ?_ f
  cases h1 with
  |val _ _ c ho=>exact .val _ _ (R.qC h c) ho
  |row _ _ _ _ _ a how hf=>exact .row _ _ _ _ _ a how hf
theorem NCs.ren(h:u6 ρ loc loc'){e2:TypeId}{ess:List (List PD)}{a:Option (Nat×RV)}{vs:List Value}{bs:List Nat}(hc:NCs P S loc w (ncs e2 ess a) vs bs):
  NCs P S loc' w (ncs e2 ess (match a with|some (i,rv)=>some (i,Dw.qC ρ rv)|none=>none)) vs bs:=by
 have:=NCs.ren0 h hc
 rcases a with _|⟨i,rv⟩
 ·simpa [ncs,Function.comp_def,renNC]using this
 ·simpa [ncs,List.map_set,Function.comp_def,renNC]using this
theorem ta.ren(h:u6 ρ loc loc'){r:Box}{L:Loc}(f:Nat->Nat)(z:ta P S loc w r L):ta P S loc' w (rJ ρ f r) (pL f L):=by
 cases z with
 |var cs b t vs hw q hc=>
  refine .var _ b t vs hw (by simpa using q) fun i c v g D=>?_
  rw [Cm]at g
  rcases k:cs[i]? with _|x
  ·simp [k]at g
  simp only [k,Option.map_some,B7]at g
  subst g
  exact R.qC h (hc i x v k D)
 |arr ver e es sz hdr xs a how hf=>exact .arr (f ver) e es sz hdr xs a how hf
 |dead L y=>subst y;exact .dead _ rfl
 |map E G es b clock ents hw q hc=>exact .map E G es b clock ents hw q hc
 |nest ver e e2 ess B hdr xs bs a p how hc l hi=>
  rcases B with _|⟨i,rv⟩
  ·exact .nest (f ver) e e2 ess none hdr xs bs a p how (NCs.ren h hc) l (fun i rv e=>by cases e)
  ·refine .nest (f ver) e e2 ess (some (i,Dw.qC ρ rv)) hdr xs bs a p how ?_ l (fun j F e=>by cases e;exact hi i rv rfl)
   exact NCs.ren h hc
 |hole ver e es i o rv sz hdr xs u a how hf hi ho hu C=>exact .hole (f ver) e es i o _ sz hdr xs u a how hf hi ho hu (R.qC h C)
theorem Ap{b:pP}{f:Nat->Nat->Nat}{id ver v':Nat}(h:qk b f id ver=some v'):((∃e es,b id=some (.arr ver e es))∨(∃e e2 ess g,b id=some (.nest ver e e2 ess g))∨∃e es i o rv,b id=some (.hole ver e es i o rv))∧v'=f id ver:=by
 unfold qk at h
 split at h
 ·rename_i cur e es a
  split at h
  ·rename_i c;subst c;cases h;exact⟨.inl ⟨e,es,a⟩,rfl⟩
  ·cases h
 ·rename_i cur e e2 ess g a
  split at h
  ·rename_i c;subst c;cases h;exact⟨.inr (.inl ⟨e,e2,ess,g,a⟩),rfl⟩
  ·cases h
 ·rename_i cur e es i o rv a
  split at h
  ·rename_i c;subst c;cases h;exact⟨.inr (.inr ⟨e,es,i,o,rv,a⟩),rfl⟩
  ·cases h
 ·cases h
theorem A2{b:pP}{f:Nat->Nat->Nat}{id ver v' cur:Nat}{e:TypeId}{sz:Nat}{hdr:Value}{L:Loc}(h:qk b f id ver=some v')(a:∀g,b id=some g->ta P S loc w g L)(c:L.Row cur e sz hdr):ver=cur∧v'=f id ver:=by
 obtain⟨h1,rfl⟩:=Ap h
 refine⟨?_,rfl⟩
 rcases h1 with⟨j,es,h1⟩|⟨j,e2,ess,k,h1⟩|⟨j,es,i,o,rv,h1⟩
 ·have:=a _ h1
  cases this with
  |arr=>cases c;rfl
 ·have:=a _ h1
  cases this with
  |nest=>cases c;rfl
 ·have:=a _ h1
  cases this with
  |hole=>cases c;rfl
theorem u6.mk'{b:pP}{pos:Nat->Option Nat}{f:Nat->Nat->Nat}(p:∀id a,b id=some a->∃L,loc id=some L∧ta P S loc w a L)
  (j:∀id k L,pos id=some k->loc id=some L->loc' k=some (pL (f id) L)):u6 ⟨pos,qk b f⟩ loc loc':=by
 refine⟨fun id k L hp c=>⟨_,j id k L hp c⟩,fun id ver v' k cur e sz hdr L hp r c q=>?_⟩
 obtain⟨rfl,rfl⟩:=A2 (P:=P) (S:=S) (loc:=loc) (w:=w) r (fun a g=>by obtain⟨t,h1,l⟩:=p id a g;rw [c]at h1;cases h1;exact l) q
 exact⟨rfl,_,j id k L hp c,rfl⟩
end
structure Mem(P:Program)(S:pr)(loc:pY)(bm:pP)(w:World):Prop where
 boxes:∀id bx,bm id=some bx->∃L,loc id=some L∧ta P S loc w bx L
 dom:∀id L,loc id=some L->∃bx,bm id=some bx
 imm:∀ad v,S ad=some v->w.cell? ad=some v
 ti:∀ad v,S ad=some v->v.oneCell'=true
 rK:∀id L b,loc id=some L->L.has b->∀o,S ⟨b,o,none⟩=none
 inj:∀id id' L L' b,loc id=some L->loc id'=some L'->L.has b->L'.has b->id=id'
theorem Sim.mem{P:Program}{X:Ctx}{S:pr}{loc:pY}{s:St}{tm:Array Value}{w:World}(h:Sim P X S loc s tm w):Mem P S loc s.boxes w:=⟨h.boxes,h.dom,h.imm,h.ti,h.rK,h.inj⟩
theorem Mem.qW{P:Program}{S:pr}{loc:pY}{boxes:pP}{w:World}(h:Mem P S loc boxes w){id:Nat}{a:Box}{L:Loc}(g:boxes id=some a)(f:loc id=some L):ta P S loc w a L:=by
 obtain⟨j,h1,c⟩:=h.boxes id a g
 rw [f]at h1;cases h1;exact c
theorem Mem.lt{P:Program}{S:pr}{loc:pY}{boxes:pP}{w:World}(h:Mem P S loc boxes w){id b:Nat}{L:Loc}(c:loc id=some L)(f:L.has b):b<w.heap.size:=by
 obtain⟨g,a⟩:=h.dom id L c
 exact(h.qW a c).rq f
theorem Mem.ren{P:Program}{S:pr}{loc loc':pY}{b b':pP}{w:World}{ρ:Ren}(h:Mem P S loc b w)(G:u6 ρ loc loc')
  (F:∀k c,b' k=some c->∃id l f,ρ.pos id=some k∧b id=some l∧c=rJ ρ f l∧∀L,loc id=some L->loc' k=some (pL f L))
  (r:∀k g,loc' k=some g->(∃l,b' k=some l)∧∃id L f,ρ.pos id=some k∧loc id=some L∧g=pL f L):Mem P S loc' b' w:=by
 refine⟨fun k c hk=>?_,fun k g hk=>(r k g hk).1,h.imm,h.ti,fun k g u hk a o=>?_,fun k k' L g u hk y a j=>?_⟩
 ·obtain⟨id,l,f,h1,q,rfl,C⟩:=F k c hk
  obtain⟨L,D,E⟩:=h.boxes id l q
  exact⟨_,C L D,ta.ren G f E⟩
 ·obtain⟨_,id,L,f,h1,q,rfl⟩:=r k g hk
  rw [sl]at a
  exact h.rK id L u q a o
 ·obtain⟨_,id,B,f,h1,q,rfl⟩:=r k L hk
  obtain⟨_,z,t,H,p,x,rfl⟩:=r k' g y
  rw [sl]at a j
  have:=h.inj id z B t u q x a j
  subst this
  rw [h1]at p
  exact DS p
end Go.Dw
