
import Derived.Test.YtomapcboiinfdaaGreatDwMap
import Derived.Test.YtomapcboiinfdaaGreatDwMake
open Option.some renaming inj->BX, injEq->AD
open List renaming getElem?_map->Ap

namespace Go.Dw
def nf(f:Nat->Nat):Loc->Loc
 | .arr ver e sz hdr=>.arr (f ver) e sz hdr
 | .nest ver e sz hdr bs=>.nest (f ver) e sz hdr bs
 |L=>L
theorem pw(f:Nat->Nat)(L:Loc)(b:Nat):(nf f L).has b=L.has b:=by cases L<;>rfl
theorem wa{f:Nat->Nat}{L:Loc}{ver:Nat}{e:TypeId}{sz:Nat}{hdr:Value}(h:nf f L= .arr ver e sz hdr):∃cur,L= .arr cur e sz hdr∧ver=f cur:=by
 cases L with
 |arr cur g c a=>simp only [nf,Loc.arr.injEq]at h;obtain⟨rfl,rfl,rfl,rfl⟩:=h;exact⟨cur,rfl,rfl⟩
 |var b=>cases h
 |dead=>cases h
 |map b=>cases h
 |nest _ _ _ _ _=>cases h
theorem wb{f:Nat->Nat}{L:Loc}{ver:Nat}{e:TypeId}{sz:Nat}{hdr:Value}(h:(nf f L).Row ver e sz hdr):∃cur,L.Row cur e sz hdr∧ver=f cur:=by
 cases L with
 |arr cur g c a=>cases h;exact⟨cur,.arr,rfl⟩
 |nest cur g c a bs=>cases h;exact⟨cur,.nest,rfl⟩
 |var b=>cases h
 |dead=>cases h
 |map b=>cases h
theorem qm{f g:Nat->Nat}{L:Loc}{ver:Nat}{e:TypeId}{sz:Nat}{hdr:Value}(h:L.Row ver e sz hdr)(he:nf f L=nf g L):f ver=g ver:=by
 cases h<;> ·simp only [nf,Loc.arr.injEq,Loc.nest.injEq]at he;exact he.1
theorem yJ{f:Nat->Nat}{L:Loc}{b:Nat}(h:nf f L= .var b):L= .var b:=by cases L<;>first|exact h|cases h
theorem yI{f:Nat->Nat}{L:Loc}{b:Nat}(h:(nf f L).Map b):L.Map b:=by cases L<;>first|exact h|cases h
structure rK(ρ:Ren)(loc loc':nB):Prop where
 pos:∀id k L,ρ.pos id=some k->loc id=some L->∃f,loc' k=some (nf f L)
 ver:∀id ver v' k cur e sz hdr L,ρ.pos id=some k->ρ.ver id ver=some v'->loc id=some L->L.Row cur e sz hdr->ver=cur∧∃f,loc' k=some (nf f L)∧f cur=v'
section
variable {P:Program}{S:mW}{loc loc':nB}{w:World}{ρ:Ren}
theorem R.qz(h:rK ρ loc loc'){rv:RV}{v:Value}(C:R S loc rv v):R S loc' (Dw.qz ρ rv) v:=by
 cases C with
 |d h=>exact .d h
 |undef=>exact .undef
 |junk v=>exact .junk v
 |cI=>exact .cI
 |agg cs vs B m=>exact .junk _
 |tup cs vs B m=>exact .junk _
 |clo f cs vs B m=>exact .junk _
 |err t x=>exact .err t x
 |noerr=>exact .noerr
 |dfull es a h=>exact .dfull es a h
 |ifc t c v h=>exact .junk _
 |plit cs b o c f m hS hV=>exact .junk _
 |pcp c b o u hS hV=>exact .junk _
 |cptr cs b o f hS hV=>exact .cptr cs b o f hS hV
 |fview id ver hi v L s n m=>
  simp only [Dw.qz]
  rcases p:ρ.pos id with _|k
  ·exact .junk _
  rcases y:ρ.ver id ver with _|v'
  ·exact .junk _
  obtain⟨f,j⟩:=h.pos id k L p n
  refine .fview k v' hi v _ s j fun r e sz hdr he=>?_
  obtain⟨cur,rfl,rfl⟩:=wa he
  obtain⟨rfl,g,q,rfl⟩:=h.ver id ver v' k cur e sz hdr _ p y n .arr
  rw [j]at q
  have:=qm .arr (BX q)
  exact⟨om,fun _=>(m ver e sz hdr rfl).2 rfl⟩
 |ptr id off v L s n m=>
  simp only [Dw.qz]
  rcases p:ρ.pos id with _|k
  ·exact .junk _
  obtain⟨f,j⟩:=h.pos id k L p n
  exact .ptr k off v _ s j fun b=>⟨fun z=>(m b).1 (yJ z),fun z=>(m b).2 (yI z)⟩
 |ref id ver v L s n m=>
  simp only [Dw.qz]
  rcases p:ρ.pos id with _|k
  ·exact .junk _
  rcases y:ρ.ver id ver with _|v'
  ·exact .junk _
  obtain⟨f,j⟩:=h.pos id k L p n
  refine .ref k v' v _ s j fun r e sz hdr he=>?_
  obtain⟨cur,l,rfl⟩:=wb he
  obtain⟨rfl,g,q,rfl⟩:=h.ver id ver v' k cur e sz hdr _ p y n l
  rw [j]at q
  have:=qm l (BX q)
  exact⟨om,fun _=>(m ver e sz hdr l).2 rfl⟩
 |elt id ver i o v L s n m=>
  simp only [Dw.qz]
  rcases p:ρ.pos id with _|k
  ·exact .junk _
  rcases y:ρ.ver id ver with _|v'
  ·exact .junk _
  obtain⟨f,j⟩:=h.pos id k L p n
  refine .elt k v' i o v _ s j fun r e sz hdr he=>?_
  obtain⟨cur,l,rfl⟩:=wb he
  obtain⟨rfl,g,q,rfl⟩:=h.ver id ver v' k cur e sz hdr _ p y n l
  rw [j]at q
  have:=qm l (BX q)
  exact⟨om,fun _=>(m ver e sz hdr l).2 rfl⟩
 |view id ver lo hi v L s n m=>
  simp only [Dw.qz]
  rcases p:ρ.pos id with _|k
  ·exact .junk _
  rcases y:ρ.ver id ver with _|v'
  ·exact .junk _
  obtain⟨f,j⟩:=h.pos id k L p n
  refine .view k v' lo hi v _ s j fun r e sz hdr he=>?_
  obtain⟨cur,rfl,rfl⟩:=wa he
  obtain⟨rfl,g,q,rfl⟩:=h.ver id ver v' k cur e sz hdr _ p y n .arr
  rw [j]at q
  have:=qm .arr (BX q)
  exact⟨om,fun _=>(m ver e sz hdr rfl).2 rfl⟩
theorem R.ov(h:rK ρ loc loc'){rv:RV}{v:Value}(g:R S loc rv v):R S loc' (Dw.ov ρ rv) v:=by
 have cells:∀{cs:List RV}{vs:Array Value},(∀(i:Nat)c v,cs[i]? =some c->vs[i]? =some v->R S loc c v)->
   ∀(i:Nat)c v,(cs.map (Dw.qz ρ))[i]? =some c->vs[i]? =some v->R S loc' c v:=by
  intro cs vs a i c v h1 p
  rw [Ap]at h1
  rcases e:cs[i]? with _|m
  ·simp [e]at h1
  simp only [e,Option.map_some,AD]at h1
  subst h1
  exact R.qz h (a i m v e p)
 cases rv with
 |agg cs=>obtain⟨vs,rfl,n,a⟩:=g.si;exact .agg _ vs (by simpa using n) (cells a)
 |tup cs=>cases g with|tup _ vs n a=>exact .tup _ vs (by simpa using n) (cells a)
 |clo f cs=>cases g with|clo _ _ vs n a=>exact .clo f _ vs (by simpa using n) (cells a)
 |ifc t c=>cases g with|ifc _ _ v a=>exact .ifc t _ v (R.qz h a)
 |plit cs=>cases g with|plit _ b o c f a hS hV=>
  have:=R.plit (S:=S) (loc:=loc') (cs.map (Dw.qz ρ)) b o c f (by simpa using a)
   (fun j x k => by
    rw [Ap]at k
    rcases l:cs[j]? with _|m
    ·simp [l]at k
    exact hS j m l)
   (fun j x k => by
    rw [Ap]at k
    rcases l:cs[j]? with _|m
    ·simp [l]at k
    simp only [l,Option.map_some,AD]at k
    subst k
    exact R.qz h (hV j m l))
  rwa [List.length_map]at this
 |pcp c=>cases g with|pcp _ b o u hS hV=>exact .pcp _ b o u hS (R.qz h hV)
 |_=>exact R.qz h g
def renNC(ρ:Ren):NC->NC
 | .val rv=>.val (Dw.ov ρ rv)
 |c=>c
theorem NCs.ren0(h:rK ρ loc loc'){cs:List NC}{vs:List Value}{bs:List Nat}(b:NCs P S loc w cs vs bs):NCs P S loc' w (cs.map (renNC ρ)) vs bs:=by
 induction b with
 |nil=>exact .nil
 |cons h1 _ f=>
  refine .cons ?_ f
  cases h1 with
  |val _ _ e c=>exact .val _ _ (R.ov h e) c
  |row _ _ _ _ _ a how hf=>exact .row _ _ _ _ _ a how hf
theorem NCs.ren(h:rK ρ loc loc'){e2:TypeId}{ess:List (List PD)}{a:Option (Nat×RV)}{vs:List Value}{bs:List Nat}(b:NCs P S loc w (ncs e2 ess a) vs bs):
  NCs P S loc' w (ncs e2 ess (match a with|some (i,rv)=>some (i,Dw.ov ρ rv)|none=>none)) vs bs:=by
 have:=NCs.ren0 h b
 rcases a with _|⟨i,rv⟩
 ·simpa [ncs,Function.comp_def,renNC]using this
 ·simpa [ncs,List.map_set,Function.comp_def,renNC]using this
theorem pY.ren(h:rK ρ loc loc'){q:Box}{L:Loc}(f:Nat->Nat)(x:pY P S loc w q L):pY P S loc' w (o0 ρ f q) (nf f L):=by
 cases x with
 |var cs b t vs hw p l=>
  refine .var _ b t vs hw (by simpa using p) fun i c v g C=>?_
  rw [Ap]at g
  rcases k:cs[i]? with _|r
  ·simp [k]at g
  simp only [k,Option.map_some,AD]at g
  subst g
  exact R.ov h (l i r v k C)
 |arr ver e es sz hdr xs a how hf=>exact .arr (f ver) e es sz hdr xs a how hf
 |dead L s=>subst s;exact .dead _ rfl
 |map D F es b clock ents hw p l=>exact .map D F es b clock ents hw p l
 |nest ver e e2 ess y hdr xs bs a n how l m hi=>
  rcases y with _|⟨i,rv⟩
  ·exact .nest (f ver) e e2 ess none hdr xs bs a n how (NCs.ren h l) m (fun i rv e=>by cases e)
  ·refine .nest (f ver) e e2 ess (some (i,Dw.ov ρ rv)) hdr xs bs a n how ?_ m (fun j E e=>by cases e;exact hi i rv rfl)
   exact NCs.ren h l
 |hole ver e es i o rv sz hdr xs u a how hf hi z hu B=>exact .hole (f ver) e es i o _ sz hdr xs u a how hf hi z hu (R.ov h B)
theorem xC{b:nn}{f:Nat->Nat->Nat}{id ver v':Nat}(h:nN b f id ver=some v'):((∃e es,b id=some (.arr ver e es))∨(∃e e2 ess g,b id=some (.nest ver e e2 ess g))∨∃e es i o rv,b id=some (.hole ver e es i o rv))∧v'=f id ver:=by
 unfold nN at h
 split at h
 ·rename_i cur e es a
  split at h
  ·rename_i c;subst c;cases h;exact⟨.inl ⟨e,es,a⟩,rfl⟩
  ·cases h
 ·rename_i cur e e2 ess g a
  split at h
  ·rename_i c;subst c;cases h;exact⟨.inr (.inl ⟨e,e2,ess,g,a⟩),rfl⟩
  ·cases h
 ·rename_i cur e es i o rv a
  split at h
  ·rename_i c;subst c;cases h;exact⟨.inr (.inr ⟨e,es,i,o,rv,a⟩),rfl⟩
  ·cases h
 ·cases h
theorem yp{b:nn}{f:Nat->Nat->Nat}{id ver v' cur:Nat}{e:TypeId}{sz:Nat}{hdr:Value}{L:Loc}(h:nN b f id ver=some v')(a:∀g,b id=some g->pY P S loc w g L)(c:L.Row cur e sz hdr):ver=cur∧v'=f id ver:=by
 obtain⟨h1,rfl⟩:=xC h
 refine⟨?_,rfl⟩
 rcases h1 with⟨j,es,h1⟩|⟨j,e2,ess,k,h1⟩|⟨j,es,i,o,rv,h1⟩
 ·have:=a _ h1
  cases this with
  |arr=>cases c;rfl
 ·have:=a _ h1
  cases this with
  |nest=>cases c;rfl
 ·have:=a _ h1
  cases this with
  |hole=>cases c;rfl
theorem rK.mk'{b:nn}{pos:Nat->Option Nat}{f:Nat->Nat->Nat}(m:∀id a,b id=some a->∃L,loc id=some L∧pY P S loc w a L)
  (j:∀id k L,pos id=some k->loc id=some L->loc' k=some (nf (f id) L)):rK ⟨pos,nN b f⟩ loc loc':=by
 refine⟨fun id k L i c=>⟨_,j id k L i c⟩,fun id ver v' k cur e sz hdr L i o c n=>?_⟩
 obtain⟨rfl,rfl⟩:=yp (P:=P) (S:=S) (loc:=loc) (w:=w) o (fun a g=>by obtain⟨p,h1,l⟩:=m id a g;rw [c]at h1;cases h1;exact l) n
 exact⟨rfl,_,j id k L i c,rfl⟩
end
structure Mem(P:Program)(S:mW)(loc:nB)(bm:nn)(w:World):Prop where
 boxes:∀id bx,bm id=some bx->∃L,loc id=some L∧pY P S loc w bx L
 dom:∀id L,loc id=some L->∃bx,bm id=some bx
 imm:∀ad v,S ad=some v->w.cell? ad=some v
 qT:∀ad v,S ad=some v->v.oneCell'=true
 pH:∀id L b,loc id=some L->L.has b->∀o,S ⟨b,o,none⟩=none
 inj:∀id id' L L' b,loc id=some L->loc id'=some L'->L.has b->L'.has b->id=id'
theorem Sim.mem{P:Program}{X:Ctx}{S:mW}{loc:nB}{s:St}{a:Array Value}{w:World}(h:Sim P X S loc s a w):Mem P S loc s.boxes w:=⟨h.boxes,h.dom,h.imm,h.qT,h.pH,h.inj⟩
theorem Mem.ot{P:Program}{S:mW}{loc:nB}{boxes:nn}{w:World}(h:Mem P S loc boxes w){id:Nat}{a:Box}{L:Loc}(e:boxes id=some a)(c:loc id=some L):pY P S loc w a L:=by
 obtain⟨f,h1,b⟩:=h.boxes id a e
 rw [c]at h1;cases h1;exact b
theorem Mem.lt{P:Program}{S:mW}{loc:nB}{boxes:nn}{w:World}(h:Mem P S loc boxes w){id b:Nat}{L:Loc}(c:loc id=some L)(e:L.has b):b<w.heap.size:=by
 obtain⟨f,a⟩:=h.dom id L c
 exact(h.ot a c).pz e
theorem Mem.ren{P:Program}{S:mW}{loc loc':nB}{b b':nn}{w:World}{ρ:Ren}(h:Mem P S loc b w)(z:rK ρ loc loc')
  (y:∀k c,b' k=some c->∃id i f,ρ.pos id=some k∧b id=some i∧c=o0 ρ f i∧∀L,loc id=some L->loc' k=some (nf f L))
  (m:∀k e,loc' k=some e->(∃i,b' k=some i)∧∃id L f,ρ.pos id=some k∧loc id=some L∧e=nf f L):Mem P S loc' b' w:=by
 refine⟨fun k c hk=>?_,fun k e hk=>(m k e hk).1,h.imm,h.qT,fun k e p hk a o=>?_,fun k k' L e p hk r a g=>?_⟩
 ·obtain⟨id,i,f,h1,l,rfl,u⟩:=y k c hk
  obtain⟨L,v,x⟩:=h.boxes id i l
  exact⟨_,u L v,pY.ren z f x⟩
 ·obtain⟨_,id,L,f,h1,l,rfl⟩:=m k e hk
  rw [pw]at a
  exact h.pH id L p l a o
 ·obtain⟨_,id,t,f,h1,l,rfl⟩:=m k L hk
  obtain⟨_,s,n,B,j,q,rfl⟩:=m k' e r
  rw [pw]at a g
  have:=h.inj id s t n p l q a g
  subst this
  rw [h1]at j
  exact BX j
end Go.Dw
