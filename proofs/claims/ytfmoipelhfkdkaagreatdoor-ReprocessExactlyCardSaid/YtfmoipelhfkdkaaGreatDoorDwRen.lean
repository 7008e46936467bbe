
import Derived.Test.YtfmoipelhfkdkaaGreatDoorDwMap
import Derived.Test.YtfmoipelhfkdkaaGreatDoorDwMake
open Option.some renaming inj->E9, injEq->DB
open List renaming getElem?_map->ED

namespace Go.Dw
def rK(f:Nat->Nat):Loc->Loc
 | .arr ver e sz hdr=>.arr (f ver) e sz hdr
 | .nest ver e sz hdr bs=>.nest (f ver) e sz hdr bs
 |L=>L
theorem uI(f:Nat->Nat)(L:Loc)(b:Nat):(rK f L).has b=L.has b:=by cases L<;>rfl
theorem Ax{f:Nat->Nat}{L:Loc}{ver:Nat}{e:TypeId}{sz:Nat}{hdr:Value}(h:rK f L= .arr ver e sz hdr):∃cur,L= .arr cur e sz hdr∧ver=f cur:=by
 cases L with
 |arr cur k j g=>simp only [rK,Loc.arr.injEq]at h;obtain⟨rfl,rfl,rfl,rfl⟩:=h;exact⟨cur,rfl,rfl⟩
 |var b=>cases h
 |dead=>cases h
 |map b=>cases h
 |nest _ _ _ _ _=>cases h
theorem Ay{f:Nat->Nat}{L:Loc}{ver:Nat}{e:TypeId}{sz:Nat}{hdr:Value}(h:(rK f L).Row ver e sz hdr):∃cur,L.Row cur e sz hdr∧ver=f cur:=by
 cases L with
 |arr cur k j g=>cases h;exact⟨cur,.arr,rfl⟩
 |nest cur k j g bs=>cases h;exact⟨cur,.nest,rfl⟩
 |var b=>cases h
 |dead=>cases h
 |map b=>cases h
theorem vG{f g:Nat->Nat}{L:Loc}{ver:Nat}{e:TypeId}{sz:Nat}{hdr:Value}(h:L.Row ver e sz hdr)(he:rK f L=rK g L):f ver=g ver:=by
 cases h<;> ·simp only [rK,Loc.arr.injEq,Loc.nest.injEq]at he;exact he.1
theorem CI{f:Nat->Nat}{L:Loc}{b:Nat}(h:rK f L= .var b):L= .var b:=by cases L<;>first|exact h|cases h
theorem CH{f:Nat->Nat}{L:Loc}{b:Nat}(h:(rK f L).Map b):L.Map b:=by cases L<;>first|exact h|cases h
structure wS(ρ:Ren)(loc loc':sf):Prop where
 pos:∀id k L,ρ.pos id=some k->loc id=some L->∃f,loc' k=some (rK f L)
 ver:∀id ver v' k cur e sz hdr L,ρ.pos id=some k->ρ.ver id ver=some v'->loc id=some L->L.Row cur e sz hdr->ver=cur∧∃f,loc' k=some (rK f L)∧f cur=v'
section
variable {P:Program}{S:rC}{loc loc':sf}{w:World}{ρ:Ren}
theorem R.vQ(h:wS ρ loc loc'){rv:RV}{v:Value}(F:R S loc rv v):R S loc' (Dw.vQ ρ rv) v:=by
 cases F with
 |d h=>exact .d h
 |undef=>exact .undef
 |junk v=>exact .junk v
 |pY=>exact .pY
 |agg cs vs hl hc=>exact .junk _
 |tup cs vs hl hc=>exact .junk _
 |clo f cs vs hl hc=>exact .junk _
 |err t x=>exact .err t x
 |noerr=>exact .noerr
 |dfull es a h=>exact .dfull es a h
 |ifc t c v h=>exact .junk _
 |plit cs b o c f hc hS hV=>exact .junk _
 |pcp c b o u hS hV=>exact .junk _
 |cptr cs b o f hS hV=>exact .cptr cs b o f hS hV
 |fview id ver hi v L ho r hc=>
  simp only [Dw.vQ]
  rcases hp:ρ.pos id with _|k
  ·exact .junk _
  rcases D:ρ.ver id ver with _|v'
  ·exact .junk _
  obtain⟨f,j⟩:=h.pos id k L hp r
  refine .fview k v' hi v _ ho j fun C e sz hdr he=>?_
  obtain⟨cur,rfl,rfl⟩:=Ax he
  obtain⟨rfl,g,B,rfl⟩:=h.ver id ver v' k cur e sz hdr _ hp D r .arr
  rw [j]at B
  have:=vG .arr (E9 B)
  exact⟨za,fun _=>(hc ver e sz hdr rfl).2 rfl⟩
 |ptr id off v L ho r hc=>
  simp only [Dw.vQ]
  rcases hp:ρ.pos id with _|k
  ·exact .junk _
  obtain⟨f,j⟩:=h.pos id k L hp r
  exact .ptr k off v _ ho j fun b=>⟨fun E=>(hc b).1 (CI E),fun E=>(hc b).2 (CH E)⟩
 |ref id ver v L ho r hc=>
  simp only [Dw.vQ]
  rcases hp:ρ.pos id with _|k
  ·exact .junk _
  rcases D:ρ.ver id ver with _|v'
  ·exact .junk _
  obtain⟨f,j⟩:=h.pos id k L hp r
  refine .ref k v' v _ ho j fun C e sz hdr he=>?_
  obtain⟨cur,q,rfl⟩:=Ay he
  obtain⟨rfl,g,B,rfl⟩:=h.ver id ver v' k cur e sz hdr _ hp D r q
  rw [j]at B
  have:=vG q (E9 B)
  exact⟨za,fun _=>(hc ver e sz hdr q).2 rfl⟩
 |elt id ver i o v L ho r hc=>
  simp only [Dw.vQ]
  rcases hp:ρ.pos id with _|k
  ·exact .junk _
  rcases D:ρ.ver id ver with _|v'
  ·exact .junk _
  obtain⟨f,j⟩:=h.pos id k L hp r
  refine .elt k v' i o v _ ho j fun C e sz hdr he=>?_
  obtain⟨cur,q,rfl⟩:=Ay he
  obtain⟨rfl,g,B,rfl⟩:=h.ver id ver v' k cur e sz hdr _ hp D r q
  rw [j]at B
  have:=vG q (E9 B)
  exact⟨za,fun _=>(hc ver e sz hdr q).2 rfl⟩
 |view id ver lo hi v L ho r hc=>
  simp only [Dw.vQ]
  rcases hp:ρ.pos id with _|k
  ·exact .junk _
  rcases D:ρ.ver id ver with _|v'
  ·exact .junk _
  obtain⟨f,j⟩:=h.pos id k L hp r
  refine .view k v' lo hi v _ ho j fun C e sz hdr he=>?_
  obtain⟨cur,rfl,rfl⟩:=Ax he
  obtain⟨rfl,g,B,rfl⟩:=h.ver id ver v' k cur e sz hdr _ hp D r .arr
  rw [j]at B
  have:=vG .arr (E9 B)
  exact⟨za,fun _=>(hc ver e sz hdr rfl).2 rfl⟩
theorem R.tl(h:wS ρ loc loc'){rv:RV}{v:Value}(k:R S loc rv v):R S loc' (Dw.tl ρ rv) v:=by
 have cells:∀{cs:List RV}{vs:Array Value},(∀(i:Nat)c v,cs[i]? =some c->vs[i]? =some v->R S loc c v)->
   ∀(i:Nat)c v,(cs.map (Dw.vQ ρ))[i]? =some c->vs[i]? =some v->R S loc' c v:=by
  intro cs vs hc i c v h1 C
  rw [ED]at h1
  rcases g:cs[i]? with _|B
  ·simp [g]at h1
  simp only [g,Option.map_some,DB]at h1
  subst h1
  exact R.vQ h (hc i B v g C)
 cases rv with
 |agg cs=>obtain⟨vs,rfl,hl,hc⟩:=k.xi;exact .agg _ vs (by simpa using hl) (cells hc)
 |tup cs=>cases k with|tup _ vs hl hc=>exact .tup _ vs (by simpa using hl) (cells hc)
 |clo f cs=>cases k with|clo _ _ vs hl hc=>exact .clo f _ vs (by simpa using hl) (cells hc)
 |ifc t c=>cases k with|ifc _ _ v hc=>exact .ifc t _ v (R.vQ h hc)
 |plit cs=>cases k with|plit _ b o c f hc hS hV=>
  have:=R.plit (S:=S) (loc:=loc') (cs.map (Dw.vQ ρ)) b o c f (by simpa using hc)
   (fun j x q => by
    rw [ED]at q
    rcases r:cs[j]? with _|B
    ·simp [r]at q
    exact hS j B r)
   (fun j x q => by
    rw [ED]at q
    rcases r:cs[j]? with _|B
    ·simp [r]at q
    simp only [r,Option.map_some,DB]at q
    subst q
    exact R.vQ h (hV j B r))
  rwa [List.length_map]at this
 |pcp c=>cases k with|pcp _ b o u hS hV=>exact .pcp _ b o u hS (R.vQ h hV)
 |_=>exact R.vQ h k
def renNC(ρ:Ren):NC->NC
 | .val rv=>.val (Dw.tl ρ rv)
 |c=>c
theorem NCs.ren0(h:wS ρ loc loc'){cs:List NC}{vs:List Value}{bs:List Nat}(hc:NCs P S loc w cs vs bs):NCs P S loc' w (cs.map (renNC ρ)) vs bs:=by
 induction hc with
 |nil=>exact .nil
 |cons h1 _ j=>
  refine .cons ?_ j
  cases h1 with
  |val _ _ g ho=>exact .val _ _ (R.tl h g) ho
  |row _ _ _ _ _ f how hf=>exact .row _ _ _ _ _ f how hf
theorem NCs.ren(h:wS ρ loc loc'){e2:TypeId}{ess:List (List PD)}{f:Option (Nat×RV)}{vs:List Value}{bs:List Nat}(hc:NCs P S loc w (ncs e2 ess f) vs bs):
  NCs P S loc' w (ncs e2 ess (match f with|some (i,rv)=>some (i,Dw.tl ρ rv)|none=>none)) vs bs:=by
 have:=NCs.ren0 h hc
 rcases f with _|⟨i,rv⟩
 ·simpa [ncs,Function.comp_def,renNC]using this
 ·simpa [ncs,List.map_set,Function.comp_def,renNC]using this
theorem u9.ren(h:wS ρ loc loc'){C:Box}{L:Loc}(f:Nat->Nat)(F:u9 P S loc w C L):u9 P S loc' w (ui ρ f C) (rK f L):=by
 cases F with
 |var cs b t vs hw hl hc=>
  refine .var _ b t vs hw (by simpa using hl) fun i c v k I=>?_
  rw [ED]at k
  rcases q:cs[i]? with _|D
  ·simp [q]at k
  simp only [q,Option.map_some,DB]at k
  subst k
  exact R.tl h (hc i D v q I)
 |arr ver e es sz hdr xs g how hf=>exact .arr (f ver) e es sz hdr xs g how hf
 |dead L E=>subst E;exact .dead _ rfl
 |map J N es b clock ents hw hl hc=>exact .map J N es b clock ents hw hl hc
 |nest ver e e2 ess G hdr xs bs g B how hc r hi=>
  rcases G with _|⟨i,rv⟩
  ·exact .nest (f ver) e e2 ess none hdr xs bs g B how (NCs.ren h hc) r (fun i rv e=>by cases e)
  ·refine .nest (f ver) e e2 ess (some (i,Dw.tl ρ rv)) hdr xs bs g B how ?_ r (fun j K e=>by cases e;exact hi i rv rfl)
   exact NCs.ren h hc
 |hole ver e es i o rv sz hdr xs u g how hf hi ho hu H=>exact .hole (f ver) e es i o _ sz hdr xs u g how hf hi ho hu (R.tl h H)
theorem BK{b:rY}{f:Nat->Nat->Nat}{id ver v':Nat}(h:sD b f id ver=some v'):((∃e es,b id=some (.arr ver e es))∨(∃e e2 ess k,b id=some (.nest ver e e2 ess k))∨∃e es i o rv,b id=some (.hole ver e es i o rv))∧v'=f id ver:=by
 unfold sD at h
 split at h
 ·rename_i cur e es g
  split at h
  ·rename_i j;subst j;cases h;exact⟨.inl ⟨e,es,g⟩,rfl⟩
  ·cases h
 ·rename_i cur e e2 ess k g
  split at h
  ·rename_i j;subst j;cases h;exact⟨.inr (.inl ⟨e,e2,ess,k,g⟩),rfl⟩
  ·cases h
 ·rename_i cur e es i o rv g
  split at h
  ·rename_i j;subst j;cases h;exact⟨.inr (.inr ⟨e,es,i,o,rv,g⟩),rfl⟩
  ·cases h
 ·cases h
theorem Cl{b:rY}{f:Nat->Nat->Nat}{id ver v' cur:Nat}{e:TypeId}{sz:Nat}{hdr:Value}{L:Loc}(h:sD b f id ver=some v')(g:∀k,b id=some k->u9 P S loc w k L)(j:L.Row cur e sz hdr):ver=cur∧v'=f id ver:=by
 obtain⟨h1,rfl⟩:=BK h
 refine⟨?_,rfl⟩
 rcases h1 with⟨q,es,h1⟩|⟨q,e2,ess,r,h1⟩|⟨q,es,i,o,rv,h1⟩
 ·have:=g _ h1
  cases this with
  |arr=>cases j;rfl
 ·have:=g _ h1
  cases this with
  |nest=>cases j;rfl
 ·have:=g _ h1
  cases this with
  |hole=>cases j;rfl
theorem wS.mk'{b:rY}{pos:Nat->Option Nat}{f:Nat->Nat->Nat}(u:∀id g,b id=some g->∃L,loc id=some L∧u9 P S loc w g L)
  (hl:∀id k L,pos id=some k->loc id=some L->loc' k=some (rK (f id) L)):wS ⟨pos,sD b f⟩ loc loc':=by
 refine⟨fun id k L hp j=>⟨_,hl id k L hp j⟩,fun id ver v' k cur e sz hdr L hp C j B=>?_⟩
 obtain⟨rfl,rfl⟩:=Cl (P:=P) (S:=S) (loc:=loc) (w:=w) C (fun g q=>by obtain⟨D,h1,r⟩:=u id g q;rw [j]at h1;cases h1;exact r) B
 exact⟨rfl,_,hl id k L hp j,rfl⟩
end
structure Mem(P:Program)(S:rC)(loc:sf)(bm:rY)(w:World):Prop where
 boxes:∀id bx,bm id=some bx->∃L,loc id=some L∧u9 P S loc w bx L
 dom:∀id L,loc id=some L->∃bx,bm id=some bx
 imm:∀ad v,S ad=some v->w.cell? ad=some v
 vA:∀ad v,S ad=some v->v.oneCell'=true
 uC:∀id L b,loc id=some L->L.has b->∀o,S ⟨b,o,none⟩=none
 inj:∀id id' L L' b,loc id=some L->loc id'=some L'->L.has b->L'.has b->id=id'
theorem Sim.mem{P:Program}{X:Ctx}{S:rC}{loc:sf}{s:St}{f:Array Value}{w:World}(h:Sim P X S loc s f w):Mem P S loc s.boxes w:=⟨h.boxes,h.dom,h.imm,h.vA,h.uC,h.inj⟩
theorem Mem.tA{P:Program}{S:rC}{loc:sf}{boxes:rY}{w:World}(h:Mem P S loc boxes w){id:Nat}{f:Box}{L:Loc}(k:boxes id=some f)(j:loc id=some L):u9 P S loc w f L:=by
 obtain⟨q,h1,g⟩:=h.boxes id f k
 rw [j]at h1;cases h1;exact g
theorem Mem.lt{P:Program}{S:rC}{loc:sf}{boxes:rY}{w:World}(h:Mem P S loc boxes w){id b:Nat}{L:Loc}(g:loc id=some L)(j:L.has b):b<w.heap.size:=by
 obtain⟨k,f⟩:=h.dom id L g
 exact(h.tA f g).uL j
theorem Mem.ren{P:Program}{S:rC}{loc loc':sf}{b b':rY}{w:World}{ρ:Ren}(h:Mem P S loc b w)(T:wS ρ loc loc')
  (Q:∀k j,b' k=some j->∃id u f,ρ.pos id=some k∧b id=some u∧j=ui ρ f u∧∀L,loc id=some L->loc' k=some (rK f L))
  (D:∀k q,loc' k=some q->(∃u,b' k=some u)∧∃id L f,ρ.pos id=some k∧loc id=some L∧q=rK f L):Mem P S loc' b' w:=by
 refine⟨fun k j hk=>?_,fun k q hk=>(D k q hk).1,h.imm,h.vA,fun k q F hk g o=>?_,fun k k' L q F hk H g r=>?_⟩
 ·obtain⟨id,u,f,h1,C,rfl,K⟩:=Q k j hk
  obtain⟨L,N,O⟩:=h.boxes id u C
  exact⟨_,K L N,u9.ren T f O⟩
 ·obtain⟨_,id,L,f,h1,C,rfl⟩:=D k q hk
  rw [uI]at g
  exact h.uC id L F C g o
 ·obtain⟨_,id,J,f,h1,C,rfl⟩:=D k L hk
  obtain⟨_,I,E,U,B,G,rfl⟩:=D k' q H
  rw [uI]at g r
  have:=h.inj id I J E F C G g r
  subst this
  rw [h1]at B
  exact E9 B
end Go.Dw
