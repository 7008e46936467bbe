
import Derived.Test.YtfmoipelhfkdkaaGreatDoorDwMap
import Derived.Test.YtfmoipelhfkdkaaGreatDoorDwMake
open Option.some renaming inj->Ew, injEq->DJ
open List renaming getElem?_map->EY

namespace Go.Dw
def rY(f:Nat->Nat):Loc->Loc
 | .arr ver e sz hdr=>.arr (f ver) e sz hdr
 | .nest ver e sz hdr bs=>.nest (f ver) e sz hdr bs
 |L=>L
theorem uS(f:Nat->Nat)(L:Loc)(b:Nat):(rY f L).has b=L.has b:=by cases L<;>rfl
theorem AN{f:Nat->Nat}{L:Loc}{ver:Nat}{e:TypeId}{sz:Nat}{hdr:Value}(h:rY f L= .arr ver e sz hdr):∃cur,L= .arr cur e sz hdr∧ver=f cur:=by
 cases L with
 |arr cur k j g=>simp only [rY,Loc.arr.injEq]at h;obtain⟨rfl,rfl,rfl,rfl⟩:=h;exact⟨cur,rfl,rfl⟩
 |var b=>cases h
 |dead=>cases h
 |map b=>cases h
 |nest _ _ _ _ _=>cases h
theorem AO{f:Nat->Nat}{L:Loc}{ver:Nat}{e:TypeId}{sz:Nat}{hdr:Value}(h:(rY f L).Row ver e sz hdr):∃cur,L.Row cur e sz hdr∧ver=f cur:=by
 cases L with
 |arr cur k j g=>cases h;exact⟨cur,.arr,rfl⟩
 |nest cur k j g bs=>cases h;exact⟨cur,.nest,rfl⟩
 |var b=>cases h
 |dead=>cases h
 |map b=>cases h
theorem vS{f g:Nat->Nat}{L:Loc}{ver:Nat}{e:TypeId}{sz:Nat}{hdr:Value}(h:L.Row ver e sz hdr)(he:rY f L=rY g L):f ver=g ver:=by
 cases h<;> ·simp only [rY,Loc.arr.injEq,Loc.nest.injEq]at he;exact he.1
theorem C1{f:Nat->Nat}{L:Loc}{b:Nat}(h:rY f L= .var b):L= .var b:=by cases L<;>first|exact h|cases h
theorem C0{f:Nat->Nat}{L:Loc}{b:Nat}(h:(rY f L).Map b):L.Map b:=by cases L<;>first|exact h|cases h
structure w7(ρ:Ren)(loc loc':ss):Prop where
 pos:∀id k L,ρ.pos id=some k->loc id=some L->∃f,loc' k=some (rY f L)
 ver:∀id ver v' k cur e sz hdr L,ρ.pos id=some k->ρ.ver id ver=some v'->loc id=some L->L.Row cur e sz hdr->ver=cur∧∃f,loc' k=some (rY f L)∧f cur=v'
section
variable {P:Program}{S:rP}{loc loc':ss}{w:World}{ρ:Ren}
theorem R.wa(h:w7 ρ loc loc'){rv:RV}{v:Value}(G:R S loc rv v):R S loc' (Dw.wa ρ rv) v:=by
 cases G with
 |d h=>exact .d h
 |undef=>exact .undef
 |junk v=>exact .junk v
 |rm=>exact .rm
 |agg cs vs hl hc=>exact .junk _
 |tup cs vs hl hc=>exact .junk _
 |clo f cs vs hl hc=>exact .junk _
 |err t x=>exact .err t x
 |noerr=>exact .noerr
 |dfull es a h=>exact .dfull es a h
 |ifc t c v h=>exact .junk _
 |plit cs b o c f hc hS hV=>exact .junk _
 |pcp c b o u hS hV=>exact .junk _
 |cptr cs b o f hS hV=>exact .cptr cs b o f hS hV
 |fview id ver hi v L ho r hc=>
  simp only [Dw.wa]
  rcases hp:ρ.pos id with _|k
  ·exact .junk _
  rcases E:ρ.ver id ver with _|v'
  ·exact .junk _
  obtain⟨f,j⟩:=h.pos id k L hp r
  refine .fview k v' hi v _ ho j fun D e sz hdr he=>?_
  obtain⟨cur,rfl,rfl⟩:=AN he
  obtain⟨rfl,g,C,rfl⟩:=h.ver id ver v' k cur e sz hdr _ hp E r .arr
  rw [j]at C
  have:=vS .arr (Ew C)
  exact⟨za,fun _=>(hc ver e sz hdr rfl).2 rfl⟩
 |ptr id off v L ho r hc=>
  simp only [Dw.wa]
  rcases hp:ρ.pos id with _|k
  ·exact .junk _
  obtain⟨f,j⟩:=h.pos id k L hp r
  exact .ptr k off v _ ho j fun b=>⟨fun F=>(hc b).1 (C1 F),fun F=>(hc b).2 (C0 F)⟩
 |ref id ver v L ho r hc=>
  simp only [Dw.wa]
  rcases hp:ρ.pos id with _|k
  ·exact .junk _
  rcases E:ρ.ver id ver with _|v'
  ·exact .junk _
  obtain⟨f,j⟩:=h.pos id k L hp r
  refine .ref k v' v _ ho j fun D e sz hdr he=>?_
  obtain⟨cur,q,rfl⟩:=AO he
  obtain⟨rfl,g,C,rfl⟩:=h.ver id ver v' k cur e sz hdr _ hp E r q
  rw [j]at C
  have:=vS q (Ew C)
  exact⟨za,fun _=>(hc ver e sz hdr q).2 rfl⟩
 |elt id ver i o v L ho r hc=>
  simp only [Dw.wa]
  rcases hp:ρ.pos id with _|k
  ·exact .junk _
  rcases E:ρ.ver id ver with _|v'
  ·exact .junk _
  obtain⟨f,j⟩:=h.pos id k L hp r
  refine .elt k v' i o v _ ho j fun D e sz hdr he=>?_
  obtain⟨cur,q,rfl⟩:=AO he
  obtain⟨rfl,g,C,rfl⟩:=h.ver id ver v' k cur e sz hdr _ hp E r q
  rw [j]at C
  have:=vS q (Ew C)
  exact⟨za,fun _=>(hc ver e sz hdr q).2 rfl⟩
 |view id ver lo hi v L ho r hc=>
  simp only [Dw.wa]
  rcases hp:ρ.pos id with _|k
  ·exact .junk _
  rcases E:ρ.ver id ver with _|v'
  ·exact .junk _
  obtain⟨f,j⟩:=h.pos id k L hp r
  refine .view k v' lo hi v _ ho j fun D e sz hdr he=>?_
  obtain⟨cur,rfl,rfl⟩:=AN he
  obtain⟨rfl,g,C,rfl⟩:=h.ver id ver v' k cur e sz hdr _ hp E r .arr
  rw [j]at C
  have:=vS .arr (Ew C)
  exact⟨za,fun _=>(hc ver e sz hdr rfl).2 rfl⟩
theorem R.tD(h:w7 ρ loc loc'){rv:RV}{v:Value}(k:R S loc rv v):R S loc' (Dw.tD ρ rv) v:=by
 have cells:∀{cs:List RV}{vs:Array Value},(∀(i:Nat)c v,cs[i]? =some c->vs[i]? =some v->R S loc c v)->
   ∀(i:Nat)c v,(cs.map (Dw.wa ρ))[i]? =some c->vs[i]? =some v->R S loc' c v:=by
  intro cs vs hc i c v h1 D
  rw [EY]at h1
  rcases g:cs[i]? with _|C
  ·simp [g]at h1
  simp only [g,Option.map_some,DJ]at h1
  subst h1
  exact R.wa h (hc i C v g D)
 cases rv with
 |agg cs=>obtain⟨vs,rfl,hl,hc⟩:=k.xB;exact .agg _ vs (by simpa using hl) (cells hc)
 |tup cs=>cases k with|tup _ vs hl hc=>exact .tup _ vs (by simpa using hl) (cells hc)
 |clo f cs=>cases k with|clo _ _ vs hl hc=>exact .clo f _ vs (by simpa using hl) (cells hc)
 |ifc t c=>cases k with|ifc _ _ v hc=>exact .ifc t _ v (R.wa h hc)
 |plit cs=>cases k with|plit _ b o c f hc hS hV=>
  have:=R.plit (S:=S) (loc:=loc') (cs.map (Dw.wa ρ)) b o c f (by simpa using hc)
   (fun j x q => by
    rw [EY]at q
    rcases r:cs[j]? with _|C
    ·simp [r]at q
    exact hS j C r)
   (fun j x q => by
    rw [EY]at q
    rcases r:cs[j]? with _|C
    ·simp [r]at q
    simp only [r,Option.map_some,DJ]at q
    subst q
    exact R.wa h (hV j C r))
  rwa [List.length_map]at this
 |pcp c=>cases k with|pcp _ b o u hS hV=>exact .pcp _ b o u hS (R.wa h hV)
 |_=>exact R.wa h k
def renNC(ρ:Ren):NC->NC
 | .val rv=>.val (Dw.tD ρ rv)
 |c=>c
theorem NCs.ren0(h:w7 ρ loc loc'){cs:List NC}{vs:List Value}{bs:List Nat}(hc:NCs P S loc w cs vs bs):NCs P S loc' w (cs.map (renNC ρ)) vs bs:=by
 induction hc with
 |nil=>exact .nil
 |cons h1 _ j=>
  refine .cons ?_ j
  cases h1 with
  |val _ _ g ho=>exact .val _ _ (R.tD h g) ho
  |row _ _ _ _ _ f how hf=>exact .row _ _ _ _ _ f how hf
theorem NCs.ren(h:w7 ρ loc loc'){e2:TypeId}{ess:List (List PD)}{f:Option (Nat×RV)}{vs:List Value}{bs:List Nat}(hc:NCs P S loc w (ncs e2 ess f) vs bs):
  NCs P S loc' w (ncs e2 ess (match f with|some (i,rv)=>some (i,Dw.tD ρ rv)|none=>none)) vs bs:=by
 have:=NCs.ren0 h hc
 rcases f with _|⟨i,rv⟩
 ·simpa [ncs,Function.comp_def,renNC]using this
 ·simpa [ncs,List.map_set,Function.comp_def,renNC]using this
theorem vD.ren(h:w7 ρ loc loc'){D:Box}{L:Loc}(f:Nat->Nat)(G:vD P S loc w D L):vD P S loc' w (uB ρ f D) (rY f L):=by
 cases G with
 |var cs b t vs hw hl hc=>
  refine .var _ b t vs hw (by simpa using hl) fun i c v k J=>?_
  rw [EY]at k
  rcases q:cs[i]? with _|E
  ·simp [q]at k
  simp only [q,Option.map_some,DJ]at k
  subst k
  exact R.tD h (hc i E v q J)
 |arr ver e es sz hdr xs g how hf=>exact .arr (f ver) e es sz hdr xs g how hf
 |dead L F=>subst F;exact .dead _ rfl
 |map K O es b clock ents hw hl hc=>exact .map K O es b clock ents hw hl hc
 |nest ver e e2 ess H hdr xs bs g C how hc r hi=>
  rcases H with _|⟨i,rv⟩
  ·exact .nest (f ver) e e2 ess none hdr xs bs g C how (NCs.ren h hc) r (fun i rv e=>by cases e)
  ·refine .nest (f ver) e e2 ess (some (i,Dw.tD ρ rv)) hdr xs bs g C how ?_ r (fun j N e=>by cases e;exact hi i rv rfl)
   exact NCs.ren h hc
 |hole ver e es i o rv sz hdr xs u g how hf hi ho hu I=>exact .hole (f ver) e es i o _ sz hdr xs u g how hf hi ho hu (R.tD h I)
theorem B4{b:sj}{f:Nat->Nat->Nat}{id ver v':Nat}(h:tf b f id ver=some v'):((∃e es,b id=some (.arr ver e es))∨(∃e e2 ess k,b id=some (.nest ver e e2 ess k))∨∃e es i o rv,b id=some (.hole ver e es i o rv))∧v'=f id ver:=by
 unfold tf at h
 split at h
 ·rename_i cur e es g
  split at h
  ·rename_i j;subst j;cases h;exact⟨.inl ⟨e,es,g⟩,rfl⟩
  ·cases h
 ·rename_i cur e e2 ess k g
  split at h
  ·rename_i j;subst j;cases h;exact⟨.inr (.inl ⟨e,e2,ess,k,g⟩),rfl⟩
  ·cases h
 ·rename_i cur e es i o rv g
  split at h
  ·rename_i j;subst j;cases h;exact⟨.inr (.inr ⟨e,es,i,o,rv,g⟩),rfl⟩
  ·cases h
 ·cases h
theorem CG{b:sj}{f:Nat->Nat->Nat}{id ver v' cur:Nat}{e:TypeId}{sz:Nat}{hdr:Value}{L:Loc}(h:tf b f id ver=some v')(g:∀k,b id=some k->vD P S loc w k L)(j:L.Row cur e sz hdr):ver=cur∧v'=f id ver:=by
 obtain⟨h1,rfl⟩:=B4 h
 refine⟨?_,rfl⟩
 rcases h1 with⟨q,es,h1⟩|⟨q,e2,ess,r,h1⟩|⟨q,es,i,o,rv,h1⟩
 ·have:=g _ h1
  cases this with
  |arr=>cases j;rfl
 ·have:=g _ h1
  cases this with
  |nest=>cases j;rfl
 ·have:=g _ h1
  cases this with
  |hole=>cases j;rfl
theorem w7.mk'{b:sj}{pos:Nat->Option Nat}{f:Nat->Nat->Nat}(u:∀id g,b id=some g->∃L,loc id=some L∧vD P S loc w g L)
  (hl:∀id k L,pos id=some k->loc id=some L->loc' k=some (rY (f id) L)):w7 ⟨pos,tf b f⟩ loc loc':=by
 refine⟨fun id k L hp j=>⟨_,hl id k L hp j⟩,fun id ver v' k cur e sz hdr L hp D j C=>?_⟩
 obtain⟨rfl,rfl⟩:=CG (P:=P) (S:=S) (loc:=loc) (w:=w) D (fun g q=>by obtain⟨E,h1,r⟩:=u id g q;rw [j]at h1;cases h1;exact r) C
 exact⟨rfl,_,hl id k L hp j,rfl⟩
end
structure Mem(P:Program)(S:rP)(loc:ss)(bm:sj)(w:World):Prop where
 boxes:∀id bx,bm id=some bx->∃L,loc id=some L∧vD P S loc w bx L
 dom:∀id L,loc id=some L->∃bx,bm id=some bx
 imm:∀ad v,S ad=some v->w.cell? ad=some v
 vN:∀ad v,S ad=some v->v.oneCell'=true
 uM:∀id L b,loc id=some L->L.has b->∀o,S ⟨b,o,none⟩=none
 inj:∀id id' L L' b,loc id=some L->loc id'=some L'->L.has b->L'.has b->id=id'
theorem Sim.mem{P:Program}{X:Ctx}{S:rP}{loc:ss}{s:St}{f:Array Value}{w:World}(h:Sim P X S loc s f w):Mem P S loc s.boxes w:=⟨h.boxes,h.dom,h.imm,h.vN,h.uM,h.inj⟩
theorem Mem.tN{P:Program}{S:rP}{loc:ss}{boxes:sj}{w:World}(h:Mem P S loc boxes w){id:Nat}{f:Box}{L:Loc}(k:boxes id=some f)(j:loc id=some L):vD P S loc w f L:=by
 obtain⟨q,h1,g⟩:=h.boxes id f k
 rw [j]at h1;cases h1;exact g
theorem Mem.lt{P:Program}{S:rP}{loc:ss}{boxes:sj}{w:World}(h:Mem P S loc boxes w){id b:Nat}{L:Loc}(g:loc id=some L)(j:L.has b):b<w.heap.size:=by
 obtain⟨k,f⟩:=h.dom id L g
 exact(h.tN f g).uW j
theorem Mem.ren{P:Program}{S:rP}{loc loc':ss}{b b':sj}{w:World}{ρ:Ren}(h:Mem P S loc b w)(U:w7 ρ loc loc')
  (T:∀k j,b' k=some j->∃id u f,ρ.pos id=some k∧b id=some u∧j=uB ρ f u∧∀L,loc id=some L->loc' k=some (rY f L))
  (E:∀k q,loc' k=some q->(∃u,b' k=some u)∧∃id L f,ρ.pos id=some k∧loc id=some L∧q=rY f L):Mem P S loc' b' w:=by
 refine⟨fun k j hk=>?_,fun k q hk=>(E k q hk).1,h.imm,h.vN,fun k q G hk g o=>?_,fun k k' L q G hk I g r=>?_⟩
 ·obtain⟨id,u,f,h1,D,rfl,N⟩:=T k j hk
  obtain⟨L,O,Q⟩:=h.boxes id u D
  exact⟨_,N L O,vD.ren U f Q⟩
 ·obtain⟨_,id,L,f,h1,D,rfl⟩:=E k q hk
  rw [uS]at g
  exact h.uM id L G D g o
 ·obtain⟨_,id,K,f,h1,D,rfl⟩:=E k L hk
  obtain⟨_,J,F,W,C,H,rfl⟩:=E k' q I
  rw [uS]at g r
  have:=h.inj id J K F G D H g r
  subst this
  rw [h1]at C
  exact Ew C
end Go.Dw
