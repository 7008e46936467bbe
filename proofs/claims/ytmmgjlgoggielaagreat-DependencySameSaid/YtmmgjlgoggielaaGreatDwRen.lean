
import Derived.Test.YtmmgjlgoggielaaGreatDwMap
import Derived.Test.YtmmgjlgoggielaaGreatDwMake

namespace Go.Dw
def pY(f:Nat->Nat):Loc->Loc
 | .arr ver e sz hdr=>.arr (f ver) e sz hdr
 | .nest ver e sz hdr bs=>.nest (f ver) e sz hdr bs
 |L=>L
theorem te(f:Nat->Nat)(L:Loc)(b:Nat):(pY f L).has b=L.has b:=by cases L<;>rfl
theorem yW{f:Nat->Nat}{L:Loc}{ver:Nat}{e:TypeId}{sz:Nat}{hdr:Value}(h:pY f L= .arr ver e sz hdr):∃cur,L= .arr cur e sz hdr∧ver=f cur:=by
 cases L with
 |arr cur e' sz' hdr'=>simp only [pY,Loc.arr.injEq]at h;obtain⟨rfl,rfl,rfl,rfl⟩:=h;exact⟨cur,rfl,rfl⟩
 |var b=>cases h
 |dead=>cases h
 |map b=>cases h
 |nest _ _ _ _ _=>cases h
 |mapn _ _=>cases h
theorem yX{f:Nat->Nat}{L:Loc}{ver:Nat}{e:TypeId}{sz:Nat}{hdr:Value}(h:(pY f L).Row ver e sz hdr):∃cur,L.Row cur e sz hdr∧ver=f cur:=by
 cases L with
 |arr cur e' sz' hdr'=>cases h;exact⟨cur,.arr,rfl⟩
 |nest cur e' sz' hdr' bs=>cases h;exact⟨cur,.nest,rfl⟩
 |var b=>cases h
 |dead=>cases h
 |map b=>cases h
 |mapn b bs=>cases h
theorem ub{f g:Nat->Nat}{L:Loc}{ver:Nat}{e:TypeId}{sz:Nat}{hdr:Value}(h:L.Row ver e sz hdr)(he:pY f L=pY g L):f ver=g ver:=by
 cases h<;> ·simp only [pY,Loc.arr.injEq,Loc.nest.injEq]at he;exact he.1
theorem Bu{f:Nat->Nat}{L:Loc}{b:Nat}(h:pY f L= .var b):L= .var b:=by cases L<;>first|exact h|cases h
theorem Bt{f:Nat->Nat}{L:Loc}{b:Nat}(h:(pY f L).Map b):L.Map b:=by cases L<;>first|exact h|cases h
structure vu(ρ:Ren)(loc loc':qp):Prop where
 pos:∀id k L,ρ.pos id=some k->loc id=some L->∃f,loc' k=some (pY f L)
 ver:∀id ver v' k cur e sz hdr L,ρ.pos id=some k->ρ.ver id ver=some v'->loc id=some L->L.Row cur e sz hdr->ver=cur∧∃f,loc' k=some (pY f L)∧f cur=v'
section
variable {P:Program}{S:pT}{loc loc':qp}{w:World}{ρ:Ren}
theorem R.we(h:vu ρ loc loc'){rv:RV}{v:Value}(hr:R S loc rv v):R S loc' (Dw.we ρ rv) v:=by
 cases hr with
 |d h=>exact .d h
 |undef=>exact .undef
 |junk v=>exact .junk v
 |mA=>exact .mA
 |agg cs vs hl hc=>exact .junk _
 |tup cs vs hl hc=>exact .junk _
 |clo f cs vs hl hc=>exact .junk _
 |err t x=>exact .err t x
 |noerr=>exact .noerr
 |dfull es a h=>exact .dfull es a h
 |ifc t c v h=>exact .junk _
 |cptr cs b o f hS hV=>exact .cptr cs b o f hS hV
 |fview id ver hi v L ho hL hc=>
  simp only [Dw.we]
  rcases hp:ρ.pos id with _|k
  ·exact .junk _
  rcases hv:ρ.ver id ver with _|v'
  ·exact .junk _
  obtain⟨f,hL'⟩:=h.pos id k L hp hL
  refine .fview k v' hi v _ ho hL' fun ver' e sz hdr he=>?_
  obtain⟨cur,rfl,rfl⟩:=yW he
  obtain⟨rfl,g,h2,rfl⟩:=h.ver id ver v' k cur e sz hdr _ hp hv hL .arr
  rw [hL']at h2
  have:=ub .arr (Option.some.inj h2)
  exact⟨za,fun _=>(hc ver e sz hdr rfl).2 rfl⟩
 |ptr id off v L ho hL hc=>
  simp only [Dw.we]
  rcases hp:ρ.pos id with _|k
  ·exact .junk _
  obtain⟨f,hL'⟩:=h.pos id k L hp hL
  exact .ptr k off v _ ho hL' fun b=>⟨fun hb=>(hc b).1 (Bu hb),fun hb=>(hc b).2 (Bt hb)⟩
 |ref id ver v L ho hL hc=>
  simp only [Dw.we]
  rcases hp:ρ.pos id with _|k
  ·exact .junk _
  rcases hv:ρ.ver id ver with _|v'
  ·exact .junk _
  obtain⟨f,hL'⟩:=h.pos id k L hp hL
  refine .ref k v' v _ ho hL' fun ver' e sz hdr he=>?_
  obtain⟨cur,hrow,rfl⟩:=yX he
  obtain⟨rfl,g,h2,rfl⟩:=h.ver id ver v' k cur e sz hdr _ hp hv hL hrow
  rw [hL']at h2
  have:=ub hrow (Option.some.inj h2)
  exact⟨za,fun _=>(hc ver e sz hdr hrow).2 rfl⟩
 |elt id ver i o v L ho hL hc=>
  simp only [Dw.we]
  rcases hp:ρ.pos id with _|k
  ·exact .junk _
  rcases hv:ρ.ver id ver with _|v'
  ·exact .junk _
  obtain⟨f,hL'⟩:=h.pos id k L hp hL
  refine .elt k v' i o v _ ho hL' fun ver' e sz hdr he=>?_
  obtain⟨cur,hrow,rfl⟩:=yX he
  obtain⟨rfl,g,h2,rfl⟩:=h.ver id ver v' k cur e sz hdr _ hp hv hL hrow
  rw [hL']at h2
  have:=ub hrow (Option.some.inj h2)
  exact⟨za,fun _=>(hc ver e sz hdr hrow).2 rfl⟩
 |view id ver lo hi v L ho hL hc=>
  simp only [Dw.we]
  rcases hp:ρ.pos id with _|k
  ·exact .junk _
  rcases hv:ρ.ver id ver with _|v'
  ·exact .junk _
  obtain⟨f,hL'⟩:=h.pos id k L hp hL
  refine .view k v' lo hi v _ ho hL' fun ver' e sz hdr he=>?_
  obtain⟨cur,rfl,rfl⟩:=yW he
  obtain⟨rfl,g,h2,rfl⟩:=h.ver id ver v' k cur e sz hdr _ hp hv hL .arr
  rw [hL']at h2
  have:=ub .arr (Option.some.inj h2)
  exact⟨za,fun _=>(hc ver e sz hdr rfl).2 rfl⟩
theorem R.rR(h:vu ρ loc loc'){rv:RV}{v:Value}(hr:R S loc rv v):R S loc' (Dw.rR ρ rv) v:=by
 have cells:∀{cs:List RV}{vs:Array Value},(∀(i:Nat)c v,cs[i]? =some c->vs[i]? =some v->R S loc c v)->
   ∀(i:Nat)c v,(cs.map (Dw.we ρ))[i]? =some c->vs[i]? =some v->R S loc' c v:=by
  intro cs vs hc i c v h1 h2
  rw [List.getElem?_map]at h1
  rcases hci:cs[i]? with _|c0
  ·simp [hci]at h1
  simp only [hci,Option.map_some,Option.some.injEq]at h1
  subst h1
  exact R.we h (hc i c0 v hci h2)
 cases rv with
 |agg cs=>obtain⟨vs,rfl,hl,hc⟩:=hr.vS;exact .agg _ vs (by simpa using hl) (cells hc)
 |tup cs=>cases hr with|tup _ vs hl hc=>exact .tup _ vs (by simpa using hl) (cells hc)
 |clo f cs=>cases hr with|clo _ _ vs hl hc=>exact .clo f _ vs (by simpa using hl) (cells hc)
 |ifc t c=>cases hr with|ifc _ _ v hc=>exact .ifc t _ v (R.we h hc)
 |_=>exact R.we h hr
def renNC(ρ:Ren):NC->NC
 | .val rv=>.val (Dw.rR ρ rv)
 |c=>c
theorem NCs.ren0(h:vu ρ loc loc'){cs:List NC}{vs:List Value}{bs:List Nat}(hc:NCs P S loc w cs vs bs):NCs P S loc' w (cs.map (renNC ρ)) vs bs:=by
 induction hc with
 |nil=>exact .nil
 |cons h1 _ ih=>
  refine .cons ?_ ih
  cases h1 with
  |val _ _ hr ho=>exact .val _ _ (R.rR h hr) ho
  |row _ _ _ _ _ hsz how hf=>exact .row _ _ _ _ _ hsz how hf
theorem NCs.ren(h:vu ρ loc loc'){e2:TypeId}{ess:List (List PD)}{hh:Option (Nat×RV)}{vs:List Value}{bs:List Nat}(hc:NCs P S loc w (ncs e2 ess hh) vs bs):
  NCs P S loc' w (ncs e2 ess (match hh with|some (i,rv)=>some (i,Dw.rR ρ rv)|none=>none)) vs bs:=by
 have:=NCs.ren0 h hc
 rcases hh with _|⟨i,rv⟩
 ·simpa [ncs,Function.comp_def,renNC]using this
 ·simpa [ncs,List.map_set,Function.comp_def,renNC]using this
theorem tK.ren(h:vu ρ loc loc'){bx:Box}{L:Loc}(f:Nat->Nat)(hb:tK P S loc w bx L):tK P S loc' w (sP ρ f bx) (pY f L):=by
 cases hb with
 |var cs b t vs hw hl hc=>
  refine .var _ b t vs hw (by simpa using hl) fun i c v hci hv=>?_
  rw [List.getElem?_map]at hci
  rcases hc0:cs[i]? with _|c0
  ·simp [hc0]at hci
  simp only [hc0,Option.map_some,Option.some.injEq]at hci
  subst hci
  exact R.rR h (hc i c0 v hc0 hv)
 |arr ver e es sz hdr xs hsz how hf=>exact .arr (f ver) e es sz hdr xs hsz how hf
 |dead L hL=>subst hL;exact .dead _ rfl
 |map kt vt es b clock ents hw hl hc=>exact .map kt vt es b clock ents hw hl hc
 |nest ver e e2 ess hh hdr xs bs hsz hs2 how hc hnd hi=>
  rcases hh with _|⟨i,rv⟩
  ·exact .nest (f ver) e e2 ess none hdr xs bs hsz hs2 how (NCs.ren h hc) hnd (fun i rv e=>by cases e)
  ·refine .nest (f ver) e e2 ess (some (i,Dw.rR ρ rv)) hdr xs bs hsz hs2 how ?_ hnd (fun j rv' e=>by cases e;exact hi i rv rfl)
   exact NCs.ren h hc
 |mapn kt vt e2 es lent b ents bs hs2 hw hl hk hc hnd hi=>
  refine .mapn kt vt e2 es lent b ents bs hs2 hw hl hk ?_ hnd hi
  have:=NCs.ren h hc
  rcases lent with _|i
  ·exact this
  ·exact this
theorem AA{b:qh}{f:Nat->Nat->Nat}{id ver v':Nat}(h:qJ b f id ver=some v'):((∃e es,b id=some (.arr ver e es))∨∃e e2 ess hh,b id=some (.nest ver e e2 ess hh))∧v'=f id ver:=by
 unfold qJ at h
 split at h
 ·rename_i cur e es hb
  split at h
  ·rename_i hv;subst hv;cases h;exact⟨.inl ⟨e,es,hb⟩,rfl⟩
  ·cases h
 ·rename_i cur e e2 ess hh hb
  split at h
  ·rename_i hv;subst hv;cases h;exact⟨.inr ⟨e,e2,ess,hh,hb⟩,rfl⟩
  ·cases h
 ·cases h
theorem Ba{b:qh}{f:Nat->Nat->Nat}{id ver v' cur:Nat}{e:TypeId}{sz:Nat}{hdr:Value}{L:Loc}(h:qJ b f id ver=some v')(hb:∀bx,b id=some bx->tK P S loc w bx L)(hr:L.Row cur e sz hdr):ver=cur∧v'=f id ver:=by
 obtain⟨h1,rfl⟩:=AA h
 refine⟨?_,rfl⟩
 rcases h1 with⟨e',es,h1⟩|⟨e',e2,ess,hh,h1⟩
 ·have:=hb _ h1
  cases this with
  |arr=>cases hr;rfl
 ·have:=hb _ h1
  cases this with
  |nest=>cases hr;rfl
theorem vu.mk'{b:qh}{pos:Nat->Option Nat}{f:Nat->Nat->Nat}(hb:∀id bx,b id=some bx->∃L,loc id=some L∧tK P S loc w bx L)
  (hl:∀id k L,pos id=some k->loc id=some L->loc' k=some (pY (f id) L)):vu ⟨pos,qJ b f⟩ loc loc':=by
 refine⟨fun id k L hp hL=>⟨_,hl id k L hp hL⟩,fun id ver v' k cur e sz hdr L hp hv hL hr=>?_⟩
 obtain⟨rfl,rfl⟩:=Ba (P:=P) (S:=S) (loc:=loc) (w:=w) hv (fun bx hbx=>by obtain⟨L2,h1,h2⟩:=hb id bx hbx;rw [hL]at h1;cases h1;exact h2) hr
 exact⟨rfl,_,hl id k L hp hL,rfl⟩
end
structure Mem(P:Program)(S:pT)(loc:qp)(bm:qh)(w:World):Prop where
 boxes:∀id bx,bm id=some bx->∃L,loc id=some L∧tK P S loc w bx L
 dom:∀id L,loc id=some L->∃bx,bm id=some bx
 imm:∀ad v,S ad=some v->w.cell? ad=some v
 tQ:∀ad v,S ad=some v->v.oneCell'=true
 sr:∀id L b,loc id=some L->L.has b->∀o,S ⟨b,o,none⟩=none
 inj:∀id id' L L' b,loc id=some L->loc id'=some L'->L.has b->L'.has b->id=id'
theorem Sim.mem{P:Program}{X:Ctx}{S:pT}{loc:qp}{s:St}{tm:Array Value}{w:World}(h:Sim P X S loc s tm w):Mem P S loc s.boxes w:=⟨h.boxes,h.dom,h.imm,h.tQ,h.sr,h.inj⟩
theorem Mem.rN{P:Program}{S:pT}{loc:qp}{boxes:qh}{w:World}(h:Mem P S loc boxes w){id:Nat}{bx:Box}{L:Loc}(hb:boxes id=some bx)(hL:loc id=some L):tK P S loc w bx L:=by
 obtain⟨L',h1,h2⟩:=h.boxes id bx hb
 rw [hL]at h1;cases h1;exact h2
theorem Mem.lt{P:Program}{S:pT}{loc:qp}{boxes:qh}{w:World}(h:Mem P S loc boxes w){id b:Nat}{L:Loc}(hL:loc id=some L)(hb:L.has b):b<w.heap.size:=by
 obtain⟨bx,hbx⟩:=h.dom id L hL
 exact(h.rN hbx hL).th hb
theorem Mem.ren{P:Program}{S:pT}{loc loc':qp}{b b':qh}{w:World}{ρ:Ren}(h:Mem P S loc b w)(hr:vu ρ loc loc')
  (hb:∀k bx',b' k=some bx'->∃id bx f,ρ.pos id=some k∧b id=some bx∧bx'=sP ρ f bx∧∀L,loc id=some L->loc' k=some (pY f L))
  (hd:∀k L',loc' k=some L'->(∃bx,b' k=some bx)∧∃id L f,ρ.pos id=some k∧loc id=some L∧L'=pY f L):Mem P S loc' b' w:=by
 refine⟨fun k bx' hk=>?_,fun k L' hk=>(hd k L' hk).1,h.imm,h.tQ,fun k L' bl hk hbl o=>?_,fun k k' L L' bl hk hk' hbl hbl'=>?_⟩
 ·obtain⟨id,bx,f,h1,h2,rfl,h4⟩:=hb k bx' hk
  obtain⟨L,h5,h6⟩:=h.boxes id bx h2
  exact⟨_,h4 L h5,tK.ren hr f h6⟩
 ·obtain⟨_,id,L,f,h1,h2,rfl⟩:=hd k L' hk
  rw [te]at hbl
  exact h.sr id L bl h2 hbl o
 ·obtain⟨_,id,L0,f,h1,h2,rfl⟩:=hd k L hk
  obtain⟨_,id',L0',f',h1',h2',rfl⟩:=hd k' L' hk'
  rw [te]at hbl hbl'
  have:=h.inj id id' L0 L0' bl h2 h2' hbl hbl'
  subst this
  rw [h1]at h1'
  exact Option.some.inj h1'
end Go.Dw
