
import Derived.Test.YtmmgjlgoggielaaGreatDwMap
import Derived.Test.YtmmgjlgoggielaaGreatDwMake

namespace Go.Dw
def kj(f:Nat->Nat):Loc->Loc
 | .arr ver e sz hdr=>.arr (f ver) e sz hdr
 | .nest ver e sz hdr bs=>.nest (f ver) e sz hdr bs
 |L=>L
theorem sQ(f:Nat->Nat)(L:Loc)(b:Nat):(kj f L).has b=L.has b:=by cases L<;>rfl
theorem yt{f:Nat->Nat}{L:Loc}{ver:Nat}{e:TypeId}{sz:Nat}{hdr:Value}(h:kj f L= .arr ver e sz hdr):∃cur,L= .arr cur e sz hdr∧ver=f cur:=by
 cases L with
 |arr cur e' sz' hdr'=>simp only [kj,Loc.arr.injEq]at h;obtain⟨rfl,rfl,rfl,rfl⟩:=h;exact⟨cur,rfl,rfl⟩
 |var b=>cases h
 |dead=>cases h
 |nest _ _ _ _ _=>cases h
theorem yu{f:Nat->Nat}{L:Loc}{ver:Nat}{e:TypeId}{sz:Nat}{hdr:Value}(h:(kj f L).Row ver e sz hdr):∃cur,L.Row cur e sz hdr∧ver=f cur:=by
 cases L with
 |arr cur e' sz' hdr'=>cases h;exact⟨cur,.arr,rfl⟩
 |nest cur e' sz' hdr' bs=>cases h;exact⟨cur,.nest,rfl⟩
 |var b=>cases h
 |dead=>cases h
theorem tK{f g:Nat->Nat}{L:Loc}{ver:Nat}{e:TypeId}{sz:Nat}{hdr:Value}(h:L.Row ver e sz hdr)(he:kj f L=kj g L):f ver=g ver:=by
 cases h<;> ·simp only [kj,Loc.arr.injEq,Loc.nest.injEq]at he;exact he.1
theorem A2{f:Nat->Nat}{L:Loc}{b:Nat}(h:kj f L= .var b):L= .var b:=by cases L<;>first|exact h|cases h
theorem A1{f:Nat->Nat}{L:Loc}{b:Nat}(h:(kj f L).Map b):L.Map b:=by cases L<;>first|exact h|cases h
structure uV(ρ:Ren)(loc loc':nI):Prop where
 pos:∀id k L,ρ.pos id=some k->loc id=some L->∃f,loc' k=some (kj f L)
 ver:∀id ver v' k cur e sz hdr L,ρ.pos id=some k->ρ.ver id ver=some v'->loc id=some L->L.Row cur e sz hdr->ver=cur∧∃f,loc' k=some (kj f L)∧f cur=v'
section
variable {P:Program}{S:iM}{loc loc':nI}{w:World}{ρ:Ren}
theorem R.vM(h:uV ρ loc loc'){rv:RV}{v:Value}(hr:R S loc rv v):R S loc' (Dw.vM ρ rv) v:=by
 cases hr with
 |d h=>exact .d h
 |undef=>exact .undef
 |junk v=>exact .junk v
 |dH=>exact .dH
 |agg cs vs hl hc=>exact .junk _
 |tup cs vs hl hc=>exact .junk _
 |clo f cs vs hl hc=>exact .junk _
 |err t x=>exact .err t x
 |noerr=>exact .noerr
 |dfull es a h=>exact .dfull es a h
 |ifc t c v h=>exact .junk _
 |cptr cs b o f hS hV=>exact .cptr cs b o f hS hV
 |fview id ver hi v L ho hL hc=>
  simp only [Dw.vM]
  rcases hp:ρ.pos id with _|k
  ·exact .junk _
  rcases hv:ρ.ver id ver with _|v'
  ·exact .junk _
  obtain⟨f,hL'⟩:=h.pos id k L hp hL
  refine .fview k v' hi v _ ho hL' fun ver' e sz hdr he=>?_
  obtain⟨cur,rfl,rfl⟩:=yt he
  obtain⟨rfl,g,h2,rfl⟩:=h.ver id ver v' k cur e sz hdr _ hp hv hL .arr
  rw [hL']at h2
  have:=tK .arr (Option.some.inj h2)
  exact⟨za,fun _=>(hc ver e sz hdr rfl).2 rfl⟩
 |ptr id off v L ho hL hc=>
  simp only [Dw.vM]
  rcases hp:ρ.pos id with _|k
  ·exact .junk _
  obtain⟨f,hL'⟩:=h.pos id k L hp hL
  exact .ptr k off v _ ho hL' fun b=>⟨fun hb=>(hc b).1 (A2 hb),fun hb=>(hc b).2 (A1 hb)⟩
 |ref id ver v L ho hL hc=>
  simp only [Dw.vM]
  rcases hp:ρ.pos id with _|k
  ·exact .junk _
  rcases hv:ρ.ver id ver with _|v'
  ·exact .junk _
  obtain⟨f,hL'⟩:=h.pos id k L hp hL
  refine .ref k v' v _ ho hL' fun ver' e sz hdr he=>?_
  obtain⟨cur,hrow,rfl⟩:=yu he
  obtain⟨rfl,g,h2,rfl⟩:=h.ver id ver v' k cur e sz hdr _ hp hv hL hrow
  rw [hL']at h2
  have:=tK hrow (Option.some.inj h2)
  exact⟨za,fun _=>(hc ver e sz hdr hrow).2 rfl⟩
 |elt id ver i o v L ho hL hc=>
  simp only [Dw.vM]
  rcases hp:ρ.pos id with _|k
  ·exact .junk _
  rcases hv:ρ.ver id ver with _|v'
  ·exact .junk _
  obtain⟨f,hL'⟩:=h.pos id k L hp hL
  refine .elt k v' i o v _ ho hL' fun ver' e sz hdr he=>?_
  obtain⟨cur,hrow,rfl⟩:=yu he
  obtain⟨rfl,g,h2,rfl⟩:=h.ver id ver v' k cur e sz hdr _ hp hv hL hrow
  rw [hL']at h2
  have:=tK hrow (Option.some.inj h2)
  exact⟨za,fun _=>(hc ver e sz hdr hrow).2 rfl⟩
 |view id ver lo hi v L ho hL hc=>
  simp only [Dw.vM]
  rcases hp:ρ.pos id with _|k
  ·exact .junk _
  rcases hv:ρ.ver id ver with _|v'
  ·exact .junk _
  obtain⟨f,hL'⟩:=h.pos id k L hp hL
  refine .view k v' lo hi v _ ho hL' fun ver' e sz hdr he=>?_
  obtain⟨cur,rfl,rfl⟩:=yt he
  obtain⟨rfl,g,h2,rfl⟩:=h.ver id ver v' k cur e sz hdr _ hp hv hL .arr
  rw [hL']at h2
  have:=tK .arr (Option.some.inj h2)
  exact⟨za,fun _=>(hc ver e sz hdr rfl).2 rfl⟩
theorem R.rC(h:uV ρ loc loc'){rv:RV}{v:Value}(hr:R S loc rv v):R S loc' (Dw.rC ρ rv) v:=by
 have cells:∀{cs:List RV}{vs:Array Value},(∀(i:Nat)c v,cs[i]? =some c->vs[i]? =some v->R S loc c v)->
   ∀(i:Nat)c v,(cs.map (Dw.vM ρ))[i]? =some c->vs[i]? =some v->R S loc' c v:=by
  intro cs vs hc i c v h1 h2
  rw [List.getElem?_map]at h1
  rcases hci:cs[i]? with _|c0
  ·simp [hci]at h1
  simp only [hci,Option.map_some,Option.some.injEq]at h1
  subst h1
  exact R.vM h (hc i c0 v hci h2)
 cases rv with
 |agg cs=>obtain⟨vs,rfl,hl,hc⟩:=hr.vC;exact .agg _ vs (by simpa using hl) (cells hc)
 |tup cs=>cases hr with|tup _ vs hl hc=>exact .tup _ vs (by simpa using hl) (cells hc)
 |clo f cs=>cases hr with|clo _ _ vs hl hc=>exact .clo f _ vs (by simpa using hl) (cells hc)
 |ifc t c=>cases hr with|ifc _ _ v hc=>exact .ifc t _ v (R.vM h hc)
 |_=>exact R.vM h hr
def renNC(ρ:Ren):NC->NC
 | .val rv=>.val (Dw.rC ρ rv)
 |c=>c
theorem NCs.ren0(h:uV ρ loc loc'){cs:List NC}{vs:List Value}{bs:List Nat}(hc:NCs P S loc w cs vs bs):NCs P S loc' w (cs.map (renNC ρ)) vs bs:=by
 induction hc with
 |nil=>exact .nil
 |cons h1 _ ih=>
  refine .cons ?_ ih
  cases h1 with
  |val _ _ hr ho=>exact .val _ _ (R.rC h hr) ho
  |row _ _ _ _ _ hsz how hf=>exact .row _ _ _ _ _ hsz how hf
theorem NCs.ren(h:uV ρ loc loc'){e2:TypeId}{ess:List (List PD)}{hh:Option (Nat×RV)}{vs:List Value}{bs:List Nat}(hc:NCs P S loc w (ncs e2 ess hh) vs bs):
  NCs P S loc' w (ncs e2 ess (match hh with|some (i,rv)=>some (i,Dw.rC ρ rv)|none=>none)) vs bs:=by
 have:=NCs.ren0 h hc
 rcases hh with _|⟨i,rv⟩
 ·simpa [ncs,Function.comp_def,renNC]using this
 ·simpa [ncs,List.map_set,Function.comp_def,renNC]using this
theorem tO.ren(h:uV ρ loc loc'){bx:Box}{L:Loc}(f:Nat->Nat)(hb:tO P S loc w bx L):tO P S loc' w (si ρ f bx) (kj f L):=by
 cases hb with
 |var cs b t vs hw hl hc=>
  refine .var _ b t vs hw (by simpa using hl) fun i c v hci hv=>?_
  rw [List.getElem?_map]at hci
  rcases hc0:cs[i]? with _|c0
  ·simp [hc0]at hci
  simp only [hc0,Option.map_some,Option.some.injEq]at hci
  subst hci
  exact R.rC h (hc i c0 v hc0 hv)
 |arr ver e es sz hdr xs hsz how hf=>exact .arr (f ver) e es sz hdr xs hsz how hf
 |dead L hL=>subst hL;exact .dead _ rfl
 |nest ver e e2 ess hh hdr xs bs hsz hs2 how hc hnd hi=>
  rcases hh with _|⟨i,rv⟩
  ·exact .nest (f ver) e e2 ess none hdr xs bs hsz hs2 how (NCs.ren h hc) hnd (fun i rv e=>by cases e)
  ·refine .nest (f ver) e e2 ess (some (i,Dw.rC ρ rv)) hdr xs bs hsz hs2 how ?_ hnd (fun j rv' e=>by cases e;exact hi i rv rfl)
   exact NCs.ren h hc
theorem zW{b:kU}{f:Nat->Nat->Nat}{id ver v':Nat}(h:qC b f id ver=some v'):((∃e es,b id=some (.arr ver e es))∨∃e e2 ess hh,b id=some (.nest ver e e2 ess hh))∧v'=f id ver:=by
 unfold qC at h
 split at h
 ·rename_i cur e es hb
  split at h
  ·rename_i hv;subst hv;cases h;exact⟨.inl ⟨e,es,hb⟩,rfl⟩
  ·cases h
 ·rename_i cur e e2 ess hh hb
  split at h
  ·rename_i hv;subst hv;cases h;exact⟨.inr ⟨e,e2,ess,hh,hb⟩,rfl⟩
  ·cases h
 ·cases h
theorem AI{b:kU}{f:Nat->Nat->Nat}{id ver v' cur:Nat}{e:TypeId}{sz:Nat}{hdr:Value}{L:Loc}(h:qC b f id ver=some v')(hb:∀bx,b id=some bx->tO P S loc w bx L)(hr:L.Row cur e sz hdr):ver=cur∧v'=f id ver:=by
 obtain⟨h1,rfl⟩:=zW h
 refine⟨?_,rfl⟩
 rcases h1 with⟨e',es,h1⟩|⟨e',e2,ess,hh,h1⟩
 ·have:=hb _ h1
  cases this with
  |arr=>cases hr;rfl
 ·have:=hb _ h1
  cases this with
  |nest=>cases hr;rfl
theorem uV.mk'{b:kU}{pos:Nat->Option Nat}{f:Nat->Nat->Nat}(hb:∀id bx,b id=some bx->∃L,loc id=some L∧tO P S loc w bx L)
  (hl:∀id k L,pos id=some k->loc id=some L->loc' k=some (kj (f id) L)):uV ⟨pos,qC b f⟩ loc loc':=by
 refine⟨fun id k L hp hL=>⟨_,hl id k L hp hL⟩,fun id ver v' k cur e sz hdr L hp hv hL hr=>?_⟩
 obtain⟨rfl,rfl⟩:=AI (P:=P) (S:=S) (loc:=loc) (w:=w) hv (fun bx hbx=>by obtain⟨L2,h1,h2⟩:=hb id bx hbx;rw [hL]at h1;cases h1;exact h2) hr
 exact⟨rfl,_,hl id k L hp hL,rfl⟩
end
structure Mem(P:Program)(S:iM)(loc:nI)(bm:kU)(w:World):Prop where
 boxes:∀id bx,bm id=some bx->∃L,loc id=some L∧tO P S loc w bx L
 dom:∀id L,loc id=some L->∃bx,bm id=some bx
 imm:∀ad v,S ad=some v->w.cell? ad=some v
 tB:∀ad v,S ad=some v->v.oneCell'=true
 sx:∀id L b,loc id=some L->L.has b->∀o,S ⟨b,o,none⟩=none
 inj:∀id id' L L' b,loc id=some L->loc id'=some L'->L.has b->L'.has b->id=id'
theorem Sim.mem{P:Program}{X:Ctx}{S:iM}{loc:nI}{s:St}{tm:Array Value}{w:World}(h:Sim P X S loc s tm w):Mem P S loc s.boxes w:=⟨h.boxes,h.dom,h.imm,h.tB,h.sx,h.inj⟩
theorem Mem.rO{P:Program}{S:iM}{loc:nI}{boxes:kU}{w:World}(h:Mem P S loc boxes w){id:Nat}{bx:Box}{L:Loc}(hb:boxes id=some bx)(hL:loc id=some L):tO P S loc w bx L:=by
 obtain⟨L',h1,h2⟩:=h.boxes id bx hb
 rw [hL]at h1;cases h1;exact h2
theorem Mem.lt{P:Program}{S:iM}{loc:nI}{boxes:kU}{w:World}(h:Mem P S loc boxes w){id b:Nat}{L:Loc}(hL:loc id=some L)(hb:L.has b):b<w.heap.size:=by
 obtain⟨bx,hbx⟩:=h.dom id L hL
 exact(h.rO hbx hL).sY hb
theorem Mem.ren{P:Program}{S:iM}{loc loc':nI}{b b':kU}{w:World}{ρ:Ren}(h:Mem P S loc b w)(hr:uV ρ loc loc')
  (hb:∀k bx',b' k=some bx'->∃id bx f,ρ.pos id=some k∧b id=some bx∧bx'=si ρ f bx∧∀L,loc id=some L->loc' k=some (kj f L))
  (hd:∀k L',loc' k=some L'->(∃bx,b' k=some bx)∧∃id L f,ρ.pos id=some k∧loc id=some L∧L'=kj f L):Mem P S loc' b' w:=by
 refine⟨fun k bx' hk=>?_,fun k L' hk=>(hd k L' hk).1,h.imm,h.tB,fun k L' bl hk hbl o=>?_,fun k k' L L' bl hk hk' hbl hbl'=>?_⟩
 ·obtain⟨id,bx,f,h1,h2,rfl,h4⟩:=hb k bx' hk
  obtain⟨L,h5,h6⟩:=h.boxes id bx h2
  exact⟨_,h4 L h5,tO.ren hr f h6⟩
 ·obtain⟨_,id,L,f,h1,h2,rfl⟩:=hd k L' hk
  rw [sQ]at hbl
  exact h.sx id L bl h2 hbl o
 ·obtain⟨_,id,L0,f,h1,h2,rfl⟩:=hd k L hk
  obtain⟨_,id',L0',f',h1',h2',rfl⟩:=hd k' L' hk'
  rw [sQ]at hbl hbl'
  have:=h.inj id id' L0 L0' bl h2 h2' hbl hbl'
  subst this
  rw [h1]at h1'
  exact Option.some.inj h1'
end Go.Dw
