
import Derived.Test.YthadlbjoiidkjaaGreatDoorDwMap
import Derived.Test.YthadlbjoiidkjaaGreatDoorDwMake

namespace Go.Dw
def qc(f:Nat->Nat):Loc->Loc
 | .arr ver e sz hdr=>.arr (f ver) e sz hdr
 |L=>L
theorem sw(f:Nat->Nat)(L:Loc)(b:Nat):(qc f L).has b=L.has b:=by cases L<;>rfl
theorem yw{f:Nat->Nat}{L:Loc}{ver:Nat}{e:TypeId}{sz:Nat}{hdr:Value}(h:qc f L= .arr ver e sz hdr):∃cur,L= .arr cur e sz hdr∧ver=f cur:=by
 cases L with
 |arr cur e' sz' hdr'=>simp only [qc,Loc.arr.injEq]at h;obtain⟨rfl,rfl,rfl,rfl⟩:=h;exact⟨cur,rfl,rfl⟩
 |var b=>cases h
 |dead=>cases h
 |map b=>cases h
theorem yx{f:Nat->Nat}{L:Loc}{ver:Nat}{e:TypeId}{sz:Nat}{hdr:Value}(h:(qc f L).Row ver e sz hdr):∃cur,L.Row cur e sz hdr∧ver=f cur:=by
 cases L with
 |arr cur e' sz' hdr'=>cases h;exact⟨cur,.arr,rfl⟩
 |var b=>cases h
 |dead=>cases h
 |map b=>cases h
theorem tQ{f g:Nat->Nat}{L:Loc}{ver:Nat}{e:TypeId}{sz:Nat}{hdr:Value}(h:L.Row ver e sz hdr)(he:qc f L=qc g L):f ver=g ver:=by
 cases h<;> ·simp only [qc,Loc.arr.injEq]at he;exact he.1
theorem Bc{f:Nat->Nat}{L:Loc}{b:Nat}(h:qc f L= .var b):L= .var b:=by cases L<;>first|exact h|cases h
theorem Bb{f:Nat->Nat}{L:Loc}{b:Nat}(h:(qc f L).Map b):L.Map b:=by cases L<;>first|exact h|cases h
structure uV(ρ:Ren)(loc loc':qe):Prop where
 pos:∀id k L,ρ.pos id=some k->loc id=some L->∃f,loc' k=some (qc f L)
 ver:∀id ver v' k cur e sz hdr L,ρ.pos id=some k->ρ.ver id ver=some v'->loc id=some L->L.Row cur e sz hdr->ver=cur∧∃f,loc' k=some (qc f L)∧f cur=v'
section
variable {P:Program}{S:pR}{loc loc':qe}{w:World}{ρ:Ren}
theorem R.vF(h:uV ρ loc loc'){rv:RV}{v:Value}(hr:R S loc rv v):R S loc' (Dw.vF ρ rv) v:=by
 cases hr with
 |d h=>exact .d h
 |undef=>exact .undef
 |junk v=>exact .junk v
 |mo=>exact .mo
 |agg cs vs hl hc=>exact .junk _
 |tup cs vs hl hc=>exact .junk _
 |clo f cs vs hl hc=>exact .junk _
 |err t x=>exact .err t x
 |noerr=>exact .noerr
 |dfull es a h=>exact .dfull es a h
 |ifc t c v h=>exact .junk _
 |cptr cs b o f hS hV=>exact .cptr cs b o f hS hV
 |fview id ver hi v L ho hL hc=>
  simp only [Dw.vF]
  rcases hp:ρ.pos id with _|k
  ·exact .junk _
  rcases hv:ρ.ver id ver with _|v'
  ·exact .junk _
  obtain⟨f,hL'⟩:=h.pos id k L hp hL
  refine .fview k v' hi v _ ho hL' fun ver' e sz hdr he=>?_
  obtain⟨cur,rfl,rfl⟩:=yw he
  obtain⟨rfl,g,h2,rfl⟩:=h.ver id ver v' k cur e sz hdr _ hp hv hL .arr
  rw [hL']at h2
  have:=tQ .arr (Option.some.inj h2)
  exact⟨za,fun _=>(hc ver e sz hdr rfl).2 rfl⟩
 |ptr id off v L ho hL hc=>
  simp only [Dw.vF]
  rcases hp:ρ.pos id with _|k
  ·exact .junk _
  obtain⟨f,hL'⟩:=h.pos id k L hp hL
  exact .ptr k off v _ ho hL' fun b=>⟨fun hb=>(hc b).1 (Bc hb),fun hb=>(hc b).2 (Bb hb)⟩
 |ref id ver v L ho hL hc=>
  simp only [Dw.vF]
  rcases hp:ρ.pos id with _|k
  ·exact .junk _
  rcases hv:ρ.ver id ver with _|v'
  ·exact .junk _
  obtain⟨f,hL'⟩:=h.pos id k L hp hL
  refine .ref k v' v _ ho hL' fun ver' e sz hdr he=>?_
  obtain⟨cur,hrow,rfl⟩:=yx he
  obtain⟨rfl,g,h2,rfl⟩:=h.ver id ver v' k cur e sz hdr _ hp hv hL hrow
  rw [hL']at h2
  have:=tQ hrow (Option.some.inj h2)
  exact⟨za,fun _=>(hc ver e sz hdr hrow).2 rfl⟩
 |elt id ver i o v L ho hL hc=>
  simp only [Dw.vF]
  rcases hp:ρ.pos id with _|k
  ·exact .junk _
  rcases hv:ρ.ver id ver with _|v'
  ·exact .junk _
  obtain⟨f,hL'⟩:=h.pos id k L hp hL
  refine .elt k v' i o v _ ho hL' fun ver' e sz hdr he=>?_
  obtain⟨cur,hrow,rfl⟩:=yx he
  obtain⟨rfl,g,h2,rfl⟩:=h.ver id ver v' k cur e sz hdr _ hp hv hL hrow
  rw [hL']at h2
  have:=tQ hrow (Option.some.inj h2)
  exact⟨za,fun _=>(hc ver e sz hdr hrow).2 rfl⟩
 |view id ver lo hi v L ho hL hc=>
  simp only [Dw.vF]
  rcases hp:ρ.pos id with _|k
  ·exact .junk _
  rcases hv:ρ.ver id ver with _|v'
  ·exact .junk _
  obtain⟨f,hL'⟩:=h.pos id k L hp hL
  refine .view k v' lo hi v _ ho hL' fun ver' e sz hdr he=>?_
  obtain⟨cur,rfl,rfl⟩:=yw he
  obtain⟨rfl,g,h2,rfl⟩:=h.ver id ver v' k cur e sz hdr _ hp hv hL .arr
  rw [hL']at h2
  have:=tQ .arr (Option.some.inj h2)
  exact⟨za,fun _=>(hc ver e sz hdr rfl).2 rfl⟩
theorem R.rX(h:uV ρ loc loc'){rv:RV}{v:Value}(hr:R S loc rv v):R S loc' (Dw.rX ρ rv) v:=by
 have cells:∀{cs:List RV}{vs:Array Value},(∀(i:Nat)c v,cs[i]? =some c->vs[i]? =some v->R S loc c v)->
   ∀(i:Nat)c v,(cs.map (Dw.vF ρ))[i]? =some c->vs[i]? =some v->R S loc' c v:=by
  intro cs vs hc i c v h1 h2
  rw [List.getElem?_map]at h1
  rcases hci:cs[i]? with _|c0
  ·simp [hci]at h1
  simp only [hci,Option.map_some,Option.some.injEq]at h1
  subst h1
  exact R.vF h (hc i c0 v hci h2)
 cases rv with
 |agg cs=>obtain⟨vs,rfl,hl,hc⟩:=hr.vr;exact .agg _ vs (by simpa using hl) (cells hc)
 |tup cs=>cases hr with|tup _ vs hl hc=>exact .tup _ vs (by simpa using hl) (cells hc)
 |clo f cs=>cases hr with|clo _ _ vs hl hc=>exact .clo f _ vs (by simpa using hl) (cells hc)
 |ifc t c=>cases hr with|ifc _ _ v hc=>exact .ifc t _ v (R.vF h hc)
 |_=>exact R.vF h hr
def renNC(ρ:Ren):NC->NC
 | .val rv=>.val (Dw.rX ρ rv)
 |c=>c
theorem NCs.ren0(h:uV ρ loc loc'){cs:List NC}{vs:List Value}{bs:List Nat}(hc:NCs P S loc w cs vs bs):NCs P S loc' w (cs.map (renNC ρ)) vs bs:=by
 induction hc with
 |nil=>exact .nil
 |cons h1 _ ih=>
  refine .cons ?_ ih
  cases h1 with
  |val _ _ hr ho=>exact .val _ _ (R.rX h hr) ho
  |row _ _ _ _ _ hsz how hf=>exact .row _ _ _ _ _ hsz how hf
theorem NCs.ren(h:uV ρ loc loc'){e2:TypeId}{ess:List (List PD)}{hh:Option (Nat×RV)}{vs:List Value}{bs:List Nat}(hc:NCs P S loc w (ncs e2 ess hh) vs bs):
  NCs P S loc' w (ncs e2 ess (match hh with|some (i,rv)=>some (i,Dw.rX ρ rv)|none=>none)) vs bs:=by
 have:=NCs.ren0 h hc
 rcases hh with _|⟨i,rv⟩
 ·simpa [ncs,Function.comp_def,renNC]using this
 ·simpa [ncs,List.map_set,Function.comp_def,renNC]using this
theorem tU.ren(h:uV ρ loc loc'){bx:Box}{L:Loc}(f:Nat->Nat)(hb:tU P S loc w bx L):tU P S loc' w (sj ρ f bx) (qc f L):=by
 cases hb with
 |var cs b t vs hw hl hc=>
  refine .var _ b t vs hw (by simpa using hl) fun i c v hci hv=>?_
  rw [List.getElem?_map]at hci
  rcases hc0:cs[i]? with _|c0
  ·simp [hc0]at hci
  simp only [hc0,Option.map_some,Option.some.injEq]at hci
  subst hci
  exact R.rX h (hc i c0 v hc0 hv)
 |arr ver e es sz hdr xs hsz how hf=>exact .arr (f ver) e es sz hdr xs hsz how hf
 |dead L hL=>subst hL;exact .dead _ rfl
 |map kt vt es b clock ents hw hl hc=>exact .map kt vt es b clock ents hw hl hc
theorem Aa{b:p8}{f:Nat->Nat->Nat}{id ver v':Nat}(h:qt b f id ver=some v'):(∃e es,b id=some (.arr ver e es))∧v'=f id ver:=by
 unfold qt at h
 split at h
 ·rename_i cur e es hb
  split at h
  ·rename_i hv;subst hv;cases h;exact⟨⟨e,es,hb⟩,rfl⟩
  ·cases h
 ·cases h
theorem AT{b:p8}{f:Nat->Nat->Nat}{id ver v' cur:Nat}{e:TypeId}{sz:Nat}{hdr:Value}{L:Loc}(h:qt b f id ver=some v')(hb:∀bx,b id=some bx->tU P S loc w bx L)(hr:L.Row cur e sz hdr):ver=cur∧v'=f id ver:=by
 obtain⟨⟨e',es,h1⟩,rfl⟩:=Aa h
 have:=hb _ h1
 cases this with
 |arr=>cases hr;exact⟨rfl,rfl⟩
theorem uV.mk'{b:p8}{pos:Nat->Option Nat}{f:Nat->Nat->Nat}(hb:∀id bx,b id=some bx->∃L,loc id=some L∧tU P S loc w bx L)
  (hl:∀id k L,pos id=some k->loc id=some L->loc' k=some (qc (f id) L)):uV ⟨pos,qt b f⟩ loc loc':=by
 refine⟨fun id k L hp hL=>⟨_,hl id k L hp hL⟩,fun id ver v' k cur e sz hdr L hp hv hL hr=>?_⟩
 obtain⟨rfl,rfl⟩:=AT (P:=P) (S:=S) (loc:=loc) (w:=w) hv (fun bx hbx=>by obtain⟨L2,h1,h2⟩:=hb id bx hbx;rw [hL]at h1;cases h1;exact h2) hr
 exact⟨rfl,_,hl id k L hp hL,rfl⟩
end
structure Mem(P:Program)(S:pR)(loc:qe)(bm:p8)(w:World):Prop where
 boxes:∀id bx,bm id=some bx->∃L,loc id=some L∧tU P S loc w bx L
 dom:∀id L,loc id=some L->∃bx,bm id=some bx
 imm:∀ad v,S ad=some v->w.cell? ad=some v
 tJ:∀ad v,S ad=some v->v.oneCell'=true
 ss:∀id L b,loc id=some L->L.has b->∀o,S ⟨b,o,none⟩=none
 inj:∀id id' L L' b,loc id=some L->loc id'=some L'->L.has b->L'.has b->id=id'
theorem Sim.mem{P:Program}{X:Ctx}{S:pR}{loc:qe}{s:St}{tm:Array Value}{w:World}(h:Sim P X S loc s tm w):Mem P S loc s.boxes w:=⟨h.boxes,h.dom,h.imm,h.tJ,h.ss,h.inj⟩
theorem Mem.rO{P:Program}{S:pR}{loc:qe}{boxes:p8}{w:World}(h:Mem P S loc boxes w){id:Nat}{bx:Box}{L:Loc}(hb:boxes id=some bx)(hL:loc id=some L):tU P S loc w bx L:=by
 obtain⟨L',h1,h2⟩:=h.boxes id bx hb
 rw [hL]at h1;cases h1;exact h2
theorem Mem.lt{P:Program}{S:pR}{loc:qe}{boxes:p8}{w:World}(h:Mem P S loc boxes w){id b:Nat}{L:Loc}(hL:loc id=some L)(hb:L.has b):b<w.heap.size:=by
 obtain⟨bx,hbx⟩:=h.dom id L hL
 exact(h.rO hbx hL).sR hb
theorem Mem.ren{P:Program}{S:pR}{loc loc':qe}{b b':p8}{w:World}{ρ:Ren}(h:Mem P S loc b w)(hr:uV ρ loc loc')
  (hb:∀k bx',b' k=some bx'->∃id bx f,ρ.pos id=some k∧b id=some bx∧bx'=sj ρ f bx∧∀L,loc id=some L->loc' k=some (qc f L))
  (hd:∀k L',loc' k=some L'->(∃bx,b' k=some bx)∧∃id L f,ρ.pos id=some k∧loc id=some L∧L'=qc f L):Mem P S loc' b' w:=by
 refine⟨fun k bx' hk=>?_,fun k L' hk=>(hd k L' hk).1,h.imm,h.tJ,fun k L' bl hk hbl o=>?_,fun k k' L L' bl hk hk' hbl hbl'=>?_⟩
 ·obtain⟨id,bx,f,h1,h2,rfl,h4⟩:=hb k bx' hk
  obtain⟨L,h5,h6⟩:=h.boxes id bx h2
  exact⟨_,h4 L h5,tU.ren hr f h6⟩
 ·obtain⟨_,id,L,f,h1,h2,rfl⟩:=hd k L' hk
  rw [sw]at hbl
  exact h.ss id L bl h2 hbl o
 ·obtain⟨_,id,L0,f,h1,h2,rfl⟩:=hd k L hk
  obtain⟨_,id',L0',f',h1',h2',rfl⟩:=hd k' L' hk'
  rw [sw]at hbl hbl'
  have:=h.inj id id' L0 L0' bl h2 h2' hbl hbl'
  subst this
  rw [h1]at h1'
  exact Option.some.inj h1'
end Go.Dw
