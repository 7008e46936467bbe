
import Derived.Test.YtgdhcacjeppglaaGreatDwMap
import Derived.Test.YtgdhcacjeppglaaGreatDwMake
open Option.some renaming inj->BT, injEq->AD
open List renaming getElem?_map->As
open Option renaming map_some->Ax

namespace Go.Dw
def cz(f:Nat->Nat):Loc->Loc
  | .arr ver e sz hdr=>.arr (f ver) e sz hdr
  | .nest ver e sz hdr bs=>.nest (f ver) e sz hdr bs
  |L=>L
theorem eK(f:Nat->Nat)(L:Loc)(b:Nat):(cz f L).has b=L.has b:=by cases L<;>rfl
theorem gw{f:Nat->Nat}{L:Loc}{ver:Nat}{e:TypeId}{sz:Nat}{hdr:Value}(h:(cz f L).Row ver e sz hdr):∃cur,L.Row cur e sz hdr∧ver=f cur:=by
  cases L with
  |arr cur g c a=>cases h;exact⟨cur,.arr,rfl⟩
  |nest cur g c a bs=>cases h;exact⟨cur,.nest,rfl⟩
  |var b=>cases h
  |dead=>cases h
  |map b=>cases h
  |mapn b bs=>cases h
theorem fF{f g:Nat->Nat}{L:Loc}{ver:Nat}{e:TypeId}{sz:Nat}{hdr:Value}(h:L.Row ver e sz hdr)(he:cz f L=cz g L):f ver=g ver:=by
  cases h<;> ·simp only [cz,Loc.arr.injEq,Loc.nest.injEq]at he;exact he.1
theorem nK{f:Nat->Nat}{L:Loc}{b:Nat}(h:cz f L= .var b):L= .var b:=by cases L<;>first|exact h|cases h
theorem nJ{f:Nat->Nat}{L:Loc}{b:Nat}(h:(cz f L).Map b):L.Map b:=by cases L<;>first|exact h|cases h
structure gG(ρ:Ren)(loc loc':cJ):Prop where
  pos:∀id k L,ρ.pos id=some k->loc id=some L->∃f,loc' k=some (cz f L)
  ver:∀id ver v' k cur e sz hdr L,ρ.pos id=some k->ρ.ver id ver=some v'->loc id=some L->L.Row cur e sz hdr->ver=cur∧∃f,loc' k=some (cz f L)∧f cur=v'
section
variable {P:Program}{S:cp}{loc loc':cJ}{w:World}{ρ:Ren}
theorem R.eU(h:gG ρ loc loc'){rv:RV}{v:Value}(z:R S loc rv v):R S loc' (Dw.eU ρ rv) v:=by
  cases z with
  |d h=>exact .d h
  |undef=>exact .undef
  |junk v=>exact .junk v
  |cL=>exact .cL
  |agg cs vs hl hc=>exact .junk _
  |tup cs vs hl hc=>exact .junk _
  |clo f cs vs hl hc=>exact .junk _
  |err t x=>exact .err t x
  |noerr=>exact .noerr
  |dfull es a h=>exact .dfull es a h
  |ifc t c v h=>exact .junk _
  |plit cs b o c f hc hS hV=>exact .junk _
  |rlit cs b o c f hc hS hV=>exact .junk _
  |pcp c b o u hS hV=>exact .junk _
  |bnd f c v h=>exact .junk _
  |rfn id ver n a c h=>exact .junk _
  |cptr cs b o f hS hV=>exact .cptr cs b o f hS hV
  |fview id ver y v L ho m hc=>
    simp only [Dw.eU]
    rcases p:ρ.pos id with _|k
    · exact .junk _
    rcases s:ρ.ver id ver with _|v'
    · exact .junk _
    obtain⟨f,l⟩:=h.pos id k L p m
    refine .fview k v' y v _ ho l fun r e sz hdr he=>?_
    obtain⟨cur,j,rfl⟩:=gw he
    obtain⟨rfl,g,q,rfl⟩:=h.ver id ver v' k cur e sz hdr _ p s m j
    rw [l]at q
    have:=fF j (BT q)
    exact⟨om,fun _=>(hc ver e sz hdr j).2 rfl⟩
  |ptr id off v L ho m hc=>
    simp only [Dw.eU]
    rcases p:ρ.pos id with _|k
    · exact .junk _
    obtain⟨f,l⟩:=h.pos id k L p m
    exact .ptr k off v _ ho l fun b=>⟨fun hb=>(hc b).1 (nK hb),fun hb=>(hc b).2 (nJ hb)⟩
  |ref id ver v L ho m hc=>
    simp only [Dw.eU]
    rcases p:ρ.pos id with _|k
    · exact .junk _
    rcases s:ρ.ver id ver with _|v'
    · exact .junk _
    obtain⟨f,l⟩:=h.pos id k L p m
    refine .ref k v' v _ ho l fun r e sz hdr he=>?_
    obtain⟨cur,j,rfl⟩:=gw he
    obtain⟨rfl,g,q,rfl⟩:=h.ver id ver v' k cur e sz hdr _ p s m j
    rw [l]at q
    have:=fF j (BT q)
    exact⟨om,fun _=>(hc ver e sz hdr j).2 rfl⟩
  |elt id ver i o v L ho m hc=>
    simp only [Dw.eU]
    rcases p:ρ.pos id with _|k
    · exact .junk _
    rcases s:ρ.ver id ver with _|v'
    · exact .junk _
    obtain⟨f,l⟩:=h.pos id k L p m
    refine .elt k v' i o v _ ho l fun r e sz hdr he=>?_
    obtain⟨cur,j,rfl⟩:=gw he
    obtain⟨rfl,g,q,rfl⟩:=h.ver id ver v' k cur e sz hdr _ p s m j
    rw [l]at q
    have:=fF j (BT q)
    exact⟨om,fun _=>(hc ver e sz hdr j).2 rfl⟩
  |view id ver B y v L ho m hc=>
    simp only [Dw.eU]
    rcases p:ρ.pos id with _|k
    · exact .junk _
    rcases s:ρ.ver id ver with _|v'
    · exact .junk _
    obtain⟨f,l⟩:=h.pos id k L p m
    refine .view k v' B y v _ ho l fun r e sz hdr he=>?_
    obtain⟨cur,j,rfl⟩:=gw he
    obtain⟨rfl,g,q,rfl⟩:=h.ver id ver v' k cur e sz hdr _ p s m j
    rw [l]at q
    have:=fF j (BT q)
    exact⟨om,fun _=>(hc ver e sz hdr j).2 rfl⟩
theorem R.dw(h:gG ρ loc loc'){rv:RV}{v:Value}(k:R S loc rv v):R S loc' (Dw.dw ρ rv) v:=by
  have cells:∀{cs:List RV}{vs:Array Value},(∀(i:Nat)c v,cs[i]? =some c->vs[i]? =some v->R S loc c v)->
      ∀(i:Nat)c v,(cs.map (Dw.eU ρ))[i]? =some c->vs[i]? =some v->R S loc' c v:=by
    intro cs vs hc i c v h1 m
    rw [As]at h1
    rcases l:cs[i]? with _|g
    · simp [l]at h1
    simp only [l,Ax,AD]at h1
    subst h1
    exact R.eU h (hc i g v l m)
  cases rv with
  |agg cs=>obtain⟨vs,rfl,hl,hc⟩:=k.gV;exact .agg _ vs (by simpa using hl) (cells hc)
  |tup cs=>cases k with|tup _ vs hl hc=>exact .tup _ vs (by simpa using hl) (cells hc)
  |clo f cs=>cases k with|clo _ _ vs hl hc=>exact .clo f _ vs (by simpa using hl) (cells hc)
  |ifc t c=>cases k with|ifc _ _ v hc=>exact .ifc t _ v (R.eU h hc)
  |plit cs=>cases k with|plit _ b o c f hc hS hV=>
    have:=R.plit (S:=S) (loc:=loc') (cs.map (Dw.eU ρ)) b o c f (by simpa using hc)
      (fun j x a => by
        rw [As]at a
        rcases e:cs[j]? with _|g
        · simp [e]at a
        exact hS j g e)
      (fun j x a => by
        rw [As]at a
        rcases e:cs[j]? with _|g
        · simp [e]at a
        simp only [e,Ax,AD]at a
        subst a
        exact R.eU h (hV j g e))
    rwa [List.length_map]at this
  |rlit cs=>cases k with|rlit _ b o c f hc hS hV=>
    exact R.rlit (S:=S) (loc:=loc') (cs.map (Dw.eU ρ)) b o c f hc
      (fun j x a => by
        rw [As]at a
        rcases e:cs[j]? with _|g
        · simp [e]at a
        exact hS j g e)
      (fun j x a => by
        rw [As]at a
        rcases e:cs[j]? with _|g
        · simp [e]at a
        simp only [e,Ax,AD]at a
        subst a
        exact R.eU h (hV j g e))
  |pcp c=>cases k with|pcp _ b o u hS hV=>exact .pcp _ b o u hS (R.eU h hV)
  |bnd f c=>cases k with|bnd _ _ v hc=>exact .bnd f _ v (R.eU h hc)
  |_=>exact R.eU h k
def renNC(ρ:Ren):NC->NC
  | .val rv=>.val (Dw.dw ρ rv)
  |c=>c
theorem NCs.ren0(h:gG ρ loc loc'){cs:List NC}{vs:List Value}{bs:List Nat}(hc:NCs P S loc w cs vs bs):NCs P S loc' w (cs.map (renNC ρ)) vs bs:=by
  induction hc with
  |nil=>exact .nil
  |cons h1 _ b=>
    refine .cons ?_ b
    cases h1 with
    |val _ _ a ho=>exact .val _ _ (R.dw h a) ho
    |row _ _ _ _ _ hsz how hf=>exact .row _ _ _ _ _ hsz how hf
theorem NCs.ren(h:gG ρ loc loc'){e2:TypeId}{ess:List (List PD)}{a:Option (Nat×RV)}{vs:List Value}{bs:List Nat}(hc:NCs P S loc w (ncs e2 ess a) vs bs):
    NCs P S loc' w (ncs e2 ess (match a with|some (i,rv)=>some (i,Dw.dw ρ rv)|none=>none)) vs bs:=by
  have:=NCs.ren0 h hc
  rcases a with _|⟨i,rv⟩
  · simpa [ncs,Function.comp_def,renNC]using this
  · simpa [ncs,List.map_set,Function.comp_def,renNC]using this
theorem eh.ren(h:gG ρ loc loc'){x:Box}{L:Loc}(f:Nat->Nat)(hb:eh P S loc w x L):eh P S loc' w (ez ρ f x) (cz f L):=by
  cases hb with
  |var cs b t vs hw hl hc=>
    refine .var _ b t vs hw (by simpa using hl) fun i c v a E=>?_
    rw [As]at a
    rcases l:cs[i]? with _|y
    · simp [l]at a
    simp only [l,Ax,AD]at a
    subst a
    exact R.dw h (hc i y v l E)
  |arr ver e es sz hdr xs hsz how hf=>exact .arr (f ver) e es sz hdr xs hsz how hf
  |dead L C=>subst C;exact .dead _ rfl
  |map p r es b clock ents hw hl hc=>exact .map p r es b clock ents hw hl hc
  |nest ver e e2 ess n hdr xs bs hsz k how hc g m=>
    rcases n with _|⟨i,rv⟩
    · exact .nest (f ver) e e2 ess none hdr xs bs hsz k how (NCs.ren h hc) g (fun i rv e=>by cases e)
    · refine .nest (f ver) e e2 ess (some (i,Dw.dw ρ rv)) hdr xs bs hsz k how ?_ g (fun j q e=>by cases e;exact m i rv rfl)
      exact NCs.ren h hc
  |mapn p r e2 es eR b ents bs k hw hl hk hc g m=>
    refine .mapn p r e2 es eR b ents bs k hw hl hk ?_ g m
    have:=NCs.ren h hc
    rcases eR with _|i
    · exact this
    · exact this
  |hole ver e es i o rv sz hdr xs u hsz how hf m ho hu D=>exact .hole (f ver) e es i o _ sz hdr xs u hsz how hf m ho hu (R.dw h D)
  |deep ver e es o e2 ts n sz hdr xs bs s hd=>
    rcases n with _|⟨i,rv⟩
    · exact .deep (f ver) e es o e2 ts none sz hdr xs bs s ⟨hd.hsz,hd.ho,hd.how,hd.hf,hd.hc,hd.hb,(fun i rv e=>by cases e),hd.ht⟩
    · exact .deep (f ver) e es o e2 ts (some (i,Dw.dw ρ rv)) sz hdr xs bs s ⟨hd.hsz,hd.ho,hd.how,hd.hf,hd.hc,hd.hb,(fun j q e=>by cases e;obtain⟨h1,u,z,B⟩:=hd.hl i rv rfl;exact⟨h1,u,z,R.dw h B⟩),hd.ht⟩
theorem ni{b:cI}{f:Nat->Nat->Nat}{id ver v' cur:Nat}{e:TypeId}{sz:Nat}{hdr:Value}{L:Loc}(h:da b f id ver=some v')(hb:∀c,b id=some c->eh P S loc w c L)(g:L.Row cur e sz hdr):ver=cur∧v'=f id ver:=by
  unfold da at h
  split at h
  all_goals first
    |(cases h;done)
    | (rename_i a
       split at h
       · rename_i i
         subst i
         cases h
         have:=hb _ a
         cases this<;>cases g<;>exact⟨rfl,rfl⟩
       · cases h)
theorem gG.mk'{b:cI}{pos:Nat->Option Nat}{f:Nat->Nat->Nat}(hb:∀id a,b id=some a->∃L,loc id=some L∧eh P S loc w a L)
    (hl:∀id k L,pos id=some k->loc id=some L->loc' k=some (cz (f id) L)):gG ⟨pos,da b f⟩ loc loc':=by
  refine⟨fun id k L i c=>⟨_,hl id k L i c⟩,fun id ver v' k cur e sz hdr L i m c l=>?_⟩
  obtain⟨rfl,rfl⟩:=ni (P:=P) (S:=S) (loc:=loc) (w:=w) m (fun a g=>by obtain⟨n,h1,j⟩:=hb id a g;rw [c]at h1;cases h1;exact j) l
  exact⟨rfl,_,hl id k L i c,rfl⟩
end
structure Mem(P:Program)(S:cp)(loc:cJ)(bm:cI)(w:World):Prop where
  boxes:∀id bx,bm id=some bx->∃L,loc id=some L∧eh P S loc w bx L
  dom:∀id L,loc id=some L->∃bx,bm id=some bx
  imm:∀ad v,S ad=some v->w.cell? ad=some v
  fy:∀ad v,S ad=some v->v.oneCell'=true
  eA:∀id L b,loc id=some L->L.has b->∀o,S ⟨b,o,none⟩=none
  inj:∀id id' L L' b,loc id=some L->loc id'=some L'->L.has b->L'.has b->id=id'
theorem Sim.mem{P:Program}{X:Ctx}{S:cp}{loc:cJ}{s:St}{a:Array Value}{w:World}(h:Sim P X S loc s a w):Mem P S loc s.boxes w:=⟨h.boxes,h.dom,h.imm,h.fy,h.eA,h.inj⟩
theorem Mem.dq{P:Program}{S:cp}{loc:cJ}{boxes:cI}{w:World}(h:Mem P S loc boxes w){id:Nat}{a:Box}{L:Loc}(hb:boxes id=some a)(c:loc id=some L):eh P S loc w a L:=by
  obtain⟨e,h1,b⟩:=h.boxes id a hb
  rw [c]at h1;cases h1;exact b
theorem Mem.lt{P:Program}{S:cp}{loc:cJ}{boxes:cI}{w:World}(h:Mem P S loc boxes w){id b:Nat}{L:Loc}(c:loc id=some L)(hb:L.has b):b<w.heap.size:=by
  obtain⟨e,a⟩:=h.dom id L c
  exact(h.dq a c).eO hb
theorem Mem.ren{P:Program}{S:cp}{loc loc':cJ}{b b':cI}{w:World}{ρ:Ren}(h:Mem P S loc b w)(x:gG ρ loc loc')
    (hb:∀k c,b' k=some c->∃id i f,ρ.pos id=some k∧b id=some i∧c=ez ρ f i∧∀L,loc id=some L->loc' k=some (cz f L))
    (hd:∀k e,loc' k=some e->(∃i,b' k=some i)∧∃id L f,ρ.pos id=some k∧loc id=some L∧e=cz f L):Mem P S loc' b' w:=by
  refine⟨fun k c hk=>?_,fun k e hk=>(hd k e hk).1,h.imm,h.fy,fun k e n hk a o=>?_,fun k k' L e n hk q a g=>?_⟩
  · obtain⟨id,i,f,h1,l,rfl,t⟩:=hb k c hk
    obtain⟨L,u,v⟩:=h.boxes id i l
    exact⟨_,t L u,eh.ren x f v⟩
  · obtain⟨_,id,L,f,h1,l,rfl⟩:=hd k e hk
    rw [eK]at a
    exact h.eA id L n l a o
  · obtain⟨_,id,s,f,h1,l,rfl⟩:=hd k L hk
    obtain⟨_,r,m,y,j,p,rfl⟩:=hd k' e q
    rw [eK]at a g
    have:=h.inj id r s m n l p a g
    subst this
    rw [h1]at j
    exact BT j
end Go.Dw
