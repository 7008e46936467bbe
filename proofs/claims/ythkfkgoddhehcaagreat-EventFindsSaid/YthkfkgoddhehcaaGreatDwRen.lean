
import Derived.Test.YthkfkgoddhehcaaGreatDwMap
import Derived.Test.YthkfkgoddhehcaaGreatDwMake
open Option.some renaming inj->Fg, injEq->EC
open List renaming getElem?_map->FO

namespace Go.Dw
def tV(f:Nat->Nat):Loc->Loc
 | .arr ver e sz hdr=>.arr (f ver) e sz hdr
 | .nest ver e sz hdr bs=>.nest (f ver) e sz hdr bs
 |L=>L
theorem wE(f:Nat->Nat)(L:Loc)(b:Nat):(tV f L).has b=L.has b:=by cases L<;>rfl
theorem DM{f:Nat->Nat}{L:Loc}{ver:Nat}{e:TypeId}{sz:Nat}{hdr:Value}(h:tV f L= .arr ver e sz hdr):∃cur,L= .arr cur e sz hdr∧ver=f cur:=by
 cases L with
 |arr cur g c a=>simp only [tV,Loc.arr.injEq]at h;obtain⟨rfl,rfl,rfl,rfl⟩:=h;exact⟨cur,rfl,rfl⟩
 |var b=>cases h
 |dead=>cases h
 |nest _ _ _ _ _=>cases h
theorem BB{f:Nat->Nat}{L:Loc}{ver:Nat}{e:TypeId}{sz:Nat}{hdr:Value}(h:(tV f L).Row ver e sz hdr):∃cur,L.Row cur e sz hdr∧ver=f cur:=by
 cases L with
 |arr cur g c a=>cases h;exact⟨cur,.arr,rfl⟩
 |nest cur g c a bs=>cases h;exact⟨cur,.nest,rfl⟩
 |var b=>cases h
 |dead=>cases h
theorem yG{f g:Nat->Nat}{L:Loc}{ver:Nat}{e:TypeId}{sz:Nat}{hdr:Value}(h:L.Row ver e sz hdr)(he:tV f L=tV g L):f ver=g ver:=by
 cases h<;> ·simp only [tV,Loc.arr.injEq,Loc.nest.injEq]at he;exact he.1
theorem DO{f:Nat->Nat}{L:Loc}{b:Nat}(h:tV f L= .var b):L= .var b:=by cases L<;>first|exact h|cases h
theorem DN{f:Nat->Nat}{L:Loc}{b:Nat}(h:(tV f L).Map b):L.Map b:=by cases L<;>first|exact h|cases h
structure yl(ρ:Ren)(loc loc':ui):Prop where
 pos:∀id k L,ρ.pos id=some k->loc id=some L->∃f,loc' k=some (tV f L)
 ver:∀id ver v' k cur e sz hdr L,ρ.pos id=some k->ρ.ver id ver=some v'->loc id=some L->L.Row cur e sz hdr->ver=cur∧∃f,loc' k=some (tV f L)∧f cur=v'
section
variable {P:Program}{S:tG}{loc loc':ui}{w:World}{ρ:Ren}
theorem R.xF(h:yl ρ loc loc'){rv:RV}{v:Value}(B:R S loc rv v):R S loc' (Dw.xF ρ rv) v:=by
 cases B with
 |d h=>exact .d h
 |undef=>exact .undef
 |junk v=>exact .junk v
 |tC=>exact .tC
 |agg cs vs z hc=>exact .junk _
 |tup cs vs z hc=>exact .junk _
 |clo f cs vs z hc=>exact .junk _
 |err t x=>exact .err t x
 |noerr=>exact .noerr
 |ifc t c v h=>exact .junk _
 |plit cs b o c f hc hS hV=>exact .junk _
 |pcp c b o u hS hV=>exact .junk _
 |cptr cs b o f hS hV=>exact .cptr cs b o f hS hV
 |ptr id off v L ho l hc=>
  simp only [Dw.xF]
  rcases hp:ρ.pos id with _|k
  ·exact .junk _
  obtain⟨f,j⟩:=h.pos id k L hp l
  exact .ptr k off v _ ho j λb=>⟨λy=>(hc b).1 (DO y),λy=>(hc b).2 (DN y)⟩
 |ref id ver v L ho l hc=>
  simp only [Dw.xF]
  rcases hp:ρ.pos id with _|k
  ·exact .junk _
  rcases r:ρ.ver id ver with _|v'
  ·exact .junk _
  obtain⟨f,j⟩:=h.pos id k L hp l
  refine .ref k v' v _ ho j λq e sz hdr he=>?_
  obtain⟨cur,a,rfl⟩:=BB he
  obtain⟨rfl,g,p,rfl⟩:=h.ver id ver v' k cur e sz hdr _ hp r l a
  rw [j]at p
  have:=yG a (Fg p)
  exact⟨za,λ_=>(hc ver e sz hdr a).2 rfl⟩
 |elt id ver i o v L ho l hc=>
  simp only [Dw.xF]
  rcases hp:ρ.pos id with _|k
  ·exact .junk _
  rcases r:ρ.ver id ver with _|v'
  ·exact .junk _
  obtain⟨f,j⟩:=h.pos id k L hp l
  refine .elt k v' i o v _ ho j λq e sz hdr he=>?_
  obtain⟨cur,a,rfl⟩:=BB he
  obtain⟨rfl,g,p,rfl⟩:=h.ver id ver v' k cur e sz hdr _ hp r l a
  rw [j]at p
  have:=yG a (Fg p)
  exact⟨za,λ_=>(hc ver e sz hdr a).2 rfl⟩
 |view id ver lo hi v L ho l hc=>
  simp only [Dw.xF]
  rcases hp:ρ.pos id with _|k
  ·exact .junk _
  rcases r:ρ.ver id ver with _|v'
  ·exact .junk _
  obtain⟨f,j⟩:=h.pos id k L hp l
  refine .view k v' lo hi v _ ho j λq e sz hdr he=>?_
  obtain⟨cur,rfl,rfl⟩:=DM he
  obtain⟨rfl,g,p,rfl⟩:=h.ver id ver v' k cur e sz hdr _ hp r l .arr
  rw [j]at p
  have:=yG .arr (Fg p)
  exact⟨za,λ_=>(hc ver e sz hdr rfl).2 rfl⟩
theorem R.uZ(h:yl ρ loc loc'){rv:RV}{v:Value}(g:R S loc rv v):R S loc' (Dw.uZ ρ rv) v:=by
 have cells:∀{cs:List RV}{vs:Array Value},(∀(i:Nat)c v,cs[i]? =some c->vs[i]? =some v->R S loc c v)->
   ∀(i:Nat)c v,(cs.map (Dw.xF ρ))[i]? =some c->vs[i]? =some v->R S loc' c v:=by
  intro cs vs hc i c v h1 r
  rw [FO]at h1
  rcases a:cs[i]? with _|p
  ·simp [a]at h1
  simp only [a,Option.map_some,EC]at h1
  subst h1
  exact R.xF h (hc i p v a r)
 cases rv with
 |agg cs=>obtain⟨vs,rfl,q,hc⟩:=g.yN;exact .agg _ vs (by simpa using q) (cells hc)
 |tup cs=>cases g with|tup _ vs q hc=>exact .tup _ vs (by simpa using q) (cells hc)
 |clo f cs=>cases g with|clo _ _ vs q hc=>exact .clo f _ vs (by simpa using q) (cells hc)
 |ifc t c=>cases g with|ifc _ _ v hc=>exact .ifc t _ v (R.xF h hc)
 |plit cs=>cases g with|plit _ b o c f hc hS hV=>
  have:=R.plit (S:=S) (loc:=loc') (cs.map (Dw.xF ρ)) b o c f (by simpa using hc)
   (λj x k => by
    rw [FO]at k
    rcases l:cs[j]? with _|p
    ·simp [l]at k
    exact hS j p l)
   (λj x k => by
    rw [FO]at k
    rcases l:cs[j]? with _|p
    ·simp [l]at k
    simp only [l,Option.map_some,EC]at k
    subst k
    exact R.xF h (hV j p l))
  rwa [List.length_map]at this
 |pcp c=>cases g with|pcp _ b o u hS hV=>exact .pcp _ b o u hS (R.xF h hV)
 |_=>exact R.xF h g
def renNC(ρ:Ren):NC->NC
 | .val rv=>.val (Dw.uZ ρ rv)
 |c=>c
theorem NCs.ren0(h:yl ρ loc loc'){cs:List NC}{vs:List Value}{bs:List Nat}(hc:NCs P S loc w cs vs bs):NCs P S loc' w (cs.map (renNC ρ)) vs bs:=by
 induction hc with
 |nil=>exact .nil
 |cons h1 _ f=>
  refine .cons ?_ f
  cases h1 with
  |val _ _ c ho=>exact .val _ _ (R.uZ h c) ho
  |row _ _ _ _ _ a how hf=>exact .row _ _ _ _ _ a how hf
theorem NCs.ren(h:yl ρ loc loc'){e2:TypeId}{ess:List (List PD)}{a:Option (Nat×RV)}{vs:List Value}{bs:List Nat}(hc:NCs P S loc w (ncs e2 ess a) vs bs):
  NCs P S loc' w (ncs e2 ess (match a with|some (i,rv)=>some (i,Dw.uZ ρ rv)|none=>none)) vs bs:=by
 have:=NCs.ren0 h hc
 rcases a with _|⟨i,rv⟩
 ·simpa [ncs,Function.comp_def,renNC]using this
 ·simpa [ncs,List.map_set,Function.comp_def,renNC]using this
theorem xa.ren(h:yl ρ loc loc'){q:Box}{L:Loc}(f:Nat->Nat)(x:xa P S loc w q L):xa P S loc' w (vU ρ f q) (tV f L):=by
 cases x with
 |var cs b t vs hw z hc=>
  refine .var _ b t vs hw (by simpa using z) λi c v a B=>?_
  rw [FO]at a
  rcases k:cs[i]? with _|r
  ·simp [k]at a
  simp only [k,Option.map_some,EC]at a
  subst a
  exact R.uZ h (hc i r v k B)
 |arr ver e es sz hdr xs g how hf=>exact .arr (f ver) e es sz hdr xs g how hf
 |dead L u=>subst u;exact .dead _ rfl
 |nest ver e e2 ess y hdr xs bs g p how hc l hi=>
  rcases y with _|⟨i,rv⟩
  ·exact .nest (f ver) e e2 ess none hdr xs bs g p how (NCs.ren h hc) l (λi rv e=>by cases e)
  ·refine .nest (f ver) e e2 ess (some (i,Dw.uZ ρ rv)) hdr xs bs g p how ?_ l (λj C e=>by cases e;exact hi i rv rfl)
   exact NCs.ren h hc
theorem CP{b:tY}{f:Nat->Nat->Nat}{id ver v':Nat}(h:uz b f id ver=some v'):((∃e es,b id=some (.arr ver e es))∨∃e e2 ess c,b id=some (.nest ver e e2 ess c))∧v'=f id ver:=by
 unfold uz at h
 split at h
 ·rename_i cur e es a
  split at h
  ·rename_i g;subst g;cases h;exact⟨.inl ⟨e,es,a⟩,rfl⟩
  ·cases h
 ·rename_i cur e e2 ess c a
  split at h
  ·rename_i g;subst g;cases h;exact⟨.inr ⟨e,e2,ess,c,a⟩,rfl⟩
  ·cases h
 ·cases h
theorem Dt{b:tY}{f:Nat->Nat->Nat}{id ver v' cur:Nat}{e:TypeId}{sz:Nat}{hdr:Value}{L:Loc}(h:uz b f id ver=some v')(c:∀a,b id=some a->xa P S loc w a L)(g:L.Row cur e sz hdr):ver=cur∧v'=f id ver:=by
 obtain⟨h1,rfl⟩:=CP h
 refine⟨?_,rfl⟩
 rcases h1 with⟨j,es,h1⟩|⟨j,e2,ess,k,h1⟩
 ·have:=c _ h1
  cases this with
  |arr=>cases g;rfl
 ·have:=c _ h1
  cases this with
  |nest=>cases g;rfl
theorem yl.mk'{b:tY}{pos:Nat->Option Nat}{f:Nat->Nat->Nat}(p:∀id a,b id=some a->∃L,loc id=some L∧xa P S loc w a L)
  (j:∀id k L,pos id=some k->loc id=some L->loc' k=some (tV (f id) L)):yl ⟨pos,uz b f⟩ loc loc':=by
 refine⟨λid k L hp c=>⟨_,j id k L hp c⟩,λid ver v' k cur e sz hdr L hp r c q=>?_⟩
 obtain⟨rfl,rfl⟩:=Dt (P:=P) (S:=S) (loc:=loc) (w:=w) r (λa g=>by obtain⟨t,h1,l⟩:=p id a g;rw [c]at h1;cases h1;exact l) q
 exact⟨rfl,_,j id k L hp c,rfl⟩
end
structure Mem(P:Program)(S:tG)(loc:ui)(bm:tY)(w:World):Prop where
 boxes:∀id bx,bm id=some bx->∃L,loc id=some L∧xa P S loc w bx L
 dom:∀id L,loc id=some L->∃bx,bm id=some bx
 imm:∀ad v,S ad=some v->w.cell? ad=some v
 wU:∀ad v,S ad=some v->v.oneCell'=true
 vV:∀id L b,loc id=some L->L.has b->∀o,S ⟨b,o,none⟩=none
 inj:∀id id' L L' b,loc id=some L->loc id'=some L'->L.has b->L'.has b->id=id'
theorem Sim.mem{P:Program}{X:Ctx}{S:tG}{loc:ui}{s:St}{tm:Array Value}{w:World}(h:Sim P X S loc s tm w):Mem P S loc s.boxes w:=⟨h.boxes,h.dom,h.imm,h.wU,h.vV,h.inj⟩
theorem Mem.wh{P:Program}{S:tG}{loc:ui}{boxes:tY}{w:World}(h:Mem P S loc boxes w){id:Nat}{a:Box}{L:Loc}(g:boxes id=some a)(f:loc id=some L):xa P S loc w a L:=by
 obtain⟨j,h1,c⟩:=h.boxes id a g
 rw [f]at h1;cases h1;exact c
theorem Mem.lt{P:Program}{S:tG}{loc:ui}{boxes:tY}{w:World}(h:Mem P S loc boxes w){id b:Nat}{L:Loc}(c:loc id=some L)(f:L.has b):b<w.heap.size:=by
 obtain⟨g,a⟩:=h.dom id L c
 exact(h.wh a c).wH f
theorem Mem.ren{P:Program}{S:tG}{loc loc':ui}{b b':tY}{w:World}{ρ:Ren}(h:Mem P S loc b w)(G:yl ρ loc loc')
  (F:∀k c,b' k=some c->∃id l f,ρ.pos id=some k∧b id=some l∧c=vU ρ f l∧∀L,loc id=some L->loc' k=some (tV f L))
  (r:∀k g,loc' k=some g->(∃l,b' k=some l)∧∃id L f,ρ.pos id=some k∧loc id=some L∧g=tV f L):Mem P S loc' b' w:=by
 refine⟨λk c hk=>?_,λk g hk=>(r k g hk).1,h.imm,h.wU,λk g u hk a o=>?_,λk k' L g u hk y a j=>?_⟩
 ·obtain⟨id,l,f,h1,q,rfl,C⟩:=F k c hk
  obtain⟨L,D,E⟩:=h.boxes id l q
  exact⟨_,C L D,xa.ren G f E⟩
 ·obtain⟨_,id,L,f,h1,q,rfl⟩:=r k g hk
  rw [wE]at a
  exact h.vV id L u q a o
 ·obtain⟨_,id,B,f,h1,q,rfl⟩:=r k L hk
  obtain⟨_,z,t,H,p,x,rfl⟩:=r k' g y
  rw [wE]at a j
  have:=h.inj id z B t u q x a j
  subst this
  rw [h1]at p
  exact Fg p
end Go.Dw
