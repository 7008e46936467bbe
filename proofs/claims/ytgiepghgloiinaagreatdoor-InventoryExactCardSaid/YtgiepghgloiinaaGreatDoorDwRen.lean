
import Derived.Test.YtgiepghgloiinaaGreatDoorDwMap
import Derived.Test.YtgiepghgloiinaaGreatDoorDwMake
open Option.some renaming inj->BT, injEq->AD
open List renaming getElem?_map->Av
open Option renaming map_some->Az

namespace Go.Dw
def ks(f:Nat->Nat):Loc->Loc
  | .arr ver e sz hdr=>.arr (f ver) e sz hdr
  | .nest ver e sz hdr bs=>.nest (f ver) e sz hdr bs
  |L=>L
theorem mT(f:Nat->Nat)(L:Loc)(b:Nat):(ks f L).has b=L.has b:=by cases L<;>rfl
theorem oF{f:Nat->Nat}{L:Loc}{ver:Nat}{e:TypeId}{sz:Nat}{hdr:Value}(h:(ks f L).Row ver e sz hdr):∃cur,L.Row cur e sz hdr∧ver=f cur:=by
  cases L with
  |arr cur g c a=>cases h;exact⟨cur,.arr,rfl⟩
  |nest cur g c a bs=>cases h;exact⟨cur,.nest,rfl⟩
  |var b=>cases h
  |dead=>cases h
  |map b=>cases h
  |mapn b bs=>cases h
theorem nR{f g:Nat->Nat}{L:Loc}{ver:Nat}{e:TypeId}{sz:Nat}{hdr:Value}(h:L.Row ver e sz hdr)(he:ks f L=ks g L):f ver=g ver:=by
  cases h<;> ·simp only [ks,Loc.arr.injEq,Loc.nest.injEq]at he;exact he.1
theorem w7{f:Nat->Nat}{L:Loc}{b:Nat}(h:ks f L= .var b):L= .var b:=by cases L<;>first|exact h|cases h
theorem w6{f:Nat->Nat}{L:Loc}{b:Nat}(h:(ks f L).Map b):L.Map b:=by cases L<;>first|exact h|cases h
structure oW(ρ:Ren)(loc loc':kH):Prop where
  pos:∀id k L,ρ.pos id=some k->loc id=some L->∃f,loc' k=some (ks f L)
  ver:∀id ver v' k cur e sz hdr L,ρ.pos id=some k->ρ.ver id ver=some v'->loc id=some L->L.Row cur e sz hdr->ver=cur∧∃f,loc' k=some (ks f L)∧f cur=v'
section
variable {P:Program}{S:kd}{loc loc':kH}{w:World}{ρ:Ren}
theorem R.nz(h:oW ρ loc loc'){rv:RV}{v:Value}(s:R S loc rv v):R S loc' (Dw.nz ρ rv) v:=by
  cases s with
  |d h=>exact .d h
  |undef=>exact .undef
  |junk v=>exact .junk v
  |jt=>exact .jt
  |agg cs vs hl hc=>exact .junk _
  |tup cs vs hl hc=>exact .junk _
  |clo f cs vs hl hc=>exact .junk _
  |err t x=>exact .err t x
  |noerr=>exact .noerr
  |dfull es a h=>exact .dfull es a h
  |ifc t c v h=>exact .junk _
  |plit cs b o c f hc hS hV=>exact .junk _
  |rlit cs b o c f hc hS hV=>exact .junk _
  |pcp c b o u hS hV=>exact .junk _
  |cptr cs b o f hS hV=>exact .cptr cs b o f hS hV
  |fview id ver hi v L ho m hc=>
    simp only [Dw.nz]
    rcases n:ρ.pos id with _|k
    · exact .junk _
    rcases r:ρ.ver id ver with _|v'
    · exact .junk _
    obtain⟨f,l⟩:=h.pos id k L n m
    refine .fview k v' hi v _ ho l fun q e sz hdr he=>?_
    obtain⟨cur,j,rfl⟩:=oF he
    obtain⟨rfl,g,p,rfl⟩:=h.ver id ver v' k cur e sz hdr _ n r m j
    rw [l]at p
    have:=nR j (BT p)
    exact⟨om,fun _=>(hc ver e sz hdr j).2 rfl⟩
  |ptr id off v L ho m hc=>
    simp only [Dw.nz]
    rcases n:ρ.pos id with _|k
    · exact .junk _
    obtain⟨f,l⟩:=h.pos id k L n m
    exact .ptr k off v _ ho l fun b=>⟨fun hb=>(hc b).1 (w7 hb),fun hb=>(hc b).2 (w6 hb)⟩
  |ref id ver v L ho m hc=>
    simp only [Dw.nz]
    rcases n:ρ.pos id with _|k
    · exact .junk _
    rcases r:ρ.ver id ver with _|v'
    · exact .junk _
    obtain⟨f,l⟩:=h.pos id k L n m
    refine .ref k v' v _ ho l fun q e sz hdr he=>?_
    obtain⟨cur,j,rfl⟩:=oF he
    obtain⟨rfl,g,p,rfl⟩:=h.ver id ver v' k cur e sz hdr _ n r m j
    rw [l]at p
    have:=nR j (BT p)
    exact⟨om,fun _=>(hc ver e sz hdr j).2 rfl⟩
  |elt id ver i o v L ho m hc=>
    simp only [Dw.nz]
    rcases n:ρ.pos id with _|k
    · exact .junk _
    rcases r:ρ.ver id ver with _|v'
    · exact .junk _
    obtain⟨f,l⟩:=h.pos id k L n m
    refine .elt k v' i o v _ ho l fun q e sz hdr he=>?_
    obtain⟨cur,j,rfl⟩:=oF he
    obtain⟨rfl,g,p,rfl⟩:=h.ver id ver v' k cur e sz hdr _ n r m j
    rw [l]at p
    have:=nR j (BT p)
    exact⟨om,fun _=>(hc ver e sz hdr j).2 rfl⟩
  |view id ver y hi v L ho m hc=>
    simp only [Dw.nz]
    rcases n:ρ.pos id with _|k
    · exact .junk _
    rcases r:ρ.ver id ver with _|v'
    · exact .junk _
    obtain⟨f,l⟩:=h.pos id k L n m
    refine .view k v' y hi v _ ho l fun q e sz hdr he=>?_
    obtain⟨cur,j,rfl⟩:=oF he
    obtain⟨rfl,g,p,rfl⟩:=h.ver id ver v' k cur e sz hdr _ n r m j
    rw [l]at p
    have:=nR j (BT p)
    exact⟨om,fun _=>(hc ver e sz hdr j).2 rfl⟩
theorem R.lK(h:oW ρ loc loc'){rv:RV}{v:Value}(g:R S loc rv v):R S loc' (Dw.lK ρ rv) v:=by
  have cells:∀{cs:List RV}{vs:Array Value},(∀(i:Nat)c v,cs[i]? =some c->vs[i]? =some v->R S loc c v)->
      ∀(i:Nat)c v,(cs.map (Dw.nz ρ))[i]? =some c->vs[i]? =some v->R S loc' c v:=by
    intro cs vs hc i c v h1 l
    rw [Av]at h1
    rcases k:cs[i]? with _|c0
    · simp [k]at h1
    simp only [k,Az,AD]at h1
    subst h1
    exact R.nz h (hc i c0 v k l)
  cases rv with
  |agg cs=>obtain⟨vs,rfl,hl,hc⟩:=g.pj;exact .agg _ vs (by simpa using hl) (cells hc)
  |tup cs=>cases g with|tup _ vs hl hc=>exact .tup _ vs (by simpa using hl) (cells hc)
  |clo f cs=>cases g with|clo _ _ vs hl hc=>exact .clo f _ vs (by simpa using hl) (cells hc)
  |ifc t c=>cases g with|ifc _ _ v hc=>exact .ifc t _ v (R.nz h hc)
  |plit cs=>cases g with|plit _ b o c f hc hS hV=>
    have:=R.plit (S:=S) (loc:=loc') (cs.map (Dw.nz ρ)) b o c f (by simpa using hc)
      (fun j x a => by
        rw [Av]at a
        rcases e:cs[j]? with _|c0
        · simp [e]at a
        exact hS j c0 e)
      (fun j x a => by
        rw [Av]at a
        rcases e:cs[j]? with _|c0
        · simp [e]at a
        simp only [e,Az,AD]at a
        subst a
        exact R.nz h (hV j c0 e))
    rwa [List.length_map]at this
  |rlit cs=>cases g with|rlit _ b o c f hc hS hV=>
    exact R.rlit (S:=S) (loc:=loc') (cs.map (Dw.nz ρ)) b o c f hc
      (fun j x a => by
        rw [Av]at a
        rcases e:cs[j]? with _|c0
        · simp [e]at a
        exact hS j c0 e)
      (fun j x a => by
        rw [Av]at a
        rcases e:cs[j]? with _|c0
        · simp [e]at a
        simp only [e,Az,AD]at a
        subst a
        exact R.nz h (hV j c0 e))
  |pcp c=>cases g with|pcp _ b o u hS hV=>exact .pcp _ b o u hS (R.nz h hV)
  |_=>exact R.nz h g
def renNC(ρ:Ren):NC->NC
  | .val rv=>.val (Dw.lK ρ rv)
  |c=>c
theorem NCs.ren0(h:oW ρ loc loc'){cs:List NC}{vs:List Value}{bs:List Nat}(hc:NCs P S loc w cs vs bs):NCs P S loc' w (cs.map (renNC ρ)) vs bs:=by
  induction hc with
  |nil=>exact .nil
  |cons h1 _ b=>
    refine .cons ?_ b
    cases h1 with
    |val _ _ a ho=>exact .val _ _ (R.lK h a) ho
    |row _ _ _ _ _ hsz how hf=>exact .row _ _ _ _ _ hsz how hf
theorem NCs.ren(h:oW ρ loc loc'){e2:TypeId}{ess:List (List PD)}{a:Option (Nat×RV)}{vs:List Value}{bs:List Nat}(hc:NCs P S loc w (ncs e2 ess a) vs bs):
    NCs P S loc' w (ncs e2 ess (match a with|some (i,rv)=>some (i,Dw.lK ρ rv)|none=>none)) vs bs:=by
  have:=NCs.ren0 h hc
  rcases a with _|⟨i,rv⟩
  · simpa [ncs,Function.comp_def,renNC]using this
  · simpa [ncs,List.map_set,Function.comp_def,renNC]using this
theorem mu.ren(h:oW ρ loc loc'){s:Box}{L:Loc}(f:Nat->Nat)(hb:mu P S loc w s L):mu P S loc' w (mI ρ f s) (ks f L):=by
  cases hb with
  |var cs b t vs hw hl hc=>
    refine .var _ b t vs hw (by simpa using hl) fun i c v a C=>?_
    rw [Av]at a
    rcases l:cs[i]? with _|c0
    · simp [l]at a
    simp only [l,Az,AD]at a
    subst a
    exact R.lK h (hc i c0 v l C)
  |arr ver e es sz hdr xs hsz how hf=>exact .arr (f ver) e es sz hdr xs hsz how hf
  |dead L z=>subst z;exact .dead _ rfl
  |map n q es b clock ents hw hl hc=>exact .map n q es b clock ents hw hl hc
  |nest ver e e2 ess m hdr xs bs hsz k how hc g hi=>
    rcases m with _|⟨i,rv⟩
    · exact .nest (f ver) e e2 ess none hdr xs bs hsz k how (NCs.ren h hc) g (fun i rv e=>by cases e)
    · refine .nest (f ver) e e2 ess (some (i,Dw.lK ρ rv)) hdr xs bs hsz k how ?_ g (fun j p e=>by cases e;exact hi i rv rfl)
      exact NCs.ren h hc
  |mapn n q e2 es nf b ents bs k hw hl hk hc g hi=>
    refine .mapn n q e2 es nf b ents bs k hw hl hk ?_ g hi
    have:=NCs.ren h hc
    rcases nf with _|i
    · exact this
    · exact this
  |hole ver e es i o rv sz hdr xs u hsz how hf hi ho hu B=>exact .hole (f ver) e es i o _ sz hdr xs u hsz how hf hi ho hu (R.lK h B)
  |deep ver e es o e2 ts m sz hdr xs bs r hd=>
    rcases m with _|⟨i,rv⟩
    · exact .deep (f ver) e es o e2 ts none sz hdr xs bs r ⟨hd.hsz,hd.ho,hd.how,hd.hf,hd.hc,hd.hb,(fun i rv e=>by cases e),hd.ht⟩
    · exact .deep (f ver) e es o e2 ts (some (i,Dw.lK ρ rv)) sz hdr xs bs r ⟨hd.hsz,hd.ho,hd.how,hd.hf,hd.hc,hd.hb,(fun j p e=>by cases e;obtain⟨h1,u,x,y⟩:=hd.hl i rv rfl;exact⟨h1,u,x,R.lK h y⟩),hd.ht⟩
theorem wK{b:kE}{f:Nat->Nat->Nat}{id ver v' cur:Nat}{e:TypeId}{sz:Nat}{hdr:Value}{L:Loc}(h:ll b f id ver=some v')(hb:∀c,b id=some c->mu P S loc w c L)(g:L.Row cur e sz hdr):ver=cur∧v'=f id ver:=by
  unfold ll at h
  split at h
  all_goals first
    |(cases h;done)
    | (rename_i a
       split at h
       · rename_i i
         subst i
         cases h
         have:=hb _ a
         cases this<;>cases g<;>exact⟨rfl,rfl⟩
       · cases h)
theorem oW.mk'{b:kE}{pos:Nat->Option Nat}{f:Nat->Nat->Nat}(hb:∀id a,b id=some a->∃L,loc id=some L∧mu P S loc w a L)
    (hl:∀id k L,pos id=some k->loc id=some L->loc' k=some (ks (f id) L)):oW ⟨pos,ll b f⟩ loc loc':=by
  refine⟨fun id k L i c=>⟨_,hl id k L i c⟩,fun id ver v' k cur e sz hdr L i m c l=>?_⟩
  obtain⟨rfl,rfl⟩:=wK (P:=P) (S:=S) (loc:=loc) (w:=w) m (fun a g=>by obtain⟨n,h1,j⟩:=hb id a g;rw [c]at h1;cases h1;exact j) l
  exact⟨rfl,_,hl id k L i c,rfl⟩
end
structure Mem(P:Program)(S:kd)(loc:kH)(bm:kE)(w:World):Prop where
  boxes:∀id bx,bm id=some bx->∃L,loc id=some L∧mu P S loc w bx L
  dom:∀id L,loc id=some L->∃bx,bm id=some bx
  imm:∀ad v,S ad=some v->w.cell? ad=some v
  nA:∀ad v,S ad=some v->v.oneCell'=true
  mr:∀id L b,loc id=some L->L.has b->∀o,S ⟨b,o,none⟩=none
  inj:∀id id' L L' b,loc id=some L->loc id'=some L'->L.has b->L'.has b->id=id'
theorem Sim.mem{P:Program}{X:Ctx}{S:kd}{loc:kH}{s:St}{a:Array Value}{w:World}(h:Sim P X S loc s a w):Mem P S loc s.boxes w:=⟨h.boxes,h.dom,h.imm,h.nA,h.mr,h.inj⟩
theorem Mem.lE{P:Program}{S:kd}{loc:kH}{boxes:kE}{w:World}(h:Mem P S loc boxes w){id:Nat}{a:Box}{L:Loc}(hb:boxes id=some a)(c:loc id=some L):mu P S loc w a L:=by
  obtain⟨e,h1,b⟩:=h.boxes id a hb
  rw [c]at h1;cases h1;exact b
theorem Mem.lt{P:Program}{S:kd}{loc:kH}{boxes:kE}{w:World}(h:Mem P S loc boxes w){id b:Nat}{L:Loc}(c:loc id=some L)(hb:L.has b):b<w.heap.size:=by
  obtain⟨e,a⟩:=h.dom id L c
  exact(h.lE a c).mY hb
theorem Mem.ren{P:Program}{S:kd}{loc loc':kH}{b b':kE}{w:World}{ρ:Ren}(h:Mem P S loc b w)(x:oW ρ loc loc')
    (hb:∀k c,b' k=some c->∃id i f,ρ.pos id=some k∧b id=some i∧c=mI ρ f i∧∀L,loc id=some L->loc' k=some (ks f L))
    (hd:∀k e,loc' k=some e->(∃i,b' k=some i)∧∃id L f,ρ.pos id=some k∧loc id=some L∧e=ks f L):Mem P S loc' b' w:=by
  refine⟨fun k c hk=>?_,fun k e hk=>(hd k e hk).1,h.imm,h.nA,fun k e n hk a o=>?_,fun k k' L e n hk q a g=>?_⟩
  · obtain⟨id,i,f,h1,l,rfl,t⟩:=hb k c hk
    obtain⟨L,u,v⟩:=h.boxes id i l
    exact⟨_,t L u,mu.ren x f v⟩
  · obtain⟨_,id,L,f,h1,l,rfl⟩:=hd k e hk
    rw [mT]at a
    exact h.mr id L n l a o
  · obtain⟨_,id,s,f,h1,l,rfl⟩:=hd k L hk
    obtain⟨_,r,m,y,j,p,rfl⟩:=hd k' e q
    rw [mT]at a g
    have:=h.inj id r s m n l p a g
    subst this
    rw [h1]at j
    exact BT j
end Go.Dw
