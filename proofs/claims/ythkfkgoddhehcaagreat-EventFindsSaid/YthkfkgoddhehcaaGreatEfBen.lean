
import Derived.Test.YthkfkgoddhehcaaGreatEfBenE
import Derived.Test.YthkfkgoddhehcaaGreatEfBenW
import Derived.Test.YthkfkgoddhehcaaGreatDwFun
open Nat renaming le_refl->EB, le_trans->EO, mul_comm->FN, zero_add->EJ, zero_mul->Iq
open List renaming getD_eq_getElem?_getD->Fx, getElem?_map->FO, getElem?_set_ne->EX, getElem?_set_self->EY, length_map->Fh, length_set->Hx, mem_of_getElem?->E1

set_option maxRecDepth 100000
set_option maxHeartbeats 4000000
namespace Go.Dw.Ef
open Go.Proofs Go.Dw
theorem flat_nil(S:tG)(sz:Nat):Flat S sz [] []:=⟨nofun,nofun,λi e j x hi=>by simp at hi⟩
theorem vstrB{S:tG}{s:List UInt8}{v:Value}(h:V S (.str s) v):v= .string ⟨s.toArray⟩:=by cases h;rfl
theorem vcellsB{S:tG}{es:List PD}{u:Value}{sz:Nat}(h:V S (.lst es) u)(k:∀e∈es,e.cells.length=sz)(I:0<sz)(B:∀ad v,S ad=some v->v.oneCell'=true):
    ∃ad c ys,u= .slice ad es.length c∧Flat S sz es ys∧ys.length=es.length*sz∧(es≠ []->∃b,ad=some b∧∀(j:Nat)v,ys[j]? =some v->S (b.add j)=some v):=by
  cases h with
  |nil a c=>exact⟨a,c,[],rfl,flat_nil S sz,zb,λh=>(h rfl).elim⟩
  |lst _ b o c g f hc F hS hV=>
    by_cases t:es=[]
    · subst t
      exact⟨some ⟨b,o,none⟩,c,[],rfl,flat_nil S sz,zb,λh=>(h rfl).elim⟩
    have N:g=sz:=by
      cases es with
      |nil=>exact(t rfl).elim
      |cons e r=>rw [<-F e zb,k e zb]
    subst N
    have l:∀q,q<es.length*g->∃e x,es[q / g]? =some e∧e.cells[q%g]? =some x:=λq C=>by
      have h1:q / g<es.length:=Nat.div_lt_of_lt_mul (by rw [FN];exact C)
      have p:=k _ (List.getElem_mem h1)
      have K:q%g<(es[q / g]).cells.length:=by rw [p];exact Nat.mod_lt _ I
      exact⟨_,_,ze h1,ze K⟩
    refine⟨some ⟨b,o,none⟩,c,(List.range (es.length*g)).map λq=>f (q / g) (q%g),rfl,⟨k,λv L=>?_,λi e j x hi y=>?_⟩,zb,λ_=>⟨_,rfl,λj v y=>?_⟩⟩
    · obtain⟨q,C,rfl⟩:=List.mem_map.1 L
      obtain⟨e,x,h1,p⟩:=l q (List.mem_range.1 C)
      exact B _ _ (hS _ _ _ _ h1 p)
    · have z:j<g:=by rw [<-k e (E1 hi)];exact(List.getElem?_eq_some_iff.1 y).1
      have G:i<es.length:=(List.getElem?_eq_some_iff.1 hi).1
      have H:i*g+j<es.length*g:=by
        calc i*g+j<i*g+g:=by omega
          _=(i+1)*g:=by rw [Nat.add_mul,Nat.one_mul]
          _<=es.length*g:=Nat.mul_le_mul_right _ G
      have J:(i*g+j) / g=i:=by rw [FN,Nat.mul_add_div I,Nat.div_eq_of_lt z,Nat.add_zero]
      have e2:(i*g+j)%g=j:=by rw [FN,Nat.mul_add_mod,Nat.mod_eq_of_lt z]
      refine⟨f i j,?_,hV i e j x hi y⟩
      rw [FO,List.getElem?_range H,Option.map_some,J,e2]
    · rw [FO,Option.map_eq_some_iff]at y
      obtain⟨q,C,rfl⟩:=y
      obtain⟨E,D⟩:=List.getElem?_eq_some_iff.1 C
      simp only [List.getElem_range]at D
      subst D
      rw [List.length_range]at E
      obtain⟨e,x,h1,p⟩:=l j E
      have:=hS _ _ _ _ h1 p
      rw [uC, <-this]
      congr 2
      have:=Nat.div_add_mod j g
      rw [FN]at this
      omega
structure Lies(S:tG)(c:av)(x:CV):Prop where
  lS0:x.s0=⟨c.az.bI.toArray⟩
  lS1:x.s1=⟨c.az.bB.toArray⟩
  lS2:x.s2=⟨c.az.bg.toArray⟩
  lS3:x.s3=⟨c.az.bL.toArray⟩
  lM:x.m=c.bF.length
  lYS:Flat S 8 (c.bF.map bi.pd) x.ys
theorem lies_at{S:tG}{cs:List av}{u:Value}(h:V S (.lst (cs.map av.pd)) u)(r:∀ad v,S ad=some v->v.oneCell'=true)(hle:∀c∈cs,c.bF.length<=1000):
    ∃ad cc,u= .slice ad cs.length cc∧∃l:List CV,l.length=cs.length∧∀(k:Nat)c,cs[k]? =some c->∃x,l[k]? =some x∧Lies S c x∧CVOk S x∧∃b o,ad=some ⟨b,o,none⟩∧∀(j:Nat)v,x.vs[j]? =some v->S ⟨b,o+k*5+j,none⟩=some v:=by
  have H:∀e∈cs.map av.pd,e.cells.length=5:=λe he=>by
    obtain⟨c, -,rfl⟩:=List.mem_map.1 he
    rfl
  have step:∀(k:Nat)c,cs[k]? =some c->∃x,Lies S c x∧CVOk S x∧∃b o,(∃n cc,u= .slice (some ⟨b,o,none⟩) n cc)∧∀(j:Nat)v,x.vs[j]? =some v->S ⟨b,o+k*5+j,none⟩=some v:=λk c hk=>by
    have q:(cs.map av.pd)[k]? =some c.pd:=by rw [FO,hk];rfl
    generalize I:cs.map av.pd=ps at h q H
    cases h with
    |nil a cc=>simp at q
    |lst _ b o cc sz f hc D hS hV=>
      have J:sz=5:=by rw [<-D _ (E1 q)];rfl
      subst J
      have s:=λj x g=>hS k _ j x q g
      have v:=λj x g=>hV k _ j x q g
      have v0:=v 0 _ rfl
      have v1:=v 1 _ rfl
      have v2:=v 2 _ rfl
      have v3:=v 3 _ rfl
      have v4:=v 4 _ rfl
      have s0:=s 0 _ rfl
      have s1:=s 1 _ rfl
      have s2:=s 2 _ rfl
      have s3:=s 3 _ rfl
      have L:=s 4 _ rfl
      obtain⟨ad,F,ys,G,hf,z,C⟩:=vcellsB (sz:=8) v4 (λe he=>by obtain⟨c, -,rfl⟩:=List.mem_map.1 he;rfl) (by decide) r
      rw [Fh]at G z
      refine⟨⟨⟨c.az.bI.toArray⟩,⟨c.az.bB.toArray⟩,⟨c.az.bg.toArray⟩,⟨c.az.bL.toArray⟩,ad,c.bF.length,F,ys⟩,⟨rfl,rfl,rfl,rfl,rfl,hf⟩,⟨z,hle c (E1 hk),hf.one,λhm=>C (by simpa using λe=>hm (by simp [e]))⟩,b,o,⟨_,_,rfl⟩,λj w g=>?_⟩
      have g0:f k 0= .string ⟨c.az.bI.toArray⟩:=vstrB v0
      have g1:f k 1= .string ⟨c.az.bB.toArray⟩:=vstrB v1
      have g2:f k 2= .string ⟨c.az.bg.toArray⟩:=vstrB v2
      have g3:f k 3= .string ⟨c.az.bL.toArray⟩:=vstrB v3
      match j,g with
      |0,g=>cases g;rw [<-g0];exact s0
      |1,g=>cases g;rw [<-g1];exact s1
      |2,g=>cases g;rw [<-g2];exact s2
      |3,g=>cases g;rw [<-g3];exact s3
      |4,g=>cases g;show S _=some (.slice ad c.bF.length F);rw [<-G];exact L
      |j+5,g=>cases g
  obtain⟨ad,cc, -,rfl, -, -, -⟩:=vcellsB (sz:=5) h H (by decide) r
  rw [Fh]
  refine⟨ad,cc,rfl,?_⟩
  have key:∀n,n<=cs.length->∃l:List CV,l.length=n∧∀(k:Nat)c,k<n->cs[k]? =some c->∃x,l[k]? =some x∧Lies S c x∧CVOk S x∧∃b o,ad=some ⟨b,o,none⟩∧∀(j:Nat)v,x.vs[j]? =some v->S ⟨b,o+k*5+j,none⟩=some v:=λn=>by
    induction n with
    |zero=>exact λ_=>⟨[],rfl,λk c hk=>za⟩
    |succ n K=>
      intro X
      obtain⟨l,B,p⟩:=K za
      obtain⟨c,hc⟩:∃c,cs[n]? =some c:=⟨cs[n],ze za⟩
      obtain⟨x,N,O,b,o,⟨Y,E,he⟩,Q⟩:=step n c hc
      cases he
      refine⟨l++[x],by simp [B],λk E hk t=>?_⟩
      by_cases e:k=n
      · subst e
        rw [hc]at t
        cases t
        exact⟨x,by rw [List.getElem?_append_right za,B];simp,N,O,b,o,rfl,Q⟩
      · obtain⟨y,T,W⟩:=p k E za t
        exact⟨y,by rw [List.getElem?_append_left za];exact T,W⟩
  obtain⟨l,B,p⟩:=key cs.length (EB _)
  exact⟨l,B,λk c hk=>p k c (List.getElem?_eq_some_iff.1 hk).1 hk⟩
theorem vrowB{S S':tG}{w:World}{e:TypeId}{sz:Nat}{v:Value}{xs:List Value}{es:List PD}(k:rowAt w e sz v es.length xs)(hf:Flat S sz es xs)(hs:Sub S S')
    (hS:∀b,tM v=some b->∀(o:Nat)u,w.cell? ⟨b,o,none⟩=some u->u.oneCell'=true->S' ⟨b,o,none⟩=some u):V S' (.lst es) v:=by
  by_cases l:es=[]
  · subst l
    obtain⟨a,c,rfl, -⟩:=k.hdr
    exact .nil a c
  have f:0<es.length:=List.length_pos_iff.2 l
  have hm:=k.wj f
  obtain⟨g,c,rfl⟩:=vk hm f
  have t:=own0_at hm f
  have hc:=hm.cells rfl
  have hle:es.length<=c:=by
    obtain⟨a,y,e,h⟩:=k.hdr
    cases e;exact h
  refine V.lst es g 0 c sz (λi j=>xs.getD (i*sz+j) default) hle hf.len (λi x j q hi p=>?_) (λi x j q hi p=>?_)
  · obtain⟨u,h1,r⟩:=hf.cell i x j q hi p
    rw [Fx,h1]
    have:=hc _ _ h1
    rw [uC, <-Nat.add_assoc]at this
    exact hS g t _ _ this (hf.one _ (E1 h1))
  · obtain⟨u,h1,r⟩:=hf.cell i x j q hi p
    rw [Fx,h1]
    exact r.mono hs
theorem flat_one{S:tG}{c:av}{v:Value}(h1:v.oneCell'=true)(f:V S (.lst (c.bF.map bi.pd)) v):
    Flat S 5 [c.pd] [.string ⟨c.az.bI.toArray⟩,.string ⟨c.az.bB.toArray⟩,.string ⟨c.az.bg.toArray⟩,.string ⟨c.az.bL.toArray⟩,v]:=by
  refine⟨λe he=>?_,λu hu=>?_,λi e j x hi a=>?_⟩
  · rw [List.mem_singleton.1 he];rfl
  · simp only [List.mem_cons,List.not_mem_nil,or_false]at hu
    rcases hu with rfl|rfl|rfl|rfl|rfl
    · rfl
    · rfl
    · rfl
    · rfl
    · exact h1
  · match i,hi with
    |0,hi=>
      cases hi
      match j,a with
      |0,a=>cases a;exact⟨_,rfl,.str _⟩
      |1,a=>cases a;exact⟨_,rfl,.str _⟩
      |2,a=>cases a;exact⟨_,rfl,.str _⟩
      |3,a=>cases a;exact⟨_,rfl,.str _⟩
      |4,a=>cases a;exact⟨_,rfl,f⟩
      |j+5,a=>cases a
    |i+1,hi=>cases hi
theorem innerFlatB{S S':tG}(hs:Sub S S'){w:World}{l:List CV}{xs:List Value}{bs:List Nat}(h:Inner w l xs bs):(∀b∈bs,∀(o:Nat)u,w.cell? ⟨b,o,none⟩=some u->u.oneCell'=true->S' ⟨b,o,none⟩=some u)->
    ∀cs:List av,cs.length=l.length->(∀(k:Nat)c x,cs[k]? =some c->l[k]? =some x->Lies S c x)->Flat S' 5 (cs.map av.pd) xs:=by
  induction h with
  |nil=>
    intro _ cs j _
    obtain rfl:=List.eq_nil_of_length_eq_zero j
    exact flat_nil S' 5
  | @cons x l xs bs v y E C=>
    intro t cs j f
    cases cs with
    |nil=>cases j
    |cons c cs=>
      have g:=f 0 c x rfl rfl
      have B:V S' (.lst (c.bF.map bi.pd)) v:=by
        refine vrowB (S:=S) (w:=w) (e:=75) (sz:=8) (xs:=x.ys) (by rw [Fh, <-g.lM];exact y) g.lYS hs λb q=>t b (by simp [q])
      have h1:v.oneCell'=true:=by obtain⟨a,r,rfl, -⟩:=y.hdr;rfl
      have:=Flat.append (flat_one h1 B) zb (C (λb p=>t b (List.mem_append.2 (.inr p))) cs (by simpa using j) λk r D h1 z=>f (k+1) r D (by simpa using h1) (by simpa using z))
      rw [g.lS0,g.lS1,g.lS2,g.lS3]
      exact this
noncomputable def lZ (S:tG) (w:World) (bs:List Nat):tG:=λad=>match S ad with|some v=>some v|none=>if ad.block∈bs∧ad.spot=none then(w.cell? ad).bind λv=>if v.oneCell'=true then some v else none else none
theorem addBlks_sub(S:tG)(w:World)(bs:List Nat):Sub S (lZ S w bs):=λad v h=>by simp [lZ,h]
theorem addBlks_at{S:tG}{w:World}{bs:List Nat}{b o:Nat}{u:Value}(hS:S ⟨b,o,none⟩=none)(a:b∈bs)(h:w.cell? ⟨b,o,none⟩=some u)(h1:u.oneCell'=true):lZ S w bs ⟨b,o,none⟩=some u:=by
  simp [lZ,hS,a,h,h1]
theorem od{S:tG}{w:World}{bs:List Nat}{ad:Addr}{v:Value}(h:lZ S w bs ad=some v):S ad=some v∨(ad.block∈bs∧ad.spot=none∧w.cell? ad=some v∧v.oneCell'=true):=by
  unfold lZ at h
  cases hS:S ad with
  |some u=>rw [hS]at h;exact .inl h
  |none=>
    rw [hS]at h
    simp only at h
    split at h
    · rename_i hc
      obtain⟨u,h1,a⟩:=Option.bind_eq_some_iff.1 h
      split at a
      · rename_i ho
        cases a
        exact .inr ⟨hc.1,hc.2,h1,ho⟩
      · cases a
    · cases h
theorem flatSetB{S:tG}{sz o:Nat}{E g p:PD}{rs:List PD}{ys:List Value}{y:Value}(h:Flat S sz (E::rs) ys)(he:g.cells=E.cells.set o p)(l:V S p y)(h1:y.oneCell'=true)(ho:o<sz):Flat S sz (g::rs) (ys.set o y):=by
  have k:E.cells.length=sz:=h.len E zb
  refine⟨λc hm=>?_,λu hu=>?_,λi c j x hi a=>?_⟩
  · rcases List.mem_cons.1 hm with rfl|hm
    · rw [he,Hx,k]
    · exact h.len c (by simp [hm])
  · rcases List.mem_or_eq_of_mem_set hu with hu|rfl
    · exact h.one u hu
    · exact h1
  · cases i with
    |zero=>
      cases hi
      rw [he]at a
      by_cases f:j=o
      · subst f
        rw [EY za]at a
        cases a
        obtain⟨u,g1,g2⟩:=h.cell 0 E j _ rfl (ze za)
        rw [Iq,EJ]at g1
        exact⟨y,by rw [Iq,EJ,EY (List.getElem?_eq_some_iff.1 g1).1],l⟩
      · rw [EX za]at a
        obtain⟨u,g1,g2⟩:=h.cell 0 E j _ rfl a
        exact⟨u,by rw [EX za];exact g1,g2⟩
    |succ i=>
      obtain⟨u,g1,g2⟩:=h.cell (i+1) c j x hi a
      have:sz<=(i+1)*sz:=Nat.le_mul_of_pos_left sz za
      exact⟨u,by rw [EX za];exact g1,g2⟩
theorem memStepB{P:Program}{S:tG}{loc:ui}{c:tY}{w w':World}(h:Mem P S loc c w)(hs:Step none w w'):Mem P S loc c w':=by
  refine⟨λid g a=>?_,h.dom,λad v j=>?_,h.wU,h.vV,h.inj⟩
  · obtain⟨L,h1,f⟩:=h.boxes id g a
    exact⟨L,h1,f.j0 (Sub.refl S) (tO.refl loc) λb a=>hs.block b (f.wH a) zb⟩
  · have h1:=h.imm ad v j
    rw [<-h1]
    simp only [World.cell?]
    rw [hs.block _ (wF h1) zb]
theorem ext0_ok(base:wX):zJ Tryz.prog base ext0:=λf g h=>by cases h
theorem mixedB:Tryz.prog.follows .mixedOrders=true:=by kernel_rfl
theorem enters29:Enters Tryz.prog 29:=⟨Tryz.f29,Tryz.func29,by decide+kernel,by kernel_rfl⟩
theorem enters12:Enters Tryz.prog 12:=⟨Tryz.f12,Tryz.func12,by decide+kernel,by kernel_rfl⟩
theorem n_calls{base:wX}{S:tG}{w:World}{ls:List Loc}{d:ah}{n:Int}{y:Int×ah}(q:dS n d=some y)(g:Mem Tryz.prog S (look ls) (look (pG d)) w)(t:ls.length=1)(r:Sub base.snap S)
    (j:∀x∈base.objs,w.heap[x.1]? =some x.2∧∃o v,base.snap ⟨x.1,o,none⟩=some v) {k:Nat} (l:look ls 0=some (.var k)):
    Calls Tryz.prog 29 #[.pointer (some ⟨k,0,none⟩),.int .i64 n] w λe w'=>e= .returned (.int .i64 y.1)∧∃S' c,yj Tryz.prog base.mono S w ls 1 (.d (.int .i64 y.1)) (pG y.2) (.int .i64 y.1) w' S' c:=by
  have hc := (Ev.B8 (base := base) (ext0_ok base) mixedB (Src_N_evB q)) S w ls #[.pointer (some ⟨k, 0, none⟩), .int .i64 n] g t r j rfl (λi a v h1 f => by
    match i,h1,f with
    |0,h1,f=>cases h1;cases f;exact .ptr 0 0 _ (.var k) rfl l λb=>⟨λe=>by cases e;rfl,λe=>by cases e⟩
    |1,h1,f=>cases h1;cases f;exact .d (.int _ _)
    |i+2,h1,f=>cases h1)
  refine(hc.calls enters29).mono ?_
  rintro e w' ⟨v,rfl,S',c,p⟩
  obtain rfl:v= .int .i64 y.1:=by
    cases p.res with
    |d u=>cases u;rfl
  exact⟨rfl,S',c,p⟩
theorem var_of{P:Program}{S:tG}{loc:ui}{w:World}{cs:List RV}{L:Loc}(h:xa P S loc w (.var cs) L):∃b,L= .var b:=by
  cases h;exact⟨_,rfl⟩
theorem rx{P:Program}{E:Prop}{S S':tG}{w w':World}{ls a:List Loc}{r:RV}{v:Value}{d:ah}{c:Nat}(h:yj P E S w ls 1 r (pG d) v w' S' a)(j:look ls 0=some (.var c)):a=[.var c]:=by
  have h1:=h.len
  obtain⟨k,f,g⟩:=h.le 0 _ j
  match a,h1 with
  | [L],_=>
    cases f
    obtain⟨l,g1,g2⟩:=h.mem.boxes 0 _ rfl
    cases g1
    obtain⟨b,rfl⟩:=var_of g2
    cases g
    rfl
theorem oC{a b:Nat}:b∈AV [Loc.var a]↔b=a:=by
  rw [w4]
  constructor
  · rintro⟨k,L,h1,c⟩
    match k,h1 with
    |0,h1=>cases h1;exact(Option.some.inj c).symm
  · rintro rfl
    exact⟨0,_,rfl,rfl⟩
theorem bentV_okW(base:wX){a:ag}{d:ah}{y:ag×ah}(h:bentW a d=some y):
    uM Tryz.prog base 12 [.ptr 0 0,.d (ag.pd a)] (pG d) (.d (ag.pd y.1)) (pG y.2):=by
  unfold bentW at h
  split at h
  rotate_left
  · cases h
  rename_i hc
  obtain⟨hlen,c3⟩:=hc
  obtain⟨x,hx,h⟩:=Option.bind_eq_some_iff.1 h
  obtain⟨z,hz,h⟩:=Option.bind_eq_some_iff.1 h
  split at h
  rotate_left
  · cases h
  rename_i c a9
  split at h
  rotate_left
  · cases h
  rename_i e r b3
  split at h
  rotate_left
  · cases h
  rename_i b0
  obtain⟨h0,c8⟩:=b0
  cases h
  obtain⟨k,hk⟩:∃k:Nat,x.1=k:=⟨x.1.toNat,za⟩
  rw [hk,Int.toNat_natCast]at a9
  rw [hk,Int.toNat_natCast]
  intro S w ls vs E b5 I c4 b6 a6
  obtain⟨L0,rfl⟩:∃L0,ls=[L0]:=by
    match ls,b5 with
    | [a],_=>exact⟨a,rfl⟩
  obtain⟨v0,v1,rfl⟩:∃v0 v1,vs= #[v0,v1]:=by
    obtain⟨q⟩:=vs
    match q,b6 with
    | [a,b],_=>exact⟨a,b,rfl⟩
  obtain⟨L,hL,hB⟩:=E.boxes 0 _ rfl
  cases hL
  obtain⟨G,rfl⟩:=var_of hB
  have c6:G<w.heap.size:=hB.wH (show Loc.has (.var G) G from rfl)
  obtain rfl:v0= .pointer (some ⟨G,0,none⟩):=by
    cases a6 0 _ v0 rfl rfl with
    |ptr _ _ _ L ho hL hh=>cases hL;exact(hh G).1 rfl
  obtain⟨u,rfl,hu⟩:∃u,v1= .agg #[u]∧V S (.lst (a.bp.map av.pd)) u:=by
    cases a6 1 _ v1 rfl rfl with
    |d t=>
      cases t with
      |agg _ vs hl hh=>
        obtain⟨q⟩:=vs
        match q,hl with
        | [u],_=>exact⟨u,rfl,hh 0 _ u rfl rfl⟩
  obtain⟨ad,cc,rfl,l,hl,O⟩:=lies_at hu E.wU c3
  obtain⟨xk,c7,J,d2, -⟩:=O k c a9
  have hm:xk.m=r.length+1:=by rw [J.lM,b3];rfl
  have a8:∀(j:Nat)p,e.pd.cells[j]? =some p->∃u,xk.ys[j]? =some u∧V S p u:=λj p hp=>by
    obtain⟨u,h1,g⟩:=J.lYS.cell 0 e.pd j p (by rw [b3];rfl) hp
    exact⟨u,by simpa using h1,g⟩
  have d1:xk.ys[1]? =some (.int .i64 e.fTo):=by
    obtain⟨u,h1,g⟩:=a8 1 _ rfl
    cases g
    exact h1
  obtain⟨o,yv,hj⟩:∃(o:Nat)(yv:Value),(z.1=1∧o=0∧yv= .int .i64 e.fTo)∨(z.1=2∧o=4∧yv= .int .i64 1048577):=by
    rcases c8 with h|h
    · exact⟨0,_,.inl ⟨h,rfl,rfl⟩⟩
    · exact⟨4,_,.inr ⟨h,rfl,rfl⟩⟩
  have W:∀N:World,(∀b:Nat,b<w.heap.size->b≠G->N.heap[b]? =w.heap[b]?)->∀x∈base.objs,N.heap[x.1]? =some x.2∧∃o v,base.snap ⟨x.1,o,none⟩=some v:=λN hw x hx=>by
    obtain⟨h1,o,v,g⟩:=c4 x hx
    refine⟨?_,o,v,g⟩
    have K:x.1≠G:=λe=>by
      have:=E.vV 0 _ G rfl (show Loc.has (.var G) G from rfl) o
      rw [<-e,I _ _ g]at this
      cases this
    rw [hw _ (Array.getElem?_eq_some_iff.1 h1).1 K]
    exact h1
  have hW := bent_walk S G ad l cc w (by rw [hl]; exact hlen) c6 E.imm (λq xq hq => by
      have d0:q<a.bp.length:=by rw [<-hl];exact(List.getElem?_eq_some_iff.1 hq).1
      obtain⟨x',g1, -,g2,g3⟩:=O q _ (ze d0)
      rw [hq]at g1
      cases g1
      exact⟨g2,g3⟩) c7 za d1 hj
    (B1:=λN w2=>∃S1 F,yj Tryz.prog base.mono S N [.var G] 1 (.d (.int .i64 x.1)) (pG x.2) (.int .i64 x.1) w2 S1 F)
    (B2:=λN w2 w3=>∃S1 F H a5,yj Tryz.prog base.mono S N [.var G] 1 (.d (.int .i64 x.1)) (pG x.2) (.int .i64 x.1) w2 S1 F∧yj Tryz.prog base.mono S1 w2 F 1 (.d (.int .i64 z.1)) (pG z.2) (.int .i64 z.1) w3 H a5)
    (λN X => by
      have:=n_calls (base:=base) (w:=N) hx (memStepB E X) rfl I (W N λb C _=>X.block b C zb) rfl
      rw [hl, <-hk]
      exact this)
    (λN w2⟨S1,F,B⟩=>⟨B.frame.size,λb C K=>B.frame.block b C λhm=>K (oC.1 hm)⟩)
    (λN w2 X ⟨S1, F, B⟩ => by
      have c0:=rx B rfl
      subst c0
      refine(n_calls (base:=base) (w:=w2) hz B.mem rfl (I.trans B.sub) (W w2 λb C K=>?_) rfl).mono ?_
      · rw [B.frame.block b (Nat.lt_of_lt_of_le C X.size) (λhm=>K (oC.1 hm)),X.block b C zb]
      · rintro e w3 ⟨rfl,H,a5,f⟩
        exact⟨rfl,S1,_,H,a5,B,f⟩)
    (λN w2 w3 ⟨S1, F, H, a5, B, f⟩ => by
      have c0:=rx B rfl
      subst c0
      exact⟨f.frame.size,λb C K=>f.frame.block b C λhm=>K (oC.1 hm)⟩)
  rw [hl]at hW
  refine .inl ⟨enters12,hW.mono ?_⟩
  rintro en w' ⟨wr,w2,w3,hdr,xs,bs,rfl,D⟩
  obtain⟨S1,F,H,a5,B,f⟩:=D.b2
  obtain rfl:=rx B rfl
  obtain rfl:=rx f rfl
  have z1:=D.step.size
  have z2:=B.frame.size
  have z3:=f.frame.size
  have a7:∀ad v,H ad=some v->S ad=some v∨(ad.block<w.heap.size∨wr.heap.size<=ad.block)∧(w.heap.size<=ad.block∨ad.block=G):=λad v t=>by
    rcases f.yi ad v t with t|t|t
    · rcases B.yi ad v t with t|t|t
      · exact .inl t
      · exact .inr ⟨.inr t,.inl za⟩
      · have:=oC.1 t
        exact .inr ⟨.inl za,.inr this⟩
    · exact .inr ⟨.inr za,.inl za⟩
    · have:=oC.1 t
      exact .inr ⟨.inl za,.inr this⟩
  have c2:∀ad v,S ad=some v->ad.block<w.heap.size:=λad v t=>wF (E.imm ad v t)
  have c9:∀b∈(tM hdr).toList++bs,∀o,H ⟨b,o,none⟩=none:=λb C o=>by
    have h1:=D.ge b C
    cases t:H ⟨b,o,none⟩with
    |none=>rfl
    |some v=>
      rcases a7 _ v t with h|h
      · have:=c2 _ _ h
        simp only at this
        omega
      · simp only at h
        omega
  have Y:Sub H (lZ H w' ((tM hdr).toList++bs)):=addBlks_sub _ _ _
  have T:∀b∈(tM hdr).toList++bs,∀(o:Nat)u,w'.cell? ⟨b,o,none⟩=some u->u.oneCell'=true->lZ H w' ((tM hdr).toList++bs) ⟨b,o,none⟩=some u:=λb C o u h1 g=>addBlks_at (c9 b C o) C h1 g
  have c1:∀ad,ad.block<w.heap.size∨wr.heap.size<=ad.block->w'.cell? ad=w3.cell? ad:=λad h=>by simp only [World.cell?,D.same _ h]
  have Q:∀id L b,look [Loc.var G] id=some L->L.has b->b=G:=λid L b h1 g=>by
    match id,h1 with
    |0,h1=>cases h1;exact(Option.some.inj g).symm
    |id+1,h1=>cases h1
  have b4:Flat (lZ H w' ((tM hdr).toList++bs)) 5 ((a.bp.set k ⟨c.az,bentE z.1 e::r⟩).map av.pd) xs:=by
    refine innerFlatB (S:=S) ((B.sub.trans f.sub).trans Y) D.inn (λb C=>T b (List.mem_append.2 (.inr C))) _ (by simp [hl]) λq cq xq h1 g=>?_
    by_cases hq:q=k
    · subst hq
      have g1:=(List.getElem?_eq_some_iff.1 a9).1
      have g2:=(List.getElem?_eq_some_iff.1 c7).1
      rw [EY g1]at h1
      rw [EY g2]at g
      cases h1
      cases g
      refine⟨J.lS0,J.lS1,J.lS2,J.lS3,hm,?_⟩
      have hf:=J.lYS
      rw [b3]at hf
      rcases hj with⟨hz,rfl,rfl⟩|⟨hz,rfl,rfl⟩
      · exact flatSetB hf (p:= .int .i64 e.fTo) (by rw [hz];rfl) (.int _ _) rfl (by decide)
      · exact flatSetB hf (p:= .int .i64 1048577) (by rw [hz];rfl) (.int _ _) rfl (by decide)
    · rw [EX (λe=>hq e.symm)]at h1 g
      obtain⟨x',e1,e2, -⟩:=O q cq h1
      rw [g]at e1
      cases e1
      exact e2
  refine⟨_,rfl,lZ H w' ((tM hdr).toList++bs),[.var G],rfl,EB _,(B.sub.trans f.sub).trans Y,⟨λid bx C=>?_,f.mem.dom,λad v t=>?_,λad v t=>?_,λid L b h1 g o=>?_,f.mem.inj⟩,λad v t=>?_,tO.refl _,λk L b h1 g=>?_,⟨?_,?_,?_,?_,λb h1 g=>?_,λhm=>?_⟩,?_⟩
  · obtain⟨L,h1,g⟩:=f.mem.boxes id bx C
    refine⟨L,h1,g.j0 Y (tO.refl _) λb C=>?_⟩
    obtain rfl:=Q id L b h1 C
    exact D.same _ (.inl c6)
  · rcases od t with h|h
    · have h1:=f.mem.imm ad v h
      rw [<-h1]
      refine c1 ad ?_
      rcases a7 ad v h with h|h
      · exact .inl (c2 _ _ h)
      · exact h.1
    · exact h.2.2.1
  · rcases od t with h|h
    · exact f.mem.wU ad v h
    · exact h.2.2.2
  · obtain rfl:=Q id L b h1 g
    cases t:lZ H w' ((tM hdr).toList++bs) ⟨b,o,none⟩with
    |none=>rfl
    |some v=>
      rcases od t with h|h
      · rw [f.mem.vV id L b h1 g o]at h
        cases h
      · have:=D.ge _ h.1
        simp only at this
        omega
  · rcases od t with h|h
    · rcases a7 ad v h with h|h
      · exact .inl h
      · rcases h.2 with h|h
        · exact .inr (.inl h)
        · exact .inr (.inr (oC.2 h))
    · have:=D.ge _ h.1
      exact .inr (.inl za)
  · exact .inl (oC.2 (Q k L b h1 g))
  · rw [D.os,f.frame.os,B.frame.os,D.step.os]
  · rw [D.tape,f.frame.tape,B.frame.tape,D.step.tape]
  · rw [D.output,f.frame.output,B.frame.output,D.step.output]
  · rw [D.size];omega
  · rw [D.same b (.inl h1),f.frame.block b za g,B.frame.block b za g,D.step.block b h1 zb]
  · exact EO D.step.drawn (EO (B.frame.drawn hm) (EO (f.frame.drawn hm) D.drawn))
  · refine .d (.agg _ _ rfl λi p v h1 g=>?_)
    match i,h1,g with
    |0,h1,g=>
      cases h1
      cases g
      have c5:=D.row
      refine vrowB (S:=lZ H w' ((tM hdr).toList++bs)) (w:=w') (e:=67) (sz:=5) (xs:=xs) (by rw [Fh,Hx];exact c5) b4 (Sub.refl _) λb(C:tM hdr=some b)=>T b (List.mem_append.2 (.inl (by rw [C];exact List.mem_singleton.2 rfl)))
    |i+1,h1,g=>cases h1
theorem bentV_ok(base:wX){a:ag}{d:ah}{y:ag×ah}(h:dT a d=some y):
    uM Tryz.prog base 12 [.ptr 0 0,.d (ag.pd a)] (pG d) (.d (ag.pd y.1)) (pG y.2):=by
  unfold dT at h
  split at h
  · rename_i r c
    cases h
    exact Ev.B8 (base:=base) (ext0_ok base) mixedB (Src_BentP_evB c)
  · exact bentV_okW base h
theorem bentD_ok(base:wX):∀args bs r c,bentD 12 args bs=some (r,c)->uM Tryz.prog base 12 args bs r c:=λargs bs r c h=>by
  obtain⟨a,d,y,rfl,rfl,f,rfl,rfl⟩:=bentD_some h
  exact bentV_ok base f
end Go.Dw.Ef
