
import Derived.Test.YtikangmionpjfaaGreatSsBenE
import Derived.Test.YtikangmionpjfaaGreatSsBenW
import Derived.Test.YtikangmionpjfaaGreatDwFun
open Nat renaming le_refl->B6, le_trans->CJ, mul_comm->Cl, zero_add->CF, zero_mul->Ff
open List renaming getD_eq_getElem?_getD->D7, getElem?_map->Cm, getElem?_set_ne->CR, getElem?_set_self->CS, length_map->DT, length_set->Dc, mem_of_getElem?->CW

set_option maxRecDepth 100000
set_option maxHeartbeats 4000000
namespace Go.Dw.Ss
open Go.Proofs Go.Dw
theorem flat_nil(S:pr)(sz:Nat):Flat S sz [] []:=⟨nofun,nofun,fun i e j x hi=>by simp at hi⟩
theorem vstrB{S:pr}{s:List UInt8}{v:Value}(h:V S (.str s) v):v= .string ⟨s.toArray⟩:=by cases h;rfl
theorem vcellsB{S:pr}{es:List PD}{u:Value}{sz:Nat}(h:V S (.lst es) u)(k:∀e∈es,e.cells.length=sz)(I:0<sz)(B:∀ad v,S ad=some v->v.oneCell'=true):
    ∃ad c ys,u= .slice ad es.length c∧Flat S sz es ys∧ys.length=es.length*sz∧(es≠ []->∃b,ad=some b∧∀(j:Nat)v,ys[j]? =some v->S (b.add j)=some v):=by
  cases h with
  |nil a c=>exact⟨a,c,[],rfl,flat_nil S sz,sm,fun h=>(h rfl).elim⟩
  |lst _ b o c g f hc F hS hV=>
    by_cases t:es=[]
    · subst t
      exact⟨some ⟨b,o,none⟩,c,[],rfl,flat_nil S sz,sm,fun h=>(h rfl).elim⟩
    have N:g=sz:=by
      cases es with
      |nil=>exact(t rfl).elim
      |cons e r=>rw [<-F e sm,k e sm]
    subst N
    have l:∀q,q<es.length*g->∃e x,es[q / g]? =some e∧e.cells[q%g]? =some x:=fun q C=>by
      have h1:q / g<es.length:=Nat.div_lt_of_lt_mul (by rw [Cl];exact C)
      have p:=k _ (List.getElem_mem h1)
      have K:q%g<(es[q / g]).cells.length:=by rw [p];exact Nat.mod_lt _ I
      exact⟨_,_,zd h1,zd K⟩
    refine⟨some ⟨b,o,none⟩,c,(List.range (es.length*g)).map fun q=>f (q / g) (q%g),rfl,⟨k,fun v L=>?_,fun i e j x hi y=>?_⟩,sm,fun _=>⟨_,rfl,fun j v y=>?_⟩⟩
    · obtain⟨q,C,rfl⟩:=List.mem_map.1 L
      obtain⟨e,x,h1,p⟩:=l q (List.mem_range.1 C)
      exact B _ _ (hS _ _ _ _ h1 p)
    · have z:j<g:=by rw [<-k e (CW hi)];exact(List.getElem?_eq_some_iff.1 y).1
      have G:i<es.length:=(List.getElem?_eq_some_iff.1 hi).1
      have H:i*g+j<es.length*g:=by
        calc i*g+j<i*g+g:=by omega
          _=(i+1)*g:=by rw [Nat.add_mul,Nat.one_mul]
          _<=es.length*g:=Nat.mul_le_mul_right _ G
      have J:(i*g+j) / g=i:=by rw [Cl,Nat.mul_add_div I,Nat.div_eq_of_lt z,Nat.add_zero]
      have e2:(i*g+j)%g=j:=by rw [Cl,Nat.mul_add_mod,Nat.mod_eq_of_lt z]
      refine⟨f i j,?_,hV i e j x hi y⟩
      rw [Cm,List.getElem?_range H,Option.map_some,J,e2]
    · rw [Cm,Option.map_eq_some_iff]at y
      obtain⟨q,C,rfl⟩:=y
      obtain⟨E,D⟩:=List.getElem?_eq_some_iff.1 C
      simp only [List.getElem_range]at D
      subst D
      rw [List.length_range]at E
      obtain⟨e,x,h1,p⟩:=l j E
      have:=hS _ _ _ _ h1 p
      rw [qg, <-this]
      congr 2
      have:=Nat.div_add_mod j g
      rw [Cl]at this
      omega
structure Lies(S:pr)(c:aq)(x:CV):Prop where
  lS0:x.s0=⟨c.bc.bH.toArray⟩
  lS1:x.s1=⟨c.bc.bv.toArray⟩
  lS2:x.s2=⟨c.bc.bd.toArray⟩
  lS3:x.s3=⟨c.bc.bL.toArray⟩
  lM:x.m=c.bA.length
  lYS:Flat S 8 (c.bA.map ba.pd) x.ys
theorem lies_at{S:pr}{cs:List aq}{u:Value}(h:V S (.lst (cs.map aq.pd)) u)(r:∀ad v,S ad=some v->v.oneCell'=true)(hle:∀c∈cs,c.bA.length<=1000):
    ∃ad cc,u= .slice ad cs.length cc∧∃l:List CV,l.length=cs.length∧∀(k:Nat)c,cs[k]? =some c->∃x,l[k]? =some x∧Lies S c x∧CVOk S x∧∃b o,ad=some ⟨b,o,none⟩∧∀(j:Nat)v,x.vs[j]? =some v->S ⟨b,o+k*5+j,none⟩=some v:=by
  have H:∀e∈cs.map aq.pd,e.cells.length=5:=fun e he=>by
    obtain⟨c, -,rfl⟩:=List.mem_map.1 he
    rfl
  have step:∀(k:Nat)c,cs[k]? =some c->∃x,Lies S c x∧CVOk S x∧∃b o,(∃n cc,u= .slice (some ⟨b,o,none⟩) n cc)∧∀(j:Nat)v,x.vs[j]? =some v->S ⟨b,o+k*5+j,none⟩=some v:=fun k c hk=>by
    have q:(cs.map aq.pd)[k]? =some c.pd:=by rw [Cm,hk];rfl
    generalize I:cs.map aq.pd=ps at h q H
    cases h with
    |nil a cc=>simp at q
    |lst _ b o cc sz f hc D hS hV=>
      have J:sz=5:=by rw [<-D _ (CW q)];rfl
      subst J
      have s:=fun j x g=>hS k _ j x q g
      have v:=fun j x g=>hV k _ j x q g
      have v0:=v 0 _ rfl
      have v1:=v 1 _ rfl
      have v2:=v 2 _ rfl
      have v3:=v 3 _ rfl
      have v4:=v 4 _ rfl
      have s0:=s 0 _ rfl
      have s1:=s 1 _ rfl
      have s2:=s 2 _ rfl
      have s3:=s 3 _ rfl
      have L:=s 4 _ rfl
      obtain⟨ad,F,ys,G,hf,z,C⟩:=vcellsB (sz:=8) v4 (fun e he=>by obtain⟨c, -,rfl⟩:=List.mem_map.1 he;rfl) (by decide) r
      rw [DT]at G z
      refine⟨⟨⟨c.bc.bH.toArray⟩,⟨c.bc.bv.toArray⟩,⟨c.bc.bd.toArray⟩,⟨c.bc.bL.toArray⟩,ad,c.bA.length,F,ys⟩,⟨rfl,rfl,rfl,rfl,rfl,hf⟩,⟨z,hle c (CW hk),hf.one,fun hm=>C (by simpa using fun e=>hm (by simp [e]))⟩,b,o,⟨_,_,rfl⟩,fun j w g=>?_⟩
      have g0:f k 0= .string ⟨c.bc.bH.toArray⟩:=vstrB v0
      have g1:f k 1= .string ⟨c.bc.bv.toArray⟩:=vstrB v1
      have g2:f k 2= .string ⟨c.bc.bd.toArray⟩:=vstrB v2
      have g3:f k 3= .string ⟨c.bc.bL.toArray⟩:=vstrB v3
      match j,g with
      |0,g=>cases g;rw [<-g0];exact s0
      |1,g=>cases g;rw [<-g1];exact s1
      |2,g=>cases g;rw [<-g2];exact s2
      |3,g=>cases g;rw [<-g3];exact s3
      |4,g=>cases g;show S _=some (.slice ad c.bA.length F);rw [<-G];exact L
      |j+5,g=>cases g
  obtain⟨ad,cc, -,rfl, -, -, -⟩:=vcellsB (sz:=5) h H (by decide) r
  rw [DT]
  refine⟨ad,cc,rfl,?_⟩
  have key:∀n,n<=cs.length->∃l:List CV,l.length=n∧∀(k:Nat)c,k<n->cs[k]? =some c->∃x,l[k]? =some x∧Lies S c x∧CVOk S x∧∃b o,ad=some ⟨b,o,none⟩∧∀(j:Nat)v,x.vs[j]? =some v->S ⟨b,o+k*5+j,none⟩=some v:=fun n=>by
    induction n with
    |zero=>exact fun _=>⟨[],rfl,fun k c hk=>za⟩
    |succ n K=>
      intro X
      obtain⟨l,B,p⟩:=K za
      obtain⟨c,hc⟩:∃c,cs[n]? =some c:=⟨cs[n],zd za⟩
      obtain⟨x,N,O,b,o,⟨Y,E,he⟩,Q⟩:=step n c hc
      cases he
      refine⟨l++[x],by simp [B],fun k E hk t=>?_⟩
      by_cases e:k=n
      · subst e
        rw [hc]at t
        cases t
        exact⟨x,by rw [List.getElem?_append_right za,B];simp,N,O,b,o,rfl,Q⟩
      · obtain⟨y,T,W⟩:=p k E za t
        exact⟨y,by rw [List.getElem?_append_left za];exact T,W⟩
  obtain⟨l,B,p⟩:=key cs.length (B6 _)
  exact⟨l,B,fun k c hk=>p k c (List.getElem?_eq_some_iff.1 hk).1 hk⟩
theorem vrowB{S S':pr}{w:World}{e:TypeId}{sz:Nat}{v:Value}{xs:List Value}{es:List PD}(k:rowAt w e sz v es.length xs)(hf:Flat S sz es xs)(hs:Sub S S')
    (hS:∀b,pB v=some b->∀(o:Nat)u,w.cell? ⟨b,o,none⟩=some u->u.oneCell'=true->S' ⟨b,o,none⟩=some u):V S' (.lst es) v:=by
  by_cases l:es=[]
  · subst l
    obtain⟨a,c,rfl, -⟩:=k.hdr
    exact .nil a c
  have f:0<es.length:=List.length_pos_iff.2 l
  have hm:=k.rz f
  obtain⟨g,c,rfl⟩:=qH hm f
  have t:=own0_at hm f
  have hc:=hm.cells rfl
  have hle:es.length<=c:=by
    obtain⟨a,y,e,h⟩:=k.hdr
    cases e;exact h
  refine V.lst es g 0 c sz (fun i j=>xs.getD (i*sz+j) default) hle hf.len (fun i x j q hi p=>?_) (fun i x j q hi p=>?_)
  · obtain⟨u,h1,r⟩:=hf.cell i x j q hi p
    rw [D7,h1]
    have:=hc _ _ h1
    rw [qg, <-Nat.add_assoc]at this
    exact hS g t _ _ this (hf.one _ (CW h1))
  · obtain⟨u,h1,r⟩:=hf.cell i x j q hi p
    rw [D7,h1]
    exact r.mono hs
theorem flat_one{S:pr}{c:aq}{v:Value}(h1:v.oneCell'=true)(f:V S (.lst (c.bA.map ba.pd)) v):
    Flat S 5 [c.pd] [.string ⟨c.bc.bH.toArray⟩,.string ⟨c.bc.bv.toArray⟩,.string ⟨c.bc.bd.toArray⟩,.string ⟨c.bc.bL.toArray⟩,v]:=by
  refine⟨fun e he=>?_,fun u hu=>?_,fun i e j x hi a=>?_⟩
  · rw [List.mem_singleton.1 he];rfl
  · simp only [List.mem_cons,List.not_mem_nil,or_false]at hu
    rcases hu with rfl|rfl|rfl|rfl|rfl
    · rfl
    · rfl
    · rfl
    · rfl
    · exact h1
  · match i,hi with
    |0,hi=>
      cases hi
      match j,a with
      |0,a=>cases a;exact⟨_,rfl,.str _⟩
      |1,a=>cases a;exact⟨_,rfl,.str _⟩
      |2,a=>cases a;exact⟨_,rfl,.str _⟩
      |3,a=>cases a;exact⟨_,rfl,.str _⟩
      |4,a=>cases a;exact⟨_,rfl,f⟩
      |j+5,a=>cases a
    |i+1,hi=>cases hi
theorem innerFlatB{S S':pr}(hs:Sub S S'){w:World}{l:List CV}{xs:List Value}{bs:List Nat}(h:Inner w l xs bs):(∀b∈bs,∀(o:Nat)u,w.cell? ⟨b,o,none⟩=some u->u.oneCell'=true->S' ⟨b,o,none⟩=some u)->
    ∀cs:List aq,cs.length=l.length->(∀(k:Nat)c x,cs[k]? =some c->l[k]? =some x->Lies S c x)->Flat S' 5 (cs.map aq.pd) xs:=by
  induction h with
  |nil=>
    intro _ cs j _
    obtain rfl:=List.eq_nil_of_length_eq_zero j
    exact flat_nil S' 5
  | @cons x l xs bs v y E C=>
    intro t cs j f
    cases cs with
    |nil=>cases j
    |cons c cs=>
      have g:=f 0 c x rfl rfl
      have B:V S' (.lst (c.bA.map ba.pd)) v:=by
        refine vrowB (S:=S) (w:=w) (e:=89) (sz:=8) (xs:=x.ys) (by rw [DT, <-g.lM];exact y) g.lYS hs fun b q=>t b (by simp [q])
      have h1:v.oneCell'=true:=by obtain⟨a,r,rfl, -⟩:=y.hdr;rfl
      have:=Flat.append (flat_one h1 B) sm (C (fun b p=>t b (List.mem_append.2 (.inr p))) cs (by simpa using j) fun k r D h1 z=>f (k+1) r D (by simpa using h1) (by simpa using z))
      rw [g.lS0,g.lS1,g.lS2,g.lS3]
      exact this
noncomputable def jr (S:pr) (w:World) (bs:List Nat):pr:=fun ad=>match S ad with|some v=>some v|none=>if ad.block∈bs∧ad.spot=none then(w.cell? ad).bind fun v=>if v.oneCell'=true then some v else none else none
theorem addBlks_sub(S:pr)(w:World)(bs:List Nat):Sub S (jr S w bs):=fun ad v h=>by simp [jr,h]
theorem addBlks_at{S:pr}{w:World}{bs:List Nat}{b o:Nat}{u:Value}(hS:S ⟨b,o,none⟩=none)(a:b∈bs)(h:w.cell? ⟨b,o,none⟩=some u)(h1:u.oneCell'=true):jr S w bs ⟨b,o,none⟩=some u:=by
  simp [jr,hS,a,h,h1]
theorem lC{S:pr}{w:World}{bs:List Nat}{ad:Addr}{v:Value}(h:jr S w bs ad=some v):S ad=some v∨(ad.block∈bs∧ad.spot=none∧w.cell? ad=some v∧v.oneCell'=true):=by
  unfold jr at h
  cases hS:S ad with
  |some u=>rw [hS]at h;exact .inl h
  |none=>
    rw [hS]at h
    simp only at h
    split at h
    · rename_i hc
      obtain⟨u,h1,a⟩:=Option.bind_eq_some_iff.1 h
      split at a
      · rename_i ho
        cases a
        exact .inr ⟨hc.1,hc.2,h1,ho⟩
      · cases a
    · cases h
theorem flatSetB{S:pr}{sz o:Nat}{E g p:PD}{rs:List PD}{ys:List Value}{y:Value}(h:Flat S sz (E::rs) ys)(he:g.cells=E.cells.set o p)(l:V S p y)(h1:y.oneCell'=true)(ho:o<sz):Flat S sz (g::rs) (ys.set o y):=by
  have k:E.cells.length=sz:=h.len E sm
  refine⟨fun c hm=>?_,fun u hu=>?_,fun i c j x hi a=>?_⟩
  · rcases List.mem_cons.1 hm with rfl|hm
    · rw [he,Dc,k]
    · exact h.len c (by simp [hm])
  · rcases List.mem_or_eq_of_mem_set hu with hu|rfl
    · exact h.one u hu
    · exact h1
  · cases i with
    |zero=>
      cases hi
      rw [he]at a
      by_cases f:j=o
      · subst f
        rw [CS za]at a
        cases a
        obtain⟨u,g1,g2⟩:=h.cell 0 E j _ rfl (zd za)
        rw [Ff,CF]at g1
        exact⟨y,by rw [Ff,CF,CS (List.getElem?_eq_some_iff.1 g1).1],l⟩
      · rw [CR za]at a
        obtain⟨u,g1,g2⟩:=h.cell 0 E j _ rfl a
        exact⟨u,by rw [CR za];exact g1,g2⟩
    |succ i=>
      obtain⟨u,g1,g2⟩:=h.cell (i+1) c j x hi a
      have:sz<=(i+1)*sz:=Nat.le_mul_of_pos_left sz za
      exact⟨u,by rw [CR za];exact g1,g2⟩
theorem memStepB{P:Program}{S:pr}{loc:pY}{c:pP}{w w':World}(h:Mem P S loc c w)(hs:Step none w w'):Mem P S loc c w':=by
  refine⟨fun id g a=>?_,h.dom,fun ad v j=>?_,h.ti,h.rK,h.inj⟩
  · obtain⟨L,h1,f⟩:=h.boxes id g a
    exact⟨L,h1,f.cI (Sub.refl S) (pD.refl loc) fun b a=>hs.block b (f.rq a) sm⟩
  · have h1:=h.imm ad v j
    rw [<-h1]
    simp only [World.cell?]
    rw [hs.block _ (sn h1) sm]
theorem ext0_ok(base:tR):xO Tryz.prog base ext0:=fun f g h=>by cases h
theorem mixedB:Tryz.prog.follows .mixedOrders=true:=by kernel_rfl
theorem enters32:Enters Tryz.prog 32:=⟨Tryz.f32,Tryz.func32,by decide+kernel,by kernel_rfl⟩
theorem enters12:Enters Tryz.prog 12:=⟨Tryz.f12,Tryz.func12,by decide+kernel,by kernel_rfl⟩
theorem n_calls{base:tR}{S:pr}{w:World}{ls:List Loc}{d:ag}{n:Int}{y:Int×ag}(q:cY n d=some y)(g:Mem Tryz.prog S (look ls) (look (mL d)) w)(t:ls.length=1)(r:Sub base.snap S)
    (j:∀x∈base.objs,w.heap[x.1]? =some x.2∧∃o v,base.snap ⟨x.1,o,none⟩=some v) {k:Nat} (l:look ls 0=some (.var k)):
    Calls Tryz.prog 32 #[.pointer (some ⟨k,0,none⟩),.int .i64 n] w fun e w'=>e= .returned (.int .i64 y.1)∧∃S' c,uZ Tryz.prog base.mono S w ls 1 (.d (.int .i64 y.1)) (mL y.2) (.int .i64 y.1) w' S' c:=by
  have hc := (Ev.zr (base := base) (ext0_ok base) mixedB (Src_N_evB q)) S w ls #[.pointer (some ⟨k, 0, none⟩), .int .i64 n] g t r j rfl (fun i a v h1 f => by
    match i,h1,f with
    |0,h1,f=>cases h1;cases f;exact .ptr 0 0 _ (.var k) rfl l fun b=>⟨fun e=>by cases e;rfl,fun e=>by cases e⟩
    |1,h1,f=>cases h1;cases f;exact .d (.int _ _)
    |i+2,h1,f=>cases h1)
  refine(hc.calls enters32).mono ?_
  rintro e w' ⟨v,rfl,S',c,p⟩
  obtain rfl:v= .int .i64 y.1:=by
    cases p.res with
    |d u=>cases u;rfl
  exact⟨rfl,S',c,p⟩
theorem var_of{P:Program}{S:pr}{loc:pY}{w:World}{cs:List RV}{L:Loc}(h:ta P S loc w (.var cs) L):∃b,L= .var b:=by
  cases h;exact⟨_,rfl⟩
theorem nV{P:Program}{E:Prop}{S S':pr}{w w':World}{ls a:List Loc}{r:RV}{v:Value}{d:ag}{c:Nat}(h:uZ P E S w ls 1 r (mL d) v w' S' a)(j:look ls 0=some (.var c)):a=[.var c]:=by
  have h1:=h.len
  obtain⟨k,f,g⟩:=h.le 0 _ j
  match a,h1 with
  | [L],_=>
    cases f
    obtain⟨l,g1,g2⟩:=h.mem.boxes 0 _ rfl
    cases g1
    obtain⟨b,rfl⟩:=var_of g2
    cases g
    rfl
theorem lU{a b:Nat}:b∈xF [Loc.var a]↔b=a:=by
  rw [tw]
  constructor
  · rintro⟨k,L,h1,c⟩
    match k,h1 with
    |0,h1=>cases h1;exact(Option.some.inj c).symm
  · rintro rfl
    exact⟨0,_,rfl,rfl⟩
theorem bentV_okW(base:tR){a:ac}{d:ag}{y:ac×ag}(h:bentW a d=some y):
    qI Tryz.prog base 12 [.ptr 0 0,.d (ac.pd a)] (mL d) (.d (ac.pd y.1)) (mL y.2):=by
  unfold bentW at h
  split at h
  rotate_left
  · cases h
  rename_i hc
  obtain⟨hlen,c3⟩:=hc
  obtain⟨x,hx,h⟩:=Option.bind_eq_some_iff.1 h
  obtain⟨z,hz,h⟩:=Option.bind_eq_some_iff.1 h
  split at h
  rotate_left
  · cases h
  rename_i c a9
  split at h
  rotate_left
  · cases h
  rename_i e r b3
  split at h
  rotate_left
  · cases h
  rename_i b0
  obtain⟨h0,c8⟩:=b0
  cases h
  obtain⟨k,hk⟩:∃k:Nat,x.1=k:=⟨x.1.toNat,za⟩
  rw [hk,Int.toNat_natCast]at a9
  rw [hk,Int.toNat_natCast]
  intro S w ls vs E b5 I c4 b6 a6
  obtain⟨L0,rfl⟩:∃L0,ls=[L0]:=by
    match ls,b5 with
    | [a],_=>exact⟨a,rfl⟩
  obtain⟨v0,v1,rfl⟩:∃v0 v1,vs= #[v0,v1]:=by
    obtain⟨q⟩:=vs
    match q,b6 with
    | [a,b],_=>exact⟨a,b,rfl⟩
  obtain⟨L,hL,hB⟩:=E.boxes 0 _ rfl
  cases hL
  obtain⟨G,rfl⟩:=var_of hB
  have c6:G<w.heap.size:=hB.rq (show Loc.has (.var G) G from rfl)
  obtain rfl:v0= .pointer (some ⟨G,0,none⟩):=by
    cases a6 0 _ v0 rfl rfl with
    |ptr _ _ _ L ho hL hh=>cases hL;exact(hh G).1 rfl
  obtain⟨u,rfl,hu⟩:∃u,v1= .agg #[u]∧V S (.lst (a.bg.map aq.pd)) u:=by
    cases a6 1 _ v1 rfl rfl with
    |d t=>
      cases t with
      |agg _ vs hl hh=>
        obtain⟨q⟩:=vs
        match q,hl with
        | [u],_=>exact⟨u,rfl,hh 0 _ u rfl rfl⟩
  obtain⟨ad,cc,rfl,l,hl,O⟩:=lies_at hu E.ti c3
  obtain⟨xk,c7,J,d2, -⟩:=O k c a9
  have hm:xk.m=r.length+1:=by rw [J.lM,b3];rfl
  have a8:∀(j:Nat)p,e.pd.cells[j]? =some p->∃u,xk.ys[j]? =some u∧V S p u:=fun j p hp=>by
    obtain⟨u,h1,g⟩:=J.lYS.cell 0 e.pd j p (by rw [b3];rfl) hp
    exact⟨u,by simpa using h1,g⟩
  have d1:xk.ys[1]? =some (.int .i64 e.fTo):=by
    obtain⟨u,h1,g⟩:=a8 1 _ rfl
    cases g
    exact h1
  obtain⟨o,yv,hj⟩:∃(o:Nat)(yv:Value),(z.1=1∧o=0∧yv= .int .i64 e.fTo)∨(z.1=2∧o=4∧yv= .int .i64 1048577):=by
    rcases c8 with h|h
    · exact⟨0,_,.inl ⟨h,rfl,rfl⟩⟩
    · exact⟨4,_,.inr ⟨h,rfl,rfl⟩⟩
  have W:∀N:World,(∀b:Nat,b<w.heap.size->b≠G->N.heap[b]? =w.heap[b]?)->∀x∈base.objs,N.heap[x.1]? =some x.2∧∃o v,base.snap ⟨x.1,o,none⟩=some v:=fun N hw x hx=>by
    obtain⟨h1,o,v,g⟩:=c4 x hx
    refine⟨?_,o,v,g⟩
    have K:x.1≠G:=fun e=>by
      have:=E.rK 0 _ G rfl (show Loc.has (.var G) G from rfl) o
      rw [<-e,I _ _ g]at this
      cases this
    rw [hw _ (Array.getElem?_eq_some_iff.1 h1).1 K]
    exact h1
  have hW := bent_walk S G ad l cc w (by rw [hl]; exact hlen) c6 E.imm (fun q xq hq => by
      have d0:q<a.bg.length:=by rw [<-hl];exact(List.getElem?_eq_some_iff.1 hq).1
      obtain⟨x',g1, -,g2,g3⟩:=O q _ (zd d0)
      rw [hq]at g1
      cases g1
      exact⟨g2,g3⟩) c7 za d1 hj
    (B1:=fun N w2=>∃S1 F,uZ Tryz.prog base.mono S N [.var G] 1 (.d (.int .i64 x.1)) (mL x.2) (.int .i64 x.1) w2 S1 F)
    (B2:=fun N w2 w3=>∃S1 F H a5,uZ Tryz.prog base.mono S N [.var G] 1 (.d (.int .i64 x.1)) (mL x.2) (.int .i64 x.1) w2 S1 F∧uZ Tryz.prog base.mono S1 w2 F 1 (.d (.int .i64 z.1)) (mL z.2) (.int .i64 z.1) w3 H a5)
    (fun N X => by
      have:=n_calls (base:=base) (w:=N) hx (memStepB E X) rfl I (W N fun b C _=>X.block b C sm) rfl
      rw [hl, <-hk]
      exact this)
    (fun N w2⟨S1,F,B⟩=>⟨B.frame.size,fun b C K=>B.frame.block b C fun hm=>K (lU.1 hm)⟩)
    (fun N w2 X ⟨S1, F, B⟩ => by
      have c0:=nV B rfl
      subst c0
      refine(n_calls (base:=base) (w:=w2) hz B.mem rfl (I.trans B.sub) (W w2 fun b C K=>?_) rfl).mono ?_
      · rw [B.frame.block b (Nat.lt_of_lt_of_le C X.size) (fun hm=>K (lU.1 hm)),X.block b C sm]
      · rintro e w3 ⟨rfl,H,a5,f⟩
        exact⟨rfl,S1,_,H,a5,B,f⟩)
    (fun N w2 w3 ⟨S1, F, H, a5, B, f⟩ => by
      have c0:=nV B rfl
      subst c0
      exact⟨f.frame.size,fun b C K=>f.frame.block b C fun hm=>K (lU.1 hm)⟩)
  rw [hl]at hW
  refine .inl ⟨enters12,hW.mono ?_⟩
  rintro en w' ⟨wr,w2,w3,hdr,xs,bs,rfl,D⟩
  obtain⟨S1,F,H,a5,B,f⟩:=D.b2
  obtain rfl:=nV B rfl
  obtain rfl:=nV f rfl
  have z1:=D.step.size
  have z2:=B.frame.size
  have z3:=f.frame.size
  have a7:∀ad v,H ad=some v->S ad=some v∨(ad.block<w.heap.size∨wr.heap.size<=ad.block)∧(w.heap.size<=ad.block∨ad.block=G):=fun ad v t=>by
    rcases f.uY ad v t with t|t|t
    · rcases B.uY ad v t with t|t|t
      · exact .inl t
      · exact .inr ⟨.inr t,.inl za⟩
      · have:=lU.1 t
        exact .inr ⟨.inl za,.inr this⟩
    · exact .inr ⟨.inr za,.inl za⟩
    · have:=lU.1 t
      exact .inr ⟨.inl za,.inr this⟩
  have c2:∀ad v,S ad=some v->ad.block<w.heap.size:=fun ad v t=>sn (E.imm ad v t)
  have c9:∀b∈(pB hdr).toList++bs,∀o,H ⟨b,o,none⟩=none:=fun b C o=>by
    have h1:=D.ge b C
    cases t:H ⟨b,o,none⟩with
    |none=>rfl
    |some v=>
      rcases a7 _ v t with h|h
      · have:=c2 _ _ h
        simp only at this
        omega
      · simp only at h
        omega
  have Y:Sub H (jr H w' ((pB hdr).toList++bs)):=addBlks_sub _ _ _
  have T:∀b∈(pB hdr).toList++bs,∀(o:Nat)u,w'.cell? ⟨b,o,none⟩=some u->u.oneCell'=true->jr H w' ((pB hdr).toList++bs) ⟨b,o,none⟩=some u:=fun b C o u h1 g=>addBlks_at (c9 b C o) C h1 g
  have c1:∀ad,ad.block<w.heap.size∨wr.heap.size<=ad.block->w'.cell? ad=w3.cell? ad:=fun ad h=>by simp only [World.cell?,D.same _ h]
  have Q:∀id L b,look [Loc.var G] id=some L->L.has b->b=G:=fun id L b h1 g=>by
    match id,h1 with
    |0,h1=>cases h1;exact(Option.some.inj g).symm
    |id+1,h1=>cases h1
  have b4:Flat (jr H w' ((pB hdr).toList++bs)) 5 ((a.bg.set k ⟨c.bc,bentE z.1 e::r⟩).map aq.pd) xs:=by
    refine innerFlatB (S:=S) ((B.sub.trans f.sub).trans Y) D.inn (fun b C=>T b (List.mem_append.2 (.inr C))) _ (by simp [hl]) fun q cq xq h1 g=>?_
    by_cases hq:q=k
    · subst hq
      have g1:=(List.getElem?_eq_some_iff.1 a9).1
      have g2:=(List.getElem?_eq_some_iff.1 c7).1
      rw [CS g1]at h1
      rw [CS g2]at g
      cases h1
      cases g
      refine⟨J.lS0,J.lS1,J.lS2,J.lS3,hm,?_⟩
      have hf:=J.lYS
      rw [b3]at hf
      rcases hj with⟨hz,rfl,rfl⟩|⟨hz,rfl,rfl⟩
      · exact flatSetB hf (p:= .int .i64 e.fTo) (by rw [hz];rfl) (.int _ _) rfl (by decide)
      · exact flatSetB hf (p:= .int .i64 1048577) (by rw [hz];rfl) (.int _ _) rfl (by decide)
    · rw [CR (fun e=>hq e.symm)]at h1 g
      obtain⟨x',e1,e2, -⟩:=O q cq h1
      rw [g]at e1
      cases e1
      exact e2
  refine⟨_,rfl,jr H w' ((pB hdr).toList++bs),[.var G],rfl,B6 _,(B.sub.trans f.sub).trans Y,⟨fun id bx C=>?_,f.mem.dom,fun ad v t=>?_,fun ad v t=>?_,fun id L b h1 g o=>?_,f.mem.inj⟩,fun ad v t=>?_,pD.refl _,fun k L b h1 g=>?_,⟨?_,?_,?_,?_,fun b h1 g=>?_,fun hm=>?_⟩,?_⟩
  · obtain⟨L,h1,g⟩:=f.mem.boxes id bx C
    refine⟨L,h1,g.cI Y (pD.refl _) fun b C=>?_⟩
    obtain rfl:=Q id L b h1 C
    exact D.same _ (.inl c6)
  · rcases lC t with h|h
    · have h1:=f.mem.imm ad v h
      rw [<-h1]
      refine c1 ad ?_
      rcases a7 ad v h with h|h
      · exact .inl (c2 _ _ h)
      · exact h.1
    · exact h.2.2.1
  · rcases lC t with h|h
    · exact f.mem.ti ad v h
    · exact h.2.2.2
  · obtain rfl:=Q id L b h1 g
    cases t:jr H w' ((pB hdr).toList++bs) ⟨b,o,none⟩with
    |none=>rfl
    |some v=>
      rcases lC t with h|h
      · rw [f.mem.rK id L b h1 g o]at h
        cases h
      · have:=D.ge _ h.1
        simp only at this
        omega
  · rcases lC t with h|h
    · rcases a7 ad v h with h|h
      · exact .inl h
      · rcases h.2 with h|h
        · exact .inr (.inl h)
        · exact .inr (.inr (lU.2 h))
    · have:=D.ge _ h.1
      exact .inr (.inl za)
  · exact .inl (lU.2 (Q k L b h1 g))
  · rw [D.os,f.frame.os,B.frame.os,D.step.os]
  · rw [D.tape,f.frame.tape,B.frame.tape,D.step.tape]
  · rw [D.output,f.frame.output,B.frame.output,D.step.output]
  · rw [D.size];omega
  · rw [D.same b (.inl h1),f.frame.block b za g,B.frame.block b za g,D.step.block b h1 sm]
  · exact CJ D.step.drawn (CJ (B.frame.drawn hm) (CJ (f.frame.drawn hm) D.drawn))
  · refine .d (.agg _ _ rfl fun i p v h1 g=>?_)
    match i,h1,g with
    |0,h1,g=>
      cases h1
      cases g
      have c5:=D.row
      refine vrowB (S:=jr H w' ((pB hdr).toList++bs)) (w:=w') (e:=81) (sz:=5) (xs:=xs) (by rw [DT,Dc];exact c5) b4 (Sub.refl _) fun b(C:pB hdr=some b)=>T b (List.mem_append.2 (.inl (by rw [C];exact List.mem_singleton.2 rfl)))
    |i+1,h1,g=>cases h1
theorem bentV_ok(base:tR){a:ac}{d:ag}{y:ac×ag}(h:cZ a d=some y):
    qI Tryz.prog base 12 [.ptr 0 0,.d (ac.pd a)] (mL d) (.d (ac.pd y.1)) (mL y.2):=by
  unfold cZ at h
  split at h
  · rename_i r c
    cases h
    exact Ev.zr (base:=base) (ext0_ok base) mixedB (Src_BentP_evB c)
  · exact bentV_okW base h
theorem bentD_ok(base:tR):∀args bs r c,bentD 12 args bs=some (r,c)->qI Tryz.prog base 12 args bs r c:=fun args bs r c h=>by
  obtain⟨a,d,y,rfl,rfl,f,rfl,rfl⟩:=bentD_some h
  exact bentV_ok base f
end Go.Dw.Ss
