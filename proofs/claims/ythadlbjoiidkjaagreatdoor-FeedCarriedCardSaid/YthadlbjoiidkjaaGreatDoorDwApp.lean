
import Derived.Test.YthadlbjoiidkjaaGreatDoorDwList
import Derived.Laws.Slices

namespace Go.Dw
section
variable {P:Program}{X:Ctx}{S:pR}{loc:qe}{s:St}{tm:Array Value}{w:World}
inductive RO(S:pR)(loc:qe):Option RV->Option Value->Prop
 |none:RO S loc none none
 |some {rv:RV} {v:Value} (h:R S loc rv v):RO S loc (some rv) (some v)
theorem uX{rv:RV}{d n:Int}(h:bnd (some rv) d=some n):∃k,rv= .d (.int k n):=by
 rcases rv with p|_|_|_|_|_|_|_|_|_|_|_|_<;>first|(simp [bnd]at h;done)|skip
 cases p<;>first|(simp [bnd]at h;done)|skip
 simp only [bnd,Option.some.injEq]at h
 subst h
 exact⟨_,rfl⟩
theorem vS{b:Bool}{len cap:Nat}{lo hi:Option RV}{lo' hi':Option Value}{l h:Int}(h1:RO S loc lo lo')(h2:RO S loc hi hi')(hl:bnd lo 0=some l)(hh:bnd hi len=some h)
  (h0:0<=l∧l<=h∧h<=len) (hc:len<=cap):(Instr.sliceBounds b len cap lo' hi' none).run P w= .ok (l.toNat,h.toNat,cap) w:=by
 obtain⟨a1,a2,a3⟩:=h0
 cases h1 with
 |none=>
  simp only [bnd,Option.some.injEq]at hl
  subst hl
  cases h2 with
  |none=>simp only [bnd,Option.some.injEq]at hh;subst hh;simp [Instr.sliceBounds]
  |some h2=>
   obtain⟨k,rfl⟩:=uX hh
   have:=h2.p9
   subst this
   have e:0<=h∧h<=(cap:Int):=⟨za,za⟩
   simp [Instr.sliceBounds,Instr.sliceBound,asIntOf,e]
 |some h1=>
  obtain⟨k,rfl⟩:=uX hl
  have:=h1.p9
  subst this
  cases h2 with
  |none=>
   simp only [bnd,Option.some.injEq]at hh
   subst hh
   have e:0<=l∧l<=(len:Int):=⟨za,za⟩
   simp [Instr.sliceBounds,Instr.sliceBound,asIntOf,e]
  |some h2=>
   obtain⟨k',rfl⟩:=uX hh
   have:=h2.p9
   subst this
   have e:0<=h∧h<=(cap:Int):=⟨za,za⟩
   have e3:l<=max h 0:=by omega
   simp [Instr.sliceBounds,Instr.sliceBound,asIntOf,e,a1,e3]
theorem sJ{α:Type}(l:List α)(hi:Option RV)(a h:Int)(hh:bnd hi l.length=some h)(h0:0<=a∧a<=h∧h<=l.length):
  cut l a.toNat (hiOf hi h)=(l.drop a.toNat).take (h.toNat-a.toNat):=by
 cases hi with
 |none=>
  simp only [bnd,Option.some.injEq]at hh
  subst hh
  simp only [hiOf,cut]
  rw [List.take_of_length_le]
  simp
 |some r=>simp only [hiOf,cut]
theorem Flat.nil(S:pR)(sz:Nat):Flat S sz [] []:=⟨(fun e he=>by cases he),(fun u hu=>by cases hu),(fun i e j x hi=>by simp at hi)⟩
theorem Ax{nid:Nat}{t:TypeId}{p:PD}{v:RV}{lo hi:Option RV}{lo' hi':Option Value}{b:p8}{u:Ups}{r:List Nat}{vx:Value}(hl:qP P nid t (.d p) lo hi none b=some ((v,u),r,true))(hx:R S loc (.d p) vx)
  (h1:RO S loc lo lo') (h2:RO S loc hi hi'):
  ∃v',(Instr.sliceAt t vx lo' hi' none).run P w= .ok v' w∧R S loc v v'∧u=[]:=by
 unfold qP at hl
 rcases hu:P.underlying t with _|d
 ·simp only [hu]at hl;exact fE b hl
 rw [hu]at hl
 cases d<;>first|exact fE b hl|skip
 case string=>
  cases p<;>first|exact fE b hl|skip
  rename_i l
  rcases hb1:bnd lo 0 with _|a
  ·simp only [hb1]at hl;exact fE b hl
  rcases hb2:bnd hi l.length with _|h
  ·simp only [hb1,hb2]at hl;exact fE b hl
  simp only [hb1,hb2]at hl
  obtain⟨h4, -,h5⟩:=qi hl
  cases h4
  have h0:=of_decide_eq_true h5.symm
  have e1:=hx.uM
  subst e1
  have hb:=vS (P:=P) (w:=w) (b:=false) (len:=l.length) (cap:=l.length) h1 h2 hb1 hb2 h0 (Nat.le_refl _)
  refine⟨.string ((ByteArray.mk l.toArray).extract a.toNat h.toNat),?_,?_,rfl⟩
  ·simp [Instr.sliceAt,run_underlying hu,Instr.slice,xO,hb]
  ·rw [ByteArray.extract_mk,sJ l hi a h hb2 h0]
   exact .d (.str _)
 case slice e=>
  cases p<;>first|exact fE b hl|skip
  rename_i es
  rcases hb1:bnd lo 0 with _|a
  ·simp only [hb1]at hl;exact fE b hl
  rcases hb2:bnd hi es.length with _|h
  ·simp only [hb1,hb2]at hl;exact fE b hl
  rcases hk:szT P e with _|k
  ·simp only [hb1,hb2,hk]at hl;exact fE b hl
  simp only [hb1,hb2,hk]at hl
  obtain⟨h4, -,h5⟩:=qi hl
  cases h4
  simp only [Bool.true_eq,Bool.and_eq_true]at h5
  obtain⟨h5,h6⟩:=h5
  have h0:=of_decide_eq_true h5
  obtain⟨ad,c,rfl,hc⟩:=xN hx.uG
  have hb:=vS (P:=P) (w:=w) (b:=true) (len:=es.length) (cap:=c) h1 h2 hb1 hb2 h0 hc
  refine⟨.slice (if c=a.toNat then ad else ad.map (·.add (a.toNat*k))) (h.toNat-a.toNat) (c-a.toNat),?_,?_,rfl⟩
  ·simp [Instr.sliceAt,run_underlying hu,Instr.slice,hb,pS hk]
  ·rw [sJ es hi a h hb2 h0]
   have hlen:((es.drop a.toNat).take (h.toNat-a.toNat)).length=h.toNat-a.toNat:=by simp;omega
   refine .d ?_
   by_cases hz:h.toNat-a.toNat=0
   ·rw [hz]
    simp only [List.take_zero]
    exact .nil _ _
   ·have hne:es[a.toNat]? =some es[a.toNat]:=zd za
    obtain⟨bb,o,c',sz,f,he,_,hsz,hS,hV⟩:=hx.uG.elem hne
    cases he
    have hszk:sz=k:=by
     have:=List.all_eq_true.1 h6 _ (List.mem_of_getElem? hne)
     rw [<-hsz _ (List.mem_of_getElem? hne)]
     simpa using this
    subst hszk
    rw [if_neg za]
    simp only [Option.map_some,rH]
    have:=V.lst (S:=S) ((es.drop a.toNat).take (h.toNat-a.toNat)) bb (o+a.toNat*sz) (c-a.toNat) sz (fun i j=>f (a.toNat+i) j) (by rw [hlen];omega)
     (fun e he=>hsz e (List.mem_of_mem_drop (List.mem_of_mem_take he)))
     (fun i e j x hi hj => by
      rw [List.getElem?_take]at hi
      split at hi
      ·rw [List.getElem?_drop]at hi
       have:=hS _ e j x hi hj
       rw [<-this]
       congr 2
       rw [Nat.add_mul]
       omega
      ·cases hi)
     (fun i e j x hi hj => by
      rw [List.getElem?_take]at hi
      split at hi
      ·rw [List.getElem?_drop]at hi
       exact hV _ e j x hi hj
      ·cases hi)
    rw [hlen]at this
    exact this
def uN(hdr:Value)(sz a b:Nat)(v:Value):Prop:=
 (a=b∧∃a0,v= .slice a0 0 0)∨∃g n c,hdr= .slice (some ⟨g,0,none⟩) n c∧a<=b∧b<=c∧v= .slice (some ⟨g,a*sz,none⟩) (b-a) (c-a)
theorem uN.ref{e:TypeId}{sz n:Nat}{hdr:Value}{xs:List Value}(h:rowAt w e sz hdr n xs):uN hdr sz 0 n hdr:=by
 rcases h with⟨_,⟨rfl,rfl⟩|⟨g,cap,cur,_,rfl,_,_,h,_⟩⟩|⟨rfl,_,a,rfl⟩
 ·exact .inl ⟨rfl,none,rfl⟩
 ·exact .inr ⟨g,n,cap,rfl,Nat.zero_le _,h,sm⟩
 ·exact .inl ⟨rfl,a,rfl⟩
theorem uN.cap{hdr v:Value}{sz a b:Nat}(h:uN hdr sz a b v)(hab:a<=b):∃ad c,v= .slice ad (b-a) c∧b-a<=c:=by
 rcases h with⟨rfl,a0,rfl⟩|⟨g,n,c,rfl,h1,h2,rfl⟩
 ·exact⟨a0,0,by rw [Nat.sub_self],za⟩
 ·exact⟨_,_,rfl,za⟩
theorem uN.slice{hdr:Value}{sz a b len cap l h:Nat}{ad:Option Addr}(hv:uN hdr sz a b (.slice ad len cap))(hlh:l<=h)(hb:h<=b-a)(hab:a<=b):
  uN hdr sz (a+l) (a+h) (.slice (if cap=l then ad else ad.map (·.add (l*sz))) (h-l) (cap-l)):=by
 rcases hv with⟨rfl,a0,he⟩|⟨g,n,c,rfl,h1,h2,he⟩
 ·cases he
  have h0:h=0:=by omega
  have l0:l=0:=by omega
  subst h0 l0
  exact .inl ⟨rfl,ad,sm⟩
 ·cases he
  by_cases hc:c-a=l
  ·rw [if_pos hc]
   have:h=l:=by omega
   subst this
   exact .inl ⟨rfl,some ⟨g,a*sz,none⟩,by rw [hc,Nat.sub_self]⟩
  ·rw [if_neg hc]
   refine .inr ⟨g,n,c,rfl,za,za,?_⟩
   simp only [Option.map_some,rH]
   congr 1
   ·rw [Nat.add_mul]
   ·omega
   ·omega
theorem R.viewD{id ver lo hi:Nat}{e:TypeId}{sz:Nat}{hdr v:Value}(hL:loc id=some (.arr ver e sz hdr))(ho:v.oneCell'=true)(h:uN hdr sz lo hi v):R S loc (.view id ver lo hi) v:=by
 refine .view id ver lo hi v _ ho hL fun ver' e' sz' hdr' he=>?_
 cases he
 exact⟨Nat.le_refl _,fun _=>h⟩
theorem uL(h:Sim P X S loc s tm w){t e:TypeId}{id ver a b:Nat}{v:RV}{lo hi:Option RV}{lo' hi':Option Value}{u:Ups}{r:List Nat}{vx:Value}(ht:P.underlying t=some (.slice e))(hl:sliceB P e id ver a b lo hi s.boxes=some ((v,u),r,true))
  (hx:∀es,s.boxes id=some (.arr ver e es)->a<=b->b<=es.length->∃sz hdr,loc id=some (.arr ver e sz hdr)∧szT P e=some sz∧uN hdr sz a b vx)
  (h1:RO S loc lo lo') (h2:RO S loc hi hi'):
  ∃v',(Instr.sliceAt t vx lo' hi' none).run P w= .ok v' w∧R S loc v v'∧u=[]:=by
 unfold sliceB at hl
 rcases hb1:bnd lo 0 with _|l
 ·simp only [hb1]at hl;exact fE s.boxes hl
 rcases hb2:bnd hi ((b:Int)-a)with _|h'
 ·simp only [hb1,hb2]at hl;exact fE s.boxes hl
 rcases hk:szT P e with _|_|k
 ·simp only [hb1,hb2,hk]at hl;exact fE s.boxes hl
 ·simp only [hb1,hb2,hk]at hl;exact fE s.boxes hl
 simp only [hb1,hb2,hk]at hl
 obtain⟨bx,r1,r2,g1,g2,_⟩:=M.bind_some hl
 obtain⟨hb,_,_⟩:=M.get_some g1
 cases bx with
 |var _=>exact fE s.boxes g2
 |dead=>exact fE s.boxes g2
 |map _ _ _=>exact fE s.boxes g2
 |arr ver' e' es=>
  by_cases hver:ver=ver'∧e=e'
  rotate_left
  ·simp only [hver,if_false]at g2;exact fE s.boxes g2
  simp only [hver,and_self,if_true]at g2
  obtain⟨rfl,rfl⟩:=hver
  obtain⟨g3, -,g4⟩:=qi g2
  cases g3
  obtain⟨c1,c2,c3,c4,c5⟩:a<=b∧b<=es.length∧0<=l∧l<=h'∧h'<=(b:Int)-a:=of_decide_eq_true g4.symm
  obtain⟨sz,hdr,hL,hsz,hv⟩:=hx es hb c1 c2
  rw [hk]at hsz
  cases hsz
  obtain⟨ad,c,rfl,hc⟩:=hv.cap c1
  have e0:((b:Int)-a)=((b-a:Nat):Int):=by omega
  rw [e0]at hb2
  have hbr:=vS (P:=P) (w:=w) (b:=true) (len:=b-a) (cap:=c) h1 h2 hb1 hb2 za hc
  refine⟨_,?_,R.viewD hL rfl (hv.slice (l:=l.toNat) (h:=h'.toNat) za za c1),rfl⟩
  simp [Instr.sliceAt,run_underlying ht,Instr.slice,hbr,pS hk]
theorem Sim.Bm(h:Sim P X S loc s tm w){id b:Nat}{ps:List PD}{ty:TypeId}{vs:Array Value}(hb:s.boxes id=some (.var (ps.map .d)))(hL:loc id=some (.var b))(hw:w.heap[b]? =some (.cells vs ty (0,0)))(h1:∀v∈vs,v.oneCell'=true):
  Sim P X (qL S b vs.toList) (upd loc id .dead) { s with boxes:=upd s.boxes id .dead } tm w∧Sub S (qL S b vs.toList)∧(∀j v,vs[j]? =some v->qL S b vs.toList ⟨b,j,none⟩=some v):=by
 have hst:qp (loc id) .dead:=by rw [hL];exact .dead _
 have h2:=h.sf (Step.refl none w) id .dead .dead (fun b hc=>by cases hc) (.dead _ rfl) (fun b hc=>by cases hc) hst
 refine⟨h2.wD b vs.toList (fun j v hj=>?_) (fun v hv=>h1 v (by simpa using hv)) (fun i L hi hLg=>?_) (h.own id _ b hL rfl).symm,rn _ _ _,fun j v hj=>uf (fun o=>h.ss id _ b hL rfl o) (by simpa using hj)⟩
 ·rw [cell_of_row w b j vs ty (0,0) hw]
  simpa using hj
 ·by_cases hid:i=id
  ·subst hid;rw [pW]at hi;cases hi;cases hLg
  ·rw [qJ _ _ hid]at hi
   exact hid (h.inj i id L _ b hi hL hLg rfl)
theorem zC(h:Sim P X S loc s tm w){a:TypeId}{id:Nat}{v:RV}{u:Ups}{r:List Nat}{vx:Value}(hl:wc P id a s.boxes=some ((v,u),r,true))(hx:R S loc (.ptr id 0) vx):
  ∃v' S' loc',(Instr.sliceAt a vx none none none).run P w= .ok v' w∧Sim P X S' loc' (s.ups u) tm w∧R S' loc' v v':=by
 unfold wc at hl
 rcases hu:P.underlying a with _|d
 ·simp only [hu]at hl;exact fE s.boxes hl
 rw [hu]at hl
 cases d<;>first|exact fE s.boxes hl|skip
 rename_i n e
 rcases hk:szT P e with _|_|k
 ·simp only [hk]at hl;exact fE s.boxes hl
 ·simp only [hk]at hl;exact fE s.boxes hl
 simp only [hk]at hl
 obtain⟨bx,r1,r2,g1,g2,_⟩:=M.bind_some hl
 obtain⟨hb,_,_⟩:=M.get_some g1
 cases bx with
 |arr _ _ _=>exact fE s.boxes g2
 |dead=>exact fE s.boxes g2
 |map _ _ _=>exact fE s.boxes g2
 |var cs=>
  rcases hp:uh cs with _|ps
  ·simp only [hp]at g2;exact fE s.boxes g2
  simp only [hp]at g2
  by_cases hc:qg P e=true∨k=0
  rotate_left
  ·rw [if_neg hc]at g2;exact fE s.boxes g2
  rw [if_pos hc]at g2
  obtain⟨g3, -,g4⟩:=M.pN g2
  cases g3
  simp only [Bool.true_eq,Bool.and_eq_true,decide_eq_true_eq]at g4
  obtain⟨hpl,hone⟩:=g4
  have hcs:=uq hp
  subst hcs
  obtain⟨b,ty,vs,hL,rfl,hw,hlen,hv⟩:=h.zN hb hx
  have hvv:∀(i:Nat)p u,ps[i]? =some p->vs[i]? =some u->V S p u:=fun i p u h1 h2=>by
   have:=hv i (.d p) u (by simp [h1]) h2
   cases this with|d h=>exact h
  have hlen':vs.size=ps.length:=by simpa using hlen
  have h1:∀u∈vs,u.oneCell'=true:=fun u hu=>by
   obtain⟨i,hi,rfl⟩:=Array.getElem_of_mem hu
   have hi':i<ps.length:=by omega
   exact((hvv i ps[i] vs[i] (zd hi') (Array.getElem?_eq_getElem hi)).uJ (List.all_eq_true.1 hone _ (List.getElem_mem hi'))).1
  obtain⟨k1,k2,k3⟩:=h.Bm hb hL hw h1
  have hgl:=rE (P:=P) e (k+1) n ps
  have hgg:=uB (P:=P) e (k+1) (hc.imp (fun h=>h) (fun h=>za)) n ps hpl (fun p hp=>List.all_eq_true.1 hone p hp)
  have hlt:∀(i:Nat)x(j:Nat)c,(qN P e (k+1) n ps)[i]? =some x->x.cells[j]? =some c->∃u,vs[i*(k+1)+j]? =some u∧V S c u:=fun i x j c hi hj=>by
   have h4:=(hgg i x hi).2 j c hj
   have h5:i*(k+1)+j<vs.size:=by rw [hlen'];exact(List.getElem?_eq_some_iff.1 h4).1
   exact⟨_,Array.getElem?_eq_getElem h5,hvv _ c _ h4 (Array.getElem?_eq_getElem h5)⟩
  have hV := V.lst (S := qL S b vs.toList) (qN P e (k + 1) n ps) b 0 n (k + 1) (fun i j => (vs[i * (k + 1) + j]?).getD default) (by rw [hgl]; exact Nat.le_refl _) (fun x hx => by
    obtain⟨i,hi⟩:=List.getElem?_of_mem hx
    exact(hgg i x hi).1)
   (fun i x j c hi hj => by
    obtain⟨u,hu,_⟩:=hlt i x j c hi hj
    rw [Nat.zero_add,k3 _ u hu,hu];rfl)
   (fun i x j c hi hj => by
    obtain⟨u,hu,hvu⟩:=hlt i x j c hi hj
    rw [hu]
    exact hvu.mono k2)
  rw [hgl]at hV
  refine⟨.slice (some ⟨b,0,none⟩) n n,_,_,?_,k1,.d hV⟩
  simp only [Instr.sliceAt,run_underlying hu,Sem.run_bind,Result.andThen_ok,Instr.sureAddr,Sem.run_pure,Instr.sliceBounds,pS hk]
  by_cases hn:n=0
  ·simp [hn]
  ·simp [hn,Addr.add]
theorem zD{a:TypeId}{cs:List PD}{v:RV}{u:Ups}{r:List Nat}{vx:Value}{b0:p8}(hl:we P a cs b0=some ((v,u),r,true))(hx:R S loc (.cptr cs) vx):
  ∃v',(Instr.sliceAt a vx none none none).run P w= .ok v' w∧R S loc v v'∧u=[]:=by
 unfold we at hl
 rcases hu:P.underlying a with _|d
 ·simp only [hu]at hl;exact fE b0 hl
 rw [hu]at hl
 cases d<;>first|exact fE b0 hl|skip
 rename_i n e
 rcases hk:szT P e with _|_|k
 ·simp only [hk]at hl;exact fE b0 hl
 ·simp only [hk]at hl;exact fE b0 hl
 simp only [hk]at hl
 by_cases hc:qg P e=true∨k=0
 rotate_left
 ·rw [if_neg hc]at hl;exact fE b0 hl
 rw [if_pos hc]at hl
 obtain⟨g3, -,g4⟩:=M.pN hl
 cases g3
 simp only [Bool.true_eq,Bool.and_eq_true,decide_eq_true_eq]at g4
 obtain⟨hpl,hone⟩:=g4
 cases hx with
 |cptr _ b o F hS hV=>
 have hlen:(cs.take (n*(k+1))).length=n*(k+1):=by simp;omega
 have hgl:=rE (P:=P) e (k+1) n (cs.take (n*(k+1)))
 have hgg:=uB (P:=P) e (k+1) (hc.imp (fun h=>h) (fun h=>za)) n (cs.take (n*(k+1))) hlen (fun p hp=>List.all_eq_true.1 hone p hp)
 have hlt:∀(i:Nat)x(j:Nat)c,(qN P e (k+1) n (cs.take (n*(k+1))))[i]? =some x->x.cells[j]? =some c->cs[i*(k+1)+j]? =some c:=fun i x j c hi hj=>by
  have h4:=(hgg i x hi).2 j c hj
  rw [List.getElem?_take]at h4
  split at h4
  ·exact h4
  ·cases h4
 have hV' := V.lst (S := S) (qN P e (k + 1) n (cs.take (n * (k + 1)))) b o n (k + 1) (fun i j => F (i * (k + 1) + j)) (by rw [hgl]; exact Nat.le_refl _) (fun x hx => by
   obtain⟨i,hi⟩:=List.getElem?_of_mem hx
   exact(hgg i x hi).1)
  (fun i x j c hi hj => by
   rw [Nat.add_assoc]
   exact hS _ c (hlt i x j c hi hj))
  (fun i x j c hi hj=>hV _ c (hlt i x j c hi hj))
 rw [hgl]at hV'
 refine⟨.slice (some ⟨b,o,none⟩) n n,?_,.d hV',rfl⟩
 simp only [Instr.sliceAt,run_underlying hu,Sem.run_bind,Result.andThen_ok,Instr.sureAddr,Sem.run_pure,Instr.sliceBounds,pS hk]
 by_cases hn:n=0
 ·simp [hn]
 ·simp [hn,Addr.add]
theorem zG(h:Sim P X S loc s tm w){t e:TypeId}{id ver:Nat}{v:RV}{lo hi:Option RV}{mx:RV}{lo' hi':Option Value}{mx':Value}{u:Ups}{r:List Nat}{vx:Value}(ht:P.underlying t=some (.slice e))(hl:wg P e id ver lo hi mx s.boxes=some ((v,u),r,true))
  (hx:R S loc (.ref id ver) vx) (h1:RO S loc lo lo') (h2:RO S loc hi hi') (h3:R S loc mx mx'):
  ∃v',(Instr.sliceAt t vx lo' hi' (some mx')).run P w= .ok v' w∧R S loc v v'∧u=[]:=by
 unfold wg at hl
 cases h1<;>first|exact fE s.boxes hl|skip
 cases h2<;>first|exact fE s.boxes hl|skip
 rename_i rvh vh h2
 cases rvh<;>first|exact fE s.boxes hl|skip
 rename_i ph
 cases ph<;>first|exact fE s.boxes hl|skip
 rename_i kh hh
 cases mx<;>first|exact fE s.boxes hl|skip
 rename_i pm
 cases pm<;>first|exact fE s.boxes hl|skip
 rename_i km hm
 rcases hk:szT P e with _|_|k
 ·simp only [hk]at hl;exact fE s.boxes hl
 ·simp only [hk]at hl;exact fE s.boxes hl
 simp only [hk]at hl
 by_cases hhm:hh=hm
 rotate_left
 ·rw [if_neg hhm]at hl;exact fE s.boxes hl
 rw [if_pos hhm]at hl
 subst hhm
 obtain⟨bx,r1,r2,g1,g2,_⟩:=M.bind_some hl
 obtain⟨hb,_,_⟩:=M.get_some g1
 cases bx with
 |var _=>exact fE s.boxes g2
 |dead=>exact fE s.boxes g2
 |map _ _ _=>exact fE s.boxes g2
 |arr ver' e' es=>
  simp only at g2
  by_cases hver:ver=ver'∧e=e'
  rotate_left
  ·rw [if_neg hver]at g2;exact fE s.boxes g2
  rw [if_pos hver]at g2
  obtain⟨rfl,rfl⟩:=hver
  obtain⟨g3, -,g4⟩:=M.pN g2
  cases g3
  obtain⟨c1,c2⟩:0<=hh∧hh<=es.length:=of_decide_eq_true g4.symm
  obtain⟨sz,xs,hloc,hsz,how,hf⟩:=h.tW hb hx
  obtain⟨a,c,rfl,hc⟩:=how.hdr
  have e2:=h2.p9
  have e3:=h3.p9
  subst e2 e3
  refine⟨.slice a hh.toNat hh.toNat,?_,.fview id ver hh.toNat _ _ rfl hloc fun ver' e' sz' hdr' he=>by cases he;exact⟨Nat.le_refl _,fun _=>⟨a,_,c,rfl,za,rfl⟩⟩,rfl⟩
  have d1:0<=hh∧hh<=(c:Int):=⟨c1,za⟩
  have d2:0<=hh∧hh<=(hh.toNat:Int):=⟨c1,za⟩
  have hbr:(Instr.sliceBounds true es.length c none (some (.int kh hh)) (some (.int km hh))).run P w= .ok (0,hh.toNat,hh.toNat) w:=by
   simp [Instr.sliceBounds,Instr.sliceBound,asIntOf,d1,d2]
   intro hlt
   omega
  simp only [Instr.sliceAt,run_underlying ht,Instr.slice,Sem.run_bind,Result.andThen_ok,hbr,pS hk,Sem.run_pure]
  by_cases h0:hh.toNat=0
  ·simp [h0]
  ·cases a<;>simp [h0,Addr.add]
theorem Ah(h:Sim P X S loc s tm w){t e:TypeId}(hu:P.underlying t=some (.slice e)){es:List PD}{k k':IntKind}{hh m:Int}{v:RV}{u:Ups}{r:List Nat}{vx:Value}(hl:xz P e es hh m s.boxes=some ((v,u),r,true))(hx:V S (.lst es) vx):
  ∃v' S' loc',(Instr.sliceAt t vx none (some (.int k hh)) (some (.int k' m))).run P w= .ok v' w∧Sim P X S' loc' (s.ups u) tm w∧R S' loc' v v':=by
 unfold xz at hl
 rcases hk:szT P e with _|_|sz
 ·simp only [hk]at hl;exact fE s.boxes hl
 ·simp only [hk]at hl;exact fE s.boxes hl
 simp only [hk]at hl
 by_cases hhm:hh=m
 rotate_left
 ·rw [if_neg hhm]at hl;exact fE s.boxes hl
 rw [if_pos hhm]at hl
 subst hhm
 obtain⟨g3, -,g4⟩:=M.pN (b:=s.boxes) hl
 cases g3
 have c1:hh=es.length:=of_decide_eq_true g4.symm
 subst c1
 obtain⟨a,c,rfl,hc,hv⟩:∃a c,vx= .slice a es.length c∧es.length<=c∧V S (.lst es) (.slice a es.length es.length):=by
  cases hx with
  |nil a c=>exact⟨a,c,rfl,Nat.zero_le _,.nil _ _⟩
  |lst _ b o c sz f h1 h2 h3 h4=>exact⟨_,c,rfl,h1,.lst es b o _ sz f (Nat.le_refl _) h2 h3 h4⟩
 refine⟨.slice a es.length es.length,S,loc,?_,h,.dfull es a hv⟩
 have d1:(0:Int)<=(es.length:Int)∧(es.length:Int)<=(c:Int):=⟨za,za⟩
 have hbr:(Instr.sliceBounds true es.length c none (some (.int k (es.length:Int))) (some (.int k' (es.length:Int)))).run P w= .ok (0,es.length,es.length) w:=by
  simp [Instr.sliceBounds,Instr.sliceBound,asIntOf]
  intro hlt
  omega
 simp only [Instr.sliceAt,run_underlying hu,Instr.slice,Sem.run_bind,Result.andThen_ok,hbr,pS hk,Sem.run_pure]
 by_cases h0:es.length=0
 ·simp [h0]
 ·cases a<;>simp [h0,Addr.add]
theorem Au(h:Sim P X S loc s tm w){t:TypeId}{x v:RV}{lo hi mx:Option RV}{lo' hi' mx':Option Value}{u:Ups}{r:List Nat}{vx:Value}(hl:wH P t x lo hi mx s.boxes=some ((v,u),r,true))(hx:R S loc x vx)
  (h1:RO S loc lo lo') (h2:RO S loc hi hi') (h3:RO S loc mx mx'):
  ∃v' S' loc',(Instr.sliceAt t vx lo' hi' mx').run P w= .ok v' w∧Sim P X S' loc' (s.ups u) tm w∧R S' loc' v v':=by
 unfold wH at hl
 rcases hu:P.underlying t with _|d
 ·simp only [hu]at hl;exact fE s.boxes hl
 rw [hu]at hl
 cases d<;>first|exact fE s.boxes hl|skip
 rename_i e
 by_cases hxd:∃es,x= .d (.lst es)
 ·obtain⟨es,rfl⟩:=hxd
  cases hx with
  |d hx=>
  cases h1<;>first|exact fE s.boxes hl|skip
  cases h2 with
  |none=>exact fE s.boxes hl
  |some g1=>
  rename_i r1 v1
  cases r1<;>first|exact fE s.boxes hl|skip
  rename_i p1
  cases p1<;>first|exact fE s.boxes hl|skip
  cases h3 with
  |none=>exact fE s.boxes hl
  |some g2=>
  rename_i r2 v2
  cases r2<;>first|exact fE s.boxes hl|skip
  rename_i p2
  cases p2<;>first|exact fE s.boxes hl|skip
  have e1:=g1.p9
  have e2:=g2.p9
  subst e1 e2
  exact Ah h hu hl hx
 cases x<;>first|exact fE s.boxes hl|(rename_i p;cases p<;>first|exact fE s.boxes hl|exact(hxd ⟨_,rfl⟩).elim)|skip
 rename_i id ver
 cases lo<;>first|exact fE s.boxes hl|skip
 cases hi<;>first|exact fE s.boxes hl|skip
 rename_i hv0
 cases hv0<;>first|exact fE s.boxes hl|skip
 rename_i p0
 cases p0<;>first|exact fE s.boxes hl|skip
 rename_i k hh
 cases mx<;>first|exact fE s.boxes hl|skip
 ·simp only at hl
  rcases hk:szT P e with _|_|sz
  ·simp only [hk]at hl;exact fE s.boxes hl
  ·simp only [hk]at hl;exact fE s.boxes hl
  simp only [hk]at hl
  obtain⟨bx,r1,r2,g1,g2,_⟩:=M.bind_some hl
  obtain⟨hb,_,_⟩:=M.get_some g1
  cases bx with
  |var _=>exact fE s.boxes g2
  |dead=>exact fE s.boxes g2
  |map _ _ _=>exact fE s.boxes g2
  |arr ver' e' es=>
   simp only at g2
   by_cases hver:ver=ver'∧e=e'
   rotate_left
   ·rw [if_neg hver]at g2;exact fE s.boxes g2
   rw [if_pos hver]at g2
   obtain⟨rfl,rfl⟩:=hver
   obtain⟨g3, -,g4⟩:=M.pN g2
   cases g3
   obtain⟨c1,c2⟩:0<=hh∧hh<=es.length:=of_decide_eq_true g4.symm
   obtain⟨sz',xs,hloc,hsz,how,hf⟩:=h.tW hb hx
   rw [hk]at hsz
   cases hsz
   cases h3
   have hsl:sliceB P e id ver 0 es.length none (some (.d (.int k hh))) s.boxes=some ((.view id ver (0+(0:Int).toNat) (0+hh.toNat),[]),[id],true):=by
    have e0:((es.length:Nat):Int)-((0:Nat):Int)=(es.length:Int):=by simp
    simp only [sliceB,bnd,hk,M.bind,M.get,hb,and_self,if_true,qj,M.pO,e0]
    simp [c1,c2]
   obtain ⟨v', k1, k2, -⟩ := uL h hu hsl (fun es' hb' _ _ => by
    rw [hb]at hb'
    cases hb'
    exact⟨_,_,hloc,hk,uN.ref how⟩) h1 h2
   have hvd:uN vx (sz+1) (0+(0:Int).toNat) (0+hh.toNat) v':=by
    cases k2 with
    |view _ _ _ _ _ L ho hL hc=>
     rw [hloc]at hL
     cases hL
     exact(hc ver e (sz+1) vx rfl).2 rfl
   have ho:v'.oneCell'=true:=by
    cases k2 with
    |view _ _ _ _ _ L ho hL hc=>exact ho
   have z1:(0+(0:Int).toNat)=0:=rfl
   have z2:(0+hh.toNat)=hh.toNat:=Nat.zero_add _
   rw [z1,z2]at hvd
   have hlen:(es.take hh.toNat).length=hh.toNat:=by simp;omega
   have hflat:Flat S (sz+1) (es.take hh.toNat) (xs.take (hh.toNat*(sz+1))):=by
    refine⟨fun x hx=>hf.len x (List.mem_of_mem_take hx),fun q hq=>hf.one q (List.mem_of_mem_take hq),fun i x j c hi hj=>?_⟩
    rw [List.getElem?_take]at hi
    split at hi
    ·rename_i hlt
     obtain⟨q,h5,h6⟩:=hf.cell i x j c hi hj
     refine⟨q,?_,h6⟩
     have hjl:j<sz+1:=by rw [<-hf.len x (List.mem_of_getElem? hi)];exact(List.getElem?_eq_some_iff.1 hj).1
     have:i*(sz+1)+j<hh.toNat*(sz+1):=by
      calc i*(sz+1)+j<i*(sz+1)+(sz+1):=by omega
       _=(i+1)*(sz+1):=by rw [Nat.add_mul,Nat.one_mul]
       _<=hh.toNat*(sz+1):=Nat.mul_le_mul_right _ hlt
     rw [List.getElem?_take,if_pos this]
     exact h5
    ·cases hi
   have hrow:rowAt w e (sz+1) v' (es.take hh.toNat).length (xs.take (hh.toNat*(sz+1))):=by
    rw [hlen]
    rcases hvd with⟨h0,a,rfl⟩|⟨g,n,c,he,_,hc,rfl⟩
    ·rw [<-h0]
     exact .inr ⟨rfl,sm,a,rfl⟩
    ·simp only [Nat.zero_mul,Nat.sub_zero]
     subst he
     rcases how with⟨hl1,⟨hn,_⟩|⟨g',cap,cur,fz,hg,hb0,hcell,hcap,hmax,hcs,htk⟩⟩|⟨hn,hxs,a,ha⟩
     ·cases hn
     ·cases hg
      refine .inl ⟨by rw [List.length_take,hl1];exact Nat.min_eq_left (Nat.mul_le_mul_right _ za),.inr ⟨g,c,cur,fz,rfl,hb0,hcell,hc,hmax,hcs,?_⟩⟩
      rw [<-htk,List.take_take]
      congr 1
      exact(Nat.min_eq_left (Nat.mul_le_mul_right _ za)).symm
     ·cases ha
      have:hh.toNat=0:=by omega
      rw [this]
      exact .inr ⟨rfl,sm,_,rfl⟩
   have hst:qp (loc id) (.arr (ver+1) e (sz+1) v'):=by
    rw [hloc]
    exact .arr za
   have hs2:=h.sf (Step.refl none w) id (.arr (ver+1) e (es.take hh.toNat)) (.arr (ver+1) e (sz+1) v') (fun b hc=>by cases hc) (.arr (ver+1) e _ (sz+1) v' _ hk hrow hflat)
    (fun b hbk => by
     refine .inl ⟨_,hloc,?_⟩
     rcases hvd with⟨h0,a,rfl⟩|⟨g,n,c,he,_,hc,rfl⟩
     ·cases a<;>cases hbk
     ·subst he
      cases c with
      |zero=>cases hbk
      |succ c=>cases hbk;rfl) hst
   have hR:R S (upd loc id (.arr (ver+1) e (sz+1) v')) (.ref id (ver+1)) v':= .ref id (ver+1) v' _ ho (pW _ _ _) fun ver' e' sz' hdr' he=>by
    cases he;exact⟨Nat.le_refl _,fun _=>rfl⟩
   exact⟨v',S,_,k1,hs2,hR⟩
theorem zF(h:Sim P X S loc s tm w){nid:Nat}{t:TypeId}{x v:RV}{lo hi mx:Option RV}{lo' hi' mx':Option Value}{u:Ups}{r:List Nat}{vx:Value}(hl:qP P nid t x lo hi mx s.boxes=some ((v,u),r,true))(hx:R S loc x vx)
  (h1:RO S loc lo lo') (h2:RO S loc hi hi') (h3:RO S loc mx mx'):
  ∃v' S' loc',(Instr.sliceAt t vx lo' hi' mx').run P w= .ok v' w∧Sim P X S' loc' (s.ups u) tm w∧R S' loc' v v':=by
 have fin:(∃v',(Instr.sliceAt t vx lo' hi' mx').run P w= .ok v' w∧R S loc v v'∧u=[])->∃v' S' loc',(Instr.sliceAt t vx lo' hi' mx').run P w= .ok v' w∧Sim P X S' loc' (s.ups u) tm w∧R S' loc' v v':=by
  rintro⟨v',g1,g2,rfl⟩
  exact⟨v',S,loc,g1,h,g2⟩
 cases h3 with
 |some h3=>
  unfold qP at hl
  rcases hu:P.underlying t with _|d
  ·simp only [hu]at hl;exact fE s.boxes hl
  rw [hu]at hl
  by_cases hxr:∃id ver,x= .ref id ver
  ·obtain⟨id,ver,rfl⟩:=hxr
   cases d<;>first|exact fE s.boxes hl|skip
   exact fin (zG h hu hl hx h1 h2 h3)
  rcases x with p|_|_|_|_|_|_|⟨_,_|_⟩|_|_|_|_|_<;>first|(cases d<;>exact fE s.boxes hl)|exact(hxr ⟨_,_,rfl⟩).elim|skip
  cases p<;>first|(cases d<;>exact fE s.boxes hl)|skip
  cases d<;>first|exact fE s.boxes hl|skip
  case slice es e=>
   simp only [xh]at hl
   rcases hb1:bnd lo 0 with _|l
   ·simp only [hb1]at hl;exact fE s.boxes hl
   rcases hi with _|(⟨⟨_⟩|⟨_,h'⟩|_|_|_|_⟩|_|_|_|_|_|_|_|_|_|_|_|_)<;>first|(simp only [hb1]at hl;exact fE s.boxes hl)|skip
   rename_i rvm vm _
   rcases rvm with⟨⟨_⟩|⟨_,m⟩|_|_|_|_⟩|_|_|_|_|_|_|_|_|_|_|_|_<;>first|(simp only [hb1]at hl;exact fE s.boxes hl)|skip
   rcases hk:szT P e with _|_|k
   ·simp only [hb1,hk]at hl;exact fE s.boxes hl
   ·simp only [hb1,hk]at hl;exact fE s.boxes hl
   simp only [hb1,hk]at hl
   by_cases h0:l=0∧h'=0∧m=0
   rotate_left
   ·rw [if_neg h0]at hl;exact fE s.boxes hl
   rw [if_pos h0]at hl
   obtain⟨rfl,rfl,rfl⟩:=h0
   obtain⟨_,r1,r2,g1,g2,_⟩:=M.bind_some hl
   obtain⟨hbx,_,_⟩:=M.qo g1
   obtain⟨g3, -, -⟩:=M.pN g2
   cases g3
   obtain⟨ad,c,rfl,hc⟩:=xN hx.uG
   obtain⟨loc',q1,q2,_⟩:=h.vn (es:=[]) (xs:=[]) hbx (Step.refl none w) hk (hdr:= .slice ad 0 0) (.inr ⟨rfl,rfl,ad,rfl⟩) (Flat.nil S _) (fun g hg=>by cases ad<;>cases hg) rfl
   have e3:=h3.p9
   subst e3
   refine⟨_,S,loc',?_,q1,q2⟩
   cases h2 with
   |some h2=>
    have e2:=h2.p9
    subst e2
    cases h1 with
    |none=>simp [Instr.sliceAt,run_underlying hu,Instr.slice,Instr.sliceBounds,Instr.sliceBound,asIntOf,pS hk]
    |some h1=>
     obtain⟨k,rfl⟩:=uX hb1
     simp only [bnd,Option.some.injEq]at hb1
     try subst hb1
     have e1:=h1.p9
     subst e1
     simp [Instr.sliceAt,run_underlying hu,Instr.slice,Instr.sliceBounds,Instr.sliceBound,asIntOf,pS hk]
 |none=>
  rcases hu:P.underlying t with _|d
  ·unfold qP at hl;simp only [hu]at hl;exact fE s.boxes hl
  rcases x with p|_|_|_|_|_|⟨id,ver⟩|⟨id,off⟩|_|_|⟨id,ver,a,b⟩|_|_<;>first|exact fin (Ax hl hx h1 h2)|skip
  case ptr=>
   unfold qP at hl
   rw [hu]at hl
   cases d<;>first|exact fE s.boxes hl|skip
   cases off<;>first|exact fE s.boxes hl|skip
   cases h1<;>first|exact fE s.boxes hl|skip
   cases h2<;>first|exact fE s.boxes hl|skip
   exact zC h hl hx
  case cptr=>
   unfold qP at hl
   rw [hu]at hl
   cases d<;>first|exact fE s.boxes hl|skip
   cases h1<;>first|exact fE s.boxes hl|skip
   cases h2<;>first|exact fE s.boxes hl|skip
   exact fin (zD hl hx)
  case ref=>
   unfold qP at hl
   rw [hu]at hl
   cases d<;>first|exact fE s.boxes hl|skip
   simp only at hl
   obtain⟨bx,r1,r2,g1,g2,_⟩:=M.bind_some hl
   obtain⟨hb,_,_⟩:=M.get_some g1
   cases bx with
   |var _=>exact fE s.boxes g2
   |dead=>exact fE s.boxes g2
   |map _ _ _=>exact fE s.boxes g2
   |arr ver' e' es=>
    refine fin (uL h hu g2 (fun es' hb' _ _=>?_) h1 h2)
    rw [hb]at hb'
    cases hb'
    obtain⟨sz,xs,hloc,hsz,how,hf⟩:=h.tW hb hx
    exact⟨sz,_,hloc,hsz,uN.ref how⟩
  case view=>
   unfold qP at hl
   rw [hu]at hl
   cases d<;>first|exact fE s.boxes hl|skip
   simp only at hl
   refine fin (uL h hu hl (fun es' hb' _ _=>?_) h1 h2)
   obtain⟨sz,xs,hdr,hloc,hsz,how,hf,ho,hd⟩:=h.wR hb' hx
   exact⟨sz,hdr,hloc,hsz,hd⟩
  case mo=>
   unfold qP at hl
   rw [hu]at hl
   cases d<;>first|exact fE s.boxes hl|skip
   rename_i e
   simp only at hl
   rcases hb1:bnd lo 0 with _|l
   ·simp only [hb1]at hl;exact fE s.boxes hl
   rcases hi with _|(⟨⟨_⟩|⟨_,h'⟩|_|_|_|_⟩|_|_|_|_|_|_|_|_|_|_|_|_)<;>first|(simp only [hb1]at hl;exact fE s.boxes hl)|skip
   rcases hk:szT P e with _|k
   ·simp only [hb1,hk]at hl;exact fE s.boxes hl
   simp only [hb1,hk]at hl
   by_cases h0:l=0∧h'=0
   rotate_left
   ·rw [if_neg h0]at hl;exact fE s.boxes hl
   rw [if_pos h0]at hl
   obtain⟨rfl,rfl⟩:=h0
   obtain⟨g3, -, -⟩:=M.pK hl
   cases g3
   cases hx
   refine fin ⟨.slice none 0 0,?_,.mo,rfl⟩
   cases h2 with
   |some h2=>
    have e2:=h2.p9
    subst e2
    cases h1 with
    |none=>simp [Instr.sliceAt,run_underlying hu,Instr.slice,Instr.sliceBounds,Instr.sliceBound,asIntOf,pS hk]
    |some h1=>
     obtain⟨k,rfl⟩:=uX hb1
     simp only [bnd,Option.some.injEq]at hb1
     try subst hb1
     have e1:=h1.p9
     subst e1
     simp [Instr.sliceAt,run_underlying hu,Instr.slice,Instr.sliceBounds,Instr.sliceBound,asIntOf,pS hk]
  all_goals
   unfold qP at hl
   rw [hu]at hl
   cases d<;>exact fE s.boxes hl
theorem Flat.append{sz:Nat}{es fs:List PD}{xs ys:List Value}(h:Flat S sz es xs)(hl:xs.length=es.length*sz)(h':Flat S sz fs ys):Flat S sz (es++fs) (xs++ys):=by
 refine⟨fun e he=>(List.mem_append.1 he).elim (h.len e) (h'.len e),fun u hu=>(List.mem_append.1 hu).elim (h.one u) (h'.one u),fun i e j x hi hj=>?_⟩
 by_cases hlt:i<es.length
 ·rw [List.getElem?_append_left hlt]at hi
  obtain⟨u,hu,hv⟩:=h.cell i e j x hi hj
  exact⟨u,by rw [List.getElem?_append_left (List.getElem?_eq_some_iff.1 hu).1];exact hu,hv⟩
 ·rw [List.getElem?_append_right za]at hi
  obtain⟨u,hu,hv⟩:=h'.cell (i-es.length) e j x hi hj
  refine⟨u,?_,hv⟩
  have hle:es.length*sz<=i*sz:=Nat.mul_le_mul_right _ za
  rw [List.getElem?_append_right za, <-hu]
  congr 1
  rw [hl,Nat.sub_mul]
  omega
def Appd(w:World)(S:pR)(sz:Nat)(vx:Value)(es:List PD):Prop:=
 ∃a c news,vx= .slice a es.length c∧news.length=es.length*sz∧Flat S sz es news∧(es≠ []->∃ad,a=some ad∧∀(j:Nat)u,news[j]? =some u->w.cell? (ad.add j)=some u)
theorem qM(h:Sim P X S loc s tm w){x:RV}{es:List PD}{r:List Nat}{vx:Value}{sz:Nat}(hl:qA x s.boxes=some (es,r,true))(hx:R S loc x vx)(hpos:0<sz)(hsz:∀e∈es,e.cells.length=sz):
  Appd w S sz vx es:=by
 rcases x with p|_|_|_|_|_|⟨id,ver⟩|_|_|_|_|_|_<;>first|exact fE s.boxes hl|skip
 ·cases p<;>first|exact fE s.boxes hl|skip
  rename_i es'
  obtain⟨h1, -, -⟩:=M.pK (b:=s.boxes) hl
  subst h1
  by_cases hne:es=[]
  ·subst hne
   obtain⟨a,c,rfl,_⟩:=xN hx.uG
   exact⟨a,c,[],rfl,sm,Flat.nil S _,fun h=>(h rfl).elim⟩
  ·obtain⟨e0,r0,he0⟩:∃e r,es=e::r:=by
    cases es with
    |nil=>exact(hne rfl).elim
    |cons e r=>exact⟨e,r,rfl⟩
   have h0:es[0]? =some e0:=by rw [he0];rfl
   obtain⟨b,o,c,sz',f,rfl,hc,hsz',hS,hV⟩:=hx.uG.elem h0
   have:sz'=sz:=by rw [<-hsz' e0 (List.mem_of_getElem? h0)];exact hsz e0 (List.mem_of_getElem? h0)
   subst this
   have key:∀q,q<es.length*sz'->∃e x,es[q / sz']? =some e∧e.cells[q%sz']? =some x:=by
    intro q hq
    have h1:q / sz'<es.length:=(Nat.div_lt_iff_lt_mul hpos).2 hq
    have h2:q%sz'<(es[q / sz']).cells.length:=by rw [hsz' _ (List.getElem_mem h1)];exact Nat.mod_lt _ hpos
    exact⟨_,_,zd h1,zd h2⟩
   have hget:∀q u,((List.range (es.length*sz')).map (fun q=>f (q / sz') (q%sz')))[q]? =some u->q<es.length*sz'∧u=f (q / sz') (q%sz'):=by
    intro q u hq
    rw [List.getElem?_map]at hq
    cases hr:(List.range (es.length*sz'))[q]? with
    |none=>simp [hr]at hq
    |some k=>
     simp only [hr,Option.map_some,Option.some.injEq]at hq
     obtain⟨hlt,he⟩:=List.getElem?_eq_some_iff.1 hr
     simp at hlt he
     subst he
     exact⟨hlt,hq.symm⟩
   have hcell:∀q,q<es.length*sz'->S ⟨b,o+q,none⟩=some (f (q / sz') (q%sz')):=by
    intro q hq
    obtain⟨e,x,h1,h2⟩:=key q hq
    have:=hS _ e _ x h1 h2
    rw [<-this]
    congr 2
    have:=Nat.div_add_mod q sz'
    rw [Nat.mul_comm]at this
    omega
   refine⟨_,c,(List.range (es.length*sz')).map (fun q=>f (q / sz') (q%sz')),rfl,sm,⟨hsz',?_,?_⟩,fun _=>⟨_,rfl,?_⟩⟩
   ·intro u hu
    obtain⟨q,hq,hqe⟩:=List.getElem_of_mem hu
    obtain⟨h1,h2⟩:=hget q u (by rw [zd hq,hqe])
    exact h.tJ _ u (by rw [h2];exact hcell q h1)
   ·intro i e j x hi hj
    have hi':=(List.getElem?_eq_some_iff.1 hi).1
    have hj':j<sz':=by
     have:=(List.getElem?_eq_some_iff.1 hj).1
     rw [hsz' e (List.mem_of_getElem? hi)]at this
     exact this
    have hq:i*sz'+j<es.length*sz':=by
     have:=Nat.mul_le_mul_right sz' (show i+1<=es.length from hi')
     rw [Nat.add_mul,Nat.one_mul]at this
     omega
    refine⟨f i j,?_,hV i e j x hi hj⟩
    rw [List.getElem?_map,List.getElem?_range hq]
    simp only [Option.map_some,Option.some.injEq]
    have hd:(i*sz'+j) / sz'=i:=by
     rw [Nat.mul_comm,Nat.mul_add_div hpos,Nat.div_eq_of_lt hj',Nat.add_zero]
    have hm:(i*sz'+j)%sz'=j:=by
     rw [Nat.mul_comm,Nat.mul_add_mod,Nat.mod_eq_of_lt hj']
    rw [hd,hm]
   ·intro q u hq
    obtain⟨h1,rfl⟩:=hget q u hq
    rw [rH]
    exact h.imm _ _ (hcell q h1)
 ·obtain⟨h1, -, -⟩:=M.pK (b:=s.boxes) hl
  subst h1
  cases hx with
  |mo=>exact⟨none,0,[],rfl,sm,Flat.nil S _,fun h=>(h rfl).elim⟩
 ·obtain⟨bx,r1,r2,h1,h2,_⟩:=M.bind_some hl
  obtain⟨hb,_,_⟩:=M.get_some h1
  cases bx with
  |arr ver' e' es'=>
   by_cases hver:ver=ver'
   rotate_left
   ·simp only [hver,if_false]at h2;exact fE s.boxes h2
   simp only [hver,if_true]at h2
   subst hver
   obtain⟨h3, -, -⟩:=M.pK h2
   subst h3
   obtain⟨sz',xs,hloc,hsz',how,hf⟩:=h.tW hb hx
   by_cases hne:es=[]
   ·subst hne
    obtain⟨a,c,rfl,_⟩:=how.hdr
    exact⟨a,c,[],rfl,sm,Flat.nil S _,fun h=>(h rfl).elim⟩
   ·obtain⟨e0,r0,he0⟩:∃e r,es=e::r:=by
     cases es with
     |nil=>exact(hne rfl).elim
     |cons e r=>exact⟨e,r,rfl⟩
    have hm:e0∈es:=by rw [he0];simp
    have:sz'=sz:=by rw [<-hf.len e0 hm];exact hsz e0 hm
    subst this
    have hpl:0<es.length:=by rw [he0];simp
    have how:=how.xc hpl
    obtain⟨g,c,rfl⟩:=ta how hpl
    exact⟨_,c,xs,rfl,how.1,hf,fun _=>⟨_,rfl,how.cells rfl⟩⟩
  |var _=>exact fE s.boxes h2
  |dead=>exact fE s.boxes h2
  |map _ _ _=>exact fE s.boxes h2
 ·rename_i id ver lo hi'
  obtain⟨bx,r1,r2,h1,h2,_⟩:=M.bind_some hl
  obtain⟨hb,_,_⟩:=M.get_some h1
  cases bx with
  |arr ver' e' es'=>
   by_cases hver:ver=ver'
   rotate_left
   ·simp only [hver,if_false]at h2;exact fE s.boxes h2
   simp only [hver,if_true]at h2
   subst hver
   obtain⟨h3, -,h4⟩:=M.pN h2
   subst h3
   have hn:lo<=hi'∧hi'<=es'.length:=of_decide_eq_true h4.symm
   obtain⟨sz',xs,hdr,hloc,hsz',how,hf,ho,hd⟩:=h.wR hb hx
   have hlen:((es'.drop lo).take (hi'-lo)).length=hi'-lo:=by rw [List.length_take,List.length_drop];omega
   have hget:∀(i:Nat)x,((es'.drop lo).take (hi'-lo))[i]? =some x->es'[lo+i]? =some x:=by
    intro i x hx
    rw [List.getElem?_take]at hx
    split at hx
    ·rwa [List.getElem?_drop]at hx
    ·cases hx
   by_cases hne:hi'-lo=0
   ·have:(es'.drop lo).take (hi'-lo)=[]:=by rw [hne];rfl
    rw [this]
    rcases hd with⟨rfl,a,rfl⟩|⟨g,n,c,rfl,_,_,rfl⟩
    ·exact⟨a,0,[],rfl,sm,Flat.nil S _,fun h=>(h rfl).elim⟩
    ·exact⟨_,c-lo,[],by rw [hne];rfl,sm,Flat.nil S _,fun h=>(h rfl).elim⟩
   ·rcases hd with⟨rfl,a,rfl⟩|⟨g,n,c,rfl,_,_,rfl⟩
    ·omega
    have hpl:0<es'.length:=by omega
    have hx0:((es'.drop lo).take (hi'-lo))[0]? =some (es'[lo]'za):=by
     rw [List.getElem?_take,if_pos za,List.getElem?_drop,Nat.add_zero,zd]
    have:sz'=sz:=by rw [<-hf.len _ (List.getElem_mem (by omega:lo<es'.length))];exact hsz _ (List.mem_of_getElem? hx0)
    subst this
    have how':=how.xc hpl
    have hxl:=how'.1
    have hmul:lo*sz'+(hi'-lo)*sz'=hi'*sz':=by rw [<-Nat.add_mul];congr 1;omega
    have hle:hi'*sz'<=es'.length*sz':=Nat.mul_le_mul_right _ hn.2
    refine⟨_,c-lo,(xs.drop (lo*sz')).take ((hi'-lo)*sz'),by rw [hlen],?_,⟨?_,?_,?_⟩,fun _=>⟨_,rfl,?_⟩⟩
    ·rw [hlen,List.length_take,List.length_drop];omega
    ·exact fun x hx=>hf.len x (List.mem_of_mem_drop (List.mem_of_mem_take hx))
    ·exact fun x hx=>hf.one x (List.mem_of_mem_drop (List.mem_of_mem_take hx))
    ·intro i x j y hi hj
     obtain⟨q,hq,hv⟩:=hf.cell (lo+i) x j y (hget i x hi) hj
     refine⟨q,?_,hv⟩
     have hil:i<hi'-lo:=by
      have:=(List.getElem?_eq_some_iff.1 hi).1
      rw [hlen]at this
      exact this
     have hjl:j<sz':=by
      have:=(List.getElem?_eq_some_iff.1 hj).1
      rw [hf.len x (List.mem_of_getElem? (hget i x hi))]at this
      exact this
     have hm:(i+1)*sz'<=(hi'-lo)*sz':=Nat.mul_le_mul_right _ hil
     rw [Nat.add_mul,Nat.one_mul]at hm
     rw [List.getElem?_take,if_pos za,List.getElem?_drop, <-hq]
     congr 1
     rw [Nat.add_mul]
     omega
    ·intro j q hq
     rw [List.getElem?_take]at hq
     split at hq
     ·rw [List.getElem?_drop]at hq
      have:=how'.cells (g:=g) rfl _ q hq
      rw [rH]at this⊢
      rw [<-this];congr 2;omega
     ·cases hq
  |var _=>exact fE s.boxes h2
  |dead=>exact fE s.boxes h2
  |map _ _ _=>exact fE s.boxes h2
end
end Go.Dw
