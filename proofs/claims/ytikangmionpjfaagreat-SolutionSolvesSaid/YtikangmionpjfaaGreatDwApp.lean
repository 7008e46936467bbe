
import Derived.Test.YtikangmionpjfaaGreatDwList
import Derived.Laws.Slices
set_option linter.unusedVariables false
set_option linter.unusedSimpArgs false
open Option.some renaming injEq->B7
open Nat renaming add_mul->CZ, add_zero->C0, le_refl->B6, min_eq_left->Ck, mul_comm->Cl, mul_le_mul_right->C1, one_mul->C2, sub_self->C3, zero_add->CF, zero_le->CG
open Bool renaming and_eq_true->C4, true_eq->C5
open List renaming getElem?_append_left->CM, getElem?_append_right->CN, getElem?_drop->CA, getElem?_map->Cm, getElem?_of_mem->Cn, getElem?_take->CB, getElem_mem->C9, length_drop->Co, length_take->Cp, mem_of_getElem?->CW, mem_of_mem_drop->Cq, mem_of_mem_take->Cr, range->CC
open Option renaming map_some->Cs
open Array renaming getElem?_eq_getElem->Cc
open Go.Sem renaming run_bind->Ch, run_pure->Cj
open Go.Result renaming andThen_ok->C7

namespace Go.Dw
section
variable {P:Program}{X:Ctx}{S:pr}{loc:pY}{s:St}{tm:Array Value}{w:World}
inductive RO(S:pr)(loc:pY):Option RV->Option Value->Prop
 |none:RO S loc none none
 |some {rv:RV} {v:Value} (h:R S loc rv v):RO S loc (some rv) (some v)
theorem ve{rv:RV}{d n:Int}(h:bnd (some rv) d=some n):∃k,rv= .d (.int k n):=by
 rcases rv with p|_|_|_|_|_|_|_|_|_|_|_|_<;>first|(simp [bnd]at h;done)|skip
 cases p<;>first|(simp [bnd]at h;done)|skip
 simp only [bnd,B7]at h
 subst h
 exact⟨_,rfl⟩
theorem wa{b:Bool}{len cap:Nat}{lo hi:Option RV}{g f:Option Value}{l h:Int}(h1:RO S loc lo g)(a:RO S loc hi f)(j:bnd lo 0=some l)(c:bnd hi len=some h)
  (q:0<=l∧l<=h∧h<=len) (hc:len<=cap):(Instr.sliceBounds b len cap g f none).run P w= .ok (l.toNat,h.toNat,cap) w:=by
 obtain⟨a1,a2,a3⟩:=q
 cases h1 with
 |none=>
  simp only [bnd,B7]at j
  subst j
  cases a with
  |none=>simp only [bnd,B7]at c;subst c;simp [Instr.sliceBounds]
  |some a=>
   obtain⟨k,rfl⟩:=ve c
   have:=a.pU
   subst this
   have e:0<=h∧h<=(cap:Int):=⟨za,za⟩
   simp [Instr.sliceBounds,Instr.sliceBound,asIntOf,e]
 |some h1=>
  obtain⟨k,rfl⟩:=ve j
  have:=h1.pU
  subst this
  cases a with
  |none=>
   simp only [bnd,B7]at c
   subst c
   have e:0<=l∧l<=(len:Int):=⟨za,za⟩
   simp [Instr.sliceBounds,Instr.sliceBound,asIntOf,e]
  |some a=>
   obtain⟨k',rfl⟩:=ve c
   have:=a.pU
   subst this
   have e:0<=h∧h<=(cap:Int):=⟨za,za⟩
   have p:l<=max h 0:=by omega
   simp [Instr.sliceBounds,Instr.sliceBound,asIntOf,e,a1,p]
theorem sr{α:Type}(l:List α)(hi:Option RV)(a h:Int)(c:bnd hi l.length=some h)(f:0<=a∧a<=h∧h<=l.length):
  cut l a.toNat (hiOf hi h)=(l.drop a.toNat).take (h.toNat-a.toNat):=by
 cases hi with
 |none=>
  simp only [bnd,B7]at c
  subst c
  simp only [hiOf,cut]
  rw [List.take_of_length_le]
  simp
 |some r=>simp only [hiOf,cut]
theorem Flat.nil(S:pr)(sz:Nat):Flat S sz [] []:=⟨(fun e he=>by cases he),(fun u hu=>by cases hu),(fun i e j x hi=>by simp at hi)⟩
theorem AK{L:Nat}{t:TypeId}{p:PD}{v:RV}{lo hi:Option RV}{G D:Option Value}{b:pP}{u:Ups}{r:List Nat}{O:Value}(y:qF P L t (.d p) lo hi none b=some ((v,u),r,true))(K:R S loc (.d p) O)
  (h1:RO S loc lo G) (N:RO S loc hi D):
  ∃v',(Instr.sliceAt t O G D none).run P w= .ok v' w∧R S loc v v'∧u=[]:=by
 unfold qF at y
 rcases hu:P.underlying t with _|d
 ·simp only [hu]at y;exact fE b y
 rw [hu]at y
 cases d<;>first|exact fE b y|skip
 case string=>
  cases p<;>first|exact fE b y|skip
  rename_i l
  rcases g:bnd lo 0 with _|a
  ·simp only [g]at y;exact fE b y
  rcases q:bnd hi l.length with _|h
  ·simp only [g,q]at y;exact fE b y
  simp only [g,q]at y
  obtain⟨H, -,B⟩:=pQ y
  cases H
  have C:=of_decide_eq_true B.symm
  have T:=K.uP
  subst T
  have I:=wa (P:=P) (w:=w) (b:=false) (len:=l.length) (cap:=l.length) h1 N g q C (B6 _)
  refine⟨.string ((ByteArray.mk l.toArray).extract a.toNat h.toNat),?_,?_,rfl⟩
  ·simp [Instr.sliceAt,run_underlying hu,Instr.slice,xM,I]
  ·rw [ByteArray.extract_mk,sr l hi a h q C]
   exact .d (.str _)
 case slice e=>
  cases p<;>first|exact fE b y|skip
  rename_i es
  rcases g:bnd lo 0 with _|a
  ·simp only [g]at y;exact fE b y
  rcases q:bnd hi es.length with _|h
  ·simp only [g,q]at y;exact fE b y
  rcases hk:szT P e with _|k
  ·simp only [g,q,hk]at y;exact fE b y
  simp only [g,q,hk]at y
  obtain⟨H, -,B⟩:=pQ y
  cases H
  simp only [C5,C4]at B
  obtain⟨B,W⟩:=B
  have C:=of_decide_eq_true B
  obtain⟨ad,c,rfl,hc⟩:=xL K.uH
  have I:=wa (P:=P) (w:=w) (b:=true) (len:=es.length) (cap:=c) h1 N g q C hc
  refine⟨.slice (if c=a.toNat then ad else ad.map (·.add (a.toNat*k))) (h.toNat-a.toNat) (c-a.toNat),?_,?_,rfl⟩
  ·simp [Instr.sliceAt,run_underlying hu,Instr.slice,I,pC hk]
  ·rw [sr es hi a h q C]
   have hlen:((es.drop a.toNat).take (h.toNat-a.toNat)).length=h.toNat-a.toNat:=by simp;omega
   refine .d ?_
   by_cases Y:h.toNat-a.toNat=0
   ·rw [Y]
    simp only [List.take_zero]
    exact .nil _ _
   ·have z:es[a.toNat]? =some es[a.toNat]:=zd za
    obtain⟨Q,o,c',sz,f,he,_,E,hS,hV⟩:=K.uH.elem z
    cases he
    have F:sz=k:=by
     have:=List.all_eq_true.1 W _ (CW z)
     rw [<-E _ (CW z)]
     simpa using this
    subst F
    rw [if_neg za]
    simp only [Cs,qg]
    have:=V.lst (S:=S) ((es.drop a.toNat).take (h.toNat-a.toNat)) Q (o+a.toNat*sz) (c-a.toNat) sz (fun i j=>f (a.toNat+i) j) (by rw [hlen];omega)
     (fun e he=>E e (Cq (Cr he)))
     (fun i e j x hi J => by
      rw [CB]at hi
      split at hi
      ·rw [CA]at hi
       have:=hS _ e j x hi J
       rw [<-this]
       congr 2
       rw [CZ]
       omega
      ·cases hi)
     (fun i e j x hi J => by
      rw [CB]at hi
      split at hi
      ·rw [CA]at hi
       exact hV _ e j x hi J
      ·cases hi)
    rw [hlen]at this
    exact this
def uR(hdr:Value)(sz a b:Nat)(v:Value):Prop:=
 (a=b∧∃a0,v= .slice a0 0 0)∨∃g n c,hdr= .slice (some ⟨g,0,none⟩) n c∧a<=b∧b<=c∧v= .slice (some ⟨g,a*sz,none⟩) (b-a) (c-a)
theorem uR.ref{e:TypeId}{sz n:Nat}{hdr:Value}{xs:List Value}(h:rowAt w e sz hdr n xs):uR hdr sz 0 n hdr:=by
 rcases h with⟨_,⟨rfl,rfl⟩|⟨g,cap,cur,_,rfl,_,_,h,_⟩⟩|⟨rfl,_,a,rfl⟩
 ·exact .inl ⟨rfl,none,rfl⟩
 ·exact .inr ⟨g,n,cap,rfl,CG _,h,sm⟩
 ·exact .inl ⟨rfl,a,rfl⟩
theorem uR.cap{hdr v:Value}{sz a b:Nat}(h:uR hdr sz a b v)(f:a<=b):∃ad c,v= .slice ad (b-a) c∧b-a<=c:=by
 rcases h with⟨rfl,a0,rfl⟩|⟨g,n,c,rfl,h1,j,rfl⟩
 ·exact⟨a0,0,by rw [C3],za⟩
 ·exact⟨_,_,rfl,za⟩
theorem uR.slice{hdr:Value}{sz a b len cap l h:Nat}{ad:Option Addr}(p:uR hdr sz a b (.slice ad len cap))(k:l<=h)(t:h<=b-a)(j:a<=b):
  uR hdr sz (a+l) (a+h) (.slice (if cap=l then ad else ad.map (·.add (l*sz))) (h-l) (cap-l)):=by
 rcases p with⟨rfl,a0,he⟩|⟨g,n,c,rfl,h1,r,he⟩
 ·cases he
  have f:h=0:=by omega
  have q:l=0:=by omega
  subst f q
  exact .inl ⟨rfl,ad,sm⟩
 ·cases he
  by_cases hc:c-a=l
  ·rw [if_pos hc]
   have:h=l:=by omega
   subst this
   exact .inl ⟨rfl,some ⟨g,a*sz,none⟩,by rw [hc,C3]⟩
  ·rw [if_neg hc]
   refine .inr ⟨g,n,c,rfl,za,za,?_⟩
   simp only [Cs,qg]
   congr 1
   ·rw [CZ]
   ·omega
   ·omega
theorem R.viewD{id ver lo hi:Nat}{e:TypeId}{sz:Nat}{hdr v:Value}(f:loc id=some (.arr ver e sz hdr))(ho:v.oneCell'=true)(h:uR hdr sz lo hi v):R S loc (.view id ver lo hi) v:=by
 refine .view id ver lo hi v _ ho f fun c j g a he=>?_
 cases he
 exact⟨B6 _,fun _=>h⟩
theorem uN(h:Sim P X S loc s tm w){t e:TypeId}{id ver a b:Nat}{v:RV}{lo hi:Option RV}{y q:Option Value}{u:Ups}{r:List Nat}{F:Value}(O:P.underlying t=some (.slice e))(j:sliceB P e id ver a b lo hi s.boxes=some ((v,u),r,true))
  (Q:∀es,s.boxes id=some (.arr ver e es)->a<=b->b<=es.length->∃sz hdr,loc id=some (.arr ver e sz hdr)∧szT P e=some sz∧uR hdr sz a b F)
  (h1:RO S loc lo y) (K:RO S loc hi q):
  ∃v',(Instr.sliceAt t F y q none).run P w= .ok v' w∧R S loc v v'∧u=[]:=by
 unfold sliceB at j
 rcases f:bnd lo 0 with _|l
 ·simp only [f]at j;exact fE s.boxes j
 rcases g:bnd hi ((b:Int)-a)with _|C
 ·simp only [f,g]at j;exact fE s.boxes j
 rcases hk:szT P e with _|_|k
 ·simp only [f,g,hk]at j;exact fE s.boxes j
 ·simp only [f,g,hk]at j;exact fE s.boxes j
 simp only [f,g,hk]at j
 obtain⟨G,r1,r2,g1,g2,_⟩:=M.bind_some j
 obtain⟨N,_,_⟩:=M.get_some g1
 cases G with
 |var _=>exact fE s.boxes g2
 |dead=>exact fE s.boxes g2
 |map _ _ _=>exact fE s.boxes g2
 |nest _ _ _ _ _=>exact fE s.boxes g2
 |hole _ _ _ _ _ _=>exact fE s.boxes g2
 |arr z I es=>
  by_cases p:ver=z∧e=I
  rotate_left
  ·simp only [p,if_false]at g2;exact fE s.boxes g2
  simp only [p,and_self,if_true]at g2
  obtain⟨rfl,rfl⟩:=p
  obtain⟨g3, -,g4⟩:=pQ g2
  cases g3
  obtain⟨B,H,T,W,Y⟩:a<=b∧b<=es.length∧0<=l∧l<=C∧C<=(b:Int)-a:=of_decide_eq_true g4.symm
  obtain⟨sz,hdr,L,x,E⟩:=Q es N B H
  rw [hk]at x
  cases x
  obtain⟨ad,c,rfl,hc⟩:=E.cap B
  have J:((b:Int)-a)=((b-a:Nat):Int):=by omega
  rw [J]at g
  have D:=wa (P:=P) (w:=w) (b:=true) (len:=b-a) (cap:=c) h1 K f g za hc
  refine⟨_,?_,R.viewD L rfl (E.slice (l:=l.toNat) (h:=C.toNat) za za B),rfl⟩
  simp [Instr.sliceAt,run_underlying O,Instr.slice,D,pC hk]
theorem Sim.Bv(h:Sim P X S loc s tm w){id b:Nat}{q:List PD}{ty:TypeId}{vs:Array Value}(r:s.boxes id=some (.var (q.map .d)))(f:loc id=some (.var b))(hw:w.heap[b]? =some (.cells vs ty (0,0)))(h1:∀v∈vs,v.oneCell'=true):
  Sim P X (qJ S b vs.toList) (upd loc id .dead) { s with boxes:=upd s.boxes id .dead } tm w∧Sub S (qJ S b vs.toList)∧(∀j v,vs[j]? =some v->qJ S b vs.toList ⟨b,j,none⟩=some v):=by
 have k:pN (loc id) .dead:=by rw [f];exact .dead _
 have l:=h.qh (Step.refl none w) id .dead .dead (fun b hc=>by cases hc) (.dead _ rfl) (fun b hc=>by cases hc) k
 refine⟨l.uD b vs.toList (fun j v g=>?_) (fun v p=>h1 v (by simpa using p)) (fun i L hi c=>?_) (h.own id _ b f rfl).symm,rD _ _ _,fun j v g=>ua (fun o=>h.rK id _ b f rfl o) (by simpa using g)⟩
 ·rw [cell_of_row w b j vs ty (0,0) hw]
  simpa using g
 ·by_cases a:i=id
  ·subst a;rw [pz]at hi;cases hi;cases c
  ·rw [p6 _ _ a]at hi
   exact a (h.inj i id L _ b hi f c rfl)
theorem zQ(h:Sim P X S loc s tm w){a:TypeId}{id:Nat}{v:RV}{u:Ups}{r:List Nat}{N:Value}(f:wq P id a s.boxes=some ((v,u),r,true))(H:R S loc (.ptr id 0) N):
  ∃v' S' loc',(Instr.sliceAt a N none none none).run P w= .ok v' w∧Sim P X S' loc' (s.ups u) tm w∧R S' loc' v v':=by
 unfold wq at f
 rcases hu:P.underlying a with _|d
 ·simp only [hu]at f;exact fE s.boxes f
 rw [hu]at f
 cases d<;>first|exact fE s.boxes f|skip
 rename_i n e
 rcases hk:szT P e with _|_|k
 ·simp only [hk]at f;exact fE s.boxes f
 ·simp only [hk]at f;exact fE s.boxes f
 simp only [hk]at f
 obtain⟨O,r1,r2,g1,g2,_⟩:=M.bind_some f
 obtain⟨K,_,_⟩:=M.get_some g1
 cases O with
 |arr _ _ _=>exact fE s.boxes g2
 |dead=>exact fE s.boxes g2
 |map _ _ _=>exact fE s.boxes g2
 |nest _ _ _ _ _=>exact fE s.boxes g2
 |hole _ _ _ _ _ _=>exact fE s.boxes g2
 |var cs=>
  rcases hp:u9 cs with _|l
  ·simp only [hp]at g2;exact fE s.boxes g2
  simp only [hp]at g2
  by_cases hc:pW P e=true∨k=0
  rotate_left
  ·rw [if_neg hc]at g2;exact fE s.boxes g2
  rw [if_pos hc]at g2
  obtain⟨g3, -,g4⟩:=M.pq g2
  cases g3
  simp only [C5,C4,decide_eq_true_eq]at g4
  obtain⟨F,g⟩:=g4
  have E:=uu hp
  subst E
  obtain⟨b,ty,vs,T,rfl,hw,hlen,W⟩:=h.zX K H
  have D:∀(i:Nat)p u,l[i]? =some p->vs[i]? =some u->V S p u:=fun i p u h1 Q=>by
   have:=W i (.d p) u (by simp [h1]) Q
   cases this with|d h=>exact h
  have q:vs.size=l.length:=by simpa using hlen
  have h1:∀u∈vs,u.oneCell'=true:=fun u hu=>by
   obtain⟨i,hi,rfl⟩:=Array.getElem_of_mem hu
   have z:i<l.length:=by omega
   exact((D i l[i] vs[i] (zd z) (Cc hi)).tf (List.all_eq_true.1 g _ (C9 z))).1
  obtain⟨Y,k2,k3⟩:=h.Bv K T hw h1
  have y:=ru (P:=P) e (k+1) n l
  have t:=uC (P:=P) e (k+1) (hc.imp (fun h=>h) (fun h=>za)) n l F (fun p hp=>List.all_eq_true.1 g p hp)
  have C:∀(i:Nat)x(j:Nat)c,(qx P e (k+1) n l)[i]? =some x->x.cells[j]? =some c->∃u,vs[i*(k+1)+j]? =some u∧V S c u:=fun i x j c hi B=>by
   have I:=(t i x hi).2 j c B
   have J:i*(k+1)+j<vs.size:=by rw [q];exact(List.getElem?_eq_some_iff.1 I).1
   exact⟨_,Cc J,D _ c _ I (Cc J)⟩
  have hV := V.lst (S := qJ S b vs.toList) (qx P e (k + 1) n l) b 0 n (k + 1) (fun i j => (vs[i * (k + 1) + j]?).getD default) (by rw [y]; exact B6 _) (fun x H => by
    obtain⟨i,hi⟩:=Cn H
    exact(t i x hi).1)
   (fun i x j c hi B => by
    obtain⟨u,hu,_⟩:=C i x j c hi B
    rw [CF,k3 _ u hu,hu];rfl)
   (fun i x j c hi B => by
    obtain⟨u,hu,G⟩:=C i x j c hi B
    rw [hu]
    exact G.mono k2)
  rw [y]at hV
  refine⟨.slice (some ⟨b,0,none⟩) n n,_,_,?_,Y,.d hV⟩
  simp only [Instr.sliceAt,run_underlying hu,Ch,C7,Instr.sureAddr,Cj,Instr.sliceBounds,pC hk]
  by_cases L:n=0
  ·simp [L]
  ·simp [L,Addr.add]
theorem zR{a:TypeId}{cs:List PD}{v:RV}{u:Ups}{r:List Nat}{G:Value}{g:pP}(f:wu P a cs g=some ((v,u),r,true))(D:R S loc (.cptr cs) G):
  ∃v',(Instr.sliceAt a G none none none).run P w= .ok v' w∧R S loc v v'∧u=[]:=by
 unfold wu at f
 rcases hu:P.underlying a with _|d
 ·simp only [hu]at f;exact fE g f
 rw [hu]at f
 cases d<;>first|exact fE g f|skip
 rename_i n e
 rcases hk:szT P e with _|_|k
 ·simp only [hk]at f;exact fE g f
 ·simp only [hk]at f;exact fE g f
 simp only [hk]at f
 by_cases hc:pW P e=true∨k=0
 rotate_left
 ·rw [if_neg hc]at f;exact fE g f
 rw [if_pos hc]at f
 obtain⟨g3, -,g4⟩:=M.pq f
 cases g3
 simp only [C5,C4,decide_eq_true_eq]at g4
 obtain⟨H,B⟩:=g4
 cases D with
 |cptr _ b o F hS hV=>
 have hlen:(cs.take (n*(k+1))).length=n*(k+1):=by simp;omega
 have t:=ru (P:=P) e (k+1) n (cs.take (n*(k+1)))
 have q:=uC (P:=P) e (k+1) (hc.imp (fun h=>h) (fun h=>za)) n (cs.take (n*(k+1))) hlen (fun p hp=>List.all_eq_true.1 B p hp)
 have z:∀(i:Nat)x(j:Nat)c,(qx P e (k+1) n (cs.take (n*(k+1))))[i]? =some x->x.cells[j]? =some c->cs[i*(k+1)+j]? =some c:=fun i x j c hi y=>by
  have C:=(q i x hi).2 j c y
  rw [CB]at C
  split at C
  ·exact C
  ·cases C
 have l := V.lst (S := S) (qx P e (k + 1) n (cs.take (n * (k + 1)))) b o n (k + 1) (fun i j => F (i * (k + 1) + j)) (by rw [t]; exact B6 _) (fun x D => by
   obtain⟨i,hi⟩:=Cn D
   exact(q i x hi).1)
  (fun i x j c hi y => by
   rw [Nat.add_assoc]
   exact hS _ c (z i x j c hi y))
  (fun i x j c hi y=>hV _ c (z i x j c hi y))
 rw [t]at l
 refine⟨.slice (some ⟨b,o,none⟩) n n,?_,.d l,rfl⟩
 simp only [Instr.sliceAt,run_underlying hu,Ch,C7,Instr.sureAddr,Cj,Instr.sliceBounds,pC hk]
 by_cases E:n=0
 ·simp [E]
 ·simp [E,Addr.add]
theorem zT(h:Sim P X S loc s tm w){t e:TypeId}{id ver:Nat}{v:RV}{lo hi:Option RV}{mx:RV}{y q:Option Value}{z:Value}{u:Ups}{r:List Nat}{I:Value}(T:P.underlying t=some (.slice e))(g:wv P e id ver lo hi mx s.boxes=some ((v,u),r,true))
  (W:R S loc (.ref id ver) I) (h1:RO S loc lo y) (B:RO S loc hi q) (L:R S loc mx z):
  ∃v',(Instr.sliceAt t I y q (some z)).run P w= .ok v' w∧R S loc v v'∧u=[]:=by
 unfold wv at g
 cases h1<;>first|exact fE s.boxes g|skip
 cases B<;>first|exact fE s.boxes g|skip
 rename_i D vh B
 cases D<;>first|exact fE s.boxes g|skip
 rename_i ph
 cases ph<;>first|exact fE s.boxes g|skip
 rename_i Y f
 cases mx<;>first|exact fE s.boxes g|skip
 rename_i pm
 cases pm<;>first|exact fE s.boxes g|skip
 rename_i km hm
 rcases hk:szT P e with _|_|k
 ·simp only [hk]at g;exact fE s.boxes g
 ·simp only [hk]at g;exact fE s.boxes g
 simp only [hk]at g
 by_cases p:f=hm
 rotate_left
 ·rw [if_neg p]at g;exact fE s.boxes g
 rw [if_pos p]at g
 subst p
 obtain⟨J,r1,r2,g1,g2,_⟩:=M.bind_some g
 obtain⟨N,_,_⟩:=M.get_some g1
 cases J with
 |var _=>exact fE s.boxes g2
 |dead=>exact fE s.boxes g2
 |map _ _ _=>exact fE s.boxes g2
 |nest _ _ _ _ _=>exact fE s.boxes g2
 |hole _ _ _ _ _ _=>exact fE s.boxes g2
 |arr l F es=>
  simp only at g2
  by_cases j:ver=l∧e=F
  rotate_left
  ·rw [if_neg j]at g2;exact fE s.boxes g2
  rw [if_pos j]at g2
  obtain⟨rfl,rfl⟩:=j
  obtain⟨g3, -,g4⟩:=M.pq g2
  cases g3
  obtain⟨E,c2⟩:0<=f∧f<=es.length:=of_decide_eq_true g4.symm
  obtain⟨sz,xs,x,Q,how,hf⟩:=h.tT N W
  obtain⟨a,c,rfl,hc⟩:=how.hdr
  have e2:=B.pU
  have K:=L.pU
  subst e2 K
  refine⟨.slice a f.toNat f.toNat,?_,.fview id ver f.toNat _ _ rfl x fun l F a5 H he=>by cases he;exact⟨B6 _,fun _=>⟨a,_,c,rfl,za,rfl⟩⟩,rfl⟩
  have d1:0<=f∧f<=(c:Int):=⟨E,za⟩
  have d2:0<=f∧f<=(f.toNat:Int):=⟨E,za⟩
  have C:(Instr.sliceBounds true es.length c none (some (.int Y f)) (some (.int km f))).run P w= .ok (0,f.toNat,f.toNat) w:=by
   simp [Instr.sliceBounds,Instr.sliceBound,asIntOf,d1,d2]
   intro O
   omega
  simp only [Instr.sliceAt,run_underlying T,Instr.slice,Ch,C7,C,pC hk,Cj]
  by_cases G:f.toNat=0
  ·simp [G]
  ·cases a<;>simp [G,Addr.add]
theorem Aw(h:Sim P X S loc s tm w){t e:TypeId}(hu:P.underlying t=some (.slice e)){es:List PD}{k k':IntKind}{l m:Int}{v:RV}{u:Ups}{r:List Nat}{q:Value}(g:yn P e es l m s.boxes=some ((v,u),r,true))(F:V S (.lst es) q):
  ∃v' S' loc',(Instr.sliceAt t q none (some (.int k l)) (some (.int k' m))).run P w= .ok v' w∧Sim P X S' loc' (s.ups u) tm w∧R S' loc' v v':=by
 unfold yn at g
 rcases hk:szT P e with _|_|sz
 ·simp only [hk]at g;exact fE s.boxes g
 ·simp only [hk]at g;exact fE s.boxes g
 simp only [hk]at g
 by_cases j:l=m
 rotate_left
 ·rw [if_neg j]at g;exact fE s.boxes g
 rw [if_pos j]at g
 subst j
 obtain⟨g3, -,g4⟩:=M.pq (b:=s.boxes) g
 cases g3
 have y:l=es.length:=of_decide_eq_true g4.symm
 subst y
 obtain⟨a,c,rfl,hc,E⟩:∃a c,q= .slice a es.length c∧es.length<=c∧V S (.lst es) (.slice a es.length es.length):=by
  cases F with
  |nil a c=>exact⟨a,c,rfl,CG _,.nil _ _⟩
  |lst _ b o c sz f h1 z B C=>exact⟨_,c,rfl,h1,.lst es b o _ sz f (B6 _) z B C⟩
 refine⟨.slice a es.length es.length,S,loc,?_,h,.dfull es a E⟩
 have d1:(0:Int)<=(es.length:Int)∧(es.length:Int)<=(c:Int):=⟨za,za⟩
 have p:(Instr.sliceBounds true es.length c none (some (.int k (es.length:Int))) (some (.int k' (es.length:Int)))).run P w= .ok (0,es.length,es.length) w:=by
  simp [Instr.sliceBounds,Instr.sliceBound,asIntOf]
  intro D
  omega
 simp only [Instr.sliceAt,run_underlying hu,Instr.slice,Ch,C7,p,pC hk,Cj]
 by_cases x:es.length=0
 ·simp [x]
 ·cases a<;>simp [x,Addr.add]
theorem AG(h:Sim P X S loc s tm w){t:TypeId}{x v:RV}{lo hi mx:Option RV}{Q I T:Option Value}{u:Ups}{r:List Nat}{W:Value}(f:xC P t x lo hi mx s.boxes=some ((v,u),r,true))(G:R S loc x W)
  (h1:RO S loc lo Q) (h2:RO S loc hi I) (h3:RO S loc mx T):
  ∃v' S' loc',(Instr.sliceAt t W Q I T).run P w= .ok v' w∧Sim P X S' loc' (s.ups u) tm w∧R S' loc' v v':=by
 unfold xC at f
 rcases hu:P.underlying t with _|d
 ·simp only [hu]at f;exact fE s.boxes f
 rw [hu]at f
 cases d<;>first|exact fE s.boxes f|skip
 rename_i e
 by_cases O:∃es,x= .d (.lst es)
 ·obtain⟨es,rfl⟩:=O
  cases G with
  |d G=>
  cases h1<;>first|exact fE s.boxes f|skip
  cases h2 with
  |none=>exact fE s.boxes f
  |some g1=>
  rename_i r1 v1
  cases r1<;>first|exact fE s.boxes f|skip
  rename_i p1
  cases p1<;>first|exact fE s.boxes f|skip
  cases h3 with
  |none=>exact fE s.boxes f
  |some g2=>
  rename_i r2 v2
  cases r2<;>first|exact fE s.boxes f|skip
  rename_i p2
  cases p2<;>first|exact fE s.boxes f|skip
  have e1:=g1.pU
  have e2:=g2.pU
  subst e1 e2
  exact Aw h hu f G
 cases x<;>first|exact fE s.boxes f|(rename_i p;cases p<;>first|exact fE s.boxes f|exact(O ⟨_,rfl⟩).elim)|skip
 rename_i id ver
 cases lo<;>first|exact fE s.boxes f|skip
 cases hi<;>first|exact fE s.boxes f|skip
 rename_i b5
 cases b5<;>first|exact fE s.boxes f|skip
 rename_i p0
 cases p0<;>first|exact fE s.boxes f|skip
 rename_i k l
 cases mx<;>first|exact fE s.boxes f|skip
 ·simp only at f
  rcases hk:szT P e with _|_|sz
  ·simp only [hk]at f;exact fE s.boxes f
  ·simp only [hk]at f;exact fE s.boxes f
  simp only [hk]at f
  obtain⟨bx,r1,r2,g1,g2,_⟩:=M.bind_some f
  obtain⟨hb,_,_⟩:=M.get_some g1
  cases bx with
  |var _=>exact fE s.boxes g2
  |dead=>exact fE s.boxes g2
  |map _ _ _=>exact fE s.boxes g2
  |nest _ _ _ _ _=>exact fE s.boxes g2
  |hole _ _ _ _ _ _=>exact fE s.boxes g2
  |arr B e' es=>
   simp only at g2
   by_cases z:ver=B∧e=e'
   rotate_left
   ·rw [if_neg z]at g2;exact fE s.boxes g2
   rw [if_pos z]at g2
   obtain⟨rfl,rfl⟩:=z
   obtain⟨g3, -,g4⟩:=M.pq g2
   cases g3
   obtain⟨c1,c2⟩:0<=l∧l<=es.length:=of_decide_eq_true g4.symm
   obtain⟨b6,xs,y,N,how,hf⟩:=h.tT hb G
   rw [hk]at N
   cases N
   cases h3
   have b0:sliceB P e id ver 0 es.length none (some (.d (.int k l))) s.boxes=some ((.view id ver (0+(0:Int).toNat) (0+l.toNat),[]),[id],true):=by
    have e0:((es.length:Nat):Int)-((0:Nat):Int)=(es.length:Int):=by simp
    simp only [sliceB,bnd,hk,M.bind,M.get,hb,and_self,if_true,pT,M.py,e0]
    simp [c1,c2]
   obtain ⟨v', k1, k2, -⟩ := uN h hu b0 (fun c4 H _ _ => by
    rw [hb]at H
    cases H
    exact⟨_,_,y,hk,uR.ref how⟩) h1 h2
   have F:uR W (sz+1) (0+(0:Int).toNat) (0+l.toNat) v':=by
    cases k2 with
    |view _ _ _ _ _ L ho Y hc=>
     rw [y]at Y
     cases Y
     exact(hc ver e (sz+1) W rfl).2 rfl
   have ho:v'.oneCell'=true:=by
    cases k2 with
    |view _ _ _ _ _ L ho Y hc=>exact ho
   have z1:(0+(0:Int).toNat)=0:=rfl
   have z2:(0+l.toNat)=l.toNat:=CF _
   rw [z1,z2]at F
   have hlen:(es.take l.toNat).length=l.toNat:=by simp;omega
   have E:Flat S (sz+1) (es.take l.toNat) (xs.take (l.toNat*(sz+1))):=by
    refine⟨fun x G=>hf.len x (Cr G),fun q hq=>hf.one q (Cr hq),fun i x j c hi hj=>?_⟩
    rw [CB]at hi
    split at hi
    ·rename_i a8
     obtain⟨q,h5,h6⟩:=hf.cell i x j c hi hj
     refine⟨q,?_,h6⟩
     have c5:j<sz+1:=by rw [<-hf.len x (CW hi)];exact(List.getElem?_eq_some_iff.1 hj).1
     have:i*(sz+1)+j<l.toNat*(sz+1):=by
      calc i*(sz+1)+j<i*(sz+1)+(sz+1):=by omega
       _=(i+1)*(sz+1):=by rw [CZ,C2]
       _<=l.toNat*(sz+1):=C1 _ a8
     rw [CB,if_pos this]
     exact h5
    ·cases hi
   have K:rowAt w e (sz+1) v' (es.take l.toNat).length (xs.take (l.toNat*(sz+1))):=by
    rw [hlen]
    rcases F with⟨h0,a,rfl⟩|⟨g,n,c,he,_,hc,rfl⟩
    ·rw [<-h0]
     exact .inr ⟨rfl,sm,a,rfl⟩
    ·simp only [Nat.zero_mul,Nat.sub_zero]
     subst he
     rcases how with⟨a7,⟨hn,_⟩|⟨g',cap,cur,fz,hg,a5,D,c0,J,a6,b4⟩⟩|⟨hn,c6,a,ha⟩
     ·cases hn
     ·cases hg
      refine .inl ⟨by rw [Cp,a7];exact Ck (C1 _ za),.inr ⟨g,c,cur,fz,rfl,a5,D,hc,J,a6,?_⟩⟩
      rw [<-b4,List.take_take]
      congr 1
      exact(Ck (C1 _ za)).symm
     ·cases ha
      have:l.toNat=0:=by omega
      rw [this]
      exact .inr ⟨rfl,sm,_,rfl⟩
   have b3:pN (loc id) (.arr (ver+1) e (sz+1) v'):=by
    rw [y]
    exact .arr za
   have a9:=h.qh (Step.refl none w) id (.arr (ver+1) e (es.take l.toNat)) (.arr (ver+1) e (sz+1) v') (fun b hc=>by cases hc) (.arr (ver+1) e _ (sz+1) v' _ hk K E)
    (fun b C => by
     refine .inl ⟨_,y,?_⟩
     rcases F with⟨h0,a,rfl⟩|⟨g,n,c,he,_,hc,rfl⟩
     ·cases a<;>cases C
     ·subst he
      cases c with
      |zero=>cases C
      |succ c=>cases C;rfl) b3
   have hR:R S (upd loc id (.arr (ver+1) e (sz+1) v')) (.ref id (ver+1)) v':= .ref id (ver+1) v' _ ho (pz _ _ _) fun B e' b6 c3 he=>by
    cases he;exact⟨B6 _,fun _=>rfl⟩
   exact⟨v',S,_,k1,a9,hR⟩
theorem zS(h:Sim P X S loc s tm w){Q:Nat}{t:TypeId}{x v:RV}{lo hi mx:Option RV}{C B D:Option Value}{u:Ups}{r:List Nat}{J:Value}(f:qF P Q t x lo hi mx s.boxes=some ((v,u),r,true))(E:R S loc x J)
  (h1:RO S loc lo C) (q:RO S loc hi B) (I:RO S loc mx D):
  ∃v' S' loc',(Instr.sliceAt t J C B D).run P w= .ok v' w∧Sim P X S' loc' (s.ups u) tm w∧R S' loc' v v':=by
 have fin:(∃v',(Instr.sliceAt t J C B D).run P w= .ok v' w∧R S loc v v'∧u=[])->∃v' S' loc',(Instr.sliceAt t J C B D).run P w= .ok v' w∧Sim P X S' loc' (s.ups u) tm w∧R S' loc' v v':=by
  rintro⟨v',g1,g2,rfl⟩
  exact⟨v',S,loc,g1,h,g2⟩
 cases I with
 |some I=>
  unfold qF at f
  rcases hu:P.underlying t with _|d
  ·simp only [hu]at f;exact fE s.boxes f
  rw [hu]at f
  by_cases H:∃id ver,x= .ref id ver
  ·obtain⟨id,ver,rfl⟩:=H
   cases d<;>first|exact fE s.boxes f|skip
   exact fin (zT h hu f E h1 q I)
  rcases x with p|_|_|_|_|_|_|⟨_,_|_⟩|_|_|_|_|_<;>first|(cases d<;>exact fE s.boxes f)|exact(H ⟨_,_,rfl⟩).elim|skip
  cases p<;>first|(cases d<;>exact fE s.boxes f)|skip
  cases d<;>first|exact fE s.boxes f|skip
  case slice es e=>
   simp only [xg]at f
   rcases j:bnd lo 0 with _|l
   ·simp only [j]at f;exact fE s.boxes f
   rcases hi with _|(⟨⟨_⟩|⟨_,N⟩|_|_|_|_⟩|_|_|_|_|_|_|_|_|_|_|_|_)<;>first|(simp only [j]at f;exact fE s.boxes f)|skip
   rename_i T vm _
   rcases T with⟨⟨_⟩|⟨_,m⟩|_|_|_|_⟩|_|_|_|_|_|_|_|_|_|_|_|_<;>first|(simp only [j]at f;exact fE s.boxes f)|skip
   rcases hk:szT P e with _|_|k
   ·simp only [j,hk]at f;exact fE s.boxes f
   ·simp only [j,hk]at f;exact fE s.boxes f
   simp only [j,hk]at f
   by_cases F:l=0∧N=0∧m=0
   rotate_left
   ·rw [if_neg F]at f;exact fE s.boxes f
   rw [if_pos F]at f
   obtain⟨rfl,rfl,rfl⟩:=F
   obtain⟨_,r1,r2,g1,g2,_⟩:=M.bind_some f
   obtain⟨O,_,_⟩:=M.qj g1
   obtain⟨g3, -, -⟩:=M.pq g2
   cases g3
   obtain⟨ad,c,rfl,hc⟩:=xL E.uH
   obtain⟨loc',q1,q2,_⟩:=h.vv (es:=[]) (xs:=[]) O (Step.refl none w) hk (hdr:= .slice ad 0 0) (.inr ⟨rfl,rfl,ad,rfl⟩) (Flat.nil S _) (fun g hg=>by cases ad<;>cases hg) rfl
   have e3:=I.pU
   subst e3
   refine⟨_,S,loc',?_,q1,q2⟩
   cases q with
   |some q=>
    have e2:=q.pU
    subst e2
    cases h1 with
    |none=>simp [Instr.sliceAt,run_underlying hu,Instr.slice,Instr.sliceBounds,Instr.sliceBound,asIntOf,pC hk]
    |some h1=>
     obtain⟨k,rfl⟩:=ve j
     simp only [bnd,B7]at j
     try subst j
     have K:=h1.pU
     subst K
     simp [Instr.sliceAt,run_underlying hu,Instr.slice,Instr.sliceBounds,Instr.sliceBound,asIntOf,pC hk]
 |none=>
  rcases hu:P.underlying t with _|d
  ·unfold qF at f;simp only [hu]at f;exact fE s.boxes f
  rcases x with p|_|_|_|_|_|⟨id,ver⟩|⟨id,off⟩|_|_|⟨id,ver,a,b⟩|_|_<;>first|exact fin (AK f E h1 q)|skip
  case ptr=>
   unfold qF at f
   rw [hu]at f
   cases d<;>first|exact fE s.boxes f|skip
   cases off<;>first|exact fE s.boxes f|skip
   cases h1<;>first|exact fE s.boxes f|skip
   cases q<;>first|exact fE s.boxes f|skip
   exact zQ h f E
  case cptr=>
   unfold qF at f
   rw [hu]at f
   cases d<;>first|exact fE s.boxes f|skip
   cases h1<;>first|exact fE s.boxes f|skip
   cases q<;>first|exact fE s.boxes f|skip
   exact fin (zR f E)
  case ref=>
   unfold qF at f
   rw [hu]at f
   cases d<;>first|exact fE s.boxes f|skip
   simp only at f
   obtain⟨bx,r1,r2,g1,g2,_⟩:=M.bind_some f
   obtain⟨W,_,_⟩:=M.get_some g1
   cases bx with
   |var _=>exact fE s.boxes g2
   |dead=>exact fE s.boxes g2
   |map _ _ _=>exact fE s.boxes g2
   |nest _ _ _ _ _=>exact fE s.boxes g2
   |hole _ _ _ _ _ _=>exact fE s.boxes g2
   |arr Y e' es=>
    refine fin (uN h hu g2 (fun L z _ _=>?_) h1 q)
    rw [W]at z
    cases z
    obtain⟨sz,xs,y,G,how,hf⟩:=h.tT W E
    exact⟨sz,_,y,G,uR.ref how⟩
  case view=>
   unfold qF at f
   rw [hu]at f
   cases d<;>first|exact fE s.boxes f|skip
   simp only at f
   refine fin (uN h hu f (fun L z _ _=>?_) h1 q)
   obtain⟨sz,xs,hdr,y,G,how,hf,ho,hd⟩:=h.wV z E
   exact⟨sz,hdr,y,G,hd⟩
  case px=>
   unfold qF at f
   rw [hu]at f
   cases d<;>first|exact fE s.boxes f|skip
   rename_i e
   simp only at f
   rcases j:bnd lo 0 with _|l
   ·simp only [j]at f;exact fE s.boxes f
   rcases hi with _|(⟨⟨_⟩|⟨_,N⟩|_|_|_|_⟩|_|_|_|_|_|_|_|_|_|_|_|_)<;>first|(simp only [j]at f;exact fE s.boxes f)|skip
   rcases hk:szT P e with _|k
   ·simp only [j,hk]at f;exact fE s.boxes f
   simp only [j,hk]at f
   by_cases F:l=0∧N=0
   rotate_left
   ·rw [if_neg F]at f;exact fE s.boxes f
   rw [if_pos F]at f
   obtain⟨rfl,rfl⟩:=F
   obtain⟨g3, -, -⟩:=M.pj f
   cases g3
   cases E
   refine fin ⟨.slice none 0 0,?_,.px,rfl⟩
   cases q with
   |some q=>
    have e2:=q.pU
    subst e2
    cases h1 with
    |none=>simp [Instr.sliceAt,run_underlying hu,Instr.slice,Instr.sliceBounds,Instr.sliceBound,asIntOf,pC hk]
    |some h1=>
     obtain⟨k,rfl⟩:=ve j
     simp only [bnd,B7]at j
     try subst j
     have K:=h1.pU
     subst K
     simp [Instr.sliceAt,run_underlying hu,Instr.slice,Instr.sliceBounds,Instr.sliceBound,asIntOf,pC hk]
  all_goals
   unfold qF at f
   rw [hu]at f
   cases d<;>exact fE s.boxes f
theorem Flat.append{sz:Nat}{es g:List PD}{xs ys:List Value}(h:Flat S sz es xs)(l:xs.length=es.length*sz)(a:Flat S sz g ys):Flat S sz (es++g) (xs++ys):=by
 refine⟨fun e he=>(List.mem_append.1 he).elim (h.len e) (a.len e),fun u hu=>(List.mem_append.1 hu).elim (h.one u) (a.one u),fun i e j x hi k=>?_⟩
 by_cases c:i<es.length
 ·rw [CM c]at hi
  obtain⟨u,hu,f⟩:=h.cell i e j x hi k
  exact⟨u,by rw [CM (List.getElem?_eq_some_iff.1 hu).1];exact hu,f⟩
 ·rw [CN za]at hi
  obtain⟨u,hu,f⟩:=a.cell (i-es.length) e j x hi k
  refine⟨u,?_,f⟩
  have hle:es.length*sz<=i*sz:=C1 _ za
  rw [CN za, <-hu]
  congr 1
  rw [l,Nat.sub_mul]
  omega
def Appd(w:World)(S:pr)(sz:Nat)(f:Value)(es:List PD):Prop:=
 ∃a c news,f= .slice a es.length c∧news.length=es.length*sz∧Flat S sz es news∧(es≠ []->∃ad,a=some ad∧∀(j:Nat)u,news[j]? =some u->w.cell? (ad.add j)=some u)
theorem qm(h:Sim P X S loc s tm w){x:RV}{es:List PD}{r:List Nat}{vx:Value}{sz:Nat}(W:p7 x s.boxes=some (es,r,true))(H:R S loc x vx)(J:0<sz)(T:∀e∈es,e.cells.length=sz):
  Appd w S sz vx es:=by
 rcases x with p|_|_|_|_|_|⟨id,ver⟩|_|_|_|_|_|_<;>first|exact fE s.boxes W|skip
 ·cases p<;>first|exact fE s.boxes W|skip
  rename_i z
  obtain⟨h1, -, -⟩:=M.pj (b:=s.boxes) W
  subst h1
  by_cases G:es=[]
  ·subst G
   obtain⟨a,c,rfl,_⟩:=xL H.uH
   exact⟨a,c,[],rfl,sm,Flat.nil S _,fun h=>(h rfl).elim⟩
  ·obtain⟨Q,r0,L⟩:∃e r,es=e::r:=by
    cases es with
    |nil=>exact(G rfl).elim
    |cons e r=>exact⟨e,r,rfl⟩
   have h0:es[0]? =some Q:=by rw [L];rfl
   obtain⟨b,o,c,l,f,rfl,hc,E,hS,hV⟩:=H.uH.elem h0
   have:l=sz:=by rw [<-E Q (CW h0)];exact T Q (CW h0)
   subst this
   have key:∀q,q<es.length*l->∃e x,es[q / l]? =some e∧e.cells[q%l]? =some x:=by
    intro q D
    have h1:q / l<es.length:=(Nat.div_lt_iff_lt_mul J).2 D
    have B:q%l<(es[q / l]).cells.length:=by rw [E _ (C9 h1)];exact Nat.mod_lt _ J
    exact⟨_,_,zd h1,zd B⟩
   have F:∀q u,((CC (es.length*l)).map (fun q=>f (q / l) (q%l)))[q]? =some u->q<es.length*l∧u=f (q / l) (q%l):=by
    intro q u D
    rw [Cm]at D
    cases hr:(CC (es.length*l))[q]? with
    |none=>simp [hr]at D
    |some k=>
     simp only [hr,Cs,B7]at D
     obtain⟨a7,he⟩:=List.getElem?_eq_some_iff.1 hr
     simp at a7 he
     subst he
     exact⟨a7,D.symm⟩
   have I:∀q,q<es.length*l->S ⟨b,o+q,none⟩=some (f (q / l) (q%l)):=by
    intro q D
    obtain⟨e,x,h1,B⟩:=key q D
    have:=hS _ e _ x h1 B
    rw [<-this]
    congr 2
    have:=Nat.div_add_mod q l
    rw [Cl]at this
    omega
   refine⟨_,c,(CC (es.length*l)).map (fun q=>f (q / l) (q%l)),rfl,sm,⟨E,?_,?_⟩,fun _=>⟨_,rfl,?_⟩⟩
   ·intro u hu
    obtain⟨q,D,a9⟩:=List.getElem_of_mem hu
    obtain⟨h1,B⟩:=F q u (by rw [zd D,a9])
    exact h.ti _ u (by rw [B];exact I q h1)
   ·intro i e j x hi Y
    have t:=(List.getElem?_eq_some_iff.1 hi).1
    have a5:j<l:=by
     have:=(List.getElem?_eq_some_iff.1 Y).1
     rw [E e (CW hi)]at this
     exact this
    have D:i*l+j<es.length*l:=by
     have:=C1 l (show i+1<=es.length from t)
     rw [CZ,C2]at this
     omega
    refine⟨f i j,?_,hV i e j x hi Y⟩
    rw [Cm,List.getElem?_range D]
    simp only [Cs,B7]
    have hd:(i*l+j) / l=i:=by
     rw [Cl,Nat.mul_add_div J,Nat.div_eq_of_lt a5,C0]
    have hm:(i*l+j)%l=j:=by
     rw [Cl,Nat.mul_add_mod,Nat.mod_eq_of_lt a5]
    rw [hd,hm]
   ·intro q u D
    obtain⟨h1,rfl⟩:=F q u D
    rw [qg]
    exact h.imm _ _ (I q h1)
 ·obtain⟨h1, -, -⟩:=M.pj (b:=s.boxes) W
  subst h1
  cases H with
  |px=>exact⟨none,0,[],rfl,sm,Flat.nil S _,fun h=>(h rfl).elim⟩
 ·obtain⟨bx,r1,r2,h1,B,_⟩:=M.bind_some W
  obtain⟨hb,_,_⟩:=M.get_some h1
  cases bx with
  |arr K e' z=>
   by_cases C:ver=K
   rotate_left
   ·simp only [C,if_false]at B;exact fE s.boxes B
   simp only [C,if_true]at B
   subst C
   obtain⟨h3, -, -⟩:=M.pj B
   subst h3
   obtain⟨l,xs,a6,E,how,hf⟩:=h.tT hb H
   by_cases G:es=[]
   ·subst G
    obtain⟨a,c,rfl,_⟩:=how.hdr
    exact⟨a,c,[],rfl,sm,Flat.nil S _,fun h=>(h rfl).elim⟩
   ·obtain⟨Q,r0,L⟩:∃e r,es=e::r:=by
     cases es with
     |nil=>exact(G rfl).elim
     |cons e r=>exact⟨e,r,rfl⟩
    have hm:Q∈es:=by rw [L];simp
    have:l=sz:=by rw [<-hf.len Q hm];exact T Q hm
    subst this
    have N:0<es.length:=by rw [L];simp
    have how:=how.rz N
    obtain⟨g,c,rfl⟩:=qH how N
    exact⟨_,c,xs,rfl,how.1,hf,fun _=>⟨_,rfl,how.cells rfl⟩⟩
  |var _=>exact fE s.boxes B
  |dead=>exact fE s.boxes B
  |map _ _ _=>exact fE s.boxes B
  |nest _ _ _ _ _=>exact fE s.boxes B
  |hole _ _ _ _ _ _=>exact fE s.boxes B
 ·rename_i id ver lo t
  obtain⟨bx,r1,r2,h1,B,_⟩:=M.bind_some W
  obtain⟨hb,_,_⟩:=M.get_some h1
  cases bx with
  |arr K e' z=>
   by_cases C:ver=K
   rotate_left
   ·simp only [C,if_false]at B;exact fE s.boxes B
   simp only [C,if_true]at B
   subst C
   obtain⟨h3, -,h4⟩:=M.pq B
   subst h3
   have hn:lo<=t∧t<=z.length:=of_decide_eq_true h4.symm
   obtain⟨l,xs,hdr,a6,E,how,hf,ho,hd⟩:=h.wV hb H
   have hlen:((z.drop lo).take (t-lo)).length=t-lo:=by rw [Cp,Co];omega
   have F:∀(i:Nat)x,((z.drop lo).take (t-lo))[i]? =some x->z[lo+i]? =some x:=by
    intro i x H
    rw [CB]at H
    split at H
    ·rwa [CA]at H
    ·cases H
   by_cases G:t-lo=0
   ·have:(z.drop lo).take (t-lo)=[]:=by rw [G];rfl
    rw [this]
    rcases hd with⟨rfl,a,rfl⟩|⟨g,n,c,rfl,_,_,rfl⟩
    ·exact⟨a,0,[],rfl,sm,Flat.nil S _,fun h=>(h rfl).elim⟩
    ·exact⟨_,c-lo,[],by rw [G];rfl,sm,Flat.nil S _,fun h=>(h rfl).elim⟩
   ·rcases hd with⟨rfl,a,rfl⟩|⟨g,n,c,rfl,_,_,rfl⟩
    ·omega
    have N:0<z.length:=by omega
    have b0:((z.drop lo).take (t-lo))[0]? =some (z[lo]'za):=by
     rw [CB,if_pos za,CA,C0,zd]
    have:l=sz:=by rw [<-hf.len _ (C9 (by omega:lo<z.length))];exact T _ (CW b0)
    subst this
    have O:=how.rz N
    have b4:=O.1
    have hmul:lo*l+(t-lo)*l=t*l:=by rw [<-CZ];congr 1;omega
    have hle:t*l<=z.length*l:=C1 _ hn.2
    refine⟨_,c-lo,(xs.drop (lo*l)).take ((t-lo)*l),by rw [hlen],?_,⟨?_,?_,?_⟩,fun _=>⟨_,rfl,?_⟩⟩
    ·rw [hlen,Cp,Co];omega
    ·exact fun x H=>hf.len x (Cq (Cr H))
    ·exact fun x H=>hf.one x (Cq (Cr H))
    ·intro i x j y hi Y
     obtain⟨q,D,hv⟩:=hf.cell (lo+i) x j y (F i x hi) Y
     refine⟨q,?_,hv⟩
     have a8:i<t-lo:=by
      have:=(List.getElem?_eq_some_iff.1 hi).1
      rw [hlen]at this
      exact this
     have b3:j<l:=by
      have:=(List.getElem?_eq_some_iff.1 Y).1
      rw [hf.len x (CW (F i x hi))]at this
      exact this
     have hm:(i+1)*l<=(t-lo)*l:=C1 _ a8
     rw [CZ,C2]at hm
     rw [CB,if_pos za,CA, <-D]
     congr 1
     rw [CZ]
     omega
    ·intro j q D
     rw [CB]at D
     split at D
     ·rw [CA]at D
      have:=O.cells (g:=g) rfl _ q D
      rw [qg]at this⊢
      rw [<-this];congr 2;omega
     ·cases D
  |var _=>exact fE s.boxes B
  |dead=>exact fE s.boxes B
  |map _ _ _=>exact fE s.boxes B
  |nest _ _ _ _ _=>exact fE s.boxes B
  |hole _ _ _ _ _ _=>exact fE s.boxes B
end
end Go.Dw
