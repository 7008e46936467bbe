
import Derived.Test.YthkfkgoddhehcaaGreatDwList
import Derived.Laws.Slices
set_option linter.unusedVariables false
set_option linter.unusedSimpArgs false
open Option.some renaming injEq->EC
open Nat renaming add_mul->E3, add_zero->E4, le_refl->EB, min_eq_left->FM, mul_comm->FN, mul_le_mul_right->E5, one_mul->E6, sub_self->E7, zero_add->EJ
open Bool renaming and_eq_true->E8, true_eq->E9
open List renaming getElem?_append_left->ES, getElem?_append_right->ET, getElem?_drop->EF, getElem?_map->FO, getElem?_of_mem->FP, getElem?_take->EG, getElem_mem->FB, length_drop->FQ, length_take->FR, mem_of_getElem?->E1, mem_of_mem_drop->FT, mem_of_mem_take->FU, range->EH
open Option renaming map_some->FV
open Array renaming getElem?_eq_getElem->FE

namespace Go.Dw
section
variable {P:Program}{X:Ctx}{S:tG}{loc:ui}{s:St}{tm:Array Value}{w:World}
inductive RO(S:tG)(loc:ui):Option RV->Option Value->Prop
 |none:RO S loc none none
 |some {rv:RV} {v:Value} (h:R S loc rv v):RO S loc (some rv) (some v)
theorem yo{rv:RV}{d n:Int}(h:bnd (some rv) d=some n):∃k,rv= .d (.int k n):=by
 rcases rv with p|_|_|_|_|_|_|_|_|_|_|_|_<;>first|(simp [bnd]at h;done)|skip
 cases p<;>first|(simp [bnd]at h;done)|skip
 simp only [bnd,EC]at h
 subst h
 exact⟨_,rfl⟩
theorem zi{b:Bool}{len cap:Nat}{lo hi:Option RV}{g f:Option Value}{l h:Int}(h1:RO S loc lo g)(a:RO S loc hi f)(j:bnd lo 0=some l)(c:bnd hi len=some h)
  (q:0<=l∧l<=h∧h<=len) (hc:len<=cap):(Instr.sliceBounds b len cap g f none).run P w= .ok (l.toNat,h.toNat,cap) w:=by
 obtain⟨a1,a2,a3⟩:=q
 cases h1 with
 |none=>
  simp only [bnd,EC]at j
  subst j
  cases a with
  |none=>simp only [bnd,EC]at c;subst c;simp [Instr.sliceBounds]
  |some a=>
   obtain⟨k,rfl⟩:=yo c
   have:=a.uo
   subst this
   have e:0<=h∧h<=(cap:Int):=⟨za,za⟩
   simp [Instr.sliceBounds,Instr.sliceBound,asIntOf,e]
 |some h1=>
  obtain⟨k,rfl⟩:=yo j
  have:=h1.uo
  subst this
  cases a with
  |none=>
   simp only [bnd,EC]at c
   subst c
   have e:0<=l∧l<=(len:Int):=⟨za,za⟩
   simp [Instr.sliceBounds,Instr.sliceBound,asIntOf,e]
  |some a=>
   obtain⟨k',rfl⟩:=yo c
   have:=a.uo
   subst this
   have e:0<=h∧h<=(cap:Int):=⟨za,za⟩
   have p:l<=max h 0:=by omega
   simp [Instr.sliceBounds,Instr.sliceBound,asIntOf,e,a1,p]
theorem xo{α:Type}(l:List α)(hi:Option RV)(a h:Int)(c:bnd hi l.length=some h)(f:0<=a∧a<=h∧h<=l.length):
  cut l a.toNat (hiOf hi h)=(l.drop a.toNat).take (h.toNat-a.toNat):=by
 cases hi with
 |none=>
  simp only [bnd,EC]at c
  subst c
  simp only [hiOf,cut]
  rw [List.take_of_length_le]
  simp
 |some r=>simp only [hiOf,cut]
theorem Flat.nil(S:tG)(sz:Nat):Flat S sz [] []:=⟨(λe he=>by cases he),(λu hu=>by cases hu),(λi e j x hi=>by simp at hi)⟩
theorem C9{L:Nat}{t:TypeId}{p:PD}{v:RV}{lo hi:Option RV}{G D:Option Value}{b:tY}{u:Ups}{r:List Nat}{O:Value}(y:u6 P L t (.d p) lo hi none b=some ((v,u),r,true))(K:R S loc (.d p) O)
  (h1:RO S loc lo G) (N:RO S loc hi D):
  ∃v',(Instr.sliceAt t O G D none).run P w= .ok v' w∧R S loc v v'∧u=[]:=by
 unfold u6 at y
 rcases hu:P.underlying t with _|d
 ·simp only [hu]at y;exact fE b y
 rw [hu]at y
 cases d<;>first|exact fE b y|skip
 case string=>
  cases p<;>first|exact fE b y|skip
  rename_i l
  rcases g:bnd lo 0 with _|a
  ·simp only [g]at y;exact fE b y
  rcases q:bnd hi l.length with _|h
  ·simp only [g,q]at y;exact fE b y
  simp only [g,q]at y
  obtain⟨H, -,B⟩:=ua y
  cases H
  have C:=of_decide_eq_true B.symm
  have T:=K.xZ
  subst T
  have I:=zi (P:=P) (w:=w) (b:=false) (len:=l.length) (cap:=l.length) h1 N g q C (EB _)
  refine⟨.string ((ByteArray.mk l.toArray).extract a.toNat h.toNat),?_,?_,rfl⟩
  ·simp [Instr.sliceAt,run_underlying hu,Instr.slice,A2,I]
  ·rw [ByteArray.extract_mk,xo l hi a h q C]
   exact .d (.str _)
 case slice e=>
  cases p<;>first|exact fE b y|skip
  rename_i es
  rcases g:bnd lo 0 with _|a
  ·simp only [g]at y;exact fE b y
  rcases q:bnd hi es.length with _|h
  ·simp only [g,q]at y;exact fE b y
  rcases hk:szT P e with _|k
  ·simp only [g,q,hk]at y;exact fE b y
  simp only [g,q,hk]at y
  obtain⟨H, -,B⟩:=ua y
  cases H
  simp only [E9,E8]at B
  obtain⟨B,W⟩:=B
  have C:=of_decide_eq_true B
  obtain⟨ad,c,rfl,hc⟩:=A1 K.xT
  have I:=zi (P:=P) (w:=w) (b:=true) (len:=es.length) (cap:=c) h1 N g q C hc
  refine⟨.slice (if c=a.toNat then ad else ad.map (·.add (a.toNat*k))) (h.toNat-a.toNat) (c-a.toNat),?_,?_,rfl⟩
  ·simp [Instr.sliceAt,run_underlying hu,Instr.slice,I,tQ hk]
  ·rw [xo es hi a h q C]
   have hlen:((es.drop a.toNat).take (h.toNat-a.toNat)).length=h.toNat-a.toNat:=by simp;omega
   refine .d ?_
   by_cases Y:h.toNat-a.toNat=0
   ·rw [Y]
    simp only [List.take_zero]
    exact .nil _ _
   ·have z:es[a.toNat]? =some es[a.toNat]:=ze za
    obtain⟨Q,o,c',sz,f,he,_,E,hS,hV⟩:=K.xT.elem z
    cases he
    have F:sz=k:=by
     have:=List.all_eq_true.1 W _ (E1 z)
     rw [<-E _ (E1 z)]
     simpa using this
    subst F
    rw [if_neg za]
    simp only [FV,uC]
    have:=V.lst (S:=S) ((es.drop a.toNat).take (h.toNat-a.toNat)) Q (o+a.toNat*sz) (c-a.toNat) sz (λi j=>f (a.toNat+i) j) (by rw [hlen];omega)
     (λe he=>E e (FT (FU he)))
     (λi e j x hi J => by
      rw [EG]at hi
      split at hi
      ·rw [EF]at hi
       have:=hS _ e j x hi J
       rw [<-this]
       congr 2
       rw [E3]
       omega
      ·cases hi)
     (λi e j x hi J => by
      rw [EG]at hi
      split at hi
      ·rw [EF]at hi
       exact hV _ e j x hi J
      ·cases hi)
    rw [hlen]at this
    exact this
def yc(hdr:Value)(sz a b:Nat)(v:Value):Prop:=
 (a=b∧∃a0,v= .slice a0 0 0)∨∃g n c,hdr= .slice (some ⟨g,0,none⟩) n c∧a<=b∧b<=c∧v= .slice (some ⟨g,a*sz,none⟩) (b-a) (c-a)
theorem yc.ref{e:TypeId}{sz n:Nat}{hdr:Value}{xs:List Value}(h:rowAt w e sz hdr n xs):yc hdr sz 0 n hdr:=by
 rcases h with⟨_,⟨rfl,rfl⟩|⟨g,cap,cur,_,rfl,_,_,h,_⟩⟩|⟨rfl,_,a,rfl⟩
 ·exact .inl ⟨rfl,none,rfl⟩
 ·exact .inr ⟨g,n,cap,rfl,Nat.zero_le _,h,zb⟩
 ·exact .inl ⟨rfl,a,rfl⟩
theorem yc.cap{hdr v:Value}{sz a b:Nat}(h:yc hdr sz a b v)(f:a<=b):∃ad c,v= .slice ad (b-a) c∧b-a<=c:=by
 rcases h with⟨rfl,a0,rfl⟩|⟨g,n,c,rfl,h1,j,rfl⟩
 ·exact⟨a0,0,by rw [E7],za⟩
 ·exact⟨_,_,rfl,za⟩
theorem yc.slice{hdr:Value}{sz a b len cap l h:Nat}{ad:Option Addr}(p:yc hdr sz a b (.slice ad len cap))(k:l<=h)(t:h<=b-a)(j:a<=b):
  yc hdr sz (a+l) (a+h) (.slice (if cap=l then ad else ad.map (·.add (l*sz))) (h-l) (cap-l)):=by
 rcases p with⟨rfl,a0,he⟩|⟨g,n,c,rfl,h1,r,he⟩
 ·cases he
  have f:h=0:=by omega
  have q:l=0:=by omega
  subst f q
  exact .inl ⟨rfl,ad,zb⟩
 ·cases he
  by_cases hc:c-a=l
  ·rw [if_pos hc]
   have:h=l:=by omega
   subst this
   exact .inl ⟨rfl,some ⟨g,a*sz,none⟩,by rw [hc,E7]⟩
  ·rw [if_neg hc]
   refine .inr ⟨g,n,c,rfl,za,za,?_⟩
   simp only [FV,uC]
   congr 1
   ·rw [E3]
   ·omega
   ·omega
theorem R.viewD{id ver lo hi:Nat}{e:TypeId}{sz:Nat}{hdr v:Value}(f:loc id=some (.arr ver e sz hdr))(ho:v.oneCell'=true)(h:yc hdr sz lo hi v):R S loc (.view id ver lo hi) v:=by
 refine .view id ver lo hi v _ ho f λc j g a he=>?_
 cases he
 exact⟨EB _,λ_=>h⟩
theorem xX(h:Sim P X S loc s tm w){t e:TypeId}{id ver a b:Nat}{v:RV}{lo hi:Option RV}{y q:Option Value}{u:Ups}{r:List Nat}{F:Value}(O:P.underlying t=some (.slice e))(j:sliceB P e id ver a b lo hi s.boxes=some ((v,u),r,true))
  (Q:∀es,s.boxes id=some (.arr ver e es)->a<=b->b<=es.length->∃sz hdr,loc id=some (.arr ver e sz hdr)∧szT P e=some sz∧yc hdr sz a b F)
  (h1:RO S loc lo y) (K:RO S loc hi q):
  ∃v',(Instr.sliceAt t F y q none).run P w= .ok v' w∧R S loc v v'∧u=[]:=by
 unfold sliceB at j
 rcases f:bnd lo 0 with _|l
 ·simp only [f]at j;exact fE s.boxes j
 rcases g:bnd hi ((b:Int)-a)with _|C
 ·simp only [f,g]at j;exact fE s.boxes j
 rcases hk:szT P e with _|_|k
 ·simp only [f,g,hk]at j;exact fE s.boxes j
 ·simp only [f,g,hk]at j;exact fE s.boxes j
 simp only [f,g,hk]at j
 obtain⟨G,r1,r2,g1,g2,_⟩:=M.bind_some j
 obtain⟨N,_,_⟩:=M.get_some g1
 cases G with
 |var _=>exact fE s.boxes g2
 |dead=>exact fE s.boxes g2
 |nest _ _ _ _ _=>exact fE s.boxes g2
 |arr z I es=>
  by_cases p:ver=z∧e=I
  rotate_left
  ·simp only [p,if_false]at g2;exact fE s.boxes g2
  simp only [p,and_self,if_true]at g2
  obtain⟨rfl,rfl⟩:=p
  obtain⟨g3, -,g4⟩:=ua g2
  cases g3
  obtain⟨B,H,T,W,Y⟩:a<=b∧b<=es.length∧0<=l∧l<=C∧C<=(b:Int)-a:=of_decide_eq_true g4.symm
  obtain⟨sz,hdr,L,x,E⟩:=Q es N B H
  rw [hk]at x
  cases x
  obtain⟨ad,c,rfl,hc⟩:=E.cap B
  have J:((b:Int)-a)=((b-a:Nat):Int):=by omega
  rw [J]at g
  have D:=zi (P:=P) (w:=w) (b:=true) (len:=b-a) (cap:=c) h1 K f g za hc
  refine⟨_,?_,R.viewD L rfl (E.slice (l:=l.toNat) (h:=C.toNat) za za B),rfl⟩
  simp [Instr.sliceAt,run_underlying O,Instr.slice,D,tQ hk]
theorem Sim.DY(h:Sim P X S loc s tm w){id b:Nat}{q:List PD}{ty:TypeId}{vs:Array Value}(r:s.boxes id=some (.var (q.map .d)))(f:loc id=some (.var b))(hw:w.heap[b]? =some (.cells vs ty (0,0)))(h1:∀v∈vs,v.oneCell'=true):
  Sim P X (uU S b vs.toList) (upd loc id .dead) { s with boxes:=upd s.boxes id .dead } tm w∧Sub S (uU S b vs.toList)∧(∀j v,vs[j]? =some v->uU S b vs.toList ⟨b,j,none⟩=some v):=by
 have k:uc (loc id) .dead:=by rw [f];exact .dead _
 have l:=h.uO (Step.refl none w) id .dead .dead (λb hc=>by cases hc) (.dead _ rfl) (λb hc=>by cases hc) k
 refine⟨l.zX b vs.toList (λj v g=>?_) (λv p=>h1 v (by simpa using p)) (λi L hi c=>?_) (h.own id _ b f rfl).symm,vL _ _ _,λj v g=>xv (λo=>h.vV id _ b f rfl o) (by simpa using g)⟩
 ·rw [cell_of_row w b j vs ty (0,0) hw]
  simpa using g
 ·by_cases a:i=id
  ·subst a;rw [tJ]at hi;cases hi;cases c
  ·rw [uq _ _ a]at hi
   exact a (h.inj i id L _ b hi f c rfl)
theorem Cs(h:Sim P X S loc s tm w){a:TypeId}{id:Nat}{v:RV}{u:Ups}{r:List Nat}{N:Value}(f:zx P id a s.boxes=some ((v,u),r,true))(H:R S loc (.ptr id 0) N):
  ∃v' S' loc',(Instr.sliceAt a N none none none).run P w= .ok v' w∧Sim P X S' loc' (s.ups u) tm w∧R S' loc' v v':=by
 unfold zx at f
 rcases hu:P.underlying a with _|d
 ·simp only [hu]at f;exact fE s.boxes f
 rw [hu]at f
 cases d<;>first|exact fE s.boxes f|skip
 rename_i n e
 rcases hk:szT P e with _|_|k
 ·simp only [hk]at f;exact fE s.boxes f
 ·simp only [hk]at f;exact fE s.boxes f
 simp only [hk]at f
 obtain⟨O,r1,r2,g1,g2,_⟩:=M.bind_some f
 obtain⟨K,_,_⟩:=M.get_some g1
 cases O with
 |arr _ _ _=>exact fE s.boxes g2
 |dead=>exact fE s.boxes g2
 |nest _ _ _ _ _=>exact fE s.boxes g2
 |var cs=>
  rcases hp:yn cs with _|l
  ·simp only [hp]at g2;exact fE s.boxes g2
  simp only [hp]at g2
  by_cases hc:ue P e=true∨k=0
  rotate_left
  ·rw [if_neg hc]at g2;exact fE s.boxes g2
  rw [if_pos hc]at g2
  obtain⟨g3, -,g4⟩:=M.tK g2
  cases g3
  simp only [E9,E8,decide_eq_true_eq]at g4
  obtain⟨F,g⟩:=g4
  have E:=xJ hp
  subst E
  obtain⟨b,ty,vs,T,rfl,hw,hlen,W⟩:=h.Cx K H
  have D:∀(i:Nat)p u,l[i]? =some p->vs[i]? =some u->V S p u:=λi p u h1 Q=>by
   have:=W i (.d p) u (by simp [h1]) Q
   cases this with|d h=>exact h
  have q:vs.size=l.length:=by simpa using hlen
  have h1:∀u∈vs,u.oneCell'=true:=λu hu=>by
   obtain⟨i,hi,rfl⟩:=Array.getElem_of_mem hu
   have z:i<l.length:=by omega
   exact((D i l[i] vs[i] (ze z) (FE hi)).xf (List.all_eq_true.1 g _ (FB z))).1
  obtain⟨Y,k2,k3⟩:=h.DY K T hw h1
  have y:=vD (P:=P) e (k+1) n l
  have t:=xP (P:=P) e (k+1) (hc.imp (λh=>h) (λh=>za)) n l F (λp hp=>List.all_eq_true.1 g p hp)
  have C:∀(i:Nat)x(j:Nat)c,(uP P e (k+1) n l)[i]? =some x->x.cells[j]? =some c->∃u,vs[i*(k+1)+j]? =some u∧V S c u:=λi x j c hi B=>by
   have I:=(t i x hi).2 j c B
   have J:i*(k+1)+j<vs.size:=by rw [q];exact(List.getElem?_eq_some_iff.1 I).1
   exact⟨_,FE J,D _ c _ I (FE J)⟩
  have hV := V.lst (S := uU S b vs.toList) (uP P e (k + 1) n l) b 0 n (k + 1) (λi j => (vs[i * (k + 1) + j]?).getD default) (by rw [y]; exact EB _) (λx H => by
    obtain⟨i,hi⟩:=FP H
    exact(t i x hi).1)
   (λi x j c hi B => by
    obtain⟨u,hu,_⟩:=C i x j c hi B
    rw [EJ,k3 _ u hu,hu];rfl)
   (λi x j c hi B => by
    obtain⟨u,hu,G⟩:=C i x j c hi B
    rw [hu]
    exact G.mono k2)
  rw [y]at hV
  refine⟨.slice (some ⟨b,0,none⟩) n n,_,_,?_,Y,.d hV⟩
  simp only [Instr.sliceAt,run_underlying hu,Sem.run_bind,Result.andThen_ok,Instr.sureAddr,Sem.run_pure,Instr.sliceBounds,tQ hk]
  by_cases L:n=0
  ·simp [L]
  ·simp [L,Addr.add]
theorem Ct{a:TypeId}{cs:List PD}{v:RV}{u:Ups}{r:List Nat}{G:Value}{g:tY}(f:zz P a cs g=some ((v,u),r,true))(D:R S loc (.cptr cs) G):
  ∃v',(Instr.sliceAt a G none none none).run P w= .ok v' w∧R S loc v v'∧u=[]:=by
 unfold zz at f
 rcases hu:P.underlying a with _|d
 ·simp only [hu]at f;exact fE g f
 rw [hu]at f
 cases d<;>first|exact fE g f|skip
 rename_i n e
 rcases hk:szT P e with _|_|k
 ·simp only [hk]at f;exact fE g f
 ·simp only [hk]at f;exact fE g f
 simp only [hk]at f
 by_cases hc:ue P e=true∨k=0
 rotate_left
 ·rw [if_neg hc]at f;exact fE g f
 rw [if_pos hc]at f
 obtain⟨g3, -,g4⟩:=M.tK f
 cases g3
 simp only [E9,E8,decide_eq_true_eq]at g4
 obtain⟨H,B⟩:=g4
 cases D with
 |cptr _ b o F hS hV=>
 have hlen:(cs.take (n*(k+1))).length=n*(k+1):=by simp;omega
 have t:=vD (P:=P) e (k+1) n (cs.take (n*(k+1)))
 have q:=xP (P:=P) e (k+1) (hc.imp (λh=>h) (λh=>za)) n (cs.take (n*(k+1))) hlen (λp hp=>List.all_eq_true.1 B p hp)
 have z:∀(i:Nat)x(j:Nat)c,(uP P e (k+1) n (cs.take (n*(k+1))))[i]? =some x->x.cells[j]? =some c->cs[i*(k+1)+j]? =some c:=λi x j c hi y=>by
  have C:=(q i x hi).2 j c y
  rw [EG]at C
  split at C
  ·exact C
  ·cases C
 have l := V.lst (S := S) (uP P e (k + 1) n (cs.take (n * (k + 1)))) b o n (k + 1) (λi j => F (i * (k + 1) + j)) (by rw [t]; exact EB _) (λx D => by
   obtain⟨i,hi⟩:=FP D
   exact(q i x hi).1)
  (λi x j c hi y => by
   rw [Nat.add_assoc]
   exact hS _ c (z i x j c hi y))
  (λi x j c hi y=>hV _ c (z i x j c hi y))
 rw [t]at l
 refine⟨.slice (some ⟨b,o,none⟩) n n,?_,.d l,rfl⟩
 simp only [Instr.sliceAt,run_underlying hu,Sem.run_bind,Result.andThen_ok,Instr.sureAddr,Sem.run_pure,Instr.sliceBounds,tQ hk]
 by_cases E:n=0
 ·simp [E]
 ·simp [E,Addr.add]
theorem C1(h:Sim P X S loc s tm w){t:TypeId}{x v:RV}{lo hi mx:Option RV}{Q H T:Option Value}{u:Ups}{r:List Nat}{W:Value}(f:AS P t x lo hi mx s.boxes=some ((v,u),r,true))(N:R S loc x W)
  (h1:RO S loc lo Q) (h2:RO S loc hi H) (h3:RO S loc mx T):
  ∃v' S' loc',(Instr.sliceAt t W Q H T).run P w= .ok v' w∧Sim P X S' loc' (s.ups u) tm w∧R S' loc' v v':=by
 unfold AS at f
 rcases hu:P.underlying t with _|d
 ·simp only [hu]at f;exact fE s.boxes f
 rw [hu]at f
 cases d<;>first|exact fE s.boxes f|skip
 rename_i e
 by_cases O:∃es,x= .d (.lst es)
 ·obtain⟨es,rfl⟩:=O
  cases N with
  |d N=>
  cases h1<;>first|exact fE s.boxes f|skip
 cases x<;>first|exact fE s.boxes f|(rename_i p;cases p<;>first|exact fE s.boxes f|exact(O ⟨_,rfl⟩).elim)|skip
 rename_i id ver
 cases lo<;>first|exact fE s.boxes f|skip
 cases hi<;>first|exact fE s.boxes f|skip
 rename_i b5
 cases b5<;>first|exact fE s.boxes f|skip
 rename_i p0
 cases p0<;>first|exact fE s.boxes f|skip
 rename_i k l
 cases mx<;>first|exact fE s.boxes f|skip
 ·simp only at f
  rcases hk:szT P e with _|_|sz
  ·simp only [hk]at f;exact fE s.boxes f
  ·simp only [hk]at f;exact fE s.boxes f
  simp only [hk]at f
  obtain⟨bx,r1,r2,g1,g2,_⟩:=M.bind_some f
  obtain⟨hb,_,_⟩:=M.get_some g1
  cases bx with
  |var _=>exact fE s.boxes g2
  |dead=>exact fE s.boxes g2
  |nest _ _ _ _ _=>exact fE s.boxes g2
  |arr B e' es=>
   simp only at g2
   by_cases z:ver=B∧e=e'
   rotate_left
   ·rw [if_neg z]at g2;exact fE s.boxes g2
   rw [if_pos z]at g2
   obtain⟨rfl,rfl⟩:=z
   obtain⟨g3, -,g4⟩:=M.tK g2
   cases g3
   obtain⟨c1,c2⟩:0<=l∧l<=es.length:=of_decide_eq_true g4.symm
   obtain⟨b6,xs,y,K,how,hf⟩:=h.xK hb N
   rw [hk]at K
   cases K
   cases h3
   have b0:sliceB P e id ver 0 es.length none (some (.d (.int k l))) s.boxes=some ((.view id ver (0+(0:Int).toNat) (0+l.toNat),[]),[id],true):=by
    have e0:((es.length:Nat):Int)-((0:Nat):Int)=(es.length:Int):=by simp
    simp only [sliceB,bnd,hk,M.bind,M.get,hb,and_self,if_true,tZ,M.tL,e0]
    simp [c1,c2]
   obtain ⟨v', k1, k2, -⟩ := xX h hu b0 (λc4 G _ _ => by
    rw [hb]at G
    cases G
    exact⟨_,_,y,hk,yc.ref how⟩) h1 h2
   have F:yc W (sz+1) (0+(0:Int).toNat) (0+l.toNat) v':=by
    cases k2 with
    |view _ _ _ _ _ L ho Y hc=>
     rw [y]at Y
     cases Y
     exact(hc ver e (sz+1) W rfl).2 rfl
   have ho:v'.oneCell'=true:=by
    cases k2 with
    |view _ _ _ _ _ L ho Y hc=>exact ho
   have z1:(0+(0:Int).toNat)=0:=rfl
   have z2:(0+l.toNat)=l.toNat:=EJ _
   rw [z1,z2]at F
   have hlen:(es.take l.toNat).length=l.toNat:=by simp;omega
   have E:Flat S (sz+1) (es.take l.toNat) (xs.take (l.toNat*(sz+1))):=by
    refine⟨λx N=>hf.len x (FU N),λq hq=>hf.one q (FU hq),λi x j c hi hj=>?_⟩
    rw [EG]at hi
    split at hi
    ·rename_i a8
     obtain⟨q,h5,h6⟩:=hf.cell i x j c hi hj
     refine⟨q,?_,h6⟩
     have c5:j<sz+1:=by rw [<-hf.len x (E1 hi)];exact(List.getElem?_eq_some_iff.1 hj).1
     have:i*(sz+1)+j<l.toNat*(sz+1):=by
      calc i*(sz+1)+j<i*(sz+1)+(sz+1):=by omega
       _=(i+1)*(sz+1):=by rw [E3,E6]
       _<=l.toNat*(sz+1):=E5 _ a8
     rw [EG,if_pos this]
     exact h5
    ·cases hi
   have J:rowAt w e (sz+1) v' (es.take l.toNat).length (xs.take (l.toNat*(sz+1))):=by
    rw [hlen]
    rcases F with⟨h0,a,rfl⟩|⟨g,n,c,he,_,hc,rfl⟩
    ·rw [<-h0]
     exact .inr ⟨rfl,zb,a,rfl⟩
    ·simp only [Nat.zero_mul,Nat.sub_zero]
     subst he
     rcases how with⟨a7,⟨hn,_⟩|⟨g',cap,cur,fz,hg,a5,D,c0,I,a6,b4⟩⟩|⟨hn,c6,a,ha⟩
     ·cases hn
     ·cases hg
      refine .inl ⟨by rw [FR,a7];exact FM (E5 _ za),.inr ⟨g,c,cur,fz,rfl,a5,D,hc,I,a6,?_⟩⟩
      rw [<-b4,List.take_take]
      congr 1
      exact(FM (E5 _ za)).symm
     ·cases ha
      have:l.toNat=0:=by omega
      rw [this]
      exact .inr ⟨rfl,zb,_,rfl⟩
   have b3:uc (loc id) (.arr (ver+1) e (sz+1) v'):=by
    rw [y]
    exact .arr za
   have a9:=h.uO (Step.refl none w) id (.arr (ver+1) e (es.take l.toNat)) (.arr (ver+1) e (sz+1) v') (λb hc=>by cases hc) (.arr (ver+1) e _ (sz+1) v' _ hk J E)
    (λb C => by
     refine .inl ⟨_,y,?_⟩
     rcases F with⟨h0,a,rfl⟩|⟨g,n,c,he,_,hc,rfl⟩
     ·cases a<;>cases C
     ·subst he
      cases c with
      |zero=>cases C
      |succ c=>cases C;rfl) b3
   have hR:R S (upd loc id (.arr (ver+1) e (sz+1) v')) (.ref id (ver+1)) v':= .ref id (ver+1) v' _ ho (tJ _ _ _) λB e' b6 c3 he=>by
    cases he;exact⟨EB _,λ_=>rfl⟩
   exact⟨v',S,_,k1,a9,hR⟩
theorem Cu(h:Sim P X S loc s tm w){Q:Nat}{t:TypeId}{x v:RV}{lo hi mx:Option RV}{C B D:Option Value}{u:Ups}{r:List Nat}{I:Value}(f:u6 P Q t x lo hi mx s.boxes=some ((v,u),r,true))(G:R S loc x I)
  (h1:RO S loc lo C) (q:RO S loc hi B) (N:RO S loc mx D):
  ∃v' S' loc',(Instr.sliceAt t I C B D).run P w= .ok v' w∧Sim P X S' loc' (s.ups u) tm w∧R S' loc' v v':=by
 have fin:(∃v',(Instr.sliceAt t I C B D).run P w= .ok v' w∧R S loc v v'∧u=[])->∃v' S' loc',(Instr.sliceAt t I C B D).run P w= .ok v' w∧Sim P X S' loc' (s.ups u) tm w∧R S' loc' v v':=by
  rintro⟨v',g1,g2,rfl⟩
  exact⟨v',S,loc,g1,h,g2⟩
 cases N with
 |some N=>
  unfold u6 at f
  rcases hu:P.underlying t with _|d
  ·simp only [hu]at f;exact fE s.boxes f
  rw [hu]at f
  by_cases H:∃id ver,x= .ref id ver
  ·obtain⟨id,ver,rfl⟩:=H
   cases d<;>first|exact fE s.boxes f|skip
  rcases x with p|_|_|_|_|_|_|⟨_,_|_⟩|_|_|_|_|_<;>first|(cases d<;>exact fE s.boxes f)|exact(H ⟨_,_,rfl⟩).elim|skip
  cases p<;>first|(cases d<;>exact fE s.boxes f)|skip
  cases d<;>first|exact fE s.boxes f|skip
  case slice es e=>
   simp only [AB]at f
   rcases j:bnd lo 0 with _|l
   ·simp only [j]at f;exact fE s.boxes f
   rcases hi with _|(⟨⟨_⟩|⟨_,L⟩|_|_|_|_⟩|_|_|_|_|_|_|_|_|_|_|_|_)<;>first|(simp only [j]at f;exact fE s.boxes f)|skip
   rename_i T vm _
   rcases T with⟨⟨_⟩|⟨_,m⟩|_|_|_|_⟩|_|_|_|_|_|_|_|_|_|_|_|_<;>first|(simp only [j]at f;exact fE s.boxes f)|skip
   rcases hk:szT P e with _|_|k
   ·simp only [j,hk]at f;exact fE s.boxes f
   ·simp only [j,hk]at f;exact fE s.boxes f
   simp only [j,hk]at f
   by_cases E:l=0∧L=0∧m=0
   rotate_left
   ·rw [if_neg E]at f;exact fE s.boxes f
   rw [if_pos E]at f
   obtain⟨rfl,rfl,rfl⟩:=E
   obtain⟨_,r1,r2,g1,g2,_⟩:=M.bind_some f
   obtain⟨O,_,_⟩:=M.uD g1
   obtain⟨g3, -, -⟩:=M.tK g2
   cases g3
   obtain⟨ad,c,rfl,hc⟩:=A1 G.xT
   obtain⟨loc',q1,q2,_⟩:=h.yB (es:=[]) (xs:=[]) O (Step.refl none w) hk (hdr:= .slice ad 0 0) (.inr ⟨rfl,rfl,ad,rfl⟩) (Flat.nil S _) (λg hg=>by cases ad<;>cases hg) rfl
   have e3:=N.uo
   subst e3
   refine⟨_,S,loc',?_,q1,q2⟩
   cases q with
   |some q=>
    have e2:=q.uo
    subst e2
    cases h1 with
    |none=>simp [Instr.sliceAt,run_underlying hu,Instr.slice,Instr.sliceBounds,Instr.sliceBound,asIntOf,tQ hk]
    |some h1=>
     obtain⟨k,rfl⟩:=yo j
     simp only [bnd,EC]at j
     try subst j
     have J:=h1.uo
     subst J
     simp [Instr.sliceAt,run_underlying hu,Instr.slice,Instr.sliceBounds,Instr.sliceBound,asIntOf,tQ hk]
 |none=>
  rcases hu:P.underlying t with _|d
  ·unfold u6 at f;simp only [hu]at f;exact fE s.boxes f
  rcases x with p|_|_|_|_|_|⟨id,ver⟩|⟨id,off⟩|_|_|⟨id,ver,a,b⟩|_|_<;>first|exact fin (C9 f G h1 q)|skip
  case ptr=>
   unfold u6 at f
   rw [hu]at f
   cases d<;>first|exact fE s.boxes f|skip
   cases off<;>first|exact fE s.boxes f|skip
   cases h1<;>first|exact fE s.boxes f|skip
   cases q<;>first|exact fE s.boxes f|skip
   exact Cs h f G
  case cptr=>
   unfold u6 at f
   rw [hu]at f
   cases d<;>first|exact fE s.boxes f|skip
   cases h1<;>first|exact fE s.boxes f|skip
   cases q<;>first|exact fE s.boxes f|skip
   exact fin (Ct f G)
  case ref=>
   unfold u6 at f
   rw [hu]at f
   cases d<;>first|exact fE s.boxes f|skip
   simp only at f
   obtain⟨bx,r1,r2,g1,g2,_⟩:=M.bind_some f
   obtain⟨W,_,_⟩:=M.get_some g1
   cases bx with
   |var _=>exact fE s.boxes g2
   |dead=>exact fE s.boxes g2
   |nest _ _ _ _ _=>exact fE s.boxes g2
   |arr Y e' es=>
    refine fin (xX h hu g2 (λK z _ _=>?_) h1 q)
    rw [W]at z
    cases z
    obtain⟨sz,xs,y,F,how,hf⟩:=h.xK W G
    exact⟨sz,_,y,F,yc.ref how⟩
  case view=>
   unfold u6 at f
   rw [hu]at f
   cases d<;>first|exact fE s.boxes f|skip
   simp only at f
   refine fin (xX h hu f (λK z _ _=>?_) h1 q)
   obtain⟨sz,xs,hdr,y,F,how,hf,ho,hd⟩:=h.Ae z G
   exact⟨sz,hdr,y,F,hd⟩
  case tC=>
   unfold u6 at f
   rw [hu]at f
   cases d<;>first|exact fE s.boxes f|skip
   rename_i e
   simp only at f
   rcases j:bnd lo 0 with _|l
   ·simp only [j]at f;exact fE s.boxes f
   rcases hi with _|(⟨⟨_⟩|⟨_,L⟩|_|_|_|_⟩|_|_|_|_|_|_|_|_|_|_|_|_)<;>first|(simp only [j]at f;exact fE s.boxes f)|skip
   rcases hk:szT P e with _|k
   ·simp only [j,hk]at f;exact fE s.boxes f
   simp only [j,hk]at f
   by_cases E:l=0∧L=0
   rotate_left
   ·rw [if_neg E]at f;exact fE s.boxes f
   rw [if_pos E]at f
   obtain⟨rfl,rfl⟩:=E
   obtain⟨g3, -, -⟩:=M.tB f
   cases g3
   cases G
   refine fin ⟨.slice none 0 0,?_,.tC,rfl⟩
   cases q with
   |some q=>
    have e2:=q.uo
    subst e2
    cases h1 with
    |none=>simp [Instr.sliceAt,run_underlying hu,Instr.slice,Instr.sliceBounds,Instr.sliceBound,asIntOf,tQ hk]
    |some h1=>
     obtain⟨k,rfl⟩:=yo j
     simp only [bnd,EC]at j
     try subst j
     have J:=h1.uo
     subst J
     simp [Instr.sliceAt,run_underlying hu,Instr.slice,Instr.sliceBounds,Instr.sliceBound,asIntOf,tQ hk]
  all_goals
   unfold u6 at f
   rw [hu]at f
   cases d<;>exact fE s.boxes f
theorem Flat.append{sz:Nat}{es g:List PD}{xs ys:List Value}(h:Flat S sz es xs)(l:xs.length=es.length*sz)(a:Flat S sz g ys):Flat S sz (es++g) (xs++ys):=by
 refine⟨λe he=>(List.mem_append.1 he).elim (h.len e) (a.len e),λu hu=>(List.mem_append.1 hu).elim (h.one u) (a.one u),λi e j x hi k=>?_⟩
 by_cases c:i<es.length
 ·rw [ES c]at hi
  obtain⟨u,hu,f⟩:=h.cell i e j x hi k
  exact⟨u,by rw [ES (List.getElem?_eq_some_iff.1 hu).1];exact hu,f⟩
 ·rw [ET za]at hi
  obtain⟨u,hu,f⟩:=a.cell (i-es.length) e j x hi k
  refine⟨u,?_,f⟩
  have hle:es.length*sz<=i*sz:=E5 _ za
  rw [ET za, <-hu]
  congr 1
  rw [l,Nat.sub_mul]
  omega
def Appd(w:World)(S:tG)(sz:Nat)(f:Value)(es:List PD):Prop:=
 ∃a c news,f= .slice a es.length c∧news.length=es.length*sz∧Flat S sz es news∧(es≠ []->∃ad,a=some ad∧∀(j:Nat)u,news[j]? =some u->w.cell? (ad.add j)=some u)
theorem wa(h:Sim P X S loc s tm w){x:RV}{es:List PD}{r:List Nat}{vx:Value}{sz:Nat}(W:uF x s.boxes=some (es,r,true))(H:R S loc x vx)(J:0<sz)(T:∀e∈es,e.cells.length=sz):
  Appd w S sz vx es:=by
 rcases x with p|_|_|_|_|_|⟨id,ver⟩|_|_|_|_|_|_<;>first|exact fE s.boxes W|skip
 ·cases p<;>first|exact fE s.boxes W|skip
  rename_i z
  obtain⟨h1, -, -⟩:=M.tB (b:=s.boxes) W
  subst h1
  by_cases G:es=[]
  ·subst G
   obtain⟨a,c,rfl,_⟩:=A1 H.xT
   exact⟨a,c,[],rfl,zb,Flat.nil S _,λh=>(h rfl).elim⟩
  ·obtain⟨Q,r0,L⟩:∃e r,es=e::r:=by
    cases es with
    |nil=>exact(G rfl).elim
    |cons e r=>exact⟨e,r,rfl⟩
   have h0:es[0]? =some Q:=by rw [L];rfl
   obtain⟨b,o,c,l,f,rfl,hc,E,hS,hV⟩:=H.xT.elem h0
   have:l=sz:=by rw [<-E Q (E1 h0)];exact T Q (E1 h0)
   subst this
   have key:∀q,q<es.length*l->∃e x,es[q / l]? =some e∧e.cells[q%l]? =some x:=by
    intro q C
    have h1:q / l<es.length:=(Nat.div_lt_iff_lt_mul J).2 C
    have D:q%l<(es[q / l]).cells.length:=by rw [E _ (FB h1)];exact Nat.mod_lt _ J
    exact⟨_,_,ze h1,ze D⟩
   have F:∀q u,((EH (es.length*l)).map (λq=>f (q / l) (q%l)))[q]? =some u->q<es.length*l∧u=f (q / l) (q%l):=by
    intro q u C
    rw [FO]at C
    cases hr:(EH (es.length*l))[q]? with
    |none=>simp [hr]at C
    |some k=>
     simp only [hr,FV,EC]at C
     obtain⟨a7,he⟩:=List.getElem?_eq_some_iff.1 hr
     simp at a7 he
     subst he
     exact⟨a7,C.symm⟩
   have I:∀q,q<es.length*l->S ⟨b,o+q,none⟩=some (f (q / l) (q%l)):=by
    intro q C
    obtain⟨e,x,h1,D⟩:=key q C
    have:=hS _ e _ x h1 D
    rw [<-this]
    congr 2
    have:=Nat.div_add_mod q l
    rw [FN]at this
    omega
   refine⟨_,c,(EH (es.length*l)).map (λq=>f (q / l) (q%l)),rfl,zb,⟨E,?_,?_⟩,λ_=>⟨_,rfl,?_⟩⟩
   ·intro u hu
    obtain⟨q,C,a9⟩:=List.getElem_of_mem hu
    obtain⟨h1,D⟩:=F q u (by rw [ze C,a9])
    exact h.wU _ u (by rw [D];exact I q h1)
   ·intro i e j x hi Y
    have t:=(List.getElem?_eq_some_iff.1 hi).1
    have a5:j<l:=by
     have:=(List.getElem?_eq_some_iff.1 Y).1
     rw [E e (E1 hi)]at this
     exact this
    have C:i*l+j<es.length*l:=by
     have:=E5 l (show i+1<=es.length from t)
     rw [E3,E6]at this
     omega
    refine⟨f i j,?_,hV i e j x hi Y⟩
    rw [FO,List.getElem?_range C]
    simp only [FV,EC]
    have hd:(i*l+j) / l=i:=by
     rw [FN,Nat.mul_add_div J,Nat.div_eq_of_lt a5,E4]
    have hm:(i*l+j)%l=j:=by
     rw [FN,Nat.mul_add_mod,Nat.mod_eq_of_lt a5]
    rw [hd,hm]
   ·intro q u C
    obtain⟨h1,rfl⟩:=F q u C
    rw [uC]
    exact h.imm _ _ (I q h1)
 ·obtain⟨h1, -, -⟩:=M.tB (b:=s.boxes) W
  subst h1
  cases H with
  |tC=>exact⟨none,0,[],rfl,zb,Flat.nil S _,λh=>(h rfl).elim⟩
 ·obtain⟨bx,r1,r2,h1,D,_⟩:=M.bind_some W
  obtain⟨hb,_,_⟩:=M.get_some h1
  cases bx with
  |arr K e' z=>
   by_cases B:ver=K
   rotate_left
   ·simp only [B,if_false]at D;exact fE s.boxes D
   simp only [B,if_true]at D
   subst B
   obtain⟨h3, -, -⟩:=M.tB D
   subst h3
   obtain⟨l,xs,a6,E,how,hf⟩:=h.xK hb H
   by_cases G:es=[]
   ·subst G
    obtain⟨a,c,rfl,_⟩:=how.hdr
    exact⟨a,c,[],rfl,zb,Flat.nil S _,λh=>(h rfl).elim⟩
   ·obtain⟨Q,r0,L⟩:∃e r,es=e::r:=by
     cases es with
     |nil=>exact(G rfl).elim
     |cons e r=>exact⟨e,r,rfl⟩
    have hm:Q∈es:=by rw [L];simp
    have:l=sz:=by rw [<-hf.len Q hm];exact T Q hm
    subst this
    have N:0<es.length:=by rw [L];simp
    have how:=how.wj N
    obtain⟨g,c,rfl⟩:=vk how N
    exact⟨_,c,xs,rfl,how.1,hf,λ_=>⟨_,rfl,how.cells rfl⟩⟩
  |var _=>exact fE s.boxes D
  |dead=>exact fE s.boxes D
  |nest _ _ _ _ _=>exact fE s.boxes D
 ·rename_i id ver lo t
  obtain⟨bx,r1,r2,h1,D,_⟩:=M.bind_some W
  obtain⟨hb,_,_⟩:=M.get_some h1
  cases bx with
  |arr K e' z=>
   by_cases B:ver=K
   rotate_left
   ·simp only [B,if_false]at D;exact fE s.boxes D
   simp only [B,if_true]at D
   subst B
   obtain⟨h3, -,h4⟩:=M.tK D
   subst h3
   have hn:lo<=t∧t<=z.length:=of_decide_eq_true h4.symm
   obtain⟨l,xs,hdr,a6,E,how,hf,ho,hd⟩:=h.Ae hb H
   have hlen:((z.drop lo).take (t-lo)).length=t-lo:=by rw [FR,FQ];omega
   have F:∀(i:Nat)x,((z.drop lo).take (t-lo))[i]? =some x->z[lo+i]? =some x:=by
    intro i x H
    rw [EG]at H
    split at H
    ·rwa [EF]at H
    ·cases H
   by_cases G:t-lo=0
   ·have:(z.drop lo).take (t-lo)=[]:=by rw [G];rfl
    rw [this]
    rcases hd with⟨rfl,a,rfl⟩|⟨g,n,c,rfl,_,_,rfl⟩
    ·exact⟨a,0,[],rfl,zb,Flat.nil S _,λh=>(h rfl).elim⟩
    ·exact⟨_,c-lo,[],by rw [G];rfl,zb,Flat.nil S _,λh=>(h rfl).elim⟩
   ·rcases hd with⟨rfl,a,rfl⟩|⟨g,n,c,rfl,_,_,rfl⟩
    ·omega
    have N:0<z.length:=by omega
    have b0:((z.drop lo).take (t-lo))[0]? =some (z[lo]'za):=by
     rw [EG,if_pos za,EF,E4,ze]
    have:l=sz:=by rw [<-hf.len _ (FB (by omega:lo<z.length))];exact T _ (E1 b0)
    subst this
    have O:=how.wj N
    have b4:=O.1
    have hmul:lo*l+(t-lo)*l=t*l:=by rw [<-E3];congr 1;omega
    have hle:t*l<=z.length*l:=E5 _ hn.2
    refine⟨_,c-lo,(xs.drop (lo*l)).take ((t-lo)*l),by rw [hlen],?_,⟨?_,?_,?_⟩,λ_=>⟨_,rfl,?_⟩⟩
    ·rw [hlen,FR,FQ];omega
    ·exact λx H=>hf.len x (FT (FU H))
    ·exact λx H=>hf.one x (FT (FU H))
    ·intro i x j y hi Y
     obtain⟨q,C,hv⟩:=hf.cell (lo+i) x j y (F i x hi) Y
     refine⟨q,?_,hv⟩
     have a8:i<t-lo:=by
      have:=(List.getElem?_eq_some_iff.1 hi).1
      rw [hlen]at this
      exact this
     have b3:j<l:=by
      have:=(List.getElem?_eq_some_iff.1 Y).1
      rw [hf.len x (E1 (F i x hi))]at this
      exact this
     have hm:(i+1)*l<=(t-lo)*l:=E5 _ a8
     rw [E3,E6]at hm
     rw [EG,if_pos za,EF, <-C]
     congr 1
     rw [E3]
     omega
    ·intro j q C
     rw [EG]at C
     split at C
     ·rw [EF]at C
      have:=O.cells (g:=g) rfl _ q C
      rw [uC]at this⊢
      rw [<-this];congr 2;omega
     ·cases C
  |var _=>exact fE s.boxes D
  |dead=>exact fE s.boxes D
  |nest _ _ _ _ _=>exact fE s.boxes D
end
end Go.Dw
