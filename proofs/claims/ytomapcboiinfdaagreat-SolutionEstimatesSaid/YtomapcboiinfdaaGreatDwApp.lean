
import Derived.Test.YtomapcboiinfdaaGreatDwList
import Derived.Laws.Slices
set_option linter.unusedVariables false
set_option linter.unusedSimpArgs false
open Option.some renaming injEq->AD
open Nat renaming add_mul->A2, add_zero->Al, le_refl->AB, min_eq_left->Am, mul_comm->An, mul_le_mul_right->A3, one_mul->A4, sub_self->Ao, zero_add->AK, zero_le->AL
open Bool renaming and_eq_true->A5, true_eq->A6
open List renaming getElem?_append_left->AQ, getElem?_append_right->AR, getElem?_drop->AG, getElem?_map->Ap, getElem?_of_mem->Aq, getElem?_take->AH, getElem_mem->Aa, length_drop->Ar, length_take->As, mem_of_getElem?->A0, mem_of_mem_drop->Au, mem_of_mem_take->Av, range->AI
open Option renaming map_some->Aw
open Array renaming getElem?_eq_getElem->Ad
open Go.Sem renaming run_bind->Ai, run_pure->Ak
open Go.Result renaming andThen_ok->A8

namespace Go.Dw
section
variable {P:Program}{X:Ctx}{S:mW}{loc:nB}{s:St}{tm:Array Value}{w:World}
inductive RO(S:mW)(loc:nB):Option RV->Option Value->Prop
 |none:RO S loc none none
 |some {rv:RV} {v:Value} (h:R S loc rv v):RO S loc (some rv) (some v)
theorem rP{rv:RV}{d n:Int}(h:bnd (some rv) d=some n):∃k,rv= .d (.int k n):=by
 rcases rv with p|_|_|_|_|_|_|_|_|_|_|_|_<;>first|(simp [bnd]at h;done)|skip
 cases p<;>first|(simp [bnd]at h;done)|skip
 simp only [bnd,AD]at h
 subst h
 exact⟨_,rfl⟩
theorem te{b:Bool}{len cap:Nat}{lo hi:Option RV}{g f:Option Value}{l h:Int}(h1:RO S loc lo g)(a:RO S loc hi f)(i:bnd lo 0=some l)(c:bnd hi len=some h)
  (m:0<=l∧l<=h∧h<=len) (n:len<=cap):(Instr.sliceBounds b len cap g f none).run P w= .ok (l.toNat,h.toNat,cap) w:=by
 obtain⟨a1,a2,a3⟩:=m
 cases h1 with
 |none=>
  simp only [bnd,AD]at i
  subst i
  cases a with
  |none=>simp only [bnd,AD]at c;subst c;simp [Instr.sliceBounds]
  |some a=>
   obtain⟨k,rfl⟩:=rP c
   have:=a.np
   subst this
   have e:0<=h∧h<=(cap:Int):=⟨om,om⟩
   simp [Instr.sliceBounds,Instr.sliceBound,asIntOf,e]
 |some h1=>
  obtain⟨k,rfl⟩:=rP i
  have:=h1.np
  subst this
  cases a with
  |none=>
   simp only [bnd,AD]at c
   subst c
   have e:0<=l∧l<=(len:Int):=⟨om,om⟩
   simp [Instr.sliceBounds,Instr.sliceBound,asIntOf,e]
  |some a=>
   obtain⟨k',rfl⟩:=rP c
   have:=a.np
   subst this
   have e:0<=h∧h<=(cap:Int):=⟨om,om⟩
   have j:l<=max h 0:=by omega
   simp [Instr.sliceBounds,Instr.sliceBound,asIntOf,e,a1,j]
theorem qw{α:Type}(l:List α)(hi:Option RV)(a h:Int)(b:bnd hi l.length=some h)(c:0<=a∧a<=h∧h<=l.length):
  cut l a.toNat (hiOf hi h)=(l.drop a.toNat).take (h.toNat-a.toNat):=by
 cases hi with
 |none=>
  simp only [bnd,AD]at b
  subst b
  simp only [hiOf,cut]
  rw [List.take_of_length_le]
  simp
 |some r=>simp only [hiOf,cut]
theorem Flat.nil(S:mW)(sz:Nat):Flat S sz [] []:=⟨(fun e he=>by cases he),(fun u hu=>by cases hu),(fun i e j x hi=>by simp at hi)⟩
theorem xY{J:Nat}{t:TypeId}{p:PD}{v:RV}{lo hi:Option RV}{E B:Option Value}{b:nn}{u:Ups}{r:List Nat}{L:Value}(n:oa P J t (.d p) lo hi none b=some ((v,u),r,true))(I:R S loc (.d p) L)
  (h1:RO S loc lo E) (K:RO S loc hi B):
  ∃v',(Instr.sliceAt t L E B none).run P w= .ok v' w∧R S loc v v'∧u=[]:=by
 unfold oa at n
 rcases hu:P.underlying t with _|d
 ·simp only [hu]at n;exact fE b n
 rw [hu]at n
 cases d<;>first|exact fE b n|skip
 case string=>
  cases p<;>first|exact fE b n|skip
  rename_i l
  rcases g:bnd lo 0 with _|a
  ·simp only [g]at n;exact fE b n
  rcases m:bnd hi l.length with _|h
  ·simp only [g,m]at n;exact fE b n
  simp only [g,m]at n
  obtain⟨F, -,y⟩:=nk n
  cases F
  have z:=of_decide_eq_true y.symm
  have O:=I.rC
  subst O
  have G:=te (P:=P) (w:=w) (b:=false) (len:=l.length) (cap:=l.length) h1 K g m z (AB _)
  refine⟨.string ((ByteArray.mk l.toArray).extract a.toNat h.toNat),?_,?_,rfl⟩
  ·simp [Instr.sliceAt,run_underlying hu,Instr.slice,uX,G]
  ·rw [ByteArray.extract_mk,qw l hi a h m z]
   exact .d (.str _)
 case slice e=>
  cases p<;>first|exact fE b n|skip
  rename_i es
  rcases g:bnd lo 0 with _|a
  ·simp only [g]at n;exact fE b n
  rcases m:bnd hi es.length with _|h
  ·simp only [g,m]at n;exact fE b n
  rcases hk:szT P e with _|k
  ·simp only [g,m,hk]at n;exact fE b n
  simp only [g,m,hk]at n
  obtain⟨F, -,y⟩:=nk n
  cases F
  simp only [A6,A5]at y
  obtain⟨y,Q⟩:=y
  have z:=of_decide_eq_true y
  obtain⟨ad,c,rfl,T⟩:=uW I.rp
  have G:=te (P:=P) (w:=w) (b:=true) (len:=es.length) (cap:=c) h1 K g m z T
  refine⟨.slice (if c=a.toNat then ad else ad.map (·.add (a.toNat*k))) (h.toNat-a.toNat) (c-a.toNat),?_,?_,rfl⟩
  ·simp [Instr.sliceAt,run_underlying hu,Instr.slice,G,mV hk]
  ·rw [qw es hi a h m z]
   have hlen:((es.drop a.toNat).take (h.toNat-a.toNat)).length=h.toNat-a.toNat:=by simp;omega
   refine .d ?_
   by_cases W:h.toNat-a.toNat=0
   ·rw [W]
    simp only [List.take_zero]
    exact .nil _ _
   ·have q:es[a.toNat]? =some es[a.toNat]:=zc om
    obtain⟨N,o,Y,sz,f,he,_,C,hS,hV⟩:=I.rp.elem q
    cases he
    have D:sz=k:=by
     have:=List.all_eq_true.1 Q _ (A0 q)
     rw [<-C _ (A0 q)]
     simpa using this
    subst D
    rw [if_neg om]
    simp only [Aw,nO]
    have:=V.lst (S:=S) ((es.drop a.toNat).take (h.toNat-a.toNat)) N (o+a.toNat*sz) (c-a.toNat) sz (fun i j=>f (a.toNat+i) j) (by rw [hlen];omega)
     (fun e he=>C e (Au (Av he)))
     (fun i e j x hi H => by
      rw [AH]at hi
      split at hi
      ·rw [AG]at hi
       have:=hS _ e j x hi H
       rw [<-this]
       congr 2
       rw [A2]
       omega
      ·cases hi)
     (fun i e j x hi H => by
      rw [AH]at hi
      split at hi
      ·rw [AG]at hi
       exact hV _ e j x hi H
      ·cases hi)
    rw [hlen]at this
    exact this
def rE(hdr:Value)(sz a b:Nat)(v:Value):Prop:=
 (a=b∧∃a0,v= .slice a0 0 0)∨∃g n c,hdr= .slice (some ⟨g,0,none⟩) n c∧a<=b∧b<=c∧v= .slice (some ⟨g,a*sz,none⟩) (b-a) (c-a)
theorem rE.ref{e:TypeId}{sz n:Nat}{hdr:Value}{xs:List Value}(h:rowAt w e sz hdr n xs):rE hdr sz 0 n hdr:=by
 rcases h with⟨_,⟨rfl,rfl⟩|⟨g,cap,cur,_,rfl,_,_,h,_⟩⟩|⟨rfl,_,a,rfl⟩
 ·exact .inl ⟨rfl,none,rfl⟩
 ·exact .inr ⟨g,n,cap,rfl,AL _,h,sm⟩
 ·exact .inl ⟨rfl,a,rfl⟩
theorem rE.cap{hdr v:Value}{sz a b:Nat}(h:rE hdr sz a b v)(e:a<=b):∃ad c,v= .slice ad (b-a) c∧b-a<=c:=by
 rcases h with⟨rfl,a0,rfl⟩|⟨g,n,c,rfl,h1,f,rfl⟩
 ·exact⟨a0,0,by rw [Ao],om⟩
 ·exact⟨_,_,rfl,om⟩
theorem rE.slice{hdr:Value}{sz a b len cap l h:Nat}{ad:Option Addr}(k:rE hdr sz a b (.slice ad len cap))(j:l<=h)(p:h<=b-a)(i:a<=b):
  rE hdr sz (a+l) (a+h) (.slice (if cap=l then ad else ad.map (·.add (l*sz))) (h-l) (cap-l)):=by
 rcases k with⟨rfl,a0,he⟩|⟨g,n,c,rfl,h1,o,he⟩
 ·cases he
  have f:h=0:=by omega
  have m:l=0:=by omega
  subst f m
  exact .inl ⟨rfl,ad,sm⟩
 ·cases he
  by_cases e:c-a=l
  ·rw [if_pos e]
   have:h=l:=by omega
   subst this
   exact .inl ⟨rfl,some ⟨g,a*sz,none⟩,by rw [e,Ao]⟩
  ·rw [if_neg e]
   refine .inr ⟨g,n,c,rfl,om,om,?_⟩
   simp only [Aw,nO]
   congr 1
   ·rw [A2]
   ·omega
   ·omega
theorem R.viewD{id ver lo hi:Nat}{e:TypeId}{sz:Nat}{hdr v:Value}(c:loc id=some (.arr ver e sz hdr))(f:v.oneCell'=true)(h:rE hdr sz lo hi v):R S loc (.view id ver lo hi) v:=by
 refine .view id ver lo hi v _ f c fun b i g a he=>?_
 cases he
 exact⟨AB _,fun _=>h⟩
theorem ry(h:Sim P X S loc s tm w){t e:TypeId}{id ver a b:Nat}{v:RV}{lo hi:Option RV}{o m:Option Value}{u:Ups}{r:List Nat}{B:Value}(K:P.underlying t=some (.slice e))(i:sliceB P e id ver a b lo hi s.boxes=some ((v,u),r,true))
  (L:∀es,s.boxes id=some (.arr ver e es)->a<=b->b<=es.length->∃sz hdr,loc id=some (.arr ver e sz hdr)∧szT P e=some sz∧rE hdr sz a b B)
  (h1:RO S loc lo o) (G:RO S loc hi m):
  ∃v',(Instr.sliceAt t B o m none).run P w= .ok v' w∧R S loc v v'∧u=[]:=by
 unfold sliceB at i
 rcases f:bnd lo 0 with _|l
 ·simp only [f]at i;exact fE s.boxes i
 rcases g:bnd hi ((b:Int)-a)with _|x
 ·simp only [f,g]at i;exact fE s.boxes i
 rcases hk:szT P e with _|_|k
 ·simp only [f,g,hk]at i;exact fE s.boxes i
 ·simp only [f,g,hk]at i;exact fE s.boxes i
 simp only [f,g,hk]at i
 obtain⟨C,T,W,g1,g2,_⟩:=M.bind_some i
 obtain⟨I,_,_⟩:=M.get_some g1
 cases C with
 |var _=>exact fE s.boxes g2
 |dead=>exact fE s.boxes g2
 |map _ _ _=>exact fE s.boxes g2
 |nest _ _ _ _ _=>exact fE s.boxes g2
 |hole _ _ _ _ _ _=>exact fE s.boxes g2
 |arr p E es=>
  by_cases j:ver=p∧e=E
  rotate_left
  ·simp only [j,if_false]at g2;exact fE s.boxes g2
  simp only [j,and_self,if_true]at g2
  obtain⟨rfl,rfl⟩:=j
  obtain⟨g3, -,g4⟩:=nk g2
  cases g3
  obtain⟨q,D,N,O,Q⟩:a<=b∧b<=es.length∧0<=l∧l<=x∧x<=(b:Int)-a:=of_decide_eq_true g4.symm
  obtain⟨sz,hdr,H,n,z⟩:=L es I q D
  rw [hk]at n
  cases n
  obtain⟨ad,c,rfl,J⟩:=z.cap q
  have F:((b:Int)-a)=((b-a:Nat):Int):=by omega
  rw [F]at g
  have y:=te (P:=P) (w:=w) (b:=true) (len:=b-a) (cap:=c) h1 G f g om J
  refine⟨_,?_,R.viewD H rfl (z.slice (l:=l.toNat) (h:=x.toNat) om om q),rfl⟩
  simp [Instr.sliceAt,run_underlying K,Instr.slice,y,mV hk]
theorem Sim.yV(h:Sim P X S loc s tm w){id b:Nat}{n:List PD}{ty:TypeId}{vs:Array Value}(p:s.boxes id=some (.var (n.map .d)))(e:loc id=some (.var b))(hw:w.heap[b]? =some (.cells vs ty (0,0)))(h1:∀v∈vs,v.oneCell'=true):
  Sim P X (n5 S b vs.toList) (upd loc id .dead) { s with boxes:=upd s.boxes id .dead } tm w∧Sub S (n5 S b vs.toList)∧(∀j v,vs[j]? =some v->n5 S b vs.toList ⟨b,j,none⟩=some v):=by
 have k:ni (loc id) .dead:=by rw [e];exact .dead _
 have l:=h.nH (Step.refl none w) id .dead .dead (fun b f=>by cases f) (.dead _ rfl) (fun b f=>by cases f) k
 refine⟨l.rj b vs.toList (fun j v g=>?_) (fun v m=>h1 v (by simpa using m)) (fun i L hi c=>?_) (h.own id _ b e rfl).symm,oK _ _ _,fun j v g=>qC (fun o=>h.pH id _ b e rfl o) (by simpa using g)⟩
 ·rw [cell_of_row w b j vs ty (0,0) hw]
  simpa using g
 ·by_cases a:i=id
  ·subst a;rw [mU]at hi;cases hi;cases c
  ·rw [nE _ _ a]at hi
   exact a (h.inj i id L _ b hi e c rfl)
theorem xb(h:Sim P X S loc s tm w){a:TypeId}{id:Nat}{v:RV}{u:Ups}{r:List Nat}{N:Value}(f:tv P id a s.boxes=some ((v,u),r,true))(H:R S loc (.ptr id 0) N):
  ∃v' S' loc',(Instr.sliceAt a N none none none).run P w= .ok v' w∧Sim P X S' loc' (s.ups u) tm w∧R S' loc' v v':=by
 unfold tv at f
 rcases hu:P.underlying a with _|d
 ·simp only [hu]at f;exact fE s.boxes f
 rw [hu]at f
 cases d<;>first|exact fE s.boxes f|skip
 rename_i n e
 rcases hk:szT P e with _|_|k
 ·simp only [hk]at f;exact fE s.boxes f
 ·simp only [hk]at f;exact fE s.boxes f
 simp only [hk]at f
 obtain⟨O,r1,r2,g1,g2,_⟩:=M.bind_some f
 obtain⟨K,_,_⟩:=M.get_some g1
 cases O with
 |arr _ _ _=>exact fE s.boxes g2
 |dead=>exact fE s.boxes g2
 |map _ _ _=>exact fE s.boxes g2
 |nest _ _ _ _ _=>exact fE s.boxes g2
 |hole _ _ _ _ _ _=>exact fE s.boxes g2
 |var cs=>
  rcases B:rO cs with _|l
  ·simp only [B]at g2;exact fE s.boxes g2
  simp only [B]at g2
  by_cases D:nv P e=true∨k=0
  rotate_left
  ·rw [if_neg D]at g2;exact fE s.boxes g2
  rw [if_pos D]at g2
  obtain⟨g3, -,g4⟩:=M.mP g2
  cases g3
  simp only [A6,A5,decide_eq_true_eq]at g4
  obtain⟨F,g⟩:=g4
  have E:=qV B
  subst E
  obtain⟨b,ty,vs,T,rfl,hw,hlen,W⟩:=h.xh K H
  have C:∀(i:Nat)p u,l[i]? =some p->vs[i]? =some u->V S p u:=fun i p u h1 Q=>by
   have:=W i (.d p) u (by simp [h1]) Q
   cases this with|d h=>exact h
  have m:vs.size=l.length:=by simpa using hlen
  have h1:∀u∈vs,u.oneCell'=true:=fun u hu=>by
   obtain⟨i,hi,rfl⟩:=Array.getElem_of_mem hu
   have t:i<l.length:=by omega
   exact((C i l[i] vs[i] (zc t) (Ad hi)).pR (List.all_eq_true.1 g _ (Aa t))).1
  obtain⟨Y,k2,k3⟩:=h.yV K T hw h1
  have q:=oF (P:=P) e (k+1) n l
  have o:=rf (P:=P) e (k+1) (D.imp (fun h=>h) (fun h=>om)) n l F (fun p B=>List.all_eq_true.1 g p B)
  have z:∀(i:Nat)x(j:Nat)c,(nZ P e (k+1) n l)[i]? =some x->x.cells[j]? =some c->∃u,vs[i*(k+1)+j]? =some u∧V S c u:=fun i x j c hi y=>by
   have I:=(o i x hi).2 j c y
   have J:i*(k+1)+j<vs.size:=by rw [m];exact(List.getElem?_eq_some_iff.1 I).1
   exact⟨_,Ad J,C _ c _ I (Ad J)⟩
  have hV := V.lst (S := n5 S b vs.toList) (nZ P e (k + 1) n l) b 0 n (k + 1) (fun i j => (vs[i * (k + 1) + j]?).getD default) (by rw [q]; exact AB _) (fun x H => by
    obtain⟨i,hi⟩:=Aq H
    exact(o i x hi).1)
   (fun i x j c hi y => by
    obtain⟨u,hu,_⟩:=z i x j c hi y
    rw [AK,k3 _ u hu,hu];rfl)
   (fun i x j c hi y => by
    obtain⟨u,hu,G⟩:=z i x j c hi y
    rw [hu]
    exact G.mono k2)
  rw [q]at hV
  refine⟨.slice (some ⟨b,0,none⟩) n n,_,_,?_,Y,.d hV⟩
  simp only [Instr.sliceAt,run_underlying hu,Ai,A8,Instr.sureAddr,Ak,Instr.sliceBounds,mV hk]
  by_cases L:n=0
  ·simp [L]
  ·simp [L,Addr.add]
theorem xc{a:TypeId}{cs:List PD}{v:RV}{u:Ups}{r:List Nat}{G:Value}{g:nn}(f:tw P a cs g=some ((v,u),r,true))(D:R S loc (.cptr cs) G):
  ∃v',(Instr.sliceAt a G none none none).run P w= .ok v' w∧R S loc v v'∧u=[]:=by
 unfold tw at f
 rcases hu:P.underlying a with _|d
 ·simp only [hu]at f;exact fE g f
 rw [hu]at f
 cases d<;>first|exact fE g f|skip
 rename_i n e
 rcases hk:szT P e with _|_|k
 ·simp only [hk]at f;exact fE g f
 ·simp only [hk]at f;exact fE g f
 simp only [hk]at f
 by_cases C:nv P e=true∨k=0
 rotate_left
 ·rw [if_neg C]at f;exact fE g f
 rw [if_pos C]at f
 obtain⟨g3, -,g4⟩:=M.mP f
 cases g3
 simp only [A6,A5,decide_eq_true_eq]at g4
 obtain⟨I,z⟩:=g4
 cases D with
 |cptr _ b o F hS hV=>
 have hlen:(cs.take (n*(k+1))).length=n*(k+1):=by simp;omega
 have q:=oF (P:=P) e (k+1) n (cs.take (n*(k+1)))
 have m:=rf (P:=P) e (k+1) (C.imp (fun h=>h) (fun h=>om)) n (cs.take (n*(k+1))) hlen (fun p H=>List.all_eq_true.1 z p H)
 have y:∀(i:Nat)x(j:Nat)c,(nZ P e (k+1) n (cs.take (n*(k+1))))[i]? =some x->x.cells[j]? =some c->cs[i*(k+1)+j]? =some c:=fun i x j c hi t=>by
  have B:=(m i x hi).2 j c t
  rw [AH]at B
  split at B
  ·exact B
  ·cases B
 have l := V.lst (S := S) (nZ P e (k + 1) n (cs.take (n * (k + 1)))) b o n (k + 1) (fun i j => F (i * (k + 1) + j)) (by rw [q]; exact AB _) (fun x D => by
   obtain⟨i,hi⟩:=Aq D
   exact(m i x hi).1)
  (fun i x j c hi t => by
   rw [Nat.add_assoc]
   exact hS _ c (y i x j c hi t))
  (fun i x j c hi t=>hV _ c (y i x j c hi t))
 rw [q]at l
 refine⟨.slice (some ⟨b,o,none⟩) n n,?_,.d l,rfl⟩
 simp only [Instr.sliceAt,run_underlying hu,Ai,A8,Instr.sureAddr,Ak,Instr.sliceBounds,mV hk]
 by_cases E:n=0
 ·simp [E]
 ·simp [E,Addr.add]
theorem xe(h:Sim P X S loc s tm w){t e:TypeId}{id ver:Nat}{v:RV}{lo hi:Option RV}{x:RV}{n l:Option Value}{o:Value}{u:Ups}{r:List Nat}{E:Value}(L:P.underlying t=some (.slice e))(f:tz P e id ver lo hi x s.boxes=some ((v,u),r,true))
  (N:R S loc (.ref id ver) E) (h1:RO S loc lo n) (p:RO S loc hi l) (H:R S loc x o):
  ∃v',(Instr.sliceAt t E n l (some o)).run P w= .ok v' w∧R S loc v v'∧u=[]:=by
 unfold tz at f
 cases h1<;>first|exact fE s.boxes f|skip
 cases p<;>first|exact fE s.boxes f|skip
 rename_i y vh p
 cases y<;>first|exact fE s.boxes f|skip
 rename_i T
 cases T<;>first|exact fE s.boxes f|skip
 rename_i O b
 cases x<;>first|exact fE s.boxes f|skip
 rename_i pm
 cases pm<;>first|exact fE s.boxes f|skip
 rename_i Q hm
 rcases hk:szT P e with _|_|k
 ·simp only [hk]at f;exact fE s.boxes f
 ·simp only [hk]at f;exact fE s.boxes f
 simp only [hk]at f
 by_cases j:b=hm
 rotate_left
 ·rw [if_neg j]at f;exact fE s.boxes f
 rw [if_pos j]at f
 subst j
 obtain⟨F,r1,r2,g1,g2,_⟩:=M.bind_some f
 obtain⟨I,_,_⟩:=M.get_some g1
 cases F with
 |var _=>exact fE s.boxes g2
 |dead=>exact fE s.boxes g2
 |map _ _ _=>exact fE s.boxes g2
 |nest _ _ _ _ _=>exact fE s.boxes g2
 |hole _ _ _ _ _ _=>exact fE s.boxes g2
 |arr i B es=>
  simp only at g2
  by_cases g:ver=i∧e=B
  rotate_left
  ·rw [if_neg g]at g2;exact fE s.boxes g2
  rw [if_pos g]at g2
  obtain⟨rfl,rfl⟩:=g
  obtain⟨g3, -,g4⟩:=M.mP g2
  cases g3
  obtain⟨z,Y⟩:0<=b∧b<=es.length:=of_decide_eq_true g4.symm
  obtain⟨sz,xs,m,K,how,hf⟩:=h.qu I N
  obtain⟨a,c,rfl,hc⟩:=how.hdr
  have e2:=p.np
  have G:=H.np
  subst e2 G
  refine⟨.slice a b.toNat b.toNat,?_,.fview id ver b.toNat _ _ rfl m fun i B W D he=>by cases he;exact⟨AB _,fun _=>⟨a,_,c,rfl,om,rfl⟩⟩,rfl⟩
  have d1:0<=b∧b<=(c:Int):=⟨z,om⟩
  have d2:0<=b∧b<=(b.toNat:Int):=⟨z,om⟩
  have q:(Instr.sliceBounds true es.length c none (some (.int O b)) (some (.int Q b))).run P w= .ok (0,b.toNat,b.toNat) w:=by
   simp [Instr.sliceBounds,Instr.sliceBound,asIntOf,d1,d2]
   intro J
   omega
  simp only [Instr.sliceAt,run_underlying L,Instr.slice,Ai,A8,q,mV hk,Ak]
  by_cases C:b.toNat=0
  ·simp [C]
  ·cases a<;>simp [C,Addr.add]
theorem xK(h:Sim P X S loc s tm w){t e:TypeId}(hu:P.underlying t=some (.slice e)){es:List PD}{k k':IntKind}{j m:Int}{v:RV}{u:Ups}{r:List Nat}{n:Value}(g:vF P e es j m s.boxes=some ((v,u),r,true))(D:V S (.lst es) n):
  ∃v' S' loc',(Instr.sliceAt t n none (some (.int k j)) (some (.int k' m))).run P w= .ok v' w∧Sim P X S' loc' (s.ups u) tm w∧R S' loc' v v':=by
 unfold vF at g
 rcases hk:szT P e with _|_|sz
 ·simp only [hk]at g;exact fE s.boxes g
 ·simp only [hk]at g;exact fE s.boxes g
 simp only [hk]at g
 by_cases i:j=m
 rotate_left
 ·rw [if_neg i]at g;exact fE s.boxes g
 rw [if_pos i]at g
 subst i
 obtain⟨g3, -,g4⟩:=M.mP (b:=s.boxes) g
 cases g3
 have q:j=es.length:=of_decide_eq_true g4.symm
 subst q
 obtain⟨a,c,rfl,E,C⟩:∃a c,n= .slice a es.length c∧es.length<=c∧V S (.lst es) (.slice a es.length es.length):=by
  cases D with
  |nil a c=>exact⟨a,c,rfl,AL _,.nil _ _⟩
  |lst _ b o c sz f h1 x y z=>exact⟨_,c,rfl,h1,.lst es b o _ sz f (AB _) x y z⟩
 refine⟨.slice a es.length es.length,S,loc,?_,h,.dfull es a C⟩
 have d1:(0:Int)<=(es.length:Int)∧(es.length:Int)<=(c:Int):=⟨om,om⟩
 have l:(Instr.sliceBounds true es.length c none (some (.int k (es.length:Int))) (some (.int k' (es.length:Int)))).run P w= .ok (0,es.length,es.length) w:=by
  simp [Instr.sliceBounds,Instr.sliceBound,asIntOf]
  intro B
  omega
 simp only [Instr.sliceAt,run_underlying hu,Instr.slice,Ai,A8,l,mV hk,Ak]
 by_cases p:es.length=0
 ·simp [p]
 ·cases a<;>simp [p,Addr.add]
theorem xU(h:Sim P X S loc s tm w){t:TypeId}{x v:RV}{lo hi mx:Option RV}{O H Q:Option Value}{u:Ups}{r:List Nat}{W:Value}(f:v8 P t x lo hi mx s.boxes=some ((v,u),r,true))(F:R S loc x W)
  (h1:RO S loc lo O) (h2:RO S loc hi H) (h3:RO S loc mx Q):
  ∃v' S' loc',(Instr.sliceAt t W O H Q).run P w= .ok v' w∧Sim P X S' loc' (s.ups u) tm w∧R S' loc' v v':=by
 unfold v8 at f
 rcases hu:P.underlying t with _|d
 ·simp only [hu]at f;exact fE s.boxes f
 rw [hu]at f
 cases d<;>first|exact fE s.boxes f|skip
 rename_i e
 by_cases N:∃es,x= .d (.lst es)
 ·obtain⟨es,rfl⟩:=N
  cases F with
  |d F=>
  cases h1<;>first|exact fE s.boxes f|skip
  cases h2 with
  |none=>exact fE s.boxes f
  |some g1=>
  rename_i r1 v1
  cases r1<;>first|exact fE s.boxes f|skip
  rename_i p1
  cases p1<;>first|exact fE s.boxes f|skip
  cases h3 with
  |none=>exact fE s.boxes f
  |some g2=>
  rename_i r2 v2
  cases r2<;>first|exact fE s.boxes f|skip
  rename_i p2
  cases p2<;>first|exact fE s.boxes f|skip
  have e1:=g1.np
  have e2:=g2.np
  subst e1 e2
  exact xK h hu f F
 cases x<;>first|exact fE s.boxes f|(rename_i p;cases p<;>first|exact fE s.boxes f|exact(N ⟨_,rfl⟩).elim)|skip
 rename_i id ver
 cases lo<;>first|exact fE s.boxes f|skip
 cases hi<;>first|exact fE s.boxes f|skip
 rename_i b3
 cases b3<;>first|exact fE s.boxes f|skip
 rename_i p0
 cases p0<;>first|exact fE s.boxes f|skip
 rename_i k l
 cases mx<;>first|exact fE s.boxes f|skip
 ·simp only at f
  rcases hk:szT P e with _|_|sz
  ·simp only [hk]at f;exact fE s.boxes f
  ·simp only [hk]at f;exact fE s.boxes f
  simp only [hk]at f
  obtain⟨bx,r1,r2,g1,g2,_⟩:=M.bind_some f
  obtain⟨hb,_,_⟩:=M.get_some g1
  cases bx with
  |var _=>exact fE s.boxes g2
  |dead=>exact fE s.boxes g2
  |map _ _ _=>exact fE s.boxes g2
  |nest _ _ _ _ _=>exact fE s.boxes g2
  |hole _ _ _ _ _ _=>exact fE s.boxes g2
  |arr y e' es=>
   simp only at g2
   by_cases o:ver=y∧e=e'
   rotate_left
   ·rw [if_neg o]at g2;exact fE s.boxes g2
   rw [if_pos o]at g2
   obtain⟨rfl,rfl⟩:=o
   obtain⟨g3, -,g4⟩:=M.mP g2
   cases g3
   obtain⟨c1,c2⟩:0<=l∧l<=es.length:=of_decide_eq_true g4.symm
   obtain⟨b4,xs,m,K,how,hf⟩:=h.qu hb F
   rw [hk]at K
   cases K
   cases h3
   have b0:sliceB P e id ver 0 es.length none (some (.d (.int k l))) s.boxes=some ((.view id ver (0+(0:Int).toNat) (0+l.toNat),[]),[id],true):=by
    have e0:((es.length:Nat):Int)-((0:Nat):Int)=(es.length:Int):=by simp
    simp only [sliceB,bnd,hk,M.bind,M.get,hb,and_self,if_true,nr,M.mS,e0]
    simp [c1,c2]
   obtain ⟨v', k1, k2, -⟩ := ry h hu b0 (fun c0 G _ _ => by
    rw [hb]at G
    cases G
    exact⟨_,_,m,hk,rE.ref how⟩) h1 h2
   have E:rE W (sz+1) (0+(0:Int).toNat) (0+l.toNat) v':=by
    cases k2 with
    |view _ _ _ _ _ L T Y B=>
     rw [m]at Y
     cases Y
     exact(B ver e (sz+1) W rfl).2 rfl
   have T:v'.oneCell'=true:=by
    cases k2 with
    |view _ _ _ _ _ L T Y B=>exact T
   have z1:(0+(0:Int).toNat)=0:=rfl
   have z2:(0+l.toNat)=l.toNat:=AK _
   rw [z1,z2]at E
   have hlen:(es.take l.toNat).length=l.toNat:=by simp;omega
   have D:Flat S (sz+1) (es.take l.toNat) (xs.take (l.toNat*(sz+1))):=by
    refine⟨fun x F=>hf.len x (Av F),fun q hq=>hf.one q (Av hq),fun i x j c hi hj=>?_⟩
    rw [AH]at hi
    split at hi
    ·rename_i a8
     obtain⟨q,h5,h6⟩:=hf.cell i x j c hi hj
     refine⟨q,?_,h6⟩
     have c3:j<sz+1:=by rw [<-hf.len x (A0 hi)];exact(List.getElem?_eq_some_iff.1 hj).1
     have:i*(sz+1)+j<l.toNat*(sz+1):=by
      calc i*(sz+1)+j<i*(sz+1)+(sz+1):=by omega
       _=(i+1)*(sz+1):=by rw [A2,A4]
       _<=l.toNat*(sz+1):=A3 _ a8
     rw [AH,if_pos this]
     exact h5
    ·cases hi
   have J:rowAt w e (sz+1) v' (es.take l.toNat).length (xs.take (l.toNat*(sz+1))):=by
    rw [hlen]
    rcases E with⟨h0,a,rfl⟩|⟨g,n,c,he,_,B,rfl⟩
    ·rw [<-h0]
     exact .inr ⟨rfl,sm,a,rfl⟩
    ·simp only [Nat.zero_mul,Nat.sub_zero]
     subst he
     rcases how with⟨a7,⟨hn,_⟩|⟨g',cap,cur,fz,hg,a5,C,b5,I,a6,b2⟩⟩|⟨hn,c4,a,ha⟩
     ·cases hn
     ·cases hg
      refine .inl ⟨by rw [As,a7];exact Am (A3 _ om),.inr ⟨g,c,cur,fz,rfl,a5,C,B,I,a6,?_⟩⟩
      rw [<-b2,List.take_take]
      congr 1
      exact(Am (A3 _ om)).symm
     ·cases ha
      have:l.toNat=0:=by omega
      rw [this]
      exact .inr ⟨rfl,sm,_,rfl⟩
   have b1:ni (loc id) (.arr (ver+1) e (sz+1) v'):=by
    rw [m]
    exact .arr om
   have a9:=h.nH (Step.refl none w) id (.arr (ver+1) e (es.take l.toNat)) (.arr (ver+1) e (sz+1) v') (fun b B=>by cases B) (.arr (ver+1) e _ (sz+1) v' _ hk J D)
    (fun b z => by
     refine .inl ⟨_,m,?_⟩
     rcases E with⟨h0,a,rfl⟩|⟨g,n,c,he,_,B,rfl⟩
     ·cases a<;>cases z
     ·subst he
      cases c with
      |zero=>cases z
      |succ c=>cases z;rfl) b1
   have hR:R S (upd loc id (.arr (ver+1) e (sz+1) v')) (.ref id (ver+1)) v':= .ref id (ver+1) v' _ T (mU _ _ _) fun y e' b4 b6 he=>by
    cases he;exact⟨AB _,fun _=>rfl⟩
   exact⟨v',S,_,k1,a9,hR⟩
theorem xd(h:Sim P X S loc s tm w){L:Nat}{t:TypeId}{x v:RV}{lo hi Q:Option RV}{y q z:Option Value}{u:Ups}{r:List Nat}{G:Value}(f:oa P L t x lo hi Q s.boxes=some ((v,u),r,true))(B:R S loc x G)
  (h1:RO S loc lo y) (j:RO S loc hi q) (F:RO S loc Q z):
  ∃v' S' loc',(Instr.sliceAt t G y q z).run P w= .ok v' w∧Sim P X S' loc' (s.ups u) tm w∧R S' loc' v v':=by
 have fin:(∃v',(Instr.sliceAt t G y q z).run P w= .ok v' w∧R S loc v v'∧u=[])->∃v' S' loc',(Instr.sliceAt t G y q z).run P w= .ok v' w∧Sim P X S' loc' (s.ups u) tm w∧R S' loc' v v':=by
  rintro⟨v',g1,g2,rfl⟩
  exact⟨v',S,loc,g1,h,g2⟩
 cases F with
 |some F=>
  unfold oa at f
  rcases hu:P.underlying t with _|d
  ·simp only [hu]at f;exact fE s.boxes f
  rw [hu]at f
  by_cases E:∃id ver,x= .ref id ver
  ·obtain⟨id,ver,rfl⟩:=E
   cases d<;>first|exact fE s.boxes f|skip
   exact fin (xe h hu f B h1 j F)
  rcases x with p|_|_|_|_|_|_|⟨_,_|_⟩|_|_|_|_|_<;>first|(cases d<;>exact fE s.boxes f)|exact(E ⟨_,_,rfl⟩).elim|skip
  cases p<;>first|(cases d<;>exact fE s.boxes f)|skip
  cases d<;>first|exact fE s.boxes f|skip
  case slice es e=>
   simp only [uv]at f
   rcases i:bnd lo 0 with _|l
   ·simp only [i]at f;exact fE s.boxes f
   rcases hi with _|(⟨⟨_⟩|⟨_,J⟩|_|_|_|_⟩|_|_|_|_|_|_|_|_|_|_|_|_)<;>first|(simp only [i]at f;exact fE s.boxes f)|skip
   rename_i N vm _
   rcases N with⟨⟨_⟩|⟨_,m⟩|_|_|_|_⟩|_|_|_|_|_|_|_|_|_|_|_|_<;>first|(simp only [i]at f;exact fE s.boxes f)|skip
   rcases hk:szT P e with _|_|k
   ·simp only [i,hk]at f;exact fE s.boxes f
   ·simp only [i,hk]at f;exact fE s.boxes f
   simp only [i,hk]at f
   by_cases C:l=0∧J=0∧m=0
   rotate_left
   ·rw [if_neg C]at f;exact fE s.boxes f
   rw [if_pos C]at f
   obtain⟨rfl,rfl,rfl⟩:=C
   obtain⟨_,r1,r2,g1,g2,_⟩:=M.bind_some f
   obtain⟨K,_,_⟩:=M.nJ g1
   obtain⟨g3, -, -⟩:=M.mP g2
   cases g3
   obtain⟨ad,c,rfl,hc⟩:=uW B.rp
   obtain⟨loc',q1,q2,_⟩:=h.sb (es:=[]) (xs:=[]) K (Step.refl none w) hk (hdr:= .slice ad 0 0) (.inr ⟨rfl,rfl,ad,rfl⟩) (Flat.nil S _) (fun g hg=>by cases ad<;>cases hg) rfl
   have Y:=F.np
   subst Y
   refine⟨_,S,loc',?_,q1,q2⟩
   cases j with
   |some j=>
    have e2:=j.np
    subst e2
    cases h1 with
    |none=>simp [Instr.sliceAt,run_underlying hu,Instr.slice,Instr.sliceBounds,Instr.sliceBound,asIntOf,mV hk]
    |some h1=>
     obtain⟨k,rfl⟩:=rP i
     simp only [bnd,AD]at i
     try subst i
     have H:=h1.np
     subst H
     simp [Instr.sliceAt,run_underlying hu,Instr.slice,Instr.sliceBounds,Instr.sliceBound,asIntOf,mV hk]
 |none=>
  rcases hu:P.underlying t with _|d
  ·unfold oa at f;simp only [hu]at f;exact fE s.boxes f
  rcases x with p|_|_|_|_|_|⟨id,ver⟩|⟨id,off⟩|_|_|⟨id,ver,a,b⟩|_|_<;>first|exact fin (xY f B h1 j)|skip
  case ptr=>
   unfold oa at f
   rw [hu]at f
   cases d<;>first|exact fE s.boxes f|skip
   cases off<;>first|exact fE s.boxes f|skip
   cases h1<;>first|exact fE s.boxes f|skip
   cases j<;>first|exact fE s.boxes f|skip
   exact xb h f B
  case cptr=>
   unfold oa at f
   rw [hu]at f
   cases d<;>first|exact fE s.boxes f|skip
   cases h1<;>first|exact fE s.boxes f|skip
   cases j<;>first|exact fE s.boxes f|skip
   exact fin (xc f B)
  case ref=>
   unfold oa at f
   rw [hu]at f
   cases d<;>first|exact fE s.boxes f|skip
   simp only at f
   obtain⟨W,r1,r2,g1,g2,_⟩:=M.bind_some f
   obtain⟨O,_,_⟩:=M.get_some g1
   cases W with
   |var _=>exact fE s.boxes g2
   |dead=>exact fE s.boxes g2
   |map _ _ _=>exact fE s.boxes g2
   |nest _ _ _ _ _=>exact fE s.boxes g2
   |hole _ _ _ _ _ _=>exact fE s.boxes g2
   |arr T e' es=>
    refine fin (ry h hu g2 (fun I o _ _=>?_) h1 j)
    rw [O]at o
    cases o
    obtain⟨sz,xs,n,D,how,hf⟩:=h.qu O B
    exact⟨sz,_,n,D,rE.ref how⟩
  case view=>
   unfold oa at f
   rw [hu]at f
   cases d<;>first|exact fE s.boxes f|skip
   simp only at f
   refine fin (ry h hu f (fun I o _ _=>?_) h1 j)
   obtain⟨sz,xs,hdr,n,D,how,hf,ho,hd⟩:=h.tZ o B
   exact⟨sz,hdr,n,D,hd⟩
  case cI=>
   unfold oa at f
   rw [hu]at f
   cases d<;>first|exact fE s.boxes f|skip
   rename_i e
   simp only at f
   rcases i:bnd lo 0 with _|l
   ·simp only [i]at f;exact fE s.boxes f
   rcases hi with _|(⟨⟨_⟩|⟨_,J⟩|_|_|_|_⟩|_|_|_|_|_|_|_|_|_|_|_|_)<;>first|(simp only [i]at f;exact fE s.boxes f)|skip
   rcases hk:szT P e with _|k
   ·simp only [i,hk]at f;exact fE s.boxes f
   simp only [i,hk]at f
   by_cases C:l=0∧J=0
   rotate_left
   ·rw [if_neg C]at f;exact fE s.boxes f
   rw [if_pos C]at f
   obtain⟨rfl,rfl⟩:=C
   obtain⟨g3, -, -⟩:=M.mJ f
   cases g3
   cases B
   refine fin ⟨.slice none 0 0,?_,.cI,rfl⟩
   cases j with
   |some j=>
    have e2:=j.np
    subst e2
    cases h1 with
    |none=>simp [Instr.sliceAt,run_underlying hu,Instr.slice,Instr.sliceBounds,Instr.sliceBound,asIntOf,mV hk]
    |some h1=>
     obtain⟨k,rfl⟩:=rP i
     simp only [bnd,AD]at i
     try subst i
     have H:=h1.np
     subst H
     simp [Instr.sliceAt,run_underlying hu,Instr.slice,Instr.sliceBounds,Instr.sliceBound,asIntOf,mV hk]
  all_goals
   unfold oa at f
   rw [hu]at f
   cases d<;>exact fE s.boxes f
theorem Flat.append{sz:Nat}{es f:List PD}{xs k:List Value}(h:Flat S sz es xs)(l:xs.length=es.length*sz)(a:Flat S sz f k):Flat S sz (es++f) (xs++k):=by
 refine⟨fun e he=>(List.mem_append.1 he).elim (h.len e) (a.len e),fun u hu=>(List.mem_append.1 hu).elim (h.one u) (a.one u),fun i e j x hi g=>?_⟩
 by_cases b:i<es.length
 ·rw [AQ b]at hi
  obtain⟨u,hu,c⟩:=h.cell i e j x hi g
  exact⟨u,by rw [AQ (List.getElem?_eq_some_iff.1 hu).1];exact hu,c⟩
 ·rw [AR om]at hi
  obtain⟨u,hu,c⟩:=a.cell (i-es.length) e j x hi g
  refine⟨u,?_,c⟩
  have hle:es.length*sz<=i*sz:=A3 _ om
  rw [AR om, <-hu]
  congr 1
  rw [l,Nat.sub_mul]
  omega
def Appd(w:World)(S:mW)(sz:Nat)(b:Value)(es:List PD):Prop:=
 ∃a c news,b= .slice a es.length c∧news.length=es.length*sz∧Flat S sz es news∧(es≠ []->∃ad,a=some ad∧∀(j:Nat)u,news[j]? =some u->w.cell? (ad.add j)=some u)
theorem nP(h:Sim P X S loc s tm w){x:RV}{es:List PD}{r:List Nat}{vx:Value}{sz:Nat}(Q:nV x s.boxes=some (es,r,true))(F:R S loc x vx)(H:0<sz)(O:∀e∈es,e.cells.length=sz):
  Appd w S sz vx es:=by
 rcases x with p|_|_|_|_|_|⟨id,ver⟩|_|_|_|_|_|_<;>first|exact fE s.boxes Q|skip
 ·cases p<;>first|exact fE s.boxes Q|skip
  rename_i t
  obtain⟨h1, -, -⟩:=M.mJ (b:=s.boxes) Q
  subst h1
  by_cases E:es=[]
  ·subst E
   obtain⟨a,c,rfl,_⟩:=uW F.rp
   exact⟨a,c,[],rfl,sm,Flat.nil S _,fun h=>(h rfl).elim⟩
  ·obtain⟨N,r0,J⟩:∃e r,es=e::r:=by
    cases es with
    |nil=>exact(E rfl).elim
    |cons e r=>exact⟨e,r,rfl⟩
   have h0:es[0]? =some N:=by rw [J];rfl
   obtain⟨b,o,c,l,f,rfl,hc,C,hS,hV⟩:=F.rp.elem h0
   have:l=sz:=by rw [<-C N (A0 h0)];exact O N (A0 h0)
   subst this
   have key:∀q,q<es.length*l->∃e x,es[q / l]? =some e∧e.cells[q%l]? =some x:=by
    intro q B
    have h1:q / l<es.length:=(Nat.div_lt_iff_lt_mul H).2 B
    have v:q%l<(es[q / l]).cells.length:=by rw [C _ (Aa h1)];exact Nat.mod_lt _ H
    exact⟨_,_,zc h1,zc v⟩
   have D:∀q u,((AI (es.length*l)).map (fun q=>f (q / l) (q%l)))[q]? =some u->q<es.length*l∧u=f (q / l) (q%l):=by
    intro q u B
    rw [Ap]at B
    cases hr:(AI (es.length*l))[q]? with
    |none=>simp [hr]at B
    |some k=>
     simp only [hr,Aw,AD]at B
     obtain⟨a5,he⟩:=List.getElem?_eq_some_iff.1 hr
     simp at a5 he
     subst he
     exact⟨a5,B.symm⟩
   have G:∀q,q<es.length*l->S ⟨b,o+q,none⟩=some (f (q / l) (q%l)):=by
    intro q B
    obtain⟨e,x,h1,v⟩:=key q B
    have:=hS _ e _ x h1 v
    rw [<-this]
    congr 2
    have:=Nat.div_add_mod q l
    rw [An]at this
    omega
   refine⟨_,c,(AI (es.length*l)).map (fun q=>f (q / l) (q%l)),rfl,sm,⟨C,?_,?_⟩,fun _=>⟨_,rfl,?_⟩⟩
   ·intro u hu
    obtain⟨q,B,a7⟩:=List.getElem_of_mem hu
    obtain⟨h1,v⟩:=D q u (by rw [zc B,a7])
    exact h.qT _ u (by rw [v];exact G q h1)
   ·intro i e j x hi T
    have m:=(List.getElem?_eq_some_iff.1 hi).1
    have W:j<l:=by
     have:=(List.getElem?_eq_some_iff.1 T).1
     rw [C e (A0 hi)]at this
     exact this
    have B:i*l+j<es.length*l:=by
     have:=A3 l (show i+1<=es.length from m)
     rw [A2,A4]at this
     omega
    refine⟨f i j,?_,hV i e j x hi T⟩
    rw [Ap,List.getElem?_range B]
    simp only [Aw,AD]
    have hd:(i*l+j) / l=i:=by
     rw [An,Nat.mul_add_div H,Nat.div_eq_of_lt W,Al]
    have hm:(i*l+j)%l=j:=by
     rw [An,Nat.mul_add_mod,Nat.mod_eq_of_lt W]
    rw [hd,hm]
   ·intro q u B
    obtain⟨h1,rfl⟩:=D q u B
    rw [nO]
    exact h.imm _ _ (G q h1)
 ·obtain⟨h1, -, -⟩:=M.mJ (b:=s.boxes) Q
  subst h1
  cases F with
  |cI=>exact⟨none,0,[],rfl,sm,Flat.nil S _,fun h=>(h rfl).elim⟩
 ·obtain⟨bx,r1,r2,h1,v,_⟩:=M.bind_some Q
  obtain⟨hb,_,_⟩:=M.get_some h1
  cases bx with
  |arr I e' t=>
   by_cases z:ver=I
   rotate_left
   ·simp only [z,if_false]at v;exact fE s.boxes v
   simp only [z,if_true]at v
   subst z
   obtain⟨h3, -, -⟩:=M.mJ v
   subst h3
   obtain⟨l,xs,Y,C,how,hf⟩:=h.qu hb F
   by_cases E:es=[]
   ·subst E
    obtain⟨a,c,rfl,_⟩:=how.hdr
    exact⟨a,c,[],rfl,sm,Flat.nil S _,fun h=>(h rfl).elim⟩
   ·obtain⟨N,r0,J⟩:∃e r,es=e::r:=by
     cases es with
     |nil=>exact(E rfl).elim
     |cons e r=>exact⟨e,r,rfl⟩
    have hm:N∈es:=by rw [J];simp
    have:l=sz:=by rw [<-hf.len N hm];exact O N hm
    subst this
    have K:0<es.length:=by rw [J];simp
    have how:=how.qN K
    obtain⟨g,c,rfl⟩:=pE how K
    exact⟨_,c,xs,rfl,how.1,hf,fun _=>⟨_,rfl,how.cells rfl⟩⟩
  |var _=>exact fE s.boxes v
  |dead=>exact fE s.boxes v
  |map _ _ _=>exact fE s.boxes v
  |nest _ _ _ _ _=>exact fE s.boxes v
  |hole _ _ _ _ _ _=>exact fE s.boxes v
 ·rename_i id ver lo m
  obtain⟨bx,r1,r2,h1,v,_⟩:=M.bind_some Q
  obtain⟨hb,_,_⟩:=M.get_some h1
  cases bx with
  |arr I e' t=>
   by_cases z:ver=I
   rotate_left
   ·simp only [z,if_false]at v;exact fE s.boxes v
   simp only [z,if_true]at v
   subst z
   obtain⟨h3, -,h4⟩:=M.mP v
   subst h3
   have hn:lo<=m∧m<=t.length:=of_decide_eq_true h4.symm
   obtain⟨l,xs,hdr,Y,C,how,hf,ho,hd⟩:=h.tZ hb F
   have hlen:((t.drop lo).take (m-lo)).length=m-lo:=by rw [As,Ar];omega
   have D:∀(i:Nat)x,((t.drop lo).take (m-lo))[i]? =some x->t[lo+i]? =some x:=by
    intro i x F
    rw [AH]at F
    split at F
    ·rwa [AG]at F
    ·cases F
   by_cases E:m-lo=0
   ·have:(t.drop lo).take (m-lo)=[]:=by rw [E];rfl
    rw [this]
    rcases hd with⟨rfl,a,rfl⟩|⟨g,n,c,rfl,_,_,rfl⟩
    ·exact⟨a,0,[],rfl,sm,Flat.nil S _,fun h=>(h rfl).elim⟩
    ·exact⟨_,c-lo,[],by rw [E];rfl,sm,Flat.nil S _,fun h=>(h rfl).elim⟩
   ·rcases hd with⟨rfl,a,rfl⟩|⟨g,n,c,rfl,_,_,rfl⟩
    ·omega
    have K:0<t.length:=by omega
    have a8:((t.drop lo).take (m-lo))[0]? =some (t[lo]'om):=by
     rw [AH,if_pos om,AG,Al,zc]
    have:l=sz:=by rw [<-hf.len _ (Aa (by omega:lo<t.length))];exact O _ (A0 a8)
    subst this
    have L:=how.qN K
    have b0:=L.1
    have hmul:lo*l+(m-lo)*l=m*l:=by rw [<-A2];congr 1;omega
    have hle:m*l<=t.length*l:=A3 _ hn.2
    refine⟨_,c-lo,(xs.drop (lo*l)).take ((m-lo)*l),by rw [hlen],?_,⟨?_,?_,?_⟩,fun _=>⟨_,rfl,?_⟩⟩
    ·rw [hlen,As,Ar];omega
    ·exact fun x F=>hf.len x (Au (Av F))
    ·exact fun x F=>hf.one x (Au (Av F))
    ·intro i x j y hi T
     obtain⟨q,B,hv⟩:=hf.cell (lo+i) x j y (D i x hi) T
     refine⟨q,?_,hv⟩
     have a6:i<m-lo:=by
      have:=(List.getElem?_eq_some_iff.1 hi).1
      rw [hlen]at this
      exact this
     have a9:j<l:=by
      have:=(List.getElem?_eq_some_iff.1 T).1
      rw [hf.len x (A0 (D i x hi))]at this
      exact this
     have hm:(i+1)*l<=(m-lo)*l:=A3 _ a6
     rw [A2,A4]at hm
     rw [AH,if_pos om,AG, <-B]
     congr 1
     rw [A2]
     omega
    ·intro j q B
     rw [AH]at B
     split at B
     ·rw [AG]at B
      have:=L.cells (g:=g) rfl _ q B
      rw [nO]at this⊢
      rw [<-this];congr 2;omega
     ·cases B
  |var _=>exact fE s.boxes v
  |dead=>exact fE s.boxes v
  |map _ _ _=>exact fE s.boxes v
  |nest _ _ _ _ _=>exact fE s.boxes v
  |hole _ _ _ _ _ _=>exact fE s.boxes v
end
end Go.Dw
