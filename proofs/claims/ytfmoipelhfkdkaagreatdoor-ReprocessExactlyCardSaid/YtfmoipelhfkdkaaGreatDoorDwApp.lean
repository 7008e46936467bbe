
import Derived.Test.YtfmoipelhfkdkaaGreatDoorDwList
import Derived.Laws.Slices
set_option linter.unusedVariables false
set_option linter.unusedSimpArgs false
open Option.some renaming injEq->DB
open Nat renaming add_mul->D1, add_zero->D2, le_refl->DA, min_eq_left->EB, mul_comm->EC, mul_le_mul_right->D3, one_mul->D4, sub_self->D5, zero_add->DI, zero_le->DJ
open Bool renaming and_eq_true->D6, true_eq->D7
open List renaming getElem?_append_left->DP, getElem?_append_right->DQ, getElem?_drop->DE, getElem?_map->ED, getElem?_of_mem->EE, getElem?_take->DF, getElem_mem->Dp, length_drop->EF, length_take->EG, mem_of_getElem?->DY, mem_of_mem_drop->EH, mem_of_mem_take->EI, range->DG
open Option renaming map_some->EJ
open Array renaming getElem?_eq_getElem->Ds
open Go.Sem renaming run_bind->Dy, run_pure->EA
open Go.Result renaming andThen_ok->D9

namespace Go.Dw
section
variable {P:Program}{X:Ctx}{S:rC}{loc:sf}{s:St}{tm:Array Value}{w:World}
inductive RO(S:rC)(loc:sf):Option RV->Option Value->Prop
 |none:RO S loc none none
 |some {rv:RV} {v:Value} (h:R S loc rv v):RO S loc (some rv) (some v)
theorem wV{rv:RV}{d n:Int}(h:bnd (some rv) d=some n):∃k,rv= .d (.int k n):=by
 rcases rv with p|_|_|_|_|_|_|_|_|_|_|_|_<;>first|(simp [bnd]at h;done)|skip
 cases p<;>first|(simp [bnd]at h;done)|skip
 simp only [bnd,DB]at h
 subst h
 exact⟨_,rfl⟩
theorem xI{b:Bool}{len cap:Nat}{lo hi:Option RV}{q j:Option Value}{l h:Int}(h1:RO S loc lo q)(f:RO S loc hi j)(hl:bnd lo 0=some l)(g:bnd hi len=some h)
  (u:0<=l∧l<=h∧h<=len) (hc:len<=cap):(Instr.sliceBounds b len cap q j none).run P w= .ok (l.toNat,h.toNat,cap) w:=by
 obtain⟨a1,a2,a3⟩:=u
 cases h1 with
 |none=>
  simp only [bnd,DB]at hl
  subst hl
  cases f with
  |none=>simp only [bnd,DB]at g;subst g;simp [Instr.sliceBounds]
  |some f=>
   obtain⟨k,rfl⟩:=wV g
   have:=f.rZ
   subst this
   have e:0<=h∧h<=(cap:Int):=⟨za,za⟩
   simp [Instr.sliceBounds,Instr.sliceBound,asIntOf,e]
 |some h1=>
  obtain⟨k,rfl⟩:=wV hl
  have:=h1.rZ
  subst this
  cases f with
  |none=>
   simp only [bnd,DB]at g
   subst g
   have e:0<=l∧l<=(len:Int):=⟨za,za⟩
   simp [Instr.sliceBounds,Instr.sliceBound,asIntOf,e]
  |some f=>
   obtain⟨k',rfl⟩:=wV g
   have:=f.rZ
   subst this
   have e:0<=h∧h<=(cap:Int):=⟨za,za⟩
   have r:l<=max h 0:=by omega
   simp [Instr.sliceBounds,Instr.sliceBound,asIntOf,e,a1,r]
theorem uK{α:Type}(l:List α)(hi:Option RV)(a h:Int)(f:bnd hi l.length=some h)(g:0<=a∧a<=h∧h<=l.length):
  cut l a.toNat (hiOf hi h)=(l.drop a.toNat).take (h.toNat-a.toNat):=by
 cases hi with
 |none=>
  simp only [bnd,DB]at f
  subst f
  simp only [hiOf,cut]
  rw [List.take_of_length_le]
  simp
 |some r=>simp only [hiOf,cut]
theorem Flat.nil(S:rC)(sz:Nat):Flat S sz [] []:=⟨(fun e he=>by cases he),(fun u hu=>by cases hu),(fun i e j x hi=>by simp at hi)⟩
theorem B5{N:Nat}{t:TypeId}{p:PD}{v:RV}{lo hi:Option RV}{H E:Option Value}{b:rY}{u:Ups}{r:List Nat}{Q:Value}(hl:tk P N t (.d p) lo hi none b=some ((v,u),r,true))(L:R S loc (.d p) Q)
  (h1:RO S loc lo H) (O:RO S loc hi E):
  ∃v',(Instr.sliceAt t Q H E none).run P w= .ok v' w∧R S loc v v'∧u=[]:=by
 unfold tk at hl
 rcases hu:P.underlying t with _|d
 ·simp only [hu]at hl;exact fE b hl
 rw [hu]at hl
 cases d<;>first|exact fE b hl|skip
 case string=>
  cases p<;>first|exact fE b hl|skip
  rename_i l
  rcases g:bnd lo 0 with _|a
  ·simp only [g]at hl;exact fE b hl
  rcases q:bnd hi l.length with _|h
  ·simp only [g,q]at hl;exact fE b hl
  simp only [g,q]at hl
  obtain⟨I, -,C⟩:=rR hl
  cases I
  have D:=of_decide_eq_true C.symm
  have U:=L.wI
  subst U
  have J:=xI (P:=P) (w:=w) (b:=false) (len:=l.length) (cap:=l.length) h1 O g q D (DA _)
  refine⟨.string ((ByteArray.mk l.toArray).extract a.toNat h.toNat),?_,?_,rfl⟩
  ·simp [Instr.sliceAt,run_underlying hu,Instr.slice,zx,J]
  ·rw [ByteArray.extract_mk,uK l hi a h q D]
   exact .d (.str _)
 case slice e=>
  cases p<;>first|exact fE b hl|skip
  rename_i es
  rcases g:bnd lo 0 with _|a
  ·simp only [g]at hl;exact fE b hl
  rcases q:bnd hi es.length with _|h
  ·simp only [g,q]at hl;exact fE b hl
  rcases hk:szT P e with _|k
  ·simp only [g,q,hk]at hl;exact fE b hl
  simp only [g,q,hk]at hl
  obtain⟨I, -,C⟩:=rR hl
  cases I
  simp only [D7,D6]at C
  obtain⟨C,W⟩:=C
  have D:=of_decide_eq_true C
  obtain⟨ad,c,rfl,hc⟩:=zw L.wC
  have J:=xI (P:=P) (w:=w) (b:=true) (len:=es.length) (cap:=c) h1 O g q D hc
  refine⟨.slice (if c=a.toNat then ad else ad.map (·.add (a.toNat*k))) (h.toNat-a.toNat) (c-a.toNat),?_,?_,rfl⟩
  ·simp [Instr.sliceAt,run_underlying hu,Instr.slice,J,rD hk]
  ·rw [uK es hi a h q D]
   have hlen:((es.drop a.toNat).take (h.toNat-a.toNat)).length=h.toNat-a.toNat:=by simp;omega
   refine .d ?_
   by_cases Y:h.toNat-a.toNat=0
   ·rw [Y]
    simp only [List.take_zero]
    exact .nil _ _
   ·have B:es[a.toNat]? =some es[a.toNat]:=zf za
    obtain⟨T,o,c',sz,f,he,_,F,hS,hV⟩:=L.wC.elem B
    cases he
    have G:sz=k:=by
     have:=List.all_eq_true.1 W _ (DY B)
     rw [<-F _ (DY B)]
     simpa using this
    subst G
    rw [if_neg za]
    simp only [EJ,sJ]
    have:=V.lst (S:=S) ((es.drop a.toNat).take (h.toNat-a.toNat)) T (o+a.toNat*sz) (c-a.toNat) sz (fun i j=>f (a.toNat+i) j) (by rw [hlen];omega)
     (fun e he=>F e (EH (EI he)))
     (fun i e j x hi K => by
      rw [DF]at hi
      split at hi
      ·rw [DE]at hi
       have:=hS _ e j x hi K
       rw [<-this]
       congr 2
       rw [D1]
       omega
      ·cases hi)
     (fun i e j x hi K => by
      rw [DF]at hi
      split at hi
      ·rw [DE]at hi
       exact hV _ e j x hi K
      ·cases hi)
    rw [hlen]at this
    exact this
def wJ(hdr:Value)(sz a b:Nat)(v:Value):Prop:=
 (a=b∧∃a0,v= .slice a0 0 0)∨∃g n c,hdr= .slice (some ⟨g,0,none⟩) n c∧a<=b∧b<=c∧v= .slice (some ⟨g,a*sz,none⟩) (b-a) (c-a)
theorem wJ.ref{e:TypeId}{sz n:Nat}{hdr:Value}{xs:List Value}(h:rowAt w e sz hdr n xs):wJ hdr sz 0 n hdr:=by
 rcases h with⟨_,⟨rfl,rfl⟩|⟨g,cap,cur,_,rfl,_,_,h,_⟩⟩|⟨rfl,_,a,rfl⟩
 ·exact .inl ⟨rfl,none,rfl⟩
 ·exact .inr ⟨g,n,cap,rfl,DJ _,h,zc⟩
 ·exact .inl ⟨rfl,a,rfl⟩
theorem wJ.cap{hdr v:Value}{sz a b:Nat}(h:wJ hdr sz a b v)(f:a<=b):∃ad c,v= .slice ad (b-a) c∧b-a<=c:=by
 rcases h with⟨rfl,a0,rfl⟩|⟨g,n,c,rfl,h1,j,rfl⟩
 ·exact⟨a0,0,by rw [D5],za⟩
 ·exact⟨_,_,rfl,za⟩
theorem wJ.slice{hdr:Value}{sz a b len cap l h:Nat}{ad:Option Addr}(q:wJ hdr sz a b (.slice ad len cap))(k:l<=h)(B:h<=b-a)(j:a<=b):
  wJ hdr sz (a+l) (a+h) (.slice (if cap=l then ad else ad.map (·.add (l*sz))) (h-l) (cap-l)):=by
 rcases q with⟨rfl,a0,he⟩|⟨g,n,c,rfl,h1,u,he⟩
 ·cases he
  have f:h=0:=by omega
  have r:l=0:=by omega
  subst f r
  exact .inl ⟨rfl,ad,zc⟩
 ·cases he
  by_cases hc:c-a=l
  ·rw [if_pos hc]
   have:h=l:=by omega
   subst this
   exact .inl ⟨rfl,some ⟨g,a*sz,none⟩,by rw [hc,D5]⟩
  ·rw [if_neg hc]
   refine .inr ⟨g,n,c,rfl,za,za,?_⟩
   simp only [EJ,sJ]
   congr 1
   ·rw [D1]
   ·omega
   ·omega
theorem R.viewD{id ver lo hi:Nat}{e:TypeId}{sz:Nat}{hdr v:Value}(j:loc id=some (.arr ver e sz hdr))(ho:v.oneCell'=true)(h:wJ hdr sz lo hi v):R S loc (.view id ver lo hi) v:=by
 refine .view id ver lo hi v _ ho j fun g q k f he=>?_
 cases he
 exact⟨DA _,fun _=>h⟩
theorem wH(h:Sim P X S loc s tm w){t e:TypeId}{id ver a b:Nat}{v:RV}{lo hi:Option RV}{C q:Option Value}{u:Ups}{r:List Nat}{I:Value}(U:P.underlying t=some (.slice e))(hl:sliceB P e id ver a b lo hi s.boxes=some ((v,u),r,true))
  (W:∀es,s.boxes id=some (.arr ver e es)->a<=b->b<=es.length->∃sz hdr,loc id=some (.arr ver e sz hdr)∧szT P e=some sz∧wJ hdr sz a b I)
  (h1:RO S loc lo C) (O:RO S loc hi q):
  ∃v',(Instr.sliceAt t I C q none).run P w= .ok v' w∧R S loc v v'∧u=[]:=by
 unfold sliceB at hl
 rcases f:bnd lo 0 with _|l
 ·simp only [f]at hl;exact fE s.boxes hl
 rcases g:bnd hi ((b:Int)-a)with _|F
 ·simp only [f,g]at hl;exact fE s.boxes hl
 rcases hk:szT P e with _|_|k
 ·simp only [f,g,hk]at hl;exact fE s.boxes hl
 ·simp only [f,g,hk]at hl;exact fE s.boxes hl
 simp only [f,g,hk]at hl
 obtain⟨J,r1,r2,g1,g2,_⟩:=M.bind_some hl
 obtain⟨T,_,_⟩:=M.get_some g1
 cases J with
 |var _=>exact fE s.boxes g2
 |dead=>exact fE s.boxes g2
 |map _ _ _=>exact fE s.boxes g2
 |nest _ _ _ _ _=>exact fE s.boxes g2
 |hole _ _ _ _ _ _=>exact fE s.boxes g2
 |arr D L es=>
  by_cases j:ver=D∧e=L
  rotate_left
  ·simp only [j,if_false]at g2;exact fE s.boxes g2
  simp only [j,and_self,if_true]at g2
  obtain⟨rfl,rfl⟩:=j
  obtain⟨g3, -,g4⟩:=rR g2
  cases g3
  obtain⟨E,K,Y,c4,c5⟩:a<=b∧b<=es.length∧0<=l∧l<=F∧F<=(b:Int)-a:=of_decide_eq_true g4.symm
  obtain⟨sz,hdr,Q,B,H⟩:=W es T E K
  rw [hk]at B
  cases B
  obtain⟨ad,c,rfl,hc⟩:=H.cap E
  have N:((b:Int)-a)=((b-a:Nat):Int):=by omega
  rw [N]at g
  have G:=xI (P:=P) (w:=w) (b:=true) (len:=b-a) (cap:=c) h1 O f g za hc
  refine⟨_,?_,R.viewD Q rfl (H.slice (l:=l.toNat) (h:=F.toNat) za za E),rfl⟩
  simp [Instr.sliceAt,run_underlying U,Instr.slice,G,rD hk]
theorem Sim.CT(h:Sim P X S loc s tm w){id b:Nat}{ps:List PD}{ty:TypeId}{vs:Array Value}(B:s.boxes id=some (.var (ps.map .d)))(g:loc id=some (.var b))(hw:w.heap[b]? =some (.cells vs ty (0,0)))(h1:∀v∈vs,v.oneCell'=true):
  Sim P X (tn S b vs.toList) (upd loc id .dead) { s with boxes:=upd s.boxes id .dead } tm w∧Sub S (tn S b vs.toList)∧(∀j v,vs[j]? =some v->tn S b vs.toList ⟨b,j,none⟩=some v):=by
 have q:rP (loc id) .dead:=by rw [g];exact .dead _
 have r:=h.sq (Step.refl none w) id .dead .dead (fun b hc=>by cases hc) (.dead _ rfl) (fun b hc=>by cases hc) q
 refine⟨r.wx b vs.toList (fun j v k=>?_) (fun v u=>h1 v (by simpa using u)) (fun i L hi f=>?_) (h.own id _ b g rfl).symm,tZ _ _ _,fun j v k=>vR (fun o=>h.uC id _ b g rfl o) (by simpa using k)⟩
 ·rw [cell_of_row w b j vs ty (0,0) hw]
  simpa using k
 ·by_cases hid:i=id
  ·subst hid;rw [ru]at hi;cases hi;cases f
  ·rw [si _ _ hid]at hi
   exact hid (h.inj i id L _ b hi g f rfl)
theorem Bm(h:Sim P X S loc s tm w){a:TypeId}{id:Nat}{v:RV}{u:Ups}{r:List Nat}{Q:Value}(hl:xT P id a s.boxes=some ((v,u),r,true))(J:R S loc (.ptr id 0) Q):
  ∃v' S' loc',(Instr.sliceAt a Q none none none).run P w= .ok v' w∧Sim P X S' loc' (s.ups u) tm w∧R S' loc' v v':=by
 unfold xT at hl
 rcases hu:P.underlying a with _|d
 ·simp only [hu]at hl;exact fE s.boxes hl
 rw [hu]at hl
 cases d<;>first|exact fE s.boxes hl|skip
 rename_i n e
 rcases hk:szT P e with _|_|k
 ·simp only [hk]at hl;exact fE s.boxes hl
 ·simp only [hk]at hl;exact fE s.boxes hl
 simp only [hk]at hl
 obtain⟨T,r1,r2,g1,g2,_⟩:=M.bind_some hl
 obtain⟨N,_,_⟩:=M.get_some g1
 cases T with
 |arr _ _ _=>exact fE s.boxes g2
 |dead=>exact fE s.boxes g2
 |map _ _ _=>exact fE s.boxes g2
 |nest _ _ _ _ _=>exact fE s.boxes g2
 |hole _ _ _ _ _ _=>exact fE s.boxes g2
 |var cs=>
  rcases hp:wU cs with _|ps
  ·simp only [hp]at g2;exact fE s.boxes g2
  simp only [hp]at g2
  by_cases hc:sh P e=true∨k=0
  rotate_left
  ·rw [if_neg hc]at g2;exact fE s.boxes g2
  rw [if_pos hc]at g2
  obtain⟨g3, -,g4⟩:=M.rm g2
  cases g3
  simp only [D7,D6,decide_eq_true_eq]at g4
  obtain⟨H,f⟩:=g4
  have G:=wc hp
  subst G
  obtain⟨b,ty,vs,W,rfl,hw,hlen,Y⟩:=h.Bt N J
  have F:∀(i:Nat)p u,ps[i]? =some p->vs[i]? =some u->V S p u:=fun i p u h1 U=>by
   have:=Y i (.d p) u (by simp [h1]) U
   cases this with|d h=>exact h
  have g:vs.size=ps.length:=by simpa using hlen
  have h1:∀u∈vs,u.oneCell'=true:=fun u hu=>by
   obtain⟨i,hi,rfl⟩:=Array.getElem_of_mem hu
   have C:i<ps.length:=by omega
   exact((F i ps[i] vs[i] (zf C) (Ds hi)).uZ (List.all_eq_true.1 f _ (Dp C))).1
  obtain⟨k1,k2,k3⟩:=h.CT N W hw h1
  have B:=tT (P:=P) e (k+1) n ps
  have q:=wu (P:=P) e (k+1) (hc.imp (fun h=>h) (fun h=>za)) n ps H (fun p hp=>List.all_eq_true.1 f p hp)
  have E:∀(i:Nat)x(j:Nat)c,(th P e (k+1) n ps)[i]? =some x->x.cells[j]? =some c->∃u,vs[i*(k+1)+j]? =some u∧V S c u:=fun i x j c hi D=>by
   have K:=(q i x hi).2 j c D
   have L:i*(k+1)+j<vs.size:=by rw [g];exact(List.getElem?_eq_some_iff.1 K).1
   exact⟨_,Ds L,F _ c _ K (Ds L)⟩
  have hV := V.lst (S := tn S b vs.toList) (th P e (k + 1) n ps) b 0 n (k + 1) (fun i j => (vs[i * (k + 1) + j]?).getD default) (by rw [B]; exact DA _) (fun x J => by
    obtain⟨i,hi⟩:=EE J
    exact(q i x hi).1)
   (fun i x j c hi D => by
    obtain⟨u,hu,_⟩:=E i x j c hi D
    rw [DI,k3 _ u hu,hu];rfl)
   (fun i x j c hi D => by
    obtain⟨u,hu,I⟩:=E i x j c hi D
    rw [hu]
    exact I.mono k2)
  rw [B]at hV
  refine⟨.slice (some ⟨b,0,none⟩) n n,_,_,?_,k1,.d hV⟩
  simp only [Instr.sliceAt,run_underlying hu,Dy,D9,Instr.sureAddr,EA,Instr.sliceBounds,rD hk]
  by_cases O:n=0
  ·simp [O]
  ·simp [O,Addr.add]
theorem Bn{a:TypeId}{cs:List PD}{v:RV}{u:Ups}{r:List Nat}{J:Value}{f:rY}(hl:xU P a cs f=some ((v,u),r,true))(H:R S loc (.cptr cs) J):
  ∃v',(Instr.sliceAt a J none none none).run P w= .ok v' w∧R S loc v v'∧u=[]:=by
 unfold xU at hl
 rcases hu:P.underlying a with _|d
 ·simp only [hu]at hl;exact fE f hl
 rw [hu]at hl
 cases d<;>first|exact fE f hl|skip
 rename_i n e
 rcases hk:szT P e with _|_|k
 ·simp only [hk]at hl;exact fE f hl
 ·simp only [hk]at hl;exact fE f hl
 simp only [hk]at hl
 by_cases hc:sh P e=true∨k=0
 rotate_left
 ·rw [if_neg hc]at hl;exact fE f hl
 rw [if_pos hc]at hl
 obtain⟨g3, -,g4⟩:=M.rm hl
 cases g3
 simp only [D7,D6,decide_eq_true_eq]at g4
 obtain⟨K,E⟩:=g4
 cases H with
 |cptr _ b o F hS hV=>
 have hlen:(cs.take (n*(k+1))).length=n*(k+1):=by simp;omega
 have B:=tT (P:=P) e (k+1) n (cs.take (n*(k+1)))
 have q:=wu (P:=P) e (k+1) (hc.imp (fun h=>h) (fun h=>za)) n (cs.take (n*(k+1))) hlen (fun p hp=>List.all_eq_true.1 E p hp)
 have D:∀(i:Nat)x(j:Nat)c,(th P e (k+1) n (cs.take (n*(k+1))))[i]? =some x->x.cells[j]? =some c->cs[i*(k+1)+j]? =some c:=fun i x j c hi C=>by
  have G:=(q i x hi).2 j c C
  rw [DF]at G
  split at G
  ·exact G
  ·cases G
 have g := V.lst (S := S) (th P e (k + 1) n (cs.take (n * (k + 1)))) b o n (k + 1) (fun i j => F (i * (k + 1) + j)) (by rw [B]; exact DA _) (fun x H => by
   obtain⟨i,hi⟩:=EE H
   exact(q i x hi).1)
  (fun i x j c hi C => by
   rw [Nat.add_assoc]
   exact hS _ c (D i x j c hi C))
  (fun i x j c hi C=>hV _ c (D i x j c hi C))
 rw [B]at g
 refine⟨.slice (some ⟨b,o,none⟩) n n,?_,.d g,rfl⟩
 simp only [Instr.sliceAt,run_underlying hu,Dy,D9,Instr.sureAddr,EA,Instr.sliceBounds,rD hk]
 by_cases I:n=0
 ·simp [I]
 ·simp [I,Addr.add]
theorem Bp(h:Sim P X S loc s tm w){t e:TypeId}{id ver:Nat}{v:RV}{lo hi:Option RV}{H:RV}{D B:Option Value}{E:Value}{u:Ups}{r:List Nat}{O:Value}(ht:P.underlying t=some (.slice e))(hl:xV P e id ver lo hi H s.boxes=some ((v,u),r,true))
  (hx:R S loc (.ref id ver) O) (h1:RO S loc lo D) (F:RO S loc hi B) (U:R S loc H E):
  ∃v',(Instr.sliceAt t O D B (some E)).run P w= .ok v' w∧R S loc v v'∧u=[]:=by
 unfold xV at hl
 cases h1<;>first|exact fE s.boxes hl|skip
 cases F<;>first|exact fE s.boxes hl|skip
 rename_i I vh F
 cases I<;>first|exact fE s.boxes hl|skip
 rename_i ph
 cases ph<;>first|exact fE s.boxes hl|skip
 rename_i kh f
 cases H<;>first|exact fE s.boxes hl|skip
 rename_i pm
 cases pm<;>first|exact fE s.boxes hl|skip
 rename_i km hm
 rcases hk:szT P e with _|_|k
 ·simp only [hk]at hl;exact fE s.boxes hl
 ·simp only [hk]at hl;exact fE s.boxes hl
 simp only [hk]at hl
 by_cases q:f=hm
 rotate_left
 ·rw [if_neg q]at hl;exact fE s.boxes hl
 rw [if_pos q]at hl
 subst q
 obtain⟨Q,r1,r2,g1,g2,_⟩:=M.bind_some hl
 obtain⟨W,_,_⟩:=M.get_some g1
 cases Q with
 |var _=>exact fE s.boxes g2
 |dead=>exact fE s.boxes g2
 |map _ _ _=>exact fE s.boxes g2
 |nest _ _ _ _ _=>exact fE s.boxes g2
 |hole _ _ _ _ _ _=>exact fE s.boxes g2
 |arr j K es=>
  simp only at g2
  by_cases g:ver=j∧e=K
  rotate_left
  ·rw [if_neg g]at g2;exact fE s.boxes g2
  rw [if_pos g]at g2
  obtain⟨rfl,rfl⟩:=g
  obtain⟨g3, -,g4⟩:=M.rm g2
  cases g3
  obtain⟨J,c2⟩:0<=f∧f<=es.length:=of_decide_eq_true g4.symm
  obtain⟨sz,xs,C,a5,how,hf⟩:=h.vL W hx
  obtain⟨a,c,rfl,hc⟩:=how.hdr
  have e2:=F.rZ
  have T:=U.rZ
  subst e2 T
  refine⟨.slice a f.toNat f.toNat,?_,.fview id ver f.toNat _ _ rfl C fun j K a6 N he=>by cases he;exact⟨DA _,fun _=>⟨a,_,c,rfl,za,rfl⟩⟩,rfl⟩
  have d1:0<=f∧f<=(c:Int):=⟨J,za⟩
  have d2:0<=f∧f<=(f.toNat:Int):=⟨J,za⟩
  have G:(Instr.sliceBounds true es.length c none (some (.int kh f)) (some (.int km f))).run P w= .ok (0,f.toNat,f.toNat) w:=by
   simp [Instr.sliceBounds,Instr.sliceBound,asIntOf,d1,d2]
   intro Y
   omega
  simp only [Instr.sliceAt,run_underlying ht,Instr.slice,Dy,D9,G,rD hk,EA]
  by_cases L:f.toNat=0
  ·simp [L]
  ·cases a<;>simp [L,Addr.add]
theorem BO(h:Sim P X S loc s tm w){t e:TypeId}(hu:P.underlying t=some (.slice e)){es:List PD}{k k':IntKind}{j m:Int}{v:RV}{u:Ups}{r:List Nat}{B:Value}(hl:Ab P e es j m s.boxes=some ((v,u),r,true))(J:V S (.lst es) B):
  ∃v' S' loc',(Instr.sliceAt t B none (some (.int k j)) (some (.int k' m))).run P w= .ok v' w∧Sim P X S' loc' (s.ups u) tm w∧R S' loc' v v':=by
 unfold Ab at hl
 rcases hk:szT P e with _|_|sz
 ·simp only [hk]at hl;exact fE s.boxes hl
 ·simp only [hk]at hl;exact fE s.boxes hl
 simp only [hk]at hl
 by_cases g:j=m
 rotate_left
 ·rw [if_neg g]at hl;exact fE s.boxes hl
 rw [if_pos g]at hl
 subst g
 obtain⟨g3, -,g4⟩:=M.rm (b:=s.boxes) hl
 cases g3
 have D:j=es.length:=of_decide_eq_true g4.symm
 subst D
 obtain⟨a,c,rfl,hc,I⟩:∃a c,B= .slice a es.length c∧es.length<=c∧V S (.lst es) (.slice a es.length es.length):=by
  cases J with
  |nil a c=>exact⟨a,c,rfl,DJ _,.nil _ _⟩
  |lst _ b o c sz f h1 E F G=>exact⟨_,c,rfl,h1,.lst es b o _ sz f (DA _) E F G⟩
 refine⟨.slice a es.length es.length,S,loc,?_,h,.dfull es a I⟩
 have d1:(0:Int)<=(es.length:Int)∧(es.length:Int)<=(c:Int):=⟨za,za⟩
 have q:(Instr.sliceBounds true es.length c none (some (.int k (es.length:Int))) (some (.int k' (es.length:Int)))).run P w= .ok (0,es.length,es.length) w:=by
  simp [Instr.sliceBounds,Instr.sliceBound,asIntOf]
  intro H
  omega
 simp only [Instr.sliceAt,run_underlying hu,Instr.slice,Dy,D9,q,rD hk,EA]
 by_cases C:es.length=0
 ·simp [C]
 ·cases a<;>simp [C,Addr.add]
theorem BZ(h:Sim P X S loc s tm w){t:TypeId}{x v:RV}{lo hi mx:Option RV}{U K W:Option Value}{u:Ups}{r:List Nat}{Y:Value}(hl:zl P t x lo hi mx s.boxes=some ((v,u),r,true))(I:R S loc x Y)
  (h1:RO S loc lo U) (h2:RO S loc hi K) (h3:RO S loc mx W):
  ∃v' S' loc',(Instr.sliceAt t Y U K W).run P w= .ok v' w∧Sim P X S' loc' (s.ups u) tm w∧R S' loc' v v':=by
 unfold zl at hl
 rcases hu:P.underlying t with _|d
 ·simp only [hu]at hl;exact fE s.boxes hl
 rw [hu]at hl
 cases d<;>first|exact fE s.boxes hl|skip
 rename_i e
 by_cases T:∃es,x= .d (.lst es)
 ·obtain⟨es,rfl⟩:=T
  cases I with
  |d I=>
  cases h1<;>first|exact fE s.boxes hl|skip
  cases h2 with
  |none=>exact fE s.boxes hl
  |some g1=>
  rename_i r1 v1
  cases r1<;>first|exact fE s.boxes hl|skip
  rename_i p1
  cases p1<;>first|exact fE s.boxes hl|skip
  cases h3 with
  |none=>exact fE s.boxes hl
  |some g2=>
  rename_i r2 v2
  cases r2<;>first|exact fE s.boxes hl|skip
  rename_i p2
  cases p2<;>first|exact fE s.boxes hl|skip
  have e1:=g1.rZ
  have e2:=g2.rZ
  subst e1 e2
  exact BO h hu hl I
 cases x<;>first|exact fE s.boxes hl|(rename_i p;cases p<;>first|exact fE s.boxes hl|exact(T ⟨_,rfl⟩).elim)|skip
 rename_i id ver
 cases lo<;>first|exact fE s.boxes hl|skip
 cases hi<;>first|exact fE s.boxes hl|skip
 rename_i b5
 cases b5<;>first|exact fE s.boxes hl|skip
 rename_i p0
 cases p0<;>first|exact fE s.boxes hl|skip
 rename_i k f
 cases mx<;>first|exact fE s.boxes hl|skip
 ·simp only at hl
  rcases hk:szT P e with _|_|sz
  ·simp only [hk]at hl;exact fE s.boxes hl
  ·simp only [hk]at hl;exact fE s.boxes hl
  simp only [hk]at hl
  obtain⟨bx,r1,r2,g1,g2,_⟩:=M.bind_some hl
  obtain⟨hb,_,_⟩:=M.get_some g1
  cases bx with
  |var _=>exact fE s.boxes g2
  |dead=>exact fE s.boxes g2
  |map _ _ _=>exact fE s.boxes g2
  |nest _ _ _ _ _=>exact fE s.boxes g2
  |hole _ _ _ _ _ _=>exact fE s.boxes g2
  |arr D e' es=>
   simp only at g2
   by_cases C:ver=D∧e=e'
   rotate_left
   ·rw [if_neg C]at g2;exact fE s.boxes g2
   rw [if_pos C]at g2
   obtain⟨rfl,rfl⟩:=C
   obtain⟨g3, -,g4⟩:=M.rm g2
   cases g3
   obtain⟨c1,c2⟩:0<=f∧f<=es.length:=of_decide_eq_true g4.symm
   obtain⟨b6,xs,B,Q,how,hf⟩:=h.vL hb I
   rw [hk]at Q
   cases Q
   cases h3
   have b2:sliceB P e id ver 0 es.length none (some (.d (.int k f))) s.boxes=some ((.view id ver (0+(0:Int).toNat) (0+f.toNat),[]),[id],true):=by
    have e0:((es.length:Nat):Int)-((0:Nat):Int)=(es.length:Int):=by simp
    simp only [sliceB,bnd,hk,M.bind,M.get,hb,and_self,if_true,rT,M.rq,e0]
    simp [c1,c2]
   obtain ⟨v', k1, k2, -⟩ := wH h hu b2 (fun c4 J _ _ => by
    rw [hb]at J
    cases J
    exact⟨_,_,B,hk,wJ.ref how⟩) h1 h2
   have H:wJ Y (sz+1) (0+(0:Int).toNat) (0+f.toNat) v':=by
    cases k2 with
    |view _ _ _ _ _ L ho hL hc=>
     rw [B]at hL
     cases hL
     exact(hc ver e (sz+1) Y rfl).2 rfl
   have ho:v'.oneCell'=true:=by
    cases k2 with
    |view _ _ _ _ _ L ho hL hc=>exact ho
   have z1:(0+(0:Int).toNat)=0:=rfl
   have z2:(0+f.toNat)=f.toNat:=DI _
   rw [z1,z2]at H
   have hlen:(es.take f.toNat).length=f.toNat:=by simp;omega
   have G:Flat S (sz+1) (es.take f.toNat) (xs.take (f.toNat*(sz+1))):=by
    refine⟨fun x I=>hf.len x (EI I),fun q hq=>hf.one q (EI hq),fun i x j c hi hj=>?_⟩
    rw [DF]at hi
    split at hi
    ·rename_i b0
     obtain⟨q,h5,h6⟩:=hf.cell i x j c hi hj
     refine⟨q,?_,h6⟩
     have c5:j<sz+1:=by rw [<-hf.len x (DY hi)];exact(List.getElem?_eq_some_iff.1 hj).1
     have:i*(sz+1)+j<f.toNat*(sz+1):=by
      calc i*(sz+1)+j<i*(sz+1)+(sz+1):=by omega
       _=(i+1)*(sz+1):=by rw [D1,D4]
       _<=f.toNat*(sz+1):=D3 _ b0
     rw [DF,if_pos this]
     exact h5
    ·cases hi
   have O:rowAt w e (sz+1) v' (es.take f.toNat).length (xs.take (f.toNat*(sz+1))):=by
    rw [hlen]
    rcases H with⟨h0,a,rfl⟩|⟨g,n,c,he,_,hc,rfl⟩
    ·rw [<-h0]
     exact .inr ⟨rfl,zc,a,rfl⟩
    ·simp only [Nat.zero_mul,Nat.sub_zero]
     subst he
     rcases how with⟨a9,⟨hn,_⟩|⟨g',cap,cur,fz,hg,a5,F,c0,N,a6,b4⟩⟩|⟨hn,c6,a,ha⟩
     ·cases hn
     ·cases hg
      refine .inl ⟨by rw [EG,a9];exact EB (D3 _ za),.inr ⟨g,c,cur,fz,rfl,a5,F,hc,N,a6,?_⟩⟩
      rw [<-b4,List.take_take]
      congr 1
      exact(EB (D3 _ za)).symm
     ·cases ha
      have:f.toNat=0:=by omega
      rw [this]
      exact .inr ⟨rfl,zc,_,rfl⟩
   have b3:rP (loc id) (.arr (ver+1) e (sz+1) v'):=by
    rw [B]
    exact .arr za
   have b1:=h.sq (Step.refl none w) id (.arr (ver+1) e (es.take f.toNat)) (.arr (ver+1) e (sz+1) v') (fun b hc=>by cases hc) (.arr (ver+1) e _ (sz+1) v' _ hk O G)
    (fun b E => by
     refine .inl ⟨_,B,?_⟩
     rcases H with⟨h0,a,rfl⟩|⟨g,n,c,he,_,hc,rfl⟩
     ·cases a<;>cases E
     ·subst he
      cases c with
      |zero=>cases E
      |succ c=>cases E;rfl) b3
   have hR:R S (upd loc id (.arr (ver+1) e (sz+1) v')) (.ref id (ver+1)) v':= .ref id (ver+1) v' _ ho (ru _ _ _) fun D e' b6 c3 he=>by
    cases he;exact⟨DA _,fun _=>rfl⟩
   exact⟨v',S,_,k1,b1,hR⟩
theorem Bo(h:Sim P X S loc s tm w){T:Nat}{t:TypeId}{x v:RV}{lo hi Y:Option RV}{D C E:Option Value}{u:Ups}{r:List Nat}{K:Value}(hl:tk P T t x lo hi Y s.boxes=some ((v,u),r,true))(F:R S loc x K)
  (h1:RO S loc lo D) (j:RO S loc hi C) (J:RO S loc Y E):
  ∃v' S' loc',(Instr.sliceAt t K D C E).run P w= .ok v' w∧Sim P X S' loc' (s.ups u) tm w∧R S' loc' v v':=by
 have fin:(∃v',(Instr.sliceAt t K D C E).run P w= .ok v' w∧R S loc v v'∧u=[])->∃v' S' loc',(Instr.sliceAt t K D C E).run P w= .ok v' w∧Sim P X S' loc' (s.ups u) tm w∧R S' loc' v v':=by
  rintro⟨v',g1,g2,rfl⟩
  exact⟨v',S,loc,g1,h,g2⟩
 cases J with
 |some J=>
  unfold tk at hl
  rcases hu:P.underlying t with _|d
  ·simp only [hu]at hl;exact fE s.boxes hl
  rw [hu]at hl
  by_cases I:∃id ver,x= .ref id ver
  ·obtain⟨id,ver,rfl⟩:=I
   cases d<;>first|exact fE s.boxes hl|skip
   exact fin (Bp h hu hl F h1 j J)
  rcases x with p|_|_|_|_|_|_|⟨_,_|_⟩|_|_|_|_|_<;>first|(cases d<;>exact fE s.boxes hl)|exact(I ⟨_,_,rfl⟩).elim|skip
  cases p<;>first|(cases d<;>exact fE s.boxes hl)|skip
  cases d<;>first|exact fE s.boxes hl|skip
  case slice es e=>
   simp only [yO]at hl
   rcases f:bnd lo 0 with _|l
   ·simp only [f]at hl;exact fE s.boxes hl
   rcases hi with _|(⟨⟨_⟩|⟨_,O⟩|_|_|_|_⟩|_|_|_|_|_|_|_|_|_|_|_|_)<;>first|(simp only [f]at hl;exact fE s.boxes hl)|skip
   rename_i U vm _
   rcases U with⟨⟨_⟩|⟨_,m⟩|_|_|_|_⟩|_|_|_|_|_|_|_|_|_|_|_|_<;>first|(simp only [f]at hl;exact fE s.boxes hl)|skip
   rcases hk:szT P e with _|_|k
   ·simp only [f,hk]at hl;exact fE s.boxes hl
   ·simp only [f,hk]at hl;exact fE s.boxes hl
   simp only [f,hk]at hl
   by_cases G:l=0∧O=0∧m=0
   rotate_left
   ·rw [if_neg G]at hl;exact fE s.boxes hl
   rw [if_pos G]at hl
   obtain⟨rfl,rfl,rfl⟩:=G
   obtain⟨_,r1,r2,g1,g2,_⟩:=M.bind_some hl
   obtain⟨Q,_,_⟩:=M.su g1
   obtain⟨g3, -, -⟩:=M.rm g2
   cases g3
   obtain⟨ad,c,rfl,hc⟩:=zw F.wC
   obtain⟨loc',q1,q2,_⟩:=h.xb (es:=[]) (xs:=[]) Q (Step.refl none w) hk (hdr:= .slice ad 0 0) (.inr ⟨rfl,rfl,ad,rfl⟩) (Flat.nil S _) (fun g hg=>by cases ad<;>cases hg) rfl
   have e3:=J.rZ
   subst e3
   refine⟨_,S,loc',?_,q1,q2⟩
   cases j with
   |some j=>
    have e2:=j.rZ
    subst e2
    cases h1 with
    |none=>simp [Instr.sliceAt,run_underlying hu,Instr.slice,Instr.sliceBounds,Instr.sliceBound,asIntOf,rD hk]
    |some h1=>
     obtain⟨k,rfl⟩:=wV f
     simp only [bnd,DB]at f
     try subst f
     have L:=h1.rZ
     subst L
     simp [Instr.sliceAt,run_underlying hu,Instr.slice,Instr.sliceBounds,Instr.sliceBound,asIntOf,rD hk]
 |none=>
  rcases hu:P.underlying t with _|d
  ·unfold tk at hl;simp only [hu]at hl;exact fE s.boxes hl
  rcases x with p|_|_|_|_|_|⟨id,ver⟩|⟨id,off⟩|_|_|⟨id,ver,a,b⟩|_|_<;>first|exact fin (B5 hl F h1 j)|skip
  case ptr=>
   unfold tk at hl
   rw [hu]at hl
   cases d<;>first|exact fE s.boxes hl|skip
   cases off<;>first|exact fE s.boxes hl|skip
   cases h1<;>first|exact fE s.boxes hl|skip
   cases j<;>first|exact fE s.boxes hl|skip
   exact Bm h hl F
  case cptr=>
   unfold tk at hl
   rw [hu]at hl
   cases d<;>first|exact fE s.boxes hl|skip
   cases h1<;>first|exact fE s.boxes hl|skip
   cases j<;>first|exact fE s.boxes hl|skip
   exact fin (Bn hl F)
  case ref=>
   unfold tk at hl
   rw [hu]at hl
   cases d<;>first|exact fE s.boxes hl|skip
   simp only at hl
   obtain⟨bx,r1,r2,g1,g2,_⟩:=M.bind_some hl
   obtain⟨W,_,_⟩:=M.get_some g1
   cases bx with
   |var _=>exact fE s.boxes g2
   |dead=>exact fE s.boxes g2
   |map _ _ _=>exact fE s.boxes g2
   |nest _ _ _ _ _=>exact fE s.boxes g2
   |hole _ _ _ _ _ _=>exact fE s.boxes g2
   |arr a5 e' es=>
    refine fin (wH h hu g2 (fun N B _ _=>?_) h1 j)
    rw [W]at B
    cases B
    obtain⟨sz,xs,q,H,how,hf⟩:=h.vL W F
    exact⟨sz,_,q,H,wJ.ref how⟩
  case view=>
   unfold tk at hl
   rw [hu]at hl
   cases d<;>first|exact fE s.boxes hl|skip
   simp only at hl
   refine fin (wH h hu hl (fun N B _ _=>?_) h1 j)
   obtain⟨sz,xs,hdr,q,H,how,hf,ho,hd⟩:=h.yt B F
   exact⟨sz,hdr,q,H,hd⟩
  case pY=>
   unfold tk at hl
   rw [hu]at hl
   cases d<;>first|exact fE s.boxes hl|skip
   rename_i e
   simp only at hl
   rcases f:bnd lo 0 with _|l
   ·simp only [f]at hl;exact fE s.boxes hl
   rcases hi with _|(⟨⟨_⟩|⟨_,O⟩|_|_|_|_⟩|_|_|_|_|_|_|_|_|_|_|_|_)<;>first|(simp only [f]at hl;exact fE s.boxes hl)|skip
   rcases hk:szT P e with _|k
   ·simp only [f,hk]at hl;exact fE s.boxes hl
   simp only [f,hk]at hl
   by_cases G:l=0∧O=0
   rotate_left
   ·rw [if_neg G]at hl;exact fE s.boxes hl
   rw [if_pos G]at hl
   obtain⟨rfl,rfl⟩:=G
   obtain⟨g3, -, -⟩:=M.qw hl
   cases g3
   cases F
   refine fin ⟨.slice none 0 0,?_,.pY,rfl⟩
   cases j with
   |some j=>
    have e2:=j.rZ
    subst e2
    cases h1 with
    |none=>simp [Instr.sliceAt,run_underlying hu,Instr.slice,Instr.sliceBounds,Instr.sliceBound,asIntOf,rD hk]
    |some h1=>
     obtain⟨k,rfl⟩:=wV f
     simp only [bnd,DB]at f
     try subst f
     have L:=h1.rZ
     subst L
     simp [Instr.sliceAt,run_underlying hu,Instr.slice,Instr.sliceBounds,Instr.sliceBound,asIntOf,rD hk]
  all_goals
   unfold tk at hl
   rw [hu]at hl
   cases d<;>exact fE s.boxes hl
theorem Flat.append{sz:Nat}{es q:List PD}{xs B:List Value}(h:Flat S sz es xs)(hl:xs.length=es.length*sz)(f:Flat S sz q B):Flat S sz (es++q) (xs++B):=by
 refine⟨fun e he=>(List.mem_append.1 he).elim (h.len e) (f.len e),fun u hu=>(List.mem_append.1 hu).elim (h.one u) (f.one u),fun i e j x hi r=>?_⟩
 by_cases g:i<es.length
 ·rw [DP g]at hi
  obtain⟨u,hu,k⟩:=h.cell i e j x hi r
  exact⟨u,by rw [DP (List.getElem?_eq_some_iff.1 hu).1];exact hu,k⟩
 ·rw [DQ za]at hi
  obtain⟨u,hu,k⟩:=f.cell (i-es.length) e j x hi r
  refine⟨u,?_,k⟩
  have hle:es.length*sz<=i*sz:=D3 _ za
  rw [DQ za, <-hu]
  congr 1
  rw [hl,Nat.sub_mul]
  omega
def Appd(w:World)(S:rC)(sz:Nat)(f:Value)(es:List PD):Prop:=
 ∃a c news,f= .slice a es.length c∧news.length=es.length*sz∧Flat S sz es news∧(es≠ []->∃ad,a=some ad∧∀(j:Nat)u,news[j]? =some u->w.cell? (ad.add j)=some u)
theorem tf(h:Sim P X S loc s tm w){x:RV}{es:List PD}{r:List Nat}{vx:Value}{sz:Nat}(hl:sP x s.boxes=some (es,r,true))(K:R S loc x vx)(N:0<sz)(Y:∀e∈es,e.cells.length=sz):
  Appd w S sz vx es:=by
 rcases x with p|_|_|_|_|_|⟨id,ver⟩|_|_|_|_|_|_<;>first|exact fE s.boxes hl|skip
 ·cases p<;>first|exact fE s.boxes hl|skip
  rename_i D
  obtain⟨h1, -, -⟩:=M.qw (b:=s.boxes) hl
  subst h1
  by_cases J:es=[]
  ·subst J
   obtain⟨a,c,rfl,_⟩:=zw K.wC
   exact⟨a,c,[],rfl,zc,Flat.nil S _,fun h=>(h rfl).elim⟩
  ·obtain⟨W,r0,Q⟩:∃e r,es=e::r:=by
    cases es with
    |nil=>exact(J rfl).elim
    |cons e r=>exact⟨e,r,rfl⟩
   have h0:es[0]? =some W:=by rw [Q];rfl
   obtain⟨b,o,c,B,f,rfl,hc,H,hS,hV⟩:=K.wC.elem h0
   have:B=sz:=by rw [<-H W (DY h0)];exact Y W (DY h0)
   subst this
   have key:∀q,q<es.length*B->∃e x,es[q / B]? =some e∧e.cells[q%B]? =some x:=by
    intro q G
    have h1:q / B<es.length:=(Nat.div_lt_iff_lt_mul N).2 G
    have E:q%B<(es[q / B]).cells.length:=by rw [H _ (Dp h1)];exact Nat.mod_lt _ N
    exact⟨_,_,zf h1,zf E⟩
   have I:∀q u,((DG (es.length*B)).map (fun q=>f (q / B) (q%B)))[q]? =some u->q<es.length*B∧u=f (q / B) (q%B):=by
    intro q u G
    rw [ED]at G
    cases hr:(DG (es.length*B))[q]? with
    |none=>simp [hr]at G
    |some k=>
     simp only [hr,EJ,DB]at G
     obtain⟨a9,he⟩:=List.getElem?_eq_some_iff.1 hr
     simp at a9 he
     subst he
     exact⟨a9,G.symm⟩
   have L:∀q,q<es.length*B->S ⟨b,o+q,none⟩=some (f (q / B) (q%B)):=by
    intro q G
    obtain⟨e,x,h1,E⟩:=key q G
    have:=hS _ e _ x h1 E
    rw [<-this]
    congr 2
    have:=Nat.div_add_mod q B
    rw [EC]at this
    omega
   refine⟨_,c,(DG (es.length*B)).map (fun q=>f (q / B) (q%B)),rfl,zc,⟨H,?_,?_⟩,fun _=>⟨_,rfl,?_⟩⟩
   ·intro u hu
    obtain⟨q,G,b1⟩:=List.getElem_of_mem hu
    obtain⟨h1,E⟩:=I q u (by rw [zf G,b1])
    exact h.vA _ u (by rw [E];exact L q h1)
   ·intro i e j x hi hj
    have C:=(List.getElem?_eq_some_iff.1 hi).1
    have a5:j<B:=by
     have:=(List.getElem?_eq_some_iff.1 hj).1
     rw [H e (DY hi)]at this
     exact this
    have G:i*B+j<es.length*B:=by
     have:=D3 B (show i+1<=es.length from C)
     rw [D1,D4]at this
     omega
    refine⟨f i j,?_,hV i e j x hi hj⟩
    rw [ED,List.getElem?_range G]
    simp only [EJ,DB]
    have hd:(i*B+j) / B=i:=by
     rw [EC,Nat.mul_add_div N,Nat.div_eq_of_lt a5,D2]
    have hm:(i*B+j)%B=j:=by
     rw [EC,Nat.mul_add_mod,Nat.mod_eq_of_lt a5]
    rw [hd,hm]
   ·intro q u G
    obtain⟨h1,rfl⟩:=I q u G
    rw [sJ]
    exact h.imm _ _ (L q h1)
 ·obtain⟨h1, -, -⟩:=M.qw (b:=s.boxes) hl
  subst h1
  cases K with
  |pY=>exact⟨none,0,[],rfl,zc,Flat.nil S _,fun h=>(h rfl).elim⟩
 ·obtain⟨bx,r1,r2,h1,E,_⟩:=M.bind_some hl
  obtain⟨hb,_,_⟩:=M.get_some h1
  cases bx with
  |arr O e' D=>
   by_cases F:ver=O
   rotate_left
   ·simp only [F,if_false]at E;exact fE s.boxes E
   simp only [F,if_true]at E
   subst F
   obtain⟨h3, -, -⟩:=M.qw E
   subst h3
   obtain⟨B,xs,a6,H,how,hf⟩:=h.vL hb K
   by_cases J:es=[]
   ·subst J
    obtain⟨a,c,rfl,_⟩:=how.hdr
    exact⟨a,c,[],rfl,zc,Flat.nil S _,fun h=>(h rfl).elim⟩
   ·obtain⟨W,r0,Q⟩:∃e r,es=e::r:=by
     cases es with
     |nil=>exact(J rfl).elim
     |cons e r=>exact⟨e,r,rfl⟩
    have hm:W∈es:=by rw [Q];simp
    have:B=sz:=by rw [<-hf.len W hm];exact Y W hm
    subst this
    have T:0<es.length:=by rw [Q];simp
    have how:=how.vP T
    obtain⟨g,c,rfl⟩:=uR how T
    exact⟨_,c,xs,rfl,how.1,hf,fun _=>⟨_,rfl,how.cells rfl⟩⟩
  |var _=>exact fE s.boxes E
  |dead=>exact fE s.boxes E
  |map _ _ _=>exact fE s.boxes E
  |nest _ _ _ _ _=>exact fE s.boxes E
  |hole _ _ _ _ _ _=>exact fE s.boxes E
 ·rename_i id ver lo C
  obtain⟨bx,r1,r2,h1,E,_⟩:=M.bind_some hl
  obtain⟨hb,_,_⟩:=M.get_some h1
  cases bx with
  |arr O e' D=>
   by_cases F:ver=O
   rotate_left
   ·simp only [F,if_false]at E;exact fE s.boxes E
   simp only [F,if_true]at E
   subst F
   obtain⟨h3, -,h4⟩:=M.rm E
   subst h3
   have hn:lo<=C∧C<=D.length:=of_decide_eq_true h4.symm
   obtain⟨B,xs,hdr,a6,H,how,hf,ho,hd⟩:=h.yt hb K
   have hlen:((D.drop lo).take (C-lo)).length=C-lo:=by rw [EG,EF];omega
   have I:∀(i:Nat)x,((D.drop lo).take (C-lo))[i]? =some x->D[lo+i]? =some x:=by
    intro i x K
    rw [DF]at K
    split at K
    ·rwa [DE]at K
    ·cases K
   by_cases J:C-lo=0
   ·have:(D.drop lo).take (C-lo)=[]:=by rw [J];rfl
    rw [this]
    rcases hd with⟨rfl,a,rfl⟩|⟨g,n,c,rfl,_,_,rfl⟩
    ·exact⟨a,0,[],rfl,zc,Flat.nil S _,fun h=>(h rfl).elim⟩
    ·exact⟨_,c-lo,[],by rw [J];rfl,zc,Flat.nil S _,fun h=>(h rfl).elim⟩
   ·rcases hd with⟨rfl,a,rfl⟩|⟨g,n,c,rfl,_,_,rfl⟩
    ·omega
    have T:0<D.length:=by omega
    have b2:((D.drop lo).take (C-lo))[0]? =some (D[lo]'za):=by
     rw [DF,if_pos za,DE,D2,zf]
    have:B=sz:=by rw [<-hf.len _ (Dp (by omega:lo<D.length))];exact Y _ (DY b2)
    subst this
    have U:=how.vP T
    have b4:=U.1
    have hmul:lo*B+(C-lo)*B=C*B:=by rw [<-D1];congr 1;omega
    have hle:C*B<=D.length*B:=D3 _ hn.2
    refine⟨_,c-lo,(xs.drop (lo*B)).take ((C-lo)*B),by rw [hlen],?_,⟨?_,?_,?_⟩,fun _=>⟨_,rfl,?_⟩⟩
    ·rw [hlen,EG,EF];omega
    ·exact fun x K=>hf.len x (EH (EI K))
    ·exact fun x K=>hf.one x (EH (EI K))
    ·intro i x j y hi hj
     obtain⟨q,G,hv⟩:=hf.cell (lo+i) x j y (I i x hi) hj
     refine⟨q,?_,hv⟩
     have b0:i<C-lo:=by
      have:=(List.getElem?_eq_some_iff.1 hi).1
      rw [hlen]at this
      exact this
     have b3:j<B:=by
      have:=(List.getElem?_eq_some_iff.1 hj).1
      rw [hf.len x (DY (I i x hi))]at this
      exact this
     have hm:(i+1)*B<=(C-lo)*B:=D3 _ b0
     rw [D1,D4]at hm
     rw [DF,if_pos za,DE, <-G]
     congr 1
     rw [D1]
     omega
    ·intro j q G
     rw [DF]at G
     split at G
     ·rw [DE]at G
      have:=U.cells (g:=g) rfl _ q G
      rw [sJ]at this⊢
      rw [<-this];congr 2;omega
     ·cases G
  |var _=>exact fE s.boxes E
  |dead=>exact fE s.boxes E
  |map _ _ _=>exact fE s.boxes E
  |nest _ _ _ _ _=>exact fE s.boxes E
  |hole _ _ _ _ _ _=>exact fE s.boxes E
end
end Go.Dw
