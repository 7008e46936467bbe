
import Derived.Test.YtfmoipelhfkdkaaGreatDoorDwList
import Derived.Laws.Slices
set_option linter.unusedVariables false
set_option linter.unusedSimpArgs false
open Option.some renaming injEq->DJ
open Nat renaming add_mul->D9, add_zero->EA, le_refl->DI, min_eq_left->EW, mul_comm->EX, mul_le_mul_right->EB, one_mul->EC, sub_self->ED, zero_add->DQ, zero_le->DR
open Bool renaming and_eq_true->EE, true_eq->EF
open List renaming getElem?_append_left->DX, getElem?_append_right->DY, getElem?_drop->DM, getElem?_map->EY, getElem?_of_mem->EZ, getElem?_take->DN, getElem_mem->EJ, length_drop->E0, length_take->E1, mem_of_getElem?->D6, mem_of_mem_drop->E2, mem_of_mem_take->E3, range->DO
open Option renaming map_some->E4
open Array renaming getElem?_eq_getElem->EM
open Go.Sem renaming run_bind->ET, run_pure->EV
open Go.Result renaming andThen_ok->EH

namespace Go.Dw
section
variable {P:Program}{X:Ctx}{S:rP}{loc:ss}{s:St}{tm:Array Value}{w:World}
inductive RO(S:rP)(loc:ss):Option RV->Option Value->Prop
 |none:RO S loc none none
 |some {rv:RV} {v:Value} (h:R S loc rv v):RO S loc (some rv) (some v)
theorem xb{rv:RV}{d n:Int}(h:bnd (some rv) d=some n):∃k,rv= .d (.int k n):=by
 rcases rv with p|_|_|_|_|_|_|_|_|_|_|_|_<;>first|(simp [bnd]at h;done)|skip
 cases p<;>first|(simp [bnd]at h;done)|skip
 simp only [bnd,DJ]at h
 subst h
 exact⟨_,rfl⟩
theorem xW{b:Bool}{len cap:Nat}{lo hi:Option RV}{q j:Option Value}{l h:Int}(h1:RO S loc lo q)(f:RO S loc hi j)(hl:bnd lo 0=some l)(g:bnd hi len=some h)
  (u:0<=l∧l<=h∧h<=len) (hc:len<=cap):(Instr.sliceBounds b len cap q j none).run P w= .ok (l.toNat,h.toNat,cap) w:=by
 obtain⟨a1,a2,a3⟩:=u
 cases h1 with
 |none=>
  simp only [bnd,DJ]at hl
  subst hl
  cases f with
  |none=>simp only [bnd,DJ]at g;subst g;simp [Instr.sliceBounds]
  |some f=>
   obtain⟨k,rfl⟩:=xb g
   have:=f.sk
   subst this
   have e:0<=h∧h<=(cap:Int):=⟨za,za⟩
   simp [Instr.sliceBounds,Instr.sliceBound,asIntOf,e]
 |some h1=>
  obtain⟨k,rfl⟩:=xb hl
  have:=h1.sk
  subst this
  cases f with
  |none=>
   simp only [bnd,DJ]at g
   subst g
   have e:0<=l∧l<=(len:Int):=⟨za,za⟩
   simp [Instr.sliceBounds,Instr.sliceBound,asIntOf,e]
  |some f=>
   obtain⟨k',rfl⟩:=xb g
   have:=f.sk
   subst this
   have e:0<=h∧h<=(cap:Int):=⟨za,za⟩
   have r:l<=max h 0:=by omega
   simp [Instr.sliceBounds,Instr.sliceBound,asIntOf,e,a1,r]
theorem uU{α:Type}(l:List α)(hi:Option RV)(a h:Int)(f:bnd hi l.length=some h)(g:0<=a∧a<=h∧h<=l.length):
  cut l a.toNat (hiOf hi h)=(l.drop a.toNat).take (h.toNat-a.toNat):=by
 cases hi with
 |none=>
  simp only [bnd,DJ]at f
  subst f
  simp only [hiOf,cut]
  rw [List.take_of_length_le]
  simp
 |some r=>simp only [hiOf,cut]
theorem Flat.nil(S:rP)(sz:Nat):Flat S sz [] []:=⟨(fun e he=>by cases he),(fun u hu=>by cases hu),(fun i e j x hi=>by simp at hi)⟩
theorem Co{O:Nat}{t:TypeId}{p:PD}{v:RV}{lo hi:Option RV}{I F:Option Value}{b:sj}{u:Ups}{r:List Nat}{T:Value}(hl:tC P O t (.d p) lo hi none b=some ((v,u),r,true))(N:R S loc (.d p) T)
  (h1:RO S loc lo I) (Q:RO S loc hi F):
  ∃v',(Instr.sliceAt t T I F none).run P w= .ok v' w∧R S loc v v'∧u=[]:=by
 unfold tC at hl
 rcases hu:P.underlying t with _|d
 ·simp only [hu]at hl;exact fE b hl
 rw [hu]at hl
 cases d<;>first|exact fE b hl|skip
 case string=>
  cases p<;>first|exact fE b hl|skip
  rename_i l
  rcases g:bnd lo 0 with _|a
  ·simp only [g]at hl;exact fE b hl
  rcases q:bnd hi l.length with _|h
  ·simp only [g,q]at hl;exact fE b hl
  simp only [g,q]at hl
  obtain⟨J, -,D⟩:=sd hl
  cases J
  have E:=of_decide_eq_true D.symm
  have W:=N.wU
  subst W
  have K:=xW (P:=P) (w:=w) (b:=false) (len:=l.length) (cap:=l.length) h1 Q g q E (DI _)
  refine⟨.string ((ByteArray.mk l.toArray).extract a.toNat h.toNat),?_,?_,rfl⟩
  ·simp [Instr.sliceAt,run_underlying hu,Instr.slice,zQ,K]
  ·rw [ByteArray.extract_mk,uU l hi a h q E]
   exact .d (.str _)
 case slice e=>
  cases p<;>first|exact fE b hl|skip
  rename_i es
  rcases g:bnd lo 0 with _|a
  ·simp only [g]at hl;exact fE b hl
  rcases q:bnd hi es.length with _|h
  ·simp only [g,q]at hl;exact fE b hl
  rcases hk:szT P e with _|k
  ·simp only [g,q,hk]at hl;exact fE b hl
  simp only [g,q,hk]at hl
  obtain⟨J, -,D⟩:=sd hl
  cases J
  simp only [EF,EE]at D
  obtain⟨D,Y⟩:=D
  have E:=of_decide_eq_true D
  obtain⟨ad,c,rfl,hc⟩:=zP N.wN
  have K:=xW (P:=P) (w:=w) (b:=true) (len:=es.length) (cap:=c) h1 Q g q E hc
  refine⟨.slice (if c=a.toNat then ad else ad.map (·.add (a.toNat*k))) (h.toNat-a.toNat) (c-a.toNat),?_,?_,rfl⟩
  ·simp [Instr.sliceAt,run_underlying hu,Instr.slice,K,rQ hk]
  ·rw [uU es hi a h q E]
   have hlen:((es.drop a.toNat).take (h.toNat-a.toNat)).length=h.toNat-a.toNat:=by simp;omega
   refine .d ?_
   by_cases hz:h.toNat-a.toNat=0
   ·rw [hz]
    simp only [List.take_zero]
    exact .nil _ _
   ·have C:es[a.toNat]? =some es[a.toNat]:=zf za
    obtain⟨U,o,c',sz,f,he,_,G,hS,hV⟩:=N.wN.elem C
    cases he
    have H:sz=k:=by
     have:=List.all_eq_true.1 Y _ (D6 C)
     rw [<-G _ (D6 C)]
     simpa using this
    subst H
    rw [if_neg za]
    simp only [E4,th]
    have:=V.lst (S:=S) ((es.drop a.toNat).take (h.toNat-a.toNat)) U (o+a.toNat*sz) (c-a.toNat) sz (fun i j=>f (a.toNat+i) j) (by rw [hlen];omega)
     (fun e he=>G e (E2 (E3 he)))
     (fun i e j x hi L => by
      rw [DN]at hi
      split at hi
      ·rw [DM]at hi
       have:=hS _ e j x hi L
       rw [<-this]
       congr 2
       rw [D9]
       omega
      ·cases hi)
     (fun i e j x hi L => by
      rw [DN]at hi
      split at hi
      ·rw [DM]at hi
       exact hV _ e j x hi L
      ·cases hi)
    rw [hlen]at this
    exact this
def wV(hdr:Value)(sz a b:Nat)(v:Value):Prop:=
 (a=b∧∃a0,v= .slice a0 0 0)∨∃g n c,hdr= .slice (some ⟨g,0,none⟩) n c∧a<=b∧b<=c∧v= .slice (some ⟨g,a*sz,none⟩) (b-a) (c-a)
theorem wV.ref{e:TypeId}{sz n:Nat}{hdr:Value}{xs:List Value}(h:rowAt w e sz hdr n xs):wV hdr sz 0 n hdr:=by
 rcases h with⟨_,⟨rfl,rfl⟩|⟨g,cap,cur,_,rfl,_,_,h,_⟩⟩|⟨rfl,_,a,rfl⟩
 ·exact .inl ⟨rfl,none,rfl⟩
 ·exact .inr ⟨g,n,cap,rfl,DR _,h,zc⟩
 ·exact .inl ⟨rfl,a,rfl⟩
theorem wV.cap{hdr v:Value}{sz a b:Nat}(h:wV hdr sz a b v)(f:a<=b):∃ad c,v= .slice ad (b-a) c∧b-a<=c:=by
 rcases h with⟨rfl,a0,rfl⟩|⟨g,n,c,rfl,h1,j,rfl⟩
 ·exact⟨a0,0,by rw [ED],za⟩
 ·exact⟨_,_,rfl,za⟩
theorem wV.slice{hdr:Value}{sz a b len cap l h:Nat}{ad:Option Addr}(q:wV hdr sz a b (.slice ad len cap))(k:l<=h)(C:h<=b-a)(j:a<=b):
  wV hdr sz (a+l) (a+h) (.slice (if cap=l then ad else ad.map (·.add (l*sz))) (h-l) (cap-l)):=by
 rcases q with⟨rfl,a0,he⟩|⟨g,n,c,rfl,h1,u,he⟩
 ·cases he
  have f:h=0:=by omega
  have r:l=0:=by omega
  subst f r
  exact .inl ⟨rfl,ad,zc⟩
 ·cases he
  by_cases hc:c-a=l
  ·rw [if_pos hc]
   have:h=l:=by omega
   subst this
   exact .inl ⟨rfl,some ⟨g,a*sz,none⟩,by rw [hc,ED]⟩
  ·rw [if_neg hc]
   refine .inr ⟨g,n,c,rfl,za,za,?_⟩
   simp only [E4,th]
   congr 1
   ·rw [D9]
   ·omega
   ·omega
theorem R.viewD{id ver lo hi:Nat}{e:TypeId}{sz:Nat}{hdr v:Value}(j:loc id=some (.arr ver e sz hdr))(ho:v.oneCell'=true)(h:wV hdr sz lo hi v):R S loc (.view id ver lo hi) v:=by
 refine .view id ver lo hi v _ ho j fun g q k f he=>?_
 cases he
 exact⟨DI _,fun _=>h⟩
theorem wT(h:Sim P X S loc s tm w){t e:TypeId}{id ver a b:Nat}{v:RV}{lo hi:Option RV}{D q:Option Value}{u:Ups}{r:List Nat}{J:Value}(W:P.underlying t=some (.slice e))(hl:sliceB P e id ver a b lo hi s.boxes=some ((v,u),r,true))
  (Y:∀es,s.boxes id=some (.arr ver e es)->a<=b->b<=es.length->∃sz hdr,loc id=some (.arr ver e sz hdr)∧szT P e=some sz∧wV hdr sz a b J)
  (h1:RO S loc lo D) (Q:RO S loc hi q):
  ∃v',(Instr.sliceAt t J D q none).run P w= .ok v' w∧R S loc v v'∧u=[]:=by
 unfold sliceB at hl
 rcases f:bnd lo 0 with _|l
 ·simp only [f]at hl;exact fE s.boxes hl
 rcases g:bnd hi ((b:Int)-a)with _|G
 ·simp only [f,g]at hl;exact fE s.boxes hl
 rcases hk:szT P e with _|_|k
 ·simp only [f,g,hk]at hl;exact fE s.boxes hl
 ·simp only [f,g,hk]at hl;exact fE s.boxes hl
 simp only [f,g,hk]at hl
 obtain⟨K,r1,r2,g1,g2,_⟩:=M.bind_some hl
 obtain⟨U,_,_⟩:=M.get_some g1
 cases K with
 |var _=>exact fE s.boxes g2
 |dead=>exact fE s.boxes g2
 |map _ _ _=>exact fE s.boxes g2
 |nest _ _ _ _ _=>exact fE s.boxes g2
 |hole _ _ _ _ _ _=>exact fE s.boxes g2
 |arr E N es=>
  by_cases j:ver=E∧e=N
  rotate_left
  ·simp only [j,if_false]at g2;exact fE s.boxes g2
  simp only [j,and_self,if_true]at g2
  obtain⟨rfl,rfl⟩:=j
  obtain⟨g3, -,g4⟩:=sd g2
  cases g3
  obtain⟨F,L,c3,c4,c5⟩:a<=b∧b<=es.length∧0<=l∧l<=G∧G<=(b:Int)-a:=of_decide_eq_true g4.symm
  obtain⟨sz,hdr,T,C,I⟩:=Y es U F L
  rw [hk]at C
  cases C
  obtain⟨ad,c,rfl,hc⟩:=I.cap F
  have O:((b:Int)-a)=((b-a:Nat):Int):=by omega
  rw [O]at g
  have H:=xW (P:=P) (w:=w) (b:=true) (len:=b-a) (cap:=c) h1 Q f g za hc
  refine⟨_,?_,R.viewD T rfl (I.slice (l:=l.toNat) (h:=G.toNat) za za F),rfl⟩
  simp [Instr.sliceAt,run_underlying W,Instr.slice,H,rQ hk]
theorem Sim.Dc(h:Sim P X S loc s tm w){id b:Nat}{ps:List PD}{ty:TypeId}{vs:Array Value}(C:s.boxes id=some (.var (ps.map .d)))(g:loc id=some (.var b))(hw:w.heap[b]? =some (.cells vs ty (0,0)))(h1:∀v∈vs,v.oneCell'=true):
  Sim P X (tE S b vs.toList) (upd loc id .dead) { s with boxes:=upd s.boxes id .dead } tm w∧Sub S (tE S b vs.toList)∧(∀j v,vs[j]? =some v->tE S b vs.toList ⟨b,j,none⟩=some v):=by
 have q:sb (loc id) .dead:=by rw [g];exact .dead _
 have r:=h.sW (Step.refl none w) id .dead .dead (fun b hc=>by cases hc) (.dead _ rfl) (fun b hc=>by cases hc) q
 refine⟨r.wI b vs.toList (fun j v k=>?_) (fun v u=>h1 v (by simpa using u)) (fun i L hi f=>?_) (h.own id _ b g rfl).symm,uk _ _ _,fun j v k=>we (fun o=>h.uM id _ b g rfl o) (by simpa using k)⟩
 ·rw [cell_of_row w b j vs ty (0,0) hw]
  simpa using k
 ·by_cases hid:i=id
  ·subst hid;rw [rK]at hi;cases hi;cases f
  ·rw [sy _ _ hid]at hi
   exact hid (h.inj i id L _ b hi g f rfl)
theorem BB(h:Sim P X S loc s tm w){a:TypeId}{id:Nat}{v:RV}{u:Ups}{r:List Nat}{T:Value}(hl:yh P id a s.boxes=some ((v,u),r,true))(K:R S loc (.ptr id 0) T):
  ∃v' S' loc',(Instr.sliceAt a T none none none).run P w= .ok v' w∧Sim P X S' loc' (s.ups u) tm w∧R S' loc' v v':=by
 unfold yh at hl
 rcases hu:P.underlying a with _|d
 ·simp only [hu]at hl;exact fE s.boxes hl
 rw [hu]at hl
 cases d<;>first|exact fE s.boxes hl|skip
 rename_i n e
 rcases hk:szT P e with _|_|k
 ·simp only [hk]at hl;exact fE s.boxes hl
 ·simp only [hk]at hl;exact fE s.boxes hl
 simp only [hk]at hl
 obtain⟨U,r1,r2,g1,g2,_⟩:=M.bind_some hl
 obtain⟨O,_,_⟩:=M.get_some g1
 cases U with
 |arr _ _ _=>exact fE s.boxes g2
 |dead=>exact fE s.boxes g2
 |map _ _ _=>exact fE s.boxes g2
 |nest _ _ _ _ _=>exact fE s.boxes g2
 |hole _ _ _ _ _ _=>exact fE s.boxes g2
 |var cs=>
  rcases hp:w9 cs with _|ps
  ·simp only [hp]at g2;exact fE s.boxes g2
  simp only [hp]at g2
  by_cases hc:sw P e=true∨k=0
  rotate_left
  ·rw [if_neg hc]at g2;exact fE s.boxes g2
  rw [if_pos hc]at g2
  obtain⟨g3, -,g4⟩:=M.rE g2
  cases g3
  simp only [EF,EE,decide_eq_true_eq]at g4
  obtain⟨I,f⟩:=g4
  have H:=wy hp
  subst H
  obtain⟨b,ty,vs,Y,rfl,hw,hlen,hv⟩:=h.BJ O K
  have G:∀(i:Nat)p u,ps[i]? =some p->vs[i]? =some u->V S p u:=fun i p u h1 W=>by
   have:=hv i (.d p) u (by simp [h1]) W
   cases this with|d h=>exact h
  have g:vs.size=ps.length:=by simpa using hlen
  have h1:∀u∈vs,u.oneCell'=true:=fun u hu=>by
   obtain⟨i,hi,rfl⟩:=Array.getElem_of_mem hu
   have D:i<ps.length:=by omega
   exact((G i ps[i] vs[i] (zf D) (EM hi)).vv (List.all_eq_true.1 f _ (EJ D))).1
  obtain⟨k1,k2,k3⟩:=h.Dc O Y hw h1
  have C:=uf (P:=P) e (k+1) n ps
  have q:=wG (P:=P) e (k+1) (hc.imp (fun h=>h) (fun h=>za)) n ps I (fun p hp=>List.all_eq_true.1 f p hp)
  have F:∀(i:Nat)x(j:Nat)c,(tz P e (k+1) n ps)[i]? =some x->x.cells[j]? =some c->∃u,vs[i*(k+1)+j]? =some u∧V S c u:=fun i x j c hi E=>by
   have L:=(q i x hi).2 j c E
   have N:i*(k+1)+j<vs.size:=by rw [g];exact(List.getElem?_eq_some_iff.1 L).1
   exact⟨_,EM N,G _ c _ L (EM N)⟩
  have hV := V.lst (S := tE S b vs.toList) (tz P e (k + 1) n ps) b 0 n (k + 1) (fun i j => (vs[i * (k + 1) + j]?).getD default) (by rw [C]; exact DI _) (fun x K => by
    obtain⟨i,hi⟩:=EZ K
    exact(q i x hi).1)
   (fun i x j c hi E => by
    obtain⟨u,hu,_⟩:=F i x j c hi E
    rw [DQ,k3 _ u hu,hu];rfl)
   (fun i x j c hi E => by
    obtain⟨u,hu,J⟩:=F i x j c hi E
    rw [hu]
    exact J.mono k2)
  rw [C]at hV
  refine⟨.slice (some ⟨b,0,none⟩) n n,_,_,?_,k1,.d hV⟩
  simp only [Instr.sliceAt,run_underlying hu,ET,EH,Instr.sureAddr,EV,Instr.sliceBounds,rQ hk]
  by_cases Q:n=0
  ·simp [Q]
  ·simp [Q,Addr.add]
theorem BC{a:TypeId}{cs:List PD}{v:RV}{u:Ups}{r:List Nat}{K:Value}{f:sj}(hl:yi P a cs f=some ((v,u),r,true))(I:R S loc (.cptr cs) K):
  ∃v',(Instr.sliceAt a K none none none).run P w= .ok v' w∧R S loc v v'∧u=[]:=by
 unfold yi at hl
 rcases hu:P.underlying a with _|d
 ·simp only [hu]at hl;exact fE f hl
 rw [hu]at hl
 cases d<;>first|exact fE f hl|skip
 rename_i n e
 rcases hk:szT P e with _|_|k
 ·simp only [hk]at hl;exact fE f hl
 ·simp only [hk]at hl;exact fE f hl
 simp only [hk]at hl
 by_cases hc:sw P e=true∨k=0
 rotate_left
 ·rw [if_neg hc]at hl;exact fE f hl
 rw [if_pos hc]at hl
 obtain⟨g3, -,g4⟩:=M.rE hl
 cases g3
 simp only [EF,EE,decide_eq_true_eq]at g4
 obtain⟨L,G⟩:=g4
 cases I with
 |cptr _ b o F hS hV=>
 have hlen:(cs.take (n*(k+1))).length=n*(k+1):=by simp;omega
 have C:=uf (P:=P) e (k+1) n (cs.take (n*(k+1)))
 have q:=wG (P:=P) e (k+1) (hc.imp (fun h=>h) (fun h=>za)) n (cs.take (n*(k+1))) hlen (fun p hp=>List.all_eq_true.1 G p hp)
 have E:∀(i:Nat)x(j:Nat)c,(tz P e (k+1) n (cs.take (n*(k+1))))[i]? =some x->x.cells[j]? =some c->cs[i*(k+1)+j]? =some c:=fun i x j c hi D=>by
  have H:=(q i x hi).2 j c D
  rw [DN]at H
  split at H
  ·exact H
  ·cases H
 have g := V.lst (S := S) (tz P e (k + 1) n (cs.take (n * (k + 1)))) b o n (k + 1) (fun i j => F (i * (k + 1) + j)) (by rw [C]; exact DI _) (fun x I => by
   obtain⟨i,hi⟩:=EZ I
   exact(q i x hi).1)
  (fun i x j c hi D => by
   rw [Nat.add_assoc]
   exact hS _ c (E i x j c hi D))
  (fun i x j c hi D=>hV _ c (E i x j c hi D))
 rw [C]at g
 refine⟨.slice (some ⟨b,o,none⟩) n n,?_,.d g,rfl⟩
 simp only [Instr.sliceAt,run_underlying hu,ET,EH,Instr.sureAddr,EV,Instr.sliceBounds,rQ hk]
 by_cases J:n=0
 ·simp [J]
 ·simp [J,Addr.add]
theorem BE(h:Sim P X S loc s tm w){t e:TypeId}{id ver:Nat}{v:RV}{lo hi:Option RV}{I:RV}{E C:Option Value}{F:Value}{u:Ups}{r:List Nat}{Q:Value}(ht:P.underlying t=some (.slice e))(hl:yj P e id ver lo hi I s.boxes=some ((v,u),r,true))
  (hx:R S loc (.ref id ver) Q) (h1:RO S loc lo E) (G:RO S loc hi C) (W:R S loc I F):
  ∃v',(Instr.sliceAt t Q E C (some F)).run P w= .ok v' w∧R S loc v v'∧u=[]:=by
 unfold yj at hl
 cases h1<;>first|exact fE s.boxes hl|skip
 cases G<;>first|exact fE s.boxes hl|skip
 rename_i J vh G
 cases J<;>first|exact fE s.boxes hl|skip
 rename_i ph
 cases ph<;>first|exact fE s.boxes hl|skip
 rename_i kh f
 cases I<;>first|exact fE s.boxes hl|skip
 rename_i pm
 cases pm<;>first|exact fE s.boxes hl|skip
 rename_i km hm
 rcases hk:szT P e with _|_|k
 ·simp only [hk]at hl;exact fE s.boxes hl
 ·simp only [hk]at hl;exact fE s.boxes hl
 simp only [hk]at hl
 by_cases q:f=hm
 rotate_left
 ·rw [if_neg q]at hl;exact fE s.boxes hl
 rw [if_pos q]at hl
 subst q
 obtain⟨T,r1,r2,g1,g2,_⟩:=M.bind_some hl
 obtain⟨Y,_,_⟩:=M.get_some g1
 cases T with
 |var _=>exact fE s.boxes g2
 |dead=>exact fE s.boxes g2
 |map _ _ _=>exact fE s.boxes g2
 |nest _ _ _ _ _=>exact fE s.boxes g2
 |hole _ _ _ _ _ _=>exact fE s.boxes g2
 |arr j L es=>
  simp only at g2
  by_cases g:ver=j∧e=L
  rotate_left
  ·rw [if_neg g]at g2;exact fE s.boxes g2
  rw [if_pos g]at g2
  obtain⟨rfl,rfl⟩:=g
  obtain⟨g3, -,g4⟩:=M.rE g2
  cases g3
  obtain⟨K,c2⟩:0<=f∧f<=es.length:=of_decide_eq_true g4.symm
  obtain⟨sz,xs,D,a6,how,hf⟩:=h.vX Y hx
  obtain⟨a,c,rfl,hc⟩:=how.hdr
  have e2:=G.sk
  have U:=W.sk
  subst e2 U
  refine⟨.slice a f.toNat f.toNat,?_,.fview id ver f.toNat _ _ rfl D fun j L a9 O he=>by cases he;exact⟨DI _,fun _=>⟨a,_,c,rfl,za,rfl⟩⟩,rfl⟩
  have d1:0<=f∧f<=(c:Int):=⟨K,za⟩
  have d2:0<=f∧f<=(f.toNat:Int):=⟨K,za⟩
  have H:(Instr.sliceBounds true es.length c none (some (.int kh f)) (some (.int km f))).run P w= .ok (0,f.toNat,f.toNat) w:=by
   simp [Instr.sliceBounds,Instr.sliceBound,asIntOf,d1,d2]
   intro a5
   omega
  simp only [Instr.sliceAt,run_underlying ht,Instr.slice,ET,EH,H,rQ hk,EV]
  by_cases N:f.toNat=0
  ·simp [N]
  ·cases a<;>simp [N,Addr.add]
theorem Ca(h:Sim P X S loc s tm w){t e:TypeId}(hu:P.underlying t=some (.slice e)){es:List PD}{k k':IntKind}{j m:Int}{v:RV}{u:Ups}{r:List Nat}{C:Value}(hl:Au P e es j m s.boxes=some ((v,u),r,true))(K:V S (.lst es) C):
  ∃v' S' loc',(Instr.sliceAt t C none (some (.int k j)) (some (.int k' m))).run P w= .ok v' w∧Sim P X S' loc' (s.ups u) tm w∧R S' loc' v v':=by
 unfold Au at hl
 rcases hk:szT P e with _|_|sz
 ·simp only [hk]at hl;exact fE s.boxes hl
 ·simp only [hk]at hl;exact fE s.boxes hl
 simp only [hk]at hl
 by_cases g:j=m
 rotate_left
 ·rw [if_neg g]at hl;exact fE s.boxes hl
 rw [if_pos g]at hl
 subst g
 obtain⟨g3, -,g4⟩:=M.rE (b:=s.boxes) hl
 cases g3
 have E:j=es.length:=of_decide_eq_true g4.symm
 subst E
 obtain⟨a,c,rfl,hc,J⟩:∃a c,C= .slice a es.length c∧es.length<=c∧V S (.lst es) (.slice a es.length es.length):=by
  cases K with
  |nil a c=>exact⟨a,c,rfl,DR _,.nil _ _⟩
  |lst _ b o c sz f h1 F G H=>exact⟨_,c,rfl,h1,.lst es b o _ sz f (DI _) F G H⟩
 refine⟨.slice a es.length es.length,S,loc,?_,h,.dfull es a J⟩
 have d1:(0:Int)<=(es.length:Int)∧(es.length:Int)<=(c:Int):=⟨za,za⟩
 have q:(Instr.sliceBounds true es.length c none (some (.int k (es.length:Int))) (some (.int k' (es.length:Int)))).run P w= .ok (0,es.length,es.length) w:=by
  simp [Instr.sliceBounds,Instr.sliceBound,asIntOf]
  intro I
  omega
 simp only [Instr.sliceAt,run_underlying hu,Instr.slice,ET,EH,q,rQ hk,EV]
 by_cases D:es.length=0
 ·simp [D]
 ·cases a<;>simp [D,Addr.add]
theorem Cl(h:Sim P X S loc s tm w){t:TypeId}{x v:RV}{lo hi mx:Option RV}{W N Y:Option Value}{u:Ups}{r:List Nat}{vx:Value}(hl:zF P t x lo hi mx s.boxes=some ((v,u),r,true))(J:R S loc x vx)
  (h1:RO S loc lo W) (h2:RO S loc hi N) (h3:RO S loc mx Y):
  ∃v' S' loc',(Instr.sliceAt t vx W N Y).run P w= .ok v' w∧Sim P X S' loc' (s.ups u) tm w∧R S' loc' v v':=by
 unfold zF at hl
 rcases hu:P.underlying t with _|d
 ·simp only [hu]at hl;exact fE s.boxes hl
 rw [hu]at hl
 cases d<;>first|exact fE s.boxes hl|skip
 rename_i e
 by_cases U:∃es,x= .d (.lst es)
 ·obtain⟨es,rfl⟩:=U
  cases J with
  |d J=>
  cases h1<;>first|exact fE s.boxes hl|skip
  cases h2 with
  |none=>exact fE s.boxes hl
  |some g1=>
  rename_i r1 v1
  cases r1<;>first|exact fE s.boxes hl|skip
  rename_i p1
  cases p1<;>first|exact fE s.boxes hl|skip
  cases h3 with
  |none=>exact fE s.boxes hl
  |some g2=>
  rename_i r2 v2
  cases r2<;>first|exact fE s.boxes hl|skip
  rename_i p2
  cases p2<;>first|exact fE s.boxes hl|skip
  have e1:=g1.sk
  have e2:=g2.sk
  subst e1 e2
  exact Ca h hu hl J
 cases x<;>first|exact fE s.boxes hl|(rename_i p;cases p<;>first|exact fE s.boxes hl|exact(U ⟨_,rfl⟩).elim)|skip
 rename_i id ver
 cases lo<;>first|exact fE s.boxes hl|skip
 cases hi<;>first|exact fE s.boxes hl|skip
 rename_i b5
 cases b5<;>first|exact fE s.boxes hl|skip
 rename_i p0
 cases p0<;>first|exact fE s.boxes hl|skip
 rename_i k f
 cases mx<;>first|exact fE s.boxes hl|skip
 ·simp only at hl
  rcases hk:szT P e with _|_|sz
  ·simp only [hk]at hl;exact fE s.boxes hl
  ·simp only [hk]at hl;exact fE s.boxes hl
  simp only [hk]at hl
  obtain⟨bx,r1,r2,g1,g2,_⟩:=M.bind_some hl
  obtain⟨hb,_,_⟩:=M.get_some g1
  cases bx with
  |var _=>exact fE s.boxes g2
  |dead=>exact fE s.boxes g2
  |map _ _ _=>exact fE s.boxes g2
  |nest _ _ _ _ _=>exact fE s.boxes g2
  |hole _ _ _ _ _ _=>exact fE s.boxes g2
  |arr E e' es=>
   simp only at g2
   by_cases D:ver=E∧e=e'
   rotate_left
   ·rw [if_neg D]at g2;exact fE s.boxes g2
   rw [if_pos D]at g2
   obtain⟨rfl,rfl⟩:=D
   obtain⟨g3, -,g4⟩:=M.rE g2
   cases g3
   obtain⟨c1,c2⟩:0<=f∧f<=es.length:=of_decide_eq_true g4.symm
   obtain⟨b6,xs,C,T,how,hf⟩:=h.vX hb J
   rw [hk]at T
   cases T
   cases h3
   have b2:sliceB P e id ver 0 es.length none (some (.d (.int k f))) s.boxes=some ((.view id ver (0+(0:Int).toNat) (0+f.toNat),[]),[id],true):=by
    have e0:((es.length:Nat):Int)-((0:Nat):Int)=(es.length:Int):=by simp
    simp only [sliceB,bnd,hk,M.bind,M.get,hb,and_self,if_true,se,M.rG,e0]
    simp [c1,c2]
   obtain ⟨v', k1, k2, -⟩ := wT h hu b2 (fun c4 K _ _ => by
    rw [hb]at K
    cases K
    exact⟨_,_,C,hk,wV.ref how⟩) h1 h2
   have I:wV vx (sz+1) (0+(0:Int).toNat) (0+f.toNat) v':=by
    cases k2 with
    |view _ _ _ _ _ L ho hL hc=>
     rw [C]at hL
     cases hL
     exact(hc ver e (sz+1) vx rfl).2 rfl
   have ho:v'.oneCell'=true:=by
    cases k2 with
    |view _ _ _ _ _ L ho hL hc=>exact ho
   have z1:(0+(0:Int).toNat)=0:=rfl
   have z2:(0+f.toNat)=f.toNat:=DQ _
   rw [z1,z2]at I
   have hlen:(es.take f.toNat).length=f.toNat:=by simp;omega
   have H:Flat S (sz+1) (es.take f.toNat) (xs.take (f.toNat*(sz+1))):=by
    refine⟨fun x J=>hf.len x (E3 J),fun q hq=>hf.one q (E3 hq),fun i x j c hi hj=>?_⟩
    rw [DN]at hi
    split at hi
    ·rename_i b0
     obtain⟨q,h5,h6⟩:=hf.cell i x j c hi hj
     refine⟨q,?_,h6⟩
     have c5:j<sz+1:=by rw [<-hf.len x (D6 hi)];exact(List.getElem?_eq_some_iff.1 hj).1
     have:i*(sz+1)+j<f.toNat*(sz+1):=by
      calc i*(sz+1)+j<i*(sz+1)+(sz+1):=by omega
       _=(i+1)*(sz+1):=by rw [D9,EC]
       _<=f.toNat*(sz+1):=EB _ b0
     rw [DN,if_pos this]
     exact h5
    ·cases hi
   have Q:rowAt w e (sz+1) v' (es.take f.toNat).length (xs.take (f.toNat*(sz+1))):=by
    rw [hlen]
    rcases I with⟨h0,a,rfl⟩|⟨g,n,c,he,_,hc,rfl⟩
    ·rw [<-h0]
     exact .inr ⟨rfl,zc,a,rfl⟩
    ·simp only [Nat.zero_mul,Nat.sub_zero]
     subst he
     rcases how with⟨a9,⟨hn,_⟩|⟨g',cap,cur,fz,hg,a5,G,c0,O,a6,b4⟩⟩|⟨hn,c6,a,ha⟩
     ·cases hn
     ·cases hg
      refine .inl ⟨by rw [E1,a9];exact EW (EB _ za),.inr ⟨g,c,cur,fz,rfl,a5,G,hc,O,a6,?_⟩⟩
      rw [<-b4,List.take_take]
      congr 1
      exact(EW (EB _ za)).symm
     ·cases ha
      have:f.toNat=0:=by omega
      rw [this]
      exact .inr ⟨rfl,zc,_,rfl⟩
   have b3:sb (loc id) (.arr (ver+1) e (sz+1) v'):=by
    rw [C]
    exact .arr za
   have b1:=h.sW (Step.refl none w) id (.arr (ver+1) e (es.take f.toNat)) (.arr (ver+1) e (sz+1) v') (fun b hc=>by cases hc) (.arr (ver+1) e _ (sz+1) v' _ hk Q H)
    (fun b F => by
     refine .inl ⟨_,C,?_⟩
     rcases I with⟨h0,a,rfl⟩|⟨g,n,c,he,_,hc,rfl⟩
     ·cases a<;>cases F
     ·subst he
      cases c with
      |zero=>cases F
      |succ c=>cases F;rfl) b3
   have hR:R S (upd loc id (.arr (ver+1) e (sz+1) v')) (.ref id (ver+1)) v':= .ref id (ver+1) v' _ ho (rK _ _ _) fun E e' b6 c3 he=>by
    cases he;exact⟨DI _,fun _=>rfl⟩
   exact⟨v',S,_,k1,b1,hR⟩
theorem BD(h:Sim P X S loc s tm w){U:Nat}{t:TypeId}{x v:RV}{lo hi mx:Option RV}{E D F:Option Value}{u:Ups}{r:List Nat}{L:Value}(hl:tC P U t x lo hi mx s.boxes=some ((v,u),r,true))(G:R S loc x L)
  (h1:RO S loc lo E) (j:RO S loc hi D) (K:RO S loc mx F):
  ∃v' S' loc',(Instr.sliceAt t L E D F).run P w= .ok v' w∧Sim P X S' loc' (s.ups u) tm w∧R S' loc' v v':=by
 have fin:(∃v',(Instr.sliceAt t L E D F).run P w= .ok v' w∧R S loc v v'∧u=[])->∃v' S' loc',(Instr.sliceAt t L E D F).run P w= .ok v' w∧Sim P X S' loc' (s.ups u) tm w∧R S' loc' v v':=by
  rintro⟨v',g1,g2,rfl⟩
  exact⟨v',S,loc,g1,h,g2⟩
 cases K with
 |some K=>
  unfold tC at hl
  rcases hu:P.underlying t with _|d
  ·simp only [hu]at hl;exact fE s.boxes hl
  rw [hu]at hl
  by_cases J:∃id ver,x= .ref id ver
  ·obtain⟨id,ver,rfl⟩:=J
   cases d<;>first|exact fE s.boxes hl|skip
   exact fin (BE h hu hl G h1 j K)
  rcases x with p|_|_|_|_|_|_|⟨_,_|_⟩|_|_|_|_|_<;>first|(cases d<;>exact fE s.boxes hl)|exact(J ⟨_,_,rfl⟩).elim|skip
  cases p<;>first|(cases d<;>exact fE s.boxes hl)|skip
  cases d<;>first|exact fE s.boxes hl|skip
  case slice es e=>
   simp only [zj]at hl
   rcases f:bnd lo 0 with _|l
   ·simp only [f]at hl;exact fE s.boxes hl
   rcases hi with _|(⟨⟨_⟩|⟨_,Q⟩|_|_|_|_⟩|_|_|_|_|_|_|_|_|_|_|_|_)<;>first|(simp only [f]at hl;exact fE s.boxes hl)|skip
   rename_i W vm _
   rcases W with⟨⟨_⟩|⟨_,m⟩|_|_|_|_⟩|_|_|_|_|_|_|_|_|_|_|_|_<;>first|(simp only [f]at hl;exact fE s.boxes hl)|skip
   rcases hk:szT P e with _|_|k
   ·simp only [f,hk]at hl;exact fE s.boxes hl
   ·simp only [f,hk]at hl;exact fE s.boxes hl
   simp only [f,hk]at hl
   by_cases H:l=0∧Q=0∧m=0
   rotate_left
   ·rw [if_neg H]at hl;exact fE s.boxes hl
   rw [if_pos H]at hl
   obtain⟨rfl,rfl,rfl⟩:=H
   obtain⟨_,r1,r2,g1,g2,_⟩:=M.bind_some hl
   obtain⟨T,_,_⟩:=M.sZ g1
   obtain⟨g3, -, -⟩:=M.rE g2
   cases g3
   obtain⟨ad,c,rfl,hc⟩:=zP G.wN
   obtain⟨loc',q1,q2,_⟩:=h.xr (es:=[]) (xs:=[]) T (Step.refl none w) hk (hdr:= .slice ad 0 0) (.inr ⟨rfl,rfl,ad,rfl⟩) (Flat.nil S _) (fun g hg=>by cases ad<;>cases hg) rfl
   have e3:=K.sk
   subst e3
   refine⟨_,S,loc',?_,q1,q2⟩
   cases j with
   |some j=>
    have e2:=j.sk
    subst e2
    cases h1 with
    |none=>simp [Instr.sliceAt,run_underlying hu,Instr.slice,Instr.sliceBounds,Instr.sliceBound,asIntOf,rQ hk]
    |some h1=>
     obtain⟨k,rfl⟩:=xb f
     simp only [bnd,DJ]at f
     try subst f
     have N:=h1.sk
     subst N
     simp [Instr.sliceAt,run_underlying hu,Instr.slice,Instr.sliceBounds,Instr.sliceBound,asIntOf,rQ hk]
 |none=>
  rcases hu:P.underlying t with _|d
  ·unfold tC at hl;simp only [hu]at hl;exact fE s.boxes hl
  rcases x with p|_|_|_|_|_|⟨id,ver⟩|⟨id,off⟩|_|_|⟨id,ver,a,b⟩|_|_<;>first|exact fin (Co hl G h1 j)|skip
  case ptr=>
   unfold tC at hl
   rw [hu]at hl
   cases d<;>first|exact fE s.boxes hl|skip
   cases off<;>first|exact fE s.boxes hl|skip
   cases h1<;>first|exact fE s.boxes hl|skip
   cases j<;>first|exact fE s.boxes hl|skip
   exact BB h hl G
  case cptr=>
   unfold tC at hl
   rw [hu]at hl
   cases d<;>first|exact fE s.boxes hl|skip
   cases h1<;>first|exact fE s.boxes hl|skip
   cases j<;>first|exact fE s.boxes hl|skip
   exact fin (BC hl G)
  case ref=>
   unfold tC at hl
   rw [hu]at hl
   cases d<;>first|exact fE s.boxes hl|skip
   simp only at hl
   obtain⟨bx,r1,r2,g1,g2,_⟩:=M.bind_some hl
   obtain⟨Y,_,_⟩:=M.get_some g1
   cases bx with
   |var _=>exact fE s.boxes g2
   |dead=>exact fE s.boxes g2
   |map _ _ _=>exact fE s.boxes g2
   |nest _ _ _ _ _=>exact fE s.boxes g2
   |hole _ _ _ _ _ _=>exact fE s.boxes g2
   |arr a5 e' es=>
    refine fin (wT h hu g2 (fun O C _ _=>?_) h1 j)
    rw [Y]at C
    cases C
    obtain⟨sz,xs,q,I,how,hf⟩:=h.vX Y G
    exact⟨sz,_,q,I,wV.ref how⟩
  case view=>
   unfold tC at hl
   rw [hu]at hl
   cases d<;>first|exact fE s.boxes hl|skip
   simp only at hl
   refine fin (wT h hu hl (fun O C _ _=>?_) h1 j)
   obtain⟨sz,xs,hdr,q,I,how,hf,ho,hd⟩:=h.yK C G
   exact⟨sz,hdr,q,I,hd⟩
  case rm=>
   unfold tC at hl
   rw [hu]at hl
   cases d<;>first|exact fE s.boxes hl|skip
   rename_i e
   simp only at hl
   rcases f:bnd lo 0 with _|l
   ·simp only [f]at hl;exact fE s.boxes hl
   rcases hi with _|(⟨⟨_⟩|⟨_,Q⟩|_|_|_|_⟩|_|_|_|_|_|_|_|_|_|_|_|_)<;>first|(simp only [f]at hl;exact fE s.boxes hl)|skip
   rcases hk:szT P e with _|k
   ·simp only [f,hk]at hl;exact fE s.boxes hl
   simp only [f,hk]at hl
   by_cases H:l=0∧Q=0
   rotate_left
   ·rw [if_neg H]at hl;exact fE s.boxes hl
   rw [if_pos H]at hl
   obtain⟨rfl,rfl⟩:=H
   obtain⟨g3, -, -⟩:=M.pZ hl
   cases g3
   cases G
   refine fin ⟨.slice none 0 0,?_,.rm,rfl⟩
   cases j with
   |some j=>
    have e2:=j.sk
    subst e2
    cases h1 with
    |none=>simp [Instr.sliceAt,run_underlying hu,Instr.slice,Instr.sliceBounds,Instr.sliceBound,asIntOf,rQ hk]
    |some h1=>
     obtain⟨k,rfl⟩:=xb f
     simp only [bnd,DJ]at f
     try subst f
     have N:=h1.sk
     subst N
     simp [Instr.sliceAt,run_underlying hu,Instr.slice,Instr.sliceBounds,Instr.sliceBound,asIntOf,rQ hk]
  all_goals
   unfold tC at hl
   rw [hu]at hl
   cases d<;>exact fE s.boxes hl
theorem Flat.append{sz:Nat}{es q:List PD}{xs C:List Value}(h:Flat S sz es xs)(hl:xs.length=es.length*sz)(f:Flat S sz q C):Flat S sz (es++q) (xs++C):=by
 refine⟨fun e he=>(List.mem_append.1 he).elim (h.len e) (f.len e),fun u hu=>(List.mem_append.1 hu).elim (h.one u) (f.one u),fun i e j x hi r=>?_⟩
 by_cases g:i<es.length
 ·rw [DX g]at hi
  obtain⟨u,hu,k⟩:=h.cell i e j x hi r
  exact⟨u,by rw [DX (List.getElem?_eq_some_iff.1 hu).1];exact hu,k⟩
 ·rw [DY za]at hi
  obtain⟨u,hu,k⟩:=f.cell (i-es.length) e j x hi r
  refine⟨u,?_,k⟩
  have hle:es.length*sz<=i*sz:=EB _ za
  rw [DY za, <-hu]
  congr 1
  rw [hl,Nat.sub_mul]
  omega
def Appd(w:World)(S:rP)(sz:Nat)(f:Value)(es:List PD):Prop:=
 ∃a c news,f= .slice a es.length c∧news.length=es.length*sz∧Flat S sz es news∧(es≠ []->∃ad,a=some ad∧∀(j:Nat)u,news[j]? =some u->w.cell? (ad.add j)=some u)
theorem ti(h:Sim P X S loc s tm w){x:RV}{es:List PD}{r:List Nat}{vx:Value}{sz:Nat}(hl:sq x s.boxes=some (es,r,true))(L:R S loc x vx)(O:0<sz)(a5:∀e∈es,e.cells.length=sz):
  Appd w S sz vx es:=by
 rcases x with p|_|_|_|_|_|⟨id,ver⟩|_|_|_|_|_|_<;>first|exact fE s.boxes hl|skip
 ·cases p<;>first|exact fE s.boxes hl|skip
  rename_i E
  obtain⟨h1, -, -⟩:=M.pZ (b:=s.boxes) hl
  subst h1
  by_cases K:es=[]
  ·subst K
   obtain⟨a,c,rfl,_⟩:=zP L.wN
   exact⟨a,c,[],rfl,zc,Flat.nil S _,fun h=>(h rfl).elim⟩
  ·obtain⟨Y,r0,T⟩:∃e r,es=e::r:=by
    cases es with
    |nil=>exact(K rfl).elim
    |cons e r=>exact⟨e,r,rfl⟩
   have h0:es[0]? =some Y:=by rw [T];rfl
   obtain⟨b,o,c,C,f,rfl,hc,I,hS,hV⟩:=L.wN.elem h0
   have:C=sz:=by rw [<-I Y (D6 h0)];exact a5 Y (D6 h0)
   subst this
   have key:∀q,q<es.length*C->∃e x,es[q / C]? =some e∧e.cells[q%C]? =some x:=by
    intro q H
    have h1:q / C<es.length:=(Nat.div_lt_iff_lt_mul O).2 H
    have F:q%C<(es[q / C]).cells.length:=by rw [I _ (EJ h1)];exact Nat.mod_lt _ O
    exact⟨_,_,zf h1,zf F⟩
   have J:∀q u,((DO (es.length*C)).map (fun q=>f (q / C) (q%C)))[q]? =some u->q<es.length*C∧u=f (q / C) (q%C):=by
    intro q u H
    rw [EY]at H
    cases hr:(DO (es.length*C))[q]? with
    |none=>simp [hr]at H
    |some k=>
     simp only [hr,E4,DJ]at H
     obtain⟨b0,he⟩:=List.getElem?_eq_some_iff.1 hr
     simp at b0 he
     subst he
     exact⟨b0,H.symm⟩
   have N:∀q,q<es.length*C->S ⟨b,o+q,none⟩=some (f (q / C) (q%C)):=by
    intro q H
    obtain⟨e,x,h1,F⟩:=key q H
    have:=hS _ e _ x h1 F
    rw [<-this]
    congr 2
    have:=Nat.div_add_mod q C
    rw [EX]at this
    omega
   refine⟨_,c,(DO (es.length*C)).map (fun q=>f (q / C) (q%C)),rfl,zc,⟨I,?_,?_⟩,fun _=>⟨_,rfl,?_⟩⟩
   ·intro u hu
    obtain⟨q,H,b2⟩:=List.getElem_of_mem hu
    obtain⟨h1,F⟩:=J q u (by rw [zf H,b2])
    exact h.vN _ u (by rw [F];exact N q h1)
   ·intro i e j x hi hj
    have D:=(List.getElem?_eq_some_iff.1 hi).1
    have a6:j<C:=by
     have:=(List.getElem?_eq_some_iff.1 hj).1
     rw [I e (D6 hi)]at this
     exact this
    have H:i*C+j<es.length*C:=by
     have:=EB C (show i+1<=es.length from D)
     rw [D9,EC]at this
     omega
    refine⟨f i j,?_,hV i e j x hi hj⟩
    rw [EY,List.getElem?_range H]
    simp only [E4,DJ]
    have hd:(i*C+j) / C=i:=by
     rw [EX,Nat.mul_add_div O,Nat.div_eq_of_lt a6,EA]
    have hm:(i*C+j)%C=j:=by
     rw [EX,Nat.mul_add_mod,Nat.mod_eq_of_lt a6]
    rw [hd,hm]
   ·intro q u H
    obtain⟨h1,rfl⟩:=J q u H
    rw [th]
    exact h.imm _ _ (N q h1)
 ·obtain⟨h1, -, -⟩:=M.pZ (b:=s.boxes) hl
  subst h1
  cases L with
  |rm=>exact⟨none,0,[],rfl,zc,Flat.nil S _,fun h=>(h rfl).elim⟩
 ·obtain⟨bx,r1,r2,h1,F,_⟩:=M.bind_some hl
  obtain⟨hb,_,_⟩:=M.get_some h1
  cases bx with
  |arr Q e' E=>
   by_cases G:ver=Q
   rotate_left
   ·simp only [G,if_false]at F;exact fE s.boxes F
   simp only [G,if_true]at F
   subst G
   obtain⟨h3, -, -⟩:=M.pZ F
   subst h3
   obtain⟨C,xs,a9,I,how,hf⟩:=h.vX hb L
   by_cases K:es=[]
   ·subst K
    obtain⟨a,c,rfl,_⟩:=how.hdr
    exact⟨a,c,[],rfl,zc,Flat.nil S _,fun h=>(h rfl).elim⟩
   ·obtain⟨Y,r0,T⟩:∃e r,es=e::r:=by
     cases es with
     |nil=>exact(K rfl).elim
     |cons e r=>exact⟨e,r,rfl⟩
    have hm:Y∈es:=by rw [T];simp
    have:C=sz:=by rw [<-hf.len Y hm];exact a5 Y hm
    subst this
    have U:0<es.length:=by rw [T];simp
    have how:=how.v8 U
    obtain⟨g,c,rfl⟩:=u7 how U
    exact⟨_,c,xs,rfl,how.1,hf,fun _=>⟨_,rfl,how.cells rfl⟩⟩
  |var _=>exact fE s.boxes F
  |dead=>exact fE s.boxes F
  |map _ _ _=>exact fE s.boxes F
  |nest _ _ _ _ _=>exact fE s.boxes F
  |hole _ _ _ _ _ _=>exact fE s.boxes F
 ·rename_i id ver lo D
  obtain⟨bx,r1,r2,h1,F,_⟩:=M.bind_some hl
  obtain⟨hb,_,_⟩:=M.get_some h1
  cases bx with
  |arr Q e' E=>
   by_cases G:ver=Q
   rotate_left
   ·simp only [G,if_false]at F;exact fE s.boxes F
   simp only [G,if_true]at F
   subst G
   obtain⟨h3, -,h4⟩:=M.rE F
   subst h3
   have hn:lo<=D∧D<=E.length:=of_decide_eq_true h4.symm
   obtain⟨C,xs,hdr,a9,I,how,hf,ho,hd⟩:=h.yK hb L
   have hlen:((E.drop lo).take (D-lo)).length=D-lo:=by rw [E1,E0];omega
   have J:∀(i:Nat)x,((E.drop lo).take (D-lo))[i]? =some x->E[lo+i]? =some x:=by
    intro i x L
    rw [DN]at L
    split at L
    ·rwa [DM]at L
    ·cases L
   by_cases K:D-lo=0
   ·have:(E.drop lo).take (D-lo)=[]:=by rw [K];rfl
    rw [this]
    rcases hd with⟨rfl,a,rfl⟩|⟨g,n,c,rfl,_,_,rfl⟩
    ·exact⟨a,0,[],rfl,zc,Flat.nil S _,fun h=>(h rfl).elim⟩
    ·exact⟨_,c-lo,[],by rw [K];rfl,zc,Flat.nil S _,fun h=>(h rfl).elim⟩
   ·rcases hd with⟨rfl,a,rfl⟩|⟨g,n,c,rfl,_,_,rfl⟩
    ·omega
    have U:0<E.length:=by omega
    have b3:((E.drop lo).take (D-lo))[0]? =some (E[lo]'za):=by
     rw [DN,if_pos za,DM,EA,zf]
    have:C=sz:=by rw [<-hf.len _ (EJ (by omega:lo<E.length))];exact a5 _ (D6 b3)
    subst this
    have W:=how.v8 U
    have b5:=W.1
    have hmul:lo*C+(D-lo)*C=D*C:=by rw [<-D9];congr 1;omega
    have hle:D*C<=E.length*C:=EB _ hn.2
    refine⟨_,c-lo,(xs.drop (lo*C)).take ((D-lo)*C),by rw [hlen],?_,⟨?_,?_,?_⟩,fun _=>⟨_,rfl,?_⟩⟩
    ·rw [hlen,E1,E0];omega
    ·exact fun x L=>hf.len x (E2 (E3 L))
    ·exact fun x L=>hf.one x (E2 (E3 L))
    ·intro i x j y hi hj
     obtain⟨q,H,hv⟩:=hf.cell (lo+i) x j y (J i x hi) hj
     refine⟨q,?_,hv⟩
     have b1:i<D-lo:=by
      have:=(List.getElem?_eq_some_iff.1 hi).1
      rw [hlen]at this
      exact this
     have b4:j<C:=by
      have:=(List.getElem?_eq_some_iff.1 hj).1
      rw [hf.len x (D6 (J i x hi))]at this
      exact this
     have hm:(i+1)*C<=(D-lo)*C:=EB _ b1
     rw [D9,EC]at hm
     rw [DN,if_pos za,DM, <-H]
     congr 1
     rw [D9]
     omega
    ·intro j q H
     rw [DN]at H
     split at H
     ·rw [DM]at H
      have:=W.cells (g:=g) rfl _ q H
      rw [th]at this⊢
      rw [<-this];congr 2;omega
     ·cases H
  |var _=>exact fE s.boxes F
  |dead=>exact fE s.boxes F
  |map _ _ _=>exact fE s.boxes F
  |nest _ _ _ _ _=>exact fE s.boxes F
  |hole _ _ _ _ _ _=>exact fE s.boxes F
end
end Go.Dw
