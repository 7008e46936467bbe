
import Derived.Test.YtgiepghgloiinaaGreatDoorDwList
import Derived.Laws.Slices
set_option linter.unusedVariables false
set_option linter.unusedSimpArgs false
open Option.some renaming injEq->AD
open Nat renaming add_mul->A6, add_zero->A7, le_refl->AB, min_eq_left->As, mul_comm->Au, mul_le_mul_right->A9, one_mul->Aa, sub_self->Ab, zero_add->AK, zero_le->AL
open Bool renaming and_eq_true->Ac, true_eq->Ad
open List renaming getElem?_append_left->AR, getElem?_append_right->AS, getElem?_drop->AG, getElem?_map->Av, getElem?_of_mem->Aw, getElem?_take->AH, getElem_mem->Ah, length_drop->Ax, length_take->Ay, mem_of_getElem?->A1, mem_of_mem_drop->A2, mem_of_mem_take->A3, range->AI
open Option renaming map_some->Az
open Array renaming getElem?_eq_getElem->Ak
open Go.Sem renaming run_bind->Ap, run_pure->Ar
open Go.Result renaming andThen_ok->Af

namespace Go.Dw
section
variable {P:Program}{X:Ctx}{S:kd}{loc:kH}{s:St}{tm:Array Value}{w:World}
inductive RO(S:kd)(loc:kH):Option RV->Option Value->Prop
 |none:RO S loc none none
 |some {rv:RV} {v:Value} (h:R S loc rv v):RO S loc (some rv) (some v)
theorem oZ{rv:RV}{d n:Int}(h:bnd (some rv) d=some n):∃k,rv= .d (.int k n):=by
 rcases rv with p|_|_|_|_|_|_|_|_|_|_|_|_<;>first|(simp [bnd]at h;done)|skip
 cases p<;>first|(simp [bnd]at h;done)|skip
 simp only [bnd,AD]at h
 subst h
 exact⟨_,rfl⟩
theorem pO{b:Bool}{len cap:Nat}{i hi:Option RV}{g f:Option Value}{l h:Int}(h1:RO S loc i g)(a:RO S loc hi f)(hl:bnd i 0=some l)(c:bnd hi len=some h)
  (m:0<=l∧l<=h∧h<=len) (hc:len<=cap):(Instr.sliceBounds b len cap g f none).run P w= .ok (l.toNat,h.toNat,cap) w:=by
 obtain⟨a1,a2,a3⟩:=m
 cases h1 with
 |none=>
  simp only [bnd,AD]at hl
  subst hl
  cases a with
  |none=>simp only [bnd,AD]at c;subst c;simp [Instr.sliceBounds]
  |some a=>
   obtain⟨k,rfl⟩:=oZ c
   have:=a.kG
   subst this
   have e:0<=h∧h<=(cap:Int):=⟨om,om⟩
   simp [Instr.sliceBounds,Instr.sliceBound,asIntOf,e]
 |some h1=>
  obtain⟨k,rfl⟩:=oZ hl
  have:=h1.kG
  subst this
  cases a with
  |none=>
   simp only [bnd,AD]at c
   subst c
   have e:0<=l∧l<=(len:Int):=⟨om,om⟩
   simp [Instr.sliceBounds,Instr.sliceBound,asIntOf,e]
  |some a=>
   obtain⟨k',rfl⟩:=oZ c
   have:=a.kG
   subst this
   have e:0<=h∧h<=(cap:Int):=⟨om,om⟩
   have j:l<=max h 0:=by omega
   simp [Instr.sliceBounds,Instr.sliceBound,asIntOf,e,a1,j]
theorem mW{α:Type}(l:List α)(hi:Option RV)(a h:Int)(b:bnd hi l.length=some h)(c:0<=a∧a<=h∧h<=l.length):
  cut l a.toNat (hiOf hi h)=(l.drop a.toNat).take (h.toNat-a.toNat):=by
 cases hi with
 |none=>
  simp only [bnd,AD]at b
  subst b
  simp only [hiOf,cut]
  rw [List.take_of_length_le]
  simp
 |some r=>simp only [hiOf,cut]
theorem Flat.nil(S:kd)(sz:Nat):Flat S sz [] []:=⟨(fun e he=>by cases he),(fun u hu=>by cases hu),(fun i e j x hi=>by simp at hi)⟩
theorem wk{H:Nat}{t:TypeId}{p:PD}{v:RV}{D hi:Option RV}{C z:Option Value}{b:kE}{u:Ups}{r:List Nat}{J:Value}(hl:lB P H t (.d p) D hi none b=some ((v,u),r,true))(G:R S loc (.d p) J)
  (h1:RO S loc D C) (I:RO S loc hi z):
  ∃v',(Instr.sliceAt t J C z none).run P w= .ok v' w∧R S loc v v'∧u=[]:=by
 unfold lB at hl
 rcases hu:P.underlying t with _|d
 ·simp only [hu]at hl;exact fE b hl
 rw [hu]at hl
 cases d<;>first|exact fE b hl|skip
 case string=>
  cases p<;>first|exact fE b hl|skip
  rename_i l
  rcases g:bnd D 0 with _|a
  ·simp only [g]at hl;exact fE b hl
  rcases m:bnd hi l.length with _|h
  ·simp only [g,m]at hl;exact fE b hl
  simp only [g,m]at hl
  obtain⟨E, -,q⟩:=kz hl
  cases E
  have y:=of_decide_eq_true q.symm
  have L:=G.oJ
  subst L
  have hb:=pO (P:=P) (w:=w) (b:=false) (len:=l.length) (cap:=l.length) h1 I g m y (AB _)
  refine⟨.string ((ByteArray.mk l.toArray).extract a.toNat h.toNat),?_,?_,rfl⟩
  ·simp [Instr.sliceAt,run_underlying hu,Instr.slice,sf,hb]
  ·rw [ByteArray.extract_mk,mW l hi a h m y]
   exact .d (.str _)
 case slice e=>
  cases p<;>first|exact fE b hl|skip
  rename_i es
  rcases g:bnd D 0 with _|a
  ·simp only [g]at hl;exact fE b hl
  rcases m:bnd hi es.length with _|h
  ·simp only [g,m]at hl;exact fE b hl
  rcases hk:szT P e with _|k
  ·simp only [g,m,hk]at hl;exact fE b hl
  simp only [g,m,hk]at hl
  obtain⟨E, -,q⟩:=kz hl
  cases E
  simp only [Ad,Ac]at q
  obtain⟨q,N⟩:=q
  have y:=of_decide_eq_true q
  obtain⟨ad,c,rfl,hc⟩:=se G.oB
  have hb:=pO (P:=P) (w:=w) (b:=true) (len:=es.length) (cap:=c) h1 I g m y hc
  refine⟨.slice (if c=a.toNat then ad else ad.map (·.add (a.toNat*k))) (h.toNat-a.toNat) (c-a.toNat),?_,?_,rfl⟩
  ·simp [Instr.sliceAt,run_underlying hu,Instr.slice,hb,kg hk]
  ·rw [mW es hi a h m y]
   have hlen:((es.drop a.toNat).take (h.toNat-a.toNat)).length=h.toNat-a.toNat:=by simp;omega
   refine .d ?_
   by_cases O:h.toNat-a.toNat=0
   ·rw [O]
    simp only [List.take_zero]
    exact .nil _ _
   ·have n:es[a.toNat]? =some es[a.toNat]:=zc om
    obtain⟨K,o,Q,sz,f,he,_,hsz,hS,hV⟩:=G.oB.elem n
    cases he
    have B:sz=k:=by
     have:=List.all_eq_true.1 N _ (A1 n)
     rw [<-hsz _ (A1 n)]
     simpa using this
    subst B
    rw [if_neg om]
    simp only [Az,kS]
    have:=V.lst (S:=S) ((es.drop a.toNat).take (h.toNat-a.toNat)) K (o+a.toNat*sz) (c-a.toNat) sz (fun i j=>f (a.toNat+i) j) (by rw [hlen];omega)
     (fun e he=>hsz e (A2 (A3 he)))
     (fun i e j x hi F => by
      rw [AH]at hi
      split at hi
      ·rw [AG]at hi
       have:=hS _ e j x hi F
       rw [<-this]
       congr 2
       rw [A6]
       omega
      ·cases hi)
     (fun i e j x hi F => by
      rw [AH]at hi
      split at hi
      ·rw [AG]at hi
       exact hV _ e j x hi F
      ·cases hi)
    rw [hlen]at this
    exact this
def oN(hdr:Value)(sz a b:Nat)(v:Value):Prop:=
 (a=b∧∃a0,v= .slice a0 0 0)∨∃g n c,hdr= .slice (some ⟨g,0,none⟩) n c∧a<=b∧b<=c∧v= .slice (some ⟨g,a*sz,none⟩) (b-a) (c-a)
theorem oN.ref{e:TypeId}{sz n:Nat}{hdr:Value}{xs:List Value}(h:rowAt w e sz hdr n xs):oN hdr sz 0 n hdr:=by
 rcases h with⟨_,⟨rfl,rfl⟩|⟨g,cap,cur,_,rfl,_,_,h,_⟩⟩|⟨rfl,_,a,rfl⟩
 ·exact .inl ⟨rfl,none,rfl⟩
 ·exact .inr ⟨g,n,cap,rfl,AL _,h,sm⟩
 ·exact .inl ⟨rfl,a,rfl⟩
theorem oN.cap{hdr v:Value}{sz a b:Nat}(h:oN hdr sz a b v)(e:a<=b):∃ad c,v= .slice ad (b-a) c∧b-a<=c:=by
 rcases h with⟨rfl,a0,rfl⟩|⟨g,n,c,rfl,h1,f,rfl⟩
 ·exact⟨a0,0,by rw [Ab],om⟩
 ·exact⟨_,_,rfl,om⟩
theorem oN.slice{hdr:Value}{sz a b len cap l h:Nat}{ad:Option Addr}(j:oN hdr sz a b (.slice ad len cap))(i:l<=h)(hb:h<=b-a)(f:a<=b):
  oN hdr sz (a+l) (a+h) (.slice (if cap=l then ad else ad.map (·.add (l*sz))) (h-l) (cap-l)):=by
 rcases j with⟨rfl,a0,he⟩|⟨g,n,c,rfl,h1,m,he⟩
 ·cases he
  have e:h=0:=by omega
  have k:l=0:=by omega
  subst e k
  exact .inl ⟨rfl,ad,sm⟩
 ·cases he
  by_cases hc:c-a=l
  ·rw [if_pos hc]
   have:h=l:=by omega
   subst this
   exact .inl ⟨rfl,some ⟨g,a*sz,none⟩,by rw [hc,Ab]⟩
  ·rw [if_neg hc]
   refine .inr ⟨g,n,c,rfl,om,om,?_⟩
   simp only [Az,kS]
   congr 1
   ·rw [A6]
   ·omega
   ·omega
theorem R.viewD{id ver a hi:Nat}{e:TypeId}{sz:Nat}{hdr v:Value}(f:loc id=some (.arr ver e sz hdr))(ho:v.oneCell'=true)(h:oN hdr sz a hi v):R S loc (.view id ver a hi) v:=by
 refine .view id ver a hi v _ ho f fun c i g b he=>?_
 cases he
 exact⟨AB _,fun _=>h⟩
theorem oG(h:Sim P X S loc s tm w){t e:TypeId}{id ver a b:Nat}{v:RV}{x hi:Option RV}{m j:Option Value}{u:Ups}{r:List Nat}{z:Value}(ht:P.underlying t=some (.slice e))(hl:sliceB P e id ver a b x hi s.boxes=some ((v,u),r,true))
  (H:∀es,s.boxes id=some (.arr ver e es)->a<=b->b<=es.length->∃sz hdr,loc id=some (.arr ver e sz hdr)∧szT P e=some sz∧oN hdr sz a b z)
  (h1:RO S loc x m) (F:RO S loc hi j):
  ∃v',(Instr.sliceAt t z m j none).run P w= .ok v' w∧R S loc v v'∧u=[]:=by
 unfold sliceB at hl
 rcases f:bnd x 0 with _|l
 ·simp only [f]at hl;exact fE s.boxes hl
 rcases g:bnd hi ((b:Int)-a)with _|p
 ·simp only [f,g]at hl;exact fE s.boxes hl
 rcases hk:szT P e with _|_|k
 ·simp only [f,g,hk]at hl;exact fE s.boxes hl
 ·simp only [f,g,hk]at hl;exact fE s.boxes hl
 simp only [f,g,hk]at hl
 obtain⟨B,L,N,g1,g2,_⟩:=M.bind_some hl
 obtain⟨hb,_,_⟩:=M.get_some g1
 cases B with
 |var _=>exact fE s.boxes g2
 |dead=>exact fE s.boxes g2
 |map _ _ _=>exact fE s.boxes g2
 |nest _ _ _ _ _=>exact fE s.boxes g2
 |mapn _ _ _ _ _=>exact fE s.boxes g2
 |hole _ _ _ _ _ _=>exact fE s.boxes g2
 |deep _ _ _ _ _ _ _=>exact fE s.boxes g2
 |arr n D es=>
  by_cases i:ver=n∧e=D
  rotate_left
  ·simp only [i,if_false]at g2;exact fE s.boxes g2
  simp only [i,and_self,if_true]at g2
  obtain⟨rfl,rfl⟩:=i
  obtain⟨g3, -,g4⟩:=kz g2
  cases g3
  obtain⟨o,C,I,J,K⟩:a<=b∧b<=es.length∧0<=l∧l<=p∧p<=(b:Int)-a:=of_decide_eq_true g4.symm
  obtain⟨sz,hdr,G,hsz,y⟩:=H es hb o C
  rw [hk]at hsz
  cases hsz
  obtain⟨ad,c,rfl,hc⟩:=y.cap o
  have E:((b:Int)-a)=((b-a:Nat):Int):=by omega
  rw [E]at g
  have q:=pO (P:=P) (w:=w) (b:=true) (len:=b-a) (cap:=c) h1 F f g om hc
  refine⟨_,?_,R.viewD G rfl (y.slice (l:=l.toNat) (h:=p.toNat) om om o),rfl⟩
  simp [Instr.sliceAt,run_underlying ht,Instr.slice,q,kg hk]
theorem Sim.xf(h:Sim P X S loc s tm w){id b:Nat}{l:List PD}{ty:TypeId}{vs:Array Value}(hb:s.boxes id=some (.var (l.map .d)))(c:loc id=some (.var b))(hw:w.heap[b]? =some (.cells vs ty (0,0)))(h1:∀v∈vs,v.oneCell'=true):
  Sim P X (k7 S b vs.toList) (upd loc id .dead) { s with boxes:=upd s.boxes id .dead } tm w∧Sub S (k7 S b vs.toList)∧(∀j v,vs[j]? =some v->k7 S b vs.toList ⟨b,j,none⟩=some v):=by
 have f:j3 (loc id) .dead:=by rw [c];exact .dead _
 have g:=h.kl (Step.refl none w) id .dead .dead (fun b hc=>by cases hc) (.dead _ rfl) (fun b hc=>by cases hc) f
 refine⟨g.nO b vs.toList (fun j v e=>?_) (fun v k=>h1 v (by simpa using k)) (fun i L hi a=>?_) (h.own id _ b c rfl).symm,lx _ _ _,fun j v e=>mL (fun o=>h.mr id _ b c rfl o) (by simpa using e)⟩
 ·rw [cell_of_row w b j vs ty (0,0) hw]
  simpa using e
 ·by_cases hid:i=id
  ·subst hid;rw [jQ]at hi;cases hi;cases a
  ·rw [j8 _ _ hid]at hi
   exact hid (h.inj i id L _ b hi c a rfl)
theorem uX(h:Sim P X S loc s tm w){a:TypeId}{id:Nat}{v:RV}{u:Ups}{r:List Nat}{J:Value}(hl:p7 P id a s.boxes=some ((v,u),r,true))(F:R S loc (.ptr id 0) J):
  ∃v' S' loc',(Instr.sliceAt a J none none none).run P w= .ok v' w∧Sim P X S' loc' (s.ups u) tm w∧R S' loc' v v':=by
 unfold p7 at hl
 rcases hu:P.underlying a with _|d
 ·simp only [hu]at hl;exact fE s.boxes hl
 rw [hu]at hl
 cases d<;>first|exact fE s.boxes hl|skip
 rename_i n e
 rcases hk:szT P e with _|_|k
 ·simp only [hk]at hl;exact fE s.boxes hl
 ·simp only [hk]at hl;exact fE s.boxes hl
 simp only [hk]at hl
 obtain⟨K,U,W,g1,g2,_⟩:=M.bind_some hl
 obtain⟨hb,_,_⟩:=M.get_some g1
 cases K with
 |arr _ _ _=>exact fE s.boxes g2
 |dead=>exact fE s.boxes g2
 |map _ _ _=>exact fE s.boxes g2
 |nest _ _ _ _ _=>exact fE s.boxes g2
 |mapn _ _ _ _ _=>exact fE s.boxes g2
 |hole _ _ _ _ _ _=>exact fE s.boxes g2
 |deep _ _ _ _ _ _ _=>exact fE s.boxes g2
 |var cs=>
  rcases z:nL cs with _|g
  ·simp only [z]at g2;exact fE s.boxes g2
  simp only [z]at g2
  by_cases hc:kC P e=true∨k=0
  rotate_left
  ·rw [if_neg hc]at g2;exact fE s.boxes g2
  rw [if_pos hc]at g2
  obtain⟨g3, -,g4⟩:=M.j0 g2
  cases g3
  simp only [Ad,Ac,decide_eq_true_eq]at g4
  obtain⟨D,f⟩:=g4
  have C:=nD z
  subst C
  obtain⟨b,ty,vs,N,rfl,hw,hlen,O⟩:=h.vo hb F
  have B:∀(i:Nat)p u,g[i]? =some p->vs[i]? =some u->V S p u:=fun i p u h1 L=>by
   have:=O i (.d p) u (by simp [h1]) L
   cases this with|d h=>exact h
  have l:vs.size=g.length:=by simpa using hlen
  have h1:∀u∈vs,u.oneCell'=true:=fun u hu=>by
   obtain⟨i,hi,rfl⟩:=Array.getElem_of_mem hu
   have q:i<g.length:=by omega
   exact((B i g[i] vs[i] (zc q) (Ak hi)).mA (List.all_eq_true.1 f _ (Ah q))).1
  obtain⟨Q,T,k3⟩:=h.xf hb N hw h1
  have o:=mb (P:=P) e (k+1) n g
  have m:=ot (P:=P) e (k+1) (hc.imp (fun h=>h) (fun h=>om)) n g D (fun p z=>List.all_eq_true.1 f p z)
  have y:∀(i:Nat)x(j:Nat)c,(lD P e (k+1) n g)[i]? =some x->x.cells[j]? =some c->∃u,vs[i*(k+1)+j]? =some u∧V S c u:=fun i x j c hi t=>by
   have G:=(m i x hi).2 j c t
   have H:i*(k+1)+j<vs.size:=by rw [l];exact(List.getElem?_eq_some_iff.1 G).1
   exact⟨_,Ak H,B _ c _ G (Ak H)⟩
  have hV := V.lst (S := k7 S b vs.toList) (lD P e (k + 1) n g) b 0 n (k + 1) (fun i j => (vs[i * (k + 1) + j]?).getD default) (by rw [o]; exact AB _) (fun x F => by
    obtain⟨i,hi⟩:=Aw F
    exact(m i x hi).1)
   (fun i x j c hi t => by
    obtain⟨u,hu,_⟩:=y i x j c hi t
    rw [AK,k3 _ u hu,hu];rfl)
   (fun i x j c hi t => by
    obtain⟨u,hu,E⟩:=y i x j c hi t
    rw [hu]
    exact E.mono T)
  rw [o]at hV
  refine⟨.slice (some ⟨b,0,none⟩) n n,_,_,?_,Q,.d hV⟩
  simp only [Instr.sliceAt,run_underlying hu,Ap,Af,Instr.sureAddr,Ar,Instr.sliceBounds,kg hk]
  by_cases I:n=0
  ·simp [I]
  ·simp [I,Addr.add]
theorem uY{a:TypeId}{cs:List PD}{v:RV}{u:Ups}{r:List Nat}{D:Value}{f:kE}(hl:p8 P a cs f=some ((v,u),r,true))(B:R S loc (.cptr cs) D):
  ∃v',(Instr.sliceAt a D none none none).run P w= .ok v' w∧R S loc v v'∧u=[]:=by
 unfold p8 at hl
 rcases hu:P.underlying a with _|d
 ·simp only [hu]at hl;exact fE f hl
 rw [hu]at hl
 cases d<;>first|exact fE f hl|skip
 rename_i n e
 rcases hk:szT P e with _|_|k
 ·simp only [hk]at hl;exact fE f hl
 ·simp only [hk]at hl;exact fE f hl
 simp only [hk]at hl
 by_cases hc:kC P e=true∨k=0
 rotate_left
 ·rw [if_neg hc]at hl;exact fE f hl
 rw [if_pos hc]at hl
 obtain⟨g3, -,g4⟩:=M.j0 hl
 cases g3
 simp only [Ad,Ac,decide_eq_true_eq]at g4
 obtain⟨G,y⟩:=g4
 cases B with
 |cptr _ b o F hS hV=>
 have hlen:(cs.take (n*(k+1))).length=n*(k+1):=by simp;omega
 have m:=mb (P:=P) e (k+1) n (cs.take (n*(k+1)))
 have l:=ot (P:=P) e (k+1) (hc.imp (fun h=>h) (fun h=>om)) n (cs.take (n*(k+1))) hlen (fun p E=>List.all_eq_true.1 y p E)
 have t:∀(i:Nat)x(j:Nat)c,(lD P e (k+1) n (cs.take (n*(k+1))))[i]? =some x->x.cells[j]? =some c->cs[i*(k+1)+j]? =some c:=fun i x j c hi q=>by
  have z:=(l i x hi).2 j c q
  rw [AH]at z
  split at z
  ·exact z
  ·cases z
 have g := V.lst (S := S) (lD P e (k + 1) n (cs.take (n * (k + 1)))) b o n (k + 1) (fun i j => F (i * (k + 1) + j)) (by rw [m]; exact AB _) (fun x B => by
   obtain⟨i,hi⟩:=Aw B
   exact(l i x hi).1)
  (fun i x j c hi q => by
   rw [Nat.add_assoc]
   exact hS _ c (t i x j c hi q))
  (fun i x j c hi q=>hV _ c (t i x j c hi q))
 rw [m]at g
 refine⟨.slice (some ⟨b,o,none⟩) n n,?_,.d g,rfl⟩
 simp only [Instr.sliceAt,run_underlying hu,Ap,Af,Instr.sureAddr,Ar,Instr.sliceBounds,kg hk]
 by_cases C:n=0
 ·simp [C]
 ·simp [C,Addr.add]
theorem u6(h:Sim P X S loc s tm w){t e:TypeId}{id ver:Nat}{v:RV}{D hi:Option RV}{q:RV}{m j:Option Value}{n:Value}{u:Ups}{r:List Nat}{E:Value}(ht:P.underlying t=some (.slice e))(hl:pe P e id ver D hi q s.boxes=some ((v,u),r,true))
  (J:R S loc (.ref id ver) E) (h1:RO S loc D m) (o:RO S loc hi j) (H:R S loc q n):
  ∃v',(Instr.sliceAt t E m j (some n)).run P w= .ok v' w∧R S loc v v'∧u=[]:=by
 unfold pe at hl
 cases h1<;>first|exact fE s.boxes hl|skip
 cases o<;>first|exact fE s.boxes hl|skip
 rename_i x W o
 cases x<;>first|exact fE s.boxes hl|skip
 rename_i N
 cases N<;>first|exact fE s.boxes hl|skip
 rename_i K b
 cases q<;>first|exact fE s.boxes hl|skip
 rename_i pm
 cases pm<;>first|exact fE s.boxes hl|skip
 rename_i L hm
 rcases hk:szT P e with _|_|k
 ·simp only [hk]at hl;exact fE s.boxes hl
 ·simp only [hk]at hl;exact fE s.boxes hl
 simp only [hk]at hl
 by_cases i:b=hm
 rotate_left
 ·rw [if_neg i]at hl;exact fE s.boxes hl
 rw [if_pos i]at hl
 subst i
 obtain⟨F,T,U,g1,g2,_⟩:=M.bind_some hl
 obtain⟨hb,_,_⟩:=M.get_some g1
 cases F with
 |var _=>exact fE s.boxes g2
 |dead=>exact fE s.boxes g2
 |map _ _ _=>exact fE s.boxes g2
 |nest _ _ _ _ _=>exact fE s.boxes g2
 |mapn _ _ _ _ _=>exact fE s.boxes g2
 |hole _ _ _ _ _ _=>exact fE s.boxes g2
 |deep _ _ _ _ _ _ _=>exact fE s.boxes g2
 |arr g z es=>
  simp only at g2
  by_cases f:ver=g∧e=z
  rotate_left
  ·rw [if_neg f]at g2;exact fE s.boxes g2
  rw [if_pos f]at g2
  obtain⟨rfl,rfl⟩:=f
  obtain⟨g3, -,g4⟩:=M.j0 g2
  cases g3
  obtain⟨y,Q⟩:0<=b∧b<=es.length:=of_decide_eq_true g4.symm
  obtain⟨sz,xs,l,hsz,how,hf⟩:=h.nX hb J
  obtain⟨a,c,rfl,hc⟩:=how.hdr
  have e2:=o.kG
  have G:=H.kG
  subst e2 G
  refine⟨.slice a b.toNat b.toNat,?_,.fview id ver b.toNat _ _ rfl l fun g z O C he=>by cases he;exact⟨AB _,fun _=>⟨a,_,c,rfl,om,rfl⟩⟩,rfl⟩
  have d1:0<=b∧b<=(c:Int):=⟨y,om⟩
  have d2:0<=b∧b<=(b.toNat:Int):=⟨y,om⟩
  have p:(Instr.sliceBounds true es.length c none (some (.int K b)) (some (.int L b))).run P w= .ok (0,b.toNat,b.toNat) w:=by
   simp [Instr.sliceBounds,Instr.sliceBound,asIntOf,d1,d2]
   intro I
   omega
  simp only [Instr.sliceAt,run_underlying ht,Instr.slice,Ap,Af,p,kg hk,Ar]
  by_cases B:b.toNat=0
  ·simp [B]
  ·cases a<;>simp [B,Addr.add]
theorem vQ(h:Sim P X S loc s tm w){t e:TypeId}(hu:P.underlying t=some (.slice e)){es:List PD}{k k':IntKind}{i m:Int}{v:RV}{u:Ups}{r:List Nat}{l:Value}(hl:ta P e es i m s.boxes=some ((v,u),r,true))(C:V S (.lst es) l):
  ∃v' S' loc',(Instr.sliceAt t l none (some (.int k i)) (some (.int k' m))).run P w= .ok v' w∧Sim P X S' loc' (s.ups u) tm w∧R S' loc' v v':=by
 unfold ta at hl
 rcases hk:szT P e with _|_|sz
 ·simp only [hk]at hl;exact fE s.boxes hl
 ·simp only [hk]at hl;exact fE s.boxes hl
 simp only [hk]at hl
 by_cases g:i=m
 rotate_left
 ·rw [if_neg g]at hl;exact fE s.boxes hl
 rw [if_pos g]at hl
 subst g
 obtain⟨g3, -,g4⟩:=M.j0 (b:=s.boxes) hl
 cases g3
 have p:i=es.length:=of_decide_eq_true g4.symm
 subst p
 obtain⟨a,c,rfl,hc,B⟩:∃a c,l= .slice a es.length c∧es.length<=c∧V S (.lst es) (.slice a es.length es.length):=by
  cases C with
  |nil a c=>exact⟨a,c,rfl,AL _,.nil _ _⟩
  |lst _ b o c sz f h1 q x y=>exact⟨_,c,rfl,h1,.lst es b o _ sz f (AB _) q x y⟩
 refine⟨.slice a es.length es.length,S,loc,?_,h,.dfull es a B⟩
 have d1:(0:Int)<=(es.length:Int)∧(es.length:Int)<=(c:Int):=⟨om,om⟩
 have j:(Instr.sliceBounds true es.length c none (some (.int k (es.length:Int))) (some (.int k' (es.length:Int)))).run P w= .ok (0,es.length,es.length) w:=by
  simp [Instr.sliceBounds,Instr.sliceBound,asIntOf]
  intro z
  omega
 simp only [Instr.sliceAt,run_underlying hu,Instr.slice,Ap,Af,j,kg hk,Ar]
 by_cases n:es.length=0
 ·simp [n]
 ·cases a<;>simp [n,Addr.add]
theorem wc(h:Sim P X S loc s tm w){t:TypeId}{x v:RV}{lo hi mx:Option RV}{J F K:Option Value}{u:Ups}{r:List Nat}{N:Value}(hl:rT P t x lo hi mx s.boxes=some ((v,u),r,true))(D:R S loc x N)
  (h1:RO S loc lo J) (h2:RO S loc hi F) (h3:RO S loc mx K):
  ∃v' S' loc',(Instr.sliceAt t N J F K).run P w= .ok v' w∧Sim P X S' loc' (s.ups u) tm w∧R S' loc' v v':=by
 unfold rT at hl
 rcases hu:P.underlying t with _|d
 ·simp only [hu]at hl;exact fE s.boxes hl
 rw [hu]at hl
 cases d<;>first|exact fE s.boxes hl|skip
 rename_i e
 by_cases I:∃es,x= .d (.lst es)
 ·obtain⟨es,rfl⟩:=I
  cases D with
  |d D=>
  cases h1<;>first|exact fE s.boxes hl|skip
  cases h2 with
  |none=>exact fE s.boxes hl
  |some g1=>
  rename_i r1 v1
  cases r1<;>first|exact fE s.boxes hl|skip
  rename_i p1
  cases p1<;>first|exact fE s.boxes hl|skip
  cases h3 with
  |none=>exact fE s.boxes hl
  |some g2=>
  rename_i r2 v2
  cases r2<;>first|exact fE s.boxes hl|skip
  rename_i p2
  cases p2<;>first|exact fE s.boxes hl|skip
  have e1:=g1.kG
  have e2:=g2.kG
  subst e1 e2
  exact vQ h hu hl D
 cases x<;>first|exact fE s.boxes hl|(rename_i p;cases p<;>first|exact fE s.boxes hl|exact(I ⟨_,rfl⟩).elim)|skip
 rename_i id ver
 cases lo<;>first|exact fE s.boxes hl|skip
 cases hi<;>first|exact fE s.boxes hl|skip
 rename_i b0
 cases b0<;>first|exact fE s.boxes hl|skip
 rename_i p0
 cases p0<;>first|exact fE s.boxes hl|skip
 rename_i k f
 cases mx<;>first|exact fE s.boxes hl|skip
 ·simp only at hl
  rcases hk:szT P e with _|_|sz
  ·simp only [hk]at hl;exact fE s.boxes hl
  ·simp only [hk]at hl;exact fE s.boxes hl
  simp only [hk]at hl
  obtain⟨bx,r1,r2,g1,g2,_⟩:=M.bind_some hl
  obtain⟨hb,_,_⟩:=M.get_some g1
  cases bx with
  |var _=>exact fE s.boxes g2
  |dead=>exact fE s.boxes g2
  |map _ _ _=>exact fE s.boxes g2
  |nest _ _ _ _ _=>exact fE s.boxes g2
  |mapn _ _ _ _ _=>exact fE s.boxes g2
  |hole _ _ _ _ _ _=>exact fE s.boxes g2
  |deep _ _ _ _ _ _ _=>exact fE s.boxes g2
  |arr o e' es=>
   simp only at g2
   by_cases m:ver=o∧e=e'
   rotate_left
   ·rw [if_neg m]at g2;exact fE s.boxes g2
   rw [if_pos m]at g2
   obtain⟨rfl,rfl⟩:=m
   obtain⟨g3, -,g4⟩:=M.j0 g2
   cases g3
   obtain⟨c1,c2⟩:0<=f∧f<=es.length:=of_decide_eq_true g4.symm
   obtain⟨b1,xs,l,hsz,how,hf⟩:=h.nX hb D
   rw [hk]at hsz
   cases hsz
   cases h3
   have a4:sliceB P e id ver 0 es.length none (some (.d (.int k f))) s.boxes=some ((.view id ver (0+(0:Int).toNat) (0+f.toNat),[]),[id],true):=by
    have e0:((es.length:Nat):Int)-((0:Nat):Int)=(es.length:Int):=by simp
    simp only [sliceB,bnd,hk,M.bind,M.get,hb,and_self,if_true,kJ,M.j6,e0]
    simp [c1,c2]
   obtain ⟨v', k1, k2, -⟩ := oG h hu a4 (fun b4 E _ _ => by
    rw [hb]at E
    cases E
    exact⟨_,_,l,hk,oN.ref how⟩) h1 h2
   have C:oN N (sz+1) (0+(0:Int).toNat) (0+f.toNat) v':=by
    cases k2 with
    |view _ _ _ _ _ L ho O hc=>
     rw [l]at O
     cases O
     exact(hc ver e (sz+1) N .arr).2 rfl
   have ho:v'.oneCell'=true:=by
    cases k2 with
    |view _ _ _ _ _ L ho O hc=>exact ho
   have z1:(0+(0:Int).toNat)=0:=rfl
   have z2:(0+f.toNat)=f.toNat:=AK _
   rw [z1,z2]at C
   have hlen:(es.take f.toNat).length=f.toNat:=by simp;omega
   have B:Flat S (sz+1) (es.take f.toNat) (xs.take (f.toNat*(sz+1))):=by
    refine⟨fun x D=>hf.len x (A3 D),fun q hq=>hf.one q (A3 hq),fun i x j c hi hj=>?_⟩
    rw [AH]at hi
    split at hi
    ·rename_i W
     obtain⟨q,h5,h6⟩:=hf.cell i x j c hi hj
     refine⟨q,?_,h6⟩
     have b5:j<sz+1:=by rw [<-hf.len x (A1 hi)];exact(List.getElem?_eq_some_iff.1 hj).1
     have:i*(sz+1)+j<f.toNat*(sz+1):=by
      calc i*(sz+1)+j<i*(sz+1)+(sz+1):=by omega
       _=(i+1)*(sz+1):=by rw [A6,Aa]
       _<=f.toNat*(sz+1):=A9 _ W
     rw [AH,if_pos this]
     exact h5
    ·cases hi
   have H:rowAt w e (sz+1) v' (es.take f.toNat).length (xs.take (f.toNat*(sz+1))):=by
    rw [hlen]
    rcases C with⟨h0,a,rfl⟩|⟨g,n,c,he,_,hc,rfl⟩
    ·rw [<-h0]
     exact .inr ⟨rfl,sm,a,rfl⟩
    ·simp only [Nat.zero_mul,Nat.sub_zero]
     subst he
     rcases how with⟨U,⟨hn,_⟩|⟨g',cap,cur,fz,hg,Q,z,b2,G,T,a9⟩⟩|⟨hn,c0,a,ha⟩
     ·cases hn
     ·cases hg
      refine .inl ⟨by rw [Ay,U];exact As (A9 _ om),.inr ⟨g,c,cur,fz,rfl,Q,z,hc,G,T,?_⟩⟩
      rw [<-a9,List.take_take]
      congr 1
      exact(As (A9 _ om)).symm
     ·cases ha
      have:f.toNat=0:=by omega
      rw [this]
      exact .inr ⟨rfl,sm,_,rfl⟩
   have a5:j3 (loc id) (.arr (ver+1) e (sz+1) v'):=by
    rw [l]
    exact .arr om
   have Y:=h.kl (Step.refl none w) id (.arr (ver+1) e (es.take f.toNat)) (.arr (ver+1) e (sz+1) v') (fun b hc=>by cases hc) (.arr (ver+1) e _ (sz+1) v' _ hk H B)
    (fun b y => by
     refine .inl ⟨_,l,?_⟩
     rcases C with⟨h0,a,rfl⟩|⟨g,n,c,he,_,hc,rfl⟩
     ·cases a<;>cases y
     ·subst he
      cases c with
      |zero=>cases y
      |succ c=>cases y;rfl) a5
   have hR:R S (upd loc id (.arr (ver+1) e (sz+1) v')) (.ref id (ver+1)) v':= .ref id (ver+1) v' _ ho (jQ _ _ _) fun o e' b1 b3 he=>by
    cases he;exact⟨AB _,fun _=>rfl⟩
   exact⟨v',S,_,k1,Y,hR⟩
theorem uZ(h:Sim P X S loc s tm w){K:Nat}{t:TypeId}{x v:RV}{E hi N:Option RV}{q o y:Option Value}{u:Ups}{r:List Nat}{F:Value}(hl:lB P K t x E hi N s.boxes=some ((v,u),r,true))(z:R S loc x F)
  (h1:RO S loc E q) (i:RO S loc hi o) (D:RO S loc N y):
  ∃v' S' loc',(Instr.sliceAt t F q o y).run P w= .ok v' w∧Sim P X S' loc' (s.ups u) tm w∧R S' loc' v v':=by
 have fin:(∃v',(Instr.sliceAt t F q o y).run P w= .ok v' w∧R S loc v v'∧u=[])->∃v' S' loc',(Instr.sliceAt t F q o y).run P w= .ok v' w∧Sim P X S' loc' (s.ups u) tm w∧R S' loc' v v':=by
  rintro⟨v',g1,g2,rfl⟩
  exact⟨v',S,loc,g1,h,g2⟩
 cases D with
 |some D=>
  unfold lB at hl
  rcases hu:P.underlying t with _|d
  ·simp only [hu]at hl;exact fE s.boxes hl
  rw [hu]at hl
  by_cases C:∃id ver,x= .ref id ver
  ·obtain⟨id,ver,rfl⟩:=C
   cases d<;>first|exact fE s.boxes hl|skip
   exact fin (u6 h hu hl z h1 i D)
  rcases x with p|_|_|_|_|_|_|⟨_,_|_⟩|_|_|_|_|_<;>first|(cases d<;>exact fE s.boxes hl)|exact(C ⟨_,_,rfl⟩).elim|skip
  cases p<;>first|(cases d<;>exact fE s.boxes hl)|skip
  cases d<;>first|exact fE s.boxes hl|skip
  case slice es e=>
   simp only [rj]at hl
   rcases f:bnd E 0 with _|l
   ·simp only [f]at hl;exact fE s.boxes hl
   rcases hi with _|(⟨⟨_⟩|⟨_,I⟩|_|_|_|_⟩|_|_|_|_|_|_|_|_|_|_|_|_)<;>first|(simp only [f]at hl;exact fE s.boxes hl)|skip
   rename_i L vm _
   rcases L with⟨⟨_⟩|⟨_,m⟩|_|_|_|_⟩|_|_|_|_|_|_|_|_|_|_|_|_<;>first|(simp only [f]at hl;exact fE s.boxes hl)|skip
   rcases hk:szT P e with _|_|k
   ·simp only [f,hk]at hl;exact fE s.boxes hl
   ·simp only [f,hk]at hl;exact fE s.boxes hl
   simp only [f,hk]at hl
   by_cases B:l=0∧I=0∧m=0
   rotate_left
   ·rw [if_neg B]at hl;exact fE s.boxes hl
   rw [if_pos B]at hl
   obtain⟨rfl,rfl,rfl⟩:=B
   obtain⟨_,r1,r2,g1,g2,_⟩:=M.bind_some hl
   obtain⟨J,_,_⟩:=M.kQ g1
   obtain⟨g3, -, -⟩:=M.j0 g2
   cases g3
   obtain⟨ad,c,rfl,hc⟩:=se z.oB
   obtain⟨loc',W,Y,_⟩:=h.pb (es:=[]) (xs:=[]) J (Step.refl none w) hk (hdr:= .slice ad 0 0) (.inr ⟨rfl,rfl,ad,rfl⟩) (Flat.nil S _) (fun g U=>by cases ad<;>cases U) rfl
   have T:=D.kG
   subst T
   refine⟨_,S,loc',?_,W,Y⟩
   cases i with
   |some i=>
    have e2:=i.kG
    subst e2
    cases h1 with
    |none=>simp [Instr.sliceAt,run_underlying hu,Instr.slice,Instr.sliceBounds,Instr.sliceBound,asIntOf,kg hk]
    |some h1=>
     obtain⟨k,rfl⟩:=oZ f
     simp only [bnd,AD]at f
     try subst f
     have G:=h1.kG
     subst G
     simp [Instr.sliceAt,run_underlying hu,Instr.slice,Instr.sliceBounds,Instr.sliceBound,asIntOf,kg hk]
 |none=>
  rcases hu:P.underlying t with _|d
  ·unfold lB at hl;simp only [hu]at hl;exact fE s.boxes hl
  rcases x with p|_|_|_|_|_|⟨id,ver⟩|⟨id,off⟩|_|_|⟨id,ver,a,b⟩|_|_<;>first|exact fin (wk hl z h1 i)|skip
  case ptr=>
   unfold lB at hl
   rw [hu]at hl
   cases d<;>first|exact fE s.boxes hl|skip
   cases off<;>first|exact fE s.boxes hl|skip
   cases h1<;>first|exact fE s.boxes hl|skip
   cases i<;>first|exact fE s.boxes hl|skip
   exact uX h hl z
  case cptr=>
   unfold lB at hl
   rw [hu]at hl
   cases d<;>first|exact fE s.boxes hl|skip
   cases h1<;>first|exact fE s.boxes hl|skip
   cases i<;>first|exact fE s.boxes hl|skip
   exact fin (uY hl z)
  case ref=>
   unfold lB at hl
   rw [hu]at hl
   cases d<;>first|exact fE s.boxes hl|skip
   simp only at hl
   obtain⟨Q,r1,r2,g1,g2,_⟩:=M.bind_some hl
   obtain⟨hb,_,_⟩:=M.get_some g1
   cases Q with
   |var _=>exact fE s.boxes g2
   |dead=>exact fE s.boxes g2
   |map _ _ _=>exact fE s.boxes g2
   |nest _ _ _ _ _=>exact fE s.boxes g2
   |mapn _ _ _ _ _=>exact fE s.boxes g2
   |hole _ _ _ _ _ _=>exact fE s.boxes g2
   |deep _ _ _ _ _ _ _=>exact fE s.boxes g2
   |arr O e' es=>
    refine fin (oG h hu g2 (fun H n _ _=>?_) h1 i)
    rw [hb]at n
    cases n
    obtain⟨sz,xs,j,hsz,how,hf⟩:=h.nX hb z
    exact⟨sz,_,j,hsz,oN.ref how⟩
  case view=>
   unfold lB at hl
   rw [hu]at hl
   cases d<;>first|exact fE s.boxes hl|skip
   simp only at hl
   refine fin (oG h hu hl (fun H n _ _=>?_) h1 i)
   obtain⟨sz,xs,hdr,j,hsz,how,hf,ho,hd⟩:=h.qI n z
   exact⟨sz,hdr,j,hsz,hd⟩
  case jt=>
   unfold lB at hl
   rw [hu]at hl
   cases d<;>first|exact fE s.boxes hl|skip
   rename_i e
   simp only at hl
   rcases f:bnd E 0 with _|l
   ·simp only [f]at hl;exact fE s.boxes hl
   rcases hi with _|(⟨⟨_⟩|⟨_,I⟩|_|_|_|_⟩|_|_|_|_|_|_|_|_|_|_|_|_)<;>first|(simp only [f]at hl;exact fE s.boxes hl)|skip
   rcases hk:szT P e with _|k
   ·simp only [f,hk]at hl;exact fE s.boxes hl
   simp only [f,hk]at hl
   by_cases B:l=0∧I=0
   rotate_left
   ·rw [if_neg B]at hl;exact fE s.boxes hl
   rw [if_pos B]at hl
   obtain⟨rfl,rfl⟩:=B
   obtain⟨g3, -, -⟩:=M.jv hl
   cases g3
   cases z
   refine fin ⟨.slice none 0 0,?_,.jt,rfl⟩
   cases i with
   |some i=>
    have e2:=i.kG
    subst e2
    cases h1 with
    |none=>simp [Instr.sliceAt,run_underlying hu,Instr.slice,Instr.sliceBounds,Instr.sliceBound,asIntOf,kg hk]
    |some h1=>
     obtain⟨k,rfl⟩:=oZ f
     simp only [bnd,AD]at f
     try subst f
     have G:=h1.kG
     subst G
     simp [Instr.sliceAt,run_underlying hu,Instr.slice,Instr.sliceBounds,Instr.sliceBound,asIntOf,kg hk]
  all_goals
   unfold lB at hl
   rw [hu]at hl
   cases d<;>exact fE s.boxes hl
theorem Flat.append{sz:Nat}{es f:List PD}{xs ys:List Value}(h:Flat S sz es xs)(hl:xs.length=es.length*sz)(a:Flat S sz f ys):Flat S sz (es++f) (xs++ys):=by
 refine⟨fun e he=>(List.mem_append.1 he).elim (h.len e) (a.len e),fun u hu=>(List.mem_append.1 hu).elim (h.one u) (a.one u),fun i e j x hi g=>?_⟩
 by_cases b:i<es.length
 ·rw [AR b]at hi
  obtain⟨u,hu,c⟩:=h.cell i e j x hi g
  exact⟨u,by rw [AR (List.getElem?_eq_some_iff.1 hu).1];exact hu,c⟩
 ·rw [AS om]at hi
  obtain⟨u,hu,c⟩:=a.cell (i-es.length) e j x hi g
  refine⟨u,?_,c⟩
  have hle:es.length*sz<=i*sz:=A9 _ om
  rw [AS om, <-hu]
  congr 1
  rw [hl,Nat.sub_mul]
  omega
def Appd(w:World)(S:kd)(sz:Nat)(b:Value)(es:List PD):Prop:=
 ∃a c news,b= .slice a es.length c∧news.length=es.length*sz∧Flat S sz es news∧(es≠ []->∃ad,a=some ad∧∀(j:Nat)u,news[j]? =some u->w.cell? (ad.add j)=some u)
theorem lk(h:Sim P X S loc s tm w){x:RV}{es:List PD}{r:List Nat}{vx:Value}{sz:Nat}(hl:kT x s.boxes=some (es,r,true))(G:R S loc x vx)(I:0<sz)(hsz:∀e∈es,e.cells.length=sz):
  Appd w S sz vx es:=by
 rcases x with p|_|_|_|_|_|⟨id,ver⟩|_|_|_|_|_|_<;>first|exact fE s.boxes hl|skip
 ·cases p<;>first|exact fE s.boxes hl|skip
  rename_i v
  obtain⟨h1, -, -⟩:=M.jv (b:=s.boxes) hl
  subst h1
  by_cases F:es=[]
  ·subst F
   obtain⟨a,c,rfl,_⟩:=se G.oB
   exact⟨a,c,[],rfl,sm,Flat.nil S _,fun h=>(h rfl).elim⟩
  ·obtain⟨O,r0,K⟩:∃e r,es=e::r:=by
    cases es with
    |nil=>exact(F rfl).elim
    |cons e r=>exact⟨e,r,rfl⟩
   have h0:es[0]? =some O:=by rw [K];rfl
   obtain⟨b,o,c,l,f,rfl,hc,D,hS,hV⟩:=G.oB.elem h0
   have:l=sz:=by rw [<-D O (A1 h0)];exact hsz O (A1 h0)
   subst this
   have key:∀q,q<es.length*l->∃e x,es[q / l]? =some e∧e.cells[q%l]? =some x:=by
    intro q C
    have h1:q / l<es.length:=(Nat.div_lt_iff_lt_mul I).2 C
    have t:q%l<(es[q / l]).cells.length:=by rw [D _ (Ah h1)];exact Nat.mod_lt _ I
    exact⟨_,_,zc h1,zc t⟩
   have E:∀q u,((AI (es.length*l)).map (fun q=>f (q / l) (q%l)))[q]? =some u->q<es.length*l∧u=f (q / l) (q%l):=by
    intro q u C
    rw [Av]at C
    cases hr:(AI (es.length*l))[q]? with
    |none=>simp [hr]at C
    |some k=>
     simp only [hr,Az,AD]at C
     obtain⟨W,he⟩:=List.getElem?_eq_some_iff.1 hr
     simp at W he
     subst he
     exact⟨W,C.symm⟩
   have H:∀q,q<es.length*l->S ⟨b,o+q,none⟩=some (f (q / l) (q%l)):=by
    intro q C
    obtain⟨e,x,h1,t⟩:=key q C
    have:=hS _ e _ x h1 t
    rw [<-this]
    congr 2
    have:=Nat.div_add_mod q l
    rw [Au]at this
    omega
   refine⟨_,c,(AI (es.length*l)).map (fun q=>f (q / l) (q%l)),rfl,sm,⟨D,?_,?_⟩,fun _=>⟨_,rfl,?_⟩⟩
   ·intro u hu
    obtain⟨q,C,a5⟩:=List.getElem_of_mem hu
    obtain⟨h1,t⟩:=E q u (by rw [zc C,a5])
    exact h.nA _ u (by rw [t];exact H q h1)
   ·intro i e j x hi Q
    have m:=(List.getElem?_eq_some_iff.1 hi).1
    have T:j<l:=by
     have:=(List.getElem?_eq_some_iff.1 Q).1
     rw [D e (A1 hi)]at this
     exact this
    have C:i*l+j<es.length*l:=by
     have:=A9 l (show i+1<=es.length from m)
     rw [A6,Aa]at this
     omega
    refine⟨f i j,?_,hV i e j x hi Q⟩
    rw [Av,List.getElem?_range C]
    simp only [Az,AD]
    have hd:(i*l+j) / l=i:=by
     rw [Au,Nat.mul_add_div I,Nat.div_eq_of_lt T,A7]
    have hm:(i*l+j)%l=j:=by
     rw [Au,Nat.mul_add_mod,Nat.mod_eq_of_lt T]
    rw [hd,hm]
   ·intro q u C
    obtain⟨h1,rfl⟩:=E q u C
    rw [kS]
    exact h.imm _ _ (H q h1)
 ·obtain⟨h1, -, -⟩:=M.jv (b:=s.boxes) hl
  subst h1
  cases G with
  |jt=>exact⟨none,0,[],rfl,sm,Flat.nil S _,fun h=>(h rfl).elim⟩
 ·obtain⟨Y,r1,r2,h1,t,_⟩:=M.bind_some hl
  obtain⟨hb,_,_⟩:=M.get_some h1
  cases Y with
  |arr J e' v=>
   by_cases z:ver=J
   rotate_left
   ·simp only [z,if_false]at t;exact fE s.boxes t
   simp only [z,if_true]at t
   subst z
   obtain⟨h3, -, -⟩:=M.jv t
   subst h3
   obtain⟨l,xs,U,D,how,hf⟩:=h.nX hb G
   by_cases F:es=[]
   ·subst F
    obtain⟨a,c,rfl,_⟩:=how.hdr
    exact⟨a,c,[],rfl,sm,Flat.nil S _,fun h=>(h rfl).elim⟩
   ·obtain⟨O,r0,K⟩:∃e r,es=e::r:=by
     cases es with
     |nil=>exact(F rfl).elim
     |cons e r=>exact⟨e,r,rfl⟩
    have hm:O∈es:=by rw [K];simp
    have:l=sz:=by rw [<-hf.len O hm];exact hsz O hm
    subst this
    have L:0<es.length:=by rw [K];simp
    have how:=how.nm L
    obtain⟨g,c,rfl⟩:=mm how L
    exact⟨_,c,xs,rfl,how.1,hf,fun _=>⟨_,rfl,how.cells rfl⟩⟩
  |var _=>exact fE s.boxes t
  |dead=>exact fE s.boxes t
  |map _ _ _=>exact fE s.boxes t
  |nest _ _ _ _ _=>exact fE s.boxes t
  |mapn _ _ _ _ _=>exact fE s.boxes t
  |hole _ _ _ _ _ _=>exact fE s.boxes t
  |deep _ _ _ _ _ _ _=>exact fE s.boxes t
 ·rename_i id ver B m
  obtain⟨Y,r1,r2,h1,t,_⟩:=M.bind_some hl
  obtain⟨hb,_,_⟩:=M.get_some h1
  cases Y with
  |arr J e' v=>
   by_cases z:ver=J
   rotate_left
   ·simp only [z,if_false]at t;exact fE s.boxes t
   simp only [z,if_true]at t
   subst z
   obtain⟨h3, -,h4⟩:=M.j0 t
   subst h3
   have hn:B<=m∧m<=v.length:=of_decide_eq_true h4.symm
   obtain⟨l,xs,hdr,U,D,how,hf,ho,hd⟩:=h.qI hb G
   have hlen:((v.drop B).take (m-B)).length=m-B:=by rw [Ay,Ax];omega
   have E:∀(i:Nat)x,((v.drop B).take (m-B))[i]? =some x->v[B+i]? =some x:=by
    intro i x G
    rw [AH]at G
    split at G
    ·rwa [AG]at G
    ·cases G
   by_cases F:m-B=0
   ·have:(v.drop B).take (m-B)=[]:=by rw [F];rfl
    rw [this]
    rcases hd with⟨rfl,a,rfl⟩|⟨g,n,c,rfl,_,_,rfl⟩
    ·exact⟨a,0,[],rfl,sm,Flat.nil S _,fun h=>(h rfl).elim⟩
    ·exact⟨_,c-B,[],by rw [F];rfl,sm,Flat.nil S _,fun h=>(h rfl).elim⟩
   ·rcases hd with⟨rfl,a,rfl⟩|⟨g,n,c,rfl,_,_,rfl⟩
    ·omega
    have L:0<v.length:=by omega
    have a9:((v.drop B).take (m-B))[0]? =some (v[B]'om):=by
     rw [AH,if_pos om,AG,A7,zc]
    have:l=sz:=by rw [<-hf.len _ (Ah (by omega:B<v.length))];exact hsz _ (A1 a9)
    subst this
    have N:=how.nm L
    have b1:=N.1
    have hmul:B*l+(m-B)*l=m*l:=by rw [<-A6];congr 1;omega
    have hle:m*l<=v.length*l:=A9 _ hn.2
    refine⟨_,c-B,(xs.drop (B*l)).take ((m-B)*l),by rw [hlen],?_,⟨?_,?_,?_⟩,fun _=>⟨_,rfl,?_⟩⟩
    ·rw [hlen,Ay,Ax];omega
    ·exact fun x G=>hf.len x (A2 (A3 G))
    ·exact fun x G=>hf.one x (A2 (A3 G))
    ·intro i x j y hi Q
     obtain⟨q,C,hv⟩:=hf.cell (B+i) x j y (E i x hi) Q
     refine⟨q,?_,hv⟩
     have a4:i<m-B:=by
      have:=(List.getElem?_eq_some_iff.1 hi).1
      rw [hlen]at this
      exact this
     have b0:j<l:=by
      have:=(List.getElem?_eq_some_iff.1 Q).1
      rw [hf.len x (A1 (E i x hi))]at this
      exact this
     have hm:(i+1)*l<=(m-B)*l:=A9 _ a4
     rw [A6,Aa]at hm
     rw [AH,if_pos om,AG, <-C]
     congr 1
     rw [A6]
     omega
    ·intro j q C
     rw [AH]at C
     split at C
     ·rw [AG]at C
      have:=N.cells (g:=g) rfl _ q C
      rw [kS]at this⊢
      rw [<-this];congr 2;omega
     ·cases C
  |var _=>exact fE s.boxes t
  |dead=>exact fE s.boxes t
  |map _ _ _=>exact fE s.boxes t
  |nest _ _ _ _ _=>exact fE s.boxes t
  |mapn _ _ _ _ _=>exact fE s.boxes t
  |hole _ _ _ _ _ _=>exact fE s.boxes t
  |deep _ _ _ _ _ _ _=>exact fE s.boxes t
end
end Go.Dw
