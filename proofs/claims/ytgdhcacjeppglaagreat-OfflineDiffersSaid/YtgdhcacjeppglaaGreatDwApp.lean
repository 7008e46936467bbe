
import Derived.Test.YtgdhcacjeppglaaGreatDwList
import Derived.Laws.Slices
set_option linter.unusedVariables false
set_option linter.unusedSimpArgs false
open Option.some renaming injEq->AD
open List renaming getElem?_append_left->AR, getElem?_append_right->AS, getElem?_drop->AG, getElem?_map->As, getElem?_of_mem->Au, getElem?_take->AH, getElem_mem->Ah, length_drop->Av, length_take->Aw, mem_of_getElem?->A1, mem_of_mem_drop->A2, mem_of_mem_take->A3, range->AI
open Option renaming map_some->Ax
open Nat renaming add_mul->A6, add_zero->A7, le_refl->AB, min_eq_left->Ay, mul_comm->Az, mul_le_mul_right->A9, one_mul->Aa, sub_self->Ab, zero_add->AK, zero_le->AL
open Bool renaming and_eq_true->Ac, true_eq->Ad
open Array renaming getElem?_eq_getElem->Ak
open Go.Sem renaming run_bind->Ap, run_pure->Ar
open Go.Result renaming andThen_ok->Af

namespace Go.Dw
section
variable {P:Program}{X:Ctx}{S:cp}{loc:cJ}{s:St}{tm:Array Value}{w:World}
inductive RO(S:cp)(loc:cJ):Option RV->Option Value->Prop
 |none:RO S loc none none
 |some {rv:RV} {v:Value} (h:R S loc rv v):RO S loc (some rv) (some v)
theorem gK{rv:RV}{d n:Int}(h:bnd (some rv) d=some n):∃k,rv= .d (.int k n):=by
 rcases rv with p|_|_|_|_|_|_|_|_|_|_|_|_<;>first|(simp [bnd]at h;done)|skip
 cases p<;>first|(simp [bnd]at h;done)|skip
 simp only [bnd,AD]at h
 subst h
 exact⟨_,rfl⟩
theorem ic{b:Bool}{len cap:Nat}{j i:Option RV}{g f:Option Value}{l h:Int}(h1:RO S loc j g)(a:RO S loc i f)(hl:bnd j 0=some l)(c:bnd i len=some h)
  (o:0<=l∧l<=h∧h<=len) (hc:len<=cap):(Instr.sliceBounds b len cap g f none).run P w= .ok (l.toNat,h.toNat,cap) w:=by
 obtain⟨m,a2,a3⟩:=o
 cases h1 with
 |none=>
  simp only [bnd,AD]at hl
  subst hl
  cases a with
  |none=>simp only [bnd,AD]at c;subst c;simp [Instr.sliceBounds]
  |some a=>
   obtain⟨k,rfl⟩:=gK c
   have:=a.cC
   subst this
   have e:0<=h∧h<=(cap:Int):=⟨om,om⟩
   simp [Instr.sliceBounds,Instr.sliceBound,asIntOf,e]
 |some h1=>
  obtain⟨k,rfl⟩:=gK hl
  have:=h1.cC
  subst this
  cases a with
  |none=>
   simp only [bnd,AD]at c
   subst c
   have e:0<=l∧l<=(len:Int):=⟨om,om⟩
   simp [Instr.sliceBounds,Instr.sliceBound,asIntOf,e]
  |some a=>
   obtain⟨k',rfl⟩:=gK c
   have:=a.cC
   subst this
   have e:0<=h∧h<=(cap:Int):=⟨om,om⟩
   have n:l<=max h 0:=by omega
   simp [Instr.sliceBounds,Instr.sliceBound,asIntOf,e,m,n]
theorem fM{α:Type}(l:List α)(b:Option RV)(a h:Int)(c:bnd b l.length=some h)(e:0<=a∧a<=h∧h<=l.length):
  cut l a.toNat (hiOf b h)=(l.drop a.toNat).take (h.toNat-a.toNat):=by
 cases b with
 |none=>
  simp only [bnd,AD]at c
  subst c
  simp only [hiOf,cut]
  rw [List.take_of_length_le]
  simp
 |some r=>simp only [hiOf,cut]
theorem Flat.nil(S:cp)(sz:Nat):Flat S sz [] []:=⟨(fun e he=>by cases he),(fun u hu=>by cases hu),(fun i e j x a=>by simp at a)⟩
theorem V.cut{es:List PD}{ad:Option Addr}{c a h m k:Nat}(r:V S (.lst es) (.slice ad es.length c))(h1:a<=h)(v:h<=es.length)(y:h<=m)(q:es.all (fun e=>e.cells.length==k)=true):
  V S (.lst ((es.drop a).take (h-a))) (.slice (if m=a then ad else ad.map (·.add (a*k))) (h-a) (m-a)):=by
 have hlen:((es.drop a).take (h-a)).length=h-a:=by simp;omega
 by_cases t:h-a=0
 ·rw [t]
  simp only [List.take_zero]
  exact .nil _ _
 ·have g:es[a]? =some es[a]:=zc om
  obtain⟨p,o,u,sz,f,he,_,hsz,hS,hV⟩:=r.elem g
  cases he
  have l:sz=k:=by
   have:=List.all_eq_true.1 q _ (A1 g)
   rw [<-hsz _ (A1 g)]
   simpa using this
  subst l
  rw [if_neg om]
  simp only [Ax,cV]
  have:=V.lst (S:=S) ((es.drop a).take (h-a)) p (o+a*sz) (m-a) sz (fun i j=>f (a+i) j) (by rw [hlen];omega)
   (fun e he=>hsz e (A2 (A3 he)))
   (fun i e j x b n => by
    rw [AH]at b
    split at b
    ·rw [AG]at b
     have:=hS _ e j x b n
     rw [<-this]
     congr 2
     rw [A6]
     omega
    ·cases b)
   (fun i e j x b n => by
    rw [AH]at b
    split at b
    ·rw [AG]at b
     exact hV _ e j x b n
    ·cases b)
  rw [hlen]at this
  exact this
theorem mS{z:Nat}{t:TypeId}{p:PD}{v:RV}{q j:Option RV}{o n:Option Value}{b:cI}{u:Ups}{r:List Nat}{C:Value}(hl:dx P z t (.d p) q j none b=some ((v,u),r,true))(y:R S loc (.d p) C)
  (h1:RO S loc q o) (B:RO S loc j n):
  ∃v',(Instr.sliceAt t C o n none).run P w= .ok v' w∧R S loc v v'∧u=[]:=by
 unfold dx at hl
 rcases hu:P.underlying t with _|d
 ·simp only [hu]at hl;exact fE b hl
 rw [hu]at hl
 cases d<;>first|exact fE b hl|skip
 case string=>
  cases p<;>first|exact fE b hl|skip
  rename_i l
  rcases f:bnd q 0 with _|a
  ·simp only [f]at hl;exact fE b hl
  rcases g:bnd j l.length with _|h
  ·simp only [f,g]at hl;exact fE b hl
  simp only [f,g]at hl
  obtain⟨x, -,i⟩:=cy hl
  cases x
  have m:=of_decide_eq_true i.symm
  have D:=y.gy
  subst D
  have hb:=ic (P:=P) (w:=w) (b:=false) (len:=l.length) (cap:=l.length) h1 B f g m (AB _)
  refine⟨.string ((ByteArray.mk l.toArray).extract a.toNat h.toNat),?_,?_,rfl⟩
  ·simp [Instr.sliceAt,run_underlying hu,Instr.slice,jR,hb]
  ·rw [ByteArray.extract_mk,fM l j a h g m]
   exact .d (.str _)
 case slice e=>
  cases p<;>first|exact fE b hl|skip
  rename_i es
  rcases f:bnd q 0 with _|a
  ·simp only [f]at hl;exact fE b hl
  rcases g:bnd j es.length with _|h
  ·simp only [f,g]at hl;exact fE b hl
  rcases hk:szT P e with _|k
  ·simp only [f,g,hk]at hl;exact fE b hl
  simp only [f,g,hk]at hl
  obtain⟨x, -,i⟩:=cy hl
  cases x
  simp only [Ad,Ac]at i
  obtain⟨i,E⟩:=i
  have m:=of_decide_eq_true i
  obtain⟨ad,c,rfl,hc⟩:=iP y.gn
  have hb:=ic (P:=P) (w:=w) (b:=true) (len:=es.length) (cap:=c) h1 B f g m hc
  refine⟨.slice (if c=a.toNat then ad else ad.map (·.add (a.toNat*k))) (h.toNat-a.toNat) (c-a.toNat),?_,?_,rfl⟩
  ·simp [Instr.sliceAt,run_underlying hu,Instr.slice,hb,ct hk]
  ·rw [fM es j a h g m]
   exact .d (V.cut y.gn om om om E)
def gz(hdr:Value)(sz a b:Nat)(v:Value):Prop:=
 (a=b∧∃a0,v= .slice a0 0 0)∨∃g n c,hdr= .slice (some ⟨g,0,none⟩) n c∧a<=b∧b<=c∧v= .slice (some ⟨g,a*sz,none⟩) (b-a) (c-a)
theorem gz.ref{e:TypeId}{sz n:Nat}{hdr:Value}{xs:List Value}(h:rowAt w e sz hdr n xs):gz hdr sz 0 n hdr:=by
 rcases h with⟨_,⟨rfl,rfl⟩|⟨g,cap,cur,_,rfl,_,_,h,_⟩⟩|⟨rfl,_,a,rfl⟩
 ·exact .inl ⟨rfl,none,rfl⟩
 ·exact .inr ⟨g,n,cap,rfl,AL _,h,sm⟩
 ·exact .inl ⟨rfl,a,rfl⟩
theorem gz.cap{hdr v:Value}{sz a b:Nat}(h:gz hdr sz a b v)(e:a<=b):∃ad c,v= .slice ad (b-a) c∧b-a<=c:=by
 rcases h with⟨rfl,a0,rfl⟩|⟨g,n,c,rfl,h1,f,rfl⟩
 ·exact⟨a0,0,by rw [Ab],om⟩
 ·exact⟨_,_,rfl,om⟩
theorem gz.slice{hdr:Value}{sz a b len cap l h:Nat}{ad:Option Addr}(j:gz hdr sz a b (.slice ad len cap))(i:l<=h)(hb:h<=b-a)(f:a<=b):
  gz hdr sz (a+l) (a+h) (.slice (if cap=l then ad else ad.map (·.add (l*sz))) (h-l) (cap-l)):=by
 rcases j with⟨rfl,a0,he⟩|⟨g,n,c,rfl,h1,m,he⟩
 ·cases he
  have e:h=0:=by omega
  have k:l=0:=by omega
  subst e k
  exact .inl ⟨rfl,ad,sm⟩
 ·cases he
  by_cases hc:c-a=l
  ·rw [if_pos hc]
   have:h=l:=by omega
   subst this
   exact .inl ⟨rfl,some ⟨g,a*sz,none⟩,by rw [hc,Ab]⟩
  ·rw [if_neg hc]
   refine .inr ⟨g,n,c,rfl,om,om,?_⟩
   simp only [Ax,cV]
   congr 1
   ·rw [A6]
   ·omega
   ·omega
theorem R.viewD{id ver b a:Nat}{e:TypeId}{sz:Nat}{hdr v:Value}(g:loc id=some (.arr ver e sz hdr))(ho:v.oneCell'=true)(h:gz hdr sz b a v):R S loc (.view id ver b a) v:=by
 refine .view id ver b a v _ ho g fun f j i c he=>?_
 cases he
 exact⟨AB _,fun _=>h⟩
theorem gx(h:Sim P X S loc s tm w){t e:TypeId}{id ver a b:Nat}{v:RV}{y x:Option RV}{m j:Option Value}{u:Ups}{r:List Nat}{B:Value}(ht:P.underlying t=some (.slice e))(hl:sliceB P e id ver a b y x s.boxes=some ((v,u),r,true))
  (I:∀es,s.boxes id=some (.arr ver e es)->a<=b->b<=es.length->∃sz hdr,loc id=some (.arr ver e sz hdr)∧szT P e=some sz∧gz hdr sz a b B)
  (h1:RO S loc y m) (G:RO S loc x j):
  ∃v',(Instr.sliceAt t B m j none).run P w= .ok v' w∧R S loc v v'∧u=[]:=by
 unfold sliceB at hl
 rcases f:bnd y 0 with _|l
 ·simp only [f]at hl;exact fE s.boxes hl
 rcases g:bnd x ((b:Int)-a)with _|p
 ·simp only [f,g]at hl;exact fE s.boxes hl
 rcases hk:szT P e with _|_|k
 ·simp only [f,g,hk]at hl;exact fE s.boxes hl
 ·simp only [f,g,hk]at hl;exact fE s.boxes hl
 simp only [f,g,hk]at hl
 obtain⟨C,N,O,g1,g2,_⟩:=M.bind_some hl
 obtain⟨hb,_,_⟩:=M.get_some g1
 cases C with
 |var _=>exact fE s.boxes g2
 |dead=>exact fE s.boxes g2
 |map _ _ _=>exact fE s.boxes g2
 |nest _ _ _ _ _=>exact fE s.boxes g2
 |mapn _ _ _ _ _=>exact fE s.boxes g2
 |hole _ _ _ _ _ _=>exact fE s.boxes g2
 |deep _ _ _ _ _ _ _=>exact fE s.boxes g2
 |arr n E es=>
  by_cases i:ver=n∧e=E
  rotate_left
  ·simp only [i,if_false]at g2;exact fE s.boxes g2
  simp only [i,and_self,if_true]at g2
  obtain⟨rfl,rfl⟩:=i
  obtain⟨g3, -,g4⟩:=cy g2
  cases g3
  obtain⟨o,D,J,K,L⟩:a<=b∧b<=es.length∧0<=l∧l<=p∧p<=(b:Int)-a:=of_decide_eq_true g4.symm
  obtain⟨sz,hdr,H,hsz,z⟩:=I es hb o D
  rw [hk]at hsz
  cases hsz
  obtain⟨ad,c,rfl,hc⟩:=z.cap o
  have F:((b:Int)-a)=((b-a:Nat):Int):=by omega
  rw [F]at g
  have q:=ic (P:=P) (w:=w) (b:=true) (len:=b-a) (cap:=c) h1 G f g om hc
  refine⟨_,?_,R.viewD H rfl (z.slice (l:=l.toNat) (h:=p.toNat) om om o),rfl⟩
  simp [Instr.sliceAt,run_underlying ht,Instr.slice,q,ct hk]
theorem Sim.nS(h:Sim P X S loc s tm w){id b:Nat}{n:List PD}{ty:TypeId}{vs:Array Value}(hb:s.boxes id=some (.var (n.map .d)))(e:loc id=some (.var b))(hw:w.heap[b]? =some (.cells vs ty (0,0)))(h1:∀v∈vs,v.oneCell'=true):
  Sim P X (dg S b vs.toList) (upd loc id .dead) { s with boxes:=upd s.boxes id .dead } tm w∧Sub S (dg S b vs.toList)∧(∀j v,vs[j]? =some v->dg S b vs.toList ⟨b,j,none⟩=some v):=by
 have k:cj (loc id) .dead:=by rw [e];exact .dead _
 have l:=h.cw (Step.refl none w) id .dead .dead (fun b hc=>by cases hc) (.dead _ rfl) (fun b hc=>by cases hc) k
 refine⟨l.fB b vs.toList (fun j v g=>?_) (fun v m=>h1 v (by simpa using m)) (fun i L f c=>?_) (h.own id _ b e rfl).symm,dA _ _ _,fun j v g=>fg (fun o=>h.eA id _ b e rfl o) (by simpa using g)⟩
 ·rw [cell_of_row w b j vs ty (0,0) hw]
  simpa using g
 ·by_cases a:i=id
  ·subst a;rw [cf]at f;cases f;cases c
  ·rw [ck _ _ a]at f
   exact a (h.inj i id L _ b f e c rfl)
theorem lX(h:Sim P X S loc s tm w){a:TypeId}{id:Nat}{v:RV}{u:Ups}{r:List Nat}{K:Value}(hl:iz P id a s.boxes=some ((v,u),r,true))(G:R S loc (.ptr id 0) K):
  ∃v' S' loc',(Instr.sliceAt a K none none none).run P w= .ok v' w∧Sim P X S' loc' (s.ups u) tm w∧R S' loc' v v':=by
 unfold iz at hl
 rcases hu:P.underlying a with _|d
 ·simp only [hu]at hl;exact fE s.boxes hl
 rw [hu]at hl
 cases d<;>first|exact fE s.boxes hl|skip
 rename_i n e
 rcases hk:szT P e with _|_|k
 ·simp only [hk]at hl;exact fE s.boxes hl
 ·simp only [hk]at hl;exact fE s.boxes hl
 simp only [hk]at hl
 obtain⟨L,W,Y,g1,g2,_⟩:=M.bind_some hl
 obtain⟨hb,_,_⟩:=M.get_some g1
 cases L with
 |arr _ _ _=>exact fE s.boxes g2
 |dead=>exact fE s.boxes g2
 |map _ _ _=>exact fE s.boxes g2
 |nest _ _ _ _ _=>exact fE s.boxes g2
 |mapn _ _ _ _ _=>exact fE s.boxes g2
 |hole _ _ _ _ _ _=>exact fE s.boxes g2
 |deep _ _ _ _ _ _ _=>exact fE s.boxes g2
 |var cs=>
  rcases B:fQ cs with _|l
  ·simp only [B]at g2;exact fE s.boxes g2
  simp only [B]at g2
  by_cases hc:cM P e=true∨k=0
  rotate_left
  ·rw [if_neg hc]at g2;exact fE s.boxes g2
  rw [if_pos hc]at g2
  obtain⟨g3, -,g4⟩:=M.cg g2
  cases g3
  simp only [Ad,Ac,decide_eq_true_eq]at g4
  obtain⟨E,g⟩:=g4
  have D:=fi B
  subst D
  obtain⟨b,ty,vs,O,rfl,hw,hlen,Q⟩:=h.l8 hb G
  have C:∀(i:Nat)p u,l[i]? =some p->vs[i]? =some u->V S p u:=fun i p u h1 N=>by
   have:=Q i (.d p) u (by simp [h1]) N
   cases this with|d h=>exact h
  have m:vs.size=l.length:=by simpa using hlen
  have h1:∀u∈vs,u.oneCell'=true:=fun u hu=>by
   obtain⟨i,f,rfl⟩:=Array.getElem_of_mem hu
   have t:i<l.length:=by omega
   exact((C i l[i] vs[i] (zc t) (Ak f)).eo (List.all_eq_true.1 g _ (Ah t))).1
  obtain⟨T,U,k3⟩:=h.nS hb O hw h1
  have q:=dP (P:=P) e (k+1) n l
  have o:=gg (P:=P) e (k+1) (hc.imp (fun h=>h) (fun h=>om)) n l E (fun p B=>List.all_eq_true.1 g p B)
  have z:∀(i:Nat)x(j:Nat)c,(dj P e (k+1) n l)[i]? =some x->x.cells[j]? =some c->∃u,vs[i*(k+1)+j]? =some u∧V S c u:=fun i x j c f y=>by
   have H:=(o i x f).2 j c y
   have I:i*(k+1)+j<vs.size:=by rw [m];exact(List.getElem?_eq_some_iff.1 H).1
   exact⟨_,Ak I,C _ c _ H (Ak I)⟩
  have hV := V.lst (S := dg S b vs.toList) (dj P e (k + 1) n l) b 0 n (k + 1) (fun i j => (vs[i * (k + 1) + j]?).getD default) (by rw [q]; exact AB _) (fun x G => by
    obtain⟨i,f⟩:=Au G
    exact(o i x f).1)
   (fun i x j c f y => by
    obtain⟨u,hu,_⟩:=z i x j c f y
    rw [AK,k3 _ u hu,hu];rfl)
   (fun i x j c f y => by
    obtain⟨u,hu,F⟩:=z i x j c f y
    rw [hu]
    exact F.mono U)
  rw [q]at hV
  refine⟨.slice (some ⟨b,0,none⟩) n n,_,_,?_,T,.d hV⟩
  simp only [Instr.sliceAt,run_underlying hu,Ap,Af,Instr.sureAddr,Ar,Instr.sliceBounds,ct hk]
  by_cases J:n=0
  ·simp [J]
  ·simp [J,Addr.add]
theorem lY{a:TypeId}{cs:List PD}{v:RV}{u:Ups}{r:List Nat}{E:Value}{g:cI}(hl:iA P a cs g=some ((v,u),r,true))(C:R S loc (.cptr cs) E):
  ∃v',(Instr.sliceAt a E none none none).run P w= .ok v' w∧R S loc v v'∧u=[]:=by
 unfold iA at hl
 rcases hu:P.underlying a with _|d
 ·simp only [hu]at hl;exact fE g hl
 rw [hu]at hl
 cases d<;>first|exact fE g hl|skip
 rename_i n e
 rcases hk:szT P e with _|_|k
 ·simp only [hk]at hl;exact fE g hl
 ·simp only [hk]at hl;exact fE g hl
 simp only [hk]at hl
 by_cases hc:cM P e=true∨k=0
 rotate_left
 ·rw [if_neg hc]at hl;exact fE g hl
 rw [if_pos hc]at hl
 obtain⟨g3, -,g4⟩:=M.cg hl
 cases g3
 simp only [Ad,Ac,decide_eq_true_eq]at g4
 obtain⟨H,z⟩:=g4
 cases C with
 |cptr _ b o F hS hV=>
 have hlen:(cs.take (n*(k+1))).length=n*(k+1):=by simp;omega
 have q:=dP (P:=P) e (k+1) n (cs.take (n*(k+1)))
 have m:=gg (P:=P) e (k+1) (hc.imp (fun h=>h) (fun h=>om)) n (cs.take (n*(k+1))) hlen (fun p G=>List.all_eq_true.1 z p G)
 have y:∀(i:Nat)x(j:Nat)c,(dj P e (k+1) n (cs.take (n*(k+1))))[i]? =some x->x.cells[j]? =some c->cs[i*(k+1)+j]? =some c:=fun i x j c f t=>by
  have B:=(m i x f).2 j c t
  rw [AH]at B
  split at B
  ·exact B
  ·cases B
 have l := V.lst (S := S) (dj P e (k + 1) n (cs.take (n * (k + 1)))) b o n (k + 1) (fun i j => F (i * (k + 1) + j)) (by rw [q]; exact AB _) (fun x C => by
   obtain⟨i,f⟩:=Au C
   exact(m i x f).1)
  (fun i x j c f t => by
   rw [Nat.add_assoc]
   exact hS _ c (y i x j c f t))
  (fun i x j c f t=>hV _ c (y i x j c f t))
 rw [q]at l
 refine⟨.slice (some ⟨b,o,none⟩) n n,?_,.d l,rfl⟩
 simp only [Instr.sliceAt,run_underlying hu,Ap,Af,Instr.sureAddr,Ar,Instr.sliceBounds,ct hk]
 by_cases D:n=0
 ·simp [D]
 ·simp [D,Addr.add]
theorem l3(h:Sim P X S loc s tm w){t e:TypeId}{id ver:Nat}{v:RV}{E D:Option RV}{q:RV}{m j:Option Value}{n:Value}{u:Ups}{r:List Nat}{F:Value}(ht:P.underlying t=some (.slice e))(hl:iB P e id ver E D q s.boxes=some ((v,u),r,true))
  (K:R S loc (.ref id ver) F) (h1:RO S loc E m) (o:RO S loc D j) (I:R S loc q n):
  ∃v',(Instr.sliceAt t F m j (some n)).run P w= .ok v' w∧R S loc v v'∧u=[]:=by
 unfold iB at hl
 cases h1<;>first|exact fE s.boxes hl|skip
 cases o<;>first|exact fE s.boxes hl|skip
 rename_i x Y o
 cases x<;>first|exact fE s.boxes hl|skip
 rename_i O
 cases O<;>first|exact fE s.boxes hl|skip
 rename_i L b
 cases q<;>first|exact fE s.boxes hl|skip
 rename_i pm
 cases pm<;>first|exact fE s.boxes hl|skip
 rename_i N hm
 rcases hk:szT P e with _|_|k
 ·simp only [hk]at hl;exact fE s.boxes hl
 ·simp only [hk]at hl;exact fE s.boxes hl
 simp only [hk]at hl
 by_cases i:b=hm
 rotate_left
 ·rw [if_neg i]at hl;exact fE s.boxes hl
 rw [if_pos i]at hl
 subst i
 obtain⟨G,U,W,g1,g2,_⟩:=M.bind_some hl
 obtain⟨hb,_,_⟩:=M.get_some g1
 cases G with
 |var _=>exact fE s.boxes g2
 |dead=>exact fE s.boxes g2
 |map _ _ _=>exact fE s.boxes g2
 |nest _ _ _ _ _=>exact fE s.boxes g2
 |mapn _ _ _ _ _=>exact fE s.boxes g2
 |hole _ _ _ _ _ _=>exact fE s.boxes g2
 |deep _ _ _ _ _ _ _=>exact fE s.boxes g2
 |arr g z es=>
  simp only at g2
  by_cases f:ver=g∧e=z
  rotate_left
  ·rw [if_neg f]at g2;exact fE s.boxes g2
  rw [if_pos f]at g2
  obtain⟨rfl,rfl⟩:=f
  obtain⟨g3, -,g4⟩:=M.cg g2
  cases g3
  obtain⟨y,T⟩:0<=b∧b<=es.length:=of_decide_eq_true g4.symm
  obtain⟨sz,xs,l,hsz,how,hf⟩:=h.fm hb K
  obtain⟨a,c,rfl,hc⟩:=how.hdr
  have e2:=o.cC
  have H:=I.cC
  subst e2 H
  refine⟨.slice a b.toNat b.toNat,?_,.fview id ver b.toNat _ _ rfl l fun g z Q C he=>by cases he;exact⟨AB _,fun _=>⟨a,_,c,rfl,om,rfl⟩⟩,rfl⟩
  have d1:0<=b∧b<=(c:Int):=⟨y,om⟩
  have d2:0<=b∧b<=(b.toNat:Int):=⟨y,om⟩
  have p:(Instr.sliceBounds true es.length c none (some (.int L b)) (some (.int N b))).run P w= .ok (0,b.toNat,b.toNat) w:=by
   simp [Instr.sliceBounds,Instr.sliceBound,asIntOf,d1,d2]
   intro J
   omega
  simp only [Instr.sliceAt,run_underlying ht,Instr.slice,Ap,Af,p,ct hk,Ar]
  by_cases B:b.toNat=0
  ·simp [B]
  ·cases a<;>simp [B,Addr.add]
theorem my(h:Sim P X S loc s tm w){t e:TypeId}(hu:P.underlying t=some (.slice e)){es:List PD}{k k':IntKind}{i m:Int}{v:RV}{u:Ups}{r:List Nat}{l:Value}(hl:kj P e es i m s.boxes=some ((v,u),r,true))(C:V S (.lst es) l):
  ∃v' S' loc',(Instr.sliceAt t l none (some (.int k i)) (some (.int k' m))).run P w= .ok v' w∧Sim P X S' loc' (s.ups u) tm w∧R S' loc' v v':=by
 unfold kj at hl
 rcases hk:szT P e with _|_|sz
 ·simp only [hk]at hl;exact fE s.boxes hl
 ·simp only [hk]at hl;exact fE s.boxes hl
 simp only [hk]at hl
 by_cases g:i=m
 rotate_left
 ·rw [if_neg g]at hl;exact fE s.boxes hl
 rw [if_pos g]at hl
 subst g
 obtain⟨g3, -,g4⟩:=M.cg (b:=s.boxes) hl
 cases g3
 have p:i=es.length:=of_decide_eq_true g4.symm
 subst p
 obtain⟨a,c,rfl,hc,B⟩:∃a c,l= .slice a es.length c∧es.length<=c∧V S (.lst es) (.slice a es.length es.length):=by
  cases C with
  |nil a c=>exact⟨a,c,rfl,AL _,.nil _ _⟩
  |lst _ b o c sz f h1 q x y=>exact⟨_,c,rfl,h1,.lst es b o _ sz f (AB _) q x y⟩
 refine⟨.slice a es.length es.length,S,loc,?_,h,.dfull es a B⟩
 have d1:(0:Int)<=(es.length:Int)∧(es.length:Int)<=(c:Int):=⟨om,om⟩
 have j:(Instr.sliceBounds true es.length c none (some (.int k (es.length:Int))) (some (.int k' (es.length:Int)))).run P w= .ok (0,es.length,es.length) w:=by
  simp [Instr.sliceBounds,Instr.sliceBound,asIntOf]
  intro z
  omega
 simp only [Instr.sliceAt,run_underlying hu,Instr.slice,Ap,Af,j,ct hk,Ar]
 by_cases n:es.length=0
 ·simp [n]
 ·cases a<;>simp [n,Addr.add]
theorem nj(h:Sim P X S loc s tm w){t e:TypeId}(hu:P.underlying t=some (.slice e)){es:List PD}{l k k':IntKind}{b a m:Int}{v:RV}{u:Ups}{r:List Nat}{n:Value}(hl:j9 P e es b a m s.boxes=some ((v,u),r,true))(j:V S (.lst es) n):
  ∃v' S' loc',(Instr.sliceAt t n (some (.int l b)) (some (.int k a)) (some (.int k' m))).run P w= .ok v' w∧Sim P X S' loc' (s.ups u) tm w∧R S' loc' v v':=by
 unfold j9 at hl
 rcases hk:szT P e with _|sz
 ·simp only [hk]at hl;exact fE s.boxes hl
 simp only [hk]at hl
 by_cases f:a=m
 rotate_left
 ·rw [if_neg f]at hl;exact fE s.boxes hl
 rw [if_pos f]at hl
 subst f
 obtain⟨g3, -,g4⟩:=cy hl
 cases g3
 simp only [Ad,Ac]at g4
 obtain⟨g4,p⟩:=g4
 have i:=of_decide_eq_true g4
 obtain⟨ad,c,rfl,hc⟩:=iP j
 refine⟨.slice (if a.toNat=b.toNat then ad else ad.map (·.add (b.toNat*sz))) (a.toNat-b.toNat) (a.toNat-b.toNat),S,loc,?_,h,.d (V.cut j om om (AB _) p)⟩
 have d1:0<=a∧a<=(c:Int):=⟨om,om⟩
 have d2:0<=a∧a<=(a.toNat:Int):=⟨om,om⟩
 have d3:0<=b∧b<=(a.toNat:Int):=⟨om,om⟩
 have g:(Instr.sliceBounds true es.length c (some (.int l b)) (some (.int k a)) (some (.int k' a))).run P w= .ok (b.toNat,a.toNat,a.toNat) w:=by
  have o:¬a<0:=by omega
  have e2:max a 0=a:=by omega
  simp [Instr.sliceBounds,Instr.sliceBound,asIntOf,d1,o,e2,i.1,i.2.1]
 simp only [Instr.sliceAt,run_underlying hu,Instr.slice,Ap,Af,g,ct hk,Ar]
theorem mI(h:Sim P X S loc s tm w){t:TypeId}{x v:RV}{lo o mx:Option RV}{K G N:Option Value}{u:Ups}{r:List Nat}{T:Value}(hl:kE P t x lo o mx s.boxes=some ((v,u),r,true))(E:R S loc x T)
  (h1:RO S loc lo K) (Y:RO S loc o G) (h3:RO S loc mx N):
  ∃v' S' loc',(Instr.sliceAt t T K G N).run P w= .ok v' w∧Sim P X S' loc' (s.ups u) tm w∧R S' loc' v v':=by
 unfold kE at hl
 rcases hu:P.underlying t with _|d
 ·simp only [hu]at hl;exact fE s.boxes hl
 rw [hu]at hl
 cases d<;>first|exact fE s.boxes hl|skip
 rename_i e
 by_cases J:∃es,x= .d (.lst es)
 ·obtain⟨es,rfl⟩:=J
  cases E with
  |d E=>
  cases h1 with
  |none=>
   cases Y with
   |none=>exact fE s.boxes hl
   |some g1=>
   rename_i O v1
   cases O<;>first|exact fE s.boxes hl|skip
   rename_i p1
   cases p1<;>first|exact fE s.boxes hl|skip
   cases h3 with
   |none=>exact fE s.boxes hl
   |some g2=>
   rename_i Q v2
   cases Q<;>first|exact fE s.boxes hl|skip
   rename_i p2
   cases p2<;>first|exact fE s.boxes hl|skip
   have W:=g1.cC
   have e2:=g2.cC
   subst W e2
   exact my h hu hl E
  |some g0=>
   rename_i r0 v0
   cases r0<;>first|exact fE s.boxes hl|skip
   rename_i p0
   cases p0<;>first|exact fE s.boxes hl|skip
   cases Y with
   |none=>exact fE s.boxes hl
   |some g1=>
   rename_i O v1
   cases O<;>first|exact fE s.boxes hl|skip
   rename_i p1
   cases p1<;>first|exact fE s.boxes hl|skip
   cases h3 with
   |none=>exact fE s.boxes hl
   |some g2=>
   rename_i Q v2
   cases Q<;>first|exact fE s.boxes hl|skip
   rename_i p2
   cases p2<;>first|exact fE s.boxes hl|skip
   have U:=g0.cC
   have W:=g1.cC
   have e2:=g2.cC
   subst U W e2
   exact nj h hu hl E
 cases x<;>first|exact fE s.boxes hl|(rename_i p;cases p<;>first|exact fE s.boxes hl|exact(J ⟨_,rfl⟩).elim)|skip
 rename_i id ver
 cases lo<;>first|exact fE s.boxes hl|skip
 cases o<;>first|exact fE s.boxes hl|skip
 rename_i a8
 cases a8<;>first|exact fE s.boxes hl|skip
 rename_i p0
 cases p0<;>first|exact fE s.boxes hl|skip
 rename_i k f
 cases mx<;>first|exact fE s.boxes hl|skip
 ·simp only at hl
  rcases hk:szT P e with _|_|sz
  ·simp only [hk]at hl;exact fE s.boxes hl
  ·simp only [hk]at hl;exact fE s.boxes hl
  simp only [hk]at hl
  obtain⟨bx,O,Q,g1,g2,_⟩:=M.bind_some hl
  obtain⟨hb,_,_⟩:=M.get_some g1
  cases bx with
  |var _=>exact fE s.boxes g2
  |dead=>exact fE s.boxes g2
  |map _ _ _=>exact fE s.boxes g2
  |nest _ _ _ _ _=>exact fE s.boxes g2
  |mapn _ _ _ _ _=>exact fE s.boxes g2
  |hole _ _ _ _ _ _=>exact fE s.boxes g2
  |deep _ _ _ _ _ _ _=>exact fE s.boxes g2
  |arr y e' es=>
   simp only at g2
   by_cases m:ver=y∧e=e'
   rotate_left
   ·rw [if_neg m]at g2;exact fE s.boxes g2
   rw [if_pos m]at g2
   obtain⟨rfl,rfl⟩:=m
   obtain⟨g3, -,g4⟩:=M.cg g2
   cases g3
   obtain⟨c1,c2⟩:0<=f∧f<=es.length:=of_decide_eq_true g4.symm
   obtain⟨a9,xs,l,hsz,how,hf⟩:=h.fm hb E
   rw [hk]at hsz
   cases hsz
   cases h3
   have a5:sliceB P e id ver 0 es.length none (some (.d (.int k f))) s.boxes=some ((.view id ver (0+(0:Int).toNat) (0+f.toNat),[]),[id],true):=by
    have U:((es.length:Nat):Int)-((0:Nat):Int)=(es.length:Int):=by simp
    simp only [sliceB,bnd,hk,M.bind,M.get,hb,and_self,if_true,cK,M.cr,U]
    simp [c1,c2]
   obtain ⟨v', k1, k2, -⟩ := gx h hu a5 (fun b2 F _ _ => by
    rw [hb]at F
    cases F
    exact⟨_,_,l,hk,gz.ref how⟩) h1 Y
   have D:gz T (sz+1) (0+(0:Int).toNat) (0+f.toNat) v':=by
    cases k2 with
    |view _ _ _ _ _ L ho hL hc=>
     rw [l]at hL
     cases hL
     exact(hc ver e (sz+1) T .arr).2 rfl
   have ho:v'.oneCell'=true:=by
    cases k2 with
    |view _ _ _ _ _ L ho hL hc=>exact ho
   have z1:(0+(0:Int).toNat)=0:=rfl
   have z2:(0+f.toNat)=f.toNat:=AK _
   rw [z1,z2]at D
   have hlen:(es.take f.toNat).length=f.toNat:=by simp;omega
   have C:Flat S (sz+1) (es.take f.toNat) (xs.take (f.toNat*(sz+1))):=by
    refine⟨fun x E=>hf.len x (A3 E),fun q hq=>hf.one q (A3 hq),fun i x j c o hj=>?_⟩
    rw [AH]at o
    split at o
    ·rename_i a3
     obtain⟨q,h5,h6⟩:=hf.cell i x j c o hj
     refine⟨q,?_,h6⟩
     have b3:j<sz+1:=by rw [<-hf.len x (A1 o)];exact(List.getElem?_eq_some_iff.1 hj).1
     have:i*(sz+1)+j<f.toNat*(sz+1):=by
      calc i*(sz+1)+j<i*(sz+1)+(sz+1):=by omega
       _=(i+1)*(sz+1):=by rw [A6,Aa]
       _<=f.toNat*(sz+1):=A9 _ a3
     rw [AH,if_pos this]
     exact h5
    ·cases o
   have I:rowAt w e (sz+1) v' (es.take f.toNat).length (xs.take (f.toNat*(sz+1))):=by
    rw [hlen]
    rcases D with⟨h0,a,rfl⟩|⟨g,n,c,he,_,hc,rfl⟩
    ·rw [<-h0]
     exact .inr ⟨rfl,sm,a,rfl⟩
    ·simp only [Nat.zero_mul,Nat.sub_zero]
     subst he
     rcases how with⟨a2,⟨hn,_⟩|⟨g',cap,cur,fz,hg,a0,B,b0,H,a1,a7⟩⟩|⟨hn,b4,a,ha⟩
     ·cases hn
     ·cases hg
      refine .inl ⟨by rw [Aw,a2];exact Ay (A9 _ om),.inr ⟨g,c,cur,fz,rfl,a0,B,hc,H,a1,?_⟩⟩
      rw [<-a7,List.take_take]
      congr 1
      exact(Ay (A9 _ om)).symm
     ·cases ha
      have:f.toNat=0:=by omega
      rw [this]
      exact .inr ⟨rfl,sm,_,rfl⟩
   have a6:cj (loc id) (.arr (ver+1) e (sz+1) v'):=by
    rw [l]
    exact .arr om
   have a4:=h.cw (Step.refl none w) id (.arr (ver+1) e (es.take f.toNat)) (.arr (ver+1) e (sz+1) v') (fun b hc=>by cases hc) (.arr (ver+1) e _ (sz+1) v' _ hk I C)
    (fun b z => by
     refine .inl ⟨_,l,?_⟩
     rcases D with⟨h0,a,rfl⟩|⟨g,n,c,he,_,hc,rfl⟩
     ·cases a<;>cases z
     ·subst he
      cases c with
      |zero=>cases z
      |succ c=>cases z;rfl) a6
   have hR:R S (upd loc id (.arr (ver+1) e (sz+1) v')) (.ref id (ver+1)) v':= .ref id (ver+1) v' _ ho (cf _ _ _) fun y e' a9 b1 he=>by
    cases he;exact⟨AB _,fun _=>rfl⟩
   exact⟨v',S,_,k1,a4,hR⟩
theorem lZ(h:Sim P X S loc s tm w){L:Nat}{t:TypeId}{x v:RV}{F E O:Option RV}{q o y:Option Value}{u:Ups}{r:List Nat}{G:Value}(hl:dx P L t x F E O s.boxes=some ((v,u),r,true))(z:R S loc x G)
  (h1:RO S loc F q) (i:RO S loc E o) (D:RO S loc O y):
  ∃v' S' loc',(Instr.sliceAt t G q o y).run P w= .ok v' w∧Sim P X S' loc' (s.ups u) tm w∧R S' loc' v v':=by
 have fin:(∃v',(Instr.sliceAt t G q o y).run P w= .ok v' w∧R S loc v v'∧u=[])->∃v' S' loc',(Instr.sliceAt t G q o y).run P w= .ok v' w∧Sim P X S' loc' (s.ups u) tm w∧R S' loc' v v':=by
  rintro⟨v',g1,g2,rfl⟩
  exact⟨v',S,loc,g1,h,g2⟩
 cases D with
 |some D=>
  unfold dx at hl
  rcases hu:P.underlying t with _|d
  ·simp only [hu]at hl;exact fE s.boxes hl
  rw [hu]at hl
  by_cases C:∃id ver,x= .ref id ver
  ·obtain⟨id,ver,rfl⟩:=C
   cases d<;>first|exact fE s.boxes hl|skip
   exact fin (l3 h hu hl z h1 i D)
  rcases x with p|_|_|_|_|_|_|⟨_,_|_⟩|_|_|_|_|_<;>first|(cases d<;>exact fE s.boxes hl)|exact(C ⟨_,_,rfl⟩).elim|skip
  cases p<;>first|(cases d<;>exact fE s.boxes hl)|skip
  cases d<;>first|exact fE s.boxes hl|skip
  case slice es e=>
   simp only [jo]at hl
   rcases f:bnd F 0 with _|l
   ·simp only [f]at hl;exact fE s.boxes hl
   rcases E with _|(⟨⟨_⟩|⟨_,J⟩|_|_|_|_⟩|_|_|_|_|_|_|_|_|_|_|_|_)<;>first|(simp only [f]at hl;exact fE s.boxes hl)|skip
   rename_i N vm _
   rcases N with⟨⟨_⟩|⟨_,m⟩|_|_|_|_⟩|_|_|_|_|_|_|_|_|_|_|_|_<;>first|(simp only [f]at hl;exact fE s.boxes hl)|skip
   rcases hk:szT P e with _|_|k
   ·simp only [f,hk]at hl;exact fE s.boxes hl
   ·simp only [f,hk]at hl;exact fE s.boxes hl
   simp only [f,hk]at hl
   by_cases B:l=0∧J=0∧m=0
   rotate_left
   ·rw [if_neg B]at hl;exact fE s.boxes hl
   rw [if_pos B]at hl
   obtain⟨rfl,rfl,rfl⟩:=B
   obtain⟨_,r1,r2,g1,g2,_⟩:=M.bind_some hl
   obtain⟨K,_,_⟩:=M.cU g1
   obtain⟨g3, -, -⟩:=M.cg g2
   cases g3
   obtain⟨ad,c,rfl,hc⟩:=iP z.gn
   obtain⟨loc',Y,q2,_⟩:=h.gQ (es:=[]) (xs:=[]) K (Step.refl none w) hk (hdr:= .slice ad 0 0) (.inr ⟨rfl,rfl,ad,rfl⟩) (Flat.nil S _) (fun g W=>by cases ad<;>cases W) rfl
   have U:=D.cC
   subst U
   refine⟨_,S,loc',?_,Y,q2⟩
   cases i with
   |some i=>
    have e2:=i.cC
    subst e2
    cases h1 with
    |none=>simp [Instr.sliceAt,run_underlying hu,Instr.slice,Instr.sliceBounds,Instr.sliceBound,asIntOf,ct hk]
    |some h1=>
     obtain⟨k,rfl⟩:=gK f
     simp only [bnd,AD]at f
     try subst f
     have H:=h1.cC
     subst H
     simp [Instr.sliceAt,run_underlying hu,Instr.slice,Instr.sliceBounds,Instr.sliceBound,asIntOf,ct hk]
 |none=>
  rcases hu:P.underlying t with _|d
  ·unfold dx at hl;simp only [hu]at hl;exact fE s.boxes hl
  rcases x with p|_|_|_|_|_|⟨id,ver⟩|⟨id,off⟩|_|_|⟨id,ver,a,b⟩|_|_<;>first|exact fin (mS hl z h1 i)|skip
  case ptr=>
   unfold dx at hl
   rw [hu]at hl
   cases d<;>first|exact fE s.boxes hl|skip
   cases off<;>first|exact fE s.boxes hl|skip
   cases h1<;>first|exact fE s.boxes hl|skip
   cases i<;>first|exact fE s.boxes hl|skip
   exact lX h hl z
  case cptr=>
   unfold dx at hl
   rw [hu]at hl
   cases d<;>first|exact fE s.boxes hl|skip
   cases h1<;>first|exact fE s.boxes hl|skip
   cases i<;>first|exact fE s.boxes hl|skip
   exact fin (lY hl z)
  case ref=>
   unfold dx at hl
   rw [hu]at hl
   cases d<;>first|exact fE s.boxes hl|skip
   simp only at hl
   obtain⟨T,r1,r2,g1,g2,_⟩:=M.bind_some hl
   obtain⟨hb,_,_⟩:=M.get_some g1
   cases T with
   |var _=>exact fE s.boxes g2
   |dead=>exact fE s.boxes g2
   |map _ _ _=>exact fE s.boxes g2
   |nest _ _ _ _ _=>exact fE s.boxes g2
   |mapn _ _ _ _ _=>exact fE s.boxes g2
   |hole _ _ _ _ _ _=>exact fE s.boxes g2
   |deep _ _ _ _ _ _ _=>exact fE s.boxes g2
   |arr Q e' es=>
    refine fin (gx h hu g2 (fun I n _ _=>?_) h1 i)
    rw [hb]at n
    cases n
    obtain⟨sz,xs,j,hsz,how,hf⟩:=h.fm hb z
    exact⟨sz,_,j,hsz,gz.ref how⟩
  case view=>
   unfold dx at hl
   rw [hu]at hl
   cases d<;>first|exact fE s.boxes hl|skip
   simp only at hl
   refine fin (gx h hu hl (fun I n _ _=>?_) h1 i)
   obtain⟨sz,xs,hdr,j,hsz,how,hf,ho,hd⟩:=h.iW n z
   exact⟨sz,hdr,j,hsz,hd⟩
  case cL=>
   unfold dx at hl
   rw [hu]at hl
   cases d<;>first|exact fE s.boxes hl|skip
   rename_i e
   simp only at hl
   rcases f:bnd F 0 with _|l
   ·simp only [f]at hl;exact fE s.boxes hl
   rcases E with _|(⟨⟨_⟩|⟨_,J⟩|_|_|_|_⟩|_|_|_|_|_|_|_|_|_|_|_|_)<;>first|(simp only [f]at hl;exact fE s.boxes hl)|skip
   rcases hk:szT P e with _|k
   ·simp only [f,hk]at hl;exact fE s.boxes hl
   simp only [f,hk]at hl
   by_cases B:l=0∧J=0
   rotate_left
   ·rw [if_neg B]at hl;exact fE s.boxes hl
   rw [if_pos B]at hl
   obtain⟨rfl,rfl⟩:=B
   obtain⟨g3, -, -⟩:=M.cd hl
   cases g3
   cases z
   refine fin ⟨.slice none 0 0,?_,.cL,rfl⟩
   cases i with
   |some i=>
    have e2:=i.cC
    subst e2
    cases h1 with
    |none=>simp [Instr.sliceAt,run_underlying hu,Instr.slice,Instr.sliceBounds,Instr.sliceBound,asIntOf,ct hk]
    |some h1=>
     obtain⟨k,rfl⟩:=gK f
     simp only [bnd,AD]at f
     try subst f
     have H:=h1.cC
     subst H
     simp [Instr.sliceAt,run_underlying hu,Instr.slice,Instr.sliceBounds,Instr.sliceBound,asIntOf,ct hk]
  all_goals
   unfold dx at hl
   rw [hu]at hl
   cases d<;>exact fE s.boxes hl
theorem Flat.append{sz:Nat}{es g:List PD}{xs ys:List Value}(h:Flat S sz es xs)(hl:xs.length=es.length*sz)(b:Flat S sz g ys):Flat S sz (es++g) (xs++ys):=by
 refine⟨fun e he=>(List.mem_append.1 he).elim (h.len e) (b.len e),fun u hu=>(List.mem_append.1 hu).elim (h.one u) (b.one u),fun i e j x a k=>?_⟩
 by_cases c:i<es.length
 ·rw [AR c]at a
  obtain⟨u,hu,f⟩:=h.cell i e j x a k
  exact⟨u,by rw [AR (List.getElem?_eq_some_iff.1 hu).1];exact hu,f⟩
 ·rw [AS om]at a
  obtain⟨u,hu,f⟩:=b.cell (i-es.length) e j x a k
  refine⟨u,?_,f⟩
  have hle:es.length*sz<=i*sz:=A9 _ om
  rw [AS om, <-hu]
  congr 1
  rw [hl,Nat.sub_mul]
  omega
def Appd(w:World)(S:cp)(sz:Nat)(b:Value)(es:List PD):Prop:=
 ∃a c news,b= .slice a es.length c∧news.length=es.length*sz∧Flat S sz es news∧(es≠ []->∃ad,a=some ad∧∀(j:Nat)u,news[j]? =some u->w.cell? (ad.add j)=some u)
theorem c9(h:Sim P X S loc s tm w){x:RV}{es:List PD}{r:List Nat}{vx:Value}{sz:Nat}(hl:dB x s.boxes=some (es,r,true))(G:R S loc x vx)(I:0<sz)(hsz:∀e∈es,e.cells.length=sz):
  Appd w S sz vx es:=by
 rcases x with p|_|_|_|_|_|⟨id,ver⟩|_|_|_|_|_|_<;>first|exact fE s.boxes hl|skip
 ·cases p<;>first|exact fE s.boxes hl|skip
  rename_i v
  obtain⟨h1, -, -⟩:=M.cd (b:=s.boxes) hl
  subst h1
  by_cases F:es=[]
  ·subst F
   obtain⟨a,c,rfl,_⟩:=iP G.gn
   exact⟨a,c,[],rfl,sm,Flat.nil S _,fun h=>(h rfl).elim⟩
  ·obtain⟨O,r0,K⟩:∃e r,es=e::r:=by
    cases es with
    |nil=>exact(F rfl).elim
    |cons e r=>exact⟨e,r,rfl⟩
   have h0:es[0]? =some O:=by rw [K];rfl
   obtain⟨b,o,c,l,f,rfl,hc,D,hS,hV⟩:=G.gn.elem h0
   have:l=sz:=by rw [<-D O (A1 h0)];exact hsz O (A1 h0)
   subst this
   have key:∀q,q<es.length*l->∃e x,es[q / l]? =some e∧e.cells[q%l]? =some x:=by
    intro q C
    have h1:q / l<es.length:=(Nat.div_lt_iff_lt_mul I).2 C
    have t:q%l<(es[q / l]).cells.length:=by rw [D _ (Ah h1)];exact Nat.mod_lt _ I
    exact⟨_,_,zc h1,zc t⟩
   have E:∀q u,((AI (es.length*l)).map (fun q=>f (q / l) (q%l)))[q]? =some u->q<es.length*l∧u=f (q / l) (q%l):=by
    intro q u C
    rw [As]at C
    cases hr:(AI (es.length*l))[q]? with
    |none=>simp [hr]at C
    |some k=>
     simp only [hr,Ax,AD]at C
     obtain⟨Y,he⟩:=List.getElem?_eq_some_iff.1 hr
     simp at Y he
     subst he
     exact⟨Y,C.symm⟩
   have H:∀q,q<es.length*l->S ⟨b,o+q,none⟩=some (f (q / l) (q%l)):=by
    intro q C
    obtain⟨e,x,h1,t⟩:=key q C
    have:=hS _ e _ x h1 t
    rw [<-this]
    congr 2
    have:=Nat.div_add_mod q l
    rw [Az]at this
    omega
   refine⟨_,c,(AI (es.length*l)).map (fun q=>f (q / l) (q%l)),rfl,sm,⟨D,?_,?_⟩,fun _=>⟨_,rfl,?_⟩⟩
   ·intro u hu
    obtain⟨q,C,a1⟩:=List.getElem_of_mem hu
    obtain⟨h1,t⟩:=E q u (by rw [zc C,a1])
    exact h.fy _ u (by rw [t];exact H q h1)
   ·intro i e j x Q T
    have m:=(List.getElem?_eq_some_iff.1 Q).1
    have U:j<l:=by
     have:=(List.getElem?_eq_some_iff.1 T).1
     rw [D e (A1 Q)]at this
     exact this
    have C:i*l+j<es.length*l:=by
     have:=A9 l (show i+1<=es.length from m)
     rw [A6,Aa]at this
     omega
    refine⟨f i j,?_,hV i e j x Q T⟩
    rw [As,List.getElem?_range C]
    simp only [Ax,AD]
    have hd:(i*l+j) / l=i:=by
     rw [Az,Nat.mul_add_div I,Nat.div_eq_of_lt U,A7]
    have hm:(i*l+j)%l=j:=by
     rw [Az,Nat.mul_add_mod,Nat.mod_eq_of_lt U]
    rw [hd,hm]
   ·intro q u C
    obtain⟨h1,rfl⟩:=E q u C
    rw [cV]
    exact h.imm _ _ (H q h1)
 ·obtain⟨h1, -, -⟩:=M.cd (b:=s.boxes) hl
  subst h1
  cases G with
  |cL=>exact⟨none,0,[],rfl,sm,Flat.nil S _,fun h=>(h rfl).elim⟩
 ·obtain⟨bx,r1,r2,h1,t,_⟩:=M.bind_some hl
  obtain⟨hb,_,_⟩:=M.get_some h1
  cases bx with
  |arr J e' v=>
   by_cases z:ver=J
   rotate_left
   ·simp only [z,if_false]at t;exact fE s.boxes t
   simp only [z,if_true]at t
   subst z
   obtain⟨h3, -, -⟩:=M.cd t
   subst h3
   obtain⟨l,xs,W,D,how,hf⟩:=h.fm hb G
   by_cases F:es=[]
   ·subst F
    obtain⟨a,c,rfl,_⟩:=how.hdr
    exact⟨a,c,[],rfl,sm,Flat.nil S _,fun h=>(h rfl).elim⟩
   ·obtain⟨O,r0,K⟩:∃e r,es=e::r:=by
     cases es with
     |nil=>exact(F rfl).elim
     |cons e r=>exact⟨e,r,rfl⟩
    have hm:O∈es:=by rw [K];simp
    have:l=sz:=by rw [<-hf.len O hm];exact hsz O hm
    subst this
    have L:0<es.length:=by rw [K];simp
    have how:=how.fw L
    obtain⟨g,c,rfl⟩:=ec how L
    exact⟨_,c,xs,rfl,how.1,hf,fun _=>⟨_,rfl,how.cells rfl⟩⟩
  |var _=>exact fE s.boxes t
  |dead=>exact fE s.boxes t
  |map _ _ _=>exact fE s.boxes t
  |nest _ _ _ _ _=>exact fE s.boxes t
  |mapn _ _ _ _ _=>exact fE s.boxes t
  |hole _ _ _ _ _ _=>exact fE s.boxes t
  |deep _ _ _ _ _ _ _=>exact fE s.boxes t
 ·rename_i id ver B m
  obtain⟨bx,r1,r2,h1,t,_⟩:=M.bind_some hl
  obtain⟨hb,_,_⟩:=M.get_some h1
  cases bx with
  |arr J e' v=>
   by_cases z:ver=J
   rotate_left
   ·simp only [z,if_false]at t;exact fE s.boxes t
   simp only [z,if_true]at t
   subst z
   obtain⟨h3, -,h4⟩:=M.cg t
   subst h3
   have hn:B<=m∧m<=v.length:=of_decide_eq_true h4.symm
   obtain⟨l,xs,hdr,W,D,how,hf,ho,hd⟩:=h.iW hb G
   have hlen:((v.drop B).take (m-B)).length=m-B:=by rw [Aw,Av];omega
   have E:∀(i:Nat)x,((v.drop B).take (m-B))[i]? =some x->v[B+i]? =some x:=by
    intro i x G
    rw [AH]at G
    split at G
    ·rwa [AG]at G
    ·cases G
   by_cases F:m-B=0
   ·have:(v.drop B).take (m-B)=[]:=by rw [F];rfl
    rw [this]
    rcases hd with⟨rfl,a,rfl⟩|⟨g,n,c,rfl,_,_,rfl⟩
    ·exact⟨a,0,[],rfl,sm,Flat.nil S _,fun h=>(h rfl).elim⟩
    ·exact⟨_,c-B,[],by rw [F];rfl,sm,Flat.nil S _,fun h=>(h rfl).elim⟩
   ·rcases hd with⟨rfl,a,rfl⟩|⟨g,n,c,rfl,_,_,rfl⟩
    ·omega
    have L:0<v.length:=by omega
    have a2:((v.drop B).take (m-B))[0]? =some (v[B]'om):=by
     rw [AH,if_pos om,AG,A7,zc]
    have:l=sz:=by rw [<-hf.len _ (Ah (by omega:B<v.length))];exact hsz _ (A1 a2)
    subst this
    have N:=how.fw L
    have a4:=N.1
    have hmul:B*l+(m-B)*l=m*l:=by rw [<-A6];congr 1;omega
    have hle:m*l<=v.length*l:=A9 _ hn.2
    refine⟨_,c-B,(xs.drop (B*l)).take ((m-B)*l),by rw [hlen],?_,⟨?_,?_,?_⟩,fun _=>⟨_,rfl,?_⟩⟩
    ·rw [hlen,Aw,Av];omega
    ·exact fun x G=>hf.len x (A2 (A3 G))
    ·exact fun x G=>hf.one x (A2 (A3 G))
    ·intro i x j y Q T
     obtain⟨q,C,hv⟩:=hf.cell (B+i) x j y (E i x Q) T
     refine⟨q,?_,hv⟩
     have a0:i<m-B:=by
      have:=(List.getElem?_eq_some_iff.1 Q).1
      rw [hlen]at this
      exact this
     have a3:j<l:=by
      have:=(List.getElem?_eq_some_iff.1 T).1
      rw [hf.len x (A1 (E i x Q))]at this
      exact this
     have hm:(i+1)*l<=(m-B)*l:=A9 _ a0
     rw [A6,Aa]at hm
     rw [AH,if_pos om,AG, <-C]
     congr 1
     rw [A6]
     omega
    ·intro j q C
     rw [AH]at C
     split at C
     ·rw [AG]at C
      have:=N.cells (g:=g) rfl _ q C
      rw [cV]at this⊢
      rw [<-this];congr 2;omega
     ·cases C
  |var _=>exact fE s.boxes t
  |dead=>exact fE s.boxes t
  |map _ _ _=>exact fE s.boxes t
  |nest _ _ _ _ _=>exact fE s.boxes t
  |mapn _ _ _ _ _=>exact fE s.boxes t
  |hole _ _ _ _ _ _=>exact fE s.boxes t
  |deep _ _ _ _ _ _ _=>exact fE s.boxes t
end
end Go.Dw
