
import Derived.Test.YtfmoipelhfkdkaaGreatDoorReLawW
import Derived.KernelRfl
import Derived.Test.YtfmoipelhfkdkaaGreatDoorReLawEB
import Derived.Test.YtfmoipelhfkdkaaGreatDoorReCo
open List renaming any_eq_false->H0, any_eq_true->H2, append_assoc->DC, append_nil->EP, concat_eq_append->H3, cons_append->Em, eq_nil_of_length_eq_zero->ER, eq_nil_or_concat->H4, exists_cons_of_ne_nil->H5, exists_mem_of_ne_nil->H6, filter_append->Gh, filter_cons->H7, find?_cons_of_pos->H8, flatMap_append->H9, flatMap_cons->Gm, flatten_append->Ha, flatten_cons->Gn, flatten_nil->Hb, foldl_append->Hc, getD_eq_getElem?_getD->En, getElem_append_left->GB, getElem_cons_zero->Hd, getElem_map->GD, getElem_mem->Dn, getElem_of_mem->Gq, headD_cons->He, length->GF, length_append->ES, length_cons->DW, length_filter_le->Gs, length_map->E9, length_nil->DX, length_range->Hg, length_take->EF, map_append->FF, map_congr_left->Gt, map_map->Gu, mem_append->Eu, mem_cons->FN, mem_erase_of_ne->Hh, mem_singleton->Ew, nil_append->D0, pairwise_singleton->Hi, range->DG, range_succ->Hj, set_getElem_self->GL, sublist_flatten_of_mem->HI, take_append_drop->HO, take_length->GM
open Go.Dw.Ok renaming bind->GQ, eq->GR, get->GS, loop->GU, mod->GV, n5->GW, nx->GX, ret->G0, st->G3, tF->G4, upto->G6
open Go.IntKind renaming wrap->FM
open Nat renaming le_refl->DA, zero_le->DJ
open Int renaming le_refl->Fa
open Option.some renaming inj->E8, injEq->DB
open Option renaming getD_some->FK
open Classical renaming byContradiction->G9
open Bool renaming and_eq_true->D6

set_option maxRecDepth 100000
set_option maxHeartbeats 4000000
namespace Go.Dw.Re
open Go.Dw
theorem get2{α:Type}(A:List α)(y x:α)(T:List α){n:Int}(f:n=A.length+1):dF (A++y::x::T) n=some x:=by
 have:=get1 (A++[y]) x T (n:=n) so
 simpa using this
theorem set2{α:Type}(A:List α)(y x z:α)(T:List α){n:Int}(f:n=A.length+1):tC (A++y::x::T) n z=some (A++y::z::T):=by
 have:=set1 (A++[y]) x z T (n:=n) so
 simpa using this
def le1(x y:Pick):Prop:=x.bt<=y.bt
theorem lit1_eq(a b:Pick):fI a b=some (sY a.bt b.bt):=by
 unfold fI
 rw [Sd.lE];rfl
theorem cmpI_neg{a b:Int}:sY a b<0↔a<b:=by
 unfold sY
 by_cases h1:a<b
 ·simp [h1]
 ·by_cases f:a>b<;>simp [h1,f]
theorem qc{α:Type}{c:α->α->Int}(hc:Tot c):∀{r s:List α},r.Pairwise (fun x y=>c x y<0)->s.Pairwise (fun x y=>c x y<0)->(∀x,x∈r↔x∈s)->r=s
 | [],[],_,_,_=>rfl
 | [],b::s,_,_,h=>by have:=(h b).2 zc;cases this
 |a::r,[],_,_,h=>by have:=(h a).1 zc;cases this
 |a::r,b::s,h1,C,h=>by
  obtain⟨q,D⟩:=List.pairwise_cons.1 h1
  obtain⟨u,hs⟩:=List.pairwise_cons.1 C
  have j:a=b:=by
   rcases List.mem_cons.1 ((h a).1 zc)with e|hm
   ·exact e
   ·rcases List.mem_cons.1 ((h b).2 zc)with e|k
    ·exact e.symm
    ·have F:=u a hm
     have G:=q b k
     have:=hc.uV a b
     omega
  subst j
  have B:∀{t:List α},(∀y∈t,c a y<0)->a∉t:=fun h E=>by have:=h a E;have:=hc.refl a;omega
  have:r=s:=qc hc D hs fun x=>by
   have:=h x
   simp only [FN]at this
   constructor
   ·intro f
    rcases this.1 (.inr f)with e|g
    ·subst e;exact(B q f).elim
    ·exact g
   ·intro f
    rcases this.2 (.inr f)with e|g
    ·subst e;exact(B u f).elim
    ·exact g
  rw [this]
def cEb(a b:Pick):Int:=if sY a.bt b.bt≠0 then sY a.bt b.bt else fT a b
theorem cE_tot:Tot cEb:=(tc.map fun x:Pick=>x.bt).or df
def lx(a b:Pick):Prop:=cEb a b<0
theorem lx_lt{a b:Pick}(h:a.bt<b.bt):lx a b:=by
 unfold lx cEb sY;simp [h]
theorem lx_le{a b:Pick}(h:a.bt<=b.bt)(f:fT a b<0):lx a b:=by
 by_cases e:a.bt<b.bt
 ·exact lx_lt e
 ·have:a.bt=b.bt:=by omega
  unfold lx cEb
  rw [if_neg (by rw [this];simp [xi.2])]
  exact f
theorem lx_early{a b:Pick}(h:lx a b):a.bt<=b.bt:=by
 unfold lx cEb at h
 by_cases e:sY a.bt b.bt=0
 ·rw [xi]at e;omega
 ·rw [if_pos e,cmpI_neg]at h;omega
theorem sinner_ok(i:Nat)(L C:List Pick)(x:Pick)(I:L.Pairwise lx)(hl:L.length<=1000)(Q:∀a∈L,fT a x<0):
  Ok (cI (dq 0 (i:Int)) ((L.length:Int),L++x::C)) (fun o=>o.1=i∧∃D,o.2=D++C∧D.Perm (x::L)∧D.Pairwise lx):=by
 refine GU (fun s=>∃A B:List Pick,s=((A.length:Int),A++x::(B++C))∧A++B=L∧∀b∈B,lx x b) (fun s=>s.1.toNat) ?_ ⟨L,[],zc,zc,zc⟩
 rintro s ⟨A,B,rfl,j,K⟩
 have H:A.length<=1000:=by have:=congrArg GF j;simp at this;omega
 have f:(∀a∈A,lx a x)->Ok (some (dE.stop ((i:Int),A++x::(B++C)))) (Ok.S (fun s=>∃A B:List Pick,s=((A.length:Int),A++x::(B++C))∧A++B=L∧∀b∈B,lx x b) (fun s=>s.1.toNat) (fun o:Int×List Pick=>o.1=i∧∃D,o.2=D++C∧D.Perm (x::L)∧D.Pairwise lx) ((A.length:Int),A++x::(B++C))):=by
  intro O
  refine G3 ⟨rfl,A++x::B,zc,?_,?_⟩
  ·rw [<-j];exact List.perm_middle
  ·rw [<-j]at I
   obtain⟨T,U,W⟩:=List.pairwise_append.1 I
   refine List.pairwise_append.2 ⟨T,List.pairwise_cons.2 ⟨K,U⟩,fun a k b r=>?_⟩
   rcases List.mem_cons.1 r with rfl|r
   ·exact O a k
   ·exact W a k b r
 unfold dq
 dsimp only
 refine GW (fun E=>?_) (fun hle=>?_)
 rotate_left
 ·have:A=[]:=ER za
  subst this
  exact f zc
 rcases H4 A with rfl|⟨g,y,rfl⟩
 ·simp at E
 simp only [ES,DW,DX,DC,Em,D0,H3]at H E f⊢
 have hw:FM .i64 (((g.length+(0+1):Nat):Int)-1)=(g.length:Int):=by rw [w64 za za];omega
 rw [hw]
 have J:inO (g++y::x::(B++C)) ((g.length+(0+1):Nat):Int)=some ():=rY za so
 have q:∀z,inO (g++y::z::(B++C)) (g.length:Int)=some ():=fun z=>rY za so
 rw [J,ze,get2 g y x (B++C) za,ze,q,ze,get1 g y _ rfl,ze,lit1_eq,ze]
 refine GW (fun F=>?_) (fun u=>?_)
 ·rw [ze,ze,ze,ze,ze,set2 g y x y (B++C) za,ze,q,ze,set1 g y x _ rfl,ze]
  rw [cmpI_neg]at F
  refine GX ⟨g,y::B,rfl,by simpa using j,fun b r=>?_⟩ zd
  rcases List.mem_cons.1 r with rfl|r
  ·exact lx_lt F
  ·exact K b r
 ·refine f fun a k=>?_
  rw [cmpI_neg]at u
  have N:y.bt<=x.bt:=Int.not_lt.1 u
  have G:∀a∈g++[y],a∈L:=fun a k=>by
   rw [<-j]
   simp only [H3]
   exact List.mem_append.2 (.inl k)
  refine lx_le ?_ (Q a (G a k))
  rw [Eu,Ew]at k
  rcases k with k|rfl
  ·have:(g++(y::B)).Pairwise lx:=by
    have:=I
    rw [<-j]at this
    simpa using this
   have:=lx_early ((List.pairwise_append.1 this).2.2 a k y zc)
   exact Int.le_trans this N
  ·exact N
theorem qz(d:List Pick)(O:d.length<=1000)(hs:d.Pairwise (fun a b=>fT a b<0)):Ok (bX 0 (d.length:Int) d) (fun r=>r.Perm d∧r.Pairwise lx):=by
 unfold bX
 rw [w64 (n:=0+1) za za]
 refine GQ (P:=fun r=>r.Perm d∧r.Pairwise lx) (GU (fun s=>∃(D C:List Pick),s=(((if d=[]then 1 else D.length:Nat):Int),D++C)∧(∃T,T++C=d∧D.Perm T)∧D.Pairwise lx∧(d≠ []->1<=D.length)) (fun s=>((d.length:Int)-s.1).toNat) ?_ ?_) (fun o ho=>G0 ho)
 ·rintro s ⟨D,C,rfl,⟨T,u,hp⟩,q,h1⟩
  unfold cN
  dsimp only
  have F:D.length+C.length=d.length:=by have:=hp.length_eq;have:=congrArg GF u;rw [ES]at this;omega
  refine GW (fun k=>?_) (fun B=>?_)
  ·have f:d≠ []:=fun e=>by subst e;simp at k
   rw [if_neg f]at k⊢
   rcases C with _|⟨x,C⟩
   ·simp at F;omega
   have j:=hs
   rw [<-u]at j
   obtain⟨Q,U,N⟩:=List.pairwise_append.1 j
   refine GQ (sinner_ok D.length D C x q za fun a I=>N a (hp.mem_iff.1 I) x zc) (fun o ho=>?_)
   obtain⟨J,G,K,H,L⟩:=ho
   rw [J,K,w64 za za]
   have E:G.length=D.length+1:=by have:=H.length_eq;simpa using this
   refine GX ⟨G,C,?_,⟨T++[x],by simpa using u,?_⟩,L,fun _=>za⟩ zd
   ·rw [if_neg f,E];simp
   ·exact H.trans (((List.Perm.cons x hp)).trans (List.perm_append_singleton x T).symm)
  ·rw [ze]
   have g:(D++C).Perm d:=by rw [<-u];exact hp.append_right C
   refine G3 ⟨g,?_⟩
   by_cases f:d=[]
   ·subst f
    have:D++C=[]:=ER (by simpa using g.length_eq)
    rw [this];exact .nil
   ·rw [if_neg f]at B
    have:C=[]:=ER za
    subst this
    simpa using q
 ·by_cases f:d=[]
  ·subst f
   exact⟨[],[],zc,⟨[],rfl,.refl _⟩,.nil,fun h=>(h rfl).elim⟩
  ·refine⟨d.take 1,d.drop 1,?_,⟨d.take 1,HO 1 d,.refl _⟩,?_,fun _=>?_⟩
   ·rw [if_neg f,HO]
    have:=List.length_pos_iff.2 f
    simp;omega
   ·rcases d with _|⟨a,d⟩
    ·exact(f rfl).elim
    ·simp
   ·have:=List.length_pos_iff.2 f
    simp;omega
theorem insertion_end(n:Nat)(f:n<=1000)(d:List Pick):bX (n:Int) (n:Int) d=some d:=by
 unfold bX
 rw [w64 za za]
 have:cN (n:Int) (n:Int) ((n:Int)+1,d)=some (.stop d):=by
  unfold cN
  dsimp only
  rw [if_neg so];rfl
 rw [pJ this];rfl
theorem sstable_ok(d:List Pick)(C:d.length<=20)(hs:d.Pairwise (fun a b=>fT a b<0)):Ok (dy d) (fun r=>r.Perm d∧r.Pairwise lx):=by
 unfold dy
 refine GQ (P:=fun r=>r.Perm d∧r.Pairwise lx) ?_ (fun o ho=>G0 ho)
 unfold dR
 have f:∀r:List Pick,cI (eo (d.length:Int) r) (20:Int)=some r:=fun r=>by
  refine pJ ?_
  unfold eo
  rw [if_neg so];rfl
 by_cases g:d.length=20
 ·have q:cj (d.length:Int) ((0:Int),(20:Int),d)=(bX 0 (d.length:Int) d).bind fun B=>some (.next ((20:Int),(40:Int),B)):=by
   unfold cj
   dsimp only
   rw [if_pos so,w64 za za]
   rw [g];rfl
  obtain⟨r,e2,k⟩:=qz d za hs
  rw [e2,ze]at q
  have j:cj (d.length:Int) ((20:Int),(40:Int),r)=some (.stop ((20:Int),r)):=by
   unfold cj
   dsimp only
   rw [if_neg so]
  rw [rJ q,pJ j,ze]
  dsimp only
  have u:=insertion_end 20 za r
  rw [g]at f⊢
  rw [show((20:Nat):Int)=20 from rfl]at u f⊢
  rw [u,ze,f]
  exact G0 k
 ·have j:cj (d.length:Int) ((0:Int),(20:Int),d)=some (.stop ((0:Int),d)):=by
   unfold cj
   dsimp only
   rw [if_neg so]
  rw [pJ j,ze]
  dsimp only
  refine GQ (qz d za hs) (fun r k=>?_)
  rw [f]
  exact G0 k
theorem lastO_snoc{α:Type}(O:List α)(g:α):zg (O++[g])=some g:=by
 unfold zg
 simp
theorem qo(O:List (List Pick))(g:List Pick)(p:Pick)(i:Int)(C:O.length<=1000)(D:g.length<=1000):
  ((zg (O++[g])).bind fun f=>(inO (O++[g]) (FM .i64 (((O++[g]).length:Int)-(1:Int)))).bind fun q=>(atO (FM .i64 (((O++[g]).length:Int)-(1:Int))) ((O++[g]).length-1)).bind fun r=>(rD f [p] 104).bind fun j=>(inO (O++[g]) (FM .i64 (((O++[g]).length:Int)-(1:Int)))).bind fun u=>(stO (O++[g]).length (FM .i64 (((O++[g]).length:Int)-(1:Int))) ((O++[g]).length-1)).bind fun B=>some (dE.next (FM .i64 (i+(1:Int)),(O++[g]).set ((O++[g]).length-1) j):dE (Int×List (List Pick)) (List (List Pick))))
   =some (.next (FM .i64 (i+1),O++[g++[p]])):=by
 have hl:(O++[g]).length=O.length+1:=by simp
 have hw:FM .i64 (((O++[g]).length:Int)-1)=(O.length:Int):=by rw [hl,w64 za za];omega
 rw [hw,lastO_snoc,ze,rY za (by rw [hl];omega),ze,hl]
 have k:atO (O.length:Int) (O.length+1-1)=some ():=by unfold atO;rw [if_pos zc]
 have hs:stO (O.length+1) (O.length:Int) (O.length+1-1)=some ():=by unfold stO;rw [if_pos zc]
 rw [k,ze,dW (by simp only [DW,DX];omega),ze,ze,hs,ze]
 simp
def Gap(far:Int)(g h:List Pick):Prop:=∀b∈g,∀a∈h,far<a.bt-b.bt
structure BI(far:Int)(all:List Pick)(i:Nat)(out:List (List Pick)):Prop where
 flat:out.flatten=all.take i
 ne:∀g∈out,g≠ []
 gap:out.Pairwise (Gap far)
 pos:0<i->out≠ []
theorem len_le{out:List (List Pick)}(h:∀g∈out,g≠ []):out.length<=out.flatten.length:=by
 induction out with
 |nil=>simp
 |cons g out j=>
  have:=List.length_pos_iff.2 (h g zc)
  have:=j fun g f=>h g (by simp [f])
  rw [Gn,ES,DW];omega
theorem l36_ok(far:Int)(all:List Pick)(hl:all.length<=1000)(hs:all.Pairwise le1)(hr:∀p∈all,0<=p.bt∧p.bt<=18014398509481984):
  Ok (cI (eF all far) ((0:Int),[])) (BI far all all.length):=by
 refine GU (fun s=>∃i:Nat,s.1=i∧i<=all.length∧BI far all i s.2) (fun s=>((all.length:Int)-s.1).toNat) ?_ ⟨0,rfl,DJ _,⟨zc,zc,.nil,fun h=>za⟩⟩
 rintro⟨s3,out⟩ ⟨i,rfl,hi,q⟩
 unfold eF
 dsimp only
 refine GW (fun r=>?_) (fun a5=>?_)
 rotate_left
 ·have:i=all.length:=by omega
  subst this
  exact G3 q
 have r:i<all.length:=by omega
 have F:out.length<=1000:=by have:=len_le q.ne;rw [q.flat]at this;simp at this;omega
 have L:∀g∈out,g.length<=1000:=fun g K=>by
  have h1:=(HI K).length_le
  rw [q.flat]at h1;simp at h1;omega
 have C:all.take (i+1)=all.take i++[all[i]]:=qi r
 have B:∀g∈out,∀b∈g,∃j,∃h:j<i,all[j]'za=b:=fun g K b J=>by
  have:b∈all.take i:=by rw [<-q.flat];exact List.mem_flatten.2 ⟨g,K,J⟩
  obtain⟨j,U,e⟩:=Gq this
  simp only [EF]at U
  rw [List.getElem_take]at e
  exact⟨j,za,e⟩
 have I:∀{j k:Nat}(hk:k<all.length)(W:j<=k),(all[j]'za).bt<=all[k].bt:=fun{j k}hk W=>by
  by_cases e:j=k
  ·subst e;exact Fa _
  ·exact List.pairwise_iff_getElem.1 hs j k za hk za
 have H:(0<i->∃h:i-1<all.length,far<all[i].bt-(all[i-1]'h).bt)->BI far all (i+1) (out++[[all[i]]]):=fun K=>by
  refine⟨by rw [Ha,q.flat,C];simp,fun g f=>?_,List.pairwise_append.2 ⟨q.gap,Hi _ _,fun g f h Q=>?_⟩,fun _=>zc⟩
  ·rcases List.mem_append.1 f with f|f
   ·exact q.ne g f
   ·rw [Ew]at f;subst f;simp
  ·rw [Ew]at Q
   subst Q
   intro b J a D
   rw [Ew]at D
   subst D
   obtain⟨j,U,rfl⟩:=B g f b J
   obtain⟨h1,h2⟩:=K za
   have:=I (j:=j) (k:=i-1) h1 za
   omega
 rw [rY za za,ze,ow (i:=i) rfl r,ze]
 have G:rD out [[]] 24=some (out++[[]]):=dW (by simp only [DW,DX];omega)
 refine G4 (fun T=>?_) (fun T=>?_)
 ·have T:i=0:=by omega
  rw [G,ze,qo out [] all[i] i F zc,w64 za za]
  refine GX ⟨i+1,zc,za,?_⟩ zd
  simpa using H fun h=>by omega
 ·have T:0<i:=by omega
  have E:i-1<all.length:=by omega
  rw [w64 (n:=(i:Int)-1) za za,rY za za,ze,ow (i:=i-1) za E,ze]
  have r1:=hr _ (Dn r)
  have r2:=hr _ (Dn E)
  rw [w64 (n:=all[i].bt-(all[i-1]'E).bt) za za]
  refine GW (fun Y=>?_) (fun X=>?_)
  ·rw [G,ze,qo out [] all[i] i F zc,w64 za za]
   refine GX ⟨i+1,zc,za,?_⟩ zd
   simpa using H fun _=>⟨E,za⟩
  ·rcases H4 out with rfl|⟨O,g,rfl⟩
   ·exact(q.pos T rfl).elim
   rw [H3]at q F L B⊢
   have N:=q.ne g zc
   rw [qo O g all[i] i (by simp at F;omega) (L g zc),w64 za za]
   refine GX ⟨i+1,zc,za,?_⟩ zd
   obtain⟨p1,p2,p3⟩:=List.pairwise_append.1 q.gap
   refine⟨?_,fun g' f=>?_,List.pairwise_append.2 ⟨p1,Hi _ _,fun u hu h Q=>?_⟩,fun _=>zc⟩
   ·have:=q.flat
    simp only [Ha,Gn,Hb,EP]at this⊢
    rw [C, <-this,DC]
   ·rcases List.mem_append.1 f with f|f
    ·exact q.ne g' (by simp [f])
    ·rw [Ew]at f;subst f;simp
   ·rw [Ew]at Q
    subst Q
    intro b J a D
    rcases List.mem_append.1 D with D|D
    ·exact p3 u hu g zc b J a D
    ·rw [Ew]at D
     subst D
     rcases g with _|⟨c,g⟩
     ·exact(N rfl).elim
     have h1:=p3 u hu (c::g) zc b J c zc
     obtain⟨j,U,e⟩:=B (c::g) zc c zc
     have:=I (j:=j) (k:=i) r za
     rw [e]at this
     omega
theorem l47_ok(out:List (List Pick))(hl:out.length<=1000)(E:∀g∈out,g.length<=1000):
  Ok (cI (jh out) ((0:Int),out)) (fun x=>x.length=out.length∧∀(j:Nat)(h:j<x.length)(f:j<out.length),x[j].Perm out[j]∧x[j].Pairwise (fun a b=>fT a b<=0)):=by
 refine GU (fun s=>∃i:Nat,s.1=i∧i<=out.length∧s.2.length=out.length∧∀(j:Nat)(h:j<s.2.length)(f:j<out.length),s.2[j].Perm out[j]∧(j<i->s.2[j].Pairwise (fun a b=>fT a b<=0))) (fun s=>((out.length:Int)-s.1).toNat) ?_ ⟨0,rfl,DJ _,rfl,fun j h f=>⟨.refl _,fun h=>za⟩⟩
 rintro⟨s1,cur⟩ ⟨i,rfl,hi,hlen,hc⟩
 unfold jh
 dsimp only at hlen hc⊢
 refine GW (fun k=>?_) (fun F=>?_)
 rotate_left
 ·exact G3 ⟨hlen,fun j h f=>⟨(hc j h f).1,(hc j h f).2 za⟩⟩
 have k:i<out.length:=by omega
 have q:i<cur.length:=by omega
 have u:atO (i:Int) (Int.toNat (i:Int))=some ():=by unfold atO;rw [if_pos rfl]
 obtain⟨hp, -⟩:=hc i q k
 have B:cur[i].length<=1000:=by rw [hp.length_eq];exact E _ (Dn k)
 obtain⟨m,C,e2,D⟩:=sort_at B
 rw [ow (i:=i) rfl q,ze,rY za za,ze,u,ze,C,ze,w64 za za]
 refine GX ⟨i+1,zc,za,by simpa using hlen,fun j h f=>?_⟩ zd
 simp only [Int.toNat_natCast,List.length_set]at h⊢
 rw [List.getElem_set]
 by_cases r:i=j
 ·subst r
  rw [if_pos rfl]
  exact⟨e2.trans hp,fun _=>D⟩
 ·rw [if_neg r]
  exact⟨(hc j h f).1,fun G=>(hc j h f).2 za⟩
theorem re:∀{x y:List (List Pick)},x.length=y.length->(∀(j:Nat)(h:j<x.length)(q:j<y.length),x[j].Perm y[j])->x.flatten.Perm y.flatten
 | [],[],_,_=>.refl _
 | [],_::_,h,_=>by simp at h
 |_::_,[],h,_=>by simp at h
 |g::x,k::y,h,hp=>by
  have f:=hp 0 zc zc
  have:=re (x:=x) (y:=y) (by simpa using h) fun j h1 r=>hp (j+1) so so
  simpa using f.append this
structure jV(far:Int)(l:List Pick)(x:List (List Pick)):Prop where
 flat:∃s:List Pick,da l=some s∧s.length<=l.length∧s.Pairwise (fun a b=>fT a b<0)∧(∀p,p∈s↔p∈l)∧x.flatten.Perm s
 ne:∀g∈x,g≠ []
 gap:x.Pairwise (Gap far)
 sorted:∀g∈x,g.Pairwise (fun a b=>fT a b<0)
theorem oR(far:Int)(l:List Pick)(hl:l.length<=20)(X:∀p∈l,cG p):Ok (bT far l) (jV far l):=by
 unfold bT
 obtain⟨s,K,e2,L,e4⟩:=oc (l:=l) za
 rw [K,ze]
 refine GQ (sstable_ok s za e2) (fun all D=>?_)
 have T:all.length=s.length:=D.1.length_eq
 refine GQ (l36_ok far all za (D.2.imp fun h=>lx_early h) fun p hp=>?_) (fun out C=>?_)
 ·have:=X p ((L p).1 (D.1.mem_iff.1 hp))
  exact⟨this.2.1,by have:=this.2.2;omega⟩
 have f:out.flatten=all:=by rw [C.flat];simp
 have I:out.length<=1000:=by have:=len_le C.ne;rw [f]at this;omega
 refine GQ (l47_ok out I fun g B=>?_) (fun x Y=>?_)
 ·have h1:=(HI B).length_le
  rw [f]at h1;omega
 obtain⟨J,r⟩:=Y
 have q:x.flatten.Perm s:=(re J fun j h N=>(r j h N).1).trans (by rw [f];exact D.1)
 have H:s.Nodup:=e2.imp fun{a b}h e=>by
  subst e
  have:=df.refl a
  omega
 refine G0 ⟨⟨s,K,za,e2,L,q⟩,fun g B=>?_,?_,fun g B=>?_⟩
 ·obtain⟨j,u,rfl⟩:=Gq B
  have h1:=(r j u za).1
  intro e
  rw [e]at h1
  exact C.ne _ (Dn za) h1.nil_eq.symm
 ·rw [List.pairwise_iff_getElem]
  intro j k u hk G b U a F
  have h1:=List.pairwise_iff_getElem.1 C.gap j k za za G
  exact h1 b ((r j u za).1.mem_iff.1 U) a ((r k hk za).1.mem_iff.1 F)
 ·obtain⟨j,u,rfl⟩:=Gq B
  have h1:=(r j u za).2
  have W:x[j].Nodup:=(q.nodup_iff.2 H).sublist (HI (Dn u))
  refine(h1.and W).imp fun{a b}h=>?_
  obtain⟨O,Q⟩:=h
  rcases Int.lt_or_eq_of_le O with E|E
  ·exact E
  ·exact(Q (lW E)).elim
end Go.Dw.Re
set_option maxRecDepth 100000
set_option maxHeartbeats 4000000
namespace Go.Dw.Re
open Go.Dw Go.Proofs
theorem qp{l:List Pick}(hl:l.length<=1000)(h:∀p∈l,cG p):gi l=some true:=by
 unfold gi fF gw
 have:Ok (cI (dX l) (0:Int)) (fun o=>o= .inl ()):=by
  refine G6 l.length za (fun _=>True) trivial (fun i g h1 _=>?_)
  unfold dX
  refine GW (fun f=>?_) (fun _=>G3 rfl)
  refine GQ (GS za za) (fun p hp=>?_)
  unfold jP
  rw [n9 (h p hp.1),ze,ze,if_neg zc,w64 za za]
  exact GX ⟨⟨za,za⟩,trivial⟩ za
 rw [this.eq];rfl
end Go.Dw.Re
set_option maxRecDepth 100000
set_option maxHeartbeats 4000000
namespace Go.Dw.Re
open Go.Dw Go.Proofs
open Sd (mK eE d9)
noncomputable def usedE (s:ah) (p:Pick):Option az->aw×az×Bool
 |none=>(⟨⟨0,0,0⟩,0,0,0⟩,zEp,false)
 |some e=>if(((eD s.ac.bJ s.ac.bn ⟨e.bV,p.bt,p.cg,1⟩).getD (⟨0,0⟩,0)).2 != (0:Int))=true then(⟨⟨0,0,0⟩,0,0,0⟩,zEp,false)else(⟨e.bV,p.bt,p.cg,1⟩,e,true)
theorem used_eq{s:ah}(hs:gD s){v:ae}(f:gC v){p:Pick}(hp:cG p):used s v p=usedE s p (nu v p.a7 p.bS):=by
 have h1:=(nM hs f hp).1
 unfold eC at h1
 rw [n9 hp,ze,if_neg zc,At_eq f.lens (lX f),ze]at h1
 cases h:nu v p.a7 p.bS with
 |none=>
  rw [h]at h1
  dsimp only at h1
  rw [if_pos zc]at h1
  exact(E8 h1).symm
 |some e=>
  rw [h]at h1
  dsimp only at h1
  rw [if_neg zc]at h1
  have he:=epAt_ok f h
  obtain⟨z,g, -⟩:=qq hs.tab hs.box (a:=⟨e.bV,p.bt,p.cg,1⟩) (pV he hp)
  rw [g,ze]at h1
  show _=if(((eD s.ac.bJ s.ac.bn ⟨e.bV,p.bt,p.cg,1⟩).getD (⟨0,0⟩,0)).2 != (0:Int))=true then _ else _
  rw [g]
  simp only [FK]
  split at h1<;>rename_i hc
  ·rw [if_pos hc];exact(E8 h1).symm
  ·rw [if_neg hc];exact(E8 h1).symm
structure Alike(s:ah)(v w:ae)(p:Pick):Prop where
 ph:phU s w p=phU s v p
 us:(used s w p).2.2=(used s v p).2.2
 resp:(used s w p).2.1.bW=(used s v p).2.1.bW
theorem alike{s:ah}(hs:gD s){v w:ae}(u:gC v)(hw:gC w){p:Pick}(hp:cG p)(h:¬Chg v w p):Alike s v w p:=by
 have f:(nu v p.a7 p.bS).map epPR=(nu w p.a7 p.bS).map epPR:=Classical.not_not.1 h
 have k:=used_eq hs u hp;have e2:=used_eq hs hw hp
 have key:(used s w p).1=(used s v p).1∧(used s w p).2.2=(used s v p).2.2∧(used s w p).2.1.bW=(used s v p).2.1.bW:=by
  rw [k,e2]
  cases h1:nu v p.a7 p.bS with
  |none=>
   cases g:nu w p.a7 p.bS with
   |none=>exact⟨rfl,rfl,rfl⟩
   |some b=>rw [h1,g]at f;cases f
  |some a=>
   cases g:nu w p.a7 p.bS with
   |none=>rw [h1,g]at f;cases f
   |some b=>
    rw [h1,g]at f
    have j:epPR a=epPR b:=E8 f
    have q:a.bV=b.bV:=congrArg Prod.fst j
    have r:a.bW=b.bW:=congrArg Prod.snd j
    simp only [usedE,q]
    split
    ·exact⟨rfl,rfl,rfl⟩
    ·exact⟨rfl,rfl,r.symm⟩
 exact⟨key.1,key.2.1,key.2.2⟩
theorem sol_alike{s:ah}{v w:ae}{m:List Pick}(h:∀p∈m,Alike s v w p):sol s w m=sol s v m:=by
 have f:(mat s w m).fk=(mat s v m).fk:=Gt fun p hp=>(h p hp).ph
 have e2:(mat s w m).kc.map (·.bW)=(mat s v m).kc.map (·.bW):=by
  show(m.map _).map _=(m.map _).map _
  rw [Gu,Gu]
  exact Gt fun p hp=>(h p hp).resp
 have g:mat s w m=⟨(mat s v m).gH,(mat s v m).fk,(mat s w m).kc⟩:=by rw [<-f];rfl
 unfold sol
 rw [g,solve_resp e2]
theorem rnd_alike{s:ah}{v w:ae}{O:List Pick}(h:∀p∈O,Alike s v w p):pX s w O=pX s v O:=by
 have := pj (least := s.ac.cq.toNat) (win := pq (fun p => (phU s v p).bt) s.ac.cw) (mem := oH s.ac (phU s v)) (win' := pq (fun p => (phU s w p).bt) s.ac.cw) (mem' := oH s.ac (phU s w)) (f := fun p : Pick => p) O (fun _ _ _ _ h => h) (win_ok _ _ _) O.length O (List.Sublist.refl _) (fun k g =>
  ⟨winK_map k fun x j=>by rw [(h x (g.subset j)).ph],memK_map fun x j=>(h x (g.subset ((rq _ _ k).subset j))).ph⟩)
 unfold pX
 simpa using this
theorem ord_alike{s:ah}{v w:ae}{U:List Pick}(g:U.Nodup)(h:∀p∈U,Alike s v w p):mB s w U=mB s v U:=by
 have h1:(mB s w U).Pairwise fun x y=>cmpA s w x y<0:=il (oC s w) (fun _ _=>qg) g
 have j:(mB s v U).Pairwise fun x y=>cmpA s v x y<0:=il (oC s v) (fun _ _=>qg) g
 have m1:∀x,x∈mB s w U↔x∈U:=fun x=>(cU _ U).mem_iff
 have m2:∀x,x∈mB s v U↔x∈U:=fun x=>(cU _ U).mem_iff
 refine lC (oC s v) (h1.imp_of_mem fun{x y}k q f=>?_) j fun x=>by rw [m1,m2]
 unfold cmpA at f⊢
 rw [(h x ((m1 x).1 k)).ph,(h y ((m1 y).1 q)).ph]at f
 exact f
theorem found_alike{s:ah}(hs:gD s){v w:ae}{U:List Pick}(q:U.Pairwise fun x y=>fT x y<0)(h:∀p∈U,Alike s v w p):fE s w U=fE s v U∧fR s w U=fR s v U:=by
 have j:=im df q
 have k:=ord_alike j h
 have e2:=rnd_alike (s:=s) (v:=v) (w:=w) (O:=mB s v U) fun p hp=>h p ((cU _ U).mem_iff.1 hp)
 refine⟨?_,by unfold fR;rw [k,e2]⟩
 unfold fE
 rw [k,e2]
 congr 1
 refine Gt fun g r=>?_
 have f:∀p∈g,p∈U:=fun p hp=>(oh hs (v:=v) q).mem_iff.1 (List.mem_append.2 (.inl ((HI r).subset hp)))
 unfold evM
 rw [sol_alike (v:=v) fun p hp=>h p (f p ((cU _ g).mem_iff.1 hp))]
theorem usable_alike{s:ah}{v w:ae}{L:List Pick}(h:∀p∈L,Alike s v w p):ca s w L=ca s v L:=List.filter_congr fun p hp=>(h p hp).us
end Go.Dw.Re
set_option maxRecDepth 100000
set_option maxHeartbeats 4000000
namespace Go.Dw.Re
open Go.Dw Go.Proofs
open Sd (mK eE d9)
theorem eqK_eq(a b:Pick):oD a b=decide (a=b):=eqs a b
theorem mGet_put{κ β:Type} [DecidableEq κ] {eq:κ->κ->Bool}(he:∀a b,eq a b=decide (a=b))(k:κ)(v z:β)(k':κ):∀m:List (κ×β),uP eq k' z (yj eq k v m)=if k'=k then v else uP eq k' z m
 | []=>by simp [yj,uP,he]
 |e::r=>by
  have g:=mGet_put he k v z k' r
  unfold yj
  rw [he]
  by_cases h:k=e.1
  ·rw [if_pos (by simpa using h)]
   unfold uP
   rw [he,he]
   by_cases f:k'=k
   ·rw [if_pos (by simpa using f),if_pos f]
   ·rw [if_neg (by simpa using f),if_neg f,if_neg (by rw [<-h];simpa using f)]
  ·rw [if_neg (by simpa using h)]
   unfold uP
   rw [he,g]
   by_cases f:k'=e.1<;>by_cases j:k'=k<;>simp_all
abbrev home(p:Pick)(m:List (Pick×Int)):Int:=uP oD p (0:Int) m
structure Home(X:List (List Pick))(m:List (Pick×Int)):Prop where
 at_:∀(j:Nat)(h:j<X.length)(p:Pick),p∈X[j]->home p m=j+1
 no:∀p,p∉X.flatten->home p m=0
theorem l25_ok(g:List Pick)(r:g.length<=1000)(i:Int)(hi:0<=i∧i<=1000)(m:List (Pick×Int)):
  Ok (cI (kg g i) ((0:Int),m)) (fun o=>o.1=i∧∀p,home p o.2=if p∈g then i+1 else home p m):=by
 refine GU (fun s=>∃k:Nat,s.1=k∧k<=g.length∧∀p,home p s.2=if p∈g.take k then i+1 else home p m) (fun s=>((g.length:Int)-s.1).toNat) ?_ ⟨0,rfl,DJ _,zc⟩
 rintro⟨s1,s2⟩ ⟨k,i0,i1,i2⟩
 simp only at i0 i1 i2
 subst i0
 unfold kg
 dsimp only
 refine GW (fun q=>?_) (fun j=>?_)
 ·have hk:k<g.length:=by omega
  rw [ow rfl hk,ze,w64 (n:=i+1) za za,w64 za za]
  refine GX ⟨k+1,zc,za,fun p=>?_⟩ zd
  simp only
  unfold home at i2⊢
  rw [mGet_put eqK_eq,i2 p,qi hk]
  simp only [Eu,Ew]
  by_cases e:p=g[k]<;>by_cases f:p∈g.take k<;>simp [e,f]
 ·have:k=g.length:=by omega
  subst this
  exact G3 ⟨rfl,by simpa using i2⟩
theorem l27_ok(X:List (List Pick))(G:X.length<=1000)(u:∀g∈X,g.length<=1000)(E:X.flatten.Nodup):Ok (cI (kj X) ((0:Int),[])) (Home X):=by
 obtain⟨-,r⟩:=List.pairwise_flatten.1 E
 refine GU (fun s=>∃i:Nat,s.1=i∧i<=X.length∧(∀(j:Nat)(h:j<X.length)(p:Pick),j<i->p∈X[j]->home p s.2=j+1)∧∀p,p∉(X.take i).flatten->home p s.2=0) (fun s=>((X.length:Int)-s.1).toNat) ?_ ⟨0,rfl,DJ _,fun j h p C=>za,fun p _=>rfl⟩
 rintro⟨s1,s2⟩ ⟨i,i0,i1,i2,i3⟩
 simp only at i0 i1 i2 i3
 subst i0
 unfold kj
 dsimp only
 refine GW (fun D=>?_) (fun B=>?_)
 ·have hk:i<X.length:=by omega
  rw [ow rfl hk,ze]
  refine GQ (l25_ok X[i] (u _ (Dn hk)) i ⟨za,za⟩ s2) (fun o ho=>?_)
  obtain⟨F,k⟩:=ho
  rw [F,w64 za za]
  refine GX ⟨i+1,zc,za,fun j h p C hp=>?_,fun p hp=>?_⟩ zd
  ·simp only
   rw [k]
   by_cases e:j=i
   ·subst e
    rw [if_pos hp]
   ·have f:j<i:=by omega
    have:=List.pairwise_iff_getElem.1 r j i h hk f
    rw [if_neg (fun q=>this p hp p q rfl),i2 j h p f hp]
  ·simp only
   rw [qi hk,Ha,Eu]at hp
   have h1:p∉X[i]:=fun h=>hp (.inr (by simpa using h))
   rw [k,if_neg h1]
   exact i3 p fun h=>hp (.inl h)
 ·have:i=X.length:=by omega
  subst this
  exact G3 ⟨fun j h p hp=>i2 j h p h hp,by simpa using i3⟩
def anyB(m:List (Pick×Int))(a b:ae)(k:Int)(g:List Pick):Bool:=g.any fun p=>decide (home p m≠k)||decide (Chg a b p)
def frB(X:List (List Pick))(m:List (Pick×Int))(a b:ae)(g:List Pick):Bool:=
 decide (home (g.headD ⟨⟨[],[],[],[]⟩,0,0,0,0,0⟩) m≠0)&&(decide ((X.getD (home (g.headD ⟨⟨[],[],[],[]⟩,0,0,0,0,0⟩) m-1).toNat []).length=g.length)&& !anyB m a b (home (g.headD ⟨⟨[],[],[],[]⟩,0,0,0,0,0⟩) m) g)
def dV(X:List (List Pick))(m:List (Pick×Int))(a b:ae)(Y:List (List Pick))(n:Nat):List Int:=((DG n).filter fun j=> !frB X m a b (Y.getD j [])).map fun j:Nat=>(j:Int)
structure IV(v:ae):Prop where
 len:om v
 val:cM v=some true
theorem gC.iv{v:ae}(h:gC v):IV v:=⟨h.lens,lX h⟩
theorem contains_eq(g:List Pick)(C:g.length<=1000)(k:Int){a b:ae}(q:IV a)(r:IV b)(m:List (Pick×Int)):dN g k a b m=some (anyB m a b k g):=by
 unfold dN f8
 have h1:∀(i:Nat)(hi:i<g.length),cL g k a b m (i:Int)=if(decide (home g[i] m≠k)||decide (Chg a b g[i]))=true then some (.stop (.inr (i:Int)))else some (.next ((i+1:Nat):Int)):=by
  intro i hi
  unfold cL
  rw [if_pos so,ow rfl hi,ze,w64 za za]
  unfold gy
  rw [Changed_eq q.len r.len q.val r.val]
  by_cases j:home g[i] m=k
  ·rw [if_neg (by simpa using j)]
   by_cases e2:Chg a b g[i]<;>simp [j,e2]
  ·rw [if_pos (by simpa using j)]
   simp [j]
 have u:cL g k a b m (g.length:Nat)=some (.stop (.inl ())):=by
  unfold cL
  rw [if_neg zc]
 rcases qL g (p:=fun x=>decide (home x m≠k)||decide (Chg a b x)) (f:=fun i _=>(i:Int)) h1 u with⟨e,h⟩|⟨i,hi,e,hp,h⟩
 ·rw [e]
  have:anyB m a b k g=false:=by
   unfold anyB
   rw [H0]
   intro x B
   rw [h x B];simp
  rw [this];rfl
 ·rw [e]
  have:anyB m a b k g=true:=by
   unfold anyB
   rw [H2]
   exact⟨g[i],Dn hi,hp⟩
  rw [this]
  simp
theorem l45_ok(X Y:List (List Pick))(m:List (Pick×Int)){a b:ae}(O:IV a)(Q:IV b)(hX:X.length<=1000)(C:∀g∈X,g.length<=1000)(hm:Home X m)(hY:Y.length<=1000)(T:∀g∈Y,g≠ []∧g.length<=1000):
  cI (kk Y m X a b) ((0:Int),[])=some (dV X m a b Y Y.length):=by
 refine GR (GU (fun s=>∃i:Nat,s=((i:Int),dV X m a b Y i)∧i<=Y.length) (fun s=>((Y.length:Int)-s.1).toNat) ?_ ⟨0,rfl,DJ _⟩)
 rintro s ⟨i,rfl,hi⟩
 unfold kk
 dsimp only
 refine GW (fun a5=>?_) (fun W=>?_)
 rotate_left
 ·have:i=Y.length:=by omega
  subst this
  exact G3 rfl
 have hk:i<Y.length:=by omega
 obtain⟨I,E⟩:=T _ (Dn hk)
 have a6:(dV X m a b Y i).length<=1000:=by
  unfold dV
  have:=Gs (fun j=> !frB X m a b (Y.getD j [])) (DG i)
  rw [Hg]at this
  rw [E9];omega
 have q:dV X m a b Y (i+1)=dV X m a b Y i++if frB X m a b Y[i]=true then []else [(i:Int)]:=by
  unfold dV
  rw [Hj,Gh,FF]
  congr 1
  have:Y.getD i []=Y[i]:=by rw [En,zf hk];rfl
  simp only [H7,List.filter_nil,this]
  cases frB X m a b Y[i]<;>simp
 have r:frB X m a b Y[i]=false->Ok ((rD (dV X m a b Y i) [(i:Int)] 8).bind fun K=>some (.next ((FM .i64 ((i:Int)+(1:Int))),K))) (Ok.S (fun s=>∃i:Nat,s=((i:Int),dV X m a b Y i)∧i<=Y.length) (fun s=>((Y.length:Int)-s.1).toNat) (fun o=>o=dV X m a b Y Y.length) ((i:Int),dV X m a b Y i)):=fun h=>by
  rw [dW (by simp only [DW,DX];omega),ze,w64 za za]
  exact GX ⟨i+1,by rw [q,h];simp,za⟩ zd
 rw [ow rfl hk,ze]
 have f:frB X m a b Y[i]=(decide (home (Y[i].headD ⟨⟨[],[],[],[]⟩,0,0,0,0,0⟩) m≠0)&&(decide ((X.getD (home (Y[i].headD ⟨⟨[],[],[],[]⟩,0,0,0,0,0⟩) m-1).toNat []).length=Y[i].length)&& !anyB m a b (home (Y[i].headD ⟨⟨[],[],[],[]⟩,0,0,0,0,0⟩) m) Y[i])):=rfl
 generalize Y[i]=g at*
 rcases g with _|⟨k,L⟩
 ·exact(I rfl).elim
 rw [show dF (k::L) (0:Int)=some k from rfl,ze]
 rw [He]at f
 generalize U:k::L=g at*
 show Ok (if(home k m==(0:Int))=true then _ else _) _
 refine G4 (fun u=>r (by rw [f];simp [u])) (fun u=>?_)
 have F:k∈X.flatten:=by
  apply G9
  intro h
  exact u (hm.no k h)
 obtain⟨x,N,J⟩:=List.mem_flatten.1 F
 obtain⟨j,G,rfl⟩:=Gq N
 have H:=hm.at_ j G k J
 have a9:=C _ N
 show Ok ((dF X (FM .i64 (home k m-1))).bind _) _
 have D:X.getD (home k m-1).toNat []=X[j]:=by
  rw [H,show((j:Int)+1-1).toNat=j by omega,En,zf G];rfl
 rw [D]at f
 rw [w64 za za,ow (i:=j) za G,ze]
 refine Ok.sP (fun h1=>r ?_) (fun h1=>?_)
 ·rw [f,decide_eq_false (show ¬X[j].length=g.length by omega)];simp
 rw [show uP oD k (0:Int) m=home k m from rfl,contains_eq g E _ O Q,ze]
 refine Ok.zp (fun B=>r ?_) (fun B=>?_)
 ·rw [f,B];simp
 ·rw [w64 za za]
  refine GX ⟨i+1,?_,za⟩ zd
  have:frB X m a b g=true:=by
   rw [f,B,decide_eq_true (show home k m≠0 from u),decide_eq_true (show X[j].length=g.length by omega)];rfl
  rw [q,this];simp
theorem jV.pu{n:Int}{l:List Pick}{X:List (List Pick)}(h:jV n l X)(hl:l.length<=1000):X.length<=1000∧(∀g∈X,g≠ []∧g.length<=1000)∧X.flatten.Nodup∧∀p,p∈X.flatten↔p∈l:=by
 obtain⟨s,u,e2,k,q,f⟩:=h.flat
 have r:X.flatten.length=s.length:=f.length_eq
 refine⟨by have:=len_le h.ne;omega,fun g j=>⟨h.ne g j,by have:=(HI j).length_le;omega⟩,?_,fun p=>f.mem_iff.trans (q p)⟩
 refine f.nodup_iff.2 (k.imp fun{a b}h e=>?_)
 subst e
 have:=df.refl a
 omega
theorem Stale_ok(n:Int)(K:0<=n)(h1:n<=1099511627776)(l q:List Pick)(hl:l.length<=20)(E:∀p∈l,cG p)(B:q.length<=20)(f:∀p∈q,cG p){a b:ae}(C:IV a)(D:IV b):
  Ok (gh n l q a b) (fun r=>r.2=0∧∃X Y m,bT n l=some X∧bT n q=some Y∧jV n l X∧jV n q Y∧Home X m∧r.1=dV X m a b Y Y.length):=by
 unfold gh
 refine GW (fun _=>za) (fun _=>GW (fun _=>za) (fun _=>?_))
 rw [qp za E,ze,if_neg zc,qp za f,ze,if_neg zc,C.val,ze,if_neg zc,D.val,ze,if_neg zc]
 refine GQ (oR n l hl E).name fun X j=>?_
 obtain⟨F,G,H,L⟩:=j.2.pu za
 refine GQ (l27_ok X F (fun g u=>(G g u).2) H) fun m hm=>?_
 refine GQ (oR n q B f).name fun Y k=>?_
 obtain⟨I,J,N,O⟩:=k.2.pu za
 rw [l45_ok X Y m C D F (fun g u=>(G g u).2) hm I J,ze]
 exact G0 ⟨rfl,X,Y,m,j.1,k.1,j.2,k.2,hm,rfl⟩
theorem mem_staleL{X Y:List (List Pick)}{m:List (Pick×Int)}{a b:ae}{i:Nat}(hi:i<Y.length)(h:frB X m a b Y[i]=false):(i:Int)∈dV X m a b Y Y.length:=by
 unfold dV
 refine List.mem_map.2 ⟨i,List.mem_filter.2 ⟨List.mem_range.2 hi,?_⟩,rfl⟩
 have:Y.getD i []=Y[i]:=by rw [En,zf hi];rfl
 rw [this,h];rfl
theorem staleL_nil{X Y:List (List Pick)}{m:List (Pick×Int)}{a b:ae}(h:∀(i:Nat)(hi:i<Y.length),frB X m a b Y[i]=true):dV X m a b Y Y.length=[]:=by
 unfold dV
 rw [List.filter_eq_nil_iff.2]
 ·rfl
 ·intro j f
  have f:=List.mem_range.1 f
  have:Y.getD j []=Y[j]:=by rw [En,zf f];rfl
  rw [this,h j f];simp
theorem same_fresh{X:List (List Pick)}{m:List (Pick×Int)}{a:ae}(hm:Home X m)(f:∀g∈X,g≠ [])(i:Nat)(hi:i<X.length):frB X m a a X[i]=true:=by
 have f:=f _ (Dn hi)
 have j:=hm.at_ i hi
 unfold frB
 obtain⟨q,u,k⟩:=H5 f
 have r:X[i].headD ⟨⟨[],[],[],[]⟩,0,0,0,0,0⟩=q:=by rw [k];rfl
 rw [r,j q (by rw [k];simp),show((i:Int)+1-1).toNat=i by omega,En,zf hi,FK]
 have:anyB m a a ((i:Int)+1) X[i]=false:=by
  unfold anyB
  rw [H0]
  intro p hp
  rw [j p hp]
  have:¬Chg a a p:=fun h=>h rfl
  simp [this]
 rw [this,decide_eq_true rfl,decide_eq_true (show((i:Int)+1)≠0 by omega)];rfl
theorem must_stale{X:List (List Pick)}{m:List (Pick×Int)}{a b:ae}(hm:Home X m){g:List Pick}{l:List Pick}(hl:∀p,p∈X.flatten↔p∈l)(h:∃y∈g,y∉l∨Chg a b y):frB X m a b g=false:=by
 obtain⟨y,k,h⟩:=h
 unfold frB
 generalize g.headD ⟨⟨[],[],[],[]⟩,0,0,0,0,0⟩=f
 by_cases j:home f m=0
 ·simp [j]
 have:anyB m a b (home f m) g=true:=by
  unfold anyB
  rw [H2]
  refine⟨y,k,?_⟩
  rcases h with h|h
  ·rw [hm.no y fun e=>h ((hl y).1 e)]
   have:(0:Int)≠home f m:=fun e=>j e.symm
   simp [this]
  ·simp [h]
 rw [this];simp
end Go.Dw.Re
set_option maxRecDepth 100000
set_option maxHeartbeats 4000000
namespace Go.Dw.Re
open Go.Dw Go.Proofs
open Sd (mK eE d9)
theorem at_self(n:Int):atO n n.toNat=some ():=by unfold atO;rw [if_pos rfl]
theorem setF_self{α:Type}{l:List α}{i:Nat}{f:α->α}(h:∀x,l[i]? =some x->f x=x):setF l i f=l:=by
 unfold setF
 cases e:l[i]? with
 |none=>rfl
 |some x=>
  dsimp only
  rw [h x e]
  obtain⟨hk,g⟩:=List.getElem?_eq_some_iff.1 e
  conv=>lhs;rw [<-g]
  exact GL hk
theorem l53_at{f:List bg}(h1:f.length<=1000)(B:∀x∈f,x.et.length<=1000){q:List az}{g:Int}(hs:0<=g∧g<q.length)(j:Int)(k:List aj):
  cI (jr f q g j k) ((0:Int),f)=some (j,g,k,f):=by
 refine GR (GU (fun s=>0<=s.1∧s.1<=f.length∧s.2=f) (fun s=>((f.length:Int)-s.1).toNat) ?_ ⟨Fa _,zc,rfl⟩)
 rintro⟨D,E⟩ ⟨i0,i1,i2⟩
 simp only at i0 i1 i2
 subst i2
 unfold jr
 dsimp only
 refine GW (fun C=>?_) (fun _=>G3 rfl)
 rw [rY za za,ze]
 refine GQ (GS za za) (fun x r=>?_)
 refine GQ (GS za za) (fun _ _=>?_)
 have:=B x r.1
 rw [rY hs.1 hs.2,ze,at_self,ze,gq za,ze,ze,at_self,ze,w64 za za]
 refine GX ⟨zd,zd,?_⟩ zd
 refine setF_self fun z u=>?_
 obtain rfl:x=z:=by rw [r.2]at u;exact E8 u
 rfl
theorem l56_at{f:List az}(h1:f.length<=1000)(u:∀e∈f,oN e.bW)(g:Int)(j:List aj):
  cI (js f) (g,(0:Int),j,f)=some (g,j,f):=by
 refine GR (GU (fun s=>s.1=g∧(0<=s.2.1∧s.2.1<=f.length)∧s.2.2.1=j∧s.2.2.2=f) (fun s=>((f.length:Int)-s.2.1).toNat) ?_ ⟨rfl,⟨Fa _,zc⟩,rfl,rfl⟩)
 rintro⟨g,D,j,E⟩ ⟨i0,⟨i1,i2⟩,i3,i4⟩
 simp only at i0 i1 i2 i3 i4
 subst i0 i3 i4
 unfold js
 dsimp only
 refine GW (fun k=>?_) (fun _=>G3 rfl)
 refine GQ (GS za za) (fun x q=>?_)
 obtain⟨B,C⟩:=u x q.1
 rw [rY za za,ze,at_self,ze,gq za,ze,ze,ze,ze,ze,l53_at B C ⟨i1,k⟩,ze]
 dsimp only
 rw [w64 za za]
 refine GX ⟨rfl,⟨zd,zd⟩,rfl,?_⟩ zd
 refine setF_self fun z r=>?_
 obtain rfl:x=z:=by rw [q.2]at r;exact E8 r
 rfl
theorem l59_at{v:ae}(f:om v):cI (jt v) ((0:Int),[])=some v.a8:=by
 have hl:=f.len
 refine GR (GU (fun s=>∃i:Nat,s=((i:Int),v.a8.take i)∧i<=v.a8.length) (fun s=>((v.a8.length:Int)-s.1).toNat) ?_ ⟨0,rfl,DJ _⟩)
 rintro s ⟨i,rfl,hi⟩
 unfold jt
 dsimp only
 refine GW (fun q=>?_) (fun k=>?_)
 rotate_left
 ·have:i=v.a8.length:=by omega
  subst this
  exact G3 (by rw [GM])
 have hk:i<v.a8.length:=by omega
 obtain⟨g,j⟩:=f.all _ (Dn hk)
 rw [ow rfl hk,ze,gq za,ze,l56_at g j,ze]
 dsimp only
 rw [dW (by simp only [DW,DX,EF];omega),ze,w64 za za]
 refine GX ⟨i+1,?_,za⟩ zd
 rw [qi hk];rfl
def TabLen(t:bc):Prop:=t.bu.length<=1000∧t.bd.length<=1000
theorem progress_at{s:ah}(h1:TabLen s.ac.bJ)(f:TabLen s.bQ.bF){v:ae}(g:om v):fg s v=some ⟨s,v,[]⟩:=by
 obtain⟨a1,a2⟩:=h1
 obtain⟨j,k⟩:=f
 unfold fg
 rw [gq za,ze,gq za,ze,gq za,ze,gq za,ze,l59_at g,ze]
theorem gD.tabs{s:ah}(h:gD s):TabLen s.ac.bJ∧TabLen s.bQ.bF:=by
 have a:=h.tab.len;have b:=h.tab.same;have c:=h.cor.len;have d:=h.cor.same
 exact⟨⟨za,za⟩,⟨za,za⟩⟩
structure BatLen(b:bq):Prop where
 picks:b.ex.length<=1000
 left:b.pr.length<=1000
 events:b.gz.length<=1000
 each:∀e∈b.gz,e.cV.ex.length<=1000
theorem copied_b{b:bq}(h:BatLen b):iV b=some b:=by
 obtain⟨h1,r,u,j⟩:=h
 unfold iV
 rw [gq za,ze,gq za,ze,gq za,ze]
 have:cI (ij b.gz) ((0:Int),b.gz)=some b.gz:=by
  refine GR (GU (fun s=>0<=s.1∧s.1<=b.gz.length∧s.2=b.gz) (fun s=>((b.gz.length:Int)-s.1).toNat) ?_ ⟨Fa _,zc,rfl⟩)
  rintro⟨B,C⟩ ⟨i0,i1,i2⟩
  simp only at i0 i1 i2
  subst i2
  unfold ij
  dsimp only
  refine GW (fun k=>?_) (fun _=>G3 rfl)
  rw [rY za za,ze]
  refine GQ (GS za za) (fun x f=>?_)
  have:=j x f.1
  rw [gq za,ze,ze]
  refine GQ (GV za za) (fun y q=>?_)
  obtain⟨z,g,rfl⟩:=q
  obtain rfl:x=z:=by rw [f.2]at g;exact E8 g
  rw [w64 za za]
  refine GX ⟨zd,zd,?_⟩ zd
  obtain⟨hk,e⟩:=List.getElem?_eq_some_iff.1 f.2
  simp only
  conv=>lhs;rw [<-e]
  exact GL hk
 rw [this,ze]
noncomputable def FB (s:ah) (v:ae) (g:List Pick):bq:=⟨g,fE s v (ca s v g),fR s v (ca s v g)⟩
structure Gp(g:List Pick):Prop where
 srt:g.Pairwise fun x y=>fT x y<0
 len:g.length<=19
 ok:∀p∈g,cG p
theorem find_g{s:ah}(hs:gD s){v:ae}(k:gC v){g:List Pick}(j:Gp g):kl s v g=some (fE s v (ca s v g),fR s v (ca s v g),0)∧BatLen (FB s v g):=by
 have hl:=j.len
 obtain⟨L,e,h1,u,B,f,q,C,r⟩:=find_ok hs k (l:=g) za j.ok
 rw [qa j.srt za]at e
 obtain rfl:=E8 e
 refine⟨r,by show g.length<=1000;omega,?_,?_,fun ev he=>?_⟩
 ·have:=fR_len hs (v:=v) f
  show(fR s v (ca s v g)).length<=1000
  omega
 ·have:=fE_len hs (v:=v) f
  show(fE s v (ca s v g)).length<=1000
  omega
 ·obtain⟨m,hm,rfl⟩:=fE_mem.1 he
  have:=group_at hs k f q za hm
  rw [this.picks,eK]
  have:=this.len
  omega
theorem found_g{s:ah}(hs:gD s){v:ae}(j:gC v){g:List Pick}(f:Gp g):iW s v g=some (FB s v g,0):=by
 have hl:=f.len
 unfold iW
 rw [(find_g hs j f).1,ze,if_neg zc,gq za]
 rfl
theorem jV.gp{n:Int}{l:List Pick}{X:List (List Pick)}(h:jV n l X)(hl:l.length<=19)(hp:∀p∈l,cG p):∀g∈X,Gp g:=fun g j=>by
 obtain⟨s,r,e2,u,k,f⟩:=h.flat
 have hs:=HI j
 have:=f.length_eq
 have:=hs.length_le
 exact⟨h.sorted g j,za,fun p q=>hp p ((k p).1 (f.mem_iff.1 (hs.subset q)))⟩
noncomputable def PG (s:ah) (v:ae) (X:List (List Pick)):av:=⟨s,v,X.map (FB s v)⟩
theorem asked_at{s:ah}(hs:gD s){v:ae}(g:IV v){l:List Pick}(hl:l.length<=20)(hp:∀p∈l,cG p){X:List (List Pick)}(f:bT s.ac.cw l=some X):gN s v l=some (X,0):=by
 have h1:=hs.span
 unfold gN
 rw [qn hs,ze,if_neg zc,g.val,ze,if_neg zc]
 unfold gr
 rw [if_neg so,if_neg so,qp za hp,ze,if_neg zc,f]
 rfl
theorem New_at{s:ah}(hs:gD s){v:ae}(g:gC v){l:List Pick}(hl:l.length<=19)(hp:∀p∈l,cG p):
  ∃X,bT s.ac.cw l=some X∧jV s.ac.cw l X∧fm s v l=some (PG s v X,0):=by
 obtain⟨X,j,f⟩:=oR s.ac.cw l za hp
 refine⟨X,j,f,?_⟩
 obtain⟨u,B,C,D⟩:=f.pu za
 have k:=f.gp hl hp
 unfold fm
 rw [asked_at hs g.iv za hp j,ze,if_neg zc,progress_at hs.tabs.1 hs.tabs.2 g.lens,ze]
 have:cI (mE (X,(0:Int)) s v) ((0:Int),[])=some (.inl (X.map (FB s v))):=by
  refine GR (GU (fun t=>∃i:Nat,t=((i:Int),(X.take i).map (FB s v))∧i<=X.length) (fun t=>((X.length:Int)-t.1).toNat) ?_ ⟨0,rfl,DJ _⟩)
  rintro t ⟨i,rfl,hi⟩
  unfold mE
  dsimp only
  refine GW (fun r=>?_) (fun q=>?_)
  rotate_left
  ·have:i=X.length:=by omega
   subst this
   exact G3 (by rw [GM])
  have hk:i<X.length:=by omega
  rw [ow rfl hk,ze,found_g hs g (k _ (Dn hk)),ze,if_neg zc]
  rw [dW (by simp only [DW,DX,E9,EF];omega),ze,w64 za za]
  refine GX ⟨i+1,?_,za⟩ zd
  rw [qi hk,FF];rfl
 rw [this,ze]
 rfl
theorem gather_at'{s:ah}{v:ae}{X:List (List Pick)}(h1:X.length<=1000)(u:X.flatten.length<=1000):cI (fo (PG s v X)) ((0:Int),[])=some X.flatten:=by
 have g:∀i,((X.take i).flatten).length<=X.flatten.length:=fun i=>by
  conv=>rhs;rw [<-HO i X]
  rw [Ha,ES];omega
 refine GR (GU (fun t=>∃i:Nat,t=((i:Int),(X.take i).flatten)∧i<=X.length) (fun t=>((X.length:Int)-t.1).toNat) ?_ ⟨0,rfl,DJ _⟩)
 rintro t ⟨i,rfl,hi⟩
 unfold fo
 have hlen:(PG s v X).bL.length=X.length:=E9 ..
 dsimp only
 rw [hlen]
 refine GW (fun r=>?_) (fun q=>?_)
 rotate_left
 ·have:i=X.length:=by omega
  subst this
  exact G3 (by rw [GM])
 have hk:i<X.length:=by omega
 have f:i<(PG s v X).bL.length:=by omega
 have k:(PG s v X).bL[i]'f=FB s v X[i]:=GD ..
 have j:=g (i+1)
 rw [qi hk,Ha,ES]at j
 simp only [Gn,Hb,EP]at j
 rw [ow rfl f,ze,k]
 show Ok ((rD (X.take i).flatten X[i] 104).bind _) _
 rw [dW za,ze,w64 za za]
 refine GX ⟨i+1,?_,za⟩ zd
 rw [qi hk,Ha];simp
theorem Picks_at{s:ah}{v:ae}{n:Int}{l:List Pick}{X:List (List Pick)}(hl:l.length<=20)(f:jV n l X):jD (PG s v X)=da l:=by
 obtain⟨B,D,E,C⟩:=f.pu za
 obtain⟨t,g,e2,j,k,q⟩:=f.flat
 have u:=q.length_eq
 unfold jD jQ
 rw [gather_at' B za,ze]
 obtain⟨r,f1,f2,f3,f4⟩:=oc (l:=X.flatten) za
 have:r=t:=fq f2 j fun p=>by rw [f3,C,k]
 rw [f1,g,this]
 rfl
end Go.Dw.Re
set_option maxRecDepth 100000
set_option maxHeartbeats 4000000
namespace Go.Dw.Re
open Go.Dw Go.Proofs Go.Lib
open Sd (mK eE d9)
def numV(l:List UInt8):Nat:=l.foldl (fun a c=>a*10+(c.toNat-48)) 0
theorem dig_toNat{d:Nat}(h:d<10):(UInt8.ofNat (48+d)).toNat=48+d:=by
 rw [UInt8.toNat_ofNat']
 exact Nat.mod_eq_of_lt za
theorem dec_at(u:Nat):numV (decDigits u)=u∧∀c∈decDigits u,48<=c.toNat∧c.toNat<=57:=by
 induction u using Nat.strongRecOn with
 |ind u g=>
  rw [decDigits]
  split
  ·rename_i h
   have e:=dig_toNat h
   refine⟨?_,fun c hc=>?_⟩
   ·show 0*10+((UInt8.ofNat (48+u)).toNat-48)=u
    rw [e];omega
   ·rw [Ew]at hc
    subst hc
    rw [e];omega
  ·rename_i h
   have e:=dig_toNat (d:=u%10) za
   obtain⟨h1,f⟩:=g (u / 10) za
   refine⟨?_,fun c hc=>?_⟩
   ·unfold numV at h1⊢
    rw [Hc,h1]
    show u / 10*10+((UInt8.ofNat (48+u%10)).toNat-48)=u
    rw [e];omega
   ·rcases List.mem_append.1 hc with hc|hc
    ·exact f c hc
    ·rw [Ew]at hc
     subst hc
     rw [e];omega
theorem dec_inj{u v:Nat}(h:decDigits u=decDigits v):u=v:=by rw [<-(dec_at u).1,h,(dec_at v).1]
theorem dec_minus{u v:Nat}(h:(45:UInt8)::decDigits u=decDigits v):False:=by
 have:=(dec_at v).2 45 (by rw [<-h];simp)
 have e:(45:UInt8).toNat=45:=rfl
 omega
theorem pG{n m:Int}(h:itoa n=itoa m):n=m:=by
 unfold itoa at h
 split at h<;>split at h
 ·have:=dec_inj (List.cons.inj h).2
  omega
 ·exact(dec_minus h).elim
 ·exact(dec_minus h.symm).elim
 ·have:=dec_inj h
  omega
theorem ly{n:Int}{c:UInt8}(hc:c.toNat<45):c∉itoa n:=by
 intro h
 unfold itoa at h
 split at h
 ·rcases List.mem_cons.1 h with rfl|h
  ·have e:(45:UInt8).toNat=45:=rfl
   omega
  ·have:=(dec_at _).2 c h;omega
 ·have:=(dec_at _).2 c h;omega
theorem nk{c:UInt8}:∀{a f r g:List UInt8},c∉a->c∉f->a++c::r=f++c::g->a=f∧r=g
 | [],[],_,_,_,_,h=>⟨rfl,by simpa using h⟩
 | [],x::f,r,g,_,j,h=>by
  simp only [D0,Em,List.cons.injEq]at h
  exact(j (by rw [h.1];simp)).elim
 |x::a,[],_,_,h1,_,h=>by
  simp only [D0,Em,List.cons.injEq]at h
  exact(h1 (by rw [<-h.1];simp)).elim
 |x::a,y::f,r,g,h1,j,h=>by
  simp only [Em,List.cons.injEq]at h
  obtain⟨rfl,h⟩:=h
  obtain⟨rfl,e⟩:=nk (fun h=>h1 (by simp [h])) (fun h=>j (by simp [h])) h
  exact⟨rfl,e⟩
theorem og{s:List UInt8}{lo hi:Int}(h:Sq.mj s lo hi=true){c:UInt8}(hc:c.toNat<48):c∉s:=by
 unfold Sq.mj at h
 rw [D6]at h
 intro hm
 have:=List.all_eq_true.1 h.1 c hm
 unfold Sq.qO at this
 simp at this
 omega
theorem rb{s:List UInt8}{lo hi:Int}(h:Sq.mj s lo hi=true):(s.length:Int)<=hi:=by
 unfold Sq.mj at h
 simp at h
 omega
theorem sid_codes{x:Sid}(h:qU x):Sq.mj x.bI 1 2=true∧Sq.mj x.bw 1 5=true∧Sq.mj x.ba 0 2=true∧Sq.mj x.bM 3 3=true:=by
 unfold qU Sq.pp at h
 simp only [D6]at h
 exact⟨h.1,h.2.1,h.2.2.1,h.2.2.2.2⟩
theorem keyP_eq(p:Pick)(R:List UInt8):pI p++R=p.a7.bI++46::(p.a7.bw++46::(p.a7.ba++46::(p.a7.bM++32::(itoa p.bS++32::(itoa p.bt++32::(itoa p.cg++32::(itoa p.bG++32::(itoa p.bU++10::R)))))))):=by
 simp [pI,join,List.intercalate,List.intersperse]
theorem key_cons{p q:Pick}(hp:cG p)(I:cG q){R u:List UInt8}(h:pI p++R=pI q++u):p=q∧R=u:=by
 obtain⟨a1,a2,a3,a4⟩:=sid_codes hp.1
 obtain⟨E,F,G,H⟩:=sid_codes I.1
 have n46:(46:UInt8).toNat<48:=by decide
 have n32:(32:UInt8).toNat<48:=by decide
 have m32:(32:UInt8).toNat<45:=by decide
 have m10:(10:UInt8).toNat<45:=by decide
 rw [keyP_eq,keyP_eq]at h
 obtain⟨B,h⟩:=nk (og a1 n46) (og E n46) h
 obtain⟨e2,h⟩:=nk (og a2 n46) (og F n46) h
 obtain⟨C,h⟩:=nk (og a3 n46) (og G n46) h
 obtain⟨D,h⟩:=nk (og a4 n32) (og H n32) h
 obtain⟨f,h⟩:=nk (ly m32) (ly m32) h
 obtain⟨g,h⟩:=nk (ly m32) (ly m32) h
 obtain⟨j,h⟩:=nk (ly m32) (ly m32) h
 obtain⟨k,h⟩:=nk (ly m32) (ly m32) h
 obtain⟨r,h⟩:=nk (ly m10) (ly m10) h
 refine⟨?_,h⟩
 replace f:=pG f
 replace g:=pG g
 replace j:=pG j
 replace k:=pG k
 replace r:=pG r
 obtain⟨⟨J,K,L,N⟩,O,Q,T,U,W⟩:=p
 obtain⟨⟨X,Y,q3,q4⟩,q5,q6,q7,q8,q9⟩:=q
 simp only at B e2 C D f g j k r
 subst B e2 C D f g j k r
 rfl
theorem keyP_ne(p:Pick)(R:List UInt8):pI p++R≠ []:=by
 rw [keyP_eq]
 simp
theorem keys_inj:∀{g h:List Pick},(∀p∈g,cG p)->(∀p∈h,cG p)->g.flatMap pI=h.flatMap pI->g=h
 | [],[],_,_,_=>rfl
 | [],q::h,_,_,e=>by
  rw [Gm]at e
  exact(keyP_ne q _ e.symm).elim
 |p::g,[],_,_,e=>by
  rw [Gm]at e
  exact(keyP_ne p _ e).elim
 |p::g,q::h,hp,j,e=>by
  rw [Gm,Gm]at e
  obtain⟨rfl,k⟩:=key_cons (hp p zc) (j q zc) e
  rw [keys_inj (fun x f=>hp x (by simp [f])) (fun x f=>j x (by simp [f])) k]
theorem small_ok{p:Pick}(h:cG p):smallP p=true:=by
 obtain⟨a1,a2,a3,a4⟩:=sid_codes h.1
 have:=rb a1;have:=rb a2;have:=rb a3;have:=rb a4
 obtain⟨-,h1,f,g,j,k,q,r,u⟩:=h
 unfold smallP
 rw [D6]
 refine⟨decide_eq_true ⟨za,za,za,za⟩,?_⟩
 simp only [List.all_cons,List.all_nil,Bool.and_true,D6,decide_eq_true_eq]
 omega
theorem key_at{g:List Pick}(f:Gp g):keyO g=some (g.flatMap pI):=by
 have:=f.len
 unfold keyO
 rw [if_pos ⟨za,List.all_eq_true.2 fun p hp=>small_ok (f.ok p hp)⟩]
end Go.Dw.Re
set_option maxRecDepth 100000
set_option maxHeartbeats 4000000
namespace Go.Dw.Re
open Go.Dw Go.Proofs
open Sd (mK eE d9)
theorem sub_eq{α:Type} [DecidableEq α]:∀{r s:List α},r.Nodup->(∀x∈r,x∈s)->s.length<=r.length->∀x∈s,x∈r
 | [],s,_,_,h,x,f=>by
  have:s=[]:=List.length_eq_zero_iff.1 (Nat.le_zero.1 h)
  subst this
  cases f
 |a::r,s,q,hs,hl,x,f=>by
  obtain⟨h1,j⟩:=List.nodup_cons.1 q
  have k:=hs a zc
  by_cases e:x=a
  ·rw [e];simp
  have hlen:=List.length_erase_of_mem k
  have:=sub_eq (r:=r) (s:=s.erase a) j (fun y g=>(Hh fun e=>h1 (by rw [<-e];exact g)).2 (hs y (by simp [g]))) (by simp only [DW]at hl;omega) x ((Hh e).2 f)
  simp [this]
theorem FB_alike{s:ah}(hs:gD s){v w:ae}(B:gC v)(hw:gC w){g:List Pick}(q:Gp g)(h:∀p∈g,¬Chg v w p):FB s w g=FB s v g:=by
 have f:∀p∈g,Alike s v w p:=fun p hp=>alike hs B hw (q.ok p hp) (h p hp)
 have r:ca s w g=ca s v g:=usable_alike f
 obtain⟨e2,u⟩:=found_alike hs (v:=v) (w:=w) (q.srt.filter fun p=>(used s v p).2.2) fun p hp=>f p (List.mem_filter.1 hp).1
 unfold FB
 rw [r]
 show bq.mk g (fE s w (ca s v g)) (fR s w (ca s v g))=_
 have j:fE s w (ca s v g)=fE s v (ca s v g):=e2
 have k:fR s w (ca s v g)=fR s v (ca s v g):=u
 rw [j,k]
theorem fresh_in{X:List (List Pick)}{m:List (Pick×Int)}{a b:ae}(hm:Home X m)(T:∀g∈X,g.Pairwise fun x y=>fT x y<0){g:List Pick}(N:g.Pairwise fun x y=>fT x y<0)(J:g≠ [])(h:frB X m a b g=true):g∈X∧∀p∈g,¬Chg a b p:=by
 unfold frB at h
 obtain⟨C,O,rfl⟩:=H5 J
 rw [He]at h
 generalize F:C::O=g at*
 have U:C∈g:=by rw [<-F];simp
 simp only [D6,decide_eq_true_eq,Bool.not_eq_true']at h
 obtain⟨Q,h1,D⟩:=h
 unfold anyB at D
 rw [H0]at D
 have G:C∈X.flatten:=G9 fun e=>Q (hm.no C e)
 obtain⟨x,W,K⟩:=List.mem_flatten.1 G
 obtain⟨j,E,rfl⟩:=Gq W
 have r:=hm.at_ j E C K
 rw [r,show((j:Int)+1-1).toNat=j by omega,En,zf E,FK]at h1
 rw [r]at D
 have f:∀p∈g,p∈X[j]∧¬Chg a b p:=fun p hp=>by
  have L:=D p hp
  simp only [Bool.or_eq_true,decide_eq_true_eq,not_or,Classical.not_not,ne_eq]at L
  refine⟨?_,L.2⟩
  have u:p∈X.flatten:=G9 fun e=>by
   have:=hm.no p e
   omega
  obtain⟨y,Y,B⟩:=List.mem_flatten.1 u
  obtain⟨k,hk,rfl⟩:=Gq Y
  have:=hm.at_ k hk p B
  have H:k=j:=by omega
  subst H
  exact B
 have I:g.Nodup:=im df N
 have q:=sub_eq I (fun p hp=>(f p hp).1) za
 have:g=X[j]:=fq N (T _ (Dn E)) fun p=>⟨fun hp=>(f p hp).1,q p⟩
 exact⟨by rw [this];exact Dn E,fun p hp=>(f p hp).2⟩
theorem contains_int{l:List Int}(hl:l.length<=1000)(x:Int):iB l x=some (decide (x∈l)):=by
 unfold iB m6
 have h1:∀(i:Nat)(hi:i<l.length),eR l x (i:Int)=if decide (l[i]=x)=true then some (.stop (.inr (i:Int)))else some (.next ((i+1:Nat):Int)):=by
  intro i hi
  unfold eR
  rw [if_pos so,ow rfl hi,ze,w64 za za]
  by_cases e:l[i]=x
  ·rw [if_pos (by simp [e]),if_pos (by simp [e])]
  ·rw [if_neg (by simp;exact fun h=>e h.symm),if_neg (by simp [e])];rfl
 have g:eR l x (l.length:Nat)=some (.stop (.inl ())):=by
  unfold eR
  rw [if_neg zc]
 rcases qL l (p:=fun y=>decide (y=x)) (f:=fun i _=>(i:Int)) h1 g with⟨e,h⟩|⟨i,hi,e,hp,h⟩
 ·rw [e]
  have:¬x∈l:=fun j=>by
   have:=h x j
   simp at this
  rw [decide_eq_false this];rfl
 ·rw [e]
  have:x∈l:=by
   have:l[i]=x:=by simpa using hp
   rw [<-this];exact Dn hi
  rw [decide_eq_true this]
  simp
theorem qv{X Y:List (List Pick)}{m:List (Pick×Int)}{a b:ae}{i:Nat}(hi:i<Y.length):(i:Int)∈dV X m a b Y Y.length↔frB X m a b Y[i]=false:=by
 have f:Y.getD i []=Y[i]:=by rw [En,zf hi];rfl
 refine⟨fun h=>?_,mem_staleL hi⟩
 unfold dV at h
 obtain⟨j,g,e⟩:=List.mem_map.1 h
 obtain rfl:j=i:=by omega
 have:=(List.mem_filter.1 g).2
 rw [f]at this
 simpa using this
theorem staleL_len{X Y:List (List Pick)}{m:List (Pick×Int)}{a b:ae}(n:Nat):(dV X m a b Y n).length<=n:=by
 unfold dV
 have:=Gs (fun j=> !frB X m a b (Y.getD j [])) (DG n)
 rw [Hg]at this
 rw [E9];omega
abbrev keyB(a b:List UInt8):Bool:=a==b
theorem keyB_eq(a b:List UInt8):keyB a b=decide (a=b):=by
 by_cases h:a=b<;>simp [keyB,h]
theorem known_at{s:ah}{v:ae}{X:List (List Pick)}(hl:X.length<=1000)(B:∀g∈X,Gp g):
  Ok (cI (kD (PG s v X)) ((0:Int),[])) (fun m=>∀g∈X,uP keyB (g.flatMap pI) ⟨[],[],[]⟩ m=FB s v g):=by
 refine GU (fun t=>∃i:Nat,t.1=(i:Int)∧i<=X.length∧∀(j:Nat)(h:j<X.length),j<i->uP keyB (X[j].flatMap pI) ⟨[],[],[]⟩ t.2=FB s v X[j]) (fun t=>((X.length:Int)-t.1).toNat) ?_ ⟨0,rfl,DJ _,fun j h u=>za⟩
 rintro⟨t1,t2⟩ ⟨i,rfl,hi,q⟩
 dsimp only at q
 unfold kD
 have hlen:(PG s v X).bL.length=X.length:=E9 ..
 dsimp only
 rw [hlen]
 refine GW (fun G=>?_) (fun E=>?_)
 rotate_left
 ·refine G3 fun g r=>?_
  obtain⟨j,u,rfl⟩:=Gq r
  exact q j u za
 have hk:i<X.length:=by omega
 have k:i<(PG s v X).bL.length:=by omega
 have D:(PG s v X).bL[i]'k=FB s v X[i]:=GD ..
 have f:=B _ (Dn hk)
 rw [ow rfl k,ze,D]
 show Ok ((keyO X[i]).bind _) _
 rw [key_at f,ze,w64 za za]
 refine GX ⟨i+1,zc,za,fun j h u=>?_⟩ zd
 show uP keyB (X[j].flatMap pI) ⟨[],[],[]⟩ (yj keyB (X[i].flatMap pI) (FB s v X[i]) t2)=FB s v X[j]
 rw [mGet_put keyB_eq]
 split
 ·rename_i e
  rw [keys_inj (B _ (Dn h)).ok f.ok e]
 ·rename_i e
  have F:j≠i:=fun C=>by subst C;exact e rfl
  exact q j h za
theorem qW{n:Int}{l S:List Pick}(h:da l=some S)(hS:S.Pairwise fun x y=>fT x y<0)(hl:S.length<=1000):bT n S=bT n l:=by
 unfold bT
 rw [qa hS hl,h]
theorem Update_at{s:ah}(hs:gD s){v w:ae}(O:gC v)(hw:gC w){l q:List Pick}(hl:l.length<=19)(hp:∀p∈l,cG p)(hq:q.length<=19)(B:∀p∈q,cG p)
  {X:List (List Pick)} (hX:bT s.ac.cw l=some X) (E:jV s.ac.cw l X):
  ∃Y m,bT s.ac.cw q=some Y∧jV s.ac.cw q Y∧Home X m∧eu (PG s v X) w q=some (PG s w Y,dV X m v w Y Y.length,0):=by
 have N:=hs.span
 obtain⟨S,U,lS,sS,mS,pS⟩:=E.flat
 obtain⟨r,hr,Q,f,Y,m,C,W, -,u,hm,T⟩:=Stale_ok s.ac.cw N.1 za S q za (fun p h=>hp p ((mS p).1 h)) za B O.iv hw.iv
 have eX:f=X:=by
  rw [qW U sS za,hX]at C
  exact(E8 C).symm
 subst eX
 obtain⟨x1,x2,x3,x4⟩:=E.pu za
 obtain⟨y1,y2,y3,y4⟩:=u.pu za
 have D:=E.gp hl hp
 have I:=u.gp hq B
 refine⟨Y,m,W,u,hm,?_⟩
 obtain⟨r1,r2⟩:=r
 simp only at Q T
 subst Q T
 unfold eu
 rw [show gN (PG s v f).bp w q=some (Y,0)from asked_at hs hw.iv za B W,ze,if_neg zc,Picks_at za E,U,ze]
 rw [show gh (PG s v f).bp.ac.cw S q (PG s v f).co w=some (dV f m v w Y Y.length,0)from hr,ze,if_neg zc]
 obtain⟨kn,F,K⟩:=known_at (s:=s) (v:=v) (X:=f) x1 D
 rw [F,ze,show fg (PG s v f).bp w=some ⟨s,w,[]⟩from progress_at hs.tabs.1 hs.tabs.2 hw.lens,ze]
 have:cI (kF (Y,(0:Int)) (dV f m v w Y Y.length,(0:Int)) kn (PG s v f) w) ((0:Int),[])=some (.inl (Y.map (FB s w))):=by
  refine GR (GU (fun t=>∃i:Nat,t=((i:Int),(Y.take i).map (FB s w))∧i<=Y.length) (fun t=>((Y.length:Int)-t.1).toNat) ?_ ⟨0,rfl,DJ _⟩)
  rintro t ⟨i,rfl,hi⟩
  unfold kF
  dsimp only
  refine GW (fun a6=>?_) (fun a5=>?_)
  rotate_left
  ·have:i=Y.length:=by omega
   subst this
   exact G3 (by rw [GM])
  have hk:i<Y.length:=by omega
  have j:=I _ (Dn hk)
  have k:rD ((Y.take i).map (FB s w)) [FB s w Y[i]] 72=some ((Y.take (i+1)).map (FB s w)):=by
   rw [dW (by simp only [DW,DX,E9,EF];omega),qi hk,FF];rfl
  have a9:=staleL_len (X:=f) (Y:=Y) (m:=m) (a:=v) (b:=w) Y.length
  rw [ow rfl hk,ze,contains_int za,ze]
  refine Ok.iteND (fun L=>?_) (fun b0=>?_)
  ·have H:frB f m v w Y[i]=true:=by
    have:=mt (qv hk).2 L
    simpa using this
   obtain⟨J,G⟩:=fresh_in hm (fun g hg=>(D g hg).srt) j.srt (y2 _ (Dn hk)).1 H
   rw [key_at j,ze,show uP (fun a b=>a==b) (Y[i].flatMap pI) (bq.mk [] [] []) kn=FB s v Y[i]from K _ J,copied_b (find_g hs O j).2,ze, <-FB_alike hs O hw j G,k,ze,w64 za za]
   exact GX ⟨i+1,rfl,za⟩ zd
  ·rw [show iW (PG s v f).bp w Y[i]=some (FB s w Y[i],0)from found_g hs hw j,ze,if_neg zc,k,ze,w64 za za]
   exact GX ⟨i+1,rfl,za⟩ zd
 rw [this,ze]
 rfl
end Go.Dw.Re
set_option maxRecDepth 100000
set_option maxHeartbeats 4000000
namespace Go.Dw.Re
open Go.Dw Go.Proofs
open Sd (mK eE d9)
theorem stage_refl{x:bg}(h:x.et.length<=1000):lK x x=some true:=by
 unfold lK
 rw [if_neg zc,if_neg zc,if_neg zc,if_neg zc,if_neg zc,if_neg zc]
 have h1:∀i:Nat,i<x.et.length->eO x x (i:Int)=some (.next ((i+1:Nat):Int)):=fun i hi=>by
  unfold eO
  rw [if_pos so,ow rfl hi,ze,ze,if_neg zc,w64 za za]
  rfl
 have f:eO x x ((x.et.length:Nat):Int)=some (.stop (.inl ())):=by
  unfold eO
  rw [if_neg zc]
 rw [fM _ h1 f];rfl
theorem resp_refl{r:bv}(h:oN r):pc r r=some true:=by
 obtain⟨g1,g2⟩:=h
 unfold pc
 rw [if_neg zc]
 have h1:∀i:Nat,i<r.cS.length->jM r r (i:Int)=some (.next ((i+1:Nat):Int)):=fun i hi=>by
  unfold jM
  rw [if_pos so,ow rfl hi,ze,ze,stage_refl (g2 _ (Dn hi)),ze,if_neg zc,w64 za za]
  rfl
 have f:jM r r ((r.cS.length:Nat):Int)=some (.stop (.inl ())):=by
  unfold jM
  rw [if_neg zc]
 rw [fM _ h1 f];rfl
theorem epoch_refl{e:az}(h:oN e.bW):lL e e=some true:=by
 unfold lL
 rw [if_pos zc,if_pos zc,if_pos zc,if_pos zc,resp_refl h]
 rfl
theorem inv_refl{v:ae}(f:om v):n4 v v=some true:=by
 have hl:=f.len
 unfold n4
 rw [if_neg zc]
 have h1:∀i:Nat,i<v.a8.length->iN v v (i:Int)=some (.next ((i+1:Nat):Int)):=fun i hi=>by
  obtain⟨B,g⟩:=f.all _ (Dn hi)
  unfold iN
  rw [if_pos so,ow rfl hi,ze,ze,if_neg zc,if_neg zc]
  have u:cI (mD v.a8[i] v.a8[i] (i:Int)) (0:Int)=some (.inl (i:Int)):=by
   refine GR (G6 v.a8[i].cn.length za (fun _=>True) trivial (fun j k h1 _=>?_))
   unfold mD
   refine GW (fun r=>?_) (fun _=>G3 rfl)
   obtain⟨e,he,hm, -⟩:=GS (l:=v.a8[i].cn) k za
   rw [he,ze,ze,epoch_refl (g e hm),ze,if_neg zc,w64 za za]
   exact GX ⟨⟨za,za⟩,trivial⟩ za
  rw [u,ze]
  dsimp only
  rw [w64 za za]
  rfl
 have q:iN v v ((v.a8.length:Nat):Int)=some (.stop (.inl ())):=by
  unfold iN
  rw [if_neg zc]
 rw [fM _ h1 q];rfl
theorem rints_refl{l:List Int}(hl:l.length<=1000):n8 l l=some true:=by
 unfold n8
 rw [if_neg zc]
 have h1:∀i:Nat,i<l.length->jN l l (i:Int)=some (.next ((i+1:Nat):Int)):=fun i hi=>by
  unfold jN
  rw [if_pos so,ow rfl hi,ze,ze,if_neg zc,w64 za za]
  rfl
 have f:jN l l ((l.length:Nat):Int)=some (.stop (.inl ())):=by
  unfold jN
  rw [if_neg zc]
 rw [fM _ h1 f];rfl
theorem table_refl{t:bc}(h:TabLen t):jC t t=some true:=by
 unfold jC
 rw [if_pos zc,rints_refl h.1,ze,if_pos rfl,rints_refl h.2]
 rfl
theorem settings_refl{s:ah}(h:gD s):gu s s=some true:=by
 unfold gu
 rw [if_pos zc,table_refl h.tabs.1,ze,if_pos rfl,if_pos zc,if_pos zc,if_pos zc,if_pos zc,if_pos zc,table_refl h.tabs.2,ze,if_pos rfl,if_pos zc,if_pos zc]
 simp
theorem prog_refl{s:ah}(hs:gD s){v:ae}(k:gC v){X:List (List Pick)}(B:X.length<=1000)(u:∀g∈X,Gp g):n7 (PG s v X) (PG s v X)=some true:=by
 unfold n7
 have hlen:(PG s v X).bL.length=X.length:=E9 ..
 rw [if_neg zc,show n4 (PG s v X).co (PG s v X).co=some true from inv_refl k.lens,ze,if_neg zc,show gu (PG s v X).bp (PG s v X).bp=some true from settings_refl hs,ze,if_neg zc]
 have h1:∀i:Nat,i<X.length->iR (PG s v X) (PG s v X) (i:Int)=some (.next ((i+1:Nat):Int)):=fun i hi=>by
  have j:i<(PG s v X).bL.length:=by omega
  have r:(PG s v X).bL[i]'j=FB s v X[i]:=GD ..
  have f:=(find_g hs k (u _ (Dn hi))).2
  unfold iR
  rw [hlen,if_pos so,ow rfl j,ze,ze,r,oL f.picks,ze,if_neg zc,oL f.left,ze,if_neg zc,pZ f.events f.each,ze,if_neg zc,w64 za za]
  rfl
 have q:iR (PG s v X) (PG s v X) ((X.length:Nat):Int)=some (.stop (.inl ())):=by
  unfold iR
  rw [hlen,if_neg zc]
 rw [fM _ h1 q];rfl
end Go.Dw.Re
set_option maxRecDepth 100000
set_option maxHeartbeats 4000000
namespace Go.Dw.Re
open Go.Dw Go.Proofs
open Sd (mK eE d9)
theorem elit_eq(x y:ar):fb x y=some (pC x.eV y.eV):=by unfold fb;rw [cmpE_eq];rfl
theorem ins_lit{l:List ar}(f:l.length<=1000):dJ 0 (l.length:Int) l=some (dj cE l):=by
 refine Eq.trans (b:=insG (fun x y=>fb x y) (fun c=>decide (c<0)) 0 (l.length:Int) l) rfl (insG_at (S:=fun _=>True) (fun x y _ _=>⟨_,elit_eq x y,rfl⟩) (fun _ _=>trivial) f)
theorem sort_lit{l:List ar}(q:l.length<=12):eI l=some (dj cE l):=by
 unfold eI
 obtain⟨b,j, -⟩:=bits_ok (n:=FM .u64 (l.length:Int)) (u64_range _)
 rw [j,ze]
 have h1:(cI (cJ l.length 0 l b) ())=some (dj cE l):=by
  refine pJ ?_
  unfold cJ
  rw [w64 za za,if_pos so,ins_lit za]
  rfl
 have k:cW 0 (l.length:Int) b l=some (dj cE l):=by
  unfold cW
  refine Bi ⟨1,?_⟩ fun n s hs=>?_
  ·show((cI (cJ l.length 0 l b) ()).bind fun g=>some g)=_
   rw [h1];rfl
  ·cases n with
   |zero=>cases hs
   |succ n=>
    have f:((cI (cJ l.length 0 l b) ()).bind fun g=>some g)=some s:=hs
    rw [h1]at f
    exact(E8 f).symm
 rw [k];rfl
noncomputable def evs (s:ah) (v:ae) (X:List (List Pick)):List ar:=X.flatMap fun g=>fE s v (ca s v g)
theorem evs_len{s:ah}(hs:gD s){v:ae}:∀{X:List (List Pick)},(∀g∈X,Gp g)->(evs s v X).length<=X.flatten.length
 | [],_=>by simp [evs]
 |g::X,h=>by
  have h1:=evs_len hs (v:=v) (X:=X) fun g f=>h g (by simp [f])
  have f:=h g zc
  have j:(fE s v (ca s v g)).length<=(ca s v g).length:=fE_len hs (v:=v) (U:=ca s v g) (f.srt.filter _)
  have k:(ca s v g).length<=g.length:=Gs _ _
  unfold evs at h1⊢
  rw [Gm,ES,Gn,ES]
  omega
theorem Events_at{s:ah}(hs:gD s){v:ae}(D:gC v){X:List (List Pick)}(E:X.length<=1000)(q:∀g∈X,Gp g)(F:X.flatten.length<=12):iT (PG s v X)=some (dj cE (evs s v X)):=by
 have hl:=evs_len hs (v:=v) q
 have j:∀i,(evs s v (X.take i)).length<=(evs s v X).length:=fun i=>by
  unfold evs
  conv=>rhs;rw [<-HO i X]
  rw [H9,ES];omega
 unfold iT
 have:cI (iz (PG s v X)) ((0:Int),[])=some (evs s v X):=by
  refine GR (GU (fun t=>∃i:Nat,t=((i:Int),evs s v (X.take i))∧i<=X.length) (fun t=>((X.length:Int)-t.1).toNat) ?_ ⟨0,rfl,DJ _⟩)
  rintro t ⟨i,rfl,hi⟩
  unfold iz
  have hlen:(PG s v X).bL.length=X.length:=E9 ..
  dsimp only
  rw [hlen]
  refine GW (fun C=>?_) (fun B=>?_)
  rotate_left
  ·have:i=X.length:=by omega
   subst this
   exact G3 (by rw [GM])
  have hk:i<X.length:=by omega
  have f:i<(PG s v X).bL.length:=by omega
  have u:(PG s v X).bL[i]'f=FB s v X[i]:=GD ..
  have r:=j (i+1)
  have k:evs s v (X.take (i+1))=evs s v (X.take i)++fE s v (ca s v X[i]):=by
   rw [qi hk];unfold evs;rw [H9];simp
  rw [k,ES]at r
  rw [ow rfl f,ze,u,copied_b (find_g hs D (q _ (Dn hk))).2,ze]
  show Ok ((rD (evs s v (X.take i)) (fE s v (ca s v X[i])) 248).bind _) _
  rw [dW za,ze,w64 za za]
  exact GX ⟨i+1,by rw [k];rfl,za⟩ zd
 rw [this,ze,sort_lit za]
 rfl
end Go.Dw.Re
set_option maxRecDepth 100000
set_option maxHeartbeats 4000000
namespace Go.Dw.Re
open Go.Dw Go.Proofs
open Sd (mK eE d9)
def Cv(c:aj):Prop:=∃e,∀T:Int,2000<=T->T<100000->epIn c.cn T=some e
theorem epIn1{e:az}{T:Int}(h1:e.b7<=T)(f:T<e.fTo):epIn [e] T=some e:=by
 unfold epIn
 rw [H8 (by simp [h1,f])]
theorem epIn2{e f:az}{T:Int}(h:e.fTo<=T)(h1:f.b7<=T)(g:T<f.fTo):epIn [e,f] T=some f:=by
 unfold epIn
 rw [List.find?_cons_of_neg so,H8 (by simp [h1,g])]
def CvI(n:Nat)(s:Int×List Int×Int×List aj):Prop:=∃i:Nat,s.1=i∧i<=n∧s.2.2.2.map (·.a7)=(DG i).map sid∧(∀c∈s.2.2.2,Cv c)∧cr ⟨s.2.1,s.2.2.1⟩
theorem sites_cover{n:Nat}(F:n<=6)(d:Src)(D:cr d):Ok (gK (n:Int) d) (fun r=>r.1.a8.map (·.a7)=(DG n).map sid∧∀c∈r.1.a8,Cv c):=by
 unfold gK
 refine GQ (P:=fun o=>o.2.2.map (·.a7)=(DG n).map sid∧∀c∈o.2.2,Cv c) (GU (CvI n) (fun s=>((n:Int)-s.1).toNat) ?_ ⟨0,rfl,za,rfl,zc,D⟩) (fun o ho=>G0 ho)
 rintro⟨s1,s2,H,k⟩ ⟨i,i0,i1,i2,i3,i4⟩
 simp only at i0 i1 i2 i3 i4
 subst i0
 have hlen:k.length=i:=by have:=congrArg GF i2;simpa using this
 unfold lr
 have g:∀(x:aj),Ok (rD k [x] 88) (fun r=>r=k++[x]):=fun x=>Ok.app (by simp only [DW,DX];omega)
 have j:¬i<n->k.map (·.a7)=(DG n).map sid∧∀c∈k,Cv c:=fun h=>by
  obtain rfl:i=n:=by omega
  exact⟨i2,i3⟩
 have f:∀{l:List az}{t:Src},i<n->(∃e,∀T:Int,2000<=T->T<100000->epIn l T=some e)->cr t->Ok (some (.next ((i:Int)+1,t.fL,t.fAt,k++[⟨sid i,l⟩]))) (Ok.S (CvI n) (fun s=>((n:Int)-s.1).toNat) (fun o:List Int×Int×List aj=>o.2.2.map (·.a7)=(DG n).map sid∧∀c∈o.2.2,Cv c) ((i:Int),s2,H,k)):=fun{l t}hi hl G=>by
  refine GX ⟨i+1,zc,za,?_,fun c hc=>?_,G⟩ zd
  ·simp [Hj,i2]
  ·simp only [Eu,Ew]at hc
   rcases hc with hc|rfl
   ·exact i3 c hc
   ·exact hl
 refine GW (fun E=>?_) (fun h=>G3 (j za))
 refine GW (fun _=>?_) (fun h=>G3 (j za))
 have hi:i<n:=by omega
 refine GQ (mC 60 za za _ i4) (fun J g1=>?_)
 refine GQ (oK _ g1.2) (fun K g2=>?_)
 rw [source_at rfl (show i<6 by omega),ze]
 refine GQ (dS _ _ g2.2 za za) (fun L g4=>?_)
 rw [w64 (n:=(i:Int)+1) za za]
 refine G4 (fun _=>?_) (fun _=>G4 (fun _=>?_) (fun _=>?_))
 ·refine GQ (dS _ _ g4.2.2 za za) (fun C g5=>?_)
  refine GQ (mC 60 za za _ g5.2.2) (fun N g6=>?_)
  refine GQ (oK _ g6.2) (fun O g7=>?_)
  refine GQ (Ok.tP za zc) (fun _ _=>?_)
  refine GQ (GV za zc) (fun I g8=>?_)
  obtain⟨x,q,rfl⟩:=g8
  simp at q
  subst q
  refine GQ (Ok.app zc) (fun Q g9=>?_)
  subst g9
  refine GQ (g _) (fun u g10=>?_)
  subst g10
  rw [w64 (n:=1500+C.1) za za]
  exact f hi ⟨_,fun T h1 B=>epIn2 zd zd zd⟩ g7.2
 ·refine GQ (dS _ _ g4.2.2 za za) (fun C g5=>?_)
  refine GQ (Ok.tP za zc) (fun _ _=>?_)
  refine GQ (GV za zc) (fun I g8=>?_)
  obtain⟨x,q,rfl⟩:=g8
  simp at q
  subst q
  refine GQ (g _) (fun u g10=>?_)
  subst g10
  exact f hi ⟨_,fun T h1 B=>epIn1 zd zd⟩ g5.2.2
 ·refine GQ (g _) (fun u g10=>?_)
  subst g10
  exact f hi ⟨_,fun T h1 B=>epIn1 zd zd⟩ g4.2.2
theorem site_at{n:Nat}{v:ae}(hm:v.a8.map (·.a7)=(DG n).map sid)(hc:∀c∈v.a8,Cv c){i:Nat}(hi:i<n):∃c e,chan v (sid i)=some c∧(∀T:Int,2000<=T->T<100000->epIn c.cn T=some e):=by
 have f:sid i∈v.a8.map (·.a7):=by rw [hm];exact List.mem_map_of_mem (List.mem_range.2 hi)
 obtain⟨c,g,k⟩:=List.mem_map.1 f
 cases h:chan v (sid i)with
 |none=>
  unfold chan at h
  have:=List.find?_eq_none.1 h c g
  simp [k]at this
 |some j=>
  obtain⟨e,he⟩:=hc j (qY h).1
  exact⟨j,e,rfl,he⟩
theorem reach_all{t:bc}(j:pw t){b:al}(g:gO b){p:ag}(hp:fP 60 p):Reach t (ou b p):=by
 have h1:=(Far_at g hp).2.2
 have f:=j.far
 have k:(400:Int)*400<=nw t*nw t:=Int.mul_le_mul f f za (by unfold nw;omega)
 unfold Reach
 omega
theorem used_true{a:ah}(f:gD a){v:ae}(j:gC v){p:Pick}(hp:cG p){e:az}(he:nu v p.a7 p.bS=some e):(used a v p).2.2=true∧phU a v p=⟨e.bV,p.bt,p.cg,1⟩:=by
 have hu:(used a v p).2.2=true:=by
  have h1:=(nM f j hp).1
  have g:=epAt_ok j he
  unfold eC at h1
  rw [n9 hp,ze,if_neg zc,At_eq j.lens (lX j),ze,he]at h1
  dsimp only at h1
  rw [if_neg zc]at h1
  obtain⟨z,q,u, -⟩:=qq f.tab f.box (a:=⟨e.bV,p.bt,p.cg,1⟩) (pV g hp)
  rw [q,ze,if_neg (by simp [u.2 (reach_all f.tab f.box g.pos)])]at h1
  rw [<-E8 h1]
 obtain⟨k,h1,r⟩:=used_form f j hp hu
 obtain rfl:k=e:=E8 (h1.symm.trans he)
 exact⟨hu,r⟩
def exP(s:Sid):Pick:=⟨s,2500,2500,2500,10,0⟩
def exQ(s:Sid):Pick:=⟨s,2500,2500,2500,11,0⟩
theorem ex_c:((oW []).bind fun f=>(mg 2 f).bind fun g=>some (g.1.ac.cq==2))=some true:=by kernel_rfl
theorem ex_p:((kq []).bind fun f=>(dL 2 f).bind fun g=>some (g.1.ac.cq==2))=some true:=
 (Le.bind (keep_New_le _) fun _=>Le.bind (Src_Settings_le _ _) fun _=>Le.refl _) _ ex_c
theorem exP_ok{s:Sid}(h:qU s):cG (exP s):=⟨h,by simp [exP],by simp [exP],by simp [exP],by simp [exP],by simp [exP],by simp [exP],by simp [exP],by simp [exP]⟩
theorem exQ_ok{s:Sid}(h:qU s):cG (exQ s):=⟨h,by simp [exQ],by simp [exQ],by simp [exQ],by simp [exQ],by simp [exQ],by simp [exQ],by simp [exQ],by simp [exQ]⟩
theorem ex_lt(s:Sid):fT (exP s) (exQ s)<0:=by
 have:=eE.refl s
 unfold fT exP exQ
 simp [this,sY]
theorem awake_at:lY=some true:=by
 refine GR ?_
 have hc:=ex_p
 unfold lY
 obtain⟨d0,e0,h0⟩:=new_ok []
 rw [e0,ze]at hc⊢
 obtain⟨j,e2,hs,h2⟩:=settingsV (k:=2) za d0 h0
 rw [e2,ze]at hc⊢
 have hle:j.1.ac.cq=2:=by simpa using E8 hc
 obtain⟨r,e3,⟨B, -⟩,E,C⟩:=(sitesV (n:=3) j.2 h2).both (sites_cover (n:=3) za j.2 h2)
 rw [show gK (3:Int) j.2=some r from e3,ze]
 obtain⟨c,e,W,a5⟩:=site_at E C (i:=1) za
 have G:nu r.1 (sid 1) 2500=some e:=by unfold nu;rw [W];exact a5 2500 za za
 have h5:=sid_ok (i:=1) za
 rw [show ge (1:Int)=some (sid 1)from source_at (i:=1) rfl za,ze]
 have hp:=exP_ok h5;have hq:=exQ_ok h5
 have up:=(used_true hs B hp G).1
 have uq:=(used_true hs B hq G).1
 clear G a5 W E C
 generalize sid 1=f at*
 have a9:=ex_lt f
 have J: [exP f,exQ f].Pairwise fun x y=>fT x y<0:=by simpa using a9
 have N:UsOk j.1 r.1 [exP f,exQ f]:=fun p h=>by
  rcases List.mem_cons.1 h with rfl|h
  ·exact⟨hp,up⟩
  ·rw [List.mem_singleton.1 h];exact⟨hq,uq⟩
 have hU:=usable_all N
 obtain⟨L,eL,sL,mL, -⟩:=oc (l:=[exQ f,exP f]) zc
 have Q:L=[exP f,exQ f]:=fq sL J fun x=>by
  rw [mL];simp only [FN,List.not_mem_nil,or_false];exact Or.comm
 subst Q
 obtain⟨e,g1,g2⟩:=used_form hs B hp up
 obtain⟨e',b3,b4⟩:=used_form hs B hq uq
 obtain rfl:e'=e:=E8 (b3.symm.trans g1)
 have H:phU j.1 r.1 (exQ f)=phU j.1 r.1 (exP f):=by rw [g2,b4];rfl
 have hO:mB j.1 r.1 [exP f,exQ f]=[exP f,exQ f]:=by
  refine sortI_self (oC _ _) (fun _ _=>qg) ?_
  have:cmpA j.1 r.1 (exP f) (exQ f)<0:=by
   have:=cmpF_tot.refl (phU j.1 r.1 (exP f))
   unfold cmpA
   rw [H,this,if_neg zc];exact a9
  simpa using this
 have u:PhOk j.1.ac ([exP f,exQ f].map (phU j.1 r.1)):=PhOk_of hs B N
 have b1:(loc j.1.ac ([exP f,exQ f].map (phU j.1 r.1))).b8<=0:=by
  have K:=prob_ok hs u zc
  obtain⟨-,Q, -⟩:=loc_at hs u zc
  obtain⟨t,e1, -⟩:=pL K Q.inn
  rw [Q.val]at e1
  simp only [DB,Prod.mk.injEq]at e1
  rw [e1.2.1]
  have hz:=fun b T=>(zn_at K Q.inn (a:=b) T).2
  have b0:phU j.1 r.1 (exP f)∈(pz j.1.ac ([exP f,exQ f].map (phU j.1 r.1))).bK:=by simp [pz]
  rw [mis_zero K Q.inn (t:=(zn (pz j.1.ac ([exP f,exQ f].map (phU j.1 r.1))) ⟨(loc j.1.ac ([exP f,exQ f].map (phU j.1 r.1))).bN,(loc j.1.ac ([exP f,exQ f].map (phU j.1 r.1))).bN⟩ (phU j.1 r.1 (exP f))).b7) (fun b T=>?_)]
  ·exact Fa _
  ·have b5:b=phU j.1 r.1 (exP f):=by
    have:b=phU j.1 r.1 (exP f)∨b=phU j.1 r.1 (exQ f):=by simpa [pz]using T
    rcases this with h|h
    ·exact h
    ·rw [h,H]
   rw [b5]
   have:=(hz _ b0).2.1
   unfold res;omega
 have c3:=hs.span.1
 have hR := rnd_one hs (v := r.1) (O := [exP f, exQ f]) (by rw [hle]; simp) zc (fun p c2 i hi => by
  have k:∀p∈[exP f,exQ f],phU j.1 r.1 p=phU j.1 r.1 (exP f):=fun p h=>by
   rcases List.mem_cons.1 h with rfl|h
   ·rfl
   ·rw [List.mem_singleton.1 h,H]
  rw [k p c2,k i hi];omega) (fit_all hs u zc b1)
 have c1:(fE j.1 r.1 [exP f,exQ f]).length=1:=by
  unfold fE
  rw [hO,hR,eK]
  rfl
 have I:∀p∈[exP f,exQ f],cG p:=fun p h=>(N p h).1
 have b2:∀p∈[exQ f,exP f],cG p:=fun p h=>by
  rcases List.mem_cons.1 h with rfl|h
  ·exact hq
  ·rw [List.mem_singleton.1 h];exact hp
 have c5:=hs.span
 obtain⟨X,hX,U,eN⟩:=New_at hs B (l:=[exP f,exQ f]) zc I
 obtain⟨Y,m,hY,c4,hm,eU⟩:=Update_at hs B B (l:=[exP f,exQ f]) (q:=[exQ f,exP f]) zc I zc b2 hX U
 have eY:Y=X:=by
  rw [<-qW eL J zc,hX]at hY
  exact(E8 hY).symm
 subst eY
 obtain⟨y1,y2,y3,y4⟩:=U.pu zc
 have a6:=U.gp zc I
 have eS:dV Y m r.1 r.1 Y Y.length=[]:=staleL_nil fun i hi=>same_fresh hm (fun g hg=>(y2 g hg).1) i hi
 have D:∀p∈Y.flatten,p.bt=2500:=fun p h=>by
  rcases List.mem_cons.1 ((y4 p).1 h)with rfl|h
  ·rfl
  ·rw [List.mem_singleton.1 h];rfl
 have F:Y=[[exP f,exQ f]]:=by
  rcases Y with _|⟨g,_|⟨h,Z⟩⟩
  ·have:=(y4 (exP f)).2 zc
   simp at this
  ·have:g=[exP f,exQ f]:=fq (U.sorted g zc) J fun p=>by
    have:=y4 p
    simpa using this
   rw [this]
  ·obtain⟨b,T⟩:=H6 _ (y2 g zc).1
   obtain⟨a,ha⟩:=H6 _ (y2 h zc).1
   have h1:=(List.pairwise_cons.1 U.gap).1 h zc b T a ha
   have h2:=D b (by simp [T])
   have h3:=D a (by simp [ha])
   omega
 have c0:=Events_at hs B y1 a6 (by rw [F];simp)
 have b6:(dj cE (evs j.1 r.1 Y)).length=1:=by
  rw [eK,F]
  unfold evs
  simp only [Gm,List.flatMap_nil,EP]
  rw [hU,c1]
 show Ok ((fm j.1 r.1 [exP f,exQ f]).bind _) _
 rw [eN,ze]
 show Ok ((eu (PG j.1 r.1 Y) r.1 [exQ f,exP f]).bind _) _
 rw [eU,ze,eS,if_pos zc]
 dsimp only
 rw [c0,ze,b6,if_pos zc,if_pos zc,if_pos zc,prog_refl hs B y1 a6]
 exact G0 rfl
end Go.Dw.Re
set_option maxRecDepth 100000
set_option maxHeartbeats 4000000
namespace Go.Dw.Re
open Go.Dw Go.Proofs
open Sd (mK eE d9)
theorem ints_refl{l:List Int}(hl:l.length<=1000):oE l l=some true:=by
 unfold oE
 rw [if_neg zc]
 have:Ok (cI (nI l l) (0:Int)) (fun o=>o= .inl ()):=by
  refine G6 l.length za (fun _=>True) trivial (fun i f h1 _=>?_)
  unfold nI
  refine GW (fun g=>?_) (fun _=>G3 rfl)
  obtain⟨p,hp, -⟩:=GS (l:=l) f za
  rw [hp,ze,ze,if_neg zc,w64 za za]
  exact GX ⟨⟨za,za⟩,trivial⟩ za
 rw [this.eq];rfl
end Go.Dw.Re
set_option maxRecDepth 100000
set_option maxHeartbeats 4000000
namespace Go.Dw.Re
open Go.Dw Go.Proofs
open Sd (mK eE d9)
def isNew(far:Int)(p:Pick):Option Pick->Bool
 |none=>true
 |some a=>decide (p.bt-a.bt>far)
def stepF(far:Int)(st:Option Pick×List (List Pick))(p:Pick):Option Pick×List (List Pick):=
 (some p,if isNew far p st.1=true then st.2++[[p]]else st.2.dropLast++[st.2.getLast?.getD []++[p]])
def lQ(far:Int)(all:List Pick):Option Pick×List (List Pick):=all.foldl (stepF far) (none,[])
theorem grpS_snoc(far:Int)(all:List Pick)(p:Pick):lQ far (all++[p])=stepF far (lQ far all) p:=by
 unfold lQ
 rw [Hc];rfl
structure GI(far:Int)(all:List Pick)(i:Nat):Prop where
 flat:(lQ far (all.take i)).2.flatten=all.take i
 ne:∀g∈(lQ far (all.take i)).2,g≠ []
 prev:(lQ far (all.take i)).1=if i=0 then none else all[i-1]?
 pos:0<i->(lQ far (all.take i)).2≠ []
theorem grp_facts(far:Int)(all:List Pick):∀i,i<=all.length->GI far all i:=by
 intro i
 induction i with
 |zero=>exact fun _=>⟨rfl,by simp [lQ],rfl,fun h=>za⟩
 |succ i C=>
  intro h
  have hk:i<all.length:=by omega
  obtain⟨h1,k,D,B⟩:=C za
  have e:=grpS_snoc far (all.take i) all[i]
  rw [<-qi hk]at e
  have hp:(lQ far (all.take (i+1))).1=if i+1=0 then none else all[i+1-1]? :=by
   rw [e,if_neg za]
   simp [stepF,zf hk]
  by_cases r:isNew far all[i] (lQ far (all.take i)).1=true
  ·have e2:(lQ far (all.take (i+1))).2=(lQ far (all.take i)).2++[[all[i]]]:=by
    rw [e];unfold stepF;rw [if_pos r]
   refine⟨?_,fun g f=>?_,hp,fun _=>by rw [e2];simp⟩
   ·rw [e2,Ha,h1,qi hk];simp
   ·rw [e2]at f
    rcases List.mem_append.1 f with f|f
    ·exact k g f
    ·rw [Ew]at f;subst f;simp
  ·have q:0<i:=by
    rcases Nat.eq_zero_or_pos i with j|j
    ·subst j
     exact(r rfl).elim
    ·exact j
   have e2:(lQ far (all.take (i+1))).2=(lQ far (all.take i)).2.dropLast++[(lQ far (all.take i)).2.getLast?.getD []++[all[i]]]:=by
    rw [e];unfold stepF;rw [if_neg r]
   rcases H4 (lQ far (all.take i)).2 with j|⟨O,g,j⟩
   ·exact(B q j).elim
   rw [H3]at j
   rw [j]at e2 h1 k
   simp only [List.dropLast_concat,List.getLast?_concat,FK]at e2
   refine⟨?_,fun u f=>?_,hp,fun _=>by rw [e2];simp⟩
   ·rw [e2,qi hk, <-h1];simp
   ·rw [e2]at f
    rcases List.mem_append.1 f with f|f
    ·exact k u (by simp [f])
    ·rw [Ew]at f;subst f;simp
theorem l36_at(far:Int)(all:List Pick)(hl:all.length<=1000)(H:∀p∈all,0<=p.bt∧p.bt<=18014398509481984):
  cI (eF all far) ((0:Int),[])=some (lQ far all).2:=by
 refine GR (GU (fun s=>∃i:Nat,s=((i:Int),(lQ far (all.take i)).2)∧i<=all.length) (fun s=>((all.length:Int)-s.1).toNat) ?_ ⟨0,rfl,DJ _⟩)
 rintro s ⟨i,rfl,hi⟩
 unfold eF
 dsimp only
 refine GW (fun J=>?_) (fun I=>?_)
 rotate_left
 ·have:i=all.length:=by omega
  subst this
  exact G3 (by rw [GM])
 have hk:i<all.length:=by omega
 obtain⟨h1,E,B,F⟩:=grp_facts far all i hi
 have e:=grpS_snoc far (all.take i) all[i]
 rw [<-qi hk]at e
 generalize K:lQ far (all.take i)=st at*
 obtain⟨L,out⟩:=st
 simp only at h1 E B F
 have q:out.length<=1000:=by have:=len_le E;rw [h1]at this;simp at this;omega
 have j:rD out [[]] 24=some (out++[[]]):=dW (by simp only [DW,DX];omega)
 rw [rY za za,ze,ow (i:=i) rfl hk,ze]
 refine G4 (fun r=>?_) (fun r=>?_)
 ·have r:i=0:=by omega
  rw [j,ze,qo out [] all[i] i q zc,w64 za za]
  refine GX ⟨i+1,?_,za⟩ zd
  rw [e,B,if_pos r];rfl
 ·have r:0<i:=by omega
  have f:i-1<all.length:=by omega
  rw [if_neg za,zf f]at B
  subst B
  rw [w64 (n:=(i:Int)-1) za za,rY za za,ze,ow (i:=i-1) za f,ze]
  have N:=H _ (Dn hk)
  have Q:=H _ (Dn f)
  rw [w64 (n:=all[i].bt-(all[i-1]'f).bt) za za]
  refine GW (fun u=>?_) (fun k=>?_)
  ·rw [j,ze,qo out [] all[i] i q zc,w64 za za]
   refine GX ⟨i+1,?_,za⟩ zd
   have D:isNew far all[i] (some (all[i-1]'f))=true:=decide_eq_true u
   rw [e];unfold stepF
   dsimp only
   rw [if_pos D];rfl
  ·rcases H4 out with rfl|⟨O,g,rfl⟩
   ·exact(F r rfl).elim
   rw [H3]at*
   have C:g.length<=1000:=by
    have G:=(HI (show g∈O++[g]by simp)).length_le
    rw [h1]at G;simp at G;omega
   rw [qo O g all[i] i (by simp at q;omega) C,w64 za za]
   refine GX ⟨i+1,?_,za⟩ zd
   rw [e];unfold stepF
   rw [if_neg (by simpa [isNew]using k)]
   simp
theorem batches_at(far:Int)(l:List Pick)(hl:l.length<=20)(K:∀p∈l,cG p):∃all X,(∀x,x∈all↔x∈l)∧all.Pairwise lx∧bT far l=some X∧X.length=(lQ far all).2.length∧
  ∀(j:Nat)(h:j<X.length)(q:j<(lQ far all).2.length),X[j].Perm (lQ far all).2[j]:=by
 have:Ok (bT far l) (fun X=>∃all,(∀x,x∈all↔x∈l)∧all.Pairwise lx∧X.length=(lQ far all).2.length∧∀(j:Nat)(h:j<X.length)(q:j<(lQ far all).2.length),X[j].Perm (lQ far all).2[j]):=by
  unfold bT
  obtain⟨s,E,e2,F,N⟩:=oc (l:=l) za
  rw [E,ze]
  refine GQ (sstable_ok s za e2) (fun all u=>?_)
  have I:all.length=s.length:=u.1.length_eq
  have f:∀x,x∈all↔x∈l:=fun x=>u.1.mem_iff.trans (F x)
  have hf:=grp_facts far all all.length (DA _)
  have h1:=hf.flat
  have k:=hf.ne
  rw [GM]at h1 k
  rw [l36_at far all za fun p hp => by
   have:=K p ((f p).1 hp)
   exact⟨this.2.1,by have:=this.2.2;omega⟩,ze]
  have B:(lQ far all).2.length<=1000:=by have:=len_le k;rw [h1]at this;omega
  refine GQ (l47_ok _ B fun g J=>?_) (fun x L=>?_)
  ·have r:=(HI J).length_le
   rw [h1]at r;omega
  obtain⟨C,D⟩:=L
  exact G0 ⟨all,f,u.2,C,fun j h q=>(D j h q).1⟩
 obtain⟨X,h1,all,k,r,G,H⟩:=this
 exact⟨all,X,k,r,h1,G,H⟩
theorem batches_far{n:Int}(hn:n<=5000){l:List Pick}{z:Pick}(hl:l.length<=19)(hp:∀p∈l,cG p)(T:cG z)(hf:∀p∈l,p.bt+n<z.bt)(h0:0<=n)
  {X Y:List (List Pick)} (O:bT n l=some X) (q:jV n l X) (Q:bT n (l++[z])=some Y) (r:jV n (l++[z]) Y):Y=X++[[z]]:=by
 obtain⟨A,U,a1,a2,a3,a4,a5⟩:=batches_at n l za hp
 rw [O]at a3
 obtain rfl:=E8 a3
 obtain ⟨B, W, H, I, E, J, K⟩ := batches_at n (l ++ [z]) so (fun p h => by
  rcases List.mem_append.1 h with h|h
  ·exact hp p h
  ·rw [Ew]at h;subst h;exact T)
 rw [Q]at E
 obtain rfl:=E8 E
 have k:B=A++[z]:=by
  refine qc cE_tot I (List.pairwise_append.2 ⟨a2,Hi _ _,fun a u b f=>?_⟩) fun x=>?_
  ·rw [Ew]at f
   subst f
   refine lx_lt ?_
   have:=hf a ((a1 a).1 u)
   omega
  ·rw [H,Eu,Eu,a1]
 have G:(lQ n B).2=(lQ n A).2++[[z]]:=by
  rw [k,grpS_snoc]
  unfold stepF
  rw [if_pos]
  have g:=(grp_facts n A A.length (DA _)).prev
  rw [GM]at g
  rw [g]
  split
  ·rfl
  ·rename_i h
   have hk:A.length-1<A.length:=by omega
   rw [zf hk]
   have:=hf _ ((a1 _).1 (Dn hk))
   exact decide_eq_true za
 have hlen:Y.length=X.length+1:=by rw [J,G,ES,a4];rfl
 refine List.ext_getElem (by rw [hlen];simp) fun j h1 h2=>?_
 have N:j<(lQ n B).2.length:=by omega
 have f:=K j h1 N
 have hs:=r.sorted _ (Dn h1)
 simp only [G]at f
 by_cases C:j<X.length
 ·have F:j<(lQ n A).2.length:=by omega
  rw [GB C]
  rw [GB F]at f
  have u:=a5 j C F
  exact fq hs (q.sorted _ (Dn C)) fun x=>f.mem_iff.trans u.mem_iff.symm
 ·have D:j=X.length:=by omega
  subst D
  rw [List.getElem_append_right za]at f⊢
  have L:X.length-(lQ n A).2.length=0:=by omega
  simp only [L,Hd]at f
  simp only [Nat.sub_self,Hd]
  exact fq hs (Hi _ _) fun x=>f.mem_iff
theorem stale_far{X:List (List Pick)}{m:List (Pick×Int)}{v:ae}{l:List Pick}{z:Pick}(hm:Home X m)(k:∀g∈X,g≠ [])(hl:∀p,p∈X.flatten↔p∈l)(B:z∉l):
  dV X m v v (X++[[z]]) (X++[[z]]).length=[(X.length:Int)]:=by
 unfold dV
 rw [ES,DW,DX,Hj,Gh,FF]
 have h1:(DG X.length).filter (fun j=> !frB X m v v ((X++[[z]]).getD j []))=[]:=by
  rw [List.filter_eq_nil_iff]
  intro j f
  have f:=List.mem_range.1 f
  have u:(X++[[z]]).getD j []=X[j]:=by rw [En,List.getElem?_append_left f,zf f];rfl
  rw [u,same_fresh hm k j f]
  simp
 have q:(X++[[z]]).getD X.length []=[z]:=by rw [En,List.getElem?_append_right (DA _)];simp
 have r:frB X m v v [z]=false:=must_stale hm hl ⟨z,zc,.inl B⟩
 rw [h1]
 simp only [Nat.zero_add,H7,q,r]
 rfl
theorem qF(a0:List Int):kr a0=some true:=by
 refine GR ?_
 unfold kr
 refine GQ (new_ok a0) (fun T h1=>?_)
 refine GQ ((settingsV (k:=3) za T h1).both (settings_ok (k:=3) za T h1)) (fun C⟨⟨F,h2⟩,r,_⟩=>?_)
 refine GQ (sitesV C.2 h2) (fun j⟨u,h3⟩=>?_)
 refine GQ (picks_lo C.1 r j.1 u.inv 8 za j.2 h3) (fun q⟨⟨l4,L⟩,h4⟩=>?_)
 refine GQ (source_ok 0) (fun U h5=>?_)
 have B:∀p∈q.1,cG p:=fun p hp=>(L p hp).1
 have Q:cG ⟨U,90000,90000,90000,0,0⟩:=⟨h5,zd⟩
 generalize J:(⟨U,90000,90000,90000,0,0⟩:Pick)=z at*
 have a5:z.bt=90000:=by rw [<-J]
 have I:=F.span
 have f:∀p∈q.1,p.bt<=40000:=fun p hp=>by
  have h6:=(L p hp).2
  have h7:=(L p hp).1.2
  omega
 have K:z∉q.1:=fun h=>by have:=f z h;omega
 have p5:∀p∈q.1++[z],cG p:=fun p h=>by
  rcases List.mem_append.1 h with h|h
  ·exact B p h
  ·rw [Ew]at h;subst h;exact Q
 have l5:(q.1++[z]).length<=19:=by rw [ES,DW,DX];omega
 obtain⟨X,O,D,eN⟩:=New_at F u (l:=q.1) za B
 obtain⟨Y,m,hY,E,hm,eU⟩:=Update_at F u u za B l5 p5 O D
 obtain⟨c1,W,c3,c4⟩:=D.pu za
 have N:Y=X++[[z]]:=batches_far za za B Q (fun p hp=>by have:=f p hp;omega) I.1 O D hY E
 have eS:dV X m j.1 j.1 Y Y.length=[(X.length:Int)]:=by
  rw [N]
  exact stale_far hm (fun g hg=>(W g hg).1) c4 K
 have G:(PG C.1 j.1 X).bL.length=X.length:=E9 ..
 have H:(PG C.1 j.1 Y).bL.length=X.length+1:=(E9 ..).trans (by rw [N];simp)
 rw [eN,ze,dW (by simp only [DW,DX];omega),ze]
 dsimp only
 rw [eU,ze,eS]
 dsimp only
 rw [if_pos zc,if_pos zc,G,H,w64 za za,if_pos zc,ints_refl zc,ze,if_pos rfl,awake_at]
 exact Ok.of rfl rfl
end Go.Dw.Re
