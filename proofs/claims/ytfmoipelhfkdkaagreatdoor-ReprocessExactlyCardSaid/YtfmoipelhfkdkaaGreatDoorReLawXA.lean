
import Derived.Test.YtfmoipelhfkdkaaGreatDoorReLawW
import Derived.KernelRfl
import Derived.Test.YtfmoipelhfkdkaaGreatDoorReLawEB
import Derived.Test.YtfmoipelhfkdkaaGreatDoorReCo
set_option linter.unusedVariables false
set_option linter.unusedSimpArgs false
open Go.Dw.Ok renaming app->GQ, bind->GR, eq->GS, get->GU, loop->GV, mod->GW, nx->GX, pJ->GY, ret->G1, st->G4, ti->G5, upto->G7
open List renaming any_eq_false->H2, append_assoc->DC, append_nil->ER, concat_eq_append->H3, cons_append->En, eq_nil_of_length_eq_zero->ES, eq_nil_or_concat->H4, exists_cons_of_ne_nil->H5, exists_mem_of_ne_nil->H6, find?_cons_of_pos->H7, flatMap_append->H8, flatMap_cons->Gn, flatten_append->H9, flatten_cons->Gq, flatten_nil->Ha, getD_eq_getElem?_getD->Eo, getElem_map->GF, getElem_mem->Dp, getElem_of_mem->Gs, headD_cons->Hb, length->GG, length_append->ET, length_cons->DW, length_filter_le->Gt, length_map->Ea, length_nil->DX, length_range->Hc, length_take->EG, map_append->FG, map_congr_left->Gu, map_map->Gv, mem_append->Ew, mem_erase_of_ne->Hd, mem_singleton->Ey, nil_append->D0, pairwise_singleton->He, range->DG, range_succ->Hg, set_getElem_self->GL, sublist_flatten_of_mem->HJ, take_append_drop->HP, take_length->GM
open Go.IntKind renaming wrap->FN
open Nat renaming zero_le->DJ
open Int renaming le_refl->Fb
open Option.some renaming inj->E9, injEq->DB
open Option renaming getD_some->FL
open Classical renaming byContradiction->Ga
open Bool renaming and_eq_true->D6

set_option maxRecDepth 100000
set_option maxHeartbeats 4000000
namespace Go.Dw.Re
open Go.Dw
theorem get2{α:Type}(A:List α)(y x:α)(T:List α){n:Int}(f:n=A.length+1):nZ (A++y::x::T) n=some x:=by
 have:=get1 (A++[y]) x T (n:=n) so
 simpa using this
theorem set2{α:Type}(A:List α)(y x z:α)(T:List α){n:Int}(f:n=A.length+1):tF (A++y::x::T) n z=some (A++y::z::T):=by
 have:=set1 (A++[y]) x z T (n:=n) so
 simpa using this
def le1(x y:Pick):Prop:=x.bv<=y.bv
theorem lit1_eq(a b:Pick):fG a b=some (sZ a.bv b.bv):=by
 unfold fG
 rw [Sd.lD];rfl
theorem cmpI_neg{a b:Int}:sZ a b<0↔a<b:=by
 unfold sZ
 by_cases h1:a<b
 ·simp [h1]
 ·by_cases f:a>b<;>simp [h1,f]
def cEb(a b:Pick):Int:=if sZ a.bv b.bv≠0 then sZ a.bv b.bv else fQ a b
def lx(a b:Pick):Prop:=cEb a b<0
theorem lx_lt{a b:Pick}(h:a.bv<b.bv):lx a b:=by
 unfold lx cEb sZ;simp [h]
theorem lx_le{a b:Pick}(h:a.bv<=b.bv)(f:fQ a b<0):lx a b:=by
 by_cases e:a.bv<b.bv
 ·exact lx_lt e
 ·have:a.bv=b.bv:=by omega
  unfold lx cEb
  rw [if_neg (by rw [this];simp [xj.2])]
  exact f
theorem lx_early{a b:Pick}(h:lx a b):a.bv<=b.bv:=by
 unfold lx cEb at h
 by_cases e:sZ a.bv b.bv=0
 ·rw [xj]at e;omega
 ·rw [if_pos e,cmpI_neg]at h;omega
theorem sinner_ok(i:Nat)(L C:List Pick)(x:Pick)(I:L.Pairwise lx)(hl:L.length<=1000)(Q:∀a∈L,fQ a x<0):
  Ok (cI (dq 0 (i:Int)) ((L.length:Int),L++x::C)) (fun o=>o.1=i∧∃D,o.2=D++C∧D.Perm (x::L)∧D.Pairwise lx):=by
 refine GV (fun s=>∃A B:List Pick,s=((A.length:Int),A++x::(B++C))∧A++B=L∧∀b∈B,lx x b) (fun s=>s.1.toNat) ?_ ⟨L,[],zc,zc,zc⟩
 rintro s ⟨A,B,rfl,j,K⟩
 have H:A.length<=1000:=by have:=congrArg GG j;simp at this;omega
 have f:(∀a∈A,lx a x)->Ok (some (il.stop ((i:Int),A++x::(B++C)))) (Ok.S (fun s=>∃A B:List Pick,s=((A.length:Int),A++x::(B++C))∧A++B=L∧∀b∈B,lx x b) (fun s=>s.1.toNat) (fun o:Int×List Pick=>o.1=i∧∃D,o.2=D++C∧D.Perm (x::L)∧D.Pairwise lx) ((A.length:Int),A++x::(B++C))):=by
  intro O
  refine G4 ⟨rfl,A++x::B,zc,?_,?_⟩
  ·rw [<-j];exact List.perm_middle
  ·rw [<-j]at I
   obtain⟨T,U,W⟩:=List.pairwise_append.1 I
   refine List.pairwise_append.2 ⟨T,List.pairwise_cons.2 ⟨K,U⟩,fun a k b r=>?_⟩
   rcases List.mem_cons.1 r with rfl|r
   ·exact O a k
   ·exact W a k b r
 unfold dq
 dsimp only
 refine GY (fun E=>?_) (fun hle=>?_)
 rotate_left
 ·have:A=[]:=ES za
  subst this
  exact f zc
 rcases H4 A with rfl|⟨g,y,rfl⟩
 ·simp at E
 simp only [ET,DW,DX,DC,En,D0,H3]at H E f⊢
 have hw:FN .i64 (((g.length+(0+1):Nat):Int)-1)=(g.length:Int):=by rw [w64 za za];omega
 rw [hw]
 have J:inO (g++y::x::(B++C)) ((g.length+(0+1):Nat):Int)=some ():=sa za so
 have q:∀z,inO (g++y::z::(B++C)) (g.length:Int)=some ():=fun z=>sa za so
 rw [J,ze,get2 g y x (B++C) za,ze,q,ze,get1 g y _ rfl,ze,lit1_eq,ze]
 refine GY (fun F=>?_) (fun u=>?_)
 ·rw [ze,ze,ze,ze,ze,set2 g y x y (B++C) za,ze,q,ze,set1 g y x _ rfl,ze]
  rw [cmpI_neg]at F
  refine GX ⟨g,y::B,rfl,by simpa using j,fun b r=>?_⟩ zd
  rcases List.mem_cons.1 r with rfl|r
  ·exact lx_lt F
  ·exact K b r
 ·refine f fun a k=>?_
  rw [cmpI_neg]at u
  have N:y.bv<=x.bv:=Int.not_lt.1 u
  have G:∀a∈g++[y],a∈L:=fun a k=>by
   rw [<-j]
   simp only [H3]
   exact List.mem_append.2 (.inl k)
  refine lx_le ?_ (Q a (G a k))
  rw [Ew,Ey]at k
  rcases k with k|rfl
  ·have:(g++(y::B)).Pairwise lx:=by
    have:=I
    rw [<-j]at this
    simpa using this
   have:=lx_early ((List.pairwise_append.1 this).2.2 a k y zc)
   exact Int.le_trans this N
  ·exact N
theorem qx(d:List Pick)(O:d.length<=1000)(hs:d.Pairwise (fun a b=>fQ a b<0)):Ok (bW 0 (d.length:Int) d) (fun r=>r.Perm d∧r.Pairwise lx):=by
 unfold bW
 rw [w64 (n:=0+1) za za]
 refine GR (P:=fun r=>r.Perm d∧r.Pairwise lx) (GV (fun s=>∃(D C:List Pick),s=(((if d=[]then 1 else D.length:Nat):Int),D++C)∧(∃T,T++C=d∧D.Perm T)∧D.Pairwise lx∧(d≠ []->1<=D.length)) (fun s=>((d.length:Int)-s.1).toNat) ?_ ?_) (fun o ho=>G1 ho)
 ·rintro s ⟨D,C,rfl,⟨T,u,hp⟩,q,h1⟩
  unfold cM
  dsimp only
  have F:D.length+C.length=d.length:=by have:=hp.length_eq;have:=congrArg GG u;rw [ET]at this;omega
  refine GY (fun k=>?_) (fun B=>?_)
  ·have f:d≠ []:=fun e=>by subst e;simp at k
   rw [if_neg f]at k⊢
   rcases C with _|⟨x,C⟩
   ·simp at F;omega
   have j:=hs
   rw [<-u]at j
   obtain⟨Q,U,N⟩:=List.pairwise_append.1 j
   refine GR (sinner_ok D.length D C x q za fun a I=>N a (hp.mem_iff.1 I) x zc) (fun o ho=>?_)
   obtain⟨J,G,K,H,L⟩:=ho
   rw [J,K,w64 za za]
   have E:G.length=D.length+1:=by have:=H.length_eq;simpa using this
   refine GX ⟨G,C,?_,⟨T++[x],by simpa using u,?_⟩,L,fun _=>za⟩ zd
   ·rw [if_neg f,E];simp
   ·exact H.trans (((List.Perm.cons x hp)).trans (List.perm_append_singleton x T).symm)
  ·rw [ze]
   have g:(D++C).Perm d:=by rw [<-u];exact hp.append_right C
   refine G4 ⟨g,?_⟩
   by_cases f:d=[]
   ·subst f
    have:D++C=[]:=ES (by simpa using g.length_eq)
    rw [this];exact .nil
   ·rw [if_neg f]at B
    have:C=[]:=ES za
    subst this
    simpa using q
 ·by_cases f:d=[]
  ·subst f
   exact⟨[],[],zc,⟨[],rfl,.refl _⟩,.nil,fun h=>(h rfl).elim⟩
  ·refine⟨d.take 1,d.drop 1,?_,⟨d.take 1,HP 1 d,.refl _⟩,?_,fun _=>?_⟩
   ·rw [if_neg f,HP]
    have:=List.length_pos_iff.2 f
    simp;omega
   ·rcases d with _|⟨a,d⟩
    ·exact(f rfl).elim
    ·simp
   ·have:=List.length_pos_iff.2 f
    simp;omega
theorem insertion_end(n:Nat)(f:n<=1000)(d:List Pick):bW (n:Int) (n:Int) d=some d:=by
 unfold bW
 rw [w64 za za]
 have:cM (n:Int) (n:Int) ((n:Int)+1,d)=some (.stop d):=by
  unfold cM
  dsimp only
  rw [if_neg so];rfl
 rw [qV this];rfl
theorem sstable_ok(d:List Pick)(C:d.length<=20)(hs:d.Pairwise (fun a b=>fQ a b<0)):Ok (dy d) (fun r=>r.Perm d∧r.Pairwise lx):=by
 unfold dy
 refine GR (P:=fun r=>r.Perm d∧r.Pairwise lx) ?_ (fun o ho=>G1 ho)
 unfold dR
 have f:∀r:List Pick,cI (ei (d.length:Int) r) (20:Int)=some r:=fun r=>by
  refine qV ?_
  unfold ei
  rw [if_neg so];rfl
 by_cases g:d.length=20
 ·have q:cj (d.length:Int) ((0:Int),(20:Int),d)=(bW 0 (d.length:Int) d).bind fun B=>some (.next ((20:Int),(40:Int),B)):=by
   unfold cj
   dsimp only
   rw [if_pos so,w64 za za]
   rw [g];rfl
  obtain⟨r,e2,k⟩:=qx d za hs
  rw [e2,ze]at q
  have j:cj (d.length:Int) ((20:Int),(40:Int),r)=some (.stop ((20:Int),r)):=by
   unfold cj
   dsimp only
   rw [if_neg so]
  rw [rN q,qV j,ze]
  dsimp only
  have u:=insertion_end 20 za r
  rw [g]at f⊢
  rw [show((20:Nat):Int)=20 from rfl]at u f⊢
  rw [u,ze,f]
  exact G1 k
 ·have j:cj (d.length:Int) ((0:Int),(20:Int),d)=some (.stop ((0:Int),d)):=by
   unfold cj
   dsimp only
   rw [if_neg so]
  rw [qV j,ze]
  dsimp only
  refine GR (qx d za hs) (fun r k=>?_)
  rw [f]
  exact G1 k
theorem lastO_snoc{α:Type}(O:List α)(g:α):zh (O++[g])=some g:=by
 unfold zh
 simp
theorem tail_eq(O:List (List Pick))(g:List Pick)(p:Pick)(i:Int)(C:O.length<=1000)(D:g.length<=1000):
  ((zh (O++[g])).bind fun f=>(inO (O++[g]) (FN .i64 (((O++[g]).length:Int)-(1:Int)))).bind fun q=>(atO (FN .i64 (((O++[g]).length:Int)-(1:Int))) ((O++[g]).length-1)).bind fun r=>(rE f [p] 104).bind fun j=>(inO (O++[g]) (FN .i64 (((O++[g]).length:Int)-(1:Int)))).bind fun u=>(stO (O++[g]).length (FN .i64 (((O++[g]).length:Int)-(1:Int))) ((O++[g]).length-1)).bind fun B=>some (il.next (FN .i64 (i+(1:Int)),(O++[g]).set ((O++[g]).length-1) j):il (Int×List (List Pick)) (List (List Pick))))
   =some (.next (FN .i64 (i+1),O++[g++[p]])):=by
 have hl:(O++[g]).length=O.length+1:=by simp
 have hw:FN .i64 (((O++[g]).length:Int)-1)=(O.length:Int):=by rw [hl,w64 za za];omega
 rw [hw,lastO_snoc,ze,sa za (by rw [hl];omega),ze,hl]
 have k:atO (O.length:Int) (O.length+1-1)=some ():=by unfold atO;rw [if_pos zc]
 have hs:stO (O.length+1) (O.length:Int) (O.length+1-1)=some ():=by unfold stO;rw [if_pos zc]
 rw [k,ze,et (by simp only [DW,DX];omega),ze,ze,hs,ze]
 simp
def Gap(far:Int)(g h:List Pick):Prop:=∀b∈g,∀a∈h,far<a.bv-b.bv
structure BI(far:Int)(all:List Pick)(i:Nat)(out:List (List Pick)):Prop where
 flat:out.flatten=all.take i
 ne:∀g∈out,g≠ []
 gap:out.Pairwise (Gap far)
 pos:0<i->out≠ []
theorem len_le{out:List (List Pick)}(h:∀g∈out,g≠ []):out.length<=out.flatten.length:=by
 induction out with
 |nil=>simp
 |cons g out j=>
  have:=List.length_pos_iff.2 (h g zc)
  have:=j fun g f=>h g (by simp [f])
  rw [Gq,ET,DW];omega
theorem l36_ok(far:Int)(all:List Pick)(hl:all.length<=1000)(hs:all.Pairwise le1)(hr:∀p∈all,0<=p.bv∧p.bv<=18014398509481984):
  Ok (cI (jg all far) ((0:Int),[])) (BI far all all.length):=by
 refine GV (fun s=>∃i:Nat,s.1=i∧i<=all.length∧BI far all i s.2) (fun s=>((all.length:Int)-s.1).toNat) ?_ ⟨0,rfl,DJ _,⟨zc,zc,.nil,fun h=>za⟩⟩
 rintro⟨s3,out⟩ ⟨i,rfl,hi,q⟩
 unfold jg
 dsimp only
 refine GY (fun r=>?_) (fun a5=>?_)
 rotate_left
 ·have:i=all.length:=by omega
  subst this
  exact G4 q
 have r:i<all.length:=by omega
 have F:out.length<=1000:=by have:=len_le q.ne;rw [q.flat]at this;simp at this;omega
 have L:∀g∈out,g.length<=1000:=fun g K=>by
  have h1:=(HJ K).length_le
  rw [q.flat]at h1;simp at h1;omega
 have C:all.take (i+1)=all.take i++[all[i]]:=rr r
 have B:∀g∈out,∀b∈g,∃j,∃h:j<i,all[j]'za=b:=fun g K b J=>by
  have:b∈all.take i:=by rw [<-q.flat];exact List.mem_flatten.2 ⟨g,K,J⟩
  obtain⟨j,U,e⟩:=Gs this
  simp only [EG]at U
  rw [List.getElem_take]at e
  exact⟨j,za,e⟩
 have I:∀{j k:Nat}(hk:k<all.length)(W:j<=k),(all[j]'za).bv<=all[k].bv:=fun{j k}hk W=>by
  by_cases e:j=k
  ·subst e;exact Fb _
  ·exact List.pairwise_iff_getElem.1 hs j k za hk za
 have H:(0<i->∃h:i-1<all.length,far<all[i].bv-(all[i-1]'h).bv)->BI far all (i+1) (out++[[all[i]]]):=fun K=>by
  refine⟨by rw [H9,q.flat,C];simp,fun g f=>?_,List.pairwise_append.2 ⟨q.gap,He _ _,fun g f h Q=>?_⟩,fun _=>zc⟩
  ·rcases List.mem_append.1 f with f|f
   ·exact q.ne g f
   ·rw [Ey]at f;subst f;simp
  ·rw [Ey]at Q
   subst Q
   intro b J a D
   rw [Ey]at D
   subst D
   obtain⟨j,U,rfl⟩:=B g f b J
   obtain⟨h1,h2⟩:=K za
   have:=I (j:=j) (k:=i-1) h1 za
   omega
 rw [sa za za,ze,pI (i:=i) rfl r,ze]
 have G:rE out [[]] 24=some (out++[[]]):=et (by simp only [DW,DX];omega)
 refine G5 (fun T=>?_) (fun T=>?_)
 ·have T:i=0:=by omega
  rw [G,ze,tail_eq out [] all[i] i F zc,w64 za za]
  refine GX ⟨i+1,zc,za,?_⟩ zd
  simpa using H fun h=>by omega
 ·have T:0<i:=by omega
  have E:i-1<all.length:=by omega
  rw [w64 (n:=(i:Int)-1) za za,sa za za,ze,pI (i:=i-1) za E,ze]
  have r1:=hr _ (Dp r)
  have r2:=hr _ (Dp E)
  rw [w64 (n:=all[i].bv-(all[i-1]'E).bv) za za]
  refine GY (fun Y=>?_) (fun X=>?_)
  ·rw [G,ze,tail_eq out [] all[i] i F zc,w64 za za]
   refine GX ⟨i+1,zc,za,?_⟩ zd
   simpa using H fun _=>⟨E,za⟩
  ·rcases H4 out with rfl|⟨O,g,rfl⟩
   ·exact(q.pos T rfl).elim
   rw [H3]at q F L B⊢
   have N:=q.ne g zc
   rw [tail_eq O g all[i] i (by simp at F;omega) (L g zc),w64 za za]
   refine GX ⟨i+1,zc,za,?_⟩ zd
   obtain⟨p1,p2,p3⟩:=List.pairwise_append.1 q.gap
   refine⟨?_,fun g' f=>?_,List.pairwise_append.2 ⟨p1,He _ _,fun u hu h Q=>?_⟩,fun _=>zc⟩
   ·have:=q.flat
    simp only [H9,Gq,Ha,ER]at this⊢
    rw [C, <-this,DC]
   ·rcases List.mem_append.1 f with f|f
    ·exact q.ne g' (by simp [f])
    ·rw [Ey]at f;subst f;simp
   ·rw [Ey]at Q
    subst Q
    intro b J a D
    rcases List.mem_append.1 D with D|D
    ·exact p3 u hu g zc b J a D
    ·rw [Ey]at D
     subst D
     rcases g with _|⟨c,g⟩
     ·exact(N rfl).elim
     have h1:=p3 u hu (c::g) zc b J c zc
     obtain⟨j,U,e⟩:=B (c::g) zc c zc
     have:=I (j:=j) (k:=i) r za
     rw [e]at this
     omega
theorem l47_ok(out:List (List Pick))(hl:out.length<=1000)(E:∀g∈out,g.length<=1000):
  Ok (cI (jh out) ((0:Int),out)) (fun x=>x.length=out.length∧∀(j:Nat)(h:j<x.length)(f:j<out.length),x[j].Perm out[j]∧x[j].Pairwise (fun a b=>fQ a b<=0)):=by
 refine GV (fun s=>∃i:Nat,s.1=i∧i<=out.length∧s.2.length=out.length∧∀(j:Nat)(h:j<s.2.length)(f:j<out.length),s.2[j].Perm out[j]∧(j<i->s.2[j].Pairwise (fun a b=>fQ a b<=0))) (fun s=>((out.length:Int)-s.1).toNat) ?_ ⟨0,rfl,DJ _,rfl,fun j h f=>⟨.refl _,fun h=>za⟩⟩
 rintro⟨s1,cur⟩ ⟨i,rfl,hi,hlen,hc⟩
 unfold jh
 dsimp only at hlen hc⊢
 refine GY (fun k=>?_) (fun F=>?_)
 rotate_left
 ·exact G4 ⟨hlen,fun j h f=>⟨(hc j h f).1,(hc j h f).2 za⟩⟩
 have k:i<out.length:=by omega
 have q:i<cur.length:=by omega
 have u:atO (i:Int) (Int.toNat (i:Int))=some ():=by unfold atO;rw [if_pos rfl]
 obtain⟨hp, -⟩:=hc i q k
 have B:cur[i].length<=1000:=by rw [hp.length_eq];exact E _ (Dp k)
 obtain⟨m,C,e2,D⟩:=sort_at B
 rw [pI (i:=i) rfl q,ze,sa za za,ze,u,ze,C,ze,w64 za za]
 refine GX ⟨i+1,zc,za,by simpa using hlen,fun j h f=>?_⟩ zd
 simp only [Int.toNat_natCast,List.length_set]at h⊢
 rw [List.getElem_set]
 by_cases r:i=j
 ·subst r
  rw [if_pos rfl]
  exact⟨e2.trans hp,fun _=>D⟩
 ·rw [if_neg r]
  exact⟨(hc j h f).1,fun G=>(hc j h f).2 za⟩
theorem qY:∀{x y:List (List Pick)},x.length=y.length->(∀(j:Nat)(h:j<x.length)(q:j<y.length),x[j].Perm y[j])->x.flatten.Perm y.flatten
 | [],[],_,_=>.refl _
 | [],_::_,h,_=>by simp at h
 |_::_,[],h,_=>by simp at h
 |g::x,k::y,h,hp=>by
  have f:=hp 0 zc zc
  have:=qY (x:=x) (y:=y) (by simpa using h) fun j h1 r=>hp (j+1) so so
  simpa using f.append this
structure lB(far:Int)(l:List Pick)(x:List (List Pick)):Prop where
 flat:∃s:List Pick,da l=some s∧s.length<=l.length∧s.Pairwise (fun a b=>fQ a b<0)∧(∀p,p∈s↔p∈l)∧x.flatten.Perm s
 ne:∀g∈x,g≠ []
 gap:x.Pairwise (Gap far)
 sorted:∀g∈x,g.Pairwise (fun a b=>fQ a b<0)
theorem oP(far:Int)(l:List Pick)(hl:l.length<=20)(X:∀p∈l,cW p):Ok (bZ far l) (lB far l):=by
 unfold bZ
 obtain⟨s,K,e2,L,e4⟩:=oM (l:=l) za
 rw [K,ze]
 refine GR (sstable_ok s za e2) (fun all D=>?_)
 have T:all.length=s.length:=D.1.length_eq
 refine GR (l36_ok far all za (D.2.imp fun h=>lx_early h) fun p hp=>?_) (fun out C=>?_)
 ·have:=X p ((L p).1 (D.1.mem_iff.1 hp))
  exact⟨this.2.1,by have:=this.2.2;omega⟩
 have f:out.flatten=all:=by rw [C.flat];simp
 have I:out.length<=1000:=by have:=len_le C.ne;rw [f]at this;omega
 refine GR (l47_ok out I fun g B=>?_) (fun x Y=>?_)
 ·have h1:=(HJ B).length_le
  rw [f]at h1;omega
 obtain⟨J,r⟩:=Y
 have q:x.flatten.Perm s:=(qY J fun j h N=>(r j h N).1).trans (by rw [f];exact D.1)
 have H:s.Nodup:=e2.imp fun{a b}h e=>by
  subst e
  have:=df.refl a
  omega
 refine G1 ⟨⟨s,K,za,e2,L,q⟩,fun g B=>?_,?_,fun g B=>?_⟩
 ·obtain⟨j,u,rfl⟩:=Gs B
  have h1:=(r j u za).1
  intro e
  rw [e]at h1
  exact C.ne _ (Dp za) h1.nil_eq.symm
 ·rw [List.pairwise_iff_getElem]
  intro j k u hk G b U a F
  have h1:=List.pairwise_iff_getElem.1 C.gap j k za za G
  exact h1 b ((r j u za).1.mem_iff.1 U) a ((r k hk za).1.mem_iff.1 F)
 ·obtain⟨j,u,rfl⟩:=Gs B
  have h1:=(r j u za).2
  have W:x[j].Nodup:=(q.nodup_iff.2 H).sublist (HJ (Dp u))
  refine(h1.and W).imp fun{a b}h=>?_
  obtain⟨O,Q⟩:=h
  rcases Int.lt_or_eq_of_le O with E|E
  ·exact E
  ·exact(Q (lU E)).elim
end Go.Dw.Re
set_option maxRecDepth 100000
set_option maxHeartbeats 4000000
namespace Go.Dw.Re
open Go.Dw Go.Proofs
theorem qn{l:List Pick}(hl:l.length<=1000)(h:∀p∈l,cW p):gg l=some true:=by
 unfold gg fC gt
 have:Ok (cI (dV l) (0:Int)) (fun o=>o= .inl ()):=by
  refine G7 l.length za (fun _=>True) trivial (fun i g h1 _=>?_)
  unfold dV
  refine GY (fun f=>?_) (fun _=>G4 rfl)
  refine GR (GU za za) (fun p hp=>?_)
  unfold jP
  rw [n7 (h p hp.1),ze,ze,if_neg zc,w64 za za]
  exact GX ⟨⟨za,za⟩,trivial⟩ za
 rw [this.eq];rfl
end Go.Dw.Re
set_option maxRecDepth 100000
set_option maxHeartbeats 4000000
namespace Go.Dw.Re
open Go.Dw Go.Proofs
open Sd (mQ eW eo)
noncomputable def usedE (s:ah) (p:Pick):Option az->aw×az×Bool
 |none=>(⟨⟨0,0,0⟩,0,0,0⟩,zEp,false)
 |some e=>if(((eD s.ac.bJ s.ac.bn ⟨e.bU,p.bv,p.cg,1⟩).getD (⟨0,0⟩,0)).2 != (0:Int))=true then(⟨⟨0,0,0⟩,0,0,0⟩,zEp,false)else(⟨e.bU,p.bv,p.cg,1⟩,e,true)
theorem used_eq{s:ah}(hs:gB s){v:ae}(f:gA v){p:Pick}(hp:cW p):used s v p=usedE s p (nq v p.a7 p.bS):=by
 have h1:=(nK hs f hp).1
 unfold eC at h1
 rw [n7 hp,ze,if_neg zc,At_eq f.lens (lV f),ze]at h1
 cases h:nq v p.a7 p.bS with
 |none=>
  rw [h]at h1
  dsimp only at h1
  rw [if_pos zc]at h1
  exact(E9 h1).symm
 |some e=>
  rw [h]at h1
  dsimp only at h1
  rw [if_neg zc]at h1
  have he:=epAt_ok f h
  obtain⟨z,g, -⟩:=qo hs.tab hs.box (a:=⟨e.bU,p.bv,p.cg,1⟩) (pV he hp)
  rw [g,ze]at h1
  show _=if(((eD s.ac.bJ s.ac.bn ⟨e.bU,p.bv,p.cg,1⟩).getD (⟨0,0⟩,0)).2 != (0:Int))=true then _ else _
  rw [g]
  simp only [FL]
  split at h1<;>rename_i hc
  ·rw [if_pos hc];exact(E9 h1).symm
  ·rw [if_neg hc];exact(E9 h1).symm
structure Alike(s:ah)(v w:ae)(p:Pick):Prop where
 ph:phU s w p=phU s v p
 us:(used s w p).2.2=(used s v p).2.2
 resp:(used s w p).2.1.bV=(used s v p).2.1.bV
theorem alike{s:ah}(hs:gB s){v w:ae}(u:gA v)(hw:gA w){p:Pick}(hp:cW p)(h:¬Chg v w p):Alike s v w p:=by
 have f:(nq v p.a7 p.bS).map epPR=(nq w p.a7 p.bS).map epPR:=Classical.not_not.1 h
 have k:=used_eq hs u hp;have e2:=used_eq hs hw hp
 have key:(used s w p).1=(used s v p).1∧(used s w p).2.2=(used s v p).2.2∧(used s w p).2.1.bV=(used s v p).2.1.bV:=by
  rw [k,e2]
  cases h1:nq v p.a7 p.bS with
  |none=>
   cases g:nq w p.a7 p.bS with
   |none=>exact⟨rfl,rfl,rfl⟩
   |some b=>rw [h1,g]at f;cases f
  |some a=>
   cases g:nq w p.a7 p.bS with
   |none=>rw [h1,g]at f;cases f
   |some b=>
    rw [h1,g]at f
    have j:epPR a=epPR b:=E9 f
    have q:a.bU=b.bU:=congrArg Prod.fst j
    have r:a.bV=b.bV:=congrArg Prod.snd j
    simp only [usedE,q]
    split
    ·exact⟨rfl,rfl,rfl⟩
    ·exact⟨rfl,rfl,r.symm⟩
 exact⟨key.1,key.2.1,key.2.2⟩
theorem sol_alike{s:ah}{v w:ae}{m:List Pick}(h:∀p∈m,Alike s v w p):sol s w m=sol s v m:=by
 have f:(mat s w m).fj=(mat s v m).fj:=Gu fun p hp=>(h p hp).ph
 have e2:(mat s w m).kb.map (·.bV)=(mat s v m).kb.map (·.bV):=by
  show(m.map _).map _=(m.map _).map _
  rw [Gv,Gv]
  exact Gu fun p hp=>(h p hp).resp
 have g:mat s w m=⟨(mat s v m).gE,(mat s v m).fj,(mat s w m).kb⟩:=by rw [<-f];rfl
 unfold sol
 rw [g,solve_resp e2]
theorem rnd_alike{s:ah}{v w:ae}{O:List Pick}(h:∀p∈O,Alike s v w p):pX s w O=pX s v O:=by
 have := pf (least := s.ac.cq.toNat) (win := pn (fun p => (phU s v p).bv) s.ac.cw) (mem := oE s.ac (phU s v)) (win' := pn (fun p => (phU s w p).bv) s.ac.cw) (mem' := oE s.ac (phU s w)) (f := fun p : Pick => p) O (fun _ _ _ _ h => h) (win_ok _ _ _) O.length O (List.Sublist.refl _) (fun k g =>
  ⟨winK_map k fun x j=>by rw [(h x (g.subset j)).ph],memK_map fun x j=>(h x (g.subset ((rn _ _ k).subset j))).ph⟩)
 unfold pX
 simpa using this
theorem ord_alike{s:ah}{v w:ae}{U:List Pick}(g:U.Nodup)(h:∀p∈U,Alike s v w p):mz s w U=mz s v U:=by
 have h1:(mz s w U).Pairwise fun x y=>cmpA s w x y<0:=ij (oA s w) (fun _ _=>qe) g
 have j:(mz s v U).Pairwise fun x y=>cmpA s v x y<0:=ij (oA s v) (fun _ _=>qe) g
 have m1:∀x,x∈mz s w U↔x∈U:=fun x=>(cS _ U).mem_iff
 have m2:∀x,x∈mz s v U↔x∈U:=fun x=>(cS _ U).mem_iff
 refine lA (oA s v) (h1.imp_of_mem fun{x y}k q f=>?_) j fun x=>by rw [m1,m2]
 unfold cmpA at f⊢
 rw [(h x ((m1 x).1 k)).ph,(h y ((m1 y).1 q)).ph]at f
 exact f
theorem found_alike{s:ah}(hs:gB s){v w:ae}{U:List Pick}(q:U.Pairwise fun x y=>fQ x y<0)(h:∀p∈U,Alike s v w p):fE s w U=fE s v U∧fR s w U=fR s v U:=by
 have j:=ik df q
 have k:=ord_alike j h
 have e2:=rnd_alike (s:=s) (v:=v) (w:=w) (O:=mz s v U) fun p hp=>h p ((cS _ U).mem_iff.1 hp)
 refine⟨?_,by unfold fR;rw [k,e2]⟩
 unfold fE
 rw [k,e2]
 congr 1
 refine Gu fun g r=>?_
 have f:∀p∈g,p∈U:=fun p hp=>(oe hs (v:=v) q).mem_iff.1 (List.mem_append.2 (.inl ((HJ r).subset hp)))
 unfold evM
 rw [sol_alike (v:=v) fun p hp=>h p (f p ((cS _ g).mem_iff.1 hp))]
theorem usable_alike{s:ah}{v w:ae}{L:List Pick}(h:∀p∈L,Alike s v w p):ca s w L=ca s v L:=List.filter_congr fun p hp=>(h p hp).us
end Go.Dw.Re
set_option maxRecDepth 100000
set_option maxHeartbeats 4000000
namespace Go.Dw.Re
open Go.Dw Go.Proofs
open Sd (mQ eW eo)
theorem eqK_eq(a b:Pick):oB a b=decide (a=b):=eqs a b
theorem mGet_put{κ β:Type} [DecidableEq κ] {eq:κ->κ->Bool}(he:∀a b,eq a b=decide (a=b))(k:κ)(v z:β)(k':κ):∀m:List (κ×β),uQ eq k' z (yl eq k v m)=if k'=k then v else uQ eq k' z m
 | []=>by simp [yl,uQ,he]
 |e::r=>by
  have g:=mGet_put he k v z k' r
  unfold yl
  rw [he]
  by_cases h:k=e.1
  ·rw [if_pos (by simpa using h)]
   unfold uQ
   rw [he,he]
   by_cases f:k'=k
   ·rw [if_pos (by simpa using f),if_pos f]
   ·rw [if_neg (by simpa using f),if_neg f,if_neg (by rw [<-h];simpa using f)]
  ·rw [if_neg (by simpa using h)]
   unfold uQ
   rw [he,g]
   by_cases f:k'=e.1<;>by_cases j:k'=k<;>simp_all
abbrev home(p:Pick)(m:List (Pick×Int)):Int:=uQ oB p (0:Int) m
structure Home(X:List (List Pick))(m:List (Pick×Int)):Prop where
 at_:∀(j:Nat)(h:j<X.length)(p:Pick),p∈X[j]->home p m=j+1
 no:∀p,p∉X.flatten->home p m=0
theorem l25_ok(g:List Pick)(r:g.length<=1000)(i:Int)(hi:0<=i∧i<=1000)(m:List (Pick×Int)):
  Ok (cI (kf g i) ((0:Int),m)) (fun o=>o.1=i∧∀p,home p o.2=if p∈g then i+1 else home p m):=by
 refine GV (fun s=>∃k:Nat,s.1=k∧k<=g.length∧∀p,home p s.2=if p∈g.take k then i+1 else home p m) (fun s=>((g.length:Int)-s.1).toNat) ?_ ⟨0,rfl,DJ _,zc⟩
 rintro⟨s1,s2⟩ ⟨k,i0,i1,i2⟩
 simp only at i0 i1 i2
 subst i0
 unfold kf
 dsimp only
 refine GY (fun q=>?_) (fun j=>?_)
 ·have hk:k<g.length:=by omega
  rw [pI rfl hk,ze,w64 (n:=i+1) za za,w64 za za]
  refine GX ⟨k+1,zc,za,fun p=>?_⟩ zd
  simp only
  unfold home at i2⊢
  rw [mGet_put eqK_eq,i2 p,rr hk]
  simp only [Ew,Ey]
  by_cases e:p=g[k]<;>by_cases f:p∈g.take k<;>simp [e,f]
 ·have:k=g.length:=by omega
  subst this
  exact G4 ⟨rfl,by simpa using i2⟩
theorem l27_ok(X:List (List Pick))(G:X.length<=1000)(u:∀g∈X,g.length<=1000)(E:X.flatten.Nodup):Ok (cI (kg X) ((0:Int),[])) (Home X):=by
 obtain⟨-,r⟩:=List.pairwise_flatten.1 E
 refine GV (fun s=>∃i:Nat,s.1=i∧i<=X.length∧(∀(j:Nat)(h:j<X.length)(p:Pick),j<i->p∈X[j]->home p s.2=j+1)∧∀p,p∉(X.take i).flatten->home p s.2=0) (fun s=>((X.length:Int)-s.1).toNat) ?_ ⟨0,rfl,DJ _,fun j h p C=>za,fun p _=>rfl⟩
 rintro⟨s1,s2⟩ ⟨i,i0,i1,i2,i3⟩
 simp only at i0 i1 i2 i3
 subst i0
 unfold kg
 dsimp only
 refine GY (fun D=>?_) (fun B=>?_)
 ·have hk:i<X.length:=by omega
  rw [pI rfl hk,ze]
  refine GR (l25_ok X[i] (u _ (Dp hk)) i ⟨za,za⟩ s2) (fun o ho=>?_)
  obtain⟨F,k⟩:=ho
  rw [F,w64 za za]
  refine GX ⟨i+1,zc,za,fun j h p C hp=>?_,fun p hp=>?_⟩ zd
  ·simp only
   rw [k]
   by_cases e:j=i
   ·subst e
    rw [if_pos hp]
   ·have f:j<i:=by omega
    have:=List.pairwise_iff_getElem.1 r j i h hk f
    rw [if_neg (fun q=>this p hp p q rfl),i2 j h p f hp]
  ·simp only
   rw [rr hk,H9,Ew]at hp
   have h1:p∉X[i]:=fun h=>hp (.inr (by simpa using h))
   rw [k,if_neg h1]
   exact i3 p fun h=>hp (.inl h)
 ·have:i=X.length:=by omega
  subst this
  exact G4 ⟨fun j h p hp=>i2 j h p h hp,by simpa using i3⟩
def anyB(m:List (Pick×Int))(a b:ae)(k:Int)(g:List Pick):Bool:=g.any fun p=>decide (home p m≠k)||decide (Chg a b p)
def frB(X:List (List Pick))(m:List (Pick×Int))(a b:ae)(g:List Pick):Bool:=
 decide (home (g.headD ⟨⟨[],[],[],[]⟩,0,0,0,0,0⟩) m≠0)&&(decide ((X.getD (home (g.headD ⟨⟨[],[],[],[]⟩,0,0,0,0,0⟩) m-1).toNat []).length=g.length)&& !anyB m a b (home (g.headD ⟨⟨[],[],[],[]⟩,0,0,0,0,0⟩) m) g)
def ex(X:List (List Pick))(m:List (Pick×Int))(a b:ae)(Y:List (List Pick))(n:Nat):List Int:=((DG n).filter fun j=> !frB X m a b (Y.getD j [])).map fun j:Nat=>(j:Int)
structure IV(v:ae):Prop where
 len:oj v
 val:cL v=some true
theorem gA.iv{v:ae}(h:gA v):IV v:=⟨h.lens,lV h⟩
theorem contains_eq(g:List Pick)(C:g.length<=1000)(k:Int){a b:ae}(q:IV a)(r:IV b)(m:List (Pick×Int)):dN g k a b m=some (anyB m a b k g):=by
 unfold dN fW
 have h1:∀(i:Nat)(hi:i<g.length),cK g k a b m (i:Int)=if(decide (home g[i] m≠k)||decide (Chg a b g[i]))=true then some (.stop (.inr (i:Int)))else some (.next ((i+1:Nat):Int)):=by
  intro i hi
  unfold cK
  rw [if_pos so,pI rfl hi,ze,w64 za za]
  unfold gw
  rw [Changed_eq q.len r.len q.val r.val]
  by_cases j:home g[i] m=k
  ·rw [if_neg (by simpa using j)]
   by_cases e2:Chg a b g[i]<;>simp [j,e2]
  ·rw [if_pos (by simpa using j)]
   simp [j]
 have u:cK g k a b m (g.length:Nat)=some (.stop (.inl ())):=by
  unfold cK
  rw [if_neg zc]
 rcases qH g (p:=fun x=>decide (home x m≠k)||decide (Chg a b x)) (f:=fun i _=>(i:Int)) h1 u with⟨e,h⟩|⟨i,hi,e,hp,h⟩
 ·rw [e]
  have:anyB m a b k g=false:=by
   unfold anyB
   rw [H2]
   intro x B
   rw [h x B];simp
  rw [this];rfl
 ·rw [e]
  have:anyB m a b k g=true:=by
   unfold anyB
   rw [List.any_eq_true]
   exact⟨g[i],Dp hi,hp⟩
  rw [this]
  simp
theorem l45_ok(X Y:List (List Pick))(m:List (Pick×Int)){a b:ae}(O:IV a)(Q:IV b)(hX:X.length<=1000)(C:∀g∈X,g.length<=1000)(hm:Home X m)(hY:Y.length<=1000)(T:∀g∈Y,g≠ []∧g.length<=1000):
  cI (kj Y m X a b) ((0:Int),[])=some (ex X m a b Y Y.length):=by
 refine GS (GV (fun s=>∃i:Nat,s=((i:Int),ex X m a b Y i)∧i<=Y.length) (fun s=>((Y.length:Int)-s.1).toNat) ?_ ⟨0,rfl,DJ _⟩)
 rintro s ⟨i,rfl,hi⟩
 unfold kj
 dsimp only
 refine GY (fun a5=>?_) (fun W=>?_)
 rotate_left
 ·have:i=Y.length:=by omega
  subst this
  exact G4 rfl
 have hk:i<Y.length:=by omega
 obtain⟨I,E⟩:=T _ (Dp hk)
 have a6:(ex X m a b Y i).length<=1000:=by
  unfold ex
  have:=Gt (fun j=> !frB X m a b (Y.getD j [])) (DG i)
  rw [Hc]at this
  rw [Ea];omega
 have q:ex X m a b Y (i+1)=ex X m a b Y i++if frB X m a b Y[i]=true then []else [(i:Int)]:=by
  unfold ex
  rw [Hg,List.filter_append,FG]
  congr 1
  have:Y.getD i []=Y[i]:=by rw [Eo,zf hk];rfl
  simp only [List.filter_cons,List.filter_nil,this]
  cases frB X m a b Y[i]<;>simp
 have r:frB X m a b Y[i]=false->Ok ((rE (ex X m a b Y i) [(i:Int)] 8).bind fun K=>some (.next ((FN .i64 ((i:Int)+(1:Int))),K))) (Ok.S (fun s=>∃i:Nat,s=((i:Int),ex X m a b Y i)∧i<=Y.length) (fun s=>((Y.length:Int)-s.1).toNat) (fun o=>o=ex X m a b Y Y.length) ((i:Int),ex X m a b Y i)):=fun h=>by
  rw [et (by simp only [DW,DX];omega),ze,w64 za za]
  exact GX ⟨i+1,by rw [q,h];simp,za⟩ zd
 rw [pI rfl hk,ze]
 have f:frB X m a b Y[i]=(decide (home (Y[i].headD ⟨⟨[],[],[],[]⟩,0,0,0,0,0⟩) m≠0)&&(decide ((X.getD (home (Y[i].headD ⟨⟨[],[],[],[]⟩,0,0,0,0,0⟩) m-1).toNat []).length=Y[i].length)&& !anyB m a b (home (Y[i].headD ⟨⟨[],[],[],[]⟩,0,0,0,0,0⟩) m) Y[i])):=rfl
 generalize Y[i]=g at*
 rcases g with _|⟨k,L⟩
 ·exact(I rfl).elim
 rw [show nZ (k::L) (0:Int)=some k from rfl,ze]
 rw [Hb]at f
 generalize U:k::L=g at*
 show Ok (if(home k m==(0:Int))=true then _ else _) _
 refine G5 (fun u=>r (by rw [f];simp [u])) (fun u=>?_)
 have F:k∈X.flatten:=by
  apply Ga
  intro h
  exact u (hm.no k h)
 obtain⟨x,N,J⟩:=List.mem_flatten.1 F
 obtain⟨j,G,rfl⟩:=Gs N
 have H:=hm.at_ j G k J
 have a9:=C _ N
 show Ok ((nZ X (FN .i64 (home k m-1))).bind _) _
 have D:X.getD (home k m-1).toNat []=X[j]:=by
  rw [H,show((j:Int)+1-1).toNat=j by omega,Eo,zf G];rfl
 rw [D]at f
 rw [w64 za za,pI (i:=j) za G,ze]
 refine Ok.sR (fun h1=>r ?_) (fun h1=>?_)
 ·rw [f,decide_eq_false (show ¬X[j].length=g.length by omega)];simp
 rw [show uQ oB k (0:Int) m=home k m from rfl,contains_eq g E _ O Q,ze]
 refine Ok.yF (fun B=>r ?_) (fun B=>?_)
 ·rw [f,B];simp
 ·rw [w64 za za]
  refine GX ⟨i+1,?_,za⟩ zd
  have:frB X m a b g=true:=by
   rw [f,B,decide_eq_true (show home k m≠0 from u),decide_eq_true (show X[j].length=g.length by omega)];rfl
  rw [q,this];simp
theorem lB.pC{n:Int}{l:List Pick}{X:List (List Pick)}(h:lB n l X)(hl:l.length<=1000):X.length<=1000∧(∀g∈X,g≠ []∧g.length<=1000)∧X.flatten.Nodup∧∀p,p∈X.flatten↔p∈l:=by
 obtain⟨s,u,e2,k,q,f⟩:=h.flat
 have r:X.flatten.length=s.length:=f.length_eq
 refine⟨by have:=len_le h.ne;omega,fun g j=>⟨h.ne g j,by have:=(HJ j).length_le;omega⟩,?_,fun p=>f.mem_iff.trans (q p)⟩
 refine f.nodup_iff.2 (k.imp fun{a b}h e=>?_)
 subst e
 have:=df.refl a
 omega
theorem Stale_ok(n:Int)(K:0<=n)(h1:n<=1099511627776)(l q:List Pick)(hl:l.length<=20)(E:∀p∈l,cW p)(B:q.length<=20)(f:∀p∈q,cW p){a b:ae}(C:IV a)(D:IV b):
  Ok (gf n l q a b) (fun r=>r.2=0∧∃X Y m,bZ n l=some X∧bZ n q=some Y∧lB n l X∧lB n q Y∧Home X m∧r.1=ex X m a b Y Y.length):=by
 unfold gf
 refine GY (fun _=>za) (fun _=>GY (fun _=>za) (fun _=>?_))
 rw [qn za E,ze,if_neg zc,qn za f,ze,if_neg zc,C.val,ze,if_neg zc,D.val,ze,if_neg zc]
 refine GR (oP n l hl E).name fun X j=>?_
 obtain⟨F,G,H,L⟩:=j.2.pC za
 refine GR (l27_ok X F (fun g u=>(G g u).2) H) fun m hm=>?_
 refine GR (oP n q B f).name fun Y k=>?_
 obtain⟨I,J,N,O⟩:=k.2.pC za
 rw [l45_ok X Y m C D F (fun g u=>(G g u).2) hm I J,ze]
 exact G1 ⟨rfl,X,Y,m,j.1,k.1,j.2,k.2,hm,rfl⟩
theorem mem_staleL{X Y:List (List Pick)}{m:List (Pick×Int)}{a b:ae}{i:Nat}(hi:i<Y.length)(h:frB X m a b Y[i]=false):(i:Int)∈ex X m a b Y Y.length:=by
 unfold ex
 refine List.mem_map.2 ⟨i,List.mem_filter.2 ⟨List.mem_range.2 hi,?_⟩,rfl⟩
 have:Y.getD i []=Y[i]:=by rw [Eo,zf hi];rfl
 rw [this,h];rfl
theorem staleL_nil{X Y:List (List Pick)}{m:List (Pick×Int)}{a b:ae}(h:∀(i:Nat)(hi:i<Y.length),frB X m a b Y[i]=true):ex X m a b Y Y.length=[]:=by
 unfold ex
 rw [List.filter_eq_nil_iff.2]
 ·rfl
 ·intro j f
  have f:=List.mem_range.1 f
  have:Y.getD j []=Y[j]:=by rw [Eo,zf f];rfl
  rw [this,h j f];simp
theorem same_fresh{X:List (List Pick)}{m:List (Pick×Int)}{a:ae}(hm:Home X m)(f:∀g∈X,g≠ [])(i:Nat)(hi:i<X.length):frB X m a a X[i]=true:=by
 have f:=f _ (Dp hi)
 have j:=hm.at_ i hi
 unfold frB
 obtain⟨q,u,k⟩:=H5 f
 have r:X[i].headD ⟨⟨[],[],[],[]⟩,0,0,0,0,0⟩=q:=by rw [k];rfl
 rw [r,j q (by rw [k];simp),show((i:Int)+1-1).toNat=i by omega,Eo,zf hi,FL]
 have:anyB m a a ((i:Int)+1) X[i]=false:=by
  unfold anyB
  rw [H2]
  intro p hp
  rw [j p hp]
  have:¬Chg a a p:=fun h=>h rfl
  simp [this]
 rw [this,decide_eq_true rfl,decide_eq_true (show((i:Int)+1)≠0 by omega)];rfl
theorem replaced_ok(l o:List Pick)(hl:l.length<=100)(ho:o.length<=100)(h1:∀p∈l,cW p)(u:∀p∈o,cW p)(d:Src)(B:cr d):
  Ok (md l o d) (fun r=>(r.1.length<=l.length+1∧∀p∈r.1,cW p)∧cr r.2):=by
 unfold md
 refine GR (P:=fun x:List Int×Int×List Pick=>cr ⟨x.1,x.2.1⟩∧x.2.2.length<=l.length∧∀p∈x.2.2,cW p) (GV (fun s:Int×List Int×Int×List Pick=>(0<=s.1∧s.1<=l.length)∧cr ⟨s.2.1,s.2.2.1⟩∧s.2.2.2.length<=s.1.toNat∧∀p∈s.2.2.2,cW p) (fun s=>((l.length:Int)-s.1).toNat) ?_ ⟨⟨Fb _,zc⟩,B,zc,zc⟩) ?_
 ·rintro⟨s1,s2,D,E⟩ ⟨⟨i0,i1⟩,i2,i3,i4⟩
  simp only at i0 i1 i2 i3 i4
  unfold mO
  dsimp only
  refine GY (fun g=>?_) (fun _=>G4 ⟨i2,zd,i4⟩)
  refine GR (dS _ _ i2 za za) (fun C g1=>?_)
  rw [w64 za za]
  refine GY (fun _=>?_) (fun _=>GX ⟨⟨zd,zd⟩,g1.2.2,zd,i4⟩ zd)
  refine GR (GU i0 za) (fun x j=>?_)
  refine GR (GQ (by simp only [DW,DX];omega)) (fun y k=>?_)
  subst k
  refine GX ⟨⟨zd,zd⟩,g1.2.2,by simp only [ET,DW,DX];omega,fun p hp=>?_⟩ zd
  simp only [Ew,Ey]at hp
  rcases hp with hp|rfl
  ·exact i4 p hp
  ·exact h1 _ j.1
 ·rintro⟨F,G,H⟩ ⟨q,e2,f⟩
  simp only at q e2 f
  refine GR (dS _ _ q za za) (fun C g1=>?_)
  refine G5 (fun _=>?_) (fun _=>G1 ⟨⟨zd,f⟩,g1.2.2⟩)
  refine GY (fun g=>?_) (fun _=>G1 ⟨⟨zd,f⟩,g1.2.2⟩)
  refine GR (dS _ _ g1.2.2 za za) (fun I g2=>?_)
  refine GR (GU g2.1 g2.2.1) (fun x j=>?_)
  refine GR (GQ (by simp only [DW,DX];omega)) (fun y k=>?_)
  subst k
  refine G1 ⟨⟨by simp only [ET,DW,DX];omega,fun p hp=>?_⟩,g2.2.2⟩
  simp only [Ew,Ey]at hp
  rcases hp with hp|rfl
  ·exact f p hp
  ·exact u _ j.1
theorem in_ok{l:List Int}(hl:l.length<=1000){x:Int}(j:x∈l):qh l x=some true:=by
 unfold qh
 have h1:∀(i:Nat)(hi:i<l.length),jl l x (i:Int)=if decide (l[i]=x)=true then some (.stop (.inr true))else some (.next ((i+1:Nat):Int)):=by
  intro i hi
  unfold jl
  rw [if_pos so,pI rfl hi,ze,w64 za za]
  by_cases e:l[i]=x<;>simp [e]
 have g:jl l x (l.length:Nat)=some (.stop (.inl ())):=by
  unfold jl
  rw [if_neg zc]
 have e:=loop_find l (p:=fun y=>decide (y=x)) (f:=fun _=>true) h1 g
 rw [e]
 cases h:l.find? (fun y=>decide (y=x))with
 |none=>exact absurd (List.find?_eq_none.1 h x j) zc
 |some y=>rfl
end Go.Dw.Re
set_option maxRecDepth 100000
set_option maxHeartbeats 4000000
namespace Go.Dw.Re
open Go.Dw Go.Proofs
open Sd (mQ eW eo)
theorem at_self(n:Int):atO n n.toNat=some ():=by unfold atO;rw [if_pos rfl]
theorem setF_self{α:Type}{l:List α}{i:Nat}{f:α->α}(h:∀x,l[i]? =some x->f x=x):setF l i f=l:=by
 unfold setF
 cases e:l[i]? with
 |none=>rfl
 |some x=>
  dsimp only
  rw [h x e]
  obtain⟨hk,g⟩:=List.getElem?_eq_some_iff.1 e
  conv=>lhs;rw [<-g]
  exact GL hk
theorem l53_at{f:List bg}(h1:f.length<=1000)(B:∀x∈f,x.ep.length<=1000){q:List az}{g:Int}(hs:0<=g∧g<q.length)(j:Int)(k:List aj):
  cI (jr f q g j k) ((0:Int),f)=some (j,g,k,f):=by
 refine GS (GV (fun s=>0<=s.1∧s.1<=f.length∧s.2=f) (fun s=>((f.length:Int)-s.1).toNat) ?_ ⟨Fb _,zc,rfl⟩)
 rintro⟨D,E⟩ ⟨i0,i1,i2⟩
 simp only at i0 i1 i2
 subst i2
 unfold jr
 dsimp only
 refine GY (fun C=>?_) (fun _=>G4 rfl)
 rw [sa za za,ze]
 refine GR (GU za za) (fun x r=>?_)
 refine GR (GU za za) (fun _ _=>?_)
 have:=B x r.1
 rw [sa hs.1 hs.2,ze,at_self,ze,gl za,ze,ze,at_self,ze,w64 za za]
 refine GX ⟨zd,zd,?_⟩ zd
 refine setF_self fun z u=>?_
 obtain rfl:x=z:=by rw [r.2]at u;exact E9 u
 rfl
theorem l56_at{f:List az}(h1:f.length<=1000)(u:∀e∈f,oK e.bV)(g:Int)(j:List aj):
  cI (js f) (g,(0:Int),j,f)=some (g,j,f):=by
 refine GS (GV (fun s=>s.1=g∧(0<=s.2.1∧s.2.1<=f.length)∧s.2.2.1=j∧s.2.2.2=f) (fun s=>((f.length:Int)-s.2.1).toNat) ?_ ⟨rfl,⟨Fb _,zc⟩,rfl,rfl⟩)
 rintro⟨g,D,j,E⟩ ⟨i0,⟨i1,i2⟩,i3,i4⟩
 simp only at i0 i1 i2 i3 i4
 subst i0 i3 i4
 unfold js
 dsimp only
 refine GY (fun k=>?_) (fun _=>G4 rfl)
 refine GR (GU za za) (fun x q=>?_)
 obtain⟨B,C⟩:=u x q.1
 rw [sa za za,ze,at_self,ze,gl za,ze,ze,ze,ze,ze,l53_at B C ⟨i1,k⟩,ze]
 dsimp only
 rw [w64 za za]
 refine GX ⟨rfl,⟨zd,zd⟩,rfl,?_⟩ zd
 refine setF_self fun z r=>?_
 obtain rfl:x=z:=by rw [q.2]at r;exact E9 r
 rfl
theorem l59_at{v:ae}(f:oj v):cI (jt v) ((0:Int),[])=some v.a8:=by
 have hl:=f.len
 refine GS (GV (fun s=>∃i:Nat,s=((i:Int),v.a8.take i)∧i<=v.a8.length) (fun s=>((v.a8.length:Int)-s.1).toNat) ?_ ⟨0,rfl,DJ _⟩)
 rintro s ⟨i,rfl,hi⟩
 unfold jt
 dsimp only
 refine GY (fun q=>?_) (fun k=>?_)
 rotate_left
 ·have:i=v.a8.length:=by omega
  subst this
  exact G4 (by rw [GM])
 have hk:i<v.a8.length:=by omega
 obtain⟨g,j⟩:=f.all _ (Dp hk)
 rw [pI rfl hk,ze,gl za,ze,l56_at g j,ze]
 dsimp only
 rw [et (by simp only [DW,DX,EG];omega),ze,w64 za za]
 refine GX ⟨i+1,?_,za⟩ zd
 rw [rr hk];rfl
def TabLen(t:bc):Prop:=t.bt.length<=1000∧t.bd.length<=1000
theorem progress_at{s:ah}(h1:TabLen s.ac.bJ)(f:TabLen s.bQ.bF){v:ae}(g:oj v):ff s v=some ⟨s,v,[]⟩:=by
 obtain⟨a1,a2⟩:=h1
 obtain⟨j,k⟩:=f
 unfold ff
 rw [gl za,ze,gl za,ze,gl za,ze,gl za,ze,l59_at g,ze]
theorem gB.tabs{s:ah}(h:gB s):TabLen s.ac.bJ∧TabLen s.bQ.bF:=by
 have a:=h.tab.len;have b:=h.tab.same;have c:=h.cor.len;have d:=h.cor.same
 exact⟨⟨za,za⟩,⟨za,za⟩⟩
structure BatLen(b:bq):Prop where
 picks:b.ew.length<=1000
 left:b.pp.length<=1000
 events:b.gx.length<=1000
 each:∀e∈b.gx,e.cU.ew.length<=1000
theorem copied_b{b:bq}(h:BatLen b):iU b=some b:=by
 obtain⟨h1,r,u,j⟩:=h
 unfold iU
 rw [gl za,ze,gl za,ze,gl za,ze]
 have:cI (ie b.gx) ((0:Int),b.gx)=some b.gx:=by
  refine GS (GV (fun s=>0<=s.1∧s.1<=b.gx.length∧s.2=b.gx) (fun s=>((b.gx.length:Int)-s.1).toNat) ?_ ⟨Fb _,zc,rfl⟩)
  rintro⟨B,C⟩ ⟨i0,i1,i2⟩
  simp only at i0 i1 i2
  subst i2
  unfold ie
  dsimp only
  refine GY (fun k=>?_) (fun _=>G4 rfl)
  rw [sa za za,ze]
  refine GR (GU za za) (fun x f=>?_)
  have:=j x f.1
  rw [gl za,ze,ze]
  refine GR (GW za za) (fun y q=>?_)
  obtain⟨z,g,rfl⟩:=q
  obtain rfl:x=z:=by rw [f.2]at g;exact E9 g
  rw [w64 za za]
  refine GX ⟨zd,zd,?_⟩ zd
  obtain⟨hk,e⟩:=List.getElem?_eq_some_iff.1 f.2
  simp only
  conv=>lhs;rw [<-e]
  exact GL hk
 rw [this,ze]
noncomputable def FB (s:ah) (v:ae) (g:List Pick):bq:=⟨g,fE s v (ca s v g),fR s v (ca s v g)⟩
structure Gp(g:List Pick):Prop where
 srt:g.Pairwise fun x y=>fQ x y<0
 len:g.length<=19
 ok:∀p∈g,cW p
theorem find_g{s:ah}(hs:gB s){v:ae}(k:gA v){g:List Pick}(j:Gp g):kk s v g=some (fE s v (ca s v g),fR s v (ca s v g),0)∧BatLen (FB s v g):=by
 have hl:=j.len
 obtain⟨L,e,h1,u,B,f,q,C,r⟩:=find_ok hs k (l:=g) za j.ok
 rw [qa j.srt za]at e
 obtain rfl:=E9 e
 refine⟨r,by show g.length<=1000;omega,?_,?_,fun ev he=>?_⟩
 ·have:=fR_len hs (v:=v) f
  show(fR s v (ca s v g)).length<=1000
  omega
 ·have:=fE_len hs (v:=v) f
  show(fE s v (ca s v g)).length<=1000
  omega
 ·obtain⟨m,hm,rfl⟩:=fE_mem.1 he
  have:=group_at hs k f q za hm
  rw [this.picks,eI]
  have:=this.len
  omega
theorem found_g{s:ah}(hs:gB s){v:ae}(j:gA v){g:List Pick}(f:Gp g):iV s v g=some (FB s v g,0):=by
 have hl:=f.len
 unfold iV
 rw [(find_g hs j f).1,ze,if_neg zc,gl za]
 rfl
theorem lB.gp{n:Int}{l:List Pick}{X:List (List Pick)}(h:lB n l X)(hl:l.length<=19)(hp:∀p∈l,cW p):∀g∈X,Gp g:=fun g j=>by
 obtain⟨s,r,e2,u,k,f⟩:=h.flat
 have hs:=HJ j
 have:=f.length_eq
 have:=hs.length_le
 exact⟨h.sorted g j,za,fun p q=>hp p ((k p).1 (f.mem_iff.1 (hs.subset q)))⟩
noncomputable def PG (s:ah) (v:ae) (X:List (List Pick)):av:=⟨s,v,X.map (FB s v)⟩
theorem asked_at{s:ah}(hs:gB s){v:ae}(g:IV v){l:List Pick}(hl:l.length<=20)(hp:∀p∈l,cW p){X:List (List Pick)}(f:bZ s.ac.cw l=some X):gL s v l=some (X,0):=by
 have h1:=hs.span
 unfold gL
 rw [qm hs,ze,if_neg zc,g.val,ze,if_neg zc]
 unfold gm
 rw [if_neg so,if_neg so,qn za hp,ze,if_neg zc,f]
 rfl
theorem New_at{s:ah}(hs:gB s){v:ae}(g:gA v){l:List Pick}(hl:l.length<=19)(hp:∀p∈l,cW p):
  ∃X,bZ s.ac.cw l=some X∧lB s.ac.cw l X∧fk s v l=some (PG s v X,0):=by
 obtain⟨X,j,f⟩:=oP s.ac.cw l za hp
 refine⟨X,j,f,?_⟩
 obtain⟨u,B,C,D⟩:=f.pC za
 have k:=f.gp hl hp
 unfold fk
 rw [asked_at hs g.iv za hp j,ze,if_neg zc,progress_at hs.tabs.1 hs.tabs.2 g.lens,ze]
 have:cI (mC (X,(0:Int)) s v) ((0:Int),[])=some (.inl (X.map (FB s v))):=by
  refine GS (GV (fun t=>∃i:Nat,t=((i:Int),(X.take i).map (FB s v))∧i<=X.length) (fun t=>((X.length:Int)-t.1).toNat) ?_ ⟨0,rfl,DJ _⟩)
  rintro t ⟨i,rfl,hi⟩
  unfold mC
  dsimp only
  refine GY (fun r=>?_) (fun q=>?_)
  rotate_left
  ·have:i=X.length:=by omega
   subst this
   exact G4 (by rw [GM])
  have hk:i<X.length:=by omega
  rw [pI rfl hk,ze,found_g hs g (k _ (Dp hk)),ze,if_neg zc]
  rw [et (by simp only [DW,DX,Ea,EG];omega),ze,w64 za za]
  refine GX ⟨i+1,?_,za⟩ zd
  rw [rr hk,FG];rfl
 rw [this,ze]
 rfl
theorem gather_at'{s:ah}{v:ae}{X:List (List Pick)}(h1:X.length<=1000)(u:X.flatten.length<=1000):cI (fm (PG s v X)) ((0:Int),[])=some X.flatten:=by
 have g:∀i,((X.take i).flatten).length<=X.flatten.length:=fun i=>by
  conv=>rhs;rw [<-HP i X]
  rw [H9,ET];omega
 refine GS (GV (fun t=>∃i:Nat,t=((i:Int),(X.take i).flatten)∧i<=X.length) (fun t=>((X.length:Int)-t.1).toNat) ?_ ⟨0,rfl,DJ _⟩)
 rintro t ⟨i,rfl,hi⟩
 unfold fm
 have hlen:(PG s v X).bP.length=X.length:=Ea ..
 dsimp only
 rw [hlen]
 refine GY (fun r=>?_) (fun q=>?_)
 rotate_left
 ·have:i=X.length:=by omega
  subst this
  exact G4 (by rw [GM])
 have hk:i<X.length:=by omega
 have f:i<(PG s v X).bP.length:=by omega
 have k:(PG s v X).bP[i]'f=FB s v X[i]:=GF ..
 have j:=g (i+1)
 rw [rr hk,H9,ET]at j
 simp only [Gq,Ha,ER]at j
 rw [pI rfl f,ze,k]
 show Ok ((rE (X.take i).flatten X[i] 104).bind _) _
 rw [et za,ze,w64 za za]
 refine GX ⟨i+1,?_,za⟩ zd
 rw [rr hk,H9];simp
theorem Picks_at{s:ah}{v:ae}{n:Int}{l:List Pick}{X:List (List Pick)}(hl:l.length<=20)(f:lB n l X):jD (PG s v X)=da l:=by
 obtain⟨B,D,E,C⟩:=f.pC za
 obtain⟨t,g,e2,j,k,q⟩:=f.flat
 have u:=q.length_eq
 unfold jD jQ
 rw [gather_at' B za,ze]
 obtain⟨r,f1,f2,f3,f4⟩:=oM (l:=X.flatten) za
 have:r=t:=ip f2 j fun p=>by rw [f3,C,k]
 rw [f1,g,this]
 rfl
end Go.Dw.Re
set_option maxRecDepth 100000
set_option maxHeartbeats 4000000
namespace Go.Dw.Re
open Go.Dw Go.Proofs Go.Lib
open Sd (mQ eW eo)
def numV(l:List UInt8):Nat:=l.foldl (fun a c=>a*10+(c.toNat-48)) 0
theorem dig_toNat{d:Nat}(h:d<10):(UInt8.ofNat (48+d)).toNat=48+d:=by
 rw [UInt8.toNat_ofNat']
 exact Nat.mod_eq_of_lt za
theorem dec_at(u:Nat):numV (decDigits u)=u∧∀c∈decDigits u,48<=c.toNat∧c.toNat<=57:=by
 induction u using Nat.strongRecOn with
 |ind u g=>
  rw [decDigits]
  split
  ·rename_i h
   have e:=dig_toNat h
   refine⟨?_,fun c hc=>?_⟩
   ·show 0*10+((UInt8.ofNat (48+u)).toNat-48)=u
    rw [e];omega
   ·rw [Ey]at hc
    subst hc
    rw [e];omega
  ·rename_i h
   have e:=dig_toNat (d:=u%10) za
   obtain⟨h1,f⟩:=g (u / 10) za
   refine⟨?_,fun c hc=>?_⟩
   ·unfold numV at h1⊢
    rw [List.foldl_append,h1]
    show u / 10*10+((UInt8.ofNat (48+u%10)).toNat-48)=u
    rw [e];omega
   ·rcases List.mem_append.1 hc with hc|hc
    ·exact f c hc
    ·rw [Ey]at hc
     subst hc
     rw [e];omega
theorem dec_inj{u v:Nat}(h:decDigits u=decDigits v):u=v:=by rw [<-(dec_at u).1,h,(dec_at v).1]
theorem dec_minus{u v:Nat}(h:(45:UInt8)::decDigits u=decDigits v):False:=by
 have:=(dec_at v).2 45 (by rw [<-h];simp)
 have e:(45:UInt8).toNat=45:=rfl
 omega
theorem pE{n m:Int}(h:itoa n=itoa m):n=m:=by
 unfold itoa at h
 split at h<;>split at h
 ·have:=dec_inj (List.cons.inj h).2
  omega
 ·exact(dec_minus h).elim
 ·exact(dec_minus h.symm).elim
 ·have:=dec_inj h
  omega
theorem lv{n:Int}{c:UInt8}(hc:c.toNat<45):c∉itoa n:=by
 intro h
 unfold itoa at h
 split at h
 ·rcases List.mem_cons.1 h with rfl|h
  ·have e:(45:UInt8).toNat=45:=rfl
   omega
  ·have:=(dec_at _).2 c h;omega
 ·have:=(dec_at _).2 c h;omega
theorem ni{c:UInt8}:∀{a f r g:List UInt8},c∉a->c∉f->a++c::r=f++c::g->a=f∧r=g
 | [],[],_,_,_,_,h=>⟨rfl,by simpa using h⟩
 | [],x::f,r,g,_,j,h=>by
  simp only [D0,En,List.cons.injEq]at h
  exact(j (by rw [h.1];simp)).elim
 |x::a,[],_,_,h1,_,h=>by
  simp only [D0,En,List.cons.injEq]at h
  exact(h1 (by rw [<-h.1];simp)).elim
 |x::a,y::f,r,g,h1,j,h=>by
  simp only [En,List.cons.injEq]at h
  obtain⟨rfl,h⟩:=h
  obtain⟨rfl,e⟩:=ni (fun h=>h1 (by simp [h])) (fun h=>j (by simp [h])) h
  exact⟨rfl,e⟩
theorem od{s:List UInt8}{lo hi:Int}(h:Sq.mh s lo hi=true){c:UInt8}(hc:c.toNat<48):c∉s:=by
 unfold Sq.mh at h
 rw [D6]at h
 intro hm
 have:=List.all_eq_true.1 h.1 c hm
 unfold Sq.qL at this
 simp at this
 omega
theorem qW{s:List UInt8}{lo hi:Int}(h:Sq.mh s lo hi=true):(s.length:Int)<=hi:=by
 unfold Sq.mh at h
 simp at h
 omega
theorem sid_codes{x:Sid}(h:qP x):Sq.mh x.bI 1 2=true∧Sq.mh x.bw 1 5=true∧Sq.mh x.ba 0 2=true∧Sq.mh x.bL 3 3=true:=by
 unfold qP Sq.pj at h
 simp only [D6]at h
 exact⟨h.1,h.2.1,h.2.2.1,h.2.2.2.2⟩
theorem keyP_eq(p:Pick)(R:List UInt8):pH p++R=p.a7.bI++46::(p.a7.bw++46::(p.a7.ba++46::(p.a7.bL++32::(itoa p.bS++32::(itoa p.bv++32::(itoa p.cg++32::(itoa p.bG++32::(itoa p.bT++10::R)))))))):=by
 simp [pH,join,List.intercalate,List.intersperse]
theorem key_cons{p q:Pick}(hp:cW p)(I:cW q){R u:List UInt8}(h:pH p++R=pH q++u):p=q∧R=u:=by
 obtain⟨a1,a2,a3,a4⟩:=sid_codes hp.1
 obtain⟨E,F,G,H⟩:=sid_codes I.1
 have n46:(46:UInt8).toNat<48:=by decide
 have n32:(32:UInt8).toNat<48:=by decide
 have m32:(32:UInt8).toNat<45:=by decide
 have m10:(10:UInt8).toNat<45:=by decide
 rw [keyP_eq,keyP_eq]at h
 obtain⟨B,h⟩:=ni (od a1 n46) (od E n46) h
 obtain⟨e2,h⟩:=ni (od a2 n46) (od F n46) h
 obtain⟨C,h⟩:=ni (od a3 n46) (od G n46) h
 obtain⟨D,h⟩:=ni (od a4 n32) (od H n32) h
 obtain⟨f,h⟩:=ni (lv m32) (lv m32) h
 obtain⟨g,h⟩:=ni (lv m32) (lv m32) h
 obtain⟨j,h⟩:=ni (lv m32) (lv m32) h
 obtain⟨k,h⟩:=ni (lv m32) (lv m32) h
 obtain⟨r,h⟩:=ni (lv m10) (lv m10) h
 refine⟨?_,h⟩
 replace f:=pE f
 replace g:=pE g
 replace j:=pE j
 replace k:=pE k
 replace r:=pE r
 obtain⟨⟨J,K,L,N⟩,O,Q,T,U,W⟩:=p
 obtain⟨⟨X,Y,q3,q4⟩,q5,q6,q7,q8,q9⟩:=q
 simp only at B e2 C D f g j k r
 subst B e2 C D f g j k r
 rfl
theorem keyP_ne(p:Pick)(R:List UInt8):pH p++R≠ []:=by
 rw [keyP_eq]
 simp
theorem keys_inj:∀{g h:List Pick},(∀p∈g,cW p)->(∀p∈h,cW p)->g.flatMap pH=h.flatMap pH->g=h
 | [],[],_,_,_=>rfl
 | [],q::h,_,_,e=>by
  rw [Gn]at e
  exact(keyP_ne q _ e.symm).elim
 |p::g,[],_,_,e=>by
  rw [Gn]at e
  exact(keyP_ne p _ e).elim
 |p::g,q::h,hp,j,e=>by
  rw [Gn,Gn]at e
  obtain⟨rfl,k⟩:=key_cons (hp p zc) (j q zc) e
  rw [keys_inj (fun x f=>hp x (by simp [f])) (fun x f=>j x (by simp [f])) k]
theorem small_ok{p:Pick}(h:cW p):smallP p=true:=by
 obtain⟨a1,a2,a3,a4⟩:=sid_codes h.1
 have:=qW a1;have:=qW a2;have:=qW a3;have:=qW a4
 obtain⟨-,h1,f,g,j,k,q,r,u⟩:=h
 unfold smallP
 rw [D6]
 refine⟨decide_eq_true ⟨za,za,za,za⟩,?_⟩
 simp only [List.all_cons,List.all_nil,Bool.and_true,D6,decide_eq_true_eq]
 omega
theorem key_at{g:List Pick}(f:Gp g):keyO g=some (g.flatMap pH):=by
 have:=f.len
 unfold keyO
 rw [if_pos ⟨za,List.all_eq_true.2 fun p hp=>small_ok (f.ok p hp)⟩]
end Go.Dw.Re
set_option maxRecDepth 100000
set_option maxHeartbeats 4000000
namespace Go.Dw.Re
open Go.Dw Go.Proofs
open Sd (mQ eW eo)
theorem sub_eq{α:Type} [DecidableEq α]:∀{r s:List α},r.Nodup->(∀x∈r,x∈s)->s.length<=r.length->∀x∈s,x∈r
 | [],s,_,_,h,x,f=>by
  have:s=[]:=List.length_eq_zero_iff.1 (Nat.le_zero.1 h)
  subst this
  cases f
 |a::r,s,q,hs,hl,x,f=>by
  obtain⟨h1,j⟩:=List.nodup_cons.1 q
  have k:=hs a zc
  by_cases e:x=a
  ·rw [e];simp
  have hlen:=List.length_erase_of_mem k
  have:=sub_eq (r:=r) (s:=s.erase a) j (fun y g=>(Hd fun e=>h1 (by rw [<-e];exact g)).2 (hs y (by simp [g]))) (by simp only [DW]at hl;omega) x ((Hd e).2 f)
  simp [this]
theorem FB_alike{s:ah}(hs:gB s){v w:ae}(B:gA v)(hw:gA w){g:List Pick}(q:Gp g)(h:∀p∈g,¬Chg v w p):FB s w g=FB s v g:=by
 have f:∀p∈g,Alike s v w p:=fun p hp=>alike hs B hw (q.ok p hp) (h p hp)
 have r:ca s w g=ca s v g:=usable_alike f
 obtain⟨e2,u⟩:=found_alike hs (v:=v) (w:=w) (q.srt.filter fun p=>(used s v p).2.2) fun p hp=>f p (List.mem_filter.1 hp).1
 unfold FB
 rw [r]
 show bq.mk g (fE s w (ca s v g)) (fR s w (ca s v g))=_
 have j:fE s w (ca s v g)=fE s v (ca s v g):=e2
 have k:fR s w (ca s v g)=fR s v (ca s v g):=u
 rw [j,k]
theorem fresh_in{X:List (List Pick)}{m:List (Pick×Int)}{a b:ae}(hm:Home X m)(T:∀g∈X,g.Pairwise fun x y=>fQ x y<0){g:List Pick}(N:g.Pairwise fun x y=>fQ x y<0)(J:g≠ [])(h:frB X m a b g=true):g∈X∧∀p∈g,¬Chg a b p:=by
 unfold frB at h
 obtain⟨C,O,rfl⟩:=H5 J
 rw [Hb]at h
 generalize F:C::O=g at*
 have U:C∈g:=by rw [<-F];simp
 simp only [D6,decide_eq_true_eq,Bool.not_eq_true']at h
 obtain⟨Q,h1,D⟩:=h
 unfold anyB at D
 rw [H2]at D
 have G:C∈X.flatten:=Ga fun e=>Q (hm.no C e)
 obtain⟨x,W,K⟩:=List.mem_flatten.1 G
 obtain⟨j,E,rfl⟩:=Gs W
 have r:=hm.at_ j E C K
 rw [r,show((j:Int)+1-1).toNat=j by omega,Eo,zf E,FL]at h1
 rw [r]at D
 have f:∀p∈g,p∈X[j]∧¬Chg a b p:=fun p hp=>by
  have L:=D p hp
  simp only [Bool.or_eq_true,decide_eq_true_eq,not_or,Classical.not_not,ne_eq]at L
  refine⟨?_,L.2⟩
  have u:p∈X.flatten:=Ga fun e=>by
   have:=hm.no p e
   omega
  obtain⟨y,Y,B⟩:=List.mem_flatten.1 u
  obtain⟨k,hk,rfl⟩:=Gs Y
  have:=hm.at_ k hk p B
  have H:k=j:=by omega
  subst H
  exact B
 have I:g.Nodup:=ik df N
 have q:=sub_eq I (fun p hp=>(f p hp).1) za
 have:g=X[j]:=ip N (T _ (Dp E)) fun p=>⟨fun hp=>(f p hp).1,q p⟩
 exact⟨by rw [this];exact Dp E,fun p hp=>(f p hp).2⟩
theorem contains_int{l:List Int}(hl:l.length<=1000)(x:Int):iA l x=some (decide (x∈l)):=by
 unfold iA mZ
 have h1:∀(i:Nat)(hi:i<l.length),eP l x (i:Int)=if decide (l[i]=x)=true then some (.stop (.inr (i:Int)))else some (.next ((i+1:Nat):Int)):=by
  intro i hi
  unfold eP
  rw [if_pos so,pI rfl hi,ze,w64 za za]
  by_cases e:l[i]=x
  ·rw [if_pos (by simp [e]),if_pos (by simp [e])]
  ·rw [if_neg (by simp;exact fun h=>e h.symm),if_neg (by simp [e])];rfl
 have g:eP l x (l.length:Nat)=some (.stop (.inl ())):=by
  unfold eP
  rw [if_neg zc]
 rcases qH l (p:=fun y=>decide (y=x)) (f:=fun i _=>(i:Int)) h1 g with⟨e,h⟩|⟨i,hi,e,hp,h⟩
 ·rw [e]
  have:¬x∈l:=fun j=>by
   have:=h x j
   simp at this
  rw [decide_eq_false this];rfl
 ·rw [e]
  have:x∈l:=by
   have:l[i]=x:=by simpa using hp
   rw [<-this];exact Dp hi
  rw [decide_eq_true this]
  simp
theorem qt{X Y:List (List Pick)}{m:List (Pick×Int)}{a b:ae}{i:Nat}(hi:i<Y.length):(i:Int)∈ex X m a b Y Y.length↔frB X m a b Y[i]=false:=by
 have f:Y.getD i []=Y[i]:=by rw [Eo,zf hi];rfl
 refine⟨fun h=>?_,mem_staleL hi⟩
 unfold ex at h
 obtain⟨j,g,e⟩:=List.mem_map.1 h
 obtain rfl:j=i:=by omega
 have:=(List.mem_filter.1 g).2
 rw [f]at this
 simpa using this
theorem staleL_len{X Y:List (List Pick)}{m:List (Pick×Int)}{a b:ae}(n:Nat):(ex X m a b Y n).length<=n:=by
 unfold ex
 have:=Gt (fun j=> !frB X m a b (Y.getD j [])) (DG n)
 rw [Hc]at this
 rw [Ea];omega
abbrev keyB(a b:List UInt8):Bool:=a==b
theorem keyB_eq(a b:List UInt8):keyB a b=decide (a=b):=by
 by_cases h:a=b<;>simp [keyB,h]
theorem known_at{s:ah}{v:ae}{X:List (List Pick)}(hl:X.length<=1000)(B:∀g∈X,Gp g):
  Ok (cI (kA (PG s v X)) ((0:Int),[])) (fun m=>∀g∈X,uQ keyB (g.flatMap pH) ⟨[],[],[]⟩ m=FB s v g):=by
 refine GV (fun t=>∃i:Nat,t.1=(i:Int)∧i<=X.length∧∀(j:Nat)(h:j<X.length),j<i->uQ keyB (X[j].flatMap pH) ⟨[],[],[]⟩ t.2=FB s v X[j]) (fun t=>((X.length:Int)-t.1).toNat) ?_ ⟨0,rfl,DJ _,fun j h u=>za⟩
 rintro⟨t1,t2⟩ ⟨i,rfl,hi,q⟩
 dsimp only at q
 unfold kA
 have hlen:(PG s v X).bP.length=X.length:=Ea ..
 dsimp only
 rw [hlen]
 refine GY (fun G=>?_) (fun E=>?_)
 rotate_left
 ·refine G4 fun g r=>?_
  obtain⟨j,u,rfl⟩:=Gs r
  exact q j u za
 have hk:i<X.length:=by omega
 have k:i<(PG s v X).bP.length:=by omega
 have D:(PG s v X).bP[i]'k=FB s v X[i]:=GF ..
 have f:=B _ (Dp hk)
 rw [pI rfl k,ze,D]
 show Ok ((keyO X[i]).bind _) _
 rw [key_at f,ze,w64 za za]
 refine GX ⟨i+1,zc,za,fun j h u=>?_⟩ zd
 show uQ keyB (X[j].flatMap pH) ⟨[],[],[]⟩ (yl keyB (X[i].flatMap pH) (FB s v X[i]) t2)=FB s v X[j]
 rw [mGet_put keyB_eq]
 split
 ·rename_i e
  rw [keys_inj (B _ (Dp h)).ok f.ok e]
 ·rename_i e
  have F:j≠i:=fun C=>by subst C;exact e rfl
  exact q j h za
theorem qT{n:Int}{l S:List Pick}(h:da l=some S)(hS:S.Pairwise fun x y=>fQ x y<0)(hl:S.length<=1000):bZ n S=bZ n l:=by
 unfold bZ
 rw [qa hS hl,h]
theorem Update_at{s:ah}(hs:gB s){v w:ae}(O:gA v)(hw:gA w){l q:List Pick}(hl:l.length<=19)(hp:∀p∈l,cW p)(hq:q.length<=19)(B:∀p∈q,cW p)
  {X:List (List Pick)} (hX:bZ s.ac.cw l=some X) (E:lB s.ac.cw l X):
  ∃Y m,bZ s.ac.cw q=some Y∧lB s.ac.cw q Y∧Home X m∧er (PG s v X) w q=some (PG s w Y,ex X m v w Y Y.length,0):=by
 have N:=hs.span
 obtain⟨S,U,lS,sS,mS,pS⟩:=E.flat
 obtain⟨r,hr,Q,f,Y,m,C,W, -,u,hm,T⟩:=Stale_ok s.ac.cw N.1 za S q za (fun p h=>hp p ((mS p).1 h)) za B O.iv hw.iv
 have eX:f=X:=by
  rw [qT U sS za,hX]at C
  exact(E9 C).symm
 subst eX
 obtain⟨x1,x2,x3,x4⟩:=E.pC za
 obtain⟨y1,y2,y3,y4⟩:=u.pC za
 have D:=E.gp hl hp
 have I:=u.gp hq B
 refine⟨Y,m,W,u,hm,?_⟩
 obtain⟨r1,r2⟩:=r
 simp only at Q T
 subst Q T
 unfold er
 rw [show gL (PG s v f).bp w q=some (Y,0)from asked_at hs hw.iv za B W,ze,if_neg zc,Picks_at za E,U,ze]
 rw [show gf (PG s v f).bp.ac.cw S q (PG s v f).co w=some (ex f m v w Y Y.length,0)from hr,ze,if_neg zc]
 obtain⟨kn,F,K⟩:=known_at (s:=s) (v:=v) (X:=f) x1 D
 rw [F,ze,show ff (PG s v f).bp w=some ⟨s,w,[]⟩from progress_at hs.tabs.1 hs.tabs.2 hw.lens,ze]
 have:cI (kB (Y,(0:Int)) (ex f m v w Y Y.length,(0:Int)) kn (PG s v f) w) ((0:Int),[])=some (.inl (Y.map (FB s w))):=by
  refine GS (GV (fun t=>∃i:Nat,t=((i:Int),(Y.take i).map (FB s w))∧i<=Y.length) (fun t=>((Y.length:Int)-t.1).toNat) ?_ ⟨0,rfl,DJ _⟩)
  rintro t ⟨i,rfl,hi⟩
  unfold kB
  dsimp only
  refine GY (fun a6=>?_) (fun a5=>?_)
  rotate_left
  ·have:i=Y.length:=by omega
   subst this
   exact G4 (by rw [GM])
  have hk:i<Y.length:=by omega
  have j:=I _ (Dp hk)
  have k:rE ((Y.take i).map (FB s w)) [FB s w Y[i]] 72=some ((Y.take (i+1)).map (FB s w)):=by
   rw [et (by simp only [DW,DX,Ea,EG];omega),rr hk,FG];rfl
  have a9:=staleL_len (X:=f) (Y:=Y) (m:=m) (a:=v) (b:=w) Y.length
  rw [pI rfl hk,ze,contains_int za,ze]
  refine Ok.iteND (fun L=>?_) (fun b0=>?_)
  ·have H:frB f m v w Y[i]=true:=by
    have:=mt (qt hk).2 L
    simpa using this
   obtain⟨J,G⟩:=fresh_in hm (fun g hg=>(D g hg).srt) j.srt (y2 _ (Dp hk)).1 H
   rw [key_at j,ze,show uQ (fun a b=>a==b) (Y[i].flatMap pH) (bq.mk [] [] []) kn=FB s v Y[i]from K _ J,copied_b (find_g hs O j).2,ze, <-FB_alike hs O hw j G,k,ze,w64 za za]
   exact GX ⟨i+1,rfl,za⟩ zd
  ·rw [show iV (PG s v f).bp w Y[i]=some (FB s w Y[i],0)from found_g hs hw j,ze,if_neg zc,k,ze,w64 za za]
   exact GX ⟨i+1,rfl,za⟩ zd
 rw [this,ze]
 rfl
end Go.Dw.Re
set_option maxRecDepth 100000
set_option maxHeartbeats 4000000
namespace Go.Dw.Re
open Go.Dw Go.Proofs
open Sd (mQ eW eo)
theorem stage_refl{x:bg}(h:x.ep.length<=1000):lJ x x=some true:=by
 unfold lJ
 rw [if_neg zc,if_neg zc,if_neg zc,if_neg zc,if_neg zc,if_neg zc]
 have h1:∀i:Nat,i<x.ep.length->eK x x (i:Int)=some (.next ((i+1:Nat):Int)):=fun i hi=>by
  unfold eK
  rw [if_pos so,pI rfl hi,ze,ze,if_neg zc,w64 za za]
  rfl
 have f:eK x x ((x.ep.length:Nat):Int)=some (.stop (.inl ())):=by
  unfold eK
  rw [if_neg zc]
 rw [fJ _ h1 f];rfl
theorem resp_refl{r:bu}(h:oK r):oZ r r=some true:=by
 obtain⟨g1,g2⟩:=h
 unfold oZ
 rw [if_neg zc]
 have h1:∀i:Nat,i<r.cQ.length->jM r r (i:Int)=some (.next ((i+1:Nat):Int)):=fun i hi=>by
  unfold jM
  rw [if_pos so,pI rfl hi,ze,ze,stage_refl (g2 _ (Dp hi)),ze,if_neg zc,w64 za za]
  rfl
 have f:jM r r ((r.cQ.length:Nat):Int)=some (.stop (.inl ())):=by
  unfold jM
  rw [if_neg zc]
 rw [fJ _ h1 f];rfl
theorem epoch_refl{e:az}(h:oK e.bV):lK e e=some true:=by
 unfold lK
 rw [if_pos zc,if_pos zc,if_pos zc,if_pos zc,resp_refl h]
 rfl
theorem inv_refl{v:ae}(f:oj v):nY v v=some true:=by
 have hl:=f.len
 unfold nY
 rw [if_neg zc]
 have h1:∀i:Nat,i<v.a8.length->iM v v (i:Int)=some (.next ((i+1:Nat):Int)):=fun i hi=>by
  obtain⟨B,g⟩:=f.all _ (Dp hi)
  unfold iM
  rw [if_pos so,pI rfl hi,ze,ze,if_neg zc,if_neg zc]
  have u:cI (mB v.a8[i] v.a8[i] (i:Int)) (0:Int)=some (.inl (i:Int)):=by
   refine GS (G7 v.a8[i].cn.length za (fun _=>True) trivial (fun j k h1 _=>?_))
   unfold mB
   refine GY (fun r=>?_) (fun _=>G4 rfl)
   obtain⟨e,he,hm, -⟩:=GU (l:=v.a8[i].cn) k za
   rw [he,ze,ze,epoch_refl (g e hm),ze,if_neg zc,w64 za za]
   exact GX ⟨⟨za,za⟩,trivial⟩ za
  rw [u,ze]
  dsimp only
  rw [w64 za za]
  rfl
 have q:iM v v ((v.a8.length:Nat):Int)=some (.stop (.inl ())):=by
  unfold iM
  rw [if_neg zc]
 rw [fJ _ h1 q];rfl
theorem rints_refl{l:List Int}(hl:l.length<=1000):n5 l l=some true:=by
 unfold n5
 rw [if_neg zc]
 have h1:∀i:Nat,i<l.length->jN l l (i:Int)=some (.next ((i+1:Nat):Int)):=fun i hi=>by
  unfold jN
  rw [if_pos so,pI rfl hi,ze,ze,if_neg zc,w64 za za]
  rfl
 have f:jN l l ((l.length:Nat):Int)=some (.stop (.inl ())):=by
  unfold jN
  rw [if_neg zc]
 rw [fJ _ h1 f];rfl
theorem table_refl{t:bc}(h:TabLen t):jC t t=some true:=by
 unfold jC
 rw [if_pos zc,rints_refl h.1,ze,if_pos rfl,rints_refl h.2]
 rfl
theorem settings_refl{s:ah}(h:gB s):gr s s=some true:=by
 unfold gr
 rw [if_pos zc,table_refl h.tabs.1,ze,if_pos rfl,if_pos zc,if_pos zc,if_pos zc,if_pos zc,if_pos zc,table_refl h.tabs.2,ze,if_pos rfl,if_pos zc,if_pos zc]
 simp
theorem prog_refl{s:ah}(hs:gB s){v:ae}(k:gA v){X:List (List Pick)}(B:X.length<=1000)(u:∀g∈X,Gp g):n4 (PG s v X) (PG s v X)=some true:=by
 unfold n4
 have hlen:(PG s v X).bP.length=X.length:=Ea ..
 rw [if_neg zc,show nY (PG s v X).co (PG s v X).co=some true from inv_refl k.lens,ze,if_neg zc,show gr (PG s v X).bp (PG s v X).bp=some true from settings_refl hs,ze,if_neg zc]
 have h1:∀i:Nat,i<X.length->iP (PG s v X) (PG s v X) (i:Int)=some (.next ((i+1:Nat):Int)):=fun i hi=>by
  have j:i<(PG s v X).bP.length:=by omega
  have r:(PG s v X).bP[i]'j=FB s v X[i]:=GF ..
  have f:=(find_g hs k (u _ (Dp hi))).2
  unfold iP
  rw [hlen,if_pos so,pI rfl j,ze,ze,r,oH f.picks,ze,if_neg zc,oH f.left,ze,if_neg zc,pZ f.events f.each,ze,if_neg zc,w64 za za]
  rfl
 have q:iP (PG s v X) (PG s v X) ((X.length:Nat):Int)=some (.stop (.inl ())):=by
  unfold iP
  rw [hlen,if_neg zc]
 rw [fJ _ h1 q];rfl
end Go.Dw.Re
set_option maxRecDepth 100000
set_option maxHeartbeats 4000000
namespace Go.Dw.Re
open Go.Dw Go.Proofs
open Sd (mQ eW eo)
theorem elit_eq(x y:ar):eZ x y=some (pA x.eR y.eR):=by unfold eZ;rw [cmpE_eq];rfl
theorem ins_lit{l:List ar}(f:l.length<=1000):dJ 0 (l.length:Int) l=some (dj cE l):=by
 refine Eq.trans (b:=insG (fun x y=>eZ x y) (fun c=>decide (c<0)) 0 (l.length:Int) l) rfl (insG_at (S:=fun _=>True) (fun x y _ _=>⟨_,elit_eq x y,rfl⟩) (fun _ _=>trivial) f)
theorem sort_lit{l:List ar}(q:l.length<=12):eF l=some (dj cE l):=by
 unfold eF
 obtain⟨b,j, -⟩:=bits_ok (n:=FN .u64 (l.length:Int)) (u64_range _)
 rw [j,ze]
 have h1:(cI (cH l.length 0 l b) ())=some (dj cE l):=by
  refine qV ?_
  unfold cH
  rw [w64 za za,if_pos so,ins_lit za]
  rfl
 have k:cV 0 (l.length:Int) b l=some (dj cE l):=by
  unfold cV
  refine Bk ⟨1,?_⟩ fun n s hs=>?_
  ·show((cI (cH l.length 0 l b) ()).bind fun g=>some g)=_
   rw [h1];rfl
  ·cases n with
   |zero=>cases hs
   |succ n=>
    have f:((cI (cH l.length 0 l b) ()).bind fun g=>some g)=some s:=hs
    rw [h1]at f
    exact(E9 f).symm
 rw [k];rfl
noncomputable def evs (s:ah) (v:ae) (X:List (List Pick)):List ar:=X.flatMap fun g=>fE s v (ca s v g)
theorem evs_len{s:ah}(hs:gB s){v:ae}:∀{X:List (List Pick)},(∀g∈X,Gp g)->(evs s v X).length<=X.flatten.length
 | [],_=>by simp [evs]
 |g::X,h=>by
  have h1:=evs_len hs (v:=v) (X:=X) fun g f=>h g (by simp [f])
  have f:=h g zc
  have j:(fE s v (ca s v g)).length<=(ca s v g).length:=fE_len hs (v:=v) (U:=ca s v g) (f.srt.filter _)
  have k:(ca s v g).length<=g.length:=Gt _ _
  unfold evs at h1⊢
  rw [Gn,ET,Gq,ET]
  omega
theorem Events_at{s:ah}(hs:gB s){v:ae}(D:gA v){X:List (List Pick)}(E:X.length<=1000)(q:∀g∈X,Gp g)(F:X.flatten.length<=12):iR (PG s v X)=some (dj cE (evs s v X)):=by
 have hl:=evs_len hs (v:=v) q
 have j:∀i,(evs s v (X.take i)).length<=(evs s v X).length:=fun i=>by
  unfold evs
  conv=>rhs;rw [<-HP i X]
  rw [H8,ET];omega
 unfold iR
 have:cI (iy (PG s v X)) ((0:Int),[])=some (evs s v X):=by
  refine GS (GV (fun t=>∃i:Nat,t=((i:Int),evs s v (X.take i))∧i<=X.length) (fun t=>((X.length:Int)-t.1).toNat) ?_ ⟨0,rfl,DJ _⟩)
  rintro t ⟨i,rfl,hi⟩
  unfold iy
  have hlen:(PG s v X).bP.length=X.length:=Ea ..
  dsimp only
  rw [hlen]
  refine GY (fun C=>?_) (fun B=>?_)
  rotate_left
  ·have:i=X.length:=by omega
   subst this
   exact G4 (by rw [GM])
  have hk:i<X.length:=by omega
  have f:i<(PG s v X).bP.length:=by omega
  have u:(PG s v X).bP[i]'f=FB s v X[i]:=GF ..
  have r:=j (i+1)
  have k:evs s v (X.take (i+1))=evs s v (X.take i)++fE s v (ca s v X[i]):=by
   rw [rr hk];unfold evs;rw [H8];simp
  rw [k,ET]at r
  rw [pI rfl f,ze,u,copied_b (find_g hs D (q _ (Dp hk))).2,ze]
  show Ok ((rE (evs s v (X.take i)) (fE s v (ca s v X[i])) 248).bind _) _
  rw [et za,ze,w64 za za]
  exact GX ⟨i+1,by rw [k];rfl,za⟩ zd
 rw [this,ze,sort_lit za]
 rfl
end Go.Dw.Re
set_option maxRecDepth 100000
set_option maxHeartbeats 4000000
namespace Go.Dw.Re
open Go.Dw Go.Proofs
open Sd (mQ eW eo)
def Cv(c:aj):Prop:=∃e,∀T:Int,2000<=T->T<100000->epIn c.cn T=some e
theorem epIn1{e:az}{T:Int}(h1:e.b7<=T)(f:T<e.fTo):epIn [e] T=some e:=by
 unfold epIn
 rw [H7 (by simp [h1,f])]
theorem epIn2{e f:az}{T:Int}(h:e.fTo<=T)(h1:f.b7<=T)(g:T<f.fTo):epIn [e,f] T=some f:=by
 unfold epIn
 rw [List.find?_cons_of_neg so,H7 (by simp [h1,g])]
def CvI(n:Nat)(s:Int×List Int×Int×List aj):Prop:=∃i:Nat,s.1=i∧i<=n∧s.2.2.2.map (·.a7)=(DG i).map sid∧(∀c∈s.2.2.2,Cv c)∧cr ⟨s.2.1,s.2.2.1⟩
theorem sites_cover{n:Nat}(F:n<=6)(d:Src)(D:cr d):Ok (gH (n:Int) d) (fun r=>r.1.a8.map (·.a7)=(DG n).map sid∧∀c∈r.1.a8,Cv c):=by
 unfold gH
 refine GR (P:=fun o=>o.2.2.map (·.a7)=(DG n).map sid∧∀c∈o.2.2,Cv c) (GV (CvI n) (fun s=>((n:Int)-s.1).toNat) ?_ ⟨0,rfl,za,rfl,zc,D⟩) (fun o ho=>G1 ho)
 rintro⟨s1,s2,H,k⟩ ⟨i,i0,i1,i2,i3,i4⟩
 simp only at i0 i1 i2 i3 i4
 subst i0
 have hlen:k.length=i:=by have:=congrArg GG i2;simpa using this
 unfold lp
 have g:∀(x:aj),Ok (rE k [x] 88) (fun r=>r=k++[x]):=fun x=>GQ (by simp only [DW,DX];omega)
 have j:¬i<n->k.map (·.a7)=(DG n).map sid∧∀c∈k,Cv c:=fun h=>by
  obtain rfl:i=n:=by omega
  exact⟨i2,i3⟩
 have f:∀{l:List az}{t:Src},i<n->(∃e,∀T:Int,2000<=T->T<100000->epIn l T=some e)->cr t->Ok (some (.next ((i:Int)+1,t.fL,t.fAt,k++[⟨sid i,l⟩]))) (Ok.S (CvI n) (fun s=>((n:Int)-s.1).toNat) (fun o:List Int×Int×List aj=>o.2.2.map (·.a7)=(DG n).map sid∧∀c∈o.2.2,Cv c) ((i:Int),s2,H,k)):=fun{l t}hi hl G=>by
  refine GX ⟨i+1,zc,za,?_,fun c hc=>?_,G⟩ zd
  ·simp [Hg,i2]
  ·simp only [Ew,Ey]at hc
   rcases hc with hc|rfl
   ·exact i3 c hc
   ·exact hl
 refine GY (fun E=>?_) (fun h=>G4 (j za))
 refine GY (fun _=>?_) (fun h=>G4 (j za))
 have hi:i<n:=by omega
 refine GR (mA 60 za za _ i4) (fun J g1=>?_)
 refine GR (oG _ g1.2) (fun K g2=>?_)
 rw [source_at rfl (show i<6 by omega),ze]
 refine GR (dS _ _ g2.2 za za) (fun L g4=>?_)
 rw [w64 (n:=(i:Int)+1) za za]
 refine G5 (fun _=>?_) (fun _=>G5 (fun _=>?_) (fun _=>?_))
 ·refine GR (dS _ _ g4.2.2 za za) (fun C g5=>?_)
  refine GR (mA 60 za za _ g5.2.2) (fun N g6=>?_)
  refine GR (oG _ g6.2) (fun O g7=>?_)
  refine GR (Ok.tp za zc) (fun _ _=>?_)
  refine GR (GW za zc) (fun I g8=>?_)
  obtain⟨x,q,rfl⟩:=g8
  simp at q
  subst q
  refine GR (GQ zc) (fun Q g9=>?_)
  subst g9
  refine GR (g _) (fun u g10=>?_)
  subst g10
  rw [w64 (n:=1500+C.1) za za]
  exact f hi ⟨_,fun T h1 B=>epIn2 zd zd zd⟩ g7.2
 ·refine GR (dS _ _ g4.2.2 za za) (fun C g5=>?_)
  refine GR (Ok.tp za zc) (fun _ _=>?_)
  refine GR (GW za zc) (fun I g8=>?_)
  obtain⟨x,q,rfl⟩:=g8
  simp at q
  subst q
  refine GR (g _) (fun u g10=>?_)
  subst g10
  exact f hi ⟨_,fun T h1 B=>epIn1 zd zd⟩ g5.2.2
 ·refine GR (g _) (fun u g10=>?_)
  subst g10
  exact f hi ⟨_,fun T h1 B=>epIn1 zd zd⟩ g4.2.2
theorem site_at{n:Nat}{v:ae}(hm:v.a8.map (·.a7)=(DG n).map sid)(hc:∀c∈v.a8,Cv c){i:Nat}(hi:i<n):∃c e,chan v (sid i)=some c∧(∀T:Int,2000<=T->T<100000->epIn c.cn T=some e):=by
 have f:sid i∈v.a8.map (·.a7):=by rw [hm];exact List.mem_map_of_mem (List.mem_range.2 hi)
 obtain⟨c,g,k⟩:=List.mem_map.1 f
 cases h:chan v (sid i)with
 |none=>
  unfold chan at h
  have:=List.find?_eq_none.1 h c g
  simp [k]at this
 |some j=>
  obtain⟨e,he⟩:=hc j (qU h).1
  exact⟨j,e,rfl,he⟩
theorem reach_all{t:bc}(j:pq t){b:al}(g:gM b){p:ag}(hp:fN 60 p):Reach t (oq b p):=by
 have h1:=(Far_at g hp).2.2
 have f:=j.far
 have k:(400:Int)*400<=nu t*nu t:=Int.mul_le_mul f f za (by unfold nu;omega)
 unfold Reach
 omega
theorem used_true{a:ah}(f:gB a){v:ae}(j:gA v){p:Pick}(hp:cW p){e:az}(he:nq v p.a7 p.bS=some e):(used a v p).2.2=true∧phU a v p=⟨e.bU,p.bv,p.cg,1⟩:=by
 have hu:(used a v p).2.2=true:=by
  have h1:=(nK f j hp).1
  have g:=epAt_ok j he
  unfold eC at h1
  rw [n7 hp,ze,if_neg zc,At_eq j.lens (lV j),ze,he]at h1
  dsimp only at h1
  rw [if_neg zc]at h1
  obtain⟨z,q,u, -⟩:=qo f.tab f.box (a:=⟨e.bU,p.bv,p.cg,1⟩) (pV g hp)
  rw [q,ze,if_neg (by simp [u.2 (reach_all f.tab f.box g.pos)])]at h1
  rw [<-E9 h1]
 obtain⟨k,h1,r⟩:=used_form f j hp hu
 obtain rfl:k=e:=E9 (h1.symm.trans he)
 exact⟨hu,r⟩
def exP(s:Sid):Pick:=⟨s,2500,2500,2500,10,0⟩
def exQ(s:Sid):Pick:=⟨s,2500,2500,2500,11,0⟩
theorem ex_c:((oU []).bind fun f=>(me 2 f).bind fun g=>some (g.1.ac.cq==2))=some true:=by kernel_rfl
theorem ex_p:((ko []).bind fun f=>(dL 2 f).bind fun g=>some (g.1.ac.cq==2))=some true:=
 (Le.bind (keep_New_le _) fun _=>Le.bind (Src_Settings_le _ _) fun _=>Le.refl _) _ ex_c
theorem exP_ok{s:Sid}(h:qP s):cW (exP s):=⟨h,by simp [exP],by simp [exP],by simp [exP],by simp [exP],by simp [exP],by simp [exP],by simp [exP],by simp [exP]⟩
theorem exQ_ok{s:Sid}(h:qP s):cW (exQ s):=⟨h,by simp [exQ],by simp [exQ],by simp [exQ],by simp [exQ],by simp [exQ],by simp [exQ],by simp [exQ],by simp [exQ]⟩
theorem ex_lt(s:Sid):fQ (exP s) (exQ s)<0:=by
 have:=eW.refl s
 unfold fQ exP exQ
 simp [this,sZ]
theorem awake_at:lW=some true:=by
 refine GS ?_
 have hc:=ex_p
 unfold lW
 obtain⟨d0,e0,h0⟩:=new_ok []
 rw [e0,ze]at hc⊢
 obtain⟨j,e2,hs,h2⟩:=settingsV (k:=2) za d0 h0
 rw [e2,ze]at hc⊢
 have hle:j.1.ac.cq=2:=by simpa using E9 hc
 obtain⟨r,e3,⟨B, -⟩,E,C⟩:=(sitesV (n:=3) j.2 h2).both (sites_cover (n:=3) za j.2 h2)
 rw [show gH (3:Int) j.2=some r from e3,ze]
 obtain⟨c,e,W,a5⟩:=site_at E C (i:=1) za
 have G:nq r.1 (sid 1) 2500=some e:=by unfold nq;rw [W];exact a5 2500 za za
 have h5:=sid_ok (i:=1) za
 rw [show gc (1:Int)=some (sid 1)from source_at (i:=1) rfl za,ze]
 have hp:=exP_ok h5;have hq:=exQ_ok h5
 have up:=(used_true hs B hp G).1
 have uq:=(used_true hs B hq G).1
 clear G a5 W E C
 generalize sid 1=f at*
 have a9:=ex_lt f
 have J: [exP f,exQ f].Pairwise fun x y=>fQ x y<0:=by simpa using a9
 have N:UsOk j.1 r.1 [exP f,exQ f]:=fun p h=>by
  rcases List.mem_cons.1 h with rfl|h
  ·exact⟨hp,up⟩
  ·rw [List.mem_singleton.1 h];exact⟨hq,uq⟩
 have hU:=usable_all N
 obtain⟨L,eL,sL,mL, -⟩:=oM (l:=[exQ f,exP f]) zc
 have Q:L=[exP f,exQ f]:=ip sL J fun x=>by
  rw [mL];simp only [List.mem_cons,List.not_mem_nil,or_false];exact Or.comm
 subst Q
 obtain⟨e,g1,g2⟩:=used_form hs B hp up
 obtain⟨e',b3,b4⟩:=used_form hs B hq uq
 obtain rfl:e'=e:=E9 (b3.symm.trans g1)
 have H:phU j.1 r.1 (exQ f)=phU j.1 r.1 (exP f):=by rw [g2,b4];rfl
 have hO:mz j.1 r.1 [exP f,exQ f]=[exP f,exQ f]:=by
  refine sortI_self (oA _ _) (fun _ _=>qe) ?_
  have:cmpA j.1 r.1 (exP f) (exQ f)<0:=by
   have:=cmpF_tot.refl (phU j.1 r.1 (exP f))
   unfold cmpA
   rw [H,this,if_neg zc];exact a9
  simpa using this
 have u:PhOk j.1.ac ([exP f,exQ f].map (phU j.1 r.1)):=PhOk_of hs B N
 have b1:(loc j.1.ac ([exP f,exQ f].map (phU j.1 r.1))).b8<=0:=by
  have K:=prob_ok hs u zc
  obtain⟨-,Q, -⟩:=loc_at hs u zc
  obtain⟨t,e1, -⟩:=pL K Q.inn
  rw [Q.val]at e1
  simp only [DB,Prod.mk.injEq]at e1
  rw [e1.2.1]
  have hz:=fun b T=>(zn_at K Q.inn (a:=b) T).2
  have b0:phU j.1 r.1 (exP f)∈(pu j.1.ac ([exP f,exQ f].map (phU j.1 r.1))).bK:=by simp [pu]
  rw [mis_zero K Q.inn (t:=(zn (pu j.1.ac ([exP f,exQ f].map (phU j.1 r.1))) ⟨(loc j.1.ac ([exP f,exQ f].map (phU j.1 r.1))).bM,(loc j.1.ac ([exP f,exQ f].map (phU j.1 r.1))).bM⟩ (phU j.1 r.1 (exP f))).b7) (fun b T=>?_)]
  ·exact Fb _
  ·have b5:b=phU j.1 r.1 (exP f):=by
    have:b=phU j.1 r.1 (exP f)∨b=phU j.1 r.1 (exQ f):=by simpa [pu]using T
    rcases this with h|h
    ·exact h
    ·rw [h,H]
   rw [b5]
   have:=(hz _ b0).2.1
   unfold res;omega
 have c3:=hs.span.1
 have hR := rnd_one hs (v := r.1) (O := [exP f, exQ f]) (by rw [hle]; simp) zc (fun p c2 i hi => by
  have k:∀p∈[exP f,exQ f],phU j.1 r.1 p=phU j.1 r.1 (exP f):=fun p h=>by
   rcases List.mem_cons.1 h with rfl|h
   ·rfl
   ·rw [List.mem_singleton.1 h,H]
  rw [k p c2,k i hi];omega) (fit_all hs u zc b1)
 have c1:(fE j.1 r.1 [exP f,exQ f]).length=1:=by
  unfold fE
  rw [hO,hR,eI]
  rfl
 have I:∀p∈[exP f,exQ f],cW p:=fun p h=>(N p h).1
 have b2:∀p∈[exQ f,exP f],cW p:=fun p h=>by
  rcases List.mem_cons.1 h with rfl|h
  ·exact hq
  ·rw [List.mem_singleton.1 h];exact hp
 have c5:=hs.span
 obtain⟨X,hX,U,eN⟩:=New_at hs B (l:=[exP f,exQ f]) zc I
 obtain⟨Y,m,hY,c4,hm,eU⟩:=Update_at hs B B (l:=[exP f,exQ f]) (q:=[exQ f,exP f]) zc I zc b2 hX U
 have eY:Y=X:=by
  rw [<-qT eL J zc,hX]at hY
  exact(E9 hY).symm
 subst eY
 obtain⟨y1,y2,y3,y4⟩:=U.pC zc
 have a6:=U.gp zc I
 have eS:ex Y m r.1 r.1 Y Y.length=[]:=staleL_nil fun i hi=>same_fresh hm (fun g hg=>(y2 g hg).1) i hi
 have D:∀p∈Y.flatten,p.bv=2500:=fun p h=>by
  rcases List.mem_cons.1 ((y4 p).1 h)with rfl|h
  ·rfl
  ·rw [List.mem_singleton.1 h];rfl
 have F:Y=[[exP f,exQ f]]:=by
  rcases Y with _|⟨g,_|⟨h,Z⟩⟩
  ·have:=(y4 (exP f)).2 zc
   simp at this
  ·have:g=[exP f,exQ f]:=ip (U.sorted g zc) J fun p=>by
    have:=y4 p
    simpa using this
   rw [this]
  ·obtain⟨b,T⟩:=H6 _ (y2 g zc).1
   obtain⟨a,ha⟩:=H6 _ (y2 h zc).1
   have h1:=(List.pairwise_cons.1 U.gap).1 h zc b T a ha
   have h2:=D b (by simp [T])
   have h3:=D a (by simp [ha])
   omega
 have c0:=Events_at hs B y1 a6 (by rw [F];simp)
 have b6:(dj cE (evs j.1 r.1 Y)).length=1:=by
  rw [eI,F]
  unfold evs
  simp only [Gn,List.flatMap_nil,ER]
  rw [hU,c1]
 show Ok ((fk j.1 r.1 [exP f,exQ f]).bind _) _
 rw [eN,ze]
 show Ok ((er (PG j.1 r.1 Y) r.1 [exQ f,exP f]).bind _) _
 rw [eU,ze,eS,if_pos zc]
 dsimp only
 rw [c0,ze,b6,if_pos zc,if_pos zc,if_pos zc,prog_refl hs B y1 a6]
 exact G1 rfl
end Go.Dw.Re
set_option maxRecDepth 100000
set_option maxHeartbeats 4000000
namespace Go.Dw.Re
open Go.Dw Go.Proofs
open Sd (mQ eW eo)
theorem samePicks_eq{a b:List Pick}(h:a.length<=1000):cB a b=some (decide (a=b)):=by
 unfold cB
 by_cases hl:a.length=b.length
 ·rw [if_neg (by simp [hl])]
  have key:(cI (eh a b) (0:Int)=some (.inl ())∧a=b)∨(cI (eh a b) (0:Int)=some (.inr false)∧a≠b):=by
   refine loop_eq a b hl (fun i hi g=>?_) ?_
   ·unfold eh
    have he:=eqs a[i] b[i]
    unfold eqF at he
    rw [if_pos so,pI rfl hi,pI rfl g,ze,ze,he,w64 za za]
    by_cases e:a[i]=b[i]<;>simp [e]
   ·unfold eh
    rw [if_neg zc]
  rcases key with⟨e,f⟩|⟨e,f⟩
  ·rw [e];simp [f]
  ·rw [e];simp [f]
 ·rw [if_pos (by simpa using fun e:(a.length:Int)=b.length=>hl za)]
  simp [show a≠b from fun e=>hl (by rw [e])]
theorem ints_refl{l:List Int}(hl:l.length<=1000):oC l l=some true:=by
 unfold oC
 rw [if_neg zc]
 have:Ok (cI (nG l l) (0:Int)) (fun o=>o= .inl ()):=by
  refine G7 l.length za (fun _=>True) trivial (fun i f h1 _=>?_)
  unfold nG
  refine GY (fun g=>?_) (fun _=>G4 rfl)
  obtain⟨p,hp, -⟩:=GU (l:=l) f za
  rw [hp,ze,ze,if_neg zc,w64 za za]
  exact GX ⟨⟨za,za⟩,trivial⟩ za
 rw [this.eq];rfl
theorem in_eq{l:List Int}(hl:l.length<=1000)(x:Int):qh l x=some (decide (x∈l)):=by
 by_cases f:x∈l
 ·rw [in_ok hl f,decide_eq_true f]
 unfold qh
 have h1:∀(i:Nat),i<l.length->jl l x (i:Int)=some (.next ((i+1:Nat):Int)):=by
  intro i hi
  unfold jl
  rw [if_pos so,pI rfl hi,ze,w64 za za,if_neg ?_]
  ·rfl
  ·simp only [beq_iff_eq]
   intro e
   exact f (by rw [<-e];exact Dp hi)
 have g:jl l x (l.length:Nat)=some (.stop (.inl ())):=by
  unfold jl
  rw [if_neg zc]
 rw [fJ l.length h1 g,decide_eq_false f]
 rfl
theorem home_eq{X:List (List Pick)}{m q:List (Pick×Int)}(h:Home X m)(g:Home X q)(p:Pick):home p m=home p q:=by
 by_cases hp:p∈X.flatten
 ·obtain⟨x,r,f⟩:=List.mem_flatten.1 hp
  obtain⟨j,k,rfl⟩:=Gs r
  rw [h.at_ j k p f,g.at_ j k p f]
 ·rw [h.no p hp,g.no p hp]
theorem staleL_home{X:List (List Pick)}{m f:List (Pick×Int)}(h:Home X m)(g:Home X f)(a b:ae)(Y:List (List Pick))(n:Nat):ex X m a b Y n=ex X f a b Y n:=by
 unfold ex frB anyB
 simp only [home_eq h g]
theorem l37_ok{s:ah}(hs:gB s){v w:ae}(L:gA v)(hw:gA w){X Y:List (List Pick)}(O:X.length<=1000)(E:∀g∈X,Gp g)(n:List Int)(z N:Int){i:Nat}(hi:i<Y.length)(q:Gp Y[i])(D:∀p∈Y[i],¬Chg v w p):
  cI (gq (PG s v X,z) (PG s w Y,n,N) (i:Int)) (false,(0:Int))=some (decide (Y[i]∈X),(i:Int)):=by
 refine GS (GV (fun t=>∃k:Nat,t=(decide (Y[i]∈X.take k),(k:Int))∧k<=X.length) (fun t=>((X.length:Int)-t.2).toNat) ?_ ⟨0,zc,DJ _⟩)
 rintro t ⟨k,rfl,hk⟩
 unfold gq
 have hlen:(PG s v X).bP.length=X.length:=Ea ..
 have G:(PG s w Y).bP.length=Y.length:=Ea ..
 dsimp only
 rw [hlen]
 refine GY (fun K=>?_) (fun I=>?_)
 rotate_left
 ·have:k=X.length:=by omega
  subst this
  exact G4 (by rw [GM])
 have B:k<X.length:=by omega
 have u:k<(PG s v X).bP.length:=by omega
 have r:i<(PG s w Y).bP.length:=by omega
 have H:(PG s v X).bP[k]'u=FB s v X[k]:=GF ..
 have C:(PG s w Y).bP[i]'r=FB s w Y[i]:=GF ..
 have F:=E _ (Dp B)
 have J:=F.len
 have j:decide (Y[i]∈X.take (k+1))=(decide (Y[i]∈X.take k)||decide (X[k]=Y[i])):=by
  have:Y[i]∈X.take (k+1)↔Y[i]∈X.take k∨X[k]=Y[i]:=by
   rw [rr B,Ew,Ey]
   exact⟨fun h=>h.imp id Eq.symm,fun h=>h.imp id Eq.symm⟩
  rw [decide_eq_decide.2 this,Bool.decide_or]
 rw [pI rfl u,ze,H,w64 za za]
 refine Ok.yF (fun h=>GX ⟨k+1,by rw [j,h];simp,za⟩ zd) (fun h=>?_)
 rw [pI rfl r,ze,C,show cB (FB s v X[k]).ew (FB s w Y[i]).ew=some (decide (X[k]=Y[i]))from samePicks_eq (show X[k].length<=1000 by omega),ze]
 refine GY (fun e=>?_) (fun e=>?_)
 ·have f:=(find_g hs hw q).2
  have heq:FB s v X[k]=FB s w Y[i]:=by rw [e,FB_alike hs L hw q D]
  rw [ze,heq,pZ f.events f.each,ze,if_pos rfl,ze,oH f.left,ze]
  exact GX ⟨k+1,by rw [j,decide_eq_true e];simp,za⟩ zd
 ·exact GX ⟨k+1,by rw [j,h,decide_eq_false e];simp,za⟩ zd
theorem Exactly_k{s:ah}(hs:gB s){v w:ae}(F:gA v)(hw:gA w){l q:List Pick}(hl:l.length<=19)(hp:∀p∈l,cW p)(hq:q.length<=19)(j:∀p∈q,cW p)(d1 d2 d3 d4:Src):
  dD (s,d1) (v,d2) (l,d3) (q,d4) w.a8=some true:=by
 obtain⟨X,W,H,eN⟩:=New_at hs F hl hp
 obtain⟨Y,m,hY,u,hm,eU⟩:=Update_at hs F hw hl hp hq j W H
 have T:=hs.span
 obtain⟨r,hr,U,X',Y',m',B,C, -, -,Q,G⟩:=Stale_ok s.ac.cw T.1 za l q za hp za j F.iv hw.iv
 rw [W]at B
 obtain rfl:=E9 B
 rw [hY]at C
 obtain rfl:=E9 C
 rw [staleL_home Q hm]at G
 obtain⟨r1,r2⟩:=r
 simp only at U G
 subst U G
 obtain⟨x1,x2,x3,x4⟩:=H.pC za
 obtain⟨y1,y2,y3,y4⟩:=u.pC za
 have D:=H.gp hl hp
 have N:=u.gp hq j
 have a5:=staleL_len (X:=X) (Y:=Y) (m:=m) (a:=v) (b:=w) Y.length
 unfold dD
 dsimp only
 rw [eN,ze]
 dsimp only
 rw [show(ae.mk w.a8)=w from rfl,eU,ze,hr,ze,if_neg zc,if_neg zc,if_neg zc]
 dsimp only
 rw [ints_refl za,ze,if_neg zc]
 have I:∀i:Nat,i<Y.length->dF (PG s w Y,ex X m v w Y Y.length,(0:Int)) (PG s v X,(0:Int)) (i:Int)=some (.next ((i+1:Nat):Int)):=fun i hi=>by
  unfold dF
  have f:(PG s w Y).bP.length=Y.length:=Ea ..
  dsimp only
  rw [f,if_pos so,in_eq za,ze,w64 za za]
  have E:=N _ (Dp hi)
  by_cases k:(i:Int)∈ex X m v w Y Y.length
  ·rw [if_pos (by simpa using k)];rfl
  ·rw [if_neg (by simpa using k)]
   have L:frB X m v w Y[i]=true:=by
    have:=mt (qt hi).2 k
    simpa using this
   obtain⟨O,K⟩:=fresh_in hm (fun g hg=>(D g hg).srt) E.srt (y2 _ (Dp hi)).1 L
   rw [l37_ok hs F hw x1 D _ _ _ hi E K,ze,decide_eq_true O,if_neg zc]
   dsimp only
   rw [w64 za za]
   rfl
 have J:dF (PG s w Y,ex X m v w Y Y.length,(0:Int)) (PG s v X,(0:Int)) ((Y.length:Nat):Int)=some (.stop (.inl ())):=by
  unfold dF
  have f:(PG s w Y).bP.length=Y.length:=Ea ..
  dsimp only
  rw [f,if_neg zc]
 rw [fJ Y.length I J,ze]
 dsimp only
 rw [awake_at]
 rfl
theorem pw(a0:List Int):jm a0=some true:=by
 refine GS ?_
 unfold jm
 refine GR (new_ok a0) (fun G h1=>?_)
 refine GR ((settingsV (k:=3) za G h1).both (settings_ok (k:=3) za G h1)) (fun q⟨⟨E,I⟩,f,_⟩=>?_)
 refine GR (sitesV q.2 I) (fun j⟨g,J⟩=>?_)
 refine GR (picks_ok q.1 f j.1 g.inv 9 za j.2 J) (fun r⟨⟨U,B⟩,K⟩=>?_)
 refine GR (picks_ok q.1 f j.1 g.inv 2 za r.2 K) (fun H⟨⟨W,Q⟩,N⟩=>?_)
 refine GR (replaced_ok r.1 H.1 za za B Q H.2 N) (fun D⟨⟨X,F⟩,O⟩=>?_)
 refine GR (dS 2 D.2 O za za) (fun C u=>?_)
 refine G5 (fun _=>?_) (fun _=>?_)
 ·refine GR (correctedV j.1 g C.2 u.2.2) (fun T⟨hw,L⟩=>?_)
  exact Ok.of (Exactly_k E g hw za B za F q.2 j.2 r.2 D.2) rfl
 ·exact Ok.of (Exactly_k E g g za B za F q.2 j.2 r.2 D.2) rfl
end Go.Dw.Re
