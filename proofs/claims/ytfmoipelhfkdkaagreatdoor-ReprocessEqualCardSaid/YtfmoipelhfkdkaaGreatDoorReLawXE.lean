
import Derived.Test.YtfmoipelhfkdkaaGreatDoorReLawW
import Derived.KernelRfl
import Derived.Test.YtfmoipelhfkdkaaGreatDoorReLawEB
import Derived.Test.YtfmoipelhfkdkaaGreatDoorReCo
set_option linter.unusedVariables false
set_option linter.unusedSimpArgs false
open Go.Dw.Ok renaming app->Ge, bind->Gf, eq->Gg, get->Gh, loop->Gi, mod->Gj, nx->Gk, pz->Gl, ret->Gq, st->Gt, tA->Gu
open List renaming Nodup->HE, any_eq_false->Hq, append_assoc->DK, append_nil->Ea, concat_eq_append->Hr, cons_append->FN, eq_nil_of_length_eq_zero->Eb, eq_nil_or_concat->Hs, exists_cons_of_ne_nil->Ht, exists_mem_of_ne_nil->Hu, find?_cons_of_pos->Hv, flatMap_append->Hw, flatMap_cons->HQ, flatMap_map->Hx, flatten_append->Hy, flatten_cons->HR, flatten_nil->Hz, getD_eq_getElem?_getD->FO, getElem_map->G3, getElem_mem->EJ, getElem_of_mem->HS, getElem_take->IA, headD_cons->IC, length->G4, length_append->Ec, length_cons->D4, length_filter_le->HT, length_map->Ey, length_nil->D5, length_range->ID, length_set->FU, length_take->E1, map_append->F2, map_congr_left->HV, map_map->HW, mem_append->FV, mem_cons->Fc, mem_erase_of_ne->IE, mem_singleton->FW, nil_append->D8, pairwise_map->G8, pairwise_singleton->IF, range->DO, range_succ->IG, set_getElem_self->G9, sublist_flatten_of_mem->H9, takeWhile_cons_of_neg->IH, takeWhile_cons_of_pos->Hc, take_append_drop->He, take_append_of_le_length->II, take_length->Ga, take_of_length_le->Hg
open Go.IntKind renaming wrap->Fb
open Nat renaming le_refl->DI, zero_le->DR
open Int renaming le_refl->GB, lt_or_eq_of_le->IJ
open Option.some renaming inj->Ew, injEq->DJ
open Option renaming getD_some->F9
open Classical renaming byContradiction->HA
open Bool renaming and_eq_true->EE

set_option maxRecDepth 100000
set_option maxHeartbeats 4000000
namespace Go.Dw.Re
open Go.Dw
theorem get2{α:Type}(A:List α)(y x:α)(T:List α){n:Int}(f:n=A.length+1):oc (A++y::x::T) n=some x:=by
 have:=get1 (A++[y]) x T (n:=n) so
 simpa using this
theorem set2{α:Type}(A:List α)(y x z:α)(T:List α){n:Int}(f:n=A.length+1):tO (A++y::x::T) n z=some (A++y::z::T):=by
 have:=set1 (A++[y]) x z T (n:=n) so
 simpa using this
def le1(x y:Pick):Prop:=x.bu<=y.bu
theorem lit1_eq(a b:Pick):fP a b=some (sX a.bu b.bu):=by
 unfold fP
 rw [Sd.lL];rfl
theorem cmpI_neg{a b:Int}:sX a b<0↔a<b:=by
 unfold sX
 by_cases h1:a<b
 ·simp [h1]
 ·by_cases f:a>b<;>simp [h1,f]
def cEb(a b:Pick):Int:=if sX a.bu b.bu≠0 then sX a.bu b.bu else db a b
def lx(a b:Pick):Prop:=cEb a b<0
theorem lx_lt{a b:Pick}(h:a.bu<b.bu):lx a b:=by
 unfold lx cEb sX;simp [h]
theorem lx_le{a b:Pick}(h:a.bu<=b.bu)(f:db a b<0):lx a b:=by
 by_cases e:a.bu<b.bu
 ·exact lx_lt e
 ·have:a.bu=b.bu:=by omega
  unfold lx cEb
  rw [if_neg (by rw [this];simp [xC.2])]
  exact f
theorem lx_early{a b:Pick}(h:lx a b):a.bu<=b.bu:=by
 unfold lx cEb at h
 by_cases e:sX a.bu b.bu=0
 ·rw [xC]at e;omega
 ·rw [if_pos e,cmpI_neg]at h;omega
theorem sinner_ok(i:Nat)(L C:List Pick)(x:Pick)(I:L.Pairwise lx)(hl:L.length<=1000)(Q:∀a∈L,db a x<0):
  Ok (cI (dx 0 (i:Int)) ((L.length:Int),L++x::C)) (fun o=>o.1=i∧∃D,o.2=D++C∧D.Perm (x::L)∧D.Pairwise lx):=by
 refine Gi (fun s=>∃A B:List Pick,s=((A.length:Int),A++x::(B++C))∧A++B=L∧∀b∈B,lx x b) (fun s=>s.1.toNat) ?_ ⟨L,[],zc,zc,zc⟩
 rintro s ⟨A,B,rfl,j,K⟩
 have H:A.length<=1000:=by have:=congrArg G4 j;simp at this;omega
 have f:(∀a∈A,lx a x)->Ok (some (gB.stop ((i:Int),A++x::(B++C)))) (Ok.S (fun s=>∃A B:List Pick,s=((A.length:Int),A++x::(B++C))∧A++B=L∧∀b∈B,lx x b) (fun s=>s.1.toNat) (fun o:Int×List Pick=>o.1=i∧∃D,o.2=D++C∧D.Perm (x::L)∧D.Pairwise lx) ((A.length:Int),A++x::(B++C))):=by
  intro O
  refine Gt ⟨rfl,A++x::B,zc,?_,?_⟩
  ·rw [<-j];exact List.perm_middle
  ·rw [<-j]at I
   obtain⟨T,U,W⟩:=List.pairwise_append.1 I
   refine List.pairwise_append.2 ⟨T,List.pairwise_cons.2 ⟨K,U⟩,fun a k b r=>?_⟩
   rcases List.mem_cons.1 r with rfl|r
   ·exact O a k
   ·exact W a k b r
 unfold dx
 dsimp only
 refine Gl (fun E=>?_) (fun hle=>?_)
 rotate_left
 ·have:A=[]:=Eb za
  subst this
  exact f zc
 rcases Hs A with rfl|⟨g,y,rfl⟩
 ·simp at E
 simp only [Ec,D4,D5,DK,FN,D8,Hr]at H E f⊢
 have hw:Fb .i64 (((g.length+(0+1):Nat):Int)-1)=(g.length:Int):=by rw [w64 za za];omega
 rw [hw]
 have J:inO (g++y::x::(B++C)) ((g.length+(0+1):Nat):Int)=some ():=sh za so
 have q:∀z,inO (g++y::z::(B++C)) (g.length:Int)=some ():=fun z=>sh za so
 rw [J,ze,get2 g y x (B++C) za,ze,q,ze,get1 g y _ rfl,ze,lit1_eq,ze]
 refine Gl (fun F=>?_) (fun u=>?_)
 ·rw [ze,ze,ze,ze,ze,set2 g y x y (B++C) za,ze,q,ze,set1 g y x _ rfl,ze]
  rw [cmpI_neg]at F
  refine Gk ⟨g,y::B,rfl,by simpa using j,fun b r=>?_⟩ zd
  rcases List.mem_cons.1 r with rfl|r
  ·exact lx_lt F
  ·exact K b r
 ·refine f fun a k=>?_
  rw [cmpI_neg]at u
  have N:y.bu<=x.bu:=Int.not_lt.1 u
  have G:∀a∈g++[y],a∈L:=fun a k=>by
   rw [<-j]
   simp only [Hr]
   exact List.mem_append.2 (.inl k)
  refine lx_le ?_ (Q a (G a k))
  rw [FV,FW]at k
  rcases k with k|rfl
  ·have:(g++(y::B)).Pairwise lx:=by
    have:=I
    rw [<-j]at this
    simpa using this
   have:=lx_early ((List.pairwise_append.1 this).2.2 a k y zc)
   exact Int.le_trans this N
  ·exact N
theorem qI(d:List Pick)(U:d.length<=1000)(hs:d.Pairwise (fun a b=>db a b<0)):Ok (bX 0 (d.length:Int) d) (fun r=>r.Perm d∧r.Pairwise lx):=by
 unfold bX
 rw [w64 (n:=0+1) za za]
 refine Gf (P:=fun r=>r.Perm d∧r.Pairwise lx) (Gi (fun s=>∃(D C:List Pick),s=(((if d=[]then 1 else D.length:Nat):Int),D++C)∧(∃T,T++C=d∧D.Perm T)∧D.Pairwise lx∧(d≠ []->1<=D.length)) (fun s=>((d.length:Int)-s.1).toNat) ?_ ?_) (fun o ho=>Gq ho)
 ·rintro s ⟨D,C,rfl,⟨T,u,hp⟩,q,h1⟩
  unfold cQ
  dsimp only
  have G:D.length+C.length=d.length:=by have:=hp.length_eq;have:=congrArg G4 u;rw [Ec]at this;omega
  refine Gl (fun k=>?_) (fun E=>?_)
  ·have f:d≠ []:=fun e=>by subst e;simp at k
   rw [if_neg f]at k⊢
   rcases C with _|⟨x,C⟩
   ·simp at G;omega
   have j:=hs
   rw [<-u]at j
   obtain⟨W,Y,Q⟩:=List.pairwise_append.1 j
   refine Gf (sinner_ok D.length D C x q za fun a J=>Q a (hp.mem_iff.1 J) x zc) (fun o ho=>?_)
   obtain⟨K,H,N,I,O⟩:=ho
   rw [K,N,w64 za za]
   have F:H.length=D.length+1:=by have:=I.length_eq;simpa using this
   refine Gk ⟨H,C,?_,⟨T++[x],by simpa using u,?_⟩,O,fun _=>za⟩ zd
   ·rw [if_neg f,F];simp
   ·exact I.trans (((List.Perm.cons x hp)).trans (List.perm_append_singleton x T).symm)
  ·rw [ze]
   have g:(D++C).Perm d:=by rw [<-u];exact hp.append_right C
   refine Gt ⟨g,?_⟩
   by_cases f:d=[]
   ·subst f
    have:D++C=[]:=Eb (by simpa using g.length_eq)
    rw [this];exact .nil
   ·rw [if_neg f]at E
    have:C=[]:=Eb za
    subst this
    simpa using q
 ·by_cases f:d=[]
  ·subst f
   exact⟨[],[],zc,⟨[],rfl,.refl _⟩,.nil,fun h=>(h rfl).elim⟩
  ·refine⟨d.take 1,d.drop 1,?_,⟨d.take 1,He 1 d,.refl _⟩,?_,fun _=>?_⟩
   ·rw [if_neg f,He]
    have:=List.length_pos_iff.2 f
    simp;omega
   ·rcases d with _|⟨a,d⟩
    ·exact(f rfl).elim
    ·simp
   ·have:=List.length_pos_iff.2 f
    simp;omega
theorem insertion_end(n:Nat)(f:n<=1000)(d:List Pick):bX (n:Int) (n:Int) d=some d:=by
 unfold bX
 rw [w64 za za]
 have:cQ (n:Int) (n:Int) ((n:Int)+1,d)=some (.stop d):=by
  unfold cQ
  dsimp only
  rw [if_neg so];rfl
 rw [rD this];rfl
theorem sstable_ok(d:List Pick)(D:d.length<=20)(hs:d.Pairwise (fun a b=>db a b<0)):Ok (dG d) (fun r=>r.Perm d∧r.Pairwise lx):=by
 unfold dG
 refine Gf (P:=fun r=>r.Perm d∧r.Pairwise lx) ?_ (fun o ho=>Gq ho)
 unfold dV
 have f:∀r:List Pick,cI (eu (d.length:Int) r) (20:Int)=some r:=fun r=>by
  refine rD ?_
  unfold eu
  rw [if_neg so];rfl
 by_cases g:d.length=20
 ·have q:cq (d.length:Int) ((0:Int),(20:Int),d)=(bX 0 (d.length:Int) d).bind fun C=>some (.next ((20:Int),(40:Int),C)):=by
   unfold cq
   dsimp only
   rw [if_pos so,w64 za za]
   rw [g];rfl
  obtain⟨r,e2,k⟩:=qI d za hs
  rw [e2,ze]at q
  have j:cq (d.length:Int) ((20:Int),(40:Int),r)=some (.stop ((20:Int),r)):=by
   unfold cq
   dsimp only
   rw [if_neg so]
  rw [rZ q,rD j,ze]
  dsimp only
  have u:=insertion_end 20 za r
  rw [g]at f⊢
  rw [show((20:Nat):Int)=20 from rfl]at u f⊢
  rw [u,ze,f]
  exact Gq k
 ·have j:cq (d.length:Int) ((0:Int),(20:Int),d)=some (.stop ((0:Int),d)):=by
   unfold cq
   dsimp only
   rw [if_neg so]
  rw [rD j,ze]
  dsimp only
  refine Gf (qI d za hs) (fun r k=>?_)
  rw [f]
  exact Gq k
theorem lastO_snoc{α:Type}(O:List α)(g:α):zz (O++[g])=some g:=by
 unfold zz
 simp
theorem tail_eq(O:List (List Pick))(g:List Pick)(p:Pick)(i:Int)(D:O.length<=1000)(E:g.length<=1000):
  ((zz (O++[g])).bind fun f=>(inO (O++[g]) (Fb .i64 (((O++[g]).length:Int)-(1:Int)))).bind fun q=>(atO (Fb .i64 (((O++[g]).length:Int)-(1:Int))) ((O++[g]).length-1)).bind fun r=>(rR f [p] 104).bind fun j=>(inO (O++[g]) (Fb .i64 (((O++[g]).length:Int)-(1:Int)))).bind fun u=>(stO (O++[g]).length (Fb .i64 (((O++[g]).length:Int)-(1:Int))) ((O++[g]).length-1)).bind fun C=>some (gB.next (Fb .i64 (i+(1:Int)),(O++[g]).set ((O++[g]).length-1) j):gB (Int×List (List Pick)) (List (List Pick))))
   =some (.next (Fb .i64 (i+1),O++[g++[p]])):=by
 have hl:(O++[g]).length=O.length+1:=by simp
 have hw:Fb .i64 (((O++[g]).length:Int)-1)=(O.length:Int):=by rw [hl,w64 za za];omega
 rw [hw,lastO_snoc,ze,sh za (by rw [hl];omega),ze,hl]
 have k:atO (O.length:Int) (O.length+1-1)=some ():=by unfold atO;rw [if_pos zc]
 have hs:stO (O.length+1) (O.length:Int) (O.length+1-1)=some ():=by unfold stO;rw [if_pos zc]
 rw [k,ze,ec (by simp only [D4,D5];omega),ze,ze,hs,ze]
 simp
def Gap(far:Int)(g h:List Pick):Prop:=∀b∈g,∀a∈h,far<a.bu-b.bu
structure BI(far:Int)(all:List Pick)(i:Nat)(out:List (List Pick)):Prop where
 flat:out.flatten=all.take i
 ne:∀g∈out,g≠ []
 gap:out.Pairwise (Gap far)
 pos:0<i->out≠ []
theorem len_le{out:List (List Pick)}(h:∀g∈out,g≠ []):out.length<=out.flatten.length:=by
 induction out with
 |nil=>simp
 |cons g out j=>
  have:=List.length_pos_iff.2 (h g zc)
  have:=j fun g f=>h g (by simp [f])
  rw [HR,Ec,D4];omega
theorem l36_ok(far:Int)(all:List Pick)(hl:all.length<=1000)(hs:all.Pairwise le1)(hr:∀p∈all,0<=p.bu∧p.bu<=18014398509481984):
  Ok (cI (jp all far) ((0:Int),[])) (BI far all all.length):=by
 refine Gi (fun s=>∃i:Nat,s.1=i∧i<=all.length∧BI far all i s.2) (fun s=>((all.length:Int)-s.1).toNat) ?_ ⟨0,rfl,DR _,⟨zc,zc,.nil,fun h=>za⟩⟩
 rintro⟨s3,out⟩ ⟨i,rfl,hi,q⟩
 unfold jp
 dsimp only
 refine Gl (fun r=>?_) (fun b0=>?_)
 rotate_left
 ·have:i=all.length:=by omega
  subst this
  exact Gt q
 have r:i<all.length:=by omega
 have G:out.length<=1000:=by have:=len_le q.ne;rw [q.flat]at this;simp at this;omega
 have Q:∀g∈out,g.length<=1000:=fun g N=>by
  have h1:=(H9 N).length_le
  rw [q.flat]at h1;simp at h1;omega
 have D:all.take (i+1)=all.take i++[all[i]]:=rF r
 have C:∀g∈out,∀b∈g,∃j,∃h:j<i,all[j]'za=b:=fun g N b K=>by
  have:b∈all.take i:=by rw [<-q.flat];exact List.mem_flatten.2 ⟨g,N,K⟩
  obtain⟨j,Y,e⟩:=HS this
  simp only [E1]at Y
  rw [IA]at e
  exact⟨j,za,e⟩
 have J:∀{j k:Nat}(hk:k<all.length)(a5:j<=k),(all[j]'za).bu<=all[k].bu:=fun{j k}hk a5=>by
  by_cases e:j=k
  ·subst e;exact GB _
  ·exact List.pairwise_iff_getElem.1 hs j k za hk za
 have I:(0<i->∃h:i-1<all.length,far<all[i].bu-(all[i-1]'h).bu)->BI far all (i+1) (out++[[all[i]]]):=fun N=>by
  refine⟨by rw [Hy,q.flat,D];simp,fun g f=>?_,List.pairwise_append.2 ⟨q.gap,IF _ _,fun g f h U=>?_⟩,fun _=>zc⟩
  ·rcases List.mem_append.1 f with f|f
   ·exact q.ne g f
   ·rw [FW]at f;subst f;simp
  ·rw [FW]at U
   subst U
   intro b K a E
   rw [FW]at E
   subst E
   obtain⟨j,Y,rfl⟩:=C g f b K
   obtain⟨h1,h2⟩:=N za
   have:=J (j:=j) (k:=i-1) h1 za
   omega
 rw [sh za za,ze,py (i:=i) rfl r,ze]
 have H:rR out [[]] 24=some (out++[[]]):=ec (by simp only [D4,D5];omega)
 refine Gu (fun W=>?_) (fun W=>?_)
 ·have W:i=0:=by omega
  rw [H,ze,tail_eq out [] all[i] i G zc,w64 za za]
  refine Gk ⟨i+1,zc,za,?_⟩ zd
  simpa using I fun h=>by omega
 ·have W:0<i:=by omega
  have F:i-1<all.length:=by omega
  rw [w64 (n:=(i:Int)-1) za za,sh za za,ze,py (i:=i-1) za F,ze]
  have r1:=hr _ (EJ r)
  have r2:=hr _ (EJ F)
  rw [w64 (n:=all[i].bu-(all[i-1]'F).bu) za za]
  refine Gl (fun a9=>?_) (fun a6=>?_)
  ·rw [H,ze,tail_eq out [] all[i] i G zc,w64 za za]
   refine Gk ⟨i+1,zc,za,?_⟩ zd
   simpa using I fun _=>⟨F,za⟩
  ·rcases Hs out with rfl|⟨O,g,rfl⟩
   ·exact(q.pos W rfl).elim
   rw [Hr]at q G Q C⊢
   have T:=q.ne g zc
   rw [tail_eq O g all[i] i (by simp at G;omega) (Q g zc),w64 za za]
   refine Gk ⟨i+1,zc,za,?_⟩ zd
   obtain⟨p1,p2,p3⟩:=List.pairwise_append.1 q.gap
   refine⟨?_,fun g' f=>?_,List.pairwise_append.2 ⟨p1,IF _ _,fun u hu h U=>?_⟩,fun _=>zc⟩
   ·have:=q.flat
    simp only [Hy,HR,Hz,Ea]at this⊢
    rw [D, <-this,DK]
   ·rcases List.mem_append.1 f with f|f
    ·exact q.ne g' (by simp [f])
    ·rw [FW]at f;subst f;simp
   ·rw [FW]at U
    subst U
    intro b K a E
    rcases List.mem_append.1 E with E|E
    ·exact p3 u hu g zc b K a E
    ·rw [FW]at E
     subst E
     rcases g with _|⟨c,g⟩
     ·exact(T rfl).elim
     have h1:=p3 u hu (c::g) zc b K c zc
     obtain⟨j,Y,e⟩:=C (c::g) zc c zc
     have:=J (j:=j) (k:=i) r za
     rw [e]at this
     omega
theorem l47_ok(out:List (List Pick))(hl:out.length<=1000)(F:∀g∈out,g.length<=1000):
  Ok (cI (jq out) ((0:Int),out)) (fun x=>x.length=out.length∧∀(j:Nat)(h:j<x.length)(f:j<out.length),x[j].Perm out[j]∧x[j].Pairwise (fun a b=>db a b<=0)):=by
 refine Gi (fun s=>∃i:Nat,s.1=i∧i<=out.length∧s.2.length=out.length∧∀(j:Nat)(h:j<s.2.length)(f:j<out.length),s.2[j].Perm out[j]∧(j<i->s.2[j].Pairwise (fun a b=>db a b<=0))) (fun s=>((out.length:Int)-s.1).toNat) ?_ ⟨0,rfl,DR _,rfl,fun j h f=>⟨.refl _,fun h=>za⟩⟩
 rintro⟨s1,cur⟩ ⟨i,rfl,hi,hlen,hc⟩
 unfold jq
 dsimp only at hlen hc⊢
 refine Gl (fun k=>?_) (fun G=>?_)
 rotate_left
 ·exact Gt ⟨hlen,fun j h f=>⟨(hc j h f).1,(hc j h f).2 za⟩⟩
 have k:i<out.length:=by omega
 have q:i<cur.length:=by omega
 have u:atO (i:Int) (Int.toNat (i:Int))=some ():=by unfold atO;rw [if_pos rfl]
 obtain⟨hp, -⟩:=hc i q k
 have C:cur[i].length<=1000:=by rw [hp.length_eq];exact F _ (EJ k)
 obtain⟨m,D,e2,E⟩:=sort_at C
 rw [py (i:=i) rfl q,ze,sh za za,ze,u,ze,D,ze,w64 za za]
 refine Gk ⟨i+1,zc,za,by simpa using hlen,fun j h f=>?_⟩ zd
 simp only [Int.toNat_natCast,FU]at h⊢
 rw [List.getElem_set]
 by_cases r:i=j
 ·subst r
  rw [if_pos rfl]
  exact⟨e2.trans hp,fun _=>E⟩
 ·rw [if_neg r]
  exact⟨(hc j h f).1,fun H=>(hc j h f).2 za⟩
theorem rp:∀{x y:List (List Pick)},x.length=y.length->(∀(j:Nat)(h:j<x.length)(q:j<y.length),x[j].Perm y[j])->x.flatten.Perm y.flatten
 | [],[],_,_=>.refl _
 | [],_::_,h,_=>by simp at h
 |_::_,[],h,_=>by simp at h
 |g::x,k::y,h,hp=>by
  have f:=hp 0 zc zc
  have:=rp (x:=x) (y:=y) (by simpa using h) fun j h1 r=>hp (j+1) so so
  simpa using f.append this
structure fN(far:Int)(l:List Pick)(x:List (List Pick)):Prop where
 flat:∃s:List Pick,de l=some s∧s.length<=l.length∧s.Pairwise (fun a b=>db a b<0)∧(∀p,p∈s↔p∈l)∧x.flatten.Perm s
 ne:∀g∈x,g≠ []
 gap:x.Pairwise (Gap far)
 sorted:∀g∈x,g.Pairwise (fun a b=>db a b<0)
theorem pn(far:Int)(l:List Pick)(hl:l.length<=20)(hr:∀p∈l,cH p):Ok (bZ far l) (fN far l):=by
 unfold bZ
 obtain⟨s,N,e2,O,e4⟩:=oz (l:=l) za
 rw [N,ze]
 refine Gf (sstable_ok s za e2) (fun all E=>?_)
 have W:all.length=s.length:=E.1.length_eq
 refine Gf (l36_ok far all za (E.2.imp fun h=>lx_early h) fun p hp=>?_) (fun out D=>?_)
 ·have:=hr p ((O p).1 (E.1.mem_iff.1 hp))
  exact⟨this.2.1,by have:=this.2.2;omega⟩
 have f:out.flatten=all:=by rw [D.flat];simp
 have J:out.length<=1000:=by have:=len_le D.ne;rw [f]at this;omega
 refine Gf (l47_ok out J fun g C=>?_) (fun x hx=>?_)
 ·have h1:=(H9 C).length_le
  rw [f]at h1;omega
 obtain⟨K,r⟩:=hx
 have q:x.flatten.Perm s:=(rp K fun j h Q=>(r j h Q).1).trans (by rw [f];exact E.1)
 have I:s.Nodup:=e2.imp fun{a b}h e=>by
  subst e
  have:=cB.refl a
  omega
 refine Gq ⟨⟨s,N,za,e2,O,q⟩,fun g C=>?_,?_,fun g C=>?_⟩
 ·obtain⟨j,u,rfl⟩:=HS C
  have h1:=(r j u za).1
  intro e
  rw [e]at h1
  exact D.ne _ (EJ za) h1.nil_eq.symm
 ·rw [List.pairwise_iff_getElem]
  intro j k u hk H b Y a G
  have h1:=List.pairwise_iff_getElem.1 D.gap j k za za H
  exact h1 b ((r j u za).1.mem_iff.1 Y) a ((r k hk za).1.mem_iff.1 G)
 ·obtain⟨j,u,rfl⟩:=HS C
  have h1:=(r j u za).2
  have hn:x[j].Nodup:=(q.nodup_iff.2 I).sublist (H9 (EJ u))
  refine(h1.and hn).imp fun{a b}h=>?_
  obtain⟨T,U⟩:=h
  rcases IJ T with F|F
  ·exact F
  ·exact(U (jP F)).elim
end Go.Dw.Re
set_option maxRecDepth 100000
set_option maxHeartbeats 4000000
namespace Go.Dw.Re
open Go.Dw Go.Proofs
theorem qz{l:List Pick}(hl:l.length<=1000)(h:∀p∈l,cH p):gt l=some true:=by
 unfold gt fK gD
 have:Ok (cI (ed l) (0:Int)) (fun o=>o= .inl ()):=by
  refine Ok.upto l.length za (fun _=>True) trivial (fun i g h1 _=>?_)
  unfold ed
  refine Gl (fun f=>?_) (fun _=>Gt rfl)
  refine Gf (Gh za za) (fun p hp=>?_)
  unfold kc
  rw [ou (h p hp.1),ze,ze,if_neg zc,w64 za za]
  exact Gk ⟨⟨za,za⟩,trivial⟩ za
 rw [this.eq];rfl
end Go.Dw.Re
set_option maxRecDepth 100000
set_option maxHeartbeats 4000000
namespace Go.Dw.Re
open Go.Dw Go.Proofs
open Sd (ku dY dD)
noncomputable def usedE (s:ah) (p:Pick):Option az->aw×az×Bool
 |none=>(⟨⟨0,0,0⟩,0,0,0⟩,zEp,false)
 |some e=>if(((eI s.ac.bG s.ac.bj ⟨e.bV,p.bu,p.co,1⟩).getD (⟨0,0⟩,0)).2 != (0:Int))=true then(⟨⟨0,0,0⟩,0,0,0⟩,zEp,false)else(⟨e.bV,p.bu,p.co,1⟩,e,true)
theorem used_eq{s:ah}(hs:fb s){v:ae}(f:fq v){p:Pick}(hp:cH p):used s v p=usedE s p (nE v p.a7 p.bT):=by
 have h1:=(nV hs f hp).1
 unfold eH at h1
 rw [ou hp,ze,if_neg zc,At_eq f.lens (l9 f),ze]at h1
 cases h:nE v p.a7 p.bT with
 |none=>
  rw [h]at h1
  dsimp only at h1
  rw [if_pos zc]at h1
  exact(Ew h1).symm
 |some e=>
  rw [h]at h1
  dsimp only at h1
  rw [if_neg zc]at h1
  have he:=epAt_ok f h
  obtain⟨z,g, -⟩:=qA hs.tab hs.box (a:=⟨e.bV,p.bu,p.co,1⟩) (qm he hp)
  rw [g,ze]at h1
  show _=if(((eI s.ac.bG s.ac.bj ⟨e.bV,p.bu,p.co,1⟩).getD (⟨0,0⟩,0)).2 != (0:Int))=true then _ else _
  rw [g]
  simp only [F9]
  split at h1<;>rename_i hc
  ·rw [if_pos hc];exact(Ew h1).symm
  ·rw [if_neg hc];exact(Ew h1).symm
structure Alike(s:ah)(v w:ae)(p:Pick):Prop where
 ph:phU s w p=phU s v p
 us:(used s w p).2.2=(used s v p).2.2
 resp:(used s w p).2.1.bW=(used s v p).2.1.bW
theorem alike{s:ah}(hs:fb s){v w:ae}(u:fq v)(hw:fq w){p:Pick}(hp:cH p)(h:¬Chg v w p):Alike s v w p:=by
 have f:(nE v p.a7 p.bT).map epPR=(nE w p.a7 p.bT).map epPR:=Classical.not_not.1 h
 have k:=used_eq hs u hp;have e2:=used_eq hs hw hp
 have key:(used s w p).1=(used s v p).1∧(used s w p).2.2=(used s v p).2.2∧(used s w p).2.1.bW=(used s v p).2.1.bW:=by
  rw [k,e2]
  cases h1:nE v p.a7 p.bT with
  |none=>
   cases g:nE w p.a7 p.bT with
   |none=>exact⟨rfl,rfl,rfl⟩
   |some b=>rw [h1,g]at f;cases f
  |some a=>
   cases g:nE w p.a7 p.bT with
   |none=>rw [h1,g]at f;cases f
   |some b=>
    rw [h1,g]at f
    have j:epPR a=epPR b:=Ew f
    have q:a.bV=b.bV:=congrArg Prod.fst j
    have r:a.bW=b.bW:=congrArg Prod.snd j
    simp only [usedE,q]
    split
    ·exact⟨rfl,rfl,rfl⟩
    ·exact⟨rfl,rfl,r.symm⟩
 exact⟨key.1,key.2.1,key.2.2⟩
theorem sol_alike{s:ah}{v w:ae}{m:List Pick}(h:∀p∈m,Alike s v w p):sol s w m=sol s v m:=by
 have f:(mat s w m).fu=(mat s v m).fu:=HV fun p hp=>(h p hp).ph
 have e2:(mat s w m).kl.map (·.bW)=(mat s v m).kl.map (·.bW):=by
  show(m.map _).map _=(m.map _).map _
  rw [HW,HW]
  exact HV fun p hp=>(h p hp).resp
 have g:mat s w m=⟨(mat s v m).gN,(mat s v m).fu,(mat s w m).kl⟩:=by rw [<-f];rfl
 unfold sol
 rw [g,solve_resp e2]
theorem rnd_alike{s:ah}{v w:ae}{O:List Pick}(h:∀p∈O,Alike s v w p):mg s w O=mg s v O:=by
 have := pI (least := s.ac.cn.toNat) (win := oO (fun p => (phU s v p).bu) s.ac.ch) (mem := oV s.ac (phU s v)) (win' := oO (fun p => (phU s w p).bu) s.ac.ch) (mem' := oV s.ac (phU s w)) (f := fun p : Pick => p) O (fun _ _ _ _ h => h) (qo _ _ _) O.length O (List.Sublist.refl _) (fun k g =>
  ⟨winK_map k fun x j=>by rw [(h x (g.subset j)).ph],memK_map fun x j=>(h x (g.subset ((rC _ _ k).subset j))).ph⟩)
 unfold mg
 simpa using this
theorem ord_alike{s:ah}{v w:ae}{U:List Pick}(g:U.Nodup)(h:∀p∈U,Alike s v w p):iA s w U=iA s v U:=by
 have h1:(iA s w U).Pairwise fun x y=>rn s w x y<0:=eO (jH s w) (fun _ _=>nX) g
 have j:(iA s v U).Pairwise fun x y=>rn s v x y<0:=eO (jH s v) (fun _ _=>nX) g
 have m1:∀x,x∈iA s w U↔x∈U:=fun x=>(bY _ U).mem_iff
 have m2:∀x,x∈iA s v U↔x∈U:=fun x=>(bY _ U).mem_iff
 refine gm (jH s v) (h1.imp_of_mem fun{x y}k q f=>?_) j fun x=>by rw [m1,m2]
 unfold rn at f⊢
 rw [(h x ((m1 x).1 k)).ph,(h y ((m1 y).1 q)).ph]at f
 exact f
theorem found_alike{s:ah}(hs:fb s){v w:ae}{U:List Pick}(q:U.Pairwise fun x y=>db x y<0)(h:∀p∈U,Alike s v w p):fE s w U=fE s v U∧fR s w U=fR s v U:=by
 have j:=dX cB q
 have k:=ord_alike j h
 have e2:=rnd_alike (s:=s) (v:=v) (w:=w) (O:=iA s v U) fun p hp=>h p ((bY _ U).mem_iff.1 hp)
 refine⟨?_,by unfold fR;rw [k,e2]⟩
 unfold fE
 rw [k,e2]
 congr 1
 refine HV fun g r=>?_
 have f:∀p∈g,p∈U:=fun p hp=>(l8 hs (v:=v) q).mem_iff.1 (List.mem_append.2 (.inl ((H9 r).subset hp)))
 unfold evM
 rw [sol_alike (v:=v) fun p hp=>h p (f p ((bY _ g).mem_iff.1 hp))]
theorem usable_alike{s:ah}{v w:ae}{L:List Pick}(h:∀p∈L,Alike s v w p):bP s w L=bP s v L:=List.filter_congr fun p hp=>(h p hp).us
end Go.Dw.Re
set_option maxRecDepth 100000
set_option maxHeartbeats 4000000
namespace Go.Dw.Re
open Go.Dw Go.Proofs
open Sd (ku dY dD)
theorem eqK_eq(a b:Pick):oS a b=decide (a=b):=eqs a b
theorem mGet_put{κ β:Type} [DecidableEq κ] {eq:κ->κ->Bool}(he:∀a b,eq a b=decide (a=b))(k:κ)(v z:β)(k':κ):∀m:List (κ×β),u6 eq k' z (yC eq k v m)=if k'=k then v else u6 eq k' z m
 | []=>by simp [yC,u6,he]
 |e::r=>by
  have g:=mGet_put he k v z k' r
  unfold yC
  rw [he]
  by_cases h:k=e.1
  ·rw [if_pos (by simpa using h)]
   unfold u6
   rw [he,he]
   by_cases f:k'=k
   ·rw [if_pos (by simpa using f),if_pos f]
   ·rw [if_neg (by simpa using f),if_neg f,if_neg (by rw [<-h];simpa using f)]
  ·rw [if_neg (by simpa using h)]
   unfold u6
   rw [he,g]
   by_cases f:k'=e.1<;>by_cases j:k'=k<;>simp_all
abbrev home(p:Pick)(m:List (Pick×Int)):Int:=u6 oS p (0:Int) m
structure Home(X:List (List Pick))(m:List (Pick×Int)):Prop where
 at_:∀(j:Nat)(h:j<X.length)(p:Pick),p∈X[j]->home p m=j+1
 no:∀p,p∉X.flatten->home p m=0
theorem l25_ok(g:List Pick)(r:g.length<=1000)(i:Int)(hi:0<=i∧i<=1000)(m:List (Pick×Int)):
  Ok (cI (kw g i) ((0:Int),m)) (fun o=>o.1=i∧∀p,home p o.2=if p∈g then i+1 else home p m):=by
 refine Gi (fun s=>∃k:Nat,s.1=k∧k<=g.length∧∀p,home p s.2=if p∈g.take k then i+1 else home p m) (fun s=>((g.length:Int)-s.1).toNat) ?_ ⟨0,rfl,DR _,zc⟩
 rintro⟨s1,s2⟩ ⟨k,i0,i1,i2⟩
 simp only at i0 i1 i2
 subst i0
 unfold kw
 dsimp only
 refine Gl (fun q=>?_) (fun j=>?_)
 ·have hk:k<g.length:=by omega
  rw [py rfl hk,ze,w64 (n:=i+1) za za,w64 za za]
  refine Gk ⟨k+1,zc,za,fun p=>?_⟩ zd
  simp only
  unfold home at i2⊢
  rw [mGet_put eqK_eq,i2 p,rF hk]
  simp only [FV,FW]
  by_cases e:p=g[k]<;>by_cases f:p∈g.take k<;>simp [e,f]
 ·have:k=g.length:=by omega
  subst this
  exact Gt ⟨rfl,by simpa using i2⟩
theorem l27_ok(X:List (List Pick))(H:X.length<=1000)(u:∀g∈X,g.length<=1000)(F:X.flatten.Nodup):Ok (cI (kx X) ((0:Int),[])) (Home X):=by
 obtain⟨-,r⟩:=List.pairwise_flatten.1 F
 refine Gi (fun s=>∃i:Nat,s.1=i∧i<=X.length∧(∀(j:Nat)(h:j<X.length)(p:Pick),j<i->p∈X[j]->home p s.2=j+1)∧∀p,p∉(X.take i).flatten->home p s.2=0) (fun s=>((X.length:Int)-s.1).toNat) ?_ ⟨0,rfl,DR _,fun j h p D=>za,fun p _=>rfl⟩
 rintro⟨s1,s2⟩ ⟨i,i0,i1,i2,i3⟩
 simp only at i0 i1 i2 i3
 subst i0
 unfold kx
 dsimp only
 refine Gl (fun E=>?_) (fun C=>?_)
 ·have hk:i<X.length:=by omega
  rw [py rfl hk,ze]
  refine Gf (l25_ok X[i] (u _ (EJ hk)) i ⟨za,za⟩ s2) (fun o ho=>?_)
  obtain⟨G,k⟩:=ho
  rw [G,w64 za za]
  refine Gk ⟨i+1,zc,za,fun j h p D hp=>?_,fun p hp=>?_⟩ zd
  ·simp only
   rw [k]
   by_cases e:j=i
   ·subst e
    rw [if_pos hp]
   ·have f:j<i:=by omega
    have:=List.pairwise_iff_getElem.1 r j i h hk f
    rw [if_neg (fun q=>this p hp p q rfl),i2 j h p f hp]
  ·simp only
   rw [rF hk,Hy,FV]at hp
   have h1:p∉X[i]:=fun h=>hp (.inr (by simpa using h))
   rw [k,if_neg h1]
   exact i3 p fun h=>hp (.inl h)
 ·have:i=X.length:=by omega
  subst this
  exact Gt ⟨fun j h p hp=>i2 j h p h hp,by simpa using i3⟩
def anyB(m:List (Pick×Int))(a b:ae)(k:Int)(g:List Pick):Bool:=g.any fun p=>decide (home p m≠k)||decide (Chg a b p)
def frB(X:List (List Pick))(m:List (Pick×Int))(a b:ae)(g:List Pick):Bool:=
 decide (home (g.headD ⟨⟨[],[],[],[]⟩,0,0,0,0,0⟩) m≠0)&&(decide ((X.getD (home (g.headD ⟨⟨[],[],[],[]⟩,0,0,0,0,0⟩) m-1).toNat []).length=g.length)&& !anyB m a b (home (g.headD ⟨⟨[],[],[],[]⟩,0,0,0,0,0⟩) m) g)
def gg(X:List (List Pick))(m:List (Pick×Int))(a b:ae)(Y:List (List Pick))(n:Nat):List Int:=((DO n).filter fun j=> !frB X m a b (Y.getD j [])).map fun j:Nat=>(j:Int)
structure IV(v:ae):Prop where
 len:oG v
 val:cO v=some true
theorem fq.iv{v:ae}(h:fq v):IV v:=⟨h.lens,l9 h⟩
theorem contains_eq(g:List Pick)(D:g.length<=1000)(k:Int){a b:ae}(q:IV a)(r:IV b)(m:List (Pick×Int)):dR g k a b m=some (anyB m a b k g):=by
 unfold dR ge
 have h1:∀(i:Nat)(hi:i<g.length),cN g k a b m (i:Int)=if(decide (home g[i] m≠k)||decide (Chg a b g[i]))=true then some (.stop (.inr (i:Int)))else some (.next ((i+1:Nat):Int)):=by
  intro i hi
  unfold cN
  rw [if_pos so,py rfl hi,ze,w64 za za]
  unfold gG
  rw [Changed_eq q.len r.len q.val r.val]
  by_cases j:home g[i] m=k
  ·rw [if_neg (by simpa using j)]
   by_cases e2:Chg a b g[i]<;>simp [j,e2]
  ·rw [if_pos (by simpa using j)]
   simp [j]
 have u:cN g k a b m (g.length:Nat)=some (.stop (.inl ())):=by
  unfold cN
  rw [if_neg zc]
 rcases qQ g (p:=fun x=>decide (home x m≠k)||decide (Chg a b x)) (f:=fun i _=>(i:Int)) h1 u with⟨e,h⟩|⟨i,hi,e,hp,h⟩
 ·rw [e]
  have:anyB m a b k g=false:=by
   unfold anyB
   rw [Hq]
   intro x C
   rw [h x C];simp
  rw [this];rfl
 ·rw [e]
  have:anyB m a b k g=true:=by
   unfold anyB
   rw [List.any_eq_true]
   exact⟨g[i],EJ hi,hp⟩
  rw [this]
  simp
theorem l45_ok(X Y:List (List Pick))(m:List (Pick×Int)){a b:ae}(T:IV a)(U:IV b)(hX:X.length<=1000)(D:∀g∈X,g.length<=1000)(hm:Home X m)(hY:Y.length<=1000)(W:∀g∈Y,g≠ []∧g.length<=1000):
  cI (ky Y m X a b) ((0:Int),[])=some (gg X m a b Y Y.length):=by
 refine Gg (Gi (fun s=>∃i:Nat,s=((i:Int),gg X m a b Y i)∧i<=Y.length) (fun s=>((Y.length:Int)-s.1).toNat) ?_ ⟨0,rfl,DR _⟩)
 rintro s ⟨i,rfl,hi⟩
 unfold ky
 dsimp only
 refine Gl (fun a9=>?_) (fun a6=>?_)
 rotate_left
 ·have:i=Y.length:=by omega
  subst this
  exact Gt rfl
 have hk:i<Y.length:=by omega
 obtain⟨J,F⟩:=W _ (EJ hk)
 have b0:(gg X m a b Y i).length<=1000:=by
  unfold gg
  have:=HT (fun j=> !frB X m a b (Y.getD j [])) (DO i)
  rw [ID]at this
  rw [Ey];omega
 have q:gg X m a b Y (i+1)=gg X m a b Y i++if frB X m a b Y[i]=true then []else [(i:Int)]:=by
  unfold gg
  rw [IG,List.filter_append,F2]
  congr 1
  have:Y.getD i []=Y[i]:=by rw [FO,zf hk];rfl
  simp only [List.filter_cons,List.filter_nil,this]
  cases frB X m a b Y[i]<;>simp
 have r:frB X m a b Y[i]=false->Ok ((rR (gg X m a b Y i) [(i:Int)] 8).bind fun N=>some (.next ((Fb .i64 ((i:Int)+(1:Int))),N))) (Ok.S (fun s=>∃i:Nat,s=((i:Int),gg X m a b Y i)∧i<=Y.length) (fun s=>((Y.length:Int)-s.1).toNat) (fun o=>o=gg X m a b Y Y.length) ((i:Int),gg X m a b Y i)):=fun h=>by
  rw [ec (by simp only [D4,D5];omega),ze,w64 za za]
  exact Gk ⟨i+1,by rw [q,h];simp,za⟩ zd
 rw [py rfl hk,ze]
 have f:frB X m a b Y[i]=(decide (home (Y[i].headD ⟨⟨[],[],[],[]⟩,0,0,0,0,0⟩) m≠0)&&(decide ((X.getD (home (Y[i].headD ⟨⟨[],[],[],[]⟩,0,0,0,0,0⟩) m-1).toNat []).length=Y[i].length)&& !anyB m a b (home (Y[i].headD ⟨⟨[],[],[],[]⟩,0,0,0,0,0⟩) m) Y[i])):=rfl
 generalize Y[i]=g at*
 rcases g with _|⟨k,O⟩
 ·exact(J rfl).elim
 rw [show oc (k::O) (0:Int)=some k from rfl,ze]
 rw [IC]at f
 generalize a5:k::O=g at*
 show Ok (if(home k m==(0:Int))=true then _ else _) _
 refine Gu (fun u=>r (by rw [f];simp [u])) (fun u=>?_)
 have G:k∈X.flatten:=by
  apply HA
  intro h
  exact u (hm.no k h)
 obtain⟨x,Q,K⟩:=List.mem_flatten.1 G
 obtain⟨j,H,rfl⟩:=HS Q
 have I:=hm.at_ j H k K
 have b1:=D _ Q
 show Ok ((oc X (Fb .i64 (home k m-1))).bind _) _
 have E:X.getD (home k m-1).toNat []=X[j]:=by
  rw [I,show((j:Int)+1-1).toNat=j by omega,FO,zf H];rfl
 rw [E]at f
 rw [w64 za za,py (i:=j) za H,ze]
 refine Ok.tk (fun h1=>r ?_) (fun h1=>?_)
 ·rw [f,decide_eq_false (show ¬X[j].length=g.length by omega)];simp
 rw [show u6 oS k (0:Int) m=home k m from rfl,contains_eq g F _ T U,ze]
 refine Ok.zL (fun C=>r ?_) (fun C=>?_)
 ·rw [f,C];simp
 ·rw [w64 za za]
  refine Gk ⟨i+1,?_,za⟩ zd
  have:frB X m a b g=true:=by
   rw [f,C,decide_eq_true (show home k m≠0 from u),decide_eq_true (show X[j].length=g.length by omega)];rfl
  rw [q,this];simp
theorem fN.pT{n:Int}{l:List Pick}{X:List (List Pick)}(h:fN n l X)(hl:l.length<=1000):X.length<=1000∧(∀g∈X,g≠ []∧g.length<=1000)∧X.flatten.Nodup∧∀p,p∈X.flatten↔p∈l:=by
 obtain⟨s,u,e2,k,q,f⟩:=h.flat
 have r:X.flatten.length=s.length:=f.length_eq
 refine⟨by have:=len_le h.ne;omega,fun g j=>⟨h.ne g j,by have:=(H9 j).length_le;omega⟩,?_,fun p=>f.mem_iff.trans (q p)⟩
 refine f.nodup_iff.2 (k.imp fun{a b}h e=>?_)
 subst e
 have:=cB.refl a
 omega
theorem Stale_ok(n:Int)(N:0<=n)(h1:n<=1099511627776)(l q:List Pick)(hl:l.length<=20)(F:∀p∈l,cH p)(C:q.length<=20)(f:∀p∈q,cH p){a b:ae}(D:IV a)(E:IV b):
  Ok (gr n l q a b) (fun r=>r.2=0∧∃X Y m,bZ n l=some X∧bZ n q=some Y∧fN n l X∧fN n q Y∧Home X m∧r.1=gg X m a b Y Y.length):=by
 unfold gr
 refine Gl (fun _=>za) (fun _=>Gl (fun _=>za) (fun _=>?_))
 rw [qz za F,ze,if_neg zc,qz za f,ze,if_neg zc,D.val,ze,if_neg zc,E.val,ze,if_neg zc]
 refine Gf (pn n l hl F).name fun X j=>?_
 obtain⟨G,H,I,O⟩:=j.2.pT za
 refine Gf (l27_ok X G (fun g u=>(H g u).2) I) fun m hm=>?_
 refine Gf (pn n q C f).name fun Y k=>?_
 obtain⟨J,K,Q,T⟩:=k.2.pT za
 rw [l45_ok X Y m D E G (fun g u=>(H g u).2) hm J K,ze]
 exact Gq ⟨rfl,X,Y,m,j.1,k.1,j.2,k.2,hm,rfl⟩
theorem mem_staleL{X Y:List (List Pick)}{m:List (Pick×Int)}{a b:ae}{i:Nat}(hi:i<Y.length)(h:frB X m a b Y[i]=false):(i:Int)∈gg X m a b Y Y.length:=by
 unfold gg
 refine List.mem_map.2 ⟨i,List.mem_filter.2 ⟨List.mem_range.2 hi,?_⟩,rfl⟩
 have:Y.getD i []=Y[i]:=by rw [FO,zf hi];rfl
 rw [this,h];rfl
theorem staleL_nil{X Y:List (List Pick)}{m:List (Pick×Int)}{a b:ae}(h:∀(i:Nat)(hi:i<Y.length),frB X m a b Y[i]=true):gg X m a b Y Y.length=[]:=by
 unfold gg
 rw [List.filter_eq_nil_iff.2]
 ·rfl
 ·intro j f
  have f:=List.mem_range.1 f
  have:Y.getD j []=Y[j]:=by rw [FO,zf f];rfl
  rw [this,h j f];simp
theorem same_fresh{X:List (List Pick)}{m:List (Pick×Int)}{a:ae}(hm:Home X m)(f:∀g∈X,g≠ [])(i:Nat)(hi:i<X.length):frB X m a a X[i]=true:=by
 have f:=f _ (EJ hi)
 have j:=hm.at_ i hi
 unfold frB
 obtain⟨q,u,k⟩:=Ht f
 have r:X[i].headD ⟨⟨[],[],[],[]⟩,0,0,0,0,0⟩=q:=by rw [k];rfl
 rw [r,j q (by rw [k];simp),show((i:Int)+1-1).toNat=i by omega,FO,zf hi,F9]
 have:anyB m a a ((i:Int)+1) X[i]=false:=by
  unfold anyB
  rw [Hq]
  intro p hp
  rw [j p hp]
  have:¬Chg a a p:=fun h=>h rfl
  simp [this]
 rw [this,decide_eq_true rfl,decide_eq_true (show((i:Int)+1)≠0 by omega)];rfl
theorem replaced_ok(l o:List Pick)(hl:l.length<=100)(ho:o.length<=100)(h1:∀p∈l,cH p)(u:∀p∈o,cH p)(d:Src)(C:cv d):
  Ok (mm l o d) (fun r=>(r.1.length<=l.length+1∧∀p∈r.1,cH p)∧cv r.2):=by
 unfold mm
 refine Gf (P:=fun x:List Int×Int×List Pick=>cv ⟨x.1,x.2.1⟩∧x.2.2.length<=l.length∧∀p∈x.2.2,cH p) (Gi (fun s:Int×List Int×Int×List Pick=>(0<=s.1∧s.1<=l.length)∧cv ⟨s.2.1,s.2.2.1⟩∧s.2.2.2.length<=s.1.toNat∧∀p∈s.2.2.2,cH p) (fun s=>((l.length:Int)-s.1).toNat) ?_ ⟨⟨GB _,zc⟩,C,zc,zc⟩) ?_
 ·rintro⟨s1,s2,E,F⟩ ⟨⟨i0,i1⟩,i2,i3,i4⟩
  simp only at i0 i1 i2 i3 i4
  unfold mX
  dsimp only
  refine Gl (fun g=>?_) (fun _=>Gt ⟨i2,zd,i4⟩)
  refine Gf (dZ _ _ i2 za za) (fun D g1=>?_)
  rw [w64 za za]
  refine Gl (fun _=>?_) (fun _=>Gk ⟨⟨zd,zd⟩,g1.2.2,zd,i4⟩ zd)
  refine Gf (Gh i0 za) (fun x j=>?_)
  refine Gf (Ge (by simp only [D4,D5];omega)) (fun y k=>?_)
  subst k
  refine Gk ⟨⟨zd,zd⟩,g1.2.2,by simp only [Ec,D4,D5];omega,fun p hp=>?_⟩ zd
  simp only [FV,FW]at hp
  rcases hp with hp|rfl
  ·exact i4 p hp
  ·exact h1 _ j.1
 ·rintro⟨G,H,I⟩ ⟨q,e2,f⟩
  simp only at q e2 f
  refine Gf (dZ _ _ q za za) (fun D g1=>?_)
  refine Gu (fun _=>?_) (fun _=>Gq ⟨⟨zd,f⟩,g1.2.2⟩)
  refine Gl (fun g=>?_) (fun _=>Gq ⟨⟨zd,f⟩,g1.2.2⟩)
  refine Gf (dZ _ _ g1.2.2 za za) (fun J g2=>?_)
  refine Gf (Gh g2.1 g2.2.1) (fun x j=>?_)
  refine Gf (Ge (by simp only [D4,D5];omega)) (fun y k=>?_)
  subst k
  refine Gq ⟨⟨by simp only [Ec,D4,D5];omega,fun p hp=>?_⟩,g2.2.2⟩
  simp only [FV,FW]at hp
  rcases hp with hp|rfl
  ·exact f p hp
  ·exact u _ j.1
end Go.Dw.Re
set_option maxRecDepth 100000
set_option maxHeartbeats 4000000
namespace Go.Dw.Re
open Go.Dw Go.Proofs
open Sd (ku dY dD)
theorem at_self(n:Int):atO n n.toNat=some ():=by unfold atO;rw [if_pos rfl]
theorem setF_self{α:Type}{l:List α}{i:Nat}{f:α->α}(h:∀x,l[i]? =some x->f x=x):setF l i f=l:=by
 unfold setF
 cases e:l[i]? with
 |none=>rfl
 |some x=>
  dsimp only
  rw [h x e]
  obtain⟨hk,g⟩:=List.getElem?_eq_some_iff.1 e
  conv=>lhs;rw [<-g]
  exact G9 hk
theorem l53_at{f:List bh}(h1:f.length<=1000)(C:∀x∈f,x.eC.length<=1000){q:List az}{g:Int}(hs:0<=g∧g<q.length)(j:Int)(k:List aj):
  cI (jy f q g j k) ((0:Int),f)=some (j,g,k,f):=by
 refine Gg (Gi (fun s=>0<=s.1∧s.1<=f.length∧s.2=f) (fun s=>((f.length:Int)-s.1).toNat) ?_ ⟨GB _,zc,rfl⟩)
 rintro⟨E,F⟩ ⟨i0,i1,i2⟩
 simp only at i0 i1 i2
 subst i2
 unfold jy
 dsimp only
 refine Gl (fun D=>?_) (fun _=>Gt rfl)
 rw [sh za za,ze]
 refine Gf (Gh za za) (fun x r=>?_)
 refine Gf (Gh za za) (fun _ _=>?_)
 have:=C x r.1
 rw [sh hs.1 hs.2,ze,at_self,ze,gz za,ze,ze,at_self,ze,w64 za za]
 refine Gk ⟨zd,zd,?_⟩ zd
 refine setF_self fun z u=>?_
 obtain rfl:x=z:=by rw [r.2]at u;exact Ew u
 rfl
theorem l56_at{f:List az}(h1:f.length<=1000)(u:∀e∈f,pc e.bW)(g:Int)(j:List aj):
  cI (jz f) (g,(0:Int),j,f)=some (g,j,f):=by
 refine Gg (Gi (fun s=>s.1=g∧(0<=s.2.1∧s.2.1<=f.length)∧s.2.2.1=j∧s.2.2.2=f) (fun s=>((f.length:Int)-s.2.1).toNat) ?_ ⟨rfl,⟨GB _,zc⟩,rfl,rfl⟩)
 rintro⟨g,E,j,F⟩ ⟨i0,⟨i1,i2⟩,i3,i4⟩
 simp only at i0 i1 i2 i3 i4
 subst i0 i3 i4
 unfold jz
 dsimp only
 refine Gl (fun k=>?_) (fun _=>Gt rfl)
 refine Gf (Gh za za) (fun x q=>?_)
 obtain⟨C,D⟩:=u x q.1
 rw [sh za za,ze,at_self,ze,gz za,ze,ze,ze,ze,ze,l53_at C D ⟨i1,k⟩,ze]
 dsimp only
 rw [w64 za za]
 refine Gk ⟨rfl,⟨zd,zd⟩,rfl,?_⟩ zd
 refine setF_self fun z r=>?_
 obtain rfl:x=z:=by rw [q.2]at r;exact Ew r
 rfl
theorem l59_at{v:ae}(f:oG v):cI (jA v) ((0:Int),[])=some v.a8:=by
 have hl:=f.len
 refine Gg (Gi (fun s=>∃i:Nat,s=((i:Int),v.a8.take i)∧i<=v.a8.length) (fun s=>((v.a8.length:Int)-s.1).toNat) ?_ ⟨0,rfl,DR _⟩)
 rintro s ⟨i,rfl,hi⟩
 unfold jA
 dsimp only
 refine Gl (fun q=>?_) (fun k=>?_)
 rotate_left
 ·have:i=v.a8.length:=by omega
  subst this
  exact Gt (by rw [Ga])
 have hk:i<v.a8.length:=by omega
 obtain⟨g,j⟩:=f.all _ (EJ hk)
 rw [py rfl hk,ze,gz za,ze,l56_at g j,ze]
 dsimp only
 rw [ec (by simp only [D4,D5,E1];omega),ze,w64 za za]
 refine Gk ⟨i+1,?_,za⟩ zd
 rw [rF hk];rfl
def TabLen(t:bg):Prop:=t.bt.length<=1000∧t.bd.length<=1000
theorem progress_at{s:ah}(h1:TabLen s.ac.bG)(f:TabLen s.bK.bB){v:ae}(g:oG v):fk s v=some ⟨s,v,[]⟩:=by
 obtain⟨a1,a2⟩:=h1
 obtain⟨j,k⟩:=f
 unfold fk
 rw [gz za,ze,gz za,ze,gz za,ze,gz za,ze,l59_at g,ze]
theorem fb.tabs{s:ah}(h:fb s):TabLen s.ac.bG∧TabLen s.bK.bB:=by
 have a:=h.tab.len;have b:=h.tab.same;have c:=h.cor.len;have d:=h.cor.same
 exact⟨⟨za,za⟩,⟨za,za⟩⟩
structure BatLen(b:bq):Prop where
 picks:b.da.length<=1000
 left:b.pL.length<=1000
 events:b.gH.length<=1000
 each:∀e∈b.gH,e.b7.da.length<=1000
theorem copied_b{b:bq}(h:BatLen b):jc b=some b:=by
 obtain⟨h1,r,u,j⟩:=h
 unfold jc
 rw [gz za,ze,gz za,ze,gz za,ze]
 have:cI (iu b.gH) ((0:Int),b.gH)=some b.gH:=by
  refine Gg (Gi (fun s=>0<=s.1∧s.1<=b.gH.length∧s.2=b.gH) (fun s=>((b.gH.length:Int)-s.1).toNat) ?_ ⟨GB _,zc,rfl⟩)
  rintro⟨C,D⟩ ⟨i0,i1,i2⟩
  simp only at i0 i1 i2
  subst i2
  unfold iu
  dsimp only
  refine Gl (fun k=>?_) (fun _=>Gt rfl)
  rw [sh za za,ze]
  refine Gf (Gh za za) (fun x f=>?_)
  have:=j x f.1
  rw [gz za,ze,ze]
  refine Gf (Gj za za) (fun y q=>?_)
  obtain⟨z,g,rfl⟩:=q
  obtain rfl:x=z:=by rw [f.2]at g;exact Ew g
  rw [w64 za za]
  refine Gk ⟨zd,zd,?_⟩ zd
  obtain⟨hk,e⟩:=List.getElem?_eq_some_iff.1 f.2
  simp only
  conv=>lhs;rw [<-e]
  exact G9 hk
 rw [this,ze]
noncomputable def FB (s:ah) (v:ae) (g:List Pick):bq:=⟨g,fE s v (bP s v g),fR s v (bP s v g)⟩
structure Gp(g:List Pick):Prop where
 srt:g.Pairwise fun x y=>db x y<0
 len:g.length<=19
 ok:∀p∈g,cH p
theorem find_g{s:ah}(hs:fb s){v:ae}(k:fq v){g:List Pick}(j:Gp g):kz s v g=some (fE s v (bP s v g),fR s v (bP s v g),0)∧BatLen (FB s v g):=by
 have hl:=j.len
 obtain⟨L,e,h1,u,C,f,q,D,r⟩:=find_ok hs k (l:=g) za j.ok
 rw [qn j.srt za]at e
 obtain rfl:=Ew e
 refine⟨r,by show g.length<=1000;omega,?_,?_,fun ev he=>?_⟩
 ·have:=fR_len hs (v:=v) f
  show(fR s v (bP s v g)).length<=1000
  omega
 ·have:=fE_len hs (v:=v) f
  show(fE s v (bP s v g)).length<=1000
  omega
 ·obtain⟨m,hm,rfl⟩:=fE_mem.1 he
  have:=pV hs k f q za hm
  rw [this.picks,dW]
  have:=this.len
  omega
theorem found_g{s:ah}(hs:fb s){v:ae}(j:fq v){g:List Pick}(f:Gp g):jd s v g=some (FB s v g,0):=by
 have hl:=f.len
 unfold jd
 rw [(find_g hs j f).1,ze,if_neg zc,gz za]
 rfl
theorem fN.gp{n:Int}{l:List Pick}{X:List (List Pick)}(h:fN n l X)(hl:l.length<=19)(hp:∀p∈l,cH p):∀g∈X,Gp g:=fun g j=>by
 obtain⟨s,r,e2,u,k,f⟩:=h.flat
 have hs:=H9 j
 have:=f.length_eq
 have:=hs.length_le
 exact⟨h.sorted g j,za,fun p q=>hp p ((k p).1 (f.mem_iff.1 (hs.subset q)))⟩
noncomputable def PG (s:ah) (v:ae) (X:List (List Pick)):av:=⟨s,v,X.map (FB s v)⟩
theorem asked_at{s:ah}(hs:fb s){v:ae}(g:IV v){l:List Pick}(hl:l.length<=20)(hp:∀p∈l,cH p){X:List (List Pick)}(f:bZ s.ac.ch l=some X):gW s v l=some (X,0):=by
 have h1:=hs.span
 unfold gW
 rw [qy hs,ze,if_neg zc,g.val,ze,if_neg zc]
 unfold gA
 rw [if_neg so,if_neg so,qz za hp,ze,if_neg zc,f]
 rfl
theorem New_at{s:ah}(hs:fb s){v:ae}(g:fq v){l:List Pick}(hl:l.length<=19)(hp:∀p∈l,cH p):
  ∃X,bZ s.ac.ch l=some X∧fN s.ac.ch l X∧fw s v l=some (PG s v X,0):=by
 obtain⟨X,j,f⟩:=pn s.ac.ch l za hp
 refine⟨X,j,f,?_⟩
 obtain⟨u,C,D,E⟩:=f.pT za
 have k:=f.gp hl hp
 unfold fw
 rw [asked_at hs g.iv za hp j,ze,if_neg zc,progress_at hs.tabs.1 hs.tabs.2 g.lens,ze]
 have:cI (mK (X,(0:Int)) s v) ((0:Int),[])=some (.inl (X.map (FB s v))):=by
  refine Gg (Gi (fun t=>∃i:Nat,t=((i:Int),(X.take i).map (FB s v))∧i<=X.length) (fun t=>((X.length:Int)-t.1).toNat) ?_ ⟨0,rfl,DR _⟩)
  rintro t ⟨i,rfl,hi⟩
  unfold mK
  dsimp only
  refine Gl (fun r=>?_) (fun q=>?_)
  rotate_left
  ·have:i=X.length:=by omega
   subst this
   exact Gt (by rw [Ga])
  have hk:i<X.length:=by omega
  rw [py rfl hk,ze,found_g hs g (k _ (EJ hk)),ze,if_neg zc]
  rw [ec (by simp only [D4,D5,Ey,E1];omega),ze,w64 za za]
  refine Gk ⟨i+1,?_,za⟩ zd
  rw [rF hk,F2];rfl
 rw [this,ze]
 rfl
theorem gather_at'{s:ah}{v:ae}{X:List (List Pick)}(h1:X.length<=1000)(u:X.flatten.length<=1000):cI (fx (PG s v X)) ((0:Int),[])=some X.flatten:=by
 have g:∀i,((X.take i).flatten).length<=X.flatten.length:=fun i=>by
  conv=>rhs;rw [<-He i X]
  rw [Hy,Ec];omega
 refine Gg (Gi (fun t=>∃i:Nat,t=((i:Int),(X.take i).flatten)∧i<=X.length) (fun t=>((X.length:Int)-t.1).toNat) ?_ ⟨0,rfl,DR _⟩)
 rintro t ⟨i,rfl,hi⟩
 unfold fx
 have hlen:(PG s v X).bU.length=X.length:=Ey ..
 dsimp only
 rw [hlen]
 refine Gl (fun r=>?_) (fun q=>?_)
 rotate_left
 ·have:i=X.length:=by omega
  subst this
  exact Gt (by rw [Ga])
 have hk:i<X.length:=by omega
 have f:i<(PG s v X).bU.length:=by omega
 have k:(PG s v X).bU[i]'f=FB s v X[i]:=G3 ..
 have j:=g (i+1)
 rw [rF hk,Hy,Ec]at j
 simp only [HR,Hz,Ea]at j
 rw [py rfl f,ze,k]
 show Ok ((rR (X.take i).flatten X[i] 104).bind _) _
 rw [ec za,ze,w64 za za]
 refine Gk ⟨i+1,?_,za⟩ zd
 rw [rF hk,Hy];simp
theorem Picks_at{s:ah}{v:ae}{n:Int}{l:List Pick}{X:List (List Pick)}(hl:l.length<=20)(f:fN n l X):gV (PG s v X)=de l:=by
 obtain⟨C,E,F,D⟩:=f.pT za
 obtain⟨t,g,e2,j,k,q⟩:=f.flat
 have u:=q.length_eq
 unfold gV kd
 rw [gather_at' C za,ze]
 obtain⟨r,f1,f2,f3,f4⟩:=oz (l:=X.flatten) za
 have:r=t:=fy f2 j fun p=>by rw [f3,D,k]
 rw [f1,g,this]
 rfl
end Go.Dw.Re
set_option maxRecDepth 100000
set_option maxHeartbeats 4000000
namespace Go.Dw.Re
open Go.Dw Go.Proofs Go.Lib
open Sd (ku dY dD)
def numV(l:List UInt8):Nat:=l.foldl (fun a c=>a*10+(c.toNat-48)) 0
theorem dig_toNat{d:Nat}(h:d<10):(UInt8.ofNat (48+d)).toNat=48+d:=by
 rw [UInt8.toNat_ofNat']
 exact Nat.mod_eq_of_lt za
theorem dec_at(u:Nat):numV (decDigits u)=u∧∀c∈decDigits u,48<=c.toNat∧c.toNat<=57:=by
 induction u using Nat.strongRecOn with
 |ind u g=>
  rw [decDigits]
  split
  ·rename_i h
   have e:=dig_toNat h
   refine⟨?_,fun c hc=>?_⟩
   ·show 0*10+((UInt8.ofNat (48+u)).toNat-48)=u
    rw [e];omega
   ·rw [FW]at hc
    subst hc
    rw [e];omega
  ·rename_i h
   have e:=dig_toNat (d:=u%10) za
   obtain⟨h1,f⟩:=g (u / 10) za
   refine⟨?_,fun c hc=>?_⟩
   ·unfold numV at h1⊢
    rw [List.foldl_append,h1]
    show u / 10*10+((UInt8.ofNat (48+u%10)).toNat-48)=u
    rw [e];omega
   ·rcases List.mem_append.1 hc with hc|hc
    ·exact f c hc
    ·rw [FW]at hc
     subst hc
     rw [e];omega
theorem dec_inj{u v:Nat}(h:decDigits u=decDigits v):u=v:=by rw [<-(dec_at u).1,h,(dec_at v).1]
theorem dec_minus{u v:Nat}(h:(45:UInt8)::decDigits u=decDigits v):False:=by
 have:=(dec_at v).2 45 (by rw [<-h];simp)
 have e:(45:UInt8).toNat=45:=rfl
 omega
theorem pW{n m:Int}(h:itoa n=itoa m):n=m:=by
 unfold itoa at h
 split at h<;>split at h
 ·have:=dec_inj (List.cons.inj h).2
  omega
 ·exact(dec_minus h).elim
 ·exact(dec_minus h.symm).elim
 ·have:=dec_inj h
  omega
theorem lG{n:Int}{c:UInt8}(hc:c.toNat<45):c∉itoa n:=by
 intro h
 unfold itoa at h
 split at h
 ·rcases List.mem_cons.1 h with rfl|h
  ·have e:(45:UInt8).toNat=45:=rfl
   omega
  ·have:=(dec_at _).2 c h;omega
 ·have:=(dec_at _).2 c h;omega
theorem nw{c:UInt8}:∀{a f r g:List UInt8},c∉a->c∉f->a++c::r=f++c::g->a=f∧r=g
 | [],[],_,_,_,_,h=>⟨rfl,by simpa using h⟩
 | [],x::f,r,g,_,j,h=>by
  simp only [D8,FN,List.cons.injEq]at h
  exact(j (by rw [h.1];simp)).elim
 |x::a,[],_,_,h1,_,h=>by
  simp only [D8,FN,List.cons.injEq]at h
  exact(h1 (by rw [<-h.1];simp)).elim
 |x::a,y::f,r,g,h1,j,h=>by
  simp only [FN,List.cons.injEq]at h
  obtain⟨rfl,h⟩:=h
  obtain⟨rfl,e⟩:=nw (fun h=>h1 (by simp [h])) (fun h=>j (by simp [h])) h
  exact⟨rfl,e⟩
theorem oC{s:List UInt8}{lo hi:Int}(h:Sq.mq s lo hi=true){c:UInt8}(hc:c.toNat<48):c∉s:=by
 unfold Sq.mq at h
 rw [EE]at h
 intro hm
 have:=List.all_eq_true.1 h.1 c hm
 unfold Sq.qW at this
 simp at this
 omega
theorem ro{s:List UInt8}{lo hi:Int}(h:Sq.mq s lo hi=true):(s.length:Int)<=hi:=by
 unfold Sq.mq at h
 simp at h
 omega
theorem sid_codes{x:Sid}(h:re x):Sq.mq x.bI 1 2=true∧Sq.mq x.bw 1 5=true∧Sq.mq x.bc 0 2=true∧Sq.mq x.bL 3 3=true:=by
 unfold re Sq.pK at h
 simp only [EE]at h
 exact⟨h.1,h.2.1,h.2.2.1,h.2.2.2.2⟩
theorem keyP_eq(p:Pick)(R:List UInt8):pY p++R=p.a7.bI++46::(p.a7.bw++46::(p.a7.bc++46::(p.a7.bL++32::(itoa p.bT++32::(itoa p.bu++32::(itoa p.co++32::(itoa p.bH++32::(itoa p.bN++10::R)))))))):=by
 simp [pY,join,List.intercalate,List.intersperse]
theorem key_cons{p q:Pick}(hp:cH p)(J:cH q){R u:List UInt8}(h:pY p++R=pY q++u):p=q∧R=u:=by
 obtain⟨a1,a2,a3,a4⟩:=sid_codes hp.1
 obtain⟨F,G,H,I⟩:=sid_codes J.1
 have n46:(46:UInt8).toNat<48:=by decide
 have n32:(32:UInt8).toNat<48:=by decide
 have m32:(32:UInt8).toNat<45:=by decide
 have m10:(10:UInt8).toNat<45:=by decide
 rw [keyP_eq,keyP_eq]at h
 obtain⟨C,h⟩:=nw (oC a1 n46) (oC F n46) h
 obtain⟨e2,h⟩:=nw (oC a2 n46) (oC G n46) h
 obtain⟨D,h⟩:=nw (oC a3 n46) (oC H n46) h
 obtain⟨E,h⟩:=nw (oC a4 n32) (oC I n32) h
 obtain⟨f,h⟩:=nw (lG m32) (lG m32) h
 obtain⟨g,h⟩:=nw (lG m32) (lG m32) h
 obtain⟨j,h⟩:=nw (lG m32) (lG m32) h
 obtain⟨k,h⟩:=nw (lG m32) (lG m32) h
 obtain⟨r,h⟩:=nw (lG m10) (lG m10) h
 refine⟨?_,h⟩
 replace f:=pW f
 replace g:=pW g
 replace j:=pW j
 replace k:=pW k
 replace r:=pW r
 obtain⟨⟨K,N,O,Q⟩,T,U,W,Y,p9⟩:=p
 obtain⟨⟨q1,q2,q3,q4⟩,q5,q6,q7,q8,q9⟩:=q
 simp only at C e2 D E f g j k r
 subst C e2 D E f g j k r
 rfl
theorem keyP_ne(p:Pick)(R:List UInt8):pY p++R≠ []:=by
 rw [keyP_eq]
 simp
theorem keys_inj:∀{g h:List Pick},(∀p∈g,cH p)->(∀p∈h,cH p)->g.flatMap pY=h.flatMap pY->g=h
 | [],[],_,_,_=>rfl
 | [],q::h,_,_,e=>by
  rw [HQ]at e
  exact(keyP_ne q _ e.symm).elim
 |p::g,[],_,_,e=>by
  rw [HQ]at e
  exact(keyP_ne p _ e).elim
 |p::g,q::h,hp,j,e=>by
  rw [HQ,HQ]at e
  obtain⟨rfl,k⟩:=key_cons (hp p zc) (j q zc) e
  rw [keys_inj (fun x f=>hp x (by simp [f])) (fun x f=>j x (by simp [f])) k]
theorem small_ok{p:Pick}(h:cH p):smallP p=true:=by
 obtain⟨a1,a2,a3,a4⟩:=sid_codes h.1
 have:=ro a1;have:=ro a2;have:=ro a3;have:=ro a4
 obtain⟨-,h1,f,g,j,k,q,r,u⟩:=h
 unfold smallP
 rw [EE]
 refine⟨decide_eq_true ⟨za,za,za,za⟩,?_⟩
 simp only [List.all_cons,List.all_nil,Bool.and_true,EE,decide_eq_true_eq]
 omega
theorem key_at{g:List Pick}(f:Gp g):keyO g=some (g.flatMap pY):=by
 have:=f.len
 unfold keyO
 rw [if_pos ⟨za,List.all_eq_true.2 fun p hp=>small_ok (f.ok p hp)⟩]
end Go.Dw.Re
set_option maxRecDepth 100000
set_option maxHeartbeats 4000000
namespace Go.Dw.Re
open Go.Dw Go.Proofs
open Sd (ku dY dD)
theorem sub_eq{α:Type} [DecidableEq α]:∀{r s:List α},r.Nodup->(∀x∈r,x∈s)->s.length<=r.length->∀x∈s,x∈r
 | [],s,_,_,h,x,f=>by
  have:s=[]:=List.length_eq_zero_iff.1 (Nat.le_zero.1 h)
  subst this
  cases f
 |a::r,s,q,hs,hl,x,f=>by
  obtain⟨h1,j⟩:=List.nodup_cons.1 q
  have k:=hs a zc
  by_cases e:x=a
  ·rw [e];simp
  have hlen:=List.length_erase_of_mem k
  have:=sub_eq (r:=r) (s:=s.erase a) j (fun y g=>(IE fun e=>h1 (by rw [<-e];exact g)).2 (hs y (by simp [g]))) (by simp only [D4]at hl;omega) x ((IE e).2 f)
  simp [this]
theorem FB_alike{s:ah}(hs:fb s){v w:ae}(C:fq v)(hw:fq w){g:List Pick}(q:Gp g)(h:∀p∈g,¬Chg v w p):FB s w g=FB s v g:=by
 have f:∀p∈g,Alike s v w p:=fun p hp=>alike hs C hw (q.ok p hp) (h p hp)
 have r:bP s w g=bP s v g:=usable_alike f
 obtain⟨e2,u⟩:=found_alike hs (v:=v) (w:=w) (q.srt.filter fun p=>(used s v p).2.2) fun p hp=>f p (List.mem_filter.1 hp).1
 unfold FB
 rw [r]
 show bq.mk g (fE s w (bP s v g)) (fR s w (bP s v g))=_
 have j:fE s w (bP s v g)=fE s v (bP s v g):=e2
 have k:fR s w (bP s v g)=fR s v (bP s v g):=u
 rw [j,k]
theorem fresh_in{X:List (List Pick)}{m:List (Pick×Int)}{a b:ae}(hm:Home X m)(W:∀g∈X,g.Pairwise fun x y=>db x y<0){g:List Pick}(Q:g.Pairwise fun x y=>db x y<0)(K:g≠ [])(h:frB X m a b g=true):g∈X∧∀p∈g,¬Chg a b p:=by
 unfold frB at h
 obtain⟨D,T,rfl⟩:=Ht K
 rw [IC]at h
 generalize G:D::T=g at*
 have Y:D∈g:=by rw [<-G];simp
 simp only [EE,decide_eq_true_eq,Bool.not_eq_true']at h
 obtain⟨U,h1,E⟩:=h
 unfold anyB at E
 rw [Hq]at E
 have H:D∈X.flatten:=HA fun e=>U (hm.no D e)
 obtain⟨x,hx,N⟩:=List.mem_flatten.1 H
 obtain⟨j,F,rfl⟩:=HS hx
 have r:=hm.at_ j F D N
 rw [r,show((j:Int)+1-1).toNat=j by omega,FO,zf F,F9]at h1
 rw [r]at E
 have f:∀p∈g,p∈X[j]∧¬Chg a b p:=fun p hp=>by
  have O:=E p hp
  simp only [Bool.or_eq_true,decide_eq_true_eq,not_or,Classical.not_not,ne_eq]at O
  refine⟨?_,O.2⟩
  have u:p∈X.flatten:=HA fun e=>by
   have:=hm.no p e
   omega
  obtain⟨y,hy,C⟩:=List.mem_flatten.1 u
  obtain⟨k,hk,rfl⟩:=HS hy
  have:=hm.at_ k hk p C
  have I:k=j:=by omega
  subst I
  exact C
 have J:g.Nodup:=dX cB Q
 have q:=sub_eq J (fun p hp=>(f p hp).1) za
 have:g=X[j]:=fy Q (W _ (EJ F)) fun p=>⟨fun hp=>(f p hp).1,q p⟩
 exact⟨by rw [this];exact EJ F,fun p hp=>(f p hp).2⟩
theorem contains_int{l:List Int}(hl:l.length<=1000)(x:Int):iL l x=some (decide (x∈l)):=by
 unfold iL ng
 have h1:∀(i:Nat)(hi:i<l.length),eW l x (i:Int)=if decide (l[i]=x)=true then some (.stop (.inr (i:Int)))else some (.next ((i+1:Nat):Int)):=by
  intro i hi
  unfold eW
  rw [if_pos so,py rfl hi,ze,w64 za za]
  by_cases e:l[i]=x
  ·rw [if_pos (by simp [e]),if_pos (by simp [e])]
  ·rw [if_neg (by simp;exact fun h=>e h.symm),if_neg (by simp [e])];rfl
 have g:eW l x (l.length:Nat)=some (.stop (.inl ())):=by
  unfold eW
  rw [if_neg zc]
 rcases qQ l (p:=fun y=>decide (y=x)) (f:=fun i _=>(i:Int)) h1 g with⟨e,h⟩|⟨i,hi,e,hp,h⟩
 ·rw [e]
  have:¬x∈l:=fun j=>by
   have:=h x j
   simp at this
  rw [decide_eq_false this];rfl
 ·rw [e]
  have:x∈l:=by
   have:l[i]=x:=by simpa using hp
   rw [<-this];exact EJ hi
  rw [decide_eq_true this]
  simp
theorem mem_stale_iff{X Y:List (List Pick)}{m:List (Pick×Int)}{a b:ae}{i:Nat}(hi:i<Y.length):(i:Int)∈gg X m a b Y Y.length↔frB X m a b Y[i]=false:=by
 have f:Y.getD i []=Y[i]:=by rw [FO,zf hi];rfl
 refine⟨fun h=>?_,mem_staleL hi⟩
 unfold gg at h
 obtain⟨j,g,e⟩:=List.mem_map.1 h
 obtain rfl:j=i:=by omega
 have:=(List.mem_filter.1 g).2
 rw [f]at this
 simpa using this
theorem staleL_len{X Y:List (List Pick)}{m:List (Pick×Int)}{a b:ae}(n:Nat):(gg X m a b Y n).length<=n:=by
 unfold gg
 have:=HT (fun j=> !frB X m a b (Y.getD j [])) (DO n)
 rw [ID]at this
 rw [Ey];omega
abbrev keyB(a b:List UInt8):Bool:=a==b
theorem keyB_eq(a b:List UInt8):keyB a b=decide (a=b):=by
 by_cases h:a=b<;>simp [keyB,h]
theorem known_at{s:ah}{v:ae}{X:List (List Pick)}(hl:X.length<=1000)(C:∀g∈X,Gp g):
  Ok (cI (kR (PG s v X)) ((0:Int),[])) (fun m=>∀g∈X,u6 keyB (g.flatMap pY) ⟨[],[],[]⟩ m=FB s v g):=by
 refine Gi (fun t=>∃i:Nat,t.1=(i:Int)∧i<=X.length∧∀(j:Nat)(h:j<X.length),j<i->u6 keyB (X[j].flatMap pY) ⟨[],[],[]⟩ t.2=FB s v X[j]) (fun t=>((X.length:Int)-t.1).toNat) ?_ ⟨0,rfl,DR _,fun j h u=>za⟩
 rintro⟨t1,t2⟩ ⟨i,rfl,hi,q⟩
 dsimp only at q
 unfold kR
 have hlen:(PG s v X).bU.length=X.length:=Ey ..
 dsimp only
 rw [hlen]
 refine Gl (fun H=>?_) (fun F=>?_)
 rotate_left
 ·refine Gt fun g r=>?_
  obtain⟨j,u,rfl⟩:=HS r
  exact q j u za
 have hk:i<X.length:=by omega
 have k:i<(PG s v X).bU.length:=by omega
 have E:(PG s v X).bU[i]'k=FB s v X[i]:=G3 ..
 have f:=C _ (EJ hk)
 rw [py rfl k,ze,E]
 show Ok ((keyO X[i]).bind _) _
 rw [key_at f,ze,w64 za za]
 refine Gk ⟨i+1,zc,za,fun j h u=>?_⟩ zd
 show u6 keyB (X[j].flatMap pY) ⟨[],[],[]⟩ (yC keyB (X[i].flatMap pY) (FB s v X[i]) t2)=FB s v X[j]
 rw [mGet_put keyB_eq]
 split
 ·rename_i e
  rw [keys_inj (C _ (EJ h)).ok f.ok e]
 ·rename_i e
  have G:j≠i:=fun D=>by subst D;exact e rfl
  exact q j h za
theorem rj{n:Int}{l S:List Pick}(h:de l=some S)(hS:S.Pairwise fun x y=>db x y<0)(hl:S.length<=1000):bZ n S=bZ n l:=by
 unfold bZ
 rw [qn hS hl,h]
theorem Update_at{s:ah}(hs:fb s){v w:ae}(T:fq v)(hw:fq w){l q:List Pick}(hl:l.length<=19)(hp:∀p∈l,cH p)(hq:q.length<=19)(C:∀p∈q,cH p)
  {X:List (List Pick)} (hX:bZ s.ac.ch l=some X) (F:fN s.ac.ch l X):
  ∃Y m,bZ s.ac.ch q=some Y∧fN s.ac.ch q Y∧Home X m∧dm (PG s v X) w q=some (PG s w Y,gg X m v w Y Y.length,0):=by
 have Q:=hs.span
 obtain⟨S,eS,lS,sS,mS,pS⟩:=F.flat
 obtain⟨r,hr,U,f,Y,m,D,hY, -,u,hm,W⟩:=Stale_ok s.ac.ch Q.1 za S q za (fun p h=>hp p ((mS p).1 h)) za C T.iv hw.iv
 have eX:f=X:=by
  rw [rj eS sS za,hX]at D
  exact(Ew D).symm
 subst eX
 obtain⟨x1,x2,x3,x4⟩:=F.pT za
 obtain⟨y1,y2,y3,y4⟩:=u.pT za
 have E:=F.gp hl hp
 have J:=u.gp hq C
 refine⟨Y,m,hY,u,hm,?_⟩
 obtain⟨r1,r2⟩:=r
 simp only at U W
 subst U W
 unfold dm
 rw [show gW (PG s v f).ba w q=some (Y,0)from asked_at hs hw.iv za C hY,ze,if_neg zc,Picks_at za F,eS,ze]
 rw [show gr (PG s v f).ba.ac.ch S q (PG s v f).cm w=some (gg f m v w Y Y.length,0)from hr,ze,if_neg zc]
 obtain⟨kn,G,N⟩:=known_at (s:=s) (v:=v) (X:=f) x1 E
 rw [G,ze,show fk (PG s v f).ba w=some ⟨s,w,[]⟩from progress_at hs.tabs.1 hs.tabs.2 hw.lens,ze]
 have:cI (kT (Y,(0:Int)) (gg f m v w Y Y.length,(0:Int)) kn (PG s v f) w) ((0:Int),[])=some (.inl (Y.map (FB s w))):=by
  refine Gg (Gi (fun t=>∃i:Nat,t=((i:Int),(Y.take i).map (FB s w))∧i<=Y.length) (fun t=>((Y.length:Int)-t.1).toNat) ?_ ⟨0,rfl,DR _⟩)
  rintro t ⟨i,rfl,hi⟩
  unfold kT
  dsimp only
  refine Gl (fun a6=>?_) (fun a5=>?_)
  rotate_left
  ·have:i=Y.length:=by omega
   subst this
   exact Gt (by rw [Ga])
  have hk:i<Y.length:=by omega
  have j:=J _ (EJ hk)
  have k:rR ((Y.take i).map (FB s w)) [FB s w Y[i]] 72=some ((Y.take (i+1)).map (FB s w)):=by
   rw [ec (by simp only [D4,D5,Ey,E1];omega),rF hk,F2];rfl
  have a9:=staleL_len (X:=f) (Y:=Y) (m:=m) (a:=v) (b:=w) Y.length
  rw [py rfl hk,ze,contains_int za,ze]
  refine Ok.iteND (fun O=>?_) (fun b0=>?_)
  ·have I:frB f m v w Y[i]=true:=by
    have:=mt (mem_stale_iff hk).2 O
    simpa using this
   obtain⟨K,H⟩:=fresh_in hm (fun g hg=>(E g hg).srt) j.srt (y2 _ (EJ hk)).1 I
   rw [key_at j,ze,show u6 (fun a b=>a==b) (Y[i].flatMap pY) (bq.mk [] [] []) kn=FB s v Y[i]from N _ K,copied_b (find_g hs T j).2,ze, <-FB_alike hs T hw j H,k,ze,w64 za za]
   exact Gk ⟨i+1,rfl,za⟩ zd
  ·rw [show jd (PG s v f).ba w Y[i]=some (FB s w Y[i],0)from found_g hs hw j,ze,if_neg zc,k,ze,w64 za za]
   exact Gk ⟨i+1,rfl,za⟩ zd
 rw [this,ze]
 rfl
end Go.Dw.Re
set_option maxRecDepth 100000
set_option maxHeartbeats 4000000
namespace Go.Dw.Re
open Go.Dw Go.Proofs
open Sd (ku dY dD)
theorem stage_refl{x:bh}(h:x.eC.length<=1000):lR x x=some true:=by
 unfold lR
 rw [if_neg zc,if_neg zc,if_neg zc,if_neg zc,if_neg zc,if_neg zc]
 have h1:∀i:Nat,i<x.eC.length->eQ x x (i:Int)=some (.next ((i+1:Nat):Int)):=fun i hi=>by
  unfold eQ
  rw [if_pos so,py rfl hi,ze,ze,if_neg zc,w64 za za]
  rfl
 have f:eQ x x ((x.eC.length:Nat):Int)=some (.stop (.inl ())):=by
  unfold eQ
  rw [if_neg zc]
 rw [gR _ h1 f];rfl
theorem resp_refl{r:bv}(h:pc r):pD r r=some true:=by
 obtain⟨g1,g2⟩:=h
 unfold pD
 rw [if_neg zc]
 have h1:∀i:Nat,i<r.cV.length->jW r r (i:Int)=some (.next ((i+1:Nat):Int)):=fun i hi=>by
  unfold jW
  rw [if_pos so,py rfl hi,ze,ze,stage_refl (g2 _ (EJ hi)),ze,if_neg zc,w64 za za]
  rfl
 have f:jW r r ((r.cV.length:Nat):Int)=some (.stop (.inl ())):=by
  unfold jW
  rw [if_neg zc]
 rw [gR _ h1 f];rfl
theorem epoch_refl{e:az}(h:pc e.bW):lT e e=some true:=by
 unfold lT
 rw [if_pos zc,if_pos zc,if_pos zc,if_pos zc,resp_refl h]
 rfl
theorem inv_refl{v:ae}(f:oG v):om v v=some true:=by
 have hl:=f.len
 unfold om
 rw [if_neg zc]
 have h1:∀i:Nat,i<v.a8.length->iX v v (i:Int)=some (.next ((i+1:Nat):Int)):=fun i hi=>by
  obtain⟨C,g⟩:=f.all _ (EJ hi)
  unfold iX
  rw [if_pos so,py rfl hi,ze,ze,if_neg zc,if_neg zc]
  have u:cI (mI v.a8[i] v.a8[i] (i:Int)) (0:Int)=some (.inl (i:Int)):=by
   refine Gg (Ok.upto v.a8[i].ct.length za (fun _=>True) trivial (fun j k h1 _=>?_))
   unfold mI
   refine Gl (fun r=>?_) (fun _=>Gt rfl)
   obtain⟨e,he,hm, -⟩:=Gh (l:=v.a8[i].ct) k za
   rw [he,ze,ze,epoch_refl (g e hm),ze,if_neg zc,w64 za za]
   exact Gk ⟨⟨za,za⟩,trivial⟩ za
  rw [u,ze]
  dsimp only
  rw [w64 za za]
  rfl
 have q:iX v v ((v.a8.length:Nat):Int)=some (.stop (.inl ())):=by
  unfold iX
  rw [if_neg zc]
 rw [gR _ h1 q];rfl
theorem rints_refl{l:List Int}(hl:l.length<=1000):oq l l=some true:=by
 unfold oq
 rw [if_neg zc]
 have h1:∀i:Nat,i<l.length->jZ l l (i:Int)=some (.next ((i+1:Nat):Int)):=fun i hi=>by
  unfold jZ
  rw [if_pos so,py rfl hi,ze,ze,if_neg zc,w64 za za]
  rfl
 have f:jZ l l ((l.length:Nat):Int)=some (.stop (.inl ())):=by
  unfold jZ
  rw [if_neg zc]
 rw [gR _ h1 f];rfl
theorem table_refl{t:bg}(h:TabLen t):jL t t=some true:=by
 unfold jL
 rw [if_pos zc,rints_refl h.1,ze,if_pos rfl,rints_refl h.2]
 rfl
theorem settings_refl{s:ah}(h:fb s):gC s s=some true:=by
 unfold gC
 rw [if_pos zc,table_refl h.tabs.1,ze,if_pos rfl,if_pos zc,if_pos zc,if_pos zc,if_pos zc,if_pos zc,table_refl h.tabs.2,ze,if_pos rfl,if_pos zc,if_pos zc]
 simp
theorem prog_refl{s:ah}(hs:fb s){v:ae}(k:fq v){X:List (List Pick)}(C:X.length<=1000)(u:∀g∈X,Gp g):na (PG s v X) (PG s v X)=some true:=by
 unfold na
 have hlen:(PG s v X).bU.length=X.length:=Ey ..
 rw [if_neg zc,show om (PG s v X).cm (PG s v X).cm=some true from inv_refl k.lens,ze,if_neg zc,show gC (PG s v X).ba (PG s v X).ba=some true from settings_refl hs,ze,if_neg zc]
 have h1:∀i:Nat,i<X.length->ja (PG s v X) (PG s v X) (i:Int)=some (.next ((i+1:Nat):Int)):=fun i hi=>by
  have j:i<(PG s v X).bU.length:=by omega
  have r:(PG s v X).bU[i]'j=FB s v X[i]:=G3 ..
  have f:=(find_g hs k (u _ (EJ hi))).2
  unfold ja
  rw [hlen,if_pos so,py rfl j,ze,ze,r,oY f.picks,ze,if_neg zc,oY f.left,ze,if_neg zc,same_events f.events f.each,ze,if_neg zc,w64 za za]
  rfl
 have q:ja (PG s v X) (PG s v X) ((X.length:Nat):Int)=some (.stop (.inl ())):=by
  unfold ja
  rw [hlen,if_neg zc]
 rw [gR _ h1 q];rfl
end Go.Dw.Re
set_option maxRecDepth 100000
set_option maxHeartbeats 4000000
namespace Go.Dw.Re
open Go.Dw Go.Proofs
open Sd (ku dY dD)
theorem elit_eq(x y:aq):ff x y=some (ov x.dl y.dl):=by unfold ff;rw [cmpE_eq];rfl
theorem ins_lit{l:List aq}(f:l.length<=1000):dN 0 (l.length:Int) l=some (c9 cE l):=by
 refine Eq.trans (b:=insG (fun x y=>ff x y) (fun c=>decide (c<0)) 0 (l.length:Int) l) rfl (insG_at (S:=fun _=>True) (fun x y _ _=>⟨_,elit_eq x y,rfl⟩) (fun _ _=>trivial) f)
theorem sort_lit{l:List aq}(q:l.length<=12):eK l=some (c9 cE l):=by
 unfold eK
 obtain⟨b,j, -⟩:=bits_ok (n:=Fb .u64 (l.length:Int)) (u64_range _)
 rw [j,ze]
 have h1:(cI (cL l.length 0 l b) ())=some (c9 cE l):=by
  refine rD ?_
  unfold cL
  rw [w64 za za,if_pos so,ins_lit za]
  rfl
 have k:cW 0 (l.length:Int) b l=some (c9 cE l):=by
  unfold cW
  refine Bz ⟨1,?_⟩ fun n s hs=>?_
  ·show((cI (cL l.length 0 l b) ()).bind fun g=>some g)=_
   rw [h1];rfl
  ·cases n with
   |zero=>cases hs
   |succ n=>
    have f:((cI (cL l.length 0 l b) ()).bind fun g=>some g)=some s:=hs
    rw [h1]at f
    exact(Ew f).symm
 rw [k];rfl
noncomputable def evs (s:ah) (v:ae) (X:List (List Pick)):List aq:=X.flatMap fun g=>fE s v (bP s v g)
theorem evs_len{s:ah}(hs:fb s){v:ae}:∀{X:List (List Pick)},(∀g∈X,Gp g)->(evs s v X).length<=X.flatten.length
 | [],_=>by simp [evs]
 |g::X,h=>by
  have h1:=evs_len hs (v:=v) (X:=X) fun g f=>h g (by simp [f])
  have f:=h g zc
  have j:(fE s v (bP s v g)).length<=(bP s v g).length:=fE_len hs (v:=v) (U:=bP s v g) (f.srt.filter _)
  have k:(bP s v g).length<=g.length:=HT _ _
  unfold evs at h1⊢
  rw [HQ,Ec,HR,Ec]
  omega
theorem Events_at{s:ah}(hs:fb s){v:ae}(E:fq v){X:List (List Pick)}(F:X.length<=1000)(q:∀g∈X,Gp g)(G:X.flatten.length<=12):gx (PG s v X)=some (c9 cE (evs s v X)):=by
 have hl:=evs_len hs (v:=v) q
 have j:∀i,(evs s v (X.take i)).length<=(evs s v X).length:=fun i=>by
  unfold evs
  conv=>rhs;rw [<-He i X]
  rw [Hw,Ec];omega
 unfold gx
 have:cI (iI (PG s v X)) ((0:Int),[])=some (evs s v X):=by
  refine Gg (Gi (fun t=>∃i:Nat,t=((i:Int),evs s v (X.take i))∧i<=X.length) (fun t=>((X.length:Int)-t.1).toNat) ?_ ⟨0,rfl,DR _⟩)
  rintro t ⟨i,rfl,hi⟩
  unfold iI
  have hlen:(PG s v X).bU.length=X.length:=Ey ..
  dsimp only
  rw [hlen]
  refine Gl (fun D=>?_) (fun C=>?_)
  rotate_left
  ·have:i=X.length:=by omega
   subst this
   exact Gt (by rw [Ga])
  have hk:i<X.length:=by omega
  have f:i<(PG s v X).bU.length:=by omega
  have u:(PG s v X).bU[i]'f=FB s v X[i]:=G3 ..
  have r:=j (i+1)
  have k:evs s v (X.take (i+1))=evs s v (X.take i)++fE s v (bP s v X[i]):=by
   rw [rF hk];unfold evs;rw [Hw];simp
  rw [k,Ec]at r
  rw [py rfl f,ze,u,copied_b (find_g hs E (q _ (EJ hk))).2,ze]
  show Ok ((rR (evs s v (X.take i)) (fE s v (bP s v X[i])) 248).bind _) _
  rw [ec za,ze,w64 za za]
  exact Gk ⟨i+1,by rw [k];rfl,za⟩ zd
 rw [this,ze,sort_lit za]
 rfl
end Go.Dw.Re
set_option maxRecDepth 100000
set_option maxHeartbeats 4000000
namespace Go.Dw.Re
open Go.Dw Go.Proofs
open Sd (ku dY dD)
def Cv(c:aj):Prop:=∃e,∀T:Int,2000<=T->T<100000->epIn c.ct T=some e
theorem epIn1{e:az}{T:Int}(h1:e.ca<=T)(f:T<e.fTo):epIn [e] T=some e:=by
 unfold epIn
 rw [Hv (by simp [h1,f])]
theorem epIn2{e f:az}{T:Int}(h:e.fTo<=T)(h1:f.ca<=T)(g:T<f.fTo):epIn [e,f] T=some f:=by
 unfold epIn
 rw [List.find?_cons_of_neg so,Hv (by simp [h1,g])]
def CvI(n:Nat)(s:Int×List Int×Int×List aj):Prop:=∃i:Nat,s.1=i∧i<=n∧s.2.2.2.map (·.a7)=(DO i).map sid∧(∀c∈s.2.2.2,Cv c)∧cv ⟨s.2.1,s.2.2.1⟩
theorem sites_cover{n:Nat}(G:n<=6)(d:Src)(E:cv d):Ok (gP (n:Int) d) (fun r=>r.1.a8.map (·.a7)=(DO n).map sid∧∀c∈r.1.a8,Cv c):=by
 unfold gP
 refine Gf (P:=fun o=>o.2.2.map (·.a7)=(DO n).map sid∧∀c∈o.2.2,Cv c) (Gi (CvI n) (fun s=>((n:Int)-s.1).toNat) ?_ ⟨0,rfl,za,rfl,zc,E⟩) (fun o ho=>Gq ho)
 rintro⟨s1,s2,I,k⟩ ⟨i,i0,i1,i2,i3,i4⟩
 simp only at i0 i1 i2 i3 i4
 subst i0
 have hlen:k.length=i:=by have:=congrArg G4 i2;simpa using this
 unfold lC
 have g:∀(x:aj),Ok (rR k [x] 88) (fun r=>r=k++[x]):=fun x=>Ge (by simp only [D4,D5];omega)
 have j:¬i<n->k.map (·.a7)=(DO n).map sid∧∀c∈k,Cv c:=fun h=>by
  obtain rfl:i=n:=by omega
  exact⟨i2,i3⟩
 have f:∀{l:List az}{t:Src},i<n->(∃e,∀T:Int,2000<=T->T<100000->epIn l T=some e)->cv t->Ok (some (.next ((i:Int)+1,t.fL,t.fAt,k++[⟨sid i,l⟩]))) (Ok.S (CvI n) (fun s=>((n:Int)-s.1).toNat) (fun o:List Int×Int×List aj=>o.2.2.map (·.a7)=(DO n).map sid∧∀c∈o.2.2,Cv c) ((i:Int),s2,I,k)):=fun{l t}hi hl H=>by
  refine Gk ⟨i+1,zc,za,?_,fun c hc=>?_,H⟩ zd
  ·simp [IG,i2]
  ·simp only [FV,FW]at hc
   rcases hc with hc|rfl
   ·exact i3 c hc
   ·exact hl
 refine Gl (fun F=>?_) (fun h=>Gt (j za))
 refine Gl (fun _=>?_) (fun h=>Gt (j za))
 have hi:i<n:=by omega
 refine Gf (mH 60 za za _ i4) (fun K g1=>?_)
 refine Gf (oX _ g1.2) (fun N g2=>?_)
 rw [source_at rfl (show i<6 by omega),ze]
 refine Gf (dZ _ _ g2.2 za za) (fun O g4=>?_)
 rw [w64 (n:=(i:Int)+1) za za]
 refine Gu (fun _=>?_) (fun _=>Gu (fun _=>?_) (fun _=>?_))
 ·refine Gf (dZ _ _ g4.2.2 za za) (fun D g5=>?_)
  refine Gf (mH 60 za za _ g5.2.2) (fun Q g6=>?_)
  refine Gf (oX _ g6.2) (fun U g7=>?_)
  refine Gf (Ok.tG za zc) (fun _ _=>?_)
  refine Gf (Gj za zc) (fun J g8=>?_)
  obtain⟨x,q,rfl⟩:=g8
  simp at q
  subst q
  refine Gf (Ge zc) (fun W g9=>?_)
  subst g9
  refine Gf (g _) (fun u g10=>?_)
  subst g10
  rw [w64 (n:=1500+D.1) za za]
  exact f hi ⟨_,fun T h1 C=>epIn2 zd zd zd⟩ g7.2
 ·refine Gf (dZ _ _ g4.2.2 za za) (fun D g5=>?_)
  refine Gf (Ok.tG za zc) (fun _ _=>?_)
  refine Gf (Gj za zc) (fun J g8=>?_)
  obtain⟨x,q,rfl⟩:=g8
  simp at q
  subst q
  refine Gf (g _) (fun u g10=>?_)
  subst g10
  exact f hi ⟨_,fun T h1 C=>epIn1 zd zd⟩ g5.2.2
 ·refine Gf (g _) (fun u g10=>?_)
  subst g10
  exact f hi ⟨_,fun T h1 C=>epIn1 zd zd⟩ g4.2.2
theorem site_at{n:Nat}{v:ae}(hm:v.a8.map (·.a7)=(DO n).map sid)(hc:∀c∈v.a8,Cv c){i:Nat}(hi:i<n):∃c e,chan v (sid i)=some c∧(∀T:Int,2000<=T->T<100000->epIn c.ct T=some e):=by
 have f:sid i∈v.a8.map (·.a7):=by rw [hm];exact List.mem_map_of_mem (List.mem_range.2 hi)
 obtain⟨c,g,k⟩:=List.mem_map.1 f
 cases h:chan v (sid i)with
 |none=>
  unfold chan at h
  have:=List.find?_eq_none.1 h c g
  simp [k]at this
 |some j=>
  obtain⟨e,he⟩:=hc j (rk h).1
  exact⟨j,e,rfl,he⟩
theorem reach_all{t:bg}(j:pM t){b:al}(g:gY b){p:ag}(hp:fV 60 p):Reach t (oL b p):=by
 have h1:=(Far_at g hp).2.2
 have f:=j.far
 have k:(400:Int)*400<=nG t*nG t:=Int.mul_le_mul f f za (by unfold nG;omega)
 unfold Reach
 omega
theorem used_true{a:ah}(f:fb a){v:ae}(j:fq v){p:Pick}(hp:cH p){e:az}(he:nE v p.a7 p.bT=some e):(used a v p).2.2=true∧phU a v p=⟨e.bV,p.bu,p.co,1⟩:=by
 have hu:(used a v p).2.2=true:=by
  have h1:=(nV f j hp).1
  have g:=epAt_ok j he
  unfold eH at h1
  rw [ou hp,ze,if_neg zc,At_eq j.lens (l9 j),ze,he]at h1
  dsimp only at h1
  rw [if_neg zc]at h1
  obtain⟨z,q,u, -⟩:=qA f.tab f.box (a:=⟨e.bV,p.bu,p.co,1⟩) (qm g hp)
  rw [q,ze,if_neg (by simp [u.2 (reach_all f.tab f.box g.pos)])]at h1
  rw [<-Ew h1]
 obtain⟨k,h1,r⟩:=oZ f j hp hu
 obtain rfl:k=e:=Ew (h1.symm.trans he)
 exact⟨hu,r⟩
def exP(s:Sid):Pick:=⟨s,2500,2500,2500,10,0⟩
def exQ(s:Sid):Pick:=⟨s,2500,2500,2500,11,0⟩
theorem ex_c:((pw []).bind fun f=>(mn 2 f).bind fun g=>some (g.1.ac.cn==2))=some true:=by kernel_rfl
theorem ex_p:((kB []).bind fun f=>(dP 2 f).bind fun g=>some (g.1.ac.cn==2))=some true:=
 (Le.bind (keep_New_le _) fun _=>Le.bind (Src_Settings_le _ _) fun _=>Le.refl _) _ ex_c
theorem exP_ok{s:Sid}(h:re s):cH (exP s):=⟨h,by simp [exP],by simp [exP],by simp [exP],by simp [exP],by simp [exP],by simp [exP],by simp [exP],by simp [exP]⟩
theorem exQ_ok{s:Sid}(h:re s):cH (exQ s):=⟨h,by simp [exQ],by simp [exQ],by simp [exQ],by simp [exQ],by simp [exQ],by simp [exQ],by simp [exQ],by simp [exQ]⟩
theorem ex_lt(s:Sid):db (exP s) (exQ s)<0:=by
 have:=dY.refl s
 unfold db exP exQ
 simp [this,sX]
theorem awake_at:mc=some true:=by
 refine Gg ?_
 have hc:=ex_p
 unfold mc
 obtain⟨d0,e0,h0⟩:=new_ok []
 rw [e0,ze]at hc⊢
 obtain⟨j,e2,hs,h2⟩:=settingsV (k:=2) za d0 h0
 rw [e2,ze]at hc⊢
 have hle:j.1.ac.cn=2:=by simpa using Ew hc
 obtain⟨r,e3,⟨C, -⟩,F,D⟩:=(sitesV (n:=3) j.2 h2).both (sites_cover (n:=3) za j.2 h2)
 rw [show gP (3:Int) j.2=some r from e3,ze]
 obtain⟨c,e,a5,a6⟩:=site_at F D (i:=1) za
 have H:nE r.1 (sid 1) 2500=some e:=by unfold nE;rw [a5];exact a6 2500 za za
 have h5:=sid_ok (i:=1) za
 rw [show gj (1:Int)=some (sid 1)from source_at (i:=1) rfl za,ze]
 have hp:=exP_ok h5;have hq:=exQ_ok h5
 have up:=(used_true hs C hp H).1
 have uq:=(used_true hs C hq H).1
 clear H a6 a5 F D
 generalize sid 1=f at*
 have b0:=ex_lt f
 have K: [exP f,exQ f].Pairwise fun x y=>db x y<0:=by simpa using b0
 have Q:UsOk j.1 r.1 [exP f,exQ f]:=fun p h=>by
  rcases List.mem_cons.1 h with rfl|h
  ·exact⟨hp,up⟩
  ·rw [List.mem_singleton.1 h];exact⟨hq,uq⟩
 have hU:=usable_all Q
 obtain⟨L,eL,sL,mL, -⟩:=oz (l:=[exQ f,exP f]) zc
 have T:L=[exP f,exQ f]:=fy sL K fun x=>by
  rw [mL];simp only [Fc,List.not_mem_nil,or_false];exact Or.comm
 subst T
 obtain⟨e,g1,g2⟩:=oZ hs C hp up
 obtain⟨e',b4,b5⟩:=oZ hs C hq uq
 obtain rfl:e'=e:=Ew (b4.symm.trans g1)
 have I:phU j.1 r.1 (exQ f)=phU j.1 r.1 (exP f):=by rw [g2,b5];rfl
 have hO:iA j.1 r.1 [exP f,exQ f]=[exP f,exQ f]:=by
  refine sortI_self (jH _ _) (fun _ _=>nX) ?_
  have:rn j.1 r.1 (exP f) (exQ f)<0:=by
   have:=cmpF_tot.refl (phU j.1 r.1 (exP f))
   unfold rn
   rw [I,this,if_neg zc];exact b0
  simpa using this
 have u:PhOk j.1.ac ([exP f,exQ f].map (phU j.1 r.1)):=PhOk_of hs C Q
 have b2:(loc j.1.ac ([exP f,exQ f].map (phU j.1 r.1))).cb<=0:=by
  have N:=prob_ok hs u zc
  obtain⟨-,T, -⟩:=loc_at hs u zc
  obtain⟨t,e1, -⟩:=qc N T.inn
  rw [T.val]at e1
  simp only [DJ,Prod.mk.injEq]at e1
  rw [e1.2.1]
  have hz:=fun b U=>(zn_at N T.inn (a:=b) U).2
  have b1:phU j.1 r.1 (exP f)∈(pO j.1.ac ([exP f,exQ f].map (phU j.1 r.1))).bM:=by simp [pO]
  rw [mis_zero N T.inn (t:=(zn (pO j.1.ac ([exP f,exQ f].map (phU j.1 r.1))) ⟨(loc j.1.ac ([exP f,exQ f].map (phU j.1 r.1))).bO,(loc j.1.ac ([exP f,exQ f].map (phU j.1 r.1))).bO⟩ (phU j.1 r.1 (exP f))).ca) (fun b U=>?_)]
  ·exact GB _
  ·have b6:b=phU j.1 r.1 (exP f):=by
    have:b=phU j.1 r.1 (exP f)∨b=phU j.1 r.1 (exQ f):=by simpa [pO]using U
    rcases this with h|h
    ·exact h
    ·rw [h,I]
   rw [b6]
   have:=(hz _ b1).2.1
   unfold res;omega
 have c4:=hs.span.1
 have hR := rnd_one hs (v := r.1) (O := [exP f, exQ f]) (by rw [hle]; simp) zc (fun p c3 i hi => by
  have k:∀p∈[exP f,exQ f],phU j.1 r.1 p=phU j.1 r.1 (exP f):=fun p h=>by
   rcases List.mem_cons.1 h with rfl|h
   ·rfl
   ·rw [List.mem_singleton.1 h,I]
  rw [k p c3,k i hi];omega) (fit_all hs u zc b2)
 have c2:(fE j.1 r.1 [exP f,exQ f]).length=1:=by
  unfold fE
  rw [hO,hR,dW]
  rfl
 have J:∀p∈[exP f,exQ f],cH p:=fun p h=>(Q p h).1
 have b3:∀p∈[exQ f,exP f],cH p:=fun p h=>by
  rcases List.mem_cons.1 h with rfl|h
  ·exact hq
  ·rw [List.mem_singleton.1 h];exact hp
 have c6:=hs.span
 obtain⟨X,hX,W,eN⟩:=New_at hs C (l:=[exP f,exQ f]) zc J
 obtain⟨Y,m,hY,c5,hm,eU⟩:=Update_at hs C C (l:=[exP f,exQ f]) (q:=[exQ f,exP f]) zc J zc b3 hX W
 have eY:Y=X:=by
  rw [<-rj eL K zc,hX]at hY
  exact(Ew hY).symm
 subst eY
 obtain⟨y1,y2,y3,y4⟩:=W.pT zc
 have a9:=W.gp zc J
 have eS:gg Y m r.1 r.1 Y Y.length=[]:=staleL_nil fun i hi=>same_fresh hm (fun g hg=>(y2 g hg).1) i hi
 have E:∀p∈Y.flatten,p.bu=2500:=fun p h=>by
  rcases List.mem_cons.1 ((y4 p).1 h)with rfl|h
  ·rfl
  ·rw [List.mem_singleton.1 h];rfl
 have G:Y=[[exP f,exQ f]]:=by
  rcases Y with _|⟨g,_|⟨h,Z⟩⟩
  ·have:=(y4 (exP f)).2 zc
   simp at this
  ·have:g=[exP f,exQ f]:=fy (W.sorted g zc) K fun p=>by
    have:=y4 p
    simpa using this
   rw [this]
  ·obtain⟨b,U⟩:=Hu _ (y2 g zc).1
   obtain⟨a,ha⟩:=Hu _ (y2 h zc).1
   have h1:=(List.pairwise_cons.1 W.gap).1 h zc b U a ha
   have h2:=E b (by simp [U])
   have h3:=E a (by simp [ha])
   omega
 have c1:=Events_at hs C y1 a9 (by rw [G];simp)
 have c0:(c9 cE (evs j.1 r.1 Y)).length=1:=by
  rw [dW,G]
  unfold evs
  simp only [HQ,List.flatMap_nil,Ea]
  rw [hU,c2]
 show Ok ((fw j.1 r.1 [exP f,exQ f]).bind _) _
 rw [eN,ze]
 show Ok ((dm (PG j.1 r.1 Y) r.1 [exQ f,exP f]).bind _) _
 rw [eU,ze,eS,if_pos zc]
 dsimp only
 rw [c1,ze,c0,if_pos zc,if_pos zc,if_pos zc,prog_refl hs C y1 a9]
 exact Gq rfl
end Go.Dw.Re
set_option maxRecDepth 100000
set_option maxHeartbeats 4000000
namespace Go.Dw.Re
open Go.Dw Go.Proofs
open Sd (ku dY dD)
structure EvsOk(E:List aq):Prop where
 len:E.length<=100
 one:∀e∈E,e.b7.da≠ []∧e.b7.da.length<=100∧(e.b7.da.Pairwise fun x y=>db x y<0)∧e.dl=nm e.b7.da
 asc:E.Pairwise fun x y=>ov x.dl y.dl<0
 nd:(E.flatMap fun e=>e.b7.da).Nodup
theorem nodup_parts{α β:Type}{f:α->List β}:∀{l:List α},(l.flatMap f).Nodup->l.Pairwise fun a b=>∀x∈f a,x∉f b
 | [],_=>.nil
 |a::l,h=>by
  rw [HQ,List.nodup_append]at h
  refine List.pairwise_cons.2 ⟨fun b j x k g=>h.2.2 x k x (List.mem_flatMap.2 ⟨b,j,g⟩) rfl,nodup_parts h.2.1⟩
theorem qt{α β:Type}{f g:α->List β}:∀{l:List α},(∀a∈l,(f a).Perm (g a))->(l.flatMap f).Perm (l.flatMap g)
 | [],_=>List.Perm.refl _
 |a::l,h=>by
  rw [HQ,HQ]
  exact(h a zc).append (qt fun b j=>h b (List.mem_cons_of_mem _ j))
theorem found_perm{s:ah}(hs:fb s){v:ae}(u:fq v){U:List Pick}(k:U.Pairwise fun x y=>db x y<0)(j:UsOk s v U)(hl:U.length<=19):(((fE s v U).flatMap fun e=>e.b7.da)++fR s v U).Perm U:=by
 refine List.Perm.trans ?_ (l8 hs (v:=v) k)
 refine List.Perm.append ?_ (bY _ _)
 have h1:((fE s v U).flatMap fun e=>e.b7.da).Perm (((mg s v (iA s v U)).1.map fun g=>evM s v (c9 cP g)).flatMap fun e=>e.b7.da):=(bY _ _).flatMap_right _
 refine h1.trans ?_
 rw [Hx]
 have q:=qt (f:=fun g=>(evM s v (c9 cP g)).b7.da) (g:=id) (l:=(mg s v (iA s v U)).1) fun g r=>by
  rw [(pV hs u k j hl r).picks]
  exact bY _ g
 refine q.trans ?_
 rw [List.flatMap_id]
theorem found_ok{s:ah}(hs:fb s){v:ae}(I:fq v){U:List Pick}(D:U.Pairwise fun x y=>db x y<0)(C:UsOk s v U)(hl:U.length<=19):EvsOk (fE s v U):=by
 have k:=found_perm hs I D C hl
 have u:((fE s v U).flatMap fun e=>e.b7.da).Nodup:=(List.nodup_append.1 (k.nodup_iff.2 (dX cB D))).1
 have f:∀e∈fE s v U,e.b7.da≠ []∧e.b7.da.length<=100∧(e.b7.da.Pairwise fun x y=>db x y<0)∧e.dl=nm e.b7.da:=fun e he=>by
  obtain⟨g,N,rfl⟩:=fE_mem.1 he
  have h:=pV hs I D C hl N
  have h1:=h.least;have E:=h.len;have Q:=hs.least.1
  have F:=dW cP g
  rw [h.picks]
  exact⟨fun O=>by rw [O]at F;simp at F;omega,za,h.asc,rfl⟩
 refine⟨by have:=fE_len hs (v:=v) D;omega,f,?_,u⟩
 have hle:(fE s v U).Pairwise fun x y=>ov x.dl y.dl<=0:=rz (n8.map fun e:aq=>e.dl) _
 have r:=nodup_parts u
 refine List.pairwise_iff_forall_sublist.2 fun{a b}j=>?_
 have h1:=List.pairwise_iff_forall_sublist.1 hle j
 have E:=List.pairwise_iff_forall_sublist.1 r j
 rcases IJ h1 with h|h
 ·exact h
 ·obtain⟨a1, -, -,a4⟩:=f a (j.subset zc)
  obtain⟨J, -, -,K⟩:=f b (j.subset zc)
  have q:=cmpE_zero h
  have G:=(nm_least a1).1
  have H:=(nm_least J).1
  rw [<-a4]at G
  rw [<-K, <-q]at H
  exact(E _ G H).elim
end Go.Dw.Re
set_option maxRecDepth 100000
set_option maxHeartbeats 4000000
namespace Go.Dw.Re
open Go.Dw Go.Proofs
open Sd (ku dY dD)
theorem win_part{α:Type}{k:α->Int}{span:Int}(q:0<=span){C D:List α}(g:C≠ [])(f:∀x∈C,∀y∈D,k y-k x>span):oO k span (C++D)=oO k span C:=by
 match C,g with
 |i::r,_=>
  show(((i::r)++D).takeWhile fun j=>decide (k j-k i<=span)).take 16=((i::r).takeWhile fun j=>decide (k j-k i<=span)).take 16
  have key:∀(p:α->Bool)(l m:List α),(∀y∈m,p y=false)->(l++m).takeWhile p=l.takeWhile p:=by
   intro p l m hm
   induction l with
   |nil=>
    cases m with
    |nil=>rfl
    |cons y m=>rw [D8,IH (by rw [hm y zc];simp)];rfl
   |cons x l E=>
    by_cases h:p x=true
    ·rw [FN,Hc h,Hc h,E]
    ·rw [FN,IH h,IH h]
  rw [key _ _ _ fun y u=>by have:=f i zc y u;simp;omega]
end Go.Dw.Re
set_option maxRecDepth 100000
set_option maxHeartbeats 4000000
namespace Go.Dw.Re
open Go.Dw
namespace Sd
theorem ref_cmp(a b:List UInt8):iz a b=some (ve a b):=by
 unfold iz ve
 cases h:Op.bytesLess a b with
 |true=>simp
 |false=>by_cases e:a=b<;>simp [e]
theorem ot(a b:Src):nn a b=some (ku a b):=by
 unfold nn ku
 simp only [ref_cmp,ze,bne_iff_ne,ne_eq]
 by_cases h1:ve a.bI b.bI=0<;>by_cases f:ve a.bw b.bw=0<;>by_cases g:ve a.bc b.bc=0<;>by_cases j:ve a.bL b.bL=0<;>simp [h1,f,g,j]
end Sd
open Sd (ku dY dD)
theorem step_int{β:Type}(a b:Int)(k:Option Int):(if(decide (a<b))=true then(some (-1:Int))else(if(decide (a>b))=true then(some (1:Int))else k))=(if sX a b≠0 then some (sX a b)else k):=by
 unfold sX
 by_cases h1:a<b
 ·rw [if_pos (decide_eq_true h1)];simp [h1]
 ·rw [if_neg (by simpa using h1)]
  by_cases f:a>b
  ·rw [if_pos (decide_eq_true f)];simp [h1,f]
  ·rw [if_neg (by simpa using f)];simp [h1,f]
theorem some_ite{c:Prop} [Decidable c] (a b:Int):(if c then some a else some b)=some (if c then a else b):=by split<;>rfl
theorem ot(a b:Pick):np a b=some (db a b):=by
 unfold np db
 rw [Sd.ot,ze]
 have f:((ku a.a7 b.a7 != (0:Int))=true)=(ku a.a7 b.a7≠0):=by simp
 simp only [step_int (β:=Unit),f]
 have hp:(if sX a.bN b.bN≠0 then some (sX a.bN b.bN)else some 0)=some (sX a.bN b.bN):=by
  by_cases h:sX a.bN b.bN=0<;>simp [h]
 rw [hp]
 simp only [some_ite]
end Go.Dw.Re
set_option maxRecDepth 100000
set_option maxHeartbeats 4000000
namespace Go.Dw.Re
open Go.Dw
open Sd (ku dY dD)
theorem find_l18{l out:List Pick}{i:Nat}(hi:i<l.length)(ho:out.length<=1000):
  ∃k:Nat,cI (mJ out l (i:Int)) (out.length:Int)=some ((i:Int),(k:Int),out)∧k<=out.length∧(∀j,(h:k<=j)->(g:j<out.length)->0<db out[j] l[i])∧(∀h:0<k,∀g:k-1<out.length,¬0<db (out[k-1]) l[i]):=by
 obtain⟨o,h1,k,rfl,r⟩:=xm (body:=mJ out l (i:Int)) (fun s:Int=>∃k:Nat,s=(k:Int)∧k<=out.length∧∀j,(h:k<=j)->(g:j<out.length)->0<db out[j] l[i]) (fun s=>s.toNat)
  (fun o => ∃ k : Nat, o = ((i : Int), (k : Int), out) ∧ k ≤ out.length ∧ (∀ j, (h : k ≤ j) → (g : j < out.length) → 0 < db out[j] l[i]) ∧ (∀ h : 0 < k, ∀ g : k - 1 < out.length, ¬ 0 < db (out[k - 1]) l[i])) (by
  rintro s ⟨k,rfl,hk,f⟩
  unfold mJ
  by_cases h:0<k
  ·rw [if_pos so,w64 (n:=(k:Int)-1) za za,sh za za,py (i:=k-1) za za,py (i:=i) rfl hi]
   simp only [ze,ot]
   by_cases hc:db (out[k-1]'za) l[i]>0
   ·rw [if_pos (by simpa using hc)]
    refine .inl ⟨_,rfl,⟨k-1,za,za,fun j u q=>?_⟩,za⟩
    by_cases e:j=k-1
    ·subst e;exact hc
    ·exact f j za q
   ·rw [if_neg (by simpa using hc)]
    exact .inr ⟨_,rfl,k,rfl,hk,f,fun _ _=>hc⟩
  ·rw [if_neg so]
   exact .inr ⟨_,rfl,k,rfl,hk,f,fun g=>(h g).elim⟩) (out.length:Int) ⟨out.length,rfl,DI _,fun j u q=>za⟩
 exact⟨k,h1,r⟩
theorem shift_eq{out:List Pick}{x:Pick}{k:Nat}(hk:k<=out.length):
  (yu (out++[x]) (k+1) (out.length+1-(k+1)) (((out++[x]).drop k).take (out.length+1-k))).set k x=out.take k++x::out.drop k:=by
 have q:(out++[x]).drop k=out.drop k++[x]:=List.drop_append_of_le_length hk
 have g:((out++[x]).drop k).take (out.length+1-k)=out.drop k++[x]:=by
  rw [q];exact Hg so
 unfold yu
 rw [g]
 have f:Nat.min (out.drop k++[x]).length (out.length+1-(k+1))=out.length-k:=by
  show min _ _=_
  simp
 rw [f]
 have r:(out.drop k++[x]).take (out.length-k)=out.drop k:=by
  rw [II zc]
  exact Hg zc
 have u:(out++[x]).drop (k+1+(out.length-k))=[]:=List.drop_eq_nil_of_le so
 rw [r,u,Ea]
 have j:(out++[x]).take (k+1)=out.take k++[(out++[x])[k]'so]:=by
  rw [rF so,II hk]
 rw [j,DK,List.set_append_right _ _ so]
 simp [Nat.min_eq_left hk]
theorem k31_eq{l out:List Pick}{i k:Nat}(hi:i<l.length)(hl:l.length<=1000)(ho:out.length<=1000)(hk:k<=out.length):
  iY l ((i:Int),(k:Int),out)=some (.next (((i+1:Nat):Int),out.take k++l[i]::out.drop k)):=by
 unfold iY
 simp only
 rw [py (i:=i) rfl hi,ze,ec so,ze]
 have hlen:(out++[l[i]]).length=out.length+1:=by simp
 rw [w64 (n:=(k:Int)+1) za za,w64 (n:=(i:Int)+1) za za,hlen]
 rw [xJ za za za,ze,xJ za za za,ze]
 have t1:(0+((k:Int)+1).toNat)=k+1:=by omega
 have t2:(0+(((out.length+1:Nat):Int)).toNat)=out.length+1:=by omega
 have t3:(0+((k:Int)).toNat)=k:=by omega
 rw [t1,t2,t3,AR za za,ze,yD za za,ze,ze]
 have f:(yu (out++[l[i]]) (k+1) (out.length+1-(k+1)) (((out++[l[i]]).drop k).take (out.length+1-k))).length=out.length+1:=by
  have:=congrArg G4 (shift_eq (x:=l[i]) hk)
  rw [FU]at this
  rw [this]
  simp
  omega
 rw [sh za za,ze,wR (i:=k) rfl za,ze,shift_eq hk]
 rfl
theorem ins_sorted{out:List Pick}{x:Pick}{k:Nat}(ho:out.Pairwise (fun x y=>db x y<0))(hk:k<=out.length)(h1:∀j,(h:k<=j)->(E:j<out.length)->0<db out[j] x)
  (F:∀h:0<k,∀E:k-1<out.length,¬0<db (out[k-1]) x∧out[k-1]≠x):(out.take k++x::out.drop k).Pairwise (fun x y=>db x y<0):=by
 have f:(out.take k++out.drop k).Pairwise (fun x y=>db x y<0):=by rwa [He]
 obtain⟨I,J,K⟩:=List.pairwise_append.1 f
 have q:∀y∈out.drop k,db x y<0:=fun y C=>by
  obtain⟨j,r,rfl⟩:=HS C
  simp only [List.length_drop]at r
  rw [List.getElem_drop]
  have:=h1 (k+j) za za
  have:=cB.uV x out[k+j]
  omega
 have u:∀y∈out.take k,db y x<0:=fun y C=>by
  obtain⟨j,r,rfl⟩:=HS C
  simp only [E1]at r
  rw [IA]
  obtain⟨g1,g2⟩:=F za za
  have G:db (out[k-1]'za) x<0:=by
   have:=cB.uV (out[k-1]'za) x
   by_cases H:db (out[k-1]'za) x=0
   ·exact(g2 (jP H)).elim
   ·omega
  by_cases e:j=k-1
  ·subst e;exact G
  ·have:=List.pairwise_iff_getElem.1 ho j (k-1) za za za
   exact cB.lt this za
 refine List.pairwise_append.2 ⟨I,List.pairwise_cons.2 ⟨q,J⟩,fun a D b g=>?_⟩
 rcases List.mem_cons.1 g with rfl|g
 ·exact u a D
 ·exact K a D b g
theorem ref_Sort_eq{l:List Pick}(hl:l.length<=1000):∃r,pE l=some r∧r.Pairwise (fun x y=>db x y<0)∧(∀x,x∈r↔x∈l):=by
 obtain⟨o,h1,F,G⟩:=xm (body:=oo l) (fun st:Int×List Pick=>∃(i:Nat)(out:List Pick),st=((i:Int),out)∧i<=l.length∧out.length<=i∧out.Pairwise (fun x y=>db x y<0)∧∀x,x∈out↔x∈l.take i) (fun st=>((l.length:Int)-st.1).toNat)
  (fun o => o.Pairwise (fun x y => db x y < 0) ∧ ∀ x, x ∈ o ↔ x ∈ l) (by
  rintro st ⟨i,out,rfl,hi,ho,hs,hm⟩
  unfold oo
  simp only
  by_cases f:i<l.length
  ·rw [if_pos so]
   obtain⟨k,E,hk,C,q⟩:=find_l18 (l:=l) (out:=out) f za
   rw [E,ze]
   refine .inl ?_
   have g:(∀h:0<k,∀j:k-1<out.length,out[k-1]≠l[i])->∃s',iY l ((i:Int),(k:Int),out)=some (.next s')∧(∃(i:Nat)(out:List Pick),s'=((i:Int),out)∧i<=l.length∧out.length<=i∧out.Pairwise (fun x y=>db x y<0)∧∀x,x∈out↔x∈l.take i)∧((l.length:Int)-s'.1).toNat<((l.length:Int)-(i:Int)).toNat:=fun D=>by
    refine⟨_,k31_eq f hl za hk,⟨i+1,_,rfl,za,so,ins_sorted hs hk C (fun h j=>⟨q h j,D h j⟩),fun x=>?_⟩,zd⟩
    rw [rF f,FV,Fc,FV, <-hm x]
    have:x∈out↔x∈out.take k∨x∈out.drop k:=by rw [<-FV,He]
    rw [this]
    simp only [FW]
    constructor
    ·rintro(h|h|h)
     ·exact .inl (.inl h)
     ·exact .inr h
     ·exact .inl (.inr h)
    ·rintro((h|h)|h)
     ·exact .inl h
     ·exact .inr (.inr h)
     ·exact .inr (.inl h)
   dsimp only
   by_cases u:0<k
   ·rw [if_pos so,w64 (n:=(k:Int)-1) za za,sh za za,py (i:=k-1) za za,py (i:=i) rfl f]
    simp only [ze]
    rw [show(_&&_)=eqF (out[k-1]'za) l[i]from rfl,eqs]
    by_cases he:out[k-1]'za=l[i]
    ·rw [if_pos (by simpa using he),w64 za za]
     refine⟨_,rfl,⟨i+1,out,zc,za,za,hs,fun x=>?_⟩,zd⟩
     rw [rF f,FV, <-hm x,FW]
     refine⟨.inl,fun h=>h.elim id fun h=>?_⟩
     subst h
     rw [<-he]
     exact EJ _
    ·rw [if_neg (by simpa using he)]
     exact g fun _ _=>he
   ·rw [if_neg so]
    exact g fun h=>(u h).elim
  ·rw [if_neg so]
   refine .inr ⟨_,rfl,hs,fun x=>?_⟩
   rw [hm x,Hg za]) (0,[]) ⟨0,[],rfl,DR _,DI _,.nil,fun x=>zc⟩
 refine⟨o,?_,F,G⟩
 unfold pE
 rw [h1];rfl
end Go.Dw.Re
set_option maxRecDepth 100000
set_option maxHeartbeats 4000000
namespace Go.Dw.Re
open Go.Dw Go.Proofs
open Sd (ku dY dD)
theorem early_cmpF{a b:Ph}(h:a.bu<b.bu):cmpF a b<0:=by
 unfold cmpF
 have:sX a.bu b.bu= -1:=by unfold sX;rw [if_pos h]
 rw [this];simp
theorem rnd_parts{s:ah}(hs:fb s){v:ae}:∀(out:List (List Pick)),out.flatten.Nodup->(out.Pairwise fun c d=>∀x∈c,∀y∈d,(phU s v y).bu-(phU s v x).bu>s.ac.ch)->
  mg s v out.flatten=(out.flatMap fun c=>(mg s v c).1,out.flatMap fun c=>(mg s v c).2)
 | [],_,_=>rfl
 |c::out,f,h=>by
  obtain⟨f1,f2⟩:=List.pairwise_cons.1 h
  have hle:=hs.least.1
  rw [HR]at f⊢
  have j:=(List.nodup_append.1 f).2.1
  have G:=rnd_parts hs out j f2
  have g:∀x∈c,∀y∈out.flatten,(phU s v y).bu-(phU s v x).bu>s.ac.ch:=fun x q y F=>by
   obtain⟨d,E,r⟩:=List.mem_flatten.1 F
   exact f1 d E x q y r
  have h1:=oN (qo s.ac (phU s v) s.ac.ch) (least:=s.ac.cn.toNat) za (c++out.flatten).length c out.flatten (DI _) f (fun H D k=>win_part hs.span.1 k fun x q=>g x (D.subset q))
  have u:=nC (qo s.ac (phU s v) s.ac.ch) (least:=s.ac.cn.toNat) za (c++out.flatten).length c.length c (by rw [Ec];omega) (DI _)
  have e2:=nC (qo s.ac (phU s v) s.ac.ch) (least:=s.ac.cn.toNat) za (c++out.flatten).length out.flatten.length out.flatten (by rw [Ec];omega) (DI _)
  rw [u,e2]at h1
  rw [HQ,HQ]
  have C:mg s v (c++out.flatten)=((mg s v c).1++(mg s v out.flatten).1,(mg s v c).2++(mg s v out.flatten).2):=h1
  rw [C,G]
section
variable {s:ah}{v:ae}{l L:List Pick}{X:List (List Pick)}
theorem qU(f:l.Pairwise fun x y=>db x y<0):(iA s v l).Pairwise fun x y=>rn s v x y<0:=eO (jH s v) (fun _ _=>nX) (dX cB f)
theorem far_ph(hs:fb s)(k:fq v)(hp:∀p∈l,cH p)(C:fN s.ac.ch l X)(f:∀p,p∈X.flatten↔p∈l):
  (X.map fun g=>iA s v (bP s v g)).Pairwise fun c d=>∀x∈c,∀y∈d,(phU s v y).bu-(phU s v x).bu>s.ac.ch:=by
 rw [G8]
 refine C.gap.imp_of_mem fun{g h}D E j x F y G=>?_
 obtain⟨q,H⟩:=List.mem_filter.1 ((bY _ _).mem_iff.1 F)
 obtain⟨r,I⟩:=List.mem_filter.1 ((bY _ _).mem_iff.1 G)
 obtain⟨e, -,ex⟩:=oZ hs k (hp x ((f x).1 (List.mem_flatten.2 ⟨g,D,q⟩))) (by simpa using H)
 obtain⟨J, -,u⟩:=oZ hs k (hp y ((f y).1 (List.mem_flatten.2 ⟨h,E,r⟩))) (by simpa using I)
 have:=j x q y r
 rw [ex,u]
 exact this
theorem ord_parts(hs:fb s)(F:fq v)(hp:∀p∈l,cH p)(C:fN s.ac.ch l X)(f:∀p,p∈X.flatten↔p∈l)(E:L.Pairwise fun x y=>db x y<0)(hm:∀p,p∈L↔p∈l):
  iA s v (bP s v L)=(X.map fun g=>iA s v (bP s v g)).flatten:=by
 refine gm (jH s v) (qU (E.filter _)) (List.pairwise_flatten.2 ⟨fun c hc=>?_,?_⟩) fun x=>?_
 ·obtain⟨g,j,rfl⟩:=List.mem_map.1 hc
  exact qU ((C.sorted g j).filter _)
 ·refine(far_ph hs F hp C f).imp fun{c d}h x k y G=>?_
  have h1:=h x k y G
  have H:=hs.span
  have D:=early_cmpF (a:=phU s v x) (b:=phU s v y) za
  unfold rn
  rw [if_pos za]
  exact D
 ·unfold iA
  rw [(bY _ _).mem_iff,List.mem_flatten]
  constructor
  ·intro k
   obtain⟨r,u⟩:=List.mem_filter.1 k
   obtain⟨g,j,q⟩:=List.mem_flatten.1 ((f x).2 ((hm x).1 r))
   exact⟨_,List.mem_map.2 ⟨g,j,rfl⟩,(bY _ _).mem_iff.2 (List.mem_filter.2 ⟨q,u⟩)⟩
  ·rintro⟨c,hc,k⟩
   obtain⟨g,j,rfl⟩:=List.mem_map.1 hc
   obtain⟨r,u⟩:=List.mem_filter.1 ((bY _ _).mem_iff.1 k)
   exact List.mem_filter.2 ⟨(hm x).2 ((f x).1 (List.mem_flatten.2 ⟨g,j,r⟩)),u⟩
theorem rnd_all(hs:fb s)(r:fq v)(hp:∀p∈l,cH p)(k:fN s.ac.ch l X)(f:∀p,p∈X.flatten↔p∈l)(q:L.Pairwise fun x y=>db x y<0)(hm:∀p,p∈L↔p∈l):
  mg s v (iA s v (bP s v L))=(X.flatMap fun g=>(mg s v (iA s v (bP s v g))).1,X.flatMap fun g=>(mg s v (iA s v (bP s v g))).2):=by
 have e:=ord_parts hs r hp k f q hm
 have j:(X.map fun g=>iA s v (bP s v g)).flatten.Nodup:=by
  rw [<-e]
  exact dX (jH s v) (qU (q.filter _))
 rw [e,rnd_parts hs _ j (far_ph hs r hp k f),Hx,Hx]
theorem evs_perm(hs:fb s)(q:fq v)(hp:∀p∈l,cH p)(j:fN s.ac.ch l X)(f:∀p,p∈X.flatten↔p∈l)(k:L.Pairwise fun x y=>db x y<0)(hm:∀p,p∈L↔p∈l):
  (evs s v X).Perm (fE s v (bP s v L)):=by
 refine List.Perm.trans ?_ (bY _ _).symm
 rw [rnd_all hs q hp j f k hm]
 simp only
 rw [List.map_flatMap]
 exact qt fun g _=>bY _ _
theorem left_perm(hs:fb s)(q:fq v)(hp:∀p∈l,cH p)(j:fN s.ac.ch l X)(f:∀p,p∈X.flatten↔p∈l)(k:L.Pairwise fun x y=>db x y<0)(hm:∀p,p∈L↔p∈l):
  (X.flatMap fun g=>fR s v (bP s v g)).Perm (fR s v (bP s v L)):=by
 refine List.Perm.trans ?_ (bY _ _).symm
 rw [rnd_all hs q hp j f k hm]
 exact qt fun g _=>bY _ _
theorem events_all(hs:fb s)(D:fq v)(hp:∀p∈l,cH p)(u:fN s.ac.ch l X)(g:∀p,p∈X.flatten↔p∈l)(C:L.Pairwise fun x y=>db x y<0)(hm:∀p,p∈L↔p∈l)
  (j:EvsOk (fE s v (bP s v L))):c9 cE (evs s v X)=fE s v (bP s v L):=by
 have r:=evs_perm hs D hp u g C hm
 have hc:Tot fun x y:aq=>ov x.dl y.dl:=n8.map fun e:aq=>e.dl
 have k:(c9 cE (evs s v X)).Perm (fE s v (bP s v L)):=(bY _ _).trans r
 have q:((fE s v (bP s v L)).map (·.dl)).Nodup:=by
  unfold HE
  rw [G8]
  exact j.asc.imp fun{x y}h e=>by
   rw [e]at h
   have:=n8.refl y.dl
   omega
 have f:=(k.map (·.dl)).nodup_iff.2 q
 unfold HE at f
 rw [G8]at f
 have hle:=rz hc (evs s v X)
 refine gm hc ((hle.and f).imp fun{x y}h=>?_) j.asc fun e=>k.mem_iff
 have h1:=h.1
 have E:ov x.dl y.dl≠0:=fun e=>h.2 (cmpE_zero e)
 omega
theorem fR_strict(hs:fb s)(g:L.Pairwise fun x y=>db x y<0):(fR s v (bP s v L)).Pairwise fun x y=>db x y<0:=by
 refine eO cB (fun _ _=>jP) ?_
 have f:(bP s v L).Pairwise fun x y=>db x y<0:=g.filter _
 have h:=(l8 hs (v:=v) f).nodup_iff.2 (dX cB f)
 exact(List.nodup_append.1 h).2.1
theorem gather_left(h1:X.length<=1000)(D:(X.flatMap fun g=>fR s v (bP s v g)).length<=1000):cI (fe (PG s v X)) ((0:Int),[])=some (X.flatMap fun g=>fR s v (bP s v g)):=by
 have j:∀i,((X.take i).flatMap fun g=>fR s v (bP s v g)).length<=(X.flatMap fun g=>fR s v (bP s v g)).length:=fun i=>by
  conv=>rhs;rw [<-He i X]
  rw [Hw,Ec];omega
 refine Gg (Gi (fun t=>∃i:Nat,t=((i:Int),(X.take i).flatMap fun g=>fR s v (bP s v g))∧i<=X.length) (fun t=>((X.length:Int)-t.1).toNat) ?_ ⟨0,rfl,DR _⟩)
 rintro t ⟨i,rfl,hi⟩
 unfold fe
 have hlen:(PG s v X).bU.length=X.length:=Ey ..
 dsimp only
 rw [hlen]
 refine Gl (fun C=>?_) (fun u=>?_)
 rotate_left
 ·have:i=X.length:=by omega
  subst this
  exact Gt (by rw [Ga])
 have hk:i<X.length:=by omega
 have f:i<(PG s v X).bU.length:=by omega
 have r:(PG s v X).bU[i]'f=FB s v X[i]:=G3 ..
 have q:=j (i+1)
 have k:(X.take (i+1)).flatMap (fun g=>fR s v (bP s v g))=(X.take i).flatMap (fun g=>fR s v (bP s v g))++fR s v (bP s v X[i]):=by
  rw [rF hk,Hw];simp
 rw [k,Ec]at q
 rw [py rfl f,ze,r]
 show Ok ((rR ((X.take i).flatMap fun g=>fR s v (bP s v g)) (fR s v (bP s v X[i])) 104).bind _) _
 rw [ec za,ze,w64 za za]
 exact Gk ⟨i+1,by rw [k];rfl,za⟩ zd
theorem Left_at(hs:fb s)(C:fq v)(hl:l.length<=19)(hp:∀p∈l,cH p)(k:fN s.ac.ch l X)(j:L.Pairwise fun x y=>db x y<0)(hm:∀p,p∈L↔p∈l)(q:L.length<=l.length):kN (PG s v X)=some (fR s v (bP s v L)):=by
 obtain⟨D,H,I,E⟩:=k.pT za
 have f:=left_perm hs C hp k E j hm
 have u:(bP s v L).Pairwise fun x y=>db x y<0:=j.filter _
 have h1:=fR_len hs (v:=v) u
 have F:(bP s v L).length<=L.length:=HT _ _
 have G:=f.length_eq
 unfold kN jx
 rw [gather_left D za,ze]
 obtain⟨r,f1,f2,f3, -⟩:=oz (l:=X.flatMap fun g=>fR s v (bP s v g)) za
 have:r=fR s v (bP s v L):=fy f2 (fR_strict hs j) fun p=>by rw [f3,f.mem_iff]
 rw [f1,this]
 rfl
end
structure EqI(s:ah)(n:Nat)(q:List Pick)(d:Src)(w:ae)(X:List (List Pick)):Prop where
 len:q.length<=8+n
 ok:∀p∈q,cH p
 src:cv d
 inv:fq w
 bat:bZ s.ac.ch q=some X
 B:fN s.ac.ch q X
theorem EqI.step{s:ah}(hs:fb s){n:Nat}{q:List Pick}{d:Src}{w:ae}{X:List (List Pick)}(h:EqI s n q d w X)(r:n<=3){q':List Pick}{d':Src}{w':ae}(hl:q'.length<=8+(n+1))(hp:∀p∈q',cH p)(k:cv d')(hw:fq w'):
  ∃Y st,dm (PG s w X) w' q'=some (PG s w' Y,st,0)∧EqI s (n+1) q' d' w' Y:=by
 have:=h.len
 obtain⟨Y,m,j,f,hm,g⟩:=Update_at hs h.inv hw za h.ok za hp h.bat h.B
 exact⟨Y,_,g,⟨hl,hp,k,hw,j,f⟩⟩
theorem qM(a0:List Int):kD a0=some true:=by
 refine Gg ?_
 unfold kD
 refine Gf (new_ok a0) (fun x1 h1=>?_)
 refine Gf ((settingsV (k:=3) za x1 h1).both (settings_ok (k:=3) za x1 h1)) (fun f⟨⟨j,h2⟩,C,_⟩=>?_)
 refine Gf (sitesV f.2 h2) (fun x3⟨hv,h3⟩=>?_)
 refine Gf (picks_ok f.1 C x3.1 hv.inv 8 za x3.2 h3) (fun x4⟨⟨l4,p4⟩,h4⟩=>?_)
 obtain⟨X0,b0,a5,O⟩:=New_at j hv (l:=x4.1) za p4
 rw [O,ze,if_neg zc]
 have a6:EqI f.1 0 x4.1 x4.2 x3.1 X0:=⟨za,p4,h4,hv,b0,a5⟩
 refine Gf (P:=fun o=>∃q d w X,EqI f.1 3 q d w X∧o=Sum.inl (q,w.a8,(PG f.1 w X).ba.ac.bj.bt.fX,(PG f.1 w X).ba.ac.bj.bt.fY,(PG f.1 w X).ba.ac.bj.bt.fZ,(PG f.1 w X).ba.ac.bj.bd.fX,(PG f.1 w X).ba.ac.bj.bd.fY,(PG f.1 w X).ba.ac.bj.bd.fZ,(PG f.1 w X).ba.ac.bG.bQ,(PG f.1 w X).ba.ac.bG.bt,(PG f.1 w X).ba.ac.bG.bd,(PG f.1 w X).ba.ac.dv,(PG f.1 w X).ba.ac.bA,(PG f.1 w X).ba.ac.ch,(PG f.1 w X).ba.ac.dJ,(PG f.1 w X).ba.ac.cn,(PG f.1 w X).ba.bK.bB.bQ,(PG f.1 w X).ba.bK.bB.bt,(PG f.1 w X).ba.bK.bB.bd,(PG f.1 w X).ba.bK.cg,(PG f.1 w X).ba.bK.b9,(PG f.1 w X).ba.bA,(PG f.1 w X).cm.a8,(PG f.1 w X).bU))
  (Gi (fun t=>∃n:Nat,∃q d w X,EqI f.1 n q d w X∧n<=3∧t=(q,(n:Int),d.fL,d.fAt,w.a8,(PG f.1 w X).ba.ac.bj.bt.fX,(PG f.1 w X).ba.ac.bj.bt.fY,(PG f.1 w X).ba.ac.bj.bt.fZ,(PG f.1 w X).ba.ac.bj.bd.fX,(PG f.1 w X).ba.ac.bj.bd.fY,(PG f.1 w X).ba.ac.bj.bd.fZ,(PG f.1 w X).ba.ac.bG.bQ,(PG f.1 w X).ba.ac.bG.bt,(PG f.1 w X).ba.ac.bG.bd,(PG f.1 w X).ba.ac.dv,(PG f.1 w X).ba.ac.bA,(PG f.1 w X).ba.ac.ch,(PG f.1 w X).ba.ac.dJ,(PG f.1 w X).ba.ac.cn,(PG f.1 w X).ba.bK.bB.bQ,(PG f.1 w X).ba.bK.bB.bt,(PG f.1 w X).ba.bK.bB.bd,(PG f.1 w X).ba.bK.cg,(PG f.1 w X).ba.bK.b9,(PG f.1 w X).ba.bA,(PG f.1 w X).cm.a8,(PG f.1 w X).bU)) (fun t=>(3-t.2.1).toNat) ?_ ⟨0,_,_,_,_,a6,za,rfl⟩) ?_
 ·rintro t ⟨n,q,d,w,X,g,hn,rfl⟩
  unfold lH
  dsimp only
  have b3:=g.len
  refine Gl (fun c6=>?_) (fun c5=>?_)
  rotate_left
  ·obtain rfl:n=3:=by omega
   exact Gt ⟨q,d,w,X,g,rfl⟩
  refine Gf (dZ 2 d g.src za za) (fun K F=>?_)
  refine Gu (fun _=>?_) (fun _=>?_)
  ·refine Gf (correctedV w g.inv K.2 F.2.2) (fun r⟨hw,T⟩=>?_)
   obtain⟨Y,st,Q,E⟩:=g.step j hn (q':=q) (d':=r.2) (w':=r.1) za g.ok T hw
   unfold ek
   show Ok ((dm (PG f.1 w X) r.1 q).bind _) _
   rw [Q,ze,if_neg zc,w64 za za]
   exact Gk ⟨n+1,q,r.2,r.1,Y,E,za,rfl⟩ zd
  ·refine Gf (picks_ok f.1 C w g.inv.inv 4 za K.2 F.2.2) (fun N⟨⟨c7,b4⟩,U⟩=>?_)
   refine Gf (replaced_ok q N.1 za za g.ok b4 N.2 U) (fun u⟨⟨c8,b5⟩,W⟩=>?_)
   obtain⟨Y,st,Q,E⟩:=g.step j hn (q':=u.1) (d':=u.2) (w':=w) za b5 W g.inv
   unfold ek
   show Ok ((dm (PG f.1 w X) w u.1).bind _) _
   rw [Q,ze,if_neg zc,w64 za za]
   exact Gk ⟨n+1,u.1,u.2,w,Y,E,za,rfl⟩ zd
 ·rintro o ⟨q,d,w,X,g,rfl⟩
  dsimp only
  have b3:=g.len
  have hw:=g.inv
  obtain⟨D,H,b6,eN⟩:=New_at j hw (l:=q) za g.ok
  have eX:D=X:=by
   rw [g.bat]at H
   exact(Ew H).symm
  subst eX
  obtain⟨c1,c2,c3,c4⟩:=g.B.pT za
  have hg:=g.B.gp za g.ok
  obtain⟨L,eL,sL,mL,nL,hU,J,c0,hf⟩:=find_ok j hw (l:=q) za g.ok
  have b2:=found_ok j hw hU J za
  have I:=found_same j hw hU J za
  have b1:D.flatten.length<=12:=by
   obtain⟨t, -,e2, -, -,e5⟩:=g.B.flat
   have:=e5.length_eq
   omega
  have G:=Events_at j hw c1 hg b1
  rw [events_all j hw g.ok g.B c4 sL mL b2]at G
  obtain⟨R,eR,sR,mR⟩:=ref_Sort_eq (l:=q) za
  have a9:R=L:=fy sR sL fun p=>by rw [mR,mL]
  subst a9
  rw [show ae.mk w.a8=w from rfl,eN,ze,hf,ze,if_pos zc,if_pos zc]
  show Ok ((na (PG f.1 w D) (PG f.1 w D)).bind _) _
  rw [prog_refl j hw c1 hg,ze,if_pos rfl]
  show Ok ((gx (PG f.1 w D)).bind _) _
  rw [G,ze,I.1,ze,if_pos rfl]
  show Ok ((kN (PG f.1 w D)).bind _) _
  rw [Left_at j hw za g.ok g.B sL mL nL,ze,I.2,ze,if_pos rfl]
  show Ok ((gV (PG f.1 w D)).bind _) _
  rw [Picks_at za g.B,eL,ze,eR,ze,oY za,ze,if_pos rfl,awake_at]
  exact Ok.of rfl rfl
end Go.Dw.Re
