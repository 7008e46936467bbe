
import Derived.Test.YtfmoipelhfkdkaaGreatDoorReLawW
import Derived.Test.YtfmoipelhfkdkaaGreatDoorDwPlain
import Derived.Test.YtfmoipelhfkdkaaGreatDoorReCo
import Derived.KernelRfl
set_option linter.unusedVariables false
set_option linter.unusedSimpArgs false
open Go.Dw.Ok renaming app->Ge, bind->Gf, eq->Gg, get->Gh, loop->Gi, nx->Gk, pz->Gl, ret->Gq, set->Gs, st->Gt, sub->HD, tA->Gu, tG->Gv, tk->Gw, w4->Gy, zL->Gz
open List renaming Nodup->HE, append_assoc->DK, cons_append->FN, dropLast->HG, dropLast_concat->HH, drop_eq_getElem_cons->GY, drop_of_length_le->HI, eq_nil_of_length_eq_zero->Eb, filter->HJ, filter_append->HK, filter_congr->HL, filter_cons_of_neg->HN, filter_map->HO, filter_sublist->HP, flatMap_cons->HQ, flatten_cons->HR, getD_eq_getElem?_getD->FO, getElem?_set_ne->D2, getElem?_set_self->D3, getElem_map->G3, getElem_mem->EJ, getElem_of_mem->HS, length_append->Ec, length_cons->D4, length_filter_le->HT, length_map->Ey, length_nil->D5, length_take->E1, map->Fa, map_congr_left->HV, map_cons->FC, map_map->HW, mem_cons_of_mem->G5, mem_filter->HX, mem_map->HY, mem_map_of_mem->HZ, mem_singleton->FW, nil_append->D8, nodup_append->FX, nodup_cons->Ez, nodup_range->H0, pairwise_map->G8, perm_append_comm->H2, perm_cons->H3, range->DO, range'->H4, range'_succ->H5, range_eq_range'->H6, replicate->B2, set_set_perm->H7, sublist_cons_self->H8, sublist_flatten_of_mem->H9, tail_cons->Ha, take->Hb, takeWhile_cons_of_pos->Hc, take_add_one->Hd, take_append_drop->He, take_length->Ga, take_of_length_le->Hg
open Int renaming add_mul->Fy, le_refl->GB, le_total->GC, le_trans->GD, lt_or_le->Hh, min_eq_right->Hi, mul_add->GF, mul_comm->GH, mul_le_mul->GI, mul_le_mul_of_nonneg_left->Hj, mul_le_mul_of_nonneg_right->Hk, mul_left_comm->GJ, mul_nonneg->GK, one_mul->Hl, tdiv_eq_ediv_of_nonneg->GS, tdiv_nonneg->GV
open Classical renaming byContradiction->HA
open Nat renaming le_refl->DI, lt_or_ge->Hm, mod_eq_of_lt->Hn, succ_lt_succ->Ho, zero_le->DR
open Go.IntKind renaming wrap->Fb
open Option.some renaming inj->Ew, injEq->DJ
open Function renaming comp->Hp

set_option maxRecDepth 100000
set_option maxHeartbeats 4000000
namespace Go.Dw.Re
open Go.Dw Go.Proofs
abbrev Item:=ar
theorem less_ok{d:List Item}{i j:Int}(hi:0<=i∧i<d.length)(f:0<=j∧j<d.length):Ok (kL d i j) (fun _=>True):=by
 unfold kL
 refine Gf (Gh hi.1 hi.2) (fun a _=>?_)
 refine Gf (Gh f.1 f.2) (fun b _=>?_)
 rw [Sd.lL,ze]
 refine Gf (Gh hi.1 hi.2) (fun g _=>?_)
 refine Gf (Gh f.1 f.2) (fun b' _=>?_)
 rw [Sd.lL,ze]
 obtain⟨r,e⟩:=or_some [sX a.dF b.dF,sX g.mA b'.mA] zc
 rw [e]
 exact Gq trivial
theorem swap_ok{d:List Item}{i j:Int}(hi:0<=i∧i<d.length)(f:0<=j∧j<d.length):
  Ok (kM i j d) (fun r=>r.Perm d∧(r[j.toNat]? =d[i.toNat]?)∧∀k:Nat,k≠i.toNat->k≠j.toNat->r[k]? =d[k]?):=by
 unfold kM
 refine Gf (Gv f.1 f.2) (fun _ _=>Gf (Gh f.1 f.2) (fun a q=>?_))
 refine Gf (Gv hi.1 hi.2) (fun _ _=>Gf (Gh hi.1 hi.2) (fun b u=>?_))
 refine Gf (Gv hi.1 hi.2) (fun _ _=>Gf (Gs hi.1 hi.2) (fun e he=>?_))
 subst he
 refine Gf (Gv f.1 (by simpa using f.2)) (fun _ _=>Gf (Gs f.1 (by simpa using f.2)) (fun e he=>?_))
 subst he
 have h1:i.toNat<d.length:=by omega
 have g:j.toNat<d.length:=by omega
 obtain⟨_,rfl⟩:=List.getElem?_eq_some_iff.1 q.2
 obtain⟨_,rfl⟩:=List.getElem?_eq_some_iff.1 u.2
 refine Gq ⟨H7 h1 g,?_,fun k C D=>?_⟩
 ·rw [D3 (by simpa using g),zf h1]
 ·rw [D2 (Ne.symm D),D2 (Ne.symm C)]
theorem up_ok{q:ak}{a b:Int}{f:Bool}{l:ap}{d:List Item}{j:Int}(k:0<=j∧j<d.length)(C:d.length<=1000):Ok (pu j q a b f l d) (fun r=>r.Perm d):=by
 unfold pu
 refine Gf (P:=fun o:List Item=>o.Perm d) (Gi (fun s:Int×List Item=>(0<=s.1∧s.1<d.length)∧s.2.Perm d) (fun s=>s.1.toNat) ?_ ⟨k,List.Perm.refl _⟩) (fun o ho=>Gq ho)
 rintro⟨s1,s2⟩ ⟨⟨i0,i1⟩,i2⟩
 simp only at i0 i1 i2
 have hlen:s2.length=d.length:=i2.length_eq
 unfold oD
 dsimp only
 rw [w64 (n:=s1-1) za za]
 have e:tI .i64 (s1-1) 2=some (if s1=0 then 0 else(s1-1) / 2):=by
  unfold tI
  rw [if_neg za]
  split
  ·rename_i h;subst h;rfl
  ·rw [GS za,w64 za za]
 rw [e,ze]
 refine Gu (fun _=>by rw [ze];exact Gt i2) (fun g=>?_)
 have hp:s1≠0:=fun h=>g (by rw [if_pos h,h])
 rw [if_neg hp]
 refine Gf (less_ok za za) (fun x _=>?_)
 refine Gy (fun _=>by rw [ze];exact Gt i2) (fun _=>?_)
 exact Gf (swap_ok za za) (fun y u=>Gk ⟨⟨zd,zd⟩,u.1.trans i2⟩ zd)
theorem down_ok{q:ak}{a b:Int}{f:Bool}{l:ap}{d:List Item}{n:Int}(k:0<=n∧n<d.length)(C:d.length<=1000):Ok (nY 0 n q a b f l d) (fun r=>r.2.Perm d∧r.2[n.toNat]? =d[n.toNat]?):=by
 unfold nY
 refine Gf (P:=fun o:Int×List Item=>o.2.Perm d∧o.2[n.toNat]? =d[n.toNat]?) (Gi (fun s:Int×List Item=>(0<=s.1∧s.1<=n)∧s.2.Perm d∧s.2[n.toNat]? =d[n.toNat]?) (fun s=>(n-s.1).toNat) ?_ ⟨⟨zc,k.1⟩,List.Perm.refl _,rfl⟩) (fun o ho=>Gq ho)
 rintro⟨s1,s2⟩ ⟨⟨i0,i1⟩,i2,i3⟩
 simp only at i0 i1 i2 i3
 have hlen:s2.length=d.length:=i2.length_eq
 unfold oM
 dsimp only
 rw [w64 (n:=2*s1) za za,w64 (n:=2*s1+1) za za,w64 (n:=2*s1+1+1) za za]
 refine Gl (fun _=>Gt ⟨i2,i3⟩) (fun h1=>Gl (fun _=>Gt ⟨i2,i3⟩) (fun _=>?_))
 have K:∀j,s1<j->j<n->Ok (gi s2 s1 j) (Ok.S (fun s:Int×List Item=>(0<=s.1∧s.1<=n)∧s.2.Perm d∧s.2[n.toNat]? =d[n.toNat]?) (fun s=>(n-s.1).toNat) (fun o:Int×List Item=>o.2.Perm d∧o.2[n.toNat]? =d[n.toNat]?) (s1,s2)):=fun j D E=>by
  unfold gi
  refine Gf (less_ok za za) (fun x _=>?_)
  refine Gy (fun _=>Gt ⟨i2,i3⟩) (fun _=>?_)
  exact Gf (swap_ok za za) (fun y g=>Gk ⟨⟨zd,zd⟩,g.1.trans i2,by rw [<-i3];exact g.2.2 _ za za⟩ zd)
 refine Gl (fun u=>?_) (fun _=>K _ za za)
 refine Gf (less_ok za za) (fun x _=>?_)
 exact Gz (fun _=>K _ za za) (fun _=>K _ za za)
theorem pop_ok{q:ak}{a b:Int}{f:Bool}{l:ap}{x:Item}{d:List Item}(E:(x::d).length<=1000):Ok (n9 q a b f l (x::d)) (fun r=>r.2.Perm d):=by
 have hlen:((x::d).length:Int)=d.length+1:=by simp
 simp only [D4]at E
 unfold n9 jV
 rw [ze]
 rw [hlen,w64 (n:=(d.length:Int)+1-1) za za]
 refine Gf (swap_ok za za) (fun y⟨g,j,_⟩=>?_)
 have H:y.length=d.length+1:=by have:=g.length_eq;simpa using this
 refine Gf (down_ok za za) (fun z⟨k,z2⟩=>?_)
 have I:z.2.length=d.length+1:=by rw [k.length_eq,H]
 unfold qx
 rw [I,w64 (n:=((d.length+1:Nat):Int)-1) za za]
 refine Gf (P:=fun r:Item×List Item=>r.2.Perm d) ?_ (fun r G=>Gq G)
 refine Gf (Gv za za) (fun _ _=>Gf (Gh za za) (fun w _=>?_))
 refine Gf (HD za za za) (fun _ _=>Gq ?_)
 simp only
 rw [show(((d.length+1:Nat):Int)-1).toNat=d.length by omega]
 have e:z.2[d.length]? =some x:=by
  rw [show((d.length:Int)+1-1).toNat=d.length by omega]at z2 j
  rw [z2,j];rfl
 obtain⟨F,e⟩:=List.getElem?_eq_some_iff.1 e
 have u:z.2=z.2.take d.length++[x]:=by
  conv=>lhs;rw [<-He d.length z.2]
  rw [GY F,e,HI za]
 have C:(z.2.take d.length++[x]).Perm (x::d):=by rw [<-u];exact k.trans g
 have D:(x::z.2.take d.length).Perm (x::d):=(H2 (l₁:=[x])).trans C
 exact(H3 x).1 D
theorem push_ok{q:ak}{a b:Int}{f:Bool}{l:ap}{x:Item}{d:List Item}(k:d.length<=500):Ok (lY x q a b f l d) (fun r=>r.Perm (x::d)):=by
 unfold lY oE jV
 refine Gf (P:=fun r=>r=d++[x]) (Gf (Ge (by simp only [D4,D5];omega)) (fun r g=>Gq g)) (fun y j=>?_)
 subst j
 rw [ze]
 have hl:((d++[x]).length:Int)=d.length+1:=by simp
 rw [hl,w64 za za]
 exact Gf (up_ok za so) (fun r g=>Gq (g.trans (H2 (l₂:=[x]))))
theorem push1_ok{q:ak}{a b:Int}{f:Bool}{l:ap}{x:Item}:Ok (mZ x q a b f l) (fun r=>r.Perm [x]):=by
 unfold mZ pB jV
 refine Gf (P:=fun r=>r=[x]) (Gf (Ge zc) (fun r g=>Gq g)) (fun y j=>?_)
 subst j
 rw [ze]
 rw [w64 zc zc]
 exact Gf (up_ok zc zc) (fun r g=>Gq g)
def cnt:List Item->Int
 | []=>0
 |x::l=>(2*pts x.mT-1)+cnt l
theorem nz{l m:List Item}(h:l.Perm m):cnt l=cnt m:=by
 induction h with
 |nil=>rfl
 |cons x _ g=>simp only [cnt,g]
 |swap x y l=>simp only [cnt];omega
 |trans _ _ h1 f=>rw [h1,f]
def nI(r:al)(l:List Item):Prop:=∀x∈l,Sub r x.mT
theorem nI.perm{r:al}{l m:List Item}(h:nI r m)(hp:l.Perm m):nI r l:=fun x f=>h x (hp.mem_iff.1 f)
theorem cnt_len{q:ak}(f:PV q){l:List Item}(h:nI q.bj l):(l.length:Int)<=cnt l:=by
 induction l with
 |nil=>simp [cnt]
 |cons x l j=>
  have h1:=j fun y g=>h y (G5 _ g)
  have k:=(pts_in ((h x zc).ok f.box f.reg)).1
  simp only [cnt,D4];omega
def Good(q:ak)(l:ap):Prop:=Sub q.bj ⟨l.bO,l.bO⟩∧(Single q->l.cb=0)
theorem add_ok{q:ak}(C:PV q){b:al}(j:Sub q.bj b){n k:Int}{f:Bool}{l:ap}{d:List Item}(u:d.length<=500):Ok (kV b q n k f l d) (fun r=>r.1=0∧∃x:Item,x.mT=b∧r.2.2.Perm (x::d)):=by
 unfold kV mO
 refine Gf (bound_ok C j) (fun x g=>?_)
 refine Gu (fun _=>?_) (fun h=>(h g).elim)
 exact Gf (push_ok u) (fun r D=>Gq ⟨g,_,rfl,D⟩)
theorem add1_ok{q:ak}(u:PV q){b:al}(j:Sub q.bj b){n k:Int}{f:Bool}{l:ap}:Ok (nf b q n k f l) (fun r=>r.1=0∧∃x:Item,x.mT=b∧r.2.1.Perm [x]):=by
 unfold nf nv
 refine Gf (bound_ok u j) (fun x g=>?_)
 refine Gu (fun _=>?_) (fun h=>(h g).elim)
 exact Gf push1_ok (fun r C=>Gq ⟨g,_,rfl,C⟩)
theorem look_ok{q:ak}(u:PV q){b:al}(D:Sub q.bj b){n k:Int}{f:Bool}{l:ap}{d:List Item}(hf:f=true->Good q l):Ok (me b q n k f l d) (fun r=>r.1=0∧r.2.1=true∧Good q r.2.2):=by
 unfold me
 refine Gf (center_ok u.box u.reg D) (fun p hp=>?_)
 refine Gf (at_ok u hp) (fun x C=>?_)
 refine Gw (fun h=>(h C.1).elim) (fun _=>?_)
 have j:Good q (ap.mk p x.1 x.2.1 0 (al.mk (ag.mk 0 0 0) (ag.mk 0 0 0))):=⟨hp,C.2⟩
 refine Gy (fun _=>Gq ⟨rfl,rfl,j⟩) (fun g=>?_)
 refine Gl (fun _=>Gq ⟨rfl,rfl,j⟩) (fun _=>Gu (fun _=>?_) (fun _=>Gq ⟨rfl,g,hf g⟩))
 exact Gf (compare_ok _ _) (fun c _=>Gl (fun _=>Gq ⟨rfl,rfl,j⟩) (fun _=>Gq ⟨rfl,g,hf g⟩))
theorem ended_ok{t:Int}{q:ak}{n k:Int}{f:Bool}{l:ap}{d:List Item}:Ok (lp t q n k f l d) (fun r=>(r=false->d≠ [])∧(r=true->d=[]∨f=true)):=by
 unfold lp
 refine Gu (fun h=>Gq ⟨fun h=>by simp at h,fun _=>.inl (List.length_eq_zero_iff.1 za)⟩) (fun h=>?_)
 have g:d≠ []:=fun e=>h (by rw [e];rfl)
 have:=List.length_pos_iff.2 g
 refine Gz (fun hf=>?_) (fun _=>Gq ⟨fun _=>g,fun h=>by simp at h⟩)
 exact Gf (Gv za za) (fun _ _=>Gf (Gh za za) (fun _ _=>Gq ⟨fun _=>g,fun _=>.inr hf⟩))
theorem step_ok{q:ak}(g:PV q){n k:Int}{f:Bool}{l:ap}{d:List Item}(L:d≠ [])(ho:nI q.bj d)(hk:0<=k∧k+cnt d<=300)(hf:f=true->Good q l):
  Ok (mf q n k f l d) (fun r=>r.1=0∧r.2.2.1=k+1∧r.2.2.2.1=true∧Good q r.2.2.2.2.1∧nI q.bj r.2.2.2.2.2∧r.2.2.2.2.2.length<=d.length+1∧k+1+cnt r.2.2.2.2.2<=k+cnt d):=by
 match d,L with
 |x::d,_=>
  have hlen:=cnt_len g ho
  have H:=ho x zc
  have F:nI q.bj d:=fun y j=>ho y (G5 _ j)
  have N:=pts_in (H.ok g.box g.reg)
  simp only [D4]at hlen
  unfold mf
  refine Gu (fun h=>za) (fun _=>?_)
  refine Gf (Gv za zc) (fun _ _=>?_)
  rw [show oc (x::d) (0:Int)=some x from rfl,ze]
  refine Gf (pop_ok (by simp only [D4];omega)) (fun y j=>?_)
  have I:y.2.length=d.length:=j.length_eq
  have C:nI q.bj y.2:=F.perm j
  have Q:cnt y.2=cnt d:=nz j
  have E:cnt (x::d)=(2*pts x.mT-1)+cnt d:=rfl
  rw [w64 za za]
  refine Gf (look_ok g H hf) (fun z D=>?_)
  refine Gw (fun h=>(h D.1).elim) (fun _=>?_)
  refine Gf (split_ok g.box g.reg H) (fun s hs=>?_)
  refine Gy (fun _=>Gq ⟨rfl,rfl,D.2.1,D.2.2,C,so,zd⟩) (fun G=>?_)
  obtain⟨s1,s2,T⟩:=hs G
  refine Gf (add_ok g s1 za) (fun u⟨u1,a,K,up⟩=>?_)
  refine Gw (fun h=>(h u1).elim) (fun _=>?_)
  have O:u.2.2.length=d.length+1:=by rw [up.length_eq];simp [I]
  refine Gf (add_ok g s2 za) (fun v⟨v1,b,vb,J⟩=>Gq ⟨v1,rfl,D.2.1,D.2.2,?_,?_,?_⟩)
  ·refine nI.perm (fun w hw=>?_) J
   rcases List.mem_cons.1 hw with rfl|hw
   ·rw [vb];exact s2
   ·rcases List.mem_cons.1 (up.mem_iff.1 hw)with rfl|hw
    ·rw [K];exact s1
    ·exact C w hw
  ·simp only
   rw [J.length_eq];simp only [D4];omega
  ·simp only
   rw [nz J,E]
   simp only [cnt]
   rw [nz up]
   simp only [cnt]
   rw [K,vb];omega
theorem run_ok{q:ak}(f:PV q){t:Int}(O:0<=t):Ok (kF q t) (fun r=>r.2=0∧∃s,r.1=some s∧Good q s.cx∧nI q.bj s.mB∧s.mB.length<=300):=by
 have G:=pts_in f.box
 unfold kF
 rw [oF f,ze,if_neg zc,if_neg so]
 refine Gf (add1_ok f (Sub.refl f.box)) (fun x⟨N,a,C,D⟩=>?_)
 refine Gw (fun h=>(h N).elim) (fun _=>?_)
 have j:cnt x.2.1=2*pts q.bj-1:=by rw [nz D];simp only [cnt];rw [C];omega
 have u:nI q.bj x.2.1:=nI.perm (fun w hw=>by rw [List.mem_singleton.1 hw,C];exact Sub.refl f.box) D
 refine Gf (P:=fun o=>∃y,o= .inl y∧Good q y.2.2.2.2∧nI q.bj y.1∧y.1.length<=300) (Gi (fun s:Int×Int×Bool×ap×List Item=>(0<=s.2.1∧s.2.1+cnt s.2.2.2.2<=300)∧nI q.bj s.2.2.2.2∧(s.2.2.1=true->Good q s.2.2.2.1)∧(s.2.2.2.2=[]->s.2.2.1=true)) (fun s=>(300-s.2.1).toNat) ?_ ⟨⟨zc,zd⟩,u,zc,fun h=>?_⟩) (fun o⟨y,ho,h1,E,F⟩=>by subst ho;exact Gq ⟨rfl,_,rfl,h1,E,F⟩)
 ·rintro⟨W,X,Y,s9,L⟩ ⟨⟨i0,i1⟩,i2,i3,i4⟩
  simp only at i0 i1 i2 i3 i4
  have hl:=cnt_len f i2
  unfold mE
  dsimp only
  refine Gf ended_ok (fun e he=>?_)
  refine Gy (fun k=>?_) (fun het=>Gt ⟨_,rfl,?_,i2,zd⟩)
  ·have g:=he.1 k
   have:=List.length_pos_iff.2 g
   refine Gf (step_ok f g i2 ⟨i0,i1⟩ i3) (fun r⟨H,Q,I,J,K,T,U⟩=>?_)
   refine Gw (fun h=>(h H).elim) (fun _=>?_)
   exact Gk ⟨⟨zd,zd⟩,K,fun _=>J,fun _=>I⟩ zd
  ·refine i3 ?_
   rcases he.2 het with h|h
   ·exact i4 h
   ·exact h
 ·simp only at h
  rw [h]at j
  simp only [cnt]at j;omega
theorem locate_ok{q:ak}(f:PV q){t:Int}(j:0<=t):Ok (dO q t) (fun r=>r.2=0∧Sub q.bj r.1.cp∧(Single q->r.1.cb=0)):=by
 unfold dO
 refine Gf (run_ok f j) (fun x⟨D,s,xs,⟨g1,g2⟩,ho,hs⟩=>?_)
 rw [xs]
 show Ok (if(x.2 != (0:Int))=true then _ else _) _
 refine Gw (fun h=>(h D).elim) (fun _=>?_)
 refine Gf (P:=fun o:Int×al=>Sub q.bj o.2) (Gi (fun u:Int×Int×al=>(0<=u.1∧u.1<=s.mB.length)∧Sub q.bj u.2.2) (fun u=>((s.mB.length:Int)-u.1).toNat) ?_ ⟨⟨zc,zc⟩,g1⟩) (fun o ho=>Gq ⟨rfl,ho,g2⟩)
 rintro⟨u1,u2,E⟩ ⟨⟨i0,i1⟩,i2⟩
 simp only at i0 i1 i2
 unfold mD
 refine Gl (fun g=>?_) (fun _=>Gt i2)
 refine Gf (Gh za za) (fun y k=>?_)
 rw [w64 za za]
 refine Gl (fun _=>?_) (fun _=>Gk ⟨⟨zd,zd⟩,i2⟩ zd)
 exact Gf (hull_ok f.box f.reg i2 (ho y k.1)) (fun z C=>Gk ⟨⟨zd,zd⟩,C⟩ zd)
end Go.Dw.Re
set_option maxRecDepth 100000
set_option maxHeartbeats 4000000
namespace Go.Dw.Re
open Go.Dw Go.Proofs
theorem has_max:∀{l:List Int},l≠ []->∃m∈l,∀x∈l,x<=m
 | [a],_=>⟨a,zc,zc⟩
 |a::b::r,_=>by
  obtain⟨m,h1,g⟩:=has_max (l:=b::r) zc
  by_cases h:a<=m
  ·exact ⟨m, G5 _ h1, fun x f => by
    rcases List.mem_cons.1 f with rfl|f
    ·exact h
    ·exact g x f⟩
  ·exact ⟨a, zc, fun x f => by
    rcases List.mem_cons.1 f with rfl|f
    ·exact GB _
    ·have:=g x f;omega⟩
theorem has_min{l:List Int}(h:l≠ []):∃m∈l,∀x∈l,m<=x:=by
 obtain⟨m,h1,f⟩:=has_max (l:=l.map fun x=> -x) (by simpa using h)
 obtain⟨y,j,rfl⟩:=List.mem_map.1 h1
 exact⟨y,j,fun x g=>by have:=f (-x) (List.mem_map.2 ⟨x,g,rfl⟩);omega⟩
def res(z:bz)(t:Int):Int:=max 0 (max (t-z.fTo) (z.ca-t))
def kj(cap w:Int)(z:bz)(t:Int):Int:=w*min cap (res z t)
def cJ(cap:Int):List aw->List bz->Int->Int
 |a::ps,z::zs,t=>kj cap a.cC z t+cJ cap ps zs t
 |_,_,_=>0
def ends:List bz->List Int
 | []=>[]
 |z::zs=>z.ca::z.fTo::ends zs
theorem mem_ends{l:List bz}{t:Int}:t∈ends l↔∃z∈l,t=z.ca∨t=z.fTo:=by
 induction l with
 |nil=>simp [ends]
 |cons z zs f=>simp [ends,f,or_assoc]
theorem cap_line{c a L R t:Int}(h1:L<=t)(f:t<=R):(R-t)*min c (a-L)+(t-L)*min c (a-R)<=(R-L)*min c (a-t):=by
 have g:(R-t)*min c (a-L)<=(R-t)*c:=Hj za za
 have j:(t-L)*min c (a-R)<=(t-L)*c:=Hj za za
 have k3:(R-t)*min c (a-L)<=(R-t)*(a-L):=Hj za za
 have k:(t-L)*min c (a-R)<=(t-L)*(a-R):=Hj za za
 rcases GC c (a-t)with h|h
 ·rw [Int.min_eq_left h]
  have:(R-t)*c+(t-L)*c=(R-L)*c:=by rw [<-Fy];congr 1;omega
  omega
 ·rw [Hi h]
  have:(R-t)*(a-L)+(t-L)*(a-R)=(R-L)*(a-t):=by
   simp only [Int.sub_mul,Int.mul_sub,GH]
   omega
  omega
theorem cost1_line{cap w:Int}{z:bz}(hc:0<=cap)(hw:0<=w)(j:z.ca<=z.fTo){L R t:Int}(h1:L<=t)(g:t<=R)(hf:z.ca<=L∨R<=z.ca)(f:z.fTo<=L∨R<=z.fTo):
  (R-t)*kj cap w z L+(t-L)*kj cap w z R<=(R-L)*kj cap w z t:=by
 have key:(R-t)*min cap (res z L)+(t-L)*min cap (res z R)<=(R-L)*min cap (res z t):=by
  unfold res
  rcases hf with hf|hf
  ·rcases f with f|f
   ·rw [show max 0 (max (L-z.fTo) (z.ca-L))=(-z.fTo)-(-L)by omega,show max 0 (max (R-z.fTo) (z.ca-R))=(-z.fTo)-(-R)by omega,show max 0 (max (t-z.fTo) (z.ca-t))=(-z.fTo)-(-t)by omega]
    have:=cap_line (c:=cap) (a:= -z.fTo) (L:= -R) (R:= -L) (t:= -t) za za
    rw [show-L- -t=t-L by omega,show-t- -R=R-t by omega,show-L- -R=R-L by omega]at this
    omega
   ·rw [show max 0 (max (L-z.fTo) (z.ca-L))=0 by omega,show max 0 (max (R-z.fTo) (z.ca-R))=0 by omega,show max 0 (max (t-z.fTo) (z.ca-t))=0 by omega]
    rw [Hi hc];simp
  ·rw [show max 0 (max (L-z.fTo) (z.ca-L))=z.ca-L by omega,show max 0 (max (R-z.fTo) (z.ca-R))=z.ca-R by omega,show max 0 (max (t-z.fTo) (z.ca-t))=z.ca-t by omega]
   exact cap_line h1 g
 unfold kj
 have:=Hj key hw
 rw [GF,GJ w (R-t),GJ w (t-L),GJ w (R-L)]at this
 exact this
theorem costS_line{cap:Int}(hc:0<=cap){L R t:Int}(h1:L<=t)(g:t<=R):∀(ps:List aw)(zs:List bz),(∀a∈ps,0<=a.cC)->(∀z∈zs,z.ca<=z.fTo)->(∀e∈ends zs,e<=L∨R<=e)->
  (R-t)*cJ cap ps zs L+(t-L)*cJ cap ps zs R<=(R-L)*cJ cap ps zs t
 |a::ps,z::zs,j,k,he=>by
  have q:=cost1_line hc (j a zc) (k z zc) h1 g (he _ (by simp [ends])) (he _ (by simp [ends]))
  have r:=costS_line hc h1 g ps zs (fun x f=>j x (by simp [f])) (fun x f=>k x (by simp [f])) (fun e h=>he e (by simp [ends,h]))
  unfold cJ
  rw [GF,GF,GF]
  omega
 | [],_,_,_,_=>by simp [cJ]
 |_::_,[],_,_,_=>by simp [cJ]
theorem costS_left{cap:Int}{L t:Int}(h1:t<=L):∀(ps:List aw)(zs:List bz),(∀a∈ps,0<=a.cC)->(∀z∈zs,z.ca<=z.fTo)->(∀e∈ends zs,L<=e)->cJ cap ps zs L<=cJ cap ps zs t
 |a::ps,z::zs,g,j,he=>by
  have:=costS_left (cap:=cap) h1 ps zs (fun x f=>g x (by simp [f])) (fun x f=>j x (by simp [f])) (fun e h=>he e (by simp [ends,h]))
  have k:=he z.ca (by simp [ends])
  have e2:=he z.fTo (by simp [ends])
  unfold cJ
  have:kj cap a.cC z L<=kj cap a.cC z t:=Hj (by unfold res;omega) (g a zc)
  omega
 | [],_,_,_,_=>by simp [cJ]
 |_::_,[],_,_,_=>by simp [cJ]
theorem costS_right{cap:Int}{L t:Int}(h1:L<=t):∀(ps:List aw)(zs:List bz),(∀a∈ps,0<=a.cC)->(∀z∈zs,z.ca<=z.fTo)->(∀e∈ends zs,e<=L)->cJ cap ps zs L<=cJ cap ps zs t
 |a::ps,z::zs,g,j,he=>by
  have:=costS_right (cap:=cap) h1 ps zs (fun x f=>g x (by simp [f])) (fun x f=>j x (by simp [f])) (fun e h=>he e (by simp [ends,h]))
  have k:=he z.ca (by simp [ends])
  have e2:=he z.fTo (by simp [ends])
  unfold cJ
  have:kj cap a.cC z L<=kj cap a.cC z t:=Hj (by unfold res;omega) (g a zc)
  omega
 | [],_,_,_,_=>by simp [cJ]
 |_::_,[],_,_,_=>by simp [cJ]
theorem least_end{cap:Int}(hc:0<=cap){ps:List aw}{zs:List bz}(E:zs≠ [])(j:∀a∈ps,0<=a.cC)(k:∀z∈zs,z.ca<=z.fTo)(t:Int):∃e∈ends zs,cJ cap ps zs e<=cJ cap ps zs t:=by
 have g:ends zs≠ []:=by
  match zs,E with
  |z::zs,_=>simp [ends]
 by_cases u:(ends zs).filter (fun e=>decide (e<=t))=[]
 ·obtain⟨m,h1,f⟩:=has_min g
  have:t<=m:=by
   apply HA
   intro h
   have:m∈(ends zs).filter (fun e=>decide (e<=t)):=List.mem_filter.2 ⟨h1,so⟩
   rw [u]at this;simp at this
  exact⟨m,h1,costS_left this ps zs j k f⟩
 by_cases C:(ends zs).filter (fun e=>decide (t<=e))=[]
 ·obtain⟨m,h1,f⟩:=has_max g
  have:m<=t:=by
   apply HA
   intro h
   have:m∈(ends zs).filter (fun e=>decide (t<=e)):=List.mem_filter.2 ⟨h1,so⟩
   rw [C]at this;simp at this
  exact⟨m,h1,costS_right this ps zs j k f⟩
 obtain⟨L,q,F⟩:=has_max u
 obtain⟨R,r,H⟩:=has_min C
 rw [HX]at q r
 have G:L<=t:=by simpa using q.2
 have I:t<=R:=by simpa using r.2
 have hl := costS_line hc G I ps zs j k (fun e he => by
  rcases GC e t with h|h
  ·exact .inl (F e (List.mem_filter.2 ⟨he,by simpa using h⟩))
  ·exact .inr (H e (List.mem_filter.2 ⟨he,by simpa using h⟩)))
 by_cases h1:cJ cap ps zs L<=cJ cap ps zs t
 ·exact⟨L,q.1,h1⟩
 by_cases f:cJ cap ps zs R<=cJ cap ps zs t
 ·exact⟨R,r.1,f⟩
 exfalso
 have D:L≠t:=fun h=>h1 (by rw [h];exact GB _)
 have J:(R-t)*(cJ cap ps zs t+1)<=(R-t)*cJ cap ps zs L:=Hj za za
 have K:(t-L)*(cJ cap ps zs t+1)<=(t-L)*cJ cap ps zs R:=Hj za za
 have k3:(R-t)*(cJ cap ps zs t+1)+(t-L)*(cJ cap ps zs t+1)=(R-L)*cJ cap ps zs t+(R-L):=by
  rw [<-Fy,show R-t+(t-L)=R-L by omega,GF];omega
 omega
theorem costS_mono{cap:Int}(t:Int):∀(ps:List aw)(zs f:List bz),(∀a∈ps,0<=a.cC)->zs.length=f.length->(∀(i:Nat)(h:i<zs.length)(r:i<f.length),zs[i].ca<=f[i].ca∧f[i].fTo<=zs[i].fTo)->cJ cap ps zs t<=cJ cap ps f t
 |a::ps,z::zs,y::f,g,hl,h=>by
  have u:=costS_mono (cap:=cap) t ps zs f (fun x k=>g x (by simp [k])) (by simpa using hl) (fun i h1 j=>h (i+1) (Ho h1) (Ho j))
  have q:=h 0 zc zc
  simp only [List.getElem_cons_zero]at q
  unfold cJ
  have:kj cap a.cC z t<=kj cap a.cC y t:=Hj (by unfold res;omega) (g a zc)
  omega
 | [],_,_,_,_,_=>by simp [cJ]
 |_::_,[],[],_,_,_=>by simp [cJ]
 |_::_,[],_::_,_,hl,_=>by simp at hl
 |_::_,_::_,[],_,hl,_=>by simp at hl
end Go.Dw.Re
set_option maxRecDepth 100000
set_option maxHeartbeats 4000000
namespace Go.Dw.Re
open Go.Dw Go.Proofs
theorem search_at{t:bg}(q:pM t)(d:Int)(H:d<=t.bQ*((t.bt.length:Int)-1)):Ok (gy (t.bd.length:Int) t d) (fun r=>(0<=r∧r<t.bd.length)∧d<=r*t.bQ∧∀k,0<=k->k<r->k*t.bQ<d):=by
 have hl:=q.len;have hs:=q.same;have F:=q.step
 unfold gy
 rw [Option.bind_fun_some]
 refine Gi (fun s=>∃i j:Nat,s=((i:Int),(j:Int))∧i<t.bd.length∧i<=j∧j<=t.bd.length∧(j<t.bd.length->d<=(j:Int)*t.bQ)∧∀k:Int,0<=k->k<i->k*t.bQ<d) (fun s=>(s.2-s.1).toNat) ?_ ⟨0,t.bd.length,rfl,za,za,DI _,fun h=>za,fun k C h1=>za⟩
 rintro s ⟨i,j,rfl,i0,i1,i2,i3,i4⟩
 unfold iN
 dsimp only
 refine Gl (fun g=>?_) (fun D=>Gt ⟨⟨za,za⟩,?_,i4⟩)
 rotate_left
 ·obtain rfl:i=j:=by omega
  exact i3 i0
 have u:=half_at (i+j) za
 rw [Int.natCast_add]at u
 have E:(i+j) / 2<j:=by omega
 have f:i<=(i+j) / 2:=by omega
 rw [u]
 generalize (i+j) / 2=k at*
 unfold iP
 have G:0<=(k:Int)*t.bQ∧(k:Int)*t.bQ<=30*100:=⟨GK za za,GI za za za za⟩
 rw [w64 (n:=(k:Int)*t.bQ) za za,ze]
 refine Ok.iteND (fun g=>?_) (fun hle=>Gk ⟨i,k,rfl,i0,f,za,fun _=>hle,i4⟩ zd)
 rw [w64 za za]
 refine Gk ⟨k+1,j,zc,?_,za,i2,i3,fun m C h1=>?_⟩ zd
 ·have h1:(k:Int)*t.bQ<t.bQ*((t.bt.length:Int)-1):=by omega
  rw [GH]at h1
  have:=Int.lt_of_mul_lt_mul_left h1 za
  omega
 ·have:m*t.bQ<=(k:Int)*t.bQ:=Hk za za
  omega
theorem between_at{t:bg}(j:pM t):∀(a b:Int),0<=a->a<=b->b<=65535->Reach t b->∃x c u:Int,dp t a b=some (t.bt.getD (x.tdiv t.bQ).toNat 0,t.bd.getD u.toNat 0,0)∧(0<=x∧x.tdiv t.bQ<t.bt.length)∧(x*x<=a∧a<(x+1)*(x+1))∧(0<=c∧b<=c*c∧∀s,0<=s->b<=s*s->c<=s)∧(0<=u∧u<t.bd.length)∧c<=u*t.bQ∧(∀k,0<=k->k<u->k*t.bQ<c)∧c<=nG t:=by
 have hl:=j.len;have hs:=j.same;have T:=j.step
 have O:0<=t.bQ*((t.bt.length:Int)-1)∧t.bQ*((t.bt.length:Int)-1)<=100*30:=⟨GK za za,GI za za za za⟩
 intro a b L N C G
 have main:Ok (dp t a b) (fun r=>∃x c u:Int,r=(t.bt.getD (x.tdiv t.bQ).toNat 0,t.bd.getD u.toNat 0,0)∧(0<=x∧x.tdiv t.bQ<t.bt.length)∧(x*x<=a∧a<(x+1)*(x+1))∧(0<=c∧b<=c*c∧∀s,0<=s->b<=s*s->c<=s)∧(0<=u∧u<t.bd.length)∧c<=u*t.bQ∧(∀k,0<=k->k<u->k*t.bQ<c)∧c<=nG t):=by
  unfold dp
  rw [jk j,ze,if_neg zc]
  refine Gl (fun _=>za) (fun _=>Gl (fun _=>za) (fun _=>?_))
  refine Gf (ceil_ok b za C) (fun c hc=>?_)
  obtain⟨D,E,g⟩:=hc
  have f:c<=nG t:=g _ O.1 G
  unfold nU
  rw [ze,w64 (n:=(t.bt.length:Int)-1) za za,w64 za za]
  refine Gl (fun h=>by unfold nG at f;omega) (fun Y=>?_)
  refine Gf (search_at j c za) (fun u hu=>?_)
  refine Gf (floor_ok a za) (fun x U=>?_)
  obtain⟨⟨I,x1⟩,J,X⟩:=U
  have J:=J L
  have W:x<=c:=by
   apply HA
   intro h
   have:(c+1)*(c+1)<=x*x:=GI za za za za
   have h4:(c+1)*(c+1)=c*c+2*c+1:=by rw [Fy,GF];omega
   omega
  refine Gf (Ok.quo za) (fun q K=>?_)
  have F:0<=x.tdiv t.bQ:=GV I za
  have Q:x.tdiv t.bQ<=(t.bt.length:Int)-1:=by
   rw [GS I]
   exact Int.ediv_le_of_le_mul za (by rw [GH];omega)
  rw [w64 za za]at K
  subst K
  refine Gf (Gh F za) (fun p hp=>?_)
  refine Gf (Gh hu.1.1 hu.1.2) (fun r H=>Gq ⟨x,c,u,?_,⟨I,za⟩,⟨J,X⟩,⟨D.1,E,g⟩,hu.1,hu.2.1,hu.2.2,f⟩)
  rw [FO,FO,hp.2,H.2];rfl
 obtain⟨r,e,x,c,u,G,h⟩:=main
 exact⟨x,c,u,by rw [e,G],h⟩
theorem between_le{t:bg}(g:pM t){n f D k:Int}(L:0<=n)(h1:n<=D)(N:D<=k)(O:k<=f)(hf:f<=65535)(F:Reach t f):
  ∃lo hi r q,dp t n f=some (lo,hi,0)∧dp t D k=some (r,q,0)∧lo<=r∧q<=hi:=by
 have hl:=g.len;have hs:=g.same;have Q:=g.step
 have hb:0<=t.bQ*((t.bt.length:Int)-1)∧t.bQ*((t.bt.length:Int)-1)<=100*30:=⟨GK za za,GI za za za za⟩
 have E:Reach t k:=GD O F
 obtain⟨x,c,u,e,⟨H,x1⟩,⟨x2,x3⟩,⟨J,X,Y⟩,⟨U,u1⟩,u2,u3, -⟩:=between_at g n f L za hf F
 obtain⟨C,I,G,K,⟨W,y1⟩,⟨y2,y3⟩,⟨d0,d1,d2⟩,⟨v0,v1⟩,v2,v3, -⟩:=between_at g D k za N za E
 refine⟨_,_,_,_,e,K,?_,?_⟩
 ·have T:x<=C:=by
   apply HA
   intro h
   have:(C+1)*(C+1)<=x*x:=GI za za za za
   omega
  have hd:x.tdiv t.bQ<=C.tdiv t.bQ:=by
   rw [GS H,GS W]
   exact Int.ediv_le_ediv za T
  have k0:0<=x.tdiv t.bQ:=GV H za
  have:=asc_le g.low (i:=(x.tdiv t.bQ).toNat) (j:=(C.tdiv t.bQ).toNat) za za
  rw [FO,FO,zf za,zf za]
  exact this
 ·have hc:I<=c:=d2 _ J za
  have hu:G<=u:=by
   apply HA
   intro h
   have:=v3 u U za
   omega
  have:=asc_le g.high (i:=G.toNat) (j:=u.toNat) za za
  rw [FO,FO,zf za,zf za]
  exact this
theorem near_mono{r b:al}(h:Sub r b)(p:ag):oW r p<=oW b p:=by
 obtain⟨h1,j,q⟩:=h
 have k:∀x l h g f:Int,g<=l->l<=h->h<=f->ne x g f*ne x g f<=ne x l h*ne x l h:=fun x l h g f a b c=>sq_le (by unfold ne;omega) (by unfold ne;omega)
 have:=k p.fX _ _ _ _ h1.1 h1.2.1 h1.2.2
 have:=k p.fY _ _ _ _ j.1 j.2.1 j.2.2
 have:=k p.fZ _ _ _ _ q.1 q.2.1 q.2.2
 unfold oW;omega
theorem Sub.trans{a b c:al}(h:Sub a b)(f:Sub b c):Sub a c:=by
 obtain⟨h1,g,j⟩:=h
 obtain⟨k,q,k3⟩:=f
 exact⟨⟨za,za,za⟩,⟨za,za,za⟩,za,za,za⟩
noncomputable def zn (q:ak) (b:al) (a:aw):bz:=((eI q.bG b a).getD (⟨0,0⟩,0)).1
theorem zn_at{q:ak}(j:PV q){b:al}(h:Sub q.bj b){a:aw}(g:a∈q.bM):eI q.bG b a=some (zn q b a,0)∧fT (zn q b a):=by
 obtain⟨r,e,h1,f⟩:=sub_zone j h g
 unfold zn
 rw [e]
 exact⟨by rw [<-h1];rfl,f⟩
theorem zn_le{q:ak}(f:PV q){b c:al}(h:Sub q.bj b)(D:Sub b c){a:aw}(Q:a∈q.bM):(zn q b a).ca<=(zn q c a).ca∧(zn q c a).fTo<=(zn q b a).fTo:=by
 obtain⟨U,T⟩:=f.ph a Q
 have g:=h.ok f.box f.reg
 have hc:=(h.trans D).ok f.box f.reg
 obtain⟨hp,W,X,Y,I⟩:=U
 have E:gq a=some true:=by
  refine Gg ?_
  unfold gq
  rw [lm hp,ze,if_pos rfl,if_pos (by simpa using W),if_pos (by simpa using X),if_pos (by simpa using Y),if_pos (by simp [I])]
  exact Gq (by simp [I])
 obtain⟨n1,H, -⟩:=rf g hp
 obtain⟨f1, -,f3⟩:=Far_at g hp
 obtain⟨m1,m2, -⟩:=rf hc hp
 obtain⟨g1, -,g3⟩:=Far_at hc hp
 obtain⟨lo,hi,C,u,G,e2,l1,l2⟩:=between_le f.tab H (near_mono D a.bw) (qk hc _) (far_mono D a.bw) za (GD (far_mono h _) T)
 have J:∀{b:al}(g:gY b){lo hi:Int},gh b a.bw=some (oW b a.bw)->jr b a.bw=some (oL b a.bw)->dp q.bG (oW b a.bw) (oL b a.bw)=some (lo,hi,0)->
   eI q.bG b a=some (⟨Fb .i64 (a.bu-hi),Fb .i64 (a.co-lo)⟩,0):=by
  intro b g lo hi h1 N O
  unfold eI
  rw [jk f.tab,ze,if_neg zc,eP g,ze,if_neg zc,E,ze,if_neg zc]
  unfold mo nj
  rw [jk f.tab,ze,if_neg zc,eP g,ze,if_neg zc,lm hp,ze,if_neg zc,h1,N]
  simp only [ze]
  rw [O];rfl
 have K:Ok (dp q.bG (oW b a.bw) (oL b a.bw)) _:=pp f.tab _ _ H (qk g _) za
 have L:Ok (dp q.bG (oW c a.bw) (oL c a.bw)) _:=pp f.tab _ _ m2 (qk hc _) za
 obtain⟨r,e,j⟩:=K
 obtain⟨r',F,k⟩:=L
 rw [G]at e;rw [e2]at F
 cases e;cases F
 have j:=j.2 rfl
 have k:=k.2 rfl
 have z1:zn q b a=⟨Fb .i64 (a.bu-hi),Fb .i64 (a.co-lo)⟩:=by unfold zn;rw [J g n1 f1 G];rfl
 have z2:zn q c a=⟨Fb .i64 (a.bu-u),Fb .i64 (a.co-C)⟩:=by unfold zn;rw [J hc m1 g1 e2];rfl
 rw [z1,z2]
 simp only at j k⊢
 rw [w64 (n:=a.bu-hi) za za,w64 (n:=a.bu-u) za za,w64 (n:=a.co-lo) za za,w64 (n:=a.co-C) za za]
 omega
theorem zones_at{q:ak}(f:PV q){b:al}(h:Sub q.bj b):ip q b=some (q.bM.map (zn q b),0):=by
 have hl:=f.len
 refine Gg ?_
 unfold ip
 rw [oF f,ze,if_neg zc,within_at f.box f.reg h,ze,if_neg zc]
 refine Gf (P:=fun r=>r=(q.bM.map (zn q b),0)) ?_ (fun r k=>by subst k;exact Gq rfl)
 unfold nS
 refine Gf (Ok.mkC za za za za) (fun x u=>?_)
 subst u
 refine Gf (P:=fun o=>o= .inl (q.bM.map (zn q b))) (Gi (fun s:Int×List bz=>(0<=s.1∧s.1<=q.bM.length)∧s.2=(q.bM.take s.1.toNat).map (zn q b)) (fun s=>((q.bM.length:Int)-s.1).toNat) ?_ ⟨⟨zc,zc⟩,zc⟩) (fun o ho=>by subst ho;exact Gq rfl)
 rintro⟨s2,E⟩ ⟨⟨i0,i1⟩,i2⟩
 simp only at i0 i1 i2
 subst i2
 unfold lj
 refine Gl (fun j=>?_) (fun _=>Gt ?_)
 rotate_left
 ·rw [Hg za]
 refine Gf (Gh za za) (fun a g=>?_)
 rw [(zn_at f h g.1).1,ze,if_neg zc]
 have D:(Fa (zn q b) (Hb s2.toNat q.bM)).length<=64:=by rw [Ey,E1];omega
 refine Gf (Ge (by simp only [D4,D5];omega)) (fun y C=>?_)
 subst C
 rw [w64 za za]
 refine Gk ⟨⟨zd,zd⟩,?_⟩ zd
 simp only
 rw [show(s2+1).toNat=s2.toNat+1 by omega,Hd,g.2]
 simp
theorem res_at{z:bz}(f:fT z){t:Int}(g: -5000<=t∧t<=18014398509481984):gT z t=some (res z t):=by
 obtain⟨j,z2,z3⟩:=f
 unfold gT
 rw [w64 (n:=t-z.fTo) za za,w64 (n:=z.ca-t) za za]
 congr 1
 unfold res
 split<;>split<;>omega
theorem pq{cap:Int}(hc:0<=cap){t:Int}:∀(ps:List aw)(zs:List bz),(∀a∈ps,0<=a.cC)->0<=cJ cap ps zs t
 |a::ps,z::zs,f=>by
  have j:=pq hc (t:=t) ps zs (fun x g=>f x (by simp [g]))
  have k:0<=kj cap a.cC z t:=GK (f a zc) (by unfold res;omega)
  unfold cJ;omega
 | [],_,_=>by simp [cJ]
 |_::_,[],_=>by simp [cJ]
theorem cost_at{q:ak}(g:PV q){l:List bz}(D:l.length=q.bM.length)(H:∀z∈l,fT z){t:Int}(G: -5000<=t∧t<=18014398509481984):kJ q l t=some (cJ q.dv q.bM l t):=by
 have hl:=g.len;have hc:=g.cap
 refine Gg ?_
 unfold kJ
 refine Gf (P:=fun o=>o=cJ q.dv q.bM l t) (Gi (fun s:Int×Int=>(0<=s.2∧s.2<=q.bM.length)∧(0<=s.1∧s.1<=1000*s.2)∧s.1+cJ q.dv (q.bM.drop s.2.toNat) (l.drop s.2.toNat) t=cJ q.dv q.bM l t) (fun s=>((q.bM.length:Int)-s.2).toNat) ?_ ⟨⟨zc,zc⟩,⟨zc,zc⟩,zc⟩) (fun o ho=>by subst ho;exact Gq rfl)
 rintro⟨s1,s2⟩ ⟨⟨i0,i1⟩,⟨i2,i3⟩,i4⟩
 simp only at i0 i1 i2 i3 i4
 unfold lQ
 refine Gl (fun E=>?_) (fun C=>Gt ?_)
 rotate_left
 ·rw [List.drop_eq_nil_of_le za]at i4
  simp [cJ]at i4;exact i4
 refine Gf (Gh za za) (fun a j=>?_)
 refine Gl (fun F=>?_) (fun h=>za)
 refine Gf (Gh za za) (fun z f=>?_)
 rw [res_at (H z f.1) G,ze,w64 (n:=s2+1) za za]
 have hw:a.cC=1:=(g.ph a j.1).1.weight
 have k:(if res z t<q.dv then res z t else q.dv)=min q.dv (res z t):=by split<;>omega
 have K:0<=res z t:=by unfold res;omega
 have e2:kj q.dv a.cC z t=min q.dv (res z t):=by unfold kj;rw [hw,Hl]
 rw [k,hw,Hl,w64 (n:=min q.dv (res z t)) za za,w64 za za]
 refine Gk ⟨⟨zd,zd⟩,⟨zd,zd⟩,?_⟩ zd
 simp only
 rw [show(s2+1).toNat=s2.toNat+1 by omega]
 obtain⟨I,r⟩:=List.getElem?_eq_some_iff.1 j.2
 obtain⟨J,u⟩:=List.getElem?_eq_some_iff.1 f.2
 rw [GY I,GY J,r,u]at i4
 have i5:s1+(kj q.dv a.cC z t+cJ q.dv (q.bM.drop (s2.toNat+1)) (l.drop (s2.toNat+1)) t)=cJ q.dv q.bM l t:=i4
 rw [e2]at i5
 omega
structure BestE(q:ak)(l:List bz)(r:Int×Int):Prop where
 mem:r.1∈ends l
 cost:r.2=cJ q.dv q.bM l r.1
 least:∀e∈ends l,r.2<=cJ q.dv q.bM l e
theorem ends_snoc{l:List bz}{z:bz}:ends (l++[z])=ends l++[z.ca,z.fTo]:=by
 induction l with
 |nil=>rfl
 |cons y g f=>simp [ends,f]
theorem ends_len{l:List bz}:(ends l).length=2*l.length:=by
 induction l with
 |nil=>rfl
 |cons y g f=>simp [ends,f];omega
theorem best_at{q:ak}(H:PV q){l:List bz}(r:l.length=q.bM.length)(C:∀z∈l,fT z):Ok (kH q l) (BestE q l):=by
 have hl:=H.len
 have j:∀e∈ends l, -5000<=e∧e<=18014398509481984:=by
  intro e he
  obtain⟨z,h1,L⟩:=mem_ends.1 he
  obtain⟨z1,z2,z3⟩:=C z h1
  omega
 unfold kH
 rw [w64 (n:=2*(l.length:Int)) za za]
 refine Gf (Ok.mkC za za za za) (fun x U=>?_)
 subst U
 refine Gf (P:=fun o:List Int=>o=ends l) (Gi (fun s:Int×List Int=>(0<=s.1∧s.1<=l.length)∧s.2=ends (l.take s.1.toNat)) (fun s=>((l.length:Int)-s.1).toNat) ?_ ⟨⟨zc,zc⟩,by simp [ends]⟩) (fun o ho=>?_)
 ·rintro⟨s2,g⟩ ⟨⟨i0,i1⟩,i2⟩
  simp only at i0 i1 i2
  subst i2
  unfold mG
  refine Gl (fun F=>?_) (fun _=>Gt (by rw [Hg za]))
  refine Gf (Gh za za) (fun z C=>?_)
  have ht:(ends (Hb s2.toNat l)).length<=128:=by rw [ends_len,E1];omega
  refine Gf (Ge (by simp only [D4,D5];omega)) (fun y W=>?_)
  subst W
  rw [w64 za za]
  refine Gk ⟨⟨zd,zd⟩,?_⟩ zd
  simp only
  rw [show(s2+1).toNat=s2.toNat+1 by omega,Hd,C.2,Option.toList_some,ends_snoc]
 ·subst ho
  have Y:(ends l).length=2*l.length:=ends_len
  refine Gu (fun h=>za) (fun _=>?_)
  refine Gf (Gv za za) (fun _ _=>Gf (Gh za za) (fun J g14=>?_))
  refine Gf (Gv za za) (fun _ _=>Gf (Gh za za) (fun D g17=>?_))
  have E:D=J:=Ew (g17.2.symm.trans g14.2)
  subst E
  rw [cost_at H r C (j _ g17.1),ze]
  refine Gf (HD za za za) (fun _ _=>?_)
  refine Gf (Ok.lenv za za) (fun n G=>?_)
  have T:n=2*(l.length:Int)-1:=by simp at G;omega
  have I:∀(i:Nat)e,(ends l)[i]? =some e->i<1->e=D:=by
   intro i e h hi
   have:i=0:=by omega
   subst this
   exact Ew (h.symm.trans g17.2)
  refine Gf (P:=fun o=>BestE q l o) (Gi (fun s:Int×Int×Int=>(0<=s.2.2∧s.2.2<=n)∧s.1∈ends l∧s.2.1=cJ q.dv q.bM l s.1∧∀(i:Nat)e,(ends l)[i]? =some e->i<s.2.2.toNat+1->s.2.1<=cJ q.dv q.bM l e) (fun s=>(n-s.2.2).toNat) ?_ ⟨⟨zc,zd⟩,g17.1,rfl,fun i e h hi=>by rw [I i e h (by simpa using hi)];exact GB _⟩) (fun o ho=>Gq ho)
  rintro⟨s1,s2,g⟩ ⟨⟨i0,i1⟩,i2,i3,i4⟩
  simp only at i0 i1 i2 i3 i4
  unfold lP
  refine Gl (fun F=>?_) (fun Q=>Gt ⟨i2,i3,fun e he=>?_⟩)
  rotate_left
  ·obtain⟨i,hi,rfl⟩:=HS he
   exact i4 i _ (zf hi) za
  refine Gf (Ok.inv za za za) (fun _ _=>?_)
  refine Gf (Gh za za) (fun K f=>?_)
  rw [cost_at H r C (j _ f.1),ze]
  rw [w64 za za]
  have k:((0+(1:Int).toNat+g.toNat:Nat):Int).toNat=g.toNat+1:=by simp;omega
  rw [k]at f
  have A : ∀ (u v : Int), u ∈ ends l → v = cJ q.dv q.bM l u → v ≤ s2 → v ≤ cJ q.dv q.bM l K → Ok (some (.next (u, v, g + 1)) : Option (gB (Int × Int × Int) (Int × Int))) (Ok.S (fun s : Int × Int × Int => (0 ≤ s.2.2 ∧ s.2.2 ≤ n) ∧ s.1 ∈ ends l ∧ s.2.1 = cJ q.dv q.bM l s.1 ∧ ∀ (i : Nat) e, (ends l)[i]? = some e → i < s.2.2.toNat + 1 → s.2.1 ≤ cJ q.dv q.bM l e) (fun s => (n - s.2.2).toNat) (BestE q l) (s1, s2, g)) := fun u v h1 L N O => Gk ⟨⟨zd, zd⟩, h1, L, fun i e he hi => by
   simp only at hi⊢
   rw [show(g+1).toNat=g.toNat+1 by omega]at hi
   rcases Hm i (g.toNat+1)with h|h
   ·exact GD N (i4 i e he h)
   ·have:i=g.toNat+1:=by omega
    subst this
    rw [f.2]at he
    cases he;exact O⟩ zd
  refine Gl (fun h=>A _ _ f.1 rfl za (GB _)) (fun h=>Gu (fun X=>Gl (fun _=>A _ _ f.1 rfl za (GB _)) (fun _=>A _ _ i2 i3 (GB _) za)) (fun _=>A _ _ i2 i3 (GB _) za))
noncomputable def mis (q:ak) (p:ag):Int:=((jU q p).getD (0,0,0)).2.1
noncomputable def bnd (q:ak) (b:al):Int:=((f9 q b).getD (0,0)).1
theorem bnd_at{q:ak}(f:PV q){b:al}(h:Sub q.bj b):f9 q b=some (bnd q b,0)∧∃t,BestE q (q.bM.map (zn q b)) (t,bnd q b):=by
 obtain⟨r,e,j⟩:=best_at f (l:=q.bM.map (zn q b)) zc (fun z k=>by obtain⟨a,g,rfl⟩:=List.mem_map.1 k;exact(zn_at f h g).2)
 have:f9 q b=some (r.2,0):=by unfold f9;rw [zones_at f h,ze,if_neg zc,e];rfl
 unfold bnd
 rw [this]
 exact⟨rfl,r.1,j⟩
theorem qc{q:ak}(f:PV q){p:ag}(h:Sub q.bj ⟨p,p⟩):∃t,jU q p=some (t,mis q p,0)∧BestE q (q.bM.map (zn q ⟨p,p⟩)) (t,mis q p):=by
 obtain⟨r,e,j⟩:=best_at f (l:=q.bM.map (zn q ⟨p,p⟩)) zc (fun z k=>by obtain⟨a,g,rfl⟩:=List.mem_map.1 k;exact(zn_at f h g).2)
 have:jU q p=some (r.1,r.2,0):=by unfold jU;rw [zones_at f h,ze,if_neg zc,e];rfl
 unfold mis
 rw [this]
 exact⟨_,rfl,j⟩
theorem bnd_le{q:ak}(f:PV q){b:al}(h:Sub q.bj b){p:ag}(hp:Sub b ⟨p,p⟩):bnd q b<=mis q p:=by
 obtain⟨-,t,h1,j,k⟩:=bnd_at f h
 obtain⟨t', -,u,C,k3⟩:=qc f (h.trans hp)
 simp only at h1 j k u C k3
 have hl:=f.len;have hc:=f.cap
 have hw:∀a∈q.bM,0<=a.cC:=fun a g=>by have:=(f.ph a g).1.weight;omega
 obtain⟨e,he,hle⟩:=least_end (cap:=q.dv) za (ps:=q.bM) (zs:=q.bM.map (zn q b)) (by intro h;simp at h;simp [h]at hl) hw (fun z r=>by obtain⟨a,g,rfl⟩:=List.mem_map.1 r;exact(zn_at f h g).2.2.1) t'
 have hm := costS_mono (cap := q.dv) t' q.bM (q.bM.map (zn q b)) (q.bM.map (zn q ⟨p, p⟩)) hw zc (fun i h1 j => by
  simp only [G3]
  exact zn_le f h hp (EJ _))
 have:=k e he
 omega
end Go.Dw.Re
set_option maxRecDepth 100000
set_option maxHeartbeats 4000000
namespace Go.Dw.Re
open Go.Dw Go.Proofs
def leI(a b:Item):Prop:=a.dF<b.dF∨(a.dF=b.dF∧a.mA<=b.mA)
instance (a b:Item):Decidable (leI a b):=by unfold leI;exact inferInstance
theorem rt(a:Item):leI a a:=by unfold leI;omega
theorem qv{a b c:Item}(h:leI a b)(f:leI b c):leI a c:=by unfold leI at*;omega
theorem leI_total{a b:Item}(h:¬leI a b):leI b a:=by unfold leI at*;omega
def it0:Item:=⟨⟨⟨0,0,0⟩,⟨0,0,0⟩⟩,0,0⟩
def at_(d:List Item)(i:Nat):Item:=d.getD i it0
theorem oJ{d:List Item}{i:Nat}{x:Item}(h:d[i]? =some x):at_ d i=x:=by
 unfold at_;rw [FO,h];rfl
theorem cmp_or2(a b:Int):dI [a,b]=some (if a≠0 then a else b):=by
 unfold dI
 rw [show((0:Int))=((0:Nat):Int)from rfl,Sd.or_go (l:=[a,b]) (n:=0) (r:=[a,b]) zc za zc]
 by_cases h1:a=0
 ·by_cases f:b=0
  ·simp [h1,f]
  ·simp [h1,f]
 ·simp [h1]
theorem less_at{d:List Item}{i j:Int}(hi:0<=i∧i<d.length)(f:0<=j∧j<d.length):kL d i j=some (decide (¬leI (at_ d j.toNat) (at_ d i.toNat))):=by
 refine Gg ?_
 unfold kL
 refine Gf (Gh hi.1 hi.2) (fun a q=>?_)
 refine Gf (Gh f.1 f.2) (fun b r=>?_)
 rw [Sd.lL,ze]
 refine Gf (Gh hi.1 hi.2) (fun u g=>?_)
 refine Gf (Gh f.1 f.2) (fun b' k=>?_)
 rw [Sd.lL,ze]
 obtain rfl:u=a:=Ew (g.2.symm.trans q.2)
 obtain rfl:b'=b:=Ew (k.2.symm.trans r.2)
 rw [cmp_or2,oJ q.2,oJ r.2]
 refine Gq ?_
 rw [decide_eq_decide]
 unfold leI sX
 split<;>split<;>(try split)<;>(try split)<;>omega
theorem swap_at{d:List Item}{i j:Int}(hi:0<=i∧i<d.length)(f:0<=j∧j<d.length):
  Ok (kM i j d) (fun r=>r.Perm d∧∀k:Nat,at_ r k=if k=j.toNat then at_ d i.toNat else if k=i.toNat then at_ d j.toNat else at_ d k):=by
 unfold kM
 refine Gf (Gv f.1 f.2) (fun _ _=>Gf (Gh f.1 f.2) (fun a q=>?_))
 refine Gf (Gv hi.1 hi.2) (fun _ _=>Gf (Gh hi.1 hi.2) (fun b u=>?_))
 refine Gf (Gv hi.1 hi.2) (fun _ _=>Gf (Gs hi.1 hi.2) (fun e he=>?_))
 subst he
 refine Gf (Gv f.1 (by simpa using f.2)) (fun _ _=>Gf (Gs f.1 (by simpa using f.2)) (fun e he=>?_))
 subst he
 have h1:i.toNat<d.length:=by omega
 have C:j.toNat<d.length:=by omega
 have D:=oJ q.2
 have E:=oJ u.2
 obtain⟨_,rfl⟩:=List.getElem?_eq_some_iff.1 q.2
 obtain⟨_,rfl⟩:=List.getElem?_eq_some_iff.1 u.2
 refine Gq ⟨H7 h1 C,fun k=>?_⟩
 split
 ·rename_i hk;subst hk
  rw [E];exact oJ (by rw [D3 (by simpa using C)])
 ·rename_i hk
  split
  ·rename_i g;subst g
   rw [D];exact oJ (by rw [D2 (Ne.symm hk),D3 h1])
  ·rename_i g
   unfold at_
   rw [FO,FO,D2 (Ne.symm hk),D2 (Ne.symm g)]
def qJ(d:List Item)(n:Nat):Prop:=∀i,0<i->i<n->leI (at_ d ((i-1) / 2)) (at_ d i)
theorem qJ.root{d:List Item}{n:Nat}(h:qJ d n):∀i,i<n->leI (at_ d 0) (at_ d i):=by
 intro i
 induction i using Nat.strongRecOn with
 |_ i g=>
  intro hi
  by_cases f:i=0
  ·subst f;exact rt _
  ·exact qv (g ((i-1) / 2) za za) (h i za hi)
theorem up_heap{q:ak}{a b:Int}{f:Bool}{l:ap}{d:List Item}{j:Int}(O:0<=j∧j<d.length)(T:d.length<=1000)
  (h1:∀i,0<i->i<d.length->i≠j.toNat->leI (at_ d ((i-1) / 2)) (at_ d i)) (N:∀c,0<j.toNat->c<d.length->0<c->(c-1) / 2=j.toNat->leI (at_ d ((j.toNat-1) / 2)) (at_ d c)):
  Ok (pu j q a b f l d) (fun r=>r.Perm d∧qJ r d.length):=by
 unfold pu
 refine Gf (P:=fun o:List Item=>o.Perm d∧qJ o d.length) (Gi (fun s:Int×List Item=>(0<=s.1∧s.1<d.length)∧s.2.Perm d∧(∀i,0<i->i<d.length->i≠s.1.toNat->leI (at_ s.2 ((i-1) / 2)) (at_ s.2 i))∧(∀c,0<s.1.toNat->c<d.length->0<c->(c-1) / 2=s.1.toNat->leI (at_ s.2 ((s.1.toNat-1) / 2)) (at_ s.2 c))) (fun s=>s.1.toNat) ?_ ⟨O,List.Perm.refl _,h1,N⟩) (fun o ho=>Gq ho)
 rintro⟨s1,s2⟩ ⟨⟨i0,i1⟩,i2,i3,i4⟩
 simp only at i0 i1 i2 i3 i4
 have hlen:s2.length=d.length:=i2.length_eq
 unfold oD
 dsimp only
 rw [w64 (n:=s1-1) za za]
 have e:tI .i64 (s1-1) 2=some (if s1=0 then 0 else(s1-1) / 2):=by
  unfold tI
  rw [if_neg za]
  split
  ·rename_i h;subst h;rfl
  ·rw [GS za,w64 za za]
 rw [e,ze]
 refine Gu (fun he=>?_) (fun J=>?_)
 ·rw [ze]
  refine Gt ⟨i2,fun i k hi=>i3 i k hi ?_⟩
  split at he<;>omega
 have hp:s1≠0:=fun h=>J (by rw [if_pos h,h])
 rw [if_neg hp]
 have g:((s1-1) / 2).toNat=(s1.toNat-1) / 2:=by omega
 rw [less_at za za,ze]
 refine Gy (fun hf=>?_) (fun F=>?_)
 ·rw [ze]
  refine Gt ⟨i2,fun i k hi=>?_⟩
  by_cases h:i=s1.toNat
  ·subst h
   rw [<-g]
   simpa using hf
  ·exact i3 i k hi h
 ·have F:¬leI (at_ s2 ((s1-1) / 2).toNat) (at_ s2 s1.toNat):=by simpa using F
  have hle:=leI_total F
  rw [g]at hle
  refine Gf (swap_at za za) (fun y⟨Q,H⟩=>Gk ⟨⟨zd,zd⟩,Q.trans i2,?_,?_⟩ zd)
  ·simp only
   intro i k hi C
   rw [g]at C
   rw [H,H,g]
   by_cases u:i=s1.toNat
   ·subst u
    rw [if_pos rfl,if_neg za,if_pos rfl];exact hle
   ·rw [if_neg u,if_neg C]
    by_cases hc:(i-1) / 2=s1.toNat
    ·rw [if_pos hc]
     exact i4 i za hi k hc
    ·rw [if_neg hc]
     by_cases D:(i-1) / 2=(s1.toNat-1) / 2
     ·rw [if_pos D]
      have:=i3 i k hi u
      rw [D]at this
      exact qv hle this
     ·rw [if_neg D];exact i3 i k hi u
  ·simp only
   intro c k hc I G
   rw [g]at k G⊢
   rw [H,H,if_neg za,if_neg (by rw [g];omega),g]
   have K:=i3 ((s1.toNat-1) / 2) za za za
   by_cases E:c=s1.toNat
   ·rw [if_pos E];exact K
   ·rw [if_neg E,if_neg za]
    have L:=i3 c I hc E
    rw [G]at L
    exact qv K L
theorem down_heap{q:ak}{a b:Int}{f:Bool}{l:ap}{d:List Item}{n:Int}(T:0<=n∧n<d.length)(W:d.length<=1000)(h1:∀c,0<c->c<n.toNat->(c-1) / 2≠0->leI (at_ d ((c-1) / 2)) (at_ d c)):
  Ok (nY 0 n q a b f l d) (fun r=>(r.2.Perm d∧at_ r.2 n.toNat=at_ d n.toNat)∧qJ r.2 n.toNat):=by
 unfold nY
 let I:Int×List Item->Prop:=fun s=>(0<=s.1∧s.1<=n)∧(s.2.Perm d∧at_ s.2 n.toNat=at_ d n.toNat)∧(∀c,0<c->c<n.toNat->(c-1) / 2≠s.1.toNat->leI (at_ s.2 ((c-1) / 2)) (at_ s.2 c))∧(∀c,0<s.1.toNat->0<c->c<n.toNat->(c-1) / 2=s.1.toNat->leI (at_ s.2 ((s.1.toNat-1) / 2)) (at_ s.2 c))
 let Q:Int×List Item->Prop:=fun o=>(o.2.Perm d∧at_ o.2 n.toNat=at_ d n.toNat)∧qJ o.2 n.toNat
 refine Gf (P:=Q) (Gi I (fun s=>(n-s.1).toNat) ?_ ⟨⟨zc,T.1⟩,⟨List.Perm.refl _,rfl⟩,fun c k hc hp=>h1 c k hc hp,fun c k=>by simp at k⟩) (fun o ho=>Gq ho)
 rintro⟨s1,s2⟩ ⟨⟨i0,i1⟩,⟨i2,i3⟩,i4,i5⟩
 simp only at i0 i1 i2 i3 i4 i5
 have hlen:s2.length=d.length:=i2.length_eq
 unfold oM
 dsimp only
 rw [w64 (n:=2*s1) za za,w64 (n:=2*s1+1) za za,w64 (n:=2*s1+1+1) za za]
 refine Gl (fun N=>Gt ⟨⟨i2,i3⟩,fun c k hc=>i4 c k hc za⟩) (fun J=>Gl (fun _=>za) (fun _=>?_))
 have K:∀j:Int,(j=2*s1+1∨j=2*s1+2)->j<n->(∀c,0<c->c<n.toNat->(c-1) / 2=s1.toNat->leI (at_ s2 j.toNat) (at_ s2 c))->Ok (gi s2 s1 j) (Ok.S I (fun s=>(n-s.1).toNat) Q (s1,s2)):=fun j X O D=>by
  unfold gi
  rw [less_at za za,ze]
  refine Gy (fun hf=>Gt ⟨⟨i2,i3⟩,fun c k hc=>?_⟩) (fun u=>?_)
  ·have hf:leI (at_ s2 s1.toNat) (at_ s2 j.toNat):=by simpa using hf
   by_cases g:(c-1) / 2=s1.toNat
   ·rw [g];exact qv hf (D c k hc g)
   ·exact i4 c k hc g
  ·have u:¬leI (at_ s2 s1.toNat) (at_ s2 j.toNat):=by simpa using u
   have hle:=leI_total u
   refine Gf (swap_at za za) (fun y⟨U,G⟩=>Gk ⟨⟨zd,zd⟩,⟨U.trans i2,?_⟩,?_,?_⟩ zd)
   ·simp only
    rw [G,if_neg za,if_neg za];exact i3
   ·simp only
    intro c k hc g
    rw [G,G]
    by_cases F:c=j.toNat
    ·rw [if_pos F,if_neg za,if_pos za];exact hle
    rw [if_neg F,if_neg g]
    by_cases C:(c-1) / 2=s1.toNat
    ·rw [if_pos C,if_neg za];exact D c k hc C
    rw [if_neg C]
    by_cases E:c=s1.toNat
    ·rw [if_pos E]
     have:=i5 j.toNat za za za za
     rw [E];exact this
    ·rw [if_neg E];exact i4 c k hc C
   ·simp only
    intro c k H hc g
    rw [G,G,if_neg za,if_pos za,if_neg za,if_neg za]
    have:=i4 c H hc za
    rw [g]at this;exact this
 have two:∀c,0<c->(c-1) / 2=s1.toNat->c=(2*s1+1).toNat∨c=(2*s1+1+1).toNat:=fun c k hc=>by omega
 refine Gl (fun L => ?_) (fun L => K _ (.inl rfl) za (fun c k hc g => by
  rcases two c k g with h|h
  ·rw [h];exact rt _
  ·omega))
 rw [less_at za za,ze]
 refine Gz (fun u=>?_) (fun hf=>?_)
 ·have u:¬leI (at_ s2 (2*s1+1).toNat) (at_ s2 (2*s1+1+1).toNat):=by simpa using u
  exact K _ (.inr za) za (fun c k hc g => by
   rcases two c k g with h|h
   ·rw [h];exact leI_total u
   ·rw [h];exact rt _)
 ·have hf:leI (at_ s2 (2*s1+1).toNat) (at_ s2 (2*s1+1+1).toNat):=by simpa using hf
  exact K _ (.inl rfl) za (fun c k hc g => by
   rcases two c k g with h|h
   ·rw [h];exact rt _
   ·rw [h];exact hf)
theorem at_take{d:List Item}{n i:Nat}(h:i<n):at_ (d.take n) i=at_ d i:=by
 unfold at_
 rw [FO,FO,List.getElem?_take,if_pos h]
theorem pop_heap{q:ak}{a b:Int}{f:Bool}{l:ap}{x:Item}{d:List Item}(H:(x::d).length<=1000)(I:qJ (x::d) (d.length+1)):Ok (n9 q a b f l (x::d)) (fun r=>r.2.Perm d∧qJ r.2 d.length):=by
 have hlen:((x::d).length:Int)=d.length+1:=by simp
 simp only [D4]at H
 unfold n9 jV
 rw [ze]
 rw [hlen,w64 (n:=(d.length:Int)+1-1) za za]
 refine Gf (swap_at za za) (fun y⟨C,u⟩=>?_)
 have K:y.length=d.length+1:=by have:=C.length_eq;simpa using this
 have j:((d.length:Int)+1-1).toNat=d.length:=by omega
 refine Gf (down_heap za za (fun c k hc hp=>?_)) (fun z⟨⟨D,z2⟩,z3⟩=>?_)
 ·rw [j]at hc
  rw [u,u,j,if_neg za,if_neg (by simpa using hp),if_neg za,if_neg so]
  exact I c k za
 have L:z.2.length=d.length+1:=by rw [D.length_eq,K]
 unfold qx
 rw [L,w64 (n:=((d.length+1:Nat):Int)-1) za za]
 refine Gf (P:=fun r:Item×List Item=>r.2.Perm d∧qJ r.2 d.length) ?_ (fun r J=>Gq J)
 refine Gf (Gv za za) (fun _ _=>Gf (Gh za za) (fun w _=>?_))
 refine Gf (HD za za za) (fun _ _=>Gq ?_)
 simp only
 rw [show(((d.length+1:Nat):Int)-1).toNat=d.length by omega]
 rw [j]at z2 z3
 have e:at_ z.2 d.length=x:=by
  rw [z2,u,j,if_pos rfl];rfl
 have g:d.length<z.2.length:=by omega
 have e:z.2[d.length]=x:=by rw [<-oJ (zf g)];exact e
 have E:z.2=z.2.take d.length++[x]:=by
  conv=>lhs;rw [<-He d.length z.2]
  rw [GY g,e,HI za]
 have F:(z.2.take d.length++[x]).Perm (x::d):=by rw [<-E];exact D.trans C
 have G:(x::z.2.take d.length).Perm (x::d):=(H2 (l₁:=[x])).trans F
 refine⟨(H3 x).1 G,fun i k hi=>?_⟩
 rw [at_take za,at_take hi]
 exact z3 i k hi
theorem at_snoc{d:List Item}{x:Item}{i:Nat}(h:i<d.length):at_ (d++[x]) i=at_ d i:=by
 unfold at_
 rw [FO,FO,List.getElem?_append_left h]
theorem push_heap{q:ak}{a b:Int}{f:Bool}{l:ap}{x:Item}{d:List Item}(G:d.length<=500)(D:qJ d d.length):Ok (lY x q a b f l d) (fun r=>r.Perm (x::d)∧qJ r (d.length+1)):=by
 unfold lY oE jV
 refine Gf (P:=fun r=>r=d++[x]) (Gf (Ge (by simp only [D4,D5];omega)) (fun r g=>Gq g)) (fun y F=>?_)
 subst F
 rw [ze]
 have hl:((d++[x]).length:Int)=d.length+1:=by simp
 have j:(d++[x]).length=d.length+1:=by simp
 rw [hl,w64 za za]
 refine Gf (up_heap za so (fun i k hi E=>?_) (fun c k hc u C=>?_)) (fun r g=>Gq ⟨g.1.trans (H2 (l₂:=[x])),by rw [<-j];exact g.2⟩)
 ·have:i<d.length:=by omega
  rw [at_snoc za,at_snoc this]
  exact D i k this
 ·omega
theorem push1_heap{q:ak}{a b:Int}{f:Bool}{l:ap}{x:Item}:Ok (mZ x q a b f l) (fun r=>r.Perm [x]∧qJ r 1):=by
 unfold mZ pB jV
 refine Gf (P:=fun r=>r=[x]) (Gf (Ge zc) (fun r g=>Gq g)) (fun y j=>?_)
 subst j
 rw [ze]
 rw [w64 zc zc]
 exact Gf (up_ok zc zc) (fun r g=>Gq ⟨g,fun i k hi=>za⟩)
end Go.Dw.Re
set_option maxRecDepth 100000
set_option maxHeartbeats 4000000
namespace Go.Dw.Re
open Go.Dw Go.Proofs
abbrev In(b:al)(p:ag):Prop:=Sub b ⟨p,p⟩
theorem center_at{r b:al}(q:gY r)(hp:fV 20 r.bt)(h:Sub r b):Ok (gQ b) (fun p=>In b p∧(pts b<2->∀x,In b x->x=p)):=by
 have f:=h.ok q hp
 obtain⟨⟨H,I,J⟩,h1,C,D⟩:=nN f
 obtain⟨-,s1,s2,U⟩:=id f
 obtain⟨x,y,z⟩:=h
 unfold gQ b8 cf
 rw [eP f,ze,if_neg zc,ze,ze]
 simp only
 rw [nF za,ze,nF za,ze,nF za,ze]
 refine Gq ⟨⟨zd,zd,zd⟩,fun k p g=>?_⟩
 have one:∀{a b c:Int},1<=a->1<=b->1<=c->a*b*c<2->a=1∧b=1∧c=1:=by
  intro a b c j f hc h
  have u:1<=a*b:=by have:=GI j f za (by omega:(0:Int)<=a);omega
  have E:a*b<=a*b*c:=by have:=Hj hc (by omega:0<=a*b);omega
  have k3:c<=a*b*c:=by have:=Hk u (by omega:0<=c);omega
  have F:a<=a*b:=by have:=Hj f (by omega:0<=a);omega
  have G:b<=a*b:=by have:=Hk j (by omega:0<=b);omega
  omega
 obtain⟨K,L,N⟩:=one (a:=b.bd.fX-b.bt.fX+1) (b:=b.bd.fY-b.bt.fY+1) (c:=b.bd.fZ-b.bt.fZ+1) za za za k
 obtain⟨O,Q,T⟩:=p
 obtain⟨i1,i2,i3⟩:=g
 simp only at i1 i2 i3
 congr 1<;>omega
theorem split_cover{r b:al}(G:gY r)(hp:fV 20 r.bt)(h:Sub r b):Ok (fA b) (fun s=>(s.2.2=true->(Sub r s.1∧Sub r s.2.1∧pts s.1+pts s.2.1=pts b)∧∀p,In b p->In s.1 p∨In s.2.1 p)∧(s.2.2=false->pts b<2)):=by
 have L:=split_ok G hp h
 have q:=h.ok G hp
 obtain⟨⟨Q,T,U⟩,h1,j,O⟩:=nN q
 have C:=points_at q
 obtain⟨-,s1,s2,W⟩:=id q
 obtain⟨x,y,z⟩:=h
 suffices hs:Ok (fA b) (fun s=>(s.2.2=true->∀p,In b p->In s.1 p∨In s.2.1 p)∧(s.2.2=false->pts b<2))by
  obtain⟨s,e,k⟩:=hs
  obtain⟨s',E,k'⟩:=L
  rw [e]at E;cases E
  exact⟨s,e,fun H=>⟨k' H,k.1 H⟩,k.2⟩
 unfold fA b8 cf
 rw [C,ze]
 refine Gl (fun u=>Gq ⟨zc,fun _=>u⟩) (fun N=>?_)
 have F:=one_side (x:=b.bd.fX-b.bt.fX+1) (y:=b.bd.fY-b.bt.fY+1) (z:=b.bd.fZ-b.bt.fZ+1) za za za (by unfold pts at N;omega)
 simp only [ze]
 rw [w64 (n:=b.bd.fX-b.bt.fX) za za,w64 (n:=b.bd.fY-b.bt.fY) za za,w64 (n:=b.bd.fZ-b.bt.fZ) za za]
 have J:2<=b.bd.fX-b.bt.fX+1->Ok ((cw b.bt.fX b.bd.fX).bind fun g=>some (al.mk b.bt (ag.mk g b.bd.fY b.bd.fZ),al.mk (ag.mk (Fb .i64 (g+(1:Int))) b.bt.fY b.bt.fZ) b.bd,true)) (fun s:al×al×Bool=>(s.2.2=true->∀p,In b p->In s.1 p∨In s.2.1 p)∧(s.2.2=false->pts b<2)):=fun j=>by
  rw [nF za,ze,w64 za za]
  refine Gq ⟨fun _ p⟨i1,i2,i3⟩=>?_,zc⟩
  simp only at i1 i2 i3
  rcases Hh (b.bt.fX+(b.bd.fX-b.bt.fX) / 2) p.fX with h|h
  ·right;exact⟨zd,zd,zd⟩
  ·left;exact⟨zd,zd,zd⟩
 have K:2<=b.bd.fY-b.bt.fY+1->Ok ((cw b.bt.fY b.bd.fY).bind fun f=>some (al.mk b.bt (ag.mk b.bd.fX f b.bd.fZ),al.mk (ag.mk b.bt.fX (Fb .i64 (f+(1:Int))) b.bt.fZ) b.bd,true)) (fun s:al×al×Bool=>(s.2.2=true->∀p,In b p->In s.1 p∨In s.2.1 p)∧(s.2.2=false->pts b<2)):=fun j=>by
  rw [nF za,ze,w64 za za]
  refine Gq ⟨fun _ p⟨i1,i2,i3⟩=>?_,zc⟩
  simp only at i1 i2 i3
  rcases Hh (b.bt.fY+(b.bd.fY-b.bt.fY) / 2) p.fY with h|h
  ·right;exact⟨zd,zd,zd⟩
  ·left;exact⟨zd,zd,zd⟩
 have D:2<=b.bd.fZ-b.bt.fZ+1->Ok ((cw b.bt.fZ b.bd.fZ).bind fun I=>some (al.mk b.bt (ag.mk b.bd.fX b.bd.fY I),al.mk (ag.mk b.bt.fX b.bt.fY (Fb .i64 (I+(1:Int)))) b.bd,true)) (fun s:al×al×Bool=>(s.2.2=true->∀p,In b p->In s.1 p∨In s.2.1 p)∧(s.2.2=false->pts b<2)):=fun j=>by
  rw [nF za,ze,w64 za za]
  refine Gq ⟨fun _ p⟨i1,i2,i3⟩=>?_,zc⟩
  simp only at i1 i2 i3
  rcases Hh (b.bt.fZ+(b.bd.fZ-b.bt.fZ) / 2) p.fZ with h|h
  ·right;exact⟨zd,zd,zd⟩
  ·left;exact⟨zd,zd,zd⟩
 exact Gl (fun _=>Gl (fun _=>D za) (fun _=>K za)) (fun _=>Gl (fun _=>D za) (fun _=>J za))
structure Op(q:ak)(d:List Item):Prop where
 sub:nI q.bj d
 bound:∀x∈d,x.dF=bnd q x.mT
 heap:qJ d d.length
structure Bst(q:ak)(l:ap):Prop where
 inn:In q.bj l.bO
 val:jU q l.bO=some (l.bT,l.cb,0)
def Cover(q:ak)(f:Bool)(l:ap)(d:List Item):Prop:=∀p,In q.bj p->(∃x∈d,In x.mT p)∨(f=true∧l.cb<=mis q p)
theorem bst_mis{q:ak}(f:PV q){l:ap}(h:Bst q l):l.cb=mis q l.bO:=by
 obtain⟨t,e, -⟩:=qc f h.inn
 rw [h.val]at e
 exact(Prod.mk.inj (Prod.mk.inj (Ew e)).2).1
theorem add_at{q:ak}(D:PV q){b:al}(u:Sub q.bj b){n k:Int}{f:Bool}{l:ap}{d:List Item}(C:d.length<=500)(ho:Op q d):Ok (kV b q n k f l d) (fun r=>r.1=0∧Op q r.2.2∧∃x:Item,x.mT=b∧r.2.2.Perm (x::d)):=by
 unfold kV mO
 rw [(bnd_at D u).1,ze]
 refine Gu (fun _=>?_) (fun h=>(h rfl).elim)
 refine Gf (push_heap C ho.heap) (fun r⟨g,E⟩=>Gq ⟨rfl,⟨fun x j=>?_,fun x j=>?_,?_⟩,_,rfl,g⟩)
 ·rcases List.mem_cons.1 (g.mem_iff.1 j)with rfl|h
  ·exact u
  ·exact ho.sub x h
 ·rcases List.mem_cons.1 (g.mem_iff.1 j)with rfl|h
  ·rfl
  ·exact ho.bound x h
 ·have:r.length=d.length+1:=by rw [g.length_eq];rfl
  show qJ r r.length
  rw [this];exact E
theorem add1_at{q:ak}(C:PV q){b:al}(u:Sub q.bj b){n k:Int}{f:Bool}{l:ap}:Ok (nf b q n k f l) (fun r=>r.1=0∧Op q r.2.1∧∃x:Item,x.mT=b∧r.2.1.Perm [x]):=by
 unfold nf nv
 rw [(bnd_at C u).1,ze]
 refine Gu (fun _=>?_) (fun h=>(h rfl).elim)
 refine Gf push1_heap (fun r⟨g,D⟩=>Gq ⟨rfl,⟨fun x j=>?_,fun x j=>?_,?_⟩,_,rfl,g⟩)
 ·rw [List.mem_singleton.1 (g.mem_iff.1 j)];exact u
 ·rw [List.mem_singleton.1 (g.mem_iff.1 j)]
 ·have:r.length=1:=by rw [g.length_eq];rfl
  show qJ r r.length
  rw [this];exact D
theorem look_at{q:ak}(J:PV q){b:al}(F:Sub q.bj b){n k:Int}{f:Bool}{l:ap}{d:List Item}(hf:f=true->Bst q l):
  Ok (me b q n k f l d) (fun r=>r.1=0∧r.2.1=true∧Bst q r.2.2∧(f=true->r.2.2.cb<=l.cb)∧(pts b<2->∀p,In b p->r.2.2.cb<=mis q p)):=by
 unfold me
 refine Gf (center_at J.box J.reg F) (fun p⟨hp,E⟩=>?_)
 obtain⟨t,e, -⟩:=qc J (F.trans hp)
 have C:∀(g:pts b<2)x,In b x->mis q p=mis q x:=fun g x j=>by rw [E g x j]
 rw [e,ze]
 refine Gw (fun h=>(h rfl).elim) (fun _=>?_)
 have G:Bst q (ap.mk p t (mis q p) 0 (al.mk (ag.mk 0 0 0) (ag.mk 0 0 0))):=⟨F.trans hp,e⟩
 refine Gy (fun D=>Gq ⟨rfl,rfl,G,fun h=>by rw [h]at D;simp at D,fun g x j=>by rw [C g x j];exact GB _⟩) (fun u=>?_)
 refine Gl (fun I=>Gq ⟨rfl,rfl,G,fun _=>by simp only at I⊢;omega,fun g x j=>by rw [C g x j];exact GB _⟩) (fun H=>?_)
 have dE:l.cb<=mis q p:=by simp only at H;omega
 refine Gu (fun heq=>?_) (fun _=>Gq ⟨rfl,u,hf u,fun _=>GB _,fun g x j=>by rw [<-C g x j];exact dE⟩)
 exact Gf (compare_ok _ _) (fun c _=>Gl (fun _=>Gq ⟨rfl,rfl,G,fun _=>by simp only at heq⊢;omega,fun g x j=>by rw [C g x j];exact GB _⟩) (fun _=>Gq ⟨rfl,u,hf u,fun _=>GB _,fun g x j=>by rw [<-C g x j];exact dE⟩))
theorem ended_at{t:Int}{q:ak}{n k:Int}{f:Bool}{l:ap}{d:List Item}(hs:∀x∈d,0<=x.dF∧x.dF<=1000000)(hl:f=true->0<=l.cb∧l.cb<=1000000):
  Ok (lp t q n k f l d) (fun r=>(r=false->d≠ [])∧(r=true->d=[]∨f=true∧l.cb-(at_ d 0).dF<=t)):=by
 unfold lp
 refine Gu (fun h=>Gq ⟨fun h=>by simp at h,fun _=>.inl (List.length_eq_zero_iff.1 za)⟩) (fun h=>?_)
 have g:d≠ []:=fun e=>h (by rw [e];rfl)
 have:=List.length_pos_iff.2 g
 refine Gz (fun hf=>?_) (fun _=>Gq ⟨fun _=>g,fun h=>by simp at h⟩)
 refine Gf (Gv za za) (fun _ _=>Gf (Gh za za) (fun x j=>Gq ⟨fun _=>g,fun h=>.inr ⟨hf,?_⟩⟩))
 have h1:=hs x j.1
 have u:=hl hf
 have e:at_ d 0=x:=oJ j.2
 rw [w64 za za]at h
 rw [e];simpa using h
theorem bnd_range{q:ak}(f:PV q){b:al}(h:Sub q.bj b):0<=bnd q b∧bnd q b<=1000000:=by
 obtain⟨-,t,h1,j, -⟩:=bnd_at f h
 simp only at h1 j
 have hl:=f.len;have hc:=f.cap
 have up:∀(ps:List aw)(zs:List bz),(∀a∈ps,a.cC=1)->cJ q.dv ps zs t<=1000*ps.length:=by
  intro ps
  induction ps with
  |nil=>intro zs _;simp [cJ]
  |cons a ps u=>
   intro zs hw
   cases zs with
   |nil=>simp [cJ];omega
   |cons z zs=>
    have k:=u zs (fun x r=>hw x (by simp [r]))
    show kj q.dv a.cC z t+cJ q.dv ps zs t<=_
    have:kj q.dv a.cC z t<=1000:=by unfold kj;rw [hw a zc,Hl];omega
    simp only [D4];omega
 have:=up q.bM (q.bM.map (zn q b)) (fun a g=>(f.ph a g).1.weight)
 have:=pq (cap:=q.dv) za (t:=t) q.bM (q.bM.map (zn q b)) (fun a g=>by have:=(f.ph a g).1.weight;omega)
 omega
theorem mis_bnd{q:ak}(f:PV q){p:ag}(h:In q.bj p):mis q p=bnd q ⟨p,p⟩:=by
 obtain⟨-,t,h1,k,g⟩:=bnd_at f h
 obtain⟨t', -,j,r,k3⟩:=qc f h
 have:=g _ j
 have:=k3 _ h1
 simp only at*
 omega
theorem mis_range{q:ak}(f:PV q){p:ag}(h:In q.bj p):0<=mis q p∧mis q p<=1000000:=by
 rw [mis_bnd f h];exact bnd_range f h
theorem step_at{q:ak}(j:PV q){n k:Int}{f:Bool}{l:ap}{d:List Item}(U:d≠ [])(ho:Op q d)(hk:0<=k∧k+cnt d<=300)(hf:f=true->Bst q l)(hc:Cover q f l d):
  Ok (mf q n k f l d) (fun r=>r.1=0∧r.2.2.1=k+1∧r.2.2.2.1=true∧Bst q r.2.2.2.2.1∧Op q r.2.2.2.2.2∧Cover q true r.2.2.2.2.1 r.2.2.2.2.2∧k+1+cnt r.2.2.2.2.2<=k+cnt d):=by
 match d,U with
 |x::d,_=>
  have hlen:=cnt_len j ho.sub
  have N:=ho.sub x zc
  have I:nI q.bj d:=fun y C=>ho.sub y (G5 _ C)
  have W:=pts_in (N.ok j.box j.reg)
  simp only [D4]at hlen
  unfold mf
  refine Gu (fun h=>za) (fun _=>?_)
  refine Gf (Gv za zc) (fun _ _=>?_)
  rw [show oc (x::d) (0:Int)=some x from rfl,ze]
  refine Gf (pop_heap (by simp only [D4];omega) (by simpa using ho.heap)) (fun y⟨C,O⟩=>?_)
  have E:y.2.length=d.length:=C.length_eq
  have F:Op q y.2:=⟨I.perm C,fun w hw=>ho.bound w (G5 _ (C.mem_iff.1 hw)),by rw [E];exact O⟩
  have Y:cnt y.2=cnt d:=nz C
  have H:cnt (x::d)=(2*pts x.mT-1)+cnt d:=rfl
  rw [w64 za za]
  refine Gf (look_at j N hf) (fun z⟨z1,z2,z3,z4,z5⟩=>?_)
  refine Gw (fun h=>(h z1).elim) (fun _=>?_)
  have D:∀p,In q.bj p->(∃w∈y.2,In w.mT p)∨z.2.2.cb<=mis q p∨In x.mT p:=fun p hp=>by
   rcases hc p hp with⟨w,hw,g⟩|⟨h1,T⟩
   ·rcases List.mem_cons.1 hw with rfl|hw
    ·exact .inr (.inr g)
    ·exact .inl ⟨w,C.mem_iff.2 hw,g⟩
   ·exact .inr (.inl (GD (z4 h1) T))
  refine Gf (split_cover j.box j.reg N) (fun s⟨hs,K⟩=>?_)
  refine Gy (fun J=>Gq ⟨rfl,rfl,z2,z3,F,fun p hp=>?_,zd⟩) (fun L=>?_)
  ·rcases D p hp with h|h|h
   ·exact .inl h
   ·exact .inr ⟨rfl,h⟩
   ·exact .inr ⟨rfl,z5 (K J) p h⟩
  obtain⟨⟨s1,s2,s3⟩,s4⟩:=hs L
  refine Gf (add_at j s1 za F) (fun u⟨u1,uo,a,Q,up⟩=>?_)
  refine Gw (fun h=>(h u1).elim) (fun _=>?_)
  have X:u.2.2.length=d.length+1:=by rw [up.length_eq];simp [E]
  refine Gf (add_at j s2 za uo) (fun v⟨v1,vo,b,vb,G⟩=>Gq ⟨v1,rfl,z2,z3,vo,fun p hp=>?_,?_⟩)
  ·simp only
   rcases D p hp with⟨w,hw,g⟩|h|h
   ·exact .inl ⟨w,G.mem_iff.2 (G5 _ (up.mem_iff.2 (G5 _ hw))),g⟩
   ·exact .inr ⟨trivial,h⟩
   ·rcases s4 p h with h|h
    ·exact .inl ⟨a,G.mem_iff.2 (G5 _ (up.mem_iff.2 zc)),by rw [Q];exact h⟩
    ·exact .inl ⟨b,G.mem_iff.2 zc,by rw [vb];exact h⟩
  ·simp only
   rw [nz G,H]
   simp only [cnt]
   rw [nz up]
   simp only [cnt]
   rw [Q,vb];omega
structure Fin(q:ak)(t:Int)(l:ap)(d:List Item):Prop where
 best:Bst q l
 opens:Op q d
 len:d.length<=300
 cover:Cover q true l d
 near:d=[]∨l.cb-(at_ d 0).dF<=t
theorem run_at{q:ak}(f:PV q){t:Int}(T:0<=t):Ok (kF q t) (fun r=>r.2=0∧∃s,r.1=some s∧Fin q t s.cx s.mB):=by
 have G:=pts_in f.box
 unfold kF
 rw [oF f,ze,if_neg zc,if_neg so]
 refine Gf (add1_at f (Sub.refl f.box)) (fun x⟨O,Q,a,E,F⟩=>?_)
 refine Gw (fun h=>(h O).elim) (fun _=>?_)
 have j:cnt x.2.1=2*pts q.bj-1:=by rw [nz F];simp only [cnt];rw [E];omega
 refine Gf (P:=fun o=>∃y,o= .inl y∧Fin q t y.2.2.2.2 y.1) (Gi (fun s:Int×Int×Bool×ap×List Item=>(0<=s.2.1∧s.2.1+cnt s.2.2.2.2<=300)∧Op q s.2.2.2.2∧(s.2.2.1=true->Bst q s.2.2.2.1)∧(s.2.2.2.2=[]->s.2.2.1=true)∧Cover q s.2.2.1 s.2.2.2.1 s.2.2.2.2) (fun s=>(300-s.2.1).toNat) ?_ ⟨⟨zc,zd⟩,Q,zc,fun h=>?_,fun p hp=>.inl ⟨a,F.mem_iff.2 zc,by rw [E];exact hp⟩⟩) (fun o⟨y,ho,h1⟩=>by subst ho;exact Gq ⟨rfl,_,rfl,h1⟩)
 ·rintro⟨X,Y,N,s9,L⟩ ⟨⟨i0,i1⟩,i2,i3,i4,i5⟩
  simp only at i0 i1 i2 i3 i4 i5
  have hl:=cnt_len f i2.sub
  unfold mE
  dsimp only
  refine Gf (ended_at (fun x C=>by rw [i2.bound x C];exact bnd_range f (i2.sub x C)) (fun hf=>by rw [bst_mis f (i3 hf)];exact mis_range f (i3 hf).inn)) (fun e he=>?_)
  refine Gy (fun k=>?_) (fun het=>Gt ⟨_,rfl,?_⟩)
  ·have g:=he.1 k
   have:=List.length_pos_iff.2 g
   refine Gf (step_at f g i2 ⟨i0,i1⟩ i3 i5) (fun r⟨H,U,D,I,J,K,W⟩=>?_)
   refine Gw (fun h=>(h H).elim) (fun _=>?_)
   exact Gk ⟨⟨zd,zd⟩,J,fun _=>I,fun _=>D,by simp only;rw [D];exact K⟩ zd
  ·have u:N=true:=by
    rcases he.2 het with h|h
    ·exact i4 h
    ·exact h.1
   subst u
   refine⟨i3 rfl,i2,zd,i5,?_⟩
   rcases he.2 het with h|h
   ·exact .inl h
   ·exact .inr h.2
 ·simp only at h
  rw [h]at j
  simp only [cnt]at j;omega
structure Least(q:ak)(t:Int)(l:ap):Prop where
 inn:In q.bj l.bO
 val:jU q l.bO=some (l.bT,l.cb,0)
 lower:∀p,In q.bj p->l.mz<=mis q p
 near:∀p,In q.bj p->l.cb-t<=mis q p
theorem locate_least{q:ak}(g:PV q){t:Int}(G:0<=t):Ok (dO q t) (fun r=>r.2=0∧Least q t r.1):=by
 unfold dO
 refine Gf (run_at g G) (fun x⟨K,s,xs,⟨⟨g1,g2⟩,ho,hs,hc,C⟩⟩=>?_)
 rw [xs]
 show Ok (if(x.2 != (0:Int))=true then _ else _) _
 refine Gw (fun h=>(h K).elim) (fun _=>?_)
 refine Gf (P:=fun o:Int×al=>o.1<=s.cx.cb∧∀x∈s.mB,o.1<=x.dF) (Gi (fun u:Int×Int×al=>(0<=u.1∧u.1<=s.mB.length)∧Sub q.bj u.2.2∧u.2.1<=s.cx.cb∧∀(i:Nat)x,s.mB[i]? =some x->i<u.1.toNat->u.2.1<=x.dF) (fun u=>((s.mB.length:Int)-u.1).toNat) ?_ ⟨⟨zc,zc⟩,g1,GB _,fun i x _ hi=>by simp at hi⟩) (fun o⟨L,J⟩=>Gq ⟨rfl,g1,g2,fun p hp=>?_,fun p hp=>?_⟩)
 ·rintro⟨u1,u2,N⟩ ⟨⟨i0,i1⟩,i2,i3,i4⟩
  simp only at i0 i1 i2 i3 i4
  unfold mD
  refine Gl (fun F=>?_) (fun _=>Gt ⟨i3,fun x j=>?_⟩)
  rotate_left
  ·obtain⟨i,hi,rfl⟩:=HS j
   exact i4 i _ (zf hi) za
  refine Gf (Gh za za) (fun y D=>?_)
  rw [w64 za za]
  have k:∀(i:Nat)x,s.mB[i]? =some x->i<(u1+1).toNat->(if y.dF<u2 then y.dF else u2)<=x.dF:=fun i x j hi=>by
   rcases Hm i u1.toNat with h|h
   ·have:=i4 i x j h
    split<;>omega
   ·have:i=u1.toNat:=by omega
    subst this
    rw [D.2]at j;cases j
    split<;>omega
  have low:(if y.dF<u2 then y.dF else u2)<=s.cx.cb:=by split<;>omega
  refine Gl (fun _=>?_) (fun _=>Gk ⟨⟨zd,zd⟩,i2,low,k⟩ zd)
  exact Gf (hull_ok g.box g.reg i2 (ho.sub y D.1)) (fun z H=>Gk ⟨⟨zd,zd⟩,H,low,k⟩ zd)
 ·simp only
  rcases hc p hp with⟨w,hw,f⟩|⟨-,h⟩
  ·have:=J w hw
   rw [ho.bound w hw]at this
   exact GD this (bnd_le g (ho.sub w hw) f)
  ·omega
 ·simp only
  rcases hc p hp with⟨w,hw,f⟩|⟨-,h⟩
  ·have I:=bnd_le g (ho.sub w hw) f
   rw [<-ho.bound w hw]at I
   obtain⟨i,hi,rfl⟩:=HS hw
   have E:=ho.heap.root i hi
   rw [oJ (zf hi)]at E
   rcases C with C|C
   ·rw [C]at hi;simp at hi
   ·have:(at_ s.mB 0).dF<=(s.mB[i]).dF:=by unfold leI at E;omega
    omega
  ·omega
end Go.Dw.Re
namespace Go.Dw
def Lnk(nx bk:List Int):List Nat->Prop
 |a::b::r=>(nx[a]? =some (b:Int)∧bk[b]? =some (a:Int))∧Lnk nx bk (b::r)
 |_=>True
theorem Lnk.congr{nx bk g f:List Int}:∀{l:List Nat},Lnk nx bk l->(∀x∈l.dropLast,g[x]? =nx[x]?)->(∀x∈l.tail,f[x]? =bk[x]?)->Lnk g f l
 |a::b::r,⟨⟨h1,u⟩,C⟩,q,k=>by
  refine⟨⟨by rw [q a (by simp [HG]),h1],by rw [k b zc,u]⟩,C.congr (fun x j=>q x ?_) (fun x j=>k x ?_)⟩
  ·simp only [HG];exact G5 _ j
  ·simp only [Ha]at j⊢;exact G5 _ j
 | [],_,_,_=>trivial
 | [_],_,_,_=>trivial
theorem qL{nx bk:List Int}{a:Nat}{m:List Nat}:∀{l:List Nat},Lnk nx bk (l++a::m)↔Lnk nx bk (l++[a])∧Lnk nx bk (a::m)
 | []=>by simp [Lnk]
 | [b]=>by simp [Lnk]
 |b::c::l=>by
  have:=qL (nx:=nx) (bk:=bk) (a:=a) (m:=m) (l:=c::l)
  simp only [FN,Lnk]at this⊢
  rw [this]
  simp only [and_assoc]
theorem has_last{l:List Nat}(h:l≠ []):∃m p,l=m++[p]:=⟨l.dropLast,l.getLast h,(List.dropLast_concat_getLast h).symm⟩
theorem Lnk.remove{nx bk:List Int}{e i:Nat}{A B:List Nat}(h:Lnk nx bk (e::(A++i::B)++[e]))(J:(e::(A++i::B)).Nodup):
  ∃p q:Nat,bk[i]? =some (p:Int)∧nx[i]? =some (q:Int)∧p∈e::(A++B)∧q∈e::(A++B)∧Lnk (nx.set p (q:Int)) (bk.set q (p:Int)) (e::(A++B)++[e]):=by
 obtain⟨m,p,hp⟩:=has_last (l:=e::A) zc
 obtain⟨q,n,j⟩:∃q n,B++[e]=q::n:=by
  cases B with
  |nil=>exact⟨e,[],rfl⟩
  |cons b B=>exact⟨b,B++[e],rfl⟩
 have L:e::(A++i::B)++[e]=(m++[p])++i::q::n:=by rw [<-hp, <-j];simp
 have N:Lnk nx bk (m++p::i::q::n):=by rw [L]at h;simpa using h
 obtain⟨h1,O⟩:=qL.1 N
 obtain⟨⟨a1,a2⟩,⟨a3,a4⟩,Q⟩:=O
 have k:p∈e::A:=by rw [hp];simp
 have r:q∈B++[e]:=by rw [j];simp
 rw [Ez,FX]at J
 obtain⟨d1,K,I,C⟩:=J
 rw [Ez]at I
 have D:(m++[p]).Nodup:=by
  rw [<-hp,Ez]
  exact⟨fun g=>d1 (List.mem_append.2 (.inl g)),K⟩
 have H:p∉m:=fun g=>by
  rw [FX]at D
  exact D.2.2 p g p zc rfl
 have e2:e::(A++B)++[e]=m++p::q::n:=by
  have:e::(A++B)++[e]=(e::A)++(B++[e]):=by simp
  rw [this,hp,j];simp
 refine⟨p,q,a2,a3,?_,?_,?_⟩
 ·rcases List.mem_cons.1 k with h|h
  ·exact List.mem_cons.2 (.inl h)
  ·exact List.mem_cons.2 (.inr (List.mem_append.2 (.inl h)))
 ·rcases List.mem_append.1 r with h|h
  ·exact List.mem_cons.2 (.inr (List.mem_append.2 (.inr h)))
  ·exact List.mem_cons.2 (.inl (List.mem_singleton.1 h))
 rw [e2,qL]
 have F:p<nx.length:=(List.getElem?_eq_some_iff.1 a1).1
 have G:q<bk.length:=(List.getElem?_eq_some_iff.1 a4).1
 have E:∀x,x∈(m++[p]).tail->x∈A:=by
  intro x f;rw [<-hp]at f;exact f
 refine⟨h1.congr (fun x f=>?_) (fun x f=>?_),?_⟩
 ·rw [HH]at f
  exact D2 fun g=>H (by rw [g];exact f)
 ·have u:=E x f
  refine D2 fun g=>?_
  rw [g]at r
  rcases List.mem_append.1 r with h|h
  ·exact C x u x (G5 _ h) rfl
  ·rw [List.mem_singleton.1 h]at u
   exact d1 (List.mem_append.2 (.inl u))
 ·refine⟨⟨D3 F,D3 G⟩,Q.congr (fun x f=>?_) (fun x f=>?_)⟩
  ·rw [<-j,HH]at f
   refine D2 fun g=>?_
   rw [g]at k
   rcases List.mem_cons.1 k with h|h
   ·rw [h]at f;exact d1 (List.mem_append.2 (.inr (G5 _ f)))
   ·exact C x h x (G5 _ f) rfl
  ·simp only [Ha]at f
   refine D2 fun g=>?_
   rw [<-g]at f
   cases B with
   |nil=>
    simp only [D8,List.cons.injEq]at j
    rw [<-j.2]at f;simp at f
   |cons b B=>
    simp only [FN,List.cons.injEq]at j
    obtain⟨rfl,rfl⟩:=j
    rcases List.mem_append.1 f with h|h
    ·exact(List.nodup_cons.1 I.2).1 h
    ·rw [List.mem_singleton.1 h]at d1
     exact d1 (List.mem_append.2 (.inr zc))
end Go.Dw
namespace Go.Dw
section
variable {α:Type} [DecidableEq α]
def rounds(least:Nat)(win mem:List α->List α):Nat->List α->List (List α)×List α
 |0,_=>([],[])
 |_+1,[]=>([],[])
 |n+1,i::r=>
  if least<=(win (i::r)).length∧least<=(mem (win (i::r))).length then
   (mem (win (i::r))::(rounds least win mem n ((i::r).filter fun x=>decide (x∉mem (win (i::r))))).1,(rounds least win mem n ((i::r).filter fun x=>decide (x∉mem (win (i::r))))).2)
  else((rounds least win mem n r).1,i::(rounds least win mem n r).2)
theorem gl(least:Nat)(win mem:List α->List α)(n:Nat)(i:α)(r:List α):rounds least win mem (n+1) (i::r)=
  if least<=(win (i::r)).length∧least<=(mem (win (i::r))).length then
   (mem (win (i::r))::(rounds least win mem n ((i::r).filter fun x=>decide (x∉mem (win (i::r))))).1,(rounds least win mem n ((i::r).filter fun x=>decide (x∉mem (win (i::r))))).2)
  else((rounds least win mem n r).1,i::(rounds least win mem n r).2):=rfl
structure WinOk(win mem:List α->List α):Prop where
 sub:∀l,(win l).Sublist l
 mem:∀l,(mem l).Sublist l
theorem nQ{l m:List α}{least:Nat}(g:1<=least)(hm:m.Sublist l)(h:least<=m.length):(l.filter fun x=>decide (x∉m)).length<l.length:=by
 cases m with
 |nil=>simp at h;omega
 |cons a m=>
  have f:a∈l:=hm.subset zc
  refine Nat.lt_of_le_of_ne (HT _ _) fun he=>?_
  have:=List.length_filter_eq_length_iff.1 he a f
  simp at this
variable {least:Nat}{win mem:List α->List α}
theorem nD(h:WinOk win mem)(k:1<=least):∀(n:Nat)(l:List α),l.length<=n->l.Nodup->((rounds least win mem n l).1.flatten++(rounds least win mem n l).2).Perm l
 |0,l,hl,_=>by simp [Eb (Nat.le_zero.1 hl),rounds]
 |n+1,[],_,_=>by simp [rounds]
 |n+1,i::r,hl,f=>by
  rw [gl]
  split
  ·rename_i hc
   have hs:(mem (win (i::r))).Sublist (i::r):=(h.mem _).trans (h.sub _)
   have C:=nQ k hs hc.2
   have u:=nD h k n ((i::r).filter fun x=>decide (x∉mem (win (i::r)))) za (f.sublist HP)
   simp only [HR,DK]
   refine(List.Perm.append_left _ u).trans ?_
   have g:=f.sublist hs
   generalize mem (win (i::r))=m at hs g⊢
   generalize i::r=l at hs f⊢
   have q:m.Perm (l.filter fun x=>decide (x∈m)):=by
    rw [List.perm_ext_iff_of_nodup g (f.sublist HP)]
    intro x
    simp only [HX,decide_eq_true_eq]
    exact⟨fun j=>⟨hs.subset j,j⟩,fun j=>j.2⟩
   refine(List.Perm.append_right _ q).trans ?_
   have:=List.filter_append_perm (fun x=>decide (x∈m)) l
   simpa using this
  ·have u:=nD h k n r (by simpa using hl) (List.nodup_cons.1 f).2
   refine List.perm_middle.trans ?_
   exact List.Perm.cons _ u
theorem qY(n:Nat)(l:List α):∀g∈(rounds least win mem n l).1,least<=g.length:=by
 induction n generalizing l with
 |zero=>intro g f;simp [rounds]at f
 |succ n j=>
  cases l with
  |nil=>intro g f;simp [rounds]at f
  |cons i r=>
   intro g f
   unfold rounds at f
   split at f
   ·rename_i hc
    simp only [List.mem_cons]at f
    rcases f with rfl|f
    ·exact hc.2
    ·exact j _ g f
   ·exact j _ g f
theorem nC(h:WinOk win mem)(f:1<=least):∀(n m:Nat)(l:List α),l.length<=n->l.length<=m->rounds least win mem n l=rounds least win mem m l
 |0,m,l,g,_=>by
  rw [Eb (Nat.le_zero.1 g)]
  cases m<;>rfl
 |n+1,0,l,_,hm=>by
  rw [Eb (Nat.le_zero.1 hm)];rfl
 |n+1,m+1,[],_,_=>rfl
 |n+1,m+1,i::r,g,hm=>by
  rw [gl,gl]
  split
  ·rename_i hc
   have j:=nQ f ((h.mem _).trans (h.sub (i::r))) hc.2
   rw [nC h f n m _ za za]
  ·rw [nC h f n m r (by simpa using g) (by simpa using hm)]
theorem oN(h:WinOk win mem)(k:1<=least):∀(n:Nat)(C D:List α),(C++D).length<=n->(C++D).Nodup->(∀f,f.Sublist C->f≠ []->win (f++D)=win f)->
  rounds least win mem n (C++D)=((rounds least win mem n C).1++(rounds least win mem n D).1,(rounds least win mem n C).2++(rounds least win mem n D).2)
 |0,C,D,hl,_,_=>by
  have:C=[]∧D=[]:=by simpa using hl
  rw [this.1,this.2];rfl
 |n+1,[],D,_,_,_=>by simp [rounds]
 |n+1,i::r,D,hl,q,hw=>by
  have g:=hw (i::r) (List.Sublist.refl _) zc
  have H:rounds least win mem (n+1) D=rounds least win mem n D:=nC h k _ _ _ (by simp at hl;omega) (by simp at hl;omega)
  rw [H,show(i::r)++D=i::(r++D)from rfl,gl,gl]
  rw [show(i::r)++D=i::(r++D)from rfl]at g
  rw [g]
  split
  ·rename_i hc
   have hs:=(h.mem (win (i::r))).trans (h.sub (i::r))
   have E:=nQ k hs hc.2
   generalize hm:mem (win (i::r))=m at hs E hc⊢
   have hf:(i::(r++D)).filter (fun x=>decide (x∉m))=(i::r).filter (fun x=>decide (x∉m))++D:=by
    rw [<-FN,HK]
    congr 1
    refine List.filter_eq_self.2 fun x I=>?_
    simp only [decide_eq_true_eq]
    intro F
    have:=(List.nodup_append.1 q).2.2 x (hs.subset F) x I
    exact this rfl
   rw [hf]
   have j:((i::r).filter (fun x=>decide (x∉m))++D).Sublist ((i::r)++D):=List.Sublist.append_right HP _
   have G:=oN h k n ((i::r).filter fun x=>decide (x∉m)) D (by rw [Ec]at hl⊢;omega) (q.sublist j) (fun f h1 u=>hw f (h1.trans HP) u)
   rw [G]
   simp
  ·have G:=oN h k n r D (by simpa using hl) (by simp only [FN,Ez]at q;exact q.2) (fun f h1 u=>hw f (h1.trans (H8 _ _)) u)
   rw [G]
   simp
theorem pI{β:Type} [DecidableEq β] {win' mem':List β->List β}{f:α->β}(S:List α)(hf:∀x∈S,∀y∈S,f x=f y->x=y)(h:WinOk win mem):
  ∀(n:Nat)(l:List α),l.Sublist S->(∀j,j.Sublist S->win' (j.map f)=(win j).map f∧mem' ((win j).map f)=(mem (win j)).map f)->
   rounds least win' mem' n (l.map f)=((rounds least win mem n l).1.map (Fa f),(rounds least win mem n l).2.map f)
 |0,l,_,_=>rfl
 |n+1,[],_,_=>rfl
 |n+1,i::r,hl,hw=>by
  obtain⟨E,G⟩:=hw (i::r) hl
  rw [FC]at E⊢
  rw [gl,gl,E,G]
  simp only [Ey]
  have hs:=(h.mem (win (i::r))).trans (h.sub (i::r))
  split
  ·generalize mem (win (i::r))=m at hs⊢
   have g:(f i::r.map f).filter (fun x=>decide (x∉m.map f))=((i::r).filter fun x=>decide (x∉m)).map f:=by
    rw [<-FC,HO]
    congr 1
    refine HL fun x F=>?_
    simp only [Hp,HY,decide_eq_decide]
    constructor
    ·intro k q;exact k ⟨x,q,rfl⟩
    ·rintro k ⟨y,D,u⟩
     have:=hf y (hl.subset (hs.subset D)) x (hl.subset F) u
     exact k (this▸D)
   rw [g]
   have C:=pI S hf h n ((i::r).filter fun x=>decide (x∉m)) (List.filter_sublist.trans hl) hw
   rw [C]
   simp
  ·have C:=pI S hf h n r ((H8 _ _).trans hl) hw
   rw [C]
   simp
end
end Go.Dw
set_option maxRecDepth 100000
set_option maxHeartbeats 4000000
namespace Go.Dw.Re
open Go.Dw Go.Proofs
abbrev Ph:=aw
abbrev As:=bi
theorem flat_loop{α β ω:Type}{l:List α}{f:α->List β}{g:List β->ω}{body:(Int×List β)->Option (gB (Int×List β) ω)}(hf:∀x∈l,(f x).length<=1)
  (h1:∀(i:Nat)(hi:i<l.length)(acc:List β),acc.length<=i->body ((i:Int),acc)=some (.next (((i+1:Nat):Int),acc++f l[i])))
  (r:∀acc,acc.length<=l.length->body ((l.length:Int),acc)=some (.stop (g acc))):cI body ((0:Int),[])=some (g (l.flatMap f)):=by
 have key:∀(k i:Nat)(acc:List β),i+k=l.length->acc.length<=i->cI body ((i:Int),acc)=some (g (acc++(l.drop i).flatMap f)):=by
  intro k
  induction k with
  |zero=>
   intro i acc hi q
   obtain rfl:i=l.length:=by omega
   rw [rD (r acc q)]
   simp
  |succ k u=>
   intro i acc hi q
   have j:i<l.length:=by omega
   rw [rZ (h1 i j acc q),u (i+1) _ za (by have:=hf _ (EJ j);rw [Ec];omega),GY j,HQ,DK]
 have:=key l.length 0 [] za zc
 simpa using this
theorem qa{α β ω:Type}{l:List α}{f:α->β}{g:List β->ω}{body:(Int×List β)->Option (gB (Int×List β) ω)}
  (h1:∀(i:Nat)(hi:i<l.length)(acc:List β),acc.length<=i->body ((i:Int),acc)=some (.next (((i+1:Nat):Int),acc++[f l[i]])))
  (j:∀acc,acc.length<=l.length->body ((l.length:Int),acc)=some (.stop (g acc))):cI body ((0:Int),[])=some (g (l.map f)):=by
 rw [flat_loop (f:=fun x=>[f x]) (fun _ _=>zc) h1 j]
 rw [<-List.map_eq_flatMap]
theorem or3(a b c:Int):dI [a,b,c]=some (if a≠0 then a else if b≠0 then b else c):=by
 unfold dI
 have:=Sd.or_go (l:=[a,b,c]) (n:=0) (r:=[a,b,c]) zc zc rfl
 rw [show((0:Int))=((0:Nat):Int)from rfl,this]
 by_cases f:a=0<;>by_cases g:b=0<;>by_cases hc:c=0<;>simp [List.find?,f,g,hc]
def cmpG(a b:ag):Int:=if sX a.fX b.fX≠0 then sX a.fX b.fX else if sX a.fY b.fY≠0 then sX a.fY b.fY else sX a.fZ b.fZ
theorem cmpG_eq(a b:ag):fi a b=some (cmpG a b):=by
 unfold fi
 simp only [Sd.lL,ze,or3]
 rfl
theorem cmpG_tot:Tot cmpG:=(tv.map fun x:ag=>x.fX).or ((tv.map fun x:ag=>x.fY).or (tv.map fun x:ag=>x.fZ))
def cmpF(a b:Ph):Int:=if sX a.bu b.bu≠0 then sX a.bu b.bu else if sX a.co b.co≠0 then sX a.co b.co else if cmpG a.bw b.bw≠0 then cmpG a.bw b.bw else sX a.cC b.cC
theorem cmpF_eq(a b:Ph):kg a b=some (cmpF a b):=by
 unfold kg
 simp only [Sd.lL,cmpG_eq,ze,Sd.or4]
 rfl
theorem cmpF_tot:Tot cmpF:=(tv.map fun x:Ph=>x.bu).or ((tv.map fun x:Ph=>x.co).or ((cmpG_tot.map fun x:Ph=>x.bw).or (tv.map fun x:Ph=>x.cC)))
def zPh:Ph:=⟨⟨0,0,0⟩,0,0,0⟩
def pN(F:List Ph)(i:Int):Ph:=F.getD i.toNat zPh
theorem phAt_get{F:List Ph}{i:Int}(f:0<=i)(h1:i<F.length):oc F i=some (pN F i):=by
 rw [py (i:=i.toNat) za za]
 unfold pN
 rw [FO,zf za];rfl
theorem phAt_mem{F:List Ph}{i:Int}(f:0<=i)(h1:i<F.length):pN F i∈F:=by
 unfold pN
 rw [FO,zf za]
 exact EJ _
theorem ins_order{F:List Ph}{l:List Int}(hl:∀i∈l,0<=i∧i<F.length)(f:l.length<=1000):df 0 (l.length:Int) l F=some (c9 (fun i k=>decide (cmpF (pN F i) (pN F k)<0)) l):=by
 refine Eq.trans (b:=insG (fun i k=>hJ i k F) (fun c=>decide (c<0)) 0 (l.length:Int) l) rfl (insG_at (S:=fun i=>0<=i∧i<(F.length:Int)) (fun i k hi hk=>⟨cmpF (pN F i) (pN F k),?_,rfl⟩) hl f)
 unfold hJ
 rw [phAt_get hi.1 hi.2,ze,phAt_get hk.1 hk.2,ze,cmpF_eq];rfl
theorem stable_order{F:List Ph}{l:List Int}(hl:∀i∈l,0<=i∧i<F.length)(f:l.length<=19):dU l F=some (c9 (fun i k=>decide (cmpF (pN F i) (pN F k)<0)) l):=by
 unfold dU eh
 rw [rD (o:=((0:Int),l)) (by unfold iw;dsimp only;rw [if_neg so]),ze]
 dsimp only
 rw [ins_order hl za,ze,rD (o:=c9 (fun i k=>decide (cmpF (pN F i) (pN F k)<0)) l) (by unfold gM;rw [if_neg so];rfl)]
 rfl
def ids(n:Nat):List Int:=(DO n).map fun i:Nat=>(i:Int)
theorem ids_mem{n:Nat}{i:Int}:i∈ids n↔0<=i∧i<n:=by
 unfold ids
 rw [HY]
 constructor
 ·rintro⟨k,hk,rfl⟩
  have:=List.mem_range.1 hk
  omega
 ·intro h
  exact⟨i.toNat,List.mem_range.2 za,za⟩
theorem ids_succ(n:Nat):ids (n+1)=ids n++[(n:Int)]:=by unfold ids;rw [List.range_succ,List.map_append];rfl
theorem ids_len(n:Nat):(ids n).length=n:=by unfold ids;simp
theorem ids_asc(n:Nat):(ids n).Pairwise (· < ·):=by
 unfold ids
 rw [G8]
 exact List.pairwise_lt_range.imp fun h=>by omega
structure oP(F:List Ph)(o:List Int):Prop where
 perm:o.Perm (ids F.length)
 lex:o.Pairwise (Lex (fun i k=>cmpF (pN F i) (pN F k)) (· < ·))
theorem order_at{F:List Ph}(k:F.length<=19):∃o,lK F=some o∧oP F o:=by
 refine⟨_,?_,bY _ _,sortI_lex (cmpF_tot.map (pN F)) (ids_asc F.length)⟩
 refine Gg ?_
 unfold lK
 refine Gf (Ok.mk za za za) (fun x j=>?_)
 subst j
 refine Gf (P:=fun o=>o=ids F.length) (Gi (fun s:Int×List Int=>∃i:Nat,i<=F.length∧s=((i:Int),ids i++B2 (F.length-i) 0)) (fun s=>((F.length:Int)-s.1).toNat) ?_ ⟨0,DR _,by simp [ids]⟩) (fun o ho=>?_)
 ·rintro s ⟨i,hi,rfl⟩
  unfold lr
  dsimp only
  refine Gl (fun g=>?_) (fun f=>Gt ?_)
  rotate_left
  ·obtain rfl:i=F.length:=by simp at f;omega
   simp
  simp at g
  have e:B2 (F.length-i) (0:Int)=0::B2 (F.length-(i+1)) 0:=by
   rw [show F.length-i=(F.length-(i+1))+1 by omega];rfl
  rw [e,sh za (by simp [ids_len];omega),ze,set1 _ _ _ _ (by rw [ids_len]),ze,w64 za za]
  refine Gk ⟨i+1,za,?_⟩ zd
  rw [ids_succ];simp
 ·subst ho
  rw [stable_order (fun i hi=>by have:=ids_mem.1 hi;omega) (by rw [ids_len];omega)]
  exact Gq rfl
theorem ib{nx bk:List Int}{n:Nat}(h:nx.length=n+1)(f:n<=1000):mY ⟨nx,bk⟩=some (n:Int):=by
 unfold mY
 rw [w64 zd zd]
 simp [h]
theorem Lnk_range{nx bk:List Int}:∀(k m:Nat),(∀j,m<=j->j<m+k->nx[j]? =some ((j+1:Nat):Int)∧bk[j+1]? =some (j:Int))->Lnk nx bk (H4 m k++[m+k])
 |0,m,_=>trivial
 |k+1,m,h=>by
  have g:=Lnk_range k (m+1) (fun j h1 q=>h j za za)
  have f:=h m (DI _) za
  rw [show m+(k+1)=m+1+k by omega]
  cases k with
  |zero=>exact⟨f,trivial⟩
  |succ k=>
   rw [H5,H5]at*
   exact⟨f,g⟩
theorem newChain_at{n:Nat}(G:n<=1000):Ok (jl (n:Int)) (fun r=>r.fnext.length=n+1∧r.fback.length=n+1∧Lnk r.fnext r.fback (n::DO n++[n])):=by
 unfold jl
 rw [w64 za za]
 refine Gf (Ok.mk za za za) (fun x E=>Gf (Ok.mk za za za) (fun y F=>?_))
 subst E F
 refine Gf (P:=fun o:List Int×List Int=>o.1.length=n+1∧o.2.length=n+1∧∀j,j<=n->o.1[j]? =some (((j+1)%(n+1):Nat):Int)∧o.2[(j+1)%(n+1)]? =some (j:Int))
  (Gi (fun s:Int×List Int×List Int=>∃i:Nat,s.1=(i:Int)∧i<=n+1∧s.2.1.length=n+1∧s.2.2.length=n+1∧∀j,j<i->s.2.1[j]? =some (((j+1)%(n+1):Nat):Int)∧s.2.2[(j+1)%(n+1)]? =some (j:Int)) (fun s=>((n:Int)+1-s.1).toNat) ?_ ⟨0,rfl,za,zc,zc,fun j g=>za⟩) (fun o ho=>?_)
 ·rintro⟨s1,s2,H⟩ ⟨i,i0,i1,i2,i3,i4⟩
  simp only at i0 i2 i3 i4
  subst i0
  unfold jm
  dsimp only
  rw [w64 (n:=(n:Int)+1) za za]
  refine Gl (fun C=>?_) (fun u=>Gt ?_)
  rotate_left
  ·obtain rfl:i=n+1:=by omega
   exact⟨i2,i3,fun j g=>i4 j za⟩
  rw [w64 (n:=(i:Int)+1) za za]
  have D:w5 ((i:Int)+1) ((n:Int)+1)=some (((i+1)%(n+1):Nat):Int):=by
   unfold w5
   rw [if_neg za,Int.tmod_eq_emod_of_nonneg za]
   rfl
  have q:(i+1)%(n+1)<n+1:=Nat.mod_lt _ za
  rw [D,ze,ze,sh za za,ze,wR (i:=i) rfl za,ze,sh za za,ze,wR (i:=(i+1)%(n+1)) rfl za,ze]
  refine Gk ⟨i+1,zd,za,by simpa using i2,by simpa using i3,fun j g=>?_⟩ zd
  by_cases e:j=i
  ·subst e
   exact⟨D3 za,D3 za⟩
  ·have k:(i+1)%(n+1)≠(j+1)%(n+1):=by
    rw [Hn (a:=j+1) za]
    by_cases h:i=n
    ·subst h;simp
    ·rw [Hn za];omega
   exact⟨by rw [D2 za];exact(i4 j za).1,by rw [D2 k];exact(i4 j za).2⟩
 ·refine Gq ⟨ho.1,ho.2.1,?_⟩
  have h1:Lnk o.1 o.2 (H4 0 n++[0+n]):=Lnk_range n 0 fun j _ g=>by
   have:=ho.2.2 j za
   rw [Hn za]at this
   exact this
  have f:=ho.2.2 n (DI _)
  rw [Nat.mod_self]at f
  rw [<-H6,Nat.zero_add]at h1
  cases n with
  |zero=>exact⟨f,trivial⟩
  |succ n=>
   rw [H6,H5]at h1⊢
   exact⟨f,h1⟩
theorem filter_ne{A B:List Nat}{i:Nat}(h:(A++i::B).Nodup):(A++i::B).filter (fun x=>decide (x∉ [i]))=A++B:=by
 rw [FX]at h
 obtain⟨_,g,j⟩:=h
 rw [Ez]at g
 rw [HK,HN zc,List.filter_eq_self.2,List.filter_eq_self.2]
 ·intro x f
  simp only [FW,decide_eq_true_eq]
  rintro rfl
  exact g.1 f
 ·intro x f
  simp only [FW,decide_eq_true_eq]
  rintro rfl
  exact j x f x zc rfl
structure Ch(n:Nat)(P:List Nat)(nx bk:List Int):Prop where
 ln:nx.length=n+1
 lb:bk.length=n+1
 lnk:Lnk nx bk (n::P++[n])
 nd:(n::P).Nodup
 lt:∀x∈P,x<n
theorem remove_at{n:Nat}{P:List Nat}{nx bk:List Int}(h:Ch n P nx bk){i:Nat}(hi:i∈P):∃k g,mp (i:Int) nx bk=some (k,g)∧Ch n (P.filter fun x=>decide (x∉ [i])) k g:=by
 obtain⟨A,B,rfl⟩:=List.append_of_mem hi
 obtain⟨h1,G,H,r,u⟩:=h
 obtain⟨p,q,C,D,hp,K,hl⟩:=Lnk.remove H r
 have j:∀x∈n::(A++B),x<=n:=fun x f=>by
  rcases List.mem_cons.1 f with rfl|f
  ·exact DI _
  ·refine Nat.le_of_lt (u x ?_)
   rcases List.mem_append.1 f with f|f
   ·exact List.mem_append.2 (.inl f)
   ·exact List.mem_append.2 (.inr (G5 _ f))
 have J:=j p hp;have L:=j q K;have I:=u i hi
 have nd:=(List.nodup_cons.1 r).2
 refine⟨nx.set p q,bk.set q p,?_,?_⟩
 ·have E:oc bk (i:Int)=some (p:Int):=by
   rw [py (i:=i) rfl za]
   rw [zf za]at C
   exact C
  have F:oc nx (i:Int)=some (q:Int):=by
   rw [py (i:=i) rfl za]
   rw [zf za]at D
   exact D
  unfold mp
  rw [sh za za,ze,E,ze,sh za za,ze,F,ze,ze,ze,ze,ze,sh za za,ze,wR (i:=p) rfl za,ze,sh za za,ze,wR (i:=q) rfl za,ze]
 ·rw [filter_ne nd]
  refine⟨by simpa using h1,by simpa using G,hl,?_,fun x f=>?_⟩
  ·rw [Ez]at r⊢
   refine⟨fun hm=>r.1 ?_,nd.sublist ((H8 i B).append_left A)⟩
   rcases List.mem_append.1 hm with hm|hm
   ·exact List.mem_append.2 (.inl hm)
   ·exact List.mem_append.2 (.inr (G5 _ hm))
  ·refine u x ?_
   rcases List.mem_append.1 f with f|f
   ·exact List.mem_append.2 (.inl f)
   ·exact List.mem_append.2 (.inr (G5 _ f))
end Go.Dw.Re
set_option maxRecDepth 100000
set_option maxHeartbeats 4000000
namespace Go.Dw.Re
open Go.Dw Go.Proofs
theorem flat_filter{α β:Type}(p:α->Bool)(f:α->β):∀l:List α,(l.flatMap fun x=>if p x=true then [f x]else [])=(l.filter p).map f
 | []=>rfl
 |x::l=>by
  rw [HQ,flat_filter p f l]
  by_cases h:p x=true
  ·rw [if_pos h,List.filter_cons_of_pos h];rfl
  ·rw [if_neg h,HN h];rfl
section
variable {α:Type}
def oO(k:α->Int)(span:Int):List α->List α
 | []=>[]
 |i::r=>((i::r).takeWhile fun j=>decide (k j-k i<=span)).take 16
theorem rC(k:α->Int)(span:Int):∀l,(oO k span l).Sublist l
 | []=>List.Sublist.refl _
 |_::_=>(List.take_sublist _ _).trans (List.takeWhile_sublist _)
theorem winK_cons(k:α->Int){span:Int}(h:0<=span)(i:α)(r:List α):oO k span (i::r)=i::(r.takeWhile fun j=>decide (k j-k i<=span)).take 15:=by
 show((i::r).takeWhile fun j=>decide (k j-k i<=span)).take 16=_
 rw [Hc so]
 rfl
theorem winK_map{β:Type}{k:α->Int}{k':β->Int}{f:α->β}{span:Int}:∀l:List α,(∀x∈l,k' (f x)=k x)->oO k' span (l.map f)=(oO k span l).map f
 | [],_=>rfl
 |i::r,h=>by
  show(((i::r).map f).takeWhile fun j=>decide (k' j-k' (f i)<=span)).take 16=(((i::r).takeWhile fun j=>decide (k j-k i<=span)).take 16).map f
  rw [List.takeWhile_map, <-List.map_take,h i zc]
  congr 2
  have:∀l:List α,(∀x∈l,k' (f x)=k x)->l.takeWhile ((fun j=>decide (k' j-k i<=span))∘f)=l.takeWhile fun j=>decide (k j-k i<=span):=by
   intro l hl
   induction l with
   |nil=>rfl
   |cons x l q=>
    simp only [List.takeWhile_cons,Hp,hl x zc]
    rw [q fun y g=>hl y (G5 _ g)]
  exact this _ h
end
def ir(o:List Int)(j:Nat):Int:=o.getD j 0
def plP(F:List Ph)(o:List Int)(j:Nat):Ph:=pN F (ir o j)
theorem ordAt_get{o:List Int}{j:Nat}(h:j<o.length):oc o (j:Int)=some (ir o j):=by
 rw [py (i:=j) rfl h]
 unfold ir
 rw [FO,zf h];rfl
theorem ordAt_mem{o:List Int}{j:Nat}(h:j<o.length):ir o j∈o:=by
 unfold ir
 rw [FO,zf h]
 exact EJ _
theorem oP.len{F:List Ph}{o:List Int}(h:oP F o):o.length=F.length:=by rw [h.perm.length_eq,ids_len]
theorem oP.range{F:List Ph}{o:List Int}(h:oP F o){j:Nat}(f:j<F.length):0<=ir o j∧ir o j<F.length:=ids_mem.1 (h.perm.mem_iff.1 (ordAt_mem (by rw [h.len];exact f)))
theorem oP.get{F:List Ph}{o:List Int}(h:oP F o){j:Nat}(f:j<F.length):oc o (j:Int)=some (ir o j)∧oc F (ir o j)=some (plP F o j)∧plP F o j∈F:=
 ⟨ordAt_get (by rw [h.len];exact f),phAt_get (h.range f).1 (h.range f).2,phAt_mem (h.range f).1 (h.range f).2⟩
def ol(l:List Nat):List Int:=l.map fun j:Nat=>(j:Int)
theorem window_loop{n:Nat}{nx bk:List Int}{F:List Ph}{o:List Int}(ho:oP F o)(H:F.length=n)(g:n<=1000)(hl:nx.length=n+1)(r:∀b∈F,0<=b.bu∧b.bu<=18014398509481984){a:As}{i:Nat}(hi:i<n):
  ∀(B:List Nat)(acc:List Int),Lnk nx bk (B++[n])->(∀x∈B,x<n)->acc.length<=16->cI (dC nx bk o F (i:Int) a) ((((B++[n]).headD 0:Nat):Int),acc)=
   some (acc++ol ((B.takeWhile fun j=>decide ((plP F o j).bu-(plP F o i).bu<=a.ch)).take (16-acc.length)))
 | [],acc,_,_,_=>by
  rw [rD (o:=acc)]
  ·simp [ol]
  ·unfold dC
   dsimp only
   rw [ib hl g,ze,if_neg zc]
 |b::B,acc,q,u,J=>by
  have K:=u b zc
  obtain⟨g1,g2,g3⟩:=ho.get (j:=b) za
  obtain⟨C,D,k3⟩:=ho.get (j:=i) za
  have f1:=r _ g3;have f2:=r _ k3
  have hw:Fb .i64 ((plP F o b).bu-(plP F o i).bu)=(plP F o b).bu-(plP F o i).bu:=w64 za za
  have k:nx[b]? =some (((B++[n]).headD 0:Nat):Int)∧Lnk nx bk (B++[n]):=by
   cases B with
   |nil=>exact⟨q.1.1,q.2⟩
   |cons c B=>exact⟨q.1.1,q.2⟩
  have G:oc nx (b:Int)=some (((B++[n]).headD 0:Nat):Int):=by
   rw [py (i:=b) rfl za]
   have:=k.1
   rw [zf za]at this
   exact this
  by_cases E:acc.length<16
  ·by_cases hc:(plP F o b).bu-(plP F o i).bu<=a.ch
   ·have f:dC nx bk o F (i:Int) a (((b:Nat):Int),acc)=some (.next ((((B++[n]).headD 0:Nat):Int),acc++[(b:Int)])):=by
     unfold dC
     dsimp only
     rw [ib hl g,ze,if_pos so,if_pos so,g1,ze,g2,ze,C,ze,D,ze,hw,if_pos (by simpa using hc),ec so,ze,sh za za,ze,G,ze]
    show cI _ (((b:Nat):Int),acc)=_
    rw [rZ f,window_loop ho H g hl r hi B _ k.2 (fun x I=>u x (G5 _ I)) so,Hc (by simpa using hc)]
    rw [show 16-acc.length=(16-(acc++[(b:Int)]).length)+1 by simp;omega,List.take_succ_cons]
    simp [ol]
   ·have f:dC nx bk o F (i:Int) a (((b:Nat):Int),acc)=some (.stop acc):=by
     unfold dC
     dsimp only
     rw [ib hl g,ze,if_pos so,if_pos so,g1,ze,g2,ze,C,ze,D,ze,hw,if_neg (by simpa using hc)]
    show cI _ (((b:Nat):Int),acc)=_
    rw [rD f,List.takeWhile_cons_of_neg (by simpa using hc)]
    simp [ol]
  ·have f:dC nx bk o F (i:Int) a (((b:Nat):Int),acc)=some (.stop acc):=by
    unfold dC
    dsimp only
    rw [ib hl g,ze,if_pos so,if_neg so]
   show cI _ (((b:Nat):Int),acc)=_
   rw [rD f,show 16-acc.length=0 by omega]
   simp [ol]
theorem Lnk_head{nx bk:List Int}{n:Nat}{P:List Nat}(h:Lnk nx bk (n::P++[n]))(hl:nx.length=n+1):oc nx (n:Int)=some (((P++[n]).headD 0:Nat):Int)∧Lnk nx bk (P++[n]):=by
 have:nx[n]? =some (((P++[n]).headD 0:Nat):Int)∧Lnk nx bk (P++[n]):=by
  cases P with
  |nil=>exact⟨h.1.1,h.2⟩
  |cons c B=>exact⟨h.1.1,h.2⟩
 refine⟨?_,this.2⟩
 have h1:=this.1
 rw [py (i:=n) rfl za]
 rw [zf za]at h1
 exact h1
theorem window_at{n:Nat}{nx bk:List Int}{F:List Ph}{o:List Int}(ho:oP F o)(C:F.length=n)(f:n<=1000)(u:∀b∈F,0<=b.bu∧b.bu<=18014398509481984){a:As}{i:Nat}{r:List Nat}(hc:Ch n (i::r) nx bk):
  nO a F o nx bk=some (ol (oO (fun j=>(plP F o j).bu) a.ch (i::r)),nx,bk):=by
 obtain⟨h1,k⟩:=Lnk_head hc.lnk hc.ln
 unfold nO
 rw [ib hc.ln f,ze,sh za (by have:=hc.ln;omega),ze,h1,ze]
 have g:=window_loop ho C f hc.ln u (a:=a) (i:=i) (hc.lt i zc) (i::r) [] k hc.lt zc
 have q:((((i::r)++[n]).headD 0:Nat):Int)=(i:Int):=rfl
 rw [q]at g⊢
 rw [g,ze]
 rfl
theorem residuals_at{q:ak}(j:PV q){p:ag}(hp:Sub q.bj ⟨p,p⟩){t:Int}(C: -5000<=t∧t<=18014398509481984):iV q p t=some (q.bM.map (fun b=>res (zn q ⟨p,p⟩ b) t),0):=by
 have hl:=j.len
 have k:∀z∈q.bM.map (zn q ⟨p,p⟩),fT z:=fun z k=>by obtain⟨b,u,rfl⟩:=List.mem_map.1 k;exact(zn_at j hp u).2
 unfold iV
 rw [zones_at j hp,ze,if_neg zc,if_neg so,if_neg so]
 dsimp only
 have hm:AF (0:Int) ((q.bM.map (zn q ⟨p,p⟩)).length:Int) (0:Int) 8=some []:=by
  unfold AF
  rw [if_pos ⟨za,za,so,so⟩];rfl
 rw [hm,ze,qa (l:=q.bM.map (zn q ⟨p,p⟩)) (f:=fun z=>res z t) (g:=id) (fun i hi acc r=>?_) (fun acc r=>?_),ze]
 ·simp [Hp]
 ·unfold io
  dsimp only
  rw [if_pos (by simp at hi⊢;omega),py (i:=i) rfl hi,ze,res_at (k _ (EJ hi)) C,ze,ec (by simp at hi⊢;omega),ze,w64 za (by simp at hi;omega)]
  rfl
 ·unfold io
  dsimp only
  rw [if_neg zc];rfl
def pO(a:As)(ph:List Ph):ak:=⟨a.bj,a.bG,ph,a.dv⟩
noncomputable def loc (a:As) (ph:List Ph):ap:=((dO (pO a ph) a.bA).getD (⟨⟨0,0,0⟩,0,0,0,⟨⟨0,0,0⟩,⟨0,0,0⟩⟩⟩,0)).1
def PhOk(a:As)(F:List Ph):Prop:=∀b∈F,PhV b∧Reach a.bG (oL a.bj b.bw)
theorem prob_ok{s:ah}(hs:fb s){ph:List Ph}(hp:PhOk s.ac ph)(hl:1<=ph.length∧ph.length<=64):PV (pO s.ac ph):=⟨hs.box,hs.reg,hs.tab,hl,hs.cap,hp⟩
theorem loc_at{s:ah}(hs:fb s){ph:List Ph}(hp:PhOk s.ac ph)(hl:1<=ph.length∧ph.length<=64):
  dO (pO s.ac ph) s.ac.bA=some (loc s.ac ph,0)∧Least (pO s.ac ph) s.ac.bA (loc s.ac ph)∧(-5000<=(loc s.ac ph).bT∧(loc s.ac ph).bT<=18014398509481984):=by
 have q:=prob_ok hs hp hl
 obtain⟨⟨E,F⟩,e,r,f⟩:=locate_least q hs.tol.1
 simp only at r f
 subst r
 have g:loc s.ac ph=E:=by unfold loc;rw [e];rfl
 rw [g]
 refine⟨e,f,?_⟩
 obtain⟨t,k,u⟩:=qc q f.inn
 rw [f.val]at k
 simp only [DJ,Prod.mk.injEq]at k
 obtain⟨rfl, -⟩:=k
 obtain⟨z,D,j⟩:=mem_ends.1 u.mem
 obtain⟨b,C,rfl⟩:=List.mem_map.1 D
 have:=(zn_at q f.inn C).2
 obtain⟨G,z2,z3⟩:=this
 simp only at j
 rcases j with h|h<;>omega
noncomputable def fits (a:As) (ph:List Ph) (b:Ph):Bool:=decide (res (zn (pO a ph) ⟨(loc a ph).bO,(loc a ph).bO⟩ b) (loc a ph).bT<=a.dJ)
noncomputable def oV {α:Type} (a:As) (ph:α->Ph) (w:List α):List α:=w.filter fun j=>fits a (w.map ph) (ph j)
theorem memK_map{α β:Type}{a:As}{ph:α->Ph}{g:β->Ph}{f:α->β}{w:List α}(h:∀x∈w,g (f x)=ph x):oV a g (w.map f)=(oV a ph w).map f:=by
 have e:(w.map f).map g=w.map ph:=by
  rw [HW]
  exact HV h
 unfold oV
 rw [e,HO]
 congr 1
 refine HL fun x j=>?_
 simp only [Hp,h x j]
theorem qo{α:Type}(a:As)(ph:α->Ph)(span:Int):WinOk (oO (fun j=>(ph j).bu) span) (oV a ph):=⟨fun l=>rC _ _ l,fun _=>HP⟩
abbrev ci:Int->Int->Bool:=fun x y=>decide (sX x y<0)
theorem jK(l:List Nat):(ol l).length=l.length:=by simp [ol]
theorem nats_get{l:List Nat}{i:Nat}(h:i<l.length):oc (ol l) (i:Int)=some ((l[i]:Nat):Int):=by
 rw [py (i:=i) rfl (by rw [jK];exact h)]
 simp [ol]
theorem rA{n:Nat}{F:List Ph}{o:List Int}(ho:oP F o)(O:F.length=n):∀(M D P:List Nat)(nx bk acc:List Int),M.Nodup->(∀m∈M,m∈P)->Ch n P nx bk->(D++M).length<=1000->acc.length<=D.length->
  Ok (cI (di (ol (D++M)) o) ((D.length:Int),nx,bk,acc)) (fun r=>Ch n (P.filter fun x=>decide (x∉M)) r.1 r.2.1∧r.2.2=acc++M.map (ir o))
 | [],D,P,nx,bk,acc,_,_,hc,_,_=>by
  rw [rD (o:=(nx,bk,acc))]
  ·refine Gq ⟨?_,zc⟩
   rw [List.filter_eq_self.2 zc];exact hc
  ·unfold di
   dsimp only
   rw [if_neg (by simp [jK])]
 |m::M,D,P,nx,bk,acc,L,hm,hc,hl,Q=>by
  obtain⟨q,g,e,u⟩:=remove_at hc (hm m zc)
  have E:=hc.lt m (hm m zc)
  obtain⟨g1,g2,g3⟩:=ho.get (j:=m) za
  have N:D.length+(M.length+1)<=1000:=by simpa using hl
  have C:D.length<(D++m::M).length:=by simp
  have f:di (ol (D++m::M)) o ((D.length:Int),nx,bk,acc)=some (.next (((D++[m]).length:Int),q,g,acc++[ir o m])):=by
   unfold di
   dsimp only
   rw [if_pos (by simp [jK];omega),sh za (by simp [jK];omega),ze,nats_get C,ze]
   have:(D++m::M)[D.length]'C=m:=by simp
   rw [this,e,ze,g1,ze,ec so,ze,w64 za za]
   simp
  rw [rZ f]
  have k:=List.nodup_cons.1 L
  have I := rA ho O M (D ++ [m]) _ q g (acc ++ [ir o m]) k.2 (fun x H => by
   refine List.mem_filter.2 ⟨hm x (G5 _ H),?_⟩
   simp only [FW,decide_eq_true_eq]
   rintro rfl
   exact k.1 H) u so so
  have e2:D++[m]++M=D++m::M:=by simp
  rw [e2]at I
  refine I.mono fun r G=>⟨?_,by rw [G.2];simp⟩
  have J:HJ (fun x=>decide (x∉M)) (HJ (fun x=>decide (x∉ [m])) P)=P.filter fun x=>decide (x∉m::M):=by
   rw [List.filter_filter]
   refine HL fun x _=>?_
   by_cases h1:x=m<;>by_cases K:x∈M<;>simp [h1,K]
  rw [<-J]
  exact G.1
theorem drop_first{n:Nat}{i:Nat}{r:List Nat}(f:(n::i::r).Nodup):(i::r).filter (fun x=>decide (x∉ [i]))=r:=by
 have:=filter_ne (A:=[]) (i:=i) (B:=r) (List.nodup_cons.1 f).2
 simpa using this
noncomputable abbrev rnd (a:As) (F:List Ph) (o:List Int) (m:Nat) (P:List Nat):List (List Nat)×List Nat:=rounds a.cn.toNat (oO (fun j=>(plP F o j).bu) a.ch) (oV a (plP F o)) m P
theorem rounds_at{s:ah}(hs:fb s){n:Nat}{F:List Ph}{o:List Int}(hn:F.length=n)(hF:n<=19)(O:PhOk s.ac F)(ho:oP F o):
  ∀(m:Nat)(P:List Nat)(nx bk:List Int)(G:List bC)(L:List Int),P.length<=m->Ch n P nx bk->P.length<=n->G.length<=n-P.length->L.length<=n-P.length->
   Ok (cI (cA s.ac F o) (G,L,nx,bk)) (fun r=>∃Q,r= .inl (G++Q,L++(rnd s.ac F o m P).2.map (ir o))∧Q.map (·.dj)=(rnd s.ac F o m P).1.map fun g=>c9 ci (g.map (ir o))):=by
 intro m
 induction m with
 |zero=>
  intro P nx bk G L T hc _ _ _
  obtain rfl:=Eb (Nat.le_zero.1 T)
  obtain⟨h1,h2⟩:=Lnk_head hc.lnk hc.ln
  rw [rD (o:= .inl (G,L))]
  ·exact Gq ⟨[],by simp [rounds],rfl⟩
  ·unfold cA
   dsimp only
   have hh:((([]++[n]).headD 0:Nat):Int)=(n:Int):=rfl
   rw [ib hc.ln za,ze,sh za (by have:=hc.ln;omega),ze,h1,ze,ze,hh,if_neg zc]
 |succ m ih=>
  intro P nx bk G L T hc K hG hL
  obtain⟨h1,h2⟩:=Lnk_head hc.lnk hc.ln
  match P,T,hc,K,hG,hL,h1 with
  | [],T,hc,K,hG,hL,h1=>
   rw [rD (o:= .inl (G,L))]
   ·exact Gq ⟨[],by simp [rounds],rfl⟩
   ·unfold cA
    dsimp only
    have hh:((([]++[n]).headD 0:Nat):Int)=(n:Int):=rfl
    rw [ib hc.ln za,ze,sh za (by have:=hc.ln;omega),ze,h1,ze,ze,hh,if_neg zc]
  |i::r,T,hc,K,hG,hL,h1=>
   have W:=hc.lt
   have hi:=W i zc
   have hh:((((i::r)++[n]).headD 0:Nat):Int)=(i:Int):=rfl
   have b2:=window_at ho hn za (fun b hb=>⟨(O b hb).1.early,by have:=(O b hb).1.late;have:=(O b hb).1.most;omega⟩) (a:=s.ac) hc
   have c4:=hs.span.1
   have X:=winK_cons (fun j=>(plP F o j).bu) c4 i r
   have H:=rC (fun j=>(plP F o j).bu) s.ac.ch (i::r)
   generalize hw:oO (fun j=>(plP F o j).bu) s.ac.ch (i::r)=w at b2 X H
   have c5:w.length<=(i::r).length:=H.length_le
   have d2:r.length+1<=n:=by simpa using K
   have d3:w.length<=r.length+1:=by simpa using c5
   have d6:1<=w.length:=by rw [X];simp
   have hle:=hs.least.1
   have b4:Ok (dh (ol w,nx,bk) o G L) (fun x=>∃C u,x= .next (G,L++[ir o i],C,u)∧Ch n r C u):=by
    obtain⟨C,u,e,N⟩:=remove_at hc (i:=i) zc
    rw [drop_first hc.nd]at N
    unfold dh
    dsimp only
    have g0:oc (ol w) (0:Int)=some (i:Int):=by rw [X];rfl
    rw [g0,ze,(ho.get (j:=i) za).1,ze,ec so,ze,ze,e,ze]
    exact Gq ⟨C,u,rfl,N⟩
   have no:¬(s.ac.cn.toNat<=w.length∧s.ac.cn.toNat<=(oV s.ac (plP F o) w).length)->∀x,cA s.ac F o (G,L,nx,bk)=some x->(∃C u,x= .next (G,L++[ir o i],C,u)∧Ch n r C u)->
     Ok (cI (cA s.ac F o) (G,L,nx,bk)) (fun r'=>∃Q,r'= .inl (G++Q,L++(rnd s.ac F o (m+1) (i::r)).2.map (ir o))∧Q.map (·.dj)=(rnd s.ac F o (m+1) (i::r)).1.map fun g=>c9 ci (g.map (ir o))):=by
    rintro c2 x hx ⟨C,u,rfl,N⟩
    rw [rZ hx]
    have:=ih r C u G (L++[ir o i]) (by simpa using T) N za (by simp at hG;omega) (by simp at hL⊢;omega)
    refine this.mono fun y hy=>?_
    obtain⟨Q,e1,e2⟩:=hy
    rw [rnd,gl,hw,if_neg c2]
    exact⟨Q,by rw [e1];simp,e2⟩
   have q:cA s.ac F o (G,L,nx,bk)=(if(decide (((ol w).length:Int)>=s.ac.cn))=true then((cI (ew (ol w,nx,bk) o F G L) ((0:Int),([]:(List aw)))).bind fun I=>(fO s.ac I.1).bind fun c7=>(dO c7 s.ac.bA).bind fun J=>if(J.2 != (0:Int))=true then(some (.stop (.inr (([]:(List bC)),([]:(List Int)),J.2))))else((fO s.ac I.1).bind fun c8=>(iV c8 J.1.bO J.1.bT).bind fun a5=>if(a5.2 != (0:Int))=true then(some (.stop (.inr (([]:(List bC)),([]:(List Int)),a5.2))))else((cI (eB (ol w,nx,bk) a5 s.ac) ((0:Int),([]:(List Int)))).bind fun b5=>if(decide ((b5.length:Int)>=s.ac.cn))=true then((cI (di b5 o) ((0:Int),nx,bk,([]:(List Int)))).bind fun Y=>(ud Y.2.2).bind fun d0=>(rR I.2.1 [(bC.mk d0 J.1.bO J.1.bT)] 56).bind fun d1=>some (.next (d1,I.2.2,Y.1,Y.2.1)))else(dh (ol w,nx,bk) o I.2.1 I.2.2))))else(dh (ol w,nx,bk) o G L)):=by
    conv=>lhs;unfold cA
    dsimp only
    rw [ib hc.ln za,ze,sh za (by have:=hc.ln;omega),ze,h1,ze,ze,hh,if_pos so,b2,ze]
   by_cases a6:s.ac.cn.toNat<=w.length
   ·rw [if_pos (by rw [jK];simp;omega)]at q
    have b3:PhOk s.ac (w.map (plP F o)):=fun b hb=>by
     obtain⟨j,hj,rfl⟩:=List.mem_map.1 hb
     exact O _ (ho.get (j:=j) (by have:=W j (H.subset hj);omega)).2.2
    have b6:cI (ew (ol w,nx,bk) o F G L) ((0:Int),([]:(List aw)))=some (w.map (plP F o),G,L):=by
     refine qa (l:=w) (f:=plP F o) (g:=fun x=>(x,G,L)) (fun k hk acc ha=>?_) (fun acc ha=>?_)
     ·have hj:=W _ (H.subset (EJ hk))
      obtain⟨g1,g2,g3⟩:=ho.get (j:=w[k]) za
      unfold ew
      dsimp only
      rw [if_pos (by rw [jK];simp;omega),nats_get hk,ze,g1,ze,g2,ze,ec so,ze,w64 za za]
      rfl
     ·unfold ew
      dsimp only
      rw [if_neg (by rw [jK];simp)]
    have b0:1<=(w.map (plP F o)).length∧(w.map (plP F o)).length<=64:=by rw [Ey];omega
    obtain⟨e1,e2,e3⟩:=loc_at hs b3 b0
    have e4:=residuals_at (prob_ok hs b3 b0) e2.inn e3
    rw [b6,ze]at q
    dsimp only at q
    have c3:fO s.ac (w.map (plP F o))=some (pO s.ac (w.map (plP F o))):=rfl
    rw [c3,ze,e1,ze,if_neg zc,ze]at q
    dsimp only at q
    rw [e4,ze,if_neg zc]at q
    have c0:cI (eB (ol w,nx,bk) ((pO s.ac (w.map (plP F o))).bM.map (fun b=>res (zn (pO s.ac (w.map (plP F o))) ⟨(loc s.ac (w.map (plP F o))).bO,(loc s.ac (w.map (plP F o))).bO⟩ b) (loc s.ac (w.map (plP F o))).bT),0) s.ac) ((0:Int),([]:(List Int)))=some (ol (oV s.ac (plP F o) w)):=by
     rw [flat_loop (l:=w) (f:=fun j=>if fits s.ac (w.map (plP F o)) (plP F o j)=true then [(j:Int)]else []) (g:=id) (fun x _=>by split<;>simp) (fun k hk acc ha=>?_) (fun acc ha=>?_)]
     ·congr 1
      exact flat_filter _ _ w
     ·unfold eB
      dsimp only
      have b1:oc ((pO s.ac (w.map (plP F o))).bM.map (fun b=>res (zn (pO s.ac (w.map (plP F o))) ⟨(loc s.ac (w.map (plP F o))).bO,(loc s.ac (w.map (plP F o))).bO⟩ b) (loc s.ac (w.map (plP F o))).bT)) (k:Int)=some (res (zn (pO s.ac (w.map (plP F o))) ⟨(loc s.ac (w.map (plP F o))).bO,(loc s.ac (w.map (plP F o))).bO⟩ (plP F o w[k])) (loc s.ac (w.map (plP F o))).bT):=by
       rw [py (i:=k) rfl (by simp [pO];omega)]
       simp [pO]
      rw [if_pos (by rw [jK];simp;omega),nats_get hk,ze,b1,ze,w64 za za]
      by_cases E:fits s.ac (w.map (plP F o)) (plP F o w[k])=true
      ·rw [if_pos E]
       unfold fits at E
       rw [if_pos E,ec so,ze]
       rfl
      ·rw [if_neg E]
       unfold fits at E
       rw [if_neg E,List.append_nil]
       rfl
     ·unfold eB
      dsimp only
      rw [if_neg (by rw [jK];simp)];rfl
    rw [c0,ze]at q
    have D:(oV s.ac (plP F o) w).Sublist (i::r):=List.filter_sublist.trans H
    generalize hM:oV s.ac (plP F o) w=M at q D no
    have d4:M.length<=r.length+1:=by simpa using D.length_le
    by_cases U:s.ac.cn.toNat<=M.length
    ·rw [if_pos (by rw [jK];simp;omega)]at q
     have c1:=(List.nodup_cons.1 hc.nd).2
     obtain⟨⟨C,u,acc⟩,t1,t2,t3⟩:=rA ho hn M [] (i::r) nx bk [] (c1.sublist D) (fun x hx=>D.subset hx) hc so zc
     simp only [D8]at t1 t2 t3
     have c6:cI (di (ol M) o) ((0:Int),nx,bk,[])=some (C,u,acc):=t1
     rw [c6,ze]at q
     dsimp only at q
     subst t3
     rw [sort_int so,ze,ec so,ze]at q
     rw [rZ q]
     have a9:=nQ (least:=s.ac.cn.toNat) za D U
     have d5:((i::r).filter fun x=>decide (x∉M)).length<=r.length:=by rw [D4]at a9;omega
     have:=ih _ C u (G++[bC.mk (c9 ci (M.map (ir o))) (loc s.ac (w.map (plP F o))).bO (loc s.ac (w.map (plP F o))).bT]) L (by rw [D4]at T;omega) t2 za (by rw [Ec,List.length_singleton];rw [D4]at hG;omega) (by rw [D4]at hL;omega)
     refine this.mono fun y hy=>?_
     obtain⟨Q,q1,q2⟩:=hy
     rw [rnd,gl,hw,hM,if_pos ⟨a6,U⟩]
     rw [DK]at q1
     refine⟨_,q1,?_⟩
     rw [List.singleton_append,FC,q2,FC]
    ·rw [if_neg (by rw [jK];simp;omega)]at q
     obtain⟨x,x1,x2⟩:=b4
     exact no (fun h=>U h.2) x (q.trans x1) x2
   ·rw [if_neg (by rw [jK];simp;omega)]at q
    obtain⟨x,x1,x2⟩:=b4
    exact no (fun h=>a6 h.1) x (q.trans x1) x2
theorem valid_at{s:ah}(hs:fb s){F:List Ph}(L:F.length<=256)(g:PhOk s.ac F):et s.ac F=some 0:=by
 obtain⟨h1, -,j,D,E,G,H,I,J,K,r,u⟩:=hs
 have f:∀{x a b:Int},a<=x->x<=b->fr x a b=some true:=fun h q=>by
  unfold fr;rw [if_pos (by simpa using h)];simpa using q
 unfold et
 rw [eP h1,ze,if_neg zc,jk j,ze,if_neg zc,f za za,ze,if_neg zc,f za za,ze,if_neg zc,f za za,ze,if_neg zc,f za za,ze,if_neg zc,f za za,ze,if_neg zc,if_neg so]
 have:cI (dt F s.ac) (0:Int)=some (.inl ()):=by
  refine gR F.length (fun i hi=>?_) ?_
  ·unfold dt
   have k:=g _ (EJ hi)
   obtain⟨z,e,C⟩:=qA j h1 k.1
   rw [if_pos so,py (i:=i) rfl hi,ze,e,ze,if_neg (by simp [C.1.2 k.2]),w64 za za]
   rfl
  ·unfold dt
   rw [if_neg zc]
 rw [this];rfl
theorem associate_at {s : ah} (hs : fb s) {F : List Ph} (u : F.length ≤ 19) (f : PhOk s.ac F) : ∃ o, oP F o ∧ Ok (iD s.ac F) (fun r => r.2.2 = 0 ∧
  r.1.map (·.dj)=(rnd s.ac F o F.length (DO F.length)).1.map (fun g=>c9 ci (g.map (ir o)))∧r.2.1=c9 ci ((rnd s.ac F o F.length (DO F.length)).2.map (ir o))):=by
 obtain⟨o,e,ho⟩:=order_at (F:=F) za
 refine⟨o,ho,?_⟩
 unfold iD
 rw [valid_at hs za f,ze,if_neg zc,e,ze]
 refine Gf (newChain_at (n:=F.length) za) (fun c⟨j,k,q⟩=>?_)
 refine Gf (rounds_at hs rfl u f ho F.length (DO F.length) c.fnext c.fback [] [] zc ⟨j,k,q,?_,fun x E=>List.mem_range.1 E⟩ zc zc zc) (fun r D=>?_)
 ·rw [Ez]
  exact⟨zc,H0⟩
 ·obtain⟨G,rfl,C⟩:=D
  simp only [D8]
  have hp:((rnd s.ac F o F.length (DO F.length)).1.flatten++(rnd s.ac F o F.length (DO F.length)).2).Perm (DO F.length):=nD (qo s.ac (plP F o) s.ac.ch) (least:=s.ac.cn.toNat) (by have:=hs.least.1;omega) F.length (DO F.length) zc H0
  have hl:=hp.length_eq
  rw [Ec,List.length_range]at hl
  rw [sort_int (by rw [Ey];omega),ze]
  exact Gq ⟨rfl,C,rfl⟩
end Go.Dw.Re
set_option maxRecDepth 100000
set_option maxHeartbeats 4000000
namespace Go.Dw.Re
open Go.Dw Go.Proofs
open Sd (ku dY dD)
structure UsV(a:ah)(r:aw×az×Bool):Prop where
 ph:PhV r.1
 reach:Reach a.ac.bG (oL a.ac.bj r.1.bw)
 resp:pf r.2.1.bW
noncomputable def used (a:ah) (v:ae) (p:Pick):aw×az×Bool:=(eH a v p).getD (⟨⟨0,0,0⟩,0,0,0⟩,zEp,false)
theorem epAt_ok{v:ae}(f:fq v){s:Sid}{t:Int}{e:az}(h:nE v s t=some e):EpOk e:=by
 unfold nE at h
 cases hc:chan v s with
 |none=>rw [hc]at h;cases h
 |some c=>
  rw [hc]at h
  exact(f.all c (rk hc).1).2.all e (epIn_mem h).1
theorem qm{e:az}(he:EpOk e){p:Pick}(hp:cH p):PhV ⟨e.bV,p.bu,p.co,1⟩:=by
 obtain⟨f,h1,g,j,k,q⟩:=hp
 exact⟨he.pos,h1,zd,zd,rfl⟩
theorem nV{a:ah}(g:fb a){v:ae}(f:fq v){p:Pick}(hp:cH p):eH a v p=some (used a v p)∧((used a v p).2.2=true->UsV a (used a v p)):=by
 have h:Ok (eH a v p) (fun r=>r.2.2=true->UsV a r):=by
  unfold eH
  rw [ou hp,ze,if_neg zc,At_eq f.lens (l9 f),ze]
  cases h:nE v p.a7 p.bT with
  |none=>
   dsimp only
   rw [if_pos zc]
   exact Gq zc
  |some e=>
   dsimp only
   rw [if_neg zc]
   have he:=epAt_ok f h
   refine Gf (qA g.tab g.box (a:=⟨e.bV,p.bu,p.co,1⟩) (qm he hp)) (fun z q=>?_)
   exact Gw (fun _=>Gq zc) (fun j=>Gq fun _=>⟨qm he hp,q.1.1 j,he.resp⟩)
 obtain⟨r,e,k⟩:=h
 have:used a v p=r:=by unfold used;rw [e];rfl
 rw [this]
 exact⟨e,k⟩
noncomputable def bP (a:ah) (v:ae) (L:List Pick):List Pick:=L.filter fun p=>(used a v p).2.2
noncomputable def mat (a:ah) (v:ae) (U:List Pick):bF:=⟨U,U.map fun p=>(used a v p).1,U.map fun p=>(used a v p).2.1⟩
theorem gather_at{a:ah}(g:fb a){v:ae}(j:fq v){l L:List Pick}(k:de l=some L)(hl:L.length<=20)(hp:∀p∈L,cH p):jN a v l=some (mat a v (bP a v L),0):=by
 unfold jN
 rw [qy g,ze,if_neg zc,l9 j,ze,if_neg zc,k,ze]
 have:Ok (cI (iM L a v) ((0:Int),([]:List aa),([]:List aw),([]:List az))) (fun o=>o=((mat a v (bP a v L)).gN,(mat a v (bP a v L)).fu,(mat a v (bP a v L)).kl)):=by
  refine Gi (fun s:Int×List Pick×List aw×List az=>∃i:Nat,i<=L.length∧s=((i:Int),(mat a v (bP a v (L.take i))).gN,(mat a v (bP a v (L.take i))).fu,(mat a v (bP a v (L.take i))).kl)) (fun s=>((L.length:Int)-s.1).toNat) ?_ ⟨0,DR _,rfl⟩
  rintro s ⟨i,i0,rfl⟩
  unfold iM
  dsimp only
  refine Gl (fun r=>?_) (fun q=>Gt ?_)
  rotate_left
  ·obtain rfl:i=L.length:=by omega
   rw [Ga]
  have hi:i<L.length:=by omega
  have u:(bP a v (L.take i)).length<=20:=by
   have:=HT (fun p=>(used a v p).2.2) (L.take i)
   have C:(L.take i).length<=L.length:=by rw [E1];omega
   unfold bP;omega
  rw [sh za za,ze,py rfl hi,ze,(nV g j (hp _ (EJ hi))).1,ze,w64 za za]
  have f:bP a v (L.take (i+1))=bP a v (L.take i)++(if(used a v L[i]).2.2=true then [L[i]]else []):=by
   unfold bP
   rw [rF hi,HK]
   congr 1
   by_cases h:(used a v L[i]).2.2=true<;>simp [h]
  by_cases hu:(used a v L[i]).2.2=true
  ·rw [if_pos hu]at f⊢
   rw [ec (by simp only [mat,D4,D5];omega),ze,ec (by simp only [mat,Ey,D4,D5];omega),ze,ec (by simp only [mat,Ey,D4,D5];omega),ze]
   refine Gk ⟨i+1,hi,?_⟩ zd
   rw [f]
   simp [mat]
  ·rw [if_neg hu]at f⊢
   refine Gk ⟨i+1,hi,?_⟩ zd
   rw [f]
   simp
 rw [this.eq,ze]
noncomputable def qZ (m:bF) (a:ah):Option (bJ×Int):=
 (lg m a).bind fun g=>if(g.2 != (0:Int))=true then(some ((bJ.mk [] (ap.mk (ag.mk 0 0 0) 0 0 0 (al.mk (ag.mk 0 0 0) (ag.mk 0 0 0))) (bp.mk 0 0) 0),g.2))else((dO g.1 a.bA).bind fun f=>if(f.2 != (0:Int))=true then(some ((bJ.mk [] (ap.mk (ag.mk 0 0 0) 0 0 0 (al.mk (ag.mk 0 0 0) (ag.mk 0 0 0))) (bp.mk 0 0) 0),f.2))else((dL m a f.1.cp).bind fun j=>if(decide ((j.length:Int)>(0:Int)))=true then((il j).bind fun k=>if(k.2 != (0:Int))=true then(some ((bJ.mk [] (ap.mk (ag.mk 0 0 0) 0 0 0 (al.mk (ag.mk 0 0 0) (ag.mk 0 0 0))) (bp.mk 0 0) 0),k.2))else(some ((bJ.mk m.gN f.1 k.1 (j.length:Int)),(0:Int))))else(some ((bJ.mk m.gN f.1 (bp.mk 0 0) 0),(0:Int)))))
theorem solve_at{a:ah}{v:ae}{l:List Pick}{m:bF}(h:jN a v l=some (m,0)):ji a v l=qZ m a:=by
 unfold ji
 rw [h,ze,if_neg zc]
 rfl
structure MatP(a:ah)(m:bF):Prop where
 mat:MatV m
 ph:∀b∈m.fu,PhV b∧Reach a.ac.bG (oL a.ac.bj b.bw)
theorem mat_ok{a:ah}(f:fb a){v:ae}(j:fq v){U:List Pick}(hl:U.length<=19)(hp:∀p∈U,cH p∧(used a v p).2.2=true):MatP a (mat a v U):=by
 refine⟨⟨⟨by simp [mat],by simp [mat]⟩,hl,fun b g=>?_,fun e he=>?_⟩,fun b g=>?_⟩
 ·obtain⟨p,h,rfl⟩:=List.mem_map.1 g
  exact((nV f j (hp p h).1).2 (hp p h).2).ph.pos
 ·obtain⟨p,h,rfl⟩:=List.mem_map.1 he
  exact((nV f j (hp p h).1).2 (hp p h).2).resp
 ·obtain⟨p,h,rfl⟩:=List.mem_map.1 g
  have:=(nV f j (hp p h).1).2 (hp p h).2
  exact⟨this.ph,this.reach⟩
theorem clone_at'{l:List Int}(h:l.length<=1000):sg 8 l=some l:=by
 unfold sg
 rw [if_pos za]
theorem solve_ok{a:ah}(f:fb a){m:bF}(hm:MatP a m):Ok (qZ m a) (fun r=>(m.gN=[]->r.2=24)∧(m.gN≠ []->r.2=0∧r.1.da=m.gN∧(m.gN.length=1->r.1.bc.cb=0))∧r.1.da.length<=19):=by
 obtain⟨hm,k⟩:=hm
 obtain⟨⟨q,K⟩,D, -, -⟩:=id hm
 have hl:=f.tab.len;have hs:=f.tab.same
 unfold qZ lg
 by_cases j:m.gN=[]
 ·rw [if_pos (by simp [q,j]),ze,if_pos zc]
  exact Gq ⟨fun _=>rfl,fun h=>(h j).elim,zc⟩
 have u:=List.length_pos_iff.2 j
 rw [if_neg (by simp;intro e;rw [e]at q;simp at q;omega),if_neg so,clone_at' za,ze,clone_at' za,ze,ze,if_neg zc]
 have F:PV ⟨a.ac.bj,⟨a.ac.bG.bQ,a.ac.bG.bt,a.ac.bG.bd⟩,m.fu,a.ac.dv⟩:=⟨f.box,f.reg,f.tab,⟨zd,zd⟩,f.cap,k⟩
 refine Gf (locate_ok F f.tolerance.1) (fun x⟨H,I,J⟩=>?_)
 refine Gw (fun h=>(h H).elim) (fun _=>?_)
 refine Gf (estimates_ok f hm (I.ok f.box f.reg)) (fun y C=>?_)
 have g:m.gN.length=1->x.1.cb=0:=fun h=>J (by show m.fu.length=1;omega)
 refine Gl (fun E=>?_) (fun _=>Gq ⟨fun h=>(j h).elim,fun _=>⟨rfl,rfl,g⟩,D⟩)
 refine Gf (network_ok za C.1 C.2) (fun z G=>?_)
 exact Gw (fun h=>(h G).elim) (fun _=>Gq ⟨fun h=>(j h).elim,fun _=>⟨rfl,rfl,g⟩,D⟩)
theorem solve_resp{m:bF}{e:List az}(h:e.map (·.bW)=m.kl.map (·.bW))(a:ah):qZ ⟨m.gN,m.fu,e⟩ a=qZ m a:=by
 unfold qZ
 simp only [estimates_eq h]
 rfl
theorem same_self{s:bJ}(h:s.da.length<=1000):pG s s=some true:=by
 unfold pG
 rw [oY h]
 simp
end Go.Dw.Re
set_option maxRecDepth 100000
set_option maxHeartbeats 4000000
namespace Go.Dw.Re
open Go.Dw Go.Proofs
open Sd (ku dY dD)
def ov(a b:Pick):Int:=if sX a.bT b.bT≠0 then sX a.bT b.bT else db a b
theorem cmpE_eq(a b:Pick):jQ a b=some (ov a b):=by
 unfold jQ
 simp only [Sd.lL,mV,ze,cmp_or2]
 rfl
theorem n8:Tot ov:=(tv.map fun x:Pick=>x.bT).or cB
theorem cmpE_zero{a b:Pick}(h:ov a b=0):a=b:=by
 unfold ov at h
 exact jP (oa h).2
def z0:Pick:=⟨⟨[],[],[],[]⟩,0,0,0,0,0⟩
def nmF(b:Pick)(l:List Pick):Pick:=l.foldl (fun b x=>if ov x b<0 then x else b) b
def nm:List Pick->Pick
 | []=>z0
 |p::l=>nmF p l
theorem nmF_least:∀(l:List Pick)(b:Pick),nmF b l∈b::l∧∀x∈b::l,ov (nmF b l) x<=0
 | [], b => ⟨by simp [nmF], fun x f => by
  rw [List.mem_singleton.1 f]
  have:=n8.refl b
  show ov b b<=0
  omega⟩
 |y::l,b=>by
  have hu:nmF b (y::l)=nmF (if ov y b<0 then y else b) l:=rfl
  rw [hu]
  obtain⟨h1,g⟩:=nmF_least l (if ov y b<0 then y else b)
  have j:=g (if ov y b<0 then y else b) zc
  by_cases h:ov y b<0
  ·rw [if_pos h]at h1 g j⊢
   refine⟨G5 _ h1,fun x f=>?_⟩
   rcases List.mem_cons.1 f with rfl|f
   ·exact n8.tr _ _ _ j za
   ·exact g x f
  ·rw [if_neg h]at h1 g j⊢
   refine⟨?_,fun x f=>?_⟩
   ·rcases List.mem_cons.1 h1 with h1|h1
    ·rw [h1];simp
    ·exact G5 _ (G5 _ h1)
   ·rcases List.mem_cons.1 f with rfl|f
    ·exact j
    ·rcases List.mem_cons.1 f with rfl|f
     ·have:=n8.uV x b
      exact n8.tr _ _ _ j za
     ·exact g x (G5 _ f)
theorem nm_least{l:List Pick}(h:l≠ []):nm l∈l∧∀x∈l,ov (nm l) x<=0:=by
 cases l with
 |nil=>exact(h rfl).elim
 |cons p l=>exact nmF_least l p
theorem name_at{l:List Pick}(hl:l.length<=1000):pr l=some (nm l):=by
 unfold pr
 cases l with
 |nil=>rw [if_pos zc];rfl
 |cons p l=>
  rw [if_neg so]
  unfold eD
  rw [if_neg so,show oc (p::l) (0:Int)=some p from rfl,ze]
  have key:∀(k i:Nat)(b:Pick),i+k=(p::l).length->cI (dc (p::l)) ((i:Int),b.a7.bI,b.a7.bw,b.a7.bc,b.a7.bL,b.bT,b.bu,b.co,b.bH,b.bN)=
    some (let c:=nmF b ((p::l).drop i);(c.a7.bI,c.a7.bw,c.a7.bc,c.a7.bL,c.bT,c.bu,c.co,c.bH,c.bN)):=by
   intro k
   induction k with
   |zero=>
    intro i b hi
    obtain rfl:i=(p::l).length:=by omega
    rw [rD (o:=(b.a7.bI,b.a7.bw,b.a7.bc,b.a7.bL,b.bT,b.bu,b.co,b.bH,b.bN))]
    ·rw [List.drop_length];rfl
    ·unfold dc
     dsimp only
     rw [if_neg zc]
   |succ k j=>
    intro i b hi
    have f:i<(p::l).length:=by omega
    rw [GY f]
    have g:dc (p::l) ((i:Int),b.a7.bI,b.a7.bw,b.a7.bc,b.a7.bL,b.bT,b.bu,b.co,b.bH,b.bN)=
      some (.next (let c:=(if ov (p::l)[i] b<0 then(p::l)[i]else b);(((i+1:Nat):Int),c.a7.bI,c.a7.bw,c.a7.bc,c.a7.bL,c.bT,c.bu,c.co,c.bH,c.bN))):=by
     unfold dc
     dsimp only
     rw [if_pos (by simp at f⊢;omega),py (i:=i) rfl f,ze,cmpE_eq,ze,w64 za (by simp at f hl;omega)]
     by_cases h:ov (p::l)[i] b<0
     ·rw [if_pos (by simpa using h),if_pos h,ze];rfl
     ·rw [if_neg (by simpa using h),if_neg h];rfl
    rw [rZ g]
    exact j (i+1) _ za
  have:=key l.length 1 p so
  have h1:(1:Int)=((1:Nat):Int):=rfl
  rw [h1,this]
  rfl
theorem usable1_at{s:ah}(hs:fb s){v:ae}(f:fq v){p:Pick}(hp:cH p):lV s v p=some ((used s v p).1,(used s v p).2.2):=by
 unfold lV
 rw [qy hs,ze,if_neg zc,l9 f,ze,if_neg zc,(nV hs f hp).1]
 rfl
noncomputable def phU (s:ah) (v:ae) (p:Pick):Ph:=(used s v p).1
theorem eusable_at{s:ah}(hs:fb s){v:ae}(j:fq v){l L:List Pick}(k:de l=some L)(hl:L.length<=200)(hp:∀p∈L,cH p):nP s v l=some (bP s v L,(bP s v L).map (phU s v),0):=by
 unfold nP
 rw [qy hs,ze,if_neg zc,l9 j,ze,if_neg zc,k,ze]
 have hu:∀i,(bP s v (L.take i)).length<=i:=fun i=>by
  have:=HT (fun p=>(used s v p).2.2) (L.take i)
  have C:(L.take i).length<=i:=by rw [E1];omega
  unfold bP;omega
 have:Ok (cI (k9 L s v) ((0:Int),([]:List aa),([]:List aw))) (fun o=>o=(bP s v L,(bP s v L).map (phU s v))):=by
  refine Gi (fun x:Int×List Pick×List aw=>∃i:Nat,i<=L.length∧x=((i:Int),bP s v (L.take i),(bP s v (L.take i)).map (phU s v))) (fun x=>((L.length:Int)-x.1).toNat) ?_ ⟨0,DR _,rfl⟩
  rintro x ⟨i,i0,rfl⟩
  unfold k9
  dsimp only
  refine Gl (fun r=>?_) (fun q=>Gt ?_)
  rotate_left
  ·obtain rfl:i=L.length:=by omega
   rw [Ga]
  have hi:i<L.length:=by omega
  have u:=hu i
  rw [sh za za,ze,py rfl hi,ze,usable1_at hs j (hp _ (EJ hi)),ze,w64 za za]
  have f:bP s v (L.take (i+1))=bP s v (L.take i)++(if(used s v L[i]).2.2=true then [L[i]]else []):=by
   unfold bP
   rw [rF hi,HK]
   congr 1
   by_cases h:(used s v L[i]).2.2=true<;>simp [h]
  by_cases h:(used s v L[i]).2.2=true
  ·rw [if_pos h]at f⊢
   rw [ec so,ze,ec so,ze]
   refine Gk ⟨i+1,hi,?_⟩ zd
   rw [f]
   simp [phU]
  ·rw [if_neg h]at f⊢
   refine Gk ⟨i+1,hi,?_⟩ zd
   rw [f]
   simp
 have g:=hu L.length
 rw [Ga]at g
 rw [this.eq,ze]
 dsimp only
 rw [if_neg so]
noncomputable def rn (s:ah) (v:ae) (a b:Pick):Int:=if cmpF (phU s v a) (phU s v b)≠0 then cmpF (phU s v a) (phU s v b)else db a b
theorem jH(s:ah)(v:ae):Tot (rn s v):=(cmpF_tot.map (phU s v)).or cB
theorem nX{s:ah}{v:ae}{a b:Pick}(h:rn s v a b=0):a=b:=by
 unfold rn at h
 exact jP (oa h).2
noncomputable def iA (s:ah) (v:ae) (U:List Pick):List Pick:=c9 (fun a b=>decide (rn s v a b<0)) U
theorem eO{α:Type}{c:α->α->Int}(hc:Tot c)(g:∀x y,c x y=0->x=y){l:List α}(hl:l.Nodup):(c9 (fun x y=>decide (c x y<0)) l).Pairwise (fun x y=>c x y<0):=by
 have h1:=rz hc l
 have j:(c9 (fun x y=>decide (c x y<0)) l).Nodup:=(bY _ l).nodup_iff.2 hl
 refine(h1.and j).imp fun{x y}h=>?_
 rcases Int.lt_or_eq_of_le h.1 with f|f
 ·exact f
 ·exact(h.2 (g x y f)).elim
theorem dX{α:Type}{c:α->α->Int}(hc:Tot c){l:List α}(h:l.Pairwise (fun x y=>c x y<0)):l.Nodup:=h.imp fun{x y}h e=>by
 subst e
 have:=hc.refl x
 omega
noncomputable abbrev cP:Pick->Pick->Bool:=fun x y=>decide (db x y<0)
noncomputable abbrev cE:aq->aq->Bool:=fun x y=>decide (ov x.dl y.dl<0)
noncomputable def mg (s:ah) (v:ae) (O:List Pick):List (List Pick)×List Pick:=rounds s.ac.cn.toNat (oO (fun p=>(phU s v p).bu) s.ac.ch) (oV s.ac (phU s v)) O.length O
noncomputable def sol (s:ah) (v:ae) (m:List Pick):bJ:=((qZ (mat s v m) s).getD (⟨[],⟨⟨0,0,0⟩,0,0,0,⟨⟨0,0,0⟩,⟨0,0,0⟩⟩⟩,⟨0,0⟩,0⟩,0)).1
noncomputable def evM (s:ah) (v:ae) (m:List Pick):aq:=⟨nm m,sol s v m⟩
def UsOk(s:ah)(v:ae)(U:List Pick):Prop:=∀p∈U,cH p∧(used s v p).2.2=true
theorem usable_all{s:ah}{v:ae}{U:List Pick}(h:UsOk s v U):bP s v U=U:=List.filter_eq_self.2 fun p hp=>(h p hp).2
theorem qn{m:List Pick}(hm:m.Pairwise fun x y=>db x y<0)(hl:m.length<=1000):de m=some m:=by
 obtain⟨r,e,h1,f, -⟩:=oz hl
 rw [e,fy h1 hm f]
theorem solve_group{s:ah}(hs:fb s){v:ae}(k:fq v){m:List Pick}(hm:m.Pairwise fun x y=>db x y<0)(hu:UsOk s v m)(hl:m.length<=19)(q:m≠ []):ji s v m=some (sol s v m,0)∧(sol s v m).da=m:=by
 have j:=gather_at hs k (qn hm za) za (fun p hp=>(hu p hp).1)
 rw [usable_all hu]at j
 obtain⟨r,e, -,h1, -⟩:=solve_ok hs (mat_ok hs k hl hu)
 obtain⟨f,g, -⟩:=h1 (by simpa [mat]using q)
 obtain⟨u,C⟩:=r
 simp only at f g
 subst f
 have:sol s v m=u:=by unfold sol;rw [e];rfl
 rw [solve_at j,e,this]
 exact⟨rfl,g⟩
theorem PhOk_of{s:ah}(hs:fb s){v:ae}(g:fq v){U:List Pick}(hu:UsOk s v U):PhOk s.ac (U.map (phU s v)):=fun b f=>by
 obtain⟨p,hp,rfl⟩:=List.mem_map.1 f
 have:=(nV hs g (hu p hp).1).2 (hu p hp).2
 exact⟨this.ph,this.reach⟩
theorem names_eq(x y:aq):lI ⟨⟩ x y=some (ov x.dl y.dl):=by unfold lI;rw [cmpE_eq];rfl
theorem ins_event{l:List aq}(f:l.length<=1000):dw 0 (l.length:Int) l=some (c9 cE l):=by
 refine Eq.trans (b:=insG (fun x y=>lI ⟨⟩ x y) (fun c=>decide (c<0)) 0 (l.length:Int) l) rfl (insG_at (S:=fun _=>True) (fun x y _ _=>⟨_,names_eq x y,rfl⟩) (fun _ _=>trivial) f)
theorem sort_event{l:List aq}(q:l.length<=12):ef l=some (c9 cE l):=by
 unfold ef
 obtain⟨b,j, -⟩:=bits_ok (n:=Fb .u64 (l.length:Int)) (u64_range _)
 rw [j,ze]
 have h1:(cI (cy l.length 0 l b) ())=some (c9 cE l):=by
  refine rD ?_
  unfold cy
  rw [w64 za za,if_pos so,ins_event za]
  rfl
 have k:cK 0 (l.length:Int) b l=some (c9 cE l):=by
  unfold cK
  refine Bz ⟨1,?_⟩ fun n s hs=>?_
  ·show((cI (cy l.length 0 l b) ()).bind fun g=>some g)=_
   rw [h1];rfl
  ·cases n with
   |zero=>cases hs
   |succ n=>
    have f:((cI (cy l.length 0 l b) ()).bind fun g=>some g)=some s:=hs
    rw [h1]at f
    exact(Ew f).symm
 rw [k];rfl
theorem nodup_map{α β:Type}{f:α->β}{l:List α}(hl:l.Nodup)(h:∀x∈l,∀y∈l,f x=f y->x=y):(l.map f).Nodup:=by
 unfold HE at hl⊢
 rw [G8]
 refine List.pairwise_iff_forall_sublist.2 fun{a b}g e=>?_
 exact List.pairwise_iff_forall_sublist.1 hl g (h a (g.subset zc) b (g.subset zc) e)
theorem nodup_of_map{α β:Type}{f:α->β}{l:List α}(h:(l.map f).Nodup):l.Nodup:=by
 unfold HE at h⊢
 rw [G8]at h
 exact h.imp fun{a b}g e=>g (congrArg f e)
theorem inj_of_map{α β:Type}{f:α->β}:∀{l:List α},(l.map f).Nodup->∀x∈l,∀y∈l,f x=f y->x=y
 | [],_,x,k,_,_,_=>by cases k
 |a::l,h,x,k,y,q,e=>by
  rw [FC,Ez]at h
  rcases List.mem_cons.1 k with rfl|j
  ·rcases List.mem_cons.1 q with rfl|g
   ·rfl
   ·exact(h.1 (by rw [e];exact HZ g)).elim
  ·rcases List.mem_cons.1 q with rfl|g
   ·exact(h.1 (by rw [<-e];exact HZ j)).elim
   ·exact inj_of_map h.2 x j y g e
def uAt(U:List Pick)(i:Int):Pick:=U.getD i.toNat z0
theorem uAt_get{U:List Pick}{i:Int}(f:0<=i)(h1:i<U.length):oc U i=some (uAt U i):=by
 rw [py (i:=i.toNat) za za]
 unfold uAt
 rw [FO,zf za];rfl
theorem uAt_mem{U:List Pick}{i:Int}(f:0<=i)(h1:i<U.length):uAt U i∈U:=by
 unfold uAt
 rw [FO,zf za]
 exact EJ _
theorem uAt_lt{U:List Pick}(f:U.Pairwise fun x y=>db x y<0){i k:Int}(g:0<=i)(h1:i<k)(j:k<U.length):db (uAt U i) (uAt U k)<0:=by
 unfold uAt
 rw [FO,zf za,FO,zf za]
 exact List.pairwise_iff_getElem.1 f _ _ _ _ za
theorem uAt_ph{s:ah}{v:ae}{U:List Pick}{i:Int}(f:0<=i)(h1:i<U.length):pN (U.map (phU s v)) i=phU s v (uAt U i):=by
 unfold pN uAt
 rw [FO,zf so,FO,zf za]
 simp
def pk(U:List Pick)(o:List Int)(j:Nat):Pick:=uAt U (ir o j)
theorem ci_strict{l:List Int}(hl:l.Nodup):(c9 ci l).Pairwise (· < ·):=(eO tv (fun x y h=>xC.1 h) hl).imp fun{x y}h=>by unfold sX at h;repeat' split at h<;>omega
theorem idx_sort{U:List Pick}(q:U.Pairwise fun x y=>db x y<0){l:List Int}(r:l.Nodup)(hl:∀i∈l,0<=i∧i<U.length):(c9 ci l).map (uAt U)=c9 cP (l.map (uAt U)):=by
 have g:∀i∈c9 ci l,0<=i∧i<U.length:=fun i hi=>hl i ((bY _ l).mem_iff.1 hi)
 have h1:((c9 ci l).map (uAt U)).Pairwise fun x y=>db x y<0:=by
  rw [G8]
  refine(List.pairwise_iff_forall_sublist.2 fun{a b}f=>?_)
  have j:=List.pairwise_iff_forall_sublist.1 (ci_strict r) f
  have u:=g a (f.subset zc);have C:=g b (f.subset zc)
  exact uAt_lt q u.1 j C.2
 have k:(l.map (uAt U)).Nodup:=by
  have:=dX cB h1
  refine((bY ci l).map (uAt U)).nodup_iff.1 this
 refine gm cB h1 (eO cB (fun _ _=>jP) k) fun x=>?_
 rw [(bY cP _).mem_iff,((bY ci l).map (uAt U)).mem_iff]
theorem pk_sorted{s:ah}{v:ae}{U:List Pick}(r:U.Pairwise fun x y=>db x y<0){o:List Int}(ho:oP (U.map (phU s v)) o):(DO U.length).map (pk U o)=iA s v U:=by
 have u:(DO U.length).map (pk U o)=o.map (uAt U):=by
  refine List.ext_getElem (by simp [ho.len]) fun j h1 D=>?_
  simp only [G3,List.getElem_range]
  unfold pk ir
  rw [FO,zf (by simpa using D)];rfl
 rw [u]
 have hm:∀i,i∈o↔0<=i∧i<U.length:=fun i=>by rw [ho.perm.mem_iff,ids_mem,Ey]
 have h1:(o.map (uAt U)).Pairwise fun x y=>rn s v x y<0:=by
  rw [G8]
  refine(List.pairwise_iff_forall_sublist.2 fun{a b}g=>?_)
  have f:=List.pairwise_iff_forall_sublist.1 ho.lex g
  have k:=(hm a).1 (g.subset zc);have q:=(hm b).1 (g.subset zc)
  unfold Lex at f
  dsimp only at f
  rw [uAt_ph k.1 k.2,uAt_ph q.1 q.2]at f
  unfold rn
  rcases f with h|⟨h,C⟩
  ·rw [if_pos za];exact h
  ·rw [if_neg za];exact uAt_lt r k.1 C q.2
 refine gm (jH s v) h1 (eO (jH s v) (fun _ _=>nX) (dX cB r)) fun x=>?_
 unfold iA
 rw [(bY _ U).mem_iff,HY]
 constructor
 ·rintro⟨i,hi,rfl⟩
  exact uAt_mem ((hm i).1 hi).1 ((hm i).1 hi).2
 ·intro E
  obtain⟨i,hi,rfl⟩:=List.mem_iff_getElem.1 E
  refine⟨(i:Int),(hm _).2 ⟨za,za⟩,?_⟩
  unfold uAt
  rw [Int.toNat_natCast,FO,zf hi];rfl
theorem find_at{s:ah}(hs:fb s){v:ae}(hv:fq v){l L:List Pick}(hL:de l=some L)(d1:L.Pairwise fun x y=>db x y<0)(hl:L.length<=200)(hp:∀p∈L,cH p)(hu:(bP s v L).length<=19):
  kz s v l=some (c9 cE ((mg s v (iA s v (bP s v L))).1.map fun g=>evM s v (c9 cP g)),c9 cP (mg s v (iA s v (bP s v L))).2,0):=by
 have hU:(bP s v L).Pairwise fun x y=>db x y<0:=d1.filter _
 have a5:UsOk s v (bP s v L):=fun p h=>by
  have:=List.mem_filter.1 h
  exact⟨hp p this.1,this.2⟩
 unfold kz
 rw [eusable_at hs hv hL hl hp,ze,if_neg zc]
 generalize bP s v L=U at hu hU a5⊢
 have Y:(U.map (phU s v)).length=U.length:=Ey ..
 obtain⟨o,ho,⟨⟨G,Z,e⟩,eA,r1,r2,r3⟩⟩:=associate_at hs (F:=U.map (phU s v)) za (PhOk_of hs hv a5)
 simp only at r1 r2 r3
 subst r1
 rw [eA,ze,if_neg zc]
 rw [Y]at r2 r3
 have u:∀j∈DO U.length,0<=ir o j∧ir o j<U.length:=fun j r=>by
  have:=ho.range (j:=j) (by rw [Y];exact List.mem_range.1 r)
  rw [Y]at this;exact this
 have b1:∀j∈DO U.length,phU s v (pk U o j)=plP (U.map (phU s v)) o j:=fun j r=>by
  unfold plP pk
  rw [uAt_ph (u j r).1 (u j r).2]
 have a9:((DO U.length).map (pk U o)).Nodup:=by
  rw [pk_sorted hU ho]
  exact(bY _ U).nodup_iff.2 (dX cB hU)
 have J:∀x∈DO U.length,∀y∈DO U.length,pk U o x=pk U o y->x=y:=inj_of_map a9
 have W := pI (least := s.ac.cn.toNat) (win := oO (fun j => (plP (U.map (phU s v)) o j).bu) s.ac.ch) (mem := oV s.ac (plP (U.map (phU s v)) o)) (win' := oO (fun p => (phU s v p).bu) s.ac.ch) (mem' := oV s.ac (phU s v)) (f := pk U o) (DO U.length) J (qo _ _ _) U.length (DO U.length) (List.Sublist.refl _) (fun l' c5 => by
  have h1:∀x∈l',phU s v (pk U o x)=plP (U.map (phU s v)) o x:=fun x O=>b1 x (c5.subset O)
  refine⟨winK_map l' fun x O=>by rw [h1 x O],memK_map fun x O=>h1 x ((rC _ _ l').subset O)⟩)
 rw [pk_sorted hU ho]at W
 have c1:(iA s v U).length=U.length:=dW _ _
 have hR:mg s v (iA s v U)=((rnd s.ac (U.map (phU s v)) o U.length (DO U.length)).1.map (Fa (pk U o)),(rnd s.ac (U.map (phU s v)) o U.length (DO U.length)).2.map (pk U o)):=by
  unfold mg
  rw [c1];exact W
 have q:=nD (qo s.ac (plP (U.map (phU s v)) o) s.ac.ch) (least:=s.ac.cn.toNat) (by have:=hs.least.1;omega) U.length (DO U.length) zc H0
 have hlen:=qY (win:=oO (fun j=>(plP (U.map (phU s v)) o j).bu) s.ac.ch) (mem:=oV s.ac (plP (U.map (phU s v)) o)) (least:=s.ac.cn.toNat) U.length (DO U.length)
 rw [hR]
 generalize d0:rnd s.ac (U.map (phU s v)) o U.length (DO U.length)=rd at r2 r3
 have b2:rounds s.ac.cn.toNat (oO (fun j=>(plP (U.map (phU s v)) o j).bu) s.ac.ch) (oV s.ac (plP (U.map (phU s v)) o)) U.length (DO U.length)=rd:=d0
 rw [b2]at q hlen
 obtain⟨A,B⟩:=rd
 simp only at r2 r3 q hlen⊢
 have E:∀g∈A,g.Nodup∧g.Sublist A.flatten:=fun g C=>by
  have h1:g.Sublist A.flatten:=H9 C
  have h2:(A.flatten++B).Nodup:=q.nodup_iff.2 H0
  exact⟨(List.nodup_append.1 h2).1.sublist h1,h1⟩
 have H:∀g∈A,∀j∈g,j∈DO U.length:=fun g C j r=>q.mem_iff.1 (List.mem_append.2 (.inl ((E g C).2.subset r)))
 have T:∀j∈B,j∈DO U.length:=fun j r=>q.mem_iff.1 (List.mem_append.2 (.inr r))
 have b6:B.Nodup:=by
  have h2:(A.flatten++B).Nodup:=q.nodup_iff.2 H0
  exact(List.nodup_append.1 h2).2.1
 have Q:∀{g:List Nat},g.Nodup->(∀j∈g,j∈DO U.length)->(g.map (ir o)).Nodup:=fun{g}C r=>by
  refine nodup_of_map (f:=uAt U) ?_
  rw [HW]
  exact nodup_map C fun x O y hy h=>J x (r x O) y (r y hy) h
 have I:∀g:List Nat,g.Nodup->(∀j∈g,j∈DO U.length)->(c9 ci (g.map (ir o))).map (uAt U)=c9 cP (g.map (pk U o)):=fun g C r=>by
  rw [idx_sort hU (Q C r) (fun i hi=>by obtain⟨j,N,rfl⟩:=List.mem_map.1 hi;exact u j (r j N)),HW]
  rfl
 have c0:∀g∈G,∃a∈A,g.dj=c9 ci (a.map (ir o)):=fun g C=>by
  have:g.dj∈G.map (·.dj):=HZ C
  rw [r2]at this
  obtain⟨a,D,e⟩:=List.mem_map.1 this
  exact⟨a,D,e.symm⟩
 have d4:G.length=A.length:=by
  have:=congrArg List.length r2
  simpa using this
 have d6:A.flatten.length+B.length=U.length:=by
  have:=q.length_eq
  simpa using this
 have d3:2*A.length<=A.flatten.length:=by
  have:∀X:List (List Nat),(∀g∈X,2<=g.length)->2*X.length<=X.flatten.length:=by
   intro X
   induction X with
   |nil=>intro _;simp
   |cons x X ih=>
    intro h
    have:=ih fun g C=>h g (G5 _ C)
    have:=h x zc
    rw [HR,Ec,D4];omega
  exact this A fun g C=>by have:=hlen g C;have:=hs.least.1;omega
 have c4:∀a∈A,a.length<=19:=fun a D=>by have:=(E a D).2.length_le;omega
 have c3:∀g∈G,ji s v (g.dj.map (uAt U))=some (sol s v (g.dj.map (uAt U)),0)∧(sol s v (g.dj.map (uAt U))).da=g.dj.map (uAt U)∧(g.dj.map (uAt U)).length<=19∧(∀i∈g.dj,0<=i∧i<U.length):=fun g C=>by
  obtain⟨a,D,e⟩:=c0 g C
  have e2:g.dj.map (uAt U)=c9 cP (a.map (pk U o)):=by rw [e,I a (E a D).1 (H a D)]
  have c6:(a.map (pk U o)).Nodup:=nodup_map (E a D).1 fun x O y hy h=>J x (H a D x O) y (H a D y hy) h
  have b0:(c9 cP (a.map (pk U o))).length=a.length:=by rw [dW,Ey]
  have d2:=c4 a D
  have c7:c9 cP (a.map (pk U o))≠ []:=fun h=>by
   rw [h]at b0
   have:=hlen a D;have:=hs.least.1
   simp at b0;omega
  obtain ⟨q1, q2⟩ := solve_group hs hv (m := c9 cP (a.map (pk U o))) (eO cB (fun _ _ => jP) c6) (fun p c8 => by
   have:=(bY cP _).mem_iff.1 c8
   obtain⟨j,r,rfl⟩:=List.mem_map.1 this
   have N:=u j (H a D j r)
   exact a5 _ (uAt_mem N.1 N.2)) za c7
  rw [e2]
  refine⟨q1,q2,za,fun i hi=>?_⟩
  rw [e]at hi
  obtain⟨j,r,rfl⟩:=List.mem_map.1 ((bY ci _).mem_iff.1 hi)
  exact u j (H a D j r)
 have b4:cI (mw (G,Z,0) (U,U.map (phU s v),0) s v) ((0:Int),([]:List aq))=some (.inl (G.map fun g=>evM s v (g.dj.map (uAt U)))):=by
  refine qa (l:=G) (f:=fun g=>evM s v (g.dj.map (uAt U))) (g:=fun x=>(Sum.inl x:List aq⊕(List aq×List Pick×Int))) (fun i hi acc D=>?_) (fun acc D=>?_)
  ·obtain⟨q1,q2,q3,q4⟩:=c3 _ (EJ hi)
   unfold mw
   dsimp only
   rw [if_pos so,py (i:=i) rfl hi,ze]
   have b3:cI (mu G[i] (U,U.map (phU s v),0) (i:Int) acc) ((0:Int),([]:List aa))=some ((i:Int),acc,G[i].dj.map (uAt U)):=by
    refine qa (l:=G[i].dj) (f:=uAt U) (g:=fun x=>((i:Int),acc,x)) (fun k hk a6 c2=>?_) (fun a6 c2=>?_)
    ·have K:=q4 _ (EJ hk)
     rw [Ey]at q3
     unfold mu
     dsimp only
     rw [if_pos so,py (i:=k) rfl hk,ze,uAt_get K.1 K.2,ze,ec so,ze,w64 za za]
     rfl
    ·unfold mu
     dsimp only
     rw [if_neg zc]
   rw [b3,ze]
   dsimp only
   rw [q1,ze,if_neg zc]
   dsimp only
   rw [q2,name_at za,ze,ec so,ze,w64 za za]
   rfl
  ·unfold mw
   dsimp only
   rw [if_neg zc]
 have b5:cI (my (G,Z,0) (U,U.map (phU s v),0)) ((0:Int),([]:List aa))=some (Z.map (uAt U)):=by
  have hZ:∀i∈Z,0<=i∧i<U.length:=fun i hi=>by
   rw [r3]at hi
   obtain⟨j,r,rfl⟩:=List.mem_map.1 ((bY ci _).mem_iff.1 hi)
   exact u j (T j r)
  have d5:Z.length<=19:=by rw [r3,dW,Ey];omega
  refine qa (l:=Z) (f:=uAt U) (g:=fun x=>x) (fun k hk acc D=>?_) (fun acc D=>?_)
  ·have K:=hZ _ (EJ hk)
   unfold my
   dsimp only
   rw [if_pos so,py (i:=k) rfl hk,ze,uAt_get K.1 K.2,ze,ec so,ze,w64 za za]
   rfl
  ·unfold my
   dsimp only
   rw [if_neg zc]
 rw [b4,ze]
 dsimp only
 rw [sort_event (by rw [Ey];omega),ze,b5,ze]
 have e1:G.map (fun g=>evM s v (g.dj.map (uAt U)))=(A.map (Fa (pk U o))).map fun g=>evM s v (c9 cP g):=by
  have:G.map (fun g=>evM s v (g.dj.map (uAt U)))=(G.map (·.dj)).map fun is=>evM s v (is.map (uAt U)):=by rw [HW];rfl
  rw [this,r2,HW,HW]
  refine HV fun g C=>?_
  simp only [Hp]
  rw [I g (E g C).1 (H g C)]
 have e2:Z.map (uAt U)=c9 cP (B.map (pk U o)):=by rw [r3,I B b6 T]
 rw [e1,e2]
end Go.Dw.Re
set_option maxRecDepth 100000
set_option maxHeartbeats 4000000
namespace Go.Dw.Re
open Go.Dw Go.Proofs
open Sd (ku dY dD)
theorem oZ{a:ah}(g:fb a){v:ae}(f:fq v){p:Pick}(hp:cH p)(hu:(used a v p).2.2=true):∃e,nE v p.a7 p.bT=some e∧phU a v p=⟨e.bV,p.bu,p.co,1⟩:=by
 have h1:=(nV g f hp).1
 unfold eH at h1
 rw [ou hp,ze,if_neg zc,At_eq f.lens (l9 f),ze]at h1
 cases h:nE v p.a7 p.bT with
 |none=>
  rw [h]at h1
  dsimp only at h1
  rw [if_pos zc]at h1
  have:=congrArg (fun r=>r.2.2) (Ew h1)
  rw [hu]at this
  cases this
 |some e=>
  rw [h]at h1
  dsimp only at h1
  rw [if_neg zc]at h1
  have he:=epAt_ok f h
  obtain⟨z,j, -⟩:=qA g.tab g.box (a:=⟨e.bV,p.bu,p.co,1⟩) (qm he hp)
  rw [j,ze]at h1
  split at h1
  ·have:=congrArg (fun r=>r.2.2) (Ew h1)
   rw [hu]at this
   cases this
  ·refine⟨e,rfl,?_⟩
   unfold phU
   rw [<-Ew h1]
theorem costS_zero{cap:Int}(hc:1<=cap){t:Int}{f:Ph->bz}:∀(ps:List Ph),(∀a∈ps,a.cC=1)->cJ cap ps (ps.map f) t<=0->∀a∈ps,res (f a) t=0
 | [],_,_,a,g=>by cases g
 |b::ps,hw,h,a,g=>by
  have h1:cJ cap (b::ps) ((b::ps).map f) t=kj cap b.cC (f b) t+cJ cap ps (ps.map f) t:=rfl
  have q:=pq (cap:=cap) za (t:=t) ps (ps.map f) (fun x j=>by have:=hw x (G5 _ j);omega)
  have r:kj cap b.cC (f b) t=min cap (res (f b) t):=by unfold kj;rw [hw b zc];omega
  have u:0<=res (f b) t:=by unfold res;omega
  have k:cJ cap ps (ps.map f) t<=0:=by omega
  rcases List.mem_cons.1 g with rfl|g
  ·omega
  ·exact costS_zero hc ps (fun x j=>hw x (G5 _ j)) k a g
theorem zero_costS{cap:Int}(hc:1<=cap){t:Int}{f:Ph->bz}:∀(ps:List Ph),(∀a∈ps,a.cC=1)->(∀a∈ps,res (f a) t=0)->cJ cap ps (ps.map f) t=0
 | [],_,_=>rfl
 |b::ps,hw,h=>by
  have h1:cJ cap (b::ps) ((b::ps).map f) t=kj cap b.cC (f b) t+cJ cap ps (ps.map f) t:=rfl
  have j:kj cap b.cC (f b) t=min cap (res (f b) t):=by unfold kj;rw [hw b zc];omega
  have k:=h b zc
  have:=zero_costS hc ps (fun x g=>hw x (G5 _ g)) (fun x g=>h x (G5 _ g))
  omega
theorem mis_zero{q:ak}(g:PV q){p:ag}(h:In q.bj p){t:Int}(k:∀b∈q.bM,res (zn q ⟨p,p⟩ b) t=0):mis q p=0:=by
 obtain⟨t', -,r⟩:=qc g h
 have hw:∀a∈q.bM,a.cC=1:=fun a j=>(g.ph a j).1.weight
 have C:=zero_costS (f:=zn q ⟨p,p⟩) g.cap.1 q.bM hw k
 have hl:=g.len
 obtain⟨e,he,hle⟩:=least_end (cap:=q.dv) (by have:=g.cap;omega) (ps:=q.bM) (zs:=q.bM.map (zn q ⟨p,p⟩)) (fun h=>by rw [List.map_eq_nil_iff]at h;rw [h]at hl;simp at hl) (fun a j=>by have:=hw a j;omega) (fun z k=>by obtain⟨b,u,rfl⟩:=List.mem_map.1 k;exact(zn_at g h u).2.2.1) t
 have:=r.least e he
 have:=(mis_range g h).1
 simp only at*
 omega
theorem fit_all{s:ah}(hs:fb s){ph:List Ph}(hp:PhOk s.ac ph)(hl:1<=ph.length∧ph.length<=64)(k:(loc s.ac ph).cb<=0):∀b∈ph,fits s.ac ph b=true:=by
 have C:=prob_ok hs hp hl
 obtain⟨-,j, -⟩:=loc_at hs hp hl
 obtain⟨t,g,q⟩:=qc C j.inn
 rw [j.val]at g
 simp only [DJ,Prod.mk.injEq]at g
 obtain⟨g,e2, -⟩:=g
 have hc:=q.cost
 simp only at hc
 rw [<-g, <-e2]at hc
 have hw:∀a∈ph,a.cC=1:=fun a r=>(hp a r).1.weight
 have:=costS_zero (f:=zn (pO s.ac ph) ⟨(loc s.ac ph).bO,(loc s.ac ph).bO⟩) (t:=(loc s.ac ph).bT) hs.cap.1 ph hw (by rw [show cJ s.ac.dv ph (ph.map _) _=(loc s.ac ph).cb from hc.symm];exact k)
 intro b u
 unfold fits
 rw [this b u]
 simpa using hs.limit.1
theorem sortI_self{α:Type}{c:α->α->Int}(hc:Tot c)(f:∀x y,c x y=0->x=y){l:List α}(h:l.Pairwise fun x y=>c x y<0):c9 (fun x y=>decide (c x y<0)) l=l:=
 gm hc (eO hc f (dX hc h)) h fun _=>(bY _ l).mem_iff
theorem rnd_one{s:ah}(hs:fb s){v:ae}{O:List Pick}(h1:s.ac.cn.toNat<=O.length)(f:O.length<=16)(hw:∀p∈O,∀i∈O,(phU s v p).bu-(phU s v i).bu<=s.ac.ch)
  (hf:∀b∈O.map (phU s v),fits s.ac (O.map (phU s v)) b=true):mg s v O=([O],[]):=by
 have hle:=hs.least.1
 have hm:oV s.ac (phU s v) O=O:=List.filter_eq_self.2 fun p hp=>hf _ (HZ hp)
 have k:∀n,rounds s.ac.cn.toNat (oO (fun p=>(phU s v p).bu) s.ac.ch) (oV s.ac (phU s v)) n ([]:List Pick)=([],[]):=fun n=>by cases n<;>rfl
 unfold mg
 match O,h1,f,hw,hm with
 | [],h1,_,_,_=>simp at h1;omega
 |i::r,h1,f,hw,hm=>
  have g:oO (fun p=>(phU s v p).bu) s.ac.ch (i::r)=i::r:=by
   show((i::r).takeWhile fun j=>decide ((phU s v j).bu-(phU s v i).bu<=s.ac.ch)).take 16=_
   have:(i::r).takeWhile (fun j=>decide ((phU s v j).bu-(phU s v i).bu<=s.ac.ch))=i::r:=by
    have key:∀(p:Pick->Bool)(l:List Pick),(∀x∈l,p x=true)->l.takeWhile p=l:=by
     intro p l
     induction l with
     |nil=>intro _;rfl
     |cons x l C=>
      intro h
      rw [Hc (h x zc),C fun y u=>h y (G5 _ u)]
    exact key _ _ fun x q=>by simpa using hw x q i zc
   rw [this,Hg f]
  show rounds _ _ _ (r.length+1) (i::r)=_
  rw [gl,g,hm,if_pos ⟨h1,h1⟩]
  have:(i::r).filter (fun x=>decide (x∉i::r))=[]:=by
   rw [List.filter_eq_nil_iff]
   intro x q
   simp only [decide_eq_true_eq]
   exact fun h=>h q
  rw [this,k]
end Go.Dw.Re
set_option maxRecDepth 100000
set_option maxHeartbeats 4000000
namespace Go.Dw.Re
open Go.Dw Go.Proofs
open Sd (ku dY dD)
noncomputable def fE (s:ah) (v:ae) (U:List Pick):List aq:=c9 cE ((mg s v (iA s v U)).1.map fun g=>evM s v (c9 cP g))
noncomputable def fR (s:ah) (v:ae) (U:List Pick):List Pick:=c9 cP (mg s v (iA s v U)).2
structure Gr(s:ah)(v:ae)(U g:List Pick):Prop where
 least:s.ac.cn.toNat<=g.length
 len:g.length<=U.length
 nd:g.Nodup
 sub:∀p∈g,p∈U
 picks:(evM s v (c9 cP g)).b7.da=c9 cP g
 asc:(c9 cP g).Pairwise fun x y=>db x y<0
theorem l8{s:ah}(hs:fb s){v:ae}{U:List Pick}(j:U.Pairwise fun x y=>db x y<0):((mg s v (iA s v U)).1.flatten++(mg s v (iA s v U)).2).Perm U:=by
 have f:=dX cB j
 have g:(iA s v U).Nodup:=(bY _ U).nodup_iff.2 f
 exact(nD (qo s.ac (phU s v) s.ac.ch) (least:=s.ac.cn.toNat) (by have:=hs.least.1;omega) (iA s v U).length (iA s v U) (DI _) g).trans (bY _ U)
theorem pV{s:ah}(hs:fb s){v:ae}(G:fq v){U:List Pick}(D:U.Pairwise fun x y=>db x y<0)(C:UsOk s v U)(hl:U.length<=19){g:List Pick}(E:g∈(mg s v (iA s v U)).1):Gr s v U g:=by
 have f:=l8 hs (v:=v) D
 have u:=dX cB D
 have h1:g.Sublist (mg s v (iA s v U)).1.flatten:=H9 E
 have F:=f.nodup_iff.2 u
 have r:g.Nodup:=(List.nodup_append.1 F).1.sublist h1
 have q:∀p∈g,p∈U:=fun p hp=>f.mem_iff.1 (List.mem_append.2 (.inl (h1.subset hp)))
 have j:=qY (win:=oO (fun p=>(phU s v p).bu) s.ac.ch) (mem:=oV s.ac (phU s v)) (least:=s.ac.cn.toNat) (iA s v U).length (iA s v U) g E
 have hlen:g.length<=U.length:=by
  have:=f.length_eq
  rw [Ec]at this
  have:=h1.length_le
  omega
 have k:=eO cB (fun _ _=>jP) r
 refine⟨j,hlen,r,q,?_,k⟩
 refine(solve_group hs G k (fun p hp=>C p (q p ((bY _ g).mem_iff.1 hp))) (by rw [dW];omega) fun h=>?_).2
 have:=dW cP g
 rw [h]at this
 have:=hs.least.1
 simp at*
 omega
theorem fE_mem{s:ah}{v:ae}{U:List Pick}{e:aq}:e∈fE s v U↔∃g∈(mg s v (iA s v U)).1,e=evM s v (c9 cP g):=by
 unfold fE
 rw [(bY _ _).mem_iff,HY]
 exact⟨fun⟨g,h,e⟩=>⟨g,h,e.symm⟩,fun⟨g,h,e⟩=>⟨g,h,e.symm⟩⟩
theorem same_events{l:List aq}(hl:l.length<=1000)(h:∀e∈l,e.b7.da.length<=1000):l5 l l=some true:=by
 have f:∀i:Nat,i<l.length->iZ l l (i:Int)=some (.next ((i+1:Nat):Int)):=fun i hi=>by
  unfold iZ
  rw [if_pos so,py (i:=i) rfl hi,ze,ze,if_neg zc,ze,ze,same_self (h _ (EJ hi)),ze,if_neg zc,w64 za za]
  rfl
 have he:iZ l l ((l.length:Nat):Int)=some (.stop (.inl ())):=by
  unfold iZ
  rw [if_neg zc]
 unfold l5
 rw [if_neg zc,gR l.length f he]
 rfl
theorem fE_len{s:ah}(hs:fb s){v:ae}{U:List Pick}(k:U.Pairwise fun x y=>db x y<0):(fE s v U).length<=U.length:=by
 unfold fE
 rw [dW,Ey]
 have f:=(l8 hs (v:=v) k).length_eq
 have hlen:=qY (win:=oO (fun p=>(phU s v p).bu) s.ac.ch) (mem:=oV s.ac (phU s v)) (least:=s.ac.cn.toNat) (iA s v U).length (iA s v U)
 have key:∀X:List (List Pick),(∀g∈X,1<=g.length)->X.length<=X.flatten.length:=by
  intro X
  induction X with
  |nil=>intro _;simp
  |cons x X q=>
   intro h
   have:=q fun g j=>h g (G5 _ j)
   have:=h x zc
   rw [HR,Ec,D4];omega
 have:=key (mg s v (iA s v U)).1 fun g j=>by have:=hlen g j;have:=hs.least.1;omega
 rw [Ec]at f
 omega
theorem fR_len{s:ah}(hs:fb s){v:ae}{U:List Pick}(g:U.Pairwise fun x y=>db x y<0):(fR s v U).length<=U.length:=by
 unfold fR
 rw [dW]
 have f:=(l8 hs (v:=v) g).length_eq
 rw [Ec]at f
 omega
theorem find_ok{s:ah}(hs:fb s){v:ae}(j:fq v){l:List Pick}(hl:l.length<=19)(hp:∀p∈l,cH p):∃L,de l=some L∧L.Pairwise (fun x y=>db x y<0)∧(∀x,x∈L↔x∈l)∧L.length<=l.length∧
  (bP s v L).Pairwise (fun x y=>db x y<0)∧UsOk s v (bP s v L)∧(bP s v L).length<=l.length∧kz s v l=some (fE s v (bP s v L),fR s v (bP s v L),0):=by
 obtain⟨L,e,h1,f,g⟩:=oz (l:=l) za
 have hu:(bP s v L).length<=L.length:=HT _ _
 exact⟨L,e,h1,f,g,h1.filter _,fun p h=>⟨hp p ((f p).1 (List.mem_filter.1 h).1),(List.mem_filter.1 h).2⟩,za,find_at hs j e h1 za (fun p h=>hp p ((f p).1 h)) za⟩
theorem found_same{s:ah}(hs:fb s){v:ae}(q:fq v){U:List Pick}(f:U.Pairwise fun x y=>db x y<0)(j:UsOk s v U)(hl:U.length<=19):l5 (fE s v U) (fE s v U)=some true∧dg (fR s v U) (fR s v U)=some true:=by
 have h1:=fE_len hs (v:=v) f;have r:=fR_len hs (v:=v) f
 refine⟨same_events za fun e he=>?_,oY za⟩
 obtain⟨g,k,rfl⟩:=fE_mem.1 he
 have:=pV hs q f j hl k
 rw [this.picks,dW]
 have:=this.len
 omega
end Go.Dw.Re
