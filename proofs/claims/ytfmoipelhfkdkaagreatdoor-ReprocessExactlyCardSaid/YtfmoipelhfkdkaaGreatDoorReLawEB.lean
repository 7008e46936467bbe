
import Derived.Test.YtfmoipelhfkdkaaGreatDoorReLawW
import Derived.Test.YtfmoipelhfkdkaaGreatDoorDwPlain
import Derived.Test.YtfmoipelhfkdkaaGreatDoorReCo
import Derived.KernelRfl
set_option linter.unusedVariables false
set_option linter.unusedSimpArgs false
open Go.Dw.Ok renaming app->GQ, bind->GR, eq->GS, get->GU, loop->GV, nx->GX, pJ->GY, ret->G1, sR->G2, set->G3, st->G4, sub->Gc, ti->G5, tp->G6, wP->G8, yF->G9
open List renaming Nodup->Gd, append_assoc->DC, cons_append->En, dropLast->Ge, dropLast_concat->Gf, drop_eq_getElem_cons->Fz, drop_of_length_le->Gg, eq_nil_of_length_eq_zero->ES, filter->Gh, filter_append->Gi, filter_congr->Gj, filter_cons_of_neg->Gk, filter_map->Gl, filter_sublist->Gm, flatMap_cons->Gn, flatten_cons->Gq, getD_eq_getElem?_getD->Eo, getElem?_set_ne->DU, getElem?_set_self->DV, getElem_map->GF, getElem_mem->Dp, getElem_of_mem->Gs, length_append->ET, length_cons->DW, length_filter_le->Gt, length_map->Ea, length_nil->DX, length_take->EG, map->FM, map_congr_left->Gu, map_cons->Ed, map_map->Gv, mem_cons_of_mem->GH, mem_filter->Gw, mem_map->Gx, mem_map_of_mem->Gy, mem_singleton->Ey, nil_append->D0, nodup_append->Ez, nodup_cons->Eb, nodup_range->Gz, pairwise_map->GK, perm_append_comm->HA, perm_cons->HC, range->DG, range'->HD, range'_succ->HE, range_eq_range'->HG, replicate->B2, set_set_perm->HH, sublist_cons_self->HI, sublist_flatten_of_mem->HJ, tail_cons->HK, take->HL, takeWhile_cons_of_pos->HN, take_add_one->HO, take_append_drop->HP, take_length->GM, take_of_length_le->HQ
open Int renaming add_mul->F8, le_refl->Fb, le_total->Fc, le_trans->Fe, lt_or_le->HR, min_eq_right->HS, mul_add->Ff, mul_comm->Fh, mul_le_mul->Fi, mul_le_mul_of_nonneg_left->HT, mul_le_mul_of_nonneg_right->HV, mul_left_comm->Fj, mul_nonneg->Fk, one_mul->HW, tdiv_eq_ediv_of_nonneg->Fu, tdiv_nonneg->Fw
open Classical renaming byContradiction->Ga
open Nat renaming le_refl->DA, lt_or_ge->HX, mod_eq_of_lt->HY, succ_lt_succ->HZ, zero_le->DJ
open Go.IntKind renaming wrap->FN
open Option.some renaming inj->E9, injEq->DB
open Function renaming comp->H0

set_option maxRecDepth 100000
set_option maxHeartbeats 4000000
namespace Go.Dw.Re
open Go.Dw Go.Proofs
abbrev Item:=aq
theorem less_ok{d:List Item}{i j:Int}(hi:0<=i∧i<d.length)(f:0<=j∧j<d.length):Ok (ky d i j) (fun _=>True):=by
 unfold ky
 refine GR (GU hi.1 hi.2) (fun a _=>?_)
 refine GR (GU f.1 f.2) (fun b _=>?_)
 rw [Sd.lD,ze]
 refine GR (GU hi.1 hi.2) (fun g _=>?_)
 refine GR (GU f.1 f.2) (fun b' _=>?_)
 rw [Sd.lD,ze]
 obtain⟨r,e⟩:=or_some [sZ a.dx b.dx,sZ g.mo b'.mo] zc
 rw [e]
 exact G1 trivial
theorem swap_ok{d:List Item}{i j:Int}(hi:0<=i∧i<d.length)(f:0<=j∧j<d.length):
  Ok (kz i j d) (fun r=>r.Perm d∧(r[j.toNat]? =d[i.toNat]?)∧∀k:Nat,k≠i.toNat->k≠j.toNat->r[k]? =d[k]?):=by
 unfold kz
 refine GR (G6 f.1 f.2) (fun _ _=>GR (GU f.1 f.2) (fun a q=>?_))
 refine GR (G6 hi.1 hi.2) (fun _ _=>GR (GU hi.1 hi.2) (fun b u=>?_))
 refine GR (G6 hi.1 hi.2) (fun _ _=>GR (G3 hi.1 hi.2) (fun e he=>?_))
 subst he
 refine GR (G6 f.1 (by simpa using f.2)) (fun _ _=>GR (G3 f.1 (by simpa using f.2)) (fun e he=>?_))
 subst he
 have h1:i.toNat<d.length:=by omega
 have g:j.toNat<d.length:=by omega
 obtain⟨_,rfl⟩:=List.getElem?_eq_some_iff.1 q.2
 obtain⟨_,rfl⟩:=List.getElem?_eq_some_iff.1 u.2
 refine G1 ⟨HH h1 g,?_,fun k B C=>?_⟩
 ·rw [DV (by simpa using g),zf h1]
 ·rw [DU (Ne.symm C),DU (Ne.symm B)]
theorem up_ok{q:ak}{a b:Int}{f:Bool}{l:ap}{d:List Item}{j:Int}(k:0<=j∧j<d.length)(B:d.length<=1000):Ok (oT j q a b f l d) (fun r=>r.Perm d):=by
 unfold oT
 refine GR (P:=fun o:List Item=>o.Perm d) (GV (fun s:Int×List Item=>(0<=s.1∧s.1<d.length)∧s.2.Perm d) (fun s=>s.1.toNat) ?_ ⟨k,List.Perm.refl _⟩) (fun o ho=>G1 ho)
 rintro⟨s1,s2⟩ ⟨⟨i0,i1⟩,i2⟩
 simp only at i0 i1 i2
 have hlen:s2.length=d.length:=i2.length_eq
 unfold og
 dsimp only
 rw [w64 (n:=s1-1) za za]
 have e:tu .i64 (s1-1) 2=some (if s1=0 then 0 else(s1-1) / 2):=by
  unfold tu
  rw [if_neg za]
  split
  ·rename_i h;subst h;rfl
  ·rw [Fu za,w64 za za]
 rw [e,ze]
 refine G5 (fun _=>by rw [ze];exact G4 i2) (fun g=>?_)
 have hp:s1≠0:=fun h=>g (by rw [if_pos h,h])
 rw [if_neg hp]
 refine GR (less_ok za za) (fun x _=>?_)
 refine G8 (fun _=>by rw [ze];exact G4 i2) (fun _=>?_)
 exact GR (swap_ok za za) (fun y u=>GX ⟨⟨zd,zd⟩,u.1.trans i2⟩ zd)
theorem down_ok{q:ak}{a b:Int}{f:Bool}{l:ap}{d:List Item}{n:Int}(k:0<=n∧n<d.length)(B:d.length<=1000):Ok (nM 0 n q a b f l d) (fun r=>r.2.Perm d∧r.2[n.toNat]? =d[n.toNat]?):=by
 unfold nM
 refine GR (P:=fun o:Int×List Item=>o.2.Perm d∧o.2[n.toNat]? =d[n.toNat]?) (GV (fun s:Int×List Item=>(0<=s.1∧s.1<=n)∧s.2.Perm d∧s.2[n.toNat]? =d[n.toNat]?) (fun s=>(n-s.1).toNat) ?_ ⟨⟨zc,k.1⟩,List.Perm.refl _,rfl⟩) (fun o ho=>G1 ho)
 rintro⟨s1,s2⟩ ⟨⟨i0,i1⟩,i2,i3⟩
 simp only at i0 i1 i2 i3
 have hlen:s2.length=d.length:=i2.length_eq
 unfold ot
 dsimp only
 rw [w64 (n:=2*s1) za za,w64 (n:=2*s1+1) za za,w64 (n:=2*s1+1+1) za za]
 refine GY (fun _=>G4 ⟨i2,i3⟩) (fun h1=>GY (fun _=>G4 ⟨i2,i3⟩) (fun _=>?_))
 have K:∀j,s1<j->j<n->Ok (f9 s2 s1 j) (Ok.S (fun s:Int×List Item=>(0<=s.1∧s.1<=n)∧s.2.Perm d∧s.2[n.toNat]? =d[n.toNat]?) (fun s=>(n-s.1).toNat) (fun o:Int×List Item=>o.2.Perm d∧o.2[n.toNat]? =d[n.toNat]?) (s1,s2)):=fun j C D=>by
  unfold f9
  refine GR (less_ok za za) (fun x _=>?_)
  refine G8 (fun _=>G4 ⟨i2,i3⟩) (fun _=>?_)
  exact GR (swap_ok za za) (fun y g=>GX ⟨⟨zd,zd⟩,g.1.trans i2,by rw [<-i3];exact g.2.2 _ za za⟩ zd)
 refine GY (fun u=>?_) (fun _=>K _ za za)
 refine GR (less_ok za za) (fun x _=>?_)
 exact G9 (fun _=>K _ za za) (fun _=>K _ za za)
theorem pop_ok{q:ak}{a b:Int}{f:Bool}{l:ap}{x:Item}{d:List Item}(D:(x::d).length<=1000):Ok (nR q a b f l (x::d)) (fun r=>r.2.Perm d):=by
 have hlen:((x::d).length:Int)=d.length+1:=by simp
 simp only [DW]at D
 unfold nR jL
 rw [ze]
 rw [hlen,w64 (n:=(d.length:Int)+1-1) za za]
 refine GR (swap_ok za za) (fun y⟨g,j,_⟩=>?_)
 have G:y.length=d.length+1:=by have:=g.length_eq;simpa using this
 refine GR (down_ok za za) (fun z⟨k,z2⟩=>?_)
 have H:z.2.length=d.length+1:=by rw [k.length_eq,G]
 unfold ql
 rw [H,w64 (n:=((d.length+1:Nat):Int)-1) za za]
 refine GR (P:=fun r:Item×List Item=>r.2.Perm d) ?_ (fun r F=>G1 F)
 refine GR (G6 za za) (fun _ _=>GR (GU za za) (fun w _=>?_))
 refine GR (Gc za za za) (fun _ _=>G1 ?_)
 simp only
 rw [show(((d.length+1:Nat):Int)-1).toNat=d.length by omega]
 have e:z.2[d.length]? =some x:=by
  rw [show((d.length:Int)+1-1).toNat=d.length by omega]at z2 j
  rw [z2,j];rfl
 obtain⟨E,e⟩:=List.getElem?_eq_some_iff.1 e
 have u:z.2=z.2.take d.length++[x]:=by
  conv=>lhs;rw [<-HP d.length z.2]
  rw [Fz E,e,Gg za]
 have B:(z.2.take d.length++[x]).Perm (x::d):=by rw [<-u];exact k.trans g
 have C:(x::z.2.take d.length).Perm (x::d):=(HA (l₁:=[x])).trans B
 exact(HC x).1 C
theorem push_ok{q:ak}{a b:Int}{f:Bool}{l:ap}{x:Item}{d:List Item}(k:d.length<=500):Ok (lP x q a b f l d) (fun r=>r.Perm (x::d)):=by
 unfold lP oh jL
 refine GR (P:=fun r=>r=d++[x]) (GR (GQ (by simp only [DW,DX];omega)) (fun r g=>G1 g)) (fun y j=>?_)
 subst j
 rw [ze]
 have hl:((d++[x]).length:Int)=d.length+1:=by simp
 rw [hl,w64 za za]
 exact GR (up_ok za so) (fun r g=>G1 (g.trans (HA (l₂:=[x]))))
theorem push1_ok{q:ak}{a b:Int}{f:Bool}{l:ap}{x:Item}:Ok (mR x q a b f l) (fun r=>r.Perm [x]):=by
 unfold mR oX jL
 refine GR (P:=fun r=>r=[x]) (GR (GQ zc) (fun r g=>G1 g)) (fun y j=>?_)
 subst j
 rw [ze]
 rw [w64 zc zc]
 exact GR (up_ok zc zc) (fun r g=>G1 g)
def cnt:List Item->Int
 | []=>0
 |x::l=>(2*pts x.mI-1)+cnt l
theorem nk{l m:List Item}(h:l.Perm m):cnt l=cnt m:=by
 induction h with
 |nil=>rfl
 |cons x _ g=>simp only [cnt,g]
 |swap x y l=>simp only [cnt];omega
 |trans _ _ h1 f=>rw [h1,f]
def nw(r:al)(l:List Item):Prop:=∀x∈l,Sub r x.mI
theorem nw.perm{r:al}{l m:List Item}(h:nw r m)(hp:l.Perm m):nw r l:=fun x f=>h x (hp.mem_iff.1 f)
theorem cnt_len{q:ak}(f:PV q){l:List Item}(h:nw q.bn l):(l.length:Int)<=cnt l:=by
 induction l with
 |nil=>simp [cnt]
 |cons x l j=>
  have h1:=j fun y g=>h y (GH _ g)
  have k:=(pts_in ((h x zc).ok f.box f.reg)).1
  simp only [cnt,DW];omega
def Good(q:ak)(l:ap):Prop:=Sub q.bn ⟨l.bM,l.bM⟩∧(Single q->l.b8=0)
theorem add_ok{q:ak}(B:PV q){b:al}(j:Sub q.bn b){n k:Int}{f:Bool}{l:ap}{d:List Item}(u:d.length<=500):Ok (kF b q n k f l d) (fun r=>r.1=0∧∃x:Item,x.mI=b∧r.2.2.Perm (x::d)):=by
 unfold kF mF
 refine GR (bound_ok B j) (fun x g=>?_)
 refine G5 (fun _=>?_) (fun h=>(h g).elim)
 exact GR (push_ok u) (fun r C=>G1 ⟨g,_,rfl,C⟩)
theorem add1_ok{q:ak}(u:PV q){b:al}(j:Sub q.bn b){n k:Int}{f:Bool}{l:ap}:Ok (mY b q n k f l) (fun r=>r.1=0∧∃x:Item,x.mI=b∧r.2.1.Perm [x]):=by
 unfold mY nh
 refine GR (bound_ok u j) (fun x g=>?_)
 refine G5 (fun _=>?_) (fun h=>(h g).elim)
 exact GR push1_ok (fun r B=>G1 ⟨g,_,rfl,B⟩)
theorem look_ok{q:ak}(u:PV q){b:al}(C:Sub q.bn b){n k:Int}{f:Bool}{l:ap}{d:List Item}(hf:f=true->Good q l):Ok (lY b q n k f l d) (fun r=>r.1=0∧r.2.1=true∧Good q r.2.2):=by
 unfold lY
 refine GR (center_ok u.box u.reg C) (fun p hp=>?_)
 refine GR (at_ok u hp) (fun x B=>?_)
 refine G2 (fun h=>(h B.1).elim) (fun _=>?_)
 have j:Good q (ap.mk p x.1 x.2.1 0 (al.mk (ag.mk 0 0 0) (ag.mk 0 0 0))):=⟨hp,B.2⟩
 refine G8 (fun _=>G1 ⟨rfl,rfl,j⟩) (fun g=>?_)
 refine GY (fun _=>G1 ⟨rfl,rfl,j⟩) (fun _=>G5 (fun _=>?_) (fun _=>G1 ⟨rfl,g,hf g⟩))
 exact GR (compare_ok _ _) (fun c _=>GY (fun _=>G1 ⟨rfl,rfl,j⟩) (fun _=>G1 ⟨rfl,g,hf g⟩))
theorem ended_ok{t:Int}{q:ak}{n k:Int}{f:Bool}{l:ap}{d:List Item}:Ok (k7 t q n k f l d) (fun r=>(r=false->d≠ [])∧(r=true->d=[]∨f=true)):=by
 unfold k7
 refine G5 (fun h=>G1 ⟨fun h=>by simp at h,fun _=>.inl (List.length_eq_zero_iff.1 za)⟩) (fun h=>?_)
 have g:d≠ []:=fun e=>h (by rw [e];rfl)
 have:=List.length_pos_iff.2 g
 refine G9 (fun hf=>?_) (fun _=>G1 ⟨fun _=>g,fun h=>by simp at h⟩)
 exact GR (G6 za za) (fun _ _=>GR (GU za za) (fun _ _=>G1 ⟨fun _=>g,fun _=>.inr hf⟩))
theorem step_ok{q:ak}(g:PV q){n k:Int}{f:Bool}{l:ap}{d:List Item}(K:d≠ [])(ho:nw q.bn d)(hk:0<=k∧k+cnt d<=300)(hf:f=true->Good q l):
  Ok (lZ q n k f l d) (fun r=>r.1=0∧r.2.2.1=k+1∧r.2.2.2.1=true∧Good q r.2.2.2.2.1∧nw q.bn r.2.2.2.2.2∧r.2.2.2.2.2.length<=d.length+1∧k+1+cnt r.2.2.2.2.2<=k+cnt d):=by
 match d,K with
 |x::d,_=>
  have hlen:=cnt_len g ho
  have G:=ho x zc
  have E:nw q.bn d:=fun y j=>ho y (GH _ j)
  have L:=pts_in (G.ok g.box g.reg)
  simp only [DW]at hlen
  unfold lZ
  refine G5 (fun h=>za) (fun _=>?_)
  refine GR (G6 za zc) (fun _ _=>?_)
  rw [show nZ (x::d) (0:Int)=some x from rfl,ze]
  refine GR (pop_ok (by simp only [DW];omega)) (fun y j=>?_)
  have H:y.2.length=d.length:=j.length_eq
  have B:nw q.bn y.2:=E.perm j
  have O:cnt y.2=cnt d:=nk j
  have D:cnt (x::d)=(2*pts x.mI-1)+cnt d:=rfl
  rw [w64 za za]
  refine GR (look_ok g G hf) (fun z C=>?_)
  refine G2 (fun h=>(h C.1).elim) (fun _=>?_)
  refine GR (split_ok g.box g.reg G) (fun s hs=>?_)
  refine G8 (fun _=>G1 ⟨rfl,rfl,C.2.1,C.2.2,B,so,zd⟩) (fun F=>?_)
  obtain⟨s1,s2,Q⟩:=hs F
  refine GR (add_ok g s1 za) (fun u⟨u1,a,J,up⟩=>?_)
  refine G2 (fun h=>(h u1).elim) (fun _=>?_)
  have N:u.2.2.length=d.length+1:=by rw [up.length_eq];simp [H]
  refine GR (add_ok g s2 za) (fun v⟨v1,b,vb,I⟩=>G1 ⟨v1,rfl,C.2.1,C.2.2,?_,?_,?_⟩)
  ·refine nw.perm (fun w hw=>?_) I
   rcases List.mem_cons.1 hw with rfl|hw
   ·rw [vb];exact s2
   ·rcases List.mem_cons.1 (up.mem_iff.1 hw)with rfl|hw
    ·rw [J];exact s1
    ·exact B w hw
  ·simp only
   rw [I.length_eq];simp only [DW];omega
  ·simp only
   rw [nk I,D]
   simp only [cnt]
   rw [nk up]
   simp only [cnt]
   rw [J,vb];omega
theorem run_ok{q:ak}(f:PV q){t:Int}(N:0<=t):Ok (kq q t) (fun r=>r.2=0∧∃s,r.1=some s∧Good q s.cu∧nw q.bn s.mp∧s.mp.length<=300):=by
 have F:=pts_in f.box
 unfold kq
 rw [oi f,ze,if_neg zc,if_neg so]
 refine GR (add1_ok f (Sub.refl f.box)) (fun x⟨L,a,B,C⟩=>?_)
 refine G2 (fun h=>(h L).elim) (fun _=>?_)
 have j:cnt x.2.1=2*pts q.bn-1:=by rw [nk C];simp only [cnt];rw [B];omega
 have u:nw q.bn x.2.1:=nw.perm (fun w hw=>by rw [List.mem_singleton.1 hw,B];exact Sub.refl f.box) C
 refine GR (P:=fun o=>∃y,o= .inl y∧Good q y.2.2.2.2∧nw q.bn y.1∧y.1.length<=300) (GV (fun s:Int×Int×Bool×ap×List Item=>(0<=s.2.1∧s.2.1+cnt s.2.2.2.2<=300)∧nw q.bn s.2.2.2.2∧(s.2.2.1=true->Good q s.2.2.2.1)∧(s.2.2.2.2=[]->s.2.2.1=true)) (fun s=>(300-s.2.1).toNat) ?_ ⟨⟨zc,zd⟩,u,zc,fun h=>?_⟩) (fun o⟨y,ho,h1,D,E⟩=>by subst ho;exact G1 ⟨rfl,_,rfl,h1,D,E⟩)
 ·rintro⟨U,W,X,Y,K⟩ ⟨⟨i0,i1⟩,i2,i3,i4⟩
  simp only at i0 i1 i2 i3 i4
  have hl:=cnt_len f i2
  unfold mu
  dsimp only
  refine GR ended_ok (fun e he=>?_)
  refine G8 (fun k=>?_) (fun het=>G4 ⟨_,rfl,?_,i2,zd⟩)
  ·have g:=he.1 k
   have:=List.length_pos_iff.2 g
   refine GR (step_ok f g i2 ⟨i0,i1⟩ i3) (fun r⟨G,O,H,I,J,Q,T⟩=>?_)
   refine G2 (fun h=>(h G).elim) (fun _=>?_)
   exact GX ⟨⟨zd,zd⟩,J,fun _=>I,fun _=>H⟩ zd
  ·refine i3 ?_
   rcases he.2 het with h|h
   ·exact i4 h
   ·exact h
 ·simp only at h
  rw [h]at j
  simp only [cnt]at j;omega
theorem locate_ok{q:ak}(f:PV q){t:Int}(j:0<=t):Ok (dK q t) (fun r=>r.2=0∧Sub q.bn r.1.ch∧(Single q->r.1.b8=0)):=by
 unfold dK
 refine GR (run_ok f j) (fun x⟨C,s,xs,⟨g1,g2⟩,ho,hs⟩=>?_)
 rw [xs]
 show Ok (if(x.2 != (0:Int))=true then _ else _) _
 refine G2 (fun h=>(h C).elim) (fun _=>?_)
 refine GR (P:=fun o:Int×al=>Sub q.bn o.2) (GV (fun u:Int×Int×al=>(0<=u.1∧u.1<=s.mp.length)∧Sub q.bn u.2.2) (fun u=>((s.mp.length:Int)-u.1).toNat) ?_ ⟨⟨zc,zc⟩,g1⟩) (fun o ho=>G1 ⟨rfl,ho,g2⟩)
 rintro⟨u1,u2,D⟩ ⟨⟨i0,i1⟩,i2⟩
 simp only at i0 i1 i2
 unfold mr
 refine GY (fun g=>?_) (fun _=>G4 i2)
 refine GR (GU za za) (fun y k=>?_)
 rw [w64 za za]
 refine GY (fun _=>?_) (fun _=>GX ⟨⟨zd,zd⟩,i2⟩ zd)
 exact GR (hull_ok f.box f.reg i2 (ho y k.1)) (fun z B=>GX ⟨⟨zd,zd⟩,B⟩ zd)
end Go.Dw.Re
set_option maxRecDepth 100000
set_option maxHeartbeats 4000000
namespace Go.Dw.Re
open Go.Dw Go.Proofs
theorem has_max:∀{l:List Int},l≠ []->∃m∈l,∀x∈l,x<=m
 | [a],_=>⟨a,zc,zc⟩
 |a::b::r,_=>by
  obtain⟨m,h1,g⟩:=has_max (l:=b::r) zc
  by_cases h:a<=m
  ·exact ⟨m, GH _ h1, fun x f => by
    rcases List.mem_cons.1 f with rfl|f
    ·exact h
    ·exact g x f⟩
  ·exact ⟨a, zc, fun x f => by
    rcases List.mem_cons.1 f with rfl|f
    ·exact Fb _
    ·have:=g x f;omega⟩
theorem has_min{l:List Int}(h:l≠ []):∃m∈l,∀x∈l,m<=x:=by
 obtain⟨m,h1,f⟩:=has_max (l:=l.map fun x=> -x) (by simpa using h)
 obtain⟨y,j,rfl⟩:=List.mem_map.1 h1
 exact⟨y,j,fun x g=>by have:=f (-x) (List.mem_map.2 ⟨x,g,rfl⟩);omega⟩
def res(z:bz)(t:Int):Int:=max 0 (max (t-z.fTo) (z.b7-t))
def jW(cap w:Int)(z:bz)(t:Int):Int:=w*min cap (res z t)
def cC(cap:Int):List aw->List bz->Int->Int
 |a::ps,z::zs,t=>jW cap a.cz z t+cC cap ps zs t
 |_,_,_=>0
def ends:List bz->List Int
 | []=>[]
 |z::zs=>z.b7::z.fTo::ends zs
theorem mem_ends{l:List bz}{t:Int}:t∈ends l↔∃z∈l,t=z.b7∨t=z.fTo:=by
 induction l with
 |nil=>simp [ends]
 |cons z zs f=>simp [ends,f,or_assoc]
theorem cap_line{c a L R t:Int}(h1:L<=t)(f:t<=R):(R-t)*min c (a-L)+(t-L)*min c (a-R)<=(R-L)*min c (a-t):=by
 have g:(R-t)*min c (a-L)<=(R-t)*c:=HT za za
 have j:(t-L)*min c (a-R)<=(t-L)*c:=HT za za
 have k3:(R-t)*min c (a-L)<=(R-t)*(a-L):=HT za za
 have k:(t-L)*min c (a-R)<=(t-L)*(a-R):=HT za za
 rcases Fc c (a-t)with h|h
 ·rw [Int.min_eq_left h]
  have:(R-t)*c+(t-L)*c=(R-L)*c:=by rw [<-F8];congr 1;omega
  omega
 ·rw [HS h]
  have:(R-t)*(a-L)+(t-L)*(a-R)=(R-L)*(a-t):=by
   simp only [Int.sub_mul,Int.mul_sub,Fh]
   omega
  omega
theorem cost1_line{cap w:Int}{z:bz}(hc:0<=cap)(hw:0<=w)(j:z.b7<=z.fTo){L R t:Int}(h1:L<=t)(g:t<=R)(hf:z.b7<=L∨R<=z.b7)(f:z.fTo<=L∨R<=z.fTo):
  (R-t)*jW cap w z L+(t-L)*jW cap w z R<=(R-L)*jW cap w z t:=by
 have key:(R-t)*min cap (res z L)+(t-L)*min cap (res z R)<=(R-L)*min cap (res z t):=by
  unfold res
  rcases hf with hf|hf
  ·rcases f with f|f
   ·rw [show max 0 (max (L-z.fTo) (z.b7-L))=(-z.fTo)-(-L)by omega,show max 0 (max (R-z.fTo) (z.b7-R))=(-z.fTo)-(-R)by omega,show max 0 (max (t-z.fTo) (z.b7-t))=(-z.fTo)-(-t)by omega]
    have:=cap_line (c:=cap) (a:= -z.fTo) (L:= -R) (R:= -L) (t:= -t) za za
    rw [show-L- -t=t-L by omega,show-t- -R=R-t by omega,show-L- -R=R-L by omega]at this
    omega
   ·rw [show max 0 (max (L-z.fTo) (z.b7-L))=0 by omega,show max 0 (max (R-z.fTo) (z.b7-R))=0 by omega,show max 0 (max (t-z.fTo) (z.b7-t))=0 by omega]
    rw [HS hc];simp
  ·rw [show max 0 (max (L-z.fTo) (z.b7-L))=z.b7-L by omega,show max 0 (max (R-z.fTo) (z.b7-R))=z.b7-R by omega,show max 0 (max (t-z.fTo) (z.b7-t))=z.b7-t by omega]
   exact cap_line h1 g
 unfold jW
 have:=HT key hw
 rw [Ff,Fj w (R-t),Fj w (t-L),Fj w (R-L)]at this
 exact this
theorem costS_line{cap:Int}(hc:0<=cap){L R t:Int}(h1:L<=t)(g:t<=R):∀(ps:List aw)(zs:List bz),(∀a∈ps,0<=a.cz)->(∀z∈zs,z.b7<=z.fTo)->(∀e∈ends zs,e<=L∨R<=e)->
  (R-t)*cC cap ps zs L+(t-L)*cC cap ps zs R<=(R-L)*cC cap ps zs t
 |a::ps,z::zs,j,k,he=>by
  have q:=cost1_line hc (j a zc) (k z zc) h1 g (he _ (by simp [ends])) (he _ (by simp [ends]))
  have r:=costS_line hc h1 g ps zs (fun x f=>j x (by simp [f])) (fun x f=>k x (by simp [f])) (fun e h=>he e (by simp [ends,h]))
  unfold cC
  rw [Ff,Ff,Ff]
  omega
 | [],_,_,_,_=>by simp [cC]
 |_::_,[],_,_,_=>by simp [cC]
theorem costS_left{cap:Int}{L t:Int}(h1:t<=L):∀(ps:List aw)(zs:List bz),(∀a∈ps,0<=a.cz)->(∀z∈zs,z.b7<=z.fTo)->(∀e∈ends zs,L<=e)->cC cap ps zs L<=cC cap ps zs t
 |a::ps,z::zs,g,j,he=>by
  have:=costS_left (cap:=cap) h1 ps zs (fun x f=>g x (by simp [f])) (fun x f=>j x (by simp [f])) (fun e h=>he e (by simp [ends,h]))
  have k:=he z.b7 (by simp [ends])
  have e2:=he z.fTo (by simp [ends])
  unfold cC
  have:jW cap a.cz z L<=jW cap a.cz z t:=HT (by unfold res;omega) (g a zc)
  omega
 | [],_,_,_,_=>by simp [cC]
 |_::_,[],_,_,_=>by simp [cC]
theorem costS_right{cap:Int}{L t:Int}(h1:L<=t):∀(ps:List aw)(zs:List bz),(∀a∈ps,0<=a.cz)->(∀z∈zs,z.b7<=z.fTo)->(∀e∈ends zs,e<=L)->cC cap ps zs L<=cC cap ps zs t
 |a::ps,z::zs,g,j,he=>by
  have:=costS_right (cap:=cap) h1 ps zs (fun x f=>g x (by simp [f])) (fun x f=>j x (by simp [f])) (fun e h=>he e (by simp [ends,h]))
  have k:=he z.b7 (by simp [ends])
  have e2:=he z.fTo (by simp [ends])
  unfold cC
  have:jW cap a.cz z L<=jW cap a.cz z t:=HT (by unfold res;omega) (g a zc)
  omega
 | [],_,_,_,_=>by simp [cC]
 |_::_,[],_,_,_=>by simp [cC]
theorem least_end{cap:Int}(hc:0<=cap){ps:List aw}{zs:List bz}(D:zs≠ [])(j:∀a∈ps,0<=a.cz)(k:∀z∈zs,z.b7<=z.fTo)(t:Int):∃e∈ends zs,cC cap ps zs e<=cC cap ps zs t:=by
 have g:ends zs≠ []:=by
  match zs,D with
  |z::zs,_=>simp [ends]
 by_cases u:(ends zs).filter (fun e=>decide (e<=t))=[]
 ·obtain⟨m,h1,f⟩:=has_min g
  have:t<=m:=by
   apply Ga
   intro h
   have:m∈(ends zs).filter (fun e=>decide (e<=t)):=List.mem_filter.2 ⟨h1,so⟩
   rw [u]at this;simp at this
  exact⟨m,h1,costS_left this ps zs j k f⟩
 by_cases B:(ends zs).filter (fun e=>decide (t<=e))=[]
 ·obtain⟨m,h1,f⟩:=has_max g
  have:m<=t:=by
   apply Ga
   intro h
   have:m∈(ends zs).filter (fun e=>decide (t<=e)):=List.mem_filter.2 ⟨h1,so⟩
   rw [B]at this;simp at this
  exact⟨m,h1,costS_right this ps zs j k f⟩
 obtain⟨L,q,E⟩:=has_max u
 obtain⟨R,r,G⟩:=has_min B
 rw [Gw]at q r
 have F:L<=t:=by simpa using q.2
 have H:t<=R:=by simpa using r.2
 have hl := costS_line hc F H ps zs j k (fun e he => by
  rcases Fc e t with h|h
  ·exact .inl (E e (List.mem_filter.2 ⟨he,by simpa using h⟩))
  ·exact .inr (G e (List.mem_filter.2 ⟨he,by simpa using h⟩)))
 by_cases h1:cC cap ps zs L<=cC cap ps zs t
 ·exact⟨L,q.1,h1⟩
 by_cases f:cC cap ps zs R<=cC cap ps zs t
 ·exact⟨R,r.1,f⟩
 exfalso
 have C:L≠t:=fun h=>h1 (by rw [h];exact Fb _)
 have I:(R-t)*(cC cap ps zs t+1)<=(R-t)*cC cap ps zs L:=HT za za
 have J:(t-L)*(cC cap ps zs t+1)<=(t-L)*cC cap ps zs R:=HT za za
 have k3:(R-t)*(cC cap ps zs t+1)+(t-L)*(cC cap ps zs t+1)=(R-L)*cC cap ps zs t+(R-L):=by
  rw [<-F8,show R-t+(t-L)=R-L by omega,Ff];omega
 omega
theorem costS_mono{cap:Int}(t:Int):∀(ps:List aw)(zs f:List bz),(∀a∈ps,0<=a.cz)->zs.length=f.length->(∀(i:Nat)(h:i<zs.length)(r:i<f.length),zs[i].b7<=f[i].b7∧f[i].fTo<=zs[i].fTo)->cC cap ps zs t<=cC cap ps f t
 |a::ps,z::zs,y::f,g,hl,h=>by
  have u:=costS_mono (cap:=cap) t ps zs f (fun x k=>g x (by simp [k])) (by simpa using hl) (fun i h1 j=>h (i+1) (HZ h1) (HZ j))
  have q:=h 0 zc zc
  simp only [List.getElem_cons_zero]at q
  unfold cC
  have:jW cap a.cz z t<=jW cap a.cz y t:=HT (by unfold res;omega) (g a zc)
  omega
 | [],_,_,_,_,_=>by simp [cC]
 |_::_,[],[],_,_,_=>by simp [cC]
 |_::_,[],_::_,_,hl,_=>by simp at hl
 |_::_,_::_,[],_,hl,_=>by simp at hl
end Go.Dw.Re
set_option maxRecDepth 100000
set_option maxHeartbeats 4000000
namespace Go.Dw.Re
open Go.Dw Go.Proofs
theorem search_at{t:bc}(q:pq t)(d:Int)(G:d<=t.bR*((t.bt.length:Int)-1)):Ok (gj (t.bd.length:Int) t d) (fun r=>(0<=r∧r<t.bd.length)∧d<=r*t.bR∧∀k,0<=k->k<r->k*t.bR<d):=by
 have hl:=q.len;have hs:=q.same;have E:=q.step
 unfold gj
 rw [Option.bind_fun_some]
 refine GV (fun s=>∃i j:Nat,s=((i:Int),(j:Int))∧i<t.bd.length∧i<=j∧j<=t.bd.length∧(j<t.bd.length->d<=(j:Int)*t.bR)∧∀k:Int,0<=k->k<i->k*t.bR<d) (fun s=>(s.2-s.1).toNat) ?_ ⟨0,t.bd.length,rfl,za,za,DA _,fun h=>za,fun k B h1=>za⟩
 rintro s ⟨i,j,rfl,i0,i1,i2,i3,i4⟩
 unfold iC
 dsimp only
 refine GY (fun g=>?_) (fun C=>G4 ⟨⟨za,za⟩,?_,i4⟩)
 rotate_left
 ·obtain rfl:i=j:=by omega
  exact i3 i0
 have u:=half_at (i+j) za
 rw [Int.natCast_add]at u
 have D:(i+j) / 2<j:=by omega
 have f:i<=(i+j) / 2:=by omega
 rw [u]
 generalize (i+j) / 2=k at*
 unfold iD
 have F:0<=(k:Int)*t.bR∧(k:Int)*t.bR<=30*100:=⟨Fk za za,Fi za za za za⟩
 rw [w64 (n:=(k:Int)*t.bR) za za,ze]
 refine Ok.iteND (fun g=>?_) (fun hle=>GX ⟨i,k,rfl,i0,f,za,fun _=>hle,i4⟩ zd)
 rw [w64 za za]
 refine GX ⟨k+1,j,zc,?_,za,i2,i3,fun m B h1=>?_⟩ zd
 ·have h1:(k:Int)*t.bR<t.bR*((t.bt.length:Int)-1):=by omega
  rw [Fh]at h1
  have:=Int.lt_of_mul_lt_mul_left h1 za
  omega
 ·have:m*t.bR<=(k:Int)*t.bR:=HV za za
  omega
theorem between_at{t:bc}(j:pq t):∀(a b:Int),0<=a->a<=b->b<=65535->Reach t b->∃x c u:Int,dh t a b=some (t.bt.getD (x.tdiv t.bR).toNat 0,t.bd.getD u.toNat 0,0)∧(0<=x∧x.tdiv t.bR<t.bt.length)∧(x*x<=a∧a<(x+1)*(x+1))∧(0<=c∧b<=c*c∧∀s,0<=s->b<=s*s->c<=s)∧(0<=u∧u<t.bd.length)∧c<=u*t.bR∧(∀k,0<=k->k<u->k*t.bR<c)∧c<=nu t:=by
 have hl:=j.len;have hs:=j.same;have Q:=j.step
 have N:0<=t.bR*((t.bt.length:Int)-1)∧t.bR*((t.bt.length:Int)-1)<=100*30:=⟨Fk za za,Fi za za za za⟩
 intro a b K L B F
 have main:Ok (dh t a b) (fun r=>∃x c u:Int,r=(t.bt.getD (x.tdiv t.bR).toNat 0,t.bd.getD u.toNat 0,0)∧(0<=x∧x.tdiv t.bR<t.bt.length)∧(x*x<=a∧a<(x+1)*(x+1))∧(0<=c∧b<=c*c∧∀s,0<=s->b<=s*s->c<=s)∧(0<=u∧u<t.bd.length)∧c<=u*t.bR∧(∀k,0<=k->k<u->k*t.bR<c)∧c<=nu t):=by
  unfold dh
  rw [jc j,ze,if_neg zc]
  refine GY (fun _=>za) (fun _=>GY (fun _=>za) (fun _=>?_))
  refine GR (ceil_ok b za B) (fun c hc=>?_)
  obtain⟨C,D,g⟩:=hc
  have f:c<=nu t:=g _ N.1 F
  unfold nJ
  rw [ze,w64 (n:=(t.bt.length:Int)-1) za za,w64 za za]
  refine GY (fun h=>by unfold nu at f;omega) (fun X=>?_)
  refine GR (search_at j c za) (fun u hu=>?_)
  refine GR (floor_ok a za) (fun x T=>?_)
  obtain⟨⟨H,x1⟩,I,W⟩:=T
  have I:=I K
  have U:x<=c:=by
   apply Ga
   intro h
   have:(c+1)*(c+1)<=x*x:=Fi za za za za
   have Y:(c+1)*(c+1)=c*c+2*c+1:=by rw [F8,Ff];omega
   omega
  refine GR (Ok.quo za) (fun q J=>?_)
  have E:0<=x.tdiv t.bR:=Fw H za
  have O:x.tdiv t.bR<=(t.bt.length:Int)-1:=by
   rw [Fu H]
   exact Int.ediv_le_of_le_mul za (by rw [Fh];omega)
  rw [w64 za za]at J
  subst J
  refine GR (GU E za) (fun p hp=>?_)
  refine GR (GU hu.1.1 hu.1.2) (fun r G=>G1 ⟨x,c,u,?_,⟨H,za⟩,⟨I,W⟩,⟨C.1,D,g⟩,hu.1,hu.2.1,hu.2.2,f⟩)
  rw [Eo,Eo,hp.2,G.2];rfl
 obtain⟨r,e,x,c,u,F,h⟩:=main
 exact⟨x,c,u,by rw [e,F],h⟩
theorem between_le{t:bc}(g:pq t){n f C k:Int}(K:0<=n)(h1:n<=C)(L:C<=k)(N:k<=f)(hf:f<=65535)(E:Reach t f):
  ∃lo hi r q,dh t n f=some (lo,hi,0)∧dh t C k=some (r,q,0)∧lo<=r∧q<=hi:=by
 have hl:=g.len;have hs:=g.same;have O:=g.step
 have Y:0<=t.bR*((t.bt.length:Int)-1)∧t.bR*((t.bt.length:Int)-1)<=100*30:=⟨Fk za za,Fi za za za za⟩
 have D:Reach t k:=Fe N E
 obtain⟨x,c,u,e,⟨G,x1⟩,⟨x2,x3⟩,⟨I,W,X⟩,⟨T,u1⟩,u2,u3, -⟩:=between_at g n f K za hf E
 obtain⟨B,H,F,J,⟨U,y1⟩,⟨y2,y3⟩,⟨d0,d1,d2⟩,⟨v0,v1⟩,v2,v3, -⟩:=between_at g C k za L za D
 refine⟨_,_,_,_,e,J,?_,?_⟩
 ·have Q:x<=B:=by
   apply Ga
   intro h
   have:(B+1)*(B+1)<=x*x:=Fi za za za za
   omega
  have hd:x.tdiv t.bR<=B.tdiv t.bR:=by
   rw [Fu G,Fu U]
   exact Int.ediv_le_ediv za Q
  have k0:0<=x.tdiv t.bR:=Fw G za
  have:=asc_le g.low (i:=(x.tdiv t.bR).toNat) (j:=(B.tdiv t.bR).toNat) za za
  rw [Eo,Eo,zf za,zf za]
  exact this
 ·have hc:H<=c:=d2 _ I za
  have hu:F<=u:=by
   apply Ga
   intro h
   have:=v3 u T za
   omega
  have:=asc_le g.high (i:=F.toNat) (j:=u.toNat) za za
  rw [Eo,Eo,zf za,zf za]
  exact this
theorem near_mono{r b:al}(h:Sub r b)(p:ag):oF r p<=oF b p:=by
 obtain⟨h1,j,q⟩:=h
 have k:∀x l h g f:Int,g<=l->l<=h->h<=f->ne x g f*ne x g f<=ne x l h*ne x l h:=fun x l h g f a b c=>sq_le (by unfold ne;omega) (by unfold ne;omega)
 have:=k p.fX _ _ _ _ h1.1 h1.2.1 h1.2.2
 have:=k p.fY _ _ _ _ j.1 j.2.1 j.2.2
 have:=k p.fZ _ _ _ _ q.1 q.2.1 q.2.2
 unfold oF;omega
theorem Sub.trans{a b c:al}(h:Sub a b)(f:Sub b c):Sub a c:=by
 obtain⟨h1,g,j⟩:=h
 obtain⟨k,q,k3⟩:=f
 exact⟨⟨za,za,za⟩,⟨za,za,za⟩,za,za,za⟩
noncomputable def zn (q:ak) (b:al) (a:aw):bz:=((eD q.bJ b a).getD (⟨0,0⟩,0)).1
theorem zn_at{q:ak}(j:PV q){b:al}(h:Sub q.bn b){a:aw}(g:a∈q.bK):eD q.bJ b a=some (zn q b a,0)∧fK (zn q b a):=by
 obtain⟨r,e,h1,f⟩:=sub_zone j h g
 unfold zn
 rw [e]
 exact⟨by rw [<-h1];rfl,f⟩
theorem zn_le{q:ak}(f:PV q){b c:al}(h:Sub q.bn b)(C:Sub b c){a:aw}(O:a∈q.bK):(zn q b a).b7<=(zn q c a).b7∧(zn q c a).fTo<=(zn q b a).fTo:=by
 obtain⟨T,Q⟩:=f.ph a O
 have g:=h.ok f.box f.reg
 have hc:=(h.trans C).ok f.box f.reg
 obtain⟨hp,U,W,X,H⟩:=T
 have D:ge a=some true:=by
  refine GS ?_
  unfold ge
  rw [k6 hp,ze,if_pos rfl,if_pos (by simpa using U),if_pos (by simpa using W),if_pos (by simpa using X),if_pos (by simp [H])]
  exact G1 (by simp [H])
 obtain⟨n1,G, -⟩:=qQ g hp
 obtain⟨f1, -,f3⟩:=Far_at g hp
 obtain⟨m1,m2, -⟩:=qQ hc hp
 obtain⟨g1, -,g3⟩:=Far_at hc hp
 obtain⟨lo,hi,B,u,F,e2,l1,l2⟩:=between_le f.tab G (near_mono C a.bw) (pT hc _) (far_mono C a.bw) za (Fe (far_mono h _) Q)
 have I:∀{b:al}(g:gM b){lo hi:Int},f8 b a.bw=some (oF b a.bw)->ji b a.bw=some (oq b a.bw)->dh q.bJ (oF b a.bw) (oq b a.bw)=some (lo,hi,0)->
   eD q.bJ b a=some (⟨FN .i64 (a.bv-hi),FN .i64 (a.cg-lo)⟩,0):=by
  intro b g lo hi h1 L N
  unfold eD
  rw [jc f.tab,ze,if_neg zc,eJ g,ze,if_neg zc,D,ze,if_neg zc]
  unfold mf m7
  rw [jc f.tab,ze,if_neg zc,eJ g,ze,if_neg zc,k6 hp,ze,if_neg zc,h1,L]
  simp only [ze]
  rw [N];rfl
 have J:Ok (dh q.bJ (oF b a.bw) (oq b a.bw)) _:=oQ f.tab _ _ G (pT g _) za
 have K:Ok (dh q.bJ (oF c a.bw) (oq c a.bw)) _:=oQ f.tab _ _ m2 (pT hc _) za
 obtain⟨r,e,j⟩:=J
 obtain⟨r',E,k⟩:=K
 rw [F]at e;rw [e2]at E
 cases e;cases E
 have j:=j.2 rfl
 have k:=k.2 rfl
 have Y:zn q b a=⟨FN .i64 (a.bv-hi),FN .i64 (a.cg-lo)⟩:=by unfold zn;rw [I g n1 f1 F];rfl
 have z2:zn q c a=⟨FN .i64 (a.bv-u),FN .i64 (a.cg-B)⟩:=by unfold zn;rw [I hc m1 g1 e2];rfl
 rw [Y,z2]
 simp only at j k⊢
 rw [w64 (n:=a.bv-hi) za za,w64 (n:=a.bv-u) za za,w64 (n:=a.cg-lo) za za,w64 (n:=a.cg-B) za za]
 omega
theorem zones_at{q:ak}(f:PV q){b:al}(h:Sub q.bn b):ia q b=some (q.bK.map (zn q b),0):=by
 have hl:=f.len
 refine GS ?_
 unfold ia
 rw [oi f,ze,if_neg zc,within_at f.box f.reg h,ze,if_neg zc]
 refine GR (P:=fun r=>r=(q.bK.map (zn q b),0)) ?_ (fun r k=>by subst k;exact G1 rfl)
 unfold nH
 refine GR (Ok.mkC za za za za) (fun x u=>?_)
 subst u
 refine GR (P:=fun o=>o= .inl (q.bK.map (zn q b))) (GV (fun s:Int×List bz=>(0<=s.1∧s.1<=q.bK.length)∧s.2=(q.bK.take s.1.toNat).map (zn q b)) (fun s=>((q.bK.length:Int)-s.1).toNat) ?_ ⟨⟨zc,zc⟩,zc⟩) (fun o ho=>by subst ho;exact G1 rfl)
 rintro⟨s2,D⟩ ⟨⟨i0,i1⟩,i2⟩
 simp only at i0 i1 i2
 subst i2
 unfold kY
 refine GY (fun j=>?_) (fun _=>G4 ?_)
 rotate_left
 ·rw [HQ za]
 refine GR (GU za za) (fun a g=>?_)
 rw [(zn_at f h g.1).1,ze,if_neg zc]
 have C:(FM (zn q b) (HL s2.toNat q.bK)).length<=64:=by rw [Ea,EG];omega
 refine GR (GQ (by simp only [DW,DX];omega)) (fun y B=>?_)
 subst B
 rw [w64 za za]
 refine GX ⟨⟨zd,zd⟩,?_⟩ zd
 simp only
 rw [show(s2+1).toNat=s2.toNat+1 by omega,HO,g.2]
 simp
theorem res_at{z:bz}(f:fK z){t:Int}(g: -5000<=t∧t<=18014398509481984):gK z t=some (res z t):=by
 obtain⟨j,z2,z3⟩:=f
 unfold gK
 rw [w64 (n:=t-z.fTo) za za,w64 (n:=z.b7-t) za za]
 congr 1
 unfold res
 split<;>split<;>omega
theorem oR{cap:Int}(hc:0<=cap){t:Int}:∀(ps:List aw)(zs:List bz),(∀a∈ps,0<=a.cz)->0<=cC cap ps zs t
 |a::ps,z::zs,f=>by
  have j:=oR hc (t:=t) ps zs (fun x g=>f x (by simp [g]))
  have k:0<=jW cap a.cz z t:=Fk (f a zc) (by unfold res;omega)
  unfold cC;omega
 | [],_,_=>by simp [cC]
 |_::_,[],_=>by simp [cC]
theorem cost_at{q:ak}(g:PV q){l:List bz}(C:l.length=q.bK.length)(G:∀z∈l,fK z){t:Int}(F: -5000<=t∧t<=18014398509481984):kw q l t=some (cC q.dw q.bK l t):=by
 have hl:=g.len;have hc:=g.cap
 refine GS ?_
 unfold kw
 refine GR (P:=fun o=>o=cC q.dw q.bK l t) (GV (fun s:Int×Int=>(0<=s.2∧s.2<=q.bK.length)∧(0<=s.1∧s.1<=1000*s.2)∧s.1+cC q.dw (q.bK.drop s.2.toNat) (l.drop s.2.toNat) t=cC q.dw q.bK l t) (fun s=>((q.bK.length:Int)-s.2).toNat) ?_ ⟨⟨zc,zc⟩,⟨zc,zc⟩,zc⟩) (fun o ho=>by subst ho;exact G1 rfl)
 rintro⟨s1,s2⟩ ⟨⟨i0,i1⟩,⟨i2,i3⟩,i4⟩
 simp only at i0 i1 i2 i3 i4
 unfold lI
 refine GY (fun D=>?_) (fun B=>G4 ?_)
 rotate_left
 ·rw [List.drop_eq_nil_of_le za]at i4
  simp [cC]at i4;exact i4
 refine GR (GU za za) (fun a j=>?_)
 refine GY (fun E=>?_) (fun h=>za)
 refine GR (GU za za) (fun z f=>?_)
 rw [res_at (G z f.1) F,ze,w64 (n:=s2+1) za za]
 have hw:a.cz=1:=(g.ph a j.1).1.weight
 have k:(if res z t<q.dw then res z t else q.dw)=min q.dw (res z t):=by split<;>omega
 have J:0<=res z t:=by unfold res;omega
 have e2:jW q.dw a.cz z t=min q.dw (res z t):=by unfold jW;rw [hw,HW]
 rw [k,hw,HW,w64 (n:=min q.dw (res z t)) za za,w64 za za]
 refine GX ⟨⟨zd,zd⟩,⟨zd,zd⟩,?_⟩ zd
 simp only
 rw [show(s2+1).toNat=s2.toNat+1 by omega]
 obtain⟨H,r⟩:=List.getElem?_eq_some_iff.1 j.2
 obtain⟨I,u⟩:=List.getElem?_eq_some_iff.1 f.2
 rw [Fz H,Fz I,r,u]at i4
 have i5:s1+(jW q.dw a.cz z t+cC q.dw (q.bK.drop (s2.toNat+1)) (l.drop (s2.toNat+1)) t)=cC q.dw q.bK l t:=i4
 rw [e2]at i5
 omega
structure BestE(q:ak)(l:List bz)(r:Int×Int):Prop where
 mem:r.1∈ends l
 cost:r.2=cC q.dw q.bK l r.1
 least:∀e∈ends l,r.2<=cC q.dw q.bK l e
theorem ends_snoc{l:List bz}{z:bz}:ends (l++[z])=ends l++[z.b7,z.fTo]:=by
 induction l with
 |nil=>rfl
 |cons y g f=>simp [ends,f]
theorem ends_len{l:List bz}:(ends l).length=2*l.length:=by
 induction l with
 |nil=>rfl
 |cons y g f=>simp [ends,f];omega
theorem best_at{q:ak}(G:PV q){l:List bz}(r:l.length=q.bK.length)(B:∀z∈l,fK z):Ok (ku q l) (BestE q l):=by
 have hl:=G.len
 have j:∀e∈ends l, -5000<=e∧e<=18014398509481984:=by
  intro e he
  obtain⟨z,h1,K⟩:=mem_ends.1 he
  obtain⟨z1,z2,z3⟩:=B z h1
  omega
 unfold ku
 rw [w64 (n:=2*(l.length:Int)) za za]
 refine GR (Ok.mkC za za za za) (fun x T=>?_)
 subst T
 refine GR (P:=fun o:List Int=>o=ends l) (GV (fun s:Int×List Int=>(0<=s.1∧s.1<=l.length)∧s.2=ends (l.take s.1.toNat)) (fun s=>((l.length:Int)-s.1).toNat) ?_ ⟨⟨zc,zc⟩,by simp [ends]⟩) (fun o ho=>?_)
 ·rintro⟨s2,g⟩ ⟨⟨i0,i1⟩,i2⟩
  simp only at i0 i1 i2
  subst i2
  unfold my
  refine GY (fun E=>?_) (fun _=>G4 (by rw [HQ za]))
  refine GR (GU za za) (fun z B=>?_)
  have Y:(ends (HL s2.toNat l)).length<=128:=by rw [ends_len,EG];omega
  refine GR (GQ (by simp only [DW,DX];omega)) (fun y U=>?_)
  subst U
  rw [w64 za za]
  refine GX ⟨⟨zd,zd⟩,?_⟩ zd
  simp only
  rw [show(s2+1).toNat=s2.toNat+1 by omega,HO,B.2,Option.toList_some,ends_snoc]
 ·subst ho
  have X:(ends l).length=2*l.length:=ends_len
  refine G5 (fun h=>za) (fun _=>?_)
  refine GR (G6 za za) (fun _ _=>GR (GU za za) (fun I g14=>?_))
  refine GR (G6 za za) (fun _ _=>GR (GU za za) (fun C g17=>?_))
  have D:C=I:=E9 (g17.2.symm.trans g14.2)
  subst D
  rw [cost_at G r B (j _ g17.1),ze]
  refine GR (Gc za za za) (fun _ _=>?_)
  refine GR (Ok.lenv za za) (fun n F=>?_)
  have Q:n=2*(l.length:Int)-1:=by simp at F;omega
  have H:∀(i:Nat)e,(ends l)[i]? =some e->i<1->e=C:=by
   intro i e h hi
   have:i=0:=by omega
   subst this
   exact E9 (h.symm.trans g17.2)
  refine GR (P:=fun o=>BestE q l o) (GV (fun s:Int×Int×Int=>(0<=s.2.2∧s.2.2<=n)∧s.1∈ends l∧s.2.1=cC q.dw q.bK l s.1∧∀(i:Nat)e,(ends l)[i]? =some e->i<s.2.2.toNat+1->s.2.1<=cC q.dw q.bK l e) (fun s=>(n-s.2.2).toNat) ?_ ⟨⟨zc,zd⟩,g17.1,rfl,fun i e h hi=>by rw [H i e h (by simpa using hi)];exact Fb _⟩) (fun o ho=>G1 ho)
  rintro⟨s1,s2,g⟩ ⟨⟨i0,i1⟩,i2,i3,i4⟩
  simp only at i0 i1 i2 i3 i4
  unfold lH
  refine GY (fun E=>?_) (fun O=>G4 ⟨i2,i3,fun e he=>?_⟩)
  rotate_left
  ·obtain⟨i,hi,rfl⟩:=Gs he
   exact i4 i _ (zf hi) za
  refine GR (Ok.inv za za za) (fun _ _=>?_)
  refine GR (GU za za) (fun J f=>?_)
  rw [cost_at G r B (j _ f.1),ze]
  rw [w64 za za]
  have k:((0+(1:Int).toNat+g.toNat:Nat):Int).toNat=g.toNat+1:=by simp;omega
  rw [k]at f
  have A : ∀ (u v : Int), u ∈ ends l → v = cC q.dw q.bK l u → v ≤ s2 → v ≤ cC q.dw q.bK l J → Ok (some (.next (u, v, g + 1)) : Option (il (Int × Int × Int) (Int × Int))) (Ok.S (fun s : Int × Int × Int => (0 ≤ s.2.2 ∧ s.2.2 ≤ n) ∧ s.1 ∈ ends l ∧ s.2.1 = cC q.dw q.bK l s.1 ∧ ∀ (i : Nat) e, (ends l)[i]? = some e → i < s.2.2.toNat + 1 → s.2.1 ≤ cC q.dw q.bK l e) (fun s => (n - s.2.2).toNat) (BestE q l) (s1, s2, g)) := fun u v h1 K L N => GX ⟨⟨zd, zd⟩, h1, K, fun i e he hi => by
   simp only at hi⊢
   rw [show(g+1).toNat=g.toNat+1 by omega]at hi
   rcases HX i (g.toNat+1)with h|h
   ·exact Fe L (i4 i e he h)
   ·have:i=g.toNat+1:=by omega
    subst this
    rw [f.2]at he
    cases he;exact N⟩ zd
  refine GY (fun h=>A _ _ f.1 rfl za (Fb _)) (fun h=>G5 (fun W=>GY (fun _=>A _ _ f.1 rfl za (Fb _)) (fun _=>A _ _ i2 i3 (Fb _) za)) (fun _=>A _ _ i2 i3 (Fb _) za))
noncomputable def mis (q:ak) (p:ag):Int:=((jK q p).getD (0,0,0)).2.1
noncomputable def bnd (q:ak) (b:al):Int:=((fT q b).getD (0,0)).1
theorem bnd_at{q:ak}(f:PV q){b:al}(h:Sub q.bn b):fT q b=some (bnd q b,0)∧∃t,BestE q (q.bK.map (zn q b)) (t,bnd q b):=by
 obtain⟨r,e,j⟩:=best_at f (l:=q.bK.map (zn q b)) zc (fun z k=>by obtain⟨a,g,rfl⟩:=List.mem_map.1 k;exact(zn_at f h g).2)
 have:fT q b=some (r.2,0):=by unfold fT;rw [zones_at f h,ze,if_neg zc,e];rfl
 unfold bnd
 rw [this]
 exact⟨rfl,r.1,j⟩
theorem pL{q:ak}(f:PV q){p:ag}(h:Sub q.bn ⟨p,p⟩):∃t,jK q p=some (t,mis q p,0)∧BestE q (q.bK.map (zn q ⟨p,p⟩)) (t,mis q p):=by
 obtain⟨r,e,j⟩:=best_at f (l:=q.bK.map (zn q ⟨p,p⟩)) zc (fun z k=>by obtain⟨a,g,rfl⟩:=List.mem_map.1 k;exact(zn_at f h g).2)
 have:jK q p=some (r.1,r.2,0):=by unfold jK;rw [zones_at f h,ze,if_neg zc,e];rfl
 unfold mis
 rw [this]
 exact⟨_,rfl,j⟩
theorem bnd_le{q:ak}(f:PV q){b:al}(h:Sub q.bn b){p:ag}(hp:Sub b ⟨p,p⟩):bnd q b<=mis q p:=by
 obtain⟨-,t,h1,j,k⟩:=bnd_at f h
 obtain⟨r, -,B,C,k3⟩:=pL f (h.trans hp)
 simp only at h1 j k B C k3
 have hl:=f.len;have hc:=f.cap
 have hw:∀a∈q.bK,0<=a.cz:=fun a g=>by have:=(f.ph a g).1.weight;omega
 obtain⟨e,he,hle⟩:=least_end (cap:=q.dw) za (ps:=q.bK) (zs:=q.bK.map (zn q b)) (by intro h;simp at h;simp [h]at hl) hw (fun z u=>by obtain⟨a,g,rfl⟩:=List.mem_map.1 u;exact(zn_at f h g).2.2.1) r
 have hm := costS_mono (cap := q.dw) r q.bK (q.bK.map (zn q b)) (q.bK.map (zn q ⟨p, p⟩)) hw zc (fun i h1 j => by
  simp only [GF]
  exact zn_le f h hp (Dp _))
 have:=k e he
 omega
end Go.Dw.Re
set_option maxRecDepth 100000
set_option maxHeartbeats 4000000
namespace Go.Dw.Re
open Go.Dw Go.Proofs
def leI(a b:Item):Prop:=a.dx<b.dx∨(a.dx=b.dx∧a.mo<=b.mo)
instance (a b:Item):Decidable (leI a b):=by unfold leI;exact inferInstance
theorem rb(a:Item):leI a a:=by unfold leI;omega
theorem qj{a b c:Item}(h:leI a b)(f:leI b c):leI a c:=by unfold leI at*;omega
theorem leI_total{a b:Item}(h:¬leI a b):leI b a:=by unfold leI at*;omega
def it0:Item:=⟨⟨⟨0,0,0⟩,⟨0,0,0⟩⟩,0,0⟩
def at_(d:List Item)(i:Nat):Item:=d.getD i it0
theorem om{d:List Item}{i:Nat}{x:Item}(h:d[i]? =some x):at_ d i=x:=by
 unfold at_;rw [Eo,h];rfl
theorem cmp_or2(a b:Int):dC [a,b]=some (if a≠0 then a else b):=by
 unfold dC
 rw [show((0:Int))=((0:Nat):Int)from rfl,Sd.or_go (l:=[a,b]) (n:=0) (r:=[a,b]) zc za zc]
 by_cases h1:a=0
 ·by_cases f:b=0
  ·simp [h1,f]
  ·simp [h1,f]
 ·simp [h1]
theorem less_at{d:List Item}{i j:Int}(hi:0<=i∧i<d.length)(f:0<=j∧j<d.length):ky d i j=some (decide (¬leI (at_ d j.toNat) (at_ d i.toNat))):=by
 refine GS ?_
 unfold ky
 refine GR (GU hi.1 hi.2) (fun a q=>?_)
 refine GR (GU f.1 f.2) (fun b r=>?_)
 rw [Sd.lD,ze]
 refine GR (GU hi.1 hi.2) (fun u g=>?_)
 refine GR (GU f.1 f.2) (fun b' k=>?_)
 rw [Sd.lD,ze]
 obtain rfl:u=a:=E9 (g.2.symm.trans q.2)
 obtain rfl:b'=b:=E9 (k.2.symm.trans r.2)
 rw [cmp_or2,om q.2,om r.2]
 refine G1 ?_
 rw [decide_eq_decide]
 unfold leI sZ
 split<;>split<;>(try split)<;>(try split)<;>omega
theorem swap_at{d:List Item}{i j:Int}(hi:0<=i∧i<d.length)(f:0<=j∧j<d.length):
  Ok (kz i j d) (fun r=>r.Perm d∧∀k:Nat,at_ r k=if k=j.toNat then at_ d i.toNat else if k=i.toNat then at_ d j.toNat else at_ d k):=by
 unfold kz
 refine GR (G6 f.1 f.2) (fun _ _=>GR (GU f.1 f.2) (fun a q=>?_))
 refine GR (G6 hi.1 hi.2) (fun _ _=>GR (GU hi.1 hi.2) (fun b u=>?_))
 refine GR (G6 hi.1 hi.2) (fun _ _=>GR (G3 hi.1 hi.2) (fun e he=>?_))
 subst he
 refine GR (G6 f.1 (by simpa using f.2)) (fun _ _=>GR (G3 f.1 (by simpa using f.2)) (fun e he=>?_))
 subst he
 have h1:i.toNat<d.length:=by omega
 have B:j.toNat<d.length:=by omega
 have C:=om q.2
 have D:=om u.2
 obtain⟨_,rfl⟩:=List.getElem?_eq_some_iff.1 q.2
 obtain⟨_,rfl⟩:=List.getElem?_eq_some_iff.1 u.2
 refine G1 ⟨HH h1 B,fun k=>?_⟩
 split
 ·rename_i hk;subst hk
  rw [D];exact om (by rw [DV (by simpa using B)])
 ·rename_i hk
  split
  ·rename_i g;subst g
   rw [C];exact om (by rw [DU (Ne.symm hk),DV h1])
  ·rename_i g
   unfold at_
   rw [Eo,Eo,DU (Ne.symm hk),DU (Ne.symm g)]
def qy(d:List Item)(n:Nat):Prop:=∀i,0<i->i<n->leI (at_ d ((i-1) / 2)) (at_ d i)
theorem qy.root{d:List Item}{n:Nat}(h:qy d n):∀i,i<n->leI (at_ d 0) (at_ d i):=by
 intro i
 induction i using Nat.strongRecOn with
 |_ i g=>
  intro hi
  by_cases f:i=0
  ·subst f;exact rb _
  ·exact qj (g ((i-1) / 2) za za) (h i za hi)
theorem up_heap{q:ak}{a b:Int}{f:Bool}{l:ap}{d:List Item}{j:Int}(N:0<=j∧j<d.length)(Q:d.length<=1000)
  (h1:∀i,0<i->i<d.length->i≠j.toNat->leI (at_ d ((i-1) / 2)) (at_ d i)) (L:∀c,0<j.toNat->c<d.length->0<c->(c-1) / 2=j.toNat->leI (at_ d ((j.toNat-1) / 2)) (at_ d c)):
  Ok (oT j q a b f l d) (fun r=>r.Perm d∧qy r d.length):=by
 unfold oT
 refine GR (P:=fun o:List Item=>o.Perm d∧qy o d.length) (GV (fun s:Int×List Item=>(0<=s.1∧s.1<d.length)∧s.2.Perm d∧(∀i,0<i->i<d.length->i≠s.1.toNat->leI (at_ s.2 ((i-1) / 2)) (at_ s.2 i))∧(∀c,0<s.1.toNat->c<d.length->0<c->(c-1) / 2=s.1.toNat->leI (at_ s.2 ((s.1.toNat-1) / 2)) (at_ s.2 c))) (fun s=>s.1.toNat) ?_ ⟨N,List.Perm.refl _,h1,L⟩) (fun o ho=>G1 ho)
 rintro⟨s1,s2⟩ ⟨⟨i0,i1⟩,i2,i3,i4⟩
 simp only at i0 i1 i2 i3 i4
 have hlen:s2.length=d.length:=i2.length_eq
 unfold og
 dsimp only
 rw [w64 (n:=s1-1) za za]
 have e:tu .i64 (s1-1) 2=some (if s1=0 then 0 else(s1-1) / 2):=by
  unfold tu
  rw [if_neg za]
  split
  ·rename_i h;subst h;rfl
  ·rw [Fu za,w64 za za]
 rw [e,ze]
 refine G5 (fun he=>?_) (fun I=>?_)
 ·rw [ze]
  refine G4 ⟨i2,fun i k hi=>i3 i k hi ?_⟩
  split at he<;>omega
 have hp:s1≠0:=fun h=>I (by rw [if_pos h,h])
 rw [if_neg hp]
 have g:((s1-1) / 2).toNat=(s1.toNat-1) / 2:=by omega
 rw [less_at za za,ze]
 refine G8 (fun hf=>?_) (fun E=>?_)
 ·rw [ze]
  refine G4 ⟨i2,fun i k hi=>?_⟩
  by_cases h:i=s1.toNat
  ·subst h
   rw [<-g]
   simpa using hf
  ·exact i3 i k hi h
 ·have E:¬leI (at_ s2 ((s1-1) / 2).toNat) (at_ s2 s1.toNat):=by simpa using E
  have hle:=leI_total E
  rw [g]at hle
  refine GR (swap_at za za) (fun y⟨O,G⟩=>GX ⟨⟨zd,zd⟩,O.trans i2,?_,?_⟩ zd)
  ·simp only
   intro i k hi B
   rw [g]at B
   rw [G,G,g]
   by_cases u:i=s1.toNat
   ·subst u
    rw [if_pos rfl,if_neg za,if_pos rfl];exact hle
   ·rw [if_neg u,if_neg B]
    by_cases hc:(i-1) / 2=s1.toNat
    ·rw [if_pos hc]
     exact i4 i za hi k hc
    ·rw [if_neg hc]
     by_cases C:(i-1) / 2=(s1.toNat-1) / 2
     ·rw [if_pos C]
      have:=i3 i k hi u
      rw [C]at this
      exact qj hle this
     ·rw [if_neg C];exact i3 i k hi u
  ·simp only
   intro c k hc H F
   rw [g]at k F⊢
   rw [G,G,if_neg za,if_neg (by rw [g];omega),g]
   have J:=i3 ((s1.toNat-1) / 2) za za za
   by_cases D:c=s1.toNat
   ·rw [if_pos D];exact J
   ·rw [if_neg D,if_neg za]
    have K:=i3 c H hc D
    rw [F]at K
    exact qj J K
theorem down_heap{q:ak}{a b:Int}{f:Bool}{l:ap}{d:List Item}{n:Int}(O:0<=n∧n<d.length)(U:d.length<=1000)(h1:∀c,0<c->c<n.toNat->(c-1) / 2≠0->leI (at_ d ((c-1) / 2)) (at_ d c)):
  Ok (nM 0 n q a b f l d) (fun r=>(r.2.Perm d∧at_ r.2 n.toNat=at_ d n.toNat)∧qy r.2 n.toNat):=by
 unfold nM
 let I:Int×List Item->Prop:=fun s=>(0<=s.1∧s.1<=n)∧(s.2.Perm d∧at_ s.2 n.toNat=at_ d n.toNat)∧(∀c,0<c->c<n.toNat->(c-1) / 2≠s.1.toNat->leI (at_ s.2 ((c-1) / 2)) (at_ s.2 c))∧(∀c,0<s.1.toNat->0<c->c<n.toNat->(c-1) / 2=s.1.toNat->leI (at_ s.2 ((s.1.toNat-1) / 2)) (at_ s.2 c))
 let Q:Int×List Item->Prop:=fun o=>(o.2.Perm d∧at_ o.2 n.toNat=at_ d n.toNat)∧qy o.2 n.toNat
 refine GR (P:=Q) (GV I (fun s=>(n-s.1).toNat) ?_ ⟨⟨zc,O.1⟩,⟨List.Perm.refl _,rfl⟩,fun c k hc hp=>h1 c k hc hp,fun c k=>by simp at k⟩) (fun o ho=>G1 ho)
 rintro⟨s1,s2⟩ ⟨⟨i0,i1⟩,⟨i2,i3⟩,i4,i5⟩
 simp only at i0 i1 i2 i3 i4 i5
 have hlen:s2.length=d.length:=i2.length_eq
 unfold ot
 dsimp only
 rw [w64 (n:=2*s1) za za,w64 (n:=2*s1+1) za za,w64 (n:=2*s1+1+1) za za]
 refine GY (fun L=>G4 ⟨⟨i2,i3⟩,fun c k hc=>i4 c k hc za⟩) (fun H=>GY (fun _=>za) (fun _=>?_))
 have K:∀j:Int,(j=2*s1+1∨j=2*s1+2)->j<n->(∀c,0<c->c<n.toNat->(c-1) / 2=s1.toNat->leI (at_ s2 j.toNat) (at_ s2 c))->Ok (f9 s2 s1 j) (Ok.S I (fun s=>(n-s.1).toNat) Q (s1,s2)):=fun j W N C=>by
  unfold f9
  rw [less_at za za,ze]
  refine G8 (fun hf=>G4 ⟨⟨i2,i3⟩,fun c k hc=>?_⟩) (fun u=>?_)
  ·have hf:leI (at_ s2 s1.toNat) (at_ s2 j.toNat):=by simpa using hf
   by_cases g:(c-1) / 2=s1.toNat
   ·rw [g];exact qj hf (C c k hc g)
   ·exact i4 c k hc g
  ·have u:¬leI (at_ s2 s1.toNat) (at_ s2 j.toNat):=by simpa using u
   have hle:=leI_total u
   refine GR (swap_at za za) (fun y⟨T,F⟩=>GX ⟨⟨zd,zd⟩,⟨T.trans i2,?_⟩,?_,?_⟩ zd)
   ·simp only
    rw [F,if_neg za,if_neg za];exact i3
   ·simp only
    intro c k hc g
    rw [F,F]
    by_cases E:c=j.toNat
    ·rw [if_pos E,if_neg za,if_pos za];exact hle
    rw [if_neg E,if_neg g]
    by_cases B:(c-1) / 2=s1.toNat
    ·rw [if_pos B,if_neg za];exact C c k hc B
    rw [if_neg B]
    by_cases D:c=s1.toNat
    ·rw [if_pos D]
     have:=i5 j.toNat za za za za
     rw [D];exact this
    ·rw [if_neg D];exact i4 c k hc B
   ·simp only
    intro c k G hc g
    rw [F,F,if_neg za,if_pos za,if_neg za,if_neg za]
    have:=i4 c G hc za
    rw [g]at this;exact this
 have two:∀c,0<c->(c-1) / 2=s1.toNat->c=(2*s1+1).toNat∨c=(2*s1+1+1).toNat:=fun c k hc=>by omega
 refine GY (fun J => ?_) (fun J => K _ (.inl rfl) za (fun c k hc g => by
  rcases two c k g with h|h
  ·rw [h];exact rb _
  ·omega))
 rw [less_at za za,ze]
 refine G9 (fun u=>?_) (fun hf=>?_)
 ·have u:¬leI (at_ s2 (2*s1+1).toNat) (at_ s2 (2*s1+1+1).toNat):=by simpa using u
  exact K _ (.inr za) za (fun c k hc g => by
   rcases two c k g with h|h
   ·rw [h];exact leI_total u
   ·rw [h];exact rb _)
 ·have hf:leI (at_ s2 (2*s1+1).toNat) (at_ s2 (2*s1+1+1).toNat):=by simpa using hf
  exact K _ (.inl rfl) za (fun c k hc g => by
   rcases two c k g with h|h
   ·rw [h];exact rb _
   ·rw [h];exact hf)
theorem at_take{d:List Item}{n i:Nat}(h:i<n):at_ (d.take n) i=at_ d i:=by
 unfold at_
 rw [Eo,Eo,List.getElem?_take,if_pos h]
theorem pop_heap{q:ak}{a b:Int}{f:Bool}{l:ap}{x:Item}{d:List Item}(G:(x::d).length<=1000)(H:qy (x::d) (d.length+1)):Ok (nR q a b f l (x::d)) (fun r=>r.2.Perm d∧qy r.2 d.length):=by
 have hlen:((x::d).length:Int)=d.length+1:=by simp
 simp only [DW]at G
 unfold nR jL
 rw [ze]
 rw [hlen,w64 (n:=(d.length:Int)+1-1) za za]
 refine GR (swap_at za za) (fun y⟨B,u⟩=>?_)
 have J:y.length=d.length+1:=by have:=B.length_eq;simpa using this
 have j:((d.length:Int)+1-1).toNat=d.length:=by omega
 refine GR (down_heap za za (fun c k hc hp=>?_)) (fun z⟨⟨C,z2⟩,z3⟩=>?_)
 ·rw [j]at hc
  rw [u,u,j,if_neg za,if_neg (by simpa using hp),if_neg za,if_neg so]
  exact H c k za
 have K:z.2.length=d.length+1:=by rw [C.length_eq,J]
 unfold ql
 rw [K,w64 (n:=((d.length+1:Nat):Int)-1) za za]
 refine GR (P:=fun r:Item×List Item=>r.2.Perm d∧qy r.2 d.length) ?_ (fun r I=>G1 I)
 refine GR (G6 za za) (fun _ _=>GR (GU za za) (fun w _=>?_))
 refine GR (Gc za za za) (fun _ _=>G1 ?_)
 simp only
 rw [show(((d.length+1:Nat):Int)-1).toNat=d.length by omega]
 rw [j]at z2 z3
 have e:at_ z.2 d.length=x:=by
  rw [z2,u,j,if_pos rfl];rfl
 have g:d.length<z.2.length:=by omega
 have e:z.2[d.length]=x:=by rw [<-om (zf g)];exact e
 have D:z.2=z.2.take d.length++[x]:=by
  conv=>lhs;rw [<-HP d.length z.2]
  rw [Fz g,e,Gg za]
 have E:(z.2.take d.length++[x]).Perm (x::d):=by rw [<-D];exact C.trans B
 have F:(x::z.2.take d.length).Perm (x::d):=(HA (l₁:=[x])).trans E
 refine⟨(HC x).1 F,fun i k hi=>?_⟩
 rw [at_take za,at_take hi]
 exact z3 i k hi
theorem at_snoc{d:List Item}{x:Item}{i:Nat}(h:i<d.length):at_ (d++[x]) i=at_ d i:=by
 unfold at_
 rw [Eo,Eo,List.getElem?_append_left h]
theorem push_heap{q:ak}{a b:Int}{f:Bool}{l:ap}{x:Item}{d:List Item}(F:d.length<=500)(C:qy d d.length):Ok (lP x q a b f l d) (fun r=>r.Perm (x::d)∧qy r (d.length+1)):=by
 unfold lP oh jL
 refine GR (P:=fun r=>r=d++[x]) (GR (GQ (by simp only [DW,DX];omega)) (fun r g=>G1 g)) (fun y E=>?_)
 subst E
 rw [ze]
 have hl:((d++[x]).length:Int)=d.length+1:=by simp
 have j:(d++[x]).length=d.length+1:=by simp
 rw [hl,w64 za za]
 refine GR (up_heap za so (fun i k hi D=>?_) (fun c k hc u B=>?_)) (fun r g=>G1 ⟨g.1.trans (HA (l₂:=[x])),by rw [<-j];exact g.2⟩)
 ·have:i<d.length:=by omega
  rw [at_snoc za,at_snoc this]
  exact C i k this
 ·omega
theorem push1_heap{q:ak}{a b:Int}{f:Bool}{l:ap}{x:Item}:Ok (mR x q a b f l) (fun r=>r.Perm [x]∧qy r 1):=by
 unfold mR oX jL
 refine GR (P:=fun r=>r=[x]) (GR (GQ zc) (fun r g=>G1 g)) (fun y j=>?_)
 subst j
 rw [ze]
 rw [w64 zc zc]
 exact GR (up_ok zc zc) (fun r g=>G1 ⟨g,fun i k hi=>za⟩)
end Go.Dw.Re
set_option maxRecDepth 100000
set_option maxHeartbeats 4000000
namespace Go.Dw.Re
open Go.Dw Go.Proofs
abbrev In(b:al)(p:ag):Prop:=Sub b ⟨p,p⟩
theorem center_at{r b:al}(q:gM r)(hp:fN 20 r.bt)(h:Sub r b):Ok (gJ b) (fun p=>In b p∧(pts b<2->∀x,In b x->x=p)):=by
 have f:=h.ok q hp
 obtain⟨⟨G,H,I⟩,h1,B,C⟩:=nB f
 obtain⟨-,s1,s2,T⟩:=id f
 obtain⟨x,y,z⟩:=h
 unfold gJ bX b9
 rw [eJ f,ze,if_neg zc,ze,ze]
 simp only
 rw [nr za,ze,nr za,ze,nr za,ze]
 refine G1 ⟨⟨zd,zd,zd⟩,fun k p g=>?_⟩
 have one:∀{a b c:Int},1<=a->1<=b->1<=c->a*b*c<2->a=1∧b=1∧c=1:=by
  intro a b c j f hc h
  have u:1<=a*b:=by have:=Fi j f za (by omega:(0:Int)<=a);omega
  have D:a*b<=a*b*c:=by have:=HT hc (by omega:0<=a*b);omega
  have k3:c<=a*b*c:=by have:=HV u (by omega:0<=c);omega
  have E:a<=a*b:=by have:=HT f (by omega:0<=a);omega
  have F:b<=a*b:=by have:=HV j (by omega:0<=b);omega
  omega
 obtain⟨J,K,L⟩:=one (a:=b.bd.fX-b.bt.fX+1) (b:=b.bd.fY-b.bt.fY+1) (c:=b.bd.fZ-b.bt.fZ+1) za za za k
 obtain⟨N,O,Q⟩:=p
 obtain⟨i1,i2,i3⟩:=g
 simp only at i1 i2 i3
 congr 1<;>omega
theorem split_cover{r b:al}(F:gM r)(hp:fN 20 r.bt)(h:Sub r b):Ok (fo b) (fun s=>(s.2.2=true->(Sub r s.1∧Sub r s.2.1∧pts s.1+pts s.2.1=pts b)∧∀p,In b p->In s.1 p∨In s.2.1 p)∧(s.2.2=false->pts b<2)):=by
 have K:=split_ok F hp h
 have q:=h.ok F hp
 obtain⟨⟨O,Q,T⟩,h1,j,N⟩:=nB q
 have B:=points_at q
 obtain⟨-,s1,s2,U⟩:=id q
 obtain⟨x,y,z⟩:=h
 suffices hs:Ok (fo b) (fun s=>(s.2.2=true->∀p,In b p->In s.1 p∨In s.2.1 p)∧(s.2.2=false->pts b<2))by
  obtain⟨s,e,k⟩:=hs
  obtain⟨s',D,k'⟩:=K
  rw [e]at D;cases D
  exact⟨s,e,fun G=>⟨k' G,k.1 G⟩,k.2⟩
 unfold fo bX b9
 rw [B,ze]
 refine GY (fun u=>G1 ⟨zc,fun _=>u⟩) (fun L=>?_)
 have E:=one_side (x:=b.bd.fX-b.bt.fX+1) (y:=b.bd.fY-b.bt.fY+1) (z:=b.bd.fZ-b.bt.fZ+1) za za za (by unfold pts at L;omega)
 simp only [ze]
 rw [w64 (n:=b.bd.fX-b.bt.fX) za za,w64 (n:=b.bd.fY-b.bt.fY) za za,w64 (n:=b.bd.fZ-b.bt.fZ) za za]
 have I:2<=b.bd.fX-b.bt.fX+1->Ok ((ct b.bt.fX b.bd.fX).bind fun g=>some (al.mk b.bt (ag.mk g b.bd.fY b.bd.fZ),al.mk (ag.mk (FN .i64 (g+(1:Int))) b.bt.fY b.bt.fZ) b.bd,true)) (fun s:al×al×Bool=>(s.2.2=true->∀p,In b p->In s.1 p∨In s.2.1 p)∧(s.2.2=false->pts b<2)):=fun j=>by
  rw [nr za,ze,w64 za za]
  refine G1 ⟨fun _ p⟨i1,i2,i3⟩=>?_,zc⟩
  simp only at i1 i2 i3
  rcases HR (b.bt.fX+(b.bd.fX-b.bt.fX) / 2) p.fX with h|h
  ·right;exact⟨zd,zd,zd⟩
  ·left;exact⟨zd,zd,zd⟩
 have J:2<=b.bd.fY-b.bt.fY+1->Ok ((ct b.bt.fY b.bd.fY).bind fun f=>some (al.mk b.bt (ag.mk b.bd.fX f b.bd.fZ),al.mk (ag.mk b.bt.fX (FN .i64 (f+(1:Int))) b.bt.fZ) b.bd,true)) (fun s:al×al×Bool=>(s.2.2=true->∀p,In b p->In s.1 p∨In s.2.1 p)∧(s.2.2=false->pts b<2)):=fun j=>by
  rw [nr za,ze,w64 za za]
  refine G1 ⟨fun _ p⟨i1,i2,i3⟩=>?_,zc⟩
  simp only at i1 i2 i3
  rcases HR (b.bt.fY+(b.bd.fY-b.bt.fY) / 2) p.fY with h|h
  ·right;exact⟨zd,zd,zd⟩
  ·left;exact⟨zd,zd,zd⟩
 have C:2<=b.bd.fZ-b.bt.fZ+1->Ok ((ct b.bt.fZ b.bd.fZ).bind fun H=>some (al.mk b.bt (ag.mk b.bd.fX b.bd.fY H),al.mk (ag.mk b.bt.fX b.bt.fY (FN .i64 (H+(1:Int)))) b.bd,true)) (fun s:al×al×Bool=>(s.2.2=true->∀p,In b p->In s.1 p∨In s.2.1 p)∧(s.2.2=false->pts b<2)):=fun j=>by
  rw [nr za,ze,w64 za za]
  refine G1 ⟨fun _ p⟨i1,i2,i3⟩=>?_,zc⟩
  simp only at i1 i2 i3
  rcases HR (b.bt.fZ+(b.bd.fZ-b.bt.fZ) / 2) p.fZ with h|h
  ·right;exact⟨zd,zd,zd⟩
  ·left;exact⟨zd,zd,zd⟩
 exact GY (fun _=>GY (fun _=>C za) (fun _=>J za)) (fun _=>GY (fun _=>C za) (fun _=>I za))
structure Op(q:ak)(d:List Item):Prop where
 sub:nw q.bn d
 bound:∀x∈d,x.dx=bnd q x.mI
 heap:qy d d.length
structure Bst(q:ak)(l:ap):Prop where
 inn:In q.bn l.bM
 val:jK q l.bM=some (l.bS,l.b8,0)
def Cover(q:ak)(f:Bool)(l:ap)(d:List Item):Prop:=∀p,In q.bn p->(∃x∈d,In x.mI p)∨(f=true∧l.b8<=mis q p)
theorem bst_mis{q:ak}(f:PV q){l:ap}(h:Bst q l):l.b8=mis q l.bM:=by
 obtain⟨t,e, -⟩:=pL f h.inn
 rw [h.val]at e
 exact(Prod.mk.inj (Prod.mk.inj (E9 e)).2).1
theorem add_at{q:ak}(C:PV q){b:al}(u:Sub q.bn b){n k:Int}{f:Bool}{l:ap}{d:List Item}(B:d.length<=500)(ho:Op q d):Ok (kF b q n k f l d) (fun r=>r.1=0∧Op q r.2.2∧∃x:Item,x.mI=b∧r.2.2.Perm (x::d)):=by
 unfold kF mF
 rw [(bnd_at C u).1,ze]
 refine G5 (fun _=>?_) (fun h=>(h rfl).elim)
 refine GR (push_heap B ho.heap) (fun r⟨g,D⟩=>G1 ⟨rfl,⟨fun x j=>?_,fun x j=>?_,?_⟩,_,rfl,g⟩)
 ·rcases List.mem_cons.1 (g.mem_iff.1 j)with rfl|h
  ·exact u
  ·exact ho.sub x h
 ·rcases List.mem_cons.1 (g.mem_iff.1 j)with rfl|h
  ·rfl
  ·exact ho.bound x h
 ·have:r.length=d.length+1:=by rw [g.length_eq];rfl
  show qy r r.length
  rw [this];exact D
theorem add1_at{q:ak}(B:PV q){b:al}(u:Sub q.bn b){n k:Int}{f:Bool}{l:ap}:Ok (mY b q n k f l) (fun r=>r.1=0∧Op q r.2.1∧∃x:Item,x.mI=b∧r.2.1.Perm [x]):=by
 unfold mY nh
 rw [(bnd_at B u).1,ze]
 refine G5 (fun _=>?_) (fun h=>(h rfl).elim)
 refine GR push1_heap (fun r⟨g,C⟩=>G1 ⟨rfl,⟨fun x j=>?_,fun x j=>?_,?_⟩,_,rfl,g⟩)
 ·rw [List.mem_singleton.1 (g.mem_iff.1 j)];exact u
 ·rw [List.mem_singleton.1 (g.mem_iff.1 j)]
 ·have:r.length=1:=by rw [g.length_eq];rfl
  show qy r r.length
  rw [this];exact C
theorem look_at{q:ak}(I:PV q){b:al}(E:Sub q.bn b){n k:Int}{f:Bool}{l:ap}{d:List Item}(hf:f=true->Bst q l):
  Ok (lY b q n k f l d) (fun r=>r.1=0∧r.2.1=true∧Bst q r.2.2∧(f=true->r.2.2.b8<=l.b8)∧(pts b<2->∀p,In b p->r.2.2.b8<=mis q p)):=by
 unfold lY
 refine GR (center_at I.box I.reg E) (fun p⟨hp,D⟩=>?_)
 obtain⟨t,e, -⟩:=pL I (E.trans hp)
 have B:∀(g:pts b<2)x,In b x->mis q p=mis q x:=fun g x j=>by rw [D g x j]
 rw [e,ze]
 refine G2 (fun h=>(h rfl).elim) (fun _=>?_)
 have F:Bst q (ap.mk p t (mis q p) 0 (al.mk (ag.mk 0 0 0) (ag.mk 0 0 0))):=⟨E.trans hp,e⟩
 refine G8 (fun C=>G1 ⟨rfl,rfl,F,fun h=>by rw [h]at C;simp at C,fun g x j=>by rw [B g x j];exact Fb _⟩) (fun u=>?_)
 refine GY (fun H=>G1 ⟨rfl,rfl,F,fun _=>by simp only at H⊢;omega,fun g x j=>by rw [B g x j];exact Fb _⟩) (fun G=>?_)
 have dE:l.b8<=mis q p:=by simp only at G;omega
 refine G5 (fun heq=>?_) (fun _=>G1 ⟨rfl,u,hf u,fun _=>Fb _,fun g x j=>by rw [<-B g x j];exact dE⟩)
 exact GR (compare_ok _ _) (fun c _=>GY (fun _=>G1 ⟨rfl,rfl,F,fun _=>by simp only at heq⊢;omega,fun g x j=>by rw [B g x j];exact Fb _⟩) (fun _=>G1 ⟨rfl,u,hf u,fun _=>Fb _,fun g x j=>by rw [<-B g x j];exact dE⟩))
theorem ended_at{t:Int}{q:ak}{n k:Int}{f:Bool}{l:ap}{d:List Item}(hs:∀x∈d,0<=x.dx∧x.dx<=1000000)(hl:f=true->0<=l.b8∧l.b8<=1000000):
  Ok (k7 t q n k f l d) (fun r=>(r=false->d≠ [])∧(r=true->d=[]∨f=true∧l.b8-(at_ d 0).dx<=t)):=by
 unfold k7
 refine G5 (fun h=>G1 ⟨fun h=>by simp at h,fun _=>.inl (List.length_eq_zero_iff.1 za)⟩) (fun h=>?_)
 have g:d≠ []:=fun e=>h (by rw [e];rfl)
 have:=List.length_pos_iff.2 g
 refine G9 (fun hf=>?_) (fun _=>G1 ⟨fun _=>g,fun h=>by simp at h⟩)
 refine GR (G6 za za) (fun _ _=>GR (GU za za) (fun x j=>G1 ⟨fun _=>g,fun h=>.inr ⟨hf,?_⟩⟩))
 have h1:=hs x j.1
 have u:=hl hf
 have e:at_ d 0=x:=om j.2
 rw [w64 za za]at h
 rw [e];simpa using h
theorem bnd_range{q:ak}(f:PV q){b:al}(h:Sub q.bn b):0<=bnd q b∧bnd q b<=1000000:=by
 obtain⟨-,t,h1,j, -⟩:=bnd_at f h
 simp only at h1 j
 have hl:=f.len;have hc:=f.cap
 have up:∀(ps:List aw)(zs:List bz),(∀a∈ps,a.cz=1)->cC q.dw ps zs t<=1000*ps.length:=by
  intro ps
  induction ps with
  |nil=>intro zs _;simp [cC]
  |cons a ps u=>
   intro zs hw
   cases zs with
   |nil=>simp [cC];omega
   |cons z zs=>
    have k:=u zs (fun x r=>hw x (by simp [r]))
    show jW q.dw a.cz z t+cC q.dw ps zs t<=_
    have:jW q.dw a.cz z t<=1000:=by unfold jW;rw [hw a zc,HW];omega
    simp only [DW];omega
 have:=up q.bK (q.bK.map (zn q b)) (fun a g=>(f.ph a g).1.weight)
 have:=oR (cap:=q.dw) za (t:=t) q.bK (q.bK.map (zn q b)) (fun a g=>by have:=(f.ph a g).1.weight;omega)
 omega
theorem mis_bnd{q:ak}(f:PV q){p:ag}(h:In q.bn p):mis q p=bnd q ⟨p,p⟩:=by
 obtain⟨-,t,h1,k,g⟩:=bnd_at f h
 obtain⟨u, -,j,r,k3⟩:=pL f h
 have:=g _ j
 have:=k3 _ h1
 simp only at*
 omega
theorem mis_range{q:ak}(f:PV q){p:ag}(h:In q.bn p):0<=mis q p∧mis q p<=1000000:=by
 rw [mis_bnd f h];exact bnd_range f h
theorem step_at{q:ak}(j:PV q){n k:Int}{f:Bool}{l:ap}{d:List Item}(T:d≠ [])(ho:Op q d)(hk:0<=k∧k+cnt d<=300)(hf:f=true->Bst q l)(hc:Cover q f l d):
  Ok (lZ q n k f l d) (fun r=>r.1=0∧r.2.2.1=k+1∧r.2.2.2.1=true∧Bst q r.2.2.2.2.1∧Op q r.2.2.2.2.2∧Cover q true r.2.2.2.2.1 r.2.2.2.2.2∧k+1+cnt r.2.2.2.2.2<=k+cnt d):=by
 match d,T with
 |x::d,_=>
  have hlen:=cnt_len j ho.sub
  have L:=ho.sub x zc
  have H:nw q.bn d:=fun y B=>ho.sub y (GH _ B)
  have U:=pts_in (L.ok j.box j.reg)
  simp only [DW]at hlen
  unfold lZ
  refine G5 (fun h=>za) (fun _=>?_)
  refine GR (G6 za zc) (fun _ _=>?_)
  rw [show nZ (x::d) (0:Int)=some x from rfl,ze]
  refine GR (pop_heap (by simp only [DW];omega) (by simpa using ho.heap)) (fun y⟨B,N⟩=>?_)
  have D:y.2.length=d.length:=B.length_eq
  have E:Op q y.2:=⟨H.perm B,fun w hw=>ho.bound w (GH _ (B.mem_iff.1 hw)),by rw [D];exact N⟩
  have X:cnt y.2=cnt d:=nk B
  have G:cnt (x::d)=(2*pts x.mI-1)+cnt d:=rfl
  rw [w64 za za]
  refine GR (look_at j L hf) (fun z⟨z1,z2,z3,z4,z5⟩=>?_)
  refine G2 (fun h=>(h z1).elim) (fun _=>?_)
  have C:∀p,In q.bn p->(∃w∈y.2,In w.mI p)∨z.2.2.b8<=mis q p∨In x.mI p:=fun p hp=>by
   rcases hc p hp with⟨w,hw,g⟩|⟨h1,Q⟩
   ·rcases List.mem_cons.1 hw with rfl|hw
    ·exact .inr (.inr g)
    ·exact .inl ⟨w,B.mem_iff.2 hw,g⟩
   ·exact .inr (.inl (Fe (z4 h1) Q))
  refine GR (split_cover j.box j.reg L) (fun s⟨hs,J⟩=>?_)
  refine G8 (fun I=>G1 ⟨rfl,rfl,z2,z3,E,fun p hp=>?_,zd⟩) (fun K=>?_)
  ·rcases C p hp with h|h|h
   ·exact .inl h
   ·exact .inr ⟨rfl,h⟩
   ·exact .inr ⟨rfl,z5 (J I) p h⟩
  obtain⟨⟨s1,s2,s3⟩,Y⟩:=hs K
  refine GR (add_at j s1 za E) (fun u⟨u1,uo,a,O,up⟩=>?_)
  refine G2 (fun h=>(h u1).elim) (fun _=>?_)
  have W:u.2.2.length=d.length+1:=by rw [up.length_eq];simp [D]
  refine GR (add_at j s2 za uo) (fun v⟨v1,vo,b,vb,F⟩=>G1 ⟨v1,rfl,z2,z3,vo,fun p hp=>?_,?_⟩)
  ·simp only
   rcases C p hp with⟨w,hw,g⟩|h|h
   ·exact .inl ⟨w,F.mem_iff.2 (GH _ (up.mem_iff.2 (GH _ hw))),g⟩
   ·exact .inr ⟨trivial,h⟩
   ·rcases Y p h with h|h
    ·exact .inl ⟨a,F.mem_iff.2 (GH _ (up.mem_iff.2 zc)),by rw [O];exact h⟩
    ·exact .inl ⟨b,F.mem_iff.2 zc,by rw [vb];exact h⟩
  ·simp only
   rw [nk F,G]
   simp only [cnt]
   rw [nk up]
   simp only [cnt]
   rw [O,vb];omega
structure Fin(q:ak)(t:Int)(l:ap)(d:List Item):Prop where
 best:Bst q l
 opens:Op q d
 len:d.length<=300
 cover:Cover q true l d
 near:d=[]∨l.b8-(at_ d 0).dx<=t
theorem run_at{q:ak}(f:PV q){t:Int}(Q:0<=t):Ok (kq q t) (fun r=>r.2=0∧∃s,r.1=some s∧Fin q t s.cu s.mp):=by
 have F:=pts_in f.box
 unfold kq
 rw [oi f,ze,if_neg zc,if_neg so]
 refine GR (add1_at f (Sub.refl f.box)) (fun x⟨N,O,a,D,E⟩=>?_)
 refine G2 (fun h=>(h N).elim) (fun _=>?_)
 have j:cnt x.2.1=2*pts q.bn-1:=by rw [nk E];simp only [cnt];rw [D];omega
 refine GR (P:=fun o=>∃y,o= .inl y∧Fin q t y.2.2.2.2 y.1) (GV (fun s:Int×Int×Bool×ap×List Item=>(0<=s.2.1∧s.2.1+cnt s.2.2.2.2<=300)∧Op q s.2.2.2.2∧(s.2.2.1=true->Bst q s.2.2.2.1)∧(s.2.2.2.2=[]->s.2.2.1=true)∧Cover q s.2.2.1 s.2.2.2.1 s.2.2.2.2) (fun s=>(300-s.2.1).toNat) ?_ ⟨⟨zc,zd⟩,O,zc,fun h=>?_,fun p hp=>.inl ⟨a,E.mem_iff.2 zc,by rw [D];exact hp⟩⟩) (fun o⟨y,ho,h1⟩=>by subst ho;exact G1 ⟨rfl,_,rfl,h1⟩)
 ·rintro⟨W,X,L,Y,K⟩ ⟨⟨i0,i1⟩,i2,i3,i4,i5⟩
  simp only at i0 i1 i2 i3 i4 i5
  have hl:=cnt_len f i2.sub
  unfold mu
  dsimp only
  refine GR (ended_at (fun x B=>by rw [i2.bound x B];exact bnd_range f (i2.sub x B)) (fun hf=>by rw [bst_mis f (i3 hf)];exact mis_range f (i3 hf).inn)) (fun e he=>?_)
  refine G8 (fun k=>?_) (fun het=>G4 ⟨_,rfl,?_⟩)
  ·have g:=he.1 k
   have:=List.length_pos_iff.2 g
   refine GR (step_at f g i2 ⟨i0,i1⟩ i3 i5) (fun r⟨G,T,C,H,I,J,U⟩=>?_)
   refine G2 (fun h=>(h G).elim) (fun _=>?_)
   exact GX ⟨⟨zd,zd⟩,I,fun _=>H,fun _=>C,by simp only;rw [C];exact J⟩ zd
  ·have u:L=true:=by
    rcases he.2 het with h|h
    ·exact i4 h
    ·exact h.1
   subst u
   refine⟨i3 rfl,i2,zd,i5,?_⟩
   rcases he.2 het with h|h
   ·exact .inl h
   ·exact .inr h.2
 ·simp only at h
  rw [h]at j
  simp only [cnt]at j;omega
structure Least(q:ak)(t:Int)(l:ap):Prop where
 inn:In q.bn l.bM
 val:jK q l.bM=some (l.bS,l.b8,0)
 lower:∀p,In q.bn p->l.mn<=mis q p
 near:∀p,In q.bn p->l.b8-t<=mis q p
theorem locate_least{q:ak}(g:PV q){t:Int}(F:0<=t):Ok (dK q t) (fun r=>r.2=0∧Least q t r.1):=by
 unfold dK
 refine GR (run_at g F) (fun x⟨J,s,xs,⟨⟨g1,g2⟩,ho,hs,hc,B⟩⟩=>?_)
 rw [xs]
 show Ok (if(x.2 != (0:Int))=true then _ else _) _
 refine G2 (fun h=>(h J).elim) (fun _=>?_)
 refine GR (P:=fun o:Int×al=>o.1<=s.cu.b8∧∀x∈s.mp,o.1<=x.dx) (GV (fun u:Int×Int×al=>(0<=u.1∧u.1<=s.mp.length)∧Sub q.bn u.2.2∧u.2.1<=s.cu.b8∧∀(i:Nat)x,s.mp[i]? =some x->i<u.1.toNat->u.2.1<=x.dx) (fun u=>((s.mp.length:Int)-u.1).toNat) ?_ ⟨⟨zc,zc⟩,g1,Fb _,fun i x _ hi=>by simp at hi⟩) (fun o⟨K,I⟩=>G1 ⟨rfl,g1,g2,fun p hp=>?_,fun p hp=>?_⟩)
 ·rintro⟨u1,u2,L⟩ ⟨⟨i0,i1⟩,i2,i3,i4⟩
  simp only at i0 i1 i2 i3 i4
  unfold mr
  refine GY (fun E=>?_) (fun _=>G4 ⟨i3,fun x j=>?_⟩)
  rotate_left
  ·obtain⟨i,hi,rfl⟩:=Gs j
   exact i4 i _ (zf hi) za
  refine GR (GU za za) (fun y C=>?_)
  rw [w64 za za]
  have k:∀(i:Nat)x,s.mp[i]? =some x->i<(u1+1).toNat->(if y.dx<u2 then y.dx else u2)<=x.dx:=fun i x j hi=>by
   rcases HX i u1.toNat with h|h
   ·have:=i4 i x j h
    split<;>omega
   ·have:i=u1.toNat:=by omega
    subst this
    rw [C.2]at j;cases j
    split<;>omega
  have low:(if y.dx<u2 then y.dx else u2)<=s.cu.b8:=by split<;>omega
  refine GY (fun _=>?_) (fun _=>GX ⟨⟨zd,zd⟩,i2,low,k⟩ zd)
  exact GR (hull_ok g.box g.reg i2 (ho.sub y C.1)) (fun z G=>GX ⟨⟨zd,zd⟩,G,low,k⟩ zd)
 ·simp only
  rcases hc p hp with⟨w,hw,f⟩|⟨-,h⟩
  ·have:=I w hw
   rw [ho.bound w hw]at this
   exact Fe this (bnd_le g (ho.sub w hw) f)
  ·omega
 ·simp only
  rcases hc p hp with⟨w,hw,f⟩|⟨-,h⟩
  ·have H:=bnd_le g (ho.sub w hw) f
   rw [<-ho.bound w hw]at H
   obtain⟨i,hi,rfl⟩:=Gs hw
   have D:=ho.heap.root i hi
   rw [om (zf hi)]at D
   rcases B with B|B
   ·rw [B]at hi;simp at hi
   ·have:(at_ s.mp 0).dx<=(s.mp[i]).dx:=by unfold leI at D;omega
    omega
  ·omega
end Go.Dw.Re
namespace Go.Dw
def Lnk(nx bk:List Int):List Nat->Prop
 |a::b::r=>(nx[a]? =some (b:Int)∧bk[b]? =some (a:Int))∧Lnk nx bk (b::r)
 |_=>True
theorem Lnk.congr{nx bk g f:List Int}:∀{l:List Nat},Lnk nx bk l->(∀x∈l.dropLast,g[x]? =nx[x]?)->(∀x∈l.tail,f[x]? =bk[x]?)->Lnk g f l
 |a::b::r,⟨⟨h1,u⟩,B⟩,q,k=>by
  refine⟨⟨by rw [q a (by simp [Ge]),h1],by rw [k b zc,u]⟩,B.congr (fun x j=>q x ?_) (fun x j=>k x ?_)⟩
  ·simp only [Ge];exact GH _ j
  ·simp only [HK]at j⊢;exact GH _ j
 | [],_,_,_=>trivial
 | [_],_,_,_=>trivial
theorem qz{nx bk:List Int}{a:Nat}{m:List Nat}:∀{l:List Nat},Lnk nx bk (l++a::m)↔Lnk nx bk (l++[a])∧Lnk nx bk (a::m)
 | []=>by simp [Lnk]
 | [b]=>by simp [Lnk]
 |b::c::l=>by
  have:=qz (nx:=nx) (bk:=bk) (a:=a) (m:=m) (l:=c::l)
  simp only [En,Lnk]at this⊢
  rw [this]
  simp only [and_assoc]
theorem has_last{l:List Nat}(h:l≠ []):∃m p,l=m++[p]:=⟨l.dropLast,l.getLast h,(List.dropLast_concat_getLast h).symm⟩
theorem Lnk.remove{nx bk:List Int}{e i:Nat}{A B:List Nat}(h:Lnk nx bk (e::(A++i::B)++[e]))(J:(e::(A++i::B)).Nodup):
  ∃p q:Nat,bk[i]? =some (p:Int)∧nx[i]? =some (q:Int)∧p∈e::(A++B)∧q∈e::(A++B)∧Lnk (nx.set p (q:Int)) (bk.set q (p:Int)) (e::(A++B)++[e]):=by
 obtain⟨m,p,hp⟩:=has_last (l:=e::A) zc
 obtain⟨q,n,j⟩:∃q n,B++[e]=q::n:=by
  cases B with
  |nil=>exact⟨e,[],rfl⟩
  |cons b B=>exact⟨b,B++[e],rfl⟩
 have L:e::(A++i::B)++[e]=(m++[p])++i::q::n:=by rw [<-hp, <-j];simp
 have N:Lnk nx bk (m++p::i::q::n):=by rw [L]at h;simpa using h
 obtain⟨h1,O⟩:=qz.1 N
 obtain⟨⟨a1,a2⟩,⟨a3,a4⟩,Q⟩:=O
 have k:p∈e::A:=by rw [hp];simp
 have r:q∈B++[e]:=by rw [j];simp
 rw [Eb,Ez]at J
 obtain⟨d1,K,I,C⟩:=J
 rw [Eb]at I
 have D:(m++[p]).Nodup:=by
  rw [<-hp,Eb]
  exact⟨fun g=>d1 (List.mem_append.2 (.inl g)),K⟩
 have H:p∉m:=fun g=>by
  rw [Ez]at D
  exact D.2.2 p g p zc rfl
 have e2:e::(A++B)++[e]=m++p::q::n:=by
  have:e::(A++B)++[e]=(e::A)++(B++[e]):=by simp
  rw [this,hp,j];simp
 refine⟨p,q,a2,a3,?_,?_,?_⟩
 ·rcases List.mem_cons.1 k with h|h
  ·exact List.mem_cons.2 (.inl h)
  ·exact List.mem_cons.2 (.inr (List.mem_append.2 (.inl h)))
 ·rcases List.mem_append.1 r with h|h
  ·exact List.mem_cons.2 (.inr (List.mem_append.2 (.inr h)))
  ·exact List.mem_cons.2 (.inl (List.mem_singleton.1 h))
 rw [e2,qz]
 have F:p<nx.length:=(List.getElem?_eq_some_iff.1 a1).1
 have G:q<bk.length:=(List.getElem?_eq_some_iff.1 a4).1
 have E:∀x,x∈(m++[p]).tail->x∈A:=by
  intro x f;rw [<-hp]at f;exact f
 refine⟨h1.congr (fun x f=>?_) (fun x f=>?_),?_⟩
 ·rw [Gf]at f
  exact DU fun g=>H (by rw [g];exact f)
 ·have u:=E x f
  refine DU fun g=>?_
  rw [g]at r
  rcases List.mem_append.1 r with h|h
  ·exact C x u x (GH _ h) rfl
  ·rw [List.mem_singleton.1 h]at u
   exact d1 (List.mem_append.2 (.inl u))
 ·refine⟨⟨DV F,DV G⟩,Q.congr (fun x f=>?_) (fun x f=>?_)⟩
  ·rw [<-j,Gf]at f
   refine DU fun g=>?_
   rw [g]at k
   rcases List.mem_cons.1 k with h|h
   ·rw [h]at f;exact d1 (List.mem_append.2 (.inr (GH _ f)))
   ·exact C x h x (GH _ f) rfl
  ·simp only [HK]at f
   refine DU fun g=>?_
   rw [<-g]at f
   cases B with
   |nil=>
    simp only [D0,List.cons.injEq]at j
    rw [<-j.2]at f;simp at f
   |cons b B=>
    simp only [En,List.cons.injEq]at j
    obtain⟨rfl,rfl⟩:=j
    rcases List.mem_append.1 f with h|h
    ·exact(List.nodup_cons.1 I.2).1 h
    ·rw [List.mem_singleton.1 h]at d1
     exact d1 (List.mem_append.2 (.inr zc))
end Go.Dw
namespace Go.Dw
section
variable {α:Type} [DecidableEq α]
def rounds(least:Nat)(win mem:List α->List α):Nat->List α->List (List α)×List α
 |0,_=>([],[])
 |_+1,[]=>([],[])
 |n+1,i::r=>
  if least<=(win (i::r)).length∧least<=(mem (win (i::r))).length then
   (mem (win (i::r))::(rounds least win mem n ((i::r).filter fun x=>decide (x∉mem (win (i::r))))).1,(rounds least win mem n ((i::r).filter fun x=>decide (x∉mem (win (i::r))))).2)
  else((rounds least win mem n r).1,i::(rounds least win mem n r).2)
theorem gd(least:Nat)(win mem:List α->List α)(n:Nat)(i:α)(r:List α):rounds least win mem (n+1) (i::r)=
  if least<=(win (i::r)).length∧least<=(mem (win (i::r))).length then
   (mem (win (i::r))::(rounds least win mem n ((i::r).filter fun x=>decide (x∉mem (win (i::r))))).1,(rounds least win mem n ((i::r).filter fun x=>decide (x∉mem (win (i::r))))).2)
  else((rounds least win mem n r).1,i::(rounds least win mem n r).2):=rfl
structure WinOk(win mem:List α->List α):Prop where
 sub:∀l,(win l).Sublist l
 mem:∀l,(mem l).Sublist l
theorem nE{l m:List α}{least:Nat}(g:1<=least)(hm:m.Sublist l)(h:least<=m.length):(l.filter fun x=>decide (x∉m)).length<l.length:=by
 cases m with
 |nil=>simp at h;omega
 |cons a m=>
  have f:a∈l:=hm.subset zc
  refine Nat.lt_of_le_of_ne (Gt _ _) fun he=>?_
  have:=List.length_filter_eq_length_iff.1 he a f
  simp at this
variable {least:Nat}{win mem:List α->List α}
theorem np(h:WinOk win mem)(k:1<=least):∀(n:Nat)(l:List α),l.length<=n->l.Nodup->((rounds least win mem n l).1.flatten++(rounds least win mem n l).2).Perm l
 |0,l,hl,_=>by simp [ES (Nat.le_zero.1 hl),rounds]
 |n+1,[],_,_=>by simp [rounds]
 |n+1,i::r,hl,f=>by
  rw [gd]
  split
  ·rename_i hc
   have hs:(mem (win (i::r))).Sublist (i::r):=(h.mem _).trans (h.sub _)
   have B:=nE k hs hc.2
   have u:=np h k n ((i::r).filter fun x=>decide (x∉mem (win (i::r)))) za (f.sublist Gm)
   simp only [Gq,DC]
   refine(List.Perm.append_left _ u).trans ?_
   have g:=f.sublist hs
   generalize mem (win (i::r))=m at hs g⊢
   generalize i::r=l at hs f⊢
   have q:m.Perm (l.filter fun x=>decide (x∈m)):=by
    rw [List.perm_ext_iff_of_nodup g (f.sublist Gm)]
    intro x
    simp only [Gw,decide_eq_true_eq]
    exact⟨fun j=>⟨hs.subset j,j⟩,fun j=>j.2⟩
   refine(List.Perm.append_right _ q).trans ?_
   have:=List.filter_append_perm (fun x=>decide (x∈m)) l
   simpa using this
  ·have u:=np h k n r (by simpa using hl) (List.nodup_cons.1 f).2
   refine List.perm_middle.trans ?_
   exact List.Perm.cons _ u
theorem qM(n:Nat)(l:List α):∀g∈(rounds least win mem n l).1,least<=g.length:=by
 induction n generalizing l with
 |zero=>intro g f;simp [rounds]at f
 |succ n j=>
  cases l with
  |nil=>intro g f;simp [rounds]at f
  |cons i r=>
   intro g f
   unfold rounds at f
   split at f
   ·rename_i hc
    simp only [List.mem_cons]at f
    rcases f with rfl|f
    ·exact hc.2
    ·exact j _ g f
   ·exact j _ g f
theorem pf{β:Type} [DecidableEq β] {win' mem':List β->List β}{f:α->β}(S:List α)(hf:∀x∈S,∀y∈S,f x=f y->x=y)(h:WinOk win mem):
  ∀(n:Nat)(l:List α),l.Sublist S->(∀j,j.Sublist S->win' (j.map f)=(win j).map f∧mem' ((win j).map f)=(mem (win j)).map f)->
   rounds least win' mem' n (l.map f)=((rounds least win mem n l).1.map (FM f),(rounds least win mem n l).2.map f)
 |0,l,_,_=>rfl
 |n+1,[],_,_=>rfl
 |n+1,i::r,hl,hw=>by
  obtain⟨D,F⟩:=hw (i::r) hl
  rw [Ed]at D⊢
  rw [gd,gd,D,F]
  simp only [Ea]
  have hs:=(h.mem (win (i::r))).trans (h.sub (i::r))
  split
  ·generalize mem (win (i::r))=m at hs⊢
   have g:(f i::r.map f).filter (fun x=>decide (x∉m.map f))=((i::r).filter fun x=>decide (x∉m)).map f:=by
    rw [<-Ed,Gl]
    congr 1
    refine Gj fun x E=>?_
    simp only [H0,Gx,decide_eq_decide]
    constructor
    ·intro k q;exact k ⟨x,q,rfl⟩
    ·rintro k ⟨y,C,u⟩
     have:=hf y (hl.subset (hs.subset C)) x (hl.subset E) u
     exact k (this▸C)
   rw [g]
   have B:=pf S hf h n ((i::r).filter fun x=>decide (x∉m)) (List.filter_sublist.trans hl) hw
   rw [B]
   simp
  ·have B:=pf S hf h n r ((HI _ _).trans hl) hw
   rw [B]
   simp
end
end Go.Dw
set_option maxRecDepth 100000
set_option maxHeartbeats 4000000
namespace Go.Dw.Re
open Go.Dw Go.Proofs
abbrev Ph:=aw
abbrev As:=bh
theorem flat_loop{α β ω:Type}{l:List α}{f:α->List β}{g:List β->ω}{body:(Int×List β)->Option (il (Int×List β) ω)}(hf:∀x∈l,(f x).length<=1)
  (h1:∀(i:Nat)(hi:i<l.length)(acc:List β),acc.length<=i->body ((i:Int),acc)=some (.next (((i+1:Nat):Int),acc++f l[i])))
  (r:∀acc,acc.length<=l.length->body ((l.length:Int),acc)=some (.stop (g acc))):cI body ((0:Int),[])=some (g (l.flatMap f)):=by
 have key:∀(k i:Nat)(acc:List β),i+k=l.length->acc.length<=i->cI body ((i:Int),acc)=some (g (acc++(l.drop i).flatMap f)):=by
  intro k
  induction k with
  |zero=>
   intro i acc hi q
   obtain rfl:i=l.length:=by omega
   rw [qV (r acc q)]
   simp
  |succ k u=>
   intro i acc hi q
   have j:i<l.length:=by omega
   rw [rN (h1 i j acc q),u (i+1) _ za (by have:=hf _ (Dp j);rw [ET];omega),Fz j,Gn,DC]
 have:=key l.length 0 [] za zc
 simpa using this
theorem pK{α β ω:Type}{l:List α}{f:α->β}{g:List β->ω}{body:(Int×List β)->Option (il (Int×List β) ω)}
  (h1:∀(i:Nat)(hi:i<l.length)(acc:List β),acc.length<=i->body ((i:Int),acc)=some (.next (((i+1:Nat):Int),acc++[f l[i]])))
  (j:∀acc,acc.length<=l.length->body ((l.length:Int),acc)=some (.stop (g acc))):cI body ((0:Int),[])=some (g (l.map f)):=by
 rw [flat_loop (f:=fun x=>[f x]) (fun _ _=>zc) h1 j]
 rw [<-List.map_eq_flatMap]
theorem or3(a b c:Int):dC [a,b,c]=some (if a≠0 then a else if b≠0 then b else c):=by
 unfold dC
 have:=Sd.or_go (l:=[a,b,c]) (n:=0) (r:=[a,b,c]) zc zc rfl
 rw [show((0:Int))=((0:Nat):Int)from rfl,this]
 by_cases f:a=0<;>by_cases g:b=0<;>by_cases hc:c=0<;>simp [List.find?,f,g,hc]
def cmpG(a b:ag):Int:=if sZ a.fX b.fX≠0 then sZ a.fX b.fX else if sZ a.fY b.fY≠0 then sZ a.fY b.fY else sZ a.fZ b.fZ
theorem cmpG_eq(a b:ag):fd a b=some (cmpG a b):=by
 unfold fd
 simp only [Sd.lD,ze,or3]
 rfl
theorem cmpG_tot:Tot cmpG:=(tg.map fun x:ag=>x.fX).or ((tg.map fun x:ag=>x.fY).or (tg.map fun x:ag=>x.fZ))
def cmpF(a b:Ph):Int:=if sZ a.bv b.bv≠0 then sZ a.bv b.bv else if sZ a.cg b.cg≠0 then sZ a.cg b.cg else if cmpG a.bw b.bw≠0 then cmpG a.bw b.bw else sZ a.cz b.cz
theorem cmpF_eq(a b:Ph):jV a b=some (cmpF a b):=by
 unfold jV
 simp only [Sd.lD,cmpG_eq,ze,Sd.or4]
 rfl
theorem cmpF_tot:Tot cmpF:=(tg.map fun x:Ph=>x.bv).or ((tg.map fun x:Ph=>x.cg).or ((cmpG_tot.map fun x:Ph=>x.bw).or (tg.map fun x:Ph=>x.cz)))
def zPh:Ph:=⟨⟨0,0,0⟩,0,0,0⟩
def pr(F:List Ph)(i:Int):Ph:=F.getD i.toNat zPh
theorem phAt_get{F:List Ph}{i:Int}(f:0<=i)(h1:i<F.length):nZ F i=some (pr F i):=by
 rw [pI (i:=i.toNat) za za]
 unfold pr
 rw [Eo,zf za];rfl
theorem phAt_mem{F:List Ph}{i:Int}(f:0<=i)(h1:i<F.length):pr F i∈F:=by
 unfold pr
 rw [Eo,zf za]
 exact Dp _
theorem ins_order{F:List Ph}{l:List Int}(hl:∀i∈l,0<=i∧i<F.length)(f:l.length<=1000):db 0 (l.length:Int) l F=some (dj (fun i k=>decide (cmpF (pr F i) (pr F k)<0)) l):=by
 refine Eq.trans (b:=insG (fun i k=>gO i k F) (fun c=>decide (c<0)) 0 (l.length:Int) l) rfl (insG_at (S:=fun i=>0<=i∧i<(F.length:Int)) (fun i k hi hk=>⟨cmpF (pr F i) (pr F k),?_,rfl⟩) hl f)
 unfold gO
 rw [phAt_get hi.1 hi.2,ze,phAt_get hk.1 hk.2,ze,cmpF_eq];rfl
theorem stable_order{F:List Ph}{l:List Int}(hl:∀i∈l,0<=i∧i<F.length)(f:l.length<=19):dQ l F=some (dj (fun i k=>decide (cmpF (pr F i) (pr F k)<0)) l):=by
 unfold dQ dX
 rw [qV (o:=((0:Int),l)) (by unfold ig;dsimp only;rw [if_neg so]),ze]
 dsimp only
 rw [ins_order hl za,ze,qV (o:=dj (fun i k=>decide (cmpF (pr F i) (pr F k)<0)) l) (by unfold gD;rw [if_neg so];rfl)]
 rfl
def ids(n:Nat):List Int:=(DG n).map fun i:Nat=>(i:Int)
theorem ids_mem{n:Nat}{i:Int}:i∈ids n↔0<=i∧i<n:=by
 unfold ids
 rw [Gx]
 constructor
 ·rintro⟨k,hk,rfl⟩
  have:=List.mem_range.1 hk
  omega
 ·intro h
  exact⟨i.toNat,List.mem_range.2 za,za⟩
theorem ids_succ(n:Nat):ids (n+1)=ids n++[(n:Int)]:=by unfold ids;rw [List.range_succ,List.map_append];rfl
theorem ids_len(n:Nat):(ids n).length=n:=by unfold ids;simp
theorem ids_asc(n:Nat):(ids n).Pairwise (· < ·):=by
 unfold ids
 rw [GK]
 exact List.pairwise_lt_range.imp fun h=>by omega
structure ov(F:List Ph)(o:List Int):Prop where
 perm:o.Perm (ids F.length)
 lex:o.Pairwise (Lex (fun i k=>cmpF (pr F i) (pr F k)) (· < ·))
theorem order_at{F:List Ph}(k:F.length<=19):∃o,lC F=some o∧ov F o:=by
 refine⟨_,?_,cS _ _,sortI_lex (cmpF_tot.map (pr F)) (ids_asc F.length)⟩
 refine GS ?_
 unfold lC
 refine GR (Ok.mk za za za) (fun x j=>?_)
 subst j
 refine GR (P:=fun o=>o=ids F.length) (GV (fun s:Int×List Int=>∃i:Nat,i<=F.length∧s=((i:Int),ids i++B2 (F.length-i) 0)) (fun s=>((F.length:Int)-s.1).toNat) ?_ ⟨0,DJ _,by simp [ids]⟩) (fun o ho=>?_)
 ·rintro s ⟨i,hi,rfl⟩
  unfold la
  dsimp only
  refine GY (fun g=>?_) (fun f=>G4 ?_)
  rotate_left
  ·obtain rfl:i=F.length:=by simp at f;omega
   simp
  simp at g
  have e:B2 (F.length-i) (0:Int)=0::B2 (F.length-(i+1)) 0:=by
   rw [show F.length-i=(F.length-(i+1))+1 by omega];rfl
  rw [e,sa za (by simp [ids_len];omega),ze,set1 _ _ _ _ (by rw [ids_len]),ze,w64 za za]
  refine GX ⟨i+1,za,?_⟩ zd
  rw [ids_succ];simp
 ·subst ho
  rw [stable_order (fun i hi=>by have:=ids_mem.1 hi;omega) (by rw [ids_len];omega)]
  exact G1 rfl
theorem gQ{nx bk:List Int}{n:Nat}(h:nx.length=n+1)(f:n<=1000):mP ⟨nx,bk⟩=some (n:Int):=by
 unfold mP
 rw [w64 zd zd]
 simp [h]
theorem Lnk_range{nx bk:List Int}:∀(k m:Nat),(∀j,m<=j->j<m+k->nx[j]? =some ((j+1:Nat):Int)∧bk[j+1]? =some (j:Int))->Lnk nx bk (HD m k++[m+k])
 |0,m,_=>trivial
 |k+1,m,h=>by
  have g:=Lnk_range k (m+1) (fun j h1 q=>h j za za)
  have f:=h m (DA _) za
  rw [show m+(k+1)=m+1+k by omega]
  cases k with
  |zero=>exact⟨f,trivial⟩
  |succ k=>
   rw [HE,HE]at*
   exact⟨f,g⟩
theorem newChain_at{n:Nat}(F:n<=1000):Ok (jd (n:Int)) (fun r=>r.fnext.length=n+1∧r.fback.length=n+1∧Lnk r.fnext r.fback (n::DG n++[n])):=by
 unfold jd
 rw [w64 za za]
 refine GR (Ok.mk za za za) (fun x D=>GR (Ok.mk za za za) (fun y E=>?_))
 subst D E
 refine GR (P:=fun o:List Int×List Int=>o.1.length=n+1∧o.2.length=n+1∧∀j,j<=n->o.1[j]? =some (((j+1)%(n+1):Nat):Int)∧o.2[(j+1)%(n+1)]? =some (j:Int))
  (GV (fun s:Int×List Int×List Int=>∃i:Nat,s.1=(i:Int)∧i<=n+1∧s.2.1.length=n+1∧s.2.2.length=n+1∧∀j,j<i->s.2.1[j]? =some (((j+1)%(n+1):Nat):Int)∧s.2.2[(j+1)%(n+1)]? =some (j:Int)) (fun s=>((n:Int)+1-s.1).toNat) ?_ ⟨0,rfl,za,zc,zc,fun j g=>za⟩) (fun o ho=>?_)
 ·rintro⟨s1,s2,G⟩ ⟨i,i0,i1,i2,i3,i4⟩
  simp only at i0 i2 i3 i4
  subst i0
  unfold je
  dsimp only
  rw [w64 (n:=(n:Int)+1) za za]
  refine GY (fun B=>?_) (fun u=>G4 ?_)
  rotate_left
  ·obtain rfl:i=n+1:=by omega
   exact⟨i2,i3,fun j g=>i4 j za⟩
  rw [w64 (n:=(i:Int)+1) za za]
  have C:wQ ((i:Int)+1) ((n:Int)+1)=some (((i+1)%(n+1):Nat):Int):=by
   unfold wQ
   rw [if_neg za,Int.tmod_eq_emod_of_nonneg za]
   rfl
  have q:(i+1)%(n+1)<n+1:=Nat.mod_lt _ za
  rw [C,ze,ze,sa za za,ze,xw (i:=i) rfl za,ze,sa za za,ze,xw (i:=(i+1)%(n+1)) rfl za,ze]
  refine GX ⟨i+1,zd,za,by simpa using i2,by simpa using i3,fun j g=>?_⟩ zd
  by_cases e:j=i
  ·subst e
   exact⟨DV za,DV za⟩
  ·have k:(i+1)%(n+1)≠(j+1)%(n+1):=by
    rw [HY (a:=j+1) za]
    by_cases h:i=n
    ·subst h;simp
    ·rw [HY za];omega
   exact⟨by rw [DU za];exact(i4 j za).1,by rw [DU k];exact(i4 j za).2⟩
 ·refine G1 ⟨ho.1,ho.2.1,?_⟩
  have h1:Lnk o.1 o.2 (HD 0 n++[0+n]):=Lnk_range n 0 fun j _ g=>by
   have:=ho.2.2 j za
   rw [HY za]at this
   exact this
  have f:=ho.2.2 n (DA _)
  rw [Nat.mod_self]at f
  rw [<-HG,Nat.zero_add]at h1
  cases n with
  |zero=>exact⟨f,trivial⟩
  |succ n=>
   rw [HG,HE]at h1⊢
   exact⟨f,h1⟩
theorem filter_ne{A B:List Nat}{i:Nat}(h:(A++i::B).Nodup):(A++i::B).filter (fun x=>decide (x∉ [i]))=A++B:=by
 rw [Ez]at h
 obtain⟨_,g,j⟩:=h
 rw [Eb]at g
 rw [Gi,Gk zc,List.filter_eq_self.2,List.filter_eq_self.2]
 ·intro x f
  simp only [Ey,decide_eq_true_eq]
  rintro rfl
  exact g.1 f
 ·intro x f
  simp only [Ey,decide_eq_true_eq]
  rintro rfl
  exact j x f x zc rfl
structure Ch(n:Nat)(P:List Nat)(nx bk:List Int):Prop where
 ln:nx.length=n+1
 lb:bk.length=n+1
 lnk:Lnk nx bk (n::P++[n])
 nd:(n::P).Nodup
 lt:∀x∈P,x<n
theorem remove_at{n:Nat}{P:List Nat}{nx bk:List Int}(h:Ch n P nx bk){i:Nat}(hi:i∈P):∃k g,mg (i:Int) nx bk=some (k,g)∧Ch n (P.filter fun x=>decide (x∉ [i])) k g:=by
 obtain⟨A,B,rfl⟩:=List.append_of_mem hi
 obtain⟨h1,G,H,r,u⟩:=h
 obtain⟨p,q,C,D,hp,K,hl⟩:=Lnk.remove H r
 have j:∀x∈n::(A++B),x<=n:=fun x f=>by
  rcases List.mem_cons.1 f with rfl|f
  ·exact DA _
  ·refine Nat.le_of_lt (u x ?_)
   rcases List.mem_append.1 f with f|f
   ·exact List.mem_append.2 (.inl f)
   ·exact List.mem_append.2 (.inr (GH _ f))
 have J:=j p hp;have L:=j q K;have I:=u i hi
 have nd:=(List.nodup_cons.1 r).2
 refine⟨nx.set p q,bk.set q p,?_,?_⟩
 ·have E:nZ bk (i:Int)=some (p:Int):=by
   rw [pI (i:=i) rfl za]
   rw [zf za]at C
   exact C
  have F:nZ nx (i:Int)=some (q:Int):=by
   rw [pI (i:=i) rfl za]
   rw [zf za]at D
   exact D
  unfold mg
  rw [sa za za,ze,E,ze,sa za za,ze,F,ze,ze,ze,ze,ze,sa za za,ze,xw (i:=p) rfl za,ze,sa za za,ze,xw (i:=q) rfl za,ze]
 ·rw [filter_ne nd]
  refine⟨by simpa using h1,by simpa using G,hl,?_,fun x f=>?_⟩
  ·rw [Eb]at r⊢
   refine⟨fun hm=>r.1 ?_,nd.sublist ((HI i B).append_left A)⟩
   rcases List.mem_append.1 hm with hm|hm
   ·exact List.mem_append.2 (.inl hm)
   ·exact List.mem_append.2 (.inr (GH _ hm))
  ·refine u x ?_
   rcases List.mem_append.1 f with f|f
   ·exact List.mem_append.2 (.inl f)
   ·exact List.mem_append.2 (.inr (GH _ f))
end Go.Dw.Re
set_option maxRecDepth 100000
set_option maxHeartbeats 4000000
namespace Go.Dw.Re
open Go.Dw Go.Proofs
theorem flat_filter{α β:Type}(p:α->Bool)(f:α->β):∀l:List α,(l.flatMap fun x=>if p x=true then [f x]else [])=(l.filter p).map f
 | []=>rfl
 |x::l=>by
  rw [Gn,flat_filter p f l]
  by_cases h:p x=true
  ·rw [if_pos h,List.filter_cons_of_pos h];rfl
  ·rw [if_neg h,Gk h];rfl
section
variable {α:Type}
def pn(k:α->Int)(span:Int):List α->List α
 | []=>[]
 |i::r=>((i::r).takeWhile fun j=>decide (k j-k i<=span)).take 16
theorem rn(k:α->Int)(span:Int):∀l,(pn k span l).Sublist l
 | []=>List.Sublist.refl _
 |_::_=>(List.take_sublist _ _).trans (List.takeWhile_sublist _)
theorem winK_cons(k:α->Int){span:Int}(h:0<=span)(i:α)(r:List α):pn k span (i::r)=i::(r.takeWhile fun j=>decide (k j-k i<=span)).take 15:=by
 show((i::r).takeWhile fun j=>decide (k j-k i<=span)).take 16=_
 rw [HN so]
 rfl
theorem winK_map{β:Type}{k:α->Int}{k':β->Int}{f:α->β}{span:Int}:∀l:List α,(∀x∈l,k' (f x)=k x)->pn k' span (l.map f)=(pn k span l).map f
 | [],_=>rfl
 |i::r,h=>by
  show(((i::r).map f).takeWhile fun j=>decide (k' j-k' (f i)<=span)).take 16=(((i::r).takeWhile fun j=>decide (k j-k i<=span)).take 16).map f
  rw [List.takeWhile_map, <-List.map_take,h i zc]
  congr 2
  have:∀l:List α,(∀x∈l,k' (f x)=k x)->l.takeWhile ((fun j=>decide (k' j-k i<=span))∘f)=l.takeWhile fun j=>decide (k j-k i<=span):=by
   intro l hl
   induction l with
   |nil=>rfl
   |cons x l q=>
    simp only [List.takeWhile_cons,H0,hl x zc]
    rw [q fun y g=>hl y (GH _ g)]
  exact this _ h
end
def ic(o:List Int)(j:Nat):Int:=o.getD j 0
def plP(F:List Ph)(o:List Int)(j:Nat):Ph:=pr F (ic o j)
theorem ordAt_get{o:List Int}{j:Nat}(h:j<o.length):nZ o (j:Int)=some (ic o j):=by
 rw [pI (i:=j) rfl h]
 unfold ic
 rw [Eo,zf h];rfl
theorem ordAt_mem{o:List Int}{j:Nat}(h:j<o.length):ic o j∈o:=by
 unfold ic
 rw [Eo,zf h]
 exact Dp _
theorem ov.len{F:List Ph}{o:List Int}(h:ov F o):o.length=F.length:=by rw [h.perm.length_eq,ids_len]
theorem ov.range{F:List Ph}{o:List Int}(h:ov F o){j:Nat}(f:j<F.length):0<=ic o j∧ic o j<F.length:=ids_mem.1 (h.perm.mem_iff.1 (ordAt_mem (by rw [h.len];exact f)))
theorem ov.get{F:List Ph}{o:List Int}(h:ov F o){j:Nat}(f:j<F.length):nZ o (j:Int)=some (ic o j)∧nZ F (ic o j)=some (plP F o j)∧plP F o j∈F:=
 ⟨ordAt_get (by rw [h.len];exact f),phAt_get (h.range f).1 (h.range f).2,phAt_mem (h.range f).1 (h.range f).2⟩
def nX(l:List Nat):List Int:=l.map fun j:Nat=>(j:Int)
theorem window_loop{n:Nat}{nx bk:List Int}{F:List Ph}{o:List Int}(ho:ov F o)(H:F.length=n)(g:n<=1000)(hl:nx.length=n+1)(r:∀b∈F,0<=b.bv∧b.bv<=18014398509481984){a:As}{i:Nat}(hi:i<n):
  ∀(B:List Nat)(acc:List Int),Lnk nx bk (B++[n])->(∀x∈B,x<n)->acc.length<=16->cI (dv nx bk o F (i:Int) a) ((((B++[n]).headD 0:Nat):Int),acc)=
   some (acc++nX ((B.takeWhile fun j=>decide ((plP F o j).bv-(plP F o i).bv<=a.cw)).take (16-acc.length)))
 | [],acc,_,_,_=>by
  rw [qV (o:=acc)]
  ·simp [nX]
  ·unfold dv
   dsimp only
   rw [gQ hl g,ze,if_neg zc]
 |b::B,acc,q,u,J=>by
  have K:=u b zc
  obtain⟨g1,g2,g3⟩:=ho.get (j:=b) za
  obtain⟨C,D,k3⟩:=ho.get (j:=i) za
  have f1:=r _ g3;have f2:=r _ k3
  have hw:FN .i64 ((plP F o b).bv-(plP F o i).bv)=(plP F o b).bv-(plP F o i).bv:=w64 za za
  have k:nx[b]? =some (((B++[n]).headD 0:Nat):Int)∧Lnk nx bk (B++[n]):=by
   cases B with
   |nil=>exact⟨q.1.1,q.2⟩
   |cons c B=>exact⟨q.1.1,q.2⟩
  have G:nZ nx (b:Int)=some (((B++[n]).headD 0:Nat):Int):=by
   rw [pI (i:=b) rfl za]
   have:=k.1
   rw [zf za]at this
   exact this
  by_cases E:acc.length<16
  ·by_cases hc:(plP F o b).bv-(plP F o i).bv<=a.cw
   ·have f:dv nx bk o F (i:Int) a (((b:Nat):Int),acc)=some (.next ((((B++[n]).headD 0:Nat):Int),acc++[(b:Int)])):=by
     unfold dv
     dsimp only
     rw [gQ hl g,ze,if_pos so,if_pos so,g1,ze,g2,ze,C,ze,D,ze,hw,if_pos (by simpa using hc),et so,ze,sa za za,ze,G,ze]
    show cI _ (((b:Nat):Int),acc)=_
    rw [rN f,window_loop ho H g hl r hi B _ k.2 (fun x I=>u x (GH _ I)) so,HN (by simpa using hc)]
    rw [show 16-acc.length=(16-(acc++[(b:Int)]).length)+1 by simp;omega,List.take_succ_cons]
    simp [nX]
   ·have f:dv nx bk o F (i:Int) a (((b:Nat):Int),acc)=some (.stop acc):=by
     unfold dv
     dsimp only
     rw [gQ hl g,ze,if_pos so,if_pos so,g1,ze,g2,ze,C,ze,D,ze,hw,if_neg (by simpa using hc)]
    show cI _ (((b:Nat):Int),acc)=_
    rw [qV f,List.takeWhile_cons_of_neg (by simpa using hc)]
    simp [nX]
  ·have f:dv nx bk o F (i:Int) a (((b:Nat):Int),acc)=some (.stop acc):=by
    unfold dv
    dsimp only
    rw [gQ hl g,ze,if_pos so,if_neg so]
   show cI _ (((b:Nat):Int),acc)=_
   rw [qV f,show 16-acc.length=0 by omega]
   simp [nX]
theorem Lnk_head{nx bk:List Int}{n:Nat}{P:List Nat}(h:Lnk nx bk (n::P++[n]))(hl:nx.length=n+1):nZ nx (n:Int)=some (((P++[n]).headD 0:Nat):Int)∧Lnk nx bk (P++[n]):=by
 have:nx[n]? =some (((P++[n]).headD 0:Nat):Int)∧Lnk nx bk (P++[n]):=by
  cases P with
  |nil=>exact⟨h.1.1,h.2⟩
  |cons c B=>exact⟨h.1.1,h.2⟩
 refine⟨?_,this.2⟩
 have h1:=this.1
 rw [pI (i:=n) rfl za]
 rw [zf za]at h1
 exact h1
theorem window_at{n:Nat}{nx bk:List Int}{F:List Ph}{o:List Int}(ho:ov F o)(B:F.length=n)(f:n<=1000)(u:∀b∈F,0<=b.bv∧b.bv<=18014398509481984){a:As}{i:Nat}{r:List Nat}(hc:Ch n (i::r) nx bk):
  nC a F o nx bk=some (nX (pn (fun j=>(plP F o j).bv) a.cw (i::r)),nx,bk):=by
 obtain⟨h1,k⟩:=Lnk_head hc.lnk hc.ln
 unfold nC
 rw [gQ hc.ln f,ze,sa za (by have:=hc.ln;omega),ze,h1,ze]
 have g:=window_loop ho B f hc.ln u (a:=a) (i:=i) (hc.lt i zc) (i::r) [] k hc.lt zc
 have q:((((i::r)++[n]).headD 0:Nat):Int)=(i:Int):=rfl
 rw [q]at g⊢
 rw [g,ze]
 rfl
theorem residuals_at{q:ak}(j:PV q){p:ag}(hp:Sub q.bn ⟨p,p⟩){t:Int}(B: -5000<=t∧t<=18014398509481984):iJ q p t=some (q.bK.map (fun b=>res (zn q ⟨p,p⟩ b) t),0):=by
 have hl:=j.len
 have k:∀z∈q.bK.map (zn q ⟨p,p⟩),fK z:=fun z k=>by obtain⟨b,u,rfl⟩:=List.mem_map.1 k;exact(zn_at j hp u).2
 unfold iJ
 rw [zones_at j hp,ze,if_neg zc,if_neg so,if_neg so]
 dsimp only
 have hm:Am (0:Int) ((q.bK.map (zn q ⟨p,p⟩)).length:Int) (0:Int) 8=some []:=by
  unfold Am
  rw [if_pos ⟨za,za,so,so⟩];rfl
 rw [hm,ze,pK (l:=q.bK.map (zn q ⟨p,p⟩)) (f:=fun z=>res z t) (g:=id) (fun i hi acc r=>?_) (fun acc r=>?_),ze]
 ·simp [H0]
 ·unfold hJ
  dsimp only
  rw [if_pos (by simp at hi⊢;omega),pI (i:=i) rfl hi,ze,res_at (k _ (Dp hi)) B,ze,et (by simp at hi⊢;omega),ze,w64 za (by simp at hi;omega)]
  rfl
 ·unfold hJ
  dsimp only
  rw [if_neg zc];rfl
def pu(a:As)(ph:List Ph):ak:=⟨a.bn,a.bJ,ph,a.dw⟩
noncomputable def loc (a:As) (ph:List Ph):ap:=((dK (pu a ph) a.bA).getD (⟨⟨0,0,0⟩,0,0,0,⟨⟨0,0,0⟩,⟨0,0,0⟩⟩⟩,0)).1
def PhOk(a:As)(F:List Ph):Prop:=∀b∈F,PhV b∧Reach a.bJ (oq a.bn b.bw)
theorem prob_ok{s:ah}(hs:gB s){ph:List Ph}(hp:PhOk s.ac ph)(hl:1<=ph.length∧ph.length<=64):PV (pu s.ac ph):=⟨hs.box,hs.reg,hs.tab,hl,hs.cap,hp⟩
theorem loc_at{s:ah}(hs:gB s){ph:List Ph}(hp:PhOk s.ac ph)(hl:1<=ph.length∧ph.length<=64):
  dK (pu s.ac ph) s.ac.bA=some (loc s.ac ph,0)∧Least (pu s.ac ph) s.ac.bA (loc s.ac ph)∧(-5000<=(loc s.ac ph).bS∧(loc s.ac ph).bS<=18014398509481984):=by
 have q:=prob_ok hs hp hl
 obtain⟨⟨D,E⟩,e,r,f⟩:=locate_least q hs.tol.1
 simp only at r f
 subst r
 have g:loc s.ac ph=D:=by unfold loc;rw [e];rfl
 rw [g]
 refine⟨e,f,?_⟩
 obtain⟨t,k,u⟩:=pL q f.inn
 rw [f.val]at k
 simp only [DB,Prod.mk.injEq]at k
 obtain⟨rfl, -⟩:=k
 obtain⟨z,C,j⟩:=mem_ends.1 u.mem
 obtain⟨b,B,rfl⟩:=List.mem_map.1 C
 have:=(zn_at q f.inn B).2
 obtain⟨F,z2,z3⟩:=this
 simp only at j
 rcases j with h|h<;>omega
noncomputable def fits (a:As) (ph:List Ph) (b:Ph):Bool:=decide (res (zn (pu a ph) ⟨(loc a ph).bM,(loc a ph).bM⟩ b) (loc a ph).bS<=a.dT)
noncomputable def oE {α:Type} (a:As) (ph:α->Ph) (w:List α):List α:=w.filter fun j=>fits a (w.map ph) (ph j)
theorem memK_map{α β:Type}{a:As}{ph:α->Ph}{g:β->Ph}{f:α->β}{w:List α}(h:∀x∈w,g (f x)=ph x):oE a g (w.map f)=(oE a ph w).map f:=by
 have e:(w.map f).map g=w.map ph:=by
  rw [Gv]
  exact Gu h
 unfold oE
 rw [e,Gl]
 congr 1
 refine Gj fun x j=>?_
 simp only [H0,h x j]
theorem win_ok{α:Type}(a:As)(ph:α->Ph)(span:Int):WinOk (pn (fun j=>(ph j).bv) span) (oE a ph):=⟨fun l=>rn _ _ l,fun _=>Gm⟩
abbrev ci:Int->Int->Bool:=fun x y=>decide (sZ x y<0)
theorem jA(l:List Nat):(nX l).length=l.length:=by simp [nX]
theorem nats_get{l:List Nat}{i:Nat}(h:i<l.length):nZ (nX l) (i:Int)=some ((l[i]:Nat):Int):=by
 rw [pI (i:=i) rfl (by rw [jA];exact h)]
 simp [nX]
theorem rk{n:Nat}{F:List Ph}{o:List Int}(ho:ov F o)(N:F.length=n):∀(M D P:List Nat)(nx bk acc:List Int),M.Nodup->(∀m∈M,m∈P)->Ch n P nx bk->(D++M).length<=1000->acc.length<=D.length->
  Ok (cI (de (nX (D++M)) o) ((D.length:Int),nx,bk,acc)) (fun r=>Ch n (P.filter fun x=>decide (x∉M)) r.1 r.2.1∧r.2.2=acc++M.map (ic o))
 | [],D,P,nx,bk,acc,_,_,hc,_,_=>by
  rw [qV (o:=(nx,bk,acc))]
  ·refine G1 ⟨?_,zc⟩
   rw [List.filter_eq_self.2 zc];exact hc
  ·unfold de
   dsimp only
   rw [if_neg (by simp [jA])]
 |m::M,D,P,nx,bk,acc,K,hm,hc,hl,O=>by
  obtain⟨q,g,e,u⟩:=remove_at hc (hm m zc)
  have C:=hc.lt m (hm m zc)
  obtain⟨g1,g2,g3⟩:=ho.get (j:=m) za
  have L:D.length+(M.length+1)<=1000:=by simpa using hl
  have B:D.length<(D++m::M).length:=by simp
  have f:de (nX (D++m::M)) o ((D.length:Int),nx,bk,acc)=some (.next (((D++[m]).length:Int),q,g,acc++[ic o m])):=by
   unfold de
   dsimp only
   rw [if_pos (by simp [jA];omega),sa za (by simp [jA];omega),ze,nats_get B,ze]
   have:(D++m::M)[D.length]'B=m:=by simp
   rw [this,e,ze,g1,ze,et so,ze,w64 za za]
   simp
  rw [rN f]
  have k:=List.nodup_cons.1 K
  have H := rk ho N M (D ++ [m]) _ q g (acc ++ [ic o m]) k.2 (fun x G => by
   refine List.mem_filter.2 ⟨hm x (GH _ G),?_⟩
   simp only [Ey,decide_eq_true_eq]
   rintro rfl
   exact k.1 G) u so so
  have e2:D++[m]++M=D++m::M:=by simp
  rw [e2]at H
  refine H.mono fun r E=>⟨?_,by rw [E.2];simp⟩
  have I:Gh (fun x=>decide (x∉M)) (Gh (fun x=>decide (x∉ [m])) P)=P.filter fun x=>decide (x∉m::M):=by
   rw [List.filter_filter]
   refine Gj fun x _=>?_
   by_cases h1:x=m<;>by_cases J:x∈M<;>simp [h1,J]
  rw [<-I]
  exact E.1
theorem drop_first{n:Nat}{i:Nat}{r:List Nat}(f:(n::i::r).Nodup):(i::r).filter (fun x=>decide (x∉ [i]))=r:=by
 have:=filter_ne (A:=[]) (i:=i) (B:=r) (List.nodup_cons.1 f).2
 simpa using this
noncomputable abbrev rnd (a:As) (F:List Ph) (o:List Int) (m:Nat) (P:List Nat):List (List Nat)×List Nat:=rounds a.cq.toNat (pn (fun j=>(plP F o j).bv) a.cw) (oE a (plP F o)) m P
theorem rounds_at{s:ah}(hs:gB s){n:Nat}{F:List Ph}{o:List Int}(hn:F.length=n)(hF:n<=19)(N:PhOk s.ac F)(ho:ov F o):
  ∀(m:Nat)(P:List Nat)(nx bk:List Int)(G:List bB)(L:List Int),P.length<=m->Ch n P nx bk->P.length<=n->G.length<=n-P.length->L.length<=n-P.length->
   Ok (cI (cy s.ac F o) (G,L,nx,bk)) (fun r=>∃O,r= .inl (G++O,L++(rnd s.ac F o m P).2.map (ic o))∧O.map (·.dg)=(rnd s.ac F o m P).1.map fun g=>dj ci (g.map (ic o))):=by
 intro m
 induction m with
 |zero=>
  intro P nx bk G L Q hc _ _ _
  obtain rfl:=ES (Nat.le_zero.1 Q)
  obtain⟨h1,h2⟩:=Lnk_head hc.lnk hc.ln
  rw [qV (o:= .inl (G,L))]
  ·exact G1 ⟨[],by simp [rounds],rfl⟩
  ·unfold cy
   dsimp only
   have hh:((([]++[n]).headD 0:Nat):Int)=(n:Int):=rfl
   rw [gQ hc.ln za,ze,sa za (by have:=hc.ln;omega),ze,h1,ze,ze,hh,if_neg zc]
 |succ m ih=>
  intro P nx bk G L Q hc J hG hL
  obtain⟨h1,h2⟩:=Lnk_head hc.lnk hc.ln
  match P,Q,hc,J,hG,hL,h1 with
  | [],Q,hc,J,hG,hL,h1=>
   rw [qV (o:= .inl (G,L))]
   ·exact G1 ⟨[],by simp [rounds],rfl⟩
   ·unfold cy
    dsimp only
    have hh:((([]++[n]).headD 0:Nat):Int)=(n:Int):=rfl
    rw [gQ hc.ln za,ze,sa za (by have:=hc.ln;omega),ze,h1,ze,ze,hh,if_neg zc]
  |i::r,Q,hc,J,hG,hL,h1=>
   have U:=hc.lt
   have hi:=U i zc
   have hh:((((i::r)++[n]).headD 0:Nat):Int)=(i:Int):=rfl
   have b1:=window_at ho hn za (fun b hb=>⟨(N b hb).1.early,by have:=(N b hb).1.late;have:=(N b hb).1.most;omega⟩) (a:=s.ac) hc
   have c3:=hs.span.1
   have W:=winK_cons (fun j=>(plP F o j).bv) c3 i r
   have E:=rn (fun j=>(plP F o j).bv) s.ac.cw (i::r)
   generalize hw:pn (fun j=>(plP F o j).bv) s.ac.cw (i::r)=w at b1 W E
   have c4:w.length<=(i::r).length:=E.length_le
   have d1:r.length+1<=n:=by simpa using J
   have d2:w.length<=r.length+1:=by simpa using c4
   have d5:1<=w.length:=by rw [W];simp
   have hle:=hs.least.1
   have b3:Ok (dc (nX w,nx,bk) o G L) (fun x=>∃B u,x= .next (G,L++[ic o i],B,u)∧Ch n r B u):=by
    obtain⟨B,u,e,K⟩:=remove_at hc (i:=i) zc
    rw [drop_first hc.nd]at K
    unfold dc
    dsimp only
    have g0:nZ (nX w) (0:Int)=some (i:Int):=by rw [W];rfl
    rw [g0,ze,(ho.get (j:=i) za).1,ze,et so,ze,ze,e,ze]
    exact G1 ⟨B,u,rfl,K⟩
   have no:¬(s.ac.cq.toNat<=w.length∧s.ac.cq.toNat<=(oE s.ac (plP F o) w).length)->∀x,cy s.ac F o (G,L,nx,bk)=some x->(∃B u,x= .next (G,L++[ic o i],B,u)∧Ch n r B u)->
     Ok (cI (cy s.ac F o) (G,L,nx,bk)) (fun r'=>∃O,r'= .inl (G++O,L++(rnd s.ac F o (m+1) (i::r)).2.map (ic o))∧O.map (·.dg)=(rnd s.ac F o (m+1) (i::r)).1.map fun g=>dj ci (g.map (ic o))):=by
    rintro c1 x hx ⟨B,u,rfl,K⟩
    rw [rN hx]
    have:=ih r B u G (L++[ic o i]) (by simpa using Q) K za (by simp at hG;omega) (by simp at hL⊢;omega)
    refine this.mono fun y hy=>?_
    obtain⟨O,e1,e2⟩:=hy
    rw [rnd,gd,hw,if_neg c1]
    exact⟨O,by rw [e1];simp,e2⟩
   have q:cy s.ac F o (G,L,nx,bk)=(if(decide (((nX w).length:Int)>=s.ac.cq))=true then((cI (ej (nX w,nx,bk) o F G L) ((0:Int),([]:(List aw)))).bind fun H=>(fF s.ac H.1).bind fun c6=>(dK c6 s.ac.bA).bind fun I=>if(I.2 != (0:Int))=true then(some (.stop (.inr (([]:(List bB)),([]:(List Int)),I.2))))else((fF s.ac H.1).bind fun c7=>(iJ c7 I.1.bM I.1.bS).bind fun Y=>if(Y.2 != (0:Int))=true then(some (.stop (.inr (([]:(List bB)),([]:(List Int)),Y.2))))else((cI (ek (nX w,nx,bk) Y s.ac) ((0:Int),([]:(List Int)))).bind fun b4=>if(decide ((b4.length:Int)>=s.ac.cq))=true then((cI (de b4 o) ((0:Int),nx,bk,([]:(List Int)))).bind fun X=>(tR X.2.2).bind fun c8=>(rE H.2.1 [(bB.mk c8 I.1.bM I.1.bS)] 56).bind fun d0=>some (.next (d0,H.2.2,X.1,X.2.1)))else(dc (nX w,nx,bk) o H.2.1 H.2.2))))else(dc (nX w,nx,bk) o G L)):=by
    conv=>lhs;unfold cy
    dsimp only
    rw [gQ hc.ln za,ze,sa za (by have:=hc.ln;omega),ze,h1,ze,ze,hh,if_pos so,b1,ze]
   by_cases a5:s.ac.cq.toNat<=w.length
   ·rw [if_pos (by rw [jA];simp;omega)]at q
    have b2:PhOk s.ac (w.map (plP F o)):=fun b hb=>by
     obtain⟨j,hj,rfl⟩:=List.mem_map.1 hb
     exact N _ (ho.get (j:=j) (by have:=U j (E.subset hj);omega)).2.2
    have b5:cI (ej (nX w,nx,bk) o F G L) ((0:Int),([]:(List aw)))=some (w.map (plP F o),G,L):=by
     refine pK (l:=w) (f:=plP F o) (g:=fun x=>(x,G,L)) (fun k hk acc ha=>?_) (fun acc ha=>?_)
     ·have hj:=U _ (E.subset (Dp hk))
      obtain⟨g1,g2,g3⟩:=ho.get (j:=w[k]) za
      unfold ej
      dsimp only
      rw [if_pos (by rw [jA];simp;omega),nats_get hk,ze,g1,ze,g2,ze,et so,ze,w64 za za]
      rfl
     ·unfold ej
      dsimp only
      rw [if_neg (by rw [jA];simp)]
    have a9:1<=(w.map (plP F o)).length∧(w.map (plP F o)).length<=64:=by rw [Ea];omega
    obtain⟨e1,e2,e3⟩:=loc_at hs b2 a9
    have e4:=residuals_at (prob_ok hs b2 a9) e2.inn e3
    rw [b5,ze]at q
    dsimp only at q
    have c2:fF s.ac (w.map (plP F o))=some (pu s.ac (w.map (plP F o))):=rfl
    rw [c2,ze,e1,ze,if_neg zc,ze]at q
    dsimp only at q
    rw [e4,ze,if_neg zc]at q
    have b6:cI (ek (nX w,nx,bk) ((pu s.ac (w.map (plP F o))).bK.map (fun b=>res (zn (pu s.ac (w.map (plP F o))) ⟨(loc s.ac (w.map (plP F o))).bM,(loc s.ac (w.map (plP F o))).bM⟩ b) (loc s.ac (w.map (plP F o))).bS),0) s.ac) ((0:Int),([]:(List Int)))=some (nX (oE s.ac (plP F o) w)):=by
     rw [flat_loop (l:=w) (f:=fun j=>if fits s.ac (w.map (plP F o)) (plP F o j)=true then [(j:Int)]else []) (g:=id) (fun x _=>by split<;>simp) (fun k hk acc ha=>?_) (fun acc ha=>?_)]
     ·congr 1
      exact flat_filter _ _ w
     ·unfold ek
      dsimp only
      have b0:nZ ((pu s.ac (w.map (plP F o))).bK.map (fun b=>res (zn (pu s.ac (w.map (plP F o))) ⟨(loc s.ac (w.map (plP F o))).bM,(loc s.ac (w.map (plP F o))).bM⟩ b) (loc s.ac (w.map (plP F o))).bS)) (k:Int)=some (res (zn (pu s.ac (w.map (plP F o))) ⟨(loc s.ac (w.map (plP F o))).bM,(loc s.ac (w.map (plP F o))).bM⟩ (plP F o w[k])) (loc s.ac (w.map (plP F o))).bS):=by
       rw [pI (i:=k) rfl (by simp [pu];omega)]
       simp [pu]
      rw [if_pos (by rw [jA];simp;omega),nats_get hk,ze,b0,ze,w64 za za]
      by_cases D:fits s.ac (w.map (plP F o)) (plP F o w[k])=true
      ·rw [if_pos D]
       unfold fits at D
       rw [if_pos D,et so,ze]
       rfl
      ·rw [if_neg D]
       unfold fits at D
       rw [if_neg D,List.append_nil]
       rfl
     ·unfold ek
      dsimp only
      rw [if_neg (by rw [jA];simp)];rfl
    rw [b6,ze]at q
    have C:(oE s.ac (plP F o) w).Sublist (i::r):=List.filter_sublist.trans E
    generalize hM:oE s.ac (plP F o) w=M at q C no
    have d3:M.length<=r.length+1:=by simpa using C.length_le
    by_cases T:s.ac.cq.toNat<=M.length
    ·rw [if_pos (by rw [jA];simp;omega)]at q
     have c0:=(List.nodup_cons.1 hc.nd).2
     obtain⟨⟨B,u,acc⟩,t1,t2,t3⟩:=rk ho hn M [] (i::r) nx bk [] (c0.sublist C) (fun x hx=>C.subset hx) hc so zc
     simp only [D0]at t1 t2 t3
     have c5:cI (de (nX M) o) ((0:Int),nx,bk,[])=some (B,u,acc):=t1
     rw [c5,ze]at q
     dsimp only at q
     subst t3
     rw [sort_int so,ze,et so,ze]at q
     rw [rN q]
     have a6:=nE (least:=s.ac.cq.toNat) za C T
     have d4:((i::r).filter fun x=>decide (x∉M)).length<=r.length:=by rw [DW]at a6;omega
     have:=ih _ B u (G++[bB.mk (dj ci (M.map (ic o))) (loc s.ac (w.map (plP F o))).bM (loc s.ac (w.map (plP F o))).bS]) L (by rw [DW]at Q;omega) t2 za (by rw [ET,List.length_singleton];rw [DW]at hG;omega) (by rw [DW]at hL;omega)
     refine this.mono fun y hy=>?_
     obtain⟨O,q1,q2⟩:=hy
     rw [rnd,gd,hw,hM,if_pos ⟨a5,T⟩]
     rw [DC]at q1
     refine⟨_,q1,?_⟩
     rw [List.singleton_append,Ed,q2,Ed]
    ·rw [if_neg (by rw [jA];simp;omega)]at q
     obtain⟨x,x1,x2⟩:=b3
     exact no (fun h=>T h.2) x (q.trans x1) x2
   ·rw [if_neg (by rw [jA];simp;omega)]at q
    obtain⟨x,x1,x2⟩:=b3
    exact no (fun h=>a5 h.1) x (q.trans x1) x2
theorem valid_at{s:ah}(hs:gB s){F:List Ph}(K:F.length<=256)(g:PhOk s.ac F):ef s.ac F=some 0:=by
 obtain⟨h1, -,j,C,D,E,G,H,I,J,r,u⟩:=hs
 have f:∀{x a b:Int},a<=x->x<=b->fi x a b=some true:=fun h q=>by
  unfold fi;rw [if_pos (by simpa using h)];simpa using q
 unfold ef
 rw [eJ h1,ze,if_neg zc,jc j,ze,if_neg zc,f za za,ze,if_neg zc,f za za,ze,if_neg zc,f za za,ze,if_neg zc,f za za,ze,if_neg zc,f za za,ze,if_neg zc,if_neg so]
 have:cI (dl F s.ac) (0:Int)=some (.inl ()):=by
  refine fJ F.length (fun i hi=>?_) ?_
  ·unfold dl
   have k:=g _ (Dp hi)
   obtain⟨z,e,B⟩:=qo j h1 k.1
   rw [if_pos so,pI (i:=i) rfl hi,ze,e,ze,if_neg (by simp [B.1.2 k.2]),w64 za za]
   rfl
  ·unfold dl
   rw [if_neg zc]
 rw [this];rfl
theorem associate_at {s : ah} (hs : gB s) {F : List Ph} (u : F.length ≤ 19) (f : PhOk s.ac F) : ∃ o, ov F o ∧ Ok (iu s.ac F) (fun r => r.2.2 = 0 ∧
  r.1.map (·.dg)=(rnd s.ac F o F.length (DG F.length)).1.map (fun g=>dj ci (g.map (ic o)))∧r.2.1=dj ci ((rnd s.ac F o F.length (DG F.length)).2.map (ic o))):=by
 obtain⟨o,e,ho⟩:=order_at (F:=F) za
 refine⟨o,ho,?_⟩
 unfold iu
 rw [valid_at hs za f,ze,if_neg zc,e,ze]
 refine GR (newChain_at (n:=F.length) za) (fun c⟨j,k,q⟩=>?_)
 refine GR (rounds_at hs rfl u f ho F.length (DG F.length) c.fnext c.fback [] [] zc ⟨j,k,q,?_,fun x D=>List.mem_range.1 D⟩ zc zc zc) (fun r C=>?_)
 ·rw [Eb]
  exact⟨zc,Gz⟩
 ·obtain⟨E,rfl,B⟩:=C
  simp only [D0]
  have hp:((rnd s.ac F o F.length (DG F.length)).1.flatten++(rnd s.ac F o F.length (DG F.length)).2).Perm (DG F.length):=np (win_ok s.ac (plP F o) s.ac.cw) (least:=s.ac.cq.toNat) (by have:=hs.least.1;omega) F.length (DG F.length) zc Gz
  have hl:=hp.length_eq
  rw [ET,List.length_range]at hl
  rw [sort_int (by rw [Ea];omega),ze]
  exact G1 ⟨rfl,B,rfl⟩
end Go.Dw.Re
set_option maxRecDepth 100000
set_option maxHeartbeats 4000000
namespace Go.Dw.Re
open Go.Dw Go.Proofs
open Sd (mQ eW eo)
structure UsV(a:ah)(r:aw×az×Bool):Prop where
 ph:PhV r.1
 reach:Reach a.ac.bJ (oq a.ac.bn r.1.bw)
 resp:oL r.2.1.bV
noncomputable def used (a:ah) (v:ae) (p:Pick):aw×az×Bool:=(eC a v p).getD (⟨⟨0,0,0⟩,0,0,0⟩,zEp,false)
theorem epAt_ok{v:ae}(f:gA v){s:Sid}{t:Int}{e:az}(h:nq v s t=some e):EpOk e:=by
 unfold nq at h
 cases hc:chan v s with
 |none=>rw [hc]at h;cases h
 |some c=>
  rw [hc]at h
  exact(f.all c (qU hc).1).2.all e (epIn_mem h).1
theorem pV{e:az}(he:EpOk e){p:Pick}(hp:cW p):PhV ⟨e.bU,p.bv,p.cg,1⟩:=by
 obtain⟨f,h1,g,j,k,q⟩:=hp
 exact⟨he.pos,h1,zd,zd,rfl⟩
theorem nK{a:ah}(g:gB a){v:ae}(f:gA v){p:Pick}(hp:cW p):eC a v p=some (used a v p)∧((used a v p).2.2=true->UsV a (used a v p)):=by
 have h:Ok (eC a v p) (fun r=>r.2.2=true->UsV a r):=by
  unfold eC
  rw [n7 hp,ze,if_neg zc,At_eq f.lens (lV f),ze]
  cases h:nq v p.a7 p.bS with
  |none=>
   dsimp only
   rw [if_pos zc]
   exact G1 zc
  |some e=>
   dsimp only
   rw [if_neg zc]
   have he:=epAt_ok f h
   refine GR (qo g.tab g.box (a:=⟨e.bU,p.bv,p.cg,1⟩) (pV he hp)) (fun z q=>?_)
   exact G2 (fun _=>G1 zc) (fun j=>G1 fun _=>⟨pV he hp,q.1.1 j,he.resp⟩)
 obtain⟨r,e,k⟩:=h
 have:used a v p=r:=by unfold used;rw [e];rfl
 rw [this]
 exact⟨e,k⟩
noncomputable def ca (a:ah) (v:ae) (L:List Pick):List Pick:=L.filter fun p=>(used a v p).2.2
noncomputable def mat (a:ah) (v:ae) (U:List Pick):bD:=⟨U,U.map fun p=>(used a v p).1,U.map fun p=>(used a v p).2.1⟩
theorem gather_at{a:ah}(g:gB a){v:ae}(j:gA v){l L:List Pick}(k:da l=some L)(hl:L.length<=20)(hp:∀p∈L,cW p):jG a v l=some (mat a v (ca a v L),0):=by
 unfold jG
 rw [qm g,ze,if_neg zc,lV j,ze,if_neg zc,k,ze]
 have:Ok (cI (iB L a v) ((0:Int),([]:List aa),([]:List aw),([]:List az))) (fun o=>o=((mat a v (ca a v L)).gE,(mat a v (ca a v L)).fj,(mat a v (ca a v L)).kb)):=by
  refine GV (fun s:Int×List Pick×List aw×List az=>∃i:Nat,i<=L.length∧s=((i:Int),(mat a v (ca a v (L.take i))).gE,(mat a v (ca a v (L.take i))).fj,(mat a v (ca a v (L.take i))).kb)) (fun s=>((L.length:Int)-s.1).toNat) ?_ ⟨0,DJ _,rfl⟩
  rintro s ⟨i,i0,rfl⟩
  unfold iB
  dsimp only
  refine GY (fun r=>?_) (fun q=>G4 ?_)
  rotate_left
  ·obtain rfl:i=L.length:=by omega
   rw [GM]
  have hi:i<L.length:=by omega
  have u:(ca a v (L.take i)).length<=20:=by
   have:=Gt (fun p=>(used a v p).2.2) (L.take i)
   have B:(L.take i).length<=L.length:=by rw [EG];omega
   unfold ca;omega
  rw [sa za za,ze,pI rfl hi,ze,(nK g j (hp _ (Dp hi))).1,ze,w64 za za]
  have f:ca a v (L.take (i+1))=ca a v (L.take i)++(if(used a v L[i]).2.2=true then [L[i]]else []):=by
   unfold ca
   rw [rr hi,Gi]
   congr 1
   by_cases h:(used a v L[i]).2.2=true<;>simp [h]
  by_cases hu:(used a v L[i]).2.2=true
  ·rw [if_pos hu]at f⊢
   rw [et (by simp only [mat,DW,DX];omega),ze,et (by simp only [mat,Ea,DW,DX];omega),ze,et (by simp only [mat,Ea,DW,DX];omega),ze]
   refine GX ⟨i+1,hi,?_⟩ zd
   rw [f]
   simp [mat]
  ·rw [if_neg hu]at f⊢
   refine GX ⟨i+1,hi,?_⟩ zd
   rw [f]
   simp
 rw [this.eq,ze]
noncomputable def qN (m:bD) (a:ah):Option (bH×Int):=
 (kX m a).bind fun g=>if(g.2 != (0:Int))=true then(some ((bH.mk [] (ap.mk (ag.mk 0 0 0) 0 0 0 (al.mk (ag.mk 0 0 0) (ag.mk 0 0 0))) (bo.mk 0 0) 0),g.2))else((dK g.1 a.bA).bind fun f=>if(f.2 != (0:Int))=true then(some ((bH.mk [] (ap.mk (ag.mk 0 0 0) 0 0 0 (al.mk (ag.mk 0 0 0) (ag.mk 0 0 0))) (bo.mk 0 0) 0),f.2))else((dH m a f.1.ch).bind fun j=>if(decide ((j.length:Int)>(0:Int)))=true then((gZ j).bind fun k=>if(k.2 != (0:Int))=true then(some ((bH.mk [] (ap.mk (ag.mk 0 0 0) 0 0 0 (al.mk (ag.mk 0 0 0) (ag.mk 0 0 0))) (bo.mk 0 0) 0),k.2))else(some ((bH.mk m.gE f.1 k.1 (j.length:Int)),(0:Int))))else(some ((bH.mk m.gE f.1 (bo.mk 0 0) 0),(0:Int)))))
theorem solve_at{a:ah}{v:ae}{l:List Pick}{m:bD}(h:jG a v l=some (m,0)):ja a v l=qN m a:=by
 unfold ja
 rw [h,ze,if_neg zc]
 rfl
structure MatP(a:ah)(m:bD):Prop where
 mat:MatV m
 ph:∀b∈m.fj,PhV b∧Reach a.ac.bJ (oq a.ac.bn b.bw)
theorem mat_ok{a:ah}(f:gB a){v:ae}(j:gA v){U:List Pick}(hl:U.length<=19)(hp:∀p∈U,cW p∧(used a v p).2.2=true):MatP a (mat a v U):=by
 refine⟨⟨⟨by simp [mat],by simp [mat]⟩,hl,fun b g=>?_,fun e he=>?_⟩,fun b g=>?_⟩
 ·obtain⟨p,h,rfl⟩:=List.mem_map.1 g
  exact((nK f j (hp p h).1).2 (hp p h).2).ph.pos
 ·obtain⟨p,h,rfl⟩:=List.mem_map.1 he
  exact((nK f j (hp p h).1).2 (hp p h).2).resp
 ·obtain⟨p,h,rfl⟩:=List.mem_map.1 g
  have:=(nK f j (hp p h).1).2 (hp p h).2
  exact⟨this.ph,this.reach⟩
theorem clone_at'{l:List Int}(h:l.length<=1000):rV 8 l=some l:=by
 unfold rV
 rw [if_pos za]
theorem solve_ok{a:ah}(f:gB a){m:bD}(hm:MatP a m):Ok (qN m a) (fun r=>(m.gE=[]->r.2=24)∧(m.gE≠ []->r.2=0∧r.1.ew=m.gE∧(m.gE.length=1->r.1.ba.b8=0))∧r.1.ew.length<=19):=by
 obtain⟨hm,k⟩:=hm
 obtain⟨⟨q,J⟩,C, -, -⟩:=id hm
 have hl:=f.tab.len;have hs:=f.tab.same
 unfold qN kX
 by_cases j:m.gE=[]
 ·rw [if_pos (by simp [q,j]),ze,if_pos zc]
  exact G1 ⟨fun _=>rfl,fun h=>(h j).elim,zc⟩
 have u:=List.length_pos_iff.2 j
 rw [if_neg (by simp;intro e;rw [e]at q;simp at q;omega),if_neg so,clone_at' za,ze,clone_at' za,ze,ze,if_neg zc]
 have E:PV ⟨a.ac.bn,⟨a.ac.bJ.bR,a.ac.bJ.bt,a.ac.bJ.bd⟩,m.fj,a.ac.dw⟩:=⟨f.box,f.reg,f.tab,⟨zd,zd⟩,f.cap,k⟩
 refine GR (locate_ok E f.tolerance.1) (fun x⟨G,H,I⟩=>?_)
 refine G2 (fun h=>(h G).elim) (fun _=>?_)
 refine GR (estimates_ok f hm (H.ok f.box f.reg)) (fun y B=>?_)
 have g:m.gE.length=1->x.1.b8=0:=fun h=>I (by show m.fj.length=1;omega)
 refine GY (fun D=>?_) (fun _=>G1 ⟨fun h=>(j h).elim,fun _=>⟨rfl,rfl,g⟩,C⟩)
 refine GR (network_ok za B.1 B.2) (fun z F=>?_)
 exact G2 (fun h=>(h F).elim) (fun _=>G1 ⟨fun h=>(j h).elim,fun _=>⟨rfl,rfl,g⟩,C⟩)
theorem solve_resp{m:bD}{e:List az}(h:e.map (·.bV)=m.kb.map (·.bV))(a:ah):qN ⟨m.gE,m.fj,e⟩ a=qN m a:=by
 unfold qN
 simp only [estimates_eq h]
 rfl
theorem same_self{s:bH}(h:s.ew.length<=1000):o0 s s=some true:=by
 unfold o0
 rw [oH h]
 simp
end Go.Dw.Re
set_option maxRecDepth 100000
set_option maxHeartbeats 4000000
namespace Go.Dw.Re
open Go.Dw Go.Proofs
open Sd (mQ eW eo)
def pA(a b:Pick):Int:=if sZ a.bS b.bS≠0 then sZ a.bS b.bS else fQ a b
theorem cmpE_eq(a b:Pick):jI a b=some (pA a b):=by
 unfold jI
 simp only [Sd.lD,mK,ze,cmp_or2]
 rfl
def z0:Pick:=⟨⟨[],[],[],[]⟩,0,0,0,0,0⟩
def nmF(b:Pick)(l:List Pick):Pick:=l.foldl (fun b x=>if pA x b<0 then x else b) b
def nm:List Pick->Pick
 | []=>z0
 |p::l=>nmF p l
theorem name_at{l:List Pick}(hl:l.length<=1000):oS l=some (nm l):=by
 unfold oS
 cases l with
 |nil=>rw [if_pos zc];rfl
 |cons p l=>
  rw [if_neg so]
  unfold eu
  rw [if_neg so,show nZ (p::l) (0:Int)=some p from rfl,ze]
  have key:∀(k i:Nat)(b:Pick),i+k=(p::l).length->cI (c9 (p::l)) ((i:Int),b.a7.bI,b.a7.bw,b.a7.ba,b.a7.bL,b.bS,b.bv,b.cg,b.bG,b.bT)=
    some (let c:=nmF b ((p::l).drop i);(c.a7.bI,c.a7.bw,c.a7.ba,c.a7.bL,c.bS,c.bv,c.cg,c.bG,c.bT)):=by
   intro k
   induction k with
   |zero=>
    intro i b hi
    obtain rfl:i=(p::l).length:=by omega
    rw [qV (o:=(b.a7.bI,b.a7.bw,b.a7.ba,b.a7.bL,b.bS,b.bv,b.cg,b.bG,b.bT))]
    ·rw [List.drop_length];rfl
    ·unfold c9
     dsimp only
     rw [if_neg zc]
   |succ k j=>
    intro i b hi
    have f:i<(p::l).length:=by omega
    rw [Fz f]
    have g:c9 (p::l) ((i:Int),b.a7.bI,b.a7.bw,b.a7.ba,b.a7.bL,b.bS,b.bv,b.cg,b.bG,b.bT)=
      some (.next (let c:=(if pA (p::l)[i] b<0 then(p::l)[i]else b);(((i+1:Nat):Int),c.a7.bI,c.a7.bw,c.a7.ba,c.a7.bL,c.bS,c.bv,c.cg,c.bG,c.bT))):=by
     unfold c9
     dsimp only
     rw [if_pos (by simp at f⊢;omega),pI (i:=i) rfl f,ze,cmpE_eq,ze,w64 za (by simp at f hl;omega)]
     by_cases h:pA (p::l)[i] b<0
     ·rw [if_pos (by simpa using h),if_pos h,ze];rfl
     ·rw [if_neg (by simpa using h),if_neg h];rfl
    rw [rN g]
    exact j (i+1) _ za
  have:=key l.length 1 p so
  have h1:(1:Int)=((1:Nat):Int):=rfl
  rw [h1,this]
  rfl
theorem usable1_at{s:ah}(hs:gB s){v:ae}(f:gA v){p:Pick}(hp:cW p):lM s v p=some ((used s v p).1,(used s v p).2.2):=by
 unfold lM
 rw [qm hs,ze,if_neg zc,lV f,ze,if_neg zc,(nK hs f hp).1]
 rfl
noncomputable def phU (s:ah) (v:ae) (p:Pick):Ph:=(used s v p).1
theorem eusable_at{s:ah}(hs:gB s){v:ae}(j:gA v){l L:List Pick}(k:da l=some L)(hl:L.length<=200)(hp:∀p∈L,cW p):nD s v l=some (ca s v L,(ca s v L).map (phU s v),0):=by
 unfold nD
 rw [qm hs,ze,if_neg zc,lV j,ze,if_neg zc,k,ze]
 have hu:∀i,(ca s v (L.take i)).length<=i:=fun i=>by
  have:=Gt (fun p=>(used s v p).2.2) (L.take i)
  have B:(L.take i).length<=i:=by rw [EG];omega
  unfold ca;omega
 have:Ok (cI (kN L s v) ((0:Int),([]:List aa),([]:List aw))) (fun o=>o=(ca s v L,(ca s v L).map (phU s v))):=by
  refine GV (fun x:Int×List Pick×List aw=>∃i:Nat,i<=L.length∧x=((i:Int),ca s v (L.take i),(ca s v (L.take i)).map (phU s v))) (fun x=>((L.length:Int)-x.1).toNat) ?_ ⟨0,DJ _,rfl⟩
  rintro x ⟨i,i0,rfl⟩
  unfold kN
  dsimp only
  refine GY (fun r=>?_) (fun q=>G4 ?_)
  rotate_left
  ·obtain rfl:i=L.length:=by omega
   rw [GM]
  have hi:i<L.length:=by omega
  have u:=hu i
  rw [sa za za,ze,pI rfl hi,ze,usable1_at hs j (hp _ (Dp hi)),ze,w64 za za]
  have f:ca s v (L.take (i+1))=ca s v (L.take i)++(if(used s v L[i]).2.2=true then [L[i]]else []):=by
   unfold ca
   rw [rr hi,Gi]
   congr 1
   by_cases h:(used s v L[i]).2.2=true<;>simp [h]
  by_cases h:(used s v L[i]).2.2=true
  ·rw [if_pos h]at f⊢
   rw [et so,ze,et so,ze]
   refine GX ⟨i+1,hi,?_⟩ zd
   rw [f]
   simp [phU]
  ·rw [if_neg h]at f⊢
   refine GX ⟨i+1,hi,?_⟩ zd
   rw [f]
   simp
 have g:=hu L.length
 rw [GM]at g
 rw [this.eq,ze]
 dsimp only
 rw [if_neg so]
noncomputable def cmpA (s:ah) (v:ae) (a b:Pick):Int:=if cmpF (phU s v a) (phU s v b)≠0 then cmpF (phU s v a) (phU s v b)else fQ a b
theorem oA(s:ah)(v:ae):Tot (cmpA s v):=(cmpF_tot.map (phU s v)).or df
theorem qe{s:ah}{v:ae}{a b:Pick}(h:cmpA s v a b=0):a=b:=by
 unfold cmpA at h
 exact lU (nS h).2
noncomputable def mz (s:ah) (v:ae) (U:List Pick):List Pick:=dj (fun a b=>decide (cmpA s v a b<0)) U
theorem ij{α:Type}{c:α->α->Int}(hc:Tot c)(g:∀x y,c x y=0->x=y){l:List α}(hl:l.Nodup):(dj (fun x y=>decide (c x y<0)) l).Pairwise (fun x y=>c x y<0):=by
 have h1:=sortI_le hc l
 have j:(dj (fun x y=>decide (c x y<0)) l).Nodup:=(cS _ l).nodup_iff.2 hl
 refine(h1.and j).imp fun{x y}h=>?_
 rcases Int.lt_or_eq_of_le h.1 with f|f
 ·exact f
 ·exact(h.2 (g x y f)).elim
theorem ik{α:Type}{c:α->α->Int}(hc:Tot c){l:List α}(h:l.Pairwise (fun x y=>c x y<0)):l.Nodup:=h.imp fun{x y}h e=>by
 subst e
 have:=hc.refl x
 omega
noncomputable abbrev cP:Pick->Pick->Bool:=fun x y=>decide (fQ x y<0)
noncomputable abbrev cE:ar->ar->Bool:=fun x y=>decide (pA x.eR y.eR<0)
noncomputable def pX (s:ah) (v:ae) (O:List Pick):List (List Pick)×List Pick:=rounds s.ac.cq.toNat (pn (fun p=>(phU s v p).bv) s.ac.cw) (oE s.ac (phU s v)) O.length O
noncomputable def sol (s:ah) (v:ae) (m:List Pick):bH:=((qN (mat s v m) s).getD (⟨[],⟨⟨0,0,0⟩,0,0,0,⟨⟨0,0,0⟩,⟨0,0,0⟩⟩⟩,⟨0,0⟩,0⟩,0)).1
noncomputable def evM (s:ah) (v:ae) (m:List Pick):ar:=⟨nm m,sol s v m⟩
def UsOk(s:ah)(v:ae)(U:List Pick):Prop:=∀p∈U,cW p∧(used s v p).2.2=true
theorem usable_all{s:ah}{v:ae}{U:List Pick}(h:UsOk s v U):ca s v U=U:=List.filter_eq_self.2 fun p hp=>(h p hp).2
theorem qa{m:List Pick}(hm:m.Pairwise fun x y=>fQ x y<0)(hl:m.length<=1000):da m=some m:=by
 obtain⟨r,e,h1,f, -⟩:=oM hl
 rw [e,ip h1 hm f]
theorem solve_group{s:ah}(hs:gB s){v:ae}(k:gA v){m:List Pick}(hm:m.Pairwise fun x y=>fQ x y<0)(hu:UsOk s v m)(hl:m.length<=19)(q:m≠ []):ja s v m=some (sol s v m,0)∧(sol s v m).ew=m:=by
 have j:=gather_at hs k (qa hm za) za (fun p hp=>(hu p hp).1)
 rw [usable_all hu]at j
 obtain⟨r,e, -,h1, -⟩:=solve_ok hs (mat_ok hs k hl hu)
 obtain⟨f,g, -⟩:=h1 (by simpa [mat]using q)
 obtain⟨u,B⟩:=r
 simp only at f g
 subst f
 have:sol s v m=u:=by unfold sol;rw [e];rfl
 rw [solve_at j,e,this]
 exact⟨rfl,g⟩
theorem PhOk_of{s:ah}(hs:gB s){v:ae}(g:gA v){U:List Pick}(hu:UsOk s v U):PhOk s.ac (U.map (phU s v)):=fun b f=>by
 obtain⟨p,hp,rfl⟩:=List.mem_map.1 f
 have:=(nK hs g (hu p hp).1).2 (hu p hp).2
 exact⟨this.ph,this.reach⟩
theorem names_eq(x y:ar):lw ⟨⟩ x y=some (pA x.eR y.eR):=by unfold lw;rw [cmpE_eq];rfl
theorem ins_event{l:List ar}(f:l.length<=1000):dp 0 (l.length:Int) l=some (dj cE l):=by
 refine Eq.trans (b:=insG (fun x y=>lw ⟨⟩ x y) (fun c=>decide (c<0)) 0 (l.length:Int) l) rfl (insG_at (S:=fun _=>True) (fun x y _ _=>⟨_,names_eq x y,rfl⟩) (fun _ _=>trivial) f)
theorem sort_event{l:List ar}(q:l.length<=12):dW l=some (dj cE l):=by
 unfold dW
 obtain⟨b,j, -⟩:=bits_ok (n:=FN .u64 (l.length:Int)) (u64_range _)
 rw [j,ze]
 have h1:(cI (cv l.length 0 l b) ())=some (dj cE l):=by
  refine qV ?_
  unfold cv
  rw [w64 za za,if_pos so,ins_event za]
  rfl
 have k:cG 0 (l.length:Int) b l=some (dj cE l):=by
  unfold cG
  refine Bk ⟨1,?_⟩ fun n s hs=>?_
  ·show((cI (cv l.length 0 l b) ()).bind fun g=>some g)=_
   rw [h1];rfl
  ·cases n with
   |zero=>cases hs
   |succ n=>
    have f:((cI (cv l.length 0 l b) ()).bind fun g=>some g)=some s:=hs
    rw [h1]at f
    exact(E9 f).symm
 rw [k];rfl
theorem nodup_map{α β:Type}{f:α->β}{l:List α}(hl:l.Nodup)(h:∀x∈l,∀y∈l,f x=f y->x=y):(l.map f).Nodup:=by
 unfold Gd at hl⊢
 rw [GK]
 refine List.pairwise_iff_forall_sublist.2 fun{a b}g e=>?_
 exact List.pairwise_iff_forall_sublist.1 hl g (h a (g.subset zc) b (g.subset zc) e)
theorem nodup_of_map{α β:Type}{f:α->β}{l:List α}(h:(l.map f).Nodup):l.Nodup:=by
 unfold Gd at h⊢
 rw [GK]at h
 exact h.imp fun{a b}g e=>g (congrArg f e)
theorem inj_of_map{α β:Type}{f:α->β}:∀{l:List α},(l.map f).Nodup->∀x∈l,∀y∈l,f x=f y->x=y
 | [],_,x,k,_,_,_=>by cases k
 |a::l,h,x,k,y,q,e=>by
  rw [Ed,Eb]at h
  rcases List.mem_cons.1 k with rfl|j
  ·rcases List.mem_cons.1 q with rfl|g
   ·rfl
   ·exact(h.1 (by rw [e];exact Gy g)).elim
  ·rcases List.mem_cons.1 q with rfl|g
   ·exact(h.1 (by rw [<-e];exact Gy j)).elim
   ·exact inj_of_map h.2 x j y g e
def uAt(U:List Pick)(i:Int):Pick:=U.getD i.toNat z0
theorem uAt_get{U:List Pick}{i:Int}(f:0<=i)(h1:i<U.length):nZ U i=some (uAt U i):=by
 rw [pI (i:=i.toNat) za za]
 unfold uAt
 rw [Eo,zf za];rfl
theorem uAt_mem{U:List Pick}{i:Int}(f:0<=i)(h1:i<U.length):uAt U i∈U:=by
 unfold uAt
 rw [Eo,zf za]
 exact Dp _
theorem uAt_lt{U:List Pick}(f:U.Pairwise fun x y=>fQ x y<0){i k:Int}(g:0<=i)(h1:i<k)(j:k<U.length):fQ (uAt U i) (uAt U k)<0:=by
 unfold uAt
 rw [Eo,zf za,Eo,zf za]
 exact List.pairwise_iff_getElem.1 f _ _ _ _ za
theorem uAt_ph{s:ah}{v:ae}{U:List Pick}{i:Int}(f:0<=i)(h1:i<U.length):pr (U.map (phU s v)) i=phU s v (uAt U i):=by
 unfold pr uAt
 rw [Eo,zf so,Eo,zf za]
 simp
def pk(U:List Pick)(o:List Int)(j:Nat):Pick:=uAt U (ic o j)
theorem ci_strict{l:List Int}(hl:l.Nodup):(dj ci l).Pairwise (· < ·):=(ij tg (fun x y h=>xj.1 h) hl).imp fun{x y}h=>by unfold sZ at h;repeat' split at h<;>omega
theorem idx_sort{U:List Pick}(q:U.Pairwise fun x y=>fQ x y<0){l:List Int}(r:l.Nodup)(hl:∀i∈l,0<=i∧i<U.length):(dj ci l).map (uAt U)=dj cP (l.map (uAt U)):=by
 have g:∀i∈dj ci l,0<=i∧i<U.length:=fun i hi=>hl i ((cS _ l).mem_iff.1 hi)
 have h1:((dj ci l).map (uAt U)).Pairwise fun x y=>fQ x y<0:=by
  rw [GK]
  refine(List.pairwise_iff_forall_sublist.2 fun{a b}f=>?_)
  have j:=List.pairwise_iff_forall_sublist.1 (ci_strict r) f
  have u:=g a (f.subset zc);have B:=g b (f.subset zc)
  exact uAt_lt q u.1 j B.2
 have k:(l.map (uAt U)).Nodup:=by
  have:=ik df h1
  refine((cS ci l).map (uAt U)).nodup_iff.1 this
 refine lA df h1 (ij df (fun _ _=>lU) k) fun x=>?_
 rw [(cS cP _).mem_iff,((cS ci l).map (uAt U)).mem_iff]
theorem pk_sorted{s:ah}{v:ae}{U:List Pick}(r:U.Pairwise fun x y=>fQ x y<0){o:List Int}(ho:ov (U.map (phU s v)) o):(DG U.length).map (pk U o)=mz s v U:=by
 have u:(DG U.length).map (pk U o)=o.map (uAt U):=by
  refine List.ext_getElem (by simp [ho.len]) fun j h1 C=>?_
  simp only [GF,List.getElem_range]
  unfold pk ic
  rw [Eo,zf (by simpa using C)];rfl
 rw [u]
 have hm:∀i,i∈o↔0<=i∧i<U.length:=fun i=>by rw [ho.perm.mem_iff,ids_mem,Ea]
 have h1:(o.map (uAt U)).Pairwise fun x y=>cmpA s v x y<0:=by
  rw [GK]
  refine(List.pairwise_iff_forall_sublist.2 fun{a b}g=>?_)
  have f:=List.pairwise_iff_forall_sublist.1 ho.lex g
  have k:=(hm a).1 (g.subset zc);have q:=(hm b).1 (g.subset zc)
  unfold Lex at f
  dsimp only at f
  rw [uAt_ph k.1 k.2,uAt_ph q.1 q.2]at f
  unfold cmpA
  rcases f with h|⟨h,B⟩
  ·rw [if_pos za];exact h
  ·rw [if_neg za];exact uAt_lt r k.1 B q.2
 refine lA (oA s v) h1 (ij (oA s v) (fun _ _=>qe) (ik df r)) fun x=>?_
 unfold mz
 rw [(cS _ U).mem_iff,Gx]
 constructor
 ·rintro⟨i,hi,rfl⟩
  exact uAt_mem ((hm i).1 hi).1 ((hm i).1 hi).2
 ·intro D
  obtain⟨i,hi,rfl⟩:=List.mem_iff_getElem.1 D
  refine⟨(i:Int),(hm _).2 ⟨za,za⟩,?_⟩
  unfold uAt
  rw [Int.toNat_natCast,Eo,zf hi];rfl
theorem find_at{s:ah}(hs:gB s){v:ae}(hv:gA v){l L:List Pick}(hL:da l=some L)(d1:L.Pairwise fun x y=>fQ x y<0)(hl:L.length<=200)(hp:∀p∈L,cW p)(hu:(ca s v L).length<=19):
  kk s v l=some (dj cE ((pX s v (mz s v (ca s v L))).1.map fun g=>evM s v (dj cP g)),dj cP (pX s v (mz s v (ca s v L))).2,0):=by
 have hU:(ca s v L).Pairwise fun x y=>fQ x y<0:=d1.filter _
 have a5:UsOk s v (ca s v L):=fun p h=>by
  have:=List.mem_filter.1 h
  exact⟨hp p this.1,this.2⟩
 unfold kk
 rw [eusable_at hs hv hL hl hp,ze,if_neg zc]
 generalize ca s v L=U at hu hU a5⊢
 have Y:(U.map (phU s v)).length=U.length:=Ea ..
 obtain⟨o,ho,⟨⟨G,Z,e⟩,eA,r1,r2,r3⟩⟩:=associate_at hs (F:=U.map (phU s v)) za (PhOk_of hs hv a5)
 simp only at r1 r2 r3
 subst r1
 rw [eA,ze,if_neg zc]
 rw [Y]at r2 r3
 have u:∀j∈DG U.length,0<=ic o j∧ic o j<U.length:=fun j r=>by
  have:=ho.range (j:=j) (by rw [Y];exact List.mem_range.1 r)
  rw [Y]at this;exact this
 have b1:∀j∈DG U.length,phU s v (pk U o j)=plP (U.map (phU s v)) o j:=fun j r=>by
  unfold plP pk
  rw [uAt_ph (u j r).1 (u j r).2]
 have a9:((DG U.length).map (pk U o)).Nodup:=by
  rw [pk_sorted hU ho]
  exact(cS _ U).nodup_iff.2 (ik df hU)
 have J:∀x∈DG U.length,∀y∈DG U.length,pk U o x=pk U o y->x=y:=inj_of_map a9
 have W := pf (least := s.ac.cq.toNat) (win := pn (fun j => (plP (U.map (phU s v)) o j).bv) s.ac.cw) (mem := oE s.ac (plP (U.map (phU s v)) o)) (win' := pn (fun p => (phU s v p).bv) s.ac.cw) (mem' := oE s.ac (phU s v)) (f := pk U o) (DG U.length) J (win_ok _ _ _) U.length (DG U.length) (List.Sublist.refl _) (fun l' c5 => by
  have h1:∀x∈l',phU s v (pk U o x)=plP (U.map (phU s v)) o x:=fun x O=>b1 x (c5.subset O)
  refine⟨winK_map l' fun x O=>by rw [h1 x O],memK_map fun x O=>h1 x ((rn _ _ l').subset O)⟩)
 rw [pk_sorted hU ho]at W
 have c1:(mz s v U).length=U.length:=eI _ _
 have hR:pX s v (mz s v U)=((rnd s.ac (U.map (phU s v)) o U.length (DG U.length)).1.map (FM (pk U o)),(rnd s.ac (U.map (phU s v)) o U.length (DG U.length)).2.map (pk U o)):=by
  unfold pX
  rw [c1];exact W
 have q:=np (win_ok s.ac (plP (U.map (phU s v)) o) s.ac.cw) (least:=s.ac.cq.toNat) (by have:=hs.least.1;omega) U.length (DG U.length) zc Gz
 have hlen:=qM (win:=pn (fun j=>(plP (U.map (phU s v)) o j).bv) s.ac.cw) (mem:=oE s.ac (plP (U.map (phU s v)) o)) (least:=s.ac.cq.toNat) U.length (DG U.length)
 rw [hR]
 generalize d0:rnd s.ac (U.map (phU s v)) o U.length (DG U.length)=rd at r2 r3
 have b2:rounds s.ac.cq.toNat (pn (fun j=>(plP (U.map (phU s v)) o j).bv) s.ac.cw) (oE s.ac (plP (U.map (phU s v)) o)) U.length (DG U.length)=rd:=d0
 rw [b2]at q hlen
 obtain⟨A,B⟩:=rd
 simp only at r2 r3 q hlen⊢
 have E:∀g∈A,g.Nodup∧g.Sublist A.flatten:=fun g C=>by
  have h1:g.Sublist A.flatten:=HJ C
  have h2:(A.flatten++B).Nodup:=q.nodup_iff.2 Gz
  exact⟨(List.nodup_append.1 h2).1.sublist h1,h1⟩
 have H:∀g∈A,∀j∈g,j∈DG U.length:=fun g C j r=>q.mem_iff.1 (List.mem_append.2 (.inl ((E g C).2.subset r)))
 have T:∀j∈B,j∈DG U.length:=fun j r=>q.mem_iff.1 (List.mem_append.2 (.inr r))
 have b6:B.Nodup:=by
  have h2:(A.flatten++B).Nodup:=q.nodup_iff.2 Gz
  exact(List.nodup_append.1 h2).2.1
 have Q:∀{g:List Nat},g.Nodup->(∀j∈g,j∈DG U.length)->(g.map (ic o)).Nodup:=fun{g}C r=>by
  refine nodup_of_map (f:=uAt U) ?_
  rw [Gv]
  exact nodup_map C fun x O y hy h=>J x (r x O) y (r y hy) h
 have I:∀g:List Nat,g.Nodup->(∀j∈g,j∈DG U.length)->(dj ci (g.map (ic o))).map (uAt U)=dj cP (g.map (pk U o)):=fun g C r=>by
  rw [idx_sort hU (Q C r) (fun i hi=>by obtain⟨j,N,rfl⟩:=List.mem_map.1 hi;exact u j (r j N)),Gv]
  rfl
 have c0:∀g∈G,∃a∈A,g.dg=dj ci (a.map (ic o)):=fun g C=>by
  have:g.dg∈G.map (·.dg):=Gy C
  rw [r2]at this
  obtain⟨a,D,e⟩:=List.mem_map.1 this
  exact⟨a,D,e.symm⟩
 have d4:G.length=A.length:=by
  have:=congrArg List.length r2
  simpa using this
 have d6:A.flatten.length+B.length=U.length:=by
  have:=q.length_eq
  simpa using this
 have d3:2*A.length<=A.flatten.length:=by
  have:∀X:List (List Nat),(∀g∈X,2<=g.length)->2*X.length<=X.flatten.length:=by
   intro X
   induction X with
   |nil=>intro _;simp
   |cons x X ih=>
    intro h
    have:=ih fun g C=>h g (GH _ C)
    have:=h x zc
    rw [Gq,ET,DW];omega
  exact this A fun g C=>by have:=hlen g C;have:=hs.least.1;omega
 have c4:∀a∈A,a.length<=19:=fun a D=>by have:=(E a D).2.length_le;omega
 have c3:∀g∈G,ja s v (g.dg.map (uAt U))=some (sol s v (g.dg.map (uAt U)),0)∧(sol s v (g.dg.map (uAt U))).ew=g.dg.map (uAt U)∧(g.dg.map (uAt U)).length<=19∧(∀i∈g.dg,0<=i∧i<U.length):=fun g C=>by
  obtain⟨a,D,e⟩:=c0 g C
  have e2:g.dg.map (uAt U)=dj cP (a.map (pk U o)):=by rw [e,I a (E a D).1 (H a D)]
  have c6:(a.map (pk U o)).Nodup:=nodup_map (E a D).1 fun x O y hy h=>J x (H a D x O) y (H a D y hy) h
  have b0:(dj cP (a.map (pk U o))).length=a.length:=by rw [eI,Ea]
  have d2:=c4 a D
  have c7:dj cP (a.map (pk U o))≠ []:=fun h=>by
   rw [h]at b0
   have:=hlen a D;have:=hs.least.1
   simp at b0;omega
  obtain ⟨q1, q2⟩ := solve_group hs hv (m := dj cP (a.map (pk U o))) (ij df (fun _ _ => lU) c6) (fun p c8 => by
   have:=(cS cP _).mem_iff.1 c8
   obtain⟨j,r,rfl⟩:=List.mem_map.1 this
   have N:=u j (H a D j r)
   exact a5 _ (uAt_mem N.1 N.2)) za c7
  rw [e2]
  refine⟨q1,q2,za,fun i hi=>?_⟩
  rw [e]at hi
  obtain⟨j,r,rfl⟩:=List.mem_map.1 ((cS ci _).mem_iff.1 hi)
  exact u j (H a D j r)
 have b4:cI (ml (G,Z,0) (U,U.map (phU s v),0) s v) ((0:Int),([]:List ar))=some (.inl (G.map fun g=>evM s v (g.dg.map (uAt U)))):=by
  refine pK (l:=G) (f:=fun g=>evM s v (g.dg.map (uAt U))) (g:=fun x=>(Sum.inl x:List ar⊕(List ar×List Pick×Int))) (fun i hi acc D=>?_) (fun acc D=>?_)
  ·obtain⟨q1,q2,q3,q4⟩:=c3 _ (Dp hi)
   unfold ml
   dsimp only
   rw [if_pos so,pI (i:=i) rfl hi,ze]
   have b3:cI (mj G[i] (U,U.map (phU s v),0) (i:Int) acc) ((0:Int),([]:List aa))=some ((i:Int),acc,G[i].dg.map (uAt U)):=by
    refine pK (l:=G[i].dg) (f:=uAt U) (g:=fun x=>((i:Int),acc,x)) (fun k hk a6 c2=>?_) (fun a6 c2=>?_)
    ·have K:=q4 _ (Dp hk)
     rw [Ea]at q3
     unfold mj
     dsimp only
     rw [if_pos so,pI (i:=k) rfl hk,ze,uAt_get K.1 K.2,ze,et so,ze,w64 za za]
     rfl
    ·unfold mj
     dsimp only
     rw [if_neg zc]
   rw [b3,ze]
   dsimp only
   rw [q1,ze,if_neg zc]
   dsimp only
   rw [q2,name_at za,ze,et so,ze,w64 za za]
   rfl
  ·unfold ml
   dsimp only
   rw [if_neg zc]
 have b5:cI (mm (G,Z,0) (U,U.map (phU s v),0)) ((0:Int),([]:List aa))=some (Z.map (uAt U)):=by
  have hZ:∀i∈Z,0<=i∧i<U.length:=fun i hi=>by
   rw [r3]at hi
   obtain⟨j,r,rfl⟩:=List.mem_map.1 ((cS ci _).mem_iff.1 hi)
   exact u j (T j r)
  have d5:Z.length<=19:=by rw [r3,eI,Ea];omega
  refine pK (l:=Z) (f:=uAt U) (g:=fun x=>x) (fun k hk acc D=>?_) (fun acc D=>?_)
  ·have K:=hZ _ (Dp hk)
   unfold mm
   dsimp only
   rw [if_pos so,pI (i:=k) rfl hk,ze,uAt_get K.1 K.2,ze,et so,ze,w64 za za]
   rfl
  ·unfold mm
   dsimp only
   rw [if_neg zc]
 rw [b4,ze]
 dsimp only
 rw [sort_event (by rw [Ea];omega),ze,b5,ze]
 have e1:G.map (fun g=>evM s v (g.dg.map (uAt U)))=(A.map (FM (pk U o))).map fun g=>evM s v (dj cP g):=by
  have:G.map (fun g=>evM s v (g.dg.map (uAt U)))=(G.map (·.dg)).map fun is=>evM s v (is.map (uAt U)):=by rw [Gv];rfl
  rw [this,r2,Gv,Gv]
  refine Gu fun g C=>?_
  simp only [H0]
  rw [I g (E g C).1 (H g C)]
 have e2:Z.map (uAt U)=dj cP (B.map (pk U o)):=by rw [r3,I B b6 T]
 rw [e1,e2]
end Go.Dw.Re
set_option maxRecDepth 100000
set_option maxHeartbeats 4000000
namespace Go.Dw.Re
open Go.Dw Go.Proofs
open Sd (mQ eW eo)
theorem used_form{a:ah}(g:gB a){v:ae}(f:gA v){p:Pick}(hp:cW p)(hu:(used a v p).2.2=true):∃e,nq v p.a7 p.bS=some e∧phU a v p=⟨e.bU,p.bv,p.cg,1⟩:=by
 have h1:=(nK g f hp).1
 unfold eC at h1
 rw [n7 hp,ze,if_neg zc,At_eq f.lens (lV f),ze]at h1
 cases h:nq v p.a7 p.bS with
 |none=>
  rw [h]at h1
  dsimp only at h1
  rw [if_pos zc]at h1
  have:=congrArg (fun r=>r.2.2) (E9 h1)
  rw [hu]at this
  cases this
 |some e=>
  rw [h]at h1
  dsimp only at h1
  rw [if_neg zc]at h1
  have he:=epAt_ok f h
  obtain⟨z,j, -⟩:=qo g.tab g.box (a:=⟨e.bU,p.bv,p.cg,1⟩) (pV he hp)
  rw [j,ze]at h1
  split at h1
  ·have:=congrArg (fun r=>r.2.2) (E9 h1)
   rw [hu]at this
   cases this
  ·refine⟨e,rfl,?_⟩
   unfold phU
   rw [<-E9 h1]
theorem costS_zero{cap:Int}(hc:1<=cap){t:Int}{f:Ph->bz}:∀(ps:List Ph),(∀a∈ps,a.cz=1)->cC cap ps (ps.map f) t<=0->∀a∈ps,res (f a) t=0
 | [],_,_,a,g=>by cases g
 |b::ps,hw,h,a,g=>by
  have h1:cC cap (b::ps) ((b::ps).map f) t=jW cap b.cz (f b) t+cC cap ps (ps.map f) t:=rfl
  have q:=oR (cap:=cap) za (t:=t) ps (ps.map f) (fun x j=>by have:=hw x (GH _ j);omega)
  have r:jW cap b.cz (f b) t=min cap (res (f b) t):=by unfold jW;rw [hw b zc];omega
  have u:0<=res (f b) t:=by unfold res;omega
  have k:cC cap ps (ps.map f) t<=0:=by omega
  rcases List.mem_cons.1 g with rfl|g
  ·omega
  ·exact costS_zero hc ps (fun x j=>hw x (GH _ j)) k a g
theorem zero_costS{cap:Int}(hc:1<=cap){t:Int}{f:Ph->bz}:∀(ps:List Ph),(∀a∈ps,a.cz=1)->(∀a∈ps,res (f a) t=0)->cC cap ps (ps.map f) t=0
 | [],_,_=>rfl
 |b::ps,hw,h=>by
  have h1:cC cap (b::ps) ((b::ps).map f) t=jW cap b.cz (f b) t+cC cap ps (ps.map f) t:=rfl
  have j:jW cap b.cz (f b) t=min cap (res (f b) t):=by unfold jW;rw [hw b zc];omega
  have k:=h b zc
  have:=zero_costS hc ps (fun x g=>hw x (GH _ g)) (fun x g=>h x (GH _ g))
  omega
theorem mis_zero{q:ak}(g:PV q){p:ag}(h:In q.bn p){t:Int}(k:∀b∈q.bK,res (zn q ⟨p,p⟩ b) t=0):mis q p=0:=by
 obtain⟨C, -,r⟩:=pL g h
 have hw:∀a∈q.bK,a.cz=1:=fun a j=>(g.ph a j).1.weight
 have B:=zero_costS (f:=zn q ⟨p,p⟩) g.cap.1 q.bK hw k
 have hl:=g.len
 obtain⟨e,he,hle⟩:=least_end (cap:=q.dw) (by have:=g.cap;omega) (ps:=q.bK) (zs:=q.bK.map (zn q ⟨p,p⟩)) (fun h=>by rw [List.map_eq_nil_iff]at h;rw [h]at hl;simp at hl) (fun a j=>by have:=hw a j;omega) (fun z k=>by obtain⟨b,u,rfl⟩:=List.mem_map.1 k;exact(zn_at g h u).2.2.1) t
 have:=r.least e he
 have:=(mis_range g h).1
 simp only at*
 omega
theorem fit_all{s:ah}(hs:gB s){ph:List Ph}(hp:PhOk s.ac ph)(hl:1<=ph.length∧ph.length<=64)(k:(loc s.ac ph).b8<=0):∀b∈ph,fits s.ac ph b=true:=by
 have B:=prob_ok hs hp hl
 obtain⟨-,j, -⟩:=loc_at hs hp hl
 obtain⟨t,g,q⟩:=pL B j.inn
 rw [j.val]at g
 simp only [DB,Prod.mk.injEq]at g
 obtain⟨g,e2, -⟩:=g
 have hc:=q.cost
 simp only at hc
 rw [<-g, <-e2]at hc
 have hw:∀a∈ph,a.cz=1:=fun a r=>(hp a r).1.weight
 have:=costS_zero (f:=zn (pu s.ac ph) ⟨(loc s.ac ph).bM,(loc s.ac ph).bM⟩) (t:=(loc s.ac ph).bS) hs.cap.1 ph hw (by rw [show cC s.ac.dw ph (ph.map _) _=(loc s.ac ph).b8 from hc.symm];exact k)
 intro b u
 unfold fits
 rw [this b u]
 simpa using hs.limit.1
theorem sortI_self{α:Type}{c:α->α->Int}(hc:Tot c)(f:∀x y,c x y=0->x=y){l:List α}(h:l.Pairwise fun x y=>c x y<0):dj (fun x y=>decide (c x y<0)) l=l:=
 lA hc (ij hc f (ik hc h)) h fun _=>(cS _ l).mem_iff
theorem rnd_one{s:ah}(hs:gB s){v:ae}{O:List Pick}(h1:s.ac.cq.toNat<=O.length)(f:O.length<=16)(hw:∀p∈O,∀i∈O,(phU s v p).bv-(phU s v i).bv<=s.ac.cw)
  (hf:∀b∈O.map (phU s v),fits s.ac (O.map (phU s v)) b=true):pX s v O=([O],[]):=by
 have hle:=hs.least.1
 have hm:oE s.ac (phU s v) O=O:=List.filter_eq_self.2 fun p hp=>hf _ (Gy hp)
 have k:∀n,rounds s.ac.cq.toNat (pn (fun p=>(phU s v p).bv) s.ac.cw) (oE s.ac (phU s v)) n ([]:List Pick)=([],[]):=fun n=>by cases n<;>rfl
 unfold pX
 match O,h1,f,hw,hm with
 | [],h1,_,_,_=>simp at h1;omega
 |i::r,h1,f,hw,hm=>
  have g:pn (fun p=>(phU s v p).bv) s.ac.cw (i::r)=i::r:=by
   show((i::r).takeWhile fun j=>decide ((phU s v j).bv-(phU s v i).bv<=s.ac.cw)).take 16=_
   have:(i::r).takeWhile (fun j=>decide ((phU s v j).bv-(phU s v i).bv<=s.ac.cw))=i::r:=by
    have key:∀(p:Pick->Bool)(l:List Pick),(∀x∈l,p x=true)->l.takeWhile p=l:=by
     intro p l
     induction l with
     |nil=>intro _;rfl
     |cons x l B=>
      intro h
      rw [HN (h x zc),B fun y u=>h y (GH _ u)]
    exact key _ _ fun x q=>by simpa using hw x q i zc
   rw [this,HQ f]
  show rounds _ _ _ (r.length+1) (i::r)=_
  rw [gd,g,hm,if_pos ⟨h1,h1⟩]
  have:(i::r).filter (fun x=>decide (x∉i::r))=[]:=by
   rw [List.filter_eq_nil_iff]
   intro x q
   simp only [decide_eq_true_eq]
   exact fun h=>h q
  rw [this,k]
end Go.Dw.Re
set_option maxRecDepth 100000
set_option maxHeartbeats 4000000
namespace Go.Dw.Re
open Go.Dw Go.Proofs
open Sd (mQ eW eo)
noncomputable def fE (s:ah) (v:ae) (U:List Pick):List ar:=dj cE ((pX s v (mz s v U)).1.map fun g=>evM s v (dj cP g))
noncomputable def fR (s:ah) (v:ae) (U:List Pick):List Pick:=dj cP (pX s v (mz s v U)).2
structure Gr(s:ah)(v:ae)(U g:List Pick):Prop where
 least:s.ac.cq.toNat<=g.length
 len:g.length<=U.length
 nd:g.Nodup
 sub:∀p∈g,p∈U
 picks:(evM s v (dj cP g)).cU.ew=dj cP g
 asc:(dj cP g).Pairwise fun x y=>fQ x y<0
theorem oe{s:ah}(hs:gB s){v:ae}{U:List Pick}(j:U.Pairwise fun x y=>fQ x y<0):((pX s v (mz s v U)).1.flatten++(pX s v (mz s v U)).2).Perm U:=by
 have f:=ik df j
 have g:(mz s v U).Nodup:=(cS _ U).nodup_iff.2 f
 exact(np (win_ok s.ac (phU s v) s.ac.cw) (least:=s.ac.cq.toNat) (by have:=hs.least.1;omega) (mz s v U).length (mz s v U) (DA _) g).trans (cS _ U)
theorem group_at{s:ah}(hs:gB s){v:ae}(F:gA v){U:List Pick}(C:U.Pairwise fun x y=>fQ x y<0)(B:UsOk s v U)(hl:U.length<=19){g:List Pick}(D:g∈(pX s v (mz s v U)).1):Gr s v U g:=by
 have f:=oe hs (v:=v) C
 have u:=ik df C
 have h1:g.Sublist (pX s v (mz s v U)).1.flatten:=HJ D
 have E:=f.nodup_iff.2 u
 have r:g.Nodup:=(List.nodup_append.1 E).1.sublist h1
 have q:∀p∈g,p∈U:=fun p hp=>f.mem_iff.1 (List.mem_append.2 (.inl (h1.subset hp)))
 have j:=qM (win:=pn (fun p=>(phU s v p).bv) s.ac.cw) (mem:=oE s.ac (phU s v)) (least:=s.ac.cq.toNat) (mz s v U).length (mz s v U) g D
 have hlen:g.length<=U.length:=by
  have:=f.length_eq
  rw [ET]at this
  have:=h1.length_le
  omega
 have k:=ij df (fun _ _=>lU) r
 refine⟨j,hlen,r,q,?_,k⟩
 refine(solve_group hs F k (fun p hp=>B p (q p ((cS _ g).mem_iff.1 hp))) (by rw [eI];omega) fun h=>?_).2
 have:=eI cP g
 rw [h]at this
 have:=hs.least.1
 simp at*
 omega
theorem fE_mem{s:ah}{v:ae}{U:List Pick}{e:ar}:e∈fE s v U↔∃g∈(pX s v (mz s v U)).1,e=evM s v (dj cP g):=by
 unfold fE
 rw [(cS _ _).mem_iff,Gx]
 exact⟨fun⟨g,h,e⟩=>⟨g,h,e.symm⟩,fun⟨g,h,e⟩=>⟨g,h,e.symm⟩⟩
theorem pZ{l:List ar}(hl:l.length<=1000)(h:∀e∈l,e.cU.ew.length<=1000):lQ l l=some true:=by
 have f:∀i:Nat,i<l.length->iN l l (i:Int)=some (.next ((i+1:Nat):Int)):=fun i hi=>by
  unfold iN
  rw [if_pos so,pI (i:=i) rfl hi,ze,ze,if_neg zc,ze,ze,same_self (h _ (Dp hi)),ze,if_neg zc,w64 za za]
  rfl
 have he:iN l l ((l.length:Nat):Int)=some (.stop (.inl ())):=by
  unfold iN
  rw [if_neg zc]
 unfold lQ
 rw [if_neg zc,fJ l.length f he]
 rfl
theorem fE_len{s:ah}(hs:gB s){v:ae}{U:List Pick}(k:U.Pairwise fun x y=>fQ x y<0):(fE s v U).length<=U.length:=by
 unfold fE
 rw [eI,Ea]
 have f:=(oe hs (v:=v) k).length_eq
 have hlen:=qM (win:=pn (fun p=>(phU s v p).bv) s.ac.cw) (mem:=oE s.ac (phU s v)) (least:=s.ac.cq.toNat) (mz s v U).length (mz s v U)
 have key:∀X:List (List Pick),(∀g∈X,1<=g.length)->X.length<=X.flatten.length:=by
  intro X
  induction X with
  |nil=>intro _;simp
  |cons x X q=>
   intro h
   have:=q fun g j=>h g (GH _ j)
   have:=h x zc
   rw [Gq,ET,DW];omega
 have:=key (pX s v (mz s v U)).1 fun g j=>by have:=hlen g j;have:=hs.least.1;omega
 rw [ET]at f
 omega
theorem fR_len{s:ah}(hs:gB s){v:ae}{U:List Pick}(g:U.Pairwise fun x y=>fQ x y<0):(fR s v U).length<=U.length:=by
 unfold fR
 rw [eI]
 have f:=(oe hs (v:=v) g).length_eq
 rw [ET]at f
 omega
theorem find_ok{s:ah}(hs:gB s){v:ae}(j:gA v){l:List Pick}(hl:l.length<=19)(hp:∀p∈l,cW p):∃L,da l=some L∧L.Pairwise (fun x y=>fQ x y<0)∧(∀x,x∈L↔x∈l)∧L.length<=l.length∧
  (ca s v L).Pairwise (fun x y=>fQ x y<0)∧UsOk s v (ca s v L)∧(ca s v L).length<=l.length∧kk s v l=some (fE s v (ca s v L),fR s v (ca s v L),0):=by
 obtain⟨L,e,h1,f,g⟩:=oM (l:=l) za
 have hu:(ca s v L).length<=L.length:=Gt _ _
 exact⟨L,e,h1,f,g,h1.filter _,fun p h=>⟨hp p ((f p).1 (List.mem_filter.1 h).1),(List.mem_filter.1 h).2⟩,za,find_at hs j e h1 za (fun p h=>hp p ((f p).1 h)) za⟩
end Go.Dw.Re
