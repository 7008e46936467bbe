
import Derived.Test.YthkfkgoddhehcaaGreatEfLawSI
import Derived.Test.YthkfkgoddhehcaaGreatDwPlain
import Derived.Test.YthkfkgoddhehcaaGreatEfLawRS
set_option linter.unusedVariables false
set_option linter.unusedSimpArgs false
open Nat renaming eq_zero_or_pos->GY, le_refl->EB, le_trans->EO, mod_eq_of_lt->Hk, zero_le->EK
open List renaming append_assoc->ED, append_nil->GW, cons_append->Fw, dropLast->IS, dropLast_concat->IT, dropLast_concat_getLast->IU, drop_eq_getElem_cons->HI, drop_length->IV, drop_of_length_le->Hq, drop_zero->G7, filter->IW, filter_append->Hr, filter_congr->IX, filter_cons_of_neg->IY, filter_sublist->IZ, flatMap_append->I0, flatMap_cons->I1, foldl_cons->Hs, getD_eq_getElem?_getD->Fx, getElem?_set_ne->EX, getElem?_set_self->EY, getElem_drop->Ht, getElem_inj->I2, getElem_mem->FB, getElem_of_mem->HN, getElem_take->Hv, getElem_zip->I3, length_append->F0, length_cons->EZ, length_drop->FQ, length_filter_le->Hw, length_map->Fh, length_nil->E0, length_range->I4, length_set->Hx, length_singleton->Fy, length_take->FR, map_append->GL, map_cons->Fk, map_nil->Fl, mem_append->GC, mem_cons->GX, mem_cons_of_mem->HP, mem_map->I5, mem_or_eq_of_mem_set->I6, mem_singleton->GD, nil_append->E2, nodup_append->GF, nodup_cons->Fi, nodup_iff_pairwise_ne->I7, nodup_range->I8, pairwise_map->I9, perm_ext_iff_of_nodup->Ia, range->EH, range'->Ib, range'_succ->Ic, range_eq_range'->Ie, range_succ->Ig, replicate->EA, sublist_cons_self->Ih, sublist_flatten_of_mem->Ii, tail_cons->Ij, takeWhile_cons_of_neg->Ik, takeWhile_cons_of_pos->Il, take_append_drop->IE, take_of_length_le->IH, take_succ_cons->Im
open Go.IntKind renaming wrap->GV
open Bool renaming false_eq_true->FD, false_ne_true->Io, not_false->Ip, not_true->HV
open Go.Dw.Ok renaming bind->HZ, eq->H0, get->H2, loop->H5, nx->H7, ret->H9, st->Hb, tA->Hc, upto->Hd
open Int renaming lt_or_eq_of_le->Gp, toNat->G2

set_option maxRecDepth 100000
set_option maxHeartbeats 4000000
namespace Go.Dw.Ef
open Go.Dw Go.Proofs
theorem loop_sim{q:aj}(hq:PVR q)(tol:Int):∀(n t:Nat),t+n=3001->∀{num u:Int}{f:Bool}{best:Loc0}{d:List Item}{r:Int}{l:List OB}{X Y Z tm m:Int},SRel q t num u f best d r l X Y Z tm m->
  (∃(t':Nat)(j:Int)(a:Loc0)(D:List Item)(F:List OB)(z B C p G:Int),0<t'∧cI (cV tol q) (num,u,f,best,d)=some (.inl (D,j,(t':Int),true,a))∧cI (cQ tol q) (r,l,X,Y,Z,tm,m)=some (.inl ((t':Int),F,z,B,C,p,G))∧SRel q t' j t' true a D t' F z B C p G)∨
  (cI (cV tol q) (num,u,f,best,d)=some (.inr (none,25))∧cI (cQ tol q) (r,l,X,Y,Z,tm,m)=some (.inr (zL,0,25)))
 |0,t,ht,num,u,f,best,d,r,l,X,Y,Z,tm,m,h=>by have:=h.tle;omega
 |n+1,t,ht,num,u,f,best,d,r,l,X,Y,Z,tm,m,h=>by
  obtain⟨nx,W,b4⟩:=next_ok l (by have:=h.len;have:=h.tle;omega)
  have stop:0<t->cV tol q (num,u,f,best,d)=some (.stop (.inl (d,num,u,f,best)))->cQ tol q (r,l,X,Y,Z,tm,m)=some (.stop (.inl (r,l,X,Y,Z,tm,m)))->
    (∃(t':Nat)(j:Int)(a:Loc0)(D:List Item)(F:List OB)(z B C p G:Int),0<t'∧cI (cV tol q) (num,u,f,best,d)=some (.inl (D,j,(t':Int),true,a))∧cI (cQ tol q) (r,l,X,Y,Z,tm,m)=some (.inl ((t':Int),F,z,B,C,p,G))∧SRel q t' j t' true a D t' F z B C p G):=λg J e2=>by
   obtain⟨rfl,rfl,tle,rfl,hlen,rfl,L,Q,O,a8,hzero⟩:=h
   refine⟨t,l.length,best,d,l,X,Y,Z,tm,m,g,?_,by rw [dE e2],rfl,rfl,tle,rfl,hlen,by simp [g],L,Q,O,a8,hzero⟩
   rw [dE J,show decide (0<t)=true by simpa using g]
  rcases b4 with⟨rfl,I⟩|⟨k,hk,rfl,K,hm⟩
  ·left
   have N:d=[]:=by
    have:=h.perm;rw [items_nil I]at this
    exact List.Perm.eq_nil this
   have g:0<t:=by
    rcases GY t with K|K
    ·obtain⟨b,hb⟩:=h.zero K
     have:=I ⟨q.bt,b,false⟩ (by rw [hb];simp)
     cases this
    ·exact K
   refine stop g ?_ ?_
   ·unfold cV m6
    dsimp only
    rw [N,if_pos (by rfl),zd,if_neg zb]
   ·unfold cQ
    dsimp only
    rw [W,zd,if_pos zb]
  ·obtain⟨x,dt,N⟩:∃x dt,d=x::dt:=by
    cases b0:d with
    |nil=>
     have:=h.perm.mem_iff.2 (nh.2 ⟨k,hk,K,rfl⟩)
     rw [b0]at this;cases this
    |cons x dt=>exact⟨x,dt,rfl⟩
   have hx:x=itm l[k] k:=first_is (by have:=h.perm;rw [N]at this;exact this) (by have:=h.heap;rw [N]at this;simpa using this) hk K hm
   have E:((d.length:Int)==0)=false:=by rw [N];simp;omega
   have b5:¬((k:Int)<0):=by omega
   have a7:inO d (0:Int)=some ():=tN za (by rw [N];simp only [EZ];omega)
   have a6:py d (0:Int)=some x:=by rw [N];exact kp (i:=0) rfl zb
   have H:(f=true->¬(GV .i64 (best.cA-x.cg))<=tol)->cV tol q (num,u,f,best,d)=((gP q num u f best d).bind λc=>if(c.1 != (0:Int))=true then(some (.stop (.inr (none,c.1))))else(some (.next (c.2.1,c.2.2.1,c.2.2.2.1,c.2.2.2.2.1,c.2.2.2.2.2)))):=λhn=>by
    unfold cV m6
    dsimp only
    rw [E,if_neg zb]
    cases f with
    |false=>rw [if_neg zb,zd,if_pos (by rfl)]
    |true=>rw [if_pos rfl,a7,zd,a6,zd,zd,if_pos (by simpa using hn rfl)]
   have go:cV tol q (num,u,f,best,d)=((gP q num u f best d).bind λc=>if(c.1 != (0:Int))=true then(some (.stop (.inr (none,c.1))))else(some (.next (c.2.1,c.2.2.1,c.2.2.2.1,c.2.2.2.2.1,c.2.2.2.2.2))))->cQ tol q (r,l,X,Y,Z,tm,m)=dl r l k q m X Y Z tm->
     (∃(t':Nat)(j:Int)(a:Loc0)(D:List Item)(F:List OB)(z B C p G:Int),0<t'∧cI (cV tol q) (num,u,f,best,d)=some (.inl (D,j,(t':Int),true,a))∧cI (cQ tol q) (r,l,X,Y,Z,tm,m)=some (.inl ((t':Int),F,z,B,C,p,G))∧SRel q t' j t' true a D t' F z B C p G)∨
     (cI (cV tol q) (num,u,f,best,d)=some (.inr (none,25))∧cI (cQ tol q) (r,l,X,Y,Z,tm,m)=some (.inr (zL,0,25))):=λJ e2=>by
    rcases step_sim hq h hk K hm with⟨h3,⟨y,hy⟩,hr⟩|⟨j,a,D,F,z,B,C,p,G,hc,hr,hs⟩
    ·right
     rw [hy,zd,if_pos zb]at J
     rw [hr]at e2
     exact⟨dE J,dE e2⟩
    ·rw [hc,zd,if_neg zb]at J
     rw [hr]at e2
     rcases loop_sim hq tol n (t+1) za hs with⟨t',n',b',D,F,z,B,C,p,G,g0,g1,g2,g3⟩|⟨g1,g2⟩
     ·left
      exact⟨t',n',b',D,F,z,B,C,p,G,g0,by rw [tv J,g1],by rw [tv e2,g2],g3⟩
     ·right
      exact⟨by rw [tv J,g1],by rw [tv e2,g2]⟩
   rcases GY t with b3|g
   ·refine go (H λhf=>?_) ?_
    ·have:=h.found;rw [b3]at this;rw [this]at hf;cases hf
    ·unfold cQ
     dsimp only
     have T:¬(r>0):=by have:=h.tk2;omega
     rw [W,zd,if_neg zb,if_neg (by simpa using T)]
   ·obtain⟨hb, -⟩:=h.best g
    have T:r>0:=by have:=h.tk2;omega
    have a5:best.cA=m:=by rw [hb]
    have a9:x.cg=l[k].cg:=by rw [hx];rfl
    have eR:cQ tol q (r,l,X,Y,Z,tm,m)=(if(decide ((GV .i64 (m-l[k].cg))<=tol))=true then(some (.stop (.inl (r,l,X,Y,Z,tm,m))))else(dl r l k q m X Y Z tm)):=by
     unfold cQ
     dsimp only
     rw [W,zd,if_neg zb,if_pos (by simpa using T),tN za za,zd,kp rfl hk,zd]
    by_cases hle:(GV .i64 (m-l[k].cg))<=tol
    ·left
     refine stop g ?_ (by rw [eR,if_pos (by simpa using hle)])
     unfold cV m6
     dsimp only
     have hf:f=true:=by rw [h.found];simpa using g
     rw [E,if_neg zb,hf,if_pos rfl,a7,zd,a6,zd,zd,a5,a9,if_neg (by simpa using hle)]
    ·exact go (H λ_=>by rw [a5,a9];exact hle) (by rw [eR,if_neg (by simpa using hle)])
def gFo(M:Int)(st:Int×ak)(x:Item):Int×ak:=if x.cg<M then(mn st.1 x.cg,hull st.2 x.ey)else st
theorem gFo_comm(M:Int)(st:Int×ak)(x y:Item):gFo M (gFo M st x) y=gFo M (gFo M st y) x:=by
 unfold gFo
 by_cases h1:x.cg<M
 ·by_cases a:y.cg<M
  ·simp only [h1,a,if_true];rw [mn_comm,hull_comm]
  ·simp only [h1,a,if_true,if_false]
 ·by_cases a:y.cg<M
  ·simp only [h1,a,if_true,if_false]
  ·simp only [h1,a,if_false]
theorem foldC{q:aj}(l:PVR q)(a:cj)(f:∀x∈a.oD,Sub q.bt x.ey)(p:a.oD.length<=10000):∀n i:Nat,i+n=a.oD.length->∀(lo:Int)(c:ak),lo<=a.cy.cA->Sub q.bt c->
  cI (eP a) ((i:Int),lo,c)=some ((a.oD.drop i).foldl (gFo a.cy.cA) (lo,c))
 |0,i,hi,lo,c,h1,j=>by
  rw [Hq za]
  apply dE
  unfold eP;dsimp only;rw [if_neg so];rfl
 |n+1,i,hi,lo,c,h1,j=>by
  have g:i<a.oD.length:=by omega
  have hs:=f _ (FB g)
  have e:eP a ((i:Int),lo,c)=some (.next (((i+1:Nat):Int),(gFo a.cy.cA (lo,c) a.oD[i]).1,(gFo a.cy.cA (lo,c) a.oD[i]).2)):=by
   unfold eP gFo
   dsimp only
   rw [if_pos so,kp rfl g,zd,w64 (n:=(i:Int)+1) za za]
   by_cases k:a.oD[i].cg<a.cy.cA
   ·rw [if_pos (by simpa using k),(hull_eq (j.ok l.box) (hs.ok l.box)).1,zd,if_pos k];rfl
   ·rw [if_neg (by simpa using k),if_neg k,if_neg za];rfl
  rw [tv e,foldC l a f p n (i+1) za _ _ ?_ ?_,HI g,Hs]
  ·unfold gFo mn;dsimp only;split<;>(try split)<;>omega
  ·unfold gFo;dsimp only;split
   ·exact hull_ok j hs
   ·exact j
theorem foldR{q:aj}(j:PVR q){t:Int}{l:List OB}{X Y Z tm m:Int}(c:∀o∈l,Sub q.bt o.ey)(x:l.length<=10000):∀n i:Nat,i+n=l.length->∀(lo:Int)(a:ak),Sub q.bt a->
  cI (fW (t,l,X,Y,Z,tm,m)) ((i:Int),lo,a.bo.fX,a.bo.fY,a.bo.fZ,a.ba.fX,a.ba.fY,a.ba.fZ)=some (let r:=(eE (l.drop i) i).foldl (gFo m) (lo,a);(r.1,r.2.bo.fX,r.2.bo.fY,r.2.bo.fZ,r.2.ba.fX,r.2.ba.fY,r.2.ba.fZ))
 |0,i,hi,lo,a,g=>by
  rw [Hq za]
  apply dE
  unfold fW;dsimp only;rw [if_neg so];rfl
 |n+1,i,hi,lo,a,g=>by
  have f:i<l.length:=by omega
  have hs:=c _ (FB f)
  have p:inO l (i:Int)=some ():=tN za za
  have k:py l (i:Int)=some l[i]:=kp rfl f
  rw [HI f]
  show _=some (let r:=(if l[i].gi=true then eE (l.drop (i+1)) (i+1)else⟨l[i].ey,l[i].cg,(i:Int)⟩::eE (l.drop (i+1)) (i+1)).foldl (gFo m) (lo,a);(r.1,r.2.bo.fX,r.2.bo.fY,r.2.bo.fZ,r.2.ba.fX,r.2.ba.fY,r.2.ba.fZ))
  have e:fW (t,l,X,Y,Z,tm,m) ((i:Int),lo,a.bo.fX,a.bo.fY,a.bo.fZ,a.ba.fX,a.ba.fY,a.ba.fZ)=some (let r:=(if l[i].gi=true then(lo,a)else gFo m (lo,a) ⟨l[i].ey,l[i].cg,(i:Int)⟩); .next (((i+1:Nat):Int),r.1,r.2.bo.fX,r.2.bo.fY,r.2.bo.fZ,r.2.ba.fX,r.2.ba.fY,r.2.ba.fZ)):=by
   unfold fW gFo
   dsimp only
   rw [if_pos so]
   simp only [p,k,zd]
   rw [w64 (n:=(i:Int)+1) za za]
   cases y:l[i].gi with
   |true=>rfl
   |false=>
    by_cases u:l[i].cg<m
    ·simp only [u,decide_true,if_true,Ip,FD,if_false]
     have:=(hull_eq (g.ok j.box) (hs.ok j.box)).2
     rw [show ak.mk (aa.mk a.bo.fX a.bo.fY a.bo.fZ) (aa.mk a.ba.fX a.ba.fY a.ba.fZ)=a from rfl,this,zd];rfl
    ·simp only [u,decide_false,if_false,Ip,FD,if_true];rfl
  rw [tv e]
  cases y:l[i].gi with
  |true=>exact foldR j c x n (i+1) za lo a g
  |false=>
   refine foldR j c x n (i+1) za (gFo m (lo,a) ⟨l[i].ey,l[i].cg,(i:Int)⟩).1 (gFo m (lo,a) ⟨l[i].ey,l[i].cg,(i:Int)⟩).2 ?_
   unfold gFo;dsimp only;split
   ·exact hull_ok g hs
   ·exact g
theorem Locate_eq{q:aj}(J:PVR q)(tol:Int):∃r,gR q tol=some r∧mV q tol=some r∧(r.2=0->Sub q.bt r.1.ca∧Sub q.bt ⟨r.1.bU,r.1.bU⟩∧T54 r.1.bS):=by
 obtain⟨v1,v2⟩:=pvalid_eq J
 obtain⟨c,b1,b2⟩:=mbound_eq J (Sub.refl J.box)
 unfold gR mV oH oi
 rw [v1,v2,b2]
 simp only [zd,bne_self_eq_false,FD,if_false]
 by_cases h0:tol<0
 ·simp only [h0,decide_true,if_true,zd]
  exact⟨_,rfl,rfl,λh=>by cases h⟩
 simp only [h0,decide_false,FD,if_false]
 unfold sm pA
 rw [b1,zd,if_pos (by rfl)]
 obtain⟨hp,a7,N,a8⟩:=push1_heap (q:=q) (a:=0) (b:=0) (f:=false) (l:=zL) (x:=⟨q.bt,c,0⟩)
 have K:mq (aq.mk q.bt (c,(0:Int)).1 0) q 0 0 false (ap.mk (aa.mk 0 0 0) 0 0 0 (ak.mk (aa.mk 0 0 0) (aa.mk 0 0 0)))=some hp:=a7
 rw [K,zd,zd]
 have a5:hp.length=1:=N.length_eq
 have b0:SRel q 0 1 0 false zL hp 0 [⟨q.bt,c,false⟩] 0 0 0 0 0:=⟨rfl,rfl,za,rfl,zb,rfl,λh=>za,N,by rw [a5];exact a8,λo ho=>by rw [List.mem_singleton.1 ho];exact Sub.refl J.box,λ_=>⟨c,rfl⟩⟩
 simp only [bne_self_eq_false,FD,if_false]
 have hw:GV .i64 ((0:Int)+1)=1:=by decide
 rw [hw]
 rcases loop_sim J tol 3001 0 za b0 with⟨t',B,G,F,D,g,k,p,C,u,g0,g1,g2,g3⟩|⟨g1,g2⟩
 ·have H:cI (cV tol q) ((1:Int),(0:Int),false,(ap.mk (aa.mk 0 0 0) 0 0 0 (ak.mk (aa.mk 0 0 0) (aa.mk 0 0 0))),hp)=some (.inl (F,B,(t':Int),true,G)):=g1
  rw [H,g2]
  simp only [zd,optC,bne_self_eq_false,FD,if_false]
  obtain⟨hb,E,T⟩:=g3.best g0
  subst hb
  have W:F.length<=10000:=by
   have:=g3.perm.length_eq;have:=items_len D 0;have:=g3.len;have:=g3.tle;omega
  have a6:D.length<=10000:=by have:=g3.len;have:=g3.tle;omega
  have a9:∀x∈F,Sub q.bt x.ey:=λx hx=>by
   obtain⟨j,hj, -,rfl⟩:=nh.1 (g3.perm.mem_iff.1 hx)
   exact g3.sub _ (FB hj)
  have fC:=foldC J ⟨q,F,B,t',true,⟨⟨g,k,p⟩,C,u,0,zB⟩⟩ a9 W F.length 0 zb u ⟨⟨g,k,p⟩,⟨g,k,p⟩⟩ (Int.le_refl _) E
  have fR:=foldR J (t:=(t':Int)) (l:=D) (X:=g) (Y:=k) (Z:=p) (tm:=C) (m:=u) g3.sub a6 D.length 0 za u ⟨⟨g,k,p⟩,⟨g,k,p⟩⟩ E
  have e0:((0:Nat):Int)=0:=rfl
  rw [e0,G7]at fC fR
  have I:F.foldl (gFo u) (u,⟨⟨g,k,p⟩,⟨g,k,p⟩⟩)=(eE D 0).foldl (gFo u) (u,⟨⟨g,k,p⟩,⟨g,k,p⟩⟩):=List.Perm.foldl_eq' g3.perm (λx _ y _ z=>gFo_comm u z x y) _
  have O:cI (eP ⟨q,F,B,t',true,⟨⟨g,k,p⟩,C,u,0,zB⟩⟩) ((0:Int),u,⟨⟨g,k,p⟩,⟨g,k,p⟩⟩)=some ((eE D 0).foldl (gFo u) (u,⟨⟨g,k,p⟩,⟨g,k,p⟩⟩)):=by rw [<-I];exact fC
  have Q:cI (fW ((t':Int),D,g,k,p,C,u)) ((0:Int),u,g,k,p,g,k,p)=some (let r:=(eE D 0).foldl (gFo u) (u,⟨⟨g,k,p⟩,⟨g,k,p⟩⟩);(r.1,r.2.bo.fX,r.2.bo.fY,r.2.bo.fZ,r.2.ba.fX,r.2.ba.fY,r.2.ba.fZ)):=fR
  refine⟨(⟨⟨g,k,p⟩,C,u,((eE D 0).foldl (gFo u) (u,⟨⟨g,k,p⟩,⟨g,k,p⟩⟩)).1,((eE D 0).foldl (gFo u) (u,⟨⟨g,k,p⟩,⟨g,k,p⟩⟩)).2⟩,0),?_,?_,λ_=>?_⟩
  ·show((cI (eP ⟨q,F,B,t',true,⟨⟨g,k,p⟩,C,u,0,zB⟩⟩) ((0:Int),u,⟨⟨g,k,p⟩,⟨g,k,p⟩⟩)).bind _)=_
   rw [O,zd]
  ·rw [Q,zd];rfl
  ·have key:∀(L:List Item)(st:Int×ak),(∀x∈L,Sub q.bt x.ey)->Sub q.bt st.2->Sub q.bt (L.foldl (gFo u) st).2:=by
    intro L
    induction L with
    |nil=>intro st _ h;exact h
    |cons x L ih=>
     intro st hL h
     rw [Hs]
     refine ih _ (λy hy=>hL y (by simp [hy])) ?_
     unfold gFo;split
     ·exact hull_ok h (hL x zb)
     ·exact h
   refine⟨key _ _ (λx hx=>?_) E,E,T⟩
   obtain⟨j,hj, -,rfl⟩:=nh.1 hx
   exact g3.sub _ (FB hj)
 ·have H:cI (cV tol q) ((1:Int),(0:Int),false,(ap.mk (aa.mk 0 0 0) 0 0 0 (ak.mk (aa.mk 0 0 0) (aa.mk 0 0 0))),hp)=some (.inr (none,25)):=g1
  rw [H,g2]
  exact⟨(zL,25),rfl,rfl,λh=>by cases h⟩
end Go.Dw.Ef
set_option maxRecDepth 100000
set_option maxHeartbeats 4000000
namespace Go.Dw.Ef
open Go.Dw Go.Proofs
def zB0:ak:=⟨⟨0,0,0⟩,⟨0,0,0⟩⟩
def zPr:aj:=⟨zB0,⟨0,[],[]⟩,[],0⟩
noncomputable def qP (s:ai) (v:ag) (L:List Pick):aj:=⟨s.ae.bt,s.ae.bP,L.map (φ s v),s.ae.eV⟩
structure Mat(s:ai)(v:ag)(l L:List Pick):Prop where
 set:pX s
 val:cr s=some 0
 gat:gy s v l=some (⟨L,L.map (φ s v),L.map (ψ v)⟩,0)
 ref:iX s v l=some L
 len:L.length<=20
 all:∀p∈L,su p∧U s v p=true
 inv:gL v=some true
 mem:∀p∈L,p∈l
theorem mat_two(s:ai){v:ag}(a:IA v){l:List Pick}(f:LS l):
  (∃e:Int,e≠0∧gy s v l=some (⟨[],[],[]⟩,e)∧gW s v l=some (zPr,e))∨∃L,Mat s v l L:=by
 unfold gW gy
 rcases set_two s with⟨c,e2,hs⟩|⟨c,e2⟩
 rotate_left
 ·rw [c,e2];exact .inl ⟨27,by decide,rfl,rfl⟩
 rw [c,e2,sr a,np a]
 simp only [zd,bne_self_eq_false,FD,if_false]
 cases j:Iv.vI v.bp with
 |false=>exact .inl ⟨1,by decide,rfl,rfl⟩
 |true=>
  obtain⟨x,t,u,y,k⟩:=sorts_eq (l:=l) (by have:=f.1;omega)
  have g:∀p∈x,su p:=λp hp=>f.2 p (k p hp)
  have r:x.length<=20:=by have:=f.1;omega
  have q:=Hw (U s v) x
  refine .inr ⟨x.filter (U s v),hs,e2,?_,?_,za,λp hp=>⟨g p (List.mem_filter.1 hp).1,(List.mem_filter.1 hp).2⟩,by rw [np a,j],λp hp=>k p (List.mem_filter.1 hp).1⟩
  ·unfold gy
   rw [c,sr a,j]
   simp only [zd,bne_self_eq_false,FD,if_false,HV]
   rw [t,zd,gather_eq hs e2 a g za,zd]
  ·unfold iX
   rw [u,zd,picks_eq hs e2 a g za,zd]
theorem pr_loop{s:ai}{v:ag}(f:IA v){l L:List Pick}(h:Mat s v l L):cI (jZ L s v) ((0:Int),[])=some (L.map (φ s v)):=by
 refine H0 ?_
 refine H5 (λst=>∃i:Nat,st=((i:Int),(L.take i).map (φ s v))∧i<=L.length) (λst=>((L.length:Int)-st.1).toNat) ?_ ⟨0,rfl,EK _⟩
 rintro st ⟨i,rfl,i1⟩
 have hlen:=h.len
 unfold jZ
 dsimp only
 refine Hc (λj=>?_) (λg=>Hb (by rw [IH za]))
 have hi:i<L.length:=by omega
 obtain⟨a1,a2⟩:=h.all _ (FB hi)
 obtain⟨ep,ph, -,e2,a⟩:=sq h.set h.val f a1
 obtain⟨-, -,c, -⟩:=a a2
 rw [kp rfl hi,zd,e2,zd,cu so,zd,w64 za za]
 exact H7 ⟨i+1,by rw [tD hi,GL,Fk,Fl,c];rfl,za⟩ zc
theorem cloneO_at{α:Type}{b:Nat}{l:List α}(h:l.length*b<=140737488355328):uK b l=some l:=by unfold uK;rw [if_pos h]
theorem pr_two{s:ai}{v:ag}(j:IA v){l L:List Pick}(h:Mat s v l L):
  (L=[]∧ix ⟨L,L.map (φ s v),L.map (ψ v)⟩ s=some (zPr,24)∧gW s v l=some (zPr,24))∨
  (ix ⟨L,L.map (φ s v),L.map (ψ v)⟩ s=some (qP s v L,0)∧gW s v l=some (qP s v L,0)∧PVR (qP s v L)):=by
 have hlen:=h.len
 have g:=h.set.tab
 have h1:=g.len;have x:=g.same
 unfold ix gW
 rw [h.val,h.inv]
 simp only [zd,bne_self_eq_false,FD,if_false,HV]
 rw [h.ref,zd,pr_loop j h,zd,Fh]
 by_cases c:L.length=0
 ·left
  refine⟨List.length_eq_zero_iff.1 c,?_,?_⟩
  ·rw [if_pos (by simp [c])];rfl
  ·rw [if_pos (by simp [c])];rfl
 ·right
  have r:((L.length:Int)==0)=false:=by simp;intro e;rw [e]at c;simp at c
  rw [r]
  simp only [FD,if_false]
  rw [if_neg so,if_neg so,cloneO_at za,cloneO_at za]
  refine⟨rfl,rfl,h.set.box,g,by unfold qP;rw [Fh];omega,h.set.cap,λa f=>?_⟩
  obtain⟨p,hp,rfl⟩:=List.mem_map.1 f
  obtain⟨a1,a2⟩:=h.all p hp
  obtain⟨ep,ph, -,e2,t⟩:=sq h.set h.val j a1
  obtain⟨-, -, -,b1,b2,k,u,q⟩:=t a2
  exact⟨b1,b2,k,za,q⟩
theorem est_two{s:ai}{v:ag}(a:IA v){l L:List Pick}(h:Mat s v l L){b:ak}(k:BoxP b):
  ∃r,ji ⟨L,L.map (φ s v),L.map (ψ v)⟩ s b=some r∧me s v l b=some (r,0)∧r.length<=20∧∀e∈r,e.bo<=e.ba:=by
 have hlen:=h.len
 obtain ⟨r, c, f, t, q⟩ := est_loops s a b (L := L) za (λp hp => by
  obtain⟨a1,a2⟩:=h.all p hp
  obtain⟨ep,ph, -, -,j⟩:=sq h.set h.val a a1
  exact(j a2).2.1) L.length 0 za [] zb zb
 have g:((0:Nat):Int)=0:=rfl
 rw [g]at c f
 refine⟨r,?_,?_,za,q⟩
 ·unfold ji
  rw [c,zd]
 ·unfold me
  rw [h.val,h.inv,jk,decide_eq_true k]
  simp only [zd,bne_self_eq_false,FD,if_false,HV]
  rw [h.ref,zd,f,zd]
theorem Solve_eq(s:ai){v:ag}(g:IA v){l:List Pick}(u:LS l):∃r,m8 s v l=some r∧pj s v l=some r∧r.1.gm.length<=20∧(r.2=0->r.1.gm≠ []∧∀p∈r.1.gm,p∈l):=by
 unfold m8 pj
 rcases mat_two s g u with⟨e,c,h1,t⟩|⟨L,h⟩
 ·rw [h1,t]
  have:(e != 0)=true:=by simp [c]
  simp only [zd,this,if_true]
  exact⟨_,rfl,rfl,zb,λh=>(c h).elim⟩
 rw [h.gat]
 simp only [zd,bne_self_eq_false,FD,if_false]
 rcases pr_two g h with⟨rfl,j,k⟩|⟨j,k,q⟩
 ·rw [j,k]
  exact⟨_,rfl,rfl,zb,λh=>by cases h⟩
 rw [j,k]
 simp only [zd,bne_self_eq_false,FD,if_false]
 obtain⟨x,D,E,F⟩:=Locate_eq q s.bD
 rw [D,E]
 simp only [zd]
 by_cases c:x.2=0
 rotate_left
 ·have:(x.2 != 0)=true:=by simp [c]
  simp only [this,if_true]
  exact⟨_,rfl,rfl,zb,λh=>(c h).elim⟩
 have:(x.2 != 0)=false:=by simp [c]
 simp only [this,FD,if_false]
 obtain⟨r,z,B,I,C⟩:=est_two g h ((F c).1.ok h.set.box)
 rw [z,B]
 simp only [zd]
 rw [h.ref]
 have hlen:=h.len
 have f:L≠ []:=λe=>by have:=q.len.1;rw [e]at this;simp [qP]at this
 cases r with
 |nil=>
  have:lV []=some (⟨0,0⟩,24):=rfl
  rw [this]
  exact⟨_,rfl,rfl,by simpa using hlen,λ_=>⟨f,h.mem⟩⟩
 |cons a r=>
  obtain⟨y,G,H⟩:=network_eq (l:=a::r) za zb C
  rw [G,H,if_pos zb]
  exact⟨_,rfl,rfl,by simpa using hlen,λ_=>⟨f,h.mem⟩⟩
end Go.Dw.Ef
namespace Go.Dw
def Lnk(nx bk:List Int):List Nat->Prop
 |a::b::r=>(nx[a]? =some (b:Int)∧bk[b]? =some (a:Int))∧Lnk nx bk (b::r)
 |_=>True
theorem Lnk.congr{nx bk f c:List Int}:∀{l:List Nat},Lnk nx bk l->(∀x∈l.dropLast,f[x]? =nx[x]?)->(∀x∈l.tail,c[x]? =bk[x]?)->Lnk f c l
 |a::b::r,⟨⟨h1,p⟩,q⟩,k,j=>by
  refine⟨⟨by rw [k a (by simp [IS]),h1],by rw [j b zb,p]⟩,q.congr (λx g=>k x ?_) (λx g=>j x ?_)⟩
  ·simp only [IS];exact HP _ g
  ·simp only [Ij]at g⊢;exact HP _ g
 | [],_,_,_=>trivial
 | [_],_,_,_=>trivial
theorem se{nx bk:List Int}{a:Nat}{m:List Nat}:∀{l:List Nat},Lnk nx bk (l++a::m)↔Lnk nx bk (l++[a])∧Lnk nx bk (a::m)
 | []=>by simp [Lnk]
 | [b]=>by simp [Lnk]
 |b::c::l=>by
  have:=se (nx:=nx) (bk:=bk) (a:=a) (m:=m) (l:=c::l)
  simp only [Fw,Lnk]at this⊢
  rw [this]
  simp only [and_assoc]
theorem has_last{l:List Nat}(h:l≠ []):∃m p,l=m++[p]:=⟨l.dropLast,l.getLast h,(IU h).symm⟩
theorem Lnk.remove{nx bk:List Int}{e i:Nat}{A B:List Nat}(h:Lnk nx bk (e::(A++i::B)++[e]))(E:(e::(A++i::B)).Nodup):
  ∃p q:Nat,bk[i]? =some (p:Int)∧nx[i]? =some (q:Int)∧p∈e::(A++B)∧q∈e::(A++B)∧Lnk (nx.set p (q:Int)) (bk.set q (p:Int)) (e::(A++B)++[e]):=by
 obtain⟨m,p,hp⟩:=has_last (l:=e::A) zb
 obtain⟨q,n,f⟩:∃q n,B++[e]=q::n:=by
  cases B with
  |nil=>exact⟨e,[],rfl⟩
  |cons b B=>exact⟨b,B++[e],rfl⟩
 have G:e::(A++i::B)++[e]=(m++[p])++i::q::n:=by rw [<-hp, <-f];simp
 have H:Lnk nx bk (m++p::i::q::n):=by rw [G]at h;simpa using h
 obtain⟨h1,I⟩:=se.1 H
 obtain⟨⟨a1,a2⟩,⟨a3,a4⟩,J⟩:=I
 have g:p∈e::A:=by rw [hp];simp
 have j:q∈B++[e]:=by rw [f];simp
 rw [Fi,GF]at E
 obtain⟨d1,F,D,r⟩:=E
 rw [Fi]at D
 have t:(m++[p]).Nodup:=by
  rw [<-hp,Fi]
  exact⟨λc=>d1 (List.mem_append.2 (.inl c)),F⟩
 have C:p∉m:=λc=>by
  rw [GF]at t
  exact t.2.2 p c p zb rfl
 have e2:e::(A++B)++[e]=m++p::q::n:=by
  have:e::(A++B)++[e]=(e::A)++(B++[e]):=by simp
  rw [this,hp,f];simp
 refine⟨p,q,a2,a3,?_,?_,?_⟩
 ·rcases List.mem_cons.1 g with h|h
  ·exact List.mem_cons.2 (.inl h)
  ·exact List.mem_cons.2 (.inr (List.mem_append.2 (.inl h)))
 ·rcases List.mem_append.1 j with h|h
  ·exact List.mem_cons.2 (.inr (List.mem_append.2 (.inr h)))
  ·exact List.mem_cons.2 (.inl (List.mem_singleton.1 h))
 rw [e2,se]
 have y:p<nx.length:=(List.getElem?_eq_some_iff.1 a1).1
 have z:q<bk.length:=(List.getElem?_eq_some_iff.1 a4).1
 have u:∀x,x∈(m++[p]).tail->x∈A:=by
  intro x a;rw [<-hp]at a;exact a
 refine⟨h1.congr (λx a=>?_) (λx a=>?_),?_⟩
 ·rw [IT]at a
  exact EX λc=>C (by rw [c];exact a)
 ·have k:=u x a
  refine EX λc=>?_
  rw [c]at j
  rcases List.mem_append.1 j with h|h
  ·exact r x k x (HP _ h) rfl
  ·rw [List.mem_singleton.1 h]at k
   exact d1 (List.mem_append.2 (.inl k))
 ·refine⟨⟨EY y,EY z⟩,J.congr (λx a=>?_) (λx a=>?_)⟩
  ·rw [<-f,IT]at a
   refine EX λc=>?_
   rw [c]at g
   rcases List.mem_cons.1 g with h|h
   ·rw [h]at a;exact d1 (List.mem_append.2 (.inr (HP _ a)))
   ·exact r x h x (HP _ a) rfl
  ·simp only [Ij]at a
   refine EX λc=>?_
   rw [<-c]at a
   cases B with
   |nil=>
    simp only [E2,List.cons.injEq]at f
    rw [<-f.2]at a;simp at a
   |cons b B=>
    simp only [Fw,List.cons.injEq]at f
    obtain⟨rfl,rfl⟩:=f
    rcases List.mem_append.1 a with h|h
    ·exact(List.nodup_cons.1 D.2).1 h
    ·rw [List.mem_singleton.1 h]at d1
     exact d1 (List.mem_append.2 (.inr zb))
end Go.Dw
set_option maxRecDepth 100000
set_option maxHeartbeats 4000000
namespace Go.Dw.Ef
open Go.Dw Go.Proofs
abbrev Ph:=al
abbrev As:=aw
theorem rA{α β ω:Type}{l:List α}{f:α->List β}{g:List β->ω}{body:(Int×List β)->Option (pH (Int×List β) ω)}(hf:∀x∈l,(f x).length<=1)
  (h1:∀(i:Nat)(hi:i<l.length)(acc:List β),acc.length<=i->body ((i:Int),acc)=some (.next (((i+1:Nat):Int),acc++f l[i])))
  (j:∀acc,acc.length<=l.length->body ((l.length:Int),acc)=some (.stop (g acc))):cI body ((0:Int),[])=some (g (l.flatMap f)):=by
 have key:∀(k i:Nat)(acc:List β),i+k=l.length->acc.length<=i->cI body ((i:Int),acc)=some (g (acc++(l.drop i).flatMap f)):=by
  intro k
  induction k with
  |zero=>
   intro i acc hi c
   obtain rfl:i=l.length:=by omega
   rw [dE (j acc c)]
   simp
  |succ k p=>
   intro i acc hi c
   have a:i<l.length:=by omega
   rw [tv (h1 i a acc c),p (i+1) _ za (by have:=hf _ (FB a);rw [F0];omega),HI a,I1,ED]
 have:=key l.length 0 [] za zb
 simpa using this
theorem mS{α β ω:Type}{l:List α}{f:α->β}{g:List β->ω}{body:(Int×List β)->Option (pH (Int×List β) ω)}
  (h1:∀(i:Nat)(hi:i<l.length)(acc:List β),acc.length<=i->body ((i:Int),acc)=some (.next (((i+1:Nat):Int),acc++[f l[i]])))
  (a:∀acc,acc.length<=l.length->body ((l.length:Int),acc)=some (.stop (g acc))):cI body ((0:Int),[])=some (g (l.map f)):=by
 rw [rA (f:=λx=>[f x]) (λ_ _=>zb) h1 a]
 rw [<-List.map_eq_flatMap]
def cmpG(a b:aa):Int:=if uu a.fX b.fX≠0 then uu a.fX b.fX else if uu a.fY b.fY≠0 then uu a.fY b.fY else uu a.fZ b.fZ
theorem cmpG_eq(a b:aa):eB a b=some (cmpG a b):=by
 unfold eB
 simp only [Sd.mH,zd,or3]
 rfl
theorem cmpG_tot:Tot cmpG:=(u7.map λx:aa=>x.fX).or ((u7.map λx:aa=>x.fY).or (u7.map λx:aa=>x.fZ))
def mC(a b:Ph):Int:=if uu a.bA b.bA≠0 then uu a.bA b.bA else if uu a.bY b.bY≠0 then uu a.bY b.bY else if cmpG a.bB b.bB≠0 then cmpG a.bB b.bB else uu a.cC b.cC
theorem cmpF_eq(a b:Ph):jP a b=some (mC a b):=by
 unfold jP
 simp only [Sd.mH,cmpG_eq,zd,Sd.or4]
 rfl
theorem cmpF_tot:Tot mC:=(u7.map λx:Ph=>x.bA).or ((u7.map λx:Ph=>x.bY).or ((cmpG_tot.map λx:Ph=>x.bB).or (u7.map λx:Ph=>x.cC)))
theorem cmpF_early{a b:Ph}(h:mC a b<=0):a.bA<=b.bA:=by
 unfold mC at h
 split at h
 ·unfold uu at h;repeat' split at h<;>omega
 ·rename_i c
  have:uu a.bA b.bA=0:=by omega
  rw [vY]at this;omega
def zPh:Ph:=⟨⟨0,0,0⟩,0,0,0⟩
def eK(F:List Ph)(i:Int):Ph:=F.getD i.toNat zPh
theorem pO{F:List Ph}{i:Int}(a:0<=i)(h1:i<F.length):py F i=some (eK F i):=by
 rw [kp (i:=i.toNat) za za]
 unfold eK
 rw [Fx,ze za];rfl
theorem phAt_mem{F:List Ph}{i:Int}(a:0<=i)(h1:i<F.length):eK F i∈F:=by
 unfold eK
 rw [Fx,ze za]
 exact FB _
theorem ins_order{F:List Ph}{l:List Int}(a:∀i∈l,0<=i∧i<F.length)(f:l.length<=1000):di 0 (l.length:Int) l F=some (m9 (λi k=>decide (mC (eK F i) (eK F k)<0)) l):=by
 refine Eq.trans (b:=insG (λi k=>gz i k F) (λc=>decide (c<0)) 0 (l.length:Int) l) rfl (insG_at (S:=λi=>0<=i∧i<(F.length:Int)) (λi k hi hk=>⟨mC (eK F i) (eK F k),?_,rfl⟩) a f)
 unfold gz
 rw [pO hi.1 hi.2,zd,pO hk.1 hk.2,zd,cmpF_eq];rfl
theorem stable_order{F:List Ph}{l:List Int}(a:∀i∈l,0<=i∧i<F.length)(c:l.length<=19):ec l F=some (m9 (λi k=>decide (mC (eK F i) (eK F k)<0)) l):=by
 unfold ec ej
 rw [dE (o:=((0:Int),l)) (by unfold gQ;dsimp only;rw [if_neg so]),zd]
 dsimp only
 rw [ins_order a za,zd,dE (o:=m9 (λi k=>decide (mC (eK F i) (eK F k)<0)) l) (by unfold gj;rw [if_neg so];rfl)]
 rfl
def ids(n:Nat):List Int:=(EH n).map λi:Nat=>(i:Int)
theorem ids_mem{n:Nat}{i:Int}:i∈ids n↔0<=i∧i<n:=by
 unfold ids
 rw [I5]
 constructor
 ·rintro⟨k,hk,rfl⟩
  have:=List.mem_range.1 hk
  omega
 ·intro h
  exact⟨i.toNat,List.mem_range.2 za,za⟩
theorem ids_succ(n:Nat):ids (n+1)=ids n++[(n:Int)]:=by unfold ids;rw [Ig,GL];rfl
theorem sW(n:Nat):(ids n).length=n:=by unfold ids;simp
theorem ids_asc(n:Nat):(ids n).Pairwise (· < ·):=by
 unfold ids
 rw [I9]
 exact List.pairwise_lt_range.imp λh=>by omega
structure nL(F:List Ph)(o:List Int):Prop where
 perm:o.Perm (ids F.length)
 lex:o.Pairwise (Lex (λi k=>mC (eK F i) (eK F k)) (· < ·))
theorem order_at{F:List Ph}(g:F.length<=19):∃o,gp F=some o∧nL F o:=by
 refine⟨_,?_,oW _ _,sortI_lex (cmpF_tot.map (eK F)) (ids_asc F.length)⟩
 refine H0 ?_
 unfold gp
 refine HZ (Ok.mk za za za) (λx f=>?_)
 subst f
 refine HZ (P:=λo=>o=ids F.length) (H5 (λs:Int×List Int=>∃i:Nat,i<=F.length∧s=((i:Int),ids i++EA (F.length-i) 0)) (λs=>((F.length:Int)-s.1).toNat) ?_ ⟨0,EK _,by simp [ids]⟩) (λo ho=>?_)
 ·rintro s ⟨i,hi,rfl⟩
  unfold lE
  dsimp only
  refine Hc (λc=>?_) (λa=>Hb ?_)
  rotate_left
  ·obtain rfl:i=F.length:=by simp at a;omega
   simp
  simp at c
  have e:EA (F.length-i) (0:Int)=0::EA (F.length-(i+1)) 0:=by
   rw [show F.length-i=(F.length-(i+1))+1 by omega];rfl
  rw [e,tN za (by simp [sW];omega),zd,BA _ _ _ _ (by rw [sW]),zd,w64 za za]
  refine H7 ⟨i+1,za,?_⟩ zc
  rw [ids_succ];simp
 ·subst ho
  rw [stable_order (λi hi=>by have:=ids_mem.1 hi;omega) (by rw [sW];omega)]
  exact H9 rfl
theorem gA{nx bk:List Int}{n:Nat}(h:nx.length=n+1)(a:n<=1000):lc ⟨nx,bk⟩=some (n:Int):=by
 unfold lc
 rw [w64 zc zc]
 simp [h]
theorem Lnk_range{nx bk:List Int}:∀(k m:Nat),(∀j,m<=j->j<m+k->nx[j]? =some ((j+1:Nat):Int)∧bk[j+1]? =some (j:Int))->Lnk nx bk (Ib m k++[m+k])
 |0,m,_=>trivial
 |k+1,m,h=>by
  have c:=Lnk_range k (m+1) (λj h1 f=>h j za za)
  have a:=h m (EB _) za
  rw [show m+(k+1)=m+1+k by omega]
  cases k with
  |zero=>exact⟨a,trivial⟩
  |succ k=>
   rw [Ic,Ic]at*
   exact⟨a,c⟩
theorem newChain_at{n:Nat}(z:n<=1000):Ok (jb (n:Int)) (λr=>r.qV.length=n+1∧r.fback.length=n+1∧Lnk r.qV r.fback (n::EH n++[n])):=by
 unfold jb
 rw [w64 za za]
 refine HZ (Ok.mk za za za) (λx t=>HZ (Ok.mk za za za) (λy u=>?_))
 subst t u
 refine HZ (P:=λo:List Int×List Int=>o.1.length=n+1∧o.2.length=n+1∧∀j,j<=n->o.1[j]? =some (((j+1)%(n+1):Nat):Int)∧o.2[(j+1)%(n+1)]? =some (j:Int))
  (H5 (λs:Int×List Int×List Int=>∃i:Nat,s.1=(i:Int)∧i<=n+1∧s.2.1.length=n+1∧s.2.2.length=n+1∧∀j,j<i->s.2.1[j]? =some (((j+1)%(n+1):Nat):Int)∧s.2.2[(j+1)%(n+1)]? =some (j:Int)) (λs=>((n:Int)+1-s.1).toNat) ?_ ⟨0,rfl,za,zb,zb,λj f=>za⟩) (λo ho=>?_)
 ·rintro⟨s1,s2,s3⟩ ⟨i,i0,i1,i2,i3,i4⟩
  simp only at i0 i2 i3 i4
  subst i0
  unfold jc
  dsimp only
  rw [w64 (n:=(n:Int)+1) za za]
  refine Hc (λp=>?_) (λl=>Hb ?_)
  rotate_left
  ·obtain rfl:i=n+1:=by omega
   exact⟨i2,i3,λj f=>i4 j za⟩
  rw [w64 (n:=(i:Int)+1) za za]
  have q:wO ((i:Int)+1) ((n:Int)+1)=some (((i+1)%(n+1):Nat):Int):=by
   unfold wO
   rw [if_neg za,Int.tmod_eq_emod_of_nonneg za]
   rfl
  have k:(i+1)%(n+1)<n+1:=Nat.mod_lt _ za
  rw [q,zd,zd,tN za za,zd,vz (i:=i) rfl za,zd,tN za za,zd,vz (i:=(i+1)%(n+1)) rfl za,zd]
  refine H7 ⟨i+1,zc,za,by simpa using i2,by simpa using i3,λj f=>?_⟩ zc
  by_cases e:j=i
  ·subst e
   exact⟨EY za,EY za⟩
  ·have g:(i+1)%(n+1)≠(j+1)%(n+1):=by
    rw [Hk (a:=j+1) za]
    by_cases h:i=n
    ·subst h;simp
    ·rw [Hk za];omega
   exact⟨by rw [EX za];exact(i4 j za).1,by rw [EX g];exact(i4 j za).2⟩
 ·refine H9 ⟨ho.1,ho.2.1,?_⟩
  have h1:Lnk o.1 o.2 (Ib 0 n++[0+n]):=Lnk_range n 0 λj _ f=>by
   have:=ho.2.2 j za
   rw [Hk za]at this
   exact this
  have c:=ho.2.2 n (EB _)
  rw [Nat.mod_self]at c
  rw [<-Ie,Nat.zero_add]at h1
  cases n with
  |zero=>exact⟨c,trivial⟩
  |succ n=>
   rw [Ie,Ic]at h1⊢
   exact⟨c,h1⟩
theorem filter_ne{A B:List Nat}{i:Nat}(h:(A++i::B).Nodup):(A++i::B).filter (λx=>decide (x∉ [i]))=A++B:=by
 rw [GF]at h
 obtain⟨_,c,f⟩:=h
 rw [Fi]at c
 rw [Hr,IY zb,List.filter_eq_self.2,List.filter_eq_self.2]
 ·intro x a
  simp only [GD,decide_eq_true_eq]
  rintro rfl
  exact c.1 a
 ·intro x a
  simp only [GD,decide_eq_true_eq]
  rintro rfl
  exact f x a x zb rfl
structure Ch(n:Nat)(P:List Nat)(nx bk:List Int):Prop where
 ln:nx.length=n+1
 lb:bk.length=n+1
 lnk:Lnk nx bk (n::P++[n])
 nd:(n::P).Nodup
 lt:∀x∈P,x<n
theorem remove_at{n:Nat}{P:List Nat}{nx bk:List Int}(h:Ch n P nx bk){i:Nat}(hi:i∈P):∃g c,mG (i:Int) nx bk=some (g,c)∧Ch n (P.filter λx=>decide (x∉ [i])) g c:=by
 obtain⟨A,B,rfl⟩:=List.append_of_mem hi
 obtain⟨h1,t,u,j,k⟩:=h
 obtain⟨p,q,b1,b2,hp,D,z⟩:=Lnk.remove u j
 have f:∀x∈n::(A++B),x<=n:=λx a=>by
  rcases List.mem_cons.1 a with rfl|a
  ·exact EB _
  ·refine Nat.le_of_lt (k x ?_)
   rcases List.mem_append.1 a with a|a
   ·exact List.mem_append.2 (.inl a)
   ·exact List.mem_append.2 (.inr (HP _ a))
 have C:=f p hp;have E:=f q D;have y:=k i hi
 have nd:=(List.nodup_cons.1 j).2
 refine⟨nx.set p q,bk.set q p,?_,?_⟩
 ·have l:py bk (i:Int)=some (p:Int):=by
   rw [kp (i:=i) rfl za]
   rw [ze za]at b1
   exact b1
  have r:py nx (i:Int)=some (q:Int):=by
   rw [kp (i:=i) rfl za]
   rw [ze za]at b2
   exact b2
  unfold mG
  rw [tN za za,zd,l,zd,tN za za,zd,r,zd,zd,zd,zd,zd,tN za za,zd,vz (i:=p) rfl za,zd,tN za za,zd,vz (i:=q) rfl za,zd]
 ·rw [filter_ne nd]
  refine⟨by simpa using h1,by simpa using t,z,?_,λx a=>?_⟩
  ·rw [Fi]at j⊢
   refine⟨λhm=>j.1 ?_,nd.sublist ((Ih i B).append_left A)⟩
   rcases List.mem_append.1 hm with hm|hm
   ·exact List.mem_append.2 (.inl hm)
   ·exact List.mem_append.2 (.inr (HP _ hm))
  ·refine k x ?_
   rcases List.mem_append.1 a with a|a
   ·exact List.mem_append.2 (.inl a)
   ·exact List.mem_append.2 (.inr (HP _ a))
end Go.Dw.Ef
set_option maxRecDepth 100000
set_option maxHeartbeats 4000000
namespace Go.Dw.Ef
open Go.Dw Go.Proofs
theorem o0{α β:Type}(p:α->Bool)(f:α->β):∀l:List α,(l.flatMap λx=>if p x=true then [f x]else [])=(l.filter p).map f
 | []=>rfl
 |x::l=>by
  rw [I1,o0 p f l]
  by_cases h:p x=true
  ·rw [if_pos h,List.filter_cons_of_pos h];rfl
  ·rw [if_neg h,IY h];rfl
section
variable {α:Type}
def winK(k:α->Int)(span:Int):List α->List α
 | []=>[]
 |i::r=>((i::r).takeWhile λj=>decide (k j-k i<=span)).take 16
theorem winK_sub(k:α->Int)(span:Int):∀l,(winK k span l).Sublist l
 | []=>List.Sublist.refl _
 |_::_=>(List.take_sublist _ _).trans (List.takeWhile_sublist _)
theorem winK_cons(k:α->Int){span:Int}(h:0<=span)(i:α)(r:List α):winK k span (i::r)=i::(r.takeWhile λj=>decide (k j-k i<=span)).take 15:=by
 show((i::r).takeWhile λj=>decide (k j-k i<=span)).take 16=_
 rw [Il so]
 rfl
end
def dg(o:List Int)(j:Nat):Int:=o.getD j 0
def plP(F:List Ph)(o:List Int)(j:Nat):Ph:=eK F (dg o j)
theorem ordAt_get{o:List Int}{j:Nat}(h:j<o.length):py o (j:Int)=some (dg o j):=by
 rw [kp (i:=j) rfl h]
 unfold dg
 rw [Fx,ze h];rfl
theorem ordAt_mem{o:List Int}{j:Nat}(h:j<o.length):dg o j∈o:=by
 unfold dg
 rw [Fx,ze h]
 exact FB _
theorem nL.len{F:List Ph}{o:List Int}(h:nL F o):o.length=F.length:=by rw [h.perm.length_eq,sW]
theorem nL.range{F:List Ph}{o:List Int}(h:nL F o){j:Nat}(a:j<F.length):0<=dg o j∧dg o j<F.length:=ids_mem.1 (h.perm.mem_iff.1 (ordAt_mem (by rw [h.len];exact a)))
theorem nL.get{F:List Ph}{o:List Int}(h:nL F o){j:Nat}(a:j<F.length):py o (j:Int)=some (dg o j)∧py F (dg o j)=some (plP F o j)∧plP F o j∈F:=
 ⟨ordAt_get (by rw [h.len];exact a),pO (h.range a).1 (h.range a).2,phAt_mem (h.range a).1 (h.range a).2⟩
def n0(l:List Nat):List Int:=l.map λj:Nat=>(j:Int)
theorem window_loop{n:Nat}{nx bk:List Int}{F:List Ph}{o:List Int}(ho:nL F o)(C:F.length=n)(g:n<=1000)(l:nx.length=n+1)(q:∀b∈F,0<=b.bA∧b.bA<=18014398509481984){a:As}{i:Nat}(hi:i<n):
  ∀(B:List Nat)(acc:List Int),Lnk nx bk (B++[n])->(∀x∈B,x<n)->acc.length<=16->cI (dp nx bk o F (i:Int) a) ((((B++[n]).headD 0:Nat):Int),acc)=
   some (acc++n0 ((B.takeWhile λj=>decide ((plP F o j).bA-(plP F o i).bA<=a.df)).take (16-acc.length)))
 | [],acc,_,_,_=>by
  rw [dE (o:=acc)]
  ·simp [n0]
  ·unfold dp
   dsimp only
   rw [gA l g,zd,if_neg zb]
 |b::B,acc,p,r,E=>by
  have G:=r b zb
  obtain⟨g1,g2,g3⟩:=ho.get (j:=b) za
  obtain⟨t,u,k3⟩:=ho.get (j:=i) za
  have f1:=q _ g3;have f2:=q _ k3
  have hw:GV .i64 ((plP F o b).bA-(plP F o i).bA)=(plP F o b).bA-(plP F o i).bA:=w64 za za
  have k:nx[b]? =some (((B++[n]).headD 0:Nat):Int)∧Lnk nx bk (B++[n]):=by
   cases B with
   |nil=>exact⟨p.1.1,p.2⟩
   |cons c B=>exact⟨p.1.1,p.2⟩
  have z:py nx (b:Int)=some (((B++[n]).headD 0:Nat):Int):=by
   rw [kp (i:=b) rfl za]
   have:=k.1
   rw [ze za]at this
   exact this
  by_cases y:acc.length<16
  ·by_cases hc:(plP F o b).bA-(plP F o i).bA<=a.df
   ·have f:dp nx bk o F (i:Int) a (((b:Nat):Int),acc)=some (.next ((((B++[n]).headD 0:Nat):Int),acc++[(b:Int)])):=by
     unfold dp
     dsimp only
     rw [gA l g,zd,if_pos so,if_pos so,g1,zd,g2,zd,t,zd,u,zd,hw,if_pos (by simpa using hc),cu so,zd,tN za za,zd,z,zd]
    show cI _ (((b:Nat):Int),acc)=_
    rw [tv f,window_loop ho C g l q hi B _ k.2 (λx D=>r x (HP _ D)) so,Il (by simpa using hc)]
    rw [show 16-acc.length=(16-(acc++[(b:Int)]).length)+1 by simp;omega,Im]
    simp [n0]
   ·have f:dp nx bk o F (i:Int) a (((b:Nat):Int),acc)=some (.stop acc):=by
     unfold dp
     dsimp only
     rw [gA l g,zd,if_pos so,if_pos so,g1,zd,g2,zd,t,zd,u,zd,hw,if_neg (by simpa using hc)]
    show cI _ (((b:Nat):Int),acc)=_
    rw [dE f,Ik (by simpa using hc)]
    simp [n0]
  ·have f:dp nx bk o F (i:Int) a (((b:Nat):Int),acc)=some (.stop acc):=by
    unfold dp
    dsimp only
    rw [gA l g,zd,if_pos so,if_neg so]
   show cI _ (((b:Nat):Int),acc)=_
   rw [dE f,show 16-acc.length=0 by omega]
   simp [n0]
theorem Lnk_head{nx bk:List Int}{n:Nat}{P:List Nat}(h:Lnk nx bk (n::P++[n]))(a:nx.length=n+1):py nx (n:Int)=some (((P++[n]).headD 0:Nat):Int)∧Lnk nx bk (P++[n]):=by
 have:nx[n]? =some (((P++[n]).headD 0:Nat):Int)∧Lnk nx bk (P++[n]):=by
  cases P with
  |nil=>exact⟨h.1.1,h.2⟩
  |cons c B=>exact⟨h.1.1,h.2⟩
 refine⟨?_,this.2⟩
 have h1:=this.1
 rw [kp (i:=n) rfl za]
 rw [ze za]at h1
 exact h1
theorem window_at{n:Nat}{nx bk:List Int}{F:List Ph}{o:List Int}(ho:nL F o)(p:F.length=n)(c:n<=1000)(l:∀b∈F,0<=b.bA∧b.bA<=18014398509481984){a:As}{i:Nat}{r:List Nat}(hc:Ch n (i::r) nx bk):
  nw a F o nx bk=some (n0 (winK (λj=>(plP F o j).bA) a.df (i::r)),nx,bk):=by
 obtain⟨h1,g⟩:=Lnk_head hc.lnk hc.ln
 unfold nw
 rw [gA hc.ln c,zd,tN za (by have:=hc.ln;omega),zd,h1,zd]
 have f:=window_loop ho p c hc.ln l (a:=a) (i:=i) (hc.lt i zb) (i::r) [] g hc.lt zb
 have k:((((i::r)++[n]).headD 0:Nat):Int)=(i:Int):=rfl
 rw [k]at f⊢
 rw [f,zd]
 rfl
theorem jt(l:List Nat):(n0 l).length=l.length:=by simp [n0]
theorem nats_get{l:List Nat}{i:Nat}(h:i<l.length):py (n0 l) (i:Int)=some ((l[i]:Nat):Int):=by
 rw [kp (i:=i) rfl (by rw [jt];exact h)]
 simp [n0]
theorem tq{n:Nat}{F:List Ph}{o:List Int}(ho:nL F o)(G:F.length=n):∀(M D P:List Nat)(nx bk acc:List Int),M.Nodup->(∀m∈M,m∈P)->Ch n P nx bk->(D++M).length<=1000->acc.length<=D.length->
  Ok (cI (dj (n0 (D++M)) o) ((D.length:Int),nx,bk,acc)) (λr=>Ch n (P.filter λx=>decide (x∉M)) r.1 r.2.1∧r.2.2=acc++M.map (dg o))
 | [],D,P,nx,bk,acc,_,_,hc,_,_=>by
  rw [dE (o:=(nx,bk,acc))]
  ·refine H9 ⟨?_,zb⟩
   rw [List.filter_eq_self.2 zb];exact hc
  ·unfold dj
   dsimp only
   rw [if_neg (by simp [jt])]
 |m::M,D,P,nx,bk,acc,B,hm,hc,C,H=>by
  obtain⟨g,c,e,k⟩:=remove_at hc (hm m zb)
  have p:=hc.lt m (hm m zb)
  obtain⟨g1,g2,g3⟩:=ho.get (j:=m) za
  have E:D.length+(M.length+1)<=1000:=by simpa using C
  have l:D.length<(D++m::M).length:=by simp
  have a:dj (n0 (D++m::M)) o ((D.length:Int),nx,bk,acc)=some (.next (((D++[m]).length:Int),g,c,acc++[dg o m])):=by
   unfold dj
   dsimp only
   rw [if_pos (by simp [jt];omega),tN za (by simp [jt];omega),zd,nats_get l,zd]
   have:(D++m::M)[D.length]'l=m:=by simp
   rw [this,e,zd,g1,zd,cu so,zd,w64 za za]
   simp
  rw [tv a]
  have f:=List.nodup_cons.1 B
  have u := tq ho G M (D ++ [m]) _ g c (acc ++ [dg o m]) f.2 (λx t => by
   refine List.mem_filter.2 ⟨hm x (HP _ t),?_⟩
   simp only [GD,decide_eq_true_eq]
   rintro rfl
   exact f.1 t) k so so
  have e2:D++[m]++M=D++m::M:=by simp
  rw [e2]at u
  refine u.mono λr q=>⟨?_,by rw [q.2];simp⟩
  have y:IW (λx=>decide (x∉M)) (IW (λx=>decide (x∉ [m])) P)=P.filter λx=>decide (x∉m::M):=by
   rw [List.filter_filter]
   refine IX λx _=>?_
   by_cases h1:x=m<;>by_cases z:x∈M<;>simp [h1,z]
  rw [<-y]
  exact q.1
theorem drop_first{n:Nat}{i:Nat}{r:List Nat}(a:(n::i::r).Nodup):(i::r).filter (λx=>decide (x∉ [i]))=r:=by
 have:=filter_ne (A:=[]) (i:=i) (B:=r) (List.nodup_cons.1 a).2
 simpa using this
end Go.Dw.Ef
set_option maxRecDepth 100000
set_option maxHeartbeats 4000000
namespace Go.Dw.Ef
open Go.Dw Go.Proofs
theorem rsorted_eq{l:List Int}(c:l.length<=1000):∃r,vp l=some r∧jm l=some r∧r.Perm l:=by
 obtain⟨s,s1,s2,s3⟩:=BW (l:=l) za
 have he:jm l=lx l:=rfl
 obtain⟨r,f,a,g⟩:=sorted32 c
 have e:r=s:=oK (a.trans s2.symm) g s3
 subst e
 exact⟨r,s1,by rw [he];exact f,a⟩
theorem cmpI_lt(a b:Int):uu a b<0↔a<b:=by unfold uu;repeat' split<;>omega
abbrev LexF(F:List Ph):Int->Int->Prop:=Lex (λi k=>mC (eK F i) (eK F k)) (· < ·)
theorem rcmpG(a b:aa):gV a b=some (cmpG a b):=by
 obtain⟨c,h1,f⟩:=cmp_eq a b
 rw [cmpG_eq]at h1
 rw [f, <-h1]
theorem lessF_at{F:List Ph}{i k:Int}(hi:0<=i∧i<F.length)(hk:0<=k∧k<F.length):∃t,qt F i k=some t∧(t=true↔LexF F i k):=by
 unfold qt
 rw [pO hi.1 hi.2,zd,pO hk.1 hk.2,zd]
 unfold LexF Lex mC
 dsimp only
 generalize eK F i=x
 generalize eK F k=y
 by_cases c:x.bA=y.bA
 rotate_left
 ·have h1:(x.bA != y.bA)=true:=by simp [c]
  have j:uu x.bA y.bA≠0:=λh=>c (vY.1 h)
  rw [if_pos h1,if_pos j]
  refine⟨_,rfl,?_⟩
  rw [decide_eq_true_eq,cmpI_lt]
  exact⟨.inl,λh=>h.elim id λh=>(j h.1).elim⟩
 have h1:(x.bA != y.bA)=false:=by simp [c]
 have j:uu x.bA y.bA=0:=vY.2 c
 rw [h1,if_neg Io,if_neg (λh:uu x.bA y.bA≠0=>h j)]
 by_cases f:x.bY=y.bY
 rotate_left
 ·have p:(x.bY != y.bY)=true:=by simp [f]
  have l:uu x.bY y.bY≠0:=λh=>f (vY.1 h)
  rw [if_pos p,if_pos l]
  refine⟨_,rfl,?_⟩
  rw [decide_eq_true_eq,cmpI_lt]
  exact⟨.inl,λh=>h.elim id λh=>(l h.1).elim⟩
 have p:(x.bY != y.bY)=false:=by simp [f]
 have l:uu x.bY y.bY=0:=vY.2 f
 rw [p,if_neg Io,if_neg (λh:uu x.bY y.bY≠0=>h l),rcmpG,zd]
 by_cases a:cmpG x.bB y.bB=0
 rotate_left
 ·have q:(cmpG x.bB y.bB != 0)=true:=by simp [a]
  rw [if_pos q,if_pos a]
  refine⟨_,rfl,?_⟩
  rw [decide_eq_true_eq]
  exact⟨.inl,λh=>h.elim id λh=>(a h.1).elim⟩
 have q:(cmpG x.bB y.bB != 0)=false:=by simp [a]
 rw [q,if_neg Io,if_neg (λh:cmpG x.bB y.bB≠0=>h a)]
 by_cases g:x.cC=y.cC
 rotate_left
 ·have r:(x.cC != y.cC)=true:=by simp [g]
  have u:uu x.cC y.cC≠0:=λh=>g (vY.1 h)
  rw [if_pos r]
  refine⟨_,rfl,?_⟩
  rw [decide_eq_true_eq,cmpI_lt]
  exact⟨.inl,λh=>h.elim id λh=>(u h.1).elim⟩
 have r:(x.cC != y.cC)=false:=by simp [g]
 have u:uu x.cC y.cC=0:=vY.2 g
 rw [r,if_neg Io,u]
 refine⟨_,rfl,?_⟩
 rw [decide_eq_true_eq]
 exact⟨λh=>.inr ⟨rfl,h⟩,λh=>h.elim (λh=>za) λh=>h.2⟩
theorem find30{F:List Ph}{out:List Int}{i:Nat}(hi:i<F.length)(q:F.length<=1000)(ho:out.length<=1000)(p:∀x∈out,0<=x∧x<F.length):Ok (cI (n8 out F (i:Int)) (0:Int)) (λo=>∃k:Nat,o=((i:Int),(k:Int),out)∧k<=out.length∧(∀j,j<k->∀h:j<out.length,LexF F out[j] i)∧∀h:k<out.length,¬LexF F out[k] i):=by
 refine H5 (λst=>∃k:Nat,st=(k:Int)∧k<=out.length∧∀j,j<k->∀h:j<out.length,LexF F out[j] i) (λst=>((out.length:Int)-st).toNat) ?_ ⟨0,rfl,EK _,λj h=>za⟩
 rintro st ⟨k,rfl,f,c⟩
 unfold n8
 refine Hc (λl=>?_) (λg=>Hb ⟨k,rfl,f,c,λh=>za⟩)
 have hk:k<out.length:=by omega
 obtain⟨t,t1,t2⟩:=lessF_at (F:=F) (i:=out[k]) (k:=(i:Int)) (p _ (FB hk)) za
 rw [tN za za,zd,kp rfl hk,zd,t1,zd]
 refine Ok.iteB (λh=>?_) (λh=>Hb ⟨k,rfl,f,c,λ_ a=>by rw [t2.2 a]at h;cases h⟩)
 rw [w64 za za]
 refine H7 ⟨k+1,zb,za,λj r a=>?_⟩ za
 by_cases e:j=k
 ·subst e;exact t2.1 h
 ·exact c j za a
theorem rorder_ok{F:List Ph}(I:F.length<=1000):Ok (kJ F) (nL F):=by
 have g:Tot (λi k=>mC (eK F i) (eK F k)):=cmpF_tot.map (eK F)
 unfold kJ
 rw [Option.bind_fun_some]
 refine H5 (λst=>∃(i:Nat)(out:List Int),st=((i:Int),out)∧i<=F.length∧out.Perm (ids i)∧out.Pairwise (LexF F)) (λst=>((F.length:Int)-st.1).toNat) ?_ ⟨0,[],rfl,EK _,by simp [ids],zb⟩
 rintro st ⟨i,out,rfl,i1,i2,i3⟩
 have N:out.length=i:=by rw [i2.length_eq,sW]
 have f:∀x∈out,0<=x∧x<(i:Int):=λx B=>ids_mem.1 (i2.mem_iff.1 B)
 unfold qI
 dsimp only
 refine Hc (λL=>?_) (λK=>?_)
 rotate_left
 ·have:i=F.length:=by omega
  subst this
  exact Hb ⟨i2,i3⟩
 have hi:i<F.length:=by omega
 refine HZ (find30 (out:=out) hi I za λx B=>by have:=f x B;omega) (λo⟨k,ho,H,O,k3⟩=>?_)
 subst ho
 dsimp only
 rw [cu so,zd]
 have hlen:(out++[(0:Int)]).length=out.length+1:=by simp
 rw [w64 (n:=(k:Int)+1) za za,w64 (n:=(i:Int)+1) za za,hlen]
 rw [wq za za za,zd,wq za za za,zd]
 have t1:(0+((k:Int)+1).toNat)=k+1:=by omega
 have t2:(0+(((out.length+1:Nat):Int)).toNat)=out.length+1:=by omega
 have t3:(0+((k:Int)).toNat)=k:=by omega
 rw [t1,t2,t3,yL za za,zd,yE za za,zd]
 have J:(we (out++[(0:Int)]) (k+1) (out.length+1-(k+1)) (((out++[(0:Int)]).drop k).take (out.length+1-k))).length=out.length+1:=by
  have:=congrArg List.length (shiftG (z:=(0:Int)) (x:=(i:Int)) H)
  rw [Hx]at this
  rw [this]
  simp
  omega
 rw [tN za za,zd,vz (i:=k) rfl za,zd,shiftG H]
 have c:(out.take k++out.drop k).Pairwise (LexF F):=by rwa [IE]
 obtain⟨Q,T,W⟩:=List.pairwise_append.1 c
 have t:∀y∈out.drop k,LexF F i y:=λy C=>by
  obtain⟨j,u,rfl⟩:=HN C
  simp only [FQ]at u
  rw [Ht]
  have hk:k<out.length:=by omega
  have D:=k3 hk
  have q:=(f _ (FB hk)).2
  have a1:mC (eK F i) (eK F out[k])= -mC (eK F out[k]) (eK F i):=g.vM out[k] i
  have G:0<mC (eK F out[k]) (eK F i):=by
   rcases Int.lt_trichotomy (mC (eK F out[k]) (eK F i)) 0 with h|h|h
   ·exact(D (.inl h)).elim
   ·exact(D (.inr ⟨h,q⟩)).elim
   ·exact h
  have l:mC (eK F out[k]) (eK F out[k+j])<=0:=by
   by_cases e:j=0
   ·subst e;have:mC (eK F out[k]) (eK F out[k])=0:=g.refl out[k];simp only [Nat.add_zero];omega
   ·rcases List.pairwise_iff_getElem.1 i3 k (k+j) hk za za with h|h<;>simp only at h<;>omega
  have h1:mC (eK F i) (eK F out[k+j])<=0:=g.tr i out[k] out[k+j] za l
  have a2:mC (eK F out[k+j]) (eK F i)= -mC (eK F i) (eK F out[k+j]):=g.vM i out[k+j]
  rcases Gp h1 with h|h
  ·exact .inl h
  ·exfalso
   have:mC (eK F out[k]) (eK F i)<=0:=g.tr out[k] out[k+j] i l za
   omega
 have p:∀y∈out.take k,LexF F y i:=λy C=>by
  obtain⟨j,u,rfl⟩:=HN C
  simp only [FR]at u
  rw [Hv]
  exact O j za za
 refine H7 ⟨i+1,_,rfl,za,?_,List.pairwise_append.2 ⟨Q,List.pairwise_cons.2 ⟨t,T⟩,λa E b r=>?_⟩⟩ zc
 ·rw [ids_succ]
  refine List.perm_middle.trans ?_
  rw [IE]
  exact(List.Perm.cons _ i2).trans (List.perm_append_comm (l₁:=[(i:Int)]))
 ·rcases List.mem_cons.1 r with rfl|r
  ·exact p a E
  ·exact W a E b r
theorem order_eq{F:List Ph}(p:F.length<=19):∃o,gp F=some o∧kJ F=some o∧nL F o:=by
 obtain⟨o,t,f⟩:=order_at p
 obtain⟨r,j,l⟩:=rorder_ok (F:=F) za
 have q:Tot (λi k=>mC (eK F i) (eK F k)):=cmpF_tot.map (eK F)
 have : r = o := List.Perm.eq_of_pairwise (le := LexF F) (λa b _ _ h1 c => by
  exfalso
  have:mC (eK F b) (eK F a)= -mC (eK F a) (eK F b):=q.vM a b
  have g:∀x y:Int,LexF F x y->mC (eK F x) (eK F y)<0∨mC (eK F x) (eK F y)=0∧x<y:=λ_ _ h=>h
  rcases g a b h1 with h1|h1<;>rcases g b a c with c|c<;>omega) l.lex f.lex (l.perm.trans f.perm.symm)
 rw [this]at j
 exact⟨o,t,j,f⟩
theorem residuals_eq{q:aj}(j:PVR q){p:aa}(hp:Sub q.bt ⟨p,p⟩){t:Int}(k:T54 t):∃r,iz q p t=some (r,0)∧jx q p t=some (r,0)∧r.length=q.cB.length:=by
 obtain⟨zs,x,z2,z3, -⟩:=zones_eq j hp
 have y:=j.len
 obtain⟨t1,t2⟩:=k
 refine⟨zs.map λz=>(eW z t).getD 0,?_,?_,by rw [Fh,z3]⟩
 ·have hm:zr (0:Int) (zs.length:Int) (0:Int) 8=some []:=by
   unfold zr
   rw [if_pos za];rfl
  unfold iz
  rw [x]
  simp only [zd,bne_self_eq_false,FD,if_false]
  rw [if_neg so,if_neg so,hm,zd]
  rw [mS (l:=zs) (f:=λz=>(eW z t).getD 0) (g:=id) (λi hi acc a=>?_) (λacc a=>?_)]
  ·rfl
  ·obtain⟨r,c, -⟩:=res_eq zs[i] t
   unfold gG
   dsimp only
   rw [if_pos so,kp rfl hi,zd,c,zd,cu so,zd,w64 za za]
   rfl
  ·unfold gG
   dsimp only
   rw [if_neg zb];rfl
 ·unfold jx pS
  rw [zd,z2]
  simp only [zd,bne_self_eq_false,FD,if_false]
  rw [if_neg so,if_neg so]
  rw [mS (l:=zs) (f:=λz=>(eW z t).getD 0) (g:=id) (λi hi acc a=>?_) (λacc a=>?_)]
  ·rfl
  ·obtain⟨r,c,u⟩:=res_eq zs[i] t
   unfold ij
   dsimp only
   rw [if_pos so,kp rfl hi,zd,u,zd,cu so,zd,w64 za za,c]
   rfl
  ·unfold ij
   dsimp only
   rw [if_neg zb];rfl
def eH(o:List Int)(l:List Nat):List Int:=l.map (dg o)
theorem qY{o:List Int}{l:List Nat}{k:Nat}(h:k<l.length):py (eH o l) (k:Int)=some (dg o l[k]):=by
 rw [kp (i:=k) rfl (by simpa [eH]using h)]
 simp [eH]
theorem et(o:List Int)(l:List Nat):(eH o l).length=l.length:=by simp [eH]
theorem rwindow{F:List Ph}{o:List Int}(ho:nL F o)(z:∀b∈F,0<=b.bA∧b.bA<=18014398509481984){a:As}(K:0<=a.df∧a.df<=1099511627776){i:Nat}{r:List Nat}(q:∀x∈i::r,x<F.length)(L:(i::r).length<=1000)
  (hs:(i::r).Pairwise λx y=>(plP F o x).bA<=(plP F o y).bA):cI (dL (eH o (i::r)) F a) ((0:Int),[])=some (eH o (winK (λj=>(plP F o j).bA) a.df (i::r))):=by
 obtain⟨N,G,k3⟩:=ho.get (q i zb)
 have f2:=z _ k3
 have key:∀(B D:List Nat)(acc:List Nat),i::r=D++B->acc.length<=16->cI (dL (eH o (i::r)) F a) ((D.length:Int),eH o acc)=some (eH o (acc++(B.takeWhile λj=>decide ((plP F o j).bA-(plP F o i).bA<=a.df)).take (16-acc.length))):=by
  intro B
  induction B with
  |nil=>
   intro D acc l C
   rw [dE (o:=eH o acc)]
   ·simp
   ·unfold dL
    dsimp only
    rw [if_neg (by rw [et,l];simp)]
  |cons b B E=>
   intro D acc l C
   have t:D.length<(i::r).length:=by rw [l];simp
   have J:(i::r)[D.length]=b:=by simp [l]
   have u:b∈i::r:=by rw [l];simp
   obtain⟨g1,g2,g3⟩:=ho.get (q b u)
   have f1:=z _ g3
   have p:py (eH o (i::r)) (D.length:Int)=some (dg o b):=by rw [qY t,J]
   have g:py (eH o (i::r)) (0:Int)=some (dg o i):=qY (k:=0) zb
   by_cases H:acc.length<16
   ·have hw:GV .i64 ((plP F o i).bA+a.df)=(plP F o i).bA+a.df:=w64 za za
    by_cases hc:(plP F o b).bA-(plP F o i).bA<=a.df
    ·have f:dL (eH o (i::r)) F a ((D.length:Int),eH o acc)=some (.next (((D++[b]).length:Int),eH o (acc++[b]))):=by
      unfold dL
      dsimp only
      rw [if_pos (by rw [et];simp only [decide_eq_true_eq];omega),if_pos (by rw [et];simp;omega),p,zd,g2,zd,g,zd,G,zd,hw,if_pos so,zd,cu (by rw [et];simp;omega),zd,w64 za za]
      simp [eH]
     rw [tv f,E (D++[b]) (acc++[b]) (by rw [l];simp) so,Il (by simpa using hc),show 16-acc.length=(16-(acc++[b]).length)+1 by simp;omega,Im]
     simp
    ·have f:dL (eH o (i::r)) F a ((D.length:Int),eH o acc)=some (.next (((D++[b]).length:Int),eH o acc)):=by
      unfold dL
      dsimp only
      rw [if_pos (by rw [et];simp only [decide_eq_true_eq];omega),if_pos (by rw [et];simp;omega),p,zd,g2,zd,g,zd,G,zd,hw,if_neg so,w64 za za]
      simp
     rw [tv f,E (D++[b]) acc (by rw [l];simp) C,Ik (by simpa using hc)]
     have I:(B.takeWhile λj=>decide ((plP F o j).bA-(plP F o i).bA<=a.df))=[]:=by
      cases B with
      |nil=>rfl
      |cons c B=>
       refine Ik ?_
       rw [l]at hs
       have:=(List.pairwise_cons.1 (List.pairwise_append.1 hs).2.1).1 c zb
       simp only [decide_eq_true_eq]
       omega
     rw [I]
   ·have f:dL (eH o (i::r)) F a ((D.length:Int),eH o acc)=some (.stop (eH o acc)):=by
     unfold dL
     dsimp only
     rw [if_pos (by rw [et];simp only [decide_eq_true_eq];omega),if_neg (by rw [et];simp;omega)]
    rw [dE f,show 16-acc.length=0 by omega]
    simp
 have:=key (i::r) [] [] rfl zb
 simpa [eH,winK]using this
def memR(lim:Int)(w:List Nat)(res:List Int):List Nat:=((w.zip res).filter λx=>decide (x.2<=lim)).map Prod.fst
theorem memR_sub{lim:Int}{w:List Nat}{res:List Int}(h:res.length=w.length):(memR lim w res).Sublist w:=by
 unfold memR
 have h1:((w.zip res).filter λx=>decide (x.2<=lim)).map Prod.fst |>.Sublist ((w.zip res).map Prod.fst):=List.Sublist.map _ IZ
 rwa [List.map_fst_zip za]at h1
theorem code_members{lim:Int}{w:List Nat}{res:List Int}{nx bk:List Int}{q:Int}{a:As}(r:a.dH=lim)(h:res.length=w.length)(hw:w.length<=1000):cI (eA (n0 w,nx,bk) (res,q) a) ((0:Int),([]:List Int))=some (n0 (memR lim w res)):=by
 have t:(w.zip res).length=w.length:=by simp [h]
 rw [rA (l:=w.zip res) (f:=λx=>if(λx:Nat×Int=>decide (x.2<=lim)) x=true then [(λx:Nat×Int=>((x.1:Nat):Int)) x]else []) (g:=id) (λx _=>by split<;>simp) (λk hk acc c=>?_) (λacc c=>?_)]
 ·rw [o0]
  simp [n0,memR,Function.comp_def]
 ·have p:k<w.length:=by omega
  have j:k<res.length:=by omega
  unfold eA
  dsimp only
  rw [if_pos (by rw [jt];simp;omega),nats_get p,zd,kp rfl j,zd,I3,r,w64 za za]
  by_cases hc:res[k]<=lim
  ·rw [if_pos (by simpa using hc),if_pos (by simpa using hc),cu so,zd];rfl
  ·rw [if_neg (by simpa using hc),if_neg (by simpa using hc),GW];rfl
 ·unfold eA
  dsimp only
  rw [if_neg (by rw [jt,t];simp)];rfl
theorem ref_members{lim:Int}{o:List Int}{w:List Nat}{res:List Int}{q:Int}{a:As}(r:a.dH=lim)(h:res.length=w.length)(hw:w.length<=1000):cI (gu (eH o w) (res,q) a) ((0:Int),([]:List Int))=some (eH o (memR lim w res)):=by
 have t:(w.zip res).length=w.length:=by simp [h]
 rw [rA (l:=w.zip res) (f:=λx=>if(λx:Nat×Int=>decide (x.2<=lim)) x=true then [(λx:Nat×Int=>dg o x.1) x]else []) (g:=id) (λx _=>by split<;>simp) (λk hk acc c=>?_) (λacc c=>?_)]
 ·rw [o0]
  simp [eH,memR,Function.comp_def]
 ·have p:k<w.length:=by omega
  have j:k<res.length:=by omega
  unfold gu
  dsimp only
  rw [if_pos (by rw [et];simp;omega),kp rfl j,zd,I3,r,w64 za za]
  by_cases hc:res[k]<=lim
  ·rw [if_pos (by simpa using hc),if_pos (by simpa using hc),qY p,zd,cu so,zd];rfl
  ·rw [if_neg (by simpa using hc),if_neg (by simpa using hc),GW];rfl
 ·unfold gu
  dsimp only
  rw [if_neg (by rw [et,t];simp)];rfl
theorem in_at(l:List Int)(g:l.length<=1000)(x:Int):ti l x=some (decide (x∈l)):=by
 unfold ti
 have key:∀d i:Nat,i+d=l.length->cI (kK l x) (i:Int)=some (if x∈l.drop i then .inr true else .inl ()):=by
  intro d
  induction d with
  |zero=>
   intro i hi
   rw [Hq za,if_neg zb]
   apply dE
   unfold kK
   rw [if_neg so]
  |succ d f=>
   intro i hi
   have h:i<l.length:=by omega
   rw [HI h]
   by_cases e:l[i]=x
   ·rw [if_pos (by simp [e])]
    apply dE
    unfold kK
    rw [if_pos so,kp rfl h,zd,if_pos (by simpa using e)]
   ·have c:kK l x (i:Int)=some (.next ((i+1:Nat):Int)):=by
     unfold kK
     rw [if_pos so,kp rfl h,zd,if_neg (by simpa using e),w64 za za];rfl
    rw [tv c,f (i+1) za]
    have:x∈l[i]::l.drop (i+1)↔x∈l.drop (i+1):=by
     rw [GX]
     exact⟨λh=>h.resolve_left λh=>e h.symm,.inr⟩
    simp only [this]
 have:=key l.length 0 za
 have a:((0:Nat):Int)=0:=rfl
 rw [a,G7]at this
 rw [this,zd]
 by_cases h:x∈l
 ·rw [if_pos h,decide_eq_true h]
 ·rw [if_neg h,decide_eq_false h]
theorem without_at(l g:List Int)(j:l.length<=1000)(c:g.length<=1000):nG l g=some (l.filter λx=>decide (x∉g)):=by
 unfold nG
 rw [rA (l:=l) (f:=λx=>if(λx:Int=>decide (x∉g)) x=true then [(λx:Int=>x) x]else []) (g:=id) (λx _=>by split<;>simp) (λk hk acc a=>?_) (λacc a=>?_)]
 ·rw [o0]
  simp
 ·unfold jV
  dsimp only
  rw [if_pos so,kp rfl hk,zd,in_at g c,zd,w64 za za]
  by_cases hc:l[k]∈g
  ·rw [decide_eq_true hc,if_neg zb,if_neg (by simpa using hc),GW];rfl
  ·rw [decide_eq_false hc,if_pos zb,if_pos (by simpa using hc),zd,cu so,zd];rfl
 ·unfold jV
  dsimp only
  rw [if_neg zb];rfl
theorem ord_inj{F:List Ph}{o:List Int}(ho:nL F o){i k:Nat}(hi:i<F.length)(hk:k<F.length)(h:dg o i=dg o k):i=k:=by
 have a:o.Nodup:=ho.perm.nodup_iff.2 ((ids_asc F.length).imp λh=>za)
 have c:=ho.len
 unfold dg at h
 rw [Fx,Fx,ze za,ze za]at h
 simp only [Option.getD_some]at h
 exact(I2 a).1 h
theorem filter_omap{F:List Ph}{o:List Int}(ho:nL F o){P M:List Nat}{g:List Int}(f:∀x∈P,x<F.length)(c:∀x∈M,x<F.length)(j:g.Perm (eH o M)):(eH o P).filter (λx=>decide (x∉g))=eH o (P.filter λx=>decide (x∉M)):=by
 unfold eH
 rw [List.filter_map]
 congr 1
 refine IX λx k=>?_
 simp only [Function.comp]
 have:dg o x∈g↔x∈M:=by
  rw [j.mem_iff]
  unfold eH
  rw [I5]
  exact⟨fun⟨y,a,e⟩=>by rw [<-ord_inj ho (c y a) (f x k) e];exact a,λh=>⟨x,h,rfl⟩⟩
 simp only [this]
end Go.Dw.Ef
set_option maxRecDepth 100000
set_option maxHeartbeats 4000000
namespace Go.Dw.Ef
open Go.Dw Go.Proofs
def prb(a:As)(ph:List Ph):aj:=⟨a.bt,a.bP,ph,a.eV⟩
def PhA(a:As)(b:Ph):Prop:=PhP (prb a []) b
theorem PhA.to{a:As}{b:Ph}(h:PhA a b)(ph:List Ph):PhP (prb a ph) b:=⟨h.pos,h.early,h.late,h.wt,h.reach⟩
theorem prb_ok{s:ai}(hs:pX s){ph:List Ph}(h:∀b∈ph,PhA s.ae b)(f:1<=ph.length∧ph.length<=64):PVR (prb s.ae ph):=⟨hs.box,hs.tab,f,hs.cap,λa c=>(h a c).to ph⟩
theorem rset_true{s:ai}(a:cr s=some 0):f9 s.ae=some true:=by
 unfold cr at a
 cases h:f9 s.ae with
 |none=>rw [h]at a;cases a
 |some b=>
  cases b with
  |true=>rfl
  |false=>rw [h]at a;cases a
theorem avalid_eq{s:ai}(hs:pX s)(E:cr s=some 0){F:List Ph}(L:F.length<=256)(f:∀b∈F,PhA s.ae b):ex s.ae F=some 0∧mW s.ae F=some 0:=by
 constructor
 ·have j:=hs
  obtain⟨h1,q,t,u,y,B,C, -⟩:=hs
  unfold ex
  rcases lC s.ae.bP with⟨p, -, -⟩|⟨-, -,h⟩
  rotate_left
  ·exact(h q).elim
  rw [jJ,decide_eq_true h1,p]
  simp only [ain_at,mN.2 t,mN.2 u,mN.2 y,mN.2 B,mN.2 C,zd,bne_self_eq_false,FD,if_false,HV]
  have a:cI (dG F s.ae) (0:Int)=some (.inl ()):=by
   refine ov F.length (λi hi=>?_) ?_
   ·unfold dG
    have l:PVR (prb s.ae [F[i]]):=prb_ok j (λb D=>by rw [List.mem_singleton.1 D];exact f _ (FB hi)) zb
    obtain⟨z,K, -⟩:=zone_eq l (Sub.refl h1) (l.all F[i] (by simp [prb]))
    have k:jd s.ae.bP s.ae.bt F[i]=some (z,0):=K
    rw [if_pos so,kp rfl hi,zd,k,zd,if_neg zb,w64 za za]
    rfl
   ·unfold dG
    rw [if_neg zb]
  rw [if_neg so,a]
  rfl
 ·unfold mW
  have a:cI (gd F s.ae) (0:Int)=some (.inl ()):=by
   refine ov F.length (λi hi=>?_) ?_
   ·unfold gd
    have c:=f _ (FB hi)
    have he:=c.early;have a:=c.late;have hw:=c.wt
    have v2:dR F[i]=some true:=by
     unfold dR
     rw [nJ,decide_eq_true c.pos,zd,if_pos rfl,if_pos (by simpa using he),if_pos (by simpa using a.1),if_pos (by simpa using a.2),if_pos (by simpa using hw.1)]
     simpa using hw.2
    obtain⟨r,G,H⟩:=c.reach
    obtain⟨x,I,J, -⟩:=pb hs.tab s.ae.bt F[i].bB
    have g:dI s.ae.bP s.ae.bt F[i].bB=some r:=G
    rw [I]at g
    obtain rfl:=Option.some.inj g
    rw [if_pos so,kp rfl hi,zd,v2,zd,if_neg zb,zd,J,zd,if_neg (by simp [H]),w64 za za]
    rfl
   ·unfold gd
    rw [if_neg zb]
  rw [rset_true E,zd,if_neg zb,if_neg so,a]
  rfl
structure GI(n:Nat)(o:List Int)(P:List Nat)(G:List bz)(L:List Int):Prop where
 nd:(G.flatMap (·.cf)++eH o P).Nodup
 rg:∀g∈G,∀x∈g.cf,0<=x∧x<(n:Int)
 two:∀g∈G,2<=g.cf.length
 sum:(G.flatMap (·.cf)).length+L.length+P.length<=n
 lr:∀x∈L,0<=x∧x<(n:Int)
theorem flat2:∀{G:List bz},(∀g∈G,2<=g.cf.length)->2*G.length<=(G.flatMap (·.cf)).length
 | [],_=>by simp
 |g::G,h=>by
  have:=flat2 (G:=G) λx a=>h x (by simp [a])
  have:=h g zb
  simp only [I1,F0,EZ]
  omega
theorem GI.few{n:Nat}{o:List Int}{P:List Nat}{G:List bz}{L:List Int}(h:GI n o P G L):2*G.length<=n:=by
 have:=flat2 h.two;have:=h.sum;omega
def zGr:bz:=⟨[],⟨0,0,0⟩,0⟩
theorem rounds_eq{s:ai}(hs:pX s){n:Nat}{F:List Ph}{o:List Int}(hn:F.length=n)(hF:n<=19)(a6:∀b∈F,PhA s.ae b)(ho:nL F o):
  ∀(m:Nat)(P:List Nat)(nx bk:List Int)(G:List bz)(L:List Int),P.length<=m->Ch n P nx bk->P.Pairwise (· < ·)->GI n o P G L->
   (∃T W,cI (cm s.ae F o) (G,L,nx,bk)=some (.inl (T,W))∧cI (ct s.ae F) (eH o P,G,L)=some (.inl (T,W))∧GI n o [] T W)∨
   (∃e:Int,e≠0∧cI (cm s.ae F o) (G,L,nx,bk)=some (.inr ([],[],e))∧cI (ct s.ae F) (eH o P,G,L)=some (.inr ([],[],e))):=by
 intro m
 induction m with
 |zero=>
  intro P nx bk G L Y hc _ C
  obtain rfl:=List.eq_nil_of_length_eq_zero (Nat.le_zero.1 Y)
  obtain⟨h1,h2⟩:=Lnk_head hc.lnk hc.ln
  refine .inl ⟨G,L,dE ?_,dE ?_,C⟩
  ·unfold cm
   dsimp only
   have hh:((([]++[n]).headD 0:Nat):Int)=(n:Int):=rfl
   rw [gA hc.ln za,zd,tN za (by have:=hc.ln;omega),zd,h1,zd,zd,hh,if_neg zb]
  ·unfold ct
   dsimp only
   rw [if_neg (by simp [eH])]
 |succ m ih=>
  intro P nx bk G L Y hc I C
  obtain⟨h1,h2⟩:=Lnk_head hc.lnk hc.ln
  match P,Y,hc,I,C,h1 with
  | [],Y,hc,I,C,h1=>
   refine .inl ⟨G,L,dE ?_,dE ?_,C⟩
   ·unfold cm
    dsimp only
    have hh:((([]++[n]).headD 0:Nat):Int)=(n:Int):=rfl
    rw [gA hc.ln za,zd,tN za (by have:=hc.ln;omega),zd,h1,zd,zd,hh,if_neg zb]
   ·unfold ct
    dsimp only
    rw [if_neg (by simp [eH])]
  |i::r,Y,hc,I,C,h1=>
   have u:=hc.lt
   have hi:=u i zb
   have hh:((((i::r)++[n]).headD 0:Nat):Int)=(i:Int):=rfl
   have hE:∀b∈F,0<=b.bA∧b.bA<=18014398509481984:=λb hb=>by
    have:=(a6 b hb).early;have:=(a6 b hb).late;omega
   have c2:=window_at ho hn za hE (a:=s.ae) hc
   have c0:=hs.span
   have c1:=C.sum
   have f6:=C.few
   simp only [EZ]at c1
   have g6:(i::r).length<=n:=by simp only [EZ];omega
   have a5:=(List.nodup_cons.1 hc.nd).2
   have a8:(i::r).Pairwise λx y=>(plP F o x).bA<=(plP F o y).bA:=by
    refine I.imp_of_mem fun{x y}E B e5=>?_
    have h5:=u x E;have h6:=u y B
    have g9:=ho.len
    have:=List.pairwise_iff_getElem.1 ho.lex x y za za e5
    have hle:mC (eK F o[x]) (eK F o[y])<=0:=by
     have q1:mC (eK F o[x]) (eK F o[y])<0∨mC (eK F o[x]) (eK F o[y])=0∧o[x]<o[y]:=this
     omega
    have e:∀j(Q:j<o.length),dg o j=o[j]:=λj Q=>by unfold dg;rw [Fx,ze Q];rfl
    unfold plP
    rw [e x za,e y za]
    exact cmpF_early hle
   have a7:=rwindow ho hE (a:=s.ae) c0 (λx E=>by have:=u x E;omega) za a8
   have a9:=winK_cons (λj=>(plP F o j).bA) c0.1 i r
   have t:=winK_sub (λj=>(plP F o j).bA) s.ae.df (i::r)
   generalize hw:winK (λj=>(plP F o j).bA) s.ae.df (i::r)=w at c2 a9 t a7
   have e0:w.length<=(i::r).length:=t.length_le
   have g4:w.length<=r.length+1:=by simpa using e0
   have h4:1<=w.length:=by rw [a9];simp
   have hle:=hs.least
   have e6:∃H D,cW (n0 w,nx,bk) o G L=some (.next (G,L++[dg o i],H,D))∧Ch n r H D:=by
    obtain⟨H,D,e,b5⟩:=remove_at hc (i:=i) zb
    rw [drop_first hc.nd]at b5
    refine⟨H,D,?_,b5⟩
    unfold cW
    dsimp only
    have g0:py (n0 w) (0:Int)=some (i:Int):=by rw [a9];rfl
    rw [g0,zd,(ho.get (j:=i) za).1,zd,cu so,zd,zd,e,zd]
   obtain⟨e7,c5,k1,k2⟩:=e6
   have h3:=ho.range (j:=i) za
   have c8:GI n o r G (L++[dg o i]):=by
    refine⟨?_,C.rg,C.two,by rw [F0,Fy];omega,λx E=>?_⟩
    ·refine C.nd.sublist (List.Sublist.append_left ?_ _)
     unfold eH
     rw [Fk]
     exact Ih _ _
    ·rcases List.mem_append.1 E with E|E
     ·exact C.lr x E
     ·rw [List.mem_singleton.1 E];omega
   have no:cm s.ae F o (G,L,nx,bk)=cW (n0 w,nx,bk) o G L->(∃g,mB s.ae F (eH o (i::r))=some (g,false,0))->
     (∃T W,cI (cm s.ae F o) (G,L,nx,bk)=some (.inl (T,W))∧cI (ct s.ae F) (eH o (i::r),G,L)=some (.inl (T,W))∧GI n o [] T W)∨
     (∃e:Int,e≠0∧cI (cm s.ae F o) (G,L,nx,bk)=some (.inr ([],[],e))∧cI (ct s.ae F) (eH o (i::r),G,L)=some (.inr ([],[],e))):=by
    rintro hC ⟨g,hR⟩
    have d0:ct s.ae F (eH o (i::r),G,L)=some (.next (eH o r,G,L++[dg o i])):=by
     unfold ct
     dsimp only
     have g0:py (eH o (i::r)) (0:Int)=some (dg o i):=qY (k:=0) zb
     have gc:w6 (eH o (i::r)) 1 ((eH o (i::r)).length:Int)=some (eH o r):=by
      have:=Sq.cutO_at (l:=eH o (i::r)) (a:=1) (b:=((eH o (i::r)).length:Int)) (i:=1) (j:=(eH o (i::r)).length) rfl rfl (by simp [eH]) (EB _)
      rw [this,IH (by simp [eH])]
      rfl
     rw [if_pos (by rw [et];simp),hR,zd]
     simp only [bne_self_eq_false,FD,if_false]
     rw [g0,zd,cu so,zd,gc,zd]
    rw [tv (hC.trans k1),tv d0]
    exact ih r e7 c5 G (L++[dg o i]) (by simpa using Y) k2 (List.pairwise_cons.1 I).2 c8
   have c:cm s.ae F o (G,L,nx,bk)=(if(decide (((n0 w).length:Int)>=s.ae.de))=true then((cI (ez (n0 w,nx,bk) o F G L) ((0:Int),([]:(List al)))).bind λJ=>(fu s.ae J.1).bind λf2=>(gR f2 s.ae.bD).bind λK=>if(K.2 != (0:Int))=true then(some (.stop (.inr (([]:(List bz)),([]:(List Int)),K.2))))else((fu s.ae J.1).bind λf3=>(iz f3 K.1.bU K.1.bS).bind λb3=>if(b3.2 != (0:Int))=true then(some (.stop (.inr (([]:(List bz)),([]:(List Int)),b3.2))))else((cI (eA (n0 w,nx,bk) b3 s.ae) ((0:Int),([]:(List Int)))).bind λc4=>if(decide ((c4.length:Int)>=s.ae.de))=true then((cI (dj c4 o) ((0:Int),nx,bk,([]:(List Int)))).bind λb0=>(vp b0.2.2).bind λf4=>(tE J.2.1 [(bz.mk f4 K.1.bU K.1.bS)] 56).bind λf5=>some (.next (f5,J.2.2,b0.1,b0.2.1)))else(cW (n0 w,nx,bk) o J.2.1 J.2.2))))else(cW (n0 w,nx,bk) o G L)):=by
    conv=>lhs;unfold cm
    dsimp only
    rw [gA hc.ln za,zd,tN za (by have:=hc.ln;omega),zd,h1,zd,zd,hh,if_pos so,c2,zd]
   by_cases g7:s.ae.de<=w.length
   rotate_left
   ·rw [if_neg (by rw [jt];simp;omega)]at c
    refine no c ⟨zGr,?_⟩
    unfold mB
    rw [a7,zd,if_pos (by rw [et];simp;omega)]
    rfl
   rw [if_pos (by rw [jt];simp;omega)]at c
   have e4:∀b∈w.map (plP F o),PhA s.ae b:=λb hb=>by
    obtain⟨j,Q,rfl⟩:=List.mem_map.1 hb
    exact a6 _ (ho.get (j:=j) (by have:=u j (t.subset Q);omega)).2.2
   have c7:cI (ez (n0 w,nx,bk) o F G L) ((0:Int),([]:(List al)))=some (w.map (plP F o),G,L):=by
    refine mS (l:=w) (f:=plP F o) (g:=λx=>(x,G,L)) (λk hk acc ha=>?_) (λacc ha=>?_)
    ·have Q:=u _ (t.subset (FB hk))
     obtain⟨g1,g2,g3⟩:=ho.get (j:=w[k]) za
     unfold ez
     dsimp only
     rw [if_pos (by rw [jt];simp;omega),nats_get hk,zd,g1,zd,g2,zd,cu so,zd,w64 za za]
     rfl
    ·unfold ez
     dsimp only
     rw [if_neg (by rw [jt];simp)]
   have d5:nF s.ae F (eH o w)=some (prb s.ae (w.map (plP F o))):=by
    unfold nF
    rw [mS (l:=w) (f:=plP F o) (g:=id) (λk hk acc ha=>?_) (λacc ha=>?_)]
    ·rfl
    ·have Q:=u _ (t.subset (FB hk))
     obtain⟨g1,g2,g3⟩:=ho.get (j:=w[k]) za
     unfold lv
     dsimp only
     rw [if_pos (by rw [et];simp;omega),qY hk,zd,g2,zd,cu so,zd,w64 za za]
     rfl
    ·unfold lv
     dsimp only
     rw [if_neg (by rw [et];simp)];rfl
   have d3:1<=(w.map (plP F o)).length∧(w.map (plP F o)).length<=64:=by rw [Fh];omega
   have hq:=prb_ok hs e4 d3
   obtain⟨x,x1,x2,x3⟩:=Locate_eq hq s.ae.bD
   have d4:fu s.ae (w.map (plP F o))=some (prb s.ae (w.map (plP F o))):=rfl
   rw [c7,zd]at c
   dsimp only at c
   rw [d4,zd,x1,zd]at c
   have p:mB s.ae F (eH o (i::r))=(if(x.2 != (0:Int))=true then(some ((bz.mk [] (aa.mk 0 0 0) 0),false,x.2))else((jx (prb s.ae (w.map (plP F o))) x.1.bU x.1.bS).bind λf0=>(cI (gu (eH o w) f0 s.ae) ((0:Int),([]:(List Int)))).bind λc3=>(jm c3).bind λf1=>some ((bz.mk f1 x.1.bU x.1.bS),(decide ((c3.length:Int)>=s.ae.de)),(0:Int)))):=by
    unfold mB
    rw [a7,zd,if_neg (by rw [et];simp;omega),d5,zd,x2,zd]
   by_cases h0:x.2=0
   rotate_left
   ·have O:(x.2 != 0)=true:=by simp [h0]
    rw [if_pos O]at c p
    refine .inr ⟨x.2,h0,dE c,dE ?_⟩
    unfold ct
    dsimp only
    rw [if_pos (by rw [et];simp),p,zd]
    dsimp only
    rw [if_pos O]
   have O:(x.2 != 0)=false:=by simp [h0]
   rw [O,if_neg Io]at c p
   obtain⟨-,y1,y2⟩:=x3 h0
   obtain⟨res,e1,e2,e3⟩:=residuals_eq hq y1 y2
   have X:res.length=w.length:=by rw [e3];simp [prb]
   rw [zd,e1,zd]at c
   dsimp only at c
   rw [if_neg zb,code_members rfl X za,zd]at c
   rw [e2,zd,ref_members rfl X za,zd]at p
   have q:(memR s.ae.dH w res).Sublist (i::r):=(memR_sub X).trans t
   generalize memR s.ae.dH w res=M at c p q
   have g5:M.length<=r.length+1:=by simpa using q.length_le
   obtain⟨g,g1,g2,g3⟩:=rsorted_eq (l:=eH o M) (by rw [et];omega)
   rw [g2,zd,et]at p
   by_cases g8:s.ae.de<=M.length
   rotate_left
   ·rw [if_neg (by rw [jt];simp;omega)]at c
    rw [decide_eq_false za]at p
    exact no c ⟨_,p⟩
   rw [if_pos (by rw [jt];simp;omega)]at c
   rw [decide_eq_true za]at p
   obtain⟨⟨H,D,acc⟩,t1,t2,t3⟩:=tq ho hn M [] (i::r) nx bk [] (a5.sublist q) (λx E=>q.subset E) hc so zb
   simp only [E2]at t1 t2 t3
   have e9:cI (dj (n0 M) o) ((0:Int),nx,bk,[])=some (H,D,acc):=t1
   subst t3
   have c6:vp (M.map (dg o))=some g:=g1
   have d1:g.length=M.length:=by rw [g3.length_eq,et]
   have hM:∀x∈M,x<F.length:=λx E=>by have:=u x (q.subset E);omega
   have c9:∀x∈i::r,x<F.length:=λx E=>by have:=u x E;omega
   rw [e9,zd]at c
   dsimp only at c
   rw [c6,zd,cu so,zd]at c
   have hR:ct s.ae F (eH o (i::r),G,L)=some (.next (eH o ((i::r).filter λx=>decide (x∉M)),G++[bz.mk g x.1.bU x.1.bS],L)):=by
    unfold ct
    dsimp only
    rw [if_pos (by rw [et];simp),p,zd]
    simp only [bne_self_eq_false,FD,if_false,if_true]
    rw [cu so,zd,without_at _ _ (by rw [et];omega) za,zd,filter_omap ho c9 hM g3]
   rw [tv c,tv hR]
   have N:((i::r).filter (λx=>decide (x∈M))++(i::r).filter λx=>decide (x∉M)).Perm (i::r):=by
    have:=List.filter_append_perm (λx=>decide (x∈M)) (i::r)
    simpa using this
   have b4:M.Perm ((i::r).filter λx=>decide (x∈M)):=by
    rw [Ia (a5.sublist q) (a5.sublist IZ)]
    intro y
    simp only [List.mem_filter,decide_eq_true_eq]
    exact⟨λB=>⟨q.subset B,B⟩,λB=>B.2⟩
   have hlen:M.length+((i::r).filter λx=>decide (x∉M)).length=(i::r).length:=by
    rw [b4.length_eq, <-F0,N.length_eq]
   have d2:M.length+((i::r).filter λx=>decide (x∉M)).length=r.length+1:=by simpa using hlen
   have b6:(G++[bz.mk g x.1.bU x.1.bS]).flatMap (·.cf)=G.flatMap (·.cf)++g:=by simp
   refine ih _ H D _ L (by simp only [EZ]at Y;omega) t2 (I.sublist IZ) ⟨?_,λy B=>?_,λy B=>?_,?_,C.lr⟩
   ·rw [b6,ED]
    refine(List.Perm.nodup_iff (List.Perm.append_left _ ?_)).2 C.nd
    refine(List.Perm.append_right _ g3).trans ?_
    unfold eH
    rw [<-GL]
    exact((b4.append_right _).trans N).map _
   ·rcases List.mem_append.1 B with B|B
    ·exact C.rg y B
    ·rw [List.mem_singleton.1 B]
     intro z hz
     obtain⟨j,Q,rfl⟩:=List.mem_map.1 (g3.mem_iff.1 hz)
     have:=ho.range (j:=j) (hM j Q)
     omega
   ·rcases List.mem_append.1 B with B|B
    ·exact C.two y B
    ·rw [List.mem_singleton.1 B]
     show 2<=g.length
     omega
   ·rw [b6,F0,d1];omega
theorem Associate_eq{s:ai}(hs:pX s)(O:cr s=some 0){F:List Ph}(B:F.length<=19)(j:∀b∈F,PhA s.ae b):
  ∃r,hZ s.ae F=some r∧md s.ae F=some r∧(r.2.2=0->(r.1.flatMap (·.cf)).Nodup∧(∀g∈r.1,2<=g.cf.length∧∀x∈g.cf,0<=x∧x<(F.length:Int))∧2*r.1.length<=F.length∧(r.1.flatMap (·.cf)).length<=F.length∧r.2.1.length<=F.length∧∀x∈r.2.1,0<=x∧x<(F.length:Int)):=by
 obtain⟨v1,v2⟩:=avalid_eq hs O za j
 obtain⟨o,W,X,ho⟩:=order_eq B
 unfold hZ md
 rw [v1,v2]
 simp only [zd,bne_self_eq_false,FD,if_false]
 rw [W,X]
 simp only [zd]
 obtain⟨c,q,H,I,J⟩:=newChain_at (n:=F.length) za
 rw [q,zd]
 have f:eH o (EH F.length)=o:=by
  unfold eH
  refine List.ext_getElem (by rw [Fh,I4,ho.len]) λk h1 N=>?_
  rw [List.getElem_map,List.getElem_range]
  unfold dg
  rw [Fx,ze N];rfl
 have t:o.Nodup:=ho.perm.nodup_iff.2 ((ids_asc F.length).imp λh=>za)
 have C:=rounds_eq hs rfl B j ho F.length (EH F.length) c.qV c.fback [] [] zb ⟨H,I,J,by rw [Fi];exact⟨zb,I8⟩,λx u=>List.mem_range.1 u⟩ List.pairwise_lt_range ⟨by rw [f];simpa using t,zb,zb,zb,zb⟩
 rw [f]at C
 rcases C with⟨G,L,y,z,a⟩|⟨e,K,y,z⟩
 ·rw [y,z]
  simp only [zd]
  have p:=a.sum
  simp only [E0]at p
  obtain⟨l,Q,T,E⟩:=rsorted_eq (l:=L) za
  rw [Q,T]
  refine⟨_,rfl,rfl,λ_=>⟨by simpa [eH]using a.nd,λg D=>⟨a.two g D,a.rg g D⟩,a.few,zc,by simp only;rw [E.length_eq];omega,λx u=>a.lr x (E.mem_iff.1 u)⟩⟩
 ·rw [y,z]
  exact⟨_,rfl,rfl,λh=>(K h).elim⟩
end Go.Dw.Ef
set_option maxRecDepth 100000
set_option maxHeartbeats 4000000
namespace Go.Dw.Ef
open Go.Dw Go.Proofs
open Sd (lF ke ip)
def px(a b:Pick):Int:=if uu a.bS b.bS≠0 then uu a.bS b.bS else jo a b
theorem cmpE_eq(a b:Pick):lN a b=some (px a b):=by
 unfold lN
 simp only [Sd.mH,mh,zd,cmp_or2]
 rfl
theorem qQ:Tot px:=(u7.map λx:Pick=>x.bS).or fD
theorem cmpE_zero{a b:Pick}(h:px a b=0):a=b:=by
 unfold px at h
 exact pI (pJ h).2
def z0:Pick:=⟨⟨[],[],[],[]⟩,0,0,0,0,0⟩
def nmF(b:Pick)(l:List Pick):Pick:=l.foldl (λb x=>if px x b<0 then x else b) b
def nm:List Pick->Pick
 | []=>z0
 |p::l=>nmF p l
theorem nmF_least:∀(l:List Pick)(b:Pick),nmF b l∈b::l∧∀x∈b::l,px (nmF b l) x<=0
 | [], b => ⟨by simp [nmF], λx a => by
  rw [List.mem_singleton.1 a]
  have:=qQ.refl b
  show px b b<=0
  omega⟩
 |y::l,b=>by
  have hu:nmF b (y::l)=nmF (if px y b<0 then y else b) l:=rfl
  rw [hu]
  obtain⟨h1,c⟩:=nmF_least l (if px y b<0 then y else b)
  have f:=c (if px y b<0 then y else b) zb
  by_cases h:px y b<0
  ·rw [if_pos h]at h1 c f⊢
   refine⟨HP _ h1,λx a=>?_⟩
   rcases List.mem_cons.1 a with rfl|a
   ·exact qQ.tr _ _ _ f za
   ·exact c x a
  ·rw [if_neg h]at h1 c f⊢
   refine⟨?_,λx a=>?_⟩
   ·rcases List.mem_cons.1 h1 with h1|h1
    ·rw [h1];simp
    ·exact HP _ (HP _ h1)
   ·rcases List.mem_cons.1 a with rfl|a
    ·exact f
    ·rcases List.mem_cons.1 a with rfl|a
     ·have:=qQ.vM x b
      exact qQ.tr _ _ _ f za
     ·exact c x (HP _ a)
theorem nm_least{l:List Pick}(h:l≠ []):nm l∈l∧∀x∈l,px (nm l) x<=0:=by
 cases l with
 |nil=>exact(h rfl).elim
 |cons p l=>exact nmF_least l p
theorem name_at{l:List Pick}(g:l.length<=1000):qc l=some (nm l):=by
 unfold qc
 cases l with
 |nil=>rw [if_pos zb];rfl
 |cons p l=>
  rw [if_neg so]
  unfold eJ
  rw [if_neg so,show py (p::l) (0:Int)=some p from rfl,zd]
  have key:∀(k i:Nat)(b:Pick),i+k=(p::l).length->cI (dc (p::l)) ((i:Int),b.az.bI,b.az.bB,b.az.bg,b.az.bL,b.bS,b.bA,b.bY,b.bG,b.bM)=
    some (let c:=nmF b ((p::l).drop i);(c.az.bI,c.az.bB,c.az.bg,c.az.bL,c.bS,c.bA,c.bY,c.bG,c.bM)):=by
   intro k
   induction k with
   |zero=>
    intro i b hi
    obtain rfl:i=(p::l).length:=by omega
    rw [dE (o:=(b.az.bI,b.az.bB,b.az.bg,b.az.bL,b.bS,b.bA,b.bY,b.bG,b.bM))]
    ·rw [IV];rfl
    ·unfold dc
     dsimp only
     rw [if_neg zb]
   |succ k j=>
    intro i b hi
    have a:i<(p::l).length:=by omega
    rw [HI a]
    have f:dc (p::l) ((i:Int),b.az.bI,b.az.bB,b.az.bg,b.az.bL,b.bS,b.bA,b.bY,b.bG,b.bM)=
      some (.next (let c:=(if px (p::l)[i] b<0 then(p::l)[i]else b);(((i+1:Nat):Int),c.az.bI,c.az.bB,c.az.bg,c.az.bL,c.bS,c.bA,c.bY,c.bG,c.bM))):=by
     unfold dc
     dsimp only
     rw [if_pos (by simp at a⊢;omega),kp (i:=i) rfl a,zd,cmpE_eq,zd,w64 za (by simp at a g;omega)]
     by_cases h:px (p::l)[i] b<0
     ·rw [if_pos (by simpa using h),if_pos h,zd];rfl
     ·rw [if_neg (by simpa using h),if_neg h];rfl
    rw [tv f]
    exact j (i+1) _ za
  have:=key l.length 1 p so
  have h1:(1:Int)=((1:Nat):Int):=rfl
  rw [h1,this]
  rfl
noncomputable abbrev cE:bd->bd->Bool:=λx y=>decide (px x.cL y.cL<0)
theorem names_eq(x y:bd):lO ⟨⟩ x y=some (px x.cL y.cL):=by unfold lO;rw [cmpE_eq];rfl
theorem ins_event{l:List bd}(a:l.length<=1000):dN 0 (l.length:Int) l=some (m9 cE l):=by
 refine Eq.trans (b:=insG (λx y=>lO ⟨⟩ x y) (λc=>decide (c<0)) 0 (l.length:Int) l) rfl (insG_at (S:=λ_=>True) (λx y _ _=>⟨_,names_eq x y,rfl⟩) (λ_ _=>trivial) a)
theorem u64_range(n:Int):0<=GV .u64 n∧GV .u64 n<18446744073709551616:=by
 simp [GV,IntKind.bits,IntKind.signed];omega
theorem sort_event{l:List bd}(k:l.length<=12):dF l=some (m9 cE l):=by
 unfold dF
 obtain⟨b,c⟩:∃b,nN (GV .u64 (l.length:Int))=some b:=by
  have g:=u64_range (l.length:Int)
  generalize GV .u64 (l.length:Int)=n at g
  by_cases h:n=0
  ·subst h;exact⟨0,by kernel_rfl⟩
  ·obtain⟨b,c, -⟩:=bits_at (n:=n) za g.2
   exact⟨b,c⟩
 rw [c,zd]
 have h1:(cI (cz l.length 0 l b) ())=some (m9 cE l):=by
  refine dE ?_
  unfold cz
  rw [w64 za za,if_pos so,ins_event za]
  rfl
 have j:cP 0 (l.length:Int) b l=some (m9 cE l):=by
  unfold cP
  refine recO_of ⟨1,?_⟩ λn s hs=>?_
  ·show((cI (cz l.length 0 l b) ()).bind λf=>some f)=_
   rw [h1];rfl
  ·cases n with
   |zero=>cases hs
   |succ n=>
    have a:((cI (cz l.length 0 l b) ()).bind λf=>some f)=some s:=hs
    rw [h1]at a
    exact(Option.some.inj a).symm
 rw [j];rfl
def uAt(U:List Pick)(i:Int):Pick:=U.getD i.toNat z0
theorem tu{U:List Pick}{i:Int}(a:0<=i)(h1:i<U.length):py U i=some (uAt U i):=by
 rw [kp (i:=i.toNat) za za]
 unfold uAt
 rw [Fx,ze za];rfl
theorem uAt_mem{U:List Pick}{i:Int}(a:0<=i)(h1:i<U.length):uAt U i∈U:=by
 unfold uAt
 rw [Fx,ze za]
 exact FB _
end Go.Dw.Ef
set_option maxRecDepth 100000
set_option maxHeartbeats 4000000
namespace Go.Dw.Ef
open Go.Dw Go.Proofs
abbrev Ev:=bd
theorem rcmpE(a b:Pick):lX a b=some (px a b):=by
 unfold lX px uu
 by_cases h:a.bS<b.bS
 ·rw [if_pos (decide_eq_true h),if_pos h,if_pos (by decide)]
 ·rw [if_neg (by simpa using h),if_neg h]
  by_cases c:a.bS>b.bS
  ·rw [if_pos (decide_eq_true c),if_pos c,if_pos (by decide)]
  ·rw [if_neg (by simpa using c),if_neg c,if_neg (by decide),kU];rfl
theorem rname_at{l:List Pick}(j:l.length<=1000)(g:l≠ []):qx l=some (nm l):=by
 cases l with
 |nil=>exact(g rfl).elim
 |cons p l=>
  unfold qx
  rw [show py (p::l) (0:Int)=some p from rfl,zd]
  have key:∀(k i:Nat)(b:Pick),i+k=(p::l).length->cI (iJ (p::l)) ((i:Int),b.az.bI,b.az.bB,b.az.bg,b.az.bL,b.bS,b.bA,b.bY,b.bG,b.bM)=
    some (let c:=nmF b ((p::l).drop i);(c.az.bI,c.az.bB,c.az.bg,c.az.bL,c.bS,c.bA,c.bY,c.bG,c.bM)):=by
   intro k
   induction k with
   |zero=>
    intro i b hi
    obtain rfl:i=(p::l).length:=by omega
    rw [dE (o:=(b.az.bI,b.az.bB,b.az.bg,b.az.bL,b.bS,b.bA,b.bY,b.bG,b.bM))]
    ·rw [IV];rfl
    ·unfold iJ
     dsimp only
     rw [if_neg zb]
   |succ k q=>
    intro i b hi
    have a:i<(p::l).length:=by omega
    rw [HI a]
    have f:iJ (p::l) ((i:Int),b.az.bI,b.az.bB,b.az.bg,b.az.bL,b.bS,b.bA,b.bY,b.bG,b.bM)=
      some (.next (let c:=(if px (p::l)[i] b<0 then(p::l)[i]else b);(((i+1:Nat):Int),c.az.bI,c.az.bB,c.az.bg,c.az.bL,c.bS,c.bA,c.bY,c.bG,c.bM))):=by
     unfold iJ
     dsimp only
     rw [if_pos (by simp at a⊢;omega),kp (i:=i) rfl a,zd,rcmpE,zd,w64 za (by simp at a j;omega)]
     by_cases h:px (p::l)[i] b<0
     ·rw [if_pos (by simpa using h),if_pos h,zd];rfl
     ·rw [if_neg (by simpa using h),if_neg h];rfl
    rw [tv f]
    exact q (i+1) _ za
  have:=key l.length 1 p so
  have h1:(1:Int)=((1:Nat):Int):=rfl
  rw [h1,this]
  rfl
theorem phi_early{s:ai}{v:ag}{p:Pick}{x:al×bi×Bool}(h:eO s v p=some x)(hu:x.2.2=true):x.1.bA=p.bA:=by
 unfold eO at h
 obtain⟨a, -,h⟩:=Option.bind_eq_some_iff.1 h
 split at h
 ·cases h;cases hu
 obtain⟨c, -,h⟩:=Option.bind_eq_some_iff.1 h
 split at h
 ·cases h;cases hu
 obtain⟨f, -,h⟩:=Option.bind_eq_some_iff.1 h
 split at h
 ·cases h;cases hu
 cases h
 rfl
structure Us(s:ai)(v:ag)(l L:List Pick):Prop where
 set:pX s
 val:cr s=some 0
 code:gB s v l=some (L,L.map (φ s v),0)
 ref:gO s v l=some (L,L.map (φ s v),0)
 len:L.length<=l.length
 asc:L.Pairwise λx y=>jo x y<0
 all:∀p∈L,su p∧PhA s.ae (φ s v p)∧(φ s v p).bA=p.bA
theorem usable_two(s:ai){v:ag}(c:IA v){l:List Pick}(t:LS l):
  (∃e:Int,e≠0∧gB s v l=some ([],[],e)∧gO s v l=some ([],[],e))∨∃L,Us s v l L:=by
 rcases set_two s with⟨k,e2,hs⟩|⟨k,e2⟩
 rotate_left
 ·left
  unfold gB gO
  rw [k,e2]
  exact⟨27,by decide,rfl,rfl⟩
 cases r:Iv.vI v.bp with
 |false=>
  left
  unfold gB gO
  rw [k,e2,sr c,np c,r]
  exact⟨1,by decide,rfl,rfl⟩
 |true=>
  obtain⟨x,W,D,E,x4⟩:=Sort_eq (l:=l) (by have:=t.1;omega)
  obtain⟨y,F,X,Y⟩:=rn (l:=l) (by have:=t.1;omega)
  have B:y=x:=nK X D λz=>(Y z).trans (E z).symm
  rw [B]at F
  have u:∀p∈x,su p:=λp hp=>t.2 p ((E p).1 hp)
  have Q:x.length<=20:=by have:=t.1;omega
  have K:=Hw (U s v) x
  have a:∀p∈x.filter (U s v),su p∧PhA s.ae (φ s v p)∧(φ s v p).bA=p.bA∧gN s v p=some (φ s v p,true):=λp hp=>by
   obtain⟨h1,C⟩:=List.mem_filter.1 hp
   obtain⟨ep,ph,u1,u2,T⟩:=sq hs e2 c (u p h1)
   obtain⟨-, -,I,b1,b2,G,b4,H⟩:=T C
   rw [C]at u1 u2
   refine⟨u p h1,⟨b1,b2,G,za,H⟩,phi_early (x:=(φ s v p,ep,true)) u1 rfl,?_⟩
   rw [u2,I]
  have j:cI (ld x s v) ((0:Int),[],[])=some (x.filter (U s v),(x.filter (U s v)).map (φ s v)):=by
   refine H0 ?_
   refine H5 (λst=>∃i:Nat,st=((i:Int),(x.take i).filter (U s v),((x.take i).filter (U s v)).map (φ s v))∧i<=x.length) (λst=>((x.length:Int)-st.1).toNat) ?_ ⟨0,rfl,EK _⟩
   rintro st ⟨i,rfl,i1⟩
   unfold ld
   dsimp only
   refine Hc (λO=>?_) (λN=>Hb (by rw [show i=x.length by omega,pU]))
   have hi:i<x.length:=by omega
   obtain⟨ep,ph,u1, -, -⟩:=sq hs e2 c (u _ (FB hi))
   have J:mg s v x[i]=some (φ s v x[i],U s v x[i]):=by
    unfold mg
    rw [k,sr c,r,u1];rfl
   have hf:((x.take i).filter (U s v)).length<=1000:=EO (Hw _ _) so
   rw [kp rfl hi,zd,J,zd,w64 (n:=(i:Int)+1) za za]
   dsimp only
   cases hu:U s v x[i]with
   |true=>
    rw [if_pos rfl,cu (by simp only [EZ,E0];omega),zd,cu (by rw [Fh];simp only [EZ,E0];omega),zd]
    refine H7 ⟨i+1,?_,za⟩ zc
    rw [tD hi,Hr]
    simp [hu]
   |false=>
    rw [if_neg zb]
    refine H7 ⟨i+1,?_,za⟩ zc
    rw [tD hi,Hr]
    simp [hu]
  right
  refine⟨x.filter (U s v),hs,e2,?_,?_,za,D.filter _,λp hp=>⟨(a p hp).1,(a p hp).2.1,(a p hp).2.2.1⟩⟩
  ·unfold gB
   rw [k,sr c,r]
   simp only [zd,bne_self_eq_false,FD,if_false,HV]
   rw [W,zd,j,zd,if_neg so]
  ·unfold gO iX
   rw [e2,np c,r]
   simp only [zd,bne_self_eq_false,FD,if_false,HV]
   rw [F,zd,picks_eq hs e2 c u za,zd,zd,if_neg so]
   rw [mS (l:=x.filter (U s v)) (f:=φ s v) (g:=id) (λi hi acc q=>?_) (λacc q=>?_)]
   ·rfl
   ·unfold ly
    dsimp only
    rw [if_pos so,kp rfl hi,zd,(a _ (FB hi)).2.2.2,zd,cu so,zd,w64 za za]
    rfl
   ·unfold ly
    dsimp only
    rw [if_neg zb];rfl
theorem Us.ph{s:ai}{v:ag}{l L:List Pick}(h:Us s v l L):∀b∈L.map (φ s v),PhA s.ae b:=λb a=>by
 obtain⟨p,hp,rfl⟩:=List.mem_map.1 a
 exact(h.all p hp).2.1
theorem sort_row{c:List Pick}(k:c.Nodup)(g:c.length<=1000):∃r,xH cJ c=some r∧kz c=some r∧r.Perm c:=by
 obtain⟨m,m1,m2,m3⟩:=sort_at g
 obtain⟨y,j,l,p⟩:=rn g
 have f:m.Nodup:=m2.nodup_iff.2 k
 have hs:m.Pairwise λx y=>jo x y<0:=(m3.and f).imp fun{x y}h=>by
  rcases Gp h.1 with a|a
  ·exact a
  ·exact(h.2 (pI a)).elim
 have:y=m:=nK l hs λz=>(p z).trans m2.mem_iff.symm
 rw [this]at j
 exact⟨m,m1,j,m2⟩
theorem flat_len:∀X:List (List Pick),(∀g∈X,g≠ [])->X.length<=X.flatten.length
 | [],_=>by simp
 |x::X,h=>by
  have h1:=flat_len X λg a=>h g (HP _ a)
  have c:=List.length_pos_iff.2 (h x zb)
  rw [List.flatten_cons,F0,EZ];omega
theorem put_last{γ:Type}{B:List (List Pick)}{c:List Pick}(a:B.length<=1000)(f:List Pick->Option γ)(g:Unit->Option γ):
  GV .i64 (((B++[c]).length:Int)-(1:Int))=(B.length:Int)∧(B++[c]).length-1=B.length∧ye (B++[c])=some c∧atO (B.length:Int) B.length=some ()∧stO (B++[c]).length (B.length:Int) B.length=some ()∧inO (B++[c]) (B.length:Int)=some ()∧∀x,(B++[c]).set B.length x=B++[x]:=by
 refine⟨by rw [w64 zb so];simp,zb,?_,by unfold atO;simp,by unfold stO;rw [if_pos ⟨zb,zb⟩],tN za so,λx=>zb⟩
 unfold ye
 simp
theorem clusters_loop{s:ai}{v:ag}{l L:List Pick}(h:Us s v l L)(hl:L.length<=19){o:List Int}(ho:nL (L.map (φ s v)) o):
  ∀d k:Nat,k+d=L.length->∀(out:List (List Pick))(last:Int),(0<k->last=(uAt L (dg o (k-1))).bA∧out≠ [])->out.flatten=(EH k).map (λj=>uAt L (dg o j))->(∀c∈out,c≠ [])->
   ∃r,cI (da o (L,L.map (φ s v),0) s) (last,(k:Int),out)=some r∧cI (db o (L,L.map (φ s v),0) s) ((k:Int),out)=some r∧r.flatten=(EH L.length).map (λj=>uAt L (dg o j))∧∀c∈r,c≠ []:=by
 have b4:o.length=L.length:=by rw [ho.len,Fh]
 have p:∀k:Nat,k<L.length->py o (k:Int)=some (dg o k)∧py L (dg o k)=some (uAt L (dg o k))∧py (L.map (φ s v)) (dg o k)=some (φ s v (uAt L (dg o k)))∧(φ s v (uAt L (dg o k))).bA=(uAt L (dg o k)).bA∧0<=(uAt L (dg o k)).bA∧(uAt L (dg o k)).bA<=18014398509481984:=λk hk=>by
  have u:=ho.range (j:=k) (by rw [Fh];exact hk)
  rw [Fh]at u
  obtain⟨q1,q2,q3⟩:=h.all _ (uAt_mem u.1 u.2)
  have he:=q2.early;have b3:=q2.late
  refine⟨ordAt_get za,tu u.1 u.2,?_,q3,za,za⟩
  rw [pO u.1 (by rw [Fh];exact u.2)]
  unfold eK uAt
  rw [Fx,Fx,List.getElem?_map,ze za]
  rfl
 intro d
 induction d with
 |zero=>
  intro k hk out last _ hf g
  refine⟨out,dE ?_,dE ?_,by rw [hf,show k=L.length by omega],g⟩
  ·unfold da;dsimp only;rw [if_neg so]
  ·unfold db;dsimp only;rw [if_neg so]
 |succ d ih=>
  intro k hk out last t hf g
  have a9:k<L.length:=by omega
  obtain⟨g1,g2,g3,g4,g5,g6⟩:=p k a9
  have F:=flat_len out g
  rw [hf,Fh,I4]at F
  have a7:∀c∈out,c.length<=19:=λc hc=>by
   have:=(Ii hc).length_le
   rw [hf,Fh,I4]at this
   omega
  have nx:∀(B:List (List Pick))(c:List Pick),B.length<=19->c.length<=19->(B++[c]).flatten=(EH k).map (λj=>uAt L (dg o j))->(∀c∈B,c≠ [])->
    da o (L,L.map (φ s v),0) s (last,(k:Int),out)=some (.next ((uAt L (dg o k)).bA,((k+1:Nat):Int),B++[c++[uAt L (dg o k)]]))->db o (L,L.map (φ s v),0) s ((k:Int),out)=some (.next (((k+1:Nat):Int),B++[c++[uAt L (dg o k)]]))->
    ∃r,cI (da o (L,L.map (φ s v),0) s) (last,(k:Int),out)=some r∧cI (db o (L,L.map (φ s v),0) s) ((k:Int),out)=some r∧r.flatten=(EH L.length).map (λj=>uAt L (dg o j))∧∀c∈r,c≠ []:=λB c hB hc a8 a6 e1 e2=>by
   rw [tv e1,tv e2]
   refine ih (k+1) za _ _ (λ_=>⟨zb,zb⟩) ?_ (λx y=>?_)
   ·rw [Ig,GL, <-a8]
    simp
   ·rcases List.mem_append.1 y with y|y
    ·exact a6 x y
    ·rw [List.mem_singleton.1 y];simp
  have C:da o (L,L.map (φ s v),0) s (last,(k:Int),out)=((tE out [[]] 24).bind λa=>(py (L.map (φ s v)) (dg o k)).bind λQ=>(ye a).bind λz=>(inO a (GV .i64 ((a.length:Int)-(1:Int)))).bind λT=>(atO (GV .i64 ((a.length:Int)-(1:Int))) (a.length-1)).bind λW=>(py L (dg o k)).bind λX=>(tE z [X] 104).bind λY=>(inO a (GV .i64 ((a.length:Int)-(1:Int)))).bind λb5=>(stO a.length (GV .i64 ((a.length:Int)-(1:Int))) (a.length-1)).bind λb6=>some (.next (Q.bA,(GV .i64 ((k:Int)+(1:Int))),(a.set (a.length-1) Y))))->
    db o (L,L.map (φ s v),0) s ((k:Int),out)=((tE out [[]] 24).bind λf=>(ye f).bind λb0=>(inO f (GV .i64 ((f.length:Int)-(1:Int)))).bind λa=>(atO (GV .i64 ((f.length:Int)-(1:Int))) (f.length-1)).bind λQ=>(py o (k:Int)).bind λz=>(py L z).bind λT=>(tE b0 [T] 104).bind λW=>(inO f (GV .i64 ((f.length:Int)-(1:Int)))).bind λX=>(stO f.length (GV .i64 ((f.length:Int)-(1:Int))) (f.length-1)).bind λY=>some (.next ((GV .i64 ((k:Int)+(1:Int))),(f.set (f.length-1) W))))->
    ∃r,cI (da o (L,L.map (φ s v),0) s) (last,(k:Int),out)=some r∧cI (db o (L,L.map (φ s v),0) s) ((k:Int),out)=some r∧r.flatten=(EH L.length).map (λj=>uAt L (dg o j))∧∀c∈r,c≠ []:=λe1 e2=>by
   obtain⟨G,H,I,J,K,N,O⟩:=put_last (γ:=Unit) (B:=out) (c:=[]) za (λ_=>none) (λ_=>none)
   refine nx out [] za zb (by simpa using hf) g ?_ ?_
   ·rw [e1,cu so,zd,g3,zd,I,zd,G,N,zd,H,J,zd,g2,zd,cu zb,zd,zd,K,zd,O,w64 za za,g4]
    rfl
   ·rw [e2,cu so,zd,I,zd,G,N,zd,H,J,zd,g1,zd,g2,zd,cu zb,zd,zd,K,zd,O,w64 za za]
    rfl
  by_cases h0:k=0
  ·subst h0
   refine C ?_ ?_
   ·unfold da
    dsimp only
    rw [if_pos so,g1,zd,if_pos (show(((0:Nat):Int)==0)=true from rfl)]
   ·unfold db
    dsimp only
    rw [if_pos so,if_pos (show(((0:Nat):Int)==0)=true from rfl)]
  ·obtain⟨rfl,q⟩:=t za
   obtain⟨f1,f2, -, -,f5,f6⟩:=p (k-1) za
   have E:GV .i64 ((k:Int)-1)=((k-1:Nat):Int):=by rw [w64 za za];omega
   have hz:((k:Int)==0)=false:=by simp;omega
   have hw:GV .i64 ((uAt L (dg o k)).bA-(uAt L (dg o (k-1))).bA)=(uAt L (dg o k)).bA-(uAt L (dg o (k-1))).bA:=w64 za za
   by_cases hc:(uAt L (dg o k)).bA-(uAt L (dg o (k-1))).bA>s.ae.df
   ·refine C ?_ ?_
    ·unfold da
     dsimp only
     rw [if_pos so,g1,zd,hz,if_neg Io,g3,zd,g4,hw,if_pos (by simpa using hc)]
    ·unfold db
     dsimp only
     rw [if_pos so,hz,if_neg Io,g1,zd,g2,zd,E,f1,zd,f2,zd,hw,if_pos (by simpa using hc)]
   ·obtain⟨B,c,rfl⟩:∃B c,out=B++[c]:=⟨out.dropLast,out.getLast q,(IU q).symm⟩
    have a5:B.length<=19:=by rw [F0]at F;omega
    have D:=a7 c zb
    obtain⟨G,H,I,J,K,N,O⟩:=put_last (γ:=Unit) (B:=B) (c:=c) za (λ_=>none) (λ_=>none)
    refine nx B c a5 D hf (λx y=>g x (by simp [y])) ?_ ?_
    ·unfold da
     dsimp only
     rw [if_pos so,g1,zd,hz,if_neg Io,g3,zd,g4,hw,if_neg (by simpa using hc),zd,I,zd,G,N,zd,H,J,zd,g2,zd,cu so,zd,zd,K,zd,O,w64 za za,g4]
     rfl
    ·unfold db
     dsimp only
     rw [if_pos so,hz,if_neg Io,g1,zd,g2,zd,E,f1,zd,f2,zd,hw,if_neg (by simpa using hc),I,zd,G,N,zd,H,J,zd,zd,g2,zd,cu so,zd,zd,K,zd,O,w64 za za]
     rfl
theorem sort_rows{X:List (List Pick)}(B:X.length<=1000)(u:∀c∈X,c.Nodup∧c.length<=19):∃r,cI (eZ X) ((0:Int),X)=some r∧cI fc ((0:Int),X)=some r∧r.length=X.length∧∀c∈r,c.length<=19:=by
 have key:∀d k:Nat,k+d=X.length->∀Y:List (List Pick),Y.length=X.length->(∀c∈Y,c.Nodup∧c.length<=19)->∃r,cI (eZ X) ((k:Int),Y)=some r∧cI fc ((k:Int),Y)=some r∧r.length=X.length∧∀c∈r,c.length<=19:=by
  intro d
  induction d with
  |zero=>
   intro k hk Y j hc
   refine⟨Y,dE ?_,dE ?_,j,λc h=>(hc c h).2⟩
   ·unfold eZ;dsimp only;rw [if_neg so]
   ·unfold fc;dsimp only;rw [if_neg so]
  |succ d x=>
   intro k hk Y j hc
   have a:k<Y.length:=by omega
   have f:=hc _ (FB a)
   obtain⟨r,y,z,q⟩:=sort_row f.1 za
   have g:atO (k:Int) (G2 (k:Int))=some ():=by unfold atO;simp
   have p:stO Y.length (k:Int) (G2 (k:Int))=some ():=by unfold stO;rw [if_pos ⟨rfl,by simpa using a⟩]
   have t:eZ X ((k:Int),Y)=some (.next (((k+1:Nat):Int),Y.set k r)):=by
    unfold eZ
    dsimp only
    rw [if_pos so,kp rfl a,zd,tN za za,zd,g,zd,y,zd,w64 za za]
    rfl
   have e2:fc ((k:Int),Y)=some (.next (((k+1:Nat):Int),Y.set k r)):=by
    unfold fc
    dsimp only
    rw [if_pos so,kp rfl a,zd,tN za za,zd,g,zd,z,zd,zd,p,zd,w64 za za]
    rfl
   rw [tv t,tv e2]
   refine x (k+1) za _ (by rw [Hx];exact j) λc l=>?_
   rcases I6 l with h|rfl
   ·exact hc c h
   ·exact⟨q.nodup_iff.2 f.1,by rw [q.length_eq];exact f.2⟩
 exact key X.length 0 za X rfl u
theorem asc_nodup{L:List Pick}(h:L.Pairwise λx y=>jo x y<0):L.Nodup:=h.imp fun{x y}h e=>by
 subst e
 have:=fD.refl x
 omega
theorem uAt_inj{L:List Pick}(h:L.Pairwise λx y=>jo x y<0){i k:Int}(hi:0<=i∧i<L.length)(hk:0<=k∧k<L.length)(e:uAt L i=uAt L k):i=k:=by
 have a:=asc_nodup h
 unfold uAt at e
 rw [Fx,Fx,ze (show i.toNat<L.length by omega),ze (show k.toNat<L.length by omega)]at e
 simp only [Option.getD_some]at e
 have:=(I2 a).1 e
 omega
theorem Clusters_eq(s:ai){v:ag}(J:IA v){l:List Pick}(K:LS l)(H:l.length<=19):∃r,mI s v l=some r∧mZ s v l=some r∧r.1.length<=19∧∀c∈r.1,c.length<=19:=by
 unfold mI mZ
 rcases usable_two s J K with⟨e,G,h1,I⟩|⟨L,h⟩
 ·rw [h1,I]
  have:(e != 0)=true:=by simp [G]
  simp only [zd,this,if_true]
  exact⟨_,rfl,rfl,zb,zb⟩
 rw [h.code,h.ref]
 simp only [zd,bne_self_eq_false,FD,if_false]
 have hL:=h.len
 obtain⟨o,N,O,ho⟩:=order_eq (F:=L.map (φ s v)) (by rw [Fh];omega)
 rw [N,O]
 simp only [zd]
 obtain⟨r,C,D,u,Y⟩:=clusters_loop h za ho L.length 0 za [] 0 (λh=>za) zb zb
 have E:((0:Nat):Int)=0:=rfl
 rw [E]at C D
 rw [C,D]
 simp only [zd]
 have p:=flat_len r Y
 rw [u,Fh,I4]at p
 have k:r.flatten.Nodup:=by
  rw [u,I7,I9]
  refine List.Pairwise.imp_of_mem (fun{x y}z B t e=>?_) (List.nodup_iff_pairwise_ne.1 I8)
  have f:=ho.range (j:=x) (by rw [Fh];exact List.mem_range.1 z)
  have g:=ho.range (j:=y) (by rw [Fh];exact List.mem_range.1 B)
  rw [Fh]at f g
  exact t (ord_inj ho (by rw [Fh];exact List.mem_range.1 z) (by rw [Fh];exact List.mem_range.1 B) (uAt_inj h.asc f g e))
 obtain⟨q,Q,T,q3,W⟩:=sort_rows (X:=r) za λc hc=>by
  have a:=Ii hc
  refine⟨k.sublist a,?_⟩
  have:=a.length_le
  rw [u,Fh,I4]at this
  omega
 rw [Q,T]
 exact⟨_,rfl,rfl,zc,W⟩
end Go.Dw.Ef
set_option maxRecDepth 100000
set_option maxHeartbeats 4000000
namespace Go.Dw.Ef
open Go.Dw Go.Proofs
abbrev cN(x y:Ev):Int:=px x.cL y.cL
theorem sg:Tot cN:=qQ.map λx:Ev=>x.cL
theorem nodup_mapL{α β:Type}{f:α->β}{l:List α}(c:l.Nodup)(h:∀x∈l,∀y∈l,f x=f y->x=y):(l.map f).Nodup:=by
 rw [I7,I9]
 exact List.Pairwise.imp_of_mem (fun{x y}g j a e=>a (h x g y j e)) (List.nodup_iff_pairwise_ne.1 c)
theorem insert_at{R:List Ev}{x:Ev}(D:R.length<=1000)(hs:R.Pairwise λa b=>cN a b<0)(K:∀e∈R,e.cL≠x.cL):∃r,m5 R x=some r∧r.Pairwise (λa b=>cN a b<0)∧(∀e,e∈r↔e∈R∨e=x)∧r.length=R.length+1:=by
 have f:Ok (cI (oa R x) (0:Int)) (λo=>∃k:Nat,o=(k:Int)∧k<=R.length∧(∀j,j<k->∀h:j<R.length,cN R[j] x<0)∧∀h:k<R.length,¬cN R[k] x<0):=by
  refine H5 (λst=>∃k:Nat,st=(k:Int)∧k<=R.length∧∀j,j<k->∀h:j<R.length,cN R[j] x<0) (λst=>((R.length:Int)-st).toNat) ?_ ⟨0,rfl,EK _,λj h=>za⟩
  rintro st ⟨k,rfl,p,q⟩
  unfold oa
  refine Hc (λI=>?_) (λH=>Hb ⟨k,rfl,p,q,λh=>za⟩)
  have hk:k<R.length:=by omega
  rw [kp rfl hk,zd,rcmpE,zd]
  refine Hc (λh=>?_) (λh=>Hb ⟨k,rfl,p,q,λ_=>h⟩)
  rw [w64 za za]
  refine H7 ⟨k+1,zb,za,λj t D=>?_⟩ za
  by_cases e:j=k
  ·subst e;exact h
  ·exact q j za D
 obtain⟨o,ho,k,rfl,p,q,k3⟩:=f
 have E:w6 R 0 (k:Int)=some (R.take k):=by
  have:=Sq.cutO_at (l:=R) (a:=0) (b:=(k:Int)) (i:=0) (j:=k) rfl rfl za p
  rw [this];simp
 have F:w6 R (k:Int) (R.length:Int)=some (R.drop k):=by
  have:=Sq.cutO_at (l:=R) (a:=(k:Int)) (b:=(R.length:Int)) (i:=k) (j:=R.length) rfl rfl p (EB _)
  rw [this,IH zb]
 refine⟨R.take k++x::R.drop k,?_,?_,λe=>?_,?_⟩
 ·unfold m5
  rw [ho,zd,E,zd,cu so,zd,cu so,zd,F,zd,cu so,zd]
  simp
 ·have c:(R.take k++R.drop k).Pairwise (λa b=>cN a b<0):=by rwa [IE]
  obtain⟨L,N,O⟩:=List.pairwise_append.1 c
  have z:∀y∈R.drop k,cN x y<0:=λy B=>by
   obtain⟨j,t,rfl⟩:=HN B
   simp only [FQ]at t
   rw [Ht]
   have hk:k<R.length:=by omega
   have Q:=k3 hk
   have J:cN R[k] x≠0:=λh=>K _ (FB hk) (cmpE_zero h)
   have a1:=sg.vM R[k] x
   have h1:cN x R[k]<0:=by omega
   by_cases e:j=0
   ·subst e;simpa using h1
   ·have T:=List.pairwise_iff_getElem.1 hs k (k+j) hk za za
    have G:=sg.tr x R[k] R[k+j] za za
    rcases Gp G with h|h
    ·exact h
    ·exfalso
     have a2:=sg.vM x R[k+j]
     have:=sg.tr R[k] R[k+j] x za za
     omega
  have g:∀y∈R.take k,cN y x<0:=λy B=>by
   obtain⟨j,t,rfl⟩:=HN B
   simp only [FR]at t
   rw [Hv]
   exact q j za za
  refine List.pairwise_append.2 ⟨L,List.pairwise_cons.2 ⟨z,N⟩,λa C b u=>?_⟩
  rcases List.mem_cons.1 u with rfl|u
  ·exact g a C
  ·exact O a C b u
 ·have:e∈R↔e∈R.take k∨e∈R.drop k:=by rw [<-GC,IE]
  rw [this,GC,GX]
  constructor
  ·rintro(h|rfl|h)
   ·exact .inl (.inl h)
   ·exact .inr rfl
   ·exact .inl (.inr h)
  ·rintro((h|h)|rfl)
   ·exact .inl h
   ·exact .inr (.inr h)
   ·exact .inr (.inl rfl)
 ·simp
  omega
theorem find_loop{s:ai}{v:ag}(ha:IA v){l L:List Pick}(h:Us s v l L)(hL:L.length<=19){G:List bz}{lf:List Int}{z:Int}(b0:(G.flatMap (·.cf)).Nodup)(hg:∀g∈G,2<=g.cf.length∧∀x∈g.cf,0<=x∧x<(L.length:Int))(hG:2*G.length<=L.length)(a7:(G.flatMap (·.cf)).length<=L.length):
  ∀d k:Nat,k+d=G.length->∀E R:List Ev,E.length=k->(E.map (·.cL)).Nodup->R.Pairwise (λa b=>cN a b<0)->(∀e,e∈R↔e∈E)->(∀e∈E,e.cL∈((G.take k).flatMap (·.cf)).map (uAt L)∧e.bT.gm.length<=20)->R.length=E.length->
   (∃C D,cI (f7 (G,lf,z) (L,L.map (φ s v),0) s v) ((k:Int),E)=some (.inl C)∧cI (fm (G,lf,z) (L,L.map (φ s v),0) s v) (R,(k:Int))=some (.inl D)∧C.length=G.length∧(C.map (·.cL)).Nodup∧D.Pairwise (λa b=>cN a b<0)∧(∀e,e∈D↔e∈C)∧(∀e∈C,e.bT.gm.length<=20))∨
   (∃e:Int,cI (f7 (G,lf,z) (L,L.map (φ s v),0) s v) ((k:Int),E)=some (.inr ([],[],e))∧cI (fm (G,lf,z) (L,L.map (φ s v),0) s v) (R,(k:Int))=some (.inr ([],[],e))):=by
 intro d
 induction d with
 |zero=>
  intro k hk E R hE hn Y hm H _
  refine .inl ⟨E,R,dE ?_,dE ?_,za,hn,Y,hm,λe he=>(H e he).2⟩
  ·unfold f7;dsimp only;rw [if_neg so]
  ·unfold fm;dsimp only;rw [if_neg so]
 |succ d ih=>
  intro k hk E R hE hn Y hm H b4
  have c:k<G.length:=by omega
  obtain⟨g1,g2⟩:=hg _ (FB c)
  have b5:G[k].cf.length<=L.length:=by
   have h1:G[k].cf.Sublist (G.flatMap (·.cf)):=by
    rw [List.flatMap_def]
    exact Ii (List.mem_map.2 ⟨_,FB c,rfl⟩)
   exact EO h1.length_le a7
  have K:∀p∈G[k].cf.map (uAt L),p∈L:=λp hp=>by
   obtain⟨x,hx,rfl⟩:=List.mem_map.1 hp
   exact uAt_mem (g2 x hx).1 (g2 x hx).2
  have X:LS (G[k].cf.map (uAt L)):=⟨by rw [Fh];omega,λp hp=>(h.all p (K p hp)).1⟩
  obtain⟨x,x1,x2,x3,x4⟩:=Solve_eq s ha X
  have F:cI (mJ G[k] (L,L.map (φ s v),0) (k:Int) E) ((0:Int),[])=some ((k:Int),E,G[k].cf.map (uAt L)):=by
   refine mS (l:=G[k].cf) (f:=uAt L) (g:=λy=>((k:Int),E,y)) (λi hi acc j=>?_) (λacc j=>?_)
   ·have N:=g2 _ (FB hi)
    unfold mJ
    dsimp only
    rw [if_pos so,kp rfl hi,zd,tu N.1 N.2,zd,cu so,zd,w64 za za]
    rfl
   ·unfold mJ
    dsimp only
    rw [if_neg zb]
  have O:cI (kM G[k] (L,L.map (φ s v),0) R (k:Int)) ((0:Int),[])=some (R,(k:Int),G[k].cf.map (uAt L)):=by
   refine mS (l:=G[k].cf) (f:=uAt L) (g:=λy=>(R,(k:Int),y)) (λi hi acc j=>?_) (λacc j=>?_)
   ·have N:=g2 _ (FB hi)
    unfold kM
    dsimp only
    rw [if_pos so,kp rfl hi,zd,tu N.1 N.2,zd,cu so,zd,w64 za za]
    rfl
   ·unfold kM
    dsimp only
    rw [if_neg zb]
  by_cases T:x.2=0
  rotate_left
  ·have r:(x.2 != 0)=true:=by simp [T]
   right
   refine⟨x.2,dE ?_,dE ?_⟩
   ·unfold f7
    dsimp only
    rw [if_pos so,kp rfl c,zd,F,zd,x1,zd,if_pos r]
   ·unfold fm
    dsimp only
    rw [if_pos so,kp rfl c,zd,O,zd,x2,zd,if_pos r]
  have r:(x.2 != 0)=false:=by simp [T]
  obtain⟨y1,y2⟩:=x4 T
  have b3:=nm_least y1
  have J:nm x.1.gm∈G[k].cf.map (uAt L):=y2 _ b3.1
  have I:((G.flatMap (·.cf)).map (uAt L)).Nodup:=nodup_mapL b0 λa W b Q e=>by
   obtain⟨ga,a8,a5⟩:=List.mem_flatMap.1 W
   obtain⟨gb,a9,a6⟩:=List.mem_flatMap.1 Q
   exact uAt_inj h.asc ((hg ga a8).2 a a5) ((hg gb a9).2 b a6) e
  have t:G=G.take k++G[k]::G.drop (k+1):=by rw [<-HI c,IE]
  have B:G.take (k+1)=G.take k++[G[k]]:=tD c
  have u:∀e∈E,e.cL≠nm x.1.gm:=λe he hh=>by
   have h1:=(H e he).1
   rw [hh]at h1
   have h2:((G.take k++G[k]::G.drop (k+1)).flatMap (·.cf)).map (uAt L)=((G.take k).flatMap (·.cf)).map (uAt L)++(G[k].cf.map (uAt L)++((G.drop (k+1)).flatMap (·.cf)).map (uAt L)):=by
    rw [I0,I1,GL,GL]
   have q:(((G.take k++G[k]::G.drop (k+1)).flatMap (·.cf)).map (uAt L)).Nodup:=by rw [<-t];exact I
   rw [h2]at q
   exact(List.nodup_append.1 q).2.2 _ h1 _ (List.mem_append.2 (.inl J)) rfl
  obtain⟨D,i1,i2,i3,i4⟩:=insert_at (R:=R) (x:=⟨nm x.1.gm,x.1⟩) za Y λe he=>u e ((hm e).1 he)
  have e1:f7 (G,lf,z) (L,L.map (φ s v),0) s v ((k:Int),E)=some (.next (((k+1:Nat):Int),E++[⟨nm x.1.gm,x.1⟩])):=by
   unfold f7
   dsimp only
   rw [if_pos so,kp rfl c,zd,F,zd,x1,zd,r,if_neg Io,name_at za,zd,cu so,zd,w64 za za]
   rfl
  have e2:fm (G,lf,z) (L,L.map (φ s v),0) s v (R,(k:Int))=some (.next (D,((k+1:Nat):Int))):=by
   unfold fm
   dsimp only
   rw [if_pos so,kp rfl c,zd,O,zd,x2,zd,r,if_neg Io,rname_at za y1,zd,i1,zd]
   dsimp only
   rw [w64 za za]
   rfl
  rw [tv e1,tv e2]
  refine ih (k+1) za _ _ (by simp [hE]) ?_ i2 (λe=>by rw [i3,hm,GC,GD]) (λe he=>?_) (by rw [i4,F0,Fy];omega)
  ·rw [GL,GF]
   refine⟨hn,zb,λa W b Q=>?_⟩
   obtain⟨e,he,rfl⟩:=List.mem_map.1 W
   simp only [Fk,Fl,GD]at Q
   rw [Q]
   exact u e he
  ·rw [B,I0,GL]
   rcases List.mem_append.1 he with he|he
   ·exact⟨List.mem_append.2 (.inl (H e he).1),(H e he).2⟩
   ·rw [List.mem_singleton.1 he]
    exact⟨List.mem_append.2 (.inr (by simpa using J)),x3⟩
theorem sort_names{E R:List Ev}(j:E.length<=12)(l:(E.map (·.cL)).Nodup)(k:R.Pairwise λa b=>cN a b<0)(hm:∀e,e∈R↔e∈E):dF E=some R:=by
 rw [sort_event j]
 congr 1
 have hp:=oW cE E
 have hle:(m9 cE E).Pairwise λa b=>cN a b<=0:=sortI_le sg E
 have c:((m9 cE E).map (·.cL)).Nodup:=(hp.map _).nodup_iff.2 l
 rw [I7,I9]at c
 have g:(m9 cE E).Pairwise λa b=>cN a b<0:=(hle.and c).imp fun{x y}h=>by
  rcases Gp h.1 with f|f
  ·exact f
  ·exact(h.2 (cmpE_zero f)).elim
 exact rY sg g k λx=>by rw [hp.mem_iff,hm]
theorem evFind_eq(s:ai){v:ag}(N:IA v){l:List Pick}(Y:LS l)(T:l.length<=19):∃r,qa s v l=some r∧qw s v l=some r∧r.1.length<=12∧(∀e∈r.1,e.bT.gm.length<=20)∧r.2.1.length<=19:=by
 unfold qa qw
 rcases usable_two s N Y with⟨e,c,h1,W⟩|⟨L,h⟩
 ·rw [h1,W]
  have:(e != 0)=true:=by simp [c]
  simp only [zd,this,if_true]
  exact⟨_,rfl,rfl,zb,zb,zb⟩
 rw [h.code,h.ref]
 simp only [zd,bne_self_eq_false,FD,if_false]
 have hL:=h.len
 obtain⟨⟨G,lf,z⟩,a1,a2,a3⟩:=Associate_eq h.set h.val (F:=L.map (φ s v)) (by rw [Fh];omega) h.ph
 rw [a1,a2]
 simp only [zd]
 by_cases c:z=0
 rotate_left
 ·have:(z != 0)=true:=by simp [c]
  simp only [this,if_true]
  exact⟨_,rfl,rfl,zb,zb,zb⟩
 have hz:(z != 0)=false:=by simp [c]
 simp only [hz,FD,if_false]
 obtain⟨b1,b2,J,K,Q,q⟩:=a3 c
 simp only [Fh]at b1 b2 J K Q q
 rcases find_loop N h za (lf:=lf) (z:=z) b1 b2 J K G.length 0 za [] [] rfl zb .nil zb zb rfl with⟨E,R,k,p,r3,H,O,I,r7⟩|⟨e,k,p⟩
 ·have B:((0:Nat):Int)=0:=rfl
  rw [B]at k p
  rw [k,p]
  simp only [zd]
  rw [sort_names za H O I,zd]
  have u:cI (mK (G,lf,z) (L,L.map (φ s v),0)) ((0:Int),[])=some (lf.map (uAt L)):=by
   refine mS (l:=lf) (f:=uAt L) (g:=id) (λi hi acc a=>?_) (λacc a=>?_)
   ·have j:=q _ (FB hi)
    unfold mK
    dsimp only
    rw [if_pos so,kp rfl hi,zd,tu j.1 j.2,zd,cu so,zd,w64 za za]
    rfl
   ·unfold mK
    dsimp only
    rw [if_neg zb];rfl
  have t:cI (kN (G,lf,z) (L,L.map (φ s v),0)) ((0:Int),[])=some (lf.map (uAt L)):=by
   refine mS (l:=lf) (f:=uAt L) (g:=id) (λi hi acc a=>?_) (λacc a=>?_)
   ·have j:=q _ (FB hi)
    unfold kN
    dsimp only
    rw [if_pos so,kp rfl hi,zd,tu j.1 j.2,zd,cu so,zd,w64 za za]
    rfl
   ·unfold kN
    dsimp only
    rw [if_neg zb];rfl
  rw [u,t]
  have X:R.length=E.length:=by
   have D:R.Nodup:=O.imp fun{x y}h e=>by subst e;have:=sg.refl x;omega
   have C:E.Nodup:=by
    rw [I7,I9]at H
    exact H.imp fun{x y}h e=>h (by rw [e])
   exact((Ia D C).2 I).length_eq
  exact⟨_,rfl,rfl,zc,λe he=>r7 e ((I e).1 he),by simp only [Fh];omega⟩
 ·have B:((0:Nat):Int)=0:=rfl
  rw [B]at k p
  rw [k,p]
  exact⟨_,rfl,rfl,zb,zb,zb⟩
theorem oU{a:List Pick}(j:a.length<=1000):gw a a=some true:=by
 unfold gw
 rw [if_neg zb]
 have:cI (jn a a) (0:Int)=some (.inl ()):=by
  refine H0 (Hd a.length za (λ_=>True) trivial (λi c h1 _=>?_))
  unfold jn
  refine Hc (λf=>?_) (λ_=>Hb rfl)
  obtain⟨x,g, -⟩:=H2 (l:=a) c za
  rw [g,zd,zd,if_neg zb,w64 za za]
  exact H7 ⟨⟨za,za⟩,trivial⟩ za
 rw [this];rfl
theorem same_self(x:bQ)(a:x.gm.length<=1000):qv x x=some true:=by
 unfold qv
 rw [oU a]
 simp
theorem sameEv_self{l:List Ev}(g:l.length<=1000)(h:∀e∈l,e.bT.gm.length<=20):qy l l=some true:=by
 unfold qy
 rw [if_neg zb]
 have:cI (m0 l l) (0:Int)=some (.inl ()):=by
  refine H0 (Hd l.length za (λ_=>True) trivial (λi a h1 _=>?_))
  unfold m0
  refine Hc (λc=>?_) (λ_=>Hb rfl)
  obtain⟨x,f,hm⟩:=H2 (l:=l) a za
  have:=h x hm.1
  rw [f,zd,zd,if_neg zb,zd,zd,same_self _ za,zd,if_neg zb,w64 za za]
  exact H7 ⟨⟨za,za⟩,trivial⟩ za
 rw [this];rfl
end Go.Dw.Ef
set_option maxRecDepth 100000
set_option maxHeartbeats 4000000
namespace Go.Dw.Ef
open Go.Dw Go.Proofs
theorem bentLoop{v:ag}(h:IA v):cI (kd v) ((0:Int),[])=some v.bp:=by
 have hlen:=h.len.len
 refine H0 (H5 (λst=>∃i:Nat,st=((i:Int),v.bp.take i)∧i<=v.bp.length) (λst=>((v.bp.length:Int)-st.1).toNat) ?_ ⟨0,rfl,EK _⟩)
 rintro st ⟨i,rfl,i1⟩
 unfold kd
 dsimp only
 refine Hc (λc=>?_) (λa=>Hb (by rw [IH za]))
 have hi:i<v.bp.length:=by omega
 have he:=(h.len.all _ (FB hi)).1
 rw [kp rfl hi,zd,cu so,zd,cu so,zd,w64 za za]
 exact H7 ⟨i+1,by rw [tD hi,E2];rfl,za⟩ zc
theorem IA.sh{v:ag}(h:IA v){c:av}(hc:c∈v.bp):ChLen c∧Sq.pY c.az:=⟨h.len.all c hc,h.src c hc⟩
theorem ia_of{l:List av}(a:l.length<=1000)(h:∀c∈l,ChLen c∧Sq.pY c.az):IA ⟨l⟩:=⟨⟨a,λc hc=>(h c hc).1⟩,λc hc=>(h c hc).2⟩
theorem ia_set{v:ag}(h:IA v){n:Nat}{c:av}(hc:ChLen c∧Sq.pY c.az):IA ⟨v.bp.set n c⟩:=by
 refine ia_of (by rw [Hx];exact h.len.len) λx a=>?_
 rcases I6 a with a|rfl
 ·exact h.sh a
 ·exact hc
theorem bentE_len{j:Int}{e:bi}(h:iZ e.b7):iZ (bentE j e).b7:=by
 unfold bentE
 split<;>exact h
theorem bentInv_ok{v:ag}(E:InvV v)(d:Src)(J:cO d):Ok (dT v d) (λr=>IA r.1∧cO r.2):=by
 have h:=E.ia
 have hlen:=E.len
 unfold dT Src_BentP
 rw [bentLoop h,zd]
 by_cases u:v.bp.length=0
 ·rw [if_pos (by simp [u])]
  exact H9 ⟨h,J⟩
 have Q:((v.bp.length:Int)==(0:Int))=false:=by simp;intro e;rw [e]at u;simp at u
 rw [Q]
 simp only [FD,if_false]
 obtain⟨x,L,N,Y,W⟩:=eY (v.bp.length:Int) d J za za
 obtain⟨y,O,y2,y3,q⟩:=eY (5:Int) x.2 W za za
 have p:x.1.toNat<v.bp.length:=by omega
 have hc:=h.sh (FB p)
 have K:v.bp[x.1.toNat]? =some v.bp[x.1.toNat]:=ze p
 have I:py v.bp x.1=some v.bp[x.1.toNat]:=kp za p
 rw [L,zd,tN za za,zd,O,zd]
 have D:=(E.all _ (FB p)).2.ne
 obtain⟨e,r,he⟩:∃e r,v.bp[x.1.toNat].bF=e::r:=List.exists_cons_of_ne_nil D
 have k:∀f,yh v.bp x.1 f=some (v.bp.set x.1.toNat (f v.bp[x.1.toNat])):=λf=>by
  unfold yh
  rw [if_pos N,K]
 have hw:∀j:Int,y.1=j->(j=1∨j=2)->Ok (bentW v d) (λr=>IA r.1∧cO r.2):=λj X T=>by
  unfold bentW
  rw [if_pos ⟨h.len.len,λc hc=>(h.len.all c hc).1⟩,L,zd,O,zd,K]
  dsimp only
  rw [he]
  dsimp only
  rw [if_pos ⟨N,za⟩]
  refine H9 ⟨ia_set h ⟨⟨?_,λz F=>?_⟩,hc.2⟩,q⟩
  ·have:=hc.1.1;rw [he]at this;simpa using this
  ·have a:=hc.1.2
   rw [he]at a
   rcases List.mem_cons.1 F with rfl|F
   ·exact bentE_len (a e zb)
   ·exact a z (by simp [F])
 by_cases G:y.1=0
 ·rw [if_pos (by simp [G]),k,zd]
  exact H9 ⟨ia_set h ⟨hc.1,hc.2.1,zb,hc.2.2.2⟩,q⟩
 rw [if_neg (by simp [G])]
 by_cases t:y.1=1
 ·rw [if_pos (by simp [t]),I,zd,zd,he]
  have:py (e::r) (0:Int)=some e:=kp (i:=0) rfl zb
  rw [this,zd,zd]
  exact hw 1 t (.inl rfl)
 rw [if_neg (by simp [t])]
 by_cases e2:y.1=2
 ·rw [if_pos (by simp [e2]),I,zd,he]
  have:py (e::r) (0:Int)=some e:=kp (i:=0) rfl zb
  rw [this,zd]
  exact hw 2 e2 (.inr rfl)
 rw [if_neg (by simp [e2])]
 by_cases H:y.1=3
 ·have l:0<v.bp.length:=by omega
  have C:=h.sh (FB l)
  have B:py v.bp (0:Int)=some v.bp[0]:=kp (i:=0) rfl l
  rw [if_pos (by simp [H]),tN za za,zd,B,zd,cu so,zd]
  refine H9 ⟨ia_of so λc g=>?_,q⟩
  rcases List.mem_append.1 g with g|g
  ·exact h.sh g
  ·rw [List.mem_singleton.1 g];exact C
 rw [if_neg (by simp [H]),k,zd]
 exact H9 ⟨ia_set h ⟨⟨zb,zb⟩,hc.2⟩,q⟩
theorem l76_ok(x:List (List Pick)×Int)(h1:x.1.length<=19)(k:∀c∈x.1,c.length<=19)(a f g:Int):cI (kg x x a f g) (0:Int)=some (.inl (a,f,g)):=by
 refine H0 (Hd x.1.length za (λ_=>True) trivial (λi j h1 _=>?_))
 unfold kg
 refine Hc (λp=>?_) (λ_=>Hb rfl)
 obtain⟨y,q,hm⟩:=H2 (l:=x.1) j za
 have:=k y hm.1
 rw [q,zd,zd,oU za,zd,if_neg zb,w64 za za]
 exact H7 ⟨⟨za,za⟩,trivial⟩ za
def LT(l:List Pick):Prop:=LS l∧l.length<=19
theorem l80_ok(f:List Pick×Src)(a2:List Pick)(s:ai){v:ag}(p:IA v)(j:LT f.1)(y:LT a2)(a b:Int):
  cI (kh f a2 s v) (a,b,(0:Int))=some (.inl (a,b)):=by
 refine H0 (H5 (λst=>∃i:Nat,st=(a,b,(i:Int))∧i<=2) (λst=>(2-st.2.2).toNat) ?_ ⟨0,rfl,za⟩)
 rintro st ⟨i,rfl,i1⟩
 unfold kh
 dsimp only
 refine Hc (λz=>?_) (λ_=>Hb rfl)
 refine HZ (H2 za so) (λl k=>?_)
 have g:LT l:=by
  rcases List.mem_cons.1 k.1 with rfl|h
  ·exact j
  ·rw [List.mem_singleton.1 h];exact y
 obtain⟨c,q,r,t,u⟩:=Clusters_eq s p g.1 g.2
 obtain⟨x,B,C,E,D,F⟩:=evFind_eq s p g.1 g.2
 rw [q,zd,r,zd,B,zd,C,zd,if_neg zb,if_neg zb,if_neg zb,sameEv_self za D,zd,if_neg zb,oU za,zd,if_neg zb,l76_ok c t u,zd]
 dsimp only
 rw [w64 za za]
 exact H7 ⟨i+1,rfl,za⟩ zc
theorem l84_ok(f g:ag×Src)(a1:ag)(c:List Pick×Src)(a2:List Pick)(s:ai)(j:IA f.1)(h1:IA a1)(l:IA g.1)(k:LT c.1)(q:LT a2)(a:Int):
  cI (kj f a1 g c a2 s) (a,(0:Int))=some (.inl a):=by
 refine H0 (H5 (λst=>∃i:Nat,st=(a,(i:Int))∧i<=3) (λst=>(3-st.2).toNat) ?_ ⟨0,rfl,za⟩)
 rintro st ⟨i,rfl,i1⟩
 unfold kj
 dsimp only
 refine Hc (λt=>?_) (λ_=>Hb rfl)
 refine HZ (H2 za so) (λv p=>?_)
 have r:IA v:=by
  rcases List.mem_cons.1 p.1 with rfl|h
  ·exact j
  rcases List.mem_cons.1 h with rfl|h
  ·exact h1
  ·rw [List.mem_singleton.1 h];exact l
 rw [l80_ok c a2 s r k q,zd]
 dsimp only
 rw [w64 za za]
 exact H7 ⟨i+1,rfl,za⟩ zc
theorem l88_ok(O:ai×Src)(a0:ai)(p q r t u x y:Int)(z B:List Int)(C D E F G H:Int)(I J:List Int)(K L N:Int)(a:ag×Src)(a1:ag)(c:List Pick×Src)(a2:List Pick)(f:InvV a.1)(h1:IA a1)(l:LT c.1)(Q:LT a2)(d:Src)(T:cO d):
  cI (kl O a0 p q r t u x y z B C D E F G H I J K L N a a1 c a2) ((0:Int),d.fL,d.fAt)=some (.inl ()):=by
 refine H0 (H5 (λst=>∃(i:Nat)(k:Src),st=((i:Int),k.fL,k.fAt)∧i<=3∧cO k) (λst=>(3-st.1).toNat) ?_ ⟨0,d,rfl,za,T⟩)
 rintro st ⟨i,k,rfl,i1,i2⟩
 unfold kl
 dsimp only
 refine Hc (λW=>?_) (λ_=>Hb rfl)
 refine HZ (H2 za so) (λs _=>?_)
 refine HZ (bentInv_ok f _ i2) (λj g=>?_)
 rw [l84_ok a j a1 c a2 s f.ia h1 g.1 l Q,zd]
 dsimp only
 rw [w64 za za]
 exact H7 ⟨i+1,j.2,rfl,za,g.2⟩ zc
theorem EventFinds_law(a0:ai)(a1:ag)(a2:List Pick)(l:List Int)(h1:ArgI a1)(z:∀p∈a2,su p):lj a0 a1 a2 l=some true:=by
 refine H0 ?_
 unfold lj
 have hc:ry=some true:=rfl
 rw [hc]
 refine HZ (smallS a0) (λb _=>Ok.yw (λ_=>H9 rfl) (λ_=>?_))
 refine HZ (smallI a1 h1) (λb C=>Ok.yw (λ_=>H9 rfl) (λx=>?_))
 refine Hc (λ_=>H9 rfl) (λhlen=>?_)
 refine HZ (new_ok l) (λD B=>?_)
 refine HZ (settings_ok (k:=3) za _ B) (λj a=>?_)
 refine HZ ((sites_ok _ a.2).both (sitesV (n:=6) _ a.2)) (λq f=>?_)
 refine HZ (picks_ok j.1 a.1.1 q.1 f.1.1 9 za _ f.1.2) (λr c=>?_)
 have y:=a.1.1.2
 refine HZ (bentSettings_ok j.1 (by have:=y.len;omega) (by have:=y.len;have:=y.same;omega) (by have:=a.1.2.1;omega) (by have:=a.1.2.2;omega) _ c.2) (λt u=>?_)
 refine HZ (smallS t.1) (λb _=>?_)
 have g:LT r.1:=⟨⟨by have:=c.1.1;omega,λp hp=>sid_len (c.1.2 p hp).1⟩,by have:=c.1.1;omega⟩
 refine Ok.yw (λ_=>?_) (λ_=>?_)<;>
 ·unfold gE
  rw [l88_ok _ _ _ _ _ _ _ _ _ _ _ _ _ _ _ _ _ _ _ _ _ _ q a1 r a2 f.2.1.1 (C x) g ⟨⟨za,z⟩,za⟩ t.2 u]
  exact H9 rfl
end Go.Dw.Ef
