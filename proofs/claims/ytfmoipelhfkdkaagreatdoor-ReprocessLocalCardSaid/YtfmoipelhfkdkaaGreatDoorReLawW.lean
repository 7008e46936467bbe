
import Derived.Test.YtfmoipelhfkdkaaGreatDoorReFn
import Derived.Test.YtfmoipelhfkdkaaGreatDoorDwPlain
import Derived.Test.YtfmoipelhfkdkaaGreatDoorDwOk
import Derived.Test.YtfmoipelhfkdkaaGreatDoorReCo
import Derived.KernelRfl
open Int renaming add_mul->F7, ediv_le_of_le_mul->F8, fdiv_eq_ediv_of_nonneg->F9, le_refl->Fa, le_total->Fb, le_trans->Fc, mul_add->Fe, mul_assoc->Ff, mul_comm->Fg, mul_le_mul->Fh, mul_left_comm->Fi, mul_nonneg->Fj, mul_nonneg_of_nonpos_of_nonpos->Fk, mul_sub->Fl, natCast_add->Fm, natCast_mul->Fo, neg_mul_neg->Fp, neg_tmod->Fq, sub_mul->Fs, tdiv_eq_ediv_of_nonneg->Ft, tdiv_le_self->Fu, tdiv_nonneg->Fv, tmod_eq_emod_of_nonneg->Fw, tmod_lt_of_pos->Fx, toNat_natCast->E6
open List renaming append_nil->EP, drop_eq_getElem_cons->Fy, find?->Fz, find?_some->GA, getElem?_map->EC, getElem_append_left->GB, getElem_append_right->GC, getElem_map->GD, getElem_mem->Dn, length->GF, length_append->ES, length_cons->DW, length_drop->EE, length_nil->DX, length_take->EF, mem_append->Eu, mem_cons->FN, mem_cons_of_mem->GG, mem_cons_self->GH, mem_of_find?_eq_some->GJ, mem_singleton->Ew, pairwise_map->GK, range->DG, set_getElem_self->GL, take_length->GM
open Bool renaming and_eq_true->D6, false_eq_true->Dq, not_eq_true'->GN, or_eq_true->GO
open Go.Dw.Ok renaming app->GP, bind->GQ, eq->GR, get->GS, loop->GU, mod->GV, n5->GW, nx->GX, quo->GY, rem->GZ, ret->G0, sP->G1, set->G2, st->G3, tF->G4, tP->G5, upto->G6, wO->G7, zp->G8
open Go.IntKind renaming wrap->FM
open Classical renaming byContradiction->G9
open Nat renaming le_refl->DA, zero_le->DJ
open Option renaming bind_fun_some->Ga

set_option maxRecDepth 100000
set_option maxHeartbeats 4000000
namespace Go.Dw.Re
namespace Sq
open Go.Dw
abbrev Src:=bi
theorem byteO_at{s:List UInt8}{n:Int}{i:Nat}(f:n=i)(hi:i<s.length):wJ s n=some ((s[i].toNat:Nat):Int):=by
 subst f
 unfold wJ
 rw [if_pos ⟨za,za⟩,E6,List.getD_eq_getElem?_getD,zf hi];rfl
theorem dW{α:Type}{l m:List α}{b:Nat}(h:(l.length+m.length)*b<=140737488355328):rD l m b=some (l++m):=by
 unfold rD
 rw [if_pos h]
theorem loop_list{α ω:Type}{body:Int->Option (dE Int ω)}(l:List α){p:α->Bool}{u r:ω}(h1:∀(i:Nat)(hi:i<l.length),body i=if p l[i]=true then some (.next ((i+1:Nat):Int))else some (.stop r))
  (g:body (l.length:Nat)=some (.stop u)):cI body (0:Int)=some (if l.all p=true then u else r):=by
 have:∀k i,i+k=l.length->cI body (i:Int)=some (if(l.drop i).all p=true then u else r):=by
  intro k
  induction k with
  |zero=>
   intro i hi
   obtain rfl:i=l.length:=by omega
   rw [pJ g];simp
  |succ k j=>
   intro i hi
   have f:i<l.length:=by omega
   rw [Fy f,List.all_cons]
   by_cases hp:p l[i]=true
   ·rw [rJ (by rw [h1 i f,if_pos hp]),j (i+1) za,hp,Bool.true_and]
   ·rw [pJ (by rw [h1 i f,if_neg hp])];simp [hp]
 have:=this l.length 0 za
 simpa using this
def qO(c:UInt8):Bool:=(decide (65<=c.toNat)&&decide (c.toNat<=90))||(decide (48<=c.toNat)&&decide (c.toNat<=57))
theorem dec1(n:Nat):decide ((n:Int)>=65)=decide (65<=n):=decide_eq_decide.2 za
theorem dec2(n:Nat):decide ((n:Int)<=90)=decide (n<=90):=decide_eq_decide.2 za
theorem dec3(n:Nat):decide ((n:Int)>=48)=decide (48<=n):=decide_eq_decide.2 za
theorem dec4(n:Nat):decide ((n:Int)<=57)=decide (n<=57):=decide_eq_decide.2 za
theorem plain_eq(c:UInt8):nK ((c.toNat:Nat):Int)=some (qO c):=by
 unfold nK qO
 rw [dec1,dec2,dec3,dec4]
 cases decide (65<=c.toNat)<;>cases decide (c.toNat<=90)<;>cases decide (48<=c.toNat)<;>simp
def mj(s:List UInt8)(lo hi:Int):Bool:=s.all qO&&(decide ((s.length:Int)>=lo)&&decide ((s.length:Int)<=hi))
theorem code_l7{s:List UInt8}(hs:s.length<=9223372036854775807):cI (kL s) (0:Int)=some (if s.all qO=true then .inl ()else .inr false):=by
 refine loop_list s (fun i hi=>?_) ?_
 ·unfold kL
  rw [if_pos so,byteO_at rfl hi,w64 za za]
  simp only [ze,plain_eq]
  cases qO s[i]<;>simp
 ·unfold kL
  rw [if_neg zc]
theorem code_eq{s:List UInt8}(hs:s.length<=9223372036854775807)(lo hi:Int):kK s lo hi=some (mj s lo hi):=by
 unfold kK mj
 rw [code_l7 hs]
 cases s.all qO with
 |true=>cases decide ((s.length:Int)>=lo)<;>simp
 |false=>rfl
def SidLen(x:Src):Prop:=x.bI.length<=9223372036854775807∧x.bw.length<=9223372036854775807∧x.ba.length<=9223372036854775807∧x.bM.length<=9223372036854775807
def pp(x:Src):Bool:=mj x.bI 1 2&&(mj x.bw 1 5&&(mj x.ba 0 2&&(decide (x.ba.length≠1)&&mj x.bM 3 3)))
theorem Valid_eq{x:Src}(k:SidLen x):mJ x=some (pp x):=by
 obtain⟨h1,f,g,j⟩:=k
 unfold mJ pp
 simp only [code_eq h1,code_eq f,code_eq g,code_eq j,ze]
 have e:((x.ba.length:Int) != 1)=decide (x.ba.length≠1):=by
  by_cases h:x.ba.length=1
  ·simp [h]
  ·simp [h];omega
 rw [e]
 cases mj x.bI 1 2<;>cases mj x.bw 1 5<;>cases mj x.ba 0 2<;>cases decide (x.ba.length≠1)<;>simp
theorem qh{s:List UInt8}{lo:Int}{hi:Nat}(h:mj s lo hi=true):s.length<=hi:=by
 unfold mj at h
 simp only [D6,decide_eq_true_eq]at h
 omega
theorem valid_len{x:Src}(h:pp x=true):x.bI.length<=2∧x.bw.length<=5∧x.ba.length<=2∧x.bM.length<=3:=by
 unfold pp at h
 simp only [D6]at h
 exact⟨qh (hi:=2) h.1,qh (hi:=5) h.2.1,qh (hi:=2) h.2.2.1,qh (hi:=3) h.2.2.2.2⟩
end Sq
end Go.Dw.Re
set_option maxRecDepth 100000
set_option maxHeartbeats 4000000
namespace Go.Dw.Re
open Go.Dw
abbrev Src:=ai
abbrev Pick:=aa
abbrev Sid:=bi
theorem mod_ok(a b:Int)(g:1<=b)(h1:b<=1000000000):Ok (pH a b) (fun r=>0<=r∧r<b):=by
 unfold pH
 have hl:a.tmod b<b:=Fx _ za
 have j: -b<a.tmod b:=by
  rcases Fb 0 a with h|h
  ·have:=Int.tmod_nonneg b h;omega
  ·have e:a.tmod b= -((-a).tmod b):=by rw [Fq];omega
   have:=Fx (-a) (show 0<b by omega)
   omega
 refine GW (fun _=>za) (fun _=>?_)
 refine GQ (GZ za) (fun x f=>?_)
 subst f
 refine GW (fun _=>?_) (fun _=>?_)
 ·rw [w64 za za]
  exact G0 za
 ·exact G0 za
def cr(d:Src):Prop:=0<=d.fAt∧d.fAt<=d.fL.length∧d.fL.length<=2000
theorem raw_ok(d:Src)(j:cr d):Ok (Src_Raw d) (fun r=>cr r.2):=by
 obtain⟨g,h1,f⟩:=j
 unfold Src_Raw
 refine GW (fun _=>G0 ⟨g,h1,f⟩) (fun h=>?_)
 rw [w64 (n:=d.fAt+1) za za,w64 za za]
 refine GQ (GS za za) (fun x _=>?_)
 refine G0 ⟨?_,?_,f⟩<;>simp only<;>omega
theorem dS(k:Int)(d:Src)(j:cr d)(g:1<=k)(h1:k<=1000000000):Ok (dm k d) (fun r=>0<=r.1∧r.1<k∧cr r.2):=by
 unfold dm
 refine GQ (raw_ok d j) (fun x q=>?_)
 refine GQ (mod_ok _ _ g h1) (fun y f=>?_)
 exact G0 ⟨f.1,f.2,q⟩
theorem eZ(l:List Int)(d:Src)(j:cr d)(g:l≠ [])(h1:l.length<=1000000):Ok (ec l d) (fun r=>r.1∈l∧cr r.2):=by
 unfold ec
 have:=List.length_pos_iff.2 g
 refine GQ (dS _ d j za za) (fun x f=>?_)
 refine GQ (GS f.1 f.2.1) (fun y k=>?_)
 exact G0 ⟨k.1,f.2.2⟩
def stas:List (List UInt8):=[[83,49],[83,50],[83,51],[83,52],[83,53],[83,54]]
def qU(a:Sid):Prop:=Sq.pp a=true
theorem stas_ok:∀x∈stas,Sq.pp ⟨[65,66],x,[48,48],[66,72,90]⟩=true:=by decide+kernel
theorem source_ok(n:Int):Ok (ge n) qU:=by
 unfold ge
 refine GQ (mod_ok n 6 za za) (fun x f=>?_)
 refine GQ (GS f.1 f.2) (fun y g=>?_)
 exact G0 (stas_ok y g.1)
theorem new_ok(l:List Int):Ok (kq l) cr:=by
 unfold kq
 refine GQ (Ok.cut za (by split<;>omega) (by split<;>omega)) (fun x f=>?_)
 subst f
 refine G0 ⟨zc,zc,?_⟩
 simp only [EF,EE]
 split<;>omega
def fP(m:Int)(p:ag):Prop:=(-m<=p.fX∧p.fX<=m)∧(-m<=p.fY∧p.fY<=m)∧(-m<=p.fZ∧p.fZ<=m)
theorem mC(m:Int)(k:0<=m)(h1:m<=1000)(d:Src)(f:cr d):Ok (mQ m d) (fun r=>fP m r.1∧cr r.2):=by
 unfold mQ
 rw [w64 (n:=2*m) za za,w64 (n:=2*m+1) za za,w64 (n:=m+1) za za]
 refine GQ (dS _ _ f za za) (fun g g1=>?_)
 refine GQ (dS _ _ g1.2.2 za za) (fun j g2=>?_)
 refine GQ (dS _ _ g2.2.2 za za) (fun q g3=>?_)
 rw [w64 (n:=g.1-m) za za,w64 (n:=j.1-m) za za]
 exact G0 ⟨⟨zd,zd,zd⟩,g3.2.2⟩
def gO(b:al):Prop:=fP 40 b.bu∧(0<=b.bd.fX-b.bu.fX∧b.bd.fX-b.bu.fX<=4)∧(0<=b.bd.fY-b.bu.fY∧b.bd.fY-b.bu.fY<=4)∧(0<=b.bd.fZ-b.bu.fZ∧b.bd.fZ-b.bu.fZ<=4)
theorem box_ok(m side:Int)(g:0<=m)(h1:m<=40)(B:0<=side)(C:side<=4)(d:Src)(j:cr d):Ok (oP m side d) (fun r=>gO r.1∧cr r.2):=by
 unfold oP
 rw [w64 (n:=side+1) za za]
 refine GQ (mC m g za d j) (fun f g0=>?_)
 refine GQ (dS _ _ g0.2 za za) (fun k g1=>?_)
 refine GQ (dS _ _ g1.2.2 za za) (fun q g2=>?_)
 refine GQ (dS _ _ g2.2.2 za za) (fun u g3=>?_)
 obtain⟨⟨D,E,F⟩, -⟩:=g0
 rw [w64 (n:=f.1.fX+k.1) za za,w64 (n:=f.1.fY+q.1) za za,w64 (n:=f.1.fZ+u.1) za za]
 refine G0 ⟨⟨⟨zd,zd,zd⟩,zd,zd,zd⟩,g3.2.2⟩
structure TabOk(t:bc):Prop where
 step:t.bR=20∨t.bR=25∨t.bR=40∨t.bR=100
 len:1<=t.bu.length∧t.bu.length<=30
 same:t.bd.length=t.bu.length
 low:∀x∈t.bu,0<=x∧x<=3000
 high:∀x∈t.bd,0<=x∧x<=5000
theorem table_ok(d:Src)(E:cr d):Ok (kR d) (fun r=>TabOk r.1∧cr r.2):=by
 unfold kR
 refine GQ (eZ _ d E zc zc) (fun j h1=>?_)
 obtain⟨f,h1⟩:=h1
 have f:j.1=20∨j.1=25∨j.1=40∨j.1=100:=by simpa using f
 refine GQ (dS _ _ h1 za za) (fun Y D=>?_)
 have u:∃q,FM .i64 ((400:Int).tdiv j.1)=q∧4<=q∧q<=20:=by
  rcases f with e|e|e|e<;>rw [e]<;>exact⟨_,rfl,by decide,by decide⟩
 have hp:∃q,FM .i64 (j.1.tdiv 4)=q∧0<=q∧q<=25:=by
  rcases f with e|e|e|e<;>rw [e]<;>exact⟨_,rfl,by decide,by decide⟩
 obtain⟨q,u,N,O⟩:=u
 obtain⟨p,hp,K,L⟩:=hp
 refine GQ (P:=fun o=>cr ⟨o.1,o.2.1⟩∧(1<=o.2.2.1.length∧o.2.2.1.length<=30)∧o.2.2.2.length=o.2.2.1.length∧(∀x∈o.2.2.1,0<=x∧x<=3000)∧(∀x∈o.2.2.2,0<=x∧x<=5000))
  (GU (fun s => (0 ≤ s.2.2.1 ∧ s.2.2.1 ≤ 23) ∧ s.2.2.2.2.2.1.length = s.2.2.1.toNat ∧ s.2.2.2.2.2.2.length = s.2.2.1.toNat ∧ (0 ≤ s.1 ∧ s.1 ≤ 60 * s.2.2.1) ∧ (0 ≤ s.2.1 ∧ s.2.1 ≤ 100 * s.2.2.1 + 2) ∧ cr ⟨s.2.2.2.1, s.2.2.2.2.1⟩ ∧ (∀ x ∈ s.2.2.2.2.2.1, 0 ≤ x ∧ x ≤ 3000) ∧ (∀ x ∈ s.2.2.2.2.2.2, 0 ≤ x ∧ x ≤ 5000))
   (fun s=>(23-s.2.2.1).toNat) ?_ ⟨⟨zc,zc⟩,rfl,rfl,⟨zc,zc⟩,⟨zd,zd⟩,D.2.2,zc,zc⟩) ?_
 ·rintro⟨G,Q,H,T,U,W,X⟩ ⟨i0,i1,i2,i3,i4,i5,i6,i7⟩
  simp only at i0 i1 i2 i3 i4 i5 i6 i7
  unfold lu
  refine GQ (GY za) (fun I g1=>?_)
  rw [u]at g1;subst g1
  refine GQ (dS _ _ i5 za za) (fun J g2=>?_)
  rw [w64 (n:=I+J.1) za za]
  refine GW (fun hle=>?_) (fun F=>?_)
  ·refine GQ (GP (by simp only [DW,DX];omega)) (fun y3 g3=>?_)
   refine GQ (GP (by simp only [DW,DX];omega)) (fun y4 g4=>?_)
   refine GQ (eZ _ _ g2.2.2 zc zc) (fun k g5=>?_)
   refine GQ (GY za) (fun B g6=>?_)
   rw [hp]at g6;subst g6
   refine GQ (eZ _ _ g5.2 zc zc) (fun C g7=>?_)
   have a1:0<=k.1∧k.1<=35:=by have:=g5.1;simp at this;omega
   have a2:0<=C.1∧C.1<=30:=by have:=g7.1;simp at this;omega
   rw [w64 (n:=k.1+B) za za,w64 (n:=G+(k.1+B)) za za,w64 (n:=H+1) za za,w64 (by split<;>omega) (by split<;>omega)]
   subst g3 g4
   refine GX ⟨⟨zd,zd⟩,?_,?_,⟨zd,zd⟩,⟨by simp only;split<;>omega,by simp only;split<;>omega⟩,g7.2,?_,?_⟩ zd
   ·simp only [ES,DW,DX];omega
   ·simp only [ES,DW,DX];omega
   ·intro x g
    simp only [Eu,Ew]at g
    rcases g with g|rfl
    ·exact i6 x g
    ·omega
   ·intro x g
    simp only [Eu,Ew]at g
    rcases g with g|rfl
    ·exact i7 x g
    ·omega
  ·exact G3 ⟨g2.2.2,⟨zd,zd⟩,zd,i6,i7⟩
 ·intro o ho
  exact G0 ⟨⟨f,ho.2.1,ho.2.2.1,ho.2.2.2.1,ho.2.2.2.2⟩,ho.1⟩
theorem association_ok{k:Int}(hk:0<=k∧k<=4)(d:Src)(C:cr d):Ok (eT k d) (fun r=>(gO r.1.bn∧TabOk r.1.bJ)∧cr r.2):=by
 unfold eT
 refine GQ (box_ok 20 k za za za za d C) (fun D h1=>?_)
 refine GQ (table_ok _ h1.2) (fun E f=>?_)
 refine GQ (eZ _ _ f.2 zc zc) (fun F g=>?_)
 refine GQ (eZ _ _ g.2 zc zc) (fun G j=>?_)
 refine GQ (eZ _ _ j.2 zc zc) (fun H q=>?_)
 refine GQ (eZ _ _ q.2 zc zc) (fun I u=>?_)
 refine GQ (dS _ _ u.2 za za) (fun J B=>?_)
 exact G0 ⟨⟨h1.1,f.1⟩,B.2.2⟩
theorem scale_ok(d:Src)(k:cr d):Ok (lV d) (fun r=>cr r.2):=by
 unfold lV
 refine GQ (table_ok _ k) (fun f h1=>?_)
 refine GQ (dS _ _ h1.2 za za) (fun D g=>?_)
 refine GQ (dS _ _ g.2.2 za za) (fun E j=>?_)
 have hl:=h1.1.len;have hs:=h1.1.same
 refine GQ (P:=fun _=>True) (GU (fun s=>0<=s.1∧s.2.1.length=f.1.bu.length∧s.2.2.length=f.1.bu.length) (fun s=>((f.1.bu.length:Int)-s.1).toNat) ?_ ⟨Fa _,rfl,hs⟩) (fun o _=>G0 j.2.2)
 rintro⟨u,B,C⟩ ⟨i0,i1,i2⟩
 simp only at i0 i1 i2
 unfold lq
 refine GW (fun q=>?_) (fun _=>G3 trivial)
 refine GQ (G5 za za) (fun _ _=>?_)
 refine GQ (GS za za) (fun F g1=>?_)
 refine GQ (GY za) (fun G g2=>?_)
 refine GQ (G5 za za) (fun _ _=>?_)
 refine GQ (GS za za) (fun H g3=>?_)
 refine GQ (GY za) (fun I g4=>?_)
 refine GQ (G5 za za) (fun _ _=>?_)
 refine GQ (G2 za za) (fun J g5=>?_)
 refine GQ (G5 za za) (fun _ _=>?_)
 refine GQ (G2 za za) (fun K g6=>?_)
 subst g5 g6
 rw [w64 za za]
 exact GX ⟨zd,by simpa using i1,by simpa using i2⟩ zd
theorem settings_ok{k:Int}(hk:0<=k∧k<=4)(d:Src)(j:cr d):Ok (dL k d) (fun r=>(gO r.1.ac.bn∧TabOk r.1.ac.bJ)∧cr r.2):=by
 unfold dL
 refine GQ (association_ok hk d j) (fun q h1=>?_)
 refine GQ (scale_ok _ h1.2) (fun u f=>?_)
 refine GQ (eZ _ _ f zc zc) (fun B g=>?_)
 exact G0 ⟨h1.1,g.2⟩
def ChanOk(c:aj):Prop:=c.cn.length<=3∧∀e∈c.cn,fP 60 e.bV
def InvOk(v:ae):Prop:=v.a8.length<=6∧∀c∈v.a8,ChanOk c
theorem range_ok(a b:Int)(j: -1000<=a)(h1:a<=1000)(k:0<=b-a)(q:b-a<=1000)(d:Src)(f:cr d):Ok (nN a b d) (fun r=>(a<=r.1∧r.1<=b)∧cr r.2):=by
 unfold nN
 rw [w64 (n:=b-a) za za,w64 (n:=b-a+1) za za]
 refine GQ (dS _ _ f za za) (fun g g1=>?_)
 rw [w64 (n:=a+g.1) za za]
 exact G0 ⟨⟨zd,zd⟩,g1.2.2⟩
theorem point_ok(b:al)(f:gO b)(d:Src)(g:cr d):Ok (oA b d) (fun r=>fP 60 r.1∧cr r.2):=by
 obtain⟨⟨j,k,q⟩,u,B,C⟩:=f
 unfold oA
 refine GQ (range_ok _ _ za za za za d g) (fun D g1=>?_)
 refine GQ (range_ok _ _ za za za za _ g1.2) (fun E g2=>?_)
 refine GQ (range_ok _ _ za za za za _ g2.2) (fun F g3=>?_)
 exact G0 ⟨⟨zd,zd,zd⟩,g3.2⟩
theorem kplace_ok(v:ae)(k:InvOk v)(x:Sid)(t:Int):Ok (oX v x t) (fun r=>fP 60 r.1):=by
 unfold oX
 have q:fP 60 ⟨0,0,0⟩:=⟨zc,zc,zc⟩
 refine GQ (P:=fun o=>match o with| .inl _=>True| .inr r=>fP 60 r.1) (G6 v.a8.length za (fun _=>True) trivial ?_) ?_
 ·intro i h1 B _
  unfold nW
  refine GW (fun g=>?_) (fun _=>G3 trivial)
  refine GQ (GS za za) (fun c hc=>?_)
  have f:=k.2 c hc.1
  have hlen:=k.1
  refine GQ (P:=fun o=>match o with| .inl y=>y=i| .inr r=>fP 60 r.1) (G6 c.cn.length za (fun _=>True) trivial ?_) ?_
  ·intro j C D _
   unfold nV
   have u:=f.1
   refine GW (fun g=>?_) (fun _=>G3 rfl)
   refine GQ (GS za za) (fun e he=>?_)
   rw [w64 (n:=j+1) za za]
   refine G8 (fun _=>?_) (fun _=>GX ⟨⟨za,za⟩,trivial⟩ za)
   refine GW (fun _=>?_) (fun _=>GX ⟨⟨za,za⟩,trivial⟩ za)
   refine GW (fun _=>?_) (fun _=>GX ⟨⟨za,za⟩,trivial⟩ za)
   exact G3 (f.2 e he.1)
  ·rintro(y|r) ho
   ·simp only at ho⊢
    subst ho
    rw [w64 (n:=y+1) za za]
    exact GX ⟨⟨za,za⟩,trivial⟩ za
   ·exact G3 ho
 ·rintro(y|r) ho
  ·exact G0 q
  ·exact G0 ho
def cG(p:Pick):Prop:=qU p.a7∧0<=p.bt∧p.bt<=p.bS∧p.bS<=p.cg∧p.cg<=200000∧0<=p.bG∧p.bG<=1073741823∧ -1<=p.bU∧p.bU<=1
def PickLo(p:Pick):Prop:=cG p∧p.cg<=40000
def PI(n:Nat)(s:Int×Int×List Int×Int×List Pick×Int×Int×Int):Prop:=
 (0<=s.2.1∧s.2.1+s.2.2.2.2.1.length<=n)∧(0<=s.1∧s.1<=2000+1000*s.2.2.2.2.1.length)∧cr ⟨s.2.2.1,s.2.2.2.1⟩∧fP 60 ⟨s.2.2.2.2.2.1,s.2.2.2.2.2.2.1,s.2.2.2.2.2.2.2⟩∧∀p∈s.2.2.2.2.1,PickLo p
theorem k34_ok{n:Nat}(F:n<=20){Q:List Pick×List Int×Int->Prop}{s:Int×Int×List Int×Int×List Pick×Int×Int×Int}{sid:Sid}(hs:qU sid)(am:Int×Src)(E:0<=am.1∧am.1<=1048576)(q:Int×Src)(hp:0<=q.1∧q.1<3)(t k:Int)(l:List Int)(at_:Int)(out:List Pick)(x y z e:Int)
  (hk:1<=k∧k+out.length<=n) (B:k=s.2.1) (C:0<=t∧t<=2000+1000*(out.length+1)) (u:cr ⟨l,at_⟩) (j:fP 60 ⟨x,y,z⟩) (g:∀p∈out,PickLo p) (he:0<=e∧e<=30000):
  Ok (jH sid am q t k l at_ out x y z e) (Ok.S (PI n) (fun s=>s.2.1.toNat) Q s):=by
 unfold jH
 refine GQ (dS _ _ u za za) (fun r g1=>?_)
 refine GQ (dS _ _ g1.2.2 za za) (fun D g2=>?_)
 refine GQ (GP (by simp only [DW,DX];omega)) (fun G g3=>?_)
 subst g3
 rw [w64 (n:=e+r.1) za za,w64 (n:=e+r.1+D.1) za za,w64 (n:=q.1-1) za za,w64 (n:=k-1) za za]
 refine GX ⟨⟨zd,by simp only [ES,DW,DX];omega⟩,⟨C.1,by simp only [ES,DW,DX];omega⟩,g2.2.2,j,fun p f=>?_⟩ zd
 simp only [Eu,Ew]at f
 rcases f with f|rfl
 ·exact g p f
 ·exact⟨⟨hs,zd,zd,zd,zd,zd,zd,zd,zd⟩,zd⟩
theorem l55_ok(pl:ag×Bool)(B:fP 60 pl.1)(x y z t k:Int)(out:List Pick)(L:fP 60 ⟨x,y,z⟩):Ok (cI (m8 pl x y z t k out) (0:Int)) (fun o=>o.1=t∧o.2.1=k∧(0<=o.2.2.1∧o.2.2.1<=300)∧o.2.2.2.1=out∧o.2.2.2.2.1=x∧o.2.2.2.2.2.1=y∧o.2.2.2.2.2.2=z):=by
 obtain⟨a1,a2,a3⟩:=B
 obtain⟨g,j,r⟩:=L
 simp only at g j r
 have f:∀(u v:Int), -60<=u->u<=60-> -60<=v->v<=60->∃q,qj (FM .i64 (u-v))=some q∧0<=q∧q<=14400:=by
  intro u v h1 O Q T
  have D: -120<=u-v∧u-v<=120:=by omega
  rw [w64 za za]
  have E:0<=(u-v)*(u-v)∧(u-v)*(u-v)<=14400:=by
   constructor
   ·rcases Fb 0 (u-v)with h|h
    ·exact Fj h h
    ·exact Fk h h
   ·rcases Fb 0 (u-v)with h|h
    ·calc (u-v)*(u-v)<=120*120:=Fh D.2 D.2 h za
      _=14400:=by decide
    ·have:(u-v)*(u-v)=(v-u)*(v-u):=by
      rw [<-Fp];congr 1<;>omega
     rw [this]
     calc (v-u)*(v-u)<=120*120:=Fh za za za za
      _=14400:=by decide
  refine⟨_,by unfold qj;rw [w64 za za],E.1,E.2⟩
 obtain⟨F,H,U,u1⟩:=f pl.1.fX x a1.1 a1.2 g.1 g.2
 obtain⟨G,e2,W,u2⟩:=f pl.1.fY y a2.1 a2.2 j.1 j.2
 obtain⟨N,I,X,Y⟩:=f pl.1.fZ z a3.1 a3.2 r.1 r.2
 refine GU (fun s=>0<=s∧s<=300) (fun s=>(300-s).toNat) (fun s hs=>?_) ⟨Fa _,za⟩
 unfold m8
 rw [H,e2,I]
 simp only [ze]
 rw [w64 (n:=F+G) za za,w64 (n:=F+G+N) za za]
 have K : 0 ≤ s * s ∧ s * s ≤ 90000 := ⟨Fj hs.1 hs.1, by
  calc s*s<=300*300:=Fh hs.2 hs.2 hs.1 za
   _=90000:=by decide⟩
 rw [w64 (n:=s*s) za za]
 refine GW (fun J=>?_) (fun _=>G3 ⟨rfl,rfl,hs,rfl,rfl,rfl,rfl⟩)
 have C:s<=299:=by
  rcases Int.lt_or_le 299 s with h|h
  ·exfalso
   have:s=300:=by omega
   subst this
   omega
  ·exact h
 rw [w64 (n:=s+1) za za]
 exact GX ⟨za,za⟩ za
theorem picks_lo(a:ah)(q:gO a.ac.bn∧TabOk a.ac.bJ)(v:ae)(L:InvOk v)(n:Nat)(hn:n<=20)(d:Src)(I:cr d):
  Ok (kM a v n d) (fun r=>(r.1.length<=n∧∀p∈r.1,PickLo p)∧cr r.2):=by
 unfold kM
 refine GQ (point_ok _ q.1 d I) (fun x1 h1=>?_)
 refine GQ (dS _ _ h1.2 za za) (fun x2 G=>?_)
 rw [w64 (n:=(n:Int)+1) za za]
 refine GQ (dS _ _ G.2.2 za za) (fun x3 H=>?_)
 rw [w64 (n:=1000+x2.1) za za]
 refine GQ (P:=fun o=>(o.1.length<=n∧∀p∈o.1,PickLo p)∧cr ⟨o.2.1,o.2.2⟩) (GU (PI n) (fun s=>s.2.1.toNat) ?_ ⟨⟨zd,by simp only [DX];omega⟩,⟨zd,by simp only [DX];omega⟩,H.2.2,h1.1,zc⟩) (fun o ho=>G0 ⟨ho.1,ho.2⟩)
 rintro⟨u,s5,s6,s7,s8,s9,X,Y⟩ ⟨i0,i1,i2,i3,i4⟩
 simp only at i0 i1 i2 i3 i4
 unfold oo
 refine GW (fun J=>?_) (fun _=>G3 ⟨⟨zd,i4⟩,i2⟩)
 refine GQ (dS _ _ i2 za za) (fun y1 g1=>?_)
 refine GQ (source_ok _) (fun y2 g2=>?_)
 refine GQ (eZ _ _ g1.2.2 zc zc) (fun j g3=>?_)
 have g:0<=j.1∧j.1<=1048576:=by have:=g3.1;simp at this;omega
 refine GQ (dS _ _ g3.2 za za) (fun k g4=>?_)
 refine GQ (dS _ _ g4.2.2 za za) (fun y5 g5=>?_)
 refine GQ (dS _ _ g5.2.2 za za) (fun y6 g6=>?_)
 rw [w64 (n:=1000+y5.1) za za]
 refine G4 (fun _=>?_) (fun _=>G4 (fun _=>?_) (fun _=>?_))
 ·refine GQ (point_ok _ q.1 _ g6.2.2) (fun E g7=>?_)
  refine GQ (dS _ _ g7.2 za za) (fun F g8=>?_)
  rw [w64 (n:=u+F.1) za za]
  exact k34_ok za g2 j g k ⟨g4.1,g4.2.1⟩ _ _ _ _ _ _ _ _ _ za rfl za g8.2.2 g7.1 i4 za
 ·exact k34_ok za g2 j g k ⟨g4.1,g4.2.1⟩ _ _ _ _ _ _ _ _ _ za rfl za g6.2.2 i3 i4 za
 ·refine GQ (kplace_ok v L _ _) (fun E g7=>?_)
  refine G8 (fun _=>?_) (fun _=>?_)
  ·refine GQ (l55_ok E g7 _ _ _ _ _ _ i3) (fun o ho=>?_)
   obtain⟨N,O,D,Q,T,U,W⟩:=ho
   have f:=q.2
   have hl:=f.len
   have K:=f.step
   refine GQ (GY za) (fun F g8=>?_)
   have hq:0<=o.2.2.1.tdiv a.ac.bJ.bR∧o.2.2.1.tdiv a.ac.bJ.bR<=300:=by
    refine⟨Fv D.1 za,?_⟩
    have:=Fu (b:=a.ac.bJ.bR) D.1
    omega
   rw [w64 za za]at g8
   subst g8
   rw [w64 (n:=(a.ac.bJ.bu.length:Int)-1) za za]
   refine GQ (GS (by split<;>omega) (by split<;>omega)) (fun C g9=>?_)
   have hb:=f.low C g9.1
   refine GQ (dS _ _ g6.2.2 za za) (fun B g10=>?_)
   rw [N,O,Q,T,U,W,w64 (n:=u+C) za za,w64 (n:=u+C+B.1) za za]
   exact k34_ok za g2 j g k ⟨g4.1,g4.2.1⟩ _ _ _ _ _ _ _ _ _ za rfl za g10.2.2 i3 i4 za
  ·exact k34_ok za g2 j g k ⟨g4.1,g4.2.1⟩ _ _ _ _ _ _ _ _ _ za rfl za g6.2.2 i3 i4 za
end Go.Dw.Re
set_option maxRecDepth 100000
set_option maxHeartbeats 4000000
namespace Go.Dw.Re
open Go.Dw
theorem dW{α:Type}{l m:List α}{b:Nat}(h:(l.length+m.length)*b<=140737488355328):rD l m b=some (l++m):=by
 unfold rD
 rw [if_pos h]
namespace Sd
abbrev Src:=bi
theorem eq_src(a b:Src):((a.bI==b.bI)&&((a.bw==b.bw)&&((a.ba==b.ba)&&((a.bM==b.bM)&&true))))=decide (a=b):=by
 obtain⟨n,t,l,c⟩:=a
 obtain⟨r,u,q,f⟩:=b
 simp only [bi.mk.injEq]
 by_cases g:n=r<;>by_cases e2:t=u<;>by_cases j:l=q<;>by_cases k:c=f<;>simp [g,e2,j,k]
theorem cmp_str(a b:List UInt8):dz a b=some (wh a b):=by
 unfold dz iF
 simp only [beq_self_eq_true,Bool.not_true,ze,Dq,if_false]
 unfold wh
 cases h:Op.bytesLess a b with
 |true=>simp
 |false=>by_cases e:a=b<;>simp [e]
theorem rn{l:List Int}{i j:Nat}(g:j=i+1)(hi:i<l.length)(hl:l.length<1000)(f:l[i]=0):eB l i=some (.next (j:Int)):=by
 subst g
 unfold eB
 rw [if_pos so,ow rfl hi]
 simp only [ze,f,w64 (n:=(i:Int)+1) za za]
 rfl
theorem ro{l:List Int}{i:Nat}(hi:i<l.length)(f:l[i]≠0):eB l i=some (.stop (.inr l[i])):=by
 unfold eB
 rw [if_pos so,ow rfl hi]
 simp only [ze]
 rw [if_pos (by simpa using f)]
theorem or_end{l:List Int}{n:Nat}(f:n=l.length):eB l n=some (.stop (.inl ())):=by
 subst f
 unfold eB
 rw [if_neg zc]
theorem or4(a b c d:Int):dC [a,b,c,d]=some (if a≠0 then a else if b≠0 then b else if c≠0 then c else d):=by
 show((cI (eB [a,b,c,d]) ((0:Nat):Int)).bind _)=_
 by_cases f:a=0
 ·rw [rJ (rn (i:=0) (j:=1) rfl zc zc (by simpa using f)),if_neg (by simpa using f)]
  by_cases g:b=0
  ·rw [rJ (rn (i:=1) (j:=2) rfl zc zc (by simpa using g)),if_neg (by simpa using g)]
   by_cases hc:c=0
   ·rw [rJ (rn (i:=2) (j:=3) rfl zc zc (by simpa using hc)),if_neg (by simpa using hc)]
    by_cases k:d=0
    ·rw [rJ (rn (i:=3) (j:=4) rfl zc zc (by simpa using k)),pJ (or_end (n:=4) rfl)]
     rw [k];rfl
    ·rw [pJ (ro (i:=3) zc (by simpa using k))];rfl
   ·rw [pJ (ro (i:=2) zc (by simpa using hc)),if_pos hc];rfl
  ·rw [pJ (ro (i:=1) zc (by simpa using g)),if_pos g];rfl
 ·rw [pJ (ro (i:=0) zc (by simpa using f)),if_pos (by simpa using f)];rfl
def mK(a b:Src):Int:=if wh a.bI b.bI≠0 then wh a.bI b.bI else if wh a.bw b.bw≠0 then wh a.bw b.bw else if wh a.ba b.ba≠0 then wh a.ba b.ba else wh a.bM b.bM
theorem mP(a b:Src):jc a b=some (mK a b):=by
 unfold jc
 simp only [cmp_str,ze,or4]
 rfl
theorem eE:Tot mK:=(yc.map fun x:Src=>x.bI).or ((yc.map fun x:Src=>x.bw).or ((yc.map fun x:Src=>x.ba).or (yc.map fun x:Src=>x.bM)))
theorem d9{a b:Src}(h:mK a b=0):a=b:=by
 unfold mK at h
 obtain⟨n,t,l,c⟩:=a
 obtain⟨k,q,j,r⟩:=b
 simp only at h
 by_cases h1:wh n k=0
 ·rw [if_neg (by simpa using h1)]at h
  by_cases f:wh t q=0
  ·rw [if_neg (by simpa using f)]at h
   by_cases g:wh l j=0
   ·rw [if_neg (by simpa using g)]at h
    rw [yx]at h h1 f g
    subst h h1 f g;rfl
   ·rw [if_pos g]at h;exact(g h).elim
  ·rw [if_pos f]at h;exact(f h).elim
 ·rw [if_pos h1]at h;exact(h1 h).elim
instance : DecidableEq Src := fun a b => decidable_of_iff (a.bI = b.bI ∧ a.bw = b.bw ∧ a.ba = b.ba ∧ a.bM = b.bM) (by
 obtain⟨n,t,l,c⟩:=a
 obtain⟨j,k,g,f⟩:=b
 simp)
theorem eqs(a b:Src):((a.bI==b.bI)&&((a.bw==b.bw)&&((a.ba==b.ba)&&((a.bM==b.bM)&&true))))=decide (a=b):=by
 rw [eq_src]
 exact decide_eq_decide.2 Iff.rfl
theorem lE(a b:Int):cb a b=some (sY a b):=by
 unfold cb lw sY
 simp only [bne_self_eq_false,ze,Dq,if_false]
 by_cases h1:a<b
 ·rw [if_pos (decide_eq_true h1),if_pos h1]
 ·rw [if_neg (by simpa using h1),if_neg h1]
  by_cases f:a>b
  ·rw [if_pos (decide_eq_true f),if_pos f]
  ·rw [if_neg (by simpa using f),if_neg f]
theorem or_go{l:List Int}{n:Nat}{r:List Int}(hl:l.length<1000)(C:n<=l.length)(g:l.drop n=r):cI (eB l) (n:Int)=some (match r.find? (fun x=>decide (x≠0))with|some x=>.inr x|none=>.inl ()):=by
 induction r generalizing n with
 |nil=>
  have:n=l.length:=by
   have:=congrArg GF g
   simp at this;omega
  rw [pJ (or_end this)];rfl
 |cons a r B=>
  have f:n<l.length:=by
   have:=congrArg GF g
   simp at this;omega
  have q:l[n]=a:=by
   rw [Fy f]at g
   exact(List.cons.inj g).1
  have u:l.drop (n+1)=r:=by
   rw [Fy f]at g
   exact(List.cons.inj g).2
  by_cases k:a=0
  ·rw [rJ (rn (i:=n) (j:=n+1) rfl f hl (by rw [q,k])),B za u]
   simp [Fz,k]
  ·rw [pJ (ro f (by rw [q];exact k)),q]
   simp [Fz,k]
theorem or6(a b c d e f:Int):dC [a,b,c,d,e,f]=some (if a≠0 then a else if b≠0 then b else if c≠0 then c else if d≠0 then d else if e≠0 then e else f):=by
 unfold dC
 have:=or_go (l:=[a,b,c,d,e,f]) (n:=0) (r:=[a,b,c,d,e,f]) zc zc rfl
 rw [show((0:Int))=((0:Nat):Int)from rfl,this]
 by_cases g:a=0<;>by_cases j:b=0<;>by_cases hc:c=0<;>by_cases k:d=0<;>by_cases he:e=0<;>by_cases hf:f=0<;>simp [Fz,g,j,hc,k,he,hf]
end Sd
open Sd (mK eE d9)
def fT(a b:Pick):Int:=if mK a.a7 b.a7≠0 then mK a.a7 b.a7 else if sY a.bS b.bS≠0 then sY a.bS b.bS else if sY a.bt b.bt≠0 then sY a.bt b.bt else if sY a.cg b.cg≠0 then sY a.cg b.cg else if sY a.bG b.bG≠0 then sY a.bG b.bG else sY a.bU b.bU
theorem mP(a b:Pick):cO a b=some (fT a b):=by
 unfold cO
 simp only [Sd.mP,Sd.lE,ze,Sd.or6]
 rfl
theorem df:Tot fT:=(eE.map fun x:Pick=>x.a7).or ((tc.map fun x:Pick=>x.bS).or ((tc.map fun x:Pick=>x.bt).or ((tc.map fun x:Pick=>x.cg).or ((tc.map fun x:Pick=>x.bG).or (tc.map fun x:Pick=>x.bU)))))
theorem nU{a b:Int}(h:(if a≠0 then a else b)=0):a=0∧b=0:=by
 by_cases h1:a=0
 ·rw [if_neg (by simpa using h1)]at h;exact⟨h1,h⟩
 ·rw [if_pos h1]at h;exact(h1 h).elim
theorem lW{a b:Pick}(h:fT a b=0):a=b:=by
 unfold fT at h
 obtain⟨h1,h⟩:=nU h
 obtain⟨f,h⟩:=nU h
 obtain⟨g,h⟩:=nU h
 obtain⟨j,h⟩:=nU h
 obtain⟨k,q⟩:=nU h
 rw [xi]at f g j k q
 have:=d9 h1
 obtain⟨a1,a2,a3,a4,a5,r⟩:=a
 obtain⟨u,B,C,D,E,F⟩:=b
 simp only at*
 subst this f g j k q
 rfl
theorem lt3_eq:lt3 cO=fun x y=>decide (fT x y<0):=by
 funext x y
 unfold lt3
 rw [mP];rfl
theorem Compare_ok:CmpOk cO:=⟨fun x y=>⟨_,mP x y⟩,by rw [lt3_eq];exact df.swo⟩
instance : DecidableEq Pick := fun a b => decidable_of_iff (a.a7 = b.a7 ∧ a.bS = b.bS ∧ a.bt = b.bt ∧ a.cg = b.cg ∧ a.bG = b.bG ∧ a.bU = b.bU) (by
 obtain⟨a1,a2,a3,a4,a5,f⟩:=a
 obtain⟨g,j,k,q,r,u⟩:=b
 simp)
def eqF(a b:Pick):Bool:=((a.a7.bI==b.a7.bI)&&((a.a7.bw==b.a7.bw)&&((a.a7.ba==b.a7.ba)&&((a.a7.bM==b.a7.bM)&&true))))&&((a.bS==b.bS)&&((a.bt==b.bt)&&((a.cg==b.cg)&&((a.bG==b.bG)&&((a.bU==b.bU)&&true)))))
theorem eqs(a b:Pick):eqF a b=decide (a=b):=by
 obtain⟨a1,a2,a3,a4,a5,f⟩:=a
 obtain⟨g,j,k,q,r,u⟩:=b
 unfold eqF
 simp only [Sd.eqs,aa.mk.injEq]
 by_cases B:a1=g<;>by_cases e2:a2=j<;>by_cases C:a3=k<;>by_cases D:a4=q<;>by_cases E:a5=r<;>by_cases F:f=u<;>simp [B,e2,C,D,E,F]
theorem sub_part{α β:Type}(l:List α)(o:Int)(f:List α->β):((vB l.length (0:Int) o).bind fun _=>(BU l (0+(0:Int).toNat) (0+o.toNat)).bind fun x=>some (f x))=(vB l.length (0:Int) o).bind fun _=>some (f (l.take o.toNat)):=by
 unfold vB
 split
 ·rename_i h
  simp only [ze]
  rw [An za za,ze]
  simp
 ·rfl
theorem Compact_eq(l:List Pick):eP l=yd eqF ⟨⟨[],[],[],[]⟩,0,0,0,0,0⟩ l:=by
 have h1:iY=uW eqF:=by funext s d ⟨a,b,c⟩;rfl
 have f:iZ=uj eqF ⟨⟨[],[],[],[]⟩,0,0,0,0,0⟩:=by
  funext d s
  unfold iZ uj
  rw [h1]
  simp only [sub_part]
  rfl
 unfold eP yd
 rw [f]
 refine ite_congr rfl (fun _=>rfl) fun _=>?_
 refine congrArg _ (funext fun o=>?_)
 rcases o with _|_<;>rfl
theorem sort_at{l:List Pick}(hl:l.length<=1000):∃m,wN cO l=some m∧m.Perm l∧m.Pairwise (fun x y=>fT x y<=0):=by
 have g := zq Compare_ok (fun x y h f => by
  rw [lt3_eq]at h f
  simp only [decide_eq_false_iff_not]at h f
  have:=df.uV x y
  exact lW za) l za
 generalize hm:(l.mergeSort fun x y=> !lt3 cO y x)=m at g
 refine⟨m,g,CI g,?_⟩
 rw [<-hm]
 refine(List.pairwise_mergeSort ?_ ?_ l).imp ?_
 ·intro a b c h f
  rw [lt3_eq]at*
  simp only [GN,decide_eq_false_iff_not]at*
  have:=df.tr a b c (by have:=df.uV a b;omega) (by have:=df.uV b c;omega)
  have:=df.uV a c;omega
 ·intro a b
  rw [lt3_eq]
  have:=df.uV a b
  by_cases h:fT b a<0
  ·have:¬fT a b<0:=by omega
   simp [this]
  ·simp [h]
 ·intro a b h
  rw [lt3_eq]at h
  simp only [GN,decide_eq_false_iff_not]at h
  have:=df.uV a b;omega
theorem oc{l:List Pick}(hl:l.length<=1000):
  ∃r,da l=some r∧r.Pairwise (fun x y=>fT x y<0)∧(∀x,x∈r↔x∈l)∧r.length<=l.length:=by
 have h1:rU 104 l=some l:=by
  unfold rU
  rw [if_pos za]
 obtain⟨m,f,hp,hs⟩:=sort_at hl
 have j:m.length=l.length:=hp.length_eq
 have g:eP m=some (cpt m):=by
  rw [Compact_eq]
  exact Ci (fun x y=>eqs x y) za
 refine⟨cpt m,?_,wi df (fun x y=>lW) hs,fun x=>zt.trans hp.mem_iff,by have:=zQ m;omega⟩
 unfold da
 rw [h1,ze,f,ze,g];rfl
theorem fq:∀{r s:List Pick},r.Pairwise (fun x y=>fT x y<0)->s.Pairwise (fun x y=>fT x y<0)->(∀x,x∈r↔x∈s)->r=s
 | [],[],_,_,_=>rfl
 | [],b::s,_,_,h=>by have:=(h b).2 zc;cases this
 |a::r,[],_,_,h=>by have:=(h a).1 zc;cases this
 |a::r,b::s,h1,C,h=>by
  obtain⟨q,D⟩:=List.pairwise_cons.1 h1
  obtain⟨u,hs⟩:=List.pairwise_cons.1 C
  have j:a=b:=by
   rcases List.mem_cons.1 ((h a).1 zc)with e|hm
   ·exact e
   ·rcases List.mem_cons.1 ((h b).2 zc)with e|k
    ·exact e.symm
    ·have F:=u a hm
     have G:=q b k
     have:=df.uV a b
     omega
  subst j
  have B:∀{t:List Pick},(∀y∈t,fT a y<0)->a∉t:=fun h E=>by have:=h a E;have:=df.refl a;omega
  have:r=s:=fq D hs fun x=>by
   have:=h x
   simp only [FN]at this
   constructor
   ·intro f
    rcases this.1 (.inr f)with e|g
    ·subst e;exact(B q f).elim
    ·exact g
   ·intro f
    rcases this.2 (.inr f)with e|g
    ·subst e;exact(B u f).elim
    ·exact g
  rw [this]
end Go.Dw.Re
set_option maxRecDepth 100000
set_option maxHeartbeats 4000000
namespace Go.Dw.Re
open Go.Dw Go.Proofs
open Sd (mK eE d9)
theorem sid_len{x:Sid}(h:Sq.pp x=true):Sq.SidLen x:=by
 obtain⟨h1,f,g,j⟩:=Sq.valid_len h
 exact⟨za,za,za,za⟩
theorem n9{p:Pick}(h:cG p):iM p=some true:=by
 obtain⟨f,h1,j,k,C,q,r,u,B⟩:=h
 unfold iM
 rw [Sq.Valid_eq (sid_len f),f,ze,if_pos rfl,if_pos (by simpa using h1),if_pos (by simpa using j),if_pos (by simpa using k),if_pos so]
 have g:mZ p.bG 0 1073741823=some true:=by unfold mZ;rw [if_pos (by simpa using q)];simpa using r
 have e2:mZ p.bU (-1) 1=some true:=by unfold mZ;rw [if_pos (by simpa using u)];simpa using B
 rw [g,ze,if_pos rfl,e2];rfl
theorem oL{l:List Pick}(hl:l.length<=1000):cB l l=some true:=by
 unfold cB
 rw [if_neg zc]
 have:Ok (cI (ek l l) (0:Int)) (fun o=>o= .inl ()):=by
  refine G6 l.length za (fun _=>True) trivial (fun i f h1 _=>?_)
  unfold ek
  refine GW (fun g=>?_) (fun _=>G3 rfl)
  obtain⟨p,hp, -⟩:=GS (l:=l) f za
  rw [hp,ze,ze,if_neg zc,w64 za za]
  exact GX ⟨⟨za,za⟩,trivial⟩ za
 rw [this.eq];rfl
def P(t:Int):Pick:=⟨⟨[65,66],[83,49],[48,48],[66,72,90]⟩,t,t,t,0,0⟩
def S1:Sid:=⟨[65,66],[83,49],[48,48],[66,72,90]⟩
theorem qL{α ω:Type}{body:Int->Option (dE Int (Unit⊕ω))}(l:List α){p:α->Bool}{f:Nat->α->ω}
  (h1:∀(i:Nat)(hi:i<l.length),body i=if p l[i]=true then some (.stop (.inr (f i l[i])))else some (.next ((i+1:Nat):Int)))
  (u:body (l.length:Nat)=some (.stop (.inl ()))):
  (cI body (0:Int)=some (.inl ())∧∀x∈l,p x=false)∨
  ∃(i:Nat)(hi:i<l.length),cI body (0:Int)=some (.inr (f i l[i]))∧p l[i]=true∧∀x∈l.take i,p x=false:=by
 have:∀k i,i+k=l.length->(∀x∈l.take i,p x=false)->(cI body (i:Int)=some (.inl ())∧∀x∈l,p x=false)∨
   ∃(j:Nat)(C:j<l.length),cI body (i:Int)=some (.inr (f j l[j]))∧p l[j]=true∧∀x∈l.take j,p x=false:=by
  intro k
  induction k with
  |zero=>
   intro i hi r
   obtain rfl:i=l.length:=by omega
   exact .inl ⟨pJ u,by simpa using r⟩
  |succ k B=>
   intro i hi r
   have g:i<l.length:=by omega
   cases hp:p l[i]with
   |true=>exact .inr ⟨i,g,pJ (by rw [h1 i g,if_pos hp]),hp,r⟩
   |false=>
    have e:=rJ (ω:=Unit⊕ω) (body:=body) (s:=(i:Int)) (s':=((i+1:Nat):Int)) (by rw [h1 i g,if_neg (by simp [hp])])
    rw [e]
    refine B (i+1) za fun x q=>?_
    rw [qi g]at q
    rcases List.mem_append.1 q with q|q
    ·exact r x q
    ·rw [Ew]at q;rw [q];exact hp
 have:=this l.length 0 za zc
 simpa using this
theorem loop_find{α ω:Type}{body:Int->Option (dE Int (Unit⊕ω))}(l:List α){p:α->Bool}{f:α->ω}
  (h1:∀(i:Nat)(hi:i<l.length),body i=if p l[i]=true then some (.stop (.inr (f l[i])))else some (.next ((i+1:Nat):Int)))
  (j:body (l.length:Nat)=some (.stop (.inl ()))):cI body (0:Int)=some (match l.find? p with|none=>.inl ()|some x=>.inr (f x)):=by
 rcases qL l (f:=fun _ x=>f x) h1 j with⟨e,h⟩|⟨i,hi,e,hp,h⟩
 ·rw [e,List.find?_eq_none.2 fun x g=>by simp [h x g]]
 ·rw [e]
  have:l.find? p=some l[i]:=by
   refine List.find?_eq_some_iff_append.2 ⟨hp,l.take i,l.drop (i+1),?_,fun x g=>by simp [h x g]⟩
   rw [<-Fy hi,List.take_append_drop]
  rw [this]
theorem fM{ω:Type}{body:Int->Option (dE Int (Unit⊕ω))}(n:Nat)(h1:∀i:Nat,i<n->body i=some (.next ((i+1:Nat):Int)))(f:body (n:Nat)=some (.stop (.inl ()))):cI body (0:Int)=some (.inl ()):=by
 have:∀k i:Nat,i+k=n->cI body (i:Int)=some (.inl ()):=by
  intro k
  induction k with
  |zero=>
   intro i hi
   obtain rfl:i=n:=by omega
   exact pJ f
  |succ k g=>intro i hi;rw [rJ (h1 i za)];exact g (i+1) za
 simpa using this n 0 za
theorem terms_ok{l:List Int}(hl:l.length<=1000)(h:∀x∈l, -1048576<=x∧x<=1048576):dI l=some true:=by
 unfold dI fO gJ
 rw [fM l.length (fun i hi=>?_) ?_]
 ·rfl
 ·unfold eh
  rw [if_neg zc]
 ·unfold eh
  have f:=h l[i] (Dn hi)
  rw [if_pos so,ow rfl hi,ze]
  unfold lj cQ
  rw [if_pos (by simpa using f.1),ze,ze,if_neg (by simpa using f.2),w64 za za]
  simp
def nC(x:bg):Prop:=dU x=some true∧(x.kb=2->x.eH=1)∧x.et.length<=3∧0<=x.eW∧(-1048576<=x.cf.a0∧x.cf.a0<=1048576)∧(-1048576<=x.bZ.a0∧x.bZ.a0<=1048576)
theorem gain_ok{a b:Int}(f:1<=a∧a<=1048576)(g:1<=b∧b<=1048576):nC ⟨0,⟨a,0,0⟩,⟨b,0,0⟩,[],0,0⟩:=by
 refine⟨?_,zc,zc,zc,zd,zd⟩
 unfold dU cQ
 simp [f.1,f.2,g.1,g.2]
theorem section_ok{a b c d e f:Int}(k: -10<=a∧a<=10)(q: -10<=b∧b<=10)(hc: -10<=c∧c<=10)(r:1<=d∧d<=10)(he: -10<=e∧e<=10)(hf: -10<=f∧f<=10):nC ⟨1,⟨a,b,c⟩,⟨d,e,f⟩,[],0,0⟩:=by
 refine⟨?_,zc,zc,zc,zd,zd⟩
 have h1:dI [a,b,c]=some true:=terms_ok zc so
 have g:dI [d,e,f]=some true:=terms_ok zc so
 have j:d≠0:=by omega
 unfold dU
 simp [h1,g,j]
theorem filter_ok{a s:Int}(r:1<=a∧a<=3)(hs:0<=s∧s<=3):nC ⟨2,⟨0,0,0⟩,⟨0,0,0⟩,[a,2,1],1,s⟩:=by
 have h1:a=1∨a=2∨a=3:=by omega
 have q:s=0∨s=1∨s=2∨s=3:=by omega
 refine⟨?_,zc,zc,hs.1,zc,zc⟩
 have k:dI [a,2,1]=some true:=terms_ok zc so
 have f:fW [a,2,1]=some (a+3):=by
  unfold fW
  rcases h1 with rfl|rfl|rfl
  ·rw [tV (n:=4) (o:=4) (by kernel_rfl)];rfl
  ·rw [tV (n:=4) (o:=5) (by kernel_rfl)];rfl
  ·rw [tV (n:=4) (o:=6) (by kernel_rfl)];rfl
 have g:a+3≠0:=by omega
 have j:0<=s∧s<=3:=by omega
 unfold dU cQ
 rw [k,f]
 simp [g,j.1]
 omega
def oO(r:bv):Prop:=r.cS.length<=3∧∀x∈r.cS,nC x
theorem oK(d:Src)(B:cr d):Ok (gP d) (fun r=>oO r.1∧cr r.2):=by
 unfold gP
 refine GQ (dS _ _ B za za) (fun L h1=>?_)
 refine GQ (P:=fun o:List Int×Int×List bg=>cr ⟨o.1,o.2.1⟩∧(o.2.2.length<=3∧∀x∈o.2.2,nC x)) (GU (fun s=>0<=s.1∧s.1+s.2.2.2.length<=3∧(∀x∈s.2.2.2,nC x)∧cr ⟨s.2.1,s.2.2.1⟩) (fun s=>s.1.toNat) ?_ ⟨zd,by simp only [DX];omega,zc,h1.2.2⟩) (fun o ho=>G0 (Q:=fun r:bv×Src=>oO r.1∧cr r.2) ⟨ho.2,ho.1⟩)
 rintro⟨s2,J,K,q⟩ ⟨i0,i1,i2,i3⟩
 simp only at i0 i1 i2 i3
 unfold kN
 have g:∀(x:bg),Ok (rD q [x] 96) (fun r=>r=q++[x]):=fun x=>GP (by simp only [DW,DX];omega)
 have f:∀{x:bg},nC x->∀c∈q++[x],nC c:=fun D c hc=>by
  simp only [Eu,Ew]at hc
  rcases hc with hc|rfl
  ·exact i2 c hc
  ·exact D
 refine GW (fun C=>?_) (fun _=>G3 ⟨i3,zd,i2⟩)
 refine GQ (dS _ _ i3 za za) (fun E g1=>?_)
 refine G4 (fun hk=>?_) (fun _=>G4 (fun hk=>?_) (fun _=>?_))
 ·refine GQ (eZ _ _ g1.2.2 zc zc) (fun j g2=>?_)
  refine GQ (eZ _ _ g2.2 zc zc) (fun k g3=>?_)
  refine GQ (g _) (fun u g4=>?_)
  subst g4
  have H:0<=j.1∧j.1<=1048575:=by have:=g2.1;simp at this;omega
  have I:0<=k.1∧k.1<=999:=by have:=g3.1;simp at this;omega
  rw [w64 (n:=s2-1) za za,w64 (n:=1+j.1) za za,w64 (n:=1+k.1) za za,hk]
  exact GX ⟨zd,by simp only [ES,DW,DX];omega,f (gain_ok za za),g3.2⟩ zd
 ·refine GQ (dS _ _ g1.2.2 za za) (fun j g2=>?_)
  refine GQ (dS _ _ g2.2.2 za za) (fun k g3=>?_)
  refine GQ (dS _ _ g3.2.2 za za) (fun u g4=>?_)
  refine GQ (dS _ _ g4.2.2 za za) (fun F g5=>?_)
  refine GQ (dS _ _ g5.2.2 za za) (fun N g6=>?_)
  refine GQ (dS _ _ g6.2.2 za za) (fun O g7=>?_)
  refine GQ (g _) (fun G g8=>?_)
  subst g8
  rw [w64 (n:=s2-1) za za,w64 (n:=k.1-3) za za,w64 (n:=u.1-1) za za,w64 (n:=1+F.1) za za,hk]
  exact GX ⟨zd,by simp only [ES,DW,DX];omega,f (section_ok za za za za za za),g7.2.2⟩ zd
 ·refine GQ (dS _ _ g1.2.2 za za) (fun j g2=>?_)
  refine GQ (dS _ _ g2.2.2 za za) (fun k g3=>?_)
  refine GQ (g _) (fun G g8=>?_)
  subst g8
  rw [w64 (n:=s2-1) za za,w64 (n:=1+j.1) za za,show E.1=2 by omega]
  exact GX ⟨zd,by simp only [ES,DW,DX];omega,f (filter_ok za za),g3.2.2⟩ zd
theorem resp_valid{r:bv}(h:oO r):kG r=some true:=by
 obtain⟨hl,hs⟩:=h
 unfold kG
 rw [if_neg so]
 have f:dO r.cS=some false:=by
  unfold dO f9
  rw [fM r.cS.length (fun i hi=>?_) ?_]
  ·rfl
  ·unfold dP
   rw [if_neg zc]
  ·unfold dP lg
   rw [if_pos so,ow rfl hi,ze,(hs _ (Dn hi)).1,ze,ze,if_neg zc,w64 za za]
   simp
 have e2:lM r.cS=some 1:=by
  unfold lM
  have:Ok (cI (jv r.cS) ((1:Int),(0:Int))) (fun o=>o= .inl 1):=by
   refine GU (fun s=>s.1=1∧0<=s.2∧s.2<=r.cS.length) (fun s=>((r.cS.length:Int)-s.2).toNat) ?_ ⟨rfl,Fa _,zc⟩
   rintro⟨s1,s2⟩ ⟨i0,i1,i2⟩
   simp only at i0 i1 i2
   subst i0
   unfold jv
   dsimp only
   refine GW (fun g=>?_) (fun _=>G3 rfl)
   refine GQ (GS za za) (fun x j=>?_)
   rw [w64 (n:=s2+1) za za]
   refine G1 (fun _=>GX ⟨rfl,zd,zd⟩ zd) (fun hk=>?_)
   rw [(hs x j.1).2.1 hk]
   refine GW (fun hc=>absurd hc (by decide)) (fun _=>?_)
   rw [w64 (n:=1*1) za za]
   exact GX ⟨rfl,zd,zd⟩ zd
  rw [this.eq];rfl
 rw [f,ze,if_neg zc,e2];rfl
def RateOk(r:cA):Prop:=r.bZ=1∧(r.cf=100∨r.cf=50∨r.cf=51)
theorem rate_valid{r:cA}(h:RateOk r):o0 r=some true:=by
 obtain⟨n,d⟩:=r
 obtain⟨h1,f⟩:=h
 simp only at h1 f
 subst h1
 unfold o0 rate_gcd rate_in
 rcases f with rfl|rfl|rfl
 ·rw [tV (n:=4) (o:=(1:Int)) (by kernel_rfl)];rfl
 ·rw [tV (n:=4) (o:=(1:Int)) (by kernel_rfl)];rfl
 ·rw [tV (n:=4) (o:=(1:Int)) (by kernel_rfl)];rfl
structure EpOk(e:az):Prop where
 lo:0<=e.b7
 lt:e.b7<e.fTo
 hi:e.fTo<=10000000
 from_:e.b7<=2000
 rate:RateOk e.np
 resp:oO e.bW
 pos:fP 60 e.bV
theorem ep_valid{e:az}(h:EpOk e):gW e=some true:=by
 obtain⟨h1,j,r, -,k,q,⟨u,B⟩,⟨C,D⟩,E,F⟩:=h
 have f:∀{x a b:Int},a<=x->x<=b->hC x a b=some true:=fun h g=>by
  unfold hC;rw [if_pos (by simpa using h)];simpa using g
 unfold gW
 rw [if_pos (by simpa using h1), if_pos (by simpa using j), if_pos so, rate_valid k, ze, if_pos rfl, resp_valid q, ze, if_pos rfl,
  f za za,ze,if_pos rfl,f za za,ze,if_pos rfl,f za za]
 rfl
structure oa(l:List az):Prop where
 ne:l≠ []
 len:l.length<=2
 all:∀e∈l,EpOk e
 ord:(l.map fun e=>(e.b7,e.fTo)).Pairwise (fun a b=>a.2<=b.1)
theorem epochs_valid{l:List az}(h:oa l):kX l=some true:=by
 have hlen:=h.len
 have g:=List.length_pos_iff.2 h.ne
 unfold kX
 rw [fM l.length (fun i hi=>?_) ?_,ze]
 ·dsimp only
  unfold hC
  rw [if_pos so,ze]
  simp;omega
 ·unfold gZ
  rw [if_neg zc]
 ·unfold gZ
  rw [if_pos so,ow rfl hi,ze,ep_valid (h.all _ (Dn hi)),ze,if_neg zc,w64 (n:=(i:Int)+1) za za]
  by_cases f:i=0
  ·subst f;rfl
  ·rw [if_pos so,w64 za za,ow (i:=i-1) za za,ze]
   have:=List.pairwise_iff_getElem.1 h.ord (i-1) i so (by simpa using hi) za
   simp only [GD]at this
   rw [if_neg (by simpa using this)]
   simp
def ChOk(c:aj):Prop:=qU c.a7∧oa c.cn
structure gC(v:ae):Prop where
 len:v.a8.length<=6
 all:∀c∈v.a8,ChOk c
 ord:(v.a8.map (·.a7)).Pairwise (fun a b=>mK a b<0)
theorem gC.inv{v:ae}(h:gC v):InvOk v:=⟨h.len,fun c hc=>⟨by have:=(h.all c hc).2.len;omega,fun e he=>((h.all c hc).2.all e he).pos⟩⟩
theorem lX{v:ae}(h:gC v):cM v=some true:=by
 have hlen:=h.len
 unfold cM
 rw [fM v.a8.length (fun i hi=>?_) ?_,ze]
 ·simp;omega
 ·unfold iy
  rw [if_neg zc]
 ·unfold iy
  obtain⟨f,g⟩:=h.all _ (Dn hi)
  rw [if_pos so,ow rfl hi,ze,Sq.Valid_eq (sid_len f),f,ze,if_neg zc,epochs_valid g,ze,if_neg zc,w64 (n:=(i:Int)+1) za za]
  by_cases j:i=0
  ·subst j;rfl
  ·rw [if_pos so,w64 za za,ow (i:=i-1) za za,ze,Sd.mP,ze]
   have:=List.pairwise_iff_getElem.1 h.ord (i-1) i so (by simpa using hi) za
   simp only [GD]at this
   rw [if_neg (by simpa using this)]
   simp
def sid(i:Nat):Sid:=⟨[65,66],stas.getD i [],[48,48],[66,72,90]⟩
theorem source_at{n:Int}{i:Nat}(f:n=i)(hi:i<6):ge n=some (sid i):=by
 subst f
 have:i=0∨i=1∨i=2∨i=3∨i=4∨i=5:=by omega
 rcases this with rfl|rfl|rfl|rfl|rfl|rfl<;>(show ge _=some _;kernel_rfl)
theorem sid_ok{i:Nat}(hi:i<6):qU (sid i):=by
 have:i=0∨i=1∨i=2∨i=3∨i=4∨i=5:=by omega
 rcases this with rfl|rfl|rfl|rfl|rfl|rfl<;>(show Sq.pp _=true;decide+kernel)
theorem sid_lt{i j:Nat}(h:i<j)(g:j<6):mK (sid i) (sid j)<0:=by
 have h1:i=0∨i=1∨i=2∨i=3∨i=4:=by omega
 have f:j=1∨j=2∨j=3∨j=4∨j=5:=by omega
 rcases h1 with rfl|rfl|rfl|rfl|rfl<;>rcases f with rfl|rfl|rfl|rfl|rfl<;>first|omega|decide+kernel
theorem eps1{e:az}(h:EpOk e):oa [e]:=⟨zc,zc,by simpa using h,zc⟩
theorem eps2{e f:az}(h:EpOk e)(g:EpOk f)(ho:e.fTo<=f.b7):oa [e,f]:=⟨zc,zc,by simp;exact⟨h,g⟩,by simpa using ho⟩
def SitesI(s:Int×List Int×Int×List aj):Prop:=∃i:Nat,s.1=i∧i<=6∧s.2.2.2.map (·.a7)=(DG i).map sid∧(∀c∈s.2.2.2,oa c.cn)∧cr ⟨s.2.1,s.2.2.1⟩
theorem sitesV{n:Int}(d:Src)(G:cr d):Ok (gK n d) (fun r=>gC r.1∧cr r.2):=by
 unfold gK
 refine GQ (P:=fun o=>cr ⟨o.1,o.2.1⟩∧gC ⟨o.2.2⟩) (GU SitesI (fun s=>(6-s.1).toNat) ?_ ⟨0,rfl,za,rfl,zc,G⟩) (fun o ho=>G0 ⟨ho.2,ho.1⟩)
 rintro⟨s1,s2,K,q⟩ ⟨i,i0,i1,i2,i3,i4⟩
 simp only at i0 i1 i2 i3 i4
 subst i0
 have hlen:q.length=i:=by have:=congrArg GF i2;simpa using this
 unfold lr
 have g:∀(x:aj),Ok (rD q [x] 88) (fun r=>r=q++[x]):=fun x=>GP (by simp only [DW,DX];omega)
 have k:gC ⟨q⟩:=by
  refine⟨zd,fun c hc=>⟨?_,i3 c hc⟩,?_⟩
  ·have:c.a7∈q.map (·.a7):=List.mem_map.2 ⟨c,hc,rfl⟩
   rw [i2]at this
   obtain⟨j,H,e⟩:=List.mem_map.1 this
   rw [<-e]
   exact sid_ok (by have:=List.mem_range.1 H;omega)
  ·simp only
   rw [i2,GK]
   exact List.pairwise_lt_range.imp_of_mem fun N F D=>sid_lt D (by have:=List.mem_range.1 F;omega)
 have f:∀{l:List az}{t:Src},i<6->oa l->cr t->Ok (some (.next ((i:Int)+1,t.fL,t.fAt,q++[⟨sid i,l⟩]))) (Ok.S SitesI (fun s=>(6-s.1).toNat) (fun o:List Int×Int×List aj=>cr ⟨o.1,o.2.1⟩∧gC ⟨o.2.2⟩) ((i:Int),s2,K,q)):=fun{l t}hi hl J=>by
  refine GX ⟨i+1,zc,za,?_,fun c hc=>?_,J⟩ zd
  ·simp [List.range_succ,i2]
  ·simp only [Eu,Ew]at hc
   rcases hc with hc|rfl
   ·exact i3 c hc
   ·exact hl
 refine GW (fun I=>?_) (fun _=>G3 ⟨i4,k⟩)
 refine GW (fun _=>?_) (fun _=>G3 ⟨i4,k⟩)
 have hi:i<6:=by omega
 refine GQ (mC 60 za za _ i4) (fun O g1=>?_)
 refine GQ (oK _ g1.2) (fun Q g2=>?_)
 rw [source_at rfl hi,ze]
 refine GQ (dS _ _ g2.2 za za) (fun T g4=>?_)
 rw [w64 (n:=(i:Int)+1) za za]
 have C:RateOk ⟨100,1⟩:=⟨rfl,.inl rfl⟩
 refine G4 (fun _=>?_) (fun _=>G4 (fun _=>?_) (fun _=>?_))
 ·refine GQ (dS _ _ g4.2.2 za za) (fun E g5=>?_)
  refine GQ (mC 60 za za _ g5.2.2) (fun U g6=>?_)
  refine GQ (oK _ g6.2) (fun W g7=>?_)
  refine GQ (G5 za zc) (fun _ _=>?_)
  refine GQ (GV za zc) (fun L g8=>?_)
  obtain⟨x,u,rfl⟩:=g8
  simp at u
  subst u
  refine GQ (GP zc) (fun X g9=>?_)
  subst g9
  refine GQ (g _) (fun B g10=>?_)
  subst g10
  rw [w64 (n:=1500+E.1) za za]
  exact f hi (eps2 ⟨zc,zd,zd,zc,C,g2.1,g1.1⟩ ⟨zd,zd,zc,zd,C,g7.1,g6.1⟩ zc) g7.2
 ·refine GQ (dS _ _ g4.2.2 za za) (fun E g5=>?_)
  refine GQ (G5 za zc) (fun _ _=>?_)
  refine GQ (GV za zc) (fun L g8=>?_)
  obtain⟨x,u,rfl⟩:=g8
  simp at u
  subst u
  refine GQ (g _) (fun B g10=>?_)
  subst g10
  exact f hi (eps1 ⟨g5.1,zd,zc,zd,C,g2.1,g1.1⟩) g5.2.2
 ·refine GQ (g _) (fun B g10=>?_)
  subst g10
  exact f hi (eps1 ⟨zc,zc,zc,zc,C,g2.1,g1.1⟩) g4.2.2
theorem oa.set{l:List az}(h:oa l){k:Nat}{x y:az}(f:l[k]? =some x)(h1:y.b7=x.b7)(g:y.fTo=x.fTo)(u:EpOk y):oa (l.set k y):=by
 obtain⟨hk,r⟩:=List.getElem?_eq_some_iff.1 f
 refine⟨fun e=>h.ne (by simpa using e),by simpa using h.len,fun e he=>?_,?_⟩
 ·rcases List.mem_or_eq_of_mem_set he with q|rfl
  ·exact h.all e q
  ·exact u
 ·have:(l.set k y).map (fun e=>(e.b7,e.fTo))=l.map (fun e=>(e.b7,e.fTo)):=by
   apply List.ext_getElem?
   intro j
   simp only [EC,List.getElem?_set]
   by_cases e:k=j
   ·subst e
    rw [if_pos rfl,if_pos hk,f];simp [h1,g]
   ·rw [if_neg e]
  rw [this];exact h.ord
end Go.Dw.Re
set_option maxRecDepth 100000
set_option maxHeartbeats 4000000
namespace Go.Dw.Re
open Go.Dw Go.Proofs
open Sd (mK eE d9)
theorem gq{α:Type}{n:Nat}{l:List α}(h:l.length*n<=140737488355328):rU n l=some l:=by
 unfold rU;rw [if_pos h]
def oN(r:bv):Prop:=r.cS.length<=1000∧∀x∈r.cS,x.et.length<=1000
theorem copyEpoch_at{e:az}(h:oN e.bW):ix e=some e:=by
 obtain⟨h1,j⟩:=h
 unfold ix
 rw [gq za,ze]
 have:Ok (cI (fK e.bW.cS) ((0:Int),e.bW.cS)) (fun o=>o=e.bW.cS):=by
  refine GU (fun s=>0<=s.1∧s.1<=e.bW.cS.length∧s.2=e.bW.cS) (fun s=>((e.bW.cS.length:Int)-s.1).toNat) ?_ ⟨Fa _,zc,rfl⟩
  rintro⟨s2,r⟩ ⟨i0,i1,i2⟩
  simp only at i0 i1 i2
  subst i2
  unfold fK
  dsimp only
  refine GW (fun k=>?_) (fun _=>G3 rfl)
  refine GQ (G5 za za) (fun _ _=>?_)
  refine GQ (GS za za) (fun x f=>?_)
  have:=j x f.1
  rw [gq za,ze]
  refine GQ (G5 za za) (fun _ _=>?_)
  refine GQ (GV za za) (fun y q=>?_)
  obtain⟨z,g,rfl⟩:=q
  obtain rfl:x=z:=by rw [f.2]at g;exact Option.some.inj g
  rw [w64 za za]
  refine GX ⟨zd,zd,?_⟩ zd
  obtain⟨hk,e⟩:=List.getElem?_eq_some_iff.1 f.2
  simp only
  conv=>lhs;rw [<-e]
  exact GL hk
 rw [this.eq];rfl
def ChLen(c:aj):Prop:=c.cn.length<=1000∧∀e∈c.cn,oN e.bW
theorem copied_at{c:aj}(h:ChLen c):kV c=some c:=by
 obtain⟨h1,g⟩:=h
 unfold kV
 rw [gq za,ze]
 have:Ok (cI (gY c.cn) ((0:Int),c.cn)) (fun o=>o=c.cn):=by
  refine GU (fun s=>0<=s.1∧s.1<=c.cn.length∧s.2=c.cn) (fun s=>((c.cn.length:Int)-s.1).toNat) ?_ ⟨Fa _,zc,rfl⟩
  rintro⟨s2,q⟩ ⟨i0,i1,i2⟩
  simp only at i0 i1 i2
  subst i2
  unfold gY
  dsimp only
  refine GW (fun j=>?_) (fun _=>G3 rfl)
  refine GQ (G5 za za) (fun _ _=>?_)
  refine GQ (GS za za) (fun x f=>?_)
  rw [copyEpoch_at (g x f.1),ze]
  refine GQ (G5 za za) (fun _ _=>?_)
  refine GQ (G2 za za) (fun y k=>?_)
  subst k
  rw [w64 za za]
  refine GX ⟨zd,zd,?_⟩ zd
  obtain⟨hk,e⟩:=List.getElem?_eq_some_iff.1 f.2
  simp only
  conv=>lhs;rw [<-e]
  exact GL hk
 rw [this.eq];rfl
structure om(v:ae):Prop where
 len:v.a8.length<=1000
 all:∀c∈v.a8,ChLen c
theorem gC.lens{v:ae}(h:gC v):om v:=by
 refine⟨by have:=h.len;omega,fun c hc=>?_⟩
 have f:=(h.all c hc).2
 refine⟨by have:=f.len;omega,fun e he=>?_⟩
 have g:=(f.all e he).resp
 exact⟨by have:=g.1;omega,fun x j=>by have:=(g.2 x j).2.2.1;omega⟩
def zCh:aj:=⟨⟨[],[],[],[]⟩,[]⟩
def zEp:az:=⟨0,0,⟨0,0⟩,⟨0,0,0⟩,⟨[]⟩⟩
def chan(v:ae)(s:Sid):Option aj:=v.a8.find? fun c=>decide (c.a7=s)
def epIn(l:List az)(t:Int):Option az:=l.find? fun e=>decide (e.b7<=t∧t<e.fTo)
def nu(v:ae)(s:Sid)(t:Int):Option az:=(chan v s).bind fun c=>epIn c.cn t
theorem Find_eq{v:ae}(g:om v)(s:Sid):mu v s=some (match chan v s with|none=>(zCh,false)|some c=>(c,true)):=by
 have hl:=g.len
 unfold mu
 rw [loop_find v.a8 (p:=fun c=>decide (c.a7=s)) (f:=fun c=>(c,true)) (fun i hi=>?_) ?_,ze]
 ·unfold chan
  cases v.a8.find? fun c=>decide (c.a7=s)<;>rfl
 ·unfold kd
  rw [if_neg zc]
 ·unfold kd
  rw [if_pos so,ow rfl hi,ze,Sd.eqs,copied_at (g.all _ (Dn hi)),ze,w64 za za]
  simp
theorem at_eq{c:aj}(hc:c.cn.length<=1000)(t:Int):nH c t=some (match epIn c.cn t with|none=>(zEp,false)|some e=>(e,true)):=by
 unfold nH
 rw [loop_find c.cn (p:=fun e=>decide (e.b7<=t∧t<e.fTo)) (f:=fun e=>(e,true)) (fun i hi=>?_) ?_,ze]
 ·unfold epIn
  cases c.cn.find? fun e=>decide (e.b7<=t∧t<e.fTo)<;>rfl
 ·unfold lH
  rw [if_neg zc]
 ·unfold lH
  rw [if_pos so,ow rfl hi,ze,w64 za za]
  by_cases h1:c.cn[i].b7<=t<;>by_cases g:t<c.cn[i].fTo<;>simp [h1,g]
theorem qY{v:ae}{s:Sid}{c:aj}(h:chan v s=some c):c∈v.a8∧c.a7=s:=by
 unfold chan at h
 exact⟨GJ h,by simpa using GA h⟩
theorem epIn_mem{l:List az}{t:Int}{e:az}(h:epIn l t=some e):e∈l∧e.b7<=t∧t<e.fTo:=by
 unfold epIn at h
 have:=GA h
 simp only [decide_eq_true_eq]at this
 exact⟨GJ h,this⟩
theorem At_eq{v:ae}(f:om v)(hV:cM v=some true)(s:Sid)(t:Int):kU v s t=some (match nu v s t with|none=>(zEp,6)|some e=>(e,0)):=by
 unfold kU
 rw [hV,ze,if_neg zc,Find_eq f,ze]
 unfold nu
 cases hc:chan v s with
 |none=>
  dsimp only
  rw [at_eq (by simp [zCh])]
  rfl
 |some c=>
  dsimp only
  rw [at_eq (f.all c (qY hc).1).1,ze,ze]
  cases epIn c.cn t<;>rfl
theorem loop_eq{α:Type}{body:Int->Option (dE Int (Unit⊕Bool))}(a b:List α)(hl:a.length=b.length)
  (h1:∀(i:Nat)(hi:i<a.length)(u:i<b.length),(a[i]=b[i]∧body i=some (.next ((i+1:Nat):Int)))∨(a[i]≠b[i]∧body i=some (.stop (.inr false))))
  (r:body (a.length:Nat)=some (.stop (.inl ()))):(cI body (0:Int)=some (.inl ())∧a=b)∨(cI body (0:Int)=some (.inr false)∧a≠b):=by
 have:∀k i,i+k=a.length->a.take i=b.take i->(cI body (i:Int)=some (.inl ())∧a=b)∨(cI body (i:Int)=some (.inr false)∧a≠b):=by
  intro k
  induction k with
  |zero=>
   intro i hi g
   obtain rfl:i=a.length:=by omega
   refine .inl ⟨pJ r,?_⟩
   rw [GM,hl,GM]at g
   exact g
  |succ k B=>
   intro i hi g
   have f:i<a.length:=by omega
   rcases h1 i f za with⟨e,q⟩|⟨e,q⟩
   ·rw [rJ q]
    exact B (i+1) za (by rw [qi f,qi za,g,e])
   ·exact .inr ⟨pJ q,fun j=>e (by subst j;rfl)⟩
 have:=this a.length 0 za zc
 simpa using this
theorem Equal_eq{a b:List Int}(h:a.length<=1000):la a b=some (decide (a=b)):=by
 unfold la
 by_cases hl:a.length=b.length
 ·rw [if_neg (by simp [hl])]
  have key:(cI (eQ a b) (0:Int)=some (.inl ())∧a=b)∨(cI (eQ a b) (0:Int)=some (.inr false)∧a≠b):=by
   refine loop_eq a b hl (fun i hi g=>?_) ?_
   ·unfold eQ
    rw [if_pos so,ow rfl hi,ow rfl g,ze,ze,w64 za za]
    by_cases e:a[i]=b[i]<;>simp [e]
   ·unfold eQ
    rw [if_neg zc]
  rcases key with⟨e,f⟩|⟨e,f⟩
  ·rw [e];simp [f]
  ·rw [e];simp [f]
 ·rw [if_pos (by simpa using fun e:(a.length:Int)=b.length=>hl za)]
  simp [show a≠b from fun e=>hl (by rw [e])]
theorem arr_eq(a b:bO):((a.a0==b.a0)&&((a.a1==b.a1)&&((a.a2==b.a2)&&true)))=decide (a=b):=by
 obtain⟨x,y,z⟩:=a
 obtain⟨j,k,q⟩:=b
 simp only [bO.mk.injEq]
 by_cases f:x=j<;>by_cases e2:y=k<;>by_cases g:z=q<;>simp [f,e2,g]
theorem pos_eq(a b:ag):((a.fX==b.fX)&&((a.fY==b.fY)&&((a.fZ==b.fZ)&&true)))=decide (a=b):=by
 obtain⟨x,y,z⟩:=a
 obtain⟨j,k,q⟩:=b
 simp only [ag.mk.injEq]
 by_cases f:x=j<;>by_cases e2:y=k<;>by_cases g:z=q<;>simp [f,e2,g]
theorem Stage_eq{a b:bg}(h:a.et.length<=1000):ju a b=some (decide (a=b)):=by
 unfold ju
 rw [arr_eq,arr_eq,Equal_eq h]
 obtain⟨k,n,d,t,f,s⟩:=a
 obtain⟨k',D,r,E,C,s'⟩:=b
 simp only [bg.mk.injEq]
 by_cases g:k=k'
 rotate_left
 ·simp [g]
 by_cases e2:n=D
 rotate_left
 ·simp [g,e2]
 by_cases j:d=r
 rotate_left
 ·simp [g,e2,j]
 by_cases q:t=E
 rotate_left
 ·simp [g,e2,j,q]
 by_cases u:f=C<;>by_cases B:s=s'<;>simp [g,e2,j,q,u,B]
theorem Same_eq{a b:bv}(h:oN a):nh a b=some (decide (a=b)):=by
 obtain⟨h1,j⟩:=h
 obtain⟨a⟩:=a
 obtain⟨b⟩:=b
 simp only at h1 j
 unfold nh f7
 simp only [bv.mk.injEq]
 by_cases hl:a.length=b.length
 ·rw [if_neg (by simp [hl])]
  have key:(cI (cK a b) (0:Int)=some (.inl ())∧a=b)∨(cI (cK a b) (0:Int)=some (.inr false)∧a≠b):=by
   refine loop_eq a b hl (fun i hi g=>?_) ?_
   ·unfold cK
    rw [if_pos so,ow rfl hi,ow rfl g,ze,ze,Stage_eq (j _ (Dn hi)),ze,w64 za za]
    by_cases e:a[i]=b[i]<;>simp [e]
   ·unfold cK
    rw [if_neg zc]
  rcases key with⟨e,f⟩|⟨e,f⟩
  ·rw [e];simp [f]
  ·rw [e];simp [f]
 ·rw [if_pos (by simpa using fun e:(a.length:Int)=b.length=>hl za)]
  simp [show a≠b from fun e=>hl (by rw [e])]
def epPR(e:az):ag×bv:=(e.bV,e.bW)
def Chg(a b:ae)(p:Pick):Prop:=(nu a p.a7 p.bS).map epPR≠(nu b p.a7 p.bS).map epPR
instance (a b:ae) (p:Pick):Decidable (Chg a b p):=inferInstanceAs (Decidable (_≠_))
theorem epAt_len{v:ae}(f:om v){s:Sid}{t:Int}{e:az}(h:nu v s t=some e):oN e.bW:=by
 unfold nu at h
 cases hc:chan v s with
 |none=>rw [hc]at h;cases h
 |some c=>
  rw [hc]at h
  exact(f.all c (qY hc).1).2 e (epIn_mem h).1
theorem Changed_eq{a b:ae}(f:om a)(r:om b)(k:cM a=some true)(q:cM b=some true)(p:Pick):jg a b p=some (decide (Chg a b p)):=by
 unfold jg
 rw [At_eq f k,At_eq r q,ze,ze]
 show _=some (decide ((nu a p.a7 p.bS).map epPR≠(nu b p.a7 p.bS).map epPR))
 generalize u:nu a p.a7 p.bS=B
 generalize nu b p.a7 p.bS=g
 cases B with
 |none=>cases g<;>simp
 |some x=>
  cases g with
  |none=>simp
  |some y=>
   dsimp only
   rw [if_neg zc,if_neg zc,pos_eq,Same_eq (epAt_len f u),ze]
   simp only [Option.map_some,ne_eq,Option.some.injEq,epPR,Prod.mk.injEq]
   by_cases j:x.bV=y.bV<;>by_cases e2:x.bW=y.bW<;>simp [j,e2]
end Go.Dw.Re
set_option maxRecDepth 100000
set_option maxHeartbeats 4000000
namespace Go.Dw.Re
open Go.Dw Go.Proofs
def bitsL:List Int:=[1,2,4,8,16,32,64,128]
theorem or_at:∀b∈bitsL,∀m:Nat,m<128->2*b*m+2*b<=256->orI .i64 (2*b*m) b=2*b*m+b:=by decide+kernel
theorem half_bit:∀b∈bitsL,(b=1∧sb .i64 b 1=0)∨(sb .i64 b 1∈bitsL∧2*sb .i64 b 1=b):=by decide+kernel
theorem bit_pos:∀b∈bitsL,1<=b∧b<=128:=by decide
theorem sq_lt{x n:Int}(g:0<x)(f:0<=n):x<=n.tdiv x↔x*x<=n:=by
 rw [Ft f,Int.le_ediv_iff_mul_le g]
def FI(n:Int)(s:Int×Int):Prop:=
 (s.2=0∧(0<=s.1∧s.1<=255)∧s.1*s.1<=n∧n<(s.1+1)*(s.1+1))∨
 (s.2∈bitsL∧∃m:Nat,s.1=2*s.2*m∧m<128∧s.1+2*s.2<=256∧s.1*s.1<=n∧n<(s.1+2*s.2)*(s.1+2*s.2))
theorem floor_loop(n:Int)(T:0<n)(h1:n<=65535)(s:Int×Int)(hs:FI n s):Ok (cI (jj n) s) (fun r=>(0<=r∧r<=255)∧r*r<=n∧n<(r+1)*(r+1)):=by
 refine GU (FI n) (fun s=>s.2.toNat) ?_ hs
 rintro⟨r,b⟩ h
 unfold jj
 dsimp only
 rcases h with⟨e,C,g,j⟩|⟨D,m,E,hm,C,g,j⟩
 ·simp only at e C g j
  subst e
  rw [if_neg zc]
  exact G3 ⟨C,g,j⟩
 ·simp only at D E C g j
  have L:=bit_pos b D
  have K:0<=2*b*m:=Fj za za
  have H:orI .i64 r b=r+b:=by rw [E];exact or_at b D m hm za
  have F:2*b*m<=256-2*b:=by omega
  have G:b*m<=127:=by
   rw [Ff]at F;omega
  rw [if_pos so,H]
  refine GQ (GY za) (fun q J=>?_)
  have N:0<=n.tdiv (r+b):=Fv za za
  have O:n.tdiv (r+b)<=n:=Fu _ za
  rw [w64 za za]at J
  subst J
  have f:∀(x:Int)(k:Nat),(x=2*b*m∧k=2*m)∨(x=2*b*m+b∧k=2*m+1)->x*x<=n->n<(x+b)*(x+b)->Ok (some (dE.next (x,sb .i64 b 1))) (Ok.S (FI n) (fun s=>s.2.toNat) (fun r:Int=>(0<=r∧r<=255)∧r*r<=n∧n<(r+1)*(r+1)) (r,b)):=fun x k Q g1 g2=>by
   rcases half_bit b D with⟨B,e2⟩|⟨B,e2⟩
   ·rw [e2]
    subst B
    refine GX (.inl ⟨rfl,⟨zd,zd⟩,g1,g2⟩) zd
   ·have I:=bit_pos _ B
    generalize sb .i64 b 1=b' at*
    subst e2
    refine GX (.inr ⟨B,k,?_,?_,zd,g1,g2⟩) zd
    ·simp only
     rcases Q with⟨rfl,rfl⟩|⟨rfl,rfl⟩
     ·rw [Fo]
      simp only [Ff,Fi]
      rfl
     ·rw [Fm,Fo,Fe]
      have:2*b'*((2:Nat)*(m:Int))=2*(2*b')*m:=by
       simp only [Ff,Fi];rfl
      rw [this];simp
    ·have:2*b'*m<=127:=G
     have U:(m:Int)<=b'*m:=by
      have:=Int.mul_le_mul_of_nonneg_right (show(1:Int)<=b' by omega) (show(0:Int)<=(m:Int)by omega)
      omega
     rw [Ff]at this
     omega
  refine GW (fun hle=>?_) (fun u=>?_)
  ·rw [sq_lt za za]at hle
   exact f _ (2*m+1) (.inr ⟨by rw [E],rfl⟩) hle (by rw [show r+b+b=r+2*b by omega];exact j)
  ·rw [sq_lt za za]at u
   exact f _ (2*m) (.inl ⟨E,rfl⟩) g (Int.not_le.1 u)
theorem len_lo:(DG 256).all (fun n=>decide (n=0)||match lP (n:Int)with|some L=>decide (1<=L∧L<=16)&&decide ((n:Int)<2 ^ L.toNat)|none=>false)=true:=by kernel_rfl
theorem len_hi:(DG 256).all (fun n=>decide (n=0)||match lP ((n*256:Nat):Int)with|some L=>decide (1<=L∧L<=16)&&decide (((n*256+255:Nat):Int)<2 ^ L.toNat)|none=>false)=true:=by kernel_rfl
theorem shr8{n:Int}(f:0<=n):sb .u64 n 8=n / 256:=by
 show n.fdiv (2 ^ (min (8:Int).toNat 64))=n / 256
 rw [F9 _ (by decide)]
 rfl
theorem len_same{n:Int}(f:256<=n)(h1:n<=65535):gR n=gR (n / 256*256):=by
 unfold gR nS kf lv
 rw [if_neg so,if_neg so,if_pos so,if_neg so,if_neg so,if_pos so,shr8 za,shr8 za]
 rw [show n / 256*256 / 256=n / 256 by omega]
theorem len_ok{n:Int}(j:1<=n)(h1:n<=65535):Ok (gR n) (fun L=>(1<=L∧L<=16)∧n<2 ^ L.toNat):=by
 obtain⟨n,rfl⟩:∃k:Nat,n=k:=⟨n.toNat,za⟩
 by_cases h:n<256
 ·have:=List.all_eq_true.1 len_lo n (List.mem_range.2 h)
  simp only [GO,decide_eq_true_eq]at this
  rcases this with h|h
  ·omega
  ·cases e:lP (n:Int)with
   |none=>rw [e]at h;cases h
   |some L=>
    rw [e]at h
    simp only [D6,decide_eq_true_eq]at h
    exact⟨L,bits_Len_le _ _ e,h.1,h.2⟩
 ·have hm:n / 256<256:=by omega
  have:=List.all_eq_true.1 len_hi (n / 256) (List.mem_range.2 hm)
  simp only [GO,decide_eq_true_eq]at this
  rcases this with f|f
  ·omega
  ·cases e:lP ((n / 256*256:Nat):Int)with
   |none=>rw [e]at f;cases f
   |some L=>
    rw [e]at f
    simp only [D6,decide_eq_true_eq]at f
    refine⟨L,?_,f.1,?_⟩
    ·rw [len_same za h1]
     have:((n:Int) / 256*256)=((n / 256*256:Nat):Int):=by omega
     rw [this]
     exact bits_Len_le _ _ e
    ·have:=f.2
     have g:(n:Int)<=((n / 256*256+255:Nat):Int):=by omega
     exact Int.lt_of_le_of_lt g this
theorem start_at:∀L:Nat,L<17->1<=L->∃q b,tn .i64 (FM .i64 ((L:Int)-1)) 2=some q∧ym .i64 1 q=some b∧b∈bitsL∧(2:Int) ^ L<=(0+2*b)*(0+2*b):=by
 intro L h1 g
 have:L=1∨L=2∨L=3∨L=4∨L=5∨L=6∨L=7∨L=8∨L=9∨L=10∨L=11∨L=12∨L=13∨L=14∨L=15∨L=16:=by omega
 have hs:∀(q b:Int),0<=q->shlI .i64 1 q=b->ym .i64 1 q=some b:=fun q b h e=>by unfold ym;rw [if_neg za,e]
 have f:∀(x q:Int),FM .i64 ((FM .i64 x).tdiv 2)=q->tn .i64 (FM .i64 x) 2=some q:=fun x q e=>by unfold tn;rw [if_neg za,e]
 rcases this with rfl|rfl|rfl|rfl|rfl|rfl|rfl|rfl|rfl|rfl|rfl|rfl|rfl|rfl|rfl|rfl
 ·exact⟨0,1,f _ _ (by decide),hs _ _ (by decide) (by decide),by decide,by decide⟩
 ·exact⟨0,1,f _ _ (by decide),hs _ _ (by decide) (by decide),by decide,by decide⟩
 ·exact⟨1,2,f _ _ (by decide),hs _ _ (by decide) (by decide),by decide,by decide⟩
 ·exact⟨1,2,f _ _ (by decide),hs _ _ (by decide) (by decide),by decide,by decide⟩
 ·exact⟨2,4,f _ _ (by decide),hs _ _ (by decide) (by decide),by decide,by decide⟩
 ·exact⟨2,4,f _ _ (by decide),hs _ _ (by decide) (by decide),by decide,by decide⟩
 ·exact⟨3,8,f _ _ (by decide),hs _ _ (by decide) (by decide),by decide,by decide⟩
 ·exact⟨3,8,f _ _ (by decide),hs _ _ (by decide) (by decide),by decide,by decide⟩
 ·exact⟨4,16,f _ _ (by decide),hs _ _ (by decide) (by decide),by decide,by decide⟩
 ·exact⟨4,16,f _ _ (by decide),hs _ _ (by decide) (by decide),by decide,by decide⟩
 ·exact⟨5,32,f _ _ (by decide),hs _ _ (by decide) (by decide),by decide,by decide⟩
 ·exact⟨5,32,f _ _ (by decide),hs _ _ (by decide) (by decide),by decide,by decide⟩
 ·exact⟨6,64,f _ _ (by decide),hs _ _ (by decide) (by decide),by decide,by decide⟩
 ·exact⟨6,64,f _ _ (by decide),hs _ _ (by decide) (by decide),by decide,by decide⟩
 ·exact⟨7,128,f _ _ (by decide),hs _ _ (by decide) (by decide),by decide,by decide⟩
 ·exact⟨7,128,f _ _ (by decide),hs _ _ (by decide) (by decide),by decide,by decide⟩
theorem floor_ok(n:Int)(h1:n<=65535):Ok (ko n) (fun r=>(0<=r∧r<=255)∧(0<=n->r*r<=n)∧n<(r+1)*(r+1)):=by
 unfold ko
 refine GW (fun h=>G0 ⟨⟨za,za⟩,fun D=>za,so⟩) (fun h=>?_)
 have hw:FM .u64 n=n:=IntWalk.u64_in _ za
 rw [hw]
 refine GQ (len_ok za h1) (fun L C=>?_)
 obtain⟨⟨F,G⟩,j⟩:=C
 obtain⟨L,rfl⟩:∃k:Nat,L=k:=⟨L.toNat,za⟩
 obtain⟨q,b,u,e2,g,B⟩:=start_at L za za
 rw [u,ze,e2,ze]
 have E:=bit_pos b g
 refine GQ (floor_loop n za h1 (0,b) (.inr ⟨g,0,zc,za,zd,zd,?_⟩)) (fun r f=>G0 ⟨f.1,fun _=>f.2.1,f.2.2⟩)
 simp only
 rw [E6]at j
 exact Int.lt_of_lt_of_le j B
theorem lt_of_sq{x s:Int}(hs:0<=s)(h:x*x<s*s):x<s:=by
 apply G9
 intro f
 have:s*s<=x*x:=Fh za za hs za
 omega
theorem ceil_ok(n:Int)(g:0<=n)(h1:n<=65535):Ok (na n) (fun r=>(0<=r∧r<=256)∧n<=r*r∧∀s,0<=s->n<=s*s->r<=s):=by
 unfold na
 refine GQ (floor_ok n h1) (fun x B=>?_)
 obtain⟨⟨a0,a1⟩,a2,a3⟩:=B
 have:=a2 g
 have C:0<=x*x:=Fj a0 a0
 rw [w64 (n:=x*x) za za,w64 (n:=x+1) za za]
 refine GW (fun u=>G0 ⟨⟨za,za⟩,Int.le_of_lt a3,fun s hs f=>?_⟩) (fun q=>G0 ⟨⟨za,za⟩,za,fun s hs f=>?_⟩)
 ·have:=lt_of_sq (x:=x) hs za;omega
 ·apply G9
  intro hc
  have := lt_of_sq (x := s) a0 (by
   have j:s*s<=(x-1)*(x-1):=Fh za za hs za
   have k:(x-1)*(x-1)=x*x-2*x+1:=by rw [Fs,Fl];omega
   omega)
  have j:s*s<=(x-1)*(x-1):=Fh za za hs za
  have k:(x-1)*(x-1)=x*x-2*x+1:=by rw [Fs,Fl];omega
  omega
end Go.Dw.Re
set_option maxRecDepth 100000
set_option maxHeartbeats 4000000
namespace Go.Dw.Re
open Go.Dw Go.Proofs
theorem get1{α:Type}(A:List α)(y:α)(T:List α){n:Int}(f:n=A.length):dF (A++y::T) n=some y:=by
 rw [ow (i:=A.length) f zc]
 simp
theorem set1{α:Type}(A:List α)(y z:α)(T:List α){n:Int}(f:n=A.length):tC (A++y::T) n z=some (A++z::T):=by
 rw [xu (i:=A.length) f zc]
 simp
structure pw(t:bc):Prop where
 step:1<=t.bR∧t.bR<=100
 len:2<=t.bu.length∧t.bu.length<=30
 same:t.bd.length=t.bu.length
 low:t.bu.Pairwise (· <= ·)
 high:t.bd.Pairwise (· <= ·)
 lows:∀x∈t.bu,0<=x
 highs:∀x∈t.bd,0<=x∧x<=5000
 lh:∀(i:Nat)(h:i<t.bu.length)(h':i<t.bd.length),t.bu[i]<=t.bd[i]
 far:400<=t.bR*((t.bu.length:Int)-1)
 lowb:∀x∈t.bu,x<=1500
theorem jd{t:bc}(h:pw t):ei t=some 0:=by
 obtain⟨h1,D,E,q,r,u,k,B, -⟩:=h
 refine GR ?_
 unfold ei
 refine GW (fun _=>za) (fun _=>GW (fun _=>za) (fun _=>G1 (fun h=>za) (fun _=>GW (fun _=>za) (fun _=>GW (fun _=>za) (fun _=>?_)))))
 refine GQ (P:=fun o=>o= .inl ()) (GU (fun s=>∃i:Nat,s.2.2=i∧i<=t.bu.length∧(∀(j:Nat)(g:j<t.bu.length),i<=j->s.1<=t.bu[j])∧(∀(j:Nat)(g:j<t.bd.length),i<=j->s.2.1<=t.bd[j])) (fun s=>((t.bu.length:Int)-s.2.2).toNat) ?_ ⟨0,rfl,DJ _,fun j g _=>u _ (Dn g),fun j g _=>(k _ (Dn g)).1⟩) (fun o ho=>by subst ho;exact G0 rfl)
 rintro⟨s1,s2,F⟩ ⟨i,i0,i1,i2,i3⟩
 simp only at i0 i2 i3
 subst i0
 unfold lm
 dsimp only
 refine GW (fun C=>?_) (fun _=>G3 rfl)
 have hi:i<t.bu.length:=by omega
 have f:i<t.bd.length:=by omega
 have:=i2 i hi (DA _)
 have:=i3 i f (DA _)
 have:=B i hi f
 have:=(k _ (Dn f)).2
 simp only [ow (i:=i) rfl hi,ow (i:=i) rfl f,ze]
 refine GW (fun _=>za) (fun _=>GW (fun _=>za) (fun _=>GW (fun _=>za) (fun _=>GW (fun _=>za) (fun _=>?_))))
 rw [w64 za za]
 refine GX ⟨i+1,zc,za,fun j g h=>?_,fun j g h=>?_⟩ zd
 ·exact List.pairwise_iff_getElem.1 q i j hi g za
 ·exact List.pairwise_iff_getElem.1 r i j f g za
theorem snoc_le{l:List Int}{x:Int}(h:l.Pairwise (· <= ·))(j:∀y∈l,y<=x):(l++[x]).Pairwise (· <= ·):=
 List.pairwise_append.2 ⟨h,zc,fun a f b g=>by rw [List.mem_singleton.1 g];exact j a f⟩
structure TI(d:Src)(lo hi k:Int)(L H:List Int):Prop where
 ck:0<=k∧k<=23
 ll:L.length=k.toNat
 hl:H.length=k.toNat
 clo:0<=lo∧lo<=60*k
 chi:0<=hi∧hi<=100*k+2
 cd:cr d
 pl:L.Pairwise (· <= ·)
 ph:H.Pairwise (· <= ·)
 ls:∀x∈L,0<=x∧x<=lo
 hs:∀x∈H,0<=x∧x<=hi
 lh:lo<=hi
 le:∀(i:Nat)(h:i<L.length)(h':i<H.length),L[i]<=H[i]
theorem tableV(d:Src)(I:cr d):Ok (kR d) (fun r=>pw r.1∧cr r.2):=by
 unfold kR
 refine GQ (eZ _ d I zc zc) (fun j h1=>?_)
 obtain⟨g,h1⟩:=h1
 have g:j.1=20∨j.1=25∨j.1=40∨j.1=100:=by simpa using g
 refine GQ (dS _ _ h1 za za) (fun x2 H=>?_)
 have u:∃q,FM .i64 ((400:Int).tdiv j.1)=q∧(4<=q∧j.1*q=400)∧q<=20:=by
  rcases g with e|e|e|e<;>rw [e]<;>exact⟨_,rfl,⟨by decide,by decide⟩,by decide⟩
 have hp:∃q,FM .i64 (j.1.tdiv 4)=q∧0<=q∧q<=25:=by
  rcases g with e|e|e|e<;>rw [e]<;>exact⟨_,rfl,by decide,by decide⟩
 obtain⟨q,u,⟨X,K⟩,Y⟩:=u
 obtain⟨p,hp,U,W⟩:=hp
 refine GQ (P:=fun o=>cr ⟨o.1,o.2.1⟩∧pw ⟨j.1,o.2.2.1,o.2.2.2⟩)
  (GU (fun s=>TI ⟨s.2.2.2.1,s.2.2.2.2.1⟩ s.1 s.2.1 s.2.2.1 s.2.2.2.2.2.1 s.2.2.2.2.2.2) (fun s=>(23-s.2.2.1).toNat) ?_ ⟨⟨zc,zc⟩,rfl,rfl,⟨zc,zc⟩,⟨zd,zd⟩,H.2.2,zc,zc,zc,zc,zd,zc⟩) ?_
 ·rintro⟨L,s4,N,s6,s7,D,s9⟩ C
  simp only at C
  obtain⟨i0,i1,i2,i3,i4,i5,i6,i7,i8,i9,i10,i11⟩:=C
  unfold lu
  refine GQ (GY za) (fun O g1=>?_)
  rw [u]at g1;subst g1
  refine GQ (dS _ _ i5 za za) (fun Q g2=>?_)
  rw [w64 (n:=O+Q.1) za za]
  refine GW (fun hle=>?_) (fun J=>?_)
  ·refine GQ (GP (by simp only [DW,DX];omega)) (fun y3 g3=>?_)
   refine GQ (GP (by simp only [DW,DX];omega)) (fun y4 g4=>?_)
   refine GQ (eZ _ _ g2.2.2 zc zc) (fun k g5=>?_)
   refine GQ (GY za) (fun E g6=>?_)
   rw [hp]at g6;subst g6
   refine GQ (eZ _ _ g5.2 zc zc) (fun F g7=>?_)
   have a1:0<=k.1∧k.1<=35:=by have:=g5.1;simp at this;omega
   have a2:0<=F.1∧F.1<=30:=by have:=g7.1;simp at this;omega
   rw [w64 (n:=k.1+E) za za,w64 (n:=L+(k.1+E)) za za,w64 (n:=N+1) za za,w64 (by split<;>omega) (by split<;>omega)]
   subst g3 g4
   refine GX ⟨⟨zd,zd⟩,?_,?_,⟨zd,zd⟩,⟨by simp only;split<;>omega,by simp only;split<;>omega⟩,g7.2,snoc_le i6 fun y B=>(i8 y B).2,snoc_le i7 fun y B=>(i9 y B).2,?_,?_,by simp only;split<;>omega,?_⟩ zd
   ·simp only [ES,DW,DX];omega
   ·simp only [ES,DW,DX];omega
   ·intro x f
    simp only [Eu,Ew]at f
    rcases f with f|rfl
    ·have:=i8 x f;simp only;omega
    ·simp only;omega
   ·intro x f
    simp only [Eu,Ew]at f
    rcases f with f|rfl
    ·have:=i9 x f;simp only;split<;>omega
    ·simp only;split<;>omega
   ·intro i h G
    simp only [ES,DW,DX]at h G
    by_cases hi:i<D.length
    ·rw [GB hi,GB za]
     exact i11 i hi za
    ·have T:i=D.length:=by omega
     rw [GC za,GC za]
     simp only [List.getElem_singleton];omega
  ·refine G3 ⟨g2.2.2,⟨zd,zd⟩,⟨zd,zd⟩,zd,i6,i7,fun x f=>(i8 x f).1,fun x f=>by have:=i9 x f;omega,i11,?_,fun x f=>by have:=i8 x f;omega⟩
   rw [<-K]
   exact Int.mul_le_mul_of_nonneg_left zd za
 ·intro o ho
  exact G0 ⟨ho.2,ho.1⟩
theorem reg_ok{k:Int}(hk:0<=k∧k<=4)(d:Src)(f:cr d):Ok (oP 20 k d) (fun r=>fP 20 r.1.bu):=by
 unfold oP
 rw [w64 (n:=k+1) za za]
 refine GQ (mC 20 za za d f) (fun g g0=>?_)
 refine GQ (dS _ _ g0.2 za za) (fun j g1=>?_)
 refine GQ (dS _ _ g1.2.2 za za) (fun q g2=>?_)
 refine GQ (dS _ _ g2.2.2 za za) (fun u g3=>?_)
 exact G0 g0.1
theorem assocV{k:Int}(hk:0<=k∧k<=4)(d:Src)(B:cr d):Ok (eT k d) (fun r=>((gO r.1.bn∧fP 20 r.1.bn.bu)∧pw r.1.bJ∧(1<=r.1.dw∧r.1.dw<=1000)∧(0<=r.1.bA∧r.1.bA<=1000)∧(0<=r.1.cw∧r.1.cw<=5000)∧(0<=r.1.dT∧r.1.dT<=1000)∧(2<=r.1.cq∧r.1.cq<=3))∧cr r.2):=by
 unfold eT
 refine GQ ((box_ok 20 k za za za za d B).both (reg_ok hk d B)) (fun F h1=>?_)
 refine GQ (tableV _ h1.1.2) (fun G f=>?_)
 refine GQ (eZ _ _ f.2 zc zc) (fun H g=>?_)
 refine GQ (eZ _ _ g.2 zc zc) (fun I j=>?_)
 refine GQ (eZ _ _ j.2 zc zc) (fun J q=>?_)
 refine GQ (eZ _ _ q.2 zc zc) (fun K u=>?_)
 refine GQ (dS _ _ u.2 za za) (fun E D=>?_)
 have a3:=g.1
 have a4:=j.1
 have a5:=q.1
 have C:=u.1
 simp at a3 a4 a5 C
 rw [w64 (n:=2+E.1) za za]
 exact G0 ⟨⟨⟨h1.1.1,h1.2⟩,f.1,zd,zd,zd,zd,zd⟩,D.2.2⟩
theorem third{x:Int}(h:0<=x)(f:x<=1000000):FM .i64 (x.tdiv 3)=x / 3:=by
 rw [Ft h,w64 za za]
theorem tab_third{t:bc}(h:pw t):pw ⟨t.bR,t.bu.map (· / 3),t.bd.map (· / 3)⟩:=by
 obtain⟨h1,r,u,B,C,q,D,E,F,j⟩:=h
 refine⟨h1,by simpa using r,by simpa using u,?_,?_,?_,?_,?_,by simpa using F,fun x g=>by obtain⟨y,f,rfl⟩:=List.mem_map.1 g;have:=j y f;have:=q y f;omega⟩
 ·rw [GK];exact B.imp fun h=>by omega
 ·rw [GK];exact C.imp fun h=>by omega
 ·intro x g
  obtain⟨y,f,rfl⟩:=List.mem_map.1 g
  have:=q y f;omega
 ·intro x g
  obtain⟨y,f,rfl⟩:=List.mem_map.1 g
  have:=D y f;omega
 ·intro i h k
  simp only [List.length_map]at h k
  simp only [GD]
  have:=E i h k;omega
theorem scaleV(d:Src)(G:cr d):Ok (lV d) (fun r=>(pw r.1.bF∧(0<=r.1.cf∧r.1.cf<=20)∧(1<=r.1.bZ∧r.1.bZ<=20))∧cr r.2):=by
 unfold lV
 refine GQ (tableV _ G) (fun u h1=>?_)
 refine GQ (dS _ _ h1.2 za za) (fun N E=>?_)
 refine GQ (dS _ _ E.2.2 za za) (fun K F=>?_)
 have k:=h1.1
 have hl:=k.len;have hs:=k.same
 generalize q:u.1.bu=L at*
 generalize hH:u.1.bd=H at*
 refine GQ (P:=fun o=>o=(L.map (· / 3),H.map (· / 3))) (GU (fun s:Int×List Int×List Int=>∃i:Nat,s=((i:Int),(L.take i).map (· / 3)++L.drop i,(H.take i).map (· / 3)++H.drop i)∧i<=L.length) (fun s=>((L.length:Int)-s.1).toNat) ?_ ⟨0,zc,DJ _⟩) (fun o ho=>?_)
 ·rintro s ⟨i,rfl,hi⟩
  unfold lq
  dsimp only
  rw [q]
  refine GW (fun J=>?_) (fun I=>?_)
  ·have hi:i<L.length:=by omega
   have f:i<H.length:=by omega
   have B:=k.lows (L[i]) (by rw [q];exact Dn hi)
   have C:=k.highs (H[i]) (by rw [hH];exact Dn f)
   have D:=k.lh i (by rw [q];exact hi) (by rw [hH];exact f)
   simp only [q,hH]at D
   have g:∀{M:List Int}(h:i<M.length),(M.take i).map (· / 3)++M.drop i=(M.take i).map (· / 3)++M[i]::M.drop (i+1):=fun{M}h=>by rw [Fy h]
   have hlen:∀{M:List Int},i<M.length->((M.take i).map (· / 3)).length=i:=fun{M}h=>by simp;omega
   have j:∀{M:List Int}(h:i<M.length),(M.take i).map (· / 3)++M[i] / 3::M.drop (i+1)=(M.take (i+1)).map (· / 3)++M.drop (i+1):=fun{M}h=>by
    rw [qi h,List.map_append,List.append_assoc];rfl
   rw [g hi,g f]
   have n1:∀{M:List Int}(h:i<M.length)(z:Int),inO ((M.take i).map (· / 3)++z::M.drop (i+1)) (i:Int)=some ():=fun{M}h z=>rY za (by rw [ES,hlen h];simp;omega)
   rw [n1 hi,ze,get1 _ _ _ (by rw [hlen hi]),ze]
   refine GQ (GY za) (fun O g2=>?_)
   rw [third B za]at g2
   subst g2
   rw [n1 f,ze,get1 _ _ _ (by rw [hlen f]),ze]
   refine GQ (GY za) (fun Q g4=>?_)
   rw [third C.1 za]at g4
   subst g4
   rw [ze,set1 _ _ _ _ (by rw [hlen hi]),ze,ze,set1 _ _ _ _ (by rw [hlen f]),ze,w64 za za,j hi,j f]
   exact GX ⟨i+1,zc,za⟩ zd
  ·have:i=L.length:=by omega
   subst this
   refine G3 ?_
   rw [GM,List.drop_length,EP,List.take_of_length_le za,List.drop_of_length_le za,EP]
 ·subst ho
  rw [w64 (n:=1+K.1) za za]
  have:=tab_third k
  rw [q,hH]at this
  exact G0 ⟨⟨this,zd,zd⟩,F.2.2⟩
structure gD(s:ah):Prop where
 box:gO s.ac.bn
 reg:fP 20 s.ac.bn.bu
 tab:pw s.ac.bJ
 cap:1<=s.ac.dw∧s.ac.dw<=1000
 tol:0<=s.ac.bA∧s.ac.bA<=1000
 span:0<=s.ac.cw∧s.ac.cw<=5000
 limit:0<=s.ac.dT∧s.ac.dT<=1000
 least:2<=s.ac.cq∧s.ac.cq<=3
 cor:pw s.bQ.bF
 num:0<=s.bQ.cf∧s.bQ.cf<=20
 den:1<=s.bQ.bZ∧s.bQ.bZ<=20
 tolerance:0<=s.bA∧s.bA<=1000
theorem settingsV{k:Int}(hk:0<=k∧k<=4)(d:Src)(B:cr d):Ok (dL k d) (fun r=>gD r.1∧cr r.2):=by
 unfold dL
 refine GQ (assocV hk d B) (fun C h1=>?_)
 refine GQ (scaleV _ h1.2) (fun D j=>?_)
 refine GQ (eZ _ _ j.2 zc zc) (fun E q=>?_)
 have a3:=q.1
 simp at a3
 obtain⟨⟨⟨a,u⟩,b,c,e,f,g,h⟩, -⟩:=h1
 exact G0 ⟨⟨a,u,b,c,e,f,g,h,j.1.1,j.1.2.1,j.1.2.2,zd⟩,q.2⟩
theorem k8{p:ag}(h:fP 60 p):ed p=some true:=by
 obtain⟨h1,f,g⟩:=h
 refine GR ?_
 unfold ed bY
 rw [ze]
 dsimp only
 exact GW (fun _=>za) (fun _=>GW (fun _=>za) (fun _=>GW (fun _=>za) (fun _=>GW (fun _=>za) (fun _=>GW (fun _=>za) (fun _=>GW (fun _=>za) (fun _=>G0 rfl))))))
theorem nD{b:al}(h:gO b):fP 60 b.bu∧fP 60 b.bd:=by
 obtain⟨⟨h1,f,g⟩,j,k,q⟩:=h
 exact⟨⟨za,za,za⟩,za,za,za⟩
theorem eM{b:al}(h:gO b):cp b=some true:=by
 obtain⟨hl,f⟩:=nD h
 obtain⟨-,g,j,k⟩:=h
 refine GR ?_
 unfold cp
 rw [k8 hl,ze,if_neg zc,k8 f,ze,if_neg zc]
 unfold bY
 rw [ze,ze]
 dsimp only
 exact GW (fun _=>za) (fun _=>GW (fun _=>za) (fun _=>GW (fun _=>za) (fun _=>G0 rfl)))
theorem qn{s:ah}(h:gD s):eJ s=some 0:=by
 obtain⟨h1, -,q,B,C,D,E,F,r,G,j,k⟩:=h
 have f:∀{x a b:Int},a<=x->x<=b->fj x a b=some true:=fun h g=>by
  unfold fj;rw [if_pos (by simpa using h)];simpa using g
 have u:ej s.ac []=some 0:=by
  unfold ej
  rw [eM h1,ze,if_neg zc,jd q,ze,if_neg zc,f za za,ze,if_neg zc,f za za,ze,if_neg zc,f za za,ze,if_neg zc,f za za,ze,if_neg zc,f za za,ze,if_neg zc,if_neg zc]
  have:dl [] s.ac (0:Int)=some (.stop (.inl ())):=by
   unfold dl
   rw [if_neg zc]
  rw [pJ this];rfl
 have hm:dG s.bQ=some true:=by
  unfold dG
  rw [jd r,ze,if_pos zc,if_pos so,if_pos so,if_pos so]
  simp;omega
 unfold eJ
 rw [u,ze,if_neg zc,hm,ze,if_neg zc,if_neg so,if_neg so]
theorem sq_in{x:Int}(h: -120<=x∧x<=120):0<=x*x∧x*x<=14400:=by
 constructor
 ·rcases Fb 0 x with f|f
  ·exact Fj f f
  ·exact Fk f f
 ·rcases Fb 0 x with f|f
  ·exact Fh h.2 h.2 f za
  ·rw [<-Fp]
   exact Fh (show-x<=120 by omega) (show-x<=120 by omega) za za
def ne(x l h:Int):Int:=max 0 (max (l-x) (x-h))
def fa(x l h:Int):Int:=max (h-x) (x-l)
def oJ(b:al)(p:ag):Int:=ne p.fX b.bu.fX b.bd.fX*ne p.fX b.bu.fX b.bd.fX+ne p.fY b.bu.fY b.bd.fY*ne p.fY b.bu.fY b.bd.fY+ne p.fZ b.bu.fZ b.bd.fZ*ne p.fZ b.bu.fZ b.bd.fZ
def ou(b:al)(p:ag):Int:=fa p.fX b.bu.fX b.bd.fX*fa p.fX b.bu.fX b.bd.fX+fa p.fY b.bu.fY b.bd.fY*fa p.fY b.bu.fY b.bd.fY+fa p.fZ b.bu.fZ b.bd.fZ*fa p.fZ b.bu.fZ b.bd.fZ
theorem qM{a b c:Int}(f: -60<=a∧a<=60)(g: -60<=b∧b<=60)(hc: -60<=c∧c<=60):gj a b c=some (ne a b c)∧0<=ne a b c∧ne a b c<=120:=by
 unfold gj ne
 rw [w64 (n:=a-c) za za,w64 (n:=b-a) za za]
 refine⟨congrArg some ?_,za,za⟩
 split<;>split<;>omega
theorem pE{a b c:Int}(g: -60<=a∧a<=60)(j: -60<=b∧b<=60)(hc: -60<=c∧c<=60)(f:b<=c):fJ a b c=some (fa a b c)∧0<=fa a b c∧fa a b c<=120:=by
 unfold fJ fa
 rw [w64 (n:=a-b) za za,w64 (n:=c-a) za za]
 refine⟨congrArg some ?_,za,za⟩
 split<;>omega
theorem sum_at{x y z:Int}(j:0<=x∧x<=120)(k:0<=y∧y<=120)(q:0<=z∧z<=120):
  FM .i64 ((FM .i64 ((FM .i64 ((0:Int)+(FM .i64 (x*x))))+(FM .i64 (y*y))))+(FM .i64 (z*z)))=x*x+y*y+z*z∧0<=x*x+y*y+z*z∧x*x+y*y+z*z<=43200:=by
 have h1:=sq_in (x:=x) za
 have f:=sq_in (x:=y) za
 have g:=sq_in (x:=z) za
 rw [w64 (n:=x*x) za za,w64 (n:=y*y) za za,w64 (n:=z*z) za za,w64 (n:=0+x*x) za za,w64 (n:=0+x*x+y*y) za za,w64 za za]
 exact⟨za,za,za⟩
theorem qV{b:al}(g:gO b){p:ag}(hp:fP 60 p):gc b p=some (oJ b p)∧0<=oJ b p∧oJ b p<=43200:=by
 obtain⟨hl,f⟩:=nD g
 obtain⟨j,a1⟩:=qM hp.1 hl.1 f.1
 obtain⟨e2,a2⟩:=qM hp.2.1 hl.2.1 f.2.1
 obtain⟨k,a3⟩:=qM hp.2.2 hl.2.2 f.2.2
 obtain⟨e,h⟩:=sum_at a1 a2 a3
 refine⟨?_,h⟩
 unfold gc jk bY
 rw [Ga,eM g,ze,if_neg zc,k8 hp,ze,if_neg zc]
 simp only [ze,j,e2,k,e]
 rfl
theorem Far_at{b:al}(f:gO b){p:ag}(hp:fP 60 p):ji b p=some (ou b p)∧0<=ou b p∧ou b p<=43200:=by
 obtain⟨hl,g⟩:=nD f
 obtain⟨-,q,r,u⟩:=id f
 obtain⟨j,a1⟩:=pE hp.1 hl.1 g.1 za
 obtain⟨e2,a2⟩:=pE hp.2.1 hl.2.1 g.2.1 za
 obtain⟨k,a3⟩:=pE hp.2.2 hl.2.2 g.2.2 za
 obtain⟨e,h⟩:=sum_at a1 a2 a3
 refine⟨?_,h⟩
 unfold ji iI bY
 rw [Ga,eM f,ze,if_neg zc,k8 hp,ze,if_neg zc]
 simp only [ze,j,e2,k,e]
 rfl
theorem sq_le{x y:Int}(f:0<=x)(h:x<=y):x*x<=y*y:=Fh h h f za
theorem pT{b:al}(f:gO b)(p:ag):oJ b p<=ou b p:=by
 obtain⟨-,j,q,r⟩:=f
 have k:∀x l h:Int,l<=h->ne x l h*ne x l h<=fa x l h*fa x l h:=fun x l h g=>sq_le (by unfold ne;omega) (by unfold ne fa;omega)
 have:=k p.fX b.bu.fX b.bd.fX za
 have:=k p.fY b.bu.fY b.bd.fY za
 have:=k p.fZ b.bu.fZ b.bd.fZ za
 unfold oJ ou;omega
structure Sub(r b:al):Prop where
 x:r.bu.fX<=b.bu.fX∧b.bu.fX<=b.bd.fX∧b.bd.fX<=r.bd.fX
 y:r.bu.fY<=b.bu.fY∧b.bu.fY<=b.bd.fY∧b.bd.fY<=r.bd.fY
 z:r.bu.fZ<=b.bu.fZ∧b.bu.fZ<=b.bd.fZ∧b.bd.fZ<=r.bd.fZ
theorem far_mono{r b:al}(h:Sub r b)(p:ag):ou b p<=ou r p:=by
 obtain⟨h1,j,q⟩:=h
 have k:∀x l h g f:Int,g<=l->l<=h->h<=f->fa x l h*fa x l h<=fa x g f*fa x g f:=fun x l h g f a b c=>sq_le (by unfold fa;omega) (by unfold fa;omega)
 have:=k p.fX _ _ _ _ h1.1 h1.2.1 h1.2.2
 have:=k p.fY _ _ _ _ j.1 j.2.1 j.2.2
 have:=k p.fZ _ _ _ _ q.1 q.2.1 q.2.2
 unfold ou;omega
theorem half_at:∀x:Nat,x<600->FM .i64 (sb .u64 (FM .u64 (FM .i64 (x:Int))) 1)=((x / 2:Nat):Int):=by decide+kernel
theorem search_ok{t:bc}(q:pw t)(d:Int)(F:d<=t.bR*((t.bu.length:Int)-1)):Ok (gm (t.bd.length:Int) t d) (fun r=>(0<=r∧r<t.bd.length)∧d<=r*t.bR):=by
 have hl:=q.len;have hs:=q.same;have D:=q.step
 unfold gm
 rw [Ga]
 refine GU (fun s=>∃i j:Nat,s=((i:Int),(j:Int))∧i<t.bd.length∧i<=j∧j<=t.bd.length∧(j<t.bd.length->d<=(j:Int)*t.bR)) (fun s=>(s.2-s.1).toNat) ?_ ⟨0,t.bd.length,rfl,za,za,DA _,fun h=>za⟩
 rintro s ⟨i,j,rfl,i0,i1,i2,i3⟩
 unfold iD
 dsimp only
 refine GW (fun g=>?_) (fun B=>G3 ⟨⟨za,za⟩,?_⟩)
 rotate_left
 ·obtain rfl:i=j:=by omega
  exact i3 i0
 have u:=half_at (i+j) za
 rw [Fm]at u
 have C:(i+j) / 2<j:=by omega
 have f:i<=(i+j) / 2:=by omega
 rw [u]
 generalize (i+j) / 2=k at*
 unfold iE
 have E:0<=(k:Int)*t.bR∧(k:Int)*t.bR<=30*100:=⟨Fj za za,Fh za za za za⟩
 rw [w64 (n:=(k:Int)*t.bR) za za,ze]
 refine Ok.iteND (fun g=>?_) (fun hle=>GX ⟨i,k,rfl,i0,f,za,fun _=>hle⟩ zd)
 rw [w64 za za]
 refine GX ⟨k+1,j,zc,?_,za,i2,i3⟩ zd
 have h1:(k:Int)*t.bR<t.bR*((t.bu.length:Int)-1):=by omega
 rw [Fg]at h1
 have:=Int.lt_of_mul_lt_mul_left h1 za
 omega
theorem asc_le{l:List Int}(h:l.Pairwise (· <= ·)){i j:Nat}(f:i<=j)(g:j<l.length):l[i]<=l[j]:=by
 rcases Nat.lt_or_eq_of_le f with h1|rfl
 ·exact List.pairwise_iff_getElem.1 h i j _ _ h1
 ·exact Fa _
def nw(t:bc):Int:=t.bR*((t.bu.length:Int)-1)
def Reach(t:bc)(f:Int):Prop:=f<=nw t*nw t
theorem oS{t:bc}(g:pw t)(n f:Int)(K:0<=n)(O:n<=f)(hf:f<=65535):Ok (dh t n f) (fun r=>(r.2.2=0↔Reach t f)∧(r.2.2=0->0<=r.1∧r.1<=r.2.1∧r.2.1<=5000)):=by
 have hl:=g.len;have hs:=g.same;have U:=g.step
 unfold dh
 rw [jd g,ze,if_neg zc]
 refine GW (fun _=>za) (fun _=>GW (fun _=>za) (fun h1=>?_))
 refine GQ (ceil_ok f za hf) (fun c hc=>?_)
 obtain⟨B,C,D⟩:=hc
 have N:0<=t.bR*((t.bu.length:Int)-1)∧t.bR*((t.bu.length:Int)-1)<=100*30:=⟨Fj za za,Fh za za za za⟩
 have G:Reach t f↔c<=nw t:=by
  unfold Reach
  constructor
  ·intro h;exact D _ N.1 h
  ·intro h;exact Fc C (sq_le B.1 h)
 unfold nL
 rw [ze,w64 (n:=(t.bu.length:Int)-1) za za,w64 za za]
 refine GW (fun L=>G0 ⟨⟨fun h=>by simp at h,fun h=>?_⟩,fun h=>by simp at h⟩) (fun L=>?_)
 ·have:=G.1 h;unfold nw at this;omega
 refine GQ (search_ok g c za) (fun u hu=>?_)
 refine GQ (floor_ok n za) (fun x W=>?_)
 obtain⟨⟨F,x1⟩,J, -⟩:=W
 have J:=J K
 have X:x<=c:=by
  apply G9
  intro h
  have:(c+1)*(c+1)<=x*x:=Fh za za za za
  have h4:(c+1)*(c+1)=c*c+2*c+1:=by rw [F7,Fe];omega
  omega
 refine GQ (GY za) (fun q I=>?_)
 have E:0<=x.tdiv t.bR:=Fv F za
 have Q:x.tdiv t.bR<=(t.bu.length:Int)-1:=by
  rw [Ft F]
  exact F8 za (by rw [Fg];omega)
 have T:x.tdiv t.bR<=u:=by
  rw [Ft F]
  exact F8 za za
 rw [w64 za za]at I
 subst I
 refine GQ (GS E za) (fun a H=>?_)
 refine GQ (GS hu.1.1 hu.1.2) (fun b k=>G0 ⟨⟨fun _=>G.2 (by unfold nw;omega),fun _=>rfl⟩,fun _=>⟨g.lows _ H.1,?_,(g.highs _ k.1).2⟩⟩)
 obtain⟨i1,Y⟩:=List.getElem?_eq_some_iff.1 H.2
 obtain⟨i2,e2⟩:=List.getElem?_eq_some_iff.1 k.2
 have k1:=asc_le g.low (i:=(x.tdiv t.bR).toNat) (j:=u.toNat) za za
 have k2:=g.lh u.toNat za i2
 simp only
 omega
def fN(z:bz):Prop:= -5000<=z.b7∧z.b7<=z.fTo∧z.fTo<=18014398509481984
structure PhV(a:aw):Prop where
 pos:fP 60 a.bw
 early:0<=a.bt
 late:a.bt<=a.cg
 most:a.cg<=18014398509481984
 weight:a.cz=1
theorem qq{t:bc}(q:pw t){b:al}(j:gO b){a:aw}(f:PhV a):Ok (eD t b a) (fun r=>(r.2=0↔Reach t (ou b a.bw))∧(r.2=0->fN r.1)):=by
 obtain⟨f,h1,C,D,u⟩:=f
 have E:gg a=some true:=by
  refine GR ?_
  unfold gg
  rw [k8 f,ze,if_pos rfl,if_pos (by simpa using h1),if_pos (by simpa using C),if_pos (by simpa using D),if_pos (by simp [u])]
  exact G0 (by simp [u])
 unfold eD
 rw [jd q,ze,if_neg zc,eM j,ze,if_neg zc,E,ze,if_neg zc]
 obtain⟨B,F,n1⟩:=qV j f
 obtain⟨e2,f0,f1⟩:=Far_at j f
 refine GQ (P:=fun r=>(r.2.2=0↔Reach t (ou b a.bw))∧(r.2.2=0->0<=r.1∧r.1<=r.2.1∧r.2.1<=5000)) ?_ (fun r k=>?_)
 ·unfold mh m9
  rw [jd q,ze,if_neg zc,eM j,ze,if_neg zc,k8 f,ze,if_neg zc,B,e2]
  simp only [ze]
  exact GQ (oS q _ _ F (pT j _) za) (fun r k=>G0 k)
 ·refine G1 (fun h=>G0 ⟨⟨fun g=>(h g).elim,fun g=>(h (k.1.2 g)).elim⟩,fun g=>(h g).elim⟩) (fun h=>G0 ⟨⟨fun _=>k.1.1 h,fun _=>rfl⟩,fun _=>?_⟩)
  have:=k.2 h
  unfold fN
  simp only
  rw [w64 za za,w64 za za]
  exact⟨za,za,za⟩
end Go.Dw.Re
set_option maxRecDepth 100000
set_option maxHeartbeats 4000000
namespace Go.Dw.Re
open Go.Dw Go.Proofs
theorem Sub.ok{r b:al}(f:gO r)(hp:fP 20 r.bu)(h:Sub r b):gO b:=by
 obtain⟨-,h1,g,j⟩:=f
 obtain⟨k,q,u⟩:=hp
 obtain⟨x,y,z⟩:=h
 exact⟨⟨za,za,za⟩,za,za,za⟩
theorem Sub.refl{r:al}(f:gO r):Sub r r:=by
 obtain⟨-,h1,g,j⟩:=f
 exact⟨za,za,za⟩
theorem Sub.low{r b:al}(h:Sub r b):Sub r ⟨b.bu,b.bu⟩:=by
 obtain⟨x,y,z⟩:=h
 exact⟨⟨zd,zd,zd⟩,⟨zd,zd,zd⟩,⟨zd,zd,zd⟩⟩
theorem Sub.high{r b:al}(h:Sub r b):Sub r ⟨b.bd,b.bd⟩:=by
 obtain⟨x,y,z⟩:=h
 exact⟨⟨zd,zd,zd⟩,⟨zd,zd,zd⟩,⟨zd,zd,zd⟩⟩
theorem within_at{r b:al}(f:gO r)(hp:fP 20 r.bu)(h:Sub r b):lG b r=some true:=by
 have g:=h.ok f hp
 obtain⟨pl,ph⟩:=nD g
 have k:∀p,Sub r ⟨p,p⟩->fP 60 p->gV r p=some true:=fun p⟨x,y,z⟩j=>by
  unfold gV
  rw [eM f,ze,if_pos rfl,k8 j,ze,if_pos rfl,(qV f j).1,ze]
  simp only at x y z
  have q:ne p.fX r.bu.fX r.bd.fX=0:=by unfold ne;omega
  have e2:ne p.fY r.bu.fY r.bd.fY=0:=by unfold ne;omega
  have u:ne p.fZ r.bu.fZ r.bd.fZ=0:=by unfold ne;omega
  unfold oJ
  rw [q,e2,u];rfl
 unfold lG
 rw [eM g,ze,if_pos rfl,k _ h.low pl,ze,if_pos rfl,k _ h.high ph];rfl
theorem nv{a b:Int}(f: -60<=a∧a<=b∧b<=60):ct a b=some (a+(b-a) / 2):=by
 unfold ct
 rw [w64 (n:=b-a) za za]
 have:tn .i64 (b-a) 2=some ((b-a) / 2):=by
  unfold tn
  rw [if_neg za,Ft za,w64 za za]
 rw [this,ze,w64 za za]
theorem center_ok{r b:al}(g:gO r)(hp:fP 20 r.bu)(h:Sub r b):Ok (gL b) (fun p=>Sub r ⟨p,p⟩):=by
 have f:=h.ok g hp
 obtain⟨⟨q,u,B⟩,h1,j,k⟩:=nD f
 obtain⟨x,y,z⟩:=h
 unfold gL bY b9
 rw [eM f,ze,if_neg zc,ze,ze]
 simp only
 rw [nv za,ze,nv za,ze,nv za,ze]
 exact G0 ⟨zd,zd,zd⟩
def pts(b:al):Int:=(b.bd.fX-b.bu.fX+1)*(b.bd.fY-b.bu.fY+1)*(b.bd.fZ-b.bu.fZ+1)
theorem mul_in{x y m n:Int}(h1:1<=x∧x<=m)(f:1<=y∧y<=n):1<=x*y∧x*y<=m*n:=
 ⟨Fc (by omega:(1:Int)<=1*1) (Fh h1.1 f.1 za za),Fh h1.2 f.2 za za⟩
theorem pts_in{b:al}(h:gO b):1<=pts b∧pts b<=125:=by
 obtain⟨-,h1,f,g⟩:=h
 have k:=mul_in (mul_in (x:=b.bd.fX-b.bu.fX+1) (y:=b.bd.fY-b.bu.fY+1) (m:=5) (n:=5) za za) (y:=b.bd.fZ-b.bu.fZ+1) (n:=5) za
 unfold pts
 omega
theorem points_at{b:al}(h:gO b):lF b=some (pts b):=by
 have hp:=pts_in h
 obtain⟨hl,f⟩:=nD h
 obtain⟨r,u,B⟩:=hl
 obtain⟨h1,j,k⟩:=f
 have g:=eM h
 obtain⟨-,s1,s2,C⟩:=h
 have q:=mul_in (x:=b.bd.fX-b.bu.fX+1) (y:=b.bd.fY-b.bu.fY+1) (m:=5) (n:=5) za za
 unfold lF bY
 unfold pts at hp⊢
 rw [g,ze,if_neg zc,ze,ze]
 simp only
 rw [w64 (n := b.bd.fX - b.bu.fX) za za, w64 (n := b.bd.fX - b.bu.fX + 1) za za, w64 (n := 1 * (b.bd.fX - b.bu.fX + 1)) za za, Int.one_mul,
  w64 (n:=b.bd.fY-b.bu.fY) za za,w64 (n:=b.bd.fY-b.bu.fY+1) za za,w64 (n:=(b.bd.fX-b.bu.fX+1)*(b.bd.fY-b.bu.fY+1)) za za,
  w64 (n:=b.bd.fZ-b.bu.fZ) za za,w64 (n:=b.bd.fZ-b.bu.fZ+1) za za,w64 za za]
theorem one_side{x:Int}(h:1<=x){y z:Int}(j:1<=y)(k:1<=z)(g:2<=x*y*z):2<=x∨2<=y∨2<=z:=by
 by_cases h1:x=1
 ·by_cases f:y=1
  ·subst h1 f;right;right;omega
  ·right;left;omega
 ·left;omega
theorem split_ok{r b:al}(G:gO r)(hp:fP 20 r.bu)(h:Sub r b):Ok (fr b) (fun s=>s.2.2=true->Sub r s.1∧Sub r s.2.1∧pts s.1+pts s.2.1=pts b):=by
 have k:=h.ok G hp
 obtain⟨⟨I,J,K⟩,h1,j,H⟩:=nD k
 have q:=points_at k
 obtain⟨-,s1,s2,L⟩:=id k
 obtain⟨x,y,z⟩:=h
 unfold fr bY b9
 rw [q,ze]
 refine GW (fun _=>G0 zc) (fun F=>?_)
 have B:=one_side (x:=b.bd.fX-b.bu.fX+1) (y:=b.bd.fY-b.bu.fY+1) (z:=b.bd.fZ-b.bu.fZ+1) za za za (by unfold pts at F;omega)
 simp only [ze]
 rw [w64 (n:=b.bd.fX-b.bu.fX) za za,w64 (n:=b.bd.fY-b.bu.fY) za za,w64 (n:=b.bd.fZ-b.bu.fZ) za za]
 have D:2<=b.bd.fX-b.bu.fX+1->Ok ((ct b.bu.fX b.bd.fX).bind fun g=>some (al.mk b.bu (ag.mk g b.bd.fY b.bd.fZ),al.mk (ag.mk (FM .i64 (g+(1:Int))) b.bu.fY b.bu.fZ) b.bd,true)) (fun s:al×al×Bool=>s.2.2=true->Sub r s.1∧Sub r s.2.1∧pts s.1+pts s.2.1=pts b):=fun j=>by
  rw [nv za,ze,w64 za za]
  refine G0 fun _=>⟨⟨zd,zd,zd⟩,⟨zd,zd,zd⟩,?_⟩
  unfold pts
  simp only
  rw [<-F7, <-F7]
  congr 2;omega
 have E:2<=b.bd.fY-b.bu.fY+1->Ok ((ct b.bu.fY b.bd.fY).bind fun f=>some (al.mk b.bu (ag.mk b.bd.fX f b.bd.fZ),al.mk (ag.mk b.bu.fX (FM .i64 (f+(1:Int))) b.bu.fZ) b.bd,true)) (fun s:al×al×Bool=>s.2.2=true->Sub r s.1∧Sub r s.2.1∧pts s.1+pts s.2.1=pts b):=fun j=>by
  rw [nv za,ze,w64 za za]
  refine G0 fun _=>⟨⟨zd,zd,zd⟩,⟨zd,zd,zd⟩,?_⟩
  unfold pts
  simp only
  rw [<-F7, <-Fe]
  congr 2;omega
 have u:2<=b.bd.fZ-b.bu.fZ+1->Ok ((ct b.bu.fZ b.bd.fZ).bind fun C=>some (al.mk b.bu (ag.mk b.bd.fX b.bd.fY C),al.mk (ag.mk b.bu.fX b.bu.fY (FM .i64 (C+(1:Int)))) b.bd,true)) (fun s:al×al×Bool=>s.2.2=true->Sub r s.1∧Sub r s.2.1∧pts s.1+pts s.2.1=pts b):=fun j=>by
  rw [nv za,ze,w64 za za]
  refine G0 fun _=>⟨⟨zd,zd,zd⟩,⟨zd,zd,zd⟩,?_⟩
  unfold pts
  simp only
  rw [<-Fe]
  congr 1;omega
 exact GW (fun _=>GW (fun _=>u za) (fun _=>E za)) (fun _=>GW (fun _=>u za) (fun _=>D za))
theorem hull_ok{r a b:al}(j:gO r)(hp:fP 20 r.bu)(f:Sub r a)(g:Sub r b):Ok (nf a b) (Sub r):=by
 unfold nf bY b9
 rw [eM (f.ok j hp),ze,if_neg zc,eM (g.ok j hp),ze,if_neg zc]
 simp only [ze]
 obtain⟨a1,a2,a3⟩:=f
 obtain⟨k,q,u⟩:=g
 exact G0 ⟨by simp only;split<;>split<;>omega,by simp only;split<;>split<;>omega,by simp only;split<;>split<;>omega⟩
end Go.Dw.Re
set_option maxRecDepth 100000
set_option maxHeartbeats 4000000
namespace Go.Dw.Re
open Go.Dw Go.Proofs
theorem shr30{n:Int}(f:0<=n):sb .i64 n 30=n / 1073741824:=by
 show n.fdiv (2 ^ (min (30:Int).toNat 64))=n / 1073741824
 rw [F9 _ (by decide)]
 rfl
theorem from_ok{n:Int}(h:n<=9223372036854775808):Ok (rk n) (fun r=>r.1.length<=3):=by
 unfold rk
 refine GW (fun _=>G0 zc) (fun k=>?_)
 refine GQ (P:=fun o:List Int=>o.length<=3) (GU (fun s:Int×List Int=>0<=s.1∧s.2.length<=3∧s.1<1073741824 ^ (3-s.2.length)) (fun s=>s.1.toNat) ?_ ⟨zd,zc,by simp only [DX];omega⟩) (fun o ho=>G0 ho)
 rintro⟨s2,f⟩ ⟨i0,i1,i2⟩
 simp only at i0 i1 i2
 unfold pO
 refine GW (fun g=>?_) (fun _=>G3 i1)
 refine GQ (GZ za) (fun x _=>?_)
 refine GQ (GP (by simp only [DW,DX];omega)) (fun y j=>?_)
 subst j
 rw [shr30 i0]
 have q:f.length≠3:=fun e=>by rw [e]at i2;simp at i2;omega
 refine GX ⟨zd,by simp only [ES,DW,DX];omega,?_⟩ zd
 simp only [ES,DW,DX]
 rw [show 3-f.length=(3-(f.length+(0+1)))+1 by omega,Int.pow_succ]at i2
 exact Int.ediv_lt_of_lt_mul za i2
theorem mY(l:List Int)(hl:l.length<=1000):Ok (lZ l) (fun r=>r=true->l.length<=64):=by
 have hc:Ok (di l) (fun _=>True):=by
  unfold di gx
  refine GQ (P:=fun _=>True) ?_ (fun o _=>G0 trivial)
  refine GQ (P:=fun _=>True) (G6 l.length za (fun _=>True) trivial (fun i j h1 _=>?_)) (fun o _=>by rcases o with _|_<;>exact G0 trivial)
  unfold fG nY
  refine GW (fun g=>?_) (fun _=>G3 trivial)
  refine GQ (GS za za) (fun a k=>?_)
  refine GQ (P:=fun _=>True) (GW (fun _=>G0 trivial) (fun _=>G0 trivial)) (fun b _=>?_)
  rw [w64 za za]
  exact G8 (fun _=>G3 trivial) (fun _=>GX ⟨⟨za,za⟩,trivial⟩ za)
 unfold lZ
 refine GW (fun _=>G0 zc) (fun hle=>GW (fun f=>?_) (fun _=>?_))
 ·rw [w64 za za]
  refine GQ (GS za za) (fun a _=>G4 (fun _=>G0 zc) (fun _=>?_))
  exact GQ hc (fun _ _=>G0 fun _=>za)
 ·exact GQ hc (fun _ _=>G0 fun _=>za)
theorem digit_ok{l:List Int}{i:Int}(h:0<=i):Ok (nQ l i) (fun _=>True):=by
 unfold nQ
 refine GW (fun _=>G0 trivial) (fun f=>?_)
 exact GQ (GS h za) (fun _ _=>G0 trivial)
theorem trim_ok{l:List Int}(hl:l.length<=1000):Ok (pQ l) (fun r=>r.length<=l.length):=by
 unfold pQ
 refine GQ (P:=fun o:List Int=>o.length<=l.length) (GU (fun s:List Int=>s.length<=l.length) (fun s=>s.length) ?_ (DA _)) (fun o ho=>G0 ho)
 intro s i0
 unfold pR
 refine GW (fun f=>?_) (fun _=>G3 i0)
 rw [w64 za za]
 refine GQ (GS za za) (fun a _=>G4 (fun _=>?_) (fun _=>G3 i0))
 refine GQ (Ok.cut za za za) (fun y g=>?_)
 subst g
 have:((s.drop (0:Int).toNat).take (((s.length:Int)-1).toNat-(0:Int).toNat)).length=s.length-1:=by
  simp only [EF,EE];omega
 exact GX (by rw [this];omega) (by rw [this];omega)
theorem oY{l:List Int}(hl:l.length<=1000):Ok (kz l) (fun r=>r.1.length<=64):=by
 unfold kz
 refine GQ (trim_ok hl) (fun x f=>GW (fun _=>G0 zc) (fun _=>G0 zd))
theorem pM{a b:List Int}(K:a.length<=64)(L:b.length<=64):Ok (k7 a b) (fun r=>r.length<=128):=by
 unfold k7
 rw [w64 za za]
 refine GQ (Ok.mk za za za) (fun x D=>?_)
 have k:x.length=a.length+b.length:=by subst D;simp;omega
 refine GQ (P:=fun o:List Int=>o.length=a.length+b.length) (GU (fun s:Int×List Int=>(0<=s.1∧s.1<=a.length)∧s.2.length=a.length+b.length) (fun s=>((a.length:Int)-s.1).toNat) ?_ ⟨⟨zc,zc⟩,k⟩) (fun o ho=>?_)
 ·rintro⟨s2,O⟩ ⟨⟨i0,i1⟩,i2⟩
  simp only at i0 i1 i2
  unfold mX
  refine GW (fun j=>?_) (fun _=>G3 i2)
  refine GQ (GS za za) (fun y _=>?_)
  refine GQ (P:=fun o:Int×List Int=>o.1=s2∧o.2.length=a.length+b.length) (GU (fun s:Int×Int×List Int=>(0<=s.2.1∧s.2.1<=(b.length:Int)+1)∧s.2.2.length=a.length+b.length) (fun s=>((b.length:Int)+1-s.2.1).toNat) ?_ ⟨⟨zc,zd⟩,i2⟩) (fun o ho=>?_)
  ·rintro⟨Q,B,F⟩ ⟨⟨u,E⟩,f⟩
   simp only at u E f
   unfold mW
   dsimp only
   rw [w64 (n:=(b.length:Int)+1) za za]
   refine GW (fun j=>?_) (fun _=>G3 ⟨rfl,f⟩)
   rw [w64 (n:=s2+B) za za,w64 (n:=B+1) za za]
   refine GW (fun q=>?_) (fun _=>GX ⟨⟨zd,zd⟩,f⟩ zd)
   refine GQ (G5 za za) (fun _ _=>GQ (GS za za) (fun G _=>?_))
   refine GQ (digit_ok u) (fun H _=>?_)
   refine GQ (GZ za) (fun I _=>?_)
   refine GQ (G5 za za) (fun _ _=>GQ (G2 za za) (fun J g=>?_))
   subst g
   exact GX ⟨⟨zd,zd⟩,by simpa using f⟩ zd
  ·obtain⟨h1,C⟩:=ho
   rw [h1,w64 za za]
   exact GX ⟨⟨zd,zd⟩,C⟩ zd
 ·refine GQ (trim_ok za) (fun r N=>G0 za)
theorem mul_ok{a b:List Int}(f:a.length<=64)(g:b.length<=64):Ok (nat_Mul a b) (fun r=>r.1.length<=64):=by
 unfold nat_Mul pP
 refine GQ (P:=fun _=>True) (GQ (mY a za) (fun x _=>G8 (fun _=>GQ (mY b za) (fun _ _=>G0 trivial)) (fun _=>G0 trivial))) (fun x _=>?_)
 refine G7 (fun _=>G0 zc) (fun _=>?_)
 exact GQ (pM f g) (fun y k=>GQ (oY za) (fun z j=>G0 j))
theorem add_ok'{a b:List Int}(B:a.length<=64)(C:b.length<=64):Ok (nat_Add a b) (fun r=>r.1.length<=64):=by
 unfold nat_Add pP
 refine GQ (P:=fun _=>True) (GQ (mY a za) (fun x _=>G8 (fun _=>GQ (mY b za) (fun _ _=>G0 trivial)) (fun _=>G0 trivial))) (fun x _=>?_)
 refine G7 (fun _=>G0 zc) (fun _=>?_)
 have hm:∃m:Int,(if(b.length:Int)>(a.length:Int)then(b.length:Int)else(a.length:Int))=m∧0<=m∧m<=64:=⟨_,rfl,by split<;>omega,by split<;>omega⟩
 obtain⟨m,em,m0,m1⟩:=hm
 refine GQ (P:=fun o:List Int=>o.length<=65) (GU (fun s:Int×Int×List Int=>(0<=s.2.1∧s.2.1<=m+1)∧s.2.2.length=s.2.1.toNat) (fun s=>(m+1-s.2.1).toNat) ?_ ⟨⟨zc,zd⟩,rfl⟩) (fun o ho=>GQ (oY za) (fun z j=>G0 j))
 rintro⟨D,k,E⟩ ⟨⟨i0,i1⟩,i2⟩
 simp only at i0 i1 i2
 unfold pN
 dsimp only
 rw [em,w64 (n:=m+1) za za]
 refine GW (fun f=>?_) (fun _=>G3 za)
 refine GQ (digit_ok i0) (fun F _=>GQ (digit_ok i0) (fun q _=>?_))
 refine GQ (GZ za) (fun u _=>?_)
 refine GQ (GP (by simp only [DW,DX];omega)) (fun y g=>?_)
 subst g
 rw [w64 (n:=k+1) za za]
 exact GX ⟨⟨zd,zd⟩,by simp only [ES,DW,DX];omega⟩ zd
def I64(a:Int):Prop:= -9223372036854775808<=a∧a<=9223372036854775807
theorem qd(a:Int):I64 (FM .i64 a):=by
 unfold I64;rw [IntKind.wrap_i64];omega
theorem nR{a:Int}(h:I64 a):Ok (ef a) (fun r=>r.length<=64):=by
 unfold ef
 have f:=qd (0-a)
 unfold I64 at h f
 refine GQ (from_ok (by split<;>omega)) (fun x j=>?_)
 exact GQ (mul_ok za za) (fun y g=>G0 g)
theorem squared_ok{a:bO}{n d:Int}:Ok (iX a n d) (fun r=>r.length<=64):=by
 unfold iX
 refine GQ (nR (qd _)) (fun x f=>GQ (nR (qd _)) (fun y g=>?_))
 exact GQ (add_ok' f g) (fun z j=>G0 j)
theorem sum_okR(l:List Int)(hl:l.length<=1000):Ok (fW l) I64:=by
 unfold fW
 refine GQ (P:=I64) (GU (fun s:Int×Int=>(0<=s.2∧s.2<=l.length)∧I64 s.1) (fun s=>((l.length:Int)-s.2).toNat) ?_ ⟨⟨zc,zc⟩,by unfold I64;simp⟩) (fun o ho=>G0 ho)
 rintro⟨s1,s2⟩ ⟨⟨i0,i1⟩,i2⟩
 simp only at i0 i1 i2
 unfold ny
 refine GW (fun f=>?_) (fun _=>G3 i2)
 refine GQ (GS za za) (fun a _=>?_)
 rw [w64 (n:=s2+1) za za]
 exact GX ⟨⟨zd,zd⟩,qd _⟩ zd
structure StN(x:bg):Prop where
 num:I64 x.cf.a0
 den:I64 x.bZ.a0
 taps:x.et.length<=3
 shift:0<=x.eW
theorem valid_N{x:bg}(h:nC x):StN x:=by
 obtain⟨-, -,h1,f,g,j⟩:=h
 exact⟨by unfold I64;omega,by unfold I64;omega,h1,f⟩
theorem gain_okN{x:bg}(h:StN x)(n d:Int):Ok (ni x n d) (fun r=>r.1.cf.length<=64∧r.1.bZ.length<=64):=by
 unfold ni
 refine G4 (fun _=>GQ (nR h.num) (fun a f=>GQ (nR h.den) (fun b g=>G0 ⟨f,g⟩))) (fun _=>?_)
 refine G4 (fun _=>GQ squared_ok (fun a f=>GQ squared_ok (fun b g=>G0 ⟨f,g⟩))) (fun _=>?_)
 refine GQ (sum_okR _ (by have:=h.taps;omega)) (fun a f=>GQ (nR f) (fun b g=>?_))
 have hs:=h.shift
 have e:ym .i64 1 x.eW=some (shlI .i64 1 x.eW):=by unfold ym;rw [if_neg za]
 rw [e,ze]
 exact GQ (nR (qd _)) (fun c hc=>G0 ⟨g,hc⟩)
theorem times_ok{a b:bC}(h1:a.cf.length<=64)(g:a.bZ.length<=64)(j:b.cf.length<=64)(k:b.bZ.length<=64):Ok (ql a b) (fun r=>r.1.cf.length<=64∧r.1.bZ.length<=64):=by
 have q:∀f:bC,f.cf.length<=64->f.bZ.length<=64->Ok (ie f) (fun _=>True):=fun f a b=>by
  unfold ie
  exact GQ (mY _ za) (fun _ _=>G8 (fun _=>GQ (mY _ za) (fun _ _=>G8 (fun _=>G0 trivial) (fun _=>G0 trivial))) (fun _=>G0 trivial))
 unfold ql
 refine GQ (q a h1 g) (fun _ _=>G7 (fun _=>G0 zc) (fun _=>GQ (q b j k) (fun _ _=>G7 (fun _=>G0 zc) (fun _=>?_))))
 refine GQ (pM h1 j) (fun x B=>GQ (oY za) (fun y u=>?_))
 refine GQ (pM g k) (fun z C=>GQ (oY za) (fun w hw=>?_))
 exact G1 (fun _=>G0 zc) (fun _=>G1 (fun _=>G0 zc) (fun _=>G0 ⟨u,hw⟩))
theorem Gain_ok{r:bv}(h:oO r)(n d:Int):Ok (ng r n d) (fun x=>x.1.cf.length<=64∧x.1.bZ.length<=64):=by
 have f:∀a b c:Int,Ok (cQ a b c) (fun _=>True):=fun a b c=>by
  unfold cQ;exact GW (fun _=>G0 trivial) (fun _=>G0 trivial)
 have hl:=h.1
 unfold ng
 rw [resp_valid h,ze,if_neg zc]
 refine GQ (f _ _ _) (fun _ _=>G7 (fun _=>G0 zc) (fun _=>GQ (f _ _ _) (fun _ _=>G7 (fun _=>G0 zc) (fun _=>?_))))
 refine GQ (P:=fun o=>match o with| .inl y=>y.1.length<=64∧y.2.length<=64| .inr y=>y.1.cf.length<=64∧y.1.bZ.length<=64) (GU (fun s:Int×List Int×List Int=>(0<=s.1∧s.1<=r.cS.length)∧s.2.1.length<=64∧s.2.2.length<=64) (fun s=>((r.cS.length:Int)-s.1).toNat) ?_ ⟨⟨zc,zc⟩,zc,zc⟩) (fun o ho=>by rcases o with y|y<;>exact G0 ho)
 rintro⟨s1,s2,u⟩ ⟨⟨i0,i1⟩,i2,i3⟩
 simp only at i0 i1 i2 i3
 unfold mG
 refine GW (fun j=>?_) (fun _=>G3 ⟨i2,i3⟩)
 refine GQ (GS za za) (fun x k=>?_)
 refine GQ (gain_okN (valid_N (h.2 x k.1)) n d) (fun y g=>G7 (fun _=>G3 zc) (fun _=>?_))
 refine GQ (times_ok i2 i3 g.1 g.2) (fun z q=>G1 (fun _=>G3 zc) (fun _=>?_))
 rw [w64 za za]
 exact GX ⟨⟨zd,zd⟩,q⟩ zd
theorem byte8(s:List UInt8)(h:s.all (fun b=>decide (b.toNat<=8))=true){n:Int}(f:0<=n)(h1:n<s.length):Ok (wJ s n) (fun c=>0<=c∧c<=8):=by
 refine(Ok.byte f h1).mono fun c⟨b,g,hc⟩=>?_
 have:=List.all_eq_true.1 h b (List.mem_of_getElem? g)
 simp only [decide_eq_true_eq]at this
 omega
theorem shr16{n:Int}(f:0<=n):sb .u64 n 16=n / 65536:=by
 show n.fdiv (2 ^ (min (16:Int).toNat 64))=n / 65536
 rw [F9 _ (by decide)]
 rfl
theorem shr32{n:Int}(f:0<=n):sb .u64 n 32=n / 4294967296:=by
 show n.fdiv (2 ^ (min (32:Int).toNat 64))=n / 4294967296
 rw [F9 _ (by decide)]
 rfl
theorem wU8{n:Int}(h:0<=n∧n<256):FM .u8 n=n:=IntWalk.u8_in _ za
theorem len8_ok{n m:Int}(f:0<=n∧n<65536)(hm:0<=m∧m<=48):Ok (lv n m) (fun r=>0<=r∧r<=m+16):=by
 unfold lv
 refine GW (fun h=>?_) (fun h=>?_)
 ·rw [shr8 f.1,wU8 za]
  refine GQ (byte8 _ (by decide+kernel) za so) (fun c hc=>?_)
  rw [w64 (n:=m+8) za za,w64 (n:=c) za za,w64 za za]
  exact G0 ⟨za,za⟩
 ·rw [wU8 za]
  refine GQ (byte8 _ (by decide+kernel) za so) (fun c hc=>?_)
  rw [w64 (n:=c) za za,w64 za za]
  exact G0 ⟨za,za⟩
theorem bits_ok{n:Int}(h:0<=n∧n<18446744073709551616):Ok (gR n) (fun r=>0<=r∧r<=64):=by
 have g:∀{n m:Int},0<=n∧n<4294967296->0<=m∧m<=32->Ok (kf n m) (fun r=>0<=r∧r<=m+32):=fun{n m}j hm=>by
  unfold kf
  refine GW (fun h=>?_) (fun h=>?_)
  ·rw [shr16 j.1,w64 za za]
   exact(len8_ok za za).mono fun r f=>by omega
  ·exact(len8_ok za za).mono fun r f=>by omega
 unfold gR nS
 refine GQ (P:=fun r=>0<=r∧r<=64) (GW (fun h=>?_) (fun h=>?_)) (fun r f=>G0 f)
 ·rw [shr32 za]
  exact(g za za).mono fun r f=>by omega
 ·exact(g za za).mono fun r f=>by omega
theorem u64_range(n:Int):0<=FM .u64 n∧FM .u64 n<18446744073709551616:=by
 simp [FM,IntKind.bits,IntKind.signed];omega
theorem dig17{c m d:Int}(hc: -1<=c∧c<=63)(f:0<=d∧d<=255):Ok (fu c m d) (fun r=> -256<=r∧r<=16400):=by
 unfold fu
 rw [w64 (n:=256*c) za za,w64 za za]
 exact G0 ⟨za,za⟩
theorem dig20{c m d:Int}(hc: -1<=c∧c<=63)(f:0<=d∧d<=127):Ok (fw c m d) (fun r=> -256<=r∧r<=16400):=by
 unfold fw
 rw [w64 (n:=d*2) za za,w64 (n:=d*2+1) za za]
 exact GW (fun _=>GQ (GY za) (fun _ _=>dig17 hc za)) (fun _=>dig17 hc za)
theorem dig23{c m d:Int}(hc: -1<=c∧c<=63)(f:0<=d∧d<=63):Ok (fx c m d) (fun r=> -256<=r∧r<=16400):=by
 unfold fx
 rw [w64 (n:=d*2) za za,w64 (n:=d*2+1) za za]
 exact GW (fun _=>GQ (GY za) (fun _ _=>dig20 hc za)) (fun _=>dig20 hc za)
theorem dig26{c m d:Int}(hc: -1<=c∧c<=63)(f:0<=d∧d<=31):Ok (fy c m d) (fun r=> -256<=r∧r<=16400):=by
 unfold fy
 rw [w64 (n:=d*2) za za,w64 (n:=d*2+1) za za]
 exact GW (fun _=>GQ (GY za) (fun _ _=>dig23 hc za)) (fun _=>dig23 hc za)
theorem dig29{c m d:Int}(hc: -1<=c∧c<=63)(f:0<=d∧d<=15):Ok (fA c m d) (fun r=> -256<=r∧r<=16400):=by
 unfold fA
 rw [w64 (n:=d*2) za za,w64 (n:=d*2+1) za za]
 exact GW (fun _=>GQ (GY za) (fun _ _=>dig26 hc za)) (fun _=>dig26 hc za)
theorem dig32{c m d:Int}(hc: -1<=c∧c<=63)(f:0<=d∧d<=7):Ok (fB c m d) (fun r=> -256<=r∧r<=16400):=by
 unfold fB
 rw [w64 (n:=d*2) za za,w64 (n:=d*2+1) za za]
 exact GW (fun _=>GQ (GY za) (fun _ _=>dig29 hc za)) (fun _=>dig29 hc za)
theorem dig35{c m d:Int}(hc: -1<=c∧c<=63)(f:0<=d∧d<=3):Ok (fC c m d) (fun r=> -256<=r∧r<=16400):=by
 unfold fC
 rw [w64 (n:=d*2) za za,w64 (n:=d*2+1) za za]
 exact GW (fun _=>GQ (GY za) (fun _ _=>dig32 hc za)) (fun _=>dig32 hc za)
theorem dig38{c m d:Int}(hc: -1<=c∧c<=63)(f:0<=d∧d<=1):Ok (fD c m d) (fun r=> -256<=r∧r<=16400):=by
 unfold fD
 rw [w64 (n:=d*2) za za,w64 (n:=d*2+1) za za]
 exact GW (fun _=>GQ (GY za) (fun _ _=>dig35 hc za)) (fun _=>dig35 hc za)
theorem digits_ok{c m:Int}(hc: -1<=c∧c<=63):Ok (gl c m) (fun r=> -256<=r∧r<=16400):=by
 unfold gl
 exact GW (fun _=>GQ (GY za) (fun _ _=>dig38 hc za)) (fun _=>dig38 hc za)
theorem log_ok(n:Int):Ok (jJ n) (fun r=> -256<=r.1∧r.1<=16400):=by
 unfold jJ
 refine GW (fun _=>G0 ⟨zc,zc⟩) (fun _=>?_)
 refine GQ (bits_ok (u64_range n)) (fun L g=>?_)
 rw [w64 (n:=L-1) za za]
 refine GW (fun h=>?_) (fun h=>?_)
 ·rw [w64 za za]
  have e:ym .i64 n (30-(L-1))=some (shlI .i64 n (30-(L-1))):=by unfold ym;rw [if_neg za]
  rw [e,ze]
  exact GQ (digits_ok za) (fun r f=>G0 f)
 ·rw [w64 za za]
  have e:shrO .i64 n (L-1-30)=some (sb .i64 n (L-1-30)):=by unfold shrO;rw [if_neg za]
  rw [e,ze]
  exact GQ (digits_ok za) (fun r f=>G0 f)
theorem logNat_ok{l:List Int}(hl:l.length<=64):Ok (iJ l) (fun r=> -1000<=r.1∧r.1<=600000):=by
 unfold iJ
 refine GQ (mY l za) (fun v _=>G7 (fun _=>G0 ⟨zc,zc⟩) (fun _=>?_))
 rw [w64 (n:=(l.length:Int)-1) za za]
 refine GW (fun _=>G0 ⟨zc,zc⟩) (fun g=>G4 (fun h1=>?_) (fun h1=>?_))
 ·refine GQ (GS za za) (fun a _=>GQ (log_ok a) (fun r f=>G0 ⟨zd,zd⟩))
 ·rw [w64 (n:=(l.length:Int)-1-1) za za,w64 (n:=7680*((l.length:Int)-1-1)) za za]
  refine GQ (GS za za) (fun a _=>GQ (GS za za) (fun b _=>GQ (log_ok _) (fun r f=>?_)))
  rw [w64 za za]
  exact G0 ⟨zd,zd⟩
theorem ground_ok{s:bP}{r:bv}(h:oO r)(a:Int):Ok (kY s r a) (fun x=> -700000<=x.1∧x.1<=700000):=by
 unfold kY
 refine GQ (Gain_ok h _ _) (fun g f=>G1 (fun _=>G0 ⟨zc,zc⟩) (fun _=>?_))
 refine GQ (logNat_ok f.1) (fun x j=>G1 (fun _=>G0 ⟨zc,zc⟩) (fun _=>?_))
 refine GQ (logNat_ok f.2) (fun y k=>G1 (fun _=>G0 ⟨zc,zc⟩) (fun _=>?_))
 refine GQ (log_ok a) (fun z q=>?_)
 rw [w64 (n:=2*z.1) za za,w64 (n:=2*z.1+y.1) za za,w64 za za]
 exact G0 ⟨zd,zd⟩
theorem floorL_at{l:Int}(h: -1000000<=l∧l<=1000000):jy l=some (l*30103 / 256000):=by
 unfold jy mV
 rw [if_pos so,ze]
 dsimp only
 rw [if_neg so,w64 (n:=l*30103) za za]
 have j: -30103000000<=l*30103∧l*30103<=30103000000:=by omega
 generalize l*30103=n at*
 have g:tn .i64 n 256000=some (FM .i64 (n.tdiv 256000)):=by unfold tn;rw [if_neg za]
 have e2:wP n 256000=some (n.tmod 256000):=by unfold wP;rw [if_neg za]
 rw [g,e2,ze,ze]
 rcases Fb 0 n with f|f
 ·rw [Ft f,Fw f,if_neg so,w64 za za]
 ·obtain⟨m,rfl⟩:∃m,n= -m:=⟨-n,za⟩
  rw [Int.neg_tdiv,Fq,Ft za,Fw za,w64 (n:= -(m / 256000)) za za,w64 za za]
  by_cases hm:m%256000=0
  ·rw [if_neg so];congr 1;omega
  ·rw [if_pos so];congr 1;omega
theorem ceilL_at{l:Int}(h: -1000000<=l∧l<=1000000):mz l=some (-(-l*30103 / 256000)):=by
 unfold mz
 rw [w64 (n:=0-l) za za,floorL_at za,ze,w64 za za]
 congr 1
 rw [show 0-l= -l by omega];omega
theorem half_at'{n:Int}:kw n=some (n / 2):=by
 unfold kw
 show some (n.fdiv (2 ^ (min (1:Int).toNat 64)))=_
 rw [F9 _ (by decide)]
 rfl
theorem scale_valid{s:ah}(h:gD s):dG s.bQ=some true:=by
 have h1:=h.num;have f:=h.den
 refine GR ?_
 unfold dG
 rw [jd h.cor,ze,if_pos zc]
 exact GW (fun _=>GW (fun _=>GW (fun _=>G0 so) (fun _=>za)) (fun _=>za)) (fun _=>za)
theorem station_ok{s:ah}(hs:gD s){r:bv}(k:oO r)(a:Int){n f:Int}(j:0<=n)(g:n<=f)(hf:f<=65535):Ok (ia s.bQ r a n f) (fun x=>x.2=0->x.1.bu<=x.1.bd):=by
 unfold ia
 rw [scale_valid hs,ze,if_neg zc]
 refine GW (fun _=>G0 zc) (fun _=>GW (fun _=>G0 zc) (fun _=>?_))
 refine GQ (ground_ok k a) (fun x u=>G1 (fun h=>G0 zc) (fun _=>?_))
 refine GQ (oS hs.cor n f j g hf) (fun y q=>G1 (fun h=>G0 zc) (fun h=>?_))
 obtain⟨B,C,D⟩:=q.2 h
 rw [w64 (n:=x.1-2) za za,w64 (n:=0-x.1) za za,w64 (n:=0-x.1-6) za za]
 rw [half_at',ze,floorL_at za,ze,half_at',ze,w64 (n:=0-(0-x.1-6) / 2) za za,ceilL_at za,ze]
 refine G0 fun _=>?_
 simp only
 rw [w64 za za,w64 za za]
 omega
end Go.Dw.Re
set_option maxRecDepth 100000
set_option maxHeartbeats 4000000
namespace Go.Dw.Re
open Go.Dw Go.Proofs
theorem or_some(l:List Int)(hl:l.length<1000):∃r,dC l=some r:=by
 unfold dC
 have:=Sd.or_go (l:=l) (n:=0) (r:=l) hl za zc
 rw [show((0:Int))=((0:Nat):Int)from rfl,this]
 cases l.find? fun x=>decide (x≠0)<;>exact⟨_,rfl⟩
structure PV(q:ak):Prop where
 box:gO q.bn
 reg:fP 20 q.bn.bu
 tab:pw q.bJ
 len:1<=q.bK.length∧q.bK.length<=64
 cap:1<=q.dw∧q.dw<=1000
 ph:∀a∈q.bK,PhV a∧Reach q.bJ (ou q.bn a.bw)
theorem sub_zone{q:ak}(g:PV q){b:al}(h:Sub q.bn b){a:aw}(j:a∈q.bK):Ok (eD q.bJ b a) (fun r=>r.2=0∧fN r.1):=by
 obtain⟨u,k⟩:=g.ph a j
 refine(qq g.tab (h.ok g.box g.reg) u).mono fun r f=>?_
 have:r.2=0:=f.1.2 (Fc (far_mono h _) k)
 exact⟨this,f.2 this⟩
theorem ol{q:ak}(f:PV q):jz q=some 0:=by
 have hl:=f.len;have hc:=f.cap
 refine GR ?_
 unfold jz
 rw [eM f.box,ze,if_neg zc,jd f.tab,ze,if_neg zc]
 refine G4 (fun h=>za) (fun _=>GW (fun h=>za) (fun _=>GW (fun h=>za) (fun _=>GW (fun h=>za) (fun _=>?_))))
 refine GQ (P:=fun o=>o= .inl ()) (G6 q.bK.length za (fun _=>True) trivial (fun i r h1 _=>?_)) (fun o ho=>by subst ho;exact G0 rfl)
 unfold lf
 refine GW (fun j=>?_) (fun _=>G3 rfl)
 refine GQ (GS za za) (fun a g=>?_)
 refine GQ (sub_zone f (Sub.refl f.box) g.1) (fun z k=>?_)
 refine G1 (fun h=>(h k.1).elim) (fun _=>?_)
 rw [w64 za za]
 exact GX ⟨⟨za,za⟩,trivial⟩ za
theorem zones_ok{q:ak}(f:PV q){b:al}(h:Sub q.bn b):Ok (ic q b) (fun r=>r.2=0∧r.1.length=q.bK.length∧∀z∈r.1,fN z):=by
 have hl:=f.len
 unfold ic
 rw [ol f,ze,if_neg zc,within_at f.box f.reg h,ze,if_neg zc]
 refine GQ ?_ (fun r C=>G0 C)
 unfold nJ
 refine GQ (Ok.mkC za za za za) (fun x D=>?_)
 subst D
 refine GQ (P:=fun o=>∃l,o= .inl l∧l.length=q.bK.length∧∀z∈l,fN z) (GU (fun s:Int×List bz=>(0<=s.1∧s.1<=q.bK.length)∧s.2.length=s.1.toNat∧∀z∈s.2,fN z) (fun s=>((q.bK.length:Int)-s.1).toNat) ?_ ⟨⟨zc,zc⟩,zc,zc⟩) (fun o⟨l,ho,h1,k⟩=>by subst ho;exact G0 ⟨rfl,h1,k⟩)
 rintro⟨s2,F⟩ ⟨⟨i0,i1⟩,i2,i3⟩
 simp only at i0 i1 i2 i3
 unfold k6
 refine GW (fun B=>?_) (fun _=>G3 ⟨F,rfl,za,i3⟩)
 refine GQ (GS za za) (fun a u=>?_)
 refine GQ (sub_zone f h u.1) (fun z j=>?_)
 refine G1 (fun h=>(h j.1).elim) (fun _=>?_)
 refine GQ (GP (by simp only [DW,DX];omega)) (fun y E=>?_)
 subst E
 rw [w64 za za]
 refine GX ⟨⟨zd,zd⟩,by simp only [ES,DW,DX];omega,fun G g=>?_⟩ zd
 rcases List.mem_append.1 g with h|h
 ·exact i3 G h
 ·rw [List.mem_singleton.1 h];exact j.2
theorem cost_ok{q:ak}(g:PV q)(l:List bz)(t:Int):Ok (ky q l t) (fun r=>(∀z∈l,fN z∧z.b7<=t∧t<=z.fTo)->r=0):=by
 have hl:=g.len;have hc:=g.cap
 unfold ky
 refine GQ (P:=fun o=>(∀z∈l,fN z∧z.b7<=t∧t<=z.fTo)->o=0) (GU (fun s:Int×Int=>(0<=s.2∧s.2<=q.bK.length)∧((∀z∈l,fN z∧z.b7<=t∧t<=z.fTo)->s.1=0)) (fun s=>((q.bK.length:Int)-s.2).toNat) ?_ ⟨⟨zc,zc⟩,fun _=>rfl⟩) (fun o ho=>G0 ho)
 rintro⟨s1,s2⟩ ⟨⟨i0,i1⟩,i2⟩
 simp only at i0 i1 i2
 unfold lJ
 refine GW (fun j=>?_) (fun _=>G3 i2)
 refine GQ (GS za za) (fun a B=>?_)
 refine GW (fun k=>?_) (fun _=>?_)
 ·refine GQ (GS za za) (fun z u=>?_)
  unfold gM
  rw [ze,w64 (n:=s2+1) za za]
  refine GX ⟨⟨zd,zd⟩,fun f=>?_⟩ zd
  obtain⟨⟨C,z2,z3⟩,z4,z5⟩:=f z u.1
  have i2:=i2 f
  simp only
  rw [w64 (n:=t-z.fTo) za za,w64 (n:=z.b7-t) za za]
  have e:(if(0:Int)>(if t-z.fTo>z.b7-t then t-z.fTo else z.b7-t)then(0:Int)else(if t-z.fTo>z.b7-t then t-z.fTo else z.b7-t))=0:=by
   split<;>split<;>omega
  rw [e,if_pos za,i2]
  simp [w64]
 ·rw [w64 za za]
  exact GX ⟨⟨zd,zd⟩,i2⟩ zd
theorem best_ok{q:ak}(H:PV q){l:List bz}(hl:1<=l.length∧l.length<=64):Ok (kx q l) (fun r=>(∃z,l=[z]∧fN z)->r.2=0):=by
 have hzero:∀t,(∃z∈l,t=z.b7∨t=z.fTo)->(∃z,l=[z]∧fN z)->∀z∈l,fN z∧z.b7<=t∧t<=z.fTo:=by
  rintro t ⟨y,j,I⟩ ⟨z,rfl,f⟩ x g
  rw [Ew]at g j
  subst g j
  obtain⟨L,z2,z3⟩:=f
  exact⟨⟨L,z2,z3⟩,za,za⟩
 unfold kx
 rw [w64 (n:=2*(l.length:Int)) za za]
 refine GQ (Ok.mkC za za za za) (fun x g=>?_)
 subst g
 refine GQ (P:=fun o:List Int=>o.length=2*l.length∧∀t∈o,∃z∈l,t=z.b7∨t=z.fTo) (GU (fun s:Int×List Int=>(0<=s.1∧s.1<=l.length)∧s.2.length=2*s.1.toNat∧∀t∈s.2,∃z∈l,t=z.b7∨t=z.fTo) (fun s=>((l.length:Int)-s.1).toNat) ?_ ⟨⟨zc,zc⟩,zc,zc⟩) (fun o ho=>?_)
 ·rintro⟨s2,D⟩ ⟨⟨i0,i1⟩,i2,i3⟩
  simp only at i0 i1 i2 i3
  unfold mA
  refine GW (fun C=>?_) (fun _=>G3 ⟨za,i3⟩)
  refine GQ (GS za za) (fun z f=>?_)
  refine GQ (GP (by simp only [DW,DX];omega)) (fun y j=>?_)
  subst j
  rw [w64 za za]
  refine GX ⟨⟨zd,zd⟩,by simp only [ES,DW,DX];omega,fun t I=>?_⟩ zd
  rcases List.mem_append.1 I with h|h
  ·exact i3 t h
  ·simp only [FN,List.not_mem_nil,or_false]at h
   exact⟨z,f.1,h⟩
 ·obtain⟨h1,G⟩:=ho
  refine G4 (fun h=>za) (fun _=>?_)
  refine GQ (G5 za za) (fun _ _=>GQ (GS za za) (fun K g14=>?_))
  refine GQ (G5 za za) (fun _ _=>GQ (GS za za) (fun E g17=>?_))
  refine GQ (cost_ok H l E) (fun c hc=>?_)
  refine GQ (Ok.sub za za za) (fun _ _=>?_)
  refine GQ (Ok.lenv za za) (fun n N=>?_)
  refine GQ (P:=fun o=>(∃z,l=[z]∧fN z)->o.2=0) (GU (fun s:Int×Int×Int=>(0<=s.2.2∧s.2.2<=n)∧((∃z,l=[z]∧fN z)->s.2.1=0)) (fun s=>(n-s.2.2).toNat) ?_ ⟨⟨zc,zd⟩,fun h=>hc (hzero _ (G _ g17.1) h)⟩) (fun o ho=>G0 ho)
  rintro⟨s1,s2,D⟩ ⟨⟨i0,i1⟩,i2⟩
  simp only at i0 i1 i2
  unfold lI
  refine GW (fun C=>?_) (fun _=>G3 i2)
  refine GQ (Ok.inv za za za) (fun _ _=>?_)
  refine GQ (GS za za) (fun F k=>?_)
  refine GQ (cost_ok H l F) (fun J B=>?_)
  rw [w64 za za]
  have f:(∃z,l=[z]∧fN z)->J=0:=fun h=>B (hzero _ (G _ k.1) h)
  have A:∀(u v:Int),((∃z,l=[z]∧fN z)->v=0)->Ok (some (.next (u,v,D+1)):Option (dE (Int×Int×Int) (Int×Int))) (Ok.S (fun s:Int×Int×Int=>(0<=s.2.2∧s.2.2<=n)∧((∃z,l=[z]∧fN z)->s.2.1=0)) (fun s=>(n-s.2.2).toNat) (fun o=>(∃z,l=[z]∧fN z)->o.2=0) (s1,s2,D)):=fun u v h=>GX ⟨⟨zd,zd⟩,h⟩ zd
  exact GW (fun _=>A _ _ f) (fun _=>G4 (fun _=>GW (fun _=>A _ _ f) (fun _=>A _ _ i2)) (fun _=>A _ _ i2))
def Single(q:ak):Prop:=q.bK.length=1
theorem single_zone{q:ak}(h:Single q){l:List bz}(hl:l.length=q.bK.length)(f:∀z∈l,fN z):∃z,l=[z]∧fN z:=by
 rw [h]at hl
 match l,hl with
 | [z],_=>exact⟨z,rfl,f z zc⟩
theorem bound_ok{q:ak}(f:PV q){b:al}(h:Sub q.bn b):Ok (fV q b) (fun r=>r.2=0):=by
 unfold fV
 refine GQ (zones_ok f h) (fun r g=>?_)
 refine G1 (fun h=>(h g.1).elim) (fun _=>?_)
 exact GQ (best_ok f (by rw [g.2.1];exact f.len)) (fun _ _=>G0 rfl)
theorem at_ok{q:ak}(g:PV q){p:ag}(h:Sub q.bn ⟨p,p⟩):Ok (jK q p) (fun r=>r.2.2=0∧(Single q->r.2.1=0)):=by
 unfold jK
 refine GQ (zones_ok g h) (fun r f=>?_)
 refine G1 (fun h=>(h f.1).elim) (fun _=>?_)
 exact GQ (best_ok g (by rw [f.2.1];exact g.len)) (fun s hs=>G0 ⟨rfl,fun h1=>hs (single_zone h1 f.2.1 f.2.2)⟩)
theorem compare_ok(a b:ag):Ok (fe a b) (fun _=>True):=by
 unfold fe
 rw [Sd.lE,ze,Sd.lE,ze,Sd.lE,ze]
 obtain⟨r,e⟩:=or_some [sY a.fX b.fX,sY a.fY b.fY,sY a.fZ b.fZ] zc
 rw [e]
 exact G0 trivial
end Go.Dw.Re
set_option maxRecDepth 100000
set_option maxHeartbeats 4000000
namespace Go.Dw.Re
open Go.Dw Go.Proofs
abbrev Est:=bo
theorem sort_okI{d:List Int}(f:d.length<=19):Ok (tQ d) (fun r=>r.length=d.length):=by
 obtain⟨r,e,hp, -⟩:=AX (l:=d) za
 exact⟨r,e,hp.length_eq⟩
theorem half_len{l:List Int}(k:1<=l.length)(h1:l.length<=19):Ok ((tn .i64 (FM .i64 ((l.length:Int)-(1:Int))) (2:Int)).bind fun f=>(inO l f).bind fun _=>(dF l f).bind fun g=>some g) (fun _=>True):=by
 rw [w64 za za]
 refine GQ (GY za) (fun q j=>?_)
 rw [Ft za,w64 za za]at j
 exact GQ (G5 za za) (fun _ _=>GQ (GS za za) (fun _ _=>G0 trivial))
theorem med2_ok{l:List Est}(j:1<=l.length)(h1:l.length<=19):Ok (gA l) (fun _=>True):=by
 unfold gA
 refine GQ (P:=fun o:List Int=>o.length=l.length) (GU (fun s:Int×List Int=>(0<=s.1∧s.1<=l.length)∧s.2.length=s.1.toNat) (fun s=>((l.length:Int)-s.1).toNat) ?_ ⟨⟨zc,zc⟩,rfl⟩) (fun o ho=>?_)
 ·rintro⟨s1,s2⟩ ⟨⟨i0,i1⟩,i2⟩
  simp only at i0 i1 i2
  unfold ip jp
  refine GW (fun f=>?_) (fun _=>G3 za)
  refine GQ (GS za za) (fun x _=>?_)
  rw [ze]
  refine GQ (GP (by simp only [DW,DX];omega)) (fun y g=>?_)
  subst g
  rw [w64 za za]
  exact GX ⟨⟨zd,zd⟩,by simp only [ES,DW,DX];omega⟩ zd
 ·exact GQ (sort_okI za) (fun r k=>half_len za za)
theorem med3_ok{l:List Est}(j:1<=l.length)(h1:l.length<=19):Ok (gB l) (fun _=>True):=by
 unfold gB
 refine GQ (P:=fun o:List Int=>o.length=l.length) (GU (fun s:Int×List Int=>(0<=s.1∧s.1<=l.length)∧s.2.length=s.1.toNat) (fun s=>((l.length:Int)-s.1).toNat) ?_ ⟨⟨zc,zc⟩,rfl⟩) (fun o ho=>?_)
 ·rintro⟨s1,s2⟩ ⟨⟨i0,i1⟩,i2⟩
  simp only at i0 i1 i2
  unfold iq jq
  refine GW (fun f=>?_) (fun _=>G3 za)
  refine GQ (GS za za) (fun x _=>?_)
  rw [ze]
  refine GQ (GP (by simp only [DW,DX];omega)) (fun y g=>?_)
  subst g
  rw [w64 za za]
  exact GX ⟨⟨zd,zd⟩,by simp only [ES,DW,DX];omega⟩ zd
 ·exact GQ (sort_okI za) (fun r k=>half_len za za)
theorem network_ok{l:List Est}(f:1<=l.length)(h1:l.length<=19)(hl:∀x∈l,x.bu<=x.bd):Ok (hJ l) (fun r=>r.2=0):=by
 unfold hJ
 refine G4 (fun h=>za) (fun _=>?_)
 have e:dt l=some false:=by
  unfold dt fh
  rw [fM l.length (fun i hi=>?_) ?_]
  ·rfl
  ·unfold du
   rw [if_neg zc]
  ·unfold du jo
   have:=hl _ (Dn hi)
   rw [if_pos so,ow rfl hi,ze,ze,if_neg so,w64 za za]
   simp
 rw [e,ze,if_neg zc]
 exact GQ (med2_ok f h1) (fun a _=>GQ (med3_ok f h1) (fun b _=>G0 rfl))
structure MatV(m:bD):Prop where
 len:m.fk.length=m.gH.length∧m.kc.length=m.gH.length
 few:m.gH.length<=19
 pos:∀a∈m.fk,fP 60 a.bw
 resp:∀e∈m.kc,oO e.bW
theorem estimates_ok{s:ah}(hs:gD s){m:bD}(hm:MatV m){b:al}(g:gO b):Ok (dH m s b) (fun r=>r.length<=19∧∀x∈r,x.bu<=x.bd):=by
 obtain⟨⟨G,H⟩,I,hp,j⟩:=hm
 unfold dH
 refine GQ (P:=fun r:List Est=>r.length<=19∧∀x∈r,x.bu<=x.bd) (GU (fun u:Int×List Est=>(0<=u.1∧u.1<=m.fk.length)∧u.2.length<=u.1.toNat∧∀x∈u.2,x.bu<=x.bd) (fun u=>((m.fk.length:Int)-u.1).toNat) ?_ ⟨⟨zc,zc⟩,zc,zc⟩) (fun r j=>G0 j)
 rintro⟨s1,s2⟩ ⟨⟨i0,i1⟩,i2,i3⟩
 simp only at i0 i1 i2 i3
 unfold dM
 refine GW (fun q=>?_) (fun _=>G3 ⟨za,i3⟩)
 refine GQ (GS za za) (fun J g6=>GQ (GS za za) (fun K g7=>GQ (GS za za) (fun F g8=>?_)))
 obtain⟨k,E,n1⟩:=qV g (hp _ g6.1)
 obtain⟨e2,f0,f1⟩:=Far_at g (hp _ g6.1)
 rw [k,ze,e2,ze,w64 za za]
 refine GQ (station_ok hs (j _ g7.1) F.bG E (pT g _) za) (fun y C=>?_)
 refine G4 (fun h=>?_) (fun _=>GX ⟨⟨zd,zd⟩,zd,i3⟩ zd)
 refine GQ (GP (by simp only [DW,DX];omega)) (fun z D=>?_)
 subst D
 refine GX ⟨⟨zd,zd⟩,by simp only [ES,DW,DX];omega,fun x B=>?_⟩ zd
 rcases List.mem_append.1 B with f|f
 ·exact i3 x f
 ·rw [List.mem_singleton.1 f];exact C h
theorem estimates_eq{m:bD}{e:List az}(h:e.map (·.bW)=m.kc.map (·.bW))(s:ah)(b:al):dH ⟨m.gH,m.fk,e⟩ s b=dH m s b:=by
 unfold dH
 have:dM ⟨m.gH,m.fk,e⟩ b s=dM m b s:=by
  funext u
  unfold dM
  have hl:e.length=m.kc.length:=by simpa using congrArg GF h
  have hk:∀{β:Type}(n:Int)(k:bv->Option β),((dF e n).bind fun x=>k x.bW)=((dF m.kc n).bind fun x=>k x.bW):=fun n k=>by
   unfold dF
   split
   ·have:=congrArg (fun l=>l[n.toNat]?) h
    simp only [EC]at this
    cases h1:e[n.toNat]? <;>cases B:m.kc[n.toNat]? <;>rw [h1,B]at this<;>simp at this
    all_goals first|rfl|simp only [ze,this]
   ·rfl
  refine ite_congr rfl (fun _=>congrArg _ (funext fun r=>?_)) (fun _=>rfl)
  exact hk u.1 fun q=>(dF m.gH u.1).bind fun C=>(gc b r.bw).bind fun D=>(ji b r.bw).bind fun g=>(ia s.bQ q C.bG D g).bind fun f=>if(f.2==(0:Int))=true then((rD u.2 [f.1] 16).bind fun j=>(some (.next ((FM .i64 (u.1+(1:Int))),j)):Option (dE (Int×List Est) (List Est))))else(some (.next ((FM .i64 (u.1+(1:Int))),u.2)))
 rw [this]
end Go.Dw.Re
set_option maxRecDepth 100000
set_option maxHeartbeats 4000000
namespace Go.Dw.Re
open Go.Dw Go.Proofs
section
variable {α:Type}
def qJ(lt:α->α->Bool)(x:α):List α->List α
 | []=>[x]
 |y::r=>if lt x y=true then y::qJ lt x r else x::y::r
def sortF(lt:α->α->Bool)(R l:List α):List α:=l.foldl (fun a x=>qJ lt x a) R
def dj(lt:α->α->Bool)(l:List α):List α:=(sortF lt [] l).reverse
theorem nP(lt:α->α->Bool)(x:α):∀R,(qJ lt x R).Perm (x::R)
 | []=>List.Perm.refl _
 |y::r=>by
  unfold qJ
  split
  ·exact((nP lt x r).cons y).trans (List.Perm.swap x y r)
  ·exact List.Perm.refl _
theorem sortF_perm(lt:α->α->Bool):∀l R,(sortF lt R l).Perm (l++R)
 | [],_=>List.Perm.refl _
 |x::l,R=>(sortF_perm lt l (qJ lt x R)).trans (((nP lt x R).append_left l).trans List.perm_middle)
theorem cU(lt:α->α->Bool)(l:List α):(dj lt l).Perm l:=(List.reverse_perm _).trans (by simpa using sortF_perm lt l [])
theorem eK(lt:α->α->Bool)(l:List α):(dj lt l).length=l.length:=(cU lt l).length_eq
def Lex(c:α->α->Int)(o:α->α->Prop)(a b:α):Prop:=c a b<0∨(c a b=0∧o a b)
theorem insR_lex{c:α->α->Int}(hc:Tot c){o:α->α->Prop}{x:α}:∀{R:List α},R.Pairwise (fun a b=>Lex c o b a)->(∀y∈R,o y x)->(qJ (fun x y=>decide (c x y<0)) x R).Pairwise (fun a b=>Lex c o b a)
 | [],_,_=>by simp [qJ]
 |y::r,h,u=>by
  obtain⟨h1,B⟩:=List.pairwise_cons.1 h
  unfold qJ
  split
  ·rename_i g
   refine List.pairwise_cons.2 ⟨fun z f=>?_,insR_lex hc B fun y C=>u y (GG _ C)⟩
   rcases List.mem_cons.1 ((nP _ x r).mem_iff.1 f)with rfl|f
   ·exact .inl (by simpa using g)
   ·exact h1 z f
  ·rename_i g
   have j:c y x<=0:=by
    have:=hc.uV x y
    simp only [decide_eq_true_eq]at g;omega
   refine List.pairwise_cons.2 ⟨fun z f=>?_,h⟩
   have q:c z y<=0:=by
    rcases List.mem_cons.1 f with rfl|f
    ·have:=hc.refl z;omega
    ·rcases h1 z f with h|h<;>omega
   have k:=hc.tr z y x q j
   rcases Int.lt_or_eq_of_le k with h|h
   ·exact .inl h
   ·exact .inr ⟨h,u z f⟩
theorem sortF_lex{c:α->α->Int}(hc:Tot c){o:α->α->Prop}:∀{l R:List α},R.Pairwise (fun a b=>Lex c o b a)->(∀y∈R,∀x∈l,o y x)->l.Pairwise o->(sortF (fun x y=>decide (c x y<0)) R l).Pairwise (fun a b=>Lex c o b a)
 | [],_,h,_,_=>h
 |x::l,R,h,g,hl=>by
  obtain⟨k,q⟩:=List.pairwise_cons.1 hl
  refine sortF_lex hc (l:=l) (R:=qJ _ x R) (insR_lex hc h fun y f=>g y f x zc) (fun y f z j=>?_) q
  rcases List.mem_cons.1 ((nP _ x R).mem_iff.1 f)with rfl|f
  ·exact k z j
  ·exact g y f z (GG _ j)
theorem sortI_lex{c:α->α->Int}(hc:Tot c){o:α->α->Prop}{l:List α}(hl:l.Pairwise o):(dj (fun x y=>decide (c x y<0)) l).Pairwise (Lex c o):=by
 unfold dj
 rw [List.pairwise_reverse]
 exact sortF_lex hc .nil (fun y f=>by cases f) hl
theorem sortI_le{c:α->α->Int}(hc:Tot c)(l:List α):(dj (fun x y=>decide (c x y<0)) l).Pairwise (fun a b=>c a b<=0):=by
 have:=sortI_lex hc (o:=fun _ _=>True) (l:=l) (List.pairwise_of_forall fun _ _=>trivial)
 exact this.imp fun h=>by rcases h with h|h<;>omega
theorem lC{c:α->α->Int}(hc:Tot c):∀{r s:List α},r.Pairwise (fun x y=>c x y<0)->s.Pairwise (fun x y=>c x y<0)->(∀x,x∈r↔x∈s)->r=s
 | [],[],_,_,_=>rfl
 | [],b::s,_,_,h=>by have:=(h b).2 zc;cases this
 |a::r,[],_,_,h=>by have:=(h a).1 zc;cases this
 |a::r,b::s,h1,u,h=>by
  obtain⟨a1,a2⟩:=List.pairwise_cons.1 h1
  obtain⟨k,q⟩:=List.pairwise_cons.1 u
  have e:a=b:=by
   rcases List.mem_cons.1 ((h a).1 zc)with f|f
   ·exact f
   ·rcases List.mem_cons.1 ((h b).2 zc)with j|j
    ·exact j.symm
    ·have:=a1 b j;have:=k a f;have:=hc.uV a b;omega
  subst e
  congr 1
  refine lC hc a2 q fun x=>⟨fun g=>?_,fun g=>?_⟩
  ·rcases List.mem_cons.1 ((h x).1 (GG _ g))with rfl|f
   ·have:=a1 x g;have:=hc.refl x;omega
   ·exact f
  ·rcases List.mem_cons.1 ((h x).2 (GG _ g))with rfl|f
   ·have:=k x g;have:=hc.refl x;omega
   ·exact f
end
noncomputable def insG31 {α β:Type} (br:α->α->Option β) (t:β->Bool) (a1 s1:Int):(Int×List α)->Option (dE (Int×List α) (Int×List α)):=fun(f,g)=>
 if(decide (f>a1))=true then((inO g f).bind fun D=>(dF g f).bind fun k=>(inO g (FM .i64 (f-(1:Int)))).bind fun E=>(dF g (FM .i64 (f-(1:Int)))).bind fun q=>(br k q).bind fun r=>if t r=true then((inO g (FM .i64 (f-(1:Int)))).bind fun F=>(dF g (FM .i64 (f-(1:Int)))).bind fun u=>(inO g f).bind fun G=>(dF g f).bind fun B=>(inO g f).bind fun H=>(tC g f u).bind fun j=>(inO j (FM .i64 (f-(1:Int)))).bind fun I=>(tC j (FM .i64 (f-(1:Int))) B).bind fun C=>some (.next ((FM .i64 (f-(1:Int))),C)))else(some (.stop (s1,g))))else(some (.stop (s1,g)))
noncomputable def qI {α β:Type} (br:α->α->Option β) (t:β->Bool) (a2 a1:Int):(Int×List α)->Option (dE (Int×List α) (List α)):=fun(s1,s2)=>
 if(decide (s1<a2))=true then((cI (insG31 br t a1 s1) (s1,s2)).bind fun f=>some (.next ((FM .i64 (f.1+(1:Int))),f.2)))else((some s2).bind fun z33=>some (.stop z33))
noncomputable def insG {α β:Type} (br:α->α->Option β) (t:β->Bool) (a1 a2:Int) (d0:List α):Option (List α):=
 (cI (qI br t a2 a1) ((FM .i64 (a1+(1:Int))),d0)).bind fun f=>some f
section
variable {α β:Type}{br:α->α->Option β}{t:β->Bool}{lt:α->α->Bool}{S:α->Prop}(hbr:∀x y,S x->S y->∃b,br x y=some b∧t b=lt x y)
include hbr
theorem insG_inner{s1:Int}{x:α}(q:S x):∀(R B:List α),(∀y∈R,S y)->R.length+B.length<=1000->cI (insG31 br t 0 s1) ((R.length:Int),R.reverse++x::B)=some (s1,(qJ lt x R).reverse++B)
 | [],B,_,_=>pJ (by unfold insG31;dsimp only;rw [if_neg zc];rfl)
 |y::R,B,k,hl=>by
  have r:(y::R).reverse++x::B=R.reverse++y::x::B:=by simp
  have e2:R.reverse++y::x::B=(R.reverse++[y])++x::B:=by simp
  have C:R.length+1+B.length<=1000:=by simpa using hl
  have hw:FM .i64 (((y::R).length:Int)-1)=(R.length:Int):=by rw [w64 zc so];simp
  have i1:inO (R.reverse++y::x::B) ((y::R).length:Int)=some ():=rY za so
  have i0:inO (R.reverse++y::x::B) (R.length:Int)=some ():=rY za so
  have g1:dF (R.reverse++y::x::B) ((y::R).length:Int)=some x:=by rw [e2];exact get1 _ _ _ zc
  have g0:dF (R.reverse++y::x::B) (R.length:Int)=some y:=get1 _ _ _ zc
  have j:tC (R.reverse++y::x::B) ((y::R).length:Int) y=some (R.reverse++y::y::B):=by
   rw [e2,set1 _ _ _ _ zc];simp
  have i2:inO (R.reverse++y::y::B) (R.length:Int)=some ():=rY za so
  have s0:tC (R.reverse++y::y::B) (R.length:Int) x=some (R.reverse++x::y::B):=set1 _ _ _ _ zc
  obtain⟨b,u,D⟩:=hbr x y q (k y zc)
  have f:insG31 br t 0 s1 (((y::R).length:Int),R.reverse++y::x::B)=if lt x y=true then some (.next ((R.length:Int),R.reverse++x::y::B))else some (.stop (s1,R.reverse++y::x::B)):=by
   unfold insG31
   dsimp only
   rw [if_pos zc,hw]
   simp only [i1,i0,g1,g0,u,j,i2,s0,ze,D]
  rw [r]
  unfold qJ
  split
  ·rename_i g
   rw [if_pos g]at f
   rw [rJ f,insG_inner q R (y::B) (fun z E=>k z (GG _ E)) so]
   simp
  ·rename_i g
   rw [if_neg g]at f
   rw [pJ f]
   simp
theorem insG_outer:∀(l R:List α),(∀y∈R,S y)->(∀y∈l,S y)->R.length+l.length<=1000->∀n:Int,n=R.length+l.length->cI (qI br t n 0) ((R.length:Int),R.reverse++l)=some (sortF lt R l).reverse
 | [],R,_,_,_,n,g=>by
  rw [EP]
  exact pJ (by unfold qI;dsimp only;rw [if_neg (by simp at g;simp [g])];rfl)
 |x::l,R,k,hl,hle,n,g=>by
  have hlen:(qJ lt x R).length=R.length+1:=by rw [(nP lt x R).length_eq];rfl
  have q:R.length+(l.length+1)<=1000:=by simpa using hle
  have f:qI br t n 0 ((R.length:Int),R.reverse++x::l)=some (.next (((qJ lt x R).length:Int),(qJ lt x R).reverse++l)):=by
   unfold qI
   dsimp only
   rw [if_pos (by simp [g];omega),insG_inner hbr (hl x zc) R l k za,ze,w64 so so,hlen]
   simp
  rw [rJ f]
  refine insG_outer l (qJ lt x R) (fun y j=>?_) (fun y j=>hl y (GG _ j)) za n (by rw [hlen,g];simp;omega)
  rcases List.mem_cons.1 ((nP lt x R).mem_iff.1 j)with rfl|j
  ·exact hl _ zc
  ·exact k y j
theorem insG_at{l:List α}(hl:∀y∈l,S y)(g:l.length<=1000):insG br t 0 (l.length:Int) l=some (dj lt l):=by
 unfold insG
 rw [w64 za za]
 cases l with
 |nil=>rw [pJ (o:=[]) (by unfold qI;dsimp only;rw [if_neg zc];rfl)];rfl
 |cons x l=>
  have h:=insG_outer hbr l [x] (by simpa using hl x zc) (fun y j=>hl y (GG _ j)) (by simp at g⊢;omega) ((x::l).length:Int) so
  have f:cI (qI br t ((x::l).length:Int) 0) (0+1,x::l)=some (sortF lt [x] l).reverse:=h
  rw [f];rfl
end
theorem pU:∀{r s:List Int},r.Perm s->r.Pairwise (· <= ·)->s.Pairwise (· <= ·)->r=s
 | [],s,h,_,_=>h.nil_eq
 |a::r,[],h,_,_=>h.eq_nil
 |a::r,b::s,h,h1,q=>by
  obtain⟨a1,a2⟩:=List.pairwise_cons.1 h1
  obtain⟨j,k⟩:=List.pairwise_cons.1 q
  have e:a=b:=by
   rcases List.mem_cons.1 (h.mem_iff.1 (GH (a:=a) (l:=r)))with f|f
   ·exact f
   ·rcases List.mem_cons.1 (h.mem_iff.2 (GH (a:=b) (l:=s)))with g|g
    ·exact g.symm
    ·have:=a1 b g;have:=j a f;omega
  subst e
  rw [pU ((List.perm_cons a).1 h) a2 k]
theorem sort_int{l:List Int}(f:l.length<=1000000):tQ l=some (dj (fun x y=>decide (sY x y<0)) l):=by
 obtain⟨r,e,hp,hs⟩:=AX f
 rw [e,pU (hp.trans (cU _ l).symm) hs ((sortI_le tc l).imp fun{x y}h=>by unfold sY at h;repeat' split at h<;>omega)]
end Go.Dw.Re
