
import Derived.Test.YtfmoipelhfkdkaaGreatDoorReFn
import Derived.Test.YtfmoipelhfkdkaaGreatDoorDwPlain
import Derived.Test.YtfmoipelhfkdkaaGreatDoorDwOk
import Derived.Test.YtfmoipelhfkdkaaGreatDoorReCo
import Derived.KernelRfl
set_option linter.unusedVariables false
set_option linter.unusedSimpArgs false
open Int renaming add_mul->Fy, ediv_le_of_le_mul->Fz, fdiv_eq_ediv_of_nonneg->GA, le_refl->GB, le_total->GC, le_trans->GD, mul_add->GF, mul_assoc->GG, mul_comm->GH, mul_le_mul->GI, mul_left_comm->GJ, mul_nonneg->GK, mul_nonneg_of_nonpos_of_nonpos->GL, mul_sub->GM, natCast_add->GN, natCast_mul->GO, neg_mul_neg->GP, neg_tmod->GQ, sub_mul->GR, tdiv_eq_ediv_of_nonneg->GS, tdiv_le_self->GU, tdiv_nonneg->GV, tmod_eq_emod_of_nonneg->GW, tmod_lt_of_pos->GX, toNat_natCast->Et
open List renaming append_nil->Ea, drop_eq_getElem_cons->GY, find?->GZ, find?_some->G0, getElem?_map->EY, getElem_append_left->G1, getElem_append_right->G2, getElem_map->G3, getElem_mem->EJ, length->G4, length_append->Ec, length_cons->D4, length_drop->E0, length_nil->D5, length_take->E1, map_append->F2, mem_append->FV, mem_cons->Fc, mem_cons_of_mem->G5, mem_cons_self->G6, mem_of_find?_eq_some->G7, mem_of_getElem?->D6, mem_singleton->FW, pairwise_map->G8, range->DO, set_getElem_self->G9, take_length->Ga
open Bool renaming and_eq_true->EE, false_eq_true->EL, not_eq_true'->Gb, or_eq_true->Gc
open Go.Dw.Ok renaming S->Gd, app->Ge, bind->Gf, eq->Gg, get->Gh, loop->Gi, mod->Gj, nx->Gk, pz->Gl, quo->Gm, rem->Gn, ret->Gq, set->Gs, st->Gt, tA->Gu, tG->Gv, tk->Gw, upto->Gx, w4->Gy, zL->Gz
open Go.IntKind renaming wrap->Fb
open Classical renaming byContradiction->HA
open Nat renaming le_refl->DI, zero_le->DR
open Option renaming bind_fun_some->HC

set_option maxRecDepth 100000
set_option maxHeartbeats 4000000
namespace Go.Dw.Re
namespace Sq
open Go.Dw
abbrev Src:=bn
theorem byteO_at{s:List UInt8}{n:Int}{i:Nat}(f:n=i)(hi:i<s.length):wW s n=some ((s[i].toNat:Nat):Int):=by
 subst f
 unfold wW
 rw [if_pos ⟨za,za⟩,Et,List.getD_eq_getElem?_getD,zf hi];rfl
theorem ec{α:Type}{l m:List α}{b:Nat}(h:(l.length+m.length)*b<=140737488355328):rR l m b=some (l++m):=by
 unfold rR
 rw [if_pos h]
theorem loop_list{α ω:Type}{body:Int->Option (gB Int ω)}(l:List α){p:α->Bool}{u r:ω}(h1:∀(i:Nat)(hi:i<l.length),body i=if p l[i]=true then some (.next ((i+1:Nat):Int))else some (.stop r))
  (g:body (l.length:Nat)=some (.stop u)):cI body (0:Int)=some (if l.all p=true then u else r):=by
 have:∀k i,i+k=l.length->cI body (i:Int)=some (if(l.drop i).all p=true then u else r):=by
  intro k
  induction k with
  |zero=>
   intro i hi
   obtain rfl:i=l.length:=by omega
   rw [rD g];simp
  |succ k j=>
   intro i hi
   have f:i<l.length:=by omega
   rw [GY f,List.all_cons]
   by_cases hp:p l[i]=true
   ·rw [rZ (by rw [h1 i f,if_pos hp]),j (i+1) za,hp,Bool.true_and]
   ·rw [rD (by rw [h1 i f,if_neg hp])];simp [hp]
 have:=this l.length 0 za
 simpa using this
def qW(c:UInt8):Bool:=(decide (65<=c.toNat)&&decide (c.toNat<=90))||(decide (48<=c.toNat)&&decide (c.toNat<=57))
theorem dec1(n:Nat):decide ((n:Int)>=65)=decide (65<=n):=decide_eq_decide.2 za
theorem dec2(n:Nat):decide ((n:Int)<=90)=decide (n<=90):=decide_eq_decide.2 za
theorem dec3(n:Nat):decide ((n:Int)>=48)=decide (48<=n):=decide_eq_decide.2 za
theorem dec4(n:Nat):decide ((n:Int)<=57)=decide (n<=57):=decide_eq_decide.2 za
theorem plain_eq(c:UInt8):nT ((c.toNat:Nat):Int)=some (qW c):=by
 unfold nT qW
 rw [dec1,dec2,dec3,dec4]
 cases decide (65<=c.toNat)<;>cases decide (c.toNat<=90)<;>cases decide (48<=c.toNat)<;>simp
def mq(s:List UInt8)(lo hi:Int):Bool:=s.all qW&&(decide ((s.length:Int)>=lo)&&decide ((s.length:Int)<=hi))
theorem code_l7{s:List UInt8}(hs:s.length<=9223372036854775807):cI (kZ s) (0:Int)=some (if s.all qW=true then .inl ()else .inr false):=by
 refine loop_list s (fun i hi=>?_) ?_
 ·unfold kZ
  rw [if_pos so,byteO_at rfl hi,w64 za za]
  simp only [ze,plain_eq]
  cases qW s[i]<;>simp
 ·unfold kZ
  rw [if_neg zc]
theorem code_eq{s:List UInt8}(hs:s.length<=9223372036854775807)(lo hi:Int):kY s lo hi=some (mq s lo hi):=by
 unfold kY mq
 rw [code_l7 hs]
 cases s.all qW with
 |true=>cases decide ((s.length:Int)>=lo)<;>simp
 |false=>rfl
def SidLen(x:Src):Prop:=x.bI.length<=9223372036854775807∧x.bw.length<=9223372036854775807∧x.bc.length<=9223372036854775807∧x.bL.length<=9223372036854775807
def pK(x:Src):Bool:=mq x.bI 1 2&&(mq x.bw 1 5&&(mq x.bc 0 2&&(decide (x.bc.length≠1)&&mq x.bL 3 3)))
theorem Valid_eq{x:Src}(k:SidLen x):mQ x=some (pK x):=by
 obtain⟨h1,f,g,j⟩:=k
 unfold mQ pK
 simp only [code_eq h1,code_eq f,code_eq g,code_eq j,ze]
 have e:((x.bc.length:Int) != 1)=decide (x.bc.length≠1):=by
  by_cases h:x.bc.length=1
  ·simp [h]
  ·simp [h];omega
 rw [e]
 cases mq x.bI 1 2<;>cases mq x.bw 1 5<;>cases mq x.bc 0 2<;>cases decide (x.bc.length≠1)<;>simp
theorem qr{s:List UInt8}{lo:Int}{hi:Nat}(h:mq s lo hi=true):s.length<=hi:=by
 unfold mq at h
 simp only [EE,decide_eq_true_eq]at h
 omega
theorem valid_len{x:Src}(h:pK x=true):x.bI.length<=2∧x.bw.length<=5∧x.bc.length<=2∧x.bL.length<=3:=by
 unfold pK at h
 simp only [EE]at h
 exact⟨qr (hi:=2) h.1,qr (hi:=5) h.2.1,qr (hi:=2) h.2.2.1,qr (hi:=3) h.2.2.2.2⟩
end Sq
end Go.Dw.Re
set_option maxRecDepth 100000
set_option maxHeartbeats 4000000
namespace Go.Dw.Re
open Go.Dw
abbrev Src:=ai
abbrev Pick:=aa
abbrev Sid:=bn
theorem mod_ok(a b:Int)(g:1<=b)(h1:b<=1000000000):Ok (pX a b) (fun r=>0<=r∧r<b):=by
 unfold pX
 have hl:a.tmod b<b:=GX _ za
 have j: -b<a.tmod b:=by
  rcases GC 0 a with h|h
  ·have:=Int.tmod_nonneg b h;omega
  ·have e:a.tmod b= -((-a).tmod b):=by rw [GQ];omega
   have:=GX (-a) (show 0<b by omega)
   omega
 refine Gl (fun _=>za) (fun _=>?_)
 refine Gf (Gn za) (fun x f=>?_)
 subst f
 refine Gl (fun _=>?_) (fun _=>?_)
 ·rw [w64 za za]
  exact Gq za
 ·exact Gq za
def cv(d:Src):Prop:=0<=d.fAt∧d.fAt<=d.fL.length∧d.fL.length<=2000
theorem raw_ok(d:Src)(j:cv d):Ok (Src_Raw d) (fun r=>cv r.2):=by
 obtain⟨g,h1,f⟩:=j
 unfold Src_Raw
 refine Gl (fun _=>Gq ⟨g,h1,f⟩) (fun h=>?_)
 rw [w64 (n:=d.fAt+1) za za,w64 za za]
 refine Gf (Gh za za) (fun x _=>?_)
 refine Gq ⟨?_,?_,f⟩<;>simp only<;>omega
theorem dZ(k:Int)(d:Src)(j:cv d)(g:1<=k)(h1:k<=1000000000):Ok (du k d) (fun r=>0<=r.1∧r.1<k∧cv r.2):=by
 unfold du
 refine Gf (raw_ok d j) (fun x q=>?_)
 refine Gf (mod_ok _ _ g h1) (fun y f=>?_)
 exact Gq ⟨f.1,f.2,q⟩
theorem fd(l:List Int)(d:Src)(j:cv d)(g:l≠ [])(h1:l.length<=1000000):Ok (ei l d) (fun r=>r.1∈l∧cv r.2):=by
 unfold ei
 have:=List.length_pos_iff.2 g
 refine Gf (dZ _ d j za za) (fun x f=>?_)
 refine Gf (Gh f.1 f.2.1) (fun y k=>?_)
 exact Gq ⟨k.1,f.2.2⟩
def stas:List (List UInt8):=[[83,49],[83,50],[83,51],[83,52],[83,53],[83,54]]
def re(a:Sid):Prop:=Sq.pK a=true
theorem stas_ok:∀x∈stas,Sq.pK ⟨[65,66],x,[48,48],[66,72,90]⟩=true:=by decide+kernel
theorem source_ok(n:Int):Ok (gj n) re:=by
 unfold gj
 refine Gf (mod_ok n 6 za za) (fun x f=>?_)
 refine Gf (Gh f.1 f.2) (fun y g=>?_)
 exact Gq (stas_ok y g.1)
theorem new_ok(l:List Int):Ok (kB l) cv:=by
 unfold kB
 refine Gf (Ok.cut za (by split<;>omega) (by split<;>omega)) (fun x f=>?_)
 subst f
 refine Gq ⟨zc,zc,?_⟩
 simp only [E1,E0]
 split<;>omega
def fV(m:Int)(p:ag):Prop:=(-m<=p.fX∧p.fX<=m)∧(-m<=p.fY∧p.fY<=m)∧(-m<=p.fZ∧p.fZ<=m)
theorem mH(m:Int)(k:0<=m)(h1:m<=1000)(d:Src)(f:cv d):Ok (mW m d) (fun r=>fV m r.1∧cv r.2):=by
 unfold mW
 rw [w64 (n:=2*m) za za,w64 (n:=2*m+1) za za,w64 (n:=m+1) za za]
 refine Gf (dZ _ _ f za za) (fun g g1=>?_)
 refine Gf (dZ _ _ g1.2.2 za za) (fun j g2=>?_)
 refine Gf (dZ _ _ g2.2.2 za za) (fun q g3=>?_)
 rw [w64 (n:=g.1-m) za za,w64 (n:=j.1-m) za za]
 exact Gq ⟨⟨zd,zd,zd⟩,g3.2.2⟩
def gY(b:al):Prop:=fV 40 b.bt∧(0<=b.bd.fX-b.bt.fX∧b.bd.fX-b.bt.fX<=4)∧(0<=b.bd.fY-b.bt.fY∧b.bd.fY-b.bt.fY<=4)∧(0<=b.bd.fZ-b.bt.fZ∧b.bd.fZ-b.bt.fZ<=4)
theorem box_ok(m side:Int)(g:0<=m)(h1:m<=40)(C:0<=side)(D:side<=4)(d:Src)(j:cv d):Ok (pg m side d) (fun r=>gY r.1∧cv r.2):=by
 unfold pg
 rw [w64 (n:=side+1) za za]
 refine Gf (mH m g za d j) (fun f g0=>?_)
 refine Gf (dZ _ _ g0.2 za za) (fun k g1=>?_)
 refine Gf (dZ _ _ g1.2.2 za za) (fun q g2=>?_)
 refine Gf (dZ _ _ g2.2.2 za za) (fun u g3=>?_)
 obtain⟨⟨E,F,G⟩, -⟩:=g0
 rw [w64 (n:=f.1.fX+k.1) za za,w64 (n:=f.1.fY+q.1) za za,w64 (n:=f.1.fZ+u.1) za za]
 refine Gq ⟨⟨⟨zd,zd,zd⟩,zd,zd,zd⟩,g3.2.2⟩
structure TabOk(t:bg):Prop where
 step:t.bQ=20∨t.bQ=25∨t.bQ=40∨t.bQ=100
 len:1<=t.bt.length∧t.bt.length<=30
 same:t.bd.length=t.bt.length
 low:∀x∈t.bt,0<=x∧x<=3000
 high:∀x∈t.bd,0<=x∧x<=5000
theorem table_ok(d:Src)(F:cv d):Ok (k8 d) (fun r=>TabOk r.1∧cv r.2):=by
 unfold k8
 refine Gf (fd _ d F zc zc) (fun j h1=>?_)
 obtain⟨f,h1⟩:=h1
 have f:j.1=20∨j.1=25∨j.1=40∨j.1=100:=by simpa using f
 refine Gf (dZ _ _ h1 za za) (fun x2 E=>?_)
 have u:∃q,Fb .i64 ((400:Int).tdiv j.1)=q∧4<=q∧q<=20:=by
  rcases f with e|e|e|e<;>rw [e]<;>exact⟨_,rfl,by decide,by decide⟩
 have hp:∃q,Fb .i64 (j.1.tdiv 4)=q∧0<=q∧q<=25:=by
  rcases f with e|e|e|e<;>rw [e]<;>exact⟨_,rfl,by decide,by decide⟩
 obtain⟨q,u,O,Q⟩:=u
 obtain⟨p,hp,L,N⟩:=hp
 refine Gf (P:=fun o=>cv ⟨o.1,o.2.1⟩∧(1<=o.2.2.1.length∧o.2.2.1.length<=30)∧o.2.2.2.length=o.2.2.1.length∧(∀x∈o.2.2.1,0<=x∧x<=3000)∧(∀x∈o.2.2.2,0<=x∧x<=5000))
  (Gi (fun s => (0 ≤ s.2.2.1 ∧ s.2.2.1 ≤ 23) ∧ s.2.2.2.2.2.1.length = s.2.2.1.toNat ∧ s.2.2.2.2.2.2.length = s.2.2.1.toNat ∧ (0 ≤ s.1 ∧ s.1 ≤ 60 * s.2.2.1) ∧ (0 ≤ s.2.1 ∧ s.2.1 ≤ 100 * s.2.2.1 + 2) ∧ cv ⟨s.2.2.2.1, s.2.2.2.2.1⟩ ∧ (∀ x ∈ s.2.2.2.2.2.1, 0 ≤ x ∧ x ≤ 3000) ∧ (∀ x ∈ s.2.2.2.2.2.2, 0 ≤ x ∧ x ≤ 5000))
   (fun s=>(23-s.2.2.1).toNat) ?_ ⟨⟨zc,zc⟩,rfl,rfl,⟨zc,zc⟩,⟨zd,zd⟩,E.2.2,zc,zc⟩) ?_
 ·rintro⟨H,T,I,U,W,X,Y⟩ ⟨i0,i1,i2,i3,i4,i5,i6,i7⟩
  simp only at i0 i1 i2 i3 i4 i5 i6 i7
  unfold lD
  refine Gf (Gm za) (fun J g1=>?_)
  rw [u]at g1;subst g1
  refine Gf (dZ _ _ i5 za za) (fun K g2=>?_)
  rw [w64 (n:=J+K.1) za za]
  refine Gl (fun hle=>?_) (fun G=>?_)
  ·refine Gf (Ge (by simp only [D4,D5];omega)) (fun y3 g3=>?_)
   refine Gf (Ge (by simp only [D4,D5];omega)) (fun y4 g4=>?_)
   refine Gf (fd _ _ g2.2.2 zc zc) (fun k g5=>?_)
   refine Gf (Gm za) (fun C g6=>?_)
   rw [hp]at g6;subst g6
   refine Gf (fd _ _ g5.2 zc zc) (fun D g7=>?_)
   have a1:0<=k.1∧k.1<=35:=by have:=g5.1;simp at this;omega
   have a2:0<=D.1∧D.1<=30:=by have:=g7.1;simp at this;omega
   rw [w64 (n:=k.1+C) za za,w64 (n:=H+(k.1+C)) za za,w64 (n:=I+1) za za,w64 (by split<;>omega) (by split<;>omega)]
   subst g3 g4
   refine Gk ⟨⟨zd,zd⟩,?_,?_,⟨zd,zd⟩,⟨by simp only;split<;>omega,by simp only;split<;>omega⟩,g7.2,?_,?_⟩ zd
   ·simp only [Ec,D4,D5];omega
   ·simp only [Ec,D4,D5];omega
   ·intro x g
    simp only [FV,FW]at g
    rcases g with g|rfl
    ·exact i6 x g
    ·omega
   ·intro x g
    simp only [FV,FW]at g
    rcases g with g|rfl
    ·exact i7 x g
    ·omega
  ·exact Gt ⟨g2.2.2,⟨zd,zd⟩,zd,i6,i7⟩
 ·intro o ho
  exact Gq ⟨⟨f,ho.2.1,ho.2.2.1,ho.2.2.2.1,ho.2.2.2.2⟩,ho.1⟩
theorem association_ok{k:Int}(hk:0<=k∧k<=4)(d:Src)(D:cv d):Ok (eZ k d) (fun r=>(gY r.1.bj∧TabOk r.1.bG)∧cv r.2):=by
 unfold eZ
 refine Gf (box_ok 20 k za za za za d D) (fun E h1=>?_)
 refine Gf (table_ok _ h1.2) (fun F f=>?_)
 refine Gf (fd _ _ f.2 zc zc) (fun G g=>?_)
 refine Gf (fd _ _ g.2 zc zc) (fun H j=>?_)
 refine Gf (fd _ _ j.2 zc zc) (fun I q=>?_)
 refine Gf (fd _ _ q.2 zc zc) (fun J u=>?_)
 refine Gf (dZ _ _ u.2 za za) (fun K C=>?_)
 exact Gq ⟨⟨h1.1,f.1⟩,C.2.2⟩
theorem scale_ok(d:Src)(k:cv d):Ok (l7 d) (fun r=>cv r.2):=by
 unfold l7
 refine Gf (table_ok _ k) (fun f h1=>?_)
 refine Gf (dZ _ _ h1.2 za za) (fun E g=>?_)
 refine Gf (dZ _ _ g.2.2 za za) (fun F j=>?_)
 have hl:=h1.1.len;have hs:=h1.1.same
 refine Gf (P:=fun _=>True) (Gi (fun s=>0<=s.1∧s.2.1.length=f.1.bt.length∧s.2.2.length=f.1.bt.length) (fun s=>((f.1.bt.length:Int)-s.1).toNat) ?_ ⟨GB _,rfl,hs⟩) (fun o _=>Gq j.2.2)
 rintro⟨u,C,D⟩ ⟨i0,i1,i2⟩
 simp only at i0 i1 i2
 unfold lB
 refine Gl (fun q=>?_) (fun _=>Gt trivial)
 refine Gf (Gv za za) (fun _ _=>?_)
 refine Gf (Gh za za) (fun G g1=>?_)
 refine Gf (Gm za) (fun H g2=>?_)
 refine Gf (Gv za za) (fun _ _=>?_)
 refine Gf (Gh za za) (fun I g3=>?_)
 refine Gf (Gm za) (fun J g4=>?_)
 refine Gf (Gv za za) (fun _ _=>?_)
 refine Gf (Gs za za) (fun K g5=>?_)
 refine Gf (Gv za za) (fun _ _=>?_)
 refine Gf (Gs za za) (fun L g6=>?_)
 subst g5 g6
 rw [w64 za za]
 exact Gk ⟨zd,by simpa using i1,by simpa using i2⟩ zd
theorem settings_ok{k:Int}(hk:0<=k∧k<=4)(d:Src)(j:cv d):Ok (dP k d) (fun r=>(gY r.1.ac.bj∧TabOk r.1.ac.bG)∧cv r.2):=by
 unfold dP
 refine Gf (association_ok hk d j) (fun q h1=>?_)
 refine Gf (scale_ok _ h1.2) (fun u f=>?_)
 refine Gf (fd _ _ f zc zc) (fun C g=>?_)
 exact Gq ⟨h1.1,g.2⟩
def ChanOk(c:aj):Prop:=c.ct.length<=3∧∀e∈c.ct,fV 60 e.bV
def InvOk(v:ae):Prop:=v.a8.length<=6∧∀c∈v.a8,ChanOk c
theorem range_ok(a b:Int)(j: -1000<=a)(h1:a<=1000)(k:0<=b-a)(q:b-a<=1000)(d:Src)(f:cv d):Ok (nW a b d) (fun r=>(a<=r.1∧r.1<=b)∧cv r.2):=by
 unfold nW
 rw [w64 (n:=b-a) za za,w64 (n:=b-a+1) za za]
 refine Gf (dZ _ _ f za za) (fun g g1=>?_)
 rw [w64 (n:=a+g.1) za za]
 exact Gq ⟨⟨zd,zd⟩,g1.2.2⟩
theorem point_ok(b:al)(f:gY b)(d:Src)(g:cv d):Ok (oQ b d) (fun r=>fV 60 r.1∧cv r.2):=by
 obtain⟨⟨j,k,q⟩,u,C,D⟩:=f
 unfold oQ
 refine Gf (range_ok _ _ za za za za d g) (fun E g1=>?_)
 refine Gf (range_ok _ _ za za za za _ g1.2) (fun F g2=>?_)
 refine Gf (range_ok _ _ za za za za _ g2.2) (fun G g3=>?_)
 exact Gq ⟨⟨zd,zd,zd⟩,g3.2⟩
theorem kplace_ok(v:ae)(k:InvOk v)(x:Sid)(t:Int):Ok (px v x t) (fun r=>fV 60 r.1):=by
 unfold px
 have q:fV 60 ⟨0,0,0⟩:=⟨zc,zc,zc⟩
 refine Gf (P:=fun o=>match o with| .inl _=>True| .inr r=>fV 60 r.1) (Gx v.a8.length za (fun _=>True) trivial ?_) ?_
 ·intro i h1 C _
  unfold oe
  refine Gl (fun g=>?_) (fun _=>Gt trivial)
  refine Gf (Gh za za) (fun c hc=>?_)
  have f:=k.2 c hc.1
  have hlen:=k.1
  refine Gf (P:=fun o=>match o with| .inl y=>y=i| .inr r=>fV 60 r.1) (Gx c.ct.length za (fun _=>True) trivial ?_) ?_
  ·intro j D E _
   unfold od
   have u:=f.1
   refine Gl (fun g=>?_) (fun _=>Gt rfl)
   refine Gf (Gh za za) (fun e he=>?_)
   rw [w64 (n:=j+1) za za]
   refine Gz (fun _=>?_) (fun _=>Gk ⟨⟨za,za⟩,trivial⟩ za)
   refine Gl (fun _=>?_) (fun _=>Gk ⟨⟨za,za⟩,trivial⟩ za)
   refine Gl (fun _=>?_) (fun _=>Gk ⟨⟨za,za⟩,trivial⟩ za)
   exact Gt (f.2 e he.1)
  ·rintro(y|r) ho
   ·simp only at ho⊢
    subst ho
    rw [w64 (n:=y+1) za za]
    exact Gk ⟨⟨za,za⟩,trivial⟩ za
   ·exact Gt ho
 ·rintro(y|r) ho
  ·exact Gq q
  ·exact Gq ho
def cH(p:Pick):Prop:=re p.a7∧0<=p.bu∧p.bu<=p.bT∧p.bT<=p.co∧p.co<=200000∧0<=p.bH∧p.bH<=1073741823∧ -1<=p.bN∧p.bN<=1
def PickLo(p:Pick):Prop:=cH p∧p.co<=40000
def PI(n:Nat)(s:Int×Int×List Int×Int×List Pick×Int×Int×Int):Prop:=
 (0<=s.2.1∧s.2.1+s.2.2.2.2.1.length<=n)∧(0<=s.1∧s.1<=2000+1000*s.2.2.2.2.1.length)∧cv ⟨s.2.2.1,s.2.2.2.1⟩∧fV 60 ⟨s.2.2.2.2.2.1,s.2.2.2.2.2.2.1,s.2.2.2.2.2.2.2⟩∧∀p∈s.2.2.2.2.1,PickLo p
theorem k34_ok{n:Nat}(G:n<=20){Q:List Pick×List Int×Int->Prop}{s:Int×Int×List Int×Int×List Pick×Int×Int×Int}{sid:Sid}(hs:re sid)(am:Int×Src)(F:0<=am.1∧am.1<=1048576)(q:Int×Src)(hp:0<=q.1∧q.1<3)(t k:Int)(l:List Int)(at_:Int)(out:List Pick)(x y z e:Int)
  (hk:1<=k∧k+out.length<=n) (C:k=s.2.1) (D:0<=t∧t<=2000+1000*(out.length+1)) (u:cv ⟨l,at_⟩) (j:fV 60 ⟨x,y,z⟩) (g:∀p∈out,PickLo p) (he:0<=e∧e<=30000):
  Ok (jO sid am q t k l at_ out x y z e) (Gd (PI n) (fun s=>s.2.1.toNat) Q s):=by
 unfold jO
 refine Gf (dZ _ _ u za za) (fun r g1=>?_)
 refine Gf (dZ _ _ g1.2.2 za za) (fun E g2=>?_)
 refine Gf (Ge (by simp only [D4,D5];omega)) (fun H g3=>?_)
 subst g3
 rw [w64 (n:=e+r.1) za za,w64 (n:=e+r.1+E.1) za za,w64 (n:=q.1-1) za za,w64 (n:=k-1) za za]
 refine Gk ⟨⟨zd,by simp only [Ec,D4,D5];omega⟩,⟨D.1,by simp only [Ec,D4,D5];omega⟩,g2.2.2,j,fun p f=>?_⟩ zd
 simp only [FV,FW]at f
 rcases f with f|rfl
 ·exact g p f
 ·exact⟨⟨hs,zd,zd,zd,zd,zd,zd,zd,zd⟩,zd⟩
theorem l55_ok(pl:ag×Bool)(C:fV 60 pl.1)(x y z t k:Int)(out:List Pick)(N:fV 60 ⟨x,y,z⟩):Ok (cI (ni pl x y z t k out) (0:Int)) (fun o=>o.1=t∧o.2.1=k∧(0<=o.2.2.1∧o.2.2.1<=300)∧o.2.2.2.1=out∧o.2.2.2.2.1=x∧o.2.2.2.2.2.1=y∧o.2.2.2.2.2.2=z):=by
 obtain⟨a1,a2,a3⟩:=C
 obtain⟨g,j,r⟩:=N
 simp only at g j r
 have f:∀(u v:Int), -60<=u->u<=60-> -60<=v->v<=60->∃q,qu (Fb .i64 (u-v))=some q∧0<=q∧q<=14400:=by
  intro u v h1 Q T U
  have E: -120<=u-v∧u-v<=120:=by omega
  rw [w64 za za]
  have F:0<=(u-v)*(u-v)∧(u-v)*(u-v)<=14400:=by
   constructor
   ·rcases GC 0 (u-v)with h|h
    ·exact GK h h
    ·exact GL h h
   ·rcases GC 0 (u-v)with h|h
    ·calc (u-v)*(u-v)<=120*120:=GI E.2 E.2 h za
      _=14400:=by decide
    ·have:(u-v)*(u-v)=(v-u)*(v-u):=by
      rw [<-GP];congr 1<;>omega
     rw [this]
     calc (v-u)*(v-u)<=120*120:=GI za za za za
      _=14400:=by decide
  refine⟨_,by unfold qu;rw [w64 za za],F.1,F.2⟩
 obtain⟨G,I,W,u1⟩:=f pl.1.fX x a1.1 a1.2 g.1 g.2
 obtain⟨H,e2,X,u2⟩:=f pl.1.fY y a2.1 a2.2 j.1 j.2
 obtain⟨O,J,Y,u3⟩:=f pl.1.fZ z a3.1 a3.2 r.1 r.2
 refine Gi (fun s=>0<=s∧s<=300) (fun s=>(300-s).toNat) (fun s hs=>?_) ⟨GB _,za⟩
 unfold ni
 rw [I,e2,J]
 simp only [ze]
 rw [w64 (n:=G+H) za za,w64 (n:=G+H+O) za za]
 have L : 0 ≤ s * s ∧ s * s ≤ 90000 := ⟨GK hs.1 hs.1, by
  calc s*s<=300*300:=GI hs.2 hs.2 hs.1 za
   _=90000:=by decide⟩
 rw [w64 (n:=s*s) za za]
 refine Gl (fun K=>?_) (fun _=>Gt ⟨rfl,rfl,hs,rfl,rfl,rfl,rfl⟩)
 have D:s<=299:=by
  rcases Int.lt_or_le 299 s with h|h
  ·exfalso
   have:s=300:=by omega
   subst this
   omega
  ·exact h
 rw [w64 (n:=s+1) za za]
 exact Gk ⟨za,za⟩ za
theorem picks_lo(a:ah)(q:gY a.ac.bj∧TabOk a.ac.bG)(v:ae)(N:InvOk v)(n:Nat)(hn:n<=20)(d:Src)(J:cv d):
  Ok (k6 a v n d) (fun r=>(r.1.length<=n∧∀p∈r.1,PickLo p)∧cv r.2):=by
 unfold k6
 refine Gf (point_ok _ q.1 d J) (fun x1 h1=>?_)
 refine Gf (dZ _ _ h1.2 za za) (fun x2 H=>?_)
 rw [w64 (n:=(n:Int)+1) za za]
 refine Gf (dZ _ _ H.2.2 za za) (fun x3 I=>?_)
 rw [w64 (n:=1000+x2.1) za za]
 refine Gf (P:=fun o=>(o.1.length<=n∧∀p∈o.1,PickLo p)∧cv ⟨o.2.1,o.2.2⟩) (Gi (PI n) (fun s=>s.2.1.toNat) ?_ ⟨⟨zd,by simp only [D5];omega⟩,⟨zd,by simp only [D5];omega⟩,I.2.2,h1.1,zc⟩) (fun o ho=>Gq ⟨ho.1,ho.2⟩)
 rintro⟨u,s5,s6,s7,s8,s9,Y,a5⟩ ⟨i0,i1,i2,i3,i4⟩
 simp only at i0 i1 i2 i3 i4
 unfold oH
 refine Gl (fun K=>?_) (fun _=>Gt ⟨⟨zd,i4⟩,i2⟩)
 refine Gf (dZ _ _ i2 za za) (fun y1 g1=>?_)
 refine Gf (source_ok _) (fun y2 g2=>?_)
 refine Gf (fd _ _ g1.2.2 zc zc) (fun j g3=>?_)
 have g:0<=j.1∧j.1<=1048576:=by have:=g3.1;simp at this;omega
 refine Gf (dZ _ _ g3.2 za za) (fun k g4=>?_)
 refine Gf (dZ _ _ g4.2.2 za za) (fun y5 g5=>?_)
 refine Gf (dZ _ _ g5.2.2 za za) (fun y6 g6=>?_)
 rw [w64 (n:=1000+y5.1) za za]
 refine Gu (fun _=>?_) (fun _=>Gu (fun _=>?_) (fun _=>?_))
 ·refine Gf (point_ok _ q.1 _ g6.2.2) (fun F g7=>?_)
  refine Gf (dZ _ _ g7.2 za za) (fun G g8=>?_)
  rw [w64 (n:=u+G.1) za za]
  exact k34_ok za g2 j g k ⟨g4.1,g4.2.1⟩ _ _ _ _ _ _ _ _ _ za rfl za g8.2.2 g7.1 i4 za
 ·exact k34_ok za g2 j g k ⟨g4.1,g4.2.1⟩ _ _ _ _ _ _ _ _ _ za rfl za g6.2.2 i3 i4 za
 ·refine Gf (kplace_ok v N _ _) (fun F g7=>?_)
  refine Gz (fun _=>?_) (fun _=>?_)
  ·refine Gf (l55_ok F g7 _ _ _ _ _ _ i3) (fun o ho=>?_)
   obtain⟨O,Q,E,T,U,W,X⟩:=ho
   have f:=q.2
   have hl:=f.len
   have L:=f.step
   refine Gf (Gm za) (fun G g8=>?_)
   have hq:0<=o.2.2.1.tdiv a.ac.bG.bQ∧o.2.2.1.tdiv a.ac.bG.bQ<=300:=by
    refine⟨GV E.1 za,?_⟩
    have:=GU (b:=a.ac.bG.bQ) E.1
    omega
   rw [w64 za za]at g8
   subst g8
   rw [w64 (n:=(a.ac.bG.bt.length:Int)-1) za za]
   refine Gf (Gh (by split<;>omega) (by split<;>omega)) (fun D g9=>?_)
   have hb:=f.low D g9.1
   refine Gf (dZ _ _ g6.2.2 za za) (fun C g10=>?_)
   rw [O,Q,T,U,W,X,w64 (n:=u+D) za za,w64 (n:=u+D+C.1) za za]
   exact k34_ok za g2 j g k ⟨g4.1,g4.2.1⟩ _ _ _ _ _ _ _ _ _ za rfl za g10.2.2 i3 i4 za
  ·exact k34_ok za g2 j g k ⟨g4.1,g4.2.1⟩ _ _ _ _ _ _ _ _ _ za rfl za g6.2.2 i3 i4 za
theorem picks_ok(a:ah)(f:gY a.ac.bj∧TabOk a.ac.bG)(v:ae)(k:InvOk v)(n:Nat)(j:n<=20)(d:Src)(g:cv d):
  Ok (k6 a v n d) (fun r=>(r.1.length<=n∧∀p∈r.1,cH p)∧cv r.2):=(picks_lo a f v k n j d g).mono fun _ h=>⟨⟨h.1.1,fun p hp=>(h.1.2 p hp).1⟩,h.2⟩
end Go.Dw.Re
set_option maxRecDepth 100000
set_option maxHeartbeats 4000000
namespace Go.Dw.Re
open Go.Dw
theorem ec{α:Type}{l m:List α}{b:Nat}(h:(l.length+m.length)*b<=140737488355328):rR l m b=some (l++m):=by
 unfold rR
 rw [if_pos h]
namespace Sd
abbrev Src:=bn
theorem eq_src(a b:Src):((a.bI==b.bI)&&((a.bw==b.bw)&&((a.bc==b.bc)&&((a.bL==b.bL)&&true))))=decide (a=b):=by
 obtain⟨n,t,l,c⟩:=a
 obtain⟨r,t',q,f⟩:=b
 simp only [bn.mk.injEq]
 by_cases g:n=r<;>by_cases e2:t=t'<;>by_cases j:l=q<;>by_cases k:c=f<;>simp [g,e2,j,k]
theorem cmp_str(a b:List UInt8):dH a b=some (ve a b):=by
 unfold dH iR
 simp only [beq_self_eq_true,Bool.not_true,ze,EL,if_false]
 unfold ve
 cases h:Op.bytesLess a b with
 |true=>simp
 |false=>by_cases e:a=b<;>simp [e]
theorem rx{l:List Int}{i j:Nat}(g:j=i+1)(hi:i<l.length)(hl:l.length<1000)(f:l[i]=0):eF l i=some (.next (j:Int)):=by
 subst g
 unfold eF
 rw [if_pos so,py rfl hi]
 simp only [ze,f,w64 (n:=(i:Int)+1) za za]
 rfl
theorem ry{l:List Int}{i:Nat}(hi:i<l.length)(f:l[i]≠0):eF l i=some (.stop (.inr l[i])):=by
 unfold eF
 rw [if_pos so,py rfl hi]
 simp only [ze]
 rw [if_pos (by simpa using f)]
theorem or_end{l:List Int}{n:Nat}(f:n=l.length):eF l n=some (.stop (.inl ())):=by
 subst f
 unfold eF
 rw [if_neg zc]
theorem or4(a b c d:Int):dI [a,b,c,d]=some (if a≠0 then a else if b≠0 then b else if c≠0 then c else d):=by
 show((cI (eF [a,b,c,d]) ((0:Nat):Int)).bind _)=_
 by_cases f:a=0
 ·rw [rZ (rx (i:=0) (j:=1) rfl zc zc (by simpa using f)),if_neg (by simpa using f)]
  by_cases g:b=0
  ·rw [rZ (rx (i:=1) (j:=2) rfl zc zc (by simpa using g)),if_neg (by simpa using g)]
   by_cases hc:c=0
   ·rw [rZ (rx (i:=2) (j:=3) rfl zc zc (by simpa using hc)),if_neg (by simpa using hc)]
    by_cases k:d=0
    ·rw [rZ (rx (i:=3) (j:=4) rfl zc zc (by simpa using k)),rD (or_end (n:=4) rfl)]
     rw [k];rfl
    ·rw [rD (ry (i:=3) zc (by simpa using k))];rfl
   ·rw [rD (ry (i:=2) zc (by simpa using hc)),if_pos hc];rfl
  ·rw [rD (ry (i:=1) zc (by simpa using g)),if_pos g];rfl
 ·rw [rD (ry (i:=0) zc (by simpa using f)),if_pos (by simpa using f)];rfl
def ku(a b:Src):Int:=if ve a.bI b.bI≠0 then ve a.bI b.bI else if ve a.bw b.bw≠0 then ve a.bw b.bw else if ve a.bc b.bc≠0 then ve a.bc b.bc else ve a.bL b.bL
theorem mV(a b:Src):jj a b=some (ku a b):=by
 unfold jj
 simp only [cmp_str,ze,or4]
 rfl
theorem dY:Tot ku:=(yr.map fun x:Src=>x.bI).or ((yr.map fun x:Src=>x.bw).or ((yr.map fun x:Src=>x.bc).or (yr.map fun x:Src=>x.bL)))
theorem dD{a b:Src}(h:ku a b=0):a=b:=by
 unfold ku at h
 obtain⟨n,t,l,c⟩:=a
 obtain⟨k,t',j,q⟩:=b
 simp only at h
 by_cases h1:ve n k=0
 ·rw [if_neg (by simpa using h1)]at h
  by_cases f:ve t t'=0
  ·rw [if_neg (by simpa using f)]at h
   by_cases g:ve l j=0
   ·rw [if_neg (by simpa using g)]at h
    rw [yO]at h h1 f g
    subst h h1 f g;rfl
   ·rw [if_pos g]at h;exact(g h).elim
  ·rw [if_pos f]at h;exact(f h).elim
 ·rw [if_pos h1]at h;exact(h1 h).elim
instance : DecidableEq Src := fun a b => decidable_of_iff (a.bI = b.bI ∧ a.bw = b.bw ∧ a.bc = b.bc ∧ a.bL = b.bL) (by
 obtain⟨n,t,l,c⟩:=a
 obtain⟨j,t',g,f⟩:=b
 simp)
theorem eqs(a b:Src):((a.bI==b.bI)&&((a.bw==b.bw)&&((a.bc==b.bc)&&((a.bL==b.bL)&&true))))=decide (a=b):=by
 rw [eq_src]
 exact decide_eq_decide.2 Iff.rfl
theorem lL(a b:Int):cj a b=some (sX a b):=by
 unfold cj lF sX
 simp only [bne_self_eq_false,ze,EL,if_false]
 by_cases h1:a<b
 ·rw [if_pos (decide_eq_true h1),if_pos h1]
 ·rw [if_neg (by simpa using h1),if_neg h1]
  by_cases f:a>b
  ·rw [if_pos (decide_eq_true f),if_pos f]
  ·rw [if_neg (by simpa using f),if_neg f]
theorem or_go{l:List Int}{n:Nat}{r:List Int}(hl:l.length<1000)(D:n<=l.length)(g:l.drop n=r):cI (eF l) (n:Int)=some (match r.find? (fun x=>decide (x≠0))with|some x=>.inr x|none=>.inl ()):=by
 induction r generalizing n with
 |nil=>
  have:n=l.length:=by
   have:=congrArg G4 g
   simp at this;omega
  rw [rD (or_end this)];rfl
 |cons a r C=>
  have f:n<l.length:=by
   have:=congrArg G4 g
   simp at this;omega
  have q:l[n]=a:=by
   rw [GY f]at g
   exact(List.cons.inj g).1
  have u:l.drop (n+1)=r:=by
   rw [GY f]at g
   exact(List.cons.inj g).2
  by_cases k:a=0
  ·rw [rZ (rx (i:=n) (j:=n+1) rfl f hl (by rw [q,k])),C za u]
   simp [GZ,k]
  ·rw [rD (ry f (by rw [q];exact k)),q]
   simp [GZ,k]
theorem or6(a b c d e f:Int):dI [a,b,c,d,e,f]=some (if a≠0 then a else if b≠0 then b else if c≠0 then c else if d≠0 then d else if e≠0 then e else f):=by
 unfold dI
 have:=or_go (l:=[a,b,c,d,e,f]) (n:=0) (r:=[a,b,c,d,e,f]) zc zc rfl
 rw [show((0:Int))=((0:Nat):Int)from rfl,this]
 by_cases g:a=0<;>by_cases j:b=0<;>by_cases hc:c=0<;>by_cases k:d=0<;>by_cases he:e=0<;>by_cases hf:f=0<;>simp [GZ,g,j,hc,k,he,hf]
end Sd
open Sd (ku dY dD)
def db(a b:Pick):Int:=if ku a.a7 b.a7≠0 then ku a.a7 b.a7 else if sX a.bT b.bT≠0 then sX a.bT b.bT else if sX a.bu b.bu≠0 then sX a.bu b.bu else if sX a.co b.co≠0 then sX a.co b.co else if sX a.bH b.bH≠0 then sX a.bH b.bH else sX a.bN b.bN
theorem mV(a b:Pick):cS a b=some (db a b):=by
 unfold cS
 simp only [Sd.mV,Sd.lL,ze,Sd.or6]
 rfl
theorem cB:Tot db:=(dY.map fun x:Pick=>x.a7).or ((tv.map fun x:Pick=>x.bT).or ((tv.map fun x:Pick=>x.bu).or ((tv.map fun x:Pick=>x.co).or ((tv.map fun x:Pick=>x.bH).or (tv.map fun x:Pick=>x.bN)))))
theorem oa{a b:Int}(h:(if a≠0 then a else b)=0):a=0∧b=0:=by
 by_cases h1:a=0
 ·rw [if_neg (by simpa using h1)]at h;exact⟨h1,h⟩
 ·rw [if_pos h1]at h;exact(h1 h).elim
theorem jP{a b:Pick}(h:db a b=0):a=b:=by
 unfold db at h
 obtain⟨h1,h⟩:=oa h
 obtain⟨f,h⟩:=oa h
 obtain⟨g,h⟩:=oa h
 obtain⟨j,h⟩:=oa h
 obtain⟨k,q⟩:=oa h
 rw [xC]at f g j k q
 have:=dD h1
 obtain⟨a1,a2,a3,a4,a5,r⟩:=a
 obtain⟨u,C,D,E,F,G⟩:=b
 simp only at*
 subst this f g j k q
 rfl
theorem lt3_eq:lt3 cS=fun x y=>decide (db x y<0):=by
 funext x y
 unfold lt3
 rw [mV];rfl
theorem Compare_ok:CmpOk cS:=⟨fun x y=>⟨_,mV x y⟩,by rw [lt3_eq];exact cB.swo⟩
instance : DecidableEq Pick := fun a b => decidable_of_iff (a.a7 = b.a7 ∧ a.bT = b.bT ∧ a.bu = b.bu ∧ a.co = b.co ∧ a.bH = b.bH ∧ a.bN = b.bN) (by
 obtain⟨a1,a2,a3,a4,a5,f⟩:=a
 obtain⟨g,j,k,q,r,u⟩:=b
 simp)
def eqF(a b:Pick):Bool:=((a.a7.bI==b.a7.bI)&&((a.a7.bw==b.a7.bw)&&((a.a7.bc==b.a7.bc)&&((a.a7.bL==b.a7.bL)&&true))))&&((a.bT==b.bT)&&((a.bu==b.bu)&&((a.co==b.co)&&((a.bH==b.bH)&&((a.bN==b.bN)&&true)))))
theorem eqs(a b:Pick):eqF a b=decide (a=b):=by
 obtain⟨a1,a2,a3,a4,a5,f⟩:=a
 obtain⟨g,j,k,q,r,u⟩:=b
 unfold eqF
 simp only [Sd.eqs,aa.mk.injEq]
 by_cases C:a1=g<;>by_cases e2:a2=j<;>by_cases D:a3=k<;>by_cases E:a4=q<;>by_cases F:a5=r<;>by_cases G:f=u<;>simp [C,e2,D,E,F,G]
theorem sub_part{α β:Type}(l:List α)(o:Int)(f:List α->β):((vB l.length (0:Int) o).bind fun _=>(zB l (0+(0:Int).toNat) (0+o.toNat)).bind fun x=>some (f x))=(vB l.length (0:Int) o).bind fun _=>some (f (l.take o.toNat)):=by
 unfold vB
 split
 ·rename_i h
  simp only [ze]
  rw [yD za za,ze]
  simp
 ·rfl
theorem Compact_eq(l:List Pick):eT l=yt eqF ⟨⟨[],[],[],[]⟩,0,0,0,0,0⟩ l:=by
 have h1:jf=vq eqF:=by funext s d ⟨a,b,c⟩;rfl
 have f:jg=uE eqF ⟨⟨[],[],[],[]⟩,0,0,0,0,0⟩:=by
  funext d s
  unfold jg uE
  rw [h1]
  simp only [sub_part]
  rfl
 unfold eT yt
 rw [f]
 refine ite_congr rfl (fun _=>rfl) fun _=>?_
 refine congrArg _ (funext fun o=>?_)
 rcases o with _|_<;>rfl
theorem sort_at{l:List Pick}(hl:l.length<=1000):∃m,w3 cS l=some m∧m.Perm l∧m.Pairwise (fun x y=>db x y<=0):=by
 have g := zM Compare_ok (fun x y h f => by
  rw [lt3_eq]at h f
  simp only [decide_eq_false_iff_not]at h f
  have:=cB.uV x y
  exact jP za) l za
 generalize hm:(l.mergeSort fun x y=> !lt3 cS y x)=m at g
 refine⟨m,g,C2 g,?_⟩
 rw [<-hm]
 refine(List.pairwise_mergeSort ?_ ?_ l).imp ?_
 ·intro a b c h f
  rw [lt3_eq]at*
  simp only [Gb,decide_eq_false_iff_not]at*
  have:=cB.tr a b c (by have:=cB.uV a b;omega) (by have:=cB.uV b c;omega)
  have:=cB.uV a c;omega
 ·intro a b
  rw [lt3_eq]
  have:=cB.uV a b
  by_cases h:db b a<0
  ·have:¬db a b<0:=by omega
   simp [this]
  ·simp [h]
 ·intro a b h
  rw [lt3_eq]at h
  simp only [Gb,decide_eq_false_iff_not]at h
  have:=cB.uV a b;omega
theorem oz{l:List Pick}(hl:l.length<=1000):
  ∃r,de l=some r∧r.Pairwise (fun x y=>db x y<0)∧(∀x,x∈r↔x∈l)∧r.length<=l.length:=by
 have h1:sg 104 l=some l:=by
  unfold sg
  rw [if_pos za]
 obtain⟨m,f,hp,hs⟩:=sort_at hl
 have j:m.length=l.length:=hp.length_eq
 have g:eT m=some (cpt m):=by
  rw [Compact_eq]
  exact CD (fun x y=>eqs x y) za
 refine⟨cpt m,?_,wC cB (fun x y=>jP) hs,fun x=>zO.trans hp.mem_iff,by have:=Ai m;omega⟩
 unfold de
 rw [h1,ze,f,ze,g];rfl
theorem fy:∀{r s:List Pick},r.Pairwise (fun x y=>db x y<0)->s.Pairwise (fun x y=>db x y<0)->(∀x,x∈r↔x∈s)->r=s
 | [],[],_,_,_=>rfl
 | [],b::s,_,_,h=>by have:=(h b).2 zc;cases this
 |a::r,[],_,_,h=>by have:=(h a).1 zc;cases this
 |a::r,b::s,h1,D,h=>by
  obtain⟨q,E⟩:=List.pairwise_cons.1 h1
  obtain⟨u,hs⟩:=List.pairwise_cons.1 D
  have j:a=b:=by
   rcases List.mem_cons.1 ((h a).1 zc)with e|hm
   ·exact e
   ·rcases List.mem_cons.1 ((h b).2 zc)with e|k
    ·exact e.symm
    ·have G:=u a hm
     have H:=q b k
     have:=cB.uV a b
     omega
  subst j
  have C:∀{t:List Pick},(∀y∈t,db a y<0)->a∉t:=fun h F=>by have:=h a F;have:=cB.refl a;omega
  have:r=s:=fy E hs fun x=>by
   have:=h x
   simp only [Fc]at this
   constructor
   ·intro f
    rcases this.1 (.inr f)with e|g
    ·subst e;exact(C q f).elim
    ·exact g
   ·intro f
    rcases this.2 (.inr f)with e|g
    ·subst e;exact(C u f).elim
    ·exact g
  rw [this]
end Go.Dw.Re
set_option maxRecDepth 100000
set_option maxHeartbeats 4000000
namespace Go.Dw.Re
open Go.Dw Go.Proofs
open Sd (ku dY dD)
theorem sid_len{x:Sid}(h:Sq.pK x=true):Sq.SidLen x:=by
 obtain⟨h1,f,g,j⟩:=Sq.valid_len h
 exact⟨za,za,za,za⟩
theorem ou{p:Pick}(h:cH p):iW p=some true:=by
 obtain⟨f,h1,j,k,D,q,r,u,C⟩:=h
 unfold iW
 rw [Sq.Valid_eq (sid_len f),f,ze,if_pos rfl,if_pos (by simpa using h1),if_pos (by simpa using j),if_pos (by simpa using k),if_pos so]
 have g:m9 p.bH 0 1073741823=some true:=by unfold m9;rw [if_pos (by simpa using q)];simpa using r
 have e2:m9 p.bN (-1) 1=some true:=by unfold m9;rw [if_pos (by simpa using u)];simpa using C
 rw [g,ze,if_pos rfl,e2];rfl
theorem oY{l:List Pick}(hl:l.length<=1000):dg l l=some true:=by
 unfold dg
 rw [if_neg zc]
 have:Ok (cI (lZ l l) (0:Int)) (fun o=>o= .inl ()):=by
  refine Gx l.length za (fun _=>True) trivial (fun i f h1 _=>?_)
  unfold lZ
  refine Gl (fun g=>?_) (fun _=>Gt rfl)
  obtain⟨p,hp, -⟩:=Gh (l:=l) f za
  rw [hp,ze,ze,if_neg zc,w64 za za]
  exact Gk ⟨⟨za,za⟩,trivial⟩ za
 rw [this.eq];rfl
def P(t:Int):Pick:=⟨⟨[65,66],[83,49],[48,48],[66,72,90]⟩,t,t,t,0,0⟩
def S1:Sid:=⟨[65,66],[83,49],[48,48],[66,72,90]⟩
theorem qQ{α ω:Type}{body:Int->Option (gB Int (Unit⊕ω))}(l:List α){p:α->Bool}{f:Nat->α->ω}
  (h1:∀(i:Nat)(hi:i<l.length),body i=if p l[i]=true then some (.stop (.inr (f i l[i])))else some (.next ((i+1:Nat):Int)))
  (u:body (l.length:Nat)=some (.stop (.inl ()))):
  (cI body (0:Int)=some (.inl ())∧∀x∈l,p x=false)∨
  ∃(i:Nat)(hi:i<l.length),cI body (0:Int)=some (.inr (f i l[i]))∧p l[i]=true∧∀x∈l.take i,p x=false:=by
 have:∀k i,i+k=l.length->(∀x∈l.take i,p x=false)->(cI body (i:Int)=some (.inl ())∧∀x∈l,p x=false)∨
   ∃(j:Nat)(D:j<l.length),cI body (i:Int)=some (.inr (f j l[j]))∧p l[j]=true∧∀x∈l.take j,p x=false:=by
  intro k
  induction k with
  |zero=>
   intro i hi r
   obtain rfl:i=l.length:=by omega
   exact .inl ⟨rD u,by simpa using r⟩
  |succ k C=>
   intro i hi r
   have g:i<l.length:=by omega
   cases hp:p l[i]with
   |true=>exact .inr ⟨i,g,rD (by rw [h1 i g,if_pos hp]),hp,r⟩
   |false=>
    have e:=rZ (ω:=Unit⊕ω) (body:=body) (s:=(i:Int)) (s':=((i+1:Nat):Int)) (by rw [h1 i g,if_neg (by simp [hp])])
    rw [e]
    refine C (i+1) za fun x q=>?_
    rw [rF g]at q
    rcases List.mem_append.1 q with q|q
    ·exact r x q
    ·rw [FW]at q;rw [q];exact hp
 have:=this l.length 0 za zc
 simpa using this
theorem loop_find{α ω:Type}{body:Int->Option (gB Int (Unit⊕ω))}(l:List α){p:α->Bool}{f:α->ω}
  (h1:∀(i:Nat)(hi:i<l.length),body i=if p l[i]=true then some (.stop (.inr (f l[i])))else some (.next ((i+1:Nat):Int)))
  (j:body (l.length:Nat)=some (.stop (.inl ()))):cI body (0:Int)=some (match l.find? p with|none=>.inl ()|some x=>.inr (f x)):=by
 rcases qQ l (f:=fun _ x=>f x) h1 j with⟨e,h⟩|⟨i,hi,e,hp,h⟩
 ·rw [e,List.find?_eq_none.2 fun x g=>by simp [h x g]]
 ·rw [e]
  have:l.find? p=some l[i]:=by
   refine List.find?_eq_some_iff_append.2 ⟨hp,l.take i,l.drop (i+1),?_,fun x g=>by simp [h x g]⟩
   rw [<-GY hi,List.take_append_drop]
  rw [this]
theorem gR{ω:Type}{body:Int->Option (gB Int (Unit⊕ω))}(n:Nat)(h1:∀i:Nat,i<n->body i=some (.next ((i+1:Nat):Int)))(f:body (n:Nat)=some (.stop (.inl ()))):cI body (0:Int)=some (.inl ()):=by
 have:∀k i:Nat,i+k=n->cI body (i:Int)=some (.inl ()):=by
  intro k
  induction k with
  |zero=>
   intro i hi
   obtain rfl:i=n:=by omega
   exact rD f
  |succ k g=>intro i hi;rw [rZ (h1 i za)];exact g (i+1) za
 simpa using this n 0 za
theorem terms_ok{l:List Int}(hl:l.length<=1000)(h:∀x∈l, -1048576<=x∧x<=1048576):dM l=some true:=by
 unfold dM fU gO
 rw [gR l.length (fun i hi=>?_) ?_]
 ·rfl
 ·unfold ep
  rw [if_neg zc]
 ·unfold ep
  have f:=h l[i] (EJ hi)
  rw [if_pos so,py rfl hi,ze]
  unfold lw cU
  rw [if_pos (by simpa using f.1),ze,ze,if_neg (by simpa using f.2),w64 za za]
  simp
def nM(x:bh):Prop:=d9 x=some true∧(x.kk=2->x.eJ=1)∧x.eC.length<=3∧0<=x.fc∧(-1048576<=x.cg.a0∧x.cg.a0<=1048576)∧(-1048576<=x.b9.a0∧x.b9.a0<=1048576)
theorem gain_ok{a b:Int}(f:1<=a∧a<=1048576)(g:1<=b∧b<=1048576):nM ⟨0,⟨a,0,0⟩,⟨b,0,0⟩,[],0,0⟩:=by
 refine⟨?_,zc,zc,zc,zd,zd⟩
 unfold d9 cU
 simp [f.1,f.2,g.1,g.2]
theorem section_ok{a b c d e f:Int}(k: -10<=a∧a<=10)(q: -10<=b∧b<=10)(hc: -10<=c∧c<=10)(r:1<=d∧d<=10)(he: -10<=e∧e<=10)(hf: -10<=f∧f<=10):nM ⟨1,⟨a,b,c⟩,⟨d,e,f⟩,[],0,0⟩:=by
 refine⟨?_,zc,zc,zc,zd,zd⟩
 have h1:dM [a,b,c]=some true:=terms_ok zc so
 have g:dM [d,e,f]=some true:=terms_ok zc so
 have j:d≠0:=by omega
 unfold d9
 simp [h1,g,j]
theorem filter_ok{a s:Int}(r:1<=a∧a<=3)(hs:0<=s∧s<=3):nM ⟨2,⟨0,0,0⟩,⟨0,0,0⟩,[a,2,1],1,s⟩:=by
 have h1:a=1∨a=2∨a=3:=by omega
 have q:s=0∨s=1∨s=2∨s=3:=by omega
 refine⟨?_,zc,zc,hs.1,zc,zc⟩
 have k:dM [a,2,1]=some true:=terms_ok zc so
 have f:gc [a,2,1]=some (a+3):=by
  unfold gc
  rcases h1 with rfl|rfl|rfl
  ·rw [ui (n:=4) (o:=4) (by kernel_rfl)];rfl
  ·rw [ui (n:=4) (o:=5) (by kernel_rfl)];rfl
  ·rw [ui (n:=4) (o:=6) (by kernel_rfl)];rfl
 have g:a+3≠0:=by omega
 have j:0<=s∧s<=3:=by omega
 unfold d9 cU
 rw [k,f]
 simp [g,j.1]
 omega
def pf(r:bv):Prop:=r.cV.length<=3∧∀x∈r.cV,nM x
theorem oX(d:Src)(C:cv d):Ok (gZ d) (fun r=>pf r.1∧cv r.2):=by
 unfold gZ
 refine Gf (dZ _ _ C za za) (fun N h1=>?_)
 refine Gf (P:=fun o:List Int×Int×List bh=>cv ⟨o.1,o.2.1⟩∧(o.2.2.length<=3∧∀x∈o.2.2,nM x)) (Gi (fun s=>0<=s.1∧s.1+s.2.2.2.length<=3∧(∀x∈s.2.2.2,nM x)∧cv ⟨s.2.1,s.2.2.1⟩) (fun s=>s.1.toNat) ?_ ⟨zd,by simp only [D5];omega,zc,h1.2.2⟩) (fun o ho=>Gq (Q:=fun r:bv×Src=>pf r.1∧cv r.2) ⟨ho.2,ho.1⟩)
 rintro⟨s2,K,L,q⟩ ⟨i0,i1,i2,i3⟩
 simp only at i0 i1 i2 i3
 unfold k7
 have g:∀(x:bh),Ok (rR q [x] 96) (fun r=>r=q++[x]):=fun x=>Ge (by simp only [D4,D5];omega)
 have f:∀{x:bh},nM x->∀c∈q++[x],nM c:=fun E c hc=>by
  simp only [FV,FW]at hc
  rcases hc with hc|rfl
  ·exact i2 c hc
  ·exact E
 refine Gl (fun D=>?_) (fun _=>Gt ⟨i3,zd,i2⟩)
 refine Gf (dZ _ _ i3 za za) (fun F g1=>?_)
 refine Gu (fun hk=>?_) (fun _=>Gu (fun hk=>?_) (fun _=>?_))
 ·refine Gf (fd _ _ g1.2.2 zc zc) (fun j g2=>?_)
  refine Gf (fd _ _ g2.2 zc zc) (fun k g3=>?_)
  refine Gf (g _) (fun u g4=>?_)
  subst g4
  have I:0<=j.1∧j.1<=1048575:=by have:=g2.1;simp at this;omega
  have J:0<=k.1∧k.1<=999:=by have:=g3.1;simp at this;omega
  rw [w64 (n:=s2-1) za za,w64 (n:=1+j.1) za za,w64 (n:=1+k.1) za za,hk]
  exact Gk ⟨zd,by simp only [Ec,D4,D5];omega,f (gain_ok za za),g3.2⟩ zd
 ·refine Gf (dZ _ _ g1.2.2 za za) (fun j g2=>?_)
  refine Gf (dZ _ _ g2.2.2 za za) (fun k g3=>?_)
  refine Gf (dZ _ _ g3.2.2 za za) (fun u g4=>?_)
  refine Gf (dZ _ _ g4.2.2 za za) (fun G g5=>?_)
  refine Gf (dZ _ _ g5.2.2 za za) (fun O g6=>?_)
  refine Gf (dZ _ _ g6.2.2 za za) (fun T g7=>?_)
  refine Gf (g _) (fun H g8=>?_)
  subst g8
  rw [w64 (n:=s2-1) za za,w64 (n:=k.1-3) za za,w64 (n:=u.1-1) za za,w64 (n:=1+G.1) za za,hk]
  exact Gk ⟨zd,by simp only [Ec,D4,D5];omega,f (section_ok za za za za za za),g7.2.2⟩ zd
 ·refine Gf (dZ _ _ g1.2.2 za za) (fun j g2=>?_)
  refine Gf (dZ _ _ g2.2.2 za za) (fun k g3=>?_)
  refine Gf (g _) (fun H g8=>?_)
  subst g8
  rw [w64 (n:=s2-1) za za,w64 (n:=1+j.1) za za,show F.1=2 by omega]
  exact Gk ⟨zd,by simp only [Ec,D4,D5];omega,f (filter_ok za za),g3.2.2⟩ zd
theorem resp_valid{r:bv}(h:pf r):kU r=some true:=by
 obtain⟨hl,hs⟩:=h
 unfold kU
 rw [if_neg so]
 have f:dS r.cV=some false:=by
  unfold dS gf
  rw [gR r.cV.length (fun i hi=>?_) ?_]
  ·rfl
  ·unfold dT
   rw [if_neg zc]
  ·unfold dT lv
   rw [if_pos so,py rfl hi,ze,(hs _ (EJ hi)).1,ze,ze,if_neg zc,w64 za za]
   simp
 have e2:lU r.cV=some 1:=by
  unfold lU
  have:Ok (cI (jD r.cV) ((1:Int),(0:Int))) (fun o=>o= .inl 1):=by
   refine Gi (fun s=>s.1=1∧0<=s.2∧s.2<=r.cV.length) (fun s=>((r.cV.length:Int)-s.2).toNat) ?_ ⟨rfl,GB _,zc⟩
   rintro⟨s1,s2⟩ ⟨i0,i1,i2⟩
   simp only at i0 i1 i2
   subst i0
   unfold jD
   dsimp only
   refine Gl (fun g=>?_) (fun _=>Gt rfl)
   refine Gf (Gh za za) (fun x j=>?_)
   rw [w64 (n:=s2+1) za za]
   refine Gw (fun _=>Gk ⟨rfl,zd,zd⟩ zd) (fun hk=>?_)
   rw [(hs x j.1).2.1 hk]
   refine Gl (fun hc=>absurd hc (by decide)) (fun _=>?_)
   rw [w64 (n:=1*1) za za]
   exact Gk ⟨rfl,zd,zd⟩ zd
  rw [this.eq];rfl
 rw [f,ze,if_neg zc,e2];rfl
def RateOk(r:cG):Prop:=r.b9=1∧(r.cg=100∨r.cg=50∨r.cg=51)
theorem rate_valid{r:cG}(h:RateOk r):pC r=some true:=by
 obtain⟨n,d⟩:=r
 obtain⟨h1,f⟩:=h
 simp only at h1 f
 subst h1
 unfold pC rate_gcd rate_in
 rcases f with rfl|rfl|rfl
 ·rw [ui (n:=4) (o:=(1:Int)) (by kernel_rfl)];rfl
 ·rw [ui (n:=4) (o:=(1:Int)) (by kernel_rfl)];rfl
 ·rw [ui (n:=4) (o:=(1:Int)) (by kernel_rfl)];rfl
structure EpOk(e:az):Prop where
 lo:0<=e.ca
 lt:e.ca<e.fTo
 hi:e.fTo<=10000000
 from_:e.ca<=2000
 rate:RateOk e.nA
 resp:pf e.bW
 pos:fV 60 e.bV
theorem ep_valid{e:az}(h:EpOk e):ie e=some true:=by
 obtain⟨h1,j,r, -,k,q,⟨u,C⟩,⟨D,E⟩,F,G⟩:=h
 have f:∀{x a b:Int},a<=x->x<=b->ik x a b=some true:=fun h g=>by
  unfold ik;rw [if_pos (by simpa using h)];simpa using g
 unfold ie
 rw [if_pos (by simpa using h1), if_pos (by simpa using j), if_pos so, rate_valid k, ze, if_pos rfl, resp_valid q, ze, if_pos rfl,
  f za za,ze,if_pos rfl,f za za,ze,if_pos rfl,f za za]
 rfl
structure ow(l:List az):Prop where
 ne:l≠ []
 len:l.length<=2
 all:∀e∈l,EpOk e
 ord:(l.map fun e=>(e.ca,e.fTo)).Pairwise (fun a b=>a.2<=b.1)
theorem epochs_valid{l:List az}(h:ow l):ld l=some true:=by
 have hlen:=h.len
 have g:=List.length_pos_iff.2 h.ne
 unfold ld
 rw [gR l.length (fun i hi=>?_) ?_,ze]
 ·dsimp only
  unfold ik
  rw [if_pos so,ze]
  simp;omega
 ·unfold ij
  rw [if_neg zc]
 ·unfold ij
  rw [if_pos so,py rfl hi,ze,ep_valid (h.all _ (EJ hi)),ze,if_neg zc,w64 (n:=(i:Int)+1) za za]
  by_cases f:i=0
  ·subst f;rfl
  ·rw [if_pos so,w64 za za,py (i:=i-1) za za,ze]
   have:=List.pairwise_iff_getElem.1 h.ord (i-1) i so (by simpa using hi) za
   simp only [G3]at this
   rw [if_neg (by simpa using this)]
   simp
def ChOk(c:aj):Prop:=re c.a7∧ow c.ct
structure fq(v:ae):Prop where
 len:v.a8.length<=6
 all:∀c∈v.a8,ChOk c
 ord:(v.a8.map (·.a7)).Pairwise (fun a b=>ku a b<0)
theorem fq.inv{v:ae}(h:fq v):InvOk v:=⟨h.len,fun c hc=>⟨by have:=(h.all c hc).2.len;omega,fun e he=>((h.all c hc).2.all e he).pos⟩⟩
theorem l9{v:ae}(h:fq v):cO v=some true:=by
 have hlen:=h.len
 unfold cO
 rw [gR v.a8.length (fun i hi=>?_) ?_,ze]
 ·simp;omega
 ·unfold iF
  rw [if_neg zc]
 ·unfold iF
  obtain⟨f,g⟩:=h.all _ (EJ hi)
  rw [if_pos so,py rfl hi,ze,Sq.Valid_eq (sid_len f),f,ze,if_neg zc,epochs_valid g,ze,if_neg zc,w64 (n:=(i:Int)+1) za za]
  by_cases j:i=0
  ·subst j;rfl
  ·rw [if_pos so,w64 za za,py (i:=i-1) za za,ze,Sd.mV,ze]
   have:=List.pairwise_iff_getElem.1 h.ord (i-1) i so (by simpa using hi) za
   simp only [G3]at this
   rw [if_neg (by simpa using this)]
   simp
def sid(i:Nat):Sid:=⟨[65,66],stas.getD i [],[48,48],[66,72,90]⟩
theorem source_at{n:Int}{i:Nat}(f:n=i)(hi:i<6):gj n=some (sid i):=by
 subst f
 have:i=0∨i=1∨i=2∨i=3∨i=4∨i=5:=by omega
 rcases this with rfl|rfl|rfl|rfl|rfl|rfl<;>(show gj _=some _;kernel_rfl)
theorem sid_ok{i:Nat}(hi:i<6):re (sid i):=by
 have:i=0∨i=1∨i=2∨i=3∨i=4∨i=5:=by omega
 rcases this with rfl|rfl|rfl|rfl|rfl|rfl<;>(show Sq.pK _=true;decide+kernel)
theorem sid_lt{i j:Nat}(h:i<j)(g:j<6):ku (sid i) (sid j)<0:=by
 have h1:i=0∨i=1∨i=2∨i=3∨i=4:=by omega
 have f:j=1∨j=2∨j=3∨j=4∨j=5:=by omega
 rcases h1 with rfl|rfl|rfl|rfl|rfl<;>rcases f with rfl|rfl|rfl|rfl|rfl<;>first|omega|decide+kernel
theorem eps1{e:az}(h:EpOk e):ow [e]:=⟨zc,zc,by simpa using h,zc⟩
theorem eps2{e f:az}(h:EpOk e)(g:EpOk f)(ho:e.fTo<=f.ca):ow [e,f]:=⟨zc,zc,by simp;exact⟨h,g⟩,by simpa using ho⟩
def SitesI(s:Int×List Int×Int×List aj):Prop:=∃i:Nat,s.1=i∧i<=6∧s.2.2.2.map (·.a7)=(DO i).map sid∧(∀c∈s.2.2.2,ow c.ct)∧cv ⟨s.2.1,s.2.2.1⟩
theorem sitesV{n:Int}(d:Src)(H:cv d):Ok (gP n d) (fun r=>fq r.1∧cv r.2):=by
 unfold gP
 refine Gf (P:=fun o=>cv ⟨o.1,o.2.1⟩∧fq ⟨o.2.2⟩) (Gi SitesI (fun s=>(6-s.1).toNat) ?_ ⟨0,rfl,za,rfl,zc,H⟩) (fun o ho=>Gq ⟨ho.2,ho.1⟩)
 rintro⟨s1,s2,L,q⟩ ⟨i,i0,i1,i2,i3,i4⟩
 simp only at i0 i1 i2 i3 i4
 subst i0
 have hlen:q.length=i:=by have:=congrArg G4 i2;simpa using this
 unfold lC
 have g:∀(x:aj),Ok (rR q [x] 88) (fun r=>r=q++[x]):=fun x=>Ge (by simp only [D4,D5];omega)
 have k:fq ⟨q⟩:=by
  refine⟨zd,fun c hc=>⟨?_,i3 c hc⟩,?_⟩
  ·have:c.a7∈q.map (·.a7):=List.mem_map.2 ⟨c,hc,rfl⟩
   rw [i2]at this
   obtain⟨j,I,e⟩:=List.mem_map.1 this
   rw [<-e]
   exact sid_ok (by have:=List.mem_range.1 I;omega)
  ·simp only
   rw [i2,G8]
   exact List.pairwise_lt_range.imp_of_mem fun O G E=>sid_lt E (by have:=List.mem_range.1 G;omega)
 have f:∀{l:List az}{t:Src},i<6->ow l->cv t->Ok (some (.next ((i:Int)+1,t.fL,t.fAt,q++[⟨sid i,l⟩]))) (Gd SitesI (fun s=>(6-s.1).toNat) (fun o:List Int×Int×List aj=>cv ⟨o.1,o.2.1⟩∧fq ⟨o.2.2⟩) ((i:Int),s2,L,q)):=fun{l t}hi hl K=>by
  refine Gk ⟨i+1,zc,za,?_,fun c hc=>?_,K⟩ zd
  ·simp [List.range_succ,i2]
  ·simp only [FV,FW]at hc
   rcases hc with hc|rfl
   ·exact i3 c hc
   ·exact hl
 refine Gl (fun J=>?_) (fun _=>Gt ⟨i4,k⟩)
 refine Gl (fun _=>?_) (fun _=>Gt ⟨i4,k⟩)
 have hi:i<6:=by omega
 refine Gf (mH 60 za za _ i4) (fun Q g1=>?_)
 refine Gf (oX _ g1.2) (fun T g2=>?_)
 rw [source_at rfl hi,ze]
 refine Gf (dZ _ _ g2.2 za za) (fun U g4=>?_)
 rw [w64 (n:=(i:Int)+1) za za]
 have D:RateOk ⟨100,1⟩:=⟨rfl,.inl rfl⟩
 refine Gu (fun _=>?_) (fun _=>Gu (fun _=>?_) (fun _=>?_))
 ·refine Gf (dZ _ _ g4.2.2 za za) (fun F g5=>?_)
  refine Gf (mH 60 za za _ g5.2.2) (fun W g6=>?_)
  refine Gf (oX _ g6.2) (fun X g7=>?_)
  refine Gf (Gv za zc) (fun _ _=>?_)
  refine Gf (Gj za zc) (fun N g8=>?_)
  obtain⟨x,u,rfl⟩:=g8
  simp at u
  subst u
  refine Gf (Ge zc) (fun Y g9=>?_)
  subst g9
  refine Gf (g _) (fun C g10=>?_)
  subst g10
  rw [w64 (n:=1500+F.1) za za]
  exact f hi (eps2 ⟨zc,zd,zd,zc,D,g2.1,g1.1⟩ ⟨zd,zd,zc,zd,D,g7.1,g6.1⟩ zc) g7.2
 ·refine Gf (dZ _ _ g4.2.2 za za) (fun F g5=>?_)
  refine Gf (Gv za zc) (fun _ _=>?_)
  refine Gf (Gj za zc) (fun N g8=>?_)
  obtain⟨x,u,rfl⟩:=g8
  simp at u
  subst u
  refine Gf (g _) (fun C g10=>?_)
  subst g10
  exact f hi (eps1 ⟨g5.1,zd,zc,zd,D,g2.1,g1.1⟩) g5.2.2
 ·refine Gf (g _) (fun C g10=>?_)
  subst g10
  exact f hi (eps1 ⟨zc,zc,zc,zc,D,g2.1,g1.1⟩) g4.2.2
theorem ow.set{l:List az}(h:ow l){k:Nat}{x y:az}(f:l[k]? =some x)(h1:y.ca=x.ca)(g:y.fTo=x.fTo)(u:EpOk y):ow (l.set k y):=by
 obtain⟨hk,r⟩:=List.getElem?_eq_some_iff.1 f
 refine⟨fun e=>h.ne (by simpa using e),by simpa using h.len,fun e he=>?_,?_⟩
 ·rcases List.mem_or_eq_of_mem_set he with q|rfl
  ·exact h.all e q
  ·exact u
 ·have:(l.set k y).map (fun e=>(e.ca,e.fTo))=l.map (fun e=>(e.ca,e.fTo)):=by
   apply List.ext_getElem?
   intro j
   simp only [EY,List.getElem?_set]
   by_cases e:k=j
   ·subst e
    rw [if_pos rfl,if_pos hk,f];simp [h1,g]
   ·rw [if_neg e]
  rw [this];exact h.ord
theorem ow.last{l:List az}(h:ow l){x y:az}(f:l[l.length-1]? =some x)(h1:y.ca=x.ca)(g:EpOk y):ow (l.set (l.length-1) y):=by
 obtain⟨a1,a2,a3,a4⟩:=h
 rcases l with _|⟨a,_|⟨b,_|⟨c,l⟩⟩⟩
 ·exact(a1 rfl).elim
 ·exact eps1 g
 ·simp at f
  subst f
  exact eps2 (a3 a zc) g (by rw [h1];simpa using a4)
 ·simp at a2
def CorrI(v:ae)(s:Int×List Int×Int×List aj):Prop:=∃i:Nat,s.1=i∧i<=v.a8.length∧(s.2.2.2.map (·.a7)).Sublist ((v.a8.take i).map (·.a7))∧(∀c∈s.2.2.2,ow c.ct)∧cv ⟨s.2.1,s.2.2.1⟩
theorem correctedV(v:ae)(K:fq v)(d:Src)(hd:cv d):Ok (lA v d) (fun r=>fq r.1∧cv r.2):=by
 have b0:=K.len
 unfold lA
 refine Gf (P:=fun o=>cv ⟨o.1,o.2.1⟩∧fq ⟨o.2.2⟩) (Gi (CorrI v) (fun s=>((v.a8.length:Int)-s.1).toNat) ?_ ⟨0,rfl,za,zc,zc,hd⟩) (fun o ho=>Gq ⟨ho.2,ho.1⟩)
 rintro⟨s1,s2,s3,F⟩ ⟨i,i0,i1,i2,i3,i4⟩
 simp only at i0 i1 i2 i3 i4
 subst i0
 have hlen:F.length<=i:=by have:=i2.length_le;simp at this;omega
 unfold ml
 have j:∀(x:aj),Ok (rR F [x] 88) (fun r=>r=F++[x]):=fun x=>Ge (by simp only [D4,D5];omega)
 have G:fq ⟨F⟩:=by
  refine⟨zd,fun c hc=>⟨?_,i3 c hc⟩,?_⟩
  ·have:c.a7∈F.map (·.a7):=List.mem_map.2 ⟨c,hc,rfl⟩
   obtain⟨Y,O,e⟩:=List.mem_map.1 (i2.subset this)
   rw [<-e]
   exact(K.all Y (List.mem_of_mem_take O)).1
  ·exact((K.ord.sublist (List.Sublist.map _ (List.take_sublist i _)))).sublist i2
 refine Gl (fun a9=>?_) (fun _=>Gt ⟨i4,G⟩)
 have hi:i<v.a8.length:=by omega
 have H:(v.a8.take (i+1)).map (·.a7)=(v.a8.take i).map (·.a7)++[v.a8[i].a7]:=by
  rw [rF hi,F2];rfl
 have g:∀{l:List az}{t:Src},ow l->cv t->Ok (some (.next ((i:Int)+1,t.fL,t.fAt,F++[⟨v.a8[i].a7,l⟩]))) (Gd (CorrI v) (fun s=>((v.a8.length:Int)-s.1).toNat) (fun o:List Int×Int×List aj=>cv ⟨o.1,o.2.1⟩∧fq ⟨o.2.2⟩) ((i:Int),s2,s3,F)):=fun{l t}hl ht=>by
  refine Gk ⟨i+1,zc,za,?_,fun c hc=>?_,ht⟩ zd
  ·rw [H,F2]
   exact List.Sublist.append i2 (List.Sublist.refl _)
  ·simp only [FV,FW]at hc
   rcases hc with hc|rfl
   ·exact i3 c hc
   ·exact hl
 rw [py rfl hi,ze]
 have E:=(K.all _ (EJ hi)).2
 generalize v.a8[i]=c at*
 have a5:=E.len
 have a6:=List.length_pos_iff.2 E.ne
 refine Gf (Ge (by simp only [D5];omega)) (fun y1 g1=>?_)
 rw [List.nil_append]at g1
 subst g1
 refine Gf (dZ _ _ i4 za za) (fun y2 g2=>?_)
 refine Gf (dZ _ _ g2.2.2 za za) (fun y3 g3=>?_)
 rw [w64 (n:=(i:Int)+1) za za]
 have C:∀{k:Int}{x:az},c.ct[k.toNat]? =some x->EpOk x:=fun h=>E.all _ (D6 h)
 refine Gu (fun _=>?_) (fun _=>Gu (fun _=>?_) (fun _=>Gu (fun _=>?_) (fun _=>Gu (fun _=>?_) (fun _=>Gu (fun _=>?_) (fun _=>?_)))))
 ·refine Gf (mH 60 za za _ g3.2.2) (fun J g4=>?_)
  refine Gf (Gv za za) (fun _ _=>?_)
  refine Gf (Gj za za) (fun L g5=>?_)
  obtain⟨x,D,rfl⟩:=g5
  have f:=C D
  refine Gf (j _) (fun N g6=>?_)
  subst g6
  exact g (E.set D rfl rfl ⟨f.lo,f.lt,f.hi,f.from_,f.rate,f.resp,g4.1⟩) g4.2
 ·refine Gf (oX _ g3.2.2) (fun J g4=>?_)
  refine Gf (Gv za za) (fun _ _=>?_)
  refine Gf (Gj za za) (fun L g5=>?_)
  obtain⟨x,D,rfl⟩:=g5
  have f:=C D
  refine Gf (j _) (fun N g6=>?_)
  subst g6
  exact g (E.set D rfl rfl ⟨f.lo,f.lt,f.hi,f.from_,f.rate,g4.1,f.pos⟩) g4.2
 ·rw [w64 (n:=(c.ct.length:Int)-1) za za]
  refine Gf (Gv za za) (fun _ _=>?_)
  refine Gf (Gh za za) (fun x D=>?_)
  refine Gf (dZ _ _ g3.2.2 za za) (fun J g4=>?_)
  refine Gf (fd _ _ g4.2.2 zc zc) (fun L g5=>?_)
  refine Gf (Gv za za) (fun _ _=>?_)
  refine Gf (Gj za za) (fun N g6=>?_)
  obtain⟨T,f,rfl⟩:=g6
  obtain rfl:T=x:=by rw [D.2]at f;exact(Option.some.inj f).symm
  have hb:∃q,J.1*L.1=q∧0<=q∧q<=3999000:=by
   have:=g5.1
   simp at this
   rcases this with e|e<;>rw [e]<;>exact⟨_,rfl,za,za⟩
  obtain⟨q,hq,q0,q1⟩:=hb
  have u:=C D.2
  have W:=u.lt
  have I:=u.lo
  have U:=u.hi
  rw [hq,w64 (n:=q) za za,w64 (n:=T.ca+1) za za,w64 (n:=T.ca+1+q) za za]
  refine Gf (j _) (fun y7 g7=>?_)
  subst g7
  have Q:=u.from_
  have hk:((c.ct.length:Int)-1).toNat=c.ct.length-1:=by omega
  rw [hk]at f⊢
  exact g (E.last f rfl ⟨I,zd,zd,Q,u.rate,u.resp,u.pos⟩) g5.2
 ·exact Gk ⟨i+1,zc,za,i2.trans (by rw [H];exact List.sublist_append_left _ _),i3,g3.2.2⟩ zd
 ·refine Gf (dZ _ _ g3.2.2 za za) (fun J g4=>?_)
  refine Gf (Gv za za) (fun _ _=>?_)
  refine Gf (Gj za za) (fun L g5=>?_)
  obtain⟨x,D,rfl⟩:=g5
  have f:=C D
  refine Gf (Gv za so) (fun _ _=>?_)
  refine Gf (Gj za so) (fun N g6=>?_)
  obtain⟨z,X,rfl⟩:=g6
  have hk:y2.1.toNat<c.ct.length:=by omega
  rw [List.getElem?_set_self hk]at X
  cases X
  rw [List.set_set]
  refine Gf (j _) (fun y7 g7=>?_)
  subst g7
  rw [w64 (n:=50+J.1) za za]
  exact g (E.set D rfl rfl ⟨f.lo,f.lt,f.hi,f.from_,⟨rfl,zd⟩,f.resp,f.pos⟩) g4.2.2
 ·refine Gf (j _) (fun N g6=>?_)
  subst g6
  exact g E g3.2.2
end Go.Dw.Re
set_option maxRecDepth 100000
set_option maxHeartbeats 4000000
namespace Go.Dw.Re
open Go.Dw Go.Proofs
open Sd (ku dY dD)
theorem gz{α:Type}{n:Nat}{l:List α}(h:l.length*n<=140737488355328):sg n l=some l:=by
 unfold sg;rw [if_pos h]
def pc(r:bv):Prop:=r.cV.length<=1000∧∀x∈r.cV,x.eC.length<=1000
theorem copyEpoch_at{e:az}(h:pc e.bW):iE e=some e:=by
 obtain⟨h1,j⟩:=h
 unfold iE
 rw [gz za,ze]
 have:Ok (cI (fS e.bW.cV) ((0:Int),e.bW.cV)) (fun o=>o=e.bW.cV):=by
  refine Gi (fun s=>0<=s.1∧s.1<=e.bW.cV.length∧s.2=e.bW.cV) (fun s=>((e.bW.cV.length:Int)-s.1).toNat) ?_ ⟨GB _,zc,rfl⟩
  rintro⟨s2,r⟩ ⟨i0,i1,i2⟩
  simp only at i0 i1 i2
  subst i2
  unfold fS
  dsimp only
  refine Gl (fun k=>?_) (fun _=>Gt rfl)
  refine Gf (Gv za za) (fun _ _=>?_)
  refine Gf (Gh za za) (fun x f=>?_)
  have:=j x f.1
  rw [gz za,ze]
  refine Gf (Gv za za) (fun _ _=>?_)
  refine Gf (Gj za za) (fun y q=>?_)
  obtain⟨z,g,rfl⟩:=q
  obtain rfl:x=z:=by rw [f.2]at g;exact Option.some.inj g
  rw [w64 za za]
  refine Gk ⟨zd,zd,?_⟩ zd
  obtain⟨hk,e⟩:=List.getElem?_eq_some_iff.1 f.2
  simp only
  conv=>lhs;rw [<-e]
  exact G9 hk
 rw [this.eq];rfl
def ChLen(c:aj):Prop:=c.ct.length<=1000∧∀e∈c.ct,pc e.bW
theorem copied_at{c:aj}(h:ChLen c):lc c=some c:=by
 obtain⟨h1,g⟩:=h
 unfold lc
 rw [gz za,ze]
 have:Ok (cI (ig c.ct) ((0:Int),c.ct)) (fun o=>o=c.ct):=by
  refine Gi (fun s=>0<=s.1∧s.1<=c.ct.length∧s.2=c.ct) (fun s=>((c.ct.length:Int)-s.1).toNat) ?_ ⟨GB _,zc,rfl⟩
  rintro⟨s2,q⟩ ⟨i0,i1,i2⟩
  simp only at i0 i1 i2
  subst i2
  unfold ig
  dsimp only
  refine Gl (fun j=>?_) (fun _=>Gt rfl)
  refine Gf (Gv za za) (fun _ _=>?_)
  refine Gf (Gh za za) (fun x f=>?_)
  rw [copyEpoch_at (g x f.1),ze]
  refine Gf (Gv za za) (fun _ _=>?_)
  refine Gf (Gs za za) (fun y k=>?_)
  subst k
  rw [w64 za za]
  refine Gk ⟨zd,zd,?_⟩ zd
  obtain⟨hk,e⟩:=List.getElem?_eq_some_iff.1 f.2
  simp only
  conv=>lhs;rw [<-e]
  exact G9 hk
 rw [this.eq];rfl
structure oG(v:ae):Prop where
 len:v.a8.length<=1000
 all:∀c∈v.a8,ChLen c
theorem fq.lens{v:ae}(h:fq v):oG v:=by
 refine⟨by have:=h.len;omega,fun c hc=>?_⟩
 have f:=(h.all c hc).2
 refine⟨by have:=f.len;omega,fun e he=>?_⟩
 have g:=(f.all e he).resp
 exact⟨by have:=g.1;omega,fun x j=>by have:=(g.2 x j).2.2.1;omega⟩
def zCh:aj:=⟨⟨[],[],[],[]⟩,[]⟩
def zEp:az:=⟨0,0,⟨0,0⟩,⟨0,0,0⟩,⟨[]⟩⟩
def chan(v:ae)(s:Sid):Option aj:=v.a8.find? fun c=>decide (c.a7=s)
def epIn(l:List az)(t:Int):Option az:=l.find? fun e=>decide (e.ca<=t∧t<e.fTo)
def nE(v:ae)(s:Sid)(t:Int):Option az:=(chan v s).bind fun c=>epIn c.ct t
theorem Find_eq{v:ae}(g:oG v)(s:Sid):mC v s=some (match chan v s with|none=>(zCh,false)|some c=>(c,true)):=by
 have hl:=g.len
 unfold mC
 rw [loop_find v.a8 (p:=fun c=>decide (c.a7=s)) (f:=fun c=>(c,true)) (fun i hi=>?_) ?_,ze]
 ·unfold chan
  cases v.a8.find? fun c=>decide (c.a7=s)<;>rfl
 ·unfold ko
  rw [if_neg zc]
 ·unfold ko
  rw [if_pos so,py rfl hi,ze,Sd.eqs,copied_at (g.all _ (EJ hi)),ze,w64 za za]
  simp
theorem at_eq{c:aj}(hc:c.ct.length<=1000)(t:Int):nR c t=some (match epIn c.ct t with|none=>(zEp,false)|some e=>(e,true)):=by
 unfold nR
 rw [loop_find c.ct (p:=fun e=>decide (e.ca<=t∧t<e.fTo)) (f:=fun e=>(e,true)) (fun i hi=>?_) ?_,ze]
 ·unfold epIn
  cases c.ct.find? fun e=>decide (e.ca<=t∧t<e.fTo)<;>rfl
 ·unfold lO
  rw [if_neg zc]
 ·unfold lO
  rw [if_pos so,py rfl hi,ze,w64 za za]
  by_cases h1:c.ct[i].ca<=t<;>by_cases g:t<c.ct[i].fTo<;>simp [h1,g]
theorem rk{v:ae}{s:Sid}{c:aj}(h:chan v s=some c):c∈v.a8∧c.a7=s:=by
 unfold chan at h
 exact⟨G7 h,by simpa using G0 h⟩
theorem epIn_mem{l:List az}{t:Int}{e:az}(h:epIn l t=some e):e∈l∧e.ca<=t∧t<e.fTo:=by
 unfold epIn at h
 have:=G0 h
 simp only [decide_eq_true_eq]at this
 exact⟨G7 h,this⟩
theorem At_eq{v:ae}(f:oG v)(hV:cO v=some true)(s:Sid)(t:Int):la v s t=some (match nE v s t with|none=>(zEp,6)|some e=>(e,0)):=by
 unfold la
 rw [hV,ze,if_neg zc,Find_eq f,ze]
 unfold nE
 cases hc:chan v s with
 |none=>
  dsimp only
  rw [at_eq (by simp [zCh])]
  rfl
 |some c=>
  dsimp only
  rw [at_eq (f.all c (rk hc).1).1,ze,ze]
  cases epIn c.ct t<;>rfl
theorem loop_eq{α:Type}{body:Int->Option (gB Int (Unit⊕Bool))}(a b:List α)(hl:a.length=b.length)
  (h1:∀(i:Nat)(hi:i<a.length)(u:i<b.length),(a[i]=b[i]∧body i=some (.next ((i+1:Nat):Int)))∨(a[i]≠b[i]∧body i=some (.stop (.inr false))))
  (r:body (a.length:Nat)=some (.stop (.inl ()))):(cI body (0:Int)=some (.inl ())∧a=b)∨(cI body (0:Int)=some (.inr false)∧a≠b):=by
 have:∀k i,i+k=a.length->a.take i=b.take i->(cI body (i:Int)=some (.inl ())∧a=b)∨(cI body (i:Int)=some (.inr false)∧a≠b):=by
  intro k
  induction k with
  |zero=>
   intro i hi g
   obtain rfl:i=a.length:=by omega
   refine .inl ⟨rD r,?_⟩
   rw [Ga,hl,Ga]at g
   exact g
  |succ k C=>
   intro i hi g
   have f:i<a.length:=by omega
   rcases h1 i f za with⟨e,q⟩|⟨e,q⟩
   ·rw [rZ q]
    exact C (i+1) za (by rw [rF f,rF za,g,e])
   ·exact .inr ⟨rD q,fun j=>e (by subst j;rfl)⟩
 have:=this a.length 0 za zc
 simpa using this
theorem Equal_eq{a b:List Int}(h:a.length<=1000):lq a b=some (decide (a=b)):=by
 unfold lq
 by_cases hl:a.length=b.length
 ·rw [if_neg (by simp [hl])]
  have key:(cI (eV a b) (0:Int)=some (.inl ())∧a=b)∨(cI (eV a b) (0:Int)=some (.inr false)∧a≠b):=by
   refine loop_eq a b hl (fun i hi g=>?_) ?_
   ·unfold eV
    rw [if_pos so,py rfl hi,py rfl g,ze,ze,w64 za za]
    by_cases e:a[i]=b[i]<;>simp [e]
   ·unfold eV
    rw [if_neg zc]
  rcases key with⟨e,f⟩|⟨e,f⟩
  ·rw [e];simp [f]
  ·rw [e];simp [f]
 ·rw [if_pos (by simpa using fun e:(a.length:Int)=b.length=>hl za)]
  simp [show a≠b from fun e=>hl (by rw [e])]
theorem arr_eq(a b:bR):((a.a0==b.a0)&&((a.a1==b.a1)&&((a.a2==b.a2)&&true)))=decide (a=b):=by
 obtain⟨x,y,z⟩:=a
 obtain⟨j,k,q⟩:=b
 simp only [bR.mk.injEq]
 by_cases f:x=j<;>by_cases e2:y=k<;>by_cases g:z=q<;>simp [f,e2,g]
theorem pos_eq(a b:ag):((a.fX==b.fX)&&((a.fY==b.fY)&&((a.fZ==b.fZ)&&true)))=decide (a=b):=by
 obtain⟨x,y,z⟩:=a
 obtain⟨j,k,q⟩:=b
 simp only [ag.mk.injEq]
 by_cases f:x=j<;>by_cases e2:y=k<;>by_cases g:z=q<;>simp [f,e2,g]
theorem Stage_eq{a b:bh}(h:a.eC.length<=1000):jC a b=some (decide (a=b)):=by
 unfold jC
 rw [arr_eq,arr_eq,Equal_eq h]
 obtain⟨k,n,d,t,f,s⟩:=a
 obtain⟨k',D,d',t',C,s'⟩:=b
 simp only [bh.mk.injEq]
 by_cases g:k=k'
 rotate_left
 ·simp [g]
 by_cases e2:n=D
 rotate_left
 ·simp [g,e2]
 by_cases j:d=d'
 rotate_left
 ·simp [g,e2,j]
 by_cases q:t=t'
 rotate_left
 ·simp [g,e2,j,q]
 by_cases r:f=C<;>by_cases u:s=s'<;>simp [g,e2,j,q,r,u]
theorem Same_eq{a b:bv}(h:pc a):nr a b=some (decide (a=b)):=by
 obtain⟨h1,j⟩:=h
 obtain⟨a⟩:=a
 obtain⟨b⟩:=b
 simp only at h1 j
 unfold nr gd
 simp only [bv.mk.injEq]
 by_cases hl:a.length=b.length
 ·rw [if_neg (by simp [hl])]
  have key:(cI (cM a b) (0:Int)=some (.inl ())∧a=b)∨(cI (cM a b) (0:Int)=some (.inr false)∧a≠b):=by
   refine loop_eq a b hl (fun i hi g=>?_) ?_
   ·unfold cM
    rw [if_pos so,py rfl hi,py rfl g,ze,ze,Stage_eq (j _ (EJ hi)),ze,w64 za za]
    by_cases e:a[i]=b[i]<;>simp [e]
   ·unfold cM
    rw [if_neg zc]
  rcases key with⟨e,f⟩|⟨e,f⟩
  ·rw [e];simp [f]
  ·rw [e];simp [f]
 ·rw [if_pos (by simpa using fun e:(a.length:Int)=b.length=>hl za)]
  simp [show a≠b from fun e=>hl (by rw [e])]
def epPR(e:az):ag×bv:=(e.bV,e.bW)
def Chg(a b:ae)(p:Pick):Prop:=(nE a p.a7 p.bT).map epPR≠(nE b p.a7 p.bT).map epPR
instance (a b:ae) (p:Pick):Decidable (Chg a b p):=inferInstanceAs (Decidable (_≠_))
theorem epAt_len{v:ae}(f:oG v){s:Sid}{t:Int}{e:az}(h:nE v s t=some e):pc e.bW:=by
 unfold nE at h
 cases hc:chan v s with
 |none=>rw [hc]at h;cases h
 |some c=>
  rw [hc]at h
  exact(f.all c (rk hc).1).2 e (epIn_mem h).1
theorem Changed_eq{a b:ae}(f:oG a)(r:oG b)(k:cO a=some true)(q:cO b=some true)(p:Pick):jo a b p=some (decide (Chg a b p)):=by
 unfold jo
 rw [At_eq f k,At_eq r q,ze,ze]
 show _=some (decide ((nE a p.a7 p.bT).map epPR≠(nE b p.a7 p.bT).map epPR))
 generalize u:nE a p.a7 p.bT=C
 generalize nE b p.a7 p.bT=g
 cases C with
 |none=>cases g<;>simp
 |some x=>
  cases g with
  |none=>simp
  |some y=>
   dsimp only
   rw [if_neg zc,if_neg zc,pos_eq,Same_eq (epAt_len f u),ze]
   simp only [Option.map_some,ne_eq,Option.some.injEq,epPR,Prod.mk.injEq]
   by_cases j:x.bV=y.bV<;>by_cases e2:x.bW=y.bW<;>simp [j,e2]
end Go.Dw.Re
set_option maxRecDepth 100000
set_option maxHeartbeats 4000000
namespace Go.Dw.Re
open Go.Dw Go.Proofs
def bitsL:List Int:=[1,2,4,8,16,32,64,128]
theorem or_at:∀b∈bitsL,∀m:Nat,m<128->2*b*m+2*b<=256->orI .i64 (2*b*m) b=2*b*m+b:=by decide+kernel
theorem half_bit:∀b∈bitsL,(b=1∧sl .i64 b 1=0)∨(sl .i64 b 1∈bitsL∧2*sl .i64 b 1=b):=by decide+kernel
theorem bit_pos:∀b∈bitsL,1<=b∧b<=128:=by decide
theorem sq_lt{x n:Int}(g:0<x)(f:0<=n):x<=n.tdiv x↔x*x<=n:=by
 rw [GS f,Int.le_ediv_iff_mul_le g]
def FI(n:Int)(s:Int×Int):Prop:=
 (s.2=0∧(0<=s.1∧s.1<=255)∧s.1*s.1<=n∧n<(s.1+1)*(s.1+1))∨
 (s.2∈bitsL∧∃m:Nat,s.1=2*s.2*m∧m<128∧s.1+2*s.2<=256∧s.1*s.1<=n∧n<(s.1+2*s.2)*(s.1+2*s.2))
theorem floor_loop(n:Int)(U:0<n)(h1:n<=65535)(s:Int×Int)(hs:FI n s):Ok (cI (js n) s) (fun r=>(0<=r∧r<=255)∧r*r<=n∧n<(r+1)*(r+1)):=by
 refine Gi (FI n) (fun s=>s.2.toNat) ?_ hs
 rintro⟨r,b⟩ h
 unfold js
 dsimp only
 rcases h with⟨e,D,g,j⟩|⟨E,m,F,hm,D,g,j⟩
 ·simp only at e D g j
  subst e
  rw [if_neg zc]
  exact Gt ⟨D,g,j⟩
 ·simp only at E F D g j
  have N:=bit_pos b E
  have L:0<=2*b*m:=GK za za
  have I:orI .i64 r b=r+b:=by rw [F];exact or_at b E m hm za
  have G:2*b*m<=256-2*b:=by omega
  have H:b*m<=127:=by
   rw [GG]at G;omega
  rw [if_pos so,I]
  refine Gf (Gm za) (fun q K=>?_)
  have O:0<=n.tdiv (r+b):=GV za za
  have Q:n.tdiv (r+b)<=n:=GU _ za
  rw [w64 za za]at K
  subst K
  have f:∀(x:Int)(k:Nat),(x=2*b*m∧k=2*m)∨(x=2*b*m+b∧k=2*m+1)->x*x<=n->n<(x+b)*(x+b)->Ok (some (gB.next (x,sl .i64 b 1))) (Gd (FI n) (fun s=>s.2.toNat) (fun r:Int=>(0<=r∧r<=255)∧r*r<=n∧n<(r+1)*(r+1)) (r,b)):=fun x k T g1 g2=>by
   rcases half_bit b E with⟨C,e2⟩|⟨C,e2⟩
   ·rw [e2]
    subst C
    refine Gk (.inl ⟨rfl,⟨zd,zd⟩,g1,g2⟩) zd
   ·have J:=bit_pos _ C
    generalize sl .i64 b 1=b' at*
    subst e2
    refine Gk (.inr ⟨C,k,?_,?_,zd,g1,g2⟩) zd
    ·simp only
     rcases T with⟨rfl,rfl⟩|⟨rfl,rfl⟩
     ·rw [GO]
      simp only [GG,GJ]
      rfl
     ·rw [GN,GO,GF]
      have:2*b'*((2:Nat)*(m:Int))=2*(2*b')*m:=by
       simp only [GG,GJ];rfl
      rw [this];simp
    ·have:2*b'*m<=127:=H
     have W:(m:Int)<=b'*m:=by
      have:=Int.mul_le_mul_of_nonneg_right (show(1:Int)<=b' by omega) (show(0:Int)<=(m:Int)by omega)
      omega
     rw [GG]at this
     omega
  refine Gl (fun hle=>?_) (fun u=>?_)
  ·rw [sq_lt za za]at hle
   exact f _ (2*m+1) (.inr ⟨by rw [F],rfl⟩) hle (by rw [show r+b+b=r+2*b by omega];exact j)
  ·rw [sq_lt za za]at u
   exact f _ (2*m) (.inl ⟨F,rfl⟩) g (Int.not_le.1 u)
theorem len_lo:(DO 256).all (fun n=>decide (n=0)||match lX (n:Int)with|some L=>decide (1<=L∧L<=16)&&decide ((n:Int)<2 ^ L.toNat)|none=>false)=true:=by kernel_rfl
theorem len_hi:(DO 256).all (fun n=>decide (n=0)||match lX ((n*256:Nat):Int)with|some L=>decide (1<=L∧L<=16)&&decide (((n*256+255:Nat):Int)<2 ^ L.toNat)|none=>false)=true:=by kernel_rfl
theorem shr8{n:Int}(f:0<=n):sl .u64 n 8=n / 256:=by
 show n.fdiv (2 ^ (min (8:Int).toNat 64))=n / 256
 rw [GA _ (by decide)]
 rfl
theorem len_same{n:Int}(f:256<=n)(h1:n<=65535):ia n=ia (n / 256*256):=by
 unfold ia n7 kr lE
 rw [if_neg so,if_neg so,if_pos so,if_neg so,if_neg so,if_pos so,shr8 za,shr8 za]
 rw [show n / 256*256 / 256=n / 256 by omega]
theorem len_ok{n:Int}(j:1<=n)(h1:n<=65535):Ok (ia n) (fun L=>(1<=L∧L<=16)∧n<2 ^ L.toNat):=by
 obtain⟨n,rfl⟩:∃k:Nat,n=k:=⟨n.toNat,za⟩
 by_cases h:n<256
 ·have:=List.all_eq_true.1 len_lo n (List.mem_range.2 h)
  simp only [Gc,decide_eq_true_eq]at this
  rcases this with h|h
  ·omega
  ·cases e:lX (n:Int)with
   |none=>rw [e]at h;cases h
   |some L=>
    rw [e]at h
    simp only [EE,decide_eq_true_eq]at h
    exact⟨L,bits_Len_le _ _ e,h.1,h.2⟩
 ·have hm:n / 256<256:=by omega
  have:=List.all_eq_true.1 len_hi (n / 256) (List.mem_range.2 hm)
  simp only [Gc,decide_eq_true_eq]at this
  rcases this with f|f
  ·omega
  ·cases e:lX ((n / 256*256:Nat):Int)with
   |none=>rw [e]at f;cases f
   |some L=>
    rw [e]at f
    simp only [EE,decide_eq_true_eq]at f
    refine⟨L,?_,f.1,?_⟩
    ·rw [len_same za h1]
     have:((n:Int) / 256*256)=((n / 256*256:Nat):Int):=by omega
     rw [this]
     exact bits_Len_le _ _ e
    ·have:=f.2
     have g:(n:Int)<=((n / 256*256+255:Nat):Int):=by omega
     exact Int.lt_of_le_of_lt g this
theorem start_at:∀L:Nat,L<17->1<=L->∃q b,tI .i64 (Fb .i64 ((L:Int)-1)) 2=some q∧yF .i64 1 q=some b∧b∈bitsL∧(2:Int) ^ L<=(0+2*b)*(0+2*b):=by
 intro L h1 g
 have:L=1∨L=2∨L=3∨L=4∨L=5∨L=6∨L=7∨L=8∨L=9∨L=10∨L=11∨L=12∨L=13∨L=14∨L=15∨L=16:=by omega
 have hs:∀(q b:Int),0<=q->shlI .i64 1 q=b->yF .i64 1 q=some b:=fun q b h e=>by unfold yF;rw [if_neg za,e]
 have f:∀(x q:Int),Fb .i64 ((Fb .i64 x).tdiv 2)=q->tI .i64 (Fb .i64 x) 2=some q:=fun x q e=>by unfold tI;rw [if_neg za,e]
 rcases this with rfl|rfl|rfl|rfl|rfl|rfl|rfl|rfl|rfl|rfl|rfl|rfl|rfl|rfl|rfl|rfl
 ·exact⟨0,1,f _ _ (by decide),hs _ _ (by decide) (by decide),by decide,by decide⟩
 ·exact⟨0,1,f _ _ (by decide),hs _ _ (by decide) (by decide),by decide,by decide⟩
 ·exact⟨1,2,f _ _ (by decide),hs _ _ (by decide) (by decide),by decide,by decide⟩
 ·exact⟨1,2,f _ _ (by decide),hs _ _ (by decide) (by decide),by decide,by decide⟩
 ·exact⟨2,4,f _ _ (by decide),hs _ _ (by decide) (by decide),by decide,by decide⟩
 ·exact⟨2,4,f _ _ (by decide),hs _ _ (by decide) (by decide),by decide,by decide⟩
 ·exact⟨3,8,f _ _ (by decide),hs _ _ (by decide) (by decide),by decide,by decide⟩
 ·exact⟨3,8,f _ _ (by decide),hs _ _ (by decide) (by decide),by decide,by decide⟩
 ·exact⟨4,16,f _ _ (by decide),hs _ _ (by decide) (by decide),by decide,by decide⟩
 ·exact⟨4,16,f _ _ (by decide),hs _ _ (by decide) (by decide),by decide,by decide⟩
 ·exact⟨5,32,f _ _ (by decide),hs _ _ (by decide) (by decide),by decide,by decide⟩
 ·exact⟨5,32,f _ _ (by decide),hs _ _ (by decide) (by decide),by decide,by decide⟩
 ·exact⟨6,64,f _ _ (by decide),hs _ _ (by decide) (by decide),by decide,by decide⟩
 ·exact⟨6,64,f _ _ (by decide),hs _ _ (by decide) (by decide),by decide,by decide⟩
 ·exact⟨7,128,f _ _ (by decide),hs _ _ (by decide) (by decide),by decide,by decide⟩
 ·exact⟨7,128,f _ _ (by decide),hs _ _ (by decide) (by decide),by decide,by decide⟩
theorem floor_ok(n:Int)(h1:n<=65535):Ok (kA n) (fun r=>(0<=r∧r<=255)∧(0<=n->r*r<=n)∧n<(r+1)*(r+1)):=by
 unfold kA
 refine Gl (fun h=>Gq ⟨⟨za,za⟩,fun E=>za,so⟩) (fun h=>?_)
 have hw:Fb .u64 n=n:=IntWalk.u64_in _ za
 rw [hw]
 refine Gf (len_ok za h1) (fun L D=>?_)
 obtain⟨⟨G,H⟩,j⟩:=D
 obtain⟨L,rfl⟩:∃k:Nat,L=k:=⟨L.toNat,za⟩
 obtain⟨q,b,u,e2,g,C⟩:=start_at L za za
 rw [u,ze,e2,ze]
 have F:=bit_pos b g
 refine Gf (floor_loop n za h1 (0,b) (.inr ⟨g,0,zc,za,zd,zd,?_⟩)) (fun r f=>Gq ⟨f.1,fun _=>f.2.1,f.2.2⟩)
 simp only
 rw [Et]at j
 exact Int.lt_of_lt_of_le j C
theorem lt_of_sq{x s:Int}(hs:0<=s)(h:x*x<s*s):x<s:=by
 apply HA
 intro f
 have:s*s<=x*x:=GI za za hs za
 omega
theorem ceil_ok(n:Int)(g:0<=n)(h1:n<=65535):Ok (nk n) (fun r=>(0<=r∧r<=256)∧n<=r*r∧∀s,0<=s->n<=s*s->r<=s):=by
 unfold nk
 refine Gf (floor_ok n h1) (fun x C=>?_)
 obtain⟨⟨a0,a1⟩,a2,a3⟩:=C
 have:=a2 g
 have D:0<=x*x:=GK a0 a0
 rw [w64 (n:=x*x) za za,w64 (n:=x+1) za za]
 refine Gl (fun u=>Gq ⟨⟨za,za⟩,Int.le_of_lt a3,fun s hs f=>?_⟩) (fun q=>Gq ⟨⟨za,za⟩,za,fun s hs f=>?_⟩)
 ·have:=lt_of_sq (x:=x) hs za;omega
 ·apply HA
  intro hc
  have := lt_of_sq (x := s) a0 (by
   have j:s*s<=(x-1)*(x-1):=GI za za hs za
   have k:(x-1)*(x-1)=x*x-2*x+1:=by rw [GR,GM];omega
   omega)
  have j:s*s<=(x-1)*(x-1):=GI za za hs za
  have k:(x-1)*(x-1)=x*x-2*x+1:=by rw [GR,GM];omega
  omega
end Go.Dw.Re
set_option maxRecDepth 100000
set_option maxHeartbeats 4000000
namespace Go.Dw.Re
open Go.Dw Go.Proofs
theorem get1{α:Type}(A:List α)(y:α)(T:List α){n:Int}(f:n=A.length):oc (A++y::T) n=some y:=by
 rw [py (i:=A.length) f zc]
 simp
theorem set1{α:Type}(A:List α)(y z:α)(T:List α){n:Int}(f:n=A.length):tO (A++y::T) n z=some (A++z::T):=by
 rw [wR (i:=A.length) f zc]
 simp
structure pM(t:bg):Prop where
 step:1<=t.bQ∧t.bQ<=100
 len:2<=t.bt.length∧t.bt.length<=30
 same:t.bd.length=t.bt.length
 low:t.bt.Pairwise (· <= ·)
 high:t.bd.Pairwise (· <= ·)
 lows:∀x∈t.bt,0<=x
 highs:∀x∈t.bd,0<=x∧x<=5000
 lh:∀(i:Nat)(h:i<t.bt.length)(h':i<t.bd.length),t.bt[i]<=t.bd[i]
 far:400<=t.bQ*((t.bt.length:Int)-1)
 lowb:∀x∈t.bt,x<=1500
theorem jk{t:bg}(h:pM t):er t=some 0:=by
 obtain⟨h1,E,F,q,r,u,k,C, -⟩:=h
 refine Gg ?_
 unfold er
 refine Gl (fun _=>za) (fun _=>Gl (fun _=>za) (fun _=>Gw (fun h=>za) (fun _=>Gl (fun _=>za) (fun _=>Gl (fun _=>za) (fun _=>?_)))))
 refine Gf (P:=fun o=>o= .inl ()) (Gi (fun s=>∃i:Nat,s.2.2=i∧i<=t.bt.length∧(∀(j:Nat)(g:j<t.bt.length),i<=j->s.1<=t.bt[j])∧(∀(j:Nat)(g:j<t.bd.length),i<=j->s.2.1<=t.bd[j])) (fun s=>((t.bt.length:Int)-s.2.2).toNat) ?_ ⟨0,rfl,DR _,fun j g _=>u _ (EJ g),fun j g _=>(k _ (EJ g)).1⟩) (fun o ho=>by subst ho;exact Gq rfl)
 rintro⟨s1,s2,G⟩ ⟨i,i0,i1,i2,i3⟩
 simp only at i0 i2 i3
 subst i0
 unfold lz
 dsimp only
 refine Gl (fun D=>?_) (fun _=>Gt rfl)
 have hi:i<t.bt.length:=by omega
 have f:i<t.bd.length:=by omega
 have:=i2 i hi (DI _)
 have:=i3 i f (DI _)
 have:=C i hi f
 have:=(k _ (EJ f)).2
 simp only [py (i:=i) rfl hi,py (i:=i) rfl f,ze]
 refine Gl (fun _=>za) (fun _=>Gl (fun _=>za) (fun _=>Gl (fun _=>za) (fun _=>Gl (fun _=>za) (fun _=>?_))))
 rw [w64 za za]
 refine Gk ⟨i+1,zc,za,fun j g h=>?_,fun j g h=>?_⟩ zd
 ·exact List.pairwise_iff_getElem.1 q i j hi g za
 ·exact List.pairwise_iff_getElem.1 r i j f g za
theorem snoc_le{l:List Int}{x:Int}(h:l.Pairwise (· <= ·))(j:∀y∈l,y<=x):(l++[x]).Pairwise (· <= ·):=
 List.pairwise_append.2 ⟨h,zc,fun a f b g=>by rw [List.mem_singleton.1 g];exact j a f⟩
structure TI(d:Src)(lo hi k:Int)(L H:List Int):Prop where
 ck:0<=k∧k<=23
 ll:L.length=k.toNat
 hl:H.length=k.toNat
 clo:0<=lo∧lo<=60*k
 chi:0<=hi∧hi<=100*k+2
 cd:cv d
 pl:L.Pairwise (· <= ·)
 ph:H.Pairwise (· <= ·)
 ls:∀x∈L,0<=x∧x<=lo
 hs:∀x∈H,0<=x∧x<=hi
 lh:lo<=hi
 le:∀(i:Nat)(h:i<L.length)(h':i<H.length),L[i]<=H[i]
theorem tableV(d:Src)(J:cv d):Ok (k8 d) (fun r=>pM r.1∧cv r.2):=by
 unfold k8
 refine Gf (fd _ d J zc zc) (fun j h1=>?_)
 obtain⟨g,h1⟩:=h1
 have g:j.1=20∨j.1=25∨j.1=40∨j.1=100:=by simpa using g
 refine Gf (dZ _ _ h1 za za) (fun x2 I=>?_)
 have u:∃q,Fb .i64 ((400:Int).tdiv j.1)=q∧(4<=q∧j.1*q=400)∧q<=20:=by
  rcases g with e|e|e|e<;>rw [e]<;>exact⟨_,rfl,⟨by decide,by decide⟩,by decide⟩
 have hp:∃q,Fb .i64 (j.1.tdiv 4)=q∧0<=q∧q<=25:=by
  rcases g with e|e|e|e<;>rw [e]<;>exact⟨_,rfl,by decide,by decide⟩
 obtain⟨q,u,⟨Y,L⟩,q1⟩:=u
 obtain⟨p,hp,W,X⟩:=hp
 refine Gf (P:=fun o=>cv ⟨o.1,o.2.1⟩∧pM ⟨j.1,o.2.2.1,o.2.2.2⟩)
  (Gi (fun s=>TI ⟨s.2.2.2.1,s.2.2.2.2.1⟩ s.1 s.2.1 s.2.2.1 s.2.2.2.2.2.1 s.2.2.2.2.2.2) (fun s=>(23-s.2.2.1).toNat) ?_ ⟨⟨zc,zc⟩,rfl,rfl,⟨zc,zc⟩,⟨zd,zd⟩,I.2.2,zc,zc,zc,zc,zd,zc⟩) ?_
 ·rintro⟨N,s4,O,s6,s7,E,s9⟩ D
  simp only at D
  obtain⟨i0,i1,i2,i3,i4,i5,i6,i7,i8,i9,i10,i11⟩:=D
  unfold lD
  refine Gf (Gm za) (fun Q g1=>?_)
  rw [u]at g1;subst g1
  refine Gf (dZ _ _ i5 za za) (fun T g2=>?_)
  rw [w64 (n:=Q+T.1) za za]
  refine Gl (fun hle=>?_) (fun K=>?_)
  ·refine Gf (Ge (by simp only [D4,D5];omega)) (fun y3 g3=>?_)
   refine Gf (Ge (by simp only [D4,D5];omega)) (fun y4 g4=>?_)
   refine Gf (fd _ _ g2.2.2 zc zc) (fun k g5=>?_)
   refine Gf (Gm za) (fun F g6=>?_)
   rw [hp]at g6;subst g6
   refine Gf (fd _ _ g5.2 zc zc) (fun G g7=>?_)
   have a1:0<=k.1∧k.1<=35:=by have:=g5.1;simp at this;omega
   have a2:0<=G.1∧G.1<=30:=by have:=g7.1;simp at this;omega
   rw [w64 (n:=k.1+F) za za,w64 (n:=N+(k.1+F)) za za,w64 (n:=O+1) za za,w64 (by split<;>omega) (by split<;>omega)]
   subst g3 g4
   refine Gk ⟨⟨zd,zd⟩,?_,?_,⟨zd,zd⟩,⟨by simp only;split<;>omega,by simp only;split<;>omega⟩,g7.2,snoc_le i6 fun y C=>(i8 y C).2,snoc_le i7 fun y C=>(i9 y C).2,?_,?_,by simp only;split<;>omega,?_⟩ zd
   ·simp only [Ec,D4,D5];omega
   ·simp only [Ec,D4,D5];omega
   ·intro x f
    simp only [FV,FW]at f
    rcases f with f|rfl
    ·have:=i8 x f;simp only;omega
    ·simp only;omega
   ·intro x f
    simp only [FV,FW]at f
    rcases f with f|rfl
    ·have:=i9 x f;simp only;split<;>omega
    ·simp only;split<;>omega
   ·intro i h H
    simp only [Ec,D4,D5]at h H
    by_cases hi:i<E.length
    ·rw [G1 hi,G1 za]
     exact i11 i hi za
    ·have U:i=E.length:=by omega
     rw [G2 za,G2 za]
     simp only [List.getElem_singleton];omega
  ·refine Gt ⟨g2.2.2,⟨zd,zd⟩,⟨zd,zd⟩,zd,i6,i7,fun x f=>(i8 x f).1,fun x f=>by have:=i9 x f;omega,i11,?_,fun x f=>by have:=i8 x f;omega⟩
   rw [<-L]
   exact Int.mul_le_mul_of_nonneg_left zd za
 ·intro o ho
  exact Gq ⟨ho.2,ho.1⟩
theorem reg_ok{k:Int}(hk:0<=k∧k<=4)(d:Src)(f:cv d):Ok (pg 20 k d) (fun r=>fV 20 r.1.bt):=by
 unfold pg
 rw [w64 (n:=k+1) za za]
 refine Gf (mH 20 za za d f) (fun g g0=>?_)
 refine Gf (dZ _ _ g0.2 za za) (fun j g1=>?_)
 refine Gf (dZ _ _ g1.2.2 za za) (fun q g2=>?_)
 refine Gf (dZ _ _ g2.2.2 za za) (fun u g3=>?_)
 exact Gq g0.1
theorem assocV{k:Int}(hk:0<=k∧k<=4)(d:Src)(C:cv d):Ok (eZ k d) (fun r=>((gY r.1.bj∧fV 20 r.1.bj.bt)∧pM r.1.bG∧(1<=r.1.dv∧r.1.dv<=1000)∧(0<=r.1.bA∧r.1.bA<=1000)∧(0<=r.1.ch∧r.1.ch<=5000)∧(0<=r.1.dJ∧r.1.dJ<=1000)∧(2<=r.1.cn∧r.1.cn<=3))∧cv r.2):=by
 unfold eZ
 refine Gf ((box_ok 20 k za za za za d C).both (reg_ok hk d C)) (fun G h1=>?_)
 refine Gf (tableV _ h1.1.2) (fun H f=>?_)
 refine Gf (fd _ _ f.2 zc zc) (fun I g=>?_)
 refine Gf (fd _ _ g.2 zc zc) (fun J j=>?_)
 refine Gf (fd _ _ j.2 zc zc) (fun K q=>?_)
 refine Gf (fd _ _ q.2 zc zc) (fun L u=>?_)
 refine Gf (dZ _ _ u.2 za za) (fun F E=>?_)
 have a3:=g.1
 have a4:=j.1
 have a5:=q.1
 have D:=u.1
 simp at a3 a4 a5 D
 rw [w64 (n:=2+F.1) za za]
 exact Gq ⟨⟨⟨h1.1.1,h1.2⟩,f.1,zd,zd,zd,zd,zd⟩,E.2.2⟩
theorem third{x:Int}(h:0<=x)(f:x<=1000000):Fb .i64 (x.tdiv 3)=x / 3:=by
 rw [GS h,w64 za za]
theorem tab_third{t:bg}(h:pM t):pM ⟨t.bQ,t.bt.map (· / 3),t.bd.map (· / 3)⟩:=by
 obtain⟨h1,r,u,C,D,q,E,F,G,j⟩:=h
 refine⟨h1,by simpa using r,by simpa using u,?_,?_,?_,?_,?_,by simpa using G,fun x g=>by obtain⟨y,f,rfl⟩:=List.mem_map.1 g;have:=j y f;have:=q y f;omega⟩
 ·rw [G8];exact C.imp fun h=>by omega
 ·rw [G8];exact D.imp fun h=>by omega
 ·intro x g
  obtain⟨y,f,rfl⟩:=List.mem_map.1 g
  have:=q y f;omega
 ·intro x g
  obtain⟨y,f,rfl⟩:=List.mem_map.1 g
  have:=E y f;omega
 ·intro i h k
  simp only [List.length_map]at h k
  simp only [G3]
  have:=F i h k;omega
theorem scaleV(d:Src)(I:cv d):Ok (l7 d) (fun r=>(pM r.1.bB∧(0<=r.1.cg∧r.1.cg<=20)∧(1<=r.1.b9∧r.1.b9<=20))∧cv r.2):=by
 unfold l7
 refine Gf (tableV _ I) (fun u h1=>?_)
 refine Gf (dZ _ _ h1.2 za za) (fun O F=>?_)
 refine Gf (dZ _ _ F.2.2 za za) (fun N G=>?_)
 have k:=h1.1
 have hl:=k.len;have hs:=k.same
 generalize q:u.1.bt=L at*
 generalize hH:u.1.bd=H at*
 refine Gf (P:=fun o=>o=(L.map (· / 3),H.map (· / 3))) (Gi (fun s:Int×List Int×List Int=>∃i:Nat,s=((i:Int),(L.take i).map (· / 3)++L.drop i,(H.take i).map (· / 3)++H.drop i)∧i<=L.length) (fun s=>((L.length:Int)-s.1).toNat) ?_ ⟨0,zc,DR _⟩) (fun o ho=>?_)
 ·rintro s ⟨i,rfl,hi⟩
  unfold lB
  dsimp only
  rw [q]
  refine Gl (fun K=>?_) (fun J=>?_)
  ·have hi:i<L.length:=by omega
   have f:i<H.length:=by omega
   have C:=k.lows (L[i]) (by rw [q];exact EJ hi)
   have D:=k.highs (H[i]) (by rw [hH];exact EJ f)
   have E:=k.lh i (by rw [q];exact hi) (by rw [hH];exact f)
   simp only [q,hH]at E
   have g:∀{M:List Int}(h:i<M.length),(M.take i).map (· / 3)++M.drop i=(M.take i).map (· / 3)++M[i]::M.drop (i+1):=fun{M}h=>by rw [GY h]
   have hlen:∀{M:List Int},i<M.length->((M.take i).map (· / 3)).length=i:=fun{M}h=>by simp;omega
   have j:∀{M:List Int}(h:i<M.length),(M.take i).map (· / 3)++M[i] / 3::M.drop (i+1)=(M.take (i+1)).map (· / 3)++M.drop (i+1):=fun{M}h=>by
    rw [rF h,F2,List.append_assoc];rfl
   rw [g hi,g f]
   have n1:∀{M:List Int}(h:i<M.length)(z:Int),inO ((M.take i).map (· / 3)++z::M.drop (i+1)) (i:Int)=some ():=fun{M}h z=>sh za (by rw [Ec,hlen h];simp;omega)
   rw [n1 hi,ze,get1 _ _ _ (by rw [hlen hi]),ze]
   refine Gf (Gm za) (fun Q g2=>?_)
   rw [third C za]at g2
   subst g2
   rw [n1 f,ze,get1 _ _ _ (by rw [hlen f]),ze]
   refine Gf (Gm za) (fun T g4=>?_)
   rw [third D.1 za]at g4
   subst g4
   rw [ze,set1 _ _ _ _ (by rw [hlen hi]),ze,ze,set1 _ _ _ _ (by rw [hlen f]),ze,w64 za za,j hi,j f]
   exact Gk ⟨i+1,zc,za⟩ zd
  ·have:i=L.length:=by omega
   subst this
   refine Gt ?_
   rw [Ga,List.drop_length,Ea,List.take_of_length_le za,List.drop_of_length_le za,Ea]
 ·subst ho
  rw [w64 (n:=1+N.1) za za]
  have:=tab_third k
  rw [q,hH]at this
  exact Gq ⟨⟨this,zd,zd⟩,G.2.2⟩
structure fb(s:ah):Prop where
 box:gY s.ac.bj
 reg:fV 20 s.ac.bj.bt
 tab:pM s.ac.bG
 cap:1<=s.ac.dv∧s.ac.dv<=1000
 tol:0<=s.ac.bA∧s.ac.bA<=1000
 span:0<=s.ac.ch∧s.ac.ch<=5000
 limit:0<=s.ac.dJ∧s.ac.dJ<=1000
 least:2<=s.ac.cn∧s.ac.cn<=3
 cor:pM s.bK.bB
 num:0<=s.bK.cg∧s.bK.cg<=20
 den:1<=s.bK.b9∧s.bK.b9<=20
 tolerance:0<=s.bA∧s.bA<=1000
theorem settingsV{k:Int}(hk:0<=k∧k<=4)(d:Src)(C:cv d):Ok (dP k d) (fun r=>fb r.1∧cv r.2):=by
 unfold dP
 refine Gf (assocV hk d C) (fun D h1=>?_)
 refine Gf (scaleV _ h1.2) (fun E j=>?_)
 refine Gf (fd _ _ j.2 zc zc) (fun F q=>?_)
 have a3:=q.1
 simp at a3
 obtain⟨⟨⟨a,u⟩,b,c,e,f,g,h⟩, -⟩:=h1
 exact Gq ⟨⟨a,u,b,c,e,f,g,h,j.1.1,j.1.2.1,j.1.2.2,zd⟩,q.2⟩
theorem lm{p:ag}(h:fV 60 p):ej p=some true:=by
 obtain⟨h1,f,g⟩:=h
 refine Gg ?_
 unfold ej b8
 rw [ze]
 dsimp only
 exact Gl (fun _=>za) (fun _=>Gl (fun _=>za) (fun _=>Gl (fun _=>za) (fun _=>Gl (fun _=>za) (fun _=>Gl (fun _=>za) (fun _=>Gl (fun _=>za) (fun _=>Gq rfl))))))
theorem nN{b:al}(h:gY b):fV 60 b.bt∧fV 60 b.bd:=by
 obtain⟨⟨h1,f,g⟩,j,k,q⟩:=h
 exact⟨⟨za,za,za⟩,za,za,za⟩
theorem eP{b:al}(h:gY b):cu b=some true:=by
 obtain⟨hl,f⟩:=nN h
 obtain⟨-,g,j,k⟩:=h
 refine Gg ?_
 unfold cu
 rw [lm hl,ze,if_neg zc,lm f,ze,if_neg zc]
 unfold b8
 rw [ze,ze]
 dsimp only
 exact Gl (fun _=>za) (fun _=>Gl (fun _=>za) (fun _=>Gl (fun _=>za) (fun _=>Gq rfl)))
theorem qy{s:ah}(h:fb s):eM s=some 0:=by
 obtain⟨h1, -,q,C,D,E,F,G,r,H,j,k⟩:=h
 have f:∀{x a b:Int},a<=x->x<=b->fr x a b=some true:=fun h g=>by
  unfold fr;rw [if_pos (by simpa using h)];simpa using g
 have u:et s.ac []=some 0:=by
  unfold et
  rw [eP h1,ze,if_neg zc,jk q,ze,if_neg zc,f za za,ze,if_neg zc,f za za,ze,if_neg zc,f za za,ze,if_neg zc,f za za,ze,if_neg zc,f za za,ze,if_neg zc,if_neg zc]
  have:dt [] s.ac (0:Int)=some (.stop (.inl ())):=by
   unfold dt
   rw [if_neg zc]
  rw [rD this];rfl
 have hm:dK s.bK=some true:=by
  unfold dK
  rw [jk r,ze,if_pos zc,if_pos so,if_pos so,if_pos so]
  simp;omega
 unfold eM
 rw [u,ze,if_neg zc,hm,ze,if_neg zc,if_neg so,if_neg so]
theorem sq_in{x:Int}(h: -120<=x∧x<=120):0<=x*x∧x*x<=14400:=by
 constructor
 ·rcases GC 0 x with f|f
  ·exact GK f f
  ·exact GL f f
 ·rcases GC 0 x with f|f
  ·exact GI h.2 h.2 f za
  ·rw [<-GP]
   exact GI (show-x<=120 by omega) (show-x<=120 by omega) za za
def ne(x l h:Int):Int:=max 0 (max (l-x) (x-h))
def fa(x l h:Int):Int:=max (h-x) (x-l)
def oW(b:al)(p:ag):Int:=ne p.fX b.bt.fX b.bd.fX*ne p.fX b.bt.fX b.bd.fX+ne p.fY b.bt.fY b.bd.fY*ne p.fY b.bt.fY b.bd.fY+ne p.fZ b.bt.fZ b.bd.fZ*ne p.fZ b.bt.fZ b.bd.fZ
def oL(b:al)(p:ag):Int:=fa p.fX b.bt.fX b.bd.fX*fa p.fX b.bt.fX b.bd.fX+fa p.fY b.bt.fY b.bd.fY*fa p.fY b.bt.fY b.bd.fY+fa p.fZ b.bt.fZ b.bd.fZ*fa p.fZ b.bt.fZ b.bd.fZ
theorem qT{a b c:Int}(f: -60<=a∧a<=60)(g: -60<=b∧b<=60)(hc: -60<=c∧c<=60):gu a b c=some (ne a b c)∧0<=ne a b c∧ne a b c<=120:=by
 unfold gu ne
 rw [w64 (n:=a-c) za za,w64 (n:=b-a) za za]
 refine⟨congrArg some ?_,za,za⟩
 split<;>split<;>omega
theorem pU{a b c:Int}(g: -60<=a∧a<=60)(j: -60<=b∧b<=60)(hc: -60<=c∧c<=60)(f:b<=c):fQ a b c=some (fa a b c)∧0<=fa a b c∧fa a b c<=120:=by
 unfold fQ fa
 rw [w64 (n:=a-b) za za,w64 (n:=c-a) za za]
 refine⟨congrArg some ?_,za,za⟩
 split<;>omega
theorem sum_at{x y z:Int}(j:0<=x∧x<=120)(k:0<=y∧y<=120)(q:0<=z∧z<=120):
  Fb .i64 ((Fb .i64 ((Fb .i64 ((0:Int)+(Fb .i64 (x*x))))+(Fb .i64 (y*y))))+(Fb .i64 (z*z)))=x*x+y*y+z*z∧0<=x*x+y*y+z*z∧x*x+y*y+z*z<=43200:=by
 have h1:=sq_in (x:=x) za
 have f:=sq_in (x:=y) za
 have g:=sq_in (x:=z) za
 rw [w64 (n:=x*x) za za,w64 (n:=y*y) za za,w64 (n:=z*z) za za,w64 (n:=0+x*x) za za,w64 (n:=0+x*x+y*y) za za,w64 za za]
 exact⟨za,za,za⟩
theorem rf{b:al}(g:gY b){p:ag}(hp:fV 60 p):gh b p=some (oW b p)∧0<=oW b p∧oW b p<=43200:=by
 obtain⟨hl,f⟩:=nN g
 obtain⟨j,a1⟩:=qT hp.1 hl.1 f.1
 obtain⟨e2,a2⟩:=qT hp.2.1 hl.2.1 f.2.1
 obtain⟨k,a3⟩:=qT hp.2.2 hl.2.2 f.2.2
 obtain⟨e,h⟩:=sum_at a1 a2 a3
 refine⟨?_,h⟩
 unfold gh jt b8
 rw [HC,eP g,ze,if_neg zc,lm hp,ze,if_neg zc]
 simp only [ze,j,e2,k,e]
 rfl
theorem Far_at{b:al}(f:gY b){p:ag}(hp:fV 60 p):jr b p=some (oL b p)∧0<=oL b p∧oL b p<=43200:=by
 obtain⟨hl,g⟩:=nN f
 obtain⟨-,q,r,u⟩:=id f
 obtain⟨j,a1⟩:=pU hp.1 hl.1 g.1 za
 obtain⟨e2,a2⟩:=pU hp.2.1 hl.2.1 g.2.1 za
 obtain⟨k,a3⟩:=pU hp.2.2 hl.2.2 g.2.2 za
 obtain⟨e,h⟩:=sum_at a1 a2 a3
 refine⟨?_,h⟩
 unfold jr iT b8
 rw [HC,eP f,ze,if_neg zc,lm hp,ze,if_neg zc]
 simp only [ze,j,e2,k,e]
 rfl
theorem sq_le{x y:Int}(f:0<=x)(h:x<=y):x*x<=y*y:=GI h h f za
theorem qk{b:al}(f:gY b)(p:ag):oW b p<=oL b p:=by
 obtain⟨-,j,q,r⟩:=f
 have k:∀x l h:Int,l<=h->ne x l h*ne x l h<=fa x l h*fa x l h:=fun x l h g=>sq_le (by unfold ne;omega) (by unfold ne fa;omega)
 have:=k p.fX b.bt.fX b.bd.fX za
 have:=k p.fY b.bt.fY b.bd.fY za
 have:=k p.fZ b.bt.fZ b.bd.fZ za
 unfold oW oL;omega
structure Sub(r b:al):Prop where
 x:r.bt.fX<=b.bt.fX∧b.bt.fX<=b.bd.fX∧b.bd.fX<=r.bd.fX
 y:r.bt.fY<=b.bt.fY∧b.bt.fY<=b.bd.fY∧b.bd.fY<=r.bd.fY
 z:r.bt.fZ<=b.bt.fZ∧b.bt.fZ<=b.bd.fZ∧b.bd.fZ<=r.bd.fZ
theorem far_mono{r b:al}(h:Sub r b)(p:ag):oL b p<=oL r p:=by
 obtain⟨h1,j,q⟩:=h
 have k:∀x l h g f:Int,g<=l->l<=h->h<=f->fa x l h*fa x l h<=fa x g f*fa x g f:=fun x l h g f a b c=>sq_le (by unfold fa;omega) (by unfold fa;omega)
 have:=k p.fX _ _ _ _ h1.1 h1.2.1 h1.2.2
 have:=k p.fY _ _ _ _ j.1 j.2.1 j.2.2
 have:=k p.fZ _ _ _ _ q.1 q.2.1 q.2.2
 unfold oL;omega
theorem half_at:∀x:Nat,x<600->Fb .i64 (sl .u64 (Fb .u64 (Fb .i64 (x:Int))) 1)=((x / 2:Nat):Int):=by decide+kernel
theorem search_ok{t:bg}(q:pM t)(d:Int)(G:d<=t.bQ*((t.bt.length:Int)-1)):Ok (gy (t.bd.length:Int) t d) (fun r=>(0<=r∧r<t.bd.length)∧d<=r*t.bQ):=by
 have hl:=q.len;have hs:=q.same;have E:=q.step
 unfold gy
 rw [HC]
 refine Gi (fun s=>∃i j:Nat,s=((i:Int),(j:Int))∧i<t.bd.length∧i<=j∧j<=t.bd.length∧(j<t.bd.length->d<=(j:Int)*t.bQ)) (fun s=>(s.2-s.1).toNat) ?_ ⟨0,t.bd.length,rfl,za,za,DI _,fun h=>za⟩
 rintro s ⟨i,j,rfl,i0,i1,i2,i3⟩
 unfold iN
 dsimp only
 refine Gl (fun g=>?_) (fun C=>Gt ⟨⟨za,za⟩,?_⟩)
 rotate_left
 ·obtain rfl:i=j:=by omega
  exact i3 i0
 have u:=half_at (i+j) za
 rw [GN]at u
 have D:(i+j) / 2<j:=by omega
 have f:i<=(i+j) / 2:=by omega
 rw [u]
 generalize (i+j) / 2=k at*
 unfold iP
 have F:0<=(k:Int)*t.bQ∧(k:Int)*t.bQ<=30*100:=⟨GK za za,GI za za za za⟩
 rw [w64 (n:=(k:Int)*t.bQ) za za,ze]
 refine Ok.iteND (fun g=>?_) (fun hle=>Gk ⟨i,k,rfl,i0,f,za,fun _=>hle⟩ zd)
 rw [w64 za za]
 refine Gk ⟨k+1,j,zc,?_,za,i2,i3⟩ zd
 have h1:(k:Int)*t.bQ<t.bQ*((t.bt.length:Int)-1):=by omega
 rw [GH]at h1
 have:=Int.lt_of_mul_lt_mul_left h1 za
 omega
theorem asc_le{l:List Int}(h:l.Pairwise (· <= ·)){i j:Nat}(f:i<=j)(g:j<l.length):l[i]<=l[j]:=by
 rcases Nat.lt_or_eq_of_le f with h1|rfl
 ·exact List.pairwise_iff_getElem.1 h i j _ _ h1
 ·exact GB _
def nG(t:bg):Int:=t.bQ*((t.bt.length:Int)-1)
def Reach(t:bg)(f:Int):Prop:=f<=nG t*nG t
theorem pp{t:bg}(g:pM t)(n f:Int)(L:0<=n)(Q:n<=f)(hf:f<=65535):Ok (dp t n f) (fun r=>(r.2.2=0↔Reach t f)∧(r.2.2=0->0<=r.1∧r.1<=r.2.1∧r.2.1<=5000)):=by
 have hl:=g.len;have hs:=g.same;have W:=g.step
 unfold dp
 rw [jk g,ze,if_neg zc]
 refine Gl (fun _=>za) (fun _=>Gl (fun _=>za) (fun h1=>?_))
 refine Gf (ceil_ok f za hf) (fun c hc=>?_)
 obtain⟨C,D,E⟩:=hc
 have O:0<=t.bQ*((t.bt.length:Int)-1)∧t.bQ*((t.bt.length:Int)-1)<=100*30:=⟨GK za za,GI za za za za⟩
 have H:Reach t f↔c<=nG t:=by
  unfold Reach
  constructor
  ·intro h;exact E _ O.1 h
  ·intro h;exact GD D (sq_le C.1 h)
 unfold nU
 rw [ze,w64 (n:=(t.bt.length:Int)-1) za za,w64 za za]
 refine Gl (fun N=>Gq ⟨⟨fun h=>by simp at h,fun h=>?_⟩,fun h=>by simp at h⟩) (fun N=>?_)
 ·have:=H.1 h;unfold nG at this;omega
 refine Gf (search_ok g c za) (fun u hu=>?_)
 refine Gf (floor_ok n za) (fun x X=>?_)
 obtain⟨⟨G,x1⟩,K, -⟩:=X
 have K:=K L
 have Y:x<=c:=by
  apply HA
  intro h
  have:(c+1)*(c+1)<=x*x:=GI za za za za
  have h4:(c+1)*(c+1)=c*c+2*c+1:=by rw [Fy,GF];omega
  omega
 refine Gf (Gm za) (fun q J=>?_)
 have F:0<=x.tdiv t.bQ:=GV G za
 have T:x.tdiv t.bQ<=(t.bt.length:Int)-1:=by
  rw [GS G]
  exact Fz za (by rw [GH];omega)
 have U:x.tdiv t.bQ<=u:=by
  rw [GS G]
  exact Fz za za
 rw [w64 za za]at J
 subst J
 refine Gf (Gh F za) (fun a I=>?_)
 refine Gf (Gh hu.1.1 hu.1.2) (fun b k=>Gq ⟨⟨fun _=>H.2 (by unfold nG;omega),fun _=>rfl⟩,fun _=>⟨g.lows _ I.1,?_,(g.highs _ k.1).2⟩⟩)
 obtain⟨i1,e1⟩:=List.getElem?_eq_some_iff.1 I.2
 obtain⟨i2,e2⟩:=List.getElem?_eq_some_iff.1 k.2
 have k1:=asc_le g.low (i:=(x.tdiv t.bQ).toNat) (j:=u.toNat) za za
 have k2:=g.lh u.toNat za i2
 simp only
 omega
def fT(z:bz):Prop:= -5000<=z.ca∧z.ca<=z.fTo∧z.fTo<=18014398509481984
structure PhV(a:aw):Prop where
 pos:fV 60 a.bw
 early:0<=a.bu
 late:a.bu<=a.co
 most:a.co<=18014398509481984
 weight:a.cC=1
theorem qA{t:bg}(q:pM t){b:al}(j:gY b){a:aw}(f:PhV a):Ok (eI t b a) (fun r=>(r.2=0↔Reach t (oL b a.bw))∧(r.2=0->fT r.1)):=by
 obtain⟨f,h1,D,E,u⟩:=f
 have F:gq a=some true:=by
  refine Gg ?_
  unfold gq
  rw [lm f,ze,if_pos rfl,if_pos (by simpa using h1),if_pos (by simpa using D),if_pos (by simpa using E),if_pos (by simp [u])]
  exact Gq (by simp [u])
 unfold eI
 rw [jk q,ze,if_neg zc,eP j,ze,if_neg zc,F,ze,if_neg zc]
 obtain⟨C,G,n1⟩:=rf j f
 obtain⟨e2,f0,f1⟩:=Far_at j f
 refine Gf (P:=fun r=>(r.2.2=0↔Reach t (oL b a.bw))∧(r.2.2=0->0<=r.1∧r.1<=r.2.1∧r.2.1<=5000)) ?_ (fun r k=>?_)
 ·unfold mo nj
  rw [jk q,ze,if_neg zc,eP j,ze,if_neg zc,lm f,ze,if_neg zc,C,e2]
  simp only [ze]
  exact Gf (pp q _ _ G (qk j _) za) (fun r k=>Gq k)
 ·refine Gw (fun h=>Gq ⟨⟨fun g=>(h g).elim,fun g=>(h (k.1.2 g)).elim⟩,fun g=>(h g).elim⟩) (fun h=>Gq ⟨⟨fun _=>k.1.1 h,fun _=>rfl⟩,fun _=>?_⟩)
  have:=k.2 h
  unfold fT
  simp only
  rw [w64 za za,w64 za za]
  exact⟨za,za,za⟩
end Go.Dw.Re
set_option maxRecDepth 100000
set_option maxHeartbeats 4000000
namespace Go.Dw.Re
open Go.Dw Go.Proofs
theorem Sub.ok{r b:al}(f:gY r)(hp:fV 20 r.bt)(h:Sub r b):gY b:=by
 obtain⟨-,h1,g,j⟩:=f
 obtain⟨k,q,u⟩:=hp
 obtain⟨x,y,z⟩:=h
 exact⟨⟨za,za,za⟩,za,za,za⟩
theorem Sub.refl{r:al}(f:gY r):Sub r r:=by
 obtain⟨-,h1,g,j⟩:=f
 exact⟨za,za,za⟩
theorem Sub.low{r b:al}(h:Sub r b):Sub r ⟨b.bt,b.bt⟩:=by
 obtain⟨x,y,z⟩:=h
 exact⟨⟨zd,zd,zd⟩,⟨zd,zd,zd⟩,⟨zd,zd,zd⟩⟩
theorem Sub.high{r b:al}(h:Sub r b):Sub r ⟨b.bd,b.bd⟩:=by
 obtain⟨x,y,z⟩:=h
 exact⟨⟨zd,zd,zd⟩,⟨zd,zd,zd⟩,⟨zd,zd,zd⟩⟩
theorem within_at{r b:al}(f:gY r)(hp:fV 20 r.bt)(h:Sub r b):lN b r=some true:=by
 have g:=h.ok f hp
 obtain⟨pl,ph⟩:=nN g
 have k:∀p,Sub r ⟨p,p⟩->fV 60 p->ic r p=some true:=fun p⟨x,y,z⟩j=>by
  unfold ic
  rw [eP f,ze,if_pos rfl,lm j,ze,if_pos rfl,(rf f j).1,ze]
  simp only at x y z
  have q:ne p.fX r.bt.fX r.bd.fX=0:=by unfold ne;omega
  have e2:ne p.fY r.bt.fY r.bd.fY=0:=by unfold ne;omega
  have u:ne p.fZ r.bt.fZ r.bd.fZ=0:=by unfold ne;omega
  unfold oW
  rw [q,e2,u];rfl
 unfold lN
 rw [eP g,ze,if_pos rfl,k _ h.low pl,ze,if_pos rfl,k _ h.high ph];rfl
theorem nF{a b:Int}(f: -60<=a∧a<=b∧b<=60):cw a b=some (a+(b-a) / 2):=by
 unfold cw
 rw [w64 (n:=b-a) za za]
 have:tI .i64 (b-a) 2=some ((b-a) / 2):=by
  unfold tI
  rw [if_neg za,GS za,w64 za za]
 rw [this,ze,w64 za za]
theorem center_ok{r b:al}(g:gY r)(hp:fV 20 r.bt)(h:Sub r b):Ok (gQ b) (fun p=>Sub r ⟨p,p⟩):=by
 have f:=h.ok g hp
 obtain⟨⟨q,u,C⟩,h1,j,k⟩:=nN f
 obtain⟨x,y,z⟩:=h
 unfold gQ b8 cf
 rw [eP f,ze,if_neg zc,ze,ze]
 simp only
 rw [nF za,ze,nF za,ze,nF za,ze]
 exact Gq ⟨zd,zd,zd⟩
def pts(b:al):Int:=(b.bd.fX-b.bt.fX+1)*(b.bd.fY-b.bt.fY+1)*(b.bd.fZ-b.bt.fZ+1)
theorem mul_in{x y m n:Int}(h1:1<=x∧x<=m)(f:1<=y∧y<=n):1<=x*y∧x*y<=m*n:=
 ⟨GD (by omega:(1:Int)<=1*1) (GI h1.1 f.1 za za),GI h1.2 f.2 za za⟩
theorem pts_in{b:al}(h:gY b):1<=pts b∧pts b<=125:=by
 obtain⟨-,h1,f,g⟩:=h
 have k:=mul_in (mul_in (x:=b.bd.fX-b.bt.fX+1) (y:=b.bd.fY-b.bt.fY+1) (m:=5) (n:=5) za za) (y:=b.bd.fZ-b.bt.fZ+1) (n:=5) za
 unfold pts
 omega
theorem points_at{b:al}(h:gY b):lM b=some (pts b):=by
 have hp:=pts_in h
 obtain⟨hl,f⟩:=nN h
 obtain⟨r,u,C⟩:=hl
 obtain⟨h1,j,k⟩:=f
 have g:=eP h
 obtain⟨-,s1,s2,D⟩:=h
 have q:=mul_in (x:=b.bd.fX-b.bt.fX+1) (y:=b.bd.fY-b.bt.fY+1) (m:=5) (n:=5) za za
 unfold lM b8
 unfold pts at hp⊢
 rw [g,ze,if_neg zc,ze,ze]
 simp only
 rw [w64 (n := b.bd.fX - b.bt.fX) za za, w64 (n := b.bd.fX - b.bt.fX + 1) za za, w64 (n := 1 * (b.bd.fX - b.bt.fX + 1)) za za, Int.one_mul,
  w64 (n:=b.bd.fY-b.bt.fY) za za,w64 (n:=b.bd.fY-b.bt.fY+1) za za,w64 (n:=(b.bd.fX-b.bt.fX+1)*(b.bd.fY-b.bt.fY+1)) za za,
  w64 (n:=b.bd.fZ-b.bt.fZ) za za,w64 (n:=b.bd.fZ-b.bt.fZ+1) za za,w64 za za]
theorem one_side{x:Int}(h:1<=x){y z:Int}(j:1<=y)(k:1<=z)(g:2<=x*y*z):2<=x∨2<=y∨2<=z:=by
 by_cases h1:x=1
 ·by_cases f:y=1
  ·subst h1 f;right;right;omega
  ·right;left;omega
 ·left;omega
theorem split_ok{r b:al}(H:gY r)(hp:fV 20 r.bt)(h:Sub r b):Ok (fA b) (fun s=>s.2.2=true->Sub r s.1∧Sub r s.2.1∧pts s.1+pts s.2.1=pts b):=by
 have k:=h.ok H hp
 obtain⟨⟨J,K,L⟩,h1,j,I⟩:=nN k
 have q:=points_at k
 obtain⟨-,s1,s2,N⟩:=id k
 obtain⟨x,y,z⟩:=h
 unfold fA b8 cf
 rw [q,ze]
 refine Gl (fun _=>Gq zc) (fun G=>?_)
 have C:=one_side (x:=b.bd.fX-b.bt.fX+1) (y:=b.bd.fY-b.bt.fY+1) (z:=b.bd.fZ-b.bt.fZ+1) za za za (by unfold pts at G;omega)
 simp only [ze]
 rw [w64 (n:=b.bd.fX-b.bt.fX) za za,w64 (n:=b.bd.fY-b.bt.fY) za za,w64 (n:=b.bd.fZ-b.bt.fZ) za za]
 have E:2<=b.bd.fX-b.bt.fX+1->Ok ((cw b.bt.fX b.bd.fX).bind fun g=>some (al.mk b.bt (ag.mk g b.bd.fY b.bd.fZ),al.mk (ag.mk (Fb .i64 (g+(1:Int))) b.bt.fY b.bt.fZ) b.bd,true)) (fun s:al×al×Bool=>s.2.2=true->Sub r s.1∧Sub r s.2.1∧pts s.1+pts s.2.1=pts b):=fun j=>by
  rw [nF za,ze,w64 za za]
  refine Gq fun _=>⟨⟨zd,zd,zd⟩,⟨zd,zd,zd⟩,?_⟩
  unfold pts
  simp only
  rw [<-Fy, <-Fy]
  congr 2;omega
 have F:2<=b.bd.fY-b.bt.fY+1->Ok ((cw b.bt.fY b.bd.fY).bind fun f=>some (al.mk b.bt (ag.mk b.bd.fX f b.bd.fZ),al.mk (ag.mk b.bt.fX (Fb .i64 (f+(1:Int))) b.bt.fZ) b.bd,true)) (fun s:al×al×Bool=>s.2.2=true->Sub r s.1∧Sub r s.2.1∧pts s.1+pts s.2.1=pts b):=fun j=>by
  rw [nF za,ze,w64 za za]
  refine Gq fun _=>⟨⟨zd,zd,zd⟩,⟨zd,zd,zd⟩,?_⟩
  unfold pts
  simp only
  rw [<-Fy, <-GF]
  congr 2;omega
 have u:2<=b.bd.fZ-b.bt.fZ+1->Ok ((cw b.bt.fZ b.bd.fZ).bind fun D=>some (al.mk b.bt (ag.mk b.bd.fX b.bd.fY D),al.mk (ag.mk b.bt.fX b.bt.fY (Fb .i64 (D+(1:Int)))) b.bd,true)) (fun s:al×al×Bool=>s.2.2=true->Sub r s.1∧Sub r s.2.1∧pts s.1+pts s.2.1=pts b):=fun j=>by
  rw [nF za,ze,w64 za za]
  refine Gq fun _=>⟨⟨zd,zd,zd⟩,⟨zd,zd,zd⟩,?_⟩
  unfold pts
  simp only
  rw [<-GF]
  congr 1;omega
 exact Gl (fun _=>Gl (fun _=>u za) (fun _=>F za)) (fun _=>Gl (fun _=>u za) (fun _=>E za))
theorem hull_ok{r a b:al}(j:gY r)(hp:fV 20 r.bt)(f:Sub r a)(g:Sub r b):Ok (nl a b) (Sub r):=by
 unfold nl b8 cf
 rw [eP (f.ok j hp),ze,if_neg zc,eP (g.ok j hp),ze,if_neg zc]
 simp only [ze]
 obtain⟨a1,a2,a3⟩:=f
 obtain⟨k,q,u⟩:=g
 exact Gq ⟨by simp only;split<;>split<;>omega,by simp only;split<;>split<;>omega,by simp only;split<;>split<;>omega⟩
end Go.Dw.Re
set_option maxRecDepth 100000
set_option maxHeartbeats 4000000
namespace Go.Dw.Re
open Go.Dw Go.Proofs
theorem shr30{n:Int}(f:0<=n):sl .i64 n 30=n / 1073741824:=by
 show n.fdiv (2 ^ (min (30:Int).toNat 64))=n / 1073741824
 rw [GA _ (by decide)]
 rfl
theorem from_ok{n:Int}(h:n<=9223372036854775808):Ok (ru n) (fun r=>r.1.length<=3):=by
 unfold ru
 refine Gl (fun _=>Gq zc) (fun k=>?_)
 refine Gf (P:=fun o:List Int=>o.length<=3) (Gi (fun s:Int×List Int=>0<=s.1∧s.2.length<=3∧s.1<1073741824 ^ (3-s.2.length)) (fun s=>s.1.toNat) ?_ ⟨zd,zc,by simp only [D5];omega⟩) (fun o ho=>Gq ho)
 rintro⟨s2,f⟩ ⟨i0,i1,i2⟩
 simp only at i0 i1 i2
 unfold qg
 refine Gl (fun g=>?_) (fun _=>Gt i1)
 refine Gf (Gn za) (fun x _=>?_)
 refine Gf (Ge (by simp only [D4,D5];omega)) (fun y j=>?_)
 subst j
 rw [shr30 i0]
 have q:f.length≠3:=fun e=>by rw [e]at i2;simp at i2;omega
 refine Gk ⟨zd,by simp only [Ec,D4,D5];omega,?_⟩ zd
 simp only [Ec,D4,D5]
 rw [show 3-f.length=(3-(f.length+(0+1)))+1 by omega,Int.pow_succ]at i2
 exact Int.ediv_lt_of_lt_mul za i2
theorem m8(l:List Int)(hl:l.length<=1000):Ok (md l) (fun r=>r=true->l.length<=64):=by
 have hc:Ok (dq l) (fun _=>True):=by
  unfold dq gE
  refine Gf (P:=fun _=>True) ?_ (fun o _=>Gq trivial)
  refine Gf (P:=fun _=>True) (Gx l.length za (fun _=>True) trivial (fun i j h1 _=>?_)) (fun o _=>by rcases o with _|_<;>exact Gq trivial)
  unfold fM oj
  refine Gl (fun g=>?_) (fun _=>Gt trivial)
  refine Gf (Gh za za) (fun a k=>?_)
  refine Gf (P:=fun _=>True) (Gl (fun _=>Gq trivial) (fun _=>Gq trivial)) (fun b _=>?_)
  rw [w64 za za]
  exact Gz (fun _=>Gt trivial) (fun _=>Gk ⟨⟨za,za⟩,trivial⟩ za)
 unfold md
 refine Gl (fun _=>Gq zc) (fun hle=>Gl (fun f=>?_) (fun _=>?_))
 ·rw [w64 za za]
  refine Gf (Gh za za) (fun a _=>Gu (fun _=>Gq zc) (fun _=>?_))
  exact Gf hc (fun _ _=>Gq fun _=>za)
 ·exact Gf hc (fun _ _=>Gq fun _=>za)
theorem digit_ok{l:List Int}{i:Int}(h:0<=i):Ok (n4 l i) (fun _=>True):=by
 unfold n4
 refine Gl (fun _=>Gq trivial) (fun f=>?_)
 exact Gf (Gh h za) (fun _ _=>Gq trivial)
theorem trim_ok{l:List Int}(hl:l.length<=1000):Ok (qi l) (fun r=>r.length<=l.length):=by
 unfold qi
 refine Gf (P:=fun o:List Int=>o.length<=l.length) (Gi (fun s:List Int=>s.length<=l.length) (fun s=>s.length) ?_ (DI _)) (fun o ho=>Gq ho)
 intro s i0
 unfold qj
 refine Gl (fun f=>?_) (fun _=>Gt i0)
 rw [w64 za za]
 refine Gf (Gh za za) (fun a _=>Gu (fun _=>?_) (fun _=>Gt i0))
 refine Gf (Ok.cut za za za) (fun y g=>?_)
 subst g
 have:((s.drop (0:Int).toNat).take (((s.length:Int)-1).toNat-(0:Int).toNat)).length=s.length-1:=by
  simp only [E1,E0];omega
 exact Gk (by rw [this];omega) (by rw [this];omega)
theorem pA{l:List Int}(hl:l.length<=1000):Ok (kK l) (fun r=>r.1.length<=64):=by
 unfold kK
 refine Gf (trim_ok hl) (fun x f=>Gl (fun _=>Gq zc) (fun _=>Gq zd))
theorem qd{a b:List Int}(L:a.length<=64)(N:b.length<=64):Ok (lk a b) (fun r=>r.length<=128):=by
 unfold lk
 rw [w64 za za]
 refine Gf (Ok.mk za za za) (fun x E=>?_)
 have k:x.length=a.length+b.length:=by subst E;simp;omega
 refine Gf (P:=fun o:List Int=>o.length=a.length+b.length) (Gi (fun s:Int×List Int=>(0<=s.1∧s.1<=a.length)∧s.2.length=a.length+b.length) (fun s=>((a.length:Int)-s.1).toNat) ?_ ⟨⟨zc,zc⟩,k⟩) (fun o ho=>?_)
 ·rintro⟨s2,Q⟩ ⟨⟨i0,i1⟩,i2⟩
  simp only at i0 i1 i2
  unfold m7
  refine Gl (fun j=>?_) (fun _=>Gt i2)
  refine Gf (Gh za za) (fun y _=>?_)
  refine Gf (P:=fun o:Int×List Int=>o.1=s2∧o.2.length=a.length+b.length) (Gi (fun s:Int×Int×List Int=>(0<=s.2.1∧s.2.1<=(b.length:Int)+1)∧s.2.2.length=a.length+b.length) (fun s=>((b.length:Int)+1-s.2.1).toNat) ?_ ⟨⟨zc,zd⟩,i2⟩) (fun o ho=>?_)
  ·rintro⟨T,C,G⟩ ⟨⟨u,F⟩,f⟩
   simp only at u F f
   unfold m6
   dsimp only
   rw [w64 (n:=(b.length:Int)+1) za za]
   refine Gl (fun j=>?_) (fun _=>Gt ⟨rfl,f⟩)
   rw [w64 (n:=s2+C) za za,w64 (n:=C+1) za za]
   refine Gl (fun q=>?_) (fun _=>Gk ⟨⟨zd,zd⟩,f⟩ zd)
   refine Gf (Gv za za) (fun _ _=>Gf (Gh za za) (fun H _=>?_))
   refine Gf (digit_ok u) (fun I _=>?_)
   refine Gf (Gn za) (fun J _=>?_)
   refine Gf (Gv za za) (fun _ _=>Gf (Gs za za) (fun K g=>?_))
   subst g
   exact Gk ⟨⟨zd,zd⟩,by simpa using f⟩ zd
  ·obtain⟨h1,D⟩:=ho
   rw [h1,w64 za za]
   exact Gk ⟨⟨zd,zd⟩,D⟩ zd
 ·refine Gf (trim_ok za) (fun r O=>Gq za)
theorem mul_ok{a b:List Int}(f:a.length<=64)(g:b.length<=64):Ok (nat_Mul a b) (fun r=>r.1.length<=64):=by
 unfold nat_Mul qh
 refine Gf (P:=fun _=>True) (Gf (m8 a za) (fun x _=>Gz (fun _=>Gf (m8 b za) (fun _ _=>Gq trivial)) (fun _=>Gq trivial))) (fun x _=>?_)
 refine Gy (fun _=>Gq zc) (fun _=>?_)
 exact Gf (qd f g) (fun y k=>Gf (pA za) (fun z j=>Gq j))
theorem add_ok'{a b:List Int}(C:a.length<=64)(D:b.length<=64):Ok (nat_Add a b) (fun r=>r.1.length<=64):=by
 unfold nat_Add qh
 refine Gf (P:=fun _=>True) (Gf (m8 a za) (fun x _=>Gz (fun _=>Gf (m8 b za) (fun _ _=>Gq trivial)) (fun _=>Gq trivial))) (fun x _=>?_)
 refine Gy (fun _=>Gq zc) (fun _=>?_)
 have hm:∃m:Int,(if(b.length:Int)>(a.length:Int)then(b.length:Int)else(a.length:Int))=m∧0<=m∧m<=64:=⟨_,rfl,by split<;>omega,by split<;>omega⟩
 obtain⟨m,em,m0,m1⟩:=hm
 refine Gf (P:=fun o:List Int=>o.length<=65) (Gi (fun s:Int×Int×List Int=>(0<=s.2.1∧s.2.1<=m+1)∧s.2.2.length=s.2.1.toNat) (fun s=>(m+1-s.2.1).toNat) ?_ ⟨⟨zc,zd⟩,rfl⟩) (fun o ho=>Gf (pA za) (fun z j=>Gq j))
 rintro⟨E,k,F⟩ ⟨⟨i0,i1⟩,i2⟩
 simp only at i0 i1 i2
 unfold qe
 dsimp only
 rw [em,w64 (n:=m+1) za za]
 refine Gl (fun f=>?_) (fun _=>Gt za)
 refine Gf (digit_ok i0) (fun G _=>Gf (digit_ok i0) (fun q _=>?_))
 refine Gf (Gn za) (fun u _=>?_)
 refine Gf (Ge (by simp only [D4,D5];omega)) (fun y g=>?_)
 subst g
 rw [w64 (n:=k+1) za za]
 exact Gk ⟨⟨zd,zd⟩,by simp only [Ec,D4,D5];omega⟩ zd
def I64(a:Int):Prop:= -9223372036854775808<=a∧a<=9223372036854775807
theorem qp(a:Int):I64 (Fb .i64 a):=by
 unfold I64;rw [IntKind.wrap_i64];omega
theorem n5{a:Int}(h:I64 a):Ok (eo a) (fun r=>r.length<=64):=by
 unfold eo
 have f:=qp (0-a)
 unfold I64 at h f
 refine Gf (from_ok (by split<;>omega)) (fun x j=>?_)
 exact Gf (mul_ok za za) (fun y g=>Gq g)
theorem squared_ok{a:bR}{n d:Int}:Ok (je a n d) (fun r=>r.length<=64):=by
 unfold je
 refine Gf (n5 (qp _)) (fun x f=>Gf (n5 (qp _)) (fun y g=>?_))
 exact Gf (add_ok' f g) (fun z j=>Gq j)
theorem sum_okR(l:List Int)(hl:l.length<=1000):Ok (gc l) I64:=by
 unfold gc
 refine Gf (P:=I64) (Gi (fun s:Int×Int=>(0<=s.2∧s.2<=l.length)∧I64 s.1) (fun s=>((l.length:Int)-s.2).toNat) ?_ ⟨⟨zc,zc⟩,by unfold I64;simp⟩) (fun o ho=>Gq ho)
 rintro⟨s1,s2⟩ ⟨⟨i0,i1⟩,i2⟩
 simp only at i0 i1 i2
 unfold nH
 refine Gl (fun f=>?_) (fun _=>Gt i2)
 refine Gf (Gh za za) (fun a _=>?_)
 rw [w64 (n:=s2+1) za za]
 exact Gk ⟨⟨zd,zd⟩,qp _⟩ zd
structure StN(x:bh):Prop where
 num:I64 x.cg.a0
 den:I64 x.b9.a0
 taps:x.eC.length<=3
 shift:0<=x.fc
theorem valid_N{x:bh}(h:nM x):StN x:=by
 obtain⟨-, -,h1,f,g,j⟩:=h
 exact⟨by unfold I64;omega,by unfold I64;omega,h1,f⟩
theorem gain_okN{x:bh}(h:StN x)(n d:Int):Ok (nu x n d) (fun r=>r.1.cg.length<=64∧r.1.b9.length<=64):=by
 unfold nu
 refine Gu (fun _=>Gf (n5 h.num) (fun a f=>Gf (n5 h.den) (fun b g=>Gq ⟨f,g⟩))) (fun _=>?_)
 refine Gu (fun _=>Gf squared_ok (fun a f=>Gf squared_ok (fun b g=>Gq ⟨f,g⟩))) (fun _=>?_)
 refine Gf (sum_okR _ (by have:=h.taps;omega)) (fun a f=>Gf (n5 f) (fun b g=>?_))
 have hs:=h.shift
 have e:yF .i64 1 x.fc=some (shlI .i64 1 x.fc):=by unfold yF;rw [if_neg za]
 rw [e,ze]
 exact Gf (n5 (qp _)) (fun c hc=>Gq ⟨g,hc⟩)
theorem times_ok{a b:bD}(h1:a.cg.length<=64)(g:a.b9.length<=64)(j:b.cg.length<=64)(k:b.b9.length<=64):Ok (qw a b) (fun r=>r.1.cg.length<=64∧r.1.b9.length<=64):=by
 have q:∀f:bD,f.cg.length<=64->f.b9.length<=64->Ok (iq f) (fun _=>True):=fun f a b=>by
  unfold iq
  exact Gf (m8 _ za) (fun _ _=>Gz (fun _=>Gf (m8 _ za) (fun _ _=>Gz (fun _=>Gq trivial) (fun _=>Gq trivial))) (fun _=>Gq trivial))
 unfold qw
 refine Gf (q a h1 g) (fun _ _=>Gy (fun _=>Gq zc) (fun _=>Gf (q b j k) (fun _ _=>Gy (fun _=>Gq zc) (fun _=>?_))))
 refine Gf (qd h1 j) (fun x C=>Gf (pA za) (fun y u=>?_))
 refine Gf (qd g k) (fun z D=>Gf (pA za) (fun w hw=>?_))
 exact Gw (fun _=>Gq zc) (fun _=>Gw (fun _=>Gq zc) (fun _=>Gq ⟨u,hw⟩))
theorem Gain_ok{r:bv}(h:pf r)(n d:Int):Ok (nq r n d) (fun x=>x.1.cg.length<=64∧x.1.b9.length<=64):=by
 have f:∀a b c:Int,Ok (cU a b c) (fun _=>True):=fun a b c=>by
  unfold cU;exact Gl (fun _=>Gq trivial) (fun _=>Gq trivial)
 have hl:=h.1
 unfold nq
 rw [resp_valid h,ze,if_neg zc]
 refine Gf (f _ _ _) (fun _ _=>Gy (fun _=>Gq zc) (fun _=>Gf (f _ _ _) (fun _ _=>Gy (fun _=>Gq zc) (fun _=>?_))))
 refine Gf (P:=fun o=>match o with| .inl y=>y.1.length<=64∧y.2.length<=64| .inr y=>y.1.cg.length<=64∧y.1.b9.length<=64) (Gi (fun s:Int×List Int×List Int=>(0<=s.1∧s.1<=r.cV.length)∧s.2.1.length<=64∧s.2.2.length<=64) (fun s=>((r.cV.length:Int)-s.1).toNat) ?_ ⟨⟨zc,zc⟩,zc,zc⟩) (fun o ho=>by rcases o with y|y<;>exact Gq ho)
 rintro⟨s1,s2,u⟩ ⟨⟨i0,i1⟩,i2,i3⟩
 simp only at i0 i1 i2 i3
 unfold mN
 refine Gl (fun j=>?_) (fun _=>Gt ⟨i2,i3⟩)
 refine Gf (Gh za za) (fun x k=>?_)
 refine Gf (gain_okN (valid_N (h.2 x k.1)) n d) (fun y g=>Gy (fun _=>Gt zc) (fun _=>?_))
 refine Gf (times_ok i2 i3 g.1 g.2) (fun z q=>Gw (fun _=>Gt zc) (fun _=>?_))
 rw [w64 za za]
 exact Gk ⟨⟨zd,zd⟩,q⟩ zd
theorem byte8(s:List UInt8)(h:s.all (fun b=>decide (b.toNat<=8))=true){n:Int}(f:0<=n)(h1:n<s.length):Ok (wW s n) (fun c=>0<=c∧c<=8):=by
 refine(Ok.byte f h1).mono fun c⟨b,g,hc⟩=>?_
 have:=List.all_eq_true.1 h b (D6 g)
 simp only [decide_eq_true_eq]at this
 omega
theorem shr16{n:Int}(f:0<=n):sl .u64 n 16=n / 65536:=by
 show n.fdiv (2 ^ (min (16:Int).toNat 64))=n / 65536
 rw [GA _ (by decide)]
 rfl
theorem shr32{n:Int}(f:0<=n):sl .u64 n 32=n / 4294967296:=by
 show n.fdiv (2 ^ (min (32:Int).toNat 64))=n / 4294967296
 rw [GA _ (by decide)]
 rfl
theorem wU8{n:Int}(h:0<=n∧n<256):Fb .u8 n=n:=IntWalk.u8_in _ za
theorem len8_ok{n m:Int}(f:0<=n∧n<65536)(hm:0<=m∧m<=48):Ok (lE n m) (fun r=>0<=r∧r<=m+16):=by
 unfold lE
 refine Gl (fun h=>?_) (fun h=>?_)
 ·rw [shr8 f.1,wU8 za]
  refine Gf (byte8 _ (by decide+kernel) za so) (fun c hc=>?_)
  rw [w64 (n:=m+8) za za,w64 (n:=c) za za,w64 za za]
  exact Gq ⟨za,za⟩
 ·rw [wU8 za]
  refine Gf (byte8 _ (by decide+kernel) za so) (fun c hc=>?_)
  rw [w64 (n:=c) za za,w64 za za]
  exact Gq ⟨za,za⟩
theorem bits_ok{n:Int}(h:0<=n∧n<18446744073709551616):Ok (ia n) (fun r=>0<=r∧r<=64):=by
 have g:∀{n m:Int},0<=n∧n<4294967296->0<=m∧m<=32->Ok (kr n m) (fun r=>0<=r∧r<=m+32):=fun{n m}j hm=>by
  unfold kr
  refine Gl (fun h=>?_) (fun h=>?_)
  ·rw [shr16 j.1,w64 za za]
   exact(len8_ok za za).mono fun r f=>by omega
  ·exact(len8_ok za za).mono fun r f=>by omega
 unfold ia n7
 refine Gf (P:=fun r=>0<=r∧r<=64) (Gl (fun h=>?_) (fun h=>?_)) (fun r f=>Gq f)
 ·rw [shr32 za]
  exact(g za za).mono fun r f=>by omega
 ·exact(g za za).mono fun r f=>by omega
theorem u64_range(n:Int):0<=Fb .u64 n∧Fb .u64 n<18446744073709551616:=by
 simp [Fb,IntKind.bits,IntKind.signed];omega
theorem dig17{c m d:Int}(hc: -1<=c∧c<=63)(f:0<=d∧d<=255):Ok (fB c m d) (fun r=> -256<=r∧r<=16400):=by
 unfold fB
 rw [w64 (n:=256*c) za za,w64 za za]
 exact Gq ⟨za,za⟩
theorem dig20{c m d:Int}(hc: -1<=c∧c<=63)(f:0<=d∧d<=127):Ok (fC c m d) (fun r=> -256<=r∧r<=16400):=by
 unfold fC
 rw [w64 (n:=d*2) za za,w64 (n:=d*2+1) za za]
 exact Gl (fun _=>Gf (Gm za) (fun _ _=>dig17 hc za)) (fun _=>dig17 hc za)
theorem dig23{c m d:Int}(hc: -1<=c∧c<=63)(f:0<=d∧d<=63):Ok (fD c m d) (fun r=> -256<=r∧r<=16400):=by
 unfold fD
 rw [w64 (n:=d*2) za za,w64 (n:=d*2+1) za za]
 exact Gl (fun _=>Gf (Gm za) (fun _ _=>dig20 hc za)) (fun _=>dig20 hc za)
theorem dig26{c m d:Int}(hc: -1<=c∧c<=63)(f:0<=d∧d<=31):Ok (fF c m d) (fun r=> -256<=r∧r<=16400):=by
 unfold fF
 rw [w64 (n:=d*2) za za,w64 (n:=d*2+1) za za]
 exact Gl (fun _=>Gf (Gm za) (fun _ _=>dig23 hc za)) (fun _=>dig23 hc za)
theorem dig29{c m d:Int}(hc: -1<=c∧c<=63)(f:0<=d∧d<=15):Ok (fG c m d) (fun r=> -256<=r∧r<=16400):=by
 unfold fG
 rw [w64 (n:=d*2) za za,w64 (n:=d*2+1) za za]
 exact Gl (fun _=>Gf (Gm za) (fun _ _=>dig26 hc za)) (fun _=>dig26 hc za)
theorem dig32{c m d:Int}(hc: -1<=c∧c<=63)(f:0<=d∧d<=7):Ok (fH c m d) (fun r=> -256<=r∧r<=16400):=by
 unfold fH
 rw [w64 (n:=d*2) za za,w64 (n:=d*2+1) za za]
 exact Gl (fun _=>Gf (Gm za) (fun _ _=>dig29 hc za)) (fun _=>dig29 hc za)
theorem dig35{c m d:Int}(hc: -1<=c∧c<=63)(f:0<=d∧d<=3):Ok (fI c m d) (fun r=> -256<=r∧r<=16400):=by
 unfold fI
 rw [w64 (n:=d*2) za za,w64 (n:=d*2+1) za za]
 exact Gl (fun _=>Gf (Gm za) (fun _ _=>dig32 hc za)) (fun _=>dig32 hc za)
theorem dig38{c m d:Int}(hc: -1<=c∧c<=63)(f:0<=d∧d<=1):Ok (fJ c m d) (fun r=> -256<=r∧r<=16400):=by
 unfold fJ
 rw [w64 (n:=d*2) za za,w64 (n:=d*2+1) za za]
 exact Gl (fun _=>Gf (Gm za) (fun _ _=>dig35 hc za)) (fun _=>dig35 hc za)
theorem digits_ok{c m:Int}(hc: -1<=c∧c<=63):Ok (gw c m) (fun r=> -256<=r∧r<=16400):=by
 unfold gw
 exact Gl (fun _=>Gf (Gm za) (fun _ _=>dig38 hc za)) (fun _=>dig38 hc za)
theorem log_ok(n:Int):Ok (jT n) (fun r=> -256<=r.1∧r.1<=16400):=by
 unfold jT
 refine Gl (fun _=>Gq ⟨zc,zc⟩) (fun _=>?_)
 refine Gf (bits_ok (u64_range n)) (fun L g=>?_)
 rw [w64 (n:=L-1) za za]
 refine Gl (fun h=>?_) (fun h=>?_)
 ·rw [w64 za za]
  have e:yF .i64 n (30-(L-1))=some (shlI .i64 n (30-(L-1))):=by unfold yF;rw [if_neg za]
  rw [e,ze]
  exact Gf (digits_ok za) (fun r f=>Gq f)
 ·rw [w64 za za]
  have e:shrO .i64 n (L-1-30)=some (sl .i64 n (L-1-30)):=by unfold shrO;rw [if_neg za]
  rw [e,ze]
  exact Gf (digits_ok za) (fun r f=>Gq f)
theorem logNat_ok{l:List Int}(hl:l.length<=64):Ok (iU l) (fun r=> -1000<=r.1∧r.1<=600000):=by
 unfold iU
 refine Gf (m8 l za) (fun v _=>Gy (fun _=>Gq ⟨zc,zc⟩) (fun _=>?_))
 rw [w64 (n:=(l.length:Int)-1) za za]
 refine Gl (fun _=>Gq ⟨zc,zc⟩) (fun g=>Gu (fun h1=>?_) (fun h1=>?_))
 ·refine Gf (Gh za za) (fun a _=>Gf (log_ok a) (fun r f=>Gq ⟨zd,zd⟩))
 ·rw [w64 (n:=(l.length:Int)-1-1) za za,w64 (n:=7680*((l.length:Int)-1-1)) za za]
  refine Gf (Gh za za) (fun a _=>Gf (Gh za za) (fun b _=>Gf (log_ok _) (fun r f=>?_)))
  rw [w64 za za]
  exact Gq ⟨zd,zd⟩
theorem ground_ok{s:bS}{r:bv}(h:pf r)(a:Int):Ok (lf s r a) (fun x=> -700000<=x.1∧x.1<=700000):=by
 unfold lf
 refine Gf (Gain_ok h _ _) (fun g f=>Gw (fun _=>Gq ⟨zc,zc⟩) (fun _=>?_))
 refine Gf (logNat_ok f.1) (fun x j=>Gw (fun _=>Gq ⟨zc,zc⟩) (fun _=>?_))
 refine Gf (logNat_ok f.2) (fun y k=>Gw (fun _=>Gq ⟨zc,zc⟩) (fun _=>?_))
 refine Gf (log_ok a) (fun z q=>?_)
 rw [w64 (n:=2*z.1) za za,w64 (n:=2*z.1+y.1) za za,w64 za za]
 exact Gq ⟨zd,zd⟩
theorem floorL_at{l:Int}(h: -1000000<=l∧l<=1000000):jI l=some (l*30103 / 256000):=by
 unfold jI m5
 rw [if_pos so,ze]
 dsimp only
 rw [if_neg so,w64 (n:=l*30103) za za]
 have j: -30103000000<=l*30103∧l*30103<=30103000000:=by omega
 generalize l*30103=n at*
 have g:tI .i64 n 256000=some (Fb .i64 (n.tdiv 256000)):=by unfold tI;rw [if_neg za]
 have e2:w5 n 256000=some (n.tmod 256000):=by unfold w5;rw [if_neg za]
 rw [g,e2,ze,ze]
 rcases GC 0 n with f|f
 ·rw [GS f,GW f,if_neg so,w64 za za]
 ·obtain⟨m,rfl⟩:∃m,n= -m:=⟨-n,za⟩
  rw [Int.neg_tdiv,GQ,GS za,GW za,w64 (n:= -(m / 256000)) za za,w64 za za]
  by_cases hm:m%256000=0
  ·rw [if_neg so];congr 1;omega
  ·rw [if_pos so];congr 1;omega
theorem ceilL_at{l:Int}(h: -1000000<=l∧l<=1000000):mF l=some (-(-l*30103 / 256000)):=by
 unfold mF
 rw [w64 (n:=0-l) za za,floorL_at za,ze,w64 za za]
 congr 1
 rw [show 0-l= -l by omega];omega
theorem half_at'{n:Int}:kG n=some (n / 2):=by
 unfold kG
 show some (n.fdiv (2 ^ (min (1:Int).toNat 64)))=_
 rw [GA _ (by decide)]
 rfl
theorem scale_valid{s:ah}(h:fb s):dK s.bK=some true:=by
 have h1:=h.num;have f:=h.den
 refine Gg ?_
 unfold dK
 rw [jk h.cor,ze,if_pos zc]
 exact Gl (fun _=>Gl (fun _=>Gl (fun _=>Gq so) (fun _=>za)) (fun _=>za)) (fun _=>za)
theorem station_ok{s:ah}(hs:fb s){r:bv}(k:pf r)(a:Int){n f:Int}(j:0<=n)(g:n<=f)(hf:f<=65535):Ok (im s.bK r a n f) (fun x=>x.2=0->x.1.bt<=x.1.bd):=by
 unfold im
 rw [scale_valid hs,ze,if_neg zc]
 refine Gl (fun _=>Gq zc) (fun _=>Gl (fun _=>Gq zc) (fun _=>?_))
 refine Gf (ground_ok k a) (fun x u=>Gw (fun h=>Gq zc) (fun _=>?_))
 refine Gf (pp hs.cor n f j g hf) (fun y q=>Gw (fun h=>Gq zc) (fun h=>?_))
 obtain⟨C,D,E⟩:=q.2 h
 rw [w64 (n:=x.1-2) za za,w64 (n:=0-x.1) za za,w64 (n:=0-x.1-6) za za]
 rw [half_at',ze,floorL_at za,ze,half_at',ze,w64 (n:=0-(0-x.1-6) / 2) za za,ceilL_at za,ze]
 refine Gq fun _=>?_
 simp only
 rw [w64 za za,w64 za za]
 omega
end Go.Dw.Re
set_option maxRecDepth 100000
set_option maxHeartbeats 4000000
namespace Go.Dw.Re
open Go.Dw Go.Proofs
theorem or_some(l:List Int)(hl:l.length<1000):∃r,dI l=some r:=by
 unfold dI
 have:=Sd.or_go (l:=l) (n:=0) (r:=l) hl za zc
 rw [show((0:Int))=((0:Nat):Int)from rfl,this]
 cases l.find? fun x=>decide (x≠0)<;>exact⟨_,rfl⟩
structure PV(q:ak):Prop where
 box:gY q.bj
 reg:fV 20 q.bj.bt
 tab:pM q.bG
 len:1<=q.bM.length∧q.bM.length<=64
 cap:1<=q.dv∧q.dv<=1000
 ph:∀a∈q.bM,PhV a∧Reach q.bG (oL q.bj a.bw)
theorem sub_zone{q:ak}(g:PV q){b:al}(h:Sub q.bj b){a:aw}(j:a∈q.bM):Ok (eI q.bG b a) (fun r=>r.2=0∧fT r.1):=by
 obtain⟨u,k⟩:=g.ph a j
 refine(qA g.tab (h.ok g.box g.reg) u).mono fun r f=>?_
 have:r.2=0:=f.1.2 (GD (far_mono h _) k)
 exact⟨this,f.2 this⟩
theorem oF{q:ak}(f:PV q):jJ q=some 0:=by
 have hl:=f.len;have hc:=f.cap
 refine Gg ?_
 unfold jJ
 rw [eP f.box,ze,if_neg zc,jk f.tab,ze,if_neg zc]
 refine Gu (fun h=>za) (fun _=>Gl (fun h=>za) (fun _=>Gl (fun h=>za) (fun _=>Gl (fun h=>za) (fun _=>?_))))
 refine Gf (P:=fun o=>o= .inl ()) (Gx q.bM.length za (fun _=>True) trivial (fun i r h1 _=>?_)) (fun o ho=>by subst ho;exact Gq rfl)
 unfold lu
 refine Gl (fun j=>?_) (fun _=>Gt rfl)
 refine Gf (Gh za za) (fun a g=>?_)
 refine Gf (sub_zone f (Sub.refl f.box) g.1) (fun z k=>?_)
 refine Gw (fun h=>(h k.1).elim) (fun _=>?_)
 rw [w64 za za]
 exact Gk ⟨⟨za,za⟩,trivial⟩ za
theorem zones_ok{q:ak}(f:PV q){b:al}(h:Sub q.bj b):Ok (ip q b) (fun r=>r.2=0∧r.1.length=q.bM.length∧∀z∈r.1,fT z):=by
 have hl:=f.len
 unfold ip
 rw [oF f,ze,if_neg zc,within_at f.box f.reg h,ze,if_neg zc]
 refine Gf ?_ (fun r D=>Gq D)
 unfold nS
 refine Gf (Ok.mkC za za za za) (fun x E=>?_)
 subst E
 refine Gf (P:=fun o=>∃l,o= .inl l∧l.length=q.bM.length∧∀z∈l,fT z) (Gi (fun s:Int×List bz=>(0<=s.1∧s.1<=q.bM.length)∧s.2.length=s.1.toNat∧∀z∈s.2,fT z) (fun s=>((q.bM.length:Int)-s.1).toNat) ?_ ⟨⟨zc,zc⟩,zc,zc⟩) (fun o⟨l,ho,h1,k⟩=>by subst ho;exact Gq ⟨rfl,h1,k⟩)
 rintro⟨s2,G⟩ ⟨⟨i0,i1⟩,i2,i3⟩
 simp only at i0 i1 i2 i3
 unfold lj
 refine Gl (fun C=>?_) (fun _=>Gt ⟨G,rfl,za,i3⟩)
 refine Gf (Gh za za) (fun a u=>?_)
 refine Gf (sub_zone f h u.1) (fun z j=>?_)
 refine Gw (fun h=>(h j.1).elim) (fun _=>?_)
 refine Gf (Ge (by simp only [D4,D5];omega)) (fun y F=>?_)
 subst F
 rw [w64 za za]
 refine Gk ⟨⟨zd,zd⟩,by simp only [Ec,D4,D5];omega,fun H g=>?_⟩ zd
 rcases List.mem_append.1 g with h|h
 ·exact i3 H h
 ·rw [List.mem_singleton.1 h];exact j.2
theorem cost_ok{q:ak}(g:PV q)(l:List bz)(t:Int):Ok (kJ q l t) (fun r=>(∀z∈l,fT z∧z.ca<=t∧t<=z.fTo)->r=0):=by
 have hl:=g.len;have hc:=g.cap
 unfold kJ
 refine Gf (P:=fun o=>(∀z∈l,fT z∧z.ca<=t∧t<=z.fTo)->o=0) (Gi (fun s:Int×Int=>(0<=s.2∧s.2<=q.bM.length)∧((∀z∈l,fT z∧z.ca<=t∧t<=z.fTo)->s.1=0)) (fun s=>((q.bM.length:Int)-s.2).toNat) ?_ ⟨⟨zc,zc⟩,fun _=>rfl⟩) (fun o ho=>Gq ho)
 rintro⟨s1,s2⟩ ⟨⟨i0,i1⟩,i2⟩
 simp only at i0 i1 i2
 unfold lQ
 refine Gl (fun j=>?_) (fun _=>Gt i2)
 refine Gf (Gh za za) (fun a C=>?_)
 refine Gl (fun k=>?_) (fun _=>?_)
 ·refine Gf (Gh za za) (fun z u=>?_)
  unfold gT
  rw [ze,w64 (n:=s2+1) za za]
  refine Gk ⟨⟨zd,zd⟩,fun f=>?_⟩ zd
  obtain⟨⟨D,z2,z3⟩,z4,z5⟩:=f z u.1
  have i2:=i2 f
  simp only
  rw [w64 (n:=t-z.fTo) za za,w64 (n:=z.ca-t) za za]
  have e:(if(0:Int)>(if t-z.fTo>z.ca-t then t-z.fTo else z.ca-t)then(0:Int)else(if t-z.fTo>z.ca-t then t-z.fTo else z.ca-t))=0:=by
   split<;>split<;>omega
  rw [e,if_pos za,i2]
  simp [w64]
 ·rw [w64 za za]
  exact Gk ⟨⟨zd,zd⟩,i2⟩ zd
theorem best_ok{q:ak}(I:PV q){l:List bz}(hl:1<=l.length∧l.length<=64):Ok (kH q l) (fun r=>(∃z,l=[z]∧fT z)->r.2=0):=by
 have hzero:∀t,(∃z∈l,t=z.ca∨t=z.fTo)->(∃z,l=[z]∧fT z)->∀z∈l,fT z∧z.ca<=t∧t<=z.fTo:=by
  rintro t ⟨y,j,J⟩ ⟨z,rfl,f⟩ x g
  rw [FW]at g j
  subst g j
  obtain⟨N,z2,z3⟩:=f
  exact⟨⟨N,z2,z3⟩,za,za⟩
 unfold kH
 rw [w64 (n:=2*(l.length:Int)) za za]
 refine Gf (Ok.mkC za za za za) (fun x g=>?_)
 subst g
 refine Gf (P:=fun o:List Int=>o.length=2*l.length∧∀t∈o,∃z∈l,t=z.ca∨t=z.fTo) (Gi (fun s:Int×List Int=>(0<=s.1∧s.1<=l.length)∧s.2.length=2*s.1.toNat∧∀t∈s.2,∃z∈l,t=z.ca∨t=z.fTo) (fun s=>((l.length:Int)-s.1).toNat) ?_ ⟨⟨zc,zc⟩,zc,zc⟩) (fun o ho=>?_)
 ·rintro⟨s2,E⟩ ⟨⟨i0,i1⟩,i2,i3⟩
  simp only at i0 i1 i2 i3
  unfold mG
  refine Gl (fun D=>?_) (fun _=>Gt ⟨za,i3⟩)
  refine Gf (Gh za za) (fun z f=>?_)
  refine Gf (Ge (by simp only [D4,D5];omega)) (fun y j=>?_)
  subst j
  rw [w64 za za]
  refine Gk ⟨⟨zd,zd⟩,by simp only [Ec,D4,D5];omega,fun t J=>?_⟩ zd
  rcases List.mem_append.1 J with h|h
  ·exact i3 t h
  ·simp only [Fc,List.not_mem_nil,or_false]at h
   exact⟨z,f.1,h⟩
 ·obtain⟨h1,H⟩:=ho
  refine Gu (fun h=>za) (fun _=>?_)
  refine Gf (Gv za za) (fun _ _=>Gf (Gh za za) (fun L g14=>?_))
  refine Gf (Gv za za) (fun _ _=>Gf (Gh za za) (fun F g17=>?_))
  refine Gf (cost_ok I l F) (fun c hc=>?_)
  refine Gf (Ok.sub za za za) (fun _ _=>?_)
  refine Gf (Ok.lenv za za) (fun n O=>?_)
  refine Gf (P:=fun o=>(∃z,l=[z]∧fT z)->o.2=0) (Gi (fun s:Int×Int×Int=>(0<=s.2.2∧s.2.2<=n)∧((∃z,l=[z]∧fT z)->s.2.1=0)) (fun s=>(n-s.2.2).toNat) ?_ ⟨⟨zc,zd⟩,fun h=>hc (hzero _ (H _ g17.1) h)⟩) (fun o ho=>Gq ho)
  rintro⟨s1,s2,E⟩ ⟨⟨i0,i1⟩,i2⟩
  simp only at i0 i1 i2
  unfold lP
  refine Gl (fun D=>?_) (fun _=>Gt i2)
  refine Gf (Ok.inv za za za) (fun _ _=>?_)
  refine Gf (Gh za za) (fun G k=>?_)
  refine Gf (cost_ok I l G) (fun K C=>?_)
  rw [w64 za za]
  have f:(∃z,l=[z]∧fT z)->K=0:=fun h=>C (hzero _ (H _ k.1) h)
  have A:∀(u v:Int),((∃z,l=[z]∧fT z)->v=0)->Ok (some (.next (u,v,E+1)):Option (gB (Int×Int×Int) (Int×Int))) (Gd (fun s:Int×Int×Int=>(0<=s.2.2∧s.2.2<=n)∧((∃z,l=[z]∧fT z)->s.2.1=0)) (fun s=>(n-s.2.2).toNat) (fun o=>(∃z,l=[z]∧fT z)->o.2=0) (s1,s2,E)):=fun u v h=>Gk ⟨⟨zd,zd⟩,h⟩ zd
  exact Gl (fun _=>A _ _ f) (fun _=>Gu (fun _=>Gl (fun _=>A _ _ f) (fun _=>A _ _ i2)) (fun _=>A _ _ i2))
def Single(q:ak):Prop:=q.bM.length=1
theorem single_zone{q:ak}(h:Single q){l:List bz}(hl:l.length=q.bM.length)(f:∀z∈l,fT z):∃z,l=[z]∧fT z:=by
 rw [h]at hl
 match l,hl with
 | [z],_=>exact⟨z,rfl,f z zc⟩
theorem bound_ok{q:ak}(f:PV q){b:al}(h:Sub q.bj b):Ok (f9 q b) (fun r=>r.2=0):=by
 unfold f9
 refine Gf (zones_ok f h) (fun r g=>?_)
 refine Gw (fun h=>(h g.1).elim) (fun _=>?_)
 exact Gf (best_ok f (by rw [g.2.1];exact f.len)) (fun _ _=>Gq rfl)
theorem at_ok{q:ak}(g:PV q){p:ag}(h:Sub q.bj ⟨p,p⟩):Ok (jU q p) (fun r=>r.2.2=0∧(Single q->r.2.1=0)):=by
 unfold jU
 refine Gf (zones_ok g h) (fun r f=>?_)
 refine Gw (fun h=>(h f.1).elim) (fun _=>?_)
 exact Gf (best_ok g (by rw [f.2.1];exact g.len)) (fun s hs=>Gq ⟨rfl,fun h1=>hs (single_zone h1 f.2.1 f.2.2)⟩)
theorem compare_ok(a b:ag):Ok (fi a b) (fun _=>True):=by
 unfold fi
 rw [Sd.lL,ze,Sd.lL,ze,Sd.lL,ze]
 obtain⟨r,e⟩:=or_some [sX a.fX b.fX,sX a.fY b.fY,sX a.fZ b.fZ] zc
 rw [e]
 exact Gq trivial
end Go.Dw.Re
set_option maxRecDepth 100000
set_option maxHeartbeats 4000000
namespace Go.Dw.Re
open Go.Dw Go.Proofs
abbrev Est:=bp
theorem sort_okI{d:List Int}(f:d.length<=19):Ok (ud d) (fun r=>r.length=d.length):=by
 obtain⟨r,e,hp, -⟩:=Be (l:=d) za
 exact⟨r,e,hp.length_eq⟩
theorem half_len{l:List Int}(k:1<=l.length)(h1:l.length<=19):Ok ((tI .i64 (Fb .i64 ((l.length:Int)-(1:Int))) (2:Int)).bind fun f=>(inO l f).bind fun _=>(oc l f).bind fun g=>some g) (fun _=>True):=by
 rw [w64 za za]
 refine Gf (Gm za) (fun q j=>?_)
 rw [GS za,w64 za za]at j
 exact Gf (Gv za za) (fun _ _=>Gf (Gh za za) (fun _ _=>Gq trivial))
theorem med2_ok{l:List Est}(j:1<=l.length)(h1:l.length<=19):Ok (gJ l) (fun _=>True):=by
 unfold gJ
 refine Gf (P:=fun o:List Int=>o.length=l.length) (Gi (fun s:Int×List Int=>(0<=s.1∧s.1<=l.length)∧s.2.length=s.1.toNat) (fun s=>((l.length:Int)-s.1).toNat) ?_ ⟨⟨zc,zc⟩,rfl⟩) (fun o ho=>?_)
 ·rintro⟨s1,s2⟩ ⟨⟨i0,i1⟩,i2⟩
  simp only at i0 i1 i2
  unfold ix jv
  refine Gl (fun f=>?_) (fun _=>Gt za)
  refine Gf (Gh za za) (fun x _=>?_)
  rw [ze]
  refine Gf (Ge (by simp only [D4,D5];omega)) (fun y g=>?_)
  subst g
  rw [w64 za za]
  exact Gk ⟨⟨zd,zd⟩,by simp only [Ec,D4,D5];omega⟩ zd
 ·exact Gf (sort_okI za) (fun r k=>half_len za za)
theorem med3_ok{l:List Est}(j:1<=l.length)(h1:l.length<=19):Ok (gK l) (fun _=>True):=by
 unfold gK
 refine Gf (P:=fun o:List Int=>o.length=l.length) (Gi (fun s:Int×List Int=>(0<=s.1∧s.1<=l.length)∧s.2.length=s.1.toNat) (fun s=>((l.length:Int)-s.1).toNat) ?_ ⟨⟨zc,zc⟩,rfl⟩) (fun o ho=>?_)
 ·rintro⟨s1,s2⟩ ⟨⟨i0,i1⟩,i2⟩
  simp only at i0 i1 i2
  unfold iy jw
  refine Gl (fun f=>?_) (fun _=>Gt za)
  refine Gf (Gh za za) (fun x _=>?_)
  rw [ze]
  refine Gf (Ge (by simp only [D4,D5];omega)) (fun y g=>?_)
  subst g
  rw [w64 za za]
  exact Gk ⟨⟨zd,zd⟩,by simp only [Ec,D4,D5];omega⟩ zd
 ·exact Gf (sort_okI za) (fun r k=>half_len za za)
theorem network_ok{l:List Est}(f:1<=l.length)(h1:l.length<=19)(hl:∀x∈l,x.bt<=x.bd):Ok (il l) (fun r=>r.2=0):=by
 unfold il
 refine Gu (fun h=>za) (fun _=>?_)
 have e:dy l=some false:=by
  unfold dy fm
  rw [gR l.length (fun i hi=>?_) ?_]
  ·rfl
  ·unfold dz
   rw [if_neg zc]
  ·unfold dz ju
   have:=hl _ (EJ hi)
   rw [if_pos so,py rfl hi,ze,ze,if_neg so,w64 za za]
   simp
 rw [e,ze,if_neg zc]
 exact Gf (med2_ok f h1) (fun a _=>Gf (med3_ok f h1) (fun b _=>Gq rfl))
structure MatV(m:bF):Prop where
 len:m.fu.length=m.gN.length∧m.kl.length=m.gN.length
 few:m.gN.length<=19
 pos:∀a∈m.fu,fV 60 a.bw
 resp:∀e∈m.kl,pf e.bW
theorem estimates_ok{s:ah}(hs:fb s){m:bF}(hm:MatV m){b:al}(g:gY b):Ok (dL m s b) (fun r=>r.length<=19∧∀x∈r,x.bt<=x.bd):=by
 obtain⟨⟨H,I⟩,J,hp,j⟩:=hm
 unfold dL
 refine Gf (P:=fun r:List Est=>r.length<=19∧∀x∈r,x.bt<=x.bd) (Gi (fun u:Int×List Est=>(0<=u.1∧u.1<=m.fu.length)∧u.2.length<=u.1.toNat∧∀x∈u.2,x.bt<=x.bd) (fun u=>((m.fu.length:Int)-u.1).toNat) ?_ ⟨⟨zc,zc⟩,zc,zc⟩) (fun r j=>Gq j)
 rintro⟨s1,s2⟩ ⟨⟨i0,i1⟩,i2,i3⟩
 simp only at i0 i1 i2 i3
 unfold dQ
 refine Gl (fun q=>?_) (fun _=>Gt ⟨za,i3⟩)
 refine Gf (Gh za za) (fun K g6=>Gf (Gh za za) (fun L g7=>Gf (Gh za za) (fun G g8=>?_)))
 obtain⟨k,F,n1⟩:=rf g (hp _ g6.1)
 obtain⟨e2,f0,f1⟩:=Far_at g (hp _ g6.1)
 rw [k,ze,e2,ze,w64 za za]
 refine Gf (station_ok hs (j _ g7.1) G.bH F (qk g _) za) (fun y D=>?_)
 refine Gu (fun h=>?_) (fun _=>Gk ⟨⟨zd,zd⟩,zd,i3⟩ zd)
 refine Gf (Ge (by simp only [D4,D5];omega)) (fun z E=>?_)
 subst E
 refine Gk ⟨⟨zd,zd⟩,by simp only [Ec,D4,D5];omega,fun x C=>?_⟩ zd
 rcases List.mem_append.1 C with f|f
 ·exact i3 x f
 ·rw [List.mem_singleton.1 f];exact D h
theorem estimates_eq{m:bF}{e:List az}(h:e.map (·.bW)=m.kl.map (·.bW))(s:ah)(b:al):dL ⟨m.gN,m.fu,e⟩ s b=dL m s b:=by
 unfold dL
 have:dQ ⟨m.gN,m.fu,e⟩ b s=dQ m b s:=by
  funext u
  unfold dQ
  have hl:e.length=m.kl.length:=by simpa using congrArg G4 h
  have hk:∀{β:Type}(n:Int)(k:bv->Option β),((oc e n).bind fun x=>k x.bW)=((oc m.kl n).bind fun x=>k x.bW):=fun n k=>by
   unfold oc
   split
   ·have:=congrArg (fun l=>l[n.toNat]?) h
    simp only [EY]at this
    cases h1:e[n.toNat]? <;>cases C:m.kl[n.toNat]? <;>rw [h1,C]at this<;>simp at this
    all_goals first|rfl|simp only [ze,this]
   ·rfl
  refine ite_congr rfl (fun _=>congrArg _ (funext fun r=>?_)) (fun _=>rfl)
  exact hk u.1 fun q=>(oc m.gN u.1).bind fun D=>(gh b r.bw).bind fun E=>(jr b r.bw).bind fun g=>(im s.bK q D.bH E g).bind fun f=>if(f.2==(0:Int))=true then((rR u.2 [f.1] 16).bind fun j=>(some (.next ((Fb .i64 (u.1+(1:Int))),j)):Option (gB (Int×List Est) (List Est))))else(some (.next ((Fb .i64 (u.1+(1:Int))),u.2)))
 rw [this]
end Go.Dw.Re
set_option maxRecDepth 100000
set_option maxHeartbeats 4000000
namespace Go.Dw.Re
open Go.Dw Go.Proofs
section
variable {α:Type}
def qP(lt:α->α->Bool)(x:α):List α->List α
 | []=>[x]
 |y::r=>if lt x y=true then y::qP lt x r else x::y::r
def sortF(lt:α->α->Bool)(R l:List α):List α:=l.foldl (fun a x=>qP lt x a) R
def c9(lt:α->α->Bool)(l:List α):List α:=(sortF lt [] l).reverse
theorem nZ(lt:α->α->Bool)(x:α):∀R,(qP lt x R).Perm (x::R)
 | []=>List.Perm.refl _
 |y::r=>by
  unfold qP
  split
  ·exact((nZ lt x r).cons y).trans (List.Perm.swap x y r)
  ·exact List.Perm.refl _
theorem sortF_perm(lt:α->α->Bool):∀l R,(sortF lt R l).Perm (l++R)
 | [],_=>List.Perm.refl _
 |x::l,R=>(sortF_perm lt l (qP lt x R)).trans (((nZ lt x R).append_left l).trans List.perm_middle)
theorem bY(lt:α->α->Bool)(l:List α):(c9 lt l).Perm l:=(List.reverse_perm _).trans (by simpa using sortF_perm lt l [])
theorem dW(lt:α->α->Bool)(l:List α):(c9 lt l).length=l.length:=(bY lt l).length_eq
def Lex(c:α->α->Int)(o:α->α->Prop)(a b:α):Prop:=c a b<0∨(c a b=0∧o a b)
theorem insR_lex{c:α->α->Int}(hc:Tot c){o:α->α->Prop}{x:α}:∀{R:List α},R.Pairwise (fun a b=>Lex c o b a)->(∀y∈R,o y x)->(qP (fun x y=>decide (c x y<0)) x R).Pairwise (fun a b=>Lex c o b a)
 | [],_,_=>by simp [qP]
 |y::r,h,u=>by
  obtain⟨h1,C⟩:=List.pairwise_cons.1 h
  unfold qP
  split
  ·rename_i g
   refine List.pairwise_cons.2 ⟨fun z f=>?_,insR_lex hc C fun y D=>u y (G5 _ D)⟩
   rcases List.mem_cons.1 ((nZ _ x r).mem_iff.1 f)with rfl|f
   ·exact .inl (by simpa using g)
   ·exact h1 z f
  ·rename_i g
   have j:c y x<=0:=by
    have:=hc.uV x y
    simp only [decide_eq_true_eq]at g;omega
   refine List.pairwise_cons.2 ⟨fun z f=>?_,h⟩
   have q:c z y<=0:=by
    rcases List.mem_cons.1 f with rfl|f
    ·have:=hc.refl z;omega
    ·rcases h1 z f with h|h<;>omega
   have k:=hc.tr z y x q j
   rcases Int.lt_or_eq_of_le k with h|h
   ·exact .inl h
   ·exact .inr ⟨h,u z f⟩
theorem sortF_lex{c:α->α->Int}(hc:Tot c){o:α->α->Prop}:∀{l R:List α},R.Pairwise (fun a b=>Lex c o b a)->(∀y∈R,∀x∈l,o y x)->l.Pairwise o->(sortF (fun x y=>decide (c x y<0)) R l).Pairwise (fun a b=>Lex c o b a)
 | [],_,h,_,_=>h
 |x::l,R,h,g,hl=>by
  obtain⟨k,q⟩:=List.pairwise_cons.1 hl
  refine sortF_lex hc (l:=l) (R:=qP _ x R) (insR_lex hc h fun y f=>g y f x zc) (fun y f z j=>?_) q
  rcases List.mem_cons.1 ((nZ _ x R).mem_iff.1 f)with rfl|f
  ·exact k z j
  ·exact g y f z (G5 _ j)
theorem sortI_lex{c:α->α->Int}(hc:Tot c){o:α->α->Prop}{l:List α}(hl:l.Pairwise o):(c9 (fun x y=>decide (c x y<0)) l).Pairwise (Lex c o):=by
 unfold c9
 rw [List.pairwise_reverse]
 exact sortF_lex hc .nil (fun y f=>by cases f) hl
theorem rz{c:α->α->Int}(hc:Tot c)(l:List α):(c9 (fun x y=>decide (c x y<0)) l).Pairwise (fun a b=>c a b<=0):=by
 have:=sortI_lex hc (o:=fun _ _=>True) (l:=l) (List.pairwise_of_forall fun _ _=>trivial)
 exact this.imp fun h=>by rcases h with h|h<;>omega
theorem gm{c:α->α->Int}(hc:Tot c):∀{r s:List α},r.Pairwise (fun x y=>c x y<0)->s.Pairwise (fun x y=>c x y<0)->(∀x,x∈r↔x∈s)->r=s
 | [],[],_,_,_=>rfl
 | [],b::s,_,_,h=>by have:=(h b).2 zc;cases this
 |a::r,[],_,_,h=>by have:=(h a).1 zc;cases this
 |a::r,b::s,h1,u,h=>by
  obtain⟨a1,a2⟩:=List.pairwise_cons.1 h1
  obtain⟨k,q⟩:=List.pairwise_cons.1 u
  have e:a=b:=by
   rcases List.mem_cons.1 ((h a).1 zc)with f|f
   ·exact f
   ·rcases List.mem_cons.1 ((h b).2 zc)with j|j
    ·exact j.symm
    ·have:=a1 b j;have:=k a f;have:=hc.uV a b;omega
  subst e
  congr 1
  refine gm hc a2 q fun x=>⟨fun g=>?_,fun g=>?_⟩
  ·rcases List.mem_cons.1 ((h x).1 (G5 _ g))with rfl|f
   ·have:=a1 x g;have:=hc.refl x;omega
   ·exact f
  ·rcases List.mem_cons.1 ((h x).2 (G5 _ g))with rfl|f
   ·have:=k x g;have:=hc.refl x;omega
   ·exact f
end
noncomputable def insG31 {α β:Type} (br:α->α->Option β) (t:β->Bool) (a1 s1:Int):(Int×List α)->Option (gB (Int×List α) (Int×List α)):=fun(f,g)=>
 if(decide (f>a1))=true then((inO g f).bind fun E=>(oc g f).bind fun k=>(inO g (Fb .i64 (f-(1:Int)))).bind fun F=>(oc g (Fb .i64 (f-(1:Int)))).bind fun q=>(br k q).bind fun r=>if t r=true then((inO g (Fb .i64 (f-(1:Int)))).bind fun G=>(oc g (Fb .i64 (f-(1:Int)))).bind fun u=>(inO g f).bind fun H=>(oc g f).bind fun C=>(inO g f).bind fun I=>(tO g f u).bind fun j=>(inO j (Fb .i64 (f-(1:Int)))).bind fun J=>(tO j (Fb .i64 (f-(1:Int))) C).bind fun D=>some (.next ((Fb .i64 (f-(1:Int))),D)))else(some (.stop (s1,g))))else(some (.stop (s1,g)))
noncomputable def qO {α β:Type} (br:α->α->Option β) (t:β->Bool) (a2 a1:Int):(Int×List α)->Option (gB (Int×List α) (List α)):=fun(s1,s2)=>
 if(decide (s1<a2))=true then((cI (insG31 br t a1 s1) (s1,s2)).bind fun f=>some (.next ((Fb .i64 (f.1+(1:Int))),f.2)))else((some s2).bind fun z33=>some (.stop z33))
noncomputable def insG {α β:Type} (br:α->α->Option β) (t:β->Bool) (a1 a2:Int) (d0:List α):Option (List α):=
 (cI (qO br t a2 a1) ((Fb .i64 (a1+(1:Int))),d0)).bind fun f=>some f
section
variable {α β:Type}{br:α->α->Option β}{t:β->Bool}{lt:α->α->Bool}{S:α->Prop}(hbr:∀x y,S x->S y->∃b,br x y=some b∧t b=lt x y)
include hbr
theorem insG_inner{s1:Int}{x:α}(q:S x):∀(R B:List α),(∀y∈R,S y)->R.length+B.length<=1000->cI (insG31 br t 0 s1) ((R.length:Int),R.reverse++x::B)=some (s1,(qP lt x R).reverse++B)
 | [],B,_,_=>rD (by unfold insG31;dsimp only;rw [if_neg zc];rfl)
 |y::R,B,k,hl=>by
  have r:(y::R).reverse++x::B=R.reverse++y::x::B:=by simp
  have e2:R.reverse++y::x::B=(R.reverse++[y])++x::B:=by simp
  have C:R.length+1+B.length<=1000:=by simpa using hl
  have hw:Fb .i64 (((y::R).length:Int)-1)=(R.length:Int):=by rw [w64 zc so];simp
  have i1:inO (R.reverse++y::x::B) ((y::R).length:Int)=some ():=sh za so
  have i0:inO (R.reverse++y::x::B) (R.length:Int)=some ():=sh za so
  have g1:oc (R.reverse++y::x::B) ((y::R).length:Int)=some x:=by rw [e2];exact get1 _ _ _ zc
  have g0:oc (R.reverse++y::x::B) (R.length:Int)=some y:=get1 _ _ _ zc
  have j:tO (R.reverse++y::x::B) ((y::R).length:Int) y=some (R.reverse++y::y::B):=by
   rw [e2,set1 _ _ _ _ zc];simp
  have i2:inO (R.reverse++y::y::B) (R.length:Int)=some ():=sh za so
  have s0:tO (R.reverse++y::y::B) (R.length:Int) x=some (R.reverse++x::y::B):=set1 _ _ _ _ zc
  obtain⟨b,u,D⟩:=hbr x y q (k y zc)
  have f:insG31 br t 0 s1 (((y::R).length:Int),R.reverse++y::x::B)=if lt x y=true then some (.next ((R.length:Int),R.reverse++x::y::B))else some (.stop (s1,R.reverse++y::x::B)):=by
   unfold insG31
   dsimp only
   rw [if_pos zc,hw]
   simp only [i1,i0,g1,g0,u,j,i2,s0,ze,D]
  rw [r]
  unfold qP
  split
  ·rename_i g
   rw [if_pos g]at f
   rw [rZ f,insG_inner q R (y::B) (fun z E=>k z (G5 _ E)) so]
   simp
  ·rename_i g
   rw [if_neg g]at f
   rw [rD f]
   simp
theorem insG_outer:∀(l R:List α),(∀y∈R,S y)->(∀y∈l,S y)->R.length+l.length<=1000->∀n:Int,n=R.length+l.length->cI (qO br t n 0) ((R.length:Int),R.reverse++l)=some (sortF lt R l).reverse
 | [],R,_,_,_,n,g=>by
  rw [Ea]
  exact rD (by unfold qO;dsimp only;rw [if_neg (by simp at g;simp [g])];rfl)
 |x::l,R,k,hl,hle,n,g=>by
  have hlen:(qP lt x R).length=R.length+1:=by rw [(nZ lt x R).length_eq];rfl
  have q:R.length+(l.length+1)<=1000:=by simpa using hle
  have f:qO br t n 0 ((R.length:Int),R.reverse++x::l)=some (.next (((qP lt x R).length:Int),(qP lt x R).reverse++l)):=by
   unfold qO
   dsimp only
   rw [if_pos (by simp [g];omega),insG_inner hbr (hl x zc) R l k za,ze,w64 so so,hlen]
   simp
  rw [rZ f]
  refine insG_outer l (qP lt x R) (fun y j=>?_) (fun y j=>hl y (G5 _ j)) za n (by rw [hlen,g];simp;omega)
  rcases List.mem_cons.1 ((nZ lt x R).mem_iff.1 j)with rfl|j
  ·exact hl _ zc
  ·exact k y j
theorem insG_at{l:List α}(hl:∀y∈l,S y)(g:l.length<=1000):insG br t 0 (l.length:Int) l=some (c9 lt l):=by
 unfold insG
 rw [w64 za za]
 cases l with
 |nil=>rw [rD (o:=[]) (by unfold qO;dsimp only;rw [if_neg zc];rfl)];rfl
 |cons x l=>
  have h:=insG_outer hbr l [x] (by simpa using hl x zc) (fun y j=>hl y (G5 _ j)) (by simp at g⊢;omega) ((x::l).length:Int) so
  have f:cI (qO br t ((x::l).length:Int) 0) (0+1,x::l)=some (sortF lt [x] l).reverse:=h
  rw [f];rfl
end
theorem ql:∀{r s:List Int},r.Perm s->r.Pairwise (· <= ·)->s.Pairwise (· <= ·)->r=s
 | [],s,h,_,_=>h.nil_eq
 |a::r,[],h,_,_=>h.eq_nil
 |a::r,b::s,h,h1,q=>by
  obtain⟨a1,a2⟩:=List.pairwise_cons.1 h1
  obtain⟨j,k⟩:=List.pairwise_cons.1 q
  have e:a=b:=by
   rcases List.mem_cons.1 (h.mem_iff.1 (G6 (a:=a) (l:=r)))with f|f
   ·exact f
   ·rcases List.mem_cons.1 (h.mem_iff.2 (G6 (a:=b) (l:=s)))with g|g
    ·exact g.symm
    ·have:=a1 b g;have:=j a f;omega
  subst e
  rw [ql ((List.perm_cons a).1 h) a2 k]
theorem sort_int{l:List Int}(f:l.length<=1000000):ud l=some (c9 (fun x y=>decide (sX x y<0)) l):=by
 obtain⟨r,e,hp,hs⟩:=Be f
 rw [e,ql (hp.trans (bY _ l).symm) hs ((rz tv l).imp fun{x y}h=>by unfold sX at h;repeat' split at h<;>omega)]
end Go.Dw.Re
