
import Derived.Test.YtfmoipelhfkdkaaGreatDoorReFn
import Derived.Test.YtfmoipelhfkdkaaGreatDoorDwPlain
import Derived.Test.YtfmoipelhfkdkaaGreatDoorDwOk
import Derived.Test.YtfmoipelhfkdkaaGreatDoorReCo
import Derived.KernelRfl
set_option linter.unusedVariables false
set_option linter.unusedSimpArgs false
open Int renaming add_mul->F8, ediv_le_of_le_mul->F9, fdiv_eq_ediv_of_nonneg->Fa, le_refl->Fb, le_total->Fc, le_trans->Fe, mul_add->Ff, mul_assoc->Fg, mul_comm->Fh, mul_le_mul->Fi, mul_left_comm->Fj, mul_nonneg->Fk, mul_nonneg_of_nonpos_of_nonpos->Fl, mul_sub->Fm, natCast_add->Fo, natCast_mul->Fp, neg_mul_neg->Fq, neg_tmod->Fs, sub_mul->Ft, tdiv_eq_ediv_of_nonneg->Fu, tdiv_le_self->Fv, tdiv_nonneg->Fw, tmod_eq_emod_of_nonneg->Fx, tmod_lt_of_pos->Fy, toNat_natCast->E7
open List renaming append_nil->ER, drop_eq_getElem_cons->Fz, find?->GA, find?_some->GB, getElem?_map->ED, getElem_append_left->GC, getElem_append_right->GD, getElem_map->GF, getElem_mem->Dp, length->GG, length_append->ET, length_cons->DW, length_drop->EF, length_nil->DX, length_take->EG, map_append->FG, mem_append->Ew, mem_cons->FO, mem_cons_of_mem->GH, mem_cons_self->GI, mem_of_find?_eq_some->GJ, mem_of_getElem?->DY, mem_singleton->Ey, pairwise_map->GK, range->DG, set_getElem_self->GL, take_length->GM
open Bool renaming and_eq_true->D6, false_eq_true->Dr, not_eq_true'->GN, or_eq_true->GO
open Go.Dw.Ok renaming S->GP, app->GQ, bind->GR, eq->GS, get->GU, loop->GV, mod->GW, nx->GX, pJ->GY, quo->GZ, rem->G0, ret->G1, sR->G2, set->G3, st->G4, ti->G5, tp->G6, upto->G7, wP->G8, yF->G9
open Go.IntKind renaming wrap->FN
open Classical renaming byContradiction->Ga
open Nat renaming le_refl->DA, zero_le->DJ
open Option renaming bind_fun_some->Gb

set_option maxRecDepth 100000
set_option maxHeartbeats 4000000
namespace Go.Dw.Re
namespace Sq
open Go.Dw
abbrev Src:=bi
theorem byteO_at{s:List UInt8}{n:Int}{i:Nat}(f:n=i)(hi:i<s.length):wK s n=some ((s[i].toNat:Nat):Int):=by
 subst f
 unfold wK
 rw [if_pos ⟨za,za⟩,E7,List.getD_eq_getElem?_getD,zf hi];rfl
theorem et{α:Type}{l m:List α}{b:Nat}(h:(l.length+m.length)*b<=140737488355328):rE l m b=some (l++m):=by
 unfold rE
 rw [if_pos h]
theorem loop_list{α ω:Type}{body:Int->Option (il Int ω)}(l:List α){p:α->Bool}{u r:ω}(h1:∀(i:Nat)(hi:i<l.length),body i=if p l[i]=true then some (.next ((i+1:Nat):Int))else some (.stop r))
  (g:body (l.length:Nat)=some (.stop u)):cI body (0:Int)=some (if l.all p=true then u else r):=by
 have:∀k i,i+k=l.length->cI body (i:Int)=some (if(l.drop i).all p=true then u else r):=by
  intro k
  induction k with
  |zero=>
   intro i hi
   obtain rfl:i=l.length:=by omega
   rw [qV g];simp
  |succ k j=>
   intro i hi
   have f:i<l.length:=by omega
   rw [Fz f,List.all_cons]
   by_cases hp:p l[i]=true
   ·rw [rN (by rw [h1 i f,if_pos hp]),j (i+1) za,hp,Bool.true_and]
   ·rw [qV (by rw [h1 i f,if_neg hp])];simp [hp]
 have:=this l.length 0 za
 simpa using this
def qL(c:UInt8):Bool:=(decide (65<=c.toNat)&&decide (c.toNat<=90))||(decide (48<=c.toNat)&&decide (c.toNat<=57))
theorem dec1(n:Nat):decide ((n:Int)>=65)=decide (65<=n):=decide_eq_decide.2 za
theorem dec2(n:Nat):decide ((n:Int)<=90)=decide (n<=90):=decide_eq_decide.2 za
theorem dec3(n:Nat):decide ((n:Int)>=48)=decide (48<=n):=decide_eq_decide.2 za
theorem dec4(n:Nat):decide ((n:Int)<=57)=decide (n<=57):=decide_eq_decide.2 za
theorem plain_eq(c:UInt8):nI ((c.toNat:Nat):Int)=some (qL c):=by
 unfold nI qL
 rw [dec1,dec2,dec3,dec4]
 cases decide (65<=c.toNat)<;>cases decide (c.toNat<=90)<;>cases decide (48<=c.toNat)<;>simp
def mh(s:List UInt8)(lo hi:Int):Bool:=s.all qL&&(decide ((s.length:Int)>=lo)&&decide ((s.length:Int)<=hi))
theorem code_l7{s:List UInt8}(hs:s.length<=9223372036854775807):cI (kJ s) (0:Int)=some (if s.all qL=true then .inl ()else .inr false):=by
 refine loop_list s (fun i hi=>?_) ?_
 ·unfold kJ
  rw [if_pos so,byteO_at rfl hi,w64 za za]
  simp only [ze,plain_eq]
  cases qL s[i]<;>simp
 ·unfold kJ
  rw [if_neg zc]
theorem code_eq{s:List UInt8}(hs:s.length<=9223372036854775807)(lo hi:Int):kH s lo hi=some (mh s lo hi):=by
 unfold kH mh
 rw [code_l7 hs]
 cases s.all qL with
 |true=>cases decide ((s.length:Int)>=lo)<;>simp
 |false=>rfl
def SidLen(x:Src):Prop:=x.bI.length<=9223372036854775807∧x.bw.length<=9223372036854775807∧x.ba.length<=9223372036854775807∧x.bL.length<=9223372036854775807
def pj(x:Src):Bool:=mh x.bI 1 2&&(mh x.bw 1 5&&(mh x.ba 0 2&&(decide (x.ba.length≠1)&&mh x.bL 3 3)))
theorem Valid_eq{x:Src}(k:SidLen x):mH x=some (pj x):=by
 obtain⟨h1,f,g,j⟩:=k
 unfold mH pj
 simp only [code_eq h1,code_eq f,code_eq g,code_eq j,ze]
 have e:((x.ba.length:Int) != 1)=decide (x.ba.length≠1):=by
  by_cases h:x.ba.length=1
  ·simp [h]
  ·simp [h];omega
 rw [e]
 cases mh x.bI 1 2<;>cases mh x.bw 1 5<;>cases mh x.ba 0 2<;>cases decide (x.ba.length≠1)<;>simp
theorem qg{s:List UInt8}{lo:Int}{hi:Nat}(h:mh s lo hi=true):s.length<=hi:=by
 unfold mh at h
 simp only [D6,decide_eq_true_eq]at h
 omega
theorem valid_len{x:Src}(h:pj x=true):x.bI.length<=2∧x.bw.length<=5∧x.ba.length<=2∧x.bL.length<=3:=by
 unfold pj at h
 simp only [D6]at h
 exact⟨qg (hi:=2) h.1,qg (hi:=5) h.2.1,qg (hi:=2) h.2.2.1,qg (hi:=3) h.2.2.2.2⟩
end Sq
end Go.Dw.Re
set_option maxRecDepth 100000
set_option maxHeartbeats 4000000
namespace Go.Dw.Re
open Go.Dw
abbrev Src:=ai
abbrev Pick:=aa
abbrev Sid:=bi
theorem mod_ok(a b:Int)(g:1<=b)(h1:b<=1000000000):Ok (pG a b) (fun r=>0<=r∧r<b):=by
 unfold pG
 have hl:a.tmod b<b:=Fy _ za
 have j: -b<a.tmod b:=by
  rcases Fc 0 a with h|h
  ·have:=Int.tmod_nonneg b h;omega
  ·have e:a.tmod b= -((-a).tmod b):=by rw [Fs];omega
   have:=Fy (-a) (show 0<b by omega)
   omega
 refine GY (fun _=>za) (fun _=>?_)
 refine GR (G0 za) (fun x f=>?_)
 subst f
 refine GY (fun _=>?_) (fun _=>?_)
 ·rw [w64 za za]
  exact G1 za
 ·exact G1 za
def cr(d:Src):Prop:=0<=d.fAt∧d.fAt<=d.fL.length∧d.fL.length<=2000
theorem raw_ok(d:Src)(j:cr d):Ok (Src_Raw d) (fun r=>cr r.2):=by
 obtain⟨g,h1,f⟩:=j
 unfold Src_Raw
 refine GY (fun _=>G1 ⟨g,h1,f⟩) (fun h=>?_)
 rw [w64 (n:=d.fAt+1) za za,w64 za za]
 refine GR (GU za za) (fun x _=>?_)
 refine G1 ⟨?_,?_,f⟩<;>simp only<;>omega
theorem dS(k:Int)(d:Src)(j:cr d)(g:1<=k)(h1:k<=1000000000):Ok (dm k d) (fun r=>0<=r.1∧r.1<k∧cr r.2):=by
 unfold dm
 refine GR (raw_ok d j) (fun x q=>?_)
 refine GR (mod_ok _ _ g h1) (fun y f=>?_)
 exact G1 ⟨f.1,f.2,q⟩
theorem eV(l:List Int)(d:Src)(j:cr d)(g:l≠ [])(h1:l.length<=1000000):Ok (dY l d) (fun r=>r.1∈l∧cr r.2):=by
 unfold dY
 have:=List.length_pos_iff.2 g
 refine GR (dS _ d j za za) (fun x f=>?_)
 refine GR (GU f.1 f.2.1) (fun y k=>?_)
 exact G1 ⟨k.1,f.2.2⟩
def stas:List (List UInt8):=[[83,49],[83,50],[83,51],[83,52],[83,53],[83,54]]
def qP(a:Sid):Prop:=Sq.pj a=true
theorem stas_ok:∀x∈stas,Sq.pj ⟨[65,66],x,[48,48],[66,72,90]⟩=true:=by decide+kernel
theorem source_ok(n:Int):Ok (gc n) qP:=by
 unfold gc
 refine GR (mod_ok n 6 za za) (fun x f=>?_)
 refine GR (GU f.1 f.2) (fun y g=>?_)
 exact G1 (stas_ok y g.1)
theorem new_ok(l:List Int):Ok (ko l) cr:=by
 unfold ko
 refine GR (Ok.cut za (by split<;>omega) (by split<;>omega)) (fun x f=>?_)
 subst f
 refine G1 ⟨zc,zc,?_⟩
 simp only [EG,EF]
 split<;>omega
def fN(m:Int)(p:ag):Prop:=(-m<=p.fX∧p.fX<=m)∧(-m<=p.fY∧p.fY<=m)∧(-m<=p.fZ∧p.fZ<=m)
theorem mA(m:Int)(k:0<=m)(h1:m<=1000)(d:Src)(f:cr d):Ok (mN m d) (fun r=>fN m r.1∧cr r.2):=by
 unfold mN
 rw [w64 (n:=2*m) za za,w64 (n:=2*m+1) za za,w64 (n:=m+1) za za]
 refine GR (dS _ _ f za za) (fun g g1=>?_)
 refine GR (dS _ _ g1.2.2 za za) (fun j g2=>?_)
 refine GR (dS _ _ g2.2.2 za za) (fun q g3=>?_)
 rw [w64 (n:=g.1-m) za za,w64 (n:=j.1-m) za za]
 exact G1 ⟨⟨zd,zd,zd⟩,g3.2.2⟩
def gM(b:al):Prop:=fN 40 b.bt∧(0<=b.bd.fX-b.bt.fX∧b.bd.fX-b.bt.fX<=4)∧(0<=b.bd.fY-b.bt.fY∧b.bd.fY-b.bt.fY<=4)∧(0<=b.bd.fZ-b.bt.fZ∧b.bd.fZ-b.bt.fZ<=4)
theorem box_ok(m side:Int)(g:0<=m)(h1:m<=40)(B:0<=side)(C:side<=4)(d:Src)(j:cr d):Ok (oN m side d) (fun r=>gM r.1∧cr r.2):=by
 unfold oN
 rw [w64 (n:=side+1) za za]
 refine GR (mA m g za d j) (fun f g0=>?_)
 refine GR (dS _ _ g0.2 za za) (fun k g1=>?_)
 refine GR (dS _ _ g1.2.2 za za) (fun q g2=>?_)
 refine GR (dS _ _ g2.2.2 za za) (fun u g3=>?_)
 obtain⟨⟨D,E,F⟩, -⟩:=g0
 rw [w64 (n:=f.1.fX+k.1) za za,w64 (n:=f.1.fY+q.1) za za,w64 (n:=f.1.fZ+u.1) za za]
 refine G1 ⟨⟨⟨zd,zd,zd⟩,zd,zd,zd⟩,g3.2.2⟩
structure TabOk(t:bc):Prop where
 step:t.bR=20∨t.bR=25∨t.bR=40∨t.bR=100
 len:1<=t.bt.length∧t.bt.length<=30
 same:t.bd.length=t.bt.length
 low:∀x∈t.bt,0<=x∧x<=3000
 high:∀x∈t.bd,0<=x∧x<=5000
theorem table_ok(d:Src)(E:cr d):Ok (kM d) (fun r=>TabOk r.1∧cr r.2):=by
 unfold kM
 refine GR (eV _ d E zc zc) (fun j h1=>?_)
 obtain⟨f,h1⟩:=h1
 have f:j.1=20∨j.1=25∨j.1=40∨j.1=100:=by simpa using f
 refine GR (dS _ _ h1 za za) (fun Y D=>?_)
 have u:∃q,FN .i64 ((400:Int).tdiv j.1)=q∧4<=q∧q<=20:=by
  rcases f with e|e|e|e<;>rw [e]<;>exact⟨_,rfl,by decide,by decide⟩
 have hp:∃q,FN .i64 (j.1.tdiv 4)=q∧0<=q∧q<=25:=by
  rcases f with e|e|e|e<;>rw [e]<;>exact⟨_,rfl,by decide,by decide⟩
 obtain⟨q,u,N,O⟩:=u
 obtain⟨p,hp,K,L⟩:=hp
 refine GR (P:=fun o=>cr ⟨o.1,o.2.1⟩∧(1<=o.2.2.1.length∧o.2.2.1.length<=30)∧o.2.2.2.length=o.2.2.1.length∧(∀x∈o.2.2.1,0<=x∧x<=3000)∧(∀x∈o.2.2.2,0<=x∧x<=5000))
  (GV (fun s => (0 ≤ s.2.2.1 ∧ s.2.2.1 ≤ 23) ∧ s.2.2.2.2.2.1.length = s.2.2.1.toNat ∧ s.2.2.2.2.2.2.length = s.2.2.1.toNat ∧ (0 ≤ s.1 ∧ s.1 ≤ 60 * s.2.2.1) ∧ (0 ≤ s.2.1 ∧ s.2.1 ≤ 100 * s.2.2.1 + 2) ∧ cr ⟨s.2.2.2.1, s.2.2.2.2.1⟩ ∧ (∀ x ∈ s.2.2.2.2.2.1, 0 ≤ x ∧ x ≤ 3000) ∧ (∀ x ∈ s.2.2.2.2.2.2, 0 ≤ x ∧ x ≤ 5000))
   (fun s=>(23-s.2.2.1).toNat) ?_ ⟨⟨zc,zc⟩,rfl,rfl,⟨zc,zc⟩,⟨zd,zd⟩,D.2.2,zc,zc⟩) ?_
 ·rintro⟨G,Q,H,T,U,W,X⟩ ⟨i0,i1,i2,i3,i4,i5,i6,i7⟩
  simp only at i0 i1 i2 i3 i4 i5 i6 i7
  unfold lq
  refine GR (GZ za) (fun I g1=>?_)
  rw [u]at g1;subst g1
  refine GR (dS _ _ i5 za za) (fun J g2=>?_)
  rw [w64 (n:=I+J.1) za za]
  refine GY (fun hle=>?_) (fun F=>?_)
  ·refine GR (GQ (by simp only [DW,DX];omega)) (fun y3 g3=>?_)
   refine GR (GQ (by simp only [DW,DX];omega)) (fun y4 g4=>?_)
   refine GR (eV _ _ g2.2.2 zc zc) (fun k g5=>?_)
   refine GR (GZ za) (fun B g6=>?_)
   rw [hp]at g6;subst g6
   refine GR (eV _ _ g5.2 zc zc) (fun C g7=>?_)
   have a1:0<=k.1∧k.1<=35:=by have:=g5.1;simp at this;omega
   have a2:0<=C.1∧C.1<=30:=by have:=g7.1;simp at this;omega
   rw [w64 (n:=k.1+B) za za,w64 (n:=G+(k.1+B)) za za,w64 (n:=H+1) za za,w64 (by split<;>omega) (by split<;>omega)]
   subst g3 g4
   refine GX ⟨⟨zd,zd⟩,?_,?_,⟨zd,zd⟩,⟨by simp only;split<;>omega,by simp only;split<;>omega⟩,g7.2,?_,?_⟩ zd
   ·simp only [ET,DW,DX];omega
   ·simp only [ET,DW,DX];omega
   ·intro x g
    simp only [Ew,Ey]at g
    rcases g with g|rfl
    ·exact i6 x g
    ·omega
   ·intro x g
    simp only [Ew,Ey]at g
    rcases g with g|rfl
    ·exact i7 x g
    ·omega
  ·exact G4 ⟨g2.2.2,⟨zd,zd⟩,zd,i6,i7⟩
 ·intro o ho
  exact G1 ⟨⟨f,ho.2.1,ho.2.2.1,ho.2.2.2.1,ho.2.2.2.2⟩,ho.1⟩
theorem association_ok{k:Int}(hk:0<=k∧k<=4)(d:Src)(C:cr d):Ok (eQ k d) (fun r=>(gM r.1.bn∧TabOk r.1.bJ)∧cr r.2):=by
 unfold eQ
 refine GR (box_ok 20 k za za za za d C) (fun D h1=>?_)
 refine GR (table_ok _ h1.2) (fun E f=>?_)
 refine GR (eV _ _ f.2 zc zc) (fun F g=>?_)
 refine GR (eV _ _ g.2 zc zc) (fun G j=>?_)
 refine GR (eV _ _ j.2 zc zc) (fun H q=>?_)
 refine GR (eV _ _ q.2 zc zc) (fun I u=>?_)
 refine GR (dS _ _ u.2 za za) (fun J B=>?_)
 exact G1 ⟨⟨h1.1,f.1⟩,B.2.2⟩
theorem scale_ok(d:Src)(k:cr d):Ok (lT d) (fun r=>cr r.2):=by
 unfold lT
 refine GR (table_ok _ k) (fun f h1=>?_)
 refine GR (dS _ _ h1.2 za za) (fun D g=>?_)
 refine GR (dS _ _ g.2.2 za za) (fun E j=>?_)
 have hl:=h1.1.len;have hs:=h1.1.same
 refine GR (P:=fun _=>True) (GV (fun s=>0<=s.1∧s.2.1.length=f.1.bt.length∧s.2.2.length=f.1.bt.length) (fun s=>((f.1.bt.length:Int)-s.1).toNat) ?_ ⟨Fb _,rfl,hs⟩) (fun o _=>G1 j.2.2)
 rintro⟨u,B,C⟩ ⟨i0,i1,i2⟩
 simp only at i0 i1 i2
 unfold lm
 refine GY (fun q=>?_) (fun _=>G4 trivial)
 refine GR (G6 za za) (fun _ _=>?_)
 refine GR (GU za za) (fun F g1=>?_)
 refine GR (GZ za) (fun G g2=>?_)
 refine GR (G6 za za) (fun _ _=>?_)
 refine GR (GU za za) (fun H g3=>?_)
 refine GR (GZ za) (fun I g4=>?_)
 refine GR (G6 za za) (fun _ _=>?_)
 refine GR (G3 za za) (fun J g5=>?_)
 refine GR (G6 za za) (fun _ _=>?_)
 refine GR (G3 za za) (fun K g6=>?_)
 subst g5 g6
 rw [w64 za za]
 exact GX ⟨zd,by simpa using i1,by simpa using i2⟩ zd
theorem settings_ok{k:Int}(hk:0<=k∧k<=4)(d:Src)(j:cr d):Ok (dL k d) (fun r=>(gM r.1.ac.bn∧TabOk r.1.ac.bJ)∧cr r.2):=by
 unfold dL
 refine GR (association_ok hk d j) (fun q h1=>?_)
 refine GR (scale_ok _ h1.2) (fun u f=>?_)
 refine GR (eV _ _ f zc zc) (fun B g=>?_)
 exact G1 ⟨h1.1,g.2⟩
def ChanOk(c:aj):Prop:=c.cn.length<=3∧∀e∈c.cn,fN 60 e.bU
def InvOk(v:ae):Prop:=v.a8.length<=6∧∀c∈v.a8,ChanOk c
theorem range_ok(a b:Int)(j: -1000<=a)(h1:a<=1000)(k:0<=b-a)(q:b-a<=1000)(d:Src)(f:cr d):Ok (nL a b d) (fun r=>(a<=r.1∧r.1<=b)∧cr r.2):=by
 unfold nL
 rw [w64 (n:=b-a) za za,w64 (n:=b-a+1) za za]
 refine GR (dS _ _ f za za) (fun g g1=>?_)
 rw [w64 (n:=a+g.1) za za]
 exact G1 ⟨⟨zd,zd⟩,g1.2.2⟩
theorem point_ok(b:al)(f:gM b)(d:Src)(g:cr d):Ok (ow b d) (fun r=>fN 60 r.1∧cr r.2):=by
 obtain⟨⟨j,k,q⟩,u,B,C⟩:=f
 unfold ow
 refine GR (range_ok _ _ za za za za d g) (fun D g1=>?_)
 refine GR (range_ok _ _ za za za za _ g1.2) (fun E g2=>?_)
 refine GR (range_ok _ _ za za za za _ g2.2) (fun F g3=>?_)
 exact G1 ⟨⟨zd,zd,zd⟩,g3.2⟩
theorem kplace_ok(v:ae)(k:InvOk v)(x:Sid)(t:Int):Ok (oV v x t) (fun r=>fN 60 r.1):=by
 unfold oV
 have q:fN 60 ⟨0,0,0⟩:=⟨zc,zc,zc⟩
 refine GR (P:=fun o=>match o with| .inl _=>True| .inr r=>fN 60 r.1) (G7 v.a8.length za (fun _=>True) trivial ?_) ?_
 ·intro i h1 B _
  unfold nU
  refine GY (fun g=>?_) (fun _=>G4 trivial)
  refine GR (GU za za) (fun c hc=>?_)
  have f:=k.2 c hc.1
  have hlen:=k.1
  refine GR (P:=fun o=>match o with| .inl y=>y=i| .inr r=>fN 60 r.1) (G7 c.cn.length za (fun _=>True) trivial ?_) ?_
  ·intro j C D _
   unfold nT
   have u:=f.1
   refine GY (fun g=>?_) (fun _=>G4 rfl)
   refine GR (GU za za) (fun e he=>?_)
   rw [w64 (n:=j+1) za za]
   refine G9 (fun _=>?_) (fun _=>GX ⟨⟨za,za⟩,trivial⟩ za)
   refine GY (fun _=>?_) (fun _=>GX ⟨⟨za,za⟩,trivial⟩ za)
   refine GY (fun _=>?_) (fun _=>GX ⟨⟨za,za⟩,trivial⟩ za)
   exact G4 (f.2 e he.1)
  ·rintro(y|r) ho
   ·simp only at ho⊢
    subst ho
    rw [w64 (n:=y+1) za za]
    exact GX ⟨⟨za,za⟩,trivial⟩ za
   ·exact G4 ho
 ·rintro(y|r) ho
  ·exact G1 q
  ·exact G1 ho
def cW(p:Pick):Prop:=qP p.a7∧0<=p.bv∧p.bv<=p.bS∧p.bS<=p.cg∧p.cg<=200000∧0<=p.bG∧p.bG<=1073741823∧ -1<=p.bT∧p.bT<=1
def PickLo(p:Pick):Prop:=cW p∧p.cg<=40000
def PI(n:Nat)(s:Int×Int×List Int×Int×List Pick×Int×Int×Int):Prop:=
 (0<=s.2.1∧s.2.1+s.2.2.2.2.1.length<=n)∧(0<=s.1∧s.1<=2000+1000*s.2.2.2.2.1.length)∧cr ⟨s.2.2.1,s.2.2.2.1⟩∧fN 60 ⟨s.2.2.2.2.2.1,s.2.2.2.2.2.2.1,s.2.2.2.2.2.2.2⟩∧∀p∈s.2.2.2.2.1,PickLo p
theorem k34_ok{n:Nat}(F:n<=20){Q:List Pick×List Int×Int->Prop}{s:Int×Int×List Int×Int×List Pick×Int×Int×Int}{sid:Sid}(hs:qP sid)(am:Int×Src)(E:0<=am.1∧am.1<=1048576)(q:Int×Src)(hp:0<=q.1∧q.1<3)(t k:Int)(l:List Int)(at_:Int)(out:List Pick)(x y z e:Int)
  (hk:1<=k∧k+out.length<=n) (B:k=s.2.1) (C:0<=t∧t<=2000+1000*(out.length+1)) (u:cr ⟨l,at_⟩) (j:fN 60 ⟨x,y,z⟩) (g:∀p∈out,PickLo p) (he:0<=e∧e<=30000):
  Ok (jH sid am q t k l at_ out x y z e) (GP (PI n) (fun s=>s.2.1.toNat) Q s):=by
 unfold jH
 refine GR (dS _ _ u za za) (fun r g1=>?_)
 refine GR (dS _ _ g1.2.2 za za) (fun D g2=>?_)
 refine GR (GQ (by simp only [DW,DX];omega)) (fun G g3=>?_)
 subst g3
 rw [w64 (n:=e+r.1) za za,w64 (n:=e+r.1+D.1) za za,w64 (n:=q.1-1) za za,w64 (n:=k-1) za za]
 refine GX ⟨⟨zd,by simp only [ET,DW,DX];omega⟩,⟨C.1,by simp only [ET,DW,DX];omega⟩,g2.2.2,j,fun p f=>?_⟩ zd
 simp only [Ew,Ey]at f
 rcases f with f|rfl
 ·exact g p f
 ·exact⟨⟨hs,zd,zd,zd,zd,zd,zd,zd,zd⟩,zd⟩
theorem l55_ok(pl:ag×Bool)(B:fN 60 pl.1)(x y z t k:Int)(out:List Pick)(L:fN 60 ⟨x,y,z⟩):Ok (cI (m6 pl x y z t k out) (0:Int)) (fun o=>o.1=t∧o.2.1=k∧(0<=o.2.2.1∧o.2.2.1<=300)∧o.2.2.2.1=out∧o.2.2.2.2.1=x∧o.2.2.2.2.2.1=y∧o.2.2.2.2.2.2=z):=by
 obtain⟨a1,a2,a3⟩:=B
 obtain⟨g,j,r⟩:=L
 simp only at g j r
 have f:∀(u v:Int), -60<=u->u<=60-> -60<=v->v<=60->∃q,qi (FN .i64 (u-v))=some q∧0<=q∧q<=14400:=by
  intro u v h1 O Q T
  have D: -120<=u-v∧u-v<=120:=by omega
  rw [w64 za za]
  have E:0<=(u-v)*(u-v)∧(u-v)*(u-v)<=14400:=by
   constructor
   ·rcases Fc 0 (u-v)with h|h
    ·exact Fk h h
    ·exact Fl h h
   ·rcases Fc 0 (u-v)with h|h
    ·calc (u-v)*(u-v)<=120*120:=Fi D.2 D.2 h za
      _=14400:=by decide
    ·have:(u-v)*(u-v)=(v-u)*(v-u):=by
      rw [<-Fq];congr 1<;>omega
     rw [this]
     calc (v-u)*(v-u)<=120*120:=Fi za za za za
      _=14400:=by decide
  refine⟨_,by unfold qi;rw [w64 za za],E.1,E.2⟩
 obtain⟨F,H,U,u1⟩:=f pl.1.fX x a1.1 a1.2 g.1 g.2
 obtain⟨G,e2,W,u2⟩:=f pl.1.fY y a2.1 a2.2 j.1 j.2
 obtain⟨N,I,X,Y⟩:=f pl.1.fZ z a3.1 a3.2 r.1 r.2
 refine GV (fun s=>0<=s∧s<=300) (fun s=>(300-s).toNat) (fun s hs=>?_) ⟨Fb _,za⟩
 unfold m6
 rw [H,e2,I]
 simp only [ze]
 rw [w64 (n:=F+G) za za,w64 (n:=F+G+N) za za]
 have K : 0 ≤ s * s ∧ s * s ≤ 90000 := ⟨Fk hs.1 hs.1, by
  calc s*s<=300*300:=Fi hs.2 hs.2 hs.1 za
   _=90000:=by decide⟩
 rw [w64 (n:=s*s) za za]
 refine GY (fun J=>?_) (fun _=>G4 ⟨rfl,rfl,hs,rfl,rfl,rfl,rfl⟩)
 have C:s<=299:=by
  rcases Int.lt_or_le 299 s with h|h
  ·exfalso
   have:s=300:=by omega
   subst this
   omega
  ·exact h
 rw [w64 (n:=s+1) za za]
 exact GX ⟨za,za⟩ za
theorem picks_lo(a:ah)(q:gM a.ac.bn∧TabOk a.ac.bJ)(v:ae)(L:InvOk v)(n:Nat)(hn:n<=20)(d:Src)(I:cr d):
  Ok (kK a v n d) (fun r=>(r.1.length<=n∧∀p∈r.1,PickLo p)∧cr r.2):=by
 unfold kK
 refine GR (point_ok _ q.1 d I) (fun x1 h1=>?_)
 refine GR (dS _ _ h1.2 za za) (fun x2 G=>?_)
 rw [w64 (n:=(n:Int)+1) za za]
 refine GR (dS _ _ G.2.2 za za) (fun x3 H=>?_)
 rw [w64 (n:=1000+x2.1) za za]
 refine GR (P:=fun o=>(o.1.length<=n∧∀p∈o.1,PickLo p)∧cr ⟨o.2.1,o.2.2⟩) (GV (PI n) (fun s=>s.2.1.toNat) ?_ ⟨⟨zd,by simp only [DX];omega⟩,⟨zd,by simp only [DX];omega⟩,H.2.2,h1.1,zc⟩) (fun o ho=>G1 ⟨ho.1,ho.2⟩)
 rintro⟨u,s5,s6,s7,s8,s9,X,Y⟩ ⟨i0,i1,i2,i3,i4⟩
 simp only at i0 i1 i2 i3 i4
 unfold ol
 refine GY (fun J=>?_) (fun _=>G4 ⟨⟨zd,i4⟩,i2⟩)
 refine GR (dS _ _ i2 za za) (fun y1 g1=>?_)
 refine GR (source_ok _) (fun y2 g2=>?_)
 refine GR (eV _ _ g1.2.2 zc zc) (fun j g3=>?_)
 have g:0<=j.1∧j.1<=1048576:=by have:=g3.1;simp at this;omega
 refine GR (dS _ _ g3.2 za za) (fun k g4=>?_)
 refine GR (dS _ _ g4.2.2 za za) (fun y5 g5=>?_)
 refine GR (dS _ _ g5.2.2 za za) (fun y6 g6=>?_)
 rw [w64 (n:=1000+y5.1) za za]
 refine G5 (fun _=>?_) (fun _=>G5 (fun _=>?_) (fun _=>?_))
 ·refine GR (point_ok _ q.1 _ g6.2.2) (fun E g7=>?_)
  refine GR (dS _ _ g7.2 za za) (fun F g8=>?_)
  rw [w64 (n:=u+F.1) za za]
  exact k34_ok za g2 j g k ⟨g4.1,g4.2.1⟩ _ _ _ _ _ _ _ _ _ za rfl za g8.2.2 g7.1 i4 za
 ·exact k34_ok za g2 j g k ⟨g4.1,g4.2.1⟩ _ _ _ _ _ _ _ _ _ za rfl za g6.2.2 i3 i4 za
 ·refine GR (kplace_ok v L _ _) (fun E g7=>?_)
  refine G9 (fun _=>?_) (fun _=>?_)
  ·refine GR (l55_ok E g7 _ _ _ _ _ _ i3) (fun o ho=>?_)
   obtain⟨N,O,D,Q,T,U,W⟩:=ho
   have f:=q.2
   have hl:=f.len
   have K:=f.step
   refine GR (GZ za) (fun F g8=>?_)
   have hq:0<=o.2.2.1.tdiv a.ac.bJ.bR∧o.2.2.1.tdiv a.ac.bJ.bR<=300:=by
    refine⟨Fw D.1 za,?_⟩
    have:=Fv (b:=a.ac.bJ.bR) D.1
    omega
   rw [w64 za za]at g8
   subst g8
   rw [w64 (n:=(a.ac.bJ.bt.length:Int)-1) za za]
   refine GR (GU (by split<;>omega) (by split<;>omega)) (fun C g9=>?_)
   have hb:=f.low C g9.1
   refine GR (dS _ _ g6.2.2 za za) (fun B g10=>?_)
   rw [N,O,Q,T,U,W,w64 (n:=u+C) za za,w64 (n:=u+C+B.1) za za]
   exact k34_ok za g2 j g k ⟨g4.1,g4.2.1⟩ _ _ _ _ _ _ _ _ _ za rfl za g10.2.2 i3 i4 za
  ·exact k34_ok za g2 j g k ⟨g4.1,g4.2.1⟩ _ _ _ _ _ _ _ _ _ za rfl za g6.2.2 i3 i4 za
theorem picks_ok(a:ah)(f:gM a.ac.bn∧TabOk a.ac.bJ)(v:ae)(k:InvOk v)(n:Nat)(j:n<=20)(d:Src)(g:cr d):
  Ok (kK a v n d) (fun r=>(r.1.length<=n∧∀p∈r.1,cW p)∧cr r.2):=(picks_lo a f v k n j d g).mono fun _ h=>⟨⟨h.1.1,fun p hp=>(h.1.2 p hp).1⟩,h.2⟩
end Go.Dw.Re
set_option maxRecDepth 100000
set_option maxHeartbeats 4000000
namespace Go.Dw.Re
open Go.Dw
theorem et{α:Type}{l m:List α}{b:Nat}(h:(l.length+m.length)*b<=140737488355328):rE l m b=some (l++m):=by
 unfold rE
 rw [if_pos h]
namespace Sd
abbrev Src:=bi
theorem eq_src(a b:Src):((a.bI==b.bI)&&((a.bw==b.bw)&&((a.ba==b.ba)&&((a.bL==b.bL)&&true))))=decide (a=b):=by
 obtain⟨n,t,l,c⟩:=a
 obtain⟨r,u,q,f⟩:=b
 simp only [bi.mk.injEq]
 by_cases g:n=r<;>by_cases e2:t=u<;>by_cases j:l=q<;>by_cases k:c=f<;>simp [g,e2,j,k]
theorem cmp_str(a b:List UInt8):dz a b=some (wi a b):=by
 unfold dz iE
 simp only [beq_self_eq_true,Bool.not_true,ze,Dr,if_false]
 unfold wi
 cases h:Op.bytesLess a b with
 |true=>simp
 |false=>by_cases e:a=b<;>simp [e]
theorem rf{l:List Int}{i j:Nat}(g:j=i+1)(hi:i<l.length)(hl:l.length<1000)(f:l[i]=0):eB l i=some (.next (j:Int)):=by
 subst g
 unfold eB
 rw [if_pos so,pI rfl hi]
 simp only [ze,f,w64 (n:=(i:Int)+1) za za]
 rfl
theorem rj{l:List Int}{i:Nat}(hi:i<l.length)(f:l[i]≠0):eB l i=some (.stop (.inr l[i])):=by
 unfold eB
 rw [if_pos so,pI rfl hi]
 simp only [ze]
 rw [if_pos (by simpa using f)]
theorem or_end{l:List Int}{n:Nat}(f:n=l.length):eB l n=some (.stop (.inl ())):=by
 subst f
 unfold eB
 rw [if_neg zc]
theorem or4(a b c d:Int):dC [a,b,c,d]=some (if a≠0 then a else if b≠0 then b else if c≠0 then c else d):=by
 show((cI (eB [a,b,c,d]) ((0:Nat):Int)).bind _)=_
 by_cases f:a=0
 ·rw [rN (rf (i:=0) (j:=1) rfl zc zc (by simpa using f)),if_neg (by simpa using f)]
  by_cases g:b=0
  ·rw [rN (rf (i:=1) (j:=2) rfl zc zc (by simpa using g)),if_neg (by simpa using g)]
   by_cases hc:c=0
   ·rw [rN (rf (i:=2) (j:=3) rfl zc zc (by simpa using hc)),if_neg (by simpa using hc)]
    by_cases k:d=0
    ·rw [rN (rf (i:=3) (j:=4) rfl zc zc (by simpa using k)),qV (or_end (n:=4) rfl)]
     rw [k];rfl
    ·rw [qV (rj (i:=3) zc (by simpa using k))];rfl
   ·rw [qV (rj (i:=2) zc (by simpa using hc)),if_pos hc];rfl
  ·rw [qV (rj (i:=1) zc (by simpa using g)),if_pos g];rfl
 ·rw [qV (rj (i:=0) zc (by simpa using f)),if_pos (by simpa using f)];rfl
def mQ(a b:Src):Int:=if wi a.bI b.bI≠0 then wi a.bI b.bI else if wi a.bw b.bw≠0 then wi a.bw b.bw else if wi a.ba b.ba≠0 then wi a.ba b.ba else wi a.bL b.bL
theorem mK(a b:Src):jb a b=some (mQ a b):=by
 unfold jb
 simp only [cmp_str,ze,or4]
 rfl
theorem eW:Tot mQ:=(ye.map fun x:Src=>x.bI).or ((ye.map fun x:Src=>x.bw).or ((ye.map fun x:Src=>x.ba).or (ye.map fun x:Src=>x.bL)))
theorem eo{a b:Src}(h:mQ a b=0):a=b:=by
 unfold mQ at h
 obtain⟨n,t,l,c⟩:=a
 obtain⟨k,q,j,r⟩:=b
 simp only at h
 by_cases h1:wi n k=0
 ·rw [if_neg (by simpa using h1)]at h
  by_cases f:wi t q=0
  ·rw [if_neg (by simpa using f)]at h
   by_cases g:wi l j=0
   ·rw [if_neg (by simpa using g)]at h
    rw [yy]at h h1 f g
    subst h h1 f g;rfl
   ·rw [if_pos g]at h;exact(g h).elim
  ·rw [if_pos f]at h;exact(f h).elim
 ·rw [if_pos h1]at h;exact(h1 h).elim
instance : DecidableEq Src := fun a b => decidable_of_iff (a.bI = b.bI ∧ a.bw = b.bw ∧ a.ba = b.ba ∧ a.bL = b.bL) (by
 obtain⟨n,t,l,c⟩:=a
 obtain⟨j,k,g,f⟩:=b
 simp)
theorem eqs(a b:Src):((a.bI==b.bI)&&((a.bw==b.bw)&&((a.ba==b.ba)&&((a.bL==b.bL)&&true))))=decide (a=b):=by
 rw [eq_src]
 exact decide_eq_decide.2 Iff.rfl
theorem lD(a b:Int):cb a b=some (sZ a b):=by
 unfold cb lu sZ
 simp only [bne_self_eq_false,ze,Dr,if_false]
 by_cases h1:a<b
 ·rw [if_pos (decide_eq_true h1),if_pos h1]
 ·rw [if_neg (by simpa using h1),if_neg h1]
  by_cases f:a>b
  ·rw [if_pos (decide_eq_true f),if_pos f]
  ·rw [if_neg (by simpa using f),if_neg f]
theorem or_go{l:List Int}{n:Nat}{r:List Int}(hl:l.length<1000)(C:n<=l.length)(g:l.drop n=r):cI (eB l) (n:Int)=some (match r.find? (fun x=>decide (x≠0))with|some x=>.inr x|none=>.inl ()):=by
 induction r generalizing n with
 |nil=>
  have:n=l.length:=by
   have:=congrArg GG g
   simp at this;omega
  rw [qV (or_end this)];rfl
 |cons a r B=>
  have f:n<l.length:=by
   have:=congrArg GG g
   simp at this;omega
  have q:l[n]=a:=by
   rw [Fz f]at g
   exact(List.cons.inj g).1
  have u:l.drop (n+1)=r:=by
   rw [Fz f]at g
   exact(List.cons.inj g).2
  by_cases k:a=0
  ·rw [rN (rf (i:=n) (j:=n+1) rfl f hl (by rw [q,k])),B za u]
   simp [GA,k]
  ·rw [qV (rj f (by rw [q];exact k)),q]
   simp [GA,k]
theorem or6(a b c d e f:Int):dC [a,b,c,d,e,f]=some (if a≠0 then a else if b≠0 then b else if c≠0 then c else if d≠0 then d else if e≠0 then e else f):=by
 unfold dC
 have:=or_go (l:=[a,b,c,d,e,f]) (n:=0) (r:=[a,b,c,d,e,f]) zc zc rfl
 rw [show((0:Int))=((0:Nat):Int)from rfl,this]
 by_cases g:a=0<;>by_cases j:b=0<;>by_cases hc:c=0<;>by_cases k:d=0<;>by_cases he:e=0<;>by_cases hf:f=0<;>simp [GA,g,j,hc,k,he,hf]
end Sd
open Sd (mQ eW eo)
def fQ(a b:Pick):Int:=if mQ a.a7 b.a7≠0 then mQ a.a7 b.a7 else if sZ a.bS b.bS≠0 then sZ a.bS b.bS else if sZ a.bv b.bv≠0 then sZ a.bv b.bv else if sZ a.cg b.cg≠0 then sZ a.cg b.cg else if sZ a.bG b.bG≠0 then sZ a.bG b.bG else sZ a.bT b.bT
theorem mK(a b:Pick):cN a b=some (fQ a b):=by
 unfold cN
 simp only [Sd.mK,Sd.lD,ze,Sd.or6]
 rfl
theorem df:Tot fQ:=(eW.map fun x:Pick=>x.a7).or ((tg.map fun x:Pick=>x.bS).or ((tg.map fun x:Pick=>x.bv).or ((tg.map fun x:Pick=>x.cg).or ((tg.map fun x:Pick=>x.bG).or (tg.map fun x:Pick=>x.bT)))))
theorem nS{a b:Int}(h:(if a≠0 then a else b)=0):a=0∧b=0:=by
 by_cases h1:a=0
 ·rw [if_neg (by simpa using h1)]at h;exact⟨h1,h⟩
 ·rw [if_pos h1]at h;exact(h1 h).elim
theorem lU{a b:Pick}(h:fQ a b=0):a=b:=by
 unfold fQ at h
 obtain⟨h1,h⟩:=nS h
 obtain⟨f,h⟩:=nS h
 obtain⟨g,h⟩:=nS h
 obtain⟨j,h⟩:=nS h
 obtain⟨k,q⟩:=nS h
 rw [xj]at f g j k q
 have:=eo h1
 obtain⟨a1,a2,a3,a4,a5,r⟩:=a
 obtain⟨u,B,C,D,E,F⟩:=b
 simp only at*
 subst this f g j k q
 rfl
theorem lt3_eq:lt3 cN=fun x y=>decide (fQ x y<0):=by
 funext x y
 unfold lt3
 rw [mK];rfl
theorem Compare_ok:CmpOk cN:=⟨fun x y=>⟨_,mK x y⟩,by rw [lt3_eq];exact df.swo⟩
instance : DecidableEq Pick := fun a b => decidable_of_iff (a.a7 = b.a7 ∧ a.bS = b.bS ∧ a.bv = b.bv ∧ a.cg = b.cg ∧ a.bG = b.bG ∧ a.bT = b.bT) (by
 obtain⟨a1,a2,a3,a4,a5,f⟩:=a
 obtain⟨g,j,k,q,r,u⟩:=b
 simp)
def eqF(a b:Pick):Bool:=((a.a7.bI==b.a7.bI)&&((a.a7.bw==b.a7.bw)&&((a.a7.ba==b.a7.ba)&&((a.a7.bL==b.a7.bL)&&true))))&&((a.bS==b.bS)&&((a.bv==b.bv)&&((a.cg==b.cg)&&((a.bG==b.bG)&&((a.bT==b.bT)&&true)))))
theorem eqs(a b:Pick):eqF a b=decide (a=b):=by
 obtain⟨a1,a2,a3,a4,a5,f⟩:=a
 obtain⟨g,j,k,q,r,u⟩:=b
 unfold eqF
 simp only [Sd.eqs,aa.mk.injEq]
 by_cases B:a1=g<;>by_cases e2:a2=j<;>by_cases C:a3=k<;>by_cases D:a4=q<;>by_cases E:a5=r<;>by_cases F:f=u<;>simp [B,e2,C,D,E,F]
theorem sub_part{α β:Type}(l:List α)(o:Int)(f:List α->β):((vB l.length (0:Int) o).bind fun _=>(BV l (0+(0:Int).toNat) (0+o.toNat)).bind fun x=>some (f x))=(vB l.length (0:Int) o).bind fun _=>some (f (l.take o.toNat)):=by
 unfold vB
 split
 ·rename_i h
  simp only [ze]
  rw [Ap za za,ze]
  simp
 ·rfl
theorem Compact_eq(l:List Pick):eM l=yf eqF ⟨⟨[],[],[],[]⟩,0,0,0,0,0⟩ l:=by
 have h1:iX=uW eqF:=by funext s d ⟨a,b,c⟩;rfl
 have f:iY=um eqF ⟨⟨[],[],[],[]⟩,0,0,0,0,0⟩:=by
  funext d s
  unfold iY um
  rw [h1]
  simp only [sub_part]
  rfl
 unfold eM yf
 rw [f]
 refine ite_congr rfl (fun _=>rfl) fun _=>?_
 refine congrArg _ (funext fun o=>?_)
 rcases o with _|_<;>rfl
theorem sort_at{l:List Pick}(hl:l.length<=1000):∃m,wO cN l=some m∧m.Perm l∧m.Pairwise (fun x y=>fQ x y<=0):=by
 have g := zr Compare_ok (fun x y h f => by
  rw [lt3_eq]at h f
  simp only [decide_eq_false_iff_not]at h f
  have:=df.vg x y
  exact lU za) l za
 generalize hm:(l.mergeSort fun x y=> !lt3 cN y x)=m at g
 refine⟨m,g,CJ g,?_⟩
 rw [<-hm]
 refine(List.pairwise_mergeSort ?_ ?_ l).imp ?_
 ·intro a b c h f
  rw [lt3_eq]at*
  simp only [GN,decide_eq_false_iff_not]at*
  have:=df.tr a b c (by have:=df.vg a b;omega) (by have:=df.vg b c;omega)
  have:=df.vg a c;omega
 ·intro a b
  rw [lt3_eq]
  have:=df.vg a b
  by_cases h:fQ b a<0
  ·have:¬fQ a b<0:=by omega
   simp [this]
  ·simp [h]
 ·intro a b h
  rw [lt3_eq]at h
  simp only [GN,decide_eq_false_iff_not]at h
  have:=df.vg a b;omega
theorem oM{l:List Pick}(hl:l.length<=1000):
  ∃r,da l=some r∧r.Pairwise (fun x y=>fQ x y<0)∧(∀x,x∈r↔x∈l)∧r.length<=l.length:=by
 have h1:rV 104 l=some l:=by
  unfold rV
  rw [if_pos za]
 obtain⟨m,f,hp,hs⟩:=sort_at hl
 have j:m.length=l.length:=hp.length_eq
 have g:eM m=some (cpt m):=by
  rw [Compact_eq]
  exact Cj (fun x y=>eqs x y) za
 refine⟨cpt m,?_,wj df (fun x y=>lU) hs,fun x=>zu.trans hp.mem_iff,by have:=zR m;omega⟩
 unfold da
 rw [h1,ze,f,ze,g];rfl
theorem ip:∀{r s:List Pick},r.Pairwise (fun x y=>fQ x y<0)->s.Pairwise (fun x y=>fQ x y<0)->(∀x,x∈r↔x∈s)->r=s
 | [],[],_,_,_=>rfl
 | [],b::s,_,_,h=>by have:=(h b).2 zc;cases this
 |a::r,[],_,_,h=>by have:=(h a).1 zc;cases this
 |a::r,b::s,h1,C,h=>by
  obtain⟨q,D⟩:=List.pairwise_cons.1 h1
  obtain⟨u,hs⟩:=List.pairwise_cons.1 C
  have j:a=b:=by
   rcases List.mem_cons.1 ((h a).1 zc)with e|hm
   ·exact e
   ·rcases List.mem_cons.1 ((h b).2 zc)with e|k
    ·exact e.symm
    ·have F:=u a hm
     have G:=q b k
     have:=df.vg a b
     omega
  subst j
  have B:∀{t:List Pick},(∀y∈t,fQ a y<0)->a∉t:=fun h E=>by have:=h a E;have:=df.refl a;omega
  have:r=s:=ip D hs fun x=>by
   have:=h x
   simp only [FO]at this
   constructor
   ·intro f
    rcases this.1 (.inr f)with e|g
    ·subst e;exact(B q f).elim
    ·exact g
   ·intro f
    rcases this.2 (.inr f)with e|g
    ·subst e;exact(B u f).elim
    ·exact g
  rw [this]
end Go.Dw.Re
set_option maxRecDepth 100000
set_option maxHeartbeats 4000000
namespace Go.Dw.Re
open Go.Dw Go.Proofs
open Sd (mQ eW eo)
theorem sid_len{x:Sid}(h:Sq.pj x=true):Sq.SidLen x:=by
 obtain⟨h1,f,g,j⟩:=Sq.valid_len h
 exact⟨za,za,za,za⟩
theorem n7{p:Pick}(h:cW p):iL p=some true:=by
 obtain⟨f,h1,j,k,C,q,r,u,B⟩:=h
 unfold iL
 rw [Sq.Valid_eq (sid_len f),f,ze,if_pos rfl,if_pos (by simpa using h1),if_pos (by simpa using j),if_pos (by simpa using k),if_pos so]
 have g:mX p.bG 0 1073741823=some true:=by unfold mX;rw [if_pos (by simpa using q)];simpa using r
 have e2:mX p.bT (-1) 1=some true:=by unfold mX;rw [if_pos (by simpa using u)];simpa using B
 rw [g,ze,if_pos rfl,e2];rfl
theorem oH{l:List Pick}(hl:l.length<=1000):cB l l=some true:=by
 unfold cB
 rw [if_neg zc]
 have:Ok (cI (eh l l) (0:Int)) (fun o=>o= .inl ()):=by
  refine G7 l.length za (fun _=>True) trivial (fun i f h1 _=>?_)
  unfold eh
  refine GY (fun g=>?_) (fun _=>G4 rfl)
  obtain⟨p,hp, -⟩:=GU (l:=l) f za
  rw [hp,ze,ze,if_neg zc,w64 za za]
  exact GX ⟨⟨za,za⟩,trivial⟩ za
 rw [this.eq];rfl
def P(t:Int):Pick:=⟨⟨[65,66],[83,49],[48,48],[66,72,90]⟩,t,t,t,0,0⟩
def S1:Sid:=⟨[65,66],[83,49],[48,48],[66,72,90]⟩
theorem qH{α ω:Type}{body:Int->Option (il Int (Unit⊕ω))}(l:List α){p:α->Bool}{f:Nat->α->ω}
  (h1:∀(i:Nat)(hi:i<l.length),body i=if p l[i]=true then some (.stop (.inr (f i l[i])))else some (.next ((i+1:Nat):Int)))
  (u:body (l.length:Nat)=some (.stop (.inl ()))):
  (cI body (0:Int)=some (.inl ())∧∀x∈l,p x=false)∨
  ∃(i:Nat)(hi:i<l.length),cI body (0:Int)=some (.inr (f i l[i]))∧p l[i]=true∧∀x∈l.take i,p x=false:=by
 have:∀k i,i+k=l.length->(∀x∈l.take i,p x=false)->(cI body (i:Int)=some (.inl ())∧∀x∈l,p x=false)∨
   ∃(j:Nat)(C:j<l.length),cI body (i:Int)=some (.inr (f j l[j]))∧p l[j]=true∧∀x∈l.take j,p x=false:=by
  intro k
  induction k with
  |zero=>
   intro i hi r
   obtain rfl:i=l.length:=by omega
   exact .inl ⟨qV u,by simpa using r⟩
  |succ k B=>
   intro i hi r
   have g:i<l.length:=by omega
   cases hp:p l[i]with
   |true=>exact .inr ⟨i,g,qV (by rw [h1 i g,if_pos hp]),hp,r⟩
   |false=>
    have e:=rN (ω:=Unit⊕ω) (body:=body) (s:=(i:Int)) (s':=((i+1:Nat):Int)) (by rw [h1 i g,if_neg (by simp [hp])])
    rw [e]
    refine B (i+1) za fun x q=>?_
    rw [rr g]at q
    rcases List.mem_append.1 q with q|q
    ·exact r x q
    ·rw [Ey]at q;rw [q];exact hp
 have:=this l.length 0 za zc
 simpa using this
theorem loop_find{α ω:Type}{body:Int->Option (il Int (Unit⊕ω))}(l:List α){p:α->Bool}{f:α->ω}
  (h1:∀(i:Nat)(hi:i<l.length),body i=if p l[i]=true then some (.stop (.inr (f l[i])))else some (.next ((i+1:Nat):Int)))
  (j:body (l.length:Nat)=some (.stop (.inl ()))):cI body (0:Int)=some (match l.find? p with|none=>.inl ()|some x=>.inr (f x)):=by
 rcases qH l (f:=fun _ x=>f x) h1 j with⟨e,h⟩|⟨i,hi,e,hp,h⟩
 ·rw [e,List.find?_eq_none.2 fun x g=>by simp [h x g]]
 ·rw [e]
  have:l.find? p=some l[i]:=by
   refine List.find?_eq_some_iff_append.2 ⟨hp,l.take i,l.drop (i+1),?_,fun x g=>by simp [h x g]⟩
   rw [<-Fz hi,List.take_append_drop]
  rw [this]
theorem fJ{ω:Type}{body:Int->Option (il Int (Unit⊕ω))}(n:Nat)(h1:∀i:Nat,i<n->body i=some (.next ((i+1:Nat):Int)))(f:body (n:Nat)=some (.stop (.inl ()))):cI body (0:Int)=some (.inl ()):=by
 have:∀k i:Nat,i+k=n->cI body (i:Int)=some (.inl ()):=by
  intro k
  induction k with
  |zero=>
   intro i hi
   obtain rfl:i=n:=by omega
   exact qV f
  |succ k g=>intro i hi;rw [rN (h1 i za)];exact g (i+1) za
 simpa using this n 0 za
theorem terms_ok{l:List Int}(hl:l.length<=1000)(h:∀x∈l, -1048576<=x∧x<=1048576):dI l=some true:=by
 unfold dI fM gG
 rw [fJ l.length (fun i hi=>?_) ?_]
 ·rfl
 ·unfold ec
  rw [if_neg zc]
 ·unfold ec
  have f:=h l[i] (Dp hi)
  rw [if_pos so,pI rfl hi,ze]
  unfold lf cO
  rw [if_pos (by simpa using f.1),ze,ze,if_neg (by simpa using f.2),w64 za za]
  simp
def nA(x:bg):Prop:=dU x=some true∧(x.jZ=2->x.eE=1)∧x.ep.length<=3∧0<=x.eT∧(-1048576<=x.cf.a0∧x.cf.a0<=1048576)∧(-1048576<=x.bY.a0∧x.bY.a0<=1048576)
theorem gain_ok{a b:Int}(f:1<=a∧a<=1048576)(g:1<=b∧b<=1048576):nA ⟨0,⟨a,0,0⟩,⟨b,0,0⟩,[],0,0⟩:=by
 refine⟨?_,zc,zc,zc,zd,zd⟩
 unfold dU cO
 simp [f.1,f.2,g.1,g.2]
theorem section_ok{a b c d e f:Int}(k: -10<=a∧a<=10)(q: -10<=b∧b<=10)(hc: -10<=c∧c<=10)(r:1<=d∧d<=10)(he: -10<=e∧e<=10)(hf: -10<=f∧f<=10):nA ⟨1,⟨a,b,c⟩,⟨d,e,f⟩,[],0,0⟩:=by
 refine⟨?_,zc,zc,zc,zd,zd⟩
 have h1:dI [a,b,c]=some true:=terms_ok zc so
 have g:dI [d,e,f]=some true:=terms_ok zc so
 have j:d≠0:=by omega
 unfold dU
 simp [h1,g,j]
theorem filter_ok{a s:Int}(r:1<=a∧a<=3)(hs:0<=s∧s<=3):nA ⟨2,⟨0,0,0⟩,⟨0,0,0⟩,[a,2,1],1,s⟩:=by
 have h1:a=1∨a=2∨a=3:=by omega
 have q:s=0∨s=1∨s=2∨s=3:=by omega
 refine⟨?_,zc,zc,hs.1,zc,zc⟩
 have k:dI [a,2,1]=some true:=terms_ok zc so
 have f:fU [a,2,1]=some (a+3):=by
  unfold fU
  rcases h1 with rfl|rfl|rfl
  ·rw [tX (n:=4) (o:=4) (by kernel_rfl)];rfl
  ·rw [tX (n:=4) (o:=5) (by kernel_rfl)];rfl
  ·rw [tX (n:=4) (o:=6) (by kernel_rfl)];rfl
 have g:a+3≠0:=by omega
 have j:0<=s∧s<=3:=by omega
 unfold dU cO
 rw [k,f]
 simp [g,j.1]
 omega
def oL(r:bu):Prop:=r.cQ.length<=3∧∀x∈r.cQ,nA x
theorem oG(d:Src)(B:cr d):Ok (gN d) (fun r=>oL r.1∧cr r.2):=by
 unfold gN
 refine GR (dS _ _ B za za) (fun L h1=>?_)
 refine GR (P:=fun o:List Int×Int×List bg=>cr ⟨o.1,o.2.1⟩∧(o.2.2.length<=3∧∀x∈o.2.2,nA x)) (GV (fun s=>0<=s.1∧s.1+s.2.2.2.length<=3∧(∀x∈s.2.2.2,nA x)∧cr ⟨s.2.1,s.2.2.1⟩) (fun s=>s.1.toNat) ?_ ⟨zd,by simp only [DX];omega,zc,h1.2.2⟩) (fun o ho=>G1 (Q:=fun r:bu×Src=>oL r.1∧cr r.2) ⟨ho.2,ho.1⟩)
 rintro⟨s2,J,K,q⟩ ⟨i0,i1,i2,i3⟩
 simp only at i0 i1 i2 i3
 unfold kL
 have g:∀(x:bg),Ok (rE q [x] 96) (fun r=>r=q++[x]):=fun x=>GQ (by simp only [DW,DX];omega)
 have f:∀{x:bg},nA x->∀c∈q++[x],nA c:=fun D c hc=>by
  simp only [Ew,Ey]at hc
  rcases hc with hc|rfl
  ·exact i2 c hc
  ·exact D
 refine GY (fun C=>?_) (fun _=>G4 ⟨i3,zd,i2⟩)
 refine GR (dS _ _ i3 za za) (fun E g1=>?_)
 refine G5 (fun hk=>?_) (fun _=>G5 (fun hk=>?_) (fun _=>?_))
 ·refine GR (eV _ _ g1.2.2 zc zc) (fun j g2=>?_)
  refine GR (eV _ _ g2.2 zc zc) (fun k g3=>?_)
  refine GR (g _) (fun u g4=>?_)
  subst g4
  have H:0<=j.1∧j.1<=1048575:=by have:=g2.1;simp at this;omega
  have I:0<=k.1∧k.1<=999:=by have:=g3.1;simp at this;omega
  rw [w64 (n:=s2-1) za za,w64 (n:=1+j.1) za za,w64 (n:=1+k.1) za za,hk]
  exact GX ⟨zd,by simp only [ET,DW,DX];omega,f (gain_ok za za),g3.2⟩ zd
 ·refine GR (dS _ _ g1.2.2 za za) (fun j g2=>?_)
  refine GR (dS _ _ g2.2.2 za za) (fun k g3=>?_)
  refine GR (dS _ _ g3.2.2 za za) (fun u g4=>?_)
  refine GR (dS _ _ g4.2.2 za za) (fun F g5=>?_)
  refine GR (dS _ _ g5.2.2 za za) (fun N g6=>?_)
  refine GR (dS _ _ g6.2.2 za za) (fun O g7=>?_)
  refine GR (g _) (fun G g8=>?_)
  subst g8
  rw [w64 (n:=s2-1) za za,w64 (n:=k.1-3) za za,w64 (n:=u.1-1) za za,w64 (n:=1+F.1) za za,hk]
  exact GX ⟨zd,by simp only [ET,DW,DX];omega,f (section_ok za za za za za za),g7.2.2⟩ zd
 ·refine GR (dS _ _ g1.2.2 za za) (fun j g2=>?_)
  refine GR (dS _ _ g2.2.2 za za) (fun k g3=>?_)
  refine GR (g _) (fun G g8=>?_)
  subst g8
  rw [w64 (n:=s2-1) za za,w64 (n:=1+j.1) za za,show E.1=2 by omega]
  exact GX ⟨zd,by simp only [ET,DW,DX];omega,f (filter_ok za za),g3.2.2⟩ zd
theorem resp_valid{r:bu}(h:oL r):kD r=some true:=by
 obtain⟨hl,hs⟩:=h
 unfold kD
 rw [if_neg so]
 have f:dO r.cQ=some false:=by
  unfold dO f7
  rw [fJ r.cQ.length (fun i hi=>?_) ?_]
  ·rfl
  ·unfold dP
   rw [if_neg zc]
  ·unfold dP ld
   rw [if_pos so,pI rfl hi,ze,(hs _ (Dp hi)).1,ze,ze,if_neg zc,w64 za za]
   simp
 have e2:lL r.cQ=some 1:=by
  unfold lL
  have:Ok (cI (jv r.cQ) ((1:Int),(0:Int))) (fun o=>o= .inl 1):=by
   refine GV (fun s=>s.1=1∧0<=s.2∧s.2<=r.cQ.length) (fun s=>((r.cQ.length:Int)-s.2).toNat) ?_ ⟨rfl,Fb _,zc⟩
   rintro⟨s1,s2⟩ ⟨i0,i1,i2⟩
   simp only at i0 i1 i2
   subst i0
   unfold jv
   dsimp only
   refine GY (fun g=>?_) (fun _=>G4 rfl)
   refine GR (GU za za) (fun x j=>?_)
   rw [w64 (n:=s2+1) za za]
   refine G2 (fun _=>GX ⟨rfl,zd,zd⟩ zd) (fun hk=>?_)
   rw [(hs x j.1).2.1 hk]
   refine GY (fun hc=>absurd hc (by decide)) (fun _=>?_)
   rw [w64 (n:=1*1) za za]
   exact GX ⟨rfl,zd,zd⟩ zd
  rw [this.eq];rfl
 rw [f,ze,if_neg zc,e2];rfl
def RateOk(r:cA):Prop:=r.bY=1∧(r.cf=100∨r.cf=50∨r.cf=51)
theorem rate_valid{r:cA}(h:RateOk r):oY r=some true:=by
 obtain⟨n,d⟩:=r
 obtain⟨h1,f⟩:=h
 simp only at h1 f
 subst h1
 unfold oY rate_gcd rate_in
 rcases f with rfl|rfl|rfl
 ·rw [tX (n:=4) (o:=(1:Int)) (by kernel_rfl)];rfl
 ·rw [tX (n:=4) (o:=(1:Int)) (by kernel_rfl)];rfl
 ·rw [tX (n:=4) (o:=(1:Int)) (by kernel_rfl)];rfl
structure EpOk(e:az):Prop where
 lo:0<=e.b7
 lt:e.b7<e.fTo
 hi:e.fTo<=10000000
 from_:e.b7<=2000
 rate:RateOk e.nl
 resp:oL e.bV
 pos:fN 60 e.bU
theorem ep_valid{e:az}(h:EpOk e):gT e=some true:=by
 obtain⟨h1,j,r, -,k,q,⟨u,B⟩,⟨C,D⟩,E,F⟩:=h
 have f:∀{x a b:Int},a<=x->x<=b->gY x a b=some true:=fun h g=>by
  unfold gY;rw [if_pos (by simpa using h)];simpa using g
 unfold gT
 rw [if_pos (by simpa using h1), if_pos (by simpa using j), if_pos so, rate_valid k, ze, if_pos rfl, resp_valid q, ze, if_pos rfl,
  f za za,ze,if_pos rfl,f za za,ze,if_pos rfl,f za za]
 rfl
structure n9(l:List az):Prop where
 ne:l≠ []
 len:l.length<=2
 all:∀e∈l,EpOk e
 ord:(l.map fun e=>(e.b7,e.fTo)).Pairwise (fun a b=>a.2<=b.1)
theorem epochs_valid{l:List az}(h:n9 l):kU l=some true:=by
 have hlen:=h.len
 have g:=List.length_pos_iff.2 h.ne
 unfold kU
 rw [fJ l.length (fun i hi=>?_) ?_,ze]
 ·dsimp only
  unfold gY
  rw [if_pos so,ze]
  simp;omega
 ·unfold gW
  rw [if_neg zc]
 ·unfold gW
  rw [if_pos so,pI rfl hi,ze,ep_valid (h.all _ (Dp hi)),ze,if_neg zc,w64 (n:=(i:Int)+1) za za]
  by_cases f:i=0
  ·subst f;rfl
  ·rw [if_pos so,w64 za za,pI (i:=i-1) za za,ze]
   have:=List.pairwise_iff_getElem.1 h.ord (i-1) i so (by simpa using hi) za
   simp only [GF]at this
   rw [if_neg (by simpa using this)]
   simp
def ChOk(c:aj):Prop:=qP c.a7∧n9 c.cn
structure gA(v:ae):Prop where
 len:v.a8.length<=6
 all:∀c∈v.a8,ChOk c
 ord:(v.a8.map (·.a7)).Pairwise (fun a b=>mQ a b<0)
theorem gA.inv{v:ae}(h:gA v):InvOk v:=⟨h.len,fun c hc=>⟨by have:=(h.all c hc).2.len;omega,fun e he=>((h.all c hc).2.all e he).pos⟩⟩
theorem lV{v:ae}(h:gA v):cL v=some true:=by
 have hlen:=h.len
 unfold cL
 rw [fJ v.a8.length (fun i hi=>?_) ?_,ze]
 ·simp;omega
 ·unfold ix
  rw [if_neg zc]
 ·unfold ix
  obtain⟨f,g⟩:=h.all _ (Dp hi)
  rw [if_pos so,pI rfl hi,ze,Sq.Valid_eq (sid_len f),f,ze,if_neg zc,epochs_valid g,ze,if_neg zc,w64 (n:=(i:Int)+1) za za]
  by_cases j:i=0
  ·subst j;rfl
  ·rw [if_pos so,w64 za za,pI (i:=i-1) za za,ze,Sd.mK,ze]
   have:=List.pairwise_iff_getElem.1 h.ord (i-1) i so (by simpa using hi) za
   simp only [GF]at this
   rw [if_neg (by simpa using this)]
   simp
def sid(i:Nat):Sid:=⟨[65,66],stas.getD i [],[48,48],[66,72,90]⟩
theorem source_at{n:Int}{i:Nat}(f:n=i)(hi:i<6):gc n=some (sid i):=by
 subst f
 have:i=0∨i=1∨i=2∨i=3∨i=4∨i=5:=by omega
 rcases this with rfl|rfl|rfl|rfl|rfl|rfl<;>(show gc _=some _;kernel_rfl)
theorem sid_ok{i:Nat}(hi:i<6):qP (sid i):=by
 have:i=0∨i=1∨i=2∨i=3∨i=4∨i=5:=by omega
 rcases this with rfl|rfl|rfl|rfl|rfl|rfl<;>(show Sq.pj _=true;decide+kernel)
theorem sid_lt{i j:Nat}(h:i<j)(g:j<6):mQ (sid i) (sid j)<0:=by
 have h1:i=0∨i=1∨i=2∨i=3∨i=4:=by omega
 have f:j=1∨j=2∨j=3∨j=4∨j=5:=by omega
 rcases h1 with rfl|rfl|rfl|rfl|rfl<;>rcases f with rfl|rfl|rfl|rfl|rfl<;>first|omega|decide+kernel
theorem eps1{e:az}(h:EpOk e):n9 [e]:=⟨zc,zc,by simpa using h,zc⟩
theorem eps2{e f:az}(h:EpOk e)(g:EpOk f)(ho:e.fTo<=f.b7):n9 [e,f]:=⟨zc,zc,by simp;exact⟨h,g⟩,by simpa using ho⟩
def SitesI(s:Int×List Int×Int×List aj):Prop:=∃i:Nat,s.1=i∧i<=6∧s.2.2.2.map (·.a7)=(DG i).map sid∧(∀c∈s.2.2.2,n9 c.cn)∧cr ⟨s.2.1,s.2.2.1⟩
theorem sitesV{n:Int}(d:Src)(G:cr d):Ok (gH n d) (fun r=>gA r.1∧cr r.2):=by
 unfold gH
 refine GR (P:=fun o=>cr ⟨o.1,o.2.1⟩∧gA ⟨o.2.2⟩) (GV SitesI (fun s=>(6-s.1).toNat) ?_ ⟨0,rfl,za,rfl,zc,G⟩) (fun o ho=>G1 ⟨ho.2,ho.1⟩)
 rintro⟨s1,s2,K,q⟩ ⟨i,i0,i1,i2,i3,i4⟩
 simp only at i0 i1 i2 i3 i4
 subst i0
 have hlen:q.length=i:=by have:=congrArg GG i2;simpa using this
 unfold lp
 have g:∀(x:aj),Ok (rE q [x] 88) (fun r=>r=q++[x]):=fun x=>GQ (by simp only [DW,DX];omega)
 have k:gA ⟨q⟩:=by
  refine⟨zd,fun c hc=>⟨?_,i3 c hc⟩,?_⟩
  ·have:c.a7∈q.map (·.a7):=List.mem_map.2 ⟨c,hc,rfl⟩
   rw [i2]at this
   obtain⟨j,H,e⟩:=List.mem_map.1 this
   rw [<-e]
   exact sid_ok (by have:=List.mem_range.1 H;omega)
  ·simp only
   rw [i2,GK]
   exact List.pairwise_lt_range.imp_of_mem fun N F D=>sid_lt D (by have:=List.mem_range.1 F;omega)
 have f:∀{l:List az}{t:Src},i<6->n9 l->cr t->Ok (some (.next ((i:Int)+1,t.fL,t.fAt,q++[⟨sid i,l⟩]))) (GP SitesI (fun s=>(6-s.1).toNat) (fun o:List Int×Int×List aj=>cr ⟨o.1,o.2.1⟩∧gA ⟨o.2.2⟩) ((i:Int),s2,K,q)):=fun{l t}hi hl J=>by
  refine GX ⟨i+1,zc,za,?_,fun c hc=>?_,J⟩ zd
  ·simp [List.range_succ,i2]
  ·simp only [Ew,Ey]at hc
   rcases hc with hc|rfl
   ·exact i3 c hc
   ·exact hl
 refine GY (fun I=>?_) (fun _=>G4 ⟨i4,k⟩)
 refine GY (fun _=>?_) (fun _=>G4 ⟨i4,k⟩)
 have hi:i<6:=by omega
 refine GR (mA 60 za za _ i4) (fun O g1=>?_)
 refine GR (oG _ g1.2) (fun Q g2=>?_)
 rw [source_at rfl hi,ze]
 refine GR (dS _ _ g2.2 za za) (fun T g4=>?_)
 rw [w64 (n:=(i:Int)+1) za za]
 have C:RateOk ⟨100,1⟩:=⟨rfl,.inl rfl⟩
 refine G5 (fun _=>?_) (fun _=>G5 (fun _=>?_) (fun _=>?_))
 ·refine GR (dS _ _ g4.2.2 za za) (fun E g5=>?_)
  refine GR (mA 60 za za _ g5.2.2) (fun U g6=>?_)
  refine GR (oG _ g6.2) (fun W g7=>?_)
  refine GR (G6 za zc) (fun _ _=>?_)
  refine GR (GW za zc) (fun L g8=>?_)
  obtain⟨x,u,rfl⟩:=g8
  simp at u
  subst u
  refine GR (GQ zc) (fun X g9=>?_)
  subst g9
  refine GR (g _) (fun B g10=>?_)
  subst g10
  rw [w64 (n:=1500+E.1) za za]
  exact f hi (eps2 ⟨zc,zd,zd,zc,C,g2.1,g1.1⟩ ⟨zd,zd,zc,zd,C,g7.1,g6.1⟩ zc) g7.2
 ·refine GR (dS _ _ g4.2.2 za za) (fun E g5=>?_)
  refine GR (G6 za zc) (fun _ _=>?_)
  refine GR (GW za zc) (fun L g8=>?_)
  obtain⟨x,u,rfl⟩:=g8
  simp at u
  subst u
  refine GR (g _) (fun B g10=>?_)
  subst g10
  exact f hi (eps1 ⟨g5.1,zd,zc,zd,C,g2.1,g1.1⟩) g5.2.2
 ·refine GR (g _) (fun B g10=>?_)
  subst g10
  exact f hi (eps1 ⟨zc,zc,zc,zc,C,g2.1,g1.1⟩) g4.2.2
theorem n9.set{l:List az}(h:n9 l){k:Nat}{x y:az}(f:l[k]? =some x)(h1:y.b7=x.b7)(g:y.fTo=x.fTo)(u:EpOk y):n9 (l.set k y):=by
 obtain⟨hk,r⟩:=List.getElem?_eq_some_iff.1 f
 refine⟨fun e=>h.ne (by simpa using e),by simpa using h.len,fun e he=>?_,?_⟩
 ·rcases List.mem_or_eq_of_mem_set he with q|rfl
  ·exact h.all e q
  ·exact u
 ·have:(l.set k y).map (fun e=>(e.b7,e.fTo))=l.map (fun e=>(e.b7,e.fTo)):=by
   apply List.ext_getElem?
   intro j
   simp only [ED,List.getElem?_set]
   by_cases e:k=j
   ·subst e
    rw [if_pos rfl,if_pos hk,f];simp [h1,g]
   ·rw [if_neg e]
  rw [this];exact h.ord
theorem n9.last{l:List az}(h:n9 l){x y:az}(f:l[l.length-1]? =some x)(h1:y.b7=x.b7)(g:EpOk y):n9 (l.set (l.length-1) y):=by
 obtain⟨a1,a2,a3,a4⟩:=h
 rcases l with _|⟨a,_|⟨b,_|⟨c,l⟩⟩⟩
 ·exact(a1 rfl).elim
 ·exact eps1 g
 ·simp at f
  subst f
  exact eps2 (a3 a zc) g (by rw [h1];simpa using a4)
 ·simp at a2
def CorrI(v:ae)(s:Int×List Int×Int×List aj):Prop:=∃i:Nat,s.1=i∧i<=v.a8.length∧(s.2.2.2.map (·.a7)).Sublist ((v.a8.take i).map (·.a7))∧(∀c∈s.2.2.2,n9 c.cn)∧cr ⟨s.2.1,s.2.2.1⟩
theorem correctedV(v:ae)(J:gA v)(d:Src)(hd:cr d):Ok (lk v d) (fun r=>gA r.1∧cr r.2):=by
 have a9:=J.len
 unfold lk
 refine GR (P:=fun o=>cr ⟨o.1,o.2.1⟩∧gA ⟨o.2.2⟩) (GV (CorrI v) (fun s=>((v.a8.length:Int)-s.1).toNat) ?_ ⟨0,rfl,za,zc,zc,hd⟩) (fun o ho=>G1 ⟨ho.2,ho.1⟩)
 rintro⟨s1,s2,s3,E⟩ ⟨i,i0,i1,i2,i3,i4⟩
 simp only at i0 i1 i2 i3 i4
 subst i0
 have hlen:E.length<=i:=by have:=i2.length_le;simp at this;omega
 unfold mc
 have j:∀(x:aj),Ok (rE E [x] 88) (fun r=>r=E++[x]):=fun x=>GQ (by simp only [DW,DX];omega)
 have F:gA ⟨E⟩:=by
  refine⟨zd,fun c hc=>⟨?_,i3 c hc⟩,?_⟩
  ·have:c.a7∈E.map (·.a7):=List.mem_map.2 ⟨c,hc,rfl⟩
   obtain⟨X,N,e⟩:=List.mem_map.1 (i2.subset this)
   rw [<-e]
   exact(J.all X (List.mem_of_mem_take N)).1
  ·exact((J.ord.sublist (List.Sublist.map _ (List.take_sublist i _)))).sublist i2
 refine GY (fun a6=>?_) (fun _=>G4 ⟨i4,F⟩)
 have hi:i<v.a8.length:=by omega
 have G:(v.a8.take (i+1)).map (·.a7)=(v.a8.take i).map (·.a7)++[v.a8[i].a7]:=by
  rw [rr hi,FG];rfl
 have g:∀{l:List az}{t:Src},n9 l->cr t->Ok (some (.next ((i:Int)+1,t.fL,t.fAt,E++[⟨v.a8[i].a7,l⟩]))) (GP (CorrI v) (fun s=>((v.a8.length:Int)-s.1).toNat) (fun o:List Int×Int×List aj=>cr ⟨o.1,o.2.1⟩∧gA ⟨o.2.2⟩) ((i:Int),s2,s3,E)):=fun{l t}hl ht=>by
  refine GX ⟨i+1,zc,za,?_,fun c hc=>?_,ht⟩ zd
  ·rw [G,FG]
   exact List.Sublist.append i2 (List.Sublist.refl _)
  ·simp only [Ew,Ey]at hc
   rcases hc with hc|rfl
   ·exact i3 c hc
   ·exact hl
 rw [pI rfl hi,ze]
 have D:=(J.all _ (Dp hi)).2
 generalize v.a8[i]=c at*
 have Y:=D.len
 have a5:=List.length_pos_iff.2 D.ne
 refine GR (GQ (by simp only [DX];omega)) (fun y1 g1=>?_)
 rw [List.nil_append]at g1
 subst g1
 refine GR (dS _ _ i4 za za) (fun y2 g2=>?_)
 refine GR (dS _ _ g2.2.2 za za) (fun y3 g3=>?_)
 rw [w64 (n:=(i:Int)+1) za za]
 have B:∀{k:Int}{x:az},c.cn[k.toNat]? =some x->EpOk x:=fun h=>D.all _ (DY h)
 refine G5 (fun _=>?_) (fun _=>G5 (fun _=>?_) (fun _=>G5 (fun _=>?_) (fun _=>G5 (fun _=>?_) (fun _=>G5 (fun _=>?_) (fun _=>?_)))))
 ·refine GR (mA 60 za za _ g3.2.2) (fun I g4=>?_)
  refine GR (G6 za za) (fun _ _=>?_)
  refine GR (GW za za) (fun K g5=>?_)
  obtain⟨x,C,rfl⟩:=g5
  have f:=B C
  refine GR (j _) (fun L g6=>?_)
  subst g6
  exact g (D.set C rfl rfl ⟨f.lo,f.lt,f.hi,f.from_,f.rate,f.resp,g4.1⟩) g4.2
 ·refine GR (oG _ g3.2.2) (fun I g4=>?_)
  refine GR (G6 za za) (fun _ _=>?_)
  refine GR (GW za za) (fun K g5=>?_)
  obtain⟨x,C,rfl⟩:=g5
  have f:=B C
  refine GR (j _) (fun L g6=>?_)
  subst g6
  exact g (D.set C rfl rfl ⟨f.lo,f.lt,f.hi,f.from_,f.rate,g4.1,f.pos⟩) g4.2
 ·rw [w64 (n:=(c.cn.length:Int)-1) za za]
  refine GR (G6 za za) (fun _ _=>?_)
  refine GR (GU za za) (fun x C=>?_)
  refine GR (dS _ _ g3.2.2 za za) (fun I g4=>?_)
  refine GR (eV _ _ g4.2.2 zc zc) (fun K g5=>?_)
  refine GR (G6 za za) (fun _ _=>?_)
  refine GR (GW za za) (fun L g6=>?_)
  obtain⟨Q,f,rfl⟩:=g6
  obtain rfl:Q=x:=by rw [C.2]at f;exact(Option.some.inj f).symm
  have hb:∃q,I.1*K.1=q∧0<=q∧q<=3999000:=by
   have:=g5.1
   simp at this
   rcases this with e|e<;>rw [e]<;>exact⟨_,rfl,za,za⟩
  obtain⟨q,hq,q0,q1⟩:=hb
  have u:=B C.2
  have U:=u.lt
  have H:=u.lo
  have T:=u.hi
  rw [hq,w64 (n:=q) za za,w64 (n:=Q.b7+1) za za,w64 (n:=Q.b7+1+q) za za]
  refine GR (j _) (fun y7 g7=>?_)
  subst g7
  have O:=u.from_
  have hk:((c.cn.length:Int)-1).toNat=c.cn.length-1:=by omega
  rw [hk]at f⊢
  exact g (D.last f rfl ⟨H,zd,zd,O,u.rate,u.resp,u.pos⟩) g5.2
 ·exact GX ⟨i+1,zc,za,i2.trans (by rw [G];exact List.sublist_append_left _ _),i3,g3.2.2⟩ zd
 ·refine GR (dS _ _ g3.2.2 za za) (fun I g4=>?_)
  refine GR (G6 za za) (fun _ _=>?_)
  refine GR (GW za za) (fun K g5=>?_)
  obtain⟨x,C,rfl⟩:=g5
  have f:=B C
  refine GR (G6 za so) (fun _ _=>?_)
  refine GR (GW za so) (fun L g6=>?_)
  obtain⟨z,W,rfl⟩:=g6
  have hk:y2.1.toNat<c.cn.length:=by omega
  rw [List.getElem?_set_self hk]at W
  cases W
  rw [List.set_set]
  refine GR (j _) (fun y7 g7=>?_)
  subst g7
  rw [w64 (n:=50+I.1) za za]
  exact g (D.set C rfl rfl ⟨f.lo,f.lt,f.hi,f.from_,⟨rfl,zd⟩,f.resp,f.pos⟩) g4.2.2
 ·refine GR (j _) (fun L g6=>?_)
  subst g6
  exact g D g3.2.2
end Go.Dw.Re
set_option maxRecDepth 100000
set_option maxHeartbeats 4000000
namespace Go.Dw.Re
open Go.Dw Go.Proofs
open Sd (mQ eW eo)
theorem gl{α:Type}{n:Nat}{l:List α}(h:l.length*n<=140737488355328):rV n l=some l:=by
 unfold rV;rw [if_pos h]
def oK(r:bu):Prop:=r.cQ.length<=1000∧∀x∈r.cQ,x.ep.length<=1000
theorem copyEpoch_at{e:az}(h:oK e.bV):iw e=some e:=by
 obtain⟨h1,j⟩:=h
 unfold iw
 rw [gl za,ze]
 have:Ok (cI (fI e.bV.cQ) ((0:Int),e.bV.cQ)) (fun o=>o=e.bV.cQ):=by
  refine GV (fun s=>0<=s.1∧s.1<=e.bV.cQ.length∧s.2=e.bV.cQ) (fun s=>((e.bV.cQ.length:Int)-s.1).toNat) ?_ ⟨Fb _,zc,rfl⟩
  rintro⟨s2,r⟩ ⟨i0,i1,i2⟩
  simp only at i0 i1 i2
  subst i2
  unfold fI
  dsimp only
  refine GY (fun k=>?_) (fun _=>G4 rfl)
  refine GR (G6 za za) (fun _ _=>?_)
  refine GR (GU za za) (fun x f=>?_)
  have:=j x f.1
  rw [gl za,ze]
  refine GR (G6 za za) (fun _ _=>?_)
  refine GR (GW za za) (fun y q=>?_)
  obtain⟨z,g,rfl⟩:=q
  obtain rfl:x=z:=by rw [f.2]at g;exact Option.some.inj g
  rw [w64 za za]
  refine GX ⟨zd,zd,?_⟩ zd
  obtain⟨hk,e⟩:=List.getElem?_eq_some_iff.1 f.2
  simp only
  conv=>lhs;rw [<-e]
  exact GL hk
 rw [this.eq];rfl
def ChLen(c:aj):Prop:=c.cn.length<=1000∧∀e∈c.cn,oK e.bV
theorem copied_at{c:aj}(h:ChLen c):kT c=some c:=by
 obtain⟨h1,g⟩:=h
 unfold kT
 rw [gl za,ze]
 have:Ok (cI (gV c.cn) ((0:Int),c.cn)) (fun o=>o=c.cn):=by
  refine GV (fun s=>0<=s.1∧s.1<=c.cn.length∧s.2=c.cn) (fun s=>((c.cn.length:Int)-s.1).toNat) ?_ ⟨Fb _,zc,rfl⟩
  rintro⟨s2,q⟩ ⟨i0,i1,i2⟩
  simp only at i0 i1 i2
  subst i2
  unfold gV
  dsimp only
  refine GY (fun j=>?_) (fun _=>G4 rfl)
  refine GR (G6 za za) (fun _ _=>?_)
  refine GR (GU za za) (fun x f=>?_)
  rw [copyEpoch_at (g x f.1),ze]
  refine GR (G6 za za) (fun _ _=>?_)
  refine GR (G3 za za) (fun y k=>?_)
  subst k
  rw [w64 za za]
  refine GX ⟨zd,zd,?_⟩ zd
  obtain⟨hk,e⟩:=List.getElem?_eq_some_iff.1 f.2
  simp only
  conv=>lhs;rw [<-e]
  exact GL hk
 rw [this.eq];rfl
structure oj(v:ae):Prop where
 len:v.a8.length<=1000
 all:∀c∈v.a8,ChLen c
theorem gA.lens{v:ae}(h:gA v):oj v:=by
 refine⟨by have:=h.len;omega,fun c hc=>?_⟩
 have f:=(h.all c hc).2
 refine⟨by have:=f.len;omega,fun e he=>?_⟩
 have g:=(f.all e he).resp
 exact⟨by have:=g.1;omega,fun x j=>by have:=(g.2 x j).2.2.1;omega⟩
def zCh:aj:=⟨⟨[],[],[],[]⟩,[]⟩
def zEp:az:=⟨0,0,⟨0,0⟩,⟨0,0,0⟩,⟨[]⟩⟩
def chan(v:ae)(s:Sid):Option aj:=v.a8.find? fun c=>decide (c.a7=s)
def epIn(l:List az)(t:Int):Option az:=l.find? fun e=>decide (e.b7<=t∧t<e.fTo)
def nq(v:ae)(s:Sid)(t:Int):Option az:=(chan v s).bind fun c=>epIn c.cn t
theorem Find_eq{v:ae}(g:oj v)(s:Sid):mq v s=some (match chan v s with|none=>(zCh,false)|some c=>(c,true)):=by
 have hl:=g.len
 unfold mq
 rw [loop_find v.a8 (p:=fun c=>decide (c.a7=s)) (f:=fun c=>(c,true)) (fun i hi=>?_) ?_,ze]
 ·unfold chan
  cases v.a8.find? fun c=>decide (c.a7=s)<;>rfl
 ·unfold kc
  rw [if_neg zc]
 ·unfold kc
  rw [if_pos so,pI rfl hi,ze,Sd.eqs,copied_at (g.all _ (Dp hi)),ze,w64 za za]
  simp
theorem at_eq{c:aj}(hc:c.cn.length<=1000)(t:Int):nF c t=some (match epIn c.cn t with|none=>(zEp,false)|some e=>(e,true)):=by
 unfold nF
 rw [loop_find c.cn (p:=fun e=>decide (e.b7<=t∧t<e.fTo)) (f:=fun e=>(e,true)) (fun i hi=>?_) ?_,ze]
 ·unfold epIn
  cases c.cn.find? fun e=>decide (e.b7<=t∧t<e.fTo)<;>rfl
 ·unfold lG
  rw [if_neg zc]
 ·unfold lG
  rw [if_pos so,pI rfl hi,ze,w64 za za]
  by_cases h1:c.cn[i].b7<=t<;>by_cases g:t<c.cn[i].fTo<;>simp [h1,g]
theorem qU{v:ae}{s:Sid}{c:aj}(h:chan v s=some c):c∈v.a8∧c.a7=s:=by
 unfold chan at h
 exact⟨GJ h,by simpa using GB h⟩
theorem epIn_mem{l:List az}{t:Int}{e:az}(h:epIn l t=some e):e∈l∧e.b7<=t∧t<e.fTo:=by
 unfold epIn at h
 have:=GB h
 simp only [decide_eq_true_eq]at this
 exact⟨GJ h,this⟩
theorem At_eq{v:ae}(f:oj v)(hV:cL v=some true)(s:Sid)(t:Int):kR v s t=some (match nq v s t with|none=>(zEp,6)|some e=>(e,0)):=by
 unfold kR
 rw [hV,ze,if_neg zc,Find_eq f,ze]
 unfold nq
 cases hc:chan v s with
 |none=>
  dsimp only
  rw [at_eq (by simp [zCh])]
  rfl
 |some c=>
  dsimp only
  rw [at_eq (f.all c (qU hc).1).1,ze,ze]
  cases epIn c.cn t<;>rfl
theorem loop_eq{α:Type}{body:Int->Option (il Int (Unit⊕Bool))}(a b:List α)(hl:a.length=b.length)
  (h1:∀(i:Nat)(hi:i<a.length)(u:i<b.length),(a[i]=b[i]∧body i=some (.next ((i+1:Nat):Int)))∨(a[i]≠b[i]∧body i=some (.stop (.inr false))))
  (r:body (a.length:Nat)=some (.stop (.inl ()))):(cI body (0:Int)=some (.inl ())∧a=b)∨(cI body (0:Int)=some (.inr false)∧a≠b):=by
 have:∀k i,i+k=a.length->a.take i=b.take i->(cI body (i:Int)=some (.inl ())∧a=b)∨(cI body (i:Int)=some (.inr false)∧a≠b):=by
  intro k
  induction k with
  |zero=>
   intro i hi g
   obtain rfl:i=a.length:=by omega
   refine .inl ⟨qV r,?_⟩
   rw [GM,hl,GM]at g
   exact g
  |succ k B=>
   intro i hi g
   have f:i<a.length:=by omega
   rcases h1 i f za with⟨e,q⟩|⟨e,q⟩
   ·rw [rN q]
    exact B (i+1) za (by rw [rr f,rr za,g,e])
   ·exact .inr ⟨qV q,fun j=>e (by subst j;rfl)⟩
 have:=this a.length 0 za zc
 simpa using this
theorem Equal_eq{a b:List Int}(h:a.length<=1000):k8 a b=some (decide (a=b)):=by
 unfold k8
 by_cases hl:a.length=b.length
 ·rw [if_neg (by simp [hl])]
  have key:(cI (eO a b) (0:Int)=some (.inl ())∧a=b)∨(cI (eO a b) (0:Int)=some (.inr false)∧a≠b):=by
   refine loop_eq a b hl (fun i hi g=>?_) ?_
   ·unfold eO
    rw [if_pos so,pI rfl hi,pI rfl g,ze,ze,w64 za za]
    by_cases e:a[i]=b[i]<;>simp [e]
   ·unfold eO
    rw [if_neg zc]
  rcases key with⟨e,f⟩|⟨e,f⟩
  ·rw [e];simp [f]
  ·rw [e];simp [f]
 ·rw [if_pos (by simpa using fun e:(a.length:Int)=b.length=>hl za)]
  simp [show a≠b from fun e=>hl (by rw [e])]
theorem arr_eq(a b:bN):((a.a0==b.a0)&&((a.a1==b.a1)&&((a.a2==b.a2)&&true)))=decide (a=b):=by
 obtain⟨x,y,z⟩:=a
 obtain⟨j,k,q⟩:=b
 simp only [bN.mk.injEq]
 by_cases f:x=j<;>by_cases e2:y=k<;>by_cases g:z=q<;>simp [f,e2,g]
theorem pos_eq(a b:ag):((a.fX==b.fX)&&((a.fY==b.fY)&&((a.fZ==b.fZ)&&true)))=decide (a=b):=by
 obtain⟨x,y,z⟩:=a
 obtain⟨j,k,q⟩:=b
 simp only [ag.mk.injEq]
 by_cases f:x=j<;>by_cases e2:y=k<;>by_cases g:z=q<;>simp [f,e2,g]
theorem Stage_eq{a b:bg}(h:a.ep.length<=1000):ju a b=some (decide (a=b)):=by
 unfold ju
 rw [arr_eq,arr_eq,Equal_eq h]
 obtain⟨k,n,d,t,f,s⟩:=a
 obtain⟨k',D,r,E,C,s'⟩:=b
 simp only [bg.mk.injEq]
 by_cases g:k=k'
 rotate_left
 ·simp [g]
 by_cases e2:n=D
 rotate_left
 ·simp [g,e2]
 by_cases j:d=r
 rotate_left
 ·simp [g,e2,j]
 by_cases q:t=E
 rotate_left
 ·simp [g,e2,j,q]
 by_cases u:f=C<;>by_cases B:s=s'<;>simp [g,e2,j,q,u,B]
theorem Same_eq{a b:bu}(h:oK a):nf a b=some (decide (a=b)):=by
 obtain⟨h1,j⟩:=h
 obtain⟨a⟩:=a
 obtain⟨b⟩:=b
 simp only at h1 j
 unfold nf fV
 simp only [bu.mk.injEq]
 by_cases hl:a.length=b.length
 ·rw [if_neg (by simp [hl])]
  have key:(cI (cJ a b) (0:Int)=some (.inl ())∧a=b)∨(cI (cJ a b) (0:Int)=some (.inr false)∧a≠b):=by
   refine loop_eq a b hl (fun i hi g=>?_) ?_
   ·unfold cJ
    rw [if_pos so,pI rfl hi,pI rfl g,ze,ze,Stage_eq (j _ (Dp hi)),ze,w64 za za]
    by_cases e:a[i]=b[i]<;>simp [e]
   ·unfold cJ
    rw [if_neg zc]
  rcases key with⟨e,f⟩|⟨e,f⟩
  ·rw [e];simp [f]
  ·rw [e];simp [f]
 ·rw [if_pos (by simpa using fun e:(a.length:Int)=b.length=>hl za)]
  simp [show a≠b from fun e=>hl (by rw [e])]
def epPR(e:az):ag×bu:=(e.bU,e.bV)
def Chg(a b:ae)(p:Pick):Prop:=(nq a p.a7 p.bS).map epPR≠(nq b p.a7 p.bS).map epPR
instance (a b:ae) (p:Pick):Decidable (Chg a b p):=inferInstanceAs (Decidable (_≠_))
theorem epAt_len{v:ae}(f:oj v){s:Sid}{t:Int}{e:az}(h:nq v s t=some e):oK e.bV:=by
 unfold nq at h
 cases hc:chan v s with
 |none=>rw [hc]at h;cases h
 |some c=>
  rw [hc]at h
  exact(f.all c (qU hc).1).2 e (epIn_mem h).1
theorem Changed_eq{a b:ae}(f:oj a)(r:oj b)(k:cL a=some true)(q:cL b=some true)(p:Pick):jf a b p=some (decide (Chg a b p)):=by
 unfold jf
 rw [At_eq f k,At_eq r q,ze,ze]
 show _=some (decide ((nq a p.a7 p.bS).map epPR≠(nq b p.a7 p.bS).map epPR))
 generalize u:nq a p.a7 p.bS=B
 generalize nq b p.a7 p.bS=g
 cases B with
 |none=>cases g<;>simp
 |some x=>
  cases g with
  |none=>simp
  |some y=>
   dsimp only
   rw [if_neg zc,if_neg zc,pos_eq,Same_eq (epAt_len f u),ze]
   simp only [Option.map_some,ne_eq,Option.some.injEq,epPR,Prod.mk.injEq]
   by_cases j:x.bU=y.bU<;>by_cases e2:x.bV=y.bV<;>simp [j,e2]
end Go.Dw.Re
set_option maxRecDepth 100000
set_option maxHeartbeats 4000000
namespace Go.Dw.Re
open Go.Dw Go.Proofs
def bitsL:List Int:=[1,2,4,8,16,32,64,128]
theorem or_at:∀b∈bitsL,∀m:Nat,m<128->2*b*m+2*b<=256->orI .i64 (2*b*m) b=2*b*m+b:=by decide+kernel
theorem half_bit:∀b∈bitsL,(b=1∧sc .i64 b 1=0)∨(sc .i64 b 1∈bitsL∧2*sc .i64 b 1=b):=by decide+kernel
theorem bit_pos:∀b∈bitsL,1<=b∧b<=128:=by decide
theorem sq_lt{x n:Int}(g:0<x)(f:0<=n):x<=n.tdiv x↔x*x<=n:=by
 rw [Fu f,Int.le_ediv_iff_mul_le g]
def FI(n:Int)(s:Int×Int):Prop:=
 (s.2=0∧(0<=s.1∧s.1<=255)∧s.1*s.1<=n∧n<(s.1+1)*(s.1+1))∨
 (s.2∈bitsL∧∃m:Nat,s.1=2*s.2*m∧m<128∧s.1+2*s.2<=256∧s.1*s.1<=n∧n<(s.1+2*s.2)*(s.1+2*s.2))
theorem floor_loop(n:Int)(T:0<n)(h1:n<=65535)(s:Int×Int)(hs:FI n s):Ok (cI (jj n) s) (fun r=>(0<=r∧r<=255)∧r*r<=n∧n<(r+1)*(r+1)):=by
 refine GV (FI n) (fun s=>s.2.toNat) ?_ hs
 rintro⟨r,b⟩ h
 unfold jj
 dsimp only
 rcases h with⟨e,C,g,j⟩|⟨D,m,E,hm,C,g,j⟩
 ·simp only at e C g j
  subst e
  rw [if_neg zc]
  exact G4 ⟨C,g,j⟩
 ·simp only at D E C g j
  have L:=bit_pos b D
  have K:0<=2*b*m:=Fk za za
  have H:orI .i64 r b=r+b:=by rw [E];exact or_at b D m hm za
  have F:2*b*m<=256-2*b:=by omega
  have G:b*m<=127:=by
   rw [Fg]at F;omega
  rw [if_pos so,H]
  refine GR (GZ za) (fun q J=>?_)
  have N:0<=n.tdiv (r+b):=Fw za za
  have O:n.tdiv (r+b)<=n:=Fv _ za
  rw [w64 za za]at J
  subst J
  have f:∀(x:Int)(k:Nat),(x=2*b*m∧k=2*m)∨(x=2*b*m+b∧k=2*m+1)->x*x<=n->n<(x+b)*(x+b)->Ok (some (il.next (x,sc .i64 b 1))) (GP (FI n) (fun s=>s.2.toNat) (fun r:Int=>(0<=r∧r<=255)∧r*r<=n∧n<(r+1)*(r+1)) (r,b)):=fun x k Q g1 g2=>by
   rcases half_bit b D with⟨B,e2⟩|⟨B,e2⟩
   ·rw [e2]
    subst B
    refine GX (.inl ⟨rfl,⟨zd,zd⟩,g1,g2⟩) zd
   ·have I:=bit_pos _ B
    generalize sc .i64 b 1=b' at*
    subst e2
    refine GX (.inr ⟨B,k,?_,?_,zd,g1,g2⟩) zd
    ·simp only
     rcases Q with⟨rfl,rfl⟩|⟨rfl,rfl⟩
     ·rw [Fp]
      simp only [Fg,Fj]
      rfl
     ·rw [Fo,Fp,Ff]
      have:2*b'*((2:Nat)*(m:Int))=2*(2*b')*m:=by
       simp only [Fg,Fj];rfl
      rw [this];simp
    ·have:2*b'*m<=127:=G
     have U:(m:Int)<=b'*m:=by
      have:=Int.mul_le_mul_of_nonneg_right (show(1:Int)<=b' by omega) (show(0:Int)<=(m:Int)by omega)
      omega
     rw [Fg]at this
     omega
  refine GY (fun hle=>?_) (fun u=>?_)
  ·rw [sq_lt za za]at hle
   exact f _ (2*m+1) (.inr ⟨by rw [E],rfl⟩) hle (by rw [show r+b+b=r+2*b by omega];exact j)
  ·rw [sq_lt za za]at u
   exact f _ (2*m) (.inl ⟨E,rfl⟩) g (Int.not_le.1 u)
theorem len_lo:(DG 256).all (fun n=>decide (n=0)||match lO (n:Int)with|some L=>decide (1<=L∧L<=16)&&decide ((n:Int)<2 ^ L.toNat)|none=>false)=true:=by kernel_rfl
theorem len_hi:(DG 256).all (fun n=>decide (n=0)||match lO ((n*256:Nat):Int)with|some L=>decide (1<=L∧L<=16)&&decide (((n*256+255:Nat):Int)<2 ^ L.toNat)|none=>false)=true:=by kernel_rfl
theorem shr8{n:Int}(f:0<=n):sc .u64 n 8=n / 256:=by
 show n.fdiv (2 ^ (min (8:Int).toNat 64))=n / 256
 rw [Fa _ (by decide)]
 rfl
theorem len_same{n:Int}(f:256<=n)(h1:n<=65535):gP n=gP (n / 256*256):=by
 unfold gP nQ ke lr
 rw [if_neg so,if_neg so,if_pos so,if_neg so,if_neg so,if_pos so,shr8 za,shr8 za]
 rw [show n / 256*256 / 256=n / 256 by omega]
theorem len_ok{n:Int}(j:1<=n)(h1:n<=65535):Ok (gP n) (fun L=>(1<=L∧L<=16)∧n<2 ^ L.toNat):=by
 obtain⟨n,rfl⟩:∃k:Nat,n=k:=⟨n.toNat,za⟩
 by_cases h:n<256
 ·have:=List.all_eq_true.1 len_lo n (List.mem_range.2 h)
  simp only [GO,decide_eq_true_eq]at this
  rcases this with h|h
  ·omega
  ·cases e:lO (n:Int)with
   |none=>rw [e]at h;cases h
   |some L=>
    rw [e]at h
    simp only [D6,decide_eq_true_eq]at h
    exact⟨L,bits_Len_le _ _ e,h.1,h.2⟩
 ·have hm:n / 256<256:=by omega
  have:=List.all_eq_true.1 len_hi (n / 256) (List.mem_range.2 hm)
  simp only [GO,decide_eq_true_eq]at this
  rcases this with f|f
  ·omega
  ·cases e:lO ((n / 256*256:Nat):Int)with
   |none=>rw [e]at f;cases f
   |some L=>
    rw [e]at f
    simp only [D6,decide_eq_true_eq]at f
    refine⟨L,?_,f.1,?_⟩
    ·rw [len_same za h1]
     have:((n:Int) / 256*256)=((n / 256*256:Nat):Int):=by omega
     rw [this]
     exact bits_Len_le _ _ e
    ·have:=f.2
     have g:(n:Int)<=((n / 256*256+255:Nat):Int):=by omega
     exact Int.lt_of_le_of_lt g this
theorem start_at:∀L:Nat,L<17->1<=L->∃q b,tu .i64 (FN .i64 ((L:Int)-1)) 2=some q∧yn .i64 1 q=some b∧b∈bitsL∧(2:Int) ^ L<=(0+2*b)*(0+2*b):=by
 intro L h1 g
 have:L=1∨L=2∨L=3∨L=4∨L=5∨L=6∨L=7∨L=8∨L=9∨L=10∨L=11∨L=12∨L=13∨L=14∨L=15∨L=16:=by omega
 have hs:∀(q b:Int),0<=q->shlI .i64 1 q=b->yn .i64 1 q=some b:=fun q b h e=>by unfold yn;rw [if_neg za,e]
 have f:∀(x q:Int),FN .i64 ((FN .i64 x).tdiv 2)=q->tu .i64 (FN .i64 x) 2=some q:=fun x q e=>by unfold tu;rw [if_neg za,e]
 rcases this with rfl|rfl|rfl|rfl|rfl|rfl|rfl|rfl|rfl|rfl|rfl|rfl|rfl|rfl|rfl|rfl
 ·exact⟨0,1,f _ _ (by decide),hs _ _ (by decide) (by decide),by decide,by decide⟩
 ·exact⟨0,1,f _ _ (by decide),hs _ _ (by decide) (by decide),by decide,by decide⟩
 ·exact⟨1,2,f _ _ (by decide),hs _ _ (by decide) (by decide),by decide,by decide⟩
 ·exact⟨1,2,f _ _ (by decide),hs _ _ (by decide) (by decide),by decide,by decide⟩
 ·exact⟨2,4,f _ _ (by decide),hs _ _ (by decide) (by decide),by decide,by decide⟩
 ·exact⟨2,4,f _ _ (by decide),hs _ _ (by decide) (by decide),by decide,by decide⟩
 ·exact⟨3,8,f _ _ (by decide),hs _ _ (by decide) (by decide),by decide,by decide⟩
 ·exact⟨3,8,f _ _ (by decide),hs _ _ (by decide) (by decide),by decide,by decide⟩
 ·exact⟨4,16,f _ _ (by decide),hs _ _ (by decide) (by decide),by decide,by decide⟩
 ·exact⟨4,16,f _ _ (by decide),hs _ _ (by decide) (by decide),by decide,by decide⟩
 ·exact⟨5,32,f _ _ (by decide),hs _ _ (by decide) (by decide),by decide,by decide⟩
 ·exact⟨5,32,f _ _ (by decide),hs _ _ (by decide) (by decide),by decide,by decide⟩
 ·exact⟨6,64,f _ _ (by decide),hs _ _ (by decide) (by decide),by decide,by decide⟩
 ·exact⟨6,64,f _ _ (by decide),hs _ _ (by decide) (by decide),by decide,by decide⟩
 ·exact⟨7,128,f _ _ (by decide),hs _ _ (by decide) (by decide),by decide,by decide⟩
 ·exact⟨7,128,f _ _ (by decide),hs _ _ (by decide) (by decide),by decide,by decide⟩
theorem floor_ok(n:Int)(h1:n<=65535):Ok (kl n) (fun r=>(0<=r∧r<=255)∧(0<=n->r*r<=n)∧n<(r+1)*(r+1)):=by
 unfold kl
 refine GY (fun h=>G1 ⟨⟨za,za⟩,fun D=>za,so⟩) (fun h=>?_)
 have hw:FN .u64 n=n:=IntWalk.u64_in _ za
 rw [hw]
 refine GR (len_ok za h1) (fun L C=>?_)
 obtain⟨⟨F,G⟩,j⟩:=C
 obtain⟨L,rfl⟩:∃k:Nat,L=k:=⟨L.toNat,za⟩
 obtain⟨q,b,u,e2,g,B⟩:=start_at L za za
 rw [u,ze,e2,ze]
 have E:=bit_pos b g
 refine GR (floor_loop n za h1 (0,b) (.inr ⟨g,0,zc,za,zd,zd,?_⟩)) (fun r f=>G1 ⟨f.1,fun _=>f.2.1,f.2.2⟩)
 simp only
 rw [E7]at j
 exact Int.lt_of_lt_of_le j B
theorem lt_of_sq{x s:Int}(hs:0<=s)(h:x*x<s*s):x<s:=by
 apply Ga
 intro f
 have:s*s<=x*x:=Fi za za hs za
 omega
theorem ceil_ok(n:Int)(g:0<=n)(h1:n<=65535):Ok (m8 n) (fun r=>(0<=r∧r<=256)∧n<=r*r∧∀s,0<=s->n<=s*s->r<=s):=by
 unfold m8
 refine GR (floor_ok n h1) (fun x B=>?_)
 obtain⟨⟨a0,a1⟩,a2,a3⟩:=B
 have:=a2 g
 have C:0<=x*x:=Fk a0 a0
 rw [w64 (n:=x*x) za za,w64 (n:=x+1) za za]
 refine GY (fun u=>G1 ⟨⟨za,za⟩,Int.le_of_lt a3,fun s hs f=>?_⟩) (fun q=>G1 ⟨⟨za,za⟩,za,fun s hs f=>?_⟩)
 ·have:=lt_of_sq (x:=x) hs za;omega
 ·apply Ga
  intro hc
  have := lt_of_sq (x := s) a0 (by
   have j:s*s<=(x-1)*(x-1):=Fi za za hs za
   have k:(x-1)*(x-1)=x*x-2*x+1:=by rw [Ft,Fm];omega
   omega)
  have j:s*s<=(x-1)*(x-1):=Fi za za hs za
  have k:(x-1)*(x-1)=x*x-2*x+1:=by rw [Ft,Fm];omega
  omega
end Go.Dw.Re
set_option maxRecDepth 100000
set_option maxHeartbeats 4000000
namespace Go.Dw.Re
open Go.Dw Go.Proofs
theorem get1{α:Type}(A:List α)(y:α)(T:List α){n:Int}(f:n=A.length):nZ (A++y::T) n=some y:=by
 rw [pI (i:=A.length) f zc]
 simp
theorem set1{α:Type}(A:List α)(y z:α)(T:List α){n:Int}(f:n=A.length):tF (A++y::T) n z=some (A++z::T):=by
 rw [xw (i:=A.length) f zc]
 simp
structure pq(t:bc):Prop where
 step:1<=t.bR∧t.bR<=100
 len:2<=t.bt.length∧t.bt.length<=30
 same:t.bd.length=t.bt.length
 low:t.bt.Pairwise (· <= ·)
 high:t.bd.Pairwise (· <= ·)
 lows:∀x∈t.bt,0<=x
 highs:∀x∈t.bd,0<=x∧x<=5000
 lh:∀(i:Nat)(h:i<t.bt.length)(h':i<t.bd.length),t.bt[i]<=t.bd[i]
 far:400<=t.bR*((t.bt.length:Int)-1)
 lowb:∀x∈t.bt,x<=1500
theorem jc{t:bc}(h:pq t):ed t=some 0:=by
 obtain⟨h1,D,E,q,r,u,k,B, -⟩:=h
 refine GS ?_
 unfold ed
 refine GY (fun _=>za) (fun _=>GY (fun _=>za) (fun _=>G2 (fun h=>za) (fun _=>GY (fun _=>za) (fun _=>GY (fun _=>za) (fun _=>?_)))))
 refine GR (P:=fun o=>o= .inl ()) (GV (fun s=>∃i:Nat,s.2.2=i∧i<=t.bt.length∧(∀(j:Nat)(g:j<t.bt.length),i<=j->s.1<=t.bt[j])∧(∀(j:Nat)(g:j<t.bd.length),i<=j->s.2.1<=t.bd[j])) (fun s=>((t.bt.length:Int)-s.2.2).toNat) ?_ ⟨0,rfl,DJ _,fun j g _=>u _ (Dp g),fun j g _=>(k _ (Dp g)).1⟩) (fun o ho=>by subst ho;exact G1 rfl)
 rintro⟨s1,s2,F⟩ ⟨i,i0,i1,i2,i3⟩
 simp only at i0 i2 i3
 subst i0
 unfold lj
 dsimp only
 refine GY (fun C=>?_) (fun _=>G4 rfl)
 have hi:i<t.bt.length:=by omega
 have f:i<t.bd.length:=by omega
 have:=i2 i hi (DA _)
 have:=i3 i f (DA _)
 have:=B i hi f
 have:=(k _ (Dp f)).2
 simp only [pI (i:=i) rfl hi,pI (i:=i) rfl f,ze]
 refine GY (fun _=>za) (fun _=>GY (fun _=>za) (fun _=>GY (fun _=>za) (fun _=>GY (fun _=>za) (fun _=>?_))))
 rw [w64 za za]
 refine GX ⟨i+1,zc,za,fun j g h=>?_,fun j g h=>?_⟩ zd
 ·exact List.pairwise_iff_getElem.1 q i j hi g za
 ·exact List.pairwise_iff_getElem.1 r i j f g za
theorem snoc_le{l:List Int}{x:Int}(h:l.Pairwise (· <= ·))(j:∀y∈l,y<=x):(l++[x]).Pairwise (· <= ·):=
 List.pairwise_append.2 ⟨h,zc,fun a f b g=>by rw [List.mem_singleton.1 g];exact j a f⟩
structure TI(d:Src)(lo hi k:Int)(L H:List Int):Prop where
 ck:0<=k∧k<=23
 ll:L.length=k.toNat
 hl:H.length=k.toNat
 clo:0<=lo∧lo<=60*k
 chi:0<=hi∧hi<=100*k+2
 cd:cr d
 pl:L.Pairwise (· <= ·)
 ph:H.Pairwise (· <= ·)
 ls:∀x∈L,0<=x∧x<=lo
 hs:∀x∈H,0<=x∧x<=hi
 lh:lo<=hi
 le:∀(i:Nat)(h:i<L.length)(h':i<H.length),L[i]<=H[i]
theorem tableV(d:Src)(I:cr d):Ok (kM d) (fun r=>pq r.1∧cr r.2):=by
 unfold kM
 refine GR (eV _ d I zc zc) (fun j h1=>?_)
 obtain⟨g,h1⟩:=h1
 have g:j.1=20∨j.1=25∨j.1=40∨j.1=100:=by simpa using g
 refine GR (dS _ _ h1 za za) (fun x2 H=>?_)
 have u:∃q,FN .i64 ((400:Int).tdiv j.1)=q∧(4<=q∧j.1*q=400)∧q<=20:=by
  rcases g with e|e|e|e<;>rw [e]<;>exact⟨_,rfl,⟨by decide,by decide⟩,by decide⟩
 have hp:∃q,FN .i64 (j.1.tdiv 4)=q∧0<=q∧q<=25:=by
  rcases g with e|e|e|e<;>rw [e]<;>exact⟨_,rfl,by decide,by decide⟩
 obtain⟨q,u,⟨X,K⟩,Y⟩:=u
 obtain⟨p,hp,U,W⟩:=hp
 refine GR (P:=fun o=>cr ⟨o.1,o.2.1⟩∧pq ⟨j.1,o.2.2.1,o.2.2.2⟩)
  (GV (fun s=>TI ⟨s.2.2.2.1,s.2.2.2.2.1⟩ s.1 s.2.1 s.2.2.1 s.2.2.2.2.2.1 s.2.2.2.2.2.2) (fun s=>(23-s.2.2.1).toNat) ?_ ⟨⟨zc,zc⟩,rfl,rfl,⟨zc,zc⟩,⟨zd,zd⟩,H.2.2,zc,zc,zc,zc,zd,zc⟩) ?_
 ·rintro⟨L,s4,N,s6,s7,D,s9⟩ C
  simp only at C
  obtain⟨i0,i1,i2,i3,i4,i5,i6,i7,i8,i9,i10,i11⟩:=C
  unfold lq
  refine GR (GZ za) (fun O g1=>?_)
  rw [u]at g1;subst g1
  refine GR (dS _ _ i5 za za) (fun Q g2=>?_)
  rw [w64 (n:=O+Q.1) za za]
  refine GY (fun hle=>?_) (fun J=>?_)
  ·refine GR (GQ (by simp only [DW,DX];omega)) (fun y3 g3=>?_)
   refine GR (GQ (by simp only [DW,DX];omega)) (fun y4 g4=>?_)
   refine GR (eV _ _ g2.2.2 zc zc) (fun k g5=>?_)
   refine GR (GZ za) (fun E g6=>?_)
   rw [hp]at g6;subst g6
   refine GR (eV _ _ g5.2 zc zc) (fun F g7=>?_)
   have a1:0<=k.1∧k.1<=35:=by have:=g5.1;simp at this;omega
   have a2:0<=F.1∧F.1<=30:=by have:=g7.1;simp at this;omega
   rw [w64 (n:=k.1+E) za za,w64 (n:=L+(k.1+E)) za za,w64 (n:=N+1) za za,w64 (by split<;>omega) (by split<;>omega)]
   subst g3 g4
   refine GX ⟨⟨zd,zd⟩,?_,?_,⟨zd,zd⟩,⟨by simp only;split<;>omega,by simp only;split<;>omega⟩,g7.2,snoc_le i6 fun y B=>(i8 y B).2,snoc_le i7 fun y B=>(i9 y B).2,?_,?_,by simp only;split<;>omega,?_⟩ zd
   ·simp only [ET,DW,DX];omega
   ·simp only [ET,DW,DX];omega
   ·intro x f
    simp only [Ew,Ey]at f
    rcases f with f|rfl
    ·have:=i8 x f;simp only;omega
    ·simp only;omega
   ·intro x f
    simp only [Ew,Ey]at f
    rcases f with f|rfl
    ·have:=i9 x f;simp only;split<;>omega
    ·simp only;split<;>omega
   ·intro i h G
    simp only [ET,DW,DX]at h G
    by_cases hi:i<D.length
    ·rw [GC hi,GC za]
     exact i11 i hi za
    ·have T:i=D.length:=by omega
     rw [GD za,GD za]
     simp only [List.getElem_singleton];omega
  ·refine G4 ⟨g2.2.2,⟨zd,zd⟩,⟨zd,zd⟩,zd,i6,i7,fun x f=>(i8 x f).1,fun x f=>by have:=i9 x f;omega,i11,?_,fun x f=>by have:=i8 x f;omega⟩
   rw [<-K]
   exact Int.mul_le_mul_of_nonneg_left zd za
 ·intro o ho
  exact G1 ⟨ho.2,ho.1⟩
theorem reg_ok{k:Int}(hk:0<=k∧k<=4)(d:Src)(f:cr d):Ok (oN 20 k d) (fun r=>fN 20 r.1.bt):=by
 unfold oN
 rw [w64 (n:=k+1) za za]
 refine GR (mA 20 za za d f) (fun g g0=>?_)
 refine GR (dS _ _ g0.2 za za) (fun j g1=>?_)
 refine GR (dS _ _ g1.2.2 za za) (fun q g2=>?_)
 refine GR (dS _ _ g2.2.2 za za) (fun u g3=>?_)
 exact G1 g0.1
theorem assocV{k:Int}(hk:0<=k∧k<=4)(d:Src)(B:cr d):Ok (eQ k d) (fun r=>((gM r.1.bn∧fN 20 r.1.bn.bt)∧pq r.1.bJ∧(1<=r.1.dw∧r.1.dw<=1000)∧(0<=r.1.bA∧r.1.bA<=1000)∧(0<=r.1.cw∧r.1.cw<=5000)∧(0<=r.1.dT∧r.1.dT<=1000)∧(2<=r.1.cq∧r.1.cq<=3))∧cr r.2):=by
 unfold eQ
 refine GR ((box_ok 20 k za za za za d B).both (reg_ok hk d B)) (fun F h1=>?_)
 refine GR (tableV _ h1.1.2) (fun G f=>?_)
 refine GR (eV _ _ f.2 zc zc) (fun H g=>?_)
 refine GR (eV _ _ g.2 zc zc) (fun I j=>?_)
 refine GR (eV _ _ j.2 zc zc) (fun J q=>?_)
 refine GR (eV _ _ q.2 zc zc) (fun K u=>?_)
 refine GR (dS _ _ u.2 za za) (fun E D=>?_)
 have a3:=g.1
 have a4:=j.1
 have a5:=q.1
 have C:=u.1
 simp at a3 a4 a5 C
 rw [w64 (n:=2+E.1) za za]
 exact G1 ⟨⟨⟨h1.1.1,h1.2⟩,f.1,zd,zd,zd,zd,zd⟩,D.2.2⟩
theorem third{x:Int}(h:0<=x)(f:x<=1000000):FN .i64 (x.tdiv 3)=x / 3:=by
 rw [Fu h,w64 za za]
theorem tab_third{t:bc}(h:pq t):pq ⟨t.bR,t.bt.map (· / 3),t.bd.map (· / 3)⟩:=by
 obtain⟨h1,r,u,B,C,q,D,E,F,j⟩:=h
 refine⟨h1,by simpa using r,by simpa using u,?_,?_,?_,?_,?_,by simpa using F,fun x g=>by obtain⟨y,f,rfl⟩:=List.mem_map.1 g;have:=j y f;have:=q y f;omega⟩
 ·rw [GK];exact B.imp fun h=>by omega
 ·rw [GK];exact C.imp fun h=>by omega
 ·intro x g
  obtain⟨y,f,rfl⟩:=List.mem_map.1 g
  have:=q y f;omega
 ·intro x g
  obtain⟨y,f,rfl⟩:=List.mem_map.1 g
  have:=D y f;omega
 ·intro i h k
  simp only [List.length_map]at h k
  simp only [GF]
  have:=E i h k;omega
theorem scaleV(d:Src)(G:cr d):Ok (lT d) (fun r=>(pq r.1.bF∧(0<=r.1.cf∧r.1.cf<=20)∧(1<=r.1.bY∧r.1.bY<=20))∧cr r.2):=by
 unfold lT
 refine GR (tableV _ G) (fun u h1=>?_)
 refine GR (dS _ _ h1.2 za za) (fun N E=>?_)
 refine GR (dS _ _ E.2.2 za za) (fun K F=>?_)
 have k:=h1.1
 have hl:=k.len;have hs:=k.same
 generalize q:u.1.bt=L at*
 generalize hH:u.1.bd=H at*
 refine GR (P:=fun o=>o=(L.map (· / 3),H.map (· / 3))) (GV (fun s:Int×List Int×List Int=>∃i:Nat,s=((i:Int),(L.take i).map (· / 3)++L.drop i,(H.take i).map (· / 3)++H.drop i)∧i<=L.length) (fun s=>((L.length:Int)-s.1).toNat) ?_ ⟨0,zc,DJ _⟩) (fun o ho=>?_)
 ·rintro s ⟨i,rfl,hi⟩
  unfold lm
  dsimp only
  rw [q]
  refine GY (fun J=>?_) (fun I=>?_)
  ·have hi:i<L.length:=by omega
   have f:i<H.length:=by omega
   have B:=k.lows (L[i]) (by rw [q];exact Dp hi)
   have C:=k.highs (H[i]) (by rw [hH];exact Dp f)
   have D:=k.lh i (by rw [q];exact hi) (by rw [hH];exact f)
   simp only [q,hH]at D
   have g:∀{M:List Int}(h:i<M.length),(M.take i).map (· / 3)++M.drop i=(M.take i).map (· / 3)++M[i]::M.drop (i+1):=fun{M}h=>by rw [Fz h]
   have hlen:∀{M:List Int},i<M.length->((M.take i).map (· / 3)).length=i:=fun{M}h=>by simp;omega
   have j:∀{M:List Int}(h:i<M.length),(M.take i).map (· / 3)++M[i] / 3::M.drop (i+1)=(M.take (i+1)).map (· / 3)++M.drop (i+1):=fun{M}h=>by
    rw [rr h,FG,List.append_assoc];rfl
   rw [g hi,g f]
   have n1:∀{M:List Int}(h:i<M.length)(z:Int),inO ((M.take i).map (· / 3)++z::M.drop (i+1)) (i:Int)=some ():=fun{M}h z=>sa za (by rw [ET,hlen h];simp;omega)
   rw [n1 hi,ze,get1 _ _ _ (by rw [hlen hi]),ze]
   refine GR (GZ za) (fun O g2=>?_)
   rw [third B za]at g2
   subst g2
   rw [n1 f,ze,get1 _ _ _ (by rw [hlen f]),ze]
   refine GR (GZ za) (fun Q g4=>?_)
   rw [third C.1 za]at g4
   subst g4
   rw [ze,set1 _ _ _ _ (by rw [hlen hi]),ze,ze,set1 _ _ _ _ (by rw [hlen f]),ze,w64 za za,j hi,j f]
   exact GX ⟨i+1,zc,za⟩ zd
  ·have:i=L.length:=by omega
   subst this
   refine G4 ?_
   rw [GM,List.drop_length,ER,List.take_of_length_le za,List.drop_of_length_le za,ER]
 ·subst ho
  rw [w64 (n:=1+K.1) za za]
  have:=tab_third k
  rw [q,hH]at this
  exact G1 ⟨⟨this,zd,zd⟩,F.2.2⟩
structure gB(s:ah):Prop where
 box:gM s.ac.bn
 reg:fN 20 s.ac.bn.bt
 tab:pq s.ac.bJ
 cap:1<=s.ac.dw∧s.ac.dw<=1000
 tol:0<=s.ac.bA∧s.ac.bA<=1000
 span:0<=s.ac.cw∧s.ac.cw<=5000
 limit:0<=s.ac.dT∧s.ac.dT<=1000
 least:2<=s.ac.cq∧s.ac.cq<=3
 cor:pq s.bQ.bF
 num:0<=s.bQ.cf∧s.bQ.cf<=20
 den:1<=s.bQ.bY∧s.bQ.bY<=20
 tolerance:0<=s.bA∧s.bA<=1000
theorem settingsV{k:Int}(hk:0<=k∧k<=4)(d:Src)(B:cr d):Ok (dL k d) (fun r=>gB r.1∧cr r.2):=by
 unfold dL
 refine GR (assocV hk d B) (fun C h1=>?_)
 refine GR (scaleV _ h1.2) (fun D j=>?_)
 refine GR (eV _ _ j.2 zc zc) (fun E q=>?_)
 have a3:=q.1
 simp at a3
 obtain⟨⟨⟨a,u⟩,b,c,e,f,g,h⟩, -⟩:=h1
 exact G1 ⟨⟨a,u,b,c,e,f,g,h,j.1.1,j.1.2.1,j.1.2.2,zd⟩,q.2⟩
theorem k6{p:ag}(h:fN 60 p):dZ p=some true:=by
 obtain⟨h1,f,g⟩:=h
 refine GS ?_
 unfold dZ bX
 rw [ze]
 dsimp only
 exact GY (fun _=>za) (fun _=>GY (fun _=>za) (fun _=>GY (fun _=>za) (fun _=>GY (fun _=>za) (fun _=>GY (fun _=>za) (fun _=>GY (fun _=>za) (fun _=>G1 rfl))))))
theorem nB{b:al}(h:gM b):fN 60 b.bt∧fN 60 b.bd:=by
 obtain⟨⟨h1,f,g⟩,j,k,q⟩:=h
 exact⟨⟨za,za,za⟩,za,za,za⟩
theorem eJ{b:al}(h:gM b):cp b=some true:=by
 obtain⟨hl,f⟩:=nB h
 obtain⟨-,g,j,k⟩:=h
 refine GS ?_
 unfold cp
 rw [k6 hl,ze,if_neg zc,k6 f,ze,if_neg zc]
 unfold bX
 rw [ze,ze]
 dsimp only
 exact GY (fun _=>za) (fun _=>GY (fun _=>za) (fun _=>GY (fun _=>za) (fun _=>G1 rfl)))
theorem qm{s:ah}(h:gB s):eH s=some 0:=by
 obtain⟨h1, -,q,B,C,D,E,F,r,G,j,k⟩:=h
 have f:∀{x a b:Int},a<=x->x<=b->fi x a b=some true:=fun h g=>by
  unfold fi;rw [if_pos (by simpa using h)];simpa using g
 have u:ef s.ac []=some 0:=by
  unfold ef
  rw [eJ h1,ze,if_neg zc,jc q,ze,if_neg zc,f za za,ze,if_neg zc,f za za,ze,if_neg zc,f za za,ze,if_neg zc,f za za,ze,if_neg zc,f za za,ze,if_neg zc,if_neg zc]
  have:dl [] s.ac (0:Int)=some (.stop (.inl ())):=by
   unfold dl
   rw [if_neg zc]
  rw [qV this];rfl
 have hm:dG s.bQ=some true:=by
  unfold dG
  rw [jc r,ze,if_pos zc,if_pos so,if_pos so,if_pos so]
  simp;omega
 unfold eH
 rw [u,ze,if_neg zc,hm,ze,if_neg zc,if_neg so,if_neg so]
theorem sq_in{x:Int}(h: -120<=x∧x<=120):0<=x*x∧x*x<=14400:=by
 constructor
 ·rcases Fc 0 x with f|f
  ·exact Fk f f
  ·exact Fl f f
 ·rcases Fc 0 x with f|f
  ·exact Fi h.2 h.2 f za
  ·rw [<-Fq]
   exact Fi (show-x<=120 by omega) (show-x<=120 by omega) za za
def ne(x l h:Int):Int:=max 0 (max (l-x) (x-h))
def fa(x l h:Int):Int:=max (h-x) (x-l)
def oF(b:al)(p:ag):Int:=ne p.fX b.bt.fX b.bd.fX*ne p.fX b.bt.fX b.bd.fX+ne p.fY b.bt.fY b.bd.fY*ne p.fY b.bt.fY b.bd.fY+ne p.fZ b.bt.fZ b.bd.fZ*ne p.fZ b.bt.fZ b.bd.fZ
def oq(b:al)(p:ag):Int:=fa p.fX b.bt.fX b.bd.fX*fa p.fX b.bt.fX b.bd.fX+fa p.fY b.bt.fY b.bd.fY*fa p.fY b.bt.fY b.bd.fY+fa p.fZ b.bt.fZ b.bd.fZ*fa p.fZ b.bt.fZ b.bd.fZ
theorem qI{a b c:Int}(f: -60<=a∧a<=60)(g: -60<=b∧b<=60)(hc: -60<=c∧c<=60):gh a b c=some (ne a b c)∧0<=ne a b c∧ne a b c<=120:=by
 unfold gh ne
 rw [w64 (n:=a-c) za za,w64 (n:=b-a) za za]
 refine⟨congrArg some ?_,za,za⟩
 split<;>split<;>omega
theorem pD{a b c:Int}(g: -60<=a∧a<=60)(j: -60<=b∧b<=60)(hc: -60<=c∧c<=60)(f:b<=c):fH a b c=some (fa a b c)∧0<=fa a b c∧fa a b c<=120:=by
 unfold fH fa
 rw [w64 (n:=a-b) za za,w64 (n:=c-a) za za]
 refine⟨congrArg some ?_,za,za⟩
 split<;>omega
theorem sum_at{x y z:Int}(j:0<=x∧x<=120)(k:0<=y∧y<=120)(q:0<=z∧z<=120):
  FN .i64 ((FN .i64 ((FN .i64 ((0:Int)+(FN .i64 (x*x))))+(FN .i64 (y*y))))+(FN .i64 (z*z)))=x*x+y*y+z*z∧0<=x*x+y*y+z*z∧x*x+y*y+z*z<=43200:=by
 have h1:=sq_in (x:=x) za
 have f:=sq_in (x:=y) za
 have g:=sq_in (x:=z) za
 rw [w64 (n:=x*x) za za,w64 (n:=y*y) za za,w64 (n:=z*z) za za,w64 (n:=0+x*x) za za,w64 (n:=0+x*x+y*y) za za,w64 za za]
 exact⟨za,za,za⟩
theorem qQ{b:al}(g:gM b){p:ag}(hp:fN 60 p):f8 b p=some (oF b p)∧0<=oF b p∧oF b p<=43200:=by
 obtain⟨hl,f⟩:=nB g
 obtain⟨j,a1⟩:=qI hp.1 hl.1 f.1
 obtain⟨e2,a2⟩:=qI hp.2.1 hl.2.1 f.2.1
 obtain⟨k,a3⟩:=qI hp.2.2 hl.2.2 f.2.2
 obtain⟨e,h⟩:=sum_at a1 a2 a3
 refine⟨?_,h⟩
 unfold f8 jk bX
 rw [Gb,eJ g,ze,if_neg zc,k6 hp,ze,if_neg zc]
 simp only [ze,j,e2,k,e]
 rfl
theorem Far_at{b:al}(f:gM b){p:ag}(hp:fN 60 p):ji b p=some (oq b p)∧0<=oq b p∧oq b p<=43200:=by
 obtain⟨hl,g⟩:=nB f
 obtain⟨-,q,r,u⟩:=id f
 obtain⟨j,a1⟩:=pD hp.1 hl.1 g.1 za
 obtain⟨e2,a2⟩:=pD hp.2.1 hl.2.1 g.2.1 za
 obtain⟨k,a3⟩:=pD hp.2.2 hl.2.2 g.2.2 za
 obtain⟨e,h⟩:=sum_at a1 a2 a3
 refine⟨?_,h⟩
 unfold ji iF bX
 rw [Gb,eJ f,ze,if_neg zc,k6 hp,ze,if_neg zc]
 simp only [ze,j,e2,k,e]
 rfl
theorem sq_le{x y:Int}(f:0<=x)(h:x<=y):x*x<=y*y:=Fi h h f za
theorem pT{b:al}(f:gM b)(p:ag):oF b p<=oq b p:=by
 obtain⟨-,j,q,r⟩:=f
 have k:∀x l h:Int,l<=h->ne x l h*ne x l h<=fa x l h*fa x l h:=fun x l h g=>sq_le (by unfold ne;omega) (by unfold ne fa;omega)
 have:=k p.fX b.bt.fX b.bd.fX za
 have:=k p.fY b.bt.fY b.bd.fY za
 have:=k p.fZ b.bt.fZ b.bd.fZ za
 unfold oF oq;omega
structure Sub(r b:al):Prop where
 x:r.bt.fX<=b.bt.fX∧b.bt.fX<=b.bd.fX∧b.bd.fX<=r.bd.fX
 y:r.bt.fY<=b.bt.fY∧b.bt.fY<=b.bd.fY∧b.bd.fY<=r.bd.fY
 z:r.bt.fZ<=b.bt.fZ∧b.bt.fZ<=b.bd.fZ∧b.bd.fZ<=r.bd.fZ
theorem far_mono{r b:al}(h:Sub r b)(p:ag):oq b p<=oq r p:=by
 obtain⟨h1,j,q⟩:=h
 have k:∀x l h g f:Int,g<=l->l<=h->h<=f->fa x l h*fa x l h<=fa x g f*fa x g f:=fun x l h g f a b c=>sq_le (by unfold fa;omega) (by unfold fa;omega)
 have:=k p.fX _ _ _ _ h1.1 h1.2.1 h1.2.2
 have:=k p.fY _ _ _ _ j.1 j.2.1 j.2.2
 have:=k p.fZ _ _ _ _ q.1 q.2.1 q.2.2
 unfold oq;omega
theorem half_at:∀x:Nat,x<600->FN .i64 (sc .u64 (FN .u64 (FN .i64 (x:Int))) 1)=((x / 2:Nat):Int):=by decide+kernel
theorem search_ok{t:bc}(q:pq t)(d:Int)(F:d<=t.bR*((t.bt.length:Int)-1)):Ok (gj (t.bd.length:Int) t d) (fun r=>(0<=r∧r<t.bd.length)∧d<=r*t.bR):=by
 have hl:=q.len;have hs:=q.same;have D:=q.step
 unfold gj
 rw [Gb]
 refine GV (fun s=>∃i j:Nat,s=((i:Int),(j:Int))∧i<t.bd.length∧i<=j∧j<=t.bd.length∧(j<t.bd.length->d<=(j:Int)*t.bR)) (fun s=>(s.2-s.1).toNat) ?_ ⟨0,t.bd.length,rfl,za,za,DA _,fun h=>za⟩
 rintro s ⟨i,j,rfl,i0,i1,i2,i3⟩
 unfold iC
 dsimp only
 refine GY (fun g=>?_) (fun B=>G4 ⟨⟨za,za⟩,?_⟩)
 rotate_left
 ·obtain rfl:i=j:=by omega
  exact i3 i0
 have u:=half_at (i+j) za
 rw [Fo]at u
 have C:(i+j) / 2<j:=by omega
 have f:i<=(i+j) / 2:=by omega
 rw [u]
 generalize (i+j) / 2=k at*
 unfold iD
 have E:0<=(k:Int)*t.bR∧(k:Int)*t.bR<=30*100:=⟨Fk za za,Fi za za za za⟩
 rw [w64 (n:=(k:Int)*t.bR) za za,ze]
 refine Ok.iteND (fun g=>?_) (fun hle=>GX ⟨i,k,rfl,i0,f,za,fun _=>hle⟩ zd)
 rw [w64 za za]
 refine GX ⟨k+1,j,zc,?_,za,i2,i3⟩ zd
 have h1:(k:Int)*t.bR<t.bR*((t.bt.length:Int)-1):=by omega
 rw [Fh]at h1
 have:=Int.lt_of_mul_lt_mul_left h1 za
 omega
theorem asc_le{l:List Int}(h:l.Pairwise (· <= ·)){i j:Nat}(f:i<=j)(g:j<l.length):l[i]<=l[j]:=by
 rcases Nat.lt_or_eq_of_le f with h1|rfl
 ·exact List.pairwise_iff_getElem.1 h i j _ _ h1
 ·exact Fb _
def nu(t:bc):Int:=t.bR*((t.bt.length:Int)-1)
def Reach(t:bc)(f:Int):Prop:=f<=nu t*nu t
theorem oQ{t:bc}(g:pq t)(n f:Int)(K:0<=n)(O:n<=f)(hf:f<=65535):Ok (dh t n f) (fun r=>(r.2.2=0↔Reach t f)∧(r.2.2=0->0<=r.1∧r.1<=r.2.1∧r.2.1<=5000)):=by
 have hl:=g.len;have hs:=g.same;have U:=g.step
 unfold dh
 rw [jc g,ze,if_neg zc]
 refine GY (fun _=>za) (fun _=>GY (fun _=>za) (fun h1=>?_))
 refine GR (ceil_ok f za hf) (fun c hc=>?_)
 obtain⟨B,C,D⟩:=hc
 have N:0<=t.bR*((t.bt.length:Int)-1)∧t.bR*((t.bt.length:Int)-1)<=100*30:=⟨Fk za za,Fi za za za za⟩
 have G:Reach t f↔c<=nu t:=by
  unfold Reach
  constructor
  ·intro h;exact D _ N.1 h
  ·intro h;exact Fe C (sq_le B.1 h)
 unfold nJ
 rw [ze,w64 (n:=(t.bt.length:Int)-1) za za,w64 za za]
 refine GY (fun L=>G1 ⟨⟨fun h=>by simp at h,fun h=>?_⟩,fun h=>by simp at h⟩) (fun L=>?_)
 ·have:=G.1 h;unfold nu at this;omega
 refine GR (search_ok g c za) (fun u hu=>?_)
 refine GR (floor_ok n za) (fun x W=>?_)
 obtain⟨⟨F,x1⟩,J, -⟩:=W
 have J:=J K
 have X:x<=c:=by
  apply Ga
  intro h
  have:(c+1)*(c+1)<=x*x:=Fi za za za za
  have h4:(c+1)*(c+1)=c*c+2*c+1:=by rw [F8,Ff];omega
  omega
 refine GR (GZ za) (fun q I=>?_)
 have E:0<=x.tdiv t.bR:=Fw F za
 have Q:x.tdiv t.bR<=(t.bt.length:Int)-1:=by
  rw [Fu F]
  exact F9 za (by rw [Fh];omega)
 have T:x.tdiv t.bR<=u:=by
  rw [Fu F]
  exact F9 za za
 rw [w64 za za]at I
 subst I
 refine GR (GU E za) (fun a H=>?_)
 refine GR (GU hu.1.1 hu.1.2) (fun b k=>G1 ⟨⟨fun _=>G.2 (by unfold nu;omega),fun _=>rfl⟩,fun _=>⟨g.lows _ H.1,?_,(g.highs _ k.1).2⟩⟩)
 obtain⟨i1,Y⟩:=List.getElem?_eq_some_iff.1 H.2
 obtain⟨i2,e2⟩:=List.getElem?_eq_some_iff.1 k.2
 have k1:=asc_le g.low (i:=(x.tdiv t.bR).toNat) (j:=u.toNat) za za
 have k2:=g.lh u.toNat za i2
 simp only
 omega
def fK(z:bz):Prop:= -5000<=z.b7∧z.b7<=z.fTo∧z.fTo<=18014398509481984
structure PhV(a:aw):Prop where
 pos:fN 60 a.bw
 early:0<=a.bv
 late:a.bv<=a.cg
 most:a.cg<=18014398509481984
 weight:a.cz=1
theorem qo{t:bc}(q:pq t){b:al}(j:gM b){a:aw}(f:PhV a):Ok (eD t b a) (fun r=>(r.2=0↔Reach t (oq b a.bw))∧(r.2=0->fK r.1)):=by
 obtain⟨f,h1,C,D,u⟩:=f
 have E:ge a=some true:=by
  refine GS ?_
  unfold ge
  rw [k6 f,ze,if_pos rfl,if_pos (by simpa using h1),if_pos (by simpa using C),if_pos (by simpa using D),if_pos (by simp [u])]
  exact G1 (by simp [u])
 unfold eD
 rw [jc q,ze,if_neg zc,eJ j,ze,if_neg zc,E,ze,if_neg zc]
 obtain⟨B,F,n1⟩:=qQ j f
 obtain⟨e2,f0,f1⟩:=Far_at j f
 refine GR (P:=fun r=>(r.2.2=0↔Reach t (oq b a.bw))∧(r.2.2=0->0<=r.1∧r.1<=r.2.1∧r.2.1<=5000)) ?_ (fun r k=>?_)
 ·unfold mf m7
  rw [jc q,ze,if_neg zc,eJ j,ze,if_neg zc,k6 f,ze,if_neg zc,B,e2]
  simp only [ze]
  exact GR (oQ q _ _ F (pT j _) za) (fun r k=>G1 k)
 ·refine G2 (fun h=>G1 ⟨⟨fun g=>(h g).elim,fun g=>(h (k.1.2 g)).elim⟩,fun g=>(h g).elim⟩) (fun h=>G1 ⟨⟨fun _=>k.1.1 h,fun _=>rfl⟩,fun _=>?_⟩)
  have:=k.2 h
  unfold fK
  simp only
  rw [w64 za za,w64 za za]
  exact⟨za,za,za⟩
end Go.Dw.Re
set_option maxRecDepth 100000
set_option maxHeartbeats 4000000
namespace Go.Dw.Re
open Go.Dw Go.Proofs
theorem Sub.ok{r b:al}(f:gM r)(hp:fN 20 r.bt)(h:Sub r b):gM b:=by
 obtain⟨-,h1,g,j⟩:=f
 obtain⟨k,q,u⟩:=hp
 obtain⟨x,y,z⟩:=h
 exact⟨⟨za,za,za⟩,za,za,za⟩
theorem Sub.refl{r:al}(f:gM r):Sub r r:=by
 obtain⟨-,h1,g,j⟩:=f
 exact⟨za,za,za⟩
theorem Sub.low{r b:al}(h:Sub r b):Sub r ⟨b.bt,b.bt⟩:=by
 obtain⟨x,y,z⟩:=h
 exact⟨⟨zd,zd,zd⟩,⟨zd,zd,zd⟩,⟨zd,zd,zd⟩⟩
theorem Sub.high{r b:al}(h:Sub r b):Sub r ⟨b.bd,b.bd⟩:=by
 obtain⟨x,y,z⟩:=h
 exact⟨⟨zd,zd,zd⟩,⟨zd,zd,zd⟩,⟨zd,zd,zd⟩⟩
theorem within_at{r b:al}(f:gM r)(hp:fN 20 r.bt)(h:Sub r b):lF b r=some true:=by
 have g:=h.ok f hp
 obtain⟨pl,ph⟩:=nB g
 have k:∀p,Sub r ⟨p,p⟩->fN 60 p->gR r p=some true:=fun p⟨x,y,z⟩j=>by
  unfold gR
  rw [eJ f,ze,if_pos rfl,k6 j,ze,if_pos rfl,(qQ f j).1,ze]
  simp only at x y z
  have q:ne p.fX r.bt.fX r.bd.fX=0:=by unfold ne;omega
  have e2:ne p.fY r.bt.fY r.bd.fY=0:=by unfold ne;omega
  have u:ne p.fZ r.bt.fZ r.bd.fZ=0:=by unfold ne;omega
  unfold oF
  rw [q,e2,u];rfl
 unfold lF
 rw [eJ g,ze,if_pos rfl,k _ h.low pl,ze,if_pos rfl,k _ h.high ph];rfl
theorem nr{a b:Int}(f: -60<=a∧a<=b∧b<=60):ct a b=some (a+(b-a) / 2):=by
 unfold ct
 rw [w64 (n:=b-a) za za]
 have:tu .i64 (b-a) 2=some ((b-a) / 2):=by
  unfold tu
  rw [if_neg za,Fu za,w64 za za]
 rw [this,ze,w64 za za]
theorem center_ok{r b:al}(g:gM r)(hp:fN 20 r.bt)(h:Sub r b):Ok (gJ b) (fun p=>Sub r ⟨p,p⟩):=by
 have f:=h.ok g hp
 obtain⟨⟨q,u,B⟩,h1,j,k⟩:=nB f
 obtain⟨x,y,z⟩:=h
 unfold gJ bX b9
 rw [eJ f,ze,if_neg zc,ze,ze]
 simp only
 rw [nr za,ze,nr za,ze,nr za,ze]
 exact G1 ⟨zd,zd,zd⟩
def pts(b:al):Int:=(b.bd.fX-b.bt.fX+1)*(b.bd.fY-b.bt.fY+1)*(b.bd.fZ-b.bt.fZ+1)
theorem mul_in{x y m n:Int}(h1:1<=x∧x<=m)(f:1<=y∧y<=n):1<=x*y∧x*y<=m*n:=
 ⟨Fe (by omega:(1:Int)<=1*1) (Fi h1.1 f.1 za za),Fi h1.2 f.2 za za⟩
theorem pts_in{b:al}(h:gM b):1<=pts b∧pts b<=125:=by
 obtain⟨-,h1,f,g⟩:=h
 have k:=mul_in (mul_in (x:=b.bd.fX-b.bt.fX+1) (y:=b.bd.fY-b.bt.fY+1) (m:=5) (n:=5) za za) (y:=b.bd.fZ-b.bt.fZ+1) (n:=5) za
 unfold pts
 omega
theorem points_at{b:al}(h:gM b):lE b=some (pts b):=by
 have hp:=pts_in h
 obtain⟨hl,f⟩:=nB h
 obtain⟨r,u,B⟩:=hl
 obtain⟨h1,j,k⟩:=f
 have g:=eJ h
 obtain⟨-,s1,s2,C⟩:=h
 have q:=mul_in (x:=b.bd.fX-b.bt.fX+1) (y:=b.bd.fY-b.bt.fY+1) (m:=5) (n:=5) za za
 unfold lE bX
 unfold pts at hp⊢
 rw [g,ze,if_neg zc,ze,ze]
 simp only
 rw [w64 (n := b.bd.fX - b.bt.fX) za za, w64 (n := b.bd.fX - b.bt.fX + 1) za za, w64 (n := 1 * (b.bd.fX - b.bt.fX + 1)) za za, Int.one_mul,
  w64 (n:=b.bd.fY-b.bt.fY) za za,w64 (n:=b.bd.fY-b.bt.fY+1) za za,w64 (n:=(b.bd.fX-b.bt.fX+1)*(b.bd.fY-b.bt.fY+1)) za za,
  w64 (n:=b.bd.fZ-b.bt.fZ) za za,w64 (n:=b.bd.fZ-b.bt.fZ+1) za za,w64 za za]
theorem one_side{x:Int}(h:1<=x){y z:Int}(j:1<=y)(k:1<=z)(g:2<=x*y*z):2<=x∨2<=y∨2<=z:=by
 by_cases h1:x=1
 ·by_cases f:y=1
  ·subst h1 f;right;right;omega
  ·right;left;omega
 ·left;omega
theorem split_ok{r b:al}(G:gM r)(hp:fN 20 r.bt)(h:Sub r b):Ok (fo b) (fun s=>s.2.2=true->Sub r s.1∧Sub r s.2.1∧pts s.1+pts s.2.1=pts b):=by
 have k:=h.ok G hp
 obtain⟨⟨I,J,K⟩,h1,j,H⟩:=nB k
 have q:=points_at k
 obtain⟨-,s1,s2,L⟩:=id k
 obtain⟨x,y,z⟩:=h
 unfold fo bX b9
 rw [q,ze]
 refine GY (fun _=>G1 zc) (fun F=>?_)
 have B:=one_side (x:=b.bd.fX-b.bt.fX+1) (y:=b.bd.fY-b.bt.fY+1) (z:=b.bd.fZ-b.bt.fZ+1) za za za (by unfold pts at F;omega)
 simp only [ze]
 rw [w64 (n:=b.bd.fX-b.bt.fX) za za,w64 (n:=b.bd.fY-b.bt.fY) za za,w64 (n:=b.bd.fZ-b.bt.fZ) za za]
 have D:2<=b.bd.fX-b.bt.fX+1->Ok ((ct b.bt.fX b.bd.fX).bind fun g=>some (al.mk b.bt (ag.mk g b.bd.fY b.bd.fZ),al.mk (ag.mk (FN .i64 (g+(1:Int))) b.bt.fY b.bt.fZ) b.bd,true)) (fun s:al×al×Bool=>s.2.2=true->Sub r s.1∧Sub r s.2.1∧pts s.1+pts s.2.1=pts b):=fun j=>by
  rw [nr za,ze,w64 za za]
  refine G1 fun _=>⟨⟨zd,zd,zd⟩,⟨zd,zd,zd⟩,?_⟩
  unfold pts
  simp only
  rw [<-F8, <-F8]
  congr 2;omega
 have E:2<=b.bd.fY-b.bt.fY+1->Ok ((ct b.bt.fY b.bd.fY).bind fun f=>some (al.mk b.bt (ag.mk b.bd.fX f b.bd.fZ),al.mk (ag.mk b.bt.fX (FN .i64 (f+(1:Int))) b.bt.fZ) b.bd,true)) (fun s:al×al×Bool=>s.2.2=true->Sub r s.1∧Sub r s.2.1∧pts s.1+pts s.2.1=pts b):=fun j=>by
  rw [nr za,ze,w64 za za]
  refine G1 fun _=>⟨⟨zd,zd,zd⟩,⟨zd,zd,zd⟩,?_⟩
  unfold pts
  simp only
  rw [<-F8, <-Ff]
  congr 2;omega
 have u:2<=b.bd.fZ-b.bt.fZ+1->Ok ((ct b.bt.fZ b.bd.fZ).bind fun C=>some (al.mk b.bt (ag.mk b.bd.fX b.bd.fY C),al.mk (ag.mk b.bt.fX b.bt.fY (FN .i64 (C+(1:Int)))) b.bd,true)) (fun s:al×al×Bool=>s.2.2=true->Sub r s.1∧Sub r s.2.1∧pts s.1+pts s.2.1=pts b):=fun j=>by
  rw [nr za,ze,w64 za za]
  refine G1 fun _=>⟨⟨zd,zd,zd⟩,⟨zd,zd,zd⟩,?_⟩
  unfold pts
  simp only
  rw [<-Ff]
  congr 1;omega
 exact GY (fun _=>GY (fun _=>u za) (fun _=>E za)) (fun _=>GY (fun _=>u za) (fun _=>D za))
theorem hull_ok{r a b:al}(j:gM r)(hp:fN 20 r.bt)(f:Sub r a)(g:Sub r b):Ok (m9 a b) (Sub r):=by
 unfold m9 bX b9
 rw [eJ (f.ok j hp),ze,if_neg zc,eJ (g.ok j hp),ze,if_neg zc]
 simp only [ze]
 obtain⟨a1,a2,a3⟩:=f
 obtain⟨k,q,u⟩:=g
 exact G1 ⟨by simp only;split<;>split<;>omega,by simp only;split<;>split<;>omega,by simp only;split<;>split<;>omega⟩
end Go.Dw.Re
set_option maxRecDepth 100000
set_option maxHeartbeats 4000000
namespace Go.Dw.Re
open Go.Dw Go.Proofs
theorem shr30{n:Int}(f:0<=n):sc .i64 n 30=n / 1073741824:=by
 show n.fdiv (2 ^ (min (30:Int).toNat 64))=n / 1073741824
 rw [Fa _ (by decide)]
 rfl
theorem from_ok{n:Int}(h:n<=9223372036854775808):Ok (re n) (fun r=>r.1.length<=3):=by
 unfold re
 refine GY (fun _=>G1 zc) (fun k=>?_)
 refine GR (P:=fun o:List Int=>o.length<=3) (GV (fun s:Int×List Int=>0<=s.1∧s.2.length<=3∧s.1<1073741824 ^ (3-s.2.length)) (fun s=>s.1.toNat) ?_ ⟨zd,zc,by simp only [DX];omega⟩) (fun o ho=>G1 ho)
 rintro⟨s2,f⟩ ⟨i0,i1,i2⟩
 simp only at i0 i1 i2
 unfold pO
 refine GY (fun g=>?_) (fun _=>G4 i1)
 refine GR (G0 za) (fun x _=>?_)
 refine GR (GQ (by simp only [DW,DX];omega)) (fun y j=>?_)
 subst j
 rw [shr30 i0]
 have q:f.length≠3:=fun e=>by rw [e]at i2;simp at i2;omega
 refine GX ⟨zd,by simp only [ET,DW,DX];omega,?_⟩ zd
 simp only [ET,DW,DX]
 rw [show 3-f.length=(3-(f.length+(0+1)))+1 by omega,Int.pow_succ]at i2
 exact Int.ediv_lt_of_lt_mul za i2
theorem mW(l:List Int)(hl:l.length<=1000):Ok (lX l) (fun r=>r=true->l.length<=64):=by
 have hc:Ok (di l) (fun _=>True):=by
  unfold di gu
  refine GR (P:=fun _=>True) ?_ (fun o _=>G1 trivial)
  refine GR (P:=fun _=>True) (G7 l.length za (fun _=>True) trivial (fun i j h1 _=>?_)) (fun o _=>by rcases o with _|_<;>exact G1 trivial)
  unfold fD nW
  refine GY (fun g=>?_) (fun _=>G4 trivial)
  refine GR (GU za za) (fun a k=>?_)
  refine GR (P:=fun _=>True) (GY (fun _=>G1 trivial) (fun _=>G1 trivial)) (fun b _=>?_)
  rw [w64 za za]
  exact G9 (fun _=>G4 trivial) (fun _=>GX ⟨⟨za,za⟩,trivial⟩ za)
 unfold lX
 refine GY (fun _=>G1 zc) (fun hle=>GY (fun f=>?_) (fun _=>?_))
 ·rw [w64 za za]
  refine GR (GU za za) (fun a _=>G5 (fun _=>G1 zc) (fun _=>?_))
  exact GR hc (fun _ _=>G1 fun _=>za)
 ·exact GR hc (fun _ _=>G1 fun _=>za)
theorem digit_ok{l:List Int}{i:Int}(h:0<=i):Ok (nO l i) (fun _=>True):=by
 unfold nO
 refine GY (fun _=>G1 trivial) (fun f=>?_)
 exact GR (GU h za) (fun _ _=>G1 trivial)
theorem trim_ok{l:List Int}(hl:l.length<=1000):Ok (pQ l) (fun r=>r.length<=l.length):=by
 unfold pQ
 refine GR (P:=fun o:List Int=>o.length<=l.length) (GV (fun s:List Int=>s.length<=l.length) (fun s=>s.length) ?_ (DA _)) (fun o ho=>G1 ho)
 intro s i0
 unfold pR
 refine GY (fun f=>?_) (fun _=>G4 i0)
 rw [w64 za za]
 refine GR (GU za za) (fun a _=>G5 (fun _=>?_) (fun _=>G4 i0))
 refine GR (Ok.cut za za za) (fun y g=>?_)
 subst g
 have:((s.drop (0:Int).toNat).take (((s.length:Int)-1).toNat-(0:Int).toNat)).length=s.length-1:=by
  simp only [EG,EF];omega
 exact GX (by rw [this];omega) (by rw [this];omega)
theorem oW{l:List Int}(hl:l.length<=1000):Ok (kx l) (fun r=>r.1.length<=64):=by
 unfold kx
 refine GR (trim_ok hl) (fun x f=>GY (fun _=>G1 zc) (fun _=>G1 zd))
theorem pM{a b:List Int}(K:a.length<=64)(L:b.length<=64):Ok (kZ a b) (fun r=>r.length<=128):=by
 unfold kZ
 rw [w64 za za]
 refine GR (Ok.mk za za za) (fun x D=>?_)
 have k:x.length=a.length+b.length:=by subst D;simp;omega
 refine GR (P:=fun o:List Int=>o.length=a.length+b.length) (GV (fun s:Int×List Int=>(0<=s.1∧s.1<=a.length)∧s.2.length=a.length+b.length) (fun s=>((a.length:Int)-s.1).toNat) ?_ ⟨⟨zc,zc⟩,k⟩) (fun o ho=>?_)
 ·rintro⟨s2,O⟩ ⟨⟨i0,i1⟩,i2⟩
  simp only at i0 i1 i2
  unfold mV
  refine GY (fun j=>?_) (fun _=>G4 i2)
  refine GR (GU za za) (fun y _=>?_)
  refine GR (P:=fun o:Int×List Int=>o.1=s2∧o.2.length=a.length+b.length) (GV (fun s:Int×Int×List Int=>(0<=s.2.1∧s.2.1<=(b.length:Int)+1)∧s.2.2.length=a.length+b.length) (fun s=>((b.length:Int)+1-s.2.1).toNat) ?_ ⟨⟨zc,zd⟩,i2⟩) (fun o ho=>?_)
  ·rintro⟨Q,B,F⟩ ⟨⟨u,E⟩,f⟩
   simp only at u E f
   unfold mU
   dsimp only
   rw [w64 (n:=(b.length:Int)+1) za za]
   refine GY (fun j=>?_) (fun _=>G4 ⟨rfl,f⟩)
   rw [w64 (n:=s2+B) za za,w64 (n:=B+1) za za]
   refine GY (fun q=>?_) (fun _=>GX ⟨⟨zd,zd⟩,f⟩ zd)
   refine GR (G6 za za) (fun _ _=>GR (GU za za) (fun G _=>?_))
   refine GR (digit_ok u) (fun H _=>?_)
   refine GR (G0 za) (fun I _=>?_)
   refine GR (G6 za za) (fun _ _=>GR (G3 za za) (fun J g=>?_))
   subst g
   exact GX ⟨⟨zd,zd⟩,by simpa using f⟩ zd
  ·obtain⟨h1,C⟩:=ho
   rw [h1,w64 za za]
   exact GX ⟨⟨zd,zd⟩,C⟩ zd
 ·refine GR (trim_ok za) (fun r N=>G1 za)
theorem mul_ok{a b:List Int}(f:a.length<=64)(g:b.length<=64):Ok (nat_Mul a b) (fun r=>r.1.length<=64):=by
 unfold nat_Mul pP
 refine GR (P:=fun _=>True) (GR (mW a za) (fun x _=>G9 (fun _=>GR (mW b za) (fun _ _=>G1 trivial)) (fun _=>G1 trivial))) (fun x _=>?_)
 refine G8 (fun _=>G1 zc) (fun _=>?_)
 exact GR (pM f g) (fun y k=>GR (oW za) (fun z j=>G1 j))
theorem add_ok'{a b:List Int}(B:a.length<=64)(C:b.length<=64):Ok (nat_Add a b) (fun r=>r.1.length<=64):=by
 unfold nat_Add pP
 refine GR (P:=fun _=>True) (GR (mW a za) (fun x _=>G9 (fun _=>GR (mW b za) (fun _ _=>G1 trivial)) (fun _=>G1 trivial))) (fun x _=>?_)
 refine G8 (fun _=>G1 zc) (fun _=>?_)
 have hm:∃m:Int,(if(b.length:Int)>(a.length:Int)then(b.length:Int)else(a.length:Int))=m∧0<=m∧m<=64:=⟨_,rfl,by split<;>omega,by split<;>omega⟩
 obtain⟨m,em,m0,m1⟩:=hm
 refine GR (P:=fun o:List Int=>o.length<=65) (GV (fun s:Int×Int×List Int=>(0<=s.2.1∧s.2.1<=m+1)∧s.2.2.length=s.2.1.toNat) (fun s=>(m+1-s.2.1).toNat) ?_ ⟨⟨zc,zd⟩,rfl⟩) (fun o ho=>GR (oW za) (fun z j=>G1 j))
 rintro⟨D,k,E⟩ ⟨⟨i0,i1⟩,i2⟩
 simp only at i0 i1 i2
 unfold pN
 dsimp only
 rw [em,w64 (n:=m+1) za za]
 refine GY (fun f=>?_) (fun _=>G4 za)
 refine GR (digit_ok i0) (fun F _=>GR (digit_ok i0) (fun q _=>?_))
 refine GR (G0 za) (fun u _=>?_)
 refine GR (GQ (by simp only [DW,DX];omega)) (fun y g=>?_)
 subst g
 rw [w64 (n:=k+1) za za]
 exact GX ⟨⟨zd,zd⟩,by simp only [ET,DW,DX];omega⟩ zd
def I64(a:Int):Prop:= -9223372036854775808<=a∧a<=9223372036854775807
theorem qc(a:Int):I64 (FN .i64 a):=by
 unfold I64;rw [IntKind.wrap_i64];omega
theorem nP{a:Int}(h:I64 a):Ok (d9 a) (fun r=>r.length<=64):=by
 unfold d9
 have f:=qc (0-a)
 unfold I64 at h f
 refine GR (from_ok (by split<;>omega)) (fun x j=>?_)
 exact GR (mul_ok za za) (fun y g=>G1 g)
theorem squared_ok{a:bN}{n d:Int}:Ok (iW a n d) (fun r=>r.length<=64):=by
 unfold iW
 refine GR (nP (qc _)) (fun x f=>GR (nP (qc _)) (fun y g=>?_))
 exact GR (add_ok' f g) (fun z j=>G1 j)
theorem sum_okR(l:List Int)(hl:l.length<=1000):Ok (fU l) I64:=by
 unfold fU
 refine GR (P:=I64) (GV (fun s:Int×Int=>(0<=s.2∧s.2<=l.length)∧I64 s.1) (fun s=>((l.length:Int)-s.2).toNat) ?_ ⟨⟨zc,zc⟩,by unfold I64;simp⟩) (fun o ho=>G1 ho)
 rintro⟨s1,s2⟩ ⟨⟨i0,i1⟩,i2⟩
 simp only at i0 i1 i2
 unfold nv
 refine GY (fun f=>?_) (fun _=>G4 i2)
 refine GR (GU za za) (fun a _=>?_)
 rw [w64 (n:=s2+1) za za]
 exact GX ⟨⟨zd,zd⟩,qc _⟩ zd
structure StN(x:bg):Prop where
 num:I64 x.cf.a0
 den:I64 x.bY.a0
 taps:x.ep.length<=3
 shift:0<=x.eT
theorem valid_N{x:bg}(h:nA x):StN x:=by
 obtain⟨-, -,h1,f,g,j⟩:=h
 exact⟨by unfold I64;omega,by unfold I64;omega,h1,f⟩
theorem gain_okN{x:bg}(h:StN x)(n d:Int):Ok (ng x n d) (fun r=>r.1.cf.length<=64∧r.1.bY.length<=64):=by
 unfold ng
 refine G5 (fun _=>GR (nP h.num) (fun a f=>GR (nP h.den) (fun b g=>G1 ⟨f,g⟩))) (fun _=>?_)
 refine G5 (fun _=>GR squared_ok (fun a f=>GR squared_ok (fun b g=>G1 ⟨f,g⟩))) (fun _=>?_)
 refine GR (sum_okR _ (by have:=h.taps;omega)) (fun a f=>GR (nP f) (fun b g=>?_))
 have hs:=h.shift
 have e:yn .i64 1 x.eT=some (shlI .i64 1 x.eT):=by unfold yn;rw [if_neg za]
 rw [e,ze]
 exact GR (nP (qc _)) (fun c hc=>G1 ⟨g,hc⟩)
theorem times_ok{a b:bC}(h1:a.cf.length<=64)(g:a.bY.length<=64)(j:b.cf.length<=64)(k:b.bY.length<=64):Ok (qk a b) (fun r=>r.1.cf.length<=64∧r.1.bY.length<=64):=by
 have q:∀f:bC,f.cf.length<=64->f.bY.length<=64->Ok (ib f) (fun _=>True):=fun f a b=>by
  unfold ib
  exact GR (mW _ za) (fun _ _=>G9 (fun _=>GR (mW _ za) (fun _ _=>G9 (fun _=>G1 trivial) (fun _=>G1 trivial))) (fun _=>G1 trivial))
 unfold qk
 refine GR (q a h1 g) (fun _ _=>G8 (fun _=>G1 zc) (fun _=>GR (q b j k) (fun _ _=>G8 (fun _=>G1 zc) (fun _=>?_))))
 refine GR (pM h1 j) (fun x B=>GR (oW za) (fun y u=>?_))
 refine GR (pM g k) (fun z C=>GR (oW za) (fun w hw=>?_))
 exact G2 (fun _=>G1 zc) (fun _=>G2 (fun _=>G1 zc) (fun _=>G1 ⟨u,hw⟩))
theorem Gain_ok{r:bu}(h:oL r)(n d:Int):Ok (na r n d) (fun x=>x.1.cf.length<=64∧x.1.bY.length<=64):=by
 have f:∀a b c:Int,Ok (cO a b c) (fun _=>True):=fun a b c=>by
  unfold cO;exact GY (fun _=>G1 trivial) (fun _=>G1 trivial)
 have hl:=h.1
 unfold na
 rw [resp_valid h,ze,if_neg zc]
 refine GR (f _ _ _) (fun _ _=>G8 (fun _=>G1 zc) (fun _=>GR (f _ _ _) (fun _ _=>G8 (fun _=>G1 zc) (fun _=>?_))))
 refine GR (P:=fun o=>match o with| .inl y=>y.1.length<=64∧y.2.length<=64| .inr y=>y.1.cf.length<=64∧y.1.bY.length<=64) (GV (fun s:Int×List Int×List Int=>(0<=s.1∧s.1<=r.cQ.length)∧s.2.1.length<=64∧s.2.2.length<=64) (fun s=>((r.cQ.length:Int)-s.1).toNat) ?_ ⟨⟨zc,zc⟩,zc,zc⟩) (fun o ho=>by rcases o with y|y<;>exact G1 ho)
 rintro⟨s1,s2,u⟩ ⟨⟨i0,i1⟩,i2,i3⟩
 simp only at i0 i1 i2 i3
 unfold mE
 refine GY (fun j=>?_) (fun _=>G4 ⟨i2,i3⟩)
 refine GR (GU za za) (fun x k=>?_)
 refine GR (gain_okN (valid_N (h.2 x k.1)) n d) (fun y g=>G8 (fun _=>G4 zc) (fun _=>?_))
 refine GR (times_ok i2 i3 g.1 g.2) (fun z q=>G2 (fun _=>G4 zc) (fun _=>?_))
 rw [w64 za za]
 exact GX ⟨⟨zd,zd⟩,q⟩ zd
theorem byte8(s:List UInt8)(h:s.all (fun b=>decide (b.toNat<=8))=true){n:Int}(f:0<=n)(h1:n<s.length):Ok (wK s n) (fun c=>0<=c∧c<=8):=by
 refine(Ok.byte f h1).mono fun c⟨b,g,hc⟩=>?_
 have:=List.all_eq_true.1 h b (DY g)
 simp only [decide_eq_true_eq]at this
 omega
theorem shr16{n:Int}(f:0<=n):sc .u64 n 16=n / 65536:=by
 show n.fdiv (2 ^ (min (16:Int).toNat 64))=n / 65536
 rw [Fa _ (by decide)]
 rfl
theorem shr32{n:Int}(f:0<=n):sc .u64 n 32=n / 4294967296:=by
 show n.fdiv (2 ^ (min (32:Int).toNat 64))=n / 4294967296
 rw [Fa _ (by decide)]
 rfl
theorem wU8{n:Int}(h:0<=n∧n<256):FN .u8 n=n:=IntWalk.u8_in _ za
theorem len8_ok{n m:Int}(f:0<=n∧n<65536)(hm:0<=m∧m<=48):Ok (lr n m) (fun r=>0<=r∧r<=m+16):=by
 unfold lr
 refine GY (fun h=>?_) (fun h=>?_)
 ·rw [shr8 f.1,wU8 za]
  refine GR (byte8 _ (by decide+kernel) za so) (fun c hc=>?_)
  rw [w64 (n:=m+8) za za,w64 (n:=c) za za,w64 za za]
  exact G1 ⟨za,za⟩
 ·rw [wU8 za]
  refine GR (byte8 _ (by decide+kernel) za so) (fun c hc=>?_)
  rw [w64 (n:=c) za za,w64 za za]
  exact G1 ⟨za,za⟩
theorem bits_ok{n:Int}(h:0<=n∧n<18446744073709551616):Ok (gP n) (fun r=>0<=r∧r<=64):=by
 have g:∀{n m:Int},0<=n∧n<4294967296->0<=m∧m<=32->Ok (ke n m) (fun r=>0<=r∧r<=m+32):=fun{n m}j hm=>by
  unfold ke
  refine GY (fun h=>?_) (fun h=>?_)
  ·rw [shr16 j.1,w64 za za]
   exact(len8_ok za za).mono fun r f=>by omega
  ·exact(len8_ok za za).mono fun r f=>by omega
 unfold gP nQ
 refine GR (P:=fun r=>0<=r∧r<=64) (GY (fun h=>?_) (fun h=>?_)) (fun r f=>G1 f)
 ·rw [shr32 za]
  exact(g za za).mono fun r f=>by omega
 ·exact(g za za).mono fun r f=>by omega
theorem u64_range(n:Int):0<=FN .u64 n∧FN .u64 n<18446744073709551616:=by
 simp [FN,IntKind.bits,IntKind.signed];omega
theorem dig17{c m d:Int}(hc: -1<=c∧c<=63)(f:0<=d∧d<=255):Ok (fq c m d) (fun r=> -256<=r∧r<=16400):=by
 unfold fq
 rw [w64 (n:=256*c) za za,w64 za za]
 exact G1 ⟨za,za⟩
theorem dig20{c m d:Int}(hc: -1<=c∧c<=63)(f:0<=d∧d<=127):Ok (fr c m d) (fun r=> -256<=r∧r<=16400):=by
 unfold fr
 rw [w64 (n:=d*2) za za,w64 (n:=d*2+1) za za]
 exact GY (fun _=>GR (GZ za) (fun _ _=>dig17 hc za)) (fun _=>dig17 hc za)
theorem dig23{c m d:Int}(hc: -1<=c∧c<=63)(f:0<=d∧d<=63):Ok (fu c m d) (fun r=> -256<=r∧r<=16400):=by
 unfold fu
 rw [w64 (n:=d*2) za za,w64 (n:=d*2+1) za za]
 exact GY (fun _=>GR (GZ za) (fun _ _=>dig20 hc za)) (fun _=>dig20 hc za)
theorem dig26{c m d:Int}(hc: -1<=c∧c<=63)(f:0<=d∧d<=31):Ok (fw c m d) (fun r=> -256<=r∧r<=16400):=by
 unfold fw
 rw [w64 (n:=d*2) za za,w64 (n:=d*2+1) za za]
 exact GY (fun _=>GR (GZ za) (fun _ _=>dig23 hc za)) (fun _=>dig23 hc za)
theorem dig29{c m d:Int}(hc: -1<=c∧c<=63)(f:0<=d∧d<=15):Ok (fx c m d) (fun r=> -256<=r∧r<=16400):=by
 unfold fx
 rw [w64 (n:=d*2) za za,w64 (n:=d*2+1) za za]
 exact GY (fun _=>GR (GZ za) (fun _ _=>dig26 hc za)) (fun _=>dig26 hc za)
theorem dig32{c m d:Int}(hc: -1<=c∧c<=63)(f:0<=d∧d<=7):Ok (fy c m d) (fun r=> -256<=r∧r<=16400):=by
 unfold fy
 rw [w64 (n:=d*2) za za,w64 (n:=d*2+1) za za]
 exact GY (fun _=>GR (GZ za) (fun _ _=>dig29 hc za)) (fun _=>dig29 hc za)
theorem dig35{c m d:Int}(hc: -1<=c∧c<=63)(f:0<=d∧d<=3):Ok (fA c m d) (fun r=> -256<=r∧r<=16400):=by
 unfold fA
 rw [w64 (n:=d*2) za za,w64 (n:=d*2+1) za za]
 exact GY (fun _=>GR (GZ za) (fun _ _=>dig32 hc za)) (fun _=>dig32 hc za)
theorem dig38{c m d:Int}(hc: -1<=c∧c<=63)(f:0<=d∧d<=1):Ok (fB c m d) (fun r=> -256<=r∧r<=16400):=by
 unfold fB
 rw [w64 (n:=d*2) za za,w64 (n:=d*2+1) za za]
 exact GY (fun _=>GR (GZ za) (fun _ _=>dig35 hc za)) (fun _=>dig35 hc za)
theorem digits_ok{c m:Int}(hc: -1<=c∧c<=63):Ok (gi c m) (fun r=> -256<=r∧r<=16400):=by
 unfold gi
 exact GY (fun _=>GR (GZ za) (fun _ _=>dig38 hc za)) (fun _=>dig38 hc za)
theorem log_ok(n:Int):Ok (jJ n) (fun r=> -256<=r.1∧r.1<=16400):=by
 unfold jJ
 refine GY (fun _=>G1 ⟨zc,zc⟩) (fun _=>?_)
 refine GR (bits_ok (u64_range n)) (fun L g=>?_)
 rw [w64 (n:=L-1) za za]
 refine GY (fun h=>?_) (fun h=>?_)
 ·rw [w64 za za]
  have e:yn .i64 n (30-(L-1))=some (shlI .i64 n (30-(L-1))):=by unfold yn;rw [if_neg za]
  rw [e,ze]
  exact GR (digits_ok za) (fun r f=>G1 f)
 ·rw [w64 za za]
  have e:shrO .i64 n (L-1-30)=some (sc .i64 n (L-1-30)):=by unfold shrO;rw [if_neg za]
  rw [e,ze]
  exact GR (digits_ok za) (fun r f=>G1 f)
theorem logNat_ok{l:List Int}(hl:l.length<=64):Ok (iI l) (fun r=> -1000<=r.1∧r.1<=600000):=by
 unfold iI
 refine GR (mW l za) (fun v _=>G8 (fun _=>G1 ⟨zc,zc⟩) (fun _=>?_))
 rw [w64 (n:=(l.length:Int)-1) za za]
 refine GY (fun _=>G1 ⟨zc,zc⟩) (fun g=>G5 (fun h1=>?_) (fun h1=>?_))
 ·refine GR (GU za za) (fun a _=>GR (log_ok a) (fun r f=>G1 ⟨zd,zd⟩))
 ·rw [w64 (n:=(l.length:Int)-1-1) za za,w64 (n:=7680*((l.length:Int)-1-1)) za za]
  refine GR (GU za za) (fun a _=>GR (GU za za) (fun b _=>GR (log_ok _) (fun r f=>?_)))
  rw [w64 za za]
  exact G1 ⟨zd,zd⟩
theorem ground_ok{s:bO}{r:bu}(h:oL r)(a:Int):Ok (kV s r a) (fun x=> -700000<=x.1∧x.1<=700000):=by
 unfold kV
 refine GR (Gain_ok h _ _) (fun g f=>G2 (fun _=>G1 ⟨zc,zc⟩) (fun _=>?_))
 refine GR (logNat_ok f.1) (fun x j=>G2 (fun _=>G1 ⟨zc,zc⟩) (fun _=>?_))
 refine GR (logNat_ok f.2) (fun y k=>G2 (fun _=>G1 ⟨zc,zc⟩) (fun _=>?_))
 refine GR (log_ok a) (fun z q=>?_)
 rw [w64 (n:=2*z.1) za za,w64 (n:=2*z.1+y.1) za za,w64 za za]
 exact G1 ⟨zd,zd⟩
theorem floorL_at{l:Int}(h: -1000000<=l∧l<=1000000):jy l=some (l*30103 / 256000):=by
 unfold jy mT
 rw [if_pos so,ze]
 dsimp only
 rw [if_neg so,w64 (n:=l*30103) za za]
 have j: -30103000000<=l*30103∧l*30103<=30103000000:=by omega
 generalize l*30103=n at*
 have g:tu .i64 n 256000=some (FN .i64 (n.tdiv 256000)):=by unfold tu;rw [if_neg za]
 have e2:wQ n 256000=some (n.tmod 256000):=by unfold wQ;rw [if_neg za]
 rw [g,e2,ze,ze]
 rcases Fc 0 n with f|f
 ·rw [Fu f,Fx f,if_neg so,w64 za za]
 ·obtain⟨m,rfl⟩:∃m,n= -m:=⟨-n,za⟩
  rw [Int.neg_tdiv,Fs,Fu za,Fx za,w64 (n:= -(m / 256000)) za za,w64 za za]
  by_cases hm:m%256000=0
  ·rw [if_neg so];congr 1;omega
  ·rw [if_pos so];congr 1;omega
theorem ceilL_at{l:Int}(h: -1000000<=l∧l<=1000000):mw l=some (-(-l*30103 / 256000)):=by
 unfold mw
 rw [w64 (n:=0-l) za za,floorL_at za,ze,w64 za za]
 congr 1
 rw [show 0-l= -l by omega];omega
theorem half_at'{n:Int}:kr n=some (n / 2):=by
 unfold kr
 show some (n.fdiv (2 ^ (min (1:Int).toNat 64)))=_
 rw [Fa _ (by decide)]
 rfl
theorem scale_valid{s:ah}(h:gB s):dG s.bQ=some true:=by
 have h1:=h.num;have f:=h.den
 refine GS ?_
 unfold dG
 rw [jc h.cor,ze,if_pos zc]
 exact GY (fun _=>GY (fun _=>GY (fun _=>G1 so) (fun _=>za)) (fun _=>za)) (fun _=>za)
theorem station_ok{s:ah}(hs:gB s){r:bu}(k:oL r)(a:Int){n f:Int}(j:0<=n)(g:n<=f)(hf:f<=65535):Ok (hC s.bQ r a n f) (fun x=>x.2=0->x.1.bt<=x.1.bd):=by
 unfold hC
 rw [scale_valid hs,ze,if_neg zc]
 refine GY (fun _=>G1 zc) (fun _=>GY (fun _=>G1 zc) (fun _=>?_))
 refine GR (ground_ok k a) (fun x u=>G2 (fun h=>G1 zc) (fun _=>?_))
 refine GR (oQ hs.cor n f j g hf) (fun y q=>G2 (fun h=>G1 zc) (fun h=>?_))
 obtain⟨B,C,D⟩:=q.2 h
 rw [w64 (n:=x.1-2) za za,w64 (n:=0-x.1) za za,w64 (n:=0-x.1-6) za za]
 rw [half_at',ze,floorL_at za,ze,half_at',ze,w64 (n:=0-(0-x.1-6) / 2) za za,ceilL_at za,ze]
 refine G1 fun _=>?_
 simp only
 rw [w64 za za,w64 za za]
 omega
end Go.Dw.Re
set_option maxRecDepth 100000
set_option maxHeartbeats 4000000
namespace Go.Dw.Re
open Go.Dw Go.Proofs
theorem or_some(l:List Int)(hl:l.length<1000):∃r,dC l=some r:=by
 unfold dC
 have:=Sd.or_go (l:=l) (n:=0) (r:=l) hl za zc
 rw [show((0:Int))=((0:Nat):Int)from rfl,this]
 cases l.find? fun x=>decide (x≠0)<;>exact⟨_,rfl⟩
structure PV(q:ak):Prop where
 box:gM q.bn
 reg:fN 20 q.bn.bt
 tab:pq q.bJ
 len:1<=q.bK.length∧q.bK.length<=64
 cap:1<=q.dw∧q.dw<=1000
 ph:∀a∈q.bK,PhV a∧Reach q.bJ (oq q.bn a.bw)
theorem sub_zone{q:ak}(g:PV q){b:al}(h:Sub q.bn b){a:aw}(j:a∈q.bK):Ok (eD q.bJ b a) (fun r=>r.2=0∧fK r.1):=by
 obtain⟨u,k⟩:=g.ph a j
 refine(qo g.tab (h.ok g.box g.reg) u).mono fun r f=>?_
 have:r.2=0:=f.1.2 (Fe (far_mono h _) k)
 exact⟨this,f.2 this⟩
theorem oi{q:ak}(f:PV q):jz q=some 0:=by
 have hl:=f.len;have hc:=f.cap
 refine GS ?_
 unfold jz
 rw [eJ f.box,ze,if_neg zc,jc f.tab,ze,if_neg zc]
 refine G5 (fun h=>za) (fun _=>GY (fun h=>za) (fun _=>GY (fun h=>za) (fun _=>GY (fun h=>za) (fun _=>?_))))
 refine GR (P:=fun o=>o= .inl ()) (G7 q.bK.length za (fun _=>True) trivial (fun i r h1 _=>?_)) (fun o ho=>by subst ho;exact G1 rfl)
 unfold lc
 refine GY (fun j=>?_) (fun _=>G4 rfl)
 refine GR (GU za za) (fun a g=>?_)
 refine GR (sub_zone f (Sub.refl f.box) g.1) (fun z k=>?_)
 refine G2 (fun h=>(h k.1).elim) (fun _=>?_)
 rw [w64 za za]
 exact GX ⟨⟨za,za⟩,trivial⟩ za
theorem zones_ok{q:ak}(f:PV q){b:al}(h:Sub q.bn b):Ok (ia q b) (fun r=>r.2=0∧r.1.length=q.bK.length∧∀z∈r.1,fK z):=by
 have hl:=f.len
 unfold ia
 rw [oi f,ze,if_neg zc,within_at f.box f.reg h,ze,if_neg zc]
 refine GR ?_ (fun r C=>G1 C)
 unfold nH
 refine GR (Ok.mkC za za za za) (fun x D=>?_)
 subst D
 refine GR (P:=fun o=>∃l,o= .inl l∧l.length=q.bK.length∧∀z∈l,fK z) (GV (fun s:Int×List bz=>(0<=s.1∧s.1<=q.bK.length)∧s.2.length=s.1.toNat∧∀z∈s.2,fK z) (fun s=>((q.bK.length:Int)-s.1).toNat) ?_ ⟨⟨zc,zc⟩,zc,zc⟩) (fun o⟨l,ho,h1,k⟩=>by subst ho;exact G1 ⟨rfl,h1,k⟩)
 rintro⟨s2,F⟩ ⟨⟨i0,i1⟩,i2,i3⟩
 simp only at i0 i1 i2 i3
 unfold kY
 refine GY (fun B=>?_) (fun _=>G4 ⟨F,rfl,za,i3⟩)
 refine GR (GU za za) (fun a u=>?_)
 refine GR (sub_zone f h u.1) (fun z j=>?_)
 refine G2 (fun h=>(h j.1).elim) (fun _=>?_)
 refine GR (GQ (by simp only [DW,DX];omega)) (fun y E=>?_)
 subst E
 rw [w64 za za]
 refine GX ⟨⟨zd,zd⟩,by simp only [ET,DW,DX];omega,fun G g=>?_⟩ zd
 rcases List.mem_append.1 g with h|h
 ·exact i3 G h
 ·rw [List.mem_singleton.1 h];exact j.2
theorem cost_ok{q:ak}(g:PV q)(l:List bz)(t:Int):Ok (kw q l t) (fun r=>(∀z∈l,fK z∧z.b7<=t∧t<=z.fTo)->r=0):=by
 have hl:=g.len;have hc:=g.cap
 unfold kw
 refine GR (P:=fun o=>(∀z∈l,fK z∧z.b7<=t∧t<=z.fTo)->o=0) (GV (fun s:Int×Int=>(0<=s.2∧s.2<=q.bK.length)∧((∀z∈l,fK z∧z.b7<=t∧t<=z.fTo)->s.1=0)) (fun s=>((q.bK.length:Int)-s.2).toNat) ?_ ⟨⟨zc,zc⟩,fun _=>rfl⟩) (fun o ho=>G1 ho)
 rintro⟨s1,s2⟩ ⟨⟨i0,i1⟩,i2⟩
 simp only at i0 i1 i2
 unfold lI
 refine GY (fun j=>?_) (fun _=>G4 i2)
 refine GR (GU za za) (fun a B=>?_)
 refine GY (fun k=>?_) (fun _=>?_)
 ·refine GR (GU za za) (fun z u=>?_)
  unfold gK
  rw [ze,w64 (n:=s2+1) za za]
  refine GX ⟨⟨zd,zd⟩,fun f=>?_⟩ zd
  obtain⟨⟨C,z2,z3⟩,z4,z5⟩:=f z u.1
  have i2:=i2 f
  simp only
  rw [w64 (n:=t-z.fTo) za za,w64 (n:=z.b7-t) za za]
  have e:(if(0:Int)>(if t-z.fTo>z.b7-t then t-z.fTo else z.b7-t)then(0:Int)else(if t-z.fTo>z.b7-t then t-z.fTo else z.b7-t))=0:=by
   split<;>split<;>omega
  rw [e,if_pos za,i2]
  simp [w64]
 ·rw [w64 za za]
  exact GX ⟨⟨zd,zd⟩,i2⟩ zd
theorem best_ok{q:ak}(H:PV q){l:List bz}(hl:1<=l.length∧l.length<=64):Ok (ku q l) (fun r=>(∃z,l=[z]∧fK z)->r.2=0):=by
 have hzero:∀t,(∃z∈l,t=z.b7∨t=z.fTo)->(∃z,l=[z]∧fK z)->∀z∈l,fK z∧z.b7<=t∧t<=z.fTo:=by
  rintro t ⟨y,j,I⟩ ⟨z,rfl,f⟩ x g
  rw [Ey]at g j
  subst g j
  obtain⟨L,z2,z3⟩:=f
  exact⟨⟨L,z2,z3⟩,za,za⟩
 unfold ku
 rw [w64 (n:=2*(l.length:Int)) za za]
 refine GR (Ok.mkC za za za za) (fun x g=>?_)
 subst g
 refine GR (P:=fun o:List Int=>o.length=2*l.length∧∀t∈o,∃z∈l,t=z.b7∨t=z.fTo) (GV (fun s:Int×List Int=>(0<=s.1∧s.1<=l.length)∧s.2.length=2*s.1.toNat∧∀t∈s.2,∃z∈l,t=z.b7∨t=z.fTo) (fun s=>((l.length:Int)-s.1).toNat) ?_ ⟨⟨zc,zc⟩,zc,zc⟩) (fun o ho=>?_)
 ·rintro⟨s2,D⟩ ⟨⟨i0,i1⟩,i2,i3⟩
  simp only at i0 i1 i2 i3
  unfold my
  refine GY (fun C=>?_) (fun _=>G4 ⟨za,i3⟩)
  refine GR (GU za za) (fun z f=>?_)
  refine GR (GQ (by simp only [DW,DX];omega)) (fun y j=>?_)
  subst j
  rw [w64 za za]
  refine GX ⟨⟨zd,zd⟩,by simp only [ET,DW,DX];omega,fun t I=>?_⟩ zd
  rcases List.mem_append.1 I with h|h
  ·exact i3 t h
  ·simp only [FO,List.not_mem_nil,or_false]at h
   exact⟨z,f.1,h⟩
 ·obtain⟨h1,G⟩:=ho
  refine G5 (fun h=>za) (fun _=>?_)
  refine GR (G6 za za) (fun _ _=>GR (GU za za) (fun K g14=>?_))
  refine GR (G6 za za) (fun _ _=>GR (GU za za) (fun E g17=>?_))
  refine GR (cost_ok H l E) (fun c hc=>?_)
  refine GR (Ok.sub za za za) (fun _ _=>?_)
  refine GR (Ok.lenv za za) (fun n N=>?_)
  refine GR (P:=fun o=>(∃z,l=[z]∧fK z)->o.2=0) (GV (fun s:Int×Int×Int=>(0<=s.2.2∧s.2.2<=n)∧((∃z,l=[z]∧fK z)->s.2.1=0)) (fun s=>(n-s.2.2).toNat) ?_ ⟨⟨zc,zd⟩,fun h=>hc (hzero _ (G _ g17.1) h)⟩) (fun o ho=>G1 ho)
  rintro⟨s1,s2,D⟩ ⟨⟨i0,i1⟩,i2⟩
  simp only at i0 i1 i2
  unfold lH
  refine GY (fun C=>?_) (fun _=>G4 i2)
  refine GR (Ok.inv za za za) (fun _ _=>?_)
  refine GR (GU za za) (fun F k=>?_)
  refine GR (cost_ok H l F) (fun J B=>?_)
  rw [w64 za za]
  have f:(∃z,l=[z]∧fK z)->J=0:=fun h=>B (hzero _ (G _ k.1) h)
  have A:∀(u v:Int),((∃z,l=[z]∧fK z)->v=0)->Ok (some (.next (u,v,D+1)):Option (il (Int×Int×Int) (Int×Int))) (GP (fun s:Int×Int×Int=>(0<=s.2.2∧s.2.2<=n)∧((∃z,l=[z]∧fK z)->s.2.1=0)) (fun s=>(n-s.2.2).toNat) (fun o=>(∃z,l=[z]∧fK z)->o.2=0) (s1,s2,D)):=fun u v h=>GX ⟨⟨zd,zd⟩,h⟩ zd
  exact GY (fun _=>A _ _ f) (fun _=>G5 (fun _=>GY (fun _=>A _ _ f) (fun _=>A _ _ i2)) (fun _=>A _ _ i2))
def Single(q:ak):Prop:=q.bK.length=1
theorem single_zone{q:ak}(h:Single q){l:List bz}(hl:l.length=q.bK.length)(f:∀z∈l,fK z):∃z,l=[z]∧fK z:=by
 rw [h]at hl
 match l,hl with
 | [z],_=>exact⟨z,rfl,f z zc⟩
theorem bound_ok{q:ak}(f:PV q){b:al}(h:Sub q.bn b):Ok (fT q b) (fun r=>r.2=0):=by
 unfold fT
 refine GR (zones_ok f h) (fun r g=>?_)
 refine G2 (fun h=>(h g.1).elim) (fun _=>?_)
 exact GR (best_ok f (by rw [g.2.1];exact f.len)) (fun _ _=>G1 rfl)
theorem at_ok{q:ak}(g:PV q){p:ag}(h:Sub q.bn ⟨p,p⟩):Ok (jK q p) (fun r=>r.2.2=0∧(Single q->r.2.1=0)):=by
 unfold jK
 refine GR (zones_ok g h) (fun r f=>?_)
 refine G2 (fun h=>(h f.1).elim) (fun _=>?_)
 exact GR (best_ok g (by rw [f.2.1];exact g.len)) (fun s hs=>G1 ⟨rfl,fun h1=>hs (single_zone h1 f.2.1 f.2.2)⟩)
theorem compare_ok(a b:ag):Ok (fd a b) (fun _=>True):=by
 unfold fd
 rw [Sd.lD,ze,Sd.lD,ze,Sd.lD,ze]
 obtain⟨r,e⟩:=or_some [sZ a.fX b.fX,sZ a.fY b.fY,sZ a.fZ b.fZ] zc
 rw [e]
 exact G1 trivial
end Go.Dw.Re
set_option maxRecDepth 100000
set_option maxHeartbeats 4000000
namespace Go.Dw.Re
open Go.Dw Go.Proofs
abbrev Est:=bo
theorem sort_okI{d:List Int}(f:d.length<=19):Ok (tR d) (fun r=>r.length=d.length):=by
 obtain⟨r,e,hp, -⟩:=AZ (l:=d) za
 exact⟨r,e,hp.length_eq⟩
theorem half_len{l:List Int}(k:1<=l.length)(h1:l.length<=19):Ok ((tu .i64 (FN .i64 ((l.length:Int)-(1:Int))) (2:Int)).bind fun f=>(inO l f).bind fun _=>(nZ l f).bind fun g=>some g) (fun _=>True):=by
 rw [w64 za za]
 refine GR (GZ za) (fun q j=>?_)
 rw [Fu za,w64 za za]at j
 exact GR (G6 za za) (fun _ _=>GR (GU za za) (fun _ _=>G1 trivial))
theorem med2_ok{l:List Est}(j:1<=l.length)(h1:l.length<=19):Ok (gy l) (fun _=>True):=by
 unfold gy
 refine GR (P:=fun o:List Int=>o.length=l.length) (GV (fun s:Int×List Int=>(0<=s.1∧s.1<=l.length)∧s.2.length=s.1.toNat) (fun s=>((l.length:Int)-s.1).toNat) ?_ ⟨⟨zc,zc⟩,rfl⟩) (fun o ho=>?_)
 ·rintro⟨s1,s2⟩ ⟨⟨i0,i1⟩,i2⟩
  simp only at i0 i1 i2
  unfold im jp
  refine GY (fun f=>?_) (fun _=>G4 za)
  refine GR (GU za za) (fun x _=>?_)
  rw [ze]
  refine GR (GQ (by simp only [DW,DX];omega)) (fun y g=>?_)
  subst g
  rw [w64 za za]
  exact GX ⟨⟨zd,zd⟩,by simp only [ET,DW,DX];omega⟩ zd
 ·exact GR (sort_okI za) (fun r k=>half_len za za)
theorem med3_ok{l:List Est}(j:1<=l.length)(h1:l.length<=19):Ok (gz l) (fun _=>True):=by
 unfold gz
 refine GR (P:=fun o:List Int=>o.length=l.length) (GV (fun s:Int×List Int=>(0<=s.1∧s.1<=l.length)∧s.2.length=s.1.toNat) (fun s=>((l.length:Int)-s.1).toNat) ?_ ⟨⟨zc,zc⟩,rfl⟩) (fun o ho=>?_)
 ·rintro⟨s1,s2⟩ ⟨⟨i0,i1⟩,i2⟩
  simp only at i0 i1 i2
  unfold io jq
  refine GY (fun f=>?_) (fun _=>G4 za)
  refine GR (GU za za) (fun x _=>?_)
  rw [ze]
  refine GR (GQ (by simp only [DW,DX];omega)) (fun y g=>?_)
  subst g
  rw [w64 za za]
  exact GX ⟨⟨zd,zd⟩,by simp only [ET,DW,DX];omega⟩ zd
 ·exact GR (sort_okI za) (fun r k=>half_len za za)
theorem network_ok{l:List Est}(f:1<=l.length)(h1:l.length<=19)(hl:∀x∈l,x.bt<=x.bd):Ok (gZ l) (fun r=>r.2=0):=by
 unfold gZ
 refine G5 (fun h=>za) (fun _=>?_)
 have e:dt l=some false:=by
  unfold dt fg
  rw [fJ l.length (fun i hi=>?_) ?_]
  ·rfl
  ·unfold du
   rw [if_neg zc]
  ·unfold du jo
   have:=hl _ (Dp hi)
   rw [if_pos so,pI rfl hi,ze,ze,if_neg so,w64 za za]
   simp
 rw [e,ze,if_neg zc]
 exact GR (med2_ok f h1) (fun a _=>GR (med3_ok f h1) (fun b _=>G1 rfl))
structure MatV(m:bD):Prop where
 len:m.fj.length=m.gE.length∧m.kb.length=m.gE.length
 few:m.gE.length<=19
 pos:∀a∈m.fj,fN 60 a.bw
 resp:∀e∈m.kb,oL e.bV
theorem estimates_ok{s:ah}(hs:gB s){m:bD}(hm:MatV m){b:al}(g:gM b):Ok (dH m s b) (fun r=>r.length<=19∧∀x∈r,x.bt<=x.bd):=by
 obtain⟨⟨G,H⟩,I,hp,j⟩:=hm
 unfold dH
 refine GR (P:=fun r:List Est=>r.length<=19∧∀x∈r,x.bt<=x.bd) (GV (fun u:Int×List Est=>(0<=u.1∧u.1<=m.fj.length)∧u.2.length<=u.1.toNat∧∀x∈u.2,x.bt<=x.bd) (fun u=>((m.fj.length:Int)-u.1).toNat) ?_ ⟨⟨zc,zc⟩,zc,zc⟩) (fun r j=>G1 j)
 rintro⟨s1,s2⟩ ⟨⟨i0,i1⟩,i2,i3⟩
 simp only at i0 i1 i2 i3
 unfold dM
 refine GY (fun q=>?_) (fun _=>G4 ⟨za,i3⟩)
 refine GR (GU za za) (fun J g6=>GR (GU za za) (fun K g7=>GR (GU za za) (fun F g8=>?_)))
 obtain⟨k,E,n1⟩:=qQ g (hp _ g6.1)
 obtain⟨e2,f0,f1⟩:=Far_at g (hp _ g6.1)
 rw [k,ze,e2,ze,w64 za za]
 refine GR (station_ok hs (j _ g7.1) F.bG E (pT g _) za) (fun y C=>?_)
 refine G5 (fun h=>?_) (fun _=>GX ⟨⟨zd,zd⟩,zd,i3⟩ zd)
 refine GR (GQ (by simp only [DW,DX];omega)) (fun z D=>?_)
 subst D
 refine GX ⟨⟨zd,zd⟩,by simp only [ET,DW,DX];omega,fun x B=>?_⟩ zd
 rcases List.mem_append.1 B with f|f
 ·exact i3 x f
 ·rw [List.mem_singleton.1 f];exact C h
theorem estimates_eq{m:bD}{e:List az}(h:e.map (·.bV)=m.kb.map (·.bV))(s:ah)(b:al):dH ⟨m.gE,m.fj,e⟩ s b=dH m s b:=by
 unfold dH
 have:dM ⟨m.gE,m.fj,e⟩ b s=dM m b s:=by
  funext u
  unfold dM
  have hl:e.length=m.kb.length:=by simpa using congrArg GG h
  have hk:∀{β:Type}(n:Int)(k:bu->Option β),((nZ e n).bind fun x=>k x.bV)=((nZ m.kb n).bind fun x=>k x.bV):=fun n k=>by
   unfold nZ
   split
   ·have:=congrArg (fun l=>l[n.toNat]?) h
    simp only [ED]at this
    cases h1:e[n.toNat]? <;>cases B:m.kb[n.toNat]? <;>rw [h1,B]at this<;>simp at this
    all_goals first|rfl|simp only [ze,this]
   ·rfl
  refine ite_congr rfl (fun _=>congrArg _ (funext fun r=>?_)) (fun _=>rfl)
  exact hk u.1 fun q=>(nZ m.gE u.1).bind fun C=>(f8 b r.bw).bind fun D=>(ji b r.bw).bind fun g=>(hC s.bQ q C.bG D g).bind fun f=>if(f.2==(0:Int))=true then((rE u.2 [f.1] 16).bind fun j=>(some (.next ((FN .i64 (u.1+(1:Int))),j)):Option (il (Int×List Est) (List Est))))else(some (.next ((FN .i64 (u.1+(1:Int))),u.2)))
 rw [this]
end Go.Dw.Re
set_option maxRecDepth 100000
set_option maxHeartbeats 4000000
namespace Go.Dw.Re
open Go.Dw Go.Proofs
section
variable {α:Type}
def qF(lt:α->α->Bool)(x:α):List α->List α
 | []=>[x]
 |y::r=>if lt x y=true then y::qF lt x r else x::y::r
def sortF(lt:α->α->Bool)(R l:List α):List α:=l.foldl (fun a x=>qF lt x a) R
def dj(lt:α->α->Bool)(l:List α):List α:=(sortF lt [] l).reverse
theorem nN(lt:α->α->Bool)(x:α):∀R,(qF lt x R).Perm (x::R)
 | []=>List.Perm.refl _
 |y::r=>by
  unfold qF
  split
  ·exact((nN lt x r).cons y).trans (List.Perm.swap x y r)
  ·exact List.Perm.refl _
theorem sortF_perm(lt:α->α->Bool):∀l R,(sortF lt R l).Perm (l++R)
 | [],_=>List.Perm.refl _
 |x::l,R=>(sortF_perm lt l (qF lt x R)).trans (((nN lt x R).append_left l).trans List.perm_middle)
theorem cS(lt:α->α->Bool)(l:List α):(dj lt l).Perm l:=(List.reverse_perm _).trans (by simpa using sortF_perm lt l [])
theorem eI(lt:α->α->Bool)(l:List α):(dj lt l).length=l.length:=(cS lt l).length_eq
def Lex(c:α->α->Int)(o:α->α->Prop)(a b:α):Prop:=c a b<0∨(c a b=0∧o a b)
theorem insR_lex{c:α->α->Int}(hc:Tot c){o:α->α->Prop}{x:α}:∀{R:List α},R.Pairwise (fun a b=>Lex c o b a)->(∀y∈R,o y x)->(qF (fun x y=>decide (c x y<0)) x R).Pairwise (fun a b=>Lex c o b a)
 | [],_,_=>by simp [qF]
 |y::r,h,u=>by
  obtain⟨h1,B⟩:=List.pairwise_cons.1 h
  unfold qF
  split
  ·rename_i g
   refine List.pairwise_cons.2 ⟨fun z f=>?_,insR_lex hc B fun y C=>u y (GH _ C)⟩
   rcases List.mem_cons.1 ((nN _ x r).mem_iff.1 f)with rfl|f
   ·exact .inl (by simpa using g)
   ·exact h1 z f
  ·rename_i g
   have j:c y x<=0:=by
    have:=hc.vg x y
    simp only [decide_eq_true_eq]at g;omega
   refine List.pairwise_cons.2 ⟨fun z f=>?_,h⟩
   have q:c z y<=0:=by
    rcases List.mem_cons.1 f with rfl|f
    ·have:=hc.refl z;omega
    ·rcases h1 z f with h|h<;>omega
   have k:=hc.tr z y x q j
   rcases Int.lt_or_eq_of_le k with h|h
   ·exact .inl h
   ·exact .inr ⟨h,u z f⟩
theorem sortF_lex{c:α->α->Int}(hc:Tot c){o:α->α->Prop}:∀{l R:List α},R.Pairwise (fun a b=>Lex c o b a)->(∀y∈R,∀x∈l,o y x)->l.Pairwise o->(sortF (fun x y=>decide (c x y<0)) R l).Pairwise (fun a b=>Lex c o b a)
 | [],_,h,_,_=>h
 |x::l,R,h,g,hl=>by
  obtain⟨k,q⟩:=List.pairwise_cons.1 hl
  refine sortF_lex hc (l:=l) (R:=qF _ x R) (insR_lex hc h fun y f=>g y f x zc) (fun y f z j=>?_) q
  rcases List.mem_cons.1 ((nN _ x R).mem_iff.1 f)with rfl|f
  ·exact k z j
  ·exact g y f z (GH _ j)
theorem sortI_lex{c:α->α->Int}(hc:Tot c){o:α->α->Prop}{l:List α}(hl:l.Pairwise o):(dj (fun x y=>decide (c x y<0)) l).Pairwise (Lex c o):=by
 unfold dj
 rw [List.pairwise_reverse]
 exact sortF_lex hc .nil (fun y f=>by cases f) hl
theorem sortI_le{c:α->α->Int}(hc:Tot c)(l:List α):(dj (fun x y=>decide (c x y<0)) l).Pairwise (fun a b=>c a b<=0):=by
 have:=sortI_lex hc (o:=fun _ _=>True) (l:=l) (List.pairwise_of_forall fun _ _=>trivial)
 exact this.imp fun h=>by rcases h with h|h<;>omega
theorem lA{c:α->α->Int}(hc:Tot c):∀{r s:List α},r.Pairwise (fun x y=>c x y<0)->s.Pairwise (fun x y=>c x y<0)->(∀x,x∈r↔x∈s)->r=s
 | [],[],_,_,_=>rfl
 | [],b::s,_,_,h=>by have:=(h b).2 zc;cases this
 |a::r,[],_,_,h=>by have:=(h a).1 zc;cases this
 |a::r,b::s,h1,u,h=>by
  obtain⟨a1,a2⟩:=List.pairwise_cons.1 h1
  obtain⟨k,q⟩:=List.pairwise_cons.1 u
  have e:a=b:=by
   rcases List.mem_cons.1 ((h a).1 zc)with f|f
   ·exact f
   ·rcases List.mem_cons.1 ((h b).2 zc)with j|j
    ·exact j.symm
    ·have:=a1 b j;have:=k a f;have:=hc.vg a b;omega
  subst e
  congr 1
  refine lA hc a2 q fun x=>⟨fun g=>?_,fun g=>?_⟩
  ·rcases List.mem_cons.1 ((h x).1 (GH _ g))with rfl|f
   ·have:=a1 x g;have:=hc.refl x;omega
   ·exact f
  ·rcases List.mem_cons.1 ((h x).2 (GH _ g))with rfl|f
   ·have:=k x g;have:=hc.refl x;omega
   ·exact f
end
noncomputable def insG31 {α β:Type} (br:α->α->Option β) (t:β->Bool) (a1 s1:Int):(Int×List α)->Option (il (Int×List α) (Int×List α)):=fun(f,g)=>
 if(decide (f>a1))=true then((inO g f).bind fun D=>(nZ g f).bind fun k=>(inO g (FN .i64 (f-(1:Int)))).bind fun E=>(nZ g (FN .i64 (f-(1:Int)))).bind fun q=>(br k q).bind fun r=>if t r=true then((inO g (FN .i64 (f-(1:Int)))).bind fun F=>(nZ g (FN .i64 (f-(1:Int)))).bind fun u=>(inO g f).bind fun G=>(nZ g f).bind fun B=>(inO g f).bind fun H=>(tF g f u).bind fun j=>(inO j (FN .i64 (f-(1:Int)))).bind fun I=>(tF j (FN .i64 (f-(1:Int))) B).bind fun C=>some (.next ((FN .i64 (f-(1:Int))),C)))else(some (.stop (s1,g))))else(some (.stop (s1,g)))
noncomputable def qC {α β:Type} (br:α->α->Option β) (t:β->Bool) (a2 a1:Int):(Int×List α)->Option (il (Int×List α) (List α)):=fun(s1,s2)=>
 if(decide (s1<a2))=true then((cI (insG31 br t a1 s1) (s1,s2)).bind fun f=>some (.next ((FN .i64 (f.1+(1:Int))),f.2)))else((some s2).bind fun z33=>some (.stop z33))
noncomputable def insG {α β:Type} (br:α->α->Option β) (t:β->Bool) (a1 a2:Int) (d0:List α):Option (List α):=
 (cI (qC br t a2 a1) ((FN .i64 (a1+(1:Int))),d0)).bind fun f=>some f
section
variable {α β:Type}{br:α->α->Option β}{t:β->Bool}{lt:α->α->Bool}{S:α->Prop}(hbr:∀x y,S x->S y->∃b,br x y=some b∧t b=lt x y)
include hbr
theorem insG_inner{s1:Int}{x:α}(q:S x):∀(R B:List α),(∀y∈R,S y)->R.length+B.length<=1000->cI (insG31 br t 0 s1) ((R.length:Int),R.reverse++x::B)=some (s1,(qF lt x R).reverse++B)
 | [],B,_,_=>qV (by unfold insG31;dsimp only;rw [if_neg zc];rfl)
 |y::R,B,k,hl=>by
  have r:(y::R).reverse++x::B=R.reverse++y::x::B:=by simp
  have e2:R.reverse++y::x::B=(R.reverse++[y])++x::B:=by simp
  have C:R.length+1+B.length<=1000:=by simpa using hl
  have hw:FN .i64 (((y::R).length:Int)-1)=(R.length:Int):=by rw [w64 zc so];simp
  have i1:inO (R.reverse++y::x::B) ((y::R).length:Int)=some ():=sa za so
  have i0:inO (R.reverse++y::x::B) (R.length:Int)=some ():=sa za so
  have g1:nZ (R.reverse++y::x::B) ((y::R).length:Int)=some x:=by rw [e2];exact get1 _ _ _ zc
  have g0:nZ (R.reverse++y::x::B) (R.length:Int)=some y:=get1 _ _ _ zc
  have j:tF (R.reverse++y::x::B) ((y::R).length:Int) y=some (R.reverse++y::y::B):=by
   rw [e2,set1 _ _ _ _ zc];simp
  have i2:inO (R.reverse++y::y::B) (R.length:Int)=some ():=sa za so
  have s0:tF (R.reverse++y::y::B) (R.length:Int) x=some (R.reverse++x::y::B):=set1 _ _ _ _ zc
  obtain⟨b,u,D⟩:=hbr x y q (k y zc)
  have f:insG31 br t 0 s1 (((y::R).length:Int),R.reverse++y::x::B)=if lt x y=true then some (.next ((R.length:Int),R.reverse++x::y::B))else some (.stop (s1,R.reverse++y::x::B)):=by
   unfold insG31
   dsimp only
   rw [if_pos zc,hw]
   simp only [i1,i0,g1,g0,u,j,i2,s0,ze,D]
  rw [r]
  unfold qF
  split
  ·rename_i g
   rw [if_pos g]at f
   rw [rN f,insG_inner q R (y::B) (fun z E=>k z (GH _ E)) so]
   simp
  ·rename_i g
   rw [if_neg g]at f
   rw [qV f]
   simp
theorem insG_outer:∀(l R:List α),(∀y∈R,S y)->(∀y∈l,S y)->R.length+l.length<=1000->∀n:Int,n=R.length+l.length->cI (qC br t n 0) ((R.length:Int),R.reverse++l)=some (sortF lt R l).reverse
 | [],R,_,_,_,n,g=>by
  rw [ER]
  exact qV (by unfold qC;dsimp only;rw [if_neg (by simp at g;simp [g])];rfl)
 |x::l,R,k,hl,hle,n,g=>by
  have hlen:(qF lt x R).length=R.length+1:=by rw [(nN lt x R).length_eq];rfl
  have q:R.length+(l.length+1)<=1000:=by simpa using hle
  have f:qC br t n 0 ((R.length:Int),R.reverse++x::l)=some (.next (((qF lt x R).length:Int),(qF lt x R).reverse++l)):=by
   unfold qC
   dsimp only
   rw [if_pos (by simp [g];omega),insG_inner hbr (hl x zc) R l k za,ze,w64 so so,hlen]
   simp
  rw [rN f]
  refine insG_outer l (qF lt x R) (fun y j=>?_) (fun y j=>hl y (GH _ j)) za n (by rw [hlen,g];simp;omega)
  rcases List.mem_cons.1 ((nN lt x R).mem_iff.1 j)with rfl|j
  ·exact hl _ zc
  ·exact k y j
theorem insG_at{l:List α}(hl:∀y∈l,S y)(g:l.length<=1000):insG br t 0 (l.length:Int) l=some (dj lt l):=by
 unfold insG
 rw [w64 za za]
 cases l with
 |nil=>rw [qV (o:=[]) (by unfold qC;dsimp only;rw [if_neg zc];rfl)];rfl
 |cons x l=>
  have h:=insG_outer hbr l [x] (by simpa using hl x zc) (fun y j=>hl y (GH _ j)) (by simp at g⊢;omega) ((x::l).length:Int) so
  have f:cI (qC br t ((x::l).length:Int) 0) (0+1,x::l)=some (sortF lt [x] l).reverse:=h
  rw [f];rfl
end
theorem pU:∀{r s:List Int},r.Perm s->r.Pairwise (· <= ·)->s.Pairwise (· <= ·)->r=s
 | [],s,h,_,_=>h.nil_eq
 |a::r,[],h,_,_=>h.eq_nil
 |a::r,b::s,h,h1,q=>by
  obtain⟨a1,a2⟩:=List.pairwise_cons.1 h1
  obtain⟨j,k⟩:=List.pairwise_cons.1 q
  have e:a=b:=by
   rcases List.mem_cons.1 (h.mem_iff.1 (GI (a:=a) (l:=r)))with f|f
   ·exact f
   ·rcases List.mem_cons.1 (h.mem_iff.2 (GI (a:=b) (l:=s)))with g|g
    ·exact g.symm
    ·have:=a1 b g;have:=j a f;omega
  subst e
  rw [pU ((List.perm_cons a).1 h) a2 k]
theorem sort_int{l:List Int}(f:l.length<=1000000):tR l=some (dj (fun x y=>decide (sZ x y<0)) l):=by
 obtain⟨r,e,hp,hs⟩:=AZ f
 rw [e,pU (hp.trans (cS _ l).symm) hs ((sortI_le tg l).imp fun{x y}h=>by unfold sZ at h;repeat' split at h<;>omega)]
end Go.Dw.Re
