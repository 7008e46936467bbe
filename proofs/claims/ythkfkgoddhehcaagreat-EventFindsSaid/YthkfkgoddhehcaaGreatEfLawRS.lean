
import Derived.Test.YthkfkgoddhehcaaGreatEfFn
import Derived.Test.YthkfkgoddhehcaaGreatDwPlain
import Derived.Test.YthkfkgoddhehcaaGreatDwOk
import Derived.KernelRfl
set_option linter.unusedVariables false
set_option linter.unusedSimpArgs false
open Int renaming add_zero->Gi, fdiv_eq_ediv_of_nonneg->Gj, le_ediv_iff_mul_le->Gk, le_of_lt->Gl, le_refl->Gm, le_total->Gn, lt_or_eq_of_le->Gp, mul_comm->Gq, mul_le_mul->Gr, mul_nonneg->Gs, mul_nonneg_of_nonpos_of_nonpos->Gt, natCast_add->Gu, natCast_mul->Gv, natCast_pow->Gw, neg_mul_neg->Gx, one_mul->Gy, pow_add->Gz, pow_succ->HA, tdiv_eq_ediv_of_nonneg->HC, tdiv_le_self->HD, tdiv_nonneg->HE, tmod_lt_of_pos->HG, toNat_natCast->Fe, zero_add->HH
open List renaming drop_eq_getElem_cons->HI, find?->HJ, find?_some->HK, getD_eq_getElem?_getD->Fx, getElem?_eq_none->HL, getElem?_set_ne->EX, getElem?_set_self->EY, getElem_mem->FB, getElem_of_mem->HN, length->HO, length_append->F0, length_cons->EZ, length_nil->E0, mem_append->GC, mem_cons_of_mem->HP, mem_cons_self->HQ, mem_of_find?_eq_some->HR, mem_singleton->GD, range->EH, replicate->EA, set_getElem_self->HS
open Bool renaming and_eq_true->E8, false_eq_true->FD, not_eq_true'->HT, not_true->HV, or_eq_true->HW, true_and->HX
open Go.Dw.Ok renaming app->HY, bind->HZ, eq->H0, get->H2, iteB->H3, iteND->H4, loop->H5, mod->H6, nx->H7, quo->H8, ret->H9, set->Ha, st->Hb, tA->Hc, upto->Hd, vg->He, w8->Hg
open Go.IntKind renaming wrap->GV, wrap_i64->Hh
open Nat renaming add_sub_cancel->Hj, eq_zero_or_pos->GY, le_refl->EB, mod_eq_of_lt->Hk, pow_le_pow_right->Hl, zero_le->EK
open Option renaming bind_fun_some->Hm
open Classical renaming byContradiction->Hn

set_option maxRecDepth 100000
set_option maxHeartbeats 4000000
namespace Go.Dw.Ef
namespace Sq
open Go.Dw
abbrev Src:=bn
theorem byteO_at{s:List UInt8}{n:Int}{i:Nat}(a:n=i)(hi:i<s.length):wb s n=some ((s[i].toNat:Nat):Int):=by
 subst a
 unfold wb
 rw [if_pos ⟨za,za⟩,Fe,Fx,ze hi];rfl
theorem cutO_at{α:Type}{l:List α}{a b:Int}{i j:Nat}(c:a=i)(f:b=j)(h1:i<=j)(g:j<=l.length):w6 l a b=some ((l.drop i).take (j-i)):=by
 subst c f
 unfold w6
 rw [if_pos ⟨za,za,za⟩,Fe,Fe]
theorem cu{α:Type}{l m:List α}{b:Nat}(h:(l.length+m.length)*b<=140737488355328):tE l m b=some (l++m):=by
 unfold tE
 rw [if_pos h]
theorem loop_list{α ω:Type}{body:Int->Option (pH Int ω)}(l:List α){p:α->Bool}{u r:ω}(h1:∀(i:Nat)(hi:i<l.length),body i=if p l[i]=true then some (.next ((i+1:Nat):Int))else some (.stop r))
  (c:body (l.length:Nat)=some (.stop u)):cI body (0:Int)=some (if l.all p=true then u else r):=by
 have:∀k i,i+k=l.length->cI body (i:Int)=some (if(l.drop i).all p=true then u else r):=by
  intro k
  induction k with
  |zero=>
   intro i hi
   obtain rfl:i=l.length:=by omega
   rw [dE c];simp
  |succ k f=>
   intro i hi
   have a:i<l.length:=by omega
   rw [HI a,List.all_cons]
   by_cases hp:p l[i]=true
   ·rw [tv (by rw [h1 i a,if_pos hp]),f (i+1) za,hp,HX]
   ·rw [dE (by rw [h1 i a,if_neg hp])];simp [hp]
 have:=this l.length 0 za
 simpa using this
def qh(c:UInt8):Bool:=(decide (65<=c.toNat)&&decide (c.toNat<=90))||(decide (48<=c.toNat)&&decide (c.toNat<=57))
theorem dec1(n:Nat):decide ((n:Int)>=65)=decide (65<=n):=decide_eq_decide.2 za
theorem dec2(n:Nat):decide ((n:Int)<=90)=decide (n<=90):=decide_eq_decide.2 za
theorem dec3(n:Nat):decide ((n:Int)>=48)=decide (48<=n):=decide_eq_decide.2 za
theorem dec4(n:Nat):decide ((n:Int)<=57)=decide (n<=57):=decide_eq_decide.2 za
theorem plain_eq(c:UInt8):oj ((c.toNat:Nat):Int)=some (qh c):=by
 unfold oj qh
 rw [dec1,dec2,dec3,dec4]
 cases decide (65<=c.toNat)<;>cases decide (c.toNat<=90)<;>cases decide (48<=c.toNat)<;>simp
def lD(s:List UInt8)(lo hi:Int):Bool:=s.all qh&&(decide ((s.length:Int)>=lo)&&decide ((s.length:Int)<=hi))
theorem code_l7{s:List UInt8}(hs:s.length<=9223372036854775807):cI (kZ s) (0:Int)=some (if s.all qh=true then .inl ()else .inr false):=by
 refine loop_list s (λi hi=>?_) ?_
 ·unfold kZ
  rw [if_pos so,byteO_at rfl hi,w64 za za]
  simp only [zd,plain_eq]
  cases qh s[i]<;>simp
 ·unfold kZ
  rw [if_neg zb]
theorem code_eq{s:List UInt8}(hs:s.length<=9223372036854775807)(lo hi:Int):kY s lo hi=some (lD s lo hi):=by
 unfold kY lD
 rw [code_l7 hs]
 cases s.all qh with
 |true=>cases decide ((s.length:Int)>=lo)<;>simp
 |false=>rfl
def pY(x:Src):Prop:=x.bI.length<=9223372036854775807∧x.bB.length<=9223372036854775807∧x.bg.length<=9223372036854775807∧x.bL.length<=9223372036854775807
def iT(x:Src):Bool:=lD x.bI 1 2&&(lD x.bB 1 5&&(lD x.bg 0 2&&(decide (x.bg.length≠1)&&lD x.bL 3 3)))
theorem qO{x:Src}(g:pY x):lB x=some (iT x):=by
 obtain⟨h1,a,c,f⟩:=g
 unfold lB iT
 simp only [code_eq h1,code_eq a,code_eq c,code_eq f,zd]
 have e:((x.bg.length:Int) != 1)=decide (x.bg.length≠1):=by
  by_cases h:x.bg.length=1
  ·simp [h]
  ·simp [h];omega
 rw [e]
 cases lD x.bI 1 2<;>cases lD x.bB 1 5<;>cases lD x.bg 0 2<;>cases decide (x.bg.length≠1)<;>simp
theorem rz{s:List UInt8}{lo:Int}{hi:Nat}(h:lD s lo hi=true):s.length<=hi:=by
 unfold lD at h
 simp only [E8,decide_eq_true_eq]at h
 omega
theorem valid_len{x:Src}(h:iT x=true):x.bI.length<=2∧x.bB.length<=5∧x.bg.length<=2∧x.bL.length<=3:=by
 unfold iT at h
 simp only [E8]at h
 exact⟨rz (hi:=2) h.1,rz (hi:=5) h.2.1,rz (hi:=2) h.2.2.1,rz (hi:=3) h.2.2.2.2⟩
end Sq
end Go.Dw.Ef
set_option maxRecDepth 100000
set_option maxHeartbeats 4000000
namespace Go.Dw.Ef
open Go.Dw
abbrev Src:=ah
abbrev Pick:=ac
abbrev Sid:=bn
theorem mod_ok(a b:Int)(f:1<=b)(h1:b<=1000000000):Ok (pK a b) (λr=>0<=r∧r<b):=by
 unfold pK
 have j:a.tmod b<b:=HG _ za
 have g: -b<a.tmod b:=by
  rcases Gn 0 a with h|h
  ·have:=Int.tmod_nonneg b h;omega
  ·have e:a.tmod b= -((-a).tmod b):=by rw [Int.neg_tmod];omega
   have:=HG (-a) (show 0<b by omega)
   omega
 refine Hc (λ_=>za) (λ_=>?_)
 refine HZ (Ok.rem za) (λx c=>?_)
 subst c
 refine Hc (λ_=>?_) (λ_=>?_)
 ·rw [w64 za za]
  exact H9 za
 ·exact H9 za
def cO(d:Src):Prop:=0<=d.fAt∧d.fAt<=d.fL.length∧d.fL.length<=2000
theorem raw_ok(d:Src)(f:cO d):Ok (sD d) (λr=>cO r.2):=by
 obtain⟨c,h1,a⟩:=f
 unfold sD
 refine Hc (λ_=>H9 ⟨c,h1,a⟩) (λh=>?_)
 rw [w64 (n:=d.fAt+1) za za,w64 za za]
 refine HZ (H2 za za) (λx _=>?_)
 refine H9 ⟨?_,?_,a⟩<;>simp only<;>omega
theorem eY(k:Int)(d:Src)(f:cO d)(c:1<=k)(h1:k<=1000000000):Ok (dS k d) (λr=>0<=r.1∧r.1<k∧cO r.2):=by
 unfold dS
 refine HZ (raw_ok d f) (λx g=>?_)
 refine HZ (mod_ok _ _ c h1) (λy a=>?_)
 exact H9 ⟨a.1,a.2,g⟩
theorem fB(l:List Int)(d:Src)(f:cO d)(c:l≠ [])(h1:l.length<=1000000):Ok (em l d) (λr=>r.1∈l∧cO r.2):=by
 unfold em
 have:=List.length_pos_iff.2 c
 refine HZ (eY _ d f za za) (λx a=>?_)
 refine HZ (H2 a.1 a.2.1) (λy g=>?_)
 exact H9 ⟨g.1,a.2.2⟩
def stas:List (List UInt8):=[[83,49],[83,50],[83,51],[83,52],[83,53],[83,54]]
def IsSid(a:Sid):Prop:=Sq.iT a=true
theorem stas_ok:∀x∈stas,Sq.iT ⟨[65,66],x,[48,48],[66,72,90]⟩=true:=by decide+kernel
theorem source_ok(n:Int):Ok (kf n) IsSid:=by
 unfold kf
 refine HZ (mod_ok n 6 za za) (λx a=>?_)
 refine HZ (H2 a.1 a.2) (λy c=>?_)
 exact H9 (stas_ok y c.1)
theorem new_ok(l:List Int):Ok (sZ l) cO:=by
 unfold sZ
 refine HZ (Ok.cut za (by split<;>omega) (by split<;>omega)) (λx a=>?_)
 subst a
 refine H9 ⟨zb,zb,?_⟩
 simp only [List.length_take,List.length_drop]
 split<;>omega
def pB(m:Int)(p:aa):Prop:=(-m<=p.fX∧p.fX<=m)∧(-m<=p.fY∧p.fY<=m)∧(-m<=p.fZ∧p.fZ<=m)
theorem qZ(m:Int)(g:0<=m)(h1:m<=1000)(d:Src)(a:cO d):Ok (om m d) (λr=>pB m r.1∧cO r.2):=by
 unfold om
 rw [w64 (n:=2*m) za za,w64 (n:=2*m+1) za za,w64 (n:=m+1) za za]
 refine HZ (eY _ _ a za za) (λc g1=>?_)
 refine HZ (eY _ _ g1.2.2 za za) (λf g2=>?_)
 refine HZ (eY _ _ g2.2.2 za za) (λj g3=>?_)
 rw [w64 (n:=c.1-m) za za,w64 (n:=f.1-m) za za]
 exact H9 ⟨⟨zc,zc,zc⟩,g3.2.2⟩
def BoxOk(b:ak):Prop:=pB 40 b.bo∧(0<=b.ba.fX-b.bo.fX∧b.ba.fX-b.bo.fX<=6)∧(0<=b.ba.fY-b.bo.fY∧b.ba.fY-b.bo.fY<=6)∧(0<=b.ba.fZ-b.bo.fZ∧b.ba.fZ-b.bo.fZ<=6)
theorem box_ok(m side:Int)(c:0<=m)(h1:m<=40)(l:0<=side)(p:side<=6)(d:Src)(f:cO d):Ok (Src_Box m side d) (λr=>BoxOk r.1∧cO r.2):=by
 unfold Src_Box
 rw [w64 (n:=side+1) za za]
 refine HZ (qZ m c za d f) (λa g0=>?_)
 refine HZ (eY _ _ g0.2 za za) (λg g1=>?_)
 refine HZ (eY _ _ g1.2.2 za za) (λj g2=>?_)
 refine HZ (eY _ _ g2.2.2 za za) (λk g3=>?_)
 obtain⟨⟨q,u,z⟩, -⟩:=g0
 rw [w64 (n:=a.1.fX+g.1) za za,w64 (n:=a.1.fY+j.1) za za,w64 (n:=a.1.fZ+k.1) za za]
 refine H9 ⟨⟨⟨zc,zc,zc⟩,zc,zc,zc⟩,g3.2.2⟩
structure TabOk(t:bc):Prop where
 step:t.b9=20∨t.b9=25∨t.b9=40∨t.b9=100
 len:1<=t.bo.length∧t.bo.length<=30
 same:t.ba.length=t.bo.length
 low:∀x∈t.bo,0<=x∧x<=3000
 high:∀x∈t.ba,0<=x∧x<=5000
theorem table_ok(d:Src)(z:cO d):Ok (pE d) (λr=>TabOk r.1∧cO r.2):=by
 unfold pE
 refine HZ (fB _ d z zb zb) (λf h1=>?_)
 obtain⟨a,h1⟩:=h1
 have a:f.1=20∨f.1=25∨f.1=40∨f.1=100:=by simpa using a
 refine HZ (eY _ _ h1 za za) (λQ u=>?_)
 have j:∃q,GV .i64 ((400:Int).tdiv f.1)=q∧4<=q∧q<=20:=by
  rcases a with e|e|e|e<;>rw [e]<;>exact⟨_,rfl,by decide,by decide⟩
 have hp:∃q,GV .i64 (f.1.tdiv 4)=q∧0<=q∧q<=25:=by
  rcases a with e|e|e|e<;>rw [e]<;>exact⟨_,rfl,by decide,by decide⟩
 obtain⟨q,j,H,I⟩:=j
 obtain⟨p,hp,F,G⟩:=hp
 refine HZ (P:=λo=>cO ⟨o.1,o.2.1⟩∧(1<=o.2.2.1.length∧o.2.2.1.length<=30)∧o.2.2.2.length=o.2.2.1.length∧(∀x∈o.2.2.1,0<=x∧x<=3000)∧(∀x∈o.2.2.2,0<=x∧x<=5000))
  (H5 (λs => (0 ≤ s.2.2.1 ∧ s.2.2.1 ≤ 23) ∧ s.2.2.2.2.2.1.length = s.2.2.1.toNat ∧ s.2.2.2.2.2.2.length = s.2.2.1.toNat ∧ (0 ≤ s.1 ∧ s.1 ≤ 60 * s.2.2.1) ∧ (0 ≤ s.2.1 ∧ s.2.1 ≤ 100 * s.2.2.1 + 2) ∧ cO ⟨s.2.2.2.1, s.2.2.2.2.1⟩ ∧ (∀ x ∈ s.2.2.2.2.2.1, 0 ≤ x ∧ x ≤ 3000) ∧ (∀ x ∈ s.2.2.2.2.2.2, 0 ≤ x ∧ x ≤ 5000))
   (λs=>(23-s.2.2.1).toNat) ?_ ⟨⟨zb,zb⟩,rfl,rfl,⟨zb,zb⟩,⟨zc,zc⟩,u.2.2,zb,zb⟩) ?_
 ·rintro⟨s3,J,C,K,L,N,O⟩ ⟨i0,i1,i2,i3,i4,i5,i6,i7⟩
  simp only at i0 i1 i2 i3 i4 i5 i6 i7
  unfold pw
  refine HZ (H8 za) (λD g1=>?_)
  rw [j]at g1;subst g1
  refine HZ (eY _ _ i5 za za) (λE g2=>?_)
  rw [w64 (n:=D+E.1) za za]
  refine Hc (λhle=>?_) (λB=>?_)
  ·refine HZ (HY (by simp only [EZ,E0];omega)) (λT g3=>?_)
   refine HZ (HY (by simp only [EZ,E0];omega)) (λW g4=>?_)
   refine HZ (fB _ _ g2.2.2 zb zb) (λg g5=>?_)
   refine HZ (H8 za) (λk g6=>?_)
   rw [hp]at g6;subst g6
   refine HZ (fB _ _ g5.2 zb zb) (λl g7=>?_)
   have a1:0<=g.1∧g.1<=35:=by have:=g5.1;simp at this;omega
   have a2:0<=l.1∧l.1<=30:=by have:=g7.1;simp at this;omega
   rw [w64 (n:=g.1+k) za za,w64 (n:=s3+(g.1+k)) za za,w64 (n:=C+1) za za,w64 (by split<;>omega) (by split<;>omega)]
   subst g3 g4
   refine H7 ⟨⟨zc,zc⟩,?_,?_,⟨zc,zc⟩,⟨by simp only;split<;>omega,by simp only;split<;>omega⟩,g7.2,?_,?_⟩ zc
   ·simp only [F0,EZ,E0];omega
   ·simp only [F0,EZ,E0];omega
   ·intro x c
    simp only [GC,GD]at c
    rcases c with c|rfl
    ·exact i6 x c
    ·omega
   ·intro x c
    simp only [GC,GD]at c
    rcases c with c|rfl
    ·exact i7 x c
    ·omega
  ·exact Hb ⟨g2.2.2,⟨zc,zc⟩,zc,i6,i7⟩
 ·intro o ho
  exact H9 ⟨⟨a,ho.2.1,ho.2.2.1,ho.2.2.2.1,ho.2.2.2.2⟩,ho.1⟩
theorem association_ok{k:Int}(hk:0<=k∧k<=6)(d:Src)(p:cO d):Ok (lY k d) (λr=>(BoxOk r.1.bt∧TabOk r.1.bP)∧cO r.2):=by
 unfold lY
 refine HZ (box_ok 20 k za za za za d p) (λq h1=>?_)
 refine HZ (table_ok _ h1.2) (λu a=>?_)
 refine HZ (fB _ _ a.2 zb zb) (λz c=>?_)
 refine HZ (fB _ _ c.2 zb zb) (λB f=>?_)
 refine HZ (fB _ _ f.2 zb zb) (λC g=>?_)
 refine HZ (fB _ _ g.2 zb zb) (λD j=>?_)
 refine HZ (eY _ _ j.2 za za) (λE l=>?_)
 exact H9 ⟨⟨h1.1,a.1⟩,l.2.2⟩
theorem scale_ok(d:Src)(g:cO d):Ok (ru d) (λr=>(r.1.bN.bo.length<=30∧r.1.bN.ba.length<=30)∧cO r.2):=by
 unfold ru
 refine HZ (table_ok _ g) (λa h1=>?_)
 refine HZ (eY _ _ h1.2 za za) (λu c=>?_)
 refine HZ (eY _ _ c.2.2 za za) (λz f=>?_)
 have k:=h1.1.len;have hs:=h1.1.same
 refine HZ (P:=λo:List Int×List Int=>o.1.length=a.1.bo.length∧o.2.length=a.1.bo.length) (H5 (λs=>0<=s.1∧s.2.1.length=a.1.bo.length∧s.2.2.length=a.1.bo.length) (λs=>((a.1.bo.length:Int)-s.1).toNat) ?_ ⟨Gm _,rfl,hs⟩) (λo ho=>H9 ⟨⟨zc,zc⟩,f.2.2⟩)
 rintro⟨l,p,q⟩ ⟨i0,i1,i2⟩
 simp only at i0 i1 i2
 unfold pu
 refine Hc (λj=>?_) (λ_=>Hb ⟨i1,i2⟩)
 refine HZ (Hg za za) (λ_ _=>?_)
 refine HZ (H2 za za) (λB g1=>?_)
 refine HZ (H8 za) (λC g2=>?_)
 refine HZ (Hg za za) (λ_ _=>?_)
 refine HZ (H2 za za) (λD g3=>?_)
 refine HZ (H8 za) (λE g4=>?_)
 refine HZ (Hg za za) (λ_ _=>?_)
 refine HZ (Ha za za) (λF g5=>?_)
 refine HZ (Hg za za) (λ_ _=>?_)
 refine HZ (Ha za za) (λG g6=>?_)
 subst g5 g6
 rw [w64 za za]
 exact H7 ⟨zc,by simpa using i1,by simpa using i2⟩ zc
theorem settings_ok{k:Int}(hk:0<=k∧k<=6)(d:Src)(f:cO d):Ok (oc k d) (λr=>((BoxOk r.1.ae.bt∧TabOk r.1.ae.bP)∧(r.1.bX.bN.bo.length<=30∧r.1.bX.bN.ba.length<=30))∧cO r.2):=by
 unfold oc
 refine HZ (association_ok hk d f) (λg h1=>?_)
 refine HZ (scale_ok _ h1.2) (λj a=>?_)
 refine HZ (fB _ _ a.2 zb zb) (λl c=>?_)
 exact H9 ⟨⟨h1.1,a.1⟩,c.2⟩
theorem response_ok(d:Src)(j:cO d):Ok (i9 d) (λr=>cO r.2):=by
 unfold i9
 refine HZ (eY _ _ j za za) (λu h1=>?_)
 refine HZ (P:=λo=>cO ⟨o.1,o.2.1⟩) (H5 (λs=>0<=s.1∧s.1+s.2.2.2.length<=4∧cO ⟨s.2.1,s.2.2.1⟩) (λs=>s.1.toNat) ?_ ⟨zc,by simp only [E0];omega,h1.2.2⟩) (λo ho=>H9 ho)
 rintro⟨s2,s3,q,c⟩ ⟨i0,i1,i2⟩
 simp only at i0 i1 i2
 unfold la
 have a:∀(x:bw),Ok (tE c [x] 96) (λr=>r=c++[x]):=λx=>HY (by simp only [EZ,E0];omega)
 refine Hc (λk=>?_) (λ_=>Hb i2)
 refine HZ (eY _ _ i2 za za) (λz g1=>?_)
 refine He (λ_=>?_) (λ_=>He (λ_=>?_) (λ_=>?_))
 ·refine HZ (fB _ _ g1.2.2 zb zb) (λf g2=>?_)
  refine HZ (fB _ _ g2.2 zb zb) (λg g3=>?_)
  refine HZ (a _) (λl g4=>?_)
  subst g4
  rw [w64 (n:=s2-1) za za]
  exact H7 ⟨zc,by simp only [F0,EZ,E0];omega,g3.2⟩ zc
 ·refine HZ (eY _ _ g1.2.2 za za) (λf g2=>?_)
  refine HZ (eY _ _ g2.2.2 za za) (λg g3=>?_)
  refine HZ (eY _ _ g3.2.2 za za) (λl g4=>?_)
  refine HZ (eY _ _ g4.2.2 za za) (λB g5=>?_)
  refine HZ (eY _ _ g5.2.2 za za) (λC g6=>?_)
  refine HZ (eY _ _ g6.2.2 za za) (λD g7=>?_)
  refine HZ (a _) (λp g8=>?_)
  subst g8
  rw [w64 (n:=s2-1) za za]
  exact H7 ⟨zc,by simp only [F0,EZ,E0];omega,g7.2.2⟩ zc
 ·refine HZ (eY _ _ g1.2.2 za za) (λf g2=>?_)
  refine HZ (eY _ _ g2.2.2 za za) (λg g3=>?_)
  refine HZ (a _) (λp g8=>?_)
  subst g8
  rw [w64 (n:=s2-1) za za]
  exact H7 ⟨zc,by simp only [F0,EZ,E0];omega,g3.2.2⟩ zc
def ChanOk(c:av):Prop:=c.bF.length<=3∧∀e∈c.bF,pB 60 e.bW
def InvOk(v:ag):Prop:=v.bp.length<=6∧∀c∈v.bp,ChanOk c
theorem sites_ok(d:Src)(l:cO d):Ok (oq 6 d) (λr=>InvOk r.1∧cO r.2):=by
 unfold oq
 refine HZ (P:=λo=>cO ⟨o.1,o.2.1⟩∧(o.2.2.length<=6∧∀c∈o.2.2,ChanOk c)) (H5 (λs=>(0<=s.1∧s.1<=6)∧s.2.2.2.length<=s.1.toNat∧(∀c∈s.2.2.2,ChanOk c)∧cO ⟨s.2.1,s.2.2.1⟩) (λs=>(6-s.1).toNat) ?_ ⟨⟨zb,zb⟩,zb,zb,l⟩) (λo ho=>H9 ⟨ho.2,ho.1⟩)
 rintro⟨s1,s2,s3,k⟩ ⟨i0,i1,i2,i3⟩
 simp only at i0 i1 i2 i3
 unfold nv
 have f:∀(x:av),Ok (tE k [x] 88) (λr=>r=k++[x]):=λx=>HY (by simp only [EZ,E0];omega)
 have a:∀{x:av},ChanOk x->∀c∈k++[x],ChanOk c:=λg c hc=>by
  simp only [GC,GD]at hc
  rcases hc with hc|rfl
  ·exact i2 c hc
  ·exact g
 refine Hc (λp=>?_) (λ_=>Hb ⟨i3,zc,i2⟩)
 refine Hc (λ_=>?_) (λ_=>Hb ⟨i3,zc,i2⟩)
 refine HZ (qZ 60 za za _ i3) (λz g1=>?_)
 refine HZ (response_ok _ g1.2) (λB g2=>?_)
 refine HZ (source_ok _) (λC g3=>?_)
 refine HZ (eY _ _ g2 za za) (λD g4=>?_)
 rw [w64 (n:=s1+1) za za]
 refine He (λ_=>?_) (λ_=>He (λ_=>?_) (λ_=>?_))
 ·refine HZ (eY _ _ g4.2.2 za za) (λq g5=>?_)
  refine HZ (qZ 60 za za _ g5.2.2) (λE g6=>?_)
  refine HZ (response_ok _ g6.2) (λF g7=>?_)
  refine HZ (Hg za zb) (λ_ _=>?_)
  refine HZ (H6 za zb) (λu g8=>?_)
  obtain⟨x,g,rfl⟩:=g8
  simp at g
  subst g
  refine HZ (HY zb) (λG g9=>?_)
  subst g9
  refine HZ (f _) (λj g10=>?_)
  subst g10
  refine H7 ⟨⟨zc,zc⟩,by simp only [F0,EZ,E0];omega,a ⟨zb,λe he=>?_⟩,g7⟩ zc
  simp at he
  rcases he with rfl|rfl
  ·exact g1.1
  ·exact g6.1
 ·refine HZ (eY _ _ g4.2.2 za za) (λq g5=>?_)
  refine HZ (Hg za zb) (λ_ _=>?_)
  refine HZ (H6 za zb) (λu g8=>?_)
  obtain⟨x,g,rfl⟩:=g8
  simp at g
  subst g
  refine HZ (f _) (λj g10=>?_)
  subst g10
  refine H7 ⟨⟨zc,zc⟩,by simp only [F0,EZ,E0];omega,a ⟨zb,λe he=>?_⟩,g5.2.2⟩ zc
  simp at he
  subst he
  exact g1.1
 ·refine HZ (f _) (λj g10=>?_)
  subst g10
  refine H7 ⟨⟨zc,zc⟩,by simp only [F0,EZ,E0];omega,a ⟨zb,λe he=>?_⟩,g4.2.2⟩ zc
  simp at he
  subst he
  exact g1.1
theorem range_ok(a b:Int)(g: -1000<=a)(h1:a<=1000)(j:0<=b-a)(k:b-a<=1000)(d:Src)(c:cO d):Ok (oo a b d) (λr=>(a<=r.1∧r.1<=b)∧cO r.2):=by
 unfold oo
 rw [w64 (n:=b-a) za za,w64 (n:=b-a+1) za za]
 refine HZ (eY _ _ c za za) (λf g1=>?_)
 rw [w64 (n:=a+f.1) za za]
 exact H9 ⟨⟨zc,zc⟩,g1.2.2⟩
theorem point_ok(b:ak)(a:BoxOk b)(d:Src)(c:cO d):Ok (pD b d) (λr=>pB 60 r.1∧cO r.2):=by
 obtain⟨⟨f,g,j⟩,k,l,p⟩:=a
 unfold pD
 refine HZ (range_ok _ _ za za za za d c) (λq g1=>?_)
 refine HZ (range_ok _ _ za za za za _ g1.2) (λu g2=>?_)
 refine HZ (range_ok _ _ za za za za _ g2.2) (λz g3=>?_)
 exact H9 ⟨⟨zc,zc,zc⟩,g3.2⟩
theorem kplace_ok(v:ag)(g:InvOk v)(x:Sid)(t:Int):Ok (qe v x t) (λr=>pB 60 r.1):=by
 unfold qe
 have k:pB 60 ⟨0,0,0⟩:=⟨zb,zb,zb⟩
 refine HZ (P:=λo=>match o with| .inl _=>True| .inr r=>pB 60 r.1) (Hd v.bp.length za (λ_=>True) trivial ?_) ?_
 ·intro i h1 p _
  unfold oG
  refine Hc (λf=>?_) (λ_=>Hb trivial)
  refine HZ (H2 za za) (λc hc=>?_)
  have a:=g.2 c hc.1
  have hlen:=g.1
  refine HZ (P:=λo=>match o with| .inl y=>y=i| .inr r=>pB 60 r.1) (Hd c.bF.length za (λ_=>True) trivial ?_) ?_
  ·intro j q u _
   unfold oF
   have l:=a.1
   refine Hc (λf=>?_) (λ_=>Hb rfl)
   refine HZ (H2 za za) (λe he=>?_)
   rw [w64 (n:=j+1) za za]
   refine H3 (λ_=>?_) (λ_=>H7 ⟨⟨za,za⟩,trivial⟩ za)
   refine Hc (λ_=>?_) (λ_=>H7 ⟨⟨za,za⟩,trivial⟩ za)
   refine Hc (λ_=>?_) (λ_=>H7 ⟨⟨za,za⟩,trivial⟩ za)
   exact Hb (a.2 e he.1)
  ·rintro(y|r) ho
   ·simp only at ho⊢
    subst ho
    rw [w64 (n:=y+1) za za]
    exact H7 ⟨⟨za,za⟩,trivial⟩ za
   ·exact Hb ho
 ·rintro(y|r) ho
  ·exact H9 k
  ·exact H9 ho
def PickOk(p:Pick):Prop:=IsSid p.az∧0<=p.bA∧p.bA<=p.bS∧p.bS<=p.bY∧p.bY<=200000∧0<=p.bG∧p.bG<=1073741823∧ -1<=p.bM∧p.bM<=1
def PickLo(p:Pick):Prop:=PickOk p∧p.bY<=40000
def PI(n:Nat)(s:Int×Int×List Int×Int×List Pick×Int×Int×Int):Prop:=
 (0<=s.2.1∧s.2.1+s.2.2.2.2.1.length<=n)∧(0<=s.1∧s.1<=2000+1000*s.2.2.2.2.1.length)∧cO ⟨s.2.2.1,s.2.2.2.1⟩∧pB 60 ⟨s.2.2.2.2.2.1,s.2.2.2.2.2.2.1,s.2.2.2.2.2.2.2⟩∧∀p∈s.2.2.2.2.1,PickLo p
theorem k34_ok{n:Nat}(D:n<=20){Q:List Pick×List Int×Int->Prop}{s:Int×Int×List Int×Int×List Pick×Int×Int×Int}{sid:Sid}(hs:IsSid sid)(am:Int×Src)(C:0<=am.1∧am.1<=1048576)(g:Int×Src)(hp:0<=g.1∧g.1<3)(t k:Int)(l:List Int)(at_:Int)(out:List Pick)(x y z e:Int)
  (hk:1<=k∧k+out.length<=n) (r:k=s.2.1) (u:0<=t∧t<=2000+1000*(out.length+1)) (q:cO ⟨l,at_⟩) (f:pB 60 ⟨x,y,z⟩) (c:∀p∈out,PickLo p) (he:0<=e∧e<=30000):
  Ok (jz sid am g t k l at_ out x y z e) (Ok.S (PI n) (λs=>s.2.1.toNat) Q s):=by
 unfold jz
 refine HZ (eY _ _ q za za) (λj g1=>?_)
 refine HZ (eY _ _ g1.2.2 za za) (λB g2=>?_)
 refine HZ (HY (by simp only [EZ,E0];omega)) (λE g3=>?_)
 subst g3
 rw [w64 (n:=e+j.1) za za,w64 (n:=e+j.1+B.1) za za,w64 (n:=g.1-1) za za,w64 (n:=k-1) za za]
 refine H7 ⟨⟨zc,by simp only [F0,EZ,E0];omega⟩,⟨u.1,by simp only [F0,EZ,E0];omega⟩,g2.2.2,f,λp a=>?_⟩ zc
 simp only [GC,GD]at a
 rcases a with a|rfl
 ·exact c p a
 ·exact⟨⟨hs,zc,zc,zc,zc,zc,zc,zc,zc⟩,zc⟩
theorem l55_ok(pl:aa×Bool)(f:pB 60 pl.1)(x y z t k:Int)(out:List Pick)(F:pB 60 ⟨x,y,z⟩):Ok (cI (nu pl x y z t k out) (0:Int)) (λo=>o.1=t∧o.2.1=k∧(0<=o.2.2.1∧o.2.2.1<=300)∧o.2.2.2.1=out∧o.2.2.2.2.1=x∧o.2.2.2.2.2.1=y∧o.2.2.2.2.2.2=z):=by
 obtain⟨a1,a2,a3⟩:=f
 obtain⟨b1,b2,c⟩:=F
 simp only at b1 b2 c
 have a:∀(u v:Int), -60<=u->u<=60-> -60<=v->v<=60->∃q,rD (GV .i64 (u-v))=some q∧0<=q∧q<=14400:=by
  intro u v h1 H I J
  have j: -120<=u-v∧u-v<=120:=by omega
  rw [w64 za za]
  have l:0<=(u-v)*(u-v)∧(u-v)*(u-v)<=14400:=by
   constructor
   ·rcases Gn 0 (u-v)with h|h
    ·exact Gs h h
    ·exact Gt h h
   ·rcases Gn 0 (u-v)with h|h
    ·calc (u-v)*(u-v)<=120*120:=Gr j.2 j.2 h za
      _=14400:=by decide
    ·have:(u-v)*(u-v)=(v-u)*(v-u):=by
      rw [<-Gx];congr 1<;>omega
     rw [this]
     calc (v-u)*(v-u)<=120*120:=Gr za za za za
      _=14400:=by decide
  refine⟨_,by unfold rD;rw [w64 za za],l.1,l.2⟩
 obtain⟨p,B,K,u1⟩:=a pl.1.fX x a1.1 a1.2 b1.1 b1.2
 obtain⟨r,e2,L,u2⟩:=a pl.1.fY y a2.1 a2.2 b2.1 b2.2
 obtain⟨G,C,N,O⟩:=a pl.1.fZ z a3.1 a3.2 c.1 c.2
 refine H5 (λs=>0<=s∧s<=300) (λs=>(300-s).toNat) (λs hs=>?_) ⟨Gm _,za⟩
 unfold nu
 rw [B,e2,C]
 simp only [zd]
 rw [w64 (n:=p+r) za za,w64 (n:=p+r+G) za za]
 have E : 0 ≤ s * s ∧ s * s ≤ 90000 := ⟨Gs hs.1 hs.1, by
  calc s*s<=300*300:=Gr hs.2 hs.2 hs.1 za
   _=90000:=by decide⟩
 rw [w64 (n:=s*s) za za]
 refine Hc (λD=>?_) (λ_=>Hb ⟨rfl,rfl,hs,rfl,rfl,rfl,rfl⟩)
 have g:s<=299:=by
  rcases Int.lt_or_le 299 s with h|h
  ·exfalso
   have:s=300:=by omega
   subst this
   omega
  ·exact h
 rw [w64 (n:=s+1) za za]
 exact H7 ⟨za,za⟩ za
theorem picks_lo(a:ai)(k:BoxOk a.ae.bt∧TabOk a.ae.bP)(v:ag)(I:InvOk v)(n:Nat)(hn:n<=20)(d:Src)(F:cO d):
  Ok (pC a v n d) (λr=>(r.1.length<=n∧∀p∈r.1,PickLo p)∧cO r.2):=by
 unfold pC
 refine HZ (point_ok _ k.1 d F) (λx1 h1=>?_)
 refine HZ (eY _ _ h1.2 za za) (λX D=>?_)
 rw [w64 (n:=(n:Int)+1) za za]
 refine HZ (eY _ _ D.2.2 za za) (λx3 E=>?_)
 rw [w64 (n:=1000+X.1) za za]
 refine HZ (P:=λo=>(o.1.length<=n∧∀p∈o.1,PickLo p)∧cO ⟨o.2.1,o.2.2⟩) (H5 (PI n) (λs=>s.2.1.toNat) ?_ ⟨⟨zc,by simp only [E0];omega⟩,⟨zc,by simp only [E0];omega⟩,E.2.2,h1.1,zb⟩) (λo ho=>H9 ⟨ho.1,ho.2⟩)
 rintro⟨l,s5,s6,s7,s8,s9,T,W⟩ ⟨i0,i1,i2,i3,i4⟩
 simp only at i0 i1 i2 i3 i4
 unfold pr
 refine Hc (λG=>?_) (λ_=>Hb ⟨⟨zc,i4⟩,i2⟩)
 refine HZ (eY _ _ i2 za za) (λy1 g1=>?_)
 refine HZ (source_ok _) (λy2 g2=>?_)
 refine HZ (fB _ _ g1.2.2 zb zb) (λg g3=>?_)
 have f:0<=g.1∧g.1<=1048576:=by have:=g3.1;simp at this;omega
 refine HZ (eY _ _ g3.2 za za) (λj g4=>?_)
 refine HZ (eY _ _ g4.2.2 za za) (λY g5=>?_)
 refine HZ (eY _ _ g5.2.2 za za) (λy6 g6=>?_)
 rw [w64 (n:=1000+Y.1) za za]
 refine He (λ_=>?_) (λ_=>He (λ_=>?_) (λ_=>?_))
 ·refine HZ (point_ok _ k.1 _ g6.2.2) (λB g7=>?_)
  refine HZ (eY _ _ g7.2 za za) (λC g8=>?_)
  rw [w64 (n:=l+C.1) za za]
  exact k34_ok za g2 g f j ⟨g4.1,g4.2.1⟩ _ _ _ _ _ _ _ _ _ za rfl za g8.2.2 g7.1 i4 za
 ·exact k34_ok za g2 g f j ⟨g4.1,g4.2.1⟩ _ _ _ _ _ _ _ _ _ za rfl za g6.2.2 i3 i4 za
 ·refine HZ (kplace_ok v I _ _) (λB g7=>?_)
  refine H3 (λ_=>?_) (λ_=>?_)
  ·refine HZ (l55_ok B g7 _ _ _ _ _ _ i3) (λo ho=>?_)
   obtain⟨J,K,z,L,N,O,Q⟩:=ho
   have c:=k.2
   have hl:=c.len
   have H:=c.step
   refine HZ (H8 za) (λC g8=>?_)
   have hq:0<=o.2.2.1.tdiv a.ae.bP.b9∧o.2.2.1.tdiv a.ae.bP.b9<=300:=by
    refine⟨HE z.1 za,?_⟩
    have:=HD (b:=a.ae.bP.b9) z.1
    omega
   rw [w64 za za]at g8
   subst g8
   rw [w64 (n:=(a.ae.bP.bo.length:Int)-1) za za]
   refine HZ (H2 (by split<;>omega) (by split<;>omega)) (λu g9=>?_)
   have hb:=c.low u g9.1
   refine HZ (eY _ _ g6.2.2 za za) (λq g10=>?_)
   rw [J,K,L,N,O,Q,w64 (n:=l+u) za za,w64 (n:=l+u+q.1) za za]
   exact k34_ok za g2 g f j ⟨g4.1,g4.2.1⟩ _ _ _ _ _ _ _ _ _ za rfl za g10.2.2 i3 i4 za
  ·exact k34_ok za g2 g f j ⟨g4.1,g4.2.1⟩ _ _ _ _ _ _ _ _ _ za rfl za g6.2.2 i3 i4 za
theorem picks_ok(a:ai)(c:BoxOk a.ae.bt∧TabOk a.ae.bP)(v:ag)(j:InvOk v)(n:Nat)(g:n<=20)(d:Src)(f:cO d):
  Ok (pC a v n d) (λr=>(r.1.length<=n∧∀p∈r.1,PickOk p)∧cO r.2):=(picks_lo a c v j n g d f).mono λ_ h=>⟨⟨h.1.1,λp hp=>(h.1.2 p hp).1⟩,h.2⟩
end Go.Dw.Ef
set_option maxRecDepth 100000
set_option maxHeartbeats 4000000
namespace Go.Dw.Ef
open Go.Dw
theorem cu{α:Type}{l m:List α}{b:Nat}(h:(l.length+m.length)*b<=140737488355328):tE l m b=some (l++m):=by
 unfold tE
 rw [if_pos h]
namespace Sd
abbrev Src:=bn
theorem eq_src(a b:Src):((a.bI==b.bI)&&((a.bB==b.bB)&&((a.bg==b.bg)&&((a.bL==b.bL)&&true))))=decide (a=b):=by
 obtain⟨n,t,l,c⟩:=a
 obtain⟨q,t',p,f⟩:=b
 simp only [bn.mk.injEq]
 by_cases g:n=q<;>by_cases e2:t=t'<;>by_cases j:l=p<;>by_cases k:c=f<;>simp [g,e2,j,k]
theorem cmp_str(a b:List UInt8):dV a b=some (wu a b):=by
 unfold dV iq
 simp only [beq_self_eq_true,HV,zd,FD,if_false]
 unfold wu
 cases h:Op.bytesLess a b with
 |true=>simp
 |false=>by_cases e:a=b<;>simp [e]
theorem te{l:List Int}{i j:Nat}(c:j=i+1)(hi:i<l.length)(f:l.length<1000)(a:l[i]=0):eM l i=some (.next (j:Int)):=by
 subst c
 unfold eM
 rw [if_pos so,kp rfl hi]
 simp only [zd,a,w64 (n:=(i:Int)+1) za za]
 rfl
theorem tf{l:List Int}{i:Nat}(hi:i<l.length)(a:l[i]≠0):eM l i=some (.stop (.inr l[i])):=by
 unfold eM
 rw [if_pos so,kp rfl hi]
 simp only [zd]
 rw [if_pos (by simpa using a)]
theorem or_end{l:List Int}{n:Nat}(a:n=l.length):eM l n=some (.stop (.inl ())):=by
 subst a
 unfold eM
 rw [if_neg zb]
theorem or4(a b c d:Int):dW [a,b,c,d]=some (if a≠0 then a else if b≠0 then b else if c≠0 then c else d):=by
 show((cI (eM [a,b,c,d]) ((0:Nat):Int)).bind _)=_
 by_cases f:a=0
 ·rw [tv (te (i:=0) (j:=1) rfl zb zb (by simpa using f)),if_neg (by simpa using f)]
  by_cases g:b=0
  ·rw [tv (te (i:=1) (j:=2) rfl zb zb (by simpa using g)),if_neg (by simpa using g)]
   by_cases hc:c=0
   ·rw [tv (te (i:=2) (j:=3) rfl zb zb (by simpa using hc)),if_neg (by simpa using hc)]
    by_cases k:d=0
    ·rw [tv (te (i:=3) (j:=4) rfl zb zb (by simpa using k)),dE (or_end (n:=4) rfl)]
     rw [k];rfl
    ·rw [dE (tf (i:=3) zb (by simpa using k))];rfl
   ·rw [dE (tf (i:=2) zb (by simpa using hc)),if_pos hc];rfl
  ·rw [dE (tf (i:=1) zb (by simpa using g)),if_pos g];rfl
 ·rw [dE (tf (i:=0) zb (by simpa using f)),if_pos (by simpa using f)];rfl
def lF(a b:Src):Int:=if wu a.bI b.bI≠0 then wu a.bI b.bI else if wu a.bB b.bB≠0 then wu a.bB b.bB else if wu a.bg b.bg≠0 then wu a.bg b.bg else wu a.bL b.bL
theorem mh(a b:Src):iR a b=some (lF a b):=by
 unfold iR
 simp only [cmp_str,zd,or4]
 rfl
theorem ke:Tot lF:=(zP.map λx:Src=>x.bI).or ((zP.map λx:Src=>x.bB).or ((zP.map λx:Src=>x.bg).or (zP.map λx:Src=>x.bL)))
theorem ip{a b:Src}(h:lF a b=0):a=b:=by
 unfold lF at h
 obtain⟨n,t,l,c⟩:=a
 obtain⟨k,t',j,p⟩:=b
 simp only at h
 by_cases h1:wu n k=0
 ·rw [if_neg (by simpa using h1)]at h
  by_cases f:wu t t'=0
  ·rw [if_neg (by simpa using f)]at h
   by_cases g:wu l j=0
   ·rw [if_neg (by simpa using g)]at h
    rw [Ak]at h h1 f g
    subst h h1 f g;rfl
   ·rw [if_pos g]at h;exact(g h).elim
  ·rw [if_pos f]at h;exact(f h).elim
 ·rw [if_pos h1]at h;exact(h1 h).elim
theorem cmpS_range(a b:Src): -1<=lF a b∧lF a b<=1:=by
 unfold lF
 repeat' split
 all_goals exact Dq _ _
instance : DecidableEq Src := λa b => decidable_of_iff (a.bI = b.bI ∧ a.bB = b.bB ∧ a.bg = b.bg ∧ a.bL = b.bL) (by
 obtain⟨n,t,l,c⟩:=a
 obtain⟨j,t',g,f⟩:=b
 simp)
theorem eqs(a b:Src):((a.bI==b.bI)&&((a.bB==b.bB)&&((a.bg==b.bg)&&((a.bL==b.bL)&&true))))=decide (a=b):=by
 rw [eq_src]
 exact decide_eq_decide.2 Iff.rfl
theorem mH(a b:Int):cn a b=some (uu a b):=by
 unfold cn lL uu
 simp only [bne_self_eq_false,zd,FD,if_false]
 by_cases h1:a<b
 ·rw [if_pos (decide_eq_true h1),if_pos h1]
 ·rw [if_neg (by simpa using h1),if_neg h1]
  by_cases c:a>b
  ·rw [if_pos (decide_eq_true c),if_pos c]
  ·rw [if_neg (by simpa using c),if_neg c]
theorem or_go{l:List Int}{n:Nat}{r:List Int}(q:l.length<1000)(z:n<=l.length)(f:l.drop n=r):cI (eM l) (n:Int)=some (match r.find? (λx=>decide (x≠0))with|some x=>.inr x|none=>.inl ()):=by
 induction r generalizing n with
 |nil=>
  have:n=l.length:=by
   have:=congrArg HO f
   simp at this;omega
  rw [dE (or_end this)];rfl
 |cons a r u=>
  have c:n<l.length:=by
   have:=congrArg HO f
   simp at this;omega
  have k:l[n]=a:=by
   rw [HI c]at f
   exact(List.cons.inj f).1
  have p:l.drop (n+1)=r:=by
   rw [HI c]at f
   exact(List.cons.inj f).2
  by_cases g:a=0
  ·rw [tv (te (i:=n) (j:=n+1) rfl c q (by rw [k,g])),u za p]
   simp [HJ,g]
  ·rw [dE (tf c (by rw [k];exact g)),k]
   simp [HJ,g]
theorem or6(a b c d e f:Int):dW [a,b,c,d,e,f]=some (if a≠0 then a else if b≠0 then b else if c≠0 then c else if d≠0 then d else if e≠0 then e else f):=by
 unfold dW
 have:=or_go (l:=[a,b,c,d,e,f]) (n:=0) (r:=[a,b,c,d,e,f]) zb zb rfl
 rw [show((0:Int))=((0:Nat):Int)from rfl,this]
 by_cases g:a=0<;>by_cases j:b=0<;>by_cases hc:c=0<;>by_cases k:d=0<;>by_cases he:e=0<;>by_cases hf:f=0<;>simp [HJ,g,j,hc,k,he,hf]
end Sd
open Sd (lF ke ip)
def jo(a b:Pick):Int:=if lF a.az b.az≠0 then lF a.az b.az else if uu a.bS b.bS≠0 then uu a.bS b.bS else if uu a.bA b.bA≠0 then uu a.bA b.bA else if uu a.bY b.bY≠0 then uu a.bY b.bY else if uu a.bG b.bG≠0 then uu a.bG b.bG else uu a.bM b.bM
theorem mh(a b:Pick):cJ a b=some (jo a b):=by
 unfold cJ
 simp only [Sd.mh,Sd.mH,zd,Sd.or6]
 rfl
theorem fD:Tot jo:=(ke.map λx:Pick=>x.az).or ((u7.map λx:Pick=>x.bS).or ((u7.map λx:Pick=>x.bA).or ((u7.map λx:Pick=>x.bY).or ((u7.map λx:Pick=>x.bG).or (u7.map λx:Pick=>x.bM)))))
theorem pJ{a b:Int}(h:(if a≠0 then a else b)=0):a=0∧b=0:=by
 by_cases h1:a=0
 ·rw [if_neg (by simpa using h1)]at h;exact⟨h1,h⟩
 ·rw [if_pos h1]at h;exact(h1 h).elim
theorem pI{a b:Pick}(h:jo a b=0):a=b:=by
 unfold jo at h
 obtain⟨h1,h⟩:=pJ h
 obtain⟨c,h⟩:=pJ h
 obtain⟨f,h⟩:=pJ h
 obtain⟨g,h⟩:=pJ h
 obtain⟨j,k⟩:=pJ h
 rw [vY]at c f g j k
 have:=ip h1
 obtain⟨a1,a2,a3,a4,a5,l⟩:=a
 obtain⟨b1,b2,p,q,r,u⟩:=b
 simp only at*
 subst this c f g j k
 rfl
theorem lt3_eq:lt3 cJ=λx y=>decide (jo x y<0):=by
 funext x y
 unfold lt3
 rw [mh];rfl
theorem Compare_ok:CmpOk cJ:=⟨λx y=>⟨_,mh x y⟩,by rw [lt3_eq];exact fD.swo⟩
instance : DecidableEq Pick := λa b => decidable_of_iff (a.az = b.az ∧ a.bS = b.bS ∧ a.bA = b.bA ∧ a.bY = b.bY ∧ a.bG = b.bG ∧ a.bM = b.bM) (by
 obtain⟨a1,a2,a3,a4,a5,c⟩:=a
 obtain⟨b1,b2,f,g,j,k⟩:=b
 simp)
def eqF(a b:Pick):Bool:=((a.az.bI==b.az.bI)&&((a.az.bB==b.az.bB)&&((a.az.bg==b.az.bg)&&((a.az.bL==b.az.bL)&&true))))&&((a.bS==b.bS)&&((a.bA==b.bA)&&((a.bY==b.bY)&&((a.bG==b.bG)&&((a.bM==b.bM)&&true)))))
theorem eqs(a b:Pick):eqF a b=decide (a=b):=by
 obtain⟨a1,a2,a3,a4,a5,c⟩:=a
 obtain⟨b1,b2,f,g,j,k⟩:=b
 unfold eqF
 simp only [Sd.eqs,ac.mk.injEq]
 by_cases l:a1=b1<;>by_cases e2:a2=b2<;>by_cases p:a3=f<;>by_cases q:a4=g<;>by_cases r:a5=j<;>by_cases u:c=k<;>simp [l,e2,p,q,r,u]
theorem Compact_eq(l:List Pick):eU l=zQ eqF ⟨⟨[],[],[],[]⟩,0,0,0,0,0⟩ l:=by
 have h1:iM=wS eqF:=by funext s d ⟨a,b,c⟩;rfl
 have f:iN=wc eqF ⟨⟨[],[],[],[]⟩,0,0,0,0,0⟩:=by
  funext d s
  unfold iN wc
  rw [h1]
  rfl
 unfold eU zQ
 rw [f]
 refine ite_congr rfl (λ_=>rfl) λ_=>?_
 refine congrArg _ (funext λo=>?_)
 rcases o with _|_<;>rfl
theorem sort_at{l:List Pick}(j:l.length<=1000):∃m,xH cJ l=some m∧m.Perm l∧m.Pairwise (λx y=>jo x y<=0):=by
 have g := AX Compare_ok (λx y h f => by
  rw [lt3_eq]at h f
  simp only [decide_eq_false_iff_not]at h f
  have:=fD.vM x y
  exact pI za) l za
 generalize hm:(l.mergeSort λx y=> !lt3 cJ y x)=m at g
 refine⟨m,g,DP g,?_⟩
 rw [<-hm]
 refine(List.pairwise_mergeSort ?_ ?_ l).imp ?_
 ·intro a b c h f
  rw [lt3_eq]at*
  simp only [HT,decide_eq_false_iff_not]at*
  have:=fD.tr a b c (by have:=fD.vM a b;omega) (by have:=fD.vM b c;omega)
  have:=fD.vM a c;omega
 ·intro a b
  rw [lt3_eq]
  have:=fD.vM a b
  by_cases h:jo b a<0
  ·have:¬jo a b<0:=by omega
   simp [this]
  ·simp [h]
 ·intro a b h
  rw [lt3_eq]at h
  simp only [HT,decide_eq_false_iff_not]at h
  have:=fD.vM a b;omega
theorem Sort_eq{l:List Pick}(f:l.length<=1000):
  ∃r,mu l=some r∧r.Pairwise (λx y=>jo x y<0)∧(∀x,x∈r↔x∈l)∧r.length<=l.length:=by
 have h1:uK 104 l=some l:=by
  unfold uK
  rw [if_pos za]
 obtain⟨m,a,hp,hs⟩:=sort_at f
 have g:m.length=l.length:=hp.length_eq
 have c:eU m=some (cpt m):=by
  rw [Compact_eq]
  exact Dr (λx y=>eqs x y) za
 refine⟨cpt m,?_,xM fD (λx y=>pI) hs,λx=>A0.trans hp.mem_iff,by have:=Bh m;omega⟩
 unfold mu
 rw [h1,zd,a,zd,c];rfl
theorem nK:∀{r s:List Pick},r.Pairwise (λx y=>jo x y<0)->s.Pairwise (λx y=>jo x y<0)->(∀x,x∈r↔x∈s)->r=s
 | [],[],_,_,_=>rfl
 | [],b::s,_,_,h=>by have:=(h b).2 zb;cases this
 |a::r,[],_,_,h=>by have:=(h a).1 zb;cases this
 |a::r,b::s,h1,q,h=>by
  obtain⟨k,u⟩:=List.pairwise_cons.1 h1
  obtain⟨l,hs⟩:=List.pairwise_cons.1 q
  have g:a=b:=by
   rcases List.mem_cons.1 ((h a).1 zb)with e|hm
   ·exact e
   ·rcases List.mem_cons.1 ((h b).2 zb)with e|j
    ·exact e.symm
    ·have B:=l a hm
     have C:=k b j
     have:=fD.vM a b
     omega
  subst g
  have p:∀{t:List Pick},(∀y∈t,jo a y<0)->a∉t:=λh z=>by have:=h a z;have:=fD.refl a;omega
  have:r=s:=nK u hs λx=>by
   have:=h x
   simp only [List.mem_cons]at this
   constructor
   ·intro c
    rcases this.1 (.inr c)with e|f
    ·subst e;exact(p k c).elim
    ·exact f
   ·intro c
    rcases this.2 (.inr c)with e|f
    ·subst e;exact(p l c).elim
    ·exact f
  rw [this]
end Go.Dw.Ef
set_option maxRecDepth 100000
set_option maxHeartbeats 4000000
namespace Go.Dw.Ef
open Go.Dw Go.Proofs
theorem get1{α:Type}(A:List α)(y:α)(T:List α){n:Int}(a:n=A.length):py (A++y::T) n=some y:=by
 rw [kp (i:=A.length) a zb]
 simp
theorem BA{α:Type}(A:List α)(y z:α)(T:List α){n:Int}(a:n=A.length):vd (A++y::T) n z=some (A++z::T):=by
 rw [vz (i:=A.length) a zb]
 simp
section
variable {α:Type}
def sk(lt:α->α->Bool)(x:α):List α->List α
 | []=>[x]
 |y::r=>if lt x y=true then y::sk lt x r else x::y::r
def sortF(lt:α->α->Bool)(R l:List α):List α:=l.foldl (λa x=>sk lt x a) R
def m9(lt:α->α->Bool)(l:List α):List α:=(sortF lt [] l).reverse
theorem ou(lt:α->α->Bool)(x:α):∀R,(sk lt x R).Perm (x::R)
 | []=>List.Perm.refl _
 |y::r=>by
  unfold sk
  split
  ·exact((ou lt x r).cons y).trans (List.Perm.swap x y r)
  ·exact List.Perm.refl _
theorem sortF_perm(lt:α->α->Bool):∀l R,(sortF lt R l).Perm (l++R)
 | [],_=>List.Perm.refl _
 |x::l,R=>(sortF_perm lt l (sk lt x R)).trans (((ou lt x R).append_left l).trans List.perm_middle)
theorem oW(lt:α->α->Bool)(l:List α):(m9 lt l).Perm l:=(List.reverse_perm _).trans (by simpa using sortF_perm lt l [])
def Lex(c:α->α->Int)(o:α->α->Prop)(a b:α):Prop:=c a b<0∨(c a b=0∧o a b)
theorem insR_lex{c:α->α->Int}(hc:Tot c){o:α->α->Prop}{x:α}:∀{R:List α},R.Pairwise (λa b=>Lex c o b a)->(∀y∈R,o y x)->(sk (λx y=>decide (c x y<0)) x R).Pairwise (λa b=>Lex c o b a)
 | [],_,_=>by simp [sk]
 |y::r,h,p=>by
  obtain⟨h1,q⟩:=List.pairwise_cons.1 h
  unfold sk
  split
  ·rename_i g
   refine List.pairwise_cons.2 ⟨λz f=>?_,insR_lex hc q λy u=>p y (HP _ u)⟩
   rcases List.mem_cons.1 ((ou _ x r).mem_iff.1 f)with rfl|f
   ·exact .inl (by simpa using g)
   ·exact h1 z f
  ·rename_i g
   have j:c y x<=0:=by
    have:=hc.vM x y
    simp only [decide_eq_true_eq]at g;omega
   refine List.pairwise_cons.2 ⟨λz f=>?_,h⟩
   have l:c z y<=0:=by
    rcases List.mem_cons.1 f with rfl|f
    ·have:=hc.refl z;omega
    ·rcases h1 z f with h|h<;>omega
   have k:=hc.tr z y x l j
   rcases Gp k with h|h
   ·exact .inl h
   ·exact .inr ⟨h,p z f⟩
theorem sortF_lex{c:α->α->Int}(hc:Tot c){o:α->α->Prop}:∀{l R:List α},R.Pairwise (λa b=>Lex c o b a)->(∀y∈R,∀x∈l,o y x)->l.Pairwise o->(sortF (λx y=>decide (c x y<0)) R l).Pairwise (λa b=>Lex c o b a)
 | [],_,h,_,_=>h
 |x::l,R,h,g,k=>by
  obtain⟨p,q⟩:=List.pairwise_cons.1 k
  refine sortF_lex hc (l:=l) (R:=sk _ x R) (insR_lex hc h λy f=>g y f x zb) (λy f z j=>?_) q
  rcases List.mem_cons.1 ((ou _ x R).mem_iff.1 f)with rfl|f
  ·exact p z j
  ·exact g y f z (HP _ j)
theorem sortI_lex{c:α->α->Int}(hc:Tot c){o:α->α->Prop}{l:List α}(a:l.Pairwise o):(m9 (λx y=>decide (c x y<0)) l).Pairwise (Lex c o):=by
 unfold m9
 rw [List.pairwise_reverse]
 exact sortF_lex hc .nil (λy f=>by cases f) a
theorem sortI_le{c:α->α->Int}(hc:Tot c)(l:List α):(m9 (λx y=>decide (c x y<0)) l).Pairwise (λa b=>c a b<=0):=by
 have:=sortI_lex hc (o:=λ_ _=>True) (l:=l) (List.pairwise_of_forall λ_ _=>trivial)
 exact this.imp λh=>by rcases h with h|h<;>omega
theorem rY{c:α->α->Int}(hc:Tot c):∀{r s:List α},r.Pairwise (λx y=>c x y<0)->s.Pairwise (λx y=>c x y<0)->(∀x,x∈r↔x∈s)->r=s
 | [],[],_,_,_=>rfl
 | [],b::s,_,_,h=>by have:=(h b).2 zb;cases this
 |a::r,[],_,_,h=>by have:=(h a).1 zb;cases this
 |a::r,b::s,h1,k,h=>by
  obtain⟨a1,a2⟩:=List.pairwise_cons.1 h1
  obtain⟨b1,b2⟩:=List.pairwise_cons.1 k
  have e:a=b:=by
   rcases List.mem_cons.1 ((h a).1 zb)with f|f
   ·exact f
   ·rcases List.mem_cons.1 ((h b).2 zb)with j|j
    ·exact j.symm
    ·have:=a1 b j;have:=b1 a f;have:=hc.vM a b;omega
  subst e
  congr 1
  refine rY hc a2 b2 λx=>⟨λg=>?_,λg=>?_⟩
  ·rcases List.mem_cons.1 ((h x).1 (HP _ g))with rfl|f
   ·have:=a1 x g;have:=hc.refl x;omega
   ·exact f
  ·rcases List.mem_cons.1 ((h x).2 (HP _ g))with rfl|f
   ·have:=b1 x g;have:=hc.refl x;omega
   ·exact f
end
noncomputable def insG31 {α β:Type} (br:α->α->Option β) (t:β->Bool) (a1 s1:Int):(Int×List α)->Option (pH (Int×List α) (Int×List α)):=fun(a,c)=>
 if(decide (a>a1))=true then((inO c a).bind λr=>(py c a).bind λg=>(inO c (GV .i64 (a-(1:Int)))).bind λu=>(py c (GV .i64 (a-(1:Int)))).bind λj=>(br g j).bind λk=>if t k=true then((inO c (GV .i64 (a-(1:Int)))).bind λz=>(py c (GV .i64 (a-(1:Int)))).bind λl=>(inO c a).bind λB=>(py c a).bind λp=>(inO c a).bind λC=>(vd c a l).bind λf=>(inO f (GV .i64 (a-(1:Int)))).bind λD=>(vd f (GV .i64 (a-(1:Int))) p).bind λq=>some (.next ((GV .i64 (a-(1:Int))),q)))else(some (.stop (s1,c))))else(some (.stop (s1,c)))
noncomputable def sj {α β:Type} (br:α->α->Option β) (t:β->Bool) (a2 a1:Int):(Int×List α)->Option (pH (Int×List α) (List α)):=fun(s1,s2)=>
 if(decide (s1<a2))=true then((cI (insG31 br t a1 s1) (s1,s2)).bind λa=>some (.next ((GV .i64 (a.1+(1:Int))),a.2)))else((some s2).bind λz33=>some (.stop z33))
noncomputable def insG {α β:Type} (br:α->α->Option β) (t:β->Bool) (a1 a2:Int) (d0:List α):Option (List α):=
 (cI (sj br t a2 a1) ((GV .i64 (a1+(1:Int))),d0)).bind λa=>some a
section
variable {α β:Type}{br:α->α->Option β}{t:β->Bool}{lt:α->α->Bool}{S:α->Prop}(hbr:∀x y,S x->S y->∃b,br x y=some b∧t b=lt x y)
include hbr
theorem insG_inner{s1:Int}{x:α}(j:S x):∀(R B:List α),(∀y∈R,S y)->R.length+B.length<=1000->cI (insG31 br t 0 s1) ((R.length:Int),R.reverse++x::B)=some (s1,(sk lt x R).reverse++B)
 | [],B,_,_=>dE (by unfold insG31;dsimp only;rw [if_neg zb];rfl)
 |y::R,B,g,p=>by
  have k:(y::R).reverse++x::B=R.reverse++y::x::B:=by simp
  have e2:R.reverse++y::x::B=(R.reverse++[y])++x::B:=by simp
  have q:R.length+1+B.length<=1000:=by simpa using p
  have hw:GV .i64 (((y::R).length:Int)-1)=(R.length:Int):=by rw [w64 zb so];simp
  have i1:inO (R.reverse++y::x::B) ((y::R).length:Int)=some ():=tN za so
  have i0:inO (R.reverse++y::x::B) (R.length:Int)=some ():=tN za so
  have g1:py (R.reverse++y::x::B) ((y::R).length:Int)=some x:=by rw [e2];exact get1 _ _ _ zb
  have g0:py (R.reverse++y::x::B) (R.length:Int)=some y:=get1 _ _ _ zb
  have f:vd (R.reverse++y::x::B) ((y::R).length:Int) y=some (R.reverse++y::y::B):=by
   rw [e2,BA _ _ _ _ zb];simp
  have i2:inO (R.reverse++y::y::B) (R.length:Int)=some ():=tN za so
  have s0:vd (R.reverse++y::y::B) (R.length:Int) x=some (R.reverse++x::y::B):=BA _ _ _ _ zb
  obtain⟨b,l,r⟩:=hbr x y j (g y zb)
  have a:insG31 br t 0 s1 (((y::R).length:Int),R.reverse++y::x::B)=if lt x y=true then some (.next ((R.length:Int),R.reverse++x::y::B))else some (.stop (s1,R.reverse++y::x::B)):=by
   unfold insG31
   dsimp only
   rw [if_pos zb,hw]
   simp only [i1,i0,g1,g0,l,f,i2,s0,zd,r]
  rw [k]
  unfold sk
  split
  ·rename_i c
   rw [if_pos c]at a
   rw [tv a,insG_inner j R (y::B) (λz u=>g z (HP _ u)) so]
   simp
  ·rename_i c
   rw [if_neg c]at a
   rw [dE a]
   simp
theorem insG_outer:∀(l R:List α),(∀y∈R,S y)->(∀y∈l,S y)->R.length+l.length<=1000->∀n:Int,n=R.length+l.length->cI (sj br t n 0) ((R.length:Int),R.reverse++l)=some (sortF lt R l).reverse
 | [],R,_,_,_,n,c=>by
  rw [List.append_nil]
  exact dE (by unfold sj;dsimp only;rw [if_neg (by simp at c;simp [c])];rfl)
 |x::l,R,j,g,hle,n,c=>by
  have hlen:(sk lt x R).length=R.length+1:=by rw [(ou lt x R).length_eq];rfl
  have k:R.length+(l.length+1)<=1000:=by simpa using hle
  have a:sj br t n 0 ((R.length:Int),R.reverse++x::l)=some (.next (((sk lt x R).length:Int),(sk lt x R).reverse++l)):=by
   unfold sj
   dsimp only
   rw [if_pos (by simp [c];omega),insG_inner hbr (g x zb) R l j za,zd,w64 so so,hlen]
   simp
  rw [tv a]
  refine insG_outer l (sk lt x R) (λy f=>?_) (λy f=>g y (HP _ f)) za n (by rw [hlen,c];simp;omega)
  rcases List.mem_cons.1 ((ou lt x R).mem_iff.1 f)with rfl|f
  ·exact g _ zb
  ·exact j y f
theorem insG_at{l:List α}(a:∀y∈l,S y)(f:l.length<=1000):insG br t 0 (l.length:Int) l=some (m9 lt l):=by
 unfold insG
 rw [w64 za za]
 cases l with
 |nil=>rw [dE (o:=[]) (by unfold sj;dsimp only;rw [if_neg zb];rfl)];rfl
 |cons x l=>
  have h:=insG_outer hbr l [x] (by simpa using a x zb) (λy g=>a y (HP _ g)) (by simp at f⊢;omega) ((x::l).length:Int) so
  have c:cI (sj br t ((x::l).length:Int) 0) (0+1,x::l)=some (sortF lt [x] l).reverse:=h
  rw [c];rfl
end
theorem oK:∀{r s:List Int},r.Perm s->r.Pairwise (· <= ·)->s.Pairwise (· <= ·)->r=s
 | [],s,h,_,_=>h.nil_eq
 |a::r,[],h,_,_=>h.eq_nil
 |a::r,b::s,h,h1,g=>by
  obtain⟨a1,a2⟩:=List.pairwise_cons.1 h1
  obtain⟨b1,b2⟩:=List.pairwise_cons.1 g
  have e:a=b:=by
   rcases List.mem_cons.1 (h.mem_iff.1 (HQ (a:=a) (l:=r)))with c|c
   ·exact c
   ·rcases List.mem_cons.1 (h.mem_iff.2 (HQ (a:=b) (l:=s)))with f|f
    ·exact f.symm
    ·have:=a1 b f;have:=b1 a c;omega
  subst e
  rw [oK ((List.perm_cons a).1 h) a2 b2]
end Go.Dw.Ef
set_option maxRecDepth 100000
set_option maxHeartbeats 4000000
namespace Go.Dw.Ef
open Go.Dw Go.Proofs
def Dg(l:List Int):Prop:=∀x∈l,0<=x∧x<=1073741823
theorem shr30{n:Int}(a:0<=n):tU .i64 n 30=n / 1073741824:=by
 show n.fdiv (2 ^ (min (30:Int).toNat 64))=n / 1073741824
 rw [Gj _ (by decide)]
 rfl
theorem oT{v:Int}(h:0<=v):wO v 1073741824=some (v%1073741824):=by
 unfold wO;rw [if_neg (by decide),Int.tmod_eq_emod_of_nonneg h]
theorem quo_at{v:Int}(h:0<=v)(h1:v<=9223372036854775807):um .i64 v 1073741824=some (v / 1073741824):=by
 unfold um;rw [if_neg (by decide),HC h,w64 za za]
theorem dig_lt{l:List Int}{k:Nat}(h:k<l.length):lm l k=some l[k]:=by
 unfold lm
 rw [if_neg so,kp rfl h];rfl
theorem dig_ge{l:List Int}{k:Nat}(h:l.length<=k):lm l k=some 0:=by
 unfold lm
 rw [if_pos so]
theorem Dg.get{l:List Int}(h:Dg l){k:Nat}(hk:k<l.length):0<=l[k]∧l[k]<=1073741823:=h _ (FB hk)
theorem Dg.set{l:List Int}(h:Dg l){k:Nat}{x:Int}(a:0<=x∧x<=1073741823):Dg (l.set k x):=λy c=>by
 rcases List.mem_or_eq_of_mem_set c with h1|rfl
 ·exact h y h1
 ·exact a
theorem getD_set_ne{l:List Int}{i j:Nat}{x:Int}(h:i≠j):(l.set i x).getD j 0=l.getD j 0:=by
 rw [Fx,Fx,EX h]
theorem getD_set_eq{l:List Int}{i:Nat}{x:Int}(h:i<l.length):(l.set i x).getD i 0=x:=by
 rw [Fx,EY h];rfl
theorem ib{l:List Int}{i:Nat}(h:i<l.length):l.getD i 0=l[i]:=by
 rw [Fx,ze h];rfl
theorem C7{l:List Int}{i:Nat}(h:i<l.length)(a:l[i]=0):l.set i 0=l:=by
 apply List.ext_getElem?
 intro j
 by_cases e:i=j
 ·subst e;rw [EY h,ze h,a]
 ·rw [EX e]
theorem row_eq(a b:List Int)(i:Nat)(hi:i<a.length)(L:Dg a)(N:Dg b)(F:a.length<=1000)(G:b.length<=1000):∀d k:Nat,k+d=b.length->∀(c:Int)(o:List Int),0<=c->c<=1073741823->Dg o->o.length=a.length+b.length->o.getD (i+b.length) 0=0->
  ∃r,cI (d9 b i a[i]) (c,(k:Int),o)=some ((i:Int),r)∧cI (eN b i a) (c,(k:Int),o)=some ((i:Int),r)∧Dg r∧r.length=o.length∧(∀j,i+b.length<j->r.getD j 0=o.getD j 0)∧
   ((d=0->c≠0∨(1<=b.length∧o.getD (i+b.length-1) 0≠0))->(∀h:0<d,1<=a[i]∧1<=b.getD (b.length-1) 0)->1<=b.length->r.getD (i+b.length) 0≠0∨r.getD (i+b.length-1) 0≠0)
 |0,k,hk,c,o,p,J,q,Q,I=>by
  have hk:k=b.length:=by omega
  subst hk
  have f:i+b.length<o.length:=by omega
  have l:o[i+b.length]=0:=by rw [<-ib f];exact I
  have u:d9 b i a[i] (c,(b.length:Int),o)=some (.next (0,((b.length+1:Nat):Int),o.set (i+b.length) c)):=by
   unfold d9
   dsimp only
   rw [w64 (n := (b.length : Int) + 1) za za, if_pos so, w64 (n := (i : Int) + b.length) za za, if_pos so, tN za za, zd, kp (i := i + b.length) za f, zd,
    dig_ge (EB _),zd,l,Int.mul_zero,w64 (n:=0) za za,Gi,w64 (n:=0) za za,Gi,w64 (n:=c) za za,oT p,zd,zd,vz (i:=i+b.length) za f,zd,shr30 p]
   rw [show c / 1073741824=0 by omega,show c%1073741824=c by omega]
   rfl
  have e2:d9 b i a[i] (0,((b.length+1:Nat):Int),o.set (i+b.length) c)=some (.stop ((i:Int),o.set (i+b.length) c)):=by
   unfold d9
   dsimp only
   rw [w64 (n:=(b.length:Int)+1) za za,if_neg zb]
  refine⟨o.set (i+b.length) c,by rw [tv u,dE e2],?_,q.set ⟨p,J⟩,zb,λj O=>getD_set_ne za,λh _ _=>?_⟩
  ·by_cases hc:0<c
   ·have z:eN b i a (c,(b.length:Int),o)=some (.next (0,((b.length+1:Nat):Int),o.set (i+b.length) c)):=by
     unfold eN
     dsimp only
     rw [if_neg zb,if_pos (by simpa using hc)]
     unfold nC nB
     rw [w64 (n := (i : Int) + b.length) za za, tN za za, zd, kp (i := i + b.length) za f, zd, if_neg zb, l, Gi, w64 (n := c) za za, oT p, zd, zd,
      vz (i:=i+b.length) za f,zd,quo_at p za,zd,w64 (n:=(b.length:Int)+1) za za]
     rw [show c / 1073741824=0 by omega,show c%1073741824=c by omega]
     rfl
    have W:eN b i a (0,((b.length+1:Nat):Int),o.set (i+b.length) c)=some (.stop ((i:Int),o.set (i+b.length) c)):=by
     unfold eN
     dsimp only
     rw [if_neg so,if_neg zb]
    rw [tv z,dE W]
   ·have D:c=0:=by omega
    subst D
    rw [C7 f l]
    apply dE
    unfold eN
    dsimp only
    rw [if_neg zb,if_neg zb]
  ·rcases h rfl with h|⟨h1,h⟩
   ·left;rw [getD_set_eq f];exact h
   ·right;rw [getD_set_ne za];exact h
 |d+1,k,hk,c,o,p,J,q,Q,I=>by
  have g:k<b.length:=by omega
  have f:i+k<o.length:=by omega
  have T:=L.get hi;have H:=N.get g;have ho:=q.get f
  have hp:0<=a[i]*b[k]∧a[i]*b[k]<=1073741823*1073741823:=⟨Gs T.1 H.1,Gr T.2 H.2 H.1 za⟩
  generalize hv:c+(o[i+k]+a[i]*b[k])=v
  have v0:0<=v:=by omega
  have v1:v<=1152921504606846975:=by omega
  have u:d9 b i a[i] (c,(k:Int),o)=some (.next (v / 1073741824,((k+1:Nat):Int),o.set (i+k) (v%1073741824))):=by
   unfold d9
   dsimp only
   rw [w64 (n := (b.length : Int) + 1) za za, if_pos so, w64 (n := (i : Int) + k) za za, if_pos so, tN za za, zd, kp (i := i + k) za f, zd,
    dig_lt g,zd,w64 (n:=a[i]*b[k]) za za,w64 (n:=o[i+k]+a[i]*b[k]) za za,hv,w64 (n:=v) za za,oT v0,zd,zd,vz (i:=i+k) za f,zd,shr30 v0,w64 (n:=(k:Int)+1) za za]
   rfl
  have z:eN b i a (c,(k:Int),o)=some (.next (v / 1073741824,((k+1:Nat):Int),o.set (i+k) (v%1073741824))):=by
   unfold eN
   dsimp only
   rw [if_pos so]
   unfold nC nB
   rw [w64 (n := (i : Int) + k) za za, tN za za, zd, kp (i := i + k) za f, zd, if_pos so, kp rfl hi, zd, kp rfl g, zd,
    w64 (n:=c+o[i+k]) za za,w64 (n:=a[i]*b[k]) za za,show c+o[i+k]+a[i]*b[k]=v by omega,w64 (n:=v) za za,oT v0,zd,zd,
    vz (i:=i+k) za f,zd,quo_at v0 za,zd,w64 (n:=(k:Int)+1) za za]
   rfl
  obtain⟨r,r1,r2,r3,r4,r5,r6⟩:=row_eq a b i hi L N F G d (k+1) za (v / 1073741824) (o.set (i+k) (v%1073741824)) za za (q.set ⟨za,za⟩) (by simpa using Q) (by rw [getD_set_ne za];exact I)
  refine⟨r,by rw [tv u,r1],by rw [tv z,r2],r3,by rw [r4];simp,λj O=>by rw [r5 j O,getD_set_ne za],λ_ X K=>?_⟩
  have B:=X za
  refine r6 (λY=>?_) (λ_=>B) K
  subst Y
  have E:k=b.length-1:=by omega
  have C:1<=b[k]:=by rw [<-ib g,E];exact B.2
  have a5:1<=a[i]*b[k]:=by
   have:=Gr B.1 C za za;omega
  by_cases hq:v / 1073741824=0
  ·right
   refine⟨K,?_⟩
   rw [show i+b.length-1=i+k by omega,getD_set_eq f]
   omega
  ·exact .inl hq
theorem rows_eq(a b:List Int)(D:Dg a)(E:Dg b)(f:a.length<=1000)(g:b.length<=1000):∀d i:Nat,i+d=a.length->∀o:List Int,Dg o->o.length=a.length+b.length->(∀j,i+b.length<=j->o.getD j 0=0)->
  ∃r,cI (eF a b) ((i:Int),o)=some r∧cI (jF a b) ((i:Int),o)=some r∧Dg r∧r.length=o.length∧(0<d->1<=a.getD (a.length-1) 0->1<=b.length->1<=b.getD (b.length-1) 0->∃x∈r,x≠0)
 |0,i,hi,o,k,F,u=>by
  refine⟨o,dE ?_,dE ?_,k,rfl,zb⟩
  ·unfold eF;dsimp only;rw [if_neg so]
  ·unfold jF;dsimp only;rw [if_neg so]
 |d+1,i,hi,o,k,F,u=>by
  have c:i<a.length:=by omega
  obtain⟨r,G,H,O,Y,Q,T⟩:=row_eq a b i c D E f g b.length 0 za 0 o za za k F (u _ (EB _))
  have I:eF a b ((i:Int),o)=some (.next (((i+1:Nat):Int),r)):=by
   unfold eF
   dsimp only
   rw [if_pos so,kp rfl c,zd]
   have:((0:Nat):Int)=0:=rfl
   rw [this]at G
   rw [G,zd,w64 (n:=(i:Int)+1) za za]
   rfl
  have e2:jF a b ((i:Int),o)=some (.next (((i+1:Nat):Int),r)):=by
   unfold jF
   dsimp only
   rw [if_pos so]
   have:((0:Nat):Int)=0:=rfl
   rw [this]at H
   rw [H,zd,w64 (n:=(i:Int)+1) za za]
   rfl
  obtain⟨q,z,K,L,X,N⟩:=rows_eq a b D E f g d (i+1) za r O za (λj W=>by rw [Q j za];exact u j za)
  refine⟨q,by rw [tv I,z],by rw [tv e2,K],L,za,λ_ h1 B C=>?_⟩
  rcases GY d with l|l
  ·subst l
   have J:q=r:=by
    have:cI (eF a b) (((i+1:Nat):Int),r)=some r:=dE (by unfold eF;dsimp only;rw [if_neg so])
    rw [this]at z;exact(Option.some.inj z).symm
   subst J
   have p:=T (λh=>za) (λ_=>⟨by rw [<-ib c,show i=a.length-1 by omega];exact h1,C⟩) B
   rcases p with h|h
   ·refine⟨_,?_,h⟩
    rw [ib za];exact FB _
   ·refine⟨_,?_,h⟩
    rw [ib za];exact FB _
  ·exact N l h1 B C
theorem mult_same{a b:List Int}(l:Dg a)(p:Dg b)(c:a.length<=1000)(f:b.length<=1000):∃r,Dg r∧r.length=a.length+b.length∧jj a b=js r∧pQ a b=js r∧(1<=a.length->1<=a.getD (a.length-1) 0->1<=b.length->1<=b.getD (b.length-1) 0->∃x∈r,x≠0):=by
 have hm:mkO (GV .i64 ((a.length:Int)+(b.length:Int))) (0:Int) 8=some (EA (a.length+b.length) 0):=by
  rw [w64 za za]
  unfold mkO
  rw [if_pos ⟨za,za,za⟩]
  congr 2
 obtain ⟨r, g, k, u, z, B⟩ := rows_eq a b l p c f a.length 0 za (EA (a.length + b.length) 0) (λx q => by rw [List.eq_of_mem_replicate q]; omega) zb (λj _ => by
  rw [Fx,List.getElem?_replicate];split<;>rfl)
 refine⟨r,u,by rw [z];simp,?_,?_,λh=>B za⟩
 ·unfold jj
  have e:((0:Nat):Int)=0:=rfl
  rw [e]at g
  rw [hm,zd,g,zd,Hm]
 ·unfold pQ
  have e:((0:Nat):Int)=0:=rfl
  rw [e]at k
  rw [hm,zd,k,zd,Hm]
  rfl
end Go.Dw.Ef
set_option maxRecDepth 100000
set_option maxHeartbeats 4000000
namespace Go.Dw.Ef
open Go.Dw Go.Proofs
def Top(l:List Int):Prop:=l≠ []->l.getD (l.length-1) 0≠0
theorem trim_of{l:List Int}(h:Top l)(a:l.length<=4000):js l=some l:=by
 unfold js
 rw [Hm]
 apply dE
 unfold nS
 by_cases e:l=[]
 ·subst e;rw [if_neg zb]
 ·have hp:0<l.length:=List.length_pos_iff.2 e
  rw [if_pos (by simp;exact hp),w64 za za,kp (i:=l.length-1) za za,zd,if_neg]
  have:=h e
  rw [ib za]at this
  simpa using this
theorem trim_zero{l:List Int}(a:l.length<=4000):js (l++[0])=js l:=by
 unfold js
 rw [Hm,Hm]
 apply tv
 unfold nS
 rw [if_pos zb,w64 zb so,kp (i:=l.length) zb zb,zd,if_pos zb]
 unfold w6
 rw [if_pos ⟨zb,zb,so⟩]
 simp
theorem trim_ok{l:List Int}(z:l.length<=4000):Ok (js l) (λr=>r.length<=l.length∧Top r∧(Dg l->Dg r)∧((∃x∈l,x≠0)->r≠ [])):=by
 unfold js
 rw [Hm]
 refine H5 (λs:List Int=>s.length<=l.length∧(Dg l->Dg s)∧((∃x∈l,x≠0)->∃x∈s,x≠0)) (λs=>s.length) ?_ ⟨EB _,id,id⟩
 rintro s ⟨i0,i1,i2⟩
 unfold nS
 refine Hc (λj => ?_) (λh => Hb ⟨i0, λe => (e (List.length_eq_zero_iff.1 za)).elim, i1, λc => by
  obtain⟨x,c, -⟩:=i2 c
  intro e;subst e;cases c⟩)
 rw [w64 za za]
 refine HZ (H2 za za) (λa u => He (λg => ?_) (λg => Hb ⟨i0, λ_ => ?_, i1, λc => by
  obtain⟨x,c, -⟩:=i2 c
  intro e;subst e;cases c⟩))
 ·obtain⟨q,rfl⟩:∃q,s=q++[0]:=by
   have f:s≠ []:=by intro e;subst e;simp at j
   refine⟨s.dropLast,?_⟩
   have:=u.2
   rw [show((s.length:Int)-1).toNat=s.length-1 by omega,ze za]at this
   have:=Option.some.inj this
   rw [<-List.getLast_eq_getElem (by exact f),g]at this
   rw [<-this]
   exact(List.dropLast_concat_getLast f).symm
  refine HZ (Ok.cut za zb so) (λy p=>?_)
  have p:y=q:=by rw [p];simp
  subst p
  simp only [F0,EZ,E0]at i0
  refine H7 ⟨za,λh x c=>i1 h x (List.mem_append_left _ c),λh=>?_⟩ zb
  obtain⟨x,c,k⟩:=i2 h
  rcases List.mem_append.1 c with h|h
  ·exact⟨x,h,k⟩
  ·rw [List.mem_singleton.1 h]at k;exact(k rfl).elim
 ·rw [Fx]
  have:=u.2
  rw [show((s.length:Int)-1).toNat=s.length-1 by omega]at this
  rw [this];exact g
def okD(x:Int):Bool:=decide (0<=x)&&decide (x<=1073741823)
def vN(l:List Int):Bool:=decide (l.length<=64)&&(l.all okD&&(decide (l=[])||decide (l.getD (l.length-1) 0≠0)))
theorem oX{l:List Int}:vN l=true↔l.length<=64∧Dg l∧Top l:=by
 unfold vN Top Dg okD
 simp only [E8,decide_eq_true_eq,List.all_eq_true,HW]
 constructor
 ·rintro⟨h1,a,c⟩
  exact⟨h1,a,λf=>c.resolve_left f⟩
 ·rintro⟨h1,a,c⟩
  refine⟨h1,a,?_⟩
  by_cases e:l=[]
  ·exact .inl e
  ·exact .inr (c e)
theorem allD{l:List Int}(E:l.length<=4000):dD l=some (!l.all okD):=by
 refine H0 ?_
 unfold dD gg
 refine HZ (P:=λr:Int=>(decide (r>=0))= !l.all okD) ?_ (λr B=>H9 B)
 refine HZ (P:=λo:Unit⊕Int=>match o with| .inl _=>l.all okD=true| .inr r=>0<=r∧l.all okD=false) (Hd l.length za (λi=>∀k,(h:k<l.length)->(k:Int)<i->okD l[k]=true) (λk _ h=>za) (λi D h1 J=>?_)) (λo ho=>?_)
 ·unfold fo oJ
  refine Hc (λz => ?_) (λu => Hb (List.all_eq_true.2 λx C => by
   obtain⟨k,hk,rfl⟩:=HN C
   exact J k hk za))
  obtain⟨j,rfl⟩:∃j:Nat,i=j:=⟨i.toNat,za⟩
  refine HZ (Ok.of (kp rfl za) rfl) (λa(f:l[j]'za=a)=>?_)
  have p:=f.symm
  refine HZ (P:=λb=>b= !okD a) (Hc (λh=>H9 (by unfold okD;rw [show decide (0<=a)=false from decide_eq_false za];rfl)) (λh=>H9 (by unfold okD;rw [show decide (0<=a)=true from decide_eq_true za,HX];by_cases g:a<=1073741823<;>simp [g]<;>omega))) (λb c=>?_)
  rw [w64 za za]
  subst c
  refine H3 (λc=>Hb ⟨za,?_⟩) (λc=>H7 ⟨⟨za,za⟩,λk hk q=>?_⟩ za)
  ·refine Bool.eq_false_iff.2 λh=>?_
   have:=List.all_eq_true.1 h a (by rw [p];exact FB _)
   rw [this]at c;cases c
  ·by_cases e:k=j
   ·subst e;rw [<-p];simpa using c
   ·exact J k hk za
 ·rcases o with _|r
  ·refine H9 ?_
   simp only at ho
   rw [ho];decide
  ·refine H9 ?_
   rw [ho.2];simp;exact ho.1
theorem nv_eq{l:List Int}(c:l.length<=4000):mr l=some (vN l):=by
 unfold mr vN
 by_cases h:l.length<=64
 ·rw [if_neg so]
  by_cases e:l=[]
  ·subst e
   rw [if_neg zb,allD zb]
   rfl
  ·have hp:0<l.length:=List.length_pos_iff.2 e
   rw [if_pos (by simp;exact hp),w64 za za,kp (i:=l.length-1) za za,zd,allD c]
   rw [decide_eq_true h,decide_eq_false e,ib za]
   by_cases a:l[l.length-1]=0
   ·rw [if_pos (by simp [a])];simp [a]
   ·rw [if_neg (by simp [a])];simp [a]
 ·rw [if_pos so,decide_eq_false h];rfl
theorem rin_at(a b c:Int):cZ a b c=some (decide (b<=a)&&decide (a<=c)):=by
 unfold cZ
 by_cases h:b<=a
 ·rw [if_pos so];simp [h]
 ·rw [if_neg so];simp [h]
theorem ro{l:List Int}(C:l.length<=4000):fS l=some (vN l):=by
 refine H0 ?_
 unfold fS
 refine HZ (P:=λo:Unit⊕Bool=>match o with| .inl _=>l.all okD=true| .inr r=>r=false∧l.all okD=false) (Hd l.length za (λi=>∀k,(h:k<l.length)->(k:Int)<i->okD l[k]=true) (λk _ h=>za) (λi B h1 J=>?_)) (λo ho=>?_)
 ·unfold oL
  refine Hc (λu => ?_) (λq => Hb (List.all_eq_true.2 λx z => by
   obtain⟨k,hk,rfl⟩:=HN z
   exact J k hk za))
  obtain⟨j,rfl⟩:∃j:Nat,i=j:=⟨i.toNat,za⟩
  refine HZ (Ok.of (kp rfl za) rfl) (λa(f:l[j]'za=a)=>?_)
  have g:=f.symm
  rw [rin_at,zd,w64 za za]
  refine Ok.yw (λc=>Hb ⟨rfl,?_⟩) (λc=>H7 ⟨⟨za,za⟩,λk hk p=>?_⟩ za)
  ·refine Bool.eq_false_iff.2 λh=>?_
   have:=List.all_eq_true.1 h a (by rw [g];exact FB _)
   unfold okD at this
   rw [this]at c;cases c
  ·by_cases e:k=j
   ·subst e;rw [<-g];exact c
   ·exact J k hk za
 ·unfold vN
  rcases o with _|r
  ·simp only at ho
   rw [ho]
   refine Hc (λh=>?_) (λh=>H9 so)
   by_cases e:l=[]
   ·subst e;exact He (λ_=>H9 zb) (λh=>by simp at h)
   ·have hp:0<l.length:=List.length_pos_iff.2 e
    refine He (λh=>za) (λ_=>?_)
    rw [w64 za za,kp (i:=l.length-1) za za,zd]
    refine H9 ?_
    rw [ib za,decide_eq_true za,decide_eq_false e]
    simp;rfl
  ·rw [ho.2,ho.1];exact H9 zb
theorem Top.get{l:List Int}(h:Top l)(a:Dg l)(c:1<=l.length):1<=l.getD (l.length-1) 0:=by
 have:=h (by intro e;subst e;simp at c)
 have f:=a.get (k:=l.length-1) za
 rw [ib za]at*
 omega
theorem lim_at{l:List Int}(h:Top l)(a:l.length<=4000):gK l=fj l:=by
 unfold gK fj
 rw [trim_of h a,zd]
theorem mulV{a b:List Int}(p:vN a=true)(q:vN b=true):∃r,jj a b=some r∧pQ a b=some r∧Top r∧Dg r∧r.length<=128∧(a≠ []->b≠ []->r≠ []):=by
 obtain⟨a1,a2,a3⟩:=oX.1 p
 obtain⟨b1,b2,g⟩:=oX.1 q
 obtain⟨o,u,G,z,B,C⟩:=mult_same a2 b2 za za
 obtain⟨r,e,H,D,E,F⟩:=trim_ok (l:=o) za
 refine⟨r,by rw [z,e],by rw [B,e],D,E u,za,λj k=>F ?_⟩
 have c:=List.length_pos_iff.2 j
 have f:=List.length_pos_iff.2 k
 exact C c (a3.get a2 c) f (g.get b2 f)
theorem Mul_eq{a b:List Int}(c:a.length<=4000)(f:b.length<=4000):∃r,nat_Mul a b=some r∧nj a b=some r∧r.1.length<=64:=by
 unfold nat_Mul nj qW
 rw [nv_eq c,ro c,zd,zd,nv_eq f,ro f]
 cases j:vN a with
 |false=>exact⟨_,rfl,rfl,zb⟩
 |true=>
  cases k:vN b with
  |false=>exact⟨_,rfl,rfl,zb⟩
  |true=>
   obtain⟨r,g,e2,l, -,p, -⟩:=mulV j k
   simp only [if_true,zd,HV,FD,if_false,g,e2,lim_at l (show r.length<=4000 by omega)]
   unfold fj
   by_cases h:r.length<=64
   ·rw [if_neg so];exact⟨_,rfl,rfl,h⟩
   ·rw [if_pos so];exact⟨_,rfl,rfl,zb⟩
theorem From_eq{n:Int}(h:n<=9223372036854775807):∃r,tc n=some r∧qj n=some r∧r.1.length<=4:=by
 unfold tc qj
 by_cases f:n<0
 ·rw [if_pos (by simpa using f),if_pos (by simpa using f)];exact⟨_,rfl,rfl,zb⟩
 ·rw [if_neg (by simpa using f),if_neg (by simpa using f)]
  have D:fQ=λs=>if 0<=s.1∧s.1<=9223372036854775807 then eQ s else fQ s:=by
   funext ⟨x,l⟩
   dsimp only
   by_cases a:0<=x∧x<=9223372036854775807
   ·rw [if_pos a]
    unfold fQ eQ
    dsimp only
    rw [oT a.1,quo_at a.1 a.2,shr30 a.1]
    simp only [zd]
   ·rw [if_neg a]
  have key:∀m:Nat,∀x:Int,0<=x->x<=9223372036854775807->x<1073741824 ^ m->∀l:List Int,l.length+m<=4->∃r,cI fQ (x,l)=some r∧cI eQ (x,l)=some r∧r.length<=4:=by
   intro m
   induction m with
   |zero=>
    intro x c _ p l B
    have:x=0:=by simp at p;omega
    subst this
    exact⟨l,dE (by unfold fQ;rfl),dE (by unfold eQ;rfl),za⟩
   |succ m C=>
    intro x c p u l B
    by_cases a:x>0
    ·have q:tE l [x%1073741824] 8=some (l++[x%1073741824]):=by
      unfold tE;rw [if_pos so]
     have z:fQ (x,l)=some (.next (x / 1073741824,l++[x%1073741824])):=by
      unfold fQ;dsimp only
      rw [if_pos (by simpa using a),oT c,zd,q,zd,shr30 c]
     have e2:eQ (x,l)=some (.next (x / 1073741824,l++[x%1073741824])):=by
      unfold eQ;dsimp only
      rw [if_pos (by simpa using a),oT c,zd,q,zd,quo_at c p,zd]
     rw [HA]at u
     obtain⟨r,g,j,k⟩:=C (x / 1073741824) za za (Int.ediv_lt_of_lt_mul za u) (l++[x%1073741824]) so
     exact⟨r,by rw [tv z,g],by rw [tv e2,j],k⟩
    ·refine⟨l,dE (by unfold fQ;dsimp only;rw [if_neg (by simpa using a)]),dE (by unfold eQ;dsimp only;rw [if_neg (by simpa using a)]),za⟩
  obtain⟨r,g,j,k⟩:=key 4 n za h za [] zb
  exact⟨(r,0),by rw [g];rfl,by rw [j];rfl,k⟩
end Go.Dw.Ef
set_option maxRecDepth 100000
set_option maxHeartbeats 4000000
namespace Go.Dw.Ef
open Go.Dw Go.Proofs
theorem dig_v{l:List Int}(h:Dg l)(k:Nat):lm l k=some (l.getD k 0)∧0<=l.getD k 0∧l.getD k 0<=1073741823:=by
 by_cases hk:k<l.length
 ·rw [dig_lt hk,ib hk];exact⟨rfl,h.get hk⟩
 ·rw [dig_ge za,Fx,HL za];exact⟨rfl,zb,zb⟩
theorem app_d{l:List Int}{x:Int}(h:l.length<=4000):tE l [x] 8=some (l++[x]):=by
 unfold tE;rw [if_pos so]
theorem add_step{a b:List Int}(p:Dg a)(q:Dg b){m:Nat}(hm:m=max a.length b.length){i:Nat}(hi:i<m)(r:m<=1000){c:Int}(u:0<=c)(z:c<=1){o:List Int}(ho:o.length<=2000):
  let v:=c+(a.getD i 0+b.getD i 0)
  gH b a (c,(i:Int),o)=some (.next (v / 1073741824,((i+1:Nat):Int),o++[v%1073741824]))∧fi a b (c,(i:Int),o)=some (.next (v / 1073741824,((i+1:Nat):Int),o++[v%1073741824])):=by
 obtain⟨a1,a2,a3⟩:=dig_v p i
 obtain⟨b1,b2,k⟩:=dig_v q i
 intro v
 have v0:0<=v:=by show 0<=c+_;omega
 have v1:v<=9223372036854775807:=by show c+_<=_;omega
 constructor
 ·unfold gH
  dsimp only
  rw [show (if (b.length : Int) > (a.length : Int) then (b.length : Int) else (a.length : Int)) = (m : Int) by split <;> omega, w64 (n := (m : Int) + 1) za za, if_pos so, a1, zd, b1, zd,
   w64 (n:=a.getD i 0+b.getD i 0) za za,show c+(a.getD i 0+b.getD i 0)=v from rfl,w64 (n:=v) za za,oT v0,zd,app_d za,zd,shr30 v0,w64 (n:=(i:Int)+1) za za]
  rfl
 ·have f:∀w:Int,w=v->lQ o i w=some (.next (v / 1073741824,((i+1:Nat):Int),o++[v%1073741824])):=λw hw=>by
   subst hw
   unfold lQ
   rw [oT v0,zd,app_d za,zd,quo_at v0 v1,zd,w64 (n:=(i:Int)+1) za za]
   rfl
  have g:∀w:Int,w=c+a.getD i 0->lR i b o w=some (.next (v / 1073741824,((i+1:Nat):Int),o++[v%1073741824])):=λw hw=>by
   subst hw
   unfold lR
   by_cases h:i<b.length
   ·rw [if_pos so,kp rfl h,zd]
    rw [ib h]at b2 k
    refine f _ ?_
    rw [w64 za za]
    show _=c+(_+b.getD i 0)
    rw [ib h];omega
   ·rw [if_neg so]
    refine f _ ?_
    show _=c+(_+b.getD i 0)
    rw [Fx (l:=b),HL (l:=b) za]
    simp
  have j:jD i a b o c=some (.next (v / 1073741824,((i+1:Nat):Int),o++[v%1073741824])):=by
   unfold jD
   by_cases h:i<a.length
   ·rw [if_pos so,kp rfl h,zd]
    refine g _ ?_
    rw [ib h]at a2 a3
    rw [w64 za za,ib h]
   ·rw [if_neg so]
    refine g _ ?_
    rw [Fx,HL za]
    simp
  unfold fi
  dsimp only
  by_cases h:i<a.length
  ·rw [if_pos so,j]
  ·rw [if_neg so,if_pos so,j]
theorem Top_snoc{l:List Int}{x:Int}(h:x≠0):Top (l++[x]):=λ_=>by
 rw [Fx];simp [h]
theorem add_loop{a b:List Int}(l:Dg a)(p:Dg b)(u:Top a)(z:Top b){m:Nat}(hm:m=max a.length b.length)(k:m<=1000):∀d i:Nat,i+d=m->∀(c:Int)(o:List Int),0<=c->c<=1->o.length=i->(d=0->c=0->Top o)->
  ∃r g,cI (gH b a) (c,(i:Int),o)=some g∧cI (fi a b) (c,(i:Int),o)=some r∧Top r∧g.length<=m+1∧r.length<=m+1∧(g=r∨g=r++[0])
 |0,i,hi,c,o,f,q,ho,B=>by
  have j:gH b a (c,(i:Int),o)=some (.next (0,((i+1:Nat):Int),o++[c])):=by
   unfold gH
   dsimp only
   rw [show (if (b.length : Int) > (a.length : Int) then (b.length : Int) else (a.length : Int)) = (m : Int) by split <;> omega, w64 (n := (m : Int) + 1) za za, if_pos so, dig_ge za, zd, dig_ge za, zd,
    Gi,w64 (n:=0) za za,Gi,w64 (n:=c) za za,oT f,zd,app_d za,zd,shr30 f,w64 (n:=(i:Int)+1) za za,show c / 1073741824=0 by omega,show c%1073741824=c by omega]
   rfl
  have e2:gH b a (0,((i+1:Nat):Int),o++[c])=some (.stop (o++[c])):=by
   unfold gH
   dsimp only
   rw [show(if(b.length:Int)>(a.length:Int)then(b.length:Int)else(a.length:Int))=(m:Int)by split<;>omega,w64 (n:=(m:Int)+1) za za,if_neg so]
  by_cases hc:c=0
  ·subst hc
   refine⟨o,o++[0],by rw [tv j,dE e2],dE ?_,B rfl rfl,so,za,.inr rfl⟩
   unfold fi
   dsimp only
   rw [if_neg so,if_neg so,if_neg zb]
  ·have C:fi a b (c,(i:Int),o)=some (.next (0,((i+1:Nat):Int),o++[c])):=by
    unfold fi
    dsimp only
    rw [if_neg so,if_neg so,if_pos so]
    unfold jD lR lQ
    rw [if_neg so,if_neg so,oT f,zd,app_d za,zd,quo_at f za,zd,w64 (n:=(i:Int)+1) za za,show c / 1073741824=0 by omega,show c%1073741824=c by omega]
    rfl
   refine⟨o++[c],o++[c],by rw [tv j,dE e2],?_,Top_snoc hc,so,so,.inl rfl⟩
   rw [tv C]
   apply dE
   unfold fi
   dsimp only
   rw [if_neg so,if_neg so,if_neg zb]
 |d+1,i,hi,c,o,f,q,ho,B=>by
  obtain⟨j,e2⟩:=add_step l p hm (i:=i) za k f q (o:=o) za
  obtain⟨-,a2,a3⟩:=dig_v l i
  obtain⟨-,b2,K⟩:=dig_v p i
  generalize L:c+(a.getD i 0+b.getD i 0)=v at j e2
  obtain ⟨r, g, E, F, G, H, I, J⟩ := add_loop l p u z hm k d (i + 1) za (v / 1073741824) (o ++ [v % 1073741824]) za za so (λD N => Top_snoc (by
   subst D
   have:1<=v:=by
    by_cases h:b.length<=a.length
    ·have:=u.get l za
     rw [show a.length-1=i by omega]at this;omega
    ·have:=z.get p za
     rw [show b.length-1=i by omega]at this;omega
   omega))
  exact⟨r,g,by rw [tv j,E],by rw [tv e2,F],G,H,I,J⟩
theorem Add_eq{a b:List Int}(c:a.length<=4000)(f:b.length<=4000):∃r,nat_Add a b=some r∧rK a b=some r∧r.1.length<=64:=by
 unfold nat_Add rK qW
 rw [nv_eq c,ro c,zd,zd,nv_eq f,ro f]
 cases q:vN a with
 |false=>exact⟨_,rfl,rfl,zb⟩
 |true=>
  cases u:vN b with
  |false=>exact⟨_,rfl,rfl,zb⟩
  |true=>
   obtain⟨a1,a2,a3⟩:=oX.1 q
   obtain⟨b1,b2,l⟩:=oX.1 u
   obtain⟨r,B,g,j,k,D,E,C⟩:=add_loop a2 b2 a3 l (m:=max a.length b.length) rfl za (max a.length b.length) 0 za 0 [] za za rfl (λ_ _ h=>(h rfl).elim)
   have p:((0:Nat):Int)=0:=rfl
   rw [p]at g j
   have z:gK B=fj r:=by
    rcases C with rfl|rfl
    ·exact lim_at k za
    ·rw [<-lim_at k za]
     unfold gK
     rw [trim_zero za]
   simp only [if_true,zd,HV,FD,if_false,g,j,z]
   unfold fj
   by_cases h:r.length<=64
   ·rw [if_neg so];exact⟨_,rfl,rfl,h⟩
   ·rw [if_pos so];exact⟨_,rfl,rfl,zb⟩
def I64(a:Int):Prop:= -9223372036854775808<=a∧a<=9223372036854775807
theorem pV(a:Int):I64 (GV .i64 a):=by
 unfold I64;rw [Hh];omega
theorem oA{a:Int}(h:I64 a):∃r,eu a=some r∧fK a=some r∧r.length<=64:=by
 have c:=pV (0-a)
 unfold I64 at h c
 obtain⟨x,f,g,p⟩:=From_eq (n:=if(GV .i64 (0-a))>a then(GV .i64 (0-a))else a) (by split<;>omega)
 obtain⟨y,j,k,l⟩:=Mul_eq (a:=x.1) (b:=x.1) za za
 unfold eu fK
 exact⟨y.1,by rw [f,zd,j];rfl,by rw [g,zd,k];rfl,l⟩
theorem squared_eq(a:bH)(n d:Int):∃r,iL a n d=some r∧ju a n d=some r∧r.length<=64:=by
 unfold iL ju
 obtain⟨x,c,f,l⟩:=oA (pV ((GV .i64 ((GV .i64 (a.a0*d))*d))-(GV .i64 ((GV .i64 (a.a2*n))*n))))
 obtain⟨y,g,j,p⟩:=oA (pV ((GV .i64 (a.a1*n))*d))
 obtain⟨z,k,z2,z3⟩:=Add_eq (a:=x) (b:=y) za za
 exact⟨z.1,by rw [c,zd,g,zd,k];rfl,by rw [f,zd,j,zd,z2];rfl,z3⟩
theorem sum_I64{l:List Int}(f:l.length<=4000):Ok (dU l) I64:=by
 unfold dU
 refine HZ (P:=I64) (H5 (λs:Int×Int=>(0<=s.2∧s.2<=l.length)∧I64 s.1) (λs=>((l.length:Int)-s.2).toNat) ?_ ⟨⟨zb,zb⟩,by unfold I64;simp⟩) (λo ho=>H9 ho)
 rintro⟨s1,s2⟩ ⟨⟨i0,i1⟩,i2⟩
 simp only at i0 i1 i2
 unfold jy
 refine Hc (λc=>?_) (λ_=>Hb i2)
 refine HZ (H2 za za) (λa _=>?_)
 rw [w64 (n:=s2+1) za za]
 exact H7 ⟨⟨zc,zc⟩,pV _⟩ zc
theorem total_eq{l:List Int}(a:l.length<=4000):ky l=dU l:=by
 rfl
structure StN(x:bw):Prop where
 num:I64 x.bR.a0
 den:I64 x.bO.a0
 taps:x.cx.length<=4000
 shift:0<=x.cM∧x.cM<=1000
theorem gain_eq{x:bw}(h:StN x)(n d:Int):∃r,nI x n d=some r∧qm x n d=some r.1∧r.1.bR.length<=64∧r.1.bO.length<=64∧(r.2=false->r.1.bO=[]):=by
 unfold nI qm
 by_cases f:x.cU=0
 ·rw [f]
  obtain⟨a,a1,a2,a3⟩:=oA h.num
  obtain⟨b,b1,b2,c⟩:=oA h.den
  rw [a1,a2,b1,b2]
  exact⟨_,rfl,rfl,a3,c,λe=>by cases e⟩
 ·have g:(x.cU==0)=false:=by simp [f]
  rw [g]
  by_cases h1:x.cU=1
  ·obtain⟨a,a1,a2,a3⟩:=squared_eq x.bR n d
   obtain⟨b,b1,b2,c⟩:=squared_eq x.bO n d
   rw [h1,a1,a2,b1,b2]
   exact⟨_,rfl,rfl,a3,c,λe=>by simpa using e⟩
  ·have j:(x.cU==1)=false:=by simp [h1]
   rw [j]
   obtain⟨s,s1,s2⟩:=sum_I64 h.taps
   obtain⟨a,a1,a2,a3⟩:=oA s2
   have hs:=h.shift
   have e:yI .i64 1 x.cM=some (xG .i64 1 x.cM):=by unfold yI;rw [if_neg za]
   have hw:GV .u64 x.cM=x.cM:=IntWalk.u64_in _ za
   obtain⟨b,b1,b2,c⟩:=oA (a:=xG .i64 1 x.cM) (pV _)
   rw [total_eq h.taps,s1,hw,e]
   simp only [FD,if_false,zd,a1,a2,b1,b2]
   exact⟨_,rfl,rfl,a3,c,λe=>by cases e⟩
theorem vF_eq{f:bu}(h1:f.bR.length<=4000)(a:f.bO.length<=4000):gJ f=some (vN f.bR&&(vN f.bO&&decide (f.bO≠ [])))∧fF f=some (vN f.bR&&(vN f.bO&&decide (f.bO≠ []))):=by
 unfold gJ fF
 rw [nv_eq h1,nv_eq a,ro h1,ro a]
 cases vN f.bR<;>cases vN f.bO<;>simp [List.length_pos_iff]
theorem Times_eq{a b:bu}(h1:a.bR.length<=4000)(j:a.bO.length<=4000)(k:b.bR.length<=4000)(l:b.bO.length<=4000):
  ∃r,rG a b=some r∧pg a b=some r∧(r.2=0->vN r.1.bR=true∧vN r.1.bO=true∧r.1.bO≠ [])∧(r.2≠0->r.1=⟨[],[]⟩)∧(a.bO=[]∨b.bO=[]->r.2≠0):=by
 unfold rG pg
 rw [(vF_eq h1 j).1,(vF_eq h1 j).2,zd,zd]
 by_cases c:(vN a.bR&&(vN a.bO&&decide (a.bO≠ [])))=true
 ·rw [c,(vF_eq k l).1,(vF_eq k l).2]
  by_cases f:(vN b.bR&&(vN b.bO&&decide (b.bO≠ [])))=true
  ·rw [f]
   simp only [E8,decide_eq_true_eq]at c f
   obtain⟨x,B,C,p,D,I, -⟩:=mulV c.1 f.1
   obtain⟨y,E,F,q,G,J,H⟩:=mulV c.2.1 f.2.1
   have z:=H c.2.2 f.2.2
   unfold nj
   rw [ro h1,ro k,ro j,ro l,c.1,c.2.1,f.1,f.2.1]
   simp only [zd,HV,FD,if_false,B,C,E,F,lim_at p (show x.length<=4000 by omega),lim_at q (show y.length<=4000 by omega)]
   unfold fj
   by_cases u:x.length<=64
   ·rw [if_neg so]
    by_cases g:y.length<=64
    ·rw [if_neg so]
     refine⟨(⟨x,y⟩,0),rfl,rfl,λ_=>⟨oX.2 ⟨u,D,p⟩,oX.2 ⟨g,G,q⟩,z⟩,λh=>(h rfl).elim,λh=>(h.elim c.2.2 f.2.2).elim⟩
    ·rw [if_pos so]
     exact⟨(⟨[],[]⟩,8),rfl,rfl,λh=>by simp at h,λ_=>rfl,λ_=>zb⟩
   ·rw [if_pos so]
    by_cases g:y.length<=64
    ·rw [if_neg so]
     exact⟨(⟨[],[]⟩,8),rfl,rfl,λh=>by simp at h,λ_=>rfl,λ_=>zb⟩
    ·rw [if_pos so]
     exact⟨(⟨[],[]⟩,8),rfl,rfl,λh=>by simp at h,λ_=>rfl,λ_=>zb⟩
  ·rw [Bool.eq_false_iff.2 f]
   exact⟨(⟨[],[]⟩,1),rfl,rfl,λh=>by simp at h,λ_=>rfl,λ_=>zb⟩
 ·rw [Bool.eq_false_iff.2 c]
  exact⟨(⟨[],[]⟩,1),rfl,rfl,λh=>by simp at h,λ_=>rfl,λ_=>zb⟩
end Go.Dw.Ef
set_option maxRecDepth 100000
set_option maxHeartbeats 4000000
namespace Go.Dw.Ef
open Go.Dw Go.Proofs
theorem gain_step{r:bv}(z:r.bJ.length<=1000)(hs:∀s∈r.bJ,StN s)(n d:Int){i:Nat}(hi:i<r.bJ.length){a b:List Int}(q:a.length<=64)(u:b.length<=64):
  ∃(e:Int)(x y:List Int),x.length<=64∧y.length<=64∧
   (dZ r n d ((i:Int),a,b)=some (.next (((i+1:Nat):Int),x,y))∨dZ r n d ((i:Int),a,b)=some (.stop (.inr (⟨[],[]⟩,11))))∧
   ((e = 0 ∧ vN x = true ∧ vN y = true ∧ y ≠ [] ∧ eh r n d ((i : Int), a, b) = some (.next (((i + 1 : Nat) : Int), x, y)) ∧ dZ r n d ((i : Int), a, b) = some (.next (((i + 1 : Nat) : Int), x, y))) ∨
    (e≠0∧x=[]∧y=[]∧eh r n d ((i:Int),a,b)=some (.stop (.inr (⟨[],[]⟩,e)))))∧(b=[]->x=[]∧y=[]):=by
 obtain⟨g,g1,g2,g3,g4,g5⟩:=gain_eq (hs _ (FB hi)) n d
 obtain⟨t,t1,t2,t3,t4,t5⟩:=Times_eq (a:=⟨a,b⟩) (b:=g.1) zc zc za za
 have hw:GV .i64 ((i:Int)+1)=((i+1:Nat):Int):=by rw [w64 za za];rfl
 have k:∀y,eh r n d ((i:Int),a,b)=y↔(if(!g.2)=true then(some (.stop (.inr ((bu.mk [] []),(11:Int)))))else(if(t.2 != (0:Int))=true then(some (.stop (.inr ((bu.mk [] []),t.2))))else(some (.next (((i+1:Nat):Int),t.1.bR,t.1.bO)))))=y:=λy=>by
  unfold eh
  dsimp only
  rw [if_pos so,kp rfl hi,zd,g1,zd,t1,zd,hw]
 have j:∀y,dZ r n d ((i:Int),a,b)=y↔(if((g.1.bO.length:Int)==(0:Int))=true then(some (.stop (.inr ((bu.mk [] []),(11:Int)))))else(some (.next (((i+1:Nat):Int),t.1.bR,t.1.bO))))=y:=λy=>by
  unfold dZ
  dsimp only
  rw [if_pos so,kp rfl hi,zd,g2,zd,t2,zd,hw]
 by_cases c:t.2=0
 ·obtain⟨v1,v2,v3⟩:=t3 c
  by_cases f:g.1.bO=[]
  ·exact(t5 (.inr f) c).elim
  ·have l:g.2=true:=by cases e:g.2 with|true=>rfl|false=>exact(f (g5 e)).elim
   refine⟨0,t.1.bR,t.1.bO,(oX.1 v1).1,(oX.1 v2).1,.inl ((j _).2 ?_),.inl ⟨rfl,v1,v2,v3,(k _).2 ?_,(j _).2 ?_⟩,λh=>(t5 (.inl h) c).elim⟩
   ·rw [if_neg (by simpa using f)]
   ·rw [l,c];rfl
   ·rw [if_neg (by simpa using f)]
 ·have p:=t4 c
  refine⟨if g.2=false then 11 else t.2,[],[],zb,zb,?_,.inr ⟨?_,rfl,rfl,(k _).2 ?_⟩,λ_=>⟨rfl,rfl⟩⟩
  ·by_cases f:g.1.bO=[]
   ·exact .inr ((j _).2 (by rw [if_pos (by simp [f])]))
   ·exact .inl ((j _).2 (by rw [if_neg (by simpa using f),p]))
  ·split
   ·decide
   ·exact c
  ·cases l:g.2 with
   |false=>rfl
   |true=>rw [if_neg zb,if_pos (by simpa using c)];rfl
theorem gain_dead{r:bv}(c:r.bJ.length<=1000)(hs:∀s∈r.bJ,StN s)(n d:Int):∀k i:Nat,i+k=r.bJ.length->
  ∃o,cI (dZ r n d) ((i:Int),[],[])=some o∧(o= .inl ([],[])∨∃q,o= .inr q∧q.2≠0)
 |0,i,hi=>by
  refine⟨_,dE ?_,.inl rfl⟩
  unfold dZ
  dsimp only
  rw [if_neg so]
 |k+1,i,hi=>by
  obtain⟨e,x,y, -, -,h1, -,f⟩:=gain_step c hs n d (i:=i) za (a:=[]) (b:=[]) zb zb
  obtain⟨rfl,rfl⟩:=f rfl
  rcases h1 with h1|h1
  ·obtain⟨o,g,j⟩:=gain_dead c hs n d k (i+1) za
   exact⟨o,by rw [tv h1,g],j⟩
  ·exact⟨_,dE h1,.inr ⟨_,rfl,by decide⟩⟩
def GR(o a:(List Int×List Int)⊕(bu×Int)):Prop:=match o with
 | .inl p=>a= .inl p∧vN p.1=true∧vN p.2=true∧p.2≠ []
 | .inr q=>q.2≠0∧(a= .inl ([],[])∨∃c,a= .inr c∧c.2≠0)
theorem gain_loop{r:bv}(p:r.bJ.length<=1000)(hs:∀s∈r.bJ,StN s)(n d:Int):∀k i:Nat,i+k=r.bJ.length->∀a b:List Int,vN a=true->vN b=true->b≠ []->
  ∃o g,cI (eh r n d) ((i:Int),a,b)=some o∧cI (dZ r n d) ((i:Int),a,b)=some g∧GR o g
 |0,i,hi,a,b,j,l,c=>by
  refine⟨.inl (a,b),.inl (a,b),dE ?_,dE ?_,rfl,j,l,c⟩
  ·unfold eh;dsimp only;rw [if_neg so]
  ·unfold dZ;dsimp only;rw [if_neg so]
 |k+1,i,hi,a,b,j,l,c=>by
  obtain⟨e,x,y, -, -,h1,z, -⟩:=gain_step p hs n d (i:=i) za (a:=a) (b:=b) (oX.1 j).1 (oX.1 l).1
  rcases z with⟨-,v1,v2,v3,f,e2⟩|⟨he,rfl,rfl,f⟩
  ·obtain⟨o,g,q,u,B⟩:=gain_loop p hs n d k (i+1) za x y v1 v2 v3
   exact⟨o,g,by rw [tv f,q],by rw [tv e2,u],B⟩
  ·refine⟨.inr (⟨[],[]⟩,e),?_⟩
   rcases h1 with h1|h1
   ·obtain⟨o,q,u⟩:=gain_dead p hs n d k (i+1) za
    exact⟨o,dE f,by rw [tv h1,q],he,u⟩
   ·exact⟨_,dE f,dE h1,he,.inr ⟨_,rfl,by decide⟩⟩
def sqM(m:Int):Int:=tU .i64 (GV .i64 (m*m)) 30
def nM(m:Int):Int:=if sqM m>=2147483648 then tU .i64 (sqM m) 1 else sqM m
def nD(m d:Int):Int:=if sqM m>=2147483648 then GV .i64 (GV .i64 (d*2)+1)else GV .i64 (d*2)
theorem shr1{n:Int}(a:0<=n):tU .i64 n 1=n / 2:=by
 show n.fdiv (2 ^ (min (1:Int).toNat 64))=n / 2
 rw [Gj _ (by decide)]
 rfl
theorem sqM_le(m:Int):sqM m<=9223372036854775807:=by
 have:=pV (m*m)
 unfold I64 at this
 unfold sqM
 show(GV .i64 (m*m)).fdiv (2 ^ (min (30:Int).toNat 64))<=_
 rw [Gj _ (by decide)]
 show GV .i64 (m*m) / 1073741824<=_
 omega
theorem quo2{m:Int}(h:sqM m>=2147483648):um .i64 (sqM m) 2=some (tU .i64 (sqM m) 1):=by
 have:=sqM_le m
 unfold um;rw [if_neg (by decide),HC za,w64 za za,shr1 za]
theorem kstep(c:Int)(f:Int->Int->Int->Option Int)(m d:Int):
  (if(decide (sqM m>=(2147483648:Int)))=true then((um .i64 (sqM m) (2:Int)).bind λx=>f c x (GV .i64 ((GV .i64 (d*(2:Int)))+(1:Int))))else(f c (sqM m) (GV .i64 (d*(2:Int)))))=f c (nM m) (nD m d):=by
 unfold nM nD
 by_cases h:sqM m>=2147483648
 ·rw [if_pos (by simpa using h),quo2 h,zd,if_pos h,if_pos h]
 ·rw [if_neg (by simpa using h),if_neg h,if_neg h]
theorem lstep{m d:Int}{i:Nat}(hi:i<8):dM (m,d,(i:Int))=some (.next (nM m,nD m d,((i+1:Nat):Int))):=by
 unfold dM nM nD
 dsimp only
 rw [if_pos so,w64 (n:=(i:Int)+1) za za]
 show(if decide (sqM m>=2147483648)=true then some (pH.next (tU .i64 (sqM m) 1,_,_))else some (.next (sqM m,_,_)))=_
 by_cases h:sqM m>=2147483648
 ·rw [if_pos (by simpa using h),if_pos h,if_pos h];rfl
 ·rw [if_neg (by simpa using h),if_neg h,if_neg h];rfl
theorem rr(c m:Int):iW c m=d7 c m:=by
 have h:∀(i:Nat),i<8->∀m d:Int,cI dM (m,d,(i:Int))=cI dM (nM m,nD m d,((i+1:Nat):Int)):=λi hi m d=>tv (lstep hi)
 unfold iW
 have f:((0:Nat):Int)=0:=rfl
 have a:=h 0 (by decide) m 0
 rw [f]at a
 rw [a,h 1 (by decide),h 2 (by decide),h 3 (by decide),h 4 (by decide),h 5 (by decide),h 6 (by decide),h 7 (by decide),dE (o:=nD _ _) (by unfold dM;rfl),zd]
 have g:d7 c m=dz c (nM m) (nD m 0):=kstep c dz m 0
 have j:∀m d,dz c m d=dy c (nM m) (nD m d):=λm d=>kstep c dy m d
 have k3:∀m d,dy c m d=dx c (nM m) (nD m d):=λm d=>kstep c dx m d
 have k:∀m d,dx c m d=dw c (nM m) (nD m d):=λm d=>kstep c dw m d
 have l:∀m d,dw c m d=dv c (nM m) (nD m d):=λm d=>kstep c dv m d
 have p:∀m d,dv c m d=du c (nM m) (nD m d):=λm d=>kstep c du m d
 have q:∀m d,du c m d=dq c (nM m) (nD m d):=λm d=>kstep c dq m d
 have r:∀m d,dq c m d=dY c (nM m) (nD m d):=λm d=>kstep c dY m d
 rw [g,j,k3,k,l,p,q,r]
 rfl
end Go.Dw.Ef
set_option maxRecDepth 100000
set_option maxHeartbeats 4000000
namespace Go.Dw.Ef
open Go.Dw Go.Proofs
theorem shrU{n:Int}(a:0<=n)(k:Nat)(hk:k<=63):tU .u64 n (k:Nat)=n / 2 ^ k:=by
 show n.fdiv (2 ^ (min ((k:Nat):Int).toNat 64))=n / 2 ^ k
 rw [Fe,Nat.min_eq_left za,Gj _ (Gl (Int.pow_pos (by decide)))]
theorem wU8{n:Int}(h:0<=n∧n<256):GV .u8 n=n:=IntWalk.u8_in _ za
theorem tab8:(EH 256).all (λc=>decide (c=0)||match eo (c:Int) 0 with|some L=>decide (1<=L)&&(decide (L<=8)&&(decide ((2:Int) ^ (L-1).toNat<=c)&&decide ((c:Int)<2 ^ L.toNat)))|none=>false)=true:=by kernel_rfl
def Len(n L:Int):Prop:=∃l:Nat,L=l∧1<=l∧l<=64∧(2:Int) ^ (l-1)<=n∧n<2 ^ l
theorem k8_lo{c:Nat}(hc:c<256)(h1:1<=c){m:Int}(hm:0<=m∧m<=64):∃l:Nat,eo (c:Int) m=some (m+l)∧1<=l∧l<=8∧(2:Int) ^ (l-1)<=c∧(c:Int)<2 ^ l:=by
 have h:=List.all_eq_true.1 tab8 c (List.mem_range.2 hc)
 simp only [HW,decide_eq_true_eq]at h
 rcases h with h|h
 ·omega
 have key:∀m:Int,0<=m∧m<=64->∃x:Int,0<=x∧x<=255∧eo (c:Int) 0=some x∧eo (c:Int) m=some (m+x):=λm hm=>by
  have gen:∀s:List UInt8,s.length=256->∃x:Int,0<=x∧x<=255∧((wb s (c:Int)).bind λy=>some (GV .i64 (0+GV .i64 y)))=some x∧((wb s (c:Int)).bind λy=>some (GV .i64 (m+GV .i64 y)))=some (m+x):=λs hs=>by
   obtain⟨x,a,b, -,rfl⟩:=Ok.byte (s:=s) (n:=(c:Int)) za za
   have:=b.toNat_lt
   refine⟨(b.toNat:Int),za,za,?_,?_⟩
   ·rw [a,zd,w64 (n:=(b.toNat:Int)) za za,w64 za za,HH]
   ·rw [a,zd,w64 (n:=(b.toNat:Int)) za za,w64 za za]
  unfold eo
  rw [if_neg so,if_neg so,wU8 za]
  exact gen _ (by decide)
 obtain⟨x,g,j,f,e2⟩:=key m hm
 rw [f]at h
 simp only [E8,decide_eq_true_eq]at h
 obtain⟨a1,a2,a3,a4⟩:=h
 obtain⟨l,rfl⟩:∃l:Nat,x=l:=⟨x.toNat,za⟩
 refine⟨l,e2,za,za,?_,by simpa using a4⟩
 rw [show((l:Int)-1).toNat=l-1 by omega]at a3
 exact a3
theorem k8_at{n:Int}(h1:1<=n)(h:n<65536){m:Int}(hm:0<=m∧m<=48):∃l:Nat,eo n m=some (m+l)∧1<=l∧l<=16∧(2:Int) ^ (l-1)<=n∧n<2 ^ l:=by
 by_cases a:n<256
 ·obtain⟨c,rfl⟩:∃c:Nat,n=c:=⟨n.toNat,za⟩
  obtain⟨l,e,a1,a2,a3,a4⟩:=k8_lo (c:=c) za za (m:=m) za
  exact⟨l,e,a1,za,a3,a4⟩
 ·obtain⟨c,hc⟩:∃c:Nat,n / 256=c:=⟨(n / 256).toNat,za⟩
  obtain⟨l,e,a1,a2,a3,a4⟩:=k8_lo (c:=c) za za (m:=m+8) za
  refine⟨l+8,?_,za,za,?_,?_⟩
  ·have:eo n m=eo (c:Int) (m+8):=by
    unfold eo
    have hs:tU .u64 n 8=(c:Int):=by rw [<-hc];exact shrU za 8 za
    rw [if_pos so,if_neg so,hs,w64 (n:=m+8) za za]
   rw [this,e];congr 1;omega
  ·rw [show l+8-1=(l-1)+8 by omega,Gz];omega
  ·rw [Gz];omega
theorem k10_at{n:Int}(h1:1<=n)(h:n<4294967296){m:Int}(hm:0<=m∧m<=32):∃l:Nat,mF n m=some (m+l)∧1<=l∧l<=32∧(2:Int) ^ (l-1)<=n∧n<2 ^ l:=by
 unfold mF
 by_cases a:n<65536
 ·rw [if_neg so]
  obtain⟨l,e,a1,a2,a3,a4⟩:=k8_at h1 a (m:=m) za
  exact⟨l,e,a1,za,a3,a4⟩
 ·have hs:tU .u64 n 16=n / 65536:=shrU za 16 za
  rw [if_pos so,hs,w64 (n:=m+16) za za]
  obtain⟨l,e,a1,a2,a3,a4⟩:=k8_at (n:=n / 65536) za za (m:=m+16) za
  refine⟨l+16,by rw [e];congr 1;omega,za,za,?_,?_⟩
  ·rw [show l+16-1=(l-1)+16 by omega,Gz];omega
  ·rw [Gz];omega
theorem bits_at{n:Int}(h1:1<=n)(h:n<18446744073709551616):Ok (nN n) (Len n):=by
 unfold nN sf
 rw [Hm]
 by_cases a:n<4294967296
 ·rw [if_neg so]
  obtain⟨l,e,a1,a2,a3,a4⟩:=k10_at h1 a (m:=0) za
  exact⟨_,e,l,za,a1,za,a3,a4⟩
 ·have hs:tU .u64 n 32=n / 4294967296:=shrU za 32 za
  rw [if_pos so,hs]
  obtain⟨l,e,a1,a2,a3,a4⟩:=k10_at (n:=n / 4294967296) za za (m:=32) za
  refine⟨_,e,l+32,za,za,za,?_,?_⟩
  ·rw [show l+32-1=(l-1)+32 by omega,Gz];omega
  ·rw [Gz];omega
theorem or_nat(k m:Nat)(h:2 ^ (k+1)*m+2 ^ k<4611686018427387904):orI .i64 ((2 ^ (k+1)*m:Nat):Int) ((2 ^ k:Nat):Int)=((2 ^ (k+1)*m+2 ^ k:Nat):Int):=by
 have c:=Nat.two_pow_add_eq_or_of_lt (i:=k+1) (b:=2 ^ k) (Nat.pow_lt_pow_right (by decide) (Nat.lt_succ_self k)) m
 generalize 2 ^ (k+1)*m=A at*
 generalize 2 ^ k=B at*
 unfold orI
 show GV .i64 (((BitVec.ofInt 64 _ ||| BitVec.ofInt 64 _).toNat:Nat):Int)=_
 rw [BitVec.ofInt_natCast,BitVec.ofInt_natCast,BitVec.toNat_or,BitVec.toNat_ofNat,BitVec.toNat_ofNat,Hk (a:=A) za,Hk (a:=B) za,show(A ||| B)=A+B by omega]
 exact w64 za za
theorem or_add(k m:Nat)(h:(2:Int) ^ (k+1)*m+2 ^ k<4611686018427387904):orI .i64 ((2:Int) ^ (k+1)*m) (2 ^ k)=2 ^ (k+1)*m+2 ^ k:=by
 have a:((2:Int) ^ (k+1)*m)=((2 ^ (k+1)*m:Nat):Int):=by rw [Gv,Gw];rfl
 have e2:((2:Int) ^ k)=((2 ^ k:Nat):Int):=by rw [Gw];rfl
 rw [a,e2]at h⊢
 rw [or_nat k m za]
 exact Gu _ _
theorem sq_lt{x n:Int}(c:0<x)(a:0<=n):x<=n.tdiv x↔x*x<=n:=by
 rw [HC a,Gk c]
theorem bit_half:∀k:Nat,k<33->tU .i64 ((2:Int) ^ k / 2) 1=if k=0 then 0 else(2:Int) ^ (k-1) / 2:=by decide+kernel
theorem bit_in:∀j:Nat,j<32->(1:Int)<=(2:Int) ^ j∧(2:Int) ^ j<=2147483648:=by decide+kernel
def Rt(n r:Int):Prop:=0<=r∧r*r<=n∧n<(r+1)*(r+1)
theorem sq_uniq{x y n:Int}(c:Rt n x)(f:Rt n y):x=y:=by
 obtain⟨c,h1,g⟩:=c
 obtain⟨f,j,l⟩:=f
 have k:∀a b:Int,0<=a->0<=b->a*a<=n->n<(b+1)*(b+1)->a<=b:=λa b p q g1 g2=>by
  apply Hn
  intro h
  have:(b+1)*(b+1)<=a*a:=Gr za za za za
  omega
 have:=k x y c f h1 l
 have:=k y x f c j g
 omega
theorem tn{r n:Int}(h1:r*r<=n)(c:n<=70368744177664):r<=8388608:=by
 apply Hn
 intro a
 have:8388609*8388609<=r*r:=Gr za za za za
 omega
theorem rfloor_ok(n:Int)(u:0<=n)(h1:n<=70368744177664):Ok (mz n) (Rt n):=by
 unfold mz
 rw [Hm]
 refine H5 (λs:Int×Int=>0<=s.1∧s.1*s.1<=n∧∃k:Nat,k<=32∧s.2=(2:Int) ^ k / 2∧n<(s.1+(2:Int) ^ k)*(s.1+(2:Int) ^ k)) (λs=>s.2.toNat) ?_ ⟨zb,by simpa using u,32,za,by decide,so⟩
 rintro⟨r,b⟩ ⟨r0,g,k,D,rfl,f⟩
 simp only at r0 g f
 have E:=tn g h1
 unfold oP
 dsimp only
 rcases GY k with rfl|hk
 ·refine Hc (λh=>by simp at h) (λ_=>Hb ⟨r0,g,by simpa using f⟩)
 have c:=bit_half k za
 rw [if_neg za]at c
 obtain⟨j,rfl⟩:∃j,k=j+1:=⟨k-1,za⟩
 simp only [Hj]at c
 have hp:(2:Int) ^ (j+1) / 2=(2:Int) ^ j:=by rw [HA];omega
 obtain⟨q,p⟩:=bit_in j za
 rw [hp]at c⊢
 rw [c]
 have C:(2:Int) ^ j / 2<(2:Int) ^ j:=by omega
 have l:n<(r+2*(2:Int) ^ j)*(r+2*(2:Int) ^ j):=by rw [HA]at f;rw [Gq 2];exact f
 generalize a:(2:Int) ^ j=B at*
 refine Hc (λ_=>?_) (λh=>za)
 rw [w64 (n:=r+B) za za]
 refine Hc (λhle=>?_) (λh=>za)
 have z:0<=(r+B)*(r+B)∧(r+B)*(r+B)<=3037000499*3037000499:=⟨Gs za za,Gr hle hle za za⟩
 rw [w64 (n:=(r+B)*(r+B)) za za]
 refine Hc (λhm=>?_) (λhm=>?_)
 ·refine H7 ⟨zc,hm,j,za,by simp only;rw [a],?_⟩ zc
  simp only
  rw [a,show r+B+B=r+2*B by omega];exact l
 ·refine H7 ⟨r0,g,j,za,by simp only;rw [a],?_⟩ zc
  simp only
  rw [a];omega
theorem cfloor_loop(n:Int)(F:0<n)(h1:n<=70368744177664)(s:Int×Int)(hs:0<=s.1∧s.1*s.1<=n∧∃k m:Nat,k<=32∧s.2=(2:Int) ^ k / 2∧s.1=(2:Int) ^ k*m∧n<(s.1+(2:Int) ^ k)*(s.1+(2:Int) ^ k)):Ok (cI (jf n) s) (Rt n):=by
 refine H5 (λs:Int×Int=>0<=s.1∧s.1*s.1<=n∧∃k m:Nat,k<=32∧s.2=(2:Int) ^ k / 2∧s.1=(2:Int) ^ k*m∧n<(s.1+(2:Int) ^ k)*(s.1+(2:Int) ^ k)) (λs=>s.2.toNat) ?_ hs
 rintro⟨r,b⟩ ⟨r0,l,k,m,G,rfl,f,g⟩
 simp only at r0 l f g
 have H:=tn l h1
 unfold jf
 dsimp only
 rcases GY k with rfl|hk
 ·refine Hc (λh=>by simp at h) (λ_=>Hb ⟨r0,l,by simpa using g⟩)
 have c:=bit_half k za
 rw [if_neg za]at c
 obtain⟨j,rfl⟩:∃j,k=j+1:=⟨k-1,za⟩
 simp only [Hj]at c
 have hp:(2:Int) ^ (j+1) / 2=(2:Int) ^ j:=by rw [HA];omega
 obtain⟨B,z⟩:=bit_in j za
 have p:orI .i64 r (2 ^ j)=r+2 ^ j:=by rw [f];exact or_add j m (by rw [<-f];omega)
 have d1:r=(2:Int) ^ j*((2*m:Nat):Int):=by
  rw [f,HA,Gv,Int.mul_assoc];rfl
 have d2:r+2 ^ j=(2:Int) ^ j*((2*m+1:Nat):Int):=by
  rw [Gu,Int.mul_add, <-d1];simp
 rw [hp]at c⊢
 rw [c,p]
 have u:n<(r+2*(2:Int) ^ j)*(r+2*(2:Int) ^ j):=by rw [HA]at g;rw [Gq 2];exact g
 have D:0<=n.tdiv (r+2 ^ j):=HE za za
 have E:n.tdiv (r+2 ^ j)<=n:=HD _ za
 refine Hc (λ_=>?_) (λh=>za)
 refine HZ (H8 za) (λq C=>?_)
 rw [w64 za za]at C
 subst C
 refine Hc (λhle=>?_) (λa=>?_)
 ·rw [sq_lt za za]at hle
  refine H7 ⟨zc,hle,j,2*m+1,za,rfl,d2,?_⟩ zc
  simp only
  rw [show r+2 ^ j+2 ^ j=r+2*2 ^ j by omega];exact u
 ·rw [sq_lt za za]at a
  exact H7 ⟨r0,l,j,2*m,za,rfl,d1,Int.not_le.1 a⟩ zc
theorem start_at:∀q:Nat,q<32->xG .i64 1 (q:Int)=(2:Int) ^ (q+1) / 2:=by decide+kernel
theorem cfloor_ok(n:Int)(g:0<=n)(h1:n<=70368744177664):Ok (ir n) (Rt n):=by
 unfold ir
 refine Hc (λh=>H9 ⟨za,za,za⟩) (λh=>?_)
 have hw:GV .u64 n=n:=IntWalk.u64_in _ za
 rw [hw]
 refine HZ (bits_at za za) (λL⟨l,a,k,p,q,r⟩=>?_)
 subst a
 have j:l<=47:=by
  apply Hn
  intro c
  have:(2:Int) ^ 47<=2 ^ (l-1):=by
   have:=Hl (show 0<2 by decide) (show 47<=l-1 by omega)
   exact_mod_cast this
  have e:(2:Int) ^ 47=140737488355328:=by decide
  omega
 rw [w64 (n:=(l:Int)-1) za za]
 have f:um .i64 ((l:Int)-1) 2=some (((l-1) / 2:Nat):Int):=by
  unfold um
  rw [if_neg (by decide),HC za,w64 za za]
  congr 1;omega
 rw [f,zd]
 have hs:yI .i64 1 (((l-1) / 2:Nat):Int)=some ((2:Int) ^ ((l-1) / 2+1) / 2):=by
  unfold yI
  rw [if_neg za,start_at _ za]
 rw [hs,zd,Hm]
 refine cfloor_loop n za h1 _ ⟨zb,zc,(l-1) / 2+1,0,za,rfl,zb,?_⟩
 simp only [HH]
 rw [<-Gz]
 have:(2:Int) ^ l<=2 ^ ((l-1) / 2+1+((l-1) / 2+1)):=by
  have:=Hl (show 0<2 by decide) (show l<=(l-1) / 2+1+((l-1) / 2+1)by omega)
  exact_mod_cast this
 omega
theorem ss{n:Int}(c:0<=n)(h1:n<=70368744177664):∃r,ir n=some r∧mz n=some r∧Rt n r:=by
 obtain⟨a,a1,a2⟩:=cfloor_ok n c h1
 obtain⟨b,b1,b2⟩:=rfloor_ok n c h1
 rw [sq_uniq b2 a2]at b1
 exact⟨a,a1,b1,a2⟩
theorem Ceil_eq{n:Int}(c:0<=n)(h1:n<=70368744177664):∃r,fM n=some r∧oO n=some r∧0<=r∧r<=8388609∧n<=r*r∧(∀f,Rt n f->f<=r):=by
 obtain⟨x,k,l,a⟩:=ss c h1
 have q:=tn a.2.1 h1
 have p:=a.2.1
 have g:0<=x*x:=Gs a.1 a.1
 unfold fM oO
 have j:=a.1
 rw [k,l,zd,w64 (n:=x*x) za za,w64 (n:=x+1) za za]
 by_cases h:x*x<n
 ·rw [if_pos (by simpa using h)]
  exact⟨_,rfl,rfl,za,za,Gl a.2.2,λf hf=>by rw [sq_uniq hf a];omega⟩
 ·rw [if_neg (by simpa using h)]
  exact⟨_,rfl,rfl,za,za,za,λf hf=>by rw [sq_uniq hf a];omega⟩
end Go.Dw.Ef
set_option maxRecDepth 100000
set_option maxHeartbeats 4000000
namespace Go.Dw.Ef
open Go.Dw Go.Proofs
abbrev PosP(p:aa):Prop:=(-1048576<=p.fX∧p.fX<=1048576)∧(-1048576<=p.fY∧p.fY<=1048576)∧(-16384<=p.fZ∧p.fZ<=1048576)
abbrev BoxP(b:ak):Prop:=PosP b.bo∧PosP b.ba∧b.bo.fX<=b.ba.fX∧b.bo.fY<=b.ba.fY∧b.bo.fZ<=b.ba.fZ
theorem n5(p:aa):er p=some (decide (PosP p)):=by
 refine H0 ?_
 unfold er cb
 rw [zd]
 dsimp only
 exact Hc (λ_=>H9 (decide_eq_false za).symm) (λ_=>Hc (λ_=>H9 (decide_eq_false za).symm) (λ_=>Hc (λ_=>H9 (decide_eq_false za).symm) (λ_=>Hc (λ_=>H9 (decide_eq_false za).symm) (λ_=>Hc (λ_=>H9 (decide_eq_false za).symm) (λ_=>Hc (λ_=>H9 (decide_eq_false za).symm) (λ_=>H9 (decide_eq_true za).symm))))))
theorem nJ(p:aa):gM p=some (decide (PosP p)):=by
 refine H0 ?_
 unfold gM
 refine Hc (λ_=>Hc (λ_=>Hc (λ_=>Hc (λ_=>Hc (λ_=>H9 ?_) (λ_=>H9 (decide_eq_false za).symm)) (λ_=>H9 (decide_eq_false za).symm)) (λ_=>H9 (decide_eq_false za).symm)) (λ_=>H9 (decide_eq_false za).symm)) (λ_=>H9 (decide_eq_false za).symm)
 exact decide_eq_decide.2 za
theorem jJ(b:ak):co b=some (decide (BoxP b)):=by
 refine H0 ?_
 unfold co cb
 rw [n5,zd,n5]
 refine H4 (λh=>H9 (decide_eq_false (λe=>h e.1)).symm) (λh1=>?_)
 rw [zd]
 refine H4 (λh=>H9 (decide_eq_false (λe=>h e.2.1)).symm) (λa=>?_)
 rw [zd,zd]
 dsimp only
 exact Hc (λ_=>H9 (decide_eq_false (λe=>by have:=e.2.2;omega)).symm) (λ_=>Hc (λ_=>H9 (decide_eq_false (λe=>by have:=e.2.2;omega)).symm) (λ_=>Hc (λ_=>H9 (decide_eq_false (λe=>by have:=e.2.2;omega)).symm) (λ_=>H9 (decide_eq_true ⟨h1,a,za,za,za⟩).symm)))
theorem jk(b:ak):cK b=some (decide (BoxP b)):=by
 refine H0 ?_
 unfold cK
 rw [nJ,zd,nJ]
 refine Hc (λh1=>?_) (λh=>H9 (decide_eq_false (λe=>h e.1)).symm)
 rw [zd]
 refine Hc (λa=>?_) (λh=>H9 (decide_eq_false (λe=>h e.2.1)).symm)
 refine Hc (λ_=>Hc (λ_=>H9 ?_) (λ_=>H9 (decide_eq_false (λe=>by have:=e.2.2;omega)).symm)) (λ_=>H9 (decide_eq_false (λe=>by have:=e.2.2;omega)).symm)
 exact decide_eq_decide.2 ⟨λh=>⟨h1,a,za,za,h⟩,λh=>h.2.2.2.2⟩
theorem qJ{x:Int}(h: -2097152<=x∧x<=2097152):0<=x*x∧x*x<=4398046511104:=by
 constructor
 ·rcases Gn 0 x with a|a
  ·exact Gs a a
  ·exact Gt a a
 ·rcases Gn 0 x with a|a
  ·have:x*x<=2097152*2097152:=Gr za za a za
   omega
  ·have: -x* -x<=2097152*2097152:=Gr za za za za
   rw [Gx]at this;omega
def ne(x lo hi:Int):Int:=if x<lo then lo-x else if hi<x then x-hi else 0
def fa(x lo hi:Int):Int:=if x-lo>hi-x then x-lo else hi-x
abbrev InR(x:Int):Prop:= -1048576<=x∧x<=1048576
theorem near1{x lo hi:Int}(g:InR x)(f:InR lo)(c:InR hi)(a:lo<=hi):fT x lo hi=some (ne x lo hi)∧nk lo hi x=some (ne x lo hi)∧ -2097152<=ne x lo hi∧ne x lo hi<=2097152:=by
 unfold fT nk ne
 rw [w64 (n:=x-hi) za za,w64 (n:=lo-x) za za]
 refine⟨?_,?_,?_,?_⟩
 ·congr 1;split<;>split<;>(try split)<;>omega
 ·congr 1;split<;>(try split)<;>(try split)<;>omega
 ·split<;>(try split)<;>omega
 ·split<;>(try split)<;>omega
theorem far1{x lo hi:Int}(f:InR x)(c:InR lo)(a:InR hi):fx x lo hi=some (fa x lo hi)∧ow lo hi x=some (fa x lo hi)∧ -2097152<=fa x lo hi∧fa x lo hi<=2097152:=by
 unfold fx ow fa
 rw [w64 (n:=x-lo) za za,w64 (n:=hi-x) za za]
 refine⟨rfl,?_,?_,?_⟩
 ·congr 1;split<;>split<;>omega
 ·split<;>omega
 ·split<;>omega
theorem near_eq(b:ak)(p:aa):∃v,fN b p=some v∧kB b p=some v∧0<=v∧v<=13194139533312:=by
 unfold fN fI kB
 rw [Hm,jJ,jk,zd,zd,n5,nJ]
 by_cases a:BoxP b
 ·rw [if_neg (by simp [a]),if_neg (by simp [a]),zd,zd]
  by_cases hp:PosP p
  ·rw [if_neg (by simp [hp]),if_neg (by simp [hp])]
   obtain⟨⟨C,D,E⟩,⟨g1,g2,g3⟩,s1,s2,s3⟩:=a
   obtain⟨F,G,H⟩:=hp
   obtain⟨g,j,k,l⟩:=near1 (x:=p.fX) (lo:=b.bo.fX) (hi:=b.ba.fX) za za za s1
   obtain⟨q,r,u,z⟩:=near1 (x:=p.fY) (lo:=b.bo.fY) (hi:=b.ba.fY) za za za s2
   obtain⟨B,z2,z3,z4⟩:=near1 (x:=p.fZ) (lo:=b.bo.fZ) (hi:=b.ba.fZ) za za za s3
   have I:=qJ ⟨k,l⟩;have J:=qJ ⟨u,z⟩;have sz:=qJ ⟨z3,z4⟩
   unfold cb eS
   simp only [zd,g,j,q,r,B,z2]
   generalize ne p.fX b.bo.fX b.ba.fX=nx at*
   generalize ne p.fY b.bo.fY b.ba.fY=c at*
   generalize ne p.fZ b.bo.fZ b.ba.fZ=f at*
   rw [w64 (n:=nx*nx) za za,w64 (n:=c*c) za za,w64 (n:=f*f) za za,HH,w64 (n:=nx*nx) za za,w64 (n:=nx*nx+c*c) za za,w64 za za]
   exact⟨_,rfl,rfl,za,za⟩
  ·rw [if_pos (by simp [hp]),if_pos (by simp [hp])];exact⟨0,rfl,rfl,za,za⟩
 ·rw [if_pos (by simp [a]),if_pos (by simp [a])];exact⟨0,rfl,rfl,za,za⟩
theorem far_eq(b:ak)(p:aa):∃v,je b p=some v∧my b p=some v∧0<=v∧v<=13194139533312:=by
 unfold je fy my
 rw [Hm,jJ,jk,zd,zd,n5,nJ]
 by_cases a:BoxP b
 ·rw [if_neg (by simp [a]),if_neg (by simp [a]),zd,zd]
  by_cases hp:PosP p
  ·rw [if_neg (by simp [hp]),if_neg (by simp [hp])]
   obtain⟨⟨C,D,E⟩,⟨g1,g2,g3⟩,s1,s2,s3⟩:=a
   obtain⟨F,G,H⟩:=hp
   obtain⟨g,j,k,l⟩:=far1 (x:=p.fX) (lo:=b.bo.fX) (hi:=b.ba.fX) za za za
   obtain⟨q,r,u,z⟩:=far1 (x:=p.fY) (lo:=b.bo.fY) (hi:=b.ba.fY) za za za
   obtain⟨B,z2,z3,z4⟩:=far1 (x:=p.fZ) (lo:=b.bo.fZ) (hi:=b.ba.fZ) za za za
   have I:=qJ ⟨k,l⟩;have J:=qJ ⟨u,z⟩;have sz:=qJ ⟨z3,z4⟩
   unfold cb eS
   simp only [zd,g,j,q,r,B,z2]
   generalize fa p.fX b.bo.fX b.ba.fX=nx at*
   generalize fa p.fY b.bo.fY b.ba.fY=c at*
   generalize fa p.fZ b.bo.fZ b.ba.fZ=f at*
   rw [w64 (n:=nx*nx) za za,w64 (n:=c*c) za za,w64 (n:=f*f) za za,HH,w64 (n:=nx*nx) za za,w64 (n:=nx*nx+c*c) za za,w64 za za]
   exact⟨_,rfl,rfl,za,za⟩
  ·rw [if_pos (by simp [hp]),if_pos (by simp [hp])];exact⟨0,rfl,rfl,za,za⟩
 ·rw [if_pos (by simp [a]),if_pos (by simp [a])];exact⟨0,rfl,rfl,za,za⟩
def Lo(t:bc)(k:Nat):Int:=t.bo.getD k 0
def Hi(t:bc)(k:Nat):Int:=t.ba.getD k 0
def rT(t:bc)(k:Nat):Prop:=0<=Lo t k∧Hi t k<=1099511627776∧Lo t k<=Hi t k∧(0<k->Lo t (k-1)<=Lo t k∧Hi t (k-1)<=Hi t k)
structure qL(t:bc):Prop where
 step:1<=t.b9∧t.b9<=1048576
 same:t.bo.length=t.ba.length
 len:2<=t.bo.length∧t.bo.length<=256
 all:∀k,k<t.bo.length->rT t k
theorem si{l:List Int}{k:Nat}(h:k<l.length):py l (k:Int)=some (l.getD k 0):=by rw [kp rfl h,ib h]
theorem getLo{t:bc}{k:Nat}(h:k<t.bo.length):py t.bo (k:Int)=some (Lo t k):=si h
theorem getHi{t:bc}{k:Nat}(h:k<t.ba.length):py t.ba (k:Int)=some (Hi t k):=si h
theorem tab_ok(t:bc):Ok (dO t) (λe=>e=0∧qL t∨e=21∧¬qL t):=by
 unfold dO
 refine Hc (λh=>H9 (.inr ⟨rfl,λe=>by have:=e.step;omega⟩)) (λs1=>Hc (λh=>H9 (.inr ⟨rfl,λe=>by have:=e.step;omega⟩)) (λs2=>Ok.CT (λh=>H9 (.inr ⟨rfl,λe=>by have:=e.same;omega⟩)) (λs3=>Hc (λh=>H9 (.inr ⟨rfl,λe=>by have:=e.len;omega⟩)) (λF=>Hc (λh=>H9 (.inr ⟨rfl,λe=>by have:=e.len;omega⟩)) (λG=>?_)))))
 refine HZ (P:=λo:Unit⊕Int=>match o with| .inl _=>∀k,k<t.bo.length->rT t k| .inr e=>e=21∧∃k,k<t.bo.length∧¬rT t k)
  (H5 (λs:Int×Int×Int=>∃k:Nat,s=((if k=0 then 0 else Lo t (k-1)),(if k=0 then 0 else Hi t (k-1)),(k:Int))∧k<=t.bo.length∧∀j,j<k->rT t j) (λs=>((t.bo.length:Int)-s.2.2).toNat) ?_ ⟨0,rfl,EK _,λj h=>za⟩) (λo ho=>?_)
 ·rintro s ⟨k,rfl,C,q⟩
  unfold lI
  dsimp only
  refine Hc (λB=>?_) (λz=>Hb (λj r=>q j za))
  have hk:k<t.bo.length:=by omega
  have p:k<t.ba.length:=by omega
  rw [getLo hk,getHi p]
  simp only [zd]
  have c:0<k->0<=Lo t (k-1)∧Lo t (k-1)<=Hi t (k-1):=λh=>by
   obtain⟨a, -,b, -⟩:=q (k-1) za;exact⟨a,b⟩
  by_cases g:k=0
  ·subst g
   simp only [if_true]
   refine Hc (λh=>Hb ⟨rfl,0,hk,λe=>by have:=e.1;omega⟩) (λa1=>Hc (λh=>Hb ⟨rfl,0,hk,λe=>by obtain⟨f, -,e2, -⟩:=e;omega⟩) (λa2=>Hc (λh=>Hb ⟨rfl,0,hk,λe=>by obtain⟨f, -,e2, -⟩:=e;omega⟩) (λa3=>Hc (λh=>Hb ⟨rfl,0,hk,λe=>by obtain⟨-,f, -⟩:=e;omega⟩) (λa4=>?_))))
   refine H7 ⟨1,by simp [Hh],za,λj r=>?_⟩ (by simp [Hh];omega)
   obtain rfl:j=0:=by omega
   exact⟨za,za,za,λh=>za⟩
  ·rw [if_neg g,if_neg g]
   obtain⟨D,E⟩:=c za
   refine Hc (λh=>Hb ⟨rfl,k,hk,λe=>by have:=(e.2.2.2 za).1;omega⟩) (λa1=>Hc (λh=>Hb ⟨rfl,k,hk,λe=>by have:=(e.2.2.2 za).2;omega⟩) (λa2=>Hc (λh=>Hb ⟨rfl,k,hk,λe=>by obtain⟨f, -,e2, -⟩:=e;omega⟩) (λa3=>Hc (λh=>Hb ⟨rfl,k,hk,λe=>by obtain⟨-,f, -⟩:=e;omega⟩) (λa4=>?_))))
   rw [w64 za za]
   refine H7 ⟨k+1,zb,za,λj r=>?_⟩ zc
   by_cases l:j=k
   ·subst l
    exact⟨za,za,za,λ_=>⟨za,za⟩⟩
   ·exact q j za
 ·rcases o with _|e
  ·exact H9 (.inl ⟨rfl,⟨⟨za,za⟩,za,⟨za,za⟩,ho⟩⟩)
  ·obtain⟨rfl,k,h1,u⟩:=ho
   exact H9 (.inr ⟨rfl,λe=>u (e.all k h1)⟩)
theorem rtab_ok(t:bc):Ok (dK t) (λe=>e=0∧qL t∨e=21∧¬qL t):=by
 unfold dK
 refine Hc (λh=>H9 (.inr ⟨rfl,λe=>by have:=e.step;omega⟩)) (λs1=>Hc (λh=>H9 (.inr ⟨rfl,λe=>by have:=e.step;omega⟩)) (λs2=>Ok.CT (λh=>H9 (.inr ⟨rfl,λe=>by have:=e.same;omega⟩)) (λs3=>Hc (λh=>H9 (.inr ⟨rfl,λe=>by have:=e.len;omega⟩)) (λB=>Hc (λh=>H9 (.inr ⟨rfl,λe=>by have:=e.len;omega⟩)) (λC=>?_)))))
 refine HZ (P:=λo:Unit⊕Int=>match o with| .inl _=>∀k,k<t.bo.length->rT t k| .inr e=>e=21∧∃k,k<t.bo.length∧¬rT t k)
  (H5 (λs:Int=>∃k:Nat,s=(k:Int)∧k<=t.bo.length∧∀j,j<k->rT t j) (λs=>((t.bo.length:Int)-s).toNat) ?_ ⟨0,rfl,EK _,λj h=>za⟩) (λo ho=>?_)
 ·rintro s ⟨k,rfl,z,g⟩
  unfold mp
  refine Hc (λr=>?_) (λp=>Hb (λj q=>g j za))
  have hk:k<t.bo.length:=by omega
  have c:k<t.ba.length:=by omega
  rw [getLo hk,getHi c]
  simp only [zd]
  refine Hc (λh=>Hb ⟨rfl,k,hk,λe=>by have:=e.1;omega⟩) (λa1=>Hc (λh=>Hb ⟨rfl,k,hk,λe=>by have:=e.2.1;omega⟩) (λa2=>Hc (λh=>Hb ⟨rfl,k,hk,λe=>by have:=e.2.2.1;omega⟩) (λa3=>?_)))
  have fin:(0<k->Lo t (k-1)<=Lo t k∧Hi t (k-1)<=Hi t k)->Ok (some (pH.next (GV .i64 ((k:Int)+1))):Option (pH Int (Unit⊕Int))) (Ok.S (λs:Int=>∃k:Nat,s=(k:Int)∧k<=t.bo.length∧∀j,j<k->rT t j) (λs=>((t.bo.length:Int)-s).toNat) (λo:Unit⊕Int=>match o with| .inl _=>∀k,k<t.bo.length->rT t k| .inr e=>e=21∧∃k,k<t.bo.length∧¬rT t k) (k:Int)):=λhm=>by
   rw [w64 za za]
   refine H7 ⟨k+1,zb,za,λj q=>?_⟩ za
   by_cases a:j=k
   ·subst a
    exact⟨za,za,za,hm⟩
   ·exact g j za
  refine Hc (λf=>?_) (λh=>fin (λu=>za))
  rw [w64 (n:=(k:Int)-1) za za,show(k:Int)-1=((k-1:Nat):Int)by omega,getLo (k:=k-1) za,getHi (k:=k-1) za]
  simp only [zd]
  exact Hc (λh=>Hb ⟨rfl,k,hk,λe=>by have:=(e.2.2.2 za).1;omega⟩) (λa4=>Hc (λh=>Hb ⟨rfl,k,hk,λe=>by have:=(e.2.2.2 za).2;omega⟩) (λa5=>fin λ_=>⟨za,za⟩))
 ·rcases o with _|e
  ·exact H9 (.inl ⟨rfl,⟨⟨za,za⟩,za,⟨za,za⟩,ho⟩⟩)
  ·obtain⟨rfl,k,h1,l⟩:=ho
   exact H9 (.inr ⟨rfl,λe=>l (e.all k h1)⟩)
theorem lC(t:bc):(dO t=some 0∧dK t=some 0∧qL t)∨(dO t=some 21∧dK t=some 21∧¬qL t):=by
 obtain⟨a,a1,a2⟩:=tab_ok t
 obtain⟨b,b1,b2⟩:=rtab_ok t
 rcases a2 with⟨rfl,a2⟩|⟨rfl,a2⟩<;>rcases b2 with⟨rfl,b2⟩|⟨rfl,b2⟩
 ·exact .inl ⟨a1,b1,a2⟩
 ·exact(b2 a2).elim
 ·exact(a2 b2).elim
 ·exact .inr ⟨a1,b1,a2⟩
theorem half_at(n:Nat)(h:n<=1000):GV .i64 (tU .u64 (GV .u64 (GV .i64 (n:Int))) 1)=((n / 2:Nat):Int):=by
 rw [w64 (n:=(n:Int)) za za,IntWalk.u64_in (n:Int) za]
 have:tU .u64 (n:Int) 1=(n:Int) / 2:=shrU za 1 za
 rw [this,w64 za za];omega
theorem search_ok{t:bc}(f:qL t)(d:Int)(z:d<=t.b9*((t.bo.length:Int)-1)):Ok (lz (t.ba.length:Int) t d) (λr=>(0<=r∧r<t.ba.length)∧d<=r*t.b9∧(0<r->(r-1)*t.b9<d)):=by
 have B:=f.len;have hs:=f.same;have q:=f.step
 unfold lz
 rw [Hm]
 refine H5 (λs=>∃i j:Nat,s=((i:Int),(j:Int))∧i<t.ba.length∧i<=j∧j<=t.ba.length∧(j<t.ba.length->d<=(j:Int)*t.b9)∧(0<i->((i:Int)-1)*t.b9<d)) (λs=>(s.2-s.1).toNat) ?_ ⟨0,t.ba.length,rfl,za,za,EB _,λh=>za,λh=>za⟩
 rintro s ⟨i,j,rfl,i0,i1,i2,i3,i4⟩
 unfold lG
 dsimp only
 refine Hc (λc=>?_) (λl=>Hb ⟨⟨za,za⟩,?_,λh=>i4 za⟩)
 rotate_left
 ·obtain rfl:i=j:=by omega
  exact i3 i0
 have g:=half_at (i+j) za
 rw [Gu]at g
 have p:(i+j) / 2<j:=by omega
 have a:i<=(i+j) / 2:=by omega
 rw [g]
 generalize (i+j) / 2=k at*
 unfold lH
 have u:0<=(k:Int)*t.b9∧(k:Int)*t.b9<=256*1048576:=⟨Gs za za,Gr za za za za⟩
 rw [w64 (n:=(k:Int)*t.b9) za za,zd]
 refine H4 (λc=>?_) (λhle=>H7 ⟨i,k,rfl,i0,a,za,λ_=>hle,i4⟩ zc)
 rw [w64 za za]
 refine H7 ⟨k+1,j,zb,?_,za,i2,i3,λ_=>?_⟩ zc
 ·have h1:(k:Int)*t.b9<t.b9*((t.bo.length:Int)-1):=by omega
  rw [Gq]at h1
  have:=Int.lt_of_mul_lt_mul_left h1 za
  omega
 ·rw [show(((k+1:Nat):Int)-1)=k by omega];omega
theorem p9(t:bc){a b:Int}(hb:b<=13194139533312):∃r,fq t a b=some r∧jH t a b=some r∧(r.2.2=0->0<=r.1∧r.1<=r.2.1∧r.2.1<=1099511627776):=by
 unfold fq jH
 rcases lC t with⟨C,e2,j⟩|⟨C,e2,j⟩
 rotate_left
 ·rw [C,e2];exact⟨_,rfl,rfl,λh=>absurd h (by decide)⟩
 rw [C,e2]
 simp only [zd]
 simp only [bne_self_eq_false,FD,if_false]
 by_cases h1:a<0
 ·simp only [h1,decide_true,if_true];exact⟨_,rfl,rfl,λh=>absurd h (by decide)⟩
 simp only [h1,decide_false,FD,if_false]
 by_cases p:a>b
 ·simp only [p,decide_true,if_true];exact⟨_,rfl,rfl,λh=>absurd h (by decide)⟩
 simp only [p,decide_false,FD,if_false]
 obtain⟨c,F,G,c3,c4,c5,H⟩:=Ceil_eq (n:=b) za za
 obtain⟨x,Y,x2,E⟩:=ss (n:=a) za za
 have hl:=j.len;have hs:=j.same;have N:=j.step
 have hR:0<=t.b9*((t.bo.length:Int)-1)∧t.b9*((t.bo.length:Int)-1)<=1048576*256:=⟨Gs za za,Gr za za za za⟩
 unfold ol rj
 rw [F,G,e2]
 simp only [zd]
 simp only [bne_self_eq_false,FD,if_false]
 rw [w64 (n:=(t.bo.length:Int)-1) za za,w64 (n:=t.b9*((t.bo.length:Int)-1)) za za]
 simp only [zd]
 by_cases D:c>t.b9*((t.bo.length:Int)-1)
 ·simp only [D,decide_true,if_true];exact⟨_,rfl,rfl,λh=>absurd h (by decide)⟩
 simp only [D,decide_false,FD,if_false]
 obtain⟨u,u1,⟨u2,u3⟩,u4,X⟩:=search_ok j c za
 have O:x<=c:=by
  obtain⟨f,f1,f2,f3⟩:=ss (n:=b) za za
  have h5:=H f f3
  obtain⟨g1,g2,g3⟩:=E
  obtain⟨k1,k2,k3⟩:=f3
  apply Hn
  intro h
  have:(f+1)*(f+1)<=x*x:=Gr za za za za
  omega
 have z:=E.1
 have J:0<=x.tdiv t.b9:=HE z za
 have K:x.tdiv t.b9<=(t.bo.length:Int)-1:=by
  rw [HC z]
  exact Int.ediv_le_of_le_mul za (by rw [Gq];omega)
 have I:(c+t.b9-1).tdiv t.b9=u:=by
  rw [HC za]
  have g1:u<=(c+t.b9-1) / t.b9:=by
   rw [Gk za]
   rcases Gp u2 with h|h
   ·have:=X h
    rw [Int.sub_mul,Gy]at this;omega
   ·rw [<-h];omega
  have g2:(c+t.b9-1) / t.b9<u+1:=by
   rw [Int.ediv_lt_iff_lt_mul za,Int.add_mul,Gy];omega
  omega
 obtain⟨g,B⟩:∃g:Nat,x.tdiv t.b9=g:=⟨(x.tdiv t.b9).toNat,za⟩
 obtain⟨un,q⟩:∃un:Nat,u=un:=⟨u.toNat,za⟩
 have T:um .i64 x t.b9=some (g:Int):=by unfold um;rw [if_neg za,B,w64 za za]
 have W:um .i64 (c+t.b9-1) t.b9=some (un:Int):=by unfold um;rw [if_neg za,I,q,w64 za za]
 unfold rf rk
 rw [u1,Y,x2,w64 (n:=c+t.b9) za za,w64 (n:=c+t.b9-1) za za,W]
 simp only [zd]
 rw [T,q]
 simp only [zd]
 rw [si (l:=t.bo) (k:=g) za,si (l:=t.ba) (k:=un) za]
 refine⟨_,rfl,rfl,λ_=>?_⟩
 have L:g<=un:=by
  have h1:t.b9*(g:Int)<=u*t.b9:=by
   rw [<-B,HC z]
   have:=Int.mul_ediv_self_le (x:=x) (k:=t.b9) za
   omega
  rw [Gq,q]at h1
  have:=Int.le_of_mul_le_mul_right h1 za
  omega
 have mono:∀d i:Nat,i+d<t.bo.length->Lo t i<=Lo t (i+d):=λd=>by
  induction d with
  |zero=>exact λi _=>Gm _
  |succ d Q=>
   intro i hi
   have h1:=Q i za
   have p:=((j.all (i+(d+1)) za).2.2.2 za).1
   rw [show i+(d+1)-1=i+d by omega]at p
   omega
 have h1:=mono (un-g) g za
 rw [show g+(un-g)=un by omega]at h1
 have p:=j.all un za
 exact⟨(j.all g za).1,Int.le_trans h1 p.2.2.1,p.2.1⟩
theorem between_eq(t:bc){a b:Int}(f:b<=13194139533312):∃r,fq t a b=some r∧jH t a b=some r:=
 let⟨r,h1,c,_⟩:=p9 t f
 ⟨r,h1,c⟩
end Go.Dw.Ef
set_option maxRecDepth 100000
set_option maxHeartbeats 4000000
namespace Go.Dw.Ef
open Go.Dw Go.Proofs
open Sd (lF ke ip)
theorem sid_len{x:Sid}(h:Sq.iT x=true):Sq.pY x:=by
 obtain⟨h1,a,c,f⟩:=Sq.valid_len h
 exact⟨za,za,za,za⟩
def P(t:Int):Pick:=⟨⟨[65,66],[83,49],[48,48],[66,72,90]⟩,t,t,t,0,0⟩
def S1:Sid:=⟨[65,66],[83,49],[48,48],[66,72,90]⟩
theorem loop_first{α ω:Type}{body:Int->Option (pH Int (Unit⊕ω))}(l:List α){p:α->Bool}{f:Nat->α->ω}
  (h1:∀(i:Nat)(hi:i<l.length),body i=if p l[i]=true then some (.stop (.inr (f i l[i])))else some (.next ((i+1:Nat):Int)))
  (q:body (l.length:Nat)=some (.stop (.inl ()))):
  (cI body (0:Int)=some (.inl ())∧∀x∈l,p x=false)∨
  ∃(i:Nat)(hi:i<l.length),cI body (0:Int)=some (.inr (f i l[i]))∧p l[i]=true∧∀x∈l.take i,p x=false:=by
 have:∀k i,i+k=l.length->(∀x∈l.take i,p x=false)->(cI body (i:Int)=some (.inl ())∧∀x∈l,p x=false)∨
   ∃(j:Nat)(u:j<l.length),cI body (i:Int)=some (.inr (f j l[j]))∧p l[j]=true∧∀x∈l.take j,p x=false:=by
  intro k
  induction k with
  |zero=>
   intro i hi g
   obtain rfl:i=l.length:=by omega
   exact .inl ⟨dE q,by simpa using g⟩
  |succ k r=>
   intro i hi g
   have a:i<l.length:=by omega
   cases hp:p l[i]with
   |true=>exact .inr ⟨i,a,dE (by rw [h1 i a,if_pos hp]),hp,g⟩
   |false=>
    have e:=tv (ω:=Unit⊕ω) (body:=body) (s:=(i:Int)) (s':=((i+1:Nat):Int)) (by rw [h1 i a,if_neg (by simp [hp])])
    rw [e]
    refine r (i+1) za λx c=>?_
    rw [tD a]at c
    rcases List.mem_append.1 c with c|c
    ·exact g x c
    ·rw [GD]at c;rw [c];exact hp
 have:=this l.length 0 za zb
 simpa using this
theorem rF{α ω:Type}{body:Int->Option (pH Int (Unit⊕ω))}(l:List α){p:α->Bool}{f:α->ω}
  (h1:∀(i:Nat)(hi:i<l.length),body i=if p l[i]=true then some (.stop (.inr (f l[i])))else some (.next ((i+1:Nat):Int)))
  (c:body (l.length:Nat)=some (.stop (.inl ()))):cI body (0:Int)=some (match l.find? p with|none=>.inl ()|some x=>.inr (f x)):=by
 rcases loop_first l (f:=λ_ x=>f x) h1 c with⟨e,h⟩|⟨i,hi,e,hp,h⟩
 ·rw [e,List.find?_eq_none.2 λx a=>by simp [h x a]]
 ·rw [e]
  have:l.find? p=some l[i]:=by
   refine List.find?_eq_some_iff_append.2 ⟨hp,l.take i,l.drop (i+1),?_,λx a=>by simp [h x a]⟩
   rw [<-HI hi,List.take_append_drop]
  rw [this]
theorem ov{ω:Type}{body:Int->Option (pH Int (Unit⊕ω))}(n:Nat)(h1:∀i:Nat,i<n->body i=some (.next ((i+1:Nat):Int)))(a:body (n:Nat)=some (.stop (.inl ()))):cI body (0:Int)=some (.inl ()):=by
 have:∀k i:Nat,i+k=n->cI body (i:Int)=some (.inl ()):=by
  intro k
  induction k with
  |zero=>
   intro i hi
   obtain rfl:i=n:=by omega
   exact dE a
  |succ k c=>intro i hi;rw [tv (h1 i za)];exact c (i+1) za
 simpa using this n 0 za
theorem terms_ok{l:List Int}(c:l.length<=1000)(h:∀x∈l, -1048576<=x∧x<=1048576):dm l=some true:=by
 unfold dm ew eX
 rw [ov l.length (λi hi=>?_) ?_]
 ·rfl
 ·unfold cH
  rw [if_neg zb]
 ·unfold cH
  have a:=h l[i] (FB hi)
  rw [if_pos so,kp rfl hi,zd]
  unfold il cX
  rw [if_pos (by simpa using a.1),zd,zd,if_neg (by simpa using a.2),w64 za za]
  simp
def oY(x:bw):Prop:=dh x=some true∧(x.cU=2->x.b8=1)∧x.cx.length<=3∧0<=x.cM∧(-1048576<=x.bR.a0∧x.bR.a0<=1048576)∧(-1048576<=x.bO.a0∧x.bO.a0<=1048576)
theorem gain_ok{a b:Int}(c:1<=a∧a<=1048576)(f:1<=b∧b<=1048576):oY ⟨0,⟨a,0,0⟩,⟨b,0,0⟩,[],0,0⟩:=by
 refine⟨?_,zb,zb,zb,zc,zc⟩
 unfold dh cX
 simp [c.1,c.2,f.1,f.2]
theorem section_ok{a b c d e f:Int}(k: -10<=a∧a<=10)(l: -10<=b∧b<=10)(hc: -10<=c∧c<=10)(p:1<=d∧d<=10)(he: -10<=e∧e<=10)(hf: -10<=f∧f<=10):oY ⟨1,⟨a,b,c⟩,⟨d,e,f⟩,[],0,0⟩:=by
 refine⟨?_,zb,zb,zb,zc,zc⟩
 have h1:dm [a,b,c]=some true:=terms_ok zb so
 have g:dm [d,e,f]=some true:=terms_ok zb so
 have j:d≠0:=by omega
 unfold dh
 simp [h1,g,j]
theorem filter_ok{a s:Int}(l:1<=a∧a<=3)(hs:0<=s∧s<=3):oY ⟨2,⟨0,0,0⟩,⟨0,0,0⟩,[a,2,1],1,s⟩:=by
 have h1:a=1∨a=2∨a=3:=by omega
 have k:s=0∨s=1∨s=2∨s=3:=by omega
 refine⟨?_,zb,zb,hs.1,zb,zb⟩
 have j:dm [a,2,1]=some true:=terms_ok zb so
 have c:dU [a,2,1]=some (a+3):=by
  unfold dU
  rcases h1 with rfl|rfl|rfl
  ·rw [xC (n:=4) (o:=4) (by kernel_rfl)];rfl
  ·rw [xC (n:=4) (o:=5) (by kernel_rfl)];rfl
  ·rw [xC (n:=4) (o:=6) (by kernel_rfl)];rfl
 have f:a+3≠0:=by omega
 have g:0<=s∧s<=3:=by omega
 unfold dh cX
 rw [j,c]
 simp [f,g.1]
 omega
def RespOk(r:bv):Prop:=r.bJ.length<=3∧∀x∈r.bJ,oY x
theorem responseV(d:Src)(p:cO d):Ok (i9 d) (λr=>RespOk r.1∧cO r.2):=by
 unfold i9
 refine HZ (eY _ _ p za za) (λE h1=>?_)
 refine HZ (P:=λo:List Int×Int×List bw=>cO ⟨o.1,o.2.1⟩∧(o.2.2.length<=3∧∀x∈o.2.2,oY x)) (H5 (λs=>0<=s.1∧s.1+s.2.2.2.length<=3∧(∀x∈s.2.2.2,oY x)∧cO ⟨s.2.1,s.2.2.1⟩) (λs=>s.1.toNat) ?_ ⟨zc,by simp only [E0];omega,zb,h1.2.2⟩) (λo ho=>H9 (Q:=λr:bv×Src=>RespOk r.1∧cO r.2) ⟨ho.2,ho.1⟩)
 rintro⟨s2,s3,D,k⟩ ⟨i0,i1,i2,i3⟩
 simp only at i0 i1 i2 i3
 unfold la
 have f:∀(x:bw),Ok (tE k [x] 96) (λr=>r=k++[x]):=λx=>HY (by simp only [EZ,E0];omega)
 have a:∀{x:bw},oY x->∀c∈k++[x],oY c:=λu c hc=>by
  simp only [GC,GD]at hc
  rcases hc with hc|rfl
  ·exact i2 c hc
  ·exact u
 refine Hc (λq=>?_) (λ_=>Hb ⟨i3,zc,i2⟩)
 refine HZ (eY _ _ i3 za za) (λz g1=>?_)
 refine He (λhk=>?_) (λ_=>He (λhk=>?_) (λ_=>?_))
 ·refine HZ (fB _ _ g1.2.2 zb zb) (λg g2=>?_)
  refine HZ (fB _ _ g2.2 zb zb) (λj g3=>?_)
  refine HZ (f _) (λl g4=>?_)
  subst g4
  have b1:0<=g.1∧g.1<=1048575:=by have:=g2.1;simp at this;omega
  have b2:0<=j.1∧j.1<=999:=by have:=g3.1;simp at this;omega
  rw [w64 (n:=s2-1) za za,w64 (n:=1+g.1) za za,w64 (n:=1+j.1) za za,hk]
  exact H7 ⟨zc,by simp only [F0,EZ,E0];omega,a (gain_ok za za),g3.2⟩ zc
 ·refine HZ (eY _ _ g1.2.2 za za) (λg g2=>?_)
  refine HZ (eY _ _ g2.2.2 za za) (λj g3=>?_)
  refine HZ (eY _ _ g3.2.2 za za) (λl g4=>?_)
  refine HZ (eY _ _ g4.2.2 za za) (λB g5=>?_)
  refine HZ (eY _ _ g5.2.2 za za) (λF g6=>?_)
  refine HZ (eY _ _ g6.2.2 za za) (λG g7=>?_)
  refine HZ (f _) (λC g8=>?_)
  subst g8
  rw [w64 (n:=s2-1) za za,w64 (n:=j.1-3) za za,w64 (n:=l.1-1) za za,w64 (n:=1+B.1) za za,hk]
  exact H7 ⟨zc,by simp only [F0,EZ,E0];omega,a (section_ok za za za za za za),g7.2.2⟩ zc
 ·refine HZ (eY _ _ g1.2.2 za za) (λg g2=>?_)
  refine HZ (eY _ _ g2.2.2 za za) (λj g3=>?_)
  refine HZ (f _) (λC g8=>?_)
  subst g8
  rw [w64 (n:=s2-1) za za,w64 (n:=1+g.1) za za,show z.1=2 by omega]
  exact H7 ⟨zc,by simp only [F0,EZ,E0];omega,a (filter_ok za za),g3.2.2⟩ zc
def RateOk(r:cd):Prop:=r.bO=1∧(r.bR=100∨r.bR=50∨r.bR=51)
structure EpOk(e:bi):Prop where
 lo:0<=e.ck
 lt:e.ck<e.fTo
 hi:e.fTo<=10000000
 from_:e.ck<=100000
 rate:RateOk e.nP
 resp:RespOk e.b7
 pos:pB 60 e.bW
structure EpsOk(l:List bi):Prop where
 ne:l≠ []
 len:l.length<=3
 all:∀e∈l,EpOk e
 ord:(l.map λe=>(e.ck,e.fTo)).Pairwise (λa b=>a.2<=b.1)
 last:∀e,l.getLast?=some e->e.fTo=100000
def ChOk(c:av):Prop:=IsSid c.az∧EpsOk c.bF
structure InvV(v:ag):Prop where
 len:v.bp.length<=6
 all:∀c∈v.bp,ChOk c
 ord:(v.bp.map (·.az)).Pairwise (λa b=>lF a b<0)
 net:∀c∈v.bp,c.az.bI=[65,66]
theorem InvV.inv{v:ag}(h:InvV v):InvOk v:=⟨h.len,λc hc=>⟨(h.all c hc).2.len,λe he=>((h.all c hc).2.all e he).pos⟩⟩
def sid(i:Nat):Sid:=⟨[65,66],stas.getD i [],[48,48],[66,72,90]⟩
theorem source_at{n:Int}{i:Nat}(a:n=i)(hi:i<6):kf n=some (sid i):=by
 subst a
 have:i=0∨i=1∨i=2∨i=3∨i=4∨i=5:=by omega
 rcases this with rfl|rfl|rfl|rfl|rfl|rfl<;>(show kf _=some _;kernel_rfl)
theorem sid_ok{i:Nat}(hi:i<6):IsSid (sid i):=by
 have:i=0∨i=1∨i=2∨i=3∨i=4∨i=5:=by omega
 rcases this with rfl|rfl|rfl|rfl|rfl|rfl<;>(show Sq.iT _=true;decide+kernel)
theorem sid_lt{i j:Nat}(h:i<j)(c:j<6):lF (sid i) (sid j)<0:=by
 have h1:i=0∨i=1∨i=2∨i=3∨i=4:=by omega
 have a:j=1∨j=2∨j=3∨j=4∨j=5:=by omega
 rcases h1 with rfl|rfl|rfl|rfl|rfl<;>rcases a with rfl|rfl|rfl|rfl|rfl<;>first|omega|decide+kernel
theorem eps1{e:bi}(h:EpOk e)(a:e.fTo=100000):EpsOk [e]:=⟨zb,zb,by simpa using h,zb,by simpa using a⟩
theorem eps2{e f:bi}(h:EpOk e)(a:EpOk f)(ho:e.fTo<=f.ck)(c:f.fTo=100000):EpsOk [e,f]:=⟨zb,zb,by simp;exact⟨h,a⟩,by simpa using ho,by simpa using c⟩
def SitesI(s:Int×List Int×Int×List av):Prop:=∃i:Nat,s.1=i∧i<=6∧s.2.2.2.map (·.az)=(EH i).map sid∧(∀c∈s.2.2.2,EpsOk c.bF∧c.bF.length<=2)∧cO ⟨s.2.1,s.2.2.1⟩
theorem sitesV{n:Int}(d:Src)(E:cO d):Ok (oq n d) (λr=>(InvV r.1∧∀c∈r.1.bp,c.bF.length<=2)∧cO r.2):=by
 unfold oq
 refine HZ (P:=λo=>cO ⟨o.1,o.2.1⟩∧InvV ⟨o.2.2⟩∧∀c∈o.2.2,c.bF.length<=2) (H5 SitesI (λs=>(6-s.1).toNat) ?_ ⟨0,rfl,za,rfl,zb,E⟩) (λo ho=>H9 ⟨ho.2,ho.1⟩)
 rintro⟨s1,s2,s3,k⟩ ⟨i,i0,i1,i2,i3,i4⟩
 simp only at i0 i1 i2 i3 i4
 subst i0
 have hlen:k.length=i:=by have:=congrArg HO i2;simpa using this
 unfold nv
 have f:∀(x:av),Ok (tE k [x] 88) (λr=>r=k++[x]):=λx=>HY (by simp only [EZ,E0];omega)
 have g:InvV ⟨k⟩:=by
  refine⟨zc,λc hc=>⟨?_,(i3 c hc).1⟩,?_,λc hc=>?_⟩
  ·have:c.az∈k.map (·.az):=List.mem_map.2 ⟨c,hc,rfl⟩
   rw [i2]at this
   obtain⟨j,B,e⟩:=List.mem_map.1 this
   rw [<-e]
   exact sid_ok (by have:=List.mem_range.1 B;omega)
  ·simp only
   rw [i2,List.pairwise_map]
   exact List.pairwise_lt_range.imp_of_mem λJ D z=>sid_lt z (by have:=List.mem_range.1 D;omega)
  ·have:c.az∈k.map (·.az):=List.mem_map.2 ⟨c,hc,rfl⟩
   rw [i2]at this
   obtain⟨j,B,e⟩:=List.mem_map.1 this
   rw [<-e];rfl
 have a:∀{l:List bi}{t:Src},i<6->EpsOk l∧l.length<=2->cO t->Ok (some (.next ((i:Int)+1,t.fL,t.fAt,k++[⟨sid i,l⟩]))) (Ok.S SitesI (λs=>(6-s.1).toNat) (λo:List Int×Int×List av=>cO ⟨o.1,o.2.1⟩∧InvV ⟨o.2.2⟩∧∀c∈o.2.2,c.bF.length<=2) ((i:Int),s2,s3,k)):=fun{l t}hi F H=>by
  refine H7 ⟨i+1,zb,za,?_,λc hc=>?_,H⟩ zc
  ·simp [List.range_succ,i2]
  ·simp only [GC,GD]at hc
   rcases hc with hc|rfl
   ·exact i3 c hc
   ·exact F
 refine Hc (λG=>?_) (λ_=>Hb ⟨i4,g,λc hc=>(i3 c hc).2⟩)
 refine Hc (λ_=>?_) (λ_=>Hb ⟨i4,g,λc hc=>(i3 c hc).2⟩)
 have hi:i<6:=by omega
 refine HZ (qZ 60 za za _ i4) (λK g1=>?_)
 refine HZ (responseV _ g1.2) (λL g2=>?_)
 rw [source_at rfl hi,zd]
 refine HZ (eY _ _ g2.2 za za) (λN g4=>?_)
 rw [w64 (n:=(i:Int)+1) za za]
 have u:RateOk ⟨100,1⟩:=⟨rfl,.inl rfl⟩
 refine He (λ_=>?_) (λ_=>He (λ_=>?_) (λ_=>?_))
 ·refine HZ (eY _ _ g4.2.2 za za) (λC g5=>?_)
  refine HZ (qZ 60 za za _ g5.2.2) (λO g6=>?_)
  refine HZ (responseV _ g6.2) (λQ g7=>?_)
  refine HZ (Hg za zb) (λ_ _=>?_)
  refine HZ (H6 za zb) (λI g8=>?_)
  obtain⟨x,p,rfl⟩:=g8
  simp at p
  subst p
  refine HZ (HY zb) (λT g9=>?_)
  subst g9
  refine HZ (f _) (λq g10=>?_)
  subst g10
  rw [w64 (n:=1500+C.1) za za]
  exact a hi ⟨eps2 ⟨zb,zc,zc,zb,u,g2.1,g1.1⟩ ⟨zc,zc,zb,zc,u,g7.1,g6.1⟩ zb zb,zb⟩ g7.2
 ·refine HZ (eY _ _ g4.2.2 za za) (λC g5=>?_)
  refine HZ (Hg za zb) (λ_ _=>?_)
  refine HZ (H6 za zb) (λI g8=>?_)
  obtain⟨x,p,rfl⟩:=g8
  simp at p
  subst p
  refine HZ (f _) (λq g10=>?_)
  subst g10
  exact a hi ⟨eps1 ⟨g5.1,zc,zb,zc,u,g2.1,g1.1⟩ zb,zb⟩ g5.2.2
 ·refine HZ (f _) (λq g10=>?_)
  subst g10
  exact a hi ⟨eps1 ⟨zb,zb,zb,zb,u,g2.1,g1.1⟩ zb,zb⟩ g4.2.2
end Go.Dw.Ef
set_option maxRecDepth 100000
set_option maxHeartbeats 4000000
namespace Go.Dw.Ef
open Go.Dw Go.Proofs
open Sd (lF ke ip)
theorem clone_at{α:Type}{n:Nat}{l:List α}(h:l.length*n<=140737488355328):uK n l=some l:=by
 unfold uK;rw [if_pos h]
def iZ(r:bv):Prop:=r.bJ.length<=1000∧∀x∈r.bJ,x.cx.length<=1000
theorem copyEpoch_at{e:bi}(h:iZ e.b7):ic e=some e:=by
 obtain⟨h1,f⟩:=h
 unfold ic
 rw [clone_at za,zd]
 have:Ok (cI (fA e.b7.bJ) ((0:Int),e.b7.bJ)) (λo=>o=e.b7.bJ):=by
  refine H5 (λs=>0<=s.1∧s.1<=e.b7.bJ.length∧s.2=e.b7.bJ) (λs=>((e.b7.bJ.length:Int)-s.1).toNat) ?_ ⟨Gm _,zb,rfl⟩
  rintro⟨s2,s3⟩ ⟨i0,i1,i2⟩
  simp only at i0 i1 i2
  subst i2
  unfold fA
  dsimp only
  refine Hc (λg=>?_) (λ_=>Hb rfl)
  refine HZ (Hg za za) (λ_ _=>?_)
  refine HZ (H2 za za) (λx a=>?_)
  have:=f x a.1
  rw [clone_at za,zd]
  refine HZ (Hg za za) (λ_ _=>?_)
  refine HZ (H6 za za) (λy j=>?_)
  obtain⟨z,c,rfl⟩:=j
  obtain rfl:x=z:=by rw [a.2]at c;exact Option.some.inj c
  rw [w64 za za]
  refine H7 ⟨zc,zc,?_⟩ zc
  obtain⟨hk,e⟩:=List.getElem?_eq_some_iff.1 a.2
  simp only
  conv=>lhs;rw [<-e]
  exact HS hk
 rw [this.eq];rfl
def ChLen(c:av):Prop:=c.bF.length<=1000∧∀e∈c.bF,iZ e.b7
theorem copied_at{c:av}(h:ChLen c):lh c=some c:=by
 obtain⟨h1,f⟩:=h
 unfold lh
 rw [clone_at za,zd]
 have:Ok (cI (gD c.bF) ((0:Int),c.bF)) (λo=>o=c.bF):=by
  refine H5 (λs=>0<=s.1∧s.1<=c.bF.length∧s.2=c.bF) (λs=>((c.bF.length:Int)-s.1).toNat) ?_ ⟨Gm _,zb,rfl⟩
  rintro⟨s2,s3⟩ ⟨i0,i1,i2⟩
  simp only at i0 i1 i2
  subst i2
  unfold gD
  dsimp only
  refine Hc (λg=>?_) (λ_=>Hb rfl)
  refine HZ (Hg za za) (λ_ _=>?_)
  refine HZ (H2 za za) (λx a=>?_)
  rw [copyEpoch_at (f x a.1),zd]
  refine HZ (Hg za za) (λ_ _=>?_)
  refine HZ (Ha za za) (λy j=>?_)
  subst j
  rw [w64 za za]
  refine H7 ⟨zc,zc,?_⟩ zc
  obtain⟨hk,e⟩:=List.getElem?_eq_some_iff.1 a.2
  simp only
  conv=>lhs;rw [<-e]
  exact HS hk
 rw [this.eq];rfl
structure InvLen(v:ag):Prop where
 len:v.bp.length<=1000
 all:∀c∈v.bp,ChLen c
theorem InvV.lens{v:ag}(h:InvV v):InvLen v:=by
 refine⟨by have:=h.len;omega,λc hc=>?_⟩
 have a:=(h.all c hc).2
 refine⟨by have:=a.len;omega,λe he=>?_⟩
 have f:=(a.all e he).resp
 exact⟨by have:=f.1;omega,λx g=>by have:=(f.2 x g).2.2.1;omega⟩
def zCh:av:=⟨⟨[],[],[],[]⟩,[]⟩
def zEp:bi:=⟨0,0,⟨0,0⟩,⟨0,0,0⟩,⟨[]⟩⟩
def sh(v:ag)(s:Sid):Option av:=v.bp.find? λc=>decide (c.az=s)
def epIn(l:List bi)(t:Int):Option bi:=l.find? λe=>decide (e.ck<=t∧t<e.fTo)
def epAt(v:ag)(s:Sid)(t:Int):Option bi:=(sh v s).bind λc=>epIn c.bF t
theorem Find_eq{v:ag}(a:InvLen v)(s:Sid):mO v s=some (match sh v s with|none=>(zCh,false)|some c=>(c,true)):=by
 have g:=a.len
 unfold mO
 rw [rF v.bp (p:=λc=>decide (c.az=s)) (f:=λc=>(c,true)) (λi hi=>?_) ?_,zd]
 ·unfold sh
  cases v.bp.find? λc=>decide (c.az=s)<;>rfl
 ·unfold jQ
  rw [if_neg zb]
 ·unfold jQ
  rw [if_pos so,kp rfl hi,zd,Sd.eqs,copied_at (a.all _ (FB hi)),zd,w64 za za]
  simp
theorem at_eq{c:av}(hc:c.bF.length<=1000)(t:Int):oe c t=some (match epIn c.bF t with|none=>(zEp,false)|some e=>(e,true)):=by
 unfold oe
 rw [rF c.bF (p:=λe=>decide (e.ck<=t∧t<e.fTo)) (f:=λe=>(e,true)) (λi hi=>?_) ?_,zd]
 ·unfold epIn
  cases c.bF.find? λe=>decide (e.ck<=t∧t<e.fTo)<;>rfl
 ·unfold l8
  rw [if_neg zb]
 ·unfold l8
  rw [if_pos so,kp rfl hi,zd,w64 za za]
  by_cases h1:c.bF[i].ck<=t<;>by_cases a:t<c.bF[i].fTo<;>simp [h1,a]
theorem chan_mem{v:ag}{s:Sid}{c:av}(h:sh v s=some c):c∈v.bp∧c.az=s:=by
 unfold sh at h
 exact⟨HR h,by simpa using HK h⟩
theorem epIn_mem{l:List bi}{t:Int}{e:bi}(h:epIn l t=some e):e∈l∧e.ck<=t∧t<e.fTo:=by
 unfold epIn at h
 have:=HK h
 simp only [decide_eq_true_eq]at this
 exact⟨HR h,this⟩
theorem At_eq{v:ag}(a:InvLen v)(hV:dJ v=some true)(s:Sid)(t:Int):lg v s t=some (match epAt v s t with|none=>(zEp,6)|some e=>(e,0)):=by
 unfold lg
 rw [hV,zd,if_neg zb,Find_eq a,zd]
 unfold epAt
 cases hc:sh v s with
 |none=>
  dsimp only
  rw [at_eq (by simp [zCh])]
  rfl
 |some c=>
  dsimp only
  rw [at_eq (a.all c (chan_mem hc).1).1,zd,zd]
  cases epIn c.bF t<;>rfl
end Go.Dw.Ef
set_option maxRecDepth 100000
set_option maxHeartbeats 4000000
namespace Go.Dw.Ef
open Go.Dw
namespace Sd
theorem ref_cmp(a b:List UInt8):gT a b=some (wu a b):=by
 unfold gT wu
 cases h:Op.bytesLess a b with
 |true=>simp
 |false=>by_cases e:a=b<;>simp [e]
theorem kU(a b:Src):lP a b=some (lF a b):=by
 unfold lP lF
 simp only [ref_cmp,zd,bne_iff_ne,ne_eq]
 by_cases h1:wu a.bI b.bI=0<;>by_cases c:wu a.bB b.bB=0<;>by_cases f:wu a.bg b.bg=0<;>by_cases g:wu a.bL b.bL=0<;>simp [h1,c,f,g]
end Sd
open Sd (lF ke ip)
theorem step_int{β:Type}(a b:Int)(k:Option Int):(if(decide (a<b))=true then(some (-1:Int))else(if(decide (a>b))=true then(some (1:Int))else k))=(if uu a b≠0 then some (uu a b)else k):=by
 unfold uu
 by_cases h1:a<b
 ·rw [if_pos (decide_eq_true h1)];simp [h1]
 ·rw [if_neg (by simpa using h1)]
  by_cases c:a>b
  ·rw [if_pos (decide_eq_true c)];simp [h1,c]
  ·rw [if_neg (by simpa using c)];simp [h1,c]
theorem some_ite{c:Prop} [Decidable c] (a b:Int):(if c then some a else some b)=some (if c then a else b):=by split<;>rfl
theorem kU(a b:Pick):lT a b=some (jo a b):=by
 unfold lT jo
 rw [Sd.kU,zd]
 have c:((lF a.az b.az != (0:Int))=true)=(lF a.az b.az≠0):=by simp
 simp only [step_int (β:=Unit),c]
 have hp:(if uu a.bM b.bM≠0 then some (uu a.bM b.bM)else some 0)=some (uu a.bM b.bM):=by
  by_cases h:uu a.bM b.bM=0<;>simp [h]
 rw [hp]
 simp only [some_ite]
end Go.Dw.Ef
