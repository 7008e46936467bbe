
import Derived.Test.YtmmgjlgoggielaaGreatLtFn
import Derived.Test.YtmmgjlgoggielaaGreatDwPlain
import Derived.Test.YtmmgjlgoggielaaGreatDwOk
import Derived.Test.YtmmgjlgoggielaaGreatLtCo
import Derived.KernelRfl

set_option maxRecDepth 100000
set_option maxHeartbeats 4000000
namespace Go.Dw.Lt
namespace Sq
open Go.Dw
abbrev Src:=ap
theorem byteO_at{s:List UInt8}{n:Int}{i:Nat}(hn:n=i)(hi:i<s.length):tC s n=some ((s[i].toNat:Nat):Int):=by
 subst hn
 unfold tC
 rw [if_pos ⟨om,om⟩,Int.toNat_natCast,List.getD_eq_getElem?_getD,zd hi];rfl
theorem appO_at{α:Type}{l m:List α}{b:Nat}(h:(l.length+m.length)*b<=140737488355328):px l m b=some (l++m):=by
 unfold px
 rw [if_pos h]
theorem loop_list{α ω:Type}{body:Int->Option (nX Int ω)}(l:List α){p:α->Bool}{u r:ω}(h1:∀(i:Nat)(hi:i<l.length),body i=if p l[i]=true then some (.next ((i+1:Nat):Int))else some (.stop r))
  (h2:body (l.length:Nat)=some (.stop u)):nW body (0:Int)=some (if l.all p=true then u else r):=by
 have:∀k i,i+k=l.length->nW body (i:Int)=some (if(l.drop i).all p=true then u else r):=by
  intro k
  induction k with
  |zero=>
   intro i hi
   obtain rfl:i=l.length:=by omega
   rw [oQ h2];simp
  |succ k ih=>
   intro i hi
   have hlt:i<l.length:=by omega
   rw [List.drop_eq_getElem_cons hlt,List.all_cons]
   by_cases hp:p l[i]=true
   ·rw [pC (by rw [h1 i hlt,if_pos hp]),ih (i+1) om,hp,Bool.true_and]
   ·rw [oQ (by rw [h1 i hlt,if_neg hp])];simp [hp]
 have:=this l.length 0 om
 simpa using this
def plainB(c:UInt8):Bool:=(decide (65<=c.toNat)&&decide (c.toNat<=90))||(decide (48<=c.toNat)&&decide (c.toNat<=57))
theorem dec1(n:Nat):decide ((n:Int)>=65)=decide (65<=n):=decide_eq_decide.2 om
theorem dec2(n:Nat):decide ((n:Int)<=90)=decide (n<=90):=decide_eq_decide.2 om
theorem dec3(n:Nat):decide ((n:Int)>=48)=decide (48<=n):=decide_eq_decide.2 om
theorem dec4(n:Nat):decide ((n:Int)<=57)=decide (n<=57):=decide_eq_decide.2 om
theorem plain_eq(c:UInt8):jK ((c.toNat:Nat):Int)=some (plainB c):=by
 unfold jK plainB
 rw [dec1,dec2,dec3,dec4]
 cases decide (65<=c.toNat)<;>cases decide (c.toNat<=90)<;>cases decide (48<=c.toNat)<;>simp
def l7(s:List UInt8)(lo hi:Int):Bool:=s.all plainB&&(decide ((s.length:Int)>=lo)&&decide ((s.length:Int)<=hi))
theorem code_l7{s:List UInt8}(hs:s.length<=9223372036854775807):nW (gf s) (0:Int)=some (if s.all plainB=true then .inl ()else .inr false):=by
 refine loop_list s (fun i hi=>?_) ?_
 ·unfold gf
  rw [if_pos so,byteO_at rfl hi,w64 om om]
  simp only [zc,plain_eq]
  cases plainB s[i]<;>simp
 ·unfold gf
  rw [if_neg sm]
theorem code_eq{s:List UInt8}(hs:s.length<=9223372036854775807)(lo hi:Int):eF s lo hi=some (l7 s lo hi):=by
 unfold eF l7
 rw [code_l7 hs]
 cases s.all plainB with
 |true=>cases decide ((s.length:Int)>=lo)<;>simp
 |false=>rfl
def SidLen(x:Src):Prop:=x.aY.length<=9223372036854775807∧x.aM.length<=9223372036854775807∧x.aK.length<=9223372036854775807∧x.bd.length<=9223372036854775807
def my(x:Src):Bool:=l7 x.aY 1 2&&(l7 x.aM 1 5&&(l7 x.aK 0 2&&(decide (x.aK.length≠1)&&l7 x.bd 3 3)))
theorem Valid_eq{x:Src}(hx:SidLen x):fB x=some (my x):=by
 obtain⟨h1,h2,h3,h4⟩:=hx
 unfold fB my
 simp only [code_eq h1,code_eq h2,code_eq h3,code_eq h4,zc]
 have e:((x.aK.length:Int) != 1)=decide (x.aK.length≠1):=by
  by_cases h:x.aK.length=1
  ·simp [h]
  ·simp [h];omega
 rw [e]
 cases l7 x.aY 1 2<;>cases l7 x.aM 1 5<;>cases l7 x.aK 0 2<;>cases decide (x.aK.length≠1)<;>simp
theorem mD{s:List UInt8}{lo:Int}{hi:Nat}(h:l7 s lo hi=true):s.length<=hi:=by
 unfold l7 at h
 simp only [Bool.and_eq_true,decide_eq_true_eq]at h
 omega
theorem valid_len{x:Src}(h:my x=true):x.aY.length<=2∧x.aM.length<=5∧x.aK.length<=2∧x.bd.length<=3:=by
 unfold my at h
 simp only [Bool.and_eq_true]at h
 exact⟨mD (hi:=2) h.1,mD (hi:=5) h.2.1,mD (hi:=2) h.2.2.1,mD (hi:=3) h.2.2.2.2⟩
end Sq
end Go.Dw.Lt
set_option maxRecDepth 100000
set_option maxHeartbeats 4000000
namespace Go.Dw.Lt
open Go.Dw
abbrev Src:=ac
abbrev Pick:=ar
abbrev Sid:=ap
theorem mod_ok(a b:Int)(h0:1<=b)(h1:b<=1000000000):Ok (lk a b) (fun r=>0<=r∧r<b):=by
 unfold lk
 have hl:a.tmod b<b:=Int.tmod_lt_of_pos _ om
 have hg: -b<a.tmod b:=by
  rcases Int.le_total 0 a with h|h
  ·have:=Int.tmod_nonneg b h;omega
  ·have e:a.tmod b= -((-a).tmod b):=by rw [Int.neg_tmod];omega
   have:=Int.tmod_lt_of_pos (-a) (show 0<b by omega)
   omega
 refine Ok.nS (fun _=>om) (fun _=>?_)
 refine Ok.bind (Ok.rem om) (fun x hx=>?_)
 subst hx
 refine Ok.nS (fun _=>?_) (fun _=>?_)
 ·rw [w64 om om]
  exact Ok.ret om
 ·exact Ok.ret om
def bP(d:Src):Prop:=0<=d.fAt∧d.fAt<=d.fL.length∧d.fL.length<=2000
theorem raw_ok(d:Src)(hd:bP d):Ok (Src_Raw d) (fun r=>bP r.2):=by
 obtain⟨h0,h1,h2⟩:=hd
 unfold Src_Raw
 refine Ok.nS (fun _=>Ok.ret ⟨h0,h1,h2⟩) (fun h=>?_)
 rw [w64 (n:=d.fAt+1) om om,w64 om om]
 refine Ok.bind (Ok.get om om) (fun x _=>?_)
 refine Ok.ret ⟨?_,?_,h2⟩<;>simp only<;>omega
theorem c9(k:Int)(d:Src)(hd:bP d)(h0:1<=k)(h1:k<=1000000000):Ok (cb k d) (fun r=>0<=r.1∧r.1<k∧bP r.2):=by
 unfold cb
 refine Ok.bind (raw_ok d hd) (fun x hx=>?_)
 refine Ok.bind (mod_ok _ _ h0 h1) (fun y hy=>?_)
 exact Ok.ret ⟨hy.1,hy.2,hx⟩
theorem dh(l:List Int)(d:Src)(hd:bP d)(h0:l≠ [])(h1:l.length<=1000000):Ok (cA l d) (fun r=>r.1∈l∧bP r.2):=by
 unfold cA
 have:=List.length_pos_iff.2 h0
 refine Ok.bind (c9 _ d hd om om) (fun x hx=>?_)
 refine Ok.bind (Ok.get hx.1 hx.2.1) (fun y hy=>?_)
 exact Ok.ret ⟨hy.1,hx.2.2⟩
def stas:List (List UInt8):=[[83,49],[83,50],[83,51],[83,52],[83,53],[83,54]]
def IsSid(a:Sid):Prop:=Sq.my a=true
theorem stas_ok:∀x∈stas,Sq.my ⟨[65,66],x,[48,48],[66,72,90]⟩=true:=by decide+kernel
theorem source_ok(n:Int):Ok (c7 n) IsSid:=by
 unfold c7
 refine Ok.bind (mod_ok n 6 om om) (fun x hx=>?_)
 refine Ok.bind (Ok.get hx.1 hx.2) (fun y hy=>?_)
 exact Ok.ret (stas_ok y hy.1)
theorem new_ok(l:List Int):Ok (ip l) bP:=by
 unfold ip
 refine Ok.bind (Ok.cut om (by split<;>omega) (by split<;>omega)) (fun x hx=>?_)
 subst hx
 refine Ok.ret ⟨sm,sm,?_⟩
 simp only [List.length_take,List.length_drop]
 split<;>omega
def dg(m:Int)(p:aa):Prop:=(-m<=p.fX∧p.fX<=m)∧(-m<=p.fY∧p.fY<=m)∧(-m<=p.fZ∧p.fZ<=m)
theorem lr(m:Int)(h0:0<=m)(h1:m<=1000)(d:Src)(hd:bP d):Ok (hF m d) (fun r=>dg m r.1∧bP r.2):=by
 unfold hF
 rw [w64 (n:=2*m) om om,w64 (n:=2*m+1) om om,w64 (n:=m+1) om om]
 refine Ok.bind (c9 _ _ hd om om) (fun y1 g1=>?_)
 refine Ok.bind (c9 _ _ g1.2.2 om om) (fun y2 g2=>?_)
 refine Ok.bind (c9 _ _ g2.2.2 om om) (fun y3 g3=>?_)
 rw [w64 (n:=y1.1-m) om om,w64 (n:=y2.1-m) om om]
 exact Ok.ret ⟨⟨za,za,za⟩,g3.2.2⟩
def dN(b:ag):Prop:=dg 40 b.aF∧(0<=b.az.fX-b.aF.fX∧b.az.fX-b.aF.fX<=3)∧(0<=b.az.fY-b.aF.fY∧b.az.fY-b.aF.fY<=3)∧(0<=b.az.fZ-b.aF.fZ∧b.az.fZ-b.aF.fZ<=3)
theorem box_ok(m side:Int)(h0:0<=m)(h1:m<=40)(h2:0<=side)(h3:side<=3)(d:Src)(hd:bP d):Ok (lv m side d) (fun r=>dN r.1∧bP r.2):=by
 unfold lv
 rw [w64 (n:=side+1) om om]
 refine Ok.bind (lr m h0 om d hd) (fun y0 g0=>?_)
 refine Ok.bind (c9 _ _ g0.2 om om) (fun y1 g1=>?_)
 refine Ok.bind (c9 _ _ g1.2.2 om om) (fun y2 g2=>?_)
 refine Ok.bind (c9 _ _ g2.2.2 om om) (fun y3 g3=>?_)
 obtain⟨⟨p1,p2,p3⟩, -⟩:=g0
 rw [w64 (n:=y0.1.fX+y1.1) om om,w64 (n:=y0.1.fY+y2.1) om om,w64 (n:=y0.1.fZ+y3.1) om om]
 refine Ok.ret ⟨⟨⟨za,za,za⟩,za,za,za⟩,g3.2.2⟩
structure TabOk(t:aq):Prop where
 step:t.aQ=20∨t.aQ=25∨t.aQ=40∨t.aQ=100
 len:1<=t.aF.length∧t.aF.length<=30
 same:t.az.length=t.aF.length
 low:∀x∈t.aF,0<=x∧x<=3000
 high:∀x∈t.az,0<=x∧x<=5000
theorem table_ok(d:Src)(hd:bP d):Ok (gh d) (fun r=>TabOk r.1∧bP r.2):=by
 unfold gh
 refine Ok.bind (dh _ d hd sm sm) (fun x1 h1=>?_)
 obtain⟨hst,h1⟩:=h1
 have hst:x1.1=20∨x1.1=25∨x1.1=40∨x1.1=100:=by simpa using hst
 refine Ok.bind (c9 _ _ h1 om om) (fun x2 h2=>?_)
 have hq:∃q,IntKind.wrap .i64 ((400:Int).tdiv x1.1)=q∧4<=q∧q<=20:=by
  rcases hst with e|e|e|e<;>rw [e]<;>exact⟨_,rfl,by decide,by decide⟩
 have hp:∃q,IntKind.wrap .i64 (x1.1.tdiv 4)=q∧0<=q∧q<=25:=by
  rcases hst with e|e|e|e<;>rw [e]<;>exact⟨_,rfl,by decide,by decide⟩
 obtain⟨q,hq,q0,q1⟩:=hq
 obtain⟨p,hp,p0,p1⟩:=hp
 refine Ok.bind (P:=fun o=>bP ⟨o.1,o.2.1⟩∧(1<=o.2.2.1.length∧o.2.2.1.length<=30)∧o.2.2.2.length=o.2.2.1.length∧(∀x∈o.2.2.1,0<=x∧x<=3000)∧(∀x∈o.2.2.2,0<=x∧x<=5000))
  (Ok.loop (fun s => (0 ≤ s.2.2.1 ∧ s.2.2.1 ≤ 23) ∧ s.2.2.2.2.2.1.length = s.2.2.1.toNat ∧ s.2.2.2.2.2.2.length = s.2.2.1.toNat ∧ (0 ≤ s.1 ∧ s.1 ≤ 60 * s.2.2.1) ∧ (0 ≤ s.2.1 ∧ s.2.1 ≤ 100 * s.2.2.1 + 2) ∧ bP ⟨s.2.2.2.1, s.2.2.2.2.1⟩ ∧ (∀ x ∈ s.2.2.2.2.2.1, 0 ≤ x ∧ x ≤ 3000) ∧ (∀ x ∈ s.2.2.2.2.2.2, 0 ≤ x ∧ x ≤ 5000))
   (fun s=>(23-s.2.2.1).toNat) ?_ ⟨⟨sm,sm⟩,rfl,rfl,⟨sm,sm⟩,⟨za,za⟩,h2.2.2,sm,sm⟩) ?_
 ·rintro⟨s3,s4,s5,s6,s7,s8,s9⟩ ⟨i0,i1,i2,i3,i4,i5,i6,i7⟩
  simp only at i0 i1 i2 i3 i4 i5 i6 i7
  unfold gE
  refine Ok.bind (Ok.quo om) (fun y1 g1=>?_)
  rw [hq]at g1;subst g1
  refine Ok.bind (c9 _ _ i5 om om) (fun y2 g2=>?_)
  rw [w64 (n:=y1+y2.1) om om]
  refine Ok.nS (fun hle=>?_) (fun hgt=>?_)
  ·refine Ok.bind (Ok.app (by simp only [List.length_cons,List.length_nil];omega)) (fun y3 g3=>?_)
   refine Ok.bind (Ok.app (by simp only [List.length_cons,List.length_nil];omega)) (fun y4 g4=>?_)
   refine Ok.bind (dh _ _ g2.2.2 sm sm) (fun y5 g5=>?_)
   refine Ok.bind (Ok.quo om) (fun y6 g6=>?_)
   rw [hp]at g6;subst g6
   refine Ok.bind (dh _ _ g5.2 sm sm) (fun y7 g7=>?_)
   have a1:0<=y5.1∧y5.1<=35:=by have:=g5.1;simp at this;omega
   have a2:0<=y7.1∧y7.1<=30:=by have:=g7.1;simp at this;omega
   rw [w64 (n:=y5.1+y6) om om,w64 (n:=s3+(y5.1+y6)) om om,w64 (n:=s5+1) om om,w64 (by split<;>omega) (by split<;>omega)]
   subst g3 g4
   refine Ok.nx ⟨⟨za,za⟩,?_,?_,⟨za,za⟩,⟨by simp only;split<;>omega,by simp only;split<;>omega⟩,g7.2,?_,?_⟩ za
   ·simp only [List.length_append,List.length_cons,List.length_nil];omega
   ·simp only [List.length_append,List.length_cons,List.length_nil];omega
   ·intro x hx
    simp only [List.mem_append,List.mem_singleton]at hx
    rcases hx with hx|rfl
    ·exact i6 x hx
    ·omega
   ·intro x hx
    simp only [List.mem_append,List.mem_singleton]at hx
    rcases hx with hx|rfl
    ·exact i7 x hx
    ·omega
  ·exact Ok.st ⟨g2.2.2,⟨za,za⟩,za,i6,i7⟩
 ·intro o ho
  exact Ok.ret ⟨⟨hst,ho.2.1,ho.2.2.1,ho.2.2.2.1,ho.2.2.2.2⟩,ho.1⟩
theorem association_ok(d:Src)(hd:bP d):Ok (cV 3 d) (fun r=>(dN r.1.aG∧TabOk r.1.aS)∧bP r.2):=by
 unfold cV
 refine Ok.bind (box_ok 20 3 om om om om d hd) (fun x1 h1=>?_)
 refine Ok.bind (table_ok _ h1.2) (fun x2 h2=>?_)
 refine Ok.bind (dh _ _ h2.2 sm sm) (fun x3 h3=>?_)
 refine Ok.bind (dh _ _ h3.2 sm sm) (fun x4 h4=>?_)
 refine Ok.bind (dh _ _ h4.2 sm sm) (fun x5 h5=>?_)
 refine Ok.bind (dh _ _ h5.2 sm sm) (fun x6 h6=>?_)
 refine Ok.bind (c9 _ _ h6.2 om om) (fun x7 h7=>?_)
 exact Ok.ret ⟨⟨h1.1,h2.1⟩,h7.2.2⟩
theorem scale_ok(d:Src)(hd:bP d):Ok (hJ d) (fun r=>bP r.2):=by
 unfold hJ
 refine Ok.bind (table_ok _ hd) (fun x1 h1=>?_)
 refine Ok.bind (c9 _ _ h1.2 om om) (fun x2 h2=>?_)
 refine Ok.bind (c9 _ _ h2.2.2 om om) (fun x3 h3=>?_)
 have hl:=h1.1.len;have hs:=h1.1.same
 refine Ok.bind (P:=fun _=>True) (Ok.loop (fun s=>0<=s.1∧s.2.1.length=x1.1.aF.length∧s.2.2.length=x1.1.aF.length) (fun s=>((x1.1.aF.length:Int)-s.1).toNat) ?_ ⟨Int.le_refl _,rfl,hs⟩) (fun o _=>Ok.ret h3.2.2)
 rintro⟨s4,s5,s6⟩ ⟨i0,i1,i2⟩
 simp only at i0 i1 i2
 unfold ja
 refine Ok.nS (fun hlt=>?_) (fun _=>Ok.st trivial)
 refine Ok.bind (Ok.pf om om) (fun _ _=>?_)
 refine Ok.bind (Ok.get om om) (fun y1 g1=>?_)
 refine Ok.bind (Ok.quo om) (fun y2 g2=>?_)
 refine Ok.bind (Ok.pf om om) (fun _ _=>?_)
 refine Ok.bind (Ok.get om om) (fun y3 g3=>?_)
 refine Ok.bind (Ok.quo om) (fun y4 g4=>?_)
 refine Ok.bind (Ok.pf om om) (fun _ _=>?_)
 refine Ok.bind (Ok.set om om) (fun y5 g5=>?_)
 refine Ok.bind (Ok.pf om om) (fun _ _=>?_)
 refine Ok.bind (Ok.set om om) (fun y6 g6=>?_)
 subst g5 g6
 rw [w64 om om]
 exact Ok.nx ⟨za,by simpa using i1,by simpa using i2⟩ za
theorem settings_ok(d:Src)(hd:bP d):Ok (cK 3 d) (fun r=>(dN r.1.aA.aG∧TabOk r.1.aA.aS)∧bP r.2):=by
 unfold cK
 refine Ok.bind (association_ok d hd) (fun x1 h1=>?_)
 refine Ok.bind (scale_ok _ h1.2) (fun x2 h2=>?_)
 refine Ok.bind (dh _ _ h2 sm sm) (fun x3 h3=>?_)
 exact Ok.ret ⟨h1.1,h3.2⟩
def ChanOk(c:au):Prop:=c.bu.length<=3∧∀e∈c.bu,dg 60 e.aW
def InvOk(v:aB):Prop:=v.aP.length<=6∧∀c∈v.aP,ChanOk c
theorem range_ok(a b:Int)(h0: -1000<=a)(h1:a<=1000)(h2:0<=b-a)(h3:b-a<=1000)(d:Src)(hd:bP d):Ok (jL a b d) (fun r=>(a<=r.1∧r.1<=b)∧bP r.2):=by
 unfold jL
 rw [w64 (n:=b-a) om om,w64 (n:=b-a+1) om om]
 refine Ok.bind (c9 _ _ hd om om) (fun y1 g1=>?_)
 rw [w64 (n:=a+y1.1) om om]
 exact Ok.ret ⟨⟨za,za⟩,g1.2.2⟩
theorem point_ok(b:ag)(hb:dN b)(d:Src)(hd:bP d):Ok (lc b d) (fun r=>dg 60 r.1∧bP r.2):=by
 obtain⟨⟨p1,p2,p3⟩,q1,q2,q3⟩:=hb
 unfold lc
 refine Ok.bind (range_ok _ _ om om om om d hd) (fun y1 g1=>?_)
 refine Ok.bind (range_ok _ _ om om om om _ g1.2) (fun y2 g2=>?_)
 refine Ok.bind (range_ok _ _ om om om om _ g2.2) (fun y3 g3=>?_)
 exact Ok.ret ⟨⟨za,za,za⟩,g3.2⟩
theorem kplace_ok(v:aB)(hv:InvOk v)(x:Sid)(t:Int):Ok (lF v x t) (fun r=>dg 60 r.1):=by
 unfold lF
 have h0:dg 60 ⟨0,0,0⟩:=⟨sm,sm,sm⟩
 refine Ok.bind (P:=fun o=>match o with| .inl _=>True| .inr r=>dg 60 r.1) (Ok.upto v.aP.length om (fun _=>True) trivial ?_) ?_
 ·intro i h1 h2 _
  unfold mb
  refine Ok.nS (fun hlt=>?_) (fun _=>Ok.st trivial)
  refine Ok.bind (Ok.get om om) (fun c hc=>?_)
  have hck:=hv.2 c hc.1
  have hlen:=hv.1
  refine Ok.bind (P:=fun o=>match o with| .inl y=>y=i| .inr r=>dg 60 r.1) (Ok.upto c.bu.length om (fun _=>True) trivial ?_) ?_
  ·intro j h3 h4 _
   unfold ma
   have hcl:=hck.1
   refine Ok.nS (fun hlt=>?_) (fun _=>Ok.st rfl)
   refine Ok.bind (Ok.get om om) (fun e he=>?_)
   rw [w64 (n:=j+1) om om]
   refine Ok.u6 (fun _=>?_) (fun _=>Ok.nx ⟨⟨om,om⟩,trivial⟩ om)
   refine Ok.nS (fun _=>?_) (fun _=>Ok.nx ⟨⟨om,om⟩,trivial⟩ om)
   refine Ok.nS (fun _=>?_) (fun _=>Ok.nx ⟨⟨om,om⟩,trivial⟩ om)
   exact Ok.st (hck.2 e he.1)
  ·rintro(y|r) ho
   ·simp only at ho⊢
    subst ho
    rw [w64 (n:=y+1) om om]
    exact Ok.nx ⟨⟨om,om⟩,trivial⟩ om
   ·exact Ok.st ho
 ·rintro(y|r) ho
  ·exact Ok.ret h0
  ·exact Ok.ret ho
def kR(p:Pick):Prop:=IsSid p.aJ∧0<=p.a8∧p.a8<=p.bS∧p.bS<=p.bF∧p.bF<=60000∧0<=p.bj∧p.bj<=1073741823∧ -1<=p.bO∧p.bO<=1
def PI(n:Nat)(s:Int×Int×List Int×Int×List Pick×Int×Int×Int):Prop:=
 (0<=s.2.1∧s.2.1+s.2.2.2.2.1.length<=n)∧(0<=s.1∧s.1<=2000+1000*s.2.2.2.2.1.length)∧bP ⟨s.2.2.1,s.2.2.2.1⟩∧dg 60 ⟨s.2.2.2.2.2.1,s.2.2.2.2.2.2.1,s.2.2.2.2.2.2.2⟩∧∀p∈s.2.2.2.2.1,kR p
theorem k34_ok{n:Nat}(hn:n<=20){Q:List Pick×List Int×Int->Prop}{s:Int×Int×List Int×Int×List Pick×Int×Int×Int}{sid:Sid}(hs:IsSid sid)(am:Int×Src)(ha:0<=am.1∧am.1<=1048576)(po:Int×Src)(hp:0<=po.1∧po.1<3)(t k:Int)(l:List Int)(at_:Int)(out:List Pick)(x y z e:Int)
  (hk:1<=k∧k+out.length<=n) (hks:k=s.2.1) (ht:0<=t∧t<=2000+1000*(out.length+1)) (hd:bP ⟨l,at_⟩) (hpos:dg 60 ⟨x,y,z⟩) (hout:∀p∈out,kR p) (he:0<=e∧e<=30000):
  Ok (eI sid am po t k l at_ out x y z e) (Ok.S (PI n) (fun s=>s.2.1.toNat) Q s):=by
 unfold eI
 refine Ok.bind (c9 _ _ hd om om) (fun y1 g1=>?_)
 refine Ok.bind (c9 _ _ g1.2.2 om om) (fun y2 g2=>?_)
 refine Ok.bind (Ok.app (by simp only [List.length_cons,List.length_nil];omega)) (fun y3 g3=>?_)
 subst g3
 rw [w64 (n:=e+y1.1) om om,w64 (n:=e+y1.1+y2.1) om om,w64 (n:=po.1-1) om om,w64 (n:=k-1) om om]
 refine Ok.nx ⟨⟨za,by simp only [List.length_append,List.length_cons,List.length_nil];omega⟩,⟨ht.1,by simp only [List.length_append,List.length_cons,List.length_nil];omega⟩,g2.2.2,hpos,fun p hpm=>?_⟩ za
 simp only [List.mem_append,List.mem_singleton]at hpm
 rcases hpm with hpm|rfl
 ·exact hout p hpm
 ·exact⟨hs,za,za,za,za,za,za,za,za⟩
theorem l55_ok(pl:aa×Bool)(hpl:dg 60 pl.1)(x y z t k:Int)(out:List Pick)(hx:dg 60 ⟨x,y,z⟩):Ok (nW (kS pl x y z t k out) (0:Int)) (fun o=>o.1=t∧o.2.1=k∧(0<=o.2.2.1∧o.2.2.1<=300)∧o.2.2.2.1=out∧o.2.2.2.2.1=x∧o.2.2.2.2.2.1=y∧o.2.2.2.2.2.2=z):=by
 obtain⟨a1,a2,a3⟩:=hpl
 obtain⟨b1,b2,b3⟩:=hx
 simp only at b1 b2 b3
 have hsq:∀(u v:Int), -60<=u->u<=60-> -60<=v->v<=60->∃q,mE (IntKind.wrap .i64 (u-v))=some q∧0<=q∧q<=14400:=by
  intro u v h1 h2 h3 h4
  have h5: -120<=u-v∧u-v<=120:=by omega
  rw [w64 om om]
  have h6:0<=(u-v)*(u-v)∧(u-v)*(u-v)<=14400:=by
   constructor
   ·rcases Int.le_total 0 (u-v)with h|h
    ·exact Int.mul_nonneg h h
    ·exact Int.mul_nonneg_of_nonpos_of_nonpos h h
   ·rcases Int.le_total 0 (u-v)with h|h
    ·calc (u-v)*(u-v)<=120*120:=Int.mul_le_mul h5.2 h5.2 h om
      _=14400:=by decide
    ·have:(u-v)*(u-v)=(v-u)*(v-u):=by
      rw [<-Int.neg_mul_neg];congr 1<;>omega
     rw [this]
     calc (v-u)*(v-u)<=120*120:=Int.mul_le_mul om om om om
      _=14400:=by decide
  refine⟨_,by unfold mE;rw [w64 om om],h6.1,h6.2⟩
 obtain⟨q1,e1,l1,u1⟩:=hsq pl.1.fX x a1.1 a1.2 b1.1 b1.2
 obtain⟨q2,e2,l2,u2⟩:=hsq pl.1.fY y a2.1 a2.2 b2.1 b2.2
 obtain⟨q3,e3,l3,u3⟩:=hsq pl.1.fZ z a3.1 a3.2 b3.1 b3.2
 refine Ok.loop (fun s=>0<=s∧s<=300) (fun s=>(300-s).toNat) (fun s hs=>?_) ⟨Int.le_refl _,om⟩
 unfold kS
 rw [e1,e2,e3]
 simp only [zc]
 rw [w64 (n:=q1+q2) om om,w64 (n:=q1+q2+q3) om om]
 have hss : 0 ≤ s * s ∧ s * s ≤ 90000 := ⟨Int.mul_nonneg hs.1 hs.1, by
  calc s*s<=300*300:=Int.mul_le_mul hs.2 hs.2 hs.1 om
   _=90000:=by decide⟩
 rw [w64 (n:=s*s) om om]
 refine Ok.nS (fun hlt=>?_) (fun _=>Ok.st ⟨rfl,rfl,hs,rfl,rfl,rfl,rfl⟩)
 have h299:s<=299:=by
  rcases Int.lt_or_le 299 s with h|h
  ·exfalso
   have:s=300:=by omega
   subst this
   omega
  ·exact h
 rw [w64 (n:=s+1) om om]
 exact Ok.nx ⟨om,om⟩ om
theorem picks_ok(a:aw)(ha:dN a.aA.aG∧TabOk a.aA.aS)(v:aB)(hv:InvOk v)(n:Nat)(hn:n<=20)(d:Src)(hd:bP d):
  Ok (mB a v n d) (fun r=>(r.1.length<=n∧∀p∈r.1,kR p)∧bP r.2):=by
 unfold mB
 refine Ok.bind (point_ok _ ha.1 d hd) (fun x1 h1=>?_)
 refine Ok.bind (c9 _ _ h1.2 om om) (fun x2 h2=>?_)
 rw [w64 (n:=(n:Int)+1) om om]
 refine Ok.bind (c9 _ _ h2.2.2 om om) (fun x3 h3=>?_)
 rw [w64 (n:=1000+x2.1) om om]
 refine Ok.bind (P:=fun o=>(o.1.length<=n∧∀p∈o.1,kR p)∧bP ⟨o.2.1,o.2.2⟩) (Ok.loop (PI n) (fun s=>s.2.1.toNat) ?_ ⟨⟨za,by simp only [List.length_nil];omega⟩,⟨za,by simp only [List.length_nil];omega⟩,h3.2.2,h1.1,sm⟩) (fun o ho=>Ok.ret ⟨ho.1,ho.2⟩)
 rintro⟨s4,s5,s6,s7,s8,s9,s10,s11⟩ ⟨i0,i1,i2,i3,i4⟩
 simp only at i0 i1 i2 i3 i4
 unfold mV
 refine Ok.nS (fun hgt=>?_) (fun _=>Ok.st ⟨⟨za,i4⟩,i2⟩)
 refine Ok.bind (c9 _ _ i2 om om) (fun y1 g1=>?_)
 refine Ok.bind (source_ok _) (fun y2 g2=>?_)
 refine Ok.bind (dh _ _ g1.2.2 sm sm) (fun y3 g3=>?_)
 have hy3:0<=y3.1∧y3.1<=1048576:=by have:=g3.1;simp at this;omega
 refine Ok.bind (c9 _ _ g3.2 om om) (fun y4 g4=>?_)
 refine Ok.bind (c9 _ _ g4.2.2 om om) (fun y5 g5=>?_)
 refine Ok.bind (c9 _ _ g5.2.2 om om) (fun y6 g6=>?_)
 rw [w64 (n:=1000+y5.1) om om]
 refine Ok.pT (fun _=>?_) (fun _=>Ok.pT (fun _=>?_) (fun _=>?_))
 ·refine Ok.bind (point_ok _ ha.1 _ g6.2.2) (fun y7 g7=>?_)
  refine Ok.bind (c9 _ _ g7.2 om om) (fun y8 g8=>?_)
  rw [w64 (n:=s4+y8.1) om om]
  exact k34_ok om g2 y3 hy3 y4 ⟨g4.1,g4.2.1⟩ _ _ _ _ _ _ _ _ _ om rfl om g8.2.2 g7.1 i4 om
 ·exact k34_ok om g2 y3 hy3 y4 ⟨g4.1,g4.2.1⟩ _ _ _ _ _ _ _ _ _ om rfl om g6.2.2 i3 i4 om
 ·refine Ok.bind (kplace_ok v hv _ _) (fun y7 g7=>?_)
  refine Ok.u6 (fun _=>?_) (fun _=>?_)
  ·refine Ok.bind (l55_ok y7 g7 _ _ _ _ _ _ i3) (fun o ho=>?_)
   obtain⟨o1,o2,o3,o4,o5,o6,o7⟩:=ho
   have htab:=ha.2
   have hl:=htab.len
   have hst:=htab.step
   refine Ok.bind (Ok.quo om) (fun y8 g8=>?_)
   have hq:0<=o.2.2.1.tdiv a.aA.aS.aQ∧o.2.2.1.tdiv a.aA.aS.aQ<=300:=by
    refine⟨Int.tdiv_nonneg o3.1 om,?_⟩
    have:=Int.tdiv_le_self (b:=a.aA.aS.aQ) o3.1
    omega
   rw [w64 om om]at g8
   subst g8
   rw [w64 (n:=(a.aA.aS.aF.length:Int)-1) om om]
   refine Ok.bind (Ok.get (by split<;>omega) (by split<;>omega)) (fun y9 g9=>?_)
   have hb:=htab.low y9 g9.1
   refine Ok.bind (c9 _ _ g6.2.2 om om) (fun y10 g10=>?_)
   rw [o1,o2,o4,o5,o6,o7,w64 (n:=s4+y9) om om,w64 (n:=s4+y9+y10.1) om om]
   exact k34_ok om g2 y3 hy3 y4 ⟨g4.1,g4.2.1⟩ _ _ _ _ _ _ _ _ _ om rfl om g10.2.2 i3 i4 om
  ·exact k34_ok om g2 y3 hy3 y4 ⟨g4.1,g4.2.1⟩ _ _ _ _ _ _ _ _ _ om rfl om g6.2.2 i3 i4 om
end Go.Dw.Lt
set_option maxRecDepth 100000
set_option maxHeartbeats 4000000
namespace Go.Dw.Lt
open Go.Dw
theorem appO_at{α:Type}{l m:List α}{b:Nat}(h:(l.length+m.length)*b<=140737488355328):px l m b=some (l++m):=by
 unfold px
 rw [if_pos h]
namespace Sd
abbrev Src:=ap
theorem eq_src(a b:Src):((a.aY==b.aY)&&((a.aM==b.aM)&&((a.aK==b.aK)&&((a.bd==b.bd)&&true))))=decide (a=b):=by
 obtain⟨n,t,l,c⟩:=a
 obtain⟨n',t',l',c'⟩:=b
 simp only [ap.mk.injEq]
 by_cases e1:n=n'<;>by_cases e2:t=t'<;>by_cases e3:l=l'<;>by_cases e4:c=c'<;>simp [e1,e2,e3,e4]
theorem cmp_str(a b:List UInt8):bH a b=some (sl a b):=by
 unfold bH eT
 simp only [beq_self_eq_true,Bool.not_true,zc,Bool.false_eq_true,if_false]
 unfold sl
 cases h:Op.bytesLess a b with
 |true=>simp
 |false=>by_cases e:a=b<;>simp [e]
theorem nJ{l:List Int}{i j:Nat}(hj:j=i+1)(hi:i<l.length)(hl:l.length<1000)(h0:l[i]=0):cH l i=some (.next (j:Int)):=by
 subst hj
 unfold cH
 rw [if_pos so,oY rfl hi]
 simp only [zc,h0,w64 (n:=(i:Int)+1) om om]
 rfl
theorem nK{l:List Int}{i:Nat}(hi:i<l.length)(h0:l[i]≠0):cH l i=some (.stop (.inr l[i])):=by
 unfold cH
 rw [if_pos so,oY rfl hi]
 simp only [zc]
 rw [if_pos (by simpa using h0)]
theorem or_end{l:List Int}{n:Nat}(hn:n=l.length):cH l n=some (.stop (.inl ())):=by
 subst hn
 unfold cH
 rw [if_neg sm]
theorem or4(a b c d:Int):cp [a,b,c,d]=some (if a≠0 then a else if b≠0 then b else if c≠0 then c else d):=by
 show((nW (cH [a,b,c,d]) ((0:Nat):Int)).bind _)=_
 by_cases ha:a=0
 ·rw [pC (nJ (i:=0) (j:=1) rfl sm sm (by simpa using ha)),if_neg (by simpa using ha)]
  by_cases hb:b=0
  ·rw [pC (nJ (i:=1) (j:=2) rfl sm sm (by simpa using hb)),if_neg (by simpa using hb)]
   by_cases hc:c=0
   ·rw [pC (nJ (i:=2) (j:=3) rfl sm sm (by simpa using hc)),if_neg (by simpa using hc)]
    by_cases hd:d=0
    ·rw [pC (nJ (i:=3) (j:=4) rfl sm sm (by simpa using hd)),oQ (or_end (n:=4) rfl)]
     rw [hd];rfl
    ·rw [oQ (nK (i:=3) sm (by simpa using hd))];rfl
   ·rw [oQ (nK (i:=2) sm (by simpa using hc)),if_pos hc];rfl
  ·rw [oQ (nK (i:=1) sm (by simpa using hb)),if_pos hb];rfl
 ·rw [oQ (nK (i:=0) sm (by simpa using ha)),if_pos (by simpa using ha)];rfl
def mM(a b:Src):Int:=if sl a.aY b.aY≠0 then sl a.aY b.aY else if sl a.aM b.aM≠0 then sl a.aM b.aM else if sl a.aK b.aK≠0 then sl a.aK b.aK else sl a.bd b.bd
theorem jS(a b:Src):dB a b=some (mM a b):=by
 unfold dB
 simp only [cmp_str,zc,or4]
 rfl
theorem ld:Tot mM:=(uT.map fun x:Src=>x.aY).or ((uT.map fun x:Src=>x.aM).or ((uT.map fun x:Src=>x.aK).or (uT.map fun x:Src=>x.bd)))
theorem jM{a b:Src}(h:mM a b=0):a=b:=by
 unfold mM at h
 obtain⟨n,t,l,c⟩:=a
 obtain⟨n',t',l',c'⟩:=b
 simp only at h
 by_cases h1:sl n n'=0
 ·rw [if_neg (by simpa using h1)]at h
  by_cases h2:sl t t'=0
  ·rw [if_neg (by simpa using h2)]at h
   by_cases h3:sl l l'=0
   ·rw [if_neg (by simpa using h3)]at h
    rw [vD]at h h1 h2 h3
    subst h h1 h2 h3;rfl
   ·rw [if_pos h3]at h;exact(h3 h).elim
  ·rw [if_pos h2]at h;exact(h2 h).elim
 ·rw [if_pos h1]at h;exact(h1 h).elim
instance : DecidableEq Src := fun a b => decidable_of_iff (a.aY = b.aY ∧ a.aM = b.aM ∧ a.aK = b.aK ∧ a.bd = b.bd) (by
 obtain⟨n,t,l,c⟩:=a
 obtain⟨n',t',l',c'⟩:=b
 simp)
theorem eqs(a b:Src):((a.aY==b.aY)&&((a.aM==b.aM)&&((a.aK==b.aK)&&((a.bd==b.bd)&&true))))=decide (a=b):=by
 rw [eq_src]
 exact decide_eq_decide.2 Iff.rfl
theorem kz(a b:Int):bA a b=some (rV a b):=by
 unfold bA dO rV
 simp only [bne_self_eq_false,zc,Bool.false_eq_true,if_false]
 by_cases h1:a<b
 ·rw [if_pos (decide_eq_true h1),if_pos h1]
 ·rw [if_neg (by simpa using h1),if_neg h1]
  by_cases h2:a>b
  ·rw [if_pos (decide_eq_true h2),if_pos h2]
  ·rw [if_neg (by simpa using h2),if_neg h2]
theorem or_go{l:List Int}{n:Nat}{r:List Int}(hl:l.length<1000)(hn:n<=l.length)(hr:l.drop n=r):nW (cH l) (n:Int)=some (match r.find? (fun x=>decide (x≠0))with|some x=>.inr x|none=>.inl ()):=by
 induction r generalizing n with
 |nil=>
  have:n=l.length:=by
   have:=congrArg List.length hr
   simp at this;omega
  rw [oQ (or_end this)];rfl
 |cons a r ih=>
  have hlt:n<l.length:=by
   have:=congrArg List.length hr
   simp at this;omega
  have ha:l[n]=a:=by
   rw [List.drop_eq_getElem_cons hlt]at hr
   exact(List.cons.inj hr).1
  have hr':l.drop (n+1)=r:=by
   rw [List.drop_eq_getElem_cons hlt]at hr
   exact(List.cons.inj hr).2
  by_cases h0:a=0
  ·rw [pC (nJ (i:=n) (j:=n+1) rfl hlt hl (by rw [ha,h0])),ih om hr']
   simp [List.find?,h0]
  ·rw [oQ (nK hlt (by rw [ha];exact h0)),ha]
   simp [List.find?,h0]
theorem or6(a b c d e f:Int):cp [a,b,c,d,e,f]=some (if a≠0 then a else if b≠0 then b else if c≠0 then c else if d≠0 then d else if e≠0 then e else f):=by
 unfold cp
 have:=or_go (l:=[a,b,c,d,e,f]) (n:=0) (r:=[a,b,c,d,e,f]) sm sm rfl
 rw [show((0:Int))=((0:Nat):Int)from rfl,this]
 by_cases ha:a=0<;>by_cases hb:b=0<;>by_cases hc:c=0<;>by_cases hd:d=0<;>by_cases he:e=0<;>by_cases hf:f=0<;>simp [List.find?,ha,hb,hc,hd,he,hf]
end Sd
open Sd (mM ld jM)
def cmpP(a b:Pick):Int:=if mM a.aJ b.aJ≠0 then mM a.aJ b.aJ else if rV a.bS b.bS≠0 then rV a.bS b.bS else if rV a.a8 b.a8≠0 then rV a.a8 b.a8 else if rV a.bF b.bF≠0 then rV a.bF b.bF else if rV a.bj b.bj≠0 then rV a.bj b.bj else rV a.bO b.bO
theorem jS(a b:Pick):bW a b=some (cmpP a b):=by
 unfold bW
 simp only [Sd.jS,Sd.kz,zc,Sd.or6]
 rfl
theorem fS:Tot cmpP:=(ld.map fun x:Pick=>x.aJ).or ((tF.map fun x:Pick=>x.bS).or ((tF.map fun x:Pick=>x.a8).or ((tF.map fun x:Pick=>x.bF).or ((tF.map fun x:Pick=>x.bj).or (tF.map fun x:Pick=>x.bO)))))
theorem l9{a b:Int}(h:(if a≠0 then a else b)=0):a=0∧b=0:=by
 by_cases h1:a=0
 ·rw [if_neg (by simpa using h1)]at h;exact⟨h1,h⟩
 ·rw [if_pos h1]at h;exact(h1 h).elim
theorem cmpP_zero{a b:Pick}(h:cmpP a b=0):a=b:=by
 unfold cmpP at h
 obtain⟨h1,h⟩:=l9 h
 obtain⟨h2,h⟩:=l9 h
 obtain⟨h3,h⟩:=l9 h
 obtain⟨h4,h⟩:=l9 h
 obtain⟨h5,h6⟩:=l9 h
 rw [Ay]at h2 h3 h4 h5 h6
 have:=jM h1
 obtain⟨a1,a2,a3,a4,a5,a6⟩:=a
 obtain⟨b1,b2,b3,b4,b5,b6⟩:=b
 simp only at*
 subst this h2 h3 h4 h5 h6
 rfl
theorem lt3_eq:lt3 bW=fun x y=>decide (cmpP x y<0):=by
 funext x y
 unfold lt3
 rw [jS];rfl
theorem Compare_ok:CmpOk bW:=⟨fun x y=>⟨_,jS x y⟩,by rw [lt3_eq];exact fS.swo⟩
instance : DecidableEq Pick := fun a b => decidable_of_iff (a.aJ = b.aJ ∧ a.bS = b.bS ∧ a.a8 = b.a8 ∧ a.bF = b.bF ∧ a.bj = b.bj ∧ a.bO = b.bO) (by
 obtain⟨a1,a2,a3,a4,a5,a6⟩:=a
 obtain⟨b1,b2,b3,b4,b5,b6⟩:=b
 simp)
def eqF(a b:Pick):Bool:=((a.aJ.aY==b.aJ.aY)&&((a.aJ.aM==b.aJ.aM)&&((a.aJ.aK==b.aJ.aK)&&((a.aJ.bd==b.aJ.bd)&&true))))&&((a.bS==b.bS)&&((a.a8==b.a8)&&((a.bF==b.bF)&&((a.bj==b.bj)&&((a.bO==b.bO)&&true)))))
theorem eqs(a b:Pick):eqF a b=decide (a=b):=by
 obtain⟨a1,a2,a3,a4,a5,a6⟩:=a
 obtain⟨b1,b2,b3,b4,b5,b6⟩:=b
 unfold eqF
 simp only [Sd.eqs,ar.mk.injEq]
 by_cases e1:a1=b1<;>by_cases e2:a2=b2<;>by_cases e3:a3=b3<;>by_cases e4:a4=b4<;>by_cases e5:a5=b5<;>by_cases e6:a6=b6<;>simp [e1,e2,e3,e4,e5,e6]
theorem Compact_eq(l:List Pick):dH l=uU eqF ⟨⟨[],[],[],[]⟩,0,0,0,0,0⟩ l:=by
 have h1:fb=qU eqF:=by funext s d ⟨a,b,c⟩;rfl
 have h2:fc=qm eqF ⟨⟨[],[],[],[]⟩,0,0,0,0,0⟩:=by
  funext d s
  unfold fc qm
  rw [h1]
  rfl
 unfold dH uU
 rw [h2]
 refine ite_congr rfl (fun _=>rfl) fun _=>?_
 refine congrArg _ (funext fun o=>?_)
 rcases o with _|_<;>rfl
theorem sort_at{l:List Pick}(hl:l.length<=1000):∃m,ug bW l=some m∧m.Perm l∧m.Pairwise (fun x y=>cmpP x y<=0):=by
 have h2 := wx Compare_ok (fun x y h h' => by
  rw [lt3_eq]at h h'
  simp only [decide_eq_false_iff_not]at h h'
  have:=fS.rQ x y
  exact cmpP_zero om) l om
 generalize hm:(l.mergeSort fun x y=> !lt3 bW y x)=m at h2
 refine⟨m,h2,zX h2,?_⟩
 rw [<-hm]
 refine(List.pairwise_mergeSort ?_ ?_ l).imp ?_
 ·intro a b c h h'
  rw [lt3_eq]at*
  simp only [Bool.not_eq_true',decide_eq_false_iff_not]at*
  have:=fS.tr a b c (by have:=fS.rQ a b;omega) (by have:=fS.rQ b c;omega)
  have:=fS.rQ a c;omega
 ·intro a b
  rw [lt3_eq]
  have:=fS.rQ a b
  by_cases h:cmpP b a<0
  ·have:¬cmpP a b<0:=by omega
   simp [this]
  ·simp [h]
 ·intro a b h
  rw [lt3_eq]at h
  simp only [Bool.not_eq_true',decide_eq_false_iff_not]at h
  have:=fS.rQ a b;omega
theorem nu{l:List Pick}(hl:l.length<=1000):
  ∃r,ey l=some r∧r.Pairwise (fun x y=>cmpP x y<0)∧(∀x,x∈r↔x∈l)∧r.length<=l.length:=by
 have h1:py 104 l=some l:=by
  unfold py
  rw [if_pos om]
 obtain⟨m,h2,hp,hs⟩:=sort_at hl
 have hml:m.length=l.length:=hp.length_eq
 have h3:dH m=some (cpt m):=by
  rw [Compact_eq]
  exact zz (fun x y=>eqs x y) om
 refine⟨cpt m,?_,sn fS (fun x y=>cmpP_zero) hs,fun x=>wA.trans hp.mem_iff,by have:=wU m;omega⟩
 unfold ey
 rw [h1,zc,h2,zc,h3];rfl
theorem lb:∀{r s:List Pick},r.Pairwise (fun x y=>cmpP x y<0)->s.Pairwise (fun x y=>cmpP x y<0)->(∀x,x∈r↔x∈s)->r=s
 | [],[],_,_,_=>rfl
 | [],b::s,_,_,h=>by have:=(h b).2 sm;cases this
 |a::r,[],_,_,h=>by have:=(h a).1 sm;cases this
 |a::r,b::s,h1,h2,h=>by
  obtain⟨ha,hr⟩:=List.pairwise_cons.1 h1
  obtain⟨hb,hs⟩:=List.pairwise_cons.1 h2
  have hab:a=b:=by
   rcases List.mem_cons.1 ((h a).1 sm)with e|hm
   ·exact e
   ·rcases List.mem_cons.1 ((h b).2 sm)with e|hm'
    ·exact e.symm
    ·have h3:=hb a hm
     have h4:=ha b hm'
     have:=fS.rQ a b
     omega
  subst hab
  have hn:∀{t:List Pick},(∀y∈t,cmpP a y<0)->a∉t:=fun h ht=>by have:=h a ht;have:=fS.refl a;omega
  have:r=s:=lb hr hs fun x=>by
   have:=h x
   simp only [List.mem_cons]at this
   constructor
   ·intro hx
    rcases this.1 (.inr hx)with e|h5
    ·subst e;exact(hn ha hx).elim
    ·exact h5
   ·intro hx
    rcases this.2 (.inr hx)with e|h5
    ·subst e;exact(hn hb hx).elim
    ·exact h5
  rw [this]
end Go.Dw.Lt
set_option maxRecDepth 100000
set_option maxHeartbeats 4000000
namespace Go.Dw.Lt
open Go.Dw Go.Proofs
open Sd (mM ld jM)
theorem sid_len{x:Sid}(h:Sq.my x=true):Sq.SidLen x:=by
 obtain⟨h1,h2,h3,h4⟩:=Sq.valid_len h
 exact⟨om,om,om,om⟩
theorem valid_pick{p:Pick}(h:kR p):dV p=some true:=by
 obtain⟨h0,h1,h2,h3,h4,h5,h6,h7,h8⟩:=h
 unfold dV
 rw [Sq.Valid_eq (sid_len h0),h0,zc,if_pos rfl,if_pos (by simpa using h1),if_pos (by simpa using h2),if_pos (by simpa using h3),if_pos so]
 have e1:gr p.bj 0 1073741823=some true:=by unfold gr;rw [if_pos (by simpa using h5)];simpa using h6
 have e2:gr p.bO (-1) 1=some true:=by unfold gr;rw [if_pos (by simpa using h7)];simpa using h8
 rw [e1,zc,if_pos rfl,e2];rfl
def P(t:Int):Pick:=⟨⟨[65,66],[83,49],[48,48],[66,72,90]⟩,t,t,t,0,0⟩
def S1:Sid:=⟨[65,66],[83,49],[48,48],[66,72,90]⟩
theorem loop_first{α ω:Type}{body:Int->Option (nX Int (Unit⊕ω))}(l:List α){p:α->Bool}{f:Nat->α->ω}
  (h1:∀(i:Nat)(hi:i<l.length),body i=if p l[i]=true then some (.stop (.inr (f i l[i])))else some (.next ((i+1:Nat):Int)))
  (h2:body (l.length:Nat)=some (.stop (.inl ()))):
  (nW body (0:Int)=some (.inl ())∧∀x∈l,p x=false)∨
  ∃(i:Nat)(hi:i<l.length),nW body (0:Int)=some (.inr (f i l[i]))∧p l[i]=true∧∀x∈l.take i,p x=false:=by
 have:∀k i,i+k=l.length->(∀x∈l.take i,p x=false)->(nW body (i:Int)=some (.inl ())∧∀x∈l,p x=false)∨
   ∃(j:Nat)(hj:j<l.length),nW body (i:Int)=some (.inr (f j l[j]))∧p l[j]=true∧∀x∈l.take j,p x=false:=by
  intro k
  induction k with
  |zero=>
   intro i hi ha
   obtain rfl:i=l.length:=by omega
   exact .inl ⟨oQ h2,by simpa using ha⟩
  |succ k ih=>
   intro i hi ha
   have hlt:i<l.length:=by omega
   cases hp:p l[i]with
   |true=>exact .inr ⟨i,hlt,oQ (by rw [h1 i hlt,if_pos hp]),hp,ha⟩
   |false=>
    have e:=pC (ω:=Unit⊕ω) (body:=body) (s:=(i:Int)) (s':=((i+1:Nat):Int)) (by rw [h1 i hlt,if_neg (by simp [hp])])
    rw [e]
    refine ih (i+1) om fun x hx=>?_
    rw [pV hlt]at hx
    rcases List.mem_append.1 hx with hx|hx
    ·exact ha x hx
    ·rw [List.mem_singleton]at hx;rw [hx];exact hp
 have:=this l.length 0 om sm
 simpa using this
theorem loop_find{α ω:Type}{body:Int->Option (nX Int (Unit⊕ω))}(l:List α){p:α->Bool}{f:α->ω}
  (h1:∀(i:Nat)(hi:i<l.length),body i=if p l[i]=true then some (.stop (.inr (f l[i])))else some (.next ((i+1:Nat):Int)))
  (h2:body (l.length:Nat)=some (.stop (.inl ()))):nW body (0:Int)=some (match l.find? p with|none=>.inl ()|some x=>.inr (f x)):=by
 rcases loop_first l (f:=fun _ x=>f x) h1 h2 with⟨e,h⟩|⟨i,hi,e,hp,h⟩
 ·rw [e,List.find?_eq_none.2 fun x hx=>by simp [h x hx]]
 ·rw [e]
  have:l.find? p=some l[i]:=by
   refine List.find?_eq_some_iff_append.2 ⟨hp,l.take i,l.drop (i+1),?_,fun x hx=>by simp [h x hx]⟩
   rw [<-List.drop_eq_getElem_cons hi,List.take_append_drop]
  rw [this]
theorem lm{ω:Type}{body:Int->Option (nX Int (Unit⊕ω))}(n:Nat)(h1:∀i:Nat,i<n->body i=some (.next ((i+1:Nat):Int)))(h2:body (n:Nat)=some (.stop (.inl ()))):nW body (0:Int)=some (.inl ()):=by
 have:∀k i:Nat,i+k=n->nW body (i:Int)=some (.inl ()):=by
  intro k
  induction k with
  |zero=>
   intro i hi
   obtain rfl:i=n:=by omega
   exact oQ h2
  |succ k ih=>intro i hi;rw [pC (h1 i om)];exact ih (i+1) om
 simpa using this n 0 om
theorem terms_ok{l:List Int}(hl:l.length<=1000)(h:∀x∈l, -1048576<=x∧x<=1048576):bT l=some true:=by
 unfold bT bX co
 rw [lm l.length (fun i hi=>?_) ?_]
 ·rfl
 ·unfold cx
  rw [if_neg sm]
 ·unfold cx
  have hx:=h l[i] (List.getElem_mem hi)
  rw [if_pos so,oY rfl hi,zc]
  unfold gA a7
  rw [if_pos (by simpa using hx.1),zc,zc,if_neg (by simpa using hx.2),w64 om om]
  simp
def jG(x:aD):Prop:=b7 x=some true∧(x.eM=2->x.cM=1)∧x.cW.length<=3∧0<=x.c8∧(-1048576<=x.bo.a0∧x.bo.a0<=1048576)∧(-1048576<=x.bf.a0∧x.bf.a0<=1048576)
theorem gain_ok{a b:Int}(ha:1<=a∧a<=1048576)(hb:1<=b∧b<=1048576):jG ⟨0,⟨a,0,0⟩,⟨b,0,0⟩,[],0,0⟩:=by
 refine⟨?_,sm,sm,sm,za,za⟩
 unfold b7 a7
 simp [ha.1,ha.2,hb.1,hb.2]
theorem section_ok{a b c d e f:Int}(ha: -10<=a∧a<=10)(hb: -10<=b∧b<=10)(hc: -10<=c∧c<=10)(hd:1<=d∧d<=10)(he: -10<=e∧e<=10)(hf: -10<=f∧f<=10):jG ⟨1,⟨a,b,c⟩,⟨d,e,f⟩,[],0,0⟩:=by
 refine⟨?_,sm,sm,sm,za,za⟩
 have h1:bT [a,b,c]=some true:=terms_ok sm so
 have h2:bT [d,e,f]=some true:=terms_ok sm so
 have h3:d≠0:=by omega
 unfold b7
 simp [h1,h2,h3]
theorem filter_ok{a s:Int}(ha:1<=a∧a<=3)(hs:0<=s∧s<=3):jG ⟨2,⟨0,0,0⟩,⟨0,0,0⟩,[a,2,1],1,s⟩:=by
 have h1:a=1∨a=2∨a=3:=by omega
 have h2:s=0∨s=1∨s=2∨s=3:=by omega
 refine⟨?_,sm,sm,hs.1,sm,sm⟩
 have ht:bT [a,2,1]=some true:=terms_ok sm so
 have hsum:cP [a,2,1]=some (a+3):=by
  unfold cP
  rcases h1 with rfl|rfl|rfl
  ·rw [p7 (n:=4) (o:=4) (by kernel_rfl)];rfl
  ·rw [p7 (n:=4) (o:=5) (by kernel_rfl)];rfl
  ·rw [p7 (n:=4) (o:=6) (by kernel_rfl)];rfl
 have h3:a+3≠0:=by omega
 have h4:0<=s∧s<=3:=by omega
 unfold b7 a7
 rw [ht,hsum]
 simp [h3,h4.1]
 omega
def lu(r:aL):Prop:=r.bn.length<=3∧∀x∈r.bn,jG x
theorem responseV(d:Src)(hd:bP d):Ok (dJ d) (fun r=>lu r.1∧bP r.2):=by
 unfold dJ
 refine Ok.bind (c9 _ _ hd om om) (fun x1 h1=>?_)
 refine Ok.bind (P:=fun o:List Int×Int×List aD=>bP ⟨o.1,o.2.1⟩∧(o.2.2.length<=3∧∀x∈o.2.2,jG x)) (Ok.loop (fun s=>0<=s.1∧s.1+s.2.2.2.length<=3∧(∀x∈s.2.2.2,jG x)∧bP ⟨s.2.1,s.2.2.1⟩) (fun s=>s.1.toNat) ?_ ⟨za,by simp only [List.length_nil];omega,sm,h1.2.2⟩) (fun o ho=>Ok.ret (Q:=fun r:aL×Src=>lu r.1∧bP r.2) ⟨ho.2,ho.1⟩)
 rintro⟨s2,s3,s4,s5⟩ ⟨i0,i1,i2,i3⟩
 simp only at i0 i1 i2 i3
 unfold gg
 have happ:∀(x:aD),Ok (px s5 [x] 96) (fun r=>r=s5++[x]):=fun x=>Ok.app (by simp only [List.length_cons,List.length_nil];omega)
 have hnext:∀{x:aD},jG x->∀c∈s5++[x],jG c:=fun hx c hc=>by
  simp only [List.mem_append,List.mem_singleton]at hc
  rcases hc with hc|rfl
  ·exact i2 c hc
  ·exact hx
 refine Ok.nS (fun hgt=>?_) (fun _=>Ok.st ⟨i3,za,i2⟩)
 refine Ok.bind (c9 _ _ i3 om om) (fun y1 g1=>?_)
 refine Ok.pT (fun hk=>?_) (fun _=>Ok.pT (fun hk=>?_) (fun _=>?_))
 ·refine Ok.bind (dh _ _ g1.2.2 sm sm) (fun y2 g2=>?_)
  refine Ok.bind (dh _ _ g2.2 sm sm) (fun y3 g3=>?_)
  refine Ok.bind (happ _) (fun y4 g4=>?_)
  subst g4
  have b1:0<=y2.1∧y2.1<=1048575:=by have:=g2.1;simp at this;omega
  have b2:0<=y3.1∧y3.1<=999:=by have:=g3.1;simp at this;omega
  rw [w64 (n:=s2-1) om om,w64 (n:=1+y2.1) om om,w64 (n:=1+y3.1) om om,hk]
  exact Ok.nx ⟨za,by simp only [List.length_append,List.length_cons,List.length_nil];omega,hnext (gain_ok om om),g3.2⟩ za
 ·refine Ok.bind (c9 _ _ g1.2.2 om om) (fun y2 g2=>?_)
  refine Ok.bind (c9 _ _ g2.2.2 om om) (fun y3 g3=>?_)
  refine Ok.bind (c9 _ _ g3.2.2 om om) (fun y4 g4=>?_)
  refine Ok.bind (c9 _ _ g4.2.2 om om) (fun y5 g5=>?_)
  refine Ok.bind (c9 _ _ g5.2.2 om om) (fun y6 g6=>?_)
  refine Ok.bind (c9 _ _ g6.2.2 om om) (fun y7 g7=>?_)
  refine Ok.bind (happ _) (fun y8 g8=>?_)
  subst g8
  rw [w64 (n:=s2-1) om om,w64 (n:=y3.1-3) om om,w64 (n:=y4.1-1) om om,w64 (n:=1+y5.1) om om,hk]
  exact Ok.nx ⟨za,by simp only [List.length_append,List.length_cons,List.length_nil];omega,hnext (section_ok om om om om om om),g7.2.2⟩ za
 ·refine Ok.bind (c9 _ _ g1.2.2 om om) (fun y2 g2=>?_)
  refine Ok.bind (c9 _ _ g2.2.2 om om) (fun y3 g3=>?_)
  refine Ok.bind (happ _) (fun y8 g8=>?_)
  subst g8
  rw [w64 (n:=s2-1) om om,w64 (n:=1+y2.1) om om,show y1.1=2 by omega]
  exact Ok.nx ⟨za,by simp only [List.length_append,List.length_cons,List.length_nil];omega,hnext (filter_ok om om),g3.2.2⟩ za
theorem resp_valid{r:aL}(h:lu r):d7 r=some true:=by
 obtain⟨hl,hs⟩:=h
 unfold d7
 rw [if_neg so]
 have e1:bM r.bn=some false:=by
  unfold bM b9
  rw [lm r.bn.length (fun i hi=>?_) ?_]
  ·rfl
  ·unfold bU
   rw [if_neg sm]
  ·unfold bU dG
   rw [if_pos so,oY rfl hi,zc,(hs _ (List.getElem_mem hi)).1,zc,zc,if_neg sm,w64 om om]
   simp
 have e2:ek r.bn=some 1:=by
  unfold ek
  have:Ok (nW (fA r.bn) ((1:Int),(0:Int))) (fun o=>o= .inl 1):=by
   refine Ok.loop (fun s=>s.1=1∧0<=s.2∧s.2<=r.bn.length) (fun s=>((r.bn.length:Int)-s.2).toNat) ?_ ⟨rfl,Int.le_refl _,sm⟩
   rintro⟨s1,s2⟩ ⟨i0,i1,i2⟩
   simp only at i0 i1 i2
   subst i0
   unfold fA
   dsimp only
   refine Ok.nS (fun hlt=>?_) (fun _=>Ok.st rfl)
   refine Ok.bind (Ok.get om om) (fun x hx=>?_)
   rw [w64 (n:=s2+1) om om]
   refine Ok.oT (fun _=>Ok.nx ⟨rfl,za,za⟩ za) (fun hk=>?_)
   rw [(hs x hx.1).2.1 hk]
   refine Ok.nS (fun hc=>absurd hc (by decide)) (fun _=>?_)
   rw [w64 (n:=1*1) om om]
   exact Ok.nx ⟨rfl,za,za⟩ za
  rw [this.eq];rfl
 rw [e1,zc,if_neg sm,e2];rfl
def RateOk(r:aX):Prop:=r.bf=1∧(r.bo=100∨r.bo=50∨r.bo=51)
theorem rate_valid{r:aX}(h:RateOk r):iQ r=some true:=by
 obtain⟨n,d⟩:=r
 obtain⟨h1,h2⟩:=h
 simp only at h1 h2
 subst h1
 unfold iQ ml mI
 rcases h2 with rfl|rfl|rfl
 ·rw [p7 (n:=4) (o:=(1:Int)) (by kernel_rfl)];rfl
 ·rw [p7 (n:=4) (o:=(1:Int)) (by kernel_rfl)];rfl
 ·rw [p7 (n:=4) (o:=(1:Int)) (by kernel_rfl)];rfl
structure EpOk(e:aj):Prop where
 lo:0<=e.aT
 lt:e.aT<e.fTo
 hi:e.fTo<=10000000
 from_:e.aT<=100000
 rate:RateOk e.fd
 resp:lu e.br
 pos:dg 60 e.aW
theorem ep_valid{e:aj}(h:EpOk e):cB e=some true:=by
 obtain⟨h1,h2,h3, -,h4,h5,⟨p1,p2⟩,⟨p3,p4⟩,p5,p6⟩:=h
 have hin:∀{x a b:Int},a<=x->x<=b->cv x a b=some true:=fun h h'=>by
  unfold cv;rw [if_pos (by simpa using h)];simpa using h'
 unfold cB
 rw [if_pos (by simpa using h1), if_pos (by simpa using h2), if_pos so, rate_valid h4, zc, if_pos rfl, resp_valid h5, zc, if_pos rfl,
  hin om om,zc,if_pos rfl,hin om om,zc,if_pos rfl,hin om om]
 rfl
structure EpsOk(l:List aj):Prop where
 ne:l≠ []
 len:l.length<=3
 all:∀e∈l,EpOk e
 ord:(l.map fun e=>(e.aT,e.fTo)).Pairwise (fun a b=>a.2<=b.1)
 last:∀e,l.getLast?=some e->e.fTo=100000
theorem epochs_valid{l:List aj}(h:EpsOk l):dU l=some true:=by
 have hlen:=h.len
 have hne:=List.length_pos_iff.2 h.ne
 unfold dU
 rw [lm l.length (fun i hi=>?_) ?_,zc]
 ·dsimp only
  unfold cv
  rw [if_pos so,zc]
  simp;omega
 ·unfold dm
  rw [if_neg sm]
 ·unfold dm
  rw [if_pos so,oY rfl hi,zc,ep_valid (h.all _ (List.getElem_mem hi)),zc,if_neg sm,w64 (n:=(i:Int)+1) om om]
  by_cases h0:i=0
  ·subst h0;rfl
  ·rw [if_pos so,w64 om om,oY (i:=i-1) om om,zc]
   have:=List.pairwise_iff_getElem.1 h.ord (i-1) i so (by simpa using hi) om
   simp only [List.getElem_map]at this
   rw [if_neg (by simpa using this)]
   simp
def ChOk(c:au):Prop:=IsSid c.aJ∧EpsOk c.bu
structure InvV(v:aB):Prop where
 len:v.aP.length<=6
 all:∀c∈v.aP,ChOk c
 ord:(v.aP.map (·.aJ)).Pairwise (fun a b=>mM a b<0)
 net:∀c∈v.aP,c.aJ.aY=[65,66]
theorem InvV.inv{v:aB}(h:InvV v):InvOk v:=⟨h.len,fun c hc=>⟨(h.all c hc).2.len,fun e he=>((h.all c hc).2.all e he).pos⟩⟩
theorem inv_valid{v:aB}(h:InvV v):c6 v=some true:=by
 have hlen:=h.len
 unfold c6
 rw [lm v.aP.length (fun i hi=>?_) ?_,zc]
 ·simp;omega
 ·unfold dF
  rw [if_neg sm]
 ·unfold dF
  obtain⟨c1,c2⟩:=h.all _ (List.getElem_mem hi)
  rw [if_pos so,oY rfl hi,zc,Sq.Valid_eq (sid_len c1),c1,zc,if_neg sm,epochs_valid c2,zc,if_neg sm,w64 (n:=(i:Int)+1) om om]
  by_cases h0:i=0
  ·subst h0;rfl
  ·rw [if_pos so,w64 om om,oY (i:=i-1) om om,zc,Sd.jS,zc]
   have:=List.pairwise_iff_getElem.1 h.ord (i-1) i so (by simpa using hi) om
   simp only [List.getElem_map]at this
   rw [if_neg (by simpa using this)]
   simp
def sid(i:Nat):Sid:=⟨[65,66],stas.getD i [],[48,48],[66,72,90]⟩
theorem source_at{n:Int}{i:Nat}(hn:n=i)(hi:i<6):c7 n=some (sid i):=by
 subst hn
 have:i=0∨i=1∨i=2∨i=3∨i=4∨i=5:=by omega
 rcases this with rfl|rfl|rfl|rfl|rfl|rfl<;>(show c7 _=some _;kernel_rfl)
theorem sid_ok{i:Nat}(hi:i<6):IsSid (sid i):=by
 have:i=0∨i=1∨i=2∨i=3∨i=4∨i=5:=by omega
 rcases this with rfl|rfl|rfl|rfl|rfl|rfl<;>(show Sq.my _=true;decide+kernel)
theorem sid_lt{i j:Nat}(h:i<j)(hj:j<6):mM (sid i) (sid j)<0:=by
 have h1:i=0∨i=1∨i=2∨i=3∨i=4:=by omega
 have h2:j=1∨j=2∨j=3∨j=4∨j=5:=by omega
 rcases h1 with rfl|rfl|rfl|rfl|rfl<;>rcases h2 with rfl|rfl|rfl|rfl|rfl<;>first|omega|decide+kernel
theorem eps1{e:aj}(h:EpOk e)(ht:e.fTo=100000):EpsOk [e]:=⟨sm,sm,by simpa using h,sm,by simpa using ht⟩
theorem eps2{e f:aj}(h:EpOk e)(h':EpOk f)(ho:e.fTo<=f.aT)(ht:f.fTo=100000):EpsOk [e,f]:=⟨sm,sm,by simp;exact⟨h,h'⟩,by simpa using ho,by simpa using ht⟩
def SitesI(s:Int×List Int×Int×List au):Prop:=∃i:Nat,s.1=i∧i<=6∧s.2.2.2.map (·.aJ)=(List.range i).map sid∧(∀c∈s.2.2.2,EpsOk c.bu∧c.bu.length<=2)∧bP ⟨s.2.1,s.2.2.1⟩
theorem sitesV{n:Int}(d:Src)(hd:bP d):Ok (eP n d) (fun r=>(InvV r.1∧∀c∈r.1.aP,c.bu.length<=2)∧bP r.2):=by
 unfold eP
 refine Ok.bind (P:=fun o=>bP ⟨o.1,o.2.1⟩∧InvV ⟨o.2.2⟩∧∀c∈o.2.2,c.bu.length<=2) (Ok.loop SitesI (fun s=>(6-s.1).toNat) ?_ ⟨0,rfl,om,rfl,sm,hd⟩) (fun o ho=>Ok.ret ⟨ho.2,ho.1⟩)
 rintro⟨s1,s2,s3,s4⟩ ⟨i,i0,i1,i2,i3,i4⟩
 simp only at i0 i1 i2 i3 i4
 subst i0
 have hlen:s4.length=i:=by have:=congrArg List.length i2;simpa using this
 unfold gD
 have happ:∀(x:au),Ok (px s4 [x] 88) (fun r=>r=s4++[x]):=fun x=>Ok.app (by simp only [List.length_cons,List.length_nil];omega)
 have hend:InvV ⟨s4⟩:=by
  refine⟨za,fun c hc=>⟨?_,(i3 c hc).1⟩,?_,fun c hc=>?_⟩
  ·have:c.aJ∈s4.map (·.aJ):=List.mem_map.2 ⟨c,hc,rfl⟩
   rw [i2]at this
   obtain⟨j,hj,e⟩:=List.mem_map.1 this
   rw [<-e]
   exact sid_ok (by have:=List.mem_range.1 hj;omega)
  ·simp only
   rw [i2,List.pairwise_map]
   exact List.pairwise_lt_range.imp_of_mem fun ha hb hab=>sid_lt hab (by have:=List.mem_range.1 hb;omega)
  ·have:c.aJ∈s4.map (·.aJ):=List.mem_map.2 ⟨c,hc,rfl⟩
   rw [i2]at this
   obtain⟨j,hj,e⟩:=List.mem_map.1 this
   rw [<-e];rfl
 have hnext:∀{l:List aj}{t:Src},i<6->EpsOk l∧l.length<=2->bP t->Ok (some (.next ((i:Int)+1,t.fL,t.fAt,s4++[⟨sid i,l⟩]))) (Ok.S SitesI (fun s=>(6-s.1).toNat) (fun o:List Int×Int×List au=>bP ⟨o.1,o.2.1⟩∧InvV ⟨o.2.2⟩∧∀c∈o.2.2,c.bu.length<=2) ((i:Int),s2,s3,s4)):=fun{l t}hi hl ht=>by
  refine Ok.nx ⟨i+1,sm,om,?_,fun c hc=>?_,ht⟩ za
  ·simp [List.range_succ,i2]
  ·simp only [List.mem_append,List.mem_singleton]at hc
   rcases hc with hc|rfl
   ·exact i3 c hc
   ·exact hl
 refine Ok.nS (fun hlt=>?_) (fun _=>Ok.st ⟨i4,hend,fun c hc=>(i3 c hc).2⟩)
 refine Ok.nS (fun _=>?_) (fun _=>Ok.st ⟨i4,hend,fun c hc=>(i3 c hc).2⟩)
 have hi:i<6:=by omega
 refine Ok.bind (lr 60 om om _ i4) (fun y1 g1=>?_)
 refine Ok.bind (responseV _ g1.2) (fun y2 g2=>?_)
 rw [source_at rfl hi,zc]
 refine Ok.bind (c9 _ _ g2.2 om om) (fun y4 g4=>?_)
 rw [w64 (n:=(i:Int)+1) om om]
 have hr:RateOk ⟨100,1⟩:=⟨rfl,.inl rfl⟩
 refine Ok.pT (fun _=>?_) (fun _=>Ok.pT (fun _=>?_) (fun _=>?_))
 ·refine Ok.bind (c9 _ _ g4.2.2 om om) (fun y5 g5=>?_)
  refine Ok.bind (lr 60 om om _ g5.2.2) (fun y6 g6=>?_)
  refine Ok.bind (responseV _ g6.2) (fun y7 g7=>?_)
  refine Ok.bind (Ok.pf om sm) (fun _ _=>?_)
  refine Ok.bind (Ok.mod om sm) (fun y8 g8=>?_)
  obtain⟨x,hx,rfl⟩:=g8
  simp at hx
  subst hx
  refine Ok.bind (Ok.app sm) (fun y9 g9=>?_)
  subst g9
  refine Ok.bind (happ _) (fun y10 g10=>?_)
  subst g10
  rw [w64 (n:=1500+y5.1) om om]
  exact hnext hi ⟨eps2 ⟨sm,za,za,sm,hr,g2.1,g1.1⟩ ⟨za,za,sm,za,hr,g7.1,g6.1⟩ sm sm,sm⟩ g7.2
 ·refine Ok.bind (c9 _ _ g4.2.2 om om) (fun y5 g5=>?_)
  refine Ok.bind (Ok.pf om sm) (fun _ _=>?_)
  refine Ok.bind (Ok.mod om sm) (fun y8 g8=>?_)
  obtain⟨x,hx,rfl⟩:=g8
  simp at hx
  subst hx
  refine Ok.bind (happ _) (fun y10 g10=>?_)
  subst g10
  exact hnext hi ⟨eps1 ⟨g5.1,za,sm,za,hr,g2.1,g1.1⟩ sm,sm⟩ g5.2.2
 ·refine Ok.bind (happ _) (fun y10 g10=>?_)
  subst g10
  exact hnext hi ⟨eps1 ⟨sm,sm,sm,sm,hr,g2.1,g1.1⟩ sm,sm⟩ g4.2.2
end Go.Dw.Lt
set_option maxRecDepth 100000
set_option maxHeartbeats 4000000
namespace Go.Dw.Lt
open Go.Dw Go.Proofs
open Sd (mM ld jM)
theorem clone_at{α:Type}{n:Nat}{l:List α}(h:l.length*n<=140737488355328):py n l=some l:=by
 unfold py;rw [if_pos h]
def RespLen(r:aL):Prop:=r.bn.length<=1000∧∀x∈r.bn,x.cW.length<=1000
theorem copyEpoch_at{e:aj}(h:RespLen e.br):cU e=some e:=by
 obtain⟨h1,h2⟩:=h
 unfold cU
 rw [clone_at om,zc]
 have:Ok (nW (dD e.br.bn) ((0:Int),e.br.bn)) (fun o=>o=e.br.bn):=by
  refine Ok.loop (fun s=>0<=s.1∧s.1<=e.br.bn.length∧s.2=e.br.bn) (fun s=>((e.br.bn.length:Int)-s.1).toNat) ?_ ⟨Int.le_refl _,sm,rfl⟩
  rintro⟨s2,s3⟩ ⟨i0,i1,i2⟩
  simp only at i0 i1 i2
  subst i2
  unfold dD
  dsimp only
  refine Ok.nS (fun hlt=>?_) (fun _=>Ok.st rfl)
  refine Ok.bind (Ok.pf om om) (fun _ _=>?_)
  refine Ok.bind (Ok.get om om) (fun x hx=>?_)
  have:=h2 x hx.1
  rw [clone_at om,zc]
  refine Ok.bind (Ok.pf om om) (fun _ _=>?_)
  refine Ok.bind (Ok.mod om om) (fun y hy=>?_)
  obtain⟨z,hz,rfl⟩:=hy
  obtain rfl:x=z:=by rw [hx.2]at hz;exact Option.some.inj hz
  rw [w64 om om]
  refine Ok.nx ⟨za,za,?_⟩ za
  obtain⟨hk,e⟩:=List.getElem?_eq_some_iff.1 hx.2
  simp only
  conv=>lhs;rw [<-e]
  exact List.set_getElem_self hk
 rw [this.eq];rfl
def ChLen(c:au):Prop:=c.bu.length<=1000∧∀e∈c.bu,RespLen e.br
theorem copied_at{c:au}(h:ChLen c):dT c=some c:=by
 obtain⟨h1,h2⟩:=h
 unfold dT
 rw [clone_at om,zc]
 have:Ok (nW (dl c.bu) ((0:Int),c.bu)) (fun o=>o=c.bu):=by
  refine Ok.loop (fun s=>0<=s.1∧s.1<=c.bu.length∧s.2=c.bu) (fun s=>((c.bu.length:Int)-s.1).toNat) ?_ ⟨Int.le_refl _,sm,rfl⟩
  rintro⟨s2,s3⟩ ⟨i0,i1,i2⟩
  simp only at i0 i1 i2
  subst i2
  unfold dl
  dsimp only
  refine Ok.nS (fun hlt=>?_) (fun _=>Ok.st rfl)
  refine Ok.bind (Ok.pf om om) (fun _ _=>?_)
  refine Ok.bind (Ok.get om om) (fun x hx=>?_)
  rw [copyEpoch_at (h2 x hx.1),zc]
  refine Ok.bind (Ok.pf om om) (fun _ _=>?_)
  refine Ok.bind (Ok.set om om) (fun y hy=>?_)
  subst hy
  rw [w64 om om]
  refine Ok.nx ⟨za,za,?_⟩ za
  obtain⟨hk,e⟩:=List.getElem?_eq_some_iff.1 hx.2
  simp only
  conv=>lhs;rw [<-e]
  exact List.set_getElem_self hk
 rw [this.eq];rfl
structure InvLen(v:aB):Prop where
 len:v.aP.length<=1000
 all:∀c∈v.aP,ChLen c
theorem InvV.lens{v:aB}(h:InvV v):InvLen v:=by
 refine⟨by have:=h.len;omega,fun c hc=>?_⟩
 have hE:=(h.all c hc).2
 refine⟨by have:=hE.len;omega,fun e he=>?_⟩
 have hR:=(hE.all e he).resp
 exact⟨by have:=hR.1;omega,fun x hx=>by have:=(hR.2 x hx).2.2.1;omega⟩
def zCh:au:=⟨⟨[],[],[],[]⟩,[]⟩
def zEp:aj:=⟨0,0,⟨0,0⟩,⟨0,0,0⟩,⟨[]⟩⟩
def chan(v:aB)(s:Sid):Option au:=v.aP.find? fun c=>decide (c.aJ=s)
def epIn(l:List aj)(t:Int):Option aj:=l.find? fun e=>decide (e.aT<=t∧t<e.fTo)
def epAt(v:aB)(s:Sid)(t:Int):Option aj:=(chan v s).bind fun c=>epIn c.bu t
theorem Find_eq{v:aB}(hv:InvLen v)(s:Sid):eV v s=some (match chan v s with|none=>(zCh,false)|some c=>(c,true)):=by
 have hl:=hv.len
 unfold eV
 rw [loop_find v.aP (p:=fun c=>decide (c.aJ=s)) (f:=fun c=>(c,true)) (fun i hi=>?_) ?_,zc]
 ·unfold chan
  cases v.aP.find? fun c=>decide (c.aJ=s)<;>rfl
 ·unfold eu
  rw [if_neg sm]
 ·unfold eu
  rw [if_pos so,oY rfl hi,zc,Sd.eqs,copied_at (hv.all _ (List.getElem_mem hi)),zc,w64 om om]
  simp
theorem at_eq{c:au}(hc:c.bu.length<=1000)(t:Int):gn c t=some (match epIn c.bu t with|none=>(zEp,false)|some e=>(e,true)):=by
 unfold gn
 rw [loop_find c.bu (p:=fun e=>decide (e.aT<=t∧t<e.fTo)) (f:=fun e=>(e,true)) (fun i hi=>?_) ?_,zc]
 ·unfold epIn
  cases c.bu.find? fun e=>decide (e.aT<=t∧t<e.fTo)<;>rfl
 ·unfold gO
  rw [if_neg sm]
 ·unfold gO
  rw [if_pos so,oY rfl hi,zc,w64 om om]
  by_cases h1:c.bu[i].aT<=t<;>by_cases h2:t<c.bu[i].fTo<;>simp [h1,h2]
theorem chan_mem{v:aB}{s:Sid}{c:au}(h:chan v s=some c):c∈v.aP∧c.aJ=s:=by
 unfold chan at h
 exact⟨List.mem_of_find?_eq_some h,by simpa using List.find?_some h⟩
theorem epIn_mem{l:List aj}{t:Int}{e:aj}(h:epIn l t=some e):e∈l∧e.aT<=t∧t<e.fTo:=by
 unfold epIn at h
 have:=List.find?_some h
 simp only [decide_eq_true_eq]at this
 exact⟨List.mem_of_find?_eq_some h,this⟩
theorem At_eq{v:aB}(hv:InvLen v)(hV:c6 v=some true)(s:Sid)(t:Int):gm v s t=some (match epAt v s t with|none=>(zEp,6)|some e=>(e,0)):=by
 unfold gm
 rw [hV,zc,if_neg sm,Find_eq hv,zc]
 unfold epAt
 cases hc:chan v s with
 |none=>
  dsimp only
  rw [at_eq (by simp [zCh])]
  rfl
 |some c=>
  dsimp only
  rw [at_eq (hv.all c (chan_mem hc).1).1,zc,zc]
  cases epIn c.bu t<;>rfl
end Go.Dw.Lt
set_option maxRecDepth 100000
set_option maxHeartbeats 4000000
namespace Go.Dw.Lt
open Go.Dw Go.Proofs
def bitsL:List Int:=[1,2,4,8,16,32,64,128]
theorem or_at:∀b∈bitsL,∀m:Nat,m<128->2*b*m+2*b<=256->orI .i64 (2*b*m) b=2*b*m+b:=by decide+kernel
theorem half_bit:∀b∈bitsL,(b=1∧oj .i64 b 1=0)∨(oj .i64 b 1∈bitsL∧2*oj .i64 b 1=b):=by decide+kernel
theorem bit_pos:∀b∈bitsL,1<=b∧b<=128:=by decide
theorem sq_lt{x n:Int}(hx:0<x)(hn:0<=n):x<=n.tdiv x↔x*x<=n:=by
 rw [Int.tdiv_eq_ediv_of_nonneg hn,Int.le_ediv_iff_mul_le hx]
def FI(n:Int)(s:Int×Int):Prop:=
 (s.2=0∧(0<=s.1∧s.1<=255)∧s.1*s.1<=n∧n<(s.1+1)*(s.1+1))∨
 (s.2∈bitsL∧∃m:Nat,s.1=2*s.2*m∧m<128∧s.1+2*s.2<=256∧s.1*s.1<=n∧n<(s.1+2*s.2)*(s.1+2*s.2))
theorem floor_loop(n:Int)(h0:0<n)(h1:n<=65535)(s:Int×Int)(hs:FI n s):Ok (nW (fj n) s) (fun r=>(0<=r∧r<=255)∧r*r<=n∧n<(r+1)*(r+1)):=by
 refine Ok.loop (FI n) (fun s=>s.2.toNat) ?_ hs
 rintro⟨r,b⟩ h
 unfold fj
 dsimp only
 rcases h with⟨e,h2,h3,h4⟩|⟨hb,m,hr,hm,h2,h3,h4⟩
 ·simp only at e h2 h3 h4
  subst e
  rw [if_neg sm]
  exact Ok.st ⟨h2,h3,h4⟩
 ·simp only at hb hr h2 h3 h4
  have hbp:=bit_pos b hb
  have hbm:0<=2*b*m:=Int.mul_nonneg om om
  have hor:orI .i64 r b=r+b:=by rw [hr];exact or_at b hb m hm om
  have hm2:2*b*m<=256-2*b:=by omega
  have hmb:b*m<=127:=by
   rw [Int.mul_assoc]at hm2;omega
  rw [if_pos so,hor]
  refine Ok.bind (Ok.quo om) (fun q hq=>?_)
  have hq0:0<=n.tdiv (r+b):=Int.tdiv_nonneg om om
  have hq1:n.tdiv (r+b)<=n:=Int.tdiv_le_self _ om
  rw [w64 om om]at hq
  subst hq
  have hfin:∀(x:Int)(k:Nat),(x=2*b*m∧k=2*m)∨(x=2*b*m+b∧k=2*m+1)->x*x<=n->n<(x+b)*(x+b)->Ok (some (nX.next (x,oj .i64 b 1))) (Ok.S (FI n) (fun s=>s.2.toNat) (fun r:Int=>(0<=r∧r<=255)∧r*r<=n∧n<(r+1)*(r+1)) (r,b)):=fun x k hx g1 g2=>by
   rcases half_bit b hb with⟨e1,e2⟩|⟨e1,e2⟩
   ·rw [e2]
    subst e1
    refine Ok.nx (.inl ⟨rfl,⟨za,za⟩,g1,g2⟩) za
   ·have hbp':=bit_pos _ e1
    generalize oj .i64 b 1=b' at*
    subst e2
    refine Ok.nx (.inr ⟨e1,k,?_,?_,za,g1,g2⟩) za
    ·simp only
     rcases hx with⟨rfl,rfl⟩|⟨rfl,rfl⟩
     ·rw [Int.natCast_mul]
      simp only [Int.mul_assoc,Int.mul_left_comm]
      rfl
     ·rw [Int.natCast_add,Int.natCast_mul,Int.mul_add]
      have:2*b'*((2:Nat)*(m:Int))=2*(2*b')*m:=by
       simp only [Int.mul_assoc,Int.mul_left_comm];rfl
      rw [this];simp
    ·have:2*b'*m<=127:=hmb
     have h5:(m:Int)<=b'*m:=by
      have:=Int.mul_le_mul_of_nonneg_right (show(1:Int)<=b' by omega) (show(0:Int)<=(m:Int)by omega)
      omega
     rw [Int.mul_assoc]at this
     omega
  refine Ok.nS (fun hle=>?_) (fun hgt=>?_)
  ·rw [sq_lt om om]at hle
   exact hfin _ (2*m+1) (.inr ⟨by rw [hr],rfl⟩) hle (by rw [show r+b+b=r+2*b by omega];exact h4)
  ·rw [sq_lt om om]at hgt
   exact hfin _ (2*m) (.inl ⟨hr,rfl⟩) h3 (Int.not_le.1 hgt)
theorem len_lo:(List.range 256).all (fun n=>decide (n=0)||match fR (n:Int)with|some L=>decide (1<=L∧L<=16)&&decide ((n:Int)<2 ^ L.toNat)|none=>false)=true:=by kernel_rfl
theorem len_hi:(List.range 256).all (fun n=>decide (n=0)||match fR ((n*256:Nat):Int)with|some L=>decide (1<=L∧L<=16)&&decide (((n*256+255:Nat):Int)<2 ^ L.toNat)|none=>false)=true:=by kernel_rfl
theorem shr8{n:Int}(h0:0<=n):oj .u64 n 8=n / 256:=by
 show n.fdiv (2 ^ (min (8:Int).toNat 64))=n / 256
 rw [Int.fdiv_eq_ediv_of_nonneg _ (by decide)]
 rfl
theorem len_same{n:Int}(h0:256<=n)(h1:n<=65535):eQ n=eQ (n / 256*256):=by
 unfold eQ jT eR fH
 rw [if_neg so,if_neg so,if_pos so,if_neg so,if_neg so,if_pos so,shr8 om,shr8 om]
 rw [show n / 256*256 / 256=n / 256 by omega]
theorem len_ok{n:Int}(h0:1<=n)(h1:n<=65535):Ok (eQ n) (fun L=>(1<=L∧L<=16)∧n<2 ^ L.toNat):=by
 obtain⟨n,rfl⟩:∃k:Nat,n=k:=⟨n.toNat,om⟩
 by_cases h:n<256
 ·have:=List.all_eq_true.1 len_lo n (List.mem_range.2 h)
  simp only [Bool.or_eq_true,decide_eq_true_eq]at this
  rcases this with h|h
  ·omega
  ·cases e:fR (n:Int)with
   |none=>rw [e]at h;cases h
   |some L=>
    rw [e]at h
    simp only [Bool.and_eq_true,decide_eq_true_eq]at h
    exact⟨L,bits_Len_le _ _ e,h.1,h.2⟩
 ·have hm:n / 256<256:=by omega
  have:=List.all_eq_true.1 len_hi (n / 256) (List.mem_range.2 hm)
  simp only [Bool.or_eq_true,decide_eq_true_eq]at this
  rcases this with h'|h'
  ·omega
  ·cases e:fR ((n / 256*256:Nat):Int)with
   |none=>rw [e]at h';cases h'
   |some L=>
    rw [e]at h'
    simp only [Bool.and_eq_true,decide_eq_true_eq]at h'
    refine⟨L,?_,h'.1,?_⟩
    ·rw [len_same om h1]
     have:((n:Int) / 256*256)=((n / 256*256:Nat):Int):=by omega
     rw [this]
     exact bits_Len_le _ _ e
    ·have:=h'.2
     have h5:(n:Int)<=((n / 256*256+255:Nat):Int):=by omega
     exact Int.lt_of_le_of_lt h5 this
theorem start_at:∀L:Nat,L<17->1<=L->∃q b,pr .i64 (IntKind.wrap .i64 ((L:Int)-1)) 2=some q∧vq .i64 1 q=some b∧b∈bitsL∧(2:Int) ^ L<=(0+2*b)*(0+2*b):=by
 intro L h1 h2
 have:L=1∨L=2∨L=3∨L=4∨L=5∨L=6∨L=7∨L=8∨L=9∨L=10∨L=11∨L=12∨L=13∨L=14∨L=15∨L=16:=by omega
 have hs:∀(q b:Int),0<=q->shlI .i64 1 q=b->vq .i64 1 q=some b:=fun q b h e=>by unfold vq;rw [if_neg om,e]
 have hq:∀(x q:Int),IntKind.wrap .i64 ((IntKind.wrap .i64 x).tdiv 2)=q->pr .i64 (IntKind.wrap .i64 x) 2=some q:=fun x q e=>by unfold pr;rw [if_neg om,e]
 rcases this with rfl|rfl|rfl|rfl|rfl|rfl|rfl|rfl|rfl|rfl|rfl|rfl|rfl|rfl|rfl|rfl
 ·exact⟨0,1,hq _ _ (by decide),hs _ _ (by decide) (by decide),by decide,by decide⟩
 ·exact⟨0,1,hq _ _ (by decide),hs _ _ (by decide) (by decide),by decide,by decide⟩
 ·exact⟨1,2,hq _ _ (by decide),hs _ _ (by decide) (by decide),by decide,by decide⟩
 ·exact⟨1,2,hq _ _ (by decide),hs _ _ (by decide) (by decide),by decide,by decide⟩
 ·exact⟨2,4,hq _ _ (by decide),hs _ _ (by decide) (by decide),by decide,by decide⟩
 ·exact⟨2,4,hq _ _ (by decide),hs _ _ (by decide) (by decide),by decide,by decide⟩
 ·exact⟨3,8,hq _ _ (by decide),hs _ _ (by decide) (by decide),by decide,by decide⟩
 ·exact⟨3,8,hq _ _ (by decide),hs _ _ (by decide) (by decide),by decide,by decide⟩
 ·exact⟨4,16,hq _ _ (by decide),hs _ _ (by decide) (by decide),by decide,by decide⟩
 ·exact⟨4,16,hq _ _ (by decide),hs _ _ (by decide) (by decide),by decide,by decide⟩
 ·exact⟨5,32,hq _ _ (by decide),hs _ _ (by decide) (by decide),by decide,by decide⟩
 ·exact⟨5,32,hq _ _ (by decide),hs _ _ (by decide) (by decide),by decide,by decide⟩
 ·exact⟨6,64,hq _ _ (by decide),hs _ _ (by decide) (by decide),by decide,by decide⟩
 ·exact⟨6,64,hq _ _ (by decide),hs _ _ (by decide) (by decide),by decide,by decide⟩
 ·exact⟨7,128,hq _ _ (by decide),hs _ _ (by decide) (by decide),by decide,by decide⟩
 ·exact⟨7,128,hq _ _ (by decide),hs _ _ (by decide) (by decide),by decide,by decide⟩
theorem floor_ok(n:Int)(h1:n<=65535):Ok (dZ n) (fun r=>(0<=r∧r<=255)∧(0<=n->r*r<=n)∧n<(r+1)*(r+1)):=by
 unfold dZ
 refine Ok.nS (fun h=>Ok.ret ⟨⟨om,om⟩,fun h'=>om,so⟩) (fun h=>?_)
 have hw:IntKind.wrap .u64 n=n:=IntWalk.u64_in _ om
 rw [hw]
 refine Ok.bind (len_ok om h1) (fun L hL=>?_)
 obtain⟨⟨l0,l1⟩,l2⟩:=hL
 obtain⟨L,rfl⟩:∃k:Nat,L=k:=⟨L.toNat,om⟩
 obtain⟨q,b,e1,e2,e3,e4⟩:=start_at L om om
 rw [e1,zc,e2,zc]
 have hb:=bit_pos b e3
 refine Ok.bind (floor_loop n om h1 (0,b) (.inr ⟨e3,0,sm,om,za,za,?_⟩)) (fun r hr=>Ok.ret ⟨hr.1,fun _=>hr.2.1,hr.2.2⟩)
 simp only
 rw [Int.toNat_natCast]at l2
 exact Int.lt_of_lt_of_le l2 e4
theorem lt_of_sq{x s:Int}(hs:0<=s)(h:x*x<s*s):x<s:=by
 apply Classical.byContradiction
 intro hn
 have:s*s<=x*x:=Int.mul_le_mul om om hs om
 omega
theorem ceil_ok(n:Int)(h0:0<=n)(h1:n<=65535):Ok (fJ n) (fun r=>(0<=r∧r<=256)∧n<=r*r∧∀s,0<=s->n<=s*s->r<=s):=by
 unfold fJ
 refine Ok.bind (floor_ok n h1) (fun x hx=>?_)
 obtain⟨⟨a0,a1⟩,a2,a3⟩:=hx
 have:=a2 h0
 have hxx:0<=x*x:=Int.mul_nonneg a0 a0
 rw [w64 (n:=x*x) om om,w64 (n:=x+1) om om]
 refine Ok.nS (fun hlt=>Ok.ret ⟨⟨om,om⟩,Int.le_of_lt a3,fun s hs hns=>?_⟩) (fun hge=>Ok.ret ⟨⟨om,om⟩,om,fun s hs hns=>?_⟩)
 ·have:=lt_of_sq (x:=x) hs om;omega
 ·apply Classical.byContradiction
  intro hc
  have := lt_of_sq (x := s) a0 (by
   have h2:s*s<=(x-1)*(x-1):=Int.mul_le_mul om om hs om
   have h3:(x-1)*(x-1)=x*x-2*x+1:=by rw [Int.sub_mul,Int.mul_sub];omega
   omega)
  have h2:s*s<=(x-1)*(x-1):=Int.mul_le_mul om om hs om
  have h3:(x-1)*(x-1)=x*x-2*x+1:=by rw [Int.sub_mul,Int.mul_sub];omega
  omega
end Go.Dw.Lt
set_option maxRecDepth 100000
set_option maxHeartbeats 4000000
namespace Go.Dw.Lt
open Go.Dw Go.Proofs
theorem get1{α:Type}(A:List α)(y:α)(T:List α){n:Int}(hn:n=A.length):nZ (A++y::T) n=some y:=by
 rw [oY (i:=A.length) hn sm]
 simp
theorem set1{α:Type}(A:List α)(y z:α)(T:List α){n:Int}(hn:n=A.length):sZ (A++y::T) n z=some (A++z::T):=by
 rw [As (i:=A.length) hn sm]
 simp
structure ly(t:aq):Prop where
 step:1<=t.aQ∧t.aQ<=100
 len:2<=t.aF.length∧t.aF.length<=30
 same:t.az.length=t.aF.length
 low:t.aF.Pairwise (· <= ·)
 high:t.az.Pairwise (· <= ·)
 lows:∀x∈t.aF,0<=x
 highs:∀x∈t.az,0<=x∧x<=5000
 lh:∀(i:Nat)(h:i<t.aF.length)(h':i<t.az.length),t.aF[i]<=t.az[i]
theorem dW{t:aq}(h:ly t):bY t=some 0:=by
 obtain⟨h1,h2,h3,h4,h5,h6,h7,h8⟩:=h
 refine Ok.eq ?_
 unfold bY
 refine Ok.nS (fun _=>om) (fun _=>Ok.nS (fun _=>om) (fun _=>Ok.oT (fun h=>om) (fun _=>Ok.nS (fun _=>om) (fun _=>Ok.nS (fun _=>om) (fun _=>?_)))))
 refine Ok.bind (P:=fun o=>o= .inl ()) (Ok.loop (fun s=>∃i:Nat,s.2.2=i∧i<=t.aF.length∧(∀(j:Nat)(hj:j<t.aF.length),i<=j->s.1<=t.aF[j])∧(∀(j:Nat)(hj:j<t.az.length),i<=j->s.2.1<=t.az[j])) (fun s=>((t.aF.length:Int)-s.2.2).toNat) ?_ ⟨0,rfl,Nat.zero_le _,fun j hj _=>h6 _ (List.getElem_mem hj),fun j hj _=>(h7 _ (List.getElem_mem hj)).1⟩) (fun o ho=>by subst ho;exact Ok.ret rfl)
 rintro⟨s1,s2,s3⟩ ⟨i,i0,i1,i2,i3⟩
 simp only at i0 i2 i3
 subst i0
 unfold gC
 dsimp only
 refine Ok.nS (fun hlt=>?_) (fun _=>Ok.st rfl)
 have hi:i<t.aF.length:=by omega
 have hi':i<t.az.length:=by omega
 have:=i2 i hi (Nat.le_refl _)
 have:=i3 i hi' (Nat.le_refl _)
 have:=h8 i hi hi'
 have:=(h7 _ (List.getElem_mem hi')).2
 simp only [oY (i:=i) rfl hi,oY (i:=i) rfl hi',zc]
 refine Ok.nS (fun _=>om) (fun _=>Ok.nS (fun _=>om) (fun _=>Ok.nS (fun _=>om) (fun _=>Ok.nS (fun _=>om) (fun _=>?_))))
 rw [w64 om om]
 refine Ok.nx ⟨i+1,sm,om,fun j hj h=>?_,fun j hj h=>?_⟩ za
 ·exact List.pairwise_iff_getElem.1 h4 i j hi hj om
 ·exact List.pairwise_iff_getElem.1 h5 i j hi' hj om
theorem snoc_le{l:List Int}{x:Int}(h:l.Pairwise (· <= ·))(hx:∀y∈l,y<=x):(l++[x]).Pairwise (· <= ·):=
 List.pairwise_append.2 ⟨h,sm,fun a ha b hb=>by rw [List.mem_singleton.1 hb];exact hx a ha⟩
structure TI(d:Src)(lo hi k:Int)(L H:List Int):Prop where
 ck:0<=k∧k<=23
 ll:L.length=k.toNat
 hl:H.length=k.toNat
 clo:0<=lo∧lo<=60*k
 chi:0<=hi∧hi<=100*k+2
 cd:bP d
 pl:L.Pairwise (· <= ·)
 ph:H.Pairwise (· <= ·)
 ls:∀x∈L,0<=x∧x<=lo
 hs:∀x∈H,0<=x∧x<=hi
 lh:lo<=hi
 le:∀(i:Nat)(h:i<L.length)(h':i<H.length),L[i]<=H[i]
theorem tableV(d:Src)(hd:bP d):Ok (gh d) (fun r=>ly r.1∧bP r.2):=by
 unfold gh
 refine Ok.bind (dh _ d hd sm sm) (fun x1 h1=>?_)
 obtain⟨hst,h1⟩:=h1
 have hst:x1.1=20∨x1.1=25∨x1.1=40∨x1.1=100:=by simpa using hst
 refine Ok.bind (c9 _ _ h1 om om) (fun x2 h2=>?_)
 have hq:∃q,IntKind.wrap .i64 ((400:Int).tdiv x1.1)=q∧4<=q∧q<=20:=by
  rcases hst with e|e|e|e<;>rw [e]<;>exact⟨_,rfl,by decide,by decide⟩
 have hp:∃q,IntKind.wrap .i64 (x1.1.tdiv 4)=q∧0<=q∧q<=25:=by
  rcases hst with e|e|e|e<;>rw [e]<;>exact⟨_,rfl,by decide,by decide⟩
 obtain⟨q,hq,q0,q1⟩:=hq
 obtain⟨p,hp,p0,p1⟩:=hp
 refine Ok.bind (P:=fun o=>bP ⟨o.1,o.2.1⟩∧ly ⟨x1.1,o.2.2.1,o.2.2.2⟩)
  (Ok.loop (fun s=>TI ⟨s.2.2.2.1,s.2.2.2.2.1⟩ s.1 s.2.1 s.2.2.1 s.2.2.2.2.2.1 s.2.2.2.2.2.2) (fun s=>(23-s.2.2.1).toNat) ?_ ⟨⟨sm,sm⟩,rfl,rfl,⟨sm,sm⟩,⟨za,za⟩,h2.2.2,sm,sm,sm,sm,za,sm⟩) ?_
 ·rintro⟨s3,s4,s5,s6,s7,s8,s9⟩ hI
  simp only at hI
  obtain⟨i0,i1,i2,i3,i4,i5,i6,i7,i8,i9,i10,i11⟩:=hI
  unfold gE
  refine Ok.bind (Ok.quo om) (fun y1 g1=>?_)
  rw [hq]at g1;subst g1
  refine Ok.bind (c9 _ _ i5 om om) (fun y2 g2=>?_)
  rw [w64 (n:=y1+y2.1) om om]
  refine Ok.nS (fun hle=>?_) (fun hgt=>?_)
  ·refine Ok.bind (Ok.app (by simp only [List.length_cons,List.length_nil];omega)) (fun y3 g3=>?_)
   refine Ok.bind (Ok.app (by simp only [List.length_cons,List.length_nil];omega)) (fun y4 g4=>?_)
   refine Ok.bind (dh _ _ g2.2.2 sm sm) (fun y5 g5=>?_)
   refine Ok.bind (Ok.quo om) (fun y6 g6=>?_)
   rw [hp]at g6;subst g6
   refine Ok.bind (dh _ _ g5.2 sm sm) (fun y7 g7=>?_)
   have a1:0<=y5.1∧y5.1<=35:=by have:=g5.1;simp at this;omega
   have a2:0<=y7.1∧y7.1<=30:=by have:=g7.1;simp at this;omega
   rw [w64 (n:=y5.1+y6) om om,w64 (n:=s3+(y5.1+y6)) om om,w64 (n:=s5+1) om om,w64 (by split<;>omega) (by split<;>omega)]
   subst g3 g4
   refine Ok.nx ⟨⟨za,za⟩,?_,?_,⟨za,za⟩,⟨by simp only;split<;>omega,by simp only;split<;>omega⟩,g7.2,snoc_le i6 fun y hy=>(i8 y hy).2,snoc_le i7 fun y hy=>(i9 y hy).2,?_,?_,by simp only;split<;>omega,?_⟩ za
   ·simp only [List.length_append,List.length_cons,List.length_nil];omega
   ·simp only [List.length_append,List.length_cons,List.length_nil];omega
   ·intro x hx
    simp only [List.mem_append,List.mem_singleton]at hx
    rcases hx with hx|rfl
    ·have:=i8 x hx;simp only;omega
    ·simp only;omega
   ·intro x hx
    simp only [List.mem_append,List.mem_singleton]at hx
    rcases hx with hx|rfl
    ·have:=i9 x hx;simp only;split<;>omega
    ·simp only;split<;>omega
   ·intro i h h'
    simp only [List.length_append,List.length_cons,List.length_nil]at h h'
    by_cases hi:i<s8.length
    ·rw [List.getElem_append_left hi,List.getElem_append_left om]
     exact i11 i hi om
    ·have e1:i=s8.length:=by omega
     rw [List.getElem_append_right om,List.getElem_append_right om]
     simp only [List.getElem_singleton];omega
  ·exact Ok.st ⟨g2.2.2,⟨za,za⟩,⟨za,za⟩,za,i6,i7,fun x hx=>(i8 x hx).1,fun x hx=>by have:=i9 x hx;omega,i11⟩
 ·intro o ho
  exact Ok.ret ⟨ho.2,ho.1⟩
theorem reg_ok{k:Int}(hk:0<=k∧k<=3)(d:Src)(hd:bP d):Ok (lv 20 k d) (fun r=>dg 20 r.1.aF):=by
 unfold lv
 rw [w64 (n:=k+1) om om]
 refine Ok.bind (lr 20 om om d hd) (fun y0 g0=>?_)
 refine Ok.bind (c9 _ _ g0.2 om om) (fun y1 g1=>?_)
 refine Ok.bind (c9 _ _ g1.2.2 om om) (fun y2 g2=>?_)
 refine Ok.bind (c9 _ _ g2.2.2 om om) (fun y3 g3=>?_)
 exact Ok.ret g0.1
theorem assocV{k:Int}(hk:0<=k∧k<=3)(d:Src)(hd:bP d):Ok (cV k d) (fun r=>((dN r.1.aG∧dg 20 r.1.aG.aF)∧ly r.1.aS∧(1<=r.1.bN∧r.1.bN<=1000)∧(0<=r.1.bJ∧r.1.bJ<=1000)∧(0<=r.1.mW∧r.1.mW<=1000)∧(0<=r.1.kW∧r.1.kW<=1000)∧(2<=r.1.kV∧r.1.kV<=3))∧bP r.2):=by
 unfold cV
 refine Ok.bind ((box_ok 20 k om om om om d hd).both (reg_ok hk d hd)) (fun x1 h1=>?_)
 refine Ok.bind (tableV _ h1.1.2) (fun x2 h2=>?_)
 refine Ok.bind (dh _ _ h2.2 sm sm) (fun x3 h3=>?_)
 refine Ok.bind (dh _ _ h3.2 sm sm) (fun x4 h4=>?_)
 refine Ok.bind (dh _ _ h4.2 sm sm) (fun x5 h5=>?_)
 refine Ok.bind (dh _ _ h5.2 sm sm) (fun x6 h6=>?_)
 refine Ok.bind (c9 _ _ h6.2 om om) (fun x7 h7=>?_)
 have a3:=h3.1
 have a4:=h4.1
 have a5:=h5.1
 have a6:=h6.1
 simp at a3 a4 a5 a6
 rw [w64 (n:=2+x7.1) om om]
 exact Ok.ret ⟨⟨⟨h1.1.1,h1.2⟩,h2.1,za,za,za,za,za⟩,h7.2.2⟩
theorem third{x:Int}(h:0<=x)(h':x<=1000000):IntKind.wrap .i64 (x.tdiv 3)=x / 3:=by
 rw [Int.tdiv_eq_ediv_of_nonneg h,w64 om om]
theorem tab_third{t:aq}(h:ly t):ly ⟨t.aQ,t.aF.map (· / 3),t.az.map (· / 3)⟩:=by
 obtain⟨h1,h2,h3,h4,h5,h6,h7,h8⟩:=h
 refine⟨h1,by simpa using h2,by simpa using h3,?_,?_,?_,?_,?_⟩
 ·rw [List.pairwise_map];exact h4.imp fun h=>by omega
 ·rw [List.pairwise_map];exact h5.imp fun h=>by omega
 ·intro x hx
  obtain⟨y,hy,rfl⟩:=List.mem_map.1 hx
  have:=h6 y hy;omega
 ·intro x hx
  obtain⟨y,hy,rfl⟩:=List.mem_map.1 hx
  have:=h7 y hy;omega
 ·intro i h h'
  simp only [List.length_map]at h h'
  simp only [List.getElem_map]
  have:=h8 i h h';omega
theorem scaleV(d:Src)(hd:bP d):Ok (hJ d) (fun r=>(ly r.1.bL∧(0<=r.1.bo∧r.1.bo<=20)∧(1<=r.1.bf∧r.1.bf<=20))∧bP r.2):=by
 unfold hJ
 refine Ok.bind (tableV _ hd) (fun x1 h1=>?_)
 refine Ok.bind (c9 _ _ h1.2 om om) (fun x2 h2=>?_)
 refine Ok.bind (c9 _ _ h2.2.2 om om) (fun x3 h3=>?_)
 have hT:=h1.1
 have hl:=hT.len;have hs:=hT.same
 generalize hL:x1.1.aF=L at*
 generalize hH:x1.1.az=H at*
 refine Ok.bind (P:=fun o=>o=(L.map (· / 3),H.map (· / 3))) (Ok.loop (fun s:Int×List Int×List Int=>∃i:Nat,s=((i:Int),(L.take i).map (· / 3)++L.drop i,(H.take i).map (· / 3)++H.drop i)∧i<=L.length) (fun s=>((L.length:Int)-s.1).toNat) ?_ ⟨0,sm,Nat.zero_le _⟩) (fun o ho=>?_)
 ·rintro s ⟨i,rfl,hi⟩
  unfold ja
  dsimp only
  rw [hL]
  refine Ok.nS (fun hlt=>?_) (fun hge=>?_)
  ·have hi:i<L.length:=by omega
   have hi':i<H.length:=by omega
   have b1:=hT.lows (L[i]) (by rw [hL];exact List.getElem_mem hi)
   have b2:=hT.highs (H[i]) (by rw [hH];exact List.getElem_mem hi')
   have b3:=hT.lh i (by rw [hL];exact hi) (by rw [hH];exact hi')
   simp only [hL,hH]at b3
   have hdrop:∀{M:List Int}(h:i<M.length),(M.take i).map (· / 3)++M.drop i=(M.take i).map (· / 3)++M[i]::M.drop (i+1):=fun{M}h=>by rw [List.drop_eq_getElem_cons h]
   have hlen:∀{M:List Int},i<M.length->((M.take i).map (· / 3)).length=i:=fun{M}h=>by simp;omega
   have hset:∀{M:List Int}(h:i<M.length),(M.take i).map (· / 3)++M[i] / 3::M.drop (i+1)=(M.take (i+1)).map (· / 3)++M.drop (i+1):=fun{M}h=>by
    rw [pV h,List.map_append,List.append_assoc];rfl
   rw [hdrop hi,hdrop hi']
   have n1:∀{M:List Int}(h:i<M.length)(z:Int),inO ((M.take i).map (· / 3)++z::M.drop (i+1)) (i:Int)=some ():=fun{M}h z=>w4 om (by rw [List.length_append,hlen h];simp;omega)
   rw [n1 hi,zc,get1 _ _ _ (by rw [hlen hi]),zc]
   refine Ok.bind (Ok.quo om) (fun y2 g2=>?_)
   rw [third b1 om]at g2
   subst g2
   rw [n1 hi',zc,get1 _ _ _ (by rw [hlen hi']),zc]
   refine Ok.bind (Ok.quo om) (fun y4 g4=>?_)
   rw [third b2.1 om]at g4
   subst g4
   rw [zc,set1 _ _ _ _ (by rw [hlen hi]),zc,zc,set1 _ _ _ _ (by rw [hlen hi']),zc,w64 om om,hset hi,hset hi']
   exact Ok.nx ⟨i+1,sm,om⟩ za
  ·have:i=L.length:=by omega
   subst this
   refine Ok.st ?_
   rw [List.take_length,List.drop_length,List.append_nil,List.take_of_length_le om,List.drop_of_length_le om,List.append_nil]
 ·subst ho
  rw [w64 (n:=1+x3.1) om om]
  have:=tab_third hT
  rw [hL,hH]at this
  exact Ok.ret ⟨⟨this,za,za⟩,h3.2.2⟩
structure SetV(s:aw):Prop where
 box:dN s.aA.aG
 reg:dg 20 s.aA.aG.aF
 tab:ly s.aA.aS
 cap:1<=s.aA.bN∧s.aA.bN<=1000
 tol:0<=s.aA.bJ∧s.aA.bJ<=1000
 span:0<=s.aA.mW∧s.aA.mW<=1000
 limit:0<=s.aA.kW∧s.aA.kW<=1000
 least:2<=s.aA.kV∧s.aA.kV<=3
 cor:ly s.dY.bL
 num:0<=s.dY.bo∧s.dY.bo<=20
 den:1<=s.dY.bf∧s.dY.bf<=20
 tolerance:0<=s.bJ∧s.bJ<=1000
theorem settingsV{k:Int}(hk:0<=k∧k<=3)(d:Src)(hd:bP d):Ok (cK k d) (fun r=>SetV r.1∧bP r.2):=by
 unfold cK
 refine Ok.bind (assocV hk d hd) (fun x1 h1=>?_)
 refine Ok.bind (scaleV _ h1.2) (fun x2 h2=>?_)
 refine Ok.bind (dh _ _ h2.2 sm sm) (fun x3 h3=>?_)
 have a3:=h3.1
 simp at a3
 obtain⟨⟨⟨a,a'⟩,b,c,e,f,g,h⟩, -⟩:=h1
 exact Ok.ret ⟨⟨a,a',b,c,e,f,g,h,h2.1.1,h2.1.2.1,h2.1.2.2,za⟩,h3.2⟩
theorem eZ{p:aa}(h:dg 60 p):cg p=some true:=by
 obtain⟨h1,h2,h3⟩:=h
 refine Ok.eq ?_
 unfold cg bc
 rw [zc]
 dsimp only
 exact Ok.nS (fun _=>om) (fun _=>Ok.nS (fun _=>om) (fun _=>Ok.nS (fun _=>om) (fun _=>Ok.nS (fun _=>om) (fun _=>Ok.nS (fun _=>om) (fun _=>Ok.nS (fun _=>om) (fun _=>Ok.ret rfl))))))
theorem gi{b:ag}(h:dN b):dg 60 b.aF∧dg 60 b.az:=by
 obtain⟨⟨h1,h2,h3⟩,h4,h5,h6⟩:=h
 exact⟨⟨om,om,om⟩,om,om,om⟩
theorem cr{b:ag}(h:dN b):bg b=some true:=by
 obtain⟨hl,hh⟩:=gi h
 obtain⟨-,h4,h5,h6⟩:=h
 refine Ok.eq ?_
 unfold bg
 rw [eZ hl,zc,if_neg sm,eZ hh,zc,if_neg sm]
 unfold bc
 rw [zc,zc]
 dsimp only
 exact Ok.nS (fun _=>om) (fun _=>Ok.nS (fun _=>om) (fun _=>Ok.nS (fun _=>om) (fun _=>Ok.ret rfl)))
theorem set_valid{s:aw}(h:SetV s):eE s=some 0:=by
 obtain⟨h1, -,h2,h3,h4,h5,h6,h7,h8,h9,h10,h11⟩:=h
 have hin:∀{x a b:Int},a<=x->x<=b->ep x a b=some true:=fun h h'=>by
  unfold ep;rw [if_pos (by simpa using h)];simpa using h'
 have ha:fg s.aA []=some 0:=by
  unfold fg
  rw [cr h1,zc,if_neg sm,dW h2,zc,if_neg sm,hin om om,zc,if_neg sm,hin om om,zc,if_neg sm,hin om om,zc,if_neg sm,hin om om,zc,if_neg sm,hin om om,zc,if_neg sm,if_neg sm]
  have:fh [] s.aA (0:Int)=some (.stop (.inl ())):=by
   unfold fh
   rw [if_neg sm]
  rw [oQ this];rfl
 have hm:ch s.dY=some true:=by
  unfold ch
  rw [dW h8,zc,if_pos sm,if_pos so,if_pos so,if_pos so]
  simp;omega
 unfold eE
 rw [ha,zc,if_neg sm,hm,zc,if_neg sm,if_neg so,if_neg so]
theorem mw{x:Int}(h: -120<=x∧x<=120):0<=x*x∧x*x<=14400:=by
 constructor
 ·rcases Int.le_total 0 x with h'|h'
  ·exact Int.mul_nonneg h' h'
  ·exact Int.mul_nonneg_of_nonpos_of_nonpos h' h'
 ·rcases Int.le_total 0 x with h'|h'
  ·exact Int.mul_le_mul h.2 h.2 h' om
  ·rw [<-Int.neg_mul_neg]
   exact Int.mul_le_mul (show-x<=120 by omega) (show-x<=120 by omega) om om
def ne(x l h:Int):Int:=max 0 (max (l-x) (x-h))
def fa(x l h:Int):Int:=max (h-x) (x-l)
def kF(b:ag)(p:aa):Int:=ne p.fX b.aF.fX b.az.fX*ne p.fX b.aF.fX b.az.fX+ne p.fY b.aF.fY b.az.fY*ne p.fY b.aF.fY b.az.fY+ne p.fZ b.aF.fZ b.az.fZ*ne p.fZ b.aF.fZ b.az.fZ
def lf(b:ag)(p:aa):Int:=fa p.fX b.aF.fX b.az.fX*fa p.fX b.aF.fX b.az.fX+fa p.fY b.aF.fY b.az.fY*fa p.fY b.aF.fY b.az.fY+fa p.fZ b.aF.fZ b.az.fZ*fa p.fZ b.aF.fZ b.az.fZ
theorem nj{a b c:Int}(ha: -60<=a∧a<=60)(hb: -60<=b∧b<=60)(hc: -60<=c∧c<=60):dS a b c=some (ne a b c)∧0<=ne a b c∧ne a b c<=120:=by
 unfold dS ne
 rw [w64 (n:=a-c) om om,w64 (n:=b-a) om om]
 refine⟨congrArg some ?_,om,om⟩
 split<;>split<;>omega
theorem l8{a b c:Int}(ha: -60<=a∧a<=60)(hb: -60<=b∧b<=60)(hc: -60<=c∧c<=60)(hbc:b<=c):dC a b c=some (fa a b c)∧0<=fa a b c∧fa a b c<=120:=by
 unfold dC fa
 rw [w64 (n:=a-b) om om,w64 (n:=c-a) om om]
 refine⟨congrArg some ?_,om,om⟩
 split<;>omega
theorem sum_at{x y z:Int}(hx:0<=x∧x<=120)(hy:0<=y∧y<=120)(hz:0<=z∧z<=120):
  IntKind.wrap .i64 ((IntKind.wrap .i64 ((IntKind.wrap .i64 ((0:Int)+(IntKind.wrap .i64 (x*x))))+(IntKind.wrap .i64 (y*y))))+(IntKind.wrap .i64 (z*z)))=x*x+y*y+z*z∧0<=x*x+y*y+z*z∧x*x+y*y+z*z<=43200:=by
 have h1:=mw (x:=x) om
 have h2:=mw (x:=y) om
 have h3:=mw (x:=z) om
 rw [w64 (n:=x*x) om om,w64 (n:=y*y) om om,w64 (n:=z*z) om om,w64 (n:=0+x*x) om om,w64 (n:=0+x*x+y*y) om om,w64 om om]
 exact⟨om,om,om⟩
theorem mA{b:ag}(hb:dN b){p:aa}(hp:dg 60 p):dP b p=some (kF b p)∧0<=kF b p∧kF b p<=43200:=by
 obtain⟨hl,hh⟩:=gi hb
 obtain⟨e1,a1⟩:=nj hp.1 hl.1 hh.1
 obtain⟨e2,a2⟩:=nj hp.2.1 hl.2.1 hh.2.1
 obtain⟨e3,a3⟩:=nj hp.2.2 hl.2.2 hh.2.2
 obtain⟨e,h⟩:=sum_at a1 a2 a3
 refine⟨?_,h⟩
 unfold dP fk bc
 rw [Option.bind_fun_some,cr hb,zc,if_neg sm,eZ hp,zc,if_neg sm]
 simp only [zc,e1,e2,e3,e]
 rfl
theorem Far_at{b:ag}(hb:dN b){p:aa}(hp:dg 60 p):fi b p=some (lf b p)∧0<=lf b p∧lf b p<=43200:=by
 obtain⟨hl,hh⟩:=gi hb
 obtain⟨-,b1,b2,b3⟩:=id hb
 obtain⟨e1,a1⟩:=l8 hp.1 hl.1 hh.1 om
 obtain⟨e2,a2⟩:=l8 hp.2.1 hl.2.1 hh.2.1 om
 obtain⟨e3,a3⟩:=l8 hp.2.2 hl.2.2 hh.2.2 om
 obtain⟨e,h⟩:=sum_at a1 a2 a3
 refine⟨?_,h⟩
 unfold fi eU bc
 rw [Option.bind_fun_some,cr hb,zc,if_neg sm,eZ hp,zc,if_neg sm]
 simp only [zc,e1,e2,e3,e]
 rfl
theorem sq_le{x y:Int}(h0:0<=x)(h:x<=y):x*x<=y*y:=Int.mul_le_mul h h h0 om
theorem lq{b:ag}(hb:dN b)(p:aa):kF b p<=lf b p:=by
 obtain⟨-,b1,b2,b3⟩:=hb
 have k:∀x l h:Int,l<=h->ne x l h*ne x l h<=fa x l h*fa x l h:=fun x l h hlh=>sq_le (by unfold ne;omega) (by unfold ne fa;omega)
 have:=k p.fX b.aF.fX b.az.fX om
 have:=k p.fY b.aF.fY b.az.fY om
 have:=k p.fZ b.aF.fZ b.az.fZ om
 unfold kF lf;omega
structure Sub(r b:ag):Prop where
 x:r.aF.fX<=b.aF.fX∧b.aF.fX<=b.az.fX∧b.az.fX<=r.az.fX
 y:r.aF.fY<=b.aF.fY∧b.aF.fY<=b.az.fY∧b.az.fY<=r.az.fY
 z:r.aF.fZ<=b.aF.fZ∧b.aF.fZ<=b.az.fZ∧b.az.fZ<=r.az.fZ
theorem nC{r b:ag}(h:Sub r b)(p:aa):lf b p<=lf r p:=by
 obtain⟨h1,h2,h3⟩:=h
 have k:∀x l h l' h':Int,l'<=l->l<=h->h<=h'->fa x l h*fa x l h<=fa x l' h'*fa x l' h':=fun x l h l' h' a b c=>sq_le (by unfold fa;omega) (by unfold fa;omega)
 have:=k p.fX _ _ _ _ h1.1 h1.2.1 h1.2.2
 have:=k p.fY _ _ _ _ h2.1 h2.2.1 h2.2.2
 have:=k p.fZ _ _ _ _ h3.1 h3.2.1 h3.2.2
 unfold lf;omega
theorem half_at:∀x:Nat,x<600->IntKind.wrap .i64 (oj .u64 (IntKind.wrap .u64 (IntKind.wrap .i64 (x:Int))) 1)=((x / 2:Nat):Int):=by decide+kernel
theorem search_ok{t:aq}(ht:ly t)(d:Int)(hd:d<=t.aQ*((t.aF.length:Int)-1)):Ok (cE (t.az.length:Int) t d) (fun r=>(0<=r∧r<t.az.length)∧d<=r*t.aQ):=by
 have hl:=ht.len;have hs:=ht.same;have hst:=ht.step
 unfold cE
 rw [Option.bind_fun_some]
 refine Ok.loop (fun s=>∃i j:Nat,s=((i:Int),(j:Int))∧i<t.az.length∧i<=j∧j<=t.az.length∧(j<t.az.length->d<=(j:Int)*t.aQ)) (fun s=>(s.2-s.1).toNat) ?_ ⟨0,t.az.length,rfl,om,om,Nat.le_refl _,fun h=>om⟩
 rintro s ⟨i,j,rfl,i0,i1,i2,i3⟩
 unfold eN
 dsimp only
 refine Ok.nS (fun hlt=>?_) (fun hge=>Ok.st ⟨⟨om,om⟩,?_⟩)
 rotate_left
 ·obtain rfl:i=j:=by omega
  exact i3 i0
 have hh:=half_at (i+j) om
 rw [Int.natCast_add]at hh
 have hk1:(i+j) / 2<j:=by omega
 have hk2:i<=(i+j) / 2:=by omega
 rw [hh]
 generalize (i+j) / 2=k at*
 unfold eO
 have hb:0<=(k:Int)*t.aQ∧(k:Int)*t.aQ<=30*100:=⟨Int.mul_nonneg om om,Int.mul_le_mul om om om om⟩
 rw [w64 (n:=(k:Int)*t.aQ) om om,zc]
 refine Ok.iteND (fun hlt=>?_) (fun hle=>Ok.nx ⟨i,k,rfl,i0,hk2,om,fun _=>hle⟩ za)
 rw [w64 om om]
 refine Ok.nx ⟨k+1,j,sm,?_,om,i2,i3⟩ za
 have h1:(k:Int)*t.aQ<t.aQ*((t.aF.length:Int)-1):=by omega
 rw [Int.mul_comm]at h1
 have:=Int.lt_of_mul_lt_mul_left h1 om
 omega
theorem asc_le{l:List Int}(h:l.Pairwise (· <= ·)){i j:Nat}(hij:i<=j)(hj:j<l.length):l[i]<=l[j]:=by
 rcases Nat.lt_or_eq_of_le hij with h1|rfl
 ·exact List.pairwise_iff_getElem.1 h i j _ _ h1
 ·exact Int.le_refl _
def kg(t:aq):Int:=t.aQ*((t.aF.length:Int)-1)
def Reach(t:aq)(f:Int):Prop:=f<=kg t*kg t
theorem lz{t:aq}(ht:ly t)(n f:Int)(h0:0<=n)(hnf:n<=f)(hf:f<=65535):Ok (bI t n f) (fun r=>(r.2.2=0↔Reach t f)∧(r.2.2=0->0<=r.1∧r.1<=r.2.1∧r.2.1<=5000)):=by
 have hl:=ht.len;have hs:=ht.same;have hst:=ht.step
 unfold bI
 rw [dW ht,zc,if_neg sm]
 refine Ok.nS (fun _=>om) (fun _=>Ok.nS (fun _=>om) (fun h1=>?_))
 refine Ok.bind (ceil_ok f om hf) (fun c hc=>?_)
 obtain⟨hc0,hc1,hc2⟩:=hc
 have hb:0<=t.aQ*((t.aF.length:Int)-1)∧t.aQ*((t.aF.length:Int)-1)<=100*30:=⟨Int.mul_nonneg om om,Int.mul_le_mul om om om om⟩
 have hR:Reach t f↔c<=kg t:=by
  unfold Reach
  constructor
  ·intro h;exact hc2 _ hb.1 h
  ·intro h;exact Int.le_trans hc1 (sq_le hc0.1 h)
 unfold iE
 rw [zc,w64 (n:=(t.aF.length:Int)-1) om om,w64 om om]
 refine Ok.nS (fun h2=>Ok.ret ⟨⟨fun h=>by simp at h,fun h=>?_⟩,fun h=>by simp at h⟩) (fun h2=>?_)
 ·have:=hR.1 h;unfold kg at this;omega
 refine Ok.bind (search_ok ht c om) (fun u hu=>?_)
 refine Ok.bind (floor_ok n om) (fun x hx=>?_)
 obtain⟨⟨x0,x1⟩,x2, -⟩:=hx
 have x2:=x2 h0
 have hxc:x<=c:=by
  apply Classical.byContradiction
  intro h
  have:(c+1)*(c+1)<=x*x:=Int.mul_le_mul om om om om
  have h4:(c+1)*(c+1)=c*c+2*c+1:=by rw [Int.add_mul,Int.mul_add];omega
  omega
 refine Ok.bind (Ok.quo om) (fun q hq=>?_)
 have hq0:0<=x.tdiv t.aQ:=Int.tdiv_nonneg x0 om
 have hq1:x.tdiv t.aQ<=(t.aF.length:Int)-1:=by
  rw [Int.tdiv_eq_ediv_of_nonneg x0]
  exact Int.ediv_le_of_le_mul om (by rw [Int.mul_comm];omega)
 have hq2:x.tdiv t.aQ<=u:=by
  rw [Int.tdiv_eq_ediv_of_nonneg x0]
  exact Int.ediv_le_of_le_mul om om
 rw [w64 om om]at hq
 subst hq
 refine Ok.bind (Ok.get hq0 om) (fun a ha=>?_)
 refine Ok.bind (Ok.get hu.1.1 hu.1.2) (fun b hb'=>Ok.ret ⟨⟨fun _=>hR.2 (by unfold kg;omega),fun _=>rfl⟩,fun _=>⟨ht.lows _ ha.1,?_,(ht.highs _ hb'.1).2⟩⟩)
 obtain⟨i1,e1⟩:=List.getElem?_eq_some_iff.1 ha.2
 obtain⟨i2,e2⟩:=List.getElem?_eq_some_iff.1 hb'.2
 have k1:=asc_le ht.low (i:=(x.tdiv t.aQ).toNat) (j:=u.toNat) om om
 have k2:=ht.lh u.toNat om i2
 simp only
 omega
def dj(z:al):Prop:= -5000<=z.aT∧z.aT<=z.fTo∧z.fTo<=18014398509481984
structure PhV(a:aC):Prop where
 pos:dg 60 a.aM
 early:0<=a.a8
 late:a.a8<=a.bF
 most:a.bF<=18014398509481984
 weight:a.bt=1
theorem zone_ok{t:aq}(ht:ly t){b:ag}(hb:dN b){a:aC}(ha:PhV a):Ok (cf t b a) (fun r=>(r.2=0↔Reach t (lf b a.aM))∧(r.2=0->dj r.1)):=by
 obtain⟨ha,h1,h2,h3,h4⟩:=ha
 have hv:cj a=some true:=by
  refine Ok.eq ?_
  unfold cj
  rw [eZ ha,zc,if_pos rfl,if_pos (by simpa using h1),if_pos (by simpa using h2),if_pos (by simpa using h3),if_pos (by simp [h4])]
  exact Ok.ret (by simp [h4])
 unfold cf
 rw [dW ht,zc,if_neg sm,cr hb,zc,if_neg sm,hv,zc,if_neg sm]
 obtain⟨e1,n0,n1⟩:=mA hb ha
 obtain⟨e2,f0,f1⟩:=Far_at hb ha
 refine Ok.bind (P:=fun r=>(r.2.2=0↔Reach t (lf b a.aM))∧(r.2.2=0->0<=r.1∧r.1<=r.2.1∧r.2.1<=5000)) ?_ (fun r hr=>?_)
 ·unfold cL fI
  rw [dW ht,zc,if_neg sm,cr hb,zc,if_neg sm,eZ ha,zc,if_neg sm,e1,e2]
  simp only [zc]
  exact Ok.bind (lz ht _ _ n0 (lq hb _) om) (fun r hr=>Ok.ret hr)
 ·refine Ok.oT (fun h=>Ok.ret ⟨⟨fun h'=>(h h').elim,fun h'=>(h (hr.1.2 h')).elim⟩,fun h'=>(h h').elim⟩) (fun h=>Ok.ret ⟨⟨fun _=>hr.1.1 h,fun _=>rfl⟩,fun _=>?_⟩)
  have:=hr.2 h
  unfold dj
  simp only
  rw [w64 om om,w64 om om]
  exact⟨om,om,om⟩
end Go.Dw.Lt
set_option maxRecDepth 100000
set_option maxHeartbeats 4000000
namespace Go.Dw.Lt
open Go.Dw Go.Proofs
theorem Sub.ok{r b:ag}(hr:dN r)(hp:dg 20 r.aF)(h:Sub r b):dN b:=by
 obtain⟨-,h1,h2,h3⟩:=hr
 obtain⟨p1,p2,p3⟩:=hp
 obtain⟨x,y,z⟩:=h
 exact⟨⟨om,om,om⟩,om,om,om⟩
theorem Sub.refl{r:ag}(hr:dN r):Sub r r:=by
 obtain⟨-,h1,h2,h3⟩:=hr
 exact⟨om,om,om⟩
theorem Sub.low{r b:ag}(h:Sub r b):Sub r ⟨b.aF,b.aF⟩:=by
 obtain⟨x,y,z⟩:=h
 exact⟨⟨za,za,za⟩,⟨za,za,za⟩,⟨za,za,za⟩⟩
theorem Sub.high{r b:ag}(h:Sub r b):Sub r ⟨b.az,b.az⟩:=by
 obtain⟨x,y,z⟩:=h
 exact⟨⟨za,za,za⟩,⟨za,za,za⟩,⟨za,za,za⟩⟩
theorem within_at{r b:ag}(hr:dN r)(hp:dg 20 r.aF)(h:Sub r b):gN b r=some true:=by
 have hb:=h.ok hr hp
 obtain⟨pl,ph⟩:=gi hb
 have k:∀p,Sub r ⟨p,p⟩->dg 60 p->et r p=some true:=fun p⟨x,y,z⟩hq=>by
  unfold et
  rw [cr hr,zc,if_pos rfl,eZ hq,zc,if_pos rfl,(mA hr hq).1,zc]
  simp only at x y z
  have e1:ne p.fX r.aF.fX r.az.fX=0:=by unfold ne;omega
  have e2:ne p.fY r.aF.fY r.az.fY=0:=by unfold ne;omega
  have e3:ne p.fZ r.aF.fZ r.az.fZ=0:=by unfold ne;omega
  unfold kF
  rw [e1,e2,e3];rfl
 unfold gN
 rw [cr hb,zc,if_pos rfl,k _ h.low pl,zc,if_pos rfl,k _ h.high ph];rfl
theorem jq{a b:Int}(ha: -60<=a∧a<=b∧b<=60):bB a b=some (a+(b-a) / 2):=by
 unfold bB
 rw [w64 (n:=b-a) om om]
 have:pr .i64 (b-a) 2=some ((b-a) / 2):=by
  unfold pr
  rw [if_neg om,Int.tdiv_eq_ediv_of_nonneg om,w64 om om]
 rw [this,zc,w64 om om]
theorem center_ok{r b:ag}(hr:dN r)(hp:dg 20 r.aF)(h:Sub r b):Ok (ei b) (fun p=>Sub r ⟨p,p⟩):=by
 have hb:=h.ok hr hp
 obtain⟨⟨l1,l2,l3⟩,h1,h2,h3⟩:=gi hb
 obtain⟨x,y,z⟩:=h
 unfold ei bc bi
 rw [cr hb,zc,if_neg sm,zc,zc]
 simp only
 rw [jq om,zc,jq om,zc,jq om,zc]
 exact Ok.ret ⟨za,za,za⟩
def pts(b:ag):Int:=(b.az.fX-b.aF.fX+1)*(b.az.fY-b.aF.fY+1)*(b.az.fZ-b.aF.fZ+1)
theorem mul_in{x y m n:Int}(h1:1<=x∧x<=m)(h2:1<=y∧y<=n):1<=x*y∧x*y<=m*n:=
 ⟨Int.le_trans (by omega:(1:Int)<=1*1) (Int.mul_le_mul h1.1 h2.1 om om),Int.mul_le_mul h1.2 h2.2 om om⟩
theorem pts_in{b:ag}(h:dN b):1<=pts b∧pts b<=64:=by
 obtain⟨-,h1,h2,h3⟩:=h
 have k:=mul_in (mul_in (x:=b.az.fX-b.aF.fX+1) (y:=b.az.fY-b.aF.fY+1) (m:=4) (n:=4) om om) (y:=b.az.fZ-b.aF.fZ+1) (n:=4) om
 unfold pts
 omega
theorem points_at{b:ag}(h:dN b):gM b=some (pts b):=by
 have hp:=pts_in h
 obtain⟨hl,hh⟩:=gi h
 obtain⟨l1,l2,l3⟩:=hl
 obtain⟨h1,h2,h3⟩:=hh
 have hv:=cr h
 obtain⟨-,s1,s2,s3⟩:=h
 have k1:=mul_in (x:=b.az.fX-b.aF.fX+1) (y:=b.az.fY-b.aF.fY+1) (m:=4) (n:=4) om om
 unfold gM bc
 unfold pts at hp⊢
 rw [hv,zc,if_neg sm,zc,zc]
 simp only
 rw [w64 (n := b.az.fX - b.aF.fX) om om, w64 (n := b.az.fX - b.aF.fX + 1) om om, w64 (n := 1 * (b.az.fX - b.aF.fX + 1)) om om, Int.one_mul,
  w64 (n:=b.az.fY-b.aF.fY) om om,w64 (n:=b.az.fY-b.aF.fY+1) om om,w64 (n:=(b.az.fX-b.aF.fX+1)*(b.az.fY-b.aF.fY+1)) om om,
  w64 (n:=b.az.fZ-b.aF.fZ) om om,w64 (n:=b.az.fZ-b.aF.fZ+1) om om,w64 om om]
theorem one_side{x:Int}(h:1<=x){y z:Int}(hy:1<=y)(hz:1<=z)(hn:2<=x*y*z):2<=x∨2<=y∨2<=z:=by
 by_cases h1:x=1
 ·by_cases h2:y=1
  ·subst h1 h2;right;right;omega
  ·right;left;omega
 ·left;omega
theorem xj{r b:ag}(hr:dN r)(hp:dg 20 r.aF)(h:Sub r b):Ok (d4 b) (fun s=>s.2.2=true->Sub r s.1∧Sub r s.2.1∧pts s.1+pts s.2.1=pts b):=by
 have hb:=h.ok hr hp
 obtain⟨⟨l1,l2,l3⟩,h1,h2,h3⟩:=gi hb
 have hpt:=points_at hb
 obtain⟨-,s1,s2,s3⟩:=id hb
 obtain⟨x,y,z⟩:=h
 unfold d4 bc bi
 rw [hpt,zc]
 refine Ok.nS (fun _=>Ok.ret sm) (fun hn=>?_)
 have hbig:=one_side (x:=b.az.fX-b.aF.fX+1) (y:=b.az.fY-b.aF.fY+1) (z:=b.az.fZ-b.aF.fZ+1) om om om (by unfold pts at hn;omega)
 simp only [zc]
 rw [w64 (n:=b.az.fX-b.aF.fX) om om,w64 (n:=b.az.fY-b.aF.fY) om om,w64 (n:=b.az.fZ-b.aF.fZ) om om]
 have cX:2<=b.az.fX-b.aF.fX+1->Ok ((bB b.aF.fX b.az.fX).bind fun x17=>some (ag.mk b.aF (aa.mk x17 b.az.fY b.az.fZ),ag.mk (aa.mk (IntKind.wrap .i64 (x17+(1:Int))) b.aF.fY b.aF.fZ) b.az,true)) (fun s:ag×ag×Bool=>s.2.2=true->Sub r s.1∧Sub r s.2.1∧pts s.1+pts s.2.1=pts b):=fun h2=>by
  rw [jq om,zc,w64 om om]
  refine Ok.ret fun _=>⟨⟨za,za,za⟩,⟨za,za,za⟩,?_⟩
  unfold pts
  simp only
  rw [<-Int.add_mul, <-Int.add_mul]
  congr 2;omega
 have cY:2<=b.az.fY-b.aF.fY+1->Ok ((bB b.aF.fY b.az.fY).bind fun x10=>some (ag.mk b.aF (aa.mk b.az.fX x10 b.az.fZ),ag.mk (aa.mk b.aF.fX (IntKind.wrap .i64 (x10+(1:Int))) b.aF.fZ) b.az,true)) (fun s:ag×ag×Bool=>s.2.2=true->Sub r s.1∧Sub r s.2.1∧pts s.1+pts s.2.1=pts b):=fun h2=>by
  rw [jq om,zc,w64 om om]
  refine Ok.ret fun _=>⟨⟨za,za,za⟩,⟨za,za,za⟩,?_⟩
  unfold pts
  simp only
  rw [<-Int.add_mul, <-Int.mul_add]
  congr 2;omega
 have cZ:2<=b.az.fZ-b.aF.fZ+1->Ok ((bB b.aF.fZ b.az.fZ).bind fun x7=>some (ag.mk b.aF (aa.mk b.az.fX b.az.fY x7),ag.mk (aa.mk b.aF.fX b.aF.fY (IntKind.wrap .i64 (x7+(1:Int)))) b.az,true)) (fun s:ag×ag×Bool=>s.2.2=true->Sub r s.1∧Sub r s.2.1∧pts s.1+pts s.2.1=pts b):=fun h2=>by
  rw [jq om,zc,w64 om om]
  refine Ok.ret fun _=>⟨⟨za,za,za⟩,⟨za,za,za⟩,?_⟩
  unfold pts
  simp only
  rw [<-Int.mul_add]
  congr 1;omega
 exact Ok.nS (fun _=>Ok.nS (fun _=>cZ om) (fun _=>cY om)) (fun _=>Ok.nS (fun _=>cZ om) (fun _=>cX om))
theorem hull_ok{r a b:ag}(hr:dN r)(hp:dg 20 r.aF)(ha:Sub r a)(hb:Sub r b):Ok (jc a b) (Sub r):=by
 unfold jc bc bi
 rw [cr (ha.ok hr hp),zc,if_neg sm,cr (hb.ok hr hp),zc,if_neg sm]
 simp only [zc]
 obtain⟨a1,a2,a3⟩:=ha
 obtain⟨b1,b2,b3⟩:=hb
 exact Ok.ret ⟨by simp only;split<;>split<;>omega,by simp only;split<;>split<;>omega,by simp only;split<;>split<;>omega⟩
end Go.Dw.Lt
set_option maxRecDepth 100000
set_option maxHeartbeats 4000000
namespace Go.Dw.Lt
open Go.Dw Go.Proofs
theorem or_some(l:List Int)(hl:l.length<1000):∃r,cp l=some r:=by
 unfold cp
 have:=Sd.or_go (l:=l) (n:=0) (r:=l) hl om sm
 rw [show((0:Int))=((0:Nat):Int)from rfl,this]
 cases l.find? fun x=>decide (x≠0)<;>exact⟨_,rfl⟩
structure PV(q:ae):Prop where
 box:dN q.aG
 reg:dg 20 q.aG.aF
 tab:ly q.aS
 len:1<=q.aN.length∧q.aN.length<=64
 cap:1<=q.bN∧q.bN<=1000
 ph:∀a∈q.aN,PhV a∧Reach q.aS (lf q.aG a.aM)
theorem sub_zone{q:ae}(hq:PV q){b:ag}(h:Sub q.aG b){a:aC}(ha:a∈q.aN):Ok (cf q.aS b a) (fun r=>r.2=0∧dj r.1):=by
 obtain⟨hv,hr⟩:=hq.ph a ha
 refine(zone_ok hq.tab (h.ok hq.box hq.reg) hv).mono fun r hr'=>?_
 have:r.2=0:=hr'.1.2 (Int.le_trans (nC h _) hr)
 exact⟨this,hr'.2 this⟩
theorem kQ{q:ae}(hq:PV q):fF q=some 0:=by
 have hl:=hq.len;have hc:=hq.cap
 refine Ok.eq ?_
 unfold fF
 rw [cr hq.box,zc,if_neg sm,dW hq.tab,zc,if_neg sm]
 refine Ok.pT (fun h=>om) (fun _=>Ok.nS (fun h=>om) (fun _=>Ok.nS (fun h=>om) (fun _=>Ok.nS (fun h=>om) (fun _=>?_))))
 refine Ok.bind (P:=fun o=>o= .inl ()) (Ok.upto q.aN.length om (fun _=>True) trivial (fun i h0 h1 _=>?_)) (fun o ho=>by subst ho;exact Ok.ret rfl)
 unfold jD
 refine Ok.nS (fun hlt=>?_) (fun _=>Ok.st rfl)
 refine Ok.bind (Ok.get om om) (fun a ha=>?_)
 refine Ok.bind (sub_zone hq (Sub.refl hq.box) ha.1) (fun z hz=>?_)
 refine Ok.oT (fun h=>(h hz.1).elim) (fun _=>?_)
 rw [w64 om om]
 exact Ok.nx ⟨⟨om,om⟩,trivial⟩ om
theorem zones_ok{q:ae}(hq:PV q){b:ag}(h:Sub q.aG b):Ok (fx q b) (fun r=>r.2=0∧r.1.length=q.aN.length∧∀z∈r.1,dj z):=by
 have hl:=hq.len
 unfold fx
 rw [kQ hq,zc,if_neg sm,within_at hq.box hq.reg h,zc,if_neg sm]
 refine Ok.bind ?_ (fun r hr=>Ok.ret hr)
 unfold jI
 refine Ok.bind (Ok.mkC om om om om) (fun x hx=>?_)
 subst hx
 refine Ok.bind (P:=fun o=>∃l,o= .inl l∧l.length=q.aN.length∧∀z∈l,dj z) (Ok.loop (fun s:Int×List al=>(0<=s.1∧s.1<=q.aN.length)∧s.2.length=s.1.toNat∧∀z∈s.2,dj z) (fun s=>((q.aN.length:Int)-s.1).toNat) ?_ ⟨⟨sm,sm⟩,sm,sm⟩) (fun o⟨l,ho,h1,h2⟩=>by subst ho;exact Ok.ret ⟨rfl,h1,h2⟩)
 rintro⟨s2,s3⟩ ⟨⟨i0,i1⟩,i2,i3⟩
 simp only at i0 i1 i2 i3
 unfold iO
 refine Ok.nS (fun hlt=>?_) (fun _=>Ok.st ⟨s3,rfl,om,i3⟩)
 refine Ok.bind (Ok.get om om) (fun a ha=>?_)
 refine Ok.bind (sub_zone hq h ha.1) (fun z hz=>?_)
 refine Ok.oT (fun h=>(h hz.1).elim) (fun _=>?_)
 refine Ok.bind (Ok.app (by simp only [List.length_cons,List.length_nil];omega)) (fun y hy=>?_)
 subst hy
 rw [w64 om om]
 refine Ok.nx ⟨⟨za,za⟩,by simp only [List.length_append,List.length_cons,List.length_nil];omega,fun z' hz'=>?_⟩ za
 rcases List.mem_append.1 hz' with h|h
 ·exact i3 z' h
 ·rw [List.mem_singleton.1 h];exact hz.2
theorem cost_ok{q:ae}(hq:PV q)(l:List al)(t:Int):Ok (f4 q l t) (fun r=>(∀z∈l,dj z∧z.aT<=t∧t<=z.fTo)->r=0):=by
 have hl:=hq.len;have hc:=hq.cap
 unfold f4
 refine Ok.bind (P:=fun o=>(∀z∈l,dj z∧z.aT<=t∧t<=z.fTo)->o=0) (Ok.loop (fun s:Int×Int=>(0<=s.2∧s.2<=q.aN.length)∧((∀z∈l,dj z∧z.aT<=t∧t<=z.fTo)->s.1=0)) (fun s=>((q.aN.length:Int)-s.2).toNat) ?_ ⟨⟨sm,sm⟩,fun _=>rfl⟩) (fun o ho=>Ok.ret ho)
 rintro⟨s1,s2⟩ ⟨⟨i0,i1⟩,i2⟩
 simp only at i0 i1 i2
 unfold js
 refine Ok.nS (fun hlt=>?_) (fun _=>Ok.st i2)
 refine Ok.bind (Ok.get om om) (fun a ha=>?_)
 refine Ok.nS (fun hlz=>?_) (fun _=>?_)
 ·refine Ok.bind (Ok.get om om) (fun z hz=>?_)
  unfold fE
  rw [zc,w64 (n:=s2+1) om om]
  refine Ok.nx ⟨⟨za,za⟩,fun hall=>?_⟩ za
  obtain⟨⟨z1,z2,z3⟩,z4,z5⟩:=hall z hz.1
  have i2:=i2 hall
  simp only
  rw [w64 (n:=t-z.fTo) om om,w64 (n:=z.aT-t) om om]
  have e:(if(0:Int)>(if t-z.fTo>z.aT-t then t-z.fTo else z.aT-t)then(0:Int)else(if t-z.fTo>z.aT-t then t-z.fTo else z.aT-t))=0:=by
   split<;>split<;>omega
  rw [e,if_pos om,i2]
  simp [w64]
 ·rw [w64 om om]
  exact Ok.nx ⟨⟨za,za⟩,i2⟩ za
theorem best_ok{q:ae}(hq:PV q){l:List al}(hl:1<=l.length∧l.length<=64):Ok (fW q l) (fun r=>(∃z,l=[z]∧dj z)->r.2=0):=by
 have hzero:∀t,(∃z∈l,t=z.aT∨t=z.fTo)->(∃z,l=[z]∧dj z)->∀z∈l,dj z∧z.aT<=t∧t<=z.fTo:=by
  rintro t ⟨y,hy,ht⟩ ⟨z,rfl,hz⟩ x hx
  rw [List.mem_singleton]at hx hy
  subst hx hy
  obtain⟨z1,z2,z3⟩:=hz
  exact⟨⟨z1,z2,z3⟩,om,om⟩
 unfold fW
 rw [w64 (n:=2*(l.length:Int)) om om]
 refine Ok.bind (Ok.mkC om om om om) (fun x hx=>?_)
 subst hx
 refine Ok.bind (P:=fun o:List Int=>o.length=2*l.length∧∀t∈o,∃z∈l,t=z.aT∨t=z.fTo) (Ok.loop (fun s:Int×List Int=>(0<=s.1∧s.1<=l.length)∧s.2.length=2*s.1.toNat∧∀t∈s.2,∃z∈l,t=z.aT∨t=z.fTo) (fun s=>((l.length:Int)-s.1).toNat) ?_ ⟨⟨sm,sm⟩,sm,sm⟩) (fun o ho=>?_)
 ·rintro⟨s2,s3⟩ ⟨⟨i0,i1⟩,i2,i3⟩
  simp only at i0 i1 i2 i3
  unfold kc
  refine Ok.nS (fun hlt=>?_) (fun _=>Ok.st ⟨om,i3⟩)
  refine Ok.bind (Ok.get om om) (fun z hz=>?_)
  refine Ok.bind (Ok.app (by simp only [List.length_cons,List.length_nil];omega)) (fun y hy=>?_)
  subst hy
  rw [w64 om om]
  refine Ok.nx ⟨⟨za,za⟩,by simp only [List.length_append,List.length_cons,List.length_nil];omega,fun t ht=>?_⟩ za
  rcases List.mem_append.1 ht with h|h
  ·exact i3 t h
  ·simp only [List.mem_cons,List.not_mem_nil,or_false]at h
   exact⟨z,hz.1,h⟩
 ·obtain⟨h1,h2⟩:=ho
  refine Ok.pT (fun h=>om) (fun _=>?_)
  refine Ok.bind (Ok.pf om om) (fun _ _=>Ok.bind (Ok.get om om) (fun x14 g14=>?_))
  refine Ok.bind (Ok.pf om om) (fun _ _=>Ok.bind (Ok.get om om) (fun x17 g17=>?_))
  refine Ok.bind (cost_ok hq l x17) (fun c hc=>?_)
  refine Ok.bind (Ok.sub om om om) (fun _ _=>?_)
  refine Ok.bind (Ok.lenv om om) (fun n hn=>?_)
  refine Ok.bind (P:=fun o=>(∃z,l=[z]∧dj z)->o.2=0) (Ok.loop (fun s:Int×Int×Int=>(0<=s.2.2∧s.2.2<=n)∧((∃z,l=[z]∧dj z)->s.2.1=0)) (fun s=>(n-s.2.2).toNat) ?_ ⟨⟨sm,za⟩,fun h=>hc (hzero _ (h2 _ g17.1) h)⟩) (fun o ho=>Ok.ret ho)
  rintro⟨s1,s2,s3⟩ ⟨⟨i0,i1⟩,i2⟩
  simp only at i0 i1 i2
  unfold jr
  refine Ok.nS (fun hlt=>?_) (fun _=>Ok.st i2)
  refine Ok.bind (Ok.inv om om om) (fun _ _=>?_)
  refine Ok.bind (Ok.get om om) (fun x29 g29=>?_)
  refine Ok.bind (cost_ok hq l x29) (fun c' hc'=>?_)
  rw [w64 om om]
  have hz:(∃z,l=[z]∧dj z)->c'=0:=fun h=>hc' (hzero _ (h2 _ g29.1) h)
  have A:∀(u v:Int),((∃z,l=[z]∧dj z)->v=0)->Ok (some (.next (u,v,s3+1)):Option (nX (Int×Int×Int) (Int×Int))) (Ok.S (fun s:Int×Int×Int=>(0<=s.2.2∧s.2.2<=n)∧((∃z,l=[z]∧dj z)->s.2.1=0)) (fun s=>(n-s.2.2).toNat) (fun o=>(∃z,l=[z]∧dj z)->o.2=0) (s1,s2,s3)):=fun u v h=>Ok.nx ⟨⟨za,za⟩,h⟩ za
  exact Ok.nS (fun _=>A _ _ hz) (fun _=>Ok.pT (fun _=>Ok.nS (fun _=>A _ _ hz) (fun _=>A _ _ i2)) (fun _=>A _ _ i2))
def Single(q:ae):Prop:=q.aN.length=1
theorem single_zone{q:ae}(h:Single q){l:List al}(hl:l.length=q.aN.length)(hz:∀z∈l,dj z):∃z,l=[z]∧dj z:=by
 rw [h]at hl
 match l,hl with
 | [z],_=>exact⟨z,rfl,hz z sm⟩
theorem bound_ok{q:ae}(hq:PV q){b:ag}(h:Sub q.aG b):Ok (dL q b) (fun r=>r.2=0):=by
 unfold dL
 refine Ok.bind (zones_ok hq h) (fun r hr=>?_)
 refine Ok.oT (fun h=>(h hr.1).elim) (fun _=>?_)
 exact Ok.bind (best_ok hq (by rw [hr.2.1];exact hq.len)) (fun _ _=>Ok.ret rfl)
theorem at_ok{q:ae}(hq:PV q){p:aa}(h:Sub q.aG ⟨p,p⟩):Ok (eY q p) (fun r=>r.2.2=0∧(Single q->r.2.1=0)):=by
 unfold eY
 refine Ok.bind (zones_ok hq h) (fun r hr=>?_)
 refine Ok.oT (fun h=>(h hr.1).elim) (fun _=>?_)
 exact Ok.bind (best_ok hq (by rw [hr.2.1];exact hq.len)) (fun s hs=>Ok.ret ⟨rfl,fun h1=>hs (single_zone h1 hr.2.1 hr.2.2)⟩)
theorem compare_ok(a b:aa):Ok (gj a b) (fun _=>True):=by
 unfold gj
 rw [Sd.kz,zc,Sd.kz,zc,Sd.kz,zc]
 obtain⟨r,e⟩:=or_some [rV a.fX b.fX,rV a.fY b.fY,rV a.fZ b.fZ] sm
 rw [e]
 exact Ok.ret trivial
end Go.Dw.Lt
set_option maxRecDepth 100000
set_option maxHeartbeats 4000000
namespace Go.Dw.Lt
open Go.Dw Go.Proofs
abbrev Item:=ah
theorem less_ok{d:List Item}{i j:Int}(hi:0<=i∧i<d.length)(hj:0<=j∧j<d.length):Ok (fe i j d) (fun r=>r.2=d):=by
 unfold fe
 refine Ok.bind (Ok.pf hi.1 hi.2) (fun _ _=>Ok.bind (Ok.get hi.1 hi.2) (fun a _=>?_))
 refine Ok.bind (Ok.pf hj.1 hj.2) (fun _ _=>Ok.bind (Ok.get hj.1 hj.2) (fun b _=>?_))
 rw [Sd.kz,zc]
 refine Ok.bind (Ok.pf hi.1 hi.2) (fun _ _=>Ok.bind (Ok.get hi.1 hi.2) (fun a' _=>?_))
 refine Ok.bind (Ok.pf hj.1 hj.2) (fun _ _=>Ok.bind (Ok.get hj.1 hj.2) (fun b' _=>?_))
 rw [Sd.kz,zc]
 obtain⟨r,e⟩:=or_some [rV a.bQ b.bQ,rV a'.er b'.er] sm
 rw [e]
 exact Ok.ret rfl
theorem swap_ok{d:List Item}{i j:Int}(hi:0<=i∧i<d.length)(hj:0<=j∧j<d.length):
  Ok (f7 i j d) (fun r=>r.Perm d∧(r[j.toNat]? =d[i.toNat]?)∧∀k:Nat,k≠i.toNat->k≠j.toNat->r[k]? =d[k]?):=by
 unfold f7
 refine Ok.bind (Ok.pf hj.1 hj.2) (fun _ _=>Ok.bind (Ok.get hj.1 hj.2) (fun a ga=>?_))
 refine Ok.bind (Ok.pf hi.1 hi.2) (fun _ _=>Ok.bind (Ok.get hi.1 hi.2) (fun b gb=>?_))
 refine Ok.bind (Ok.pf hi.1 hi.2) (fun _ _=>Ok.bind (Ok.set hi.1 hi.2) (fun e he=>?_))
 subst he
 refine Ok.bind (Ok.pf hj.1 (by simpa using hj.2)) (fun _ _=>Ok.bind (Ok.set hj.1 (by simpa using hj.2)) (fun e he=>?_))
 subst he
 have h1:i.toNat<d.length:=by omega
 have h2:j.toNat<d.length:=by omega
 obtain⟨_,rfl⟩:=List.getElem?_eq_some_iff.1 ga.2
 obtain⟨_,rfl⟩:=List.getElem?_eq_some_iff.1 gb.2
 refine Ok.ret ⟨List.set_set_perm h1 h2,?_,fun k k1 k2=>?_⟩
 ·rw [List.getElem?_set_self (by simpa using h2),zd h1]
 ·rw [List.getElem?_set_ne (Ne.symm k2),List.getElem?_set_ne (Ne.symm k1)]
theorem up_ok{q:ae}{a b:Int}{f:Bool}{l:ai}{d:List Item}{j:Int}(hj:0<=j∧j<d.length)(hd:d.length<=1000):Ok (lC j q a b f l d) (fun r=>r.Perm d):=by
 unfold lC
 refine Ok.bind (P:=fun o:List Item=>o.Perm d) (Ok.loop (fun s:Int×List Item=>(0<=s.1∧s.1<d.length)∧s.2.Perm d) (fun s=>s.1.toNat) ?_ ⟨hj,List.Perm.refl _⟩) (fun o ho=>Ok.ret ho)
 rintro⟨s1,s2⟩ ⟨⟨i0,i1⟩,i2⟩
 simp only at i0 i1 i2
 have hlen:s2.length=d.length:=i2.length_eq
 unfold kC
 dsimp only
 rw [w64 (n:=s1-1) om om]
 have e:pr .i64 (s1-1) 2=some (if s1=0 then 0 else(s1-1) / 2):=by
  unfold pr
  rw [if_neg om]
  split
  ·rename_i h;subst h;rfl
  ·rw [Int.tdiv_eq_ediv_of_nonneg om,w64 om om]
 rw [e,zc]
 refine Ok.pT (fun _=>by rw [zc];exact Ok.st i2) (fun hne=>?_)
 have hp:s1≠0:=fun h=>hne (by rw [if_pos h,h])
 rw [if_neg hp]
 refine Ok.bind (less_ok om om) (fun x hx=>?_)
 rw [hx]
 refine Ok.tu (fun _=>by rw [zc];exact Ok.st i2) (fun _=>?_)
 exact Ok.bind (swap_ok om om) (fun y hy=>Ok.nx ⟨⟨za,za⟩,hy.1.trans i2⟩ za)
theorem down_ok{q:ae}{a b:Int}{f:Bool}{l:ai}{d:List Item}{n:Int}(hn:0<=n∧n<d.length)(hd:d.length<=1000):Ok (jO 0 n q a b f l d) (fun r=>r.2.Perm d∧r.2[n.toNat]? =d[n.toNat]?):=by
 unfold jO
 refine Ok.bind (P:=fun o:Int×List Item=>o.2.Perm d∧o.2[n.toNat]? =d[n.toNat]?) (Ok.loop (fun s:Int×List Item=>(0<=s.1∧s.1<=n)∧s.2.Perm d∧s.2[n.toNat]? =d[n.toNat]?) (fun s=>(n-s.1).toNat) ?_ ⟨⟨sm,hn.1⟩,List.Perm.refl _,rfl⟩) (fun o ho=>Ok.ret ho)
 rintro⟨s1,s2⟩ ⟨⟨i0,i1⟩,i2,i3⟩
 simp only at i0 i1 i2 i3
 have hlen:s2.length=d.length:=i2.length_eq
 unfold kX
 dsimp only
 rw [w64 (n:=2*s1) om om,w64 (n:=2*s1+1) om om,w64 (n:=2*s1+1+1) om om]
 refine Ok.nS (fun _=>Ok.st ⟨i2,i3⟩) (fun h1=>Ok.nS (fun _=>Ok.st ⟨i2,i3⟩) (fun _=>?_))
 have K:∀j,s1<j->j<n->Ok (dQ s1 j s2) (Ok.S (fun s:Int×List Item=>(0<=s.1∧s.1<=n)∧s.2.Perm d∧s.2[n.toNat]? =d[n.toNat]?) (fun s=>(n-s.1).toNat) (fun o:Int×List Item=>o.2.Perm d∧o.2[n.toNat]? =d[n.toNat]?) (s1,s2)):=fun j j0 j1=>by
  unfold dQ
  refine Ok.bind (less_ok om om) (fun x hx=>?_)
  rw [hx]
  refine Ok.tu (fun _=>Ok.st ⟨i2,i3⟩) (fun _=>?_)
  exact Ok.bind (swap_ok om om) (fun y hy=>Ok.nx ⟨⟨za,za⟩,hy.1.trans i2,by rw [<-i3];exact hy.2.2 _ om om⟩ za)
 refine Ok.nS (fun h2=>?_) (fun _=>K _ om om)
 refine Ok.bind (less_ok om om) (fun x hx=>?_)
 rw [hx]
 exact Ok.u6 (fun _=>K _ om om) (fun _=>K _ om om)
theorem pop_ok{q:ae}{a b:Int}{f:Bool}{l:ai}{x:Item}{d:List Item}(hd:(x::d).length<=1000):Ok (lg q a b f l (x::d)) (fun r=>r.2.Perm d):=by
 have hlen:((x::d).length:Int)=d.length+1:=by simp
 simp only [List.length_cons]at hd
 unfold lg eK
 rw [zc]
 dsimp only
 rw [hlen,w64 (n:=(d.length:Int)+1-1) om om]
 refine Ok.bind (swap_ok om om) (fun y⟨p1,p2,_⟩=>?_)
 have hy:y.length=d.length+1:=by have:=p1.length_eq;simpa using this
 refine Ok.bind (down_ok om om) (fun z⟨z1,z2⟩=>?_)
 have hz:z.2.length=d.length+1:=by rw [z1.length_eq,hy]
 unfold mH
 rw [hz,w64 (n:=((d.length+1:Nat):Int)-1) om om]
 refine Ok.bind (P:=fun r:Item×List Item=>r.2.Perm d) ?_ (fun r hr=>Ok.ret hr)
 refine Ok.bind (Ok.pf om om) (fun _ _=>Ok.bind (Ok.get om om) (fun w _=>?_))
 refine Ok.bind (Ok.sub om om om) (fun _ _=>Ok.ret ?_)
 simp only
 rw [show(((d.length+1:Nat):Int)-1).toNat=d.length by omega]
 have e:z.2[d.length]? =some x:=by
  rw [show((d.length:Int)+1-1).toNat=d.length by omega]at z2 p2
  rw [z2,p2];rfl
 obtain⟨hh,e⟩:=List.getElem?_eq_some_iff.1 e
 have h3:z.2=z.2.take d.length++[x]:=by
  conv=>lhs;rw [<-List.take_append_drop d.length z.2]
  rw [List.drop_eq_getElem_cons hh,e,List.drop_of_length_le om]
 have h4:(z.2.take d.length++[x]).Perm (x::d):=by rw [<-h3];exact z1.trans p1
 have h5:(x::z.2.take d.length).Perm (x::d):=(List.perm_append_comm (l₁:=[x])).trans h4
 exact(List.perm_cons x).1 h5
theorem push_ok{q:ae}{a b:Int}{f:Bool}{l:ai}{x:Item}{d:List Item}(hd:d.length<=500):Ok (iK x q a b f l d) (fun r=>r.Perm (x::d)):=by
 unfold iK kG eK
 refine Ok.bind (P:=fun r=>r=d++[x]) (Ok.bind (Ok.app (by simp only [List.length_cons,List.length_nil];omega)) (fun r hr=>Ok.ret hr)) (fun y hy=>?_)
 subst hy
 rw [zc]
 dsimp only
 have hl:((d++[x]).length:Int)=d.length+1:=by simp
 rw [hl,w64 om om]
 exact Ok.bind (up_ok om so) (fun r hr=>Ok.ret (hr.trans (List.perm_append_comm (l₂:=[x]))))
theorem push1_ok{q:ae}{a b:Int}{f:Bool}{l:ai}{x:Item}:Ok (jN x q a b f l) (fun r=>r.Perm [x]):=by
 unfold jN lJ eK
 refine Ok.bind (P:=fun r=>r=[x]) (Ok.bind (Ok.app sm) (fun r hr=>Ok.ret hr)) (fun y hy=>?_)
 subst hy
 rw [zc]
 dsimp only
 rw [w64 sm sm]
 exact Ok.bind (up_ok sm sm) (fun r hr=>Ok.ret hr)
def cnt:List Item->Int
 | []=>0
 |x::l=>(2*pts x.gU-1)+cnt l
theorem jh{l m:List Item}(h:l.Perm m):cnt l=cnt m:=by
 induction h with
 |nil=>rfl
 |cons x _ ih=>simp only [cnt,ih]
 |swap x y l=>simp only [cnt];omega
 |trans _ _ h1 h2=>rw [h1,h2]
def jy(r:ag)(l:List Item):Prop:=∀x∈l,Sub r x.gU
theorem jy.perm{r:ag}{l m:List Item}(h:jy r m)(hp:l.Perm m):jy r l:=fun x hx=>h x (hp.mem_iff.1 hx)
theorem cnt_len{q:ae}(hq:PV q){l:List Item}(h:jy q.aG l):(l.length:Int)<=cnt l:=by
 induction l with
 |nil=>simp [cnt]
 |cons x l ih=>
  have h1:=ih fun y hy=>h y (List.mem_cons_of_mem _ hy)
  have h2:=(pts_in ((h x sm).ok hq.box hq.reg)).1
  simp only [cnt,List.length_cons];omega
def Good(q:ae)(l:ai):Prop:=Sub q.aG ⟨l.bp,l.bp⟩∧(Single q->l.aZ=0)
theorem add_ok{q:ae}(hq:PV q){b:ag}(hb:Sub q.aG b){n k:Int}{f:Bool}{l:ai}{d:List Item}(hd:d.length<=500):Ok (f9 b q n k f l d) (fun r=>r.1=0∧∃x:Item,x.gU=b∧r.2.2.Perm (x::d)):=by
 unfold f9 gc
 refine Ok.bind (bound_ok hq hb) (fun x hx=>?_)
 refine Ok.pT (fun _=>?_) (fun h=>(h hx).elim)
 exact Ok.bind (push_ok hd) (fun r hr=>Ok.ret ⟨hx,_,rfl,hr⟩)
theorem add1_ok{q:ae}(hq:PV q){b:ag}(hb:Sub q.aG b){n k:Int}{f:Bool}{l:ai}:Ok (iW b q n k f l) (fun r=>r.1=0∧∃x:Item,x.gU=b∧r.2.1.Perm [x]):=by
 unfold iW gK
 refine Ok.bind (bound_ok hq hb) (fun x hx=>?_)
 refine Ok.pT (fun _=>?_) (fun h=>(h hx).elim)
 exact Ok.bind push1_ok (fun r hr=>Ok.ret ⟨hx,_,rfl,hr⟩)
theorem look_ok{q:ae}(hq:PV q){b:ag}(hb:Sub q.aG b){n k:Int}{f:Bool}{l:ai}{d:List Item}(hf:f=true->Good q l):Ok (ia b q n k f l d) (fun r=>r.1=0∧r.2.1=true∧Good q r.2.2):=by
 unfold ia
 refine Ok.bind (center_ok hq.box hq.reg hb) (fun p hp=>?_)
 refine Ok.bind (at_ok hq hp) (fun x hx=>?_)
 refine Ok.oT (fun h=>(h hx.1).elim) (fun _=>?_)
 have hg:Good q (ai.mk p x.1 x.2.1 0 (ag.mk (aa.mk 0 0 0) (aa.mk 0 0 0))):=⟨hp,hx.2⟩
 refine Ok.tu (fun _=>Ok.ret ⟨rfl,rfl,hg⟩) (fun hft=>?_)
 refine Ok.nS (fun _=>Ok.ret ⟨rfl,rfl,hg⟩) (fun _=>Ok.pT (fun _=>?_) (fun _=>Ok.ret ⟨rfl,hft,hf hft⟩))
 exact Ok.bind (compare_ok _ _) (fun c _=>Ok.nS (fun _=>Ok.ret ⟨rfl,rfl,hg⟩) (fun _=>Ok.ret ⟨rfl,hft,hf hft⟩))
theorem ended_ok{t:Int}{q:ae}{n k:Int}{f:Bool}{l:ai}{d:List Item}:Ok (gt t q n k f l d) (fun r=>(r=false->d≠ [])∧(r=true->d=[]∨f=true)):=by
 unfold gt
 refine Ok.pT (fun h=>Ok.ret ⟨fun h=>by simp at h,fun _=>.inl (List.length_eq_zero_iff.1 om)⟩) (fun h=>?_)
 have hd:d≠ []:=fun e=>h (by rw [e];rfl)
 have:=List.length_pos_iff.2 hd
 refine Ok.u6 (fun hf=>?_) (fun _=>Ok.ret ⟨fun _=>hd,fun h=>by simp at h⟩)
 exact Ok.bind (Ok.pf om om) (fun _ _=>Ok.bind (Ok.get om om) (fun _ _=>Ok.ret ⟨fun _=>hd,fun _=>.inr hf⟩))
theorem step_ok{q:ae}(hq:PV q){n k:Int}{f:Bool}{l:ai}{d:List Item}(hd:d≠ [])(ho:jy q.aG d)(hk:0<=k∧k+cnt d<=200)(hf:f=true->Good q l):
  Ok (ib q n k f l d) (fun r=>r.1=0∧r.2.2.1=k+1∧r.2.2.2.1=true∧Good q r.2.2.2.2.1∧jy q.aG r.2.2.2.2.2∧r.2.2.2.2.2.length<=d.length+1∧k+1+cnt r.2.2.2.2.2<=k+cnt d):=by
 match d,hd with
 |x::d,_=>
  have hlen:=cnt_len hq ho
  have hx:=ho x sm
  have ho':jy q.aG d:=fun y hy=>ho y (List.mem_cons_of_mem _ hy)
  have hpx:=pts_in (hx.ok hq.box hq.reg)
  simp only [List.length_cons]at hlen
  unfold ib
  refine Ok.pT (fun h=>om) (fun _=>?_)
  refine Ok.bind (Ok.pf om sm) (fun _ _=>?_)
  rw [show nZ (x::d) (0:Int)=some x from rfl,zc]
  refine Ok.bind (pop_ok (by simp only [List.length_cons];omega)) (fun y hy=>?_)
  have hyl:y.2.length=d.length:=hy.length_eq
  have hyo:jy q.aG y.2:=ho'.perm hy
  have hyc:cnt y.2=cnt d:=jh hy
  have hcx:cnt (x::d)=(2*pts x.gU-1)+cnt d:=rfl
  rw [w64 om om]
  refine Ok.bind (look_ok hq hx hf) (fun z hz=>?_)
  refine Ok.oT (fun h=>(h hz.1).elim) (fun _=>?_)
  refine Ok.bind (xj hq.box hq.reg hx) (fun s hs=>?_)
  refine Ok.tu (fun _=>Ok.ret ⟨rfl,rfl,hz.2.1,hz.2.2,hyo,so,za⟩) (fun hst=>?_)
  obtain⟨s1,s2,s3⟩:=hs hst
  refine Ok.bind (add_ok hq s1 om) (fun u⟨u1,a,ua,up⟩=>?_)
  refine Ok.oT (fun h=>(h u1).elim) (fun _=>?_)
  have hul:u.2.2.length=d.length+1:=by rw [up.length_eq];simp [hyl]
  refine Ok.bind (add_ok hq s2 om) (fun v⟨v1,b,vb,vp⟩=>Ok.ret ⟨v1,rfl,hz.2.1,hz.2.2,?_,?_,?_⟩)
  ·refine jy.perm (fun w hw=>?_) vp
   rcases List.mem_cons.1 hw with rfl|hw
   ·rw [vb];exact s2
   ·rcases List.mem_cons.1 (up.mem_iff.1 hw)with rfl|hw
    ·rw [ua];exact s1
    ·exact hyo w hw
  ·simp only
   rw [vp.length_eq];simp only [List.length_cons];omega
  ·simp only
   rw [jh vp,hcx]
   simp only [cnt]
   rw [jh up]
   simp only [cnt]
   rw [ua,vb];omega
theorem run_ok{q:ae}(hq:PV q){t:Int}(ht:0<=t):Ok (fU q t) (fun r=>r.2=0∧∃s,r.1=some s∧Good q s.bC∧jy q.aG s.im∧s.im.length<=200):=by
 have hpr:=pts_in hq.box
 unfold fU
 rw [kQ hq,zc,if_neg sm,if_neg so]
 refine Ok.bind (add1_ok hq (Sub.refl hq.box)) (fun x⟨x1,a,xa,xp⟩=>?_)
 refine Ok.oT (fun h=>(h x1).elim) (fun _=>?_)
 have hxc:cnt x.2.1=2*pts q.aG-1:=by rw [jh xp];simp only [cnt];rw [xa];omega
 have hxo:jy q.aG x.2.1:=jy.perm (fun w hw=>by rw [List.mem_singleton.1 hw,xa];exact Sub.refl hq.box) xp
 refine Ok.bind (P:=fun o=>∃y,o= .inl y∧Good q y.2.2.2.2∧jy q.aG y.1∧y.1.length<=200) (Ok.loop (fun s:Int×Int×Bool×ai×List Item=>(0<=s.2.1∧s.2.1+cnt s.2.2.2.2<=200)∧jy q.aG s.2.2.2.2∧(s.2.2.1=true->Good q s.2.2.2.1)∧(s.2.2.2.2=[]->s.2.2.1=true)) (fun s=>(200-s.2.1).toNat) ?_ ⟨⟨sm,za⟩,hxo,sm,fun h=>?_⟩) (fun o⟨y,ho,h1,h2,h3⟩=>by subst ho;exact Ok.ret ⟨rfl,_,rfl,h1,h2,h3⟩)
 ·rintro⟨s6,s7,s8,s9,s10⟩ ⟨⟨i0,i1⟩,i2,i3,i4⟩
  simp only at i0 i1 i2 i3 i4
  have hl:=cnt_len hq i2
  unfold ir
  dsimp only
  refine Ok.bind ended_ok (fun e he=>?_)
  refine Ok.tu (fun hef=>?_) (fun het=>Ok.st ⟨_,rfl,?_,i2,za⟩)
  ·have hne:=he.1 hef
   have:=List.length_pos_iff.2 hne
   refine Ok.bind (step_ok hq hne i2 ⟨i0,i1⟩ i3) (fun r⟨r1,r2,r3,r4,r5,r6,r7⟩=>?_)
   refine Ok.oT (fun h=>(h r1).elim) (fun _=>?_)
   exact Ok.nx ⟨⟨za,za⟩,r5,fun _=>r4,fun _=>r3⟩ za
  ·refine i3 ?_
   rcases he.2 het with h|h
   ·exact i4 h
   ·exact h
 ·simp only at h
  rw [h]at hxc
  simp only [cnt]at hxc;omega
theorem locate_ok{q:ae}(hq:PV q){t:Int}(ht:0<=t):Ok (eJ q t) (fun r=>r.2=0∧Sub q.aG r.1.bK∧(Single q->r.1.aZ=0)):=by
 unfold eJ
 refine Ok.bind (run_ok hq ht) (fun x⟨x1,s,xs,⟨g1,g2⟩,ho,hs⟩=>?_)
 rw [xs]
 show Ok (if(x.2 != (0:Int))=true then _ else _) _
 refine Ok.oT (fun h=>(h x1).elim) (fun _=>?_)
 refine Ok.bind (P:=fun o:Int×ag=>Sub q.aG o.2) (Ok.loop (fun u:Int×Int×ag=>(0<=u.1∧u.1<=s.im.length)∧Sub q.aG u.2.2) (fun u=>((s.im.length:Int)-u.1).toNat) ?_ ⟨⟨sm,sm⟩,g1⟩) (fun o ho=>Ok.ret ⟨rfl,ho,g2⟩)
 rintro⟨u1,u2,u3⟩ ⟨⟨i0,i1⟩,i2⟩
 simp only at i0 i1 i2
 unfold iq
 refine Ok.nS (fun hlt=>?_) (fun _=>Ok.st i2)
 refine Ok.bind (Ok.get om om) (fun y hy=>?_)
 rw [w64 om om]
 refine Ok.nS (fun _=>?_) (fun _=>Ok.nx ⟨⟨za,za⟩,i2⟩ za)
 exact Ok.bind (hull_ok hq.box hq.reg i2 (ho y hy.1)) (fun z hz=>Ok.nx ⟨⟨za,za⟩,hz⟩ za)
end Go.Dw.Lt
set_option maxRecDepth 100000
set_option maxHeartbeats 4000000
namespace Go.Dw.Lt
open Go.Dw Go.Proofs
theorem has_max:∀{l:List Int},l≠ []->∃m∈l,∀x∈l,x<=m
 | [a],_=>⟨a,sm,sm⟩
 |a::b::r,_=>by
  obtain⟨m,h1,h2⟩:=has_max (l:=b::r) sm
  by_cases h:a<=m
  ·exact ⟨m, List.mem_cons_of_mem _ h1, fun x hx => by
    rcases List.mem_cons.1 hx with rfl|hx
    ·exact h
    ·exact h2 x hx⟩
  ·exact ⟨a, sm, fun x hx => by
    rcases List.mem_cons.1 hx with rfl|hx
    ·exact Int.le_refl _
    ·have:=h2 x hx;omega⟩
theorem has_min{l:List Int}(h:l≠ []):∃m∈l,∀x∈l,m<=x:=by
 obtain⟨m,h1,h2⟩:=has_max (l:=l.map fun x=> -x) (by simpa using h)
 obtain⟨y,hy,rfl⟩:=List.mem_map.1 h1
 exact⟨y,hy,fun x hx=>by have:=h2 (-x) (List.mem_map.2 ⟨x,hx,rfl⟩);omega⟩
def res(z:al)(t:Int):Int:=max 0 (max (t-z.fTo) (z.aT-t))
def gG(cap w:Int)(z:al)(t:Int):Int:=w*min cap (res z t)
def bw(cap:Int):List aC->List al->Int->Int
 |a::ps,z::zs,t=>gG cap a.bt z t+bw cap ps zs t
 |_,_,_=>0
def ends:List al->List Int
 | []=>[]
 |z::zs=>z.aT::z.fTo::ends zs
theorem me{l:List al}{t:Int}:t∈ends l↔∃z∈l,t=z.aT∨t=z.fTo:=by
 induction l with
 |nil=>simp [ends]
 |cons z zs ih=>simp [ends,ih,or_assoc]
theorem cap_line{c a L R t:Int}(h1:L<=t)(h2:t<=R):(R-t)*min c (a-L)+(t-L)*min c (a-R)<=(R-L)*min c (a-t):=by
 have k1:(R-t)*min c (a-L)<=(R-t)*c:=Int.mul_le_mul_of_nonneg_left om om
 have k2:(t-L)*min c (a-R)<=(t-L)*c:=Int.mul_le_mul_of_nonneg_left om om
 have k3:(R-t)*min c (a-L)<=(R-t)*(a-L):=Int.mul_le_mul_of_nonneg_left om om
 have k4:(t-L)*min c (a-R)<=(t-L)*(a-R):=Int.mul_le_mul_of_nonneg_left om om
 rcases Int.le_total c (a-t)with h|h
 ·rw [Int.min_eq_left h]
  have:(R-t)*c+(t-L)*c=(R-L)*c:=by rw [<-Int.add_mul];congr 1;omega
  omega
 ·rw [Int.min_eq_right h]
  have:(R-t)*(a-L)+(t-L)*(a-R)=(R-L)*(a-t):=by
   simp only [Int.sub_mul,Int.mul_sub,Int.mul_comm]
   omega
  omega
theorem cost1_line{cap w:Int}{z:al}(hc:0<=cap)(hw:0<=w)(hz:z.aT<=z.fTo){L R t:Int}(h1:L<=t)(h2:t<=R)(hf:z.aT<=L∨R<=z.aT)(ht:z.fTo<=L∨R<=z.fTo):
  (R-t)*gG cap w z L+(t-L)*gG cap w z R<=(R-L)*gG cap w z t:=by
 have key:(R-t)*min cap (res z L)+(t-L)*min cap (res z R)<=(R-L)*min cap (res z t):=by
  unfold res
  rcases hf with hf|hf
  ·rcases ht with ht|ht
   ·rw [show max 0 (max (L-z.fTo) (z.aT-L))=(-z.fTo)-(-L)by omega,show max 0 (max (R-z.fTo) (z.aT-R))=(-z.fTo)-(-R)by omega,show max 0 (max (t-z.fTo) (z.aT-t))=(-z.fTo)-(-t)by omega]
    have:=cap_line (c:=cap) (a:= -z.fTo) (L:= -R) (R:= -L) (t:= -t) om om
    rw [show-L- -t=t-L by omega,show-t- -R=R-t by omega,show-L- -R=R-L by omega]at this
    omega
   ·rw [show max 0 (max (L-z.fTo) (z.aT-L))=0 by omega,show max 0 (max (R-z.fTo) (z.aT-R))=0 by omega,show max 0 (max (t-z.fTo) (z.aT-t))=0 by omega]
    rw [Int.min_eq_right hc];simp
  ·rw [show max 0 (max (L-z.fTo) (z.aT-L))=z.aT-L by omega,show max 0 (max (R-z.fTo) (z.aT-R))=z.aT-R by omega,show max 0 (max (t-z.fTo) (z.aT-t))=z.aT-t by omega]
   exact cap_line h1 h2
 unfold gG
 have:=Int.mul_le_mul_of_nonneg_left key hw
 rw [Int.mul_add,Int.mul_left_comm w (R-t),Int.mul_left_comm w (t-L),Int.mul_left_comm w (R-L)]at this
 exact this
theorem costS_line{cap:Int}(hc:0<=cap){L R t:Int}(h1:L<=t)(h2:t<=R):∀(ps:List aC)(zs:List al),(∀a∈ps,0<=a.bt)->(∀z∈zs,z.aT<=z.fTo)->(∀e∈ends zs,e<=L∨R<=e)->
  (R-t)*bw cap ps zs L+(t-L)*bw cap ps zs R<=(R-L)*bw cap ps zs t
 |a::ps,z::zs,ha,hz,he=>by
  have k1:=cost1_line hc (ha a sm) (hz z sm) h1 h2 (he _ (by simp [ends])) (he _ (by simp [ends]))
  have k2:=costS_line hc h1 h2 ps zs (fun x hx=>ha x (by simp [hx])) (fun x hx=>hz x (by simp [hx])) (fun e h=>he e (by simp [ends,h]))
  unfold bw
  rw [Int.mul_add,Int.mul_add,Int.mul_add]
  omega
 | [],_,_,_,_=>by simp [bw]
 |_::_,[],_,_,_=>by simp [bw]
theorem costS_left{cap:Int}{L t:Int}(h1:t<=L):∀(ps:List aC)(zs:List al),(∀a∈ps,0<=a.bt)->(∀z∈zs,z.aT<=z.fTo)->(∀e∈ends zs,L<=e)->bw cap ps zs L<=bw cap ps zs t
 |a::ps,z::zs,ha,hz,he=>by
  have:=costS_left (cap:=cap) h1 ps zs (fun x hx=>ha x (by simp [hx])) (fun x hx=>hz x (by simp [hx])) (fun e h=>he e (by simp [ends,h]))
  have e1:=he z.aT (by simp [ends])
  have e2:=he z.fTo (by simp [ends])
  unfold bw
  have:gG cap a.bt z L<=gG cap a.bt z t:=Int.mul_le_mul_of_nonneg_left (by unfold res;omega) (ha a sm)
  omega
 | [],_,_,_,_=>by simp [bw]
 |_::_,[],_,_,_=>by simp [bw]
theorem costS_right{cap:Int}{L t:Int}(h1:L<=t):∀(ps:List aC)(zs:List al),(∀a∈ps,0<=a.bt)->(∀z∈zs,z.aT<=z.fTo)->(∀e∈ends zs,e<=L)->bw cap ps zs L<=bw cap ps zs t
 |a::ps,z::zs,ha,hz,he=>by
  have:=costS_right (cap:=cap) h1 ps zs (fun x hx=>ha x (by simp [hx])) (fun x hx=>hz x (by simp [hx])) (fun e h=>he e (by simp [ends,h]))
  have e1:=he z.aT (by simp [ends])
  have e2:=he z.fTo (by simp [ends])
  unfold bw
  have:gG cap a.bt z L<=gG cap a.bt z t:=Int.mul_le_mul_of_nonneg_left (by unfold res;omega) (ha a sm)
  omega
 | [],_,_,_,_=>by simp [bw]
 |_::_,[],_,_,_=>by simp [bw]
theorem least_end{cap:Int}(hc:0<=cap){ps:List aC}{zs:List al}(hn:zs≠ [])(ha:∀a∈ps,0<=a.bt)(hz:∀z∈zs,z.aT<=z.fTo)(t:Int):∃e∈ends zs,bw cap ps zs e<=bw cap ps zs t:=by
 have hne:ends zs≠ []:=by
  match zs,hn with
  |z::zs,_=>simp [ends]
 by_cases hA:(ends zs).filter (fun e=>decide (e<=t))=[]
 ·obtain⟨m,h1,h2⟩:=has_min hne
  have:t<=m:=by
   apply Classical.byContradiction
   intro h
   have:m∈(ends zs).filter (fun e=>decide (e<=t)):=List.mem_filter.2 ⟨h1,so⟩
   rw [hA]at this;simp at this
  exact⟨m,h1,costS_left this ps zs ha hz h2⟩
 by_cases hB:(ends zs).filter (fun e=>decide (t<=e))=[]
 ·obtain⟨m,h1,h2⟩:=has_max hne
  have:m<=t:=by
   apply Classical.byContradiction
   intro h
   have:m∈(ends zs).filter (fun e=>decide (t<=e)):=List.mem_filter.2 ⟨h1,so⟩
   rw [hB]at this;simp at this
  exact⟨m,h1,costS_right this ps zs ha hz h2⟩
 obtain⟨L,l1,l2⟩:=has_max hA
 obtain⟨R,r1,r2⟩:=has_min hB
 rw [List.mem_filter]at l1 r1
 have l3:L<=t:=by simpa using l1.2
 have r3:t<=R:=by simpa using r1.2
 have hl := costS_line hc l3 r3 ps zs ha hz (fun e he => by
  rcases Int.le_total e t with h|h
  ·exact .inl (l2 e (List.mem_filter.2 ⟨he,by simpa using h⟩))
  ·exact .inr (r2 e (List.mem_filter.2 ⟨he,by simpa using h⟩)))
 by_cases h1:bw cap ps zs L<=bw cap ps zs t
 ·exact⟨L,l1.1,h1⟩
 by_cases h2:bw cap ps zs R<=bw cap ps zs t
 ·exact⟨R,r1.1,h2⟩
 exfalso
 have hLt:L≠t:=fun h=>h1 (by rw [h];exact Int.le_refl _)
 have k1:(R-t)*(bw cap ps zs t+1)<=(R-t)*bw cap ps zs L:=Int.mul_le_mul_of_nonneg_left om om
 have k2:(t-L)*(bw cap ps zs t+1)<=(t-L)*bw cap ps zs R:=Int.mul_le_mul_of_nonneg_left om om
 have k3:(R-t)*(bw cap ps zs t+1)+(t-L)*(bw cap ps zs t+1)=(R-L)*bw cap ps zs t+(R-L):=by
  rw [<-Int.add_mul,show R-t+(t-L)=R-L by omega,Int.mul_add];omega
 omega
theorem costS_mono{cap:Int}(t:Int):∀(ps:List aC)(zs ys:List al),(∀a∈ps,0<=a.bt)->zs.length=ys.length->(∀(i:Nat)(h:i<zs.length)(h':i<ys.length),zs[i].aT<=ys[i].aT∧ys[i].fTo<=zs[i].fTo)->bw cap ps zs t<=bw cap ps ys t
 |a::ps,z::zs,y::ys,ha,hl,h=>by
  have k1:=costS_mono (cap:=cap) t ps zs ys (fun x hx=>ha x (by simp [hx])) (by simpa using hl) (fun i h1 h2=>h (i+1) (Nat.succ_lt_succ h1) (Nat.succ_lt_succ h2))
  have k2:=h 0 sm sm
  simp only [List.getElem_cons_zero]at k2
  unfold bw
  have:gG cap a.bt z t<=gG cap a.bt y t:=Int.mul_le_mul_of_nonneg_left (by unfold res;omega) (ha a sm)
  omega
 | [],_,_,_,_,_=>by simp [bw]
 |_::_,[],[],_,_,_=>by simp [bw]
 |_::_,[],_::_,_,hl,_=>by simp at hl
 |_::_,_::_,[],_,hl,_=>by simp at hl
end Go.Dw.Lt
set_option maxRecDepth 100000
set_option maxHeartbeats 4000000
namespace Go.Dw.Lt
open Go.Dw Go.Proofs
theorem search_at{t:aq}(ht:ly t)(d:Int)(hd:d<=t.aQ*((t.aF.length:Int)-1)):Ok (cE (t.az.length:Int) t d) (fun r=>(0<=r∧r<t.az.length)∧d<=r*t.aQ∧∀k,0<=k->k<r->k*t.aQ<d):=by
 have hl:=ht.len;have hs:=ht.same;have hst:=ht.step
 unfold cE
 rw [Option.bind_fun_some]
 refine Ok.loop (fun s=>∃i j:Nat,s=((i:Int),(j:Int))∧i<t.az.length∧i<=j∧j<=t.az.length∧(j<t.az.length->d<=(j:Int)*t.aQ)∧∀k:Int,0<=k->k<i->k*t.aQ<d) (fun s=>(s.2-s.1).toNat) ?_ ⟨0,t.az.length,rfl,om,om,Nat.le_refl _,fun h=>om,fun k h0 h1=>om⟩
 rintro s ⟨i,j,rfl,i0,i1,i2,i3,i4⟩
 unfold eN
 dsimp only
 refine Ok.nS (fun hlt=>?_) (fun hge=>Ok.st ⟨⟨om,om⟩,?_,i4⟩)
 rotate_left
 ·obtain rfl:i=j:=by omega
  exact i3 i0
 have hh:=half_at (i+j) om
 rw [Int.natCast_add]at hh
 have hk1:(i+j) / 2<j:=by omega
 have hk2:i<=(i+j) / 2:=by omega
 rw [hh]
 generalize (i+j) / 2=k at*
 unfold eO
 have hb:0<=(k:Int)*t.aQ∧(k:Int)*t.aQ<=30*100:=⟨Int.mul_nonneg om om,Int.mul_le_mul om om om om⟩
 rw [w64 (n:=(k:Int)*t.aQ) om om,zc]
 refine Ok.iteND (fun hlt=>?_) (fun hle=>Ok.nx ⟨i,k,rfl,i0,hk2,om,fun _=>hle,i4⟩ za)
 rw [w64 om om]
 refine Ok.nx ⟨k+1,j,sm,?_,om,i2,i3,fun m h0 h1=>?_⟩ za
 ·have h1:(k:Int)*t.aQ<t.aQ*((t.aF.length:Int)-1):=by omega
  rw [Int.mul_comm]at h1
  have:=Int.lt_of_mul_lt_mul_left h1 om
  omega
 ·have:m*t.aQ<=(k:Int)*t.aQ:=Int.mul_le_mul_of_nonneg_right om om
  omega
theorem na{t:aq}(ht:ly t):∀(a b:Int),0<=a->a<=b->b<=65535->Reach t b->∃x c u:Int,bI t a b=some (t.aF.getD (x.tdiv t.aQ).toNat 0,t.az.getD u.toNat 0,0)∧(0<=x∧x.tdiv t.aQ<t.aF.length)∧(x*x<=a∧a<(x+1)*(x+1))∧(0<=c∧b<=c*c∧∀s,0<=s->b<=s*s->c<=s)∧(0<=u∧u<t.az.length)∧c<=u*t.aQ∧(∀k,0<=k->k<u->k*t.aQ<c)∧c<=kg t:=by
 have hl:=ht.len;have hs:=ht.same;have hst:=ht.step
 have hb:0<=t.aQ*((t.aF.length:Int)-1)∧t.aQ*((t.aF.length:Int)-1)<=100*30:=⟨Int.mul_nonneg om om,Int.mul_le_mul om om om om⟩
 intro a b ha hab hb' hr
 have main:Ok (bI t a b) (fun r=>∃x c u:Int,r=(t.aF.getD (x.tdiv t.aQ).toNat 0,t.az.getD u.toNat 0,0)∧(0<=x∧x.tdiv t.aQ<t.aF.length)∧(x*x<=a∧a<(x+1)*(x+1))∧(0<=c∧b<=c*c∧∀s,0<=s->b<=s*s->c<=s)∧(0<=u∧u<t.az.length)∧c<=u*t.aQ∧(∀k,0<=k->k<u->k*t.aQ<c)∧c<=kg t):=by
  unfold bI
  rw [dW ht,zc,if_neg sm]
  refine Ok.nS (fun _=>om) (fun _=>Ok.nS (fun _=>om) (fun _=>?_))
  refine Ok.bind (ceil_ok b om hb') (fun c hc=>?_)
  obtain⟨hc0,hc1,hc2⟩:=hc
  have hR':c<=kg t:=hc2 _ hb.1 hr
  unfold iE
  rw [zc,w64 (n:=(t.aF.length:Int)-1) om om,w64 om om]
  refine Ok.nS (fun h=>by unfold kg at hR';omega) (fun h2=>?_)
  refine Ok.bind (search_at ht c om) (fun u hu=>?_)
  refine Ok.bind (floor_ok a om) (fun x hx=>?_)
  obtain⟨⟨x0,x1⟩,x2,x3⟩:=hx
  have x2:=x2 ha
  have hxc:x<=c:=by
   apply Classical.byContradiction
   intro h
   have:(c+1)*(c+1)<=x*x:=Int.mul_le_mul om om om om
   have h4:(c+1)*(c+1)=c*c+2*c+1:=by rw [Int.add_mul,Int.mul_add];omega
   omega
  refine Ok.bind (Ok.quo om) (fun q hq=>?_)
  have hq0:0<=x.tdiv t.aQ:=Int.tdiv_nonneg x0 om
  have hq1:x.tdiv t.aQ<=(t.aF.length:Int)-1:=by
   rw [Int.tdiv_eq_ediv_of_nonneg x0]
   exact Int.ediv_le_of_le_mul om (by rw [Int.mul_comm];omega)
  rw [w64 om om]at hq
  subst hq
  refine Ok.bind (Ok.get hq0 om) (fun p hp=>?_)
  refine Ok.bind (Ok.get hu.1.1 hu.1.2) (fun r hr'=>Ok.ret ⟨x,c,u,?_,⟨x0,om⟩,⟨x2,x3⟩,⟨hc0.1,hc1,hc2⟩,hu.1,hu.2.1,hu.2.2,hR'⟩)
  rw [List.getD_eq_getElem?_getD,List.getD_eq_getElem?_getD,hp.2,hr'.2];rfl
 obtain⟨r,e,x,c,u,hr,h⟩:=main
 exact⟨x,c,u,by rw [e,hr],h⟩
theorem between_le{t:aq}(ht:ly t){n f n' f':Int}(h0:0<=n)(h1:n<=n')(h2:n'<=f')(h3:f'<=f)(hf:f<=65535)(hR:Reach t f):
  ∃lo hi lo' hi',bI t n f=some (lo,hi,0)∧bI t n' f'=some (lo',hi',0)∧lo<=lo'∧hi'<=hi:=by
 have hl:=ht.len;have hs:=ht.same;have hst:=ht.step
 have hb:0<=t.aQ*((t.aF.length:Int)-1)∧t.aQ*((t.aF.length:Int)-1)<=100*30:=⟨Int.mul_nonneg om om,Int.mul_le_mul om om om om⟩
 have hR':Reach t f':=Int.le_trans h3 hR
 obtain⟨x,c,u,e,⟨x0,x1⟩,⟨x2,x3⟩,⟨c0,c1,c2⟩,⟨u0,u1⟩,u2,u3, -⟩:=na ht n f h0 om hf hR
 obtain⟨x',c',u',e',⟨y0,y1⟩,⟨y2,y3⟩,⟨d0,d1,d2⟩,⟨v0,v1⟩,v2,v3, -⟩:=na ht n' f' om h2 om hR'
 refine⟨_,_,_,_,e,e',?_,?_⟩
 ·have hx:x<=x':=by
   apply Classical.byContradiction
   intro h
   have:(x'+1)*(x'+1)<=x*x:=Int.mul_le_mul om om om om
   omega
  have hd:x.tdiv t.aQ<=x'.tdiv t.aQ:=by
   rw [Int.tdiv_eq_ediv_of_nonneg x0,Int.tdiv_eq_ediv_of_nonneg y0]
   exact Int.ediv_le_ediv om hx
  have k0:0<=x.tdiv t.aQ:=Int.tdiv_nonneg x0 om
  have:=asc_le ht.low (i:=(x.tdiv t.aQ).toNat) (j:=(x'.tdiv t.aQ).toNat) om om
  rw [List.getD_eq_getElem?_getD,List.getD_eq_getElem?_getD,zd om,zd om]
  exact this
 ·have hc:c'<=c:=d2 _ c0 om
  have hu:u'<=u:=by
   apply Classical.byContradiction
   intro h
   have:=v3 u u0 om
   omega
  have:=asc_le ht.high (i:=u'.toNat) (j:=u.toNat) om om
  rw [List.getD_eq_getElem?_getD,List.getD_eq_getElem?_getD,zd om,zd om]
  exact this
theorem near_mono{r b:ag}(h:Sub r b)(p:aa):kF r p<=kF b p:=by
 obtain⟨h1,h2,h3⟩:=h
 have k:∀x l h l' h':Int,l'<=l->l<=h->h<=h'->ne x l' h'*ne x l' h'<=ne x l h*ne x l h:=fun x l h l' h' a b c=>sq_le (by unfold ne;omega) (by unfold ne;omega)
 have:=k p.fX _ _ _ _ h1.1 h1.2.1 h1.2.2
 have:=k p.fY _ _ _ _ h2.1 h2.2.1 h2.2.2
 have:=k p.fZ _ _ _ _ h3.1 h3.2.1 h3.2.2
 unfold kF;omega
theorem Sub.trans{a b c:ag}(h:Sub a b)(h':Sub b c):Sub a c:=by
 obtain⟨h1,h2,h3⟩:=h
 obtain⟨k1,k2,k3⟩:=h'
 exact⟨⟨om,om,om⟩,⟨om,om,om⟩,om,om,om⟩
noncomputable def zn (q:ae) (b:ag) (a:aC):al:=((cf q.aS b a).getD (⟨0,0⟩,0)).1
theorem zn_at{q:ae}(hq:PV q){b:ag}(h:Sub q.aG b){a:aC}(ha:a∈q.aN):cf q.aS b a=some (zn q b a,0)∧dj (zn q b a):=by
 obtain⟨r,e,h1,h2⟩:=sub_zone hq h ha
 unfold zn
 rw [e]
 exact⟨by rw [<-h1];rfl,h2⟩
theorem zn_le{q:ae}(hq:PV q){b c:ag}(h:Sub q.aG b)(h':Sub b c){a:aC}(ha:a∈q.aN):(zn q b a).aT<=(zn q c a).aT∧(zn q c a).fTo<=(zn q b a).fTo:=by
 obtain⟨hv,hr⟩:=hq.ph a ha
 have hb:=h.ok hq.box hq.reg
 have hc:=(h.trans h').ok hq.box hq.reg
 obtain⟨hp,p1,p2,p3,p4⟩:=hv
 have hva:cj a=some true:=by
  refine Ok.eq ?_
  unfold cj
  rw [eZ hp,zc,if_pos rfl,if_pos (by simpa using p1),if_pos (by simpa using p2),if_pos (by simpa using p3),if_pos (by simp [p4])]
  exact Ok.ret (by simp [p4])
 obtain⟨n1,n2, -⟩:=mA hb hp
 obtain⟨f1, -,f3⟩:=Far_at hb hp
 obtain⟨m1,m2, -⟩:=mA hc hp
 obtain⟨g1, -,g3⟩:=Far_at hc hp
 obtain⟨lo,hi,lo',hi',e1,e2,l1,l2⟩:=between_le hq.tab n2 (near_mono h' a.aM) (lq hc _) (nC h' a.aM) om (Int.le_trans (nC h _) hr)
 have zb:∀{b:ag}(hb:dN b){lo hi:Int},dP b a.aM=some (kF b a.aM)->fi b a.aM=some (lf b a.aM)->bI q.aS (kF b a.aM) (lf b a.aM)=some (lo,hi,0)->
   cf q.aS b a=some (⟨IntKind.wrap .i64 (a.a8-hi),IntKind.wrap .i64 (a.bF-lo)⟩,0):=by
  intro b hb lo hi h1 h2 h3
  unfold cf
  rw [dW hq.tab,zc,if_neg sm,cr hb,zc,if_neg sm,hva,zc,if_neg sm]
  unfold cL fI
  rw [dW hq.tab,zc,if_neg sm,cr hb,zc,if_neg sm,eZ hp,zc,if_neg sm,h1,h2]
  simp only [zc]
  rw [h3];rfl
 have bb:Ok (bI q.aS (kF b a.aM) (lf b a.aM)) _:=lz hq.tab _ _ n2 (lq hb _) om
 have cc:Ok (bI q.aS (kF c a.aM) (lf c a.aM)) _:=lz hq.tab _ _ m2 (lq hc _) om
 obtain⟨r,e,hr1⟩:=bb
 obtain⟨r',e',hr2⟩:=cc
 rw [e1]at e;rw [e2]at e'
 cases e;cases e'
 have hr1:=hr1.2 rfl
 have hr2:=hr2.2 rfl
 have z1:zn q b a=⟨IntKind.wrap .i64 (a.a8-hi),IntKind.wrap .i64 (a.bF-lo)⟩:=by unfold zn;rw [zb hb n1 f1 e1];rfl
 have z2:zn q c a=⟨IntKind.wrap .i64 (a.a8-hi'),IntKind.wrap .i64 (a.bF-lo')⟩:=by unfold zn;rw [zb hc m1 g1 e2];rfl
 rw [z1,z2]
 simp only at hr1 hr2⊢
 rw [w64 (n:=a.a8-hi) om om,w64 (n:=a.a8-hi') om om,w64 (n:=a.bF-lo) om om,w64 (n:=a.bF-lo') om om]
 omega
theorem zones_at{q:ae}(hq:PV q){b:ag}(h:Sub q.aG b):fx q b=some (q.aN.map (zn q b),0):=by
 have hl:=hq.len
 refine Ok.eq ?_
 unfold fx
 rw [kQ hq,zc,if_neg sm,within_at hq.box hq.reg h,zc,if_neg sm]
 refine Ok.bind (P:=fun r=>r=(q.aN.map (zn q b),0)) ?_ (fun r hr=>by subst hr;exact Ok.ret rfl)
 unfold jI
 refine Ok.bind (Ok.mkC om om om om) (fun x hx=>?_)
 subst hx
 refine Ok.bind (P:=fun o=>o= .inl (q.aN.map (zn q b))) (Ok.loop (fun s:Int×List al=>(0<=s.1∧s.1<=q.aN.length)∧s.2=(q.aN.take s.1.toNat).map (zn q b)) (fun s=>((q.aN.length:Int)-s.1).toNat) ?_ ⟨⟨sm,sm⟩,sm⟩) (fun o ho=>by subst ho;exact Ok.ret rfl)
 rintro⟨s2,s3⟩ ⟨⟨i0,i1⟩,i2⟩
 simp only at i0 i1 i2
 subst i2
 unfold iO
 refine Ok.nS (fun hlt=>?_) (fun _=>Ok.st ?_)
 rotate_left
 ·rw [List.take_of_length_le om]
 refine Ok.bind (Ok.get om om) (fun a ha=>?_)
 rw [(zn_at hq h ha.1).1,zc,if_neg sm]
 have ht:(List.map (zn q b) (List.take s2.toNat q.aN)).length<=64:=by rw [List.length_map,List.length_take];omega
 refine Ok.bind (Ok.app (by simp only [List.length_cons,List.length_nil];omega)) (fun y hy=>?_)
 subst hy
 rw [w64 om om]
 refine Ok.nx ⟨⟨za,za⟩,?_⟩ za
 simp only
 rw [show(s2+1).toNat=s2.toNat+1 by omega,List.take_add_one,ha.2]
 simp
theorem res_at{z:al}(hz:dj z){t:Int}(ht: -5000<=t∧t<=18014398509481984):fE z t=some (res z t):=by
 obtain⟨z1,z2,z3⟩:=hz
 unfold fE
 rw [w64 (n:=t-z.fTo) om om,w64 (n:=z.aT-t) om om]
 congr 1
 unfold res
 split<;>split<;>omega
theorem nA{cap:Int}(hc:0<=cap){t:Int}:∀(ps:List aC)(zs:List al),(∀a∈ps,0<=a.bt)->0<=bw cap ps zs t
 |a::ps,z::zs,ha=>by
  have k1:=nA hc (t:=t) ps zs (fun x hx=>ha x (by simp [hx]))
  have k2:0<=gG cap a.bt z t:=Int.mul_nonneg (ha a sm) (by unfold res;omega)
  unfold bw;omega
 | [],_,_=>by simp [bw]
 |_::_,[],_=>by simp [bw]
theorem cost_at{q:ae}(hq:PV q){l:List al}(hll:l.length=q.aN.length)(hz:∀z∈l,dj z){t:Int}(ht: -5000<=t∧t<=18014398509481984):f4 q l t=some (bw q.bN q.aN l t):=by
 have hl:=hq.len;have hc:=hq.cap
 refine Ok.eq ?_
 unfold f4
 refine Ok.bind (P:=fun o=>o=bw q.bN q.aN l t) (Ok.loop (fun s:Int×Int=>(0<=s.2∧s.2<=q.aN.length)∧(0<=s.1∧s.1<=1000*s.2)∧s.1+bw q.bN (q.aN.drop s.2.toNat) (l.drop s.2.toNat) t=bw q.bN q.aN l t) (fun s=>((q.aN.length:Int)-s.2).toNat) ?_ ⟨⟨sm,sm⟩,⟨sm,sm⟩,sm⟩) (fun o ho=>by subst ho;exact Ok.ret rfl)
 rintro⟨s1,s2⟩ ⟨⟨i0,i1⟩,⟨i2,i3⟩,i4⟩
 simp only at i0 i1 i2 i3 i4
 unfold js
 refine Ok.nS (fun hlt=>?_) (fun hge=>Ok.st ?_)
 rotate_left
 ·rw [List.drop_eq_nil_of_le om]at i4
  simp [bw]at i4;exact i4
 refine Ok.bind (Ok.get om om) (fun a ha=>?_)
 refine Ok.nS (fun hlz=>?_) (fun h=>om)
 refine Ok.bind (Ok.get om om) (fun z hz'=>?_)
 rw [res_at (hz z hz'.1) ht,zc,w64 (n:=s2+1) om om]
 have hw:a.bt=1:=(hq.ph a ha.1).1.weight
 have e1:(if res z t<q.bN then res z t else q.bN)=min q.bN (res z t):=by split<;>omega
 have hr:0<=res z t:=by unfold res;omega
 have e2:gG q.bN a.bt z t=min q.bN (res z t):=by unfold gG;rw [hw,Int.one_mul]
 rw [e1,hw,Int.one_mul,w64 (n:=min q.bN (res z t)) om om,w64 om om]
 refine Ok.nx ⟨⟨za,za⟩,⟨za,za⟩,?_⟩ za
 simp only
 rw [show(s2+1).toNat=s2.toNat+1 by omega]
 obtain⟨j1,ea⟩:=List.getElem?_eq_some_iff.1 ha.2
 obtain⟨j2,ez⟩:=List.getElem?_eq_some_iff.1 hz'.2
 rw [List.drop_eq_getElem_cons j1,List.drop_eq_getElem_cons j2,ea,ez]at i4
 have i5:s1+(gG q.bN a.bt z t+bw q.bN (q.aN.drop (s2.toNat+1)) (l.drop (s2.toNat+1)) t)=bw q.bN q.aN l t:=i4
 rw [e2]at i5
 omega
structure nq(q:ae)(l:List al)(r:Int×Int):Prop where
 mem:r.1∈ends l
 cost:r.2=bw q.bN q.aN l r.1
 least:∀e∈ends l,r.2<=bw q.bN q.aN l e
theorem ends_snoc{l:List al}{z:al}:ends (l++[z])=ends l++[z.aT,z.fTo]:=by
 induction l with
 |nil=>rfl
 |cons y ys ih=>simp [ends,ih]
theorem ends_len{l:List al}:(ends l).length=2*l.length:=by
 induction l with
 |nil=>rfl
 |cons y ys ih=>simp [ends,ih];omega
theorem best_at{q:ae}(hq:PV q){l:List al}(hll:l.length=q.aN.length)(hz:∀z∈l,dj z):Ok (fW q l) (nq q l):=by
 have hl:=hq.len
 have hend:∀e∈ends l, -5000<=e∧e<=18014398509481984:=by
  intro e he
  obtain⟨z,h1,h2⟩:=me.1 he
  obtain⟨z1,z2,z3⟩:=hz z h1
  omega
 unfold fW
 rw [w64 (n:=2*(l.length:Int)) om om]
 refine Ok.bind (Ok.mkC om om om om) (fun x hx=>?_)
 subst hx
 refine Ok.bind (P:=fun o:List Int=>o=ends l) (Ok.loop (fun s:Int×List Int=>(0<=s.1∧s.1<=l.length)∧s.2=ends (l.take s.1.toNat)) (fun s=>((l.length:Int)-s.1).toNat) ?_ ⟨⟨sm,sm⟩,by simp [ends]⟩) (fun o ho=>?_)
 ·rintro⟨s2,s3⟩ ⟨⟨i0,i1⟩,i2⟩
  simp only at i0 i1 i2
  subst i2
  unfold kc
  refine Ok.nS (fun hlt=>?_) (fun _=>Ok.st (by rw [List.take_of_length_le om]))
  refine Ok.bind (Ok.get om om) (fun z hz=>?_)
  have ht:(ends (List.take s2.toNat l)).length<=128:=by rw [ends_len,List.length_take];omega
  refine Ok.bind (Ok.app (by simp only [List.length_cons,List.length_nil];omega)) (fun y hy=>?_)
  subst hy
  rw [w64 om om]
  refine Ok.nx ⟨⟨za,za⟩,?_⟩ za
  simp only
  rw [show(s2+1).toNat=s2.toNat+1 by omega,List.take_add_one,hz.2,Option.toList_some,ends_snoc]
 ·subst ho
  have hn:(ends l).length=2*l.length:=ends_len
  refine Ok.pT (fun h=>om) (fun _=>?_)
  refine Ok.bind (Ok.pf om om) (fun _ _=>Ok.bind (Ok.get om om) (fun x14 g14=>?_))
  refine Ok.bind (Ok.pf om om) (fun _ _=>Ok.bind (Ok.get om om) (fun x17 g17=>?_))
  have e17:x17=x14:=Option.some.inj (g17.2.symm.trans g14.2)
  subst e17
  rw [cost_at hq hll hz (hend _ g17.1),zc]
  refine Ok.bind (Ok.sub om om om) (fun _ _=>?_)
  refine Ok.bind (Ok.lenv om om) (fun n hn'=>?_)
  have hn2:n=2*(l.length:Int)-1:=by simp at hn';omega
  have hx0:∀(i:Nat)e,(ends l)[i]? =some e->i<1->e=x17:=by
   intro i e h hi
   have:i=0:=by omega
   subst this
   exact Option.some.inj (h.symm.trans g17.2)
  refine Ok.bind (P:=fun o=>nq q l o) (Ok.loop (fun s:Int×Int×Int=>(0<=s.2.2∧s.2.2<=n)∧s.1∈ends l∧s.2.1=bw q.bN q.aN l s.1∧∀(i:Nat)e,(ends l)[i]? =some e->i<s.2.2.toNat+1->s.2.1<=bw q.bN q.aN l e) (fun s=>(n-s.2.2).toNat) ?_ ⟨⟨sm,za⟩,g17.1,rfl,fun i e h hi=>by rw [hx0 i e h (by simpa using hi)];exact Int.le_refl _⟩) (fun o ho=>Ok.ret ho)
  rintro⟨s1,s2,s3⟩ ⟨⟨i0,i1⟩,i2,i3,i4⟩
  simp only at i0 i1 i2 i3 i4
  unfold jr
  refine Ok.nS (fun hlt=>?_) (fun hge=>Ok.st ⟨i2,i3,fun e he=>?_⟩)
  rotate_left
  ·obtain⟨i,hi,rfl⟩:=List.getElem_of_mem he
   exact i4 i _ (zd hi) om
  refine Ok.bind (Ok.inv om om om) (fun _ _=>?_)
  refine Ok.bind (Ok.get om om) (fun x29 g29=>?_)
  rw [cost_at hq hll hz (hend _ g29.1),zc]
  rw [w64 om om]
  have hidx:((0+(1:Int).toNat+s3.toNat:Nat):Int).toNat=s3.toNat+1:=by simp;omega
  rw [hidx]at g29
  have A : ∀ (u v : Int), u ∈ ends l → v = bw q.bN q.aN l u → v ≤ s2 → v ≤ bw q.bN q.aN l x29 → Ok (some (.next (u, v, s3 + 1)) : Option (nX (Int × Int × Int) (Int × Int))) (Ok.S (fun s : Int × Int × Int => (0 ≤ s.2.2 ∧ s.2.2 ≤ n) ∧ s.1 ∈ ends l ∧ s.2.1 = bw q.bN q.aN l s.1 ∧ ∀ (i : Nat) e, (ends l)[i]? = some e → i < s.2.2.toNat + 1 → s.2.1 ≤ bw q.bN q.aN l e) (fun s => (n - s.2.2).toNat) (nq q l) (s1, s2, s3)) := fun u v h1 h2 h3 h4 => Ok.nx ⟨⟨za, za⟩, h1, h2, fun i e he hi => by
   simp only at hi⊢
   rw [show(s3+1).toNat=s3.toNat+1 by omega]at hi
   rcases Nat.lt_or_ge i (s3.toNat+1)with h|h
   ·exact Int.le_trans h3 (i4 i e he h)
   ·have:i=s3.toNat+1:=by omega
    subst this
    rw [g29.2]at he
    cases he;exact h4⟩ za
  refine Ok.nS (fun h=>A _ _ g29.1 rfl om (Int.le_refl _)) (fun h=>Ok.pT (fun h'=>Ok.nS (fun _=>A _ _ g29.1 rfl om (Int.le_refl _)) (fun _=>A _ _ i2 i3 (Int.le_refl _) om)) (fun _=>A _ _ i2 i3 (Int.le_refl _) om))
noncomputable def mis (q:ae) (p:aa):Int:=((eY q p).getD (0,0,0)).2.1
noncomputable def bnd (q:ae) (b:ag):Int:=((dL q b).getD (0,0)).1
theorem bnd_at{q:ae}(hq:PV q){b:ag}(h:Sub q.aG b):dL q b=some (bnd q b,0)∧∃t,nq q (q.aN.map (zn q b)) (t,bnd q b):=by
 obtain⟨r,e,hr⟩:=best_at hq (l:=q.aN.map (zn q b)) sm (fun z hz=>by obtain⟨a,ha,rfl⟩:=List.mem_map.1 hz;exact(zn_at hq h ha).2)
 have:dL q b=some (r.2,0):=by unfold dL;rw [zones_at hq h,zc,if_neg sm,e];rfl
 unfold bnd
 rw [this]
 exact⟨rfl,r.1,hr⟩
theorem mis_at{q:ae}(hq:PV q){p:aa}(h:Sub q.aG ⟨p,p⟩):∃t,eY q p=some (t,mis q p,0)∧nq q (q.aN.map (zn q ⟨p,p⟩)) (t,mis q p):=by
 obtain⟨r,e,hr⟩:=best_at hq (l:=q.aN.map (zn q ⟨p,p⟩)) sm (fun z hz=>by obtain⟨a,ha,rfl⟩:=List.mem_map.1 hz;exact(zn_at hq h ha).2)
 have:eY q p=some (r.1,r.2,0):=by unfold eY;rw [zones_at hq h,zc,if_neg sm,e];rfl
 unfold mis
 rw [this]
 exact⟨_,rfl,hr⟩
theorem bnd_le{q:ae}(hq:PV q){b:ag}(h:Sub q.aG b){p:aa}(hp:Sub b ⟨p,p⟩):bnd q b<=mis q p:=by
 obtain⟨-,t,h1,h2,h3⟩:=bnd_at hq h
 obtain⟨t', -,k1,k2,k3⟩:=mis_at hq (h.trans hp)
 simp only at h1 h2 h3 k1 k2 k3
 have hl:=hq.len;have hc:=hq.cap
 have hw:∀a∈q.aN,0<=a.bt:=fun a ha=>by have:=(hq.ph a ha).1.weight;omega
 obtain⟨e,he,hle⟩:=least_end (cap:=q.bN) om (ps:=q.aN) (zs:=q.aN.map (zn q b)) (by intro h;simp at h;simp [h]at hl) hw (fun z hz=>by obtain⟨a,ha,rfl⟩:=List.mem_map.1 hz;exact(zn_at hq h ha).2.2.1) t'
 have hm := costS_mono (cap := q.bN) t' q.aN (q.aN.map (zn q b)) (q.aN.map (zn q ⟨p, p⟩)) hw sm (fun i h1 h2 => by
  simp only [List.getElem_map]
  exact zn_le hq h hp (List.getElem_mem _))
 have:=h3 e he
 omega
end Go.Dw.Lt
set_option maxRecDepth 100000
set_option maxHeartbeats 4000000
namespace Go.Dw.Lt
open Go.Dw Go.Proofs
def leI(a b:Item):Prop:=a.bQ<b.bQ∨(a.bQ=b.bQ∧a.er<=b.er)
instance (a b:Item):Decidable (leI a b):=by unfold leI;exact inferInstance
theorem nF(a:Item):leI a a:=by unfold leI;omega
theorem mF{a b c:Item}(h:leI a b)(h':leI b c):leI a c:=by unfold leI at*;omega
theorem leI_total{a b:Item}(h:¬leI a b):leI b a:=by unfold leI at*;omega
def it0:Item:=⟨⟨⟨0,0,0⟩,⟨0,0,0⟩⟩,0,0⟩
def at_(d:List Item)(i:Nat):Item:=d.getD i it0
theorem kT{d:List Item}{i:Nat}{x:Item}(h:d[i]? =some x):at_ d i=x:=by
 unfold at_;rw [List.getD_eq_getElem?_getD,h];rfl
theorem cmp_or2(a b:Int):cp [a,b]=some (if a≠0 then a else b):=by
 unfold cp
 rw [show((0:Int))=((0:Nat):Int)from rfl,Sd.or_go (l:=[a,b]) (n:=0) (r:=[a,b]) sm om sm]
 by_cases h1:a=0
 ·by_cases h2:b=0
  ·simp [h1,h2]
  ·simp [h1,h2]
 ·simp [h1]
theorem less_at{d:List Item}{i j:Int}(hi:0<=i∧i<d.length)(hj:0<=j∧j<d.length):fe i j d=some (decide (¬leI (at_ d j.toNat) (at_ d i.toNat)),d):=by
 refine Ok.eq ?_
 unfold fe
 refine Ok.bind (Ok.pf hi.1 hi.2) (fun _ _=>Ok.bind (Ok.get hi.1 hi.2) (fun a ga=>?_))
 refine Ok.bind (Ok.pf hj.1 hj.2) (fun _ _=>Ok.bind (Ok.get hj.1 hj.2) (fun b gb=>?_))
 rw [Sd.kz,zc]
 refine Ok.bind (Ok.pf hi.1 hi.2) (fun _ _=>Ok.bind (Ok.get hi.1 hi.2) (fun a' ga'=>?_))
 refine Ok.bind (Ok.pf hj.1 hj.2) (fun _ _=>Ok.bind (Ok.get hj.1 hj.2) (fun b' gb'=>?_))
 rw [Sd.kz,zc]
 obtain rfl:a'=a:=Option.some.inj (ga'.2.symm.trans ga.2)
 obtain rfl:b'=b:=Option.some.inj (gb'.2.symm.trans gb.2)
 rw [cmp_or2,kT ga.2,kT gb.2]
 refine Ok.ret ?_
 congr 1
 rw [decide_eq_decide]
 unfold leI rV
 split<;>split<;>(try split)<;>(try split)<;>omega
theorem swap_at{d:List Item}{i j:Int}(hi:0<=i∧i<d.length)(hj:0<=j∧j<d.length):
  Ok (f7 i j d) (fun r=>r.Perm d∧∀k:Nat,at_ r k=if k=j.toNat then at_ d i.toNat else if k=i.toNat then at_ d j.toNat else at_ d k):=by
 unfold f7
 refine Ok.bind (Ok.pf hj.1 hj.2) (fun _ _=>Ok.bind (Ok.get hj.1 hj.2) (fun a ga=>?_))
 refine Ok.bind (Ok.pf hi.1 hi.2) (fun _ _=>Ok.bind (Ok.get hi.1 hi.2) (fun b gb=>?_))
 refine Ok.bind (Ok.pf hi.1 hi.2) (fun _ _=>Ok.bind (Ok.set hi.1 hi.2) (fun e he=>?_))
 subst he
 refine Ok.bind (Ok.pf hj.1 (by simpa using hj.2)) (fun _ _=>Ok.bind (Ok.set hj.1 (by simpa using hj.2)) (fun e he=>?_))
 subst he
 have h1:i.toNat<d.length:=by omega
 have h2:j.toNat<d.length:=by omega
 have ea:=kT ga.2
 have eb:=kT gb.2
 obtain⟨_,rfl⟩:=List.getElem?_eq_some_iff.1 ga.2
 obtain⟨_,rfl⟩:=List.getElem?_eq_some_iff.1 gb.2
 refine Ok.ret ⟨List.set_set_perm h1 h2,fun k=>?_⟩
 split
 ·rename_i hk;subst hk
  rw [eb];exact kT (by rw [List.getElem?_set_self (by simpa using h2)])
 ·rename_i hk
  split
  ·rename_i hk';subst hk'
   rw [ea];exact kT (by rw [List.getElem?_set_ne (Ne.symm hk),List.getElem?_set_self h1])
  ·rename_i hk'
   unfold at_
   rw [List.getD_eq_getElem?_getD,List.getD_eq_getElem?_getD,List.getElem?_set_ne (Ne.symm hk),List.getElem?_set_ne (Ne.symm hk')]
def m8(d:List Item)(n:Nat):Prop:=∀i,0<i->i<n->leI (at_ d ((i-1) / 2)) (at_ d i)
theorem m8.root{d:List Item}{n:Nat}(h:m8 d n):∀i,i<n->leI (at_ d 0) (at_ d i):=by
 intro i
 induction i using Nat.strongRecOn with
 |_ i ih=>
  intro hi
  by_cases h0:i=0
  ·subst h0;exact nF _
  ·exact mF (ih ((i-1) / 2) om om) (h i om hi)
theorem up_heap{q:ae}{a b:Int}{f:Bool}{l:ai}{d:List Item}{j:Int}(hj:0<=j∧j<d.length)(hd:d.length<=1000)
  (h1:∀i,0<i->i<d.length->i≠j.toNat->leI (at_ d ((i-1) / 2)) (at_ d i)) (h2:∀c,0<j.toNat->c<d.length->0<c->(c-1) / 2=j.toNat->leI (at_ d ((j.toNat-1) / 2)) (at_ d c)):
  Ok (lC j q a b f l d) (fun r=>r.Perm d∧m8 r d.length):=by
 unfold lC
 refine Ok.bind (P:=fun o:List Item=>o.Perm d∧m8 o d.length) (Ok.loop (fun s:Int×List Item=>(0<=s.1∧s.1<d.length)∧s.2.Perm d∧(∀i,0<i->i<d.length->i≠s.1.toNat->leI (at_ s.2 ((i-1) / 2)) (at_ s.2 i))∧(∀c,0<s.1.toNat->c<d.length->0<c->(c-1) / 2=s.1.toNat->leI (at_ s.2 ((s.1.toNat-1) / 2)) (at_ s.2 c))) (fun s=>s.1.toNat) ?_ ⟨hj,List.Perm.refl _,h1,h2⟩) (fun o ho=>Ok.ret ho)
 rintro⟨s1,s2⟩ ⟨⟨i0,i1⟩,i2,i3,i4⟩
 simp only at i0 i1 i2 i3 i4
 have hlen:s2.length=d.length:=i2.length_eq
 unfold kC
 dsimp only
 rw [w64 (n:=s1-1) om om]
 have e:pr .i64 (s1-1) 2=some (if s1=0 then 0 else(s1-1) / 2):=by
  unfold pr
  rw [if_neg om]
  split
  ·rename_i h;subst h;rfl
  ·rw [Int.tdiv_eq_ediv_of_nonneg om,w64 om om]
 rw [e,zc]
 refine Ok.pT (fun he=>?_) (fun hne=>?_)
 ·rw [zc]
  refine Ok.st ⟨i2,fun i h0 hi=>i3 i h0 hi ?_⟩
  split at he<;>omega
 have hp:s1≠0:=fun h=>hne (by rw [if_pos h,h])
 rw [if_neg hp]
 have hpn:((s1-1) / 2).toNat=(s1.toNat-1) / 2:=by omega
 rw [less_at om om,zc]
 dsimp only
 refine Ok.tu (fun hf=>?_) (fun hlt=>?_)
 ·rw [zc]
  refine Ok.st ⟨i2,fun i h0 hi=>?_⟩
  by_cases h:i=s1.toNat
  ·subst h
   rw [<-hpn]
   simpa using hf
  ·exact i3 i h0 hi h
 ·have hlt:¬leI (at_ s2 ((s1-1) / 2).toNat) (at_ s2 s1.toNat):=by simpa using hlt
  have hle:=leI_total hlt
  rw [hpn]at hle
  refine Ok.bind (swap_at om om) (fun y⟨y1,y2⟩=>Ok.nx ⟨⟨za,za⟩,y1.trans i2,?_,?_⟩ za)
  ·simp only
   intro i h0 hi hne'
   rw [hpn]at hne'
   rw [y2,y2,hpn]
   by_cases hij:i=s1.toNat
   ·subst hij
    rw [if_pos rfl,if_neg om,if_pos rfl];exact hle
   ·rw [if_neg hij,if_neg hne']
    by_cases hc:(i-1) / 2=s1.toNat
    ·rw [if_pos hc]
     exact i4 i om hi h0 hc
    ·rw [if_neg hc]
     by_cases hc':(i-1) / 2=(s1.toNat-1) / 2
     ·rw [if_pos hc']
      have:=i3 i h0 hi hij
      rw [hc']at this
      exact mF hle this
     ·rw [if_neg hc'];exact i3 i h0 hi hij
  ·simp only
   intro c h0 hc hc0 hcp
   rw [hpn]at h0 hcp⊢
   rw [y2,y2,if_neg om,if_neg (by rw [hpn];omega),hpn]
   have k1:=i3 ((s1.toNat-1) / 2) om om om
   by_cases hcs:c=s1.toNat
   ·rw [if_pos hcs];exact k1
   ·rw [if_neg hcs,if_neg om]
    have k2:=i3 c hc0 hc hcs
    rw [hcp]at k2
    exact mF k1 k2
theorem down_heap{q:ae}{a b:Int}{f:Bool}{l:ai}{d:List Item}{n:Int}(hn:0<=n∧n<d.length)(hd:d.length<=1000)(h1:∀c,0<c->c<n.toNat->(c-1) / 2≠0->leI (at_ d ((c-1) / 2)) (at_ d c)):
  Ok (jO 0 n q a b f l d) (fun r=>(r.2.Perm d∧at_ r.2 n.toNat=at_ d n.toNat)∧m8 r.2 n.toNat):=by
 unfold jO
 let I:Int×List Item->Prop:=fun s=>(0<=s.1∧s.1<=n)∧(s.2.Perm d∧at_ s.2 n.toNat=at_ d n.toNat)∧(∀c,0<c->c<n.toNat->(c-1) / 2≠s.1.toNat->leI (at_ s.2 ((c-1) / 2)) (at_ s.2 c))∧(∀c,0<s.1.toNat->0<c->c<n.toNat->(c-1) / 2=s.1.toNat->leI (at_ s.2 ((s.1.toNat-1) / 2)) (at_ s.2 c))
 let Q:Int×List Item->Prop:=fun o=>(o.2.Perm d∧at_ o.2 n.toNat=at_ d n.toNat)∧m8 o.2 n.toNat
 refine Ok.bind (P:=Q) (Ok.loop I (fun s=>(n-s.1).toNat) ?_ ⟨⟨sm,hn.1⟩,⟨List.Perm.refl _,rfl⟩,fun c h0 hc hp=>h1 c h0 hc hp,fun c h0=>by simp at h0⟩) (fun o ho=>Ok.ret ho)
 rintro⟨s1,s2⟩ ⟨⟨i0,i1⟩,⟨i2,i3⟩,i4,i5⟩
 simp only at i0 i1 i2 i3 i4 i5
 have hlen:s2.length=d.length:=i2.length_eq
 unfold kX
 dsimp only
 rw [w64 (n:=2*s1) om om,w64 (n:=2*s1+1) om om,w64 (n:=2*s1+1+1) om om]
 refine Ok.nS (fun hge=>Ok.st ⟨⟨i2,i3⟩,fun c h0 hc=>i4 c h0 hc om⟩) (fun hlt1=>Ok.nS (fun _=>om) (fun _=>?_))
 have K:∀j:Int,(j=2*s1+1∨j=2*s1+2)->j<n->(∀c,0<c->c<n.toNat->(c-1) / 2=s1.toNat->leI (at_ s2 j.toNat) (at_ s2 c))->Ok (dQ s1 j s2) (Ok.S I (fun s=>(n-s.1).toNat) Q (s1,s2)):=fun j hj hjn hmin=>by
  unfold dQ
  rw [less_at om om,zc]
  dsimp only
  refine Ok.tu (fun hf=>Ok.st ⟨⟨i2,i3⟩,fun c h0 hc=>?_⟩) (fun hlt=>?_)
  ·have hf:leI (at_ s2 s1.toNat) (at_ s2 j.toNat):=by simpa using hf
   by_cases hcp:(c-1) / 2=s1.toNat
   ·rw [hcp];exact mF hf (hmin c h0 hc hcp)
   ·exact i4 c h0 hc hcp
  ·have hlt:¬leI (at_ s2 s1.toNat) (at_ s2 j.toNat):=by simpa using hlt
   have hle:=leI_total hlt
   refine Ok.bind (swap_at om om) (fun y⟨y1,y2⟩=>Ok.nx ⟨⟨za,za⟩,⟨y1.trans i2,?_⟩,?_,?_⟩ za)
   ·simp only
    rw [y2,if_neg om,if_neg om];exact i3
   ·simp only
    intro c h0 hc hcp
    rw [y2,y2]
    by_cases hcj:c=j.toNat
    ·rw [if_pos hcj,if_neg om,if_pos om];exact hle
    rw [if_neg hcj,if_neg hcp]
    by_cases hcp':(c-1) / 2=s1.toNat
    ·rw [if_pos hcp',if_neg om];exact hmin c h0 hc hcp'
    rw [if_neg hcp']
    by_cases hcs:c=s1.toNat
    ·rw [if_pos hcs]
     have:=i5 j.toNat om om om om
     rw [hcs];exact this
    ·rw [if_neg hcs];exact i4 c h0 hc hcp'
   ·simp only
    intro c h0 hc0 hc hcp
    rw [y2,y2,if_neg om,if_pos om,if_neg om,if_neg om]
    have:=i4 c hc0 hc om
    rw [hcp]at this;exact this
 have two:∀c,0<c->(c-1) / 2=s1.toNat->c=(2*s1+1).toNat∨c=(2*s1+1+1).toNat:=fun c h0 hc=>by omega
 refine Ok.nS (fun h2 => ?_) (fun h2 => K _ (.inl rfl) om (fun c h0 hc hcp => by
  rcases two c h0 hcp with h|h
  ·rw [h];exact nF _
  ·omega))
 rw [less_at om om,zc]
 dsimp only
 refine Ok.u6 (fun hlt=>?_) (fun hf=>?_)
 ·have hlt:¬leI (at_ s2 (2*s1+1).toNat) (at_ s2 (2*s1+1+1).toNat):=by simpa using hlt
  exact K _ (.inr om) om (fun c h0 hc hcp => by
   rcases two c h0 hcp with h|h
   ·rw [h];exact leI_total hlt
   ·rw [h];exact nF _)
 ·have hf:leI (at_ s2 (2*s1+1).toNat) (at_ s2 (2*s1+1+1).toNat):=by simpa using hf
  exact K _ (.inl rfl) om (fun c h0 hc hcp => by
   rcases two c h0 hcp with h|h
   ·rw [h];exact nF _
   ·rw [h];exact hf)
theorem at_take{d:List Item}{n i:Nat}(h:i<n):at_ (d.take n) i=at_ d i:=by
 unfold at_
 rw [List.getD_eq_getElem?_getD,List.getD_eq_getElem?_getD,List.getElem?_take,if_pos h]
theorem pop_heap{q:ae}{a b:Int}{f:Bool}{l:ai}{x:Item}{d:List Item}(hd:(x::d).length<=1000)(hh:m8 (x::d) (d.length+1)):Ok (lg q a b f l (x::d)) (fun r=>r.2.Perm d∧m8 r.2 d.length):=by
 have hlen:((x::d).length:Int)=d.length+1:=by simp
 simp only [List.length_cons]at hd
 unfold lg eK
 rw [zc]
 dsimp only
 rw [hlen,w64 (n:=(d.length:Int)+1-1) om om]
 refine Ok.bind (swap_at om om) (fun y⟨p1,p2⟩=>?_)
 have hy:y.length=d.length+1:=by have:=p1.length_eq;simpa using this
 have hn:((d.length:Int)+1-1).toNat=d.length:=by omega
 refine Ok.bind (down_heap om om (fun c h0 hc hp=>?_)) (fun z⟨⟨z1,z2⟩,z3⟩=>?_)
 ·rw [hn]at hc
  rw [p2,p2,hn,if_neg om,if_neg (by simpa using hp),if_neg om,if_neg so]
  exact hh c h0 om
 have hz:z.2.length=d.length+1:=by rw [z1.length_eq,hy]
 unfold mH
 rw [hz,w64 (n:=((d.length+1:Nat):Int)-1) om om]
 refine Ok.bind (P:=fun r:Item×List Item=>r.2.Perm d∧m8 r.2 d.length) ?_ (fun r hr=>Ok.ret hr)
 refine Ok.bind (Ok.pf om om) (fun _ _=>Ok.bind (Ok.get om om) (fun w _=>?_))
 refine Ok.bind (Ok.sub om om om) (fun _ _=>Ok.ret ?_)
 simp only
 rw [show(((d.length+1:Nat):Int)-1).toNat=d.length by omega]
 rw [hn]at z2 z3
 have e:at_ z.2 d.length=x:=by
  rw [z2,p2,hn,if_pos rfl];rfl
 have hh':d.length<z.2.length:=by omega
 have e:z.2[d.length]=x:=by rw [<-kT (zd hh')];exact e
 have h3:z.2=z.2.take d.length++[x]:=by
  conv=>lhs;rw [<-List.take_append_drop d.length z.2]
  rw [List.drop_eq_getElem_cons hh',e,List.drop_of_length_le om]
 have h4:(z.2.take d.length++[x]).Perm (x::d):=by rw [<-h3];exact z1.trans p1
 have h5:(x::z.2.take d.length).Perm (x::d):=(List.perm_append_comm (l₁:=[x])).trans h4
 refine⟨(List.perm_cons x).1 h5,fun i h0 hi=>?_⟩
 rw [at_take om,at_take hi]
 exact z3 i h0 hi
theorem at_snoc{d:List Item}{x:Item}{i:Nat}(h:i<d.length):at_ (d++[x]) i=at_ d i:=by
 unfold at_
 rw [List.getD_eq_getElem?_getD,List.getD_eq_getElem?_getD,List.getElem?_append_left h]
theorem push_heap{q:ae}{a b:Int}{f:Bool}{l:ai}{x:Item}{d:List Item}(hd:d.length<=500)(hh:m8 d d.length):Ok (iK x q a b f l d) (fun r=>r.Perm (x::d)∧m8 r (d.length+1)):=by
 unfold iK kG eK
 refine Ok.bind (P:=fun r=>r=d++[x]) (Ok.bind (Ok.app (by simp only [List.length_cons,List.length_nil];omega)) (fun r hr=>Ok.ret hr)) (fun y hy=>?_)
 subst hy
 rw [zc]
 dsimp only
 have hl:((d++[x]).length:Int)=d.length+1:=by simp
 have hln:(d++[x]).length=d.length+1:=by simp
 rw [hl,w64 om om]
 refine Ok.bind (up_heap om so (fun i h0 hi hne=>?_) (fun c h0 hc hc0 hcp=>?_)) (fun r hr=>Ok.ret ⟨hr.1.trans (List.perm_append_comm (l₂:=[x])),by rw [<-hln];exact hr.2⟩)
 ·have:i<d.length:=by omega
  rw [at_snoc om,at_snoc this]
  exact hh i h0 this
 ·omega
theorem push1_heap{q:ae}{a b:Int}{f:Bool}{l:ai}{x:Item}:Ok (jN x q a b f l) (fun r=>r.Perm [x]∧m8 r 1):=by
 unfold jN lJ eK
 refine Ok.bind (P:=fun r=>r=[x]) (Ok.bind (Ok.app sm) (fun r hr=>Ok.ret hr)) (fun y hy=>?_)
 subst hy
 rw [zc]
 dsimp only
 rw [w64 sm sm]
 exact Ok.bind (up_ok sm sm) (fun r hr=>Ok.ret ⟨hr,fun i h0 hi=>om⟩)
end Go.Dw.Lt
