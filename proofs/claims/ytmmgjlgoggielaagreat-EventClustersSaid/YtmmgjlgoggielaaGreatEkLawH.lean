
import Derived.Test.YtmmgjlgoggielaaGreatEkFn
import Derived.Test.YtmmgjlgoggielaaGreatDwPlain
import Derived.Test.YtmmgjlgoggielaaGreatDwOk
import Derived.Test.YtmmgjlgoggielaaGreatEkCo
import Derived.KernelRfl

set_option maxRecDepth 100000
set_option maxHeartbeats 4000000
namespace Go.Dw.Ek
namespace Sq
open Go.Dw
abbrev Src:=aw
theorem byteO_at{s:List UInt8}{n:Int}{i:Nat}(hn:n=i)(hi:i<s.length):u4 s n=some ((s[i].toNat:Nat):Int):=by
 subst hn
 unfold u4
 rw [if_pos ⟨za,za⟩,Int.toNat_natCast,List.getD_eq_getElem?_getD,ze hi];rfl
theorem cutO_at{α:Type}{l:List α}{a b:Int}{i j:Nat}(ha:a=i)(hb:b=j)(h1:i<=j)(h2:j<=l.length):wD l a b=some ((l.drop i).take (j-i)):=by
 subst ha hb
 unfold wD
 rw [if_pos ⟨za,za,za⟩,Int.toNat_natCast,Int.toNat_natCast]
theorem dz{α:Type}{l m:List α}{b:Nat}(h:(l.length+m.length)*b<=140737488355328):nJ l m b=some (l++m):=by
 unfold nJ
 rw [if_pos h]
theorem loop_list{α ω:Type}{body:Int->Option (fK Int ω)}(l:List α){p:α->Bool}{u r:ω}(h1:∀(i:Nat)(hi:i<l.length),body i=if p l[i]=true then some (.next ((i+1:Nat):Int))else some (.stop r))
  (h2:body (l.length:Nat)=some (.stop u)):dS body (0:Int)=some (if l.all p=true then u else r):=by
 have:∀k i,i+k=l.length->dS body (i:Int)=some (if(l.drop i).all p=true then u else r):=by
  intro k
  induction k with
  |zero=>
   intro i hi
   obtain rfl:i=l.length:=by omega
   rw [gD h2];simp
  |succ k ih=>
   intro i hi
   have hlt:i<l.length:=by omega
   rw [List.drop_eq_getElem_cons hlt,List.all_cons]
   by_cases hp:p l[i]=true
   ·rw [kN (by rw [h1 i hlt,if_pos hp]),ih (i+1) za,hp,Bool.true_and]
   ·rw [gD (by rw [h1 i hlt,if_neg hp])];simp [hp]
 have:=this l.length 0 za
 simpa using this
def plainB(c:UInt8):Bool:=(decide (65<=c.toNat)&&decide (c.toNat<=90))||(decide (48<=c.toNat)&&decide (c.toNat<=57))
theorem dec1(n:Nat):decide ((n:Int)>=65)=decide (65<=n):=decide_eq_decide.2 za
theorem dec2(n:Nat):decide ((n:Int)<=90)=decide (n<=90):=decide_eq_decide.2 za
theorem dec3(n:Nat):decide ((n:Int)>=48)=decide (48<=n):=decide_eq_decide.2 za
theorem dec4(n:Nat):decide ((n:Int)<=57)=decide (n<=57):=decide_eq_decide.2 za
theorem plain_eq(c:UInt8):l9 ((c.toNat:Nat):Int)=some (plainB c):=by
 unfold l9 plainB
 rw [dec1,dec2,dec3,dec4]
 cases decide (65<=c.toNat)<;>cases decide (c.toNat<=90)<;>cases decide (48<=c.toNat)<;>simp
def oA(s:List UInt8)(lo hi:Int):Bool:=s.all plainB&&(decide ((s.length:Int)>=lo)&&decide ((s.length:Int)<=hi))
theorem code_l7{s:List UInt8}(hs:s.length<=9223372036854775807):dS (iG s) (0:Int)=some (if s.all plainB=true then .inl ()else .inr false):=by
 refine loop_list s (fun i hi=>?_) ?_
 ·unfold iG
  rw [if_pos so,byteO_at rfl hi,w64 za za]
  simp only [zd,plain_eq]
  cases plainB s[i]<;>simp
 ·unfold iG
  rw [if_neg sm]
theorem code_eq{s:List UInt8}(hs:s.length<=9223372036854775807)(lo hi:Int):fJ s lo hi=some (oA s lo hi):=by
 unfold fJ oA
 rw [code_l7 hs]
 cases s.all plainB with
 |true=>cases decide ((s.length:Int)>=lo)<;>simp
 |false=>rfl
def SidLen(x:Src):Prop:=x.a8.length<=9223372036854775807∧x.aN.length<=9223372036854775807∧x.aq.length<=9223372036854775807∧x.bd.length<=9223372036854775807
def oW(x:Src):Bool:=oA x.a8 1 2&&(oA x.aN 1 5&&(oA x.aq 0 2&&(decide (x.aq.length≠1)&&oA x.bd 3 3)))
theorem Valid_eq{x:Src}(hx:SidLen x):gJ x=some (oW x):=by
 obtain⟨h1,h2,h3,h4⟩:=hx
 unfold gJ oW
 simp only [code_eq h1,code_eq h2,code_eq h3,code_eq h4,zd]
 have e:((x.aq.length:Int) != 1)=decide (x.aq.length≠1):=by
  by_cases h:x.aq.length=1
  ·simp [h]
  ·simp [h];omega
 rw [e]
 cases oA x.a8 1 2<;>cases oA x.aN 1 5<;>cases oA x.aq 0 2<;>cases decide (x.aq.length≠1)<;>simp
theorem oY{s:List UInt8}{lo:Int}{hi:Nat}(h:oA s lo hi=true):s.length<=hi:=by
 unfold oA at h
 simp only [Bool.and_eq_true,decide_eq_true_eq]at h
 omega
theorem valid_len{x:Src}(h:oW x=true):x.a8.length<=2∧x.aN.length<=5∧x.aq.length<=2∧x.bd.length<=3:=by
 unfold oW at h
 simp only [Bool.and_eq_true]at h
 exact⟨oY (hi:=2) h.1,oY (hi:=5) h.2.1,oY (hi:=2) h.2.2.1,oY (hi:=3) h.2.2.2.2⟩
end Sq
end Go.Dw.Ek
set_option maxRecDepth 100000
set_option maxHeartbeats 4000000
namespace Go.Dw.Ek
open Go.Dw
abbrev Src:=ac
abbrev Pick:=ae
abbrev Sid:=aw
theorem mod_ok(a b:Int)(h0:1<=b)(h1:b<=1000000000):Ok (nu a b) (fun r=>0<=r∧r<b):=by
 unfold nu
 have hl:a.tmod b<b:=Int.tmod_lt_of_pos _ za
 have hg: -b<a.tmod b:=by
  rcases Int.le_total 0 a with h|h
  ·have:=Int.tmod_nonneg b h;omega
  ·have e:a.tmod b= -((-a).tmod b):=by rw [Int.neg_tmod];omega
   have:=Int.tmod_lt_of_pos (-a) (show 0<b by omega)
   omega
 refine Ok.gC (fun _=>za) (fun _=>?_)
 refine Ok.bind (Ok.rem za) (fun x hx=>?_)
 subst hx
 refine Ok.gC (fun _=>?_) (fun _=>?_)
 ·rw [w64 za za]
  exact Ok.ret za
 ·exact Ok.ret za
def b7(d:Src):Prop:=0<=d.fAt∧d.fAt<=d.fL.length∧d.fL.length<=2000
theorem raw_ok(d:Src)(hd:b7 d):Ok (Src_Raw d) (fun r=>b7 r.2):=by
 obtain⟨h0,h1,h2⟩:=hd
 unfold Src_Raw
 refine Ok.gC (fun _=>Ok.ret ⟨h0,h1,h2⟩) (fun h=>?_)
 rw [w64 (n:=d.fAt+1) za za,w64 za za]
 refine Ok.bind (Ok.get za za) (fun x _=>?_)
 refine Ok.ret ⟨?_,?_,h2⟩<;>simp only<;>omega
theorem dw(k:Int)(d:Src)(hd:b7 d)(h0:1<=k)(h1:k<=1000000000):Ok (cJ k d) (fun r=>0<=r.1∧r.1<k∧b7 r.2):=by
 unfold cJ
 refine Ok.bind (raw_ok d hd) (fun x hx=>?_)
 refine Ok.bind (mod_ok _ _ h0 h1) (fun y hy=>?_)
 exact Ok.ret ⟨hy.1,hy.2,hx⟩
theorem dZ(l:List Int)(d:Src)(hd:b7 d)(h0:l≠ [])(h1:l.length<=1000000):Ok (dl l d) (fun r=>r.1∈l∧b7 r.2):=by
 unfold dl
 have:=List.length_pos_iff.2 h0
 refine Ok.bind (dw _ d hd za za) (fun x hx=>?_)
 refine Ok.bind (Ok.get hx.1 hx.2.1) (fun y hy=>?_)
 exact Ok.ret ⟨hy.1,hx.2.2⟩
def stas:List (List UInt8):=[[83,49],[83,50],[83,51],[83,52],[83,53],[83,54]]
def IsSid(a:Sid):Prop:=Sq.oW a=true
theorem stas_ok:∀x∈stas,Sq.oW ⟨[65,66],x,[48,48],[66,72,90]⟩=true:=by decide+kernel
theorem source_ok(n:Int):Ok (dN n) IsSid:=by
 unfold dN
 refine Ok.bind (mod_ok n 6 za za) (fun x hx=>?_)
 refine Ok.bind (Ok.get hx.1 hx.2) (fun y hy=>?_)
 exact Ok.ret (stas_ok y hy.1)
theorem new_ok(l:List Int):Ok (kk l) b7:=by
 unfold kk
 refine Ok.bind (Ok.cut za (by split<;>omega) (by split<;>omega)) (fun x hx=>?_)
 subst hx
 refine Ok.ret ⟨sm,sm,?_⟩
 simp only [List.length_take,List.length_drop]
 split<;>omega
def eD(m:Int)(p:aa):Prop:=(-m<=p.fX∧p.fX<=m)∧(-m<=p.fY∧p.fY<=m)∧(-m<=p.fZ∧p.fZ<=m)
theorem lx(m:Int)(h0:0<=m)(h1:m<=1000)(d:Src)(hd:b7 d):Ok (jE m d) (fun r=>eD m r.1∧b7 r.2):=by
 unfold jE
 rw [w64 (n:=2*m) za za,w64 (n:=2*m+1) za za,w64 (n:=m+1) za za]
 refine Ok.bind (dw _ _ hd za za) (fun y1 g1=>?_)
 refine Ok.bind (dw _ _ g1.2.2 za za) (fun y2 g2=>?_)
 refine Ok.bind (dw _ _ g2.2.2 za za) (fun y3 g3=>?_)
 rw [w64 (n:=y1.1-m) za za,w64 (n:=y2.1-m) za za]
 exact Ok.ret ⟨⟨zc,zc,zc⟩,g3.2.2⟩
def fu(b:ai):Prop:=eD 40 b.aL∧(0<=b.aF.fX-b.aL.fX∧b.aF.fX-b.aL.fX<=4)∧(0<=b.aF.fY-b.aL.fY∧b.aF.fY-b.aL.fY<=4)∧(0<=b.aF.fZ-b.aL.fZ∧b.aF.fZ-b.aL.fZ<=4)
theorem box_ok(m side:Int)(h0:0<=m)(h1:m<=40)(h2:0<=side)(h3:side<=4)(d:Src)(hd:b7 d):Ok (nD m side d) (fun r=>fu r.1∧b7 r.2):=by
 unfold nD
 rw [w64 (n:=side+1) za za]
 refine Ok.bind (lx m h0 za d hd) (fun y0 g0=>?_)
 refine Ok.bind (dw _ _ g0.2 za za) (fun y1 g1=>?_)
 refine Ok.bind (dw _ _ g1.2.2 za za) (fun y2 g2=>?_)
 refine Ok.bind (dw _ _ g2.2.2 za za) (fun y3 g3=>?_)
 obtain⟨⟨p1,p2,p3⟩, -⟩:=g0
 rw [w64 (n:=y0.1.fX+y1.1) za za,w64 (n:=y0.1.fY+y2.1) za za,w64 (n:=y0.1.fZ+y3.1) za za]
 refine Ok.ret ⟨⟨⟨zc,zc,zc⟩,zc,zc,zc⟩,g3.2.2⟩
structure TabOk(t:aI):Prop where
 step:t.bn=20∨t.bn=25∨t.bn=40∨t.bn=100
 len:1<=t.aL.length∧t.aL.length<=30
 same:t.aF.length=t.aL.length
 low:∀x∈t.aL,0<=x∧x<=3000
 high:∀x∈t.aF,0<=x∧x<=5000
theorem table_ok(d:Src)(hd:b7 d):Ok (iJ d) (fun r=>TabOk r.1∧b7 r.2):=by
 unfold iJ
 refine Ok.bind (dZ _ d hd sm sm) (fun x1 h1=>?_)
 obtain⟨hst,h1⟩:=h1
 have hst:x1.1=20∨x1.1=25∨x1.1=40∨x1.1=100:=by simpa using hst
 refine Ok.bind (dw _ _ h1 za za) (fun x2 h2=>?_)
 have hq:∃q,IntKind.wrap .i64 ((400:Int).tdiv x1.1)=q∧4<=q∧q<=20:=by
  rcases hst with e|e|e|e<;>rw [e]<;>exact⟨_,rfl,by decide,by decide⟩
 have hp:∃q,IntKind.wrap .i64 (x1.1.tdiv 4)=q∧0<=q∧q<=25:=by
  rcases hst with e|e|e|e<;>rw [e]<;>exact⟨_,rfl,by decide,by decide⟩
 obtain⟨q,hq,q0,q1⟩:=hq
 obtain⟨p,hp,p0,p1⟩:=hp
 refine Ok.bind (P:=fun o=>b7 ⟨o.1,o.2.1⟩∧(1<=o.2.2.1.length∧o.2.2.1.length<=30)∧o.2.2.2.length=o.2.2.1.length∧(∀x∈o.2.2.1,0<=x∧x<=3000)∧(∀x∈o.2.2.2,0<=x∧x<=5000))
  (Ok.loop (fun s => (0 ≤ s.2.2.1 ∧ s.2.2.1 ≤ 23) ∧ s.2.2.2.2.2.1.length = s.2.2.1.toNat ∧ s.2.2.2.2.2.2.length = s.2.2.1.toNat ∧ (0 ≤ s.1 ∧ s.1 ≤ 60 * s.2.2.1) ∧ (0 ≤ s.2.1 ∧ s.2.1 ≤ 100 * s.2.2.1 + 2) ∧ b7 ⟨s.2.2.2.1, s.2.2.2.2.1⟩ ∧ (∀ x ∈ s.2.2.2.2.2.1, 0 ≤ x ∧ x ≤ 3000) ∧ (∀ x ∈ s.2.2.2.2.2.2, 0 ≤ x ∧ x ≤ 5000))
   (fun s=>(23-s.2.2.1).toNat) ?_ ⟨⟨sm,sm⟩,rfl,rfl,⟨sm,sm⟩,⟨zc,zc⟩,h2.2.2,sm,sm⟩) ?_
 ·rintro⟨s3,s4,s5,s6,s7,s8,s9⟩ ⟨i0,i1,i2,i3,i4,i5,i6,i7⟩
  simp only at i0 i1 i2 i3 i4 i5 i6 i7
  unfold jd
  refine Ok.bind (Ok.quo za) (fun y1 g1=>?_)
  rw [hq]at g1;subst g1
  refine Ok.bind (dw _ _ i5 za za) (fun y2 g2=>?_)
  rw [w64 (n:=y1+y2.1) za za]
  refine Ok.gC (fun hle=>?_) (fun hgt=>?_)
  ·refine Ok.bind (Ok.app (by simp only [List.length_cons,List.length_nil];omega)) (fun y3 g3=>?_)
   refine Ok.bind (Ok.app (by simp only [List.length_cons,List.length_nil];omega)) (fun y4 g4=>?_)
   refine Ok.bind (dZ _ _ g2.2.2 sm sm) (fun y5 g5=>?_)
   refine Ok.bind (Ok.quo za) (fun y6 g6=>?_)
   rw [hp]at g6;subst g6
   refine Ok.bind (dZ _ _ g5.2 sm sm) (fun y7 g7=>?_)
   have a1:0<=y5.1∧y5.1<=35:=by have:=g5.1;simp at this;omega
   have a2:0<=y7.1∧y7.1<=30:=by have:=g7.1;simp at this;omega
   rw [w64 (n:=y5.1+y6) za za,w64 (n:=s3+(y5.1+y6)) za za,w64 (n:=s5+1) za za,w64 (by split<;>omega) (by split<;>omega)]
   subst g3 g4
   refine Ok.nx ⟨⟨zc,zc⟩,?_,?_,⟨zc,zc⟩,⟨by simp only;split<;>omega,by simp only;split<;>omega⟩,g7.2,?_,?_⟩ zc
   ·simp only [List.length_append,List.length_cons,List.length_nil];omega
   ·simp only [List.length_append,List.length_cons,List.length_nil];omega
   ·intro x hx
    simp only [List.mem_append,List.mem_singleton]at hx
    rcases hx with hx|rfl
    ·exact i6 x hx
    ·omega
   ·intro x hx
    simp only [List.mem_append,List.mem_singleton]at hx
    rcases hx with hx|rfl
    ·exact i7 x hx
    ·omega
  ·exact Ok.st ⟨g2.2.2,⟨zc,zc⟩,zc,i6,i7⟩
 ·intro o ho
  exact Ok.ret ⟨⟨hst,ho.2.1,ho.2.2.1,ho.2.2.2.1,ho.2.2.2.2⟩,ho.1⟩
theorem association_ok{k:Int}(hk:0<=k∧k<=4)(d:Src)(hd:b7 d):Ok (dL k d) (fun r=>(fu r.1.aO∧TabOk r.1.bi)∧b7 r.2):=by
 unfold dL
 refine Ok.bind (box_ok 20 k za za za za d hd) (fun x1 h1=>?_)
 refine Ok.bind (table_ok _ h1.2) (fun x2 h2=>?_)
 refine Ok.bind (dZ _ _ h2.2 sm sm) (fun x3 h3=>?_)
 refine Ok.bind (dZ _ _ h3.2 sm sm) (fun x4 h4=>?_)
 refine Ok.bind (dZ _ _ h4.2 sm sm) (fun x5 h5=>?_)
 refine Ok.bind (dZ _ _ h5.2 sm sm) (fun x6 h6=>?_)
 refine Ok.bind (dw _ _ h6.2 za za) (fun x7 h7=>?_)
 exact Ok.ret ⟨⟨h1.1,h2.1⟩,h7.2.2⟩
theorem scale_ok(d:Src)(hd:b7 d):Ok (jF d) (fun r=>b7 r.2):=by
 unfold jF
 refine Ok.bind (table_ok _ hd) (fun x1 h1=>?_)
 refine Ok.bind (dw _ _ h1.2 za za) (fun x2 h2=>?_)
 refine Ok.bind (dw _ _ h2.2.2 za za) (fun x3 h3=>?_)
 have hl:=h1.1.len;have hs:=h1.1.same
 refine Ok.bind (P:=fun _=>True) (Ok.loop (fun s=>0<=s.1∧s.2.1.length=x1.1.aL.length∧s.2.2.length=x1.1.aL.length) (fun s=>((x1.1.aL.length:Int)-s.1).toNat) ?_ ⟨Int.le_refl _,rfl,hs⟩) (fun o _=>Ok.ret h3.2.2)
 rintro⟨s4,s5,s6⟩ ⟨i0,i1,i2⟩
 simp only at i0 i1 i2
 unfold k8
 refine Ok.gC (fun hlt=>?_) (fun _=>Ok.st trivial)
 refine Ok.bind (Ok.rK za za) (fun _ _=>?_)
 refine Ok.bind (Ok.get za za) (fun y1 g1=>?_)
 refine Ok.bind (Ok.quo za) (fun y2 g2=>?_)
 refine Ok.bind (Ok.rK za za) (fun _ _=>?_)
 refine Ok.bind (Ok.get za za) (fun y3 g3=>?_)
 refine Ok.bind (Ok.quo za) (fun y4 g4=>?_)
 refine Ok.bind (Ok.rK za za) (fun _ _=>?_)
 refine Ok.bind (Ok.set za za) (fun y5 g5=>?_)
 refine Ok.bind (Ok.rK za za) (fun _ _=>?_)
 refine Ok.bind (Ok.set za za) (fun y6 g6=>?_)
 subst g5 g6
 rw [w64 za za]
 exact Ok.nx ⟨zc,by simpa using i1,by simpa using i2⟩ zc
theorem settings_ok{k:Int}(hk:0<=k∧k<=4)(d:Src)(hd:b7 d):Ok (dy k d) (fun r=>(fu r.1.ah.aO∧TabOk r.1.ah.bi)∧b7 r.2):=by
 unfold dy
 refine Ok.bind (association_ok hk d hd) (fun x1 h1=>?_)
 refine Ok.bind (scale_ok _ h1.2) (fun x2 h2=>?_)
 refine Ok.bind (dZ _ _ h2 sm sm) (fun x3 h3=>?_)
 exact Ok.ret ⟨h1.1,h3.2⟩
def ChanOk(c:az):Prop:=c.bM.length<=3∧∀e∈c.bM,eD 60 e.bj
def InvOk(v:ar):Prop:=v.aT.length<=6∧∀c∈v.aT,ChanOk c
theorem range_ok(a b:Int)(h0: -1000<=a)(h1:a<=1000)(h2:0<=b-a)(h3:b-a<=1000)(d:Src)(hd:b7 d):Ok (md a b d) (fun r=>(a<=r.1∧r.1<=b)∧b7 r.2):=by
 unfold md
 rw [w64 (n:=b-a) za za,w64 (n:=b-a+1) za za]
 refine Ok.bind (dw _ _ hd za za) (fun y1 g1=>?_)
 rw [w64 (n:=a+y1.1) za za]
 exact Ok.ret ⟨⟨zc,zc⟩,g1.2.2⟩
theorem point_ok(b:ai)(hb:fu b)(d:Src)(hd:b7 d):Ok (nh b d) (fun r=>eD 60 r.1∧b7 r.2):=by
 obtain⟨⟨p1,p2,p3⟩,q1,q2,q3⟩:=hb
 unfold nh
 refine Ok.bind (range_ok _ _ za za za za d hd) (fun y1 g1=>?_)
 refine Ok.bind (range_ok _ _ za za za za _ g1.2) (fun y2 g2=>?_)
 refine Ok.bind (range_ok _ _ za za za za _ g2.2) (fun y3 g3=>?_)
 exact Ok.ret ⟨⟨zc,zc,zc⟩,g3.2⟩
theorem kplace_ok(v:ar)(hv:InvOk v)(x:Sid)(t:Int):Ok (nQ v x t) (fun r=>eD 60 r.1):=by
 unfold nQ
 have h0:eD 60 ⟨0,0,0⟩:=⟨sm,sm,sm⟩
 refine Ok.bind (P:=fun o=>match o with| .inl _=>True| .inr r=>eD 60 r.1) (Ok.upto v.aT.length za (fun _=>True) trivial ?_) ?_
 ·intro i h1 h2 _
  unfold oE
  refine Ok.gC (fun hlt=>?_) (fun _=>Ok.st trivial)
  refine Ok.bind (Ok.get za za) (fun c hc=>?_)
  have hck:=hv.2 c hc.1
  have hlen:=hv.1
  refine Ok.bind (P:=fun o=>match o with| .inl y=>y=i| .inr r=>eD 60 r.1) (Ok.upto c.bM.length za (fun _=>True) trivial ?_) ?_
  ·intro j h3 h4 _
   unfold oD
   have hcl:=hck.1
   refine Ok.gC (fun hlt=>?_) (fun _=>Ok.st rfl)
   refine Ok.bind (Ok.get za za) (fun e he=>?_)
   rw [w64 (n:=j+1) za za]
   refine Ok.yk (fun _=>?_) (fun _=>Ok.nx ⟨⟨za,za⟩,trivial⟩ za)
   refine Ok.gC (fun _=>?_) (fun _=>Ok.nx ⟨⟨za,za⟩,trivial⟩ za)
   refine Ok.gC (fun _=>?_) (fun _=>Ok.nx ⟨⟨za,za⟩,trivial⟩ za)
   exact Ok.st (hck.2 e he.1)
  ·rintro(y|r) ho
   ·simp only at ho⊢
    subst ho
    rw [w64 (n:=y+1) za za]
    exact Ok.nx ⟨⟨za,za⟩,trivial⟩ za
   ·exact Ok.st ho
 ·rintro(y|r) ho
  ·exact Ok.ret h0
  ·exact Ok.ret ho
def ik(p:Pick):Prop:=IsSid p.aD∧0<=p.aK∧p.aK<=p.aX∧p.aX<=p.bf∧p.bf<=200000∧0<=p.aQ∧p.aQ<=1073741823∧ -1<=p.aU∧p.aU<=1
def PickLo(p:Pick):Prop:=ik p∧p.bf<=40000
def PI(n:Nat)(s:Int×Int×List Int×Int×List Pick×Int×Int×Int):Prop:=
 (0<=s.2.1∧s.2.1+s.2.2.2.2.1.length<=n)∧(0<=s.1∧s.1<=2000+1000*s.2.2.2.2.1.length)∧b7 ⟨s.2.2.1,s.2.2.2.1⟩∧eD 60 ⟨s.2.2.2.2.2.1,s.2.2.2.2.2.2.1,s.2.2.2.2.2.2.2⟩∧∀p∈s.2.2.2.2.1,PickLo p
theorem k34_ok{n:Nat}(hn:n<=20){Q:List Pick×List Int×Int->Prop}{s:Int×Int×List Int×Int×List Pick×Int×Int×Int}{sid:Sid}(hs:IsSid sid)(am:Int×Src)(ha:0<=am.1∧am.1<=1048576)(po:Int×Src)(hp:0<=po.1∧po.1<3)(t k:Int)(l:List Int)(at_:Int)(out:List Pick)(x y z e:Int)
  (hk:1<=k∧k+out.length<=n) (hks:k=s.2.1) (ht:0<=t∧t<=2000+1000*(out.length+1)) (hd:b7 ⟨l,at_⟩) (hpos:eD 60 ⟨x,y,z⟩) (hout:∀p∈out,PickLo p) (he:0<=e∧e<=30000):
  Ok (fM sid am po t k l at_ out x y z e) (Ok.S (PI n) (fun s=>s.2.1.toNat) Q s):=by
 unfold fM
 refine Ok.bind (dw _ _ hd za za) (fun y1 g1=>?_)
 refine Ok.bind (dw _ _ g1.2.2 za za) (fun y2 g2=>?_)
 refine Ok.bind (Ok.app (by simp only [List.length_cons,List.length_nil];omega)) (fun y3 g3=>?_)
 subst g3
 rw [w64 (n:=e+y1.1) za za,w64 (n:=e+y1.1+y2.1) za za,w64 (n:=po.1-1) za za,w64 (n:=k-1) za za]
 refine Ok.nx ⟨⟨zc,by simp only [List.length_append,List.length_cons,List.length_nil];omega⟩,⟨ht.1,by simp only [List.length_append,List.length_cons,List.length_nil];omega⟩,g2.2.2,hpos,fun p hpm=>?_⟩ zc
 simp only [List.mem_append,List.mem_singleton]at hpm
 rcases hpm with hpm|rfl
 ·exact hout p hpm
 ·exact⟨⟨hs,zc,zc,zc,zc,zc,zc,zc,zc⟩,zc⟩
theorem l55_ok(pl:aa×Bool)(hpl:eD 60 pl.1)(x y z t k:Int)(out:List Pick)(hx:eD 60 ⟨x,y,z⟩):Ok (dS (mW pl x y z t k out) (0:Int)) (fun o=>o.1=t∧o.2.1=k∧(0<=o.2.2.1∧o.2.2.1<=300)∧o.2.2.2.1=out∧o.2.2.2.2.1=x∧o.2.2.2.2.2.1=y∧o.2.2.2.2.2.2=z):=by
 obtain⟨a1,a2,a3⟩:=hpl
 obtain⟨b1,b2,b3⟩:=hx
 simp only at b1 b2 b3
 have hsq:∀(u v:Int), -60<=u->u<=60-> -60<=v->v<=60->∃q,o0 (IntKind.wrap .i64 (u-v))=some q∧0<=q∧q<=14400:=by
  intro u v h1 h2 h3 h4
  have h5: -120<=u-v∧u-v<=120:=by omega
  rw [w64 za za]
  have h6:0<=(u-v)*(u-v)∧(u-v)*(u-v)<=14400:=by
   constructor
   ·rcases Int.le_total 0 (u-v)with h|h
    ·exact Int.mul_nonneg h h
    ·exact Int.mul_nonneg_of_nonpos_of_nonpos h h
   ·rcases Int.le_total 0 (u-v)with h|h
    ·calc (u-v)*(u-v)<=120*120:=Int.mul_le_mul h5.2 h5.2 h za
      _=14400:=by decide
    ·have:(u-v)*(u-v)=(v-u)*(v-u):=by
      rw [<-Int.neg_mul_neg];congr 1<;>omega
     rw [this]
     calc (v-u)*(v-u)<=120*120:=Int.mul_le_mul za za za za
      _=14400:=by decide
  refine⟨_,by unfold o0;rw [w64 za za],h6.1,h6.2⟩
 obtain⟨q1,e1,l1,u1⟩:=hsq pl.1.fX x a1.1 a1.2 b1.1 b1.2
 obtain⟨q2,e2,l2,u2⟩:=hsq pl.1.fY y a2.1 a2.2 b2.1 b2.2
 obtain⟨q3,e3,l3,u3⟩:=hsq pl.1.fZ z a3.1 a3.2 b3.1 b3.2
 refine Ok.loop (fun s=>0<=s∧s<=300) (fun s=>(300-s).toNat) (fun s hs=>?_) ⟨Int.le_refl _,za⟩
 unfold mW
 rw [e1,e2,e3]
 simp only [zd]
 rw [w64 (n:=q1+q2) za za,w64 (n:=q1+q2+q3) za za]
 have hss : 0 ≤ s * s ∧ s * s ≤ 90000 := ⟨Int.mul_nonneg hs.1 hs.1, by
  calc s*s<=300*300:=Int.mul_le_mul hs.2 hs.2 hs.1 za
   _=90000:=by decide⟩
 rw [w64 (n:=s*s) za za]
 refine Ok.gC (fun hlt=>?_) (fun _=>Ok.st ⟨rfl,rfl,hs,rfl,rfl,rfl,rfl⟩)
 have h299:s<=299:=by
  rcases Int.lt_or_le 299 s with h|h
  ·exfalso
   have:s=300:=by omega
   subst this
   omega
  ·exact h
 rw [w64 (n:=s+1) za za]
 exact Ok.nx ⟨za,za⟩ za
theorem picks_lo(a:ap)(ha:fu a.ah.aO∧TabOk a.ah.bi)(v:ar)(hv:InvOk v)(n:Nat)(hn:n<=20)(d:Src)(hd:b7 d):
  Ok (ng a v n d) (fun r=>(r.1.length<=n∧∀p∈r.1,PickLo p)∧b7 r.2):=by
 unfold ng
 refine Ok.bind (point_ok _ ha.1 d hd) (fun x1 h1=>?_)
 refine Ok.bind (dw _ _ h1.2 za za) (fun x2 h2=>?_)
 rw [w64 (n:=(n:Int)+1) za za]
 refine Ok.bind (dw _ _ h2.2.2 za za) (fun x3 h3=>?_)
 rw [w64 (n:=1000+x2.1) za za]
 refine Ok.bind (P:=fun o=>(o.1.length<=n∧∀p∈o.1,PickLo p)∧b7 ⟨o.2.1,o.2.2⟩) (Ok.loop (PI n) (fun s=>s.2.1.toNat) ?_ ⟨⟨zc,by simp only [List.length_nil];omega⟩,⟨zc,by simp only [List.length_nil];omega⟩,h3.2.2,h1.1,sm⟩) (fun o ho=>Ok.ret ⟨ho.1,ho.2⟩)
 rintro⟨s4,s5,s6,s7,s8,s9,s10,s11⟩ ⟨i0,i1,i2,i3,i4⟩
 simp only at i0 i1 i2 i3 i4
 unfold pA
 refine Ok.gC (fun hgt=>?_) (fun _=>Ok.st ⟨⟨zc,i4⟩,i2⟩)
 refine Ok.bind (dw _ _ i2 za za) (fun y1 g1=>?_)
 refine Ok.bind (source_ok _) (fun y2 g2=>?_)
 refine Ok.bind (dZ _ _ g1.2.2 sm sm) (fun y3 g3=>?_)
 have hy3:0<=y3.1∧y3.1<=1048576:=by have:=g3.1;simp at this;omega
 refine Ok.bind (dw _ _ g3.2 za za) (fun y4 g4=>?_)
 refine Ok.bind (dw _ _ g4.2.2 za za) (fun y5 g5=>?_)
 refine Ok.bind (dw _ _ g5.2.2 za za) (fun y6 g6=>?_)
 rw [w64 (n:=1000+y5.1) za za]
 refine Ok.rN (fun _=>?_) (fun _=>Ok.rN (fun _=>?_) (fun _=>?_))
 ·refine Ok.bind (point_ok _ ha.1 _ g6.2.2) (fun y7 g7=>?_)
  refine Ok.bind (dw _ _ g7.2 za za) (fun y8 g8=>?_)
  rw [w64 (n:=s4+y8.1) za za]
  exact k34_ok za g2 y3 hy3 y4 ⟨g4.1,g4.2.1⟩ _ _ _ _ _ _ _ _ _ za rfl za g8.2.2 g7.1 i4 za
 ·exact k34_ok za g2 y3 hy3 y4 ⟨g4.1,g4.2.1⟩ _ _ _ _ _ _ _ _ _ za rfl za g6.2.2 i3 i4 za
 ·refine Ok.bind (kplace_ok v hv _ _) (fun y7 g7=>?_)
  refine Ok.yk (fun _=>?_) (fun _=>?_)
  ·refine Ok.bind (l55_ok y7 g7 _ _ _ _ _ _ i3) (fun o ho=>?_)
   obtain⟨o1,o2,o3,o4,o5,o6,o7⟩:=ho
   have htab:=ha.2
   have hl:=htab.len
   have hst:=htab.step
   refine Ok.bind (Ok.quo za) (fun y8 g8=>?_)
   have hq:0<=o.2.2.1.tdiv a.ah.bi.bn∧o.2.2.1.tdiv a.ah.bi.bn<=300:=by
    refine⟨Int.tdiv_nonneg o3.1 za,?_⟩
    have:=Int.tdiv_le_self (b:=a.ah.bi.bn) o3.1
    omega
   rw [w64 za za]at g8
   subst g8
   rw [w64 (n:=(a.ah.bi.aL.length:Int)-1) za za]
   refine Ok.bind (Ok.get (by split<;>omega) (by split<;>omega)) (fun y9 g9=>?_)
   have hb:=htab.low y9 g9.1
   refine Ok.bind (dw _ _ g6.2.2 za za) (fun y10 g10=>?_)
   rw [o1,o2,o4,o5,o6,o7,w64 (n:=s4+y9) za za,w64 (n:=s4+y9+y10.1) za za]
   exact k34_ok za g2 y3 hy3 y4 ⟨g4.1,g4.2.1⟩ _ _ _ _ _ _ _ _ _ za rfl za g10.2.2 i3 i4 za
  ·exact k34_ok za g2 y3 hy3 y4 ⟨g4.1,g4.2.1⟩ _ _ _ _ _ _ _ _ _ za rfl za g6.2.2 i3 i4 za
theorem picks_ok(a:ap)(ha:fu a.ah.aO∧TabOk a.ah.bi)(v:ar)(hv:InvOk v)(n:Nat)(hn:n<=20)(d:Src)(hd:b7 d):
  Ok (ng a v n d) (fun r=>(r.1.length<=n∧∀p∈r.1,ik p)∧b7 r.2):=(picks_lo a ha v hv n hn d hd).mono fun _ h=>⟨⟨h.1.1,fun p hp=>(h.1.2 p hp).1⟩,h.2⟩
end Go.Dw.Ek
set_option maxRecDepth 100000
set_option maxHeartbeats 4000000
namespace Go.Dw.Ek
open Go.Dw
theorem dz{α:Type}{l m:List α}{b:Nat}(h:(l.length+m.length)*b<=140737488355328):nJ l m b=some (l++m):=by
 unfold nJ
 rw [if_pos h]
namespace Sd
abbrev Src:=aw
theorem eq_src(a b:Src):((a.a8==b.a8)&&((a.aN==b.aN)&&((a.aq==b.aq)&&((a.bd==b.bd)&&true))))=decide (a=b):=by
 obtain⟨n,t,l,c⟩:=a
 obtain⟨n',t',l',c'⟩:=b
 simp only [aw.mk.injEq]
 by_cases e1:n=n'<;>by_cases e2:t=t'<;>by_cases e3:l=l'<;>by_cases e4:c=c'<;>simp [e1,e2,e3,e4]
theorem cmp_str(a b:List UInt8):bX a b=some (tg a b):=by
 unfold bX f8
 simp only [beq_self_eq_true,Bool.not_true,zd,Bool.false_eq_true,if_false]
 unfold tg
 cases h:Op.bytesLess a b with
 |true=>simp
 |false=>by_cases e:a=b<;>simp [e]
theorem ql{l:List Int}{i j:Nat}(hj:j=i+1)(hi:i<l.length)(hl:l.length<1000)(h0:l[i]=0):dx l i=some (.next (j:Int)):=by
 subst hj
 unfold dx
 rw [if_pos so,gZ rfl hi]
 simp only [zd,h0,w64 (n:=(i:Int)+1) za za]
 rfl
theorem qm{l:List Int}{i:Nat}(hi:i<l.length)(h0:l[i]≠0):dx l i=some (.stop (.inr l[i])):=by
 unfold dx
 rw [if_pos so,gZ rfl hi]
 simp only [zd]
 rw [if_pos (by simpa using h0)]
theorem or_end{l:List Int}{n:Nat}(hn:n=l.length):dx l n=some (.stop (.inl ())):=by
 subst hn
 unfold dx
 rw [if_neg sm]
theorem or4(a b c d:Int):cv [a,b,c,d]=some (if a≠0 then a else if b≠0 then b else if c≠0 then c else d):=by
 show((dS (dx [a,b,c,d]) ((0:Nat):Int)).bind _)=_
 by_cases ha:a=0
 ·rw [kN (ql (i:=0) (j:=1) rfl sm sm (by simpa using ha)),if_neg (by simpa using ha)]
  by_cases hb:b=0
  ·rw [kN (ql (i:=1) (j:=2) rfl sm sm (by simpa using hb)),if_neg (by simpa using hb)]
   by_cases hc:c=0
   ·rw [kN (ql (i:=2) (j:=3) rfl sm sm (by simpa using hc)),if_neg (by simpa using hc)]
    by_cases hd:d=0
    ·rw [kN (ql (i:=3) (j:=4) rfl sm sm (by simpa using hd)),gD (or_end (n:=4) rfl)]
     rw [hd];rfl
    ·rw [gD (qm (i:=3) sm (by simpa using hd))];rfl
   ·rw [gD (qm (i:=2) sm (by simpa using hc)),if_pos hc];rfl
  ·rw [gD (qm (i:=1) sm (by simpa using hb)),if_pos hb];rfl
 ·rw [gD (qm (i:=0) sm (by simpa using ha)),if_pos (by simpa using ha)];rfl
def kD(a b:Src):Int:=if tg a.a8 b.a8≠0 then tg a.a8 b.a8 else if tg a.aN b.aN≠0 then tg a.aN b.aN else if tg a.aq b.aq≠0 then tg a.aq b.aq else tg a.bd b.bd
theorem kG(a b:Src):et a b=some (kD a b):=by
 unfold et
 simp only [cmp_str,zd,or4]
 rfl
theorem e9:Tot kD:=(wA.map fun x:Src=>x.a8).or ((wA.map fun x:Src=>x.aN).or ((wA.map fun x:Src=>x.aq).or (wA.map fun x:Src=>x.bd)))
theorem ev{a b:Src}(h:kD a b=0):a=b:=by
 unfold kD at h
 obtain⟨n,t,l,c⟩:=a
 obtain⟨n',t',l',c'⟩:=b
 simp only at h
 by_cases h1:tg n n'=0
 ·rw [if_neg (by simpa using h1)]at h
  by_cases h2:tg t t'=0
  ·rw [if_neg (by simpa using h2)]at h
   by_cases h3:tg l l'=0
   ·rw [if_neg (by simpa using h3)]at h
    rw [wV]at h h1 h2 h3
    subst h h1 h2 h3;rfl
   ·rw [if_pos h3]at h;exact(h3 h).elim
  ·rw [if_pos h2]at h;exact(h2 h).elim
 ·rw [if_pos h1]at h;exact(h1 h).elim
instance : DecidableEq Src := fun a b => decidable_of_iff (a.a8 = b.a8 ∧ a.aN = b.aN ∧ a.aq = b.aq ∧ a.bd = b.bd) (by
 obtain⟨n,t,l,c⟩:=a
 obtain⟨n',t',l',c'⟩:=b
 simp)
theorem eqs(a b:Src):((a.a8==b.a8)&&((a.aN==b.aN)&&((a.aq==b.aq)&&((a.bd==b.bd)&&true))))=decide (a=b):=by
 rw [eq_src]
 exact decide_eq_decide.2 Iff.rfl
theorem jY(a b:Int):bJ a b=some (qF a b):=by
 unfold bJ jf qF
 simp only [bne_self_eq_false,zd,Bool.false_eq_true,if_false]
 by_cases h1:a<b
 ·rw [if_pos (decide_eq_true h1),if_pos h1]
 ·rw [if_neg (by simpa using h1),if_neg h1]
  by_cases h2:a>b
  ·rw [if_pos (decide_eq_true h2),if_pos h2]
  ·rw [if_neg (by simpa using h2),if_neg h2]
theorem or_go{l:List Int}{n:Nat}{r:List Int}(hl:l.length<1000)(hn:n<=l.length)(hr:l.drop n=r):dS (dx l) (n:Int)=some (match r.find? (fun x=>decide (x≠0))with|some x=>.inr x|none=>.inl ()):=by
 induction r generalizing n with
 |nil=>
  have:n=l.length:=by
   have:=congrArg List.length hr
   simp at this;omega
  rw [gD (or_end this)];rfl
 |cons a r ih=>
  have hlt:n<l.length:=by
   have:=congrArg List.length hr
   simp at this;omega
  have ha:l[n]=a:=by
   rw [List.drop_eq_getElem_cons hlt]at hr
   exact(List.cons.inj hr).1
  have hr':l.drop (n+1)=r:=by
   rw [List.drop_eq_getElem_cons hlt]at hr
   exact(List.cons.inj hr).2
  by_cases h0:a=0
  ·rw [kN (ql (i:=n) (j:=n+1) rfl hlt hl (by rw [ha,h0])),ih za hr']
   simp [List.find?,h0]
  ·rw [gD (qm hlt (by rw [ha];exact h0)),ha]
   simp [List.find?,h0]
theorem or6(a b c d e f:Int):cv [a,b,c,d,e,f]=some (if a≠0 then a else if b≠0 then b else if c≠0 then c else if d≠0 then d else if e≠0 then e else f):=by
 unfold cv
 have:=or_go (l:=[a,b,c,d,e,f]) (n:=0) (r:=[a,b,c,d,e,f]) sm sm rfl
 rw [show((0:Int))=((0:Nat):Int)from rfl,this]
 by_cases ha:a=0<;>by_cases hb:b=0<;>by_cases hc:c=0<;>by_cases hd:d=0<;>by_cases he:e=0<;>by_cases hf:f=0<;>simp [List.find?,ha,hb,hc,hd,he,hf]
end Sd
open Sd (kD e9 ev)
def c9(a b:Pick):Int:=if kD a.aD b.aD≠0 then kD a.aD b.aD else if qF a.aX b.aX≠0 then qF a.aX b.aX else if qF a.aK b.aK≠0 then qF a.aK b.aK else if qF a.bf b.bf≠0 then qF a.bf b.bf else if qF a.aQ b.aQ≠0 then qF a.aQ b.aQ else qF a.aU b.aU
theorem kG(a b:Pick):ca a b=some (c9 a b):=by
 unfold ca
 simp only [Sd.kG,Sd.jY,zd,Sd.or6]
 rfl
theorem bP:Tot c9:=(e9.map fun x:Pick=>x.aD).or ((qU.map fun x:Pick=>x.aX).or ((qU.map fun x:Pick=>x.aK).or ((qU.map fun x:Pick=>x.bf).or ((qU.map fun x:Pick=>x.aQ).or (qU.map fun x:Pick=>x.aU)))))
theorem mq{a b:Int}(h:(if a≠0 then a else b)=0):a=0∧b=0:=by
 by_cases h1:a=0
 ·rw [if_neg (by simpa using h1)]at h;exact⟨h1,h⟩
 ·rw [if_pos h1]at h;exact(h1 h).elim
theorem eX{a b:Pick}(h:c9 a b=0):a=b:=by
 unfold c9 at h
 obtain⟨h1,h⟩:=mq h
 obtain⟨h2,h⟩:=mq h
 obtain⟨h3,h⟩:=mq h
 obtain⟨h4,h⟩:=mq h
 obtain⟨h5,h6⟩:=mq h
 rw [wW]at h2 h3 h4 h5 h6
 have:=ev h1
 obtain⟨a1,a2,a3,a4,a5,a6⟩:=a
 obtain⟨b1,b2,b3,b4,b5,b6⟩:=b
 simp only at*
 subst this h2 h3 h4 h5 h6
 rfl
theorem lt3_eq:lt3 ca=fun x y=>decide (c9 x y<0):=by
 funext x y
 unfold lt3
 rw [kG];rfl
theorem Compare_ok:CmpOk ca:=⟨fun x y=>⟨_,kG x y⟩,by rw [lt3_eq];exact bP.swo⟩
instance : DecidableEq Pick := fun a b => decidable_of_iff (a.aD = b.aD ∧ a.aX = b.aX ∧ a.aK = b.aK ∧ a.bf = b.bf ∧ a.aQ = b.aQ ∧ a.aU = b.aU) (by
 obtain⟨a1,a2,a3,a4,a5,a6⟩:=a
 obtain⟨b1,b2,b3,b4,b5,b6⟩:=b
 simp)
def eqF(a b:Pick):Bool:=((a.aD.a8==b.aD.a8)&&((a.aD.aN==b.aD.aN)&&((a.aD.aq==b.aD.aq)&&((a.aD.bd==b.aD.bd)&&true))))&&((a.aX==b.aX)&&((a.aK==b.aK)&&((a.bf==b.bf)&&((a.aQ==b.aQ)&&((a.aU==b.aU)&&true)))))
theorem eqs(a b:Pick):eqF a b=decide (a=b):=by
 obtain⟨a1,a2,a3,a4,a5,a6⟩:=a
 obtain⟨b1,b2,b3,b4,b5,b6⟩:=b
 unfold eqF
 simp only [Sd.eqs,ae.mk.injEq]
 by_cases e1:a1=b1<;>by_cases e2:a2=b2<;>by_cases e3:a3=b3<;>by_cases e4:a4=b4<;>by_cases e5:a5=b5<;>by_cases e6:a6=b6<;>simp [e1,e2,e3,e4,e5,e6]
theorem Compact_eq(l:List Pick):eI l=wB eqF ⟨⟨[],[],[],[]⟩,0,0,0,0,0⟩ l:=by
 have h1:gi=tn eqF:=by funext s d ⟨a,b,c⟩;rfl
 have h2:gj=sl eqF ⟨⟨[],[],[],[]⟩,0,0,0,0,0⟩:=by
  funext d s
  unfold gj sl
  rw [h1]
  rfl
 unfold eI wB
 rw [h2]
 refine ite_congr rfl (fun _=>rfl) fun _=>?_
 refine congrArg _ (funext fun o=>?_)
 rcases o with _|_<;>rfl
theorem sort_at{l:List Pick}(hl:l.length<=1000):∃m,uR ca l=some m∧m.Perm l∧m.Pairwise (fun x y=>c9 x y<=0):=by
 have h2 := xE Compare_ok (fun x y h h' => by
  rw [lt3_eq]at h h'
  simp only [decide_eq_false_iff_not]at h h'
  have:=bP.sw x y
  exact eX za) l za
 generalize hm:(l.mergeSort fun x y=> !lt3 ca y x)=m at h2
 refine⟨m,h2,A3 h2,?_⟩
 rw [<-hm]
 refine(List.pairwise_mergeSort ?_ ?_ l).imp ?_
 ·intro a b c h h'
  rw [lt3_eq]at*
  simp only [Bool.not_eq_true',decide_eq_false_iff_not]at*
  have:=bP.tr a b c (by have:=bP.sw a b;omega) (by have:=bP.sw b c;omega)
  have:=bP.sw a c;omega
 ·intro a b
  rw [lt3_eq]
  have:=bP.sw a b
  by_cases h:c9 b a<0
  ·have:¬c9 a b<0:=by omega
   simp [this]
  ·simp [h]
 ·intro a b h
  rw [lt3_eq]at h
  simp only [Bool.not_eq_true',decide_eq_false_iff_not]at h
  have:=bP.sw a b;omega
theorem p8{l:List Pick}(hl:l.length<=1000):
  ∃r,c7 l=some r∧r.Pairwise (fun x y=>c9 x y<0)∧(∀x,x∈r↔x∈l)∧r.length<=l.length:=by
 have h1:ru 104 l=some l:=by
  unfold ru
  rw [if_pos za]
 obtain⟨m,h2,hp,hs⟩:=sort_at hl
 have hml:m.length=l.length:=hp.length_eq
 have h3:eI m=some (cpt m):=by
  rw [Compact_eq]
  exact AG (fun x y=>eqs x y) za
 refine⟨cpt m,?_,ui bP (fun x y=>eX) hs,fun x=>xH.trans hp.mem_iff,by have:=ya m;omega⟩
 unfold c7
 rw [h1,zd,h2,zd,h3];rfl
theorem jm:∀{r s:List Pick},r.Pairwise (fun x y=>c9 x y<0)->s.Pairwise (fun x y=>c9 x y<0)->(∀x,x∈r↔x∈s)->r=s
 | [],[],_,_,_=>rfl
 | [],b::s,_,_,h=>by have:=(h b).2 sm;cases this
 |a::r,[],_,_,h=>by have:=(h a).1 sm;cases this
 |a::r,b::s,h1,h2,h=>by
  obtain⟨ha,hr⟩:=List.pairwise_cons.1 h1
  obtain⟨hb,hs⟩:=List.pairwise_cons.1 h2
  have hab:a=b:=by
   rcases List.mem_cons.1 ((h a).1 sm)with e|hm
   ·exact e
   ·rcases List.mem_cons.1 ((h b).2 sm)with e|hm'
    ·exact e.symm
    ·have h3:=hb a hm
     have h4:=ha b hm'
     have:=bP.sw a b
     omega
  subst hab
  have hn:∀{t:List Pick},(∀y∈t,c9 a y<0)->a∉t:=fun h ht=>by have:=h a ht;have:=bP.refl a;omega
  have:r=s:=jm hr hs fun x=>by
   have:=h x
   simp only [List.mem_cons]at this
   constructor
   ·intro hx
    rcases this.1 (.inr hx)with e|h5
    ·subst e;exact(hn ha hx).elim
    ·exact h5
   ·intro hx
    rcases this.2 (.inr hx)with e|h5
    ·subst e;exact(hn hb hx).elim
    ·exact h5
  rw [this]
end Go.Dw.Ek
set_option maxRecDepth 100000
set_option maxHeartbeats 4000000
namespace Go.Dw.Ek
open Go.Dw Go.Proofs
open Sd (kD e9 ev)
theorem sid_len{x:Sid}(h:Sq.oW x=true):Sq.SidLen x:=by
 obtain⟨h1,h2,h3,h4⟩:=Sq.valid_len h
 exact⟨za,za,za,za⟩
theorem pX{p:Pick}(h:ik p):e8 p=some true:=by
 obtain⟨h0,h1,h2,h3,h4,h5,h6,h7,h8⟩:=h
 unfold e8
 rw [Sq.Valid_eq (sid_len h0),h0,zd,if_pos rfl,if_pos (by simpa using h1),if_pos (by simpa using h2),if_pos (by simpa using h3),if_pos so]
 have e1:iS p.aQ 0 1073741823=some true:=by unfold iS;rw [if_pos (by simpa using h5)];simpa using h6
 have e2:iS p.aU (-1) 1=some true:=by unfold iS;rw [if_pos (by simpa using h7)];simpa using h8
 rw [e1,zd,if_pos rfl,e2];rfl
theorem same_refl{l:List Pick}(hl:l.length<=1000):fq l l=some true:=by
 unfold fq
 rw [if_neg sm]
 have:Ok (dS (jC l l) (0:Int)) (fun o=>o= .inl ()):=by
  refine Ok.upto l.length za (fun _=>True) trivial (fun i h0 h1 _=>?_)
  unfold jC
  refine Ok.gC (fun hlt=>?_) (fun _=>Ok.st rfl)
  obtain⟨p,hp, -⟩:=Ok.get (l:=l) h0 za
  rw [hp,zd,zd,if_neg sm,w64 za za]
  exact Ok.nx ⟨⟨za,za⟩,trivial⟩ za
 rw [this.eq];rfl
def P(t:Int):Pick:=⟨⟨[65,66],[83,49],[48,48],[66,72,90]⟩,t,t,t,0,0⟩
def S1:Sid:=⟨[65,66],[83,49],[48,48],[66,72,90]⟩
theorem loop_first{α ω:Type}{body:Int->Option (fK Int (Unit⊕ω))}(l:List α){p:α->Bool}{f:Nat->α->ω}
  (h1:∀(i:Nat)(hi:i<l.length),body i=if p l[i]=true then some (.stop (.inr (f i l[i])))else some (.next ((i+1:Nat):Int)))
  (h2:body (l.length:Nat)=some (.stop (.inl ()))):
  (dS body (0:Int)=some (.inl ())∧∀x∈l,p x=false)∨
  ∃(i:Nat)(hi:i<l.length),dS body (0:Int)=some (.inr (f i l[i]))∧p l[i]=true∧∀x∈l.take i,p x=false:=by
 have:∀k i,i+k=l.length->(∀x∈l.take i,p x=false)->(dS body (i:Int)=some (.inl ())∧∀x∈l,p x=false)∨
   ∃(j:Nat)(hj:j<l.length),dS body (i:Int)=some (.inr (f j l[j]))∧p l[j]=true∧∀x∈l.take j,p x=false:=by
  intro k
  induction k with
  |zero=>
   intro i hi ha
   obtain rfl:i=l.length:=by omega
   exact .inl ⟨gD h2,by simpa using ha⟩
  |succ k ih=>
   intro i hi ha
   have hlt:i<l.length:=by omega
   cases hp:p l[i]with
   |true=>exact .inr ⟨i,hlt,gD (by rw [h1 i hlt,if_pos hp]),hp,ha⟩
   |false=>
    have e:=kN (ω:=Unit⊕ω) (body:=body) (s:=(i:Int)) (s':=((i+1:Nat):Int)) (by rw [h1 i hlt,if_neg (by simp [hp])])
    rw [e]
    refine ih (i+1) za fun x hx=>?_
    rw [jy hlt]at hx
    rcases List.mem_append.1 hx with hx|hx
    ·exact ha x hx
    ·rw [List.mem_singleton]at hx;rw [hx];exact hp
 have:=this l.length 0 za sm
 simpa using this
theorem loop_find{α ω:Type}{body:Int->Option (fK Int (Unit⊕ω))}(l:List α){p:α->Bool}{f:α->ω}
  (h1:∀(i:Nat)(hi:i<l.length),body i=if p l[i]=true then some (.stop (.inr (f l[i])))else some (.next ((i+1:Nat):Int)))
  (h2:body (l.length:Nat)=some (.stop (.inl ()))):dS body (0:Int)=some (match l.find? p with|none=>.inl ()|some x=>.inr (f x)):=by
 rcases loop_first l (f:=fun _ x=>f x) h1 h2 with⟨e,h⟩|⟨i,hi,e,hp,h⟩
 ·rw [e,List.find?_eq_none.2 fun x hx=>by simp [h x hx]]
 ·rw [e]
  have:l.find? p=some l[i]:=by
   refine List.find?_eq_some_iff_append.2 ⟨hp,l.take i,l.drop (i+1),?_,fun x hx=>by simp [h x hx]⟩
   rw [<-List.drop_eq_getElem_cons hi,List.take_append_drop]
  rw [this]
theorem kQ{ω:Type}{body:Int->Option (fK Int (Unit⊕ω))}(n:Nat)(h1:∀i:Nat,i<n->body i=some (.next ((i+1:Nat):Int)))(h2:body (n:Nat)=some (.stop (.inl ()))):dS body (0:Int)=some (.inl ()):=by
 have:∀k i:Nat,i+k=n->dS body (i:Int)=some (.inl ()):=by
  intro k
  induction k with
  |zero=>
   intro i hi
   obtain rfl:i=n:=by omega
   exact gD h2
  |succ k ih=>intro i hi;rw [kN (h1 i za)];exact ih (i+1) za
 simpa using this n 0 za
theorem terms_ok{l:List Int}(hl:l.length<=1000)(h:∀x∈l, -1048576<=x∧x<=1048576):cp l=some true:=by
 unfold cp cx cW
 rw [kQ l.length (fun i hi=>?_) ?_]
 ·rfl
 ·unfold dg
  rw [if_neg sm]
 ·unfold dg
  have hx:=h l[i] (List.getElem_mem hi)
  rw [if_pos so,gZ rfl hi,zd]
  unfold ja bq
  rw [if_pos (by simpa using hx.1),zd,zd,if_neg (by simpa using hx.2),w64 za za]
  simp
def lZ(x:aH):Prop:=cC x=some true∧(x.fP=2->x.dD=1)∧x.dM.length<=3∧0<=x.dO∧(-1048576<=x.bI.a0∧x.bI.a0<=1048576)∧(-1048576<=x.bw.a0∧x.bw.a0<=1048576)
theorem gain_ok{a b:Int}(ha:1<=a∧a<=1048576)(hb:1<=b∧b<=1048576):lZ ⟨0,⟨a,0,0⟩,⟨b,0,0⟩,[],0,0⟩:=by
 refine⟨?_,sm,sm,sm,zc,zc⟩
 unfold cC bq
 simp [ha.1,ha.2,hb.1,hb.2]
theorem section_ok{a b c d e f:Int}(ha: -10<=a∧a<=10)(hb: -10<=b∧b<=10)(hc: -10<=c∧c<=10)(hd:1<=d∧d<=10)(he: -10<=e∧e<=10)(hf: -10<=f∧f<=10):lZ ⟨1,⟨a,b,c⟩,⟨d,e,f⟩,[],0,0⟩:=by
 refine⟨?_,sm,sm,sm,zc,zc⟩
 have h1:cp [a,b,c]=some true:=terms_ok sm so
 have h2:cp [d,e,f]=some true:=terms_ok sm so
 have h3:d≠0:=by omega
 unfold cC
 simp [h1,h2,h3]
theorem filter_ok{a s:Int}(ha:1<=a∧a<=3)(hs:0<=s∧s<=3):lZ ⟨2,⟨0,0,0⟩,⟨0,0,0⟩,[a,2,1],1,s⟩:=by
 have h1:a=1∨a=2∨a=3:=by omega
 have h2:s=0∨s=1∨s=2∨s=3:=by omega
 refine⟨?_,sm,sm,hs.1,sm,sm⟩
 have ht:cp [a,2,1]=some true:=terms_ok sm so
 have hsum:dF [a,2,1]=some (a+3):=by
  unfold dF
  rcases h1 with rfl|rfl|rfl
  ·rw [rT (n:=4) (o:=4) (by kernel_rfl)];rfl
  ·rw [rT (n:=4) (o:=5) (by kernel_rfl)];rfl
  ·rw [rT (n:=4) (o:=6) (by kernel_rfl)];rfl
 have h3:a+3≠0:=by omega
 have h4:0<=s∧s<=3:=by omega
 unfold cC bq
 rw [ht,hsum]
 simp [h3,h4.1]
 omega
def nC(r:aP):Prop:=r.bG.length<=3∧∀x∈r.bG,lZ x
theorem pf(d:Src)(hd:b7 d):Ok (eM d) (fun r=>nC r.1∧b7 r.2):=by
 unfold eM
 refine Ok.bind (dw _ _ hd za za) (fun x1 h1=>?_)
 refine Ok.bind (P:=fun o:List Int×Int×List aH=>b7 ⟨o.1,o.2.1⟩∧(o.2.2.length<=3∧∀x∈o.2.2,lZ x)) (Ok.loop (fun s=>0<=s.1∧s.1+s.2.2.2.length<=3∧(∀x∈s.2.2.2,lZ x)∧b7 ⟨s.2.1,s.2.2.1⟩) (fun s=>s.1.toNat) ?_ ⟨zc,by simp only [List.length_nil];omega,sm,h1.2.2⟩) (fun o ho=>Ok.ret (Q:=fun r:aP×Src=>nC r.1∧b7 r.2) ⟨ho.2,ho.1⟩)
 rintro⟨s2,s3,s4,s5⟩ ⟨i0,i1,i2,i3⟩
 simp only at i0 i1 i2 i3
 unfold iI
 have happ:∀(x:aH),Ok (nJ s5 [x] 96) (fun r=>r=s5++[x]):=fun x=>Ok.app (by simp only [List.length_cons,List.length_nil];omega)
 have hnext:∀{x:aH},lZ x->∀c∈s5++[x],lZ c:=fun hx c hc=>by
  simp only [List.mem_append,List.mem_singleton]at hc
  rcases hc with hc|rfl
  ·exact i2 c hc
  ·exact hx
 refine Ok.gC (fun hgt=>?_) (fun _=>Ok.st ⟨i3,zc,i2⟩)
 refine Ok.bind (dw _ _ i3 za za) (fun y1 g1=>?_)
 refine Ok.rN (fun hk=>?_) (fun _=>Ok.rN (fun hk=>?_) (fun _=>?_))
 ·refine Ok.bind (dZ _ _ g1.2.2 sm sm) (fun y2 g2=>?_)
  refine Ok.bind (dZ _ _ g2.2 sm sm) (fun y3 g3=>?_)
  refine Ok.bind (happ _) (fun y4 g4=>?_)
  subst g4
  have b1:0<=y2.1∧y2.1<=1048575:=by have:=g2.1;simp at this;omega
  have b2:0<=y3.1∧y3.1<=999:=by have:=g3.1;simp at this;omega
  rw [w64 (n:=s2-1) za za,w64 (n:=1+y2.1) za za,w64 (n:=1+y3.1) za za,hk]
  exact Ok.nx ⟨zc,by simp only [List.length_append,List.length_cons,List.length_nil];omega,hnext (gain_ok za za),g3.2⟩ zc
 ·refine Ok.bind (dw _ _ g1.2.2 za za) (fun y2 g2=>?_)
  refine Ok.bind (dw _ _ g2.2.2 za za) (fun y3 g3=>?_)
  refine Ok.bind (dw _ _ g3.2.2 za za) (fun y4 g4=>?_)
  refine Ok.bind (dw _ _ g4.2.2 za za) (fun y5 g5=>?_)
  refine Ok.bind (dw _ _ g5.2.2 za za) (fun y6 g6=>?_)
  refine Ok.bind (dw _ _ g6.2.2 za za) (fun y7 g7=>?_)
  refine Ok.bind (happ _) (fun y8 g8=>?_)
  subst g8
  rw [w64 (n:=s2-1) za za,w64 (n:=y3.1-3) za za,w64 (n:=y4.1-1) za za,w64 (n:=1+y5.1) za za,hk]
  exact Ok.nx ⟨zc,by simp only [List.length_append,List.length_cons,List.length_nil];omega,hnext (section_ok za za za za za za),g7.2.2⟩ zc
 ·refine Ok.bind (dw _ _ g1.2.2 za za) (fun y2 g2=>?_)
  refine Ok.bind (dw _ _ g2.2.2 za za) (fun y3 g3=>?_)
  refine Ok.bind (happ _) (fun y8 g8=>?_)
  subst g8
  rw [w64 (n:=s2-1) za za,w64 (n:=1+y2.1) za za,show y1.1=2 by omega]
  exact Ok.nx ⟨zc,by simp only [List.length_append,List.length_cons,List.length_nil];omega,hnext (filter_ok za za),g3.2.2⟩ zc
theorem resp_valid{r:aP}(h:nC r):fe r=some true:=by
 obtain⟨hl,hs⟩:=h
 unfold fe
 rw [if_neg so]
 have e1:b9 r.bG=some false:=by
  unfold b9 cG
  rw [kQ r.bG.length (fun i hi=>?_) ?_]
  ·rfl
  ·unfold cq
   rw [if_neg sm]
  ·unfold cq eH
   rw [if_pos so,gZ rfl hi,zd,(hs _ (List.getElem_mem hi)).1,zd,zd,if_neg sm,w64 za za]
   simp
 have e2:fr r.bG=some 1:=by
  unfold fr
  have:Ok (dS (gI r.bG) ((1:Int),(0:Int))) (fun o=>o= .inl 1):=by
   refine Ok.loop (fun s=>s.1=1∧0<=s.2∧s.2<=r.bG.length) (fun s=>((r.bG.length:Int)-s.2).toNat) ?_ ⟨rfl,Int.le_refl _,sm⟩
   rintro⟨s1,s2⟩ ⟨i0,i1,i2⟩
   simp only at i0 i1 i2
   subst i0
   unfold gI
   dsimp only
   refine Ok.gC (fun hlt=>?_) (fun _=>Ok.st rfl)
   refine Ok.bind (Ok.get za za) (fun x hx=>?_)
   rw [w64 (n:=s2+1) za za]
   refine Ok.qQ (fun _=>Ok.nx ⟨rfl,zc,zc⟩ zc) (fun hk=>?_)
   rw [(hs x hx.1).2.1 hk]
   refine Ok.gC (fun hc=>absurd hc (by decide)) (fun _=>?_)
   rw [w64 (n:=1*1) za za]
   exact Ok.nx ⟨rfl,zc,zc⟩ zc
  rw [this.eq];rfl
 rw [e1,zd,if_neg sm,e2];rfl
def RateOk(r:bo):Prop:=r.bw=1∧(r.bI=100∨r.bI=50∨r.bI=51)
theorem rate_valid{r:bo}(h:RateOk r):kT r=some true:=by
 obtain⟨n,d⟩:=r
 obtain⟨h1,h2⟩:=h
 simp only at h1 h2
 subst h1
 unfold kT oS pe
 rcases h2 with rfl|rfl|rfl
 ·rw [rT (n:=4) (o:=(1:Int)) (by kernel_rfl)];rfl
 ·rw [rT (n:=4) (o:=(1:Int)) (by kernel_rfl)];rfl
 ·rw [rT (n:=4) (o:=(1:Int)) (by kernel_rfl)];rfl
structure EpOk(e:av):Prop where
 lo:0<=e.bp
 lt:e.bp<e.fTo
 hi:e.fTo<=10000000
 from_:e.bp<=100000
 rate:RateOk e.gq
 resp:nC e.bN
 pos:eD 60 e.bj
theorem ep_valid{e:av}(h:EpOk e):dp e=some true:=by
 obtain⟨h1,h2,h3, -,h4,h5,⟨p1,p2⟩,⟨p3,p4⟩,p5,p6⟩:=h
 have hin:∀{x a b:Int},a<=x->x<=b->de x a b=some true:=fun h h'=>by
  unfold de;rw [if_pos (by simpa using h)];simpa using h'
 unfold dp
 rw [if_pos (by simpa using h1), if_pos (by simpa using h2), if_pos so, rate_valid h4, zd, if_pos rfl, resp_valid h5, zd, if_pos rfl,
  hin za za,zd,if_pos rfl,hin za za,zd,if_pos rfl,hin za za]
 rfl
structure EpsOk(l:List av):Prop where
 ne:l≠ []
 len:l.length<=3
 all:∀e∈l,EpOk e
 ord:(l.map fun e=>(e.bp,e.fTo)).Pairwise (fun a b=>a.2<=b.1)
 last:∀e,l.getLast?=some e->e.fTo=100000
theorem epochs_valid{l:List av}(h:EpsOk l):e7 l=some true:=by
 have hlen:=h.len
 have hne:=List.length_pos_iff.2 h.ne
 unfold e7
 rw [kQ l.length (fun i hi=>?_) ?_,zd]
 ·dsimp only
  unfold de
  rw [if_pos so,zd]
  simp;omega
 ·unfold d7
  rw [if_neg sm]
 ·unfold d7
  rw [if_pos so,gZ rfl hi,zd,ep_valid (h.all _ (List.getElem_mem hi)),zd,if_neg sm,w64 (n:=(i:Int)+1) za za]
  by_cases h0:i=0
  ·subst h0;rfl
  ·rw [if_pos so,w64 za za,gZ (i:=i-1) za za,zd]
   have:=List.pairwise_iff_getElem.1 h.ord (i-1) i so (by simpa using hi) za
   simp only [List.getElem_map]at this
   rw [if_neg (by simpa using this)]
   simp
def ChOk(c:az):Prop:=IsSid c.aD∧EpsOk c.bM
structure kH(v:ar):Prop where
 len:v.aT.length<=6
 all:∀c∈v.aT,ChOk c
 ord:(v.aT.map (·.aD)).Pairwise (fun a b=>kD a b<0)
 net:∀c∈v.aT,c.aD.a8=[65,66]
theorem kH.inv{v:ar}(h:kH v):InvOk v:=⟨h.len,fun c hc=>⟨(h.all c hc).2.len,fun e he=>((h.all c hc).2.all e he).pos⟩⟩
theorem mh{v:ar}(h:kH v):cN v=some true:=by
 have hlen:=h.len
 unfold cN
 rw [kQ v.aT.length (fun i hi=>?_) ?_,zd]
 ·simp;omega
 ·unfold eF
  rw [if_neg sm]
 ·unfold eF
  obtain⟨c1,c2⟩:=h.all _ (List.getElem_mem hi)
  rw [if_pos so,gZ rfl hi,zd,Sq.Valid_eq (sid_len c1),c1,zd,if_neg sm,epochs_valid c2,zd,if_neg sm,w64 (n:=(i:Int)+1) za za]
  by_cases h0:i=0
  ·subst h0;rfl
  ·rw [if_pos so,w64 za za,gZ (i:=i-1) za za,zd,Sd.kG,zd]
   have:=List.pairwise_iff_getElem.1 h.ord (i-1) i so (by simpa using hi) za
   simp only [List.getElem_map]at this
   rw [if_neg (by simpa using this)]
   simp
def sid(i:Nat):Sid:=⟨[65,66],stas.getD i [],[48,48],[66,72,90]⟩
theorem source_at{n:Int}{i:Nat}(hn:n=i)(hi:i<6):dN n=some (sid i):=by
 subst hn
 have:i=0∨i=1∨i=2∨i=3∨i=4∨i=5:=by omega
 rcases this with rfl|rfl|rfl|rfl|rfl|rfl<;>(show dN _=some _;kernel_rfl)
theorem sid_ok{i:Nat}(hi:i<6):IsSid (sid i):=by
 have:i=0∨i=1∨i=2∨i=3∨i=4∨i=5:=by omega
 rcases this with rfl|rfl|rfl|rfl|rfl|rfl<;>(show Sq.oW _=true;decide+kernel)
theorem sid_lt{i j:Nat}(h:i<j)(hj:j<6):kD (sid i) (sid j)<0:=by
 have h1:i=0∨i=1∨i=2∨i=3∨i=4:=by omega
 have h2:j=1∨j=2∨j=3∨j=4∨j=5:=by omega
 rcases h1 with rfl|rfl|rfl|rfl|rfl<;>rcases h2 with rfl|rfl|rfl|rfl|rfl<;>first|omega|decide+kernel
theorem eps1{e:av}(h:EpOk e)(ht:e.fTo=100000):EpsOk [e]:=⟨sm,sm,by simpa using h,sm,by simpa using ht⟩
theorem eps2{e f:av}(h:EpOk e)(h':EpOk f)(ho:e.fTo<=f.bp)(ht:f.fTo=100000):EpsOk [e,f]:=⟨sm,sm,by simp;exact⟨h,h'⟩,by simpa using ho,by simpa using ht⟩
def SitesI(s:Int×List Int×Int×List az):Prop:=∃i:Nat,s.1=i∧i<=6∧s.2.2.2.map (·.aD)=(List.range i).map sid∧(∀c∈s.2.2.2,EpsOk c.bM∧c.bM.length<=2)∧b7 ⟨s.2.1,s.2.2.1⟩
theorem sitesV{n:Int}(d:Src)(hd:b7 d):Ok (fk n d) (fun r=>(kH r.1∧∀c∈r.1.aT,c.bM.length<=2)∧b7 r.2):=by
 unfold fk
 refine Ok.bind (P:=fun o=>b7 ⟨o.1,o.2.1⟩∧kH ⟨o.2.2⟩∧∀c∈o.2.2,c.bM.length<=2) (Ok.loop SitesI (fun s=>(6-s.1).toNat) ?_ ⟨0,rfl,za,rfl,sm,hd⟩) (fun o ho=>Ok.ret ⟨ho.2,ho.1⟩)
 rintro⟨s1,s2,s3,s4⟩ ⟨i,i0,i1,i2,i3,i4⟩
 simp only at i0 i1 i2 i3 i4
 subst i0
 have hlen:s4.length=i:=by have:=congrArg List.length i2;simpa using this
 unfold gQ
 have happ:∀(x:az),Ok (nJ s4 [x] 88) (fun r=>r=s4++[x]):=fun x=>Ok.app (by simp only [List.length_cons,List.length_nil];omega)
 have hend:kH ⟨s4⟩:=by
  refine⟨zc,fun c hc=>⟨?_,(i3 c hc).1⟩,?_,fun c hc=>?_⟩
  ·have:c.aD∈s4.map (·.aD):=List.mem_map.2 ⟨c,hc,rfl⟩
   rw [i2]at this
   obtain⟨j,hj,e⟩:=List.mem_map.1 this
   rw [<-e]
   exact sid_ok (by have:=List.mem_range.1 hj;omega)
  ·simp only
   rw [i2,List.pairwise_map]
   exact List.pairwise_lt_range.imp_of_mem fun ha hb hab=>sid_lt hab (by have:=List.mem_range.1 hb;omega)
  ·have:c.aD∈s4.map (·.aD):=List.mem_map.2 ⟨c,hc,rfl⟩
   rw [i2]at this
   obtain⟨j,hj,e⟩:=List.mem_map.1 this
   rw [<-e];rfl
 have hnext:∀{l:List av}{t:Src},i<6->EpsOk l∧l.length<=2->b7 t->Ok (some (.next ((i:Int)+1,t.fL,t.fAt,s4++[⟨sid i,l⟩]))) (Ok.S SitesI (fun s=>(6-s.1).toNat) (fun o:List Int×Int×List az=>b7 ⟨o.1,o.2.1⟩∧kH ⟨o.2.2⟩∧∀c∈o.2.2,c.bM.length<=2) ((i:Int),s2,s3,s4)):=fun{l t}hi hl ht=>by
  refine Ok.nx ⟨i+1,sm,za,?_,fun c hc=>?_,ht⟩ zc
  ·simp [List.range_succ,i2]
  ·simp only [List.mem_append,List.mem_singleton]at hc
   rcases hc with hc|rfl
   ·exact i3 c hc
   ·exact hl
 refine Ok.gC (fun hlt=>?_) (fun _=>Ok.st ⟨i4,hend,fun c hc=>(i3 c hc).2⟩)
 refine Ok.gC (fun _=>?_) (fun _=>Ok.st ⟨i4,hend,fun c hc=>(i3 c hc).2⟩)
 have hi:i<6:=by omega
 refine Ok.bind (lx 60 za za _ i4) (fun y1 g1=>?_)
 refine Ok.bind (pf _ g1.2) (fun y2 g2=>?_)
 rw [source_at rfl hi,zd]
 refine Ok.bind (dw _ _ g2.2 za za) (fun y4 g4=>?_)
 rw [w64 (n:=(i:Int)+1) za za]
 have hr:RateOk ⟨100,1⟩:=⟨rfl,.inl rfl⟩
 refine Ok.rN (fun _=>?_) (fun _=>Ok.rN (fun _=>?_) (fun _=>?_))
 ·refine Ok.bind (dw _ _ g4.2.2 za za) (fun y5 g5=>?_)
  refine Ok.bind (lx 60 za za _ g5.2.2) (fun y6 g6=>?_)
  refine Ok.bind (pf _ g6.2) (fun y7 g7=>?_)
  refine Ok.bind (Ok.rK za sm) (fun _ _=>?_)
  refine Ok.bind (Ok.mod za sm) (fun y8 g8=>?_)
  obtain⟨x,hx,rfl⟩:=g8
  simp at hx
  subst hx
  refine Ok.bind (Ok.app sm) (fun y9 g9=>?_)
  subst g9
  refine Ok.bind (happ _) (fun y10 g10=>?_)
  subst g10
  rw [w64 (n:=1500+y5.1) za za]
  exact hnext hi ⟨eps2 ⟨sm,zc,zc,sm,hr,g2.1,g1.1⟩ ⟨zc,zc,sm,zc,hr,g7.1,g6.1⟩ sm sm,sm⟩ g7.2
 ·refine Ok.bind (dw _ _ g4.2.2 za za) (fun y5 g5=>?_)
  refine Ok.bind (Ok.rK za sm) (fun _ _=>?_)
  refine Ok.bind (Ok.mod za sm) (fun y8 g8=>?_)
  obtain⟨x,hx,rfl⟩:=g8
  simp at hx
  subst hx
  refine Ok.bind (happ _) (fun y10 g10=>?_)
  subst g10
  exact hnext hi ⟨eps1 ⟨g5.1,zc,sm,zc,hr,g2.1,g1.1⟩ sm,sm⟩ g5.2.2
 ·refine Ok.bind (happ _) (fun y10 g10=>?_)
  subst g10
  exact hnext hi ⟨eps1 ⟨sm,sm,sm,sm,hr,g2.1,g1.1⟩ sm,sm⟩ g4.2.2
end Go.Dw.Ek
set_option maxRecDepth 100000
set_option maxHeartbeats 4000000
namespace Go.Dw.Ek
open Go.Dw Go.Proofs
open Sd (kD e9 ev)
theorem clone_at{α:Type}{n:Nat}{l:List α}(h:l.length*n<=140737488355328):ru n l=some l:=by
 unfold ru;rw [if_pos h]
def RespLen(r:aP):Prop:=r.bG.length<=1000∧∀x∈r.bG,x.dM.length<=1000
theorem copyEpoch_at{e:av}(h:RespLen e.bN):dK e=some e:=by
 obtain⟨h1,h2⟩:=h
 unfold dK
 rw [clone_at za,zd]
 have:Ok (dS (ex e.bN.bG) ((0:Int),e.bN.bG)) (fun o=>o=e.bN.bG):=by
  refine Ok.loop (fun s=>0<=s.1∧s.1<=e.bN.bG.length∧s.2=e.bN.bG) (fun s=>((e.bN.bG.length:Int)-s.1).toNat) ?_ ⟨Int.le_refl _,sm,rfl⟩
  rintro⟨s2,s3⟩ ⟨i0,i1,i2⟩
  simp only at i0 i1 i2
  subst i2
  unfold ex
  dsimp only
  refine Ok.gC (fun hlt=>?_) (fun _=>Ok.st rfl)
  refine Ok.bind (Ok.rK za za) (fun _ _=>?_)
  refine Ok.bind (Ok.get za za) (fun x hx=>?_)
  have:=h2 x hx.1
  rw [clone_at za,zd]
  refine Ok.bind (Ok.rK za za) (fun _ _=>?_)
  refine Ok.bind (Ok.mod za za) (fun y hy=>?_)
  obtain⟨z,hz,rfl⟩:=hy
  obtain rfl:x=z:=by rw [hx.2]at hz;exact Option.some.inj hz
  rw [w64 za za]
  refine Ok.nx ⟨zc,zc,?_⟩ zc
  obtain⟨hk,e⟩:=List.getElem?_eq_some_iff.1 hx.2
  simp only
  conv=>lhs;rw [<-e]
  exact List.set_getElem_self hk
 rw [this.eq];rfl
def ChLen(c:az):Prop:=c.bM.length<=1000∧∀e∈c.bM,RespLen e.bN
theorem copied_at{c:az}(h:ChLen c):eZ c=some c:=by
 obtain⟨h1,h2⟩:=h
 unfold eZ
 rw [clone_at za,zd]
 have:Ok (dS (d6 c.bM) ((0:Int),c.bM)) (fun o=>o=c.bM):=by
  refine Ok.loop (fun s=>0<=s.1∧s.1<=c.bM.length∧s.2=c.bM) (fun s=>((c.bM.length:Int)-s.1).toNat) ?_ ⟨Int.le_refl _,sm,rfl⟩
  rintro⟨s2,s3⟩ ⟨i0,i1,i2⟩
  simp only at i0 i1 i2
  subst i2
  unfold d6
  dsimp only
  refine Ok.gC (fun hlt=>?_) (fun _=>Ok.st rfl)
  refine Ok.bind (Ok.rK za za) (fun _ _=>?_)
  refine Ok.bind (Ok.get za za) (fun x hx=>?_)
  rw [copyEpoch_at (h2 x hx.1),zd]
  refine Ok.bind (Ok.rK za za) (fun _ _=>?_)
  refine Ok.bind (Ok.set za za) (fun y hy=>?_)
  subst hy
  rw [w64 za za]
  refine Ok.nx ⟨zc,zc,?_⟩ zc
  obtain⟨hk,e⟩:=List.getElem?_eq_some_iff.1 hx.2
  simp only
  conv=>lhs;rw [<-e]
  exact List.set_getElem_self hk
 rw [this.eq];rfl
structure InvLen(v:ar):Prop where
 len:v.aT.length<=1000
 all:∀c∈v.aT,ChLen c
theorem kH.lens{v:ar}(h:kH v):InvLen v:=by
 refine⟨by have:=h.len;omega,fun c hc=>?_⟩
 have hE:=(h.all c hc).2
 refine⟨by have:=hE.len;omega,fun e he=>?_⟩
 have hR:=(hE.all e he).resp
 exact⟨by have:=hR.1;omega,fun x hx=>by have:=(hR.2 x hx).2.2.1;omega⟩
def zCh:az:=⟨⟨[],[],[],[]⟩,[]⟩
def zEp:av:=⟨0,0,⟨0,0⟩,⟨0,0,0⟩,⟨[]⟩⟩
def chan(v:ar)(s:Sid):Option az:=v.aT.find? fun c=>decide (c.aD=s)
def epIn(l:List av)(t:Int):Option av:=l.find? fun e=>decide (e.bp<=t∧t<e.fTo)
def epAt(v:ar)(s:Sid)(t:Int):Option av:=(chan v s).bind fun c=>epIn c.bM t
theorem Find_eq{v:ar}(hv:InvLen v)(s:Sid):gc v s=some (match chan v s with|none=>(zCh,false)|some c=>(c,true)):=by
 have hl:=hv.len
 unfold gc
 rw [loop_find v.aT (p:=fun c=>decide (c.aD=s)) (f:=fun c=>(c,true)) (fun i hi=>?_) ?_,zd]
 ·unfold chan
  cases v.aT.find? fun c=>decide (c.aD=s)<;>rfl
 ·unfold fA
  rw [if_neg sm]
 ·unfold fA
  rw [if_pos so,gZ rfl hi,zd,Sd.eqs,copied_at (hv.all _ (List.getElem_mem hi)),zd,w64 za za]
  simp
theorem at_eq{c:az}(hc:c.bM.length<=1000)(t:Int):iO c t=some (match epIn c.bM t with|none=>(zEp,false)|some e=>(e,true)):=by
 unfold iO
 rw [loop_find c.bM (p:=fun e=>decide (e.bp<=t∧t<e.fTo)) (f:=fun e=>(e,true)) (fun i hi=>?_) ?_,zd]
 ·unfold epIn
  cases c.bM.find? fun e=>decide (e.bp<=t∧t<e.fTo)<;>rfl
 ·unfold jq
  rw [if_neg sm]
 ·unfold jq
  rw [if_pos so,gZ rfl hi,zd,w64 za za]
  by_cases h1:c.bM[i].bp<=t<;>by_cases h2:t<c.bM[i].fTo<;>simp [h1,h2]
theorem chan_mem{v:ar}{s:Sid}{c:az}(h:chan v s=some c):c∈v.aT∧c.aD=s:=by
 unfold chan at h
 exact⟨List.mem_of_find?_eq_some h,by simpa using List.find?_some h⟩
theorem epIn_mem{l:List av}{t:Int}{e:av}(h:epIn l t=some e):e∈l∧e.bp<=t∧t<e.fTo:=by
 unfold epIn at h
 have:=List.find?_some h
 simp only [decide_eq_true_eq]at this
 exact⟨List.mem_of_find?_eq_some h,this⟩
theorem At_eq{v:ar}(hv:InvLen v)(hV:cN v=some true)(s:Sid)(t:Int):iN v s t=some (match epAt v s t with|none=>(zEp,6)|some e=>(e,0)):=by
 unfold iN
 rw [hV,zd,if_neg sm,Find_eq hv,zd]
 unfold epAt
 cases hc:chan v s with
 |none=>
  dsimp only
  rw [at_eq (by simp [zCh])]
  rfl
 |some c=>
  dsimp only
  rw [at_eq (hv.all c (chan_mem hc).1).1,zd,zd]
  cases epIn c.bM t<;>rfl
end Go.Dw.Ek
set_option maxRecDepth 100000
set_option maxHeartbeats 4000000
namespace Go.Dw.Ek
open Go.Dw Go.Proofs
def bitsL:List Int:=[1,2,4,8,16,32,64,128]
theorem or_at:∀b∈bitsL,∀m:Nat,m<128->2*b*m+2*b<=256->orI .i64 (2*b*m) b=2*b*m+b:=by decide+kernel
theorem half_bit:∀b∈bitsL,(b=1∧jS .i64 b 1=0)∨(jS .i64 b 1∈bitsL∧2*jS .i64 b 1=b):=by decide+kernel
theorem bit_pos:∀b∈bitsL,1<=b∧b<=128:=by decide
theorem sq_lt{x n:Int}(hx:0<x)(hn:0<=n):x<=n.tdiv x↔x*x<=n:=by
 rw [Int.tdiv_eq_ediv_of_nonneg hn,Int.le_ediv_iff_mul_le hx]
def FI(n:Int)(s:Int×Int):Prop:=
 (s.2=0∧(0<=s.1∧s.1<=255)∧s.1*s.1<=n∧n<(s.1+1)*(s.1+1))∨
 (s.2∈bitsL∧∃m:Nat,s.1=2*s.2*m∧m<128∧s.1+2*s.2<=256∧s.1*s.1<=n∧n<(s.1+2*s.2)*(s.1+2*s.2))
theorem floor_loop(n:Int)(h0:0<n)(h1:n<=65535)(s:Int×Int)(hs:FI n s):Ok (dS (gy n) s) (fun r=>(0<=r∧r<=255)∧r*r<=n∧n<(r+1)*(r+1)):=by
 refine Ok.loop (FI n) (fun s=>s.2.toNat) ?_ hs
 rintro⟨r,b⟩ h
 unfold gy
 dsimp only
 rcases h with⟨e,h2,h3,h4⟩|⟨hb,m,hr,hm,h2,h3,h4⟩
 ·simp only at e h2 h3 h4
  subst e
  rw [if_neg sm]
  exact Ok.st ⟨h2,h3,h4⟩
 ·simp only at hb hr h2 h3 h4
  have hbp:=bit_pos b hb
  have hbm:0<=2*b*m:=Int.mul_nonneg za za
  have hor:orI .i64 r b=r+b:=by rw [hr];exact or_at b hb m hm za
  have hm2:2*b*m<=256-2*b:=by omega
  have hmb:b*m<=127:=by
   rw [Int.mul_assoc]at hm2;omega
  rw [if_pos so,hor]
  refine Ok.bind (Ok.quo za) (fun q hq=>?_)
  have hq0:0<=n.tdiv (r+b):=Int.tdiv_nonneg za za
  have hq1:n.tdiv (r+b)<=n:=Int.tdiv_le_self _ za
  rw [w64 za za]at hq
  subst hq
  have hfin:∀(x:Int)(k:Nat),(x=2*b*m∧k=2*m)∨(x=2*b*m+b∧k=2*m+1)->x*x<=n->n<(x+b)*(x+b)->Ok (some (fK.next (x,jS .i64 b 1))) (Ok.S (FI n) (fun s=>s.2.toNat) (fun r:Int=>(0<=r∧r<=255)∧r*r<=n∧n<(r+1)*(r+1)) (r,b)):=fun x k hx g1 g2=>by
   rcases half_bit b hb with⟨e1,e2⟩|⟨e1,e2⟩
   ·rw [e2]
    subst e1
    refine Ok.nx (.inl ⟨rfl,⟨zc,zc⟩,g1,g2⟩) zc
   ·have hbp':=bit_pos _ e1
    generalize jS .i64 b 1=b' at*
    subst e2
    refine Ok.nx (.inr ⟨e1,k,?_,?_,zc,g1,g2⟩) zc
    ·simp only
     rcases hx with⟨rfl,rfl⟩|⟨rfl,rfl⟩
     ·rw [Int.natCast_mul]
      simp only [Int.mul_assoc,Int.mul_left_comm]
      rfl
     ·rw [Int.natCast_add,Int.natCast_mul,Int.mul_add]
      have:2*b'*((2:Nat)*(m:Int))=2*(2*b')*m:=by
       simp only [Int.mul_assoc,Int.mul_left_comm];rfl
      rw [this];simp
    ·have:2*b'*m<=127:=hmb
     have h5:(m:Int)<=b'*m:=by
      have:=Int.mul_le_mul_of_nonneg_right (show(1:Int)<=b' by omega) (show(0:Int)<=(m:Int)by omega)
      omega
     rw [Int.mul_assoc]at this
     omega
  refine Ok.gC (fun hle=>?_) (fun hgt=>?_)
  ·rw [sq_lt za za]at hle
   exact hfin _ (2*m+1) (.inr ⟨by rw [hr],rfl⟩) hle (by rw [show r+b+b=r+2*b by omega];exact h4)
  ·rw [sq_lt za za]at hgt
   exact hfin _ (2*m) (.inl ⟨hr,rfl⟩) h3 (Int.not_le.1 hgt)
theorem len_lo:(List.range 256).all (fun n=>decide (n=0)||match il (n:Int)with|some L=>decide (1<=L∧L<=16)&&decide ((n:Int)<2 ^ L.toNat)|none=>false)=true:=by kernel_rfl
theorem len_hi:(List.range 256).all (fun n=>decide (n=0)||match il ((n*256:Nat):Int)with|some L=>decide (1<=L∧L<=16)&&decide (((n*256+255:Nat):Int)<2 ^ L.toNat)|none=>false)=true:=by kernel_rfl
theorem shr8{n:Int}(h0:0<=n):jS .u64 n 8=n / 256:=by
 show n.fdiv (2 ^ (min (8:Int).toNat 64))=n / 256
 rw [Int.fdiv_eq_ediv_of_nonneg _ (by decide)]
 rfl
theorem len_same{n:Int}(h0:256<=n)(h1:n<=65535):fW n=fW (n / 256*256):=by
 unfold fW mm f4 gR
 rw [if_neg so,if_neg so,if_pos so,if_neg so,if_neg so,if_pos so,shr8 za,shr8 za]
 rw [show n / 256*256 / 256=n / 256 by omega]
theorem len_ok{n:Int}(h0:1<=n)(h1:n<=65535):Ok (fW n) (fun L=>(1<=L∧L<=16)∧n<2 ^ L.toNat):=by
 obtain⟨n,rfl⟩:∃k:Nat,n=k:=⟨n.toNat,za⟩
 by_cases h:n<256
 ·have:=List.all_eq_true.1 len_lo n (List.mem_range.2 h)
  simp only [Bool.or_eq_true,decide_eq_true_eq]at this
  rcases this with h|h
  ·omega
  ·cases e:il (n:Int)with
   |none=>rw [e]at h;cases h
   |some L=>
    rw [e]at h
    simp only [Bool.and_eq_true,decide_eq_true_eq]at h
    exact⟨L,bits_Len_le _ _ e,h.1,h.2⟩
 ·have hm:n / 256<256:=by omega
  have:=List.all_eq_true.1 len_hi (n / 256) (List.mem_range.2 hm)
  simp only [Bool.or_eq_true,decide_eq_true_eq]at this
  rcases this with h'|h'
  ·omega
  ·cases e:il ((n / 256*256:Nat):Int)with
   |none=>rw [e]at h';cases h'
   |some L=>
    rw [e]at h'
    simp only [Bool.and_eq_true,decide_eq_true_eq]at h'
    refine⟨L,?_,h'.1,?_⟩
    ·rw [len_same za h1]
     have:((n:Int) / 256*256)=((n / 256*256:Nat):Int):=by omega
     rw [this]
     exact bits_Len_le _ _ e
    ·have:=h'.2
     have h5:(n:Int)<=((n / 256*256+255:Nat):Int):=by omega
     exact Int.lt_of_le_of_lt h5 this
theorem start_at:∀L:Nat,L<17->1<=L->∃q b,rr .i64 (IntKind.wrap .i64 ((L:Int)-1)) 2=some q∧xh .i64 1 q=some b∧b∈bitsL∧(2:Int) ^ L<=(0+2*b)*(0+2*b):=by
 intro L h1 h2
 have:L=1∨L=2∨L=3∨L=4∨L=5∨L=6∨L=7∨L=8∨L=9∨L=10∨L=11∨L=12∨L=13∨L=14∨L=15∨L=16:=by omega
 have hs:∀(q b:Int),0<=q->shlI .i64 1 q=b->xh .i64 1 q=some b:=fun q b h e=>by unfold xh;rw [if_neg za,e]
 have hq:∀(x q:Int),IntKind.wrap .i64 ((IntKind.wrap .i64 x).tdiv 2)=q->rr .i64 (IntKind.wrap .i64 x) 2=some q:=fun x q e=>by unfold rr;rw [if_neg za,e]
 rcases this with rfl|rfl|rfl|rfl|rfl|rfl|rfl|rfl|rfl|rfl|rfl|rfl|rfl|rfl|rfl|rfl
 ·exact⟨0,1,hq _ _ (by decide),hs _ _ (by decide) (by decide),by decide,by decide⟩
 ·exact⟨0,1,hq _ _ (by decide),hs _ _ (by decide) (by decide),by decide,by decide⟩
 ·exact⟨1,2,hq _ _ (by decide),hs _ _ (by decide) (by decide),by decide,by decide⟩
 ·exact⟨1,2,hq _ _ (by decide),hs _ _ (by decide) (by decide),by decide,by decide⟩
 ·exact⟨2,4,hq _ _ (by decide),hs _ _ (by decide) (by decide),by decide,by decide⟩
 ·exact⟨2,4,hq _ _ (by decide),hs _ _ (by decide) (by decide),by decide,by decide⟩
 ·exact⟨3,8,hq _ _ (by decide),hs _ _ (by decide) (by decide),by decide,by decide⟩
 ·exact⟨3,8,hq _ _ (by decide),hs _ _ (by decide) (by decide),by decide,by decide⟩
 ·exact⟨4,16,hq _ _ (by decide),hs _ _ (by decide) (by decide),by decide,by decide⟩
 ·exact⟨4,16,hq _ _ (by decide),hs _ _ (by decide) (by decide),by decide,by decide⟩
 ·exact⟨5,32,hq _ _ (by decide),hs _ _ (by decide) (by decide),by decide,by decide⟩
 ·exact⟨5,32,hq _ _ (by decide),hs _ _ (by decide) (by decide),by decide,by decide⟩
 ·exact⟨6,64,hq _ _ (by decide),hs _ _ (by decide) (by decide),by decide,by decide⟩
 ·exact⟨6,64,hq _ _ (by decide),hs _ _ (by decide) (by decide),by decide,by decide⟩
 ·exact⟨7,128,hq _ _ (by decide),hs _ _ (by decide) (by decide),by decide,by decide⟩
 ·exact⟨7,128,hq _ _ (by decide),hs _ _ (by decide) (by decide),by decide,by decide⟩
theorem floor_ok(n:Int)(h1:n<=65535):Ok (fc n) (fun r=>(0<=r∧r<=255)∧(0<=n->r*r<=n)∧n<(r+1)*(r+1)):=by
 unfold fc
 refine Ok.gC (fun h=>Ok.ret ⟨⟨za,za⟩,fun h'=>za,so⟩) (fun h=>?_)
 have hw:IntKind.wrap .u64 n=n:=IntWalk.u64_in _ za
 rw [hw]
 refine Ok.bind (len_ok za h1) (fun L hL=>?_)
 obtain⟨⟨l0,l1⟩,l2⟩:=hL
 obtain⟨L,rfl⟩:∃k:Nat,L=k:=⟨L.toNat,za⟩
 obtain⟨q,b,e1,e2,e3,e4⟩:=start_at L za za
 rw [e1,zd,e2,zd]
 have hb:=bit_pos b e3
 refine Ok.bind (floor_loop n za h1 (0,b) (.inr ⟨e3,0,sm,za,zc,zc,?_⟩)) (fun r hr=>Ok.ret ⟨hr.1,fun _=>hr.2.1,hr.2.2⟩)
 simp only
 rw [Int.toNat_natCast]at l2
 exact Int.lt_of_lt_of_le l2 e4
theorem lt_of_sq{x s:Int}(hs:0<=s)(h:x*x<s*s):x<s:=by
 apply Classical.byContradiction
 intro hn
 have:s*s<=x*x:=Int.mul_le_mul za za hs za
 omega
theorem ceil_ok(n:Int)(h0:0<=n)(h1:n<=65535):Ok (gU n) (fun r=>(0<=r∧r<=256)∧n<=r*r∧∀s,0<=s->n<=s*s->r<=s):=by
 unfold gU
 refine Ok.bind (floor_ok n h1) (fun x hx=>?_)
 obtain⟨⟨a0,a1⟩,a2,a3⟩:=hx
 have:=a2 h0
 have hxx:0<=x*x:=Int.mul_nonneg a0 a0
 rw [w64 (n:=x*x) za za,w64 (n:=x+1) za za]
 refine Ok.gC (fun hlt=>Ok.ret ⟨⟨za,za⟩,Int.le_of_lt a3,fun s hs hns=>?_⟩) (fun hge=>Ok.ret ⟨⟨za,za⟩,za,fun s hs hns=>?_⟩)
 ·have:=lt_of_sq (x:=x) hs za;omega
 ·apply Classical.byContradiction
  intro hc
  have := lt_of_sq (x := s) a0 (by
   have h2:s*s<=(x-1)*(x-1):=Int.mul_le_mul za za hs za
   have h3:(x-1)*(x-1)=x*x-2*x+1:=by rw [Int.sub_mul,Int.mul_sub];omega
   omega)
  have h2:s*s<=(x-1)*(x-1):=Int.mul_le_mul za za hs za
  have h3:(x-1)*(x-1)=x*x-2*x+1:=by rw [Int.sub_mul,Int.mul_sub];omega
  omega
end Go.Dw.Ek
set_option maxRecDepth 100000
set_option maxHeartbeats 4000000
namespace Go.Dw.Ek
open Go.Dw Go.Proofs
theorem get1{α:Type}(A:List α)(y:α)(T:List α){n:Int}(hn:n=A.length):eQ (A++y::T) n=some y:=by
 rw [gZ (i:=A.length) hn sm]
 simp
theorem set1{α:Type}(A:List α)(y z:α)(T:List α){n:Int}(hn:n=A.length):sj (A++y::T) n z=some (A++z::T):=by
 rw [uF (i:=A.length) hn sm]
 simp
structure oi(t:aI):Prop where
 step:1<=t.bn∧t.bn<=100
 len:2<=t.aL.length∧t.aL.length<=30
 same:t.aF.length=t.aL.length
 low:t.aL.Pairwise (· <= ·)
 high:t.aF.Pairwise (· <= ·)
 lows:∀x∈t.aL,0<=x
 highs:∀x∈t.aF,0<=x∧x<=5000
 lh:∀(i:Nat)(h:i<t.aL.length)(h':i<t.aF.length),t.aL[i]<=t.aF[i]
 far:400<=t.bn*((t.aL.length:Int)-1)
 lowb:∀x∈t.aL,x<=1500
theorem gp{t:aI}(h:oi t):cz t=some 0:=by
 obtain⟨h1,h2,h3,h4,h5,h6,h7,h8, -⟩:=h
 refine Ok.eq ?_
 unfold cz
 refine Ok.gC (fun _=>za) (fun _=>Ok.gC (fun _=>za) (fun _=>Ok.qQ (fun h=>za) (fun _=>Ok.gC (fun _=>za) (fun _=>Ok.gC (fun _=>za) (fun _=>?_)))))
 refine Ok.bind (P:=fun o=>o= .inl ()) (Ok.loop (fun s=>∃i:Nat,s.2.2=i∧i<=t.aL.length∧(∀(j:Nat)(hj:j<t.aL.length),i<=j->s.1<=t.aL[j])∧(∀(j:Nat)(hj:j<t.aF.length),i<=j->s.2.1<=t.aF[j])) (fun s=>((t.aL.length:Int)-s.2.2).toNat) ?_ ⟨0,rfl,Nat.zero_le _,fun j hj _=>h6 _ (List.getElem_mem hj),fun j hj _=>(h7 _ (List.getElem_mem hj)).1⟩) (fun o ho=>by subst ho;exact Ok.ret rfl)
 rintro⟨s1,s2,s3⟩ ⟨i,i0,i1,i2,i3⟩
 simp only at i0 i2 i3
 subst i0
 unfold jc
 dsimp only
 refine Ok.gC (fun hlt=>?_) (fun _=>Ok.st rfl)
 have hi:i<t.aL.length:=by omega
 have hi':i<t.aF.length:=by omega
 have:=i2 i hi (Nat.le_refl _)
 have:=i3 i hi' (Nat.le_refl _)
 have:=h8 i hi hi'
 have:=(h7 _ (List.getElem_mem hi')).2
 simp only [gZ (i:=i) rfl hi,gZ (i:=i) rfl hi',zd]
 refine Ok.gC (fun _=>za) (fun _=>Ok.gC (fun _=>za) (fun _=>Ok.gC (fun _=>za) (fun _=>Ok.gC (fun _=>za) (fun _=>?_))))
 rw [w64 za za]
 refine Ok.nx ⟨i+1,sm,za,fun j hj h=>?_,fun j hj h=>?_⟩ zc
 ·exact List.pairwise_iff_getElem.1 h4 i j hi hj za
 ·exact List.pairwise_iff_getElem.1 h5 i j hi' hj za
theorem snoc_le{l:List Int}{x:Int}(h:l.Pairwise (· <= ·))(hx:∀y∈l,y<=x):(l++[x]).Pairwise (· <= ·):=
 List.pairwise_append.2 ⟨h,sm,fun a ha b hb=>by rw [List.mem_singleton.1 hb];exact hx a ha⟩
structure TI(d:Src)(lo hi k:Int)(L H:List Int):Prop where
 ck:0<=k∧k<=23
 ll:L.length=k.toNat
 hl:H.length=k.toNat
 clo:0<=lo∧lo<=60*k
 chi:0<=hi∧hi<=100*k+2
 cd:b7 d
 pl:L.Pairwise (· <= ·)
 ph:H.Pairwise (· <= ·)
 ls:∀x∈L,0<=x∧x<=lo
 hs:∀x∈H,0<=x∧x<=hi
 lh:lo<=hi
 le:∀(i:Nat)(h:i<L.length)(h':i<H.length),L[i]<=H[i]
theorem tableV(d:Src)(hd:b7 d):Ok (iJ d) (fun r=>oi r.1∧b7 r.2):=by
 unfold iJ
 refine Ok.bind (dZ _ d hd sm sm) (fun x1 h1=>?_)
 obtain⟨hst,h1⟩:=h1
 have hst:x1.1=20∨x1.1=25∨x1.1=40∨x1.1=100:=by simpa using hst
 refine Ok.bind (dw _ _ h1 za za) (fun x2 h2=>?_)
 have hq:∃q,IntKind.wrap .i64 ((400:Int).tdiv x1.1)=q∧(4<=q∧x1.1*q=400)∧q<=20:=by
  rcases hst with e|e|e|e<;>rw [e]<;>exact⟨_,rfl,⟨by decide,by decide⟩,by decide⟩
 have hp:∃q,IntKind.wrap .i64 (x1.1.tdiv 4)=q∧0<=q∧q<=25:=by
  rcases hst with e|e|e|e<;>rw [e]<;>exact⟨_,rfl,by decide,by decide⟩
 obtain⟨q,hq,⟨q0,qf⟩,q1⟩:=hq
 obtain⟨p,hp,p0,p1⟩:=hp
 refine Ok.bind (P:=fun o=>b7 ⟨o.1,o.2.1⟩∧oi ⟨x1.1,o.2.2.1,o.2.2.2⟩)
  (Ok.loop (fun s=>TI ⟨s.2.2.2.1,s.2.2.2.2.1⟩ s.1 s.2.1 s.2.2.1 s.2.2.2.2.2.1 s.2.2.2.2.2.2) (fun s=>(23-s.2.2.1).toNat) ?_ ⟨⟨sm,sm⟩,rfl,rfl,⟨sm,sm⟩,⟨zc,zc⟩,h2.2.2,sm,sm,sm,sm,zc,sm⟩) ?_
 ·rintro⟨s3,s4,s5,s6,s7,s8,s9⟩ hI
  simp only at hI
  obtain⟨i0,i1,i2,i3,i4,i5,i6,i7,i8,i9,i10,i11⟩:=hI
  unfold jd
  refine Ok.bind (Ok.quo za) (fun y1 g1=>?_)
  rw [hq]at g1;subst g1
  refine Ok.bind (dw _ _ i5 za za) (fun y2 g2=>?_)
  rw [w64 (n:=y1+y2.1) za za]
  refine Ok.gC (fun hle=>?_) (fun hgt=>?_)
  ·refine Ok.bind (Ok.app (by simp only [List.length_cons,List.length_nil];omega)) (fun y3 g3=>?_)
   refine Ok.bind (Ok.app (by simp only [List.length_cons,List.length_nil];omega)) (fun y4 g4=>?_)
   refine Ok.bind (dZ _ _ g2.2.2 sm sm) (fun y5 g5=>?_)
   refine Ok.bind (Ok.quo za) (fun y6 g6=>?_)
   rw [hp]at g6;subst g6
   refine Ok.bind (dZ _ _ g5.2 sm sm) (fun y7 g7=>?_)
   have a1:0<=y5.1∧y5.1<=35:=by have:=g5.1;simp at this;omega
   have a2:0<=y7.1∧y7.1<=30:=by have:=g7.1;simp at this;omega
   rw [w64 (n:=y5.1+y6) za za,w64 (n:=s3+(y5.1+y6)) za za,w64 (n:=s5+1) za za,w64 (by split<;>omega) (by split<;>omega)]
   subst g3 g4
   refine Ok.nx ⟨⟨zc,zc⟩,?_,?_,⟨zc,zc⟩,⟨by simp only;split<;>omega,by simp only;split<;>omega⟩,g7.2,snoc_le i6 fun y hy=>(i8 y hy).2,snoc_le i7 fun y hy=>(i9 y hy).2,?_,?_,by simp only;split<;>omega,?_⟩ zc
   ·simp only [List.length_append,List.length_cons,List.length_nil];omega
   ·simp only [List.length_append,List.length_cons,List.length_nil];omega
   ·intro x hx
    simp only [List.mem_append,List.mem_singleton]at hx
    rcases hx with hx|rfl
    ·have:=i8 x hx;simp only;omega
    ·simp only;omega
   ·intro x hx
    simp only [List.mem_append,List.mem_singleton]at hx
    rcases hx with hx|rfl
    ·have:=i9 x hx;simp only;split<;>omega
    ·simp only;split<;>omega
   ·intro i h h'
    simp only [List.length_append,List.length_cons,List.length_nil]at h h'
    by_cases hi:i<s8.length
    ·rw [List.getElem_append_left hi,List.getElem_append_left za]
     exact i11 i hi za
    ·have e1:i=s8.length:=by omega
     rw [List.getElem_append_right za,List.getElem_append_right za]
     simp only [List.getElem_singleton];omega
  ·refine Ok.st ⟨g2.2.2,⟨zc,zc⟩,⟨zc,zc⟩,zc,i6,i7,fun x hx=>(i8 x hx).1,fun x hx=>by have:=i9 x hx;omega,i11,?_,fun x hx=>by have:=i8 x hx;omega⟩
   rw [<-qf]
   exact Int.mul_le_mul_of_nonneg_left zc za
 ·intro o ho
  exact Ok.ret ⟨ho.2,ho.1⟩
theorem reg_ok{k:Int}(hk:0<=k∧k<=4)(d:Src)(hd:b7 d):Ok (nD 20 k d) (fun r=>eD 20 r.1.aL):=by
 unfold nD
 rw [w64 (n:=k+1) za za]
 refine Ok.bind (lx 20 za za d hd) (fun y0 g0=>?_)
 refine Ok.bind (dw _ _ g0.2 za za) (fun y1 g1=>?_)
 refine Ok.bind (dw _ _ g1.2.2 za za) (fun y2 g2=>?_)
 refine Ok.bind (dw _ _ g2.2.2 za za) (fun y3 g3=>?_)
 exact Ok.ret g0.1
theorem assocV{k:Int}(hk:0<=k∧k<=4)(d:Src)(hd:b7 d):Ok (dL k d) (fun r=>((fu r.1.aO∧eD 20 r.1.aO.aL)∧oi r.1.bi∧(1<=r.1.da∧r.1.da<=1000)∧(0<=r.1.bS∧r.1.bS<=1000)∧(0<=r.1.cB∧r.1.cB<=5000)∧(0<=r.1.lC∧r.1.lC<=1000)∧(2<=r.1.cw∧r.1.cw<=3))∧b7 r.2):=by
 unfold dL
 refine Ok.bind ((box_ok 20 k za za za za d hd).both (reg_ok hk d hd)) (fun x1 h1=>?_)
 refine Ok.bind (tableV _ h1.1.2) (fun x2 h2=>?_)
 refine Ok.bind (dZ _ _ h2.2 sm sm) (fun x3 h3=>?_)
 refine Ok.bind (dZ _ _ h3.2 sm sm) (fun x4 h4=>?_)
 refine Ok.bind (dZ _ _ h4.2 sm sm) (fun x5 h5=>?_)
 refine Ok.bind (dZ _ _ h5.2 sm sm) (fun x6 h6=>?_)
 refine Ok.bind (dw _ _ h6.2 za za) (fun x7 h7=>?_)
 have a3:=h3.1
 have a4:=h4.1
 have a5:=h5.1
 have a6:=h6.1
 simp at a3 a4 a5 a6
 rw [w64 (n:=2+x7.1) za za]
 exact Ok.ret ⟨⟨⟨h1.1.1,h1.2⟩,h2.1,zc,zc,zc,zc,zc⟩,h7.2.2⟩
theorem third{x:Int}(h:0<=x)(h':x<=1000000):IntKind.wrap .i64 (x.tdiv 3)=x / 3:=by
 rw [Int.tdiv_eq_ediv_of_nonneg h,w64 za za]
theorem tab_third{t:aI}(h:oi t):oi ⟨t.bn,t.aL.map (· / 3),t.aF.map (· / 3)⟩:=by
 obtain⟨h1,h2,h3,h4,h5,h6,h7,h8,h9,h10⟩:=h
 refine⟨h1,by simpa using h2,by simpa using h3,?_,?_,?_,?_,?_,by simpa using h9,fun x hx=>by obtain⟨y,hy,rfl⟩:=List.mem_map.1 hx;have:=h10 y hy;have:=h6 y hy;omega⟩
 ·rw [List.pairwise_map];exact h4.imp fun h=>by omega
 ·rw [List.pairwise_map];exact h5.imp fun h=>by omega
 ·intro x hx
  obtain⟨y,hy,rfl⟩:=List.mem_map.1 hx
  have:=h6 y hy;omega
 ·intro x hx
  obtain⟨y,hy,rfl⟩:=List.mem_map.1 hx
  have:=h7 y hy;omega
 ·intro i h h'
  simp only [List.length_map]at h h'
  simp only [List.getElem_map]
  have:=h8 i h h';omega
theorem scaleV(d:Src)(hd:b7 d):Ok (jF d) (fun r=>(oi r.1.b8∧(0<=r.1.bI∧r.1.bI<=20)∧(1<=r.1.bw∧r.1.bw<=20))∧b7 r.2):=by
 unfold jF
 refine Ok.bind (tableV _ hd) (fun x1 h1=>?_)
 refine Ok.bind (dw _ _ h1.2 za za) (fun x2 h2=>?_)
 refine Ok.bind (dw _ _ h2.2.2 za za) (fun x3 h3=>?_)
 have hT:=h1.1
 have hl:=hT.len;have hs:=hT.same
 generalize hL:x1.1.aL=L at*
 generalize hH:x1.1.aF=H at*
 refine Ok.bind (P:=fun o=>o=(L.map (· / 3),H.map (· / 3))) (Ok.loop (fun s:Int×List Int×List Int=>∃i:Nat,s=((i:Int),(L.take i).map (· / 3)++L.drop i,(H.take i).map (· / 3)++H.drop i)∧i<=L.length) (fun s=>((L.length:Int)-s.1).toNat) ?_ ⟨0,sm,Nat.zero_le _⟩) (fun o ho=>?_)
 ·rintro s ⟨i,rfl,hi⟩
  unfold k8
  dsimp only
  rw [hL]
  refine Ok.gC (fun hlt=>?_) (fun hge=>?_)
  ·have hi:i<L.length:=by omega
   have hi':i<H.length:=by omega
   have b1:=hT.lows (L[i]) (by rw [hL];exact List.getElem_mem hi)
   have b2:=hT.highs (H[i]) (by rw [hH];exact List.getElem_mem hi')
   have b3:=hT.lh i (by rw [hL];exact hi) (by rw [hH];exact hi')
   simp only [hL,hH]at b3
   have hdrop:∀{M:List Int}(h:i<M.length),(M.take i).map (· / 3)++M.drop i=(M.take i).map (· / 3)++M[i]::M.drop (i+1):=fun{M}h=>by rw [List.drop_eq_getElem_cons h]
   have hlen:∀{M:List Int},i<M.length->((M.take i).map (· / 3)).length=i:=fun{M}h=>by simp;omega
   have hset:∀{M:List Int}(h:i<M.length),(M.take i).map (· / 3)++M[i] / 3::M.drop (i+1)=(M.take (i+1)).map (· / 3)++M.drop (i+1):=fun{M}h=>by
    rw [jy h,List.map_append,List.append_assoc];rfl
   rw [hdrop hi,hdrop hi']
   have n1:∀{M:List Int}(h:i<M.length)(z:Int),inO ((M.take i).map (· / 3)++z::M.drop (i+1)) (i:Int)=some ():=fun{M}h z=>qA za (by rw [List.length_append,hlen h];simp;omega)
   rw [n1 hi,zd,get1 _ _ _ (by rw [hlen hi]),zd]
   refine Ok.bind (Ok.quo za) (fun y2 g2=>?_)
   rw [third b1 za]at g2
   subst g2
   rw [n1 hi',zd,get1 _ _ _ (by rw [hlen hi']),zd]
   refine Ok.bind (Ok.quo za) (fun y4 g4=>?_)
   rw [third b2.1 za]at g4
   subst g4
   rw [zd,set1 _ _ _ _ (by rw [hlen hi]),zd,zd,set1 _ _ _ _ (by rw [hlen hi']),zd,w64 za za,hset hi,hset hi']
   exact Ok.nx ⟨i+1,sm,za⟩ zc
  ·have:i=L.length:=by omega
   subst this
   refine Ok.st ?_
   rw [List.take_length,List.drop_length,List.append_nil,List.take_of_length_le za,List.drop_of_length_le za,List.append_nil]
 ·subst ho
  rw [w64 (n:=1+x3.1) za za]
  have:=tab_third hT
  rw [hL,hH]at this
  exact Ok.ret ⟨⟨this,zc,zc⟩,h3.2.2⟩
structure iH(s:ap):Prop where
 box:fu s.ah.aO
 reg:eD 20 s.ah.aO.aL
 tab:oi s.ah.bi
 cap:1<=s.ah.da∧s.ah.da<=1000
 tol:0<=s.ah.bS∧s.ah.bS<=1000
 span:0<=s.ah.cB∧s.ah.cB<=5000
 limit:0<=s.ah.lC∧s.ah.lC<=1000
 least:2<=s.ah.cw∧s.ah.cw<=3
 cor:oi s.fb.b8
 num:0<=s.fb.bI∧s.fb.bI<=20
 den:1<=s.fb.bw∧s.fb.bw<=20
 tolerance:0<=s.bS∧s.bS<=1000
theorem settingsV{k:Int}(hk:0<=k∧k<=4)(d:Src)(hd:b7 d):Ok (dy k d) (fun r=>iH r.1∧b7 r.2):=by
 unfold dy
 refine Ok.bind (assocV hk d hd) (fun x1 h1=>?_)
 refine Ok.bind (scaleV _ h1.2) (fun x2 h2=>?_)
 refine Ok.bind (dZ _ _ h2.2 sm sm) (fun x3 h3=>?_)
 have a3:=h3.1
 simp at a3
 obtain⟨⟨⟨a,a'⟩,b,c,e,f,g,h⟩, -⟩:=h1
 exact Ok.ret ⟨⟨a,a',b,c,e,f,g,h,h2.1.1,h2.1.2.1,h2.1.2.2,zc⟩,h3.2⟩
theorem iT{p:aa}(h:eD 60 p):cK p=some true:=by
 obtain⟨h1,h2,h3⟩:=h
 refine Ok.eq ?_
 unfold cK bv
 rw [zd]
 dsimp only
 exact Ok.gC (fun _=>za) (fun _=>Ok.gC (fun _=>za) (fun _=>Ok.gC (fun _=>za) (fun _=>Ok.gC (fun _=>za) (fun _=>Ok.gC (fun _=>za) (fun _=>Ok.gC (fun _=>za) (fun _=>Ok.ret rfl))))))
theorem l5{b:ai}(h:fu b):eD 60 b.aL∧eD 60 b.aF:=by
 obtain⟨⟨h1,h2,h3⟩,h4,h5,h6⟩:=h
 exact⟨⟨za,za,za⟩,za,za,za⟩
theorem dJ{b:ai}(h:fu b):bB b=some true:=by
 obtain⟨hl,hh⟩:=l5 h
 obtain⟨-,h4,h5,h6⟩:=h
 refine Ok.eq ?_
 unfold bB
 rw [iT hl,zd,if_neg sm,iT hh,zd,if_neg sm]
 unfold bv
 rw [zd,zd]
 dsimp only
 exact Ok.gC (fun _=>za) (fun _=>Ok.gC (fun _=>za) (fun _=>Ok.gC (fun _=>za) (fun _=>Ok.ret rfl)))
theorem set_valid{s:ap}(h:iH s):ey s=some 0:=by
 obtain⟨h1, -,h2,h3,h4,h5,h6,h7,h8,h9,h10,h11⟩:=h
 have hin:∀{x a b:Int},a<=x->x<=b->dY x a b=some true:=fun h h'=>by
  unfold dY;rw [if_pos (by simpa using h)];simpa using h'
 have ha:di s.ah []=some 0:=by
  unfold di
  rw [dJ h1,zd,if_neg sm,gp h2,zd,if_neg sm,hin za za,zd,if_neg sm,hin za za,zd,if_neg sm,hin za za,zd,if_neg sm,hin za za,zd,if_neg sm,hin za za,zd,if_neg sm,if_neg sm]
  have:cQ [] s.ah (0:Int)=some (.stop (.inl ())):=by
   unfold cQ
   rw [if_neg sm]
  rw [gD this];rfl
 have hm:cL s.fb=some true:=by
  unfold cL
  rw [gp h8,zd,if_pos sm,if_pos so,if_pos so,if_pos so]
  simp;omega
 unfold ey
 rw [ha,zd,if_neg sm,hm,zd,if_neg sm,if_neg so,if_neg so]
theorem sq_in{x:Int}(h: -120<=x∧x<=120):0<=x*x∧x*x<=14400:=by
 constructor
 ·rcases Int.le_total 0 x with h'|h'
  ·exact Int.mul_nonneg h' h'
  ·exact Int.mul_nonneg_of_nonpos_of_nonpos h' h'
 ·rcases Int.le_total 0 x with h'|h'
  ·exact Int.mul_le_mul h.2 h.2 h' za
  ·rw [<-Int.neg_mul_neg]
   exact Int.mul_le_mul (show-x<=120 by omega) (show-x<=120 by omega) za za
def ne(x l h:Int):Int:=max 0 (max (l-x) (x-h))
def fa(x l h:Int):Int:=max (h-x) (x-l)
def nz(b:ai)(p:aa):Int:=ne p.fX b.aL.fX b.aF.fX*ne p.fX b.aL.fX b.aF.fX+ne p.fY b.aL.fY b.aF.fY*ne p.fY b.aL.fY b.aF.fY+ne p.fZ b.aL.fZ b.aF.fZ*ne p.fZ b.aL.fZ b.aF.fZ
def mY(b:ai)(p:aa):Int:=fa p.fX b.aL.fX b.aF.fX*fa p.fX b.aL.fX b.aF.fX+fa p.fY b.aL.fY b.aF.fY*fa p.fY b.aL.fY b.aF.fY+fa p.fZ b.aL.fZ b.aF.fZ*fa p.fZ b.aL.fZ b.aF.fZ
theorem pM{a b c:Int}(ha: -60<=a∧a<=60)(hb: -60<=b∧b<=60)(hc: -60<=c∧c<=60):eY a b c=some (ne a b c)∧0<=ne a b c∧ne a b c<=120:=by
 unfold eY ne
 rw [w64 (n:=a-c) za za,w64 (n:=b-a) za za]
 refine⟨congrArg some ?_,za,za⟩
 split<;>split<;>omega
theorem oC{a b c:Int}(ha: -60<=a∧a<=60)(hb: -60<=b∧b<=60)(hc: -60<=c∧c<=60)(hbc:b<=c):ew a b c=some (fa a b c)∧0<=fa a b c∧fa a b c<=120:=by
 unfold ew fa
 rw [w64 (n:=a-b) za za,w64 (n:=c-a) za za]
 refine⟨congrArg some ?_,za,za⟩
 split<;>omega
theorem sum_at{x y z:Int}(hx:0<=x∧x<=120)(hy:0<=y∧y<=120)(hz:0<=z∧z<=120):
  IntKind.wrap .i64 ((IntKind.wrap .i64 ((IntKind.wrap .i64 ((0:Int)+(IntKind.wrap .i64 (x*x))))+(IntKind.wrap .i64 (y*y))))+(IntKind.wrap .i64 (z*z)))=x*x+y*y+z*z∧0<=x*x+y*y+z*z∧x*x+y*y+z*z<=43200:=by
 have h1:=sq_in (x:=x) za
 have h2:=sq_in (x:=y) za
 have h3:=sq_in (x:=z) za
 rw [w64 (n:=x*x) za za,w64 (n:=y*y) za za,w64 (n:=z*z) za za,w64 (n:=0+x*x) za za,w64 (n:=0+x*x+y*y) za za,w64 za za]
 exact⟨za,za,za⟩
theorem p7{b:ai}(hb:fu b){p:aa}(hp:eD 60 p):eU b p=some (nz b p)∧0<=nz b p∧nz b p<=43200:=by
 obtain⟨hl,hh⟩:=l5 hb
 obtain⟨e1,a1⟩:=pM hp.1 hl.1 hh.1
 obtain⟨e2,a2⟩:=pM hp.2.1 hl.2.1 hh.2.1
 obtain⟨e3,a3⟩:=pM hp.2.2 hl.2.2 hh.2.2
 obtain⟨e,h⟩:=sum_at a1 a2 a3
 refine⟨?_,h⟩
 unfold eU gz bv
 rw [Option.bind_fun_some,dJ hb,zd,if_neg sm,iT hp,zd,if_neg sm]
 simp only [zd,e1,e2,e3,e]
 rfl
theorem Far_at{b:ai}(hb:fu b){p:aa}(hp:eD 60 p):gx b p=some (mY b p)∧0<=mY b p∧mY b p<=43200:=by
 obtain⟨hl,hh⟩:=l5 hb
 obtain⟨-,b1,b2,b3⟩:=id hb
 obtain⟨e1,a1⟩:=oC hp.1 hl.1 hh.1 za
 obtain⟨e2,a2⟩:=oC hp.2.1 hl.2.1 hh.2.1 za
 obtain⟨e3,a3⟩:=oC hp.2.2 hl.2.2 hh.2.2 za
 obtain⟨e,h⟩:=sum_at a1 a2 a3
 refine⟨?_,h⟩
 unfold gx f9 bv
 rw [Option.bind_fun_some,dJ hb,zd,if_neg sm,iT hp,zd,if_neg sm]
 simp only [zd,e1,e2,e3,e]
 rfl
theorem sq_le{x y:Int}(h0:0<=x)(h:x<=y):x*x<=y*y:=Int.mul_le_mul h h h0 za
theorem oP{b:ai}(hb:fu b)(p:aa):nz b p<=mY b p:=by
 obtain⟨-,b1,b2,b3⟩:=hb
 have k:∀x l h:Int,l<=h->ne x l h*ne x l h<=fa x l h*fa x l h:=fun x l h hlh=>sq_le (by unfold ne;omega) (by unfold ne fa;omega)
 have:=k p.fX b.aL.fX b.aF.fX za
 have:=k p.fY b.aL.fY b.aF.fY za
 have:=k p.fZ b.aL.fZ b.aF.fZ za
 unfold nz mY;omega
structure Sub(r b:ai):Prop where
 x:r.aL.fX<=b.aL.fX∧b.aL.fX<=b.aF.fX∧b.aF.fX<=r.aF.fX
 y:r.aL.fY<=b.aL.fY∧b.aL.fY<=b.aF.fY∧b.aF.fY<=r.aF.fY
 z:r.aL.fZ<=b.aL.fZ∧b.aL.fZ<=b.aF.fZ∧b.aF.fZ<=r.aF.fZ
theorem far_mono{r b:ai}(h:Sub r b)(p:aa):mY b p<=mY r p:=by
 obtain⟨h1,h2,h3⟩:=h
 have k:∀x l h l' h':Int,l'<=l->l<=h->h<=h'->fa x l h*fa x l h<=fa x l' h'*fa x l' h':=fun x l h l' h' a b c=>sq_le (by unfold fa;omega) (by unfold fa;omega)
 have:=k p.fX _ _ _ _ h1.1 h1.2.1 h1.2.2
 have:=k p.fY _ _ _ _ h2.1 h2.2.1 h2.2.2
 have:=k p.fZ _ _ _ _ h3.1 h3.2.1 h3.2.2
 unfold mY;omega
theorem half_at:∀x:Nat,x<600->IntKind.wrap .i64 (jS .u64 (IntKind.wrap .u64 (IntKind.wrap .i64 (x:Int))) 1)=((x / 2:Nat):Int):=by decide+kernel
theorem search_ok{t:aI}(ht:oi t)(d:Int)(hd:d<=t.bn*((t.aL.length:Int)-1)):Ok (dt (t.aF.length:Int) t d) (fun r=>(0<=r∧r<t.aF.length)∧d<=r*t.bn):=by
 have hl:=ht.len;have hs:=ht.same;have hst:=ht.step
 unfold dt
 rw [Option.bind_fun_some]
 refine Ok.loop (fun s=>∃i j:Nat,s=((i:Int),(j:Int))∧i<t.aF.length∧i<=j∧j<=t.aF.length∧(j<t.aF.length->d<=(j:Int)*t.bn)) (fun s=>(s.2-s.1).toNat) ?_ ⟨0,t.aF.length,rfl,za,za,Nat.le_refl _,fun h=>za⟩
 rintro s ⟨i,j,rfl,i0,i1,i2,i3⟩
 unfold fU
 dsimp only
 refine Ok.gC (fun hlt=>?_) (fun hge=>Ok.st ⟨⟨za,za⟩,?_⟩)
 rotate_left
 ·obtain rfl:i=j:=by omega
  exact i3 i0
 have hh:=half_at (i+j) za
 rw [Int.natCast_add]at hh
 have hk1:(i+j) / 2<j:=by omega
 have hk2:i<=(i+j) / 2:=by omega
 rw [hh]
 generalize (i+j) / 2=k at*
 unfold fV
 have hb:0<=(k:Int)*t.bn∧(k:Int)*t.bn<=30*100:=⟨Int.mul_nonneg za za,Int.mul_le_mul za za za za⟩
 rw [w64 (n:=(k:Int)*t.bn) za za,zd]
 refine Ok.iteND (fun hlt=>?_) (fun hle=>Ok.nx ⟨i,k,rfl,i0,hk2,za,fun _=>hle⟩ zc)
 rw [w64 za za]
 refine Ok.nx ⟨k+1,j,sm,?_,za,i2,i3⟩ zc
 have h1:(k:Int)*t.bn<t.bn*((t.aL.length:Int)-1):=by omega
 rw [Int.mul_comm]at h1
 have:=Int.lt_of_mul_lt_mul_left h1 za
 omega
theorem asc_le{l:List Int}(h:l.Pairwise (· <= ·)){i j:Nat}(hij:i<=j)(hj:j<l.length):l[i]<=l[j]:=by
 rcases Nat.lt_or_eq_of_le hij with h1|rfl
 ·exact List.pairwise_iff_getElem.1 h i j _ _ h1
 ·exact Int.le_refl _
def lJ(t:aI):Int:=t.bn*((t.aL.length:Int)-1)
def Reach(t:aI)(f:Int):Prop:=f<=lJ t*lJ t
theorem nH{t:aI}(ht:oi t)(n f:Int)(h0:0<=n)(hnf:n<=f)(hf:f<=65535):Ok (cb t n f) (fun r=>(r.2.2=0↔Reach t f)∧(r.2.2=0->0<=r.1∧r.1<=r.2.1∧r.2.1<=5000)):=by
 have hl:=ht.len;have hs:=ht.same;have hst:=ht.step
 unfold cb
 rw [gp ht,zd,if_neg sm]
 refine Ok.gC (fun _=>za) (fun _=>Ok.gC (fun _=>za) (fun h1=>?_))
 refine Ok.bind (ceil_ok f za hf) (fun c hc=>?_)
 obtain⟨hc0,hc1,hc2⟩:=hc
 have hb:0<=t.bn*((t.aL.length:Int)-1)∧t.bn*((t.aL.length:Int)-1)<=100*30:=⟨Int.mul_nonneg za za,Int.mul_le_mul za za za za⟩
 have hR:Reach t f↔c<=lJ t:=by
  unfold Reach
  constructor
  ·intro h;exact hc2 _ hb.1 h
  ·intro h;exact Int.le_trans hc1 (sq_le hc0.1 h)
 unfold kC
 rw [zd,w64 (n:=(t.aL.length:Int)-1) za za,w64 za za]
 refine Ok.gC (fun h2=>Ok.ret ⟨⟨fun h=>by simp at h,fun h=>?_⟩,fun h=>by simp at h⟩) (fun h2=>?_)
 ·have:=hR.1 h;unfold lJ at this;omega
 refine Ok.bind (search_ok ht c za) (fun u hu=>?_)
 refine Ok.bind (floor_ok n za) (fun x hx=>?_)
 obtain⟨⟨x0,x1⟩,x2, -⟩:=hx
 have x2:=x2 h0
 have hxc:x<=c:=by
  apply Classical.byContradiction
  intro h
  have:(c+1)*(c+1)<=x*x:=Int.mul_le_mul za za za za
  have h4:(c+1)*(c+1)=c*c+2*c+1:=by rw [Int.add_mul,Int.mul_add];omega
  omega
 refine Ok.bind (Ok.quo za) (fun q hq=>?_)
 have hq0:0<=x.tdiv t.bn:=Int.tdiv_nonneg x0 za
 have hq1:x.tdiv t.bn<=(t.aL.length:Int)-1:=by
  rw [Int.tdiv_eq_ediv_of_nonneg x0]
  exact Int.ediv_le_of_le_mul za (by rw [Int.mul_comm];omega)
 have hq2:x.tdiv t.bn<=u:=by
  rw [Int.tdiv_eq_ediv_of_nonneg x0]
  exact Int.ediv_le_of_le_mul za za
 rw [w64 za za]at hq
 subst hq
 refine Ok.bind (Ok.get hq0 za) (fun a ha=>?_)
 refine Ok.bind (Ok.get hu.1.1 hu.1.2) (fun b hb'=>Ok.ret ⟨⟨fun _=>hR.2 (by unfold lJ;omega),fun _=>rfl⟩,fun _=>⟨ht.lows _ ha.1,?_,(ht.highs _ hb'.1).2⟩⟩)
 obtain⟨i1,e1⟩:=List.getElem?_eq_some_iff.1 ha.2
 obtain⟨i2,e2⟩:=List.getElem?_eq_some_iff.1 hb'.2
 have k1:=asc_le ht.low (i:=(x.tdiv t.bn).toNat) (j:=u.toNat) za za
 have k2:=ht.lh u.toNat za i2
 simp only
 omega
def eB(z:aG):Prop:= -5000<=z.bp∧z.bp<=z.fTo∧z.fTo<=18014398509481984
structure PhV(a:ak):Prop where
 pos:eD 60 a.aN
 early:0<=a.aK
 late:a.aK<=a.bf
 most:a.bf<=18014398509481984
 weight:a.bA=1
theorem qv{t:aI}(ht:oi t){b:ai}(hb:fu b){a:ak}(ha:PhV a):Ok (dC t b a) (fun r=>(r.2=0↔Reach t (mY b a.aN))∧(r.2=0->eB r.1)):=by
 obtain⟨ha,h1,h2,h3,h4⟩:=ha
 have hv:dP a=some true:=by
  refine Ok.eq ?_
  unfold dP
  rw [iT ha,zd,if_pos rfl,if_pos (by simpa using h1),if_pos (by simpa using h2),if_pos (by simpa using h3),if_pos (by simp [h4])]
  exact Ok.ret (by simp [h4])
 unfold dC
 rw [gp ht,zd,if_neg sm,dJ hb,zd,if_neg sm,hv,zd,if_neg sm]
 obtain⟨e1,n0,n1⟩:=p7 hb ha
 obtain⟨e2,f0,f1⟩:=Far_at hb ha
 refine Ok.bind (P:=fun r=>(r.2.2=0↔Reach t (mY b a.aN))∧(r.2.2=0->0<=r.1∧r.1<=r.2.1∧r.2.1<=5000)) ?_ (fun r hr=>?_)
 ·unfold f5 je
  rw [gp ht,zd,if_neg sm,dJ hb,zd,if_neg sm,iT ha,zd,if_neg sm,e1,e2]
  simp only [zd]
  exact Ok.bind (nH ht _ _ n0 (oP hb _) za) (fun r hr=>Ok.ret hr)
 ·refine Ok.qQ (fun h=>Ok.ret ⟨⟨fun h'=>(h h').elim,fun h'=>(h (hr.1.2 h')).elim⟩,fun h'=>(h h').elim⟩) (fun h=>Ok.ret ⟨⟨fun _=>hr.1.1 h,fun _=>rfl⟩,fun _=>?_⟩)
  have:=hr.2 h
  unfold eB
  simp only
  rw [w64 za za,w64 za za]
  exact⟨za,za,za⟩
end Go.Dw.Ek
set_option maxRecDepth 100000
set_option maxHeartbeats 4000000
namespace Go.Dw.Ek
open Go.Dw Go.Proofs
theorem Sub.ok{r b:ai}(hr:fu r)(hp:eD 20 r.aL)(h:Sub r b):fu b:=by
 obtain⟨-,h1,h2,h3⟩:=hr
 obtain⟨p1,p2,p3⟩:=hp
 obtain⟨x,y,z⟩:=h
 exact⟨⟨za,za,za⟩,za,za,za⟩
theorem Sub.refl{r:ai}(hr:fu r):Sub r r:=by
 obtain⟨-,h1,h2,h3⟩:=hr
 exact⟨za,za,za⟩
theorem Sub.low{r b:ai}(h:Sub r b):Sub r ⟨b.aL,b.aL⟩:=by
 obtain⟨x,y,z⟩:=h
 exact⟨⟨zc,zc,zc⟩,⟨zc,zc,zc⟩,⟨zc,zc,zc⟩⟩
theorem Sub.high{r b:ai}(h:Sub r b):Sub r ⟨b.aF,b.aF⟩:=by
 obtain⟨x,y,z⟩:=h
 exact⟨⟨zc,zc,zc⟩,⟨zc,zc,zc⟩,⟨zc,zc,zc⟩⟩
theorem within_at{r b:ai}(hr:fu r)(hp:eD 20 r.aL)(h:Sub r b):jp b r=some true:=by
 have hb:=h.ok hr hp
 obtain⟨pl,ph⟩:=l5 hb
 have k:∀p,Sub r ⟨p,p⟩->eD 60 p->fy r p=some true:=fun p⟨x,y,z⟩hq=>by
  unfold fy
  rw [dJ hr,zd,if_pos rfl,iT hq,zd,if_pos rfl,(p7 hr hq).1,zd]
  simp only at x y z
  have e1:ne p.fX r.aL.fX r.aF.fX=0:=by unfold ne;omega
  have e2:ne p.fY r.aL.fY r.aF.fY=0:=by unfold ne;omega
  have e3:ne p.fZ r.aL.fZ r.aF.fZ=0:=by unfold ne;omega
  unfold nz
  rw [e1,e2,e3];rfl
 unfold jp
 rw [dJ hb,zd,if_pos rfl,k _ h.low pl,zd,if_pos rfl,k _ h.high ph];rfl
theorem lE{a b:Int}(ha: -60<=a∧a<=b∧b<=60):bR a b=some (a+(b-a) / 2):=by
 unfold bR
 rw [w64 (n:=b-a) za za]
 have:rr .i64 (b-a) 2=some ((b-a) / 2):=by
  unfold rr
  rw [if_neg za,Int.tdiv_eq_ediv_of_nonneg za,w64 za za]
 rw [this,zd,w64 za za]
theorem center_ok{r b:ai}(hr:fu r)(hp:eD 20 r.aL)(h:Sub r b):Ok (fm b) (fun p=>Sub r ⟨p,p⟩):=by
 have hb:=h.ok hr hp
 obtain⟨⟨l1,l2,l3⟩,h1,h2,h3⟩:=l5 hb
 obtain⟨x,y,z⟩:=h
 unfold fm bv bD
 rw [dJ hb,zd,if_neg sm,zd,zd]
 simp only
 rw [lE za,zd,lE za,zd,lE za,zd]
 exact Ok.ret ⟨zc,zc,zc⟩
def pts(b:ai):Int:=(b.aF.fX-b.aL.fX+1)*(b.aF.fY-b.aL.fY+1)*(b.aF.fZ-b.aL.fZ+1)
theorem mul_in{x y m n:Int}(h1:1<=x∧x<=m)(h2:1<=y∧y<=n):1<=x*y∧x*y<=m*n:=
 ⟨Int.le_trans (by omega:(1:Int)<=1*1) (Int.mul_le_mul h1.1 h2.1 za za),Int.mul_le_mul h1.2 h2.2 za za⟩
theorem pts_in{b:ai}(h:fu b):1<=pts b∧pts b<=125:=by
 obtain⟨-,h1,h2,h3⟩:=h
 have k:=mul_in (mul_in (x:=b.aF.fX-b.aL.fX+1) (y:=b.aF.fY-b.aL.fY+1) (m:=5) (n:=5) za za) (y:=b.aF.fZ-b.aL.fZ+1) (n:=5) za
 unfold pts
 omega
theorem points_at{b:ai}(h:fu b):jo b=some (pts b):=by
 have hp:=pts_in h
 obtain⟨hl,hh⟩:=l5 h
 obtain⟨l1,l2,l3⟩:=hl
 obtain⟨h1,h2,h3⟩:=hh
 have hv:=dJ h
 obtain⟨-,s1,s2,s3⟩:=h
 have k1:=mul_in (x:=b.aF.fX-b.aL.fX+1) (y:=b.aF.fY-b.aL.fY+1) (m:=5) (n:=5) za za
 unfold jo bv
 unfold pts at hp⊢
 rw [hv,zd,if_neg sm,zd,zd]
 simp only
 rw [w64 (n := b.aF.fX - b.aL.fX) za za, w64 (n := b.aF.fX - b.aL.fX + 1) za za, w64 (n := 1 * (b.aF.fX - b.aL.fX + 1)) za za, Int.one_mul,
  w64 (n:=b.aF.fY-b.aL.fY) za za,w64 (n:=b.aF.fY-b.aL.fY+1) za za,w64 (n:=(b.aF.fX-b.aL.fX+1)*(b.aF.fY-b.aL.fY+1)) za za,
  w64 (n:=b.aF.fZ-b.aL.fZ) za za,w64 (n:=b.aF.fZ-b.aL.fZ+1) za za,w64 za za]
theorem one_side{x:Int}(h:1<=x){y z:Int}(hy:1<=y)(hz:1<=z)(hn:2<=x*y*z):2<=x∨2<=y∨2<=z:=by
 by_cases h1:x=1
 ·by_cases h2:y=1
  ·subst h1 h2;right;right;omega
  ·right;left;omega
 ·left;omega
theorem yw{r b:ai}(hr:fu r)(hp:eD 20 r.aL)(h:Sub r b):Ok (fd b) (fun s=>s.2.2=true->Sub r s.1∧Sub r s.2.1∧pts s.1+pts s.2.1=pts b):=by
 have hb:=h.ok hr hp
 obtain⟨⟨l1,l2,l3⟩,h1,h2,h3⟩:=l5 hb
 have hpt:=points_at hb
 obtain⟨-,s1,s2,s3⟩:=id hb
 obtain⟨x,y,z⟩:=h
 unfold fd bv bD
 rw [hpt,zd]
 refine Ok.gC (fun _=>Ok.ret sm) (fun hn=>?_)
 have hbig:=one_side (x:=b.aF.fX-b.aL.fX+1) (y:=b.aF.fY-b.aL.fY+1) (z:=b.aF.fZ-b.aL.fZ+1) za za za (by unfold pts at hn;omega)
 simp only [zd]
 rw [w64 (n:=b.aF.fX-b.aL.fX) za za,w64 (n:=b.aF.fY-b.aL.fY) za za,w64 (n:=b.aF.fZ-b.aL.fZ) za za]
 have cX:2<=b.aF.fX-b.aL.fX+1->Ok ((bR b.aL.fX b.aF.fX).bind fun x17=>some (ai.mk b.aL (aa.mk x17 b.aF.fY b.aF.fZ),ai.mk (aa.mk (IntKind.wrap .i64 (x17+(1:Int))) b.aL.fY b.aL.fZ) b.aF,true)) (fun s:ai×ai×Bool=>s.2.2=true->Sub r s.1∧Sub r s.2.1∧pts s.1+pts s.2.1=pts b):=fun h2=>by
  rw [lE za,zd,w64 za za]
  refine Ok.ret fun _=>⟨⟨zc,zc,zc⟩,⟨zc,zc,zc⟩,?_⟩
  unfold pts
  simp only
  rw [<-Int.add_mul, <-Int.add_mul]
  congr 2;omega
 have cY:2<=b.aF.fY-b.aL.fY+1->Ok ((bR b.aL.fY b.aF.fY).bind fun x10=>some (ai.mk b.aL (aa.mk b.aF.fX x10 b.aF.fZ),ai.mk (aa.mk b.aL.fX (IntKind.wrap .i64 (x10+(1:Int))) b.aL.fZ) b.aF,true)) (fun s:ai×ai×Bool=>s.2.2=true->Sub r s.1∧Sub r s.2.1∧pts s.1+pts s.2.1=pts b):=fun h2=>by
  rw [lE za,zd,w64 za za]
  refine Ok.ret fun _=>⟨⟨zc,zc,zc⟩,⟨zc,zc,zc⟩,?_⟩
  unfold pts
  simp only
  rw [<-Int.add_mul, <-Int.mul_add]
  congr 2;omega
 have cZ:2<=b.aF.fZ-b.aL.fZ+1->Ok ((bR b.aL.fZ b.aF.fZ).bind fun x7=>some (ai.mk b.aL (aa.mk b.aF.fX b.aF.fY x7),ai.mk (aa.mk b.aL.fX b.aL.fY (IntKind.wrap .i64 (x7+(1:Int)))) b.aF,true)) (fun s:ai×ai×Bool=>s.2.2=true->Sub r s.1∧Sub r s.2.1∧pts s.1+pts s.2.1=pts b):=fun h2=>by
  rw [lE za,zd,w64 za za]
  refine Ok.ret fun _=>⟨⟨zc,zc,zc⟩,⟨zc,zc,zc⟩,?_⟩
  unfold pts
  simp only
  rw [<-Int.mul_add]
  congr 1;omega
 exact Ok.gC (fun _=>Ok.gC (fun _=>cZ za) (fun _=>cY za)) (fun _=>Ok.gC (fun _=>cZ za) (fun _=>cX za))
theorem hull_ok{r a b:ai}(hr:fu r)(hp:eD 20 r.aL)(ha:Sub r a)(hb:Sub r b):Ok (ld a b) (Sub r):=by
 unfold ld bv bD
 rw [dJ (ha.ok hr hp),zd,if_neg sm,dJ (hb.ok hr hp),zd,if_neg sm]
 simp only [zd]
 obtain⟨a1,a2,a3⟩:=ha
 obtain⟨b1,b2,b3⟩:=hb
 exact Ok.ret ⟨by simp only;split<;>split<;>omega,by simp only;split<;>split<;>omega,by simp only;split<;>split<;>omega⟩
end Go.Dw.Ek
set_option maxRecDepth 100000
set_option maxHeartbeats 4000000
namespace Go.Dw.Ek
open Go.Dw Go.Proofs
theorem shr30{n:Int}(h0:0<=n):jS .i64 n 30=n / 1073741824:=by
 show n.fdiv (2 ^ (min (30:Int).toNat 64))=n / 1073741824
 rw [Int.fdiv_eq_ediv_of_nonneg _ (by decide)]
 rfl
theorem from_ok{n:Int}(h:n<=9223372036854775808):Ok (qk n) (fun r=>r.1.length<=3):=by
 unfold qk
 refine Ok.gC (fun _=>Ok.ret sm) (fun h0=>?_)
 refine Ok.bind (P:=fun o:List Int=>o.length<=3) (Ok.loop (fun s:Int×List Int=>0<=s.1∧s.2.length<=3∧s.1<1073741824 ^ (3-s.2.length)) (fun s=>s.1.toNat) ?_ ⟨zc,sm,by simp only [List.length_nil];omega⟩) (fun o ho=>Ok.ret ho)
 rintro⟨s2,s3⟩ ⟨i0,i1,i2⟩
 simp only at i0 i1 i2
 unfold nat_From_l9
 refine Ok.gC (fun hgt=>?_) (fun _=>Ok.st i1)
 refine Ok.bind (Ok.rem za) (fun x _=>?_)
 refine Ok.bind (Ok.app (by simp only [List.length_cons,List.length_nil];omega)) (fun y hy=>?_)
 subst hy
 rw [shr30 i0]
 have h3:s3.length≠3:=fun e=>by rw [e]at i2;simp at i2;omega
 refine Ok.nx ⟨zc,by simp only [List.length_append,List.length_cons,List.length_nil];omega,?_⟩ zc
 simp only [List.length_append,List.length_cons,List.length_nil]
 rw [show 3-s3.length=(3-(s3.length+(0+1)))+1 by omega,Int.pow_succ]at i2
 exact Int.ediv_lt_of_lt_mul za i2
theorem kS(l:List Int)(hl:l.length<=1000):Ok (jJ l) (fun r=>r=true->l.length<=64):=by
 have hc:Ok (cu l) (fun _=>True):=by
  unfold cu ff
  refine Ok.bind (P:=fun _=>True) ?_ (fun o _=>Ok.ret trivial)
  refine Ok.bind (P:=fun _=>True) (Ok.upto l.length za (fun _=>True) trivial (fun i h0 h1 _=>?_)) (fun o _=>by rcases o with _|_<;>exact Ok.ret trivial)
  unfold gr mA
  refine Ok.gC (fun hlt=>?_) (fun _=>Ok.st trivial)
  refine Ok.bind (Ok.get za za) (fun a ha=>?_)
  refine Ok.bind (P:=fun _=>True) (Ok.gC (fun _=>Ok.ret trivial) (fun _=>Ok.ret trivial)) (fun b _=>?_)
  rw [w64 za za]
  exact Ok.yk (fun _=>Ok.st trivial) (fun _=>Ok.nx ⟨⟨za,za⟩,trivial⟩ za)
 unfold jJ
 refine Ok.gC (fun _=>Ok.ret sm) (fun hle=>Ok.gC (fun hgt=>?_) (fun _=>?_))
 ·rw [w64 za za]
  refine Ok.bind (Ok.get za za) (fun a _=>Ok.rN (fun _=>Ok.ret sm) (fun _=>?_))
  exact Ok.bind hc (fun _ _=>Ok.ret fun _=>za)
 ·exact Ok.bind hc (fun _ _=>Ok.ret fun _=>za)
theorem digit_ok{l:List Int}{i:Int}(h:0<=i):Ok (mi l i) (fun _=>True):=by
 unfold mi
 refine Ok.gC (fun _=>Ok.ret trivial) (fun hlt=>?_)
 exact Ok.bind (Ok.get h za) (fun _ _=>Ok.ret trivial)
theorem trim_ok{l:List Int}(hl:l.length<=1000):Ok (oO l) (fun r=>r.length<=l.length):=by
 unfold oO
 refine Ok.bind (P:=fun o:List Int=>o.length<=l.length) (Ok.loop (fun s:List Int=>s.length<=l.length) (fun s=>s.length) ?_ (Nat.le_refl _)) (fun o ho=>Ok.ret ho)
 intro s i0
 unfold nat_trim_l8
 refine Ok.gC (fun hgt=>?_) (fun _=>Ok.st i0)
 rw [w64 za za]
 refine Ok.bind (Ok.get za za) (fun a _=>Ok.rN (fun _=>?_) (fun _=>Ok.st i0))
 refine Ok.bind (Ok.cut za za za) (fun y hy=>?_)
 subst hy
 have:((s.drop (0:Int).toNat).take (((s.length:Int)-1).toNat-(0:Int).toNat)).length=s.length-1:=by
  simp only [List.length_take,List.length_drop];omega
 exact Ok.nx (by rw [this];omega) (by rw [this];omega)
theorem nS{l:List Int}(hl:l.length<=1000):Ok (iw l) (fun r=>r.1.length<=64):=by
 unfold iw
 refine Ok.bind (trim_ok hl) (fun x hx=>Ok.gC (fun _=>Ok.ret sm) (fun _=>Ok.ret zc))
theorem oM{a b:List Int}(ha:a.length<=64)(hb:b.length<=64):Ok (iR a b) (fun r=>r.length<=128):=by
 unfold iR
 rw [w64 za za]
 refine Ok.bind (Ok.mk za za za) (fun x hx=>?_)
 have hxl:x.length=a.length+b.length:=by subst hx;simp;omega
 refine Ok.bind (P:=fun o:List Int=>o.length=a.length+b.length) (Ok.loop (fun s:Int×List Int=>(0<=s.1∧s.1<=a.length)∧s.2.length=a.length+b.length) (fun s=>((a.length:Int)-s.1).toNat) ?_ ⟨⟨sm,sm⟩,hxl⟩) (fun o ho=>?_)
 ·rintro⟨s2,s3⟩ ⟨⟨i0,i1⟩,i2⟩
  simp only at i0 i1 i2
  unfold ny
  refine Ok.gC (fun hlt=>?_) (fun _=>Ok.st i2)
  refine Ok.bind (Ok.get za za) (fun y _=>?_)
  refine Ok.bind (P:=fun o:Int×List Int=>o.1=s2∧o.2.length=a.length+b.length) (Ok.loop (fun s:Int×Int×List Int=>(0<=s.2.1∧s.2.1<=(b.length:Int)+1)∧s.2.2.length=a.length+b.length) (fun s=>((b.length:Int)+1-s.2.1).toNat) ?_ ⟨⟨sm,zc⟩,i2⟩) (fun o ho=>?_)
  ·rintro⟨s8,s9,s10⟩ ⟨⟨j0,j1⟩,j2⟩
   simp only at j0 j1 j2
   unfold nw
   dsimp only
   rw [w64 (n:=(b.length:Int)+1) za za]
   refine Ok.gC (fun hlt=>?_) (fun _=>Ok.st ⟨rfl,j2⟩)
   rw [w64 (n:=s2+s9) za za,w64 (n:=s9+1) za za]
   refine Ok.gC (fun hlt2=>?_) (fun _=>Ok.nx ⟨⟨zc,zc⟩,j2⟩ zc)
   refine Ok.bind (Ok.rK za za) (fun _ _=>Ok.bind (Ok.get za za) (fun x18 _=>?_))
   refine Ok.bind (digit_ok j0) (fun x19 _=>?_)
   refine Ok.bind (Ok.rem za) (fun x20 _=>?_)
   refine Ok.bind (Ok.rK za za) (fun _ _=>Ok.bind (Ok.set za za) (fun x23 h23=>?_))
   subst h23
   exact Ok.nx ⟨⟨zc,zc⟩,by simpa using j2⟩ zc
  ·obtain⟨h1,h2⟩:=ho
   rw [h1,w64 za za]
   exact Ok.nx ⟨⟨zc,zc⟩,h2⟩ zc
 ·refine Ok.bind (trim_ok za) (fun r hr=>Ok.ret za)
theorem mul_ok{a b:List Int}(ha:a.length<=64)(hb:b.length<=64):Ok (nat_Mul a b) (fun r=>r.1.length<=64):=by
 unfold nat_Mul oN
 refine Ok.bind (P:=fun _=>True) (Ok.bind (kS a za) (fun x _=>Ok.yk (fun _=>Ok.bind (kS b za) (fun _ _=>Ok.ret trivial)) (fun _=>Ok.ret trivial))) (fun x _=>?_)
 refine Ok.uT (fun _=>Ok.ret sm) (fun _=>?_)
 exact Ok.bind (oM ha hb) (fun y hy=>Ok.bind (nS za) (fun z hz=>Ok.ret hz))
theorem add_ok'{a b:List Int}(ha:a.length<=64)(hb:b.length<=64):Ok (nat_Add a b) (fun r=>r.1.length<=64):=by
 unfold nat_Add oN
 refine Ok.bind (P:=fun _=>True) (Ok.bind (kS a za) (fun x _=>Ok.yk (fun _=>Ok.bind (kS b za) (fun _ _=>Ok.ret trivial)) (fun _=>Ok.ret trivial))) (fun x _=>?_)
 refine Ok.uT (fun _=>Ok.ret sm) (fun _=>?_)
 have hm:∃m:Int,(if(b.length:Int)>(a.length:Int)then(b.length:Int)else(a.length:Int))=m∧0<=m∧m<=64:=⟨_,rfl,by split<;>omega,by split<;>omega⟩
 obtain⟨m,em,m0,m1⟩:=hm
 refine Ok.bind (P:=fun o:List Int=>o.length<=65) (Ok.loop (fun s:Int×Int×List Int=>(0<=s.2.1∧s.2.1<=m+1)∧s.2.2.length=s.2.1.toNat) (fun s=>(m+1-s.2.1).toNat) ?_ ⟨⟨sm,zc⟩,rfl⟩) (fun o ho=>Ok.bind (nS za) (fun z hz=>Ok.ret hz))
 rintro⟨s3,s4,s5⟩ ⟨⟨i0,i1⟩,i2⟩
 simp only at i0 i1 i2
 unfold nat_Add_l13
 dsimp only
 rw [em,w64 (n:=m+1) za za]
 refine Ok.gC (fun hlt=>?_) (fun _=>Ok.st za)
 refine Ok.bind (digit_ok i0) (fun x9 _=>Ok.bind (digit_ok i0) (fun x10 _=>?_))
 refine Ok.bind (Ok.rem za) (fun x11 _=>?_)
 refine Ok.bind (Ok.app (by simp only [List.length_cons,List.length_nil];omega)) (fun y hy=>?_)
 subst hy
 rw [w64 (n:=s4+1) za za]
 exact Ok.nx ⟨⟨zc,zc⟩,by simp only [List.length_append,List.length_cons,List.length_nil];omega⟩ zc
def I64(a:Int):Prop:= -9223372036854775808<=a∧a<=9223372036854775807
theorem oX(a:Int):I64 (IntKind.wrap .i64 a):=by
 unfold I64;rw [IntKind.wrap_i64];omega
theorem mj{a:Int}(h:I64 a):Ok (df a) (fun r=>r.length<=64):=by
 unfold df
 have h0:=oX (0-a)
 unfold I64 at h h0
 refine Ok.bind (from_ok (by split<;>omega)) (fun x hx=>?_)
 exact Ok.bind (mul_ok za za) (fun y hy=>Ok.ret hy)
theorem squared_ok{a:aW}{n d:Int}:Ok (gh a n d) (fun r=>r.length<=64):=by
 unfold gh
 refine Ok.bind (mj (oX _)) (fun x hx=>Ok.bind (mj (oX _)) (fun y hy=>?_))
 exact Ok.bind (add_ok' hx hy) (fun z hz=>Ok.ret hz)
theorem sum_okR(l:List Int)(hl:l.length<=1000):Ok (dF l) I64:=by
 unfold dF
 refine Ok.bind (P:=I64) (Ok.loop (fun s:Int×Int=>(0<=s.2∧s.2<=l.length)∧I64 s.1) (fun s=>((l.length:Int)-s.2).toNat) ?_ ⟨⟨sm,sm⟩,by unfold I64;simp⟩) (fun o ho=>Ok.ret ho)
 rintro⟨s1,s2⟩ ⟨⟨i0,i1⟩,i2⟩
 simp only at i0 i1 i2
 unfold lL
 refine Ok.gC (fun hlt=>?_) (fun _=>Ok.st i2)
 refine Ok.bind (Ok.get za za) (fun a _=>?_)
 rw [w64 (n:=s2+1) za za]
 exact Ok.nx ⟨⟨zc,zc⟩,oX _⟩ zc
structure StN(x:aH):Prop where
 num:I64 x.bI.a0
 den:I64 x.bw.a0
 taps:x.dM.length<=3
 shift:0<=x.dO
theorem valid_N{x:aH}(h:lZ x):StN x:=by
 obtain⟨-, -,h1,h2,h3,h4⟩:=h
 exact⟨by unfold I64;omega,by unfold I64;omega,h1,h2⟩
theorem gain_okN{x:aH}(h:StN x)(n d:Int):Ok (lm x n d) (fun r=>r.1.bI.length<=64∧r.1.bw.length<=64):=by
 unfold lm
 refine Ok.rN (fun _=>Ok.bind (mj h.num) (fun a ha=>Ok.bind (mj h.den) (fun b hb=>Ok.ret ⟨ha,hb⟩))) (fun _=>?_)
 refine Ok.rN (fun _=>Ok.bind squared_ok (fun a ha=>Ok.bind squared_ok (fun b hb=>Ok.ret ⟨ha,hb⟩))) (fun _=>?_)
 refine Ok.bind (sum_okR _ (by have:=h.taps;omega)) (fun a ha=>Ok.bind (mj ha) (fun b hb=>?_))
 have hs:=h.shift
 have e:xh .i64 1 x.dO=some (shlI .i64 1 x.dO):=by unfold xh;rw [if_neg za]
 rw [e,zd]
 exact Ok.bind (mj (oX _)) (fun c hc=>Ok.ret ⟨hb,hc⟩)
theorem times_ok{a b:aM}(h1:a.bI.length<=64)(h2:a.bw.length<=64)(h3:b.bI.length<=64)(h4:b.bw.length<=64):Ok (pb a b) (fun r=>r.1.bI.length<=64∧r.1.bw.length<=64):=by
 have hv:∀f:aM,f.bI.length<=64->f.bw.length<=64->Ok (fF f) (fun _=>True):=fun f a b=>by
  unfold fF
  exact Ok.bind (kS _ za) (fun _ _=>Ok.yk (fun _=>Ok.bind (kS _ za) (fun _ _=>Ok.yk (fun _=>Ok.ret trivial) (fun _=>Ok.ret trivial))) (fun _=>Ok.ret trivial))
 unfold pb
 refine Ok.bind (hv a h1 h2) (fun _ _=>Ok.uT (fun _=>Ok.ret sm) (fun _=>Ok.bind (hv b h3 h4) (fun _ _=>Ok.uT (fun _=>Ok.ret sm) (fun _=>?_))))
 refine Ok.bind (oM h1 h3) (fun x hx=>Ok.bind (nS za) (fun y hy=>?_))
 refine Ok.bind (oM h2 h4) (fun z hz=>Ok.bind (nS za) (fun w hw=>?_))
 exact Ok.qQ (fun _=>Ok.ret sm) (fun _=>Ok.qQ (fun _=>Ok.ret sm) (fun _=>Ok.ret ⟨hy,hw⟩))
theorem Gain_ok{r:aP}(h:nC r)(n d:Int):Ok (lk r n d) (fun x=>x.1.bI.length<=64∧x.1.bw.length<=64):=by
 have hin:∀a b c:Int,Ok (bq a b c) (fun _=>True):=fun a b c=>by
  unfold bq;exact Ok.gC (fun _=>Ok.ret trivial) (fun _=>Ok.ret trivial)
 have hl:=h.1
 unfold lk
 rw [resp_valid h,zd,if_neg sm]
 refine Ok.bind (hin _ _ _) (fun _ _=>Ok.uT (fun _=>Ok.ret sm) (fun _=>Ok.bind (hin _ _ _) (fun _ _=>Ok.uT (fun _=>Ok.ret sm) (fun _=>?_))))
 refine Ok.bind (P:=fun o=>match o with| .inl y=>y.1.length<=64∧y.2.length<=64| .inr y=>y.1.bI.length<=64∧y.1.bw.length<=64) (Ok.loop (fun s:Int×List Int×List Int=>(0<=s.1∧s.1<=r.bG.length)∧s.2.1.length<=64∧s.2.2.length<=64) (fun s=>((r.bG.length:Int)-s.1).toNat) ?_ ⟨⟨sm,sm⟩,sm,sm⟩) (fun o ho=>by rcases o with y|y<;>exact Ok.ret ho)
 rintro⟨s1,s2,s3⟩ ⟨⟨i0,i1⟩,i2,i3⟩
 simp only at i0 i1 i2 i3
 unfold mQ
 refine Ok.gC (fun hlt=>?_) (fun _=>Ok.st ⟨i2,i3⟩)
 refine Ok.bind (Ok.get za za) (fun x hx=>?_)
 refine Ok.bind (gain_okN (valid_N (h.2 x hx.1)) n d) (fun y hy=>Ok.uT (fun _=>Ok.st sm) (fun _=>?_))
 refine Ok.bind (times_ok i2 i3 hy.1 hy.2) (fun z hz=>Ok.qQ (fun _=>Ok.st sm) (fun _=>?_))
 rw [w64 za za]
 exact Ok.nx ⟨⟨zc,zc⟩,hz⟩ zc
theorem byte8(s:List UInt8)(h:s.all (fun b=>decide (b.toNat<=8))=true){n:Int}(h0:0<=n)(h1:n<s.length):Ok (u4 s n) (fun c=>0<=c∧c<=8):=by
 refine(Ok.byte h0 h1).mono fun c⟨b,hb,hc⟩=>?_
 have:=List.all_eq_true.1 h b (List.mem_of_getElem? hb)
 simp only [decide_eq_true_eq]at this
 omega
theorem shr16{n:Int}(h0:0<=n):jS .u64 n 16=n / 65536:=by
 show n.fdiv (2 ^ (min (16:Int).toNat 64))=n / 65536
 rw [Int.fdiv_eq_ediv_of_nonneg _ (by decide)]
 rfl
theorem shr32{n:Int}(h0:0<=n):jS .u64 n 32=n / 4294967296:=by
 show n.fdiv (2 ^ (min (32:Int).toNat 64))=n / 4294967296
 rw [Int.fdiv_eq_ediv_of_nonneg _ (by decide)]
 rfl
theorem wU8{n:Int}(h:0<=n∧n<256):IntKind.wrap .u8 n=n:=IntWalk.u8_in _ za
theorem len8_ok{n m:Int}(hn:0<=n∧n<65536)(hm:0<=m∧m<=48):Ok (gR n m) (fun r=>0<=r∧r<=m+16):=by
 unfold gR
 refine Ok.gC (fun h=>?_) (fun h=>?_)
 ·rw [shr8 hn.1,wU8 za]
  refine Ok.bind (byte8 _ (by decide+kernel) za so) (fun c hc=>?_)
  rw [w64 (n:=m+8) za za,w64 (n:=c) za za,w64 za za]
  exact Ok.ret ⟨za,za⟩
 ·rw [wU8 za]
  refine Ok.bind (byte8 _ (by decide+kernel) za so) (fun c hc=>?_)
  rw [w64 (n:=c) za za,w64 za za]
  exact Ok.ret ⟨za,za⟩
theorem bits_ok{n:Int}(h:0<=n∧n<18446744073709551616):Ok (fW n) (fun r=>0<=r∧r<=64):=by
 have k10:∀{n m:Int},0<=n∧n<4294967296->0<=m∧m<=32->Ok (f4 n m) (fun r=>0<=r∧r<=m+32):=fun{n m}hn hm=>by
  unfold f4
  refine Ok.gC (fun h=>?_) (fun h=>?_)
  ·rw [shr16 hn.1,w64 za za]
   exact(len8_ok za za).mono fun r hr=>by omega
  ·exact(len8_ok za za).mono fun r hr=>by omega
 unfold fW mm
 refine Ok.bind (P:=fun r=>0<=r∧r<=64) (Ok.gC (fun h=>?_) (fun h=>?_)) (fun r hr=>Ok.ret hr)
 ·rw [shr32 za]
  exact(k10 za za).mono fun r hr=>by omega
 ·exact(k10 za za).mono fun r hr=>by omega
theorem u64_range(n:Int):0<=IntKind.wrap .u64 n∧IntKind.wrap .u64 n<18446744073709551616:=by
 simp [IntKind.wrap,IntKind.bits,IntKind.signed];omega
theorem dig17{c m d:Int}(hc: -1<=c∧c<=63)(hd:0<=d∧d<=255):Ok (d8 c m d) (fun r=> -256<=r∧r<=16400):=by
 unfold d8
 rw [w64 (n:=256*c) za za,w64 za za]
 exact Ok.ret ⟨za,za⟩
theorem dig20{c m d:Int}(hc: -1<=c∧c<=63)(hd:0<=d∧d<=127):Ok (d9 c m d) (fun r=> -256<=r∧r<=16400):=by
 unfold d9
 rw [w64 (n:=d*2) za za,w64 (n:=d*2+1) za za]
 exact Ok.gC (fun _=>Ok.bind (Ok.quo za) (fun _ _=>dig17 hc za)) (fun _=>dig17 hc za)
theorem dig23{c m d:Int}(hc: -1<=c∧c<=63)(hd:0<=d∧d<=63):Ok (ec c m d) (fun r=> -256<=r∧r<=16400):=by
 unfold ec
 rw [w64 (n:=d*2) za za,w64 (n:=d*2+1) za za]
 exact Ok.gC (fun _=>Ok.bind (Ok.quo za) (fun _ _=>dig20 hc za)) (fun _=>dig20 hc za)
theorem dig26{c m d:Int}(hc: -1<=c∧c<=63)(hd:0<=d∧d<=31):Ok (ed c m d) (fun r=> -256<=r∧r<=16400):=by
 unfold ed
 rw [w64 (n:=d*2) za za,w64 (n:=d*2+1) za za]
 exact Ok.gC (fun _=>Ok.bind (Ok.quo za) (fun _ _=>dig23 hc za)) (fun _=>dig23 hc za)
theorem dig29{c m d:Int}(hc: -1<=c∧c<=63)(hd:0<=d∧d<=15):Ok (ef c m d) (fun r=> -256<=r∧r<=16400):=by
 unfold ef
 rw [w64 (n:=d*2) za za,w64 (n:=d*2+1) za za]
 exact Ok.gC (fun _=>Ok.bind (Ok.quo za) (fun _ _=>dig26 hc za)) (fun _=>dig26 hc za)
theorem dig32{c m d:Int}(hc: -1<=c∧c<=63)(hd:0<=d∧d<=7):Ok (eh c m d) (fun r=> -256<=r∧r<=16400):=by
 unfold eh
 rw [w64 (n:=d*2) za za,w64 (n:=d*2+1) za za]
 exact Ok.gC (fun _=>Ok.bind (Ok.quo za) (fun _ _=>dig29 hc za)) (fun _=>dig29 hc za)
theorem dig35{c m d:Int}(hc: -1<=c∧c<=63)(hd:0<=d∧d<=3):Ok (ei c m d) (fun r=> -256<=r∧r<=16400):=by
 unfold ei
 rw [w64 (n:=d*2) za za,w64 (n:=d*2+1) za za]
 exact Ok.gC (fun _=>Ok.bind (Ok.quo za) (fun _ _=>dig32 hc za)) (fun _=>dig32 hc za)
theorem dig38{c m d:Int}(hc: -1<=c∧c<=63)(hd:0<=d∧d<=1):Ok (ej c m d) (fun r=> -256<=r∧r<=16400):=by
 unfold ej
 rw [w64 (n:=d*2) za za,w64 (n:=d*2+1) za za]
 exact Ok.gC (fun _=>Ok.bind (Ok.quo za) (fun _ _=>dig35 hc za)) (fun _=>dig35 hc za)
theorem digits_ok{c m:Int}(hc: -1<=c∧c<=63):Ok (ge c m) (fun r=> -256<=r∧r<=16400):=by
 unfold ge
 exact Ok.gC (fun _=>Ok.bind (Ok.quo za) (fun _ _=>dig38 hc za)) (fun _=>dig38 hc za)
theorem log_ok(n:Int):Ok (gV n) (fun r=> -256<=r.1∧r.1<=16400):=by
 unfold gV
 refine Ok.gC (fun _=>Ok.ret ⟨sm,sm⟩) (fun _=>?_)
 refine Ok.bind (bits_ok (u64_range n)) (fun L hL=>?_)
 rw [w64 (n:=L-1) za za]
 refine Ok.gC (fun h=>?_) (fun h=>?_)
 ·rw [w64 za za]
  have e:xh .i64 n (30-(L-1))=some (shlI .i64 n (30-(L-1))):=by unfold xh;rw [if_neg za]
  rw [e,zd]
  exact Ok.bind (digits_ok za) (fun r hr=>Ok.ret hr)
 ·rw [w64 za za]
  have e:shrO .i64 n (L-1-30)=some (jS .i64 n (L-1-30)):=by unfold shrO;rw [if_neg za]
  rw [e,zd]
  exact Ok.bind (digits_ok za) (fun r hr=>Ok.ret hr)
theorem logNat_ok{l:List Int}(hl:l.length<=64):Ok (gd l) (fun r=> -1000<=r.1∧r.1<=600000):=by
 unfold gd
 refine Ok.bind (kS l za) (fun v _=>Ok.uT (fun _=>Ok.ret ⟨sm,sm⟩) (fun _=>?_))
 rw [w64 (n:=(l.length:Int)-1) za za]
 refine Ok.gC (fun _=>Ok.ret ⟨sm,sm⟩) (fun h0=>Ok.rN (fun h1=>?_) (fun h1=>?_))
 ·refine Ok.bind (Ok.get za za) (fun a _=>Ok.bind (log_ok a) (fun r hr=>Ok.ret ⟨zc,zc⟩))
 ·rw [w64 (n:=(l.length:Int)-1-1) za za,w64 (n:=7680*((l.length:Int)-1-1)) za za]
  refine Ok.bind (Ok.get za za) (fun a _=>Ok.bind (Ok.get za za) (fun b _=>Ok.bind (log_ok _) (fun r hr=>?_)))
  rw [w64 za za]
  exact Ok.ret ⟨zc,zc⟩
theorem ground_ok{s:bu}{r:aP}(h:nC r)(a:Int):Ok (iP s r a) (fun x=> -700000<=x.1∧x.1<=700000):=by
 unfold iP
 refine Ok.bind (Gain_ok h _ _) (fun g hg=>Ok.qQ (fun _=>Ok.ret ⟨sm,sm⟩) (fun _=>?_))
 refine Ok.bind (logNat_ok hg.1) (fun x hx=>Ok.qQ (fun _=>Ok.ret ⟨sm,sm⟩) (fun _=>?_))
 refine Ok.bind (logNat_ok hg.2) (fun y hy=>Ok.qQ (fun _=>Ok.ret ⟨sm,sm⟩) (fun _=>?_))
 refine Ok.bind (log_ok a) (fun z hz=>?_)
 rw [w64 (n:=2*z.1) za za,w64 (n:=2*z.1+y.1) za za,w64 za za]
 exact Ok.ret ⟨zc,zc⟩
theorem floorL_at{l:Int}(h: -1000000<=l∧l<=1000000):gM l=some (l*30103 / 256000):=by
 unfold gM kP
 rw [if_pos so,zd]
 dsimp only
 rw [if_neg so,w64 (n:=l*30103) za za]
 have hb: -30103000000<=l*30103∧l*30103<=30103000000:=by omega
 generalize l*30103=n at*
 have e1:rr .i64 n 256000=some (IntKind.wrap .i64 (n.tdiv 256000)):=by unfold rr;rw [if_neg za]
 have e2:vu n 256000=some (n.tmod 256000):=by unfold vu;rw [if_neg za]
 rw [e1,e2,zd,zd]
 rcases Int.le_total 0 n with h0|h0
 ·rw [Int.tdiv_eq_ediv_of_nonneg h0,Int.tmod_eq_emod_of_nonneg h0,if_neg so,w64 za za]
 ·obtain⟨m,rfl⟩:∃m,n= -m:=⟨-n,za⟩
  rw [Int.neg_tdiv,Int.neg_tmod,Int.tdiv_eq_ediv_of_nonneg za,Int.tmod_eq_emod_of_nonneg za,w64 (n:= -(m / 256000)) za za,w64 za za]
  by_cases hm:m%256000=0
  ·rw [if_neg so];congr 1;omega
  ·rw [if_pos so];congr 1;omega
theorem ceilL_at{l:Int}(h: -1000000<=l∧l<=1000000):kq l=some (-(-l*30103 / 256000)):=by
 unfold kq
 rw [w64 (n:=0-l) za za,floorL_at za,zd,w64 za za]
 congr 1
 rw [show 0-l= -l by omega];omega
theorem half_at'{n:Int}:iq n=some (n / 2):=by
 unfold iq
 show some (n.fdiv (2 ^ (min (1:Int).toNat 64)))=_
 rw [Int.fdiv_eq_ediv_of_nonneg _ (by decide)]
 rfl
theorem scale_valid{s:ap}(h:iH s):cL s.fb=some true:=by
 have h1:=h.num;have h2:=h.den
 refine Ok.eq ?_
 unfold cL
 rw [gp h.cor,zd,if_pos sm]
 exact Ok.gC (fun _=>Ok.gC (fun _=>Ok.gC (fun _=>Ok.ret so) (fun _=>za)) (fun _=>za)) (fun _=>za)
theorem station_ok{s:ap}(hs:iH s){r:aP}(hr:nC r)(a:Int){n f:Int}(h0:0<=n)(hnf:n<=f)(hf:f<=65535):Ok (fC s.fb r a n f) (fun x=>x.2=0->x.1.aL<=x.1.aF):=by
 unfold fC
 rw [scale_valid hs,zd,if_neg sm]
 refine Ok.gC (fun _=>Ok.ret sm) (fun _=>Ok.gC (fun _=>Ok.ret sm) (fun _=>?_))
 refine Ok.bind (ground_ok hr a) (fun x hx=>Ok.qQ (fun h=>Ok.ret sm) (fun _=>?_))
 refine Ok.bind (nH hs.cor n f h0 hnf hf) (fun y hy=>Ok.qQ (fun h=>Ok.ret sm) (fun h=>?_))
 obtain⟨y0,y1,y2⟩:=hy.2 h
 rw [w64 (n:=x.1-2) za za,w64 (n:=0-x.1) za za,w64 (n:=0-x.1-6) za za]
 rw [half_at',zd,floorL_at za,zd,half_at',zd,w64 (n:=0-(0-x.1-6) / 2) za za,ceilL_at za,zd]
 refine Ok.ret fun _=>?_
 simp only
 rw [w64 za za,w64 za za]
 omega
end Go.Dw.Ek
set_option maxRecDepth 100000
set_option maxHeartbeats 4000000
namespace Go.Dw.Ek
open Go.Dw Go.Proofs
theorem or_some(l:List Int)(hl:l.length<1000):∃r,cv l=some r:=by
 unfold cv
 have:=Sd.or_go (l:=l) (n:=0) (r:=l) hl za sm
 rw [show((0:Int))=((0:Nat):Int)from rfl,this]
 cases l.find? fun x=>decide (x≠0)<;>exact⟨_,rfl⟩
structure PV(q:ag):Prop where
 box:fu q.aO
 reg:eD 20 q.aO.aL
 tab:oi q.bi
 len:1<=q.ba.length∧q.ba.length<=64
 cap:1<=q.da∧q.da<=1000
 ph:∀a∈q.ba,PhV a∧Reach q.bi (mY q.aO a.aN)
theorem sub_zone{q:ag}(hq:PV q){b:ai}(h:Sub q.aO b){a:ak}(ha:a∈q.ba):Ok (dC q.bi b a) (fun r=>r.2=0∧eB r.1):=by
 obtain⟨hv,hr⟩:=hq.ph a ha
 refine(qv hq.tab (h.ok hq.box hq.reg) hv).mono fun r hr'=>?_
 have:r.2=0:=hr'.1.2 (Int.le_trans (far_mono h _) hr)
 exact⟨this,hr'.2 this⟩
theorem mV{q:ag}(hq:PV q):gN q=some 0:=by
 have hl:=hq.len;have hc:=hq.cap
 refine Ok.eq ?_
 unfold gN
 rw [dJ hq.box,zd,if_neg sm,gp hq.tab,zd,if_neg sm]
 refine Ok.rN (fun h=>za) (fun _=>Ok.gC (fun h=>za) (fun _=>Ok.gC (fun h=>za) (fun _=>Ok.gC (fun h=>za) (fun _=>?_))))
 refine Ok.bind (P:=fun o=>o= .inl ()) (Ok.upto q.ba.length za (fun _=>True) trivial (fun i h0 h1 _=>?_)) (fun o ho=>by subst ho;exact Ok.ret rfl)
 unfold lX
 refine Ok.gC (fun hlt=>?_) (fun _=>Ok.st rfl)
 refine Ok.bind (Ok.get za za) (fun a ha=>?_)
 refine Ok.bind (sub_zone hq (Sub.refl hq.box) ha.1) (fun z hz=>?_)
 refine Ok.qQ (fun h=>(h hz.1).elim) (fun _=>?_)
 rw [w64 za za]
 exact Ok.nx ⟨⟨za,za⟩,trivial⟩ za
theorem zones_ok{q:ag}(hq:PV q){b:ai}(h:Sub q.aO b):Ok (fD q b) (fun r=>r.2=0∧r.1.length=q.ba.length∧∀z∈r.1,eB z):=by
 have hl:=hq.len
 unfold fD
 rw [mV hq,zd,if_neg sm,within_at hq.box hq.reg h,zd,if_neg sm]
 refine Ok.bind ?_ (fun r hr=>Ok.ret hr)
 unfold l7
 refine Ok.bind (Ok.mkC za za za za) (fun x hx=>?_)
 subst hx
 refine Ok.bind (P:=fun o=>∃l,o= .inl l∧l.length=q.ba.length∧∀z∈l,eB z) (Ok.loop (fun s:Int×List aG=>(0<=s.1∧s.1<=q.ba.length)∧s.2.length=s.1.toNat∧∀z∈s.2,eB z) (fun s=>((q.ba.length:Int)-s.1).toNat) ?_ ⟨⟨sm,sm⟩,sm,sm⟩) (fun o⟨l,ho,h1,h2⟩=>by subst ho;exact Ok.ret ⟨rfl,h1,h2⟩)
 rintro⟨s2,s3⟩ ⟨⟨i0,i1⟩,i2,i3⟩
 simp only at i0 i1 i2 i3
 unfold kR
 refine Ok.gC (fun hlt=>?_) (fun _=>Ok.st ⟨s3,rfl,za,i3⟩)
 refine Ok.bind (Ok.get za za) (fun a ha=>?_)
 refine Ok.bind (sub_zone hq h ha.1) (fun z hz=>?_)
 refine Ok.qQ (fun h=>(h hz.1).elim) (fun _=>?_)
 refine Ok.bind (Ok.app (by simp only [List.length_cons,List.length_nil];omega)) (fun y hy=>?_)
 subst hy
 rw [w64 za za]
 refine Ok.nx ⟨⟨zc,zc⟩,by simp only [List.length_append,List.length_cons,List.length_nil];omega,fun z' hz'=>?_⟩ zc
 rcases List.mem_append.1 hz' with h|h
 ·exact i3 z' h
 ·rw [List.mem_singleton.1 h];exact hz.2
theorem cost_ok{q:ag}(hq:PV q)(l:List aG)(t:Int):Ok (iu q l t) (fun r=>(∀z∈l,eB z∧z.bp<=t∧t<=z.fTo)->r=0):=by
 have hl:=hq.len;have hc:=hq.cap
 unfold iu
 refine Ok.bind (P:=fun o=>(∀z∈l,eB z∧z.bp<=t∧t<=z.fTo)->o=0) (Ok.loop (fun s:Int×Int=>(0<=s.2∧s.2<=q.ba.length)∧((∀z∈l,eB z∧z.bp<=t∧t<=z.fTo)->s.1=0)) (fun s=>((q.ba.length:Int)-s.2).toNat) ?_ ⟨⟨sm,sm⟩,fun _=>rfl⟩) (fun o ho=>Ok.ret ho)
 rintro⟨s1,s2⟩ ⟨⟨i0,i1⟩,i2⟩
 simp only at i0 i1 i2
 unfold lG
 refine Ok.gC (fun hlt=>?_) (fun _=>Ok.st i2)
 refine Ok.bind (Ok.get za za) (fun a ha=>?_)
 refine Ok.gC (fun hlz=>?_) (fun _=>?_)
 ·refine Ok.bind (Ok.get za za) (fun z hz=>?_)
  unfold fo
  rw [zd,w64 (n:=s2+1) za za]
  refine Ok.nx ⟨⟨zc,zc⟩,fun hall=>?_⟩ zc
  obtain⟨⟨z1,z2,z3⟩,z4,z5⟩:=hall z hz.1
  have i2:=i2 hall
  simp only
  rw [w64 (n:=t-z.fTo) za za,w64 (n:=z.bp-t) za za]
  have e:(if(0:Int)>(if t-z.fTo>z.bp-t then t-z.fTo else z.bp-t)then(0:Int)else(if t-z.fTo>z.bp-t then t-z.fTo else z.bp-t))=0:=by
   split<;>split<;>omega
  rw [e,if_pos za,i2]
  simp [w64]
 ·rw [w64 za za]
  exact Ok.nx ⟨⟨zc,zc⟩,i2⟩ zc
theorem best_ok{q:ag}(hq:PV q){l:List aG}(hl:1<=l.length∧l.length<=64):Ok (ir q l) (fun r=>(∃z,l=[z]∧eB z)->r.2=0):=by
 have hzero:∀t,(∃z∈l,t=z.bp∨t=z.fTo)->(∃z,l=[z]∧eB z)->∀z∈l,eB z∧z.bp<=t∧t<=z.fTo:=by
  rintro t ⟨y,hy,ht⟩ ⟨z,rfl,hz⟩ x hx
  rw [List.mem_singleton]at hx hy
  subst hx hy
  obtain⟨z1,z2,z3⟩:=hz
  exact⟨⟨z1,z2,z3⟩,za,za⟩
 unfold ir
 rw [w64 (n:=2*(l.length:Int)) za za]
 refine Ok.bind (Ok.mkC za za za za) (fun x hx=>?_)
 subst hx
 refine Ok.bind (P:=fun o:List Int=>o.length=2*l.length∧∀t∈o,∃z∈l,t=z.bp∨t=z.fTo) (Ok.loop (fun s:Int×List Int=>(0<=s.1∧s.1<=l.length)∧s.2.length=2*s.1.toNat∧∀t∈s.2,∃z∈l,t=z.bp∨t=z.fTo) (fun s=>((l.length:Int)-s.1).toNat) ?_ ⟨⟨sm,sm⟩,sm,sm⟩) (fun o ho=>?_)
 ·rintro⟨s2,s3⟩ ⟨⟨i0,i1⟩,i2,i3⟩
  simp only at i0 i1 i2 i3
  unfold mw
  refine Ok.gC (fun hlt=>?_) (fun _=>Ok.st ⟨za,i3⟩)
  refine Ok.bind (Ok.get za za) (fun z hz=>?_)
  refine Ok.bind (Ok.app (by simp only [List.length_cons,List.length_nil];omega)) (fun y hy=>?_)
  subst hy
  rw [w64 za za]
  refine Ok.nx ⟨⟨zc,zc⟩,by simp only [List.length_append,List.length_cons,List.length_nil];omega,fun t ht=>?_⟩ zc
  rcases List.mem_append.1 ht with h|h
  ·exact i3 t h
  ·simp only [List.mem_cons,List.not_mem_nil,or_false]at h
   exact⟨z,hz.1,h⟩
 ·obtain⟨h1,h2⟩:=ho
  refine Ok.rN (fun h=>za) (fun _=>?_)
  refine Ok.bind (Ok.rK za za) (fun _ _=>Ok.bind (Ok.get za za) (fun x14 g14=>?_))
  refine Ok.bind (Ok.rK za za) (fun _ _=>Ok.bind (Ok.get za za) (fun x17 g17=>?_))
  refine Ok.bind (cost_ok hq l x17) (fun c hc=>?_)
  refine Ok.bind (Ok.sub za za za) (fun _ _=>?_)
  refine Ok.bind (Ok.lenv za za) (fun n hn=>?_)
  refine Ok.bind (P:=fun o=>(∃z,l=[z]∧eB z)->o.2=0) (Ok.loop (fun s:Int×Int×Int=>(0<=s.2.2∧s.2.2<=n)∧((∃z,l=[z]∧eB z)->s.2.1=0)) (fun s=>(n-s.2.2).toNat) ?_ ⟨⟨sm,zc⟩,fun h=>hc (hzero _ (h2 _ g17.1) h)⟩) (fun o ho=>Ok.ret ho)
  rintro⟨s1,s2,s3⟩ ⟨⟨i0,i1⟩,i2⟩
  simp only at i0 i1 i2
  unfold lF
  refine Ok.gC (fun hlt=>?_) (fun _=>Ok.st i2)
  refine Ok.bind (Ok.inv za za za) (fun _ _=>?_)
  refine Ok.bind (Ok.get za za) (fun x29 g29=>?_)
  refine Ok.bind (cost_ok hq l x29) (fun c' hc'=>?_)
  rw [w64 za za]
  have hz:(∃z,l=[z]∧eB z)->c'=0:=fun h=>hc' (hzero _ (h2 _ g29.1) h)
  have A:∀(u v:Int),((∃z,l=[z]∧eB z)->v=0)->Ok (some (.next (u,v,s3+1)):Option (fK (Int×Int×Int) (Int×Int))) (Ok.S (fun s:Int×Int×Int=>(0<=s.2.2∧s.2.2<=n)∧((∃z,l=[z]∧eB z)->s.2.1=0)) (fun s=>(n-s.2.2).toNat) (fun o=>(∃z,l=[z]∧eB z)->o.2=0) (s1,s2,s3)):=fun u v h=>Ok.nx ⟨⟨zc,zc⟩,h⟩ zc
  exact Ok.gC (fun _=>A _ _ hz) (fun _=>Ok.rN (fun _=>Ok.gC (fun _=>A _ _ hz) (fun _=>A _ _ i2)) (fun _=>A _ _ i2))
def Single(q:ag):Prop:=q.ba.length=1
theorem single_zone{q:ag}(h:Single q){l:List aG}(hl:l.length=q.ba.length)(hz:∀z∈l,eB z):∃z,l=[z]∧eB z:=by
 rw [h]at hl
 match l,hl with
 | [z],_=>exact⟨z,rfl,hz z sm⟩
theorem bound_ok{q:ag}(hq:PV q){b:ai}(h:Sub q.aO b):Ok (eO q b) (fun r=>r.2=0):=by
 unfold eO
 refine Ok.bind (zones_ok hq h) (fun r hr=>?_)
 refine Ok.qQ (fun h=>(h hr.1).elim) (fun _=>?_)
 exact Ok.bind (best_ok hq (by rw [hr.2.1];exact hq.len)) (fun _ _=>Ok.ret rfl)
theorem at_ok{q:ag}(hq:PV q){p:aa}(h:Sub q.aO ⟨p,p⟩):Ok (gW q p) (fun r=>r.2.2=0∧(Single q->r.2.1=0)):=by
 unfold gW
 refine Ok.bind (zones_ok hq h) (fun r hr=>?_)
 refine Ok.qQ (fun h=>(h hr.1).elim) (fun _=>?_)
 exact Ok.bind (best_ok hq (by rw [hr.2.1];exact hq.len)) (fun s hs=>Ok.ret ⟨rfl,fun h1=>hs (single_zone h1 hr.2.1 hr.2.2)⟩)
theorem compare_ok(a b:aa):Ok (dQ a b) (fun _=>True):=by
 unfold dQ
 rw [Sd.jY,zd,Sd.jY,zd,Sd.jY,zd]
 obtain⟨r,e⟩:=or_some [qF a.fX b.fX,qF a.fY b.fY,qF a.fZ b.fZ] sm
 rw [e]
 exact Ok.ret trivial
end Go.Dw.Ek
set_option maxRecDepth 100000
set_option maxHeartbeats 4000000
namespace Go.Dw.Ek
open Go.Dw Go.Proofs
abbrev Est:=aA
theorem sort_okI{d:List Int}(hd:d.length<=19):Ok (sb d) (fun r=>r.length=d.length):=by
 obtain⟨r,e,hp, -⟩:=yQ (l:=d) za
 exact⟨r,e,hp.length_eq⟩
theorem half_len{l:List Int}(h0:1<=l.length)(h1:l.length<=19):Ok ((rr .i64 (IntKind.wrap .i64 ((l.length:Int)-(1:Int))) (2:Int)).bind fun x12=>(inO l x12).bind fun _=>(eQ l x12).bind fun x15=>some x15) (fun _=>True):=by
 rw [w64 za za]
 refine Ok.bind (Ok.quo za) (fun q hq=>?_)
 rw [Int.tdiv_eq_ediv_of_nonneg za,w64 za za]at hq
 exact Ok.bind (Ok.rK za za) (fun _ _=>Ok.bind (Ok.get za za) (fun _ _=>Ok.ret trivial))
theorem med2_ok{l:List Est}(h0:1<=l.length)(h1:l.length<=19):Ok (fh l) (fun _=>True):=by
 unfold fh
 refine Ok.bind (P:=fun o:List Int=>o.length=l.length) (Ok.loop (fun s:Int×List Int=>(0<=s.1∧s.1<=l.length)∧s.2.length=s.1.toNat) (fun s=>((l.length:Int)-s.1).toNat) ?_ ⟨⟨sm,sm⟩,rfl⟩) (fun o ho=>?_)
 ·rintro⟨s1,s2⟩ ⟨⟨i0,i1⟩,i2⟩
  simp only at i0 i1 i2
  unfold jh gF
  refine Ok.gC (fun hlt=>?_) (fun _=>Ok.st za)
  refine Ok.bind (Ok.get za za) (fun x _=>?_)
  rw [zd]
  refine Ok.bind (Ok.app (by simp only [List.length_cons,List.length_nil];omega)) (fun y hy=>?_)
  subst hy
  rw [w64 za za]
  exact Ok.nx ⟨⟨zc,zc⟩,by simp only [List.length_append,List.length_cons,List.length_nil];omega⟩ zc
 ·exact Ok.bind (sort_okI za) (fun r hr=>half_len za za)
theorem med3_ok{l:List Est}(h0:1<=l.length)(h1:l.length<=19):Ok (fi l) (fun _=>True):=by
 unfold fi
 refine Ok.bind (P:=fun o:List Int=>o.length=l.length) (Ok.loop (fun s:Int×List Int=>(0<=s.1∧s.1<=l.length)∧s.2.length=s.1.toNat) (fun s=>((l.length:Int)-s.1).toNat) ?_ ⟨⟨sm,sm⟩,rfl⟩) (fun o ho=>?_)
 ·rintro⟨s1,s2⟩ ⟨⟨i0,i1⟩,i2⟩
  simp only at i0 i1 i2
  unfold ji gG
  refine Ok.gC (fun hlt=>?_) (fun _=>Ok.st za)
  refine Ok.bind (Ok.get za za) (fun x _=>?_)
  rw [zd]
  refine Ok.bind (Ok.app (by simp only [List.length_cons,List.length_nil];omega)) (fun y hy=>?_)
  subst hy
  rw [w64 za za]
  exact Ok.nx ⟨⟨zc,zc⟩,by simp only [List.length_append,List.length_cons,List.length_nil];omega⟩ zc
 ·exact Ok.bind (sort_okI za) (fun r hr=>half_len za za)
theorem network_ok{l:List Est}(h0:1<=l.length)(h1:l.length<=19)(hl:∀x∈l,x.aL<=x.aF):Ok (fB l) (fun r=>r.2=0):=by
 unfold fB
 refine Ok.rN (fun h=>za) (fun _=>?_)
 have e:cA l=some false:=by
  unfold cA dU
  rw [kQ l.length (fun i hi=>?_) ?_]
  ·rfl
  ·unfold dv
   rw [if_neg sm]
  ·unfold dv gE
   have:=hl _ (List.getElem_mem hi)
   rw [if_pos so,gZ rfl hi,zd,zd,if_neg so,w64 za za]
   simp
 rw [e,zd,if_neg sm]
 exact Ok.bind (med2_ok h0 h1) (fun a _=>Ok.bind (med3_ok h0 h1) (fun b _=>Ok.ret rfl))
structure MatV(m:aS):Prop where
 len:m.dc.length=m.du.length∧m.jn.length=m.du.length
 few:m.du.length<=19
 pos:∀a∈m.dc,eD 60 a.aN
 resp:∀e∈m.jn,nC e.bN
theorem estimates_ok{s:ap}(hs:iH s){m:aS}(hm:MatV m){b:ai}(hb:fu b):Ok (cM m s b) (fun r=>r.length<=19∧∀x∈r,x.aL<=x.aF):=by
 obtain⟨⟨l1,l2⟩,l3,hp,hr⟩:=hm
 unfold cM
 refine Ok.bind (P:=fun r:List Est=>r.length<=19∧∀x∈r,x.aL<=x.aF) (Ok.loop (fun u:Int×List Est=>(0<=u.1∧u.1<=m.dc.length)∧u.2.length<=u.1.toNat∧∀x∈u.2,x.aL<=x.aF) (fun u=>((m.dc.length:Int)-u.1).toNat) ?_ ⟨⟨sm,sm⟩,sm,sm⟩) (fun r hr=>Ok.ret hr)
 rintro⟨s1,s2⟩ ⟨⟨i0,i1⟩,i2,i3⟩
 simp only at i0 i1 i2 i3
 unfold dE
 refine Ok.gC (fun hlt=>?_) (fun _=>Ok.st ⟨za,i3⟩)
 refine Ok.bind (Ok.get za za) (fun x6 g6=>Ok.bind (Ok.get za za) (fun x7 g7=>Ok.bind (Ok.get za za) (fun x8 g8=>?_)))
 obtain⟨e1,n0,n1⟩:=p7 hb (hp _ g6.1)
 obtain⟨e2,f0,f1⟩:=Far_at hb (hp _ g6.1)
 rw [e1,zd,e2,zd,w64 za za]
 refine Ok.bind (station_ok hs (hr _ g7.1) x8.aQ n0 (oP hb _) za) (fun y hy=>?_)
 refine Ok.rN (fun h=>?_) (fun _=>Ok.nx ⟨⟨zc,zc⟩,zc,i3⟩ zc)
 refine Ok.bind (Ok.app (by simp only [List.length_cons,List.length_nil];omega)) (fun z hz=>?_)
 subst hz
 refine Ok.nx ⟨⟨zc,zc⟩,by simp only [List.length_append,List.length_cons,List.length_nil];omega,fun x hx=>?_⟩ zc
 rcases List.mem_append.1 hx with h'|h'
 ·exact i3 x h'
 ·rw [List.mem_singleton.1 h'];exact hy h
end Go.Dw.Ek
set_option maxRecDepth 100000
set_option maxHeartbeats 4000000
namespace Go.Dw.Ek
open Go.Dw Go.Proofs
section
variable {α:Type}
def pK(lt:α->α->Bool)(x:α):List α->List α
 | []=>[x]
 |y::r=>if lt x y=true then y::pK lt x r else x::y::r
def sortF(lt:α->α->Bool)(R l:List α):List α:=l.foldl (fun a x=>pK lt x a) R
def bF(lt:α->α->Bool)(l:List α):List α:=(sortF lt [] l).reverse
theorem mg(lt:α->α->Bool)(x:α):∀R,(pK lt x R).Perm (x::R)
 | []=>List.Perm.refl _
 |y::r=>by
  unfold pK
  split
  ·exact((mg lt x r).cons y).trans (List.Perm.swap x y r)
  ·exact List.Perm.refl _
theorem sortF_perm(lt:α->α->Bool):∀l R,(sortF lt R l).Perm (l++R)
 | [],_=>List.Perm.refl _
 |x::l,R=>(sortF_perm lt l (pK lt x R)).trans (((mg lt x R).append_left l).trans List.perm_middle)
theorem bz(lt:α->α->Bool)(l:List α):(bF lt l).Perm l:=(List.reverse_perm _).trans (by simpa using sortF_perm lt l [])
theorem cH(lt:α->α->Bool)(l:List α):(bF lt l).length=l.length:=(bz lt l).length_eq
def Lex(c:α->α->Int)(o:α->α->Prop)(a b:α):Prop:=c a b<0∨(c a b=0∧o a b)
theorem insR_lex{c:α->α->Int}(hc:Tot c){o:α->α->Prop}{x:α}:∀{R:List α},R.Pairwise (fun a b=>Lex c o b a)->(∀y∈R,o y x)->(pK (fun x y=>decide (c x y<0)) x R).Pairwise (fun a b=>Lex c o b a)
 | [],_,_=>by simp [pK]
 |y::r,h,hx=>by
  obtain⟨h1,h2⟩:=List.pairwise_cons.1 h
  unfold pK
  split
  ·rename_i hlt
   refine List.pairwise_cons.2 ⟨fun z hz=>?_,insR_lex hc h2 fun y hy=>hx y (List.mem_cons_of_mem _ hy)⟩
   rcases List.mem_cons.1 ((mg _ x r).mem_iff.1 hz)with rfl|hz
   ·exact .inl (by simpa using hlt)
   ·exact h1 z hz
  ·rename_i hlt
   have hyx:c y x<=0:=by
    have:=hc.sw x y
    simp only [decide_eq_true_eq]at hlt;omega
   refine List.pairwise_cons.2 ⟨fun z hz=>?_,h⟩
   have hzy:c z y<=0:=by
    rcases List.mem_cons.1 hz with rfl|hz
    ·have:=hc.refl z;omega
    ·rcases h1 z hz with h|h<;>omega
   have hzx:=hc.tr z y x hzy hyx
   rcases Int.lt_or_eq_of_le hzx with h|h
   ·exact .inl h
   ·exact .inr ⟨h,hx z hz⟩
theorem sortF_lex{c:α->α->Int}(hc:Tot c){o:α->α->Prop}:∀{l R:List α},R.Pairwise (fun a b=>Lex c o b a)->(∀y∈R,∀x∈l,o y x)->l.Pairwise o->(sortF (fun x y=>decide (c x y<0)) R l).Pairwise (fun a b=>Lex c o b a)
 | [],_,h,_,_=>h
 |x::l,R,h,hx,hl=>by
  obtain⟨l1,l2⟩:=List.pairwise_cons.1 hl
  refine sortF_lex hc (l:=l) (R:=pK _ x R) (insR_lex hc h fun y hy=>hx y hy x sm) (fun y hy z hz=>?_) l2
  rcases List.mem_cons.1 ((mg _ x R).mem_iff.1 hy)with rfl|hy
  ·exact l1 z hz
  ·exact hx y hy z (List.mem_cons_of_mem _ hz)
theorem sortI_lex{c:α->α->Int}(hc:Tot c){o:α->α->Prop}{l:List α}(hl:l.Pairwise o):(bF (fun x y=>decide (c x y<0)) l).Pairwise (Lex c o):=by
 unfold bF
 rw [List.pairwise_reverse]
 exact sortF_lex hc .nil (fun y hy=>by cases hy) hl
theorem sortI_le{c:α->α->Int}(hc:Tot c)(l:List α):(bF (fun x y=>decide (c x y<0)) l).Pairwise (fun a b=>c a b<=0):=by
 have:=sortI_lex hc (o:=fun _ _=>True) (l:=l) (List.pairwise_of_forall fun _ _=>trivial)
 exact this.imp fun h=>by rcases h with h|h<;>omega
theorem fO{c:α->α->Int}(hc:Tot c):∀{r s:List α},r.Pairwise (fun x y=>c x y<0)->s.Pairwise (fun x y=>c x y<0)->(∀x,x∈r↔x∈s)->r=s
 | [],[],_,_,_=>rfl
 | [],b::s,_,_,h=>by have:=(h b).2 sm;cases this
 |a::r,[],_,_,h=>by have:=(h a).1 sm;cases this
 |a::r,b::s,h1,h2,h=>by
  obtain⟨a1,a2⟩:=List.pairwise_cons.1 h1
  obtain⟨b1,b2⟩:=List.pairwise_cons.1 h2
  have e:a=b:=by
   rcases List.mem_cons.1 ((h a).1 sm)with h3|h3
   ·exact h3
   ·rcases List.mem_cons.1 ((h b).2 sm)with h4|h4
    ·exact h4.symm
    ·have:=a1 b h4;have:=b1 a h3;have:=hc.sw a b;omega
  subst e
  congr 1
  refine fO hc a2 b2 fun x=>⟨fun hx=>?_,fun hx=>?_⟩
  ·rcases List.mem_cons.1 ((h x).1 (List.mem_cons_of_mem _ hx))with rfl|h3
   ·have:=a1 x hx;have:=hc.refl x;omega
   ·exact h3
  ·rcases List.mem_cons.1 ((h x).2 (List.mem_cons_of_mem _ hx))with rfl|h3
   ·have:=b1 x hx;have:=hc.refl x;omega
   ·exact h3
end
noncomputable def insG31 {α β:Type} (br:α->α->Option β) (t:β->Bool) (a1 s1:Int):(Int×List α)->Option (fK (Int×List α) (Int×List α)):=fun(s5,s6)=>
 if(decide (s5>a1))=true then((inO s6 s5).bind fun x12=>(eQ s6 s5).bind fun x13=>(inO s6 (IntKind.wrap .i64 (s5-(1:Int)))).bind fun x15=>(eQ s6 (IntKind.wrap .i64 (s5-(1:Int)))).bind fun x16=>(br x13 x16).bind fun x17=>if t x17=true then((inO s6 (IntKind.wrap .i64 (s5-(1:Int)))).bind fun x20=>(eQ s6 (IntKind.wrap .i64 (s5-(1:Int)))).bind fun x21=>(inO s6 s5).bind fun x23=>(eQ s6 s5).bind fun x24=>(inO s6 s5).bind fun x26=>(sj s6 s5 x21).bind fun x27=>(inO x27 (IntKind.wrap .i64 (s5-(1:Int)))).bind fun x29=>(sj x27 (IntKind.wrap .i64 (s5-(1:Int))) x24).bind fun x30=>some (.next ((IntKind.wrap .i64 (s5-(1:Int))),x30)))else(some (.stop (s1,s6))))else(some (.stop (s1,s6)))
noncomputable def pJ {α β:Type} (br:α->α->Option β) (t:β->Bool) (a2 a1:Int):(Int×List α)->Option (fK (Int×List α) (List α)):=fun(s1,s2)=>
 if(decide (s1<a2))=true then((dS (insG31 br t a1 s1) (s1,s2)).bind fun o32=>some (.next ((IntKind.wrap .i64 (o32.1+(1:Int))),o32.2)))else((some s2).bind fun z33=>some (.stop z33))
noncomputable def insG {α β:Type} (br:α->α->Option β) (t:β->Bool) (a1 a2:Int) (d0:List α):Option (List α):=
 (dS (pJ br t a2 a1) ((IntKind.wrap .i64 (a1+(1:Int))),d0)).bind fun o35=>some o35
section
variable {α β:Type}{br:α->α->Option β}{t:β->Bool}{lt:α->α->Bool}{S:α->Prop}(hbr:∀x y,S x->S y->∃b,br x y=some b∧t b=lt x y)
include hbr
theorem insG_inner{s1:Int}{x:α}(hx:S x):∀(R B:List α),(∀y∈R,S y)->R.length+B.length<=1000->dS (insG31 br t 0 s1) ((R.length:Int),R.reverse++x::B)=some (s1,(pK lt x R).reverse++B)
 | [],B,_,_=>gD (by unfold insG31;dsimp only;rw [if_neg sm];rfl)
 |y::R,B,hR,hl=>by
  have e1:(y::R).reverse++x::B=R.reverse++y::x::B:=by simp
  have e2:R.reverse++y::x::B=(R.reverse++[y])++x::B:=by simp
  have hl':R.length+1+B.length<=1000:=by simpa using hl
  have hw:IntKind.wrap .i64 (((y::R).length:Int)-1)=(R.length:Int):=by rw [w64 sm so];simp
  have i1:inO (R.reverse++y::x::B) ((y::R).length:Int)=some ():=qA za so
  have i0:inO (R.reverse++y::x::B) (R.length:Int)=some ():=qA za so
  have g1:eQ (R.reverse++y::x::B) ((y::R).length:Int)=some x:=by rw [e2];exact get1 _ _ _ sm
  have g0:eQ (R.reverse++y::x::B) (R.length:Int)=some y:=get1 _ _ _ sm
  have s1':sj (R.reverse++y::x::B) ((y::R).length:Int) y=some (R.reverse++y::y::B):=by
   rw [e2,set1 _ _ _ _ sm];simp
  have i2:inO (R.reverse++y::y::B) (R.length:Int)=some ():=qA za so
  have s0:sj (R.reverse++y::y::B) (R.length:Int) x=some (R.reverse++x::y::B):=set1 _ _ _ _ sm
  obtain⟨b,hb,ht⟩:=hbr x y hx (hR y sm)
  have hbody:insG31 br t 0 s1 (((y::R).length:Int),R.reverse++y::x::B)=if lt x y=true then some (.next ((R.length:Int),R.reverse++x::y::B))else some (.stop (s1,R.reverse++y::x::B)):=by
   unfold insG31
   dsimp only
   rw [if_pos sm,hw]
   simp only [i1,i0,g1,g0,hb,s1',i2,s0,zd,ht]
  rw [e1]
  unfold pK
  split
  ·rename_i hlt
   rw [if_pos hlt]at hbody
   rw [kN hbody,insG_inner hx R (y::B) (fun z hz=>hR z (List.mem_cons_of_mem _ hz)) so]
   simp
  ·rename_i hlt
   rw [if_neg hlt]at hbody
   rw [gD hbody]
   simp
theorem insG_outer:∀(l R:List α),(∀y∈R,S y)->(∀y∈l,S y)->R.length+l.length<=1000->∀n:Int,n=R.length+l.length->dS (pJ br t n 0) ((R.length:Int),R.reverse++l)=some (sortF lt R l).reverse
 | [],R,_,_,_,n,hn=>by
  rw [List.append_nil]
  exact gD (by unfold pJ;dsimp only;rw [if_neg (by simp at hn;simp [hn])];rfl)
 |x::l,R,hR,hl,hle,n,hn=>by
  have hlen:(pK lt x R).length=R.length+1:=by rw [(mg lt x R).length_eq];rfl
  have hle':R.length+(l.length+1)<=1000:=by simpa using hle
  have hbody:pJ br t n 0 ((R.length:Int),R.reverse++x::l)=some (.next (((pK lt x R).length:Int),(pK lt x R).reverse++l)):=by
   unfold pJ
   dsimp only
   rw [if_pos (by simp [hn];omega),insG_inner hbr (hl x sm) R l hR za,zd,w64 so so,hlen]
   simp
  rw [kN hbody]
  refine insG_outer l (pK lt x R) (fun y hy=>?_) (fun y hy=>hl y (List.mem_cons_of_mem _ hy)) za n (by rw [hlen,hn];simp;omega)
  rcases List.mem_cons.1 ((mg lt x R).mem_iff.1 hy)with rfl|hy
  ·exact hl _ sm
  ·exact hR y hy
theorem insG_at{l:List α}(hl:∀y∈l,S y)(hn:l.length<=1000):insG br t 0 (l.length:Int) l=some (bF lt l):=by
 unfold insG
 rw [w64 za za]
 cases l with
 |nil=>rw [gD (o:=[]) (by unfold pJ;dsimp only;rw [if_neg sm];rfl)];rfl
 |cons x l=>
  have h:=insG_outer hbr l [x] (by simpa using hl x sm) (fun y hy=>hl y (List.mem_cons_of_mem _ hy)) (by simp at hn⊢;omega) ((x::l).length:Int) so
  have h':dS (pJ br t ((x::l).length:Int) 0) (0+1,x::l)=some (sortF lt [x] l).reverse:=h
  rw [h'];rfl
end
theorem oQ:∀{r s:List Int},r.Perm s->r.Pairwise (· <= ·)->s.Pairwise (· <= ·)->r=s
 | [],s,h,_,_=>h.nil_eq
 |a::r,[],h,_,_=>h.eq_nil
 |a::r,b::s,h,h1,h2=>by
  obtain⟨a1,a2⟩:=List.pairwise_cons.1 h1
  obtain⟨b1,b2⟩:=List.pairwise_cons.1 h2
  have e:a=b:=by
   rcases List.mem_cons.1 (h.mem_iff.1 (List.mem_cons_self (a:=a) (l:=r)))with h3|h3
   ·exact h3
   ·rcases List.mem_cons.1 (h.mem_iff.2 (List.mem_cons_self (a:=b) (l:=s)))with h4|h4
    ·exact h4.symm
    ·have:=a1 b h4;have:=b1 a h3;omega
  subst e
  rw [oQ ((List.perm_cons a).1 h) a2 b2]
theorem sort_int{l:List Int}(hn:l.length<=1000000):sb l=some (bF (fun x y=>decide (qF x y<0)) l):=by
 obtain⟨r,e,hp,hs⟩:=yQ hn
 rw [e,oQ (hp.trans (bz _ l).symm) hs ((sortI_le qU l).imp fun{x y}h=>by unfold qF at h;repeat' split at h<;>omega)]
end Go.Dw.Ek
set_option maxRecDepth 100000
set_option maxHeartbeats 4000000
namespace Go.Dw.Ek
open Go.Dw Go.Proofs
abbrev Item:=al
theorem less_ok{d:List Item}{i j:Int}(hi:0<=i∧i<d.length)(hj:0<=j∧j<d.length):Ok (ix d i j) (fun _=>True):=by
 unfold ix
 refine Ok.bind (Ok.get hi.1 hi.2) (fun a _=>?_)
 refine Ok.bind (Ok.get hj.1 hj.2) (fun b _=>?_)
 rw [Sd.jY,zd]
 refine Ok.bind (Ok.get hi.1 hi.2) (fun a' _=>?_)
 refine Ok.bind (Ok.get hj.1 hj.2) (fun b' _=>?_)
 rw [Sd.jY,zd]
 obtain⟨r,e⟩:=or_some [qF a.ch b.ch,qF a'.gw b'.gw] sm
 rw [e]
 exact Ok.ret trivial
theorem swap_ok{d:List Item}{i j:Int}(hi:0<=i∧i<d.length)(hj:0<=j∧j<d.length):
  Ok (iy i j d) (fun r=>r.Perm d∧(r[j.toNat]? =d[i.toNat]?)∧∀k:Nat,k≠i.toNat->k≠j.toNat->r[k]? =d[k]?):=by
 unfold iy
 refine Ok.bind (Ok.rK hj.1 hj.2) (fun _ _=>Ok.bind (Ok.get hj.1 hj.2) (fun a ga=>?_))
 refine Ok.bind (Ok.rK hi.1 hi.2) (fun _ _=>Ok.bind (Ok.get hi.1 hi.2) (fun b gb=>?_))
 refine Ok.bind (Ok.rK hi.1 hi.2) (fun _ _=>Ok.bind (Ok.set hi.1 hi.2) (fun e he=>?_))
 subst he
 refine Ok.bind (Ok.rK hj.1 (by simpa using hj.2)) (fun _ _=>Ok.bind (Ok.set hj.1 (by simpa using hj.2)) (fun e he=>?_))
 subst he
 have h1:i.toNat<d.length:=by omega
 have h2:j.toNat<d.length:=by omega
 obtain⟨_,rfl⟩:=List.getElem?_eq_some_iff.1 ga.2
 obtain⟨_,rfl⟩:=List.getElem?_eq_some_iff.1 gb.2
 refine Ok.ret ⟨List.set_set_perm h1 h2,?_,fun k k1 k2=>?_⟩
 ·rw [List.getElem?_set_self (by simpa using h2),ze h1]
 ·rw [List.getElem?_set_ne (Ne.symm k2),List.getElem?_set_ne (Ne.symm k1)]
theorem up_ok{q:ag}{a b:Int}{f:Bool}{l:aj}{d:List Item}{j:Int}(hj:0<=j∧j<d.length)(hd:d.length<=1000):Ok (nN j q a b f l d) (fun r=>r.Perm d):=by
 unfold nN
 refine Ok.bind (P:=fun o:List Item=>o.Perm d) (Ok.loop (fun s:Int×List Item=>(0<=s.1∧s.1<d.length)∧s.2.Perm d) (fun s=>s.1.toNat) ?_ ⟨hj,List.Perm.refl _⟩) (fun o ho=>Ok.ret ho)
 rintro⟨s1,s2⟩ ⟨⟨i0,i1⟩,i2⟩
 simp only at i0 i1 i2
 have hlen:s2.length=d.length:=i2.length_eq
 unfold mK
 dsimp only
 rw [w64 (n:=s1-1) za za]
 have e:rr .i64 (s1-1) 2=some (if s1=0 then 0 else(s1-1) / 2):=by
  unfold rr
  rw [if_neg za]
  split
  ·rename_i h;subst h;rfl
  ·rw [Int.tdiv_eq_ediv_of_nonneg za,w64 za za]
 rw [e,zd]
 refine Ok.rN (fun _=>by rw [zd];exact Ok.st i2) (fun hne=>?_)
 have hp:s1≠0:=fun h=>hne (by rw [if_pos h,h])
 rw [if_neg hp]
 refine Ok.bind (less_ok za za) (fun x _=>?_)
 refine Ok.uT (fun _=>by rw [zd];exact Ok.st i2) (fun _=>?_)
 exact Ok.bind (swap_ok za za) (fun y hy=>Ok.nx ⟨⟨zc,zc⟩,hy.1.trans i2⟩ zc)
theorem down_ok{q:ag}{a b:Int}{f:Bool}{l:aj}{d:List Item}{n:Int}(hn:0<=n∧n<d.length)(hd:d.length<=1000):Ok (mf 0 n q a b f l d) (fun r=>r.2.Perm d∧r.2[n.toNat]? =d[n.toNat]?):=by
 unfold mf
 refine Ok.bind (P:=fun o:Int×List Item=>o.2.Perm d∧o.2[n.toNat]? =d[n.toNat]?) (Ok.loop (fun s:Int×List Item=>(0<=s.1∧s.1<=n)∧s.2.Perm d∧s.2[n.toNat]? =d[n.toNat]?) (fun s=>(n-s.1).toNat) ?_ ⟨⟨sm,hn.1⟩,List.Perm.refl _,rfl⟩) (fun o ho=>Ok.ret ho)
 rintro⟨s1,s2⟩ ⟨⟨i0,i1⟩,i2,i3⟩
 simp only at i0 i1 i2 i3
 have hlen:s2.length=d.length:=i2.length_eq
 unfold mZ
 dsimp only
 rw [w64 (n:=2*s1) za za,w64 (n:=2*s1+1) za za,w64 (n:=2*s1+1+1) za za]
 refine Ok.gC (fun _=>Ok.st ⟨i2,i3⟩) (fun h1=>Ok.gC (fun _=>Ok.st ⟨i2,i3⟩) (fun _=>?_))
 have K:∀j,s1<j->j<n->Ok (eV s2 s1 j) (Ok.S (fun s:Int×List Item=>(0<=s.1∧s.1<=n)∧s.2.Perm d∧s.2[n.toNat]? =d[n.toNat]?) (fun s=>(n-s.1).toNat) (fun o:Int×List Item=>o.2.Perm d∧o.2[n.toNat]? =d[n.toNat]?) (s1,s2)):=fun j j0 j1=>by
  unfold eV
  refine Ok.bind (less_ok za za) (fun x _=>?_)
  refine Ok.uT (fun _=>Ok.st ⟨i2,i3⟩) (fun _=>?_)
  exact Ok.bind (swap_ok za za) (fun y hy=>Ok.nx ⟨⟨zc,zc⟩,hy.1.trans i2,by rw [<-i3];exact hy.2.2 _ za za⟩ zc)
 refine Ok.gC (fun h2=>?_) (fun _=>K _ za za)
 refine Ok.bind (less_ok za za) (fun x _=>?_)
 exact Ok.yk (fun _=>K _ za za) (fun _=>K _ za za)
theorem pop_ok{q:ag}{a b:Int}{f:Bool}{l:aj}{x:Item}{d:List Item}(hd:(x::d).length<=1000):Ok (nq q a b f l (x::d)) (fun r=>r.2.Perm d):=by
 have hlen:((x::d).length:Int)=d.length+1:=by simp
 simp only [List.length_cons]at hd
 unfold nq gX
 rw [zd]
 rw [hlen,w64 (n:=(d.length:Int)+1-1) za za]
 refine Ok.bind (swap_ok za za) (fun y⟨p1,p2,_⟩=>?_)
 have hy:y.length=d.length+1:=by have:=p1.length_eq;simpa using this
 refine Ok.bind (down_ok za za) (fun z⟨z1,z2⟩=>?_)
 have hz:z.2.length=d.length+1:=by rw [z1.length_eq,hy]
 unfold pc
 rw [hz,w64 (n:=((d.length+1:Nat):Int)-1) za za]
 refine Ok.bind (P:=fun r:Item×List Item=>r.2.Perm d) ?_ (fun r hr=>Ok.ret hr)
 refine Ok.bind (Ok.rK za za) (fun _ _=>Ok.bind (Ok.get za za) (fun w _=>?_))
 refine Ok.bind (Ok.sub za za za) (fun _ _=>Ok.ret ?_)
 simp only
 rw [show(((d.length+1:Nat):Int)-1).toNat=d.length by omega]
 have e:z.2[d.length]? =some x:=by
  rw [show((d.length:Int)+1-1).toNat=d.length by omega]at z2 p2
  rw [z2,p2];rfl
 obtain⟨hh,e⟩:=List.getElem?_eq_some_iff.1 e
 have h3:z.2=z.2.take d.length++[x]:=by
  conv=>lhs;rw [<-List.take_append_drop d.length z.2]
  rw [List.drop_eq_getElem_cons hh,e,List.drop_of_length_le za]
 have h4:(z.2.take d.length++[x]).Perm (x::d):=by rw [<-h3];exact z1.trans p1
 have h5:(x::z.2.take d.length).Perm (x::d):=(List.perm_append_comm (l₁:=[x])).trans h4
 exact(List.perm_cons x).1 h5
theorem push_ok{q:ag}{a b:Int}{f:Bool}{l:aj}{x:Item}{d:List Item}(hd:d.length<=500):Ok (kM x q a b f l d) (fun r=>r.Perm (x::d)):=by
 unfold kM mP gX
 refine Ok.bind (P:=fun r=>r=d++[x]) (Ok.bind (Ok.app (by simp only [List.length_cons,List.length_nil];omega)) (fun r hr=>Ok.ret hr)) (fun y hy=>?_)
 subst hy
 rw [zd]
 have hl:((d++[x]).length:Int)=d.length+1:=by simp
 rw [hl,w64 za za]
 exact Ok.bind (up_ok za so) (fun r hr=>Ok.ret (hr.trans (List.perm_append_comm (l₂:=[x]))))
theorem push1_ok{q:ag}{a b:Int}{f:Bool}{l:aj}{x:Item}:Ok (me x q a b f l) (fun r=>r.Perm [x]):=by
 unfold me nV gX
 refine Ok.bind (P:=fun r=>r=[x]) (Ok.bind (Ok.app sm) (fun r hr=>Ok.ret hr)) (fun y hy=>?_)
 subst hy
 rw [zd]
 rw [w64 sm sm]
 exact Ok.bind (up_ok sm sm) (fun r hr=>Ok.ret hr)
def cnt:List Item->Int
 | []=>0
 |x::l=>(2*pts x.jx-1)+cnt l
theorem lr{l m:List Item}(h:l.Perm m):cnt l=cnt m:=by
 induction h with
 |nil=>rfl
 |cons x _ ih=>simp only [cnt,ih]
 |swap x y l=>simp only [cnt];omega
 |trans _ _ h1 h2=>rw [h1,h2]
def lQ(r:ai)(l:List Item):Prop:=∀x∈l,Sub r x.jx
theorem lQ.perm{r:ai}{l m:List Item}(h:lQ r m)(hp:l.Perm m):lQ r l:=fun x hx=>h x (hp.mem_iff.1 hx)
theorem cnt_len{q:ag}(hq:PV q){l:List Item}(h:lQ q.aO l):(l.length:Int)<=cnt l:=by
 induction l with
 |nil=>simp [cnt]
 |cons x l ih=>
  have h1:=ih fun y hy=>h y (List.mem_cons_of_mem _ hy)
  have h2:=(pts_in ((h x sm).ok hq.box hq.reg)).1
  simp only [cnt,List.length_cons];omega
def Good(q:ag)(l:aj):Prop:=Sub q.aO ⟨l.aV,l.aV⟩∧(Single q->l.bh=0)
theorem add_ok{q:ag}(hq:PV q){b:ai}(hb:Sub q.aO b){n k:Int}{f:Bool}{l:aj}{d:List Item}(hd:d.length<=500):Ok (iB b q n k f l d) (fun r=>r.1=0∧∃x:Item,x.jx=b∧r.2.2.Perm (x::d)):=by
 unfold iB iC
 refine Ok.bind (bound_ok hq hb) (fun x hx=>?_)
 refine Ok.rN (fun _=>?_) (fun h=>(h hx).elim)
 exact Ok.bind (push_ok hd) (fun r hr=>Ok.ret ⟨hx,_,rfl,hr⟩)
theorem add1_ok{q:ag}(hq:PV q){b:ai}(hb:Sub q.aO b){n k:Int}{f:Bool}{l:aj}:Ok (kV b q n k f l) (fun r=>r.1=0∧∃x:Item,x.jx=b∧r.2.1.Perm [x]):=by
 unfold kV jl
 refine Ok.bind (bound_ok hq hb) (fun x hx=>?_)
 refine Ok.rN (fun _=>?_) (fun h=>(h hx).elim)
 exact Ok.bind push1_ok (fun r hr=>Ok.ret ⟨hx,_,rfl,hr⟩)
theorem look_ok{q:ag}(hq:PV q){b:ai}(hb:Sub q.aO b){n k:Int}{f:Bool}{l:aj}{d:List Item}(hf:f=true->Good q l):Ok (jK b q n k f l d) (fun r=>r.1=0∧r.2.1=true∧Good q r.2.2):=by
 unfold jK
 refine Ok.bind (center_ok hq.box hq.reg hb) (fun p hp=>?_)
 refine Ok.bind (at_ok hq hp) (fun x hx=>?_)
 refine Ok.qQ (fun h=>(h hx.1).elim) (fun _=>?_)
 have hg:Good q (aj.mk p x.1 x.2.1 0 (ai.mk (aa.mk 0 0 0) (aa.mk 0 0 0))):=⟨hp,hx.2⟩
 refine Ok.uT (fun _=>Ok.ret ⟨rfl,rfl,hg⟩) (fun hft=>?_)
 refine Ok.gC (fun _=>Ok.ret ⟨rfl,rfl,hg⟩) (fun _=>Ok.rN (fun _=>?_) (fun _=>Ok.ret ⟨rfl,hft,hf hft⟩))
 exact Ok.bind (compare_ok _ _) (fun c _=>Ok.gC (fun _=>Ok.ret ⟨rfl,rfl,hg⟩) (fun _=>Ok.ret ⟨rfl,hft,hf hft⟩))
theorem ended_ok{t:Int}{q:ag}{n k:Int}{f:Bool}{l:aj}{d:List Item}:Ok (iV t q n k f l d) (fun r=>(r=false->d≠ [])∧(r=true->d=[]∨f=true)):=by
 unfold iV
 refine Ok.rN (fun h=>Ok.ret ⟨fun h=>by simp at h,fun _=>.inl (List.length_eq_zero_iff.1 za)⟩) (fun h=>?_)
 have hd:d≠ []:=fun e=>h (by rw [e];rfl)
 have:=List.length_pos_iff.2 hd
 refine Ok.yk (fun hf=>?_) (fun _=>Ok.ret ⟨fun _=>hd,fun h=>by simp at h⟩)
 exact Ok.bind (Ok.rK za za) (fun _ _=>Ok.bind (Ok.get za za) (fun _ _=>Ok.ret ⟨fun _=>hd,fun _=>.inr hf⟩))
theorem step_ok{q:ag}(hq:PV q){n k:Int}{f:Bool}{l:aj}{d:List Item}(hd:d≠ [])(ho:lQ q.aO d)(hk:0<=k∧k+cnt d<=300)(hf:f=true->Good q l):
  Ok (jL q n k f l d) (fun r=>r.1=0∧r.2.2.1=k+1∧r.2.2.2.1=true∧Good q r.2.2.2.2.1∧lQ q.aO r.2.2.2.2.2∧r.2.2.2.2.2.length<=d.length+1∧k+1+cnt r.2.2.2.2.2<=k+cnt d):=by
 match d,hd with
 |x::d,_=>
  have hlen:=cnt_len hq ho
  have hx:=ho x sm
  have ho':lQ q.aO d:=fun y hy=>ho y (List.mem_cons_of_mem _ hy)
  have hpx:=pts_in (hx.ok hq.box hq.reg)
  simp only [List.length_cons]at hlen
  unfold jL
  refine Ok.rN (fun h=>za) (fun _=>?_)
  refine Ok.bind (Ok.rK za sm) (fun _ _=>?_)
  rw [show eQ (x::d) (0:Int)=some x from rfl,zd]
  refine Ok.bind (pop_ok (by simp only [List.length_cons];omega)) (fun y hy=>?_)
  have hyl:y.2.length=d.length:=hy.length_eq
  have hyo:lQ q.aO y.2:=ho'.perm hy
  have hyc:cnt y.2=cnt d:=lr hy
  have hcx:cnt (x::d)=(2*pts x.jx-1)+cnt d:=rfl
  rw [w64 za za]
  refine Ok.bind (look_ok hq hx hf) (fun z hz=>?_)
  refine Ok.qQ (fun h=>(h hz.1).elim) (fun _=>?_)
  refine Ok.bind (yw hq.box hq.reg hx) (fun s hs=>?_)
  refine Ok.uT (fun _=>Ok.ret ⟨rfl,rfl,hz.2.1,hz.2.2,hyo,so,zc⟩) (fun hst=>?_)
  obtain⟨s1,s2,s3⟩:=hs hst
  refine Ok.bind (add_ok hq s1 za) (fun u⟨u1,a,ua,up⟩=>?_)
  refine Ok.qQ (fun h=>(h u1).elim) (fun _=>?_)
  have hul:u.2.2.length=d.length+1:=by rw [up.length_eq];simp [hyl]
  refine Ok.bind (add_ok hq s2 za) (fun v⟨v1,b,vb,vp⟩=>Ok.ret ⟨v1,rfl,hz.2.1,hz.2.2,?_,?_,?_⟩)
  ·refine lQ.perm (fun w hw=>?_) vp
   rcases List.mem_cons.1 hw with rfl|hw
   ·rw [vb];exact s2
   ·rcases List.mem_cons.1 (up.mem_iff.1 hw)with rfl|hw
    ·rw [ua];exact s1
    ·exact hyo w hw
  ·simp only
   rw [vp.length_eq];simp only [List.length_cons];omega
  ·simp only
   rw [lr vp,hcx]
   simp only [cnt]
   rw [lr up]
   simp only [cnt]
   rw [ua,vb];omega
theorem run_ok{q:ag}(hq:PV q){t:Int}(ht:0<=t):Ok (ip q t) (fun r=>r.2=0∧∃s,r.1=some s∧Good q s.bT∧lQ q.aO s.kg∧s.kg.length<=300):=by
 have hpr:=pts_in hq.box
 unfold ip
 rw [mV hq,zd,if_neg sm,if_neg so]
 refine Ok.bind (add1_ok hq (Sub.refl hq.box)) (fun x⟨x1,a,xa,xp⟩=>?_)
 refine Ok.qQ (fun h=>(h x1).elim) (fun _=>?_)
 have hxc:cnt x.2.1=2*pts q.aO-1:=by rw [lr xp];simp only [cnt];rw [xa];omega
 have hxo:lQ q.aO x.2.1:=lQ.perm (fun w hw=>by rw [List.mem_singleton.1 hw,xa];exact Sub.refl hq.box) xp
 refine Ok.bind (P:=fun o=>∃y,o= .inl y∧Good q y.2.2.2.2∧lQ q.aO y.1∧y.1.length<=300) (Ok.loop (fun s:Int×Int×Bool×aj×List Item=>(0<=s.2.1∧s.2.1+cnt s.2.2.2.2<=300)∧lQ q.aO s.2.2.2.2∧(s.2.2.1=true->Good q s.2.2.2.1)∧(s.2.2.2.2=[]->s.2.2.1=true)) (fun s=>(300-s.2.1).toNat) ?_ ⟨⟨sm,zc⟩,hxo,sm,fun h=>?_⟩) (fun o⟨y,ho,h1,h2,h3⟩=>by subst ho;exact Ok.ret ⟨rfl,_,rfl,h1,h2,h3⟩)
 ·rintro⟨s6,s7,s8,s9,s10⟩ ⟨⟨i0,i1⟩,i2,i3,i4⟩
  simp only at i0 i1 i2 i3 i4
  have hl:=cnt_len hq i2
  unfold ko
  dsimp only
  refine Ok.bind ended_ok (fun e he=>?_)
  refine Ok.uT (fun hef=>?_) (fun het=>Ok.st ⟨_,rfl,?_,i2,zc⟩)
  ·have hne:=he.1 hef
   have:=List.length_pos_iff.2 hne
   refine Ok.bind (step_ok hq hne i2 ⟨i0,i1⟩ i3) (fun r⟨r1,r2,r3,r4,r5,r6,r7⟩=>?_)
   refine Ok.qQ (fun h=>(h r1).elim) (fun _=>?_)
   exact Ok.nx ⟨⟨zc,zc⟩,r5,fun _=>r4,fun _=>r3⟩ zc
  ·refine i3 ?_
   rcases he.2 het with h|h
   ·exact i4 h
   ·exact h
 ·simp only at h
  rw [h]at hxc
  simp only [cnt]at hxc;omega
theorem locate_ok{q:ag}(hq:PV q){t:Int}(ht:0<=t):Ok (db q t) (fun r=>r.2=0∧Sub q.aO r.1.aY∧(Single q->r.1.bh=0)):=by
 unfold db
 refine Ok.bind (run_ok hq ht) (fun x⟨x1,s,xs,⟨g1,g2⟩,ho,hs⟩=>?_)
 rw [xs]
 show Ok (if(x.2 != (0:Int))=true then _ else _) _
 refine Ok.qQ (fun h=>(h x1).elim) (fun _=>?_)
 refine Ok.bind (P:=fun o:Int×ai=>Sub q.aO o.2) (Ok.loop (fun u:Int×Int×ai=>(0<=u.1∧u.1<=s.kg.length)∧Sub q.aO u.2.2) (fun u=>((s.kg.length:Int)-u.1).toNat) ?_ ⟨⟨sm,sm⟩,g1⟩) (fun o ho=>Ok.ret ⟨rfl,ho,g2⟩)
 rintro⟨u1,u2,u3⟩ ⟨⟨i0,i1⟩,i2⟩
 simp only at i0 i1 i2
 unfold kl
 refine Ok.gC (fun hlt=>?_) (fun _=>Ok.st i2)
 refine Ok.bind (Ok.get za za) (fun y hy=>?_)
 rw [w64 za za]
 refine Ok.gC (fun _=>?_) (fun _=>Ok.nx ⟨⟨zc,zc⟩,i2⟩ zc)
 exact Ok.bind (hull_ok hq.box hq.reg i2 (ho y hy.1)) (fun z hz=>Ok.nx ⟨⟨zc,zc⟩,hz⟩ zc)
end Go.Dw.Ek
