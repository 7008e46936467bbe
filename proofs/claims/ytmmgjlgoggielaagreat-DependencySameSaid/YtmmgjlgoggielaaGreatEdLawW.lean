
import Derived.Test.YtmmgjlgoggielaaGreatEdFn
import Derived.Test.YtmmgjlgoggielaaGreatDwPlain
import Derived.Test.YtmmgjlgoggielaaGreatDwOk
import Derived.Test.YtmmgjlgoggielaaGreatEdCo
import Derived.KernelRfl

set_option maxRecDepth 100000
set_option maxHeartbeats 4000000
namespace Go.Dw.Ed
namespace Sq
open Go.Dw
abbrev Src:=aw
theorem byteO_at{s:List UInt8}{n:Int}{i:Nat}(hn:n=i)(hi:i<s.length):vB s n=some ((s[i].toNat:Nat):Int):=by
 subst hn
 unfold vB
 rw [if_pos ⟨za,za⟩,Int.toNat_natCast,List.getD_eq_getElem?_getD,ze hi];rfl
theorem eH{α:Type}{l m:List α}{b:Nat}(h:(l.length+m.length)*b<=140737488355328):qq l m b=some (l++m):=by
 unfold qq
 rw [if_pos h]
theorem loop_list{α ω:Type}{body:Int->Option (py Int ω)}(l:List α){p:α->Bool}{u r:ω}(h1:∀(i:Nat)(hi:i<l.length),body i=if p l[i]=true then some (.next ((i+1:Nat):Int))else some (.stop r))
  (h2:body (l.length:Nat)=some (.stop u)):oC body (0:Int)=some (if l.all p=true then u else r):=by
 have:∀k i,i+k=l.length->oC body (i:Int)=some (if(l.drop i).all p=true then u else r):=by
  intro k
  induction k with
  |zero=>
   intro i hi
   obtain rfl:i=l.length:=by omega
   rw [pK h2];simp
  |succ k ih=>
   intro i hi
   have hlt:i<l.length:=by omega
   rw [List.drop_eq_getElem_cons hlt,List.all_cons]
   by_cases hp:p l[i]=true
   ·rw [pZ (by rw [h1 i hlt,if_pos hp]),ih (i+1) za,hp,Bool.true_and]
   ·rw [pK (by rw [h1 i hlt,if_neg hp])];simp [hp]
 have:=this l.length 0 za
 simpa using this
def plainB(c:UInt8):Bool:=(decide (65<=c.toNat)&&decide (c.toNat<=90))||(decide (48<=c.toNat)&&decide (c.toNat<=57))
theorem dec1(n:Nat):decide ((n:Int)>=65)=decide (65<=n):=decide_eq_decide.2 za
theorem dec2(n:Nat):decide ((n:Int)<=90)=decide (n<=90):=decide_eq_decide.2 za
theorem dec3(n:Nat):decide ((n:Int)>=48)=decide (48<=n):=decide_eq_decide.2 za
theorem dec4(n:Nat):decide ((n:Int)<=57)=decide (n<=57):=decide_eq_decide.2 za
theorem plain_eq(c:UInt8):lr ((c.toNat:Nat):Int)=some (plainB c):=by
 unfold lr plainB
 rw [dec1,dec2,dec3,dec4]
 cases decide (65<=c.toNat)<;>cases decide (c.toNat<=90)<;>cases decide (48<=c.toNat)<;>simp
def nH(s:List UInt8)(lo hi:Int):Bool:=s.all plainB&&(decide ((s.length:Int)>=lo)&&decide ((s.length:Int)<=hi))
theorem code_l7{s:List UInt8}(hs:s.length<=9223372036854775807):oC (jQ s) (0:Int)=some (if s.all plainB=true then .inl ()else .inr false):=by
 refine loop_list s (fun i hi=>?_) ?_
 ·unfold jQ
  rw [if_pos so,byteO_at rfl hi,w64 za za]
  simp only [zd,plain_eq]
  cases plainB s[i]<;>simp
 ·unfold jQ
  rw [if_neg sm]
theorem code_eq{s:List UInt8}(hs:s.length<=9223372036854775807)(lo hi:Int):ic s lo hi=some (nH s lo hi):=by
 unfold ic nH
 rw [code_l7 hs]
 cases s.all plainB with
 |true=>cases decide ((s.length:Int)>=lo)<;>simp
 |false=>rfl
def SidLen(x:Src):Prop:=x.bd.length<=9223372036854775807∧x.aQ.length<=9223372036854775807∧x.av.length<=9223372036854775807∧x.bh.length<=9223372036854775807
def n5(x:Src):Bool:=nH x.bd 1 2&&(nH x.aQ 1 5&&(nH x.av 0 2&&(decide (x.av.length≠1)&&nH x.bh 3 3)))
theorem Valid_eq{x:Src}(hx:SidLen x):jP x=some (n5 x):=by
 obtain⟨h1,h2,h3,h4⟩:=hx
 unfold jP n5
 simp only [code_eq h1,code_eq h2,code_eq h3,code_eq h4,zd]
 have e:((x.av.length:Int) != 1)=decide (x.av.length≠1):=by
  by_cases h:x.av.length=1
  ·simp [h]
  ·simp [h];omega
 rw [e]
 cases nH x.bd 1 2<;>cases nH x.aQ 1 5<;>cases nH x.av 0 2<;>cases decide (x.av.length≠1)<;>simp
theorem n9{s:List UInt8}{lo:Int}{hi:Nat}(h:nH s lo hi=true):s.length<=hi:=by
 unfold nH at h
 simp only [Bool.and_eq_true,decide_eq_true_eq]at h
 omega
theorem valid_len{x:Src}(h:n5 x=true):x.bd.length<=2∧x.aQ.length<=5∧x.av.length<=2∧x.bh.length<=3:=by
 unfold n5 at h
 simp only [Bool.and_eq_true]at h
 exact⟨n9 (hi:=2) h.1,n9 (hi:=5) h.2.1,n9 (hi:=2) h.2.2.1,n9 (hi:=3) h.2.2.2.2⟩
end Sq
end Go.Dw.Ed
set_option maxRecDepth 100000
set_option maxHeartbeats 4000000
namespace Go.Dw.Ed
open Go.Dw
abbrev Src:=ac
abbrev Pick:=ae
abbrev Sid:=aw
theorem mod_ok(a b:Int)(h0:1<=b)(h1:b<=1000000000):Ok (nJ a b) (fun r=>0<=r∧r<b):=by
 unfold nJ
 have hl:a.tmod b<b:=Int.tmod_lt_of_pos _ za
 have hg: -b<a.tmod b:=by
  rcases Int.le_total 0 a with h|h
  ·have:=Int.tmod_nonneg b h;omega
  ·have e:a.tmod b= -((-a).tmod b):=by rw [Int.neg_tmod];omega
   have:=Int.tmod_lt_of_pos (-a) (show 0<b by omega)
   omega
 refine Ok.pL (fun _=>za) (fun _=>?_)
 refine Ok.bind (Ok.rem za) (fun x hx=>?_)
 subst hx
 refine Ok.pL (fun _=>?_) (fun _=>?_)
 ·rw [w64 za za]
  exact Ok.ret za
 ·exact Ok.ret za
def bU(d:Src):Prop:=0<=d.fAt∧d.fAt<=d.fL.length∧d.fL.length<=2000
theorem raw_ok(d:Src)(hd:bU d):Ok (Src_Raw d) (fun r=>bU r.2):=by
 obtain⟨h0,h1,h2⟩:=hd
 unfold Src_Raw
 refine Ok.pL (fun _=>Ok.ret ⟨h0,h1,h2⟩) (fun h=>?_)
 rw [w64 (n:=d.fAt+1) za za,w64 za za]
 refine Ok.bind (Ok.get za za) (fun x _=>?_)
 refine Ok.ret ⟨?_,?_,h2⟩<;>simp only<;>omega
theorem dh(k:Int)(d:Src)(hd:bU d)(h0:1<=k)(h1:k<=1000000000):Ok (cV k d) (fun r=>0<=r.1∧r.1<k∧bU r.2):=by
 unfold cV
 refine Ok.bind (raw_ok d hd) (fun x hx=>?_)
 refine Ok.bind (mod_ok _ _ h0 h1) (fun y hy=>?_)
 exact Ok.ret ⟨hy.1,hy.2,hx⟩
theorem dv(l:List Int)(d:Src)(hd:bU d)(h0:l≠ [])(h1:l.length<=1000000):Ok (ey l d) (fun r=>r.1∈l∧bU r.2):=by
 unfold ey
 have:=List.length_pos_iff.2 h0
 refine Ok.bind (dh _ d hd za za) (fun x hx=>?_)
 refine Ok.bind (Ok.get hx.1 hx.2.1) (fun y hy=>?_)
 exact Ok.ret ⟨hy.1,hx.2.2⟩
def stas:List (List UInt8):=[[83,49],[83,50],[83,51],[83,52],[83,53],[83,54]]
def IsSid(a:Sid):Prop:=Sq.n5 a=true
theorem stas_ok:∀x∈stas,Sq.n5 ⟨[65,66],x,[48,48],[66,72,90]⟩=true:=by decide+kernel
theorem source_ok(n:Int):Ok (gN n) IsSid:=by
 unfold gN
 refine Ok.bind (mod_ok n 6 za za) (fun x hx=>?_)
 refine Ok.bind (Ok.get hx.1 hx.2) (fun y hy=>?_)
 exact Ok.ret (stas_ok y hy.1)
theorem new_ok(l:List Int):Ok (pp l) bU:=by
 unfold pp
 refine Ok.bind (Ok.cut za (by split<;>omega) (by split<;>omega)) (fun x hx=>?_)
 subst hx
 refine Ok.ret ⟨sm,sm,?_⟩
 simp only [List.length_take,List.length_drop]
 split<;>omega
def ek(m:Int)(p:aa):Prop:=(-m<=p.fX∧p.fX<=m)∧(-m<=p.fY∧p.fY<=m)∧(-m<=p.fZ∧p.fZ<=m)
theorem lP(m:Int)(h0:0<=m)(h1:m<=1000)(d:Src)(hd:bU d):Ok (jV m d) (fun r=>ek m r.1∧bU r.2):=by
 unfold jV
 rw [w64 (n:=2*m) za za,w64 (n:=2*m+1) za za,w64 (n:=m+1) za za]
 refine Ok.bind (dh _ _ hd za za) (fun y1 g1=>?_)
 refine Ok.bind (dh _ _ g1.2.2 za za) (fun y2 g2=>?_)
 refine Ok.bind (dh _ _ g2.2.2 za za) (fun y3 g3=>?_)
 rw [w64 (n:=y1.1-m) za za,w64 (n:=y2.1-m) za za]
 exact Ok.ret ⟨⟨zc,zc,zc⟩,g3.2.2⟩
def fi(b:ah):Prop:=ek 40 b.aI∧(0<=b.aC.fX-b.aI.fX∧b.aC.fX-b.aI.fX<=4)∧(0<=b.aC.fY-b.aI.fY∧b.aC.fY-b.aI.fY<=4)∧(0<=b.aC.fZ-b.aI.fZ∧b.aC.fZ-b.aI.fZ<=4)
theorem box_ok(m side:Int)(h0:0<=m)(h1:m<=40)(h2:0<=side)(h3:side<=4)(d:Src)(hd:bU d):Ok (n8 m side d) (fun r=>fi r.1∧bU r.2):=by
 unfold n8
 rw [w64 (n:=side+1) za za]
 refine Ok.bind (lP m h0 za d hd) (fun y0 g0=>?_)
 refine Ok.bind (dh _ _ g0.2 za za) (fun y1 g1=>?_)
 refine Ok.bind (dh _ _ g1.2.2 za za) (fun y2 g2=>?_)
 refine Ok.bind (dh _ _ g2.2.2 za za) (fun y3 g3=>?_)
 obtain⟨⟨p1,p2,p3⟩, -⟩:=g0
 rw [w64 (n:=y0.1.fX+y1.1) za za,w64 (n:=y0.1.fY+y2.1) za za,w64 (n:=y0.1.fZ+y3.1) za za]
 refine Ok.ret ⟨⟨⟨zc,zc,zc⟩,zc,zc,zc⟩,g3.2.2⟩
structure TabOk(t:aH):Prop where
 step:t.bn=20∨t.bn=25∨t.bn=40∨t.bn=100
 len:1<=t.aI.length∧t.aI.length<=30
 same:t.aC.length=t.aI.length
 low:∀x∈t.aI,0<=x∧x<=3000
 high:∀x∈t.aC,0<=x∧x<=5000
theorem table_ok(d:Src)(hd:bU d):Ok (jX d) (fun r=>TabOk r.1∧bU r.2):=by
 unfold jX
 refine Ok.bind (dv _ d hd sm sm) (fun x1 h1=>?_)
 obtain⟨hst,h1⟩:=h1
 have hst:x1.1=20∨x1.1=25∨x1.1=40∨x1.1=100:=by simpa using hst
 refine Ok.bind (dh _ _ h1 za za) (fun x2 h2=>?_)
 have hq:∃q,IntKind.wrap .i64 ((400:Int).tdiv x1.1)=q∧4<=q∧q<=20:=by
  rcases hst with e|e|e|e<;>rw [e]<;>exact⟨_,rfl,by decide,by decide⟩
 have hp:∃q,IntKind.wrap .i64 (x1.1.tdiv 4)=q∧0<=q∧q<=25:=by
  rcases hst with e|e|e|e<;>rw [e]<;>exact⟨_,rfl,by decide,by decide⟩
 obtain⟨q,hq,q0,q1⟩:=hq
 obtain⟨p,hp,p0,p1⟩:=hp
 refine Ok.bind (P:=fun o=>bU ⟨o.1,o.2.1⟩∧(1<=o.2.2.1.length∧o.2.2.1.length<=30)∧o.2.2.2.length=o.2.2.1.length∧(∀x∈o.2.2.1,0<=x∧x<=3000)∧(∀x∈o.2.2.2,0<=x∧x<=5000))
  (Ok.loop (fun s => (0 ≤ s.2.2.1 ∧ s.2.2.1 ≤ 23) ∧ s.2.2.2.2.2.1.length = s.2.2.1.toNat ∧ s.2.2.2.2.2.2.length = s.2.2.1.toNat ∧ (0 ≤ s.1 ∧ s.1 ≤ 60 * s.2.2.1) ∧ (0 ≤ s.2.1 ∧ s.2.1 ≤ 100 * s.2.2.1 + 2) ∧ bU ⟨s.2.2.2.1, s.2.2.2.2.1⟩ ∧ (∀ x ∈ s.2.2.2.2.2.1, 0 ≤ x ∧ x ≤ 3000) ∧ (∀ x ∈ s.2.2.2.2.2.2, 0 ≤ x ∧ x ≤ 5000))
   (fun s=>(23-s.2.2.1).toNat) ?_ ⟨⟨sm,sm⟩,rfl,rfl,⟨sm,sm⟩,⟨zc,zc⟩,h2.2.2,sm,sm⟩) ?_
 ·rintro⟨s3,s4,s5,s6,s7,s8,s9⟩ ⟨i0,i1,i2,i3,i4,i5,i6,i7⟩
  simp only at i0 i1 i2 i3 i4 i5 i6 i7
  unfold ks
  refine Ok.bind (Ok.quo za) (fun y1 g1=>?_)
  rw [hq]at g1;subst g1
  refine Ok.bind (dh _ _ i5 za za) (fun y2 g2=>?_)
  rw [w64 (n:=y1+y2.1) za za]
  refine Ok.pL (fun hle=>?_) (fun hgt=>?_)
  ·refine Ok.bind (Ok.app (by simp only [List.length_cons,List.length_nil];omega)) (fun y3 g3=>?_)
   refine Ok.bind (Ok.app (by simp only [List.length_cons,List.length_nil];omega)) (fun y4 g4=>?_)
   refine Ok.bind (dv _ _ g2.2.2 sm sm) (fun y5 g5=>?_)
   refine Ok.bind (Ok.quo za) (fun y6 g6=>?_)
   rw [hp]at g6;subst g6
   refine Ok.bind (dv _ _ g5.2 sm sm) (fun y7 g7=>?_)
   have a1:0<=y5.1∧y5.1<=35:=by have:=g5.1;simp at this;omega
   have a2:0<=y7.1∧y7.1<=30:=by have:=g7.1;simp at this;omega
   rw [w64 (n:=y5.1+y6) za za,w64 (n:=s3+(y5.1+y6)) za za,w64 (n:=s5+1) za za,w64 (by split<;>omega) (by split<;>omega)]
   subst g3 g4
   refine Ok.nx ⟨⟨zc,zc⟩,?_,?_,⟨zc,zc⟩,⟨by simp only;split<;>omega,by simp only;split<;>omega⟩,g7.2,?_,?_⟩ zc
   ·simp only [List.length_append,List.length_cons,List.length_nil];omega
   ·simp only [List.length_append,List.length_cons,List.length_nil];omega
   ·intro x hx
    simp only [List.mem_append,List.mem_singleton]at hx
    rcases hx with hx|rfl
    ·exact i6 x hx
    ·omega
   ·intro x hx
    simp only [List.mem_append,List.mem_singleton]at hx
    rcases hx with hx|rfl
    ·exact i7 x hx
    ·omega
  ·exact Ok.st ⟨g2.2.2,⟨zc,zc⟩,zc,i6,i7⟩
 ·intro o ho
  exact Ok.ret ⟨⟨hst,ho.2.1,ho.2.2.1,ho.2.2.2.1,ho.2.2.2.2⟩,ho.1⟩
theorem association_ok{k:Int}(hk:0<=k∧k<=4)(d:Src)(hd:bU d):Ok (eP k d) (fun r=>(fi r.1.aK∧TabOk r.1.bc)∧bU r.2):=by
 unfold eP
 refine Ok.bind (box_ok 20 k za za za za d hd) (fun x1 h1=>?_)
 refine Ok.bind (table_ok _ h1.2) (fun x2 h2=>?_)
 refine Ok.bind (dv _ _ h2.2 sm sm) (fun x3 h3=>?_)
 refine Ok.bind (dv _ _ h3.2 sm sm) (fun x4 h4=>?_)
 refine Ok.bind (dv _ _ h4.2 sm sm) (fun x5 h5=>?_)
 refine Ok.bind (dv _ _ h5.2 sm sm) (fun x6 h6=>?_)
 refine Ok.bind (dh _ _ h6.2 za za) (fun x7 h7=>?_)
 exact Ok.ret ⟨⟨h1.1,h2.1⟩,h7.2.2⟩
theorem scale_ok(d:Src)(hd:bU d):Ok (lw d) (fun r=>bU r.2):=by
 unfold lw
 refine Ok.bind (table_ok _ hd) (fun x1 h1=>?_)
 refine Ok.bind (dh _ _ h1.2 za za) (fun x2 h2=>?_)
 refine Ok.bind (dh _ _ h2.2.2 za za) (fun x3 h3=>?_)
 have hl:=h1.1.len;have hs:=h1.1.same
 refine Ok.bind (P:=fun _=>True) (Ok.loop (fun s=>0<=s.1∧s.2.1.length=x1.1.aI.length∧s.2.2.length=x1.1.aI.length) (fun s=>((x1.1.aI.length:Int)-s.1).toNat) ?_ ⟨Int.le_refl _,rfl,hs⟩) (fun o _=>Ok.ret h3.2.2)
 rintro⟨s4,s5,s6⟩ ⟨i0,i1,i2⟩
 simp only at i0 i1 i2
 unfold mi
 refine Ok.pL (fun hlt=>?_) (fun _=>Ok.st trivial)
 refine Ok.bind (Ok.rz za za) (fun _ _=>?_)
 refine Ok.bind (Ok.get za za) (fun y1 g1=>?_)
 refine Ok.bind (Ok.quo za) (fun y2 g2=>?_)
 refine Ok.bind (Ok.rz za za) (fun _ _=>?_)
 refine Ok.bind (Ok.get za za) (fun y3 g3=>?_)
 refine Ok.bind (Ok.quo za) (fun y4 g4=>?_)
 refine Ok.bind (Ok.rz za za) (fun _ _=>?_)
 refine Ok.bind (Ok.set za za) (fun y5 g5=>?_)
 refine Ok.bind (Ok.rz za za) (fun _ _=>?_)
 refine Ok.bind (Ok.set za za) (fun y6 g6=>?_)
 subst g5 g6
 rw [w64 za za]
 exact Ok.nx ⟨zc,by simpa using i1,by simpa using i2⟩ zc
theorem settings_ok{k:Int}(hk:0<=k∧k<=4)(d:Src)(hd:bU d):Ok (ig k d) (fun r=>(fi r.1.ai.aK∧TabOk r.1.ai.bc)∧bU r.2):=by
 unfold ig
 refine Ok.bind (association_ok hk d hd) (fun x1 h1=>?_)
 refine Ok.bind (scale_ok _ h1.2) (fun x2 h2=>?_)
 refine Ok.bind (dv _ _ h2 sm sm) (fun x3 h3=>?_)
 exact Ok.ret ⟨h1.1,h3.2⟩
def ChanOk(c:au):Prop:=c.bL.length<=3∧∀e∈c.bL,ek 60 e.aW
def InvOk(v:ap):Prop:=v.aO.length<=6∧∀c∈v.aO,ChanOk c
theorem range_ok(a b:Int)(h0: -1000<=a)(h1:a<=1000)(h2:0<=b-a)(h3:b-a<=1000)(d:Src)(hd:bU d):Ok (lv a b d) (fun r=>(a<=r.1∧r.1<=b)∧bU r.2):=by
 unfold lv
 rw [w64 (n:=b-a) za za,w64 (n:=b-a+1) za za]
 refine Ok.bind (dh _ _ hd za za) (fun y1 g1=>?_)
 rw [w64 (n:=a+y1.1) za za]
 exact Ok.ret ⟨⟨zc,zc⟩,g1.2.2⟩
theorem point_ok(b:ah)(hb:fi b)(d:Src)(hd:bU d):Ok (my b d) (fun r=>ek 60 r.1∧bU r.2):=by
 obtain⟨⟨p1,p2,p3⟩,q1,q2,q3⟩:=hb
 unfold my
 refine Ok.bind (range_ok _ _ za za za za d hd) (fun y1 g1=>?_)
 refine Ok.bind (range_ok _ _ za za za za _ g1.2) (fun y2 g2=>?_)
 refine Ok.bind (range_ok _ _ za za za za _ g2.2) (fun y3 g3=>?_)
 exact Ok.ret ⟨⟨zc,zc,zc⟩,g3.2⟩
theorem kplace_ok(v:ap)(hv:InvOk v)(x:Sid)(t:Int):Ok (mZ v x t) (fun r=>ek 60 r.1):=by
 unfold mZ
 have h0:ek 60 ⟨0,0,0⟩:=⟨sm,sm,sm⟩
 refine Ok.bind (P:=fun o=>match o with| .inl _=>True| .inr r=>ek 60 r.1) (Ok.upto v.aO.length za (fun _=>True) trivial ?_) ?_
 ·intro i h1 h2 _
  unfold nN
  refine Ok.pL (fun hlt=>?_) (fun _=>Ok.st trivial)
  refine Ok.bind (Ok.get za za) (fun c hc=>?_)
  have hck:=hv.2 c hc.1
  have hlen:=hv.1
  refine Ok.bind (P:=fun o=>match o with| .inl y=>y=i| .inr r=>ek 60 r.1) (Ok.upto c.bL.length za (fun _=>True) trivial ?_) ?_
  ·intro j h3 h4 _
   unfold nM
   have hcl:=hck.1
   refine Ok.pL (fun hlt=>?_) (fun _=>Ok.st rfl)
   refine Ok.bind (Ok.get za za) (fun e he=>?_)
   rw [w64 (n:=j+1) za za]
   refine Ok.yJ (fun _=>?_) (fun _=>Ok.nx ⟨⟨za,za⟩,trivial⟩ za)
   refine Ok.pL (fun _=>?_) (fun _=>Ok.nx ⟨⟨za,za⟩,trivial⟩ za)
   refine Ok.pL (fun _=>?_) (fun _=>Ok.nx ⟨⟨za,za⟩,trivial⟩ za)
   exact Ok.st (hck.2 e he.1)
  ·rintro(y|r) ho
   ·simp only at ho⊢
    subst ho
    rw [w64 (n:=y+1) za za]
    exact Ok.nx ⟨⟨za,za⟩,trivial⟩ za
   ·exact Ok.st ho
 ·rintro(y|r) ho
  ·exact Ok.ret h0
  ·exact Ok.ret ho
def fQ(p:Pick):Prop:=IsSid p.aA∧0<=p.aM∧p.aM<=p.a7∧p.a7<=p.bv∧p.bv<=200000∧0<=p.a8∧p.a8<=1073741823∧ -1<=p.bp∧p.bp<=1
def PickLo(p:Pick):Prop:=fQ p∧p.bv<=40000
def PI(n:Nat)(s:Int×Int×List Int×Int×List Pick×Int×Int×Int):Prop:=
 (0<=s.2.1∧s.2.1+s.2.2.2.2.1.length<=n)∧(0<=s.1∧s.1<=2000+1000*s.2.2.2.2.1.length)∧bU ⟨s.2.2.1,s.2.2.2.1⟩∧ek 60 ⟨s.2.2.2.2.2.1,s.2.2.2.2.2.2.1,s.2.2.2.2.2.2.2⟩∧∀p∈s.2.2.2.2.1,PickLo p
theorem k34_ok{n:Nat}(hn:n<=20){Q:List Pick×List Int×Int->Prop}{s:Int×Int×List Int×Int×List Pick×Int×Int×Int}{sid:Sid}(hs:IsSid sid)(am:Int×Src)(ha:0<=am.1∧am.1<=1048576)(po:Int×Src)(hp:0<=po.1∧po.1<3)(t k:Int)(l:List Int)(at_:Int)(out:List Pick)(x y z e:Int)
  (hk:1<=k∧k+out.length<=n) (hks:k=s.2.1) (ht:0<=t∧t<=2000+1000*(out.length+1)) (hd:bU ⟨l,at_⟩) (hpos:ek 60 ⟨x,y,z⟩) (hout:∀p∈out,PickLo p) (he:0<=e∧e<=30000):
  Ok (fh sid am po t k l at_ out x y z e) (Ok.S (PI n) (fun s=>s.2.1.toNat) Q s):=by
 unfold fh
 refine Ok.bind (dh _ _ hd za za) (fun y1 g1=>?_)
 refine Ok.bind (dh _ _ g1.2.2 za za) (fun y2 g2=>?_)
 refine Ok.bind (Ok.app (by simp only [List.length_cons,List.length_nil];omega)) (fun y3 g3=>?_)
 subst g3
 rw [w64 (n:=e+y1.1) za za,w64 (n:=e+y1.1+y2.1) za za,w64 (n:=po.1-1) za za,w64 (n:=k-1) za za]
 refine Ok.nx ⟨⟨zc,by simp only [List.length_append,List.length_cons,List.length_nil];omega⟩,⟨ht.1,by simp only [List.length_append,List.length_cons,List.length_nil];omega⟩,g2.2.2,hpos,fun p hpm=>?_⟩ zc
 simp only [List.mem_append,List.mem_singleton]at hpm
 rcases hpm with hpm|rfl
 ·exact hout p hpm
 ·exact⟨⟨hs,zc,zc,zc,zc,zc,zc,zc,zc⟩,zc⟩
theorem l55_ok(pl:aa×Bool)(hpl:ek 60 pl.1)(x y z t k:Int)(out:List Pick)(hx:ek 60 ⟨x,y,z⟩):Ok (oC (mh pl x y z t k out) (0:Int)) (fun o=>o.1=t∧o.2.1=k∧(0<=o.2.2.1∧o.2.2.1<=300)∧o.2.2.2.1=out∧o.2.2.2.2.1=x∧o.2.2.2.2.2.1=y∧o.2.2.2.2.2.2=z):=by
 obtain⟨a1,a2,a3⟩:=hpl
 obtain⟨b1,b2,b3⟩:=hx
 simp only at b1 b2 b3
 have hsq:∀(u v:Int), -60<=u->u<=60-> -60<=v->v<=60->∃q,oa (IntKind.wrap .i64 (u-v))=some q∧0<=q∧q<=14400:=by
  intro u v h1 h2 h3 h4
  have h5: -120<=u-v∧u-v<=120:=by omega
  rw [w64 za za]
  have h6:0<=(u-v)*(u-v)∧(u-v)*(u-v)<=14400:=by
   constructor
   ·rcases Int.le_total 0 (u-v)with h|h
    ·exact Int.mul_nonneg h h
    ·exact Int.mul_nonneg_of_nonpos_of_nonpos h h
   ·rcases Int.le_total 0 (u-v)with h|h
    ·calc (u-v)*(u-v)<=120*120:=Int.mul_le_mul h5.2 h5.2 h za
      _=14400:=by decide
    ·have:(u-v)*(u-v)=(v-u)*(v-u):=by
      rw [<-Int.neg_mul_neg];congr 1<;>omega
     rw [this]
     calc (v-u)*(v-u)<=120*120:=Int.mul_le_mul za za za za
      _=14400:=by decide
  refine⟨_,by unfold oa;rw [w64 za za],h6.1,h6.2⟩
 obtain⟨q1,e1,l1,u1⟩:=hsq pl.1.fX x a1.1 a1.2 b1.1 b1.2
 obtain⟨q2,e2,l2,u2⟩:=hsq pl.1.fY y a2.1 a2.2 b2.1 b2.2
 obtain⟨q3,e3,l3,u3⟩:=hsq pl.1.fZ z a3.1 a3.2 b3.1 b3.2
 refine Ok.loop (fun s=>0<=s∧s<=300) (fun s=>(300-s).toNat) (fun s hs=>?_) ⟨Int.le_refl _,za⟩
 unfold mh
 rw [e1,e2,e3]
 simp only [zd]
 rw [w64 (n:=q1+q2) za za,w64 (n:=q1+q2+q3) za za]
 have hss : 0 ≤ s * s ∧ s * s ≤ 90000 := ⟨Int.mul_nonneg hs.1 hs.1, by
  calc s*s<=300*300:=Int.mul_le_mul hs.2 hs.2 hs.1 za
   _=90000:=by decide⟩
 rw [w64 (n:=s*s) za za]
 refine Ok.pL (fun hlt=>?_) (fun _=>Ok.st ⟨rfl,rfl,hs,rfl,rfl,rfl,rfl⟩)
 have h299:s<=299:=by
  rcases Int.lt_or_le 299 s with h|h
  ·exfalso
   have:s=300:=by omega
   subst this
   omega
  ·exact h
 rw [w64 (n:=s+1) za za]
 exact Ok.nx ⟨za,za⟩ za
theorem picks_lo(a:aq)(ha:fi a.ai.aK∧TabOk a.ai.bc)(v:ap)(hv:InvOk v)(n:Nat)(hn:n<=20)(d:Src)(hd:bU d):
  Ok (mw a v n d) (fun r=>(r.1.length<=n∧∀p∈r.1,PickLo p)∧bU r.2):=by
 unfold mw
 refine Ok.bind (point_ok _ ha.1 d hd) (fun x1 h1=>?_)
 refine Ok.bind (dh _ _ h1.2 za za) (fun x2 h2=>?_)
 rw [w64 (n:=(n:Int)+1) za za]
 refine Ok.bind (dh _ _ h2.2.2 za za) (fun x3 h3=>?_)
 rw [w64 (n:=1000+x2.1) za za]
 refine Ok.bind (P:=fun o=>(o.1.length<=n∧∀p∈o.1,PickLo p)∧bU ⟨o.2.1,o.2.2⟩) (Ok.loop (PI n) (fun s=>s.2.1.toNat) ?_ ⟨⟨zc,by simp only [List.length_nil];omega⟩,⟨zc,by simp only [List.length_nil];omega⟩,h3.2.2,h1.1,sm⟩) (fun o ho=>Ok.ret ⟨ho.1,ho.2⟩)
 rintro⟨s4,s5,s6,s7,s8,s9,s10,s11⟩ ⟨i0,i1,i2,i3,i4⟩
 simp only at i0 i1 i2 i3 i4
 unfold oz
 refine Ok.pL (fun hgt=>?_) (fun _=>Ok.st ⟨⟨zc,i4⟩,i2⟩)
 refine Ok.bind (dh _ _ i2 za za) (fun y1 g1=>?_)
 refine Ok.bind (source_ok _) (fun y2 g2=>?_)
 refine Ok.bind (dv _ _ g1.2.2 sm sm) (fun y3 g3=>?_)
 have hy3:0<=y3.1∧y3.1<=1048576:=by have:=g3.1;simp at this;omega
 refine Ok.bind (dh _ _ g3.2 za za) (fun y4 g4=>?_)
 refine Ok.bind (dh _ _ g4.2.2 za za) (fun y5 g5=>?_)
 refine Ok.bind (dh _ _ g5.2.2 za za) (fun y6 g6=>?_)
 rw [w64 (n:=1000+y5.1) za za]
 refine Ok.rF (fun _=>?_) (fun _=>Ok.rF (fun _=>?_) (fun _=>?_))
 ·refine Ok.bind (point_ok _ ha.1 _ g6.2.2) (fun y7 g7=>?_)
  refine Ok.bind (dh _ _ g7.2 za za) (fun y8 g8=>?_)
  rw [w64 (n:=s4+y8.1) za za]
  exact k34_ok za g2 y3 hy3 y4 ⟨g4.1,g4.2.1⟩ _ _ _ _ _ _ _ _ _ za rfl za g8.2.2 g7.1 i4 za
 ·exact k34_ok za g2 y3 hy3 y4 ⟨g4.1,g4.2.1⟩ _ _ _ _ _ _ _ _ _ za rfl za g6.2.2 i3 i4 za
 ·refine Ok.bind (kplace_ok v hv _ _) (fun y7 g7=>?_)
  refine Ok.yJ (fun _=>?_) (fun _=>?_)
  ·refine Ok.bind (l55_ok y7 g7 _ _ _ _ _ _ i3) (fun o ho=>?_)
   obtain⟨o1,o2,o3,o4,o5,o6,o7⟩:=ho
   have htab:=ha.2
   have hl:=htab.len
   have hst:=htab.step
   refine Ok.bind (Ok.quo za) (fun y8 g8=>?_)
   have hq:0<=o.2.2.1.tdiv a.ai.bc.bn∧o.2.2.1.tdiv a.ai.bc.bn<=300:=by
    refine⟨Int.tdiv_nonneg o3.1 za,?_⟩
    have:=Int.tdiv_le_self (b:=a.ai.bc.bn) o3.1
    omega
   rw [w64 za za]at g8
   subst g8
   rw [w64 (n:=(a.ai.bc.aI.length:Int)-1) za za]
   refine Ok.bind (Ok.get (by split<;>omega) (by split<;>omega)) (fun y9 g9=>?_)
   have hb:=htab.low y9 g9.1
   refine Ok.bind (dh _ _ g6.2.2 za za) (fun y10 g10=>?_)
   rw [o1,o2,o4,o5,o6,o7,w64 (n:=s4+y9) za za,w64 (n:=s4+y9+y10.1) za za]
   exact k34_ok za g2 y3 hy3 y4 ⟨g4.1,g4.2.1⟩ _ _ _ _ _ _ _ _ _ za rfl za g10.2.2 i3 i4 za
  ·exact k34_ok za g2 y3 hy3 y4 ⟨g4.1,g4.2.1⟩ _ _ _ _ _ _ _ _ _ za rfl za g6.2.2 i3 i4 za
theorem picks_ok(a:aq)(ha:fi a.ai.aK∧TabOk a.ai.bc)(v:ap)(hv:InvOk v)(n:Nat)(hn:n<=20)(d:Src)(hd:bU d):
  Ok (mw a v n d) (fun r=>(r.1.length<=n∧∀p∈r.1,fQ p)∧bU r.2):=(picks_lo a ha v hv n hn d hd).mono fun _ h=>⟨⟨h.1.1,fun p hp=>(h.1.2 p hp).1⟩,h.2⟩
end Go.Dw.Ed
set_option maxRecDepth 100000
set_option maxHeartbeats 4000000
namespace Go.Dw.Ed
open Go.Dw
theorem eH{α:Type}{l m:List α}{b:Nat}(h:(l.length+m.length)*b<=140737488355328):qq l m b=some (l++m):=by
 unfold qq
 rw [if_pos h]
namespace Sd
abbrev Src:=aw
theorem eq_src(a b:Src):((a.bd==b.bd)&&((a.aQ==b.aQ)&&((a.av==b.av)&&((a.bh==b.bh)&&true))))=decide (a=b):=by
 obtain⟨n,t,l,c⟩:=a
 obtain⟨n',t',l',c'⟩:=b
 simp only [aw.mk.injEq]
 by_cases e1:n=n'<;>by_cases e2:t=t'<;>by_cases e3:l=l'<;>by_cases e4:c=c'<;>simp [e1,e2,e3,e4]
theorem cmp_str(a b:List UInt8):cz a b=some (uI a b):=by
 unfold cz fx
 simp only [beq_self_eq_true,Bool.not_true,zd,Bool.false_eq_true,if_false]
 unfold uI
 cases h:Op.bytesLess a b with
 |true=>simp
 |false=>by_cases e:a=b<;>simp [e]
theorem pw{l:List Int}{i j:Nat}(hj:j=i+1)(hi:i<l.length)(hl:l.length<1000)(h0:l[i]=0):dH l i=some (.next (j:Int)):=by
 subst hj
 unfold dH
 rw [if_pos so,pN rfl hi]
 simp only [zd,h0,w64 (n:=(i:Int)+1) za za]
 rfl
theorem px{l:List Int}{i:Nat}(hi:i<l.length)(h0:l[i]≠0):dH l i=some (.stop (.inr l[i])):=by
 unfold dH
 rw [if_pos so,pN rfl hi]
 simp only [zd]
 rw [if_pos (by simpa using h0)]
theorem or_end{l:List Int}{n:Nat}(hn:n=l.length):dH l n=some (.stop (.inl ())):=by
 subst hn
 unfold dH
 rw [if_neg sm]
theorem or4(a b c d:Int):cA [a,b,c,d]=some (if a≠0 then a else if b≠0 then b else if c≠0 then c else d):=by
 show((oC (dH [a,b,c,d]) ((0:Nat):Int)).bind _)=_
 by_cases ha:a=0
 ·rw [pZ (pw (i:=0) (j:=1) rfl sm sm (by simpa using ha)),if_neg (by simpa using ha)]
  by_cases hb:b=0
  ·rw [pZ (pw (i:=1) (j:=2) rfl sm sm (by simpa using hb)),if_neg (by simpa using hb)]
   by_cases hc:c=0
   ·rw [pZ (pw (i:=2) (j:=3) rfl sm sm (by simpa using hc)),if_neg (by simpa using hc)]
    by_cases hd:d=0
    ·rw [pZ (pw (i:=3) (j:=4) rfl sm sm (by simpa using hd)),pK (or_end (n:=4) rfl)]
     rw [hd];rfl
    ·rw [pK (px (i:=3) sm (by simpa using hd))];rfl
   ·rw [pK (px (i:=2) sm (by simpa using hc)),if_pos hc];rfl
  ·rw [pK (px (i:=1) sm (by simpa using hb)),if_pos hb];rfl
 ·rw [pK (px (i:=0) sm (by simpa using ha)),if_pos (by simpa using ha)];rfl
def mU(a b:Src):Int:=if uI a.bd b.bd≠0 then uI a.bd b.bd else if uI a.aQ b.aQ≠0 then uI a.aQ b.aQ else if uI a.av b.av≠0 then uI a.av b.av else uI a.bh b.bh
theorem jU(a b:Src):fN a b=some (mU a b):=by
 unfold fN
 simp only [cmp_str,zd,or4]
 rfl
theorem jz:Tot mU:=(wR.map fun x:Src=>x.bd).or ((wR.map fun x:Src=>x.aQ).or ((wR.map fun x:Src=>x.av).or (wR.map fun x:Src=>x.bh)))
theorem il{a b:Src}(h:mU a b=0):a=b:=by
 unfold mU at h
 obtain⟨n,t,l,c⟩:=a
 obtain⟨n',t',l',c'⟩:=b
 simp only at h
 by_cases h1:uI n n'=0
 ·rw [if_neg (by simpa using h1)]at h
  by_cases h2:uI t t'=0
  ·rw [if_neg (by simpa using h2)]at h
   by_cases h3:uI l l'=0
   ·rw [if_neg (by simpa using h3)]at h
    rw [xj]at h h1 h2 h3
    subst h h1 h2 h3;rfl
   ·rw [if_pos h3]at h;exact(h3 h).elim
  ·rw [if_pos h2]at h;exact(h2 h).elim
 ·rw [if_pos h1]at h;exact(h1 h).elim
instance : DecidableEq Src := fun a b => decidable_of_iff (a.bd = b.bd ∧ a.aQ = b.aQ ∧ a.av = b.av ∧ a.bh = b.bh) (by
 obtain⟨n,t,l,c⟩:=a
 obtain⟨n',t',l',c'⟩:=b
 simp)
theorem eqs(a b:Src):((a.bd==b.bd)&&((a.aQ==b.aQ)&&((a.av==b.av)&&((a.bh==b.bh)&&true))))=decide (a=b):=by
 rw [eq_src]
 exact decide_eq_decide.2 Iff.rfl
theorem iS(a b:Int):bA a b=some (qU a b):=by
 unfold bA iI qU
 simp only [bne_self_eq_false,zd,Bool.false_eq_true,if_false]
 by_cases h1:a<b
 ·rw [if_pos (decide_eq_true h1),if_pos h1]
 ·rw [if_neg (by simpa using h1),if_neg h1]
  by_cases h2:a>b
  ·rw [if_pos (decide_eq_true h2),if_pos h2]
  ·rw [if_neg (by simpa using h2),if_neg h2]
theorem or_go{l:List Int}{n:Nat}{r:List Int}(hl:l.length<1000)(hn:n<=l.length)(hr:l.drop n=r):oC (dH l) (n:Int)=some (match r.find? (fun x=>decide (x≠0))with|some x=>.inr x|none=>.inl ()):=by
 induction r generalizing n with
 |nil=>
  have:n=l.length:=by
   have:=congrArg List.length hr
   simp at this;omega
  rw [pK (or_end this)];rfl
 |cons a r ih=>
  have hlt:n<l.length:=by
   have:=congrArg List.length hr
   simp at this;omega
  have ha:l[n]=a:=by
   rw [List.drop_eq_getElem_cons hlt]at hr
   exact(List.cons.inj hr).1
  have hr':l.drop (n+1)=r:=by
   rw [List.drop_eq_getElem_cons hlt]at hr
   exact(List.cons.inj hr).2
  by_cases h0:a=0
  ·rw [pZ (pw (i:=n) (j:=n+1) rfl hlt hl (by rw [ha,h0])),ih za hr']
   simp [List.find?,h0]
  ·rw [pK (px hlt (by rw [ha];exact h0)),ha]
   simp [List.find?,h0]
theorem or6(a b c d e f:Int):cA [a,b,c,d,e,f]=some (if a≠0 then a else if b≠0 then b else if c≠0 then c else if d≠0 then d else if e≠0 then e else f):=by
 unfold cA
 have:=or_go (l:=[a,b,c,d,e,f]) (n:=0) (r:=[a,b,c,d,e,f]) sm sm rfl
 rw [show((0:Int))=((0:Nat):Int)from rfl,this]
 by_cases ha:a=0<;>by_cases hb:b=0<;>by_cases hc:c=0<;>by_cases hd:d=0<;>by_cases he:e=0<;>by_cases hf:f=0<;>simp [List.find?,ha,hb,hc,hd,he,hf]
end Sd
open Sd (mU jz il)
def fj(a b:Pick):Int:=if mU a.aA b.aA≠0 then mU a.aA b.aA else if qU a.a7 b.a7≠0 then qU a.a7 b.a7 else if qU a.aM b.aM≠0 then qU a.aM b.aM else if qU a.bv b.bv≠0 then qU a.bv b.bv else if qU a.a8 b.a8≠0 then qU a.a8 b.a8 else qU a.bp b.bp
theorem jU(a b:Pick):b9 a b=some (fj a b):=by
 unfold b9
 simp only [Sd.jU,Sd.iS,zd,Sd.or6]
 rfl
theorem cr:Tot fj:=(jz.map fun x:Pick=>x.aA).or ((re.map fun x:Pick=>x.a7).or ((re.map fun x:Pick=>x.aM).or ((re.map fun x:Pick=>x.bv).or ((re.map fun x:Pick=>x.a8).or (re.map fun x:Pick=>x.bp)))))
theorem lH{a b:Int}(h:(if a≠0 then a else b)=0):a=0∧b=0:=by
 by_cases h1:a=0
 ·rw [if_neg (by simpa using h1)]at h;exact⟨h1,h⟩
 ·rw [if_pos h1]at h;exact(h1 h).elim
theorem jk{a b:Pick}(h:fj a b=0):a=b:=by
 unfold fj at h
 obtain⟨h1,h⟩:=lH h
 obtain⟨h2,h⟩:=lH h
 obtain⟨h3,h⟩:=lH h
 obtain⟨h4,h⟩:=lH h
 obtain⟨h5,h6⟩:=lH h
 rw [vT]at h2 h3 h4 h5 h6
 have:=il h1
 obtain⟨a1,a2,a3,a4,a5,a6⟩:=a
 obtain⟨b1,b2,b3,b4,b5,b6⟩:=b
 simp only at*
 subst this h2 h3 h4 h5 h6
 rfl
theorem lt3_eq:lt3 b9=fun x y=>decide (fj x y<0):=by
 funext x y
 unfold lt3
 rw [jU];rfl
theorem Compare_ok:CmpOk b9:=⟨fun x y=>⟨_,jU x y⟩,by rw [lt3_eq];exact cr.swo⟩
instance : DecidableEq Pick := fun a b => decidable_of_iff (a.aA = b.aA ∧ a.a7 = b.a7 ∧ a.aM = b.aM ∧ a.bv = b.bv ∧ a.a8 = b.a8 ∧ a.bp = b.bp) (by
 obtain⟨a1,a2,a3,a4,a5,a6⟩:=a
 obtain⟨b1,b2,b3,b4,b5,b6⟩:=b
 simp)
def eqF(a b:Pick):Bool:=((a.aA.bd==b.aA.bd)&&((a.aA.aQ==b.aA.aQ)&&((a.aA.av==b.aA.av)&&((a.aA.bh==b.aA.bh)&&true))))&&((a.a7==b.a7)&&((a.aM==b.aM)&&((a.bv==b.bv)&&((a.a8==b.a8)&&((a.bp==b.bp)&&true)))))
theorem eqs(a b:Pick):eqF a b=decide (a=b):=by
 obtain⟨a1,a2,a3,a4,a5,a6⟩:=a
 obtain⟨b1,b2,b3,b4,b5,b6⟩:=b
 unfold eqF
 simp only [Sd.eqs,ae.mk.injEq]
 by_cases e1:a1=b1<;>by_cases e2:a2=b2<;>by_cases e3:a3=b3<;>by_cases e4:a4=b4<;>by_cases e5:a5=b5<;>by_cases e6:a6=b6<;>simp [e1,e2,e3,e4,e5,e6]
theorem sub_part{α β:Type}(l:List α)(o:Int)(f:List α->β):((vq l.length (0:Int) o).bind fun _=>(AN l (0+(0:Int).toNat) (0+o.toNat)).bind fun x=>some (f x))=(vq l.length (0:Int) o).bind fun _=>some (f (l.take o.toNat)):=by
 unfold vq
 split
 ·rename_i h
  simp only [zd]
  rw [yR za za,zd]
  simp
 ·rfl
theorem Compact_eq(l:List Pick):d6 l=wS eqF ⟨⟨[],[],[],[]⟩,0,0,0,0,0⟩ l:=by
 have h1:fI=tD eqF:=by funext s d ⟨a,b,c⟩;rfl
 have h2:fJ=sx eqF ⟨⟨[],[],[],[]⟩,0,0,0,0,0⟩:=by
  funext d s
  unfold fJ sx
  rw [h1]
  simp only [sub_part]
  rfl
 unfold d6 wS
 rw [h2]
 refine ite_congr rfl (fun _=>rfl) fun _=>?_
 refine congrArg _ (funext fun o=>?_)
 rcases o with _|_<;>rfl
theorem sort_at{l:List Pick}(hl:l.length<=1000):∃m,vN b9 l=some m∧m.Perm l∧m.Pairwise (fun x y=>fj x y<=0):=by
 have h2 := yc Compare_ok (fun x y h h' => by
  rw [lt3_eq]at h h'
  simp only [decide_eq_false_iff_not]at h h'
  have:=cr.tM x y
  exact jk za) l za
 generalize hm:(l.mergeSort fun x y=> !lt3 b9 y x)=m at h2
 refine⟨m,h2,Bv h2,?_⟩
 rw [<-hm]
 refine(List.pairwise_mergeSort ?_ ?_ l).imp ?_
 ·intro a b c h h'
  rw [lt3_eq]at*
  simp only [Bool.not_eq_true',decide_eq_false_iff_not]at*
  have:=cr.tr a b c (by have:=cr.tM a b;omega) (by have:=cr.tM b c;omega)
  have:=cr.tM a c;omega
 ·intro a b
  rw [lt3_eq]
  have:=cr.tM a b
  by_cases h:fj b a<0
  ·have:¬fj a b<0:=by omega
   simp [this]
  ·simp [h]
 ·intro a b h
  rw [lt3_eq]at h
  simp only [Bool.not_eq_true',decide_eq_false_iff_not]at h
  have:=cr.tM a b;omega
theorem pa{l:List Pick}(hl:l.length<=1000):
  ∃r,cQ l=some r∧r.Pairwise (fun x y=>fj x y<0)∧(∀x,x∈r↔x∈l)∧r.length<=l.length:=by
 have h1:ry 104 l=some l:=by
  unfold ry
  rw [if_pos za]
 obtain⟨m,h2,hp,hs⟩:=sort_at hl
 have hml:m.length=l.length:=hp.length_eq
 have h3:d6 m=some (cpt m):=by
  rw [Compact_eq]
  exact A8 (fun x y=>eqs x y) za
 refine⟨cpt m,?_,uJ cr (fun x y=>jk) hs,fun x=>yf.trans hp.mem_iff,by have:=yA m;omega⟩
 unfold cQ
 rw [h1,zd,h2,zd,h3];rfl
theorem mr:∀{r s:List Pick},r.Pairwise (fun x y=>fj x y<0)->s.Pairwise (fun x y=>fj x y<0)->(∀x,x∈r↔x∈s)->r=s
 | [],[],_,_,_=>rfl
 | [],b::s,_,_,h=>by have:=(h b).2 sm;cases this
 |a::r,[],_,_,h=>by have:=(h a).1 sm;cases this
 |a::r,b::s,h1,h2,h=>by
  obtain⟨ha,hr⟩:=List.pairwise_cons.1 h1
  obtain⟨hb,hs⟩:=List.pairwise_cons.1 h2
  have hab:a=b:=by
   rcases List.mem_cons.1 ((h a).1 sm)with e|hm
   ·exact e
   ·rcases List.mem_cons.1 ((h b).2 sm)with e|hm'
    ·exact e.symm
    ·have h3:=hb a hm
     have h4:=ha b hm'
     have:=cr.tM a b
     omega
  subst hab
  have hn:∀{t:List Pick},(∀y∈t,fj a y<0)->a∉t:=fun h ht=>by have:=h a ht;have:=cr.refl a;omega
  have:r=s:=mr hr hs fun x=>by
   have:=h x
   simp only [List.mem_cons]at this
   constructor
   ·intro hx
    rcases this.1 (.inr hx)with e|h5
    ·subst e;exact(hn ha hx).elim
    ·exact h5
   ·intro hx
    rcases this.2 (.inr hx)with e|h5
    ·subst e;exact(hn hb hx).elim
    ·exact h5
  rw [this]
end Go.Dw.Ed
set_option maxRecDepth 100000
set_option maxHeartbeats 4000000
namespace Go.Dw.Ed
open Go.Dw Go.Proofs
open Sd (mU jz il)
theorem sid_len{x:Sid}(h:Sq.n5 x=true):Sq.SidLen x:=by
 obtain⟨h1,h2,h3,h4⟩:=Sq.valid_len h
 exact⟨za,za,za,za⟩
theorem nk{p:Pick}(h:fQ p):fG p=some true:=by
 obtain⟨h0,h1,h2,h3,h4,h5,h6,h7,h8⟩:=h
 unfold fG
 rw [Sq.Valid_eq (sid_len h0),h0,zd,if_pos rfl,if_pos (by simpa using h1),if_pos (by simpa using h2),if_pos (by simpa using h3),if_pos so]
 have e1:kj p.a8 0 1073741823=some true:=by unfold kj;rw [if_pos (by simpa using h5)];simpa using h6
 have e2:kj p.bp (-1) 1=some true:=by unfold kj;rw [if_pos (by simpa using h7)];simpa using h8
 rw [e1,zd,if_pos rfl,e2];rfl
theorem same_refl{l:List Pick}(hl:l.length<=1000):eS l l=some true:=by
 unfold eS
 rw [if_neg sm]
 have:Ok (oC (jg l l) (0:Int)) (fun o=>o= .inl ()):=by
  refine Ok.upto l.length za (fun _=>True) trivial (fun i h0 h1 _=>?_)
  unfold jg
  refine Ok.pL (fun hlt=>?_) (fun _=>Ok.st rfl)
  obtain⟨p,hp, -⟩:=Ok.get (l:=l) h0 za
  rw [hp,zd,zd,if_neg sm,w64 za za]
  exact Ok.nx ⟨⟨za,za⟩,trivial⟩ za
 rw [this.eq];rfl
def P(t:Int):Pick:=⟨⟨[65,66],[83,49],[48,48],[66,72,90]⟩,t,t,t,0,0⟩
def S1:Sid:=⟨[65,66],[83,49],[48,48],[66,72,90]⟩
theorem loop_first{α ω:Type}{body:Int->Option (py Int (Unit⊕ω))}(l:List α){p:α->Bool}{f:Nat->α->ω}
  (h1:∀(i:Nat)(hi:i<l.length),body i=if p l[i]=true then some (.stop (.inr (f i l[i])))else some (.next ((i+1:Nat):Int)))
  (h2:body (l.length:Nat)=some (.stop (.inl ()))):
  (oC body (0:Int)=some (.inl ())∧∀x∈l,p x=false)∨
  ∃(i:Nat)(hi:i<l.length),oC body (0:Int)=some (.inr (f i l[i]))∧p l[i]=true∧∀x∈l.take i,p x=false:=by
 have:∀k i,i+k=l.length->(∀x∈l.take i,p x=false)->(oC body (i:Int)=some (.inl ())∧∀x∈l,p x=false)∨
   ∃(j:Nat)(hj:j<l.length),oC body (i:Int)=some (.inr (f j l[j]))∧p l[j]=true∧∀x∈l.take j,p x=false:=by
  intro k
  induction k with
  |zero=>
   intro i hi ha
   obtain rfl:i=l.length:=by omega
   exact .inl ⟨pK h2,by simpa using ha⟩
  |succ k ih=>
   intro i hi ha
   have hlt:i<l.length:=by omega
   cases hp:p l[i]with
   |true=>exact .inr ⟨i,hlt,pK (by rw [h1 i hlt,if_pos hp]),hp,ha⟩
   |false=>
    have e:=pZ (ω:=Unit⊕ω) (body:=body) (s:=(i:Int)) (s':=((i+1:Nat):Int)) (by rw [h1 i hlt,if_neg (by simp [hp])])
    rw [e]
    refine ih (i+1) za fun x hx=>?_
    rw [qu hlt]at hx
    rcases List.mem_append.1 hx with hx|hx
    ·exact ha x hx
    ·rw [List.mem_singleton]at hx;rw [hx];exact hp
 have:=this l.length 0 za sm
 simpa using this
theorem loop_find{α ω:Type}{body:Int->Option (py Int (Unit⊕ω))}(l:List α){p:α->Bool}{f:α->ω}
  (h1:∀(i:Nat)(hi:i<l.length),body i=if p l[i]=true then some (.stop (.inr (f l[i])))else some (.next ((i+1:Nat):Int)))
  (h2:body (l.length:Nat)=some (.stop (.inl ()))):oC body (0:Int)=some (match l.find? p with|none=>.inl ()|some x=>.inr (f x)):=by
 rcases loop_first l (f:=fun _ x=>f x) h1 h2 with⟨e,h⟩|⟨i,hi,e,hp,h⟩
 ·rw [e,List.find?_eq_none.2 fun x hx=>by simp [h x hx]]
 ·rw [e]
  have:l.find? p=some l[i]:=by
   refine List.find?_eq_some_iff_append.2 ⟨hp,l.take i,l.drop (i+1),?_,fun x hx=>by simp [h x hx]⟩
   rw [<-List.drop_eq_getElem_cons hi,List.take_append_drop]
  rw [this]
theorem jm{ω:Type}{body:Int->Option (py Int (Unit⊕ω))}(n:Nat)(h1:∀i:Nat,i<n->body i=some (.next ((i+1:Nat):Int)))(h2:body (n:Nat)=some (.stop (.inl ()))):oC body (0:Int)=some (.inl ()):=by
 have:∀k i:Nat,i+k=n->oC body (i:Int)=some (.inl ()):=by
  intro k
  induction k with
  |zero=>
   intro i hi
   obtain rfl:i=n:=by omega
   exact pK h2
  |succ k ih=>intro i hi;rw [pZ (h1 i za)];exact ih (i+1) za
 simpa using this n 0 za
theorem terms_ok{l:List Int}(hl:l.length<=1000)(h:∀x∈l, -1048576<=x∧x<=1048576):cG l=some true:=by
 unfold cG dZ eO
 rw [jm l.length (fun i hi=>?_) ?_]
 ·rfl
 ·unfold d4
  rw [if_neg sm]
 ·unfold d4
  have hx:=h l[i] (List.getElem_mem hi)
  rw [if_pos so,pN rfl hi,zd]
  unfold iE bZ
  rw [if_pos (by simpa using hx.1),zd,zd,if_neg (by simpa using hx.2),w64 za za]
  simp
def lg(x:aB):Prop:=dt x=some true∧(x.iL=2->x.dl=1)∧x.eC.length<=3∧0<=x.dm∧(-1048576<=x.bK.a0∧x.bK.a0<=1048576)∧(-1048576<=x.bC.a0∧x.bC.a0<=1048576)
theorem gain_ok{a b:Int}(ha:1<=a∧a<=1048576)(hb:1<=b∧b<=1048576):lg ⟨0,⟨a,0,0⟩,⟨b,0,0⟩,[],0,0⟩:=by
 refine⟨?_,sm,sm,sm,zc,zc⟩
 unfold dt bZ
 simp [ha.1,ha.2,hb.1,hb.2]
theorem section_ok{a b c d e f:Int}(ha: -10<=a∧a<=10)(hb: -10<=b∧b<=10)(hc: -10<=c∧c<=10)(hd:1<=d∧d<=10)(he: -10<=e∧e<=10)(hf: -10<=f∧f<=10):lg ⟨1,⟨a,b,c⟩,⟨d,e,f⟩,[],0,0⟩:=by
 refine⟨?_,sm,sm,sm,zc,zc⟩
 have h1:cG [a,b,c]=some true:=terms_ok sm so
 have h2:cG [d,e,f]=some true:=terms_ok sm so
 have h3:d≠0:=by omega
 unfold dt
 simp [h1,h2,h3]
theorem filter_ok{a s:Int}(ha:1<=a∧a<=3)(hs:0<=s∧s<=3):lg ⟨2,⟨0,0,0⟩,⟨0,0,0⟩,[a,2,1],1,s⟩:=by
 have h1:a=1∨a=2∨a=3:=by omega
 have h2:s=0∨s=1∨s=2∨s=3:=by omega
 refine⟨?_,sm,sm,hs.1,sm,sm⟩
 have ht:cG [a,2,1]=some true:=terms_ok sm so
 have hsum:ef [a,2,1]=some (a+3):=by
  unfold ef
  rcases h1 with rfl|rfl|rfl
  ·rw [rZ (n:=4) (o:=4) (by kernel_rfl)];rfl
  ·rw [rZ (n:=4) (o:=5) (by kernel_rfl)];rfl
  ·rw [rZ (n:=4) (o:=6) (by kernel_rfl)];rfl
 have h3:a+3≠0:=by omega
 have h4:0<=s∧s<=3:=by omega
 unfold dt bZ
 rw [ht,hsum]
 simp [h3,h4.1]
 omega
def mQ(r:aP):Prop:=r.bw.length<=3∧∀x∈r.bw,lg x
theorem responseV(d:Src)(hd:bU d):Ok (eT d) (fun r=>mQ r.1∧bU r.2):=by
 unfold eT
 refine Ok.bind (dh _ _ hd za za) (fun x1 h1=>?_)
 refine Ok.bind (P:=fun o:List Int×Int×List aB=>bU ⟨o.1,o.2.1⟩∧(o.2.2.length<=3∧∀x∈o.2.2,lg x)) (Ok.loop (fun s=>0<=s.1∧s.1+s.2.2.2.length<=3∧(∀x∈s.2.2.2,lg x)∧bU ⟨s.2.1,s.2.2.1⟩) (fun s=>s.1.toNat) ?_ ⟨zc,by simp only [List.length_nil];omega,sm,h1.2.2⟩) (fun o ho=>Ok.ret (Q:=fun r:aP×Src=>mQ r.1∧bU r.2) ⟨ho.2,ho.1⟩)
 rintro⟨s2,s3,s4,s5⟩ ⟨i0,i1,i2,i3⟩
 simp only at i0 i1 i2 i3
 unfold jW
 have happ:∀(x:aB),Ok (qq s5 [x] 96) (fun r=>r=s5++[x]):=fun x=>Ok.app (by simp only [List.length_cons,List.length_nil];omega)
 have hnext:∀{x:aB},lg x->∀c∈s5++[x],lg c:=fun hx c hc=>by
  simp only [List.mem_append,List.mem_singleton]at hc
  rcases hc with hc|rfl
  ·exact i2 c hc
  ·exact hx
 refine Ok.pL (fun hgt=>?_) (fun _=>Ok.st ⟨i3,zc,i2⟩)
 refine Ok.bind (dh _ _ i3 za za) (fun y1 g1=>?_)
 refine Ok.rF (fun hk=>?_) (fun _=>Ok.rF (fun hk=>?_) (fun _=>?_))
 ·refine Ok.bind (dv _ _ g1.2.2 sm sm) (fun y2 g2=>?_)
  refine Ok.bind (dv _ _ g2.2 sm sm) (fun y3 g3=>?_)
  refine Ok.bind (happ _) (fun y4 g4=>?_)
  subst g4
  have b1:0<=y2.1∧y2.1<=1048575:=by have:=g2.1;simp at this;omega
  have b2:0<=y3.1∧y3.1<=999:=by have:=g3.1;simp at this;omega
  rw [w64 (n:=s2-1) za za,w64 (n:=1+y2.1) za za,w64 (n:=1+y3.1) za za,hk]
  exact Ok.nx ⟨zc,by simp only [List.length_append,List.length_cons,List.length_nil];omega,hnext (gain_ok za za),g3.2⟩ zc
 ·refine Ok.bind (dh _ _ g1.2.2 za za) (fun y2 g2=>?_)
  refine Ok.bind (dh _ _ g2.2.2 za za) (fun y3 g3=>?_)
  refine Ok.bind (dh _ _ g3.2.2 za za) (fun y4 g4=>?_)
  refine Ok.bind (dh _ _ g4.2.2 za za) (fun y5 g5=>?_)
  refine Ok.bind (dh _ _ g5.2.2 za za) (fun y6 g6=>?_)
  refine Ok.bind (dh _ _ g6.2.2 za za) (fun y7 g7=>?_)
  refine Ok.bind (happ _) (fun y8 g8=>?_)
  subst g8
  rw [w64 (n:=s2-1) za za,w64 (n:=y3.1-3) za za,w64 (n:=y4.1-1) za za,w64 (n:=1+y5.1) za za,hk]
  exact Ok.nx ⟨zc,by simp only [List.length_append,List.length_cons,List.length_nil];omega,hnext (section_ok za za za za za za),g7.2.2⟩ zc
 ·refine Ok.bind (dh _ _ g1.2.2 za za) (fun y2 g2=>?_)
  refine Ok.bind (dh _ _ g2.2.2 za za) (fun y3 g3=>?_)
  refine Ok.bind (happ _) (fun y8 g8=>?_)
  subst g8
  rw [w64 (n:=s2-1) za za,w64 (n:=1+y2.1) za za,show y1.1=2 by omega]
  exact Ok.nx ⟨zc,by simp only [List.length_append,List.length_cons,List.length_nil];omega,hnext (filter_ok za za),g3.2.2⟩ zc
theorem resp_valid{r:aP}(h:mQ r):hJ r=some true:=by
 obtain⟨hl,hs⟩:=h
 unfold hJ
 rw [if_neg so]
 have e1:cL r.bw=some false:=by
  unfold cL ei
  rw [jm r.bw.length (fun i hi=>?_) ?_]
  ·rfl
  ·unfold dC
   rw [if_neg sm]
  ·unfold dC iD
   rw [if_pos so,pN rfl hi,zd,(hs _ (List.getElem_mem hi)).1,zd,zd,if_neg sm,w64 za za]
   simp
 have e2:iW r.bw=some 1:=by
  unfold iW
  have:Ok (oC (jh r.bw) ((1:Int),(0:Int))) (fun o=>o= .inl 1):=by
   refine Ok.loop (fun s=>s.1=1∧0<=s.2∧s.2<=r.bw.length) (fun s=>((r.bw.length:Int)-s.2).toNat) ?_ ⟨rfl,Int.le_refl _,sm⟩
   rintro⟨s1,s2⟩ ⟨i0,i1,i2⟩
   simp only at i0 i1 i2
   subst i0
   unfold jh
   dsimp only
   refine Ok.pL (fun hlt=>?_) (fun _=>Ok.st rfl)
   refine Ok.bind (Ok.get za za) (fun x hx=>?_)
   rw [w64 (n:=s2+1) za za]
   refine Ok.qP (fun _=>Ok.nx ⟨rfl,zc,zc⟩ zc) (fun hk=>?_)
   rw [(hs x hx.1).2.1 hk]
   refine Ok.pL (fun hc=>absurd hc (by decide)) (fun _=>?_)
   rw [w64 (n:=1*1) za za]
   exact Ok.nx ⟨rfl,zc,zc⟩ zc
  rw [this.eq];rfl
 rw [e1,zd,if_neg sm,e2];rfl
def RateOk(r:bJ):Prop:=r.bC=1∧(r.bK=100∨r.bK=50∨r.bK=51)
theorem rate_valid{r:bJ}(h:RateOk r):m9 r=some true:=by
 obtain⟨n,d⟩:=r
 obtain⟨h1,h2⟩:=h
 simp only at h1 h2
 subst h1
 unfold m9 rate_gcd rate_in
 rcases h2 with rfl|rfl|rfl
 ·rw [rZ (n:=4) (o:=(1:Int)) (by kernel_rfl)];rfl
 ·rw [rZ (n:=4) (o:=(1:Int)) (by kernel_rfl)];rfl
 ·rw [rZ (n:=4) (o:=(1:Int)) (by kernel_rfl)];rfl
structure EpOk(e:ar):Prop where
 lo:0<=e.bj
 lt:e.bj<e.fTo
 hi:e.fTo<=10000000
 from_:e.bj<=2000
 rate:RateOk e.fy
 resp:mQ e.bg
 pos:ek 60 e.aW
theorem ep_valid{e:ar}(h:EpOk e):eX e=some true:=by
 obtain⟨h1,h2,h3, -,h4,h5,⟨p1,p2⟩,⟨p3,p4⟩,p5,p6⟩:=h
 have hin:∀{x a b:Int},a<=x->x<=b->eY x a b=some true:=fun h h'=>by
  unfold eY;rw [if_pos (by simpa using h)];simpa using h'
 unfold eX
 rw [if_pos (by simpa using h1), if_pos (by simpa using h2), if_pos so, rate_valid h4, zd, if_pos rfl, resp_valid h5, zd, if_pos rfl,
  hin za za,zd,if_pos rfl,hin za za,zd,if_pos rfl,hin za za]
 rfl
structure lV(l:List ar):Prop where
 ne:l≠ []
 len:l.length<=2
 all:∀e∈l,EpOk e
 ord:(l.map fun e=>(e.bj,e.fTo)).Pairwise (fun a b=>a.2<=b.1)
theorem epochs_valid{l:List ar}(h:lV l):ir l=some true:=by
 have hlen:=h.len
 have hne:=List.length_pos_iff.2 h.ne
 unfold ir
 rw [jm l.length (fun i hi=>?_) ?_,zd]
 ·dsimp only
  unfold eY
  rw [if_pos so,zd]
  simp;omega
 ·unfold gM
  rw [if_neg sm]
 ·unfold gM
  rw [if_pos so,pN rfl hi,zd,ep_valid (h.all _ (List.getElem_mem hi)),zd,if_neg sm,w64 (n:=(i:Int)+1) za za]
  by_cases h0:i=0
  ·subst h0;rfl
  ·rw [if_pos so,w64 za za,pN (i:=i-1) za za,zd]
   have:=List.pairwise_iff_getElem.1 h.ord (i-1) i so (by simpa using hi) za
   simp only [List.getElem_map]at this
   rw [if_neg (by simpa using this)]
   simp
def ChOk(c:au):Prop:=IsSid c.aA∧lV c.bL
structure iH(v:ap):Prop where
 len:v.aO.length<=6
 all:∀c∈v.aO,ChOk c
 ord:(v.aO.map (·.aA)).Pairwise (fun a b=>mU a b<0)
theorem iH.inv{v:ap}(h:iH v):InvOk v:=⟨h.len,fun c hc=>⟨by have:=(h.all c hc).2.len;omega,fun e he=>((h.all c hc).2.all e he).pos⟩⟩
theorem jl{v:ap}(h:iH v):cJ v=some true:=by
 have hlen:=h.len
 unfold cJ
 rw [jm v.aO.length (fun i hi=>?_) ?_,zd]
 ·simp;omega
 ·unfold iC
  rw [if_neg sm]
 ·unfold iC
  obtain⟨c1,c2⟩:=h.all _ (List.getElem_mem hi)
  rw [if_pos so,pN rfl hi,zd,Sq.Valid_eq (sid_len c1),c1,zd,if_neg sm,epochs_valid c2,zd,if_neg sm,w64 (n:=(i:Int)+1) za za]
  by_cases h0:i=0
  ·subst h0;rfl
  ·rw [if_pos so,w64 za za,pN (i:=i-1) za za,zd,Sd.jU,zd]
   have:=List.pairwise_iff_getElem.1 h.ord (i-1) i so (by simpa using hi) za
   simp only [List.getElem_map]at this
   rw [if_neg (by simpa using this)]
   simp
def sid(i:Nat):Sid:=⟨[65,66],stas.getD i [],[48,48],[66,72,90]⟩
theorem source_at{n:Int}{i:Nat}(hn:n=i)(hi:i<6):gN n=some (sid i):=by
 subst hn
 have:i=0∨i=1∨i=2∨i=3∨i=4∨i=5:=by omega
 rcases this with rfl|rfl|rfl|rfl|rfl|rfl<;>(show gN _=some _;kernel_rfl)
theorem sid_ok{i:Nat}(hi:i<6):IsSid (sid i):=by
 have:i=0∨i=1∨i=2∨i=3∨i=4∨i=5:=by omega
 rcases this with rfl|rfl|rfl|rfl|rfl|rfl<;>(show Sq.n5 _=true;decide+kernel)
theorem sid_lt{i j:Nat}(h:i<j)(hj:j<6):mU (sid i) (sid j)<0:=by
 have h1:i=0∨i=1∨i=2∨i=3∨i=4:=by omega
 have h2:j=1∨j=2∨j=3∨j=4∨j=5:=by omega
 rcases h1 with rfl|rfl|rfl|rfl|rfl<;>rcases h2 with rfl|rfl|rfl|rfl|rfl<;>first|omega|decide+kernel
theorem eps1{e:ar}(h:EpOk e):lV [e]:=⟨sm,sm,by simpa using h,sm⟩
theorem eps2{e f:ar}(h:EpOk e)(h':EpOk f)(ho:e.fTo<=f.bj):lV [e,f]:=⟨sm,sm,by simp;exact⟨h,h'⟩,by simpa using ho⟩
def SitesI(s:Int×List Int×Int×List au):Prop:=∃i:Nat,s.1=i∧i<=6∧s.2.2.2.map (·.aA)=(List.range i).map sid∧(∀c∈s.2.2.2,lV c.bL)∧bU ⟨s.2.1,s.2.2.1⟩
theorem sitesV(d:Src)(hd:bU d):Ok (ly 6 d) (fun r=>iH r.1∧bU r.2):=by
 unfold ly
 refine Ok.bind (P:=fun o=>bU ⟨o.1,o.2.1⟩∧iH ⟨o.2.2⟩) (Ok.loop SitesI (fun s=>(6-s.1).toNat) ?_ ⟨0,rfl,za,rfl,sm,hd⟩) (fun o ho=>Ok.ret ⟨ho.2,ho.1⟩)
 rintro⟨s1,s2,s3,s4⟩ ⟨i,i0,i1,i2,i3,i4⟩
 simp only at i0 i1 i2 i3 i4
 subst i0
 have hlen:s4.length=i:=by have:=congrArg List.length i2;simpa using this
 unfold mj
 have happ:∀(x:au),Ok (qq s4 [x] 88) (fun r=>r=s4++[x]):=fun x=>Ok.app (by simp only [List.length_cons,List.length_nil];omega)
 have hend:iH ⟨s4⟩:=by
  refine⟨zc,fun c hc=>⟨?_,i3 c hc⟩,?_⟩
  ·have:c.aA∈s4.map (·.aA):=List.mem_map.2 ⟨c,hc,rfl⟩
   rw [i2]at this
   obtain⟨j,hj,e⟩:=List.mem_map.1 this
   rw [<-e]
   exact sid_ok (by have:=List.mem_range.1 hj;omega)
  ·simp only
   rw [i2,List.pairwise_map]
   exact List.pairwise_lt_range.imp_of_mem fun ha hb hab=>sid_lt hab (by have:=List.mem_range.1 hb;omega)
 have hnext:∀{l:List ar}{t:Src},i<6->lV l->bU t->Ok (some (.next ((i:Int)+1,t.fL,t.fAt,s4++[⟨sid i,l⟩]))) (Ok.S SitesI (fun s=>(6-s.1).toNat) (fun o:List Int×Int×List au=>bU ⟨o.1,o.2.1⟩∧iH ⟨o.2.2⟩) ((i:Int),s2,s3,s4)):=fun{l t}hi hl ht=>by
  refine Ok.nx ⟨i+1,sm,za,?_,fun c hc=>?_,ht⟩ zc
  ·simp [List.range_succ,i2]
  ·simp only [List.mem_append,List.mem_singleton]at hc
   rcases hc with hc|rfl
   ·exact i3 c hc
   ·exact hl
 refine Ok.pL (fun hlt=>?_) (fun _=>Ok.st ⟨i4,hend⟩)
 refine Ok.pL (fun _=>?_) (fun _=>Ok.st ⟨i4,hend⟩)
 have hi:i<6:=by omega
 refine Ok.bind (lP 60 za za _ i4) (fun y1 g1=>?_)
 refine Ok.bind (responseV _ g1.2) (fun y2 g2=>?_)
 rw [source_at rfl hi,zd]
 refine Ok.bind (dh _ _ g2.2 za za) (fun y4 g4=>?_)
 rw [w64 (n:=(i:Int)+1) za za]
 have hr:RateOk ⟨100,1⟩:=⟨rfl,.inl rfl⟩
 refine Ok.rF (fun _=>?_) (fun _=>Ok.rF (fun _=>?_) (fun _=>?_))
 ·refine Ok.bind (dh _ _ g4.2.2 za za) (fun y5 g5=>?_)
  refine Ok.bind (lP 60 za za _ g5.2.2) (fun y6 g6=>?_)
  refine Ok.bind (responseV _ g6.2) (fun y7 g7=>?_)
  refine Ok.bind (Ok.rz za sm) (fun _ _=>?_)
  refine Ok.bind (Ok.mod za sm) (fun y8 g8=>?_)
  obtain⟨x,hx,rfl⟩:=g8
  simp at hx
  subst hx
  refine Ok.bind (Ok.app sm) (fun y9 g9=>?_)
  subst g9
  refine Ok.bind (happ _) (fun y10 g10=>?_)
  subst g10
  rw [w64 (n:=1500+y5.1) za za]
  exact hnext hi (eps2 ⟨sm,zc,zc,sm,hr,g2.1,g1.1⟩ ⟨zc,zc,sm,zc,hr,g7.1,g6.1⟩ sm) g7.2
 ·refine Ok.bind (dh _ _ g4.2.2 za za) (fun y5 g5=>?_)
  refine Ok.bind (Ok.rz za sm) (fun _ _=>?_)
  refine Ok.bind (Ok.mod za sm) (fun y8 g8=>?_)
  obtain⟨x,hx,rfl⟩:=g8
  simp at hx
  subst hx
  refine Ok.bind (happ _) (fun y10 g10=>?_)
  subst g10
  exact hnext hi (eps1 ⟨g5.1,zc,sm,zc,hr,g2.1,g1.1⟩) g5.2.2
 ·refine Ok.bind (happ _) (fun y10 g10=>?_)
  subst g10
  exact hnext hi (eps1 ⟨sm,sm,sm,sm,hr,g2.1,g1.1⟩) g4.2.2
theorem lV.set{l:List ar}(h:lV l){k:Nat}{x y:ar}(hx:l[k]? =some x)(h1:y.bj=x.bj)(h2:y.fTo=x.fTo)(hy:EpOk y):lV (l.set k y):=by
 obtain⟨hk,hxe⟩:=List.getElem?_eq_some_iff.1 hx
 refine⟨fun e=>h.ne (by simpa using e),by simpa using h.len,fun e he=>?_,?_⟩
 ·rcases List.mem_or_eq_of_mem_set he with h3|rfl
  ·exact h.all e h3
  ·exact hy
 ·have:(l.set k y).map (fun e=>(e.bj,e.fTo))=l.map (fun e=>(e.bj,e.fTo)):=by
   apply List.ext_getElem?
   intro j
   simp only [List.getElem?_map,List.getElem?_set]
   by_cases e:k=j
   ·subst e
    rw [if_pos rfl,if_pos hk,hx];simp [h1,h2]
   ·rw [if_neg e]
  rw [this];exact h.ord
theorem lV.last{l:List ar}(h:lV l){x y:ar}(hx:l[l.length-1]? =some x)(h1:y.bj=x.bj)(hy:EpOk y):lV (l.set (l.length-1) y):=by
 obtain⟨a1,a2,a3,a4⟩:=h
 rcases l with _|⟨a,_|⟨b,_|⟨c,l⟩⟩⟩
 ·exact(a1 rfl).elim
 ·exact eps1 hy
 ·simp at hx
  subst hx
  exact eps2 (a3 a sm) hy (by rw [h1];simpa using a4)
 ·simp at a2
def CorrI(v:ap)(s:Int×List Int×Int×List au):Prop:=∃i:Nat,s.1=i∧i<=v.aO.length∧(s.2.2.2.map (·.aA)).Sublist ((v.aO.take i).map (·.aA))∧(∀c∈s.2.2.2,lV c.bL)∧bU ⟨s.2.1,s.2.2.1⟩
theorem correctedV(v:ap)(hv:iH v)(d:Src)(hd:bU d):Ok (kr v d) (fun r=>iH r.1∧bU r.2):=by
 have hvl:=hv.len
 unfold kr
 refine Ok.bind (P:=fun o=>bU ⟨o.1,o.2.1⟩∧iH ⟨o.2.2⟩) (Ok.loop (CorrI v) (fun s=>((v.aO.length:Int)-s.1).toNat) ?_ ⟨0,rfl,za,sm,sm,hd⟩) (fun o ho=>Ok.ret ⟨ho.2,ho.1⟩)
 rintro⟨s1,s2,s3,s4⟩ ⟨i,i0,i1,i2,i3,i4⟩
 simp only at i0 i1 i2 i3 i4
 subst i0
 have hlen:s4.length<=i:=by have:=i2.length_le;simp at this;omega
 unfold lW
 have happ:∀(x:au),Ok (qq s4 [x] 88) (fun r=>r=s4++[x]):=fun x=>Ok.app (by simp only [List.length_cons,List.length_nil];omega)
 have hend:iH ⟨s4⟩:=by
  refine⟨zc,fun c hc=>⟨?_,i3 c hc⟩,?_⟩
  ·have:c.aA∈s4.map (·.aA):=List.mem_map.2 ⟨c,hc,rfl⟩
   obtain⟨c',hc',e⟩:=List.mem_map.1 (i2.subset this)
   rw [<-e]
   exact(hv.all c' (List.mem_of_mem_take hc')).1
  ·exact((hv.ord.sublist (List.Sublist.map _ (List.take_sublist i _)))).sublist i2
 refine Ok.pL (fun hlt=>?_) (fun _=>Ok.st ⟨i4,hend⟩)
 have hi:i<v.aO.length:=by omega
 have htk:(v.aO.take (i+1)).map (·.aA)=(v.aO.take i).map (·.aA)++[v.aO[i].aA]:=by
  rw [qu hi,List.map_append];rfl
 have hnext:∀{l:List ar}{t:Src},lV l->bU t->Ok (some (.next ((i:Int)+1,t.fL,t.fAt,s4++[⟨v.aO[i].aA,l⟩]))) (Ok.S (CorrI v) (fun s=>((v.aO.length:Int)-s.1).toNat) (fun o:List Int×Int×List au=>bU ⟨o.1,o.2.1⟩∧iH ⟨o.2.2⟩) ((i:Int),s2,s3,s4)):=fun{l t}hl ht=>by
  refine Ok.nx ⟨i+1,sm,za,?_,fun c hc=>?_,ht⟩ zc
  ·rw [htk,List.map_append]
   exact List.Sublist.append i2 (List.Sublist.refl _)
  ·simp only [List.mem_append,List.mem_singleton]at hc
   rcases hc with hc|rfl
   ·exact i3 c hc
   ·exact hl
 rw [pN rfl hi,zd]
 have hE:=(hv.all _ (List.getElem_mem hi)).2
 generalize v.aO[i]=c at*
 have hEl:=hE.len
 have hEn:=List.length_pos_iff.2 hE.ne
 refine Ok.bind (Ok.app (by simp only [List.length_nil];omega)) (fun y1 g1=>?_)
 rw [List.nil_append]at g1
 subst g1
 refine Ok.bind (dh _ _ i4 za za) (fun y2 g2=>?_)
 refine Ok.bind (dh _ _ g2.2.2 za za) (fun y3 g3=>?_)
 rw [w64 (n:=(i:Int)+1) za za]
 have hget:∀{k:Int}{x:ar},c.bL[k.toNat]? =some x->EpOk x:=fun h=>hE.all _ (List.mem_of_getElem? h)
 refine Ok.rF (fun _=>?_) (fun _=>Ok.rF (fun _=>?_) (fun _=>Ok.rF (fun _=>?_) (fun _=>Ok.rF (fun _=>?_) (fun _=>Ok.rF (fun _=>?_) (fun _=>?_)))))
 ·refine Ok.bind (lP 60 za za _ g3.2.2) (fun y4 g4=>?_)
  refine Ok.bind (Ok.rz za za) (fun _ _=>?_)
  refine Ok.bind (Ok.mod za za) (fun y5 g5=>?_)
  obtain⟨x,hx,rfl⟩:=g5
  have hx':=hget hx
  refine Ok.bind (happ _) (fun y6 g6=>?_)
  subst g6
  exact hnext (hE.set hx rfl rfl ⟨hx'.lo,hx'.lt,hx'.hi,hx'.from_,hx'.rate,hx'.resp,g4.1⟩) g4.2
 ·refine Ok.bind (responseV _ g3.2.2) (fun y4 g4=>?_)
  refine Ok.bind (Ok.rz za za) (fun _ _=>?_)
  refine Ok.bind (Ok.mod za za) (fun y5 g5=>?_)
  obtain⟨x,hx,rfl⟩:=g5
  have hx':=hget hx
  refine Ok.bind (happ _) (fun y6 g6=>?_)
  subst g6
  exact hnext (hE.set hx rfl rfl ⟨hx'.lo,hx'.lt,hx'.hi,hx'.from_,hx'.rate,g4.1,hx'.pos⟩) g4.2
 ·rw [w64 (n:=(c.bL.length:Int)-1) za za]
  refine Ok.bind (Ok.rz za za) (fun _ _=>?_)
  refine Ok.bind (Ok.get za za) (fun x hx=>?_)
  refine Ok.bind (dh _ _ g3.2.2 za za) (fun y4 g4=>?_)
  refine Ok.bind (dv _ _ g4.2.2 sm sm) (fun y5 g5=>?_)
  refine Ok.bind (Ok.rz za za) (fun _ _=>?_)
  refine Ok.bind (Ok.mod za za) (fun y6 g6=>?_)
  obtain⟨x',hx',rfl⟩:=g6
  obtain rfl:x'=x:=by rw [hx.2]at hx';exact(Option.some.inj hx').symm
  have hb:∃q,y4.1*y5.1=q∧0<=q∧q<=3999000:=by
   have:=g5.1
   simp at this
   rcases this with e|e<;>rw [e]<;>exact⟨_,rfl,za,za⟩
  obtain⟨q,hq,q0,q1⟩:=hb
  have hxo:=hget hx.2
  have hxlt:=hxo.lt
  have hxlo:=hxo.lo
  have hxhi:=hxo.hi
  rw [hq,w64 (n:=q) za za,w64 (n:=x'.bj+1) za za,w64 (n:=x'.bj+1+q) za za]
  refine Ok.bind (happ _) (fun y7 g7=>?_)
  subst g7
  have hxf:=hxo.from_
  have hk:((c.bL.length:Int)-1).toNat=c.bL.length-1:=by omega
  rw [hk]at hx'⊢
  exact hnext (hE.last hx' rfl ⟨hxlo,zc,zc,hxf,hxo.rate,hxo.resp,hxo.pos⟩) g5.2
 ·exact Ok.nx ⟨i+1,sm,za,i2.trans (by rw [htk];exact List.sublist_append_left _ _),i3,g3.2.2⟩ zc
 ·refine Ok.bind (dh _ _ g3.2.2 za za) (fun y4 g4=>?_)
  refine Ok.bind (Ok.rz za za) (fun _ _=>?_)
  refine Ok.bind (Ok.mod za za) (fun y5 g5=>?_)
  obtain⟨x,hx,rfl⟩:=g5
  have hx':=hget hx
  refine Ok.bind (Ok.rz za so) (fun _ _=>?_)
  refine Ok.bind (Ok.mod za so) (fun y6 g6=>?_)
  obtain⟨z,hz,rfl⟩:=g6
  have hk:y2.1.toNat<c.bL.length:=by omega
  rw [List.getElem?_set_self hk]at hz
  cases hz
  rw [List.set_set]
  refine Ok.bind (happ _) (fun y7 g7=>?_)
  subst g7
  rw [w64 (n:=50+y4.1) za za]
  exact hnext (hE.set hx rfl rfl ⟨hx'.lo,hx'.lt,hx'.hi,hx'.from_,⟨rfl,zc⟩,hx'.resp,hx'.pos⟩) g4.2.2
 ·refine Ok.bind (happ _) (fun y6 g6=>?_)
  subst g6
  exact hnext hE g3.2.2
end Go.Dw.Ed
set_option maxRecDepth 100000
set_option maxHeartbeats 4000000
namespace Go.Dw.Ed
open Go.Dw Go.Proofs
open Sd (mU jz il)
theorem clone_at{α:Type}{n:Nat}{l:List α}(h:l.length*n<=140737488355328):ry n l=some l:=by
 unfold ry;rw [if_pos h]
def RespLen(r:aP):Prop:=r.bw.length<=1000∧∀x∈r.bw,x.eC.length<=1000
theorem copyEpoch_at{e:ar}(h:RespLen e.bg):fq e=some e:=by
 obtain⟨h1,h2⟩:=h
 unfold fq
 rw [clone_at za,zd]
 have:Ok (oC (fB e.bg.bw) ((0:Int),e.bg.bw)) (fun o=>o=e.bg.bw):=by
  refine Ok.loop (fun s=>0<=s.1∧s.1<=e.bg.bw.length∧s.2=e.bg.bw) (fun s=>((e.bg.bw.length:Int)-s.1).toNat) ?_ ⟨Int.le_refl _,sm,rfl⟩
  rintro⟨s2,s3⟩ ⟨i0,i1,i2⟩
  simp only at i0 i1 i2
  subst i2
  unfold fB
  dsimp only
  refine Ok.pL (fun hlt=>?_) (fun _=>Ok.st rfl)
  refine Ok.bind (Ok.rz za za) (fun _ _=>?_)
  refine Ok.bind (Ok.get za za) (fun x hx=>?_)
  have:=h2 x hx.1
  rw [clone_at za,zd]
  refine Ok.bind (Ok.rz za za) (fun _ _=>?_)
  refine Ok.bind (Ok.mod za za) (fun y hy=>?_)
  obtain⟨z,hz,rfl⟩:=hy
  obtain rfl:x=z:=by rw [hx.2]at hz;exact Option.some.inj hz
  rw [w64 za za]
  refine Ok.nx ⟨zc,zc,?_⟩ zc
  obtain⟨hk,e⟩:=List.getElem?_eq_some_iff.1 hx.2
  simp only
  conv=>lhs;rw [<-e]
  exact List.set_getElem_self hk
 rw [this.eq];rfl
def ChLen(c:au):Prop:=c.bL.length<=1000∧∀e∈c.bL,RespLen e.bg
theorem copied_at{c:au}(h:ChLen c):iq c=some c:=by
 obtain⟨h1,h2⟩:=h
 unfold iq
 rw [clone_at za,zd]
 have:Ok (oC (gL c.bL) ((0:Int),c.bL)) (fun o=>o=c.bL):=by
  refine Ok.loop (fun s=>0<=s.1∧s.1<=c.bL.length∧s.2=c.bL) (fun s=>((c.bL.length:Int)-s.1).toNat) ?_ ⟨Int.le_refl _,sm,rfl⟩
  rintro⟨s2,s3⟩ ⟨i0,i1,i2⟩
  simp only at i0 i1 i2
  subst i2
  unfold gL
  dsimp only
  refine Ok.pL (fun hlt=>?_) (fun _=>Ok.st rfl)
  refine Ok.bind (Ok.rz za za) (fun _ _=>?_)
  refine Ok.bind (Ok.get za za) (fun x hx=>?_)
  rw [copyEpoch_at (h2 x hx.1),zd]
  refine Ok.bind (Ok.rz za za) (fun _ _=>?_)
  refine Ok.bind (Ok.set za za) (fun y hy=>?_)
  subst hy
  rw [w64 za za]
  refine Ok.nx ⟨zc,zc,?_⟩ zc
  obtain⟨hk,e⟩:=List.getElem?_eq_some_iff.1 hx.2
  simp only
  conv=>lhs;rw [<-e]
  exact List.set_getElem_self hk
 rw [this.eq];rfl
structure InvLen(v:ap):Prop where
 len:v.aO.length<=1000
 all:∀c∈v.aO,ChLen c
theorem iH.lens{v:ap}(h:iH v):InvLen v:=by
 refine⟨by have:=h.len;omega,fun c hc=>?_⟩
 have hE:=(h.all c hc).2
 refine⟨by have:=hE.len;omega,fun e he=>?_⟩
 have hR:=(hE.all e he).resp
 exact⟨by have:=hR.1;omega,fun x hx=>by have:=(hR.2 x hx).2.2.1;omega⟩
def zCh:au:=⟨⟨[],[],[],[]⟩,[]⟩
def zEp:ar:=⟨0,0,⟨0,0⟩,⟨0,0,0⟩,⟨[]⟩⟩
def chan(v:ap)(s:Sid):Option au:=v.aO.find? fun c=>decide (c.aA=s)
def epIn(l:List ar)(t:Int):Option ar:=l.find? fun e=>decide (e.bj<=t∧t<e.fTo)
def lR(v:ap)(s:Sid)(t:Int):Option ar:=(chan v s).bind fun c=>epIn c.bL t
theorem Find_eq{v:ap}(hv:InvLen v)(s:Sid):jE v s=some (match chan v s with|none=>(zCh,false)|some c=>(c,true)):=by
 have hl:=hv.len
 unfold jE
 rw [loop_find v.aO (p:=fun c=>decide (c.aA=s)) (f:=fun c=>(c,true)) (fun i hi=>?_) ?_,zd]
 ·unfold chan
  cases v.aO.find? fun c=>decide (c.aA=s)<;>rfl
 ·unfold jF
  rw [if_neg sm]
 ·unfold jF
  rw [if_pos so,pN rfl hi,zd,Sd.eqs,copied_at (hv.all _ (List.getElem_mem hi)),zd,w64 za za]
  simp
theorem at_eq{c:au}(hc:c.bL.length<=1000)(t:Int):lp c t=some (match epIn c.bL t with|none=>(zEp,false)|some e=>(e,true)):=by
 unfold lp
 rw [loop_find c.bL (p:=fun e=>decide (e.bj<=t∧t<e.fTo)) (f:=fun e=>(e,true)) (fun i hi=>?_) ?_,zd]
 ·unfold epIn
  cases c.bL.find? fun e=>decide (e.bj<=t∧t<e.fTo)<;>rfl
 ·unfold kO
  rw [if_neg sm]
 ·unfold kO
  rw [if_pos so,pN rfl hi,zd,w64 za za]
  by_cases h1:c.bL[i].bj<=t<;>by_cases h2:t<c.bL[i].fTo<;>simp [h1,h2]
theorem chan_mem{v:ap}{s:Sid}{c:au}(h:chan v s=some c):c∈v.aO∧c.aA=s:=by
 unfold chan at h
 exact⟨List.mem_of_find?_eq_some h,by simpa using List.find?_some h⟩
theorem epIn_mem{l:List ar}{t:Int}{e:ar}(h:epIn l t=some e):e∈l∧e.bj<=t∧t<e.fTo:=by
 unfold epIn at h
 have:=List.find?_some h
 simp only [decide_eq_true_eq]at this
 exact⟨List.mem_of_find?_eq_some h,this⟩
theorem At_eq{v:ap}(hv:InvLen v)(hV:cJ v=some true)(s:Sid)(t:Int):ip v s t=some (match lR v s t with|none=>(zEp,6)|some e=>(e,0)):=by
 unfold ip
 rw [hV,zd,if_neg sm,Find_eq hv,zd]
 unfold lR
 cases hc:chan v s with
 |none=>
  dsimp only
  rw [at_eq (by simp [zCh])]
  rfl
 |some c=>
  dsimp only
  rw [at_eq (hv.all c (chan_mem hc).1).1,zd,zd]
  cases epIn c.bL t<;>rfl
theorem loop_eq{α:Type}{body:Int->Option (py Int (Unit⊕Bool))}(a b:List α)(hl:a.length=b.length)
  (h1:∀(i:Nat)(hi:i<a.length)(hi':i<b.length),(a[i]=b[i]∧body i=some (.next ((i+1:Nat):Int)))∨(a[i]≠b[i]∧body i=some (.stop (.inr false))))
  (h2:body (a.length:Nat)=some (.stop (.inl ()))):(oC body (0:Int)=some (.inl ())∧a=b)∨(oC body (0:Int)=some (.inr false)∧a≠b):=by
 have:∀k i,i+k=a.length->a.take i=b.take i->(oC body (i:Int)=some (.inl ())∧a=b)∨(oC body (i:Int)=some (.inr false)∧a≠b):=by
  intro k
  induction k with
  |zero=>
   intro i hi ht
   obtain rfl:i=a.length:=by omega
   refine .inl ⟨pK h2,?_⟩
   rw [List.take_length,hl,List.take_length]at ht
   exact ht
  |succ k ih=>
   intro i hi ht
   have hlt:i<a.length:=by omega
   rcases h1 i hlt za with⟨e,hn⟩|⟨e,hn⟩
   ·rw [pZ hn]
    exact ih (i+1) za (by rw [qu hlt,qu za,ht,e])
   ·exact .inr ⟨pK hn,fun hab=>e (by subst hab;rfl)⟩
 have:=this a.length 0 za sm
 simpa using this
theorem Equal_eq{a b:List Int}(h:a.length<=1000):iz a b=some (decide (a=b)):=by
 unfold iz
 by_cases hl:a.length=b.length
 ·rw [if_neg (by simp [hl])]
  have key:(oC (d8 a b) (0:Int)=some (.inl ())∧a=b)∨(oC (d8 a b) (0:Int)=some (.inr false)∧a≠b):=by
   refine loop_eq a b hl (fun i hi hi'=>?_) ?_
   ·unfold d8
    rw [if_pos so,pN rfl hi,pN rfl hi',zd,zd,w64 za za]
    by_cases e:a[i]=b[i]<;>simp [e]
   ·unfold d8
    rw [if_neg sm]
  rcases key with⟨e,hab⟩|⟨e,hab⟩
  ·rw [e];simp [hab]
  ·rw [e];simp [hab]
 ·rw [if_pos (by simpa using fun e:(a.length:Int)=b.length=>hl za)]
  simp [show a≠b from fun e=>hl (by rw [e])]
theorem arr_eq(a b:aT):((a.a0==b.a0)&&((a.a1==b.a1)&&((a.a2==b.a2)&&true)))=decide (a=b):=by
 obtain⟨x,y,z⟩:=a
 obtain⟨x',y',z'⟩:=b
 simp only [aT.mk.injEq]
 by_cases e1:x=x'<;>by_cases e2:y=y'<;>by_cases e3:z=z'<;>simp [e1,e2,e3]
theorem pos_eq(a b:aa):((a.fX==b.fX)&&((a.fY==b.fY)&&((a.fZ==b.fZ)&&true)))=decide (a=b):=by
 obtain⟨x,y,z⟩:=a
 obtain⟨x',y',z'⟩:=b
 simp only [aa.mk.injEq]
 by_cases e1:x=x'<;>by_cases e2:y=y'<;>by_cases e3:z=z'<;>simp [e1,e2,e3]
theorem Stage_eq{a b:aB}(h:a.eC.length<=1000):gi a b=some (decide (a=b)):=by
 unfold gi
 rw [arr_eq,arr_eq,Equal_eq h]
 obtain⟨k,n,d,t,f,s⟩:=a
 obtain⟨k',n',d',t',f',s'⟩:=b
 simp only [aB.mk.injEq]
 by_cases e1:k=k'
 rotate_left
 ·simp [e1]
 by_cases e2:n=n'
 rotate_left
 ·simp [e1,e2]
 by_cases e3:d=d'
 rotate_left
 ·simp [e1,e2,e3]
 by_cases e4:t=t'
 rotate_left
 ·simp [e1,e2,e3,e4]
 by_cases e5:f=f'<;>by_cases e6:s=s'<;>simp [e1,e2,e3,e4,e5,e6]
theorem Same_eq{a b:aP}(h:RespLen a):kB a b=some (decide (a=b)):=by
 obtain⟨h1,h2⟩:=h
 obtain⟨a⟩:=a
 obtain⟨b⟩:=b
 simp only at h1 h2
 unfold kB eh
 simp only [aP.mk.injEq]
 by_cases hl:a.length=b.length
 ·rw [if_neg (by simp [hl])]
  have key:(oC (cm a b) (0:Int)=some (.inl ())∧a=b)∨(oC (cm a b) (0:Int)=some (.inr false)∧a≠b):=by
   refine loop_eq a b hl (fun i hi hi'=>?_) ?_
   ·unfold cm
    rw [if_pos so,pN rfl hi,pN rfl hi',zd,zd,Stage_eq (h2 _ (List.getElem_mem hi)),zd,w64 za za]
    by_cases e:a[i]=b[i]<;>simp [e]
   ·unfold cm
    rw [if_neg sm]
  rcases key with⟨e,hab⟩|⟨e,hab⟩
  ·rw [e];simp [hab]
  ·rw [e];simp [hab]
 ·rw [if_pos (by simpa using fun e:(a.length:Int)=b.length=>hl za)]
  simp [show a≠b from fun e=>hl (by rw [e])]
def epPR(e:ar):aa×aP:=(e.aW,e.bg)
def Chg(a b:ap)(p:Pick):Prop:=(lR a p.aA p.a7).map epPR≠(lR b p.aA p.a7).map epPR
instance (a b:ap) (p:Pick):Decidable (Chg a b p):=inferInstanceAs (Decidable (_≠_))
theorem epAt_len{v:ap}(hv:InvLen v){s:Sid}{t:Int}{e:ar}(h:lR v s t=some e):RespLen e.bg:=by
 unfold lR at h
 cases hc:chan v s with
 |none=>rw [hc]at h;cases h
 |some c=>
  rw [hc]at h
  exact(hv.all c (chan_mem hc).1).2 e (epIn_mem h).1
theorem Changed_eq{a b:ap}(ha:InvLen a)(hb:InvLen b)(hA:cJ a=some true)(hB:cJ b=some true)(p:Pick):fU a b p=some (decide (Chg a b p)):=by
 unfold fU
 rw [At_eq ha hA,At_eq hb hB,zd,zd]
 show _=some (decide ((lR a p.aA p.a7).map epPR≠(lR b p.aA p.a7).map epPR))
 generalize hx:lR a p.aA p.a7=ox
 generalize lR b p.aA p.a7=oy
 cases ox with
 |none=>cases oy<;>simp
 |some x=>
  cases oy with
  |none=>simp
  |some y=>
   dsimp only
   rw [if_neg sm,if_neg sm,pos_eq,Same_eq (epAt_len ha hx),zd]
   simp only [Option.map_some,ne_eq,Option.some.injEq,epPR,Prod.mk.injEq]
   by_cases e1:x.aW=y.aW<;>by_cases e2:x.bg=y.bg<;>simp [e1,e2]
end Go.Dw.Ed
set_option maxRecDepth 100000
set_option maxHeartbeats 4000000
namespace Go.Dw.Ed
open Go.Dw Go.Proofs
def bitsL:List Int:=[1,2,4,8,16,32,64,128]
theorem or_at:∀b∈bitsL,∀m:Nat,m<128->2*b*m+2*b<=256->orI .i64 (2*b*m) b=2*b*m+b:=by decide+kernel
theorem half_bit:∀b∈bitsL,(b=1∧p9 .i64 b 1=0)∨(p9 .i64 b 1∈bitsL∧2*p9 .i64 b 1=b):=by decide+kernel
theorem bit_pos:∀b∈bitsL,1<=b∧b<=128:=by decide
theorem sq_lt{x n:Int}(hx:0<x)(hn:0<=n):x<=n.tdiv x↔x*x<=n:=by
 rw [Int.tdiv_eq_ediv_of_nonneg hn,Int.le_ediv_iff_mul_le hx]
def FI(n:Int)(s:Int×Int):Prop:=
 (s.2=0∧(0<=s.1∧s.1<=255)∧s.1*s.1<=n∧n<(s.1+1)*(s.1+1))∨
 (s.2∈bitsL∧∃m:Nat,s.1=2*s.2*m∧m<128∧s.1+2*s.2<=256∧s.1*s.1<=n∧n<(s.1+2*s.2)*(s.1+2*s.2))
theorem floor_loop(n:Int)(h0:0<n)(h1:n<=65535)(s:Int×Int)(hs:FI n s):Ok (oC (je n) s) (fun r=>(0<=r∧r<=255)∧r*r<=n∧n<(r+1)*(r+1)):=by
 refine Ok.loop (FI n) (fun s=>s.2.toNat) ?_ hs
 rintro⟨r,b⟩ h
 unfold je
 dsimp only
 rcases h with⟨e,h2,h3,h4⟩|⟨hb,m,hr,hm,h2,h3,h4⟩
 ·simp only at e h2 h3 h4
  subst e
  rw [if_neg sm]
  exact Ok.st ⟨h2,h3,h4⟩
 ·simp only at hb hr h2 h3 h4
  have hbp:=bit_pos b hb
  have hbm:0<=2*b*m:=Int.mul_nonneg za za
  have hor:orI .i64 r b=r+b:=by rw [hr];exact or_at b hb m hm za
  have hm2:2*b*m<=256-2*b:=by omega
  have hmb:b*m<=127:=by
   rw [Int.mul_assoc]at hm2;omega
  rw [if_pos so,hor]
  refine Ok.bind (Ok.quo za) (fun q hq=>?_)
  have hq0:0<=n.tdiv (r+b):=Int.tdiv_nonneg za za
  have hq1:n.tdiv (r+b)<=n:=Int.tdiv_le_self _ za
  rw [w64 za za]at hq
  subst hq
  have hfin:∀(x:Int)(k:Nat),(x=2*b*m∧k=2*m)∨(x=2*b*m+b∧k=2*m+1)->x*x<=n->n<(x+b)*(x+b)->Ok (some (py.next (x,p9 .i64 b 1))) (Ok.S (FI n) (fun s=>s.2.toNat) (fun r:Int=>(0<=r∧r<=255)∧r*r<=n∧n<(r+1)*(r+1)) (r,b)):=fun x k hx g1 g2=>by
   rcases half_bit b hb with⟨e1,e2⟩|⟨e1,e2⟩
   ·rw [e2]
    subst e1
    refine Ok.nx (.inl ⟨rfl,⟨zc,zc⟩,g1,g2⟩) zc
   ·have hbp':=bit_pos _ e1
    generalize p9 .i64 b 1=b' at*
    subst e2
    refine Ok.nx (.inr ⟨e1,k,?_,?_,zc,g1,g2⟩) zc
    ·simp only
     rcases hx with⟨rfl,rfl⟩|⟨rfl,rfl⟩
     ·rw [Int.natCast_mul]
      simp only [Int.mul_assoc,Int.mul_left_comm]
      rfl
     ·rw [Int.natCast_add,Int.natCast_mul,Int.mul_add]
      have:2*b'*((2:Nat)*(m:Int))=2*(2*b')*m:=by
       simp only [Int.mul_assoc,Int.mul_left_comm];rfl
      rw [this];simp
    ·have:2*b'*m<=127:=hmb
     have h5:(m:Int)<=b'*m:=by
      have:=Int.mul_le_mul_of_nonneg_right (show(1:Int)<=b' by omega) (show(0:Int)<=(m:Int)by omega)
      omega
     rw [Int.mul_assoc]at this
     omega
  refine Ok.pL (fun hle=>?_) (fun hgt=>?_)
  ·rw [sq_lt za za]at hle
   exact hfin _ (2*m+1) (.inr ⟨by rw [hr],rfl⟩) hle (by rw [show r+b+b=r+2*b by omega];exact h4)
  ·rw [sq_lt za za]at hgt
   exact hfin _ (2*m) (.inl ⟨hr,rfl⟩) h3 (Int.not_le.1 hgt)
theorem len_lo:(List.range 256).all (fun n=>decide (n=0)||match jb (n:Int)with|some L=>decide (1<=L∧L<=16)&&decide ((n:Int)<2 ^ L.toNat)|none=>false)=true:=by kernel_rfl
theorem len_hi:(List.range 256).all (fun n=>decide (n=0)||match jb ((n*256:Nat):Int)with|some L=>decide (1<=L∧L<=16)&&decide (((n*256+255:Nat):Int)<2 ^ L.toNat)|none=>false)=true:=by kernel_rfl
theorem shr8{n:Int}(h0:0<=n):p9 .u64 n 8=n / 256:=by
 show n.fdiv (2 ^ (min (8:Int).toNat 64))=n / 256
 rw [Int.fdiv_eq_ediv_of_nonneg _ (by decide)]
 rfl
theorem len_same{n:Int}(h0:256<=n)(h1:n<=65535):fu n=fu (n / 256*256):=by
 unfold fu lE fw gw
 rw [if_neg so,if_neg so,if_pos so,if_neg so,if_neg so,if_pos so,shr8 za,shr8 za]
 rw [show n / 256*256 / 256=n / 256 by omega]
theorem len_ok{n:Int}(h0:1<=n)(h1:n<=65535):Ok (fu n) (fun L=>(1<=L∧L<=16)∧n<2 ^ L.toNat):=by
 obtain⟨n,rfl⟩:∃k:Nat,n=k:=⟨n.toNat,za⟩
 by_cases h:n<256
 ·have:=List.all_eq_true.1 len_lo n (List.mem_range.2 h)
  simp only [Bool.or_eq_true,decide_eq_true_eq]at this
  rcases this with h|h
  ·omega
  ·cases e:jb (n:Int)with
   |none=>rw [e]at h;cases h
   |some L=>
    rw [e]at h
    simp only [Bool.and_eq_true,decide_eq_true_eq]at h
    exact⟨L,bits_Len_le _ _ e,h.1,h.2⟩
 ·have hm:n / 256<256:=by omega
  have:=List.all_eq_true.1 len_hi (n / 256) (List.mem_range.2 hm)
  simp only [Bool.or_eq_true,decide_eq_true_eq]at this
  rcases this with h'|h'
  ·omega
  ·cases e:jb ((n / 256*256:Nat):Int)with
   |none=>rw [e]at h';cases h'
   |some L=>
    rw [e]at h'
    simp only [Bool.and_eq_true,decide_eq_true_eq]at h'
    refine⟨L,?_,h'.1,?_⟩
    ·rw [len_same za h1]
     have:((n:Int) / 256*256)=((n / 256*256:Nat):Int):=by omega
     rw [this]
     exact bits_Len_le _ _ e
    ·have:=h'.2
     have h5:(n:Int)<=((n / 256*256+255:Nat):Int):=by omega
     exact Int.lt_of_le_of_lt h5 this
theorem start_at:∀L:Nat,L<17->1<=L->∃q b,ru .i64 (IntKind.wrap .i64 ((L:Int)-1)) 2=some q∧xD .i64 1 q=some b∧b∈bitsL∧(2:Int) ^ L<=(0+2*b)*(0+2*b):=by
 intro L h1 h2
 have:L=1∨L=2∨L=3∨L=4∨L=5∨L=6∨L=7∨L=8∨L=9∨L=10∨L=11∨L=12∨L=13∨L=14∨L=15∨L=16:=by omega
 have hs:∀(q b:Int),0<=q->shlI .i64 1 q=b->xD .i64 1 q=some b:=fun q b h e=>by unfold xD;rw [if_neg za,e]
 have hq:∀(x q:Int),IntKind.wrap .i64 ((IntKind.wrap .i64 x).tdiv 2)=q->ru .i64 (IntKind.wrap .i64 x) 2=some q:=fun x q e=>by unfold ru;rw [if_neg za,e]
 rcases this with rfl|rfl|rfl|rfl|rfl|rfl|rfl|rfl|rfl|rfl|rfl|rfl|rfl|rfl|rfl|rfl
 ·exact⟨0,1,hq _ _ (by decide),hs _ _ (by decide) (by decide),by decide,by decide⟩
 ·exact⟨0,1,hq _ _ (by decide),hs _ _ (by decide) (by decide),by decide,by decide⟩
 ·exact⟨1,2,hq _ _ (by decide),hs _ _ (by decide) (by decide),by decide,by decide⟩
 ·exact⟨1,2,hq _ _ (by decide),hs _ _ (by decide) (by decide),by decide,by decide⟩
 ·exact⟨2,4,hq _ _ (by decide),hs _ _ (by decide) (by decide),by decide,by decide⟩
 ·exact⟨2,4,hq _ _ (by decide),hs _ _ (by decide) (by decide),by decide,by decide⟩
 ·exact⟨3,8,hq _ _ (by decide),hs _ _ (by decide) (by decide),by decide,by decide⟩
 ·exact⟨3,8,hq _ _ (by decide),hs _ _ (by decide) (by decide),by decide,by decide⟩
 ·exact⟨4,16,hq _ _ (by decide),hs _ _ (by decide) (by decide),by decide,by decide⟩
 ·exact⟨4,16,hq _ _ (by decide),hs _ _ (by decide) (by decide),by decide,by decide⟩
 ·exact⟨5,32,hq _ _ (by decide),hs _ _ (by decide) (by decide),by decide,by decide⟩
 ·exact⟨5,32,hq _ _ (by decide),hs _ _ (by decide) (by decide),by decide,by decide⟩
 ·exact⟨6,64,hq _ _ (by decide),hs _ _ (by decide) (by decide),by decide,by decide⟩
 ·exact⟨6,64,hq _ _ (by decide),hs _ _ (by decide) (by decide),by decide,by decide⟩
 ·exact⟨7,128,hq _ _ (by decide),hs _ _ (by decide) (by decide),by decide,by decide⟩
 ·exact⟨7,128,hq _ _ (by decide),hs _ _ (by decide) (by decide),by decide,by decide⟩
theorem floor_ok(n:Int)(h1:n<=65535):Ok (gJ n) (fun r=>(0<=r∧r<=255)∧(0<=n->r*r<=n)∧n<(r+1)*(r+1)):=by
 unfold gJ
 refine Ok.pL (fun h=>Ok.ret ⟨⟨za,za⟩,fun h'=>za,so⟩) (fun h=>?_)
 have hw:IntKind.wrap .u64 n=n:=IntWalk.u64_in _ za
 rw [hw]
 refine Ok.bind (len_ok za h1) (fun L hL=>?_)
 obtain⟨⟨l0,l1⟩,l2⟩:=hL
 obtain⟨L,rfl⟩:∃k:Nat,L=k:=⟨L.toNat,za⟩
 obtain⟨q,b,e1,e2,e3,e4⟩:=start_at L za za
 rw [e1,zd,e2,zd]
 have hb:=bit_pos b e3
 refine Ok.bind (floor_loop n za h1 (0,b) (.inr ⟨e3,0,sm,za,zc,zc,?_⟩)) (fun r hr=>Ok.ret ⟨hr.1,fun _=>hr.2.1,hr.2.2⟩)
 simp only
 rw [Int.toNat_natCast]at l2
 exact Int.lt_of_lt_of_le l2 e4
theorem lt_of_sq{x s:Int}(hs:0<=s)(h:x*x<s*s):x<s:=by
 apply Classical.byContradiction
 intro hn
 have:s*s<=x*x:=Int.mul_le_mul za za hs za
 omega
theorem ceil_ok(n:Int)(h0:0<=n)(h1:n<=65535):Ok (ky n) (fun r=>(0<=r∧r<=256)∧n<=r*r∧∀s,0<=s->n<=s*s->r<=s):=by
 unfold ky
 refine Ok.bind (floor_ok n h1) (fun x hx=>?_)
 obtain⟨⟨a0,a1⟩,a2,a3⟩:=hx
 have:=a2 h0
 have hxx:0<=x*x:=Int.mul_nonneg a0 a0
 rw [w64 (n:=x*x) za za,w64 (n:=x+1) za za]
 refine Ok.pL (fun hlt=>Ok.ret ⟨⟨za,za⟩,Int.le_of_lt a3,fun s hs hns=>?_⟩) (fun hge=>Ok.ret ⟨⟨za,za⟩,za,fun s hs hns=>?_⟩)
 ·have:=lt_of_sq (x:=x) hs za;omega
 ·apply Classical.byContradiction
  intro hc
  have := lt_of_sq (x := s) a0 (by
   have h2:s*s<=(x-1)*(x-1):=Int.mul_le_mul za za hs za
   have h3:(x-1)*(x-1)=x*x-2*x+1:=by rw [Int.sub_mul,Int.mul_sub];omega
   omega)
  have h2:s*s<=(x-1)*(x-1):=Int.mul_le_mul za za hs za
  have h3:(x-1)*(x-1)=x*x-2*x+1:=by rw [Int.sub_mul,Int.mul_sub];omega
  omega
end Go.Dw.Ed
set_option maxRecDepth 100000
set_option maxHeartbeats 4000000
namespace Go.Dw.Ed
open Go.Dw Go.Proofs
theorem get1{α:Type}(A:List α)(y:α)(T:List α){n:Int}(hn:n=A.length):pH (A++y::T) n=some y:=by
 rw [pN (i:=A.length) hn sm]
 simp
theorem set1{α:Type}(A:List α)(y z:α)(T:List α){n:Int}(hn:n=A.length):sb (A++y::T) n z=some (A++z::T):=by
 rw [wa (i:=A.length) hn sm]
 simp
structure nC(t:aH):Prop where
 step:1<=t.bn∧t.bn<=100
 len:2<=t.aI.length∧t.aI.length<=30
 same:t.aC.length=t.aI.length
 low:t.aI.Pairwise (· <= ·)
 high:t.aC.Pairwise (· <= ·)
 lows:∀x∈t.aI,0<=x
 highs:∀x∈t.aC,0<=x∧x<=5000
 lh:∀(i:Nat)(h:i<t.aI.length)(h':i<t.aC.length),t.aI[i]<=t.aC[i]
 far:400<=t.bn*((t.aI.length:Int)-1)
 lowb:∀x∈t.aI,x<=1500
theorem fO{t:aH}(h:nC t):c9 t=some 0:=by
 obtain⟨h1,h2,h3,h4,h5,h6,h7,h8, -⟩:=h
 refine Ok.eq ?_
 unfold c9
 refine Ok.pL (fun _=>za) (fun _=>Ok.pL (fun _=>za) (fun _=>Ok.qP (fun h=>za) (fun _=>Ok.pL (fun _=>za) (fun _=>Ok.pL (fun _=>za) (fun _=>?_)))))
 refine Ok.bind (P:=fun o=>o= .inl ()) (Ok.loop (fun s=>∃i:Nat,s.2.2=i∧i<=t.aI.length∧(∀(j:Nat)(hj:j<t.aI.length),i<=j->s.1<=t.aI[j])∧(∀(j:Nat)(hj:j<t.aC.length),i<=j->s.2.1<=t.aC[j])) (fun s=>((t.aI.length:Int)-s.2.2).toNat) ?_ ⟨0,rfl,Nat.zero_le _,fun j hj _=>h6 _ (List.getElem_mem hj),fun j hj _=>(h7 _ (List.getElem_mem hj)).1⟩) (fun o ho=>by subst ho;exact Ok.ret rfl)
 rintro⟨s1,s2,s3⟩ ⟨i,i0,i1,i2,i3⟩
 simp only at i0 i2 i3
 subst i0
 unfold ld
 dsimp only
 refine Ok.pL (fun hlt=>?_) (fun _=>Ok.st rfl)
 have hi:i<t.aI.length:=by omega
 have hi':i<t.aC.length:=by omega
 have:=i2 i hi (Nat.le_refl _)
 have:=i3 i hi' (Nat.le_refl _)
 have:=h8 i hi hi'
 have:=(h7 _ (List.getElem_mem hi')).2
 simp only [pN (i:=i) rfl hi,pN (i:=i) rfl hi',zd]
 refine Ok.pL (fun _=>za) (fun _=>Ok.pL (fun _=>za) (fun _=>Ok.pL (fun _=>za) (fun _=>Ok.pL (fun _=>za) (fun _=>?_))))
 rw [w64 za za]
 refine Ok.nx ⟨i+1,sm,za,fun j hj h=>?_,fun j hj h=>?_⟩ zc
 ·exact List.pairwise_iff_getElem.1 h4 i j hi hj za
 ·exact List.pairwise_iff_getElem.1 h5 i j hi' hj za
theorem snoc_le{l:List Int}{x:Int}(h:l.Pairwise (· <= ·))(hx:∀y∈l,y<=x):(l++[x]).Pairwise (· <= ·):=
 List.pairwise_append.2 ⟨h,sm,fun a ha b hb=>by rw [List.mem_singleton.1 hb];exact hx a ha⟩
structure TI(d:Src)(lo hi k:Int)(L H:List Int):Prop where
 ck:0<=k∧k<=23
 ll:L.length=k.toNat
 hl:H.length=k.toNat
 clo:0<=lo∧lo<=60*k
 chi:0<=hi∧hi<=100*k+2
 cd:bU d
 pl:L.Pairwise (· <= ·)
 ph:H.Pairwise (· <= ·)
 ls:∀x∈L,0<=x∧x<=lo
 hs:∀x∈H,0<=x∧x<=hi
 lh:lo<=hi
 le:∀(i:Nat)(h:i<L.length)(h':i<H.length),L[i]<=H[i]
theorem tableV(d:Src)(hd:bU d):Ok (jX d) (fun r=>nC r.1∧bU r.2):=by
 unfold jX
 refine Ok.bind (dv _ d hd sm sm) (fun x1 h1=>?_)
 obtain⟨hst,h1⟩:=h1
 have hst:x1.1=20∨x1.1=25∨x1.1=40∨x1.1=100:=by simpa using hst
 refine Ok.bind (dh _ _ h1 za za) (fun x2 h2=>?_)
 have hq:∃q,IntKind.wrap .i64 ((400:Int).tdiv x1.1)=q∧(4<=q∧x1.1*q=400)∧q<=20:=by
  rcases hst with e|e|e|e<;>rw [e]<;>exact⟨_,rfl,⟨by decide,by decide⟩,by decide⟩
 have hp:∃q,IntKind.wrap .i64 (x1.1.tdiv 4)=q∧0<=q∧q<=25:=by
  rcases hst with e|e|e|e<;>rw [e]<;>exact⟨_,rfl,by decide,by decide⟩
 obtain⟨q,hq,⟨q0,qf⟩,q1⟩:=hq
 obtain⟨p,hp,p0,p1⟩:=hp
 refine Ok.bind (P:=fun o=>bU ⟨o.1,o.2.1⟩∧nC ⟨x1.1,o.2.2.1,o.2.2.2⟩)
  (Ok.loop (fun s=>TI ⟨s.2.2.2.1,s.2.2.2.2.1⟩ s.1 s.2.1 s.2.2.1 s.2.2.2.2.2.1 s.2.2.2.2.2.2) (fun s=>(23-s.2.2.1).toNat) ?_ ⟨⟨sm,sm⟩,rfl,rfl,⟨sm,sm⟩,⟨zc,zc⟩,h2.2.2,sm,sm,sm,sm,zc,sm⟩) ?_
 ·rintro⟨s3,s4,s5,s6,s7,s8,s9⟩ hI
  simp only at hI
  obtain⟨i0,i1,i2,i3,i4,i5,i6,i7,i8,i9,i10,i11⟩:=hI
  unfold ks
  refine Ok.bind (Ok.quo za) (fun y1 g1=>?_)
  rw [hq]at g1;subst g1
  refine Ok.bind (dh _ _ i5 za za) (fun y2 g2=>?_)
  rw [w64 (n:=y1+y2.1) za za]
  refine Ok.pL (fun hle=>?_) (fun hgt=>?_)
  ·refine Ok.bind (Ok.app (by simp only [List.length_cons,List.length_nil];omega)) (fun y3 g3=>?_)
   refine Ok.bind (Ok.app (by simp only [List.length_cons,List.length_nil];omega)) (fun y4 g4=>?_)
   refine Ok.bind (dv _ _ g2.2.2 sm sm) (fun y5 g5=>?_)
   refine Ok.bind (Ok.quo za) (fun y6 g6=>?_)
   rw [hp]at g6;subst g6
   refine Ok.bind (dv _ _ g5.2 sm sm) (fun y7 g7=>?_)
   have a1:0<=y5.1∧y5.1<=35:=by have:=g5.1;simp at this;omega
   have a2:0<=y7.1∧y7.1<=30:=by have:=g7.1;simp at this;omega
   rw [w64 (n:=y5.1+y6) za za,w64 (n:=s3+(y5.1+y6)) za za,w64 (n:=s5+1) za za,w64 (by split<;>omega) (by split<;>omega)]
   subst g3 g4
   refine Ok.nx ⟨⟨zc,zc⟩,?_,?_,⟨zc,zc⟩,⟨by simp only;split<;>omega,by simp only;split<;>omega⟩,g7.2,snoc_le i6 fun y hy=>(i8 y hy).2,snoc_le i7 fun y hy=>(i9 y hy).2,?_,?_,by simp only;split<;>omega,?_⟩ zc
   ·simp only [List.length_append,List.length_cons,List.length_nil];omega
   ·simp only [List.length_append,List.length_cons,List.length_nil];omega
   ·intro x hx
    simp only [List.mem_append,List.mem_singleton]at hx
    rcases hx with hx|rfl
    ·have:=i8 x hx;simp only;omega
    ·simp only;omega
   ·intro x hx
    simp only [List.mem_append,List.mem_singleton]at hx
    rcases hx with hx|rfl
    ·have:=i9 x hx;simp only;split<;>omega
    ·simp only;split<;>omega
   ·intro i h h'
    simp only [List.length_append,List.length_cons,List.length_nil]at h h'
    by_cases hi:i<s8.length
    ·rw [List.getElem_append_left hi,List.getElem_append_left za]
     exact i11 i hi za
    ·have e1:i=s8.length:=by omega
     rw [List.getElem_append_right za,List.getElem_append_right za]
     simp only [List.getElem_singleton];omega
  ·refine Ok.st ⟨g2.2.2,⟨zc,zc⟩,⟨zc,zc⟩,zc,i6,i7,fun x hx=>(i8 x hx).1,fun x hx=>by have:=i9 x hx;omega,i11,?_,fun x hx=>by have:=i8 x hx;omega⟩
   rw [<-qf]
   exact Int.mul_le_mul_of_nonneg_left zc za
 ·intro o ho
  exact Ok.ret ⟨ho.2,ho.1⟩
theorem reg_ok{k:Int}(hk:0<=k∧k<=4)(d:Src)(hd:bU d):Ok (n8 20 k d) (fun r=>ek 20 r.1.aI):=by
 unfold n8
 rw [w64 (n:=k+1) za za]
 refine Ok.bind (lP 20 za za d hd) (fun y0 g0=>?_)
 refine Ok.bind (dh _ _ g0.2 za za) (fun y1 g1=>?_)
 refine Ok.bind (dh _ _ g1.2.2 za za) (fun y2 g2=>?_)
 refine Ok.bind (dh _ _ g2.2.2 za za) (fun y3 g3=>?_)
 exact Ok.ret g0.1
theorem assocV{k:Int}(hk:0<=k∧k<=4)(d:Src)(hd:bU d):Ok (eP k d) (fun r=>((fi r.1.aK∧ek 20 r.1.aK.aI)∧nC r.1.bc∧(1<=r.1.cU∧r.1.cU<=1000)∧(0<=r.1.bP∧r.1.bP<=1000)∧(0<=r.1.dn∧r.1.dn<=5000)∧(0<=r.1.kM∧r.1.kM<=1000)∧(2<=r.1.cN∧r.1.cN<=3))∧bU r.2):=by
 unfold eP
 refine Ok.bind ((box_ok 20 k za za za za d hd).both (reg_ok hk d hd)) (fun x1 h1=>?_)
 refine Ok.bind (tableV _ h1.1.2) (fun x2 h2=>?_)
 refine Ok.bind (dv _ _ h2.2 sm sm) (fun x3 h3=>?_)
 refine Ok.bind (dv _ _ h3.2 sm sm) (fun x4 h4=>?_)
 refine Ok.bind (dv _ _ h4.2 sm sm) (fun x5 h5=>?_)
 refine Ok.bind (dv _ _ h5.2 sm sm) (fun x6 h6=>?_)
 refine Ok.bind (dh _ _ h6.2 za za) (fun x7 h7=>?_)
 have a3:=h3.1
 have a4:=h4.1
 have a5:=h5.1
 have a6:=h6.1
 simp at a3 a4 a5 a6
 rw [w64 (n:=2+x7.1) za za]
 exact Ok.ret ⟨⟨⟨h1.1.1,h1.2⟩,h2.1,zc,zc,zc,zc,zc⟩,h7.2.2⟩
theorem third{x:Int}(h:0<=x)(h':x<=1000000):IntKind.wrap .i64 (x.tdiv 3)=x / 3:=by
 rw [Int.tdiv_eq_ediv_of_nonneg h,w64 za za]
theorem tab_third{t:aH}(h:nC t):nC ⟨t.bn,t.aI.map (· / 3),t.aC.map (· / 3)⟩:=by
 obtain⟨h1,h2,h3,h4,h5,h6,h7,h8,h9,h10⟩:=h
 refine⟨h1,by simpa using h2,by simpa using h3,?_,?_,?_,?_,?_,by simpa using h9,fun x hx=>by obtain⟨y,hy,rfl⟩:=List.mem_map.1 hx;have:=h10 y hy;have:=h6 y hy;omega⟩
 ·rw [List.pairwise_map];exact h4.imp fun h=>by omega
 ·rw [List.pairwise_map];exact h5.imp fun h=>by omega
 ·intro x hx
  obtain⟨y,hy,rfl⟩:=List.mem_map.1 hx
  have:=h6 y hy;omega
 ·intro x hx
  obtain⟨y,hy,rfl⟩:=List.mem_map.1 hx
  have:=h7 y hy;omega
 ·intro i h h'
  simp only [List.length_map]at h h'
  simp only [List.getElem_map]
  have:=h8 i h h';omega
theorem scaleV(d:Src)(hd:bU d):Ok (lw d) (fun r=>(nC r.1.bX∧(0<=r.1.bK∧r.1.bK<=20)∧(1<=r.1.bC∧r.1.bC<=20))∧bU r.2):=by
 unfold lw
 refine Ok.bind (tableV _ hd) (fun x1 h1=>?_)
 refine Ok.bind (dh _ _ h1.2 za za) (fun x2 h2=>?_)
 refine Ok.bind (dh _ _ h2.2.2 za za) (fun x3 h3=>?_)
 have hT:=h1.1
 have hl:=hT.len;have hs:=hT.same
 generalize hL:x1.1.aI=L at*
 generalize hH:x1.1.aC=H at*
 refine Ok.bind (P:=fun o=>o=(L.map (· / 3),H.map (· / 3))) (Ok.loop (fun s:Int×List Int×List Int=>∃i:Nat,s=((i:Int),(L.take i).map (· / 3)++L.drop i,(H.take i).map (· / 3)++H.drop i)∧i<=L.length) (fun s=>((L.length:Int)-s.1).toNat) ?_ ⟨0,sm,Nat.zero_le _⟩) (fun o ho=>?_)
 ·rintro s ⟨i,rfl,hi⟩
  unfold mi
  dsimp only
  rw [hL]
  refine Ok.pL (fun hlt=>?_) (fun hge=>?_)
  ·have hi:i<L.length:=by omega
   have hi':i<H.length:=by omega
   have b1:=hT.lows (L[i]) (by rw [hL];exact List.getElem_mem hi)
   have b2:=hT.highs (H[i]) (by rw [hH];exact List.getElem_mem hi')
   have b3:=hT.lh i (by rw [hL];exact hi) (by rw [hH];exact hi')
   simp only [hL,hH]at b3
   have hdrop:∀{M:List Int}(h:i<M.length),(M.take i).map (· / 3)++M.drop i=(M.take i).map (· / 3)++M[i]::M.drop (i+1):=fun{M}h=>by rw [List.drop_eq_getElem_cons h]
   have hlen:∀{M:List Int},i<M.length->((M.take i).map (· / 3)).length=i:=fun{M}h=>by simp;omega
   have hset:∀{M:List Int}(h:i<M.length),(M.take i).map (· / 3)++M[i] / 3::M.drop (i+1)=(M.take (i+1)).map (· / 3)++M.drop (i+1):=fun{M}h=>by
    rw [qu h,List.map_append,List.append_assoc];rfl
   rw [hdrop hi,hdrop hi']
   have n1:∀{M:List Int}(h:i<M.length)(z:Int),inO ((M.take i).map (· / 3)++z::M.drop (i+1)) (i:Int)=some ():=fun{M}h z=>qy za (by rw [List.length_append,hlen h];simp;omega)
   rw [n1 hi,zd,get1 _ _ _ (by rw [hlen hi]),zd]
   refine Ok.bind (Ok.quo za) (fun y2 g2=>?_)
   rw [third b1 za]at g2
   subst g2
   rw [n1 hi',zd,get1 _ _ _ (by rw [hlen hi']),zd]
   refine Ok.bind (Ok.quo za) (fun y4 g4=>?_)
   rw [third b2.1 za]at g4
   subst g4
   rw [zd,set1 _ _ _ _ (by rw [hlen hi]),zd,zd,set1 _ _ _ _ (by rw [hlen hi']),zd,w64 za za,hset hi,hset hi']
   exact Ok.nx ⟨i+1,sm,za⟩ zc
  ·have:i=L.length:=by omega
   subst this
   refine Ok.st ?_
   rw [List.take_length,List.drop_length,List.append_nil,List.take_of_length_le za,List.drop_of_length_le za,List.append_nil]
 ·subst ho
  rw [w64 (n:=1+x3.1) za za]
  have:=tab_third hT
  rw [hL,hH]at this
  exact Ok.ret ⟨⟨this,zc,zc⟩,h3.2.2⟩
structure iZ(s:aq):Prop where
 box:fi s.ai.aK
 reg:ek 20 s.ai.aK.aI
 tab:nC s.ai.bc
 cap:1<=s.ai.cU∧s.ai.cU<=1000
 tol:0<=s.ai.bP∧s.ai.bP<=1000
 span:0<=s.ai.dn∧s.ai.dn<=5000
 limit:0<=s.ai.kM∧s.ai.kM<=1000
 least:2<=s.ai.cN∧s.ai.cN<=3
 cor:nC s.eB.bX
 num:0<=s.eB.bK∧s.eB.bK<=20
 den:1<=s.eB.bC∧s.eB.bC<=20
 tolerance:0<=s.bP∧s.bP<=1000
theorem settingsV{k:Int}(hk:0<=k∧k<=4)(d:Src)(hd:bU d):Ok (ig k d) (fun r=>iZ r.1∧bU r.2):=by
 unfold ig
 refine Ok.bind (assocV hk d hd) (fun x1 h1=>?_)
 refine Ok.bind (scaleV _ h1.2) (fun x2 h2=>?_)
 refine Ok.bind (dv _ _ h2.2 sm sm) (fun x3 h3=>?_)
 have a3:=h3.1
 simp at a3
 obtain⟨⟨⟨a,a'⟩,b,c,e,f,g,h⟩, -⟩:=h1
 exact Ok.ret ⟨⟨a,a',b,c,e,f,g,h,h2.1.1,h2.1.2.1,h2.1.2.2,zc⟩,h3.2⟩
theorem ix{p:aa}(h:ek 60 p):cW p=some true:=by
 obtain⟨h1,h2,h3⟩:=h
 refine Ok.eq ?_
 unfold cW bq
 rw [zd]
 dsimp only
 exact Ok.pL (fun _=>za) (fun _=>Ok.pL (fun _=>za) (fun _=>Ok.pL (fun _=>za) (fun _=>Ok.pL (fun _=>za) (fun _=>Ok.pL (fun _=>za) (fun _=>Ok.pL (fun _=>za) (fun _=>Ok.ret rfl))))))
theorem lj{b:ah}(h:fi b):ek 60 b.aI∧ek 60 b.aC:=by
 obtain⟨⟨h1,h2,h3⟩,h4,h5,h6⟩:=h
 exact⟨⟨za,za,za⟩,za,za,za⟩
theorem dq{b:ah}(h:fi b):bH b=some true:=by
 obtain⟨hl,hh⟩:=lj h
 obtain⟨-,h4,h5,h6⟩:=h
 refine Ok.eq ?_
 unfold bH
 rw [ix hl,zd,if_neg sm,ix hh,zd,if_neg sm]
 unfold bq
 rw [zd,zd]
 dsimp only
 exact Ok.pL (fun _=>za) (fun _=>Ok.pL (fun _=>za) (fun _=>Ok.pL (fun _=>za) (fun _=>Ok.ret rfl)))
theorem set_valid{s:aq}(h:iZ s):dX s=some 0:=by
 obtain⟨h1, -,h2,h3,h4,h5,h6,h7,h8,h9,h10,h11⟩:=h
 have hin:∀{x a b:Int},a<=x->x<=b->dG x a b=some true:=fun h h'=>by
  unfold dG;rw [if_pos (by simpa using h)];simpa using h'
 have ha:da s.ai []=some 0:=by
  unfold da
  rw [dq h1,zd,if_neg sm,fO h2,zd,if_neg sm,hin za za,zd,if_neg sm,hin za za,zd,if_neg sm,hin za za,zd,if_neg sm,hin za za,zd,if_neg sm,hin za za,zd,if_neg sm,if_neg sm]
  have:cK [] s.ai (0:Int)=some (.stop (.inl ())):=by
   unfold cK
   rw [if_neg sm]
  rw [pK this];rfl
 have hm:cB s.eB=some true:=by
  unfold cB
  rw [fO h8,zd,if_pos sm,if_pos so,if_pos so,if_pos so]
  simp;omega
 unfold dX
 rw [ha,zd,if_neg sm,hm,zd,if_neg sm,if_neg so,if_neg so]
theorem sq_in{x:Int}(h: -120<=x∧x<=120):0<=x*x∧x*x<=14400:=by
 constructor
 ·rcases Int.le_total 0 x with h'|h'
  ·exact Int.mul_nonneg h' h'
  ·exact Int.mul_nonneg_of_nonpos_of_nonpos h' h'
 ·rcases Int.le_total 0 x with h'|h'
  ·exact Int.mul_le_mul h.2 h.2 h' za
  ·rw [<-Int.neg_mul_neg]
   exact Int.mul_le_mul (show-x<=120 by omega) (show-x<=120 by omega) za za
def ne(x l h:Int):Int:=max 0 (max (l-x) (x-h))
def fa(x l h:Int):Int:=max (h-x) (x-l)
def mO(b:ah)(p:aa):Int:=ne p.fX b.aI.fX b.aC.fX*ne p.fX b.aI.fX b.aC.fX+ne p.fY b.aI.fY b.aC.fY*ne p.fY b.aI.fY b.aC.fY+ne p.fZ b.aI.fZ b.aC.fZ*ne p.fZ b.aI.fZ b.aC.fZ
def mD(b:ah)(p:aa):Int:=fa p.fX b.aI.fX b.aC.fX*fa p.fX b.aI.fX b.aC.fX+fa p.fY b.aI.fY b.aC.fY*fa p.fY b.aI.fY b.aC.fY+fa p.fZ b.aI.fZ b.aC.fZ*fa p.fZ b.aI.fZ b.aC.fZ
theorem oR{a b c:Int}(ha: -60<=a∧a<=60)(hb: -60<=b∧b<=60)(hc: -60<=c∧c<=60):ew a b c=some (ne a b c)∧0<=ne a b c∧ne a b c<=120:=by
 unfold ew ne
 rw [w64 (n:=a-c) za za,w64 (n:=b-a) za za]
 refine⟨congrArg some ?_,za,za⟩
 split<;>split<;>omega
theorem nI{a b c:Int}(ha: -60<=a∧a<=60)(hb: -60<=b∧b<=60)(hc: -60<=c∧c<=60)(hbc:b<=c):dW a b c=some (fa a b c)∧0<=fa a b c∧fa a b c<=120:=by
 unfold dW fa
 rw [w64 (n:=a-b) za za,w64 (n:=c-a) za za]
 refine⟨congrArg some ?_,za,za⟩
 split<;>omega
theorem sum_at{x y z:Int}(hx:0<=x∧x<=120)(hy:0<=y∧y<=120)(hz:0<=z∧z<=120):
  IntKind.wrap .i64 ((IntKind.wrap .i64 ((IntKind.wrap .i64 ((0:Int)+(IntKind.wrap .i64 (x*x))))+(IntKind.wrap .i64 (y*y))))+(IntKind.wrap .i64 (z*z)))=x*x+y*y+z*z∧0<=x*x+y*y+z*z∧x*x+y*y+z*z<=43200:=by
 have h1:=sq_in (x:=x) za
 have h2:=sq_in (x:=y) za
 have h3:=sq_in (x:=z) za
 rw [w64 (n:=x*x) za za,w64 (n:=y*y) za za,w64 (n:=z*z) za za,w64 (n:=0+x*x) za za,w64 (n:=0+x*x+y*y) za za,w64 za za]
 exact⟨za,za,za⟩
theorem o0{b:ah}(hb:fi b){p:aa}(hp:ek 60 p):ep b p=some (mO b p)∧0<=mO b p∧mO b p<=43200:=by
 obtain⟨hl,hh⟩:=lj hb
 obtain⟨e1,a1⟩:=oR hp.1 hl.1 hh.1
 obtain⟨e2,a2⟩:=oR hp.2.1 hl.2.1 hh.2.1
 obtain⟨e3,a3⟩:=oR hp.2.2 hl.2.2 hh.2.2
 obtain⟨e,h⟩:=sum_at a1 a2 a3
 refine⟨?_,h⟩
 unfold ep gc bq
 rw [Option.bind_fun_some,dq hb,zd,if_neg sm,ix hp,zd,if_neg sm]
 simp only [zd,e1,e2,e3,e]
 rfl
theorem Far_at{b:ah}(hb:fi b){p:aa}(hp:ek 60 p):f9 b p=some (mD b p)∧0<=mD b p∧mD b p<=43200:=by
 obtain⟨hl,hh⟩:=lj hb
 obtain⟨-,b1,b2,b3⟩:=id hb
 obtain⟨e1,a1⟩:=nI hp.1 hl.1 hh.1 za
 obtain⟨e2,a2⟩:=nI hp.2.1 hl.2.1 hh.2.1 za
 obtain⟨e3,a3⟩:=nI hp.2.2 hl.2.2 hh.2.2 za
 obtain⟨e,h⟩:=sum_at a1 a2 a3
 refine⟨?_,h⟩
 unfold f9 fA bq
 rw [Option.bind_fun_some,dq hb,zd,if_neg sm,ix hp,zd,if_neg sm]
 simp only [zd,e1,e2,e3,e]
 rfl
theorem sq_le{x y:Int}(h0:0<=x)(h:x<=y):x*x<=y*y:=Int.mul_le_mul h h h0 za
theorem nW{b:ah}(hb:fi b)(p:aa):mO b p<=mD b p:=by
 obtain⟨-,b1,b2,b3⟩:=hb
 have k:∀x l h:Int,l<=h->ne x l h*ne x l h<=fa x l h*fa x l h:=fun x l h hlh=>sq_le (by unfold ne;omega) (by unfold ne fa;omega)
 have:=k p.fX b.aI.fX b.aC.fX za
 have:=k p.fY b.aI.fY b.aC.fY za
 have:=k p.fZ b.aI.fZ b.aC.fZ za
 unfold mO mD;omega
structure Sub(r b:ah):Prop where
 x:r.aI.fX<=b.aI.fX∧b.aI.fX<=b.aC.fX∧b.aC.fX<=r.aC.fX
 y:r.aI.fY<=b.aI.fY∧b.aI.fY<=b.aC.fY∧b.aC.fY<=r.aC.fY
 z:r.aI.fZ<=b.aI.fZ∧b.aI.fZ<=b.aC.fZ∧b.aC.fZ<=r.aC.fZ
theorem far_mono{r b:ah}(h:Sub r b)(p:aa):mD b p<=mD r p:=by
 obtain⟨h1,h2,h3⟩:=h
 have k:∀x l h l' h':Int,l'<=l->l<=h->h<=h'->fa x l h*fa x l h<=fa x l' h'*fa x l' h':=fun x l h l' h' a b c=>sq_le (by unfold fa;omega) (by unfold fa;omega)
 have:=k p.fX _ _ _ _ h1.1 h1.2.1 h1.2.2
 have:=k p.fY _ _ _ _ h2.1 h2.2.1 h2.2.2
 have:=k p.fZ _ _ _ _ h3.1 h3.2.1 h3.2.2
 unfold mD;omega
theorem half_at:∀x:Nat,x<600->IntKind.wrap .i64 (p9 .u64 (IntKind.wrap .u64 (IntKind.wrap .i64 (x:Int))) 1)=((x / 2:Nat):Int):=by decide+kernel
theorem search_ok{t:aH}(ht:nC t)(d:Int)(hd:d<=t.bn*((t.aI.length:Int)-1)):Ok (ex (t.aC.length:Int) t d) (fun r=>(0<=r∧r<t.aC.length)∧d<=r*t.bn):=by
 have hl:=ht.len;have hs:=ht.same;have hst:=ht.step
 unfold ex
 rw [Option.bind_fun_some]
 refine Ok.loop (fun s=>∃i j:Nat,s=((i:Int),(j:Int))∧i<t.aC.length∧i<=j∧j<=t.aC.length∧(j<t.aC.length->d<=(j:Int)*t.bn)) (fun s=>(s.2-s.1).toNat) ?_ ⟨0,t.aC.length,rfl,za,za,Nat.le_refl _,fun h=>za⟩
 rintro s ⟨i,j,rfl,i0,i1,i2,i3⟩
 unfold iG
 dsimp only
 refine Ok.pL (fun hlt=>?_) (fun hge=>Ok.st ⟨⟨za,za⟩,?_⟩)
 rotate_left
 ·obtain rfl:i=j:=by omega
  exact i3 i0
 have hh:=half_at (i+j) za
 rw [Int.natCast_add]at hh
 have hk1:(i+j) / 2<j:=by omega
 have hk2:i<=(i+j) / 2:=by omega
 rw [hh]
 generalize (i+j) / 2=k at*
 unfold fr
 have hb:0<=(k:Int)*t.bn∧(k:Int)*t.bn<=30*100:=⟨Int.mul_nonneg za za,Int.mul_le_mul za za za za⟩
 rw [w64 (n:=(k:Int)*t.bn) za za,zd]
 refine Ok.iteND (fun hlt=>?_) (fun hle=>Ok.nx ⟨i,k,rfl,i0,hk2,za,fun _=>hle⟩ zc)
 rw [w64 za za]
 refine Ok.nx ⟨k+1,j,sm,?_,za,i2,i3⟩ zc
 have h1:(k:Int)*t.bn<t.bn*((t.aI.length:Int)-1):=by omega
 rw [Int.mul_comm]at h1
 have:=Int.lt_of_mul_lt_mul_left h1 za
 omega
theorem asc_le{l:List Int}(h:l.Pairwise (· <= ·)){i j:Nat}(hij:i<=j)(hj:j<l.length):l[i]<=l[j]:=by
 rcases Nat.lt_or_eq_of_le hij with h1|rfl
 ·exact List.pairwise_iff_getElem.1 h i j _ _ h1
 ·exact Int.le_refl _
def na(t:aH):Int:=t.bn*((t.aI.length:Int)-1)
def Reach(t:aH)(f:Int):Prop:=f<=na t*na t
theorem mT{t:aH}(ht:nC t)(n f:Int)(h0:0<=n)(hnf:n<=f)(hf:f<=65535):Ok (cn t n f) (fun r=>(r.2.2=0↔Reach t f)∧(r.2.2=0->0<=r.1∧r.1<=r.2.1∧r.2.1<=5000)):=by
 have hl:=ht.len;have hs:=ht.same;have hst:=ht.step
 unfold cn
 rw [fO ht,zd,if_neg sm]
 refine Ok.pL (fun _=>za) (fun _=>Ok.pL (fun _=>za) (fun h1=>?_))
 refine Ok.bind (ceil_ok f za hf) (fun c hc=>?_)
 obtain⟨hc0,hc1,hc2⟩:=hc
 have hb:0<=t.bn*((t.aI.length:Int)-1)∧t.bn*((t.aI.length:Int)-1)<=100*30:=⟨Int.mul_nonneg za za,Int.mul_le_mul za za za za⟩
 have hR:Reach t f↔c<=na t:=by
  unfold Reach
  constructor
  ·intro h;exact hc2 _ hb.1 h
  ·intro h;exact Int.le_trans hc1 (sq_le hc0.1 h)
 unfold lu
 rw [zd,w64 (n:=(t.aI.length:Int)-1) za za,w64 za za]
 refine Ok.pL (fun h2=>Ok.ret ⟨⟨fun h=>by simp at h,fun h=>?_⟩,fun h=>by simp at h⟩) (fun h2=>?_)
 ·have:=hR.1 h;unfold na at this;omega
 refine Ok.bind (search_ok ht c za) (fun u hu=>?_)
 refine Ok.bind (floor_ok n za) (fun x hx=>?_)
 obtain⟨⟨x0,x1⟩,x2, -⟩:=hx
 have x2:=x2 h0
 have hxc:x<=c:=by
  apply Classical.byContradiction
  intro h
  have:(c+1)*(c+1)<=x*x:=Int.mul_le_mul za za za za
  have h4:(c+1)*(c+1)=c*c+2*c+1:=by rw [Int.add_mul,Int.mul_add];omega
  omega
 refine Ok.bind (Ok.quo za) (fun q hq=>?_)
 have hq0:0<=x.tdiv t.bn:=Int.tdiv_nonneg x0 za
 have hq1:x.tdiv t.bn<=(t.aI.length:Int)-1:=by
  rw [Int.tdiv_eq_ediv_of_nonneg x0]
  exact Int.ediv_le_of_le_mul za (by rw [Int.mul_comm];omega)
 have hq2:x.tdiv t.bn<=u:=by
  rw [Int.tdiv_eq_ediv_of_nonneg x0]
  exact Int.ediv_le_of_le_mul za za
 rw [w64 za za]at hq
 subst hq
 refine Ok.bind (Ok.get hq0 za) (fun a ha=>?_)
 refine Ok.bind (Ok.get hu.1.1 hu.1.2) (fun b hb'=>Ok.ret ⟨⟨fun _=>hR.2 (by unfold na;omega),fun _=>rfl⟩,fun _=>⟨ht.lows _ ha.1,?_,(ht.highs _ hb'.1).2⟩⟩)
 obtain⟨i1,e1⟩:=List.getElem?_eq_some_iff.1 ha.2
 obtain⟨i2,e2⟩:=List.getElem?_eq_some_iff.1 hb'.2
 have k1:=asc_le ht.low (i:=(x.tdiv t.bn).toNat) (j:=u.toNat) za za
 have k2:=ht.lh u.toNat za i2
 simp only
 omega
def dY(z:aF):Prop:= -5000<=z.bj∧z.bj<=z.fTo∧z.fTo<=18014398509481984
structure PhV(a:al):Prop where
 pos:ek 60 a.aQ
 early:0<=a.aM
 late:a.aM<=a.bv
 most:a.bv<=18014398509481984
 weight:a.bD=1
theorem pG{t:aH}(ht:nC t){b:ah}(hb:fi b){a:al}(ha:PhV a):Ok (dj t b a) (fun r=>(r.2=0↔Reach t (mD b a.aQ))∧(r.2=0->dY r.1)):=by
 obtain⟨ha,h1,h2,h3,h4⟩:=ha
 have hv:ev a=some true:=by
  refine Ok.eq ?_
  unfold ev
  rw [ix ha,zd,if_pos rfl,if_pos (by simpa using h1),if_pos (by simpa using h2),if_pos (by simpa using h3),if_pos (by simp [h4])]
  exact Ok.ret (by simp [h4])
 unfold dj
 rw [fO ht,zd,if_neg sm,dq hb,zd,if_neg sm,hv,zd,if_neg sm]
 obtain⟨e1,n0,n1⟩:=o0 hb ha
 obtain⟨e2,f0,f1⟩:=Far_at hb ha
 refine Ok.bind (P:=fun r=>(r.2.2=0↔Reach t (mD b a.aQ))∧(r.2.2=0->0<=r.1∧r.1<=r.2.1∧r.2.1<=5000)) ?_ (fun r hr=>?_)
 ·unfold jx kw
  rw [fO ht,zd,if_neg sm,dq hb,zd,if_neg sm,ix ha,zd,if_neg sm,e1,e2]
  simp only [zd]
  exact Ok.bind (mT ht _ _ n0 (nW hb _) za) (fun r hr=>Ok.ret hr)
 ·refine Ok.qP (fun h=>Ok.ret ⟨⟨fun h'=>(h h').elim,fun h'=>(h (hr.1.2 h')).elim⟩,fun h'=>(h h').elim⟩) (fun h=>Ok.ret ⟨⟨fun _=>hr.1.1 h,fun _=>rfl⟩,fun _=>?_⟩)
  have:=hr.2 h
  unfold dY
  simp only
  rw [w64 za za,w64 za za]
  exact⟨za,za,za⟩
end Go.Dw.Ed
set_option maxRecDepth 100000
set_option maxHeartbeats 4000000
namespace Go.Dw.Ed
open Go.Dw Go.Proofs
theorem Sub.ok{r b:ah}(hr:fi r)(hp:ek 20 r.aI)(h:Sub r b):fi b:=by
 obtain⟨-,h1,h2,h3⟩:=hr
 obtain⟨p1,p2,p3⟩:=hp
 obtain⟨x,y,z⟩:=h
 exact⟨⟨za,za,za⟩,za,za,za⟩
theorem Sub.refl{r:ah}(hr:fi r):Sub r r:=by
 obtain⟨-,h1,h2,h3⟩:=hr
 exact⟨za,za,za⟩
theorem Sub.low{r b:ah}(h:Sub r b):Sub r ⟨b.aI,b.aI⟩:=by
 obtain⟨x,y,z⟩:=h
 exact⟨⟨zc,zc,zc⟩,⟨zc,zc,zc⟩,⟨zc,zc,zc⟩⟩
theorem Sub.high{r b:ah}(h:Sub r b):Sub r ⟨b.aC,b.aC⟩:=by
 obtain⟨x,y,z⟩:=h
 exact⟨⟨zc,zc,zc⟩,⟨zc,zc,zc⟩,⟨zc,zc,zc⟩⟩
theorem within_at{r b:ah}(hr:fi r)(hp:ek 20 r.aI)(h:Sub r b):iU b r=some true:=by
 have hb:=h.ok hr hp
 obtain⟨pl,ph⟩:=lj hb
 have k:∀p,Sub r ⟨p,p⟩->ek 60 p->eW r p=some true:=fun p⟨x,y,z⟩hq=>by
  unfold eW
  rw [dq hr,zd,if_pos rfl,ix hq,zd,if_pos rfl,(o0 hr hq).1,zd]
  simp only at x y z
  have e1:ne p.fX r.aI.fX r.aC.fX=0:=by unfold ne;omega
  have e2:ne p.fY r.aI.fY r.aC.fY=0:=by unfold ne;omega
  have e3:ne p.fZ r.aI.fZ r.aC.fZ=0:=by unfold ne;omega
  unfold mO
  rw [e1,e2,e3];rfl
 unfold iU
 rw [dq hb,zd,if_pos rfl,k _ h.low pl,zd,if_pos rfl,k _ h.high ph];rfl
theorem kP{a b:Int}(ha: -60<=a∧a<=b∧b<=60):bN a b=some (a+(b-a) / 2):=by
 unfold bN
 rw [w64 (n:=b-a) za za]
 have:ru .i64 (b-a) 2=some ((b-a) / 2):=by
  unfold ru
  rw [if_neg za,Int.tdiv_eq_ediv_of_nonneg za,w64 za za]
 rw [this,zd,w64 za za]
theorem center_ok{r b:ah}(hr:fi r)(hp:ek 20 r.aI)(h:Sub r b):Ok (eQ b) (fun p=>Sub r ⟨p,p⟩):=by
 have hb:=h.ok hr hp
 obtain⟨⟨l1,l2,l3⟩,h1,h2,h3⟩:=lj hb
 obtain⟨x,y,z⟩:=h
 unfold eQ bq bu
 rw [dq hb,zd,if_neg sm,zd,zd]
 simp only
 rw [kP za,zd,kP za,zd,kP za,zd]
 exact Ok.ret ⟨zc,zc,zc⟩
def pts(b:ah):Int:=(b.aC.fX-b.aI.fX+1)*(b.aC.fY-b.aI.fY+1)*(b.aC.fZ-b.aI.fZ+1)
theorem mul_in{x y m n:Int}(h1:1<=x∧x<=m)(h2:1<=y∧y<=n):1<=x*y∧x*y<=m*n:=
 ⟨Int.le_trans (by omega:(1:Int)<=1*1) (Int.mul_le_mul h1.1 h2.1 za za),Int.mul_le_mul h1.2 h2.2 za za⟩
theorem pts_in{b:ah}(h:fi b):1<=pts b∧pts b<=125:=by
 obtain⟨-,h1,h2,h3⟩:=h
 have k:=mul_in (mul_in (x:=b.aC.fX-b.aI.fX+1) (y:=b.aC.fY-b.aI.fY+1) (m:=5) (n:=5) za za) (y:=b.aC.fZ-b.aI.fZ+1) (n:=5) za
 unfold pts
 omega
theorem points_at{b:ah}(h:fi b):iT b=some (pts b):=by
 have hp:=pts_in h
 obtain⟨hl,hh⟩:=lj h
 obtain⟨l1,l2,l3⟩:=hl
 obtain⟨h1,h2,h3⟩:=hh
 have hv:=dq h
 obtain⟨-,s1,s2,s3⟩:=h
 have k1:=mul_in (x:=b.aC.fX-b.aI.fX+1) (y:=b.aC.fY-b.aI.fY+1) (m:=5) (n:=5) za za
 unfold iT bq
 unfold pts at hp⊢
 rw [hv,zd,if_neg sm,zd,zd]
 simp only
 rw [w64 (n := b.aC.fX - b.aI.fX) za za, w64 (n := b.aC.fX - b.aI.fX + 1) za za, w64 (n := 1 * (b.aC.fX - b.aI.fX + 1)) za za, Int.one_mul,
  w64 (n:=b.aC.fY-b.aI.fY) za za,w64 (n:=b.aC.fY-b.aI.fY+1) za za,w64 (n:=(b.aC.fX-b.aI.fX+1)*(b.aC.fY-b.aI.fY+1)) za za,
  w64 (n:=b.aC.fZ-b.aI.fZ) za za,w64 (n:=b.aC.fZ-b.aI.fZ+1) za za,w64 za za]
theorem one_side{x:Int}(h:1<=x){y z:Int}(hy:1<=y)(hz:1<=z)(hn:2<=x*y*z):2<=x∨2<=y∨2<=z:=by
 by_cases h1:x=1
 ·by_cases h2:y=1
  ·subst h1 h2;right;right;omega
  ·right;left;omega
 ·left;omega
theorem yY{r b:ah}(hr:fi r)(hp:ek 20 r.aI)(h:Sub r b):Ok (eD b) (fun s=>s.2.2=true->Sub r s.1∧Sub r s.2.1∧pts s.1+pts s.2.1=pts b):=by
 have hb:=h.ok hr hp
 obtain⟨⟨l1,l2,l3⟩,h1,h2,h3⟩:=lj hb
 have hpt:=points_at hb
 obtain⟨-,s1,s2,s3⟩:=id hb
 obtain⟨x,y,z⟩:=h
 unfold eD bq bu
 rw [hpt,zd]
 refine Ok.pL (fun _=>Ok.ret sm) (fun hn=>?_)
 have hbig:=one_side (x:=b.aC.fX-b.aI.fX+1) (y:=b.aC.fY-b.aI.fY+1) (z:=b.aC.fZ-b.aI.fZ+1) za za za (by unfold pts at hn;omega)
 simp only [zd]
 rw [w64 (n:=b.aC.fX-b.aI.fX) za za,w64 (n:=b.aC.fY-b.aI.fY) za za,w64 (n:=b.aC.fZ-b.aI.fZ) za za]
 have cX:2<=b.aC.fX-b.aI.fX+1->Ok ((bN b.aI.fX b.aC.fX).bind fun x17=>some (ah.mk b.aI (aa.mk x17 b.aC.fY b.aC.fZ),ah.mk (aa.mk (IntKind.wrap .i64 (x17+(1:Int))) b.aI.fY b.aI.fZ) b.aC,true)) (fun s:ah×ah×Bool=>s.2.2=true->Sub r s.1∧Sub r s.2.1∧pts s.1+pts s.2.1=pts b):=fun h2=>by
  rw [kP za,zd,w64 za za]
  refine Ok.ret fun _=>⟨⟨zc,zc,zc⟩,⟨zc,zc,zc⟩,?_⟩
  unfold pts
  simp only
  rw [<-Int.add_mul, <-Int.add_mul]
  congr 2;omega
 have cY:2<=b.aC.fY-b.aI.fY+1->Ok ((bN b.aI.fY b.aC.fY).bind fun x10=>some (ah.mk b.aI (aa.mk b.aC.fX x10 b.aC.fZ),ah.mk (aa.mk b.aI.fX (IntKind.wrap .i64 (x10+(1:Int))) b.aI.fZ) b.aC,true)) (fun s:ah×ah×Bool=>s.2.2=true->Sub r s.1∧Sub r s.2.1∧pts s.1+pts s.2.1=pts b):=fun h2=>by
  rw [kP za,zd,w64 za za]
  refine Ok.ret fun _=>⟨⟨zc,zc,zc⟩,⟨zc,zc,zc⟩,?_⟩
  unfold pts
  simp only
  rw [<-Int.add_mul, <-Int.mul_add]
  congr 2;omega
 have cZ:2<=b.aC.fZ-b.aI.fZ+1->Ok ((bN b.aI.fZ b.aC.fZ).bind fun x7=>some (ah.mk b.aI (aa.mk b.aC.fX b.aC.fY x7),ah.mk (aa.mk b.aI.fX b.aI.fY (IntKind.wrap .i64 (x7+(1:Int)))) b.aC,true)) (fun s:ah×ah×Bool=>s.2.2=true->Sub r s.1∧Sub r s.2.1∧pts s.1+pts s.2.1=pts b):=fun h2=>by
  rw [kP za,zd,w64 za za]
  refine Ok.ret fun _=>⟨⟨zc,zc,zc⟩,⟨zc,zc,zc⟩,?_⟩
  unfold pts
  simp only
  rw [<-Int.mul_add]
  congr 1;omega
 exact Ok.pL (fun _=>Ok.pL (fun _=>cZ za) (fun _=>cY za)) (fun _=>Ok.pL (fun _=>cZ za) (fun _=>cX za))
theorem hull_ok{r a b:ah}(hr:fi r)(hp:ek 20 r.aI)(ha:Sub r a)(hb:Sub r b):Ok (kz a b) (Sub r):=by
 unfold kz bq bu
 rw [dq (ha.ok hr hp),zd,if_neg sm,dq (hb.ok hr hp),zd,if_neg sm]
 simp only [zd]
 obtain⟨a1,a2,a3⟩:=ha
 obtain⟨b1,b2,b3⟩:=hb
 exact Ok.ret ⟨by simp only;split<;>split<;>omega,by simp only;split<;>split<;>omega,by simp only;split<;>split<;>omega⟩
end Go.Dw.Ed
set_option maxRecDepth 100000
set_option maxHeartbeats 4000000
namespace Go.Dw.Ed
open Go.Dw Go.Proofs
theorem shr30{n:Int}(h0:0<=n):p9 .i64 n 30=n / 1073741824:=by
 show n.fdiv (2 ^ (min (30:Int).toNat 64))=n / 1073741824
 rw [Int.fdiv_eq_ediv_of_nonneg _ (by decide)]
 rfl
theorem from_ok{n:Int}(h:n<=9223372036854775808):Ok (pu n) (fun r=>r.1.length<=3):=by
 unfold pu
 refine Ok.pL (fun _=>Ok.ret sm) (fun h0=>?_)
 refine Ok.bind (P:=fun o:List Int=>o.length<=3) (Ok.loop (fun s:Int×List Int=>0<=s.1∧s.2.length<=3∧s.1<1073741824 ^ (3-s.2.length)) (fun s=>s.1.toNat) ?_ ⟨zc,sm,by simp only [List.length_nil];omega⟩) (fun o ho=>Ok.ret ho)
 rintro⟨s2,s3⟩ ⟨i0,i1,i2⟩
 simp only at i0 i1 i2
 unfold nat_From_l9
 refine Ok.pL (fun hgt=>?_) (fun _=>Ok.st i1)
 refine Ok.bind (Ok.rem za) (fun x _=>?_)
 refine Ok.bind (Ok.app (by simp only [List.length_cons,List.length_nil];omega)) (fun y hy=>?_)
 subst hy
 rw [shr30 i0]
 have h3:s3.length≠3:=fun e=>by rw [e]at i2;simp at i2;omega
 refine Ok.nx ⟨zc,by simp only [List.length_append,List.length_cons,List.length_nil];omega,?_⟩ zc
 simp only [List.length_append,List.length_cons,List.length_nil]
 rw [show 3-s3.length=(3-(s3.length+(0+1)))+1 by omega,Int.pow_succ]at i2
 exact Int.ediv_lt_of_lt_mul za i2
theorem kg(l:List Int)(hl:l.length<=1000):Ok (jo l) (fun r=>r=true->l.length<=64):=by
 have hc:Ok (cq l) (fun _=>True):=by
  unfold cq eF
  refine Ok.bind (P:=fun _=>True) ?_ (fun o _=>Ok.ret trivial)
  refine Ok.bind (P:=fun _=>True) (Ok.upto l.length za (fun _=>True) trivial (fun i h0 h1 _=>?_)) (fun o _=>by rcases o with _|_<;>exact Ok.ret trivial)
  unfold fP lM
  refine Ok.pL (fun hlt=>?_) (fun _=>Ok.st trivial)
  refine Ok.bind (Ok.get za za) (fun a ha=>?_)
  refine Ok.bind (P:=fun _=>True) (Ok.pL (fun _=>Ok.ret trivial) (fun _=>Ok.ret trivial)) (fun b _=>?_)
  rw [w64 za za]
  exact Ok.yJ (fun _=>Ok.st trivial) (fun _=>Ok.nx ⟨⟨za,za⟩,trivial⟩ za)
 unfold jo
 refine Ok.pL (fun _=>Ok.ret sm) (fun hle=>Ok.pL (fun hgt=>?_) (fun _=>?_))
 ·rw [w64 za za]
  refine Ok.bind (Ok.get za za) (fun a _=>Ok.rF (fun _=>Ok.ret sm) (fun _=>?_))
  exact Ok.bind hc (fun _ _=>Ok.ret fun _=>za)
 ·exact Ok.bind hc (fun _ _=>Ok.ret fun _=>za)
theorem digit_ok{l:List Int}{i:Int}(h:0<=i):Ok (lC l i) (fun _=>True):=by
 unfold lC
 refine Ok.pL (fun _=>Ok.ret trivial) (fun hlt=>?_)
 exact Ok.bind (Ok.get h za) (fun _ _=>Ok.ret trivial)
theorem trim_ok{l:List Int}(hl:l.length<=1000):Ok (nV l) (fun r=>r.length<=l.length):=by
 unfold nV
 refine Ok.bind (P:=fun o:List Int=>o.length<=l.length) (Ok.loop (fun s:List Int=>s.length<=l.length) (fun s=>s.length) ?_ (Nat.le_refl _)) (fun o ho=>Ok.ret ho)
 intro s i0
 unfold nat_trim_l8
 refine Ok.pL (fun hgt=>?_) (fun _=>Ok.st i0)
 rw [w64 za za]
 refine Ok.bind (Ok.get za za) (fun a _=>Ok.rF (fun _=>?_) (fun _=>Ok.st i0))
 refine Ok.bind (Ok.cut za za za) (fun y hy=>?_)
 subst hy
 have:((s.drop (0:Int).toNat).take (((s.length:Int)-1).toNat-(0:Int).toNat)).length=s.length-1:=by
  simp only [List.length_take,List.length_drop];omega
 exact Ok.nx (by rw [this];omega) (by rw [this];omega)
theorem m5{l:List Int}(hl:l.length<=1000):Ok (gW l) (fun r=>r.1.length<=64):=by
 unfold gW
 refine Ok.bind (trim_ok hl) (fun x hx=>Ok.pL (fun _=>Ok.ret sm) (fun _=>Ok.ret zc))
theorem nT{a b:List Int}(ha:a.length<=64)(hb:b.length<=64):Ok (iw a b) (fun r=>r.length<=128):=by
 unfold iw
 rw [w64 za za]
 refine Ok.bind (Ok.mk za za za) (fun x hx=>?_)
 have hxl:x.length=a.length+b.length:=by subst hx;simp;omega
 refine Ok.bind (P:=fun o:List Int=>o.length=a.length+b.length) (Ok.loop (fun s:Int×List Int=>(0<=s.1∧s.1<=a.length)∧s.2.length=a.length+b.length) (fun s=>((a.length:Int)-s.1).toNat) ?_ ⟨⟨sm,sm⟩,hxl⟩) (fun o ho=>?_)
 ·rintro⟨s2,s3⟩ ⟨⟨i0,i1⟩,i2⟩
  simp only at i0 i1 i2
  unfold mN
  refine Ok.pL (fun hlt=>?_) (fun _=>Ok.st i2)
  refine Ok.bind (Ok.get za za) (fun y _=>?_)
  refine Ok.bind (P:=fun o:Int×List Int=>o.1=s2∧o.2.length=a.length+b.length) (Ok.loop (fun s:Int×Int×List Int=>(0<=s.2.1∧s.2.1<=(b.length:Int)+1)∧s.2.2.length=a.length+b.length) (fun s=>((b.length:Int)+1-s.2.1).toNat) ?_ ⟨⟨sm,zc⟩,i2⟩) (fun o ho=>?_)
  ·rintro⟨s8,s9,s10⟩ ⟨⟨j0,j1⟩,j2⟩
   simp only at j0 j1 j2
   unfold mK
   dsimp only
   rw [w64 (n:=(b.length:Int)+1) za za]
   refine Ok.pL (fun hlt=>?_) (fun _=>Ok.st ⟨rfl,j2⟩)
   rw [w64 (n:=s2+s9) za za,w64 (n:=s9+1) za za]
   refine Ok.pL (fun hlt2=>?_) (fun _=>Ok.nx ⟨⟨zc,zc⟩,j2⟩ zc)
   refine Ok.bind (Ok.rz za za) (fun _ _=>Ok.bind (Ok.get za za) (fun x18 _=>?_))
   refine Ok.bind (digit_ok j0) (fun x19 _=>?_)
   refine Ok.bind (Ok.rem za) (fun x20 _=>?_)
   refine Ok.bind (Ok.rz za za) (fun _ _=>Ok.bind (Ok.set za za) (fun x23 h23=>?_))
   subst h23
   exact Ok.nx ⟨⟨zc,zc⟩,by simpa using j2⟩ zc
  ·obtain⟨h1,h2⟩:=ho
   rw [h1,w64 za za]
   exact Ok.nx ⟨⟨zc,zc⟩,h2⟩ zc
 ·refine Ok.bind (trim_ok za) (fun r hr=>Ok.ret za)
theorem mul_ok{a b:List Int}(ha:a.length<=64)(hb:b.length<=64):Ok (nat_Mul a b) (fun r=>r.1.length<=64):=by
 unfold nat_Mul nU
 refine Ok.bind (P:=fun _=>True) (Ok.bind (kg a za) (fun x _=>Ok.yJ (fun _=>Ok.bind (kg b za) (fun _ _=>Ok.ret trivial)) (fun _=>Ok.ret trivial))) (fun x _=>?_)
 refine Ok.vg (fun _=>Ok.ret sm) (fun _=>?_)
 exact Ok.bind (nT ha hb) (fun y hy=>Ok.bind (m5 za) (fun z hz=>Ok.ret hz))
theorem add_ok'{a b:List Int}(ha:a.length<=64)(hb:b.length<=64):Ok (nat_Add a b) (fun r=>r.1.length<=64):=by
 unfold nat_Add nU
 refine Ok.bind (P:=fun _=>True) (Ok.bind (kg a za) (fun x _=>Ok.yJ (fun _=>Ok.bind (kg b za) (fun _ _=>Ok.ret trivial)) (fun _=>Ok.ret trivial))) (fun x _=>?_)
 refine Ok.vg (fun _=>Ok.ret sm) (fun _=>?_)
 have hm:∃m:Int,(if(b.length:Int)>(a.length:Int)then(b.length:Int)else(a.length:Int))=m∧0<=m∧m<=64:=⟨_,rfl,by split<;>omega,by split<;>omega⟩
 obtain⟨m,em,m0,m1⟩:=hm
 refine Ok.bind (P:=fun o:List Int=>o.length<=65) (Ok.loop (fun s:Int×Int×List Int=>(0<=s.2.1∧s.2.1<=m+1)∧s.2.2.length=s.2.1.toNat) (fun s=>(m+1-s.2.1).toNat) ?_ ⟨⟨sm,zc⟩,rfl⟩) (fun o ho=>Ok.bind (m5 za) (fun z hz=>Ok.ret hz))
 rintro⟨s3,s4,s5⟩ ⟨⟨i0,i1⟩,i2⟩
 simp only at i0 i1 i2
 unfold nat_Add_l13
 dsimp only
 rw [em,w64 (n:=m+1) za za]
 refine Ok.pL (fun hlt=>?_) (fun _=>Ok.st za)
 refine Ok.bind (digit_ok i0) (fun x9 _=>Ok.bind (digit_ok i0) (fun x10 _=>?_))
 refine Ok.bind (Ok.rem za) (fun x11 _=>?_)
 refine Ok.bind (Ok.app (by simp only [List.length_cons,List.length_nil];omega)) (fun y hy=>?_)
 subst hy
 rw [w64 (n:=s4+1) za za]
 exact Ok.nx ⟨⟨zc,zc⟩,by simp only [List.length_append,List.length_cons,List.length_nil];omega⟩ zc
def I64(a:Int):Prop:= -9223372036854775808<=a∧a<=9223372036854775807
theorem n7(a:Int):I64 (IntKind.wrap .i64 a):=by
 unfold I64;rw [IntKind.wrap_i64];omega
theorem lD{a:Int}(h:I64 a):Ok (c8 a) (fun r=>r.length<=64):=by
 unfold c8
 have h0:=n7 (0-a)
 unfold I64 at h h0
 refine Ok.bind (from_ok (by split<;>omega)) (fun x hx=>?_)
 exact Ok.bind (mul_ok za za) (fun y hy=>Ok.ret hy)
theorem squared_ok{a:aT}{n d:Int}:Ok (fH a n d) (fun r=>r.length<=64):=by
 unfold fH
 refine Ok.bind (lD (n7 _)) (fun x hx=>Ok.bind (lD (n7 _)) (fun y hy=>?_))
 exact Ok.bind (add_ok' hx hy) (fun z hz=>Ok.ret hz)
theorem sum_okR(l:List Int)(hl:l.length<=1000):Ok (ef l) I64:=by
 unfold ef
 refine Ok.bind (P:=I64) (Ok.loop (fun s:Int×Int=>(0<=s.2∧s.2<=l.length)∧I64 s.1) (fun s=>((l.length:Int)-s.2).toNat) ?_ ⟨⟨sm,sm⟩,by unfold I64;simp⟩) (fun o ho=>Ok.ret ho)
 rintro⟨s1,s2⟩ ⟨⟨i0,i1⟩,i2⟩
 simp only at i0 i1 i2
 unfold nr
 refine Ok.pL (fun hlt=>?_) (fun _=>Ok.st i2)
 refine Ok.bind (Ok.get za za) (fun a _=>?_)
 rw [w64 (n:=s2+1) za za]
 exact Ok.nx ⟨⟨zc,zc⟩,n7 _⟩ zc
structure StN(x:aB):Prop where
 num:I64 x.bK.a0
 den:I64 x.bC.a0
 taps:x.eC.length<=3
 shift:0<=x.dm
theorem valid_N{x:aB}(h:lg x):StN x:=by
 obtain⟨-, -,h1,h2,h3,h4⟩:=h
 exact⟨by unfold I64;omega,by unfold I64;omega,h1,h2⟩
theorem gain_okN{x:aB}(h:StN x)(n d:Int):Ok (kC x n d) (fun r=>r.1.bK.length<=64∧r.1.bC.length<=64):=by
 unfold kC
 refine Ok.rF (fun _=>Ok.bind (lD h.num) (fun a ha=>Ok.bind (lD h.den) (fun b hb=>Ok.ret ⟨ha,hb⟩))) (fun _=>?_)
 refine Ok.rF (fun _=>Ok.bind squared_ok (fun a ha=>Ok.bind squared_ok (fun b hb=>Ok.ret ⟨ha,hb⟩))) (fun _=>?_)
 refine Ok.bind (sum_okR _ (by have:=h.taps;omega)) (fun a ha=>Ok.bind (lD ha) (fun b hb=>?_))
 have hs:=h.shift
 have e:xD .i64 1 x.dm=some (shlI .i64 1 x.dm):=by unfold xD;rw [if_neg za]
 rw [e,zd]
 exact Ok.bind (lD (n7 _)) (fun c hc=>Ok.ret ⟨hb,hc⟩)
theorem times_ok{a b:aJ}(h1:a.bK.length<=64)(h2:a.bC.length<=64)(h3:b.bK.length<=64)(h4:b.bC.length<=64):Ok (od a b) (fun r=>r.1.bK.length<=64∧r.1.bC.length<=64):=by
 have hv:∀f:aJ,f.bK.length<=64->f.bC.length<=64->Ok (e9 f) (fun _=>True):=fun f a b=>by
  unfold e9
  exact Ok.bind (kg _ za) (fun _ _=>Ok.yJ (fun _=>Ok.bind (kg _ za) (fun _ _=>Ok.yJ (fun _=>Ok.ret trivial) (fun _=>Ok.ret trivial))) (fun _=>Ok.ret trivial))
 unfold od
 refine Ok.bind (hv a h1 h2) (fun _ _=>Ok.vg (fun _=>Ok.ret sm) (fun _=>Ok.bind (hv b h3 h4) (fun _ _=>Ok.vg (fun _=>Ok.ret sm) (fun _=>?_))))
 refine Ok.bind (nT h1 h3) (fun x hx=>Ok.bind (m5 za) (fun y hy=>?_))
 refine Ok.bind (nT h2 h4) (fun z hz=>Ok.bind (m5 za) (fun w hw=>?_))
 exact Ok.qP (fun _=>Ok.ret sm) (fun _=>Ok.qP (fun _=>Ok.ret sm) (fun _=>Ok.ret ⟨hy,hw⟩))
theorem Gain_ok{r:aP}(h:mQ r)(n d:Int):Ok (kA r n d) (fun x=>x.1.bK.length<=64∧x.1.bC.length<=64):=by
 have hin:∀a b c:Int,Ok (bZ a b c) (fun _=>True):=fun a b c=>by
  unfold bZ;exact Ok.pL (fun _=>Ok.ret trivial) (fun _=>Ok.ret trivial)
 have hl:=h.1
 unfold kA
 rw [resp_valid h,zd,if_neg sm]
 refine Ok.bind (hin _ _ _) (fun _ _=>Ok.vg (fun _=>Ok.ret sm) (fun _=>Ok.bind (hin _ _ _) (fun _ _=>Ok.vg (fun _=>Ok.ret sm) (fun _=>?_))))
 refine Ok.bind (P:=fun o=>match o with| .inl y=>y.1.length<=64∧y.2.length<=64| .inr y=>y.1.bK.length<=64∧y.1.bC.length<=64) (Ok.loop (fun s:Int×List Int×List Int=>(0<=s.1∧s.1<=r.bw.length)∧s.2.1.length<=64∧s.2.2.length<=64) (fun s=>((r.bw.length:Int)-s.1).toNat) ?_ ⟨⟨sm,sm⟩,sm,sm⟩) (fun o ho=>by rcases o with y|y<;>exact Ok.ret ho)
 rintro⟨s1,s2,s3⟩ ⟨⟨i0,i1⟩,i2,i3⟩
 simp only at i0 i1 i2 i3
 unfold l9
 refine Ok.pL (fun hlt=>?_) (fun _=>Ok.st ⟨i2,i3⟩)
 refine Ok.bind (Ok.get za za) (fun x hx=>?_)
 refine Ok.bind (gain_okN (valid_N (h.2 x hx.1)) n d) (fun y hy=>Ok.vg (fun _=>Ok.st sm) (fun _=>?_))
 refine Ok.bind (times_ok i2 i3 hy.1 hy.2) (fun z hz=>Ok.qP (fun _=>Ok.st sm) (fun _=>?_))
 rw [w64 za za]
 exact Ok.nx ⟨⟨zc,zc⟩,hz⟩ zc
theorem byte8(s:List UInt8)(h:s.all (fun b=>decide (b.toNat<=8))=true){n:Int}(h0:0<=n)(h1:n<s.length):Ok (vB s n) (fun c=>0<=c∧c<=8):=by
 refine(Ok.byte h0 h1).mono fun c⟨b,hb,hc⟩=>?_
 have:=List.all_eq_true.1 h b (List.mem_of_getElem? hb)
 simp only [decide_eq_true_eq]at this
 omega
theorem shr16{n:Int}(h0:0<=n):p9 .u64 n 16=n / 65536:=by
 show n.fdiv (2 ^ (min (16:Int).toNat 64))=n / 65536
 rw [Int.fdiv_eq_ediv_of_nonneg _ (by decide)]
 rfl
theorem shr32{n:Int}(h0:0<=n):p9 .u64 n 32=n / 4294967296:=by
 show n.fdiv (2 ^ (min (32:Int).toNat 64))=n / 4294967296
 rw [Int.fdiv_eq_ediv_of_nonneg _ (by decide)]
 rfl
theorem wU8{n:Int}(h:0<=n∧n<256):IntKind.wrap .u8 n=n:=IntWalk.u8_in _ za
theorem len8_ok{n m:Int}(hn:0<=n∧n<65536)(hm:0<=m∧m<=48):Ok (gw n m) (fun r=>0<=r∧r<=m+16):=by
 unfold gw
 refine Ok.pL (fun h=>?_) (fun h=>?_)
 ·rw [shr8 hn.1,wU8 za]
  refine Ok.bind (byte8 _ (by decide+kernel) za so) (fun c hc=>?_)
  rw [w64 (n:=m+8) za za,w64 (n:=c) za za,w64 za za]
  exact Ok.ret ⟨za,za⟩
 ·rw [wU8 za]
  refine Ok.bind (byte8 _ (by decide+kernel) za so) (fun c hc=>?_)
  rw [w64 (n:=c) za za,w64 za za]
  exact Ok.ret ⟨za,za⟩
theorem bits_ok{n:Int}(h:0<=n∧n<18446744073709551616):Ok (fu n) (fun r=>0<=r∧r<=64):=by
 have k10:∀{n m:Int},0<=n∧n<4294967296->0<=m∧m<=32->Ok (fw n m) (fun r=>0<=r∧r<=m+32):=fun{n m}hn hm=>by
  unfold fw
  refine Ok.pL (fun h=>?_) (fun h=>?_)
  ·rw [shr16 hn.1,w64 za za]
   exact(len8_ok za za).mono fun r hr=>by omega
  ·exact(len8_ok za za).mono fun r hr=>by omega
 unfold fu lE
 refine Ok.bind (P:=fun r=>0<=r∧r<=64) (Ok.pL (fun h=>?_) (fun h=>?_)) (fun r hr=>Ok.ret hr)
 ·rw [shr32 za]
  exact(k10 za za).mono fun r hr=>by omega
 ·exact(k10 za za).mono fun r hr=>by omega
theorem u64_range(n:Int):0<=IntKind.wrap .u64 n∧IntKind.wrap .u64 n<18446744073709551616:=by
 simp [IntKind.wrap,IntKind.bits,IntKind.signed];omega
theorem dig17{c m d:Int}(hc: -1<=c∧c<=63)(hd:0<=d∧d<=255):Ok (dJ c m d) (fun r=> -256<=r∧r<=16400):=by
 unfold dJ
 rw [w64 (n:=256*c) za za,w64 za za]
 exact Ok.ret ⟨za,za⟩
theorem dig20{c m d:Int}(hc: -1<=c∧c<=63)(hd:0<=d∧d<=127):Ok (dK c m d) (fun r=> -256<=r∧r<=16400):=by
 unfold dK
 rw [w64 (n:=d*2) za za,w64 (n:=d*2+1) za za]
 exact Ok.pL (fun _=>Ok.bind (Ok.quo za) (fun _ _=>dig17 hc za)) (fun _=>dig17 hc za)
theorem dig23{c m d:Int}(hc: -1<=c∧c<=63)(hd:0<=d∧d<=63):Ok (dL c m d) (fun r=> -256<=r∧r<=16400):=by
 unfold dL
 rw [w64 (n:=d*2) za za,w64 (n:=d*2+1) za za]
 exact Ok.pL (fun _=>Ok.bind (Ok.quo za) (fun _ _=>dig20 hc za)) (fun _=>dig20 hc za)
theorem dig26{c m d:Int}(hc: -1<=c∧c<=63)(hd:0<=d∧d<=31):Ok (dM c m d) (fun r=> -256<=r∧r<=16400):=by
 unfold dM
 rw [w64 (n:=d*2) za za,w64 (n:=d*2+1) za za]
 exact Ok.pL (fun _=>Ok.bind (Ok.quo za) (fun _ _=>dig23 hc za)) (fun _=>dig23 hc za)
theorem dig29{c m d:Int}(hc: -1<=c∧c<=63)(hd:0<=d∧d<=15):Ok (dN c m d) (fun r=> -256<=r∧r<=16400):=by
 unfold dN
 rw [w64 (n:=d*2) za za,w64 (n:=d*2+1) za za]
 exact Ok.pL (fun _=>Ok.bind (Ok.quo za) (fun _ _=>dig26 hc za)) (fun _=>dig26 hc za)
theorem dig32{c m d:Int}(hc: -1<=c∧c<=63)(hd:0<=d∧d<=7):Ok (dO c m d) (fun r=> -256<=r∧r<=16400):=by
 unfold dO
 rw [w64 (n:=d*2) za za,w64 (n:=d*2+1) za za]
 exact Ok.pL (fun _=>Ok.bind (Ok.quo za) (fun _ _=>dig29 hc za)) (fun _=>dig29 hc za)
theorem dig35{c m d:Int}(hc: -1<=c∧c<=63)(hd:0<=d∧d<=3):Ok (dP c m d) (fun r=> -256<=r∧r<=16400):=by
 unfold dP
 rw [w64 (n:=d*2) za za,w64 (n:=d*2+1) za za]
 exact Ok.pL (fun _=>Ok.bind (Ok.quo za) (fun _ _=>dig32 hc za)) (fun _=>dig32 hc za)
theorem dig38{c m d:Int}(hc: -1<=c∧c<=63)(hd:0<=d∧d<=1):Ok (dQ c m d) (fun r=> -256<=r∧r<=16400):=by
 unfold dQ
 rw [w64 (n:=d*2) za za,w64 (n:=d*2+1) za za]
 exact Ok.pL (fun _=>Ok.bind (Ok.quo za) (fun _ _=>dig35 hc za)) (fun _=>dig35 hc za)
theorem digits_ok{c m:Int}(hc: -1<=c∧c<=63):Ok (fD c m) (fun r=> -256<=r∧r<=16400):=by
 unfold fD
 exact Ok.pL (fun _=>Ok.bind (Ok.quo za) (fun _ _=>dig38 hc za)) (fun _=>dig38 hc za)
theorem log_ok(n:Int):Ok (gy n) (fun r=> -256<=r.1∧r.1<=16400):=by
 unfold gy
 refine Ok.pL (fun _=>Ok.ret ⟨sm,sm⟩) (fun _=>?_)
 refine Ok.bind (bits_ok (u64_range n)) (fun L hL=>?_)
 rw [w64 (n:=L-1) za za]
 refine Ok.pL (fun h=>?_) (fun h=>?_)
 ·rw [w64 za za]
  have e:xD .i64 n (30-(L-1))=some (shlI .i64 n (30-(L-1))):=by unfold xD;rw [if_neg za]
  rw [e,zd]
  exact Ok.bind (digits_ok za) (fun r hr=>Ok.ret hr)
 ·rw [w64 za za]
  have e:shrO .i64 n (L-1-30)=some (p9 .i64 n (L-1-30)):=by unfold shrO;rw [if_neg za]
  rw [e,zd]
  exact Ok.bind (digits_ok za) (fun r hr=>Ok.ret hr)
theorem logNat_ok{l:List Int}(hl:l.length<=64):Ok (fC l) (fun r=> -1000<=r.1∧r.1<=600000):=by
 unfold fC
 refine Ok.bind (kg l za) (fun v _=>Ok.vg (fun _=>Ok.ret ⟨sm,sm⟩) (fun _=>?_))
 rw [w64 (n:=(l.length:Int)-1) za za]
 refine Ok.pL (fun _=>Ok.ret ⟨sm,sm⟩) (fun h0=>Ok.rF (fun h1=>?_) (fun h1=>?_))
 ·refine Ok.bind (Ok.get za za) (fun a _=>Ok.bind (log_ok a) (fun r hr=>Ok.ret ⟨zc,zc⟩))
 ·rw [w64 (n:=(l.length:Int)-1-1) za za,w64 (n:=7680*((l.length:Int)-1-1)) za za]
  refine Ok.bind (Ok.get za za) (fun a _=>Ok.bind (Ok.get za za) (fun b _=>Ok.bind (log_ok _) (fun r hr=>?_)))
  rw [w64 za za]
  exact Ok.ret ⟨zc,zc⟩
theorem ground_ok{s:bz}{r:aP}(h:mQ r)(a:Int):Ok (iu s r a) (fun x=> -700000<=x.1∧x.1<=700000):=by
 unfold iu
 refine Ok.bind (Gain_ok h _ _) (fun g hg=>Ok.qP (fun _=>Ok.ret ⟨sm,sm⟩) (fun _=>?_))
 refine Ok.bind (logNat_ok hg.1) (fun x hx=>Ok.qP (fun _=>Ok.ret ⟨sm,sm⟩) (fun _=>?_))
 refine Ok.bind (logNat_ok hg.2) (fun y hy=>Ok.qP (fun _=>Ok.ret ⟨sm,sm⟩) (fun _=>?_))
 refine Ok.bind (log_ok a) (fun z hz=>?_)
 rw [w64 (n:=2*z.1) za za,w64 (n:=2*z.1+y.1) za za,w64 za za]
 exact Ok.ret ⟨zc,zc⟩
theorem floorL_at{l:Int}(h: -1000000<=l∧l<=1000000):gq l=some (l*30103 / 256000):=by
 unfold gq ke
 rw [if_pos so,zd]
 dsimp only
 rw [if_neg so,w64 (n:=l*30103) za za]
 have hb: -30103000000<=l*30103∧l*30103<=30103000000:=by omega
 generalize l*30103=n at*
 have e1:ru .i64 n 256000=some (IntKind.wrap .i64 (n.tdiv 256000)):=by unfold ru;rw [if_neg za]
 have e2:vL n 256000=some (n.tmod 256000):=by unfold vL;rw [if_neg za]
 rw [e1,e2,zd,zd]
 rcases Int.le_total 0 n with h0|h0
 ·rw [Int.tdiv_eq_ediv_of_nonneg h0,Int.tmod_eq_emod_of_nonneg h0,if_neg so,w64 za za]
 ·obtain⟨m,rfl⟩:∃m,n= -m:=⟨-n,za⟩
  rw [Int.neg_tdiv,Int.neg_tmod,Int.tdiv_eq_ediv_of_nonneg za,Int.tmod_eq_emod_of_nonneg za,w64 (n:= -(m / 256000)) za za,w64 za za]
  by_cases hm:m%256000=0
  ·rw [if_neg so];congr 1;omega
  ·rw [if_pos so];congr 1;omega
theorem ceilL_at{l:Int}(h: -1000000<=l∧l<=1000000):jI l=some (-(-l*30103 / 256000)):=by
 unfold jI
 rw [w64 (n:=0-l) za za,floorL_at za,zd,w64 za za]
 congr 1
 rw [show 0-l= -l by omega];omega
theorem half_at'{n:Int}:gQ n=some (n / 2):=by
 unfold gQ
 show some (n.fdiv (2 ^ (min (1:Int).toNat 64)))=_
 rw [Int.fdiv_eq_ediv_of_nonneg _ (by decide)]
 rfl
theorem scale_valid{s:aq}(h:iZ s):cB s.eB=some true:=by
 have h1:=h.num;have h2:=h.den
 refine Ok.eq ?_
 unfold cB
 rw [fO h.cor,zd,if_pos sm]
 exact Ok.pL (fun _=>Ok.pL (fun _=>Ok.pL (fun _=>Ok.ret so) (fun _=>za)) (fun _=>za)) (fun _=>za)
theorem station_ok{s:aq}(hs:iZ s){r:aP}(hr:mQ r)(a:Int){n f:Int}(h0:0<=n)(hnf:n<=f)(hf:f<=65535):Ok (e7 s.eB r a n f) (fun x=>x.2=0->x.1.aI<=x.1.aC):=by
 unfold e7
 rw [scale_valid hs,zd,if_neg sm]
 refine Ok.pL (fun _=>Ok.ret sm) (fun _=>Ok.pL (fun _=>Ok.ret sm) (fun _=>?_))
 refine Ok.bind (ground_ok hr a) (fun x hx=>Ok.qP (fun h=>Ok.ret sm) (fun _=>?_))
 refine Ok.bind (mT hs.cor n f h0 hnf hf) (fun y hy=>Ok.qP (fun h=>Ok.ret sm) (fun h=>?_))
 obtain⟨y0,y1,y2⟩:=hy.2 h
 rw [w64 (n:=x.1-2) za za,w64 (n:=0-x.1) za za,w64 (n:=0-x.1-6) za za]
 rw [half_at',zd,floorL_at za,zd,half_at',zd,w64 (n:=0-(0-x.1-6) / 2) za za,ceilL_at za,zd]
 refine Ok.ret fun _=>?_
 simp only
 rw [w64 za za,w64 za za]
 omega
end Go.Dw.Ed
set_option maxRecDepth 100000
set_option maxHeartbeats 4000000
namespace Go.Dw.Ed
open Go.Dw Go.Proofs
theorem or_some(l:List Int)(hl:l.length<1000):∃r,cA l=some r:=by
 unfold cA
 have:=Sd.or_go (l:=l) (n:=0) (r:=l) hl za sm
 rw [show((0:Int))=((0:Nat):Int)from rfl,this]
 cases l.find? fun x=>decide (x≠0)<;>exact⟨_,rfl⟩
structure PV(q:ag):Prop where
 box:fi q.aK
 reg:ek 20 q.aK.aI
 tab:nC q.bc
 len:1<=q.aX.length∧q.aX.length<=64
 cap:1<=q.cU∧q.cU<=1000
 ph:∀a∈q.aX,PhV a∧Reach q.bc (mD q.aK a.aQ)
theorem sub_zone{q:ag}(hq:PV q){b:ah}(h:Sub q.aK b){a:al}(ha:a∈q.aX):Ok (dj q.bc b a) (fun r=>r.2=0∧dY r.1):=by
 obtain⟨hv,hr⟩:=hq.ph a ha
 refine(pG hq.tab (h.ok hq.box hq.reg) hv).mono fun r hr'=>?_
 have:r.2=0:=hr'.1.2 (Int.le_trans (far_mono h _) hr)
 exact⟨this,hr'.2 this⟩
theorem mg{q:ag}(hq:PV q):gr q=some 0:=by
 have hl:=hq.len;have hc:=hq.cap
 refine Ok.eq ?_
 unfold gr
 rw [dq hq.box,zd,if_neg sm,fO hq.tab,zd,if_neg sm]
 refine Ok.rF (fun h=>za) (fun _=>Ok.pL (fun h=>za) (fun _=>Ok.pL (fun h=>za) (fun _=>Ok.pL (fun h=>za) (fun _=>?_))))
 refine Ok.bind (P:=fun o=>o= .inl ()) (Ok.upto q.aX.length za (fun _=>True) trivial (fun i h0 h1 _=>?_)) (fun o ho=>by subst ho;exact Ok.ret rfl)
 unfold k9
 refine Ok.pL (fun hlt=>?_) (fun _=>Ok.st rfl)
 refine Ok.bind (Ok.get za za) (fun a ha=>?_)
 refine Ok.bind (sub_zone hq (Sub.refl hq.box) ha.1) (fun z hz=>?_)
 refine Ok.qP (fun h=>(h hz.1).elim) (fun _=>?_)
 rw [w64 za za]
 exact Ok.nx ⟨⟨za,za⟩,trivial⟩ za
theorem zones_ok{q:ag}(hq:PV q){b:ah}(h:Sub q.aK b):Ok (e8 q b) (fun r=>r.2=0∧r.1.length=q.aX.length∧∀z∈r.1,dY z):=by
 have hl:=hq.len
 unfold e8
 rw [mg hq,zd,if_neg sm,within_at hq.box hq.reg h,zd,if_neg sm]
 refine Ok.bind ?_ (fun r hr=>Ok.ret hr)
 unfold lq
 refine Ok.bind (Ok.mkC za za za za) (fun x hx=>?_)
 subst hx
 refine Ok.bind (P:=fun o=>∃l,o= .inl l∧l.length=q.aX.length∧∀z∈l,dY z) (Ok.loop (fun s:Int×List aF=>(0<=s.1∧s.1<=q.aX.length)∧s.2.length=s.1.toNat∧∀z∈s.2,dY z) (fun s=>((q.aX.length:Int)-s.1).toNat) ?_ ⟨⟨sm,sm⟩,sm,sm⟩) (fun o⟨l,ho,h1,h2⟩=>by subst ho;exact Ok.ret ⟨rfl,h1,h2⟩)
 rintro⟨s2,s3⟩ ⟨⟨i0,i1⟩,i2,i3⟩
 simp only at i0 i1 i2 i3
 unfold kf
 refine Ok.pL (fun hlt=>?_) (fun _=>Ok.st ⟨s3,rfl,za,i3⟩)
 refine Ok.bind (Ok.get za za) (fun a ha=>?_)
 refine Ok.bind (sub_zone hq h ha.1) (fun z hz=>?_)
 refine Ok.qP (fun h=>(h hz.1).elim) (fun _=>?_)
 refine Ok.bind (Ok.app (by simp only [List.length_cons,List.length_nil];omega)) (fun y hy=>?_)
 subst hy
 rw [w64 za za]
 refine Ok.nx ⟨⟨zc,zc⟩,by simp only [List.length_append,List.length_cons,List.length_nil];omega,fun z' hz'=>?_⟩ zc
 rcases List.mem_append.1 hz' with h|h
 ·exact i3 z' h
 ·rw [List.mem_singleton.1 h];exact hz.2
theorem cost_ok{q:ag}(hq:PV q)(l:List aF)(t:Int):Ok (gT q l t) (fun r=>(∀z∈l,dY z∧z.bj<=t∧t<=z.fTo)->r=0):=by
 have hl:=hq.len;have hc:=hq.cap
 unfold gT
 refine Ok.bind (P:=fun o=>(∀z∈l,dY z∧z.bj<=t∧t<=z.fTo)->o=0) (Ok.loop (fun s:Int×Int=>(0<=s.2∧s.2<=q.aX.length)∧((∀z∈l,dY z∧z.bj<=t∧t<=z.fTo)->s.1=0)) (fun s=>((q.aX.length:Int)-s.2).toNat) ?_ ⟨⟨sm,sm⟩,fun _=>rfl⟩) (fun o ho=>Ok.ret ho)
 rintro⟨s1,s2⟩ ⟨⟨i0,i1⟩,i2⟩
 simp only at i0 i1 i2
 unfold kR
 refine Ok.pL (fun hlt=>?_) (fun _=>Ok.st i2)
 refine Ok.bind (Ok.get za za) (fun a ha=>?_)
 refine Ok.pL (fun hlz=>?_) (fun _=>?_)
 ·refine Ok.bind (Ok.get za za) (fun z hz=>?_)
  unfold eR
  rw [zd,w64 (n:=s2+1) za za]
  refine Ok.nx ⟨⟨zc,zc⟩,fun hall=>?_⟩ zc
  obtain⟨⟨z1,z2,z3⟩,z4,z5⟩:=hall z hz.1
  have i2:=i2 hall
  simp only
  rw [w64 (n:=t-z.fTo) za za,w64 (n:=z.bj-t) za za]
  have e:(if(0:Int)>(if t-z.fTo>z.bj-t then t-z.fTo else z.bj-t)then(0:Int)else(if t-z.fTo>z.bj-t then t-z.fTo else z.bj-t))=0:=by
   split<;>split<;>omega
  rw [e,if_pos za,i2]
  simp [w64]
 ·rw [w64 za za]
  exact Ok.nx ⟨⟨zc,zc⟩,i2⟩ zc
theorem best_ok{q:ag}(hq:PV q){l:List aF}(hl:1<=l.length∧l.length<=64):Ok (gR q l) (fun r=>(∃z,l=[z]∧dY z)->r.2=0):=by
 have hzero:∀t,(∃z∈l,t=z.bj∨t=z.fTo)->(∃z,l=[z]∧dY z)->∀z∈l,dY z∧z.bj<=t∧t<=z.fTo:=by
  rintro t ⟨y,hy,ht⟩ ⟨z,rfl,hz⟩ x hx
  rw [List.mem_singleton]at hx hy
  subst hx hy
  obtain⟨z1,z2,z3⟩:=hz
  exact⟨⟨z1,z2,z3⟩,za,za⟩
 unfold gR
 rw [w64 (n:=2*(l.length:Int)) za za]
 refine Ok.bind (Ok.mkC za za za za) (fun x hx=>?_)
 subst hx
 refine Ok.bind (P:=fun o:List Int=>o.length=2*l.length∧∀t∈o,∃z∈l,t=z.bj∨t=z.fTo) (Ok.loop (fun s:Int×List Int=>(0<=s.1∧s.1<=l.length)∧s.2.length=2*s.1.toNat∧∀t∈s.2,∃z∈l,t=z.bj∨t=z.fTo) (fun s=>((l.length:Int)-s.1).toNat) ?_ ⟨⟨sm,sm⟩,sm,sm⟩) (fun o ho=>?_)
 ·rintro⟨s2,s3⟩ ⟨⟨i0,i1⟩,i2,i3⟩
  simp only at i0 i1 i2 i3
  unfold lJ
  refine Ok.pL (fun hlt=>?_) (fun _=>Ok.st ⟨za,i3⟩)
  refine Ok.bind (Ok.get za za) (fun z hz=>?_)
  refine Ok.bind (Ok.app (by simp only [List.length_cons,List.length_nil];omega)) (fun y hy=>?_)
  subst hy
  rw [w64 za za]
  refine Ok.nx ⟨⟨zc,zc⟩,by simp only [List.length_append,List.length_cons,List.length_nil];omega,fun t ht=>?_⟩ zc
  rcases List.mem_append.1 ht with h|h
  ·exact i3 t h
  ·simp only [List.mem_cons,List.not_mem_nil,or_false]at h
   exact⟨z,hz.1,h⟩
 ·obtain⟨h1,h2⟩:=ho
  refine Ok.rF (fun h=>za) (fun _=>?_)
  refine Ok.bind (Ok.rz za za) (fun _ _=>Ok.bind (Ok.get za za) (fun x14 g14=>?_))
  refine Ok.bind (Ok.rz za za) (fun _ _=>Ok.bind (Ok.get za za) (fun x17 g17=>?_))
  refine Ok.bind (cost_ok hq l x17) (fun c hc=>?_)
  refine Ok.bind (Ok.sub za za za) (fun _ _=>?_)
  refine Ok.bind (Ok.lenv za za) (fun n hn=>?_)
  refine Ok.bind (P:=fun o=>(∃z,l=[z]∧dY z)->o.2=0) (Ok.loop (fun s:Int×Int×Int=>(0<=s.2.2∧s.2.2<=n)∧((∃z,l=[z]∧dY z)->s.2.1=0)) (fun s=>(n-s.2.2).toNat) ?_ ⟨⟨sm,zc⟩,fun h=>hc (hzero _ (h2 _ g17.1) h)⟩) (fun o ho=>Ok.ret ho)
  rintro⟨s1,s2,s3⟩ ⟨⟨i0,i1⟩,i2⟩
  simp only at i0 i1 i2
  unfold kQ
  refine Ok.pL (fun hlt=>?_) (fun _=>Ok.st i2)
  refine Ok.bind (Ok.inv za za za) (fun _ _=>?_)
  refine Ok.bind (Ok.get za za) (fun x29 g29=>?_)
  refine Ok.bind (cost_ok hq l x29) (fun c' hc'=>?_)
  rw [w64 za za]
  have hz:(∃z,l=[z]∧dY z)->c'=0:=fun h=>hc' (hzero _ (h2 _ g29.1) h)
  have A:∀(u v:Int),((∃z,l=[z]∧dY z)->v=0)->Ok (some (.next (u,v,s3+1)):Option (py (Int×Int×Int) (Int×Int))) (Ok.S (fun s:Int×Int×Int=>(0<=s.2.2∧s.2.2<=n)∧((∃z,l=[z]∧dY z)->s.2.1=0)) (fun s=>(n-s.2.2).toNat) (fun o=>(∃z,l=[z]∧dY z)->o.2=0) (s1,s2,s3)):=fun u v h=>Ok.nx ⟨⟨zc,zc⟩,h⟩ zc
  exact Ok.pL (fun _=>A _ _ hz) (fun _=>Ok.rF (fun _=>Ok.pL (fun _=>A _ _ hz) (fun _=>A _ _ i2)) (fun _=>A _ _ i2))
def Single(q:ag):Prop:=q.aX.length=1
theorem single_zone{q:ag}(h:Single q){l:List aF}(hl:l.length=q.aX.length)(hz:∀z∈l,dY z):∃z,l=[z]∧dY z:=by
 rw [h]at hl
 match l,hl with
 | [z],_=>exact⟨z,rfl,hz z sm⟩
theorem bound_ok{q:ag}(hq:PV q){b:ah}(h:Sub q.aK b):Ok (ed q b) (fun r=>r.2=0):=by
 unfold ed
 refine Ok.bind (zones_ok hq h) (fun r hr=>?_)
 refine Ok.qP (fun h=>(h hr.1).elim) (fun _=>?_)
 exact Ok.bind (best_ok hq (by rw [hr.2.1];exact hq.len)) (fun _ _=>Ok.ret rfl)
theorem at_ok{q:ag}(hq:PV q){p:aa}(h:Sub q.aK ⟨p,p⟩):Ok (gz q p) (fun r=>r.2.2=0∧(Single q->r.2.1=0)):=by
 unfold gz
 refine Ok.bind (zones_ok hq h) (fun r hr=>?_)
 refine Ok.qP (fun h=>(h hr.1).elim) (fun _=>?_)
 exact Ok.bind (best_ok hq (by rw [hr.2.1];exact hq.len)) (fun s hs=>Ok.ret ⟨rfl,fun h1=>hs (single_zone h1 hr.2.1 hr.2.2)⟩)
theorem compare_ok(a b:aa):Ok (dx a b) (fun _=>True):=by
 unfold dx
 rw [Sd.iS,zd,Sd.iS,zd,Sd.iS,zd]
 obtain⟨r,e⟩:=or_some [qU a.fX b.fX,qU a.fY b.fY,qU a.fZ b.fZ] sm
 rw [e]
 exact Ok.ret trivial
end Go.Dw.Ed
set_option maxRecDepth 100000
set_option maxHeartbeats 4000000
namespace Go.Dw.Ed
open Go.Dw Go.Proofs
abbrev Est:=az
theorem sort_okI{d:List Int}(hd:d.length<=19):Ok (sh d) (fun r=>r.length=d.length):=by
 obtain⟨r,e,hp, -⟩:=zG (l:=d) za
 exact⟨r,e,hp.length_eq⟩
theorem half_len{l:List Int}(h0:1<=l.length)(h1:l.length<=19):Ok ((ru .i64 (IntKind.wrap .i64 ((l.length:Int)-(1:Int))) (2:Int)).bind fun x12=>(inO l x12).bind fun _=>(pH l x12).bind fun x15=>some x15) (fun _=>True):=by
 rw [w64 za za]
 refine Ok.bind (Ok.quo za) (fun q hq=>?_)
 rw [Int.tdiv_eq_ediv_of_nonneg za,w64 za za]at hq
 exact Ok.bind (Ok.rz za za) (fun _ _=>Ok.bind (Ok.get za za) (fun _ _=>Ok.ret trivial))
theorem med2_ok{l:List Est}(h0:1<=l.length)(h1:l.length<=19):Ok (eJ l) (fun _=>True):=by
 unfold eJ
 refine Ok.bind (P:=fun o:List Int=>o.length=l.length) (Ok.loop (fun s:Int×List Int=>(0<=s.1∧s.1<=l.length)∧s.2.length=s.1.toNat) (fun s=>((l.length:Int)-s.1).toNat) ?_ ⟨⟨sm,sm⟩,rfl⟩) (fun o ho=>?_)
 ·rintro⟨s1,s2⟩ ⟨⟨i0,i1⟩,i2⟩
  simp only at i0 i1 i2
  unfold iM gf
  refine Ok.pL (fun hlt=>?_) (fun _=>Ok.st za)
  refine Ok.bind (Ok.get za za) (fun x _=>?_)
  rw [zd]
  refine Ok.bind (Ok.app (by simp only [List.length_cons,List.length_nil];omega)) (fun y hy=>?_)
  subst hy
  rw [w64 za za]
  exact Ok.nx ⟨⟨zc,zc⟩,by simp only [List.length_append,List.length_cons,List.length_nil];omega⟩ zc
 ·exact Ok.bind (sort_okI za) (fun r hr=>half_len za za)
theorem med3_ok{l:List Est}(h0:1<=l.length)(h1:l.length<=19):Ok (eK l) (fun _=>True):=by
 unfold eK
 refine Ok.bind (P:=fun o:List Int=>o.length=l.length) (Ok.loop (fun s:Int×List Int=>(0<=s.1∧s.1<=l.length)∧s.2.length=s.1.toNat) (fun s=>((l.length:Int)-s.1).toNat) ?_ ⟨⟨sm,sm⟩,rfl⟩) (fun o ho=>?_)
 ·rintro⟨s1,s2⟩ ⟨⟨i0,i1⟩,i2⟩
  simp only at i0 i1 i2
  unfold iN gg
  refine Ok.pL (fun hlt=>?_) (fun _=>Ok.st za)
  refine Ok.bind (Ok.get za za) (fun x _=>?_)
  rw [zd]
  refine Ok.bind (Ok.app (by simp only [List.length_cons,List.length_nil];omega)) (fun y hy=>?_)
  subst hy
  rw [w64 za za]
  exact Ok.nx ⟨⟨zc,zc⟩,by simp only [List.length_append,List.length_cons,List.length_nil];omega⟩ zc
 ·exact Ok.bind (sort_okI za) (fun r hr=>half_len za za)
theorem network_ok{l:List Est}(h0:1<=l.length)(h1:l.length<=19)(hl:∀x∈l,x.aI<=x.aC):Ok (eZ l) (fun r=>r.2=0):=by
 unfold eZ
 refine Ok.rF (fun h=>za) (fun _=>?_)
 have e:cv l=some false:=by
  unfold cv dz
  rw [jm l.length (fun i hi=>?_) ?_]
  ·rfl
  ·unfold di
   rw [if_neg sm]
  ·unfold di ge
   have:=hl _ (List.getElem_mem hi)
   rw [if_pos so,pN rfl hi,zd,zd,if_neg so,w64 za za]
   simp
 rw [e,zd,if_neg sm]
 exact Ok.bind (med2_ok h0 h1) (fun a _=>Ok.bind (med3_ok h0 h1) (fun b _=>Ok.ret rfl))
structure MatV(m:aS):Prop where
 len:m.cx.length=m.db.length∧m.f7.length=m.db.length
 few:m.db.length<=19
 pos:∀a∈m.cx,ek 60 a.aQ
 resp:∀e∈m.f7,mQ e.bg
theorem estimates_ok{s:aq}(hs:iZ s){m:aS}(hm:MatV m){b:ah}(hb:fi b):Ok (cC m s b) (fun r=>r.length<=19∧∀x∈r,x.aI<=x.aC):=by
 obtain⟨⟨l1,l2⟩,l3,hp,hr⟩:=hm
 unfold cC
 refine Ok.bind (P:=fun r:List Est=>r.length<=19∧∀x∈r,x.aI<=x.aC) (Ok.loop (fun u:Int×List Est=>(0<=u.1∧u.1<=m.cx.length)∧u.2.length<=u.1.toNat∧∀x∈u.2,x.aI<=x.aC) (fun u=>((m.cx.length:Int)-u.1).toNat) ?_ ⟨⟨sm,sm⟩,sm,sm⟩) (fun r hr=>Ok.ret hr)
 rintro⟨s1,s2⟩ ⟨⟨i0,i1⟩,i2,i3⟩
 simp only at i0 i1 i2 i3
 unfold dp
 refine Ok.pL (fun hlt=>?_) (fun _=>Ok.st ⟨za,i3⟩)
 refine Ok.bind (Ok.get za za) (fun x6 g6=>Ok.bind (Ok.get za za) (fun x7 g7=>Ok.bind (Ok.get za za) (fun x8 g8=>?_)))
 obtain⟨e1,n0,n1⟩:=o0 hb (hp _ g6.1)
 obtain⟨e2,f0,f1⟩:=Far_at hb (hp _ g6.1)
 rw [e1,zd,e2,zd,w64 za za]
 refine Ok.bind (station_ok hs (hr _ g7.1) x8.a8 n0 (nW hb _) za) (fun y hy=>?_)
 refine Ok.rF (fun h=>?_) (fun _=>Ok.nx ⟨⟨zc,zc⟩,zc,i3⟩ zc)
 refine Ok.bind (Ok.app (by simp only [List.length_cons,List.length_nil];omega)) (fun z hz=>?_)
 subst hz
 refine Ok.nx ⟨⟨zc,zc⟩,by simp only [List.length_append,List.length_cons,List.length_nil];omega,fun x hx=>?_⟩ zc
 rcases List.mem_append.1 hx with h'|h'
 ·exact i3 x h'
 ·rw [List.mem_singleton.1 h'];exact hy h
theorem estimates_eq{m:aS}{e:List ar}(h:e.map (·.bg)=m.f7.map (·.bg))(s:aq)(b:ah):cC ⟨m.db,m.cx,e⟩ s b=cC m s b:=by
 unfold cC
 have:dp ⟨m.db,m.cx,e⟩ b s=dp m b s:=by
  funext u
  unfold dp
  have hl:e.length=m.f7.length:=by simpa using congrArg List.length h
  have hk:∀{β:Type}(n:Int)(k:aP->Option β),((pH e n).bind fun x=>k x.bg)=((pH m.f7 n).bind fun x=>k x.bg):=fun n k=>by
   unfold pH
   split
   ·have:=congrArg (fun l=>l[n.toNat]?) h
    simp only [List.getElem?_map]at this
    cases h1:e[n.toNat]? <;>cases h2:m.f7[n.toNat]? <;>rw [h1,h2]at this<;>simp at this
    all_goals first|rfl|simp only [zd,this]
   ·rfl
  refine ite_congr rfl (fun _=>congrArg _ (funext fun x6=>?_)) (fun _=>rfl)
  exact hk u.1 fun q=>(pH m.db u.1).bind fun x8=>(ep b x6.aQ).bind fun x9=>(f9 b x6.aQ).bind fun x10=>(e7 s.eB q x8.a8 x9 x10).bind fun x11=>if(x11.2==(0:Int))=true then((qq u.2 [x11.1] 16).bind fun x13=>(some (.next ((IntKind.wrap .i64 (u.1+(1:Int))),x13)):Option (py (Int×List Est) (List Est))))else(some (.next ((IntKind.wrap .i64 (u.1+(1:Int))),u.2)))
 rw [this]
end Go.Dw.Ed
set_option maxRecDepth 100000
set_option maxHeartbeats 4000000
namespace Go.Dw.Ed
open Go.Dw Go.Proofs
section
variable {α:Type}
def oO(lt:α->α->Bool)(x:α):List α->List α
 | []=>[x]
 |y::r=>if lt x y=true then y::oO lt x r else x::y::r
def sortF(lt:α->α->Bool)(R l:List α):List α:=l.foldl (fun a x=>oO lt x a) R
def cH(lt:α->α->Bool)(l:List α):List α:=(sortF lt [] l).reverse
theorem lB(lt:α->α->Bool)(x:α):∀R,(oO lt x R).Perm (x::R)
 | []=>List.Perm.refl _
 |y::r=>by
  unfold oO
  split
  ·exact((lB lt x r).cons y).trans (List.Perm.swap x y r)
  ·exact List.Perm.refl _
theorem sortF_perm(lt:α->α->Bool):∀l R,(sortF lt R l).Perm (l++R)
 | [],_=>List.Perm.refl _
 |x::l,R=>(sortF_perm lt l (oO lt x R)).trans (((lB lt x R).append_left l).trans List.perm_middle)
theorem b8(lt:α->α->Bool)(l:List α):(cH lt l).Perm l:=(List.reverse_perm _).trans (by simpa using sortF_perm lt l [])
theorem ff(lt:α->α->Bool)(l:List α):(cH lt l).length=l.length:=(b8 lt l).length_eq
def Lex(c:α->α->Int)(o:α->α->Prop)(a b:α):Prop:=c a b<0∨(c a b=0∧o a b)
theorem insR_lex{c:α->α->Int}(hc:Tot c){o:α->α->Prop}{x:α}:∀{R:List α},R.Pairwise (fun a b=>Lex c o b a)->(∀y∈R,o y x)->(oO (fun x y=>decide (c x y<0)) x R).Pairwise (fun a b=>Lex c o b a)
 | [],_,_=>by simp [oO]
 |y::r,h,hx=>by
  obtain⟨h1,h2⟩:=List.pairwise_cons.1 h
  unfold oO
  split
  ·rename_i hlt
   refine List.pairwise_cons.2 ⟨fun z hz=>?_,insR_lex hc h2 fun y hy=>hx y (List.mem_cons_of_mem _ hy)⟩
   rcases List.mem_cons.1 ((lB _ x r).mem_iff.1 hz)with rfl|hz
   ·exact .inl (by simpa using hlt)
   ·exact h1 z hz
  ·rename_i hlt
   have hyx:c y x<=0:=by
    have:=hc.tM x y
    simp only [decide_eq_true_eq]at hlt;omega
   refine List.pairwise_cons.2 ⟨fun z hz=>?_,h⟩
   have hzy:c z y<=0:=by
    rcases List.mem_cons.1 hz with rfl|hz
    ·have:=hc.refl z;omega
    ·rcases h1 z hz with h|h<;>omega
   have hzx:=hc.tr z y x hzy hyx
   rcases Int.lt_or_eq_of_le hzx with h|h
   ·exact .inl h
   ·exact .inr ⟨h,hx z hz⟩
theorem sortF_lex{c:α->α->Int}(hc:Tot c){o:α->α->Prop}:∀{l R:List α},R.Pairwise (fun a b=>Lex c o b a)->(∀y∈R,∀x∈l,o y x)->l.Pairwise o->(sortF (fun x y=>decide (c x y<0)) R l).Pairwise (fun a b=>Lex c o b a)
 | [],_,h,_,_=>h
 |x::l,R,h,hx,hl=>by
  obtain⟨l1,l2⟩:=List.pairwise_cons.1 hl
  refine sortF_lex hc (l:=l) (R:=oO _ x R) (insR_lex hc h fun y hy=>hx y hy x sm) (fun y hy z hz=>?_) l2
  rcases List.mem_cons.1 ((lB _ x R).mem_iff.1 hy)with rfl|hy
  ·exact l1 z hz
  ·exact hx y hy z (List.mem_cons_of_mem _ hz)
theorem sortI_lex{c:α->α->Int}(hc:Tot c){o:α->α->Prop}{l:List α}(hl:l.Pairwise o):(cH (fun x y=>decide (c x y<0)) l).Pairwise (Lex c o):=by
 unfold cH
 rw [List.pairwise_reverse]
 exact sortF_lex hc .nil (fun y hy=>by cases hy) hl
theorem sortI_le{c:α->α->Int}(hc:Tot c)(l:List α):(cH (fun x y=>decide (c x y<0)) l).Pairwise (fun a b=>c a b<=0):=by
 have:=sortI_lex hc (o:=fun _ _=>True) (l:=l) (List.pairwise_of_forall fun _ _=>trivial)
 exact this.imp fun h=>by rcases h with h|h<;>omega
theorem iQ{c:α->α->Int}(hc:Tot c):∀{r s:List α},r.Pairwise (fun x y=>c x y<0)->s.Pairwise (fun x y=>c x y<0)->(∀x,x∈r↔x∈s)->r=s
 | [],[],_,_,_=>rfl
 | [],b::s,_,_,h=>by have:=(h b).2 sm;cases this
 |a::r,[],_,_,h=>by have:=(h a).1 sm;cases this
 |a::r,b::s,h1,h2,h=>by
  obtain⟨a1,a2⟩:=List.pairwise_cons.1 h1
  obtain⟨b1,b2⟩:=List.pairwise_cons.1 h2
  have e:a=b:=by
   rcases List.mem_cons.1 ((h a).1 sm)with h3|h3
   ·exact h3
   ·rcases List.mem_cons.1 ((h b).2 sm)with h4|h4
    ·exact h4.symm
    ·have:=a1 b h4;have:=b1 a h3;have:=hc.tM a b;omega
  subst e
  congr 1
  refine iQ hc a2 b2 fun x=>⟨fun hx=>?_,fun hx=>?_⟩
  ·rcases List.mem_cons.1 ((h x).1 (List.mem_cons_of_mem _ hx))with rfl|h3
   ·have:=a1 x hx;have:=hc.refl x;omega
   ·exact h3
  ·rcases List.mem_cons.1 ((h x).2 (List.mem_cons_of_mem _ hx))with rfl|h3
   ·have:=b1 x hx;have:=hc.refl x;omega
   ·exact h3
end
noncomputable def insG31 {α β:Type} (br:α->α->Option β) (t:β->Bool) (a1 s1:Int):(Int×List α)->Option (py (Int×List α) (Int×List α)):=fun(s5,s6)=>
 if(decide (s5>a1))=true then((inO s6 s5).bind fun x12=>(pH s6 s5).bind fun x13=>(inO s6 (IntKind.wrap .i64 (s5-(1:Int)))).bind fun x15=>(pH s6 (IntKind.wrap .i64 (s5-(1:Int)))).bind fun x16=>(br x13 x16).bind fun x17=>if t x17=true then((inO s6 (IntKind.wrap .i64 (s5-(1:Int)))).bind fun x20=>(pH s6 (IntKind.wrap .i64 (s5-(1:Int)))).bind fun x21=>(inO s6 s5).bind fun x23=>(pH s6 s5).bind fun x24=>(inO s6 s5).bind fun x26=>(sb s6 s5 x21).bind fun x27=>(inO x27 (IntKind.wrap .i64 (s5-(1:Int)))).bind fun x29=>(sb x27 (IntKind.wrap .i64 (s5-(1:Int))) x24).bind fun x30=>some (.next ((IntKind.wrap .i64 (s5-(1:Int))),x30)))else(some (.stop (s1,s6))))else(some (.stop (s1,s6)))
noncomputable def oN {α β:Type} (br:α->α->Option β) (t:β->Bool) (a2 a1:Int):(Int×List α)->Option (py (Int×List α) (List α)):=fun(s1,s2)=>
 if(decide (s1<a2))=true then((oC (insG31 br t a1 s1) (s1,s2)).bind fun o32=>some (.next ((IntKind.wrap .i64 (o32.1+(1:Int))),o32.2)))else((some s2).bind fun z33=>some (.stop z33))
noncomputable def insG {α β:Type} (br:α->α->Option β) (t:β->Bool) (a1 a2:Int) (d0:List α):Option (List α):=
 (oC (oN br t a2 a1) ((IntKind.wrap .i64 (a1+(1:Int))),d0)).bind fun o35=>some o35
section
variable {α β:Type}{br:α->α->Option β}{t:β->Bool}{lt:α->α->Bool}{S:α->Prop}(hbr:∀x y,S x->S y->∃b,br x y=some b∧t b=lt x y)
include hbr
theorem insG_inner{s1:Int}{x:α}(hx:S x):∀(R B:List α),(∀y∈R,S y)->R.length+B.length<=1000->oC (insG31 br t 0 s1) ((R.length:Int),R.reverse++x::B)=some (s1,(oO lt x R).reverse++B)
 | [],B,_,_=>pK (by unfold insG31;dsimp only;rw [if_neg sm];rfl)
 |y::R,B,hR,hl=>by
  have e1:(y::R).reverse++x::B=R.reverse++y::x::B:=by simp
  have e2:R.reverse++y::x::B=(R.reverse++[y])++x::B:=by simp
  have hl':R.length+1+B.length<=1000:=by simpa using hl
  have hw:IntKind.wrap .i64 (((y::R).length:Int)-1)=(R.length:Int):=by rw [w64 sm so];simp
  have i1:inO (R.reverse++y::x::B) ((y::R).length:Int)=some ():=qy za so
  have i0:inO (R.reverse++y::x::B) (R.length:Int)=some ():=qy za so
  have g1:pH (R.reverse++y::x::B) ((y::R).length:Int)=some x:=by rw [e2];exact get1 _ _ _ sm
  have g0:pH (R.reverse++y::x::B) (R.length:Int)=some y:=get1 _ _ _ sm
  have s1':sb (R.reverse++y::x::B) ((y::R).length:Int) y=some (R.reverse++y::y::B):=by
   rw [e2,set1 _ _ _ _ sm];simp
  have i2:inO (R.reverse++y::y::B) (R.length:Int)=some ():=qy za so
  have s0:sb (R.reverse++y::y::B) (R.length:Int) x=some (R.reverse++x::y::B):=set1 _ _ _ _ sm
  obtain⟨b,hb,ht⟩:=hbr x y hx (hR y sm)
  have hbody:insG31 br t 0 s1 (((y::R).length:Int),R.reverse++y::x::B)=if lt x y=true then some (.next ((R.length:Int),R.reverse++x::y::B))else some (.stop (s1,R.reverse++y::x::B)):=by
   unfold insG31
   dsimp only
   rw [if_pos sm,hw]
   simp only [i1,i0,g1,g0,hb,s1',i2,s0,zd,ht]
  rw [e1]
  unfold oO
  split
  ·rename_i hlt
   rw [if_pos hlt]at hbody
   rw [pZ hbody,insG_inner hx R (y::B) (fun z hz=>hR z (List.mem_cons_of_mem _ hz)) so]
   simp
  ·rename_i hlt
   rw [if_neg hlt]at hbody
   rw [pK hbody]
   simp
theorem insG_outer:∀(l R:List α),(∀y∈R,S y)->(∀y∈l,S y)->R.length+l.length<=1000->∀n:Int,n=R.length+l.length->oC (oN br t n 0) ((R.length:Int),R.reverse++l)=some (sortF lt R l).reverse
 | [],R,_,_,_,n,hn=>by
  rw [List.append_nil]
  exact pK (by unfold oN;dsimp only;rw [if_neg (by simp at hn;simp [hn])];rfl)
 |x::l,R,hR,hl,hle,n,hn=>by
  have hlen:(oO lt x R).length=R.length+1:=by rw [(lB lt x R).length_eq];rfl
  have hle':R.length+(l.length+1)<=1000:=by simpa using hle
  have hbody:oN br t n 0 ((R.length:Int),R.reverse++x::l)=some (.next (((oO lt x R).length:Int),(oO lt x R).reverse++l)):=by
   unfold oN
   dsimp only
   rw [if_pos (by simp [hn];omega),insG_inner hbr (hl x sm) R l hR za,zd,w64 so so,hlen]
   simp
  rw [pZ hbody]
  refine insG_outer l (oO lt x R) (fun y hy=>?_) (fun y hy=>hl y (List.mem_cons_of_mem _ hy)) za n (by rw [hlen,hn];simp;omega)
  rcases List.mem_cons.1 ((lB lt x R).mem_iff.1 hy)with rfl|hy
  ·exact hl _ sm
  ·exact hR y hy
theorem insG_at{l:List α}(hl:∀y∈l,S y)(hn:l.length<=1000):insG br t 0 (l.length:Int) l=some (cH lt l):=by
 unfold insG
 rw [w64 za za]
 cases l with
 |nil=>rw [pK (o:=[]) (by unfold oN;dsimp only;rw [if_neg sm];rfl)];rfl
 |cons x l=>
  have h:=insG_outer hbr l [x] (by simpa using hl x sm) (fun y hy=>hl y (List.mem_cons_of_mem _ hy)) (by simp at hn⊢;omega) ((x::l).length:Int) so
  have h':oC (oN br t ((x::l).length:Int) 0) (0+1,x::l)=some (sortF lt [x] l).reverse:=h
  rw [h'];rfl
end
theorem nX:∀{r s:List Int},r.Perm s->r.Pairwise (· <= ·)->s.Pairwise (· <= ·)->r=s
 | [],s,h,_,_=>h.nil_eq
 |a::r,[],h,_,_=>h.eq_nil
 |a::r,b::s,h,h1,h2=>by
  obtain⟨a1,a2⟩:=List.pairwise_cons.1 h1
  obtain⟨b1,b2⟩:=List.pairwise_cons.1 h2
  have e:a=b:=by
   rcases List.mem_cons.1 (h.mem_iff.1 (List.mem_cons_self (a:=a) (l:=r)))with h3|h3
   ·exact h3
   ·rcases List.mem_cons.1 (h.mem_iff.2 (List.mem_cons_self (a:=b) (l:=s)))with h4|h4
    ·exact h4.symm
    ·have:=a1 b h4;have:=b1 a h3;omega
  subst e
  rw [nX ((List.perm_cons a).1 h) a2 b2]
theorem sort_int{l:List Int}(hn:l.length<=1000000):sh l=some (cH (fun x y=>decide (qU x y<0)) l):=by
 obtain⟨r,e,hp,hs⟩:=zG hn
 rw [e,nX (hp.trans (b8 _ l).symm) hs ((sortI_le re l).imp fun{x y}h=>by unfold qU at h;repeat' split at h<;>omega)]
end Go.Dw.Ed
