
import Derived.Test.YtmmgjlgoggielaaGreatEmFn
import Derived.Test.YtmmgjlgoggielaaGreatDwPlain
import Derived.Test.YtmmgjlgoggielaaGreatDwOk
import Derived.Test.YtmmgjlgoggielaaGreatEmCo
import Derived.KernelRfl

set_option maxRecDepth 100000
set_option maxHeartbeats 4000000
namespace Go.Dw.Em
namespace Sq
open Go.Dw
abbrev Src:=au
theorem byteO_at{s:List UInt8}{n:Int}{i:Nat}(hn:n=i)(hi:i<s.length):uh s n=some ((s[i].toNat:Nat):Int):=by
 subst hn
 unfold uh
 rw [if_pos ⟨za,za⟩,Int.toNat_natCast,List.getD_eq_getElem?_getD,ze hi];rfl
theorem cutO_at{α:Type}{l:List α}{a b:Int}{i j:Nat}(ha:a=i)(hb:b=j)(h1:i<=j)(h2:j<=l.length):yW l a b=some ((l.drop i).take (j-i)):=by
 subst ha hb
 unfold yW
 rw [if_pos ⟨za,za,za⟩,Int.toNat_natCast,Int.toNat_natCast]
theorem d5{α:Type}{l m:List α}{b:Nat}(h:(l.length+m.length)*b<=140737488355328):pS l m b=some (l++m):=by
 unfold pS
 rw [if_pos h]
theorem loop_list{α ω:Type}{body:Int->Option (fR Int ω)}(l:List α){p:α->Bool}{u r:ω}(h1:∀(i:Nat)(hi:i<l.length),body i=if p l[i]=true then some (.next ((i+1:Nat):Int))else some (.stop r))
  (h2:body (l.length:Nat)=some (.stop u)):dW body (0:Int)=some (if l.all p=true then u else r):=by
 have:∀k i,i+k=l.length->dW body (i:Int)=some (if(l.drop i).all p=true then u else r):=by
  intro k
  induction k with
  |zero=>
   intro i hi
   obtain rfl:i=l.length:=by omega
   rw [gI h2];simp
  |succ k ih=>
   intro i hi
   have hlt:i<l.length:=by omega
   rw [List.drop_eq_getElem_cons hlt,List.all_cons]
   by_cases hp:p l[i]=true
   ·rw [jr (by rw [h1 i hlt,if_pos hp]),ih (i+1) za,hp,Bool.true_and]
   ·rw [gI (by rw [h1 i hlt,if_neg hp])];simp [hp]
 have:=this l.length 0 za
 simpa using this
def oL(c:UInt8):Bool:=(decide (65<=c.toNat)&&decide (c.toNat<=90))||(decide (48<=c.toNat)&&decide (c.toNat<=57))
theorem dec1(n:Nat):decide ((n:Int)>=65)=decide (65<=n):=decide_eq_decide.2 za
theorem dec2(n:Nat):decide ((n:Int)<=90)=decide (n<=90):=decide_eq_decide.2 za
theorem dec3(n:Nat):decide ((n:Int)>=48)=decide (48<=n):=decide_eq_decide.2 za
theorem dec4(n:Nat):decide ((n:Int)<=57)=decide (n<=57):=decide_eq_decide.2 za
theorem plain_eq(c:UInt8):mI ((c.toNat:Nat):Int)=some (oL c):=by
 unfold mI oL
 rw [dec1,dec2,dec3,dec4]
 cases decide (65<=c.toNat)<;>cases decide (c.toNat<=90)<;>cases decide (48<=c.toNat)<;>simp
def jo(s:List UInt8)(lo hi:Int):Bool:=s.all oL&&(decide ((s.length:Int)>=lo)&&decide ((s.length:Int)<=hi))
theorem code_l7{s:List UInt8}(hs:s.length<=9223372036854775807):dW (iY s) (0:Int)=some (if s.all oL=true then .inl ()else .inr false):=by
 refine loop_list s (fun i hi=>?_) ?_
 ·unfold iY
  rw [if_pos so,byteO_at rfl hi,w64 za za]
  simp only [zd,plain_eq]
  cases oL s[i]<;>simp
 ·unfold iY
  rw [if_neg sm]
theorem code_eq{s:List UInt8}(hs:s.length<=9223372036854775807)(lo hi:Int):fU s lo hi=some (jo s lo hi):=by
 unfold fU jo
 rw [code_l7 hs]
 cases s.all oL with
 |true=>cases decide ((s.length:Int)>=lo)<;>simp
 |false=>rfl
def SidLen(x:Src):Prop:=x.ba.length<=9223372036854775807∧x.aN.length<=9223372036854775807∧x.av.length<=9223372036854775807∧x.bc.length<=9223372036854775807
def gz(x:Src):Bool:=jo x.ba 1 2&&(jo x.aN 1 5&&(jo x.av 0 2&&(decide (x.av.length≠1)&&jo x.bc 3 3)))
theorem pq{x:Src}(hx:SidLen x):fT x=some (gz x):=by
 obtain⟨h1,h2,h3,h4⟩:=hx
 unfold fT gz
 simp only [code_eq h1,code_eq h2,code_eq h3,code_eq h4,zd]
 have e:((x.av.length:Int) != 1)=decide (x.av.length≠1):=by
  by_cases h:x.av.length=1
  ·simp [h]
  ·simp [h];omega
 rw [e]
 cases jo x.ba 1 2<;>cases jo x.aN 1 5<;>cases jo x.av 0 2<;>cases decide (x.av.length≠1)<;>simp
theorem p8{s:List UInt8}{lo:Int}{hi:Nat}(h:jo s lo hi=true):s.length<=hi:=by
 unfold jo at h
 simp only [Bool.and_eq_true,decide_eq_true_eq]at h
 omega
theorem valid_len{x:Src}(h:gz x=true):x.ba.length<=2∧x.aN.length<=5∧x.av.length<=2∧x.bc.length<=3:=by
 unfold gz at h
 simp only [Bool.and_eq_true]at h
 exact⟨p8 (hi:=2) h.1,p8 (hi:=5) h.2.1,p8 (hi:=2) h.2.2.1,p8 (hi:=3) h.2.2.2.2⟩
end Sq
end Go.Dw.Em
set_option maxRecDepth 100000
set_option maxHeartbeats 4000000
namespace Go.Dw.Em
open Go.Dw
abbrev Src:=ac
abbrev Pick:=ai
abbrev Sid:=au
theorem mod_ok(a b:Int)(h0:1<=b)(h1:b<=1000000000):Ok (oc a b) (fun r=>0<=r∧r<b):=by
 unfold oc
 have hl:a.tmod b<b:=Int.tmod_lt_of_pos _ za
 have hg: -b<a.tmod b:=by
  rcases Int.le_total 0 a with h|h
  ·have:=Int.tmod_nonneg b h;omega
  ·have e:a.tmod b= -((-a).tmod b):=by rw [Int.neg_tmod];omega
   have:=Int.tmod_lt_of_pos (-a) (show 0<b by omega)
   omega
 refine Ok.gv (fun _=>za) (fun _=>?_)
 refine Ok.bind (Ok.rem za) (fun x hx=>?_)
 subst hx
 refine Ok.gv (fun _=>?_) (fun _=>?_)
 ·rw [w64 za za]
  exact Ok.ret za
 ·exact Ok.ret za
def b9(d:Src):Prop:=0<=d.fAt∧d.fAt<=d.fL.length∧d.fL.length<=2000
theorem raw_ok(d:Src)(hd:b9 d):Ok (Src_Raw d) (fun r=>b9 r.2):=by
 obtain⟨h0,h1,h2⟩:=hd
 unfold Src_Raw
 refine Ok.gv (fun _=>Ok.ret ⟨h0,h1,h2⟩) (fun h=>?_)
 rw [w64 (n:=d.fAt+1) za za,w64 za za]
 refine Ok.bind (Ok.get za za) (fun x _=>?_)
 refine Ok.ret ⟨?_,?_,h2⟩<;>simp only<;>omega
theorem d7(k:Int)(d:Src)(hd:b9 d)(h0:1<=k)(h1:k<=1000000000):Ok (dx k d) (fun r=>0<=r.1∧r.1<k∧b9 r.2):=by
 unfold dx
 refine Ok.bind (raw_ok d hd) (fun x hx=>?_)
 refine Ok.bind (mod_ok _ _ h0 h1) (fun y hy=>?_)
 exact Ok.ret ⟨hy.1,hy.2,hx⟩
theorem eI(l:List Int)(d:Src)(hd:b9 d)(h0:l≠ [])(h1:l.length<=1000000):Ok (dI l d) (fun r=>r.1∈l∧b9 r.2):=by
 unfold dI
 have:=List.length_pos_iff.2 h0
 refine Ok.bind (d7 _ d hd za za) (fun x hx=>?_)
 refine Ok.bind (Ok.get hx.1 hx.2.1) (fun y hy=>?_)
 exact Ok.ret ⟨hy.1,hx.2.2⟩
def stas:List (List UInt8):=[[83,49],[83,50],[83,51],[83,52],[83,53],[83,54]]
def IsSid(a:Sid):Prop:=Sq.gz a=true
theorem new_ok(l:List Int):Ok (kH l) b9:=by
 unfold kH
 refine Ok.bind (Ok.cut za (by split<;>omega) (by split<;>omega)) (fun x hx=>?_)
 subst hx
 refine Ok.ret ⟨sm,sm,?_⟩
 simp only [List.length_take,List.length_drop]
 split<;>omega
def eB(m:Int)(p:aa):Prop:=(-m<=p.fX∧p.fX<=m)∧(-m<=p.fY∧p.fY<=m)∧(-m<=p.fZ∧p.fZ<=m)
theorem lW(m:Int)(h0:0<=m)(h1:m<=1000)(d:Src)(hd:b9 d):Ok (kc m d) (fun r=>eB m r.1∧b9 r.2):=by
 unfold kc
 rw [w64 (n:=2*m) za za,w64 (n:=2*m+1) za za,w64 (n:=m+1) za za]
 refine Ok.bind (d7 _ _ hd za za) (fun y1 g1=>?_)
 refine Ok.bind (d7 _ _ g1.2.2 za za) (fun y2 g2=>?_)
 refine Ok.bind (d7 _ _ g2.2.2 za za) (fun y3 g3=>?_)
 rw [w64 (n:=y1.1-m) za za,w64 (n:=y2.1-m) za za]
 exact Ok.ret ⟨⟨zc,zc,zc⟩,g3.2.2⟩
def eM(b:ag):Prop:=eB 40 b.aI∧(0<=b.aC.fX-b.aI.fX∧b.aC.fX-b.aI.fX<=4)∧(0<=b.aC.fY-b.aI.fY∧b.aC.fY-b.aI.fY<=4)∧(0<=b.aC.fZ-b.aI.fZ∧b.aC.fZ-b.aI.fZ<=4)
theorem box_ok(m side:Int)(h0:0<=m)(h1:m<=40)(h2:0<=side)(h3:side<=4)(d:Src)(hd:b9 d):Ok (oq m side d) (fun r=>eM r.1∧b9 r.2):=by
 unfold oq
 rw [w64 (n:=side+1) za za]
 refine Ok.bind (lW m h0 za d hd) (fun y0 g0=>?_)
 refine Ok.bind (d7 _ _ g0.2 za za) (fun y1 g1=>?_)
 refine Ok.bind (d7 _ _ g1.2.2 za za) (fun y2 g2=>?_)
 refine Ok.bind (d7 _ _ g2.2.2 za za) (fun y3 g3=>?_)
 obtain⟨⟨p1,p2,p3⟩, -⟩:=g0
 rw [w64 (n:=y0.1.fX+y1.1) za za,w64 (n:=y0.1.fY+y2.1) za za,w64 (n:=y0.1.fZ+y3.1) za za]
 refine Ok.ret ⟨⟨⟨zc,zc,zc⟩,zc,zc,zc⟩,g3.2.2⟩
structure TabOk(t:aA):Prop where
 step:t.aZ=20∨t.aZ=25∨t.aZ=40∨t.aZ=100
 len:1<=t.aI.length∧t.aI.length<=30
 same:t.aC.length=t.aI.length
 low:∀x∈t.aI,0<=x∧x<=3000
 high:∀x∈t.aC,0<=x∧x<=5000
def ChanOk(c:aq):Prop:=c.aT.length<=3∧∀e∈c.aT,eB 60 e.aP
def InvOk(v:al):Prop:=v.aJ.length<=6∧∀c∈v.aJ,ChanOk c
theorem oh(a b:Int)(h0: -1000<=a)(h1:a<=1000)(h2:0<=b-a)(h3:b-a<=1000)(d:Src)(hd:b9 d):Ok (mK a b d) (fun r=>(a<=r.1∧r.1<=b)∧b9 r.2):=by
 unfold mK
 rw [w64 (n:=b-a) za za,w64 (n:=b-a+1) za za]
 refine Ok.bind (d7 _ _ hd za za) (fun y1 g1=>?_)
 rw [w64 (n:=a+y1.1) za za]
 exact Ok.ret ⟨⟨zc,zc⟩,g1.2.2⟩
theorem point_ok(b:ag)(hb:eM b)(d:Src)(hd:b9 d):Ok (mJ b d) (fun r=>eB 60 r.1∧b9 r.2):=by
 obtain⟨⟨p1,p2,p3⟩,q1,q2,q3⟩:=hb
 unfold mJ
 refine Ok.bind (oh _ _ za za za za d hd) (fun y1 g1=>?_)
 refine Ok.bind (oh _ _ za za za za _ g1.2) (fun y2 g2=>?_)
 refine Ok.bind (oh _ _ za za za za _ g2.2) (fun y3 g3=>?_)
 exact Ok.ret ⟨⟨zc,zc,zc⟩,g3.2⟩
def io(p:Pick):Prop:=IsSid p.aw∧0<=p.aQ∧p.aQ<=p.bn∧p.bn<=p.bw∧p.bw<=200000∧0<=p.bg∧p.bg<=1073741823∧ -1<=p.bz∧p.bz<=1
end Go.Dw.Em
set_option maxRecDepth 100000
set_option maxHeartbeats 4000000
namespace Go.Dw.Em
open Go.Dw
theorem d5{α:Type}{l m:List α}{b:Nat}(h:(l.length+m.length)*b<=140737488355328):pS l m b=some (l++m):=by
 unfold pS
 rw [if_pos h]
namespace Sd
abbrev Src:=au
theorem eq_src(a b:Src):((a.ba==b.ba)&&((a.aN==b.aN)&&((a.av==b.av)&&((a.bc==b.bc)&&true))))=decide (a=b):=by
 obtain⟨n,t,l,c⟩:=a
 obtain⟨n',t',l',c'⟩:=b
 simp only [au.mk.injEq]
 by_cases e1:n=n'<;>by_cases e2:t=t'<;>by_cases e3:l=l'<;>by_cases e4:c=c'<;>simp [e1,e2,e3,e4]
theorem cmp_str(a b:List UInt8):bW a b=some (tU a b):=by
 unfold bW gf
 simp only [beq_self_eq_true,Bool.not_true,zd,Bool.false_eq_true,if_false]
 unfold tU
 cases h:Op.bytesLess a b with
 |true=>simp
 |false=>by_cases e:a=b<;>simp [e]
theorem rK{l:List Int}{i j:Nat}(hj:j=i+1)(hi:i<l.length)(hl:l.length<1000)(h0:l[i]=0):dH l i=some (.next (j:Int)):=by
 subst hj
 unfold dH
 rw [if_pos so,gK rfl hi]
 simp only [zd,h0,w64 (n:=(i:Int)+1) za za]
 rfl
theorem rN{l:List Int}{i:Nat}(hi:i<l.length)(h0:l[i]≠0):dH l i=some (.stop (.inr l[i])):=by
 unfold dH
 rw [if_pos so,gK rfl hi]
 simp only [zd]
 rw [if_pos (by simpa using h0)]
theorem or_end{l:List Int}{n:Nat}(hn:n=l.length):dH l n=some (.stop (.inl ())):=by
 subst hn
 unfold dH
 rw [if_neg sm]
theorem or4(a b c d:Int):cM [a,b,c,d]=some (if a≠0 then a else if b≠0 then b else if c≠0 then c else d):=by
 show((dW (dH [a,b,c,d]) ((0:Nat):Int)).bind _)=_
 by_cases ha:a=0
 ·rw [jr (rK (i:=0) (j:=1) rfl sm sm (by simpa using ha)),if_neg (by simpa using ha)]
  by_cases hb:b=0
  ·rw [jr (rK (i:=1) (j:=2) rfl sm sm (by simpa using hb)),if_neg (by simpa using hb)]
   by_cases hc:c=0
   ·rw [jr (rK (i:=2) (j:=3) rfl sm sm (by simpa using hc)),if_neg (by simpa using hc)]
    by_cases hd:d=0
    ·rw [jr (rK (i:=3) (j:=4) rfl sm sm (by simpa using hd)),gI (or_end (n:=4) rfl)]
     rw [hd];rfl
    ·rw [gI (rN (i:=3) sm (by simpa using hd))];rfl
   ·rw [gI (rN (i:=2) sm (by simpa using hc)),if_pos hc];rfl
  ·rw [gI (rN (i:=1) sm (by simpa using hb)),if_pos hb];rfl
 ·rw [gI (rN (i:=0) sm (by simpa using ha)),if_pos (by simpa using ha)];rfl
def iC(a b:Src):Int:=if tU a.ba b.ba≠0 then tU a.ba b.ba else if tU a.aN b.aN≠0 then tU a.aN b.aN else if tU a.av b.av≠0 then tU a.av b.av else tU a.bc b.bc
theorem jT(a b:Src):ey a b=some (iC a b):=by
 unfold ey
 simp only [cmp_str,zd,or4]
 rfl
theorem fd:Tot iC:=(xr.map fun x:Src=>x.ba).or ((xr.map fun x:Src=>x.aN).or ((xr.map fun x:Src=>x.av).or (xr.map fun x:Src=>x.bc)))
theorem eD{a b:Src}(h:iC a b=0):a=b:=by
 unfold iC at h
 obtain⟨n,t,l,c⟩:=a
 obtain⟨n',t',l',c'⟩:=b
 simp only at h
 by_cases h1:tU n n'=0
 ·rw [if_neg (by simpa using h1)]at h
  by_cases h2:tU t t'=0
  ·rw [if_neg (by simpa using h2)]at h
   by_cases h3:tU l l'=0
   ·rw [if_neg (by simpa using h3)]at h
    rw [xL]at h h1 h2 h3
    subst h h1 h2 h3;rfl
   ·rw [if_pos h3]at h;exact(h3 h).elim
  ·rw [if_pos h2]at h;exact(h2 h).elim
 ·rw [if_pos h1]at h;exact(h1 h).elim
theorem cmpS_range(a b:Src): -1<=iC a b∧iC a b<=1:=by
 unfold iC
 repeat' split
 all_goals exact Bf _ _
instance : DecidableEq Src := fun a b => decidable_of_iff (a.ba = b.ba ∧ a.aN = b.aN ∧ a.av = b.av ∧ a.bc = b.bc) (by
 obtain⟨n,t,l,c⟩:=a
 obtain⟨n',t',l',c'⟩:=b
 simp)
theorem eqs(a b:Src):((a.ba==b.ba)&&((a.aN==b.aN)&&((a.av==b.av)&&((a.bc==b.bc)&&true))))=decide (a=b):=by
 rw [eq_src]
 exact decide_eq_decide.2 Iff.rfl
theorem kB(a b:Int):bK a b=some (sw a b):=by
 unfold bK jw sw
 simp only [bne_self_eq_false,zd,Bool.false_eq_true,if_false]
 by_cases h1:a<b
 ·rw [if_pos (decide_eq_true h1),if_pos h1]
 ·rw [if_neg (by simpa using h1),if_neg h1]
  by_cases h2:a>b
  ·rw [if_pos (decide_eq_true h2),if_pos h2]
  ·rw [if_neg (by simpa using h2),if_neg h2]
theorem or_go{l:List Int}{n:Nat}{r:List Int}(hl:l.length<1000)(hn:n<=l.length)(hr:l.drop n=r):dW (dH l) (n:Int)=some (match r.find? (fun x=>decide (x≠0))with|some x=>.inr x|none=>.inl ()):=by
 induction r generalizing n with
 |nil=>
  have:n=l.length:=by
   have:=congrArg List.length hr
   simp at this;omega
  rw [gI (or_end this)];rfl
 |cons a r ih=>
  have hlt:n<l.length:=by
   have:=congrArg List.length hr
   simp at this;omega
  have ha:l[n]=a:=by
   rw [List.drop_eq_getElem_cons hlt]at hr
   exact(List.cons.inj hr).1
  have hr':l.drop (n+1)=r:=by
   rw [List.drop_eq_getElem_cons hlt]at hr
   exact(List.cons.inj hr).2
  by_cases h0:a=0
  ·rw [jr (rK (i:=n) (j:=n+1) rfl hlt hl (by rw [ha,h0])),ih za hr']
   simp [List.find?,h0]
  ·rw [gI (rN hlt (by rw [ha];exact h0)),ha]
   simp [List.find?,h0]
theorem or6(a b c d e f:Int):cM [a,b,c,d,e,f]=some (if a≠0 then a else if b≠0 then b else if c≠0 then c else if d≠0 then d else if e≠0 then e else f):=by
 unfold cM
 have:=or_go (l:=[a,b,c,d,e,f]) (n:=0) (r:=[a,b,c,d,e,f]) sm sm rfl
 rw [show((0:Int))=((0:Nat):Int)from rfl,this]
 by_cases ha:a=0<;>by_cases hb:b=0<;>by_cases hc:c=0<;>by_cases hd:d=0<;>by_cases he:e=0<;>by_cases hf:f=0<;>simp [List.find?,ha,hb,hc,hd,he,hf]
end Sd
open Sd (iC fd eD)
def ip(a b:Pick):Int:=if iC a.aw b.aw≠0 then iC a.aw b.aw else if sw a.bn b.bn≠0 then sw a.bn b.bn else if sw a.aQ b.aQ≠0 then sw a.aQ b.aQ else if sw a.bw b.bw≠0 then sw a.bw b.bw else if sw a.bg b.bg≠0 then sw a.bg b.bg else sw a.bz b.bz
theorem jT(a b:Pick):cA a b=some (ip a b):=by
 unfold cA
 simp only [Sd.jT,Sd.kB,zd,Sd.or6]
 rfl
theorem cy:Tot ip:=(fd.map fun x:Pick=>x.aw).or ((sr.map fun x:Pick=>x.bn).or ((sr.map fun x:Pick=>x.aQ).or ((sr.map fun x:Pick=>x.bw).or ((sr.map fun x:Pick=>x.bg).or (sr.map fun x:Pick=>x.bz)))))
theorem mY{a b:Int}(h:(if a≠0 then a else b)=0):a=0∧b=0:=by
 by_cases h1:a=0
 ·rw [if_neg (by simpa using h1)]at h;exact⟨h1,h⟩
 ·rw [if_pos h1]at h;exact(h1 h).elim
theorem je{a b:Pick}(h:ip a b=0):a=b:=by
 unfold ip at h
 obtain⟨h1,h⟩:=mY h
 obtain⟨h2,h⟩:=mY h
 obtain⟨h3,h⟩:=mY h
 obtain⟨h4,h⟩:=mY h
 obtain⟨h5,h6⟩:=mY h
 rw [zJ]at h2 h3 h4 h5 h6
 have:=eD h1
 obtain⟨a1,a2,a3,a4,a5,a6⟩:=a
 obtain⟨b1,b2,b3,b4,b5,b6⟩:=b
 simp only at*
 subst this h2 h3 h4 h5 h6
 rfl
theorem lt3_eq:lt3 cA=fun x y=>decide (ip x y<0):=by
 funext x y
 unfold lt3
 rw [jT];rfl
theorem Compare_ok:CmpOk cA:=⟨fun x y=>⟨_,jT x y⟩,by rw [lt3_eq];exact cy.swo⟩
instance : DecidableEq Pick := fun a b => decidable_of_iff (a.aw = b.aw ∧ a.bn = b.bn ∧ a.aQ = b.aQ ∧ a.bw = b.bw ∧ a.bg = b.bg ∧ a.bz = b.bz) (by
 obtain⟨a1,a2,a3,a4,a5,a6⟩:=a
 obtain⟨b1,b2,b3,b4,b5,b6⟩:=b
 simp)
def eqF(a b:Pick):Bool:=((a.aw.ba==b.aw.ba)&&((a.aw.aN==b.aw.aN)&&((a.aw.av==b.aw.av)&&((a.aw.bc==b.aw.bc)&&true))))&&((a.bn==b.bn)&&((a.aQ==b.aQ)&&((a.bw==b.bw)&&((a.bg==b.bg)&&((a.bz==b.bz)&&true)))))
theorem eqs(a b:Pick):eqF a b=decide (a=b):=by
 obtain⟨a1,a2,a3,a4,a5,a6⟩:=a
 obtain⟨b1,b2,b3,b4,b5,b6⟩:=b
 unfold eqF
 simp only [Sd.eqs,ai.mk.injEq]
 by_cases e1:a1=b1<;>by_cases e2:a2=b2<;>by_cases e3:a3=b3<;>by_cases e4:a4=b4<;>by_cases e5:a5=b5<;>by_cases e6:a6=b6<;>simp [e1,e2,e3,e4,e5,e6]
theorem Compact_eq(l:List Pick):eO l=xu eqF ⟨⟨[],[],[],[]⟩,0,0,0,0,0⟩ l:=by
 have h1:gu=uB eqF:=by funext s d ⟨a,b,c⟩;rfl
 have h2:gw=tL eqF ⟨⟨[],[],[],[]⟩,0,0,0,0,0⟩:=by
  funext d s
  unfold gw tL
  rw [h1]
  rfl
 unfold eO xu
 rw [h2]
 refine ite_congr rfl (fun _=>rfl) fun _=>?_
 refine congrArg _ (funext fun o=>?_)
 rcases o with _|_<;>rfl
theorem sort_at{l:List Pick}(hl:l.length<=1000):∃m,wT cA l=some m∧m.Perm l∧m.Pairwise (fun x y=>ip x y<=0):=by
 have h2 := yw Compare_ok (fun x y h h' => by
  rw [lt3_eq]at h h'
  simp only [decide_eq_false_iff_not]at h h'
  have:=cy.uz x y
  exact je za) l za
 generalize hm:(l.mergeSort fun x y=> !lt3 cA y x)=m at h2
 refine⟨m,h2,BB h2,?_⟩
 rw [<-hm]
 refine(List.pairwise_mergeSort ?_ ?_ l).imp ?_
 ·intro a b c h h'
  rw [lt3_eq]at*
  simp only [Bool.not_eq_true',decide_eq_false_iff_not]at*
  have:=cy.tr a b c (by have:=cy.uz a b;omega) (by have:=cy.uz b c;omega)
  have:=cy.uz a c;omega
 ·intro a b
  rw [lt3_eq]
  have:=cy.uz a b
  by_cases h:ip b a<0
  ·have:¬ip a b<0:=by omega
   simp [this]
  ·simp [h]
 ·intro a b h
  rw [lt3_eq]at h
  simp only [Bool.not_eq_true',decide_eq_false_iff_not]at h
  have:=cy.uz a b;omega
theorem rp{l:List Pick}(hl:l.length<=1000):
  ∃r,dE l=some r∧r.Pairwise (fun x y=>ip x y<0)∧(∀x,x∈r↔x∈l)∧r.length<=l.length:=by
 have h1:sQ 104 l=some l:=by
  unfold sQ
  rw [if_pos za]
 obtain⟨m,h2,hp,hs⟩:=sort_at hl
 have hml:m.length=l.length:=hp.length_eq
 have h3:eO m=some (cpt m):=by
  rw [Compact_eq]
  exact Bg (fun x y=>eqs x y) za
 refine⟨cpt m,?_,vv cy (fun x y=>je) hs,fun x=>yz.trans hp.mem_iff,by have:=yU m;omega⟩
 unfold dE
 rw [h1,zd,h2,zd,h3];rfl
theorem lO:∀{r s:List Pick},r.Pairwise (fun x y=>ip x y<0)->s.Pairwise (fun x y=>ip x y<0)->(∀x,x∈r↔x∈s)->r=s
 | [],[],_,_,_=>rfl
 | [],b::s,_,_,h=>by have:=(h b).2 sm;cases this
 |a::r,[],_,_,h=>by have:=(h a).1 sm;cases this
 |a::r,b::s,h1,h2,h=>by
  obtain⟨ha,hr⟩:=List.pairwise_cons.1 h1
  obtain⟨hb,hs⟩:=List.pairwise_cons.1 h2
  have hab:a=b:=by
   rcases List.mem_cons.1 ((h a).1 sm)with e|hm
   ·exact e
   ·rcases List.mem_cons.1 ((h b).2 sm)with e|hm'
    ·exact e.symm
    ·have h3:=hb a hm
     have h4:=ha b hm'
     have:=cy.uz a b
     omega
  subst hab
  have hn:∀{t:List Pick},(∀y∈t,ip a y<0)->a∉t:=fun h ht=>by have:=h a ht;have:=cy.refl a;omega
  have:r=s:=lO hr hs fun x=>by
   have:=h x
   simp only [List.mem_cons]at this
   constructor
   ·intro hx
    rcases this.1 (.inr hx)with e|h5
    ·subst e;exact(hn ha hx).elim
    ·exact h5
   ·intro hx
    rcases this.2 (.inr hx)with e|h5
    ·subst e;exact(hn hb hx).elim
    ·exact h5
  rw [this]
end Go.Dw.Em
set_option maxRecDepth 100000
set_option maxHeartbeats 4000000
namespace Go.Dw.Em
open Go.Dw Go.Proofs
open Sd (iC fd eD)
theorem sid_len{x:Sid}(h:Sq.gz x=true):Sq.SidLen x:=by
 obtain⟨h1,h2,h3,h4⟩:=Sq.valid_len h
 exact⟨za,za,za,za⟩
theorem o0{p:Pick}(h:io p):df p=some true:=by
 obtain⟨h0,h1,h2,h3,h4,h5,h6,h7,h8⟩:=h
 unfold df
 rw [Sq.pq (sid_len h0),h0,zd,if_pos rfl,if_pos (by simpa using h1),if_pos (by simpa using h2),if_pos (by simpa using h3),if_pos so]
 have e1:fx p.bg 0 1073741823=some true:=by unfold fx;rw [if_pos (by simpa using h5)];simpa using h6
 have e2:fx p.bz (-1) 1=some true:=by unfold fx;rw [if_pos (by simpa using h7)];simpa using h8
 rw [e1,zd,if_pos rfl,e2];rfl
def P(t:Int):Pick:=⟨⟨[65,66],[83,49],[48,48],[66,72,90]⟩,t,t,t,0,0⟩
def S1:Sid:=⟨[65,66],[83,49],[48,48],[66,72,90]⟩
theorem loop_first{α ω:Type}{body:Int->Option (fR Int (Unit⊕ω))}(l:List α){p:α->Bool}{f:Nat->α->ω}
  (h1:∀(i:Nat)(hi:i<l.length),body i=if p l[i]=true then some (.stop (.inr (f i l[i])))else some (.next ((i+1:Nat):Int)))
  (h2:body (l.length:Nat)=some (.stop (.inl ()))):
  (dW body (0:Int)=some (.inl ())∧∀x∈l,p x=false)∨
  ∃(i:Nat)(hi:i<l.length),dW body (0:Int)=some (.inr (f i l[i]))∧p l[i]=true∧∀x∈l.take i,p x=false:=by
 have:∀k i,i+k=l.length->(∀x∈l.take i,p x=false)->(dW body (i:Int)=some (.inl ())∧∀x∈l,p x=false)∨
   ∃(j:Nat)(hj:j<l.length),dW body (i:Int)=some (.inr (f j l[j]))∧p l[j]=true∧∀x∈l.take j,p x=false:=by
  intro k
  induction k with
  |zero=>
   intro i hi ha
   obtain rfl:i=l.length:=by omega
   exact .inl ⟨gI h2,by simpa using ha⟩
  |succ k ih=>
   intro i hi ha
   have hlt:i<l.length:=by omega
   cases hp:p l[i]with
   |true=>exact .inr ⟨i,hlt,gI (by rw [h1 i hlt,if_pos hp]),hp,ha⟩
   |false=>
    have e:=jr (ω:=Unit⊕ω) (body:=body) (s:=(i:Int)) (s':=((i+1:Nat):Int)) (by rw [h1 i hlt,if_neg (by simp [hp])])
    rw [e]
    refine ih (i+1) za fun x hx=>?_
    rw [pB hlt]at hx
    rcases List.mem_append.1 hx with hx|hx
    ·exact ha x hx
    ·rw [List.mem_singleton]at hx;rw [hx];exact hp
 have:=this l.length 0 za sm
 simpa using this
theorem qa{α ω:Type}{body:Int->Option (fR Int (Unit⊕ω))}(l:List α){p:α->Bool}{f:α->ω}
  (h1:∀(i:Nat)(hi:i<l.length),body i=if p l[i]=true then some (.stop (.inr (f l[i])))else some (.next ((i+1:Nat):Int)))
  (h2:body (l.length:Nat)=some (.stop (.inl ()))):dW body (0:Int)=some (match l.find? p with|none=>.inl ()|some x=>.inr (f x)):=by
 rcases loop_first l (f:=fun _ x=>f x) h1 h2 with⟨e,h⟩|⟨i,hi,e,hp,h⟩
 ·rw [e,List.find?_eq_none.2 fun x hx=>by simp [h x hx]]
 ·rw [e]
  have:l.find? p=some l[i]:=by
   refine List.find?_eq_some_iff_append.2 ⟨hp,l.take i,l.drop (i+1),?_,fun x hx=>by simp [h x hx]⟩
   rw [<-List.drop_eq_getElem_cons hi,List.take_append_drop]
  rw [this]
theorem mP{ω:Type}{body:Int->Option (fR Int (Unit⊕ω))}(n:Nat)(h1:∀i:Nat,i<n->body i=some (.next ((i+1:Nat):Int)))(h2:body (n:Nat)=some (.stop (.inl ()))):dW body (0:Int)=some (.inl ()):=by
 have:∀k i:Nat,i+k=n->dW body (i:Int)=some (.inl ()):=by
  intro k
  induction k with
  |zero=>
   intro i hi
   obtain rfl:i=n:=by omega
   exact gI h2
  |succ k ih=>intro i hi;rw [jr (h1 i za)];exact ih (i+1) za
 simpa using this n 0 za
theorem terms_ok{l:List Int}(hl:l.length<=1000)(h:∀x∈l, -1048576<=x∧x<=1048576):ca l=some true:=by
 unfold ca cj cL
 rw [mP l.length (fun i hi=>?_) ?_]
 ·rfl
 ·unfold bX
  rw [if_neg sm]
 ·unfold bX
  have hx:=h l[i] (List.getElem_mem hi)
  rw [if_pos so,gK rfl hi,zd]
  unfold f8 bA
  rw [if_pos (by simpa using hx.1),zd,zd,if_neg (by simpa using hx.2),w64 za za]
  simp
def mC(x:aD):Prop:=cf x=some true∧(x.b8=2->x.bt=1)∧x.bN.length<=3∧0<=x.bR∧(-1048576<=x.bd.a0∧x.bd.a0<=1048576)∧(-1048576<=x.aY.a0∧x.aY.a0<=1048576)
theorem gain_ok{a b:Int}(ha:1<=a∧a<=1048576)(hb:1<=b∧b<=1048576):mC ⟨0,⟨a,0,0⟩,⟨b,0,0⟩,[],0,0⟩:=by
 refine⟨?_,sm,sm,sm,zc,zc⟩
 unfold cf bA
 simp [ha.1,ha.2,hb.1,hb.2]
theorem section_ok{a b c d e f:Int}(ha: -10<=a∧a<=10)(hb: -10<=b∧b<=10)(hc: -10<=c∧c<=10)(hd:1<=d∧d<=10)(he: -10<=e∧e<=10)(hf: -10<=f∧f<=10):mC ⟨1,⟨a,b,c⟩,⟨d,e,f⟩,[],0,0⟩:=by
 refine⟨?_,sm,sm,sm,zc,zc⟩
 have h1:ca [a,b,c]=some true:=terms_ok sm so
 have h2:ca [d,e,f]=some true:=terms_ok sm so
 have h3:d≠0:=by omega
 unfold cf
 simp [h1,h2,h3]
theorem filter_ok{a s:Int}(ha:1<=a∧a<=3)(hs:0<=s∧s<=3):mC ⟨2,⟨0,0,0⟩,⟨0,0,0⟩,[a,2,1],1,s⟩:=by
 have h1:a=1∨a=2∨a=3:=by omega
 have h2:s=0∨s=1∨s=2∨s=3:=by omega
 refine⟨?_,sm,sm,hs.1,sm,sm⟩
 have ht:ca [a,2,1]=some true:=terms_ok sm so
 have hsum:cN [a,2,1]=some (a+3):=by
  unfold cN
  rcases h1 with rfl|rfl|rfl
  ·rw [tl (n:=4) (o:=4) (by kernel_rfl)];rfl
  ·rw [tl (n:=4) (o:=5) (by kernel_rfl)];rfl
  ·rw [tl (n:=4) (o:=6) (by kernel_rfl)];rfl
 have h3:a+3≠0:=by omega
 have h4:0<=s∧s<=3:=by omega
 unfold cf bA
 rw [ht,hsum]
 simp [h3,h4.1]
 omega
def oo(r:aL):Prop:=r.aV.length<=3∧∀x∈r.aV,mC x
theorem qg(d:Src)(hd:b9 d):Ok (eR d) (fun r=>oo r.1∧b9 r.2):=by
 unfold eR
 refine Ok.bind (d7 _ _ hd za za) (fun x1 h1=>?_)
 refine Ok.bind (P:=fun o:List Int×Int×List aD=>b9 ⟨o.1,o.2.1⟩∧(o.2.2.length<=3∧∀x∈o.2.2,mC x)) (Ok.loop (fun s=>0<=s.1∧s.1+s.2.2.2.length<=3∧(∀x∈s.2.2.2,mC x)∧b9 ⟨s.2.1,s.2.2.1⟩) (fun s=>s.1.toNat) ?_ ⟨zc,by simp only [List.length_nil];omega,sm,h1.2.2⟩) (fun o ho=>Ok.ret (Q:=fun r:aL×Src=>oo r.1∧b9 r.2) ⟨ho.2,ho.1⟩)
 rintro⟨s2,s3,s4,s5⟩ ⟨i0,i1,i2,i3⟩
 simp only at i0 i1 i2 i3
 unfold ja
 have happ:∀(x:aD),Ok (pS s5 [x] 96) (fun r=>r=s5++[x]):=fun x=>Ok.app (by simp only [List.length_cons,List.length_nil];omega)
 have hnext:∀{x:aD},mC x->∀c∈s5++[x],mC c:=fun hx c hc=>by
  simp only [List.mem_append,List.mem_singleton]at hc
  rcases hc with hc|rfl
  ·exact i2 c hc
  ·exact hx
 refine Ok.gv (fun hgt=>?_) (fun _=>Ok.st ⟨i3,zc,i2⟩)
 refine Ok.bind (d7 _ _ i3 za za) (fun y1 g1=>?_)
 refine Ok.tI (fun hk=>?_) (fun _=>Ok.tI (fun hk=>?_) (fun _=>?_))
 ·refine Ok.bind (eI _ _ g1.2.2 sm sm) (fun y2 g2=>?_)
  refine Ok.bind (eI _ _ g2.2 sm sm) (fun y3 g3=>?_)
  refine Ok.bind (happ _) (fun y4 g4=>?_)
  subst g4
  have b1:0<=y2.1∧y2.1<=1048575:=by have:=g2.1;simp at this;omega
  have b2:0<=y3.1∧y3.1<=999:=by have:=g3.1;simp at this;omega
  rw [w64 (n:=s2-1) za za,w64 (n:=1+y2.1) za za,w64 (n:=1+y3.1) za za,hk]
  exact Ok.nx ⟨zc,by simp only [List.length_append,List.length_cons,List.length_nil];omega,hnext (gain_ok za za),g3.2⟩ zc
 ·refine Ok.bind (d7 _ _ g1.2.2 za za) (fun y2 g2=>?_)
  refine Ok.bind (d7 _ _ g2.2.2 za za) (fun y3 g3=>?_)
  refine Ok.bind (d7 _ _ g3.2.2 za za) (fun y4 g4=>?_)
  refine Ok.bind (d7 _ _ g4.2.2 za za) (fun y5 g5=>?_)
  refine Ok.bind (d7 _ _ g5.2.2 za za) (fun y6 g6=>?_)
  refine Ok.bind (d7 _ _ g6.2.2 za za) (fun y7 g7=>?_)
  refine Ok.bind (happ _) (fun y8 g8=>?_)
  subst g8
  rw [w64 (n:=s2-1) za za,w64 (n:=y3.1-3) za za,w64 (n:=y4.1-1) za za,w64 (n:=1+y5.1) za za,hk]
  exact Ok.nx ⟨zc,by simp only [List.length_append,List.length_cons,List.length_nil];omega,hnext (section_ok za za za za za za),g7.2.2⟩ zc
 ·refine Ok.bind (d7 _ _ g1.2.2 za za) (fun y2 g2=>?_)
  refine Ok.bind (d7 _ _ g2.2.2 za za) (fun y3 g3=>?_)
  refine Ok.bind (happ _) (fun y8 g8=>?_)
  subst g8
  rw [w64 (n:=s2-1) za za,w64 (n:=1+y2.1) za za,show y1.1=2 by omega]
  exact Ok.nx ⟨zc,by simp only [List.length_append,List.length_cons,List.length_nil];omega,hnext (filter_ok za za),g3.2.2⟩ zc
theorem resp_valid{r:aL}(h:oo r):dM r=some true:=by
 obtain⟨hl,hs⟩:=h
 unfold dM
 rw [if_neg so]
 have e1:bH r.aV=some false:=by
  unfold bH cr
  rw [mP r.aV.length (fun i hi=>?_) ?_]
  ·rfl
  ·unfold bI
   rw [if_neg sm]
  ·unfold bI dQ
   rw [if_pos so,gK rfl hi,zd,(hs _ (List.getElem_mem hi)).1,zd,zd,if_neg sm,w64 za za]
   simp
 have e2:dS r.aV=some 1:=by
  unfold dS
  have:Ok (dW (dU r.aV) ((1:Int),(0:Int))) (fun o=>o= .inl 1):=by
   refine Ok.loop (fun s=>s.1=1∧0<=s.2∧s.2<=r.aV.length) (fun s=>((r.aV.length:Int)-s.2).toNat) ?_ ⟨rfl,Int.le_refl _,sm⟩
   rintro⟨s1,s2⟩ ⟨i0,i1,i2⟩
   simp only at i0 i1 i2
   subst i0
   unfold dU
   dsimp only
   refine Ok.gv (fun hlt=>?_) (fun _=>Ok.st rfl)
   refine Ok.bind (Ok.get za za) (fun x hx=>?_)
   rw [w64 (n:=s2+1) za za]
   refine Ok.rm (fun _=>Ok.nx ⟨rfl,zc,zc⟩ zc) (fun hk=>?_)
   rw [(hs x hx.1).2.1 hk]
   refine Ok.gv (fun hc=>absurd hc (by decide)) (fun _=>?_)
   rw [w64 (n:=1*1) za za]
   exact Ok.nx ⟨rfl,zc,zc⟩ zc
  rw [this.eq];rfl
 rw [e1,zd,if_neg sm,e2];rfl
def RateOk(r:bi):Prop:=r.aY=1∧(r.bd=100∨r.bd=50∨r.bd=51)
theorem rate_valid{r:bi}(h:RateOk r):iO r=some true:=by
 obtain⟨n,d⟩:=r
 obtain⟨h1,h2⟩:=h
 simp only at h1 h2
 subst h1
 unfold iO lX nD
 rcases h2 with rfl|rfl|rfl
 ·rw [tl (n:=4) (o:=(1:Int)) (by kernel_rfl)];rfl
 ·rw [tl (n:=4) (o:=(1:Int)) (by kernel_rfl)];rfl
 ·rw [tl (n:=4) (o:=(1:Int)) (by kernel_rfl)];rfl
structure EpOk(e:ap):Prop where
 lo:0<=e.bj
 lt:e.bj<e.fTo
 hi:e.fTo<=10000000
 from_:e.bj<=100000
 rate:RateOk e.di
 resp:oo e.bu
 pos:eB 60 e.aP
theorem ep_valid{e:ap}(h:EpOk e):cH e=some true:=by
 obtain⟨h1,h2,h3, -,h4,h5,⟨p1,p2⟩,⟨p3,p4⟩,p5,p6⟩:=h
 have hin:∀{x a b:Int},a<=x->x<=b->de x a b=some true:=fun h h'=>by
  unfold de;rw [if_pos (by simpa using h)];simpa using h'
 unfold cH
 rw [if_pos (by simpa using h1), if_pos (by simpa using h2), if_pos so, rate_valid h4, zd, if_pos rfl, resp_valid h5, zd, if_pos rfl,
  hin za za,zd,if_pos rfl,hin za za,zd,if_pos rfl,hin za za]
 rfl
structure EpsOk(l:List ap):Prop where
 ne:l≠ []
 len:l.length<=3
 all:∀e∈l,EpOk e
 ord:(l.map fun e=>(e.bj,e.fTo)).Pairwise (fun a b=>a.2<=b.1)
 last:∀e,l.getLast?=some e->e.fTo=100000
theorem epochs_valid{l:List ap}(h:EpsOk l):dD l=some true:=by
 have hlen:=h.len
 have hne:=List.length_pos_iff.2 h.ne
 unfold dD
 rw [mP l.length (fun i hi=>?_) ?_,zd]
 ·dsimp only
  unfold de
  rw [if_pos so,zd]
  simp;omega
 ·unfold cJ
  rw [if_neg sm]
 ·unfold cJ
  rw [if_pos so,gK rfl hi,zd,ep_valid (h.all _ (List.getElem_mem hi)),zd,if_neg sm,w64 (n:=(i:Int)+1) za za]
  by_cases h0:i=0
  ·subst h0;rfl
  ·rw [if_pos so,w64 za za,gK (i:=i-1) za za,zd]
   have:=List.pairwise_iff_getElem.1 h.ord (i-1) i so (by simpa using hi) za
   simp only [List.getElem_map]at this
   rw [if_neg (by simpa using this)]
   simp
def ChOk(c:aq):Prop:=IsSid c.aw∧EpsOk c.aT
structure kZ(v:al):Prop where
 len:v.aJ.length<=6
 all:∀c∈v.aJ,ChOk c
 ord:(v.aJ.map (·.aw)).Pairwise (fun a b=>iC a b<0)
 net:∀c∈v.aJ,c.aw.ba=[65,66]
theorem kZ.inv{v:al}(h:kZ v):InvOk v:=⟨h.len,fun c hc=>⟨(h.all c hc).2.len,fun e he=>((h.all c hc).2.all e he).pos⟩⟩
theorem lm{v:al}(h:kZ v):ch v=some true:=by
 have hlen:=h.len
 unfold ch
 rw [mP v.aJ.length (fun i hi=>?_) ?_,zd]
 ·simp;omega
 ·unfold cU
  rw [if_neg sm]
 ·unfold cU
  obtain⟨c1,c2⟩:=h.all _ (List.getElem_mem hi)
  rw [if_pos so,gK rfl hi,zd,Sq.pq (sid_len c1),c1,zd,if_neg sm,epochs_valid c2,zd,if_neg sm,w64 (n:=(i:Int)+1) za za]
  by_cases h0:i=0
  ·subst h0;rfl
  ·rw [if_pos so,w64 za za,gK (i:=i-1) za za,zd,Sd.jT,zd]
   have:=List.pairwise_iff_getElem.1 h.ord (i-1) i so (by simpa using hi) za
   simp only [List.getElem_map]at this
   rw [if_neg (by simpa using this)]
   simp
def sid(i:Nat):Sid:=⟨[65,66],stas.getD i [],[48,48],[66,72,90]⟩
theorem qi{n:Int}{i:Nat}(hn:n=i)(hi:i<6):dm n=some (sid i):=by
 subst hn
 have:i=0∨i=1∨i=2∨i=3∨i=4∨i=5:=by omega
 rcases this with rfl|rfl|rfl|rfl|rfl|rfl<;>(show dm _=some _;kernel_rfl)
theorem sid_ok{i:Nat}(hi:i<6):IsSid (sid i):=by
 have:i=0∨i=1∨i=2∨i=3∨i=4∨i=5:=by omega
 rcases this with rfl|rfl|rfl|rfl|rfl|rfl<;>(show Sq.gz _=true;decide+kernel)
theorem sid_lt{i j:Nat}(h:i<j)(hj:j<6):iC (sid i) (sid j)<0:=by
 have h1:i=0∨i=1∨i=2∨i=3∨i=4:=by omega
 have h2:j=1∨j=2∨j=3∨j=4∨j=5:=by omega
 rcases h1 with rfl|rfl|rfl|rfl|rfl<;>rcases h2 with rfl|rfl|rfl|rfl|rfl<;>first|omega|decide+kernel
theorem eps1{e:ap}(h:EpOk e)(ht:e.fTo=100000):EpsOk [e]:=⟨sm,sm,by simpa using h,sm,by simpa using ht⟩
theorem eps2{e f:ap}(h:EpOk e)(h':EpOk f)(ho:e.fTo<=f.bj)(ht:f.fTo=100000):EpsOk [e,f]:=⟨sm,sm,by simp;exact⟨h,h'⟩,by simpa using ho,by simpa using ht⟩
def SitesI(s:Int×List Int×Int×List aq):Prop:=∃i:Nat,s.1=i∧i<=6∧s.2.2.2.map (·.aw)=(List.range i).map sid∧(∀c∈s.2.2.2,EpsOk c.aT∧c.aT.length<=2)∧b9 ⟨s.2.1,s.2.2.1⟩
theorem sitesV{n:Int}(d:Src)(hd:b9 d):Ok (fr n d) (fun r=>(kZ r.1∧∀c∈r.1.aJ,c.aT.length<=2)∧b9 r.2):=by
 unfold fr
 refine Ok.bind (P:=fun o=>b9 ⟨o.1,o.2.1⟩∧kZ ⟨o.2.2⟩∧∀c∈o.2.2,c.aT.length<=2) (Ok.loop SitesI (fun s=>(6-s.1).toNat) ?_ ⟨0,rfl,za,rfl,sm,hd⟩) (fun o ho=>Ok.ret ⟨ho.2,ho.1⟩)
 rintro⟨s1,s2,s3,s4⟩ ⟨i,i0,i1,i2,i3,i4⟩
 simp only at i0 i1 i2 i3 i4
 subst i0
 have hlen:s4.length=i:=by have:=congrArg List.length i2;simpa using this
 unfold hX
 have happ:∀(x:aq),Ok (pS s4 [x] 88) (fun r=>r=s4++[x]):=fun x=>Ok.app (by simp only [List.length_cons,List.length_nil];omega)
 have hend:kZ ⟨s4⟩:=by
  refine⟨zc,fun c hc=>⟨?_,(i3 c hc).1⟩,?_,fun c hc=>?_⟩
  ·have:c.aw∈s4.map (·.aw):=List.mem_map.2 ⟨c,hc,rfl⟩
   rw [i2]at this
   obtain⟨j,hj,e⟩:=List.mem_map.1 this
   rw [<-e]
   exact sid_ok (by have:=List.mem_range.1 hj;omega)
  ·simp only
   rw [i2,List.pairwise_map]
   exact List.pairwise_lt_range.imp_of_mem fun ha hb hab=>sid_lt hab (by have:=List.mem_range.1 hb;omega)
  ·have:c.aw∈s4.map (·.aw):=List.mem_map.2 ⟨c,hc,rfl⟩
   rw [i2]at this
   obtain⟨j,hj,e⟩:=List.mem_map.1 this
   rw [<-e];rfl
 have hnext:∀{l:List ap}{t:Src},i<6->EpsOk l∧l.length<=2->b9 t->Ok (some (.next ((i:Int)+1,t.fL,t.fAt,s4++[⟨sid i,l⟩]))) (Ok.S SitesI (fun s=>(6-s.1).toNat) (fun o:List Int×Int×List aq=>b9 ⟨o.1,o.2.1⟩∧kZ ⟨o.2.2⟩∧∀c∈o.2.2,c.aT.length<=2) ((i:Int),s2,s3,s4)):=fun{l t}hi hl ht=>by
  refine Ok.nx ⟨i+1,sm,za,?_,fun c hc=>?_,ht⟩ zc
  ·simp [List.range_succ,i2]
  ·simp only [List.mem_append,List.mem_singleton]at hc
   rcases hc with hc|rfl
   ·exact i3 c hc
   ·exact hl
 refine Ok.gv (fun hlt=>?_) (fun _=>Ok.st ⟨i4,hend,fun c hc=>(i3 c hc).2⟩)
 refine Ok.gv (fun _=>?_) (fun _=>Ok.st ⟨i4,hend,fun c hc=>(i3 c hc).2⟩)
 have hi:i<6:=by omega
 refine Ok.bind (lW 60 za za _ i4) (fun y1 g1=>?_)
 refine Ok.bind (qg _ g1.2) (fun y2 g2=>?_)
 rw [qi rfl hi,zd]
 refine Ok.bind (d7 _ _ g2.2 za za) (fun y4 g4=>?_)
 rw [w64 (n:=(i:Int)+1) za za]
 have hr:RateOk ⟨100,1⟩:=⟨rfl,.inl rfl⟩
 refine Ok.tI (fun _=>?_) (fun _=>Ok.tI (fun _=>?_) (fun _=>?_))
 ·refine Ok.bind (d7 _ _ g4.2.2 za za) (fun y5 g5=>?_)
  refine Ok.bind (lW 60 za za _ g5.2.2) (fun y6 g6=>?_)
  refine Ok.bind (qg _ g6.2) (fun y7 g7=>?_)
  refine Ok.bind (Ok.tN za sm) (fun _ _=>?_)
  refine Ok.bind (Ok.mod za sm) (fun y8 g8=>?_)
  obtain⟨x,hx,rfl⟩:=g8
  simp at hx
  subst hx
  refine Ok.bind (Ok.app sm) (fun y9 g9=>?_)
  subst g9
  refine Ok.bind (happ _) (fun y10 g10=>?_)
  subst g10
  rw [w64 (n:=1500+y5.1) za za]
  exact hnext hi ⟨eps2 ⟨sm,zc,zc,sm,hr,g2.1,g1.1⟩ ⟨zc,zc,sm,zc,hr,g7.1,g6.1⟩ sm sm,sm⟩ g7.2
 ·refine Ok.bind (d7 _ _ g4.2.2 za za) (fun y5 g5=>?_)
  refine Ok.bind (Ok.tN za sm) (fun _ _=>?_)
  refine Ok.bind (Ok.mod za sm) (fun y8 g8=>?_)
  obtain⟨x,hx,rfl⟩:=g8
  simp at hx
  subst hx
  refine Ok.bind (happ _) (fun y10 g10=>?_)
  subst g10
  exact hnext hi ⟨eps1 ⟨g5.1,zc,sm,zc,hr,g2.1,g1.1⟩ sm,sm⟩ g5.2.2
 ·refine Ok.bind (happ _) (fun y10 g10=>?_)
  subst g10
  exact hnext hi ⟨eps1 ⟨sm,sm,sm,sm,hr,g2.1,g1.1⟩ sm,sm⟩ g4.2.2
end Go.Dw.Em
set_option maxRecDepth 100000
set_option maxHeartbeats 4000000
namespace Go.Dw.Em
open Go.Dw Go.Proofs
open Sd (iC fd eD)
theorem clone_at{α:Type}{n:Nat}{l:List α}(h:l.length*n<=140737488355328):sQ n l=some l:=by
 unfold sQ;rw [if_pos h]
def RespLen(r:aL):Prop:=r.aV.length<=1000∧∀x∈r.aV,x.bN.length<=1000
theorem copyEpoch_at{e:ap}(h:RespLen e.bu):dP e=some e:=by
 obtain⟨h1,h2⟩:=h
 unfold dP
 rw [clone_at za,zd]
 have:Ok (dW (eH e.bu.aV) ((0:Int),e.bu.aV)) (fun o=>o=e.bu.aV):=by
  refine Ok.loop (fun s=>0<=s.1∧s.1<=e.bu.aV.length∧s.2=e.bu.aV) (fun s=>((e.bu.aV.length:Int)-s.1).toNat) ?_ ⟨Int.le_refl _,sm,rfl⟩
  rintro⟨s2,s3⟩ ⟨i0,i1,i2⟩
  simp only at i0 i1 i2
  subst i2
  unfold eH
  dsimp only
  refine Ok.gv (fun hlt=>?_) (fun _=>Ok.st rfl)
  refine Ok.bind (Ok.tN za za) (fun _ _=>?_)
  refine Ok.bind (Ok.get za za) (fun x hx=>?_)
  have:=h2 x hx.1
  rw [clone_at za,zd]
  refine Ok.bind (Ok.tN za za) (fun _ _=>?_)
  refine Ok.bind (Ok.mod za za) (fun y hy=>?_)
  obtain⟨z,hz,rfl⟩:=hy
  obtain rfl:x=z:=by rw [hx.2]at hz;exact Option.some.inj hz
  rw [w64 za za]
  refine Ok.nx ⟨zc,zc,?_⟩ zc
  obtain⟨hk,e⟩:=List.getElem?_eq_some_iff.1 hx.2
  simp only
  conv=>lhs;rw [<-e]
  exact List.set_getElem_self hk
 rw [this.eq];rfl
def ChLen(c:aq):Prop:=c.aT.length<=1000∧∀e∈c.aT,RespLen e.bu
theorem copied_at{c:aq}(h:ChLen c):fb c=some c:=by
 obtain⟨h1,h2⟩:=h
 unfold fb
 rw [clone_at za,zd]
 have:Ok (dW (ed c.aT) ((0:Int),c.aT)) (fun o=>o=c.aT):=by
  refine Ok.loop (fun s=>0<=s.1∧s.1<=c.aT.length∧s.2=c.aT) (fun s=>((c.aT.length:Int)-s.1).toNat) ?_ ⟨Int.le_refl _,sm,rfl⟩
  rintro⟨s2,s3⟩ ⟨i0,i1,i2⟩
  simp only at i0 i1 i2
  subst i2
  unfold ed
  dsimp only
  refine Ok.gv (fun hlt=>?_) (fun _=>Ok.st rfl)
  refine Ok.bind (Ok.tN za za) (fun _ _=>?_)
  refine Ok.bind (Ok.get za za) (fun x hx=>?_)
  rw [copyEpoch_at (h2 x hx.1),zd]
  refine Ok.bind (Ok.tN za za) (fun _ _=>?_)
  refine Ok.bind (Ok.set za za) (fun y hy=>?_)
  subst hy
  rw [w64 za za]
  refine Ok.nx ⟨zc,zc,?_⟩ zc
  obtain⟨hk,e⟩:=List.getElem?_eq_some_iff.1 hx.2
  simp only
  conv=>lhs;rw [<-e]
  exact List.set_getElem_self hk
 rw [this.eq];rfl
structure InvLen(v:al):Prop where
 len:v.aJ.length<=1000
 all:∀c∈v.aJ,ChLen c
theorem kZ.lens{v:al}(h:kZ v):InvLen v:=by
 refine⟨by have:=h.len;omega,fun c hc=>?_⟩
 have hE:=(h.all c hc).2
 refine⟨by have:=hE.len;omega,fun e he=>?_⟩
 have hR:=(hE.all e he).resp
 exact⟨by have:=hR.1;omega,fun x hx=>by have:=(hR.2 x hx).2.2.1;omega⟩
def zCh:aq:=⟨⟨[],[],[],[]⟩,[]⟩
def zEp:ap:=⟨0,0,⟨0,0⟩,⟨0,0,0⟩,⟨[]⟩⟩
def qJ(v:al)(s:Sid):Option aq:=v.aJ.find? fun c=>decide (c.aw=s)
def mc(l:List ap)(t:Int):Option ap:=l.find? fun e=>decide (e.bj<=t∧t<e.fTo)
def px(v:al)(s:Sid)(t:Int):Option ap:=(qJ v s).bind fun c=>mc c.aT t
theorem Find_eq{v:al}(hv:InvLen v)(s:Sid):gh v s=some (match qJ v s with|none=>(zCh,false)|some c=>(c,true)):=by
 have hl:=hv.len
 unfold gh
 rw [qa v.aJ (p:=fun c=>decide (c.aw=s)) (f:=fun c=>(c,true)) (fun i hi=>?_) ?_,zd]
 ·unfold qJ
  cases v.aJ.find? fun c=>decide (c.aw=s)<;>rfl
 ·unfold fF
  rw [if_neg sm]
 ·unfold fF
  rw [if_pos so,gK rfl hi,zd,Sd.eqs,copied_at (hv.all _ (List.getElem_mem hi)),zd,w64 za za]
  simp
theorem at_eq{c:aq}(hc:c.aT.length<=1000)(t:Int):jg c t=some (match mc c.aT t with|none=>(zEp,false)|some e=>(e,true)):=by
 unfold jg
 rw [qa c.aT (p:=fun e=>decide (e.bj<=t∧t<e.fTo)) (f:=fun e=>(e,true)) (fun i hi=>?_) ?_,zd]
 ·unfold mc
  cases c.aT.find? fun e=>decide (e.bj<=t∧t<e.fTo)<;>rfl
 ·unfold jJ
  rw [if_neg sm]
 ·unfold jJ
  rw [if_pos so,gK rfl hi,zd,w64 za za]
  by_cases h1:c.aT[i].bj<=t<;>by_cases h2:t<c.aT[i].fTo<;>simp [h1,h2]
theorem ru{v:al}{s:Sid}{c:aq}(h:qJ v s=some c):c∈v.aJ∧c.aw=s:=by
 unfold qJ at h
 exact⟨List.mem_of_find?_eq_some h,by simpa using List.find?_some h⟩
theorem epIn_mem{l:List ap}{t:Int}{e:ap}(h:mc l t=some e):e∈l∧e.bj<=t∧t<e.fTo:=by
 unfold mc at h
 have:=List.find?_some h
 simp only [decide_eq_true_eq]at this
 exact⟨List.mem_of_find?_eq_some h,this⟩
theorem At_eq{v:al}(hv:InvLen v)(hV:ch v=some true)(s:Sid)(t:Int):fD v s t=some (match px v s t with|none=>(zEp,6)|some e=>(e,0)):=by
 unfold fD
 rw [hV,zd,if_neg sm,Find_eq hv,zd]
 unfold px
 cases hc:qJ v s with
 |none=>
  dsimp only
  rw [at_eq (by simp [zCh])]
  rfl
 |some c=>
  dsimp only
  rw [at_eq (hv.all c (ru hc).1).1,zd,zd]
  cases mc c.aT t<;>rfl
end Go.Dw.Em
set_option maxRecDepth 100000
set_option maxHeartbeats 4000000
namespace Go.Dw.Em
open Go.Dw Go.Proofs
def bitsL:List Int:=[1,2,4,8,16,32,64,128]
theorem or_at:∀b∈bitsL,∀m:Nat,m<128->2*b*m+2*b<=256->orI .i64 (2*b*m) b=2*b*m+b:=by decide+kernel
theorem half_bit:∀b∈bitsL,(b=1∧jf .i64 b 1=0)∨(jf .i64 b 1∈bitsL∧2*jf .i64 b 1=b):=by decide+kernel
theorem bit_pos:∀b∈bitsL,1<=b∧b<=128:=by decide
theorem sq_lt{x n:Int}(hx:0<x)(hn:0<=n):x<=n.tdiv x↔x*x<=n:=by
 rw [Int.tdiv_eq_ediv_of_nonneg hn,Int.le_ediv_iff_mul_le hx]
def FI(n:Int)(s:Int×Int):Prop:=
 (s.2=0∧(0<=s.1∧s.1<=255)∧s.1*s.1<=n∧n<(s.1+1)*(s.1+1))∨
 (s.2∈bitsL∧∃m:Nat,s.1=2*s.2*m∧m<128∧s.1+2*s.2<=256∧s.1*s.1<=n∧n<(s.1+2*s.2)*(s.1+2*s.2))
theorem floor_loop(n:Int)(h0:0<n)(h1:n<=65535)(s:Int×Int)(hs:FI n s):Ok (dW (gG n) s) (fun r=>(0<=r∧r<=255)∧r*r<=n∧n<(r+1)*(r+1)):=by
 refine Ok.loop (FI n) (fun s=>s.2.toNat) ?_ hs
 rintro⟨r,b⟩ h
 unfold gG
 dsimp only
 rcases h with⟨e,h2,h3,h4⟩|⟨hb,m,hr,hm,h2,h3,h4⟩
 ·simp only at e h2 h3 h4
  subst e
  rw [if_neg sm]
  exact Ok.st ⟨h2,h3,h4⟩
 ·simp only at hb hr h2 h3 h4
  have hbp:=bit_pos b hb
  have hbm:0<=2*b*m:=Int.mul_nonneg za za
  have hor:orI .i64 r b=r+b:=by rw [hr];exact or_at b hb m hm za
  have hm2:2*b*m<=256-2*b:=by omega
  have hmb:b*m<=127:=by
   rw [Int.mul_assoc]at hm2;omega
  rw [if_pos so,hor]
  refine Ok.bind (Ok.quo za) (fun q hq=>?_)
  have hq0:0<=n.tdiv (r+b):=Int.tdiv_nonneg za za
  have hq1:n.tdiv (r+b)<=n:=Int.tdiv_le_self _ za
  rw [w64 za za]at hq
  subst hq
  have hfin:∀(x:Int)(k:Nat),(x=2*b*m∧k=2*m)∨(x=2*b*m+b∧k=2*m+1)->x*x<=n->n<(x+b)*(x+b)->Ok (some (fR.next (x,jf .i64 b 1))) (Ok.S (FI n) (fun s=>s.2.toNat) (fun r:Int=>(0<=r∧r<=255)∧r*r<=n∧n<(r+1)*(r+1)) (r,b)):=fun x k hx g1 g2=>by
   rcases half_bit b hb with⟨e1,e2⟩|⟨e1,e2⟩
   ·rw [e2]
    subst e1
    refine Ok.nx (.inl ⟨rfl,⟨zc,zc⟩,g1,g2⟩) zc
   ·have hbp':=bit_pos _ e1
    generalize jf .i64 b 1=b' at*
    subst e2
    refine Ok.nx (.inr ⟨e1,k,?_,?_,zc,g1,g2⟩) zc
    ·simp only
     rcases hx with⟨rfl,rfl⟩|⟨rfl,rfl⟩
     ·rw [Int.natCast_mul]
      simp only [Int.mul_assoc,Int.mul_left_comm]
      rfl
     ·rw [Int.natCast_add,Int.natCast_mul,Int.mul_add]
      have:2*b'*((2:Nat)*(m:Int))=2*(2*b')*m:=by
       simp only [Int.mul_assoc,Int.mul_left_comm];rfl
      rw [this];simp
    ·have:2*b'*m<=127:=hmb
     have h5:(m:Int)<=b'*m:=by
      have:=Int.mul_le_mul_of_nonneg_right (show(1:Int)<=b' by omega) (show(0:Int)<=(m:Int)by omega)
      omega
     rw [Int.mul_assoc]at this
     omega
  refine Ok.gv (fun hle=>?_) (fun hgt=>?_)
  ·rw [sq_lt za za]at hle
   exact hfin _ (2*m+1) (.inr ⟨by rw [hr],rfl⟩) hle (by rw [show r+b+b=r+2*b by omega];exact h4)
  ·rw [sq_lt za za]at hgt
   exact hfin _ (2*m) (.inl ⟨hr,rfl⟩) h3 (Int.not_le.1 hgt)
theorem len_lo:(List.range 256).all (fun n=>decide (n=0)||match iB (n:Int)with|some L=>decide (1<=L∧L<=16)&&decide ((n:Int)<2 ^ L.toNat)|none=>false)=true:=by kernel_rfl
theorem len_hi:(List.range 256).all (fun n=>decide (n=0)||match iB ((n*256:Nat):Int)with|some L=>decide (1<=L∧L<=16)&&decide (((n*256+255:Nat):Int)<2 ^ L.toNat)|none=>false)=true:=by kernel_rfl
theorem shr8{n:Int}(h0:0<=n):jf .u64 n 8=n / 256:=by
 show n.fdiv (2 ^ (min (8:Int).toNat 64))=n / 256
 rw [Int.fdiv_eq_ediv_of_nonneg _ (by decide)]
 rfl
theorem len_same{n:Int}(h0:256<=n)(h1:n<=65535):gd n=gd (n / 256*256):=by
 unfold gd mU ge hY
 rw [if_neg so,if_neg so,if_pos so,if_neg so,if_neg so,if_pos so,shr8 za,shr8 za]
 rw [show n / 256*256 / 256=n / 256 by omega]
theorem len_ok{n:Int}(h0:1<=n)(h1:n<=65535):Ok (gd n) (fun L=>(1<=L∧L<=16)∧n<2 ^ L.toNat):=by
 obtain⟨n,rfl⟩:∃k:Nat,n=k:=⟨n.toNat,za⟩
 by_cases h:n<256
 ·have:=List.all_eq_true.1 len_lo n (List.mem_range.2 h)
  simp only [Bool.or_eq_true,decide_eq_true_eq]at this
  rcases this with h|h
  ·omega
  ·cases e:iB (n:Int)with
   |none=>rw [e]at h;cases h
   |some L=>
    rw [e]at h
    simp only [Bool.and_eq_true,decide_eq_true_eq]at h
    exact⟨L,bits_Len_le _ _ e,h.1,h.2⟩
 ·have hm:n / 256<256:=by omega
  have:=List.all_eq_true.1 len_hi (n / 256) (List.mem_range.2 hm)
  simp only [Bool.or_eq_true,decide_eq_true_eq]at this
  rcases this with h'|h'
  ·omega
  ·cases e:iB ((n / 256*256:Nat):Int)with
   |none=>rw [e]at h';cases h'
   |some L=>
    rw [e]at h'
    simp only [Bool.and_eq_true,decide_eq_true_eq]at h'
    refine⟨L,?_,h'.1,?_⟩
    ·rw [len_same za h1]
     have:((n:Int) / 256*256)=((n / 256*256:Nat):Int):=by omega
     rw [this]
     exact bits_Len_le _ _ e
    ·have:=h'.2
     have h5:(n:Int)<=((n / 256*256+255:Nat):Int):=by omega
     exact Int.lt_of_le_of_lt h5 this
theorem start_at:∀L:Nat,L<17->1<=L->∃q b,su .i64 (IntKind.wrap .i64 ((L:Int)-1)) 2=some q∧yb .i64 1 q=some b∧b∈bitsL∧(2:Int) ^ L<=(0+2*b)*(0+2*b):=by
 intro L h1 h2
 have:L=1∨L=2∨L=3∨L=4∨L=5∨L=6∨L=7∨L=8∨L=9∨L=10∨L=11∨L=12∨L=13∨L=14∨L=15∨L=16:=by omega
 have hs:∀(q b:Int),0<=q->shlI .i64 1 q=b->yb .i64 1 q=some b:=fun q b h e=>by unfold yb;rw [if_neg za,e]
 have hq:∀(x q:Int),IntKind.wrap .i64 ((IntKind.wrap .i64 x).tdiv 2)=q->su .i64 (IntKind.wrap .i64 x) 2=some q:=fun x q e=>by unfold su;rw [if_neg za,e]
 rcases this with rfl|rfl|rfl|rfl|rfl|rfl|rfl|rfl|rfl|rfl|rfl|rfl|rfl|rfl|rfl|rfl
 ·exact⟨0,1,hq _ _ (by decide),hs _ _ (by decide) (by decide),by decide,by decide⟩
 ·exact⟨0,1,hq _ _ (by decide),hs _ _ (by decide) (by decide),by decide,by decide⟩
 ·exact⟨1,2,hq _ _ (by decide),hs _ _ (by decide) (by decide),by decide,by decide⟩
 ·exact⟨1,2,hq _ _ (by decide),hs _ _ (by decide) (by decide),by decide,by decide⟩
 ·exact⟨2,4,hq _ _ (by decide),hs _ _ (by decide) (by decide),by decide,by decide⟩
 ·exact⟨2,4,hq _ _ (by decide),hs _ _ (by decide) (by decide),by decide,by decide⟩
 ·exact⟨3,8,hq _ _ (by decide),hs _ _ (by decide) (by decide),by decide,by decide⟩
 ·exact⟨3,8,hq _ _ (by decide),hs _ _ (by decide) (by decide),by decide,by decide⟩
 ·exact⟨4,16,hq _ _ (by decide),hs _ _ (by decide) (by decide),by decide,by decide⟩
 ·exact⟨4,16,hq _ _ (by decide),hs _ _ (by decide) (by decide),by decide,by decide⟩
 ·exact⟨5,32,hq _ _ (by decide),hs _ _ (by decide) (by decide),by decide,by decide⟩
 ·exact⟨5,32,hq _ _ (by decide),hs _ _ (by decide) (by decide),by decide,by decide⟩
 ·exact⟨6,64,hq _ _ (by decide),hs _ _ (by decide) (by decide),by decide,by decide⟩
 ·exact⟨6,64,hq _ _ (by decide),hs _ _ (by decide) (by decide),by decide,by decide⟩
 ·exact⟨7,128,hq _ _ (by decide),hs _ _ (by decide) (by decide),by decide,by decide⟩
 ·exact⟨7,128,hq _ _ (by decide),hs _ _ (by decide) (by decide),by decide,by decide⟩
theorem floor_ok(n:Int)(h1:n<=65535):Ok (ff n) (fun r=>(0<=r∧r<=255)∧(0<=n->r*r<=n)∧n<(r+1)*(r+1)):=by
 unfold ff
 refine Ok.gv (fun h=>Ok.ret ⟨⟨za,za⟩,fun h'=>za,so⟩) (fun h=>?_)
 have hw:IntKind.wrap .u64 n=n:=IntWalk.u64_in _ za
 rw [hw]
 refine Ok.bind (len_ok za h1) (fun L hL=>?_)
 obtain⟨⟨l0,l1⟩,l2⟩:=hL
 obtain⟨L,rfl⟩:∃k:Nat,L=k:=⟨L.toNat,za⟩
 obtain⟨q,b,e1,e2,e3,e4⟩:=start_at L za za
 rw [e1,zd,e2,zd]
 have hb:=bit_pos b e3
 refine Ok.bind (floor_loop n za h1 (0,b) (.inr ⟨e3,0,sm,za,zc,zc,?_⟩)) (fun r hr=>Ok.ret ⟨hr.1,fun _=>hr.2.1,hr.2.2⟩)
 simp only
 rw [Int.toNat_natCast]at l2
 exact Int.lt_of_lt_of_le l2 e4
theorem lt_of_sq{x s:Int}(hs:0<=s)(h:x*x<s*s):x<s:=by
 apply Classical.byContradiction
 intro hn
 have:s*s<=x*x:=Int.mul_le_mul za za hs za
 omega
theorem ceil_ok(n:Int)(h0:0<=n)(h1:n<=65535):Ok (ie n) (fun r=>(0<=r∧r<=256)∧n<=r*r∧∀s,0<=s->n<=s*s->r<=s):=by
 unfold ie
 refine Ok.bind (floor_ok n h1) (fun x hx=>?_)
 obtain⟨⟨a0,a1⟩,a2,a3⟩:=hx
 have:=a2 h0
 have hxx:0<=x*x:=Int.mul_nonneg a0 a0
 rw [w64 (n:=x*x) za za,w64 (n:=x+1) za za]
 refine Ok.gv (fun hlt=>Ok.ret ⟨⟨za,za⟩,Int.le_of_lt a3,fun s hs hns=>?_⟩) (fun hge=>Ok.ret ⟨⟨za,za⟩,za,fun s hs hns=>?_⟩)
 ·have:=lt_of_sq (x:=x) hs za;omega
 ·apply Classical.byContradiction
  intro hc
  have := lt_of_sq (x := s) a0 (by
   have h2:s*s<=(x-1)*(x-1):=Int.mul_le_mul za za hs za
   have h3:(x-1)*(x-1)=x*x-2*x+1:=by rw [Int.sub_mul,Int.mul_sub];omega
   omega)
  have h2:s*s<=(x-1)*(x-1):=Int.mul_le_mul za za hs za
  have h3:(x-1)*(x-1)=x*x-2*x+1:=by rw [Int.sub_mul,Int.mul_sub];omega
  omega
end Go.Dw.Em
set_option maxRecDepth 100000
set_option maxHeartbeats 4000000
namespace Go.Dw.Em
open Go.Dw Go.Proofs
theorem get1{α:Type}(A:List α)(y:α)(T:List α){n:Int}(hn:n=A.length):eV (A++y::T) n=some y:=by
 rw [gK (i:=A.length) hn sm]
 simp
theorem set1{α:Type}(A:List α)(y z:α)(T:List α){n:Int}(hn:n=A.length):tS (A++y::T) n z=some (A++z::T):=by
 rw [wL (i:=A.length) hn sm]
 simp
structure nO(t:aA):Prop where
 step:1<=t.aZ∧t.aZ<=100
 len:2<=t.aI.length∧t.aI.length<=30
 same:t.aC.length=t.aI.length
 low:t.aI.Pairwise (· <= ·)
 high:t.aC.Pairwise (· <= ·)
 lows:∀x∈t.aI,0<=x
 highs:∀x∈t.aC,0<=x∧x<=5000
 lh:∀(i:Nat)(h:i<t.aI.length)(h':i<t.aC.length),t.aI[i]<=t.aC[i]
 far:400<=t.aZ*((t.aI.length:Int)-1)
 lowb:∀x∈t.aI,x<=1500
theorem fc{t:aA}(h:nO t):cQ t=some 0:=by
 obtain⟨h1,h2,h3,h4,h5,h6,h7,h8, -⟩:=h
 refine Ok.eq ?_
 unfold cQ
 refine Ok.gv (fun _=>za) (fun _=>Ok.gv (fun _=>za) (fun _=>Ok.rm (fun h=>za) (fun _=>Ok.gv (fun _=>za) (fun _=>Ok.gv (fun _=>za) (fun _=>?_)))))
 refine Ok.bind (P:=fun o=>o= .inl ()) (Ok.loop (fun s=>∃i:Nat,s.2.2=i∧i<=t.aI.length∧(∀(j:Nat)(hj:j<t.aI.length),i<=j->s.1<=t.aI[j])∧(∀(j:Nat)(hj:j<t.aC.length),i<=j->s.2.1<=t.aC[j])) (fun s=>((t.aI.length:Int)-s.2.2).toNat) ?_ ⟨0,rfl,Nat.zero_le _,fun j hj _=>h6 _ (List.getElem_mem hj),fun j hj _=>(h7 _ (List.getElem_mem hj)).1⟩) (fun o ho=>by subst ho;exact Ok.ret rfl)
 rintro⟨s1,s2,s3⟩ ⟨i,i0,i1,i2,i3⟩
 simp only at i0 i2 i3
 subst i0
 unfold ju
 dsimp only
 refine Ok.gv (fun hlt=>?_) (fun _=>Ok.st rfl)
 have hi:i<t.aI.length:=by omega
 have hi':i<t.aC.length:=by omega
 have:=i2 i hi (Nat.le_refl _)
 have:=i3 i hi' (Nat.le_refl _)
 have:=h8 i hi hi'
 have:=(h7 _ (List.getElem_mem hi')).2
 simp only [gK (i:=i) rfl hi,gK (i:=i) rfl hi',zd]
 refine Ok.gv (fun _=>za) (fun _=>Ok.gv (fun _=>za) (fun _=>Ok.gv (fun _=>za) (fun _=>Ok.gv (fun _=>za) (fun _=>?_))))
 rw [w64 za za]
 refine Ok.nx ⟨i+1,sm,za,fun j hj h=>?_,fun j hj h=>?_⟩ zc
 ·exact List.pairwise_iff_getElem.1 h4 i j hi hj za
 ·exact List.pairwise_iff_getElem.1 h5 i j hi' hj za
theorem snoc_le{l:List Int}{x:Int}(h:l.Pairwise (· <= ·))(hx:∀y∈l,y<=x):(l++[x]).Pairwise (· <= ·):=
 List.pairwise_append.2 ⟨h,sm,fun a ha b hb=>by rw [List.mem_singleton.1 hb];exact hx a ha⟩
structure TI(d:Src)(lo hi k:Int)(L H:List Int):Prop where
 ck:0<=k∧k<=23
 ll:L.length=k.toNat
 hl:H.length=k.toNat
 clo:0<=lo∧lo<=60*k
 chi:0<=hi∧hi<=100*k+2
 cd:b9 d
 pl:L.Pairwise (· <= ·)
 ph:H.Pairwise (· <= ·)
 ls:∀x∈L,0<=x∧x<=lo
 hs:∀x∈H,0<=x∧x<=hi
 lh:lo<=hi
 le:∀(i:Nat)(h:i<L.length)(h':i<H.length),L[i]<=H[i]
theorem tableV(d:Src)(hd:b9 d):Ok (jb d) (fun r=>nO r.1∧b9 r.2):=by
 unfold jb
 refine Ok.bind (eI _ d hd sm sm) (fun x1 h1=>?_)
 obtain⟨hst,h1⟩:=h1
 have hst:x1.1=20∨x1.1=25∨x1.1=40∨x1.1=100:=by simpa using hst
 refine Ok.bind (d7 _ _ h1 za za) (fun x2 h2=>?_)
 have hq:∃q,IntKind.wrap .i64 ((400:Int).tdiv x1.1)=q∧(4<=q∧x1.1*q=400)∧q<=20:=by
  rcases hst with e|e|e|e<;>rw [e]<;>exact⟨_,rfl,⟨by decide,by decide⟩,by decide⟩
 have hp:∃q,IntKind.wrap .i64 (x1.1.tdiv 4)=q∧0<=q∧q<=25:=by
  rcases hst with e|e|e|e<;>rw [e]<;>exact⟨_,rfl,by decide,by decide⟩
 obtain⟨q,hq,⟨q0,qf⟩,q1⟩:=hq
 obtain⟨p,hp,p0,p1⟩:=hp
 refine Ok.bind (P:=fun o=>b9 ⟨o.1,o.2.1⟩∧nO ⟨x1.1,o.2.2.1,o.2.2.2⟩)
  (Ok.loop (fun s=>TI ⟨s.2.2.2.1,s.2.2.2.2.1⟩ s.1 s.2.1 s.2.2.1 s.2.2.2.2.2.1 s.2.2.2.2.2.2) (fun s=>(23-s.2.2.1).toNat) ?_ ⟨⟨sm,sm⟩,rfl,rfl,⟨sm,sm⟩,⟨zc,zc⟩,h2.2.2,sm,sm,sm,sm,zc,sm⟩) ?_
 ·rintro⟨s3,s4,s5,s6,s7,s8,s9⟩ hI
  simp only at hI
  obtain⟨i0,i1,i2,i3,i4,i5,i6,i7,i8,i9,i10,i11⟩:=hI
  unfold jv
  refine Ok.bind (Ok.quo za) (fun y1 g1=>?_)
  rw [hq]at g1;subst g1
  refine Ok.bind (d7 _ _ i5 za za) (fun y2 g2=>?_)
  rw [w64 (n:=y1+y2.1) za za]
  refine Ok.gv (fun hle=>?_) (fun hgt=>?_)
  ·refine Ok.bind (Ok.app (by simp only [List.length_cons,List.length_nil];omega)) (fun y3 g3=>?_)
   refine Ok.bind (Ok.app (by simp only [List.length_cons,List.length_nil];omega)) (fun y4 g4=>?_)
   refine Ok.bind (eI _ _ g2.2.2 sm sm) (fun y5 g5=>?_)
   refine Ok.bind (Ok.quo za) (fun y6 g6=>?_)
   rw [hp]at g6;subst g6
   refine Ok.bind (eI _ _ g5.2 sm sm) (fun y7 g7=>?_)
   have a1:0<=y5.1∧y5.1<=35:=by have:=g5.1;simp at this;omega
   have a2:0<=y7.1∧y7.1<=30:=by have:=g7.1;simp at this;omega
   rw [w64 (n:=y5.1+y6) za za,w64 (n:=s3+(y5.1+y6)) za za,w64 (n:=s5+1) za za,w64 (by split<;>omega) (by split<;>omega)]
   subst g3 g4
   refine Ok.nx ⟨⟨zc,zc⟩,?_,?_,⟨zc,zc⟩,⟨by simp only;split<;>omega,by simp only;split<;>omega⟩,g7.2,snoc_le i6 fun y hy=>(i8 y hy).2,snoc_le i7 fun y hy=>(i9 y hy).2,?_,?_,by simp only;split<;>omega,?_⟩ zc
   ·simp only [List.length_append,List.length_cons,List.length_nil];omega
   ·simp only [List.length_append,List.length_cons,List.length_nil];omega
   ·intro x hx
    simp only [List.mem_append,List.mem_singleton]at hx
    rcases hx with hx|rfl
    ·have:=i8 x hx;simp only;omega
    ·simp only;omega
   ·intro x hx
    simp only [List.mem_append,List.mem_singleton]at hx
    rcases hx with hx|rfl
    ·have:=i9 x hx;simp only;split<;>omega
    ·simp only;split<;>omega
   ·intro i h h'
    simp only [List.length_append,List.length_cons,List.length_nil]at h h'
    by_cases hi:i<s8.length
    ·rw [List.getElem_append_left hi,List.getElem_append_left za]
     exact i11 i hi za
    ·have e1:i=s8.length:=by omega
     rw [List.getElem_append_right za,List.getElem_append_right za]
     simp only [List.getElem_singleton];omega
  ·refine Ok.st ⟨g2.2.2,⟨zc,zc⟩,⟨zc,zc⟩,zc,i6,i7,fun x hx=>(i8 x hx).1,fun x hx=>by have:=i9 x hx;omega,i11,?_,fun x hx=>by have:=i8 x hx;omega⟩
   rw [<-qf]
   exact Int.mul_le_mul_of_nonneg_left zc za
 ·intro o ho
  exact Ok.ret ⟨ho.2,ho.1⟩
theorem reg_ok{k:Int}(hk:0<=k∧k<=4)(d:Src)(hd:b9 d):Ok (oq 20 k d) (fun r=>eB 20 r.1.aI):=by
 unfold oq
 rw [w64 (n:=k+1) za za]
 refine Ok.bind (lW 20 za za d hd) (fun y0 g0=>?_)
 refine Ok.bind (d7 _ _ g0.2 za za) (fun y1 g1=>?_)
 refine Ok.bind (d7 _ _ g1.2.2 za za) (fun y2 g2=>?_)
 refine Ok.bind (d7 _ _ g2.2.2 za za) (fun y3 g3=>?_)
 exact Ok.ret g0.1
theorem assocV{k:Int}(hk:0<=k∧k<=4)(d:Src)(hd:b9 d):Ok (dR k d) (fun r=>((eM r.1.aM∧eB 20 r.1.aM.aI)∧nO r.1.aW∧(1<=r.1.cG∧r.1.cG<=1000)∧(0<=r.1.bf∧r.1.bf<=1000)∧(0<=r.1.dC∧r.1.dC<=5000)∧(0<=r.1.d9∧r.1.d9<=1000)∧(2<=r.1.co∧r.1.co<=3))∧b9 r.2):=by
 unfold dR
 refine Ok.bind ((box_ok 20 k za za za za d hd).both (reg_ok hk d hd)) (fun x1 h1=>?_)
 refine Ok.bind (tableV _ h1.1.2) (fun x2 h2=>?_)
 refine Ok.bind (eI _ _ h2.2 sm sm) (fun x3 h3=>?_)
 refine Ok.bind (eI _ _ h3.2 sm sm) (fun x4 h4=>?_)
 refine Ok.bind (eI _ _ h4.2 sm sm) (fun x5 h5=>?_)
 refine Ok.bind (eI _ _ h5.2 sm sm) (fun x6 h6=>?_)
 refine Ok.bind (d7 _ _ h6.2 za za) (fun x7 h7=>?_)
 have a3:=h3.1
 have a4:=h4.1
 have a5:=h5.1
 have a6:=h6.1
 simp at a3 a4 a5 a6
 rw [w64 (n:=2+x7.1) za za]
 exact Ok.ret ⟨⟨⟨h1.1.1,h1.2⟩,h2.1,zc,zc,zc,zc,zc⟩,h7.2.2⟩
theorem third{x:Int}(h:0<=x)(h':x<=1000000):IntKind.wrap .i64 (x.tdiv 3)=x / 3:=by
 rw [Int.tdiv_eq_ediv_of_nonneg h,w64 za za]
theorem tab_third{t:aA}(h:nO t):nO ⟨t.aZ,t.aI.map (· / 3),t.aC.map (· / 3)⟩:=by
 obtain⟨h1,h2,h3,h4,h5,h6,h7,h8,h9,h10⟩:=h
 refine⟨h1,by simpa using h2,by simpa using h3,?_,?_,?_,?_,?_,by simpa using h9,fun x hx=>by obtain⟨y,hy,rfl⟩:=List.mem_map.1 hx;have:=h10 y hy;have:=h6 y hy;omega⟩
 ·rw [List.pairwise_map];exact h4.imp fun h=>by omega
 ·rw [List.pairwise_map];exact h5.imp fun h=>by omega
 ·intro x hx
  obtain⟨y,hy,rfl⟩:=List.mem_map.1 hx
  have:=h6 y hy;omega
 ·intro x hx
  obtain⟨y,hy,rfl⟩:=List.mem_map.1 hx
  have:=h7 y hy;omega
 ·intro i h h'
  simp only [List.length_map]at h h'
  simp only [List.getElem_map]
  have:=h8 i h h';omega
theorem scaleV(d:Src)(hd:b9 d):Ok (kd d) (fun r=>(nO r.1.bC∧(0<=r.1.bd∧r.1.bd<=20)∧(1<=r.1.aY∧r.1.aY<=20))∧b9 r.2):=by
 unfold kd
 refine Ok.bind (tableV _ hd) (fun x1 h1=>?_)
 refine Ok.bind (d7 _ _ h1.2 za za) (fun x2 h2=>?_)
 refine Ok.bind (d7 _ _ h2.2.2 za za) (fun x3 h3=>?_)
 have hT:=h1.1
 have hl:=hT.len;have hs:=hT.same
 generalize hL:x1.1.aI=L at*
 generalize hH:x1.1.aC=H at*
 refine Ok.bind (P:=fun o=>o=(L.map (· / 3),H.map (· / 3))) (Ok.loop (fun s:Int×List Int×List Int=>∃i:Nat,s=((i:Int),(L.take i).map (· / 3)++L.drop i,(H.take i).map (· / 3)++H.drop i)∧i<=L.length) (fun s=>((L.length:Int)-s.1).toNat) ?_ ⟨0,sm,Nat.zero_le _⟩) (fun o ho=>?_)
 ·rintro s ⟨i,rfl,hi⟩
  unfold lF
  dsimp only
  rw [hL]
  refine Ok.gv (fun hlt=>?_) (fun hge=>?_)
  ·have hi:i<L.length:=by omega
   have hi':i<H.length:=by omega
   have b1:=hT.lows (L[i]) (by rw [hL];exact List.getElem_mem hi)
   have b2:=hT.highs (H[i]) (by rw [hH];exact List.getElem_mem hi')
   have b3:=hT.lh i (by rw [hL];exact hi) (by rw [hH];exact hi')
   simp only [hL,hH]at b3
   have hdrop:∀{M:List Int}(h:i<M.length),(M.take i).map (· / 3)++M.drop i=(M.take i).map (· / 3)++M[i]::M.drop (i+1):=fun{M}h=>by rw [List.drop_eq_getElem_cons h]
   have hlen:∀{M:List Int},i<M.length->((M.take i).map (· / 3)).length=i:=fun{M}h=>by simp;omega
   have hset:∀{M:List Int}(h:i<M.length),(M.take i).map (· / 3)++M[i] / 3::M.drop (i+1)=(M.take (i+1)).map (· / 3)++M.drop (i+1):=fun{M}h=>by
    rw [pB h,List.map_append,List.append_assoc];rfl
   rw [hdrop hi,hdrop hi']
   have n1:∀{M:List Int}(h:i<M.length)(z:Int),inO ((M.take i).map (· / 3)++z::M.drop (i+1)) (i:Int)=some ():=fun{M}h z=>si za (by rw [List.length_append,hlen h];simp;omega)
   rw [n1 hi,zd,get1 _ _ _ (by rw [hlen hi]),zd]
   refine Ok.bind (Ok.quo za) (fun y2 g2=>?_)
   rw [third b1 za]at g2
   subst g2
   rw [n1 hi',zd,get1 _ _ _ (by rw [hlen hi']),zd]
   refine Ok.bind (Ok.quo za) (fun y4 g4=>?_)
   rw [third b2.1 za]at g4
   subst g4
   rw [zd,set1 _ _ _ _ (by rw [hlen hi]),zd,zd,set1 _ _ _ _ (by rw [hlen hi']),zd,w64 za za,hset hi,hset hi']
   exact Ok.nx ⟨i+1,sm,za⟩ zc
  ·have:i=L.length:=by omega
   subst this
   refine Ok.st ?_
   rw [List.take_length,List.drop_length,List.append_nil,List.take_of_length_le za,List.drop_of_length_le za,List.append_nil]
 ·subst ho
  rw [w64 (n:=1+x3.1) za za]
  have:=tab_third hT
  rw [hL,hH]at this
  exact Ok.ret ⟨⟨this,zc,zc⟩,h3.2.2⟩
structure iZ(s:ar):Prop where
 box:eM s.ae.aM
 reg:eB 20 s.ae.aM.aI
 tab:nO s.ae.aW
 cap:1<=s.ae.cG∧s.ae.cG<=1000
 tol:0<=s.ae.bf∧s.ae.bf<=1000
 span:0<=s.ae.dC∧s.ae.dC<=5000
 limit:0<=s.ae.d9∧s.ae.d9<=1000
 least:2<=s.ae.co∧s.ae.co<=3
 cor:nO s.cm.bC
 num:0<=s.cm.bd∧s.cm.bd<=20
 den:1<=s.cm.aY∧s.cm.aY<=20
 tolerance:0<=s.bf∧s.bf<=1000
theorem settingsV{k:Int}(hk:0<=k∧k<=4)(d:Src)(hd:b9 d):Ok (dJ k d) (fun r=>iZ r.1∧b9 r.2):=by
 unfold dJ
 refine Ok.bind (assocV hk d hd) (fun x1 h1=>?_)
 refine Ok.bind (scaleV _ h1.2) (fun x2 h2=>?_)
 refine Ok.bind (eI _ _ h2.2 sm sm) (fun x3 h3=>?_)
 have a3:=h3.1
 simp at a3
 obtain⟨⟨⟨a,a'⟩,b,c,e,f,g,h⟩, -⟩:=h1
 exact Ok.ret ⟨⟨a,a',b,c,e,f,g,h,h2.1.1,h2.1.2.1,h2.1.2.2,zc⟩,h3.2⟩
theorem gp{p:aa}(h:eB 60 p):c6 p=some true:=by
 obtain⟨h1,h2,h3⟩:=h
 refine Ok.eq ?_
 unfold c6 bB
 rw [zd]
 dsimp only
 exact Ok.gv (fun _=>za) (fun _=>Ok.gv (fun _=>za) (fun _=>Ok.gv (fun _=>za) (fun _=>Ok.gv (fun _=>za) (fun _=>Ok.gv (fun _=>za) (fun _=>Ok.gv (fun _=>za) (fun _=>Ok.ret rfl))))))
theorem jF{b:ag}(h:eM b):eB 60 b.aI∧eB 60 b.aC:=by
 obtain⟨⟨h1,h2,h3⟩,h4,h5,h6⟩:=h
 exact⟨⟨za,za,za⟩,za,za,za⟩
theorem dp{b:ag}(h:eM b):bD b=some true:=by
 obtain⟨hl,hh⟩:=jF h
 obtain⟨-,h4,h5,h6⟩:=h
 refine Ok.eq ?_
 unfold bD
 rw [gp hl,zd,if_neg sm,gp hh,zd,if_neg sm]
 unfold bB
 rw [zd,zd]
 dsimp only
 exact Ok.gv (fun _=>za) (fun _=>Ok.gv (fun _=>za) (fun _=>Ok.gv (fun _=>za) (fun _=>Ok.ret rfl)))
theorem set_valid{s:ar}(h:iZ s):eJ s=some 0:=by
 obtain⟨h1, -,h2,h3,h4,h5,h6,h7,h8,h9,h10,h11⟩:=h
 have hin:∀{x a b:Int},a<=x->x<=b->d6 x a b=some true:=fun h h'=>by
  unfold d6;rw [if_pos (by simpa using h)];simpa using h'
 have ha:dt s.ae []=some 0:=by
  unfold dt
  rw [dp h1,zd,if_neg sm,fc h2,zd,if_neg sm,hin za za,zd,if_neg sm,hin za za,zd,if_neg sm,hin za za,zd,if_neg sm,hin za za,zd,if_neg sm,hin za za,zd,if_neg sm,if_neg sm]
  have:db [] s.ae (0:Int)=some (.stop (.inl ())):=by
   unfold db
   rw [if_neg sm]
  rw [gI this];rfl
 have hm:c7 s.cm=some true:=by
  unfold c7
  rw [fc h8,zd,if_pos sm,if_pos so,if_pos so,if_pos so]
  simp;omega
 unfold eJ
 rw [ha,zd,if_neg sm,hm,zd,if_neg sm,if_neg so,if_neg so]
theorem l8{x:Int}(h: -120<=x∧x<=120):0<=x*x∧x*x<=14400:=by
 constructor
 ·rcases Int.le_total 0 x with h'|h'
  ·exact Int.mul_nonneg h' h'
  ·exact Int.mul_nonneg_of_nonpos_of_nonpos h' h'
 ·rcases Int.le_total 0 x with h'|h'
  ·exact Int.mul_le_mul h.2 h.2 h' za
  ·rw [<-Int.neg_mul_neg]
   exact Int.mul_le_mul (show-x<=120 by omega) (show-x<=120 by omega) za za
def ne(x l h:Int):Int:=max 0 (max (l-x) (x-h))
def fa(x l h:Int):Int:=max (h-x) (x-l)
def k9(b:ag)(p:aa):Int:=ne p.fX b.aI.fX b.aC.fX*ne p.fX b.aI.fX b.aC.fX+ne p.fY b.aI.fY b.aC.fY*ne p.fY b.aI.fY b.aC.fY+ne p.fZ b.aI.fZ b.aC.fZ*ne p.fZ b.aI.fZ b.aC.fZ
def lg(b:ag)(p:aa):Int:=fa p.fX b.aI.fX b.aC.fX*fa p.fX b.aI.fX b.aC.fX+fa p.fY b.aI.fY b.aC.fY*fa p.fY b.aI.fY b.aC.fY+fa p.fZ b.aI.fZ b.aC.fZ*fa p.fZ b.aI.fZ b.aC.fZ
theorem qT{a b c:Int}(ha: -60<=a∧a<=60)(hb: -60<=b∧b<=60)(hc: -60<=c∧c<=60):e9 a b c=some (ne a b c)∧0<=ne a b c∧ne a b c<=120:=by
 unfold e9 ne
 rw [w64 (n:=a-c) za za,w64 (n:=b-a) za za]
 refine⟨congrArg some ?_,za,za⟩
 split<;>split<;>omega
theorem pA{a b c:Int}(ha: -60<=a∧a<=60)(hb: -60<=b∧b<=60)(hc: -60<=c∧c<=60)(hbc:b<=c):eF a b c=some (fa a b c)∧0<=fa a b c∧fa a b c<=120:=by
 unfold eF fa
 rw [w64 (n:=a-b) za za,w64 (n:=c-a) za za]
 refine⟨congrArg some ?_,za,za⟩
 split<;>omega
theorem sum_at{x y z:Int}(hx:0<=x∧x<=120)(hy:0<=y∧y<=120)(hz:0<=z∧z<=120):
  IntKind.wrap .i64 ((IntKind.wrap .i64 ((IntKind.wrap .i64 ((0:Int)+(IntKind.wrap .i64 (x*x))))+(IntKind.wrap .i64 (y*y))))+(IntKind.wrap .i64 (z*z)))=x*x+y*y+z*z∧0<=x*x+y*y+z*z∧x*x+y*y+z*z<=43200:=by
 have h1:=l8 (x:=x) za
 have h2:=l8 (x:=y) za
 have h3:=l8 (x:=z) za
 rw [w64 (n:=x*x) za za,w64 (n:=y*y) za za,w64 (n:=z*z) za za,w64 (n:=0+x*x) za za,w64 (n:=0+x*x+y*y) za za,w64 za za]
 exact⟨za,za,za⟩
theorem om{b:ag}(hb:eM b){p:aa}(hp:eB 60 p):eZ b p=some (k9 b p)∧0<=k9 b p∧k9 b p<=43200:=by
 obtain⟨hl,hh⟩:=jF hb
 obtain⟨e1,a1⟩:=qT hp.1 hl.1 hh.1
 obtain⟨e2,a2⟩:=qT hp.2.1 hl.2.1 hh.2.1
 obtain⟨e3,a3⟩:=qT hp.2.2 hl.2.2 hh.2.2
 obtain⟨e,h⟩:=sum_at a1 a2 a3
 refine⟨?_,h⟩
 unfold eZ gH bB
 rw [Option.bind_fun_some,dp hb,zd,if_neg sm,gp hp,zd,if_neg sm]
 simp only [zd,e1,e2,e3,e]
 rfl
theorem qA{b:ag}(hb:eM b){p:aa}(hp:eB 60 p):gF b p=some (lg b p)∧0<=lg b p∧lg b p<=43200:=by
 obtain⟨hl,hh⟩:=jF hb
 obtain⟨-,b1,b2,b3⟩:=id hb
 obtain⟨e1,a1⟩:=pA hp.1 hl.1 hh.1 za
 obtain⟨e2,a2⟩:=pA hp.2.1 hl.2.1 hh.2.1 za
 obtain⟨e3,a3⟩:=pA hp.2.2 hl.2.2 hh.2.2 za
 obtain⟨e,h⟩:=sum_at a1 a2 a3
 refine⟨?_,h⟩
 unfold gF gg bB
 rw [Option.bind_fun_some,dp hb,zd,if_neg sm,gp hp,zd,if_neg sm]
 simp only [zd,e1,e2,e3,e]
 rfl
theorem sq_le{x y:Int}(h0:0<=x)(h:x<=y):x*x<=y*y:=Int.mul_le_mul h h h0 za
theorem lV{b:ag}(hb:eM b)(p:aa):k9 b p<=lg b p:=by
 obtain⟨-,b1,b2,b3⟩:=hb
 have k:∀x l h:Int,l<=h->ne x l h*ne x l h<=fa x l h*fa x l h:=fun x l h hlh=>sq_le (by unfold ne;omega) (by unfold ne fa;omega)
 have:=k p.fX b.aI.fX b.aC.fX za
 have:=k p.fY b.aI.fY b.aC.fY za
 have:=k p.fZ b.aI.fZ b.aC.fZ za
 unfold k9 lg;omega
structure Sub(r b:ag):Prop where
 x:r.aI.fX<=b.aI.fX∧b.aI.fX<=b.aC.fX∧b.aC.fX<=r.aC.fX
 y:r.aI.fY<=b.aI.fY∧b.aI.fY<=b.aC.fY∧b.aC.fY<=r.aC.fY
 z:r.aI.fZ<=b.aI.fZ∧b.aI.fZ<=b.aC.fZ∧b.aC.fZ<=r.aC.fZ
theorem rA{r b:ag}(h:Sub r b)(p:aa):lg b p<=lg r p:=by
 obtain⟨h1,h2,h3⟩:=h
 have k:∀x l h l' h':Int,l'<=l->l<=h->h<=h'->fa x l h*fa x l h<=fa x l' h'*fa x l' h':=fun x l h l' h' a b c=>sq_le (by unfold fa;omega) (by unfold fa;omega)
 have:=k p.fX _ _ _ _ h1.1 h1.2.1 h1.2.2
 have:=k p.fY _ _ _ _ h2.1 h2.2.1 h2.2.2
 have:=k p.fZ _ _ _ _ h3.1 h3.2.1 h3.2.2
 unfold lg;omega
theorem half_at:∀x:Nat,x<600->IntKind.wrap .i64 (jf .u64 (IntKind.wrap .u64 (IntKind.wrap .i64 (x:Int))) 1)=((x / 2:Nat):Int):=by decide+kernel
theorem search_ok{t:aA}(ht:nO t)(d:Int)(hd:d<=t.aZ*((t.aI.length:Int)-1)):Ok (dF (t.aC.length:Int) t d) (fun r=>(0<=r∧r<t.aC.length)∧d<=r*t.aZ):=by
 have hl:=ht.len;have hs:=ht.same;have hst:=ht.step
 unfold dF
 rw [Option.bind_fun_some]
 refine Ok.loop (fun s=>∃i j:Nat,s=((i:Int),(j:Int))∧i<t.aC.length∧i<=j∧j<=t.aC.length∧(j<t.aC.length->d<=(j:Int)*t.aZ)) (fun s=>(s.2-s.1).toNat) ?_ ⟨0,t.aC.length,rfl,za,za,Nat.le_refl _,fun h=>za⟩
 rintro s ⟨i,j,rfl,i0,i1,i2,i3⟩
 unfold f9
 dsimp only
 refine Ok.gv (fun hlt=>?_) (fun hge=>Ok.st ⟨⟨za,za⟩,?_⟩)
 rotate_left
 ·obtain rfl:i=j:=by omega
  exact i3 i0
 have hh:=half_at (i+j) za
 rw [Int.natCast_add]at hh
 have hk1:(i+j) / 2<j:=by omega
 have hk2:i<=(i+j) / 2:=by omega
 rw [hh]
 generalize (i+j) / 2=k at*
 unfold gc
 have hb:0<=(k:Int)*t.aZ∧(k:Int)*t.aZ<=30*100:=⟨Int.mul_nonneg za za,Int.mul_le_mul za za za za⟩
 rw [w64 (n:=(k:Int)*t.aZ) za za,zd]
 refine Ok.iteND (fun hlt=>?_) (fun hle=>Ok.nx ⟨i,k,rfl,i0,hk2,za,fun _=>hle⟩ zc)
 rw [w64 za za]
 refine Ok.nx ⟨k+1,j,sm,?_,za,i2,i3⟩ zc
 have h1:(k:Int)*t.aZ<t.aZ*((t.aI.length:Int)-1):=by omega
 rw [Int.mul_comm]at h1
 have:=Int.lt_of_mul_lt_mul_left h1 za
 omega
theorem asc_le{l:List Int}(h:l.Pairwise (· <= ·)){i j:Nat}(hij:i<=j)(hj:j<l.length):l[i]<=l[j]:=by
 rcases Nat.lt_or_eq_of_le hij with h1|rfl
 ·exact List.pairwise_iff_getElem.1 h i j _ _ h1
 ·exact Int.le_refl _
def kM(t:aA):Int:=t.aZ*((t.aI.length:Int)-1)
def Reach(t:aA)(f:Int):Prop:=f<=kM t*kM t
theorem mT{t:aA}(ht:nO t)(n f:Int)(h0:0<=n)(hnf:n<=f)(hf:f<=65535):Ok (bZ t n f) (fun r=>(r.2.2=0↔Reach t f)∧(r.2.2=0->0<=r.1∧r.1<=r.2.1∧r.2.1<=5000)):=by
 have hl:=ht.len;have hs:=ht.same;have hst:=ht.step
 unfold bZ
 rw [fc ht,zd,if_neg sm]
 refine Ok.gv (fun _=>za) (fun _=>Ok.gv (fun _=>za) (fun h1=>?_))
 refine Ok.bind (ceil_ok f za hf) (fun c hc=>?_)
 obtain⟨hc0,hc1,hc2⟩:=hc
 have hb:0<=t.aZ*((t.aI.length:Int)-1)∧t.aZ*((t.aI.length:Int)-1)<=100*30:=⟨Int.mul_nonneg za za,Int.mul_le_mul za za za za⟩
 have hR:Reach t f↔c<=kM t:=by
  unfold Reach
  constructor
  ·intro h;exact hc2 _ hb.1 h
  ·intro h;exact Int.le_trans hc1 (sq_le hc0.1 h)
 unfold kY
 rw [zd,w64 (n:=(t.aI.length:Int)-1) za za,w64 za za]
 refine Ok.gv (fun h2=>Ok.ret ⟨⟨fun h=>by simp at h,fun h=>?_⟩,fun h=>by simp at h⟩) (fun h2=>?_)
 ·have:=hR.1 h;unfold kM at this;omega
 refine Ok.bind (search_ok ht c za) (fun u hu=>?_)
 refine Ok.bind (floor_ok n za) (fun x hx=>?_)
 obtain⟨⟨x0,x1⟩,x2, -⟩:=hx
 have x2:=x2 h0
 have hxc:x<=c:=by
  apply Classical.byContradiction
  intro h
  have:(c+1)*(c+1)<=x*x:=Int.mul_le_mul za za za za
  have h4:(c+1)*(c+1)=c*c+2*c+1:=by rw [Int.add_mul,Int.mul_add];omega
  omega
 refine Ok.bind (Ok.quo za) (fun q hq=>?_)
 have hq0:0<=x.tdiv t.aZ:=Int.tdiv_nonneg x0 za
 have hq1:x.tdiv t.aZ<=(t.aI.length:Int)-1:=by
  rw [Int.tdiv_eq_ediv_of_nonneg x0]
  exact Int.ediv_le_of_le_mul za (by rw [Int.mul_comm];omega)
 have hq2:x.tdiv t.aZ<=u:=by
  rw [Int.tdiv_eq_ediv_of_nonneg x0]
  exact Int.ediv_le_of_le_mul za za
 rw [w64 za za]at hq
 subst hq
 refine Ok.bind (Ok.get hq0 za) (fun a ha=>?_)
 refine Ok.bind (Ok.get hu.1.1 hu.1.2) (fun b hb'=>Ok.ret ⟨⟨fun _=>hR.2 (by unfold kM;omega),fun _=>rfl⟩,fun _=>⟨ht.lows _ ha.1,?_,(ht.highs _ hb'.1).2⟩⟩)
 obtain⟨i1,e1⟩:=List.getElem?_eq_some_iff.1 ha.2
 obtain⟨i2,e2⟩:=List.getElem?_eq_some_iff.1 hb'.2
 have k1:=asc_le ht.low (i:=(x.tdiv t.aZ).toNat) (j:=u.toNat) za za
 have k2:=ht.lh u.toNat za i2
 simp only
 omega
def eK(z:aK):Prop:= -5000<=z.bj∧z.bj<=z.fTo∧z.fTo<=18014398509481984
structure PhV(a:aj):Prop where
 pos:eB 60 a.aN
 early:0<=a.aQ
 late:a.aQ<=a.bw
 most:a.bw<=18014398509481984
 weight:a.bJ=1
theorem sc{t:aA}(ht:nO t){b:ag}(hb:eM b){a:aj}(ha:PhV a):Ok (du t b a) (fun r=>(r.2=0↔Reach t (lg b a.aN))∧(r.2=0->eK r.1)):=by
 obtain⟨ha,h1,h2,h3,h4⟩:=ha
 have hv:dc a=some true:=by
  refine Ok.eq ?_
  unfold dc
  rw [gp ha,zd,if_pos rfl,if_pos (by simpa using h1),if_pos (by simpa using h2),if_pos (by simpa using h3),if_pos (by simp [h4])]
  exact Ok.ret (by simp [h4])
 unfold du
 rw [fc ht,zd,if_neg sm,dp hb,zd,if_neg sm,hv,zd,if_neg sm]
 obtain⟨e1,n0,n1⟩:=om hb ha
 obtain⟨e2,f0,f1⟩:=qA hb ha
 refine Ok.bind (P:=fun r=>(r.2.2=0↔Reach t (lg b a.aN))∧(r.2.2=0->0<=r.1∧r.1<=r.2.1∧r.2.1<=5000)) ?_ (fun r hr=>?_)
 ·unfold d8 ib
  rw [fc ht,zd,if_neg sm,dp hb,zd,if_neg sm,gp ha,zd,if_neg sm,e1,e2]
  simp only [zd]
  exact Ok.bind (mT ht _ _ n0 (lV hb _) za) (fun r hr=>Ok.ret hr)
 ·refine Ok.rm (fun h=>Ok.ret ⟨⟨fun h'=>(h h').elim,fun h'=>(h (hr.1.2 h')).elim⟩,fun h'=>(h h').elim⟩) (fun h=>Ok.ret ⟨⟨fun _=>hr.1.1 h,fun _=>rfl⟩,fun _=>?_⟩)
  have:=hr.2 h
  unfold eK
  simp only
  rw [w64 za za,w64 za za]
  exact⟨za,za,za⟩
end Go.Dw.Em
set_option maxRecDepth 100000
set_option maxHeartbeats 4000000
namespace Go.Dw.Em
open Go.Dw Go.Proofs
theorem Sub.ok{r b:ag}(hr:eM r)(hp:eB 20 r.aI)(h:Sub r b):eM b:=by
 obtain⟨-,h1,h2,h3⟩:=hr
 obtain⟨p1,p2,p3⟩:=hp
 obtain⟨x,y,z⟩:=h
 exact⟨⟨za,za,za⟩,za,za,za⟩
theorem Sub.refl{r:ag}(hr:eM r):Sub r r:=by
 obtain⟨-,h1,h2,h3⟩:=hr
 exact⟨za,za,za⟩
theorem Sub.low{r b:ag}(h:Sub r b):Sub r ⟨b.aI,b.aI⟩:=by
 obtain⟨x,y,z⟩:=h
 exact⟨⟨zc,zc,zc⟩,⟨zc,zc,zc⟩,⟨zc,zc,zc⟩⟩
theorem Sub.high{r b:ag}(h:Sub r b):Sub r ⟨b.aC,b.aC⟩:=by
 obtain⟨x,y,z⟩:=h
 exact⟨⟨zc,zc,zc⟩,⟨zc,zc,zc⟩,⟨zc,zc,zc⟩⟩
theorem within_at{r b:ag}(hr:eM r)(hp:eB 20 r.aI)(h:Sub r b):jI b r=some true:=by
 have hb:=h.ok hr hp
 obtain⟨pl,ph⟩:=jF hb
 have k:∀p,Sub r ⟨p,p⟩->eB 60 p->fC r p=some true:=fun p⟨x,y,z⟩hq=>by
  unfold fC
  rw [dp hr,zd,if_pos rfl,gp hq,zd,if_pos rfl,(om hr hq).1,zd]
  simp only at x y z
  have e1:ne p.fX r.aI.fX r.aC.fX=0:=by unfold ne;omega
  have e2:ne p.fY r.aI.fY r.aC.fY=0:=by unfold ne;omega
  have e3:ne p.fZ r.aI.fZ r.aC.fZ=0:=by unfold ne;omega
  unfold k9
  rw [e1,e2,e3];rfl
 unfold jI
 rw [dp hb,zd,if_pos rfl,k _ h.low pl,zd,if_pos rfl,k _ h.high ph];rfl
theorem mf{a b:Int}(ha: -60<=a∧a<=b∧b<=60):bP a b=some (a+(b-a) / 2):=by
 unfold bP
 rw [w64 (n:=b-a) za za]
 have:su .i64 (b-a) 2=some ((b-a) / 2):=by
  unfold su
  rw [if_neg za,Int.tdiv_eq_ediv_of_nonneg za,w64 za za]
 rw [this,zd,w64 za za]
theorem center_ok{r b:ag}(hr:eM r)(hp:eB 20 r.aI)(h:Sub r b):Ok (fu b) (fun p=>Sub r ⟨p,p⟩):=by
 have hb:=h.ok hr hp
 obtain⟨⟨l1,l2,l3⟩,h1,h2,h3⟩:=jF hb
 obtain⟨x,y,z⟩:=h
 unfold fu bB bG
 rw [dp hb,zd,if_neg sm,zd,zd]
 simp only
 rw [mf za,zd,mf za,zd,mf za,zd]
 exact Ok.ret ⟨zc,zc,zc⟩
def pts(b:ag):Int:=(b.aC.fX-b.aI.fX+1)*(b.aC.fY-b.aI.fY+1)*(b.aC.fZ-b.aI.fZ+1)
theorem mul_in{x y m n:Int}(h1:1<=x∧x<=m)(h2:1<=y∧y<=n):1<=x*y∧x*y<=m*n:=
 ⟨Int.le_trans (by omega:(1:Int)<=1*1) (Int.mul_le_mul h1.1 h2.1 za za),Int.mul_le_mul h1.2 h2.2 za za⟩
theorem pts_in{b:ag}(h:eM b):1<=pts b∧pts b<=125:=by
 obtain⟨-,h1,h2,h3⟩:=h
 have k:=mul_in (mul_in (x:=b.aC.fX-b.aI.fX+1) (y:=b.aC.fY-b.aI.fY+1) (m:=5) (n:=5) za za) (y:=b.aC.fZ-b.aI.fZ+1) (n:=5) za
 unfold pts
 omega
theorem points_at{b:ag}(h:eM b):jH b=some (pts b):=by
 have hp:=pts_in h
 obtain⟨hl,hh⟩:=jF h
 obtain⟨l1,l2,l3⟩:=hl
 obtain⟨h1,h2,h3⟩:=hh
 have hv:=dp h
 obtain⟨-,s1,s2,s3⟩:=h
 have k1:=mul_in (x:=b.aC.fX-b.aI.fX+1) (y:=b.aC.fY-b.aI.fY+1) (m:=5) (n:=5) za za
 unfold jH bB
 unfold pts at hp⊢
 rw [hv,zd,if_neg sm,zd,zd]
 simp only
 rw [w64 (n := b.aC.fX - b.aI.fX) za za, w64 (n := b.aC.fX - b.aI.fX + 1) za za, w64 (n := 1 * (b.aC.fX - b.aI.fX + 1)) za za, Int.one_mul,
  w64 (n:=b.aC.fY-b.aI.fY) za za,w64 (n:=b.aC.fY-b.aI.fY+1) za za,w64 (n:=(b.aC.fX-b.aI.fX+1)*(b.aC.fY-b.aI.fY+1)) za za,
  w64 (n:=b.aC.fZ-b.aI.fZ) za za,w64 (n:=b.aC.fZ-b.aI.fZ+1) za za,w64 za za]
theorem one_side{x:Int}(h:1<=x){y z:Int}(hy:1<=y)(hz:1<=z)(hn:2<=x*y*z):2<=x∨2<=y∨2<=z:=by
 by_cases h1:x=1
 ·by_cases h2:y=1
  ·subst h1 h2;right;right;omega
  ·right;left;omega
 ·left;omega
theorem zr{r b:ag}(hr:eM r)(hp:eB 20 r.aI)(h:Sub r b):Ok (fg b) (fun s=>s.2.2=true->Sub r s.1∧Sub r s.2.1∧pts s.1+pts s.2.1=pts b):=by
 have hb:=h.ok hr hp
 obtain⟨⟨l1,l2,l3⟩,h1,h2,h3⟩:=jF hb
 have hpt:=points_at hb
 obtain⟨-,s1,s2,s3⟩:=id hb
 obtain⟨x,y,z⟩:=h
 unfold fg bB bG
 rw [hpt,zd]
 refine Ok.gv (fun _=>Ok.ret sm) (fun hn=>?_)
 have hbig:=one_side (x:=b.aC.fX-b.aI.fX+1) (y:=b.aC.fY-b.aI.fY+1) (z:=b.aC.fZ-b.aI.fZ+1) za za za (by unfold pts at hn;omega)
 simp only [zd]
 rw [w64 (n:=b.aC.fX-b.aI.fX) za za,w64 (n:=b.aC.fY-b.aI.fY) za za,w64 (n:=b.aC.fZ-b.aI.fZ) za za]
 have cX:2<=b.aC.fX-b.aI.fX+1->Ok ((bP b.aI.fX b.aC.fX).bind fun x17=>some (ag.mk b.aI (aa.mk x17 b.aC.fY b.aC.fZ),ag.mk (aa.mk (IntKind.wrap .i64 (x17+(1:Int))) b.aI.fY b.aI.fZ) b.aC,true)) (fun s:ag×ag×Bool=>s.2.2=true->Sub r s.1∧Sub r s.2.1∧pts s.1+pts s.2.1=pts b):=fun h2=>by
  rw [mf za,zd,w64 za za]
  refine Ok.ret fun _=>⟨⟨zc,zc,zc⟩,⟨zc,zc,zc⟩,?_⟩
  unfold pts
  simp only
  rw [<-Int.add_mul, <-Int.add_mul]
  congr 2;omega
 have cY:2<=b.aC.fY-b.aI.fY+1->Ok ((bP b.aI.fY b.aC.fY).bind fun x10=>some (ag.mk b.aI (aa.mk b.aC.fX x10 b.aC.fZ),ag.mk (aa.mk b.aI.fX (IntKind.wrap .i64 (x10+(1:Int))) b.aI.fZ) b.aC,true)) (fun s:ag×ag×Bool=>s.2.2=true->Sub r s.1∧Sub r s.2.1∧pts s.1+pts s.2.1=pts b):=fun h2=>by
  rw [mf za,zd,w64 za za]
  refine Ok.ret fun _=>⟨⟨zc,zc,zc⟩,⟨zc,zc,zc⟩,?_⟩
  unfold pts
  simp only
  rw [<-Int.add_mul, <-Int.mul_add]
  congr 2;omega
 have cZ:2<=b.aC.fZ-b.aI.fZ+1->Ok ((bP b.aI.fZ b.aC.fZ).bind fun x7=>some (ag.mk b.aI (aa.mk b.aC.fX b.aC.fY x7),ag.mk (aa.mk b.aI.fX b.aI.fY (IntKind.wrap .i64 (x7+(1:Int)))) b.aC,true)) (fun s:ag×ag×Bool=>s.2.2=true->Sub r s.1∧Sub r s.2.1∧pts s.1+pts s.2.1=pts b):=fun h2=>by
  rw [mf za,zd,w64 za za]
  refine Ok.ret fun _=>⟨⟨zc,zc,zc⟩,⟨zc,zc,zc⟩,?_⟩
  unfold pts
  simp only
  rw [<-Int.mul_add]
  congr 1;omega
 exact Ok.gv (fun _=>Ok.gv (fun _=>cZ za) (fun _=>cY za)) (fun _=>Ok.gv (fun _=>cZ za) (fun _=>cX za))
theorem hull_ok{r a b:ag}(hr:eM r)(hp:eB 20 r.aI)(ha:Sub r a)(hb:Sub r b):Ok (lI a b) (Sub r):=by
 unfold lI bB bG
 rw [dp (ha.ok hr hp),zd,if_neg sm,dp (hb.ok hr hp),zd,if_neg sm]
 simp only [zd]
 obtain⟨a1,a2,a3⟩:=ha
 obtain⟨b1,b2,b3⟩:=hb
 exact Ok.ret ⟨by simp only;split<;>split<;>omega,by simp only;split<;>split<;>omega,by simp only;split<;>split<;>omega⟩
end Go.Dw.Em
set_option maxRecDepth 100000
set_option maxHeartbeats 4000000
namespace Go.Dw.Em
open Go.Dw Go.Proofs
theorem shr30{n:Int}(h0:0<=n):jf .i64 n 30=n / 1073741824:=by
 show n.fdiv (2 ^ (min (30:Int).toNat 64))=n / 1073741824
 rw [Int.fdiv_eq_ediv_of_nonneg _ (by decide)]
 rfl
theorem from_ok{n:Int}(h:n<=9223372036854775808):Ok (rJ n) (fun r=>r.1.length<=3):=by
 unfold rJ
 refine Ok.gv (fun _=>Ok.ret sm) (fun h0=>?_)
 refine Ok.bind (P:=fun o:List Int=>o.length<=3) (Ok.loop (fun s:Int×List Int=>0<=s.1∧s.2.length<=3∧s.1<1073741824 ^ (3-s.2.length)) (fun s=>s.1.toNat) ?_ ⟨zc,sm,by simp only [List.length_nil];omega⟩) (fun o ho=>Ok.ret ho)
 rintro⟨s2,s3⟩ ⟨i0,i1,i2⟩
 simp only at i0 i1 i2
 unfold nat_From_l9
 refine Ok.gv (fun hgt=>?_) (fun _=>Ok.st i1)
 refine Ok.bind (Ok.rem za) (fun x _=>?_)
 refine Ok.bind (Ok.app (by simp only [List.length_cons,List.length_nil];omega)) (fun y hy=>?_)
 subst hy
 rw [shr30 i0]
 have h3:s3.length≠3:=fun e=>by rw [e]at i2;simp at i2;omega
 refine Ok.nx ⟨zc,by simp only [List.length_append,List.length_cons,List.length_nil];omega,?_⟩ zc
 simp only [List.length_append,List.length_cons,List.length_nil]
 rw [show 3-s3.length=(3-(s3.length+(0+1)))+1 by omega,Int.pow_succ]at i2
 exact Int.ediv_lt_of_lt_mul za i2
theorem lv(l:List Int)(hl:l.length<=1000):Ok (kg l) (fun r=>r=true->l.length<=64):=by
 have hc:Ok (cK l) (fun _=>True):=by
  unfold cK fi
  refine Ok.bind (P:=fun _=>True) ?_ (fun o _=>Ok.ret trivial)
  refine Ok.bind (P:=fun _=>True) (Ok.upto l.length za (fun _=>True) trivial (fun i h0 h1 _=>?_)) (fun o _=>by rcases o with _|_<;>exact Ok.ret trivial)
  unfold gC m8
  refine Ok.gv (fun hlt=>?_) (fun _=>Ok.st trivial)
  refine Ok.bind (Ok.get za za) (fun a ha=>?_)
  refine Ok.bind (P:=fun _=>True) (Ok.gv (fun _=>Ok.ret trivial) (fun _=>Ok.ret trivial)) (fun b _=>?_)
  rw [w64 za za]
  exact Ok.iteB (fun _=>Ok.st trivial) (fun _=>Ok.nx ⟨⟨za,za⟩,trivial⟩ za)
 unfold kg
 refine Ok.gv (fun _=>Ok.ret sm) (fun hle=>Ok.gv (fun hgt=>?_) (fun _=>?_))
 ·rw [w64 za za]
  refine Ok.bind (Ok.get za za) (fun a _=>Ok.tI (fun _=>Ok.ret sm) (fun _=>?_))
  exact Ok.bind hc (fun _ _=>Ok.ret fun _=>za)
 ·exact Ok.bind hc (fun _ _=>Ok.ret fun _=>za)
theorem digit_ok{l:List Int}{i:Int}(h:0<=i):Ok (mQ l i) (fun _=>True):=by
 unfold mQ
 refine Ok.gv (fun _=>Ok.ret trivial) (fun hlt=>?_)
 exact Ok.bind (Ok.get h za) (fun _ _=>Ok.ret trivial)
theorem trim_ok{l:List Int}(hl:l.length<=1000):Ok (pK l) (fun r=>r.length<=l.length):=by
 unfold pK
 refine Ok.bind (P:=fun o:List Int=>o.length<=l.length) (Ok.loop (fun s:List Int=>s.length<=l.length) (fun s=>s.length) ?_ (Nat.le_refl _)) (fun o ho=>Ok.ret ho)
 intro s i0
 unfold nat_trim_l8
 refine Ok.gv (fun hgt=>?_) (fun _=>Ok.st i0)
 rw [w64 za za]
 refine Ok.bind (Ok.get za za) (fun a _=>Ok.tI (fun _=>?_) (fun _=>Ok.st i0))
 refine Ok.bind (Ok.cut za za za) (fun y hy=>?_)
 subst hy
 have:((s.drop (0:Int).toNat).take (((s.length:Int)-1).toNat-(0:Int).toNat)).length=s.length-1:=by
  simp only [List.length_take,List.length_drop];omega
 exact Ok.nx (by rw [this];omega) (by rw [this];omega)
theorem oJ{l:List Int}(hl:l.length<=1000):Ok (iL l) (fun r=>r.1.length<=64):=by
 unfold iL
 refine Ok.bind (trim_ok hl) (fun x hx=>Ok.gv (fun _=>Ok.ret sm) (fun _=>Ok.ret zc))
theorem pI{a b:List Int}(ha:a.length<=64)(hb:b.length<=64):Ok (ji a b) (fun r=>r.length<=128):=by
 unfold ji
 rw [w64 za za]
 refine Ok.bind (Ok.mk za za za) (fun x hx=>?_)
 have hxl:x.length=a.length+b.length:=by subst hx;simp;omega
 refine Ok.bind (P:=fun o:List Int=>o.length=a.length+b.length) (Ok.loop (fun s:Int×List Int=>(0<=s.1∧s.1<=a.length)∧s.2.length=a.length+b.length) (fun s=>((a.length:Int)-s.1).toNat) ?_ ⟨⟨sm,sm⟩,hxl⟩) (fun o ho=>?_)
 ·rintro⟨s2,s3⟩ ⟨⟨i0,i1⟩,i2⟩
  simp only at i0 i1 i2
  unfold og
  refine Ok.gv (fun hlt=>?_) (fun _=>Ok.st i2)
  refine Ok.bind (Ok.get za za) (fun y _=>?_)
  refine Ok.bind (P:=fun o:Int×List Int=>o.1=s2∧o.2.length=a.length+b.length) (Ok.loop (fun s:Int×Int×List Int=>(0<=s.2.1∧s.2.1<=(b.length:Int)+1)∧s.2.2.length=a.length+b.length) (fun s=>((b.length:Int)+1-s.2.1).toNat) ?_ ⟨⟨sm,zc⟩,i2⟩) (fun o ho=>?_)
  ·rintro⟨s8,s9,s10⟩ ⟨⟨j0,j1⟩,j2⟩
   simp only at j0 j1 j2
   unfold oe
   dsimp only
   rw [w64 (n:=(b.length:Int)+1) za za]
   refine Ok.gv (fun hlt=>?_) (fun _=>Ok.st ⟨rfl,j2⟩)
   rw [w64 (n:=s2+s9) za za,w64 (n:=s9+1) za za]
   refine Ok.gv (fun hlt2=>?_) (fun _=>Ok.nx ⟨⟨zc,zc⟩,j2⟩ zc)
   refine Ok.bind (Ok.tN za za) (fun _ _=>Ok.bind (Ok.get za za) (fun x18 _=>?_))
   refine Ok.bind (digit_ok j0) (fun x19 _=>?_)
   refine Ok.bind (Ok.rem za) (fun x20 _=>?_)
   refine Ok.bind (Ok.tN za za) (fun _ _=>Ok.bind (Ok.set za za) (fun x23 h23=>?_))
   subst h23
   exact Ok.nx ⟨⟨zc,zc⟩,by simpa using j2⟩ zc
  ·obtain⟨h1,h2⟩:=ho
   rw [h1,w64 za za]
   exact Ok.nx ⟨⟨zc,zc⟩,h2⟩ zc
 ·refine Ok.bind (trim_ok za) (fun r hr=>Ok.ret za)
theorem mul_ok{a b:List Int}(ha:a.length<=64)(hb:b.length<=64):Ok (nat_Mul a b) (fun r=>r.1.length<=64):=by
 unfold nat_Mul pJ
 refine Ok.bind (P:=fun _=>True) (Ok.bind (lv a za) (fun x _=>Ok.iteB (fun _=>Ok.bind (lv b za) (fun _ _=>Ok.ret trivial)) (fun _=>Ok.ret trivial))) (fun x _=>?_)
 refine Ok.wc (fun _=>Ok.ret sm) (fun _=>?_)
 exact Ok.bind (pI ha hb) (fun y hy=>Ok.bind (oJ za) (fun z hz=>Ok.ret hz))
theorem add_ok'{a b:List Int}(ha:a.length<=64)(hb:b.length<=64):Ok (nat_Add a b) (fun r=>r.1.length<=64):=by
 unfold nat_Add pJ
 refine Ok.bind (P:=fun _=>True) (Ok.bind (lv a za) (fun x _=>Ok.iteB (fun _=>Ok.bind (lv b za) (fun _ _=>Ok.ret trivial)) (fun _=>Ok.ret trivial))) (fun x _=>?_)
 refine Ok.wc (fun _=>Ok.ret sm) (fun _=>?_)
 have hm:∃m:Int,(if(b.length:Int)>(a.length:Int)then(b.length:Int)else(a.length:Int))=m∧0<=m∧m<=64:=⟨_,rfl,by split<;>omega,by split<;>omega⟩
 obtain⟨m,em,m0,m1⟩:=hm
 refine Ok.bind (P:=fun o:List Int=>o.length<=65) (Ok.loop (fun s:Int×Int×List Int=>(0<=s.2.1∧s.2.1<=m+1)∧s.2.2.length=s.2.1.toNat) (fun s=>(m+1-s.2.1).toNat) ?_ ⟨⟨sm,zc⟩,rfl⟩) (fun o ho=>Ok.bind (oJ za) (fun z hz=>Ok.ret hz))
 rintro⟨s3,s4,s5⟩ ⟨⟨i0,i1⟩,i2⟩
 simp only at i0 i1 i2
 unfold nat_Add_l13
 dsimp only
 rw [em,w64 (n:=m+1) za za]
 refine Ok.gv (fun hlt=>?_) (fun _=>Ok.st za)
 refine Ok.bind (digit_ok i0) (fun x9 _=>Ok.bind (digit_ok i0) (fun x10 _=>?_))
 refine Ok.bind (Ok.rem za) (fun x11 _=>?_)
 refine Ok.bind (Ok.app (by simp only [List.length_cons,List.length_nil];omega)) (fun y hy=>?_)
 subst hy
 rw [w64 (n:=s4+1) za za]
 exact Ok.nx ⟨⟨zc,zc⟩,by simp only [List.length_append,List.length_cons,List.length_nil];omega⟩ zc
def I64(a:Int):Prop:= -9223372036854775808<=a∧a<=9223372036854775807
theorem pY(a:Int):I64 (IntKind.wrap .i64 a):=by
 unfold I64;rw [IntKind.wrap_i64];omega
theorem mS{a:Int}(h:I64 a):Ok (dq a) (fun r=>r.length<=64):=by
 unfold dq
 have h0:=pY (0-a)
 unfold I64 at h h0
 refine Ok.bind (from_ok (by split<;>omega)) (fun x hx=>?_)
 exact Ok.bind (mul_ok za za) (fun y hy=>Ok.ret hy)
theorem squared_ok{a:aS}{n d:Int}:Ok (gt a n d) (fun r=>r.length<=64):=by
 unfold gt
 refine Ok.bind (mS (pY _)) (fun x hx=>Ok.bind (mS (pY _)) (fun y hy=>?_))
 exact Ok.bind (add_ok' hx hy) (fun z hz=>Ok.ret hz)
theorem sum_okR(l:List Int)(hl:l.length<=1000):Ok (cN l) I64:=by
 unfold cN
 refine Ok.bind (P:=I64) (Ok.loop (fun s:Int×Int=>(0<=s.2∧s.2<=l.length)∧I64 s.1) (fun s=>((l.length:Int)-s.2).toNat) ?_ ⟨⟨sm,sm⟩,by unfold I64;simp⟩) (fun o ho=>Ok.ret ho)
 rintro⟨s1,s2⟩ ⟨⟨i0,i1⟩,i2⟩
 simp only at i0 i1 i2
 unfold hC
 refine Ok.gv (fun hlt=>?_) (fun _=>Ok.st i2)
 refine Ok.bind (Ok.get za za) (fun a _=>?_)
 rw [w64 (n:=s2+1) za za]
 exact Ok.nx ⟨⟨zc,zc⟩,pY _⟩ zc
structure StN(x:aD):Prop where
 num:I64 x.bd.a0
 den:I64 x.aY.a0
 taps:x.bN.length<=3
 shift:0<=x.bR
theorem valid_N{x:aD}(h:mC x):StN x:=by
 obtain⟨-, -,h1,h2,h3,h4⟩:=h
 exact⟨by unfold I64;omega,by unfold I64;omega,h1,h2⟩
theorem gain_okN{x:aD}(h:StN x)(n d:Int):Ok (lN x n d) (fun r=>r.1.bd.length<=64∧r.1.aY.length<=64):=by
 unfold lN
 refine Ok.tI (fun _=>Ok.bind (mS h.num) (fun a ha=>Ok.bind (mS h.den) (fun b hb=>Ok.ret ⟨ha,hb⟩))) (fun _=>?_)
 refine Ok.tI (fun _=>Ok.bind squared_ok (fun a ha=>Ok.bind squared_ok (fun b hb=>Ok.ret ⟨ha,hb⟩))) (fun _=>?_)
 refine Ok.bind (sum_okR _ (by have:=h.taps;omega)) (fun a ha=>Ok.bind (mS ha) (fun b hb=>?_))
 have hs:=h.shift
 have e:yb .i64 1 x.bR=some (shlI .i64 1 x.bR):=by unfold yb;rw [if_neg za]
 rw [e,zd]
 exact Ok.bind (mS (pY _)) (fun c hc=>Ok.ret ⟨hb,hc⟩)
theorem times_ok{a b:aO}(h1:a.bd.length<=64)(h2:a.aY.length<=64)(h3:b.bd.length<=64)(h4:b.aY.length<=64):Ok (qb a b) (fun r=>r.1.bd.length<=64∧r.1.aY.length<=64):=by
 have hv:∀f:aO,f.bd.length<=64->f.aY.length<=64->Ok (fJ f) (fun _=>True):=fun f a b=>by
  unfold fJ
  exact Ok.bind (lv _ za) (fun _ _=>Ok.iteB (fun _=>Ok.bind (lv _ za) (fun _ _=>Ok.iteB (fun _=>Ok.ret trivial) (fun _=>Ok.ret trivial))) (fun _=>Ok.ret trivial))
 unfold qb
 refine Ok.bind (hv a h1 h2) (fun _ _=>Ok.wc (fun _=>Ok.ret sm) (fun _=>Ok.bind (hv b h3 h4) (fun _ _=>Ok.wc (fun _=>Ok.ret sm) (fun _=>?_))))
 refine Ok.bind (pI h1 h3) (fun x hx=>Ok.bind (oJ za) (fun y hy=>?_))
 refine Ok.bind (pI h2 h4) (fun z hz=>Ok.bind (oJ za) (fun w hw=>?_))
 exact Ok.rm (fun _=>Ok.ret sm) (fun _=>Ok.rm (fun _=>Ok.ret sm) (fun _=>Ok.ret ⟨hy,hw⟩))
theorem Gain_ok{r:aL}(h:oo r)(n d:Int):Ok (lM r n d) (fun x=>x.1.bd.length<=64∧x.1.aY.length<=64):=by
 have hin:∀a b c:Int,Ok (bA a b c) (fun _=>True):=fun a b c=>by
  unfold bA;exact Ok.gv (fun _=>Ok.ret trivial) (fun _=>Ok.ret trivial)
 have hl:=h.1
 unfold lM
 rw [resp_valid h,zd,if_neg sm]
 refine Ok.bind (hin _ _ _) (fun _ _=>Ok.wc (fun _=>Ok.ret sm) (fun _=>Ok.bind (hin _ _ _) (fun _ _=>Ok.wc (fun _=>Ok.ret sm) (fun _=>?_))))
 refine Ok.bind (P:=fun o=>match o with| .inl y=>y.1.length<=64∧y.2.length<=64| .inr y=>y.1.bd.length<=64∧y.1.aY.length<=64) (Ok.loop (fun s:Int×List Int×List Int=>(0<=s.1∧s.1<=r.aV.length)∧s.2.1.length<=64∧s.2.2.length<=64) (fun s=>((r.aV.length:Int)-s.1).toNat) ?_ ⟨⟨sm,sm⟩,sm,sm⟩) (fun o ho=>by rcases o with y|y<;>exact Ok.ret ho)
 rintro⟨s1,s2,s3⟩ ⟨⟨i0,i1⟩,i2,i3⟩
 simp only at i0 i1 i2 i3
 unfold nH
 refine Ok.gv (fun hlt=>?_) (fun _=>Ok.st ⟨i2,i3⟩)
 refine Ok.bind (Ok.get za za) (fun x hx=>?_)
 refine Ok.bind (gain_okN (valid_N (h.2 x hx.1)) n d) (fun y hy=>Ok.wc (fun _=>Ok.st sm) (fun _=>?_))
 refine Ok.bind (times_ok i2 i3 hy.1 hy.2) (fun z hz=>Ok.rm (fun _=>Ok.st sm) (fun _=>?_))
 rw [w64 za za]
 exact Ok.nx ⟨⟨zc,zc⟩,hz⟩ zc
theorem byte8(s:List UInt8)(h:s.all (fun b=>decide (b.toNat<=8))=true){n:Int}(h0:0<=n)(h1:n<s.length):Ok (uh s n) (fun c=>0<=c∧c<=8):=by
 refine(Ok.byte h0 h1).mono fun c⟨b,hb,hc⟩=>?_
 have:=List.all_eq_true.1 h b (List.mem_of_getElem? hb)
 simp only [decide_eq_true_eq]at this
 omega
theorem shr16{n:Int}(h0:0<=n):jf .u64 n 16=n / 65536:=by
 show n.fdiv (2 ^ (min (16:Int).toNat 64))=n / 65536
 rw [Int.fdiv_eq_ediv_of_nonneg _ (by decide)]
 rfl
theorem shr32{n:Int}(h0:0<=n):jf .u64 n 32=n / 4294967296:=by
 show n.fdiv (2 ^ (min (32:Int).toNat 64))=n / 4294967296
 rw [Int.fdiv_eq_ediv_of_nonneg _ (by decide)]
 rfl
theorem wU8{n:Int}(h:0<=n∧n<256):IntKind.wrap .u8 n=n:=IntWalk.u8_in _ za
theorem len8_ok{n m:Int}(hn:0<=n∧n<65536)(hm:0<=m∧m<=48):Ok (hY n m) (fun r=>0<=r∧r<=m+16):=by
 unfold hY
 refine Ok.gv (fun h=>?_) (fun h=>?_)
 ·rw [shr8 hn.1,wU8 za]
  refine Ok.bind (byte8 _ (by decide+kernel) za so) (fun c hc=>?_)
  rw [w64 (n:=m+8) za za,w64 (n:=c) za za,w64 za za]
  exact Ok.ret ⟨za,za⟩
 ·rw [wU8 za]
  refine Ok.bind (byte8 _ (by decide+kernel) za so) (fun c hc=>?_)
  rw [w64 (n:=c) za za,w64 za za]
  exact Ok.ret ⟨za,za⟩
theorem bits_ok{n:Int}(h:0<=n∧n<18446744073709551616):Ok (gd n) (fun r=>0<=r∧r<=64):=by
 have k10:∀{n m:Int},0<=n∧n<4294967296->0<=m∧m<=32->Ok (ge n m) (fun r=>0<=r∧r<=m+32):=fun{n m}hn hm=>by
  unfold ge
  refine Ok.gv (fun h=>?_) (fun h=>?_)
  ·rw [shr16 hn.1,w64 za za]
   exact(len8_ok za za).mono fun r hr=>by omega
  ·exact(len8_ok za za).mono fun r hr=>by omega
 unfold gd mU
 refine Ok.bind (P:=fun r=>0<=r∧r<=64) (Ok.gv (fun h=>?_) (fun h=>?_)) (fun r hr=>Ok.ret hr)
 ·rw [shr32 za]
  exact(k10 za za).mono fun r hr=>by omega
 ·exact(k10 za za).mono fun r hr=>by omega
theorem u64_range(n:Int):0<=IntKind.wrap .u64 n∧IntKind.wrap .u64 n<18446744073709551616:=by
 simp [IntKind.wrap,IntKind.bits,IntKind.signed];omega
theorem dig17{c m d:Int}(hc: -1<=c∧c<=63)(hd:0<=d∧d<=255):Ok (ef c m d) (fun r=> -256<=r∧r<=16400):=by
 unfold ef
 rw [w64 (n:=256*c) za za,w64 za za]
 exact Ok.ret ⟨za,za⟩
theorem dig20{c m d:Int}(hc: -1<=c∧c<=63)(hd:0<=d∧d<=127):Ok (eh c m d) (fun r=> -256<=r∧r<=16400):=by
 unfold eh
 rw [w64 (n:=d*2) za za,w64 (n:=d*2+1) za za]
 exact Ok.gv (fun _=>Ok.bind (Ok.quo za) (fun _ _=>dig17 hc za)) (fun _=>dig17 hc za)
theorem dig23{c m d:Int}(hc: -1<=c∧c<=63)(hd:0<=d∧d<=63):Ok (ei c m d) (fun r=> -256<=r∧r<=16400):=by
 unfold ei
 rw [w64 (n:=d*2) za za,w64 (n:=d*2+1) za za]
 exact Ok.gv (fun _=>Ok.bind (Ok.quo za) (fun _ _=>dig20 hc za)) (fun _=>dig20 hc za)
theorem dig26{c m d:Int}(hc: -1<=c∧c<=63)(hd:0<=d∧d<=31):Ok (ej c m d) (fun r=> -256<=r∧r<=16400):=by
 unfold ej
 rw [w64 (n:=d*2) za za,w64 (n:=d*2+1) za za]
 exact Ok.gv (fun _=>Ok.bind (Ok.quo za) (fun _ _=>dig23 hc za)) (fun _=>dig23 hc za)
theorem dig29{c m d:Int}(hc: -1<=c∧c<=63)(hd:0<=d∧d<=15):Ok (ek c m d) (fun r=> -256<=r∧r<=16400):=by
 unfold ek
 rw [w64 (n:=d*2) za za,w64 (n:=d*2+1) za za]
 exact Ok.gv (fun _=>Ok.bind (Ok.quo za) (fun _ _=>dig26 hc za)) (fun _=>dig26 hc za)
theorem dig32{c m d:Int}(hc: -1<=c∧c<=63)(hd:0<=d∧d<=7):Ok (eo c m d) (fun r=> -256<=r∧r<=16400):=by
 unfold eo
 rw [w64 (n:=d*2) za za,w64 (n:=d*2+1) za za]
 exact Ok.gv (fun _=>Ok.bind (Ok.quo za) (fun _ _=>dig29 hc za)) (fun _=>dig29 hc za)
theorem dig35{c m d:Int}(hc: -1<=c∧c<=63)(hd:0<=d∧d<=3):Ok (ep c m d) (fun r=> -256<=r∧r<=16400):=by
 unfold ep
 rw [w64 (n:=d*2) za za,w64 (n:=d*2+1) za za]
 exact Ok.gv (fun _=>Ok.bind (Ok.quo za) (fun _ _=>dig32 hc za)) (fun _=>dig32 hc za)
theorem dig38{c m d:Int}(hc: -1<=c∧c<=63)(hd:0<=d∧d<=1):Ok (et c m d) (fun r=> -256<=r∧r<=16400):=by
 unfold et
 rw [w64 (n:=d*2) za za,w64 (n:=d*2+1) za za]
 exact Ok.gv (fun _=>Ok.bind (Ok.quo za) (fun _ _=>dig35 hc za)) (fun _=>dig35 hc za)
theorem digits_ok{c m:Int}(hc: -1<=c∧c<=63):Ok (gj c m) (fun r=> -256<=r∧r<=16400):=by
 unfold gj
 exact Ok.gv (fun _=>Ok.bind (Ok.quo za) (fun _ _=>dig38 hc za)) (fun _=>dig38 hc za)
theorem log_ok(n:Int):Ok (ig n) (fun r=> -256<=r.1∧r.1<=16400):=by
 unfold ig
 refine Ok.gv (fun _=>Ok.ret ⟨sm,sm⟩) (fun _=>?_)
 refine Ok.bind (bits_ok (u64_range n)) (fun L hL=>?_)
 rw [w64 (n:=L-1) za za]
 refine Ok.gv (fun h=>?_) (fun h=>?_)
 ·rw [w64 za za]
  have e:yb .i64 n (30-(L-1))=some (shlI .i64 n (30-(L-1))):=by unfold yb;rw [if_neg za]
  rw [e,zd]
  exact Ok.bind (digits_ok za) (fun r hr=>Ok.ret hr)
 ·rw [w64 za za]
  have e:shrO .i64 n (L-1-30)=some (jf .i64 n (L-1-30)):=by unfold shrO;rw [if_neg za]
  rw [e,zd]
  exact Ok.bind (digits_ok za) (fun r hr=>Ok.ret hr)
theorem logNat_ok{l:List Int}(hl:l.length<=64):Ok (gi l) (fun r=> -1000<=r.1∧r.1<=600000):=by
 unfold gi
 refine Ok.bind (lv l za) (fun v _=>Ok.wc (fun _=>Ok.ret ⟨sm,sm⟩) (fun _=>?_))
 rw [w64 (n:=(l.length:Int)-1) za za]
 refine Ok.gv (fun _=>Ok.ret ⟨sm,sm⟩) (fun h0=>Ok.tI (fun h1=>?_) (fun h1=>?_))
 ·refine Ok.bind (Ok.get za za) (fun a _=>Ok.bind (log_ok a) (fun r hr=>Ok.ret ⟨zc,zc⟩))
 ·rw [w64 (n:=(l.length:Int)-1-1) za za,w64 (n:=7680*((l.length:Int)-1-1)) za za]
  refine Ok.bind (Ok.get za za) (fun a _=>Ok.bind (Ok.get za za) (fun b _=>Ok.bind (log_ok _) (fun r hr=>?_)))
  rw [w64 za za]
  exact Ok.ret ⟨zc,zc⟩
theorem ground_ok{s:bo}{r:aL}(h:oo r)(a:Int):Ok (jh s r a) (fun x=> -700000<=x.1∧x.1<=700000):=by
 unfold jh
 refine Ok.bind (Gain_ok h _ _) (fun g hg=>Ok.rm (fun _=>Ok.ret ⟨sm,sm⟩) (fun _=>?_))
 refine Ok.bind (logNat_ok hg.1) (fun x hx=>Ok.rm (fun _=>Ok.ret ⟨sm,sm⟩) (fun _=>?_))
 refine Ok.bind (logNat_ok hg.2) (fun y hy=>Ok.rm (fun _=>Ok.ret ⟨sm,sm⟩) (fun _=>?_))
 refine Ok.bind (log_ok a) (fun z hz=>?_)
 rw [w64 (n:=2*z.1) za za,w64 (n:=2*z.1+y.1) za za,w64 za za]
 exact Ok.ret ⟨zc,zc⟩
theorem floorL_at{l:Int}(h: -1000000<=l∧l<=1000000):gW l=some (l*30103 / 256000):=by
 unfold gW lr
 rw [if_pos so,zd]
 dsimp only
 rw [if_neg so,w64 (n:=l*30103) za za]
 have hb: -30103000000<=l*30103∧l*30103<=30103000000:=by omega
 generalize l*30103=n at*
 have e1:su .i64 n 256000=some (IntKind.wrap .i64 (n.tdiv 256000)):=by unfold su;rw [if_neg za]
 have e2:vN n 256000=some (n.tmod 256000):=by unfold vN;rw [if_neg za]
 rw [e1,e2,zd,zd]
 rcases Int.le_total 0 n with h0|h0
 ·rw [Int.tdiv_eq_ediv_of_nonneg h0,Int.tmod_eq_emod_of_nonneg h0,if_neg so,w64 za za]
 ·obtain⟨m,rfl⟩:∃m,n= -m:=⟨-n,za⟩
  rw [Int.neg_tdiv,Int.neg_tmod,Int.tdiv_eq_ediv_of_nonneg za,Int.tmod_eq_emod_of_nonneg za,w64 (n:= -(m / 256000)) za za,w64 za za]
  by_cases hm:m%256000=0
  ·rw [if_neg so];congr 1;omega
  ·rw [if_pos so];congr 1;omega
theorem ceilL_at{l:Int}(h: -1000000<=l∧l<=1000000):kK l=some (-(-l*30103 / 256000)):=by
 unfold kK
 rw [w64 (n:=0-l) za za,floorL_at za,zd,w64 za za]
 congr 1
 rw [show 0-l= -l by omega];omega
theorem half_at'{n:Int}:iH n=some (n / 2):=by
 unfold iH
 show some (n.fdiv (2 ^ (min (1:Int).toNat 64)))=_
 rw [Int.fdiv_eq_ediv_of_nonneg _ (by decide)]
 rfl
theorem scale_valid{s:ar}(h:iZ s):c7 s.cm=some true:=by
 have h1:=h.num;have h2:=h.den
 refine Ok.eq ?_
 unfold c7
 rw [fc h.cor,zd,if_pos sm]
 exact Ok.gv (fun _=>Ok.gv (fun _=>Ok.gv (fun _=>Ok.ret so) (fun _=>za)) (fun _=>za)) (fun _=>za)
theorem station_ok{s:ar}(hs:iZ s){r:aL}(hr:oo r)(a:Int){n f:Int}(h0:0<=n)(hnf:n<=f)(hf:f<=65535):Ok (fH s.cm r a n f) (fun x=>x.2=0->x.1.aI<=x.1.aC):=by
 unfold fH
 rw [scale_valid hs,zd,if_neg sm]
 refine Ok.gv (fun _=>Ok.ret sm) (fun _=>Ok.gv (fun _=>Ok.ret sm) (fun _=>?_))
 refine Ok.bind (ground_ok hr a) (fun x hx=>Ok.rm (fun h=>Ok.ret sm) (fun _=>?_))
 refine Ok.bind (mT hs.cor n f h0 hnf hf) (fun y hy=>Ok.rm (fun h=>Ok.ret sm) (fun h=>?_))
 obtain⟨y0,y1,y2⟩:=hy.2 h
 rw [w64 (n:=x.1-2) za za,w64 (n:=0-x.1) za za,w64 (n:=0-x.1-6) za za]
 rw [half_at',zd,floorL_at za,zd,half_at',zd,w64 (n:=0-(0-x.1-6) / 2) za za,ceilL_at za,zd]
 refine Ok.ret fun _=>?_
 simp only
 rw [w64 za za,w64 za za]
 omega
end Go.Dw.Em
set_option maxRecDepth 100000
set_option maxHeartbeats 4000000
namespace Go.Dw.Em
open Go.Dw Go.Proofs
theorem or_some(l:List Int)(hl:l.length<1000):∃r,cM l=some r:=by
 unfold cM
 have:=Sd.or_go (l:=l) (n:=0) (r:=l) hl za sm
 rw [show((0:Int))=((0:Nat):Int)from rfl,this]
 cases l.find? fun x=>decide (x≠0)<;>exact⟨_,rfl⟩
structure PV(q:ah):Prop where
 box:eM q.aM
 reg:eB 20 q.aM.aI
 tab:nO q.aW
 len:1<=q.a7.length∧q.a7.length<=64
 cap:1<=q.cG∧q.cG<=1000
 ph:∀a∈q.a7,PhV a∧Reach q.aW (lg q.aM a.aN)
theorem sub_zone{q:ah}(hq:PV q){b:ag}(h:Sub q.aM b){a:aj}(ha:a∈q.a7):Ok (du q.aW b a) (fun r=>r.2=0∧eK r.1):=by
 obtain⟨hv,hr⟩:=hq.ph a ha
 refine(sc hq.tab (h.ok hq.box hq.reg) hv).mono fun r hr'=>?_
 have:r.2=0:=hr'.1.2 (Int.le_trans (rA h _) hr)
 exact⟨this,hr'.2 this⟩
theorem nN{q:ah}(hq:PV q):gX q=some 0:=by
 have hl:=hq.len;have hc:=hq.cap
 refine Ok.eq ?_
 unfold gX
 rw [dp hq.box,zd,if_neg sm,fc hq.tab,zd,if_neg sm]
 refine Ok.tI (fun h=>za) (fun _=>Ok.gv (fun h=>za) (fun _=>Ok.gv (fun h=>za) (fun _=>Ok.gv (fun h=>za) (fun _=>?_))))
 refine Ok.bind (P:=fun o=>o= .inl ()) (Ok.upto q.a7.length za (fun _=>True) trivial (fun i h0 h1 _=>?_)) (fun o ho=>by subst ho;exact Ok.ret rfl)
 unfold mA
 refine Ok.gv (fun hlt=>?_) (fun _=>Ok.st rfl)
 refine Ok.bind (Ok.get za za) (fun a ha=>?_)
 refine Ok.bind (sub_zone hq (Sub.refl hq.box) ha.1) (fun z hz=>?_)
 refine Ok.rm (fun h=>(h hz.1).elim) (fun _=>?_)
 rw [w64 za za]
 exact Ok.nx ⟨⟨za,za⟩,trivial⟩ za
theorem zones_ok{q:ah}(hq:PV q){b:ag}(h:Sub q.aM b):Ok (fI q b) (fun r=>r.2=0∧r.1.length=q.a7.length∧∀z∈r.1,eK z):=by
 have hl:=hq.len
 unfold fI
 rw [nN hq,zd,if_neg sm,within_at hq.box hq.reg h,zd,if_neg sm]
 refine Ok.bind ?_ (fun r hr=>Ok.ret hr)
 unfold mF
 refine Ok.bind (Ok.mkC za za za za) (fun x hx=>?_)
 subst hx
 refine Ok.bind (P:=fun o=>∃l,o= .inl l∧l.length=q.a7.length∧∀z∈l,eK z) (Ok.loop (fun s:Int×List aK=>(0<=s.1∧s.1<=q.a7.length)∧s.2.length=s.1.toNat∧∀z∈s.2,eK z) (fun s=>((q.a7.length:Int)-s.1).toNat) ?_ ⟨⟨sm,sm⟩,sm,sm⟩) (fun o⟨l,ho,h1,h2⟩=>by subst ho;exact Ok.ret ⟨rfl,h1,h2⟩)
 rintro⟨s2,s3⟩ ⟨⟨i0,i1⟩,i2,i3⟩
 simp only at i0 i1 i2 i3
 unfold lu
 refine Ok.gv (fun hlt=>?_) (fun _=>Ok.st ⟨s3,rfl,za,i3⟩)
 refine Ok.bind (Ok.get za za) (fun a ha=>?_)
 refine Ok.bind (sub_zone hq h ha.1) (fun z hz=>?_)
 refine Ok.rm (fun h=>(h hz.1).elim) (fun _=>?_)
 refine Ok.bind (Ok.app (by simp only [List.length_cons,List.length_nil];omega)) (fun y hy=>?_)
 subst hy
 rw [w64 za za]
 refine Ok.nx ⟨⟨zc,zc⟩,by simp only [List.length_append,List.length_cons,List.length_nil];omega,fun z' hz'=>?_⟩ zc
 rcases List.mem_append.1 hz' with h|h
 ·exact i3 z' h
 ·rw [List.mem_singleton.1 h];exact hz.2
theorem cost_ok{q:ah}(hq:PV q)(l:List aK)(t:Int):Ok (iJ q l t) (fun r=>(∀z∈l,eK z∧z.bj<=t∧t<=z.fTo)->r=0):=by
 have hl:=hq.len;have hc:=hq.cap
 unfold iJ
 refine Ok.bind (P:=fun o=>(∀z∈l,eK z∧z.bj<=t∧t<=z.fTo)->o=0) (Ok.loop (fun s:Int×Int=>(0<=s.2∧s.2<=q.a7.length)∧((∀z∈l,eK z∧z.bj<=t∧t<=z.fTo)->s.1=0)) (fun s=>((q.a7.length:Int)-s.2).toNat) ?_ ⟨⟨sm,sm⟩,fun _=>rfl⟩) (fun o ho=>Ok.ret ho)
 rintro⟨s1,s2⟩ ⟨⟨i0,i1⟩,i2⟩
 simp only at i0 i1 i2
 unfold mh
 refine Ok.gv (fun hlt=>?_) (fun _=>Ok.st i2)
 refine Ok.bind (Ok.get za za) (fun a ha=>?_)
 refine Ok.gv (fun hlz=>?_) (fun _=>?_)
 ·refine Ok.bind (Ok.get za za) (fun z hz=>?_)
  unfold fw
  rw [zd,w64 (n:=s2+1) za za]
  refine Ok.nx ⟨⟨zc,zc⟩,fun hall=>?_⟩ zc
  obtain⟨⟨z1,z2,z3⟩,z4,z5⟩:=hall z hz.1
  have i2:=i2 hall
  simp only
  rw [w64 (n:=t-z.fTo) za za,w64 (n:=z.bj-t) za za]
  have e:(if(0:Int)>(if t-z.fTo>z.bj-t then t-z.fTo else z.bj-t)then(0:Int)else(if t-z.fTo>z.bj-t then t-z.fTo else z.bj-t))=0:=by
   split<;>split<;>omega
  rw [e,if_pos za,i2]
  simp [w64]
 ·rw [w64 za za]
  exact Ok.nx ⟨⟨zc,zc⟩,i2⟩ zc
theorem best_ok{q:ah}(hq:PV q){l:List aK}(hl:1<=l.length∧l.length<=64):Ok (iI q l) (fun r=>(∃z,l=[z]∧eK z)->r.2=0):=by
 have hzero:∀t,(∃z∈l,t=z.bj∨t=z.fTo)->(∃z,l=[z]∧eK z)->∀z∈l,eK z∧z.bj<=t∧t<=z.fTo:=by
  rintro t ⟨y,hy,ht⟩ ⟨z,rfl,hz⟩ x hx
  rw [List.mem_singleton]at hx hy
  subst hx hy
  obtain⟨z1,z2,z3⟩:=hz
  exact⟨⟨z1,z2,z3⟩,za,za⟩
 unfold iI
 rw [w64 (n:=2*(l.length:Int)) za za]
 refine Ok.bind (Ok.mkC za za za za) (fun x hx=>?_)
 subst hx
 refine Ok.bind (P:=fun o:List Int=>o.length=2*l.length∧∀t∈o,∃z∈l,t=z.bj∨t=z.fTo) (Ok.loop (fun s:Int×List Int=>(0<=s.1∧s.1<=l.length)∧s.2.length=2*s.1.toNat∧∀t∈s.2,∃z∈l,t=z.bj∨t=z.fTo) (fun s=>((l.length:Int)-s.1).toNat) ?_ ⟨⟨sm,sm⟩,sm,sm⟩) (fun o ho=>?_)
 ·rintro⟨s2,s3⟩ ⟨⟨i0,i1⟩,i2,i3⟩
  simp only at i0 i1 i2 i3
  unfold m5
  refine Ok.gv (fun hlt=>?_) (fun _=>Ok.st ⟨za,i3⟩)
  refine Ok.bind (Ok.get za za) (fun z hz=>?_)
  refine Ok.bind (Ok.app (by simp only [List.length_cons,List.length_nil];omega)) (fun y hy=>?_)
  subst hy
  rw [w64 za za]
  refine Ok.nx ⟨⟨zc,zc⟩,by simp only [List.length_append,List.length_cons,List.length_nil];omega,fun t ht=>?_⟩ zc
  rcases List.mem_append.1 ht with h|h
  ·exact i3 t h
  ·simp only [List.mem_cons,List.not_mem_nil,or_false]at h
   exact⟨z,hz.1,h⟩
 ·obtain⟨h1,h2⟩:=ho
  refine Ok.tI (fun h=>za) (fun _=>?_)
  refine Ok.bind (Ok.tN za za) (fun _ _=>Ok.bind (Ok.get za za) (fun x14 g14=>?_))
  refine Ok.bind (Ok.tN za za) (fun _ _=>Ok.bind (Ok.get za za) (fun x17 g17=>?_))
  refine Ok.bind (cost_ok hq l x17) (fun c hc=>?_)
  refine Ok.bind (Ok.sub za za za) (fun _ _=>?_)
  refine Ok.bind (Ok.lenv za za) (fun n hn=>?_)
  refine Ok.bind (P:=fun o=>(∃z,l=[z]∧eK z)->o.2=0) (Ok.loop (fun s:Int×Int×Int=>(0<=s.2.2∧s.2.2<=n)∧((∃z,l=[z]∧eK z)->s.2.1=0)) (fun s=>(n-s.2.2).toNat) ?_ ⟨⟨sm,zc⟩,fun h=>hc (hzero _ (h2 _ g17.1) h)⟩) (fun o ho=>Ok.ret ho)
  rintro⟨s1,s2,s3⟩ ⟨⟨i0,i1⟩,i2⟩
  simp only at i0 i1 i2
  unfold mg
  refine Ok.gv (fun hlt=>?_) (fun _=>Ok.st i2)
  refine Ok.bind (Ok.inv za za za) (fun _ _=>?_)
  refine Ok.bind (Ok.get za za) (fun x29 g29=>?_)
  refine Ok.bind (cost_ok hq l x29) (fun c' hc'=>?_)
  rw [w64 za za]
  have hz:(∃z,l=[z]∧eK z)->c'=0:=fun h=>hc' (hzero _ (h2 _ g29.1) h)
  have A:∀(u v:Int),((∃z,l=[z]∧eK z)->v=0)->Ok (some (.next (u,v,s3+1)):Option (fR (Int×Int×Int) (Int×Int))) (Ok.S (fun s:Int×Int×Int=>(0<=s.2.2∧s.2.2<=n)∧((∃z,l=[z]∧eK z)->s.2.1=0)) (fun s=>(n-s.2.2).toNat) (fun o=>(∃z,l=[z]∧eK z)->o.2=0) (s1,s2,s3)):=fun u v h=>Ok.nx ⟨⟨zc,zc⟩,h⟩ zc
  exact Ok.gv (fun _=>A _ _ hz) (fun _=>Ok.tI (fun _=>Ok.gv (fun _=>A _ _ hz) (fun _=>A _ _ i2)) (fun _=>A _ _ i2))
def Single(q:ah):Prop:=q.a7.length=1
theorem single_zone{q:ah}(h:Single q){l:List aK}(hl:l.length=q.a7.length)(hz:∀z∈l,eK z):∃z,l=[z]∧eK z:=by
 rw [h]at hl
 match l,hl with
 | [z],_=>exact⟨z,rfl,hz z sm⟩
theorem bound_ok{q:ah}(hq:PV q){b:ag}(h:Sub q.aM b):Ok (eT q b) (fun r=>r.2=0):=by
 unfold eT
 refine Ok.bind (zones_ok hq h) (fun r hr=>?_)
 refine Ok.rm (fun h=>(h hr.1).elim) (fun _=>?_)
 exact Ok.bind (best_ok hq (by rw [hr.2.1];exact hq.len)) (fun _ _=>Ok.ret rfl)
theorem at_ok{q:ah}(hq:PV q){p:aa}(h:Sub q.aM ⟨p,p⟩):Ok (ij q p) (fun r=>r.2.2=0∧(Single q->r.2.1=0)):=by
 unfold ij
 refine Ok.bind (zones_ok hq h) (fun r hr=>?_)
 refine Ok.rm (fun h=>(h hr.1).elim) (fun _=>?_)
 exact Ok.bind (best_ok hq (by rw [hr.2.1];exact hq.len)) (fun s hs=>Ok.ret ⟨rfl,fun h1=>hs (single_zone h1 hr.2.1 hr.2.2)⟩)
theorem compare_ok(a b:aa):Ok (dT a b) (fun _=>True):=by
 unfold dT
 rw [Sd.kB,zd,Sd.kB,zd,Sd.kB,zd]
 obtain⟨r,e⟩:=or_some [sw a.fX b.fX,sw a.fY b.fY,sw a.fZ b.fZ] sm
 rw [e]
 exact Ok.ret trivial
end Go.Dw.Em
set_option maxRecDepth 100000
set_option maxHeartbeats 4000000
namespace Go.Dw.Em
open Go.Dw Go.Proofs
abbrev Est:=aB
theorem sort_okI{d:List Int}(hd:d.length<=19):Ok (tB d) (fun r=>r.length=d.length):=by
 obtain⟨r,e,hp, -⟩:=zR (l:=d) za
 exact⟨r,e,hp.length_eq⟩
theorem half_len{l:List Int}(h0:1<=l.length)(h1:l.length<=19):Ok ((su .i64 (IntKind.wrap .i64 ((l.length:Int)-(1:Int))) (2:Int)).bind fun x12=>(inO l x12).bind fun _=>(eV l x12).bind fun x15=>some x15) (fun _=>True):=by
 rw [w64 za za]
 refine Ok.bind (Ok.quo za) (fun q hq=>?_)
 rw [Int.tdiv_eq_ediv_of_nonneg za,w64 za za]at hq
 exact Ok.bind (Ok.tN za za) (fun _ _=>Ok.bind (Ok.get za za) (fun _ _=>Ok.ret trivial))
theorem med2_ok{l:List Est}(h0:1<=l.length)(h1:l.length<=19):Ok (fk l) (fun _=>True):=by
 unfold fk
 refine Ok.bind (P:=fun o:List Int=>o.length=l.length) (Ok.loop (fun s:Int×List Int=>(0<=s.1∧s.1<=l.length)∧s.2.length=s.1.toNat) (fun s=>((l.length:Int)-s.1).toNat) ?_ ⟨⟨sm,sm⟩,rfl⟩) (fun o ho=>?_)
 ·rintro⟨s1,s2⟩ ⟨⟨i0,i1⟩,i2⟩
  simp only at i0 i1 i2
  unfold jy gN
  refine Ok.gv (fun hlt=>?_) (fun _=>Ok.st za)
  refine Ok.bind (Ok.get za za) (fun x _=>?_)
  rw [zd]
  refine Ok.bind (Ok.app (by simp only [List.length_cons,List.length_nil];omega)) (fun y hy=>?_)
  subst hy
  rw [w64 za za]
  exact Ok.nx ⟨⟨zc,zc⟩,by simp only [List.length_append,List.length_cons,List.length_nil];omega⟩ zc
 ·exact Ok.bind (sort_okI za) (fun r hr=>half_len za za)
theorem med3_ok{l:List Est}(h0:1<=l.length)(h1:l.length<=19):Ok (fm l) (fun _=>True):=by
 unfold fm
 refine Ok.bind (P:=fun o:List Int=>o.length=l.length) (Ok.loop (fun s:Int×List Int=>(0<=s.1∧s.1<=l.length)∧s.2.length=s.1.toNat) (fun s=>((l.length:Int)-s.1).toNat) ?_ ⟨⟨sm,sm⟩,rfl⟩) (fun o ho=>?_)
 ·rintro⟨s1,s2⟩ ⟨⟨i0,i1⟩,i2⟩
  simp only at i0 i1 i2
  unfold jz gO
  refine Ok.gv (fun hlt=>?_) (fun _=>Ok.st za)
  refine Ok.bind (Ok.get za za) (fun x _=>?_)
  rw [zd]
  refine Ok.bind (Ok.app (by simp only [List.length_cons,List.length_nil];omega)) (fun y hy=>?_)
  subst hy
  rw [w64 za za]
  exact Ok.nx ⟨⟨zc,zc⟩,by simp only [List.length_append,List.length_cons,List.length_nil];omega⟩ zc
 ·exact Ok.bind (sort_okI za) (fun r hr=>half_len za za)
theorem network_ok{l:List Est}(h0:1<=l.length)(h1:l.length<=19)(hl:∀x∈l,x.aI<=x.aC):Ok (fG l) (fun r=>r.2=0):=by
 unfold fG
 refine Ok.tI (fun h=>za) (fun _=>?_)
 have e:cS l=some false:=by
  unfold cS dY
  rw [mP l.length (fun i hi=>?_) ?_]
  ·rfl
  ·unfold dG
   rw [if_neg sm]
  ·unfold dG gM
   have:=hl _ (List.getElem_mem hi)
   rw [if_pos so,gK rfl hi,zd,zd,if_neg so,w64 za za]
   simp
 rw [e,zd,if_neg sm]
 exact Ok.bind (med2_ok h0 h1) (fun a _=>Ok.bind (med3_ok h0 h1) (fun b _=>Ok.ret rfl))
structure MatV(m:aU):Prop where
 len:m.dj.length=m.dv.length∧m.jG.length=m.dv.length
 few:m.dv.length<=19
 pos:∀a∈m.dj,eB 60 a.aN
 resp:∀e∈m.jG,oo e.bu
theorem rz{s:ar}(hs:iZ s){m:aU}(hm:MatV m){b:ag}(hb:eM b):Ok (c8 m s b) (fun r=>r.length<=19∧∀x∈r,x.aI<=x.aC):=by
 obtain⟨⟨l1,l2⟩,l3,hp,hr⟩:=hm
 unfold c8
 refine Ok.bind (P:=fun r:List Est=>r.length<=19∧∀x∈r,x.aI<=x.aC) (Ok.loop (fun u:Int×List Est=>(0<=u.1∧u.1<=m.dj.length)∧u.2.length<=u.1.toNat∧∀x∈u.2,x.aI<=x.aC) (fun u=>((m.dj.length:Int)-u.1).toNat) ?_ ⟨⟨sm,sm⟩,sm,sm⟩) (fun r hr=>Ok.ret hr)
 rintro⟨s1,s2⟩ ⟨⟨i0,i1⟩,i2,i3⟩
 simp only at i0 i1 i2 i3
 unfold dK
 refine Ok.gv (fun hlt=>?_) (fun _=>Ok.st ⟨za,i3⟩)
 refine Ok.bind (Ok.get za za) (fun x6 g6=>Ok.bind (Ok.get za za) (fun x7 g7=>Ok.bind (Ok.get za za) (fun x8 g8=>?_)))
 obtain⟨e1,n0,n1⟩:=om hb (hp _ g6.1)
 obtain⟨e2,f0,f1⟩:=qA hb (hp _ g6.1)
 rw [e1,zd,e2,zd,w64 za za]
 refine Ok.bind (station_ok hs (hr _ g7.1) x8.bg n0 (lV hb _) za) (fun y hy=>?_)
 refine Ok.tI (fun h=>?_) (fun _=>Ok.nx ⟨⟨zc,zc⟩,zc,i3⟩ zc)
 refine Ok.bind (Ok.app (by simp only [List.length_cons,List.length_nil];omega)) (fun z hz=>?_)
 subst hz
 refine Ok.nx ⟨⟨zc,zc⟩,by simp only [List.length_append,List.length_cons,List.length_nil];omega,fun x hx=>?_⟩ zc
 rcases List.mem_append.1 hx with h'|h'
 ·exact i3 x h'
 ·rw [List.mem_singleton.1 h'];exact hy h
end Go.Dw.Em
set_option maxRecDepth 100000
set_option maxHeartbeats 4000000
namespace Go.Dw.Em
open Go.Dw Go.Proofs
section
variable {α:Type}
def qP(lt:α->α->Bool)(x:α):List α->List α
 | []=>[x]
 |y::r=>if lt x y=true then y::qP lt x r else x::y::r
def sortF(lt:α->α->Bool)(R l:List α):List α:=l.foldl (fun a x=>qP lt x a) R
def cW(lt:α->α->Bool)(l:List α):List α:=(sortF lt [] l).reverse
theorem mO(lt:α->α->Bool)(x:α):∀R,(qP lt x R).Perm (x::R)
 | []=>List.Perm.refl _
 |y::r=>by
  unfold qP
  split
  ·exact((mO lt x r).cons y).trans (List.Perm.swap x y r)
  ·exact List.Perm.refl _
theorem sortF_perm(lt:α->α->Bool):∀l R,(sortF lt R l).Perm (l++R)
 | [],_=>List.Perm.refl _
 |x::l,R=>(sortF_perm lt l (qP lt x R)).trans (((mO lt x R).append_left l).trans List.perm_middle)
theorem cp(lt:α->α->Bool)(l:List α):(cW lt l).Perm l:=(List.reverse_perm _).trans (by simpa using sortF_perm lt l [])
theorem fS(lt:α->α->Bool)(l:List α):(cW lt l).length=l.length:=(cp lt l).length_eq
def Lex(c:α->α->Int)(o:α->α->Prop)(a b:α):Prop:=c a b<0∨(c a b=0∧o a b)
theorem insR_lex{c:α->α->Int}(hc:Tot c){o:α->α->Prop}{x:α}:∀{R:List α},R.Pairwise (fun a b=>Lex c o b a)->(∀y∈R,o y x)->(qP (fun x y=>decide (c x y<0)) x R).Pairwise (fun a b=>Lex c o b a)
 | [],_,_=>by simp [qP]
 |y::r,h,hx=>by
  obtain⟨h1,h2⟩:=List.pairwise_cons.1 h
  unfold qP
  split
  ·rename_i hlt
   refine List.pairwise_cons.2 ⟨fun z hz=>?_,insR_lex hc h2 fun y hy=>hx y (List.mem_cons_of_mem _ hy)⟩
   rcases List.mem_cons.1 ((mO _ x r).mem_iff.1 hz)with rfl|hz
   ·exact .inl (by simpa using hlt)
   ·exact h1 z hz
  ·rename_i hlt
   have hyx:c y x<=0:=by
    have:=hc.uz x y
    simp only [decide_eq_true_eq]at hlt;omega
   refine List.pairwise_cons.2 ⟨fun z hz=>?_,h⟩
   have hzy:c z y<=0:=by
    rcases List.mem_cons.1 hz with rfl|hz
    ·have:=hc.refl z;omega
    ·rcases h1 z hz with h|h<;>omega
   have hzx:=hc.tr z y x hzy hyx
   rcases Int.lt_or_eq_of_le hzx with h|h
   ·exact .inl h
   ·exact .inr ⟨h,hx z hz⟩
theorem sortF_lex{c:α->α->Int}(hc:Tot c){o:α->α->Prop}:∀{l R:List α},R.Pairwise (fun a b=>Lex c o b a)->(∀y∈R,∀x∈l,o y x)->l.Pairwise o->(sortF (fun x y=>decide (c x y<0)) R l).Pairwise (fun a b=>Lex c o b a)
 | [],_,h,_,_=>h
 |x::l,R,h,hx,hl=>by
  obtain⟨l1,l2⟩:=List.pairwise_cons.1 hl
  refine sortF_lex hc (l:=l) (R:=qP _ x R) (insR_lex hc h fun y hy=>hx y hy x sm) (fun y hy z hz=>?_) l2
  rcases List.mem_cons.1 ((mO _ x R).mem_iff.1 hy)with rfl|hy
  ·exact l1 z hz
  ·exact hx y hy z (List.mem_cons_of_mem _ hz)
theorem sortI_lex{c:α->α->Int}(hc:Tot c){o:α->α->Prop}{l:List α}(hl:l.Pairwise o):(cW (fun x y=>decide (c x y<0)) l).Pairwise (Lex c o):=by
 unfold cW
 rw [List.pairwise_reverse]
 exact sortF_lex hc .nil (fun y hy=>by cases hy) hl
theorem sortI_le{c:α->α->Int}(hc:Tot c)(l:List α):(cW (fun x y=>decide (c x y<0)) l).Pairwise (fun a b=>c a b<=0):=by
 have:=sortI_lex hc (o:=fun _ _=>True) (l:=l) (List.pairwise_of_forall fun _ _=>trivial)
 exact this.imp fun h=>by rcases h with h|h<;>omega
theorem jD{c:α->α->Int}(hc:Tot c):∀{r s:List α},r.Pairwise (fun x y=>c x y<0)->s.Pairwise (fun x y=>c x y<0)->(∀x,x∈r↔x∈s)->r=s
 | [],[],_,_,_=>rfl
 | [],b::s,_,_,h=>by have:=(h b).2 sm;cases this
 |a::r,[],_,_,h=>by have:=(h a).1 sm;cases this
 |a::r,b::s,h1,h2,h=>by
  obtain⟨a1,a2⟩:=List.pairwise_cons.1 h1
  obtain⟨b1,b2⟩:=List.pairwise_cons.1 h2
  have e:a=b:=by
   rcases List.mem_cons.1 ((h a).1 sm)with h3|h3
   ·exact h3
   ·rcases List.mem_cons.1 ((h b).2 sm)with h4|h4
    ·exact h4.symm
    ·have:=a1 b h4;have:=b1 a h3;have:=hc.uz a b;omega
  subst e
  congr 1
  refine jD hc a2 b2 fun x=>⟨fun hx=>?_,fun hx=>?_⟩
  ·rcases List.mem_cons.1 ((h x).1 (List.mem_cons_of_mem _ hx))with rfl|h3
   ·have:=a1 x hx;have:=hc.refl x;omega
   ·exact h3
  ·rcases List.mem_cons.1 ((h x).2 (List.mem_cons_of_mem _ hx))with rfl|h3
   ·have:=b1 x hx;have:=hc.refl x;omega
   ·exact h3
end
noncomputable def insG31 {α β:Type} (br:α->α->Option β) (t:β->Bool) (a1 s1:Int):(Int×List α)->Option (fR (Int×List α) (Int×List α)):=fun(s5,s6)=>
 if(decide (s5>a1))=true then((inO s6 s5).bind fun x12=>(eV s6 s5).bind fun x13=>(inO s6 (IntKind.wrap .i64 (s5-(1:Int)))).bind fun x15=>(eV s6 (IntKind.wrap .i64 (s5-(1:Int)))).bind fun x16=>(br x13 x16).bind fun x17=>if t x17=true then((inO s6 (IntKind.wrap .i64 (s5-(1:Int)))).bind fun x20=>(eV s6 (IntKind.wrap .i64 (s5-(1:Int)))).bind fun x21=>(inO s6 s5).bind fun x23=>(eV s6 s5).bind fun x24=>(inO s6 s5).bind fun x26=>(tS s6 s5 x21).bind fun x27=>(inO x27 (IntKind.wrap .i64 (s5-(1:Int)))).bind fun x29=>(tS x27 (IntKind.wrap .i64 (s5-(1:Int))) x24).bind fun x30=>some (.next ((IntKind.wrap .i64 (s5-(1:Int))),x30)))else(some (.stop (s1,s6))))else(some (.stop (s1,s6)))
noncomputable def qO {α β:Type} (br:α->α->Option β) (t:β->Bool) (a2 a1:Int):(Int×List α)->Option (fR (Int×List α) (List α)):=fun(s1,s2)=>
 if(decide (s1<a2))=true then((dW (insG31 br t a1 s1) (s1,s2)).bind fun o32=>some (.next ((IntKind.wrap .i64 (o32.1+(1:Int))),o32.2)))else((some s2).bind fun z33=>some (.stop z33))
noncomputable def insG {α β:Type} (br:α->α->Option β) (t:β->Bool) (a1 a2:Int) (d0:List α):Option (List α):=
 (dW (qO br t a2 a1) ((IntKind.wrap .i64 (a1+(1:Int))),d0)).bind fun o35=>some o35
section
variable {α β:Type}{br:α->α->Option β}{t:β->Bool}{lt:α->α->Bool}{S:α->Prop}(hbr:∀x y,S x->S y->∃b,br x y=some b∧t b=lt x y)
include hbr
theorem insG_inner{s1:Int}{x:α}(hx:S x):∀(R B:List α),(∀y∈R,S y)->R.length+B.length<=1000->dW (insG31 br t 0 s1) ((R.length:Int),R.reverse++x::B)=some (s1,(qP lt x R).reverse++B)
 | [],B,_,_=>gI (by unfold insG31;dsimp only;rw [if_neg sm];rfl)
 |y::R,B,hR,hl=>by
  have e1:(y::R).reverse++x::B=R.reverse++y::x::B:=by simp
  have e2:R.reverse++y::x::B=(R.reverse++[y])++x::B:=by simp
  have hl':R.length+1+B.length<=1000:=by simpa using hl
  have hw:IntKind.wrap .i64 (((y::R).length:Int)-1)=(R.length:Int):=by rw [w64 sm so];simp
  have i1:inO (R.reverse++y::x::B) ((y::R).length:Int)=some ():=si za so
  have i0:inO (R.reverse++y::x::B) (R.length:Int)=some ():=si za so
  have g1:eV (R.reverse++y::x::B) ((y::R).length:Int)=some x:=by rw [e2];exact get1 _ _ _ sm
  have g0:eV (R.reverse++y::x::B) (R.length:Int)=some y:=get1 _ _ _ sm
  have s1':tS (R.reverse++y::x::B) ((y::R).length:Int) y=some (R.reverse++y::y::B):=by
   rw [e2,set1 _ _ _ _ sm];simp
  have i2:inO (R.reverse++y::y::B) (R.length:Int)=some ():=si za so
  have s0:tS (R.reverse++y::y::B) (R.length:Int) x=some (R.reverse++x::y::B):=set1 _ _ _ _ sm
  obtain⟨b,hb,ht⟩:=hbr x y hx (hR y sm)
  have hbody:insG31 br t 0 s1 (((y::R).length:Int),R.reverse++y::x::B)=if lt x y=true then some (.next ((R.length:Int),R.reverse++x::y::B))else some (.stop (s1,R.reverse++y::x::B)):=by
   unfold insG31
   dsimp only
   rw [if_pos sm,hw]
   simp only [i1,i0,g1,g0,hb,s1',i2,s0,zd,ht]
  rw [e1]
  unfold qP
  split
  ·rename_i hlt
   rw [if_pos hlt]at hbody
   rw [jr hbody,insG_inner hx R (y::B) (fun z hz=>hR z (List.mem_cons_of_mem _ hz)) so]
   simp
  ·rename_i hlt
   rw [if_neg hlt]at hbody
   rw [gI hbody]
   simp
theorem insG_outer:∀(l R:List α),(∀y∈R,S y)->(∀y∈l,S y)->R.length+l.length<=1000->∀n:Int,n=R.length+l.length->dW (qO br t n 0) ((R.length:Int),R.reverse++l)=some (sortF lt R l).reverse
 | [],R,_,_,_,n,hn=>by
  rw [List.append_nil]
  exact gI (by unfold qO;dsimp only;rw [if_neg (by simp at hn;simp [hn])];rfl)
 |x::l,R,hR,hl,hle,n,hn=>by
  have hlen:(qP lt x R).length=R.length+1:=by rw [(mO lt x R).length_eq];rfl
  have hle':R.length+(l.length+1)<=1000:=by simpa using hle
  have hbody:qO br t n 0 ((R.length:Int),R.reverse++x::l)=some (.next (((qP lt x R).length:Int),(qP lt x R).reverse++l)):=by
   unfold qO
   dsimp only
   rw [if_pos (by simp [hn];omega),insG_inner hbr (hl x sm) R l hR za,zd,w64 so so,hlen]
   simp
  rw [jr hbody]
  refine insG_outer l (qP lt x R) (fun y hy=>?_) (fun y hy=>hl y (List.mem_cons_of_mem _ hy)) za n (by rw [hlen,hn];simp;omega)
  rcases List.mem_cons.1 ((mO lt x R).mem_iff.1 hy)with rfl|hy
  ·exact hl _ sm
  ·exact hR y hy
theorem insG_at{l:List α}(hl:∀y∈l,S y)(hn:l.length<=1000):insG br t 0 (l.length:Int) l=some (cW lt l):=by
 unfold insG
 rw [w64 za za]
 cases l with
 |nil=>rw [gI (o:=[]) (by unfold qO;dsimp only;rw [if_neg sm];rfl)];rfl
 |cons x l=>
  have h:=insG_outer hbr l [x] (by simpa using hl x sm) (fun y hy=>hl y (List.mem_cons_of_mem _ hy)) (by simp at hn⊢;omega) ((x::l).length:Int) so
  have h':dW (qO br t ((x::l).length:Int) 0) (0+1,x::l)=some (sortF lt [x] l).reverse:=h
  rw [h'];rfl
end
theorem pL:∀{r s:List Int},r.Perm s->r.Pairwise (· <= ·)->s.Pairwise (· <= ·)->r=s
 | [],s,h,_,_=>h.nil_eq
 |a::r,[],h,_,_=>h.eq_nil
 |a::r,b::s,h,h1,h2=>by
  obtain⟨a1,a2⟩:=List.pairwise_cons.1 h1
  obtain⟨b1,b2⟩:=List.pairwise_cons.1 h2
  have e:a=b:=by
   rcases List.mem_cons.1 (h.mem_iff.1 (List.mem_cons_self (a:=a) (l:=r)))with h3|h3
   ·exact h3
   ·rcases List.mem_cons.1 (h.mem_iff.2 (List.mem_cons_self (a:=b) (l:=s)))with h4|h4
    ·exact h4.symm
    ·have:=a1 b h4;have:=b1 a h3;omega
  subst e
  rw [pL ((List.perm_cons a).1 h) a2 b2]
theorem sort_int{l:List Int}(hn:l.length<=1000000):tB l=some (cW (fun x y=>decide (sw x y<0)) l):=by
 obtain⟨r,e,hp,hs⟩:=zR hn
 rw [e,pL (hp.trans (cp _ l).symm) hs ((sortI_le sr l).imp fun{x y}h=>by unfold sw at h;repeat' split at h<;>omega)]
end Go.Dw.Em
set_option maxRecDepth 100000
set_option maxHeartbeats 4000000
namespace Go.Dw.Em
open Go.Dw Go.Proofs
abbrev Item:=am
theorem less_ok{d:List Item}{i j:Int}(hi:0<=i∧i<d.length)(hj:0<=j∧j<d.length):Ok (iM d i j) (fun _=>True):=by
 unfold iM
 refine Ok.bind (Ok.get hi.1 hi.2) (fun a _=>?_)
 refine Ok.bind (Ok.get hj.1 hj.2) (fun b _=>?_)
 rw [Sd.kB,zd]
 refine Ok.bind (Ok.get hi.1 hi.2) (fun a' _=>?_)
 refine Ok.bind (Ok.get hj.1 hj.2) (fun b' _=>?_)
 rw [Sd.kB,zd]
 obtain⟨r,e⟩:=or_some [sw a.cu b.cu,sw a'.gE b'.gE] sm
 rw [e]
 exact Ok.ret trivial
theorem swap_ok{d:List Item}{i j:Int}(hi:0<=i∧i<d.length)(hj:0<=j∧j<d.length):
  Ok (iN i j d) (fun r=>r.Perm d∧(r[j.toNat]? =d[i.toNat]?)∧∀k:Nat,k≠i.toNat->k≠j.toNat->r[k]? =d[k]?):=by
 unfold iN
 refine Ok.bind (Ok.tN hj.1 hj.2) (fun _ _=>Ok.bind (Ok.get hj.1 hj.2) (fun a ga=>?_))
 refine Ok.bind (Ok.tN hi.1 hi.2) (fun _ _=>Ok.bind (Ok.get hi.1 hi.2) (fun b gb=>?_))
 refine Ok.bind (Ok.tN hi.1 hi.2) (fun _ _=>Ok.bind (Ok.set hi.1 hi.2) (fun e he=>?_))
 subst he
 refine Ok.bind (Ok.tN hj.1 (by simpa using hj.2)) (fun _ _=>Ok.bind (Ok.set hj.1 (by simpa using hj.2)) (fun e he=>?_))
 subst he
 have h1:i.toNat<d.length:=by omega
 have h2:j.toNat<d.length:=by omega
 obtain⟨_,rfl⟩:=List.getElem?_eq_some_iff.1 ga.2
 obtain⟨_,rfl⟩:=List.getElem?_eq_some_iff.1 gb.2
 refine Ok.ret ⟨List.set_set_perm h1 h2,?_,fun k k1 k2=>?_⟩
 ·rw [List.getElem?_set_self (by simpa using h2),ze h1]
 ·rw [List.getElem?_set_ne (Ne.symm k2),List.getElem?_set_ne (Ne.symm k1)]
theorem up_ok{q:ah}{a b:Int}{f:Bool}{l:ak}{d:List Item}{j:Int}(hj:0<=j∧j<d.length)(hd:d.length<=1000):Ok (oE j q a b f l d) (fun r=>r.Perm d):=by
 unfold oE
 refine Ok.bind (P:=fun o:List Item=>o.Perm d) (Ok.loop (fun s:Int×List Item=>(0<=s.1∧s.1<d.length)∧s.2.Perm d) (fun s=>s.1.toNat) ?_ ⟨hj,List.Perm.refl _⟩) (fun o ho=>Ok.ret ho)
 rintro⟨s1,s2⟩ ⟨⟨i0,i1⟩,i2⟩
 simp only at i0 i1 i2
 have hlen:s2.length=d.length:=i2.length_eq
 unfold nv
 dsimp only
 rw [w64 (n:=s1-1) za za]
 have e:su .i64 (s1-1) 2=some (if s1=0 then 0 else(s1-1) / 2):=by
  unfold su
  rw [if_neg za]
  split
  ·rename_i h;subst h;rfl
  ·rw [Int.tdiv_eq_ediv_of_nonneg za,w64 za za]
 rw [e,zd]
 refine Ok.tI (fun _=>by rw [zd];exact Ok.st i2) (fun hne=>?_)
 have hp:s1≠0:=fun h=>hne (by rw [if_pos h,h])
 rw [if_neg hp]
 refine Ok.bind (less_ok za za) (fun x _=>?_)
 refine Ok.wc (fun _=>by rw [zd];exact Ok.st i2) (fun _=>?_)
 exact Ok.bind (swap_ok za za) (fun y hy=>Ok.nx ⟨⟨zc,zc⟩,hy.1.trans i2⟩ zc)
theorem down_ok{q:ah}{a b:Int}{f:Bool}{l:ak}{d:List Item}{n:Int}(hn:0<=n∧n<d.length)(hd:d.length<=1000):Ok (mN 0 n q a b f l d) (fun r=>r.2.Perm d∧r.2[n.toNat]? =d[n.toNat]?):=by
 unfold mN
 refine Ok.bind (P:=fun o:Int×List Item=>o.2.Perm d∧o.2[n.toNat]? =d[n.toNat]?) (Ok.loop (fun s:Int×List Item=>(0<=s.1∧s.1<=n)∧s.2.Perm d∧s.2[n.toNat]? =d[n.toNat]?) (fun s=>(n-s.1).toNat) ?_ ⟨⟨sm,hn.1⟩,List.Perm.refl _,rfl⟩) (fun o ho=>Ok.ret ho)
 rintro⟨s1,s2⟩ ⟨⟨i0,i1⟩,i2,i3⟩
 simp only at i0 i1 i2 i3
 have hlen:s2.length=d.length:=i2.length_eq
 unfold nR
 dsimp only
 rw [w64 (n:=2*s1) za za,w64 (n:=2*s1+1) za za,w64 (n:=2*s1+1+1) za za]
 refine Ok.gv (fun _=>Ok.st ⟨i2,i3⟩) (fun h1=>Ok.gv (fun _=>Ok.st ⟨i2,i3⟩) (fun _=>?_))
 have K:∀j,s1<j->j<n->Ok (e7 s2 s1 j) (Ok.S (fun s:Int×List Item=>(0<=s.1∧s.1<=n)∧s.2.Perm d∧s.2[n.toNat]? =d[n.toNat]?) (fun s=>(n-s.1).toNat) (fun o:Int×List Item=>o.2.Perm d∧o.2[n.toNat]? =d[n.toNat]?) (s1,s2)):=fun j j0 j1=>by
  unfold e7
  refine Ok.bind (less_ok za za) (fun x _=>?_)
  refine Ok.wc (fun _=>Ok.st ⟨i2,i3⟩) (fun _=>?_)
  exact Ok.bind (swap_ok za za) (fun y hy=>Ok.nx ⟨⟨zc,zc⟩,hy.1.trans i2,by rw [<-i3];exact hy.2.2 _ za za⟩ zc)
 refine Ok.gv (fun h2=>?_) (fun _=>K _ za za)
 refine Ok.bind (less_ok za za) (fun x _=>?_)
 exact Ok.iteB (fun _=>K _ za za) (fun _=>K _ za za)
theorem pop_ok{q:ah}{a b:Int}{f:Bool}{l:ak}{x:Item}{d:List Item}(hd:(x::d).length<=1000):Ok (n9 q a b f l (x::d)) (fun r=>r.2.Perm d):=by
 have hlen:((x::d).length:Int)=d.length+1:=by simp
 simp only [List.length_cons]at hd
 unfold n9 ik
 rw [zd]
 rw [hlen,w64 (n:=(d.length:Int)+1-1) za za]
 refine Ok.bind (swap_ok za za) (fun y⟨p1,p2,_⟩=>?_)
 have hy:y.length=d.length+1:=by have:=p1.length_eq;simpa using this
 refine Ok.bind (down_ok za za) (fun z⟨z1,z2⟩=>?_)
 have hz:z.2.length=d.length+1:=by rw [z1.length_eq,hy]
 unfold qd
 rw [hz,w64 (n:=((d.length+1:Nat):Int)-1) za za]
 refine Ok.bind (P:=fun r:Item×List Item=>r.2.Perm d) ?_ (fun r hr=>Ok.ret hr)
 refine Ok.bind (Ok.tN za za) (fun _ _=>Ok.bind (Ok.get za za) (fun w _=>?_))
 refine Ok.bind (Ok.sub za za za) (fun _ _=>Ok.ret ?_)
 simp only
 rw [show(((d.length+1:Nat):Int)-1).toNat=d.length by omega]
 have e:z.2[d.length]? =some x:=by
  rw [show((d.length:Int)+1-1).toNat=d.length by omega]at z2 p2
  rw [z2,p2];rfl
 obtain⟨hh,e⟩:=List.getElem?_eq_some_iff.1 e
 have h3:z.2=z.2.take d.length++[x]:=by
  conv=>lhs;rw [<-List.take_append_drop d.length z.2]
  rw [List.drop_eq_getElem_cons hh,e,List.drop_of_length_le za]
 have h4:(z.2.take d.length++[x]).Perm (x::d):=by rw [<-h3];exact z1.trans p1
 have h5:(x::z.2.take d.length).Perm (x::d):=(List.perm_append_comm (l₁:=[x])).trans h4
 exact(List.perm_cons x).1 h5
theorem push_ok{q:ah}{a b:Int}{f:Bool}{l:ak}{x:Item}{d:List Item}(hd:d.length<=500):Ok (lk x q a b f l d) (fun r=>r.Perm (x::d)):=by
 unfold lk nB ik
 refine Ok.bind (P:=fun r=>r=d++[x]) (Ok.bind (Ok.app (by simp only [List.length_cons,List.length_nil];omega)) (fun r hr=>Ok.ret hr)) (fun y hy=>?_)
 subst hy
 rw [zd]
 have hl:((d++[x]).length:Int)=d.length+1:=by simp
 rw [hl,w64 za za]
 exact Ok.bind (up_ok za so) (fun r hr=>Ok.ret (hr.trans (List.perm_append_comm (l₂:=[x]))))
theorem push1_ok{q:ah}{a b:Int}{f:Bool}{l:ak}{x:Item}:Ok (mM x q a b f l) (fun r=>r.Perm [x]):=by
 unfold mM oN ik
 refine Ok.bind (P:=fun r=>r=[x]) (Ok.bind (Ok.app sm) (fun r hr=>Ok.ret hr)) (fun y hy=>?_)
 subst hy
 rw [zd]
 rw [w64 sm sm]
 exact Ok.bind (up_ok sm sm) (fun r hr=>Ok.ret hr)
def cnt:List Item->Int
 | []=>0
 |x::l=>(2*pts x.jV-1)+cnt l
theorem lR{l m:List Item}(h:l.Perm m):cnt l=cnt m:=by
 induction h with
 |nil=>rfl
 |cons x _ ih=>simp only [cnt,ih]
 |swap x y l=>simp only [cnt];omega
 |trans _ _ h1 h2=>rw [h1,h2]
def mp(r:ag)(l:List Item):Prop:=∀x∈l,Sub r x.jV
theorem mp.perm{r:ag}{l m:List Item}(h:mp r m)(hp:l.Perm m):mp r l:=fun x hx=>h x (hp.mem_iff.1 hx)
theorem cnt_len{q:ah}(hq:PV q){l:List Item}(h:mp q.aM l):(l.length:Int)<=cnt l:=by
 induction l with
 |nil=>simp [cnt]
 |cons x l ih=>
  have h1:=ih fun y hy=>h y (List.mem_cons_of_mem _ hy)
  have h2:=(pts_in ((h x sm).ok hq.box hq.reg)).1
  simp only [cnt,List.length_cons];omega
def Good(q:ah)(l:ak):Prop:=Sub q.aM ⟨l.aX,l.aX⟩∧(Single q->l.bq=0)
theorem add_ok{q:ah}(hq:PV q){b:ag}(hb:Sub q.aM b){n k:Int}{f:Bool}{l:ak}{d:List Item}(hd:d.length<=500):Ok (iT b q n k f l d) (fun r=>r.1=0∧∃x:Item,x.jV=b∧r.2.2.Perm (x::d)):=by
 unfold iT iU
 refine Ok.bind (bound_ok hq hb) (fun x hx=>?_)
 refine Ok.tI (fun _=>?_) (fun h=>(h hx).elim)
 exact Ok.bind (push_ok hd) (fun r hr=>Ok.ret ⟨hx,_,rfl,hr⟩)
theorem add1_ok{q:ah}(hq:PV q){b:ag}(hb:Sub q.aM b){n k:Int}{f:Bool}{l:ak}:Ok (lz b q n k f l) (fun r=>r.1=0∧∃x:Item,x.jV=b∧r.2.1.Perm [x]):=by
 unfold lz jC
 refine Ok.bind (bound_ok hq hb) (fun x hx=>?_)
 refine Ok.tI (fun _=>?_) (fun h=>(h hx).elim)
 exact Ok.bind push1_ok (fun r hr=>Ok.ret ⟨hx,_,rfl,hr⟩)
theorem look_ok{q:ah}(hq:PV q){b:ag}(hb:Sub q.aM b){n k:Int}{f:Bool}{l:ak}{d:List Item}(hf:f=true->Good q l):Ok (kk b q n k f l d) (fun r=>r.1=0∧r.2.1=true∧Good q r.2.2):=by
 unfold kk
 refine Ok.bind (center_ok hq.box hq.reg hb) (fun p hp=>?_)
 refine Ok.bind (at_ok hq hp) (fun x hx=>?_)
 refine Ok.rm (fun h=>(h hx.1).elim) (fun _=>?_)
 have hg:Good q (ak.mk p x.1 x.2.1 0 (ag.mk (aa.mk 0 0 0) (aa.mk 0 0 0))):=⟨hp,hx.2⟩
 refine Ok.wc (fun _=>Ok.ret ⟨rfl,rfl,hg⟩) (fun hft=>?_)
 refine Ok.gv (fun _=>Ok.ret ⟨rfl,rfl,hg⟩) (fun _=>Ok.tI (fun _=>?_) (fun _=>Ok.ret ⟨rfl,hft,hf hft⟩))
 exact Ok.bind (compare_ok _ _) (fun c _=>Ok.gv (fun _=>Ok.ret ⟨rfl,rfl,hg⟩) (fun _=>Ok.ret ⟨rfl,hft,hf hft⟩))
theorem ended_ok{t:Int}{q:ah}{n k:Int}{f:Bool}{l:ak}{d:List Item}:Ok (jn t q n k f l d) (fun r=>(r=false->d≠ [])∧(r=true->d=[]∨f=true)):=by
 unfold jn
 refine Ok.tI (fun h=>Ok.ret ⟨fun h=>by simp at h,fun _=>.inl (List.length_eq_zero_iff.1 za)⟩) (fun h=>?_)
 have hd:d≠ []:=fun e=>h (by rw [e];rfl)
 have:=List.length_pos_iff.2 hd
 refine Ok.iteB (fun hf=>?_) (fun _=>Ok.ret ⟨fun _=>hd,fun h=>by simp at h⟩)
 exact Ok.bind (Ok.tN za za) (fun _ _=>Ok.bind (Ok.get za za) (fun _ _=>Ok.ret ⟨fun _=>hd,fun _=>.inr hf⟩))
theorem step_ok{q:ah}(hq:PV q){n k:Int}{f:Bool}{l:ak}{d:List Item}(hd:d≠ [])(ho:mp q.aM d)(hk:0<=k∧k+cnt d<=300)(hf:f=true->Good q l):
  Ok (kl q n k f l d) (fun r=>r.1=0∧r.2.2.1=k+1∧r.2.2.2.1=true∧Good q r.2.2.2.2.1∧mp q.aM r.2.2.2.2.2∧r.2.2.2.2.2.length<=d.length+1∧k+1+cnt r.2.2.2.2.2<=k+cnt d):=by
 match d,hd with
 |x::d,_=>
  have hlen:=cnt_len hq ho
  have hx:=ho x sm
  have ho':mp q.aM d:=fun y hy=>ho y (List.mem_cons_of_mem _ hy)
  have hpx:=pts_in (hx.ok hq.box hq.reg)
  simp only [List.length_cons]at hlen
  unfold kl
  refine Ok.tI (fun h=>za) (fun _=>?_)
  refine Ok.bind (Ok.tN za sm) (fun _ _=>?_)
  rw [show eV (x::d) (0:Int)=some x from rfl,zd]
  refine Ok.bind (pop_ok (by simp only [List.length_cons];omega)) (fun y hy=>?_)
  have hyl:y.2.length=d.length:=hy.length_eq
  have hyo:mp q.aM y.2:=ho'.perm hy
  have hyc:cnt y.2=cnt d:=lR hy
  have hcx:cnt (x::d)=(2*pts x.jV-1)+cnt d:=rfl
  rw [w64 za za]
  refine Ok.bind (look_ok hq hx hf) (fun z hz=>?_)
  refine Ok.rm (fun h=>(h hz.1).elim) (fun _=>?_)
  refine Ok.bind (zr hq.box hq.reg hx) (fun s hs=>?_)
  refine Ok.wc (fun _=>Ok.ret ⟨rfl,rfl,hz.2.1,hz.2.2,hyo,so,zc⟩) (fun hst=>?_)
  obtain⟨s1,s2,s3⟩:=hs hst
  refine Ok.bind (add_ok hq s1 za) (fun u⟨u1,a,ua,up⟩=>?_)
  refine Ok.rm (fun h=>(h u1).elim) (fun _=>?_)
  have hul:u.2.2.length=d.length+1:=by rw [up.length_eq];simp [hyl]
  refine Ok.bind (add_ok hq s2 za) (fun v⟨v1,b,vb,vp⟩=>Ok.ret ⟨v1,rfl,hz.2.1,hz.2.2,?_,?_,?_⟩)
  ·refine mp.perm (fun w hw=>?_) vp
   rcases List.mem_cons.1 hw with rfl|hw
   ·rw [vb];exact s2
   ·rcases List.mem_cons.1 (up.mem_iff.1 hw)with rfl|hw
    ·rw [ua];exact s1
    ·exact hyo w hw
  ·simp only
   rw [vp.length_eq];simp only [List.length_cons];omega
  ·simp only
   rw [lR vp,hcx]
   simp only [cnt]
   rw [lR up]
   simp only [cnt]
   rw [ua,vb];omega
theorem run_ok{q:ah}(hq:PV q){t:Int}(ht:0<=t):Ok (iG q t) (fun r=>r.2=0∧∃s,r.1=some s∧Good q s.bS∧mp q.aM s.kF∧s.kF.length<=300):=by
 have hpr:=pts_in hq.box
 unfold iG
 rw [nN hq,zd,if_neg sm,if_neg so]
 refine Ok.bind (add1_ok hq (Sub.refl hq.box)) (fun x⟨x1,a,xa,xp⟩=>?_)
 refine Ok.rm (fun h=>(h x1).elim) (fun _=>?_)
 have hxc:cnt x.2.1=2*pts q.aM-1:=by rw [lR xp];simp only [cnt];rw [xa];omega
 have hxo:mp q.aM x.2.1:=mp.perm (fun w hw=>by rw [List.mem_singleton.1 hw,xa];exact Sub.refl hq.box) xp
 refine Ok.bind (P:=fun o=>∃y,o= .inl y∧Good q y.2.2.2.2∧mp q.aM y.1∧y.1.length<=300) (Ok.loop (fun s:Int×Int×Bool×ak×List Item=>(0<=s.2.1∧s.2.1+cnt s.2.2.2.2<=300)∧mp q.aM s.2.2.2.2∧(s.2.2.1=true->Good q s.2.2.2.1)∧(s.2.2.2.2=[]->s.2.2.1=true)) (fun s=>(300-s.2.1).toNat) ?_ ⟨⟨sm,zc⟩,hxo,sm,fun h=>?_⟩) (fun o⟨y,ho,h1,h2,h3⟩=>by subst ho;exact Ok.ret ⟨rfl,_,rfl,h1,h2,h3⟩)
 ·rintro⟨s6,s7,s8,s9,s10⟩ ⟨⟨i0,i1⟩,i2,i3,i4⟩
  simp only at i0 i1 i2 i3 i4
  have hl:=cnt_len hq i2
  unfold kJ
  dsimp only
  refine Ok.bind ended_ok (fun e he=>?_)
  refine Ok.wc (fun hef=>?_) (fun het=>Ok.st ⟨_,rfl,?_,i2,zc⟩)
  ·have hne:=he.1 hef
   have:=List.length_pos_iff.2 hne
   refine Ok.bind (step_ok hq hne i2 ⟨i0,i1⟩ i3) (fun r⟨r1,r2,r3,r4,r5,r6,r7⟩=>?_)
   refine Ok.rm (fun h=>(h r1).elim) (fun _=>?_)
   exact Ok.nx ⟨⟨zc,zc⟩,r5,fun _=>r4,fun _=>r3⟩ zc
  ·refine i3 ?_
   rcases he.2 het with h|h
   ·exact i4 h
   ·exact h
 ·simp only at h
  rw [h]at hxc
  simp only [cnt]at hxc;omega
theorem locate_ok{q:ah}(hq:PV q){t:Int}(ht:0<=t):Ok (c9 q t) (fun r=>r.2=0∧Sub q.aM r.1.bh∧(Single q->r.1.bq=0)):=by
 unfold c9
 refine Ok.bind (run_ok hq ht) (fun x⟨x1,s,xs,⟨g1,g2⟩,ho,hs⟩=>?_)
 rw [xs]
 show Ok (if(x.2 != (0:Int))=true then _ else _) _
 refine Ok.rm (fun h=>(h x1).elim) (fun _=>?_)
 refine Ok.bind (P:=fun o:Int×ag=>Sub q.aM o.2) (Ok.loop (fun u:Int×Int×ag=>(0<=u.1∧u.1<=s.kF.length)∧Sub q.aM u.2.2) (fun u=>((s.kF.length:Int)-u.1).toNat) ?_ ⟨⟨sm,sm⟩,g1⟩) (fun o ho=>Ok.ret ⟨rfl,ho,g2⟩)
 rintro⟨u1,u2,u3⟩ ⟨⟨i0,i1⟩,i2⟩
 simp only at i0 i1 i2
 unfold kI
 refine Ok.gv (fun hlt=>?_) (fun _=>Ok.st i2)
 refine Ok.bind (Ok.get za za) (fun y hy=>?_)
 rw [w64 za za]
 refine Ok.gv (fun _=>?_) (fun _=>Ok.nx ⟨⟨zc,zc⟩,i2⟩ zc)
 exact Ok.bind (hull_ok hq.box hq.reg i2 (ho y hy.1)) (fun z hz=>Ok.nx ⟨⟨zc,zc⟩,hz⟩ zc)
end Go.Dw.Em
set_option maxRecDepth 100000
set_option maxHeartbeats 4000000
namespace Go.Dw.Em
open Go.Dw Go.Proofs
theorem has_max:∀{l:List Int},l≠ []->∃m∈l,∀x∈l,x<=m
 | [a],_=>⟨a,sm,sm⟩
 |a::b::r,_=>by
  obtain⟨m,h1,h2⟩:=has_max (l:=b::r) sm
  by_cases h:a<=m
  ·exact ⟨m, List.mem_cons_of_mem _ h1, fun x hx => by
    rcases List.mem_cons.1 hx with rfl|hx
    ·exact h
    ·exact h2 x hx⟩
  ·exact ⟨a, sm, fun x hx => by
    rcases List.mem_cons.1 hx with rfl|hx
    ·exact Int.le_refl _
    ·have:=h2 x hx;omega⟩
theorem has_min{l:List Int}(h:l≠ []):∃m∈l,∀x∈l,m<=x:=by
 obtain⟨m,h1,h2⟩:=has_max (l:=l.map fun x=> -x) (by simpa using h)
 obtain⟨y,hy,rfl⟩:=List.mem_map.1 h1
 exact⟨y,hy,fun x hx=>by have:=h2 (-x) (List.mem_map.2 ⟨x,hx,rfl⟩);omega⟩
def res(z:aK)(t:Int):Int:=max 0 (max (t-z.fTo) (z.bj-t))
def iz(cap w:Int)(z:aK)(t:Int):Int:=w*min cap (res z t)
def b7(cap:Int):List aj->List aK->Int->Int
 |a::ps,z::zs,t=>iz cap a.bJ z t+b7 cap ps zs t
 |_,_,_=>0
def ends:List aK->List Int
 | []=>[]
 |z::zs=>z.bj::z.fTo::ends zs
theorem mem_ends{l:List aK}{t:Int}:t∈ends l↔∃z∈l,t=z.bj∨t=z.fTo:=by
 induction l with
 |nil=>simp [ends]
 |cons z zs ih=>simp [ends,ih,or_assoc]
theorem cap_line{c a L R t:Int}(h1:L<=t)(h2:t<=R):(R-t)*min c (a-L)+(t-L)*min c (a-R)<=(R-L)*min c (a-t):=by
 have k1:(R-t)*min c (a-L)<=(R-t)*c:=Int.mul_le_mul_of_nonneg_left za za
 have k2:(t-L)*min c (a-R)<=(t-L)*c:=Int.mul_le_mul_of_nonneg_left za za
 have k3:(R-t)*min c (a-L)<=(R-t)*(a-L):=Int.mul_le_mul_of_nonneg_left za za
 have k4:(t-L)*min c (a-R)<=(t-L)*(a-R):=Int.mul_le_mul_of_nonneg_left za za
 rcases Int.le_total c (a-t)with h|h
 ·rw [Int.min_eq_left h]
  have:(R-t)*c+(t-L)*c=(R-L)*c:=by rw [<-Int.add_mul];congr 1;omega
  omega
 ·rw [Int.min_eq_right h]
  have:(R-t)*(a-L)+(t-L)*(a-R)=(R-L)*(a-t):=by
   simp only [Int.sub_mul,Int.mul_sub,Int.mul_comm]
   omega
  omega
theorem cost1_line{cap w:Int}{z:aK}(hc:0<=cap)(hw:0<=w)(hz:z.bj<=z.fTo){L R t:Int}(h1:L<=t)(h2:t<=R)(hf:z.bj<=L∨R<=z.bj)(ht:z.fTo<=L∨R<=z.fTo):
  (R-t)*iz cap w z L+(t-L)*iz cap w z R<=(R-L)*iz cap w z t:=by
 have key:(R-t)*min cap (res z L)+(t-L)*min cap (res z R)<=(R-L)*min cap (res z t):=by
  unfold res
  rcases hf with hf|hf
  ·rcases ht with ht|ht
   ·rw [show max 0 (max (L-z.fTo) (z.bj-L))=(-z.fTo)-(-L)by omega,show max 0 (max (R-z.fTo) (z.bj-R))=(-z.fTo)-(-R)by omega,show max 0 (max (t-z.fTo) (z.bj-t))=(-z.fTo)-(-t)by omega]
    have:=cap_line (c:=cap) (a:= -z.fTo) (L:= -R) (R:= -L) (t:= -t) za za
    rw [show-L- -t=t-L by omega,show-t- -R=R-t by omega,show-L- -R=R-L by omega]at this
    omega
   ·rw [show max 0 (max (L-z.fTo) (z.bj-L))=0 by omega,show max 0 (max (R-z.fTo) (z.bj-R))=0 by omega,show max 0 (max (t-z.fTo) (z.bj-t))=0 by omega]
    rw [Int.min_eq_right hc];simp
  ·rw [show max 0 (max (L-z.fTo) (z.bj-L))=z.bj-L by omega,show max 0 (max (R-z.fTo) (z.bj-R))=z.bj-R by omega,show max 0 (max (t-z.fTo) (z.bj-t))=z.bj-t by omega]
   exact cap_line h1 h2
 unfold iz
 have:=Int.mul_le_mul_of_nonneg_left key hw
 rw [Int.mul_add,Int.mul_left_comm w (R-t),Int.mul_left_comm w (t-L),Int.mul_left_comm w (R-L)]at this
 exact this
theorem costS_line{cap:Int}(hc:0<=cap){L R t:Int}(h1:L<=t)(h2:t<=R):∀(ps:List aj)(zs:List aK),(∀a∈ps,0<=a.bJ)->(∀z∈zs,z.bj<=z.fTo)->(∀e∈ends zs,e<=L∨R<=e)->
  (R-t)*b7 cap ps zs L+(t-L)*b7 cap ps zs R<=(R-L)*b7 cap ps zs t
 |a::ps,z::zs,ha,hz,he=>by
  have k1:=cost1_line hc (ha a sm) (hz z sm) h1 h2 (he _ (by simp [ends])) (he _ (by simp [ends]))
  have k2:=costS_line hc h1 h2 ps zs (fun x hx=>ha x (by simp [hx])) (fun x hx=>hz x (by simp [hx])) (fun e h=>he e (by simp [ends,h]))
  unfold b7
  rw [Int.mul_add,Int.mul_add,Int.mul_add]
  omega
 | [],_,_,_,_=>by simp [b7]
 |_::_,[],_,_,_=>by simp [b7]
theorem costS_left{cap:Int}{L t:Int}(h1:t<=L):∀(ps:List aj)(zs:List aK),(∀a∈ps,0<=a.bJ)->(∀z∈zs,z.bj<=z.fTo)->(∀e∈ends zs,L<=e)->b7 cap ps zs L<=b7 cap ps zs t
 |a::ps,z::zs,ha,hz,he=>by
  have:=costS_left (cap:=cap) h1 ps zs (fun x hx=>ha x (by simp [hx])) (fun x hx=>hz x (by simp [hx])) (fun e h=>he e (by simp [ends,h]))
  have e1:=he z.bj (by simp [ends])
  have e2:=he z.fTo (by simp [ends])
  unfold b7
  have:iz cap a.bJ z L<=iz cap a.bJ z t:=Int.mul_le_mul_of_nonneg_left (by unfold res;omega) (ha a sm)
  omega
 | [],_,_,_,_=>by simp [b7]
 |_::_,[],_,_,_=>by simp [b7]
theorem costS_right{cap:Int}{L t:Int}(h1:L<=t):∀(ps:List aj)(zs:List aK),(∀a∈ps,0<=a.bJ)->(∀z∈zs,z.bj<=z.fTo)->(∀e∈ends zs,e<=L)->b7 cap ps zs L<=b7 cap ps zs t
 |a::ps,z::zs,ha,hz,he=>by
  have:=costS_right (cap:=cap) h1 ps zs (fun x hx=>ha x (by simp [hx])) (fun x hx=>hz x (by simp [hx])) (fun e h=>he e (by simp [ends,h]))
  have e1:=he z.bj (by simp [ends])
  have e2:=he z.fTo (by simp [ends])
  unfold b7
  have:iz cap a.bJ z L<=iz cap a.bJ z t:=Int.mul_le_mul_of_nonneg_left (by unfold res;omega) (ha a sm)
  omega
 | [],_,_,_,_=>by simp [b7]
 |_::_,[],_,_,_=>by simp [b7]
theorem least_end{cap:Int}(hc:0<=cap){ps:List aj}{zs:List aK}(hn:zs≠ [])(ha:∀a∈ps,0<=a.bJ)(hz:∀z∈zs,z.bj<=z.fTo)(t:Int):∃e∈ends zs,b7 cap ps zs e<=b7 cap ps zs t:=by
 have hne:ends zs≠ []:=by
  match zs,hn with
  |z::zs,_=>simp [ends]
 by_cases hA:(ends zs).filter (fun e=>decide (e<=t))=[]
 ·obtain⟨m,h1,h2⟩:=has_min hne
  have:t<=m:=by
   apply Classical.byContradiction
   intro h
   have:m∈(ends zs).filter (fun e=>decide (e<=t)):=List.mem_filter.2 ⟨h1,so⟩
   rw [hA]at this;simp at this
  exact⟨m,h1,costS_left this ps zs ha hz h2⟩
 by_cases hB:(ends zs).filter (fun e=>decide (t<=e))=[]
 ·obtain⟨m,h1,h2⟩:=has_max hne
  have:m<=t:=by
   apply Classical.byContradiction
   intro h
   have:m∈(ends zs).filter (fun e=>decide (t<=e)):=List.mem_filter.2 ⟨h1,so⟩
   rw [hB]at this;simp at this
  exact⟨m,h1,costS_right this ps zs ha hz h2⟩
 obtain⟨L,l1,l2⟩:=has_max hA
 obtain⟨R,r1,r2⟩:=has_min hB
 rw [List.mem_filter]at l1 r1
 have l3:L<=t:=by simpa using l1.2
 have r3:t<=R:=by simpa using r1.2
 have hl := costS_line hc l3 r3 ps zs ha hz (fun e he => by
  rcases Int.le_total e t with h|h
  ·exact .inl (l2 e (List.mem_filter.2 ⟨he,by simpa using h⟩))
  ·exact .inr (r2 e (List.mem_filter.2 ⟨he,by simpa using h⟩)))
 by_cases h1:b7 cap ps zs L<=b7 cap ps zs t
 ·exact⟨L,l1.1,h1⟩
 by_cases h2:b7 cap ps zs R<=b7 cap ps zs t
 ·exact⟨R,r1.1,h2⟩
 exfalso
 have hLt:L≠t:=fun h=>h1 (by rw [h];exact Int.le_refl _)
 have k1:(R-t)*(b7 cap ps zs t+1)<=(R-t)*b7 cap ps zs L:=Int.mul_le_mul_of_nonneg_left za za
 have k2:(t-L)*(b7 cap ps zs t+1)<=(t-L)*b7 cap ps zs R:=Int.mul_le_mul_of_nonneg_left za za
 have k3:(R-t)*(b7 cap ps zs t+1)+(t-L)*(b7 cap ps zs t+1)=(R-L)*b7 cap ps zs t+(R-L):=by
  rw [<-Int.add_mul,show R-t+(t-L)=R-L by omega,Int.mul_add];omega
 omega
theorem costS_mono{cap:Int}(t:Int):∀(ps:List aj)(zs ys:List aK),(∀a∈ps,0<=a.bJ)->zs.length=ys.length->(∀(i:Nat)(h:i<zs.length)(h':i<ys.length),zs[i].bj<=ys[i].bj∧ys[i].fTo<=zs[i].fTo)->b7 cap ps zs t<=b7 cap ps ys t
 |a::ps,z::zs,y::ys,ha,hl,h=>by
  have k1:=costS_mono (cap:=cap) t ps zs ys (fun x hx=>ha x (by simp [hx])) (by simpa using hl) (fun i h1 h2=>h (i+1) (Nat.succ_lt_succ h1) (Nat.succ_lt_succ h2))
  have k2:=h 0 sm sm
  simp only [List.getElem_cons_zero]at k2
  unfold b7
  have:iz cap a.bJ z t<=iz cap a.bJ y t:=Int.mul_le_mul_of_nonneg_left (by unfold res;omega) (ha a sm)
  omega
 | [],_,_,_,_,_=>by simp [b7]
 |_::_,[],[],_,_,_=>by simp [b7]
 |_::_,[],_::_,_,hl,_=>by simp at hl
 |_::_,_::_,[],_,hl,_=>by simp at hl
end Go.Dw.Em
