
import Derived.Test.YthadlbjoiidkjaaGreatDoorFaFn
import Derived.Test.YthadlbjoiidkjaaGreatDoorDwPlain
import Derived.Test.YthadlbjoiidkjaaGreatDoorDwOk
import Derived.Test.YthadlbjoiidkjaaGreatDoorDwText
import Derived.Test.YthadlbjoiidkjaaGreatDoorFaCo

set_option maxRecDepth 100000
set_option maxHeartbeats 4000000
namespace Go.Dw.Fa
namespace So
open Go.Dw
abbrev Src:=ap
theorem byteO_at{s:List UInt8}{n:Int}{i:Nat}(hn:n=i)(hi:i<s.length):qx s n=some ((s[i].toNat:Nat):Int):=by
 subst hn
 unfold qx
 rw [if_pos ⟨om,om⟩,Int.toNat_natCast,List.getD_eq_getElem?_getD,zc hi];rfl
theorem appO_at{α:Type}{l m:List α}{b:Nat}(h:(l.length+m.length)*b<=140737488355328):lh l m b=some (l++m):=by
 unfold lh
 rw [if_pos h]
theorem loop_list{α ω:Type}{body:Int->Option (iN Int ω)}(l:List α){p:α->Bool}{u r:ω}(h1:∀(i:Nat)(hi:i<l.length),body i=if p l[i]=true then some (.next ((i+1:Nat):Int))else some (.stop r))
  (h2:body (l.length:Nat)=some (.stop u)):fq body (0:Int)=some (if l.all p=true then u else r):=by
 have:∀k i,i+k=l.length->fq body (i:Int)=some (if(l.drop i).all p=true then u else r):=by
  intro k
  induction k with
  |zero=>
   intro i hi
   obtain rfl:i=l.length:=by omega
   rw [jy h2];simp
  |succ k ih=>
   intro i hi
   have hlt:i<l.length:=by omega
   rw [List.drop_eq_getElem_cons hlt,List.all_cons]
   by_cases hp:p l[i]=true
   ·rw [ju (by rw [h1 i hlt,if_pos hp]),ih (i+1) om,hp,Bool.true_and]
   ·rw [jy (by rw [h1 i hlt,if_neg hp])];simp [hp]
 have:=this l.length 0 om
 simpa using this
def ig(c:UInt8):Bool:=(decide (65<=c.toNat)&&decide (c.toNat<=90))||(decide (48<=c.toNat)&&decide (c.toNat<=57))
theorem dec1(n:Nat):decide ((n:Int)>=65)=decide (65<=n):=decide_eq_decide.2 om
theorem dec2(n:Nat):decide ((n:Int)<=90)=decide (n<=90):=decide_eq_decide.2 om
theorem dec3(n:Nat):decide ((n:Int)>=48)=decide (48<=n):=decide_eq_decide.2 om
theorem dec4(n:Nat):decide ((n:Int)<=57)=decide (n<=57):=decide_eq_decide.2 om
theorem plain_eq(c:UInt8):fP ((c.toNat:Nat):Int)=some (ig c):=by
 unfold fP ig
 rw [dec1,dec2,dec3,dec4]
 cases decide (65<=c.toNat)<;>cases decide (c.toNat<=90)<;>cases decide (48<=c.toNat)<;>simp
def gJ(s:List UInt8)(lo hi:Int):Bool:=s.all ig&&(decide ((s.length:Int)>=lo)&&decide ((s.length:Int)<=hi))
theorem code_l7{s:List UInt8}(hs:s.length<=9223372036854775807):fq (dA s) (0:Int)=some (if s.all ig=true then .inl ()else .inr false):=by
 refine loop_list s (fun i hi=>?_) ?_
 ·unfold dA
  rw [if_pos so,byteO_at rfl hi,w64 om om]
  simp only [zb,plain_eq]
  cases ig s[i]<;>simp
 ·unfold dA
  rw [if_neg sm]
theorem code_eq{s:List UInt8}(hs:s.length<=9223372036854775807)(lo hi:Int):cE s lo hi=some (gJ s lo hi):=by
 unfold cE gJ
 rw [code_l7 hs]
 cases s.all ig with
 |true=>cases decide ((s.length:Int)>=lo)<;>simp
 |false=>rfl
def SidLen(x:Src):Prop:=x.aM.length<=9223372036854775807∧x.aN.length<=9223372036854775807∧x.ac.length<=9223372036854775807∧x.aO.length<=9223372036854775807
def dU(x:Src):Bool:=gJ x.aM 1 2&&(gJ x.aN 1 5&&(gJ x.ac 0 2&&(decide (x.ac.length≠1)&&gJ x.aO 3 3)))
theorem Valid_eq{x:Src}(hx:SidLen x):ct x=some (dU x):=by
 obtain⟨h1,h2,h3,h4⟩:=hx
 unfold ct dU
 simp only [code_eq h1,code_eq h2,code_eq h3,code_eq h4,zb]
 have e:((x.ac.length:Int) != 1)=decide (x.ac.length≠1):=by
  by_cases h:x.ac.length=1
  ·simp [h]
  ·simp [h];omega
 rw [e]
 cases gJ x.aM 1 2<;>cases gJ x.aN 1 5<;>cases gJ x.ac 0 2<;>cases decide (x.ac.length≠1)<;>simp
theorem ix{s:List UInt8}{lo:Int}{hi:Nat}(h:gJ s lo hi=true):s.length<=hi:=by
 unfold gJ at h
 simp only [Bool.and_eq_true,decide_eq_true_eq]at h
 omega
theorem iy{x:Src}(h:dU x=true):x.aM.length<=2∧x.aN.length<=5∧x.ac.length<=2∧x.aO.length<=3:=by
 unfold dU at h
 simp only [Bool.and_eq_true]at h
 exact⟨ix (hi:=2) h.1,ix (hi:=5) h.2.1,ix (hi:=2) h.2.2.1,ix (hi:=3) h.2.2.2.2⟩
def fmt(x:Src):List UInt8:=x.aM++[46]++x.aN++[46]++x.ac++[46]++x.aO
def iL(x:Src):List UInt8×Int:=if dU x=true then(fmt x,0)else([],1)
theorem Format_eq{x:Src}(hx:SidLen x):cJ x=some (iL x):=by
 unfold cJ iL fO
 rw [Valid_eq hx,zb]
 cases h:dU x with
 |false=>simp
 |true=>
  obtain⟨h1,h2,h3,h4⟩:=iy h
  have e:Lib.join [x.aM,x.aN,x.ac,x.aO] [46]=fmt x:=by
   simp [Lib.join,List.intercalate,List.intersperse,fmt]
  have hl:(fmt x).length<=15:=by simp [fmt];omega
  simp only [Bool.not_true,Bool.false_eq_true,if_false,zb,pc,e,if_true]
  rw [if_pos ⟨sm,sm,om⟩];rfl
theorem splitO_eq{s:List UInt8}(hs:s.length<=4000000000):nW s [46]=some (jL 46 s):=by
 show(if s.length<4294967281 then some (jL 46 s)else none)=_
 rw [if_pos om]
theorem getO4{α:Type}(a b c d:α):ja [a,b,c,d] 0=some a∧ja [a,b,c,d] 1=some b∧ja [a,b,c,d] 2=some c∧ja [a,b,c,d] 3=some d:=⟨rfl,rfl,rfl,rfl⟩
theorem plain_no{c:UInt8}(h:ig c=true):c≠46∧c≠32:=by
 unfold ig at h
 simp only [Bool.or_eq_true,Bool.and_eq_true,decide_eq_true_eq]at h
 constructor<;>(rintro rfl;revert h;decide)
theorem gj{s:List UInt8}{lo hi:Int}(h:gJ s lo hi=true):(46:UInt8)∉s∧(32:UInt8)∉s:=by
 unfold gJ at h
 simp only [Bool.and_eq_true,List.all_eq_true]at h
 exact⟨fun hm=>(plain_no (h.1 _ hm)).1 rfl,fun hm=>(plain_no (h.1 _ hm)).2 rfl⟩
theorem valid_no{x:Src}(h:dU x=true):((46:UInt8)∉x.aM∧(46:UInt8)∉x.aN∧(46:UInt8)∉x.ac∧(46:UInt8)∉x.aO)∧(32:UInt8)∉fmt x∧(fmt x).length<=15:=by
 have hl:=iy h
 unfold dU at h
 simp only [Bool.and_eq_true]at h
 obtain⟨h1,h2,h3, -,h4⟩:=h
 refine⟨⟨(gj h1).1,(gj h2).1,(gj h3).1,(gj h4).1⟩,?_,by simp [fmt];omega⟩
 simp [fmt,(gj h1).2,(gj h2).2,(gj h3).2,(gj h4).2]
theorem lens{x:Src}(h:dU x=true):SidLen x:=by
 obtain⟨h1,h2,h3,h4⟩:=iy h
 exact⟨om,om,om,om⟩
theorem parse_fmt{x:Src}(h:dU x=true):cZ (fmt x)=some (x,0):=by
 obtain⟨⟨h1,h2,h3,h4⟩, -,hl⟩:=valid_no h
 have e:fmt x=Lib.join [x.aM,x.aN,x.ac,x.aO] [46]:=by simp [Lib.join,List.intercalate,List.intersperse,fmt]
 have hs:jL 46 (fmt x)=[x.aM,x.aN,x.ac,x.aO]:=by
  rw [e]
  refine qh sm (fun w hw=>?_)
  simp only [List.mem_cons,List.not_mem_nil,or_false]at hw
  rcases hw with rfl|rfl|rfl|rfl<;>assumption
 unfold cZ
 rw [splitO_eq om,hs,zb,if_neg sm]
 obtain⟨g0,g1,g2,g3⟩:=getO4 x.aM x.aN x.ac x.aO
 have hv:=Valid_eq (x:=⟨x.aM,x.aN,x.ac,x.aO⟩) (lens h)
 simp only [g0,g1,g2,g3,zb]
 rw [hv,zb,if_neg (by rw [show dU ⟨x.aM,x.aN,x.ac,x.aO⟩=dU x from rfl,h];simp)]
end So
end Go.Dw.Fa
set_option maxRecDepth 100000
set_option maxHeartbeats 4000000
namespace Go.Dw.Fa
open Go.Dw
abbrev Src:=ak
abbrev Pick:=ae
abbrev Sid:=ap
abbrev Ev:=ai
abbrev Bul:=ag
abbrev Alert:=am
abbrev Policy:=aC
theorem mod_ok(a b:Int)(h0:1<=b)(h1:b<=1000000000):Ok (gL a b) (fun r=>0<=r∧r<b):=by
 unfold gL
 have hl:a.tmod b<b:=Int.tmod_lt_of_pos _ om
 have hg: -b<a.tmod b:=by
  rcases Int.le_total 0 a with h|h
  ·have:=Int.tmod_nonneg b h;omega
  ·have e:a.tmod b= -((-a).tmod b):=by rw [Int.neg_tmod];omega
   have:=Int.tmod_lt_of_pos (-a) (show 0<b by omega)
   omega
 refine Ok.jZ (fun _=>om) (fun _=>?_)
 refine Ok.bind (Ok.rem om) (fun x hx=>?_)
 subst hx
 refine Ok.jZ (fun _=>?_) (fun _=>?_)
 ·rw [w64 om om]
  exact Ok.ret om
 ·exact Ok.ret om
def ca(d:Src):Prop:=0<=d.fAt∧d.fAt<=d.fL.length∧d.fL.length<=2000
theorem raw_ok(d:Src)(hd:ca d):Ok (Src_Raw d) (fun r=>ca r.2):=by
 obtain⟨h0,h1,h2⟩:=hd
 unfold Src_Raw
 refine Ok.jZ (fun _=>Ok.ret ⟨h0,h1,h2⟩) (fun h=>?_)
 rw [w64 (n:=d.fAt+1) om om,w64 om om]
 refine Ok.bind (Ok.get om om) (fun x _=>?_)
 refine Ok.ret ⟨?_,?_,h2⟩<;>simp only<;>omega
theorem eu(k:Int)(d:Src)(hd:ca d)(h0:1<=k)(h1:k<=1000000000):Ok (dW k d) (fun r=>0<=r.1∧r.1<k∧ca r.2):=by
 unfold dW
 refine Ok.bind (raw_ok d hd) (fun x hx=>?_)
 refine Ok.bind (mod_ok _ _ h0 h1) (fun y hy=>?_)
 exact Ok.ret ⟨hy.1,hy.2,hx⟩
theorem fg(l:List Int)(d:Src)(hd:ca d)(h0:l≠ [])(h1:l.length<=1000000):Ok (fj l d) (fun r=>r.1∈l∧ca r.2):=by
 unfold fj
 have:=List.length_pos_iff.2 h0
 refine Ok.bind (eu _ d hd om om) (fun x hx=>?_)
 refine Ok.bind (Ok.get hx.1 hx.2.1) (fun y hy=>?_)
 exact Ok.ret ⟨hy.1,hx.2.2⟩
def stas:List (List UInt8):=[[83,49],[83,50],[83,51],[83,52],[83,53],[83,54]]
def IsSid(a:Sid):Prop:=So.dU a=true
theorem stas_ok:∀x∈stas,So.dU ⟨[65,66],x,[48,48],[66,72,90]⟩=true:=by decide+kernel
theorem source_ok(n:Int):Ok (dZ n) IsSid:=by
 unfold dZ
 refine Ok.bind (mod_ok n 6 om om) (fun x hx=>?_)
 refine Ok.bind (Ok.get hx.1 hx.2) (fun y hy=>?_)
 exact Ok.ret (stas_ok y hy.1)
theorem new_ok(l:List Int):Ok (iM l) ca:=by
 unfold iM
 refine Ok.bind (Ok.cut om (by split<;>omega) (by split<;>omega)) (fun x hx=>?_)
 subst hx
 refine Ok.ret ⟨sm,sm,?_⟩
 simp only [List.length_take,List.length_drop]
 split<;>omega
def dF(p:Pick):Prop:=IsSid p.ar∧0<=p.aY∧p.aY<=p.aL∧p.aL<=p.bh∧p.bh<=18014398509481984∧0<=p.aF∧p.aF<=1073741823∧ -1<=p.aH∧p.aH<=1
def ew(n:Int):Prop:= -1152921504606846976<=n∧n<=1152921504606846976
def PosOk(p:ah):Prop:=ew p.fX∧ew p.fY∧ew p.fZ
structure SolOk(s:au):Prop where
 picks:∀p∈s.aB,dF p
 len:s.aB.length<=64
 point:PosOk s.ac.aP
 low:PosOk s.ac.aD.aX
 high:PosOk s.ac.aD.aJ
 time:ew s.ac.aL
 misfit:ew s.ac.aQ
 lower:ew s.ac.bq
 mlow:ew s.av.aX
 mhigh:ew s.av.aJ
 count:ew s.bd
structure EvOk(e:Ev):Prop where
 name:dF e.aq
 sol:SolOk e.aa
theorem place_ok(d:Src)(hd:ca d):Ok (iw 20 d) (fun r=>PosOk r.1∧ca r.2):=by
 unfold iw
 rw [w64 (n:=2*20) om om,w64 (n:=2*20+1) om om,w64 (n:=20+1) om om]
 refine Ok.bind (eu _ _ hd om om) (fun y1 g1=>?_)
 refine Ok.bind (eu _ _ g1.2.2 om om) (fun y2 g2=>?_)
 refine Ok.bind (eu _ _ g2.2.2 om om) (fun y3 g3=>?_)
 rw [w64 (n:=y1.1-20) om om,w64 (n:=y2.1-20) om om]
 refine Ok.ret ⟨⟨?_,?_,?_⟩,g3.2.2⟩<;>unfold ew<;>simp only<;>omega
theorem event_ok(d:Src)(hd:ca d):Ok (eJ 1 d) (fun r=>(EvOk r.1∧1<=r.1.aa.aB.length)∧ca r.2):=by
 unfold eJ
 refine Ok.bind (eu _ _ hd om om) (fun x1 h1=>?_)
 have hw:IntKind.wrap .i64 ((1000:Int)+x1.1)=1000+x1.1:=w64 om om
 refine Ok.bind (P:=fun o=>ca ⟨o.1,o.2.1⟩∧(1<=o.2.2.length∧o.2.2.length<=4)∧∀p∈o.2.2,dF p) (Ok.loop (fun s=>0<=s.1∧s.1=s.2.2.2.length∧s.1<=4∧ca ⟨s.2.1,s.2.2.1⟩∧∀p∈s.2.2.2,dF p) (fun s=>(4-s.1).toNat) ?_ ⟨sm,sm,sm,h1.2.2,sm⟩) ?_
 ·rintro⟨s2,s3,s4,s5⟩ ⟨i0,i1,i2,i3,i4⟩
  simp only at i0 i1 i2 i3 i4
  unfold fb
  refine Ok.bind (eu _ _ i3 om om) (fun y1 g1=>?_)
  rw [w64 (n:=1+y1.1) om om]
  refine Ok.jZ (fun hlt=>?_) (fun hlt=>?_)
  ·refine Ok.bind (source_ok s2) (fun y2 g2=>?_)
   refine Ok.bind (eu _ _ g1.2.2 om om) (fun y3 g3=>?_)
   refine Ok.bind (Ok.app (by simp only [List.length_cons,List.length_nil];omega)) (fun y5 g5=>?_)
   subst g5
   rw [hw,w64 (n:=10*1) om om,w64 (n:=1000+x1.1+10*1) om om,w64 (n:=1000+x1.1+10*1+y3.1) om om,w64 (n:=s2+1) om om]
   refine Ok.nx ⟨za,by simp only [List.length_append,List.length_cons,List.length_nil];omega,za,g3.2.2,?_⟩ za
   intro p hp
   rcases List.mem_append.1 hp with hp|hp
   ·exact i4 p hp
   ·obtain rfl:=List.mem_singleton.1 hp
    refine⟨g2,?_⟩
    simp only
    omega
  ·refine Ok.st ⟨g1.2.2,za,i4⟩
 ·intro o ho
  obtain⟨h2,h3,h4⟩:=ho
  refine Ok.bind (Ok.isin om om) (fun _ _=>?_)
  refine Ok.bind (Ok.get om om) (fun x19 h19=>?_)
  refine Ok.bind (place_ok _ h2) (fun x20 h20=>?_)
  refine Ok.bind (eu _ _ h20.2 om om) (fun x21 h21=>?_)
  refine Ok.bind (fg _ _ h21.2.2 sm sm) (fun x22 h22=>?_)
  have hm:ew x22.1:=by
   have:=h22.1
   simp only [List.mem_cons,List.not_mem_nil,or_false]at this
   unfold ew;omega
  refine Ok.bind (eu _ _ h22.2 om om) (fun x23 h23=>?_)
  rw [hw,w64 (n:=1000+x1.1-x21.1) om om]
  refine Ok.jZ (fun hlt=>?_) (fun hlt=>?_)
  ·refine Ok.bind (eu _ _ h23.2.2 om om) (fun x25 h25=>?_)
   refine Ok.bind (eu _ _ h25.2.2 om om) (fun x26 h26=>?_)
   rw [w64 (n:=x25.1+x26.1) om om]
   exact Ok.ret ⟨⟨⟨h4 _ h19.1,⟨h4,za,h20.1,h20.1,h20.1,by unfold ew;simp only;omega,hm,by unfold ew;simp only;omega,by unfold ew;simp only;omega,by unfold ew;simp only;omega,by unfold ew;simp only;omega⟩⟩,h3.1⟩,h26.2.2⟩
  ·exact Ok.ret ⟨⟨⟨h4 _ h19.1,⟨h4,za,h20.1,h20.1,h20.1,by unfold ew;simp only;omega,hm,by unfold ew;simp only;omega,by unfold ew;simp only;omega,by unfold ew;simp only;omega,by unfold ew;simp only;omega⟩⟩,h3.1⟩,h23.2.2⟩
end Go.Dw.Fa
set_option maxRecDepth 100000
set_option maxHeartbeats 4000000
namespace Go.Dw.Fa
open Go.Dw Go.Lib
abbrev fmt:=So.fmt
theorem chk1_at{a:Sid}(h:IsSid a):ct a=some true∧cJ a=some (fmt a,0)∧cZ (fmt a)=some (a,0)∧(32:UInt8)∉fmt a∧(fmt a).length<=100:=by
 have hv:So.dU a=true:=h
 obtain⟨-,h2,h3⟩:=So.valid_no hv
 refine⟨by rw [So.Valid_eq (So.lens hv),hv],?_,So.parse_fmt hv,h2,Nat.le_trans h3 (by decide)⟩
 rw [So.Format_eq (So.lens hv)]
 unfold So.iL
 rw [if_pos hv]
def iP(p:ah):List Int:=[p.fX,p.fY,p.fZ]
def gZ(s:au):List Int:=iP s.ac.aP++([s.ac.aL,s.ac.aQ,s.ac.bq]++(iP s.ac.aD.aX++(iP s.ac.aD.aJ++[s.av.aX,s.av.aJ,s.bd])))
theorem grow_at{n:Int}(h0:0<=n)(h1:n<=1000000):dg n=some []:=by
 unfold dg
 rw [if_neg so,w64 om om]
 by_cases h:n=0
 ·subst h;rfl
 ·rw [if_pos so]
  obtain⟨r,g1,g2⟩:=Ok.mkz (n:=n-0) (z:=(0:Int)) (b:=8) om om om
  rw [g1,zb]
  obtain⟨u,g3, -⟩:=Ok.sub (n:=r.length) (lo:=0) (hi:=0) om om om
  rw [g3,zb]
  simp [cY]
theorem concat_l8:∀(k:Nat)(l:List (List Int))(i:Nat)(s:Int),i+k=l.length->0<=s->(∀x∈l,x.length<=1000)->l.length<=100->s<=1000*i->
  ∃o,fq (cd l) (s,(i:Int))=some o∧0<=o∧o<=1000*l.length:=by
 intro k
 induction k with
 |zero=>
  intro l i s hi h0 hx hl hs
  refine⟨s,jy ?_,h0,om⟩
  unfold cd
  simp only
  rw [if_neg so]
 |succ k ih=>
  intro l i s hi h0 hx hl hs
  have hlt:i<l.length:=by omega
  have hx':=hx l[i] (List.getElem_mem _)
  rw [ju (s':=(s+(l[i].length:Int),((i+1:Nat):Int)))]
  ·exact ih l (i+1) _ om om hx hl om
  ·unfold cd
   simp only
   rw [if_pos so,je rfl hlt,zb,w64 om om,if_neg so,w64 (n:=(i:Int)+1) om om]
   simp
theorem concat_l18:∀(k:Nat)(l:List (List Int))(i:Nat)(s:List Int),i+k=l.length->(∀x∈l,x.length<=1000)->l.length<=100->s.length<=1000*i->
  fq (bT l) ((i:Int),s)=some (s++(l.drop i).flatten):=by
 intro k
 induction k with
 |zero=>
  intro l i s hi hx hl hs
  rw [List.drop_of_length_le om]
  simp only [List.flatten_nil,List.append_nil]
  refine jy ?_
  unfold bT
  simp only
  rw [if_neg so]
 |succ k ih=>
  intro l i s hi hx hl hs
  have hlt:i<l.length:=by omega
  have hx':=hx l[i] (List.getElem_mem _)
  rw [List.drop_eq_getElem_cons hlt,List.flatten_cons, <-List.append_assoc]
  rw [ju (s':=(((i+1:Nat):Int),s++l[i]))]
  ·exact ih l (i+1) _ om hx hl (by rw [List.length_append];omega)
  ·unfold bT
   simp only
   obtain⟨r,h1,h2⟩:=Ok.app (l:=s) (m:=l[i]) (b:=8) om
   rw [if_pos so,je rfl hlt,zb,h1,zb,h2,w64 (n:=(i:Int)+1) om om]
   simp
theorem concat_at{l:List (List Int)}(hx:∀x∈l,x.length<=1000)(hl:l.length<=100):ch l=some l.flatten:=by
 unfold ch
 obtain⟨o,h1,h2,h3⟩:=concat_l8 l.length l 0 0 om om hx hl om
 have h4:=concat_l18 l.length l 0 [] om hx hl sm
 simp only [Int.ofNat_zero,Int.natCast_zero,List.drop_zero,List.nil_append]at h1 h4
 rw [h1,zb,grow_at h2 om,zb,h4,zb]
theorem numbers_at(s:au):cU s=some (gZ s):=by
 unfold cU dl
 simp only [zb]
 rw [concat_at sm sm,zb]
 simp [gZ,iP]
end Go.Dw.Fa
set_option maxRecDepth 100000
set_option maxHeartbeats 4000000
namespace Go.Dw.Fa
open Go.Dw Go.Lib
structure BulOk(b:Bul):Prop where
 num0:0<=b.bg
 num1:b.bg<1000
 kind0:1<=b.bk
 kind1:b.bk<=3
 id0:0<=b.fID
 id1:b.fID<=b.bg
 iss:b.fID=b.bg↔b.bk=1
 lev0:0<=b.aW
 lev1:b.aW<=8
 at_:ew b.fAt
 ev:EvOk b.aj
theorem gN{α ω:Type}{body:Int->Option (iN Int ω)}(l:List α){u:ω}(h1:∀(i:Nat)(_:i<l.length),body i=some (.next ((i+1:Nat):Int)))
  (h2:body (l.length:Nat)=some (.stop u)):fq body (0:Int)=some u:=by
 have:∀k i,i+k=l.length->fq body (i:Int)=some u:=by
  intro k
  induction k with
  |zero=>
   intro i hi
   obtain rfl:i=l.length:=by omega
   exact jy h2
  |succ k ih=>
   intro i hi
   rw [ju (h1 i om),ih (i+1) om]
 exact this l.length 0 om
theorem iS{p:Pick}(hp:dF p):bV p=some true:=by
 obtain⟨hs,h1,h2,h3,h4,h5,h6,h7,h8⟩:=hp
 unfold bV fQ
 rw [(chk1_at hs).1,zb,if_pos rfl,if_pos so,if_pos so,if_pos so,if_pos so,if_pos so]
 have e1:decide (p.aF<=1073741823)=true:=decide_eq_true om
 have e2:decide (p.aH<=1)=true:=decide_eq_true om
 rw [e1,zb,if_pos rfl,if_pos so,e2]
 rfl
theorem containsPick_at{l:List Pick}(h:∀p∈l,dF p)(hl:l.length<=1000000):bj l=some false:=by
 unfold bj bz
 rw [gN l (u:= .inl ())]
 ·rfl
 ·intro i hi
  unfold bt de
  rw [if_pos so,je rfl hi,zb,iS (h _ (List.getElem_mem _)),w64 om om]
  simp
 ·unfold bt
  rw [if_neg sm]
theorem within_at{l:List Int}(h:∀n∈l, -1152921504606846976<=n∧n<=1152921504606846976)(hl:l.length<=1000000):dm l=some true:=by
 unfold dm bv bB
 rw [gN l (u:= .inl ())]
 ·rfl
 ·intro i hi
  have hb:=h l[i] (List.getElem_mem _)
  unfold bC eQ
  rw [if_pos so,je rfl hi,zb,if_neg so,zb,if_neg so,w64 om om]
  simp
 ·unfold bC
  rw [if_neg sm]
theorem g9{s:au}(h:SolOk s):∀n∈gZ s,ew n:=by
 obtain⟨-, -,⟨a1,a2,a3⟩,⟨b1,b2,b3⟩,⟨c1,c2,c3⟩,d1,d2,d3,d4,d5,d6⟩:=h
 intro n hn
 simp only [gZ,iP,List.cons_append,List.nil_append,List.mem_cons,List.not_mem_nil,or_false]at hn
 rcases hn with rfl|rfl|rfl|rfl|rfl|rfl|rfl|rfl|rfl|rfl|rfl|rfl|rfl|rfl|rfl<;>assumption
theorem iq(s:au):(gZ s).length=15:=rfl
theorem valid_at{b:Bul}(h:BulOk b):dS b=some true:=by
 obtain⟨h1,h2,h3,h4,h5,h6,h7,h8,h9,⟨h10,h11⟩,h12⟩:=h
 have hk:(!((b.fID==b.bg)==(b.bk==(1:Int))))=false:=by
  by_cases e:b.fID=b.bg
  ·simp [e,h7.1 e]
  ·have:b.bk≠1:=fun e'=>e (h7.2 e')
   rw [beq_eq_false_iff_ne.2 e,beq_eq_false_iff_ne.2 this];rfl
 have hl:=h12.sol.len
 unfold dS
 rw [if_neg so,if_neg so,if_neg so,if_neg so,if_neg so,if_neg so,if_neg (by rw [hk];simp),if_neg so,if_neg so,if_neg so]
 rw [iS h12.name,zb,if_neg sm,containsPick_at h12.sol.picks om,zb,if_neg sm]
 rw [within_at so sm, zb, if_pos rfl, numbers_at, zb, within_at (fun n hn => by
  have:=g9 h12.sol n hn
  unfold ew at this;omega) (by rw [iq];omega)]
 rfl
theorem il{l:List Pick}(hl:l.length<=1000000):cB l l=some true:=by
 unfold cB
 rw [if_neg sm,gN l (u:= .inl ())]
 ·rfl
 ·intro i hi
  unfold cX
  rw [if_pos so,je rfl hi,zb,zb,if_neg sm,w64 om om]
  simp
 ·unfold cX
  rw [if_neg sm]
end Go.Dw.Fa
set_option maxRecDepth 100000
set_option maxHeartbeats 4000000
namespace Go.Dw.Fa
open Go.Dw Go.Lib
theorem cV{α:Type}{l:List α}{n:Int}{x:α}{f:α->α}(h0:0<=n)(hx:l[n.toNat]? =some x):nv l n f=some (l.set n.toNat (f x)):=by
 unfold nv
 rw [if_pos h0,hx]
theorem set_at{α:Type}{l:List α}{i:Nat}{x y:α}(hx:l[i]? =some x):(l.set i y)[i]? =some y:=by
 obtain⟨h, -⟩:=List.getElem?_eq_some_iff.1 hx
 rw [List.getElem?_set_self h]
end Go.Dw.Fa
set_option maxRecDepth 100000
set_option maxHeartbeats 4000000
namespace Go.Dw.Fa
open Go.Dw Go.Lib
structure hJ(p:Policy):Prop where
 dist:0<=p.aZ∧p.aZ<=1000
 every:0<=p.bI∧p.bI<=500
 len:1<=p.bA.length∧p.bA.length<=8
 rules:∀r∈p.bA,(-100<=r.av∧r.av<300)∧(1<=r.aB∧r.aB<=4)∧(0<=r.aQ∧r.aQ<=10000)∧(0<=r.bn∧r.bn<=100000)
theorem policy_gen(d:Src)(hd:ca d):Ok (eL d) (fun r=>hJ r.1∧ca r.2):=by
 unfold eL
 refine Ok.bind (fg _ d hd sm sm) (fun x1 h1=>?_)
 refine Ok.bind (fg _ _ h1.2 sm sm) (fun x2 h2=>?_)
 refine Ok.bind (eu _ _ h2.2 om om) (fun x3 h3=>?_)
 have hd1:0<=x1.1∧x1.1<=1000:=by
  have:=h1.1
  simp only [List.mem_cons,List.not_mem_nil,or_false]at this
  omega
 have hd2:0<=x2.1∧x2.1<=500:=by
  have:=h2.1
  simp only [List.mem_cons,List.not_mem_nil,or_false]at this
  omega
 rw [w64 om om]
 refine Ok.bind (P:=fun o=>ca ⟨o.1,o.2.1⟩∧hJ ⟨o.2.2,x1.1,x2.1⟩) (Ok.loop (fun s=>0<=s.1∧(s.1=0->1<=s.2.2.2.length)∧s.1+s.2.2.2.length<=3∧ca ⟨s.2.1,s.2.2.1⟩∧∀r∈s.2.2.2,(-100<=r.av∧r.av<300)∧(1<=r.aB∧r.aB<=4)∧(0<=r.aQ∧r.aQ<=10000)∧(0<=r.bn∧r.bn<=100000)) (fun s=>s.1.toNat) ?_ ⟨za,za,by simp only [List.length_nil];omega,h3.2.2,sm⟩) ?_
 ·rintro⟨s4,s5,s6,s7⟩ ⟨i0,ip,i1,i2,i3⟩
  simp only at i0 ip i1 i2 i3
  unfold fS
  refine Ok.jZ (fun _=>?_) (fun _=>?_)
  ·refine Ok.bind (eu _ _ i2 om om) (fun y1 g1=>?_)
   refine Ok.bind (eu _ _ g1.2.2 om om) (fun y2 g2=>?_)
   refine Ok.bind (fg _ _ g2.2.2 sm sm) (fun y3 g3=>?_)
   refine Ok.bind (fg _ _ g3.2 sm sm) (fun y4 g4=>?_)
   refine Ok.bind (Ok.app (by simp only [List.length_cons,List.length_nil];omega)) (fun y5 g5=>?_)
   subst g5
   rw [w64 (n:=s4-1) om om,w64 (n:=y1.1-100) om om,w64 (n:=1+y2.1) om om]
   refine Ok.nx ⟨za,sm,by simp only [List.length_append,List.length_cons,List.length_nil];omega,g4.2,fun r hr=>?_⟩ za
   rcases List.mem_append.1 hr with hr|hr
   ·exact i3 r hr
   ·obtain rfl:=List.mem_singleton.1 hr
    have g3':=g3.1
    have g4':=g4.1
    simp only [List.mem_cons,List.not_mem_nil,or_false]at g3' g4'
    simp only
    omega
  ·exact Ok.st ⟨i2,⟨hd1,hd2,⟨ip om,za⟩,i3⟩⟩
 ·intro o ho
  exact Ok.ret ⟨ho.2,ho.1⟩
def gsid(i:Int):Sid:=⟨[65,66],[83,UInt8.ofNat (49+i.toNat)],[48,48],[66,72,90]⟩
theorem source_at{i:Int}(h0:0<=i)(h1:i<4):dZ i=some (gsid i):=by
 rcases(by omega:i=0∨i=1∨i=2∨i=3)with rfl|rfl|rfl|rfl<;>kernel_rfl
def gp(n i:Int):Pick:=⟨gsid i,1000+400*n+i,1000+400*n+i,1000+400*n+i+2,7,0⟩
def gps(n:Int)(m:Nat):List Pick:=(List.range m).map fun(i:Nat)=>gp n (i:Int)
structure gC(n:Int)(e:Ev):Prop where
 ok:EvOk e
 shape:∃m k:Nat,k<=1∧k<m∧m<=4∧e.aa.aB=(gps n m).drop k
 nam:e.aa.aB[0]? =some e.aq
structure fw(es:List Ev):Prop where
 len:es.length<=4
 gen:∀e∈es,∃n:Int,0<=n∧n<4∧gC n e
 asc:es.Pairwise fun a b=>a.aq.aL+300<b.aq.aL
theorem event_gen(d:Src)(hd:ca d):Ok (eJ 1 d) (fun r=>(EvOk r.1∧(1<=r.1.aa.aB.length∧r.1.aa.aB.length<=4)∧∀(i:Nat)(h:i<r.1.aa.aB.length),r.1.aa.aB[i].ar=gsid i∧r.1.aa.aB[i].aH=0)∧ca r.2):=by
 have h0:=event_ok d hd
 suffices h:Ok (eJ 1 d) (fun r=>r.1.aa.aB.length<=4∧∀(i:Nat)(h:i<r.1.aa.aB.length),r.1.aa.aB[i].ar=gsid i∧r.1.aa.aB[i].aH=0)from
  (h0.both h).mono fun r hr=>⟨⟨hr.1.1.1,⟨hr.1.1.2,hr.2.1⟩,hr.2.2⟩,hr.1.2⟩
 unfold eJ
 refine Ok.bind (eu _ _ hd om om) (fun x1 h1=>?_)
 refine Ok.bind (P:=fun o=>ca ⟨o.1,o.2.1⟩∧(1<=o.2.2.length∧o.2.2.length<=4)∧∀(i:Nat)(h:i<o.2.2.length),o.2.2[i].ar=gsid i∧o.2.2[i].aH=0) (Ok.loop (fun s=>0<=s.1∧s.1=s.2.2.2.length∧s.1<=4∧ca ⟨s.2.1,s.2.2.1⟩∧∀(i:Nat)(h:i<s.2.2.2.length),s.2.2.2[i].ar=gsid i∧s.2.2.2[i].aH=0) (fun s=>(4-s.1).toNat) ?_ ⟨sm,sm,sm,h1.2.2,sm⟩) ?_
 ·rintro⟨s2,s3,s4,s5⟩ ⟨i0,i1,i2,i3,i4⟩
  simp only at i0 i1 i2 i3 i4
  unfold fb
  refine Ok.bind (eu _ _ i3 om om) (fun y1 g1=>?_)
  rw [w64 (n:=1+y1.1) om om]
  refine Ok.jZ (fun hlt=>?_) (fun hlt=>?_)
  ·rw [source_at i0 om,zb]
   refine Ok.bind (eu _ _ g1.2.2 om om) (fun y3 g3=>?_)
   refine Ok.bind (Ok.app (by simp only [List.length_cons,List.length_nil];omega)) (fun y5 g5=>?_)
   subst g5
   rw [w64 (n:=s2+1) om om]
   refine Ok.nx ⟨za,by simp only [List.length_append,List.length_cons,List.length_nil];omega,za,g3.2.2,?_⟩ za
   intro i hi
   simp only at hi⊢
   rw [List.getElem_append]
   split
   ·rename_i hlt';exact i4 i hlt'
   ·rename_i hlt'
    rw [List.getElem_singleton]
    refine⟨?_,rfl⟩
    simp only
    simp only [List.length_append,List.length_cons,List.length_nil]at hi
    rw [show s2=(i:Int)by omega]
  ·refine Ok.st ⟨g1.2.2,za,i4⟩
 ·intro o ho
  obtain⟨h2,h3,h4⟩:=ho
  refine Ok.bind (Ok.isin om om) (fun _ _=>?_)
  refine Ok.bind (Ok.get om om) (fun x19 h19=>?_)
  refine Ok.bind (place_ok _ h2) (fun x20 h20=>?_)
  refine Ok.bind (eu _ _ h20.2 om om) (fun x21 h21=>?_)
  refine Ok.bind (fg _ _ h21.2.2 sm sm) (fun x22 h22=>?_)
  refine Ok.bind (eu _ _ h22.2 om om) (fun x23 h23=>?_)
  refine Ok.jZ (fun hlt=>?_) (fun hlt=>?_)
  ·refine Ok.bind (eu _ _ h23.2.2 om om) (fun x25 h25=>?_)
   refine Ok.bind (eu _ _ h25.2.2 om om) (fun x26 h26=>?_)
   exact Ok.ret ⟨h3.2,h4⟩
  ·exact Ok.ret ⟨h3.2,h4⟩
theorem events_g30{e:Ev}{d:Src}(hl:e.aa.aB.length<=4)(hs:∀(i:Nat)(h:i<e.aa.aB.length),e.aa.aB[i].ar=gsid i∧e.aa.aB[i].aH=0)(i:Int)(hi0:0<=i)(hi1:i<=4)(es:List Ev):
  Ok (fq (dj (e,d) i es) ((0:Int),e.aa.aB)) (fun o=>o.1=i∧o.2.1=es∧o.2.2=gps i e.aa.aB.length):=by
 refine Ok.loop (fun s=>0<=s.1∧s.1<=e.aa.aB.length∧s.2.length=e.aa.aB.length∧∀(j:Nat)(h:j<s.2.length),if(j:Int)<s.1 then s.2[j]=gp i j else(s.2[j].ar=gsid j∧s.2[j].aH=0)) (fun s=>((e.aa.aB.length:Int)-s.1).toNat) ?_ ⟨za,za,rfl,fun j h=>by simp only;rw [if_neg om];exact hs j h⟩
 rintro⟨k,ps⟩ ⟨i0,i1,i2,i3⟩
 simp only at i0 i1 i2 i3
 unfold dj
 refine Ok.jZ (fun hlt=>?_) (fun hge=>Ok.st ⟨rfl,rfl,?_⟩)
 ·simp only at hlt
  refine Ok.bind (Ok.isin i0 om) (fun _ _=>?_)
  have hlt':k.toNat<ps.length:=by omega
  have hx:=zc hlt'
  have hpx:=i3 _ hlt'
  rw [if_neg om]at hpx
  rw [cV i0 hx,zb,cV i0 (set_at hx),zb,List.set_set,cV i0 (set_at hx),zb,List.set_set,cV i0 (set_at hx),zb,List.set_set]
  rw [w64 (n:=400*i) om om,w64 (n:=1000+400*i) om om,w64 (n:=1000+400*i+k) om om,w64 (n:=1000+400*i+k+2) om om,w64 (n:=k+1) om om]
  refine Ok.nx ⟨za,za,by simpa using i2,?_⟩ za
  intro j hj
  simp only at hj⊢
  rw [List.length_set]at hj
  rw [List.getElem_set]
  by_cases hjk:k.toNat=j
  ·rw [if_pos hjk,if_pos om]
   rw [hpx.1,hpx.2]
   rw [show k=(j:Int)by omega]
   subst hjk
   rfl
  ·rw [if_neg hjk]
   have:=i3 j hj
   by_cases h2:(j:Int)<k
   ·rw [if_pos h2]at this;rw [if_pos om];exact this
   ·rw [if_neg h2]at this;rw [if_neg om];exact this
 ·simp only at hge
  refine List.ext_getElem (by simp [gps,i2]) fun j h1 h2=>?_
  have:=i3 j h1
  simp only at h1
  rw [if_pos om]at this
  rw [this]
  simp [gps]
theorem gps_time{n:Int}{m:Nat}(hm:m<=4):∀p∈gps n m,1000+400*n<=p.aL∧p.aL<=1003+400*n:=fun p hp=>by
 obtain⟨i,hi,rfl⟩:=List.mem_map.1 hp
 have:=List.mem_range.1 hi
 simp only [gp];omega
theorem gC.times{n:Int}{e:Ev}(h:gC n e):(∀p∈e.aa.aB,1000+400*n<=p.aL∧p.aL<=1003+400*n)∧(1000+400*n<=e.aq.aL∧e.aq.aL<=1003+400*n)∧e.aq∈e.aa.aB:=by
 obtain⟨m,k,h1,h2,h3,h4⟩:=h.shape
 have hp:∀p∈e.aa.aB,1000+400*n<=p.aL∧p.aL<=1003+400*n:=fun p hp=>by
  rw [h4]at hp
  exact gps_time h3 p (List.mem_of_mem_drop hp)
 have hm:e.aq∈e.aa.aB:=List.mem_of_getElem? h.nam
 exact⟨hp,hp _ hm,hm⟩
theorem events_gen(d:Src)(hd:ca d):Ok (eK 4 d) (fun r=>fw r.1∧ca r.2):=by
 unfold eK
 refine Ok.bind (P:=fun o=>fw o.1∧ca ⟨o.2.1,o.2.2⟩) (Ok.loop (fun s=>(0<=s.1∧s.1<=4)∧ca ⟨s.2.1,s.2.2.1⟩∧s.2.2.2.length<=s.1.toNat∧(∀e∈s.2.2.2,∃n:Int,0<=n∧n<s.1∧gC n e)∧s.2.2.2.Pairwise fun a b=>a.aq.aL+300<b.aq.aL) (fun s=>(4-s.1).toNat) ?_ ⟨sm,hd,sm,sm,.nil⟩) (fun o ho=>Ok.ret ho)
 rintro⟨i,L,a,es⟩ ⟨⟨i0,i1⟩,i2,i3,i4,i5⟩
 simp only at i0 i1 i2 i3 i4 i5
 unfold fR
 refine Ok.jZ (fun hlt=>?_) (fun _=>Ok.st ⟨⟨za,fun e he=>by obtain⟨n,h1,h2,h3⟩:=i4 e he;exact⟨n,h1,om,h3⟩,i5⟩,i2⟩)
 have i4':∀e∈es,∃n:Int,0<=n∧n<i+1∧gC n e:=fun e he=>by obtain⟨n,h1,h2,h3⟩:=i4 e he;exact⟨n,h1,om,h3⟩
 refine Ok.bind (eu _ _ i2 om om) (fun x1 h1=>?_)
 refine Ok.iteE (fun _=>?_) (fun _=>?_)
 ·rw [w64 om om]
  exact Ok.nx ⟨za,h1.2.2,za,i4',i5⟩ za
 ·refine Ok.bind (event_gen _ h1.2.2) (fun x2 h2=>?_)
  obtain⟨⟨he,⟨hl1,hl4⟩,hs⟩,hd2⟩:=h2
  refine Ok.bind (events_g30 (d:=x2.2) hl4 hs i i0 i1 es) (fun o ho=>?_)
  obtain⟨o1,o2,o3⟩:=ho
  have ho3:o.2.2.length=x2.1.aa.aB.length:=by rw [o3];simp [gps]
  refine Ok.bind (eu _ _ hd2 om om) (fun x3 h3=>?_)
  rw [w64 (n:=(o.2.2.length:Int)-1) om om]
  generalize hq:(if(o.2.2.length:Int)-1<x3.1 then(o.2.2.length:Int)-1 else x3.1)=q
  have hq2:0<=q∧q<=1∧q<(o.2.2.length:Int):=by subst hq;split<;>omega
  refine Ok.bind (Ok.cut om om om) (fun x4 h4=>?_)
  have h4':x4=(gps i x2.1.aa.aB.length).drop q.toNat:=by
   rw [h4,List.take_of_length_le sm,o3]
  refine Ok.bind (Ok.get om (by
   rw [h4']
   have:(gps i x2.1.aa.aB.length).length=x2.1.aa.aB.length:=by simp [gps]
   simp only [List.length_drop,this];omega)) (fun x5 h5=>?_)
  rw [o1,o2]
  refine Ok.bind (Ok.app (by simp only [List.length_cons,List.length_nil];omega)) (fun x6 h6=>?_)
  subst h6
  rw [w64 om om]
  have hx4:∀p∈x4,dF p:=fun p hp=>by
   rw [h4']at hp
   obtain⟨j,hj,rfl⟩:=List.mem_map.1 (List.mem_of_mem_drop hp)
   have hj:=List.mem_range.1 hj
   refine⟨?_,?_⟩
   ·simp only [gp]
    rcases(by omega:j=0∨j=1∨j=2∨j=3)with rfl|rfl|rfl|rfl<;>(unfold IsSid;decide+kernel)
   ·simp only [gp];omega
  have hgen:gC i ⟨x5,⟨x4,x2.1.aa.ac,x2.1.aa.av,x2.1.aa.bd⟩⟩:=by
   obtain⟨-, -,q1,q2,q3,q4,q5,q6,q7,q8,q9⟩:=he.sol
   refine⟨⟨hx4 _ h5.1,⟨hx4,?_,q1,q2,q3,q4,q5,q6,q7,q8,q9⟩⟩,⟨x2.1.aa.aB.length,q.toNat,om,om,hl4,h4'⟩,h5.2⟩
   show x4.length<=64
   rw [h4'];simp [gps];omega
  refine Ok.nx ⟨za,h3.2.2,by simp only [List.length_append,List.length_cons,List.length_nil];omega,?_,?_⟩ za
  ·intro e hmem
   rcases List.mem_append.1 hmem with hmem|hmem
   ·exact i4' e hmem
   ·obtain rfl:=List.mem_singleton.1 hmem
    exact⟨i,i0,za,hgen⟩
  ·simp only
   rw [List.pairwise_append]
   refine⟨i5,List.pairwise_singleton _ _,fun a ha b hb=>?_⟩
   obtain rfl:=List.mem_singleton.1 hb
   obtain⟨n,n0,n1,hn⟩:=i4 a ha
   have t1:=hn.times.2.1
   have t2:=hgen.times.2.1
   simp only at t2⊢
   omega
end Go.Dw.Fa
set_option maxRecDepth 100000
set_option maxHeartbeats 4000000
namespace Go.Dw.Fa
open Go.Dw Go.Lib
section
variable {κ β:Type}{eq:κ->κ->Bool}
def keys(m:List (κ×β)):List κ:=m.map Prod.fst
theorem has_iff(he:∀x y,eq x y=true↔x=y)(k:κ):∀m:List (κ×β),ky eq k m=true↔k∈keys m
 | []=>by simp [ky,keys]
 |e::r=>by
  have ih:=has_iff he k r
  simp only [ky,keys,List.map_cons,List.mem_cons]
  by_cases h:eq k e.1=true
  ·rw [if_pos h];simp [(he _ _).1 h]
  ·rw [if_neg h,ih]
   have:k≠e.1:=fun e'=>h ((he _ _).2 e')
   simp [keys,this]
theorem has_no(he:∀x y,eq x y=true↔x=y){k:κ}{m:List (κ×β)}(h:k∉keys m):ky eq k m=false:=by
 cases hb:ky eq k m with
 |false=>rfl
 |true=>exact(h ((has_iff he k m).1 hb)).elim
theorem ic(he:∀x y,eq x y=true↔x=y)(k:κ)(v:β):∀m:List (κ×β),∀x,x∈keys (kg eq k v m)↔x=k∨x∈keys m
 | [],x=>by simp [kg,keys]
 |e::r,x=>by
  have ih:=ic he k v r x
  simp only [kg]
  by_cases h:eq k e.1=true
  ·rw [if_pos h]
   have:=(he _ _).1 h
   subst this
   simp [keys]
  ·rw [if_neg h]
   simp only [keys,List.map_cons,List.mem_cons]at ih⊢
   rw [ih]
   constructor
   ·rintro(h|h|h)
    ·exact .inr (.inl h)
    ·exact .inl h
    ·exact .inr (.inr h)
   ·rintro(h|h|h)
    ·exact .inr (.inl h)
    ·exact .inl h
    ·exact .inr (.inr h)
theorem get_put(he:∀x y,eq x y=true↔x=y)(k k':κ)(v z:β):∀m:List (κ×β),bo eq k' z (kg eq k v m)=if eq k' k=true then v else bo eq k' z m
 | []=>by by_cases h:eq k' k=true<;>simp [kg,bo,h]
 |e::r=>by
  have ih:=get_put he k k' v z r
  by_cases h:eq k e.1=true
  ·have:=(he _ _).1 h
   subst this
   simp only [kg,h,if_true,bo]
   split<;>simp [*]
  ·simp only [kg,if_neg h,bo,ih]
   by_cases h2:eq k' e.1=true
   ·have h3:=(he _ _).1 h2
    subst h3
    have:¬eq e.1 k=true:=fun h4=>h ((he _ _).2 ((he _ _).1 h4).symm)
    simp [h2,this]
   ·simp [h2]
end
end Go.Dw.Fa
set_option maxRecDepth 100000
set_option maxHeartbeats 4000000
namespace Go.Dw.Fa
open Go.Dw Go.Lib
theorem rval_at{r:aK}(h1: -100<=r.av∧r.av<300)(h2:1<=r.aB∧r.aB<=4)(h3:0<=r.aQ∧r.aQ<=10000)(h4:0<=r.bn∧r.bn<=100000):ge r=some true:=by
 unfold ge
 rw [if_pos so,if_pos so,if_pos so,if_pos so,if_pos (by simp only [decide_eq_true_eq];split<;>omega)]
 congr 1
 simp only [decide_eq_true_eq]
 split<;>omega
theorem ir{p:Policy}(h:hJ p):cu p=some 0:=by
 have hd:=h.dist
 have he:=h.every
 have hl:=h.len
 unfold cu
 rw [if_neg so,if_neg so,if_neg (by simp only [decide_eq_true_eq];split<;>omega),if_neg (by simp only [decide_eq_true_eq];split<;>omega)]
 rw [gN p.bA (u:= .inl ())]
 ·rfl
 ·intro i hi
  unfold ez
  obtain⟨h1,h2,h3,h4⟩:=h.rules _ (List.getElem_mem hi)
  rw [if_pos so,je rfl hi,zb,rval_at h1 h2 h3 h4,zb,if_neg sm,w64 om om]
  simp
 ·unfold ez
  rw [if_neg sm]
theorem meets_ok(r:aK)(e:Ev):Ok (dw r e) (fun _=>True):=by
 unfold dw
 exact Ok.jZ (fun _=>Ok.jZ (fun _=>Ok.jZ (fun _=>Ok.ret trivial) (fun _=>Ok.ret trivial)) (fun _=>Ok.ret trivial)) (fun _=>Ok.ret trivial)
theorem levelL_ok(e:Ev):∀l:List aK,Ok (levelL e l) (fun r=>0<=r∧r<=(l.length:Int))
 | []=>Ok.ret sm
 |x::l=>by
  unfold levelL
  refine Ok.bind (levelL_ok e l) (fun n hn=>?_)
  refine Ok.iteNe (fun h=>Ok.ret so) (fun _=>?_)
  refine Ok.bind (meets_ok x e) (fun b _=>?_)
  exact Ok.iteB (fun _=>Ok.ret so) (fun _=>Ok.ret so)
theorem ie{p:Policy}(h:hJ p)(e:Ev):Ok (cw p e) (fun r=>0<=r∧r<=(p.bA.length:Int)):=by
 unfold cw
 rw [ir h,zb,if_neg sm]
 exact levelL_ok e p.bA
theorem gvalid_ok(p:ah):Ok (dn p) (fun _=>True):=by
 unfold dn dY
 rw [zb]
 exact Ok.jZ (fun _=>Ok.ret trivial) (fun _=>Ok.jZ (fun _=>Ok.ret trivial) (fun _=>Ok.jZ (fun _=>Ok.ret trivial) (fun _=>Ok.jZ (fun _=>Ok.ret trivial) (fun _=>Ok.jZ (fun _=>Ok.ret trivial) (fun _=>Ok.jZ (fun _=>Ok.ret trivial) (fun _=>Ok.ret trivial))))))
theorem square_ok(p q:ah):Ok (dN p q) (fun _=>True):=by
 unfold dN
 refine Ok.bind (gvalid_ok p) (fun b _=>Ok.iteN (fun _=>Ok.ret trivial) (fun _=>Ok.bind (gvalid_ok q) (fun c _=>Ok.iteN (fun _=>Ok.ret trivial) (fun _=>?_))))
 unfold dY
 rw [zb,zb]
 exact Ok.ret trivial
theorem apart_ok(a b:Int):Ok (eU a b) (fun _=>True):=by
 unfold eU
 exact Ok.jZ (fun _=>Ok.ret trivial) (fun _=>Ok.ret trivial)
theorem moved_ok{p:Policy}(h:hJ p)(a b:Ev):Ok (gY p a b) (fun _=>True):=by
 unfold gY
 rw [ir h,zb,if_neg sm]
 refine Ok.bind (ie h a) (fun x _=>Ok.bind (ie h b) (fun y _=>Ok.iteNe (fun _=>Ok.ret trivial) (fun _=>?_)))
 have rest:Ok ((eU a.aa.ac.aL b.aa.ac.aL).bind fun x12=>if(decide (x12>(IntKind.wrap .u64 p.aZ)))=true then(some true)else((df a.aa.av b.aa.av).bind fun x14=>some (!x14))) (fun _=>True):=by
  refine Ok.bind (apart_ok _ _) (fun z _=>Ok.jZ (fun _=>Ok.ret trivial) (fun _=>?_))
  unfold df
  rw [zb]
  exact Ok.ret trivial
 refine Ok.jZ (fun _=>Ok.bind (square_ok _ _) (fun z _=>Ok.jZ (fun _=>Ok.ret trivial) (fun _=>rest))) (fun _=>rest)
theorem timely_ok{p:Policy}(h:hJ p)(e:Ev)(now:Int):Ok (gu p e now) (fun _=>True):=by
 unfold gu
 refine Ok.bind (ie h e) (fun x hx=>Ok.iteE (fun _=>Ok.ret trivial) (fun hne=>Ok.jZ (fun _=>?_) (fun _=>Ok.ret trivial)))
 have hl:=h.len
 rw [w64 (n:=x-1) om om]
 exact Ok.bind (Ok.get om om) (fun y _=>Ok.ret trivial)
theorem index_ok(l:List Pick)(a:Pick)(hl:l.length<=1000000):Ok (di l a) (fun _=>True):=by
 unfold di
 refine Ok.bind (P:=fun _=>True) (Ok.upto (l.length:Int) om (fun _=>True) trivial (fun i h0 h1 _=>?_)) (fun o _=>by cases o<;>exact Ok.ret trivial)
 unfold fu
 refine Ok.jZ (fun hlt=>Ok.bind (Ok.get h0 hlt) (fun x _=>Ok.ite (fun _=>Ok.st trivial) (fun _=>?_))) (fun _=>Ok.st trivial)
 rw [w64 om om]
 exact Ok.nx ⟨⟨om,om⟩,trivial⟩ om
theorem shared_ok(a b:Ev)(ha:a.aa.aB.length<=1000000)(hb:b.aa.aB.length<=1000000):Ok (fK a b) (fun _=>True):=by
 unfold fK ce cx
 refine Ok.bind (P:=fun _=>True) (Ok.bind (P:=fun _=>True) (Ok.bind (P:=fun _=>True) (Ok.upto (a.aa.aB.length:Int) om (fun _=>True) trivial (fun i h0 h1 _=>?_)) (fun o _=>by cases o<;>exact Ok.ret trivial)) (fun _ _=>Ok.ret trivial)) (fun _ _=>Ok.ret trivial)
 unfold cS
 refine Ok.jZ (fun hlt=>Ok.bind (Ok.get h0 hlt) (fun x _=>?_)) (fun _=>Ok.st trivial)
 refine Ok.bind (P:=fun _=>True) ?_ (fun c _=>Ok.iteB (fun _=>Ok.st trivial) (fun _=>?_))
 ·unfold eb dx
  exact Ok.bind (P:=fun _=>True) (Ok.bind (index_ok _ x hb) (fun _ _=>Ok.ret trivial)) (fun _ _=>Ok.ret trivial)
 ·rw [w64 om om]
  exact Ok.nx ⟨⟨om,om⟩,trivial⟩ om
end Go.Dw.Fa
set_option maxRecDepth 100000
set_option maxHeartbeats 4000000
namespace Go.Dw.Fa
open Go.Dw Go.Lib
theorem clone_at{α:Type}{n:Nat}{l:List α}(h:l.length*n<=140737488355328):lS n l=some l:=by
 unfold lS;rw [if_pos h]
theorem gT{e:Ev}(h:e.aa.aB.length<=1000000):bZ e=some e:=by
 unfold bZ
 rw [clone_at om,zb]
def Few(l:List Alert):Prop:=l.length<=1000∧∀a∈l,a.aj.aa.aB.length<=1000000
theorem all_at{l:List Alert}(h:Few l):gG l=some l:=by
 unfold gG
 have hl:=h.1
 rw [clone_at om,zb]
 have key:∀(k i:Nat),i+k=l.length->fq (fc l) ((i:Int),l)=some l:=by
  intro k
  induction k with
  |zero=>
   intro i hi
   refine jy ?_
   unfold fc;simp only;rw [if_neg so]
  |succ k ih=>
   intro i hi
   have hlt:i<l.length:=by omega
   rw [ju (s':=(((i+1:Nat):Int),l)),ih (i+1) om]
   unfold fc
   simp only
   rw [if_pos so, kT om om, zb, je rfl hlt, zb, gT (h.2 _ (List.getElem_mem hlt)), zb, zb,
    cV (x:=l[i]) om (by rw [Int.toNat_natCast];exact zc hlt),zb,w64 om om,Int.toNat_natCast]
   have:l.set i (am.mk l[i].fID l[i].aI l[i].aq l[i].aW l[i].aj l[i].fAt)=l:=by
    show l.set i l[i]=l
    exact List.set_getElem_self hlt
   rw [this]
   simp
 have:=key l.length 0 om
 rw [show((0:Nat):Int)=0 from rfl]at this
 rw [this];rfl
theorem kO{α:Type}{l:List α}{i:Nat}(h:i<l.length):l.take (i+1)=l.take i++[l[i]]:=List.take_succ_eq_append_getElem h
theorem loop_first{α ω:Type}{body:Int->Option (iN Int (Unit⊕ω))}(l:List α){p:α->Bool}{f:Nat->α->ω}
  (h1:∀(i:Nat)(hi:i<l.length),body i=if p l[i]=true then some (.stop (.inr (f i l[i])))else some (.next ((i+1:Nat):Int)))
  (h2:body (l.length:Nat)=some (.stop (.inl ()))):
  (fq body (0:Int)=some (.inl ())∧∀x∈l,p x=false)∨
  ∃(i:Nat)(hi:i<l.length),fq body (0:Int)=some (.inr (f i l[i]))∧p l[i]=true∧∀x∈l.take i,p x=false:=by
 have:∀k i,i+k=l.length->(∀x∈l.take i,p x=false)->(fq body (i:Int)=some (.inl ())∧∀x∈l,p x=false)∨
   ∃(j:Nat)(hj:j<l.length),fq body (i:Int)=some (.inr (f j l[j]))∧p l[j]=true∧∀x∈l.take j,p x=false:=by
  intro k
  induction k with
  |zero=>
   intro i hi ha
   obtain rfl:i=l.length:=by omega
   exact .inl ⟨jy h2,by simpa using ha⟩
  |succ k ih=>
   intro i hi ha
   have hlt:i<l.length:=by omega
   cases hp:p l[i]with
   |true=>exact .inr ⟨i,hlt,jy (by rw [h1 i hlt,if_pos hp]),hp,ha⟩
   |false=>
    have e:=ju (ω:=Unit⊕ω) (body:=body) (s:=(i:Int)) (s':=((i+1:Nat):Int)) (by rw [h1 i hlt,if_neg (by simp [hp])])
    rw [e]
    refine ih (i+1) om fun x hx=>?_
    rw [kO hlt]at hx
    rcases List.mem_append.1 hx with hx|hx
    ·exact ha x hx
    ·rw [List.mem_singleton.1 hx];exact hp
 have:=this l.length 0 om sm
 simpa using this
theorem open_at{l:List Alert}(hf:Few l):gQ l=some (l.filter fun a=> !a.aI):=by
 have hl:=hf.1
 have h1:∀(i:Nat)(hi:i<l.length),bp l (i:Int)=if l[i].aI=true then some (.stop (.inr (i:Int)))else some (.next ((i+1:Nat):Int)):=by
  intro i hi
  unfold bp c6
  rw [if_pos so,je rfl hi,zb,zb,w64 om om]
  simp
 have h2:bp l (l.length:Nat)=some (.stop (.inl ())):=by
  unfold bp
  rw [if_neg sm]
 unfold gQ
 rw [all_at hf,zb]
 unfold cm cn
 rcases loop_first l (p:=fun s=>s.aI) (f:=fun i _=>(i:Int)) h1 h2 with⟨e,h⟩|⟨i,hi,e,hp,h⟩
 ·rw [e]
  have:l.filter (fun s=> !s.aI)=l:=List.filter_eq_self.2 fun s hs=>by simpa using h s hs
  rw [this];rfl
 ·rw [e,zb]
  dsimp only
  rw [zb,if_neg sm,w64 om om]
  have hpre:(l.take i).filter (fun s=> !s.aI)=l.take i:=List.filter_eq_self.2 fun s hs=>by simpa using h s hs
  have hli:(l.take (i+1)).filter (fun s=> !s.aI)=l.take i:=by
   rw [kO hi,List.filter_append,hpre]
   simp [hp]
  have key:Ok (fq bL ((i:Int),(i:Int)+1,l)) (fun o=>∃k:Nat,o.1=k∧k<=l.length∧o.2.length=l.length∧o.2.take k=l.filter (fun s=> !s.aI)):=by
   refine Ok.loop (fun s=>∃k j:Nat,s.1=k∧s.2.1=j∧k<j∧j<=l.length∧s.2.2.length=l.length∧s.2.2.take k=(l.take j).filter (fun s=> !s.aI)∧s.2.2.drop j=l.drop j) (fun s=>((l.length:Int)-s.2.1).toNat) ?_ ⟨i,i+1,rfl,sm,om,om,rfl,hli.symm,rfl⟩
   rintro⟨s3,s4,s5⟩ ⟨k,j,i0,i1,i2,i3,i4,i5,i6⟩
   simp only at i0 i1 i4 i5 i6
   subst i0 i1
   unfold bL
   dsimp only
   refine Ok.jZ (fun hlt=>?_) (fun hge=>?_)
   ·have hj:j<l.length:=by omega
    have hx:s5[j]'om=l[j]:=by
     rw [List.drop_eq_getElem_cons om,List.drop_eq_getElem_cons hj]at i6
     exact(List.cons.inj i6).1
    have hd:s5.drop (j+1)=l.drop (j+1):=by
     rw [List.drop_eq_getElem_cons om,List.drop_eq_getElem_cons hj]at i6
     exact(List.cons.inj i6).2
    rw [kT om om,zb,je (i:=j) rfl om,zb,hx]
    unfold c6
    rw [zb,w64 (n:=(j:Int)+1) om om]
    refine Ok.iteN (fun hs=>?_) (fun hs=>?_)
    ·rw [kT om om,zb,mB (i:=k) rfl om,zb,w64 om om]
     refine Ok.nx ⟨k+1,j+1,sm,sm,om,om,by simpa using i4,?_,?_⟩ za
     ·simp only
      rw [List.take_succ_eq_append_getElem (by rw [List.length_set];omega),List.getElem_set_self,List.take_set_of_le (Nat.le_refl _),i5,kO hj,List.filter_append]
      simp [hs]
     ·simp only
      rw [List.drop_set_of_lt om,hd]
    ·refine Ok.nx ⟨k,j+1,rfl,sm,om,om,i4,?_,hd⟩ za
     simp only
     rw [i5,kO hj,List.filter_append]
     simp [hs]
   ·have:j=l.length:=by omega
    subst this
    exact Ok.st ⟨k,rfl,om,i4,by rw [i5,List.take_length]⟩
  obtain⟨⟨o1,o2⟩,eo,k,hk,hkl,hol,hot⟩:=key
  simp only at hk hol hot
  subst hk
  rw [eo,zb]
  dsimp only
  have t1:(0+((k:Int)).toNat)=k:=by omega
  have t2:(0+((o2.length:Int)).toNat)=o2.length:=by omega
  have t3:(0+((0:Int)).toNat)=0:=by omega
  have hcl:∀z,(me o2 k (o2.length-k) z).length=o2.length:=by
   intro z;unfold me;simp;omega
  rw [t1,t2,t3,rH om om om,zb,tc om om,zb,rH om om (by rw [hcl];omega),zb,sx om (by rw [hcl];omega),zb,zb, <-hot]
  unfold me
  rw [List.drop_zero,List.append_assoc,List.take_append_of_le_length so,List.take_take]
  simp
end Go.Dw.Fa
set_option maxRecDepth 100000
set_option maxHeartbeats 4000000
namespace Go.Dw.Fa
open Go.Dw Go.Lib
theorem fe(x y:Pick):co x y=true↔x=y:=by
 obtain⟨⟨a1,a2,a3,a4⟩,a5,a6,a7,a8,a9⟩:=x
 obtain⟨⟨b1,b2,b3,b4⟩,b5,b6,b7,b8,b9⟩:=y
 simp only [co,Bool.and_eq_true,beq_iff_eq,and_true,ae.mk.injEq,ap.mk.injEq]
theorem all1{n:Nat}{p:Nat->Bool}(h:((List.range n).all p)=true){a:Nat}(ha:a<n):p a=true:=List.all_eq_true.1 h a (List.mem_range.2 ha)
theorem sortedC:((List.range 4).all fun n=>(List.range 5).all fun m=>(List.range 2).all fun k=>decide (m<=k)||(ed ((gps (n:Int) m).drop k)==some true&&fM ((gps (n:Int) m).drop k)==((gps (n:Int) m).drop k)[0]?))=true:=by kernel_rfl
theorem shape_at{n:Int}(h0:0<=n)(h1:n<4){e:Ev}(h:gC n e):dC e.aa.aB=some true∧eP e.aa.aB=some e.aq:=by
 obtain⟨m,k,hk,hm,h4,hs⟩:=h.shape
 have:=all1 (all1 (all1 sortedC (show n.toNat<4 by omega)) (show m<5 by omega)) (show k<2 by omega)
 rw [show((n.toNat:Nat):Int)=n by omega, <-hs,h.nam]at this
 simp only [Bool.or_eq_true,decide_eq_true_eq,Bool.and_eq_true,beq_iff_eq]at this
 rcases this with h|⟨h2,h3⟩
 ·omega
 ·exact⟨event_sorted_le _ _ h2,event_name_le _ _ h3⟩
theorem compareC:((List.range 4).all fun n=>(List.range 4).all fun n'=>(List.range 2).all fun k=>(List.range 2).all fun k'=>decide (n'<=n)||c8 (gp (n:Int) (k:Int)) (gp (n':Int) (k':Int))==some (-1))=true:=by kernel_rfl
theorem nam_at{n:Int}{e:Ev}(h:gC n e):∃k:Nat,k<2∧e.aq=gp n k:=by
 obtain⟨m,k,hk,hm,h4,hs⟩:=h.shape
 have:=h.nam
 rw [hs,List.getElem?_drop]at this
 refine⟨k,om,?_⟩
 simp only [gps,Nat.add_zero]at this
 rw [List.getElem?_map,List.getElem?_range om]at this
 exact(Option.some.inj this).symm
theorem compare_at{n n':Int}(h0:0<=n)(h1:n<n')(h2:n'<4){a b:Ev}(ha:gC n a)(hb:gC n' b):cH a.aq b.aq=some (-1):=by
 obtain⟨k,hk,ek⟩:=nam_at ha
 obtain⟨k',hk',ek'⟩:=nam_at hb
 have:=all1 (all1 (all1 (all1 compareC (show n.toNat<4 by omega)) (show n'.toNat<4 by omega)) hk) hk'
 rw [show((n.toNat:Nat):Int)=n by omega,show((n'.toNat:Nat):Int)=n' by omega, <-ek, <-ek']at this
 simp only [Bool.or_eq_true,decide_eq_true_eq,beq_iff_eq]at this
 rcases this with h|h
 ·omega
 ·exact event_Compare_le _ _ _ h
theorem fw.lt{es:List Ev}(h:fw es){i j:Nat}(hij:i<j)(hj:j<es.length):∃n n':Int,0<=n∧n<n'∧n'<4∧gC n (es[i]'om)∧gC n' es[j]:=by
 obtain⟨n,a1,a2,a3⟩:=h.gen _ (List.getElem_mem (show i<es.length by omega))
 obtain⟨n',b1,b2,b3⟩:=h.gen _ (List.getElem_mem hj)
 have h1:=List.pairwise_iff_getElem.1 h.asc i j om hj hij
 have t1:=a3.times.2.1
 have t2:=b3.times.2.1
 exact⟨n,n',a1,om,b2,a3,b3⟩
theorem fw.times{es:List Ev}(h:fw es){i j:Nat}(hij:i<j)(hj:j<es.length):∀p∈(es[i]'om).aa.aB,∀q∈es[j].aa.aB,p.aL<q.aL:=fun p hp q hq=>by
 obtain⟨n,n',h0,h1,h2,a,b⟩:=h.lt hij hj
 have:=(a.times.1 p hp).2
 have:=(b.times.1 q hq).1
 omega
theorem gen_asc{n:Int}{e:Ev}(h:gC n e):e.aa.aB.Pairwise fun p q=>p.aL<q.aL:=by
 obtain⟨m,k,hk,hm,h4,hs⟩:=h.shape
 rw [hs]
 refine List.Pairwise.drop ?_
 unfold gps
 rw [List.pairwise_map]
 refine List.pairwise_lt_range.imp fun{a b}hab=>?_
 simp only [gp];omega
theorem inner_at{e:Ev}{s1:Int}(hl:e.aa.aB.length<=64)(hp:e.aa.aB.Pairwise fun p q=>p.aL<q.aL):∀(k i:Nat)(m:List (Pick×aV)),i+k=e.aa.aB.length->(∀x∈keys m,∀p∈e.aa.aB.drop i,x.aL<p.aL)->
  ∃m',fq (db e s1) ((i:Int),m)=some (.inl (s1,m'))∧∀x,x∈keys m'->x∈keys m∨x∈e.aa.aB:=by
 intro k
 induction k with
 |zero=>
  intro i m hi _
  refine⟨m,jy ?_,fun x h=>.inl h⟩
  unfold db;simp only;rw [if_neg so]
 |succ k ih=>
  intro i m hi hm
  have hlt:i<e.aa.aB.length:=by omega
  have hno:ky co e.aa.aB[i] m=false:=has_no fe fun h=>by
   have:=hm _ h e.aa.aB[i] (List.mem_drop_iff_getElem.2 ⟨0,om,sm⟩)
   omega
  have e1:db e s1 ((i:Int),m)=some (.next (((i+1:Nat):Int),kg co e.aa.aB[i] (aV.mk) m)):=by
   unfold db
   simp only
   rw [if_pos so,je rfl hlt,zb,if_neg (by simp [hno]),w64 om om]
   simp
  obtain ⟨m', h1, h2⟩ := ih (i + 1) (kg co e.aa.aB[i] (aV.mk) m) om (fun x hx p hp' => by
   rcases(ic fe _ _ m x).1 hx with rfl|hx
   ·have:=List.pairwise_iff_getElem.1 hp
    obtain⟨j,hj,rfl⟩:=List.mem_drop_iff_getElem.1 hp'
    exact this i (i+1+j) hlt om om
   ·exact hm x hx p (by rw [List.drop_eq_getElem_cons hlt];exact List.mem_cons_of_mem _ hp'))
  refine⟨m',by rw [ju e1,h1],fun x hx=>?_⟩
  rcases h2 x hx with h|h
  ·rcases(ic fe _ _ m x).1 h with rfl|h
   ·exact .inr (List.getElem_mem hlt)
   ·exact .inl h
  ·exact .inr h
theorem evalid_at{es:List Ev}(h:fw es):gl es=some true:=by
 have hl4:=h.len
 have key:∀(k i:Nat)(m:List (Pick×aV)),i+k=es.length->(∀x∈keys m,∀j(hj:j<es.length),i<=j->∀p∈es[j].aa.aB,x.aL<p.aL)->fq (dc es) ((i:Int),m)=some (.inl ()):=by
  intro k
  induction k with
  |zero=>
   intro i m hi _
   refine jy ?_
   unfold dc;simp only;rw [if_neg so]
  |succ k ih=>
   intro i m hi hm
   have hlt:i<es.length:=by omega
   obtain⟨n,n0,n1,hg⟩:=h.gen _ (List.getElem_mem hlt)
   obtain⟨s1,s2⟩:=shape_at n0 n1 hg
   obtain⟨mm,kk,q1,q2,q3,q4⟩:=hg.shape
   have hlen:1<=es[i].aa.aB.length∧es[i].aa.aB.length<=64:=by rw [q4];simp [gps];omega
   obtain⟨m',e1,e2⟩:=inner_at (e:=es[i]) (s1:=(i:Int)) hlen.2 (gen_asc hg) es[i].aa.aB.length 0 m om (fun x hx p hp=>hm x hx i hlt (Nat.le_refl _) p (by simpa using hp))
   rw [show((0:Nat):Int)=0 from rfl]at e1
   have e18:da es[i] (i:Int) m=some (.next (((i+1:Nat):Int),m')):=by
    unfold da
    rw [e1,zb]
    simp only
    rw [w64 om om]
    simp
   have e28:dc es ((i:Int),m)=some (.next (((i+1:Nat):Int),m')):=by
    unfold dc
    simp only
    rw [if_pos so,je rfl hlt,zb,if_neg (by simp;intro h;rw [h]at hlen;simp at hlen),s1,zb,if_neg sm,s2,zb,if_neg sm]
    by_cases hpos:(i:Int)>0
    ·obtain⟨a,b,a0,ab,b4,ga,gb⟩:=h.lt (show i-1<i by omega) hlt
     rw [if_pos (decide_eq_true hpos),w64 om om,je (i:=i-1) om om,zb,compare_at a0 ab b4 ga gb,zb,if_neg sm,e18]
    ·rw [if_neg (by simpa using hpos),e18]
   rw [ju e28]
   refine ih (i+1) m' om fun x hx j hj hij p hp=>?_
   rcases e2 x hx with h1|h1
   ·exact hm x h1 j hj om p hp
   ·exact h.times (show i<j by omega) hj x h1 p hp
 unfold gl
 have:=key es.length 0 [] om (fun x hx=>by simp [keys]at hx)
 rw [show((0:Nat):Int)=0 from rfl]at this
 rw [this];rfl
structure AlsOk(now:Int)(l:List Alert):Prop where
 len:l.length<=200
 ids:l.Pairwise fun a b=>a.fID<b.fID
 id:∀a∈l,0<=a.fID∧a.fID<1000
 at_:∀a∈l,0<=a.fAt∧a.fAt<=now
 nam:l.Pairwise fun a b=>a.aI=false->b.aI=false->a.aq≠b.aq
theorem avalid_at{now:Int}{l:List Alert}(h:AlsOk now l)(hn:now<=1000000000):gh l=some true:=by
 have hl:=h.len
 have key:∀(k i:Nat)(s:Int)(m:List (Pick×aV)),i+k=l.length->(∀j(hj:j<l.length),i<=j->s<l[j].fID)->(∀x∈keys m,∃j,∃hj:j<l.length,j<i∧l[j].aI=false∧l[j].aq=x)->
   fq (c7 l) (s,(i:Int),m)=some (.inl ()):=by
  intro k
  induction k with
  |zero=>
   intro i s m hi _ _
   refine jy ?_
   unfold c7;simp only;rw [if_neg so]
  |succ k ih=>
   intro i s m hi hs hm
   have hlt:i<l.length:=by omega
   have h1:=h.id _ (List.getElem_mem hlt)
   have h2:=h.at_ _ (List.getElem_mem hlt)
   have h3:=hs i hlt (Nat.le_refl _)
   have hids:∀j(hj:j<l.length),i+1<=j->l[i].fID<l[j].fID:=fun j hj hij=>List.pairwise_iff_getElem.1 h.ids i j hlt hj om
   have start:c7 l (s,(i:Int),m)=(if l[i].aI=true then(some (.next (l[i].fID,((i+1:Nat):Int),m)))else(if(ky co l[i].aq m)=true then(some (.stop (.inr false)))else(some (.next (l[i].fID,((i+1:Nat):Int),(kg co l[i].aq (aV.mk ) m)))))):=by
    unfold c7
    simp only
    rw [if_pos so,je rfl hlt,zb,if_neg so,if_neg so,if_neg so,if_neg so,w64 om om]
    simp
   by_cases hw:l[i].aI=true
   ·rw [if_pos hw]at start
    rw [ju start]
    refine ih (i+1) _ m om hids fun x hx=>?_
    obtain⟨j,hj,a,b⟩:=hm x hx
    exact⟨j,hj,om,b⟩
   ·have hw':l[i].aI=false:=by simpa using hw
    have hno:ky co l[i].aq m=false:=has_no fe fun hk=>by
     obtain⟨j,hj,a,b,c⟩:=hm _ hk
     exact List.pairwise_iff_getElem.1 h.nam j i hj hlt a b hw' c
    rw [if_neg hw,if_neg (by simp [hno])]at start
    rw [ju start]
    refine ih (i+1) _ _ om hids fun x hx=>?_
    rcases(ic fe _ _ m x).1 hx with rfl|hx
    ·exact⟨i,hlt,om,hw',rfl⟩
    ·obtain⟨j,hj,a,b⟩:=hm x hx
     exact⟨j,hj,om,b⟩
 unfold gh
 rw [if_neg so]
 have:=key l.length 0 (-1) [] om (fun j hj _=>by have:=h.id _ (List.getElem_mem hj);omega) (fun x hx=>by simp [keys]at hx)
 rw [show((0:Nat):Int)=0 from rfl]at this
 rw [this];rfl
theorem later_at{now:Int}{l:List Alert}(h:AlsOk now l):br l now=some false:=by
 have hl:=h.len
 unfold br cq
 rw [gN l (u:= .inl ())]
 ·rfl
 ·intro i hi
  have h2:=h.at_ _ (List.getElem_mem hi)
  unfold bY dQ
  rw [if_pos so,je rfl hi,zb,zb,if_neg so,w64 om om]
  simp
 ·unfold bY
  rw [if_neg sm]
theorem refused_at{p:Policy}{l:List Alert}{es:List Ev}{n now:Int}(hp:hJ p)(he:fw es)(ha:AlsOk now l)(hn:∀a∈l,a.fID<n)(hn0:0<=n)(h0:0<=now)(h1:now<=1000000000):fd p l n es now=some 0:=by
 have hl:=ha.len
 unfold fd
 rw [ir hp,zb,if_neg sm,avalid_at ha h1,zb,if_neg sm,evalid_at he,zb,if_neg sm,if_neg so]
 by_cases hpos:(l.length:Int)>0
 ·have hlast:=hn _ (List.getElem_mem (show l.length-1<l.length by omega))
  rw [if_pos (decide_eq_true hpos),w64 om om,je (i:=l.length-1) om om,zb,if_neg so,if_neg so,if_neg so,later_at ha,zb,if_neg sm]
 ·rw [if_neg (by simpa using hpos),if_neg so,if_neg so,later_at ha,zb,if_neg sm]
end Go.Dw.Fa
set_option maxRecDepth 100000
set_option maxHeartbeats 4000000
namespace Go.Dw.Fa
open Go.Dw Go.Lib
section
variable {l:List Alert}{es:List Ev}
def Ix(es:List Ev)(m:List (Pick×Int)):Prop:=∀x,ky co x m=true->∃i:Nat,∃h:i<es.length,bo co x 0 m=(i:Int)∧es[i].aq=x
theorem Ix.put{m:List (Pick×Int)}(h:Ix es m){i:Nat}(hi:i<es.length):Ix es (kg co es[i].aq (i:Int) m):=by
 intro x hx
 rw [get_put fe]
 by_cases hk:x=es[i].aq
 ·rw [if_pos ((fe _ _).2 hk)]
  exact⟨i,hi,rfl,hk.symm⟩
 ·rw [if_neg (fun h=>hk ((fe _ _).1 h))]
  refine h x ?_
  rw [has_iff fe]at hx⊢
  rcases(ic fe _ _ m x).1 hx with h|h
  ·exact(hk h).elim
  ·exact h
theorem index_at(hl:es.length<=1000):Ok (fq (fx es) ((0:Int),[])) (Ix es):=by
 refine Ok.loop (fun s=>∃i:Nat,s.1=i∧i<=es.length∧Ix es s.2) (fun s=>((es.length:Int)-s.1).toNat) ?_ ⟨0,rfl,om,fun x hx=>by simp [ky]at hx⟩
 rintro⟨i',m⟩ ⟨i,i0,i1,hm⟩
 simp only at i0 hm
 subst i0
 unfold fx
 refine Ok.jZ (fun hlt=>?_) (fun _=>Ok.st hm)
 have hi:i<es.length:=by omega
 rw [je rfl hi,zb,w64 om om]
 exact Ok.iteN (fun _=>Ok.nx ⟨i+1,sm,om,hm.put hi⟩ za) (fun _=>Ok.nx ⟨i+1,sm,om,hm⟩ za)
structure FI(l:List Alert)(es:List Ev)(N:Nat->Nat->Prop)(k:Nat)(out:List Int)(taken:List Bool):Prop where
 ol:out.length=l.length
 tl:taken.length=es.length
 rng:∀(j:Nat)(v:Int),j<k->out[j]? =some v->v= -1∨∃i:Nat,v=(i:Int)∧taken[i]? =some true∧N j i
 inj:∀(j j':Nat)(v:Int),j<j'->j'<k->out[j]? =some v->out[j']? =some v->v= -1
theorem FI.skip{N:Nat->Nat->Prop}{k:Nat}{out:List Int}{taken:List Bool}(h:FI l es N k out taken)(hk:k<l.length):FI l es N (k+1) (out.set k (-1)) taken:=by
 refine⟨by rw [List.length_set];exact h.ol,h.tl,fun j v hj hv=>?_,fun j j' v h1 h2 e1 e2=>?_⟩
 ·rw [List.getElem?_set]at hv
  split at hv
  ·rw [if_pos (by rw [h.ol];omega)]at hv
   exact .inl (Option.some.inj hv).symm
  ·exact h.rng j v om hv
 ·rw [List.getElem?_set]at e1 e2
  split at e2
  ·rw [if_pos (by rw [h.ol];omega)]at e2
   exact(Option.some.inj e2).symm
  ·split at e1
   ·omega
   ·exact h.inj j j' v h1 om e1 e2
theorem set_true{taken:List Bool}{i i':Nat}(hi:i<taken.length)(h:taken[i']? =some true):(taken.set i true)[i']? =some true:=by
 rw [List.getElem?_set]
 split
 ·rename_i e;subst e;first|rfl|simp [hi]
 ·exact h
theorem FI.add{N:Nat->Nat->Prop}{k i:Nat}{out:List Int}{taken:List Bool}(h:FI l es N k out taken)(hk:k<l.length)(hi:i<es.length)(hN:N k i)(hno:∀j,j<k->out[j]? ≠some (i:Int)):FI l es N (k+1) (out.set k (i:Int)) (taken.set i true):=by
 have hit:i<taken.length:=by rw [h.tl];exact hi
 refine⟨by rw [List.length_set];exact h.ol,by rw [List.length_set];exact h.tl,fun j v hj hv=>?_,fun j j' v h1 h2 e1 e2=>?_⟩
 ·rw [List.getElem?_set]at hv
  split at hv
  ·rename_i e
   rw [if_pos (by rw [h.ol];omega)]at hv
   subst e
   exact .inr ⟨i,(Option.some.inj hv).symm,by rw [List.getElem?_set_self hit],hN⟩
  ·rcases h.rng j v om hv with h1|⟨i',h1,h2,h3⟩
   ·exact .inl h1
   ·exact .inr ⟨i',h1,set_true hit h2,h3⟩
 ·rw [List.getElem?_set]at e1 e2
  split at e2
  ·rename_i e
   rw [if_pos (by rw [h.ol];omega)]at e2
   subst e
   rw [if_neg om]at e1
   have:=Option.some.inj e2
   subst this
   exact(hno j om e1).elim
  ·split at e1
   ·omega
   ·exact h.inj j j' v h1 om e1 e2
def Nam(l:List Alert)(es:List Ev)(j i:Nat):Prop:=∃(hj:j<l.length)(hi:i<es.length),l[j].aI=false∧es[i].aq=l[j].aq
theorem first_ok(hl:l.length<=1000)(hel:es.length<=1000)(hn:l.Pairwise fun a b=>a.aI=false->b.aI=false->a.aq≠b.aq){m:List (Pick×Int)}(hm:Ix es m):
  Ok (fq (eM l m) ((0:Int),List.replicate l.length 0,List.replicate es.length false)) (fun o=>FI l es (Nam l es) l.length o.1 o.2):=by
 refine Ok.loop (fun s=>∃k:Nat,s.1=k∧k<=l.length∧FI l es (Nam l es) k s.2.1 s.2.2) (fun s=>((l.length:Int)-s.1).toNat) ?_ ⟨0,rfl,om,⟨sm,sm,fun j v h=>om,fun j j' v h1 h2=>om⟩⟩
 rintro⟨k',out,taken⟩ ⟨k,i0,i1,hI⟩
 simp only at i0 hI
 subst i0
 unfold eM
 have hol:=hI.ol
 have htl:=hI.tl
 refine Ok.jZ (fun hlt=>?_) (fun _=>?_)
 ·have hk:k<l.length:=by omega
  have hw:IntKind.wrap .i64 ((k:Int)+1)=((k+1:Nat):Int):=by rw [w64 om om];omega
  rw [je rfl hk,zb,hw]
  have skip:Ok ((inO out (k:Int)).bind fun x22=>(ny out (k:Int) (-1)).bind fun x23=>some (iN.next (((k+1:Nat):Int),x23,taken))) (Ok.S (fun s:Int×List Int×List Bool=>∃k:Nat,s.1=k∧k<=l.length∧FI l es (Nam l es) k s.2.1 s.2.2) (fun s=>((l.length:Int)-s.1).toNat) (fun o:List Int×List Bool=>FI l es (Nam l es) l.length o.1 o.2) ((k:Int),out,taken)):=by
   rw [kT om om,zb,mB rfl om,zb]
   exact Ok.nx ⟨k+1,rfl,om,hI.skip hk⟩ za
  refine Ok.iteB (fun hw'=>skip) (fun hw'=>?_)
  refine Ok.iteN (fun _=>skip) (fun hh=>?_)
  obtain⟨i,hi,e1,e2⟩:=hm _ hh
  rw [e1,kT om om,zb,mB rfl om,zb,kT om om,zb,mB rfl om,zb]
  refine Ok.nx ⟨k+1,rfl,om,hI.add hk hi ⟨hk,hi,hw',e2⟩ fun j hj e=>?_⟩ za
  rcases hI.rng j _ hj e with h|⟨i',h, -,hj',hi',h3,h4⟩
  ·omega
  ·have:i'=i:=by omega
   subst this
   exact List.pairwise_iff_getElem.1 hn j k hj' hk hj h3 hw' (by rw [<-h4,e2])
 ·have:k=l.length:=by omega
  subst this
  exact Ok.st hI
structure FlOk(l:List Alert)(es:List Ev)(fl:List Int):Prop where
 len:fl.length=l.length
 rng:∀(k:Nat)(v:Int),fl[k]? =some v->v= -1∨(0<=v∧v<es.length)
 inj:∀(j k:Nat)(v:Int),j<k->fl[j]? =some v->fl[k]? =some v->v= -1
theorem follow_ok(hl:l.length<=1000)(hel:es.length<=1000)(hn:l.Pairwise fun a b=>a.aI=false->b.aI=false->a.aq≠b.aq)(hp:∀a∈l,a.aj.aa.aB.length<=1000000)(hq:∀e∈es,e.aa.aB.length<=1000000):
  Ok (fJ l es) (FlOk l es):=by
 unfold fJ
 refine Ok.bind (index_at hel) (fun m hm=>?_)
 refine Ok.bind (Ok.mk om om om) (fun x1 h1=>?_)
 refine Ok.bind (Ok.mk om om om) (fun x2 h2=>?_)
 rw [Int.toNat_natCast]at h1 h2
 subst h1 h2
 refine Ok.bind (first_ok hl hel hn hm) (fun o ho=>?_)
 have ho':FI l es (fun _ _=>True) l.length o.1 o.2:=⟨ho.ol,ho.tl,fun j v hj hv=>(ho.rng j v hj hv).imp id fun⟨i,a,b,_⟩=>⟨i,a,b,trivial⟩,ho.inj⟩
 refine Ok.bind (P:=FlOk l es) (Ok.loop (fun s=>∃k:Nat,s.1=k∧k<=l.length∧FI l es (fun _ _=>True) l.length s.2.1 s.2.2) (fun s=>((l.length:Int)-s.1).toNat) ?_ ⟨0,rfl,om,ho'⟩) (fun o h=>Ok.ret h)
 rintro⟨k',out,taken⟩ ⟨k,i0,i1,hI⟩
 simp only at i0 hI
 subst i0
 have hol:=hI.ol
 have htl:=hI.tl
 unfold gE
 refine Ok.jZ (fun hlt=>?_) (fun _=>Ok.st ⟨hol,fun k v hv=>?_,fun j k v hjk e1 e2=>?_⟩)
 ·have hk:k<l.length:=by omega
  rw [je rfl hk,zb]
  refine Ok.iteB (fun _=>?_) (fun _=>?_)
  ·rw [w64 om om]
   exact Ok.nx ⟨k+1,sm,om,hI⟩ za
  ·rw [kT om om,zb,je rfl om,zb]
   refine Ok.jZ (fun _=>?_) (fun hneg=>?_)
   ·rw [w64 om om]
    exact Ok.nx ⟨k+1,sm,om,hI⟩ za
   ·refine Ok.bind (P:=fun o=>o.1=(k:Int)∧FI l es (fun _ _=>True) l.length o.2.1 o.2.2) (Ok.upto (es.length:Int) om (fun _=>True) trivial (fun i h0 h1 _=>?_)) (fun o ho=>?_)
    ·unfold gD
     refine Ok.jZ (fun hlt2=>?_) (fun _=>Ok.st ⟨rfl,hI⟩)
     obtain⟨i',rfl⟩:∃i':Nat,i=i':=⟨i.toNat,om⟩
     have hi:i'<es.length:=by omega
     have nxt:Ok (some (iN.next (IntKind.wrap .i64 ((i':Int)+1)))) (Ok.S (fun i:Int=>(0<=i∧i<=(es.length:Int))∧True) (fun i=>((es.length:Int)-i).toNat) (fun o:Int×List Int×List Bool=>o.1=(k:Int)∧FI l es (fun _ _=>True) l.length o.2.1 o.2.2) (i':Int)):=by
      rw [w64 om om]
      exact Ok.nx ⟨⟨om,om⟩,trivial⟩ om
     rw [je rfl hi,zb,kT om om,zb,je rfl om,zb]
     refine Ok.iteN (fun hf=>?_) (fun _=>nxt)
     refine Ok.bind (shared_ok _ _ (hp _ (List.getElem_mem hk)) (hq _ (List.getElem_mem hi))) (fun b _=>Ok.iteB (fun _=>?_) (fun _=>nxt))
     rw [kT om om,zb,mB rfl om,zb,zb,mB rfl om,zb]
     refine Ok.st ⟨rfl,?_⟩
     have hit:i'<taken.length:=by omega
     have hno:∀j,out[j]? ≠some (i':Int):=fun j e=>by
      have hj:j<l.length:=by
       have:=(List.getElem?_eq_some_iff.1 e).1;omega
      rcases hI.rng j _ hj e with h|⟨i2,h,h3, -⟩
      ·omega
      ·have:i2=i':=by omega
       subst this
       rw [zc hit,hf]at h3
       cases h3
     refine⟨by rw [List.length_set];exact hI.ol,by rw [List.length_set];exact hI.tl,fun j v hj hv=>?_,fun j j' v h1 h2 e1 e2=>?_⟩
     ·rw [List.getElem?_set]at hv
      split at hv
      ·rw [if_pos om]at hv
       exact .inr ⟨i',(Option.some.inj hv).symm,by rw [List.getElem?_set_self hit],trivial⟩
      ·rcases hI.rng j v hj hv with h1|⟨i2,h1,h2,h3⟩
       ·exact .inl h1
       ·exact .inr ⟨i2,h1,set_true hit h2,h3⟩
     ·rw [List.getElem?_set]at e1 e2
      split at e2
      ·rw [if_pos om]at e2
       have:=Option.some.inj e2
       subst this
       rw [if_neg om]at e1
       exact(hno j e1).elim
      ·split at e1
       ·rw [if_pos om]at e1
        have:=Option.some.inj e1
        subst this
        exact(hno j' e2).elim
       ·exact hI.inj j j' v h1 h2 e1 e2
    ·obtain⟨o1,o2⟩:=ho
     rw [o1,w64 om om]
     exact Ok.nx ⟨k+1,sm,om,o2⟩ za
 ·have hk:k<l.length:=by
   have:=(List.getElem?_eq_some_iff.1 hv).1;omega
  rcases hI.rng k v hk hv with h|⟨i,h,h2, -⟩
  ·exact .inl h
  ·have:=(List.getElem?_eq_some_iff.1 h2).1
   exact .inr ⟨om,om⟩
 ·have hk:k<l.length:=by
   have:=(List.getElem?_eq_some_iff.1 e2).1;omega
  exact hI.inj j k v hjk hk e1 e2
end
end Go.Dw.Fa
set_option maxRecDepth 100000
set_option maxHeartbeats 4000000
namespace Go.Dw.Fa
open Go.Dw Go.Lib
theorem mGet_put{β:Type}(k k':Int)(v z:β):∀l:List (Int×β),bo (fun a b=>a==b) k' z (kg (fun a b=>a==b) k v l)=if k'=k then v else bo (fun a b=>a==b) k' z l
 | []=>by by_cases h:k'=k<;>simp [kg,bo,h]
 |e::r=>by
  have ih:=mGet_put k k' v z r
  by_cases h:k=e.1
  ·subst h
   simp only [kg,beq_self_eq_true,if_true,bo]
   by_cases h2:k'=e.1<;>simp [h2]
  ·have hb:(k==e.1)=false:=by simpa using h
   simp only [kg,hb,Bool.false_eq_true,if_false,bo,ih]
   by_cases h2:k'=e.1
   ·subst h2
    have:¬e.1=k:=fun e=>h e.symm
    simp [this]
   ·simp [h2]
section
variable {l:List Bul}
def dE:List Bul->List Bul
 | []=>[]
 |a::r=>if(r.all fun b=>b.fID != a.fID)=true∧a.bk≠3 then a::dE r else dE r
theorem keepL_mem:∀{l:List Bul}{b:Bul},b∈dE l->b∈l
 | [],_,h=>h
 |a::r,b,h=>by
  unfold dE at h
  split at h
  ·rcases List.mem_cons.1 h with rfl|h
   ·simp
   ·exact List.mem_cons_of_mem _ (keepL_mem h)
  ·exact List.mem_cons_of_mem _ (keepL_mem h)
theorem keepL_len:∀l:List Bul,(dE l).length<=l.length
 | []=>Nat.le_refl _
 |a::r=>by
  have:=keepL_len r
  unfold dE
  split<;>simp only [List.length_cons]<;>omega
theorem gq:∀l:List Bul,(dE l).Pairwise fun x y=>x.fID≠y.fID
 | []=>.nil
 |a::r=>by
  unfold dE
  split
  ·rename_i h
   refine List.pairwise_cons.2 ⟨fun b hb e=>?_,gq r⟩
   have:=List.all_eq_true.1 h.1 b (keepL_mem hb)
   simp [e]at this
  ·exact gq r
theorem last_all{i:Nat}(hi:i<l.length):((l.drop (i+1)).all fun b=>b.fID != l[i].fID)=true↔∀(k:Nat)(h1:i<k)(h2:k<l.length),l[k].fID≠l[i].fID:=by
 rw [List.all_eq_true]
 constructor
 ·intro h k h1 h2 e
  have:=h l[k] (by rw [List.mem_drop_iff_getElem];exact⟨k-(i+1),om,by simp only [show i+1+(k-(i+1))=k by omega]⟩)
  simp [e]at this
 ·intro h b hb
  obtain⟨k,hk,rfl⟩:=List.mem_drop_iff_getElem.1 hb
  simpa using h (i+1+k) om om
def LastOk(l:List Bul)(i:Nat)(m:List (Int×Int)):Prop:=
 ∀(j:Nat)(_:j<i)(hl:j<l.length),∃(j':Nat)(_:j<=j')(_:j'<i)(hl':j'<l.length),bo (fun a b=>a==b) l[j].fID 0 m=(j':Int)∧l[j'].fID=l[j].fID∧∀(k:Nat)(_:j'<k)(_:k<i)(h2:k<l.length),l[k].fID≠l[j].fID
theorem last_map(hl:l.length<=1000000):Ok (fq (fA l) ((0:Int),[])) (LastOk l l.length):=by
 refine Ok.loop (fun s=>∃i:Nat,s.1=(i:Int)∧i<=l.length∧LastOk l i s.2) (fun s=>((l.length:Int)-s.1).toNat) ?_ ⟨0,rfl,om,fun j hj=>om⟩
 rintro⟨s1,m⟩ ⟨i,e1,hi,hm⟩
 simp only at e1 hm
 subst e1
 unfold fA
 refine Ok.jZ (fun hlt=>?_) (fun hge=>?_)
 ·have hlt:i<l.length:=by omega
  rw [je rfl hlt,zb,w64 om om]
  refine Ok.nx ⟨i+1,za,om,?_⟩ za
  intro j hj hjl
  simp only
  rw [mGet_put]
  by_cases he:l[j].fID=l[i].fID
  ·rw [if_pos he]
   exact⟨i,om,om,hlt,rfl,he.symm,fun k h1 h2=>om⟩
  ·rw [if_neg he]
   have hji:j≠i:=fun e=>he (by subst e;rfl)
   obtain⟨j',g1,g2,g3,g4,g5,g6⟩:=hm j om hjl
   refine⟨j',g1,om,g3,g4,g5,fun k h1 h2 h3=>?_⟩
   by_cases hk:k=i
   ·subst hk;exact fun e=>he e.symm
   ·exact g6 k h1 om h3
 ·have:i=l.length:=by omega
  subst this
  exact Ok.st hm
theorem last_iff{m:List (Int×Int)}(hm:LastOk l l.length m){i:Nat}(hi:i<l.length):(bo (fun a b=>a==b) l[i].fID 0 m==(i:Int))=((l.drop (i+1)).all fun b=>b.fID != l[i].fID):=by
 obtain⟨j',g1,g2,g3,g4,g5,g6⟩:=hm i hi hi
 rw [Bool.eq_iff_iff,last_all hi,beq_iff_eq,g4]
 constructor
 ·intro e k h1 h2
  have:j'=i:=by omega
  subst this
  exact g6 k h1 h2 h2
 ·intro h
  by_cases e:j'=i
  ·omega
  ·exact(h j' om g3 g5).elim
theorem copied_at{b:Bul}(h:b.aj.aa.aB.length<=1000000):fp b=some b:=by
 unfold fp lS
 rw [if_pos om]
 rfl
theorem code_l19(hl:l.length<=1000000)(hp:∀b∈l,b.aj.aa.aB.length<=1000000){m:List (Int×Int)}(hm:LastOk l l.length m):∀(k i:Nat)(acc:List Bul),i+k=l.length->acc.length<=i->
  fq (cN l m) ((i:Int),acc)=some (acc++dE (l.drop i)):=by
 intro k
 induction k with
 |zero=>
  intro i acc hi ha
  rw [List.drop_of_length_le om]
  refine jy ?_
  unfold cN
  simp only
  rw [if_neg so]
  simp [dE]
 |succ k ih=>
  intro i acc hi ha
  have hlt:i<l.length:=by omega
  have hw:IntKind.wrap .i64 ((i:Int)+1)=((i+1:Nat):Int):=by rw [w64 om om];omega
  rw [List.drop_eq_getElem_cons hlt,dE]
  have e0:cN l m ((i:Int),acc)=(if(bo (fun a b=>a==b) l[i].fID (0:Int) m==(i:Int))=true then(if(l[i].bk != (3:Int))=true then((fp l[i]).bind fun x17=>(lh acc [x17] 288).bind fun x18=>some (.next (((i+1:Nat):Int),x18)))else some (.next (((i+1:Nat):Int),acc)))else some (.next (((i+1:Nat):Int),acc))):=by
   unfold cN
   simp only
   rw [if_pos so,je rfl hlt,zb,hw]
  rw [last_iff hm hlt]at e0
  by_cases hc:((l.drop (i+1)).all fun b=>b.fID != l[i].fID)=true
  ·rw [if_pos hc]at e0
   by_cases h3:l[i].bk=3
   ·rw [if_neg (by simp [h3])]at e0
    rw [if_neg (fun h=>h.2 h3),ju e0,ih (i+1) acc om om]
   ·rw [if_pos (by simpa using h3),copied_at (hp _ (List.getElem_mem _)),zb,So.appO_at (by simp only [List.length_cons,List.length_nil];omega),zb]at e0
    rw [if_pos ⟨hc,h3⟩,ju e0,ih (i+1) _ om so]
    simp
  ·rw [if_neg hc]at e0
   rw [if_neg (fun h=>hc h.1),ju e0,ih (i+1) acc om om]
theorem lit1_eq(a b:Bul):bc a b=some (cmpI a.fID b.fID):=by
 unfold bc bi dJ cmpI
 simp only [zb,bne_self_eq_false,Bool.false_eq_true,if_false]
 by_cases h1:a.fID<b.fID
 ·simp [h1]
 ·by_cases h2:a.fID>b.fID
  ·simp [h1,h2]
  ·simp [h1,h2]
theorem gr(a b:Bul):lt3 bc a b=decide (a.fID<b.fID):=by
 unfold lt3
 rw [lit1_eq,Option.getD_some]
 refine decide_eq_decide.2 ?_
 unfold cmpI
 split
 ·simp [*]
 ·split<;>simp [*]
theorem lit1_ok:CmpOk bc:=by
 refine⟨fun x y=>⟨_,lit1_eq x y⟩,⟨fun x=>?_,fun x y z h1 h2=>?_,fun x y z h1 h2=>?_⟩⟩
 ·rw [gr];simp
 ·rw [gr]at*;simp only [decide_eq_true_eq]at*;omega
 ·rw [gr]at*;simp only [decide_eq_false_iff_not]at*;omega
theorem keep_apart3(l:List Bul):qu bc (dE l):=by
 refine(gq l).imp fun{a b}h=>?_
 rw [gr,gr]
 simp only [decide_eq_true_eq]
 omega
theorem code_current(hl:l.length<=1000000)(hp:∀b∈l,b.aj.aa.aB.length<=1000000):eh l=some ((dE l).mergeSort fun x y=> !lt3 bc y x):=by
 obtain⟨m,h1,hm⟩:=last_map hl
 have h2:=code_l19 hl hp hm l.length 0 [] om sm
 rw [show((0:Nat):Int)=0 from rfl]at h2
 have hk:=keepL_len l
 unfold eh
 rw [h1,zb,h2,zb,List.nil_append,List.drop_zero,sortU_at lit1_ok (keep_apart3 l) om]
 rfl
end
end Go.Dw.Fa
set_option maxRecDepth 100000
set_option maxHeartbeats 4000000
namespace Go.Dw.Fa
open Go.Dw Go.Lib
def cK(id:Int):List Bul->Option Bul
 | []=>none
 |b::r=>match cK id r with
  |some x=>some x
  |none=>if b.fID=id then some b else none
theorem eR(id:Int)(b:Bul):∀l:List Bul,cK id (l++[b])=if b.fID=id then some b else cK id l
 | []=>by simp [cK]
 |a::r=>by
  rw [List.cons_append,cK,eR id b r]
  by_cases h:b.fID=id
  ·simp [h]
  ·simp [h,cK]
theorem lastB_none{id:Int}:∀{l:List Bul},cK id l=none↔∀x∈l,x.fID≠id
 | []=>by simp [cK]
 |a::r=>by
  have ih:=lastB_none (id:=id) (l:=r)
  rw [cK]
  cases hr:cK id r with
  |some x=>
   simp only [reduceCtorEq,false_iff]
   intro h
   have:cK id r=none:=ih.2 fun y hy=>h y (List.mem_cons_of_mem _ hy)
   rw [hr]at this;cases this
  |none=>
   have h1:=ih.1 hr
   by_cases h:a.fID=id
   ·simp only [h,if_true,reduceCtorEq,false_iff]
    intro h2;exact h2 a sm h
   ·simp only [h,if_false,true_iff]
    intro x hx
    rcases List.mem_cons.1 hx with rfl|hx
    ·exact h
    ·exact h1 x hx
theorem gM{id:Int}{b:Bul}:∀{l:List Bul},cK id l=some b->b∈l∧b.fID=id
 | [],h=>by cases h
 |a::r,h=>by
  rw [cK]at h
  cases hr:cK id r with
  |some x=>
   rw [hr]at h
   cases h
   exact⟨List.mem_cons_of_mem _ (gM hr).1,(gM hr).2⟩
  |none=>
   rw [hr]at h
   simp only at h
   split at h
   ·cases h;exact⟨sm,by assumption⟩
   ·cases h
theorem keep_iff{b:Bul}:∀{l:List Bul},b∈dE l↔cK b.fID l=some b∧b.bk≠3
 | []=>by simp [dE,cK]
 |a::r=>by
  have ih:=keep_iff (b:=b) (l:=r)
  rw [dE,cK]
  have hall:(r.all fun x=>x.fID != a.fID)=true↔cK a.fID r=none:=by
   rw [lastB_none,List.all_eq_true]
   exact⟨fun h x hx=>by simpa using h x hx,fun h x hx=>by simpa using h x hx⟩
  cases hr:cK b.fID r with
  |some x=>
   rw [hr]at ih
   split
   ·rename_i hc
    rw [List.mem_cons,ih]
    constructor
    ·rintro(rfl|h)
     ·rw [hall.1 hc.1]at hr;cases hr
     ·exact h
    ·exact .inr
   ·exact ih
  |none=>
   rw [hr]at ih
   have hno:¬b∈dE r:=fun h=>by have:=ih.1 h;cases this.1
   simp only
   by_cases hid:a.fID=b.fID
   ·have h1:cK a.fID r=none:=by rw [hid];exact hr
    rw [if_pos hid]
    by_cases h3:a.bk≠3
    ·rw [if_pos ⟨hall.2 h1,h3⟩,List.mem_cons]
     constructor
     ·rintro(rfl|h)
      ·exact⟨rfl,h3⟩
      ·exact(hno h).elim
     ·rintro⟨h, -⟩;exact .inl (Option.some.inj h).symm
    ·rw [if_neg (fun h=>h3 h.2)]
     constructor
     ·intro h;exact(hno h).elim
     ·rintro⟨h,h4⟩;cases h;exact(h3 h4).elim
   ·rw [if_neg hid]
    constructor
    ·intro h
     split at h
     ·rcases List.mem_cons.1 h with rfl|h
      ·exact(hid rfl).elim
      ·exact(hno h).elim
     ·exact(hno h).elim
    ·rintro⟨h, -⟩;cases h
inductive HOk:List Bul->Prop where
 |nil:HOk []
 |snoc {l:List Bul} {b:Bul} (h:HOk l) (hb:BulOk b) (hn:b.bg=(l.length:Int)) (ha:∀x∈l,x.fAt<=b.fAt) (ho:b.bk≠1->∃x,cK b.fID l=some x∧x.bk≠3):HOk (l++[b])
theorem HOk.inv{l:List Bul}{b:Bul}(h:HOk (l++[b])):HOk l∧BulOk b∧b.bg=(l.length:Int)∧(∀x∈l,x.fAt<=b.fAt)∧(b.bk≠1->∃x,cK b.fID l=some x∧x.bk≠3):=by
 generalize hm:l++[b]=m at h
 cases h with
 |nil=>simp at hm
 |snoc h hb hn ha ho=>
  have:=congrArg List.reverse hm
  simp only [List.reverse_append,List.reverse_cons,List.reverse_nil,List.nil_append,List.singleton_append,List.cons.injEq,List.reverse_inj]at this
  obtain⟨rfl,rfl⟩:=this
  exact⟨h,hb,hn,ha,ho⟩
theorem HOk.take{l:List Bul}(h:HOk l)(k:Nat):HOk (l.take k):=by
 induction h with
 |nil=>simpa using HOk.nil
 | @snoc l b h hb hn ha ho ih=>
  by_cases hk:k<=l.length
  ·rw [List.take_append_of_le_length hk];exact ih
  ·rw [List.take_of_length_le so];exact .snoc h hb hn ha ho
theorem HOk.at{l:List Bul}(h:HOk l){i:Nat}(hi:i<l.length):BulOk l[i]∧l[i].bg=(i:Int)∧(∀x∈l.take i,x.fAt<=l[i].fAt)∧(l[i].bk≠1->∃x,cK l[i].fID (l.take i)=some x∧x.bk≠3):=by
 have h1:=h.take (i+1)
 rw [List.take_succ_eq_append_getElem hi]at h1
 obtain⟨-,a,b,c,d⟩:=h1.inv
 refine⟨a,?_,c,d⟩
 rw [b,List.length_take];omega
theorem HOk.buls{l:List Bul}(h:HOk l):∀b∈l,BulOk b:=fun b hb=>by
 obtain⟨i,hi,rfl⟩:=List.getElem_of_mem hb
 exact(h.at hi).1
theorem hist_loop{l:List Bul}(h:HOk l)(hl:l.length<=1000000):∀(k i:Nat)(m:List (Int×Bool)),i+k=l.length->
  (∀id,bo (fun a b=>a==b) id false m=((cK id (l.take i)).any fun x=>x.bk != 3))->fq (bU l) ((i:Int),m)=some (.inl ()):=by
 intro k
 induction k with
 |zero=>
  intro i m hi _
  refine jy ?_
  unfold bU;simp only;rw [if_neg so]
 |succ k ih=>
  intro i m hi hm
  have hlt:i<l.length:=by omega
  obtain⟨hb,hn,ha,ho⟩:=h.at hlt
  have hw:IntKind.wrap .i64 ((i:Int)+1)=((i+1:Nat):Int):=by rw [w64 om om];omega
  have e8:cj l[i] m (i:Int)=some (.next (((i+1:Nat):Int),kg (fun a b=>a==b) l[i].fID (l[i].bk != 3) m)):=by
   unfold cj
   rw [hw]
   by_cases hk:l[i].bk=1
   ·rw [if_neg (by simp [hk])]
   ·rw [if_pos (by simpa using hk)]
    obtain⟨x,hx,h3⟩:=ho hk
    have:bo (fun a b=>a==b) l[i].fID false m=true:=by rw [hm,hx];simpa using h3
    rw [if_neg (by simp [this])]
  have eC:bU l ((i:Int),m)=some (.next (((i+1:Nat):Int),kg (fun a b=>a==b) l[i].fID (l[i].bk != 3) m)):=by
   unfold bU
   simp only
   rw [if_pos so,je rfl hlt,zb,valid_at hb,zb,if_neg sm,if_neg (by simp [hn])]
   by_cases hpos:(i:Int)>0
   ·rw [if_pos (decide_eq_true hpos),w64 om om,je (i:=i-1) om om,zb,if_neg,e8]
    have:=ha (l[i-1]'om) (List.mem_take_iff_getElem.2 ⟨i-1,om,rfl⟩)
    simpa using this
   ·rw [if_neg (by simpa using hpos),e8]
  rw [ju eC]
  refine ih (i+1) _ om fun id=>?_
  rw [mGet_put,hm,List.take_succ_eq_append_getElem hlt,eR]
  by_cases hid:id=l[i].fID
  ·rw [if_pos hid,if_pos hid.symm];rfl
  ·rw [if_neg hid,if_neg (fun e=>hid e.symm)]
theorem history_ok{l:List Bul}(h:HOk l)(hl:l.length<=1000000):cC l=some true:=by
 unfold cC
 have:=hist_loop h hl l.length 0 [] om (fun id=>rfl)
 rw [show((0:Nat):Int)=0 from rfl]at this
 rw [this]
 rfl
structure Match(out:List Alert)(h:List Bul):Prop where
 ids:out.Pairwise fun a b=>a.fID<b.fID
 cur:∀a∈out,∃b,cK a.fID h=some b∧(b.bk=3↔a.aI=true)∧(a.aI=false->b.aW=a.aW∧b.fAt=a.fAt∧b.aj=a.aj)
 all:∀b∈h,∃a∈out,a.fID=b.fID
theorem key_unique{α:Type}(f:α->Int):∀{r s:List α},r.Pairwise (fun x y=>f x<f y)->s.Pairwise (fun x y=>f x<f y)->(∀x,x∈r↔x∈s)->r=s
 | [],[],_,_,_=>rfl
 | [],b::s,_,_,h=>by have:=(h b).2 sm;simp at this
 |a::r,[],_,_,h=>by have:=(h a).1 sm;simp at this
 |a::r,b::s,hr,hs,h=>by
  obtain⟨r1,r2⟩:=List.pairwise_cons.1 hr
  obtain⟨s1,s2⟩:=List.pairwise_cons.1 hs
  have hab:a=b:=by
   rcases List.mem_cons.1 ((h a).1 sm)with e|e
   ·exact e
   ·rcases List.mem_cons.1 ((h b).2 sm)with e'|e'
    ·exact e'.symm
    ·have:=s1 a e;have:=r1 b e';omega
  subst hab
  rw [key_unique f r2 s2 fun x=>?_]
  constructor
  ·intro hx
   rcases List.mem_cons.1 ((h x).1 (List.mem_cons_of_mem _ hx))with e|e
   ·subst e;have:=r1 x hx;omega
   ·exact e
  ·intro hx
   rcases List.mem_cons.1 ((h x).2 (List.mem_cons_of_mem _ hx))with e|e
   ·subst e;have:=s1 x hx;omega
   ·exact e
theorem current_open{out:List Alert}{h:List Bul}(hm:Match out h)(hl:h.length<=1000000)(hp:∀b∈h,b.aj.aa.aB.length<=1000000):
  ∃c,eh h=some c∧c.length=(out.filter fun a=> !a.aI).length∧
   ∀(i:Nat)(h1:i<(out.filter fun a=> !a.aI).length)(h2:i<c.length),c[i].fID=(out.filter fun a=> !a.aI)[i].fID∧c[i].aW=(out.filter fun a=> !a.aI)[i].aW∧
    c[i].fAt=(out.filter fun a=> !a.aI)[i].fAt∧c[i].aj=(out.filter fun a=> !a.aI)[i].aj∧c[i]∈h:=by
 generalize hO:(out.filter fun a=> !a.aI)=O
 have hmem:∀a∈O,a∈out∧a.aI=false:=fun a ha=>by
  subst hO
  have:=List.mem_filter.1 ha
  exact⟨this.1,by simpa using this.2⟩
 let g:Alert->Bul:=fun a=>(cK a.fID h).getD ⟨0,0,0,0,0,a.aj⟩
 have hg:∀a∈O,cK a.fID h=some (g a)∧(g a).fID=a.fID∧(g a).bk≠3∧(g a).aW=a.aW∧(g a).fAt=a.fAt∧(g a).aj=a.aj:=fun a ha=>by
  obtain⟨h1,h2⟩:=hmem a ha
  obtain⟨b,e1,e2,e3⟩:=hm.cur a h1
  have hgb:g a=b:=by show(cK a.fID h).getD _=b;rw [e1];rfl
  rw [hgb]
  refine⟨e1,(gM e1).2,fun e=>?_,e3 h2⟩
  rw [e2.1 e]at h2;cases h2
 have hsort:(O.map g).Pairwise fun x y=>x.fID<y.fID:=by
  rw [List.pairwise_map]
  have h1:O.Pairwise fun a b=>a.fID<b.fID:=by subst hO;exact hm.ids.filter _
  refine List.Pairwise.imp_of_mem (fun{a b}ha hb hab=>?_) h1
  rw [(hg a ha).2.1,(hg b hb).2.1];exact hab
 refine⟨_,code_current hl hp,?_⟩
 have hperm:=List.mergeSort_perm (dE h) (fun x y=> !lt3 bc y x)
 have hC:((dE h).mergeSort fun x y=> !lt3 bc y x).Pairwise fun x y=>x.fID<y.fID:=by
  have h1 := List.pairwise_mergeSort (le := fun x y => !lt3 bc y x) (fun a b c => by
   simp only [gr,Bool.not_eq_true',decide_eq_false_iff_not];omega) (fun a b=>by
   simp only [gr,Bool.or_eq_true,Bool.not_eq_true',decide_eq_false_iff_not];omega) (dE h)
  have h2:((dE h).mergeSort fun x y=> !lt3 bc y x).Pairwise fun x y=>x.fID≠y.fID:=(hperm.pairwise_iff (fun h e=>h e.symm)).2 (gq h)
  refine(h1.and h2).imp fun{a b}hab=>?_
  have:=hab.1
  simp only [gr,Bool.not_eq_true',decide_eq_false_iff_not]at this
  have:=hab.2
  omega
 have heq:((dE h).mergeSort fun x y=> !lt3 bc y x)=O.map g:=by
  refine key_unique (fun b:Bul=>b.fID) hC hsort fun b=>?_
  rw [hperm.mem_iff,keep_iff,List.mem_map]
  constructor
  ·rintro⟨h1,h2⟩
   obtain⟨a,ha,hid⟩:=hm.all b (gM h1).1
   obtain⟨b',e1,e2, -⟩:=hm.cur a ha
   rw [hid,h1]at e1
   cases e1
   have hw:a.aI=false:=by
    cases hw:a.aI with
    |false=>rfl
    |true=>exact(h2 (e2.2 hw)).elim
   have haO:a∈O:=by subst hO;exact List.mem_filter.2 ⟨ha,by simp [hw]⟩
   refine⟨a,haO,?_⟩
   have:=(hg a haO).1
   rw [hid,h1]at this
   exact(Option.some.inj this).symm
  ·rintro⟨a,ha,rfl⟩
   obtain⟨h1,h2,h3, -⟩:=hg a ha
   exact⟨by rw [h2];exact h1,h3⟩
 rw [heq]
 refine⟨sm,fun i h1 h2=>?_⟩
 rw [List.getElem_map]
 obtain⟨e1,e2, -,e4,e5,e6⟩:=hg _ (List.getElem_mem h1)
 exact⟨e2,e4,e5,e6,(gM e1).1⟩
end Go.Dw.Fa
set_option maxRecDepth 100000
set_option maxHeartbeats 4000000
namespace Go.Dw.Fa
open Go.Dw Go.Lib
structure Mid(now:Int)(out:List Alert)(h:List Bul):Prop where
 mat:Match out h
 hist:HOk h
 hat:∀b∈h,b.fAt<=now
 als:∀a∈out,(0<=a.fID∧a.fID<(h.length:Int))∧(0<=a.aW∧a.aW<=8)∧EvOk a.aj∧(0<=a.fAt∧a.fAt<=now)
theorem Mid.later{now now':Int}{out:List Alert}{h:List Bul}(m:Mid now out h)(hn:now<=now'):Mid now' out h:=
 ⟨m.mat,m.hist,fun b hb=>by have:=m.hat b hb;omega,fun a ha=>by obtain⟨h1,h2,h3,h4⟩:=m.als a ha;exact⟨h1,h2,h3,om,om⟩⟩
theorem pair_set{out:List Alert}(h:out.Pairwise fun a b=>a.fID<b.fID){k:Nat}(hk:k<out.length){a':Alert}(hid:a'.fID=out[k].fID):(out.set k a').Pairwise fun a b=>a.fID<b.fID:=by
 have h1:∀(j:Nat)(hj:j<(out.set k a').length),((out.set k a')[j]).fID=(out[j]'(by simpa using hj)).fID:=fun j hj=>by
  rw [List.getElem_set]
  split
  ·rename_i e;subst e;exact hid
  ·rfl
 rw [List.pairwise_iff_getElem]at h⊢
 intro i j hi hj hij
 rw [h1 i hi,h1 j hj]
 exact h i j _ _ hij
theorem mem_set{out:List Alert}{k:Nat}{a' x:Alert}(hx:x∈out.set k a'):x=a'∨∃(j:Nat)(hj:j<out.length),j≠k∧x=out[j]:=by
 obtain⟨j,hj,rfl⟩:=List.getElem_of_mem hx
 rw [List.getElem_set]
 split
 ·exact .inl rfl
 ·rename_i hne
  exact .inr ⟨j,by simpa using hj,fun e=>hne e.symm,rfl⟩
theorem id_ne{out:List Alert}(h:out.Pairwise fun a b=>a.fID<b.fID){j k:Nat}(hj:j<out.length)(hk:k<out.length)(hjk:j≠k):out[j].fID≠out[k].fID:=by
 rw [List.pairwise_iff_getElem]at h
 rcases Nat.lt_or_gt_of_ne hjk with h1|h1
 ·have:=h j k hj hk h1;omega
 ·have:=h k j hk hj h1;omega
theorem Mid.name{now:Int}{out:List Alert}{h:List Bul}(m:Mid now out h){k:Nat}(hk:k<out.length){a':Alert}(h1:a'.fID=out[k].fID)(h2:a'.aI=out[k].aI)(h3:a'.aW=out[k].aW)(h4:a'.aj=out[k].aj)(h5:a'.fAt=out[k].fAt):Mid now (out.set k a') h:=by
 refine⟨⟨pair_set m.mat.ids hk h1,fun a ha=>?_,fun b hb=>?_⟩,m.hist,m.hat,fun a ha=>?_⟩
 ·rcases mem_set ha with rfl|⟨j,hj, -,rfl⟩
  ·rw [h1,h2,h3,h4,h5];exact m.mat.cur _ (List.getElem_mem hk)
  ·exact m.mat.cur _ (List.getElem_mem hj)
 ·obtain⟨a,ha,e⟩:=m.mat.all b hb
  obtain⟨j,hj,rfl⟩:=List.getElem_of_mem ha
  by_cases hjk:j=k
  ·subst hjk
   exact⟨a',List.mem_iff_getElem.2 ⟨j,by simpa using hj,sm⟩,by rw [h1,e]⟩
  ·exact⟨out[j],List.mem_iff_getElem.2 ⟨j,by simpa using hj,by rw [List.getElem_set_ne (fun e=>hjk e.symm)]⟩,e⟩
 ·rcases mem_set ha with rfl|⟨j,hj, -,rfl⟩
  ·rw [h1,h3,h4,h5];exact m.als _ (List.getElem_mem hk)
  ·exact m.als _ (List.getElem_mem hj)
theorem Mid.tell{now:Int}{out:List Alert}{h:List Bul}(m:Mid now out h)(h0:0<=now)(h1:now<=1000000000)(hl:h.length<1000){k:Nat}(hk:k<out.length)(hw:out[k].aI=false){a':Alert}{kind:Int}(hid:a'.fID=out[k].fID)(hlev:0<=a'.aW∧a'.aW<=8)(hev:EvOk a'.aj)
  (hat:a'.fAt=now) (hkind:kind=2∨kind=3) (hw':kind=3↔a'.aI=true):Mid now (out.set k a') (h++[⟨(h.length:Int),kind,a'.fID,now,a'.aW,a'.aj⟩]):=by
 have hidk:=(m.als _ (List.getElem_mem hk)).1
 obtain⟨x,hx1,hx2, -⟩:=m.mat.cur _ (List.getElem_mem hk)
 refine⟨⟨pair_set m.mat.ids hk hid,fun a ha=>?_,fun b hb=>?_⟩,.snoc m.hist ⟨?_,?_,?_,?_,?_,?_,?_,hlev.1,hlev.2,?_,hev⟩ rfl m.hat (fun _=>⟨x,by simp only;rw [hid];exact hx1,fun e=>by have:=hx2.1 e;rw [hw]at this;cases this⟩),fun b hb=>?_,fun a ha=>?_⟩
 ·rcases mem_set ha with rfl|⟨j,hj,hjk,rfl⟩
  ·refine⟨_,by rw [eR,if_pos rfl],hw',fun _=>⟨rfl,hat.symm,rfl⟩⟩
  ·obtain⟨y,e1,e2⟩:=m.mat.cur _ (List.getElem_mem hj)
   refine⟨y,?_,e2⟩
   rw [eR,if_neg (by simp only;rw [hid];exact fun e=>id_ne m.mat.ids hj hk hjk e.symm)]
   exact e1
 ·rcases List.mem_append.1 hb with hb|hb
  ·obtain⟨a,ha,e⟩:=m.mat.all b hb
   obtain⟨j,hj,rfl⟩:=List.getElem_of_mem ha
   by_cases hjk:j=k
   ·subst hjk
    exact⟨a',List.mem_iff_getElem.2 ⟨j,by simpa using hj,sm⟩,by rw [hid,e]⟩
   ·exact⟨out[j],List.mem_iff_getElem.2 ⟨j,by simpa using hj,by rw [List.getElem_set_ne (fun e=>hjk e.symm)]⟩,e⟩
  ·obtain rfl:=List.mem_singleton.1 hb
   exact⟨a',List.mem_iff_getElem.2 ⟨k,by simpa using hk,sm⟩,rfl⟩
 ·simp only;omega
 ·simp only;omega
 ·simp only;omega
 ·simp only;omega
 ·simp only;omega
 ·simp only;omega
 ·simp only
  constructor
  ·intro e;omega
  ·intro e;omega
 ·simp only [ew];omega
 ·rcases List.mem_append.1 hb with hb|hb
  ·exact m.hat b hb
  ·obtain rfl:=List.mem_singleton.1 hb;exact Int.le_refl _
 ·have hle:((h++[(⟨(h.length:Int),kind,a'.fID,now,a'.aW,a'.aj⟩:Bul)]).length:Int)=(h.length:Int)+1:=by simp
  rw [hle]
  rcases mem_set ha with rfl|⟨j,hj,hjk,rfl⟩
  ·exact⟨om,hlev,hev,om,om⟩
  ·obtain⟨q1,q2⟩:=m.als _ (List.getElem_mem hj)
   exact⟨om,q2⟩
theorem Mid.issue{now:Int}{out:List Alert}{h:List Bul}(m:Mid now out h)(h0:0<=now)(h1:now<=1000000000)(hl:h.length<1000){a:Alert}(hid:a.fID=(h.length:Int))(hw:a.aI=false)(hlev:0<=a.aW∧a.aW<=8)(hev:EvOk a.aj)(hat:a.fAt=now):
  Mid now (out++[a]) (h++[⟨(h.length:Int),1,a.fID,now,a.aW,a.aj⟩]):=by
 refine⟨⟨?_,fun x hx=>?_,fun b hb=>?_⟩,.snoc m.hist ⟨?_,?_,?_,?_,?_,?_,?_,hlev.1,hlev.2,?_,hev⟩ rfl m.hat (fun e=>(e rfl).elim),fun b hb=>?_,fun x hx=>?_⟩
 ·rw [List.pairwise_append]
  refine⟨m.mat.ids,List.pairwise_singleton _ _,fun x hx y hy=>?_⟩
  obtain rfl:=List.mem_singleton.1 hy
  have:=(m.als x hx).1
  omega
 ·rcases List.mem_append.1 hx with hx|hx
  ·obtain⟨y,e1,e2⟩:=m.mat.cur x hx
   refine⟨y,?_,e2⟩
   have:=(m.als x hx).1
   rw [eR,if_neg za]
   exact e1
  ·obtain rfl:=List.mem_singleton.1 hx
   exact⟨_,by rw [eR,if_pos rfl],by simp [hw],fun _=>⟨rfl,hat.symm,rfl⟩⟩
 ·rcases List.mem_append.1 hb with hb|hb
  ·obtain⟨x,hx,e⟩:=m.mat.all b hb
   exact⟨x,List.mem_append.2 (.inl hx),e⟩
  ·obtain rfl:=List.mem_singleton.1 hb
   exact⟨a,sm,rfl⟩
 ·simp only;omega
 ·simp only;omega
 ·simp only;omega
 ·simp only;omega
 ·simp only;omega
 ·simp only;omega
 ·simp only
  exact⟨fun _=>trivial,fun _=>hid⟩
 ·simp only [ew];omega
 ·rcases List.mem_append.1 hb with hb|hb
  ·exact m.hat b hb
  ·obtain rfl:=List.mem_singleton.1 hb;exact Int.le_refl _
 ·have hle:((h++[(⟨(h.length:Int),1,a.fID,now,a.aW,a.aj⟩:Bul)]).length:Int)=(h.length:Int)+1:=by simp
  rw [hle]
  rcases List.mem_append.1 hx with hx|hx
  ·obtain⟨q1,q2⟩:=m.als x hx
   exact⟨om,q2⟩
  ·obtain rfl:=List.mem_singleton.1 hx
   exact⟨om,hlev,hev,om,om⟩
theorem lit1q_at{kind n now:Int}{a:Alert}{bul:List Bul}(he:a.aj.aa.aB.length<=1000000)(hb:bul.length<=1000)(hn0:0<=n)(hn:n<1000):
  cv kind a false n now bul=some (false,n+1,bul++[⟨n,kind,a.fID,now,a.aW,a.aj⟩]):=by
 unfold cv
 rw [if_neg sm,gT he,zb,So.appO_at (by simp only [List.length_cons,List.length_nil];omega),zb,w64 om om]
 simp;omega
end Go.Dw.Fa
set_option maxRecDepth 100000
set_option maxHeartbeats 4000000
namespace Go.Dw.Fa
open Go.Dw Go.Lib
structure K50(now:Int)(h0:List Bul)(k:Nat)(al:List Alert)(bul:List Bul)(al':List Alert)(bul':List Bul)(open_:Prop):Prop where
 mid:Mid now al' (h0++bul')
 len:al'.length=al.length
 oth:∀j,j≠k->al'[j]? =al[j]?
 bl:bul'.length<=bul.length+1
 nam:∀a a',al[k]? =some a->al'[k]? =some a'->a'.aI=false->a'.aq=a.aq∧open_
theorem k50_ok{p:Policy}{es:List Ev}{now:Int}{h0:List Bul}{k:Nat}{al:List Alert}{bul:List Bul}{fol:List Bool}{x19 lev:Int}(hp:hJ p)(he:∀e∈es,EvOk e)(hm:Mid now al (h0++bul))(hn0:0<=now)(hn1:now<=1000000)(hk:k<al.length)(hal:al.length<=1000)
  (hw:al[k].aI=false) (hlen:(h0++bul).length<1000) (hlev:0<=lev∧lev<=8) (hx:lev≠0->0<=x19∧x19<es.length) (n:Int) (hn:n=((h0++bul).length:Int)):
  Ok (cL (k:Int) now false n bul p es x19 lev al fol) (fun r=>∃al' bul',r= .next (((k+1:Nat):Int),((h0++bul').length:Int),false,al',fol,bul')∧K50 now h0 k al bul al' bul' (lev≠0)):=by
 subst hn
 obtain⟨hid,hlv,hev,hat⟩:=hm.als _ (List.getElem_mem hk)
 have hbl:bul.length<=1000:=by simp at hlen;omega
 have hwk:IntKind.wrap .i64 ((k:Int)+1)=((k+1:Nat):Int):=by rw [w64 om om];omega
 have hx0:al[((k:Nat):Int).toNat]? =some al[k]:=by rw [Int.toNat_natCast];exact zc hk
 have hnn:∀b:Bul,((h0++bul).length:Int)+1=((h0++(bul++[b])).length:Int):=fun b=>by simp;omega
 have same:Ok (some (iN.next (σ:=Int×Int×Bool×List Alert×List Bool×List Bul) (ω:=Int×Bool×List Alert×List Bool×List Bul) (((k+1:Nat):Int),((h0++bul).length:Int),false,al,fol,bul))) (fun r=>lev≠0->∃al' bul',r= .next (((k+1:Nat):Int),((h0++bul').length:Int),false,al',fol,bul')∧K50 now h0 k al bul al' bul' (lev≠0)):=
  Ok.ret fun h=>⟨al,bul,rfl,hm,rfl,fun _ _=>rfl,om,fun a a' e1 e2 _=>by rw [e1]at e2;cases e2;exact⟨rfl,h⟩⟩
 unfold cL
 refine Ok.iteE (fun h0'=>?_) (fun hne=>?_)
 ·rw [cV om hx0,zb,Int.toNat_natCast]
  rw [cV (x:={ al[k]with aI:=true }) om (by rw [Int.toNat_natCast,List.getElem?_set_self hk]),zb,Int.toNat_natCast,List.set_set]
  rw [je (i:=k) rfl (by rw [List.length_set];exact hk),zb,List.getElem_set_self,lit1q_at (by have:=hev.sol.len;simp only;omega) hbl om om,zb,hwk]
  refine Ok.ret ⟨_,_,by rw [hnn _],⟨?_,by rw [List.length_set],fun j hj=>by rw [List.getElem?_set_ne (fun e=>hj e.symm)],sm,fun a a' e1 e2 e3=>?_⟩⟩
  ·rw [<-List.append_assoc]
   exact hm.tell hn0 om hlen hk hw rfl hlv hev rfl (.inr rfl) sm
  ·rw [List.getElem?_set_self hk]at e2
   cases e2
   cases e3
 ·rw [je rfl hk,zb,w64 om om,hwk]
  refine Ok.jZ (fun _=>?_) (fun _=>(same).mono fun r hr=>hr hne)
  obtain⟨hx1,hx2⟩:=hx hne
  rw [zb]
  refine Ok.bind (Ok.get hx1 hx2) (fun e hee=>?_)
  refine Ok.bind (moved_ok hp _ _) (fun b _=>Ok.iteB (fun _=>?_) (fun _=>(same).mono fun r hr=>hr hne))
  have hev':=he e hee.1
  have hget:ja es x19=some e:=by
   have:=hee.2
   unfold ja
   rw [if_pos hx1,this]
  rw [hget,zb,gT (by have:=hev'.sol.len;omega),zb]
  rw [cV om hx0,zb,Int.toNat_natCast]
  rw [cV (x:={ al[k]with aW:=lev }) om (by rw [Int.toNat_natCast,List.getElem?_set_self hk]),zb,Int.toNat_natCast,List.set_set]
  rw [cV (x:={ al[k]with aW:=lev,aj:=e }) om (by rw [Int.toNat_natCast,List.getElem?_set_self hk]),zb,Int.toNat_natCast,List.set_set]
  rw [je (i:=k) rfl (by rw [List.length_set];exact hk),zb,List.getElem_set_self,lit1q_at (by have:=hev'.sol.len;simp only;omega) hbl om om,zb]
  refine Ok.ret ⟨_,_,by rw [hnn _],⟨?_,by rw [List.length_set],fun j hj=>by rw [List.getElem?_set_ne (fun e=>hj e.symm)],sm,fun a a' e1 e2 e3=>?_⟩⟩
  ·rw [<-List.append_assoc]
   exact hm.tell hn0 om hlen hk hw rfl hlev hev' rfl (.inl rfl) (by simp [hw])
  ·rw [List.getElem?_set_self hk]at e2
   cases e2
   rw [zc hk]at e1
   cases e1
   exact⟨rfl,hne⟩
structure L1(now:Int)(h0:List Bul)(l:List Alert)(es:List Ev)(fl:List Int)(k:Nat)(n:Int)(al:List Alert)(fol:List Bool)(bul:List Bul):Prop where
 mid:Mid now al (h0++bul)
 num:n=((h0++bul).length:Int)
 al_:al.length=l.length
 fo:fol.length=es.length
 bl:bul.length<=k
 rest:∀j,k<=j->al[j]? =l[j]?
 nam:∀j a,j<k->al[j]? =some a->a.aI=false->∃i:Nat,fl[j]? =some (i:Int)∧∃hi:i<es.length,a.aq=es[i].aq∧fol[i]? =some true
theorem loop1_ok{p:Policy}{es:List Ev}{now:Int}{h0:List Bul}{l:List Alert}{fl:List Int}(hp:hJ p)(he:∀e∈es,EvOk e)(hes:es.length<=4)(hm:Mid now l h0)(hn0:0<=now)(hn1:now<=1000000)(hl:l.length<=100)(hh:h0.length<=800)(hf:FlOk l es fl):
  Ok (fq (fT fl es p now) ((0:Int),(h0.length:Int),false,l,List.replicate es.length false,[])) (fun o=>o.2.1=false∧L1 now h0 l es fl l.length o.1 o.2.2.1 o.2.2.2.1 o.2.2.2.2):=by
 have hfl:=hf.len
 refine Ok.loop (fun s=>∃k:Nat,s.1=k∧k<=l.length∧s.2.2.1=false∧L1 now h0 l es fl k s.2.1 s.2.2.2.1 s.2.2.2.2.1 s.2.2.2.2.2) (fun s=>((l.length:Int)-s.1).toNat) ?_ ⟨0,rfl,om,rfl,by simpa using hm,sm,rfl,sm,sm,fun _ _=>rfl,fun j a hj=>om⟩
 rintro⟨k',n,full,al,fol,bul⟩ ⟨k,i0,i1,i2,hI⟩
 simp only at i0 i2 hI
 subst i0 i2
 have hal:=hI.al_
 have hfo:=hI.fo
 have hbl:=hI.bl
 unfold fT
 refine Ok.jZ (fun hlt=>?_) (fun hge=>?_)
 rotate_left
 ·have:k=l.length:=by omega
  subst this
  exact Ok.st ⟨rfl,hI⟩
 have hk:k<l.length:=by omega
 have hka:k<al.length:=by omega
 have hlen:(h0++bul).length<1000:=by simp;omega
 have hak:al[k]=l[k]:=by
  have:=hI.rest k (Nat.le_refl _)
  rw [zc hka,zc hk]at this
  exact Option.some.inj this
 rw [je rfl (by omega:k<fl.length),zb,kT om om,zb,je rfl hka,zb]
 have hflk:=zc (show k<fl.length by omega)
 refine Ok.iteB (fun hw=>?_) (fun hw=>?_)
 ·rw [w64 om om]
  refine Ok.nx ⟨k+1,sm,om,rfl,hI.mid,hI.num,hal,hfo,za,fun j hj=>hI.rest j om,fun j a hj e1 e2=>?_⟩ za
  by_cases hjk:j=k
  ·subst hjk
   rw [zc hka]at e1
   cases e1
   rw [hw]at e2;cases e2
  ·exact hI.nam j a om e1 e2
 have fin:∀(al1:List Alert)(fol1:List Bool)(lev:Int),Mid now al1 (h0++bul)->al1.length=al.length->(∀j,j≠k->al1[j]? =al[j]?)->fol1.length=fol.length->(∀i:Nat,fol[i]? =some true->fol1[i]? =some true)->(0<=lev∧lev<=8)->
   (∀h:k<al1.length,al1[k].aI=false)->(lev≠0->∃i:Nat,fl[k]=(i:Int)∧∃hi:i<es.length,(∀h:k<al1.length,al1[k].aq=es[i].aq)∧fol1[i]? =some true)->
   Ok (cL (k:Int) now false n bul p es fl[k] lev al1 fol1) (Ok.S (fun s:Int×Int×Bool×List Alert×List Bool×List Bul=>∃k:Nat,s.1=k∧k<=l.length∧s.2.2.1=false∧L1 now h0 l es fl k s.2.1 s.2.2.2.1 s.2.2.2.2.1 s.2.2.2.2.2) (fun s=>((l.length:Int)-s.1).toNat) (fun o:Int×Bool×List Alert×List Bool×List Bul=>o.2.1=false∧L1 now h0 l es fl l.length o.1 o.2.2.1 o.2.2.2.1 o.2.2.2.2) ((k:Int),n,false,al,fol,bul)):=by
  intro al1 fol1 lev hm1 hlen1 hoth hfl1 hfol hlev hw1 hop
  have hk1:k<al1.length:=by omega
  refine(k50_ok hp he hm1 hn0 hn1 hk1 om (hw1 hk1) hlen hlev (fun h=>by obtain⟨i,e,hi, -⟩:=hop h;omega) n hI.num).mono fun r hr=>?_
  obtain⟨al',bul',rfl,hK⟩:=hr
  refine⟨⟨k+1,rfl,om,rfl,hK.mid,rfl,by rw [hK.len];omega,za,by have:=hK.bl;simp only;omega,fun j hj=>?_,fun j a hj e1 e2=>?_⟩,za⟩
  ·simp only
   rw [hK.oth j om,hoth j om]
   exact hI.rest j om
  ·simp only at e1⊢
   by_cases hjk:j=k
   ·subst hjk
    obtain⟨q1,q2⟩:=hK.nam _ a (zc hk1) e1 e2
    obtain⟨i,g1,hi,g2,g3⟩:=hop q2
    exact⟨i,by rw [hflk,g1],hi,by rw [q1];exact g2 hk1,g3⟩
   ·rw [hK.oth j hjk,hoth j hjk]at e1
    obtain⟨i,g1,hi,g2,g3⟩:=hI.nam j a om e1 e2
    exact⟨i,g1,hi,g2,hfol i g3⟩
 rcases hf.rng k _ hflk with hneg|⟨h1,h2⟩
 ·rw [if_neg (by simp only [decide_eq_true_eq];omega)]
  exact fin al fol 0 hI.mid rfl (fun _ _=>rfl) rfl (fun _ h=>h) ⟨om,om⟩ (fun _=>hw) (fun h=>(h rfl).elim)
 ·rw [if_pos (by simpa using h1)]
  obtain⟨i,hi⟩:∃i:Nat,fl[k]=(i:Int):=⟨fl[k].toNat,om⟩
  have hie:i<es.length:=by omega
  have hif:i<fol.length:=by omega
  rw [hi,kT om om,zb,mB rfl hif,zb,je rfl hie,zb]
  rw [cV (x:=al[k]) om (by rw [Int.toNat_natCast];exact zc hka),zb,zb,Int.toNat_natCast]
  refine Ok.bind (ie hp _) (fun lev hlev=>?_)
  have hl8:=hp.len
  rw [<-hi]
  refine fin _ _ lev (hI.mid.name hka rfl rfl rfl rfl rfl) (by rw [List.length_set]) (fun j hj=>by rw [List.getElem?_set_ne (fun e=>hj e.symm)]) (by rw [List.length_set]) (fun i' h=>set_true hif h) ⟨om,om⟩ (fun h=>by rw [List.getElem_set_self];exact hw) (fun _=>⟨i,hi,hie,fun h=>by rw [List.getElem_set_self],by rw [List.getElem?_set_self hif]⟩)
theorem fw.names{es:List Ev}(h:fw es){i j:Nat}(hi:i<es.length)(hj:j<es.length)(hij:es[i].aq=es[j].aq):i=j:=by
 have hp:=List.pairwise_iff_getElem.1 h.asc
 rcases Nat.lt_trichotomy i j with h1|h1|h1
 ·have:=hp i j hi hj h1;rw [hij]at this;omega
 ·exact h1
 ·have:=hp j i hj hi h1;rw [hij]at this;omega
abbrev Apt(l:List Alert):Prop:=l.Pairwise fun a b=>a.aI=false->b.aI=false->a.aq≠b.aq
structure L2(now:Int)(h0:List Bul)(l:List Alert)(es:List Ev)(fol:List Bool)(i:Nat)(n:Int)(al:List Alert)(bul:List Bul):Prop where
 mid:Mid now al (h0++bul)
 num:n=((h0++bul).length:Int)
 al_:al.length<=l.length+i
 bl:bul.length<=l.length+i
 apt:Apt al
 src:∀a∈al,a.aI=false->∃j:Nat,∃hj:j<es.length,a.aq=es[j].aq∧(fol[j]? =some true∨j<i)
theorem loop2_ok{p:Policy}{es:List Ev}{now:Int}{h0:List Bul}{l:List Alert}{o:Int×Bool×List Alert×List Bool×List Bul}(hp:hJ p)(hes:fw es)(hn0:0<=now)(hn1:now<=1000000)(hl:l.length<=100)(hh:h0.length<=800)(hfo:o.2.2.2.1.length=es.length)
  (h2:L2 now h0 l es o.2.2.2.1 0 o.1 o.2.2.1 o.2.2.2.2) (hf:o.2.1=false):
  Ok (fq (fU es o p now) ((0:Int),o.1,o.2.1,o.2.2.1,o.2.2.2.2)) (fun r=>r.1=false∧∃n,L2 now h0 l es o.2.2.2.1 es.length n r.2.1 r.2.2):=by
 have hel:=hes.len
 refine Ok.loop (fun s=>∃i:Nat,s.1=i∧i<=es.length∧s.2.2.1=false∧L2 now h0 l es o.2.2.2.1 i s.2.1 s.2.2.2.1 s.2.2.2.2) (fun s=>((es.length:Int)-s.1).toNat) ?_ ⟨0,rfl,om,hf,h2⟩
 rintro⟨i',n,full,al,bul⟩ ⟨i,i0,i1,i2,hI⟩
 simp only at i0 i2 hI
 subst i0 i2
 have hal:=hI.al_
 have hbl:=hI.bl
 unfold fU
 refine Ok.jZ (fun hlt=>?_) (fun hge=>?_)
 rotate_left
 ·have:i=es.length:=by omega
  subst this
  exact Ok.st ⟨rfl,n,hI⟩
 have hi:i<es.length:=by omega
 have hlen:(h0++bul).length<1000:=by simp;omega
 have hwi:IntKind.wrap .i64 ((i:Int)+1)=((i+1:Nat):Int):=by rw [w64 om om];omega
 obtain⟨g, -, -,hg⟩:=hes.gen _ (List.getElem_mem hi)
 rw [je rfl hi,zb,kT om om,zb,je rfl (by omega:i<o.2.2.2.1.length),zb,hwi]
 have skip:Ok (some (iN.next (((i+1:Nat):Int),n,false,al,bul))) (Ok.S (fun s:Int×Int×Bool×List Alert×List Bul=>∃i:Nat,s.1=i∧i<=es.length∧s.2.2.1=false∧L2 now h0 l es o.2.2.2.1 i s.2.1 s.2.2.2.1 s.2.2.2.2) (fun s=>((es.length:Int)-s.1).toNat) (fun r:Bool×List Alert×List Bul=>r.1=false∧∃n,L2 now h0 l es o.2.2.2.1 es.length n r.2.1 r.2.2) ((i:Int),n,false,al,bul)):=
  Ok.nx ⟨i+1,rfl,om,rfl,hI.mid,hI.num,za,za,hI.apt,fun a ha hw=>by obtain⟨j,hj,e1,e2⟩:=hI.src a ha hw;exact⟨j,hj,e1,e2.imp id fun h=>om⟩⟩ za
 refine Ok.iteN (fun hno=>?_) (fun _=>skip)
 refine Ok.bind (timely_ok hp _ _) (fun b _=>Ok.iteB (fun _=>?_) (fun _=>skip))
 refine Ok.bind (ie hp _) (fun lev hlev=>?_)
 have hl8:=hp.len
 have hpk:=hg.ok.sol.len
 rw [gT om,zb,So.appO_at (by simp only [List.length_cons,List.length_nil];omega),zb,hI.num,lit1q_at za om om om,zb]
 have hnn:∀b:Bul,((h0++bul).length:Int)+1=((h0++(bul++[b])).length:Int):=fun b=>by simp;omega
 refine Ok.nx ⟨i+1,rfl,om,rfl,?_,hnn _,by simp only [List.length_append,List.length_cons,List.length_nil];omega,by simp only [List.length_append,List.length_cons,List.length_nil];omega,?_,?_⟩ za
 ·simp only
  rw [<-List.append_assoc]
  exact hI.mid.issue hn0 om hlen rfl rfl ⟨za,za⟩ hg.ok rfl
 ·show List.Pairwise _ _
  rw [List.pairwise_append]
  refine⟨hI.apt,List.pairwise_singleton _ _,fun a ha x hx h1 _=>?_⟩
  obtain rfl:=List.mem_singleton.1 hx
  obtain⟨j,hj,e1,e2⟩:=hI.src a ha h1
  simp only
  rw [e1]
  intro e
  have:=hes.names hj hi e
  subst this
  rcases e2 with e2|e2
  ·rw [zc om,hno]at e2;cases e2
  ·omega
 ·intro a ha hw
  simp only at ha
  rcases List.mem_append.1 ha with ha|ha
  ·obtain⟨j,hj,e1,e2⟩:=hI.src a ha hw
   exact⟨j,hj,e1,e2.imp id fun h=>om⟩
  ·obtain rfl:=List.mem_singleton.1 ha
   exact⟨i,hi,rfl,.inr om⟩
theorem step_ok{p:Policy}{es:List Ev}{now:Int}{h0:List Bul}{l:List Alert}(hp:hJ p)(hes:fw es)(hm:Mid now l h0)(hn0:0<=now)(hn1:now<=1000000)(hl:l.length<=100)(hh:h0.length<=800)(hap:Apt l):
  Ok (gR p l (h0.length:Int) es now) (fun r=>r.2.2=0∧Mid now r.1 (h0++r.2.1)∧Apt r.1∧r.1.length<=l.length+4∧r.2.1.length<=l.length+4):=by
 have hel:=hes.len
 have hev:∀e∈es,EvOk e:=fun e he=>by obtain⟨n, -, -,h⟩:=hes.gen e he;exact h.ok
 have hals:AlsOk now l:=⟨om,hm.mat.ids,fun a ha=>by have:=(hm.als a ha).1;omega,fun a ha=>(hm.als a ha).2.2.2,hap⟩
 have hfew:Few l:=⟨om,fun a ha=>by have:=(hm.als a ha).2.2.1.sol.len;omega⟩
 unfold gR
 rw [refused_at hp hes hals (fun a ha=>(hm.als a ha).1.2) om hn0 om,zb,if_neg sm,all_at hfew,zb]
 refine Ok.bind (Ok.mk om om om) (fun x4 h4=>?_)
 rw [Int.toNat_natCast]at h4
 subst h4
 refine Ok.bind (follow_ok om om hap hfew.2 (fun e he=>by have:=(hev e he).sol.len;omega)) (fun fl hfl=>?_)
 refine Ok.bind (loop1_ok hp hev hel hm hn0 hn1 hl hh hfl) (fun o ho=>?_)
 obtain⟨hf,h1⟩:=ho
 have hal:=h1.al_
 have hbl:=h1.bl
 have h2:L2 now h0 l es o.2.2.2.1 0 o.1 o.2.2.1 o.2.2.2.2:=by
  have hnam:∀j(hj:j<o.2.2.1.length),o.2.2.1[j].aI=false->∃i:Nat,fl[j]? =some (i:Int)∧∃hi:i<es.length,o.2.2.1[j].aq=es[i].aq∧o.2.2.2.1[i]? =some true:=fun j hj hw=>h1.nam j _ om (zc hj) hw
  refine⟨h1.mid,h1.num,om,om,?_,fun a ha hw=>?_⟩
  ·show List.Pairwise _ _
   rw [List.pairwise_iff_getElem]
   intro j k hj hk hjk w1 w2 e
   obtain⟨i,a1,hi,a2, -⟩:=hnam j hj w1
   obtain⟨i',b1,hi',b2, -⟩:=hnam k hk w2
   rw [a2,b2]at e
   have:=hes.names hi hi' e
   subst this
   have:=hfl.inj j k _ hjk a1 b1
   omega
  ·obtain⟨j,hj,rfl⟩:=List.getElem_of_mem ha
   obtain⟨i, -,hi,a2,a3⟩:=hnam j hj hw
   exact⟨i,hi,a2,.inl a3⟩
 refine Ok.bind (loop2_ok hp hes hn0 hn1 hl hh h1.fo h2 hf) (fun r hr=>?_)
 obtain⟨r1,n,r2⟩:=hr
 have a1:=r2.al_
 have a2:=r2.bl
 rw [if_neg (by simp only [decide_eq_true_eq];omega),if_neg (by simp [r1])]
 exact Ok.ret ⟨rfl,r2.mid,r2.apt,za,za⟩
end Go.Dw.Fa
set_option maxRecDepth 100000
set_option maxHeartbeats 4000000
namespace Go.Dw.Fa
open Go.Dw Go.Lib
theorem awake_at:d7=some true:=law37_awake_le _ (by kernel_rfl)
theorem sameEv_self{e:Ev}(h:e.aa.aB.length<=1000000):bO e e=some true:=by
 unfold bO
 rw [if_pos sm]
 unfold eT
 rw [il h,zb,if_pos rfl,if_pos sm,if_pos sm]
 simp
theorem steps_ok{x2:Policy×Src}(hp:hJ x2.1)(hd:ca x2.2):Ok (fq (dp x2) (([]:List Alert),(1000:Int),(0:Int),x2.2.fL,x2.2.fAt,([]:List Bul)))
  (fun o=>∃l h,o= .inl (l,h)∧Mid 1000000 l h∧l.length<=100∧h.length<=1000):=by
 refine Ok.loop (fun s=>(0<=s.2.2.1∧s.2.2.1<=7)∧ca ⟨s.2.2.2.1,s.2.2.2.2.1⟩∧(1000<=s.2.1∧s.2.1<=1000+300*s.2.2.1)∧Mid s.2.1 s.1 s.2.2.2.2.2∧Apt s.1∧(s.1.length:Int)<=4*s.2.2.1∧(s.2.2.2.2.2.length:Int)<=32*s.2.2.1) (fun s=>(7-s.2.2.1).toNat) ?_
  ⟨sm,hd,sm,⟨⟨.nil,sm,sm⟩,.nil,sm,sm⟩,.nil,sm,sm⟩
 rintro⟨l,now,i,L,A,h⟩ ⟨⟨i0,i1⟩,i2,⟨n0,n1⟩,hm,hap,hl,hh⟩
 simp only at i0 i1 i2 n0 n1 hm hap hl hh
 unfold dp
 refine Ok.jZ (fun hlt=>?_) (fun _=>Ok.st ⟨l,h,rfl,hm.later om,om,om⟩)
 refine Ok.bind (eu _ _ i2 om om) (fun x13 h13=>?_)
 refine Ok.bind (events_gen _ h13.2.2) (fun x14 h14=>?_)
 rw [w64 (n:=now+x13.1) om om,w64 (n:=i+1) om om]
 refine Ok.bind (step_ok hp h14.1 (hm.later om) om om om om hap) (fun r hr=>?_)
 obtain⟨r1,r2,r3,r4,r5⟩:=hr
 refine Ok.iteNe (fun e=>(e r1).elim) (fun _=>?_)
 refine Ok.bind (Ok.app om) (fun y hy=>?_)
 subst hy
 exact Ok.nx ⟨za,h14.2,za,r2,r3,za,by simp only [List.length_append];omega⟩ za
theorem FeedAlerts_law(a0:List Int)(a1:Int):eS a0 a1=some true:=by
 refine Ok.eq ?_
 unfold eS
 refine Ok.bind (new_ok a0) (fun d hd=>?_)
 refine Ok.bind (policy_gen d hd) (fun x2 h2=>?_)
 refine Ok.bind (steps_ok h2.1 h2.2) (fun o ho=>?_)
 obtain⟨l,h,rfl,hm,hl,hh⟩:=ho
 have hpk:∀b∈h,b.aj.aa.aB.length<=1000000:=fun b hb=>by have:=(hm.hist.buls b hb).ev.sol.len;omega
 dsimp only
 rw [history_ok hm.hist om,zb,if_neg sm,w64 om om]
 refine Ok.bind (mod_ok a1 _ om om) (fun x24 h24=>?_)
 refine Ok.bind (Ok.cut om h24.1 om) (fun x25 h25=>?_)
 have h25':x25=h.take x24.toNat:=by rw [h25];simp
 subst h25'
 rw [history_ok (hm.hist.take _) so,zb,if_neg sm]
 have hfew:Few l:=⟨om,fun a ha=>by have:=(hm.als a ha).2.2.1.sol.len;omega⟩
 rw [open_at hfew,zb]
 obtain⟨c,e1,e2,e3⟩:=current_open hm.mat om hpk
 rw [e1,zb]
 refine Ok.iteNe (fun e=>om) (fun _=>?_)
 generalize hO:(l.filter fun a=> !a.aI)=O at e2 e3
 have hOl:O.length<=100:=by subst hO;exact Nat.le_trans (List.length_filter_le _ _) hl
 rw [gN O (u:= .inl ())]
 ·simp only [zb]
  rw [awake_at]
  exact Ok.ret rfl
 ·intro i hi
  have hc:i<c.length:=by omega
  obtain⟨q1,q2,q3,q4,q5⟩:=e3 i hi hc
  unfold dq
  rw [if_pos so,je rfl hc,zb,je rfl hi,zb,zb,zb,zb,if_neg (by simp [q1]),if_neg (by simp [q2]),if_neg (by simp [q3]), <-q4,sameEv_self (hpk _ q5),zb,if_neg sm,w64 om om]
  simp
 ·unfold dq
  rw [if_neg sm]
end Go.Dw.Fa
