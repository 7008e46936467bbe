
import Derived.Test.YthadlbjoiidkjaaGreatDoorFcCo
import Derived.Test.YthadlbjoiidkjaaGreatDoorDwOk
import Derived.Test.YthadlbjoiidkjaaGreatDoorDwText
import Derived.Test.YthadlbjoiidkjaaGreatDoorFcFn
import Derived.Test.YthadlbjoiidkjaaGreatDoorDwSortC
import Derived.Test.YthadlbjoiidkjaaGreatDoorDwIns

set_option maxRecDepth 100000
set_option maxHeartbeats 4000000
namespace Go.Dw.Fc
open Go.Dw
abbrev Src:=aq
abbrev Pick:=ag
abbrev Sid:=au
abbrev Ev:=av
abbrev Bul:=aj
abbrev Alert:=aM
abbrev Policy:=aQ
theorem mod_ok(a b:Int)(h0:1<=b)(h1:b<=1000000000):Ok (kO a b) (fun r=>0<=r∧r<b):=by
 unfold kO
 have hl:a.tmod b<b:=Int.tmod_lt_of_pos _ za
 have hg: -b<a.tmod b:=by
  rcases Int.le_total 0 a with h|h
  ·have:=Int.tmod_nonneg b h;omega
  ·have e:a.tmod b= -((-a).tmod b):=by rw [Int.neg_tmod];omega
   have:=Int.tmod_lt_of_pos (-a) (show 0<b by omega)
   omega
 refine Ok.pM (fun _=>za) (fun _=>?_)
 refine Ok.bind (Ok.rem za) (fun x hx=>?_)
 subst hx
 refine Ok.pM (fun _=>?_) (fun _=>?_)
 ·rw [w64 za za]
  exact Ok.ret za
 ·exact Ok.ret za
def dw(d:Src):Prop:=0<=d.fAt∧d.fAt<=d.fL.length∧d.fL.length<=2000
theorem raw_ok(d:Src)(hd:dw d):Ok (Src_Raw d) (fun r=>dw r.2):=by
 obtain⟨h0,h1,h2⟩:=hd
 unfold Src_Raw
 refine Ok.pM (fun _=>Ok.ret ⟨h0,h1,h2⟩) (fun h=>?_)
 rw [w64 (n:=d.fAt+1) za za,w64 za za]
 refine Ok.bind (Ok.get za za) (fun x _=>?_)
 refine Ok.ret ⟨?_,?_,h2⟩<;>simp only<;>omega
theorem k7(k:Int)(d:Src)(hd:dw d)(h0:1<=k)(h1:k<=1000000000):Ok (ff k d) (fun r=>0<=r.1∧r.1<k∧dw r.2):=by
 unfold ff
 refine Ok.bind (raw_ok d hd) (fun x hx=>?_)
 refine Ok.bind (mod_ok _ _ h0 h1) (fun y hy=>?_)
 exact Ok.ret ⟨hy.1,hy.2,hx⟩
theorem pu(l:List Int)(d:Src)(hd:dw d)(h0:l≠ [])(h1:l.length<=1000000):Ok (jG l d) (fun r=>r.1∈l∧dw r.2):=by
 unfold jG
 have:=List.length_pos_iff.2 h0
 refine Ok.bind (k7 _ d hd za za) (fun x hx=>?_)
 refine Ok.bind (Ok.get hx.1 hx.2.1) (fun y hy=>?_)
 exact Ok.ret ⟨hy.1,hx.2.2⟩
def stas:List (List UInt8):=[[83,49],[83,50],[83,51],[83,52],[83,53],[83,54]]
def IsSid(a:Sid):Prop:=∃x∈stas,a=⟨[65,66],x,[48,48],[66,72,90]⟩
theorem source_ok(n:Int):Ok (fM n) IsSid:=by
 unfold fM
 refine Ok.bind (mod_ok n 6 za za) (fun x hx=>?_)
 refine Ok.bind (Ok.get hx.1 hx.2) (fun y hy=>?_)
 exact Ok.ret ⟨y,hy.1,rfl⟩
theorem new_ok(l:List Int):Ok (pn l) dw:=by
 unfold pn
 refine Ok.bind (Ok.cut za (by split<;>omega) (by split<;>omega)) (fun x hx=>?_)
 subst hx
 refine Ok.ret ⟨sm,sm,?_⟩
 simp only [List.length_take,List.length_drop]
 split<;>omega
theorem policy_ok(d:Src)(hd:dw d):Ok (my d) (fun r=>r.1.ce.length<=8∧dw r.2):=by
 unfold my
 refine Ok.bind (pu _ d hd sm sm) (fun x1 h1=>?_)
 refine Ok.bind (pu _ _ h1.2 sm sm) (fun x2 h2=>?_)
 refine Ok.bind (k7 _ _ h2.2 za za) (fun x3 h3=>?_)
 rw [w64 za za]
 refine Ok.bind (P:=fun o=>dw ⟨o.1,o.2.1⟩∧o.2.2.length<=8) (Ok.loop (fun s=>0<=s.1∧s.1+s.2.2.2.length<=3∧dw ⟨s.2.1,s.2.2.1⟩) (fun s=>s.1.toNat) ?_ ⟨zb,by simp only [List.length_nil];omega,h3.2.2⟩) ?_
 ·rintro⟨s4,s5,s6,s7⟩ ⟨i0,i1,i2⟩
  simp only at i0 i1 i2
  unfold nr
  refine Ok.pM (fun _=>?_) (fun _=>?_)
  ·refine Ok.bind (k7 _ _ i2 za za) (fun y1 g1=>?_)
   refine Ok.bind (k7 _ _ g1.2.2 za za) (fun y2 g2=>?_)
   refine Ok.bind (pu _ _ g2.2.2 sm sm) (fun y3 g3=>?_)
   refine Ok.bind (pu _ _ g3.2 sm sm) (fun y4 g4=>?_)
   refine Ok.bind (Ok.app (by simp only [List.length_cons,List.length_nil];omega)) (fun y5 g5=>?_)
   subst g5
   rw [w64 (n:=s4-1) za za]
   exact Ok.nx ⟨zb,by simp only [List.length_append,List.length_cons,List.length_nil];omega,g4.2⟩ zb
  ·exact Ok.st ⟨i2,zb⟩
 ·intro o ho
  exact Ok.ret ⟨ho.2,ho.1⟩
def gn(p:Pick):Prop:=IsSid p.ar∧0<=p.aZ∧p.aZ<=p.aP∧p.aP<=p.bg∧p.bg<=1000000∧0<=p.aI∧p.aI<=1000∧ -1<=p.aL∧p.aL<=1
def fC(n:Int):Prop:= -1000000<=n∧n<=1000000
def PosOk(p:ai):Prop:=fC p.fX∧fC p.fY∧fC p.fZ
structure SolOk(s:az):Prop where
 picks:∀p∈s.aX,gn p
 len:s.aX.length<=4
 len1:1<=s.aX.length
 point:PosOk s.ac.aO
 low:PosOk s.ac.aF.aW
 high:PosOk s.ac.aF.aN
 time:fC s.ac.aP
 misfit:fC s.ac.bc
 lower:fC s.ac.bu
 mlow:fC s.aA.aW
 mhigh:fC s.aA.aN
 count:fC s.bn
structure EvOk(e:Ev):Prop where
 name:gn e.ap
 sol:SolOk e.aa
theorem place_ok(d:Src)(hd:dw d):Ok (n8 20 d) (fun r=>PosOk r.1∧dw r.2):=by
 unfold n8
 rw [w64 (n:=2*20) za za,w64 (n:=2*20+1) za za,w64 (n:=20+1) za za]
 refine Ok.bind (k7 _ _ hd za za) (fun y1 g1=>?_)
 refine Ok.bind (k7 _ _ g1.2.2 za za) (fun y2 g2=>?_)
 refine Ok.bind (k7 _ _ g2.2.2 za za) (fun y3 g3=>?_)
 rw [w64 (n:=y1.1-20) za za,w64 (n:=y2.1-20) za za]
 refine Ok.ret ⟨⟨?_,?_,?_⟩,g3.2.2⟩<;>unfold fC<;>simp only<;>omega
theorem event_ok(d:Src)(hd:dw d):Ok (n7 1 d) (fun r=>EvOk r.1∧dw r.2):=by
 unfold n7
 refine Ok.bind (k7 _ _ hd za za) (fun x1 h1=>?_)
 have hw:IntKind.wrap .i64 ((1000:Int)+x1.1)=1000+x1.1:=w64 za za
 refine Ok.bind (P:=fun o=>dw ⟨o.1,o.2.1⟩∧(1<=o.2.2.length∧o.2.2.length<=4)∧∀p∈o.2.2,gn p) (Ok.loop (fun s=>0<=s.1∧s.1=s.2.2.2.length∧s.1<=4∧dw ⟨s.2.1,s.2.2.1⟩∧∀p∈s.2.2.2,gn p) (fun s=>(4-s.1).toNat) ?_ ⟨sm,sm,sm,h1.2.2,sm⟩) ?_
 ·rintro⟨s2,s3,s4,s5⟩ ⟨i0,i1,i2,i3,i4⟩
  simp only at i0 i1 i2 i3 i4
  unfold lx
  refine Ok.bind (k7 _ _ i3 za za) (fun y1 g1=>?_)
  rw [w64 (n:=1+y1.1) za za]
  refine Ok.pM (fun hlt=>?_) (fun hlt=>?_)
  ·refine Ok.bind (source_ok s2) (fun y2 g2=>?_)
   refine Ok.bind (k7 _ _ g1.2.2 za za) (fun y3 g3=>?_)
   refine Ok.bind (Ok.app (by simp only [List.length_cons,List.length_nil];omega)) (fun y5 g5=>?_)
   subst g5
   rw [hw,w64 (n:=10*1) za za,w64 (n:=1000+x1.1+10*1) za za,w64 (n:=1000+x1.1+10*1+y3.1) za za,w64 (n:=s2+1) za za]
   refine Ok.nx ⟨zb,by simp only [List.length_append,List.length_cons,List.length_nil];omega,zb,g3.2.2,?_⟩ zb
   intro p hp
   rcases List.mem_append.1 hp with hp|hp
   ·exact i4 p hp
   ·obtain rfl:=List.mem_singleton.1 hp
    refine⟨g2,?_⟩
    simp only
    omega
  ·refine Ok.st ⟨g1.2.2,zb,i4⟩
 ·intro o ho
  obtain⟨h2,h3,h4⟩:=ho
  refine Ok.bind (Ok.xG za za) (fun _ _=>?_)
  refine Ok.bind (Ok.get za za) (fun x19 h19=>?_)
  refine Ok.bind (place_ok _ h2) (fun x20 h20=>?_)
  refine Ok.bind (k7 _ _ h20.2 za za) (fun x21 h21=>?_)
  refine Ok.bind (pu _ _ h21.2.2 sm sm) (fun x22 h22=>?_)
  have hm:fC x22.1:=by
   have:=h22.1
   simp only [List.mem_cons,List.not_mem_nil,or_false]at this
   unfold fC;omega
  refine Ok.bind (k7 _ _ h22.2 za za) (fun x23 h23=>?_)
  rw [hw,w64 (n:=1000+x1.1-x21.1) za za]
  refine Ok.pM (fun hlt=>?_) (fun hlt=>?_)
  ·refine Ok.bind (k7 _ _ h23.2.2 za za) (fun x25 h25=>?_)
   refine Ok.bind (k7 _ _ h25.2.2 za za) (fun x26 h26=>?_)
   rw [w64 (n:=x25.1+x26.1) za za]
   exact Ok.ret ⟨⟨h4 _ h19.1,⟨h4,h3.2,h3.1,h20.1,h20.1,h20.1,by unfold fC;simp only;omega,hm,by unfold fC;simp only;omega,by unfold fC;simp only;omega,by unfold fC;simp only;omega,by unfold fC;simp only;omega⟩⟩,h26.2.2⟩
  ·exact Ok.ret ⟨⟨h4 _ h19.1,⟨h4,h3.2,h3.1,h20.1,h20.1,h20.1,by unfold fC;simp only;omega,hm,by unfold fC;simp only;omega,by unfold fC;simp only;omega,by unfold fC;simp only;omega,by unfold fC;simp only;omega⟩⟩,h23.2.2⟩
end Go.Dw.Fc
set_option maxRecDepth 100000
set_option maxHeartbeats 4000000
namespace Go.Dw.Fc
open Go.Dw Go.Lib
abbrev Wd:=List UInt8
def fmt(a:Sid):List UInt8:=a.aT++[46]++a.aU++[46]++a.ac++[46]++a.aS
def chk1(a:Sid):Bool:=decide (eP a=some true)&&decide (gM a=some (fmt a,0))&&decide (iT (fmt a)=some (a,0))&&decide ((32:UInt8)∉fmt a∧(fmt a).length<=100)
theorem chk1_all:(stas.all fun t=>chk1 ⟨[65,66],t,[48,48],[66,72,90]⟩)=true:=by kernel_rfl
theorem chk1_at{a:Sid}(h:IsSid a):fe a=some true∧gE a=some (fmt a,0)∧iS (fmt a)=some (a,0)∧(32:UInt8)∉fmt a∧(fmt a).length<=100:=by
 obtain⟨x,hx,rfl⟩:=h
 have h:=List.all_eq_true.1 chk1_all x hx
 simp only [chk1,Bool.and_eq_true,decide_eq_true_eq]at h
 obtain⟨⟨⟨h1,h2⟩,h3⟩,h4⟩:=h
 exact⟨gO _ _ h1,mq _ _ h2,ng _ _ h3,h4⟩
def big(n:Int):Prop:= -9223372036854775808<=n∧n<=9223372036854775807
theorem word_read(w:Wd)(ws:List Wd)(b:Bool)(hl:ws.length<=1000000000):fQ ⟨w::ws,b⟩=some (w,⟨ws,b⟩):=by
 unfold fQ
 have h0:(((w::ws).length:Int)==0)=false:=by simp;omega
 simp only [h0,Bool.false_eq_true,if_false]
 rw [p7 (n:=0) (i:=0) rfl sm]
 obtain⟨r,h1,h2⟩:=Ok.cut (l:=w::ws) (a:=1) (b:=((w::ws).length:Int)) za so za
 rw [zc,h1,zc]
 subst h2
 simp
theorem bI{n:Int}(h:big n)(ws:List Wd)(hl:ws.length<=1000000000):bk ⟨itoa n::ws,false⟩=some (n,⟨ws,false⟩):=by
 obtain⟨h0,h1⟩:=h
 unfold bk
 rw [word_read _ _ _ hl,zc]
 simp only [Bool.false_eq_true,if_false]
 rw [AK za za,zc]
 simp only [Bool.not_true,Bool.false_eq_true,if_false]
 rw [Ak za za,zc]
 simp
def bG(p:Pick):List Wd:=fmt p.ar::[itoa p.aP,itoa p.aZ,itoa p.bg,itoa p.aI,itoa p.aL]
theorem pick_read{p:Pick}(hp:gn p)(ws:List Wd)(hl:ws.length<=100000000):fP ⟨bG p++ws,false⟩=some (p,⟨ws,false⟩):=by
 obtain⟨hs,h1,h2,h3,h4,h5,h6,h7,h8⟩:=hp
 obtain⟨-, -,f3, -⟩:=chk1_at hs
 unfold fP bG
 simp only [List.cons_append,List.nil_append]
 rw [word_read _ _ _ (by simp only [List.length_cons];omega),zc]
 simp only [f3,zc,Bool.false_eq_true,if_false]
 have e:((0:Int) != 0)=false:=rfl
 rw [e,bI (by unfold big;omega) _ (by simp only [List.length_cons];omega),zc]
 rw [bI (by unfold big;omega) _ (by simp only [List.length_cons];omega),zc]
 rw [bI (by unfold big;omega) _ (by simp only [List.length_cons];omega),zc]
 rw [bI (by unfold big;omega) _ (by simp only [List.length_cons];omega),zc]
 rw [bI (by unfold big;omega) _ za,zc]
theorem picks_read:∀(l:List Pick)(ws:List Wd)(acc:List Pick),(∀p∈l,gn p)->l.length<=1000000->ws.length<=1000000->acc.length+l.length<=1000000->
  kG d7 ((l.length:Int),l.flatMap bG++ws,false,acc)=some (ws,false,acc++l)
 | [],ws,acc,_,_,_,_=>by
  refine qx ?_
  simp [d7]
 |p::l,ws,acc,hp,hl,hw,ha=>by
  simp only [List.length_cons]at hl ha
  have hfl:(l.flatMap bG).length=6*l.length:=by
   clear hp hl hw ha
   induction l with
   |nil=>rfl
   |cons a l ih=>rw [List.flatMap_cons,List.length_append,ih];simp [bG];omega
  rw [rq (s':=((l.length:Int),l.flatMap bG++ws,false,acc++[p]))]
  ·rw [picks_read l ws (acc++[p]) (fun q hq=>hp q (by simp [hq])) za hw so]
   simp
  ·unfold d7
   simp only
   rw [if_pos (decide_eq_true (by simp only [List.length_cons];omega))]
   simp only [Bool.not_false,if_true]
   rw [List.flatMap_cons,List.append_assoc,pick_read (hp p sm) _ (by rw [List.length_append,hfl];omega),zc]
   obtain⟨r,h1,h2⟩:=Ok.app (l:=acc) (m:=[p]) (b:=104) (by simp only [List.length_cons,List.length_nil];omega)
   rw [h1,zc,h2,w64 (by simp only [List.length_cons];omega) (by simp only [List.length_cons];omega)]
   congr 3
   simp only [List.length_cons];omega
def mH(p:ai):List Int:=[p.fX,p.fY,p.fZ]
def iR(s:az):List Int:=mH s.ac.aO++([s.ac.aP,s.ac.bc,s.ac.bu]++(mH s.ac.aF.aW++(mH s.ac.aF.aN++[s.aA.aW,s.aA.aN,s.bn])))
theorem grow_at{n:Int}(h0:0<=n)(h1:n<=1000000):d9 n=some []:=by
 unfold d9
 rw [if_neg so,w64 za za]
 by_cases h:n=0
 ·subst h;rfl
 ·rw [if_pos so]
  obtain⟨r,g1,g2⟩:=Ok.mkz (n:=n-0) (z:=(0:Int)) (b:=8) za za za
  rw [g1,zc]
  obtain⟨u,g3, -⟩:=Ok.sub (n:=r.length) (lo:=0) (hi:=0) za za za
  rw [g3,zc]
  simp [cY]
theorem concat_l8:∀(k:Nat)(l:List (List Int))(i:Nat)(s:Int),i+k=l.length->0<=s->(∀x∈l,x.length<=1000)->l.length<=100->s<=1000*i->
  ∃o,kG (cw l) (s,(i:Int))=some o∧0<=o∧o<=1000*l.length:=by
 intro k
 induction k with
 |zero=>
  intro l i s hi h0 hx hl hs
  refine⟨s,qx ?_,h0,za⟩
  unfold cw
  simp only
  rw [if_neg so]
 |succ k ih=>
  intro l i s hi h0 hx hl hs
  have hlt:i<l.length:=by omega
  have hx':=hx l[i] (List.getElem_mem _)
  rw [rq (s':=(s+(l[i].length:Int),((i+1:Nat):Int)))]
  ·exact ih l (i+1) _ za za hx hl za
  ·unfold cw
   simp only
   rw [if_pos so,p7 rfl hlt,zc,w64 za za,if_neg so,w64 (n:=(i:Int)+1) za za]
   simp
theorem concat_l18:∀(k:Nat)(l:List (List Int))(i:Nat)(s:List Int),i+k=l.length->(∀x∈l,x.length<=1000)->l.length<=100->s.length<=1000*i->
  kG (ck l) ((i:Int),s)=some (s++(l.drop i).flatten):=by
 intro k
 induction k with
 |zero=>
  intro l i s hi hx hl hs
  rw [List.drop_of_length_le za]
  simp only [List.flatten_nil,List.append_nil]
  refine qx ?_
  unfold ck
  simp only
  rw [if_neg so]
 |succ k ih=>
  intro l i s hi hx hl hs
  have hlt:i<l.length:=by omega
  have hx':=hx l[i] (List.getElem_mem _)
  rw [List.drop_eq_getElem_cons hlt,List.flatten_cons, <-List.append_assoc]
  rw [rq (s':=(((i+1:Nat):Int),s++l[i]))]
  ·exact ih l (i+1) _ za hx hl (by rw [List.length_append];omega)
  ·unfold ck
   simp only
   obtain⟨r,h1,h2⟩:=Ok.app (l:=s) (m:=l[i]) (b:=8) za
   rw [if_pos so,p7 rfl hlt,zc,h1,zc,h2,w64 (n:=(i:Int)+1) za za]
   simp
theorem concat_at{l:List (List Int)}(hx:∀x∈l,x.length<=1000)(hl:l.length<=100):cA l=some l.flatten:=by
 unfold cA
 obtain⟨o,h1,h2,h3⟩:=concat_l8 l.length l 0 0 za za hx hl za
 have h4:=concat_l18 l.length l 0 [] za hx hl sm
 simp only [Int.ofNat_zero,Int.natCast_zero,List.drop_zero,List.nil_append]at h1 h4
 rw [h1,zc,grow_at h2 za,zc,h4,zc]
theorem mG(s:az):eW s=some (iR s):=by
 unfold eW dA
 simp only [zc]
 rw [concat_at sm sm,zc]
 simp [iR,mH]
theorem mX{l:List Int}{d:List Wd}(h:∀n∈l,big n)(hl:l.length<=1000000)(hd:d.length<=1000000):bV l d=some (d++l.map itoa):=by
 have key:∀k i:Nat,i+k=l.length->∀acc:List Wd,acc.length<=1000000+i->kG (cJ l) ((i:Int),acc)=some (acc++(l.drop i).map itoa):=by
  intro k
  induction k with
  |zero=>
   intro i hi acc ha
   rw [List.drop_of_length_le za]
   simp only [List.map_nil,List.append_nil]
   refine qx ?_
   unfold cJ
   simp only
   rw [if_neg so];rfl
  |succ k ih=>
   intro i hi acc ha
   have hlt:i<l.length:=by omega
   have hb:=h l[i] (List.getElem_mem _)
   obtain⟨b0,b1⟩:=hb
   rw [List.drop_eq_getElem_cons hlt,List.map_cons,rq (s':=(((i+1:Nat):Int),acc++[itoa l[i]]))]
   ·rw [ih (i+1) za _ so];simp
   ·unfold cJ
    simp only
    obtain⟨r,h1,h2⟩:=Ok.app (l:=acc) (m:=[itoa l[i]]) (b:=16) (by simp only [List.length_cons,List.length_nil];omega)
    rw [if_pos so,p7 rfl hlt,zc,Ak za za,zc,h1,zc,h2,w64 za za]
    simp
 have:=key l.length 0 za d za
 unfold bV
 rw [show((0:Nat):Int)=0 from rfl]at this
 rw [this];simp
theorem writer_eq(l:List Int):dE l=bV l []:=rfl
theorem writer_at{l:List Int}(h:∀n∈l,big n)(hl:l.length<=1000000):dE l=some (l.map itoa):=by
 rw [writer_eq,mX h hl sm];simp
theorem nZ{p:Pick}{d:List Wd}(hp:gn p)(hd:d.length<=900000):em p d=some (d++bG p):=by
 obtain⟨hs,h1,h2,h3,h4,h5,h6,h7,h8⟩:=hp
 obtain⟨-,f2, -⟩:=chk1_at hs
 unfold em
 rw [f2,zc]
 obtain⟨r,g1,g2⟩:=Ok.app (l:=d) (m:=[fmt p.ar]) (b:=16) (by simp only [List.length_cons,List.length_nil];omega)
 rw [g1, zc, g2, mX (by
  intro n hn
  unfold big
  simp only [List.mem_cons,List.not_mem_nil,or_false]at hn
  omega) sm so,zc]
 simp [bG]
end Go.Dw.Fc
set_option maxRecDepth 100000
set_option maxHeartbeats 4000000
namespace Go.Dw.Fc
open Go.Dw Go.Lib
structure pc(b:Bul):Prop where
 num0:0<=b.bv
 num1:b.bv<1000
 kind0:1<=b.bX
 kind1:b.bX<=3
 id0:0<=b.fID
 id1:b.fID<=b.bv
 iss:b.fID=b.bv↔b.bX=1
 lev0:0<=b.bw
 lev1:b.bw<=8
 at0:0<=b.fAt
 at1:b.fAt<=1000000
 ev:EvOk b.ah
theorem l8{α ω:Type}{body:Int->Option (oJ Int ω)}(l:List α){u:ω}(h1:∀(i:Nat)(_:i<l.length),body i=some (.next ((i+1:Nat):Int)))
  (h2:body (l.length:Nat)=some (.stop u)):kG body (0:Int)=some u:=by
 have:∀k i,i+k=l.length->kG body (i:Int)=some u:=by
  intro k
  induction k with
  |zero=>
   intro i hi
   obtain rfl:i=l.length:=by omega
   exact qx h2
  |succ k ih=>
   intro i hi
   rw [rq (h1 i za),ih (i+1) za]
 exact this l.length 0 za
theorem pG{p:Pick}(hp:gn p):cv p=some true:=by
 obtain⟨hs,h1,h2,h3,h4,h5,h6,h7,h8⟩:=hp
 unfold cv kC
 rw [(chk1_at hs).1,zc,if_pos rfl,if_pos so,if_pos so,if_pos so,if_pos so,if_pos so]
 have e1:decide (p.aI<=1073741823)=true:=decide_eq_true za
 have e2:decide (p.aL<=1)=true:=decide_eq_true za
 rw [e1,zc,if_pos rfl,if_pos so,e2]
 rfl
theorem containsPick_at{l:List Pick}(h:∀p∈l,gn p)(hl:l.length<=1000000):bB l=some false:=by
 unfold bB bP
 rw [l8 l (u:= .inl ())]
 ·rfl
 ·intro i hi
  unfold bC dh
  rw [if_pos so,p7 rfl hi,zc,pG (h _ (List.getElem_mem _)),w64 za za]
  simp
 ·unfold bC
  rw [if_neg sm]
theorem within_at{l:List Int}(h:∀n∈l, -1152921504606846976<=n∧n<=1152921504606846976)(hl:l.length<=1000000):ec l=some true:=by
 unfold ec bT ci
 rw [l8 l (u:= .inl ())]
 ·rfl
 ·intro i hi
  have hb:=h l[i] (List.getElem_mem _)
  unfold bU eJ
  rw [if_pos so,p7 rfl hi,zc,if_neg so,zc,if_neg so,w64 za za]
  simp
 ·unfold bU
  rw [if_neg sm]
theorem mU{s:az}(h:SolOk s):∀n∈iR s,fC n:=by
 obtain⟨-, -, -,⟨a1,a2,a3⟩,⟨b1,b2,b3⟩,⟨c1,c2,c3⟩,d1,d2,d3,d4,d5,d6⟩:=h
 intro n hn
 simp only [iR,mH,List.cons_append,List.nil_append,List.mem_cons,List.not_mem_nil,or_false]at hn
 rcases hn with rfl|rfl|rfl|rfl|rfl|rfl|rfl|rfl|rfl|rfl|rfl|rfl|rfl|rfl|rfl<;>assumption
theorem jR(s:az):(iR s).length=15:=rfl
theorem valid_at{b:Bul}(h:pc b):eu b=some true:=by
 obtain⟨h1,h2,h3,h4,h5,h6,h7,h8,h9,h10,h11,h12⟩:=h
 have hk:(!((b.fID==b.bv)==(b.bX==(1:Int))))=false:=by
  by_cases e:b.fID=b.bv
  ·simp [e,h7.1 e]
  ·have:b.bX≠1:=fun e'=>e (h7.2 e')
   rw [beq_eq_false_iff_ne.2 e,beq_eq_false_iff_ne.2 this];rfl
 have hl:=h12.sol.len
 unfold eu
 rw [if_neg so,if_neg so,if_neg so,if_neg so,if_neg so,if_neg so,if_neg (by rw [hk];simp),if_neg so,if_neg so,if_neg so]
 rw [pG h12.name,zc,if_neg sm,containsPick_at h12.sol.picks za,zc,if_neg sm]
 rw [within_at so sm, zc, if_pos rfl, mG, zc, within_at (fun n hn => by
  have:=mU h12.sol n hn
  unfold fC at this;omega) (by rw [jR];omega)]
 rfl
def words(b:Bul):List Wd:=[b.bv,b.bX,b.fID,b.fAt,b.bw].map itoa++(bG b.ah.ap++([(b.ah.aa.aX.length:Int)].map itoa++(b.ah.aa.aX.flatMap bG++(iR b.ah.aa).map itoa)))
def text(b:Bul):List UInt8:=Lib.join (words b) [32]
theorem pl:∀(l:List Pick),(l.flatMap bG).length=6*l.length
 | []=>rfl
 |a::l=>by rw [List.flatMap_cons,List.length_append,pl l];simp [bG];omega
theorem pq{p:Pick}(hp:gn p):∀w∈bG p,(32:UInt8)∉w∧w.length<=100:=by
 obtain⟨hs,h1,h2,h3,h4,h5,h6,h7,h8⟩:=hp
 have hc:=(chk1_at hs).2.2.2
 have hi:∀n:Int,big n->(32:UInt8)∉itoa n∧(itoa n).length<=100:=fun n hn=>⟨Bn (.inl (by decide)),by have:=yj hn.1 hn.2;omega⟩
 intro w hw
 simp only [bG,List.mem_cons,List.not_mem_nil,or_false]at hw
 rcases hw with rfl|rfl|rfl|rfl|rfl|rfl
 ·exact hc
 all_goals exact hi _ (by unfold big;omega)
theorem words_ok{b:Bul}(h:pc b):∀w∈words b,(32:UInt8)∉w∧w.length<=100:=by
 obtain⟨h1,h2,h3,h4,h5,h6,h7,h8,h9,h10,h11,h12⟩:=h
 have hi:∀n:Int,big n->(32:UInt8)∉itoa n∧(itoa n).length<=100:=fun n hn=>⟨Bn (.inl (by decide)),by have:=yj hn.1 hn.2;omega⟩
 have hl:=h12.sol.len
 intro w hw
 simp only [words,List.mem_append]at hw
 rcases hw with hw|hw|hw|hw|hw
 ·simp only [List.map_cons,List.map_nil,List.mem_cons,List.not_mem_nil,or_false]at hw
  rcases hw with rfl|rfl|rfl|rfl|rfl<;>exact hi _ (by unfold big;omega)
 ·exact pq h12.name w hw
 ·simp only [List.map_cons,List.map_nil,List.mem_cons,List.not_mem_nil,or_false]at hw
  subst hw
  exact hi _ (by unfold big;omega)
 ·obtain⟨p,hp,hw⟩:=List.mem_flatMap.1 hw
  exact pq (h12.sol.picks p hp) w hw
 ·obtain⟨n,hn,rfl⟩:=List.mem_map.1 hw
  have:=mU h12.sol n hn
  exact hi _ (by unfold fC at this;unfold big;omega)
theorem words_len{b:Bul}(h:pc b):(words b).length<=51:=by
 have:=h.ev.sol.len
 simp only [words,List.length_append,List.length_map,pl,jR,List.length_cons,List.length_nil,bG]
 omega
theorem encode_l13{b:Bul}(hp:∀p∈b.ah.aa.aX,gn p)(hl:b.ah.aa.aX.length<=1000):∀(k i:Nat)(acc:List Wd),i+k=b.ah.aa.aX.length->acc.length<=100+6*i->
  kG (cK b) ((i:Int),acc)=some (acc++(b.ah.aa.aX.drop i).flatMap bG):=by
 intro k
 induction k with
 |zero=>
  intro i acc hi ha
  rw [List.drop_of_length_le za]
  simp only [List.flatMap_nil,List.append_nil]
  refine qx ?_
  unfold cK
  simp only
  rw [if_neg so]
 |succ k ih=>
  intro i acc hi ha
  have hlt:i<b.ah.aa.aX.length:=by omega
  rw [List.drop_eq_getElem_cons hlt,List.flatMap_cons, <-List.append_assoc,rq (s':=(((i+1:Nat):Int),acc++bG b.ah.aa.aX[i]))]
  ·exact ih (i+1) _ za (by simp [bG];omega)
  ·unfold cK
   simp only
   rw [if_pos so,p7 rfl hlt,zc,nZ (hp _ (List.getElem_mem _)) za,zc,w64 za za]
   simp
theorem encode_at{b:Bul}(h:pc b):dx b=some (text b,0):=by
 have hv:=valid_at h
 have hw:=words_ok h
 have hwl:=words_len h
 obtain⟨h1,h2,h3,h4,h5,h6,h7,h8,h9,h10,h11,h12⟩:=h
 have hl:=h12.sol.len
 unfold dx
 rw [hv,zc]
 simp only [Bool.not_true,Bool.false_eq_true,if_false]
 rw [writer_at (by
  intro n hn
  simp only [List.mem_cons,List.not_mem_nil,or_false]at hn
  unfold big
  omega) sm,zc]
 rw [nZ h12.name sm,zc]
 rw [mX (by
  intro n hn
  simp only [List.mem_cons,List.not_mem_nil,or_false]at hn
  unfold big
  omega) sm (by simp [bG]),zc]
 have:=encode_l13 h12.sol.picks za _ 0 ([b.bv,b.bX,b.fID,b.fAt,b.bw].map itoa++bG b.ah.ap++[(b.ah.aa.aX.length:Int)].map itoa) (Nat.zero_add _) (by simp [bG])
 rw [show((0:Nat):Int)=0 from rfl]at this
 rw [this, zc, mG, zc, mX (fun n hn => by
  have:=mU h12.sol n hn
  unfold fC at this;unfold big;omega) (by rw [jR];omega) (by simp only [List.drop_zero,List.length_append,List.length_map,pl,List.length_cons,List.length_nil,bG];omega),zc]
 have e: [b.bv,b.bX,b.fID,b.fAt,b.bw].map itoa++bG b.ah.ap++[(b.ah.aa.aX.length:Int)].map itoa++(List.drop 0 b.ah.aa.aX).flatMap bG++(iR b.ah.aa).map itoa=words b:=by
  simp only [words,List.drop_zero,List.append_assoc]
 rw [e,joinO_ok (by simp [words]) (fun w hw'=>by have:=(hw w hw').2;omega) za sm,zc]
 rfl
theorem numbersq_at(s:az)(d:List Pick):ew s.ac.aO.fX s.ac.aO.fY s.ac.aO.fZ s.ac.aP s.ac.bc s.ac.bu s.ac.aF.aW.fX s.ac.aF.aW.fY s.ac.aF.aW.fZ
  s.ac.aF.aN.fX s.ac.aF.aN.fY s.ac.aF.aN.fZ s.aA.aW s.aA.aN s.bn d=some (iR s,d):=by
 unfold ew dA
 simp only [zc]
 rw [concat_at sm sm,zc]
 simp [iR,mH]
theorem containsq_eq(d:List Pick):bH d=(bB d).map (fun v=>(v,d)):=by
 unfold bH bB b8 bP
 rw [BG (b := bC d) (b' := bQ d) (Sum.map id (fun i => (i, d))) (fun s => by
  unfold bC bQ
  rw [Ai]
  split
  ·cases pH d s with
   |none=>rfl
   |some x=>
    simp only [zc]
    cases dh x with
    |none=>rfl
    |some v=>cases v<;>rfl
  ·rfl)]
 cases kG (bC d) (0:Int)with
 |none=>rfl
 |some o=>cases o<;>rfl
theorem ite_map{α β:Type}(c:Prop) [Decidable c] (f:α->β)(x y:Option α):(if c then x else y).map f=if c then x.map f else y.map f:=by split<;>rfl
theorem Validq_eq(b:Bul):hZ b.bv b.bX b.fID b.fAt b.bw b.ah.ap.ar.aT b.ah.ap.ar.aU b.ah.ap.ar.ac b.ah.ap.ar.aS b.ah.ap.aP b.ah.ap.aZ b.ah.ap.bg b.ah.ap.aI b.ah.ap.aL
  b.ah.aa.ac.aO.fX b.ah.aa.ac.aO.fY b.ah.aa.ac.aO.fZ b.ah.aa.ac.aP b.ah.aa.ac.bc b.ah.aa.ac.bu b.ah.aa.ac.aF.aW.fX b.ah.aa.ac.aF.aW.fY b.ah.aa.ac.aF.aW.fZ
  b.ah.aa.ac.aF.aN.fX b.ah.aa.ac.aF.aN.fY b.ah.aa.ac.aF.aN.fZ b.ah.aa.aA.aW b.ah.aa.aA.aN b.ah.aa.bn b.ah.aa.aX=(eu b).map (fun v=>(v,b.ah.aa.aX)):=by
 unfold hZ eu
 simp only [ite_map,Option.map_some,Option.map_bind,Function.comp_def,containsq_eq,numbersq_at,mG,zc,Option.bind_map]
theorem Encodeq_l15_eq(b:Bul)(v:Bool):eH (v,b.ah.aa.aX)=cK b:=by
 funext ⟨s6,s7⟩
 unfold eH cK
 simp only [Ai]
theorem Encodeq_eq(b:Bul):ga b.bv b.bX b.fID b.fAt b.bw b.ah.ap.ar.aT b.ah.ap.ar.aU b.ah.ap.ar.ac b.ah.ap.ar.aS b.ah.ap.aP b.ah.ap.aZ b.ah.ap.bg b.ah.ap.aI b.ah.ap.aL
  b.ah.aa.ac.aO.fX b.ah.aa.ac.aO.fY b.ah.aa.ac.aO.fZ b.ah.aa.ac.aP b.ah.aa.ac.bc b.ah.aa.ac.bu b.ah.aa.ac.aF.aW.fX b.ah.aa.ac.aF.aW.fY b.ah.aa.ac.aF.aW.fZ
  b.ah.aa.ac.aF.aN.fX b.ah.aa.ac.aF.aN.fY b.ah.aa.ac.aF.aN.fZ b.ah.aa.aA.aW b.ah.aa.aA.aN b.ah.aa.bn b.ah.aa.aX=(dx b).map (fun r=>(r.1,r.2,b.ah.aa.aX)):=by
 unfold ga dx
 rw [Validq_eq]
 cases eu b with
 |none=>rfl
 |some v=>
  simp only [Option.map_some,zc]
  simp only [ite_map,Option.map_some,Option.map_bind,Function.comp_def,Encodeq_l15_eq,numbersq_at,mG,zc]
theorem lL{p:ai}(h:PosOk p)(ws:List Wd)(hl:ws.length<=1000000):cL ⟨itoa p.fX::itoa p.fY::itoa p.fZ::ws,false⟩=some (p,⟨ws,false⟩):=by
 obtain⟨⟨a1,a2⟩,⟨b1,b2⟩,⟨c1,c2⟩⟩:=h
 unfold cL
 rw [bI (by unfold big;omega) _ (by simp only [List.length_cons];omega),zc]
 rw [bI (by unfold big;omega) _ (by simp only [List.length_cons];omega),zc]
 rw [bI (by unfold big;omega) _ za,zc]
theorem text_len{b:Bul}(h:pc b):(text b).length<=10000:=by
 have h1:=yk (s:=[32]) (fun w hw=>(words_ok h w hw).2)
 have h2:=words_len h
 have h3:(words b).length*(100+ [(32:UInt8)].length)<=51*101:=Nat.mul_le_mul h2 sm
 unfold text;omega
theorem l9{n:Int}(h:fC n):big n:=by unfold fC at h;unfold big;omega
theorem decode_at{b:Bul}(h:pc b):eR (text b)=some (b,0):=by
 have he:=encode_at h
 have hw:=words_ok h
 have hwl:=words_len h
 have htl:=text_len h
 have hsp:qz 32 (text b)=words b:=yC (by simp [words]) (fun w hw'=>(hw w hw').1)
 obtain⟨h1,h2,h3,h4,h5,h6,h7,h8,h9,h10,h11,h12⟩:=h
 have hl:=h12.sol.len
 obtain⟨-, -, -,p1,p2,p3,d1,d2,d3,d4,d5,d6⟩:=h12.sol
 unfold eR
 rw [BQ za,zc,hsp]
 unfold words
 simp only [List.map_cons,List.map_nil,List.cons_append,List.nil_append]
 have hA:(bG b.ah.ap++itoa (b.ah.aa.aX.length:Int)::(b.ah.aa.aX.flatMap bG++(iR b.ah.aa).map itoa)).length<=1000:=by
  simp only [List.length_append,List.length_cons,List.length_map,pl,jR,bG,List.length_nil];omega
 rw [bI (by unfold big;omega) _ (by simp only [List.length_cons];omega),zc]
 rw [bI (by unfold big;omega) _ (by simp only [List.length_cons];omega),zc]
 rw [bI (by unfold big;omega) _ (by simp only [List.length_cons];omega),zc]
 rw [bI (by unfold big;omega) _ (by simp only [List.length_cons];omega),zc]
 rw [bI (by unfold big;omega) _ za,zc]
 rw [pick_read h12.name _ (by simp only [List.length_append,List.length_cons]at hA⊢;omega),zc]
 rw [bI (by unfold big;omega) _ (by simp only [List.length_append,List.length_cons]at hA⊢;omega),zc]
 simp only
 rw [picks_read _ _ _ h12.sol.picks za (by rw [List.length_map,jR];omega) so,zc]
 simp only [iR,mH,List.cons_append,List.nil_append,List.map_cons,List.map_nil]
 rw [lL p1 _ sm,zc]
 rw [bI (l9 d1) _ sm,zc]
 rw [bI (l9 d2) _ sm,zc]
 rw [bI (l9 d3) _ sm,zc]
 rw [lL p2 _ sm,zc]
 rw [lL p3 _ sm,zc]
 rw [bI (l9 d4) _ sm,zc]
 rw [bI (l9 d5) _ sm,zc]
 rw [bI (l9 d6) _ sm,zc]
 simp only [Bool.false_eq_true,if_false,List.length_nil]
 rw [if_neg sm,Encodeq_eq,he]
 simp
theorem samePicks_self{l:List Pick}(hl:l.length<=1000000):cn l l=some true:=by
 unfold cn
 rw [if_neg sm,l8 l (u:= .inl ())]
 ·rfl
 ·intro i hi
  unfold cW
  rw [if_pos so,p7 rfl hi,zc,zc,if_neg sm,w64 za za]
  simp
 ·unfold cW
  rw [if_neg sm]
theorem same_self{b:Bul}(hl:b.ah.aa.aX.length<=1000000):ct b b=some true:=by
 unfold ct fk kR
 simp only [beq_self_eq_true,Bool.and_self,if_true,samePicks_self hl,zc]
end Go.Dw.Fc
set_option maxRecDepth 100000
set_option maxHeartbeats 4000000
namespace Go.Dw.Fc
open Go.Dw Go.Lib
theorem modO_at{α:Type}{l:List α}{n:Int}{x:α}{f:α->α}(h0:0<=n)(hx:l[n.toNat]? =some x):xH l n f=some (l.set n.toNat (f x)):=by
 unfold xH
 rw [if_pos h0,hx]
theorem set_at{α:Type}{l:List α}{i:Nat}{x y:α}(hx:l[i]? =some x):(l.set i y)[i]? =some y:=by
 obtain⟨h, -⟩:=List.getElem?_eq_some_iff.1 hx
 rw [List.getElem?_set_self h]
theorem events_l30{e:Ev}{d:Src}(he:e.aa.aX.length<=4)(i:Int)(hi0:0<=i)(hi1:i<=4)(es:List Ev)(hp:∀p∈e.aa.aX,gn p):
  Ok (kG (kE (e,d) i es) ((0:Int),e.aa.aX)) (fun o=>o.1=i∧o.2.1=es∧o.2.2.length=e.aa.aX.length∧∀p∈o.2.2,gn p):=by
 refine Ok.loop (fun s=>0<=s.1∧s.1<=e.aa.aX.length∧s.2.length=e.aa.aX.length∧∀p∈s.2,gn p) (fun s=>((e.aa.aX.length:Int)-s.1).toNat) ?_ ⟨zb,zb,rfl,hp⟩
 rintro⟨k,ps⟩ ⟨i0,i1,i2,i3⟩
 simp only at i0 i1 i2 i3
 unfold kE
 refine Ok.pM (fun hlt=>?_) (fun _=>Ok.st ⟨rfl,rfl,i2,i3⟩)
 simp only at hlt
 refine Ok.bind (Ok.xG i0 za) (fun _ _=>?_)
 have hlt':k.toNat<ps.length:=by omega
 have hx:=zd hlt'
 have hpx:=i3 _ (List.getElem_mem hlt')
 rw [modO_at i0 hx,zc,modO_at i0 (set_at hx),zc,List.set_set,modO_at i0 (set_at hx),zc,List.set_set,modO_at i0 (set_at hx),zc,List.set_set]
 rw [w64 (n:=400*i) za za,w64 (n:=1000+400*i) za za,w64 (n:=1000+400*i+k) za za,w64 (n:=1000+400*i+k+2) za za,w64 (n:=k+1) za za]
 refine Ok.nx ⟨zb,zb,by simpa using i2,?_⟩ zb
 intro p hp'
 rcases List.mem_or_eq_of_mem_set hp' with h|h
 ·exact i3 p h
 ·subst h
  obtain⟨hs,h1,h2,h3,h4,h5,h6,h7,h8⟩:=hpx
  refine⟨hs,?_⟩
  simp only
  omega
theorem events_ok(d:Src)(hd:dw d):Ok (mw 4 d) (fun r=>(r.1.length<=4∧∀e∈r.1,EvOk e)∧dw r.2):=by
 unfold mw
 refine Ok.bind (P:=fun o=>(o.1.length<=4∧∀e∈o.1,EvOk e)∧dw ⟨o.2.1,o.2.2⟩) (Ok.loop (fun s=>(0<=s.1∧s.1<=4)∧dw ⟨s.2.1,s.2.2.1⟩∧s.2.2.2.length<=s.1.toNat∧∀e∈s.2.2.2,EvOk e) (fun s=>(4-s.1).toNat) ?_ ⟨sm,hd,sm,sm⟩) (fun o ho=>Ok.ret ho)
 rintro⟨i,L,a,es⟩ ⟨⟨i0,i1⟩,i2,i3,i4⟩
 simp only at i0 i1 i2 i3 i4
 unfold nq
 refine Ok.pM (fun hlt=>?_) (fun _=>Ok.st ⟨⟨zb,i4⟩,i2⟩)
 refine Ok.bind (k7 _ _ i2 za za) (fun x1 h1=>?_)
 refine Ok.uE (fun _=>?_) (fun _=>?_)
 ·rw [w64 za za]
  exact Ok.nx ⟨zb,h1.2.2,zb,i4⟩ zb
 ·refine Ok.bind (event_ok _ h1.2.2) (fun x2 h2=>?_)
  obtain⟨he,hd2⟩:=h2
  have hl4:=he.sol.len
  have hl1:=he.sol.len1
  refine Ok.bind (events_l30 (d:=x2.2) hl4 i i0 i1 es he.sol.picks) (fun o ho=>?_)
  obtain⟨o1,o2,o3,o4⟩:=ho
  refine Ok.bind (k7 _ _ hd2 za za) (fun x3 h3=>?_)
  rw [w64 (n:=(o.2.2.length:Int)-1) za za]
  refine Ok.bind (Ok.cut (by split<;>omega) (by split<;>omega) za) (fun x4 h4=>?_)
  have hl5:1<=x4.length∧x4.length<=4:=by
   subst h4
   simp only [List.length_take,List.length_drop]
   split<;>omega
  have hm:∀p∈x4,gn p:=fun p hp=>by
   subst h4
   exact o4 p (List.mem_of_mem_drop (List.mem_of_mem_take hp))
  refine Ok.bind (Ok.get za za) (fun x5 h5=>?_)
  rw [o1,o2]
  refine Ok.bind (Ok.app (by simp only [List.length_cons,List.length_nil];omega)) (fun x6 h6=>?_)
  subst h6
  rw [w64 za za]
  refine Ok.nx ⟨zb,h3.2.2,by simp only [List.length_append,List.length_cons,List.length_nil];omega,?_⟩ zb
  intro e hmem
  rcases List.mem_append.1 hmem with hmem|hmem
  ·exact i4 e hmem
  ·obtain rfl:=List.mem_singleton.1 hmem
   obtain⟨-, -, -,q1,q2,q3,q4,q5,q6,q7,q8,q9⟩:=he.sol
   exact⟨hm _ h5.1,⟨hm,hl5.2,hl5.1,q1,q2,q3,q4,q5,q6,q7,q8,q9⟩⟩
theorem mR(n:Int):Ok (eX n) (fun _=>True):=by
 unfold eX
 exact Ok.pM (fun _=>Ok.ret trivial) (fun _=>Ok.ret trivial)
theorem nX(p:Policy):Ok (eL p) (fun r=>r=0->p.ce.length<=8):=by
 unfold eL
 refine Ok.pM (fun _=>Ok.ret (fun e=>by cases e)) (fun _=>?_)
 refine Ok.pM (fun _=>Ok.ret (fun e=>by cases e)) (fun h8=>?_)
 have h8':p.ce.length<=8:=by omega
 refine Ok.bind (mR _) (fun x _=>Ok.sb (fun _=>Ok.ret (fun e=>by cases e)) (fun _=>?_))
 refine Ok.bind (mR _) (fun x _=>Ok.sb (fun _=>Ok.ret (fun e=>by cases e)) (fun _=>?_))
 refine Ok.bind (P:=fun _=>True) (Ok.upto (p.ce.length:Int) za (fun _=>True) trivial (fun i h0 h1 _=>?_)) (fun o _=>?_)
 ·unfold kS
  refine Ok.pM (fun hlt=>?_) (fun _=>Ok.st trivial)
  refine Ok.bind (Ok.get h0 hlt) (fun x _=>?_)
  refine Ok.pM (fun _=>Ok.st trivial) (fun _=>?_)
  refine Ok.pM (fun _=>Ok.st trivial) (fun _=>?_)
  refine Ok.pM (fun _=>Ok.st trivial) (fun _=>?_)
  refine Ok.pM (fun _=>Ok.st trivial) (fun _=>?_)
  refine Ok.bind (mR _) (fun x _=>Ok.sb (fun _=>Ok.st trivial) (fun _=>?_))
  refine Ok.bind (mR _) (fun x _=>Ok.sb (fun _=>Ok.st trivial) (fun _=>?_))
  rw [w64 za za]
  exact Ok.nx ⟨⟨za,za⟩,trivial⟩ za
 ·cases o<;>exact Ok.ret (fun _=>h8')
theorem avalid_l15(l:List Alert)(hl:l.length<=1000)(s:Int)(h0:0<=s)(h1:s<l.length):Ok (kG (jV s l) (0:Int)) (fun o=>∀y,o= .inl y->y=s):=by
 refine Ok.upto s h0 (fun _=>True) trivial (fun i g0 g1 _=>?_)
 have nx:Ok (some (.next (IntKind.wrap .i64 (i+(1:Int))))) (Ok.S (fun i=>(0<=i∧i<=s)∧True) (fun i=>(s-i).toNat) (fun o:Int⊕Bool=>∀y,o= .inl y->y=s) i)∨¬i<s:=by
  by_cases hlt:i<s
  ·left
   rw [w64 za za]
   exact Ok.nx ⟨⟨za,za⟩,trivial⟩ za
  ·exact .inr hlt
 unfold jV
 refine Ok.pM (fun hlt=>?_) (fun _=>Ok.st (fun y e=>by cases e;rfl))
 have nx:=nx.resolve_right (fun h=>h hlt)
 refine Ok.bind (Ok.get h0 h1) (fun x _=>Ok.sb (fun _=>?_) (fun _=>nx))
 refine Ok.bind (Ok.get g0 za) (fun x _=>Ok.sb (fun _=>?_) (fun _=>nx))
 refine Ok.bind (Ok.get h0 h1) (fun x _=>?_)
 refine Ok.bind (Ok.get g0 za) (fun y _=>?_)
 exact Ok.uS (fun _=>Ok.st (fun y e=>by cases e)) (fun _=>nx)
theorem avalid_ok(l:List Alert)(hl:l.length<=1000):Ok (ll l) (fun _=>True):=by
 unfold ll
 refine Ok.bind (P:=fun _=>True) (Ok.upto (l.length:Int) za (fun _=>True) trivial (fun i h0 h1 _=>?_)) (fun o _=>by cases o<;>exact Ok.ret trivial)
 unfold nc
 refine Ok.pM (fun hlt=>?_) (fun _=>Ok.st trivial)
 have k19:Ok (fm i l) (Ok.S (fun i=>(0<=i∧i<=(l.length:Int))∧True) (fun i=>((l.length:Int)-i).toNat) (fun _:Unit⊕Bool=>True) i):=by
  unfold fm
  refine Ok.bind (avalid_l15 l hl i h0 hlt) (fun o ho=>?_)
  cases o with
  |inl y=>
   obtain rfl:=ho y rfl
   simp only
   rw [w64 za za]
   exact Ok.nx ⟨⟨za,za⟩,trivial⟩ za
  |inr y=>exact Ok.st trivial
 refine Ok.bind (Ok.get h0 hlt) (fun x _=>Ok.pM (fun _=>Ok.st trivial) (fun _=>?_))
 refine Ok.bind (Ok.get h0 hlt) (fun x _=>Ok.pM (fun _=>Ok.st trivial) (fun _=>?_))
 refine Ok.pM (fun hpos=>?_) (fun _=>?_)
 ·rw [w64 za za]
  refine Ok.bind (Ok.get h0 hlt) (fun x _=>?_)
  refine Ok.bind (Ok.get za za) (fun y _=>Ok.pM (fun _=>Ok.st trivial) (fun _=>?_))
  refine Ok.bind (Ok.get h0 hlt) (fun x _=>Ok.pM (fun _=>Ok.st trivial) (fun _=>?_))
  refine Ok.bind (Ok.get h0 hlt) (fun x _=>Ok.pM (fun _=>Ok.st trivial) (fun _=>k19))
 ·refine Ok.bind (Ok.get h0 hlt) (fun x _=>Ok.pM (fun _=>Ok.st trivial) (fun _=>?_))
  refine Ok.bind (Ok.get h0 hlt) (fun x _=>Ok.pM (fun _=>Ok.st trivial) (fun _=>k19))
theorem rcmp_ok(a b:List UInt8):Ok (ex a b) (fun _=>True):=by
 unfold ex
 exact Ok.uS (fun _=>Ok.ret trivial) (fun _=>Ok.sb (fun _=>Ok.ret trivial) (fun _=>Ok.ret trivial))
theorem rcmp3_ok(a b:Sid):Ok (jC a b) (fun _=>True):=by
 unfold jC
 refine Ok.bind (rcmp_ok _ _) (fun x1 _=>?_)
 refine Ok.bind (rcmp_ok _ _) (fun x2 _=>?_)
 refine Ok.bind (rcmp_ok _ _) (fun x3 _=>?_)
 refine Ok.bind (rcmp_ok _ _) (fun x4 _=>?_)
 repeat' (first|refine Ok.uP (fun _=>?_) (fun _=>?_)|exact Ok.ret trivial)
theorem rcmp23_ok(a b:Pick):Ok (gB a b) (fun _=>True):=by
 unfold gB
 refine Ok.bind (rcmp3_ok _ _) (fun x1 _=>Ok.uP (fun _=>Ok.ret trivial) (fun _=>?_))
 repeat' (first|refine Ok.pM (fun _=>?_) (fun _=>?_)|exact Ok.ret trivial)
theorem rcmp34_ok(a b:Pick):Ok (gC a b) (fun _=>True):=by
 unfold gC
 refine Ok.pM (fun _=>Ok.ret trivial) (fun _=>Ok.pM (fun _=>Ok.ret trivial) (fun _=>?_))
 exact Ok.bind (rcmp23_ok _ _) (fun x _=>Ok.ret trivial)
theorem name_ok(l:List Pick)(h1:1<=l.length)(h2:l.length<=1000):Ok (mK l) (fun _=>True):=by
 unfold mK
 refine Ok.bind (Ok.get za za) (fun x _=>?_)
 refine Ok.bind (P:=fun _=>True) (Ok.loop (fun s=>0<=s.1∧s.1<=(l.length:Int)) (fun s=>((l.length:Int)-s.1).toNat) ?_ ⟨zb,zb⟩) (fun o _=>Ok.ret trivial)
 rintro⟨i,a1,a2,a3,a4,a5,a6,a7,a8,a9⟩ ⟨i0,i1⟩
 simp only at i0 i1
 unfold nM
 refine Ok.pM (fun hlt=>?_) (fun _=>Ok.st trivial)
 refine Ok.bind (Ok.get i0 hlt) (fun x _=>?_)
 refine Ok.bind (rcmp34_ok _ _) (fun y _=>?_)
 rw [w64 za za]
 refine Ok.pM (fun _=>?_) (fun _=>?_)
 ·refine Ok.bind (Ok.get i0 hlt) (fun x _=>?_)
  exact Ok.nx ⟨zb,zb⟩ zb
 ·exact Ok.nx ⟨zb,zb⟩ zb
theorem copyL_len{α:Type}{l y:List α}{a m:Nat}(h:a+m<=l.length):(wv l a m y).length=l.length:=by
 have:Nat.min y.length m<=m:=Nat.min_le_right _ _
 have h2:Nat.min y.length m<=y.length:=Nat.min_le_left _ _
 simp only [wv,List.length_append,List.length_take,List.length_drop]
 omega
theorem zH(l:List Pick)(hl:l.length<=1000):Ok (mI l) (fun r=>r.length<=1000):=by
 unfold mI
 refine Ok.bind (P:=fun o=>o.length<=1000) (Ok.loop (fun s=>0<=s.1∧s.1<=(l.length:Int)∧s.2.length<=s.1.toNat) (fun s=>((l.length:Int)-s.1).toNat) ?_ ⟨sm,sm,sm⟩) (fun o ho=>Ok.ret ho)
 rintro⟨i,ps⟩ ⟨i0,i1,i2⟩
 simp only at i0 i1 i2
 unfold nI
 refine Ok.pM (fun hlt=>?_) (fun _=>Ok.st (show ps.length<=1000 by omega))
 refine Ok.bind (P:=fun o=>o.1=i∧(0<=o.2.1∧o.2.1<=(ps.length:Int))∧o.2.2=ps) (Ok.loop (fun k:Int=>0<=k∧k<=(ps.length:Int)) (fun k=>k.toNat) ?_ ⟨za,za⟩) ?_
 ·rintro k ⟨k0,k1⟩
  unfold nH
  refine Ok.pM (fun hk=>?_) (fun _=>Ok.st ⟨rfl,⟨k0,k1⟩,rfl⟩)
  rw [w64 za za]
  refine Ok.bind (Ok.xG za za) (fun _ _=>?_)
  refine Ok.bind (Ok.get za za) (fun x _=>?_)
  refine Ok.bind (Ok.get i0 hlt) (fun y _=>?_)
  refine Ok.bind (rcmp23_ok _ _) (fun z _=>?_)
  exact Ok.pM (fun _=>Ok.nx ⟨za,za⟩ za) (fun _=>Ok.st ⟨rfl,⟨k0,k1⟩,rfl⟩)
 ·rintro⟨o1,o2,o3⟩ ⟨e1,⟨k0,k1⟩,e3⟩
  simp only at e1 k0 k1 e3
  subst e1 e3
  have k31:Ok (fR l (o1,o2,o3)) (Ok.S (fun s=>0<=s.1∧s.1<=(l.length:Int)∧s.2.length<=s.1.toNat) (fun s=>((l.length:Int)-s.1).toNat) (fun o:List Pick=>o.length<=1000) (o1,o3)):=by
   unfold fR
   simp only
   refine Ok.bind (Ok.get i0 hlt) (fun x _=>?_)
   refine Ok.bind (Ok.app (by simp only [List.length_cons,List.length_nil];omega)) (fun y hy=>?_)
   have hyl:y.length=o3.length+1:=by rw [hy];simp
   rw [w64 (n:=o2+1) za za,w64 (n:=o1+1) za za]
   refine Ok.bind (Ok.sub za za za) (fun _ _=>?_)
   refine Ok.bind (Ok.sub za za za) (fun _ _=>?_)
   refine Ok.bind (Ok.view za za) (fun _ _=>?_)
   refine Ok.bind (Ok.part za za) (fun z _=>?_)
   refine Ok.bind (Ok.get i0 hlt) (fun x2 _=>?_)
   have hc:(wv y (0+(o2+1).toNat) (0+((y.length:Int)).toNat-(0+(o2+1).toNat)) z).length=y.length:=copyL_len za
   refine Ok.bind (Ok.xG za (by rw [hc];omega)) (fun _ _=>?_)
   refine Ok.bind (Ok.set za (by rw [hc];omega)) (fun w hw=>?_)
   have hwl:w.length=y.length:=by rw [hw,List.length_set,hc]
   exact Ok.nx ⟨zb,zb,zb⟩ zb
  simp only
  refine Ok.pM (fun hpos=>?_) (fun _=>k31)
  rw [w64 (n:=o2-1) za za]
  refine Ok.bind (Ok.xG za za) (fun _ _=>?_)
  refine Ok.bind (Ok.get za za) (fun x _=>?_)
  refine Ok.bind (Ok.get i0 hlt) (fun y _=>?_)
  refine Ok.uS (fun _=>?_) (fun _=>k31)
  rw [w64 za za]
  exact Ok.nx ⟨zb,zb,zb⟩ zb
theorem samePicks_ok(a b:List Pick)(hl:a.length<=1000):Ok (cn a b) (fun _=>True):=by
 unfold cn
 refine Ok.uP (fun _=>Ok.ret trivial) (fun he=>?_)
 refine Ok.bind (P:=fun _=>True) (Ok.upto (a.length:Int) za (fun _=>True) trivial (fun i h0 h1 _=>?_)) (fun o _=>by cases o<;>exact Ok.ret trivial)
 unfold cW
 refine Ok.pM (fun hlt=>?_) (fun _=>Ok.st trivial)
 refine Ok.bind (Ok.get h0 hlt) (fun x _=>?_)
 refine Ok.bind (Ok.get h0 za) (fun y _=>?_)
 refine Ok.sb (fun _=>Ok.st trivial) (fun _=>?_)
 rw [w64 za za]
 exact Ok.nx ⟨⟨za,za⟩,trivial⟩ za
theorem common_l11_ok(a b:List Pick)(hb:b.length<=1000)(s:Int)(h0:0<=s)(h1:s<a.length):Ok (kG (jl b a s) (0:Int)) (fun o=>∀y,o= .inl y->y=s):=by
 refine Ok.upto (b.length:Int) za (fun _=>True) trivial (fun i g0 g1 _=>?_)
 unfold jl
 refine Ok.pM (fun hlt=>?_) (fun _=>Ok.st (fun y e=>by cases e;rfl))
 refine Ok.bind (Ok.get h0 h1) (fun x _=>?_)
 refine Ok.bind (Ok.get g0 hlt) (fun y _=>?_)
 refine Ok.uS (fun _=>Ok.st (fun y e=>by cases e)) (fun _=>?_)
 rw [w64 za za]
 exact Ok.nx ⟨⟨za,za⟩,trivial⟩ za
theorem common_ok(a b:List Pick)(ha:a.length<=1000)(hb:b.length<=1000):Ok (iB a b) (fun _=>True):=by
 unfold iB
 refine Ok.bind (P:=fun _=>True) (Ok.upto (a.length:Int) za (fun _=>True) trivial (fun i h0 h1 _=>?_)) (fun o _=>by cases o<;>exact Ok.ret trivial)
 unfold md
 refine Ok.pM (fun hlt=>?_) (fun _=>Ok.st trivial)
 refine Ok.bind (common_l11_ok a b hb i h0 hlt) (fun o ho=>?_)
 cases o with
 |inl y=>
  obtain rfl:=ho y rfl
  simp only
  rw [w64 za za]
  exact Ok.nx ⟨⟨za,za⟩,trivial⟩ za
 |inr y=>exact Ok.st trivial
theorem common36_eq(a b:List Pick):mO a b=iB a b:=rfl
theorem evalid_ok(l:List Ev)(hl:l.length<=1000)(h:∀e∈l,e.aa.aX.length<=1000):Ok (lh l) (fun _=>True):=by
 unfold lh
 refine Ok.bind (P:=fun _=>True) (Ok.upto (l.length:Int) za (fun _=>True) trivial (fun i h0 h1 _=>?_)) (fun o _=>by cases o<;>exact Ok.ret trivial)
 unfold m8
 refine Ok.pM (fun hlt=>?_) (fun _=>Ok.st trivial)
 refine Ok.bind (Ok.get h0 hlt) (fun x hx=>?_)
 have hxl:=h x hx.1
 have k16:Ok (fj i l x) (Ok.S (fun i=>(0<=i∧i<=(l.length:Int))∧True) (fun i=>((l.length:Int)-i).toNat) (fun _:Unit⊕Bool=>True) i):=by
  unfold fj
  refine Ok.bind (P:=fun o:Int⊕Bool=>∀y,o= .inl y->y=i) (Ok.upto i h0 (fun _=>True) trivial (fun k g0 g1 _=>?_)) (fun o ho=>?_)
  ·unfold m7
   refine Ok.pM (fun hk=>?_) (fun _=>Ok.st (fun y e=>by cases e;rfl))
   refine Ok.bind (Ok.get g0 za) (fun y hy=>?_)
   refine Ok.bind (common_ok _ _ hxl (h y hy.1)) (fun z _=>?_)
   refine Ok.uS (fun _=>Ok.st (fun y e=>by cases e)) (fun _=>?_)
   rw [w64 za za]
   exact Ok.nx ⟨⟨za,za⟩,trivial⟩ za
  ·cases o with
   |inl y=>
    obtain rfl:=ho y rfl
    simp only
    rw [w64 za za]
    exact Ok.nx ⟨⟨za,za⟩,trivial⟩ za
   |inr y=>exact Ok.st trivial
 refine Ok.uE (fun _=>Ok.st trivial) (fun hne=>?_)
 refine Ok.bind (Ok.get h0 hlt) (fun x2 _=>?_)
 refine Ok.bind (name_ok _ za hxl) (fun x3 _=>?_)
 refine Ok.sb (fun _=>Ok.st trivial) (fun _=>?_)
 refine Ok.bind (zH _ hxl) (fun x4 _=>?_)
 refine Ok.bind (samePicks_ok _ _ hxl) (fun x5 _=>Ok.sb (fun _=>Ok.st trivial) (fun _=>?_))
 refine Ok.pM (fun hpos=>?_) (fun _=>k16)
 rw [w64 za za]
 refine Ok.bind (Ok.get za za) (fun x6 _=>?_)
 refine Ok.bind (Ok.get h0 hlt) (fun x7 _=>?_)
 refine Ok.bind (rcmp34_ok _ _) (fun x8 _=>?_)
 exact Ok.pM (fun _=>Ok.st trivial) (fun _=>k16)
theorem errors_ok(p:Policy)(l:List Alert)(n:Int)(es:List Ev)(now:Int)(hl:l.length<=1000)(hel:es.length<=1000)(h:∀e∈es,e.aa.aX.length<=1000):Ok (ko p l n es now) (fun r=>r=0->p.ce.length<=8):=by
 have k14:p.ce.length<=8->Ok (eM now l) (fun r=>r=0->p.ce.length<=8):=by
  intro h8
  unfold eM
  refine Ok.pM (fun _=>Ok.ret (fun _=>h8)) (fun _=>Ok.pM (fun _=>Ok.ret (fun _=>h8)) (fun _=>?_))
  refine Ok.bind (P:=fun _=>True) (Ok.upto (l.length:Int) za (fun _=>True) trivial (fun i h0 h1 _=>?_)) (fun o _=>by cases o<;>exact Ok.ret (fun _=>h8))
  unfold me
  refine Ok.pM (fun hlt=>?_) (fun _=>Ok.st trivial)
  refine Ok.bind (Ok.get h0 hlt) (fun x _=>Ok.pM (fun _=>Ok.st trivial) (fun _=>?_))
  rw [w64 za za]
  exact Ok.nx ⟨⟨za,za⟩,trivial⟩ za
 unfold ko
 refine Ok.bind (nX p) (fun x hx=>Ok.uP (fun _=>Ok.ret (fun e=>by cases e)) (fun h0=>?_))
 have h8:=hx h0
 refine Ok.bind (avalid_ok l hl) (fun x _=>Ok.sb (fun _=>Ok.ret (fun _=>h8)) (fun _=>?_))
 refine Ok.bind (evalid_ok es hel h) (fun x _=>Ok.sb (fun _=>Ok.ret (fun _=>h8)) (fun _=>?_))
 refine Ok.pM (fun _=>Ok.ret (fun _=>h8)) (fun _=>Ok.pM (fun hpos=>?_) (fun _=>k14 h8))
 rw [w64 za za]
 refine Ok.bind (Ok.get za za) (fun x _=>?_)
 exact Ok.pM (fun _=>Ok.ret (fun _=>h8)) (fun _=>k14 h8)
end Go.Dw.Fc
set_option maxRecDepth 100000
set_option maxHeartbeats 4000000
namespace Go.Dw.Fc
open Go.Dw Go.Lib
theorem inq_ok(a:Int)(d:List Int)(hl:d.length<=1000000):Ok (mi a d) (fun r=>r.2=d):=by
 unfold mi
 refine Ok.bind (P:=fun o:Unit⊕(Bool×List Int)=>∀y,o= .inr y->y.2=d) (Ok.upto (d.length:Int) za (fun _=>True) trivial (fun i h0 h1 _=>?_)) (fun o ho=>?_)
 ·unfold pA
  refine Ok.pM (fun hlt=>?_) (fun _=>Ok.st (fun y e=>by cases e))
  refine Ok.bind (Ok.xG h0 hlt) (fun _ _=>?_)
  refine Ok.bind (Ok.get h0 hlt) (fun x _=>?_)
  refine Ok.uE (fun _=>Ok.st (fun y e=>by cases e;rfl)) (fun _=>?_)
  rw [w64 za za]
  exact Ok.nx ⟨⟨za,za⟩,trivial⟩ za
 ·cases o with
  |inl y=>exact Ok.ret rfl
  |inr y=>exact Ok.ret (ho y rfl)
theorem inqq_ok(d:List Int)(a:Int)(hl:d.length<=1000000):Ok (mQ d a) (fun _=>True):=by
 unfold mQ
 refine Ok.bind (P:=fun _=>True) (Ok.upto (d.length:Int) za (fun _=>True) trivial (fun i h0 h1 _=>?_)) (fun o _=>by cases o<;>exact Ok.ret trivial)
 unfold oG
 refine Ok.pM (fun hlt=>?_) (fun _=>Ok.st trivial)
 refine Ok.bind (Ok.get h0 hlt) (fun x _=>?_)
 refine Ok.uE (fun _=>Ok.st trivial) (fun _=>?_)
 rw [w64 za za]
 exact Ok.nx ⟨⟨za,za⟩,trivial⟩ za
theorem index_ok(es:List Ev)(p:Pick)(hl:es.length<=1000000):Ok (lg es p) (fun r=>r<es.length):=by
 unfold lg
 refine Ok.bind (P:=fun o:Unit⊕Int=>∀y,o= .inr y->y<es.length) (Ok.upto (es.length:Int) za (fun _=>True) trivial (fun i h0 h1 _=>?_)) (fun o ho=>?_)
 ·unfold nL
  refine Ok.pM (fun hlt=>?_) (fun _=>Ok.st (fun y e=>by cases e))
  refine Ok.bind (Ok.get h0 hlt) (fun x _=>?_)
  refine Ok.uS (fun _=>Ok.st (fun y e=>by cases e;exact hlt)) (fun _=>?_)
  rw [w64 za za]
  exact Ok.nx ⟨⟨za,za⟩,trivial⟩ za
 ·cases o with
  |inl y=>exact Ok.ret za
  |inr y=>exact Ok.ret (ho y rfl)
def oh(es:List Ev)(n:Nat)(r:List Int):Prop:=r.length=n∧∀x∈r,x<es.length
theorem follow_ok(l:List Alert)(es:List Ev)(hl:l.length<=1000)(hel:es.length<=1000)(hp:∀a∈l,a.ah.aa.aX.length<=1000)(hq:∀e∈es,e.aa.aX.length<=1000):Ok (kq l es) (fun r=>oh es l.length r):=by
 unfold kq
 refine Ok.bind (P:=fun o=>oh es l.length o) (Ok.loop (fun s=>(0<=s.1∧s.1<=(l.length:Int))∧oh es s.1.toNat s.2) (fun s=>((l.length:Int)-s.1).toNat) ?_ ⟨sm,by simp [oh]⟩) (fun o ho=>?_)
 ·rintro⟨i,d⟩ ⟨⟨i0,i1⟩,i2,i3⟩
  simp only at i0 i1 i2 i3
  unfold mf
  refine Ok.pM (fun hlt=>?_) (fun _=>Ok.st ⟨za,i3⟩)
  have k11:∀j:Int,j<es.length->Ok (eN d i j) (Ok.S (fun s=>(0<=s.1∧s.1<=(l.length:Int))∧oh es s.1.toNat s.2) (fun s=>((l.length:Int)-s.1).toNat) (fun o=>oh es l.length o) (i,d)):=by
   intro j hj
   have go:∀x:Int,x<es.length->oh es (i+1).toNat (d++[x]):=by
    intro x hx
    refine⟨by simp only [List.length_append,List.length_cons,List.length_nil];omega,fun y hy=>?_⟩
    rcases List.mem_append.1 hy with hy|hy
    ·exact i3 y hy
    ·obtain rfl:=List.mem_singleton.1 hy;exact hx
   unfold eN
   refine Ok.bind (inq_ok _ _ za) (fun x hx=>?_)
   rw [hx,w64 za za]
   refine Ok.uS (fun _=>?_) (fun _=>?_)
   ·refine Ok.bind (Ok.app (by simp only [List.length_cons,List.length_nil];omega)) (fun y hy=>?_)
    subst hy
    exact Ok.nx ⟨zb,go (-1) za⟩ zb
   ·refine Ok.bind (Ok.app (by simp only [List.length_cons,List.length_nil];omega)) (fun y hy=>?_)
    subst hy
    exact Ok.nx ⟨zb,go j hj⟩ zb
  refine Ok.bind (Ok.get i0 hlt) (fun x _=>Ok.sb (fun _=>?_) (fun _=>k11 _ za))
  refine Ok.bind (Ok.get i0 hlt) (fun x _=>?_)
  exact Ok.bind (index_ok _ _ za) (fun y hy=>k11 y hy)
 ·refine Ok.bind (P:=fun o=>oh es l.length o) (Ok.loop (fun s=>(0<=s.1∧s.1<=(l.length:Int))∧oh es l.length s.2) (fun s=>((l.length:Int)-s.1).toNat) ?_ ⟨zb,ho⟩) (fun o ho=>Ok.ret ho)
  rintro⟨i,d⟩ ⟨⟨i0,i1⟩,i2⟩
  simp only at i0 i1 i2
  unfold mh
  refine Ok.pM (fun hlt=>?_) (fun _=>Ok.st i2)
  refine Ok.bind (P:=fun o=>o.1=i∧oh es l.length o.2) (Ok.loop (fun s=>(0<=s.1∧s.1<=(es.length:Int))∧oh es l.length s.2) (fun s=>((es.length:Int)-s.1).toNat) ?_ ⟨zb,i2⟩) (fun o ho=>?_)
  ·rintro⟨k,d⟩ ⟨⟨k0,k1⟩,k2⟩
   simp only at k0 k1 k2
   unfold mg
   refine Ok.pM (fun hk=>?_) (fun _=>Ok.st ⟨rfl,k2⟩)
   have hdl:=k2.1
   have nx:Ok (some (.next (IntKind.wrap .i64 (k+(1:Int)),d))) (Ok.S (fun s=>(0<=s.1∧s.1<=(es.length:Int))∧oh es l.length s.2) (fun s=>((es.length:Int)-s.1).toNat) (fun o:Int×List Int=>o.1=i∧oh es l.length o.2) (k,d)):=by
    rw [w64 za za]
    exact Ok.nx ⟨zb,k2⟩ zb
   refine Ok.bind (Ok.xG i0 za) (fun _ _=>?_)
   refine Ok.bind (Ok.get i0 za) (fun x _=>Ok.pM (fun _=>?_) (fun _=>Ok.st ⟨rfl,k2⟩))
   refine Ok.bind (Ok.get i0 hlt) (fun y _=>Ok.sb (fun _=>?_) (fun _=>Ok.st ⟨rfl,k2⟩))
   refine Ok.bind (inq_ok _ _ za) (fun z hz=>?_)
   rw [hz]
   refine Ok.sb (fun _=>?_) (fun _=>nx)
   refine Ok.bind (Ok.get i0 hlt) (fun a ha=>?_)
   refine Ok.bind (Ok.get k0 hk) (fun b hb=>?_)
   rw [common36_eq]
   refine Ok.bind (common_ok _ _ (hp a ha.1) (hq b hb.1)) (fun c _=>Ok.uS (fun _=>?_) (fun _=>nx))
   refine Ok.bind (Ok.xG i0 za) (fun _ _=>?_)
   refine Ok.bind (Ok.set i0 za) (fun w hw=>?_)
   subst hw
   rw [w64 za za]
   refine Ok.nx ⟨zb,by rw [List.length_set];exact hdl,fun x hx=>?_⟩ zb
   rcases List.mem_or_eq_of_mem_set hx with h|h
   ·exact k2.2 x h
   ·subst h;exact hk
  ·obtain⟨o1,o2⟩:=o
   obtain⟨rfl,ho⟩:=ho
   simp only
   rw [w64 za za]
   exact Ok.nx ⟨zb,ho⟩ zb
theorem meets_ok(r:bD)(e:Ev):Ok (lj r e) (fun _=>True):=by
 unfold lj
 repeat' (first|refine Ok.pM (fun _=>?_) (fun _=>?_)|exact Ok.ret trivial)
theorem l6(p:Policy)(e:Ev)(h8:p.ce.length<=8):Ok (eh p e) (fun r=>0<=r∧r<=p.ce.length):=by
 unfold eh
 refine Ok.bind (P:=fun r:Int=>0<=r∧r<=(p.ce.length:Int)) (Ok.loop (fun s:Int×Int=>(0<=s.2∧s.2<=(p.ce.length:Int))∧0<=s.1∧s.1<=s.2) (fun s=>((p.ce.length:Int)-s.2).toNat) ?_ ⟨sm,sm⟩) (fun o ho=>Ok.ret ho)
 rintro⟨v,i⟩ ⟨⟨i0,i1⟩,i2,i3⟩
 simp only at i0 i1 i2 i3
 unfold na
 have hst:Ok (some (.stop v)) (Ok.S (fun s:Int×Int=>(0<=s.2∧s.2<=(p.ce.length:Int))∧0<=s.1∧s.1<=s.2) (fun s=>((p.ce.length:Int)-s.2).toNat) (fun r:Int=>0<=r∧r<=p.ce.length) (v,i)):=Ok.st ⟨i2,za⟩
 refine Ok.pM (fun hlt=>?_) (fun _=>hst)
 refine Ok.bind (nX p) (fun x _=>Ok.uE (fun _=>?_) (fun _=>hst))
 refine Ok.bind (Ok.get i0 hlt) (fun y _=>?_)
 refine Ok.bind (meets_ok _ _) (fun z _=>?_)
 rw [w64 za za]
 refine Ok.uS (fun _=>?_) (fun _=>?_)
 ·exact Ok.nx ⟨zb,zb⟩ zb
 ·exact Ok.nx ⟨zb,zb⟩ zb
theorem v24_ok(p:ai):Ok (jI p) (fun _=>True):=by
 unfold jI
 repeat' (first|refine Ok.pM (fun _=>?_) (fun _=>?_)|exact Ok.ret trivial)
theorem square_ok(p q:ai):Ok (kk p q) (fun _=>True):=by
 unfold kk iz
 refine Ok.bind (v24_ok _) (fun x _=>Ok.sb (fun _=>Ok.ret trivial) (fun _=>?_))
 refine Ok.bind (v24_ok _) (fun x _=>Ok.sb (fun _=>Ok.ret trivial) (fun _=>?_))
 simp only [zc]
 exact Ok.ret trivial
theorem moved_ok(p:Policy)(a b:Ev)(h8:p.ce.length<=8):Ok (lk p a b) (fun _=>True):=by
 unfold lk iC nK
 refine Ok.bind (nX p) (fun x _=>Ok.uP (fun _=>Ok.ret trivial) (fun _=>?_))
 refine Ok.bind (l6 p _ h8) (fun y _=>?_)
 refine Ok.bind (l6 p _ h8) (fun z _=>Ok.uP (fun _=>Ok.ret trivial) (fun _=>?_))
 refine Ok.bind (P:=fun _=>True) (Ok.ret trivial) (fun w _=>Ok.sb (fun _=>Ok.ret trivial) (fun _=>?_))
 refine Ok.pM (fun _=>?_) (fun _=>Ok.ret trivial)
 exact Ok.bind (square_ok _ _) (fun v _=>Ok.pM (fun _=>Ok.ret trivial) (fun _=>Ok.ret trivial))
theorem timely_ok(p:Policy)(e:Ev)(now:Int)(h8:p.ce.length<=8):Ok (kl p e now) (fun _=>True):=by
 unfold kl
 refine Ok.bind (l6 p e h8) (fun x hx=>Ok.uE (fun _=>Ok.ret trivial) (fun hne=>?_))
 refine Ok.pM (fun _=>?_) (fun _=>Ok.ret trivial)
 rw [w64 (n:=x-1) za za]
 exact Ok.bind (Ok.get za za) (fun y _=>Ok.ret trivial)
structure BulPre(b:Bul):Prop where
 num0:0<=b.bv
 kind0:1<=b.bX
 kind1:b.bX<=3
 id0:0<=b.fID
 id1:b.fID<=b.bv
 iss:b.fID=b.bv↔b.bX=1
 lev0:0<=b.bw
 lev1:b.bw<=8
 at0:0<=b.fAt
 at1:b.fAt<=1000000
 ev:EvOk b.ah
theorem BulPre.ok{b:Bul}(h:BulPre b)(h1:b.bv<1000):pc b:=by
 obtain⟨a1,a2,a3,a4,a5,a6,a7,a8,a9,a10,a11⟩:=h
 exact⟨a1,h1,a2,a3,a4,a5,a6,a7,a8,a9,a10,a11⟩
structure AlOk(n:Int)(a:Alert):Prop where
 id0:0<=a.fID
 id1:a.fID<n
 lev0:0<=a.bw
 lev1:a.bw<=8
 ev:EvOk a.ah
theorem AlOk.mono{n m:Int}{a:Alert}(h:AlOk n a)(hm:n<=m):AlOk m a:=⟨h.id0,by have:=h.id1;omega,h.lev0,h.lev1,h.ev⟩
def TlOk(n:Int)(l:List Bul):Prop:=(∀b∈l,BulPre b)∧∀(k:Nat)(h:k<l.length),l[k].bv=n+(k:Int)
theorem TlOk.app{n:Int}{l:List Bul}{b:Bul}(h:TlOk n l)(hb:BulPre b)(hn:b.bv=n+(l.length:Int)):TlOk n (l++[b]):=by
 refine⟨fun x hx=>?_,fun k hk=>?_⟩
 ·rcases List.mem_append.1 hx with hx|hx
  ·exact h.1 x hx
  ·obtain rfl:=List.mem_singleton.1 hx;exact hb
 ·by_cases hlt:k<l.length
  ·rw [List.getElem_append_left hlt];exact h.2 k hlt
  ·have:k=l.length:=by simp only [List.length_append,List.length_cons,List.length_nil]at hk;omega
   subst this
   simpa using hn
theorem ix{α:Type}{P:α->Prop}{l:List α}{x:α}(h:∀a∈l,P a)(hx:P x):∀a∈l++[x],P a:=by
 intro a ha
 rcases List.mem_append.1 ha with ha|ha
 ·exact h a ha
 ·obtain rfl:=List.mem_singleton.1 ha;exact hx
structure Inv(L n:Int)(s:Int×List Alert×List Bul):Prop where
 i0:0<=s.1
 i1:s.1<=L
 al:s.2.1.length=s.1.toNat
 tl:s.2.2.length<=s.1.toNat
 als:∀a∈s.2.1,AlOk n a
 tls:TlOk n s.2.2
def Fin(L:Nat)(n:Int)(o:List Alert×List Bul):Prop:=(o.1.length<=L∧o.2.length<=L)∧(∀a∈o.1,AlOk n a)∧TlOk n o.2
theorem k53_ok{Q:List Alert×List Bul->Prop}{L n now:Int}{x:Alert}{al:List Alert}{bs:List Bul}{i kind lev:Int}{wd:Bool}{e:Ev}{j12 j13 j14 j15:List UInt8}{j16 j17 j18 j19 j20:Int}(hI:Inv L n (i,al,bs))(hL:L<=200)(hn0:0<=n)(hn1:n<=1000)(hi:i<L)(hx:AlOk n x)(hk:kind=0∨kind=2∨kind=3)
  (hl0:0<=lev) (hl1:lev<=8) (hnow0:0<=now) (hnow1:now<=1000000) (he:EvOk e):
  Ok (cz bs n x now al j12 j13 j14 j15 j16 j17 j18 j19 j20 i kind wd lev e.ap.ar.aT e.ap.ar.aU e.ap.ar.ac e.ap.ar.aS e.ap.aP e.ap.aZ e.ap.bg e.ap.aI e.ap.aL e.aa.aX e.aa.ac.aO.fX e.aa.ac.aO.fY e.aa.ac.aO.fZ
   e.aa.ac.aP e.aa.ac.bc e.aa.ac.bu e.aa.ac.aF.aW.fX e.aa.ac.aF.aW.fY e.aa.ac.aF.aW.fZ e.aa.ac.aF.aN.fX e.aa.ac.aF.aN.fY e.aa.ac.aF.aN.fZ e.aa.aA.aW e.aa.aA.aN e.aa.bn)
   (Ok.S (Inv L n) (fun s=>(L-s.1).toNat) Q (i,al,bs)):=by
 obtain⟨i0,i1,i2,i3,i4,i5⟩:=hI
 simp only at i0 i1 i2 i3 i4 i5
 have hnum:IntKind.wrap .i64 (n+(bs.length:Int))=n+(bs.length:Int):=w64 za za
 unfold cz
 rw [hnum,w64 (n:=i+1) za za]
 refine Ok.pM (fun hpos=>?_) (fun _=>?_)
 ·refine Ok.bind (Ok.app (by simp only [List.length_cons,List.length_nil];omega)) (fun y hy=>?_)
  refine Ok.bind (Ok.app (by simp only [List.length_cons,List.length_nil];omega)) (fun z hz=>?_)
  subst hy hz
  refine Ok.nx ⟨zb,zb,by simp only [List.length_append,List.length_cons,List.length_nil];omega,by simp only [List.length_append,List.length_cons,List.length_nil];omega,?_,?_⟩ zb
  ·exact ix i4 ⟨hx.id0,hx.id1,hl0,hl1,he⟩
  ·have h1:=hx.id1
   refine TlOk.app i5 ⟨?_,?_,?_,hx.id0,?_,?_,hl0,hl1,hnow0,hnow1,he⟩ rfl
   ·simp only;omega
   ·simp only;omega
   ·simp only;omega
   ·simp only;omega
   ·simp only;omega
 ·refine Ok.bind (Ok.app (by simp only [List.length_cons,List.length_nil];omega)) (fun z hz=>?_)
  subst hz
  refine Ok.nx ⟨zb,zb,by simp only [List.length_append,List.length_cons,List.length_nil];omega,zb,?_,i5⟩ zb
  exact ix i4 ⟨hx.id0,hx.id1,hl0,hl1,he⟩
structure StepIn(p:Policy)(l:List Alert)(n:Int)(es:List Ev)(now:Int):Prop where
 len:l.length<=200
 als:∀a∈l,AlOk n a
 n0:0<=n
 n1:n<=1000
 elen:es.length<=4
 evs:∀e∈es,EvOk e
 now0:0<=now
 now1:now<=1000000
theorem same_get{α:Type}{l:List α}{n:Nat}{x y:α}(h:l[n]? =some x)(h':l[n]? =some y):x=y:=Option.some.inj (h.symm.trans h')
theorem k67_ok{Q:List Alert×List Bul->Prop}{p:Policy}{l:List Alert}{n:Int}{es:List Ev}{now:Int}{fl:List Int}(h:StepIn p l n es now)(h8:p.ce.length<=8)(hf:oh es l.length fl){al:List Alert}{bs:List Bul}{i:Int}(hI:Inv (l.length:Int) n (i,al,bs))(hi:i<l.length){x:Alert}(hx:AlOk n x)
  {j12 j13 j14 j15:List UInt8} {j16 j17 j18 j19 j20:Int}:Ok (fU fl i x bs n now al es p j12 j13 j14 j15 j16 j17 j18 j19 j20) (Ok.S (Inv (l.length:Int) n) (fun s=>((l.length:Int)-s.1).toNat) Q (i,al,bs)):=by
 obtain⟨a1,a2,a3,a4,a5,a6,a7,a8⟩:=h
 obtain⟨f1,f2⟩:=hf
 have i0:0<=i:=hI.i0
 have hL:(l.length:Int)<=200:=by omega
 have lv:∀{k:Int}{wd:Bool},k=0∨k=2∨k=3->Ok _ _:=fun{k wd}hk=>k53_ok (Q:=Q) (kind:=k) (wd:=wd) (j12:=j12) (j13:=j13) (j14:=j14) (j15:=j15) (j16:=j16) (j17:=j17) (j18:=j18) (j19:=j19) (j20:=j20) hI hL a3 a4 hi hx hk hx.lev0 hx.lev1 a7 a8 hx.ev
 unfold fU
 refine Ok.bind (Ok.get i0 za) (fun y hy=>?_)
 have hye:=f2 y hy.1
 refine Ok.uS (fun _=>lv (.inl rfl)) (fun _=>?_)
 refine Ok.pM (fun _=>lv (.inr (.inr rfl))) (fun hneg=>?_)
 refine Ok.bind (Ok.get za hye) (fun e1 h1=>?_)
 refine Ok.bind (l6 p _ h8) (fun v hv=>Ok.uE (fun _=>lv (.inr (.inr rfl))) (fun _=>?_))
 refine Ok.bind (Ok.get za hye) (fun e2 h2=>?_)
 refine Ok.bind (moved_ok p _ _ h8) (fun m _=>Ok.uS (fun _=>?_) (fun _=>lv (.inl rfl)))
 refine Ok.pM (fun _=>?_) (fun _=>lv (.inl rfl))
 refine Ok.bind (Ok.get za hye) (fun e3 h3=>?_)
 refine Ok.bind (l6 p _ h8) (fun v2 hv2=>?_)
 refine Ok.bind (Ok.get za hye) (fun e4 h4=>?_)
 exact k53_ok hI hL a3 a4 hi hx (.inr (.inl rfl)) hv2.1 za a7 a8 (a6 _ h4.1)
theorem step_l72{p:Policy}{l:List Alert}{n:Int}{es:List Ev}{now:Int}{fl:List Int}(h:StepIn p l n es now)(h8:p.ce.length<=8)(hf:oh es l.length fl):
  Ok (kG (kT l fl es n now p) ((0:Int),[],[])) (Fin l.length n):=by
 have hlen:=h.len
 refine Ok.loop (Inv (l.length:Int) n) (fun s=>((l.length:Int)-s.1).toNat) ?_ ⟨sm,sm,sm,sm,sm,by simp [TlOk]⟩
 rintro⟨i,al,bs⟩ hI
 have hI':=hI
 obtain⟨i0,i1,i2,i3,i4,i5⟩:=hI'
 simp only at i0 i1 i2 i3 i4 i5
 unfold kT
 refine Ok.pM (fun hlt=>?_) (fun _=>Ok.st ⟨⟨show al.length<=l.length by omega,show bs.length<=l.length by omega⟩,i4,i5⟩)
 refine Ok.bind (Ok.get i0 hlt) (fun x hx=>?_)
 have hxa:=h.als x hx.1
 have hfl:=hf.1
 refine Ok.bind (Ok.get i0 za) (fun y hy=>?_)
 refine Ok.pM (fun hpos=>?_) (fun _=>k67_ok h h8 hf hI hlt hxa)
 refine Ok.bind (Ok.get i0 za) (fun z hz=>?_)
 obtain rfl:=same_get hy.2 hz.2
 refine Ok.bind (Ok.get hpos (hf.2 y hy.1)) (fun e _=>?_)
 exact k67_ok h h8 hf hI hlt hxa
structure Inv2(L:Nat)(E n:Int)(s:Int×List Alert×List Bul):Prop where
 i0:0<=s.1
 i1:s.1<=E
 al:s.2.1.length<=L+s.1.toNat
 tl:s.2.2.length<=L+s.1.toNat
 als:∀a∈s.2.1,AlOk (n+(s.2.2.length:Int)) a
 tls:TlOk n s.2.2
def Fin2(L:Nat)(n:Int)(o:List Alert×List Bul):Prop:=(o.1.length<=L+4∧o.2.length<=L+4)∧(∀a∈o.1,AlOk (n+(o.2.length:Int)) a)∧TlOk n o.2
theorem step_l92{p:Policy}{l:List Alert}{n:Int}{es:List Ev}{now:Int}{fl:List Int}(h:StepIn p l n es now)(h8:p.ce.length<=8)(hf:oh es l.length fl){o:List Alert×List Bul}(ho:Fin l.length n o):
  Ok (kG (kU es fl p now n) ((0:Int),o.1,o.2)) (Fin2 l.length n):=by
 have hlen:=h.len
 have hel:=h.elen
 have hn0:=h.n0
 have hn1:=h.n1
 have hfl:=hf.1
 obtain⟨⟨o1,o2⟩,o3,o4⟩:=ho
 refine Ok.loop (Inv2 l.length (es.length:Int) n) (fun s=>((es.length:Int)-s.1).toNat) ?_ ⟨sm,zb,zb,zb,fun a ha=>(o3 a ha).mono za,o4⟩
 rintro⟨i,al,bs⟩ ⟨i0,i1,i2,i3,i4,i5⟩
 simp only at i0 i1 i2 i3 i4 i5
 unfold kU
 have hw:IntKind.wrap .i64 (i+1)=i+1:=w64 za za
 have hnum:IntKind.wrap .i64 (n+(bs.length:Int))=n+(bs.length:Int):=w64 za za
 dsimp only
 rw [hw,hnum]
 have nx:i<es.length->Ok (some (.next (i+1,al,bs))) (Ok.S (Inv2 l.length (es.length:Int) n) (fun s=>((es.length:Int)-s.1).toNat) (Fin2 l.length n) (i,al,bs)):=fun hlt=>
  Ok.nx ⟨zb,zb,zb,zb,i4,i5⟩ zb
 refine Ok.pM (fun hlt=>?_) (fun _=>Ok.st ⟨⟨show al.length<=l.length+4 by omega,show bs.length<=l.length+4 by omega⟩,i4,i5⟩)
 refine Ok.bind (inqq_ok _ _ za) (fun x _=>Ok.uS (fun _=>nx hlt) (fun _=>?_))
 refine Ok.bind (Ok.get i0 hlt) (fun e1 h1=>?_)
 refine Ok.bind (timely_ok p _ _ h8) (fun y _=>Ok.sb (fun _=>nx hlt) (fun _=>?_))
 refine Ok.bind (Ok.get i0 hlt) (fun e2 h2=>?_)
 refine Ok.bind (Ok.get i0 hlt) (fun e3 h3=>?_)
 refine Ok.bind (l6 p _ h8) (fun v hv=>?_)
 refine Ok.bind (Ok.get i0 hlt) (fun e4 h4=>?_)
 have he4:=h.evs e4 h4.1
 refine Ok.bind (Ok.app (by simp only [List.length_cons,List.length_nil];omega)) (fun z hz=>?_)
 refine Ok.bind (Ok.app (by simp only [List.length_cons,List.length_nil];omega)) (fun w hw=>?_)
 subst hz hw
 have hbl:((bs++[(aj.mk (n+(bs.length:Int)) 1 (n+(bs.length:Int)) now v e4)]).length:Int)=(bs.length:Int)+1:=by simp
 refine Ok.nx ⟨zb,zb,by simp only [List.length_append,List.length_cons,List.length_nil];omega,by simp only [List.length_append,List.length_cons,List.length_nil];omega,?_,?_⟩ zb
 ·simp only
  rw [hbl]
  exact ix (fun a ha=>(i4 a ha).mono za) ⟨zb,zb,hv.1,zb,he4⟩
 ·exact TlOk.app i5 ⟨zb,zb,zb,zb,zb,by simp only,hv.1,zb,h.now0,h.now1,he4⟩ rfl
theorem step_ok{p:Policy}{l:List Alert}{n:Int}{es:List Ev}{now:Int}(h:StepIn p l n es now):
  Ok (mN p l n es now) (fun r=>r.2.2=0->(r.1.length<=l.length+4∧∀a∈r.1,AlOk (n+(r.2.1.length:Int)) a)∧r.2.1.length<=l.length+4∧TlOk n r.2.1):=by
 have hlen:=h.len
 have hel:=h.elen
 have hn0:=h.n0
 have hn1:=h.n1
 have hq:∀e∈es,e.aa.aX.length<=1000:=fun e he=>by have:=(h.evs e he).sol.len;omega
 have hp:∀a∈l,a.ah.aa.aX.length<=1000:=fun a ha=>by have:=(h.als a ha).ev.sol.len;omega
 unfold mN
 refine Ok.bind (errors_ok p l n es now za za hq) (fun x hx=>Ok.uP (fun hne=>Ok.ret (fun e=>(hne e).elim)) (fun h0=>?_))
 have h8:=hx h0
 refine Ok.bind (follow_ok l es za za hp hq) (fun fl hfl=>?_)
 refine Ok.bind (step_l72 h h8 hfl) (fun o ho=>?_)
 refine Ok.bind (step_l92 h h8 hfl ho) (fun o' ho'=>?_)
 obtain⟨⟨b1,b2⟩,b3,b4⟩:=ho'
 refine Ok.pM (fun _=>Ok.ret (fun e=>by cases e)) (fun h200=>?_)
 rw [w64 za za]
 refine Ok.pM (fun hbig=>?_) (fun hsm=>Ok.ret (fun _=>⟨⟨show o'.1.length<=l.length+4 by omega,b3⟩,show o'.2.length<=l.length+4 by omega,b4⟩))
 refine Ok.pM (fun _=>Ok.ret (fun e=>by cases e)) (fun hz=>Ok.ret (fun _=>⟨⟨show o'.1.length<=l.length+4 by omega,b3⟩,show o'.2.length<=l.length+4 by omega,b4⟩))
def kD(l:List Bul):Prop:=l.length<=1000∧(∀b∈l,pc b)∧∀(k:Nat)(h:k<l.length),l[k].bv=(k:Int)
theorem kD.app{l m:List Bul}(h:kD l)(hm:TlOk (l.length:Int) m)(hn:(l.length:Int)+(m.length:Int)<=1000):kD (l++m):=by
 refine⟨by rw [List.length_append];omega,fun b hb=>?_,fun k hk=>?_⟩
 ·rcases List.mem_append.1 hb with hb|hb
  ·exact h.2.1 b hb
  ·obtain⟨k,hk,rfl⟩:=List.getElem_of_mem hb
   exact(hm.1 _ (List.getElem_mem hk)).ok (by rw [hm.2 k hk];omega)
 ·by_cases hlt:k<l.length
  ·rw [List.getElem_append_left hlt];exact h.2.2 k hlt
  ·rw [List.getElem_append_right za]
   rw [List.length_append]at hk
   rw [hm.2 (k-l.length) za];omega
theorem told_ok(d:Src)(hd:dw d):Ok (mD 4 d) (fun r=>(kD r.1∧r.1.length<=64)∧dw r.2):=by
 unfold mD
 refine Ok.bind (policy_ok d hd) (fun x hx=>?_)
 refine Ok.bind (P := fun o => (kD o.1 ∧ o.1.length ≤ 64) ∧ dw ⟨o.2.1, o.2.2⟩) (Ok.loop (fun s => (0 ≤ s.2.2.1 ∧ s.2.2.1 ≤ 4) ∧ (1000 ≤ s.2.1 ∧ s.2.1 ≤ 1000 + 400 * s.2.2.1) ∧ dw ⟨s.2.2.2.1, s.2.2.2.2.1⟩ ∧ ((s.1.length : Int) ≤ 4 * s.2.2.1 ∧ ∀ a ∈ s.1, AlOk (s.2.2.2.2.2.length : Int) a) ∧ (s.2.2.2.2.2.length : Int) ≤ 16 * s.2.2.1 ∧ kD s.2.2.2.2.2) (fun s => ((4 : Int) - s.2.2.1).toNat) ?_
  ⟨zb,sm,hx.2,sm,sm,by simp [kD]⟩) (fun o ho=>Ok.ret ho)
 rintro⟨al,now,i,L,a,bs⟩ ⟨⟨i0,i1⟩,⟨n0,n1⟩,i2,⟨i3,i4⟩,i6,i5⟩
 simp only at i0 i1 n0 n1 i2 i3 i4 i5 i6
 unfold nC
 refine Ok.pM (fun hlt=>?_) (fun _=>Ok.st ⟨⟨i5,show bs.length<=64 by omega⟩,i2⟩)
 refine Ok.bind (k7 _ _ i2 za za) (fun y hy=>?_)
 refine Ok.bind (events_ok _ hy.2.2) (fun z hz=>?_)
 rw [w64 (n:=now+y.1) za za,w64 (n:=i+1) za za]
 have hin:StepIn x.1 al (bs.length:Int) z.1 (now+y.1):=⟨za,i4,za,za,hz.1.1,hz.1.2,za,za⟩
 refine Ok.bind (step_ok hin) (fun w hw=>?_)
 refine Ok.uE (fun he=>?_) (fun _=>?_)
 ·obtain⟨⟨w1,w2⟩,w3,w4⟩:=hw he
  refine Ok.bind (Ok.app za) (fun v hv=>?_)
  subst hv
  refine Ok.nx ⟨zb,zb,hz.2,⟨zb,?_⟩,by simp only [List.length_append];omega,i5.app w4 za⟩ zb
  intro a ha
  have:=w2 a ha
  simpa using this
 ·exact Ok.nx ⟨zb,zb,hz.2,⟨zb,i4⟩,zb,i5⟩ zb
end Go.Dw.Fc
set_option maxRecDepth 100000
set_option maxHeartbeats 4000000
namespace Go.Dw.Fc
open Go.Dw Go.Lib
theorem awake_at:ia=some true:=law37_awake_le _ (by kernel_rfl)
theorem mHas_put{β:Type}(k k':Int)(v:β):∀l:List (Int×β),ub (fun a b=>a==b) k' (sZ (fun a b=>a==b) k v l)=(k'==k||ub (fun a b=>a==b) k' l)
 | []=>by by_cases h:k'=k<;>simp [sZ,ub,h]
 |e::r=>by
  have ih:=mHas_put k k' v r
  by_cases h:k=e.1
  ·subst h
   simp only [sZ,beq_self_eq_true,if_true,ub]
   by_cases h2:k'=e.1<;>simp [h2]
  ·have hb:(k==e.1)=false:=by simpa using h
   simp only [sZ,hb,Bool.false_eq_true,if_false,ub,ih]
   by_cases h2:k'=e.1<;>simp [h2]
theorem mGet_put{β:Type}(k k':Int)(v z:β):∀l:List (Int×β),pI (fun a b=>a==b) k' z (sZ (fun a b=>a==b) k v l)=if k'=k then v else pI (fun a b=>a==b) k' z l
 | []=>by by_cases h:k'=k<;>simp [sZ,pI,h]
 |e::r=>by
  have ih:=mGet_put k k' v z r
  by_cases h:k=e.1
  ·subst h
   simp only [sZ,beq_self_eq_true,if_true,pI]
   by_cases h2:k'=e.1<;>simp [h2]
  ·have hb:(k==e.1)=false:=by simpa using h
   simp only [sZ,hb,Bool.false_eq_true,if_false,pI,ih]
   by_cases h2:k'=e.1
   ·subst h2
    have:¬e.1=k:=fun e=>h e.symm
    simp [this]
   ·simp [h2]
abbrev Arr:=aB
def ArrOk(all:List Bul)(a:Arr):Prop:=∃(k:Nat)(h:k<all.length),a.da=(k:Int)∧a.ch=text all[k]
def lw(l:List Arr)(k:Int):Prop:=∃a∈l,a.da=k
def MapOk(all:List Bul)(l:List Arr)(m:List (Int×Bul)):Prop:=
 (∀k:Int,ub (fun a b=>a==b) k m=true↔lw l k)∧∀(z:Bul)(k:Nat)(h:k<all.length),ub (fun a b=>a==b) (k:Int) m=true->pI (fun a b=>a==b) (k:Int) z m=all[k]
theorem prefix_l11{all:List Bul}(hall:kD all){l:List Arr}(hl:l.length<=1000000)(ha:∀a∈l,ArrOk all a):Ok (kG (fi l) ((0:Int),[])) (MapOk all l):=by
 refine Ok.loop (fun s=>(0<=s.1∧s.1<=(l.length:Int))∧MapOk all (l.take s.1.toNat) s.2) (fun s=>((l.length:Int)-s.1).toNat) ?_ ⟨zb,by simp [MapOk,lw,ub]⟩
 rintro⟨i,m⟩ ⟨⟨i0,i1⟩,i2,i3⟩
 simp only at i0 i1 i2 i3
 unfold fi
 refine Ok.pM (fun hlt=>?_) (fun hge=>?_)
 ·refine Ok.bind (Ok.get i0 hlt) (fun a haa=>?_)
  obtain⟨k,hk,e1,e2⟩:=ha a haa.1
  rw [w64 (n:=i+1) za za]
  have htk:l.take (i+1).toNat=l.take i.toNat++[a]:=by
   rw [show(i+1).toNat=i.toNat+1 by omega,List.take_add_one,haa.2];rfl
  have hseq:∀q:Int,lw (l.take i.toNat++[a]) q↔lw (l.take i.toNat) q∨a.da=q:=by
   intro q
   simp only [lw,List.mem_append,List.mem_singleton]
   constructor
   ·rintro⟨b,hb|rfl,h⟩
    ·exact .inl ⟨b,hb,h⟩
    ·exact .inr h
   ·rintro(⟨b,hb,h⟩|h)
    ·exact⟨b,.inl hb,h⟩
    ·exact⟨a,.inr rfl,h⟩
  refine Ok.uS (fun hh=>?_) (fun hh=>?_)
  ·refine Ok.nx ⟨zb,?_⟩ zb
   simp only
   rw [htk]
   refine⟨fun q=>?_,i3⟩
   rw [hseq,i2]
   refine⟨.inl,fun h=>h.elim id (fun h=>?_)⟩
   rw [<-h];exact(i2 _).1 hh
  ·have hb:=hall.2.1 all[k] (List.getElem_mem hk)
   have hn:=hall.2.2 k hk
   rw [e2,decode_at hb,zc]
   refine Ok.uE (fun _=>?_) (fun h=>(h rfl).elim)
   refine Ok.uE (fun _=>?_) (fun h=>(h (by rw [hn,e1])).elim)
   refine Ok.nx ⟨zb,?_⟩ zb
   simp only
   rw [htk]
   refine⟨fun q=>?_,fun z q hq hh'=>?_⟩
   ·rw [hseq,mHas_put,Bool.or_eq_true,beq_iff_eq,i2]
    exact⟨fun h=>h.elim (fun h=>.inr h.symm) .inl,fun h=>h.elim .inr (fun h=>.inl h.symm)⟩
   ·rw [mGet_put]
    by_cases hqk:(q:Int)=a.da
    ·rw [if_pos hqk]
     obtain rfl:q=k:=by omega
     rfl
    ·rw [if_neg hqk]
     rw [mHas_put,Bool.or_eq_true,beq_iff_eq]at hh'
     exact i3 z q hq (hh'.resolve_left hqk)
 ·have:l.take i.toNat=l:=List.take_of_length_le za
  rw [this]at i2
  exact Ok.st ⟨i2,i3⟩
theorem prefix_at{all:List Bul}(hall:kD all){l:List Arr}(hl:l.length<=1000000)(ha:∀a∈l,ArrOk all a):
  Ok (fK l) (fun r=>∃m:Nat,m<=all.length∧r=all.take m∧(∀j:Nat,j<m->lw l (j:Int))∧¬lw l (m:Int)):=by
 have hN:=hall.1
 unfold fK
 refine Ok.bind (prefix_l11 hall hl ha) (fun o ho=>?_)
 obtain⟨m1,m2⟩:=ho
 refine Ok.bind (P:=fun r=>∃m:Nat,m<=all.length∧r=all.take m∧(∀j:Nat,j<m->lw l (j:Int))∧¬lw l (m:Int)) (Ok.loop (fun s=>∃m:Nat,s.1=(m:Int)∧m<=all.length∧s.2=all.take m∧∀j:Nat,j<m->lw l (j:Int)) (fun s=>((all.length:Int)-s.1).toNat) ?_ ⟨0,rfl,za,sm,fun j hj=>za⟩) (fun r hr=>Ok.ret hr)
 rintro⟨i,out⟩ ⟨m,e1,h1,e2,h2⟩
 simp only at e1 e2
 subst e1 e2
 unfold gG
 refine Ok.sb (fun hh=>Ok.st ⟨m,h1,rfl,h2,fun hs=>?_⟩) (fun hh=>?_)
 ·rw [(m1 _).2 hs]at hh;cases hh
 ·have hs:=(m1 _).1 hh
  have hlt:m<all.length:=by
   obtain⟨a,ham,haq⟩:=hs
   obtain⟨k,hk,e3, -⟩:=ha a ham
   omega
  simp only [m2 _ m hlt hh]
  refine Ok.bind (Ok.app (by simp only [List.length_cons,List.length_nil,List.length_take];omega)) (fun y hy=>?_)
  subst hy
  rw [w64 za za]
  refine Ok.nx ⟨m+1,zb,za,?_,fun j hj=>?_⟩ zb
  ·simp only
   rw [qF hlt]
  ·by_cases hjm:j<m
   ·exact h2 j hjm
   ·obtain rfl:j=m:=by omega
    exact hs
theorem sames_self{l:List Bul}(hl:l.length<=1000000)(h:∀b∈l,b.ah.aa.aX.length<=1000000):eD l l=some true:=by
 unfold eD
 rw [if_neg sm,l8 l (u:= .inl ())]
 ·rfl
 ·intro i hi
  unfold eY
  rw [if_pos so,p7 rfl hi,zc,zc,same_self (h _ (List.getElem_mem hi)),zc,if_neg sm,w64 za za]
  simp
 ·unfold eY
  rw [if_neg sm]
end Go.Dw.Fc
set_option maxRecDepth 100000
set_option maxHeartbeats 4000000
namespace Go.Dw.Fc
open Go.Dw Go.Proofs
def tabL:List Int:=[0,1996959894,3993919788,2567524794,124634137,1886057615,3915621685,2657392035,249268274,2044508324,3772115230,2547177864,162941995,2125561021,3887607047,2428444049,498536548,1789927666,4089016648,2227061214,450548861,1843258603,4107580753,2211677639,325883990,1684777152,4251122042,2321926636,335633487,1661365465,4195302755,2366115317,997073096,1281953886,3579855332,2724688242,1006888145,1258607687,3524101629,2768942443,901097722,1119000684,3686517206,2898065728,853044451,1172266101,3705015759,2882616665,651767980,1373503546,3369554304,3218104598,565507253,1454621731,3485111705,3099436303,671266974,1594198024,3322730930,2970347812,795835527,1483230225,3244367275,3060149565,1994146192,31158534,2563907772,4023717930,1907459465,112637215,2680153253,3904427059,2013776290,251722036,2517215374,3775830040,2137656763,141376813,2439277719,3865271297,1802195444,476864866,2238001368,4066508878,1812370925,453092731,2181625025,4111451223,1706088902,314042704,2344532202,4240017532,1658658271,366619977,2362670323,4224994405,1303535960,984961486,2747007092,3569037538,1256170817,1037604311,2765210733,3554079995,1131014506,879679996,2909243462,3663771856,1141124467,855842277,2852801631,3708648649,1342533948,654459306,3188396048,3373015174,1466479909,544179635,3110523913,3462522015,1591671054,702138776,2966460450,3352799412,1504918807,783551873,3082640443,3233442989,3988292384,2596254646,62317068,1957810842,3939845945,2647816111,81470997,1943803523,3814918930,2489596804,225274430,2053790376,3826175755,2466906013,167816743,2097651377,4027552580,2265490386,503444072,1762050814,4150417245,2154129355,426522225,1852507879,4275313526,2312317920,282753626,1742555852,4189708143,2394877945,397917763,1622183637,3604390888,2714866558,953729732,1340076626,3518719985,2797360999,1068828381,1219638859,3624741850,2936675148,906185462,1090812512,3747672003,2825379669,829329135,1181335161,3412177804,3160834842,628085408,1382605366,3423369109,3138078467,570562233,1426400815,3317316542,2998733608,733239954,1555261956,3268935591,3050360625,752459403,1541320221,2607071920,3965973030,1969922972,40735498,2617837225,3943577151,1913087877,83908371,2512341634,3803740692,2075208622,213261112,2463272603,3855990285,2094854071,198958881,2262029012,4057260610,1759359992,534414190,2176718541,4139329115,1873836001,414664567,2282248934,4279200368,1711684554,285281116,2405801727,4167216745,1634467795,376229701,2685067896,3608007406,1308918612,956543938,2808555105,3495958263,1231636301,1047427035,2932959818,3654703836,1088359270,936918000,2847714899,3736837829,1202900863,817233897,3183342108,3401237130,1404277552,615818150,3134207493,3453421203,1423857449,601450431,3009837614,3294710456,1567103746,711928724,3020668471,3272380065,1510334235,755167117]
theorem pf:lV=some tabL:=by
 have h:kG ov ((0:Int),(List.replicate 256 (0:Int)))=some tabL:=qO (n:=300) (by kernel_rfl)
 unfold lV
 rw [h]
 change _=_
 kernel_rfl
theorem cmp_int(a b:Int):fg a b=some (cmpI a b):=by
 unfold fg gx cmpI
 simp only [bne_self_eq_false,zc,Bool.false_eq_true,if_false,decide_eq_true_eq]
 split
 ·rfl
 ·split<;>rfl
theorem lit2_eq(a b:ae):bW a b=some (cmpI a.bd b.bd):=by
 unfold bW
 rw [cmp_int];rfl
theorem lt3N:lt3 bW=fun x y=>decide (cmpI x.bd y.bd<0):=by
 funext x y
 unfold lt3
 rw [lit2_eq];rfl
theorem lit2_ok:zO bW:=⟨fun x y=>⟨_,lit2_eq x y⟩,by rw [lt3N];exact(cmpI_tot.map fun x:ae=>x.bd).swo⟩
end Go.Dw.Fc
set_option maxRecDepth 100000
set_option maxHeartbeats 4000000
namespace Go.Dw.Fc
open Go.Dw Go.Proofs
theorem modN_at{α:Type}{l:List α}{n:Int}{i:Nat}{f:α->α}(hn:n=i)(hi:i<l.length):xH l n f=some (l.set i (f l[i])):=by
 subst hn
 unfold xH
 rw [if_pos za,Int.toNat_natCast,zd hi]
theorem wK{α:Type}{cmp:α->α->Option Int}(hc:zO cmp)(l:List α)(hl:l.length<4611686018427387904):∃r,vo cmp l=some r∧r.Perm l∧r.Pairwise (fun x y=>lt3 cmp y x=false):=by
 cases l with
 |nil=>exact⟨[],rfl,.nil,.nil⟩
 |cons a l=>
  have h:∃r,vo cmp (a::l)=some r:=⟨_,by rw [sx,if_pos ⟨hc,hl⟩]⟩
  obtain⟨r,hr⟩:=h
  refine⟨r,hr,yy hr,?_⟩
  rw [sx,if_pos ⟨hc,hl⟩]at hr
  letI:Inhabited α:=⟨a⟩
  have:=Sort.pdq_sorts (lt3 cmp) hc.2 (a::l).toArray 0 (a::l).length (Lib.bitLen (a::l).length) true true (Nat.zero_le _) sm (.inl rfl)
  obtain⟨⟨hs, -, -⟩,hso⟩:=this
  have hr:=Option.some.inj hr
  rw [List.pairwise_iff_getElem]
  intro i j hi hj hij
  subst hr
  have hsz:(Sort.pdq (lt3 cmp) (a::l).toArray 0 (a::l).length (Lib.bitLen (a::l).length) true true).size=(a::l).length:=by simpa using hs
  have hi':i<(Sort.pdq (lt3 cmp) (a::l).toArray 0 (a::l).length (Lib.bitLen (a::l).length) true true).size:=by simpa using hi
  have hj':j<(Sort.pdq (lt3 cmp) (a::l).toArray 0 (a::l).length (Lib.bitLen (a::l).length) true true).size:=by simpa using hj
  have h1:=hso i j (Nat.zero_le _) hij za
  rw [getElem!_pos _ i hi',getElem!_pos _ j hj']at h1
  simpa using h1
theorem mz{α:Type}{l m:List α}{b:Nat}(h:(l.length+m.length)*b<=140737488355328):qq l m b=some (l++m):=by unfold qq;rw [if_pos h]
theorem gw{α:Type}{n:Nat}{l:List α}(h:l.length*n<=140737488355328):rb n l=some l:=by
 unfold rb;rw [if_pos h]
theorem loop_first{α ω:Type}{body:Int->Option (oJ Int (Unit⊕ω))}(l:List α){p:α->Bool}{f:Nat->α->ω}
  (h1:∀(i:Nat)(hi:i<l.length),body i=if p l[i]=true then some (.stop (.inr (f i l[i])))else some (.next ((i+1:Nat):Int)))
  (h2:body (l.length:Nat)=some (.stop (.inl ()))):
  (kG body (0:Int)=some (.inl ())∧∀x∈l,p x=false)∨
  ∃(i:Nat)(hi:i<l.length),kG body (0:Int)=some (.inr (f i l[i]))∧p l[i]=true∧∀x∈l.take i,p x=false:=by
 have:∀k i,i+k=l.length->(∀x∈l.take i,p x=false)->(kG body (i:Int)=some (.inl ())∧∀x∈l,p x=false)∨
   ∃(j:Nat)(hj:j<l.length),kG body (i:Int)=some (.inr (f j l[j]))∧p l[j]=true∧∀x∈l.take j,p x=false:=by
  intro k
  induction k with
  |zero=>
   intro i hi ha
   obtain rfl:i=l.length:=by omega
   exact .inl ⟨qx h2,by simpa using ha⟩
  |succ k ih=>
   intro i hi ha
   have hlt:i<l.length:=by omega
   cases hp:p l[i]with
   |true=>exact .inr ⟨i,hlt,qx (by rw [h1 i hlt,if_pos hp]),hp,ha⟩
   |false=>
    have e:=rq (ω:=Unit⊕ω) (body:=body) (s:=(i:Int)) (s':=((i+1:Nat):Int)) (by rw [h1 i hlt,if_neg (by simp [hp])])
    rw [e]
    refine ih (i+1) za fun x hx=>?_
    rw [qF hlt]at hx
    rcases List.mem_append.1 hx with hx|hx
    ·exact ha x hx
    ·rw [List.mem_singleton.1 hx];exact hp
 have:=this l.length 0 za sm
 simpa using this
abbrev Span:=ae
def Nrm(l:List Span):Prop:=(∀s∈l,s.bd<s.fTo)∧l.Pairwise (fun a b=>a.fTo<b.bd)
theorem Nrm.snoc{l:List Span}(h:Nrm l){x:Span}(hx:x.bd<x.fTo)(hl:∀s∈l,s.fTo<x.bd):Nrm (l++[x]):=by
 refine⟨fun s hs=>?_,List.pairwise_append.2 ⟨h.2,sm,fun a ha b hb=>?_⟩⟩
 ·rcases List.mem_append.1 hs with hs|hs
  ·exact h.1 s hs
  ·rw [List.mem_singleton.1 hs];exact hx
 ·rw [List.mem_singleton.1 hb];exact hl a ha
theorem Nrm.last{l:List Span}{x y:Span}(h:Nrm (l++[x]))(hf:y.bd=x.bd)(hy:y.bd<y.fTo):Nrm (l++[y]):=by
 obtain⟨h1,h2⟩:=h
 obtain⟨p1, -,p3⟩:=List.pairwise_append.1 h2
 exact Nrm.snoc ⟨fun s hs=>h1 s (by simp [hs]),p1⟩ hy fun s hs=>by rw [hf];exact p3 s hs x sm
def cU(l:List Span)(y:Int):Prop:=∃s,s∈l∧s.bd<=y∧y<s.fTo
theorem iq(l m:List Span)(y:Int):cU (l++m) y↔cU l y∨cU m y:=by
 unfold cU
 constructor
 ·rintro⟨s,hs,h⟩
  rcases List.mem_append.1 hs with hs|hs
  ·exact .inl ⟨s,hs,h⟩
  ·exact .inr ⟨s,hs,h⟩
 ·rintro(⟨s,hs,h⟩|⟨s,hs,h⟩)
  ·exact⟨s,by simp [hs],h⟩
  ·exact⟨s,by simp [hs],h⟩
theorem ir(s:Span)(y:Int):cU [s] y↔s.bd<=y∧y<s.fTo:=by
 unfold cU
 constructor
 ·rintro⟨t,ht,h⟩;rw [List.mem_singleton.1 ht]at h;exact h
 ·intro h;exact⟨s,sm,h⟩
theorem merge_ok{m:List Span}(hl:m.length<=4000000000)(hv:∀s∈m,s.bd<s.fTo)(hs:m.Pairwise (fun x y=>x.bd<=y.bd)):
  ∃out,kG (gP m) ((0:Int),([]:List Span))=some out∧out.length<=m.length∧Nrm out∧∀y,cU out y↔cU m y:=by
 have hp:=List.pairwise_iff_getElem.1 hs
 obtain⟨o,h,hq⟩:=Ao (body:=gP m) (fun st:Int×List Span=>∃i:Nat,st.1=(i:Int)∧i<=m.length∧st.2.length<=i∧Nrm st.2∧(∀y,cU st.2 y↔cU (m.take i) y)∧(∀s:Span,s∈st.2->∃j,∃hj:j<m.length,j<i∧s.bd=m[j].bd)) (fun s=>((m.length:Int)-s.1).toNat)
  (fun o => o.length ≤ m.length ∧ Nrm o ∧ ∀ y, cU o y ↔ cU m y) (by
  rintro⟨s,out⟩ ⟨i,hi0,hi,ho,hN,hc,hf⟩
  simp only at hi0 ho hN hc hf
  subst hi0
  unfold gP
  simp only
  by_cases hlt:i<m.length
  ·have happ:qq out [m[i]] 16=some (out++[m[i]]):=mz so
   rw [if_pos (decide_eq_true za),u5 za za,p7 rfl hlt,w64 (n:=(i:Int)+1) za za]
   simp only [zc,happ]
   have htk:∀y,cU (m.take (i+1)) y↔cU (m.take i) y∨(m[i].bd<=y∧y<m[i].fTo):=fun y=>by rw [qF hlt,iq,ir]
   have hvi:=hv _ (List.getElem_mem hlt)
   have hfull:Nrm (out++[m[i]])->(∃i':Nat,((i+1:Nat):Int)=(i':Int)∧i'<=m.length∧(out++[m[i]]).length<=i'∧Nrm (out++[m[i]])∧(∀y,cU (out++[m[i]]) y↔cU (m.take i') y)∧(∀s∈out++[m[i]],∃j,∃hj:j<m.length,j<i'∧s.bd=m[j].bd)):=fun hN'=>by
    refine⟨i+1,rfl,za,so,hN',fun y=>by rw [iq,ir,htk,hc],fun s hs=>?_⟩
    rcases List.mem_append.1 hs with hs|hs
    ·obtain⟨j,hj,h1,h2⟩:=hf s hs
     exact⟨j,hj,za,h2⟩
    ·rw [List.mem_singleton.1 hs];exact⟨i,hlt,za,rfl⟩
   have hoc:out=[]∨∃init last,out=init++[last]:=by
    rcases List.eq_nil_or_concat out with h|⟨init,last,h⟩
    ·exact .inl h
    ·exact .inr ⟨init,last,by rw [h];simp⟩
   rcases hoc with rfl|⟨init,last,rfl⟩
   ·rw [if_neg sm]
    exact .inl ⟨_,rfl,hfull ⟨by simpa using hvi,sm⟩,zb⟩
   ·have hlen:(init++[last]).length=init.length+1:=by simp
    rw [if_pos (decide_eq_true za),hlen]
    have hw:IntKind.wrap .i64 (((init.length+1:Nat):Int)-1)=(init.length:Int):=by rw [w64 za za];omega
    have hg:(init++[last])[init.length]'sm=last:=by simp
    rw [hw,u5 za za,p7 (i:=init.length) rfl za,hg]
    simp only [zc]
    by_cases hm:m[i].bd<=last.fTo
    ·rw [if_pos (decide_eq_true hm),modN_at (i:=init.length) rfl za,hg,zc]
     have hset:∀v:Span,(init++[last]).set init.length v=init++[v]:=fun v=>by simp
     rw [hset]
     obtain⟨j,hj,h1,h2⟩:=hf last sm
     have hle:last.bd<=m[i].bd:=by rw [h2];exact hp j i hj hlt h1
     refine .inl ⟨_,rfl,⟨i+1,rfl,za,by simp at ho⊢;omega,hN.last rfl (by have:=hN.1 last sm;simp only;split<;>omega),fun y=>?_,fun s hs=>?_⟩,zb⟩
     ·rw [htk, <-hc,iq,iq,ir,ir]
      simp only
      split
      ·constructor
       ·rintro(h|h)
        ·exact .inl (.inl h)
        ·by_cases hy:y<last.fTo
         ·exact .inl (.inr ⟨h.1,hy⟩)
         ·exact .inr ⟨za,h.2⟩
       ·rintro((h|h)|h)
        ·exact .inl h
        ·exact .inr ⟨h.1,za⟩
        ·exact .inr ⟨za,h.2⟩
      ·constructor
       ·rintro(h|h)
        ·exact .inl (.inl h)
        ·exact .inl (.inr h)
       ·rintro((h|h)|h)
        ·exact .inl h
        ·exact .inr h
        ·exact .inr ⟨za,za⟩
     ·rcases List.mem_append.1 hs with hs|hs
      ·obtain⟨j',hj',h1',h2'⟩:=hf s (by simp [hs])
       exact⟨j',hj',za,h2'⟩
      ·rw [List.mem_singleton.1 hs];exact⟨j,hj,za,h2⟩
    ·rw [if_neg (by simpa using hm)]
     refine .inl ⟨_,rfl,hfull (hN.snoc hvi fun s hs=>?_),zb⟩
     rcases List.mem_append.1 hs with hs|hs
     ·have h1:=(List.pairwise_append.1 hN.2).2.2 s hs last sm
      have h2:=hN.1 last sm
      omega
     ·rw [List.mem_singleton.1 hs];omega
  ·rw [if_neg so]
   refine .inr ⟨_,rfl,za,hN,fun y=>?_⟩
   rw [hc,List.take_of_length_le za]) (0,[]) ⟨0,rfl,Nat.zero_le _,sm,⟨sm,sm⟩,fun y=>sm,sm⟩
 exact⟨o,h,hq⟩
theorem lit1_at(s:Span):gi s=some (!decide (s.bd<s.fTo)):=rfl
theorem del_ok{l:List Span}(hl:l.length<=1000000):b7 l=some (l.filter fun s=>decide (s.bd<s.fTo)):=by
 have h1:∀(i:Nat)(hi:i<l.length),bS l (i:Int)=if(!decide (l[i].bd<l[i].fTo))=true then some (.stop (.inr ((i:Int),l)))else some (.next ((i+1:Nat):Int)):=by
  intro i hi
  unfold bS
  rw [if_pos so,u5 za za,zc,p7 rfl hi,zc,lit1_at,zc,w64 za za]
  simp
 have h2:bS l (l.length:Nat)=some (.stop (.inl ())):=by
  unfold bS
  rw [if_neg sm]
 unfold b7 dD
 rcases loop_first l (p:=fun s=> !decide (s.bd<s.fTo)) (f:=fun i _=>((i:Int),l)) h1 h2 with⟨e,h⟩|⟨i,hi,e,hp,h⟩
 ·rw [e]
  have:l.filter (fun s=>decide (s.bd<s.fTo))=l:=List.filter_eq_self.2 fun s hs=>by simpa using h s hs
  rw [this];rfl
 ·rw [e,zc]
  dsimp only
  rw [zc,if_neg sm,w64 za za]
  have hpre:(l.take i).filter (fun s=>decide (s.bd<s.fTo))=l.take i:=List.filter_eq_self.2 fun s hs=>by simpa using h s hs
  have hli:(l.take (i+1)).filter (fun s=>decide (s.bd<s.fTo))=l.take i:=by
   rw [qF hi,List.filter_append,hpre]
   have:¬l[i].bd<l[i].fTo:=by simpa using hp
   simp [this]
  have key:Ok (kG cP ((i:Int),(i:Int)+1,l)) (fun o=>∃k:Nat,o.1=k∧k<=l.length∧o.2.length=l.length∧o.2.take k=l.filter (fun s=>decide (s.bd<s.fTo))):=by
   refine Ok.loop (fun s=>∃k j:Nat,s.1=k∧s.2.1=j∧k<j∧j<=l.length∧s.2.2.length=l.length∧s.2.2.take k=(l.take j).filter (fun s=>decide (s.bd<s.fTo))∧s.2.2.drop j=l.drop j) (fun s=>((l.length:Int)-s.2.1).toNat) ?_ ⟨i,i+1,rfl,sm,za,za,rfl,hli.symm,rfl⟩
   rintro⟨s3,s4,s5⟩ ⟨k,j,i0,i1,i2,i3,i4,i5,i6⟩
   simp only at i0 i1 i4 i5 i6
   subst i0 i1
   unfold cP
   dsimp only
   refine Ok.pM (fun hlt=>?_) (fun hge=>?_)
   ·have hj:j<l.length:=by omega
    have hx:s5[j]'za=l[j]:=by
     rw [List.drop_eq_getElem_cons za,List.drop_eq_getElem_cons hj]at i6
     exact(List.cons.inj i6).1
    have hd:s5.drop (j+1)=l.drop (j+1):=by
     rw [List.drop_eq_getElem_cons za,List.drop_eq_getElem_cons hj]at i6
     exact(List.cons.inj i6).2
    rw [u5 za za,zc,p7 (i:=j) rfl za,zc,hx,lit1_at,zc,Bool.not_not,w64 (n:=(j:Int)+1) za za]
    refine Ok.pM (fun hs=>?_) (fun hs=>?_)
    ·rw [u5 za za,zc,setO_at (i:=k) rfl za,zc,w64 za za]
     refine Ok.nx ⟨k+1,j+1,sm,sm,za,za,by simpa using i4,?_,?_⟩ zb
     ·simp only
      rw [List.take_succ_eq_append_getElem (by rw [List.length_set];omega),List.getElem_set_self,List.take_set_of_le (Nat.le_refl _),i5,qF hj,List.filter_append]
      simp [hs]
     ·simp only
      rw [List.drop_set_of_lt za,hd]
    ·refine Ok.nx ⟨k,j+1,rfl,sm,za,za,i4,?_,hd⟩ zb
     simp only
     rw [i5,qF hj,List.filter_append]
     simp [hs]
   ·have:j=l.length:=by omega
    subst this
    exact Ok.st ⟨k,rfl,za,i4,by rw [i5,List.take_length]⟩
  obtain⟨⟨o1,o2⟩,eo,k,hk,hkl,hol,hot⟩:=key
  simp only at hk hol hot
  subst hk
  rw [eo,zc]
  dsimp only
  have t1:(0+((k:Int)).toNat)=k:=by omega
  have t2:(0+((o2.length:Int)).toNat)=o2.length:=by omega
  have t4:((k:Int)).toNat=k:=by omega
  have hcl:(uu o2 k (o2.length-k) ⟨0,0⟩).length=o2.length:=by
   unfold uu;simp;omega
  rw [t1,t2,t4,zM za za za,zc,AF za za,zc,zM za za (by rw [hcl];omega),zc, <-hot]
  unfold uu
  rw [List.append_assoc,List.take_append_of_le_length so,List.take_take,Nat.min_self]
theorem jh{l:List Span}(hl:l.length<=1000000):Ok (cj l) (fun out=>out.length<=l.length∧Nrm out∧∀y,cU out y↔cU l y):=by
 obtain⟨f,hf,hfl,hfm⟩:∃f:List Span,b7 l=some f∧f.length<=l.length∧∀s,s∈f↔s∈l∧s.bd<s.fTo:=
  ⟨_,del_ok hl,List.length_filter_le _ _,fun s=>by rw [List.mem_filter,decide_eq_true_eq]⟩
 obtain⟨m,e1,hp,hs⟩:=wK lit2_ok f za
 have hml:=hp.length_eq
 have hmem:∀s,s∈m↔s∈l∧s.bd<s.fTo:=fun s=>by rw [hp.mem_iff,hfm]
 obtain ⟨out, e2, h1, hN, h2⟩ := merge_ok (m := m) za (fun s h => ((hmem s).1 h).2) (hs.imp fun {a b} h => by
  rw [lt3N]at h
  simp only [decide_eq_false_iff_not]at h
  unfold cmpI at h
  by_cases h':b.bd<a.bd
  ·rw [if_pos h']at h;omega
  ·omega)
 refine⟨out,?_,za,hN,fun y=>(h2 y).trans ?_⟩
 ·unfold cj
  rw [gw za,zc,hf,zc,e1,zc,e2];rfl
 ·unfold cU
  constructor
  ·rintro⟨s,hs,h⟩;exact⟨s,((hmem s).1 hs).1,h⟩
  ·rintro⟨s,hs,h⟩;exact⟨s,(hmem s).2 ⟨hs,za⟩,h⟩
theorem Nrm.before{l:List Span}(h:Nrm l){i j:Nat}(hij:i<j)(hj:j<l.length):(l[i]'za).fTo<l[j].bd:=List.pairwise_iff_getElem.1 h.2 i j za hj hij
theorem minus_ok{a b:List Span}(ha:a.length<=100)(hb:b.length<=100):Ok (f8 a b) (fun r=>r.length<=10100∧∀t,cU a t->¬cU b t->cU r t):=by
 unfold f8
 refine Ok.bind (jh za) (fun y hy=>?_)
 refine Ok.bind (jh za) (fun x hx=>?_)
 obtain⟨hxl,hxN,hx⟩:=hx
 obtain⟨hyl,hyN,hy⟩:=hy
 refine Ok.bind (P:=fun r=>r.length<=10100∧∀t,cU x t->¬cU y t->cU r t) ?_ (fun o ho=>Ok.ret ⟨ho.1,fun t h1 h2=>ho.2 t ((hx t).2 h1) fun h=>h2 ((hy t).1 h)⟩)
 refine Ok.loop (fun s=>∃i:Nat,s.1=i∧i<=x.length∧s.2.length<=i*101∧∀t,cU (x.take i) t->¬cU y t->cU s.2 t) (fun s=>((x.length:Int)-s.1).toNat) ?_ ⟨0,rfl,Nat.zero_le _,sm,fun t h=>by obtain⟨s,hs, -⟩:=h;simp at hs⟩
 rintro⟨s3,s4⟩ ⟨i,i0,i1,i2,i3⟩
 simp only at i0 i2 i3
 subst i0
 unfold k5
 dsimp only
 refine Ok.pM (fun hlt=>?_) (fun hge=>?_)
 rotate_left
 ·have:i=x.length:=by omega
  subst this
  exact Ok.st ⟨za,by simpa using i3⟩
 have hi:i<x.length:=by omega
 rw [p7 rfl hi,zc]
 refine Ok.bind (P:=fun o=>o.2.1=(i:Int)∧o.2.2.length<=s4.length+y.length∧(∀t,cU s4 t->cU o.2.2 t)∧∀t,x[i].bd<=t->t<x[i].fTo->¬cU y t->cU o.2.2 t∨o.1<=t)
  (Ok.loop (fun s=>∃j:Nat,s.2.1=j∧j<=y.length∧s.2.2.length<=s4.length+j∧(∀t,cU s4 t->cU s.2.2 t)∧∀t,x[i].bd<=t->t<x[i].fTo->¬cU y t->cU s.2.2 t∨s.1<=t) (fun s=>((y.length:Int)-s.2.1).toNat) ?_ ⟨0,rfl,Nat.zero_le _,sm,fun _ h=>h,fun t h _ _=>.inr h⟩) ?_
 ·rintro⟨s9,s10,s11⟩ ⟨j,j0,j1,j2,j3,j4⟩
  simp only at j0 j2 j3 j4
  subst j0
  unfold nT
  dsimp only
  refine Ok.pM (fun hlt=>?_) (fun _=>Ok.st ⟨rfl,zb,j3,j4⟩)
  have hj:j<y.length:=by omega
  rw [p7 rfl hj,zc,w64 (n:=(j:Int)+1) za za]
  have hno:∀t,¬cU y t->¬(y[j].bd<=t∧t<y[j].fTo):=fun t h h'=>h ⟨y[j],List.getElem_mem hj,h'⟩
  refine Ok.pM (fun _=>Ok.nx ⟨j+1,sm,za,zb,j3,j4⟩ zb) (fun h1=>?_)
  refine Ok.pM (fun _=>Ok.nx ⟨j+1,sm,za,zb,j3,j4⟩ zb) (fun h2=>?_)
  refine Ok.pM (fun h3=>?_) (fun h3=>?_)
  ·rw [mz (by simp only [List.length_cons,List.length_nil];omega),zc]
   refine Ok.nx ⟨j+1,sm,za,by simp only [List.length_append,List.length_cons,List.length_nil];omega,fun t h=>(iq _ _ _).2 (.inl (j3 t h)),fun t g1 g2 g3=>?_⟩ zb
   simp only [iq,ir]
   rcases j4 t g1 g2 g3 with h|h
   ·exact .inl (.inl h)
   ·have:=hno t g3
    by_cases h4:t<y[j].bd
    ·exact .inl (.inr ⟨h,h4⟩)
    ·refine .inr ?_
     split<;>omega
  ·refine Ok.nx ⟨j+1,sm,za,zb,j3,fun t g1 g2 g3=>?_⟩ zb
   rcases j4 t g1 g2 g3 with h|h
   ·exact .inl h
   ·have:=hno t g3
    refine .inr ?_
    simp only
    split<;>omega
 ·rintro⟨o1,o2,o3⟩ ⟨e1,e2,e3,e4⟩
  simp only at e1 e2 e3 e4
  subst e1
  dsimp only
  rw [w64 (n:=(i:Int)+1) za za]
  have htk:∀{t},cU (x.take (i+1)) t->cU (x.take i) t∨(x[i].bd<=t∧t<x[i].fTo):=fun{t}h=>by
   rw [qF hi,iq,ir]at h;exact h
  refine Ok.pM (fun h1=>?_) (fun h1=>?_)
  ·rw [mz (by simp only [List.length_cons,List.length_nil];omega),zc]
   refine Ok.nx ⟨i+1,sm,za,by simp only [List.length_append,List.length_cons,List.length_nil];omega,fun t h hn=>?_⟩ zb
   simp only [iq,ir]
   rcases htk h with h|h
   ·exact .inl (e3 t (i3 t h hn))
   ·rcases e4 t h.1 h.2 hn with h'|h'
    ·exact .inl h'
    ·exact .inr ⟨h',h.2⟩
  ·refine Ok.nx ⟨i+1,sm,za,zb,fun t h hn=>?_⟩ zb
   rcases htk h with h|h
   ·exact e3 t (i3 t h hn)
   ·rcases e4 t h.1 h.2 hn with h'|h'
    ·exact h'
    ·omega
end Go.Dw.Fc
set_option maxRecDepth 100000
set_option maxHeartbeats 4000000
namespace Go.Dw.Fc
open Go.Dw Go.Proofs
theorem inG{a b c:Int}(h:b<=a∧a<=c):(if(decide (a>=b))=true then(some (decide (a<=c)))else(some false))=some true:=by
 rw [if_pos (decide_eq_true h.1),decide_eq_true h.2]
theorem sin_t{a b c:Int}(h:b<=a∧a<=c):di a b c=some true:=inG h
theorem din_t{a b c:Int}(h:b<=a∧a<=c):jm a b c=some true:=inG h
theorem lin_t{a b c:Int}(h:b<=a∧a<=c):ld a b c=some true:=inG h
theorem rin_t{a b c:Int}(h:b<=a∧a<=c):ib a b c=some true:=inG h
theorem and255(x:Int):0<=sQ .i64 x 255∧sQ .i64 x 255<256:=by
 unfold sQ
 have h:(BitVec.ofInt IntKind.i64.bits x &&& BitVec.ofInt IntKind.i64.bits 255).toNat<=255:=by
  rw [BitVec.toNat_and]
  exact Nat.le_trans Nat.and_le_right (by decide)
 rw [w64 za za]
 omega
theorem tab_len:tabL.length=256:=by kernel_rfl
theorem update_ok(s:List UInt8)(hs:s.length<=1000000):Ok (mB 0 s) (fun _=>True):=by
 unfold mB
 rw [if_neg (by decide),if_neg (by decide),pf,zc]
 have h1:vd 256 (List.replicate 256 (0:Int))=some (List.replicate 256 (0:Int)):=by unfold vd;rw [if_pos sm]
 have h2:vd 256 tabL=some tabL:=by unfold vd;rw [if_pos tab_len]
 rw [h1,zc,h2,zc]
 refine Ok.bind (P:=fun _=>True) ?_ (fun _ _=>Ok.ret trivial)
 refine Ok.loop (fun st=>0<=st.2∧st.2<=s.length) (fun st=>((s.length:Int)-st.2).toNat) ?_ ⟨Int.le_refl _,sm⟩
 rintro⟨r,i⟩ ⟨h0,h3⟩
 simp only at h0 h3
 unfold nu
 dsimp only
 refine Ok.pM (fun hlt=>?_) (fun _=>Ok.st trivial)
 refine Ok.bind (Ok.byte za za) (fun x _=>?_)
 have:=and255 (qV .i64 r (IntKind.wrap .i64 x))
 have h4:inA 256 (sQ .i64 (qV .i64 r (IntKind.wrap .i64 x)) 255)=some ():=by unfold inA;rw [if_pos za]
 rw [h4,zc]
 refine Ok.bind (Ok.get za (by rw [tab_len];omega)) (fun y _=>?_)
 rw [w64 za za]
 exact Ok.nx ⟨zb,zb⟩ zb
theorem append_ok(s:List UInt8)(hs:s.length<=100000):Ok (eS s) (fun r=>∃t,t.length=4∧r=s++t):=by
 unfold eS crc_Sum
 refine Ok.bind (P:=fun _=>True) (Ok.bind (update_ok s za) (fun x _=>Ok.ret trivial)) (fun x _=>?_)
 refine Ok.bind (Ok.cat (by simp [vH];omega)) (fun y hy=>?_)
 exact Ok.ret ⟨_,by simp [vH],hy⟩
noncomputable def sumT (s:List UInt8):List UInt8:=((eS s).getD []).drop s.length
theorem n9{s:List UInt8}(hs:s.length<=100000):eS s=some (s++sumT s):=by
 obtain⟨r,h,t,ht,rfl⟩:=append_ok s hs
 unfold sumT
 rw [h];simp
theorem pE{s:List UInt8}(hs:s.length<=100000):(sumT s).length=4:=by
 obtain⟨r,h,t,ht,rfl⟩:=append_ok s hs
 unfold sumT
 rw [h];simpa using ht
theorem check_at{s:List UInt8}(hs:s.length<=100000):ky (s++sumT s)=some true:=by
 have hl:=pE hs
 unfold ky
 have h1:((s++sumT s).length:Int)=s.length+4:=by simp [hl]
 rw [h1,w64 za za,if_pos (decide_eq_true za)]
 have h2:si (s++sumT s) 0 ((s.length:Int)+4-4)=some s:=by
  unfold si
  rw [if_pos ⟨Int.le_refl _,za,za⟩]
  simp only [Int.toNat_zero,List.drop_zero,Nat.sub_zero]
  rw [show((s.length:Int)+4-4).toNat=s.length by omega,List.take_left]
 rw [h2,zc,n9 hs,zc,beq_self_eq_true]
theorem open_at{c x:UInt8}{s:List UInt8}{least:Int}(hs:s.length<=10000)(hl:least<=s.length+5):ej ((c::s)++sumT (c::s)) [x] least=if c=x then some (s,0)else some ([],3):=by
 have h4:=pE (s:=c::s) so
 have hc:=check_at (s:=c::s) so
 have hlen:(((c::s)++sumT (c::s)).length:Int)=s.length+5:=by simp only [List.length_append,List.length_cons,h4];omega
 unfold ej
 rw [hlen,if_neg so,hc,zc,if_neg (by decide)]
 have h2:si ((c::s)++sumT (c::s)) 0 1=some [c]:=by
  unfold si
  rw [if_pos ⟨Int.le_refl _,za,za⟩];rfl
 have h3:si ((c::s)++sumT (c::s)) 1 (IntKind.wrap .i64 ((s.length:Int)+5-4))=some s:=by
  rw [w64 za za]
  unfold si
  rw [if_pos ⟨za,za,za⟩]
  rw [show((s.length:Int)+5-4).toNat-Int.toNat 1=s.length by omega]
  simp
 rw [h2,zc,h3]
 by_cases h:c=x
 ·subst h;rw [if_pos rfl,if_neg sm];rfl
 ·rw [if_neg h,if_pos (by simpa using h)]
def b4(a:Nat):List UInt8:=[0,0,0,UInt8.ofNat a]
theorem all1{n:Nat}{p:Nat->Bool}(h:((List.range n).all p)=true){a:Nat}(ha:a<n):p a=true:=List.all_eq_true.1 h a (List.mem_range.2 ha)
theorem numsC:((List.range 65).all fun a=>fJ [68] [(a:Int),0]==some (68::(b4 a++b4 0))&&fJ [83] [0,(a:Int)]==some (83::(b4 0++b4 a)))=true:=by kernel_rfl
theorem numsD{a:Nat}(ha:a<65):cd [68] [(a:Int),0]=some (68::(b4 a++b4 0)):=
 kV _ _ _ (eq_of_beq (Bool.and_eq_true_iff.1 (all1 numsC ha)).1)
theorem numsS{a:Nat}(ha:a<65):cd [83] [0,(a:Int)]=some (83::(b4 0++b4 a)):=
 kV _ _ _ (eq_of_beq (Bool.and_eq_true_iff.1 (all1 numsC ha)).2)
def getV(b0 b1 b2 b3:Nat):Int:=orI .i64 (xJ .i64 (orI .i64 (xJ .i64 (orI .i64 (xJ .i64 (orI .i64 (xJ .i64 0 8) b0) 8) b1) 8) b2) 8) b3
theorem get_val{a:List UInt8}{k:Nat}(hk:k+4<=a.length)(ha:a.length<=1000000):kF a (k:Int) 4=some (getV a[k].toNat a[k+1].toNat a[k+2].toNat a[k+3].toNat,0):=by
 have hby:∀j(hj:j<a.length),uY a (j:Int)=some ((a[j].toNat:Nat):Int):=fun j hj=>by
  unfold uY
  rw [if_pos ⟨za,za⟩,Int.toNat_natCast,List.getD_eq_getElem?_getD,zd hj];rfl
 have hst:∀(acc:Int)(j:Nat)(hj:j<4),ea 4 a (k:Int) (acc,(j:Int))=some (.next (orI .i64 (xJ .i64 acc 8) (a[k+j]'za).toNat,((j+1:Nat):Int))):=fun acc j hj=>by
  unfold ea
  dsimp only
  have hb:(a[k+j]'za).toNat<256:=(a[k+j]'za).toNat_lt
  rw [if_pos (decide_eq_true za),w64 (n:=(k:Int)+j) za za,show(k:Int)+j=((k+j:Nat):Int)by omega,hby _ za,zc,w64 (n:=(j:Int)+1) za za,w64 za za]
  rfl
 have hlo : kG (ea 4 a (k : Int)) (0, 0) = some (getV a[k].toNat a[k + 1].toNat a[k + 2].toNat a[k + 3].toNat) := qO (n := 5) (by
  have e0:=hst 0 0 za
  have e4:∀acc,ea 4 a (k:Int) (acc,((4:Nat):Int))=some (.stop acc):=fun acc=>by
   unfold ea
   dsimp only
   rw [if_neg (by decide)]
  simp only [qb]
  rw [show((0:Int),(0:Int))=(0,((0:Nat):Int))from rfl,e0]
  dsimp only
  rw [hst _ 1 za]
  dsimp only
  rw [hst _ 2 za]
  dsimp only
  rw [hst _ 3 za]
  dsimp only
  rw [e4]
  rfl)
 unfold kF
 rw [show jv 4 1 7=some true by kernel_rfl,zc,if_neg (by decide),if_neg sm,w64 za za,if_neg so,hlo];rfl
theorem getVC:((List.range 65).all fun a=>getV 0 0 0 a==(a:Int))=true:=by kernel_rfl
theorem gp(a b:Nat)(d:List UInt8):(b4 a++b4 b++d).length=d.length+8:=by simp [b4]
theorem get_at{a b:Nat}{d:List UInt8}(ha:a<65)(hb:b<65)(hd:d.length<=10000):bK (b4 a++b4 b++d) 0=some (a:Int)∧bK (b4 a++b4 b++d) 1=some (b:Int):=by
 have hl:=gp a b d
 have h0:=get_val (a:=b4 a++b4 b++d) (k:=0) za za
 have h1:=get_val (a:=b4 a++b4 b++d) (k:=4) za za
 have e0:getV (b4 a++b4 b++d)[0].toNat (b4 a++b4 b++d)[0+1].toNat (b4 a++b4 b++d)[0+2].toNat (b4 a++b4 b++d)[0+3].toNat=(a:Int):=by
  have:getV 0 0 0 (UInt8.ofNat a).toNat=(a:Int):=by
   rw [UInt8.toNat_ofNat',Nat.mod_eq_of_lt za]
   exact eq_of_beq (all1 getVC ha)
  rw [<-this];rfl
 have e1:getV (b4 a++b4 b++d)[4].toNat (b4 a++b4 b++d)[4+1].toNat (b4 a++b4 b++d)[4+2].toNat (b4 a++b4 b++d)[4+3].toNat=(b:Int):=by
  have:getV 0 0 0 (UInt8.ofNat b).toNat=(b:Int):=by
   rw [UInt8.toNat_ofNat',Nat.mod_eq_of_lt za]
   exact eq_of_beq (all1 getVC hb)
  rw [<-this];rfl
 rw [e0]at h0
 rw [e1]at h1
 unfold bK
 refine⟨?_,?_⟩
 ·rw [show IntKind.wrap .i64 ((0:Int)*4)=((0:Nat):Int)from rfl,h0];rfl
 ·rw [show IntKind.wrap .i64 ((1:Int)*4)=((4:Nat):Int)from rfl,h1];rfl
noncomputable def msgD (a:Nat) (d:List UInt8):List UInt8:=(68::(b4 a++b4 0++d))++sumT (68::(b4 a++b4 0++d))
noncomputable def msgS (a:Nat):List UInt8:=(83::(b4 0++b4 a++[]))++sumT (83::(b4 0++b4 a++[]))
theorem msgD_len{a:Nat}{d:List UInt8}(hd:d.length<=4064):(msgD a d).length=d.length+13:=by
 have:=pE (s:=68::(b4 a++b4 0++d)) (by rw [List.length_cons,gp];omega)
 unfold msgD
 rw [List.length_append,this,List.length_cons,gp]
theorem data_at{a:Nat}{d:List UInt8}(ha:a<65)(hd:d.length<=4064):iI a 0 d=some (msgD a d,0):=by
 have hl:=msgD_len (a:=a) hd
 unfold iI
 have hc:xZ (68::(b4 a++b4 0)) d=some (68::(b4 a++b4 0++d)):=by
  unfold xZ;rw [if_pos (by simp [b4];omega)];simp
 rw [sin_t za,zc,if_neg (by decide),sin_t za,zc,if_neg (by decide),numsD ha,zc,hc,zc,n9 (by rw [List.length_cons,gp];omega),zc]
 change (if decide (((msgD a d).length:Int)>4096)=true then _ else _)=_
 rw [hl,if_neg so];rfl
theorem parseD_at{a:Nat}{d:List UInt8}(ha:a<65)(hd:d.length<=4064):df (msgD a d)=some ((a:Int),0,d,0):=by
 have hg:=get_at ha (b:=0) za (d:=d) za
 unfold df msgD
 rw [open_at (by rw [gp];omega) (by rw [gp];omega),if_pos rfl,zc,if_neg sm]
 dsimp only
 rw [hg.1,zc,hg.2,zc,if_neg so,if_neg sm]
 have hc:si (b4 a++b4 0++d) 8 ((b4 a++b4 0++d).length:Int)=some d:=by
  unfold si
  rw [gp,if_pos ⟨za,za,za⟩]
  have:(b4 a++b4 0++d).drop (Int.toNat 8)=d:=rfl
  rw [this,List.take_of_length_le za]
 rw [hc];rfl
theorem parseDS_at{a:Nat}:df (msgS a)=some (0,0,[],3):=by
 unfold df msgS
 rw [open_at (by rw [gp];simp) (by rw [gp];simp),if_neg (by decide),zc,if_pos (by decide)]
theorem parseSD_at{a:Nat}{d:List UInt8}(hd:d.length<=4064):cH (msgD a d)=some (0,0,3):=by
 unfold cH msgD
 rw [open_at (by rw [gp];omega) (by rw [gp];omega),if_neg (by decide),zc,if_pos (by decide)]
theorem parseS_at{a:Nat}(ha:a<65):cH (msgS a)=some (0,(a:Int),0):=by
 have hg:=get_at (a:=0) za ha (d:=[]) sm
 unfold cH msgS
 rw [open_at (by rw [gp];simp) (by rw [gp];simp),if_pos rfl,zc,if_neg sm]
 dsimp only
 rw [hg.1,zc,hg.2,zc,gp,if_neg (by decide),if_neg sm,if_neg so];rfl
theorem check_ok{m:List UInt8}(h:m.length<=100000):Ok (ky m) (fun _=>True):=by
 unfold ky
 rw [w64 za za]
 refine Ok.pM (fun hl=>?_) (fun _=>Ok.ret trivial)
 refine Ok.bind (Ok.cut (Int.le_refl _) hl za) (fun x hx=>?_)
 subst hx
 refine Ok.bind (append_ok _ so) (fun _ _=>Ok.ret trivial)
theorem open_ok{m:List UInt8}{x:UInt8}{least:Int}(h5:5<=least)(hm:m.length<=100000):Ok (ej m [x] least) (fun r=>r.1.length<=100000):=by
 unfold ej
 refine Ok.pM (fun _=>Ok.ret sm) (fun hl=>?_)
 refine Ok.bind (check_ok hm) (fun b _=>Ok.sb (fun _=>Ok.ret sm) (fun _=>?_))
 refine Ok.bind (Ok.cut za za za) (fun y _=>?_)
 refine Ok.sb (fun _=>Ok.ret sm) (fun _=>?_)
 rw [w64 za za]
 refine Ok.bind (Ok.cut za za za) (fun z hz=>?_)
 subst hz
 exact Ok.ret so
theorem number_ok{s:List UInt8}{i:Int}(h0:0<=i)(h1:i<=100000)(hs:s.length<=100000):Ok (bK s i) (fun _=>True):=by
 unfold bK
 rw [w64 za za]
 refine Ok.bind (P:=fun _=>True) ?_ (fun x _=>Ok.ret trivial)
 by_cases h:i*4+4<=s.length
 ·obtain⟨k,hk⟩:∃k:Nat,i*4=k:=⟨(i*4).toNat,za⟩
  rw [hk,get_val za za]
  exact Ok.ret trivial
 ·unfold kF
  rw [show jv 4 1 7=some true by kernel_rfl,zc,if_neg (by decide),if_neg so,w64 za za,if_pos so]
  exact Ok.ret trivial
theorem validq_ok{l:List Span}(hl:l.length<=1000000):Ok (lq l) (fun r=>r.2=l):=by
 unfold lq
 refine Ok.bind (P:=fun o=>∀r,o= .inr r->r.2=l) ?_ (fun o ho=>?_)
 ·refine Ok.loop (fun k=>0<=k∧k<=l.length) (fun k=>((l.length:Int)-k).toNat) ?_ ⟨Int.le_refl _,sm⟩
  intro k ⟨h0,h1⟩
  unfold nh ic
  refine Ok.pM (fun hlt=>?_) (fun _=>Ok.st (fun r h=>by cases h))
  refine Ok.bind (Ok.xG za za) (fun _ _=>?_)
  refine Ok.bind (Ok.get za za) (fun x _=>?_)
  rw [zc,w64 (n:=k+1) za za]
  refine Ok.sb (fun _=>Ok.st (fun r h=>by cases h;rfl)) (fun _=>?_)
  refine Ok.pM (fun hp=>?_) (fun _=>Ok.nx ⟨za,za⟩ za)
  rw [w64 (n:=k-1) za za]
  refine Ok.bind (Ok.xG za za) (fun _ _=>?_)
  refine Ok.bind (Ok.get za za) (fun y _=>?_)
  exact Ok.pM (fun _=>Ok.st (fun r h=>by cases h;rfl)) (fun _=>Ok.nx ⟨za,za⟩ za)
 ·match o,ho with
  | .inl _,_=>exact Ok.ret rfl
  | .inr r,ho=>exact Ok.ret (ho r rfl)
theorem valid_ok{l:List Span}(hl:l.length<=1000000):Ok (hU l) (fun _=>True):=by
 unfold hU
 refine Ok.bind (P:=fun _=>True) ?_ (fun o _=>?_)
 ·refine Ok.loop (fun k=>0<=k∧k<=l.length) (fun k=>((l.length:Int)-k).toNat) ?_ ⟨Int.le_refl _,sm⟩
  intro k ⟨h0,h1⟩
  unfold iU ic
  refine Ok.pM (fun hlt=>?_) (fun _=>Ok.st trivial)
  refine Ok.bind (Ok.get za za) (fun x _=>?_)
  rw [zc,w64 (n:=k+1) za za]
  refine Ok.sb (fun _=>Ok.st trivial) (fun _=>?_)
  refine Ok.pM (fun hp=>?_) (fun _=>Ok.nx ⟨za,za⟩ za)
  rw [w64 (n:=k-1) za za]
  refine Ok.bind (Ok.get za za) (fun y _=>?_)
  exact Ok.pM (fun _=>Ok.st trivial) (fun _=>Ok.nx ⟨za,za⟩ za)
 ·match o with
  | .inl _=>exact Ok.ret trivial
  | .inr r=>exact Ok.ret trivial
theorem parseR_ok{m:List UInt8}(hm:m.length<=100000):Ok (dG m) (fun r=>r.1.length<=16):=by
 unfold dG
 refine Ok.bind (open_ok za hm) (fun x hx=>?_)
 refine Ok.uP (fun _=>Ok.ret sm) (fun _=>?_)
 refine Ok.bind (Ok.quo (by decide)) (fun q hq=>?_)
 refine Ok.bind (Ok.rem (by decide)) (fun r hr=>?_)
 have hqb:0<=q∧q<=100000:=by
  rw [show((x.1.length:Int)).tdiv 8=((x.1.length / 8:Nat):Int)from rfl,w64 za za]at hq
  omega
 refine Ok.uP (fun _=>Ok.ret sm) (fun _=>?_)
 refine Ok.pM (fun _=>Ok.ret sm) (fun h16=>?_)
 refine Ok.bind (P:=fun o=>o.length<=16) ?_ (fun o ho=>?_)
 ·refine Ok.loop (fun s=>0<=s.1∧s.1<=q∧(s.2.length:Int)=s.1) (fun s=>(q-s.1).toNat) ?_ ⟨Int.le_refl _,hqb.1,rfl⟩
  rintro⟨i,acc⟩ ⟨i0,i1,i2⟩
  simp only at i0 i1 i2
  unfold gm
  refine Ok.pM (fun hlt=>?_) (fun _=>Ok.st za)
  rw [w64 (n:=2*i) za za,w64 (n:=2*i+1) za za,w64 (n:=i+1) za za]
  refine Ok.bind (number_ok za za hx) (fun y _=>?_)
  refine Ok.bind (number_ok za za hx) (fun z _=>?_)
  refine Ok.bind (Ok.app (by simp only [List.length_cons,List.length_nil];omega)) (fun w hw=>?_)
  subst hw
  exact Ok.nx ⟨zb,zb,by simp only [List.length_append,List.length_cons,List.length_nil];omega⟩ zb
 ·refine Ok.bind (P:=fun w=>w.2.length<=16) ?_ (fun w hw=>Ok.sb (fun _=>Ok.ret sm) (fun _=>Ok.ret hw))
  unfold jX
  refine Ok.bind (validq_ok za) (fun v hv=>?_)
  refine Ok.uS (fun _=>?_) (fun _=>Ok.ret (by rw [hv];exact ho))
  rw [hv]
  refine Ok.uE (fun _=>Ok.ret ho) (fun hne=>?_)
  refine Ok.bind (Ok.xG za za) (fun _ _=>?_)
  refine Ok.bind (Ok.get za za) (fun y _=>?_)
  refine Ok.pM (fun _=>?_) (fun _=>Ok.ret ho)
  rw [w64 za za]
  refine Ok.bind (Ok.xG za za) (fun _ _=>?_)
  exact Ok.bind (Ok.get za za) (fun y _=>Ok.ret ho)
theorem put_ok{s:List UInt8}(n:Int)(hs:s.length<=1000000):Ok (lS s n 4) (fun r=>r.1.length<=s.length+4):=by
 have h1:jv 4 1 7=some true:=by kernel_rfl
 have h2:shlO .i64 1 (IntKind.wrap .i64 (8*4))=some 4294967296:=by kernel_rfl
 unfold lS
 rw [h1,zc,if_neg (by decide),h2,zc,show IntKind.wrap .i64 (4294967296-1)=4294967295 by kernel_rfl,show IntKind.wrap .i64 (4-1)=3 by kernel_rfl]
 refine Ok.bind (P:=fun _=>True) (by unfold jv;exact Ok.ite (fun _=>Ok.ret trivial) (fun _=>Ok.ret trivial)) (fun b _=>?_)
 refine Ok.sb (fun _=>Ok.ret sm) (fun _=>?_)
 have hb:bytO s=some (s.map fun b=>(b.toNat:Int)):=by unfold bytO;rw [if_pos za]
 rw [hb,zc]
 refine Ok.bind (P:=fun r=>r.length=s.length+4) ?_ (fun r hr=>Ok.ret (by simp [vH,hr]))
 refine Ok.loop (fun st=> -1<=st.1∧st.1<=3∧(st.2.length:Int)=s.length+3-st.1) (fun st=>(st.1+1).toNat) ?_ ⟨show(-1:Int)<=3 by decide,show(3:Int)<=3 by decide,sm⟩
 rintro⟨k,l⟩ ⟨i0,i1,i2⟩
 simp only at i0 i1 i2
 unfold kd
 dsimp only
 refine Ok.pM (fun hk=>?_) (fun hk=>Ok.st za)
 rw [w64 (n:=8*k) za za,w64 (n:=k-1) za za]
 have hsh:shrO .i64 n (8*k)=some (pY .i64 n (8*k)):=by unfold shrO;rw [if_neg za]
 rw [hsh,zc]
 refine Ok.bind (Ok.app (by simp only [List.length_cons,List.length_nil];omega)) (fun x hx=>?_)
 subst hx
 exact Ok.nx ⟨zb,zb,by simp only [List.length_append,List.length_cons,List.length_nil];omega⟩ zb
theorem numbers_ok{s:List UInt8}{l:List Int}(hs:s.length<=100000)(hl:l.length<=100):Ok (cd s l) (fun r=>r.length<=s.length+4*l.length):=by
 unfold cd
 refine Ok.bind (P:=fun r=>r.length<=s.length+4*l.length) ?_ (fun r hr=>Ok.ret hr)
 refine Ok.loop (fun st=>∃i:Nat,st.2=i∧i<=l.length∧st.1.length<=s.length+4*i) (fun st=>((l.length:Int)-st.2).toNat) ?_ ⟨0,rfl,Nat.zero_le _,sm⟩
 rintro⟨q,k⟩ ⟨i,i0,i1,i2⟩
 simp only at i0 i2
 subst i0
 unfold eZ
 dsimp only
 refine Ok.pM (fun hlt=>?_) (fun hge=>Ok.st za)
 refine Ok.bind (Ok.get za za) (fun x _=>?_)
 refine Ok.bind (put_ok x za) (fun y hy=>?_)
 rw [w64 za za]
 exact Ok.nx ⟨i+1,sm,za,zb⟩ zb
theorem requests_ok(k:Int){l:List Span}(hl:l.length<=100000):Ok (gg k l) (fun _=>True):=by
 unfold gg
 refine Ok.bind (P:=fun _=>True) (by unfold di;exact Ok.ite (fun _=>Ok.ret trivial) (fun _=>Ok.ret trivial)) (fun b _=>?_)
 refine Ok.sb (fun _=>Ok.ret trivial) (fun _=>?_)
 refine Ok.bind (P:=fun _=>True) ?_ (fun b _=>?_)
 ·unfold kW
  refine Ok.bind (valid_ok za) (fun v _=>Ok.uS (fun _=>Ok.uE (fun _=>Ok.ret trivial) (fun hne=>?_)) (fun _=>Ok.ret trivial))
  refine Ok.bind (Ok.get za za) (fun y _=>Ok.pM (fun _=>?_) (fun _=>Ok.ret trivial))
  rw [w64 za za]
  exact Ok.bind (Ok.get za za) (fun y _=>Ok.ret trivial)
 refine Ok.sb (fun _=>Ok.ret trivial) (fun _=>?_)
 refine Ok.pM (fun _=>Ok.ret trivial) (fun h16=>?_)
 refine Ok.bind (P:=fun r=>r.length<=1+8*l.length) ?_ (fun r hr=>?_)
 ·refine Ok.loop (fun st=>∃i:Nat,st.2=i∧i<=l.length∧st.1.length<=1+8*i) (fun st=>((l.length:Int)-st.2).toNat) ?_ ⟨0,rfl,Nat.zero_le _,sm⟩
  rintro⟨q,j⟩ ⟨i,i0,i1,i2⟩
  simp only at i0 i2
  subst i0
  unfold jK
  dsimp only
  refine Ok.pM (fun hlt=>?_) (fun hge=>Ok.st za)
  refine Ok.bind (Ok.get za za) (fun x _=>?_)
  refine Ok.bind (numbers_ok za sm) (fun y hy=>?_)
  simp only [List.length_cons,List.length_nil]at hy
  rw [w64 za za]
  exact Ok.nx ⟨i+1,sm,za,zb⟩ zb
 ·rw [n9 za,zc]
  exact Ok.ret trivial
end Go.Dw.Fc
set_option maxRecDepth 100000
set_option maxHeartbeats 4000000
namespace Go.Dw.Fc
open Go.Dw Go.Proofs
abbrev Tr:=ak
abbrev Wire:=aC
def jS(x y:Tr):Prop:=x.fAt<y.fAt∨(x.fAt=y.fAt∧x.ba<y.ba)
structure TrOk(P:List UInt8->Prop)(now o:Int)(t:Tr):Prop where
 len:t.ch.length<=4096
 at0:now+1<=t.fAt
 at1:t.fAt<=2000
 or0:0<=t.ba
 or1:t.ba<o
 pr:P t.ch
structure cN(P:List UInt8->Prop)(now:Int)(w:Wire):Prop where
 now_:w.bt=now
 now0:0<=now
 now1:now<=1000
 o0:0<=w.ba
 o1:w.ba<=1099511627776
 len:w.bq.length<=1024
 its:∀t∈w.bq,TrOk P now w.ba t
 srt:w.bq.Pairwise jS
theorem cN.mono{P Q:List UInt8->Prop}{now:Int}{w:Wire}(h:cN P now w)(hpq:∀m,P m->Q m):cN Q now w:=
 ⟨h.now_,h.now0,h.now1,h.o0,h.o1,h.len,fun t ht=>by obtain⟨a,b,c,d,e,f⟩:=h.its t ht;exact⟨a,b,c,d,e,hpq _ f⟩,h.srt⟩
theorem or2_at(a b:Int):mA [a,b]=some (if a=0 then b else a):=by
 have s0:et [a,b] 0=if(a != 0)=true then some (.stop (.inr a))else some (.next 1):=rfl
 have s1:et [a,b] 1=if(b != 0)=true then some (.stop (.inr b))else some (.next 2):=rfl
 have s2:et [a,b] 2=some (.stop (.inl ())):=rfl
 unfold mA
 by_cases h:a=0
 ·subst h
  rw [if_neg (by decide)]at s0
  by_cases h':b=0
  ·subst h'
   rw [if_neg (by decide)]at s1
   have:kG (et [0,0]) 0=some (.inl ()):=qO (n:=4) (by simp only [qb,s0,s1,s2])
   rw [this];rfl
  ·rw [if_pos (by simpa using h')]at s1
   have:kG (et [0,b]) 0=some (.inr b):=qO (n:=4) (by simp only [qb,s0,s1])
   rw [this];rfl
 ·rw [if_pos (by simpa using h)]at s0
  have:kG (et [a,b]) 0=some (.inr a):=qO (n:=4) (by simp only [qb,s0])
  rw [this,if_neg h];rfl
def ordV(x y:Tr):Int:=if x.fAt-y.fAt=0 then x.ba-y.ba else x.fAt-y.fAt
theorem order_at{x y:Tr}(h1:0<=x.fAt∧x.fAt<=2000)(h2:0<=y.fAt∧y.fAt<=2000)(h3:0<=x.ba∧x.ba<=1099511627776)(h4:0<=y.ba∧y.ba<=1099511627776):jg x y=some (ordV x y):=by
 unfold jg
 rw [w64 za za,w64 za za,or2_at];rfl
theorem ordV_lt{x y:Tr}:ordV x y<0↔jS x y:=by
 unfold ordV jS
 split<;>omega
theorem jS.trans{x y z:Tr}(h:jS x y)(h':jS y z):jS x z:=by unfold jS at*;omega
theorem cN.mu{P:List UInt8->Prop}{now:Int}{w:Wire}(h:cN P now w):gV w=some true:=by
 obtain⟨h1,h2,h3,h4,h5,h6,h7,h8⟩:=h
 have hpw:=List.pairwise_iff_getElem.1 h8
 subst h1
 have:Ok (kG (kP w) 0) (fun r=>r= .inl ()):=by
  refine Ok.loop (fun k=>0<=k∧k<=w.bq.length) (fun k=>((w.bq.length:Int)-k).toNat) ?_ ⟨Int.le_refl _,sm⟩
  intro k ⟨h0,h1⟩
  unfold kP
  refine Ok.pM (fun hlt=>?_) (fun _=>Ok.st rfl)
  obtain⟨j,rfl⟩:∃j:Nat,k=j:=⟨k.toNat,za⟩
  have hj:j<w.bq.length:=by omega
  obtain⟨m1,m2,m3,m4,m5, -⟩:=h7 _ (List.getElem_mem hj)
  rw [p7 rfl hj, zc, if_neg so, w64 (n := w.bt + 1) za za, lin_t za, zc, if_neg (by decide), w64 (n := w.ba - 1) za za, lin_t za, zc,
   if_neg (by decide),w64 (n:=(j:Int)+1) za za]
  refine Ok.pM (fun hpos=>?_) (fun _=>Ok.nx ⟨za,za⟩ za)
  have hj':j-1<w.bq.length:=by omega
  obtain⟨n1,n2,n3,n4,n5, -⟩:=h7 _ (List.getElem_mem hj')
  have h3:=ordV_lt.2 (hpw (j-1) j hj' hj za)
  rw [w64 za za,p7 (i:=j-1) za hj',zc,order_at za za za za,zc,if_neg so]
  exact Ok.nx ⟨za,za⟩ za
 unfold gV
 rw [lin_t za,zc,if_neg (by decide),lin_t za,zc,if_neg (by decide),if_neg so,this.eq];rfl
theorem half_at{y:Nat}(hy:y<=4000):IntKind.wrap .i64 (pY .u64 (IntKind.wrap .u64 (IntKind.wrap .i64 (y:Int))) 1)=((y / 2:Nat):Int):=by
 have hC:((List.range 4001).all fun y=>decide (IntKind.wrap .i64 (pY .u64 (IntKind.wrap .u64 (IntKind.wrap .i64 (y:Nat))) 1)=((y / 2:Nat):Int)))=true:=by kernel_rfl
 exact of_decide_eq_true (all1 hC za)
def Sane(t:Tr):Prop:=(0<=t.fAt∧t.fAt<=2000)∧(0<=t.ba∧t.ba<=1099511627776)
theorem bs_ok{m:Tr}{l:List Tr}(hl:l.length<=1100)(hm:Sane m)(hs:∀t∈l,Sane t)(hp:l.Pairwise jS):
  Ok (bM m l) (fun r=>∃i:Nat,r.1=i∧r.2.2=l∧i<=l.length∧(∀k(hk:k<l.length),k<i->jS l[k] m)∧∀k(hk:k<l.length),i<=k->¬jS l[k] m):=by
 have hpw:=List.pairwise_iff_getElem.1 hp
 unfold bM
 refine Ok.bind (P:=fun r:Int=>∃i:Nat,r=(i:Int)∧i<=l.length∧(∀k(hk:k<l.length),k<i->jS l[k] m)∧∀k(hk:k<l.length),i<=k->¬jS l[k] m) ?_ ?_
 ·refine Ok.loop (fun s:Int×Int=>∃a b:Nat,s.1=(a:Int)∧s.2=(b:Int)∧a<=b∧b<=l.length∧(∀k(hk:k<l.length),k<a->jS l[k] m)∧∀k(hk:k<l.length),b<=k->¬jS l[k] m) (fun s=>(s.2-s.1).toNat) ?_
   ⟨0,l.length,rfl,rfl,Nat.zero_le _,Nat.le_refl _,fun k _ h=>za,fun k _ h=>za⟩
  rintro⟨s1,s2⟩ ⟨a,b,e1,e2,i1,i2,i3,i4⟩
  simp only at e1 e2
  subst e1 e2
  unfold cM
  dsimp only
  refine Ok.pM (fun hlt=>?_) (fun hge=>?_)
  rotate_left
  ·have:a=b:=by omega
   subst this
   exact Ok.st ⟨a,rfl,i2,i3,i4⟩
  have hx:IntKind.wrap .i64 (pY .u64 (IntKind.wrap .u64 (IntKind.wrap .i64 ((a:Int)+b))) 1)=(((a+b) / 2:Nat):Int):=by
   rw [show(a:Int)+b=((a+b:Nat):Int)by omega];exact half_at za
  have hab:a<=(a+b) / 2∧(a+b) / 2<b:=by omega
  generalize (a+b) / 2=x at hx hab
  have hxl:x<l.length:=by omega
  have hsx:=hs _ (List.getElem_mem hxl)
  rw [hx,u5 za za,zc,p7 (i:=x) rfl hxl,zc,order_at hsx.1 hm.1 hsx.2 hm.2,zc,w64 (n:=(x:Int)+1) za za]
  refine Ok.pM (fun hneg=>?_) (fun hneg=>?_)
  ·refine Ok.nx ⟨x+1,b,sm,rfl,za,i2,fun k hk hkx=>?_,i4⟩ zb
   by_cases hkx':k=x
   ·subst hkx';exact ordV_lt.1 hneg
   ·exact(hpw k x hk hxl za).trans (ordV_lt.1 hneg)
  ·have hn:¬jS l[x] m:=fun h=>hneg (ordV_lt.2 h)
   refine Ok.nx ⟨a,x,rfl,rfl,za,za,i3,fun k hk hkx h=>?_⟩ zb
   by_cases hkx':k=x
   ·subst hkx';exact hn h
   ·exact hn ((hpw x k hxl hk za).trans h)
 ·rintro o ⟨i,rfl,h1,h2,h3⟩
  refine Ok.pM (fun hlt=>?_) (fun _=>Ok.ret ⟨i,rfl,rfl,h1,h2,h3⟩)
  have hil:i<l.length:=by omega
  have hsx:=hs _ (List.getElem_mem hil)
  rw [u5 za za,zc,p7 rfl hil,zc,order_at hsx.1 hm.1 hsx.2 hm.2,zc]
  exact Ok.ret ⟨i,rfl,rfl,h1,h2,h3⟩
theorem ins_srt{m:Tr}{l:List Tr}{i:Nat}(hp:l.Pairwise jS)(h1:∀k(hk:k<l.length),k<i->jS l[k] m)(h2:∀k(hk:k<l.length),i<=k->jS m l[k]):(l.take i++[m]++l.drop i).Pairwise jS:=by
 have hpw:=List.pairwise_iff_getElem.1 hp
 have ht:∀t∈l.take i,jS t m:=fun t ht=>by
  obtain⟨k,hk,rfl⟩:=List.getElem_of_mem ht
  rw [List.length_take]at hk
  rw [List.getElem_take];exact h1 k za za
 have hd:∀t∈l.drop i,jS m t:=fun t ht=>by
  obtain⟨k,hk,rfl⟩:=List.getElem_of_mem ht
  rw [List.length_drop]at hk
  rw [List.getElem_drop];exact h2 (i+k) za za
 refine List.pairwise_append.2 ⟨List.pairwise_append.2 ⟨hp.sublist (List.take_sublist _ _),sm,fun a ha b hb=>by rw [List.mem_singleton.1 hb];exact ht a ha⟩,hp.sublist (List.drop_sublist _ _),fun a ha b hb=>?_⟩
 rcases List.mem_append.1 ha with ha|ha
 ·exact(ht a ha).trans (hd b hb)
 ·rw [List.mem_singleton.1 ha];exact hd b hb
def k8(f:am):Prop:=(0<=f.eT∧f.eT<=3)∧(0<=f.kf∧f.kf<=2)
theorem k8.mu{f:am}(h:k8 f):d8 f=some true:=by
 obtain⟨h1,h2⟩:=h
 unfold d8
 rw [lin_t za,zc,if_pos rfl,lin_t za,zc]
theorem send_k{P:List UInt8->Prop}{now:Int}{w:Wire}(h:cN P now w){m:List UInt8}(hP:P m){f:am}(hf:k8 f){c:Int}(hc0:0<=c)(hc1:c<=3)(hnow:now<=900):
  Ok (gz m w f c) (fun r=>r.2=8∨(r.2=0∧cN P now r.1)):=by
 obtain⟨h1,h2,h3,h4,h5,h6,h7,h8⟩:=h
 obtain⟨⟨f1,f2⟩,f3,f4⟩:=hf
 subst h1
 unfold gz
 refine Ok.pM (fun _=>Ok.ret (.inl rfl)) (fun hml=>?_)
 refine Ok.uE (fun _=>Ok.ret (.inl rfl)) (fun hoe=>?_)
 rw [w64 (n:=(w.bq.length:Int)+c) za za]
 refine Ok.pM (fun _=>Ok.ret (.inl rfl)) (fun hlen=>?_)
 rw [gw za,zc,w64 (n:=w.ba+1) za za]
 refine Ok.bind (P:=fun o=>o.length<=1024∧(∀t∈o,TrOk P w.bt (w.ba+1) t)∧o.Pairwise jS) ?_ (fun o ho=>Ok.ret (.inr ⟨rfl,⟨rfl,h2,h3,zb,zb,ho.1,ho.2.1,ho.2.2⟩⟩))
 refine Ok.loop (fun s=>(0<=s.1∧s.1<=c)∧(s.2.length:Int)=w.bq.length+s.1∧(∀t∈s.2,TrOk P w.bt (w.ba+1) t∧(t.ba<w.ba∨t.fAt<w.bt+1+f.eT+s.1))∧s.2.Pairwise jS) (fun s=>(c-s.1).toNat) ?_
  ⟨⟨Int.le_refl _,hc0⟩,sm,fun t ht=>?_,h8⟩
 rotate_left
 ·obtain⟨a,b,c,d,e,g⟩:=h7 t ht
  exact⟨⟨a,b,c,d,za,g⟩,.inl e⟩
 rintro⟨k,l⟩ ⟨⟨k0,k1⟩,l1,l2,l3⟩
 simp only at k0 k1 l1 l2 l3
 unfold oD
 dsimp only
 rw [w64 (n:=w.bt+1) za za,w64 (n:=w.bt+1+f.eT) za za,w64 (n:=w.bt+1+f.eT+k) za za,w64 (n:=k+1) za za]
 refine Ok.pM (fun hlt=>?_) (fun _=>Ok.st ⟨za,fun t ht=>(l2 t ht).1,l3⟩)
 refine Ok.bind (bs_ok za (m:=⟨w.bt+1+f.eT+k,w.ba,m⟩) ⟨⟨zb,zb⟩,zb,zb⟩ (fun t ht=>by obtain⟨⟨a,b,c,d,e,g⟩, -⟩:=l2 t ht;exact⟨za,za⟩) l3) (fun r hr=>?_)
 obtain⟨i,e1,e2,e3,e4,e5⟩:=hr
 rw [e2,insO_at e1 e3 rfl za,zc]
 refine Ok.nx ⟨zb,?_,fun t ht=>?_,ins_srt l3 e4 fun q hq hiq=>?_⟩ zb
 ·simp only [List.length_append,List.length_take,List.length_drop,List.length_cons,List.length_nil];omega
 ·simp only at ht⊢
  have:t=⟨w.bt+1+f.eT+k,w.ba,m⟩∨t∈l:=by
   rcases List.mem_append.1 ht with ht|ht
   ·rcases List.mem_append.1 ht with ht|ht
    ·exact .inr (List.mem_of_mem_take ht)
    ·exact .inl (List.mem_singleton.1 ht)
   ·exact .inr (List.mem_of_mem_drop ht)
  rcases this with rfl|ht
  ·exact⟨⟨zb,zb,zb,zb,zb,hP⟩,.inr zb⟩
  ·obtain⟨g1,g2⟩:=l2 t ht
   exact⟨g1,za⟩
 ·have g0:=e5 q hq hiq
  obtain⟨⟨a,b,c,d,e,g⟩,g2⟩:=l2 _ (List.getElem_mem hq)
  unfold jS at g0⊢
  simp only at g0⊢
  omega
theorem send_ok{P:List UInt8->Prop}{now:Int}{w:Wire}(h:cN P now w){m:List UInt8}(hP:P m){f:am}(hf:k8 f)(hnow:now<=900):
  Ok (kz w m f) (fun r=>r.2=8∨(r.2=0∧cN P now r.1)):=by
 unfold kz
 have h4:=hf.2
 rw [h.mu,zc,if_neg (by decide),hf.mu,zc,if_neg (by decide),w64 (n:=1+f.kf) za za]
 exact Ok.uS (fun _=>send_k h hP hf za za hnow) (fun _=>send_k h hP hf za za hnow)
theorem wtick_ok{P:List UInt8->Prop}{now:Int}{w:Wire}(h:cN P now w)(hnow:now<=900):
  Ok (l7 w) (fun r=>r.2.2=0∧cN P (now+1) r.1∧r.2.1.length<=1024∧∀m∈r.2.1,P m∧m.length<=4096):=by
 have hv:=h.mu
 obtain⟨h1,h2,h3,h4,h5,h6,h7,h8⟩:=h
 have hpw:=List.pairwise_iff_getElem.1 h8
 subst h1
 unfold l7
 rw [hv,zc,if_neg (by decide),if_neg so,w64 (n:=w.bt+1) za za]
 refine Ok.bind (P:=fun o:Int×List (List UInt8)=>∃i:Nat,o.1=(i:Int)∧i<=w.bq.length∧o.2.length=i∧(∀m∈o.2,P m∧m.length<=4096)∧∀k(hk:k<w.bq.length),i<=k->w.bt+2<=w.bq[k].fAt) ?_ ?_
 ·refine Ok.loop (fun s:Int×List (List UInt8)=>∃i:Nat,s.1=(i:Int)∧i<=w.bq.length∧s.2.length=i∧∀m∈s.2,P m∧m.length<=4096) (fun s=>((w.bq.length:Int)-s.1).toNat) ?_ ⟨0,rfl,Nat.zero_le _,rfl,sm⟩
  rintro⟨a,b⟩ ⟨i,e1,i1,i2,i3⟩
  simp only at e1 i2 i3
  subst e1
  unfold oE
  dsimp only
  refine Ok.pM (fun hlt=>?_) (fun hge=>Ok.st ⟨i,rfl,i1,i2,i3,fun k hk hik=>za⟩)
  have hil:i<w.bq.length:=by omega
  obtain⟨a,b',c,d,e,g⟩:=h7 _ (List.getElem_mem hil)
  rw [p7 rfl hil,zc,w64 (n:=w.bt+1) za za]
  refine Ok.uE (fun he=>?_) (fun hne=>Ok.st ⟨i,rfl,i1,i2,i3,fun k hk hik=>?_⟩)
  ·rw [zc,w64 za za]
   refine Ok.bind (Ok.app (by simp only [List.length_cons,List.length_nil];omega)) (fun x hx=>?_)
   subst hx
   exact Ok.nx ⟨i+1,sm,za,by simp [i2],ix i3 ⟨g,a⟩⟩ zb
  ·by_cases hki:k=i
   ·subst hki;omega
   ·have:=hpw i k hil hk za
    unfold jS at this
    omega
 ·rintro⟨o1,o2⟩ ⟨i,e1,i1,i2,i3,i4⟩
  simp only at e1 i2 i3 i4
  subst e1
  refine Ok.bind (Ok.cut za za za) (fun x hx=>?_)
  have hx':x=w.bq.drop i:=by
   rw [hx,Int.toNat_natCast,Int.toNat_natCast,List.take_of_length_le sm]
  subst hx'
  rw [gw so,zc]
  refine Ok.ret ⟨rfl,⟨rfl,za,za,h4,h5,by simp only [List.length_drop];omega,fun t ht=>?_,h8.sublist (List.drop_sublist _ _)⟩,zb,i3⟩
  obtain⟨k,hk,rfl⟩:=List.getElem_of_mem ht
  rw [List.getElem_drop]
  rw [List.length_drop]at hk
  have hk':i+k<w.bq.length:=by omega
  obtain⟨a,b',c,d,e,g⟩:=h7 _ (List.getElem_mem hk')
  have:=i4 (i+k) hk' za
  exact⟨a,za,c,d,e,g⟩
theorem wire_new{P:List UInt8->Prop}:cN P 0 ⟨0,0,[]⟩:=⟨rfl,za,za,sm,sm,sm,sm,sm⟩
end Go.Dw.Fc
set_option maxRecDepth 100000
set_option maxHeartbeats 4000000
namespace Go.Dw.Fc
open Go.Dw Go.Proofs
structure gl(g:List Span):Prop where
 nrm:Nrm g
 low:∀t,cU g t->0<=t∧t<64
theorem gl.mem{g:List Span}(h:gl g){s:Span}(hs:s∈g):0<=s.bd∧s.bd<s.fTo∧s.fTo<=64:=by
 have h1:=h.nrm.1 s hs
 have h2:=h.low s.bd ⟨s,hs,za,h1⟩
 have h3:=h.low (s.fTo-1) ⟨s,hs,za,za⟩
 omega
theorem gl.from_{g:List Span}(h:gl g):∀(i:Nat)(hi:i<g.length),(i:Int)<=g[i].bd
 |0,hi=>by have:=(h.mem (List.getElem_mem hi)).1;omega
 |i+1,hi=>by
  have h1:=h.from_ i za
  have h2:=h.nrm.before (i:=i) (j:=i+1) za hi
  have h3:=h.mem (List.getElem_mem (show i<g.length by omega))
  omega
theorem gl.len{g:List Span}(h:gl g):g.length<=64:=by
 by_cases h0:g.length=0
 ·omega
 ·have h1:=h.from_ (g.length-1) za
  have h2:=h.mem (List.getElem_mem (show g.length-1<g.length by omega))
  omega
theorem span_valid_at{g:List Span}(h:Nrm g)(hl:g.length<=1000000):hU g=some true:=by
 unfold hU
 rw [l8 g (u:= .inl ())]
 ·rfl
 ·intro i hi
  unfold iU ic
  have hv:=h.1 _ (List.getElem_mem hi)
  rw [if_pos so,p7 rfl hi,zc,zc,if_neg so,w64 (n:=(i:Int)+1) za za]
  by_cases h0:i=0
  ·subst h0;rw [if_neg sm];simp
  ·have hb:=h.before (i:=i-1) (j:=i) za hi
   rw [if_pos so,w64 za za,p7 (i:=i-1) za za,zc,if_neg so];simp
 ·unfold iU
  rw [if_neg sm]
theorem gset_at{g:List Span}(h:gl g):ge g=some true:=by
 have hl:=h.len
 unfold ge
 rw [span_valid_at h.nrm za,zc,if_pos rfl]
 by_cases h0:g.length=0
 ·rw [if_pos (by simp [h0])]
 ·have a:=h.mem (List.getElem_mem (show 0<g.length by omega))
  have b:=h.mem (List.getElem_mem (show g.length-1<g.length by omega))
  have hg0:pH g 0=some (g[0]'za):=p7 (i:=0) rfl za
  rw [if_neg (show ¬((g.length:Int)==0)=true by rw [beq_iff_eq];omega),hg0,zc,if_pos (decide_eq_true a.1),w64 za za,p7 (i:=g.length-1) za za,zc]
  exact congrArg some (decide_eq_true za)
theorem normal_none{l:List Span}(h:∀y,¬cU l y)(hl:l.length<=1000000):cj l=some []:=by
 obtain⟨out,e, -,hN,hy⟩:=jh hl
 rw [e]
 cases out with
 |nil=>rfl
 |cons s q=>
  have:=hN.1 s sm
  exact(h s.bd ((hy _).1 ⟨s,sm,za,this⟩)).elim
theorem hasS_nil(y:Int):¬cU [] y:=fun⟨s,hs,_⟩=>by cases hs
theorem oU:cj []=some []:=normal_none hasS_nil sm
theorem normal_zero:cj [⟨0,0⟩]=some []:=normal_none (fun y h=>by rw [ir]at h;simp only at h;omega) sm
theorem meet_nil{g:List Span}(hl:g.length<=1000000):og g []=some []:=by
 obtain⟨x,e,hx⟩:=jh hl
 unfold og
 rw [e,zc,oU,zc,qx (o:=[])]
 ·rfl
 ·unfold oH
  dsimp only
  split
  ·rw [if_neg sm]
  ·rfl
theorem minus_none{a b:List Span}(ha:cj a=some [])(hb:b.length<=1000000):f8 a b=some []:=by
 obtain⟨x,e,hx⟩:=jh hb
 unfold f8
 rw [e,zc,ha,zc,qx (o:=[])]
 ·rfl
 ·unfold k5
  dsimp only
  rw [if_neg sm]
theorem mj{g:List Span}(h:gl g):cy ⟨g,[]⟩=some true:=by
 have hl:=h.len
 have h0:ge []=some true:=gset_at ⟨⟨sm,sm⟩,fun t h=>(hasS_nil t h).elim⟩
 unfold cy
 rw [gset_at h,zc,if_pos rfl,h0,zc,if_pos rfl,meet_nil zb];rfl
theorem grow_ok{n:Int}(h0:0<=n)(h1:n<=1000000):gh n=some []:=by
 refine Ok.eq ?_
 unfold gh eF
 refine Ok.pM (fun h=>za) (fun _=>?_)
 rw [Int.sub_zero,w64 za za]
 refine Ok.pM (fun hp=>?_) (fun _=>Ok.ret rfl)
 refine Ok.bind (Ok.mkz hp za za) (fun x hx=>?_)
 refine Ok.bind (Ok.sub za za za) (fun _ _=>Ok.ret sm)
theorem concat2_at{a b:List Span}(ha:a.length<=400000)(hb:b.length<=400000):fb [a,b]=some (a++b):=by
 have g0:pH [a,b] 0=some a:=rfl
 have g1:pH [a,b] 1=some b:=rfl
 have e0:bN [a,b] (0,0)=some (.next ((a.length:Int),1)):=by
  unfold bN
  dsimp only
  rw [if_pos sm,g0,zc,Int.zero_add,w64 (n:=(a.length:Int)) za za,if_neg sm];rfl
 have e1:bN [a,b] ((a.length:Int),1)=some (.next ((a.length:Int)+b.length,2)):=by
  unfold bN
  dsimp only
  rw [if_pos sm,g1,zc,w64 (n:=(a.length:Int)+b.length) za za,if_neg so];rfl
 have e2:bN [a,b] ((a.length:Int)+b.length,2)=some (.stop ((a.length:Int)+b.length)):=by
  unfold bN
  dsimp only
  rw [if_neg sm]
 have l1:kG (bN [a,b]) (0,0)=some ((a.length:Int)+b.length):=qO (n:=4) (by simp only [qb,e0,e1,e2])
 have f0:bL [a,b] (0,[])=some (.next (1,a)):=by
  unfold bL
  dsimp only
  rw [if_pos sm,g0,zc,mz so,zc];rfl
 have f1:bL [a,b] (1,a)=some (.next (2,a++b)):=by
  unfold bL
  dsimp only
  rw [if_pos sm,g1,zc,mz za,zc];rfl
 have f2:bL [a,b] (2,a++b)=some (.stop (a++b)):=by
  unfold bL
  dsimp only
  rw [if_neg sm]
 have l2:kG (bL [a,b]) (0,[])=some (a++b):=qO (n:=4) (by simp only [qb,f0,f1,f2])
 unfold fb
 rw [l1,zc,grow_ok za za,zc,l2];rfl
theorem union_ok{a b:List Span}(ha:a.length<=400000)(hb:b.length<=400000):Ok (f9 a b) (fun r=>r.length<=a.length+b.length∧Nrm r∧∀y,cU r y↔cU a y∨cU b y):=by
 unfold f9
 rw [concat2_at ha hb,zc]
 refine Ok.bind (jh so) (fun x hx=>Ok.ret ⟨by have:=hx.1;simp at this;omega,hx.2.1,fun y=>by rw [hx.2.2,iq]⟩)
theorem has_ok{g:List Span}(k:Int)(hl:g.length<=1000000):Ok (nS g k) (fun r=>r=true↔cU g k):=by
 have h1:∀(i:Nat)(hi:i<g.length),bR g k (i:Int)=if(decide (g[i].bd<=k)&&decide (k<g[i].fTo))=true then some (.stop (.inr (i:Int)))else some (.next ((i+1:Nat):Int)):=by
  intro i hi
  unfold bR lO
  rw [if_pos so,p7 rfl hi,zc,w64 za za]
  by_cases h:g[i].bd<=k
  ·rw [if_pos (decide_eq_true h),decide_eq_true h,Bool.true_and,zc];simp
  ·rw [if_neg (by simpa using h),decide_eq_false h,Bool.false_and,zc];simp
 have h2:bR g k (g.length:Nat)=some (.stop (.inl ())):=by
  unfold bR
  rw [if_neg sm]
 unfold nS db du
 rcases loop_first g (p:=fun s=>decide (s.bd<=k)&&decide (k<s.fTo)) (f:=fun i _=>(i:Int)) h1 h2 with⟨e,h⟩|⟨i,hi,e,hp,h⟩
 ·rw [e]
  refine Ok.ret ?_
  refine⟨fun hh=>(by cases hh),fun⟨s,hs,a,b⟩=>?_⟩
  have:=h s hs
  rw [decide_eq_true a,decide_eq_true b]at this
  cases this
 ·rw [e]
  refine Ok.ret ⟨fun _=>⟨g[i],List.getElem_mem hi,?_⟩,fun _=>decide_eq_true sm⟩
  simpa using hp
theorem accept_ok{g:List Span}(h:gl g){k:Int}(h0:0<=k)(h1:k<64):
  Ok (gJ ⟨g,[]⟩ k) (fun r=>r.2.2=0∧∃g',r.1=⟨g',[]⟩∧gl g'∧(∀y,cU g' y↔cU g y∨y=k)∧(r.2.1=true->¬cU g k)):=by
 have hl:=h.len
 unfold gJ
 rw [mj h,zc,if_neg (by decide),rin_t za,zc,if_neg (by decide),w64 (n:=k+1) za za]
 refine Ok.bind (has_ok k zb) (fun b hb=>?_)
 refine Ok.bind (union_ok zb sm) (fun g' hg=>?_)
 simp only at hb hg
 rw [minus_none oU sm,zc]
 obtain⟨g1,g2,g3⟩:=hg
 have hy:∀y,cU g' y↔cU g y∨y=k:=fun y=>by
  rw [g3,ir]
  simp only
  constructor
  ·rintro(h|h)
   ·exact .inl h
   ·exact .inr za
  ·rintro(h|h)
   ·exact .inl h
   ·exact .inr za
 have hg' : gl g' := ⟨g2, fun t ht => by
  rcases(hy t).1 ht with h'|h'
  ·exact h.low t h'
  ·omega⟩
 have hl':=hg'.len
 have hlim:cV g' []=some (⟨g',[]⟩,0):=by
  unfold cV
  rw [if_neg so,if_neg sm]
 rw [hlim,zc]
 refine Ok.sb (fun hf=>Ok.ret ⟨rfl,g',rfl,hg',hy,fun _ hh=>?_⟩) (fun _=>Ok.ret ⟨rfl,g',rfl,hg',hy,fun hh=>by cases hh⟩)
 rw [hb.2 hh]at hf;cases hf
theorem lose_at{g:List Span}(h:gl g):gA ⟨g,[]⟩ 0=some (⟨g,[]⟩,0):=by
 have hl:=h.len
 unfold gA
 have hu:f9 [] []=some []:=by
  unfold f9
  rw [concat2_at sm sm,zc]
  show(cj []).bind _=_
  rw [oU];rfl
 have hlim:cV g []=some (⟨g,[]⟩,0):=by
  unfold cV
  rw [if_neg so,if_neg sm]
 rw [mj h,zc,if_neg (by decide),rin_t za,zc,if_neg (by decide),minus_none normal_zero zb,zc,gw zb,zc]
 rw [hu,zc,hlim];rfl
theorem high_ok{g:List Span}(h:gl g):Ok (jB ⟨g,[]⟩) (fun _=>True):=by
 have hl:=h.len
 unfold jB gc gb
 rw [mj h,zc,if_neg (by decide)]
 dsimp only
 refine Ok.pM (fun hp=>?_) (fun _=>?_)
 ·rw [w64 za za]
  refine Ok.bind (Ok.get za za) (fun x _=>?_)
  rw [if_neg sm];exact Ok.ret trivial
 ·rw [if_neg sm];exact Ok.ret trivial
theorem first_ok{l:List Span}(n:Int)(hl:l.length<=100000):Ok (mV l n) (fun r=>r.length<=100000):=by
 unfold mV
 refine Ok.bind (jh za) (fun x hx=>?_)
 have hxl:=hx.1
 refine Ok.bind (P:=fun r=>r.length<=100000) ?_ (fun r hr=>Ok.ret hr)
 refine Ok.loop (fun s=>0<=s.2.1∧s.2.1<=x.length∧(s.2.2.length:Int)<=s.2.1) (fun s=>((x.length:Int)-s.2.1).toNat) ?_ ⟨Int.le_refl _,sm,sm⟩
 rintro⟨a,i,acc⟩ ⟨i0,i1,i2⟩
 simp only at i0 i1 i2
 unfold nR
 dsimp only
 refine Ok.pM (fun hlt=>?_) (fun _=>Ok.st za)
 refine Ok.bind (Ok.get za za) (fun y _=>?_)
 rw [w64 (n:=i+1) za za]
 refine Ok.pM (fun _=>Ok.st za) (fun _=>?_)
 refine Ok.pM (fun _=>?_) (fun _=>?_)
 ·refine Ok.bind (Ok.app (by simp only [List.length_cons,List.length_nil];omega)) (fun w hw=>?_)
  subst hw
  exact Ok.nx ⟨zb,zb,by simp only [List.length_append,List.length_cons,List.length_nil];omega⟩ zb
 ·refine Ok.bind (Ok.app (by simp only [List.length_cons,List.length_nil];omega)) (fun w hw=>?_)
  subst hw
  exact Ok.nx ⟨zb,zb,by simp only [List.length_append,List.length_cons,List.length_nil];omega⟩ zb
theorem request_ok{g:List Span}(h:gl g){k:Int}(h0:0<=k)(h1:k<=64):Ok (gd ⟨g,[]⟩ k 16) (fun r=>r.1.length<=100000):=by
 have hl:=h.len
 unfold gd jk kQ
 refine Ok.bind (P:=fun r=>r.1.length<=100000) ?_ (fun x hx=>?_)
 ·rw [mj h,zc,if_neg (by decide),rin_t za,zc,if_neg (by decide)]
  refine Ok.bind (high_ok h) (fun hi _=>?_)
  refine Ok.bind (P:=fun r=>r.length<=64) (Ok.bind (union_ok zb sm) (fun r hr=>Ok.ret (by have:=hr.1;simp at this;omega))) (fun r hr=>?_)
  exact Ok.bind (minus_ok sm za) (fun w hw=>Ok.ret (by have:=hw.1;simp only;omega))
 ·refine Ok.uP (fun _=>Ok.ret sm) (fun _=>?_)
  rw [rin_t za,zc,if_neg (by decide)]
  exact Ok.bind (first_ok _ hx) (fun w hw=>Ok.ret hw)
end Go.Dw.Fc
set_option maxRecDepth 100000
set_option maxHeartbeats 4000000
namespace Go.Dw.Fc
open Go.Dw Go.Proofs
def Msg(all:List Bul)(nx:Nat)(m:List UInt8):Prop:=
 (∃(k:Nat)(h:k<all.length),k<nx∧(text all[k]).length<=4064∧m=msgD k (text all[k]))∨∃j:Nat,j<=nx∧m=msgS j
theorem Msg.mono{all:List Bul}{n n':Nat}(hn:n<=n'){m:List UInt8}(h:Msg all n m):Msg all n' m:=by
 rcases h with⟨k,h1,h2,h3,h4⟩|⟨j,h1,h2⟩
 ·exact .inl ⟨k,h1,za,h3,h4⟩
 ·exact .inr ⟨j,za,h2⟩
structure DelOk(all:List Bul)(nx:Nat)(now:Int)(g:List Span)(dl:List Arr):Prop where
 len:dl.length<=4096
 arr:∀a∈dl,∃(k:Nat)(h:k<all.length),k<nx∧a.da=(k:Int)∧a.ch=text all[k]
 got:∀a∈dl,cU g a.da
 tim:∀a∈dl,0<=a.fAt∧a.fAt<=now
 ord:dl.Pairwise fun a b=>a.fAt<=b.fAt
 dis:dl.Pairwise fun a b=>a.da≠b.da
def cr(all:List Bul)(nx:Nat):List (List UInt8):=(all.take nx).map text
theorem od{all:List Bul}{nx:Nat}(h:nx<=all.length):(cr all nx).length=nx:=by unfold cr;simp;omega
theorem datas_get{all:List Bul}{nx k:Nat}(h:k<nx)(hk:k<all.length):∃h':k<(cr all nx).length,(cr all nx)[k]=text all[k]:=by
 refine⟨by unfold cr;simp;omega,?_⟩
 simp [cr]
theorem datas_succ{all:List Bul}{nx:Nat}(h:nx<all.length):cr all nx++[text all[nx]]=cr all (nx+1):=by
 unfold cr
 rw [qF h,List.map_append];rfl
structure np(all:List Bul)(nx:Nat):Prop where
 le:nx<=all.length
 h64:all.length<=64
 short:∀d∈cr all nx,d.length<=4064
structure jF(all:List Bul)(nx:Nat)(now:Int)(s:aK):Prop where
 now_:s.bt=now
 now0:0<=now
 now1:now<=800
 int0:1<=s.br
 int1:s.br<=4
 snd:s.bj=⟨200,0,cr all nx⟩
 ok:np all nx
 kn0:0<=s.bY
 kn1:s.bY<=nx
 lost:s.bo.c7=[]
 got:gl s.bo.eU
 down:cN (Msg all nx) now s.bF
 up:cN (fun _=>True) now s.fUp
 del:DelOk all nx now s.bo.eU s.bp
theorem cont_at{D:List (List UInt8)}(hd:∀d∈D,d.length<=4064)(hl:D.length<=1000):b9 D=some false:=by
 have:Ok (kG (cS D) 0) (fun r=>r= .inl ()):=by
  refine Ok.loop (fun k=>0<=k∧k<=D.length) (fun k=>((D.length:Int)-k).toNat) ?_ ⟨Int.le_refl _,sm⟩
  intro k ⟨h0,h1⟩
  unfold cS
  refine Ok.pM (fun hlt=>?_) (fun _=>Ok.st rfl)
  refine Ok.bind (Ok.get za za) (fun x hx=>?_)
  have:=hd x hx.1
  unfold iG
  rw [zc,if_neg so,w64 za za]
  exact Ok.nx ⟨za,za⟩ za
 unfold b9 dn
 rw [this.eq];rfl
theorem mF{all:List Bul}{nx:Nat}(h:np all nx):dy ⟨200,0,cr all nx⟩=some (nx:Int):=by
 have h1:=h.le;have h2:=h.h64
 unfold dy
 dsimp only
 rw [od h1,w64 za za]
 exact congrArg some za
theorem pF{all:List Bul}{nx:Nat}(h:np all nx):ei ⟨200,0,cr all nx⟩=some true:=by
 have h1:=h.le;have h2:=h.h64
 have hl:=od h1
 unfold ei
 rw [din_t zb, zc, if_neg (by decide), din_t zb, zc, if_neg (by decide), if_neg so, mF h, zc, if_neg so,
  cont_at h.short za]
 rfl
theorem mGet_no{k:Int}{z:Bool}:∀{l:List (Int×Bool)},(∀e∈l,e.1≠k)->pI (fun a b=>a==b) k z l=z
 | [],_=>rfl
 |e::l,h=>by
  unfold pI
  rw [if_neg (by have:=h e sm;simpa using fun he:k=e.1=>this he.symm)]
  exact mGet_no fun x hx=>h x (by simp [hx])
theorem mPut_mem{k:Int}{v:Bool}:∀{l:List (Int×Bool)}{e:Int×Bool},e∈sZ (fun a b=>a==b) k v l->e.1=k∨e∈l
 | [],e,h=>by
  unfold sZ at h
  rw [List.mem_singleton.1 h];exact .inl rfl
 |x::l,e,h=>by
  unfold sZ at h
  split at h
  ·rcases List.mem_cons.1 h with rfl|h
   ·exact .inl rfl
   ·exact .inr (by simp [h])
  ·rcases List.mem_cons.1 h with rfl|h
   ·exact .inr sm
   ·rcases mPut_mem h with h|h
    ·exact .inl h
    ·exact .inr (by simp [h])
theorem del_at{all:List Bul}{nx:Nat}{now:Int}{s:aK}(h:jF all nx now s):fI s=some true:=by
 have hn:=h.now_;have hn0:=h.now0;have hn1:=h.now1;have hle:=h.ok.le;have h64:=h.ok.h64
 have hg:=h.got.len
 obtain⟨d1,d2,d3,d4,d5,d6⟩:=h.del
 have hp:=List.pairwise_iff_getElem.1 d5
 have hq:=List.pairwise_iff_getElem.1 d6
 unfold fI
 have:Ok (kG (fD s) (0,0,([]:List (Int×Bool)))) (fun r=>r= .inl ()):=by
  refine Ok.loop (fun st:Int×Int×List (Int×Bool)=>∃j:Nat,st.2.1=(j:Int)∧j<=s.bp.length∧0<=st.1∧(∀k(hk:k<s.bp.length),j<=k->st.1<=s.bp[k].fAt)∧∀e∈st.2.2,∃k,∃hk:k<s.bp.length,k<j∧e.1=s.bp[k].da) (fun st=>((s.bp.length:Int)-st.2.1).toNat) ?_
   ⟨0,rfl,Nat.zero_le _,Int.le_refl _,fun k hk _=>(d4 _ (List.getElem_mem hk)).1,fun e he=>by cases he⟩
  rintro⟨a,k,mm⟩ ⟨j,i0,i1,i2,i3,i4⟩
  simp only at i0 i2 i3 i4
  subst i0
  unfold fD
  dsimp only
  refine Ok.pM (fun hlt=>?_) (fun _=>Ok.st rfl)
  have hj:j<s.bp.length:=by omega
  obtain⟨q,hq1,hq2,hq3, -⟩:=d2 _ (List.getElem_mem hj)
  have e2:=d4 _ (List.getElem_mem hj)
  have e3:=i3 j hj (Nat.le_refl _)
  have e4:=d3 _ (List.getElem_mem hj)
  rw [p7 rfl hj, zc, mGet_no (fun e he => by
   obtain⟨k,hk,hkj,hke⟩:=i4 e he
   rw [hke];exact hq k j hk hj hkj),if_neg (by decide),sin_t za,zc,if_neg (by decide)]
  refine Ok.bind (has_ok _ za) (fun b hb=>?_)
  rw [hb.2 e4,if_neg (by decide),sin_t za,zc,if_neg (by decide),w64 za za]
  refine Ok.nx ⟨j+1,sm,za,e2.1,fun k hk hjk=>hp j k hj hk za,fun e he=>?_⟩ zb
  rcases mPut_mem he with h|h
  ·exact⟨j,hj,za,h⟩
  ·obtain⟨k,hk,hkj,hke⟩:=i4 e h
   exact⟨k,hk,za,hke⟩
 rw [this.eq,zc]
 dsimp only
 exact congrArg some (decide_eq_true za)
theorem jF.mu{all:List Bul}{nx:Nat}{now:Int}{s:aK}(h:jF all nx now s):gD s=some true:=by
 have hd:=del_at h
 obtain⟨h1,h2,h3,h4,h5,h6,h7,h8,h9,h10,h11,h12,h13,h14⟩:=h
 have hle:=h7.le;have h64:=h7.h64
 have hr:cy s.bo=some true:=by
  have:=mj h11
  rw [<-h10]at this;exact this
 have e1:s.bF.bt=s.bt:=by rw [h12.now_,h1]
 have e2:s.fUp.bt=s.bt:=by rw [h13.now_,h1]
 unfold gD
 rw [sin_t za, zc, if_pos rfl, sin_t za, zc, if_pos rfl, h6, pF h7, zc, if_pos rfl, mF h7, zc, sin_t za, zc, if_pos rfl,
  hr,zc,if_pos rfl,h12.mu,zc,if_pos rfl,h13.mu,zc,if_pos rfl,e1,e2,if_pos sm,if_pos sm,hd];rfl
theorem jF.copied{all:List Bul}{nx:Nat}{now:Int}{s:aK}(h:jF all nx now s):fV s=some s:=by
 obtain⟨h1,h2,h3,h4,h5,h6,h7,h8,h9,h10,h11,h12,h13,h14⟩:=h
 have hle:=h7.le;have h64:=h7.h64
 have l1:s.bj.ch.length<=64:=by rw [h6];simp only;rw [od hle];omega
 have l2:=h11.len
 have l3:=h12.len
 have l4:=h13.len
 have l5:=h14.len
 unfold fV
 rw [gw za,zc,gw za,zc,h10,gw sm,zc,gw za,zc,gw za,zc,gw za,zc, <-h10]
theorem jF.push{all:List Bul}{nx:Nat}{now:Int}{s:aK}(h:jF all nx now s)(hnx:nx<all.length){f:am}(hf:k8 f):
  Ok (kr s (text all[nx]) f) (fun r=>r.2.2=8∨(r.2.2=0∧r.2.1=(nx:Int)∧jF all (nx+1) now r.1)):=by
 have hv:=h.mu
 have hc:=h.copied
 obtain⟨h1,h2,h3,h4,h5,h6,h7,h8,h9,h10,h11,h12,h13,h14⟩:=h
 have hle:=h7.le;have h64:=h7.h64
 have hl:=od hle
 unfold kr
 rw [hv,zc,if_neg (by decide),hf.mu,zc,if_neg (by decide),hc,zc,h6]
 have hpush:lm ⟨200,0,cr all nx⟩ (text all[nx])=if(text all[nx]).length>4064 then some (⟨0,0,[]⟩,0,8)else some (⟨200,0,cr all (nx+1)⟩,(nx:Int),0):=by
  unfold lm
  rw [pF h7,zc,if_neg (by decide),mF h7,zc]
  by_cases hbig:(text all[nx]).length>4064
  ·rw [if_pos (decide_eq_true za),if_pos hbig]
  ·rw [if_neg so,if_neg hbig,if_neg so,mz (by simp only [List.length_cons,List.length_nil];omega),zc,if_neg (show ¬(((cr all nx).length:Int)==200)=true by rw [beq_iff_eq];omega)]
   rw [datas_succ hnx]
 rw [hpush]
 by_cases hbig:(text all[nx]).length>4064
 ·rw [if_pos hbig,zc,if_pos (by decide)]
  exact Ok.ret (.inl rfl)
 rw [if_neg hbig,zc,if_neg sm]
 dsimp only
 rw [data_at za za,zc]
 have hm:Msg all (nx+1) (msgD nx (text all[nx])):= .inl ⟨nx,hnx,za,za,rfl⟩
 refine Ok.bind (send_ok (h12.mono fun m hm=>hm.mono za) hm hf za) (fun r hr=>?_)
 rcases hr with hr|⟨hr0,hr1⟩
 ·rw [hr,if_pos (by decide)];exact Ok.ret (.inl rfl)
 rw [hr0,if_neg (by decide)]
 refine Ok.ret (.inr ⟨rfl,rfl,⟨h1,h2,h3,h4,h5,rfl,⟨za,h64,fun d hd=>?_⟩,h8,zb,h10,h11,hr1,h13,⟨h14.len,fun a ha=>?_,h14.got,h14.tim,h14.ord,h14.dis⟩⟩⟩)
 ·have:d∈cr all nx++[text all[nx]]:=by
   rw [datas_succ hnx];exact hd
  exact ix h7.short za d this
 ·obtain⟨k,k1,k2,k3⟩:=h14.arr a ha
  exact⟨k,k1,za,k3⟩
end Go.Dw.Fc
set_option maxRecDepth 100000
set_option maxHeartbeats 4000000
namespace Go.Dw.Fc
open Go.Dw Go.Proofs
theorem learn_at{all:List Bul}{nx:Nat}(h:np all nx){a K:Int}(hK0:0<=K)(hK1:K<=nx)(e1 e2:Int)(g l:List Span)(e9 e10:Int)(e11:List Tr)(e12 e13:Int)(e14:List Tr)(e15 e16:List am)(dl:List Arr):
  ∃K':Int,0<=K'∧K'<=nx∧kI a e1 e2 K 200 0 (cr all nx) g l e9 e10 e11 e12 e13 e14 e15 e16 dl=some (e1,e2,K',200,0,cr all nx,g,l,e9,e10,e11,e12,e13,e14,e15,e16):=by
 unfold kI
 rw [mF h]
 refine⟨_,?_,?_,rfl⟩
 ·(repeat' split)<;>omega
 ·(repeat' split)<;>omega
theorem data_ok{all:List Bul}{nx:Nat}(h:np all nx){m:List UInt8}(hm:Msg all nx m){K:Int}(hK0:0<=K)(hK1:K<=nx){g:List Span}(hg:gl g){dl:List Arr}{e1:Int}(he1:0<=e1)(hd:DelOk all nx e1 g dl)
  (e2:Int) (e9 e10:Int) (e11:List Tr) (e12 e13:Int) (e14:List Tr) (e15 e16:List am):
  ∃(K':Int)(g':List Span)(dl':List Arr),oe m e1 e2 K 200 0 (cr all nx) g [] e9 e10 e11 e12 e13 e14 e15 e16 dl=some (e1,e2,K',200,0,cr all nx,g',[],e9,e10,e11,e12,e13,e14,e15,e16,dl')∧0<=K'∧K'<=nx∧gl g'∧DelOk all nx e1 g' dl':=by
 have hle:=h.le;have h64:=h.h64
 unfold oe
 rcases hm with⟨k,k1,k2,k3,rfl⟩|⟨j,j1,rfl⟩
 rotate_left
 ·rw [parseDS_at,zc,if_pos (by decide)]
  exact⟨K,g,dl,rfl,hK0,hK1,hg,hd⟩
 rw [parseD_at za k3,zc,if_neg sm]
 dsimp only
 obtain⟨⟨r1,r2,r3⟩,e,p1,g',p2,p3,p4,p5⟩:=accept_ok hg (k:=(k:Int)) za za
 simp only at p1 p2 p5
 subst p1 p2
 rw [e,zc,if_neg sm]
 dsimp only
 rw [lose_at p3,zc,if_neg sm]
 dsimp only
 obtain⟨K',q0,q1,q2⟩:=learn_at h (a:=IntKind.wrap .i64 ((k:Int)+1)) hK0 hK1 e1 e2 g' [] e9 e10 e11 e12 e13 e14 e15 e16 dl
 rw [q2,zc]
 have hkeep:DelOk all nx e1 g' dl:=⟨hd.len,hd.arr,fun a ha=>(p4 _).2 (.inl (hd.got a ha)),hd.tim,hd.ord,hd.dis⟩
 by_cases hr:r2=true
 rotate_left
 ·rw [if_neg hr]
  exact⟨K',g',dl,rfl,q0,q1,p3,hkeep⟩
 rw [if_pos hr]
 by_cases hlen:(dl.length:Int)<4096
 rotate_left
 ·rw [if_neg (by simpa using hlen)]
  exact⟨K',g',dl,rfl,q0,q1,p3,hkeep⟩
 rw [if_pos (decide_eq_true hlen),mz (by simp only [List.length_cons,List.length_nil];omega),zc]
 have hno:=p5 hr
 refine ⟨K', g', _, rfl, q0, q1, p3, ⟨by simp only [List.length_append, List.length_cons, List.length_nil]; omega, ix hd.arr ⟨k, k1, k2, rfl, rfl⟩, ix hkeep.got ((p4 _).2 (.inr rfl)), ix hd.tim ⟨he1, Int.le_refl _⟩,
  List.pairwise_append.2 ⟨hd.ord,sm,fun a ha b hb=>?_⟩,List.pairwise_append.2 ⟨hd.dis,sm,fun a ha b hb=>?_⟩⟩⟩
 ·rw [List.mem_singleton.1 hb];exact(hd.tim a ha).2
 ·rw [List.mem_singleton.1 hb]
  intro he
  have:=hd.got a ha
  rw [he]at this
  exact hno this
theorem status_ok{all:List Bul}{nx:Nat}(h:np all nx){m:List UInt8}(hm:Msg all nx m){K:Int}(hK0:0<=K)(hK1:K<=nx){g:List Span}(hg:gl g){dl:List Arr}{e1:Int}
  (e2:Int) (e9 e10:Int) (e11:List Tr) (e12 e13:Int) (e14:List Tr) (e15 e16:List am):
  ∃(K':Int),lc m e1 e2 K 200 0 (cr all nx) g [] e9 e10 e11 e12 e13 e14 e15 e16 dl=some (e1,e2,K',200,0,cr all nx,g,[],e9,e10,e11,e12,e13,e14,e15,e16)∧0<=K'∧K'<=nx:=by
 have hle:=h.le;have h64:=h.h64
 unfold lc
 rcases hm with⟨k,k1,k2,k3,rfl⟩|⟨j,j1,rfl⟩
 ·rw [parseSD_at k3,zc,if_pos (by decide)]
  exact⟨K,rfl,hK0,hK1⟩
 rw [parseS_at za,zc,if_neg sm]
 dsimp only
 rw [lose_at hg,zc,if_pos sm]
 dsimp only
 obtain⟨K',q0,q1,q2⟩:=learn_at h (a:=(j:Int)) hK0 hK1 e1 e2 g [] e9 e10 e11 e12 e13 e14 e15 e16 dl
 rw [q2,zc]
 exact⟨K',rfl,q0,q1⟩
theorem hear_ok{all:List Bul}{nx:Nat}(h:np all nx){x:Wire×List (List UInt8)×Int}(hl:x.2.1.length<=1024)(hx:∀m∈x.2.1,Msg all nx m){K:Int}(hK0:0<=K)(hK1:K<=nx){g:List Span}(hg:gl g){dl:List Arr}{e1:Int}(he1:0<=e1)(hd:DelOk all nx e1 g dl)
  (e2:Int) (e9 e10:Int) (e11:List Tr) (e12 e13:Int) (e14:List Tr) (e15 e16:List am):
  Ok (kG (jn x) ((0:Int),e1,e2,K,200,0,cr all nx,g,[],e9,e10,e11,e12,e13,e14,e15,e16,dl)) (fun r=>∃(K':Int)(g':List Span)(dl':List Arr),r=(e1,e2,K',200,0,cr all nx,g',[],e9,e10,e11,e12,e13,e14,e15,e16,dl')∧0<=K'∧K'<=nx∧gl g'∧DelOk all nx e1 g' dl'):=by
 refine Ok.loop (fun s=>∃(i:Nat)(K':Int)(g':List Span)(dl':List Arr),s=((i:Int),e1,e2,K',200,0,cr all nx,g',[],e9,e10,e11,e12,e13,e14,e15,e16,dl')∧i<=x.2.1.length∧0<=K'∧K'<=nx∧gl g'∧DelOk all nx e1 g' dl') (fun s=>((x.2.1.length:Int)-s.1).toNat) ?_
  ⟨0,K,g,dl,rfl,Nat.zero_le _,hK0,hK1,hg,hd⟩
 rintro _ ⟨i,K1,g1,dl1,rfl,i1,k0,k1,hg1,hd1⟩
 unfold jn
 dsimp only
 refine Ok.pM (fun hlt=>?_) (fun _=>Ok.st ⟨K1,g1,dl1,rfl,k0,k1,hg1,hd1⟩)
 refine Ok.bind (Ok.get za za) (fun m hm=>?_)
 have hmm:=hx m hm.1
 obtain⟨K2,g2,dl2,q1,q2,q3,q4,q5⟩:=data_ok h hmm k0 k1 hg1 he1 hd1 e2 e9 e10 e11 e12 e13 e14 e15 e16
 rw [q1,zc]
 dsimp only
 obtain⟨K3,t1,t2,t3⟩:=status_ok h hmm q2 q3 q4 (dl:=dl2) (e1:=e1) e2 e9 e10 e11 e12 e13 e14 e15 e16
 rw [t1,zc,w64 za za]
 exact Ok.nx ⟨i+1,K3,g2,dl2,sm,za,t2,t3,q4,q5⟩ zb
def dp(l:List am):Prop:=l.length<=1000∧∀f∈l,k8 f
theorem next_ok{l:List am}(h:dp l):Ok (iL l) (fun r=>k8 r.1∧dp r.2):=by
 obtain⟨h1,h2⟩:=h
 unfold iL
 refine Ok.uE (fun _=>Ok.ret ⟨⟨⟨sm,sm⟩,sm,sm⟩,sm,sm⟩) (fun hne=>?_)
 refine Ok.bind (Ok.get za za) (fun f hf=>?_)
 refine Ok.bind (Ok.cut za za za) (fun r hr=>?_)
 subst hr
 exact Ok.ret ⟨h2 f hf.1,by simp only [List.length_take,List.length_drop];omega,fun f hf=>h2 f (List.mem_of_mem_drop (List.mem_of_mem_take hf))⟩
theorem esend_ok{P:List UInt8->Prop}{m:List UInt8}(hP:P m){now:Int}(hnow:now<=900){e9 e10:Int}{e11:List Tr}(hw:cN P now ⟨e9,e10,e11⟩){e15:List am}(hf:dp e15)
  (e1 e2 e3 e4 e5:Int) (e6:List (List UInt8)) (e7 e8:List Span) (e12 e13:Int) (e14:List Tr) (e16:List am) (dl:List Arr):
  Ok (lW m e1 e2 e3 e4 e5 e6 e7 e8 e9 e10 e11 e12 e13 e14 e15 e16 dl) (fun r=>∃(a b:Int)(c:List Tr)(fs:List am),r=(e1,e2,e3,e4,e5,e6,e7,e8,a,b,c,e12,e13,e14,fs,e16)∧cN P now ⟨a,b,c⟩∧dp fs):=by
 unfold lW
 refine Ok.bind (next_ok hf) (fun x hx=>?_)
 refine Ok.bind (send_ok hw hP hx.1 hnow) (fun r hr=>?_)
 rcases hr with hr|⟨hr0,hr1⟩
 ·rw [hr,if_neg (by decide)]
  exact Ok.ret ⟨e9,e10,e11,x.2,rfl,hw,hx.2⟩
 ·rw [hr0,if_pos (by decide)]
  exact Ok.ret ⟨_,_,_,x.2,rfl,hr1,hx.2⟩
theorem eask_ok{P:List UInt8->Prop}{m:List UInt8}(hP:P m){now:Int}(hnow:now<=900){e12 e13:Int}{e14:List Tr}(hw:cN P now ⟨e12,e13,e14⟩){e16:List am}(hf:dp e16)
  (e1 e2 e3 e4 e5:Int) (e6:List (List UInt8)) (e7 e8:List Span) (e9 e10:Int) (e11:List Tr) (e15:List am) (dl:List Arr):
  Ok (pg m e1 e2 e3 e4 e5 e6 e7 e8 e9 e10 e11 e12 e13 e14 e15 e16 dl) (fun r=>∃(a b:Int)(c:List Tr)(fs:List am),r=(e1,e2,e3,e4,e5,e6,e7,e8,e9,e10,e11,a,b,c,e15,fs)∧cN P now ⟨a,b,c⟩):=by
 unfold pg
 refine Ok.bind (next_ok hf) (fun x hx=>?_)
 refine Ok.bind (send_ok hw hP hx.1 hnow) (fun r hr=>?_)
 rcases hr with hr|⟨hr0,hr1⟩
 ·rw [hr,if_neg (by decide)]
  exact Ok.ret ⟨e12,e13,e14,x.2,rfl,hw⟩
 ·rw [hr0,if_pos (by decide)]
  exact Ok.ret ⟨_,_,_,x.2,rfl,hr1⟩
theorem contq_ok{l:List Span}(k:Int)(hl:l.length<=1000000):Ok (cf l k) (fun _=>True):=by
 unfold cf dm
 refine Ok.bind (P:=fun _=>True) (Ok.bind (P:=fun _=>True) ?_ (fun o _=>by cases o<;>exact Ok.ret trivial)) (fun _ _=>Ok.ret trivial)
 refine Ok.loop (fun i=>0<=i∧i<=l.length) (fun i=>((l.length:Int)-i).toNat) ?_ ⟨Int.le_refl _,sm⟩
 intro i ⟨h0,h1⟩
 unfold ey hF
 refine Ok.pM (fun hlt=>?_) (fun _=>Ok.st trivial)
 refine Ok.bind (Ok.get za za) (fun x _=>?_)
 rw [w64 za za]
 refine Ok.bind (P:=fun _=>True) (Ok.pM (fun _=>Ok.ret trivial) (fun _=>Ok.ret trivial)) (fun b _=>?_)
 exact Ok.uS (fun _=>Ok.st trivial) (fun _=>Ok.nx ⟨za,za⟩ za)
theorem answer_ok{all:List Bul}{nx:Nat}(h:np all nx){l:List Span}(hl:l.length<=1000000):Ok (jD ⟨200,0,cr all nx⟩ l 16) (fun r=>r.1.length<=100∧∀n∈r.1,0<=n∧n<nx):=by
 have hle:=h.le;have h64:=h.h64
 unfold jD
 rw [pF h,zc,if_neg (by decide),din_t za,zc,if_neg (by decide)]
 refine Ok.bind (P:=fun r:List Int=>r.length<=100∧∀n∈r,0<=n∧n<(nx:Int)) ?_ (fun r hr=>Ok.ret hr)
 refine Ok.loop (fun s=>0<=s.2∧s.2<=nx∧(s.1.length:Int)<=s.2∧∀n∈s.1,0<=n∧n<(nx:Int)) (fun s=>((nx:Int)-s.2).toNat) ?_ ⟨Int.le_refl _,sm,sm,sm⟩
 rintro⟨acc,i⟩ ⟨i0,i1,i2,i3⟩
 simp only at i0 i1 i2 i3
 unfold iF
 dsimp only
 rw [mF h,zc]
 refine Ok.pM (fun hlt=>?_) (fun _=>Ok.st ⟨za,i3⟩)
 refine Ok.pM (fun _=>?_) (fun _=>Ok.st ⟨za,i3⟩)
 refine Ok.bind (contq_ok _ hl) (fun b _=>?_)
 rw [w64 (n:=i+1) za za]
 refine Ok.uS (fun _=>?_) (fun _=>Ok.nx ⟨zb,zb,zb,i3⟩ zb)
 refine Ok.bind (Ok.app (by simp only [List.length_cons,List.length_nil];omega)) (fun w hw=>?_)
 subst hw
 exact Ok.nx ⟨zb,zb,by simp only [List.length_append,List.length_cons,List.length_nil];omega,ix i3 ⟨i0,hlt⟩⟩ zb
theorem sget_at{all:List Bul}{nx:Nat}(h:np all nx){k:Nat}(hk:k<nx):∃hk':k<all.length,mS ⟨200,0,cr all nx⟩ (k:Int)=some (text all[k],true)∧(text all[k]).length<=4064:=by
 have hle:=h.le;have h64:=h.h64
 obtain⟨h1,h2⟩:=datas_get hk (show k<all.length by omega)
 refine⟨za,?_,?_⟩
 ·unfold mS
  rw [pF h,zc,if_neg (by decide),mF h,zc]
  dsimp only
  rw [w64 (n:=(nx:Int)-1) za za,din_t za,zc,if_neg (by decide),Int.sub_zero,w64 za za,p7 rfl h1,zc,h2]
 ·rw [<-h2];exact h.short _ (List.getElem_mem h1)
theorem repeat_ok{all:List Bul}{nx:Nat}(h:np all nx){m:List UInt8}(hm:m.length<=4096){now:Int}(hnow:now<=900){e9 e10:Int}{e11:List Tr}(hw:cN (Msg all nx) now ⟨e9,e10,e11⟩){e15:List am}(hf:dp e15)
  (e1 e2 e3:Int) (e7 e8:List Span) (e12 e13:Int) (e14:List Tr) (e16:List am) (dl:List Arr):
  Ok (la m e1 e2 e3 200 0 (cr all nx) e7 e8 e9 e10 e11 e12 e13 e14 e15 e16 dl) (fun r=>∃(a b:Int)(c:List Tr)(fs:List am),r=(e1,e2,e3,200,0,cr all nx,e7,e8,a,b,c,e12,e13,e14,fs,e16)∧cN (Msg all nx) now ⟨a,b,c⟩∧dp fs):=by
 have hle:=h.le;have h64:=h.h64
 unfold la
 refine Ok.bind (parseR_ok za) (fun x hx=>?_)
 refine Ok.uP (fun _=>Ok.ret ⟨_,_,_,_,rfl,hw,hf⟩) (fun _=>?_)
 refine Ok.bind (answer_ok h za) (fun y hy=>?_)
 obtain⟨y1,y2⟩:=hy
 refine Ok.bind (P:=fun r=>∃(a b:Int)(c:List Tr)(fs:List am),r=(e1,e2,e3,200,0,cr all nx,e7,e8,a,b,c,e12,e13,e14,fs,e16)∧cN (Msg all nx) now ⟨a,b,c⟩∧dp fs) ?_ (fun r hr=>Ok.ret hr)
 refine Ok.loop (fun s=>∃(i:Nat)(a b:Int)(c:List Tr)(fs:List am),s=((i:Int),e1,e2,e3,200,0,cr all nx,e7,e8,a,b,c,e12,e13,e14,fs,e16)∧i<=y.1.length∧cN (Msg all nx) now ⟨a,b,c⟩∧dp fs) (fun s=>((y.1.length:Int)-s.1).toNat) ?_
  ⟨0,e9,e10,e11,e15,rfl,Nat.zero_le _,hw,hf⟩
 rintro _ ⟨i,a,b,c,fs,rfl,i1,w1,f1⟩
 unfold mZ
 dsimp only
 refine Ok.pM (fun hlt=>?_) (fun _=>Ok.st ⟨a,b,c,fs,rfl,w1,f1⟩)
 refine Ok.bind (Ok.get za za) (fun n hn=>?_)
 obtain⟨n0,n1⟩:=y2 n hn.1
 obtain⟨k,rfl⟩:∃k:Nat,n=k:=⟨n.toNat,za⟩
 obtain⟨hk,g1,g2⟩:=sget_at h (k:=k) za
 rw [g1,zc]
 dsimp only
 rw [data_at za g2,zc,if_pos sm,w64 za za]
 refine Ok.bind (esend_ok (P:=Msg all nx) (.inl ⟨k,hk,za,g2,rfl⟩) hnow w1 f1 e1 e2 e3 200 0 (cr all nx) e7 e8 e12 e13 e14 e16 dl) (fun r hr=>?_)
 obtain⟨a',b',c',fs',rfl,w2,f2⟩:=hr
 exact Ok.nx ⟨i+1,a',b',c',fs',sm,za,w2,f2⟩ zb
theorem erequest_ok{all:List Bul}{nx:Nat}(h:np all nx){now:Int}(hnow:now<=900){K:Int}(hK0:0<=K)(hK1:K<=nx){g:List Span}(hg:gl g){e9 e10:Int}{e11:List Tr}(hw:cN (Msg all nx) now ⟨e9,e10,e11⟩){e12 e13:Int}{e14:List Tr}(hu:cN (fun _=>True) now ⟨e12,e13,e14⟩)
  {e15 e16:List am} (hf:dp e15) (hf':dp e16) (e1 e2:Int) (dl:List Arr):
  Ok (ke e1 e2 K 200 0 (cr all nx) g [] e9 e10 e11 e12 e13 e14 e15 e16 dl) (fun r=>∃(a b:Int)(c:List Tr)(fs:List am)(a' b':Int)(c':List Tr)(fs':List am),r=(e1,e2,K,200,0,cr all nx,g,[],a,b,c,a',b',c',fs,fs')∧cN (Msg all nx) now ⟨a,b,c⟩∧cN (fun _=>True) now ⟨a',b',c'⟩):=by
 have hle:=h.le;have h64:=h.h64
 unfold ke
 have hst:iJ ⟨200,0,cr all nx⟩=some (msgS nx,0):=by
  unfold iJ
  rw [pF h,zc,if_neg (by decide),mF h,zc]
  dsimp only
  rw [numsS za,zc,n9 (by simp [b4]),zc]
  unfold msgS
  simp
 rw [hst,zc]
 dsimp only
 refine Ok.bind (esend_ok (P:=Msg all nx) (.inr ⟨nx,Nat.le_refl _,rfl⟩) hnow hw hf e1 e2 K 200 0 (cr all nx) g [] e12 e13 e14 e16 dl) (fun r hr=>?_)
 obtain⟨a,b,c,fs,rfl,w1,f1⟩:=hr
 dsimp only
 refine Ok.bind (request_ok hg hK0 za) (fun q hq=>?_)
 refine Ok.uP (fun _=>Ok.ret ⟨a,b,c,fs,_,_,_,_,rfl,w1,hu⟩) (fun _=>?_)
 refine Ok.uE (fun _=>Ok.ret ⟨a,b,c,fs,_,_,_,_,rfl,w1,hu⟩) (fun hne=>?_)
 rw [w64 za za]
 refine Ok.bind (Ok.get za za) (fun s _=>?_)
 refine Ok.bind (requests_ok _ za) (fun v _=>?_)
 refine Ok.uE (fun _=>?_) (fun _=>Ok.ret ⟨a,b,c,fs,_,_,_,_,rfl,w1,hu⟩)
 refine Ok.bind (eask_ok (P:=fun _=>True) trivial hnow hu hf' e1 e2 K 200 0 (cr all nx) g [] a b c fs dl) (fun r hr=>?_)
 obtain⟨a',b',c',fs',rfl,w2⟩:=hr
 exact Ok.ret ⟨a,b,c,fs,a',b',c',fs',rfl,w1,w2⟩
theorem cfault_at{l:List am}(h:dp l):bO l=some false:=by
 obtain⟨h1,h2⟩:=h
 unfold bO dt
 rw [l8 l (u:= .inl ())]
 ·rfl
 ·intro i hi
  unfold cZ iK
  rw [if_pos so,p7 rfl hi,zc,(h2 _ (List.getElem_mem hi)).mu,zc,zc,if_neg (by decide),w64 za za];simp
 ·unfold cZ
  rw [if_neg sm]
theorem jF.tick{all:List Bul}{nx:Nat}{now:Int}{s:aK}(h:jF all nx now s)(hnow:now<800){fd fu:List am}(hfd:dp fd)(hfu:dp fu):
  Ok (ks s fd fu) (fun r=>r.2=0∧jF all nx (now+1) r.1):=by
 have hv:=h.mu
 have hc:=h.copied
 obtain⟨h1,h2,h3,h4,h5,h6,h7,h8,h9,h10,h11,h12,h13,h14⟩:=h
 unfold ks
 rw [hv,zc,if_neg (by decide),cfault_at hfd,zc,if_neg (by decide),cfault_at hfu,zc,if_neg (by decide),if_neg (show ¬(s.bt==1099511627776)=true by rw [beq_iff_eq];omega),hc,zc]
 refine Ok.bind (wtick_ok h12 za) (fun x hx=>?_)
 obtain⟨x0,x1,x2,x3⟩:=hx
 rw [w64 (n:=s.bt+1) za za,h1,h6,h10]
 dsimp only
 refine Ok.bind (hear_ok h7 x2 (fun m hm=>(x3 m hm).1) h8 h9 h11 (e1:=now+1) za ⟨h14.len,h14.arr,h14.got,fun a ha=>by have:=h14.tim a ha;omega,h14.ord,h14.dis⟩ s.br x.1.bt x.1.ba x.1.bq s.fUp.bt s.fUp.ba s.fUp.bq fd fu) (fun o ho=>?_)
 obtain⟨K,g,dl,rfl,k0,k1,hg,hd⟩:=ho
 dsimp only
 refine Ok.bind (wtick_ok (P:=fun _=>True) (now:=now) (w:=⟨s.fUp.bt,s.fUp.ba,s.fUp.bq⟩) h13 za) (fun y hy=>?_)
 obtain⟨y0,y1,y2,y3⟩:=hy
 refine Ok.bind (P:=fun r=>∃(a b:Int)(c:List Tr)(fs:List am),r=(now+1,s.br,K,200,0,cr all nx,g,[],a,b,c,y.1.bt,y.1.ba,y.1.bq,fs,fu)∧cN (Msg all nx) (now+1) ⟨a,b,c⟩∧dp fs) ?_ ?_
 ·refine Ok.loop (fun s'=>∃(i:Nat)(a b:Int)(c:List Tr)(fs:List am),s'=((i:Int),now+1,s.br,K,200,0,cr all nx,g,[],a,b,c,y.1.bt,y.1.ba,y.1.bq,fs,fu)∧i<=y.2.1.length∧cN (Msg all nx) (now+1) ⟨a,b,c⟩∧dp fs) (fun s'=>((y.2.1.length:Int)-s'.1).toNat) ?_
   ⟨0,_,_,_,fd,rfl,Nat.zero_le _,x1,hfd⟩
  rintro _ ⟨i,a,b,c,fs,rfl,i1,w1,f1⟩
  unfold ml
  dsimp only
  refine Ok.pM (fun hlt=>?_) (fun _=>Ok.st ⟨a,b,c,fs,rfl,w1,f1⟩)
  refine Ok.bind (Ok.get za za) (fun m hm=>?_)
  refine Ok.bind (repeat_ok h7 (y3 m hm.1).2 za w1 f1 (now+1) s.br K g [] y.1.bt y.1.ba y.1.bq fu dl) (fun r hr=>?_)
  obtain⟨a',b',c',fs',rfl,w2,f2⟩:=hr
  rw [w64 za za]
  exact Ok.nx ⟨i+1,a',b',c',fs',sm,za,w2,f2⟩ zb
 ·rintro _ ⟨a,b,c,fs,rfl,w1,f1⟩
  dsimp only
  refine Ok.bind (Ok.rem za) (fun q _=>?_)
  refine Ok.uE (fun _=>?_) (fun _=>Ok.ret ⟨rfl,⟨rfl,za,za,h4,h5,rfl,h7,k0,k1,rfl,hg,w1,y1,hd⟩⟩)
  refine Ok.bind (erequest_ok h7 za k0 k1 hg w1 (e12:=y.1.bt) (e13:=y.1.ba) (e14:=y.1.bq) y1 f1 hfu (now+1) s.br dl) (fun r hr=>?_)
  obtain⟨a',b',c',fs',a2,b2,c2,fs2,rfl,w2,w3⟩:=hr
  exact Ok.ret ⟨rfl,⟨rfl,za,za,h4,h5,rfl,h7,k0,k1,rfl,hg,w2,w3,hd⟩⟩
end Go.Dw.Fc
