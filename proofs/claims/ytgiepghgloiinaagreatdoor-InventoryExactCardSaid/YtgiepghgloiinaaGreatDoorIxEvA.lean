
import Derived.Test.YtgiepghgloiinaaGreatDoorIxFn
import Derived.Test.YtgiepghgloiinaaGreatDoorIxOddD
import Derived.Test.YtgiepghgloiinaaGreatDoorDwShort
import Derived.Test.YtgiepghgloiinaaGreatDoorDwNest
import Derived.Test.YtgiepghgloiinaaGreatDoorProg
import Derived.Test.YtgiepghgloiinaaGreatDoorDwClone
import Derived.Test.YtgiepghgloiinaaGreatDoorDwSort
set_option linter.unusedVariables false
set_option linter.unusedSimpArgs false
open Go.Dw.WC renaming block->CM, cP->CN, lf->CO, lj->CP, loop->CQ, region->CR

set_option maxRecDepth 100000
set_option maxHeartbeats 4000000
namespace Go.Dw.Ix
open Go.Proofs Go.Proofs.Tryz Go.Dw
@[reducible] def rW(n:Int):Int:=IntKind.wrap .i64 n
@[reducible] def rI(n:Int):RV:= .d (.int .i64 n)
@[reducible] def r0:RV:= .d (.int .i64 0)
@[reducible] def rS(s:List UInt8):RV:= .d (.str s)
@[reducible] def rB(b:Bool):RV:= .d (.bool b)
@[reducible] def rM{α:Type}(g:α->PD)(l:List α):RV:= .d (.lst (l.map g))
@[reducible] def rL(l:List Int):RV:= .d (.lst (l.map (PD.int .i64)))
@[reducible] def zZ0:List RV:=[.d (.int .i64 0),.d (.int .i64 0),.d (.int .i64 0),.d (.int .i64 0),.d (.int .i64 0),.d (.int .i64 0),.d (.int .i64 0),.jt,.d (.int .i64 0),.d (.int .i64 0)]
@[reducible] def zZ1:List RV:=[.d (.int .i64 0),.d (.int .i64 0),.d (.int .i64 0),.d (.int .i64 0),.d (.int .i64 0),.d (.int .i64 0),.d (.int .i64 0),.jt]
@[reducible] def zZ2:List RV:=[.d (.str []),.d (.str []),.d (.str []),.d (.str []),.jt]
@[reducible] def aG.rc(x:aG):List RV:=[.d (.int .i64 x.aQ),.d (.str x.aj.aD),.d (.str x.aj.aC),.d (.str x.aj.au),.d (.str x.aj.aF),.d (.int .i64 x.az),.d (.int .i64 x.bi.az),.d (.int .i64 x.bi.fTo),.d (.int .i64 x.bi.aM.aI),.d (.int .i64 x.bi.aM.aH),.d (.int .i64 x.bi.aq.fX),.d (.int .i64 x.bi.aq.fY),.d (.int .i64 x.bi.aq.fZ),.d (.lst (x.bi.aB.aA.map ak.pd))]
@[reducible] def ak.rc(x:ak):List RV:=[.d (.int .i64 x.aQ),.d (.int .i64 x.aI.a0),.d (.int .i64 x.aI.a1),.d (.int .i64 x.aI.a2),.d (.int .i64 x.aH.a0),.d (.int .i64 x.aH.a1),.d (.int .i64 x.aH.a2),.d (.lst (x.aO.map (PD.int .i64))),.d (.int .i64 x.aJ),.d (.int .i64 x.aS)]
@[reducible] def ah.rc(x:ah):List RV:=[.d (.int .i64 x.az),.d (.int .i64 x.fTo),.d (.int .i64 x.aM.aI),.d (.int .i64 x.aM.aH),.d (.int .i64 x.aq.fX),.d (.int .i64 x.aq.fY),.d (.int .i64 x.aq.fZ),.d (.lst (x.aB.aA.map ak.pd))]
@[reducible] def aa.rc(x:aa):List RV:=[.d (.str x.aj.aD),.d (.str x.aj.aC),.d (.str x.aj.au),.d (.str x.aj.aF),.d (.lst (x.al.map ah.pd))]
@[reducible] def ac.rc(x:ac):List RV:=[.d (.str x.aD),.d (.str x.aC),.d (.str x.au),.d (.str x.aF)]
@[reducible] def av.rc(x:av):List RV:=[.d (.int .i64 x.aI),.d (.int .i64 x.aH)]
@[reducible] def aw.rc(x:aw):List RV:=[.d (.int .i64 x.fX),.d (.int .i64 x.fY),.d (.int .i64 x.fZ)]
@[reducible] def ae.rc(x:ae):List RV:=[.d (.lst (x.fL.map (PD.int .i64))),.d (.int .i64 x.fAt)]
theorem Z{α:Sort _}{a:α}:a=a:=rfl
theorem Zk{α:Sort _}{a b:α}(h:a=b:=by kernel_rfl):a=b:=h
theorem gU{P:Program}{H:Hints}{ext:FuncId->Option ko}{f:FuncId}{a:Nat}{R:List (Nat×RV)}{B:List (Nat×Box)}{Q:Ex->List (Nat×RV)->List (Nat×Box)->Prop}{id:Nat}{ops:Array Oper}{l:List Oper}{R0:List (Nat×RV)}{B0:List (Nat×Box)}{b:Code}(hl:(ops.toList,kx P a (A R B) (H.at_ f a id))=(l,some (A R0 B0)))
    (h:WO P H ext (H.hf f) ops l R0 B0 fun e c _=>WC P H ext f a b e c Q):WC P H ext f a (.seq (.region id ops false) b) R B Q:=gS (congrArg Prod.fst hl) (congrArg Prod.snd hl) h
theorem mM{P:Program}{H:Hints}{ext:FuncId->Option ko}{mt:Hf}{ops:Array Oper}{l:List Oper}{R:List (Nat×RV)}{B:List (Nat×Box)}{K:List (Nat×RV)->List (Nat×Box)->List Tr->Prop}{d e:Nat}{ty f:TypeId}{p q:String}{a b:Array Edge}{g k:Option (Nat×Bool)}{x y:Operand}{v w:RV}(c:((A R B).opd x,(A ((d,v)::R) B).opd y)=(some v,some w))(h:WO P H ext mt ops l ((e,w)::(d,v)::R) B fun j i ts=>K j i (⟨[],[]⟩::⟨[],[]⟩::ts))(hw:j9 ops (A R B) ⟨some d,.move x,ty,p,a,g⟩=some true:=by exact rfl)(hu:j9 ops (A ((d,v)::R) B) ⟨some e,.move y,f,q,b,k⟩=some true:=by exact rfl):WO P H ext mt ops (⟨some d,.move x,ty,p,a,g⟩::⟨some e,.move y,f,q,b,k⟩::l) R B K:=
  sM (congrArg Prod.fst c) (sM (congrArg Prod.snd c) h hu) hw
def hintAt:FuncId->Nat->Nat->List oV:=fun f a id=>
  if f=3 then(if a=0 then(if id=4 then [.fN [0,3,4,6,7,59,60,61] [96,112]]else if id=9 then [.fN [0,3,4,6,7,59,60,61,71,72,73] [96,112]]else if id=14 then [.fN [0,3,4,6,7,59,60,61] [96,112]]else if id=15 then [.fN [0,3,4,6,7] [96,112]]else if id=18 then [.fN [3,4,7,15,16,94,95,96] [112,256,1376]]else if id=26 then [.fN [3,4,7,15,16,18,19,94,95,96] [112,256,288,304,1376]]else if id=27 then [.fN [3,4,7,15,16,18,94,95,96,136,137,138] [112,256,288,1376]]else if id=34 then [.fN [3,4,7,15,16,18,22,23,25,94,95,96,136,137,138,187,188,189] [112,256,288,352,368,400,1376]]else if id=41 then [.fN [3,4,7,15,16,18,22,23,25,28,94,95,96,136,137,138,187,188,189,228,229,230] [112,256,288,352,368,400,1376]]else if id=48 then [.fN [3,4,7,15,16,18,22,23,25,94,95,96,136,137,138,187,188,189] [112,256,288,352,368,400,1376]]else if id=49 then [.fN [3,4,7,15,16,18,94,95,96,136,137,138] [112,256,288,1376]]else if id=50 then [.fN [3,4,7,15,16,18,94,95,96] [112,256,288,1376]]else if id=51 then [.fN [3,4,7,15,16,94,95,96,261,262,263] [112,256,1376]]else if id=54 then [.fN [3,4,7,15,16,94,95,96,261,262,263,268,269,270] [112,256,1376]]else if id=59 then [.fN [3,4,7,15,16,94,95,96,261,262,263] [112,256,1376]]else if id=60 then [.fN [3,4,7,15,16,94,95,96] [112,256,1376]]else if id=61 then [.fN [] []]else [])else [])else if f=7 then(if a=1 then(if id=3 then [.frz (.cell 80 0),.fN [0,4,5,6] [0,64,80]]else if id=8 then [.fN [4,5] [0,64,80]]else [])else [])else if f=9 then(if a=0 then(if id=2 then [.fN [1,6,7,8] [16]]else if id=7 then [.fN [1] [16]]else [])else [])else if f=10 then(if a=0 then(if id=2 then [.fN [1,3] [16]]else if id=3 then [.fN [1,3] [16]]else if id=7 then [.fN [1,3,4] [16,64]]else if id=8 then [.fN [1,3,4,5] [16,64]]else if id=12 then [.fN [1] [16]]else [])else [])else if f=12 then(if a=0 then(if id=4 then [.fN [2,3,5] [32,48]]else if id=5 then [.fN [2,3,5] [32,48]]else if id=10 then [.fN [2,3,5,6,7,8] [32,48,96,112]]else if id=14 then [.fN [] []]else [])else [])else if f=15 then(if a=0 then(if id=2 then [.fN [3,4,9,10,11] [48,64]]else if id=7 then [.fN [4] [64]]else [])else [])else if f=16 then(if a=0 then(if id=2 then [.fN [2,3,4,6] [32,48,64]]else if id=6 then [.fN [4] [64]]else [])else [])else if f=17 then(if a=0 then(if id=4 then [.fN [0,1,5] []]else if id=8 then [.fN [] []]else [])else [])else if f=18 then(if a=0 then(if id=6 then [.own 5 528 70,.fN [5,20,21,22] [528]]else if id=10 then [.fN [5] [528]]else [])else [])else if f=19 then(if a=0 then(if id=6 then [.own 7 640 70,.fN [5,7,8] [80,640]]else if id=9 then [.fN [7] [640]]else [])else [])else if f=21 then(if a=0 then(if id=5 then [.fN [2,6,8,10] [96,128]]else if id=9 then [.fN [6] [96]]else [])else [])else if f=25 then(if a=0 then(if id=5 then [.own 8 544 27,.fN [1,2,8,17,18,19] [544]]else if id=11 then [.fN [1,8] [544]]else [])else [])else if f=26 then(if a=0 then(if id=5 then [.own 8 608 27,.fN [1,2,3,8,9] [48,608]]else if id=9 then [.fN [1,8] [608]]else [])else [])else if f=27 then(if a=0 then(if id=4 then [.fN [0,1,5] []]else if id=8 then [.fN [] []]else [])else [])else if f=31 then(if a=0 then(if id=10 then [.fN [3,4,6,7] [48,64,96,256]]else if id=13 then [.frz (.cell 96 0),.fN [4,6] [64,96]]else if id=16 then [.fN [3,4,6,7] [48,64,96,256]]else if id=18 then [.fN [3,4,6,7] [48,64,96,256]]else if id=21 then [.fN [3,4,6,7] [48,64,96,256]]else [])else [])else if f=32 then(if a=1 then(if id=5 then [.frz (.cell 80 13),.fN [0,3,4,5] [0,48,64,80]]else [])else [])else if f=33 then(if a=0 then(if id=3 then [.ownp (.cell 48 0) 816 32,.fN [1,2,3,4] [16,32,48,816]]else if id=7 then [.ownp (.cell 80 4) 720 41,.fN [1,2,3,4,5,6] [16,32,48,80,720,816]]else if id=10 then [.fN [1,2,3,4,5] [16,32,48,80,720,816]]else if id=11 then [.fN [2,3] [32,48,816]]else [])else [])else if f=36 then(if a=0 then(if id=2 then [.fN [0,5,6,7] []]else if id=7 then [.fN [0] []]else [])else [])else if f=41 then(if a=0 then(if id=4 then [.fN [1,2,15,16,17] []]else if id=10 then [.fN [] []]else [])else [])else if f=43 then(if a=0 then(if id=4 then [.fN [1,2,15,16,17] []]else if id=10 then [.fN [] []]else [])else [])else if f=44 then(if a=0 then(if id=3 then [.fN [1,2,10,11,12] [16,32,112]]else if id=7 then [.fN [1,2] [16,32,112]]else [])else [])else if f=45 then(if a=0 then(if id=5 then [.own 4 816 70,.fN [4,13,14,15] [144,816]]else if id=12 then [.fN [4] [816]]else [])else [])else if f=46 then(if a=0 then(if id=3 then [.own 3 832 70,.fN [0,3,4] [832]]else if id=7 then [.fN [0,3,4,5] [832]]else if id=9 then [.fN [0,3,4,5] [832]]else if id=12 then [.fN [3] [832]]else if id=14 then [.own 6 1840 70,.fN [3,6,7] [832,1840]]else if id=20 then [.fN [6] [1840]]else [])else [])else if f=47 then(if a=0 then(if id=2 then [.fN [1,4,9,10,11] [64]]else if id=7 then [.fN [4] [64]]else [])else [])else if f=48 then(if a=0 then(if id=4 then [.fN [2,3,5] [32,48]]else if id=8 then [.fN [] []]else [])else [])else if f=50 then(if a=0 then(if id=6 then [.own 8 544 27,.fN [6,8,18,19,20] [544]]else if id=11 then [.fN [8] [544]]else [])else [])else if f=51 then(if a=0 then(if id=2 then [.fN [0,1,5] []]else if id=6 then [.fN [] []]else [])else [])else if f=52 then(if a=0 then(if id=6 then [.own 8 672 27,.fN [1,6,8,9] [672]]else if id=10 then [.fN [8] [672]]else [])else [])else if f=57 then(if a=0 then(if id=3 then [.fN [1,3,4] [16]]else if id=11 then [.fN [1] [16]]else [])else [])else if f=59 then(if a=0 then(if id=2 then [.fN [2,3,6] [32,48]]else if id=6 then [.fN [2,3,6,7] [32,48]]else if id=10 then [.fN [6] []]else if id=11 then [.fN [] []]else [])else [])else if f=60 then(if a=0 then(if id=2 then [.fN [0,3,5] [48]]else if id=6 then [.fN [] []]else [])else [])else if f=61 then(if a=0 then(if id=2 then [.fN [0,3,5] [48]]else if id=4 then [.fN [0,3,5] [48]]else [])else [])else if f=64 then(if a=1 then(if id=4 then [.ownp (.cell 48 0) 448 84,.fN [0,2,3,4,5] [0,32,48,448]]else if id=11 then [.fN [2,3] [0,32,48,448]]else [])else [])else if f=65 then(if a=0 then(if id=2 then [.fN [0,1,2,9,10] []]else if id=7 then [.fN [0,1,2] []]else [])else [])else if f=66 then(if a=0 then(if id=3 then [.fN [3,6,7,8] []]else if id=8 then [.fN [3] []]else [])else [])else if f=68 then(if a=0 then(if id=2 then [.fN [0,1,2,7] []]else if id=6 then [.fN [0,1,2] []]else [])else [])else if f=71 then(if a=0 then(if id=3 then [.fN [1,2,13,14] [16,32,112]]else if id=7 then [.fN [1,2] [16,32,112]]else [])else [])else if f=72 then(if a=1 then(if id=3 then [.bumpp (.reg 0),.fN [0] [0]]else if id=5 then [.fN [0,1,5,6] [0]]else if id=11 then [.fN [0,5] [0]]else [])else [])else if f=79 then(if a=0 then(if id=4 then [.fN [2,3,5] [32,48]]else if id=8 then [.fN [] []]else [])else [])else if f=80 then(if a=0 then(if id=4 then [.fN [1,2,15,16,17] []]else if id=10 then [.fN [] []]else [])else [])else if f=82 then(if a=0 then(if id=4 then [.fN [0,1,12,13] []]else if id=9 then [.fN [] []]else [])else [])else if f=83 then(if a=0 then(if id=3 then [.fN [4,10,11,12] []]else if id=6 then [.fN [4,6,10,11,12,17,18] []]else if id=11 then [.fN [4,6,10,11,12] []]else if id=14 then [.fN [4] []]else [])else [])else if f=84 then(if a=0 then(if id=2 then [.fN [0,8,9] []]else [])else [])else if f=85 then(if a=0 then(if id=5 then [.fN [4,5] []]else if id=9 then [.fN [4,5,6,7] []]else if id=13 then [.fN [4,5,6] []]else if id=15 then [.fN [4] []]else [])else [])else if f=88 then(if a=0 then(if id=1 then [.fN [0,1] []]else if id=3 then [.fN [0] []]else [])else [])else if f=91 then(if a=0 then(if id=6 then [.fixv 16,.fN [1,3] []]else [])else [])else if f=92 then(if a=0 then(if id=3 then [.fN [3,6,7,8] []]else if id=10 then [.fN [3] []]else [])else [])else if f=93 then(if a=0 then(if id=1 then [.fN [0,1] []]else if id=3 then [.fN [0] []]else [])else [])else if f=94 then(if a=0 then(if id=6 then [.fixv 16,.fN [1,3] []]else [])else [])else if f=97 then(if a=0 then(if id=3 then [.ownp (.cell 48 0) 416 84,.fN [1,2,3,4] [16,32,48,416]]else if id=8 then [.fN [2,3] [32,48,416]]else [])else [])else if f=98 then(if a=1 then(if id=8 then [.mv (.cell 48 7) 90128,.fN [0,2,3,4] [0,32,48,90128]]else if id=12 then [.fN [0,2,3] [0,32,48,90128]]else [])else [])else if f=103 then(if a=0 then(if id=2 then [.fN [0,1,7,8] []]else if id=7 then [.fN [] []]else [])else [])else if f=110 then(if a=0 then(if id=3 then [.fN [0,1,5,6] [112]]else if id=8 then [.fN [5] [112]]else [])else [])else if f=111 then(if a=0 then(if id=5 then [.fN [0,1,5] []]else if id=9 then [.fN [] []]else [])else [])else if f=112 then(if a=0 then(if id=2 then [.fN [0,1,7,8] []]else if id=7 then [.fN [] []]else [])else [])else if f=115 then(if a=0 then(if id=3 then [.fN [3,6,7,8] []]else if id=7 then [.fN [3] []]else [])else [])else if f=116 then(if a=0 then(if id=2 then [.fN [0,3] []]else if id=6 then [.fN [] []]else [])else [])else if f=117 then(if a=0 then(if id=3 then [.fN [0,3,4] []]else if id=6 then [.fN [3] []]else [])else [])else if f=140 then(if a=0 then(if id=2 then [.fN [0,1,7,8] []]else if id=7 then [.fN [] []]else [])else [])else []
def aL:Hints:={ at_:=hintAt,mt:=fun f i=>(f==72&&i==41)||(f==98&&i==44)||(f==98&&i==60)||(f==110&&i==7),by_:=fun f i=>(f==72&&i==0)||(f==76&&i==0),own:=fun f i=>(f==33&&i==0)||(f==44&&i==0)||(f==70&&i==0)||(f==72&&i==0)||(f==73&&i==0)||(f==101&&i==0)||(f==102&&i==0) }
@[reducible] def gI(a f id:Nat)(R:List (Nat×RV))(B:List (Nat×Box))(c:List (Nat×RV))(b:List (Nat×Box)):Prop:=kx prog a (A c b) (aL.at_ f a id)=some (A R B)
@[reducible] def gX(x c f id:Nat)(R:List (Nat×RV))(B:List (Nat×Box))(e:Ex)(b:List (Nat×RV))(a:List (Nat×Box)):Prop:=e= .exit x∧gI c f id R B b a
@[reducible] def gF(f:Nat)(fn:Func)(c:Nat)(x:RV×List Box)(e:Ex)(b:List (Nat×RV))(a:List (Nat×Box)):Prop:=e= .ret∧finish prog (aL.own f) fn c (A b a)=some x
theorem eqE_27(a b:ac):pN prog .eql 27 (.d a.pd) (.d b.pd)=some (.bool ((a.aD==b.aD)&&((a.aC==b.aC)&&((a.au==b.au)&&((a.aF==b.aF)&&true)))),true):=by kernel_rfl
theorem eqN_27(a b:ac):pN prog .neq 27 (.d a.pd) (.d b.pd)=some (.bool (!((a.aD==b.aD)&&((a.aC==b.aC)&&((a.au==b.au)&&((a.aF==b.aF)&&true))))),true):=by kernel_rfl
theorem eqE_34(a b:av):pN prog .eql 34 (.d a.pd) (.d b.pd)=some (.bool ((a.aI==b.aI)&&((a.aH==b.aH)&&true)),true):=by kernel_rfl
theorem eqE_36(a b:aw):pN prog .eql 36 (.d a.pd) (.d b.pd)=some (.bool ((a.fX==b.fX)&&((a.fY==b.fY)&&((a.fZ==b.fZ)&&true))),true):=by kernel_rfl
theorem eqN_70(a b:ap):pN prog .neq 70 (.d a.pd) (.d b.pd)=some (.bool (!((a.az==b.az)&&((a.fTo==b.fTo)&&true))),true):=by kernel_rfl
theorem cS(a b:aK):pN prog .eql 82 (.d a.pd) (.d b.pd)=some (.bool ((a.a0==b.a0)&&((a.a1==b.a1)&&((a.a2==b.a2)&&true))),true):=by kernel_rfl
theorem eqN_82(a b:aK):pN prog .neq 82 (.d a.pd) (.d b.pd)=some (.bool (!((a.a0==b.a0)&&((a.a1==b.a1)&&((a.a2==b.a2)&&true)))),true):=by kernel_rfl
theorem T_api_Span_inj:∀x y:ap,x.pd=y.pd->x=y:=by
  rintro⟨a,z2⟩ ⟨z3,z4⟩ h
  cases h;rfl
def ext0:FuncId->Option ko:=fun _=>none
theorem hF{a0:Int}{r:Bool}(h:eI a0=some r):EvP prog aL ext0 106 [rI a0] [] (rB r,[]):=by
 refine Ev.body Z Tryz.func106 Z Zk<|gU Z<|sU<|sN<|gU Z<|mM Z<|sV (rB (a0 != a0))<|sA Z<|sN<|qR ?_
 exact oI h▸qD
theorem jk{a0:Int}{a1:Int}{r:Int}(h:dJ a0 a1=some r):EvP prog aL ext0 78 [rI a0,rI a1] [] (rI r,[]):=by
 refine Ev.body Z Tryz.func78 Z Zk<|gU Z<|sV (r0)<|sN<|gU Z<|sM Z<|bE h fun b h1 h=>cD (hF h1)<|sA Z<|sN<|gU Z<|sM Z<|bE h fun x2 a h=>cD (hF a)<|sA Z ?_
 refine sN<|qS<|gU Z<|sF h ?_ ?_<;>intro h
 ·refine sN<|cT<|qS<|gU Z<|sF h ?_ ?_<;>intro h
  ·refine sN<|cT<|gU Z<|sV (r0)<|sN<|qR ?_
   exact oI h▸qD
  refine sN<|cF<|qK<|gU Z<|sV (rI (-1))<|sN<|qR ?_
  exact oI h▸qD
 refine sN<|cF<|qK<|qS<|gU Z<|sF h ?_ ?_<;>intro h
 ·refine sN<|cT<|gU Z<|sV (rI 1)<|sN<|qR ?_
  exact oI h▸qD
 refine sN<|cF<|qK<|qS<|gU Z<|mM Z<|sF h ?_ ?_<;>intro h
 ·refine sN<|cT<|gU Z<|sV (rI (-1))<|sN<|qR ?_
  exact oI h▸qD
 refine sN<|cF<|qK<|qS<|gU Z<|mM Z<|sF h ?_ ?_<;>intro h
 ·refine sN<|cT<|gU Z<|sV (rI 1)<|sN<|qR ?_
  exact oI h▸qD
 refine sN<|cF<|qK<|gU Z<|sV (r0)<|sN<|qR ?_
 exact oI h▸qD
theorem i8{a0:ap}{a1:ap}{r:Int}(h:bj a0 a1=some r):EvP prog aL ext0 77 [.d (ap.pd a0),.d (ap.pd a1)] [] (rI r,[]):=by
 refine Ev.body Z Tryz.func77 Z Zk<|gU Z<|sB (.ptr 32 0) 32 (.var [rI a0.az,rI a0.fTo])<|sB (.ptr 48 0) 48 (.var [rI a1.az,rI a1.fTo])<|sV (r0)<|sN<|gU Z<|sV (.ptr 32 0)<|sL Z<|sV (.ptr 48 0)<|sL Z<|bE h fun a h1 h=>cD (jk h1)<|sA Z<|sN ?_
 refine qR ?_
 exact oI h▸qD
noncomputable def ext:FuncId->Option ko:=fun f=>if f=8 then some oddD else if f=107 then some tD else if f=76 then some (wm 77 70 ap.pd bj)else if f=70 then some (o3 41 8 80)else if f=101 then some (o3 84 10 96)else if f=102 then some (o3 3 1 8)else if f=73 then some (o3 70 2 16)else none
theorem sort_76_77{l r:List ap}(h:pK bj l=some r):EvP prog aL ext 76 [.ref 0 0,.d (.raw (.func (.func 77) #[] #[]))] [.arr 0 70 (l.map ap.pd)] (.tup [],[.arr 0 70 (r.map ap.pd)]):=sort_ev rfl (sortD_of T_api_Span_inj h)
theorem clone_70{l r:List ah}(h:nk 80 l=some r):EvP prog aL ext 70 [rM ah.pd l] [] (.ref 0 0,[.arr 0 41 (r.map ah.pd)]):=qg (g:=ah.pd) rfl (fun _=>rfl) h
theorem clone_101{l r:List ak}(h:nk 96 l=some r):EvP prog aL ext 101 [rM ak.pd l] [] (.ref 0 0,[.arr 0 84 (r.map ak.pd)]):=qg (g:=ak.pd) rfl (fun _=>rfl) h
theorem clone_102{l r:List Int}(h:nk 8 l=some r):EvP prog aL ext 102 [rL l] [] (.ref 0 0,[.arr 0 3 (r.map (PD.int .i64))]):=qg (g:=(PD.int .i64)) rfl (fun _=>rfl) h
theorem clone_73{l r:List ap}(h:nk 16 l=some r):EvP prog aL ext 73 [rM ap.pd l] [] (.ref 0 0,[.arr 0 70 (r.map ap.pd)]):=qg (g:=ap.pd) rfl (fun _=>rfl) h
theorem made_Light_ev{a0:(List Int)}{r:Bool}(h:jy a0=some r):EvP prog aL ext 4 [rL a0] [] (rB r,[]):=by
 refine Ev.body Z Tryz.func4 Z Zk<|gU Z<|sU<|sN<|gU Z<|sM Z<|sE (rI (a0.length:Int)) (ik _ _)<|sV (rB (decide ((a0.length:Int)<=(500:Int))))<|sA Z<|sN<|qR ?_
 exact oI h▸qD
theorem fp{r:ai}(h:fK=some r):EvP prog aL ext 30 [] [] (.d (ai.pd r),[]):=by
 refine Ev.body Z Tryz.func30 Z Zk<|gU Z<|sB (.ptr 0 0) 0 (.var [.jt])<|sN<|gU Z<|sV (.d (av.pd (av.mk 100 1)))<|sG (.agg [rI 10,rI 20,rI 100,rI 1,r0,r0,r0,.jt])<|sB (.ptr 16 0) 16 (.var zZ1)<|sH 16 (.var [rI 10,rI 20,rI 100,rI 1,r0,r0,r0,.jt])<|sN<|gU Z<|sV (.agg [rI 10,rI 20,rI 100,rI 1,r0,r0,r0,.jt])<|sB (.ptr 32 0) 32 (.var zZ1)<|sH 32 (.var [rI 10,rI 20,rI 100,rI 1,r0,r0,r0,.jt])<|sN ?_
 refine gU Z<|sV (.ptr 32 0)<|sS 32 (.var [rI 20,rI 20,rI 100,rI 1,r0,r0,r0,.jt])<|sV (.ptr 32 1)<|sS 32 (.var [rI 20,rI 30,rI 100,rI 1,r0,r0,r0,.jt])<|sV (.ptr 32 4)<|sV (.ptr 32 4)<|sS 32 (.var [rI 20,rI 30,rI 100,rI 1,rI 5,r0,r0,.jt])<|sN<|gU Z<|sV (.d (ac.pd (ac.mk [65] [66] [] [72,72,90])))<|sV (.agg [rI 10,rI 20,rI 100,rI 1,r0,r0,r0,.jt])<|sV (.agg [rI 20,rI 30,rI 100,rI 1,rI 5,r0,r0,.jt])<|sG (.d (.lst ([(ah.mk 10 20 (av.mk 100 1) (aw.mk 0 0 0) (ar.mk [])),(ah.mk 20 30 (av.mk 100 1) (aw.mk 5 0 0) (ar.mk []))].map ah.pd)))<|sV (.d (.agg [.str [65],.str [66],.str [],.str [72,72,90],.lst ([(ah.mk 10 20 (av.mk 100 1) (aw.mk 0 0 0) (ar.mk [])),(ah.mk 20 30 (av.mk 100 1) (aw.mk 5 0 0) (ar.mk []))].map ah.pd)])) ?_
 refine sV (.d (.lst ([(aa.mk (ac.mk [65] [66] [] [72,72,90]) [(ah.mk 10 20 (av.mk 100 1) (aw.mk 0 0 0) (ar.mk [])),(ah.mk 20 30 (av.mk 100 1) (aw.mk 5 0 0) (ar.mk []))])].map aa.pd)))<|sV (.d (.agg [.lst ([(aa.mk (ac.mk [65] [66] [] [72,72,90]) [(ah.mk 10 20 (av.mk 100 1) (aw.mk 0 0 0) (ar.mk [])),(ah.mk 20 30 (av.mk 100 1) (aw.mk 5 0 0) (ar.mk []))])].map aa.pd)]))<|sS 0 (.var [.d (.lst ([(aa.mk (ac.mk [65] [66] [] [72,72,90]) [(ah.mk 10 20 (av.mk 100 1) (aw.mk 0 0 0) (ar.mk [])),(ah.mk 20 30 (av.mk 100 1) (aw.mk 5 0 0) (ar.mk []))])].map aa.pd))])<|sN<|qR ?_
 exact oI h▸qD
theorem iP{a0:Int}{r:Bool}(h:dH a0=some r):EvP prog aL ext 99 [.d (.int .u8 a0)] [] (rB r,[]):=by
 refine Ev.body Z Tryz.func99 Z Zk<|gU Z<|sU<|sN<|gU Z<|sM Z<|sF h ?_ ?_<;>intro h
 ·refine mM Z<|sV (rB (decide (a0<=(90:Int))))<|sF h ?_ ?_<;>intro h
  ·refine sM Z<|k3<|k3<|sT<|sA Z<|sN<|qR ?_
   exact oI h▸qD
  refine mM Z<|sF h ?_ ?_<;>intro h
  ·refine mM Z<|sV (rB (decide (a0<=(57:Int))))<|sV (rB (decide (a0<=(57:Int))))<|sV (rB (decide (a0<=(57:Int))))<|sA Z<|sN<|qR ?_
   exact oI h▸qD
  refine sM Z<|sK<|sK<|sU<|sU<|sA Z<|sN<|qR ?_
  exact oI h▸qD
 refine sM Z<|sK<|sK<|sU<|mM Z<|sF h ?_ ?_<;>intro h
 ·refine mM Z<|sV (rB (decide (a0<=(57:Int))))<|sV (rB (decide (a0<=(57:Int))))<|sV (rB (decide (a0<=(57:Int))))<|sA Z<|sN<|qR ?_
  exact oI h▸qD
 refine sM Z<|sK<|sK<|sU<|sU<|sA Z<|sN<|qR ?_
 exact oI h▸qD
theorem ej{a0:(List UInt8)}{a1:Int}{a2:Int}{r:Bool}(h:cu a0 a1 a2=some r):EvP prog aL ext 65 [rS a0,rI a1,rI a2] [] (rB r,[]):=by
 refine Ev.body Z Tryz.func65 Z Zk<|gU Z<|sU<|sN<|qS<|gU Z<|sM Z<|sV (rI (a0.length:Int))<|sV (r0)<|sN<|bE h fun k b h=>CM (CQ (WL.jZ b (fun s=>gI 0 65 2 [(0,rS a0),(1,rI a1),(2,rI a2),(9,rI (a0.length:Int)),(10,rI s)] []) (fun o=>match o with| .inl y=>gX 0 0 65 7 [(0,rS a0),(1,rI a1),(2,rI a2)] []| .inr r=>gF 65 Tryz.f65 0 (rB r,[])) Z ?_ ?_))
 ·rintro s1 g f m a h
  refine gS Z a<|sF h ?_ ?_<;>intro h
  ·refine sN<|qS<|cT<|qK<|qS<|qB<|gU Z<|sM Z<|sA Z<|sN<|gU Z<|mM Z<|bE h fun n i h=>WO.l8 i Z Z Z Z Z Z ?_
   refine bE h fun p j h=>cD (iP j)<|sF h ?_ ?_<;>intro h
   ·refine sN<|cT<|gU Z<|sU<|sN<|qR ?_
    cases oI h
    exact⟨nofun,rfl,rfl⟩
   refine sN<|cF<|qK<|CR Z Z<|sV (rI (rW (s1+(1:Int))))<|sM Z<|sN ?_
   cases oI h
   exact⟨rfl,rfl⟩
  refine sN<|qS<|cF<|qX ?_
  cases oI h
  exact⟨nofun,rfl,rfl⟩
 intro e g f he c
 rcases k with q|l
 ·obtain⟨rfl,a⟩:=c
  refine qE<|gS Z a<|sM Z<|sV (rI (a0.length:Int))<|sM Z<|sF h ?_ ?_<;>intro h
  ·refine mM Z<|sV (rI (a0.length:Int))<|sM Z<|sV (rB (decide ((a0.length:Int)<=a2)))<|sV (rB (decide ((a0.length:Int)<=a2)))<|sA Z<|sN<|qR ?_
   exact oI h▸qD
  refine sM Z<|k3<|sK<|sU<|sA Z<|sN<|qR ?_
  exact oI h▸qD
 obtain⟨rfl,hf⟩:=c
 cases oI h
 exact hf
theorem gt{a0:ac}{r:Bool}(h:cC a0=some r):EvP prog aL ext 35 [.d (ac.pd a0)] [] (rB r,[]):=by
 refine Ev.body Z Tryz.func35 Z Zk<|gU Z<|sB (.ptr 16 0) 16 (.var (ac.rc a0))<|sU<|sN<|gU Z<|sV (.ptr 16 0)<|sL Z<|bE h fun i h1 h=>kq h (fun a h=>?_) (fun a h=>?_)
 ·refine WO.lg (v:=rB true) (u:=[]) Z Z (fun _=>Z) Z Z Z Z Z (ej h1) Z Z (congrArg (fun b=>RV.d (.bool b)) a) Z<|sM Z<|sV (.ptr 16 1)<|sL Z<|bE h fun j c h=>cD (ej c)<|sF h ?_ ?_<;>intro h
  ·refine sM Z<|sV (.ptr 16 2)<|sL Z<|bE h fun k e h=>cD (ej e)<|sF h ?_ ?_<;>intro h
   ·refine sM Z<|sV (.ptr 16 2)<|sL Z<|sV (rI (a0.au.length:Int))<|sV (rB ((a0.au.length:Int) != (1:Int)))<|sF h ?_ ?_<;>intro h
    ·refine sM Z<|sV (.ptr 16 3)<|sL Z<|bE h fun g f h=>cD (ej f)<|sV (rB g)<|sA Z<|sN<|qR ?_
     exact oI h▸qD
    refine sM Z<|k3<|sU<|sA Z<|sN<|qR ?_
    exact oI h▸qD
   refine sM Z<|k3<|sK<|sU<|sM Z<|k3<|sU<|sA Z<|sN<|qR ?_
   exact oI h▸qD
  refine sM Z<|k3<|sU<|sM Z<|k3<|sK<|sU<|sM Z<|sK<|sK<|sK ?_
  refine sU<|sA Z<|sN<|qR ?_
  exact oI h▸qD
 refine WO.lg (v:=rB false) (u:=[]) Z Z (fun _=>Z) Z Z Z Z Z (ej h1) Z Z (congrArg (fun b=>RV.d (.bool b)) a) Z<|sM Z<|k3<|sU<|sM Z<|k3<|sU<|sM Z<|sK<|sK<|sK ?_
 refine sK<|sU<|sM Z<|k3<|sU<|sA Z<|sN<|qR ?_
 exact oI h▸qD
theorem jA{a0:Int}{a1:Int}{a2:Int}{r:Bool}(h:iD a0 a1 a2=some r):EvP prog aL ext 87 [rI a0,rI a1,rI a2] [] (rB r,[]):=by
 refine Ev.body Z Tryz.func87 Z Zk<|gU Z<|sU<|sN<|gU Z<|mM Z<|sF h ?_ ?_<;>intro h
 ·refine mM Z<|sM Z<|sV (rB (decide (a0<=a2)))<|sV (rB (decide (a0<=a2)))<|sA Z<|sN<|qR ?_
  exact oI h▸qD
 refine sM Z<|k3<|sU<|sA Z<|sN<|qR ?_
 exact oI h▸qD
theorem rate_gcd_ev{a0:Int}{a1:Int}{r:Int}(h:gO a0 a1=some r):EvP prog aL ext 88 [rI a0,rI a1] [] (rI r,[]):=by
 refine Ev.body Z Tryz.func88 Z Zk<|gU Z<|sV (r0)<|sN<|qS<|bE h fun j b h=>CM (CQ (WL.jZ b (fun s=>gI 0 88 1 [(0,rI s.1),(1,rI s.2)] []) (fun o=>gX 0 0 88 3 [(0,rI o)] []) Z ?_ ?_))
 ·rintro⟨s1,s2⟩ f c k a h
  refine qS<|gS Z a<|sM Z<|sF h ?_ ?_<;>intro h
  ·refine sN<|cT<|qK<|qB<|CO Z Z<|mM Z<|sM Z<|bE h fun l g h=>WO.remG g Z Z Z Z Z Z<|sA Z<|sA Z ?_
   refine sN<|sO ?_
   cases oI h
   exact⟨rfl,rfl⟩
  refine sN<|cF<|qX ?_
  cases oI h
  exact⟨nofun,rfl,rfl⟩
 intro e f c he i
 obtain⟨rfl,a⟩:=i
 refine qE<|gS Z a<|sM Z<|sA Z<|sN<|qR ?_
 exact oI h▸qD
theorem rate_Valid_ev{a0:av}{r:Bool}(h:fM a0=some r):EvP prog aL ext 53 [.d (av.pd a0)] [] (rB r,[]):=by
 refine Ev.body Z Tryz.func53 Z Zk<|gU Z<|sB (.ptr 16 0) 16 (.var (av.rc a0))<|sU<|sN<|gU Z<|sV (.ptr 16 0)<|sL Z<|bE h fun g h1 h=>kq h (fun a h=>?_) (fun a h=>?_)
 ·refine WO.lg (v:=rB true) (u:=[]) Z Z (fun _=>Z) Z Z Z Z Z (jA h1) Z Z (congrArg (fun b=>RV.d (.bool b)) a) Z<|sM Z<|sV (.ptr 16 1)<|sL Z<|bE h fun i e h=>cD (jA e)<|sF h ?_ ?_<;>intro h
  ·refine sM Z<|sV (.ptr 16 0)<|sL Z<|sV (.ptr 16 1)<|sL Z<|bE h fun c f h=>cD (rate_gcd_ev f)<|sV (rB (c==(1:Int)))<|sV (rB (c==(1:Int)))<|sA Z<|sN<|qR ?_
   exact oI h▸qD
  refine sM Z<|k3<|k3<|sU<|sA Z<|sN<|qR ?_
  exact oI h▸qD
 refine WO.lg (v:=rB false) (u:=[]) Z Z (fun _=>Z) Z Z Z Z Z (jA h1) Z Z (congrArg (fun b=>RV.d (.bool b)) a) Z<|sM Z<|k3<|sU<|sM Z<|k3<|k3<|sU<|sA Z ?_
 refine sN<|qR ?_
 exact oI h▸qD
theorem br{a0:Int}{a1:Int}{a2:Int}{r:Bool}(h:aU a0 a1 a2=some r):EvP prog aL ext 113 [rI a0,rI a1,rI a2] [] (rB r,[]):=by
 refine Ev.body Z Tryz.func113 Z Zk<|gU Z<|sU<|sN<|gU Z<|mM Z<|sF h ?_ ?_<;>intro h
 ·refine mM Z<|sM Z<|sV (rB (decide (a0<=a2)))<|sV (rB (decide (a0<=a2)))<|sA Z<|sN<|qR ?_
  exact oI h▸qD
 refine sM Z<|k3<|sU<|sA Z<|sN<|qR ?_
 exact oI h▸qD
theorem fC{a0:Int}{r:Bool}(h:eC a0=some r):EvP prog aL ext 131 [rI a0] [] (rB r,[]):=by
 refine Ev.body Z Tryz.func131 Z Zk<|gU Z<|sU<|sN<|gU Z<|sM Z<|bE h fun a h1 h=>cD (br h1)<|sV (rB (!a))<|sA Z<|sN<|qR ?_
 exact oI h▸qD
theorem gr{a0:(List Int)}{r:Int}(h:bI a0=some r):EvP prog aL ext 140 [rL a0,.d (.raw (.func (.func 131) #[] #[]))] [] (rI r,[]):=by
 refine Ev.body Z Tryz.func140 Z Zk<|gU Z<|sV (r0)<|sN<|qS<|gU Z<|sM Z<|sE (rI (a0.length:Int)) (ik _ _)<|sV (r0)<|sN<|bE h fun m f h=>CM (CQ (WL.jZ f (fun s=>gI 0 140 2 [(0,rL a0),(1,.d (.raw (.func (.func 131) #[] #[]))),(7,rI (a0.length:Int)),(8,rI s)] []) (fun o=>match o with| .inl y=>gX 0 0 140 7 [] []| .inr r=>gF 140 Tryz.f140 0 (rI r,[])) Z ?_ ?_))
 ·rintro s1 k j p c h
  refine gS Z c<|sF h ?_ ?_<;>intro h
  ·refine sN<|qS<|cT<|qK<|qS<|qB<|gU Z<|sM Z<|sA Z<|sN<|gU Z<|mM Z<|sM Z<|bE h fun q l h=>?_
   refine eG l Z<|sC Z<|bE h fun t g h=>kq h (fun a h=>?_) (fun a h=>?_)
   ·refine WO.lg (v:=rB true) (u:=[]) Z Z (fun _=>Z) Z Z Z Z Z (fC g) Z Z (congrArg (fun b=>RV.d (.bool b)) a) Z<|sN<|cT<|gU Z<|sM Z<|sA Z<|sN<|qR ?_
    cases oI h
    exact⟨nofun,rfl,rfl⟩
   refine WO.lg (v:=rB false) (u:=[]) Z Z (fun _=>Z) Z Z Z Z Z (fC g) Z Z (congrArg (fun b=>RV.d (.bool b)) a) Z<|sN<|cF<|qK<|CR Z Z<|sV (rI (rW (s1+(1:Int))))<|sM Z<|sN ?_
   cases oI h
   exact⟨rfl,rfl⟩
  refine sN<|qS<|cF<|qX ?_
  cases oI h
  exact⟨nofun,rfl,rfl⟩
 intro e k j he i
 rcases m with x|n
 ·obtain⟨rfl,c⟩:=i
  refine qE<|gS Z c<|sV (rI (-1))<|sN<|qR ?_
  exact oI h▸qD
 obtain⟨rfl,hf⟩:=i
 cases oI h
 exact hf
theorem fG{a0:(List Int)}{r:Bool}(h:bt a0=some r):EvP prog aL ext 130 [rL a0,.d (.raw (.func (.func 131) #[] #[]))] [] (rB r,[]):=by
 refine Ev.body Z Tryz.func130 Z Zk<|gU Z<|sU<|sN<|gU Z<|mM Z<|bE h fun a h1 h=>cD (gr h1)<|sV (rB (decide (a>=(0:Int))))<|sA Z<|sN<|qR ?_
 exact oI h▸qD
theorem de{a0:(List Int)}{r:Bool}(h:bM a0=some r):EvP prog aL ext 114 [rL a0] [] (rB r,[]):=by
 refine Ev.body Z Tryz.func114 Z Zk<|gU Z<|sU<|sN<|gU Z<|sM Z<|bE h fun a h1 h=>cD (fG h1)<|sV (rB (!a))<|sA Z<|sN<|qR ?_
 exact oI h▸qD
theorem gq{a0:(List Int)}{r:Int}(h:co a0=some r):EvP prog aL ext 115 [rL a0] [] (rI r,[]):=by
 refine Ev.body Z Tryz.func115 Z Zk<|gU Z<|sV (r0)<|sN<|gU Z<|sV (r0)<|sN<|qS<|gU Z<|sM Z<|sE (rI (a0.length:Int)) (ik _ _)<|sV (r0)<|sN<|bE h fun k b h=>CM (CQ (WL.jZ b (fun s=>gI 0 115 3 [(3,rI s.1),(6,rL a0),(7,rI (a0.length:Int)),(8,rI s.2)] []) (fun o=>gX 0 0 115 7 [(3,rI o)] []) Z ?_ ?_))
 ·rintro⟨s1,s2⟩ f c l a h
  refine gS Z a<|sF h ?_ ?_<;>intro h
  ·refine sN<|qS<|cT<|qK<|qS<|qB<|gU Z<|bE h fun j g h=>eG g Z<|sC Z<|sA Z<|sN<|CR Z Z<|sM Z<|sM Z ?_
   refine sV (rI (rW (s1+j)))<|sA Z<|sN<|CR Z Z<|sV (rI (rW (s2+(1:Int))))<|sM Z<|sN ?_
   cases oI h
   exact⟨rfl,rfl⟩
  refine sN<|qS<|cF<|qX ?_
  cases oI h
  exact⟨nofun,rfl,rfl⟩
 intro e f c he i
 obtain⟨rfl,a⟩:=i
 refine qE<|gS Z a<|sM Z<|sA Z<|sN<|qR ?_
 exact oI h▸qD
theorem iJ{a0:ak}{r:Bool}(h:b9 a0=some r):EvP prog aL ext 91 [.d (ak.pd a0)] [] (rB r,[]):=by
 refine Ev.body Z Tryz.func91 Z Zk<|gU Z<|sB (.ptr 16 0) 16 (.var (ak.rc a0))<|sU<|sN<|gU Z<|sV (.ptr 16 7)<|sL Z<|sE (rI (a0.aO.length:Int)) (ik _ _)<|sF h ?_ ?_<;>intro h
 ·refine sM Z<|sV (.ptr 16 8)<|sL Z<|sV (rB (a0.aJ==(0:Int)))<|sF h ?_ ?_<;>intro h
  ·refine sM Z<|sV (.ptr 16 9)<|sL Z<|sV (rB (a0.aS==(0:Int)))<|sV (rB (a0.aS==(0:Int)))<|sA Z<|sN<|qS<|gU Z<|sV (.ptr 16 0)<|sL Z<|sN<|qB<|gU Z<|sF h ?_ ?_<;>intro h
   ·refine sA Z<|sN<|cT<|gU Z<|sF h ?_ ?_<;>intro h
    ·refine sM Z<|sV (.ptr 16 1)<|sV (.d (aK.pd a0.aI))<|sV (.ptr 16 1)<|sV (.ptr 16 1)<|sL Z<|sV (.d (aK.pd (aK.mk a0.aI.a0 0 0)))<|WO.bin (cS a0.aI (aK.mk a0.aI.a0 0 0)) Z Z Z Z Z<|sF h ?_ ?_<;>intro h
     ·refine sM Z<|sV (.ptr 16 4)<|sV (.d (aK.pd a0.aH))<|sV (.ptr 16 4)<|sV (.ptr 16 4)<|sL Z<|sV (.d (aK.pd (aK.mk a0.aH.a0 0 0)))<|WO.bin (cS a0.aH (aK.mk a0.aH.a0 0 0)) Z Z Z Z Z<|sF h ?_ ?_<;>intro h
      ·refine sM Z<|sV (.ptr 16 1)<|sV (.ptr 16 1)<|sL Z<|bE h fun Y F h=>cD (br F)<|sF h ?_ ?_<;>intro h
       ·refine sM Z<|sV (.ptr 16 4)<|sV (.ptr 16 4)<|sL Z<|bE h fun X G h=>cD (br G)<|sV (rB X)<|sA Z<|sN<|qR ?_
        cases oI h
        exact qG
       refine sM Z<|k3<|sK<|sU<|sA Z<|sN<|qR ?_
       cases oI h
       exact qG
      refine sM Z<|k3<|sK<|sU<|sM Z<|k3<|sK<|sU<|sA Z<|sN<|qR ?_
      cases oI h
      exact qG
     refine sM Z<|k3<|k3<|sK<|sU<|sM Z<|k3<|sK<|sU ?_
     refine sM Z<|k3<|sK<|sU<|sA Z<|sN<|qR ?_
     cases oI h
     exact qG
    refine sM Z<|k3<|k3<|sK<|sU<|sM Z<|k3<|sK<|sK ?_
    refine sK<|sK<|sU<|sM Z<|k3<|sK<|sU<|sM Z<|k3<|sK<|sU ?_
    refine sA Z<|sN<|qR ?_
    cases oI h
    exact qG
   refine sA Z<|sN<|cF<|gU Z<|sF h ?_ ?_<;>intro h
   ·refine sA Z<|sN<|cT<|CP (R0:=[(1,.cptr [.int .i64 a0.aQ,.int .i64 a0.aI.a0,.int .i64 a0.aI.a1,.int .i64 a0.aI.a2,.int .i64 a0.aH.a0,.int .i64 a0.aH.a1,.int .i64 a0.aH.a2,.lst (a0.aO.map (PD.int .i64)),.int .i64 a0.aJ,.int .i64 a0.aS]),(3,rB (a0.aS==(0:Int)))]) (B0:=[]) Z Z<|sF h ?_ ?_<;>intro h
    ·refine sM Z<|sV (.cptr [.int .i64 a0.aI.a0,.int .i64 a0.aI.a1,.int .i64 a0.aI.a2,.int .i64 a0.aH.a0,.int .i64 a0.aH.a1,.int .i64 a0.aH.a2,.lst (a0.aO.map (PD.int .i64)),.int .i64 a0.aJ,.int .i64 a0.aS])<|sV (.d (.lst ([a0.aI.a0,a0.aI.a1,a0.aI.a2].map (PD.int .i64))))<|bE h fun H e h=>cD (de e)<|sF h ?_ ?_<;>intro h
     ·refine sM Z<|sV (.cptr [.int .i64 a0.aH.a0,.int .i64 a0.aH.a1,.int .i64 a0.aH.a2,.lst (a0.aO.map (PD.int .i64)),.int .i64 a0.aJ,.int .i64 a0.aS])<|sV (.d (.lst ([a0.aH.a0,a0.aH.a1,a0.aH.a2].map (PD.int .i64))))<|bE h fun I f h=>cD (de f)<|sF h ?_ ?_<;>intro h
      ·refine sM Z<|sV (.cptr [.int .i64 a0.aH.a0,.int .i64 a0.aH.a1,.int .i64 a0.aH.a2,.lst (a0.aO.map (PD.int .i64)),.int .i64 a0.aJ,.int .i64 a0.aS])<|sV (.cptr [.int .i64 a0.aH.a0,.int .i64 a0.aH.a1,.int .i64 a0.aH.a2,.lst (a0.aO.map (PD.int .i64)),.int .i64 a0.aJ,.int .i64 a0.aS])<|sC Z<|sV (rB (a0.aH.a0 != (0:Int)))<|sV (rB (a0.aH.a0 != (0:Int)))<|sA Z<|sN<|qR ?_
       exact oI h▸qD
      refine sM Z<|k3<|sK<|sU<|sA Z<|sN<|qR ?_
      exact oI h▸qD
     refine sM Z<|k3<|sU<|sM Z<|k3<|sK<|sU<|sA Z<|sN<|qR ?_
     exact oI h▸qD
    refine sM Z<|k3<|sU<|sM Z<|k3<|sU<|sM Z<|k3<|sK ?_
    refine sU<|sA Z<|sN<|qR ?_
    exact oI h▸qD
   refine sA Z<|sN<|cF<|gU Z<|sF h ?_ ?_<;>intro h
   ·refine sA Z<|sN<|cT<|gU Z<|sV (.ptr 16 1)<|sV (.d (aK.pd a0.aI))<|sV (.d (aK.pd (aK.mk 0 0 0)))<|kq h (fun a h=>?_) (fun a h=>?_)
    ·refine WO.mX (cS a0.aI (aK.mk 0 0 0)) a Z Z Z Z Z<|sM Z<|sV (.ptr 16 4)<|sV (.d (aK.pd a0.aH))<|sV (.d (aK.pd (aK.mk 0 0 0)))<|WO.bin (cS a0.aH (aK.mk 0 0 0)) Z Z Z Z Z<|sF h ?_ ?_<;>intro h
     ·refine sM Z<|sV (.ptr 16 7)<|sL Z<|sE (rI (a0.aO.length:Int)) (ik _ _)<|bE h fun J g h=>cD (br g)<|sF h ?_ ?_<;>intro h
      ·refine sM Z<|sV (.ptr 16 7)<|sL Z<|bE h fun K i h=>cD (de i)<|sF h ?_ ?_<;>intro h
       ·refine sM Z<|sV (.ptr 16 7)<|sL Z<|bE h fun y j h=>cD (gq j)<|sV (rB (y != (0:Int)))<|sF h ?_ ?_<;>intro h
        ·refine sM Z<|sV (.ptr 16 8)<|sL Z<|bE h fun L k h=>cD (br k)<|sF h ?_ ?_<;>intro h
         ·refine sM Z<|sV (.ptr 16 9)<|sL Z<|bE h fun z l h=>cD (br l)<|sV (rB z)<|sA Z<|sN<|qR ?_
          cases oI h
          exact qG
         refine sM Z<|k3<|sU<|sA Z<|sN<|qR ?_
         cases oI h
         exact qG
        refine sM Z<|k3<|sU<|sM Z<|k3<|sU<|sA Z<|sN<|qR ?_
        cases oI h
        exact qG
       refine sM Z<|k3<|sK<|sU<|sM Z<|k3<|sU<|sM Z<|sK<|sK<|sK ?_
       refine sU<|sA Z<|sN<|qR ?_
       cases oI h
       exact qG
      refine sM Z<|k3<|sU<|sM Z<|k3<|sK<|sU<|sM Z<|sK<|sK<|sK ?_
      refine sU<|sM Z<|k3<|sU<|sA Z<|sN<|qR ?_
      cases oI h
      exact qG
     refine sM Z<|k3<|sK<|sU<|sM Z<|k3<|sU<|sM Z<|sK<|sK<|sK ?_
     refine sK<|sU<|sM Z<|k3<|sU<|sM Z<|k3<|sU<|sA Z<|sN<|qR ?_
     cases oI h
     exact qG
    refine WO.mX (cS a0.aI (aK.mk 0 0 0)) a Z Z Z Z Z<|sM Z<|k3<|sK<|sU<|sM Z<|k3<|sK<|sU<|sM Z<|sK ?_
    refine sK<|sK<|sU<|sM Z<|k3<|sK<|sU<|sM Z<|k3<|sU<|sM Z ?_
    refine k3<|sU<|sA Z<|sN<|qR ?_
    cases oI h
    exact qG
   refine sA Z<|sN<|cF<|qK<|gU Z<|sU<|sN<|qR ?_
   cases oI h
   exact qG
  refine sM Z<|k3<|sU<|sA Z<|sN<|qS<|gU Z<|sV (.ptr 16 0)<|sL Z<|sN<|qB<|gU Z<|sF h ?_ ?_<;>intro h
  ·refine sA Z<|sN<|cT<|gU Z<|mM Z<|k3<|k3<|sK<|sU<|sM Z ?_
   refine k3<|k3<|sK<|sU<|sM Z<|k3<|sK<|sU<|sM Z ?_
   refine k3<|sK<|sU<|sA Z<|sN<|qR ?_
   cases oI h
   exact qG
  refine sA Z<|sN<|cF<|gU Z<|sF h ?_ ?_<;>intro h
  ·refine sA Z<|sN<|cT<|CP (R0:=[(1,.cptr [.int .i64 a0.aQ,.int .i64 a0.aI.a0,.int .i64 a0.aI.a1,.int .i64 a0.aI.a2,.int .i64 a0.aH.a0,.int .i64 a0.aH.a1,.int .i64 a0.aH.a2,.lst (a0.aO.map (PD.int .i64)),.int .i64 a0.aJ,.int .i64 a0.aS]),(3,rB false)]) (B0:=[]) Z Z<|mM Z<|k3<|sU<|sM Z<|k3<|sU ?_
   refine sM Z<|k3<|sK<|sU<|sA Z<|sN<|qR ?_
   exact oI h▸qD
  refine sA Z<|sN<|cF<|gU Z<|sF h ?_ ?_<;>intro h
  ·refine sA Z<|sN<|cT<|gU Z<|sV (.ptr 16 1)<|sV (.d (aK.pd a0.aI))<|sV (.d (aK.pd (aK.mk 0 0 0)))<|kq h (fun b h=>?_) (fun b h=>?_)
   ·refine WO.mX (cS a0.aI (aK.mk 0 0 0)) b Z Z Z Z Z<|sM Z<|sV (.ptr 16 4)<|sV (.d (aK.pd a0.aH))<|sV (.d (aK.pd (aK.mk 0 0 0)))<|WO.bin (cS a0.aH (aK.mk 0 0 0)) Z Z Z Z Z<|sF h ?_ ?_<;>intro h
    ·refine sM Z<|sV (.ptr 16 7)<|sL Z<|sE (rI (a0.aO.length:Int)) (ik _ _)<|bE h fun N m h=>cD (br m)<|sF h ?_ ?_<;>intro h
     ·refine sM Z<|sV (.ptr 16 7)<|sL Z<|bE h fun O n h=>cD (de n)<|sF h ?_ ?_<;>intro h
      ·refine sM Z<|sV (.ptr 16 7)<|sL Z<|bE h fun B o h=>cD (gq o)<|sV (rB (B != (0:Int)))<|sF h ?_ ?_<;>intro h
       ·refine sM Z<|sV (.ptr 16 8)<|sL Z<|bE h fun Q p h=>cD (br p)<|sF h ?_ ?_<;>intro h
        ·refine sM Z<|sV (.ptr 16 9)<|sL Z<|bE h fun C q h=>cD (br q)<|sV (rB C)<|sA Z<|sN<|qR ?_
         cases oI h
         exact qG
        refine sM Z<|k3<|sU<|sA Z<|sN<|qR ?_
        cases oI h
        exact qG
       refine sM Z<|k3<|sU<|sM Z<|k3<|sU<|sA Z<|sN<|qR ?_
       cases oI h
       exact qG
      refine sM Z<|k3<|sK<|sU<|sM Z<|k3<|sU<|sM Z<|sK<|sK<|sK ?_
      refine sU<|sA Z<|sN<|qR ?_
      cases oI h
      exact qG
     refine sM Z<|k3<|sU<|sM Z<|k3<|sK<|sU<|sM Z<|sK<|sK<|sK ?_
     refine sU<|sM Z<|k3<|sU<|sA Z<|sN<|qR ?_
     cases oI h
     exact qG
    refine sM Z<|k3<|sK<|sU<|sM Z<|k3<|sU<|sM Z<|sK<|sK<|sK ?_
    refine sK<|sU<|sM Z<|k3<|sU<|sM Z<|k3<|sU<|sA Z<|sN<|qR ?_
    cases oI h
    exact qG
   refine WO.mX (cS a0.aI (aK.mk 0 0 0)) b Z Z Z Z Z<|sM Z<|k3<|sK<|sU<|sM Z<|k3<|sK<|sU<|sM Z<|sK ?_
   refine sK<|sK<|sU<|sM Z<|k3<|sK<|sU<|sM Z<|k3<|sU<|sM Z ?_
   refine k3<|sU<|sA Z<|sN<|qR ?_
   cases oI h
   exact qG
  refine sA Z<|sN<|cF<|qK<|gU Z<|sU<|sN<|qR ?_
  cases oI h
  exact qG
 refine sM Z<|k3<|sU<|sM Z<|k3<|sU<|sA Z<|sN<|qS<|gU Z<|sV (.ptr 16 0) ?_
 refine sL Z<|sN<|qB<|gU Z<|sF h ?_ ?_<;>intro h
 ·refine sA Z<|sN<|cT<|gU Z<|mM Z<|k3<|k3<|sK<|sU<|sM Z ?_
  refine k3<|k3<|sK<|sU<|sM Z<|k3<|sK<|sU<|sM Z ?_
  refine k3<|sK<|sU<|sA Z<|sN<|qR ?_
  cases oI h
  exact qG
 refine sA Z<|sN<|cF<|gU Z<|sF h ?_ ?_<;>intro h
 ·refine sA Z<|sN<|cT<|CP (R0:=[(1,.cptr [.int .i64 a0.aQ,.int .i64 a0.aI.a0,.int .i64 a0.aI.a1,.int .i64 a0.aI.a2,.int .i64 a0.aH.a0,.int .i64 a0.aH.a1,.int .i64 a0.aH.a2,.lst (a0.aO.map (PD.int .i64)),.int .i64 a0.aJ,.int .i64 a0.aS]),(3,rB false)]) (B0:=[]) Z Z<|mM Z<|k3<|sU<|sM Z<|k3<|sU ?_
  refine sM Z<|k3<|sK<|sU<|sA Z<|sN<|qR ?_
  exact oI h▸qD
 refine sA Z<|sN<|cF<|gU Z<|sF h ?_ ?_<;>intro h
 ·refine sA Z<|sN<|cT<|gU Z<|sV (.ptr 16 1)<|sV (.d (aK.pd a0.aI))<|sV (.d (aK.pd (aK.mk 0 0 0)))<|kq h (fun c h=>?_) (fun c h=>?_)
  ·refine WO.mX (cS a0.aI (aK.mk 0 0 0)) c Z Z Z Z Z<|sM Z<|sV (.ptr 16 4)<|sV (.d (aK.pd a0.aH))<|sV (.d (aK.pd (aK.mk 0 0 0)))<|WO.bin (cS a0.aH (aK.mk 0 0 0)) Z Z Z Z Z<|sF h ?_ ?_<;>intro h
   ·refine sM Z<|sV (.ptr 16 7)<|sL Z<|sE (rI (a0.aO.length:Int)) (ik _ _)<|bE h fun T s h=>cD (br s)<|sF h ?_ ?_<;>intro h
    ·refine sM Z<|sV (.ptr 16 7)<|sL Z<|bE h fun U t h=>cD (de t)<|sF h ?_ ?_<;>intro h
     ·refine sM Z<|sV (.ptr 16 7)<|sL Z<|bE h fun D u h=>cD (gq u)<|sV (rB (D != (0:Int)))<|sF h ?_ ?_<;>intro h
      ·refine sM Z<|sV (.ptr 16 8)<|sL Z<|bE h fun W v h=>cD (br v)<|sF h ?_ ?_<;>intro h
       ·refine sM Z<|sV (.ptr 16 9)<|sL Z<|bE h fun E x h=>cD (br x)<|sV (rB E)<|sA Z<|sN<|qR ?_
        cases oI h
        exact qG
       refine sM Z<|k3<|sU<|sA Z<|sN<|qR ?_
       cases oI h
       exact qG
      refine sM Z<|k3<|sU<|sM Z<|k3<|sU<|sA Z<|sN<|qR ?_
      cases oI h
      exact qG
     refine sM Z<|k3<|sK<|sU<|sM Z<|k3<|sU<|sM Z<|sK<|sK<|sK ?_
     refine sU<|sA Z<|sN<|qR ?_
     cases oI h
     exact qG
    refine sM Z<|k3<|sU<|sM Z<|k3<|sK<|sU<|sM Z<|sK<|sK<|sK ?_
    refine sU<|sM Z<|k3<|sU<|sA Z<|sN<|qR ?_
    cases oI h
    exact qG
   refine sM Z<|k3<|sK<|sU<|sM Z<|k3<|sU<|sM Z<|sK<|sK<|sK ?_
   refine sK<|sU<|sM Z<|k3<|sU<|sM Z<|k3<|sU<|sA Z<|sN<|qR ?_
   cases oI h
   exact qG
  refine WO.mX (cS a0.aI (aK.mk 0 0 0)) c Z Z Z Z Z<|sM Z<|k3<|sK<|sU<|sM Z<|k3<|sK<|sU<|sM Z<|sK ?_
  refine sK<|sK<|sU<|sM Z<|k3<|sK<|sU<|sM Z<|k3<|sU<|sM Z ?_
  refine k3<|sU<|sA Z<|sN<|qR ?_
  cases oI h
  exact qG
 refine sA Z<|sN<|cF<|qK<|gU Z<|sU<|sN<|qR ?_
 cases oI h
 exact qG
theorem fA{a0:ak}{r:Bool}(h:cz a0=some r):EvP prog aL ext 90 [.d (ak.pd a0)] [] (rB r,[]):=by
 refine Ev.body Z Tryz.func90 Z Zk<|gU Z<|sB (.ptr 16 0) 16 (.var (ak.rc a0))<|sU<|sN<|gU Z<|sV (.d (ak.pd a0))<|bE h fun a h1 h=>cD (iJ h1)<|sV (rB (!a))<|sA Z<|sN<|qR ?_
 cases oI h
 exact qG
theorem fV{a0:(List ak)}{r:Int}(h:bC a0=some r):EvP prog aL ext 112 [rM ak.pd a0,.d (.raw (.func (.func 90) #[] #[]))] [] (rI r,[]):=by
 refine Ev.body Z Tryz.func112 Z Zk<|gU Z<|sV (r0)<|sN<|qS<|gU Z<|sM Z<|sE (rI (a0.length:Int)) (ik _ _)<|sV (r0)<|sN<|bE h fun m f h=>CM (CQ (WL.jZ f (fun s=>gI 0 112 2 [(0,rM ak.pd a0),(1,.d (.raw (.func (.func 90) #[] #[]))),(7,rI (a0.length:Int)),(8,rI s)] []) (fun o=>match o with| .inl y=>gX 0 0 112 7 [] []| .inr r=>gF 112 Tryz.f112 0 (rI r,[])) Z ?_ ?_))
 ·rintro s1 k j q c h
  refine gS Z c<|sF h ?_ ?_<;>intro h
  ·refine sN<|qS<|cT<|qK<|qS<|qB<|gU Z<|sM Z<|sA Z<|sN<|gU Z<|mM Z<|sM Z<|bE h fun p l h=>?_
   refine eG l Z<|sV (.d (ak.pd p))<|bE h fun t g h=>kq h (fun a h=>?_) (fun a h=>?_)
   ·refine WO.lg (v:=rB true) (u:=[]) Z Z (fun _=>Z) Z Z Z Z Z (fA g) Z Z (congrArg (fun b=>RV.d (.bool b)) a) Z<|sN<|cT<|gU Z<|sM Z<|sA Z<|sN<|qR ?_
    cases oI h
    exact⟨nofun,rfl,rfl⟩
   refine WO.lg (v:=rB false) (u:=[]) Z Z (fun _=>Z) Z Z Z Z Z (fA g) Z Z (congrArg (fun b=>RV.d (.bool b)) a) Z<|sN<|cF<|qK<|CR Z Z<|sV (rI (rW (s1+(1:Int))))<|sM Z<|sN ?_
   cases oI h
   exact⟨rfl,rfl⟩
  refine sN<|qS<|cF<|qX ?_
  cases oI h
  exact⟨nofun,rfl,rfl⟩
 intro e k j he i
 rcases m with x|n
 ·obtain⟨rfl,c⟩:=i
  refine qE<|gS Z c<|sV (rI (-1))<|sN<|qR ?_
  exact oI h▸qD
 obtain⟨rfl,hf⟩:=i
 cases oI h
 exact hf
theorem fe{a0:(List ak)}{r:Bool}(h:aZ a0=some r):EvP prog aL ext 89 [rM ak.pd a0,.d (.raw (.func (.func 90) #[] #[]))] [] (rB r,[]):=by
 refine Ev.body Z Tryz.func89 Z Zk<|gU Z<|sU<|sN<|gU Z<|mM Z<|bE h fun a h1 h=>cD (fV h1)<|sV (rB (decide (a>=(0:Int))))<|sA Z<|sN<|qR ?_
 exact oI h▸qD
theorem jF{a0:(List ak)}{r:Int}(h:cX a0=some r):EvP prog aL ext 92 [rM ak.pd a0] [] (rI r,[]):=by
 refine Ev.body Z Tryz.func92 Z Zk<|gU Z<|sV (r0)<|sN<|gU Z<|sV (rI 1)<|sN<|qS<|gU Z<|sM Z<|sE (rI (a0.length:Int)) (ik _ _)<|sV (r0)<|sN<|bE h fun c a h=>CM (CQ (WL.jZ a (fun s=>gI 0 92 3 [(3,rI s.1),(6,rM ak.pd a0),(7,rI (a0.length:Int)),(8,rI s.2)] []) (fun o=>match o with| .inl y=>gX 0 0 92 10 [(3,rI y)] []| .inr r=>gF 92 Tryz.f92 0 (rI r,[])) Z ?_ ?_))
 ·rintro⟨s1,s2⟩ j i n b h
  refine gS Z b<|sF h ?_ ?_<;>intro h
  ·refine sN<|qS<|cT<|qK<|qS<|qB<|gU Z<|bE h fun f k h=>eG k Z<|sV (.d (ak.pd f))<|sB (.ptr 80 0) 80 (.var zZ0)<|sH 80 (.var (ak.rc f))<|sN<|qS<|gU Z ?_
   refine sV (.ptr 80 0)<|sL Z<|sF h ?_ ?_<;>intro h
   ·refine sN<|cT<|qX<|qE<|CR Z Z<|sV (rI (rW (s2+(1:Int))))<|sM Z<|sN ?_
    cases oI h
    exact⟨rfl,rfl⟩
   refine sN<|cF<|qK<|gU Z<|sM Z<|sV (.ptr 80 8)<|sL Z<|sV (rI (rW (s1*f.aJ)))<|sA Z<|sN<|gU Z<|sM Z<|sF h ?_ ?_<;>intro h
   ·refine sN<|cT<|gU Z<|sV (r0)<|sN<|qR ?_
    cases oI h
    exact⟨nofun,rfl,rfl⟩
   refine sN<|cF<|qK<|CR Z Z<|sV (rI (rW (s2+(1:Int))))<|sM Z<|sN ?_
   cases oI h
   exact⟨rfl,rfl⟩
  refine sN<|qS<|cF<|qX ?_
  cases oI h
  exact⟨nofun,rfl,rfl⟩
 intro e j i he g
 rcases c with m|l
 ·obtain⟨rfl,b⟩:=g
  refine qE<|gS Z b<|sM Z<|sA Z<|sN<|qR ?_
  exact oI h▸qD
 obtain⟨rfl,hf⟩:=g
 cases oI h
 exact hf
theorem jT{a0:ar}{r:Bool}(h:dt a0=some r):EvP prog aL ext 54 [.d (ar.pd a0)] [] (rB r,[]):=by
 refine Ev.body Z Tryz.func54 Z Zk<|gU Z<|sB (.ptr 16 0) 16 (.var [rM ak.pd a0.aA])<|sU<|sN<|qS<|gU Z<|sV (.ptr 16 0)<|sL Z<|sE (rI (a0.aA.length:Int)) (ik _ _)<|sF h ?_ ?_<;>intro h
 ·refine sM Z<|k3<|sT<|sN<|cT<|gU Z<|sU<|sN<|qR ?_
  exact oI h▸qD
 refine sM Z<|sV (.ptr 16 0)<|sL Z<|bE h fun x2 a h=>cD (fe a)<|sF h ?_ ?_<;>intro h
 ·refine sN<|cT<|gU Z<|sU<|sN<|qR ?_
  exact oI h▸qD
 refine sN<|cF<|qK<|gU Z<|sV (.ptr 16 0)<|sL Z<|bE h fun c b h=>cD (jF b)<|sV (rB (decide (c>(0:Int))))<|sA Z<|sN<|qR ?_
 exact oI h▸qD
theorem eN{a0:Int}{a1:Int}{a2:Int}{r:Bool}(h:cm a0 a1 a2=some r):EvP prog aL ext 55 [rI a0,rI a1,rI a2] [] (rB r,[]):=by
 refine Ev.body Z Tryz.func55 Z Zk<|gU Z<|sU<|sN<|gU Z<|mM Z<|sF h ?_ ?_<;>intro h
 ·refine mM Z<|sM Z<|sV (rB (decide (a0<=a2)))<|sV (rB (decide (a0<=a2)))<|sA Z<|sN<|qR ?_
  exact oI h▸qD
 refine sM Z<|k3<|sU<|sA Z<|sN<|qR ?_
 exact oI h▸qD
theorem fb{a0:ah}{r:Bool}(h:bD a0=some r):EvP prog aL ext 28 [.d (ah.pd a0)] [] (rB r,[]):=by
 refine Ev.body Z Tryz.func28 Z Zk<|gU Z<|sB (.ptr 16 0) 16 (.var (ah.rc a0))<|sU<|sN<|gU Z<|sV (.ptr 16 4)<|sV (.d (aw.pd a0.aq))<|sB (.ptr 48 0) 48 (.var [r0,r0,r0])<|sS 48 (.var (aw.rc a0.aq))<|sN<|gU Z<|sV (.ptr 16 0)<|sL Z<|sF h ?_ ?_<;>intro h
 ·refine sM Z<|sV (.ptr 16 0)<|sL Z<|sV (.ptr 16 1)<|sL Z<|sV (rB (decide (a0.az<a0.fTo)))<|sF h ?_ ?_<;>intro h
  ·refine sM Z<|sV (.ptr 16 1)<|sL Z<|sV (rB (decide (a0.fTo<=(9007199254740992:Int))))<|sF h ?_ ?_<;>intro h
   ·refine sM Z<|sV (.ptr 16 2)<|sV (.d (av.pd a0.aM))<|bE h fun j e h=>cD (rate_Valid_ev e)<|sF h ?_ ?_<;>intro h
    ·refine sM Z<|sV (.ptr 16 7)<|sV (.d (ar.pd a0.aB))<|bE h fun k f h=>cD (jT f)<|sF h ?_ ?_<;>intro h
     ·refine sM Z<|sV (.ptr 48 0)<|sL Z<|bE h fun l g h=>cD (eN g)<|sF h ?_ ?_<;>intro h
      ·refine sM Z<|sV (.ptr 48 1)<|sL Z<|bE h fun i a h=>cD (eN a)<|sF h ?_ ?_<;>intro h
       ·refine sM Z<|sV (.ptr 48 2)<|sL Z<|bE h fun c b h=>cD (eN b)<|sV (rB c)<|sA Z<|sN<|qR ?_
        exact oI h▸qD
       refine sM Z<|k3<|sU<|sA Z<|sN<|qR ?_
       exact oI h▸qD
      refine sM Z<|k3<|sU<|sM Z<|k3<|sU<|sA Z<|sN<|qR ?_
      exact oI h▸qD
     refine sM Z<|k3<|sU<|sM Z<|k3<|sU<|sM Z<|k3<|sU ?_
     refine sA Z<|sN<|qR ?_
     exact oI h▸qD
    refine sM Z<|k3<|sU<|sM Z<|k3<|sU<|sM Z<|k3<|sU ?_
    refine sM Z<|k3<|sU<|sA Z<|sN<|qR ?_
    exact oI h▸qD
   refine sM Z<|k3<|sU<|sM Z<|k3<|sU<|sM Z<|k3<|sU ?_
   refine sM Z<|k3<|sU<|sM Z<|k3<|sU<|sA Z<|sN<|qR ?_
   exact oI h▸qD
  refine sM Z<|k3<|sU<|sM Z<|k3<|sU<|sM Z<|k3<|sU ?_
  refine sM Z<|k3<|sU<|sM Z<|k3<|sU<|sM Z<|k3<|sU ?_
  refine sA Z<|sN<|qR ?_
  exact oI h▸qD
 refine sM Z<|k3<|sK<|sK<|sU<|sM Z<|k3<|sU<|sM Z<|sK<|sK ?_
 refine sK<|sU<|sM Z<|k3<|sU<|sM Z<|k3<|sU<|sM Z<|sK<|sK ?_
 refine sK<|sU<|sM Z<|k3<|sU<|sA Z<|sN<|qR ?_
 exact oI h▸qD
theorem jm{a0:(List ah)}{r:Bool}(h:cG a0=some r):EvP prog aL ext 36 [rM ah.pd a0] [] (rB r,[]):=by
 refine Ev.body Z Tryz.func36 Z Zk<|gU Z<|sU<|sN<|qS<|gU Z<|sM Z<|sE (rI (a0.length:Int)) (ik _ _)<|sV (r0)<|sN<|bE h fun i b h=>CM (CQ (WL.jZ b (fun s=>gI 0 36 2 [(0,rM ah.pd a0),(5,rM ah.pd a0),(6,rI (a0.length:Int)),(7,rI s)] []) (fun o=>match o with| .inl y=>gX 0 0 36 7 [(0,rM ah.pd a0)] []| .inr r=>gF 36 Tryz.f36 0 (rB r,[])) Z ?_ ?_))
 ·rintro s1 l k v g h
  refine gS Z g<|sF h ?_ ?_<;>intro h
  ·refine sN<|qS<|cT<|qK<|qS<|qB<|gU Z<|sM Z<|bE h fun c m h=>eG m Z<|sV (.d (ah.pd c))<|sB (.ptr 64 0) 64 (.var zZ1)<|sA Z<|sH 64 (.var (ah.rc c))<|sN ?_
   refine CN Z Z<|sV (.d (ah.pd c))<|bE h fun x n h=>cD (fb n)<|sF h ?_ ?_<;>intro h
   ·refine sM Z<|k3<|k3<|k3<|k3<|sK<|sT ?_
    refine sN<|sO<|cT<|gU Z<|sU<|sN<|qR ?_
    cases oI h
    exact⟨nofun,rfl,rfl⟩
   refine mM Z<|sF h ?_ ?_<;>intro h
   ·refine sM Z<|sV (.ptr 64 0)<|sL Z<|mM Z<|sV (rI (rW (s1-(1:Int))))<|bE h fun a p h=>eG p Z<|sV (.cptr [.int .i64 a.fTo,.int .i64 a.aM.aI,.int .i64 a.aM.aH,.int .i64 a.aq.fX,.int .i64 a.aq.fY,.int .i64 a.aq.fZ,.lst (a.aB.aA.map ak.pd)])<|sC Z<|sV (rB (decide (c.az<a.fTo)))<|sV (rB (decide (c.az<a.fTo)))<|sF h ?_ ?_<;>intro h
    ·refine sN<|sO<|cT<|gU Z<|sU<|sN<|qR ?_
     cases oI h
     exact⟨nofun,rfl,rfl⟩
    refine sN<|sO<|cF<|qK<|CR Z Z<|sV (rI (rW (s1+(1:Int))))<|sM Z<|sN ?_
    cases oI h
    exact⟨rfl,rfl⟩
   refine sM Z<|k3<|k3<|k3<|sU<|sU ?_
   refine sN<|sO<|cF<|qK<|CR Z Z<|sV (rI (rW (s1+(1:Int))))<|sM Z<|sN ?_
   cases oI h
   exact⟨rfl,rfl⟩
  refine sN<|qS<|cF<|qX ?_
  cases oI h
  exact⟨nofun,rfl,rfl⟩
 intro e l k he j
 rcases i with u|q
 ·obtain⟨rfl,g⟩:=j
  refine qE<|gS Z g<|sM Z<|sE (rI (a0.length:Int)) (ik _ _)<|bE h fun t f h=>cD (eN f)<|sA Z<|sN<|qR ?_
  exact oI h▸qD
 obtain⟨rfl,hf⟩:=j
 cases oI h
 exact hf
theorem gw{a0:(List UInt8)}{r:Bool}(h:dp a0=some r):EvP prog aL ext 100 [rS a0] [] (rB r,[]):=by
 refine Ev.body Z Tryz.func100 Z Zk<|gU Z<|sU<|sN<|gU Z<|mM Z<|sV (rB (!(a0==a0)))<|sA Z<|sN<|qR ?_
 exact oI h▸qD
theorem cQ{a0:(List UInt8)}{a1:(List UInt8)}{r:Int}(h:aW a0 a1=some r):EvP prog aL ext 67 [rS a0,rS a1] [] (rI r,[]):=by
 refine Ev.body Z Tryz.func67 Z Zk<|gU Z<|sV (r0)<|sN<|gU Z<|sM Z<|bE h fun b h1 h=>cD (gw h1)<|sA Z<|sN<|gU Z<|sM Z<|bE h fun x2 a h=>cD (gw a)<|sA Z ?_
 refine sN<|qS<|gU Z<|sF h ?_ ?_<;>intro h
 ·refine sN<|cT<|qS<|gU Z<|sF h ?_ ?_<;>intro h
  ·refine sN<|cT<|gU Z<|sV (r0)<|sN<|qR ?_
   exact oI h▸qD
  refine sN<|cF<|qK<|gU Z<|sV (rI (-1))<|sN<|qR ?_
  exact oI h▸qD
 refine sN<|cF<|qK<|qS<|gU Z<|sF h ?_ ?_<;>intro h
 ·refine sN<|cT<|gU Z<|sV (rI 1)<|sN<|qR ?_
  exact oI h▸qD
 refine sN<|cF<|qK<|qS<|gU Z<|mM Z<|sF h ?_ ?_<;>intro h
 ·refine sN<|cT<|gU Z<|sV (rI (-1))<|sN<|qR ?_
  exact oI h▸qD
 refine sN<|cF<|qK<|qS<|gU Z<|mM Z<|sF h ?_ ?_<;>intro h
 ·refine sN<|cT<|gU Z<|sV (rI 1)<|sN<|qR ?_
  exact oI h▸qD
 refine sN<|cF<|qK<|gU Z<|sV (r0)<|sN<|qR ?_
 exact oI h▸qD
theorem cmp_Or_int_ev{a0:(List Int)}{r:Int}(h:fJ a0=some r):EvP prog aL ext 66 [rL a0] [] (rI r,[]):=by
 refine Ev.body Z Tryz.func66 Z Zk<|gU Z<|sV (r0)<|sN<|gU Z<|sV (r0)<|sN<|qS<|gU Z<|sM Z<|sE (rI (a0.length:Int)) (ik _ _)<|sV (r0)<|sN<|bE h fun j b h=>CM (CQ (WL.jZ b (fun s=>gI 0 66 3 [(3,r0),(6,rL a0),(7,rI (a0.length:Int)),(8,rI s)] []) (fun o=>match o with| .inl y=>gX 0 0 66 8 [(3,r0)] []| .inr r=>gF 66 Tryz.f66 0 (rI r,[])) Z ?_ ?_))
 ·rintro s1 g f k a h
  refine gS Z a<|sF h ?_ ?_<;>intro h
  ·refine sN<|qS<|cT<|qK<|qS<|qB<|gU Z<|bE h fun m i h=>eG i Z<|sC Z<|sA Z<|sN<|gU Z<|sM Z<|sM Z ?_
   refine sF h ?_ ?_<;>intro h
   ·refine sN<|cT<|gU Z<|sM Z<|sA Z<|sN<|qR ?_
    cases oI h
    exact⟨nofun,rfl,rfl⟩
   refine sN<|cF<|qK<|CR Z Z<|sV (rI (rW (s1+(1:Int))))<|sM Z<|sN ?_
   cases oI h
   exact⟨rfl,rfl⟩
  refine sN<|qS<|cF<|qX ?_
  cases oI h
  exact⟨nofun,rfl,rfl⟩
 intro e g f he c
 rcases j with n|l
 ·obtain⟨rfl,a⟩:=c
  refine qE<|gS Z a<|sM Z<|sA Z<|sN<|qR ?_
  exact oI h▸qD
 obtain⟨rfl,hf⟩:=c
 cases oI h
 exact hf
theorem jU{a0:ac}{a1:ac}{r:Int}(h:bv a0 a1=some r):EvP prog aL ext 37 [.d (ac.pd a0),.d (ac.pd a1)] [] (rI r,[]):=by
 refine Ev.body Z Tryz.func37 Z Zk<|gU Z<|sB (.ptr 32 0) 32 (.var (ac.rc a0))<|sB (.ptr 48 0) 48 (.var (ac.rc a1))<|sV (r0)<|sN<|CN Z Z<|sV (.ptr 32 0)<|sL Z<|sV (.ptr 48 0)<|sL Z<|bE h fun f h1 h=>cD (cQ h1)<|sV (.ptr 32 1)<|sL Z ?_
 refine sV (.ptr 48 1)<|sL Z<|bE h fun x2 a h=>cD (cQ a)<|sV (.ptr 32 2)<|sL Z<|sV (.ptr 48 2)<|sL Z<|bE h fun g b h=>cD (cQ b)<|sV (.ptr 32 3)<|sL Z<|sV (.ptr 48 3)<|sL Z<|bE h fun i c h=>?_
 refine cD (cQ c)<|sV (.d (.lst ([f,x2,g,i].map (PD.int .i64))))<|bE h fun j e h=>cD (cmp_Or_int_ev e)<|sA Z ?_
 refine sN<|sO<|qR ?_
 exact oI h▸qD
theorem cK{a0:ai}{r:Bool}(h:bg a0=some r):EvP prog aL ext 9 [.d (ai.pd a0)] [] (rB r,[]):=by
 refine Ev.body Z Tryz.func9 Z Zk<|gU Z<|sB (.ptr 16 0) 16 (.var [rM aa.pd a0.am])<|sU<|sN<|qS<|gU Z<|sV (.ptr 16 0)<|sL Z<|sE (rI (a0.am.length:Int)) (ik _ _)<|sV (r0)<|sN<|bE h fun k b h=>CM (CQ (WL.jZ b (fun s=>gI 0 9 2 [(1,.ptr 16 0),(6,rM aa.pd a0.am),(7,rI (a0.am.length:Int)),(8,rI s)] [(16,.var [rM aa.pd a0.am])]) (fun o=>match o with| .inl y=>gX 0 0 9 7 [(1,.ptr 16 0)] [(16,.var [rM aa.pd a0.am])]| .inr r=>gF 9 Tryz.f9 0 (rB r,[])) Z ?_ ?_))
 ·rintro s1 n m z j h
  refine gS Z j<|sF h ?_ ?_<;>intro h
  ·refine sN<|qS<|cT<|qK<|qS<|qB<|gU Z<|sM Z<|bE h fun f p h=>eG p Z<|sV (.d (aa.pd f))<|sB (.ptr 64 0) 64 (.var zZ2)<|sA Z<|sS 64 (.var (aa.rc f))<|sN ?_
   refine CN Z Z<|sV (.ptr 64 0)<|sV (.d (ac.pd f.aj))<|bE h fun B q h=>cD (gt q)<|sF h ?_ ?_<;>intro h
   ·refine sM Z<|k3<|sK<|sT<|sM Z<|k3<|k3<|sK<|sK ?_
    refine k3<|k3<|sK<|sT ?_
    refine sN<|sO<|cT<|gU Z<|sU<|sN<|qR ?_
    cases oI h
    exact⟨nofun,rfl,rfl⟩
   refine sM Z<|sV (.ptr 64 4)<|sL Z<|bE h fun v t h=>cD (jm t)<|sV (rB (!v))<|sF h ?_ ?_<;>intro h
   ·refine sM Z<|k3<|k3<|k3<|k3<|sK<|sK ?_
    refine sK<|sT ?_
    refine sN<|sO<|cT<|gU Z<|sU<|sN<|qR ?_
    cases oI h
    exact⟨nofun,rfl,rfl⟩
   refine mM Z<|sF h ?_ ?_<;>intro h
   ·refine sM Z<|sV (.ptr 16 0)<|sL Z<|sM Z<|sV (rI (rW (s1-(1:Int))))<|bE h fun a g h=>eG g Z<|sV (.cptr [.str a.aj.aD,.str a.aj.aC,.str a.aj.au,.str a.aj.aF,.lst (a.al.map ah.pd)])<|sV (.d (ac.pd a.aj))<|sV (.ptr 64 0)<|sV (.d (ac.pd f.aj))<|bE h fun c i h=>cD (jU i)<|sV (rB (decide (c>=(0:Int))))<|sV (rB (decide (c>=(0:Int)))) ?_
    refine sF h ?_ ?_<;>intro h
    ·refine sN<|sO<|cT<|gU Z<|sU<|sN<|qR ?_
     cases oI h
     exact⟨nofun,rfl,rfl⟩
    refine sN<|sO<|cF<|qK<|CR Z Z<|sV (rI (rW (s1+(1:Int))))<|sM Z<|sN ?_
    cases oI h
    exact⟨rfl,rfl⟩
   refine sM Z<|k3<|k3<|k3<|sK<|sK<|sU<|sU ?_
   refine sN<|sO<|cF<|qK<|CR Z Z<|sV (rI (rW (s1+(1:Int))))<|sM Z<|sN ?_
   cases oI h
   exact⟨rfl,rfl⟩
  refine sN<|qS<|cF<|qX ?_
  cases oI h
  exact⟨nofun,rfl,rfl⟩
 intro e n m he l
 rcases k with x|u
 ·obtain⟨rfl,j⟩:=l
  refine qE<|gS Z j<|sV (.ptr 16 0)<|sL Z<|sE (rI (a0.am.length:Int)) (ik _ _)<|sV (rB (decide ((a0.am.length:Int)<=(128:Int))))<|sA Z<|sN<|qR ?_
  exact oI h▸qD
 obtain⟨rfl,hf⟩:=l
 cases oI h
 exact hf
theorem iz{a0:ah}{r:ah}(h:dj a0=some r):EvP prog aL ext 71 [.d (ah.pd a0)] [] (.d (ah.pd r),[]):=by
 refine Ev.body Z Tryz.func71 Z Zk<|gU Z<|sB (.ptr 16 0) 16 (.var (ah.rc a0))<|sB (.ptr 32 0) 32 (.var zZ1)<|sN<|gU Z<|sV (.ptr 16 7)<|sV (.ptr 16 7)<|sL Z<|bE h fun k h1 h=>cR (.ref 112 0) [(112,.arr 0 84 (k.map ak.pd))] (clone_101 h1)<|sV (.ptr 16 7)<|sV (.ptr 16 7)<|sS 16 (.var (rI a0.az::rI a0.fTo::av.rc a0.aM++aw.rc a0.aq++[.ref 112 0]))<|sN ?_
 refine qS<|gU Z<|sV (.ptr 16 7)<|sV (.ptr 16 7)<|sL Z<|WO.te Z Z Z Z Z Z Z Z Z<|sV (r0)<|sN<|bE h fun t a h=>CM (CQ (WL.jZ a (fun s=>gI 0 71 3 [(1,.ptr 16 0),(2,.ptr 32 0),(13,rI (k.length:Int)),(14,rI s.1)] [(16,.var (rI a0.az::rI a0.fTo::av.rc a0.aM++aw.rc a0.aq++[.ref 112 0])),(32,.var zZ1),(112,.arr 0 84 (s.2.map ak.pd))]) (fun o=>gX 0 0 71 7 [(1,.ptr 16 0),(2,.ptr 32 0)] [(16,.var (rI a0.az::rI a0.fTo::av.rc a0.aM++aw.rc a0.aq++[.ref 112 0])),(32,.var zZ1),(112,.arr 0 84 (o.map ak.pd))]) Z ?_ ?_))
 ·rintro⟨s2,z⟩ m l y i h
  refine gS Z i<|sF h ?_ ?_<;>intro h
  ·refine sN<|qS<|cT<|qK<|qS<|qB<|gU Z<|sM Z<|sA Z<|sN<|CO Z Z<|sV (.ptr 16 7)<|sV (.ptr 16 7)<|sL Z<|sM Z ?_
   refine sV (.ptr 16 7)<|sV (.ptr 16 7)<|sL Z<|sM Z<|bE h fun B n h=>WO.ma n Z Z Z Z Z Z Z Z<|sV (.elt 112 0 (s2).toNat 7)<|bE h fun C p h=>WO.lT p Z Z Z Z Z Z<|bE h fun j b h=>cR (.ref 448 0) [(448,.arr 0 3 (j.map (PD.int .i64)))] (clone_102 b)<|bE h fun v c h=>WO.ma c Z Z Z Z Z Z Z Z<|sV (.elt 112 0 (s2).toNat 7)<|bE h fun x f h=>?_
   refine WO.rk (g:=ak.pd) (u:=[(448,.dead)]) (sz:=1) f (fun _=>Z) (fun _=>Nat.le_of_ble_eq_true Z) Z Z Z Z Z Z Z Z Z Z Z ?_
   refine sN<|sO<|CR Z Z<|sV (rI (rW (s2+(1:Int))))<|sM Z<|sN ?_
   cases oI h
   exact⟨rfl,rfl⟩
  refine sN<|qS<|cF<|qX ?_
  cases oI h
  exact⟨nofun,rfl,rfl⟩
 intro e m l he q
 obtain⟨rfl,i⟩:=q
 refine qE<|gS Z i<|sV (.agg (rI a0.az::rI a0.fTo::av.rc a0.aM++aw.rc a0.aq++[.ref 112 0]))<|sH 32 (.var (rI a0.az::rI a0.fTo::av.rc a0.aM++aw.rc a0.aq++[.ref 112 0]))<|sN<|qR ?_
 cases oI h
 exact qG
theorem jl{a0:aa}{r:aa}(h:et a0=some r):EvP prog aL ext 44 [.d (aa.pd a0)] [] (.agg (ac.rc r.aj++[.ref 0 0]),[.arr 0 41 (r.al.map ah.pd)]):=by
 refine Ev.body Z Tryz.func44 Z Zk<|gU Z<|sB (.ptr 16 0) 16 (.var (aa.rc a0))<|sB (.ptr 32 0) 32 (.var zZ2)<|sN<|gU Z<|sV (.ptr 16 4)<|sL Z<|bE h fun k h1 h=>cR (.ref 112 0) [(112,.arr 0 41 (k.map ah.pd))] (clone_70 h1)<|sV (.ptr 16 4)<|sS 16 (.var (ac.rc a0.aj++[.ref 112 0]))<|sN<|qS<|gU Z ?_
 refine sV (.ptr 16 4)<|sL Z<|WO.te Z Z Z Z Z Z Z Z Z<|sV (r0)<|sN<|bE h fun v a h=>CM (CQ (WL.jZ a (fun s=>gI 0 44 3 [(1,.ptr 16 0),(2,.ptr 32 0),(10,.ref 112 0),(11,rI (k.length:Int)),(12,rI s.1)] [(16,.var (ac.rc a0.aj++[.ref 112 0])),(32,.var zZ2),(112,.arr 0 41 (s.2.map ah.pd))]) (fun o=>gX 0 0 44 7 [(1,.ptr 16 0),(2,.ptr 32 0)] [(16,.var (ac.rc a0.aj++[.ref 112 0])),(32,.var zZ2),(112,.arr 0 41 (o.map ah.pd))]) Z ?_ ?_))
 ·rintro⟨s2,B⟩ n m z i h
  refine gS Z i<|sF h ?_ ?_<;>intro h
  ·refine sN<|qS<|cT<|qK<|qS<|qB<|gU Z<|sM Z<|bE h fun C q h=>WO.ma q Z Z Z Z Z Z Z Z<|bE h fun l t h=>WO.lT t Z Z Z Z Z Z<|sB (.ptr 64 0) 64 (.var zZ1)<|sA Z<|sH 64 (.var (ah.rc l)) ?_
   refine sN<|CO Z Z<|sV (.ptr 16 4)<|sL Z<|sM Z<|sV (.d (ah.pd l))<|bE h fun j b h=>cD (iz b)<|bE h fun x c h=>WO.ma c Z Z Z Z Z Z Z Z<|bE h fun y f h=>WO.vd (g:=ah.pd) (sz:=8) (p:=ah.pd j) f (by intro _;kernel_rfl) (by intro _;kernel_rfl) Z Z Z Z Z Z Z Z Z ?_
   refine sN<|sO<|CR Z Z<|sV (rI (rW (s2+(1:Int))))<|sM Z<|sN ?_
   cases oI h
   exact⟨rfl,rfl⟩
  refine sN<|qS<|cF<|qX ?_
  cases oI h
  exact⟨nofun,rfl,rfl⟩
 intro e n m he u
 obtain⟨rfl,i⟩:=u
 refine qE<|gS Z i<|sV (.agg (ac.rc a0.aj++[.ref 112 0]))<|sS 32 (.var (ac.rc a0.aj++[.ref 112 0]))<|sN<|qR ?_
 exact oI h▸qD
theorem fj{a0:ai}{a1:ac}{r:aa×Bool}(h:bW a0 a1=some r):EvP prog aL ext 15 [.d (ai.pd a0),.d (ac.pd a1)] [] (.tup [.d (aa.pd r.1),rB r.2],[]):=by
 refine Ev.body Z Tryz.func15 Z Zk<|gU Z<|sB (.ptr 32 0) 32 (.var [rM aa.pd a0.am])<|sB (.ptr 48 0) 48 (.var (ac.rc a1))<|sB (.ptr 64 0) 64 (.var zZ2)<|sU<|sN<|qS<|gU Z<|sV (.ptr 32 0)<|sL Z<|sE (rI (a0.am.length:Int)) (ik _ _)<|sV (r0)<|sN<|bE h fun n f h=>?_
 refine CM (CQ (WL.jZ f (fun s=>gI 0 15 2 [(3,.ptr 48 0),(4,.ptr 64 0),(9,rM aa.pd a0.am),(10,rI (a0.am.length:Int)),(11,rI s)] [(48,.var (ac.rc a1)),(64,.var zZ2)]) (fun o=>match o with| .inl y=>gX 0 0 15 7 [(4,.ptr 64 0)] [(64,.var zZ2)]| .inr r=>gF 15 Tryz.f15 0 (.tup [.d (aa.pd r.1),rB r.2],[])) Z ?_ ?_))
 ·rintro s1 k j q c h
  refine gS Z c<|sF h ?_ ?_<;>intro h
  ·refine sN<|qS<|cT<|qK<|qS<|qB<|gU Z<|bE h fun b l h=>eG l Z<|sV (.d (aa.pd b))<|sB (.ptr 112 0) 112 (.var zZ2)<|sS 112 (.var (aa.rc b))<|sN<|gU Z<|sV (.ptr 112 0) ?_
   refine sV (.d (ac.pd b.aj))<|sV (.d (ac.pd a1))<|kq h (fun a h=>?_) (fun a h=>?_)
   ·refine WO.mX (eqE_27 b.aj a1) a Z Z Z Z Z<|sN<|cT<|gU Z<|sV (.d (aa.pd b))<|bE h fun g m h=>cR (.agg (ac.rc g.aj++[.ref 320 0])) [(320,.arr 0 41 (g.al.map ah.pd))] (jl m)<|sS 64 (.var (ac.rc g.aj++[.ref 320 0]))<|sT<|sN<|qR ?_
    cases oI h
    exact⟨nofun,rfl,rfl⟩
   refine WO.mX (eqE_27 b.aj a1) a Z Z Z Z Z<|sN<|cF<|qK<|CR Z Z<|sV (rI (rW (s1+(1:Int))))<|sM Z<|sN ?_
   cases oI h
   exact⟨rfl,rfl⟩
  refine sN<|qS<|cF<|qX ?_
  cases oI h
  exact⟨nofun,rfl,rfl⟩
 intro e k j he i
 rcases n with t|p
 ·obtain⟨rfl,c⟩:=i
  refine qE<|gS Z c<|sV (.agg zZ2)<|sS 64 (.var zZ2)<|sU<|sN<|qR ?_
  exact oI h▸qD
 obtain⟨rfl,hf⟩:=i
 cases oI h
 exact hf
theorem iN{a0:aa}{a1:Int}{r:ah×Bool}(h:db a0 a1=some r):EvP prog aL ext 47 [.d (aa.pd a0),rI a1] [] (.tup [.d (ah.pd r.1),rB r.2],[]):=by
 refine Ev.body Z Tryz.func47 Z Zk<|gU Z<|sB (.ptr 32 0) 32 (.var (aa.rc a0))<|sB (.ptr 64 0) 64 (.var zZ1)<|sU<|sN<|qS<|gU Z<|sV (.ptr 32 4)<|sL Z<|sE (rI (a0.al.length:Int)) (ik _ _)<|sV (r0)<|sN<|bE h fun k c h=>CM (CQ (WL.jZ c (fun s=>gI 0 47 2 [(1,rI a1),(4,.ptr 64 0),(9,rM ah.pd a0.al),(10,rI (a0.al.length:Int)),(11,rI s)] [(64,.var zZ1)]) (fun o=>match o with| .inl y=>gX 0 0 47 7 [(4,.ptr 64 0)] [(64,.var zZ1)]| .inr r=>gF 47 Tryz.f47 0 (.tup [.d (ah.pd r.1),rB r.2],[])) Z ?_ ?_))
 ·rintro s1 i g m b h
  refine gS Z b<|sF h ?_ ?_<;>intro h
  ·refine sN<|qS<|cT<|qK<|qS<|qB<|gU Z<|bE h fun a j h=>eG j Z<|sV (.d (ah.pd a))<|sB (.ptr 112 0) 112 (.var zZ1)<|sH 112 (.var (ah.rc a))<|sN<|gU Z<|sV (.ptr 112 0) ?_
   refine sL Z<|sM Z<|sF h ?_ ?_<;>intro h
   ·refine mM Z<|sV (.ptr 112 1)<|sL Z<|sV (rB (decide (a1<a.fTo)))<|sF h ?_ ?_<;>intro h
    ·refine sN<|cT<|gU Z<|sV (.d (ah.pd a))<|sH 64 (.var (ah.rc a))<|sT<|sN<|qR ?_
     cases oI h
     exact⟨nofun,rfl,rfl⟩
    refine sN<|cF<|qK<|CR Z Z<|sV (rI (rW (s1+(1:Int))))<|sM Z<|sN ?_
    cases oI h
    exact⟨rfl,rfl⟩
   refine sM Z<|k3<|sK<|sU<|sN<|cF<|qK<|CR Z Z<|sV (rI (rW (s1+(1:Int))))<|sM Z<|sN ?_
   cases oI h
   exact⟨rfl,rfl⟩
  refine sN<|qS<|cF<|qX ?_
  cases oI h
  exact⟨nofun,rfl,rfl⟩
 intro e i g he f
 rcases k with n|l
 ·obtain⟨rfl,b⟩:=f
  refine qE<|gS Z b<|sG (.agg zZ1)<|sH 64 (.var zZ1)<|sU<|sN<|qR ?_
  cases oI h
  exact qG
 obtain⟨rfl,hf⟩:=f
 cases oI h
 exact hf
theorem gl{a0:ai}{a1:ac}{a2:Int}{r:ah×Int}(h:da a0 a1 a2=some r):EvP prog aL ext 20 [.d (ai.pd a0),.d (ac.pd a1),rI a2] [] (.tup [.d (ah.pd r.1),rI r.2],[]):=by
 refine Ev.body Z Tryz.func20 Z Zk<|gU Z<|sB (.ptr 48 0) 48 (.var [rM aa.pd a0.am])<|sB (.ptr 64 0) 64 (.var (ac.rc a1))<|sB (.ptr 96 0) 96 (.var zZ1)<|sV (r0)<|sN<|qS<|gU Z<|sV (.d (ai.pd a0))<|bE h fun f h1 h=>cD (cK h1)<|sF h ?_ ?_<;>intro h
 ·refine sN<|cT<|gU Z<|sG (.agg zZ1)<|sH 96 (.var zZ1)<|sV (rI 1)<|sN<|qR ?_
  cases oI h
  exact qG
 refine sN<|cF<|qK<|gU Z<|sV (.d (ai.pd a0))<|sV (.d (ac.pd a1))<|bE h fun b c h=>cR (.tup [.d (aa.pd b.1),rB b.2]) [] (fj c)<|sM Z<|sV (.d (aa.pd b.1))<|sV (rB b.2)<|sB (.ptr 128 0) 128 (.var zZ2)<|sS 128 (.var (aa.rc b.1))<|sA Z<|sN ?_
 refine gU Z<|sV (.d (aa.pd b.1))<|sM Z<|bE h fun a e h=>cR (.tup [.d (ah.pd a.1),rB a.2]) [] (iN e)<|sM Z<|sV (.d (ah.pd a.1))<|sV (rB a.2)<|sB (.ptr 160 0) 160 (.var zZ1)<|sH 160 (.var (ah.rc a.1))<|sA Z<|sN<|qS<|gU Z<|sM Z ?_
 refine sF h ?_ ?_<;>intro h
 ·refine sN<|cT<|gU Z<|sG (.agg zZ1)<|sH 96 (.var zZ1)<|sV (rI 6)<|sN<|qR ?_
  cases oI h
  exact qG
 refine sN<|cF<|qK<|gU Z<|sV (.d (ah.pd a.1))<|sH 96 (.var (ah.rc a.1))<|sV (r0)<|sN<|qR ?_
 cases oI h
 exact qG
theorem span_some_ev{a0:ap}{r:Bool}(h:span_some a0=some r):EvP prog aL ext 75 [.d (ap.pd a0)] [] (rB r,[]):=by
 refine Ev.body Z Tryz.func75 Z Zk<|gU Z<|sB (.ptr 16 0) 16 (.var [rI a0.az,rI a0.fTo])<|sU<|sN<|gU Z<|sV (.ptr 16 0)<|sL Z<|sV (.ptr 16 1)<|sL Z<|sV (rB (decide (a0.az<a0.fTo)))<|sA Z<|sN<|qR ?_
 exact oI h▸qD
theorem eE{a0:ap}{r:Bool}(h:eB a0=some r):EvP prog aL ext 74 [.d (ap.pd a0)] [] (rB r,[]):=by
 refine Ev.body Z Tryz.func74 Z Zk<|gU Z<|sB (.ptr 16 0) 16 (.var [rI a0.az,rI a0.fTo])<|sU<|sN<|gU Z<|sV (.d (ap.pd a0))<|bE h fun a h1 h=>cD (span_some_ev h1)<|sV (rB (!a))<|sA Z<|sN<|qR ?_
 exact oI h▸qD
theorem gh{a0:(List ap)}{r:Int}(h:cO a0=some r):EvP prog aL ext 103 [rM ap.pd a0,.d (.raw (.func (.func 74) #[] #[]))] [] (rI r,[]):=by
 refine Ev.body Z Tryz.func103 Z Zk<|gU Z<|sV (r0)<|sN<|qS<|gU Z<|sM Z<|sE (rI (a0.length:Int)) (ik _ _)<|sV (r0)<|sN<|bE h fun m f h=>CM (CQ (WL.jZ f (fun s=>gI 0 103 2 [(0,rM ap.pd a0),(1,.d (.raw (.func (.func 74) #[] #[]))),(7,rI (a0.length:Int)),(8,rI s)] []) (fun o=>match o with| .inl y=>gX 0 0 103 7 [] []| .inr r=>gF 103 Tryz.f103 0 (rI r,[])) Z ?_ ?_))
 ·rintro s1 k j q c h
  refine gS Z c<|sF h ?_ ?_<;>intro h
  ·refine sN<|qS<|cT<|qK<|qS<|qB<|gU Z<|sM Z<|sA Z<|sN<|gU Z<|mM Z<|sM Z<|bE h fun p l h=>?_
   refine eG l Z<|sV (.d (ap.pd p))<|bE h fun t g h=>kq h (fun a h=>?_) (fun a h=>?_)
   ·refine WO.lg (v:=rB true) (u:=[]) Z Z (fun _=>Z) Z Z Z Z Z (eE g) Z Z (congrArg (fun b=>RV.d (.bool b)) a) Z<|sN<|cT<|gU Z<|sM Z<|sA Z<|sN<|qR ?_
    cases oI h
    exact⟨nofun,rfl,rfl⟩
   refine WO.lg (v:=rB false) (u:=[]) Z Z (fun _=>Z) Z Z Z Z Z (eE g) Z Z (congrArg (fun b=>RV.d (.bool b)) a) Z<|sN<|cF<|qK<|CR Z Z<|sV (rI (rW (s1+(1:Int))))<|sM Z<|sN ?_
   cases oI h
   exact⟨rfl,rfl⟩
  refine sN<|qS<|cF<|qX ?_
  cases oI h
  exact⟨nofun,rfl,rfl⟩
 intro e k j he i
 rcases m with x|n
 ·obtain⟨rfl,c⟩:=i
  refine qE<|gS Z c<|sV (rI (-1))<|sN<|qR ?_
  exact oI h▸qD
 obtain⟨rfl,hf⟩:=i
 cases oI h
 exact hf
theorem fT{d0:(List ap)}{r:(List ap)}(h:bS d0=some r):EvP prog aL ext 72 [.ref 0 0,.d (.raw (.func (.func 74) #[] #[]))] [.arr 0 70 (d0.map ap.pd)] (.ref 0 1,[.arr 1 70 (r.map ap.pd)]):=by
 refine Ev.body Z Tryz.func72 Z Zk<|gU Z<|sV .jt<|sN<|gU Z<|mM Z<|bE h fun u h1 h=>cR (rI u) [ ] (gh h1)<|sA Z<|sN<|qS<|gU Z<|sM Z<|sF h ?_ ?_<;>intro h
 ·refine sN<|cT<|CP (R0:=[(0,.ref 0 1)]) (B0:=[(0,.arr 1 70 (d0.map ap.pd))]) Z Z<|sM Z<|sA Z<|sN<|qR ?_
  exact oI h▸qD
 refine sN<|cF<|qK<|qS<|gU Z<|sM Z<|sV (rI (rW (u+(1:Int))))<|sA Z<|sN<|bE h fun B b h=>CM (CQ (WL.jZ b (fun s=>gI 1 72 5 [(0,.ref 0 0),(1,.d (.raw (.func (.func 74) #[] #[]))),(5,rI s.1),(6,rI s.2.1)] [(0,.arr 0 70 (s.2.2.map ap.pd))]) (fun o=>gX 0 1 72 11 [(0,.ref 0 0),(5,rI o.1)] [(0,.arr 0 70 (o.2.map ap.pd))]) Z ?_ ?_))
 ·rintro⟨C,t,L⟩ x v K q h
  refine qS<|gS Z q<|mM Z<|WO.te Z Z Z Z Z Z Z Z Z<|sF h ?_ ?_<;>intro h
  ·refine sN<|cT<|qK<|qS<|qB<|gU Z<|mM Z<|bE h fun D c h=>WO.ma c Z Z Z Z Z Z Z Z<|bE h fun a f h=>WO.lT f Z Z Z Z Z Z<|sB (.ptr 112 0) 112 (.var [r0,r0])<|sS 112 (.var [rI a.az,rI a.fTo])<|sN ?_
   refine gU Z<|sM Z<|sV (.d (ap.pd a))<|bE h fun E i h=>cD (eE i)<|sF h ?_ ?_<;>intro h
   ·refine sN<|cT<|gU Z<|mM Z<|sV (.d (ap.pd a))<|bE h fun F j h=>WO.ma j Z Z Z Z Z Z Z Z<|bE h fun G k h=>WO.vd (g:=ap.pd) (sz:=2) (p:=ap.pd a) k (fun _=>Z) (fun _=>Z) Z Z Z Z Z Z Z Z Z<|sN<|CR Z Z<|sM Z<|sV (rI (rW (C+(1:Int))))<|sA Z ?_
    refine sN<|CR Z Z<|sM Z<|sV (rI (rW (t+(1:Int))))<|sA Z<|sN ?_
    cases oI h
    exact⟨rfl,rfl⟩
   refine sN<|cF<|qK<|CR Z Z<|sM Z<|sV (rI (rW (t+(1:Int))))<|sA Z<|sN ?_
   cases oI h
   exact⟨rfl,rfl⟩
  refine sN<|cF<|qX ?_
  cases oI h
  exact⟨nofun,rfl,rfl⟩
 intro e x v he y
 obtain⟨rfl,q⟩:=y
 refine qE<|gS Z q<|mM Z<|bE h fun H l h=>WO.subR l Z Z Z Z Z Z Z Z Z Z Z Z<|bE h fun I m h=>WO.clearN (z:=(ap.mk 0 0)) (g:=ap.pd) Z Z Z Z Z Z Z (sP m Z) Z Z Z Z<|sN<|gU Z<|mM Z<|bE h fun J n h=>WO.resl n Z Z Z Z Z Z Z Z Z Z Z Z<|sA Z ?_
 refine sN<|qR ?_
 exact oI h▸qD
theorem span_Normal_ev{a0:(List ap)}{r:(List ap)}(h:em a0=some r):EvP prog aL ext 45 [rM ap.pd a0] [] (rM ap.pd r,[]):=by
 refine Ev.body Z Tryz.func45 Z Zk<|gU Z<|sV .jt<|sN<|gU Z<|sM Z<|bE h fun I h1 h=>cR (.ref 144 0) [(144,.arr 0 70 (I.map ap.pd))] (clone_73 h1)<|bE h fun x2 E h=>cR (.ref 144 1) [(144,.arr 1 70 (x2.map ap.pd))] (fT E)<|sA Z<|sN<|gU Z<|sM Z<|bE h fun B F h=>?_
 refine cR (.tup []) [(144,.arr 1 70 (B.map ap.pd))] (sort_76_77 F)<|sN<|gU Z<|sV .jt<|sN<|qS<|gU Z<|sM Z<|WO.te Z Z Z Z Z Z Z Z Z<|sV (r0)<|sN<|bE h fun H c h=>CM (CQ (WL.jZ c (fun s=>gI 0 45 5 [(4,.ref 816 0),(13,.ref 144 0),(14,rI (B.length:Int)),(15,rI s.1)] [(144,.arr 0 70 (B.map ap.pd)),(816,.arr 0 70 (s.2.map ap.pd))]) (fun o=>gX 0 0 45 12 [(4,.ref 816 0)] [(816,.arr 0 70 (o.map ap.pd))]) Z ?_ ?_))
 ·rintro⟨y,b⟩ D C U x h
  refine gS Z x<|sF h ?_ ?_<;>intro h
  ·refine sN<|qS<|cT<|qK<|qS<|qB<|gU Z<|bE h fun J i h=>WO.ma i Z Z Z Z Z Z Z Z<|bE h fun a j h=>WO.lT j Z Z Z Z Z Z<|sB (.ptr 96 0) 96 (.var [r0,r0])<|sS 96 (.var [rI a.az,rI a.fTo])<|sN<|gU Z ?_
   refine sM Z<|WO.te Z Z Z Z Z Z Z Z Z<|sA Z<|sN<|CN Z Z<|sM Z<|sF h ?_ ?_<;>intro h
   ·refine sM Z<|sV (.ptr 96 0)<|sL Z<|mM Z<|sV (rI (rW ((b.length:Int)-(1:Int))))<|bE h fun K k h=>WO.ma k Z Z Z Z Z Z Z Z<|sV (.elt 816 0 ((rW ((b.length:Int)-(1:Int)))).toNat 1)<|bE h fun z l h=>WO.lT l Z Z Z Z Z Z<|sV (rB (decide (a.az<=z.fTo)))<|sF h ?_ ?_<;>intro h
    ·refine sN<|sO<|cT<|CO Z Z<|mM Z<|sV (rI (rW ((b.length:Int)-(1:Int))))<|mM Z<|sV (rI (rW ((b.length:Int)-(1:Int))))<|bE h fun L m h=>WO.ma m Z Z Z Z Z Z Z Z<|sV (.elt 816 0 ((rW ((b.length:Int)-(1:Int)))).toNat 1)<|bE h fun f n h=>WO.lT n Z Z Z Z Z Z<|sV (.ptr 96 1) ?_
     refine sL Z<|sV (rI (if a.fTo>f.fTo then a.fTo else f.fTo))<|bE h fun N p h=>WO.ma p Z Z Z Z Z Z Z Z<|sV (.elt 816 0 ((rW ((b.length:Int)-(1:Int)))).toNat 1)<|bE h fun O q h=>WO.rk (g:=ap.pd) (u:=[]) (sz:=1) q (fun _=>Z) (fun _=>Nat.le_of_ble_eq_true Z) Z Z Z Z Z Z Z Z Z Z Z ?_
     refine sN<|sO<|CR Z Z<|sV (rI (rW (y+(1:Int))))<|sM Z<|sN ?_
     cases oI h
     exact⟨rfl,rfl⟩
    refine sN<|sO<|cF<|CR Z Z<|sM Z<|sV (.d (ap.pd a))<|sV (.d (.lst ([a].map ap.pd)))<|bE h fun Q t h=>aR t (fun _=>Z) Z<|sA Z<|sN<|CR Z Z<|sV (rI (rW (y+(1:Int))))<|sM Z<|sN ?_
    cases oI h
    exact⟨rfl,rfl⟩
   refine sM Z<|k3<|k3<|k3<|sU ?_
   refine sN<|sO<|cF<|CR Z Z<|sM Z<|sV (.d (ap.pd a))<|sV (.d (.lst ([a].map ap.pd)))<|bE h fun T v h=>aR v (fun _=>Z) Z<|sA Z<|sN<|CR Z Z<|sV (rI (rW (y+(1:Int))))<|sM Z<|sN ?_
   cases oI h
   exact⟨rfl,rfl⟩
  refine sN<|qS<|cF<|qX ?_
  cases oI h
  exact⟨nofun,rfl,rfl⟩
 intro e D C he G
 obtain⟨rfl,x⟩:=G
 refine qE<|gS Z x<|sM Z<|sA Z<|sN<|qR ?_
 exact oI h▸qD
theorem gN{a0:ai}{a1:ac}{r:(List ap)}(h:bO a0 a1=some r):EvP prog aL ext 18 [.d (ai.pd a0),.d (ac.pd a1)] [] (rM ap.pd r,[]):=by
 refine Ev.body Z Tryz.func18 Z Zk<|gU Z<|sB (.ptr 32 0) 32 (.var [rM aa.pd a0.am])<|sB (.ptr 48 0) 48 (.var (ac.rc a1))<|sV .jt<|sN<|qS<|gU Z<|sV (.d (ai.pd a0))<|bE h fun y h1 h=>cD (cK h1)<|sF h ?_ ?_<;>intro h
 ·refine sN<|cT<|gU Z<|sV .jt<|sN<|qR ?_
  exact oI h▸qD
 refine sN<|cF<|qK<|gU Z<|sV .jt<|sN<|gU Z<|sV (.d (ai.pd a0))<|sV (.d (ac.pd a1))<|bE h fun a m h=>cR (.tup [.d (aa.pd a.1),rB a.2]) [] (fj m)<|sM Z<|sV (.d (aa.pd a.1))<|sV (rB a.2)<|sB (.ptr 96 0) 96 (.var zZ2) ?_
 refine sS 96 (.var (aa.rc a.1))<|sA Z<|sN<|qS<|gU Z<|sV (.ptr 96 4)<|sL Z<|sE (rI (a.1.al.length:Int)) (ik _ _)<|sV (r0)<|sN<|bE h fun q c h=>CM (CQ (WL.jZ c (fun s=>gI 0 18 6 [(5,.ref 528 0),(20,rM ah.pd a.1.al),(21,rI (a.1.al.length:Int)),(22,rI s.1)] [(528,.arr 0 70 (s.2.map ap.pd))]) (fun o=>gX 0 0 18 10 [(5,.ref 528 0)] [(528,.arr 0 70 (o.map ap.pd))]) Z ?_ ?_))
 ·rintro⟨t,x⟩ l k v i h
  refine gS Z i<|sF h ?_ ?_<;>intro h
  ·refine sN<|qS<|cT<|qK<|qS<|qB<|gU Z<|bE h fun b n h=>eG n Z<|sV (.d (ah.pd b))<|sB (.ptr 144 0) 144 (.var zZ1)<|sH 144 (.var (ah.rc b))<|sN<|CR Z Z<|sM Z ?_
   refine sV (.ptr 144 0)<|sL Z<|sV (.ptr 144 1)<|sL Z<|sV (.d (ap.pd (ap.mk b.az b.fTo)))<|sV (.d (.lst ([(ap.mk b.az b.fTo)].map ap.pd)))<|bE h fun u f h=>aR f (fun _=>Z) Z<|sA Z<|sN<|CR Z Z<|sV (rI (rW (t+(1:Int))))<|sM Z<|sN ?_
   cases oI h
   exact⟨rfl,rfl⟩
  refine sN<|qS<|cF<|qX ?_
  cases oI h
  exact⟨nofun,rfl,rfl⟩
 intro e l k he p
 obtain⟨rfl,i⟩:=p
 refine qE<|gS Z i<|sM Z<|bE h fun j g h=>cR (rM ap.pd j) [(528,.dead)] (span_Normal_ev g)<|sA Z<|sN<|qR ?_
 exact oI h▸qD
theorem jq{a0:(List ap)}{a1:(List ap)}{r:Bool}(h:eY a0 a1=some r):EvP prog aL ext 17 [rM ap.pd a0,rM ap.pd a1] [] (rB r,[]):=by
 refine Ev.body Z Tryz.func17 Z Zk<|gU Z<|sU<|sN<|qS<|gU Z<|sM Z<|sE (rI (a0.length:Int)) (ik _ _)<|sM Z<|sE (rI (a1.length:Int)) (ik _ _)<|sF h ?_ ?_<;>intro h
 ·refine sN<|cT<|gU Z<|sU<|sN<|qR ?_
  exact oI h▸qD
 refine sN<|cF<|qK<|qS<|gU Z<|sV (r0)<|sN<|bE h fun n c h=>CM (CQ (WL.jZ c (fun s=>gI 0 17 4 [(0,rM ap.pd a0),(1,rM ap.pd a1),(5,rI s)] []) (fun o=>match o with| .inl y=>gX 0 0 17 8 [] []| .inr r=>gF 17 Tryz.f17 0 (rB r,[])) Z ?_ ?_))
 ·rintro s2 k j t b h
  refine qS<|gS Z b<|mM Z<|sE (rI (a0.length:Int)) (ik _ _)<|sF h ?_ ?_<;>intro h
  ·refine sN<|cT<|qK<|qS<|qB<|CN Z Z<|mM Z<|bE h fun f l h=>eG l Z<|sV (.d (ap.pd f))<|mM Z<|bE h fun g m h=>eG m Z ?_
   refine sV (.d (ap.pd g))<|kq h (fun a h=>?_) (fun a h=>?_)
   ·refine WO.mX (eqN_70 f g) a Z Z Z Z Z ?_
    refine sN<|sO<|cT<|gU Z<|sU<|sN<|qR ?_
    cases oI h
    exact⟨nofun,rfl,rfl⟩
   refine WO.mX (eqN_70 f g) a Z Z Z Z Z ?_
   refine sN<|sO<|cF<|qK<|CR Z Z<|sM Z<|sV (rI (rW (s2+(1:Int))))<|sA Z<|sN ?_
   cases oI h
   exact⟨rfl,rfl⟩
  refine sN<|cF<|qX ?_
  cases oI h
  exact⟨nofun,rfl,rfl⟩
 intro e k j he i
 rcases n with q|p
 ·obtain⟨rfl,b⟩:=i
  refine qE<|gS Z b<|sT<|sN<|qR ?_
  exact oI h▸qD
 obtain⟨rfl,hf⟩:=i
 cases oI h
 exact hf
theorem dQ{r:Bool}(h:dA=some r):EvP prog aL ext 5 [] [] (rB r,[]):=by
 refine Ev.body Z Tryz.func5 Z Zk<|gU Z<|sU<|sN<|gU Z<|bE h fun p h1 h=>cD (fp h1)<|sV (rM aa.pd p.am)<|bE h fun x2 k h=>eG k Z<|sV (.cptr [.str x2.aj.aD,.str x2.aj.aC,.str x2.aj.au,.str x2.aj.aF,.lst (x2.al.map ah.pd)])<|sV (.d (ac.pd x2.aj))<|sB (.ptr 16 0) 16 (.var [rS [],rS [],rS [],rS []])<|sS 16 (.var (ac.rc x2.aj))<|sN ?_
 refine CN Z Z<|bE h fun v l h=>cD (fp l)<|sV (.d (ac.pd x2.aj))<|bE h fun a m h=>cR (.tup [.d (ah.pd a.1),rI a.2]) [] (gl m)<|sM Z<|sV (.d (ah.pd a.1))<|sV (rI a.2)<|sB (.ptr 32 0) 32 (.var zZ1)<|sH 32 (.var (ah.rc a.1))<|sA Z ?_
 refine sN<|sO<|CN Z Z<|bE h fun x n h=>cD (fp n)<|sV (.d (ac.pd x2.aj))<|bE h fun b o h=>cR (.tup [.d (ah.pd b.1),rI b.2]) [] (gl o)<|sM Z<|sV (.d (ah.pd b.1))<|sV (rI b.2)<|sB (.ptr 64 0) 64 (.var zZ1)<|sH 64 (.var (ah.rc b.1))<|sA Z ?_
 refine sN<|sO<|CN Z Z<|sM Z<|sF h ?_ ?_<;>intro h
 ·refine sM Z<|sV (.ptr 32 4)<|sV (.ptr 32 4)<|sL Z<|sV (rB (a.1.aq.fX==(5:Int)))<|sF h ?_ ?_<;>intro h
  ·refine mM Z<|sV (rB (b.2==(6:Int)))<|sF h ?_ ?_<;>intro h
   ·refine sM Z<|bE h fun q c h=>cD (fp c)<|bE h fun s e h=>cD (cK e)<|sF h ?_ ?_<;>intro h
    ·refine sM Z<|bE h fun t f h=>cD (fp f)<|sV (.d (ac.pd x2.aj))<|bE h fun u g h=>cD (gN g)<|sV (.d (ap.pd (ap.mk 10 30)))<|sV (.d (.lst ([(ap.mk 10 30)].map ap.pd)))<|bE h fun j i h=>cD (jq i)<|sV (rB j)<|sA Z ?_
     refine sN<|sO<|qR ?_
     exact oI h▸qD
    refine sM Z<|k3<|k3<|sU<|sA Z ?_
    refine sN<|sO<|qR ?_
    exact oI h▸qD
   refine sM Z<|sK<|sK<|sU<|sM Z<|k3<|k3<|sU<|sA Z ?_
   refine sN<|sO<|qR ?_
   exact oI h▸qD
  refine sM Z<|sK<|sK<|sU<|sM Z<|sK<|sK<|sU<|sM Z<|k3<|sK<|sK<|sK ?_
  refine sU<|sA Z ?_
  refine sN<|sO<|qR ?_
  exact oI h▸qD
 refine sM Z<|k3<|sK<|sU<|sM Z<|sK<|sK<|sU<|sM Z<|sK<|sK<|sU<|sM Z ?_
 refine k3<|k3<|sU<|sA Z ?_
 refine sN<|sO<|qR ?_
 exact oI h▸qD
theorem made_Roll_ev{a0:(List Int)}{r:ae}(h:jg a0=some r):EvP prog aL ext 6 [rL a0] [] (.ptr 0 0,[.var (ae.rc r)]):=by
 refine Ev.body Z Tryz.func6 Z Zk<|gU Z<|sV (.d (.raw (.pointer none)))<|sN<|gU Z<|sM Z<|sV (.d (ae.pd (ae.mk a0 0)))<|sB (.ptr 80 0) 80 (.var [rL a0,r0])<|sA Z<|sN<|qR ?_
 exact oI h▸qD
theorem aP{a1:Int}{d0:ae}{r:Int×ae}(h:aN a1 d0=some r):EvP prog aL ext 14 [.ptr 0 0,rI a1] [.var (ae.rc d0)] (rI r.1,[.var (ae.rc r.2)]):=by
 refine Ev.body Z Tryz.func14 Z Zk<|gU Z<|sV (r0)<|sN<|qS<|CN Z Z<|sM Z<|sV (.ptr 0 0)<|sV (.ptr 0 1)<|sL Z<|sM Z<|sV (.ptr 0 0)<|sV (.ptr 0 0)<|sL Z<|sE (rI (d0.fL.length:Int)) (ik _ _) ?_
 refine sF h ?_ ?_<;>intro h
 ·refine sM Z<|sK<|sK<|sT ?_
  refine sN<|sO<|cT<|gU Z<|sV (r0)<|sN<|qR ?_
  exact oI h▸qD
 refine mM Z<|sV (rB (decide (a1<(1:Int))))<|sF h ?_ ?_<;>intro h
 ·refine sN<|sO<|cT<|gU Z<|sV (r0)<|sN<|qR ?_
  exact oI h▸qD
 refine sN<|sO<|cF<|qK<|CN Z Z<|sM Z<|sV (.ptr 0 0)<|sV (.ptr 0 0)<|sL Z<|sM Z<|sV (.ptr 0 0)<|sV (.ptr 0 1)<|sL Z<|bE h fun e a h=>eG a Z<|sC Z ?_
 refine sM Z<|bE h fun c b h=>WO.remG b Z Z Z Z Z Z<|sA Z ?_
 refine sN<|sO<|gU Z<|sM Z<|sV (.ptr 0 0)<|sV (.ptr 0 1)<|sL Z<|sV (rI (rW (d0.fAt+(1:Int))))<|sV (.ptr 0 0)<|sV (.ptr 0 1)<|sS 0 (.var [rL d0.fL,rI (rW (d0.fAt+(1:Int)))])<|sN<|qS<|gU Z<|sM Z<|sF h ?_ ?_<;>intro h
 ·refine sN<|cT<|CR Z Z<|mM Z<|sV (rI (rW (c+a1)))<|sA Z<|sN<|gU Z<|sM Z<|sA Z<|sN<|qR ?_
  exact oI h▸qD
 refine sN<|cF<|qK<|gU Z<|sM Z<|sA Z<|sN<|qR ?_
 exact oI h▸qD
theorem cA{a1:(List Int)}{d0:ae}{r:Int×ae}(h:bK a1 d0=some r):EvP prog aL ext 34 [.ptr 0 0,rL a1] [.var (ae.rc d0)] (rI r.1,[.var (ae.rc r.2)]):=by
 refine Ev.body Z Tryz.func34 Z Zk<|gU Z<|sV (r0)<|sN<|gU Z<|mM Z<|sM Z<|sE (rI (a1.length:Int)) (ik _ _)<|bE h fun a h1 h=>cR (rI a.1) [(0,.var (ae.rc a.2))] (aP h1)<|bE h fun x2 b h=>eG b Z<|sC Z<|sA Z ?_
 refine sN<|qR ?_
 exact oI h▸qD
theorem iR{d0:ae}{r:ac×ae}(h:cZ d0=some r):EvP prog aL ext 13 [.ptr 0 0] [.var (ae.rc d0)] (.d (ac.pd r.1),[.var (ae.rc r.2)]):=by
 refine Ev.body Z Tryz.func13 Z Zk<|gU Z<|sB (.ptr 32 0) 32 (.var [rS [],rS [],rS [],rS []])<|sN<|CN Z Z<|sV (.d (.lst ([[71,82],[88],[55,65]].map PD.str)))<|sM Z<|bE h fun a h1 h=>cR (rI a.1) [(0,.var (ae.rc a.2))] (aP h1)<|bE h fun x2 j h=>eG j Z<|sC Z<|sV (.d (.lst ([[70,85,82],[65],[65,66,67,68,69],[70,85]].map PD.str)))<|sM Z<|bE h fun b k h=>?_
 refine cR (rI b.1) [(0,.var (ae.rc b.2))] (aP k)<|bE h fun c l h=>eG l Z<|sC Z<|sV (.d (.lst ([[],[48,48],[49,48]].map PD.str)))<|sM Z<|bE h fun e m h=>cR (rI e.1) [(0,.var (ae.rc e.2))] (aP m)<|bE h fun f n h=>eG n Z<|sC Z<|sV (.d (.lst ([[72,72,90],[72,72,78],[66,72,90]].map PD.str)))<|sM Z<|bE h fun g o h=>cR (rI g.1) [(0,.var (ae.rc g.2))] (aP o) ?_
 refine bE h fun i p h=>eG p Z<|sC Z<|sV (.d (ac.pd (ac.mk x2 c f i)))<|sS 32 (.var [rS x2,rS c,rS f,rS i]) ?_
 refine sN<|sO<|qR ?_
 exact oI h▸qD
theorem aX{a0:Int}{a1:Int}{a2:Int}{r:Bool}(h:bn a0 a1 a2=some r):EvP prog aL ext 40 [rI a0,rI a1,rI a2] [] (rB r,[]):=by
 refine Ev.body Z Tryz.func40 Z Zk<|gU Z<|sU<|sN<|gU Z<|mM Z<|sF h ?_ ?_<;>intro h
 ·refine mM Z<|sM Z<|sV (rB (decide (a0<=a2)))<|sV (rB (decide (a0<=a2)))<|sA Z<|sN<|qR ?_
  exact oI h▸qD
 refine sM Z<|k3<|sU<|sA Z<|sN<|qR ?_
 exact oI h▸qD
theorem jO{a0:Int}{a1:Int}{r:Int}(h:ip a0 a1=some r):EvP prog aL ext 93 [rI a0,rI a1] [] (rI r,[]):=by
 refine Ev.body Z Tryz.func93 Z Zk<|gU Z<|sV (r0)<|sN<|qS<|bE h fun j b h=>CM (CQ (WL.jZ b (fun s=>gI 0 93 1 [(0,rI s.1),(1,rI s.2)] []) (fun o=>gX 0 0 93 3 [(0,rI o)] []) Z ?_ ?_))
 ·rintro⟨s1,s2⟩ f c k a h
  refine qS<|gS Z a<|sM Z<|sF h ?_ ?_<;>intro h
  ·refine sN<|cT<|qK<|qB<|CO Z Z<|mM Z<|sM Z<|bE h fun l g h=>WO.remG g Z Z Z Z Z Z<|sA Z<|sA Z ?_
   refine sN<|sO ?_
   cases oI h
   exact⟨rfl,rfl⟩
  refine sN<|cF<|qX ?_
  cases oI h
  exact⟨nofun,rfl,rfl⟩
 intro e f c he i
 obtain⟨rfl,a⟩:=i
 refine qE<|gS Z a<|sM Z<|sA Z<|sN<|qR ?_
 exact oI h▸qD
theorem ref02_New_ev{a0:Int}{a1:Int}{r:av×Int}(h:gH a0 a1=some r):EvP prog aL ext 118 [rI a0,rI a1] [] (.tup [.d (av.pd r.1),rI r.2],[]):=by
 refine Ev.body Z Tryz.func118 Z Zk<|gU Z<|sB (.ptr 64 0) 64 (.var [r0,r0])<|sV (r0)<|sN<|qS<|gU Z<|sM Z<|bE h fun j h1 h=>cD (aX h1)<|sF h ?_ ?_<;>intro h
 ·refine sM Z<|k3<|sT<|sN<|cT<|gU Z<|sV (.d (av.pd (av.mk 0 0)))<|sS 64 (.var [r0,r0])<|sV (rI 2)<|sN<|qR ?_
  exact oI h▸qD
 refine mM Z<|bE h fun i c h=>cD (aX c)<|sV (rB (!i))<|sF h ?_ ?_<;>intro h
 ·refine sN<|cT<|gU Z<|sV (.d (av.pd (av.mk 0 0)))<|sS 64 (.var [r0,r0])<|sV (rI 2)<|sN<|qR ?_
  exact oI h▸qD
 refine sN<|cF<|qK<|gU Z<|mM Z<|bE h fun k e h=>cD (jO e)<|sA Z<|sN<|CN Z Z<|mM Z<|bE h fun a f h=>WO.quoG f Z Z Z Z Z Z ?_
 refine mM Z<|bE h fun b g h=>WO.quoG g Z Z Z Z Z Z<|sV (.d (av.pd (av.mk a b)))<|sS 64 (.var [rI a,rI b])<|sV (r0) ?_
 refine sN<|sO<|qR ?_
 exact oI h▸qD
theorem Dice_Rate_ev{d0:ae}{r:av×ae}(h:jc d0=some r):EvP prog aL ext 96 [.ptr 0 0] [.var (ae.rc d0)] (.d (av.pd r.1),[.var (ae.rc r.2)]):=by
 refine Ev.body Z Tryz.func96 Z Zk<|gU Z<|sB (.ptr 32 0) 32 (.var [r0,r0])<|sN<|gU Z<|sM Z<|sG (.d (.lst ([1,3,20,100,40,4096,7].map (PD.int .i64))))<|bE h fun b h1 h=>cR (rI b.1) [(0,.var (ae.rc b.2))] (cA h1)<|sM Z<|sV (.d (.lst ([1,1,1,3,7,4096].map (PD.int .i64))))<|bE h fun x2 c h=>cR (rI x2.1) [(0,.var (ae.rc x2.2))] (cA c)<|bE h fun a e h=>cR (.tup [.d (av.pd a.1),rI a.2]) [] (ref02_New_ev e) ?_
 refine sM Z<|sV (.d (av.pd a.1))<|sV (rI a.2)<|sB (.ptr 48 0) 48 (.var [r0,r0])<|sS 48 (.var (av.rc a.1))<|sA Z<|sN<|gU Z<|sV (.d (av.pd a.1))<|sS 32 (.var (av.rc a.1))<|sN<|qR ?_
 exact oI h▸qD
theorem Dice_Stage_ev{d0:ae}{r:ak×ae}(h:iw d0=some r):EvP prog aL ext 98 [.ptr 0 0] [.var (ae.rc d0)] (.d (ak.pd r.1),[.var (ae.rc r.2)]):=by
 refine Ev.body Z Tryz.func98 Z Zk<|gU Z<|sB (.ptr 32 0) 32 (.var zZ0)<|sN<|qS<|gU Z<|sM Z<|bE h fun K h1 h=>cR (rI K.1) [(0,.var (ae.rc K.2))] (aP h1)<|sN<|qB<|gU Z<|sF h ?_ ?_<;>intro h
 ·refine sA Z<|sN<|cT<|gU Z<|sM Z<|bE h fun j O h=>cR (rI j.1) [(0,.var (ae.rc j.2))] (aP O)<|sV (rI (rW ((1:Int)+j.1)))<|sV (.d (aK.pd (aK.mk (rW ((1:Int)+j.1)) 0 0)))<|sM Z<|bE h fun k Q h=>cR (rI k.1) [(0,.var (ae.rc k.2))] (aP Q)<|sV (rI (rW ((1:Int)+k.1)))<|sV (.d (aK.pd (aK.mk (rW ((1:Int)+k.1)) 0 0)))<|sG (.agg [r0,rI (rW ((1:Int)+j.1)),r0,r0,rI (rW ((1:Int)+k.1)),r0,r0,.jt,r0,r0]) ?_
  refine sH 32 (.var [r0,rI (rW ((1:Int)+j.1)),r0,r0,rI (rW ((1:Int)+k.1)),r0,r0,.jt,r0,r0])<|sN<|qR ?_
  cases oI h
  exact qG
 refine sA Z<|sN<|cF<|gU Z<|sF h ?_ ?_<;>intro h
 ·refine sA Z<|sN<|cT<|gU Z<|sM Z<|bE h fun l T h=>cR (rI l.1) [(0,.var (ae.rc l.2))] (aP T)<|sV (rI (rW (l.1-(4:Int))))<|sM Z<|bE h fun m U h=>cR (rI m.1) [(0,.var (ae.rc m.2))] (aP U)<|sV (rI (rW (m.1-(4:Int))))<|sM Z<|bE h fun t W h=>cR (rI t.1) [(0,.var (ae.rc t.2))] (aP W) ?_
  refine sV (.d (aK.pd (aK.mk (rW (l.1-(4:Int))) (rW (m.1-(4:Int))) t.1)))<|sM Z<|sV (.d (.lst ([1,2, -3,1048576].map (PD.int .i64))))<|bE h fun u X h=>cR (rI u.1) [(0,.var (ae.rc u.2))] (cA X)<|sM Z<|bE h fun c v h=>cR (rI c.1) [(0,.var (ae.rc c.2))] (aP v)<|sV (rI (rW (c.1-(4:Int))))<|sM Z<|sV (.d (.lst ([0,1,1048576].map (PD.int .i64))))<|bE h fun f x h=>cR (rI f.1) [(0,.var (ae.rc f.2))] (cA x)<|sV (.d (aK.pd (aK.mk u.1 (rW (c.1-(4:Int))) f.1)))<|sG (.agg [rI 1,rI (rW (l.1-(4:Int))),rI (rW (m.1-(4:Int))),rI t.1,rI u.1,rI (rW (c.1-(4:Int))),rI f.1,.jt,r0,r0]) ?_
  refine sH 32 (.var [rI 1,rI (rW (l.1-(4:Int))),rI (rW (m.1-(4:Int))),rI t.1,rI u.1,rI (rW (c.1-(4:Int))),rI f.1,.jt,r0,r0])<|sN<|qR ?_
  cases oI h
  exact qG
 refine sA Z<|sN<|cF<|qK<|gU Z<|sM Z<|bE h fun g y h=>cR (rI g.1) [(0,.var (ae.rc g.2))] (aP y)<|sV (rI (rW ((1:Int)+g.1)))<|sB (.ref 704 0) 704 (.arr 0 3 ([(rW ((1:Int)+g.1))].map (PD.int .i64)))<|sM Z<|sV (.d (.lst ([1,1,2,5].map (PD.int .i64))))<|bE h fun a z h=>cR (rI a.1) [(0,.var (ae.rc a.2))] (cA z)<|sM Z ?_
 refine bE h fun b B h=>cR (rI b.1) [(0,.var (ae.rc b.2))] (aP B)<|sG (.agg [rI 2,r0,r0,r0,r0,r0,r0,.ref 704 0,rI a.1,rI b.1])<|sB (.ptr 48 0) 48 (.var zZ0)<|sH 48 (.var [rI 2,r0,r0,r0,r0,r0,r0,.ref 704 0,rI a.1,rI b.1])<|sN<|qS<|gU Z<|sM Z<|bE h fun p C h=>cR (rI p.1) [(0,.var (ae.rc p.2))] (aP C)<|sA Z<|sN<|bE h fun a4 n h=>CM (CQ (WL.jZ n (fun s=>gI 1 98 8 [(0,.ptr 0 0),(2,.ptr 32 0),(3,.ptr 48 0),(4,rI s.1)] [(0,.var [rL s.2.1,rI s.2.2.1]),(32,.var zZ0),(48,.var [rI 2,r0,r0,r0,r0,r0,r0,.ref 90128 0,rI a.1,rI b.1]),(90128,.arr 0 3 (s.2.2.2.map (PD.int .i64)))]) (fun o=>gX 1 1 98 12 [(0,.ptr 0 0),(2,.ptr 32 0),(3,.ptr 48 0)] [(0,.var [rL o.1,rI o.2.1]),(32,.var zZ0),(48,.var [rI 2,r0,r0,r0,r0,r0,r0,.ref 90128 0,rI a.1,rI b.1]),(90128,.arr 0 3 (o.2.2.map (PD.int .i64)))]) Z ?_ ?_))
 ·rintro⟨J,a9,b0,b1⟩ N L a5 I h
  refine qS<|gS Z I<|sM Z<|sF h ?_ ?_<;>intro h
  ·refine sN<|cT<|qK<|qS<|qB<|gU Z<|sM Z<|bE h fun i D h=>cR (rI i.1) [(0,.var (ae.rc i.2))] (aP D)<|sA Z<|sN<|CR Z Z<|sM Z<|sB (.ref 960 0) 960 (.arr 0 3 ([i.1].map (PD.int .i64)))<|sV (.ptr 48 7) ?_
   refine sL Z<|bE h fun b2 E h=>WO.appRG E (fun _=>Z) Z Z Z Z Z Z Z Z Z Z Z Z Z Z Z<|sM Z<|sV (.d (.lst ([i.1].map (PD.int .i64))))<|bE h fun b3 F h=>aR F (fun _=>Z) Z<|sV (.ptr 48 7)<|sS 48 (.var [rI 2,r0,r0,r0,r0,r0,r0,.ref 960 2,rI a.1,rI b.1])<|sN<|CR Z Z<|sM Z<|sV (rI (rW (J-(1:Int))))<|sA Z<|sN ?_
   cases oI h
   exact⟨rfl,rfl⟩
  refine sN<|cF<|qX ?_
  cases oI h
  exact⟨nofun,rfl,rfl⟩
 intro e N L he Y
 obtain⟨rfl,I⟩:=Y
 refine qE<|qS<|gS Z I<|sM Z<|bE h fun q G h=>cR (rI q.1) [(0,.var (ae.rc q.2))] (aP G)<|sF h ?_ ?_<;>intro h
 ·refine sN<|cT<|CR Z Z<|sV (.ptr 48 7)<|sL Z<|sV (.d (.lst ([3].map (PD.int .i64))))<|bE h fun b4 H h=>aR H (fun _=>Z) Z<|sV (.ptr 48 7)<|sS 48 (.var [rI 2,r0,r0,r0,r0,r0,r0,.ref 90128 1,rI a.1,rI b.1])<|sN<|gU Z<|sV (.agg [rI 2,r0,r0,r0,r0,r0,r0,.ref 90128 1,rI a.1,rI b.1])<|sH 32 (.var [rI 2,r0,r0,r0,r0,r0,r0,.ref 90128 1,rI a.1,rI b.1])<|sN ?_
  refine qR ?_
  cases oI h
  exact qG
 refine sN<|cF<|qK<|gU Z<|sV (.agg [rI 2,r0,r0,r0,r0,r0,r0,.ref 90128 0,rI a.1,rI b.1])<|sH 32 (.var [rI 2,r0,r0,r0,r0,r0,r0,.ref 90128 0,rI a.1,rI b.1])<|sN<|qR ?_
 cases oI h
 exact qG
theorem ig{d0:ae}{r:ar×ae}(h:eF d0=some r):EvP prog aL ext 64 [.ptr 0 0] [.var (ae.rc d0)] (.d (ar.pd r.1),[.var (ae.rc r.2)]):=by
 refine Ev.body Z Tryz.func64 Z Zk<|gU Z<|sB (.ptr 32 0) 32 (.var [.jt])<|sN<|gU Z<|sB (.ptr 48 0) 48 (.var [.jt])<|sN<|gU Z<|sV (rI 1)<|sN<|qS<|gU Z<|sM Z<|bE h fun k h1 h=>cR (rI k.1) [(0,.var (ae.rc k.2))] (aP h1) ?_
 refine sA Z<|sN<|bE h fun p b h=>CM (CQ (WL.jZ b (fun s=>gI 1 64 4 [(0,.ptr 0 0),(2,.ptr 32 0),(3,.ptr 48 0),(4,rI s.1),(5,rI s.2.1)] [(0,.var [rL s.2.2.1,rI s.2.2.2.1]),(32,.var [.jt]),(48,.var [.ref 448 0]),(448,.arr 0 84 (s.2.2.2.2.map ak.pd))]) (fun o=>gX 0 1 64 11 [(2,.ptr 32 0),(3,.ptr 48 0)] [(0,.var [rL o.1,rI o.2.1]),(32,.var [.jt]),(48,.var [.ref 448 0]),(448,.arr 0 84 (o.2.2.map ak.pd))]) Z ?_ ?_))
 ·rintro⟨s2,j,v,x,y⟩ m l q i h
  refine qS<|gS Z i<|sM Z<|sF h ?_ ?_<;>intro h
  ·refine sN<|cT<|qK<|qS<|qB<|gU Z<|sM Z<|bE h fun a c h=>cR (.d (ak.pd a.1)) [(0,.var (ae.rc a.2))] (Dice_Stage_ev c)<|sB (.ptr 96 0) 96 (.var zZ0)<|sH 96 (.var (ak.rc a.1))<|sN<|qS<|gU Z<|sV (.ptr 96 0) ?_
   refine sL Z<|sF h ?_ ?_<;>intro h
   ·refine sN<|cT<|gU Z<|sM Z<|sV (.ptr 96 8)<|sL Z<|sV (rI (rW (s2*a.1.aJ)))<|sA Z<|sN<|gU Z<|sM Z<|sF h ?_ ?_<;>intro h
    ·refine sN<|cT<|qX<|⟨fun he=>(by cases he),fun _=>?_⟩
     cases oI h
     exact⟨nofun,rfl,rfl⟩
    refine sN<|cF<|qK<|CR Z Z<|sV (.ptr 48 0)<|sL Z<|sV (.d (ak.pd a.1))<|sG (.d (.lst ([a.1].map ak.pd)))<|bE h fun t f h=>aR f (fun _=>Z) Z<|sV (.ptr 48 0)<|sS 48 (.var [.ref 448 1])<|sN<|CR Z Z<|sM Z ?_
    refine sV (rI (rW (j-(1:Int))))<|sA Z<|sN ?_
    cases oI h
    exact⟨rfl,rfl⟩
   refine sN<|cF<|qK<|CR Z Z<|sV (.ptr 48 0)<|sL Z<|sV (.d (ak.pd a.1))<|sG (.d (.lst ([a.1].map ak.pd)))<|bE h fun u g h=>aR g (fun _=>Z) Z<|sV (.ptr 48 0)<|sS 48 (.var [.ref 448 1])<|sN<|CR Z Z<|sM Z ?_
   refine sV (rI (rW (j-(1:Int))))<|sA Z<|sN ?_
   cases oI h
   exact⟨rfl,rfl⟩
  refine sN<|cF<|qX ?_
  cases oI h
  exact⟨nofun,rfl,rfl⟩
 intro e m l he n
 obtain⟨rfl,i⟩:=n
 refine qE<|gS Z i<|sV (.agg [.ref 448 0])<|sS 32 (.var [.ref 448 0])<|sN<|qR ?_
 exact oI h▸qD
theorem Dice_Epoch_ev{d0:ae}{r:ah×ae}(h:iv d0=some r):EvP prog aL ext 62 [.ptr 0 0] [.var (ae.rc d0)] (.d (ah.pd r.1),[.var (ae.rc r.2)]):=by
 refine Ev.body Z Tryz.func62 Z Zk<|gU Z<|sB (.ptr 32 0) 32 (.var zZ1)<|sN<|gU Z<|sM Z<|bE h fun a h1 h=>cR (rI a.1) [(0,.var (ae.rc a.2))] (aP h1)<|sV (rI (rW ((1000:Int)*a.1)))<|sV (rI (rW ((1000000000000:Int)+(rW ((1000:Int)*a.1)))))<|sA Z<|sN<|gU Z<|sM Z<|bE h fun x2 j h=>?_
 refine cR (.d (av.pd x2.1)) [(0,.var (ae.rc x2.2))] (Dice_Rate_ev j)<|sB (.ptr 64 0) 64 (.var [r0,r0])<|sS 64 (.var (av.rc x2.1))<|sN<|CN Z Z<|mM Z<|sM Z<|bE h fun b k h=>cR (rI b.1) [(0,.var (ae.rc b.2))] (aP k)<|sV (rI (rW ((1:Int)+b.1)))<|sV (rI (rW ((1000:Int)*(rW ((1:Int)+b.1)))))<|sV (rI (rW ((rW ((1000000000000:Int)+(rW ((1000:Int)*a.1))))+(rW ((1000:Int)*(rW ((1:Int)+b.1)))))))<|sV (.d (av.pd x2.1))<|sM Z ?_
 refine sV (.d (.lst ([0,500, -1048576,1048576].map (PD.int .i64))))<|bE h fun c l h=>cR (rI c.1) [(0,.var (ae.rc c.2))] (cA l)<|sM Z<|bE h fun e m h=>cR (rI e.1) [(0,.var (ae.rc e.2))] (aP m)<|sM Z<|sV (.d (.lst ([0, -200, -16384].map (PD.int .i64))))<|bE h fun f n h=>cR (rI f.1) [(0,.var (ae.rc f.2))] (cA n)<|sV (.d (aw.pd (aw.mk c.1 e.1 f.1)))<|sG (.agg (rI (rW ((1000000000000:Int)+(rW ((1000:Int)*a.1))))::rI (rW ((rW ((1000000000000:Int)+(rW ((1000:Int)*a.1))))+(rW ((1000:Int)*(rW ((1:Int)+b.1))))))::av.rc x2.1++[rI c.1,rI e.1,rI f.1,.jt]))<|sB (.ptr 80 0) 80 (.var zZ1)<|sH 80 (.var (rI (rW ((1000000000000:Int)+(rW ((1000:Int)*a.1))))::rI (rW ((rW ((1000000000000:Int)+(rW ((1000:Int)*a.1))))+(rW ((1000:Int)*(rW ((1:Int)+b.1))))))::av.rc x2.1++[rI c.1,rI e.1,rI f.1,.jt])) ?_
 refine sN<|sO<|qS<|gU Z<|sM Z<|bE h fun i o h=>cR (rI i.1) [(0,.var (ae.rc i.2))] (aP o)<|sF h ?_ ?_<;>intro h
 ·refine sN<|cT<|CR Z Z<|sM Z<|bE h fun g p h=>cR (.d (ar.pd g.1)) [(0,.var (ae.rc g.2))] (ig p)<|sV (.ptr 80 7)<|sS 80 (.var (rI (rW ((1000000000000:Int)+(rW ((1000:Int)*a.1))))::rI (rW ((rW ((1000000000000:Int)+(rW ((1000:Int)*a.1))))+(rW ((1000:Int)*(rW ((1:Int)+b.1))))))::av.rc x2.1++[rI c.1,rI e.1,rI f.1,rM ak.pd g.1.aA]))<|sN<|gU Z<|sV (.d (.agg [.int .i64 (rW ((1000000000000:Int)+(rW ((1000:Int)*a.1)))),.int .i64 (rW ((rW ((1000000000000:Int)+(rW ((1000:Int)*a.1))))+(rW ((1000:Int)*(rW ((1:Int)+b.1)))))),.int .i64 x2.1.aI,.int .i64 x2.1.aH,.int .i64 c.1,.int .i64 e.1,.int .i64 f.1,.lst (g.1.aA.map ak.pd)]))<|sH 32 (.var (rI (rW ((1000000000000:Int)+(rW ((1000:Int)*a.1))))::rI (rW ((rW ((1000000000000:Int)+(rW ((1000:Int)*a.1))))+(rW ((1000:Int)*(rW ((1:Int)+b.1))))))::av.rc x2.1++[rI c.1,rI e.1,rI f.1,rM ak.pd g.1.aA]))<|sN<|qR ?_
  cases oI h
  exact qG
 refine sN<|cF<|qK<|gU Z<|sV (.agg (rI (rW ((1000000000000:Int)+(rW ((1000:Int)*a.1))))::rI (rW ((rW ((1000000000000:Int)+(rW ((1000:Int)*a.1))))+(rW ((1000:Int)*(rW ((1:Int)+b.1))))))::av.rc x2.1++[rI c.1,rI e.1,rI f.1,.jt]))<|sH 32 (.var (rI (rW ((1000000000000:Int)+(rW ((1000:Int)*a.1))))::rI (rW ((rW ((1000000000000:Int)+(rW ((1000:Int)*a.1))))+(rW ((1000:Int)*(rW ((1:Int)+b.1))))))::av.rc x2.1++[rI c.1,rI e.1,rI f.1,.jt]))<|sN<|qR ?_
 cases oI h
 exact qG
theorem ref18_Copy_ev{a0:ar}{r:ar}(h:gP a0=some r):EvP prog aL ext 97 [.d (ar.pd a0)] [] (.d (ar.pd r),[]):=by
 refine Ev.body Z Tryz.func97 Z Zk<|gU Z<|sB (.ptr 16 0) 16 (.var [rM ak.pd a0.aA])<|sB (.ptr 32 0) 32 (.var [.jt])<|sN<|gU Z<|sB (.ptr 48 0) 48 (.var [.jt])<|sN<|qS<|gU Z<|sV (r0)<|sN<|bE h fun m b h=>CM (CQ (WL.jZ b (fun s=>gI 0 97 3 [(1,.ptr 16 0),(2,.ptr 32 0),(3,.ptr 48 0),(4,rI s.1)] [(16,.var [rM ak.pd a0.aA]),(32,.var [.jt]),(48,.var [.ref 416 0]),(416,.arr 0 84 (s.2.map ak.pd))]) (fun o=>gX 0 0 97 8 [(2,.ptr 32 0),(3,.ptr 48 0)] [(32,.var [.jt]),(48,.var [.ref 416 0]),(416,.arr 0 84 (o.map ak.pd))]) Z ?_ ?_))
 ·rintro⟨s1,s2⟩ g f p c h
  refine qS<|gS Z c<|sM Z<|sV (.ptr 16 0)<|sL Z<|sE (rI (a0.aA.length:Int)) (ik _ _)<|sF h ?_ ?_<;>intro h
  ·refine sN<|cT<|qK<|qS<|qB<|gU Z<|sV (.ptr 16 0)<|sL Z<|sM Z<|bE h fun a i h=>eG i Z<|sV (.d (ak.pd a))<|sB (.ptr 80 0) 80 (.var zZ0)<|sH 80 (.var (ak.rc a))<|sN ?_
   refine gU Z<|sV (.ptr 80 7)<|sL Z<|bE h fun n j h=>WO.appN j (fun _=>Z) Z Z Z Z Z Z Z Z Z Z Z Z Z Z<|sV (.ptr 80 7)<|sS 80 (.var [rI a.aQ,rI a.aI.a0,rI a.aI.a1,rI a.aI.a2,rI a.aH.a0,rI a.aH.a1,rI a.aH.a2,.ref 320 0,rI a.aJ,rI a.aS])<|sN<|CR Z Z<|sV (.ptr 48 0)<|sL Z<|sV (.agg [rI a.aQ,rI a.aI.a0,rI a.aI.a1,rI a.aI.a2,rI a.aH.a0,rI a.aH.a1,rI a.aH.a2,.ref 320 0,rI a.aJ,rI a.aS])<|sB (.d (.lst [ak.pd (ak.mk a.aQ a.aI a.aH n a.aJ a.aS)])) 320 .dead<|bE h fun q k h=>aR k (fun _=>Z) Z ?_
   refine sV (.ptr 48 0)<|sS 48 (.var [.ref 416 1])<|sN<|CR Z Z<|sM Z<|sV (rI (rW (s1+(1:Int))))<|sA Z<|sN ?_
   cases oI h
   exact⟨rfl,rfl⟩
  refine sN<|cF<|qX ?_
  cases oI h
  exact⟨nofun,rfl,rfl⟩
 intro e g f he l
 obtain⟨rfl,c⟩:=l
 refine qE<|gS Z c<|sV (.agg [.ref 416 0])<|sS 32 (.var [.ref 416 0])<|sN<|qR ?_
 exact oI h▸qD
theorem e9{a0:ah}{r:ah}(h:cx a0=some r):EvP prog aL ext 63 [.d (ah.pd a0)] [] (.d (ah.pd r),[]):=by
 refine Ev.body Z Tryz.func63 Z Zk<|gU Z<|sB (.ptr 16 0) 16 (.var (ah.rc a0))<|sB (.ptr 32 0) 32 (.var zZ1)<|sN<|gU Z<|sV (.ptr 16 7)<|sV (.d (ar.pd a0.aB))<|bE h fun a h1 h=>cD (ref18_Copy_ev h1)<|sV (.ptr 16 7)<|sS 16 (.var (rI a0.az::rI a0.fTo::av.rc a0.aM++aw.rc a0.aq++[rM ak.pd a.aA]))<|sN<|gU Z<|sV (.d (.agg [.int .i64 a0.az,.int .i64 a0.fTo,.int .i64 a0.aM.aI,.int .i64 a0.aM.aH,.int .i64 a0.aq.fX,.int .i64 a0.aq.fY,.int .i64 a0.aq.fZ,.lst (a.aA.map ak.pd)])) ?_
 refine sH 32 (.var (rI a0.az::rI a0.fTo::av.rc a0.aM++aw.rc a0.aq++[rM ak.pd a.aA]))<|sN<|qR ?_
 cases oI h
 exact qG
theorem Dice_Change_ev{a1:ai}{d0:ae}{r:aG×ae}(h:hC a1 d0=some r):EvP prog aL ext 32 [.ptr 0 0,.d (ai.pd a1)] [.var (ae.rc d0)] (.d (aG.pd r.1),[.var (ae.rc r.2)]):=by
 refine Ev.body Z Tryz.func32 Z Zk<|gU Z<|sB (.ptr 48 0) 48 (.var [rM aa.pd a1.am])<|sB (.ptr 64 0) 64 (.var [r0,rS [],rS [],rS [],rS [],r0,r0,r0,r0,r0,r0,r0,r0,.jt])<|sN<|gU Z<|sM Z<|sV (.d (.lst ([0,0,1,2].map (PD.int .i64))))<|bE h fun f h1 h=>cR (rI f.1) [(0,.var (ae.rc f.2))] (cA h1)<|sM Z<|bE h fun x2 Q h=>cR (.d (ac.pd x2.1)) [(0,.var (ae.rc x2.2))] (iR Q)<|sG (.agg (rI f.1::ac.rc x2.1++[r0,r0,r0,r0,r0,r0,r0,r0,.jt]))<|sB (.ptr 80 0) 80 (.var [r0,rS [],rS [],rS [],rS [],r0,r0,r0,r0,r0,r0,r0,r0,.jt]) ?_
 refine sH 80 (.var (rI f.1::ac.rc x2.1++[r0,r0,r0,r0,r0,r0,r0,r0,.jt]))<|sN<|WC.join (α:=(List Int)×Int×Int×Int×Int×Int×Int×Int×Int×Int×(List ak)) (fun x O N=>kx prog 1 (A O N) (aL.at_ 32 1 5)=some (A [(0,.ptr 0 0),(3,.ptr 48 0),(4,.ptr 64 0),(5,.ptr 80 0)] [(0,.var [rL x.1,rI x.2.1]),(48,.var [rM aa.pd a1.am]),(64,.var [r0,rS [],rS [],rS [],rS [],r0,r0,r0,r0,r0,r0,r0,r0,.jt]),(80,.var (rI f.1::ac.rc x2.1++[rI x.2.2.1,rI x.2.2.2.1,rI x.2.2.2.2.1,rI x.2.2.2.2.2.1,rI x.2.2.2.2.2.2.1,rI x.2.2.2.2.2.2.2.1,rI x.2.2.2.2.2.2.2.2.1,rI x.2.2.2.2.2.2.2.2.2.1,rM ak.pd x.2.2.2.2.2.2.2.2.2.2]))])) (fun x=>dI a1 f x2 x.1 x.2.1 x.2.2.1 x.2.2.2.1 x.2.2.2.2.1 x.2.2.2.2.2.1 x.2.2.2.2.2.2.1 x.2.2.2.2.2.2.2.1 x.2.2.2.2.2.2.2.2.1 x.2.2.2.2.2.2.2.2.2.1 x.2.2.2.2.2.2.2.2.2.2=some r) ?_ ?_
 ·refine gU Z<|sV (.ptr 80 0)<|sL Z<|sF h ?_ ?_<;>intro h
  ·refine sN<|cT<|gU Z<|sM Z<|bE h fun e L h=>cR (.d (ah.pd e.1)) [(0,.var (ae.rc e.2))] (Dice_Epoch_ev L)<|sV (.ptr 80 6)<|sH 80 (.var (rI f.1::ac.rc x2.1++r0::ah.rc e.1))<|sN<|CR Z Z<|sV (.ptr 80 6)<|sV (.ptr 80 6)<|sL Z<|sV (.ptr 80 5)<|sS 80 (.var (rI f.1::ac.rc x2.1++rI e.1.az::ah.rc e.1)) ?_
   exact sN<|⟨(e.2.fL,e.2.fAt,e.1.az,e.1.az,e.1.fTo,e.1.aM.aI,e.1.aM.aH,e.1.aq.fX,e.1.aq.fY,e.1.aq.fZ,e.1.aB.aA),rfl,h⟩
  exact sN<|cF<|qK<|⟨(x2.2.fL,x2.2.fAt,0,0,0,0,0,0,0,0,[]),rfl,h⟩
 rintro⟨U,W,q,g,i,j,k,l,m,n,o⟩ O N T h
 refine qS<|gS Z T<|sV (.ptr 48 0)<|sL Z<|sE (rI (a1.am.length:Int)) (ik _ _)<|sA Z<|sN<|gU Z<|sM Z<|sF h ?_ ?_<;>intro h
 ·refine mM Z<|bE h fun t B h=>cR (rI t.1) [(0,.var (ae.rc t.2))] (aP B)<|sV (rB (decide (t.1>(0:Int))))<|sF h ?_ ?_<;>intro h
  ·refine sN<|cT<|CN Z Z<|sV (.ptr 48 0)<|sL Z<|mM Z<|bE h fun v C h=>cR (rI v.1) [(0,.var (ae.rc v.2))] (aP C)<|bE h fun b D h=>eG D Z<|sV (.d (aa.pd b))<|sB (.ptr 112 0) 112 (.var zZ2)<|sS 112 (.var (aa.rc b)) ?_
   refine sN<|sO<|gU Z<|sV (.ptr 112 0)<|sV (.d (ac.pd b.aj))<|sV (.ptr 80 1)<|sS 80 (.var (rI f.1::ac.rc b.aj++[rI q,rI g,rI i,rI j,rI k,rI l,rI m,rI n,rM ak.pd o]))<|sN<|gU Z<|sV (.ptr 80 0)<|sL Z<|sF h ?_ ?_<;>intro h
   ·refine sN<|cT<|CN Z Z<|sV (.ptr 112 4)<|sL Z<|sM Z<|sV (.ptr 112 4)<|sL Z<|sE (rI (b.al.length:Int)) (ik _ _)<|bE h fun y E h=>cR (rI y.1) [(0,.var (ae.rc y.2))] (aP E)<|bE h fun c F h=>eG F Z<|sV (.d (ah.pd c))<|sB (.ptr 128 0) 128 (.var zZ1) ?_
    refine sH 128 (.var (ah.rc c)) ?_
    refine sN<|sO<|gU Z<|sV (.ptr 128 0)<|sL Z<|sV (.ptr 80 5)<|sS 80 (.var (rI f.1::ac.rc b.aj++[rI c.az,rI g,rI i,rI j,rI k,rI l,rI m,rI n,rM ak.pd o]))<|sN<|gU Z<|sV (.ptr 80 0)<|sL Z<|sF h ?_ ?_<;>intro h
    ·refine mM Z<|bE h fun u G h=>cR (rI u.1) [(0,.var (ae.rc u.2))] (aP G)<|sV (rB (decide (u.1>(0:Int))))<|sF h ?_ ?_<;>intro h
     ·refine sN<|cT<|gU Z<|sV (.d (ah.pd c))<|bE h fun a H h=>cD (e9 H)<|sB (.ptr 144 0) 144 (.var zZ1)<|sH 144 (.var (ah.rc a))<|sN<|qS<|gU Z<|sM Z<|bE h fun z I h=>cR (rI z.1) [(0,.var (ae.rc z.2))] (aP I)<|sN ?_
      refine qB<|gU Z<|sF h ?_ ?_<;>intro h
      ·refine sA Z<|sN<|cT<|CO Z Z<|sV (.ptr 144 1)<|sL Z<|sM Z<|sV (.d (.lst ([-1,500,3000].map (PD.int .i64))))<|bE h fun p J h=>cR (rI p.1) [(0,.var (ae.rc p.2))] (cA J)<|sV (rI (rW (a.fTo+p.1)))<|sV (.ptr 144 1)<|sS 144 (.var (rI a.az::rI (rW (a.fTo+p.1))::av.rc a.aM++aw.rc a.aq++[rM ak.pd a.aB.aA])) ?_
       refine sN<|sO<|CR Z Z<|sV (.d (.agg [.int .i64 a.az,.int .i64 (rW (a.fTo+p.1)),.int .i64 a.aM.aI,.int .i64 a.aM.aH,.int .i64 a.aq.fX,.int .i64 a.aq.fY,.int .i64 a.aq.fZ,.lst (a.aB.aA.map ak.pd)]))<|sV (.ptr 80 6)<|sH 80 (.var (rI f.1::ac.rc b.aj++rI c.az::rI a.az::rI (rW (a.fTo+p.1))::av.rc a.aM++aw.rc a.aq++[rM ak.pd a.aB.aA]))<|sN<|gU Z<|sV (.d (.agg [.int .i64 f.1,.str b.aj.aD,.str b.aj.aC,.str b.aj.au,.str b.aj.aF,.int .i64 c.az,.int .i64 a.az,.int .i64 (rW (a.fTo+p.1)),.int .i64 a.aM.aI,.int .i64 a.aM.aH,.int .i64 a.aq.fX,.int .i64 a.aq.fY,.int .i64 a.aq.fZ,.lst (a.aB.aA.map ak.pd)]))<|sH 64 (.var (rI f.1::ac.rc b.aj++rI c.az::rI a.az::rI (rW (a.fTo+p.1))::av.rc a.aM++aw.rc a.aq++[rM ak.pd a.aB.aA]))<|sN<|qR ?_
       cases oI h
       exact qG
      refine sA Z<|sN<|cF<|gU Z<|sF h ?_ ?_<;>intro h
      ·refine sA Z<|sN<|cT<|CR Z Z<|sV (.ptr 144 4)<|sV (.ptr 144 4)<|sS 144 (.var (rI a.az::rI a.fTo::av.rc a.aM++[rI 77,rI a.aq.fY,rI a.aq.fZ,rM ak.pd a.aB.aA]))<|sN<|CR Z Z<|sV (.d (.agg [.int .i64 a.az,.int .i64 a.fTo,.int .i64 a.aM.aI,.int .i64 a.aM.aH,.int .i64 77,.int .i64 a.aq.fY,.int .i64 a.aq.fZ,.lst (a.aB.aA.map ak.pd)]))<|sV (.ptr 80 6)<|sH 80 (.var (rI f.1::ac.rc b.aj++rI c.az::rI a.az::rI a.fTo::av.rc a.aM++[rI 77,rI a.aq.fY,rI a.aq.fZ,rM ak.pd a.aB.aA]))<|sN<|gU Z<|sV (.d (.agg [.int .i64 f.1,.str b.aj.aD,.str b.aj.aC,.str b.aj.au,.str b.aj.aF,.int .i64 c.az,.int .i64 a.az,.int .i64 a.fTo,.int .i64 a.aM.aI,.int .i64 a.aM.aH,.int .i64 77,.int .i64 a.aq.fY,.int .i64 a.aq.fZ,.lst (a.aB.aA.map ak.pd)])) ?_
       refine sH 64 (.var (rI f.1::ac.rc b.aj++rI c.az::rI a.az::rI a.fTo::av.rc a.aM++[rI 77,rI a.aq.fY,rI a.aq.fZ,rM ak.pd a.aB.aA]))<|sN<|qR ?_
       cases oI h
       exact qG
      refine sA Z<|sN<|cF<|gU Z<|sF h ?_ ?_<;>intro h
      ·refine sA Z<|sN<|cT<|CR Z Z<|sM Z<|bE h fun s K h=>cR (.d (ar.pd s.1)) [(0,.var (ae.rc s.2))] (ig K)<|sV (.ptr 144 7)<|sS 144 (.var (rI a.az::rI a.fTo::av.rc a.aM++aw.rc a.aq++[rM ak.pd s.1.aA]))<|sN<|CR Z Z<|sV (.d (.agg [.int .i64 a.az,.int .i64 a.fTo,.int .i64 a.aM.aI,.int .i64 a.aM.aH,.int .i64 a.aq.fX,.int .i64 a.aq.fY,.int .i64 a.aq.fZ,.lst (s.1.aA.map ak.pd)]))<|sV (.ptr 80 6)<|sH 80 (.var (rI f.1::ac.rc b.aj++rI c.az::rI a.az::rI a.fTo::av.rc a.aM++aw.rc a.aq++[rM ak.pd s.1.aA]))<|sN ?_
       refine gU Z<|sV (.d (.agg [.int .i64 f.1,.str b.aj.aD,.str b.aj.aC,.str b.aj.au,.str b.aj.aF,.int .i64 c.az,.int .i64 a.az,.int .i64 a.fTo,.int .i64 a.aM.aI,.int .i64 a.aM.aH,.int .i64 a.aq.fX,.int .i64 a.aq.fY,.int .i64 a.aq.fZ,.lst (s.1.aA.map ak.pd)]))<|sH 64 (.var (rI f.1::ac.rc b.aj++rI c.az::rI a.az::rI a.fTo::av.rc a.aM++aw.rc a.aq++[rM ak.pd s.1.aA]))<|sN<|qR ?_
       cases oI h
       exact qG
      refine sA Z<|sN<|cF<|qK<|CR Z Z<|sV (.d (ah.pd a))<|sV (.ptr 80 6)<|sH 80 (.var (rI f.1::ac.rc b.aj++rI c.az::ah.rc a))<|sN<|gU Z<|sV (.d (.agg [.int .i64 f.1,.str b.aj.aD,.str b.aj.aC,.str b.aj.au,.str b.aj.aF,.int .i64 c.az,.int .i64 a.az,.int .i64 a.fTo,.int .i64 a.aM.aI,.int .i64 a.aM.aH,.int .i64 a.aq.fX,.int .i64 a.aq.fY,.int .i64 a.aq.fZ,.lst (a.aB.aA.map ak.pd)]))<|sH 64 (.var (rI f.1::ac.rc b.aj++rI c.az::ah.rc a))<|sN<|qR ?_
      cases oI h
      exact qG
     refine sN<|cF<|qK<|gU Z<|sV (.d (aG.pd (aG.mk f.1 b.aj c.az (ah.mk g i (av.mk j k) (aw.mk l m n) (ar.mk o)))))<|sH 64 (.var (rI f.1::ac.rc b.aj++[rI c.az,rI g,rI i,rI j,rI k,rI l,rI m,rI n,rM ak.pd o]))<|sN<|qR ?_
     cases oI h
     exact qG
    refine sM Z<|k3<|sU<|sN<|cF<|qK<|gU Z<|sV (.d (aG.pd (aG.mk f.1 b.aj c.az (ah.mk g i (av.mk j k) (aw.mk l m n) (ar.mk o)))))<|sH 64 (.var (rI f.1::ac.rc b.aj++[rI c.az,rI g,rI i,rI j,rI k,rI l,rI m,rI n,rM ak.pd o]))<|sN<|qR ?_
    cases oI h
    exact qG
   refine sN<|cF<|qK<|gU Z<|sV (.d (aG.pd (aG.mk f.1 b.aj q (ah.mk g i (av.mk j k) (aw.mk l m n) (ar.mk o)))))<|sH 64 (.var (rI f.1::ac.rc b.aj++[rI q,rI g,rI i,rI j,rI k,rI l,rI m,rI n,rM ak.pd o]))<|sN<|qR ?_
   cases oI h
   exact qG
  refine sN<|cF<|qK<|gU Z<|sV (.d (aG.pd (aG.mk f.1 x2.1 q (ah.mk g i (av.mk j k) (aw.mk l m n) (ar.mk o)))))<|sH 64 (.var (rI f.1::ac.rc x2.1++[rI q,rI g,rI i,rI j,rI k,rI l,rI m,rI n,rM ak.pd o]))<|sN<|qR ?_
  cases oI h
  exact qG
 refine sM Z<|k3<|sU<|sN<|cF<|qK<|gU Z<|sV (.d (aG.pd (aG.mk f.1 x2.1 q (ah.mk g i (av.mk j k) (aw.mk l m n) (ar.mk o)))))<|sH 64 (.var (rI f.1::ac.rc x2.1++[rI q,rI g,rI i,rI j,rI k,rI l,rI m,rI n,rM ak.pd o]))<|sN<|qR ?_
 cases oI h
 exact qG
theorem dh{a0:(List UInt8)}{a1:Int}{a2:Int}{r:Bool}(h:cL a0 a1 a2=some r):EvP prog aL ext 68 [rS a0,rI a1,rI a2] [] (rB r,[]):=by
 refine Ev.body Z Tryz.func68 Z Zk<|gU Z<|sU<|sN<|qS<|gU Z<|sV (r0)<|sN<|bE h fun k c h=>CM (CQ (WL.jZ c (fun s=>gI 0 68 2 [(0,rS a0),(1,rI a1),(2,rI a2),(7,rI s)] []) (fun o=>match o with| .inl y=>gX 0 0 68 6 [(0,rS a0),(1,rI a1),(2,rI a2)] []| .inr r=>gF 68 Tryz.f68 0 (rB r,[])) Z ?_ ?_))
 ·rintro s1 n m B j h
  refine qS<|gS Z j<|mM Z<|sV (rI (a0.length:Int))<|sF h ?_ ?_<;>intro h
  ·refine sN<|cT<|qK<|qS<|qB<|gU Z<|mM Z<|bE h fun C p h=>WO.l8 p Z Z Z Z Z Z<|sF h ?_ ?_<;>intro h
   ·refine mM Z<|sM Z<|bE h fun x q h=>WO.l8 q Z Z Z Z Z Z<|sV (rB (decide (x<=(90:Int))))<|sF h ?_ ?_<;>intro h
    ·refine sM Z<|k3<|k3<|k3<|sK<|sT<|sU<|sN<|cF ?_
     refine qK<|CR Z Z<|sM Z<|sV (rI (rW (s1+(1:Int))))<|sA Z<|sN ?_
     cases oI h
     exact⟨rfl,rfl⟩
    refine mM Z<|sM Z<|bE h fun D t h=>WO.l8 t Z Z Z Z Z Z<|sF h ?_ ?_<;>intro h
    ·refine mM Z<|sM Z<|bE h fun a f h=>WO.l8 f Z Z Z Z Z Z<|sV (rB (decide (a<=(57:Int))))<|sV (rB (decide (a<=(57:Int))))<|sV (rB (decide (a<=(57:Int))))<|sF h ?_ ?_<;>intro h
     ·refine sN<|cT<|gU Z<|sU<|sN<|qR ?_
      cases oI h
      exact⟨nofun,rfl,rfl⟩
     refine sN<|cF<|qK<|CR Z Z<|sM Z<|sV (rI (rW (s1+(1:Int))))<|sA Z<|sN ?_
     cases oI h
     exact⟨rfl,rfl⟩
    refine sM Z<|k3<|sK<|sU<|sU<|sT<|sN<|cT<|gU Z<|sU<|sN<|qR ?_
    cases oI h
    exact⟨nofun,rfl,rfl⟩
   refine sM Z<|k3<|sK<|sU<|mM Z<|sM Z<|bE h fun v g h=>WO.l8 g Z Z Z Z Z Z<|sF h ?_ ?_<;>intro h
   ·refine mM Z<|sM Z<|bE h fun b i h=>WO.l8 i Z Z Z Z Z Z<|sV (rB (decide (b<=(57:Int))))<|sV (rB (decide (b<=(57:Int))))<|sV (rB (decide (b<=(57:Int))))<|sF h ?_ ?_<;>intro h
    ·refine sN<|cT<|gU Z<|sU<|sN<|qR ?_
     cases oI h
     exact⟨nofun,rfl,rfl⟩
    refine sN<|cF<|qK<|CR Z Z<|sM Z<|sV (rI (rW (s1+(1:Int))))<|sA Z<|sN ?_
    cases oI h
    exact⟨rfl,rfl⟩
   refine sM Z<|k3<|sK<|sU<|sU<|sT<|sN<|cT<|gU Z<|sU<|sN<|qR ?_
   cases oI h
   exact⟨nofun,rfl,rfl⟩
  refine sN<|cF<|qX ?_
  cases oI h
  exact⟨nofun,rfl,rfl⟩
 intro e n m he l
 rcases k with z|u
 ·obtain⟨rfl,j⟩:=l
  refine qE<|gS Z j<|sM Z<|sV (rI (a0.length:Int))<|sM Z<|sF h ?_ ?_<;>intro h
  ·refine mM Z<|sV (rI (a0.length:Int))<|sM Z<|sV (rB (decide ((a0.length:Int)<=a2)))<|sV (rB (decide ((a0.length:Int)<=a2)))<|sA Z<|sN<|qR ?_
   exact oI h▸qD
  refine sM Z<|k3<|sK<|sU<|sA Z<|sN<|qR ?_
  exact oI h▸qD
 obtain⟨rfl,hf⟩:=l
 cases oI h
 exact hf
theorem fq{a0:ac}{r:Bool}(h:du a0=some r):EvP prog aL ext 38 [.d (ac.pd a0)] [] (rB r,[]):=by
 refine Ev.body Z Tryz.func38 Z Zk<|gU Z<|sB (.ptr 16 0) 16 (.var (ac.rc a0))<|sU<|sN<|gU Z<|sV (.ptr 16 0)<|sL Z<|bE h fun l h1 h=>kq h (fun a h=>?_) (fun a h=>?_)
 ·refine WO.lg (v:=rB true) (u:=[]) Z Z (fun _=>Z) Z Z Z Z Z (dh h1) Z Z (congrArg (fun b=>RV.d (.bool b)) a) Z<|sM Z<|sV (.ptr 16 1)<|sL Z<|bE h fun m c h=>cD (dh c)<|sF h ?_ ?_<;>intro h
  ·refine sM Z<|sV (.ptr 16 2)<|sL Z<|sF h ?_ ?_<;>intro h
   ·refine sM Z<|k3<|sT<|sT<|sM Z<|sV (.ptr 16 3)<|sL Z<|bE h fun i e h=>cD (dh e)<|sV (rB i)<|sA Z<|sN<|qR ?_
    exact oI h▸qD
   refine sM Z<|sV (.ptr 16 2)<|sL Z<|bE h fun j f h=>cD (dh f)<|sV (rB j)<|sF h ?_ ?_<;>intro h
   ·refine sM Z<|sV (.ptr 16 3)<|sL Z<|bE h fun k g h=>cD (dh g)<|sV (rB k)<|sA Z<|sN<|qR ?_
    exact oI h▸qD
   refine sM Z<|k3<|sU<|sA Z<|sN<|qR ?_
   exact oI h▸qD
  refine sM Z<|k3<|k3<|sK<|sK<|sU<|sM Z<|k3<|sU ?_
  refine sA Z<|sN<|qR ?_
  exact oI h▸qD
 refine WO.lg (v:=rB false) (u:=[]) Z Z (fun _=>Z) Z Z Z Z Z (dh h1) Z Z (congrArg (fun b=>RV.d (.bool b)) a) Z<|sM Z<|k3<|sU<|sM Z<|k3<|k3<|sK<|sK ?_
 refine sU<|sM Z<|k3<|sU<|sA Z<|sN<|qR ?_
 exact oI h▸qD
theorem ref02_Valid_ev{a0:av}{r:Bool}(h:iW a0=some r):EvP prog aL ext 56 [.d (av.pd a0)] [] (rB r,[]):=by
 refine Ev.body Z Tryz.func56 Z Zk<|gU Z<|sB (.ptr 16 0) 16 (.var (av.rc a0))<|sU<|sN<|gU Z<|sV (.ptr 16 0)<|sL Z<|bE h fun g h1 h=>kq h (fun a h=>?_) (fun a h=>?_)
 ·refine WO.lg (v:=rB true) (u:=[]) Z Z (fun _=>Z) Z Z Z Z Z (aX h1) Z Z (congrArg (fun b=>RV.d (.bool b)) a) Z<|sM Z<|sV (.ptr 16 1)<|sL Z<|bE h fun i e h=>cD (aX e)<|sF h ?_ ?_<;>intro h
  ·refine sM Z<|sV (.ptr 16 0)<|sL Z<|sV (.ptr 16 1)<|sL Z<|bE h fun c f h=>cD (jO f)<|sV (rB (c==(1:Int)))<|sV (rB (c==(1:Int)))<|sA Z<|sN<|qR ?_
   exact oI h▸qD
  refine sM Z<|k3<|k3<|sU<|sA Z<|sN<|qR ?_
  exact oI h▸qD
 refine WO.lg (v:=rB false) (u:=[]) Z Z (fun _=>Z) Z Z Z Z Z (aX h1) Z Z (congrArg (fun b=>RV.d (.bool b)) a) Z<|sM Z<|k3<|sU<|sM Z<|k3<|k3<|sU<|sA Z ?_
 refine sN<|qR ?_
 exact oI h▸qD
theorem ed{a0:(List Int)}{r:Bool}(h:dv a0=some r):EvP prog aL ext 116 [rL a0] [] (rB r,[]):=by
 refine Ev.body Z Tryz.func116 Z Zk<|gU Z<|sU<|sN<|qS<|gU Z<|sV (r0)<|sN<|bE h fun k b h=>CM (CQ (WL.jZ b (fun s=>gI 0 116 2 [(0,rL a0),(3,rI s)] []) (fun o=>match o with| .inl y=>gX 0 0 116 6 [] []| .inr r=>gF 116 Tryz.f116 0 (rB r,[])) Z ?_ ?_))
 ·rintro s1 g f m a h
  refine qS<|gS Z a<|mM Z<|sE (rI (a0.length:Int)) (ik _ _)<|sF h ?_ ?_<;>intro h
  ·refine sN<|cT<|qK<|qS<|qB<|gU Z<|mM Z<|bE h fun n i h=>eG i Z<|sC Z<|bE h fun p j h=>cD (aX j)<|sF h ?_ ?_<;>intro h
   ·refine sN<|cT<|gU Z<|sU<|sN<|qR ?_
    cases oI h
    exact⟨nofun,rfl,rfl⟩
   refine sN<|cF<|qK<|CR Z Z<|sM Z<|sV (rI (rW (s1+(1:Int))))<|sA Z<|sN ?_
   cases oI h
   exact⟨rfl,rfl⟩
  refine sN<|cF<|qX ?_
  cases oI h
  exact⟨nofun,rfl,rfl⟩
 intro e g f he c
 rcases k with q|l
 ·obtain⟨rfl,a⟩:=c
  refine qE<|gS Z a<|sT<|sN<|qR ?_
  exact oI h▸qD
 obtain⟨rfl,hf⟩:=c
 cases oI h
 exact hf
theorem gQ{a0:(List Int)}{r:Int}(h:gf a0=some r):EvP prog aL ext 117 [rL a0] [] (rI r,[]):=by
 refine Ev.body Z Tryz.func117 Z Zk<|gU Z<|sV (r0)<|sN<|gU Z<|sV (r0)<|sN<|qS<|gU Z<|sV (r0)<|sN<|bE h fun k b h=>CM (CQ (WL.jZ b (fun s=>gI 0 117 3 [(0,rL a0),(3,rI s.1),(4,rI s.2)] []) (fun o=>gX 0 0 117 6 [(3,rI o)] []) Z ?_ ?_))
 ·rintro⟨s1,s2⟩ f c l a h
  refine qS<|gS Z a<|mM Z<|sE (rI (a0.length:Int)) (ik _ _)<|sF h ?_ ?_<;>intro h
  ·refine sN<|cT<|qK<|qS<|qB<|CR Z Z<|mM Z<|sM Z<|bE h fun j g h=>eG g Z<|sC Z<|sV (rI (rW (s1+j)))<|sA Z<|sN ?_
   refine CR Z Z<|sM Z<|sV (rI (rW (s2+(1:Int))))<|sA Z<|sN ?_
   cases oI h
   exact⟨rfl,rfl⟩
  refine sN<|cF<|qX ?_
  cases oI h
  exact⟨nofun,rfl,rfl⟩
 intro e f c he i
 obtain⟨rfl,a⟩:=i
 refine qE<|gS Z a<|sM Z<|sA Z<|sN<|qR ?_
 exact oI h▸qD
theorem jn{a0:ak}{r:Bool}(h:ey a0=some r):EvP prog aL ext 94 [.d (ak.pd a0)] [] (rB r,[]):=by
 refine Ev.body Z Tryz.func94 Z Zk<|gU Z<|sB (.ptr 16 0) 16 (.var (ak.rc a0))<|sU<|sN<|gU Z<|sV (.ptr 16 7)<|sL Z<|sE (rI (a0.aO.length:Int)) (ik _ _)<|sF h ?_ ?_<;>intro h
 ·refine sM Z<|sV (.ptr 16 8)<|sL Z<|sV (rB (a0.aJ==(0:Int)))<|sF h ?_ ?_<;>intro h
  ·refine sM Z<|sV (.ptr 16 9)<|sL Z<|sV (rB (a0.aS==(0:Int)))<|sV (rB (a0.aS==(0:Int)))<|sA Z<|sN<|qS<|gU Z<|sV (.ptr 16 0)<|sL Z<|sN<|qB<|gU Z<|sF h ?_ ?_<;>intro h
   ·refine sA Z<|sN<|cT<|gU Z<|sF h ?_ ?_<;>intro h
    ·refine sM Z<|sV (.ptr 16 1)<|sV (.ptr 16 1)<|sL Z<|bE h fun X F h=>cD (aX F)<|sF h ?_ ?_<;>intro h
     ·refine sM Z<|sV (.ptr 16 4)<|sV (.ptr 16 4)<|sL Z<|bE h fun Y G h=>cD (aX G)<|sF h ?_ ?_<;>intro h
      ·refine sM Z<|sV (.ptr 16 1)<|sV (.ptr 16 2)<|sL Z<|sV (rB (a0.aI.a1==(0:Int)))<|sF h ?_ ?_<;>intro h
       ·refine sM Z<|sV (.ptr 16 1)<|sV (.ptr 16 3)<|sL Z<|sV (rB (a0.aI.a2==(0:Int)))<|sF h ?_ ?_<;>intro h
        ·refine sM Z<|sV (.ptr 16 4)<|sV (.ptr 16 5)<|sL Z<|sV (rB (a0.aH.a1==(0:Int)))<|sF h ?_ ?_<;>intro h
         ·refine sM Z<|sV (.ptr 16 4)<|sV (.ptr 16 6)<|sL Z<|sV (rB (a0.aH.a2==(0:Int)))<|sV (rB (a0.aH.a2==(0:Int)))<|sA Z<|sN<|qR ?_
          cases oI h
          exact qG
         refine sM Z<|k3<|sK<|sU<|sA Z<|sN<|qR ?_
         cases oI h
         exact qG
        refine sM Z<|k3<|sK<|sU<|sM Z<|k3<|sK<|sU<|sA Z<|sN<|qR ?_
        cases oI h
        exact qG
       refine sM Z<|k3<|sK<|sU<|sM Z<|k3<|sK<|sU<|sM Z<|sK<|sK ?_
       refine sK<|sK<|sU<|sA Z<|sN<|qR ?_
       cases oI h
       exact qG
      refine sM Z<|k3<|sK<|sU<|sM Z<|k3<|sK<|sU<|sM Z<|sK<|sK ?_
      refine sK<|sK<|sU<|sM Z<|k3<|sK<|sU<|sA Z<|sN<|qR ?_
      cases oI h
      exact qG
     refine sM Z<|k3<|sK<|sU<|sM Z<|k3<|sK<|sU<|sM Z<|sK<|sK ?_
     refine sK<|sK<|sU<|sM Z<|k3<|sK<|sU<|sM Z<|k3<|sK<|sU ?_
     refine sA Z<|sN<|qR ?_
     cases oI h
     exact qG
    refine sM Z<|k3<|sK<|sU<|sM Z<|k3<|sK<|sU<|sM Z<|sK<|sK ?_
    refine sK<|sK<|sU<|sM Z<|k3<|sK<|sU<|sM Z<|k3<|sK<|sU ?_
    refine sM Z<|k3<|sK<|sU<|sA Z<|sN<|qR ?_
    cases oI h
    exact qG
   refine sA Z<|sN<|cF<|gU Z<|sF h ?_ ?_<;>intro h
   ·refine sA Z<|sN<|cT<|CP (R0:=[(1,.cptr [.int .i64 a0.aQ,.int .i64 a0.aI.a0,.int .i64 a0.aI.a1,.int .i64 a0.aI.a2,.int .i64 a0.aH.a0,.int .i64 a0.aH.a1,.int .i64 a0.aH.a2,.lst (a0.aO.map (PD.int .i64)),.int .i64 a0.aJ,.int .i64 a0.aS]),(3,rB (a0.aS==(0:Int)))]) (B0:=[]) Z Z<|sF h ?_ ?_<;>intro h
    ·refine sM Z<|sV (.cptr [.int .i64 a0.aI.a0,.int .i64 a0.aI.a1,.int .i64 a0.aI.a2,.int .i64 a0.aH.a0,.int .i64 a0.aH.a1,.int .i64 a0.aH.a2,.lst (a0.aO.map (PD.int .i64)),.int .i64 a0.aJ,.int .i64 a0.aS])<|sV (.d (.lst ([a0.aI.a0,a0.aI.a1,a0.aI.a2].map (PD.int .i64))))<|bE h fun H e h=>cD (ed e)<|sF h ?_ ?_<;>intro h
     ·refine sM Z<|sV (.cptr [.int .i64 a0.aH.a0,.int .i64 a0.aH.a1,.int .i64 a0.aH.a2,.lst (a0.aO.map (PD.int .i64)),.int .i64 a0.aJ,.int .i64 a0.aS])<|sV (.d (.lst ([a0.aH.a0,a0.aH.a1,a0.aH.a2].map (PD.int .i64))))<|bE h fun I f h=>cD (ed f)<|sF h ?_ ?_<;>intro h
      ·refine sM Z<|sV (.cptr [.int .i64 a0.aH.a0,.int .i64 a0.aH.a1,.int .i64 a0.aH.a2,.lst (a0.aO.map (PD.int .i64)),.int .i64 a0.aJ,.int .i64 a0.aS])<|sV (.cptr [.int .i64 a0.aH.a0,.int .i64 a0.aH.a1,.int .i64 a0.aH.a2,.lst (a0.aO.map (PD.int .i64)),.int .i64 a0.aJ,.int .i64 a0.aS])<|sC Z<|sV (rB (a0.aH.a0 != (0:Int)))<|sV (rB (a0.aH.a0 != (0:Int)))<|sA Z<|sN<|qR ?_
       exact oI h▸qD
      refine sM Z<|k3<|sK<|sU<|sA Z<|sN<|qR ?_
      exact oI h▸qD
     refine sM Z<|k3<|sU<|sM Z<|k3<|sK<|sU<|sA Z<|sN<|qR ?_
     exact oI h▸qD
    refine sM Z<|k3<|sU<|sM Z<|k3<|sU<|sM Z<|k3<|sK ?_
    refine sU<|sA Z<|sN<|qR ?_
    exact oI h▸qD
   refine sA Z<|sN<|cF<|gU Z<|sF h ?_ ?_<;>intro h
   ·refine sA Z<|sN<|cT<|gU Z<|sV (.ptr 16 1)<|sV (.d (aK.pd a0.aI))<|sV (.d (aK.pd (aK.mk 0 0 0)))<|kq h (fun a h=>?_) (fun a h=>?_)
    ·refine WO.mX (cS a0.aI (aK.mk 0 0 0)) a Z Z Z Z Z<|sM Z<|sV (.ptr 16 4)<|sV (.d (aK.pd a0.aH))<|sV (.d (aK.pd (aK.mk 0 0 0)))<|WO.bin (cS a0.aH (aK.mk 0 0 0)) Z Z Z Z Z<|sF h ?_ ?_<;>intro h
     ·refine sM Z<|sV (.ptr 16 7)<|sL Z<|sE (rI (a0.aO.length:Int)) (ik _ _)<|bE h fun J g h=>cD (aX g)<|sF h ?_ ?_<;>intro h
      ·refine sM Z<|sV (.ptr 16 7)<|sL Z<|bE h fun K i h=>cD (ed i)<|sF h ?_ ?_<;>intro h
       ·refine sM Z<|sV (.ptr 16 7)<|sL Z<|bE h fun y j h=>cD (gQ j)<|sV (rB (y != (0:Int)))<|sF h ?_ ?_<;>intro h
        ·refine sM Z<|sV (.ptr 16 8)<|sL Z<|bE h fun L k h=>cD (aX k)<|sF h ?_ ?_<;>intro h
         ·refine sM Z<|sV (.ptr 16 9)<|sL Z<|bE h fun z l h=>cD (aX l)<|sV (rB z)<|sA Z<|sN<|qR ?_
          cases oI h
          exact qG
         refine sM Z<|k3<|sU<|sA Z<|sN<|qR ?_
         cases oI h
         exact qG
        refine sM Z<|k3<|sU<|sM Z<|k3<|sU<|sA Z<|sN<|qR ?_
        cases oI h
        exact qG
       refine sM Z<|k3<|sK<|sU<|sM Z<|k3<|sU<|sM Z<|sK<|sK<|sK ?_
       refine sU<|sA Z<|sN<|qR ?_
       cases oI h
       exact qG
      refine sM Z<|k3<|sU<|sM Z<|k3<|sK<|sU<|sM Z<|sK<|sK<|sK ?_
      refine sU<|sM Z<|k3<|sU<|sA Z<|sN<|qR ?_
      cases oI h
      exact qG
     refine sM Z<|k3<|sK<|sU<|sM Z<|k3<|sU<|sM Z<|sK<|sK<|sK ?_
     refine sK<|sU<|sM Z<|k3<|sU<|sM Z<|k3<|sU<|sA Z<|sN<|qR ?_
     cases oI h
     exact qG
    refine WO.mX (cS a0.aI (aK.mk 0 0 0)) a Z Z Z Z Z<|sM Z<|k3<|sK<|sU<|sM Z<|k3<|sK<|sU<|sM Z<|sK ?_
    refine sK<|sK<|sU<|sM Z<|k3<|sK<|sU<|sM Z<|k3<|sU<|sM Z ?_
    refine k3<|sU<|sA Z<|sN<|qR ?_
    cases oI h
    exact qG
   refine sA Z<|sN<|cF<|qK<|gU Z<|sU<|sN<|qR ?_
   cases oI h
   exact qG
  refine sM Z<|k3<|sU<|sA Z<|sN<|qS<|gU Z<|sV (.ptr 16 0)<|sL Z<|sN<|qB<|gU Z<|sF h ?_ ?_<;>intro h
  ·refine sA Z<|sN<|cT<|gU Z<|mM Z<|k3<|sK<|sU<|sM Z<|sK<|sK<|sK ?_
   refine sK<|sU<|sM Z<|k3<|sK<|sU<|sM Z<|k3<|sK<|sU<|sM Z ?_
   refine k3<|sK<|sU<|sM Z<|k3<|sK<|sU<|sA Z<|sN<|qR ?_
   cases oI h
   exact qG
  refine sA Z<|sN<|cF<|gU Z<|sF h ?_ ?_<;>intro h
  ·refine sA Z<|sN<|cT<|CP (R0:=[(1,.cptr [.int .i64 a0.aQ,.int .i64 a0.aI.a0,.int .i64 a0.aI.a1,.int .i64 a0.aI.a2,.int .i64 a0.aH.a0,.int .i64 a0.aH.a1,.int .i64 a0.aH.a2,.lst (a0.aO.map (PD.int .i64)),.int .i64 a0.aJ,.int .i64 a0.aS]),(3,rB false)]) (B0:=[]) Z Z<|mM Z<|k3<|sU<|sM Z<|k3<|sU ?_
   refine sM Z<|k3<|sK<|sU<|sA Z<|sN<|qR ?_
   exact oI h▸qD
  refine sA Z<|sN<|cF<|gU Z<|sF h ?_ ?_<;>intro h
  ·refine sA Z<|sN<|cT<|gU Z<|sV (.ptr 16 1)<|sV (.d (aK.pd a0.aI))<|sV (.d (aK.pd (aK.mk 0 0 0)))<|kq h (fun b h=>?_) (fun b h=>?_)
   ·refine WO.mX (cS a0.aI (aK.mk 0 0 0)) b Z Z Z Z Z<|sM Z<|sV (.ptr 16 4)<|sV (.d (aK.pd a0.aH))<|sV (.d (aK.pd (aK.mk 0 0 0)))<|WO.bin (cS a0.aH (aK.mk 0 0 0)) Z Z Z Z Z<|sF h ?_ ?_<;>intro h
    ·refine sM Z<|sV (.ptr 16 7)<|sL Z<|sE (rI (a0.aO.length:Int)) (ik _ _)<|bE h fun N m h=>cD (aX m)<|sF h ?_ ?_<;>intro h
     ·refine sM Z<|sV (.ptr 16 7)<|sL Z<|bE h fun O n h=>cD (ed n)<|sF h ?_ ?_<;>intro h
      ·refine sM Z<|sV (.ptr 16 7)<|sL Z<|bE h fun B o h=>cD (gQ o)<|sV (rB (B != (0:Int)))<|sF h ?_ ?_<;>intro h
       ·refine sM Z<|sV (.ptr 16 8)<|sL Z<|bE h fun Q p h=>cD (aX p)<|sF h ?_ ?_<;>intro h
        ·refine sM Z<|sV (.ptr 16 9)<|sL Z<|bE h fun C q h=>cD (aX q)<|sV (rB C)<|sA Z<|sN<|qR ?_
         cases oI h
         exact qG
        refine sM Z<|k3<|sU<|sA Z<|sN<|qR ?_
        cases oI h
        exact qG
       refine sM Z<|k3<|sU<|sM Z<|k3<|sU<|sA Z<|sN<|qR ?_
       cases oI h
       exact qG
      refine sM Z<|k3<|sK<|sU<|sM Z<|k3<|sU<|sM Z<|sK<|sK<|sK ?_
      refine sU<|sA Z<|sN<|qR ?_
      cases oI h
      exact qG
     refine sM Z<|k3<|sU<|sM Z<|k3<|sK<|sU<|sM Z<|sK<|sK<|sK ?_
     refine sU<|sM Z<|k3<|sU<|sA Z<|sN<|qR ?_
     cases oI h
     exact qG
    refine sM Z<|k3<|sK<|sU<|sM Z<|k3<|sU<|sM Z<|sK<|sK<|sK ?_
    refine sK<|sU<|sM Z<|k3<|sU<|sM Z<|k3<|sU<|sA Z<|sN<|qR ?_
    cases oI h
    exact qG
   refine WO.mX (cS a0.aI (aK.mk 0 0 0)) b Z Z Z Z Z<|sM Z<|k3<|sK<|sU<|sM Z<|k3<|sK<|sU<|sM Z<|sK ?_
   refine sK<|sK<|sU<|sM Z<|k3<|sK<|sU<|sM Z<|k3<|sU<|sM Z ?_
   refine k3<|sU<|sA Z<|sN<|qR ?_
   cases oI h
   exact qG
  refine sA Z<|sN<|cF<|qK<|gU Z<|sU<|sN<|qR ?_
  cases oI h
  exact qG
 refine sM Z<|k3<|sU<|sM Z<|k3<|sU<|sA Z<|sN<|qS<|gU Z<|sV (.ptr 16 0) ?_
 refine sL Z<|sN<|qB<|gU Z<|sF h ?_ ?_<;>intro h
 ·refine sA Z<|sN<|cT<|gU Z<|mM Z<|k3<|sK<|sU<|sM Z<|sK<|sK<|sK ?_
  refine sK<|sU<|sM Z<|k3<|sK<|sU<|sM Z<|k3<|sK<|sU<|sM Z ?_
  refine k3<|sK<|sU<|sM Z<|k3<|sK<|sU<|sA Z<|sN<|qR ?_
  cases oI h
  exact qG
 refine sA Z<|sN<|cF<|gU Z<|sF h ?_ ?_<;>intro h
 ·refine sA Z<|sN<|cT<|CP (R0:=[(1,.cptr [.int .i64 a0.aQ,.int .i64 a0.aI.a0,.int .i64 a0.aI.a1,.int .i64 a0.aI.a2,.int .i64 a0.aH.a0,.int .i64 a0.aH.a1,.int .i64 a0.aH.a2,.lst (a0.aO.map (PD.int .i64)),.int .i64 a0.aJ,.int .i64 a0.aS]),(3,rB false)]) (B0:=[]) Z Z<|mM Z<|k3<|sU<|sM Z<|k3<|sU ?_
  refine sM Z<|k3<|sK<|sU<|sA Z<|sN<|qR ?_
  exact oI h▸qD
 refine sA Z<|sN<|cF<|gU Z<|sF h ?_ ?_<;>intro h
 ·refine sA Z<|sN<|cT<|gU Z<|sV (.ptr 16 1)<|sV (.d (aK.pd a0.aI))<|sV (.d (aK.pd (aK.mk 0 0 0)))<|kq h (fun c h=>?_) (fun c h=>?_)
  ·refine WO.mX (cS a0.aI (aK.mk 0 0 0)) c Z Z Z Z Z<|sM Z<|sV (.ptr 16 4)<|sV (.d (aK.pd a0.aH))<|sV (.d (aK.pd (aK.mk 0 0 0)))<|WO.bin (cS a0.aH (aK.mk 0 0 0)) Z Z Z Z Z<|sF h ?_ ?_<;>intro h
   ·refine sM Z<|sV (.ptr 16 7)<|sL Z<|sE (rI (a0.aO.length:Int)) (ik _ _)<|bE h fun T s h=>cD (aX s)<|sF h ?_ ?_<;>intro h
    ·refine sM Z<|sV (.ptr 16 7)<|sL Z<|bE h fun U t h=>cD (ed t)<|sF h ?_ ?_<;>intro h
     ·refine sM Z<|sV (.ptr 16 7)<|sL Z<|bE h fun D u h=>cD (gQ u)<|sV (rB (D != (0:Int)))<|sF h ?_ ?_<;>intro h
      ·refine sM Z<|sV (.ptr 16 8)<|sL Z<|bE h fun W v h=>cD (aX v)<|sF h ?_ ?_<;>intro h
       ·refine sM Z<|sV (.ptr 16 9)<|sL Z<|bE h fun E x h=>cD (aX x)<|sV (rB E)<|sA Z<|sN<|qR ?_
        cases oI h
        exact qG
       refine sM Z<|k3<|sU<|sA Z<|sN<|qR ?_
       cases oI h
       exact qG
      refine sM Z<|k3<|sU<|sM Z<|k3<|sU<|sA Z<|sN<|qR ?_
      cases oI h
      exact qG
     refine sM Z<|k3<|sK<|sU<|sM Z<|k3<|sU<|sM Z<|sK<|sK<|sK ?_
     refine sU<|sA Z<|sN<|qR ?_
     cases oI h
     exact qG
    refine sM Z<|k3<|sU<|sM Z<|k3<|sK<|sU<|sM Z<|sK<|sK<|sK ?_
    refine sU<|sM Z<|k3<|sU<|sA Z<|sN<|qR ?_
    cases oI h
    exact qG
   refine sM Z<|k3<|sK<|sU<|sM Z<|k3<|sU<|sM Z<|sK<|sK<|sK ?_
   refine sK<|sU<|sM Z<|k3<|sU<|sM Z<|k3<|sU<|sA Z<|sN<|qR ?_
   cases oI h
   exact qG
  refine WO.mX (cS a0.aI (aK.mk 0 0 0)) c Z Z Z Z Z<|sM Z<|k3<|sK<|sU<|sM Z<|k3<|sK<|sU<|sM Z<|sK ?_
  refine sK<|sK<|sU<|sM Z<|k3<|sK<|sU<|sM Z<|k3<|sU<|sM Z ?_
  refine k3<|sU<|sA Z<|sN<|qR ?_
  cases oI h
  exact qG
 refine sA Z<|sN<|cF<|qK<|gU Z<|sU<|sN<|qR ?_
 cases oI h
 exact qG
theorem ref18_Valid_ev{a0:ar}{r:Bool}(h:hZ a0=some r):EvP prog aL ext 57 [.d (ar.pd a0)] [] (rB r,[]):=by
 refine Ev.body Z Tryz.func57 Z Zk<|gU Z<|sB (.ptr 16 0) 16 (.var [rM ak.pd a0.aA])<|sU<|sN<|gU Z<|sV (rI 1)<|sN<|qS<|gU Z<|sV (r0)<|sN<|bE h fun i c h=>CM (CQ (WL.jZ c (fun s=>gI 0 57 3 [(1,.ptr 16 0),(3,rI s.1),(4,rI s.2)] [(16,.var [rM ak.pd a0.aA])]) (fun o=>match o with| .inl y=>gX 0 0 57 11 [(1,.ptr 16 0)] [(16,.var [rM ak.pd a0.aA])]| .inr r=>gF 57 Tryz.f57 0 (rB r,[])) Z ?_ ?_))
 ·rintro⟨s1,s2⟩ l k v g h
  refine qS<|gS Z g<|sM Z<|sV (.ptr 16 0)<|sL Z<|sE (rI (a0.aA.length:Int)) (ik _ _)<|sF h ?_ ?_<;>intro h
  ·refine sN<|cT<|qK<|qS<|qB<|qS<|gU Z<|sV (.ptr 16 0)<|sL Z<|sM Z<|bE h fun t m h=>eG m Z<|sV (.d (ak.pd t))<|bE h fun x n h=>cD (jn n) ?_
   refine sF h ?_ ?_<;>intro h
   ·refine sN<|cT<|gU Z<|sU<|sN<|qR ?_
    cases oI h
    exact⟨nofun,rfl,rfl⟩
   refine sN<|cF<|qK<|gU Z<|sV (.ptr 16 0)<|sL Z<|sM Z<|bE h fun a p h=>eG p Z<|sV (.cptr [.int .i64 a.aQ,.int .i64 a.aI.a0,.int .i64 a.aI.a1,.int .i64 a.aI.a2,.int .i64 a.aH.a0,.int .i64 a.aH.a1,.int .i64 a.aH.a2,.lst (a.aO.map (PD.int .i64)),.int .i64 a.aJ,.int .i64 a.aS])<|sC Z<|sF h ?_ ?_<;>intro h
   ·refine sN<|cT<|gU Z<|sM Z<|sV (.ptr 16 0)<|sL Z<|sM Z<|bE h fun b f h=>eG f Z<|sV (.cptr [.int .i64 b.aJ,.int .i64 b.aS])<|sC Z<|sV (rI (rW (s1*b.aJ)))<|sA Z<|sN<|gU Z ?_
    refine sM Z<|sF h ?_ ?_<;>intro h
    ·refine sN<|cT<|gU Z<|sU<|sN<|qR ?_
     cases oI h
     exact⟨nofun,rfl,rfl⟩
    refine sN<|cF<|qK<|CR Z Z<|sM Z<|sV (rI (rW (s2+(1:Int))))<|sA Z<|sN ?_
    cases oI h
    exact⟨rfl,rfl⟩
   refine sN<|cF<|qK<|CR Z Z<|sM Z<|sV (rI (rW (s2+(1:Int))))<|sA Z<|sN ?_
   cases oI h
   exact⟨rfl,rfl⟩
  refine sN<|cF<|qX ?_
  cases oI h
  exact⟨nofun,rfl,rfl⟩
 intro e l k he j
 rcases i with u|q
 ·obtain⟨rfl,g⟩:=j
  refine qE<|gS Z g<|sV (.ptr 16 0)<|sL Z<|sE (rI (a0.aA.length:Int)) (ik _ _)<|sV (rB (decide ((a0.aA.length:Int)<=(8:Int))))<|sA Z<|sN<|qR ?_
  exact oI h▸qD
 obtain⟨rfl,hf⟩:=j
 cases oI h
 exact hf
theorem dn{a0:ah}{r:Bool}(h:cH a0=some r):EvP prog aL ext 29 [.d (ah.pd a0)] [] (rB r,[]):=by
 refine Ev.body Z Tryz.func29 Z Zk<|gU Z<|sB (.ptr 16 0) 16 (.var (ah.rc a0))<|sU<|sN<|gU Z<|sV (.ptr 16 4)<|sV (.d (aw.pd a0.aq))<|sB (.ptr 48 0) 48 (.var [r0,r0,r0])<|sS 48 (.var (aw.rc a0.aq))<|sN<|gU Z<|sV (.ptr 16 0)<|sL Z<|sF h ?_ ?_<;>intro h
 ·refine sM Z<|sV (.ptr 16 0)<|sL Z<|sV (.ptr 16 1)<|sL Z<|sV (rB (decide (a0.az<a0.fTo)))<|sF h ?_ ?_<;>intro h
  ·refine sM Z<|sV (.ptr 16 1)<|sL Z<|sV (rB (decide (a0.fTo<=(9007199254740992:Int))))<|sF h ?_ ?_<;>intro h
   ·refine sM Z<|sV (.ptr 16 2)<|sV (.d (av.pd a0.aM))<|bE h fun j e h=>cD (ref02_Valid_ev e)<|sF h ?_ ?_<;>intro h
    ·refine sM Z<|sV (.ptr 16 7)<|sV (.d (ar.pd a0.aB))<|bE h fun k f h=>cD (ref18_Valid_ev f)<|sF h ?_ ?_<;>intro h
     ·refine sM Z<|sV (.ptr 48 0)<|sL Z<|bE h fun l g h=>cD (aX g)<|sF h ?_ ?_<;>intro h
      ·refine sM Z<|sV (.ptr 48 1)<|sL Z<|bE h fun i a h=>cD (aX a)<|sF h ?_ ?_<;>intro h
       ·refine sM Z<|sV (.ptr 48 2)<|sL Z<|bE h fun c b h=>cD (aX b)<|sV (rB c)<|sA Z<|sN<|qR ?_
        exact oI h▸qD
       refine sM Z<|k3<|sU<|sA Z<|sN<|qR ?_
       exact oI h▸qD
      refine sM Z<|k3<|sU<|sM Z<|k3<|sU<|sA Z<|sN<|qR ?_
      exact oI h▸qD
     refine sM Z<|k3<|sU<|sM Z<|k3<|sU<|sM Z<|k3<|sU ?_
     refine sA Z<|sN<|qR ?_
     exact oI h▸qD
    refine sM Z<|k3<|sU<|sM Z<|k3<|sU<|sM Z<|k3<|sU ?_
    refine sM Z<|k3<|sU<|sA Z<|sN<|qR ?_
    exact oI h▸qD
   refine sM Z<|k3<|sU<|sM Z<|k3<|sU<|sM Z<|k3<|sU ?_
   refine sM Z<|k3<|sU<|sM Z<|k3<|sU<|sA Z<|sN<|qR ?_
   exact oI h▸qD
  refine sM Z<|k3<|sU<|sM Z<|k3<|sU<|sM Z<|k3<|sU ?_
  refine sM Z<|k3<|sU<|sM Z<|k3<|sU<|sM Z<|k3<|sU ?_
  refine sA Z<|sN<|qR ?_
  exact oI h▸qD
 refine sM Z<|k3<|sK<|sK<|sU<|sM Z<|k3<|sU<|sM Z<|sK<|sK ?_
 refine sK<|sU<|sM Z<|k3<|sU<|sM Z<|k3<|sU<|sM Z<|sK<|sK ?_
 refine sK<|sU<|sM Z<|k3<|sU<|sA Z<|sN<|qR ?_
 exact oI h▸qD
theorem ex{a0:(List UInt8)}{a1:(List UInt8)}{r:Int}(h:cn a0 a1=some r):EvP prog aL ext 69 [rS a0,rS a1] [] (rI r,[]):=by
 refine Ev.body Z Tryz.func69 Z Zk<|gU Z<|sV (r0)<|sN<|qS<|qB<|gU Z<|mM Z<|sF h ?_ ?_<;>intro h
 ·refine sA Z<|sN<|cT<|gU Z<|sV (rI (-1))<|sN<|qR ?_
  exact oI h▸qD
 refine sA Z<|sN<|cF<|gU Z<|mM Z<|sF h ?_ ?_<;>intro h
 ·refine sA Z<|sN<|cT<|gU Z<|sV (rI 1)<|sN<|qR ?_
  exact oI h▸qD
 refine sA Z<|sN<|cF<|qK<|gU Z<|sV (r0)<|sN<|qR ?_
 exact oI h▸qD
theorem iq{a0:ac}{a1:ac}{r:Int}(h:dg a0 a1=some r):EvP prog aL ext 39 [.d (ac.pd a0),.d (ac.pd a1)] [] (rI r,[]):=by
 refine Ev.body Z Tryz.func39 Z Zk<|gU Z<|sB (.ptr 32 0) 32 (.var (ac.rc a0))<|sB (.ptr 48 0) 48 (.var (ac.rc a1))<|sV (r0)<|sN<|qS<|CN Z Z<|sV (.ptr 32 0)<|sL Z<|sV (.ptr 48 0)<|sL Z<|bE h fun a h1 h=>cD (ex h1)<|sV (.ptr 32 1) ?_
 refine sL Z<|sV (.ptr 48 1)<|sL Z<|bE h fun x2 e h=>cD (ex e)<|sV (.ptr 32 2)<|sL Z<|sV (.ptr 48 2)<|sL Z<|bE h fun b f h=>cD (ex f)<|sV (.ptr 32 3)<|sL Z<|sV (.ptr 48 3)<|sL Z ?_
 refine bE h fun c g h=>cD (ex g)<|sV (.d (A4_Int.pd (A4_Int.mk a x2 b c)))<|sV (r0) ?_
 refine sN<|sO<|CM (CQ ?_)
 refine WL.round<|gU Z<|sT<|sN<|qS<|cT<|qK<|qS<|qB<|gU Z<|sV (rI a)<|sA Z<|sN<|gU Z<|sM Z ?_
 refine sF h ?_ ?_<;>intro h
 ·refine sN<|cT<|gU Z<|sM Z<|sA Z<|sN<|qR ?_
  exact oI h▸qD
 refine sN<|cF<|qK<|CR Z Z<|sV (rI 1)<|sM Z<|sN<|WL.round<|gU Z<|sT<|sN<|qS<|cT<|qK<|qS ?_
 refine qB<|gU Z<|sV (rI x2)<|sA Z<|sN<|gU Z<|sM Z<|sF h ?_ ?_<;>intro h
 ·refine sN<|cT<|gU Z<|sM Z<|sA Z<|sN<|qR ?_
  exact oI h▸qD
 refine sN<|cF<|qK<|CR Z Z<|sV (rI 2)<|sM Z<|sN<|WL.round<|gU Z<|sT<|sN<|qS<|cT<|qK<|qS ?_
 refine qB<|gU Z<|sV (rI b)<|sA Z<|sN<|gU Z<|sM Z<|sF h ?_ ?_<;>intro h
 ·refine sN<|cT<|gU Z<|sM Z<|sA Z<|sN<|qR ?_
  exact oI h▸qD
 refine sN<|cF<|qK<|CR Z Z<|sV (rI 3)<|sM Z<|sN<|WL.round<|gU Z<|sT<|sN<|qS<|cT<|qK<|qS ?_
 refine qB<|gU Z<|sV (rI c)<|sA Z<|sN<|gU Z<|sM Z<|sF h ?_ ?_<;>intro h
 ·refine sN<|cT<|gU Z<|sM Z<|sA Z<|sN<|qR ?_
  exact oI h▸qD
 refine sN<|cF<|qK<|CR Z Z<|sV (rI 4)<|sM Z<|sN<|WL.round<|gU Z<|sU<|sN<|qS<|cF<|qX<|qE ?_
 refine gU Z<|sV (r0)<|sN<|qR ?_
 exact oI h▸qD
theorem eh{a0:ai}{r:Bool}(h:dw a0=some r):EvP prog aL ext 10 [.d (ai.pd a0)] [] (rB r,[]):=by
 refine Ev.body Z Tryz.func10 Z Zk<|gU Z<|sB (.ptr 16 0) 16 (.var [rM aa.pd a0.am])<|sU<|sN<|qS<|gU Z<|sV (r0)<|sN<|bE h fun E l h=>CM (CQ (WL.jZ l (fun s=>gI 0 10 2 [(1,.ptr 16 0),(3,rI s)] [(16,.var [rM aa.pd a0.am])]) (fun o=>match o with| .inl y=>gX 0 0 10 12 [(1,.ptr 16 0)] [(16,.var [rM aa.pd a0.am])]| .inr r=>gF 10 Tryz.f10 0 (rB r,[])) Z ?_ ?_))
 ·rintro s1 j i L g h
  refine qS<|gS Z g<|sM Z<|sV (.ptr 16 0)<|sL Z<|sE (rI (a0.am.length:Int)) (ik _ _)<|sF h ?_ ?_<;>intro h
  ·refine sN<|cT<|qK<|qS<|qB<|gU Z<|sV (.ptr 16 0)<|sL Z<|sM Z<|bE h fun f J h=>eG J Z<|sV (.d (aa.pd f))<|sB (.ptr 64 0) 64 (.var zZ2)<|sS 64 (.var (aa.rc f))<|sN ?_
   refine WC.join (α:=Unit) (fun x j i=>kx prog 0 (A j i) (aL.at_ 10 0 7)=some (A [(1,.ptr 16 0),(3,rI s1),(4,.ptr 64 0)] [(16,.var [rM aa.pd a0.am]),(64,.var (aa.rc f))])) (fun x=>eQ f s1=some L) ?_ ?_
   ·refine CN Z Z<|sV (.ptr 64 0)<|sV (.d (ac.pd f.aj))<|bE h fun T u h=>cD (fq u)<|sF h ?_ ?_<;>intro h
    ·refine sM Z<|k3<|k3<|k3<|k3<|sK<|sK ?_
     refine sK<|sT<|sM Z<|k3<|sK<|sK<|sT ?_
     refine sN<|sO<|cT<|gU Z<|sU<|sN<|qR ?_
     cases oI h
     exact⟨nofun,rfl,rfl⟩
    refine mM Z<|sF h ?_ ?_<;>intro h
    ·refine sM Z<|sV (.ptr 16 0)<|sL Z<|sM Z<|sV (rI (rW (s1-(1:Int))))<|bE h fun c v h=>eG v Z<|sV (.cptr [.str c.aj.aD,.str c.aj.aC,.str c.aj.au,.str c.aj.aF,.lst (c.al.map ah.pd)])<|sV (.d (ac.pd c.aj))<|sV (.ptr 64 0)<|sV (.d (ac.pd f.aj))<|bE h fun n z h=>cD (iq z)<|sV (rB (decide (n>=(0:Int))))<|sV (rB (decide (n>=(0:Int)))) ?_
     refine sF h ?_ ?_<;>intro h
     ·refine sM Z<|k3<|sK<|sK<|sT ?_
      refine sN<|sO<|cT<|gU Z<|sU<|sN<|qR ?_
      cases oI h
      exact⟨nofun,rfl,rfl⟩
     refine sM Z<|sV (.ptr 64 4)<|sL Z<|sE (rI (f.al.length:Int)) (ik _ _)<|bE h fun G B h=>cD (aX B)<|sV (rB (!G))<|sF h ?_ ?_<;>intro h
     ·refine sN<|sO<|cT<|gU Z<|sU<|sN<|qR ?_
      cases oI h
      exact⟨nofun,rfl,rfl⟩
     exact sN<|sO<|cF<|qK<|⟨(),rfl,h⟩
    refine sM Z<|k3<|k3<|k3<|sK<|sK<|sU<|sU<|sM Z ?_
    refine sV (.ptr 64 4)<|sL Z<|sE (rI (f.al.length:Int)) (ik _ _)<|bE h fun H C h=>cD (aX C)<|sV (rB (!H))<|sF h ?_ ?_<;>intro h
    ·refine sN<|sO<|cT<|gU Z<|sU<|sN<|qR ?_
     cases oI h
     exact⟨nofun,rfl,rfl⟩
    exact sN<|sO<|cF<|qK<|⟨(),rfl,h⟩
   rintro⟨⟩ j i g h
   refine gS Z g<|sV (r0)<|sN<|bE h fun D k h=>CM (CQ (WL.jZ k (fun s=>gI 0 10 8 [(1,.ptr 16 0),(3,rI s1),(4,.ptr 64 0),(5,rI s)] [(16,.var [rM aa.pd a0.am]),(64,.var (aa.rc f))]) (fun o=>match o with| .inl y=>gX 2 0 10 3 [(1,.ptr 16 0),(3,rI y)] [(16,.var [rM aa.pd a0.am])]| .inr r=>gF 10 Tryz.f10 0 (rB r,[])) Z ?_ ?_))
   ·rintro F j i X g h
    refine qS<|gS Z g<|sM Z<|sV (.ptr 64 4)<|sL Z<|sE (rI (f.al.length:Int)) (ik _ _)<|sF h ?_ ?_<;>intro h
    ·refine sN<|cT<|qK<|qS<|qB<|CN Z Z<|sV (.ptr 64 4)<|sL Z<|sM Z<|bE h fun U K h=>eG K Z<|sV (.d (ah.pd U))<|bE h fun Q p h=>cD (dn p)<|sF h ?_ ?_<;>intro h
     ·refine sM Z<|k3<|k3<|k3<|k3<|sK<|sK ?_
      refine k3<|sK<|sT ?_
      refine sN<|sO<|cT<|gU Z<|sU<|sN<|qR ?_
      cases oI h
      exact⟨nofun,rfl,rfl⟩
     refine mM Z<|sF h ?_ ?_<;>intro h
     ·refine sM Z<|sV (.ptr 64 4)<|sL Z<|sM Z<|bE h fun a q h=>eG q Z<|sV (.cptr [.int .i64 a.az,.int .i64 a.fTo,.int .i64 a.aM.aI,.int .i64 a.aM.aH,.int .i64 a.aq.fX,.int .i64 a.aq.fY,.int .i64 a.aq.fZ,.lst (a.aB.aA.map ak.pd)])<|sC Z<|sV (.ptr 64 4)<|sL Z<|sM Z<|sV (rI (rW (F-(1:Int))))<|bE h fun b t h=>eG t Z<|sV (.cptr [.int .i64 b.fTo,.int .i64 b.aM.aI,.int .i64 b.aM.aH,.int .i64 b.aq.fX,.int .i64 b.aq.fY,.int .i64 b.aq.fZ,.lst (b.aB.aA.map ak.pd)]) ?_
      refine sC Z<|sV (rB (decide (a.az<b.fTo)))<|sV (rB (decide (a.az<b.fTo)))<|sF h ?_ ?_<;>intro h
      ·refine sN<|sO<|cT<|gU Z<|sU<|sN<|qR ?_
       cases oI h
       exact⟨nofun,rfl,rfl⟩
      refine sN<|sO<|cF<|qK<|CR Z Z<|sM Z<|sV (rI (rW (F+(1:Int))))<|sA Z<|sN ?_
      cases oI h
      exact⟨rfl,rfl⟩
     refine sM Z<|k3<|k3<|k3<|k3<|sK<|sK ?_
     refine sU<|sU ?_
     refine sN<|sO<|cF<|qK<|CR Z Z<|sM Z<|sV (rI (rW (F+(1:Int))))<|sA Z<|sN ?_
     cases oI h
     exact⟨rfl,rfl⟩
    refine sN<|cF<|qX ?_
    cases oI h
    exact⟨nofun,rfl,rfl⟩
   intro e j i he m
   rcases D with I|N
   ·obtain⟨rfl,g⟩:=m
    refine qE<|CR g Z<|sM Z<|sV (rI (rW (I+(1:Int))))<|sA Z<|sN ?_
    cases oI h
    exact⟨rfl,rfl⟩
   obtain⟨rfl,hf⟩:=m
   cases oI h
   exact⟨nofun,rfl,hf⟩
  refine sN<|cF<|qX ?_
  cases oI h
  exact⟨nofun,rfl,rfl⟩
 intro e j i he m
 rcases E with W|O
 ·obtain⟨rfl,g⟩:=m
  refine qE<|gS Z g<|sV (.ptr 16 0)<|sL Z<|sE (rI (a0.am.length:Int)) (ik _ _)<|sV (rB (decide ((a0.am.length:Int)<=(128:Int))))<|sA Z<|sN<|qR ?_
  exact oI h▸qD
 obtain⟨rfl,hf⟩:=m
 cases oI h
 exact hf
theorem jD{a0:ak}{a1:ak}{r:Bool}(h:eP a0 a1=some r):EvP prog aL ext 79 [.d (ak.pd a0),.d (ak.pd a1)] [] (rB r,[]):=by
 refine Ev.body Z Tryz.func79 Z Zk<|gU Z<|sB (.ptr 32 0) 32 (.var (ak.rc a0))<|sB (.ptr 48 0) 48 (.var (ak.rc a1))<|sU<|sN<|qS<|gU Z<|sV (.ptr 32 0)<|sL Z<|sV (.ptr 48 0)<|sL Z<|sF h ?_ ?_<;>intro h
 ·refine sM Z<|k3<|sK<|sK<|sT<|sM Z<|k3<|sK<|sK<|sT<|sM Z ?_
  refine k3<|sK<|sK<|sT<|sM Z<|k3<|sK<|sK<|sT<|sM Z<|sK ?_
  refine k3<|k3<|sT<|sN<|cT<|gU Z<|sU<|sN<|qR ?_
  cases oI h
  exact qG
 refine sM Z<|sV (.ptr 32 1)<|sV (.d (aK.pd a0.aI))<|sV (.ptr 48 1)<|sV (.d (aK.pd a1.aI))<|WO.bin (eqN_82 a0.aI a1.aI) Z Z Z Z Z<|sF h ?_ ?_<;>intro h
 ·refine sM Z<|k3<|sK<|sK<|sT<|sM Z<|k3<|sK<|sK<|sT<|sM Z ?_
  refine k3<|sK<|sK<|sT<|sM Z<|k3<|k3<|sK<|sT ?_
  refine sN<|cT<|gU Z<|sU<|sN<|qR ?_
  cases oI h
  exact qG
 refine sM Z<|sV (.ptr 32 4)<|sV (.d (aK.pd a0.aH))<|sV (.ptr 48 4)<|sV (.d (aK.pd a1.aH))<|WO.bin (eqN_82 a0.aH a1.aH) Z Z Z Z Z<|sF h ?_ ?_<;>intro h
 ·refine sM Z<|k3<|sK<|sK<|sT<|sM Z<|k3<|sK<|sK<|sT<|sM Z ?_
  refine k3<|k3<|sK<|sT<|sN<|cT<|gU Z<|sU<|sN<|qR ?_
  cases oI h
  exact qG
 refine sM Z<|sV (.ptr 32 8)<|sL Z<|sV (.ptr 48 8)<|sL Z<|sV (rB (a0.aJ != a1.aJ))<|sF h ?_ ?_<;>intro h
 ·refine sM Z<|k3<|sK<|sK<|sT<|sM Z<|k3<|k3<|sK ?_
  refine sT<|sN<|cT<|gU Z<|sU<|sN<|qR ?_
  cases oI h
  exact qG
 refine sM Z<|sV (.ptr 32 9)<|sL Z<|sV (.ptr 48 9)<|sL Z<|sV (rB (a0.aS != a1.aS))<|sF h ?_ ?_<;>intro h
 ·refine sM Z<|k3<|k3<|sK<|sT<|sN<|cT<|gU Z<|sU<|sN<|qR ?_
  cases oI h
  exact qG
 refine sM Z<|sV (.ptr 32 7)<|sL Z<|sE (rI (a0.aO.length:Int)) (ik _ _)<|sV (.ptr 48 7)<|sL Z<|sE (rI (a1.aO.length:Int)) (ik _ _)<|sV (rB ((a0.aO.length:Int) != (a1.aO.length:Int)))<|sF h ?_ ?_<;>intro h
 ·refine sN<|cT<|gU Z<|sU<|sN<|qR ?_
  cases oI h
  exact qG
 refine sN<|cF<|qK<|qS<|gU Z<|sV (r0)<|sN<|bE h fun g a h=>CM (CQ (WL.jZ a (fun s=>gI 0 79 4 [(2,.ptr 32 0),(3,.ptr 48 0),(5,rI s)] [(32,.var (ak.rc a0)),(48,.var (ak.rc a1))]) (fun o=>match o with| .inl y=>gX 0 0 79 8 [] []| .inr r=>gF 79 Tryz.f79 0 (rB r,[])) Z ?_ ?_))
 ·rintro m k j t f h
  refine qS<|gS Z f<|sM Z<|sV (.ptr 32 7)<|sL Z<|sE (rI (a0.aO.length:Int)) (ik _ _)<|sF h ?_ ?_<;>intro h
  ·refine sN<|cT<|qK<|qS<|qB<|CN Z Z<|sV (.ptr 32 7)<|sL Z<|sM Z<|bE h fun n b h=>eG b Z<|sC Z<|sV (.ptr 48 7)<|sL Z<|sM Z ?_
   refine bE h fun p c h=>eG c Z<|sC Z<|sF h ?_ ?_<;>intro h
   ·refine sN<|sO<|cT<|gU Z<|sU<|sN<|qR ?_
    cases oI h
    exact⟨nofun,rfl,rfl⟩
   refine sN<|sO<|cF<|qK<|CR Z Z<|sM Z<|sV (rI (rW (m+(1:Int))))<|sA Z<|sN ?_
   cases oI h
   exact⟨rfl,rfl⟩
  refine sN<|cF<|qX ?_
  cases oI h
  exact⟨nofun,rfl,rfl⟩
 intro e k j he i
 rcases g with q|l
 ·obtain⟨rfl,f⟩:=i
  refine qE<|gS Z f<|sT<|sN<|qR ?_
  exact oI h▸qD
 obtain⟨rfl,hf⟩:=i
 cases oI h
 exact hf
theorem ref18_Same_ev{a0:ar}{a1:ar}{r:Bool}(h:fQ a0 a1=some r):EvP prog aL ext 48 [.d (ar.pd a0),.d (ar.pd a1)] [] (rB r,[]):=by
 refine Ev.body Z Tryz.func48 Z Zk<|gU Z<|sB (.ptr 32 0) 32 (.var [rM ak.pd a0.aA])<|sB (.ptr 48 0) 48 (.var [rM ak.pd a1.aA])<|sU<|sN<|qS<|gU Z<|sV (.ptr 32 0)<|sL Z<|sE (rI (a0.aA.length:Int)) (ik _ _)<|sV (.ptr 48 0)<|sL Z<|sE (rI (a1.aA.length:Int)) (ik _ _)<|sF h ?_ ?_<;>intro h
 ·refine sN<|cT<|gU Z<|sU<|sN<|qR ?_
  exact oI h▸qD
 refine sN<|cF<|qK<|qS<|gU Z<|sV (r0)<|sN<|bE h fun c a h=>CM (CQ (WL.jZ a (fun s=>gI 0 48 4 [(2,.ptr 32 0),(3,.ptr 48 0),(5,rI s)] [(32,.var [rM ak.pd a0.aA]),(48,.var [rM ak.pd a1.aA])]) (fun o=>match o with| .inl y=>gX 0 0 48 8 [] []| .inr r=>gF 48 Tryz.f48 0 (rB r,[])) Z ?_ ?_))
 ·rintro s2 i g t b h
  refine qS<|gS Z b<|sM Z<|sV (.ptr 32 0)<|sL Z<|sE (rI (a0.aA.length:Int)) (ik _ _)<|sF h ?_ ?_<;>intro h
  ·refine sN<|cT<|qK<|qS<|qB<|CN Z Z<|sV (.ptr 32 0)<|sL Z<|sM Z<|bE h fun n j h=>eG j Z<|sV (.d (ak.pd n))<|sV (.ptr 48 0)<|sL Z<|sM Z ?_
   refine bE h fun p k h=>eG k Z<|sV (.d (ak.pd p))<|bE h fun u l h=>cD (jD l)<|sF h ?_ ?_<;>intro h
   ·refine sN<|sO<|cT<|gU Z<|sU<|sN<|qR ?_
    cases oI h
    exact⟨nofun,rfl,rfl⟩
   refine sN<|sO<|cF<|qK<|CR Z Z<|sM Z<|sV (rI (rW (s2+(1:Int))))<|sA Z<|sN ?_
   cases oI h
   exact⟨rfl,rfl⟩
  refine sN<|cF<|qX ?_
  cases oI h
  exact⟨nofun,rfl,rfl⟩
 intro e i g he f
 rcases c with q|m
 ·obtain⟨rfl,b⟩:=f
  refine qE<|gS Z b<|sT<|sN<|qR ?_
  exact oI h▸qD
 obtain⟨rfl,hf⟩:=f
 cases oI h
 exact hf
theorem dC{a0:ah}{a1:ah}{r:Bool}(h:ca a0 a1=some r):EvP prog aL ext 22 [.d (ah.pd a0),.d (ah.pd a1)] [] (rB r,[]):=by
 refine Ev.body Z Tryz.func22 Z Zk<|gU Z<|sB (.ptr 32 0) 32 (.var (ah.rc a0))<|sB (.ptr 48 0) 48 (.var (ah.rc a1))<|sU<|sN<|gU Z<|sV (.ptr 32 0)<|sL Z<|sV (.ptr 48 0)<|sL Z<|sF h ?_ ?_<;>intro h
 ·refine sM Z<|sV (.ptr 32 1)<|sL Z<|sV (.ptr 48 1)<|sL Z<|sV (rB (a0.fTo==a1.fTo))<|sF h ?_ ?_<;>intro h
  ·refine sM Z<|sV (.ptr 32 2)<|sV (.d (av.pd a0.aM))<|sV (.ptr 48 2)<|sV (.d (av.pd a1.aM))<|WO.bin (eqE_34 a0.aM a1.aM) Z Z Z Z Z<|sF h ?_ ?_<;>intro h
   ·refine sM Z<|sV (.ptr 32 4)<|sV (.d (aw.pd a0.aq))<|sV (.ptr 48 4)<|sV (.d (aw.pd a1.aq))<|WO.bin (eqE_36 a0.aq a1.aq) Z Z Z Z Z<|sF h ?_ ?_<;>intro h
    ·refine sM Z<|sV (.ptr 32 7)<|sV (.d (ar.pd a0.aB))<|sV (.ptr 48 7)<|sV (.d (ar.pd a1.aB))<|bE h fun b a h=>cD (ref18_Same_ev a)<|sV (rB b)<|sA Z<|sN<|qR ?_
     exact oI h▸qD
    refine sM Z<|k3<|sK<|sK<|sU<|sA Z<|sN<|qR ?_
    exact oI h▸qD
   refine sM Z<|k3<|sK<|sK<|sU<|sM Z<|k3<|sK<|sK<|sU<|sA Z ?_
   refine sN<|qR ?_
   exact oI h▸qD
  refine sM Z<|k3<|sK<|sK<|sU<|sM Z<|k3<|sK<|sK<|sU<|sM Z ?_
  refine k3<|sK<|sK<|sU<|sA Z<|sN<|qR ?_
  exact oI h▸qD
 refine sM Z<|k3<|sK<|sK<|sU<|sM Z<|k3<|sK<|sK<|sU<|sM Z ?_
 refine k3<|sK<|sK<|sU<|sM Z<|k3<|sK<|sK<|sU<|sA Z<|sN ?_
 refine qR ?_
 exact oI h▸qD
theorem ref20_zero_ev{a0:ah}{r:Bool}(h:jE a0=some r):EvP prog aL ext 95 [.d (ah.pd a0)] [] (rB r,[]):=by
 refine Ev.body Z Tryz.func95 Z Zk<|gU Z<|sB (.ptr 16 0) 16 (.var (ah.rc a0))<|sU<|sN<|gU Z<|sV (.d (ah.pd a0))<|sG (.agg zZ1)<|bE h fun a h1 h=>cD (dC h1)<|sA Z<|sN<|qR ?_
 exact oI h▸qD
theorem ref20_fits_ev{a0:ai}{a1:aG}{r:Bool}(h:iF a0 a1=some r):EvP prog aL ext 58 [.d (ai.pd a0),.d (aG.pd a1)] [] (rB r,[]):=by
 refine Ev.body Z Tryz.func58 Z Zk<|gU Z<|sB (.ptr 32 0) 32 (.var [rM aa.pd a0.am])<|sB (.ptr 48 0) 48 (.var (aG.rc a1))<|sU<|sN<|qS<|gU Z<|sV (.d (ai.pd a0))<|bE h fun k h1 h=>cD (eh h1)<|sF h ?_ ?_<;>intro h
 ·refine sM Z<|k3<|sK<|sT<|sM Z<|k3<|sK<|sT<|sN<|cT<|gU Z ?_
  refine sU<|sN<|qR ?_
  cases oI h
  exact qG
 refine sM Z<|sV (.ptr 48 0)<|sL Z<|bE h fun i e h=>cD (aX e)<|sV (rB (!i))<|sF h ?_ ?_<;>intro h
 ·refine sM Z<|k3<|sK<|sT<|sN<|cT<|gU Z<|sU<|sN<|qR ?_
  cases oI h
  exact qG
 refine sM Z<|sV (.ptr 48 1)<|sV (.d (ac.pd a1.aj))<|bE h fun j f h=>cD (fq f)<|sV (rB (!j))<|sF h ?_ ?_<;>intro h
 ·refine sN<|cT<|gU Z<|sU<|sN<|qR ?_
  cases oI h
  exact qG
 refine sN<|cF<|qK<|qS<|gU Z<|sV (.ptr 48 0)<|sL Z<|sF h ?_ ?_<;>intro h
 ·refine sN<|cT<|gU Z<|sV (.ptr 48 6)<|sV (.d (ah.pd a1.bi))<|bE h fun l g h=>cD (ref20_zero_ev g)<|sA Z<|sN<|qR ?_
  cases oI h
  exact qG
 refine sN<|cF<|qK<|gU Z<|sV (.ptr 48 6)<|sV (.d (ah.pd a1.bi))<|bE h fun m c h=>kq h (fun a h=>?_) (fun a h=>?_)
 ·refine WO.lg (v:=rB true) (u:=[]) Z Z (fun _=>Z) Z Z Z Z Z (dn c) Z Z (congrArg (fun b=>RV.d (.bool b)) a) Z<|sM Z<|sV (.ptr 48 0)<|sL Z<|sF h ?_ ?_<;>intro h
  ·refine sM Z<|k3<|k3<|sT<|sT<|sA Z<|sN<|qR ?_
   cases oI h
   exact qG
  refine sM Z<|sV (.ptr 48 5)<|sL Z<|sV (.ptr 48 6)<|sV (.ptr 48 6)<|sL Z<|sV (rB (a1.az==a1.bi.az))<|sV (rB (a1.az==a1.bi.az))<|sV (rB (a1.az==a1.bi.az))<|sA Z<|sN<|qR ?_
  cases oI h
  exact qG
 refine WO.lg (v:=rB false) (u:=[]) Z Z (fun _=>Z) Z Z Z Z Z (dn c) Z Z (congrArg (fun b=>RV.d (.bool b)) a) Z<|sM Z<|k3<|k3<|k3<|sK<|sK<|sU<|sA Z ?_
 refine sN<|qR ?_
 cases oI h
 exact qG
theorem jr{a0:ai}{r:ai}(h:eZ a0=some r):EvP prog aL ext 33 [.d (ai.pd a0)] [] (.agg [.ref 0 0],[.arr 0 32 (r.am.map aa.pd)]):=by
 refine Ev.body Z Tryz.func33 Z Zk<|gU Z<|sB (.ptr 16 0) 16 (.var [rM aa.pd a0.am])<|sB (.ptr 32 0) 32 (.var [.jt])<|sN<|gU Z<|sB (.ptr 48 0) 48 (.var [.jt])<|sN<|qS<|gU Z<|sV (r0)<|sN<|bE h fun B f h=>CM (CQ (WL.jZ f (fun s=>gI 0 33 3 [(1,.ptr 16 0),(2,.ptr 32 0),(3,.ptr 48 0),(4,rI s.1)] [(16,.var [rM aa.pd a0.am]),(32,.var [.jt]),(48,.var [.ref 816 0]),(816,.arr 0 32 (s.2.map aa.pd))]) (fun o=>gX 0 0 33 11 [(2,.ptr 32 0),(3,.ptr 48 0)] [(32,.var [.jt]),(48,.var [.ref 816 0]),(816,.arr 0 32 (o.map aa.pd))]) Z ?_ ?_))
 ·rintro⟨s1,s2⟩ k j G b h
  refine qS<|gS Z b<|sM Z<|sV (.ptr 16 0)<|sL Z<|sE (rI (a0.am.length:Int)) (ik _ _)<|sF h ?_ ?_<;>intro h
  ·refine sN<|cT<|qK<|qS<|qB<|gU Z<|sV (.ptr 16 0)<|sL Z<|sM Z<|bE h fun a z h=>eG z Z<|sV (.cptr [.str a.aj.aD,.str a.aj.aC,.str a.aj.au,.str a.aj.aF,.lst (a.al.map ah.pd)])<|sV (.d (ac.pd a.aj))<|sV (.agg (ac.rc a.aj++[.jt]))<|sB (.ptr 80 0) 80 (.var zZ2) ?_
   refine sS 80 (.var (ac.rc a.aj++[.jt]))<|sN<|qS<|gU Z<|sV (r0)<|sN<|bE h fun g c h=>CM (CQ (WL.jZ c (fun s=>gI 0 33 7 [(1,.ptr 16 0),(2,.ptr 32 0),(3,.ptr 48 0),(4,rI s1),(5,.ptr 80 0),(6,rI s.1)] [(16,.var [rM aa.pd a0.am]),(32,.var [.jt]),(48,.var [.ref 816 0]),(80,.var (ac.rc a.aj++[.ref 720 0])),(720,.arr 0 41 (s.2.map ah.pd)),(816,.arr 0 32 (s2.map aa.pd))]) (fun o=>gX 2 0 33 10 [(1,.ptr 16 0),(2,.ptr 32 0),(3,.ptr 48 0),(4,rI o.1),(5,.ptr 80 0)] [(16,.var [rM aa.pd a0.am]),(32,.var [.jt]),(48,.var [.ref 816 0]),(80,.var (ac.rc a.aj++[.ref 720 0])),(720,.arr 0 41 (o.2.2.map ah.pd)),(816,.arr 0 32 (o.2.1.map aa.pd))]) Z ?_ ?_))
   ·rintro⟨D,H⟩ k j C b h
    unfold cN at h
    refine qS<|gS Z b<|sM Z<|sV (.ptr 16 0)<|sL Z<|sM Z<|bE h fun i l h=>eG l Z<|sV (.cptr [.lst (i.al.map ah.pd)])<|sC Z<|sE (rI (i.al.length:Int)) (ik _ _)<|sF h ?_ ?_<;>intro h
    ·refine sN<|cT<|qK<|qS<|qB<|CO Z Z<|sV (.ptr 80 4)<|sL Z<|sV (.ptr 16 0)<|sL Z<|sM Z<|bE h fun v m h=>eG m Z<|sV (.cptr [.lst (v.al.map ah.pd)])<|sC Z ?_
     refine sM Z<|bE h fun x n h=>eG n Z<|sV (.d (ah.pd x))<|bE h fun y p h=>cD (e9 p)<|sG (.d (.lst ([y].map ah.pd)))<|bE h fun E q h=>aR q (fun _=>Z) Z<|sV (.ptr 80 4)<|sS 80 (.var (ac.rc a.aj++[.ref 720 1])) ?_
     refine sN<|sO<|CR Z Z<|sM Z<|sV (rI (rW (D+(1:Int))))<|sA Z<|sN ?_
     cases oI h
     exact⟨rfl,rfl⟩
    refine sN<|cF<|qX ?_
    cases oI h
    exact⟨nofun,rfl,rfl⟩
   intro e k j he u
   obtain⟨rfl,b⟩:=u
   refine qE<|CR b Z<|sV (.ptr 48 0)<|sL Z<|sV (.agg (ac.rc a.aj++[.ref 720 0]))<|sB (.d (.lst [aa.pd (aa.mk a.aj g.2.2)])) 720 .dead<|bE h fun F t h=>aR t (fun _=>Z) Z<|sV (.ptr 48 0)<|sS 48 (.var [.ref 816 1])<|sN<|CR Z Z<|sM Z<|sV (rI (rW (g.1+(1:Int))))<|sA Z ?_
   refine sN ?_
   cases oI h
   exact⟨rfl,rfl⟩
  refine sN<|cF<|qX ?_
  cases oI h
  exact⟨nofun,rfl,rfl⟩
 intro e k j he u
 obtain⟨rfl,b⟩:=u
 refine qE<|gS Z b<|sV (.agg [.ref 816 0])<|sS 32 (.var [.ref 816 0])<|sN<|qR ?_
 exact oI h▸qD
theorem ref20_place_ev{a0:ai}{a1:aG}{r:Int×Int}(h:ic a0 a1=some r):EvP prog aL ext 59 [.d (ai.pd a0),.d (aG.pd a1)] [] (.tup [rI r.1,rI r.2],[]):=by
 refine Ev.body Z Tryz.func59 Z Zk<|gU Z<|sB (.ptr 32 0) 32 (.var [rM aa.pd a0.am])<|sB (.ptr 48 0) 48 (.var (aG.rc a1))<|sV (r0)<|sV (r0)<|sN<|qS<|gU Z<|sV (r0)<|sN<|bE h fun q i h=>CM (CQ (WL.jZ i (fun s=>gI 0 59 2 [(2,.ptr 32 0),(3,.ptr 48 0),(6,rI s)] [(32,.var [rM aa.pd a0.am]),(48,.var (aG.rc a1))]) (fun o=>match o with| .inl y=>gX 0 0 59 11 [] []| .inr r=>gF 59 Tryz.f59 0 (.tup [rI r.1,rI r.2],[])) Z ?_ ?_))
 ·rintro s1 l k F c h
  refine qS<|gS Z c<|sM Z<|sV (.ptr 32 0)<|sL Z<|sE (rI (a0.am.length:Int)) (ik _ _)<|sF h ?_ ?_<;>intro h
  ·refine sN<|cT<|qK<|qS<|qB<|qS<|CN Z Z<|sV (.ptr 32 0)<|sL Z<|sM Z<|bE h fun b v h=>eG v Z<|sV (.cptr [.str b.aj.aD,.str b.aj.aC,.str b.aj.au,.str b.aj.aF,.lst (b.al.map ah.pd)])<|sV (.d (ac.pd b.aj))<|sV (.ptr 48 1) ?_
   refine sV (.d (ac.pd a1.aj))<|kq h (fun f h=>?_) (fun f h=>?_)
   ·refine WO.mX (eqN_27 b.aj a1.aj) f Z Z Z Z Z ?_
    refine sN<|sO<|cT<|qX<|qE<|CR Z Z<|sM Z<|sV (rI (rW (s1+(1:Int))))<|sA Z<|sN ?_
    cases oI h
    exact⟨rfl,rfl⟩
   refine WO.mX (eqN_27 b.aj a1.aj) f Z Z Z Z Z ?_
   refine sN<|sO<|cF<|qK<|qS<|gU Z<|sV (r0)<|sN<|bE h fun p g h=>CM (CQ (WL.jZ g (fun s=>gI 0 59 6 [(2,.ptr 32 0),(3,.ptr 48 0),(6,rI s1),(7,rI s)] [(32,.var [rM aa.pd a0.am]),(48,.var (aG.rc a1))]) (fun o=>match o with| .inl y=>gX 2 0 59 10 [(6,rI y)] []| .inr r=>gF 59 Tryz.f59 0 (.tup [rI r.1,rI r.2],[])) Z ?_ ?_))
   ·rintro C l k G c h
    refine qS<|gS Z c<|sM Z<|sV (.ptr 32 0)<|sL Z<|sM Z<|bE h fun u x h=>eG x Z<|sV (.cptr [.lst (u.al.map ah.pd)])<|sC Z<|sE (rI (u.al.length:Int)) (ik _ _)<|sF h ?_ ?_<;>intro h
    ·refine sN<|cT<|qK<|qS<|qB<|CN Z Z<|sV (.ptr 32 0)<|sL Z<|sM Z<|bE h fun t m h=>eG m Z<|sV (.cptr [.lst (t.al.map ah.pd)])<|sC Z<|sM Z<|bE h fun a n h=>?_
     refine eG n Z<|sV (.cptr [.int .i64 a.az,.int .i64 a.fTo,.int .i64 a.aM.aI,.int .i64 a.aM.aH,.int .i64 a.aq.fX,.int .i64 a.aq.fY,.int .i64 a.aq.fZ,.lst (a.aB.aA.map ak.pd)])<|sC Z<|sV (.ptr 48 5)<|sL Z<|sF h ?_ ?_<;>intro h
     ·refine sN<|sO<|cT<|gU Z<|mM Z<|sA Z<|sA Z<|sN<|qR ?_
      cases oI h
      exact⟨nofun,rfl,rfl⟩
     refine sN<|sO<|cF<|qK<|CR Z Z<|sM Z<|sV (rI (rW (C+(1:Int))))<|sA Z<|sN ?_
     cases oI h
     exact⟨rfl,rfl⟩
    refine sN<|cF<|qX ?_
    cases oI h
    exact⟨nofun,rfl,rfl⟩
   intro e l k he j
   rcases p with D|z
   ·obtain⟨rfl,c⟩:=j
    refine qE<|gS Z c<|sM Z<|sA Z<|sV (rI (-1))<|sN<|qR ?_
    cases oI h
    exact⟨nofun,rfl,rfl⟩
   obtain⟨rfl,hf⟩:=j
   cases oI h
   exact⟨nofun,rfl,hf⟩
  refine sN<|cF<|qX ?_
  cases oI h
  exact⟨nofun,rfl,rfl⟩
 intro e l k he j
 rcases q with E|B
 ·obtain⟨rfl,c⟩:=j
  refine qE<|gS Z c<|sV (rI (-1))<|sV (rI (-1))<|sN<|qR ?_
  exact oI h▸qD
 obtain⟨rfl,hf⟩:=j
 cases oI h
 exact hf
theorem ib{a0:(List ah)}{a1:ah}{r:Bool}(h:fy a0 a1=some r):EvP prog aL ext 60 [rM ah.pd a0,.d (ah.pd a1)] [] (rB r,[]):=by
 refine Ev.body Z Tryz.func60 Z Zk<|gU Z<|sB (.ptr 48 0) 48 (.var (ah.rc a1))<|sU<|sN<|qS<|gU Z<|sV (r0)<|sN<|bE h fun m f h=>CM (CQ (WL.jZ f (fun s=>gI 0 60 2 [(0,rM ah.pd a0),(3,.ptr 48 0),(5,rI s)] [(48,.var (ah.rc a1))]) (fun o=>match o with| .inl y=>gX 0 0 60 6 [] []| .inr r=>gF 60 Tryz.f60 0 (rB r,[])) Z ?_ ?_))
 ·rintro s1 j i q c h
  refine qS<|gS Z c<|mM Z<|sE (rI (a0.length:Int)) (ik _ _)<|sF h ?_ ?_<;>intro h
  ·refine sN<|cT<|qK<|qS<|qB<|CN Z Z<|mM Z<|bE h fun a k h=>eG k Z<|sV (.cptr [.int .i64 a.az,.int .i64 a.fTo,.int .i64 a.aM.aI,.int .i64 a.aM.aH,.int .i64 a.aq.fX,.int .i64 a.aq.fY,.int .i64 a.aq.fZ,.lst (a.aB.aA.map ak.pd)])<|sC Z<|sV (.ptr 48 1)<|sL Z<|sF h ?_ ?_<;>intro h
   ·refine sM Z<|sV (.ptr 48 0)<|sL Z<|mM Z<|bE h fun b l h=>eG l Z<|sV (.cptr [.int .i64 b.fTo,.int .i64 b.aM.aI,.int .i64 b.aM.aH,.int .i64 b.aq.fX,.int .i64 b.aq.fY,.int .i64 b.aq.fZ,.lst (b.aB.aA.map ak.pd)])<|sC Z<|sV (rB (decide (a1.az<b.fTo)))<|sF h ?_ ?_<;>intro h
    ·refine sN<|sO<|cT<|gU Z<|sT<|sN<|qR ?_
     cases oI h
     exact⟨nofun,rfl,rfl⟩
    refine sN<|sO<|cF<|qK<|CR Z Z<|sM Z<|sV (rI (rW (s1+(1:Int))))<|sA Z<|sN ?_
    cases oI h
    exact⟨rfl,rfl⟩
   refine sM Z<|k3<|k3<|sK<|sK<|sU ?_
   refine sN<|sO<|cF<|qK<|CR Z Z<|sM Z<|sV (rI (rW (s1+(1:Int))))<|sA Z<|sN ?_
   cases oI h
   exact⟨rfl,rfl⟩
  refine sN<|cF<|qX ?_
  cases oI h
  exact⟨nofun,rfl,rfl⟩
 intro e j i he g
 rcases m with p|n
 ·obtain⟨rfl,c⟩:=g
  refine qE<|gS Z c<|sU<|sN<|qR ?_
  exact oI h▸qD
 obtain⟨rfl,hf⟩:=g
 cases oI h
 exact hf
end Go.Dw.Ix
