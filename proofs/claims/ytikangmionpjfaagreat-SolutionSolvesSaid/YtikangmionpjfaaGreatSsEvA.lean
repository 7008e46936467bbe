
import Derived.Test.YtikangmionpjfaaGreatSsFn
import Derived.Test.YtikangmionpjfaaGreatSsBenD
import Derived.Test.YtikangmionpjfaaGreatDwShort
import Derived.Test.YtikangmionpjfaaGreatDwNest
import Derived.Test.YtikangmionpjfaaGreatDwAuto
import Derived.Test.YtikangmionpjfaaGreatProg
import Derived.Test.YtikangmionpjfaaGreatDwClone
import Derived.Test.YtikangmionpjfaaGreatDwSortI
import Derived.Test.YtikangmionpjfaaGreatDwConst
import Derived.Test.YtikangmionpjfaaGreatDwSort
set_option linter.unusedVariables false
set_option linter.unusedSimpArgs false
open Go.Dw.WC renaming region->EH

set_option maxRecDepth 100000
set_option maxHeartbeats 4000000
namespace Go.Dw.Ss
open Go.Proofs Go.Proofs.Tryz Go.Dw
@[reducible] def rW(n:Int):Int:=IntKind.wrap .i64 n
@[reducible] def rI(n:Int):RV:= .d (.int .i64 n)
@[reducible] def r0:RV:= .d (.int .i64 0)
@[reducible] def rS(s:List UInt8):RV:= .d (.str s)
@[reducible] def rB(b:Bool):RV:= .d (.bool b)
@[reducible] def rM{α:Type}(g:α->PD)(l:List α):RV:= .d (.lst (l.map g))
@[reducible] def rL(l:List Int):RV:= .d (.lst (l.map (PD.int .i64)))
@[reducible] def zZ0:List RV:=[.d (.int .i64 0),.d (.int .i64 0),.d (.int .i64 0),.d (.int .i64 0),.d (.int .i64 0),.d (.int .i64 0),.d (.int .i64 0),.d (.int .i64 0),.d (.int .i64 0),.d (.int .i64 0),.d (.int .i64 0),.d (.int .i64 0)]
@[reducible] def aj.rc(x:aj):List RV:=[.d (.int .i64 x.ae.bk.bh.fX),.d (.int .i64 x.ae.bk.bh.fY),.d (.int .i64 x.ae.bk.bh.fZ),.d (.int .i64 x.ae.bk.av.fX),.d (.int .i64 x.ae.bk.av.fY),.d (.int .i64 x.ae.bk.av.fZ),.d (.int .i64 x.ae.bJ.bS),.d (.lst (x.ae.bJ.bh.map (PD.int .i64))),.d (.lst (x.ae.bJ.av.map (PD.int .i64))),.d (.int .i64 x.ae.dL),.d (.int .i64 x.ae.bz),.d (.int .i64 x.ae.ey),.d (.int .i64 x.ae.dq),.d (.int .i64 x.ae.dp),.d (.int .i64 x.bN.bF.bS),.d (.lst (x.bN.bF.bh.map (PD.int .i64))),.d (.lst (x.bN.bF.av.map (PD.int .i64))),.d (.int .i64 x.bN.bI),.d (.int .i64 x.bN.bG),.d (.int .i64 x.bz)]
@[reducible] def ak.rc(x:ak):List RV:=[.d (.str x.bc.bH),.d (.str x.bc.bv),.d (.str x.bc.bd),.d (.str x.bc.bL),.d (.int .i64 x.cb),.d (.int .i64 x.bV),.d (.int .i64 x.ch),.d (.int .i64 x.bK),.d (.int .i64 x.bO)]
@[reducible] def bq.rc(x:bq):List RV:=[.d (.int .i64 x.ct),.d (.int .i64 x.bI.a0),.d (.int .i64 x.bI.a1),.d (.int .i64 x.bI.a2),.d (.int .i64 x.bG.a0),.d (.int .i64 x.bG.a1),.d (.int .i64 x.bG.a2),.d (.lst (x.cf.map (PD.int .i64))),.d (.int .i64 x.bR),.d (.int .i64 x.cn)]
@[reducible] def bZ.rc(x:bZ):List RV:=[.d (.int .i64 x.fp.bk.bh.fX),.d (.int .i64 x.fp.bk.bh.fY),.d (.int .i64 x.fp.bk.bh.fZ),.d (.int .i64 x.fp.bk.av.fX),.d (.int .i64 x.fp.bk.av.fY),.d (.int .i64 x.fp.bk.av.fZ),.d (.int .i64 x.fp.bJ.bS),.d (.lst (x.fp.bJ.bh.map (PD.int .i64))),.d (.lst (x.fp.bJ.av.map (PD.int .i64))),.d (.lst (x.fp.bT.map br.pd)),.d (.int .i64 x.fp.dL),.d (.lst (x.lV.map ap.pd)),.d (.int .i64 x.jZ),.d (.int .i64 x.ftaken),.d (.bool x.ffound),.d (.int .i64 x.cg.b7.fX),.d (.int .i64 x.cg.b7.fY),.d (.int .i64 x.cg.b7.fZ),.d (.int .i64 x.cg.cb),.d (.int .i64 x.cg.ci),.d (.int .i64 x.cg.jW),.d (.int .i64 x.cg.bX.bh.fX),.d (.int .i64 x.cg.bX.bh.fY),.d (.int .i64 x.cg.bX.bh.fZ),.d (.int .i64 x.cg.bX.av.fX),.d (.int .i64 x.cg.bX.av.fY),.d (.int .i64 x.cg.bX.av.fZ)]
@[reducible] def al.rc(x:al):List RV:=[.d (.int .i64 x.b7.fX),.d (.int .i64 x.b7.fY),.d (.int .i64 x.b7.fZ),.d (.int .i64 x.cb),.d (.int .i64 x.ci),.d (.int .i64 x.jW),.d (.int .i64 x.bX.bh.fX),.d (.int .i64 x.bX.bh.fY),.d (.int .i64 x.bX.bh.fZ),.d (.int .i64 x.bX.av.fX),.d (.int .i64 x.bX.av.fY),.d (.int .i64 x.bX.av.fZ)]
@[reducible] def ai.rc(x:ai):List RV:=[.d (.int .i64 x.bk.bh.fX),.d (.int .i64 x.bk.bh.fY),.d (.int .i64 x.bk.bh.fZ),.d (.int .i64 x.bk.av.fX),.d (.int .i64 x.bk.av.fY),.d (.int .i64 x.bk.av.fZ),.d (.int .i64 x.bJ.bS),.d (.lst (x.bJ.bh.map (PD.int .i64))),.d (.lst (x.bJ.av.map (PD.int .i64))),.d (.lst (x.bT.map br.pd)),.d (.int .i64 x.dL)]
@[reducible] def ap.rc(x:ap):List RV:=[.d (.int .i64 x.dC.bh.fX),.d (.int .i64 x.dC.bh.fY),.d (.int .i64 x.dC.bh.fZ),.d (.int .i64 x.dC.av.fX),.d (.int .i64 x.dC.av.fY),.d (.int .i64 x.dC.av.fZ),.d (.int .i64 x.bY),.d (.int .i64 x.jZ)]
@[reducible] def ah.rc(x:ah):List RV:=[.d (.int .i64 x.bh.fX),.d (.int .i64 x.bh.fY),.d (.int .i64 x.bh.fZ),.d (.int .i64 x.av.fX),.d (.int .i64 x.av.fY),.d (.int .i64 x.av.fZ)]
@[reducible] def bu.rc(x:bu):List RV:=[.d (.lst (x.mD.map ak.pd)),.d (.int .i64 x.bd.b7.fX),.d (.int .i64 x.bd.b7.fY),.d (.int .i64 x.bd.b7.fZ),.d (.int .i64 x.bd.cb),.d (.int .i64 x.bd.ci),.d (.int .i64 x.bd.jW),.d (.int .i64 x.bd.bX.bh.fX),.d (.int .i64 x.bd.bX.bh.fY),.d (.int .i64 x.bd.bX.bh.fZ),.d (.int .i64 x.bd.bX.av.fX),.d (.int .i64 x.bd.bX.av.fY),.d (.int .i64 x.bd.bX.av.fZ),.d (.int .i64 x.dM.bh),.d (.int .i64 x.dM.av),.d (.int .i64 x.oz)]
@[reducible] def br.rc(x:br):List RV:=[.d (.int .i64 x.bv.fX),.d (.int .i64 x.bv.fY),.d (.int .i64 x.bv.fZ),.d (.int .i64 x.bV),.d (.int .i64 x.ch),.d (.int .i64 x.d7)]
@[reducible] def bj.rc(x:bj):List RV:=[.d (.str x.bH),.d (.str x.bv),.d (.str x.bd),.d (.str x.bL)]
@[reducible] def ag.rc(x:ag):List RV:=[.d (.lst (x.fL.map (PD.int .i64))),.d (.int .i64 x.fAt)]
@[reducible] def aw.rc(x:aw):List RV:=[.d (.int .i64 x.bS),.d (.lst (x.bh.map (PD.int .i64))),.d (.lst (x.av.map (PD.int .i64)))]
@[reducible] def bC.rc(x:bC):List RV:=[.d (.int .i64 x.bF.bS),.d (.lst (x.bF.bh.map (PD.int .i64))),.d (.lst (x.bF.av.map (PD.int .i64))),.d (.int .i64 x.bI),.d (.int .i64 x.bG)]
@[reducible] def bt.rc(x:bt):List RV:=[.d (.int .i64 x.bk.bh.fX),.d (.int .i64 x.bk.bh.fY),.d (.int .i64 x.bk.bh.fZ),.d (.int .i64 x.bk.av.fX),.d (.int .i64 x.bk.av.fY),.d (.int .i64 x.bk.av.fZ),.d (.int .i64 x.bJ.bS),.d (.lst (x.bJ.bh.map (PD.int .i64))),.d (.lst (x.bJ.av.map (PD.int .i64))),.d (.int .i64 x.dL),.d (.int .i64 x.bz),.d (.int .i64 x.ey),.d (.int .i64 x.dq),.d (.int .i64 x.dp)]
@[reducible] def aa.rc(x:aa):List RV:=[.d (.int .i64 x.fX),.d (.int .i64 x.fY),.d (.int .i64 x.fZ)]
theorem Z{α:Sort _}{a:α}:a=a:=rfl
theorem Zk{α:Sort _}{a b:α}(h:a=b:=by kernel_rfl):a=b:=h
theorem gU{P:Program}{H:Hints}{ext:FuncId->Option pA}{f:FuncId}{a:Nat}{R:List (Nat×RV)}{B:List (Nat×Box)}{Q:Ex->List (Nat×RV)->List (Nat×Box)->Prop}{id:Nat}{ops:Array Oper}{l:List Oper}{R0:List (Nat×RV)}{B0:List (Nat×Box)}{b:Code}(c:(ops.toList,pK P a (A R B) (H.at_ f a id))=(l,some (A R0 B0)))
    (h:WO P H ext (H.hf f) ops l R0 B0 fun j g _=>WC P H ext f a b j g Q):WC P H ext f a (.seq (.region id ops false) b) R B Q:=gS (congrArg Prod.fst c) (congrArg Prod.snd c) h
theorem mM{P:Program}{H:Hints}{ext:FuncId->Option pA}{mt:Hf}{ops:Array Oper}{l:List Oper}{R:List (Nat×RV)}{B:List (Nat×Box)}{K:List (Nat×RV)->List (Nat×Box)->List Tr->Prop}{d e:Nat}{ty j:TypeId}{p q:String}{a c:Array Edge}{g k:Option (Nat×Bool)}{x y:Operand}{v w:RV}(f:((A R B).opd x,(A ((d,v)::R) B).opd y)=(some v,some w))(h:WO P H ext mt ops l ((e,w)::(d,v)::R) B fun t r ts=>K t r (⟨[],[]⟩::⟨[],[]⟩::ts))(hw:pc ops (A R B) ⟨some d,.move x,ty,p,a,g⟩=some true:=by exact rfl)(hu:pc ops (A ((d,v)::R) B) ⟨some e,.move y,j,q,c,k⟩=some true:=by exact rfl):WO P H ext mt ops (⟨some d,.move x,ty,p,a,g⟩::⟨some e,.move y,j,q,c,k⟩::l) R B K:=
  sM (congrArg Prod.fst f) (sM (congrArg Prod.snd f) h hu) hw
def hintAt:FuncId->Nat->Nat->List vU:=fun f a id=>
  if f<133 then(if f<58 then(if f<37 then(if f<18 then(if f<9 then(if f<5 then(if f=3 then(if a=0 then(if id=9 then [.cI [2,4,5,10,11,12,13,14] [64,80,160,176,208,224]]else if id=11 then [.frz (.cell 240 0),.cI [2,5,11,12,14,15,73,74,75] [80,176,224,240]]else if id=16 then [.cI [2,5,11,12,14,15,17,73,74,75,87,88,89] [80,176,224,240,272]]else if id=19 then [.cI [2,5,11,12,14,15,17,19,73,74,75,87,88,89,95,96,97] [80,176,224,240,272,304]]else if id=22 then [.cI [2,5,11,12,14,15,17,19,21,73,74,75,87,88,89,95,96,97,102,103] [80,176,224,240,272,304]]else if id=29 then [.cI [2,5,11,12,14,15,17,19,21,73,74,75,87,88,89,95,96,97] [80,176,224,240,272,304]]else if id=36 then [.cI [2,5,11,12,14,15,17,19,27,29,33,73,74,75,87,88,89,95,96,97,211,212] [80,176,224,240,272,304,432,464,528]]else if id=41 then [.cI [2,5,11,12,14,15,17,19,33,73,74,75,87,88,89,95,96,97] [80,176,224,240,272,304,528]]else if id=43 then [.cI [2,5,11,12,14,15,17,73,74,75,87,88,89] [80,176,224,240,272]]else if id=44 then [.cI [2,5,11,12,14,15,73,74,75] [80,176,224,240]]else if id=45 then [.cI [] []]else [])else [])else [])else(if f=5 then(if a=0 then(if id=2 then [.cI [1,7,8] [16]]else if id=7 then [.cI [1,3,7,8,25,26] [16]]else if id=12 then [.cI [1,7,8] [16]]else if id=13 then [.cI [1] [16]]else [])else [])else []))else(if f<10 then(if f=9 then(if a=1 then(if id=3 then [.ownp (.cell 80 0) 1104 81,.cI [0,1,4,5,6] [0,64,80,1104]]else if id=16 then [.cI [4,5] [0,64,80,1104]]else [])else [])else [])else(if f<12 then(if f=10 then(if a=1 then(if id=4 then [.own 9 2192 67,.cI [0,5,6,9,10,11,12] [0,80,96,160,2192]]else if id=12 then [.cI [0,5,6,9,10,11,12,13,14,16] [0,80,96,160,208,224,2192]]else if id=14 then [.cI [0,5,6,9,10,11,12,13,16] [0,80,96,160,208,2192]]else if id=18 then [.cI [0,5,6,9,10,11,12,13] [0,80,96,160,208,2192]]else if id=21 then [.cI [9] [0,2192]]else [])else [])else [])else(if f=12 then(if a=1 then(if id=3 then [.ownp (.cell 80 0) 400 81,.cI [0,4,5,10,11,12] [0,64,80,400]]else if id=8 then [.cI [0,4,5] [0,64,80,400]]else [])else [])else []))))else(if f<28 then(if f<24 then(if f=18 then(if a=0 then(if id=7 then [.ownp (.cell 128 9) 816 61,.cI [3,4,6,8,34,35,36] [48,64,96,128,816]]else if id=12 then [.cI [6,8] [96,128,816]]else [])else [])else [])else(if f<25 then(if f=24 then(if a=0 then(if id=3 then [.cI [3,27,28,29] []]else [])else [])else [])else(if f=25 then(if a=0 then(if id=2 then [.cI [1,6,7] [16]]else if id=7 then [.cI [1] [16]]else [])else [])else [])))else(if f<31 then(if f=28 then(if a=1 then(if id=3 then [.cI [2,3,16,17] [0,32,48,96,97]]else if id=7 then [.cI [2,3] [0,32,48,96,97]]else [])else [])else [])else(if f<34 then(if f=31 then(if a=1 then(if id=3 then [.ownp (.cell 48 0) 1040 134,.cI [0,2,3,4] [0,32,48,1040]]else if id=13 then [.cI [2,3] [0,32,48,1040]]else [])else [])else [])else(if f=34 then(if a=0 then(if id=2 then [.cI [2,4,6,13,14,15] [64,96]]else if id=5 then [.cI [2,4,6,9,13,14,15,20,21,22] [64,96,144]]else if id=10 then [.cI [2,4,6,13,14,15] [64,96]]else if id=11 then [.cI [6] [96]]else [])else [])else [])))))else(if f<50 then(if f<45 then(if f<38 then(if f=37 then(if a=1 then(if id=5 then [.frz (.cell 80 1),.frz (.cell 80 2),.cI [4,5] [0,64,80]]else if id=13 then [.frz (.cell 80 1),.cI [4,5] [0,64,80,192]]else if id=15 then [.frz (.cell 80 2),.cI [4,5] [0,64,80,128]]else [])else [])else [])else(if f<42 then(if f=38 then(if a=0 then(if id=6 then [.cI [2,52,53,54] [32]]else if id=12 then [.cI [] []]else [])else [])else [])else(if f=42 then(if a=0 then(if id=2 then [.cI [1,6,7,8] [16]]else if id=7 then [.cI [1] [16]]else [])else [])else [])))else(if f<47 then(if f=45 then(if a=0 then(if id=5 then [.cI [2,6,8,10] [96,128]]else if id=9 then [.cI [6] [96]]else [])else [])else [])else(if f<49 then(if f=47 then(if a=0 then(if id=7 then [.ownp (.cell 128 0) 704 67,.ownp (.cell 128 1) 784 61,.ownp (.cell 128 2) 864 89,.cI [3,4,6,8,25,26,27] [48,64,96,128,704,784,864]]else if id=13 then [.cI [6,8] [96,128,704,784,864]]else [])else [])else [])else(if f=49 then(if a=0 then(if id=2 then [.cI [1,3] [16]]else if id=3 then [.cI [1,3] [16]]else if id=7 then [.cI [1,3,4] [16,64]]else if id=8 then [.cI [1,3,4,5] [16,64]]else if id=12 then [.cI [1] [16]]else [])else [])else []))))else(if f<55 then(if f<51 then(if f=50 then(if a=0 then(if id=3 then [.own 7 480 67,.cI [3,4,7,13,14,15] [48,64,480]]else if id=9 then [.cI [7] [480]]else [])else [])else [])else(if f<52 then(if f=51 then(if a=0 then(if id=7 then [.cI [4,8,37,38,39] [64,128]]else if id=13 then [.cI [4,8] [64,128]]else [])else [])else [])else(if f=52 then(if a=0 then(if id=3 then [.own 7 816 52,.cI [3,4,5,7,13,14,15] [48,64,80,816]]else if id=9 then [.cI [7] [816]]else [])else [])else [])))else(if f<56 then(if f=55 then(if a=0 then(if id=9 then [.own 10 1072 52,.cI [4,5,7,10,29,30,31] [64,80,112,1072]]else if id=16 then [.cI [10] [1072]]else [])else [])else [])else(if f<57 then(if f=56 then(if a=0 then(if id=5 then [.own 4 576 3,.own 5 704 3,.cI [0,2,4,5,6] [32,576,704]]else if id=10 then [.cI [2,4,5] [32,576,704]]else [])else [])else [])else(if f=57 then(if a=0 then(if id=4 then [.cI [0,1,5] []]else if id=8 then [.cI [] []]else [])else [])else []))))))else(if f<104 then(if f<77 then(if f<65 then(if f<61 then(if f=58 then(if a=0 then(if id=4 then [.cI [0,1,12,13] []]else if id=9 then [.cI [] []]else [])else [])else [])else(if f=61 then(if a=1 then(if id=4 then [.ownp (.cell 48 1) 432 3,.ownp (.cell 48 2) 512 3,.cI [0,2,3,4,5,6] [0,32,48,432,512]]else if id=9 then [.cI [2,3] [0,32,48,432,512]]else [])else [])else []))else(if f<69 then(if f=65 then(if a=0 then(if id=6 then [.cI [1,4,5,33,34] [16]]else if id=12 then [.cI [] []]else [])else [])else [])else(if f<71 then(if f=69 then(if a=0 then(if id=4 then [.cI [1,3] [16]]else if id=10 then [.cI [] []]else [])else [])else [])else(if f=71 then(if a=0 then(if id=2 then [.cI [0,5,6,7] []]else if id=7 then [.cI [0] []]else [])else [])else []))))else(if f<88 then(if f<86 then(if f=77 then(if a=0 then(if id=2 then [.cI [2,3,4,6] [32,48,64]]else if id=6 then [.cI [4] [64]]else [])else [])else [])else(if f<87 then(if f=86 then(if a=0 then(if id=3 then [.own 3 816 67,.cI [0,3,4] [816]]else if id=6 then [.cI [0,3,4,5] [816]]else if id=8 then [.cI [0,3,4,5] [816]]else if id=9 then [.cI [0,3,4,5] [816]]else if id=12 then [.cI [3] [816]]else [])else [])else [])else(if f=87 then(if a=0 then(if id=10 then [.cI [1,7] [304,368]]else if id=14 then [.frz (.cell 304 11),.cI [7] [304]]else [])else [])else [])))else(if f<94 then(if f=88 then(if a=0 then(if id=5 then [.cI [4,5,6,7,8,31] [64,80,96,112,128]]else [])else [])else [])else(if f<97 then(if f=94 then(if a=0 then(if id=3 then [.own 5 304 3,.cI [1,5,8,9,10] [304]]else if id=7 then [.cI [5] [304]]else [])else [])else [])else(if f=97 then(if a=0 then(if id=10 then [.cI [1,2,4,10,11,12] [32,64,176,736]]else if id=12 then [.cI [1,2,4,10,11,12,13] [32,64,176,736]]else if id=19 then [.cI [1,2,4,10,11,12,13] [32,64,176,736]]else if id=25 then [.cI [4,10,11,12] [64,176,736]]else if id=27 then [.cI [4,10,11,12,25] [64,176,736]]else if id=31 then [.cI [4,11,12] [64,176]]else [])else [])else [])))))else(if f<117 then(if f<111 then(if f<107 then(if f=104 then(if a=0 then(if id=2 then [.cI [0,1,2,9,10] []]else if id=7 then [.cI [0,1,2] []]else [])else [])else [])else(if f<110 then(if f=107 then(if a=0 then(if id=3 then [.cI [3,6,7,8] []]else if id=8 then [.cI [3] []]else [])else [])else [])else(if f=110 then(if a=0 then(if id=2 then [.cI [3,4,9,10,11] [48,64]]else if id=7 then [.cI [4] [64]]else [])else [])else [])))else(if f<112 then(if f=111 then(if a=0 then(if id=2 then [.cI [1,4,9,10,11] [64]]else if id=7 then [.cI [4] [64]]else [])else [])else [])else(if f<113 then(if f=112 then(if a=0 then(if id=2 then [.cI [0,1,2,7] []]else if id=6 then [.cI [0,1,2] []]else [])else [])else [])else(if f=113 then(if a=0 then(if id=3 then [.ownp (.cell 48 0) 816 81,.cI [1,2,3,4] [16,32,48,816]]else if id=7 then [.ownp (.cell 80 4) 720 89,.cI [1,2,3,4,5,6] [16,32,48,80,720,816]]else if id=10 then [.cI [1,2,3,4,5] [16,32,48,80,720,816]]else if id=11 then [.cI [2,3] [32,48,816]]else [])else [])else []))))else(if f<129 then(if f<125 then(if f=117 then(if a=0 then(if id=3 then [.cI [0,3,4] []]else if id=8 then [.cI [3] []]else [])else [])else [])else(if f<128 then(if f=125 then(if a=1 then(if id=4 then [.cI [0,3] [0]]else if id=9 then [.cI [0,3,4,5] [0]]else if id=14 then [.cI [0,3] [0]]else if id=16 then [.cI [0] [0]]else [])else [])else [])else(if f=128 then(if a=0 then(if id=3 then [.cI [1,3,4] [16]]else if id=11 then [.cI [1] [16]]else [])else [])else [])))else(if f<130 then(if f=129 then(if a=0 then(if id=5 then [.cI [41,42] []]else [])else [])else [])else(if f<131 then(if f=130 then(if a=0 then(if id=14 then [.cI [1,38,39,40] [16]]else if id=20 then [.cI [] []]else [])else [])else [])else(if f=131 then(if a=1 then(if id=5 then [.ownp (.cell 0 11) 80176 166,.mv (.cell 0 11) 90081,.cI [6] [0,90081]]else [])else if a=2 then(if id=5 then [.ownp (.cell 0 11) 80176 166,.bumpp (.cell 0 11),.cI [6] [0,1]]else [])else [])else [])))))))else(if f<207 then(if f<177 then(if f<153 then(if f<143 then(if f<140 then(if f=133 then(if a=2 then(if id=2 then [.bumpp (.cell 0 11),.cI [] [0,1]]else [])else [])else [])else(if f=140 then(if a=0 then(if id=5 then [.cI [2,7,8,9,28,29] [128,144]]else [])else [])else []))else(if f<145 then(if f=143 then(if a=0 then(if id=2 then [.cI [0,1,7,8] []]else if id=7 then [.cI [] []]else [])else [])else [])else(if f<147 then(if f=145 then(if a=0 then(if id=12 then [.cI [1,3] [16]]else if id=19 then [.cI [] []]else [])else [])else [])else(if f=147 then(if a=0 then(if id=3 then [.cI [0,3,4] []]else if id=7 then [.cI [3] []]else [])else [])else []))))else(if f<165 then(if f<155 then(if f=153 then(if a=0 then(if id=7 then [.cI [1,2,3,6,8,9] [48,96,128]]else if id=13 then [.cI [6,8] [96,128]]else [])else [])else [])else(if f<159 then(if f=155 then(if a=0 then(if id=8 then [.cI [0,4,5] []]else if id=11 then [.cI [4] []]else [])else [])else [])else(if f=159 then(if a=0 then(if id=3 then [.own 3 496 3,.cI [0,3,4] [496]]else if id=6 then [.cI [0,3,4,5] [496]]else if id=8 then [.cI [0,3,4,5] [496]]else if id=11 then [.cI [3] [496]]else [])else [])else [])))else(if f<170 then(if f=165 then(if a=0 then(if id=3 then [.cI [1,2,10,11,12] [16,32,112]]else if id=7 then [.cI [1,2] [16,32,112]]else [])else [])else [])else(if f<171 then(if f=170 then(if a=0 then(if id=1 then [.cI [0,1] []]else if id=3 then [.cI [0] []]else [])else [])else [])else(if f=171 then(if a=0 then(if id=6 then [.fixv 16,.cI [1,3] []]else [])else [])else [])))))else(if f<197 then(if f<188 then(if f<182 then(if f=177 then(if a=0 then(if id=7 then [.cI [1,2,6,8,31,32,33] [96,128]]else if id=17 then [.cI [6,8] [96,128]]else [])else [])else [])else(if f<184 then(if f=182 then(if a=2 then(if id=2 then [.cI [1,5,6] [0,1]]else if id=7 then [.cI [5] [0,1]]else [])else [])else [])else(if f=184 then(if a=0 then(if id=5 then [.cI [0,3,4] []]else if id=10 then [.cI [3] []]else [])else [])else [])))else(if f<189 then(if f=188 then(if a=0 then(if id=8 then [.own 7 688 144,.cI [2,3,7,8] [32,48,688]]else if id=12 then [.cI [7] [688]]else [])else [])else [])else(if f<196 then(if f=189 then(if a=0 then(if id=3 then [.cI [1,2,6,7,8] [32]]else if id=6 then [.cI [1,2,6,7,8,39,40,41] [32]]else if id=11 then [.cI [1,2,6,7,8,39,40,41] [32]]else if id=12 then [.cI [6,7] []]else [])else [])else [])else(if f=196 then(if a=0 then(if id=2 then [.cI [0,3] []]else if id=5 then [.cI [3] []]else [])else [])else []))))else(if f<203 then(if f<198 then(if f=197 then(if a=0 then(if id=3 then [.cI [0,1,5,6] []]else if id=10 then [.cI [0,5] []]else [])else [])else [])else(if f<200 then(if f=198 then(if a=0 then(if id=2 then [.cI [0,3] []]else if id=6 then [.cI [0] []]else [])else [])else [])else(if f=200 then(if a=0 then(if id=1 then [.cI [0,1] []]else if id=3 then [.cI [0] []]else [])else [])else [])))else(if f<204 then(if f=203 then(if a=0 then(if id=6 then [.fixv 16,.cI [1,3] []]else [])else [])else [])else(if f<206 then(if f=204 then(if a=0 then(if id=3 then [.cI [3,6,7,8] []]else if id=10 then [.cI [3] []]else [])else [])else [])else(if f=206 then(if a=0 then(if id=3 then [.cI [1,2,13,14] [16,32,112]]else if id=7 then [.cI [1,2] [16,32,112]]else [])else [])else []))))))else(if f<261 then(if f<224 then(if f<220 then(if f<217 then(if f=207 then(if a=0 then(if id=3 then [.ownp (.cell 48 0) 416 134,.cI [1,2,3,4] [16,32,48,416]]else if id=8 then [.cI [2,3] [32,48,416]]else [])else [])else [])else(if f<219 then(if f=217 then(if a=0 then(if id=4 then [.cI [0,2] []]else if id=7 then [.cI [0,2] []]else [])else [])else [])else(if f=219 then(if a=0 then(if id=2 then [.cI [0,3] []]else if id=6 then [.cI [] []]else [])else [])else [])))else(if f<222 then(if f=220 then(if a=0 then(if id=3 then [.cI [0,3,4] []]else if id=6 then [.cI [3] []]else [])else [])else [])else(if f<223 then(if f=222 then(if a=0 then(if id=3 then [.cI [1,2,6,18,19,20] [32,272]]else if id=7 then [.cI [1,2,6] [32,272]]else if id=11 then [.cI [1,2,9,10,45,46,47] [32,272]]else if id=17 then [.cI [9,10] []]else [])else [])else [])else(if f=223 then(if a=2 then(if id=0 then [.cI [0,1] [0,1]]else [])else [])else []))))else(if f<246 then(if f<225 then(if f=224 then(if a=2 then(if id=2 then [.cI [0,1,2,7] [0,1]]else if id=8 then [.cI [0,1,2,7,9] [0,1]]else if id=11 then [.cI [1,7] [0,1]]else [])else [])else [])else(if f<234 then(if f=225 then(if a=0 then(if id=5 then [.cI [2,3,4,16] [32,48,64]]else [])else [])else [])else(if f=234 then(if a=0 then(if id=9 then [.cI [0,1,5,6] []]else [])else [])else [])))else(if f<251 then(if f=246 then(if a=0 then(if id=3 then [.cI [1,2,3,7,8] [48]]else if id=6 then [.cI [7] []]else [])else [])else [])else(if f<253 then(if f=251 then(if a=0 then(if id=2 then [.cI [0,1,7,8] []]else if id=7 then [.cI [] []]else [])else [])else [])else(if f=253 then(if a=0 then(if id=3 then [.cI [3,6,7,8] []]else if id=7 then [.cI [3] []]else [])else [])else [])))))else(if f<284 then(if f<275 then(if f<262 then(if f=261 then(if a=0 then(if id=3 then [.cI [2,3,6,16,17,18] [32,48,224]]else if id=10 then [.cI [6] [224]]else [])else [])else [])else(if f<267 then(if f=262 then(if a=0 then(if id=3 then [.cI [1,2,3,7,11,12,13] [48]]else if id=8 then [.cI [7] []]else [])else [])else [])else(if f=267 then(if a=0 then(if id=3 then [.cI [1,5,16,17,18] [240]]else if id=7 then [.cI [1,5,6,7,8,16,17,18,25,26] [240]]else if id=14 then [.cI [1,5,16,17,18] [240]]else if id=15 then [.cI [5] [240]]else [])else [])else [])))else(if f<276 then(if f=275 then(if a=0 then(if id=4 then [.own 4 208 3,.cI [0,4] [208]]else if id=7 then [.cI [4] [208]]else [])else [])else [])else(if f<278 then(if f=276 then(if a=0 then(if id=6 then [.own 6 912 3,.cI [0,1,6,7,8] [912]]else if id=8 then [.cI [0,1,6,7,8] [912]]else if id=10 then [.cI [0,1,6,7,8] [912]]else if id=12 then [.cI [0,1,6,7,8] [912]]else if id=14 then [.cI [6] [912]]else [])else [])else [])else(if f=278 then(if a=0 then(if id=3 then [.cI [0,1,5,6] [224]]else if id=4 then [.cI [0,1,5,6] [224]]else if id=7 then [.cI [0,1,5,6,7,8] [224]]else if id=9 then [.cI [0,1,5,6,7,8] [224]]else if id=12 then [.cI [0,1,5,6,7,8] [224]]else if id=14 then [.cI [5] [224]]else [])else [])else []))))else(if f<289 then(if f<286 then(if f=284 then(if a=0 then(if id=4 then [.own 4 240 3,.cI [0,4] [240]]else if id=7 then [.cI [4] [240]]else [])else [])else [])else(if f<287 then(if f=286 then(if a=0 then(if id=6 then [.own 6 560 3,.cI [0,1,6,7,18,19] [560]]else if id=12 then [.cI [6] [560]]else [])else [])else [])else(if f=287 then(if a=0 then(if id=1 then [.cI [0] []]else if id=3 then [.cI [0] []]else [])else [])else [])))else(if f<291 then(if f=289 then(if a=0 then(if id=2 then [.cI [0,1,7,8] []]else if id=7 then [.cI [] []]else [])else [])else [])else(if f<292 then(if f=291 then(if a=0 then(if id=1 then [.cI [0] []]else if id=3 then [.cI [0] []]else [])else [])else [])else(if f=292 then(if a=0 then(if id=2 then [.cI [0,1,7,8] []]else if id=7 then [.cI [] []]else [])else [])else [])))))))
instance :EN aa aa.pd:=⟨⟩
instance :EN ah ah.pd:=⟨⟩
instance :EN aw aw.pd:=⟨⟩
instance :EN bt bt.pd:=⟨⟩
instance :EN bC bC.pd:=⟨⟩
instance :EN aj aj.pd:=⟨⟩
instance :EN bj bj.pd:=⟨⟩
instance :EN bW bW.pd:=⟨⟩
instance :EN bB bB.pd:=⟨⟩
instance :EN bq bq.pd:=⟨⟩
instance :EN bp bp.pd:=⟨⟩
instance :EN ba ba.pd:=⟨⟩
instance :EN aq aq.pd:=⟨⟩
instance :EN ac ac.pd:=⟨⟩
instance :EN ak ak.pd:=⟨⟩
instance :EN mW mW.pd:=⟨⟩
instance :EN ag ag.pd:=⟨⟩
instance :EN br br.pd:=⟨⟩
instance :EN bw bw.pd:=⟨⟩
instance :EN A4_Int A4_Int.pd:=⟨⟩
instance :EN ai ai.pd:=⟨⟩
instance :EN bP bP.pd:=⟨⟩
instance :EN nT nT.pd:=⟨⟩
instance :EN al al.pd:=⟨⟩
instance :EN az az.pd:=⟨⟩
instance :EN bu bu.pd:=⟨⟩
instance :EN ap ap.pd:=⟨⟩
instance :EN bZ bZ.pd:=⟨⟩
instance :EN bo bo.pd:=⟨⟩
instance :EN bn bn.pd:=⟨⟩
def bi:Hints:={ at_:=hintAt,mt:=fun f i=>(f==9&&i==28)||(f==12&&i==16)||(f==37&&i==8)||(f==37&&i==12)||(f==97&&i==46)||(f==314&&i==19),by_:=fun f i=>(f==123&&i==0)||(f==125&&i==0)||(f==144&&i==0)||(f==313&&i==0),own:=fun f i=>(f==61&&i==0)||(f==83&&i==0)||(f==122&&i==0)||(f==165&&i==0)||(f==205&&i==0)||(f==254&&i==0) }
@[reducible] def gI(a f id:Nat)(R:List (Nat×RV))(B:List (Nat×Box))(g:List (Nat×RV))(c:List (Nat×Box)):Prop:=pK prog a (A g c) (bi.at_ f a id)=some (A R B)
@[reducible] def gX(x g f id:Nat)(R:List (Nat×RV))(B:List (Nat×Box))(e:Ex)(c:List (Nat×RV))(a:List (Nat×Box)):Prop:=e= .exit x∧gI g f id R B c a
@[reducible] def gF(f:Nat)(fn:Func)(g:Nat)(x:RV×List Box)(e:Ex)(c:List (Nat×RV))(a:List (Nat×Box)):Prop:=e= .ret∧finish prog (bi.own f) fn g (A c a)=some x
theorem eqN_25(a b:ah):vd prog .neq 25 (.d a.pd) (.d b.pd)=some (.bool (!(((a.bh.fX==b.bh.fX)&&((a.bh.fY==b.bh.fY)&&((a.bh.fZ==b.bh.fZ)&&true)))&&(((a.av.fX==b.av.fX)&&((a.av.fY==b.av.fY)&&((a.av.fZ==b.av.fZ)&&true)))&&true))),true):=by kernel_rfl
theorem eqN_61(a b:br):vd prog .neq 61 (.d a.pd) (.d b.pd)=some (.bool (!(((a.bv.fX==b.bv.fX)&&((a.bv.fY==b.bv.fY)&&((a.bv.fZ==b.bv.fZ)&&true)))&&((a.bV==b.bV)&&((a.ch==b.ch)&&((a.d7==b.d7)&&true))))),true):=by kernel_rfl
theorem eqE_67(a b:ak):vd prog .eql 67 (.d a.pd) (.d b.pd)=some (.bool (((a.bc.bH==b.bc.bH)&&((a.bc.bv==b.bc.bv)&&((a.bc.bd==b.bc.bd)&&((a.bc.bL==b.bc.bL)&&true))))&&((a.cb==b.cb)&&((a.bV==b.bV)&&((a.ch==b.ch)&&((a.bK==b.bK)&&((a.bO==b.bO)&&true)))))),true):=by kernel_rfl
theorem eqN_67(a b:ak):vd prog .neq 67 (.d a.pd) (.d b.pd)=some (.bool (!(((a.bc.bH==b.bc.bH)&&((a.bc.bv==b.bc.bv)&&((a.bc.bd==b.bc.bd)&&((a.bc.bL==b.bc.bL)&&true))))&&((a.cb==b.cb)&&((a.bV==b.bV)&&((a.ch==b.ch)&&((a.bK==b.bK)&&((a.bO==b.bO)&&true))))))),true):=by kernel_rfl
theorem em(a b:bB):vd prog .eql 132 (.d a.pd) (.d b.pd)=some (.bool ((a.a0==b.a0)&&((a.a1==b.a1)&&((a.a2==b.a2)&&true))),true):=by kernel_rfl
theorem T_api_Pick_inj:∀x y:ak,x.pd=y.pd->x=y:=by
  rintro⟨⟨p,z2,z3,z4⟩,z5,q,r,t,z9⟩ ⟨⟨a,c,z12,f⟩,g,j,k,z17,l⟩ h
  cases h;rfl
def ext0:FuncId->Option pA:=fun _=>none
theorem lh{a0:(List UInt8)}{r:Bool}(h:fK a0=some r):EvP prog bi ext0 164 [rS a0] [] (rB r,[]):=by
 refine Ev.body Z Tryz.func164 Z Zk<|gU Z<|sU<|sN<|gU Z<|mM Z<|sV (rB (!(a0==a0)))<|sA Z<|sN<|qR ?_
 exact oI h▸qD
theorem eB{a0:(List UInt8)}{a1:(List UInt8)}{r:Int}(h:dc a0 a1=some r):EvP prog bi ext0 108 [rS a0,rS a1] [] (rI r,[]):=by
 refine Ev.body Z Tryz.func108 Z Zk<|gU Z<|sV (r0)<|sN<|gU Z<|sM Z<|bE h fun c h1 h=>cD (lh h1)<|sA Z<|sN<|gU Z<|sM Z<|bE h fun f a h=>cD (lh a)<|sA Z ?_
 refine sN<|qS<|gU Z<|sF h ?_ ?_<;>intro h
 ·refine sN<|cT<|qS<|gU Z<|sF h ?_ ?_<;>intro h
  ·refine sN<|cT<|gU Z<|sV (r0)<|sN<|qR ?_
   exact oI h▸qD
  refine sN<|cF<|qK<|gU Z<|sV (rI (-1))<|sN<|qR ?_
  exact oI h▸qD
 refine sN<|cF<|qK<|qS<|gU Z<|sF h ?_ ?_<;>intro h
 ·refine sN<|cT<|gU Z<|sV (rI 1)<|sN<|qR ?_
  exact oI h▸qD
 refine sN<|cF<|qK<|qS<|gU Z<|mM Z<|sF h ?_ ?_<;>intro h
 ·refine sN<|cT<|gU Z<|sV (rI (-1))<|sN<|qR ?_
  exact oI h▸qD
 refine sN<|cF<|qK<|qS<|gU Z<|mM Z<|sF h ?_ ?_<;>intro h
 ·refine sN<|cT<|gU Z<|sV (rI 1)<|sN<|qR ?_
  exact oI h▸qD
 refine sN<|cF<|qK<|gU Z<|sV (r0)<|sN<|qR ?_
 exact oI h▸qD
theorem nE{a0:(List Int)}{r:Int}(h:dB a0=some r):EvP prog bi ext0 107 [rL a0] [] (rI r,[]):=by
 refine Ev.body Z Tryz.func107 Z Zk<|gU Z<|sV (r0)<|sN<|gU Z<|sV (r0)<|sN<|qS<|gU Z<|sM Z<|sE (rI (a0.length:Int)) (qy _ _)<|sV (r0)<|sN<|bE h fun l c h=>WC.block (WC.loop (WL.qz c (fun s=>gI 0 107 3 [(3,r0),(6,rL a0),(7,rI (a0.length:Int)),(8,rI s)] []) (fun o=>match o with| .inl y=>gX 0 0 107 8 [(3,r0)] []| .inr r=>gF 107 Tryz.f107 0 (rI r,[])) Z ?_ ?_))
 ·rintro s1 j g p a h
  refine gS Z a<|sF h ?_ ?_<;>intro h
  ·refine sN<|qS<|cT<|qK<|qS<|qB<|gU Z<|bE h fun t k h=>eG k Z<|sC Z<|sA Z<|sN<|gU Z<|sM Z<|sM Z ?_
   refine sF h ?_ ?_<;>intro h
   ·refine sN<|cT<|gU Z<|sM Z<|sA Z<|sN<|qR ?_
    cases oI h
    exact⟨nofun,rfl,rfl⟩
   refine sN<|cF<|qK<|EH Z Z<|sV (rI (rW (s1+(1:Int))))<|sM Z<|sN ?_
   cases oI h
   exact⟨rfl,rfl⟩
  refine sN<|qS<|cF<|qX ?_
  cases oI h
  exact⟨nofun,rfl,rfl⟩
 intro e j g he f
 rcases l with u|q
 ·obtain⟨rfl,a⟩:=f
  refine qE<|gS Z a<|sM Z<|sA Z<|sN<|qR ?_
  exact oI h▸qD
 obtain⟨rfl,hf⟩:=f
 cases oI h
 exact hf
theorem oD{a0:bj}{a1:bj}{r:Int}(h:gh a0 a1=some r):EvP prog bi ext0 72 [.d (bj.pd a0),.d (bj.pd a1)] [] (rI r,[]):=by
 refine Ev.body Z Tryz.func72 Z Zk<|gU Z<|sB (.ptr 32 0) 32 (.var (bj.rc a0))<|sB (.ptr 48 0) 48 (.var (bj.rc a1))<|sV (r0)<|sN<|WC.pg Z Z<|sV (.ptr 32 0)<|sL Z<|sV (.ptr 48 0)<|sL Z<|bE h fun j h1 h=>cD (eB h1)<|sV (.ptr 32 1)<|sL Z ?_
 refine sV (.ptr 48 1)<|sL Z<|bE h fun k a h=>cD (eB a)<|sV (.ptr 32 2)<|sL Z<|sV (.ptr 48 2)<|sL Z<|bE h fun l c h=>cD (eB c)<|sV (.ptr 32 3)<|sL Z<|sV (.ptr 48 3)<|sL Z<|bE h fun p f h=>?_
 refine cD (eB f)<|sV (.d (.lst ([j,k,l,p].map (PD.int .i64))))<|bE h fun q g h=>cD (nE g)<|sA Z ?_
 refine sN<|sO<|qR ?_
 exact oI h▸qD
theorem mm{a0:Int}{r:Bool}(h:ji a0=some r):EvP prog bi ext0 218 [rI a0] [] (rB r,[]):=by
 refine Ev.body Z Tryz.func218 Z Zk<|gU Z<|sU<|sN<|gU Z<|mM Z<|sV (rB (a0 != a0))<|sA Z<|sN<|qR ?_
 exact oI h▸qD
theorem ex{a0:Int}{a1:Int}{r:Int}(h:cr a0 a1=some r):EvP prog bi ext0 169 [rI a0,rI a1] [] (rI r,[]):=by
 refine Ev.body Z Tryz.func169 Z Zk<|gU Z<|sV (r0)<|sN<|gU Z<|sM Z<|bE h fun c h1 h=>cD (mm h1)<|sA Z<|sN<|gU Z<|sM Z<|bE h fun f a h=>cD (mm a)<|sA Z ?_
 refine sN<|qS<|gU Z<|sF h ?_ ?_<;>intro h
 ·refine sN<|cT<|qS<|gU Z<|sF h ?_ ?_<;>intro h
  ·refine sN<|cT<|gU Z<|sV (r0)<|sN<|qR ?_
   exact oI h▸qD
  refine sN<|cF<|qK<|gU Z<|sV (rI (-1))<|sN<|qR ?_
  exact oI h▸qD
 refine sN<|cF<|qK<|qS<|gU Z<|sF h ?_ ?_<;>intro h
 ·refine sN<|cT<|gU Z<|sV (rI 1)<|sN<|qR ?_
  exact oI h▸qD
 refine sN<|cF<|qK<|qS<|gU Z<|mM Z<|sF h ?_ ?_<;>intro h
 ·refine sN<|cT<|gU Z<|sV (rI (-1))<|sN<|qR ?_
  exact oI h▸qD
 refine sN<|cF<|qK<|qS<|gU Z<|mM Z<|sF h ?_ ?_<;>intro h
 ·refine sN<|cT<|gU Z<|sV (rI 1)<|sN<|qR ?_
  exact oI h▸qD
 refine sN<|cF<|qK<|gU Z<|sV (r0)<|sN<|qR ?_
 exact oI h▸qD
theorem oB{a0:ak}{a1:ak}{r:Int}(h:cC a0 a1=some r):EvP prog bi ext0 124 [.d (ak.pd a0),.d (ak.pd a1)] [] (rI r,[]):=by
 refine Ev.body Z Tryz.func124 Z Zk<|gU Z<|sB (.ptr 32 0) 32 (.var (ak.rc a0))<|sB (.ptr 48 0) 48 (.var (ak.rc a1))<|sV (r0)<|sN<|WC.pg Z Z<|sV (.ptr 32 0)<|sV (.d (bj.pd a0.bc))<|sV (.ptr 48 0)<|sV (.d (bj.pd a1.bc))<|bE h fun l h1 h=>cD (oD h1)<|sV (.ptr 32 4)<|sL Z ?_
 refine sV (.ptr 48 4)<|sL Z<|bE h fun p a h=>cD (ex a)<|sV (.ptr 32 5)<|sL Z<|sV (.ptr 48 5)<|sL Z<|bE h fun q c h=>cD (ex c)<|sV (.ptr 32 6)<|sL Z<|sV (.ptr 48 6)<|sL Z<|bE h fun t f h=>?_
 refine cD (ex f)<|sV (.ptr 32 7)<|sL Z<|sV (.ptr 48 7)<|sL Z<|bE h fun u g h=>cD (ex g)<|sV (.ptr 32 8)<|sL Z<|sV (.ptr 48 8)<|sL Z<|bE h fun x j h=>cD (ex j)<|sV (.d (.lst ([l,p,q,t,u,x].map (PD.int .i64))))<|bE h fun y k h=>?_
 refine cD (nE k)<|sA Z ?_
 refine sN<|sO<|qR ?_
 cases oI h
 exact qG
noncomputable def ext:FuncId->Option pA:=fun f=>if f=12 then some bentD else if f=123 then some (AL 124 67 ak.pd cC)else if f=205 then some (sW 89 8 80)else if f=254 then some (sW 134 10 96)else if f=83 then some (sW 3 1 8)else if f=122 then some (sW 67 9 104)else if f=144 then some (xh 3)else if f=6 then some (zw (rB true))else none
theorem sort_123_124{l r:List ak}(h:vC cC l=some r):EvP prog bi ext 123 [.ref 0 0,.d (.raw (.func (.func 124) #[] #[]))] [.arr 0 67 (l.map ak.pd)] (.tup [],[.arr 0 67 (r.map ak.pd)]):=sort_ev rfl (sortD_of T_api_Pick_inj h)
instance {l:List ak}:CE prog bi ext (vC cC l) 123 [.ref 0 0,.d (.raw (.func (.func 124) #[] #[]))] [.arr 0 67 (l.map ak.pd)] fun r=>(.tup [],[.arr 0 67 (r.map ak.pd)]):=⟨fun h=>sort_123_124 h⟩
theorem oL{r:Bool}(h:nW=some r):EvP prog bi ext 6 [] [] (rB r,[]):=by cases h;exact Ev.lib (g:=zw (rB true)) rfl rfl
theorem sortI_144{l r:List Int}(h:sY l=some r):EvP prog bi ext 144 [.ref 0 0] [.arr 0 3 (l.map (PD.int .i64))] (.tup [],[.arr 0 3 (r.map (PD.int .i64))]):=sortI_ev rfl h
instance {l:List Int}:CE prog bi ext (sY l) 144 [.ref 0 0] [.arr 0 3 (l.map (PD.int .i64))] fun r=>(.tup [],[.arr 0 3 (r.map (PD.int .i64))]):=⟨fun h=>sortI_144 h⟩
theorem clone_205{l r:List ba}(h:qq 80 l=some r):EvP prog bi ext 205 [rM ba.pd l] [] (.ref 0 0,[.arr 0 89 (r.map ba.pd)]):=wF (g:=ba.pd) rfl (fun _=>rfl) h
instance {l:List ba}:CE prog bi ext (qq 80 l) 205 [rM ba.pd l] [] fun r=>(.ref 0 0,[.arr 0 89 (r.map ba.pd)]):=⟨fun h=>clone_205 h⟩
theorem clone_254{l r:List bq}(h:qq 96 l=some r):EvP prog bi ext 254 [rM bq.pd l] [] (.ref 0 0,[.arr 0 134 (r.map bq.pd)]):=wF (g:=bq.pd) rfl (fun _=>rfl) h
instance {l:List bq}:CE prog bi ext (qq 96 l) 254 [rM bq.pd l] [] fun r=>(.ref 0 0,[.arr 0 134 (r.map bq.pd)]):=⟨fun h=>clone_254 h⟩
theorem clone_83{l r:List Int}(h:qq 8 l=some r):EvP prog bi ext 83 [rL l] [] (.ref 0 0,[.arr 0 3 (r.map (PD.int .i64))]):=wF (g:=(PD.int .i64)) rfl (fun _=>rfl) h
instance {l:List Int}:CE prog bi ext (qq 8 l) 83 [rL l] [] fun r=>(.ref 0 0,[.arr 0 3 (r.map (PD.int .i64))]):=⟨fun h=>clone_83 h⟩
theorem clone_122{l r:List ak}(h:qq 104 l=some r):EvP prog bi ext 122 [rM ak.pd l] [] (.ref 0 0,[.arr 0 67 (r.map ak.pd)]):=wF (g:=ak.pd) rfl (fun _=>rfl) h
instance {l:List ak}:CE prog bi ext (qq 104 l) 122 [rM ak.pd l] [] fun r=>(.ref 0 0,[.arr 0 67 (r.map ak.pd)]):=⟨fun h=>clone_122 h⟩
section
attribute [local irreducible] HM HU HF HB WO WC QS QB sR
instance {a0:aw}:CE prog bi ext (gE a0) 23 [.d (aw.pd a0)] [] fun r=>(rB r,[]):=⟨fun h=>Ev.au h Tryz.func23⟩
instance {a0:ah}:CE prog bi ext (mp a0) 24 [.d (ah.pd a0)] [] fun r=>(rI r,[]):=⟨fun h=>Ev.au h Tryz.func24⟩
instance {a0:aj}:CE prog bi ext (eU a0) 4 [.d (aj.pd a0)] [] fun r=>(rB r,[]):=⟨fun h=>Ev.au h Tryz.func4⟩
instance {a0:bp}:LI (hF a0) 2 (fun s=>[(7,rI s)]) (fun s=>[]) (jY 7 (fun y=>[]) (fun y=>[]) Tryz.f25 fun r=>(rB r,[])):=⟨⟩
instance {a0:bp}:CE prog bi ext (gy a0) 25 [.d (bp.pd a0)] [] fun r=>(rB r,[]):=⟨fun h=>Ev.au h Tryz.func25⟩
instance {a0:ac}:LI (fS a0) 2 (fun s=>[(8,rI s)]) (fun s=>[]) (jY 13 (fun y=>[]) (fun y=>[]) Tryz.f5 fun r=>(rB r,[])):=⟨⟩
instance {a:aq}{a0:ac}{s1:Int}:LI (fQ a a0 s1) 7 (fun s=>[(26,rI s)]) (fun s=>[]) (jY 12 (fun y=>[(8,rI y)]) (fun y=>[]) Tryz.f5 fun r=>(rB r,[])):=⟨⟩
instance {a0:ac}:CE prog bi ext (fE a0) 5 [.d (ac.pd a0)] [] fun r=>(rB r,[]):=⟨fun h=>Ev.au h Tryz.func5⟩
instance {a0:(List Int)}:CE prog bi ext (oQ a0) 7 [rL a0] [] fun r=>(.ptr 0 0,[.var (ag.rc r)]):=⟨fun h=>Ev.au h Tryz.func7⟩
instance {d0:ag}:CE prog bi ext (oH d0) 62 [.ptr 0 0] [.var (ag.rc d0)] fun r=>(rI r.1,[.var (ag.rc r.2)]):=⟨fun h=>Ev.au h Tryz.func62⟩
instance {a0:Int}{a1:Int}:CE prog bi ext (mN a0 a1) 59 [rI a0,rI a1] [] fun r=>(rI r,[]):=⟨fun h=>Ev.au h Tryz.func59⟩
instance {a1:Int}{d0:ag}:CE prog bi ext (cY a1 d0) 32 [.ptr 0 0,rI a1] [.var (ag.rc d0)] fun r=>(rI r.1,[.var (ag.rc r.2)]):=⟨fun h=>Ev.au h Tryz.func32⟩
instance {a1:Int}{d0:ag}:CE prog bi ext (lL a1 d0) 30 [.ptr 0 0,rI a1] [.var (ag.rc d0)] fun r=>(.d (aa.pd r.1),[.var (ag.rc r.2)]):=⟨fun h=>Ev.au h Tryz.func30⟩
instance {a1:Int}{a2:Int}{d0:ag}:CE prog bi ext (Src_Box a1 a2 d0) 60 [.ptr 0 0,rI a1,rI a2] [.var (ag.rc d0)] fun r=>(.d (ah.pd r.1),[.var (ag.rc r.2)]):=⟨fun h=>Ev.au h Tryz.func60⟩
instance {a1:(List Int)}{d0:ag}:CE prog bi ext (dw a1 d0) 29 [.ptr 0 0,rL a1] [.var (ag.rc d0)] fun r=>(rI r.1,[.var (ag.rc r.2)]):=⟨fun h=>Ev.au h Tryz.func29⟩
instance {a:Int×ag}:LI (mC a) 4 (fun s=>[(4,rI s.1),(5,rI s.2.1),(6,rI s.2.2.1)]) (fun s=>[(0,.var [rL s.2.2.2.1,rI s.2.2.2.2.1]),(432,.arr 0 3 (s.2.2.2.2.2.1.map (PD.int .i64))),(512,.arr 0 3 (s.2.2.2.2.2.2.map (PD.int .i64)))]) (jX 9 (fun o=>[]) fun o=>[(0,.var [rL o.1,rI o.2.1]),(432,.arr 0 3 (o.2.2.1.map (PD.int .i64))),(512,.arr 0 3 (o.2.2.2.map (PD.int .i64)))]):=⟨⟩
instance {d0:ag}:CE prog bi ext (mJ d0) 61 [.ptr 0 0] [.var (ag.rc d0)] fun r=>(.agg [rI r.1.bS,.ref 1 0,.ref 2 0],[.var (ag.rc r.2),.arr 0 3 (r.1.bh.map (PD.int .i64)),.arr 0 3 (r.1.av.map (PD.int .i64))]):=⟨fun h=>Ev.au h Tryz.func61⟩
instance {a1:Int}{d0:ag}:CE prog bi ext (jq a1 d0) 27 [.ptr 0 0,rI a1] [.var (ag.rc d0)] fun r=>(.d (bt.pd r.1),[.var (ag.rc r.2)]):=⟨fun h=>Ev.au h Tryz.func27⟩
instance {a:aw×ag}:LI (mB a) 3 (fun s=>[(17,rI s.1)]) (fun s=>[(96,.arr 0 3 (s.2.1.map (PD.int .i64))),(97,.arr 0 3 (s.2.2.map (PD.int .i64)))]) (jX 7 (fun o=>[]) fun o=>[(96,.arr 0 3 (o.1.map (PD.int .i64))),(97,.arr 0 3 (o.2.map (PD.int .i64)))]):=⟨⟩
instance {d0:ag}:CE prog bi ext (nU d0) 28 [.ptr 0 0] [.var (ag.rc d0)] fun r=>(.d (bC.pd r.1),[.var (ag.rc r.2)]):=⟨fun h=>Ev.au h Tryz.func28⟩
instance {a1:Int}{d0:ag}:CE prog bi ext (lB a1 d0) 8 [.ptr 0 0,rI a1] [.var (ag.rc d0)] fun r=>(.d (aj.pd r.1),[.var (ag.rc r.2)]):=⟨fun h=>Ev.au h Tryz.func8⟩
instance :LI (iL) 3 (fun s=>[(4,rI s.1)]) (fun s=>[(0,.var [rL s.2.1,rI s.2.2.1]),(1040,.arr 0 134 (s.2.2.2.map bq.pd))]) (jX 13 (fun o=>[]) fun o=>[(0,.var [rL o.1,rI o.2.1]),(1040,.arr 0 134 (o.2.2.map bq.pd))]):=⟨⟩
instance {d0:ag}:CE prog bi ext (gr d0) 31 [.ptr 0 0] [.var (ag.rc d0)] fun r=>(.d (bp.pd r.1),[.var (ag.rc r.2)]):=⟨fun h=>Ev.au h Tryz.func31⟩
instance {a0:Int}:CE prog bi ext (io a0) 26 [rI a0] [] fun r=>(.d (bj.pd r),[]):=⟨fun h=>Ev.au h Tryz.func26⟩
instance {a1:Int}:LI (kX a1) 3 (fun s=>[(6,rI s.1)]) (fun s=>[(0,.var [rL s.2.1,rI s.2.2.1]),(1104,.arr 0 81 (s.2.2.2.map aq.pd))]) (jX 16 (fun o=>[]) fun o=>[(0,.var [rL o.1,rI o.2.1]),(1104,.arr 0 81 (o.2.2.map aq.pd))]):=⟨⟩
instance {a1:Int}{d0:ag}:CE prog bi ext (lO a1 d0) 9 [.ptr 0 0,rI a1] [.var (ag.rc d0)] fun r=>(.d (ac.pd r.1),[.var (ag.rc r.2)]):=⟨fun h=>Ev.au h Tryz.func9⟩
instance {a1:Int}{a2:Int}{d0:ag}:CE prog bi ext (lN a1 a2 d0) 63 [.ptr 0 0,rI a1,rI a2] [.var (ag.rc d0)] fun r=>(rI r.1,[.var (ag.rc r.2)]):=⟨fun h=>Ev.au h Tryz.func63⟩
instance {a1:ah}{d0:ag}:CE prog bi ext (mI a1 d0) 33 [.ptr 0 0,.d (ah.pd a1)] [.var (ag.rc d0)] fun r=>(.d (aa.pd r.1),[.var (ag.rc r.2)]):=⟨fun h=>Ev.au h Tryz.func33⟩
instance {a0:ac}{a1:bj}{a2:Int}:LI (lY a0 a1 a2) 2 (fun s=>[(15,rI s)]) (fun s=>[]) (jY 11 (fun y=>[]) (fun y=>[]) Tryz.f34 fun r=>(.tup [.d (aa.pd r.1),rB r.2],[])):=⟨⟩
instance {a:aq}{a1:bj}{a2:Int}{s1:Int}:LI (lX a a1 a2 s1) 5 (fun s=>[(22,rI s)]) (fun s=>[]) (jY 10 (fun y=>[(15,rI y)]) (fun y=>[]) Tryz.f34 fun r=>(.tup [.d (aa.pd r.1),rB r.2],[])):=⟨⟩
instance {a0:ac}{a1:bj}{a2:Int}:CE prog bi ext (m0 a0 a1 a2) 34 [.d (ac.pd a0),.d (bj.pd a1),rI a2] [] fun r=>(.tup [.d (aa.pd r.1),rB r.2],[]):=⟨fun h=>Ev.au h Tryz.func34⟩
instance {a0:Int}:CE prog bi ext (n0 a0) 35 [rI a0] [] fun r=>(rI r,[]):=⟨fun h=>Ev.au h Tryz.func35⟩
instance {a1:aj}{a2:ac}:LI (mA a1 a2) 4 (fun s=>[(11,rI s.1),(12,rI s.2.1)]) (fun s=>[(0,.var [rL s.2.2.1,rI s.2.2.2.1]),(160,.var [rI s.2.2.2.2.2.1,rI s.2.2.2.2.2.2.1,rI s.2.2.2.2.2.2.2]),(2192,.arr 0 67 (s.2.2.2.2.1.map ak.pd))]) (jX 21 (fun o=>[]) fun o=>[(0,.var [rL o.2.1,rI o.2.2]),(2192,.arr 0 67 (o.1.map ak.pd))]):=⟨⟩
instance {f:aa×Bool}{l:Int}{a:Int}{c:Int}{g:Int}{j:Int}{k:(List ak)}:LI (kV f l a c g j k) 12 (fun s=>[(16,rI s)]) (fun s=>[]) (jX 14 (fun o=>[(11,rI o.1),(12,rI o.2.1),(16,rI o.2.2.1)]) fun o=>[(160,.var [rI o.2.2.2.2.1,rI o.2.2.2.2.2.1,rI o.2.2.2.2.2.2]),(2192,.arr 0 67 (o.2.2.2.1.map ak.pd))]):=⟨⟩
instance {a1:aj}{a2:ac}{a3:Int}{d0:ag}:CE prog bi ext (mH a1 a2 a3 d0) 10 [.ptr 0 0,.d (aj.pd a1),.d (ac.pd a2),rI a3] [.var (ag.rc d0)] fun r=>(rM ak.pd r.1,[.var (ag.rc r.2)]):=⟨fun h=>Ev.au h Tryz.func10⟩
instance {a1:ah}{d0:ag}:CE prog bi ext (oG a1 d0) 36 [.ptr 0 0,.d (ah.pd a1)] [.var (ag.rc d0)] fun r=>(.d (ah.pd r.1),[.var (ag.rc r.2)]):=⟨fun h=>Ev.au h Tryz.func36⟩
instance {a1:aw}{d0:ag}:CE prog bi ext (jf a1 d0) 37 [.ptr 0 0,.d (aw.pd a1)] [.var (ag.rc d0)] fun r=>(.d (aw.pd r.1),[.var (ag.rc r.2)]):=⟨fun h=>Ev.au h Tryz.func37⟩
end
theorem oe{a1:aj}{d0:ag}{r:aj×ag}(h:iJ a1 d0=some r):EvP prog bi ext 11 [.ptr 0 0,.d (aj.pd a1)] [.var (ag.rc d0)] (.d (aj.pd r.1),[.var (ag.rc r.2)]):=by
 refine Ev.body Z Tryz.func11 Z Zk<|gU Z<|sB (.ptr 48 0) 48 (.var (aj.rc a1))<|sB (.ptr 64 0) 64 (.var [r0,r0,r0,r0,r0,r0,r0,.px,.px,r0,r0,r0,r0,r0,r0,.px,.px,r0,r0,r0])<|sN<|qS<|gU Z<|sM Z<|bE h fun q h1 h=>cR (rI q.1) [(0,.var (ag.rc q.2))] (ce h1)<|sN<|qB<|gU Z<|sF h ?_ ?_<;>intro h
 ·refine sA Z<|sN<|cT<|EH Z Z<|sM Z<|sV (.ptr 48 0)<|sV (.ptr 48 0)<|sV (.d (ah.pd a1.ae.bk))<|bE h fun g t h=>cR (.d (ah.pd g.1)) [(0,.var (ag.rc g.2))] (ce t)<|sV (.ptr 48 0)<|sV (.ptr 48 0)<|sH 48 (.var (ah.rc g.1++aw.rc a1.ae.bJ++rI a1.ae.dL::rI a1.ae.bz::rI a1.ae.ey::rI a1.ae.dq::rI a1.ae.dp::bC.rc a1.bN++[rI a1.bz]))<|sN<|gU Z ?_
  refine sV (.d (aj.pd (aj.mk (bt.mk g.1 a1.ae.bJ a1.ae.dL a1.ae.bz a1.ae.ey a1.ae.dq a1.ae.dp) a1.bN a1.bz)))<|sH 64 (.var (ah.rc g.1++aw.rc a1.ae.bJ++rI a1.ae.dL::rI a1.ae.bz::rI a1.ae.ey::rI a1.ae.dq::rI a1.ae.dp::bC.rc a1.bN++[rI a1.bz]))<|sN<|qR ?_
  cases oI h
  exact qG
 refine sA Z<|sN<|cF<|gU Z<|sF h ?_ ?_<;>intro h
 ·refine sA Z<|sN<|cT<|EH Z Z<|sM Z<|sV (.ptr 48 0)<|sV (.ptr 48 6)<|sV (.d (aw.pd a1.ae.bJ))<|bE h fun f u h=>cR (.d (aw.pd f.1)) [(0,.var (ag.rc f.2))] (ce u)<|sV (.ptr 48 0)<|sV (.ptr 48 6)<|sS 48 (.var (ah.rc a1.ae.bk++aw.rc f.1++rI a1.ae.dL::rI a1.ae.bz::rI a1.ae.ey::rI a1.ae.dq::rI a1.ae.dp::bC.rc a1.bN++[rI a1.bz]))<|sN<|gU Z ?_
  refine sV (.d (.agg [.int .i64 a1.ae.bk.bh.fX,.int .i64 a1.ae.bk.bh.fY,.int .i64 a1.ae.bk.bh.fZ,.int .i64 a1.ae.bk.av.fX,.int .i64 a1.ae.bk.av.fY,.int .i64 a1.ae.bk.av.fZ,.int .i64 f.1.bS,.lst (f.1.bh.map (PD.int .i64)),.lst (f.1.av.map (PD.int .i64)),.int .i64 a1.ae.dL,.int .i64 a1.ae.bz,.int .i64 a1.ae.ey,.int .i64 a1.ae.dq,.int .i64 a1.ae.dp,.int .i64 a1.bN.bF.bS,.lst (a1.bN.bF.bh.map (PD.int .i64)),.lst (a1.bN.bF.av.map (PD.int .i64)),.int .i64 a1.bN.bI,.int .i64 a1.bN.bG,.int .i64 a1.bz]))<|sH 64 (.var (ah.rc a1.ae.bk++aw.rc f.1++rI a1.ae.dL::rI a1.ae.bz::rI a1.ae.ey::rI a1.ae.dq::rI a1.ae.dp::bC.rc a1.bN++[rI a1.bz]))<|sN<|qR ?_
  cases oI h
  exact qG
 refine sA Z<|sN<|cF<|gU Z<|sF h ?_ ?_<;>intro h
 ·refine sA Z<|sN<|cT<|EH Z Z<|sM Z<|sV (.d (.lst ([-1,0,1099511627776,1099511627777].map (PD.int .i64))))<|bE h fun j x h=>cR (rI j.1) [(0,.var (ag.rc j.2))] (ce x)<|sV (.ptr 48 0)<|sV (.ptr 48 9)<|sS 48 (.var (ah.rc a1.ae.bk++aw.rc a1.ae.bJ++rI j.1::rI a1.ae.bz::rI a1.ae.ey::rI a1.ae.dq::rI a1.ae.dp::bC.rc a1.bN++[rI a1.bz]))<|sN<|gU Z<|sV (.d (aj.pd (aj.mk (bt.mk a1.ae.bk a1.ae.bJ j.1 a1.ae.bz a1.ae.ey a1.ae.dq a1.ae.dp) a1.bN a1.bz)))<|sH 64 (.var (ah.rc a1.ae.bk++aw.rc a1.ae.bJ++rI j.1::rI a1.ae.bz::rI a1.ae.ey::rI a1.ae.dq::rI a1.ae.dp::bC.rc a1.bN++[rI a1.bz])) ?_
  refine sN<|qR ?_
  cases oI h
  exact qG
 refine sA Z<|sN<|cF<|gU Z<|sF h ?_ ?_<;>intro h
 ·refine sA Z<|sN<|cT<|EH Z Z<|sM Z<|sV (.d (.lst ([-1,0,1099511627776,1099511627777].map (PD.int .i64))))<|bE h fun k y h=>cR (rI k.1) [(0,.var (ag.rc k.2))] (ce y)<|sV (.ptr 48 19)<|sS 48 (.var (bt.rc a1.ae++bC.rc a1.bN++[rI k.1]))<|sN<|gU Z<|sV (.d (aj.pd (aj.mk a1.ae a1.bN k.1)))<|sH 64 (.var (bt.rc a1.ae++bC.rc a1.bN++[rI k.1]))<|sN ?_
  refine qR ?_
  cases oI h
  exact qG
 refine sA Z<|sN<|cF<|gU Z<|sF h ?_ ?_<;>intro h
 ·refine sA Z<|sN<|cT<|EH Z Z<|sM Z<|sV (.ptr 48 14)<|sV (.ptr 48 14)<|sV (.d (aw.pd a1.bN.bF))<|bE h fun a l h=>cR (.d (aw.pd a.1)) [(0,.var (ag.rc a.2))] (ce l)<|sV (.ptr 48 14)<|sV (.ptr 48 14)<|sS 48 (.var (bt.rc a1.ae++aw.rc a.1++[rI a1.bN.bI,rI a1.bN.bG,rI a1.bz]))<|sN<|gU Z ?_
  refine sV (.d (.agg [.int .i64 a1.ae.bk.bh.fX,.int .i64 a1.ae.bk.bh.fY,.int .i64 a1.ae.bk.bh.fZ,.int .i64 a1.ae.bk.av.fX,.int .i64 a1.ae.bk.av.fY,.int .i64 a1.ae.bk.av.fZ,.int .i64 a1.ae.bJ.bS,.lst (a1.ae.bJ.bh.map (PD.int .i64)),.lst (a1.ae.bJ.av.map (PD.int .i64)),.int .i64 a1.ae.dL,.int .i64 a1.ae.bz,.int .i64 a1.ae.ey,.int .i64 a1.ae.dq,.int .i64 a1.ae.dp,.int .i64 a.1.bS,.lst (a.1.bh.map (PD.int .i64)),.lst (a.1.av.map (PD.int .i64)),.int .i64 a1.bN.bI,.int .i64 a1.bN.bG,.int .i64 a1.bz]))<|sH 64 (.var (bt.rc a1.ae++aw.rc a.1++[rI a1.bN.bI,rI a1.bN.bG,rI a1.bz]))<|sN<|qR ?_
  cases oI h
  exact qG
 refine sA Z<|sN<|cF<|EH Z Z<|sM Z<|sV (.d (.lst ([-1,0,1,65536,65537].map (PD.int .i64))))<|bE h fun c p h=>cR (rI c.1) [(0,.var (ag.rc c.2))] (ce p)<|sV (.ptr 48 14)<|sV (.ptr 48 18)<|sS 48 (.var (bt.rc a1.ae++aw.rc a1.bN.bF++[rI a1.bN.bI,rI c.1,rI a1.bz]))<|sN<|gU Z<|sV (.d (aj.pd (aj.mk a1.ae (bC.mk a1.bN.bF a1.bN.bI c.1) a1.bz)))<|sH 64 (.var (bt.rc a1.ae++aw.rc a1.bN.bF++[rI a1.bN.bI,rI c.1,rI a1.bz])) ?_
 refine sN<|qR ?_
 cases oI h
 exact qG
theorem nA{a1:ac}{d0:ag}{r:ac×ag}(h:cZ a1 d0=some r):EvP prog bi ext 12 [.ptr 0 0,.d (ac.pd a1)] [.var (ag.rc d0)] (.d (ac.pd r.1),[.var (ag.rc r.2)]):=bentD_ev rfl h
section
attribute [local irreducible] HM HU HF HB WO WC QS QB sR
instance {a0:aa}:CE prog bi ext (bU a0) 101 [.d (aa.pd a0)] [] fun r=>(.d (bB.pd r),[]):=⟨fun h=>Ev.au h Tryz.func101⟩
instance {a0:aa}:CE prog bi ext (dy a0) 100 [.d (aa.pd a0)] [] fun r=>(rB r,[]):=⟨fun h=>Ev.au h Tryz.func100⟩
instance {a0:ah}:CE prog bi ext (b9 a0) 64 [.d (ah.pd a0)] [] fun r=>(rB r,[]):=⟨fun h=>Ev.au h Tryz.func64⟩
instance {a0:aw}:LI (je a0) 6 (fun s=>[(4,rI s.1),(5,rI s.2.1),(34,rI s.2.2)]) (fun s=>[]) (jY 12 (fun y=>[]) (fun y=>[]) Tryz.f65 fun r=>(rI r,[])):=⟨⟩
instance {a0:aw}:CE prog bi ext (cV a0) 65 [.d (aw.pd a0)] [] fun r=>(rI r,[]):=⟨fun h=>Ev.au h Tryz.func65⟩
instance {a0:Int}{a1:Int}{a2:Int}:CE prog bi ext (gu a0 a1 a2) 66 [rI a0,rI a1,rI a2] [] fun r=>(rB r,[]):=⟨fun h=>Ev.au h Tryz.func66⟩
instance {a0:br}:CE prog bi ext (fJ a0) 102 [.d (br.pd a0)] [] fun r=>(rB r,[]):=⟨fun h=>Ev.au h Tryz.func102⟩
instance {a0:Int}{a1:Int}{a2:Int}:CE prog bi ext (eO a0 a1 a2) 141 [rI a0,rI a1,rI a2] [] fun r=>(rI r,[]):=⟨fun h=>Ev.au h Tryz.func141⟩
instance {a0:ah}{a1:aa}:CE prog bi ext (eD a0 a1) 140 [.d (ah.pd a0),.d (aa.pd a1),.d (.raw (.func (.func 141) #[] #[]))] [] fun r=>(rI r,[]):=⟨fun h=>Ev.au h Tryz.func140⟩
instance {a0:ah}{a1:aa}:CE prog bi ext (eI a0 a1) 90 [.d (ah.pd a0),.d (aa.pd a1)] [] fun r=>(rI r,[]):=⟨fun h=>Ev.au h Tryz.func90⟩
instance {a0:Int}{a1:Int}{a2:Int}:CE prog bi ext (eo a0 a1 a2) 142 [rI a0,rI a1,rI a2] [] fun r=>(rI r,[]):=⟨fun h=>Ev.au h Tryz.func142⟩
instance {a0:ah}{a1:aa}:CE prog bi ext (er a0 a1) 140 [.d (ah.pd a0),.d (aa.pd a1),.d (.raw (.func (.func 142) #[] #[]))] [] fun r=>(rI r,[]):=⟨fun h=>Ev.au h Tryz.func140⟩
instance {a0:ah}{a1:aa}:CE prog bi ext (gw a0 a1) 91 [.d (ah.pd a0),.d (aa.pd a1)] [] fun r=>(rI r,[]):=⟨fun h=>Ev.au h Tryz.func91⟩
instance {a0:aw}{a1:ah}{a2:aa}:CE prog bi ext (kY a0 a1 a2) 160 [.d (aw.pd a0),.d (ah.pd a1),.d (aa.pd a2)] [] fun r=>(.tup [.d (aw.pd r.1),rI r.2.1,rI r.2.2],[]):=⟨fun h=>Ev.au h Tryz.func160⟩
instance {a0:Int}:CE prog bi ext (ov a0) 217 [.d (.int .u64 a0)] [] fun r=>(rI r,[]):=⟨fun h=>Ev.au h Tryz.func217⟩
instance {a0:Int}:CE prog bi ext (mK a0) 168 [.d (.int .u64 a0)] [] fun r=>(rI r,[]):=⟨fun h=>Ev.au h Tryz.func168⟩
instance {a0:Int}:LI (gx a0) 5 (fun s=>[(3,rI s.1),(4,rI s.2)]) (fun s=>[]) (jX 10 (fun o=>[(3,rI o)]) fun o=>[]):=⟨⟩
instance {a0:Int}:CE prog bi ext (fO a0) 184 [rI a0] [] fun r=>(rI r,[]):=⟨fun h=>Ev.au h Tryz.func184⟩
instance {a0:Int}:CE prog bi ext (eH a0) 180 [rI a0] [] fun r=>(rI r,[]):=⟨fun h=>Ev.au h Tryz.func180⟩
instance {a0:aw}:CE prog bi ext (lK a0) 181 [.d (aw.pd a0)] [] fun r=>(rI r,[]):=⟨fun h=>Ev.au h Tryz.func181⟩
instance {a0:Int}{d0:aw}{d1:Int}:CE prog bi ext (jd a0 d0 d1) 183 [rI a0,.ptr 0 0,.ptr 1 0] [.var (aw.rc d0),.var [rI d1]] fun r=>(rB r,[.var (aw.rc d0),.var [rI d1]]):=⟨fun h=>Ev.au h Tryz.func183⟩
instance {d0:aw}{d1:Int}:LI (jc d0 d1) 2 (fun s=>[(5,rI s.1),(6,rI s.2)]) (fun s=>[]) (jX 7 (fun o=>[(5,rI o)]) fun o=>[]):=⟨⟩
instance {a0:Int}{d0:aw}{d1:Int}:CE prog bi ext (iY a0 d0 d1) 182 [rI a0,.clo 183 [.ptr 0 0,.ptr 1 0]] [.var (aw.rc d0),.var [rI d1]] fun r=>(rI r,[.var (aw.rc d0),.var [rI d1]]):=⟨fun h=>Ev.au h Tryz.func182⟩
instance {a0:aw}{a1:Int}{a2:Int}:CE prog bi ext (ek a0 a1 a2) 136 [.d (aw.pd a0),rI a1,rI a2] [] fun r=>(.tup [rI r.1,rI r.2.1,rI r.2.2],[]):=⟨fun h=>Ev.au h Tryz.func136⟩
instance {a0:aw}{a1:ah}{a2:aa}:CE prog bi ext (dK a0 a1 a2) 103 [.d (aw.pd a0),.d (ah.pd a1),.d (aa.pd a2)] [] fun r=>(.tup [rI r.1,rI r.2.1,rI r.2.2],[]):=⟨fun h=>Ev.au h Tryz.func103⟩
instance {a0:aw}{a1:ah}{a2:br}:CE prog bi ext (im a0 a1 a2) 67 [.d (aw.pd a0),.d (ah.pd a1),.d (br.pd a2)] [] fun r=>(.tup [.d (bw.pd r.1),rI r.2],[]):=⟨fun h=>Ev.au h Tryz.func67⟩
instance {a1:(List br)}{a0:bt}:LI (eA a1 a0) 6 (fun s=>[(54,rI s)]) (fun s=>[]) (jY 12 (fun y=>[]) (fun y=>[]) Tryz.f38 fun r=>(rI r,[])):=⟨⟩
instance {a0:bt}{a1:(List br)}:CE prog bi ext (gt a0 a1) 38 [.d (bt.pd a0),rM br.pd a1] [] fun r=>(rI r,[]):=⟨fun h=>Ev.au h Tryz.func38⟩
instance {a0:bC}:CE prog bi ext (cP a0) 39 [.d (bC.pd a0)] [] fun r=>(rB r,[]):=⟨fun h=>Ev.au h Tryz.func39⟩
instance {a0:aj}:CE prog bi ext (db a0) 13 [.d (aj.pd a0)] [] fun r=>(rI r,[]):=⟨fun h=>Ev.au h Tryz.func13⟩
instance {a0:aa}:CE prog bi ext (fu a0) 78 [.d (aa.pd a0)] [] fun r=>(rB r,[]):=⟨fun h=>Ev.au h Tryz.func78⟩
instance {a0:ah}:CE prog bi ext (cm a0) 68 [.d (ah.pd a0)] [] fun r=>(rB r,[]):=⟨fun h=>Ev.au h Tryz.func68⟩
instance {a0:aw}:LI (jL a0) 4 (fun s=>[(3,rI s)]) (fun s=>[]) (jY 10 (fun y=>[]) (fun y=>[]) Tryz.f69 fun r=>(rI r,[])):=⟨⟩
instance {a0:aw}:CE prog bi ext (cS a0) 69 [.d (aw.pd a0)] [] fun r=>(rI r,[]):=⟨fun h=>Ev.au h Tryz.func69⟩
instance {a0:bt}:CE prog bi ext (ko a0) 40 [.d (bt.pd a0)] [] fun r=>(rB r,[]):=⟨fun h=>Ev.au h Tryz.func40⟩
instance {a0:bC}:CE prog bi ext (gc a0) 41 [.d (bC.pd a0)] [] fun r=>(rB r,[]):=⟨fun h=>Ev.au h Tryz.func41⟩
instance {a0:aj}:CE prog bi ext (cw a0) 14 [.d (aj.pd a0)] [] fun r=>(rI r,[]):=⟨fun h=>Ev.au h Tryz.func14⟩
instance {a0:Int}:CE prog bi ext (lJ a0) 161 [.d (.int .u8 a0)] [] fun r=>(rB r,[]):=⟨fun h=>Ev.au h Tryz.func161⟩
end
end Go.Dw.Ss
