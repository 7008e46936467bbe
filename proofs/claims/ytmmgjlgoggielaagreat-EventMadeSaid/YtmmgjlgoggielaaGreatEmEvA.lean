
import Derived.Test.YtmmgjlgoggielaaGreatEmFn
import Derived.Test.YtmmgjlgoggielaaGreatDwShort
import Derived.Test.YtmmgjlgoggielaaGreatDwNest
import Derived.Test.YtmmgjlgoggielaaGreatProg
import Derived.Test.YtmmgjlgoggielaaGreatDwClone
import Derived.Test.YtmmgjlgoggielaaGreatDwSortI
import Derived.Test.YtmmgjlgoggielaaGreatDwSort

set_option maxRecDepth 100000
set_option maxHeartbeats 4000000
namespace Go.Dw.Em
open Go.Proofs Go.Proofs.Tryz Go.Dw
@[reducible] def rW(n:Int):Int:=IntKind.wrap .i64 n
@[reducible] def rI(n:Int):RV:= .d (.int .i64 n)
@[reducible] def r0:RV:= .d (.int .i64 0)
@[reducible] def rS(s:List UInt8):RV:= .d (.str s)
@[reducible] def rB(b:Bool):RV:= .d (.bool b)
@[reducible] def rM{α:Type}(g:α->PD)(l:List α):RV:= .d (.lst (l.map g))
@[reducible] def rL(l:List Int):RV:= .d (.lst (l.map (PD.int .i64)))
@[reducible] def zZ0:List RV:=[.dO,.d (.int .i64 0),.d (.int .i64 0),.d (.int .i64 0),.d (.int .i64 0),.d (.int .i64 0),.d (.int .i64 0),.d (.int .i64 0),.d (.int .i64 0),.d (.int .i64 0),.d (.int .i64 0),.d (.int .i64 0),.d (.int .i64 0),.d (.int .i64 0),.d (.int .i64 0),.d (.int .i64 0)]
@[reducible] def zZ1:List RV:=[.d (.int .i64 0),.d (.int .i64 0),.d (.int .i64 0),.d (.int .i64 0),.d (.int .i64 0),.d (.int .i64 0),.d (.int .i64 0),.d (.int .i64 0),.d (.int .i64 0),.d (.int .i64 0),.d (.int .i64 0),.d (.int .i64 0)]
@[reducible] def zZ2:List RV:=[.d (.str []),.d (.str []),.d (.str []),.d (.str []),.d (.int .i64 0),.d (.int .i64 0),.d (.int .i64 0),.d (.int .i64 0),.d (.int .i64 0)]
@[reducible] def zZ3:List RV:=[.d (.int .i64 0),.d (.int .i64 0),.d (.int .i64 0),.d (.int .i64 0),.d (.int .i64 0),.d (.int .i64 0),.d (.int .i64 0),.dO]
@[reducible] def zZ4:List RV:=[.d (.int .i64 0),.d (.int .i64 0),.d (.int .i64 0),.d (.int .i64 0),.d (.int .i64 0),.d (.int .i64 0)]
@[reducible] def ar.rc(x:ar):List RV:=[.d (.int .i64 x.ae.aM.aI.fX),.d (.int .i64 x.ae.aM.aI.fY),.d (.int .i64 x.ae.aM.aI.fZ),.d (.int .i64 x.ae.aM.aC.fX),.d (.int .i64 x.ae.aM.aC.fY),.d (.int .i64 x.ae.aM.aC.fZ),.d (.int .i64 x.ae.aW.aZ),.d (.lst (x.ae.aW.aI.map (PD.int .i64))),.d (.lst (x.ae.aW.aC.map (PD.int .i64))),.d (.int .i64 x.ae.cG),.d (.int .i64 x.ae.bf),.d (.int .i64 x.ae.dC),.d (.int .i64 x.ae.d9),.d (.int .i64 x.ae.co),.d (.int .i64 x.cm.bC.aZ),.d (.lst (x.cm.bC.aI.map (PD.int .i64))),.d (.lst (x.cm.bC.aC.map (PD.int .i64))),.d (.int .i64 x.cm.bd),.d (.int .i64 x.cm.aY),.d (.int .i64 x.bf)]
@[reducible] def aG.rc(x:aG):List RV:=[.d (.int .i64 x.aM.aI.fX),.d (.int .i64 x.aM.aI.fY),.d (.int .i64 x.aM.aI.fZ),.d (.int .i64 x.aM.aC.fX),.d (.int .i64 x.aM.aC.fY),.d (.int .i64 x.aM.aC.fZ),.d (.int .i64 x.aW.aZ),.d (.lst (x.aW.aI.map (PD.int .i64))),.d (.lst (x.aW.aC.map (PD.int .i64))),.d (.int .i64 x.cG),.d (.int .i64 x.bf),.d (.int .i64 x.dC),.d (.int .i64 x.d9),.d (.int .i64 x.co)]
@[reducible] def aD.rc(x:aD):List RV:=[.d (.int .i64 x.b8),.d (.int .i64 x.bd.a0),.d (.int .i64 x.bd.a1),.d (.int .i64 x.bd.a2),.d (.int .i64 x.aY.a0),.d (.int .i64 x.aY.a1),.d (.int .i64 x.aY.a2),.d (.lst (x.bN.map (PD.int .i64))),.d (.int .i64 x.bt),.d (.int .i64 x.bR)]
@[reducible] def ai.rc(x:ai):List RV:=[.d (.str x.aw.ba),.d (.str x.aw.aN),.d (.str x.aw.av),.d (.str x.aw.bc),.d (.int .i64 x.bn),.d (.int .i64 x.aQ),.d (.int .i64 x.bw),.d (.int .i64 x.bg),.d (.int .i64 x.bz)]
@[reducible] def ap.rc(x:ap):List RV:=[.d (.int .i64 x.bj),.d (.int .i64 x.fTo),.d (.int .i64 x.di.bd),.d (.int .i64 x.di.aY),.d (.int .i64 x.aP.fX),.d (.int .i64 x.aP.fY),.d (.int .i64 x.aP.fZ),.d (.lst (x.bu.aV.map aD.pd))]
@[reducible] def ag.rc(x:ag):List RV:=[.d (.int .i64 x.aI.fX),.d (.int .i64 x.aI.fY),.d (.int .i64 x.aI.fZ),.d (.int .i64 x.aC.fX),.d (.int .i64 x.aC.fY),.d (.int .i64 x.aC.fZ)]
@[reducible] def aj.rc(x:aj):List RV:=[.d (.int .i64 x.aN.fX),.d (.int .i64 x.aN.fY),.d (.int .i64 x.aN.fZ),.d (.int .i64 x.aQ),.d (.int .i64 x.bw),.d (.int .i64 x.bJ)]
@[reducible] def bo.rc(x:bo):List RV:=[.d (.int .i64 x.bC.aZ),.d (.lst (x.bC.aI.map (PD.int .i64))),.d (.lst (x.bC.aC.map (PD.int .i64))),.d (.int .i64 x.bd),.d (.int .i64 x.aY)]
@[reducible] def aq.rc(x:aq):List RV:=[.d (.str x.aw.ba),.d (.str x.aw.aN),.d (.str x.aw.av),.d (.str x.aw.bc),.d (.lst (x.aT.map ap.pd))]
@[reducible] def ah.rc(x:ah):List RV:=[.d (.int .i64 x.aM.aI.fX),.d (.int .i64 x.aM.aI.fY),.d (.int .i64 x.aM.aI.fZ),.d (.int .i64 x.aM.aC.fX),.d (.int .i64 x.aM.aC.fY),.d (.int .i64 x.aM.aC.fZ),.d (.int .i64 x.aW.aZ),.d (.lst (x.aW.aI.map (PD.int .i64))),.d (.lst (x.aW.aC.map (PD.int .i64))),.d (.lst (x.a7.map aj.pd)),.d (.int .i64 x.cG)]
@[reducible] def am.rc(x:am):List RV:=[.d (.int .i64 x.jV.aI.fX),.d (.int .i64 x.jV.aI.fY),.d (.int .i64 x.jV.aI.fZ),.d (.int .i64 x.jV.aC.fX),.d (.int .i64 x.jV.aC.fY),.d (.int .i64 x.jV.aC.fZ),.d (.int .i64 x.cu),.d (.int .i64 x.gE)]
@[reducible] def bO.rc(x:bO):List RV:=[.d (.int .i64 x.fp.aM.aI.fX),.d (.int .i64 x.fp.aM.aI.fY),.d (.int .i64 x.fp.aM.aI.fZ),.d (.int .i64 x.fp.aM.aC.fX),.d (.int .i64 x.fp.aM.aC.fY),.d (.int .i64 x.fp.aM.aC.fZ),.d (.int .i64 x.fp.aW.aZ),.d (.lst (x.fp.aW.aI.map (PD.int .i64))),.d (.lst (x.fp.aW.aC.map (PD.int .i64))),.d (.lst (x.fp.a7.map aj.pd)),.d (.int .i64 x.fp.cG),.d (.lst (x.kF.map am.pd)),.d (.int .i64 x.gE),.d (.int .i64 x.ftaken),.d (.bool x.ffound),.d (.int .i64 x.bS.aX.fX),.d (.int .i64 x.bS.aX.fY),.d (.int .i64 x.bS.aX.fZ),.d (.int .i64 x.bS.bn),.d (.int .i64 x.bS.bq),.d (.int .i64 x.bS.fq),.d (.int .i64 x.bS.bh.aI.fX),.d (.int .i64 x.bS.bh.aI.fY),.d (.int .i64 x.bS.bh.aI.fZ),.d (.int .i64 x.bS.bh.aC.fX),.d (.int .i64 x.bS.bh.aC.fY),.d (.int .i64 x.bS.bh.aC.fZ)]
@[reducible] def aH.rc(x:aH):List RV:=[.d (.str x.cb.aw.ba),.d (.str x.cb.aw.aN),.d (.str x.cb.aw.av),.d (.str x.cb.aw.bc),.d (.int .i64 x.cb.bn),.d (.int .i64 x.cb.aQ),.d (.int .i64 x.cb.bw),.d (.int .i64 x.cb.bg),.d (.int .i64 x.cb.bz),.d (.lst (x.aF.ec.map ai.pd)),.d (.int .i64 x.aF.av.aX.fX),.d (.int .i64 x.aF.av.aX.fY),.d (.int .i64 x.aF.av.aX.fZ),.d (.int .i64 x.aF.av.bn),.d (.int .i64 x.aF.av.bq),.d (.int .i64 x.aF.av.fq),.d (.int .i64 x.aF.av.bh.aI.fX),.d (.int .i64 x.aF.av.bh.aI.fY),.d (.int .i64 x.aF.av.bh.aI.fZ),.d (.int .i64 x.aF.av.bh.aC.fX),.d (.int .i64 x.aF.av.bh.aC.fY),.d (.int .i64 x.aF.av.bh.aC.fZ),.d (.int .i64 x.aF.bQ.aI),.d (.int .i64 x.aF.bQ.aC),.d (.int .i64 x.aF.lf)]
@[reducible] def bv.rc(x:bv):List RV:=[.d (.lst (x.ec.map ai.pd)),.d (.int .i64 x.av.aX.fX),.d (.int .i64 x.av.aX.fY),.d (.int .i64 x.av.aX.fZ),.d (.int .i64 x.av.bn),.d (.int .i64 x.av.bq),.d (.int .i64 x.av.fq),.d (.int .i64 x.av.bh.aI.fX),.d (.int .i64 x.av.bh.aI.fY),.d (.int .i64 x.av.bh.aI.fZ),.d (.int .i64 x.av.bh.aC.fX),.d (.int .i64 x.av.bh.aC.fY),.d (.int .i64 x.av.bh.aC.fZ),.d (.int .i64 x.bQ.aI),.d (.int .i64 x.bQ.aC),.d (.int .i64 x.lf)]
@[reducible] def ak.rc(x:ak):List RV:=[.d (.int .i64 x.aX.fX),.d (.int .i64 x.aX.fY),.d (.int .i64 x.aX.fZ),.d (.int .i64 x.bn),.d (.int .i64 x.bq),.d (.int .i64 x.fq),.d (.int .i64 x.bh.aI.fX),.d (.int .i64 x.bh.aI.fY),.d (.int .i64 x.bh.aI.fZ),.d (.int .i64 x.bh.aC.fX),.d (.int .i64 x.bh.aC.fY),.d (.int .i64 x.bh.aC.fZ)]
@[reducible] def a8.rc(x:a8):List RV:=[.d (.lst (x.cz.map (PD.int .i64))),.d (.int .i64 x.aX.fX),.d (.int .i64 x.aX.fY),.d (.int .i64 x.aX.fZ),.d (.int .i64 x.bn)]
@[reducible] def au.rc(x:au):List RV:=[.d (.str x.ba),.d (.str x.aN),.d (.str x.av),.d (.str x.bc)]
@[reducible] def ac.rc(x:ac):List RV:=[.d (.lst (x.fL.map (PD.int .i64))),.d (.int .i64 x.fAt)]
@[reducible] def aa.rc(x:aa):List RV:=[.d (.int .i64 x.fX),.d (.int .i64 x.fY),.d (.int .i64 x.fZ)]
@[reducible] def aA.rc(x:aA):List RV:=[.d (.int .i64 x.aZ),.d (.lst (x.aI.map (PD.int .i64))),.d (.lst (x.aC.map (PD.int .i64)))]
@[reducible] def bp.rc(x:bp):List RV:=[.d (.lst (x.n8.map (PD.int .i64))),.d (.lst (x.fback.map (PD.int .i64)))]
@[reducible] def aU.rc(x:aU):List RV:=[.d (.lst (x.dv.map ai.pd)),.d (.lst (x.dj.map aj.pd)),.d (.lst (x.jG.map ap.pd))]
@[reducible] def aO.rc(x:aO):List RV:=[.d (.lst (x.bd.map (PD.int .i64))),.d (.lst (x.aY.map (PD.int .i64)))]
@[reducible] def aB.rc(x:aB):List RV:=[.d (.int .i64 x.aI),.d (.int .i64 x.aC)]
theorem Z{α:Sort _}{a:α}:a=a:=rfl
theorem Zk{α:Sort _}{a b:α}(h:a=b:=by kernel_rfl):a=b:=h
theorem gU{P:Program}{H:Hints}{ext:FuncId->Option kb}{f:FuncId}{nb:Nat}{R:List (Nat×RV)}{B:List (Nat×Box)}{Q:Ex->List (Nat×RV)->List (Nat×Box)->Prop}{id:Nat}{ops:Array Oper}{l:List Oper}{R0:List (Nat×RV)}{B0:List (Nat×Box)}{b:Code}(hl:(ops.toList,dN P nb (A R B) (H.at_ f nb id))=(l,some (A R0 B0)))
    (h:WO P H ext (H.hf f) ops l R0 B0 fun R' B' _=>WC P H ext f nb b R' B' Q):WC P H ext f nb (.seq (.region id ops false) b) R B Q:=gS (congrArg Prod.fst hl) (congrArg Prod.snd hl) h
def hintAt:FuncId->Nat->Nat->List yH:=fun f nb id=>
  if f=6 then(if nb=0 then(if id=7 then [.own 8 1792 66,.ev [3,4,5,6,7,8,9] [64,80,96,320,1792]]else if id=19 then [.frz (.reg 8),.ev [4,5,8] [64,80]]else [])else [])else if f=13 then(if nb=1 then(if id=3 then [.ownp (.cell 80 0) 1104 116,.ev [0,1,4,5,6] [0,64,80,1104]]else if id=16 then [.ev [4,5] [0,64,80,1104]]else [])else [])else if f=20 then(if nb=0 then(if id=9 then [.own 14 1360 86,.ev [3,4,9,13,14,47,48,49] [48,64,1360]]else if id=13 then [.own 17 1056 66,.ev [3,4,9,13,14,17,47,48,49,54,55,56] [48,64,1056,1360]]else if id=17 then [.ev [3,4,9,13,14,17,47,48,49] [48,64,1056,1360]]else if id=22 then [.ev [9,13,14] [1360]]else if id=25 then [.own 22 1648 66,.ev [9,14,22,91,92,93] [1360,1648]]else if id=29 then [.ev [14,22] [1360,1648]]else [])else [])else if f=28 then(if nb=0 then(if id=2 then [.ev [2,4,6,13,14,15] [64,96]]else if id=5 then [.ev [2,4,6,9,13,14,15,20,21,22] [64,96,144]]else if id=10 then [.ev [2,4,6,13,14,15] [64,96]]else if id=11 then [.ev [6] [96]]else [])else [])else if f=31 then(if nb=0 then(if id=3 then [.ev [5,6] []]else if id=5 then [.ev [6] []]else [])else [])else if f=49 then(if nb=1 then(if id=3 then [.ev [2,3,16,17] [0,32,48,96,97]]else if id=7 then [.ev [2,3] [0,32,48,96,97]]else [])else [])else if f=52 then(if nb=1 then(if id=3 then [.ownp (.cell 48 0) 1040 184,.ev [0,2,3,4] [0,32,48,1040]]else if id=13 then [.ev [2,3] [0,32,48,1040]]else [])else [])else if f=55 then(if nb=0 then(if id=7 then [.ownp (.cell 128 0) 704 66,.ownp (.cell 128 1) 784 81,.ownp (.cell 128 2) 864 113,.ev [3,4,6,8,25,26,27] [48,64,96,128,704,784,864]]else if id=13 then [.ev [6,8] [96,128,704,784,864]]else [])else [])else if f=57 then(if nb=0 then(if id=7 then [.ev [4,8,37,38,39] [64,128]]else if id=13 then [.ev [4,8] [64,128]]else [])else [])else if f=58 then(if nb=0 then(if id=3 then [.own 7 816 47,.ev [3,4,5,7,13,14,15] [48,64,80,816]]else if id=9 then [.ev [7] [816]]else [])else [])else if f=62 then(if nb=0 then(if id=3 then [.ev [1,2,6,18,19,20] [32,272]]else if id=7 then [.ev [1,2,6] [32,272]]else if id=11 then [.ev [1,2,9,10,45,46,47] [32,272]]else if id=17 then [.ev [9,10] []]else [])else [])else if f=65 then(if nb=0 then(if id=8 then [.own 9 656 66,.own 10 720 81,.ev [3,4,9,10,24,25,26] [48,64,656,720]]else if id=14 then [.ev [9,10] [656,720]]else [])else [])else if f=66 then(if nb=0 then(if id=8 then [.own 8 2432 142,.own 9 2576 3,.ev [1,2,8,9,10,11] [32,176,560,561,2432,2576]]else if id=13 then [.own 13 1120 81,.ev [1,2,8,9,10,11,12,13,55,56,57] [32,176,560,561,1120,2432,2576]]else if id=17 then [.frz (.reg 13),.ev [1,2,8,9,10,11,12,13] [32,176,560,561,2432,2576]]else if id=25 then [.own 19 1840 3,.ev [1,2,8,9,10,11,12,16,18,19,98,99,100] [32,176,256,560,561,1840,2432,2576]]else if id=30 then [.ev [1,2,8,9,10,11,12,16,19] [32,176,256,560,561,1840,2432,2576]]else if id=33 then [.ownp (.cell 352 0) 2288 3,.ev [1,2,8,9,10,11,22,127,128,129] [32,176,352,560,561,1840,2288,2432,2576]]else if id=38 then [.ev [1,2,8,9,10,11,22] [32,176,352,560,561,2288,2432,2576]]else if id=40 then [.ev [1,2,8,9,10,11,12] [32,176,560,561,2432,2576]]else if id=42 then [.ev [8,9] [2432,2576]]else [])else [])else if f=76 then(if nb=0 then(if id=5 then [.ev [2,6,8,10] [96,128]]else if id=9 then [.ev [6] [96]]else [])else [])else if f=78 then(if nb=0 then(if id=3 then [.ev [1,3,9,10] [16,112]]else if id=7 then [.ev [1,3] [16,112]]else [])else [])else if f=83 then(if nb=0 then(if id=2 then [.ev [1,6,7,8] [16]]else if id=7 then [.ev [1] [16]]else [])else [])else if f=90 then(if nb=1 then(if id=2 then [.ev [0,1,7,8] [0]]else if id=7 then [.ev [] [0]]else [])else [])else if f=95 then(if nb=0 then(if id=3 then [.ev [3,6,7,8] []]else if id=8 then [.ev [3] []]else [])else [])else if f=105 then(if nb=1 then(if id=4 then [.ownp (.cell 48 1) 432 3,.ownp (.cell 48 2) 512 3,.ev [0,2,3,4,5,6] [0,32,48,432,512]]else if id=9 then [.ev [2,3] [0,32,48,432,512]]else [])else [])else if f=108 then(if nb=0 then(if id=10 then [.ev [1,7] [304,368]]else if id=14 then [.frz (.cell 304 11),.ev [7] [304]]else [])else [])else if f=109 then(if nb=0 then(if id=5 then [.ev [4,5,6,7,8,31] [64,80,96,112,128]]else [])else [])else if f=115 then(if nb=0 then(if id=3 then [.own 5 304 3,.ev [1,5,8,9,10] [304]]else if id=7 then [.ev [5] [304]]else [])else [])else if f=118 then(if nb=0 then(if id=6 then [.ev [2,52,53,54] [32]]else if id=12 then [.ev [] []]else [])else [])else if f=120 then(if nb=0 then(if id=14 then [.ev [1,38,39,40] [16]]else if id=20 then [.ev [] []]else [])else [])else if f=122 then(if nb=0 then(if id=3 then [.ev [2,3,6,16,17,18] [32,48,224]]else if id=10 then [.ev [6] [224]]else [])else [])else if f=123 then(if nb=0 then(if id=3 then [.ev [1,2,3,7,11,12,13] [48]]else if id=8 then [.ev [7] []]else [])else [])else if f=127 then(if nb=0 then(if id=3 then [.ev [0,2,3,13,14] [32,48,112,160]]else if id=7 then [.ev [2,3] [32,48,112,160]]else [])else [])else if f=129 then(if nb=0 then(if id=4 then [.own 9 928 3,.ev [2,3,4,5,9,10,11] [64,80,928]]else if id=7 then [.ev [9] [928]]else [])else if nb=2 then(if id=4 then [.own 9 928 3,.ev [2,3,4,5,9,10,11] [0,1,64,80,928]]else if id=7 then [.ev [9] [0,1,928]]else [])else [])else if f=131 then(if nb=0 then(if id=8 then [.ev [2,10,33,34,35] [512]]else if id=12 then [.ev [10] [512]]else [])else [])else if f=134 then(if nb=0 then(if id=5 then [.ev [0,1,4,5,6] [64,80]]else if id=9 then [.ev [4,5] [64,80]]else [])else [])else if f=135 then(if nb=1 then(if id=2 then [.ev [0,1,2,3,4,10,11] [0]]else [])else [])else if f=141 then(if nb=0 then(if id=2 then [.ev [1,3] [16]]else if id=3 then [.ev [1,3] [16]]else if id=7 then [.ev [1,3,4] [16,64]]else if id=8 then [.ev [1,3,4,5] [16,64]]else if id=12 then [.ev [1] [16]]else [])else [])else if f=142 then(if nb=0 then(if id=2 then [.ev [2,3,4,6] [32,48,64]]else if id=6 then [.ev [4] [64]]else [])else [])else if f=143 then(if nb=0 then(if id=4 then [.ev [1,3] [16]]else if id=10 then [.ev [] []]else [])else [])else if f=156 then(if nb=0 then(if id=2 then [.ev [0,5,6,7] []]else if id=7 then [.ev [0] []]else [])else [])else if f=175 then(if nb=0 then(if id=2 then [.ev [3,4,9,10,11] [48,64]]else if id=7 then [.ev [4] [64]]else [])else [])else if f=176 then(if nb=0 then(if id=2 then [.ev [1,4,9,10,11] [64]]else if id=7 then [.ev [4] [64]]else [])else [])else if f=183 then(if nb=1 then(if id=4 then [.ev [0,3] [0]]else if id=9 then [.ev [0,3,4,5] [0]]else if id=14 then [.ev [0,3] [0]]else if id=16 then [.ev [0] [0]]else [])else [])else if f=184 then(if nb=1 then(if id=5 then [.ownp (.cell 0 11) 80176 194,.mv (.cell 0 11) 90081,.ev [6] [0,90081]]else [])else if nb=2 then(if id=5 then [.ownp (.cell 0 11) 80176 194,.bumpp (.cell 0 11),.ev [6] [0,1]]else [])else [])else if f=186 then(if nb=2 then(if id=2 then [.bumpp (.cell 0 11),.ev [] [0,1]]else [])else [])else if f=195 then(if nb=0 then(if id=5 then [.ev [2,7,8,9,28,29] [128,144]]else [])else [])else if f=198 then(if nb=0 then(if id=2 then [.ev [0,1,7,8] []]else if id=7 then [.ev [] []]else [])else [])else if f=199 then(if nb=0 then(if id=6 then [.ev [1,4,5,33,34] [16]]else if id=12 then [.ev [] []]else [])else [])else if f=208 then(if nb=1 then(if id=1 then [.ev [0,1,2,3,8] [0]]else if id=2 then [.ev [0,1,2,3,8] [0]]else if id=4 then [.ev [0,1,2,3,8,9] [0]]else [])else [])else if f=217 then(if nb=0 then(if id=4 then [.ev [0,2] []]else if id=7 then [.ev [0,2] []]else [])else [])else if f=218 then(if nb=0 then(if id=2 then [.ev [0,1,2,7] []]else if id=6 then [.ev [0,1,2] []]else [])else [])else if f=220 then(if nb=0 then(if id=3 then [.ownp (.cell 48 0) 816 116,.ev [1,2,3,4] [16,32,48,816]]else if id=7 then [.ownp (.cell 80 4) 720 113,.ev [1,2,3,4,5,6] [16,32,48,80,720,816]]else if id=10 then [.ev [1,2,3,4,5] [16,32,48,80,720,816]]else if id=11 then [.ev [2,3] [32,48,816]]else [])else [])else if f=224 then(if nb=0 then(if id=3 then [.ev [0,3,4] []]else if id=8 then [.ev [3] []]else [])else [])else if f=229 then(if nb=2 then(if id=2 then [.ev [0,1,2,6,7,8] [0,1]]else if id=6 then [.ev [0,1,2,6,7] [0,1]]else if id=7 then [.ev [0,1,2,6] [0,1]]else if id=9 then [.ev [0,1,2,6,7,8] [0,1]]else if id=13 then [.ev [0,1,2,6,7] [0,1]]else [])else [])else if f=241 then(if nb=0 then(if id=2 then [.ev [0,1,2,9,10] []]else if id=7 then [.ev [0,1,2] []]else [])else [])else if f=257 then(if nb=0 then(if id=3 then [.ev [1,2,10,11,12] [16,32,112]]else if id=7 then [.ev [1,2] [16,32,112]]else [])else [])else if f=273 then(if nb=0 then(if id=7 then [.ev [1,2,6,8,31,32,33] [96,128]]else if id=17 then [.ev [6,8] [96,128]]else [])else [])else if f=278 then(if nb=2 then(if id=2 then [.ev [1,5,6] [0,1]]else if id=7 then [.ev [5] [0,1]]else [])else [])else if f=280 then(if nb=0 then(if id=5 then [.ev [0,3,4] []]else if id=10 then [.ev [3] []]else [])else [])else if f=299 then(if nb=0 then(if id=3 then [.ev [1,3,4] [16]]else if id=11 then [.ev [1] [16]]else [])else [])else if f=301 then(if nb=2 then(if id=1 then [.ev [0,1,2,3,8] [0,1]]else if id=2 then [.ev [0,1,2,3,8] [0,1]]else if id=4 then [.ev [0,1,2,3,8,9] [0,1]]else [])else [])else if f=326 then(if nb=0 then(if id=3 then [.ev [1,2,13,14] [16,32,112]]else if id=7 then [.ev [1,2] [16,32,112]]else [])else [])else if f=330 then(if nb=2 then(if id=0 then [.ev [0,1] [0,1]]else [])else [])else if f=331 then(if nb=2 then(if id=2 then [.ev [0,1,2,7] [0,1]]else if id=8 then [.ev [0,1,2,7,9] [0,1]]else if id=11 then [.ev [1,7] [0,1]]else [])else [])else if f=332 then(if nb=0 then(if id=5 then [.ev [2,3,4,16] [32,48,64]]else [])else [])else if f=339 then(if nb=0 then(if id=9 then [.ev [0,1,5,6] []]else [])else [])else if f=344 then(if nb=0 then(if id=1 then [.ev [0,1] []]else if id=3 then [.ev [0] []]else [])else [])else if f=345 then(if nb=0 then(if id=6 then [.fixv 16,.ev [1,3] []]else [])else [])else if f=346 then(if nb=0 then(if id=3 then [.ownp (.cell 48 0) 416 184,.ev [1,2,3,4] [16,32,48,416]]else if id=8 then [.ev [2,3] [32,48,416]]else [])else [])else if f=350 then(if nb=0 then(if id=1 then [.ev [0,1] []]else if id=3 then [.ev [0] []]else [])else [])else if f=353 then(if nb=0 then(if id=6 then [.fixv 16,.ev [1,3] []]else [])else [])else if f=354 then(if nb=0 then(if id=3 then [.ev [3,6,7,8] []]else if id=10 then [.ev [3] []]else [])else [])else if f=383 then(if nb=0 then(if id=3 then [.ev [3,6,7,8] []]else if id=7 then [.ev [3] []]else [])else [])else if f=386 then(if nb=0 then(if id=3 then [.ev [1,5,16,17,18] [240]]else if id=7 then [.ev [1,5,6,7,8,16,17,18,25,26] [240]]else if id=14 then [.ev [1,5,16,17,18] [240]]else if id=15 then [.ev [5] [240]]else [])else [])else if f=390 then(if nb=0 then(if id=2 then [.ev [0,3] []]else if id=6 then [.ev [] []]else [])else [])else if f=391 then(if nb=0 then(if id=3 then [.ev [0,3,4] []]else if id=6 then [.ev [3] []]else [])else [])else if f=393 then(if nb=0 then(if id=2 then [.ev [0,1,7,8] []]else if id=7 then [.ev [] []]else [])else [])else if f=406 then(if nb=0 then(if id=4 then [.own 4 240 3,.ev [0,4] [240]]else if id=7 then [.ev [4] [240]]else [])else [])else if f=408 then(if nb=0 then(if id=6 then [.own 6 560 3,.ev [0,1,6,7,18,19] [560]]else if id=12 then [.ev [6] [560]]else [])else [])else if f=409 then(if nb=0 then(if id=1 then [.ev [0] []]else if id=3 then [.ev [0] []]else [])else [])else if f=411 then(if nb=0 then(if id=2 then [.ev [0,1,7,8] []]else if id=7 then [.ev [] []]else [])else [])else if f=421 then(if nb=0 then(if id=2 then [.ev [0,1,7,8] []]else if id=7 then [.ev [] []]else [])else [])else []
def az:Hints:={ at_:=hintAt,mt:=fun f i=>(f==13&&i==28)||(f==443&&i==19),by_:=fun f i=>(f==68&&i==0)||(f==79&&i==0)||(f==129&&i==0)||(f==132&&i==0)||(f==133&&i==0)||(f==135&&i==0)||(f==149&&i==0)||(f==183&&i==0)||(f==208&&i==0)||(f==229&&i==0)||(f==301&&i==0)||(f==442&&i==0),own:=fun f i=>(f==105&&i==0)||(f==107&&i==0)||(f==127&&i==0)||(f==182&&i==0)||(f==257&&i==0)||(f==325&&i==0)||(f==364&&i==0) }
theorem eqN_26(a b:aa):xj prog .neq 26 (.d a.pd) (.d b.pd)=some (.bool (!((a.fX==b.fX)&&((a.fY==b.fY)&&((a.fZ==b.fZ)&&true)))),true):=by kernel_rfl
theorem eqE_64(a b:au):xj prog .eql 64 (.d a.pd) (.d b.pd)=some (.bool ((a.ba==b.ba)&&((a.aN==b.aN)&&((a.av==b.av)&&((a.bc==b.bc)&&true)))),true):=by kernel_rfl
theorem eqE_66(a b:ai):xj prog .eql 66 (.d a.pd) (.d b.pd)=some (.bool (((a.aw.ba==b.aw.ba)&&((a.aw.aN==b.aw.aN)&&((a.aw.av==b.aw.av)&&((a.aw.bc==b.aw.bc)&&true))))&&((a.bn==b.bn)&&((a.aQ==b.aQ)&&((a.bw==b.bw)&&((a.bg==b.bg)&&((a.bz==b.bz)&&true)))))),true):=by kernel_rfl
theorem eqN_66(a b:ai):xj prog .neq 66 (.d a.pd) (.d b.pd)=some (.bool (!(((a.aw.ba==b.aw.ba)&&((a.aw.aN==b.aw.aN)&&((a.aw.av==b.aw.av)&&((a.aw.bc==b.aw.bc)&&true))))&&((a.bn==b.bn)&&((a.aQ==b.aQ)&&((a.bw==b.bw)&&((a.bg==b.bg)&&((a.bz==b.bz)&&true))))))),true):=by kernel_rfl
theorem eE(a b:aS):xj prog .eql 182 (.d a.pd) (.d b.pd)=some (.bool ((a.a0==b.a0)&&((a.a1==b.a1)&&((a.a2==b.a2)&&true))),true):=by kernel_rfl
theorem T_api_Pick_inj:∀x y:ai,x.pd=y.pd->x=y:=by
  rintro⟨⟨z1,z2,z3,z4⟩,z5,z6,z7,z8,z9⟩ ⟨⟨z10,z11,z12,z13⟩,z14,z15,z16,z17,z18⟩ h
  cases h;rfl
def ext0:FuncId->Option kb:=fun _=>none
theorem lQ{a0:(List UInt8)}{r:Bool}(h:gf a0=some r):EvP prog az ext0 306 [rS a0] [] (rB r,[]):=by
 refine Ev.body Z Tryz.func306 Z Zk<|gU Z<|sU<|sN<|gU Z<|sM Z<|sM Z<|sV (rB (!(a0==a0)))<|sA Z<|sN<|qR ?_
 exact oI h▸qD
theorem eS{a0:(List UInt8)}{a1:(List UInt8)}{r:Int}(h:bW a0 a1=some r):EvP prog az ext0 239 [rS a0,rS a1] [] (rI r,[]):=by
 refine Ev.body Z Tryz.func239 Z Zk<|gU Z<|sV (r0)<|sN<|gU Z<|sM Z<|bE h fun x1 h1 h=>cD (lQ h1)<|sA Z<|sN<|gU Z<|sM Z<|bE h fun x2 h2 h=>cD (lQ h2)<|sA Z ?_
 refine sN<|qS<|gU Z<|sF h ?_ ?_<;>intro h
 ·refine sN<|cT<|qS<|gU Z<|sF h ?_ ?_<;>intro h
  ·refine sN<|cT<|gU Z<|sV (r0)<|sN<|qR ?_
   exact oI h▸qD
  refine sN<|cF<|qK<|gU Z<|sV (rI (-1))<|sN<|qR ?_
  exact oI h▸qD
 refine sN<|cF<|qK<|qS<|gU Z<|sF h ?_ ?_<;>intro h
 ·refine sN<|cT<|gU Z<|sV (rI 1)<|sN<|qR ?_
  exact oI h▸qD
 refine sN<|cF<|qK<|qS<|gU Z<|sM Z<|sM Z<|sF h ?_ ?_<;>intro h
 ·refine sN<|cT<|gU Z<|sV (rI (-1))<|sN<|qR ?_
  exact oI h▸qD
 refine sN<|cF<|qK<|qS<|gU Z<|sM Z<|sM Z<|sF h ?_ ?_<;>intro h
 ·refine sN<|cT<|gU Z<|sV (rI 1)<|sN<|qR ?_
  exact oI h▸qD
 refine sN<|cF<|qK<|gU Z<|sV (r0)<|sN<|qR ?_
 exact oI h▸qD
theorem pw{a0:(List Int)}{r:Int}(h:cM a0=some r):EvP prog az ext0 95 [rL a0] [] (rI r,[]):=by
 refine Ev.body Z Tryz.func95 Z Zk<|gU Z<|sV (r0)<|sN<|gU Z<|sV (r0)<|sN<|qS<|gU Z<|sM Z<|sE (rI (a0.length:Int)) (dX _ _)<|sV (r0)<|sN<|bE h fun o7 ho7 h=>WC.block (WC.loop (WL.fV ho7 (fun s R' B'=>dN prog 0 (A R' B') (az.at_ 95 0 3)=some (A [(3,r0),(6,rL a0),(7,rI (a0.length:Int)),(8,rI s)] [])) (fun o e R' B'=>match o with| .inl y=>e= .exit 0∧dN prog 0 (A R' B') (az.at_ 95 0 8)=some (A [(3,r0)] [])| .inr r=>e= .ret∧finish prog (az.own 95) Tryz.f95 0 (A R' B')=some (rI r,[])) Z ?_ ?_))
 ·rintro s1 R' B' q2 hI h
  refine gS Z hI<|sF h ?_ ?_<;>intro h
  ·refine sN<|qS<|cT<|qK<|qS<|qB<|gU Z<|bE h fun x4 h4 h=>eG h4 Z<|sC Z<|sA Z<|sN<|gU Z<|sM Z<|sM Z ?_
   refine sF h ?_ ?_<;>intro h
   ·refine sN<|cT<|gU Z<|sM Z<|sA Z<|sN<|qR ?_
    cases oI h
    exact⟨nofun,rfl,rfl⟩
   refine sN<|cF<|qK<|WC.region Z Z<|sV (rI (rW (s1+(1:Int))))<|sM Z<|sN ?_
   cases oI h
   exact⟨rfl,rfl⟩
  refine sN<|qS<|cF<|qX ?_
  cases oI h
  exact⟨nofun,rfl,rfl⟩
 intro e R' B' he hq
 rcases o7 with y8|r9
 ·obtain⟨rfl,hI⟩:=hq
  refine qE<|gS Z hI<|sM Z<|sA Z<|sN<|qR ?_
  exact oI h▸qD
 obtain⟨rfl,hf⟩:=hq
 cases oI h
 exact hf
theorem ro{a0:au}{a1:au}{r:Int}(h:ey a0 a1=some r):EvP prog az ext0 153 [.d (au.pd a0),.d (au.pd a1)] [] (rI r,[]):=by
 refine Ev.body Z Tryz.func153 Z Zk<|gU Z<|sB (.ptr 32 0) 32 (.var (au.rc a0))<|sB (.ptr 48 0) 48 (.var (au.rc a1))<|sV (r0)<|sN<|WC.cI Z Z<|sV (.ptr 32 0)<|sL Z<|sV (.ptr 48 0)<|sL Z<|bE h fun x1 h1 h=>cD (eS h1)<|sV (.ptr 32 1)<|sL Z ?_
 refine sV (.ptr 48 1)<|sL Z<|bE h fun x2 h2 h=>cD (eS h2)<|sV (.ptr 32 2)<|sL Z<|sV (.ptr 48 2)<|sL Z<|bE h fun x3 h3 h=>cD (eS h3)<|sV (.ptr 32 3)<|sL Z<|sV (.ptr 48 3)<|sL Z<|bE h fun x4 h4 h=>?_
 refine cD (eS h4)<|sV (.d (.lst ([x1,x2,x3,x4].map (PD.int .i64))))<|bE h fun x5 h5 h=>cD (pw h5)<|sA Z ?_
 refine sN<|sO<|qR ?_
 exact oI h▸qD
theorem nr{a0:Int}{r:Bool}(h:jw a0=some r):EvP prog az ext0 170 [rI a0] [] (rB r,[]):=by
 refine Ev.body Z Tryz.func170 Z Zk<|gU Z<|sU<|sN<|gU Z<|sM Z<|sM Z<|sV (rB (a0 != a0))<|sA Z<|sN<|qR ?_
 exact oI h▸qD
theorem eN{a0:Int}{a1:Int}{r:Int}(h:bK a0 a1=some r):EvP prog az ext0 96 [rI a0,rI a1] [] (rI r,[]):=by
 refine Ev.body Z Tryz.func96 Z Zk<|gU Z<|sV (r0)<|sN<|gU Z<|sM Z<|bE h fun x1 h1 h=>cD (nr h1)<|sA Z<|sN<|gU Z<|sM Z<|bE h fun x2 h2 h=>cD (nr h2)<|sA Z ?_
 refine sN<|qS<|gU Z<|sF h ?_ ?_<;>intro h
 ·refine sN<|cT<|qS<|gU Z<|sF h ?_ ?_<;>intro h
  ·refine sN<|cT<|gU Z<|sV (r0)<|sN<|qR ?_
   exact oI h▸qD
  refine sN<|cF<|qK<|gU Z<|sV (rI (-1))<|sN<|qR ?_
  exact oI h▸qD
 refine sN<|cF<|qK<|qS<|gU Z<|sF h ?_ ?_<;>intro h
 ·refine sN<|cT<|gU Z<|sV (rI 1)<|sN<|qR ?_
  exact oI h▸qD
 refine sN<|cF<|qK<|qS<|gU Z<|sM Z<|sM Z<|sF h ?_ ?_<;>intro h
 ·refine sN<|cT<|gU Z<|sV (rI (-1))<|sN<|qR ?_
  exact oI h▸qD
 refine sN<|cF<|qK<|qS<|gU Z<|sM Z<|sM Z<|sF h ?_ ?_<;>intro h
 ·refine sN<|cT<|gU Z<|sV (rI 1)<|sN<|qR ?_
  exact oI h▸qD
 refine sN<|cF<|qK<|gU Z<|sV (r0)<|sN<|qR ?_
 exact oI h▸qD
theorem qU{a0:ai}{a1:ai}{r:Int}(h:cA a0 a1=some r):EvP prog az ext0 80 [.d (ai.pd a0),.d (ai.pd a1)] [] (rI r,[]):=by
 refine Ev.body Z Tryz.func80 Z Zk<|gU Z<|sB (.ptr 32 0) 32 (.var (ai.rc a0))<|sB (.ptr 48 0) 48 (.var (ai.rc a1))<|sV (r0)<|sN<|WC.cI Z Z<|sV (.ptr 32 0)<|sV (.d (au.pd a0.aw))<|sV (.ptr 48 0)<|sV (.d (au.pd a1.aw))<|bE h fun x1 h1 h=>cD (ro h1)<|sV (.ptr 32 4)<|sL Z ?_
 refine sV (.ptr 48 4)<|sL Z<|bE h fun x2 h2 h=>cD (eN h2)<|sV (.ptr 32 5)<|sL Z<|sV (.ptr 48 5)<|sL Z<|bE h fun x3 h3 h=>cD (eN h3)<|sV (.ptr 32 6)<|sL Z<|sV (.ptr 48 6)<|sL Z<|bE h fun x4 h4 h=>?_
 refine cD (eN h4)<|sV (.ptr 32 7)<|sL Z<|sV (.ptr 48 7)<|sL Z<|bE h fun x5 h5 h=>cD (eN h5)<|sV (.ptr 32 8)<|sL Z<|sV (.ptr 48 8)<|sL Z<|bE h fun x6 h6 h=>cD (eN h6)<|sV (.d (.lst ([x1,x2,x3,x4,x5,x6].map (PD.int .i64))))<|bE h fun x7 h7 h=>?_
 refine cD (pw h7)<|sA Z ?_
 refine sN<|sO<|qR ?_
 cases oI h
 exact qG
noncomputable def ext:FuncId->Option kb:=fun f=>if f=79 then some (A2 80 66 ai.pd cA)else if f=182 then some (wm 66 9 104)else if f=325 then some (wm 113 8 80)else if f=364 then some (wm 184 10 96)else if f=107 then some (wm 3 1 8)else if f=133 then some (yd 3)else none
theorem sort_79_80{l r:List ai}(h:wT cA l=some r):EvP prog az ext 79 [.ref 0 0,.d (.raw (.func (.func 80) #[] #[]))] [.arr 0 66 (l.map ai.pd)] (.tup [],[.arr 0 66 (r.map ai.pd)]):=sort_ev rfl (sortD_of T_api_Pick_inj h)
theorem qh{l r:List Int}(h:tB l=some r):EvP prog az ext 133 [.ref 0 0] [.arr 0 3 (l.map (PD.int .i64))] (.tup [],[.arr 0 3 (r.map (PD.int .i64))]):=sortI_ev rfl h
theorem clone_182{l r:List ai}(h:sQ 104 l=some r):EvP prog az ext 182 [rM ai.pd l] [] (.ref 0 0,[.arr 0 66 (r.map ai.pd)]):=xn (g:=ai.pd) rfl (fun _=>rfl) h
theorem clone_325{l r:List ap}(h:sQ 80 l=some r):EvP prog az ext 325 [rM ap.pd l] [] (.ref 0 0,[.arr 0 113 (r.map ap.pd)]):=xn (g:=ap.pd) rfl (fun _=>rfl) h
theorem clone_364{l r:List aD}(h:sQ 96 l=some r):EvP prog az ext 364 [rM aD.pd l] [] (.ref 0 0,[.arr 0 184 (r.map aD.pd)]):=xn (g:=aD.pd) rfl (fun _=>rfl) h
theorem clone_107{l r:List Int}(h:sQ 8 l=some r):EvP prog az ext 107 [rL l] [] (.ref 0 0,[.arr 0 3 (r.map (PD.int .i64))]):=xn (g:=(PD.int .i64)) rfl (fun _=>rfl) h
theorem keep_New_ev{a0:(List Int)}{r:ac}(h:kH a0=some r):EvP prog az ext 11 [rL a0] [] (.ptr 0 0,[.var (ac.rc r)]):=by
 refine Ev.body Z Tryz.func11 Z Zk<|gU Z<|sV (.d (.raw (.pointer none)))<|sN<|gU Z<|sM Z<|sM Z<|sE (rI (a0.length:Int)) (dX _ _)<|sV (rI (if(2000:Int)<(a0.length:Int)then(2000:Int)else(a0.length:Int)))<|bE h fun x1 h1 h=>WO.cutL (sz:=1) (g:=(PD.int .i64)) h1 (fun _=>Z) Z Z Z Z Z Z Z Z Z Z Z<|sV (.d (ac.pd (ac.mk x1 0)))<|sB (.ptr 144 0) 144 (.var [rL x1,r0])<|sA Z<|sN ?_
 refine qR ?_
 exact oI h▸qD
theorem Src_Raw_ev{d0:ac}{r:Int×ac}(h:Src_Raw d0=some r):EvP prog az ext 72 [.ptr 0 0] [.var (ac.rc d0)] (rI r.1,[.var (ac.rc r.2)]):=by
 refine Ev.body Z Tryz.func72 Z Zk<|gU Z<|sV (r0)<|sN<|qS<|WC.cI Z Z<|sM Z<|sV (.ptr 0 0)<|sV (.ptr 0 1)<|sL Z<|sM Z<|sV (.ptr 0 0)<|sV (.ptr 0 0)<|sL Z<|sE (rI (d0.fL.length:Int)) (dX _ _) ?_
 refine sF h ?_ ?_<;>intro h
 ·refine sN<|sO<|cT<|gU Z<|sV (r0)<|sN<|qR ?_
  exact oI h▸qD
 refine sN<|sO<|cF<|qK<|gU Z<|sM Z<|sV (.ptr 0 0)<|sV (.ptr 0 1)<|sL Z<|sV (rI (rW (d0.fAt+(1:Int))))<|sV (.ptr 0 0)<|sV (.ptr 0 1)<|sS 0 (.var [rL d0.fL,rI (rW (d0.fAt+(1:Int)))])<|sN<|WC.cI Z Z<|sM Z ?_
 refine sV (.ptr 0 0)<|sV (.ptr 0 0)<|sL Z<|sM Z<|sV (.ptr 0 0)<|sV (.ptr 0 1)<|sL Z<|sV (rI (rW ((rW (d0.fAt+(1:Int)))-(1:Int))))<|bE h fun x2 h2 h=>eG h2 Z<|sC Z<|sA Z ?_
 refine sN<|sO<|qR ?_
 exact oI h▸qD
theorem keep_Mod_ev{a0:Int}{a1:Int}{r:Int}(h:oc a0 a1=some r):EvP prog az ext 24 [rI a0,rI a1] [] (rI r,[]):=by
 refine Ev.body Z Tryz.func24 Z Zk<|gU Z<|sV (r0)<|sN<|qS<|gU Z<|sM Z<|sF h ?_ ?_<;>intro h
 ·refine sN<|cT<|gU Z<|sV (r0)<|sN<|qR ?_
  exact oI h▸qD
 refine sN<|cF<|qK<|gU Z<|sM Z<|sM Z<|bE h fun x2 h2 h=>WO.remG h2 Z Z Z Z Z Z<|sA Z<|sN<|qS<|gU Z<|sM Z<|sF h ?_ ?_<;>intro h
 ·refine sN<|cT<|WC.region Z Z<|sM Z<|sM Z<|sV (rI (rW (x2+a1)))<|sA Z<|sN<|gU Z<|sM Z<|sA Z<|sN<|qR ?_
  exact oI h▸qD
 refine sN<|cF<|qK<|gU Z<|sM Z<|sA Z<|sN<|qR ?_
 exact oI h▸qD
theorem cg{a1:Int}{d0:ac}{r:Int×ac}(h:dx a1 d0=some r):EvP prog az ext 25 [.ptr 0 0,rI a1] [.var (ac.rc d0)] (rI r.1,[.var (ac.rc r.2)]):=by
 refine Ev.body Z Tryz.func25 Z Zk<|gU Z<|sV (r0)<|sN<|gU Z<|sM Z<|bE h fun x1 h1 h=>cR (rI x1.1) [(0,.var (ac.rc x1.2))] (Src_Raw_ev h1)<|sM Z<|bE h fun x2 h2 h=>cD (keep_Mod_ev h2)<|sA Z<|sN<|qR ?_
 exact oI h▸qD
theorem ot{a1:Int}{d0:ac}{r:aa×ac}(h:kc a1 d0=some r):EvP prog az ext 51 [.ptr 0 0,rI a1] [.var (ac.rc d0)] (.d (aa.pd r.1),[.var (ac.rc r.2)]):=by
 refine Ev.body Z Tryz.func51 Z Zk<|gU Z<|sB (.ptr 64 0) 64 (.var [r0,r0,r0])<|sN<|gU Z<|sM Z<|sM Z<|sV (rI (rW ((2:Int)*a1)))<|sV (rI (rW ((rW ((2:Int)*a1))+(1:Int))))<|bE h fun x1 h1 h=>cR (rI x1.1) [(0,.var (ac.rc x1.2))] (cg h1)<|sM Z<|sV (rI (rW (x1.1-a1)))<|sM Z<|sM Z ?_
 refine sV (rI (rW ((2:Int)*a1)))<|sV (rI (rW ((rW ((2:Int)*a1))+(1:Int))))<|bE h fun x2 h2 h=>cR (rI x2.1) [(0,.var (ac.rc x2.2))] (cg h2)<|sM Z<|sV (rI (rW (x2.1-a1)))<|sM Z<|sM Z<|sV (rI (rW (a1+(1:Int))))<|bE h fun x3 h3 h=>cR (rI x3.1) [(0,.var (ac.rc x3.2))] (cg h3)<|sV (.d (aa.pd (aa.mk (rW (x1.1-a1)) (rW (x2.1-a1)) x3.1)))<|sS 64 (.var [rI (rW (x1.1-a1)),rI (rW (x2.1-a1)),rI x3.1])<|sN<|qR ?_
 exact oI h▸qD
theorem Src_Box_ev{a1:Int}{a2:Int}{d0:ac}{r:ag×ac}(h:oq a1 a2 d0=some r):EvP prog az ext 104 [.ptr 0 0,rI a1,rI a2] [.var (ac.rc d0)] (.d (ag.pd r.1),[.var (ac.rc r.2)]):=by
 refine Ev.body Z Tryz.func104 Z Zk<|gU Z<|sB (.ptr 96 0) 96 (.var zZ4)<|sN<|gU Z<|sM Z<|sM Z<|bE h fun x1 h1 h=>cR (.d (aa.pd x1.1)) [(0,.var (ac.rc x1.2))] (ot h1)<|sB (.ptr 112 0) 112 (.var [r0,r0,r0])<|sS 112 (.var (aa.rc x1.1))<|sN<|WC.cI Z Z<|sV (.d (aa.pd x1.1))<|sV (.ptr 112 0) ?_
 refine sL Z<|sM Z<|sM Z<|sV (rI (rW (a2+(1:Int))))<|bE h fun x2 h2 h=>cR (rI x2.1) [(0,.var (ac.rc x2.2))] (cg h2)<|sV (rI (rW (x1.1.fX+x2.1)))<|sV (.ptr 112 1)<|sL Z<|sM Z<|sM Z<|sV (rI (rW (a2+(1:Int))))<|bE h fun x3 h3 h=>cR (rI x3.1) [(0,.var (ac.rc x3.2))] (cg h3)<|sV (rI (rW (x1.1.fY+x3.1))) ?_
 refine sV (.ptr 112 2)<|sL Z<|sM Z<|sM Z<|sV (rI (rW (a2+(1:Int))))<|bE h fun x4 h4 h=>cR (rI x4.1) [(0,.var (ac.rc x4.2))] (cg h4)<|sV (rI (rW (x1.1.fZ+x4.1)))<|sV (.d (aa.pd (aa.mk (rW (x1.1.fX+x2.1)) (rW (x1.1.fY+x3.1)) (rW (x1.1.fZ+x4.1)))))<|sG (.d (ag.pd (ag.mk x1.1 (aa.mk (rW (x1.1.fX+x2.1)) (rW (x1.1.fY+x3.1)) (rW (x1.1.fZ+x4.1))))))<|sH 96 (.var (aa.rc x1.1++[rI (rW (x1.1.fX+x2.1)),rI (rW (x1.1.fY+x3.1)),rI (rW (x1.1.fZ+x4.1))])) ?_
 refine sN<|sO<|qR ?_
 cases oI h
 exact qG
theorem eX{a1:(List Int)}{d0:ac}{r:Int×ac}(h:dI a1 d0=some r):EvP prog az ext 50 [.ptr 0 0,rL a1] [.var (ac.rc d0)] (rI r.1,[.var (ac.rc r.2)]):=by
 refine Ev.body Z Tryz.func50 Z Zk<|gU Z<|sV (r0)<|sN<|gU Z<|sM Z<|sM Z<|sM Z<|sE (rI (a1.length:Int)) (dX _ _)<|bE h fun x1 h1 h=>cR (rI x1.1) [(0,.var (ac.rc x1.2))] (cg h1)<|bE h fun x2 h2 h=>eG h2 Z<|sC Z<|sA Z ?_
 refine sN<|qR ?_
 exact oI h▸qD
theorem rr{d0:ac}{r:aA×ac}(h:jb d0=some r):EvP prog az ext 105 [.ptr 0 0] [.var (ac.rc d0)] (.agg [rI r.1.aZ,.ref 1 0,.ref 2 0],[.var (ac.rc r.2),.arr 0 3 (r.1.aI.map (PD.int .i64)),.arr 0 3 (r.1.aC.map (PD.int .i64))]):=by
 refine Ev.body Z Tryz.func105 Z Zk<|gU Z<|sB (.ptr 32 0) 32 (.var [r0,.dO,.dO])<|sN<|gU Z<|sM Z<|sV (.d (.lst ([20,25,40,100].map (PD.int .i64))))<|bE h fun x1 h1 h=>cR (rI x1.1) [(0,.var (ac.rc x1.2))] (eX h1)<|sV (.agg [rI x1.1,.dO,.dO])<|sB (.ptr 48 0) 48 (.var [r0,.dO,.dO])<|sS 48 (.var [rI x1.1,.dO,.dO])<|sN<|gU Z<|sM Z ?_
 refine bE h fun x2 h2 h=>cR (rI x2.1) [(0,.var (ac.rc x2.2))] (cg h2)<|sV (r0)<|sA Z<|sN<|qS<|gU Z<|sV (r0)<|sN<|bE h fun o24 ho24 h=>WC.block (WC.loop (WL.fV ho24 (fun s R' B'=>dN prog 1 (A R' B') (az.at_ 105 1 4)=some (A [(0,.ptr 0 0),(2,.ptr 32 0),(3,.ptr 48 0),(4,rI s.1),(5,rI s.2.1),(6,rI s.2.2.1)] [(0,.var [rL s.2.2.2.1,rI s.2.2.2.2.1]),(32,.var [r0,.dO,.dO]),(48,.var [rI x1.1,.ref 432 0,.ref 512 0]),(432,.arr 0 3 (s.2.2.2.2.2.1.map (PD.int .i64))),(512,.arr 0 3 (s.2.2.2.2.2.2.map (PD.int .i64)))])) (fun o e R' B'=>e= .exit 0∧dN prog 1 (A R' B') (az.at_ 105 1 9)=some (A [(2,.ptr 32 0),(3,.ptr 48 0)] [(0,.var [rL o.1,rI o.2.1]),(32,.var [r0,.dO,.dO]),(48,.var [rI x1.1,.ref 432 0,.ref 512 0]),(432,.arr 0 3 (o.2.2.1.map (PD.int .i64))),(512,.arr 0 3 (o.2.2.2.map (PD.int .i64)))])) Z ?_ ?_))
 ·rintro⟨s3,s4,s5,s6,s7,s8,s9⟩ R' B' q14 hI h
  unfold jv at h
  refine qS<|WC.cI hI Z<|sM Z<|sV (.ptr 48 0)<|sL Z<|bE h fun x15 h15 h=>WO.uL h15 Z Z Z Z Z Z<|sM Z<|bE h fun x16 h16 h=>cR (rI x16.1) [(0,.var (ac.rc x16.2))] (cg h16)<|sV (rI (rW (x15+x16.1)))<|sF h ?_ ?_<;>intro h
  ·refine sN<|sO<|cT<|qK<|qS<|qB<|WC.cI Z Z<|sV (.ptr 48 1)<|sL Z<|sM Z<|sV (.d (.lst ([s3].map (PD.int .i64))))<|bE h fun x18 h18 h=>aR h18 (fun _=>Z) Z<|sV (.ptr 48 2)<|sL Z<|sM Z ?_
   refine sV (.d (.lst ([s4].map (PD.int .i64))))<|bE h fun x19 h19 h=>aR h19 (fun _=>Z) Z<|sV (.ptr 48 1)<|sS 48 (.var [rI x1.1,.ref 432 1,.ref 512 0])<|sV (.ptr 48 2)<|sS 48 (.var [rI x1.1,.ref 432 1,.ref 512 1]) ?_
   refine sN<|sO<|WC.cI Z Z<|sM Z<|sM Z<|sV (.d (.lst ([0,10,20,35].map (PD.int .i64))))<|bE h fun x20 h20 h=>cR (rI x20.1) [(0,.var (ac.rc x20.2))] (eX h20)<|sV (.ptr 48 0)<|sL Z<|bE h fun x21 h21 h=>WO.uL h21 Z Z Z Z Z Z<|sV (rI (rW (x20.1+x21)))<|sV (rI (rW (s3+(rW (x20.1+x21)))))<|sA Z ?_
   refine sN<|sO<|WC.region Z Z<|sM Z<|sM Z<|sV (rI (if(rW (s3+(rW (x20.1+x21))))>s4 then(rW (s3+(rW (x20.1+x21))))else s4))<|sM Z<|sV (.d (.lst ([0,0,5,30].map (PD.int .i64))))<|bE h fun x22 h22 h=>cR (rI x22.1) [(0,.var (ac.rc x22.2))] (eX h22)<|sV (rI (rW ((if(rW (s3+(rW (x20.1+x21))))>s4 then(rW (s3+(rW (x20.1+x21))))else s4)+x22.1)))<|sA Z<|sN<|WC.region Z Z<|sM Z<|sV (rI (rW (s5+(1:Int)))) ?_
   refine sA Z<|sN ?_
   cases oI h
   exact⟨rfl,rfl⟩
  refine sN<|sO<|cF<|qX ?_
  cases oI h
  exact⟨nofun,rfl,rfl⟩
 intro e R' B' he hq
 obtain⟨rfl,hI⟩:=hq
 refine qE<|gS Z hI<|sV (.agg [rI x1.1,.ref 432 0,.ref 512 0])<|sS 32 (.var [rI x1.1,.ref 432 0,.ref 512 0])<|sN<|qR ?_
 exact oI h▸qD
theorem qH{a1:Int}{d0:ac}{r:aG×ac}(h:dR a1 d0=some r):EvP prog az ext 48 [.ptr 0 0,rI a1] [.var (ac.rc d0)] (.d (aG.pd r.1),[.var (ac.rc r.2)]):=by
 refine Ev.body Z Tryz.func48 Z Zk<|gU Z<|sB (.ptr 64 0) 64 (.var [r0,r0,r0,r0,r0,r0,r0,.dO,.dO,r0,r0,r0,r0,r0])<|sN<|gU Z<|sM Z<|sM Z<|bE h fun x1 h1 h=>cR (.d (ag.pd x1.1)) [(0,.var (ac.rc x1.2))] (Src_Box_ev h1)<|sM Z<|bE h fun x2 h2 h=>cR (.agg [rI x2.1.aZ,.ref 144 0,.ref 145 0]) [(0,.var (ac.rc x2.2)),(144,.arr 0 3 (x2.1.aI.map (PD.int .i64))),(145,.arr 0 3 (x2.1.aC.map (PD.int .i64)))] (rr h2)<|sM Z<|sV (.d (.lst ([10,50,200].map (PD.int .i64))))<|bE h fun x3 h3 h=>?_
 refine cR (rI x3.1) [(0,.var (ac.rc x3.2))] (eX h3)<|sM Z<|sV (.d (.lst ([0,0,10,40].map (PD.int .i64))))<|bE h fun x4 h4 h=>cR (rI x4.1) [(0,.var (ac.rc x4.2))] (eX h4)<|sM Z<|sV (.d (.lst ([0,50,200,400].map (PD.int .i64))))<|bE h fun x5 h5 h=>cR (rI x5.1) [(0,.var (ac.rc x5.2))] (eX h5)<|sM Z<|sV (.d (.lst ([0,5,20].map (PD.int .i64))))<|bE h fun x6 h6 h=>cR (rI x6.1) [(0,.var (ac.rc x6.2))] (eX h6)<|sM Z<|bE h fun x7 h7 h=>?_
 refine cR (rI x7.1) [(0,.var (ac.rc x7.2))] (cg h7)<|sV (rI (rW ((2:Int)+x7.1)))<|sG (.agg (ag.rc x1.1++[rI x2.1.aZ,.ref 144 0,.ref 145 0,rI x3.1,rI x4.1,rI x5.1,rI x6.1,rI (rW ((2:Int)+x7.1))]))<|sH 64 (.var (ag.rc x1.1++[rI x2.1.aZ,.ref 144 0,.ref 145 0,rI x3.1,rI x4.1,rI x5.1,rI x6.1,rI (rW ((2:Int)+x7.1))]))<|sN<|qR ?_
 cases oI h
 exact qG
theorem Src_Scale_ev{d0:ac}{r:bo×ac}(h:kd d0=some r):EvP prog az ext 49 [.ptr 0 0] [.var (ac.rc d0)] (.d (bo.pd r.1),[.var (ac.rc r.2)]):=by
 refine Ev.body Z Tryz.func49 Z Zk<|gU Z<|sB (.ptr 32 0) 32 (.var [r0,.dO,.dO,r0,r0])<|sN<|gU Z<|sM Z<|bE h fun x1 h1 h=>cR (.agg [rI x1.1.aZ,.ref 96 0,.ref 97 0]) [(0,.var (ac.rc x1.2)),(96,.arr 0 3 (x1.1.aI.map (PD.int .i64))),(97,.arr 0 3 (x1.1.aC.map (PD.int .i64)))] (rr h1)<|sM Z<|bE h fun x2 h2 h=>cR (rI x2.1) [(0,.var (ac.rc x2.2))] (cg h2)<|sM Z<|bE h fun x3 h3 h=>cR (rI x3.1) [(0,.var (ac.rc x3.2))] (cg h3)<|sV (rI (rW ((1:Int)+x3.1))) ?_
 refine sV (.agg [rI x1.1.aZ,.ref 96 0,.ref 97 0,rI x2.1,rI (rW ((1:Int)+x3.1))])<|sB (.ptr 48 0) 48 (.var [r0,.dO,.dO,r0,r0])<|sS 48 (.var [rI x1.1.aZ,.ref 96 0,.ref 97 0,rI x2.1,rI (rW ((1:Int)+x3.1))])<|sN<|qS<|gU Z<|sV (.ptr 48 0)<|sV (.ptr 48 1)<|sL Z<|WO.vG Z Z Z Z Z Z Z Z Z<|sV (r0)<|sN<|bE h fun o26 ho26 h=>WC.block (WC.loop (WL.fV ho26 (fun s R' B'=>dN prog 1 (A R' B') (az.at_ 49 1 3)=some (A [(2,.ptr 32 0),(3,.ptr 48 0),(16,rI (x1.1.aI.length:Int)),(17,rI s.1)] [(0,.var (ac.rc x3.2)),(32,.var [r0,.dO,.dO,r0,r0]),(48,.var [rI x1.1.aZ,.ref 96 0,.ref 97 0,rI x2.1,rI (rW ((1:Int)+x3.1))]),(96,.arr 0 3 (s.2.1.map (PD.int .i64))),(97,.arr 0 3 (s.2.2.map (PD.int .i64)))])) (fun o e R' B'=>e= .exit 0∧dN prog 1 (A R' B') (az.at_ 49 1 7)=some (A [(2,.ptr 32 0),(3,.ptr 48 0)] [(0,.var (ac.rc x3.2)),(32,.var [r0,.dO,.dO,r0,r0]),(48,.var [rI x1.1.aZ,.ref 96 0,.ref 97 0,rI x2.1,rI (rW ((1:Int)+x3.1))]),(96,.arr 0 3 (o.1.map (PD.int .i64))),(97,.arr 0 3 (o.2.map (PD.int .i64)))])) Z ?_ ?_))
 ·rintro⟨s4,s5,s6⟩ R' B' q9 hI h
  refine gS Z hI<|sF h ?_ ?_<;>intro h
  ·refine sN<|qS<|cT<|qK<|qS<|qB<|gU Z<|sM Z<|sA Z<|sN<|WC.kT Z Z<|sV (.ptr 48 0)<|sV (.ptr 48 1)<|sL Z<|sM Z ?_
   refine sV (.ptr 48 0)<|sV (.ptr 48 2)<|sL Z<|sM Z<|sV (.ptr 48 0)<|sV (.ptr 48 1)<|sL Z<|sM Z<|bE h fun x12 h12 h=>WO.qV h12 Z Z Z Z Z Z Z Z<|bE h fun x13 h13 h=>WO.oB h13 Z Z Z Z Z Z<|bE h fun x14 h14 h=>WO.uL h14 Z Z Z Z Z Z<|sV (.ptr 48 0) ?_
   refine sV (.ptr 48 2)<|sL Z<|sM Z<|bE h fun x16 h16 h=>WO.qV h16 Z Z Z Z Z Z Z Z<|bE h fun x17 h17 h=>WO.oB h17 Z Z Z Z Z Z<|bE h fun x18 h18 h=>WO.uL h18 Z Z Z Z Z Z<|bE h fun x20 h20 h=>WO.qV h20 Z Z Z Z Z Z Z Z<|bE h fun x21 h21 h=>WO.th (g:=(PD.int .i64)) (sz:=1) (p:= .int .i64 x14) h21 (fun _=>Z) (fun _=>Z) Z Z Z Z Z Z Z Z Z<|bE h fun x23 h23 h=>WO.qV h23 Z Z Z Z Z Z Z Z ?_
   refine bE h fun x24 h24 h=>WO.th (g:=(PD.int .i64)) (sz:=1) (p:= .int .i64 x18) h24 (fun _=>Z) (fun _=>Z) Z Z Z Z Z Z Z Z Z ?_
   refine sN<|sO<|WC.region Z Z<|sV (rI (rW (s4+(1:Int))))<|sM Z<|sN ?_
   cases oI h
   exact⟨rfl,rfl⟩
  refine sN<|qS<|cF<|qX ?_
  cases oI h
  exact⟨nofun,rfl,rfl⟩
 intro e R' B' he hq
 obtain⟨rfl,hI⟩:=hq
 refine qE<|gS Z hI<|sV (.agg [rI x1.1.aZ,.ref 96 0,.ref 97 0,rI x2.1,rI (rW ((1:Int)+x3.1))])<|sS 32 (.var [rI x1.1.aZ,.ref 96 0,.ref 97 0,rI x2.1,rI (rW ((1:Int)+x3.1))])<|sN<|qR ?_
 exact oI h▸qD
theorem o5{a1:Int}{d0:ac}{r:ar×ac}(h:dJ a1 d0=some r):EvP prog az ext 12 [.ptr 0 0,rI a1] [.var (ac.rc d0)] (.d (ar.pd r.1),[.var (ac.rc r.2)]):=by
 refine Ev.body Z Tryz.func12 Z Zk<|gU Z<|sB (.ptr 64 0) 64 (.var [r0,r0,r0,r0,r0,r0,r0,.dO,.dO,r0,r0,r0,r0,r0,r0,.dO,.dO,r0,r0,r0])<|sN<|gU Z<|sM Z<|sM Z<|bE h fun x1 h1 h=>cR (.d (aG.pd x1.1)) [(0,.var (ac.rc x1.2))] (qH h1)<|sM Z<|bE h fun x2 h2 h=>cR (.d (bo.pd x2.1)) [(0,.var (ac.rc x2.2))] (Src_Scale_ev h2)<|sM Z<|sV (.d (.lst ([0,0,10,40].map (PD.int .i64))))<|bE h fun x3 h3 h=>?_
 refine cR (rI x3.1) [(0,.var (ac.rc x3.2))] (eX h3)<|sG (.d (.agg [.int .i64 x1.1.aM.aI.fX,.int .i64 x1.1.aM.aI.fY,.int .i64 x1.1.aM.aI.fZ,.int .i64 x1.1.aM.aC.fX,.int .i64 x1.1.aM.aC.fY,.int .i64 x1.1.aM.aC.fZ,.int .i64 x1.1.aW.aZ,.lst (x1.1.aW.aI.map (PD.int .i64)),.lst (x1.1.aW.aC.map (PD.int .i64)),.int .i64 x1.1.cG,.int .i64 x1.1.bf,.int .i64 x1.1.dC,.int .i64 x1.1.d9,.int .i64 x1.1.co,.int .i64 x2.1.bC.aZ,.lst (x2.1.bC.aI.map (PD.int .i64)),.lst (x2.1.bC.aC.map (PD.int .i64)),.int .i64 x2.1.bd,.int .i64 x2.1.aY,.int .i64 x3.1]))<|sH 64 (.var (aG.rc x1.1++bo.rc x2.1++[rI x3.1]))<|sN<|qR ?_
 cases oI h
 exact qG
theorem o4{d0:ac}{r:aL×ac}(h:eR d0=some r):EvP prog az ext 52 [.ptr 0 0] [.var (ac.rc d0)] (.d (aL.pd r.1),[.var (ac.rc r.2)]):=by
 refine Ev.body Z Tryz.func52 Z Zk<|gU Z<|sB (.ptr 32 0) 32 (.var [.dO])<|sN<|gU Z<|sB (.ptr 48 0) 48 (.var [.dO])<|sN<|qS<|gU Z<|sM Z<|bE h fun x1 h1 h=>cR (rI x1.1) [(0,.var (ac.rc x1.2))] (cg h1)<|sA Z<|sN<|bE h fun o28 ho28 h=>?_
 refine WC.block (WC.loop (WL.fV ho28 (fun s R' B'=>dN prog 1 (A R' B') (az.at_ 52 1 3)=some (A [(0,.ptr 0 0),(2,.ptr 32 0),(3,.ptr 48 0),(4,rI s.1)] [(0,.var [rL s.2.1,rI s.2.2.1]),(32,.var [.dO]),(48,.var [.ref 1040 0]),(1040,.arr 0 184 (s.2.2.2.map aD.pd))])) (fun o e R' B'=>e= .exit 0∧dN prog 1 (A R' B') (az.at_ 52 1 13)=some (A [(2,.ptr 32 0),(3,.ptr 48 0)] [(0,.var [rL o.1,rI o.2.1]),(32,.var [.dO]),(48,.var [.ref 1040 0]),(1040,.arr 0 184 (o.2.2.map aD.pd))])) Z ?_ ?_))
 ·rintro⟨s2,s3,s4,s5⟩ R' B' q9 hI h
  refine qS<|gS Z hI<|sM Z<|sF h ?_ ?_<;>intro h
  ·refine sN<|cT<|qK<|qS<|qB<|gU Z<|sM Z<|bE h fun x11 h11 h=>cR (rI x11.1) [(0,.var (ac.rc x11.2))] (cg h11)<|sG (.agg [rI x11.1,r0,r0,r0,r0,r0,r0,.dO,r0,r0])<|sB (.ptr 80 0) 80 (.var [r0,r0,r0,r0,r0,r0,r0,.dO,r0,r0])<|sH 80 (.var [rI x11.1,r0,r0,r0,r0,r0,r0,.dO,r0,r0])<|sN<|qS<|gU Z ?_
   refine sV (.ptr 80 0)<|sL Z<|sN<|qB<|gU Z<|sF h ?_ ?_<;>intro h
   ·refine sA Z<|sN<|cT<|WC.region Z Z<|sM Z<|sV (.d (.lst ([0,1,9,99,1048575].map (PD.int .i64))))<|bE h fun x13 h13 h=>cR (rI x13.1) [(0,.var (ac.rc x13.2))] (eX h13)<|sV (rI (rW ((1:Int)+x13.1)))<|sM Z<|sV (.d (.lst ([0,0,2,9,999].map (PD.int .i64))))<|bE h fun x14 h14 h=>cR (rI x14.1) [(0,.var (ac.rc x14.2))] (eX h14)<|sV (rI (rW ((1:Int)+x14.1)))<|sV (.ptr 80 1) ?_
    refine sV (.ptr 80 1)<|sS 80 (.var [rI x11.1,rI (rW ((1:Int)+x13.1)),r0,r0,r0,r0,r0,.dO,r0,r0])<|sV (.ptr 80 4)<|sV (.ptr 80 4)<|sS 80 (.var [rI x11.1,rI (rW ((1:Int)+x13.1)),r0,r0,rI (rW ((1:Int)+x14.1)),r0,r0,.dO,r0,r0])<|sN<|WC.region Z Z<|sV (.ptr 48 0)<|sL Z<|sV (.agg [rI x11.1,rI (rW ((1:Int)+x13.1)),r0,r0,rI (rW ((1:Int)+x14.1)),r0,r0,.dO,r0,r0])<|sG (.d (.lst ([(aD.mk x11.1 (aS.mk (rW ((1:Int)+x13.1)) 0 0) (aS.mk (rW ((1:Int)+x14.1)) 0 0) [] 0 0)].map aD.pd)))<|bE h fun x15 h15 h=>aR h15 (fun _=>Z) Z<|sV (.ptr 48 0)<|sS 48 (.var [.ref 1040 1]) ?_
    refine sN<|WC.region Z Z<|sM Z<|sV (rI (rW (s2-(1:Int))))<|sA Z<|sN ?_
    cases oI h
    exact⟨rfl,rfl⟩
   refine sA Z<|sN<|cF<|gU Z<|sF h ?_ ?_<;>intro h
   ·refine sA Z<|sN<|cT<|WC.region Z Z<|sM Z<|bE h fun x17 h17 h=>cR (rI x17.1) [(0,.var (ac.rc x17.2))] (cg h17)<|sM Z<|bE h fun x18 h18 h=>cR (rI x18.1) [(0,.var (ac.rc x18.2))] (cg h18)<|sV (rI (rW (x18.1-(3:Int))))<|sM Z<|bE h fun x19 h19 h=>cR (rI x19.1) [(0,.var (ac.rc x19.2))] (cg h19)<|sV (rI (rW (x19.1-(1:Int)))) ?_
    refine sV (.d (aS.pd (aS.mk x17.1 (rW (x18.1-(3:Int))) (rW (x19.1-(1:Int))))))<|sM Z<|bE h fun x20 h20 h=>cR (rI x20.1) [(0,.var (ac.rc x20.2))] (cg h20)<|sV (rI (rW ((1:Int)+x20.1)))<|sM Z<|bE h fun x21 h21 h=>cR (rI x21.1) [(0,.var (ac.rc x21.2))] (cg h21)<|sM Z<|bE h fun x22 h22 h=>cR (rI x22.1) [(0,.var (ac.rc x22.2))] (cg h22)<|sV (.d (aS.pd (aS.mk (rW ((1:Int)+x20.1)) x21.1 x22.1)))<|sV (.ptr 80 1)<|sS 80 (.var [rI x11.1,rI x17.1,rI (rW (x18.1-(3:Int))),rI (rW (x19.1-(1:Int))),r0,r0,r0,.dO,r0,r0])<|sV (.ptr 80 4) ?_
    refine sS 80 (.var [rI x11.1,rI x17.1,rI (rW (x18.1-(3:Int))),rI (rW (x19.1-(1:Int))),rI (rW ((1:Int)+x20.1)),rI x21.1,rI x22.1,.dO,r0,r0])<|sN<|WC.region Z Z<|sV (.ptr 48 0)<|sL Z<|sV (.agg [rI x11.1,rI x17.1,rI (rW (x18.1-(3:Int))),rI (rW (x19.1-(1:Int))),rI (rW ((1:Int)+x20.1)),rI x21.1,rI x22.1,.dO,r0,r0])<|sG (.d (.lst ([(aD.mk x11.1 (aS.mk x17.1 (rW (x18.1-(3:Int))) (rW (x19.1-(1:Int)))) (aS.mk (rW ((1:Int)+x20.1)) x21.1 x22.1) [] 0 0)].map aD.pd)))<|bE h fun x23 h23 h=>aR h23 (fun _=>Z) Z<|sV (.ptr 48 0)<|sS 48 (.var [.ref 1040 1])<|sN<|WC.region Z Z<|sM Z<|sV (rI (rW (s2-(1:Int)))) ?_
    refine sA Z<|sN ?_
    cases oI h
    exact⟨rfl,rfl⟩
   refine sA Z<|sN<|cF<|WC.region Z Z<|sM Z<|bE h fun x24 h24 h=>cR (rI x24.1) [(0,.var (ac.rc x24.2))] (cg h24)<|sV (rI (rW ((1:Int)+x24.1)))<|sV (.d (.lst ([(rW ((1:Int)+x24.1)),2,1].map (PD.int .i64))))<|sM Z<|bE h fun x25 h25 h=>cR (rI x25.1) [(0,.var (ac.rc x25.2))] (cg h25)<|sV (.ptr 80 7)<|sS 80 (.var [rI x11.1,r0,r0,r0,r0,r0,r0,.d (.lst ([(rW ((1:Int)+x24.1)),2,1].map (PD.int .i64))),r0,r0])<|sV (.ptr 80 8) ?_
   refine sS 80 (.var [rI x11.1,r0,r0,r0,r0,r0,r0,.d (.lst ([(rW ((1:Int)+x24.1)),2,1].map (PD.int .i64))),rI 1,r0])<|sV (.ptr 80 9)<|sS 80 (.var [rI x11.1,r0,r0,r0,r0,r0,r0,.d (.lst ([(rW ((1:Int)+x24.1)),2,1].map (PD.int .i64))),rI 1,rI x25.1])<|sN<|WC.region Z Z<|sV (.ptr 48 0)<|sL Z<|sV (.d (.agg [.int .i64 x11.1,.int .i64 0,.int .i64 0,.int .i64 0,.int .i64 0,.int .i64 0,.int .i64 0,.lst ([(rW ((1:Int)+x24.1)),2,1].map (PD.int .i64)),.int .i64 1,.int .i64 x25.1]))<|sG (.d (.lst ([(aD.mk x11.1 (aS.mk 0 0 0) (aS.mk 0 0 0) [(rW ((1:Int)+x24.1)),2,1] 1 x25.1)].map aD.pd)))<|bE h fun x26 h26 h=>aR h26 (fun _=>Z) Z<|sV (.ptr 48 0)<|sS 48 (.var [.ref 1040 1])<|sN<|WC.region Z Z ?_
   refine sM Z<|sV (rI (rW (s2-(1:Int))))<|sA Z<|sN ?_
   cases oI h
   exact⟨rfl,rfl⟩
  refine sN<|cF<|qX ?_
  cases oI h
  exact⟨nofun,rfl,rfl⟩
 intro e R' B' he hq
 obtain⟨rfl,hI⟩:=hq
 refine qE<|gS Z hI<|sV (.agg [.ref 1040 0])<|sS 32 (.var [.ref 1040 0])<|sN<|qR ?_
 exact oI h▸qD
theorem iF{a0:Int}{r:au}(h:dm a0=some r):EvP prog az ext 29 [rI a0] [] (.d (au.pd r),[]):=by
 refine Ev.body Z Tryz.func29 Z Zk<|gU Z<|sB (.ptr 32 0) 32 (.var [rS [],rS [],rS [],rS []])<|sN<|gU Z<|sV (.d (.lst ([[83,49],[83,50],[83,51],[83,52],[83,53],[83,54]].map PD.str)))<|sM Z<|bE h fun x1 h1 h=>cD (keep_Mod_ev h1)<|bE h fun x2 h2 h=>eG h2 Z<|sC Z<|sV (.d (au.pd (au.mk [65,66] x2 [48,48] [66,72,90])))<|sS 32 (.var [rS [65,66],rS x2,rS [48,48],rS [66,72,90]])<|sN ?_
 refine qR ?_
 exact oI h▸qD
theorem rq{a1:Int}{d0:ac}{r:al×ac}(h:fr a1 d0=some r):EvP prog az ext 13 [.ptr 0 0,rI a1] [.var (ac.rc d0)] (.d (al.pd r.1),[.var (ac.rc r.2)]):=by
 refine Ev.body Z Tryz.func13 Z Zk<|gU Z<|sB (.ptr 64 0) 64 (.var [.dO])<|sN<|gU Z<|sB (.ptr 80 0) 80 (.var [.dO])<|sN<|qS<|gU Z<|sV (r0)<|sN<|bE h fun o34 ho34 h=>WC.block (WC.loop (WL.fV ho34 (fun s R' B'=>dN prog 1 (A R' B') (az.at_ 13 1 3)=some (A [(0,.ptr 0 0),(1,rI a1),(4,.ptr 64 0),(5,.ptr 80 0),(6,rI s.1)] [(0,.var [rL s.2.1,rI s.2.2.1]),(64,.var [.dO]),(80,.var [.ref 1104 0]),(1104,.arr 0 116 (s.2.2.2.map aq.pd))])) (fun o e R' B'=>e= .exit 0∧dN prog 1 (A R' B') (az.at_ 13 1 16)=some (A [(4,.ptr 64 0),(5,.ptr 80 0)] [(0,.var [rL o.1,rI o.2.1]),(64,.var [.dO]),(80,.var [.ref 1104 0]),(1104,.arr 0 116 (o.2.2.map aq.pd))])) Z ?_ ?_))
 ·rintro⟨s1,s2,s3,s4⟩ R' B' q8 hI h
  refine qS<|gS Z hI<|sM Z<|sM Z<|sF h ?_ ?_<;>intro h
  ·refine sM Z<|sM Z<|sV (rB (decide (s1<(6:Int))))<|sF h ?_ ?_<;>intro h
   ·refine sN<|cT<|qK<|qS<|qB<|gU Z<|sV (.d (bi.pd (bi.mk 100 1)))<|sM Z<|bE h fun x11 h11 h=>cR (.d (aa.pd x11.1)) [(0,.var (ac.rc x11.2))] (ot h11)<|sM Z<|bE h fun x12 h12 h=>cR (.d (aL.pd x12.1)) [(0,.var (ac.rc x12.2))] (o4 h12)<|sG (.d (.agg [.int .i64 0,.int .i64 100000,.int .i64 100,.int .i64 1,.int .i64 x11.1.fX,.int .i64 x11.1.fY,.int .i64 x11.1.fZ,.lst (x12.1.aV.map aD.pd)]))<|sB (.ptr 112 0) 112 (.var zZ3) ?_
    refine sH 112 (.var (r0::rI 100000::rI 100::rI 1::aa.rc x11.1++[rM aD.pd x12.1.aV]))<|sN<|WC.cI Z Z<|sM Z<|bE h fun x13 h13 h=>cD (iF h13)<|sV (.d (.agg [.int .i64 0,.int .i64 100000,.int .i64 100,.int .i64 1,.int .i64 x11.1.fX,.int .i64 x11.1.fY,.int .i64 x11.1.fZ,.lst (x12.1.aV.map aD.pd)]))<|sB (.ref 448 0) 448 (.arr 0 113 ([(ap.mk 0 100000 (bi.mk 100 1) x11.1 x12.1)].map ap.pd))<|sV (.agg (au.rc x13++[.ref 448 0]))<|sB (.ptr 128 0) 128 (.var [rS [],rS [],rS [],rS [],.dO])<|sS 128 (.var (au.rc x13++[.ref 448 0])) ?_
    refine sN<|sO<|qS<|gU Z<|sM Z<|bE h fun x14 h14 h=>cR (rI x14.1) [(0,.var (ac.rc x14.2))] (cg h14)<|sN<|qB<|gU Z<|sF h ?_ ?_<;>intro h
    ·refine sA Z<|sN<|cT<|gU Z<|sV (.d (.agg [.int .i64 0,.int .i64 100000,.int .i64 100,.int .i64 1,.int .i64 x11.1.fX,.int .i64 x11.1.fY,.int .i64 x11.1.fZ,.lst (x12.1.aV.map aD.pd)]))<|sB (.ptr 144 0) 144 (.var zZ3)<|sH 144 (.var (r0::rI 100000::rI 100::rI 1::aa.rc x11.1++[rM aD.pd x12.1.aV]))<|sN<|gU Z<|sM Z<|bE h fun x16 h16 h=>cR (rI x16.1) [(0,.var (ac.rc x16.2))] (cg h16)<|sV (rI (rW ((1500:Int)+x16.1)))<|sM Z<|bE h fun x17 h17 h=>?_
     refine cR (.d (aa.pd x17.1)) [(0,.var (ac.rc x17.2))] (ot h17)<|sM Z<|bE h fun x18 h18 h=>cR (.d (aL.pd x18.1)) [(0,.var (ac.rc x18.2))] (o4 h18)<|sV (.ptr 144 0)<|sS 144 (.var (rI (rW ((1500:Int)+x16.1))::rI 100000::rI 100::rI 1::aa.rc x11.1++[rM aD.pd x12.1.aV]))<|sV (.ptr 144 4)<|sS 144 (.var (rI (rW ((1500:Int)+x16.1))::rI 100000::rI 100::rI 1::aa.rc x17.1++[rM aD.pd x12.1.aV]))<|sV (.ptr 144 7)<|sS 144 (.var (rI (rW ((1500:Int)+x16.1))::rI 100000::rI 100::rI 1::aa.rc x17.1++[rM aD.pd x18.1.aV]))<|sN<|gU Z<|sV (.ptr 128 4)<|sL Z<|sV (.ptr 144 0) ?_
     refine sL Z<|bE h fun x20 h20 h=>WO.qV h20 Z Z Z Z Z Z Z Z<|sV (.elt 448 0 ((0:Int)).toNat 1)<|bE h fun x21 h21 h=>WO.BC (g:=ap.pd) (u:=[]) (sz:=1) h21 (fun _=>Z) (fun _=>Nat.le_of_ble_eq_true Z) Z Z Z Z Z Z Z Z Z Z Z<|sN<|WC.region Z Z<|sV (.ptr 128 4)<|sL Z<|sV (.d (.agg [.int .i64 (rW ((1500:Int)+x16.1)),.int .i64 100000,.int .i64 100,.int .i64 1,.int .i64 x17.1.fX,.int .i64 x17.1.fY,.int .i64 x17.1.fZ,.lst (x18.1.aV.map aD.pd)]))<|sG (.d (.lst ([(ap.mk (rW ((1500:Int)+x16.1)) 100000 (bi.mk 100 1) x17.1 x18.1)].map ap.pd)))<|bE h fun x23 h23 h=>aR h23 (fun _=>Z) Z<|sV (.ptr 128 4) ?_
     refine sS 128 (.var (au.rc x13++[.ref 448 1]))<|sN<|WC.region Z Z<|sV (.ptr 80 0)<|sL Z<|sV (.agg (au.rc x13++[.ref 448 1]))<|sB (.d (.lst [aq.pd (aq.mk x13 x23)])) 448 .dead<|bE h fun x24 h24 h=>aR h24 (fun _=>Z) Z<|sV (.ptr 80 0)<|sS 80 (.var [.ref 1104 1])<|sN<|WC.region Z Z<|sM Z<|sV (rI (rW (s1+(1:Int)))) ?_
     refine sA Z<|sN ?_
     cases oI h
     exact⟨rfl,rfl⟩
    refine sA Z<|sN<|cF<|gU Z<|sF h ?_ ?_<;>intro h
    ·refine sA Z<|sN<|cT<|WC.kT Z Z<|sV (.ptr 128 4)<|sL Z<|sM Z<|bE h fun x26 h26 h=>cR (rI x26.1) [(0,.var (ac.rc x26.2))] (cg h26)<|bE h fun x28 h28 h=>WO.qV h28 Z Z Z Z Z Z Z Z<|sV (.elt 448 0 ((0:Int)).toNat 0)<|bE h fun x29 h29 h=>WO.BC (g:=ap.pd) (u:=[]) (sz:=1) h29 (fun _=>Z) (fun _=>Nat.le_of_ble_eq_true Z) Z Z Z Z Z Z Z Z Z Z Z ?_
     refine sN<|sO<|WC.region Z Z<|sV (.ptr 80 0)<|sL Z<|sV (.agg (au.rc x13++[.ref 448 0]))<|sB (.d (.lst [aq.pd (aq.mk x13 x29)])) 448 .dead<|bE h fun x31 h31 h=>aR h31 (fun _=>Z) Z<|sV (.ptr 80 0)<|sS 80 (.var [.ref 1104 1])<|sN<|WC.region Z Z<|sM Z<|sV (rI (rW (s1+(1:Int))))<|sA Z ?_
     refine sN ?_
     cases oI h
     exact⟨rfl,rfl⟩
    refine sA Z<|sN<|cF<|qK<|WC.region Z Z<|sV (.ptr 80 0)<|sL Z<|sV (.agg (au.rc x13++[.ref 448 0]))<|sB (.d (.lst [aq.pd (aq.mk x13 [(ap.mk 0 100000 (bi.mk 100 1) x11.1 x12.1)])])) 448 .dead<|bE h fun x32 h32 h=>aR h32 (fun _=>Z) Z<|sV (.ptr 80 0)<|sS 80 (.var [.ref 1104 1])<|sN<|WC.region Z Z ?_
    refine sM Z<|sV (rI (rW (s1+(1:Int))))<|sA Z<|sN ?_
    cases oI h
    exact⟨rfl,rfl⟩
   refine sN<|cF<|qX ?_
   cases oI h
   exact⟨nofun,rfl,rfl⟩
  refine sM Z<|sK<|sK<|sU<|sN<|cF<|qX ?_
  cases oI h
  exact⟨nofun,rfl,rfl⟩
 intro e R' B' he hq
 obtain⟨rfl,hI⟩:=hq
 refine qE<|gS Z hI<|sV (.agg [.ref 1104 0])<|sS 64 (.var [.ref 1104 0])<|sN<|qR ?_
 exact oI h▸qD
theorem ou{a1:Int}{a2:Int}{d0:ac}{r:Int×ac}(h:mK a1 a2 d0=some r):EvP prog az ext 73 [.ptr 0 0,rI a1,rI a2] [.var (ac.rc d0)] (rI r.1,[.var (ac.rc r.2)]):=by
 refine Ev.body Z Tryz.func73 Z Zk<|gU Z<|sV (r0)<|sN<|gU Z<|sM Z<|sM Z<|sM Z<|sM Z<|sV (rI (rW (a2-a1)))<|sV (rI (rW ((rW (a2-a1))+(1:Int))))<|bE h fun x1 h1 h=>cR (rI x1.1) [(0,.var (ac.rc x1.2))] (cg h1)<|sV (rI (rW (a1+x1.1)))<|sA Z ?_
 refine sN<|qR ?_
 exact oI h▸qD
theorem Src_Point_ev{a1:ag}{d0:ac}{r:aa×ac}(h:mJ a1 d0=some r):EvP prog az ext 27 [.ptr 0 0,.d (ag.pd a1)] [.var (ac.rc d0)] (.d (aa.pd r.1),[.var (ac.rc r.2)]):=by
 refine Ev.body Z Tryz.func27 Z Zk<|gU Z<|sB (.ptr 48 0) 48 (.var (ag.rc a1))<|sB (.ptr 64 0) 64 (.var [r0,r0,r0])<|sN<|WC.cI Z Z<|sM Z<|sV (.ptr 48 0)<|sV (.ptr 48 0)<|sL Z<|sV (.ptr 48 3)<|sV (.ptr 48 3)<|sL Z<|bE h fun x1 h1 h=>cR (rI x1.1) [(0,.var (ac.rc x1.2))] (ou h1) ?_
 refine sM Z<|sV (.ptr 48 0)<|sV (.ptr 48 1)<|sL Z<|sV (.ptr 48 3)<|sV (.ptr 48 4)<|sL Z<|bE h fun x2 h2 h=>cR (rI x2.1) [(0,.var (ac.rc x2.2))] (ou h2)<|sM Z<|sV (.ptr 48 0)<|sV (.ptr 48 2)<|sL Z<|sV (.ptr 48 3)<|sV (.ptr 48 5) ?_
 refine sL Z<|bE h fun x3 h3 h=>cR (rI x3.1) [(0,.var (ac.rc x3.2))] (ou h3)<|sV (.d (aa.pd (aa.mk x1.1 x2.1 x3.1)))<|sS 64 (.var [rI x1.1,rI x2.1,rI x3.1]) ?_
 refine sN<|sO<|qR ?_
 exact oI h▸qD
theorem law34_place_ev{a0:al}{a1:au}{a2:Int}{r:aa×Bool}(h:ny a0 a1 a2=some r):EvP prog az ext 28 [.d (al.pd a0),.d (au.pd a1),rI a2] [] (.tup [.d (aa.pd r.1),rB r.2],[]):=by
 refine Ev.body Z Tryz.func28 Z Zk<|gU Z<|sB (.ptr 48 0) 48 (.var [rM aq.pd a0.aJ])<|sB (.ptr 64 0) 64 (.var (au.rc a1))<|sB (.ptr 96 0) 96 (.var [r0,r0,r0])<|sU<|sN<|qS<|gU Z<|sV (.ptr 48 0)<|sL Z<|sE (rI (a0.aJ.length:Int)) (dX _ _)<|sV (r0)<|sN<|bE h fun o18 ho18 h=>?_
 refine WC.block (WC.loop (WL.fV ho18 (fun s R' B'=>dN prog 0 (A R' B') (az.at_ 28 0 2)=some (A [(2,rI a2),(4,.ptr 64 0),(6,.ptr 96 0),(13,rM aq.pd a0.aJ),(14,rI (a0.aJ.length:Int)),(15,rI s)] [(64,.var (au.rc a1)),(96,.var [r0,r0,r0])])) (fun o e R' B'=>match o with| .inl y=>e= .exit 0∧dN prog 0 (A R' B') (az.at_ 28 0 11)=some (A [(6,.ptr 96 0)] [(96,.var [r0,r0,r0])])| .inr r=>e= .ret∧finish prog (az.own 28) Tryz.f28 0 (A R' B')=some (.tup [.d (aa.pd r.1),rB r.2],[])) Z ?_ ?_))
 ·rintro s1 R' B' q2 hI h
  refine gS Z hI<|sF h ?_ ?_<;>intro h
  ·refine sN<|qS<|cT<|qK<|qS<|qB<|gU Z<|bE h fun x4 h4 h=>eG h4 Z<|sV (.d (aq.pd x4))<|sB (.ptr 144 0) 144 (.var [rS [],rS [],rS [],rS [],.dO])<|sS 144 (.var (aq.rc x4))<|sN<|gU Z<|sV (.ptr 144 4) ?_
   refine sL Z<|sE (rI (x4.aT.length:Int)) (dX _ _)<|sV (r0)<|sN<|bE h fun o14 ho14 h=>WC.block (WC.loop (WL.fV ho14 (fun s R' B'=>dN prog 0 (A R' B') (az.at_ 28 0 5)=some (A [(2,rI a2),(4,.ptr 64 0),(6,.ptr 96 0),(9,.ptr 144 0),(13,rM aq.pd a0.aJ),(14,rI (a0.aJ.length:Int)),(15,rI s1),(20,rM ap.pd x4.aT),(21,rI (x4.aT.length:Int)),(22,rI s)] [(64,.var (au.rc a1)),(96,.var [r0,r0,r0]),(144,.var (aq.rc x4))])) (fun o e R' B'=>match o with| .inl y=>e= .exit 2∧dN prog 0 (A R' B') (az.at_ 28 0 10)=some (A [(2,rI a2),(4,.ptr 64 0),(6,.ptr 96 0),(13,rM aq.pd a0.aJ),(14,rI (a0.aJ.length:Int)),(15,rI y)] [(64,.var (au.rc a1)),(96,.var [r0,r0,r0])])| .inr r=>e= .ret∧finish prog (az.own 28) Tryz.f28 0 (A R' B')=some (.tup [.d (aa.pd r.1),rB r.2],[])) Z ?_ ?_))
   ·rintro s5 R' B' q7 hI h
    refine gS Z hI<|sF h ?_ ?_<;>intro h
    ·refine sN<|qS<|cT<|qK<|qS<|qB<|gU Z<|bE h fun x9 h9 h=>eG h9 Z<|sV (.d (ap.pd x9))<|sB (.ptr 176 0) 176 (.var zZ3)<|sH 176 (.var (ap.rc x9))<|sN<|gU Z<|sV (.ptr 144 0) ?_
     refine sV (.d (au.pd x4.aw))<|sV (.d (au.pd a1))<|ir h (fun hb10 h=>?_) (fun hb10 h=>?_)
     ·refine WO.uA (eqE_64 x4.aw a1) hb10 Z Z Z Z Z<|sM Z<|sV (.ptr 176 0)<|sL Z<|sM Z<|sV (rB (decide (x9.bj<=a2)))<|sF h ?_ ?_<;>intro h
      ·refine sM Z<|sM Z<|sV (.ptr 176 1)<|sL Z<|sV (rB (decide (a2<x9.fTo)))<|sF h ?_ ?_<;>intro h
       ·refine sN<|cT<|gU Z<|sV (.ptr 176 4)<|sV (.d (aa.pd x9.aP))<|sS 96 (.var (aa.rc x9.aP))<|sT<|sN<|qR ?_
        cases oI h
        exact⟨nofun,rfl,rfl⟩
       refine sN<|cF<|qK<|WC.region Z Z<|sV (rI (rW (s5+(1:Int))))<|sM Z<|sN ?_
       cases oI h
       exact⟨rfl,rfl⟩
      refine sM Z<|k3<|sK<|sU<|sN<|cF<|qK<|WC.region Z Z<|sV (rI (rW (s5+(1:Int))))<|sM Z<|sN ?_
      cases oI h
      exact⟨rfl,rfl⟩
     refine WO.uA (eqE_64 x4.aw a1) hb10 Z Z Z Z Z<|sM Z<|k3<|sK<|sU<|sM Z<|k3<|sK<|sU<|sN<|cF ?_
     refine qK<|WC.region Z Z<|sV (rI (rW (s5+(1:Int))))<|sM Z<|sN ?_
     cases oI h
     exact⟨rfl,rfl⟩
    refine sN<|qS<|cF<|qX ?_
    cases oI h
    exact⟨nofun,rfl,rfl⟩
   intro e R' B' he hq
   rcases o14 with y15|r16
   ·obtain⟨rfl,hI⟩:=hq
    refine qE<|WC.region hI Z<|sV (rI (rW (y15+(1:Int))))<|sM Z<|sN ?_
    cases oI h
    exact⟨rfl,rfl⟩
   obtain⟨rfl,hf⟩:=hq
   cases oI h
   exact⟨nofun,rfl,hf⟩
  refine sN<|qS<|cF<|qX ?_
  cases oI h
  exact⟨nofun,rfl,rfl⟩
 intro e R' B' he hq
 rcases o18 with y19|r20
 ·obtain⟨rfl,hI⟩:=hq
  refine qE<|gS Z hI<|sV (.d (aa.pd (aa.mk 0 0 0)))<|sS 96 (.var [r0,r0,r0])<|sU<|sN<|qR ?_
  exact oI h▸qD
 obtain⟨rfl,hf⟩:=hq
 cases oI h
 exact hf
theorem gr{a0:aa}{r:Bool}(h:gB a0=some r):EvP prog az ext 145 [.d (aa.pd a0)] [] (rB r,[]):=by
 refine Ev.body Z Tryz.func145 Z Zk<|gU Z<|sB (.ptr 16 0) 16 (.var (aa.rc a0))<|sU<|sN<|gU Z<|sV (.ptr 16 0)<|sL Z<|sF h ?_ ?_<;>intro h
 ·refine sM Z<|sV (.ptr 16 0)<|sL Z<|sV (rB (decide (a0.fX<=(1048576:Int))))<|sF h ?_ ?_<;>intro h
  ·refine sM Z<|sV (.ptr 16 1)<|sL Z<|sV (rB (decide (a0.fY>=(-1048576:Int))))<|sF h ?_ ?_<;>intro h
   ·refine sM Z<|sV (.ptr 16 1)<|sL Z<|sV (rB (decide (a0.fY<=(1048576:Int))))<|sF h ?_ ?_<;>intro h
    ·refine sM Z<|sV (.ptr 16 2)<|sL Z<|sV (rB (decide (a0.fZ>=(-16384:Int))))<|sF h ?_ ?_<;>intro h
     ·refine sM Z<|sV (.ptr 16 2)<|sL Z<|sV (rB (decide (a0.fZ<=(1048576:Int))))<|sV (rB (decide (a0.fZ<=(1048576:Int))))<|sA Z<|sN<|qR ?_
      exact oI h▸qD
     refine sM Z<|k3<|sU<|sA Z<|sN<|qR ?_
     exact oI h▸qD
    refine sM Z<|k3<|sU<|sM Z<|k3<|sU<|sA Z<|sN<|qR ?_
    exact oI h▸qD
   refine sM Z<|k3<|sU<|sM Z<|k3<|sU<|sM Z<|k3<|sU ?_
   refine sA Z<|sN<|qR ?_
   exact oI h▸qD
  refine sM Z<|k3<|sU<|sM Z<|k3<|sU<|sM Z<|k3<|sU ?_
  refine sM Z<|k3<|sU<|sA Z<|sN<|qR ?_
  exact oI h▸qD
 refine sM Z<|k3<|sU<|sM Z<|k3<|sU<|sM Z<|k3<|sU ?_
 refine sM Z<|k3<|sU<|sM Z<|k3<|sU<|sA Z<|sN<|qR ?_
 exact oI h▸qD
theorem fM{a0:ag}{r:Bool}(h:fh a0=some r):EvP prog az ext 144 [.d (ag.pd a0)] [] (rB r,[]):=by
 refine Ev.body Z Tryz.func144 Z Zk<|gU Z<|sB (.ptr 16 0) 16 (.var (ag.rc a0))<|sU<|sN<|gU Z<|sV (.ptr 16 0)<|sV (.d (aa.pd a0.aI))<|bE h fun x1 h1 h=>ir h (fun hb2 h=>?_) (fun hb2 h=>?_)
 ·refine WO.lE (v:=rB true) (u:=[]) Z Z (fun _=>Z) Z Z Z Z Z (gr h1) Z Z (congrArg (fun b=>RV.d (.bool b)) hb2) Z<|sM Z<|sV (.ptr 16 3)<|sV (.d (aa.pd a0.aC))<|bE h fun x3 h3 h=>cD (gr h3)<|sF h ?_ ?_<;>intro h
  ·refine sM Z<|sV (.ptr 16 0)<|sV (.ptr 16 0)<|sL Z<|sV (.ptr 16 3)<|sV (.ptr 16 3)<|sL Z<|sV (rB (decide (a0.aI.fX<=a0.aC.fX)))<|sF h ?_ ?_<;>intro h
   ·refine sM Z<|sV (.ptr 16 0)<|sV (.ptr 16 1)<|sL Z<|sV (.ptr 16 3)<|sV (.ptr 16 4)<|sL Z<|sV (rB (decide (a0.aI.fY<=a0.aC.fY)))<|sF h ?_ ?_<;>intro h
    ·refine sM Z<|sV (.ptr 16 0)<|sV (.ptr 16 2)<|sL Z<|sV (.ptr 16 3)<|sV (.ptr 16 5)<|sL Z<|sV (rB (decide (a0.aI.fZ<=a0.aC.fZ)))<|sV (rB (decide (a0.aI.fZ<=a0.aC.fZ)))<|sA Z<|sN<|qR ?_
     exact oI h▸qD
    refine sM Z<|k3<|k3<|sK<|sU<|sA Z<|sN<|qR ?_
    exact oI h▸qD
   refine sM Z<|k3<|k3<|sK<|sU<|sM Z<|k3<|sK<|sK ?_
   refine sK<|sK<|sU<|sA Z<|sN<|qR ?_
   exact oI h▸qD
  refine sM Z<|k3<|k3<|sK<|sU<|sM Z<|k3<|sK<|sK ?_
  refine sK<|sK<|sU<|sM Z<|k3<|k3<|sK<|sU<|sA Z<|sN<|qR ?_
  exact oI h▸qD
 refine WO.lE (v:=rB false) (u:=[]) Z Z (fun _=>Z) Z Z Z Z Z (gr h1) Z Z (congrArg (fun b=>RV.d (.bool b)) hb2) Z<|sM Z<|k3<|sU<|sM Z<|k3<|k3<|sK<|sU ?_
 refine sM Z<|k3<|k3<|sK<|sU<|sM Z<|k3<|sK<|sK ?_
 refine sK<|sK<|sU<|sA Z<|sN<|qR ?_
 exact oI h▸qD
theorem fN{a0:aA}{r:Int}(h:eu a0=some r):EvP prog az ext 143 [.d (aA.pd a0)] [] (rI r,[]):=by
 refine Ev.body Z Tryz.func143 Z Zk<|gU Z<|sB (.ptr 16 0) 16 (.var (aA.rc a0))<|sV (r0)<|sN<|qS<|gU Z<|sV (.ptr 16 0)<|sL Z<|sF h ?_ ?_<;>intro h
 ·refine sM Z<|k3<|sT<|sM Z<|k3<|k3<|sK<|sT<|sM Z ?_
  refine k3<|sK<|sT<|sM Z<|k3<|sK<|sT<|sN<|cT<|gU Z<|sV (rI 21) ?_
  refine sN<|qR ?_
  exact oI h▸qD
 refine sM Z<|sV (.ptr 16 0)<|sL Z<|sV (rB (decide (a0.aZ>(1048576:Int))))<|sF h ?_ ?_<;>intro h
 ·refine sM Z<|k3<|k3<|sK<|sT<|sM Z<|k3<|sK<|sT ?_
  refine sM Z<|k3<|sK<|sT<|sN<|cT<|gU Z<|sV (rI 21)<|sN<|qR ?_
  exact oI h▸qD
 refine sM Z<|sV (.ptr 16 1)<|sL Z<|sE (rI (a0.aI.length:Int)) (dX _ _)<|sV (.ptr 16 2)<|sL Z<|sE (rI (a0.aC.length:Int)) (dX _ _)<|sV (rB ((a0.aI.length:Int) != (a0.aC.length:Int)))<|sF h ?_ ?_<;>intro h
 ·refine sM Z<|k3<|sK<|sT<|sM Z<|k3<|sK<|sT<|sN<|cT<|gU Z ?_
  refine sV (rI 21)<|sN<|qR ?_
  exact oI h▸qD
 refine sM Z<|sV (.ptr 16 1)<|sL Z<|sE (rI (a0.aI.length:Int)) (dX _ _)<|sV (rB (decide ((a0.aI.length:Int)<(2:Int))))<|sF h ?_ ?_<;>intro h
 ·refine sM Z<|k3<|sK<|sT<|sN<|cT<|gU Z<|sV (rI 21)<|sN<|qR ?_
  exact oI h▸qD
 refine sM Z<|sV (.ptr 16 1)<|sL Z<|sE (rI (a0.aI.length:Int)) (dX _ _)<|sV (rB (decide ((a0.aI.length:Int)>(256:Int))))<|sF h ?_ ?_<;>intro h
 ·refine sN<|cT<|gU Z<|sV (rI 21)<|sN<|qR ?_
  exact oI h▸qD
 refine sN<|cF<|qK<|qS<|gU Z<|sV (r0)<|sN<|bE h fun o24 ho24 h=>WC.block (WC.loop (WL.fV ho24 (fun s R' B'=>dN prog 0 (A R' B') (az.at_ 143 0 4)=some (A [(1,.ptr 16 0),(3,rI s)] [(16,.var (aA.rc a0))])) (fun o e R' B'=>match o with| .inl y=>e= .exit 0∧dN prog 0 (A R' B') (az.at_ 143 0 10)=some (A [] [])| .inr r=>e= .ret∧finish prog (az.own 143) Tryz.f143 0 (A R' B')=some (rI r,[])) Z ?_ ?_))
 ·rintro s6 R' B' q7 hI h
  refine qS<|gS Z hI<|sM Z<|sV (.ptr 16 1)<|sL Z<|sE (rI (a0.aI.length:Int)) (dX _ _)<|sF h ?_ ?_<;>intro h
  ·refine sN<|cT<|qK<|qS<|qB<|qS<|WC.cI Z Z<|sV (.ptr 16 1)<|sL Z<|sM Z<|bE h fun x9 h9 h=>eG h9 Z<|sC Z<|sF h ?_ ?_<;>intro h
   ·refine sM Z<|k3<|k3<|sT<|sM Z<|k3<|sK<|sK<|sK ?_
    refine k3<|sK<|sK<|sT ?_
    refine sN<|sO<|cT<|gU Z<|sV (rI 21)<|sN<|qR ?_
    cases oI h
    exact⟨nofun,rfl,rfl⟩
   refine sM Z<|sV (.ptr 16 2)<|sL Z<|sM Z<|bE h fun x11 h11 h=>eG h11 Z<|sC Z<|sV (rB (decide (x11>(1099511627776:Int))))<|sF h ?_ ?_<;>intro h
   ·refine sM Z<|k3<|k3<|k3<|sK<|sK<|sT ?_
    refine sN<|sO<|cT<|gU Z<|sV (rI 21)<|sN<|qR ?_
    cases oI h
    exact⟨nofun,rfl,rfl⟩
   refine sM Z<|sV (.ptr 16 1)<|sL Z<|sM Z<|bE h fun x13 h13 h=>eG h13 Z<|sC Z<|sV (.ptr 16 2)<|sL Z<|sM Z<|bE h fun x14 h14 h=>eG h14 Z<|sC Z<|sV (rB (decide (x13>x14)))<|sF h ?_ ?_<;>intro h
   ·refine sN<|sO<|cT<|gU Z<|sV (rI 21)<|sN<|qR ?_
    cases oI h
    exact⟨nofun,rfl,rfl⟩
   refine sN<|sO<|cF<|qK<|WC.cI Z Z<|sM Z<|sF h ?_ ?_<;>intro h
   ·refine sM Z<|sV (.ptr 16 1)<|sL Z<|sM Z<|bE h fun x17 h17 h=>eG h17 Z<|sC Z<|sV (.ptr 16 1)<|sL Z<|sM Z<|sV (rI (rW (s6-(1:Int))))<|bE h fun x18 h18 h=>eG h18 Z<|sC Z<|sF h ?_ ?_<;>intro h
    ·refine sM Z<|k3<|k3<|k3<|k3<|sT<|sT ?_
     refine sN<|sO<|cT<|gU Z<|sV (rI 21)<|sN<|qR ?_
     cases oI h
     exact⟨nofun,rfl,rfl⟩
    refine sM Z<|sV (.ptr 16 2)<|sL Z<|sM Z<|bE h fun x20 h20 h=>eG h20 Z<|sC Z<|sV (.ptr 16 2)<|sL Z<|sM Z<|sV (rI (rW (s6-(1:Int))))<|bE h fun x21 h21 h=>eG h21 Z<|sC Z<|sV (rB (decide (x20<x21))) ?_
    refine sV (rB (decide (x20<x21)))<|sF h ?_ ?_<;>intro h
    ·refine sN<|sO<|cT<|gU Z<|sV (rI 21)<|sN<|qR ?_
     cases oI h
     exact⟨nofun,rfl,rfl⟩
    refine sN<|sO<|cF<|qK<|WC.region Z Z<|sM Z<|sV (rI (rW (s6+(1:Int))))<|sA Z<|sN ?_
    cases oI h
    exact⟨rfl,rfl⟩
   refine sM Z<|k3<|k3<|k3<|k3<|sK<|sK ?_
   refine k3<|k3<|k3<|k3<|sU ?_
   refine sN<|sO<|cF<|qK<|WC.region Z Z<|sM Z<|sV (rI (rW (s6+(1:Int))))<|sA Z<|sN ?_
   cases oI h
   exact⟨rfl,rfl⟩
  refine sN<|cF<|qX ?_
  cases oI h
  exact⟨nofun,rfl,rfl⟩
 intro e R' B' he hq
 rcases o24 with y25|r26
 ·obtain⟨rfl,hI⟩:=hq
  refine qE<|gS Z hI<|sV (r0)<|sN<|qR ?_
  exact oI h▸qD
 obtain⟨rfl,hf⟩:=hq
 cases oI h
 exact hf
theorem rT{a0:aG}{r:Bool}(h:kQ a0=some r):EvP prog az ext 137 [.d (aG.pd a0)] [] (rB r,[]):=by
 refine Ev.body Z Tryz.func137 Z Zk<|gU Z<|sB (.ptr 16 0) 16 (.var (aG.rc a0))<|sU<|sN<|gU Z<|sV (.ptr 16 0)<|sV (.d (ag.pd a0.aM))<|bE h fun x1 h1 h=>ir h (fun hb2 h=>?_) (fun hb2 h=>?_)
 ·refine WO.lE (v:=rB true) (u:=[]) Z Z (fun _=>Z) Z Z Z Z Z (fM h1) Z Z (congrArg (fun b=>RV.d (.bool b)) hb2) Z<|sM Z<|sV (.ptr 16 6)<|sV (.d (aA.pd a0.aW))<|bE h fun x3 h3 h=>cD (fN h3)<|sV (rB (x3==(0:Int)))<|sF h ?_ ?_<;>intro h
  ·refine sM Z<|sV (.ptr 16 9)<|sL Z<|sV (rB (decide (a0.cG>=(1:Int))))<|sF h ?_ ?_<;>intro h
   ·refine sM Z<|sV (.ptr 16 9)<|sL Z<|sV (rB (decide (a0.cG<=(1099511627776:Int))))<|sF h ?_ ?_<;>intro h
    ·refine sM Z<|sV (.ptr 16 10)<|sL Z<|sV (rB (decide (a0.bf>=(0:Int))))<|sF h ?_ ?_<;>intro h
     ·refine sM Z<|sV (.ptr 16 10)<|sL Z<|sV (rB (decide (a0.bf<=(1099511627776:Int))))<|sF h ?_ ?_<;>intro h
      ·refine sM Z<|sV (.ptr 16 12)<|sL Z<|sV (rB (decide (a0.d9>=(0:Int))))<|sF h ?_ ?_<;>intro h
       ·refine sM Z<|sV (.ptr 16 12)<|sL Z<|sV (rB (decide (a0.d9<=(1099511627776:Int))))<|sF h ?_ ?_<;>intro h
        ·refine sM Z<|sV (.ptr 16 11)<|sL Z<|sV (rB (decide (a0.dC>=(0:Int))))<|sF h ?_ ?_<;>intro h
         ·refine sM Z<|sV (.ptr 16 11)<|sL Z<|sV (rB (decide (a0.dC<=(1099511627776:Int))))<|sF h ?_ ?_<;>intro h
          ·refine sM Z<|sV (.ptr 16 13)<|sL Z<|sV (rB (decide (a0.co>=(2:Int))))<|sF h ?_ ?_<;>intro h
           ·refine sM Z<|sV (.ptr 16 13)<|sL Z<|sV (rB (decide (a0.co<=(16:Int))))<|sV (rB (decide (a0.co<=(16:Int))))<|sA Z<|sN<|qR ?_
            cases oI h
            exact qG
           refine sM Z<|k3<|sU<|sA Z<|sN<|qR ?_
           cases oI h
           exact qG
          refine sM Z<|k3<|sU<|sM Z<|k3<|sU<|sA Z<|sN<|qR ?_
          cases oI h
          exact qG
         refine sM Z<|k3<|sU<|sM Z<|k3<|sU<|sM Z<|k3<|sU ?_
         refine sA Z<|sN<|qR ?_
         cases oI h
         exact qG
        refine sM Z<|k3<|sU<|sM Z<|k3<|sU<|sM Z<|k3<|sU ?_
        refine sM Z<|k3<|sU<|sA Z<|sN<|qR ?_
        cases oI h
        exact qG
       refine sM Z<|k3<|sU<|sM Z<|k3<|sU<|sM Z<|k3<|sU ?_
       refine sM Z<|k3<|sU<|sM Z<|k3<|sU<|sA Z<|sN<|qR ?_
       cases oI h
       exact qG
      refine sM Z<|k3<|sU<|sM Z<|k3<|sU<|sM Z<|k3<|sU ?_
      refine sM Z<|k3<|sU<|sM Z<|k3<|sU<|sM Z<|k3<|sU ?_
      refine sA Z<|sN<|qR ?_
      cases oI h
      exact qG
     refine sM Z<|k3<|sU<|sM Z<|k3<|sU<|sM Z<|k3<|sU ?_
     refine sM Z<|k3<|sU<|sM Z<|k3<|sU<|sM Z<|k3<|sU ?_
     refine sM Z<|k3<|sU<|sA Z<|sN<|qR ?_
     cases oI h
     exact qG
    refine sM Z<|k3<|sU<|sM Z<|k3<|sU<|sM Z<|k3<|sU ?_
    refine sM Z<|k3<|sU<|sM Z<|k3<|sU<|sM Z<|k3<|sU ?_
    refine sM Z<|k3<|sU<|sM Z<|k3<|sU<|sA Z<|sN<|qR ?_
    cases oI h
    exact qG
   refine sM Z<|k3<|sU<|sM Z<|k3<|sU<|sM Z<|k3<|sU ?_
   refine sM Z<|k3<|sU<|sM Z<|k3<|sU<|sM Z<|k3<|sU ?_
   refine sM Z<|k3<|sU<|sM Z<|k3<|sU<|sM Z<|k3<|sU ?_
   refine sA Z<|sN<|qR ?_
   cases oI h
   exact qG
  refine sM Z<|k3<|sU<|sM Z<|k3<|sU<|sM Z<|k3<|sU ?_
  refine sM Z<|k3<|sU<|sM Z<|k3<|sU<|sM Z<|k3<|sU ?_
  refine sM Z<|k3<|sU<|sM Z<|k3<|sU<|sM Z<|k3<|sU ?_
  refine sM Z<|k3<|sU<|sA Z<|sN<|qR ?_
  cases oI h
  exact qG
 refine WO.lE (v:=rB false) (u:=[]) Z Z (fun _=>Z) Z Z Z Z Z (fM h1) Z Z (congrArg (fun b=>RV.d (.bool b)) hb2) Z<|sM Z<|k3<|sK<|sU<|sM Z<|k3<|sU<|sM Z<|sK<|sK ?_
 refine sK<|sU<|sM Z<|k3<|sU<|sM Z<|k3<|sU<|sM Z<|sK<|sK ?_
 refine sK<|sU<|sM Z<|k3<|sU<|sM Z<|k3<|sU<|sM Z<|sK<|sK ?_
 refine sK<|sU<|sM Z<|k3<|sU<|sM Z<|k3<|sU<|sA Z<|sN<|qR ?_
 cases oI h
 exact qG
theorem qu{a0:bo}{r:Bool}(h:jm a0=some r):EvP prog az ext 138 [.d (bo.pd a0)] [] (rB r,[]):=by
 refine Ev.body Z Tryz.func138 Z Zk<|gU Z<|sB (.ptr 16 0) 16 (.var (bo.rc a0))<|sU<|sN<|gU Z<|sV (.ptr 16 0)<|sV (.d (aA.pd a0.bC))<|bE h fun x1 h1 h=>cD (fN h1)<|sF h ?_ ?_<;>intro h
 ·refine sM Z<|sV (.ptr 16 3)<|sL Z<|sV (rB (decide (a0.bd>=(0:Int))))<|sF h ?_ ?_<;>intro h
  ·refine sM Z<|sV (.ptr 16 3)<|sL Z<|sV (rB (decide (a0.bd<=(65536:Int))))<|sF h ?_ ?_<;>intro h
   ·refine sM Z<|sV (.ptr 16 4)<|sL Z<|sV (rB (decide (a0.aY>=(1:Int))))<|sF h ?_ ?_<;>intro h
    ·refine sM Z<|sV (.ptr 16 4)<|sL Z<|sV (rB (decide (a0.aY<=(65536:Int))))<|sV (rB (decide (a0.aY<=(65536:Int))))<|sA Z<|sN<|qR ?_
     exact oI h▸qD
    refine sM Z<|k3<|sU<|sA Z<|sN<|qR ?_
    exact oI h▸qD
   refine sM Z<|k3<|sU<|sM Z<|k3<|sU<|sA Z<|sN<|qR ?_
   exact oI h▸qD
  refine sM Z<|k3<|sU<|sM Z<|k3<|sU<|sM Z<|k3<|sU ?_
  refine sA Z<|sN<|qR ?_
  exact oI h▸qD
 refine sM Z<|k3<|sU<|sM Z<|k3<|sU<|sM Z<|k3<|sU ?_
 refine sM Z<|k3<|sU<|sA Z<|sN<|qR ?_
 exact oI h▸qD
theorem rU{a0:ar}{r:Int}(h:kR a0=some r):EvP prog az ext 74 [.d (ar.pd a0)] [] (rI r,[]):=by
 refine Ev.body Z Tryz.func74 Z Zk<|gU Z<|sB (.ptr 16 0) 16 (.var (ar.rc a0))<|sV (r0)<|sN<|qS<|gU Z<|sV (.ptr 16 0)<|sV (.d (aG.pd a0.ae))<|bE h fun x1 h1 h=>cD (rT h1)<|sF h ?_ ?_<;>intro h
 ·refine sM Z<|k3<|sK<|sT<|sM Z<|k3<|sT<|sM Z<|sK<|sK<|sK ?_
  refine sT<|sN<|cT<|gU Z<|sV (rI 27)<|sN<|qR ?_
  cases oI h
  exact qG
 refine sM Z<|sV (.ptr 16 14)<|sV (.d (bo.pd a0.cm))<|bE h fun x3 h3 h=>cD (qu h3)<|sV (rB (!x3))<|sF h ?_ ?_<;>intro h
 ·refine sM Z<|k3<|sT<|sM Z<|k3<|sT<|sN<|cT<|gU Z<|sV (rI 27)<|sN ?_
  refine qR ?_
  cases oI h
  exact qG
 refine sM Z<|sV (.ptr 16 19)<|sL Z<|sV (rB (decide (a0.bf<(0:Int))))<|sF h ?_ ?_<;>intro h
 ·refine sM Z<|k3<|sT<|sN<|cT<|gU Z<|sV (rI 27)<|sN<|qR ?_
  cases oI h
  exact qG
 refine sM Z<|sV (.ptr 16 19)<|sL Z<|sV (rB (decide (a0.bf>(1099511627776:Int))))<|sF h ?_ ?_<;>intro h
 ·refine sN<|cT<|gU Z<|sV (rI 27)<|sN<|qR ?_
  cases oI h
  exact qG
 refine sN<|cF<|qK<|gU Z<|sV (r0)<|sN<|qR ?_
 cases oI h
 exact qG
theorem il{a0:(List UInt8)}{a1:Int}{a2:Int}{r:Bool}(h:iP a0 a1 a2=some r):EvP prog az ext 218 [rS a0,rI a1,rI a2] [] (rB r,[]):=by
 refine Ev.body Z Tryz.func218 Z Zk<|gU Z<|sU<|sN<|qS<|gU Z<|sV (r0)<|sN<|bE h fun o17 ho17 h=>WC.block (WC.loop (WL.fV ho17 (fun s R' B'=>dN prog 0 (A R' B') (az.at_ 218 0 2)=some (A [(0,rS a0),(1,rI a1),(2,rI a2),(7,rI s)] [])) (fun o e R' B'=>match o with| .inl y=>e= .exit 0∧dN prog 0 (A R' B') (az.at_ 218 0 6)=some (A [(0,rS a0),(1,rI a1),(2,rI a2)] [])| .inr r=>e= .ret∧finish prog (az.own 218) Tryz.f218 0 (A R' B')=some (rB r,[])) Z ?_ ?_))
 ·rintro s1 R' B' q2 hI h
  refine qS<|gS Z hI<|sM Z<|sM Z<|sV (rI (a0.length:Int))<|sF h ?_ ?_<;>intro h
  ·refine sN<|cT<|qK<|qS<|qB<|gU Z<|sM Z<|sM Z<|bE h fun x4 h4 h=>WO.xl h4 Z Z Z Z Z Z<|sF h ?_ ?_<;>intro h
   ·refine sM Z<|sM Z<|sM Z<|bE h fun x6 h6 h=>WO.xl h6 Z Z Z Z Z Z<|sV (rB (decide (x6<=(90:Int))))<|sF h ?_ ?_<;>intro h
    ·refine sM Z<|k3<|k3<|k3<|sK<|sT<|sU<|sN<|cF ?_
     refine qK<|WC.region Z Z<|sM Z<|sV (rI (rW (s1+(1:Int))))<|sA Z<|sN ?_
     cases oI h
     exact⟨rfl,rfl⟩
    refine sM Z<|sM Z<|sM Z<|bE h fun x8 h8 h=>WO.xl h8 Z Z Z Z Z Z<|sF h ?_ ?_<;>intro h
    ·refine sM Z<|sM Z<|sM Z<|bE h fun x10 h10 h=>WO.xl h10 Z Z Z Z Z Z<|sV (rB (decide (x10<=(57:Int))))<|sV (rB (decide (x10<=(57:Int))))<|sV (rB (decide (x10<=(57:Int))))<|sF h ?_ ?_<;>intro h
     ·refine sN<|cT<|gU Z<|sU<|sN<|qR ?_
      cases oI h
      exact⟨nofun,rfl,rfl⟩
     refine sN<|cF<|qK<|WC.region Z Z<|sM Z<|sV (rI (rW (s1+(1:Int))))<|sA Z<|sN ?_
     cases oI h
     exact⟨rfl,rfl⟩
    refine sM Z<|k3<|sK<|sU<|sU<|sT<|sN<|cT<|gU Z<|sU<|sN<|qR ?_
    cases oI h
    exact⟨nofun,rfl,rfl⟩
   refine sM Z<|k3<|sK<|sU<|sM Z<|sM Z<|sM Z<|bE h fun x12 h12 h=>WO.xl h12 Z Z Z Z Z Z<|sF h ?_ ?_<;>intro h
   ·refine sM Z<|sM Z<|sM Z<|bE h fun x14 h14 h=>WO.xl h14 Z Z Z Z Z Z<|sV (rB (decide (x14<=(57:Int))))<|sV (rB (decide (x14<=(57:Int))))<|sV (rB (decide (x14<=(57:Int))))<|sF h ?_ ?_<;>intro h
    ·refine sN<|cT<|gU Z<|sU<|sN<|qR ?_
     cases oI h
     exact⟨nofun,rfl,rfl⟩
    refine sN<|cF<|qK<|WC.region Z Z<|sM Z<|sV (rI (rW (s1+(1:Int))))<|sA Z<|sN ?_
    cases oI h
    exact⟨rfl,rfl⟩
   refine sM Z<|k3<|sK<|sU<|sU<|sT<|sN<|cT<|gU Z<|sU<|sN<|qR ?_
   cases oI h
   exact⟨nofun,rfl,rfl⟩
  refine sN<|cF<|qX ?_
  cases oI h
  exact⟨nofun,rfl,rfl⟩
 intro e R' B' he hq
 rcases o17 with y18|r19
 ·obtain⟨rfl,hI⟩:=hq
  refine qE<|gS Z hI<|sM Z<|sV (rI (a0.length:Int))<|sM Z<|sF h ?_ ?_<;>intro h
  ·refine sM Z<|sM Z<|sV (rI (a0.length:Int))<|sM Z<|sV (rB (decide ((a0.length:Int)<=a2)))<|sV (rB (decide ((a0.length:Int)<=a2)))<|sA Z<|sN<|qR ?_
   exact oI h▸qD
  refine sM Z<|k3<|sK<|sU<|sA Z<|sN<|qR ?_
  exact oI h▸qD
 obtain⟨rfl,hf⟩:=hq
 cases oI h
 exact hf
theorem nc{a0:au}{r:Bool}(h:kj a0=some r):EvP prog az ext 139 [.d (au.pd a0)] [] (rB r,[]):=by
 refine Ev.body Z Tryz.func139 Z Zk<|gU Z<|sB (.ptr 16 0) 16 (.var (au.rc a0))<|sU<|sN<|gU Z<|sV (.ptr 16 0)<|sL Z<|bE h fun x1 h1 h=>ir h (fun hb2 h=>?_) (fun hb2 h=>?_)
 ·refine WO.lE (v:=rB true) (u:=[]) Z Z (fun _=>Z) Z Z Z Z Z (il h1) Z Z (congrArg (fun b=>RV.d (.bool b)) hb2) Z<|sM Z<|sV (.ptr 16 1)<|sL Z<|bE h fun x3 h3 h=>cD (il h3)<|sF h ?_ ?_<;>intro h
  ·refine sM Z<|sV (.ptr 16 2)<|sL Z<|sF h ?_ ?_<;>intro h
   ·refine sM Z<|k3<|sT<|sT<|sM Z<|sV (.ptr 16 3)<|sL Z<|bE h fun x6 h6 h=>cD (il h6)<|sV (rB x6)<|sA Z<|sN<|qR ?_
    exact oI h▸qD
   refine sM Z<|sV (.ptr 16 2)<|sL Z<|bE h fun x7 h7 h=>cD (il h7)<|sV (rB x7)<|sF h ?_ ?_<;>intro h
   ·refine sM Z<|sV (.ptr 16 3)<|sL Z<|bE h fun x9 h9 h=>cD (il h9)<|sV (rB x9)<|sA Z<|sN<|qR ?_
    exact oI h▸qD
   refine sM Z<|k3<|sU<|sA Z<|sN<|qR ?_
   exact oI h▸qD
  refine sM Z<|k3<|k3<|sK<|sK<|sU<|sM Z<|k3<|sU ?_
  refine sA Z<|sN<|qR ?_
  exact oI h▸qD
 refine WO.lE (v:=rB false) (u:=[]) Z Z (fun _=>Z) Z Z Z Z Z (il h1) Z Z (congrArg (fun b=>RV.d (.bool b)) hb2) Z<|sM Z<|k3<|sU<|sM Z<|k3<|k3<|sK<|sK ?_
 refine sU<|sM Z<|k3<|sU<|sA Z<|sN<|qR ?_
 exact oI h▸qD
theorem bY{a0:Int}{a1:Int}{a2:Int}{r:Bool}(h:cV a0 a1 a2=some r):EvP prog az ext 140 [rI a0,rI a1,rI a2] [] (rB r,[]):=by
 refine Ev.body Z Tryz.func140 Z Zk<|gU Z<|sU<|sN<|gU Z<|sM Z<|sM Z<|sF h ?_ ?_<;>intro h
 ·refine sM Z<|sM Z<|sM Z<|sV (rB (decide (a0<=a2)))<|sV (rB (decide (a0<=a2)))<|sA Z<|sN<|qR ?_
  exact oI h▸qD
 refine sM Z<|k3<|sU<|sA Z<|sN<|qR ?_
 exact oI h▸qD
theorem qZ{a0:ai}{r:Bool}(h:gZ a0=some r):EvP prog az ext 75 [.d (ai.pd a0)] [] (rB r,[]):=by
 refine Ev.body Z Tryz.func75 Z Zk<|gU Z<|sB (.ptr 16 0) 16 (.var (ai.rc a0))<|sU<|sN<|gU Z<|sV (.ptr 16 0)<|sV (.d (au.pd a0.aw))<|bE h fun x1 h1 h=>ir h (fun hb2 h=>?_) (fun hb2 h=>?_)
 ·refine WO.lE (v:=rB true) (u:=[]) Z Z (fun _=>Z) Z Z Z Z Z (nc h1) Z Z (congrArg (fun b=>RV.d (.bool b)) hb2) Z<|sM Z<|sV (.ptr 16 5)<|sL Z<|sV (rB (decide (a0.aQ>=(0:Int))))<|sF h ?_ ?_<;>intro h
  ·refine sM Z<|sV (.ptr 16 5)<|sL Z<|sV (.ptr 16 4)<|sL Z<|sV (rB (decide (a0.aQ<=a0.bn)))<|sF h ?_ ?_<;>intro h
   ·refine sM Z<|sV (.ptr 16 4)<|sL Z<|sV (.ptr 16 6)<|sL Z<|sV (rB (decide (a0.bn<=a0.bw)))<|sF h ?_ ?_<;>intro h
    ·refine sM Z<|sV (.ptr 16 6)<|sL Z<|sV (rB (decide (a0.bw<=(18014398509481984:Int))))<|sF h ?_ ?_<;>intro h
     ·refine sM Z<|sV (.ptr 16 7)<|sL Z<|bE h fun x7 h7 h=>cD (bY h7)<|sF h ?_ ?_<;>intro h
      ·refine sM Z<|sV (.ptr 16 8)<|sL Z<|bE h fun x9 h9 h=>cD (bY h9)<|sV (rB x9)<|sA Z<|sN<|qR ?_
       cases oI h
       exact qG
      refine sM Z<|k3<|sU<|sA Z<|sN<|qR ?_
      cases oI h
      exact qG
     refine sM Z<|k3<|sU<|sM Z<|k3<|sU<|sA Z<|sN<|qR ?_
     cases oI h
     exact qG
    refine sM Z<|k3<|sU<|sM Z<|k3<|sU<|sM Z<|k3<|sU ?_
    refine sA Z<|sN<|qR ?_
    cases oI h
    exact qG
   refine sM Z<|k3<|sK<|sK<|sU<|sM Z<|k3<|sU<|sM Z<|sK<|sK ?_
   refine sK<|sU<|sM Z<|k3<|sU<|sA Z<|sN<|qR ?_
   cases oI h
   exact qG
  refine sM Z<|k3<|sK<|sK<|sU<|sM Z<|k3<|sK<|sK<|sU<|sM Z ?_
  refine k3<|sU<|sM Z<|k3<|sU<|sM Z<|k3<|sU<|sA Z ?_
  refine sN<|qR ?_
  cases oI h
  exact qG
 refine WO.lE (v:=rB false) (u:=[]) Z Z (fun _=>Z) Z Z Z Z Z (nc h1) Z Z (congrArg (fun b=>RV.d (.bool b)) hb2) Z<|sM Z<|k3<|sU<|sM Z<|k3<|sK<|sK<|sU<|sM Z<|sK ?_
 refine k3<|sK<|sU<|sM Z<|k3<|sU<|sM Z<|k3<|sU ?_
 refine sM Z<|k3<|sU<|sA Z<|sN<|qR ?_
 cases oI h
 exact qG
theorem ref02_gcd_ev{a0:Int}{a1:Int}{r:Int}(h:ref02_gcd a0 a1=some r):EvP prog az ext 344 [rI a0,rI a1] [] (rI r,[]):=by
 refine Ev.body Z Tryz.func344 Z Zk<|gU Z<|sV (r0)<|sN<|qS<|bE h fun o8 ho8 h=>WC.block (WC.loop (WL.fV ho8 (fun s R' B'=>dN prog 0 (A R' B') (az.at_ 344 0 1)=some (A [(0,rI s.1),(1,rI s.2)] [])) (fun o e R' B'=>e= .exit 0∧dN prog 0 (A R' B') (az.at_ 344 0 3)=some (A [(0,rI o)] [])) Z ?_ ?_))
 ·rintro⟨s1,s2⟩ R' B' q4 hI h
  refine qS<|gS Z hI<|sM Z<|sF h ?_ ?_<;>intro h
  ·refine sN<|cT<|qK<|qB<|WC.kT Z Z<|sM Z<|sM Z<|sM Z<|bE h fun x6 h6 h=>WO.remG h6 Z Z Z Z Z Z<|sA Z<|sA Z ?_
   refine sN<|sO ?_
   cases oI h
   exact⟨rfl,rfl⟩
  refine sN<|cF<|qX ?_
  cases oI h
  exact⟨nofun,rfl,rfl⟩
 intro e R' B' he hq
 obtain⟨rfl,hI⟩:=hq
 refine qE<|gS Z hI<|sM Z<|sA Z<|sN<|qR ?_
 exact oI h▸qD
theorem ref02_Valid_ev{a0:bi}{r:Bool}(h:pN a0=some r):EvP prog az ext 298 [.d (bi.pd a0)] [] (rB r,[]):=by
 refine Ev.body Z Tryz.func298 Z Zk<|gU Z<|sB (.ptr 16 0) 16 (.var [rI a0.bd,rI a0.aY])<|sU<|sN<|gU Z<|sV (.ptr 16 0)<|sL Z<|bE h fun x1 h1 h=>ir h (fun hb2 h=>?_) (fun hb2 h=>?_)
 ·refine WO.lE (v:=rB true) (u:=[]) Z Z (fun _=>Z) Z Z Z Z Z (bY h1) Z Z (congrArg (fun b=>RV.d (.bool b)) hb2) Z<|sM Z<|sV (.ptr 16 1)<|sL Z<|bE h fun x3 h3 h=>cD (bY h3)<|sF h ?_ ?_<;>intro h
  ·refine sM Z<|sV (.ptr 16 0)<|sL Z<|sV (.ptr 16 1)<|sL Z<|bE h fun x5 h5 h=>cD (ref02_gcd_ev h5)<|sV (rB (x5==(1:Int)))<|sV (rB (x5==(1:Int)))<|sA Z<|sN<|qR ?_
   exact oI h▸qD
  refine sM Z<|k3<|k3<|sU<|sA Z<|sN<|qR ?_
  exact oI h▸qD
 refine WO.lE (v:=rB false) (u:=[]) Z Z (fun _=>Z) Z Z Z Z Z (bY h1) Z Z (congrArg (fun b=>RV.d (.bool b)) hb2) Z<|sM Z<|k3<|sU<|sM Z<|k3<|k3<|sU<|sA Z ?_
 refine sN<|qR ?_
 exact oI h▸qD
theorem iQ{a0:(List Int)}{r:Bool}(h:gA a0=some r):EvP prog az ext 390 [rL a0] [] (rB r,[]):=by
 refine Ev.body Z Tryz.func390 Z Zk<|gU Z<|sU<|sN<|qS<|gU Z<|sV (r0)<|sN<|bE h fun o8 ho8 h=>WC.block (WC.loop (WL.fV ho8 (fun s R' B'=>dN prog 0 (A R' B') (az.at_ 390 0 2)=some (A [(0,rL a0),(3,rI s)] [])) (fun o e R' B'=>match o with| .inl y=>e= .exit 0∧dN prog 0 (A R' B') (az.at_ 390 0 6)=some (A [] [])| .inr r=>e= .ret∧finish prog (az.own 390) Tryz.f390 0 (A R' B')=some (rB r,[])) Z ?_ ?_))
 ·rintro s1 R' B' q2 hI h
  refine qS<|gS Z hI<|sM Z<|sM Z<|sE (rI (a0.length:Int)) (dX _ _)<|sF h ?_ ?_<;>intro h
  ·refine sN<|cT<|qK<|qS<|qB<|gU Z<|sM Z<|sM Z<|bE h fun x4 h4 h=>eG h4 Z<|sC Z<|bE h fun x5 h5 h=>cD (bY h5)<|sF h ?_ ?_<;>intro h
   ·refine sN<|cT<|gU Z<|sU<|sN<|qR ?_
    cases oI h
    exact⟨nofun,rfl,rfl⟩
   refine sN<|cF<|qK<|WC.region Z Z<|sM Z<|sV (rI (rW (s1+(1:Int))))<|sA Z<|sN ?_
   cases oI h
   exact⟨rfl,rfl⟩
  refine sN<|cF<|qX ?_
  cases oI h
  exact⟨nofun,rfl,rfl⟩
 intro e R' B' he hq
 rcases o8 with y9|r10
 ·obtain⟨rfl,hI⟩:=hq
  refine qE<|gS Z hI<|sT<|sN<|qR ?_
  exact oI h▸qD
 obtain⟨rfl,hf⟩:=hq
 cases oI h
 exact hf
theorem nf{a0:(List Int)}{r:Int}(h:lY a0=some r):EvP prog az ext 391 [rL a0] [] (rI r,[]):=by
 refine Ev.body Z Tryz.func391 Z Zk<|gU Z<|sV (r0)<|sN<|gU Z<|sV (r0)<|sN<|qS<|gU Z<|sV (r0)<|sN<|bE h fun o8 ho8 h=>WC.block (WC.loop (WL.fV ho8 (fun s R' B'=>dN prog 0 (A R' B') (az.at_ 391 0 3)=some (A [(0,rL a0),(3,rI s.1),(4,rI s.2)] [])) (fun o e R' B'=>e= .exit 0∧dN prog 0 (A R' B') (az.at_ 391 0 6)=some (A [(3,rI o)] [])) Z ?_ ?_))
 ·rintro⟨s1,s2⟩ R' B' q4 hI h
  refine qS<|gS Z hI<|sM Z<|sM Z<|sE (rI (a0.length:Int)) (dX _ _)<|sF h ?_ ?_<;>intro h
  ·refine sN<|cT<|qK<|qS<|qB<|WC.region Z Z<|sM Z<|sM Z<|sM Z<|bE h fun x6 h6 h=>eG h6 Z<|sC Z<|sV (rI (rW (s1+x6)))<|sA Z<|sN ?_
   refine WC.region Z Z<|sM Z<|sV (rI (rW (s2+(1:Int))))<|sA Z<|sN ?_
   cases oI h
   exact⟨rfl,rfl⟩
  refine sN<|cF<|qX ?_
  cases oI h
  exact⟨nofun,rfl,rfl⟩
 intro e R' B' he hq
 obtain⟨rfl,hI⟩:=hq
 refine qE<|gS Z hI<|sM Z<|sA Z<|sN<|qR ?_
 exact oI h▸qD
theorem qr{a0:aD}{r:Bool}(h:jk a0=some r):EvP prog az ext 345 [.d (aD.pd a0)] [] (rB r,[]):=by
 refine Ev.body Z Tryz.func345 Z Zk<|gU Z<|sB (.ptr 16 0) 16 (.var (aD.rc a0))<|sU<|sN<|gU Z<|sV (.ptr 16 7)<|sL Z<|sE (rI (a0.bN.length:Int)) (dX _ _)<|sF h ?_ ?_<;>intro h
 ·refine sM Z<|sV (.ptr 16 8)<|sL Z<|sV (rB (a0.bt==(0:Int)))<|sF h ?_ ?_<;>intro h
  ·refine sM Z<|sV (.ptr 16 9)<|sL Z<|sV (rB (a0.bR==(0:Int)))<|sV (rB (a0.bR==(0:Int)))<|sA Z<|sN<|qS<|gU Z<|sV (.ptr 16 0)<|sL Z<|sN<|qB<|gU Z<|sF h ?_ ?_<;>intro h
   ·refine sA Z<|sN<|cT<|gU Z<|sF h ?_ ?_<;>intro h
    ·refine sM Z<|sV (.ptr 16 1)<|sV (.ptr 16 1)<|sL Z<|bE h fun x5 h5 h=>cD (bY h5)<|sF h ?_ ?_<;>intro h
     ·refine sM Z<|sV (.ptr 16 4)<|sV (.ptr 16 4)<|sL Z<|bE h fun x7 h7 h=>cD (bY h7)<|sF h ?_ ?_<;>intro h
      ·refine sM Z<|sV (.ptr 16 1)<|sV (.ptr 16 2)<|sL Z<|sV (rB (a0.bd.a1==(0:Int)))<|sF h ?_ ?_<;>intro h
       ·refine sM Z<|sV (.ptr 16 1)<|sV (.ptr 16 3)<|sL Z<|sV (rB (a0.bd.a2==(0:Int)))<|sF h ?_ ?_<;>intro h
        ·refine sM Z<|sV (.ptr 16 4)<|sV (.ptr 16 5)<|sL Z<|sV (rB (a0.aY.a1==(0:Int)))<|sF h ?_ ?_<;>intro h
         ·refine sM Z<|sV (.ptr 16 4)<|sV (.ptr 16 6)<|sL Z<|sV (rB (a0.aY.a2==(0:Int)))<|sV (rB (a0.aY.a2==(0:Int)))<|sA Z<|sN<|qR ?_
          cases oI h
          exact qG
         refine sM Z<|k3<|sK<|sU<|sA Z<|sN<|qR ?_
         cases oI h
         exact qG
        refine sM Z<|k3<|sK<|sU<|sM Z<|k3<|sK<|sU<|sA Z<|sN<|qR ?_
        cases oI h
        exact qG
       refine sM Z<|k3<|sK<|sU<|sM Z<|k3<|sK<|sU<|sM Z<|sK<|sK ?_
       refine sK<|sK<|sU<|sA Z<|sN<|qR ?_
       cases oI h
       exact qG
      refine sM Z<|k3<|sK<|sU<|sM Z<|k3<|sK<|sU<|sM Z<|sK<|sK ?_
      refine sK<|sK<|sU<|sM Z<|k3<|sK<|sU<|sA Z<|sN<|qR ?_
      cases oI h
      exact qG
     refine sM Z<|k3<|sK<|sU<|sM Z<|k3<|sK<|sU<|sM Z<|sK<|sK ?_
     refine sK<|sK<|sU<|sM Z<|k3<|sK<|sU<|sM Z<|k3<|sK<|sU ?_
     refine sA Z<|sN<|qR ?_
     cases oI h
     exact qG
    refine sM Z<|k3<|sK<|sU<|sM Z<|k3<|sK<|sU<|sM Z<|sK<|sK ?_
    refine sK<|sK<|sU<|sM Z<|k3<|sK<|sU<|sM Z<|k3<|sK<|sU ?_
    refine sM Z<|k3<|sK<|sU<|sA Z<|sN<|qR ?_
    cases oI h
    exact qG
   refine sA Z<|sN<|cF<|gU Z<|sF h ?_ ?_<;>intro h
   ·refine sA Z<|sN<|cT<|WC.jW (R0:=[(1,.cptr [.int .i64 a0.b8,.int .i64 a0.bd.a0,.int .i64 a0.bd.a1,.int .i64 a0.bd.a2,.int .i64 a0.aY.a0,.int .i64 a0.aY.a1,.int .i64 a0.aY.a2,.lst (a0.bN.map (PD.int .i64)),.int .i64 a0.bt,.int .i64 a0.bR]),(3,rB (a0.bR==(0:Int)))]) (B0:=[]) Z Z<|sF h ?_ ?_<;>intro h
    ·refine sM Z<|sV (.cptr [.int .i64 a0.bd.a0,.int .i64 a0.bd.a1,.int .i64 a0.bd.a2,.int .i64 a0.aY.a0,.int .i64 a0.aY.a1,.int .i64 a0.aY.a2,.lst (a0.bN.map (PD.int .i64)),.int .i64 a0.bt,.int .i64 a0.bR])<|sV (.d (.lst ([a0.bd.a0,a0.bd.a1,a0.bd.a2].map (PD.int .i64))))<|bE h fun x14 h14 h=>cD (iQ h14)<|sF h ?_ ?_<;>intro h
     ·refine sM Z<|sV (.cptr [.int .i64 a0.aY.a0,.int .i64 a0.aY.a1,.int .i64 a0.aY.a2,.lst (a0.bN.map (PD.int .i64)),.int .i64 a0.bt,.int .i64 a0.bR])<|sV (.d (.lst ([a0.aY.a0,a0.aY.a1,a0.aY.a2].map (PD.int .i64))))<|bE h fun x16 h16 h=>cD (iQ h16)<|sF h ?_ ?_<;>intro h
      ·refine sM Z<|sV (.cptr [.int .i64 a0.aY.a0,.int .i64 a0.aY.a1,.int .i64 a0.aY.a2,.lst (a0.bN.map (PD.int .i64)),.int .i64 a0.bt,.int .i64 a0.bR])<|sV (.cptr [.int .i64 a0.aY.a0,.int .i64 a0.aY.a1,.int .i64 a0.aY.a2,.lst (a0.bN.map (PD.int .i64)),.int .i64 a0.bt,.int .i64 a0.bR])<|sC Z<|sV (rB (a0.aY.a0 != (0:Int)))<|sV (rB (a0.aY.a0 != (0:Int)))<|sA Z<|sN<|qR ?_
       exact oI h▸qD
      refine sM Z<|k3<|sK<|sU<|sA Z<|sN<|qR ?_
      exact oI h▸qD
     refine sM Z<|k3<|sU<|sM Z<|k3<|sK<|sU<|sA Z<|sN<|qR ?_
     exact oI h▸qD
    refine sM Z<|k3<|sU<|sM Z<|k3<|sU<|sM Z<|k3<|sK ?_
    refine sU<|sA Z<|sN<|qR ?_
    exact oI h▸qD
   refine sA Z<|sN<|cF<|gU Z<|sF h ?_ ?_<;>intro h
   ·refine sA Z<|sN<|cT<|gU Z<|sV (.ptr 16 1)<|sV (.d (aS.pd a0.bd))<|sV (.d (aS.pd (aS.mk 0 0 0)))<|ir h (fun hb19 h=>?_) (fun hb19 h=>?_)
    ·refine WO.uA (eE a0.bd (aS.mk 0 0 0)) hb19 Z Z Z Z Z<|sM Z<|sV (.ptr 16 4)<|sV (.d (aS.pd a0.aY))<|sV (.d (aS.pd (aS.mk 0 0 0)))<|WO.bin (eE a0.aY (aS.mk 0 0 0)) Z Z Z Z Z<|sF h ?_ ?_<;>intro h
     ·refine sM Z<|sV (.ptr 16 7)<|sL Z<|sE (rI (a0.bN.length:Int)) (dX _ _)<|bE h fun x21 h21 h=>cD (bY h21)<|sF h ?_ ?_<;>intro h
      ·refine sM Z<|sV (.ptr 16 7)<|sL Z<|bE h fun x23 h23 h=>cD (iQ h23)<|sF h ?_ ?_<;>intro h
       ·refine sM Z<|sV (.ptr 16 7)<|sL Z<|bE h fun x25 h25 h=>cD (nf h25)<|sV (rB (x25 != (0:Int)))<|sF h ?_ ?_<;>intro h
        ·refine sM Z<|sV (.ptr 16 8)<|sL Z<|bE h fun x27 h27 h=>cD (bY h27)<|sF h ?_ ?_<;>intro h
         ·refine sM Z<|sV (.ptr 16 9)<|sL Z<|bE h fun x29 h29 h=>cD (bY h29)<|sV (rB x29)<|sA Z<|sN<|qR ?_
          cases oI h
          exact qG
         refine sM Z<|k3<|sU<|sA Z<|sN<|qR ?_
         cases oI h
         exact qG
        refine sM Z<|k3<|sU<|sM Z<|k3<|sU<|sA Z<|sN<|qR ?_
        cases oI h
        exact qG
       refine sM Z<|k3<|sK<|sU<|sM Z<|k3<|sU<|sM Z<|sK<|sK<|sK ?_
       refine sU<|sA Z<|sN<|qR ?_
       cases oI h
       exact qG
      refine sM Z<|k3<|sU<|sM Z<|k3<|sK<|sU<|sM Z<|sK<|sK<|sK ?_
      refine sU<|sM Z<|k3<|sU<|sA Z<|sN<|qR ?_
      cases oI h
      exact qG
     refine sM Z<|k3<|sK<|sU<|sM Z<|k3<|sU<|sM Z<|sK<|sK<|sK ?_
     refine sK<|sU<|sM Z<|k3<|sU<|sM Z<|k3<|sU<|sA Z<|sN<|qR ?_
     cases oI h
     exact qG
    refine WO.uA (eE a0.bd (aS.mk 0 0 0)) hb19 Z Z Z Z Z<|sM Z<|k3<|sK<|sU<|sM Z<|k3<|sK<|sU<|sM Z<|sK ?_
    refine sK<|sK<|sU<|sM Z<|k3<|sK<|sU<|sM Z<|k3<|sU<|sM Z ?_
    refine k3<|sU<|sA Z<|sN<|qR ?_
    cases oI h
    exact qG
   refine sA Z<|sN<|cF<|qK<|gU Z<|sU<|sN<|qR ?_
   cases oI h
   exact qG
  refine sM Z<|k3<|sU<|sA Z<|sN<|qS<|gU Z<|sV (.ptr 16 0)<|sL Z<|sN<|qB<|gU Z<|sF h ?_ ?_<;>intro h
  ·refine sA Z<|sN<|cT<|gU Z<|sM Z<|sM Z<|k3<|sK<|sU<|sM Z<|sK<|sK<|sK ?_
   refine sK<|sU<|sM Z<|k3<|sK<|sU<|sM Z<|k3<|sK<|sU<|sM Z ?_
   refine k3<|sK<|sU<|sM Z<|k3<|sK<|sU<|sA Z<|sN<|qR ?_
   cases oI h
   exact qG
  refine sA Z<|sN<|cF<|gU Z<|sF h ?_ ?_<;>intro h
  ·refine sA Z<|sN<|cT<|WC.jW (R0:=[(1,.cptr [.int .i64 a0.b8,.int .i64 a0.bd.a0,.int .i64 a0.bd.a1,.int .i64 a0.bd.a2,.int .i64 a0.aY.a0,.int .i64 a0.aY.a1,.int .i64 a0.aY.a2,.lst (a0.bN.map (PD.int .i64)),.int .i64 a0.bt,.int .i64 a0.bR]),(3,rB false)]) (B0:=[]) Z Z<|sM Z<|sM Z<|k3<|sU<|sM Z<|k3<|sU ?_
   refine sM Z<|k3<|sK<|sU<|sA Z<|sN<|qR ?_
   exact oI h▸qD
  refine sA Z<|sN<|cF<|gU Z<|sF h ?_ ?_<;>intro h
  ·refine sA Z<|sN<|cT<|gU Z<|sV (.ptr 16 1)<|sV (.d (aS.pd a0.bd))<|sV (.d (aS.pd (aS.mk 0 0 0)))<|ir h (fun hb33 h=>?_) (fun hb33 h=>?_)
   ·refine WO.uA (eE a0.bd (aS.mk 0 0 0)) hb33 Z Z Z Z Z<|sM Z<|sV (.ptr 16 4)<|sV (.d (aS.pd a0.aY))<|sV (.d (aS.pd (aS.mk 0 0 0)))<|WO.bin (eE a0.aY (aS.mk 0 0 0)) Z Z Z Z Z<|sF h ?_ ?_<;>intro h
    ·refine sM Z<|sV (.ptr 16 7)<|sL Z<|sE (rI (a0.bN.length:Int)) (dX _ _)<|bE h fun x35 h35 h=>cD (bY h35)<|sF h ?_ ?_<;>intro h
     ·refine sM Z<|sV (.ptr 16 7)<|sL Z<|bE h fun x37 h37 h=>cD (iQ h37)<|sF h ?_ ?_<;>intro h
      ·refine sM Z<|sV (.ptr 16 7)<|sL Z<|bE h fun x39 h39 h=>cD (nf h39)<|sV (rB (x39 != (0:Int)))<|sF h ?_ ?_<;>intro h
       ·refine sM Z<|sV (.ptr 16 8)<|sL Z<|bE h fun x41 h41 h=>cD (bY h41)<|sF h ?_ ?_<;>intro h
        ·refine sM Z<|sV (.ptr 16 9)<|sL Z<|bE h fun x43 h43 h=>cD (bY h43)<|sV (rB x43)<|sA Z<|sN<|qR ?_
         cases oI h
         exact qG
        refine sM Z<|k3<|sU<|sA Z<|sN<|qR ?_
        cases oI h
        exact qG
       refine sM Z<|k3<|sU<|sM Z<|k3<|sU<|sA Z<|sN<|qR ?_
       cases oI h
       exact qG
      refine sM Z<|k3<|sK<|sU<|sM Z<|k3<|sU<|sM Z<|sK<|sK<|sK ?_
      refine sU<|sA Z<|sN<|qR ?_
      cases oI h
      exact qG
     refine sM Z<|k3<|sU<|sM Z<|k3<|sK<|sU<|sM Z<|sK<|sK<|sK ?_
     refine sU<|sM Z<|k3<|sU<|sA Z<|sN<|qR ?_
     cases oI h
     exact qG
    refine sM Z<|k3<|sK<|sU<|sM Z<|k3<|sU<|sM Z<|sK<|sK<|sK ?_
    refine sK<|sU<|sM Z<|k3<|sU<|sM Z<|k3<|sU<|sA Z<|sN<|qR ?_
    cases oI h
    exact qG
   refine WO.uA (eE a0.bd (aS.mk 0 0 0)) hb33 Z Z Z Z Z<|sM Z<|k3<|sK<|sU<|sM Z<|k3<|sK<|sU<|sM Z<|sK ?_
   refine sK<|sK<|sU<|sM Z<|k3<|sK<|sU<|sM Z<|k3<|sU<|sM Z ?_
   refine k3<|sU<|sA Z<|sN<|qR ?_
   cases oI h
   exact qG
  refine sA Z<|sN<|cF<|qK<|gU Z<|sU<|sN<|qR ?_
  cases oI h
  exact qG
 refine sM Z<|k3<|sU<|sM Z<|k3<|sU<|sA Z<|sN<|qS<|gU Z<|sV (.ptr 16 0) ?_
 refine sL Z<|sN<|qB<|gU Z<|sF h ?_ ?_<;>intro h
 ·refine sA Z<|sN<|cT<|gU Z<|sM Z<|sM Z<|k3<|sK<|sU<|sM Z<|sK<|sK<|sK ?_
  refine sK<|sU<|sM Z<|k3<|sK<|sU<|sM Z<|k3<|sK<|sU<|sM Z ?_
  refine k3<|sK<|sU<|sM Z<|k3<|sK<|sU<|sA Z<|sN<|qR ?_
  cases oI h
  exact qG
 refine sA Z<|sN<|cF<|gU Z<|sF h ?_ ?_<;>intro h
 ·refine sA Z<|sN<|cT<|WC.jW (R0:=[(1,.cptr [.int .i64 a0.b8,.int .i64 a0.bd.a0,.int .i64 a0.bd.a1,.int .i64 a0.bd.a2,.int .i64 a0.aY.a0,.int .i64 a0.aY.a1,.int .i64 a0.aY.a2,.lst (a0.bN.map (PD.int .i64)),.int .i64 a0.bt,.int .i64 a0.bR]),(3,rB false)]) (B0:=[]) Z Z<|sM Z<|sM Z<|k3<|sU<|sM Z<|k3<|sU ?_
  refine sM Z<|k3<|sK<|sU<|sA Z<|sN<|qR ?_
  exact oI h▸qD
 refine sA Z<|sN<|cF<|gU Z<|sF h ?_ ?_<;>intro h
 ·refine sA Z<|sN<|cT<|gU Z<|sV (.ptr 16 1)<|sV (.d (aS.pd a0.bd))<|sV (.d (aS.pd (aS.mk 0 0 0)))<|ir h (fun hb47 h=>?_) (fun hb47 h=>?_)
  ·refine WO.uA (eE a0.bd (aS.mk 0 0 0)) hb47 Z Z Z Z Z<|sM Z<|sV (.ptr 16 4)<|sV (.d (aS.pd a0.aY))<|sV (.d (aS.pd (aS.mk 0 0 0)))<|WO.bin (eE a0.aY (aS.mk 0 0 0)) Z Z Z Z Z<|sF h ?_ ?_<;>intro h
   ·refine sM Z<|sV (.ptr 16 7)<|sL Z<|sE (rI (a0.bN.length:Int)) (dX _ _)<|bE h fun x49 h49 h=>cD (bY h49)<|sF h ?_ ?_<;>intro h
    ·refine sM Z<|sV (.ptr 16 7)<|sL Z<|bE h fun x51 h51 h=>cD (iQ h51)<|sF h ?_ ?_<;>intro h
     ·refine sM Z<|sV (.ptr 16 7)<|sL Z<|bE h fun x53 h53 h=>cD (nf h53)<|sV (rB (x53 != (0:Int)))<|sF h ?_ ?_<;>intro h
      ·refine sM Z<|sV (.ptr 16 8)<|sL Z<|bE h fun x55 h55 h=>cD (bY h55)<|sF h ?_ ?_<;>intro h
       ·refine sM Z<|sV (.ptr 16 9)<|sL Z<|bE h fun x57 h57 h=>cD (bY h57)<|sV (rB x57)<|sA Z<|sN<|qR ?_
        cases oI h
        exact qG
       refine sM Z<|k3<|sU<|sA Z<|sN<|qR ?_
       cases oI h
       exact qG
      refine sM Z<|k3<|sU<|sM Z<|k3<|sU<|sA Z<|sN<|qR ?_
      cases oI h
      exact qG
     refine sM Z<|k3<|sK<|sU<|sM Z<|k3<|sU<|sM Z<|sK<|sK<|sK ?_
     refine sU<|sA Z<|sN<|qR ?_
     cases oI h
     exact qG
    refine sM Z<|k3<|sU<|sM Z<|k3<|sK<|sU<|sM Z<|sK<|sK<|sK ?_
    refine sU<|sM Z<|k3<|sU<|sA Z<|sN<|qR ?_
    cases oI h
    exact qG
   refine sM Z<|k3<|sK<|sU<|sM Z<|k3<|sU<|sM Z<|sK<|sK<|sK ?_
   refine sK<|sU<|sM Z<|k3<|sU<|sM Z<|k3<|sU<|sA Z<|sN<|qR ?_
   cases oI h
   exact qG
  refine WO.uA (eE a0.bd (aS.mk 0 0 0)) hb47 Z Z Z Z Z<|sM Z<|k3<|sK<|sU<|sM Z<|k3<|sK<|sU<|sM Z<|sK ?_
  refine sK<|sK<|sU<|sM Z<|k3<|sK<|sU<|sM Z<|k3<|sU<|sM Z ?_
  refine k3<|sU<|sA Z<|sN<|qR ?_
  cases oI h
  exact qG
 refine sA Z<|sN<|cF<|qK<|gU Z<|sU<|sN<|qR ?_
 cases oI h
 exact qG
theorem ref18_Valid_ev{a0:aL}{r:Bool}(h:nE a0=some r):EvP prog az ext 299 [.d (aL.pd a0)] [] (rB r,[]):=by
 refine Ev.body Z Tryz.func299 Z Zk<|gU Z<|sB (.ptr 16 0) 16 (.var [rM aD.pd a0.aV])<|sU<|sN<|gU Z<|sV (rI 1)<|sN<|qS<|gU Z<|sV (r0)<|sN<|bE h fun o13 ho13 h=>WC.block (WC.loop (WL.fV ho13 (fun s R' B'=>dN prog 0 (A R' B') (az.at_ 299 0 3)=some (A [(1,.ptr 16 0),(3,rI s.1),(4,rI s.2)] [(16,.var [rM aD.pd a0.aV])])) (fun o e R' B'=>match o with| .inl y=>e= .exit 0∧dN prog 0 (A R' B') (az.at_ 299 0 11)=some (A [(1,.ptr 16 0)] [(16,.var [rM aD.pd a0.aV])])| .inr r=>e= .ret∧finish prog (az.own 299) Tryz.f299 0 (A R' B')=some (rB r,[])) Z ?_ ?_))
 ·rintro⟨s1,s2⟩ R' B' q3 hI h
  refine qS<|gS Z hI<|sM Z<|sV (.ptr 16 0)<|sL Z<|sE (rI (a0.aV.length:Int)) (dX _ _)<|sF h ?_ ?_<;>intro h
  ·refine sN<|cT<|qK<|qS<|qB<|qS<|gU Z<|sV (.ptr 16 0)<|sL Z<|sM Z<|bE h fun x5 h5 h=>eG h5 Z<|sV (.d (aD.pd x5))<|bE h fun x6 h6 h=>cD (qr h6) ?_
   refine sF h ?_ ?_<;>intro h
   ·refine sN<|cT<|gU Z<|sU<|sN<|qR ?_
    cases oI h
    exact⟨nofun,rfl,rfl⟩
   refine sN<|cF<|qK<|gU Z<|sV (.ptr 16 0)<|sL Z<|sM Z<|bE h fun x8 h8 h=>eG h8 Z<|sV (.cptr [.int .i64 x8.b8,.int .i64 x8.bd.a0,.int .i64 x8.bd.a1,.int .i64 x8.bd.a2,.int .i64 x8.aY.a0,.int .i64 x8.aY.a1,.int .i64 x8.aY.a2,.lst (x8.bN.map (PD.int .i64)),.int .i64 x8.bt,.int .i64 x8.bR])<|sC Z<|sF h ?_ ?_<;>intro h
   ·refine sN<|cT<|gU Z<|sM Z<|sV (.ptr 16 0)<|sL Z<|sM Z<|bE h fun x10 h10 h=>eG h10 Z<|sV (.cptr [.int .i64 x10.bt,.int .i64 x10.bR])<|sC Z<|sV (rI (rW (s1*x10.bt)))<|sA Z<|sN<|gU Z ?_
    refine sM Z<|sF h ?_ ?_<;>intro h
    ·refine sN<|cT<|gU Z<|sU<|sN<|qR ?_
     cases oI h
     exact⟨nofun,rfl,rfl⟩
    refine sN<|cF<|qK<|WC.region Z Z<|sM Z<|sV (rI (rW (s2+(1:Int))))<|sA Z<|sN ?_
    cases oI h
    exact⟨rfl,rfl⟩
   refine sN<|cF<|qK<|WC.region Z Z<|sM Z<|sV (rI (rW (s2+(1:Int))))<|sA Z<|sN ?_
   cases oI h
   exact⟨rfl,rfl⟩
  refine sN<|cF<|qX ?_
  cases oI h
  exact⟨nofun,rfl,rfl⟩
 intro e R' B' he hq
 rcases o13 with y14|r15
 ·obtain⟨rfl,hI⟩:=hq
  refine qE<|gS Z hI<|sV (.ptr 16 0)<|sL Z<|sE (rI (a0.aV.length:Int)) (dX _ _)<|sV (rB (decide ((a0.aV.length:Int)<=(8:Int))))<|sA Z<|sN<|qR ?_
  exact oI h▸qD
 obtain⟨rfl,hf⟩:=hq
 cases oI h
 exact hf
theorem qt{a0:ap}{r:Bool}(h:jl a0=some r):EvP prog az ext 219 [.d (ap.pd a0)] [] (rB r,[]):=by
 refine Ev.body Z Tryz.func219 Z Zk<|gU Z<|sB (.ptr 16 0) 16 (.var (ap.rc a0))<|sU<|sN<|gU Z<|sV (.ptr 16 4)<|sV (.d (aa.pd a0.aP))<|sB (.ptr 48 0) 48 (.var [r0,r0,r0])<|sS 48 (.var (aa.rc a0.aP))<|sN<|gU Z<|sV (.ptr 16 0)<|sL Z<|sF h ?_ ?_<;>intro h
 ·refine sM Z<|sV (.ptr 16 0)<|sL Z<|sV (.ptr 16 1)<|sL Z<|sV (rB (decide (a0.bj<a0.fTo)))<|sF h ?_ ?_<;>intro h
  ·refine sM Z<|sV (.ptr 16 1)<|sL Z<|sV (rB (decide (a0.fTo<=(9007199254740992:Int))))<|sF h ?_ ?_<;>intro h
   ·refine sM Z<|sV (.ptr 16 2)<|sV (.d (bi.pd a0.di))<|bE h fun x4 h4 h=>cD (ref02_Valid_ev h4)<|sF h ?_ ?_<;>intro h
    ·refine sM Z<|sV (.ptr 16 7)<|sV (.d (aL.pd a0.bu))<|bE h fun x6 h6 h=>cD (ref18_Valid_ev h6)<|sF h ?_ ?_<;>intro h
     ·refine sM Z<|sV (.ptr 48 0)<|sL Z<|bE h fun x8 h8 h=>cD (bY h8)<|sF h ?_ ?_<;>intro h
      ·refine sM Z<|sV (.ptr 48 1)<|sL Z<|bE h fun x10 h10 h=>cD (bY h10)<|sF h ?_ ?_<;>intro h
       ·refine sM Z<|sV (.ptr 48 2)<|sL Z<|bE h fun x12 h12 h=>cD (bY h12)<|sV (rB x12)<|sA Z<|sN<|qR ?_
        exact oI h▸qD
       refine sM Z<|k3<|sU<|sA Z<|sN<|qR ?_
       exact oI h▸qD
      refine sM Z<|k3<|sU<|sM Z<|k3<|sU<|sA Z<|sN<|qR ?_
      exact oI h▸qD
     refine sM Z<|k3<|sU<|sM Z<|k3<|sU<|sM Z<|k3<|sU ?_
     refine sA Z<|sN<|qR ?_
     exact oI h▸qD
    refine sM Z<|k3<|sU<|sM Z<|k3<|sU<|sM Z<|k3<|sU ?_
    refine sM Z<|k3<|sU<|sA Z<|sN<|qR ?_
    exact oI h▸qD
   refine sM Z<|k3<|sU<|sM Z<|k3<|sU<|sM Z<|k3<|sU ?_
   refine sM Z<|k3<|sU<|sM Z<|k3<|sU<|sA Z<|sN<|qR ?_
   exact oI h▸qD
  refine sM Z<|k3<|sU<|sM Z<|k3<|sU<|sM Z<|k3<|sU ?_
  refine sM Z<|k3<|sU<|sM Z<|k3<|sU<|sM Z<|k3<|sU ?_
  refine sA Z<|sN<|qR ?_
  exact oI h▸qD
 refine sM Z<|k3<|sK<|sK<|sU<|sM Z<|k3<|sU<|sM Z<|sK<|sK ?_
 refine sK<|sU<|sM Z<|k3<|sU<|sM Z<|k3<|sU<|sM Z<|sK<|sK ?_
 refine sK<|sU<|sM Z<|k3<|sU<|sA Z<|sN<|qR ?_
 exact oI h▸qD
theorem jj{a0:(List UInt8)}{a1:(List UInt8)}{r:Int}(h:fW a0 a1=some r):EvP prog az ext 240 [rS a0,rS a1] [] (rI r,[]):=by
 refine Ev.body Z Tryz.func240 Z Zk<|gU Z<|sV (r0)<|sN<|qS<|qB<|gU Z<|sM Z<|sM Z<|sF h ?_ ?_<;>intro h
 ·refine sA Z<|sN<|cT<|gU Z<|sV (rI (-1))<|sN<|qR ?_
  exact oI h▸qD
 refine sA Z<|sN<|cF<|gU Z<|sM Z<|sM Z<|sF h ?_ ?_<;>intro h
 ·refine sA Z<|sN<|cT<|gU Z<|sV (rI 1)<|sN<|qR ?_
  exact oI h▸qD
 refine sA Z<|sN<|cF<|qK<|gU Z<|sV (r0)<|sN<|qR ?_
 exact oI h▸qD
theorem ref03_Compare_ev{a0:au}{a1:au}{r:Int}(h:lK a0 a1=some r):EvP prog az ext 154 [.d (au.pd a0),.d (au.pd a1)] [] (rI r,[]):=by
 refine Ev.body Z Tryz.func154 Z Zk<|gU Z<|sB (.ptr 32 0) 32 (.var (au.rc a0))<|sB (.ptr 48 0) 48 (.var (au.rc a1))<|sV (r0)<|sN<|qS<|WC.cI Z Z<|sV (.ptr 32 0)<|sL Z<|sV (.ptr 48 0)<|sL Z<|bE h fun x1 h1 h=>cD (jj h1)<|sV (.ptr 32 1) ?_
 refine sL Z<|sV (.ptr 48 1)<|sL Z<|bE h fun x2 h2 h=>cD (jj h2)<|sV (.ptr 32 2)<|sL Z<|sV (.ptr 48 2)<|sL Z<|bE h fun x3 h3 h=>cD (jj h3)<|sV (.ptr 32 3)<|sL Z<|sV (.ptr 48 3)<|sL Z ?_
 refine bE h fun x4 h4 h=>cD (jj h4)<|sV (.d (A4_Int.pd (A4_Int.mk x1 x2 x3 x4)))<|sV (r0) ?_
 refine sN<|sO<|WC.block (WC.loop ?_)
 refine WL.round<|gU Z<|sT<|sN<|qS<|cT<|qK<|qS<|qB<|gU Z<|sV (rI x1)<|sA Z<|sN<|gU Z<|sM Z ?_
 refine sF h ?_ ?_<;>intro h
 ·refine sN<|cT<|gU Z<|sM Z<|sA Z<|sN<|qR ?_
  exact oI h▸qD
 refine sN<|cF<|qK<|WC.region Z Z<|sV (rI 1)<|sM Z<|sN<|WL.round<|gU Z<|sT<|sN<|qS<|cT<|qK<|qS ?_
 refine qB<|gU Z<|sV (rI x2)<|sA Z<|sN<|gU Z<|sM Z<|sF h ?_ ?_<;>intro h
 ·refine sN<|cT<|gU Z<|sM Z<|sA Z<|sN<|qR ?_
  exact oI h▸qD
 refine sN<|cF<|qK<|WC.region Z Z<|sV (rI 2)<|sM Z<|sN<|WL.round<|gU Z<|sT<|sN<|qS<|cT<|qK<|qS ?_
 refine qB<|gU Z<|sV (rI x3)<|sA Z<|sN<|gU Z<|sM Z<|sF h ?_ ?_<;>intro h
 ·refine sN<|cT<|gU Z<|sM Z<|sA Z<|sN<|qR ?_
  exact oI h▸qD
 refine sN<|cF<|qK<|WC.region Z Z<|sV (rI 3)<|sM Z<|sN<|WL.round<|gU Z<|sT<|sN<|qS<|cT<|qK<|qS ?_
 refine qB<|gU Z<|sV (rI x4)<|sA Z<|sN<|gU Z<|sM Z<|sF h ?_ ?_<;>intro h
 ·refine sN<|cT<|gU Z<|sM Z<|sA Z<|sN<|qR ?_
  exact oI h▸qD
 refine sN<|cF<|qK<|WC.region Z Z<|sV (rI 4)<|sM Z<|sN<|WL.round<|gU Z<|sU<|sN<|qS<|cF<|qX<|qE ?_
 refine gU Z<|sV (r0)<|sN<|qR ?_
 exact oI h▸qD
theorem ref19_Valid_ev{a0:al}{r:Bool}(h:lZ a0=some r):EvP prog az ext 141 [.d (al.pd a0)] [] (rB r,[]):=by
 refine Ev.body Z Tryz.func141 Z Zk<|gU Z<|sB (.ptr 16 0) 16 (.var [rM aq.pd a0.aJ])<|sU<|sN<|qS<|gU Z<|sV (r0)<|sN<|bE h fun o32 ho32 h=>WC.block (WC.loop (WL.fV ho32 (fun s R' B'=>dN prog 0 (A R' B') (az.at_ 141 0 2)=some (A [(1,.ptr 16 0),(3,rI s)] [(16,.var [rM aq.pd a0.aJ])])) (fun o e R' B'=>match o with| .inl y=>e= .exit 0∧dN prog 0 (A R' B') (az.at_ 141 0 12)=some (A [(1,.ptr 16 0)] [(16,.var [rM aq.pd a0.aJ])])| .inr r=>e= .ret∧finish prog (az.own 141) Tryz.f141 0 (A R' B')=some (rB r,[])) Z ?_ ?_))
 ·rintro s1 R' B' q2 hI h
  refine qS<|gS Z hI<|sM Z<|sV (.ptr 16 0)<|sL Z<|sE (rI (a0.aJ.length:Int)) (dX _ _)<|sF h ?_ ?_<;>intro h
  ·refine sN<|cT<|qK<|qS<|qB<|gU Z<|sV (.ptr 16 0)<|sL Z<|sM Z<|bE h fun x4 h4 h=>eG h4 Z<|sV (.d (aq.pd x4))<|sB (.ptr 64 0) 64 (.var [rS [],rS [],rS [],rS [],.dO])<|sS 64 (.var (aq.rc x4))<|sN ?_
   refine WC.join (α:=Unit) (fun x R' B'=>dN prog 0 (A R' B') (az.at_ 141 0 7)=some (A [(1,.ptr 16 0),(3,rI s1),(4,.ptr 64 0)] [(16,.var [rM aq.pd a0.aJ]),(64,.var (aq.rc x4))])) (fun x=>jO x4 s1=some q2) ?_ ?_
   ·refine WC.cI Z Z<|sV (.ptr 64 0)<|sV (.d (au.pd x4.aw))<|bE h fun x21 h21 h=>cD (nc h21)<|sF h ?_ ?_<;>intro h
    ·refine sM Z<|k3<|k3<|k3<|k3<|sK<|sK ?_
     refine sK<|sT<|sM Z<|k3<|sK<|sK<|sT ?_
     refine sN<|sO<|cT<|gU Z<|sU<|sN<|qR ?_
     cases oI h
     exact⟨nofun,rfl,rfl⟩
    refine sM Z<|sM Z<|sF h ?_ ?_<;>intro h
    ·refine sM Z<|sV (.ptr 16 0)<|sL Z<|sM Z<|sV (rI (rW (s1-(1:Int))))<|bE h fun x24 h24 h=>eG h24 Z<|sV (.cptr [.str x24.aw.ba,.str x24.aw.aN,.str x24.aw.av,.str x24.aw.bc,.lst (x24.aT.map ap.pd)])<|sV (.d (au.pd x24.aw))<|sV (.ptr 64 0)<|sV (.d (au.pd x4.aw))<|bE h fun x25 h25 h=>cD (ref03_Compare_ev h25)<|sV (rB (decide (x25>=(0:Int))))<|sV (rB (decide (x25>=(0:Int)))) ?_
     refine sF h ?_ ?_<;>intro h
     ·refine sM Z<|k3<|sK<|sK<|sT ?_
      refine sN<|sO<|cT<|gU Z<|sU<|sN<|qR ?_
      cases oI h
      exact⟨nofun,rfl,rfl⟩
     refine sM Z<|sV (.ptr 64 4)<|sL Z<|sE (rI (x4.aT.length:Int)) (dX _ _)<|bE h fun x27 h27 h=>cD (bY h27)<|sV (rB (!x27))<|sF h ?_ ?_<;>intro h
     ·refine sN<|sO<|cT<|gU Z<|sU<|sN<|qR ?_
      cases oI h
      exact⟨nofun,rfl,rfl⟩
     exact sN<|sO<|cF<|qK<|⟨(),rfl,h⟩
    refine sM Z<|k3<|k3<|k3<|sK<|sK<|sU<|sU<|sM Z ?_
    refine sV (.ptr 64 4)<|sL Z<|sE (rI (x4.aT.length:Int)) (dX _ _)<|bE h fun x29 h29 h=>cD (bY h29)<|sV (rB (!x29))<|sF h ?_ ?_<;>intro h
    ·refine sN<|sO<|cT<|gU Z<|sU<|sN<|qR ?_
     cases oI h
     exact⟨nofun,rfl,rfl⟩
    exact sN<|sO<|cF<|qK<|⟨(),rfl,h⟩
   rintro⟨⟩ R' B' hI h
   refine gS Z hI<|sV (r0)<|sN<|bE h fun o17 ho17 h=>WC.block (WC.loop (WL.fV ho17 (fun s R' B'=>dN prog 0 (A R' B') (az.at_ 141 0 8)=some (A [(1,.ptr 16 0),(3,rI s1),(4,.ptr 64 0),(5,rI s)] [(16,.var [rM aq.pd a0.aJ]),(64,.var (aq.rc x4))])) (fun o e R' B'=>match o with| .inl y=>e= .exit 2∧dN prog 0 (A R' B') (az.at_ 141 0 3)=some (A [(1,.ptr 16 0),(3,rI y)] [(16,.var [rM aq.pd a0.aJ])])| .inr r=>e= .ret∧finish prog (az.own 141) Tryz.f141 0 (A R' B')=some (rB r,[])) Z ?_ ?_))
   ·rintro s5 R' B' q7 hI h
    refine qS<|gS Z hI<|sM Z<|sV (.ptr 64 4)<|sL Z<|sE (rI (x4.aT.length:Int)) (dX _ _)<|sF h ?_ ?_<;>intro h
    ·refine sN<|cT<|qK<|qS<|qB<|WC.cI Z Z<|sV (.ptr 64 4)<|sL Z<|sM Z<|bE h fun x9 h9 h=>eG h9 Z<|sV (.d (ap.pd x9))<|bE h fun x10 h10 h=>cD (qt h10)<|sF h ?_ ?_<;>intro h
     ·refine sM Z<|k3<|k3<|k3<|k3<|sK<|sK ?_
      refine k3<|sK<|sT ?_
      refine sN<|sO<|cT<|gU Z<|sU<|sN<|qR ?_
      cases oI h
      exact⟨nofun,rfl,rfl⟩
     refine sM Z<|sM Z<|sF h ?_ ?_<;>intro h
     ·refine sM Z<|sV (.ptr 64 4)<|sL Z<|sM Z<|bE h fun x13 h13 h=>eG h13 Z<|sV (.cptr [.int .i64 x13.bj,.int .i64 x13.fTo,.int .i64 x13.di.bd,.int .i64 x13.di.aY,.int .i64 x13.aP.fX,.int .i64 x13.aP.fY,.int .i64 x13.aP.fZ,.lst (x13.bu.aV.map aD.pd)])<|sC Z<|sV (.ptr 64 4)<|sL Z<|sM Z<|sV (rI (rW (s5-(1:Int))))<|bE h fun x14 h14 h=>eG h14 Z<|sV (.cptr [.int .i64 x14.fTo,.int .i64 x14.di.bd,.int .i64 x14.di.aY,.int .i64 x14.aP.fX,.int .i64 x14.aP.fY,.int .i64 x14.aP.fZ,.lst (x14.bu.aV.map aD.pd)]) ?_
      refine sC Z<|sV (rB (decide (x13.bj<x14.fTo)))<|sV (rB (decide (x13.bj<x14.fTo)))<|sF h ?_ ?_<;>intro h
      ·refine sN<|sO<|cT<|gU Z<|sU<|sN<|qR ?_
       cases oI h
       exact⟨nofun,rfl,rfl⟩
      refine sN<|sO<|cF<|qK<|WC.region Z Z<|sM Z<|sV (rI (rW (s5+(1:Int))))<|sA Z<|sN ?_
      cases oI h
      exact⟨rfl,rfl⟩
     refine sM Z<|k3<|k3<|k3<|k3<|sK<|sK ?_
     refine sU<|sU ?_
     refine sN<|sO<|cF<|qK<|WC.region Z Z<|sM Z<|sV (rI (rW (s5+(1:Int))))<|sA Z<|sN ?_
     cases oI h
     exact⟨rfl,rfl⟩
    refine sN<|cF<|qX ?_
    cases oI h
    exact⟨nofun,rfl,rfl⟩
   intro e R' B' he hq
   rcases o17 with y18|r19
   ·obtain⟨rfl,hI⟩:=hq
    refine qE<|WC.region hI Z<|sM Z<|sV (rI (rW (y18+(1:Int))))<|sA Z<|sN ?_
    cases oI h
    exact⟨rfl,rfl⟩
   obtain⟨rfl,hf⟩:=hq
   cases oI h
   exact⟨nofun,rfl,hf⟩
  refine sN<|cF<|qX ?_
  cases oI h
  exact⟨nofun,rfl,rfl⟩
 intro e R' B' he hq
 rcases o32 with y33|r34
 ·obtain⟨rfl,hI⟩:=hq
  refine qE<|gS Z hI<|sV (.ptr 16 0)<|sL Z<|sE (rI (a0.aJ.length:Int)) (dX _ _)<|sV (rB (decide ((a0.aJ.length:Int)<=(128:Int))))<|sA Z<|sN<|qR ?_
  exact oI h▸qD
 obtain⟨rfl,hf⟩:=hq
 cases oI h
 exact hf
theorem ref18_Copy_ev{a0:aL}{r:aL}(h:oQ a0=some r):EvP prog az ext 346 [.d (aL.pd a0)] [] (.d (aL.pd r),[]):=by
 refine Ev.body Z Tryz.func346 Z Zk<|gU Z<|sB (.ptr 16 0) 16 (.var [rM aD.pd a0.aV])<|sB (.ptr 32 0) 32 (.var [.dO])<|sN<|gU Z<|sB (.ptr 48 0) 48 (.var [.dO])<|sN<|qS<|gU Z<|sV (r0)<|sN<|bE h fun o10 ho10 h=>WC.block (WC.loop (WL.fV ho10 (fun s R' B'=>dN prog 0 (A R' B') (az.at_ 346 0 3)=some (A [(1,.ptr 16 0),(2,.ptr 32 0),(3,.ptr 48 0),(4,rI s.1)] [(16,.var [rM aD.pd a0.aV]),(32,.var [.dO]),(48,.var [.ref 416 0]),(416,.arr 0 184 (s.2.map aD.pd))])) (fun o e R' B'=>e= .exit 0∧dN prog 0 (A R' B') (az.at_ 346 0 8)=some (A [(2,.ptr 32 0),(3,.ptr 48 0)] [(32,.var [.dO]),(48,.var [.ref 416 0]),(416,.arr 0 184 (o.map aD.pd))])) Z ?_ ?_))
 ·rintro⟨s1,s2⟩ R' B' q4 hI h
  refine qS<|gS Z hI<|sM Z<|sV (.ptr 16 0)<|sL Z<|sE (rI (a0.aV.length:Int)) (dX _ _)<|sF h ?_ ?_<;>intro h
  ·refine sN<|cT<|qK<|qS<|qB<|gU Z<|sV (.ptr 16 0)<|sL Z<|sM Z<|bE h fun x6 h6 h=>eG h6 Z<|sV (.d (aD.pd x6))<|sB (.ptr 80 0) 80 (.var [r0,r0,r0,r0,r0,r0,r0,.dO,r0,r0])<|sH 80 (.var (aD.rc x6))<|sN ?_
   refine gU Z<|sV (.ptr 80 7)<|sL Z<|bE h fun x7 h7 h=>WO.appN h7 (fun _=>Z) Z Z Z Z Z Z Z Z Z Z Z Z Z Z<|sV (.ptr 80 7)<|sS 80 (.var [rI x6.b8,rI x6.bd.a0,rI x6.bd.a1,rI x6.bd.a2,rI x6.aY.a0,rI x6.aY.a1,rI x6.aY.a2,.ref 320 0,rI x6.bt,rI x6.bR])<|sN<|WC.region Z Z<|sV (.ptr 48 0)<|sL Z<|sV (.agg [rI x6.b8,rI x6.bd.a0,rI x6.bd.a1,rI x6.bd.a2,rI x6.aY.a0,rI x6.aY.a1,rI x6.aY.a2,.ref 320 0,rI x6.bt,rI x6.bR])<|sB (.d (.lst [aD.pd (aD.mk x6.b8 x6.bd x6.aY x7 x6.bt x6.bR)])) 320 .dead<|bE h fun x8 h8 h=>aR h8 (fun _=>Z) Z ?_
   refine sV (.ptr 48 0)<|sS 48 (.var [.ref 416 1])<|sN<|WC.region Z Z<|sM Z<|sV (rI (rW (s1+(1:Int))))<|sA Z<|sN ?_
   cases oI h
   exact⟨rfl,rfl⟩
  refine sN<|cF<|qX ?_
  cases oI h
  exact⟨nofun,rfl,rfl⟩
 intro e R' B' he hq
 obtain⟨rfl,hI⟩:=hq
 refine qE<|gS Z hI<|sV (.agg [.ref 416 0])<|sS 32 (.var [.ref 416 0])<|sN<|qR ?_
 exact oI h▸qD
theorem qY{a0:ap}{r:ap}(h:jN a0=some r):EvP prog az ext 300 [.d (ap.pd a0)] [] (.d (ap.pd r),[]):=by
 refine Ev.body Z Tryz.func300 Z Zk<|gU Z<|sB (.ptr 16 0) 16 (.var (ap.rc a0))<|sB (.ptr 32 0) 32 (.var zZ3)<|sN<|gU Z<|sV (.ptr 16 7)<|sV (.d (aL.pd a0.bu))<|bE h fun x1 h1 h=>cD (ref18_Copy_ev h1)<|sV (.ptr 16 7)<|sS 16 (.var (rI a0.bj::rI a0.fTo::rI a0.di.bd::rI a0.di.aY::aa.rc a0.aP++[rM aD.pd x1.aV]))<|sN<|gU Z<|sV (.d (.agg [.int .i64 a0.bj,.int .i64 a0.fTo,.int .i64 a0.di.bd,.int .i64 a0.di.aY,.int .i64 a0.aP.fX,.int .i64 a0.aP.fY,.int .i64 a0.aP.fZ,.lst (x1.aV.map aD.pd)])) ?_
 refine sH 32 (.var (rI a0.bj::rI a0.fTo::rI a0.di.bd::rI a0.di.aY::aa.rc a0.aP++[rM aD.pd x1.aV]))<|sN<|qR ?_
 cases oI h
 exact qG
theorem ref19_Copy_ev{a0:al}{r:al}(h:ng a0=some r):EvP prog az ext 220 [.d (al.pd a0)] [] (.d (al.pd r),[]):=by
 refine Ev.body Z Tryz.func220 Z Zk<|gU Z<|sB (.ptr 16 0) 16 (.var [rM aq.pd a0.aJ])<|sB (.ptr 32 0) 32 (.var [.dO])<|sN<|gU Z<|sB (.ptr 48 0) 48 (.var [.dO])<|sN<|qS<|gU Z<|sV (r0)<|sN<|bE h fun o23 ho23 h=>WC.block (WC.loop (WL.fV ho23 (fun s R' B'=>dN prog 0 (A R' B') (az.at_ 220 0 3)=some (A [(1,.ptr 16 0),(2,.ptr 32 0),(3,.ptr 48 0),(4,rI s.1)] [(16,.var [rM aq.pd a0.aJ]),(32,.var [.dO]),(48,.var [.ref 816 0]),(816,.arr 0 116 (s.2.map aq.pd))])) (fun o e R' B'=>e= .exit 0∧dN prog 0 (A R' B') (az.at_ 220 0 11)=some (A [(2,.ptr 32 0),(3,.ptr 48 0)] [(32,.var [.dO]),(48,.var [.ref 816 0]),(816,.arr 0 116 (o.map aq.pd))])) Z ?_ ?_))
 ·rintro⟨s1,s2⟩ R' B' q4 hI h
  refine qS<|gS Z hI<|sM Z<|sV (.ptr 16 0)<|sL Z<|sE (rI (a0.aJ.length:Int)) (dX _ _)<|sF h ?_ ?_<;>intro h
  ·refine sN<|cT<|qK<|qS<|qB<|gU Z<|sV (.ptr 16 0)<|sL Z<|sM Z<|bE h fun x6 h6 h=>eG h6 Z<|sV (.cptr [.str x6.aw.ba,.str x6.aw.aN,.str x6.aw.av,.str x6.aw.bc,.lst (x6.aT.map ap.pd)])<|sV (.d (au.pd x6.aw))<|sV (.agg (au.rc x6.aw++[.dO]))<|sB (.ptr 80 0) 80 (.var [rS [],rS [],rS [],rS [],.dO]) ?_
   refine sS 80 (.var (au.rc x6.aw++[.dO]))<|sN<|qS<|gU Z<|sV (r0)<|sN<|bE h fun o20 ho20 h=>WC.block (WC.loop (WL.fV ho20 (fun s R' B'=>dN prog 0 (A R' B') (az.at_ 220 0 7)=some (A [(1,.ptr 16 0),(2,.ptr 32 0),(3,.ptr 48 0),(4,rI s1),(5,.ptr 80 0),(6,rI s.1)] [(16,.var [rM aq.pd a0.aJ]),(32,.var [.dO]),(48,.var [.ref 816 0]),(80,.var (au.rc x6.aw++[.ref 720 0])),(720,.arr 0 113 (s.2.map ap.pd)),(816,.arr 0 116 (s2.map aq.pd))])) (fun o e R' B'=>e= .exit 2∧dN prog 0 (A R' B') (az.at_ 220 0 10)=some (A [(1,.ptr 16 0),(2,.ptr 32 0),(3,.ptr 48 0),(4,rI o.1),(5,.ptr 80 0)] [(16,.var [rM aq.pd a0.aJ]),(32,.var [.dO]),(48,.var [.ref 816 0]),(80,.var (au.rc x6.aw++[.ref 720 0])),(720,.arr 0 113 (o.2.2.map ap.pd)),(816,.arr 0 116 (o.2.1.map aq.pd))])) Z ?_ ?_))
   ·rintro⟨s7,s8⟩ R' B' q12 hI h
    unfold gq at h
    refine qS<|gS Z hI<|sM Z<|sV (.ptr 16 0)<|sL Z<|sM Z<|bE h fun x13 h13 h=>eG h13 Z<|sV (.cptr [.lst (x13.aT.map ap.pd)])<|sC Z<|sE (rI (x13.aT.length:Int)) (dX _ _)<|sF h ?_ ?_<;>intro h
    ·refine sN<|cT<|qK<|qS<|qB<|WC.kT Z Z<|sV (.ptr 80 4)<|sL Z<|sV (.ptr 16 0)<|sL Z<|sM Z<|bE h fun x15 h15 h=>eG h15 Z<|sV (.cptr [.lst (x15.aT.map ap.pd)])<|sC Z ?_
     refine sM Z<|bE h fun x16 h16 h=>eG h16 Z<|sV (.d (ap.pd x16))<|bE h fun x17 h17 h=>cD (qY h17)<|sG (.d (.lst ([x17].map ap.pd)))<|bE h fun x18 h18 h=>aR h18 (fun _=>Z) Z<|sV (.ptr 80 4)<|sS 80 (.var (au.rc x6.aw++[.ref 720 1])) ?_
     refine sN<|sO<|WC.region Z Z<|sM Z<|sV (rI (rW (s7+(1:Int))))<|sA Z<|sN ?_
     cases oI h
     exact⟨rfl,rfl⟩
    refine sN<|cF<|qX ?_
    cases oI h
    exact⟨nofun,rfl,rfl⟩
   intro e R' B' he hq
   obtain⟨rfl,hI⟩:=hq
   refine qE<|WC.region hI Z<|sV (.ptr 48 0)<|sL Z<|sV (.agg (au.rc x6.aw++[.ref 720 0]))<|sB (.d (.lst [aq.pd (aq.mk x6.aw o20.2.2)])) 720 .dead<|bE h fun x21 h21 h=>aR h21 (fun _=>Z) Z<|sV (.ptr 48 0)<|sS 48 (.var [.ref 816 1])<|sN<|WC.region Z Z<|sM Z<|sV (rI (rW (o20.1+(1:Int))))<|sA Z ?_
   refine sN ?_
   cases oI h
   exact⟨rfl,rfl⟩
  refine sN<|cF<|qX ?_
  cases oI h
  exact⟨nofun,rfl,rfl⟩
 intro e R' B' he hq
 obtain⟨rfl,hI⟩:=hq
 refine qE<|gS Z hI<|sV (.agg [.ref 816 0])<|sS 32 (.var [.ref 816 0])<|sN<|qR ?_
 exact oI h▸qD
theorem ref19_Find_ev{a0:al}{a1:au}{r:aq×Bool}(h:oR a0 a1=some r):EvP prog az ext 142 [.d (al.pd a0),.d (au.pd a1)] [] (.tup [.d (aq.pd r.1),rB r.2],[]):=by
 refine Ev.body Z Tryz.func142 Z Zk<|gU Z<|sB (.ptr 32 0) 32 (.var [rM aq.pd a0.aJ])<|sB (.ptr 48 0) 48 (.var (au.rc a1))<|sB (.ptr 64 0) 64 (.var [rS [],rS [],rS [],rS [],.dO])<|sU<|sN<|qS<|gU Z<|sV (r0)<|sN<|bE h fun o10 ho10 h=>WC.block (WC.loop (WL.fV ho10 (fun s R' B'=>dN prog 0 (A R' B') (az.at_ 142 0 2)=some (A [(2,.ptr 32 0),(3,.ptr 48 0),(4,.ptr 64 0),(6,rI s)] [(32,.var [rM aq.pd a0.aJ]),(48,.var (au.rc a1)),(64,.var [rS [],rS [],rS [],rS [],.dO])])) (fun o e R' B'=>match o with| .inl y=>e= .exit 0∧dN prog 0 (A R' B') (az.at_ 142 0 6)=some (A [(4,.ptr 64 0)] [(64,.var [rS [],rS [],rS [],rS [],.dO])])| .inr r=>e= .ret∧finish prog (az.own 142) Tryz.f142 0 (A R' B')=some (.tup [.d (aq.pd r.1),rB r.2],[])) Z ?_ ?_))
 ·rintro s1 R' B' q2 hI h
  refine qS<|gS Z hI<|sM Z<|sV (.ptr 32 0)<|sL Z<|sE (rI (a0.aJ.length:Int)) (dX _ _)<|sF h ?_ ?_<;>intro h
  ·refine sN<|cT<|qK<|qS<|qB<|WC.cI Z Z<|sV (.ptr 32 0)<|sL Z<|sM Z<|bE h fun x4 h4 h=>eG h4 Z<|sV (.cptr [.str x4.aw.ba,.str x4.aw.aN,.str x4.aw.av,.str x4.aw.bc,.lst (x4.aT.map ap.pd)])<|sV (.d (au.pd x4.aw))<|sV (.d (au.pd a1))<|ir h (fun hb5 h=>?_) (fun hb5 h=>?_)
   ·refine WO.uA (eqE_64 x4.aw a1) hb5 Z Z Z Z Z ?_
    refine sN<|sO<|cT<|gU Z<|sV (.ptr 32 0)<|sL Z<|sM Z<|sM Z<|sV (rI (rW (s1+(1:Int))))<|bE h fun x6 h6 h=>WO.cutL (sz:=5) (g:=aq.pd) h6 (fun _=>Z) Z Z Z Z Z Z Z Z Z Z Z<|sV (.d (al.pd (al.mk x6)))<|bE h fun x7 h7 h=>cD (ref19_Copy_ev h7)<|sV (rM aq.pd x7.aJ)<|bE h fun x8 h8 h=>?_
    refine eG h8 Z<|sV (.d (aq.pd x8))<|sS 64 (.var (aq.rc x8))<|sT<|sN<|qR ?_
    cases oI h
    exact⟨nofun,rfl,rfl⟩
   refine WO.uA (eqE_64 x4.aw a1) hb5 Z Z Z Z Z ?_
   refine sN<|sO<|cF<|qK<|WC.region Z Z<|sM Z<|sV (rI (rW (s1+(1:Int))))<|sA Z<|sN ?_
   cases oI h
   exact⟨rfl,rfl⟩
  refine sN<|cF<|qX ?_
  cases oI h
  exact⟨nofun,rfl,rfl⟩
 intro e R' B' he hq
 rcases o10 with y11|r12
 ·obtain⟨rfl,hI⟩:=hq
  refine qE<|gS Z hI<|sV (.agg [rS [],rS [],rS [],rS [],.dO])<|sS 64 (.var [rS [],rS [],rS [],rS [],.dO])<|sU<|sN<|qR ?_
  exact oI h▸qD
 obtain⟨rfl,hf⟩:=hq
 cases oI h
 exact hf
theorem ref19_At_ev{a0:al}{a1:au}{a2:Int}{r:ap×Int}(h:oi a0 a1 a2=some r):EvP prog az ext 76 [.d (al.pd a0),.d (au.pd a1),rI a2] [] (.tup [.d (ap.pd r.1),rI r.2],[]):=by
 refine Ev.body Z Tryz.func76 Z Zk<|gU Z<|sB (.ptr 48 0) 48 (.var [rM aq.pd a0.aJ])<|sB (.ptr 64 0) 64 (.var (au.rc a1))<|sB (.ptr 96 0) 96 (.var zZ3)<|sV (r0)<|sN<|qS<|gU Z<|sV (.d (al.pd a0))<|bE h fun x1 h1 h=>cD (ref19_Valid_ev h1)<|sF h ?_ ?_<;>intro h
 ·refine sN<|cT<|gU Z<|sG (.agg zZ3)<|sH 96 (.var zZ3)<|sV (rI 1)<|sN<|qR ?_
  cases oI h
  exact qG
 refine sN<|cF<|qK<|gU Z<|sV (.d (al.pd a0))<|sV (.d (au.pd a1))<|bE h fun x3 h3 h=>cR (.tup [.d (aq.pd x3.1),rB x3.2]) [] (ref19_Find_ev h3)<|sM Z<|sV (.d (aq.pd x3.1))<|sV (rB x3.2)<|sB (.ptr 128 0) 128 (.var [rS [],rS [],rS [],rS [],.dO])<|sS 128 (.var (aq.rc x3.1))<|sA Z<|sN ?_
 refine qS<|gU Z<|sV (r0)<|sN<|bE h fun o13 ho13 h=>WC.block (WC.loop (WL.fV ho13 (fun s R' B'=>dN prog 0 (A R' B') (az.at_ 76 0 5)=some (A [(2,rI a2),(6,.ptr 96 0),(8,.ptr 128 0),(10,rI s)] [(96,.var zZ3),(128,.var (aq.rc x3.1))])) (fun o e R' B'=>match o with| .inl y=>e= .exit 0∧dN prog 0 (A R' B') (az.at_ 76 0 9)=some (A [(6,.ptr 96 0)] [(96,.var zZ3)])| .inr r=>e= .ret∧finish prog (az.own 76) Tryz.f76 0 (A R' B')=some (.tup [.d (ap.pd r.1),rI r.2],[])) Z ?_ ?_))
 ·rintro s4 R' B' q5 hI h
  refine qS<|gS Z hI<|sM Z<|sV (.ptr 128 4)<|sL Z<|sE (rI (x3.1.aT.length:Int)) (dX _ _)<|sF h ?_ ?_<;>intro h
  ·refine sN<|cT<|qK<|qS<|qB<|gU Z<|sV (.ptr 128 4)<|sL Z<|sM Z<|bE h fun x7 h7 h=>eG h7 Z<|sV (.cptr [.int .i64 x7.bj,.int .i64 x7.fTo,.int .i64 x7.di.bd,.int .i64 x7.di.aY,.int .i64 x7.aP.fX,.int .i64 x7.aP.fY,.int .i64 x7.aP.fZ,.lst (x7.bu.aV.map aD.pd)])<|sC Z<|sM Z<|sF h ?_ ?_<;>intro h
   ·refine sM Z<|sM Z<|sV (.ptr 128 4)<|sL Z<|sM Z<|bE h fun x9 h9 h=>eG h9 Z<|sV (.cptr [.int .i64 x9.fTo,.int .i64 x9.di.bd,.int .i64 x9.di.aY,.int .i64 x9.aP.fX,.int .i64 x9.aP.fY,.int .i64 x9.aP.fZ,.lst (x9.bu.aV.map aD.pd)])<|sC Z<|sV (rB (decide (a2<x9.fTo)))<|sF h ?_ ?_<;>intro h
    ·refine sN<|cT<|gU Z<|sV (.ptr 128 4)<|sL Z<|sM Z<|bE h fun x11 h11 h=>eG h11 Z<|sV (.d (ap.pd x11))<|sH 96 (.var (ap.rc x11))<|sV (r0)<|sN<|qR ?_
     cases oI h
     exact⟨nofun,rfl,rfl⟩
    refine sN<|cF<|qK<|WC.region Z Z<|sM Z<|sV (rI (rW (s4+(1:Int))))<|sA Z<|sN ?_
    cases oI h
    exact⟨rfl,rfl⟩
   refine sM Z<|k3<|k3<|sK<|sK<|sU<|sN<|cF<|qK<|WC.region Z Z<|sM Z ?_
   refine sV (rI (rW (s4+(1:Int))))<|sA Z<|sN ?_
   cases oI h
   exact⟨rfl,rfl⟩
  refine sN<|cF<|qX ?_
  cases oI h
  exact⟨nofun,rfl,rfl⟩
 intro e R' B' he hq
 rcases o13 with y14|r15
 ·obtain⟨rfl,hI⟩:=hq
  refine qE<|gS Z hI<|sG (.agg zZ3)<|sH 96 (.var zZ3)<|sV (rI 6)<|sN<|qR ?_
  cases oI h
  exact qG
 obtain⟨rfl,hf⟩:=hq
 cases oI h
 exact hf
theorem nX{a0:Int}{a1:Int}{a2:Int}{r:Int}(h:lx a0 a1 a2=some r):EvP prog az ext 227 [rI a0,rI a1,rI a2] [] (rI r,[]):=by
 refine Ev.body Z Tryz.func227 Z Zk<|gU Z<|sV (r0)<|sN<|gU Z<|sM Z<|sM Z<|sV (rI (rW (a0-a2)))<|sM Z<|sM Z<|sV (rI (rW (a2-a1)))<|sV (rI (if(rW (a2-a1))>(if(rW (a0-a2))>(0:Int)then(rW (a0-a2))else(0:Int))then(rW (a2-a1))else(if(rW (a0-a2))>(0:Int)then(rW (a0-a2))else(0:Int))))<|sA Z<|sN<|qR ?_
 exact oI h▸qD
theorem fy{a0:Int}{r:Int}(h:dL a0=some r):EvP prog az ext 226 [rI a0] [] (rI r,[]):=by
 refine Ev.body Z Tryz.func226 Z Zk<|gU Z<|sV (r0)<|sN<|gU Z<|sM Z<|sM Z<|sV (rI (rW (a0*a0)))<|sA Z<|sN<|qR ?_
 exact oI h▸qD
theorem ref24_Near_ev{a0:ag}{a1:aa}{r:Int}(h:oS a0 a1=some r):EvP prog az ext 147 [.d (ag.pd a0),.d (aa.pd a1)] [] (rI r,[]):=by
 refine Ev.body Z Tryz.func147 Z Zk<|gU Z<|sB (.ptr 32 0) 32 (.var (ag.rc a0))<|sB (.ptr 48 0) 48 (.var (aa.rc a1))<|sV (r0)<|sN<|qS<|gU Z<|sV (.d (ag.pd a0))<|bE h fun x1 h1 h=>cD (fM h1)<|sF h ?_ ?_<;>intro h
 ·refine sM Z<|k3<|sT<|sN<|cT<|gU Z<|sV (r0)<|sN<|qR ?_
  exact oI h▸qD
 refine sM Z<|sV (.d (aa.pd a1))<|bE h fun x3 h3 h=>cD (gr h3)<|sV (rB (!x3))<|sF h ?_ ?_<;>intro h
 ·refine sN<|cT<|gU Z<|sV (r0)<|sN<|qR ?_
  exact oI h▸qD
 refine sN<|cF<|qK<|WC.cI Z Z<|sV (.ptr 32 0)<|sV (.ptr 32 0)<|sL Z<|sV (.ptr 32 3)<|sV (.ptr 32 3)<|sL Z<|sV (.ptr 48 0)<|sL Z<|bE h fun x5 h5 h=>cD (nX h5)<|bE h fun x6 h6 h=>?_
 refine cD (fy h6)<|sV (.ptr 32 0)<|sV (.ptr 32 1)<|sL Z<|sV (.ptr 32 3)<|sV (.ptr 32 4)<|sL Z<|sV (.ptr 48 1)<|sL Z<|bE h fun x7 h7 h=>cD (nX h7)<|bE h fun x8 h8 h=>cD (fy h8)<|sV (rI (rW (x6+x8)))<|sV (.ptr 32 0) ?_
 refine sV (.ptr 32 2)<|sL Z<|sV (.ptr 32 3)<|sV (.ptr 32 5)<|sL Z<|sV (.ptr 48 2)<|sL Z<|bE h fun x9 h9 h=>cD (nX h9)<|bE h fun x10 h10 h=>cD (fy h10)<|sV (rI (rW ((rW (x6+x8))+x10)))<|sA Z ?_
 refine sN<|sO<|qR ?_
 exact oI h▸qD
theorem oT{a0:Int}{a1:Int}{a2:Int}{r:Int}(h:mR a0 a1 a2=some r):EvP prog az ext 228 [rI a0,rI a1,rI a2] [] (rI r,[]):=by
 refine Ev.body Z Tryz.func228 Z Zk<|gU Z<|sV (r0)<|sN<|gU Z<|sM Z<|sM Z<|sV (rI (rW (a2-a0)))<|sM Z<|sM Z<|sV (rI (rW (a1-a2)))<|sV (rI (if(rW (a1-a2))>(rW (a2-a0))then(rW (a1-a2))else(rW (a2-a0))))<|sA Z<|sN<|qR ?_
 exact oI h▸qD
theorem ref24_Far_ev{a0:ag}{a1:aa}{r:Int}(h:qe a0 a1=some r):EvP prog az ext 148 [.d (ag.pd a0),.d (aa.pd a1)] [] (rI r,[]):=by
 refine Ev.body Z Tryz.func148 Z Zk<|gU Z<|sB (.ptr 32 0) 32 (.var (ag.rc a0))<|sB (.ptr 48 0) 48 (.var (aa.rc a1))<|sV (r0)<|sN<|qS<|gU Z<|sV (.d (ag.pd a0))<|bE h fun x1 h1 h=>cD (fM h1)<|sF h ?_ ?_<;>intro h
 ·refine sM Z<|k3<|sT<|sN<|cT<|gU Z<|sV (r0)<|sN<|qR ?_
  exact oI h▸qD
 refine sM Z<|sV (.d (aa.pd a1))<|bE h fun x3 h3 h=>cD (gr h3)<|sV (rB (!x3))<|sF h ?_ ?_<;>intro h
 ·refine sN<|cT<|gU Z<|sV (r0)<|sN<|qR ?_
  exact oI h▸qD
 refine sN<|cF<|qK<|WC.cI Z Z<|sV (.ptr 32 0)<|sV (.ptr 32 0)<|sL Z<|sV (.ptr 32 3)<|sV (.ptr 32 3)<|sL Z<|sV (.ptr 48 0)<|sL Z<|bE h fun x5 h5 h=>cD (oT h5)<|bE h fun x6 h6 h=>?_
 refine cD (fy h6)<|sV (.ptr 32 0)<|sV (.ptr 32 1)<|sL Z<|sV (.ptr 32 3)<|sV (.ptr 32 4)<|sL Z<|sV (.ptr 48 1)<|sL Z<|bE h fun x7 h7 h=>cD (oT h7)<|bE h fun x8 h8 h=>cD (fy h8)<|sV (rI (rW (x6+x8)))<|sV (.ptr 32 0) ?_
 refine sV (.ptr 32 2)<|sL Z<|sV (.ptr 32 3)<|sV (.ptr 32 5)<|sL Z<|sV (.ptr 48 2)<|sL Z<|bE h fun x9 h9 h=>cD (oT h9)<|bE h fun x10 h10 h=>cD (fy h10)<|sV (rI (rW ((rW (x6+x8))+x10)))<|sA Z ?_
 refine sN<|sO<|qR ?_
 exact oI h▸qD
theorem pO{a0:Int}{r:Int}(h:l4 a0=some r):EvP prog az ext 224 [rI a0] [] (rI r,[]):=by
 refine Ev.body Z Tryz.func224 Z Zk<|gU Z<|sV (r0)<|sN<|gU Z<|sV (r0)<|sN<|qS<|gU Z<|sV (rI 2147483648)<|sN<|bE h fun o9 ho9 h=>WC.block (WC.loop (WL.fV ho9 (fun s R' B'=>dN prog 0 (A R' B') (az.at_ 224 0 3)=some (A [(0,rI a0),(3,rI s.1),(4,rI s.2)] [])) (fun o e R' B'=>e= .exit 0∧dN prog 0 (A R' B') (az.at_ 224 0 8)=some (A [(3,rI o)] [])) Z ?_ ?_))
 ·rintro⟨s1,s2⟩ R' B' q4 hI h
  refine qS<|gS Z hI<|sM Z<|sF h ?_ ?_<;>intro h
  ·refine sN<|cT<|qK<|qS<|qB<|gU Z<|sM Z<|sM Z<|sV (rI (rW (s1+s2)))<|sA Z<|sN<|gU Z<|sM Z<|sF h ?_ ?_<;>intro h
   ·refine sM Z<|sM Z<|sM Z<|sV (rI (rW ((rW (s1+s2))*(rW (s1+s2)))))<|sM Z<|sV (rB (decide ((rW ((rW (s1+s2))*(rW (s1+s2))))<=a0)))<|sF h ?_ ?_<;>intro h
    ·refine sN<|cT<|WC.region Z Z<|sM Z<|sA Z<|sN<|WC.region Z Z<|sM Z<|sV (rI (jf .i64 s2 (1:Int)))<|sA Z<|sN ?_
     cases oI h
     exact⟨rfl,rfl⟩
    refine sN<|cF<|qK<|WC.region Z Z<|sM Z<|sV (rI (jf .i64 s2 (1:Int)))<|sA Z<|sN ?_
    cases oI h
    exact⟨rfl,rfl⟩
   refine sM Z<|k3<|sK<|sK<|sU<|sN<|cF<|qK<|WC.region Z Z<|sM Z<|sV (rI (jf .i64 s2 (1:Int)))<|sA Z<|sN ?_
   cases oI h
   exact⟨rfl,rfl⟩
  refine sN<|cF<|qX ?_
  cases oI h
  exact⟨nofun,rfl,rfl⟩
 intro e R' B' he hq
 obtain⟨rfl,hI⟩:=hq
 refine qE<|gS Z hI<|sM Z<|sA Z<|sN<|qR ?_
 exact oI h▸qD
theorem qy{a0:Int}{r:Int}(h:lw a0=some r):EvP prog az ext 221 [rI a0] [] (rI r,[]):=by
 refine Ev.body Z Tryz.func221 Z Zk<|gU Z<|sV (r0)<|sN<|gU Z<|sM Z<|bE h fun x1 h1 h=>cD (pO h1)<|sA Z<|sN<|qS<|gU Z<|sM Z<|sM Z<|sM Z ?_
 refine sV (rI (rW (x1*x1)))<|sF h ?_ ?_<;>intro h
 ·refine sN<|cT<|gU Z<|sM Z<|sV (rI (rW (x1+(1:Int))))<|sA Z<|sN<|qR ?_
  exact oI h▸qD
 refine sN<|cF<|qK<|gU Z<|sM Z<|sA Z<|sN<|qR ?_
 exact oI h▸qD
theorem ref25_Reach_ev{a0:aA}{r:Int}(h:nF a0=some r):EvP prog az ext 222 [.d (aA.pd a0)] [] (rI r,[]):=by
 refine Ev.body Z Tryz.func222 Z Zk<|gU Z<|sB (.ptr 16 0) 16 (.var (aA.rc a0))<|sV (r0)<|sN<|qS<|gU Z<|sV (.d (aA.pd a0))<|bE h fun x1 h1 h=>cD (fN h1)<|sF h ?_ ?_<;>intro h
 ·refine sN<|cT<|gU Z<|sV (r0)<|sN<|qR ?_
  exact oI h▸qD
 refine sN<|cF<|qK<|gU Z<|sV (.ptr 16 0)<|sL Z<|sV (.ptr 16 1)<|sL Z<|sE (rI (a0.aI.length:Int)) (dX _ _)<|sV (rI (rW ((a0.aI.length:Int)-(1:Int))))<|sV (rI (rW (a0.aZ*(rW ((a0.aI.length:Int)-(1:Int))))))<|sA Z<|sN<|qR ?_
 exact oI h▸qD
theorem ref25_Lower_ev{a0:aA}{a1:Int}{r:Int}(h:pQ a0 a1=some r):EvP prog az ext 223 [.d (aA.pd a0),rI a1] [] (rI r,[]):=by
 refine Ev.body Z Tryz.func223 Z Zk<|gU Z<|sB (.ptr 32 0) 32 (.var (aA.rc a0))<|sV (r0)<|sN<|WC.cI Z Z<|sV (.ptr 32 1)<|sL Z<|sM Z<|sV (.ptr 32 0)<|sL Z<|bE h fun x1 h1 h=>WO.uL h1 Z Z Z Z Z Z<|bE h fun x2 h2 h=>eG h2 Z ?_
 refine sC Z<|sA Z ?_
 refine sN<|sO<|qR ?_
 exact oI h▸qD
theorem ref25_Upper_ev{a0:aA}{a1:Int}{r:Int}(h:pR a0 a1=some r):EvP prog az ext 225 [.d (aA.pd a0),rI a1] [] (rI r,[]):=by
 refine Ev.body Z Tryz.func225 Z Zk<|gU Z<|sB (.ptr 32 0) 32 (.var (aA.rc a0))<|sV (r0)<|sN<|WC.cI Z Z<|sV (.ptr 32 2)<|sL Z<|sM Z<|sV (.ptr 32 0)<|sL Z<|sV (rI (rW (a1+a0.aZ)))<|sV (rI (rW ((rW (a1+a0.aZ))-(1:Int))))<|sV (.ptr 32 0)<|sL Z ?_
 refine bE h fun x1 h1 h=>WO.uL h1 Z Z Z Z Z Z<|bE h fun x2 h2 h=>eG h2 Z<|sC Z<|sA Z ?_
 refine sN<|sO<|qR ?_
 exact oI h▸qD
theorem ref25_Between_ev{a0:aA}{a1:Int}{a2:Int}{r:Int×Int×Int}(h:lL a0 a1 a2=some r):EvP prog az ext 146 [.d (aA.pd a0),rI a1,rI a2] [] (.tup [rI r.1,rI r.2.1,rI r.2.2],[]):=by
 refine Ev.body Z Tryz.func146 Z Zk<|gU Z<|sB (.ptr 48 0) 48 (.var (aA.rc a0))<|sV (r0)<|sV (r0)<|sV (r0)<|sN<|qS<|gU Z<|sV (.d (aA.pd a0))<|bE h fun x1 h1 h=>cD (fN h1)<|sF h ?_ ?_<;>intro h
 ·refine sN<|cT<|gU Z<|sV (r0)<|sV (r0)<|sV (rI 21)<|sN<|qR ?_
  exact oI h▸qD
 refine sN<|cF<|qK<|qS<|gU Z<|sM Z<|sF h ?_ ?_<;>intro h
 ·refine sM Z<|k3<|sT<|sN<|cT<|gU Z<|sV (r0)<|sV (r0)<|sV (rI 2)<|sN<|qR ?_
  exact oI h▸qD
 refine sM Z<|sM Z<|sM Z<|sV (rB (decide (a1>a2)))<|sF h ?_ ?_<;>intro h
 ·refine sN<|cT<|gU Z<|sV (r0)<|sV (r0)<|sV (rI 2)<|sN<|qR ?_
  exact oI h▸qD
 refine sN<|cF<|qK<|qS<|WC.cI Z Z<|sM Z<|bE h fun x5 h5 h=>cD (qy h5)<|sV (.d (aA.pd a0))<|bE h fun x6 h6 h=>cD (ref25_Reach_ev h6)<|sF h ?_ ?_<;>intro h
 ·refine sN<|sO<|cT<|gU Z<|sV (r0)<|sV (r0)<|sV (rI 22)<|sN<|qR ?_
  exact oI h▸qD
 refine sN<|sO<|cF<|qK<|WC.cI Z Z<|sV (.d (aA.pd a0))<|sM Z<|bE h fun x8 h8 h=>cD (pO h8)<|bE h fun x9 h9 h=>cD (ref25_Lower_ev h9)<|sV (.d (aA.pd a0))<|sM Z<|bE h fun x10 h10 h=>cD (qy h10)<|bE h fun x11 h11 h=>?_
 refine cD (ref25_Upper_ev h11)<|sA Z<|sA Z<|sV (r0) ?_
 refine sN<|sO<|qR ?_
 exact oI h▸qD
theorem rR{a0:aA}{a1:ag}{a2:aa}{r:Int×Int×Int}(h:kP a0 a1 a2=some r):EvP prog az ext 77 [.d (aA.pd a0),.d (ag.pd a1),.d (aa.pd a2)] [] (.tup [rI r.1,rI r.2.1,rI r.2.2],[]):=by
 refine Ev.body Z Tryz.func77 Z Zk<|gU Z<|sB (.ptr 48 0) 48 (.var (aA.rc a0))<|sB (.ptr 64 0) 64 (.var (ag.rc a1))<|sB (.ptr 80 0) 80 (.var (aa.rc a2))<|sV (r0)<|sV (r0)<|sV (r0)<|sN<|qS<|gU Z<|sV (.d (aA.pd a0))<|bE h fun x1 h1 h=>cD (fN h1)<|sF h ?_ ?_<;>intro h
 ·refine sN<|cT<|gU Z<|sV (r0)<|sV (r0)<|sV (rI 21)<|sN<|qR ?_
  exact oI h▸qD
 refine sN<|cF<|qK<|qS<|gU Z<|sV (.d (ag.pd a1))<|bE h fun x3 h3 h=>cD (fM h3)<|sF h ?_ ?_<;>intro h
 ·refine sM Z<|k3<|sT<|sN<|cT<|gU Z<|sV (r0)<|sV (r0)<|sV (rI 20)<|sN<|qR ?_
  exact oI h▸qD
 refine sM Z<|sV (.d (aa.pd a2))<|bE h fun x5 h5 h=>cD (gr h5)<|sV (rB (!x5))<|sF h ?_ ?_<;>intro h
 ·refine sN<|cT<|gU Z<|sV (r0)<|sV (r0)<|sV (rI 20)<|sN<|qR ?_
  exact oI h▸qD
 refine sN<|cF<|qK<|WC.cI Z Z<|sV (.d (aA.pd a0))<|sV (.d (ag.pd a1))<|sV (.d (aa.pd a2))<|bE h fun x7 h7 h=>cD (ref24_Near_ev h7)<|sV (.d (ag.pd a1))<|sV (.d (aa.pd a2))<|bE h fun x8 h8 h=>cD (ref24_Far_ev h8)<|bE h fun x9 h9 h=>cR (.tup [rI x9.1,rI x9.2.1,rI x9.2.2]) [] (ref25_Between_ev h9) ?_
 refine sV (rI x9.1)<|sV (rI x9.2.1)<|sV (rI x9.2.2)<|sA Z<|sA Z<|sA Z ?_
 refine sN<|sO<|qR ?_
 exact oI h▸qD
theorem ref33_Usable_ev{a0:ar}{a1:al}{a2:ai}{r:aj×Bool}(h:mH a0 a1 a2=some r):EvP prog az ext 30 [.d (ar.pd a0),.d (al.pd a1),.d (ai.pd a2)] [] (.tup [.d (aj.pd r.1),rB r.2],[]):=by
 refine Ev.body Z Tryz.func30 Z Zk<|gU Z<|sB (.ptr 48 0) 48 (.var (ar.rc a0))<|sB (.ptr 64 0) 64 (.var [rM aq.pd a1.aJ])<|sB (.ptr 80 0) 80 (.var (ai.rc a2))<|sB (.ptr 96 0) 96 (.var zZ4)<|sU<|sN<|qS<|gU Z<|sV (.d (ar.pd a0))<|bE h fun x1 h1 h=>cD (rU h1)<|sF h ?_ ?_<;>intro h
 ·refine sM Z<|k3<|sT<|sN<|cT<|gU Z<|sG (.d (aj.pd (aj.mk (aa.mk 0 0 0) 0 0 0)))<|sH 96 (.var zZ4)<|sU<|sN<|qR ?_
  cases oI h
  exact qG
 refine sM Z<|sV (.d (ai.pd a2))<|bE h fun x3 h3 h=>cD (qZ h3)<|sV (rB (!x3))<|sF h ?_ ?_<;>intro h
 ·refine sN<|cT<|gU Z<|sG (.d (aj.pd (aj.mk (aa.mk 0 0 0) 0 0 0)))<|sH 96 (.var zZ4)<|sU<|sN<|qR ?_
  cases oI h
  exact qG
 refine sN<|cF<|qK<|gU Z<|sV (.d (al.pd a1))<|sV (.ptr 80 0)<|sV (.d (au.pd a2.aw))<|sV (.ptr 80 4)<|sL Z<|bE h fun x5 h5 h=>cR (.tup [.d (ap.pd x5.1),rI x5.2]) [] (ref19_At_ev h5)<|sM Z<|sV (.d (ap.pd x5.1))<|sV (rI x5.2)<|sB (.ptr 128 0) 128 (.var zZ3) ?_
 refine sH 128 (.var (ap.rc x5.1))<|sA Z<|sN<|qS<|gU Z<|sM Z<|sF h ?_ ?_<;>intro h
 ·refine sN<|cT<|gU Z<|sG (.d (aj.pd (aj.mk (aa.mk 0 0 0) 0 0 0)))<|sH 96 (.var zZ4)<|sU<|sN<|qR ?_
  cases oI h
  exact qG
 refine sN<|cF<|qK<|qS<|gU Z<|sV (.ptr 48 0)<|sV (.ptr 48 6)<|sV (.d (aA.pd a0.ae.aW))<|sV (.ptr 48 0)<|sV (.ptr 48 0)<|sV (.d (ag.pd a0.ae.aM))<|sV (.ptr 128 4)<|sV (.d (aa.pd x5.1.aP))<|bE h fun x7 h7 h=>cR (.tup [rI x7.1,rI x7.2.1,rI x7.2.2]) [] (rR h7) ?_
 refine sM Z<|sV (rI x7.1)<|sV (rI x7.2.1)<|sV (rI x7.2.2)<|sA Z<|sA Z<|sA Z<|sN<|gU Z<|sM Z<|sF h ?_ ?_<;>intro h
 ·refine sN<|cT<|gU Z<|sG (.d (aj.pd (aj.mk (aa.mk 0 0 0) 0 0 0)))<|sH 96 (.var zZ4)<|sU<|sN<|qR ?_
  cases oI h
  exact qG
 refine sN<|cF<|qK<|gU Z<|sV (.ptr 128 4)<|sV (.d (aa.pd x5.1.aP))<|sV (.ptr 80 5)<|sL Z<|sV (.ptr 80 6)<|sL Z<|sG (.d (aj.pd (aj.mk x5.1.aP a2.aQ a2.bw 1)))<|sH 96 (.var (aa.rc x5.1.aP++[rI a2.aQ,rI a2.bw,rI 1]))<|sT<|sN<|qR ?_
 cases oI h
 exact qG
theorem law34_root_ev{a0:aa}{a1:aa}{r:Int}(h:oH a0 a1=some r):EvP prog az ext 31 [.d (aa.pd a0),.d (aa.pd a1)] [] (rI r,[]):=by
 refine Ev.body Z Tryz.func31 Z Zk<|gU Z<|sB (.ptr 32 0) 32 (.var (aa.rc a0))<|sB (.ptr 48 0) 48 (.var (aa.rc a1))<|sV (r0)<|sN<|gU Z<|sV (.ptr 32 0)<|sL Z<|sV (.ptr 48 0)<|sL Z<|sV (rI (rW (a0.fX-a1.fX)))<|sV (.ptr 32 0)<|sL Z<|sV (.ptr 48 0) ?_
 refine sL Z<|sV (rI (rW (a0.fX-a1.fX)))<|sV (rI (rW ((rW (a0.fX-a1.fX))*(rW (a0.fX-a1.fX)))))<|sV (.ptr 32 1)<|sL Z<|sV (.ptr 48 1)<|sL Z<|sV (rI (rW (a0.fY-a1.fY)))<|sV (.ptr 32 1)<|sL Z<|sV (.ptr 48 1)<|sL Z<|sV (rI (rW (a0.fY-a1.fY)))<|sV (rI (rW ((rW (a0.fY-a1.fY))*(rW (a0.fY-a1.fY)))))<|sV (rI (rW ((rW ((rW (a0.fX-a1.fX))*(rW (a0.fX-a1.fX))))+(rW ((rW (a0.fY-a1.fY))*(rW (a0.fY-a1.fY))))))) ?_
 refine sV (.ptr 32 2)<|sL Z<|sV (.ptr 48 2)<|sL Z<|sV (rI (rW (a0.fZ-a1.fZ)))<|sV (.ptr 32 2)<|sL Z<|sV (.ptr 48 2)<|sL Z<|sV (rI (rW (a0.fZ-a1.fZ)))<|sV (rI (rW ((rW (a0.fZ-a1.fZ))*(rW (a0.fZ-a1.fZ)))))<|sV (rI (rW ((rW ((rW ((rW (a0.fX-a1.fX))*(rW (a0.fX-a1.fX))))+(rW ((rW (a0.fY-a1.fY))*(rW (a0.fY-a1.fY))))))+(rW ((rW (a0.fZ-a1.fZ))*(rW (a0.fZ-a1.fZ)))))))<|sA Z<|sN<|gU Z ?_
 refine sV (r0)<|sN<|qS<|bE h fun o6 ho6 h=>WC.block (WC.loop (WL.fV ho6 (fun s R' B'=>dN prog 0 (A R' B') (az.at_ 31 0 3)=some (A [(5,rI (rW ((rW ((rW ((rW (a0.fX-a1.fX))*(rW (a0.fX-a1.fX))))+(rW ((rW (a0.fY-a1.fY))*(rW (a0.fY-a1.fY))))))+(rW ((rW (a0.fZ-a1.fZ))*(rW (a0.fZ-a1.fZ))))))),(6,rI s)] [])) (fun o e R' B'=>e= .exit 0∧dN prog 0 (A R' B') (az.at_ 31 0 5)=some (A [(6,rI o)] [])) Z ?_ ?_))
 ·rintro s1 R' B' q3 hI h
  refine qS<|gS Z hI<|sM Z<|sV (rI (rW (s1+(1:Int))))<|sM Z<|sV (rI (rW (s1+(1:Int))))<|sV (rI (rW ((rW (s1+(1:Int)))*(rW (s1+(1:Int))))))<|sM Z<|sF h ?_ ?_<;>intro h
  ·refine sN<|cT<|qK<|qB<|WC.region Z Z<|sM Z<|sV (rI (rW (s1+(1:Int))))<|sA Z<|sN ?_
   cases oI h
   exact⟨rfl,rfl⟩
  refine sN<|cF<|qX ?_
  cases oI h
  exact⟨nofun,rfl,rfl⟩
 intro e R' B' he hq
 obtain⟨rfl,hI⟩:=hq
 refine qE<|gS Z hI<|sM Z<|sA Z<|sN<|qR ?_
 exact oI h▸qD
theorem bM{a0:aa}{r:aS}(h:bB a0=some r):EvP prog az ext 188 [.d (aa.pd a0)] [] (.d (aS.pd r),[]):=by
 refine Ev.body Z Tryz.func188 Z Zk<|gU Z<|sB (.ptr 16 0) 16 (.var (aa.rc a0))<|sB (.ptr 32 0) 32 (.var [r0,r0,r0])<|sN<|gU Z<|sV (.ptr 16 0)<|sL Z<|sV (.ptr 16 1)<|sL Z<|sV (.ptr 16 2)<|sL Z<|sV (.d (aS.pd (aS.mk a0.fX a0.fY a0.fZ)))<|sS 32 (.var (aa.rc a0))<|sN ?_
 refine qR ?_
 exact oI h▸qD
theorem dl{a0:aa}{r:Bool}(h:c6 a0=some r):EvP prog az ext 272 [.d (aa.pd a0)] [] (rB r,[]):=by
 refine Ev.body Z Tryz.func272 Z Zk<|gU Z<|sB (.ptr 16 0) 16 (.var (aa.rc a0))<|sU<|sN<|gU Z<|sV (.d (aS.pd (aS.mk (-1048576) (-1048576) (-16384))))<|sB (.ptr 48 0) 48 (.var [r0,r0,r0])<|sS 48 (.var [rI (-1048576),rI (-1048576),rI (-16384)])<|sN<|qS<|gU Z<|sV (.d (aa.pd a0))<|bE h fun x1 h1 h=>cD (bM h1) ?_
 refine sV (r0)<|sN<|WC.block (WC.loop ?_)
 refine WL.round<|gU Z<|sT<|sN<|qS<|cT<|qK<|qS<|qB<|gU Z<|sM Z<|sV (rI x1.a0)<|sA Z<|sA Z<|sN ?_
 refine gU Z<|sM Z<|sM Z<|sV (.ptr 48 0)<|sL Z<|sF h ?_ ?_<;>intro h
 ·refine sM Z<|sK<|sK<|sT<|sN<|cT<|gU Z<|sU<|sN<|qR ?_
  exact oI h▸qD
 refine sM Z<|sM Z<|sV (rB (decide (x1.a0>(1048576:Int))))<|sF h ?_ ?_<;>intro h
 ·refine sN<|cT<|gU Z<|sU<|sN<|qR ?_
  exact oI h▸qD
 refine sN<|cF<|qK<|WC.region Z Z<|sV (rI 1)<|sM Z<|sN<|WL.round<|gU Z<|sT<|sN<|qS<|cT<|qK<|qS ?_
 refine qB<|gU Z<|sM Z<|sV (rI x1.a1)<|sA Z<|sA Z<|sN<|gU Z<|sM Z<|sM Z<|sV (.ptr 48 1)<|sL Z<|sF h ?_ ?_<;>intro h
 ·refine sM Z<|sK<|sK<|sT<|sN<|cT<|gU Z<|sU<|sN<|qR ?_
  exact oI h▸qD
 refine sM Z<|sM Z<|sV (rB (decide (x1.a1>(1048576:Int))))<|sF h ?_ ?_<;>intro h
 ·refine sN<|cT<|gU Z<|sU<|sN<|qR ?_
  exact oI h▸qD
 refine sN<|cF<|qK<|WC.region Z Z<|sV (rI 2)<|sM Z<|sN<|WL.round<|gU Z<|sT<|sN<|qS<|cT<|qK<|qS ?_
 refine qB<|gU Z<|sM Z<|sV (rI x1.a2)<|sA Z<|sA Z<|sN<|gU Z<|sM Z<|sM Z<|sV (.ptr 48 2)<|sL Z<|sF h ?_ ?_<;>intro h
 ·refine sM Z<|sK<|sK<|sT<|sN<|cT<|gU Z<|sU<|sN<|qR ?_
  exact oI h▸qD
 refine sM Z<|sM Z<|sV (rB (decide (x1.a2>(1048576:Int))))<|sF h ?_ ?_<;>intro h
 ·refine sN<|cT<|gU Z<|sU<|sN<|qR ?_
  exact oI h▸qD
 refine sN<|cF<|qK<|WC.region Z Z<|sV (rI 3)<|sM Z<|sN<|WL.round<|gU Z<|sU<|sN<|qS<|cF<|qX<|qE ?_
 refine gU Z<|sT<|sN<|qR ?_
 exact oI h▸qD
theorem bF{a0:ag}{r:Bool}(h:bD a0=some r):EvP prog az ext 187 [.d (ag.pd a0)] [] (rB r,[]):=by
 refine Ev.body Z Tryz.func187 Z Zk<|gU Z<|sB (.ptr 16 0) 16 (.var (ag.rc a0))<|sU<|sN<|qS<|gU Z<|sV (.ptr 16 0)<|sV (.d (aa.pd a0.aI))<|bE h fun x1 h1 h=>cD (dl h1)<|sF h ?_ ?_<;>intro h
 ·refine sM Z<|k3<|sK<|sT<|sN<|cT<|gU Z<|sU<|sN<|qR ?_
  exact oI h▸qD
 refine sM Z<|sV (.ptr 16 3)<|sV (.d (aa.pd a0.aC))<|bE h fun x3 h3 h=>cD (dl h3)<|sV (rB (!x3))<|sF h ?_ ?_<;>intro h
 ·refine sN<|cT<|gU Z<|sU<|sN<|qR ?_
  exact oI h▸qD
 refine sN<|cF<|qK<|gU Z<|sV (.ptr 16 3)<|sV (.d (aa.pd a0.aC))<|bE h fun x5 h5 h=>cD (bM h5)<|sB (.ptr 48 0) 48 (.var [r0,r0,r0])<|sS 48 (.var [rI x5.a0,rI x5.a1,rI x5.a2])<|sN<|qS<|gU Z<|sV (.ptr 16 0)<|sV (.d (aa.pd a0.aI)) ?_
 refine bE h fun x6 h6 h=>cD (bM h6)<|sV (r0)<|sN<|WC.block (WC.loop ?_)
 refine WL.round<|gU Z<|sT<|sN<|qS<|cT<|qK<|qS<|qB<|gU Z<|sM Z<|sV (rI x6.a0)<|sA Z<|sA Z<|sN ?_
 refine gU Z<|sM Z<|sM Z<|sV (.ptr 48 0)<|sL Z<|sF h ?_ ?_<;>intro h
 ·refine sN<|cT<|gU Z<|sU<|sN<|qR ?_
  exact oI h▸qD
 refine sN<|cF<|qK<|WC.region Z Z<|sV (rI 1)<|sM Z<|sN<|WL.round<|gU Z<|sT<|sN<|qS<|cT<|qK<|qS ?_
 refine qB<|gU Z<|sM Z<|sV (rI x6.a1)<|sA Z<|sA Z<|sN<|gU Z<|sM Z<|sM Z<|sV (.ptr 48 1)<|sL Z<|sF h ?_ ?_<;>intro h
 ·refine sN<|cT<|gU Z<|sU<|sN<|qR ?_
  exact oI h▸qD
 refine sN<|cF<|qK<|WC.region Z Z<|sV (rI 2)<|sM Z<|sN<|WL.round<|gU Z<|sT<|sN<|qS<|cT<|qK<|qS ?_
 refine qB<|gU Z<|sM Z<|sV (rI x6.a2)<|sA Z<|sA Z<|sN<|gU Z<|sM Z<|sM Z<|sV (.ptr 48 2)<|sL Z<|sF h ?_ ?_<;>intro h
 ·refine sN<|cT<|gU Z<|sU<|sN<|qR ?_
  exact oI h▸qD
 refine sN<|cF<|qK<|WC.region Z Z<|sV (rI 3)<|sM Z<|sN<|WL.round<|gU Z<|sU<|sN<|qS<|cF<|qX<|qE ?_
 refine gU Z<|sT<|sN<|qR ?_
 exact oI h▸qD
theorem dZ{a0:aA}{r:Int}(h:cQ a0=some r):EvP prog az ext 199 [.d (aA.pd a0)] [] (rI r,[]):=by
 refine Ev.body Z Tryz.func199 Z Zk<|gU Z<|sB (.ptr 16 0) 16 (.var (aA.rc a0))<|sV (r0)<|sN<|gU Z<|sV (.ptr 16 1)<|sL Z<|sE (rI (a0.aI.length:Int)) (dX _ _)<|sA Z<|sN<|qS<|gU Z<|sV (.ptr 16 0)<|sL Z ?_
 refine sF h ?_ ?_<;>intro h
 ·refine sM Z<|k3<|sT<|sM Z<|k3<|sK<|sK<|sT<|sM Z<|sK<|sK ?_
  refine sT<|sM Z<|sK<|sK<|sT<|sN<|cT<|gU Z<|sV (rI 21)<|sN<|qR ?_
  exact oI h▸qD
 refine sM Z<|sV (.ptr 16 0)<|sL Z<|sV (rB (decide (a0.aZ>(1048576:Int))))<|sF h ?_ ?_<;>intro h
 ·refine sM Z<|k3<|sK<|sK<|sT<|sM Z<|sK<|sK<|sT<|sM Z<|sK<|sK<|sT ?_
  refine sN<|cT<|gU Z<|sV (rI 21)<|sN<|qR ?_
  exact oI h▸qD
 refine sM Z<|sM Z<|sV (.ptr 16 2)<|sL Z<|sE (rI (a0.aC.length:Int)) (dX _ _)<|sV (rB ((a0.aI.length:Int) != (a0.aC.length:Int)))<|sF h ?_ ?_<;>intro h
 ·refine sM Z<|sK<|sK<|sT<|sM Z<|sK<|sK<|sT<|sN<|cT<|gU Z<|sV (rI 21)<|sN<|qR ?_
  exact oI h▸qD
 refine sM Z<|sM Z<|sV (rB (decide ((a0.aI.length:Int)<(2:Int))))<|sF h ?_ ?_<;>intro h
 ·refine sM Z<|sK<|sK<|sT<|sN<|cT<|gU Z<|sV (rI 21)<|sN<|qR ?_
  exact oI h▸qD
 refine sM Z<|sM Z<|sV (rB (decide ((a0.aI.length:Int)>(256:Int))))<|sF h ?_ ?_<;>intro h
 ·refine sN<|cT<|gU Z<|sV (rI 21)<|sN<|qR ?_
  exact oI h▸qD
 refine sN<|cF<|qK<|gU Z<|sV (r0)<|sV (r0)<|sN<|qS<|gU Z<|sM Z<|sV (r0)<|sN<|bE h fun o23 ho23 h=>WC.block (WC.loop (WL.fV ho23 (fun s R' B'=>dN prog 0 (A R' B') (az.at_ 199 0 6)=some (A [(1,.ptr 16 0),(4,rI s.1),(5,rI s.2.1),(33,rI (a0.aI.length:Int)),(34,rI s.2.2)] [(16,.var (aA.rc a0))])) (fun o e R' B'=>match o with| .inl y=>e= .exit 0∧dN prog 0 (A R' B') (az.at_ 199 0 12)=some (A [] [])| .inr r=>e= .ret∧finish prog (az.own 199) Tryz.f199 0 (A R' B')=some (rI r,[])) Z ?_ ?_))
 ·rintro⟨s6,s7,s8⟩ R' B' q9 hI h
  refine gS Z hI<|sF h ?_ ?_<;>intro h
  ·refine sN<|qS<|cT<|qK<|qS<|qB<|gU Z<|sM Z<|sA Z<|sN<|qS<|WC.cI Z Z<|sV (.ptr 16 1)<|sL Z<|sM Z ?_
   refine bE h fun x11 h11 h=>eG h11 Z<|sC Z<|sM Z<|sF h ?_ ?_<;>intro h
   ·refine sM Z<|k3<|k3<|sK<|sT<|sM Z<|k3<|sK<|sK ?_
    refine k3<|k3<|sT<|sM Z<|k3<|k3<|sT ?_
    refine sN<|sO<|cT<|gU Z<|sV (rI 21)<|sN<|qR ?_
    cases oI h
    exact⟨nofun,rfl,rfl⟩
   refine sM Z<|sV (.ptr 16 2)<|sL Z<|sM Z<|bE h fun x13 h13 h=>eG h13 Z<|sC Z<|sM Z<|sV (rB (decide (x13<s7)))<|sF h ?_ ?_<;>intro h
   ·refine sM Z<|k3<|k3<|k3<|sK<|sK<|sT<|sM Z<|sK ?_
    refine k3<|sK<|sK<|sT ?_
    refine sN<|sO<|cT<|gU Z<|sV (rI 21)<|sN<|qR ?_
    cases oI h
    exact⟨nofun,rfl,rfl⟩
   refine sM Z<|sV (.ptr 16 1)<|sL Z<|sM Z<|bE h fun x15 h15 h=>eG h15 Z<|sC Z<|sV (.ptr 16 2)<|sL Z<|sM Z<|bE h fun x16 h16 h=>eG h16 Z<|sC Z<|sV (rB (decide (x15>x16)))<|sF h ?_ ?_<;>intro h
   ·refine sM Z<|k3<|k3<|sT ?_
    refine sN<|sO<|cT<|gU Z<|sV (rI 21)<|sN<|qR ?_
    cases oI h
    exact⟨nofun,rfl,rfl⟩
   refine sM Z<|sV (.ptr 16 2)<|sL Z<|sM Z<|bE h fun x18 h18 h=>eG h18 Z<|sC Z<|sV (rB (decide (x18>(1099511627776:Int))))<|sF h ?_ ?_<;>intro h
   ·refine sN<|sO<|cT<|gU Z<|sV (rI 21)<|sN<|qR ?_
    cases oI h
    exact⟨nofun,rfl,rfl⟩
   refine sN<|sO<|cF<|qK<|WC.kT Z Z<|sV (.ptr 16 1)<|sL Z<|sM Z<|bE h fun x20 h20 h=>eG h20 Z<|sC Z<|sV (.ptr 16 2)<|sL Z<|sM Z<|bE h fun x21 h21 h=>eG h21 Z ?_
   refine sC Z<|sA Z<|sA Z ?_
   refine sN<|sO<|WC.region Z Z<|sV (rI (rW (s8+(1:Int))))<|sM Z<|sN ?_
   cases oI h
   exact⟨rfl,rfl⟩
  refine sN<|qS<|cF<|qX ?_
  cases oI h
  exact⟨nofun,rfl,rfl⟩
 intro e R' B' he hq
 rcases o23 with y24|r25
 ·obtain⟨rfl,hI⟩:=hq
  refine qE<|gS Z hI<|sV (r0)<|sN<|qR ?_
  exact oI h▸qD
 obtain⟨rfl,hf⟩:=hq
 cases oI h
 exact hf
theorem gT{a0:Int}{a1:Int}{a2:Int}{r:Bool}(h:d6 a0 a1 a2=some r):EvP prog az ext 200 [rI a0,rI a1,rI a2] [] (rB r,[]):=by
 refine Ev.body Z Tryz.func200 Z Zk<|gU Z<|sU<|sN<|gU Z<|sM Z<|sM Z<|sF h ?_ ?_<;>intro h
 ·refine sM Z<|sM Z<|sM Z<|sV (rB (decide (a0<=a2)))<|sV (rB (decide (a0<=a2)))<|sA Z<|sN<|qR ?_
  exact oI h▸qD
 refine sM Z<|k3<|sU<|sA Z<|sN<|qR ?_
 exact oI h▸qD
theorem qj{a0:aj}{r:Bool}(h:dc a0=some r):EvP prog az ext 245 [.d (aj.pd a0)] [] (rB r,[]):=by
 refine Ev.body Z Tryz.func245 Z Zk<|gU Z<|sB (.ptr 16 0) 16 (.var (aj.rc a0))<|sU<|sN<|gU Z<|sV (.ptr 16 0)<|sV (.d (aa.pd a0.aN))<|bE h fun x1 h1 h=>ir h (fun hb2 h=>?_) (fun hb2 h=>?_)
 ·refine WO.lE (v:=rB true) (u:=[]) Z Z (fun _=>Z) Z Z Z Z Z (dl h1) Z Z (congrArg (fun b=>RV.d (.bool b)) hb2) Z<|sM Z<|sV (.ptr 16 3)<|sL Z<|sV (rB (decide (a0.aQ>=(0:Int))))<|sF h ?_ ?_<;>intro h
  ·refine sM Z<|sV (.ptr 16 3)<|sL Z<|sV (.ptr 16 4)<|sL Z<|sV (rB (decide (a0.aQ<=a0.bw)))<|sF h ?_ ?_<;>intro h
   ·refine sM Z<|sV (.ptr 16 4)<|sL Z<|sV (rB (decide (a0.bw<=(18014398509481984:Int))))<|sF h ?_ ?_<;>intro h
    ·refine sM Z<|sV (.ptr 16 5)<|sL Z<|sV (rB (decide (a0.bJ>=(1:Int))))<|sF h ?_ ?_<;>intro h
     ·refine sM Z<|sV (.ptr 16 5)<|sL Z<|sV (rB (decide (a0.bJ<=(100:Int))))<|sV (rB (decide (a0.bJ<=(100:Int))))<|sA Z<|sN<|qR ?_
      exact oI h▸qD
     refine sM Z<|k3<|sU<|sA Z<|sN<|qR ?_
     exact oI h▸qD
    refine sM Z<|k3<|sU<|sM Z<|k3<|sU<|sA Z<|sN<|qR ?_
    exact oI h▸qD
   refine sM Z<|k3<|sU<|sM Z<|k3<|sU<|sM Z<|k3<|sU ?_
   refine sA Z<|sN<|qR ?_
   exact oI h▸qD
  refine sM Z<|k3<|sK<|sK<|sU<|sM Z<|k3<|sU<|sM Z<|sK<|sK ?_
  refine sK<|sU<|sM Z<|k3<|sU<|sA Z<|sN<|qR ?_
  exact oI h▸qD
 refine WO.lE (v:=rB false) (u:=[]) Z Z (fun _=>Z) Z Z Z Z Z (dl h1) Z Z (congrArg (fun b=>RV.d (.bool b)) hb2) Z<|sM Z<|k3<|sU<|sM Z<|k3<|sK<|sK<|sU<|sM Z<|sK ?_
 refine sK<|sK<|sU<|sM Z<|k3<|sU<|sM Z<|k3<|sU<|sA Z<|sN ?_
 refine qR ?_
 exact oI h▸qD
theorem jq{a0:Int}{a1:Int}{a2:Int}{r:Int}(h:e9 a0 a1 a2=some r):EvP prog az ext 196 [rI a0,rI a1,rI a2] [] (rI r,[]):=by
 refine Ev.body Z Tryz.func196 Z Zk<|gU Z<|sV (r0)<|sN<|gU Z<|sM Z<|sM Z<|sV (rI (rW (a1-a0)))<|sM Z<|sM Z<|sV (rI (rW (a0-a2)))<|sV (rI (if(0:Int)>(if(rW (a0-a2))>(rW (a1-a0))then(rW (a0-a2))else(rW (a1-a0)))then(0:Int)else(if(rW (a0-a2))>(rW (a1-a0))then(rW (a0-a2))else(rW (a1-a0)))))<|sA Z<|sN<|qR ?_
 exact oI h▸qD
theorem nk{a0:ag}{a1:aa}{r:Int}(h:gH a0 a1=some r):EvP prog az ext 195 [.d (ag.pd a0),.d (aa.pd a1),.d (.raw (.func (.func 196) #[] #[]))] [] (rI r,[]):=by
 refine Ev.body Z Tryz.func195 Z Zk<|gU Z<|sB (.ptr 48 0) 48 (.var (ag.rc a0))<|sB (.ptr 64 0) 64 (.var (aa.rc a1))<|sV (r0)<|sN<|qS<|gU Z<|sV (.d (ag.pd a0))<|bE h fun x1 h1 h=>cD (bF h1)<|sF h ?_ ?_<;>intro h
 ·refine sM Z<|k3<|sT<|sN<|cT<|gU Z<|sV (r0)<|sN<|qR ?_
  exact oI h▸qD
 refine sM Z<|sV (.d (aa.pd a1))<|bE h fun x3 h3 h=>cD (dl h3)<|sV (rB (!x3))<|sF h ?_ ?_<;>intro h
 ·refine sN<|cT<|gU Z<|sV (r0)<|sN<|qR ?_
  exact oI h▸qD
 refine sN<|cF<|qK<|WC.cI Z Z<|sV (.ptr 48 0)<|sV (.d (aa.pd a0.aI))<|bE h fun x5 h5 h=>cD (bM h5)<|sV (.ptr 48 3)<|sV (.d (aa.pd a0.aC))<|bE h fun x6 h6 h=>cD (bM h6)<|sB (.ptr 128 0) 128 (.var [r0,r0,r0])<|sB (.ptr 144 0) 144 (.var [r0,r0,r0])<|sV (r0) ?_
 refine sS 128 (.var [rI x5.a0,rI x5.a1,rI x5.a2])<|sS 144 (.var [rI x6.a0,rI x6.a1,rI x6.a2]) ?_
 refine sN<|sO<|qS<|gU Z<|sV (.d (aa.pd a1))<|bE h fun x7 h7 h=>cD (bM h7)<|sV (r0)<|sN<|WC.block (WC.loop ?_)
 refine WL.round<|WC.jW (R0:=[(2,.d (.raw (.func (.func 196) #[] #[]))),(7,r0),(8,.ptr 128 0),(9,.ptr 144 0),(28,.d (aS.pd x7)),(29,r0)]) (B0:=[(128,.var [rI x5.a0,rI x5.a1,rI x5.a2]),(144,.var [rI x6.a0,rI x6.a1,rI x6.a2])]) Z Z<|sT<|sN<|qS<|cT<|qK<|qS<|qB<|gU Z<|sM Z<|sV (rI x7.a0)<|sA Z<|sA Z<|sN ?_
 refine WC.cI Z Z<|sM Z<|sM Z<|sM Z<|sV (.ptr 128 0)<|sL Z<|sM Z<|sV (.ptr 144 0)<|sL Z<|bE h fun x8 h8 h=>cD (jq h8)<|sA Z ?_
 refine sN<|sO<|WC.region Z Z<|sM Z<|sM Z<|sM Z<|sV (rI (rW (x8*x8)))<|sV (rI (rW ((0:Int)+(rW (x8*x8)))))<|sA Z<|sN<|WC.region Z Z<|sV (rI 1)<|sM Z<|sN<|WL.round<|WC.jW (R0:=[(2,.d (.raw (.func (.func 196) #[] #[]))),(7,rI (rW ((0:Int)+(rW (x8*x8))))),(8,.ptr 128 0),(9,.ptr 144 0),(28,.d (aS.pd x7)),(29,rI 1)]) (B0:=[(128,.var [rI x5.a0,rI x5.a1,rI x5.a2]),(144,.var [rI x6.a0,rI x6.a1,rI x6.a2])]) Z Z ?_
 refine sT<|sN<|qS<|cT<|qK<|qS<|qB<|gU Z<|sM Z<|sV (rI x7.a1)<|sA Z<|sA Z<|sN<|WC.cI Z Z<|sM Z ?_
 refine sM Z<|sM Z<|sV (.ptr 128 1)<|sL Z<|sM Z<|sV (.ptr 144 1)<|sL Z<|bE h fun x9 h9 h=>cD (jq h9)<|sA Z ?_
 refine sN<|sO<|WC.region Z Z<|sM Z<|sM Z<|sM Z<|sV (rI (rW (x9*x9)))<|sV (rI (rW ((rW ((0:Int)+(rW (x8*x8))))+(rW (x9*x9)))))<|sA Z<|sN<|WC.region Z Z<|sV (rI 2)<|sM Z<|sN<|WL.round<|WC.jW (R0:=[(2,.d (.raw (.func (.func 196) #[] #[]))),(7,rI (rW ((rW ((0:Int)+(rW (x8*x8))))+(rW (x9*x9))))),(8,.ptr 128 0),(9,.ptr 144 0),(28,.d (aS.pd x7)),(29,rI 2)]) (B0:=[(128,.var [rI x5.a0,rI x5.a1,rI x5.a2]),(144,.var [rI x6.a0,rI x6.a1,rI x6.a2])]) Z Z ?_
 refine sT<|sN<|qS<|cT<|qK<|qS<|qB<|gU Z<|sM Z<|sV (rI x7.a2)<|sA Z<|sA Z<|sN<|WC.cI Z Z<|sM Z ?_
 refine sM Z<|sM Z<|sV (.ptr 128 2)<|sL Z<|sM Z<|sV (.ptr 144 2)<|sL Z<|bE h fun x10 h10 h=>cD (jq h10)<|sA Z ?_
 refine sN<|sO<|WC.region Z Z<|sM Z<|sM Z<|sM Z<|sV (rI (rW (x10*x10)))<|sV (rI (rW ((rW ((rW ((0:Int)+(rW (x8*x8))))+(rW (x9*x9))))+(rW (x10*x10)))))<|sA Z<|sN<|WC.region Z Z<|sV (rI 3)<|sM Z<|sN<|WL.round<|WC.jW (R0:=[(2,.d (.raw (.func (.func 196) #[] #[]))),(7,rI (rW ((rW ((rW ((0:Int)+(rW (x8*x8))))+(rW (x9*x9))))+(rW (x10*x10))))),(8,.ptr 128 0),(9,.ptr 144 0),(28,.d (aS.pd x7)),(29,rI 3)]) (B0:=[(128,.var [rI x5.a0,rI x5.a1,rI x5.a2]),(144,.var [rI x6.a0,rI x6.a1,rI x6.a2])]) Z Z ?_
 refine sU<|sN<|qS<|cF<|qX<|qE<|gU Z<|sM Z<|sA Z<|sN<|qR ?_
 exact oI h▸qD
theorem lj{a0:ag}{a1:aa}{r:Int}(h:eZ a0 a1=some r):EvP prog az ext 111 [.d (ag.pd a0),.d (aa.pd a1)] [] (rI r,[]):=by
 refine Ev.body Z Tryz.func111 Z Zk<|gU Z<|sB (.ptr 32 0) 32 (.var (ag.rc a0))<|sB (.ptr 48 0) 48 (.var (aa.rc a1))<|sV (r0)<|sN<|gU Z<|sV (.d (ag.pd a0))<|sV (.d (aa.pd a1))<|bE h fun x1 h1 h=>cD (nk h1)<|sA Z<|sN<|qR ?_
 exact oI h▸qD
theorem iE{a0:Int}{a1:Int}{a2:Int}{r:Int}(h:eF a0 a1 a2=some r):EvP prog az ext 197 [rI a0,rI a1,rI a2] [] (rI r,[]):=by
 refine Ev.body Z Tryz.func197 Z Zk<|gU Z<|sV (r0)<|sN<|gU Z<|sM Z<|sM Z<|sV (rI (rW (a2-a0)))<|sM Z<|sM Z<|sV (rI (rW (a0-a1)))<|sV (rI (if(rW (a0-a1))>(rW (a2-a0))then(rW (a0-a1))else(rW (a2-a0))))<|sA Z<|sN<|qR ?_
 exact oI h▸qD
theorem mV{a0:ag}{a1:aa}{r:Int}(h:gg a0 a1=some r):EvP prog az ext 195 [.d (ag.pd a0),.d (aa.pd a1),.d (.raw (.func (.func 197) #[] #[]))] [] (rI r,[]):=by
 refine Ev.body Z Tryz.func195 Z Zk<|gU Z<|sB (.ptr 48 0) 48 (.var (ag.rc a0))<|sB (.ptr 64 0) 64 (.var (aa.rc a1))<|sV (r0)<|sN<|qS<|gU Z<|sV (.d (ag.pd a0))<|bE h fun x1 h1 h=>cD (bF h1)<|sF h ?_ ?_<;>intro h
 ·refine sM Z<|k3<|sT<|sN<|cT<|gU Z<|sV (r0)<|sN<|qR ?_
  exact oI h▸qD
 refine sM Z<|sV (.d (aa.pd a1))<|bE h fun x3 h3 h=>cD (dl h3)<|sV (rB (!x3))<|sF h ?_ ?_<;>intro h
 ·refine sN<|cT<|gU Z<|sV (r0)<|sN<|qR ?_
  exact oI h▸qD
 refine sN<|cF<|qK<|WC.cI Z Z<|sV (.ptr 48 0)<|sV (.d (aa.pd a0.aI))<|bE h fun x5 h5 h=>cD (bM h5)<|sV (.ptr 48 3)<|sV (.d (aa.pd a0.aC))<|bE h fun x6 h6 h=>cD (bM h6)<|sB (.ptr 128 0) 128 (.var [r0,r0,r0])<|sB (.ptr 144 0) 144 (.var [r0,r0,r0])<|sV (r0) ?_
 refine sS 128 (.var [rI x5.a0,rI x5.a1,rI x5.a2])<|sS 144 (.var [rI x6.a0,rI x6.a1,rI x6.a2]) ?_
 refine sN<|sO<|qS<|gU Z<|sV (.d (aa.pd a1))<|bE h fun x7 h7 h=>cD (bM h7)<|sV (r0)<|sN<|WC.block (WC.loop ?_)
 refine WL.round<|WC.jW (R0:=[(2,.d (.raw (.func (.func 197) #[] #[]))),(7,r0),(8,.ptr 128 0),(9,.ptr 144 0),(28,.d (aS.pd x7)),(29,r0)]) (B0:=[(128,.var [rI x5.a0,rI x5.a1,rI x5.a2]),(144,.var [rI x6.a0,rI x6.a1,rI x6.a2])]) Z Z<|sT<|sN<|qS<|cT<|qK<|qS<|qB<|gU Z<|sM Z<|sV (rI x7.a0)<|sA Z<|sA Z<|sN ?_
 refine WC.cI Z Z<|sM Z<|sM Z<|sM Z<|sV (.ptr 128 0)<|sL Z<|sM Z<|sV (.ptr 144 0)<|sL Z<|bE h fun x8 h8 h=>cD (iE h8)<|sA Z ?_
 refine sN<|sO<|WC.region Z Z<|sM Z<|sM Z<|sM Z<|sV (rI (rW (x8*x8)))<|sV (rI (rW ((0:Int)+(rW (x8*x8)))))<|sA Z<|sN<|WC.region Z Z<|sV (rI 1)<|sM Z<|sN<|WL.round<|WC.jW (R0:=[(2,.d (.raw (.func (.func 197) #[] #[]))),(7,rI (rW ((0:Int)+(rW (x8*x8))))),(8,.ptr 128 0),(9,.ptr 144 0),(28,.d (aS.pd x7)),(29,rI 1)]) (B0:=[(128,.var [rI x5.a0,rI x5.a1,rI x5.a2]),(144,.var [rI x6.a0,rI x6.a1,rI x6.a2])]) Z Z ?_
 refine sT<|sN<|qS<|cT<|qK<|qS<|qB<|gU Z<|sM Z<|sV (rI x7.a1)<|sA Z<|sA Z<|sN<|WC.cI Z Z<|sM Z ?_
 refine sM Z<|sM Z<|sV (.ptr 128 1)<|sL Z<|sM Z<|sV (.ptr 144 1)<|sL Z<|bE h fun x9 h9 h=>cD (iE h9)<|sA Z ?_
 refine sN<|sO<|WC.region Z Z<|sM Z<|sM Z<|sM Z<|sV (rI (rW (x9*x9)))<|sV (rI (rW ((rW ((0:Int)+(rW (x8*x8))))+(rW (x9*x9)))))<|sA Z<|sN<|WC.region Z Z<|sV (rI 2)<|sM Z<|sN<|WL.round<|WC.jW (R0:=[(2,.d (.raw (.func (.func 197) #[] #[]))),(7,rI (rW ((rW ((0:Int)+(rW (x8*x8))))+(rW (x9*x9))))),(8,.ptr 128 0),(9,.ptr 144 0),(28,.d (aS.pd x7)),(29,rI 2)]) (B0:=[(128,.var [rI x5.a0,rI x5.a1,rI x5.a2]),(144,.var [rI x6.a0,rI x6.a1,rI x6.a2])]) Z Z ?_
 refine sT<|sN<|qS<|cT<|qK<|qS<|qB<|gU Z<|sM Z<|sV (rI x7.a2)<|sA Z<|sA Z<|sN<|WC.cI Z Z<|sM Z ?_
 refine sM Z<|sM Z<|sV (.ptr 128 2)<|sL Z<|sM Z<|sV (.ptr 144 2)<|sL Z<|bE h fun x10 h10 h=>cD (iE h10)<|sA Z ?_
 refine sN<|sO<|WC.region Z Z<|sM Z<|sM Z<|sM Z<|sV (rI (rW (x10*x10)))<|sV (rI (rW ((rW ((rW ((0:Int)+(rW (x8*x8))))+(rW (x9*x9))))+(rW (x10*x10)))))<|sA Z<|sN<|WC.region Z Z<|sV (rI 3)<|sM Z<|sN<|WL.round<|WC.jW (R0:=[(2,.d (.raw (.func (.func 197) #[] #[]))),(7,rI (rW ((rW ((rW ((0:Int)+(rW (x8*x8))))+(rW (x9*x9))))+(rW (x10*x10))))),(8,.ptr 128 0),(9,.ptr 144 0),(28,.d (aS.pd x7)),(29,rI 3)]) (B0:=[(128,.var [rI x5.a0,rI x5.a1,rI x5.a2]),(144,.var [rI x6.a0,rI x6.a1,rI x6.a2])]) Z Z ?_
 refine sU<|sN<|qS<|cF<|qX<|qE<|gU Z<|sM Z<|sA Z<|sN<|qR ?_
 exact oI h▸qD
theorem pb{a0:ag}{a1:aa}{r:Int}(h:gF a0 a1=some r):EvP prog az ext 112 [.d (ag.pd a0),.d (aa.pd a1)] [] (rI r,[]):=by
 refine Ev.body Z Tryz.func112 Z Zk<|gU Z<|sB (.ptr 32 0) 32 (.var (ag.rc a0))<|sB (.ptr 48 0) 48 (.var (aa.rc a1))<|sV (r0)<|sN<|gU Z<|sV (.d (ag.pd a0))<|sV (.d (aa.pd a1))<|bE h fun x1 h1 h=>cD (mV h1)<|sA Z<|sN<|qR ?_
 exact oI h▸qD
theorem bound_squares_ev{a0:aA}{a1:ag}{a2:aa}{r:aA×Int×Int}(h:ib a0 a1 a2=some r):EvP prog az ext 310 [.d (aA.pd a0),.d (ag.pd a1),.d (aa.pd a2)] [] (.tup [.d (aA.pd r.1),rI r.2.1,rI r.2.2],[]):=by
 refine Ev.body Z Tryz.func310 Z Zk<|gU Z<|sB (.ptr 48 0) 48 (.var (aA.rc a0))<|sB (.ptr 64 0) 64 (.var (ag.rc a1))<|sB (.ptr 80 0) 80 (.var (aa.rc a2))<|sB (.ptr 96 0) 96 (.var [r0,.dO,.dO])<|sV (r0)<|sV (r0)<|sN<|WC.cI Z Z<|sV (.d (aA.pd a0))<|sV (.d (ag.pd a1))<|sV (.d (aa.pd a2))<|bE h fun x1 h1 h=>cD (lj h1) ?_
 refine sV (.d (ag.pd a1))<|sV (.d (aa.pd a2))<|bE h fun x2 h2 h=>cD (pb h2)<|sS 96 (.var (aA.rc a0))<|sA Z<|sA Z ?_
 refine sN<|sO<|qR ?_
 exact oI h▸qD
theorem bits_Len64_ev{a0:Int}{r:Int}(h:mU a0=some r):EvP prog az ext 217 [.d (.int .u64 a0)] [] (rI r,[]):=by
 refine Ev.body Z Tryz.func217 Z Zk<|gU Z<|sV (r0)<|sN<|WC.join (α:=Int×Int) (fun x R' B'=>dN prog 0 (A R' B') (az.at_ 217 0 4)=some (A [(0,.d (.int .u64 x.1)),(2,rI x.2)] [])) (fun x=>ge x.1 x.2=some r) ?_ ?_
 ·refine gU Z<|sM Z<|sF h ?_ ?_<;>intro h
  ·exact sN<|cT<|gS rfl rfl<|sM rfl<|sV (.d (.int .u64 (jf .u64 a0 (32:Int))))<|sA rfl<|sN<|WC.region rfl rfl<|sV (rI 32)<|sN<|⟨((jf .u64 a0 (32:Int)),32),rfl,h⟩
  exact sN<|cF<|qK<|⟨(a0,0),rfl,h⟩
 rintro⟨j1,j2⟩ R' B' hI h
 refine WC.join (α:=Int×Int) (fun x R' B'=>dN prog 0 (A R' B') (az.at_ 217 0 7)=some (A [(0,.d (.int .u64 x.1)),(2,rI x.2)] [])) (fun x=>hY x.1 x.2=some r) ?_ ?_
 ·refine gS Z hI<|sM Z<|sF h ?_ ?_<;>intro h
  ·exact sN<|cT<|gS rfl rfl<|sM rfl<|sV (.d (.int .u64 (jf .u64 j1 (16:Int))))<|sA rfl<|sN<|WC.region rfl rfl<|sM rfl<|sV (rI (rW (j2+(16:Int))))<|sA rfl<|sN<|⟨((jf .u64 j1 (16:Int)),(rW (j2+(16:Int)))),rfl,h⟩
  exact sN<|cF<|qK<|⟨(j1,j2),rfl,h⟩
 rintro⟨j3,j4⟩ R' B' hI h
 refine qS<|gS Z hI<|sM Z<|sF h ?_ ?_<;>intro h
 ·refine sN<|cT<|gU Z<|sM Z<|sV (.d (.int .u64 (jf .u64 j3 (8:Int))))<|sA Z<|sN<|WC.region Z Z<|sM Z<|sV (rI (rW (j4+(8:Int))))<|sA Z<|sN<|gU Z<|sM Z<|sM Z ?_
  refine sV (.d (.int .u8 (IntKind.wrap .u8 (jf .u64 j3 (8:Int)))))<|bE h fun x6 h6 h=>WO.xl h6 Z Z Z Z Z Z<|sV (rI (IntKind.wrap .i64 x6))<|sV (rI (rW ((rW (j4+(8:Int)))+(IntKind.wrap .i64 x6))))<|sA Z<|sN<|qR ?_
  exact oI h▸qD
 refine sN<|cF<|qK<|gU Z<|sM Z<|sM Z<|sV (.d (.int .u8 (IntKind.wrap .u8 j3)))<|bE h fun x7 h7 h=>WO.xl h7 Z Z Z Z Z Z<|sV (rI (IntKind.wrap .i64 x7))<|sV (rI (rW (j4+(IntKind.wrap .i64 x7))))<|sA Z<|sN<|qR ?_
 exact oI h▸qD
theorem pu{a0:Int}{r:Int}(h:gd a0=some r):EvP prog az ext 136 [.d (.int .u64 a0)] [] (rI r,[]):=by
 refine Ev.body Z Tryz.func136 Z Zk<|gU Z<|sV (r0)<|sN<|qS<|cF<|qK<|gU Z<|sM Z<|bE h fun x1 h1 h=>cD (bits_Len64_ev h1)<|sA Z<|sN<|qR ?_
 exact oI h▸qD
theorem nu{a0:Int}{r:Int}(h:ff a0=some r):EvP prog az ext 280 [rI a0] [] (rI r,[]):=by
 refine Ev.body Z Tryz.func280 Z Zk<|gU Z<|sV (r0)<|sN<|qS<|gU Z<|sM Z<|sF h ?_ ?_<;>intro h
 ·refine sN<|cT<|gU Z<|sV (r0)<|sN<|qR ?_
  exact oI h▸qD
 refine sN<|cF<|qK<|gU Z<|sV (r0)<|sN<|qS<|gU Z<|sM Z<|sV (.d (.int .u64 (IntKind.wrap .u64 a0)))<|bE h fun x2 h2 h=>cD (pu h2)<|sV (rI (rW (x2-(1:Int))))<|bE h fun x3 h3 h=>WO.uL h3 Z Z Z Z Z Z ?_
 refine bE h fun x4 h4 h=>WO.shlG h4 Z Z Z Z Z<|sA Z<|sN<|bE h fun o13 ho13 h=>WC.block (WC.loop (WL.fV ho13 (fun s R' B'=>dN prog 0 (A R' B') (az.at_ 280 0 5)=some (A [(0,rI a0),(3,rI s.1),(4,rI s.2)] [])) (fun o e R' B'=>e= .exit 0∧dN prog 0 (A R' B') (az.at_ 280 0 10)=some (A [(3,rI o)] [])) Z ?_ ?_))
 ·rintro⟨s5,s6⟩ R' B' q8 hI h
  refine qS<|gS Z hI<|sM Z<|sF h ?_ ?_<;>intro h
  ·refine sN<|cT<|qK<|qS<|qB<|gU Z<|sM Z<|sM Z<|sV (rI (orI .i64 s5 s6))<|sA Z<|sN<|gU Z<|sM Z<|sM Z<|sM Z ?_
   refine bE h fun x10 h10 h=>WO.uL h10 Z Z Z Z Z Z<|sF h ?_ ?_<;>intro h
   ·refine sN<|cT<|WC.region Z Z<|sM Z<|sA Z<|sN<|WC.region Z Z<|sM Z<|sV (rI (jf .i64 s6 (1:Int)))<|sA Z<|sN ?_
    cases oI h
    exact⟨rfl,rfl⟩
   refine sN<|cF<|qK<|WC.region Z Z<|sM Z<|sV (rI (jf .i64 s6 (1:Int)))<|sA Z<|sN ?_
   cases oI h
   exact⟨rfl,rfl⟩
  refine sN<|cF<|qX ?_
  cases oI h
  exact⟨nofun,rfl,rfl⟩
 intro e R' B' he hq
 obtain⟨rfl,hI⟩:=hq
 refine qE<|gS Z hI<|sM Z<|sA Z<|sN<|qR ?_
 exact oI h▸qD
theorem geometry_Ceil_ev{a0:Int}{r:Int}(h:ie a0=some r):EvP prog az ext 276 [rI a0] [] (rI r,[]):=by
 refine Ev.body Z Tryz.func276 Z Zk<|gU Z<|sV (r0)<|sN<|gU Z<|sM Z<|bE h fun x1 h1 h=>cD (nu h1)<|sA Z<|sN<|qS<|gU Z<|sM Z<|sM Z<|sV (rI (rW (x1*x1))) ?_
 refine sM Z<|sF h ?_ ?_<;>intro h
 ·refine sN<|cT<|WC.region Z Z<|sM Z<|sV (rI (rW (x1+(1:Int))))<|sA Z<|sN<|gU Z<|sM Z<|sA Z<|sN<|qR ?_
  exact oI h▸qD
 refine sN<|cF<|qK<|gU Z<|sM Z<|sA Z<|sN<|qR ?_
 exact oI h▸qD
theorem travel_reach_ev{a0:aA}{r:Int}(h:kY a0=some r):EvP prog az ext 277 [.d (aA.pd a0)] [] (rI r,[]):=by
 refine Ev.body Z Tryz.func277 Z Zk<|gU Z<|sB (.ptr 16 0) 16 (.var (aA.rc a0))<|sV (r0)<|sN<|gU Z<|sV (.ptr 16 0)<|sL Z<|sV (.ptr 16 1)<|sL Z<|sE (rI (a0.aI.length:Int)) (dX _ _)<|sV (rI (rW ((a0.aI.length:Int)-(1:Int))))<|sV (rI (rW (a0.aZ*(rW ((a0.aI.length:Int)-(1:Int))))))<|sA Z<|sN ?_
 refine qR ?_
 exact oI h▸qD
theorem oY{a0:Int}{d0:aA}{d1:Int}{r:Bool}(h:gc a0 d0 d1=some r):EvP prog az ext 279 [rI a0,.ptr 0 0,.ptr 1 0] [.var (aA.rc d0),.var [rI d1]] (rB r,[.var (aA.rc d0),.var [rI d1]]):=by
 refine Ev.body Z Tryz.func279 Z Zk<|gU Z<|sU<|sN<|gU Z<|sM Z<|sV (.ptr 0 0)<|sL Z<|sV (rI (rW (a0*d0.aZ)))<|sL Z<|sV (rB (decide ((rW (a0*d0.aZ))>=d1)))<|sA Z<|sN<|qR ?_
 exact oI h▸qD
theorem qv{a0:Int}{d0:aA}{d1:Int}{r:Int}(h:dF a0 d0 d1=some r):EvP prog az ext 278 [rI a0,.clo 279 [.ptr 0 0,.ptr 1 0]] [.var (aA.rc d0),.var [rI d1]] (rI r,[.var (aA.rc d0),.var [rI d1]]):=by
 refine Ev.body Z Tryz.func278 Z Zk<|gU Z<|sV (r0)<|sN<|gU Z<|sM Z<|sV (r0)<|sA Z<|sN<|qS<|bE h fun o9 ho9 h=>WC.block (WC.loop (WL.fV ho9 (fun s R' B'=>dN prog 2 (A R' B') (az.at_ 278 2 2)=some (A [(1,.clo 279 [.ptr 0 0,.ptr 1 0]),(5,rI s.1),(6,rI s.2)] [(0,.var (aA.rc d0)),(1,.var [rI d1])])) (fun o e R' B'=>e= .exit 0∧dN prog 2 (A R' B') (az.at_ 278 2 7)=some (A [(5,rI o)] [(0,.var (aA.rc d0)),(1,.var [rI d1])])) Z ?_ ?_))
 ·rintro⟨s1,s2⟩ R' B' q4 hI h
  refine qS<|gS Z hI<|sM Z<|sM Z<|sF h ?_ ?_<;>intro h
  ·refine sN<|cT<|qK<|qB<|gU Z<|sM Z<|sM Z<|sV (rI (rW (s1+s2)))<|sV (.d (.int .u64 (IntKind.wrap .u64 (rW (s1+s2)))))<|sV (.d (.int .u64 (jf .u64 (IntKind.wrap .u64 (rW (s1+s2))) (1:Int))))<|sV (rI (rW (jf .u64 (IntKind.wrap .u64 (rW (s1+s2))) (1:Int))))<|sA Z<|sN<|gU Z<|sM Z ?_
   refine sM Z<|bE h fun x6 h6 h=>cR (rB x6) [(0,.var (aA.rc d0)),(1,.var [rI d1])] (oY h6)<|sF h ?_ ?_<;>intro h
   ·refine sN<|cT<|WC.region Z Z<|sM Z<|sV (rI (rW ((rW (jf .u64 (IntKind.wrap .u64 (rW (s1+s2))) (1:Int)))+(1:Int))))<|sA Z<|sN ?_
    cases oI h
    exact⟨rfl,rfl⟩
   refine sN<|cF<|WC.region Z Z<|sM Z<|sA Z<|sN ?_
   cases oI h
   exact⟨rfl,rfl⟩
  refine sN<|cF<|qX ?_
  cases oI h
  exact⟨nofun,rfl,rfl⟩
 intro e R' B' he hq
 obtain⟨rfl,hI⟩:=hq
 refine qE<|gS Z hI<|sM Z<|sA Z<|sN<|qR ?_
 exact oI h▸qD
theorem nL{a0:aA}{a1:Int}{a2:Int}{r:Int×Int×Int}(h:bZ a0 a1 a2=some r):EvP prog az ext 191 [.d (aA.pd a0),rI a1,rI a2] [] (.tup [rI r.1,rI r.2.1,rI r.2.2],[]):=by
 refine Ev.body Z Tryz.func191 Z Zk<|gU Z<|sB (.ptr 48 0) 48 (.var (aA.rc a0))<|sV (r0)<|sV (r0)<|sV (r0)<|sN<|qS<|gU Z<|sV (.d (aA.pd a0))<|bE h fun x1 h1 h=>cD (dZ h1)<|sF h ?_ ?_<;>intro h
 ·refine sN<|cT<|gU Z<|sV (r0)<|sV (r0)<|sV (rI 21)<|sN<|qR ?_
  exact oI h▸qD
 refine sN<|cF<|qK<|qS<|gU Z<|sM Z<|sF h ?_ ?_<;>intro h
 ·refine sM Z<|k3<|sT<|sN<|cT<|gU Z<|sV (r0)<|sV (r0)<|sV (rI 2)<|sN<|qR ?_
  exact oI h▸qD
 refine sM Z<|sM Z<|sM Z<|sV (rB (decide (a1>a2)))<|sF h ?_ ?_<;>intro h
 ·refine sN<|cT<|gU Z<|sV (r0)<|sV (r0)<|sV (rI 2)<|sN<|qR ?_
  exact oI h▸qD
 refine sN<|cF<|qK<|gU Z<|sM Z<|bE h fun x5 h5 h=>cD (geometry_Ceil_ev h5)<|sB (.ptr 144 0) 144 (.var [r0])<|sS 144 (.var [rI x5])<|sN<|qS<|WC.cI Z Z<|sL Z<|sV (.d (aA.pd a0))<|bE h fun x6 h6 h=>?_
 refine cD (travel_reach_ev h6)<|sF h ?_ ?_<;>intro h
 ·refine sN<|sO<|cT<|gU Z<|sV (r0)<|sV (r0)<|sV (rI 22)<|sN<|qR ?_
  exact oI h▸qD
 refine sN<|sO<|cF<|qK<|gU Z<|sV (.ptr 48 2)<|sL Z<|sE (rI (a0.aC.length:Int)) (dX _ _)<|sV (.clo 279 [.ptr 48 0,.ptr 144 0])<|bE h fun x8 h8 h=>cR (rI x8) [(48,.var (aA.rc a0)),(144,.var [rI x5])] (qv h8)<|sA Z<|sN<|WC.cI Z Z<|sV (.ptr 48 1)<|sL Z ?_
 refine sM Z<|bE h fun x9 h9 h=>cD (nu h9)<|sV (.ptr 48 0)<|sL Z<|bE h fun x10 h10 h=>WO.uL h10 Z Z Z Z Z Z<|bE h fun x11 h11 h=>eG h11 Z<|sC Z<|sV (.ptr 48 2)<|sL Z<|sM Z<|bE h fun x12 h12 h=>eG h12 Z ?_
 refine sC Z<|sA Z<|sA Z<|sV (r0) ?_
 refine sN<|sO<|qR ?_
 exact oI h▸qD
theorem rt{a0:aA}{a1:ag}{a2:aa}{r:Int×Int×Int}(h:d8 a0 a1 a2=some r):EvP prog az ext 246 [.d (aA.pd a0),.d (ag.pd a1),.d (aa.pd a2)] [] (.tup [rI r.1,rI r.2.1,rI r.2.2],[]):=by
 refine Ev.body Z Tryz.func246 Z Zk<|gU Z<|sB (.ptr 48 0) 48 (.var (aA.rc a0))<|sB (.ptr 64 0) 64 (.var (ag.rc a1))<|sB (.ptr 80 0) 80 (.var (aa.rc a2))<|sV (r0)<|sV (r0)<|sV (r0)<|sN<|qS<|gU Z<|sV (.d (aA.pd a0))<|bE h fun x1 h1 h=>cD (dZ h1)<|sA Z ?_
 refine sN<|gU Z<|sM Z<|sF h ?_ ?_<;>intro h
 ·refine sN<|cT<|gU Z<|sM Z<|sV (r0)<|sV (r0)<|sA Z<|sN<|qR ?_
  exact oI h▸qD
 refine sN<|cF<|qK<|qS<|gU Z<|sV (.d (ag.pd a1))<|bE h fun x3 h3 h=>cD (bF h3)<|sF h ?_ ?_<;>intro h
 ·refine sM Z<|k3<|sT<|sN<|cT<|gU Z<|sV (r0)<|sV (r0)<|sV (rI 20)<|sN<|qR ?_
  exact oI h▸qD
 refine sM Z<|sV (.d (aa.pd a2))<|bE h fun x5 h5 h=>cD (dl h5)<|sV (rB (!x5))<|sF h ?_ ?_<;>intro h
 ·refine sN<|cT<|gU Z<|sV (r0)<|sV (r0)<|sV (rI 20)<|sN<|qR ?_
  exact oI h▸qD
 refine sN<|cF<|qK<|gU Z<|sV (.d (aA.pd a0))<|sV (.d (ag.pd a1))<|sV (.d (aa.pd a2))<|bE h fun x7 h7 h=>cR (.tup [.d (aA.pd x7.1),rI x7.2.1,rI x7.2.2]) [] (bound_squares_ev h7)<|sV (.d (aA.pd x7.1))<|sV (rI x7.2.1)<|sV (rI x7.2.2)<|bE h fun x8 h8 h=>cR (.tup [rI x8.1,rI x8.2.1,rI x8.2.2]) [] (nL h8)<|sV (rI x8.1) ?_
 refine sV (rI x8.2.1)<|sV (rI x8.2.2)<|sA Z<|sA Z<|sA Z<|sN<|qR ?_
 exact oI h▸qD
theorem lG{a0:aA}{a1:ag}{a2:aj}{r:aK×Int}(h:du a0 a1 a2=some r):EvP prog az ext 158 [.d (aA.pd a0),.d (ag.pd a1),.d (aj.pd a2)] [] (.tup [.d (aK.pd r.1),rI r.2],[]):=by
 refine Ev.body Z Tryz.func158 Z Zk<|gU Z<|sB (.ptr 48 0) 48 (.var (aA.rc a0))<|sB (.ptr 64 0) 64 (.var (ag.rc a1))<|sB (.ptr 80 0) 80 (.var (aj.rc a2))<|sB (.ptr 96 0) 96 (.var [r0,r0])<|sV (r0)<|sN<|qS<|gU Z<|sV (.d (aA.pd a0))<|bE h fun x1 h1 h=>cD (dZ h1)<|sA Z<|sN ?_
 refine gU Z<|sM Z<|sF h ?_ ?_<;>intro h
 ·refine sN<|cT<|gU Z<|sV (.d (aK.pd (aK.mk 0 0)))<|sM Z<|sS 96 (.var [r0,r0])<|sA Z<|sN<|qR ?_
  exact oI h▸qD
 refine sN<|cF<|qK<|qS<|gU Z<|sV (.d (ag.pd a1))<|bE h fun x3 h3 h=>cD (bF h3)<|sF h ?_ ?_<;>intro h
 ·refine sN<|cT<|gU Z<|sV (.d (aK.pd (aK.mk 0 0)))<|sS 96 (.var [r0,r0])<|sV (rI 20)<|sN<|qR ?_
  exact oI h▸qD
 refine sN<|cF<|qK<|qS<|gU Z<|sV (.d (aj.pd a2))<|bE h fun x5 h5 h=>cD (qj h5)<|sF h ?_ ?_<;>intro h
 ·refine sN<|cT<|gU Z<|sV (.d (aK.pd (aK.mk 0 0)))<|sS 96 (.var [r0,r0])<|sV (rI 23)<|sN<|qR ?_
  exact oI h▸qD
 refine sN<|cF<|qK<|gU Z<|sV (.d (aA.pd a0))<|sV (.d (ag.pd a1))<|sV (.ptr 80 0)<|sV (.d (aa.pd a2.aN))<|bE h fun x7 h7 h=>cR (.tup [rI x7.1,rI x7.2.1,rI x7.2.2]) [] (rt h7)<|sM Z<|sV (rI x7.1)<|sV (rI x7.2.1)<|sV (rI x7.2.2)<|sA Z ?_
 refine sA Z<|sA Z<|sN<|qS<|gU Z<|sM Z<|sF h ?_ ?_<;>intro h
 ·refine sN<|cT<|gU Z<|sV (.d (aK.pd (aK.mk 0 0)))<|sM Z<|sS 96 (.var [r0,r0])<|sA Z<|sN<|qR ?_
  exact oI h▸qD
 refine sN<|cF<|qK<|gU Z<|sV (.ptr 80 3)<|sL Z<|sM Z<|sV (rI (rW (a2.aQ-x7.2.1)))<|sV (.ptr 80 4)<|sL Z<|sM Z<|sV (rI (rW (a2.bw-x7.1)))<|sV (.d (aK.pd (aK.mk (rW (a2.aQ-x7.2.1)) (rW (a2.bw-x7.1)))))<|sS 96 (.var [rI (rW (a2.aQ-x7.2.1)),rI (rW (a2.bw-x7.1))])<|sV (r0) ?_
 refine sN<|qR ?_
 exact oI h▸qD
end Go.Dw.Em
